/- Merged: Pv2, Pv2b, Pv4, So, Hs, Ne9, Hr, Ne10, Ne30, Ha, Qv, Qw, Pv5, Pv6, Pv7, Qr, Qs, Ne31, Ne32, Hx, Hy, Ne33, Ne34, Ne35, Ne36, Ne37, Ne38, Qx, Qy. -/
import Derived.Test.YtnfljbehcffmcaaGreatM4RefineFinds
import Derived.Test.YtnfljbehcffmcaaGreatM2RefineFinds
import Derived.Shelf.Sort.Plain
import Derived.Shelf.Slices.In.SortNone
import Derived.Sort.OwnSortedInts
import Derived.Test.YtnfljbehcffmcaaGreatM3RefineFinds
open Int renaming toNat_natCast → ze, le_refl → zm, toNat → zC, mul_nonneg → zF, mul_le_mul_of_nonneg_right → zN, lt_irrefl → ya, le_of_lt → y8, dvd_zero → xB, le_trans → xU, min_eq_right → xW, min_eq_left → wM
open Nat renaming beq → zf, le_refl → zn, lt_succ_self → zJ, le_trans → zK, add_mul → yd, not_lt_zero → yG, mul_le_mul_right → yL, lt_succ_iff_lt_or_eq → y9, mul_one → xz, sub_self → xS
open SizeOf renaming sizeOf → zg
open Bool renaming cond_decide → zh, and_eq_true → zi, false_eq_true → yA, true_and → wA, true → O, false → S
open List renaming length_append → zj, mem_cons_self → zo, getElem?_eq_getElem → zu, all_eq_true → zw, length_map → zx, mem_singleton → zy, take_length → zB, mem_cons → zD, length_take → zH, mem_map → zL, range → zM, mem_cons_of_mem → zO, length → zP, mem_append → zW, map_congr_left → zX, mem_filter → zZ, map_append → z8, map_cons → ye, drop → yf, length_filter_le → yh, length_drop → ym, length_set → yo, nil_append → yw, append_nil → yy, length_nil → yB, getElem?_drop → yD, length_singleton → yH, mem_append_left → yJ, mem_append_right → yK, append_assoc → yR, map_nil → yS, filter_cons → yU, getElem_map → yY, getElem_of_mem → yZ, filter_append → y7, length_eq_zero_iff → xg, cons_append → xo, drop_eq_getElem_cons → xu, map_drop → xJ, getElem_mem → xM, map_take → xQ, take_zero → xR, filter_nil → xZ, getElem_take → we, mem_of_mem_drop → wg, attach_map_val → wv, foldl_append → wz, ext_getElem → wB, getElem_drop → wG, getElem?_take_of_lt → wN
open Option renaming some → zA, some → V, none → G
open Array renaming getElem?_eq_some_iff → xE
open Decidable renaming decide → J
open Go.Proofs.Tryz renaming prog → w9
open Go.Proofs.Tryz
set_option linter.unusedSectionVars false
set_option linter.unusedVariables false
set_option linter.unusedSimpArgs false
set_option linter.defProp false
noncomputable section
set_option maxRecDepth 100000
namespace Go.Proofs.YtnfljbehcffmcaaGreat
open Go Go.Iv
open Go.IntKind (i64 u64)
def adB(o:Int):Lx o=cq o:=by
 unfold Lx cq;simp only[zh];grind
def aiL(o:Int):Gk o=if o=25 then-2 else(cq o).1:=by
 unfold Gk cq;simp only[zh];grind (splits:=40)
def aet(M:aa aX->au->Bool->af rY)(vars:aa aX)(inp:Bool)(t:au)(hM:∀k∈t.aq,M vars k inp=V (dJ vars inp k)):ajr M vars t inp=V (dJ vars inp t):=by
 have key:t.aq.length<=1000000->∃i:Nat,A4 M ⟨vars,inp,t.aq,(t.aq.length:Int),0⟩=V ⟨vars,inp,t.aq,(t.aq.length:Int),(i:Int)⟩/\((i=t.aq.length/\t.aq.all (dJ vars inp)=O)\/(i<t.aq.length/\dJ vars inp t.aq[i]! =S/\t.aq.all (dJ vars inp)=S)):=λhl=>by
  obtain⟨i,e1,hc⟩:=p6 (rnd:=J7 M) t.aq (λi=>⟨vars,inp,t.aq,(t.aq.length:Int),(i:Int)⟩) (λ_ k=>dJ vars inp k) (λi hi=>by
   have hw:=fu hi hl;have hk:=hM _ (bh hi);unfold J7;dsimp only;simp only[zh,ze,au.eta,hk,hw];cases dJ vars inp t.aq[i]! <;>simp[hi]) (by unfold J7;simp)
  refine⟨i,e1,?_⟩;rcases hc with ⟨rfl,hc⟩|⟨hi,hc⟩
  ·exact .inl ⟨rfl,Fs hc⟩
  ·exact .inr ⟨hi,hc,uU hi hc⟩
 unfold ajr;rw[adB,lI];unfold Bw;by_cases hn:0<=(cq t.bF).1/\(cq t.bF).1<=t.aq.length/\(t.aq.length:Int)<=(cq t.bF).2
 ·have h33:(cq t.bF).2<=33:=by unfold cq;grind
  obtain⟨i,e,hc⟩:=key (by omega);rw[bY hn,bX (show ¬(cq t.bF).1<0 by omega),bX (show ¬(t.aq.length:Int)<(cq t.bF).1 by omega),bX (show ¬(cq t.bF).2<(t.aq.length:Int)by omega),e];generalize t.aq.all (dJ vars inp)=A at hc;simp only[zh,ze,bB,wA];rcases hc with ⟨rfl,rfl⟩|⟨hi,h2,rfl⟩
  ·cases inp<;>grind
  ·have hk:=hM _ (bh hi);simp only[au.eta,hk,h2];cases inp<;>grind
 ·rw[bX hn];simp only[zh];grind
def Vi(vars:aa aX)(inp:Bool):∀(n:Nat) (t:au),zg t<n->OS n vars t inp=V (dJ vars inp t)
 |0,_,h=>by omega
 |n+1,t,h=>aet (OS n) vars inp t (λk hk=>Vi vars inp n k (by have:=au.fm hk;omega))
def ac9(vars:aa aX)(inp:Bool)(t:au):ajd vars t inp=V (dJ vars inp t):=fe (zg t+1) λn hn=>Vi vars inp n t (by omega)
def agk(M:aa aX->au->Bool->af sg)(vars:aa aX)(inp:Bool)(t:au)(hM:∀k∈t.aq,M vars k inp=V (dJ vars inp k)):ajK M vars t inp=V (dJ vars inp t):=by
 have key:t.aq.length<=1000000->∃i:Nat,DS M ⟨vars,inp,0,t⟩=V ⟨vars,inp,(i:Int),t⟩/\((i=t.aq.length/\t.aq.all (dJ vars inp)=O)\/(i<t.aq.length/\dJ vars inp t.aq[i]! =S/\t.aq.all (dJ vars inp)=S)):=λhl=>by
  obtain⟨i,e1,hc⟩:=p6 (rnd:=IQ M) t.aq (λi=>⟨vars,inp,(i:Int),t⟩) (λ_ k=>dJ vars inp k) (λi hi=>by
   have hw:=fu hi hl;have hk:=hM _ (bh hi);unfold IQ;dsimp only;simp only[zh,ze,au.eta,hk,hw];cases dJ vars inp t.aq[i]! <;>simp[hi]) (by unfold IQ;simp)
  refine⟨i,e1,?_⟩;rcases hc with ⟨rfl,hc⟩|⟨hi,hc⟩
  ·exact .inl ⟨rfl,Fs hc⟩
  ·exact .inr ⟨hi,hc,uU hi hc⟩
 unfold ajK;rw[aiL,lI];unfold Bw;have hk0:(cq t.bF).1= -1\/0<=(cq t.bF).1:=by unfold cq;grind
 have hk1:t.bF≠25->(cq t.bF).1=(cq t.bF).2:=by unfold cq;grind
 have hk2:t.bF=25->cq t.bF=(2,33):=by unfold cq;grind
 have h33:(cq t.bF).2<=33:=by unfold cq;grind
 have hk3:t.bF=25->(cq t.bF).1=2/\(cq t.bF).2=33:=λh=>by rw[hk2 h];exact⟨rfl,rfl⟩
 generalize (cq t.bF).1=a at*;generalize (cq t.bF).2=b at*;by_cases hn:0<=a/\a<=t.aq.length/\(t.aq.length:Int)<=b
 ·obtain⟨i,e,hc⟩:=key (by omega);rw[bY hn,au.eta,e];generalize t.aq.all (dJ vars inp)=A at hc;simp only[zh,ze,wA];rcases hc with ⟨rfl,rfl⟩|⟨hi,h2,rfl⟩
  ·cases inp<;>grind
  ·have hk:=hM _ (bh hi);simp only[au.eta,hk,h2];clear hM key e hk h2 hk2 hk0;by_cases h25:t.bF=25
   ·rw[bE h25,h25];cases inp<;>grind (splits:=30)
   ·rw[bO h25];have:=hk1 h25;subst this;rw[bO (show ¬a= -1 by omega),bE (show 0<=a by omega),bE (show (t.aq.length:Int)=a by omega),bO (show ¬a= -2 by omega)];dsimp only[bB,bC];cases inp<;>grind (splits:=30)
 ·rw[bX hn];simp only[zh];grind
def UJ(vars:aa aX)(inp:Bool):∀(n:Nat) (t:au),zg t<n->Qi n vars t inp=V (dJ vars inp t)
 |0,_,h=>by omega
 |n+1,t,h=>agk (Qi n) vars inp t (λk hk=>UJ vars inp n k (by have:=au.fm hk;omega))
def aiH(vars:aa aX)(inp:Bool)(t:au):agF vars t inp=V (dJ vars inp t):=fe (zg t+1) λn hn=>UJ vars inp n t (by omega)
def Gc(s:Span):Prop:= -1048576<=s.ag/\s.ag<=s.ah/\s.ah<=1048576
def Cn(a b:Span):VL a b=fS a b:=rfl
def pP{a b:Int}(h1: -1048576<=a)(h2:a<=1048576)(h3: -1048576<=b)(h4:b<=1048576): -1099511627776<=a*b/\a*b<=1099511627776:=by
 have e1:(1048576-a)*(1048576-b)≥0:=zF (by omega) (by omega);have e2:(1048576+a)*(1048576+b)≥0:=zF (by omega) (by omega);have e3:(1048576-a)*(1048576+b)≥0:=zF (by omega) (by omega);have e4:(1048576+a)*(1048576-b)≥0:=zF (by omega) (by omega);grind
def aeq(a b:Span)(ha:Gc a)(hb:Gc b):ad8 a b=V (fS (fS (fS ⟨a.ag*b.ag,a.ag*b.ag⟩ ⟨a.ag*b.ah,a.ag*b.ah⟩) ⟨a.ah*b.ag,a.ah*b.ag⟩) ⟨a.ah*b.ah,a.ah*b.ah⟩):=by
 unfold Gc at ha hb;have w1:vV a.ag b.ag=a.ag*b.ag:=by have:=pP (a:=a.ag) (b:=b.ag) (by omega) (by omega) (by omega) (by omega);exact aG
 have w2:vV a.ag b.ah=a.ag*b.ah:=by have:=pP (a:=a.ag) (b:=b.ah) (by omega) (by omega) (by omega) (by omega);exact aG
 have w3:vV a.ah b.ag=a.ah*b.ag:=by have:=pP (a:=a.ah) (b:=b.ag) (by omega) (by omega) (by omega) (by omega);exact aG
 have w4:vV a.ah b.ah=a.ah*b.ah:=by have:=pP (a:=a.ah) (b:=b.ah) (by omega) (by omega) (by omega) (by omega);exact aG
 unfold ad8;rw[w1,w2,w3,w4];generalize a.ag*b.ag=p;generalize a.ag*b.ah=q;generalize a.ah*b.ag=r;generalize a.ah*b.ah=s;have e:EH ⟨[q,r,s],(3:Int),0,⟨0,0⟩,⟨p,p⟩⟩=V ⟨[q,r,s],3,3,⟨0,0⟩,fS (fS (fS ⟨p,p⟩ ⟨q,q⟩) ⟨r,r⟩) ⟨s,s⟩⟩:=by
  have k1:oW ⟨[q,r,s],(3:Int),0,⟨0,0⟩,⟨p,p⟩⟩=V (V ⟨[q,r,s],(3:Int),1,⟨0,0⟩,fS ⟨p,p⟩ ⟨q,q⟩⟩):=by unfold oW;simp[Cn,aG]
  have k2:oW ⟨[q,r,s],(3:Int),1,⟨0,0⟩,fS ⟨p,p⟩ ⟨q,q⟩⟩=V (V ⟨[q,r,s],(3:Int),2,⟨0,0⟩,fS (fS ⟨p,p⟩ ⟨q,q⟩) ⟨r,r⟩⟩):=by unfold oW;simp[Cn,aG]
  have k3:oW ⟨[q,r,s],(3:Int),2,⟨0,0⟩,fS (fS ⟨p,p⟩ ⟨q,q⟩) ⟨r,r⟩⟩=V (V ⟨[q,r,s],(3:Int),3,⟨0,0⟩,fS (fS (fS ⟨p,p⟩ ⟨q,q⟩) ⟨r,r⟩) ⟨s,s⟩⟩):=by unfold oW;simp[Cn,aG]
  unfold EH;rw[bM k1,bM k2,bM k3];exact b9 λr=>by unfold oW;simp
 rw[show (([q,r,s]:aa Int).length:Int)=3 from rfl,e];simp
def adZ{a b:Span}(ha:Gc a)(hb:Gc b):Gc (fS a b):=by
 unfold Gc fS at*;grind
def me:∀(l:aa Span) (a:Span),Gc a->(∀x∈l,Gc x)->Gc (l.foldl fS a)
 |[],a,ha,_=>ha
 |x::l,a,ha,h=>me l (fS a x) (adZ ha (h x (zo ..))) λy hy=>h y (zO _ hy)
def Wv(l:aa Span)(hl:l.length<=1000000)(z a:Span):Fg ⟨l,(l.length:Int),0,z,a⟩=V ⟨l,(l.length:Int),(l.length:Int),z,l.foldl fS a⟩:=by
 obtain⟨v,e1,hv⟩:=dc (rnd:=KO) l.length (λi (b:Span)=>⟨l,(l.length:Int),(i:Int),z,b⟩) (λi b=>b=(l.take i).foldl fS a) (λi b hi hb=>by
  have hw:=fu hi hl;refine⟨fS b l[i]!,?_,?_⟩
  ·unfold KO;dsimp only;simp only[zh,ze,Cn,hw];grind
  ·rw[bK hi,wz,hb];rfl) (λb _=>by unfold KO;simp) (b:=a) rfl
 rw[zB]at hv;rw[<-hv];exact e1
def FE(vars:aa aX)(t:au)(k:aa Span):Prop:=(0<=(cq t.bF).1/\(cq t.bF).1<=k.length/\(k.length:Int)<=(cq t.bF).2)/\(t.bF=24->0<=t.fN/\t.fN<vars.length)/\∀s∈k,Gc s
def af3(vars:aa aX)(t:au)(k:aa Span)(h:FE vars t k):akp vars t k=V (iP vars t k):=by
 obtain⟨hk,h24,hI⟩:=h;have h0:1<=(cq t.bF).1->Gc k[0]! :=λh=>hI _ (bh (by omega));have h1:2<=(cq t.bF).1->Gc k[1]! :=λh=>hI _ (bh (by omega));have h33:(cq t.bF).2<=33:=by unfold cq;grind
 have hd:(k.drop 2).length<=1000000:=by rw[ym];omega
 have W:∀n:Int,-8796093022208<=n->n<=8796093022208->i64.wrap n=n:=λn a b=>aG;unfold akp iP;rw[Wv _ hd];have cs:t.bF=0\/t.bF=24\/t.bF=6\/t.bF=8\/t.bF=9\/t.bF=10\/t.bF=11\/t.bF=12\/t.bF=21\/t.bF=22\/t.bF=23\/t.bF=25\/(t.bF≠0/\t.bF≠24/\t.bF≠6/\t.bF≠8/\t.bF≠9/\t.bF≠10/\t.bF≠11/\t.bF≠12/\t.bF≠21/\t.bF≠22/\t.bF≠23/\t.bF≠25):=by omega
 rcases cs with h|h|h|h|h|h|h|h|h|h|h|h|h
 ·simp[h]
 ·simp[h,h24 h]
 ·have hl:1<=(cq t.bF).1:=by rw[h];decide
  obtain⟨a1,a2,a3⟩:=h0 hl;have w1:i64.wrap ((0:Int)-k[0]!.ah)= -k[0]!.ah:=by rw[W _ (by omega) (by omega)];omega
  have w2:i64.wrap ((0:Int)-k[0]!.ag)= -k[0]!.ag:=by rw[W _ (by omega) (by omega)];omega
  have i0:(0:Int)<(k.length:Int):=by omega
  simp only[Z0,h,zh,Int.reduceEq,reduceIte,i0,w1,w2,zm,cT,cB]
 ·have hl:2<=(cq t.bF).1:=by rw[h];decide
  obtain⟨a1,a2,a3⟩:=h0 (by omega);obtain⟨b1,b2,b3⟩:=h1 hl;have w1:=W (k[0]!.ag+k[1]!.ag) (by omega) (by omega);have w2:=W (k[0]!.ah+k[1]!.ah) (by omega) (by omega);have i0:(0:Int)<(k.length:Int):=by omega
  have i1:(1:Int)<(k.length:Int):=by omega
  simp only[Z0,h,zh,Int.reduceEq,Int.reduceLE,reduceIte,i0,i1,w1,w2,zm,cT,cB]
 ·have hl:2<=(cq t.bF).1:=by rw[h];decide
  obtain⟨a1,a2,a3⟩:=h0 (by omega);obtain⟨b1,b2,b3⟩:=h1 hl;have w1:=W (k[0]!.ag-k[1]!.ah) (by omega) (by omega);have w2:=W (k[0]!.ah-k[1]!.ag) (by omega) (by omega);have i0:(0:Int)<(k.length:Int):=by omega
  have i1:(1:Int)<(k.length:Int):=by omega
  simp only[Z0,h,zh,Int.reduceEq,Int.reduceLE,reduceIte,i0,i1,w1,w2,zm,cT,cB]
 ·have hl:2<=(cq t.bF).1:=by rw[h];decide
  have e18:=aeq _ _ (h0 (by omega)) (h1 hl);have i0:(0:Int)<(k.length:Int):=by omega
  have i1:(1:Int)<(k.length:Int):=by omega
  simp only[Z0,h,zh,Int.reduceEq,Int.reduceLE,reduceIte,i0,i1,e18,zm,cT,cB]
 ·have hl:2<=(cq t.bF).1:=by rw[h];decide
  obtain⟨a1,a2,a3⟩:=h0 (by omega);obtain⟨b1,b2,b3⟩:=h1 hl;have w1:i64.wrap ((0:Int)-k[0]!.ag)= -k[0]!.ag:=by rw[W _ (by omega) (by omega)];omega
  have w2:i64.wrap ((0:Int)-if k[0]!.ah< -k[0]!.ag then-k[0]!.ag else k[0]!.ah)= -(if k[0]!.ah< -k[0]!.ag then-k[0]!.ag else k[0]!.ah):=by split<;>(rw[W _ (by omega) (by omega)];omega)
  have i0:(0:Int)<(k.length:Int):=by omega
  have i1:(1:Int)<(k.length:Int):=by omega
  simp only[Z0,h,zh,Int.reduceEq,Int.reduceLE,reduceIte,i0,i1,w1,w2,zm,cT,cB];by_cases c1:(0:Int)<=k[0]!.ag<;>by_cases c2:(0:Int)<=k[1]!.ag<;>simp only[c1,c2,cB,gG,cI,ep,bC,bB,cT,and_true,and_false]
 ·have hl:2<=(cq t.bF).1:=by rw[h];decide
  obtain⟨b1,b2,b3⟩:=h1 hl;have w1:=W (k[1]!.ag+1) (by omega) (by omega);have w2:=W (k[1]!.ah-1) (by omega) (by omega);have i1:(1:Int)<(k.length:Int):=by omega
  simp only[Z0,h,zh,Int.reduceEq,Int.reduceLE,reduceIte,i1,w1,w2,zm,cT,cB];by_cases c1:k[1]!.ag<0<;>by_cases c2:(0:Int)<k[1]!.ah<;>simp only[c1,c2,cB,gG]
  ·rw[v7,v7]
  ·rw[v7]
  ·rw[v7]
 ·have hl:2<=(cq t.bF).1:=by rw[h];decide
  have i0:(0:Int)<(k.length:Int):=by omega
  have i1:(1:Int)<(k.length:Int):=by omega
  simp only[Z0,h,zh,Int.reduceEq,Int.reduceLE,reduceIte,i0,i1,zm,cT,cB]
 ·have hl:2<=(cq t.bF).1:=by rw[h];decide
  have i0:(0:Int)<(k.length:Int):=by omega
  have i1:(1:Int)<(k.length:Int):=by omega
  simp only[Z0,h,zh,Int.reduceEq,Int.reduceLE,reduceIte,i0,i1,zm,cT,cB]
 ·have hl:2<=(cq t.bF).1:=by rw[h];decide
  have i1:(1:Int)<(k.length:Int):=by omega
  have i2:(2:Int)<=(k.length:Int):=by omega
  simp only[Z0,h,zh,Int.reduceEq,Int.reduceLE,reduceIte,i1,i2,zm,cT,cB,ya,gG,true_or]
 ·have hl:2<=(cq t.bF).1:=by rw[h];decide
  have i1:(1:Int)<(k.length:Int):=by omega
  have i2:(2:Int)<=(k.length:Int):=by omega
  simp only[Z0,h,zh,Int.reduceEq,Int.reduceLE,reduceIte,i1,i2,zm,cT,cB,ya,gG,or_true]
 ·obtain⟨c1,c2,c3,c4,c5,c6,c7,c8,c9,c18,c11,c12⟩:=h;simp only[c1,c2,c3,c4,c5,c6,c7,c8,c9,c18,c11,c12,zh,gG,or_self]
def Zi(vars:aa aX)(hv:dg vars)(t:au)(k:aa Span)(h:FE vars t k):(iP vars t k).ag<=(iP vars t k).ah:=by
 obtain⟨hk,h24,hI⟩:=h;have h0:1<=(cq t.bF).1->Gc k[0]! :=λh=>hI _ (bh (by omega));have h1:2<=(cq t.bF).1->Gc k[1]! :=λh=>hI _ (bh (by omega));unfold iP;have cs:t.bF=0\/t.bF=24\/t.bF=6\/t.bF=8\/t.bF=9\/t.bF=10\/t.bF=11\/t.bF=12\/t.bF=21\/t.bF=22\/t.bF=23\/t.bF=25\/(t.bF≠0/\t.bF≠24/\t.bF≠6/\t.bF≠8/\t.bF≠9/\t.bF≠10/\t.bF≠11/\t.bF≠12/\t.bF≠21/\t.bF≠22/\t.bF≠23/\t.bF≠25):=by omega
 rcases cs with h|h|h|h|h|h|h|h|h|h|h|h|h
 ·simp[h]
 ·have hm:vars[t.fN.toNat]!∈vars:=bh (by have:=h24 h;omega);have:=hv _ hm;simp only[h,Int.reduceEq,reduceIte];omega
 ·obtain⟨a1,a2,a3⟩:=h0 (by rw[h];decide);simp only[h,Int.reduceEq,reduceIte];omega
 ·obtain⟨a1,a2,a3⟩:=h0 (by rw[h];decide);obtain⟨b1,b2,b3⟩:=h1 (by rw[h];decide);simp only[h,Int.reduceEq,reduceIte];omega
 ·obtain⟨a1,a2,a3⟩:=h0 (by rw[h];decide);obtain⟨b1,b2,b3⟩:=h1 (by rw[h];decide);simp only[h,Int.reduceEq,reduceIte];omega
 ·simp only[h,Int.reduceEq,reduceIte,fS];generalize k[0]!.ag*k[1]!.ag=p;generalize k[0]!.ag*k[1]!.ah=q;generalize k[0]!.ah*k[1]!.ag=r;generalize k[0]!.ah*k[1]!.ah=s;grind
 ·obtain⟨a1,a2,a3⟩:=h0 (by rw[h];decide);simp only[h,Int.reduceEq,reduceIte];grind
 ·simp only[h,Int.reduceEq,reduceIte];grind
 ·obtain⟨a1,a2,a3⟩:=h0 (by rw[h];decide);obtain⟨b1,b2,b3⟩:=h1 (by rw[h];decide);simp only[h,Int.reduceEq,reduceIte];grind
 ·obtain⟨a1,a2,a3⟩:=h0 (by rw[h];decide);obtain⟨b1,b2,b3⟩:=h1 (by rw[h];decide);simp only[h,Int.reduceEq,reduceIte];grind
 ·have:=me (k.drop 2) k[1]! (h1 (by rw[h];decide)) λx hx=>hI x (wg hx);simp only[h,Int.reduceEq,reduceIte,true_or,cB];exact this.2.1
 ·have:=me (k.drop 2) k[1]! (h1 (by rw[h];decide)) λx hx=>hI x (wg hx);simp only[h,Int.reduceEq,reduceIte,or_true,cB];exact this.2.1
 ·obtain⟨c1,c2,c3,c4,c5,c6,c7,c8,c9,c18,c11,c12⟩:=h;simp only[c1,c2,c3,c4,c5,c6,c7,c8,c9,c18,c11,c12,gG,or_self];decide
def rq:∀{l:aa (af Span)} {r:aa Span},kI l=V r->l=r.map V
 |[],r,h=>by unfold kI at h;cases h;rfl
 |none::l,r,h=>by unfold kI at h;cases h
 |some s::l,r,h=>by
  unfold kI at h;cases hl:kI l with
  |none=>rw[hl]at h;cases h
  |some q=>rw[hl]at h;cases h;rw[rq hl];rfl
def LG(l:aa Span):kI (l.map V)=V l:=by
 induction l with
 |nil=>rfl
 |cons s l ih=>rw[ye,kI,ih]
def A8:∀{l:aa (af Span)},G∈l->kI l=G
 |none::l,h=>rfl
 |some s::l,h=>by
  unfold kI;rw[A8 (by simpa using h)]
def HI{vars:aa aX}{inp:Bool}{t:au}{k:aa Span}(hf:Bw vars inp t=O)(hl:k.length=t.aq.length)(hI:∀s∈k,Gc s):FE vars t k:=by
 unfold Bw at hf;refine⟨?_,?_,hI⟩
 ·rw[hl];simp only[zi,decide_eq_true_eq]at hf;exact hf.1
 ·intro h;rw[h]at hf;simp at hf;exact hf.2.1
def aeF(vars:aa aX)(hv:dg vars)(inp:Bool)(t:au)(s:Span)(hf:dJ vars inp t=O)(h:gN vars t=V s):Gc s:=by
 have key:∀(n:Nat) (t:au) (s:Span),zg t<n->dJ vars inp t=O->gN vars t=V s->Gc s:=by
  intro n;induction n with
  |zero=>intro t s h;omega
  |succ n ih=>
   intro t s hz hf h;rw[lI,zi,zw]at hf;rw[uZ]at h;cases ha:kI (t.aq.map (gN vars))with
   |none=>rw[ha]at h;cases h
   |some k=>
    rw[ha]at h;dsimp only at h;have hm:=rq ha;have hl:k.length=t.aq.length:=by have:=congrArg zP hm;simpa using this.symm
    have hI:∀s∈k,Gc s:=λx hx=>by
     have:V x∈t.aq.map (gN vars):=by rw[hm];exact List.mem_map_of_mem hx
     obtain⟨c,hc,e⟩:=zL.1 this;exact ih c x (by have:=au.fm hc;omega) (hf.2 c hc) e
    have ho:=Zi vars hv t k (HI hf.1 hl hI);split at h
    ·rename_i hlim;cases h;unfold vg at hlim;unfold Gc;grind
    ·cases h
 exact key _ t s (zJ _) hf h
def vB(vars:aa aX)(t:au):Span×Bool:=match kI (t.aq.map (gN vars))with
 |none=>(⟨0,0⟩,S)
 |some l=>(iP vars t l,vg (iP vars t l))
def Ij(vars:aa aX)(t:au):gN vars t=if(vB vars t).2=O then V (vB vars t).1 else G:=by
 rw[uZ,vB];cases kI (t.aq.map (gN vars))<;>rfl
def Ns{vars:aa aX}(hv:dg vars){inp:Bool}{t:au}{k:aa Span}(hf:dJ vars inp t=O)(ha:kI (t.aq.map (gN vars))=V k):FE vars t k:=by
 rw[lI,zi,zw]at hf;have hm:=rq ha;refine HI hf.1 (by have:=congrArg zP hm;simpa using this.symm) λx hx=> ?_;have:V x∈t.aq.map (gN vars):=by rw[hm];exact List.mem_map_of_mem hx
 obtain⟨c,hc,e⟩:=zL.1 this;exact aeF vars hv inp c x (hf.2 c hc) e
def L2{vars:aa aX}{inp:Bool}{t:au}(hf:dJ vars inp t=O):t.aq.length<=33:=by
 rw[lI,zi]at hf;have:=hf.1;unfold Bw at this;have h33:(cq t.bF).2<=33:=by unfold cq;grind
 simp only[zi,decide_eq_true_eq]at this;omega
def C8{vars:aa aX}{inp:Bool}{t k:au}(hf:dJ vars inp t=O)(hk:k∈t.aq):dJ vars inp k=O:=by
 rw[lI,zi,zw]at hf;exact hf.2 k hk
def ahF(M:aa aX->au->af rP)(vars:aa aX)(hv:dg vars)(inp:Bool)(t:au)(hf:dJ vars inp t=O)(hM:∀k∈t.aq,M vars k=V (vB vars k)):afW M vars t=V (vB vars t):=by
 have h33:=L2 hf;obtain⟨i,b,e1,hI,hc⟩:=lH (rnd:=C2 M) t.aq.length (λi (b:aa Span)=>⟨vars,b,t.aq,(t.aq.length:Int),(i:Int),t,⟨0,0⟩⟩) (λi b=>(t.aq.take i).map (gN vars)=b.map V) (λi _=>(vB vars t.aq[i]!).2=S) (λi b hi hb=>by
  have hw:=fu hi (by omega);have hk:=hM _ (bh hi);have hlen:b.length=i:=by have:=congrArg zP hb;simp at this;omega
  cases hx:(vB vars t.aq[i]!).2 with
  |true=>
   refine .inl ⟨b++[(vB vars t.aq[i]!).1],?_,?_⟩
   ·have hl2:(b++[(vB vars t.aq[i]!).1]).length<=1073741824:=by simp;omega
    unfold C2;dsimp only;simp only[ze,au.eta,hk,hx,hl2,hw,cB,bC,bB];simp[hi]
   ·rw[bK hi,z8,hb,z8]
    congr 1
    rw[ye,ye,Ij,bE hx];rfl
  |false=>
   refine .inr ⟨?_,rfl⟩;unfold C2;dsimp only;simp only[ze,au.eta,hk,hx,bC,bB];simp[hi]) (λb _=>by unfold C2;simp) (b:=[]) rfl
 have e1':J9 M ⟨vars,[],t.aq,(t.aq.length:Int),0,t,⟨0,0⟩⟩=V ⟨vars,b,t.aq,(t.aq.length:Int),(i:Int),t,⟨0,0⟩⟩:=e1;unfold afW;rw[au.eta,e1'];dsimp only;rcases hc with rfl|⟨hi,hx⟩
 ·rw[zB]at hI;have ha:kI (t.aq.map (gN vars))=V b:=by rw[hI];exact LG b
  rw[gh,bB,au.eta,af3 vars t b (Ns hv hf ha)];unfold vB;rw[ha];dsimp only;unfold vg;simp only[zh];grind
 ·have hk:=hM _ (bh hi);have ha:kI (t.aq.map (gN vars))=G:=A8 (zL.2 ⟨t.aq[i]!,bh hi,by rw[Ij,hx];simp⟩);rw[nH,bC,bE ⟨by omega,by omega⟩];simp only[ze,au.eta,hk,hx,bC,bB];unfold vB;rw[ha]
def S8(vars:aa aX)(hv:dg vars)(inp:Bool):∀(n:Nat) (t:au),zg t<n->dJ vars inp t=O->O5 n vars t=V (vB vars t)
 |0,_,h,_=>by omega
 |n+1,t,h,hf=>ahF (O5 n) vars hv inp t hf (λk hk=>S8 vars hv inp n k (by have:=au.fm hk;omega) (C8 hf hk))
def agh(vars:aa aX)(hv:dg vars)(inp:Bool)(t:au)(hf:dJ vars inp t=O):ajU vars t=V (vB vars t):=fe (zg t+1) λn hn=>S8 vars hv inp n t (by omega) hf
def Cc(vars:aa aX)(hv:dg vars)(inp:Bool)(t:au):Q3 vars t inp=V (eW vars inp t):=by
 unfold Q3 eW;rw[au.eta,ac9];cases hf:dJ vars inp t with
 |false=>rfl
 |true=>
  rw[agh vars hv inp t hf,Ij];dsimp only;cases (vB vars t).2<;>rfl
def tX(vars:aa aX)(t:au)(k:aa Span):Span:=if t.bF=0/\(t.fN< -1048576\/1048576<t.fN)then⟨-1048577,1048577⟩else iP vars t k
def VE(vars:aa aX)(t:au)(k:aa Span):vg (tX vars t k)=vg (iP vars t k)/\(vg (iP vars t k)=O->tX vars t k=iP vars t k):=by
 unfold tX;by_cases h:t.bF=0/\(t.fN< -1048576\/1048576<t.fN)
 ·have e:vg (iP vars t k)=S:=by
   unfold vg iP;rw[bE h.1];simp;omega
  rw[bE h,e];exact⟨by decide,λh=>by cases h⟩
 ·rw[bO h];exact⟨rfl,λ_=>rfl⟩
def qU(a b:Int):jE a b=if a<b then a else b:=by
 unfold jE;simp only[zh]
def oC(a b:Int):kB a b=if b<a then a else b:=by
 unfold kB;simp only[zh]
def gV{k:aa Span}{i:Nat}(h:i<k.length):(k.map (·.ag))[i]! =k[i]!.ag:=by
 rw[getElem!_pos _ i (by simpa using h),getElem!_pos k i h,yY]
def fI{k:aa Span}{i:Nat}(h:i<k.length):(k.map (·.ah))[i]! =k[i]!.ah:=by
 rw[getElem!_pos _ i (by simpa using h),getElem!_pos k i h,yY]
def HV(k:aa Span)(hl:k.length<=1000000)(h2:2<=k.length)(a:Span):Ei ⟨k.map (·.ag),k.map (·.ah),a.ag,a.ah,2⟩=V ⟨k.map (·.ag),k.map (·.ah),((k.drop 2).foldl fS a).ag,((k.drop 2).foldl fS a).ah,(k.length:Int)⟩:=by
 have hlen:(k.drop 2).length=k.length-2:=ym ..;have hget:∀i,i<k.length-2->(k.drop 2)[i]! =k[i+2]! :=λi hi=>by
  rw[getElem!_pos _ i (by omega),getElem!_pos _ (i+2) (by omega),wG]
  congr 1
  omega
 obtain⟨v,e1,hv⟩:=dc (rnd:=KB) (k.length-2) (λi (b:Span)=>⟨k.map (·.ag),k.map (·.ah),b.ag,b.ah,((i+2:Nat):Int)⟩) (λi b=>b=((k.drop 2).take i).foldl fS a) (λi b hi hb=>by
  have hw:=fu (show i+2<k.length by omega) hl;refine⟨fS b k[i+2]!,?_,?_⟩
  ·unfold KB;dsimp only;simp only[zh,ze,qU,oC,hw,zx,gV (show i+2<k.length by omega),fI (show i+2<k.length by omega)];unfold fS;rw[gY,bE ⟨by omega,by omega⟩,bE ⟨by omega,by omega⟩]
   congr 3<;>grind
  ·rw[bK (by omega),wz,hb,hget i hi];rfl) (λb _=>by
   unfold KB;simp only[zx,zh];rw[v7]) (b:=a) rfl
 rw[<-hlen,zB]at hv;rw[<-hv];rw[show k.length-2+2=k.length by omega]at e1;exact e1
def aer(vars:aa aX)(t:au)(k:aa Span)(h:FE vars t k):aes vars t (k.map (·.ag)) (k.map (·.ah))=V ((tX vars t k).ag,(tX vars t k).ah):=by
 obtain⟨hk,h24,hI⟩:=h;have h0:1<=(cq t.bF).1->Gc k[0]! :=λh=>hI _ (bh (by omega));have h1:2<=(cq t.bF).1->Gc k[1]! :=λh=>hI _ (bh (by omega));have h33:(cq t.bF).2<=33:=by unfold cq;grind
 have W:∀n:Int,-8796093022208<=n->n<=8796093022208->i64.wrap n=n:=λn a b=>aG;unfold aes tX iP;have cs:t.bF=0\/t.bF=24\/t.bF=6\/t.bF=8\/t.bF=9\/t.bF=10\/t.bF=11\/t.bF=12\/t.bF=21\/t.bF=22\/t.bF=23\/t.bF=25\/(t.bF≠0/\t.bF≠24/\t.bF≠6/\t.bF≠8/\t.bF≠9/\t.bF≠10/\t.bF≠11/\t.bF≠12/\t.bF≠21/\t.bF≠22/\t.bF≠23/\t.bF≠25):=by omega
 rcases cs with h|h|h|h|h|h|h|h|h|h|h|h|h
 ·simp only[Z0,h,zh,Int.reduceEq,reduceIte,true_and];grind
 ·simp[h,h24 h]
 ·have hl:1<=(cq t.bF).1:=by rw[h];decide
  obtain⟨a1,a2,a3⟩:=h0 hl;have w1:i64.wrap ((0:Int)-k[0]!.ah)= -k[0]!.ah:=by rw[W _ (by omega) (by omega)];omega
  have w2:i64.wrap ((0:Int)-k[0]!.ag)= -k[0]!.ag:=by rw[W _ (by omega) (by omega)];omega
  have i0:(0:Int)<(k.length:Int):=by omega
  simp only[Z0,h,zh,Int.reduceEq,reduceIte,zx,i0,gV (show 0<k.length by omega),fI (show 0<k.length by omega),w1,w2,zm,cT,cB,false_and,gG]
 ·have hl:2<=(cq t.bF).1:=by rw[h];decide
  obtain⟨a1,a2,a3⟩:=h0 (by omega);obtain⟨b1,b2,b3⟩:=h1 hl;have w1:=W (k[0]!.ag+k[1]!.ag) (by omega) (by omega);have w2:=W (k[0]!.ah+k[1]!.ah) (by omega) (by omega);have i0:(0:Int)<(k.length:Int):=by omega
  have i1:(1:Int)<(k.length:Int):=by omega
  simp only[Z0,h,zh,Int.reduceEq,Int.reduceLE,reduceIte,zx,gV (show 0<k.length by omega),fI (show 0<k.length by omega),gV (show 1<k.length by omega),fI (show 1<k.length by omega),i0,i1,w1,w2,zm,cT,cB,false_and,gG]
 ·have hl:2<=(cq t.bF).1:=by rw[h];decide
  obtain⟨a1,a2,a3⟩:=h0 (by omega);obtain⟨b1,b2,b3⟩:=h1 hl;have w1:=W (k[0]!.ag-k[1]!.ah) (by omega) (by omega);have w2:=W (k[0]!.ah-k[1]!.ag) (by omega) (by omega);have i0:(0:Int)<(k.length:Int):=by omega
  have i1:(1:Int)<(k.length:Int):=by omega
  simp only[Z0,h,zh,Int.reduceEq,Int.reduceLE,reduceIte,zx,gV (show 0<k.length by omega),fI (show 0<k.length by omega),gV (show 1<k.length by omega),fI (show 1<k.length by omega),i0,i1,w1,w2,zm,cT,cB,false_and,gG]
 ·have hl:2<=(cq t.bF).1:=by rw[h];decide
  obtain⟨a1,a2,a3⟩:=h0 (by omega);obtain⟨b1,b2,b3⟩:=h1 hl;have m1:=pP (a:=k[0]!.ag) (b:=k[1]!.ag) (by omega) (by omega) (by omega) (by omega);have m2:=pP (a:=k[0]!.ag) (b:=k[1]!.ah) (by omega) (by omega) (by omega) (by omega);have m3:=pP (a:=k[0]!.ah) (b:=k[1]!.ag) (by omega) (by omega) (by omega) (by omega);have m4:=pP (a:=k[0]!.ah) (b:=k[1]!.ah) (by omega) (by omega) (by omega) (by omega);have w1:=W _ (show-8796093022208<=k[0]!.ag*k[1]!.ag by omega) (by omega);have w2:=W _ (show-8796093022208<=k[0]!.ag*k[1]!.ah by omega) (by omega);have w3:=W _ (show-8796093022208<=k[0]!.ah*k[1]!.ag by omega) (by omega);have w4:=W _ (show-8796093022208<=k[0]!.ah*k[1]!.ah by omega) (by omega);have i0:(0:Int)<(k.length:Int):=by omega
  have i1:(1:Int)<(k.length:Int):=by omega
  simp only[Z0,h,zh,Int.reduceEq,Int.reduceLE,reduceIte,zx,gV (show 0<k.length by omega),fI (show 0<k.length by omega),gV (show 1<k.length by omega),fI (show 1<k.length by omega),i0,i1,w1,w2,w3,w4,zm,cT,cB,false_and,gG,qU,oC,fS];generalize k[0]!.ag*k[1]!.ag=p;generalize k[0]!.ag*k[1]!.ah=q;generalize k[0]!.ah*k[1]!.ag=r;generalize k[0]!.ah*k[1]!.ah=s
  congr 2<;>grind
 ·have hl:2<=(cq t.bF).1:=by rw[h];decide
  obtain⟨a1,a2,a3⟩:=h0 (by omega);obtain⟨b1,b2,b3⟩:=h1 hl;have z0:zC 0=0:=rfl;have z1:zC 1=1:=rfl;have X4:∀x:Int,-1048576<=x->x<=1048576->AZ x=if x<0 then-x else x:=λx q1 q2=>by
   unfold AZ;rw[W _ (by omega) (by omega)];simp only[zh];grind
  have WI:kB (AZ k[0]!.ag) (AZ k[0]!.ah)=if k[0]!.ah< -k[0]!.ag then-k[0]!.ag else k[0]!.ah:=by
   rw[X4 _ (by omega) (by omega),X4 _ (by omega) (by omega),oC];grind
  have w2:i64.wrap ((0:Int)-if k[0]!.ah< -k[0]!.ag then-k[0]!.ag else k[0]!.ah)= -(if k[0]!.ah< -k[0]!.ag then-k[0]!.ag else k[0]!.ah):=by split<;>(rw[W _ (by omega) (by omega)];omega)
  have i0:(0:Int)<(k.length:Int):=by omega
  have i1:(1:Int)<(k.length:Int):=by omega
  simp only[Z0,h,zh,Int.reduceEq,Int.reduceLE,reduceIte,zx,z0,z1,gV (show 0<k.length by omega),fI (show 0<k.length by omega),gV (show 1<k.length by omega),fI (show 1<k.length by omega),i0,i1,WI,w2,zm,cT,cB,false_and,gG];by_cases c1:(0:Int)<=k[0]!.ag<;>by_cases c2:(0:Int)<=k[1]!.ag<;>simp only[c1,c2,cB,gG,cI,ep,bC,bB,cT,and_true,and_false]
 ·have hl:2<=(cq t.bF).1:=by rw[h];decide
  obtain⟨b1,b2,b3⟩:=h1 hl;have w1:=W (k[1]!.ag+1) (by omega) (by omega);have w2:=W (k[1]!.ah-1) (by omega) (by omega);have i1:(1:Int)<(k.length:Int):=by omega
  simp only[Z0,h,zh,Int.reduceEq,Int.reduceLE,reduceIte,zx,gV (show 1<k.length by omega),fI (show 1<k.length by omega),i1,zm,cT,cB,false_and,gG,Zm,w1,w2,qU,oC]
  congr 1
  by_cases c1:k[1]!.ag<0<;>by_cases c2:(0:Int)<k[1]!.ah<;>simp only[c1,c2,cB,gG,Prod.mk.injEq,and_true,true_and]<;>grind
 ·have hl:2<=(cq t.bF).1:=by rw[h];decide
  have i0:(0:Int)<(k.length:Int):=by omega
  have i1:(1:Int)<(k.length:Int):=by omega
  simp only[Z0,h,zh,Int.reduceEq,Int.reduceLE,reduceIte,zx,gV (show 0<k.length by omega),fI (show 0<k.length by omega),gV (show 1<k.length by omega),fI (show 1<k.length by omega),i0,i1,zm,cT,cB,false_and,gG,qU,oC]
  congr 2<;>grind
 ·have hl:2<=(cq t.bF).1:=by rw[h];decide
  have i0:(0:Int)<(k.length:Int):=by omega
  have i1:(1:Int)<(k.length:Int):=by omega
  simp only[Z0,h,zh,Int.reduceEq,Int.reduceLE,reduceIte,zx,gV (show 0<k.length by omega),fI (show 0<k.length by omega),gV (show 1<k.length by omega),fI (show 1<k.length by omega),i0,i1,zm,cT,cB,false_and,gG,qU,oC]
  congr 2<;>grind
 ·have hl:2<=(cq t.bF).1:=by rw[h];decide
  have i1:(1:Int)<(k.length:Int):=by omega
  have e:=HV k (by omega) (by omega) k[1]!;simp only[Z0,h,zh,Int.reduceEq,Int.reduceLE,reduceIte,zx,gV (show 1<k.length by omega),fI (show 1<k.length by omega),e,i1,zm,cT,cB,ya,gG,true_or,false_and]
 ·have hl:2<=(cq t.bF).1:=by rw[h];decide
  have i1:(1:Int)<(k.length:Int):=by omega
  have e:=HV k (by omega) (by omega) k[1]!;simp only[Z0,h,zh,Int.reduceEq,Int.reduceLE,reduceIte,zx,gV (show 1<k.length by omega),fI (show 1<k.length by omega),e,i1,zm,cT,cB,ya,gG,or_true,false_and]
 ·obtain⟨c1,c2,c3,c4,c5,c6,c7,c8,c9,c18,c11,c12⟩:=h;simp only[c1,c2,c3,c4,c5,c6,c7,c8,c9,c18,c11,c12,zh,gG,or_self,false_and]
def pO(vars:aa aX)(t:au):Int×Int×Bool:=match kI (t.aq.map (gN vars))with
 |none=>(0,0,S)
 |some l=>((tX vars t l).ag,(tX vars t l).ah,vg (tX vars t l))
def JT(vars:aa aX)(t:au):gN vars t=if(pO vars t).2.2=O then V ⟨(pO vars t).1,(pO vars t).2.1⟩else G:=by
 rw[uZ,pO];cases h:kI (t.aq.map (gN vars))with
 |none=>rfl
 |some l=>
  obtain⟨h1,h2⟩:=VE vars t l;dsimp only;by_cases hl:vg (iP vars t l)=O
  ·rw[bE hl,bE (h1.trans hl),h2 hl]
  ·rw[bO hl,bO (by rw[h1];exact hl)]
def ael(M:aa aX->au->af si)(vars:aa aX)(hv:dg vars)(inp:Bool)(t:au)(hf:dJ vars inp t=O)(hM:∀k∈t.aq,M vars k=V (pO vars k)):aii M vars t=V (pO vars t):=by
 have h33:=L2 hf;obtain⟨i,b,e1,hI,hc⟩:=lH (rnd:=DV M) t.aq.length (λi (b:aa Span)=>⟨vars,b.map (·.ag),b.map (·.ah),(i:Int),t⟩) (λi b=>(t.aq.take i).map (gN vars)=b.map V) (λi _=>(pO vars t.aq[i]!).2.2=S) (λi b hi hb=>by
  have hw:=fu hi (by omega);have hk:=hM _ (bh hi);have hlen:b.length=i:=by have:=congrArg zP hb;simp at this;omega
  cases hx:(pO vars t.aq[i]!).2.2 with
  |true=>
   refine .inl ⟨b++[⟨(pO vars t.aq[i]!).1,(pO vars t.aq[i]!).2.1⟩],?_,?_⟩
   ·have hl2:(b.map (·.ag)++[(pO vars t.aq[i]!).1]).length<=1073741824:=by simp;omega
    have hl3:(b.map (·.ah)++[(pO vars t.aq[i]!).2.1]).length<=1073741824:=by simp;omega
    unfold DV;dsimp only;simp only[ze,au.eta,hk,hx,hl2,hl3,hw,cB,bC,bB];simp[hi]
   ·rw[bK hi,z8,hb,z8]
    congr 1
    rw[ye,ye,JT,bE hx];rfl
  |false=>
   refine .inr ⟨?_,rfl⟩;unfold DV;dsimp only;simp only[ze,au.eta,hk,hx,bC,bB];simp[hi]) (λb _=>by unfold DV;simp) (b:=[]) rfl
 have e1':J2 M ⟨vars,[],[],0,t⟩=V ⟨vars,b.map (·.ag),b.map (·.ah),(i:Int),t⟩:=e1;unfold aii;rw[au.eta,e1'];dsimp only;rcases hc with rfl|⟨hi,hx⟩
 ·rw[zB]at hI;have ha:kI (t.aq.map (gN vars))=V b:=by rw[hI];exact LG b
  rw[gh,bB,au.eta,aer vars t b (Ns hv hf ha)];unfold pO;rw[ha];dsimp only;unfold vg;simp only[zh];grind
 ·have hk:=hM _ (bh hi);have ha:kI (t.aq.map (gN vars))=G:=A8 (zL.2 ⟨t.aq[i]!,bh hi,by rw[JT,hx];simp⟩);rw[nH,bC,bE ⟨by omega,by omega⟩];simp only[ze,au.eta,hk,hx,bC,bB];unfold pO;rw[ha]
def U8(vars:aa aX)(hv:dg vars)(inp:Bool):∀(n:Nat) (t:au),zg t<n->dJ vars inp t=O->Qd n vars t=V (pO vars t)
 |0,_,h,_=>by omega
 |n+1,t,h,hf=>ael (Qd n) vars hv inp t hf (λk hk=>U8 vars hv inp n k (by have:=au.fm hk;omega) (C8 hf hk))
def aeG(vars:aa aX)(hv:dg vars)(inp:Bool)(t:au)(hf:dJ vars inp t=O):ae6 vars t=V (pO vars t):=fe (zg t+1) λn hn=>U8 vars hv inp n t (by omega) hf
def Cz(vars:aa aX)(hv:dg vars)(inp:Bool)(t:au):Ju vars t inp=V (eW vars inp t):=by
 unfold Ju eW;rw[au.eta,aiH];cases hf:dJ vars inp t with
 |false=>rfl
 |true=>
  rw[aeG vars hv inp t hf,JT];dsimp only;cases (pO vars t).2.2<;>rfl
def dB.eta(h:dB):dB.mk h.fName h.ag h.ah h.aA=h:=by cases h;rfl
def Ux(l:aa dB)(hl:l.length<=1000000)(v:dB):aau l v=V (l.any λw=>w.fName.toList==v.fName.toList):=by
 obtain⟨i,e1,hc⟩:=p6 (rnd:=JB) l (λi=>⟨l,v.fName,v.ag,v.ah,v.aA.bF,v.aA.fN,v.aA.aq,(l.length:Int),(i:Int)⟩) (λ_ w=> !(w.fName.toList==v.fName.toList)) (λi hi=>by
  have hw:=fu hi hl;unfold JB XL;dsimp only;simp only[zh,ze];grind) (by unfold JB;simp)
 have e1':Is ⟨l,v.fName,v.ag,v.ah,v.aA.bF,v.aA.fN,v.aA.aq,(l.length:Int),0⟩=V ⟨l,v.fName,v.ag,v.ah,v.aA.bF,v.aA.fN,v.aA.aq,(l.length:Int),(i:Int)⟩:=e1;unfold aau aqf;rw[e1'];dsimp only;rcases hc with ⟨rfl,hc⟩|⟨hi,hc⟩
 ·rw[uW λj hj=>by have:=hc j hj;simpa using this];simp
 ·have hc':(l[i]!.fName.toList==v.fName.toList)=O:=by simpa using hc
  rw[DH hi hc'];unfold XL;simp only[ze,hc',bC];simp[hi]
def Lq(f:aN)(hl:f.ak.length<=1000000)(n:Nat)(hn:n<=f.ak.length)(v:dB):
  ∃i:Nat,MS ⟨n,0,f,v⟩=V ⟨n,(i:Int),f,v⟩/\((i=n/\((f.ak.take n).any λw=>w.fName.toList==v.fName.toList)=S)\/(i<n/\(f.ak[i]!.fName.toList==v.fName.toList)=O/\((f.ak.take n).any λw=>w.fName.toList==v.fName.toList)=O)):=by
 have hlen:(f.ak.take n).length=n:=by rw[zH];omega
 have hget:∀i,i<n->(f.ak.take n)[i]! =f.ak[i]! :=λi hi=>by
  rw[getElem!_pos _ i (by omega),getElem!_pos _ i (by omega),we]
 obtain⟨i,e1,hc⟩:=p6 (rnd:=TX) (f.ak.take n) (λi=>⟨(n:Int),(i:Int),f,v⟩) (λ_ w=> !(w.fName.toList==v.fName.toList)) (λi hi=>by
  rw[hlen]at hi;have hw:=fu hi (by omega);rw[hget i hi];unfold TX;dsimp only;simp only[zh,ze,au.eta,dB.eta];grind) (by rw[hlen];unfold TX;simp)
 refine⟨i,e1,?_⟩;rw[hlen]at hc;rcases hc with ⟨rfl,hc⟩|⟨hi,hc⟩
 ·exact .inl ⟨rfl,uW λj hj=>by have:=hc j (by omega);simpa using this⟩
 ·have hc':((f.ak.take n)[i]!.fName.toList==v.fName.toList)=O:=by simpa using hc
  exact .inr ⟨hi,by rw[<-hget i hi];exact hc',DH (by omega) hc'⟩
def agN(t:au):WC t=vq t:=by
 unfold WC vq;simp only[zh];grind
def afq(t:au):Ox t=vq t:=by
 unfold Ox vq;simp only[zh];grind
def jL:∀(l:aa Int),fZ l=O↔∀i,i+1<l.length->l[i]! <l[i+1]!
 |[]=>by simp[fZ]
 |[a]=>by simp[fZ]
 |a::b::l=>by
  unfold fZ;rw[zi,jL (b::l),decide_eq_true_iff];constructor
  ·rintro⟨h1,h2⟩ i hi;cases i with
   |zero=>exact h1
   |succ i=>exact h2 i (by simpa using hi)
  ·intro h;exact⟨h 0 (by simp),λi hi=>h (i+1) (by simpa using hi)⟩
def ac6(l:aa Int)(hl:l.length<=1000000):WN l=V (fZ l):=by
 obtain⟨i,e1,hc⟩:=p6 (rnd:=KN) l (λi=>⟨l,(l.length:Int),(i:Int)⟩) (λi x=>J (i=0)||J (l[i-1]! <x)) (λi hi=>by
  have hw:=fu hi hl;have hw2:i64.wrap ((i:Int)-1)=(i:Int)-1:=aG;have hw3:((i:Int)-1).toNat=i-1:=by omega
  unfold KN;dsimp only;simp only[zh,ze,hw,hw2,hw3];generalize l[i]! =y;generalize l[i-1]! =z;grind) (by unfold KN;simp)
 have e1':JF ⟨l,(l.length:Int),0⟩=V ⟨l,(l.length:Int),(i:Int)⟩:=e1;unfold WN;rw[e1'];dsimp only;rcases hc with ⟨rfl,hc⟩|⟨hi,hc⟩
 ·have:fZ l=O:=(jL l).2 λi hi=>by
   have:=hc (i+1) hi;simpa using this
  rw[this];simp
 ·have hc':i≠0/\¬l[i-1]! <l[i]! :=by
   simp only[Bool.or_eq_false_iff,decide_eq_false_iff_not]at hc;exact hc
  have:fZ l=S:=by
   cases hr:fZ l with
   |false=>rfl
   |true=>
    have:=(jL l).1 hr (i-1) (by omega);rw[show i-1+1=i by omega]at this;exact dD this hc'.2
  rw[this];have hw2:i64.wrap ((i:Int)-1)=(i:Int)-1:=aG;have hw3:((i:Int)-1).toNat=i-1:=by omega
  simp only[zh,ze,hw2,hw3];revert hc';generalize l[i]! =y;generalize l[i-1]! =z;intro hc';grind
def adU(l:aa Int)(hl:l.length<=1000000):afd l=V (J (1<=l.length/\l.length<=32)&&J ((0:Int)<=l[0]!)&&fZ l):=by
 unfold afd;by_cases h1:1<=l.length/\l.length<=32
 case neg=>
  rw[bX h1];simp only[zh];grind
 rw[bY h1,bX (show ¬(l.length:Int)<1 by omega),bX (show ¬32<(l.length:Int)by omega),bE (⟨zm _,by omega⟩:(0:Int)<=0/\(0:Int)<(l.length:Int))];have hz:l[zC 0]! =l[0]! :=rfl;rw[hz];by_cases h0:(0:Int)<=l[0]!
 case neg=>
  rw[bX h0,bY (show l[0]! <0 by omega)];rfl
 rw[bY h0,bX (show ¬l[0]! <0 by omega)];dsimp only[bB];have hlen:(l.drop 1).length=l.length-1:=ym ..;have hget:∀i,i<l.length-1->(l.drop 1)[i]! =l[i+1]! :=λi hi=>by
  rw[getElem!_pos _ i (by omega),getElem!_pos _ (i+1) (by omega),wG]
  congr 1
  omega
 obtain⟨i,e1,hc⟩:=p6 (rnd:=JA) (l.drop 1) (λi=>⟨l,((i+1:Nat):Int)⟩) (λi x=>J (l[i]! <x)) (λi hi=>by
  rw[hlen]at hi;have hw:=fu (show i+1<l.length by omega) hl;have hw2:i64.wrap (((i+1:Nat):Int)-1)=(i:Int):=by rw[aG];omega
  rw[hget i hi];unfold JA;dsimp only;simp only[zh,ze,hw,hw2];generalize l[i+1]! =y;generalize l[i]! =z;grind) (by
   rw[hlen];unfold JA;simp only[zh];rw[v7])
 have e1':J8 ⟨l,1⟩=V ⟨l,((i+1:Nat):Int)⟩:=e1;rw[e1'];dsimp only;rw[hlen]at hc;rcases hc with ⟨rfl,hc⟩|⟨hi,hc⟩
 ·have:fZ l=O:=(jL l).2 λi hi=>by
   have:=hc i (by omega);rw[hget i (by omega)]at this;simpa using this
  rw[this,bX (show ¬(((l.length-1+1:Nat):Int)<(l.length:Int))by omega)];rfl
 ·rw[hget i hi]at hc;have hc':¬l[i]! <l[i+1]! :=by simpa using hc
  have:fZ l=S:=by
   cases hr:fZ l with
   |false=>rfl
   |true=>exact dD ((jL l).1 hr i (by omega)) hc'
  rw[this];have hw2:i64.wrap (((i+1:Nat):Int)-1)=(i:Int):=by rw[aG];omega
  simp only[zh,ze,hw2];revert hc';generalize l[i+1]! =y;generalize l[i]! =z;intro hc';grind
def B5(a b:Bool):(a&&b)=if a=true then b else false:=by cases a<;>rfl
def S9(f:aN)(s:ay)(last:Bool):Rt f s last=V (dI f s last):=by
 have h199:s.aJ.length<=32->WN s.aJ=V (fZ s.aJ):=λh=>ac6 _ (by omega);have hz:s.aJ[zC 0]! =s.aJ[0]! :=rfl;unfold Rt VT ZK XO;rw[au.eta,agN,hz];obtain⟨X,hX⟩:∃X,X=dI f s last:=⟨_,rfl⟩;rw[<-hX];have hX1:X=O↔dI f s last=O:=by rw[hX]
 clear hX;unfold dI sV at hX1;generalize fZ s.aJ=R at*;generalize vq s.aA=Z at*;generalize f.ai[s.dG.toNat]!.bz=K at*;generalize s.aJ[0]! =B0 at*;generalize WN s.aJ=M at*;have cs:s.cn=0\/s.cn=1\/s.cn=2\/s.cn=3\/s.cn=4\/s.cn=5\/s.cn=6\/s.cn<0\/6<s.cn:=by omega
 rcases cs with h|h|h|h|h|h|h|h|h
 case inr.inr.inr.inr.inr.inr.inr.inl=>rw[bY h];dsimp only[bC];cases X<;>grind
 case inr.inr.inr.inr.inr.inr.inr.inr=>rw[bY h,gh];dsimp only[bC,bB];cases X<;>grind
 all_goals
  rw[h]at hX1 ⊢;cases X<;>cases Z<;>simp only[Int.reduceEq,Int.reduceLT,cI,ep,bC,bB,cB,gG,zh,reduceIte,zi,decide_eq_true_eq,yA,true_iff,false_iff,not_and,and_true,and_false]at hX1 ⊢ <;>grind (splits:=40)
def ZD(a b:Bool):(bif a then some b else some false)=some (a&&b):=by cases a<;>rfl
def Uw(f:aN)(s:ay)(last:Bool)(hb:s.aJ.length<=1000000):RY f s last=V (dI f s last):=by
 have h173:=adU s.aJ hb;have e1:(bif J ((s.aM.length:Int)=0)then V (J ((s.aS.length:Int)=0))else V S)=V (J (s.aM.length=0/\s.aS.length=0)):=by
  have c1:((s.aM.length:Int)=0)↔s.aM.length=0:=by omega
  have c2:((s.aS.length:Int)=0)↔s.aS.length=0:=by omega
  simp only[c1,c2];by_cases a1:s.aM.length=0<;>by_cases a2:s.aS.length=0<;>simp[a1,a2]
 have e2:(bif J (0<=s.dG)then bif J (s.dG<(f.ai.length:Int))then if(0:Int)<=s.dG/\s.dG<(f.ai.length:Int)then V (J (f.ai[s.dG.toNat]!.bz=0))else G else V S else V S)=V (sV f s):=by
  unfold sV;simp only[zh];generalize f.ai[s.dG.toNat]!.bz=K;by_cases a1:0<=s.dG<;>by_cases a2:s.dG<(f.ai.length:Int)<;>simp[a1,a2]
 unfold RY;rw[au.eta,afq,h173,e1,e2];dsimp only;unfold dI;generalize fZ s.aJ=R;generalize vq s.aA=Z;generalize sV f s=L1;generalize J (s.aM.length=0/\s.aS.length=0)=F;generalize s.aJ[0]! =B0;have hi:((s.aJ.length:Int)=0)↔s.aJ.length=0:=by omega
 have hi2:((s.aS.length:Int)=0)↔s.aS.length=0:=by omega
 simp only[hi,hi2];have cs:s.cn=0\/s.cn=1\/s.cn=2\/s.cn=3\/s.cn=4\/s.cn=5\/s.cn=6\/(s.cn≠0/\s.cn≠1/\s.cn≠2/\s.cn≠3/\s.cn≠4/\s.cn≠5/\s.cn≠6):=by omega
 rcases cs with h|h|h|h|h|h|h|⟨h0,h1,h2,h3,h4,h5,h6⟩
 case inr.inr.inr.inr.inr.inr.inr=>simp only[h0,h1,h2,h3,h4,h5,h6,ep,bB,gG]
 all_goals
  rw[h];simp only[Int.reduceEq,cI,ep,bC,bB,cB,gG,reduceIte];generalize J (s.aJ.length=0)=b1;generalize J (s.dG=0)=b2;generalize J (s.aS.length=0)=b3;generalize J (1<=s.aJ.length/\s.aJ.length<=32)=b4;generalize J ((0:Int)<=B0)=b5
  try rw[Bool.decide_and]
  generalize J (s.fN=0)=b6
  try generalize J (0<=s.fN)=b7
  try generalize J (s.fN<(f.ak.length:Int))=b8
  simp only[ZD]
  first|done|(congr 1;ac_rfl)
def Sr(s:ay)(hb:s.cn=6->1<=s.aJ.length/\s.aJ.length<=32):QN s=V (sD s):=by
 unfold QN sD;by_cases h6:s.cn=6
 ·obtain⟨b1,b2⟩:=hb h6;have hw:i64.wrap ((s.aJ.length:Int)-1)=(s.aJ.length:Int)-1:=aG;have hw2:((s.aJ.length:Int)-1).toNat=s.aJ.length-1:=by omega
  rw[hw,hw2,h6];generalize s.aJ[s.aJ.length-1]! =B;simp only[Int.reduceEq,Int.reduceLT,cI,ep,bC,bB,cB,gG,zh,reduceIte,B5,decide_eq_true_eq,yA];grind (splits:=30)
 ·rw[bX h6,bO h6];by_cases h2:s.cn=2
  ·rw[h2];simp only[Int.reduceEq,Int.reduceLT,cI,ep,bC,bB,cB,gG,zh,reduceIte,B5,decide_eq_true_eq,yA];grind (splits:=30)
  ·rw[bX h2,bO h2];simp only[Int.reduceEq,Int.reduceLT,cI,ep,bC,bB,cB,gG,zh,reduceIte,B5,decide_eq_true_eq,yA];grind (splits:=30)
def jj{f:aN}{s:ay}{last:Bool}(h:dI f s last=O):(s.cn=6->1<=s.aJ.length/\s.aJ.length<=32)/\(s.cn≠6->s.aJ.length=0)/\(s.cn≠3->s.cn≠4->s.aM=[])/\(s.cn≠3->s.aS=[])/\(s.cn≠4->0<=s.fN):=by
 unfold dI at h;simp only[B5,decide_eq_true_eq]at h;have e1:s.aM.length=0->s.aM=[]:=xg.1;have e2:s.aS.length=0->s.aS=[]:=xg.1;refine⟨λh6=> ?_,λh6=> ?_,λh3 h4=>e1 ?_,λh3=>e2 ?_,λh4=> ?_⟩<;>grind (splits:=40)
abbrev av0:=aa Int
def d237:Td 1 av0:= .c [] [] (.r 1 1 en (sr 0 3 sn) (λz=>z.2.1) (λx=>((()),(x,()))))
def azt:=(lc (qo 0) ln)
def aAt:=(sr 0 3 sn)
def PT(b0:aa Int):af av0:=if b0.length<=1073741824 then V (b0.mergeSort λx y=>J (x<=y))else G
def alS:Prop:=HY w9 237 1 azt aAt d237 (λg=>PT g.2.1)
def aEK:aZ->aZ:=eY w9 237 1 azt aAt d237 (λg=>PT g.2.1)
def abY(hv:alS){F:aZ}(h:aQ w9 F):aQ w9 (aEK F):=mS hv ⟨_,func237,by kernel_rfl,by kernel_rfl⟩ (λ_=>by kernel_rfl) h
def aj6:Go.Shelf.Ren:=⟨λ|189=>237|125=>257|257=>281|128=>300|129=>301|294=>317|295=>318|296=>319|297=>320|298=>321|299=>322|216=>323|300=>324|301=>325|328=>342|329=>333|330=>334|331=>343|332=>344|215=>326|343=>354|n=>n,λ|28=>27|3=>3|46=>240|0=>0|51=>322|53=>324|4=>4|183=>316|182=>315|131=>193|5=>5|9=>9|218=>344|222=>348|228=>356|229=>297|n=>n,λ|n=>n⟩
def Srt:Go.Proofs.Lays.n189 w9 aj6 where
 mixed:=by kernel_rfl
 f125:=func257.trans (congrArg V (by kernel_rfl))
 f128:=func300.trans (congrArg V (by kernel_rfl))
 f129:=func301.trans (congrArg V (by kernel_rfl))
 f189:=func237.trans (congrArg V (by kernel_rfl))
 f215:=func326.trans (congrArg V (by kernel_rfl))
 f216:=func323.trans (congrArg V (by kernel_rfl))
 f257:=func281.trans (congrArg V (by kernel_rfl))
 f294:=func317.trans (congrArg V (by kernel_rfl))
 f295:=func318.trans (congrArg V (by kernel_rfl))
 f296:=func319.trans (congrArg V (by kernel_rfl))
 f297:=func320.trans (congrArg V (by kernel_rfl))
 f298:=func321.trans (congrArg V (by kernel_rfl))
 f299:=func322.trans (congrArg V (by kernel_rfl))
 f300:=func324.trans (congrArg V (by kernel_rfl))
 f301:=func325.trans (congrArg V (by kernel_rfl))
 f328:=func342.trans (congrArg V (by kernel_rfl))
 f329:=func333.trans (congrArg V (by kernel_rfl))
 f330:=func334.trans (congrArg V (by kernel_rfl))
 f331:=func343.trans (congrArg V (by kernel_rfl))
 f332:=func344.trans (congrArg V (by kernel_rfl))
 f343:=func354.trans (congrArg V (by kernel_rfl))
 t0:=underlying0
 a0:=Tryz.isAgg0
 z0:=Tryz.sizeOf0
 v0:=Tryz.zeroValue0
 t3:=underlying3
 a3:=Tryz.isAgg3
 z3:=Tryz.sizeOf3
 v3:=Tryz.zeroValue3
 t4:=underlying4
 a4:=Tryz.isAgg4
 z4:=Tryz.sizeOf4
 v4:=Tryz.zeroValue4
 t5:=underlying5
 a5:=Tryz.isAgg5
 z5:=Tryz.sizeOf5
 v5:=Tryz.zeroValue5
 t9:=underlying9
 a9:=Tryz.isAgg9
 z9:=Tryz.sizeOf9
 v9:=Tryz.zeroValue9
 t28:=underlying27
 a28:=Tryz.isAgg27
 z28:=Tryz.sizeOf27
 v28:=Tryz.zeroValue27
 t46:=underlying240
 a46:=Tryz.isAgg240
 z46:=Tryz.sizeOf240
 v46:=Tryz.zeroValue240
 t51:=underlying322
 a51:=Tryz.isAgg322
 z51:=Tryz.sizeOf322
 v51:=Tryz.zeroValue322
 t53:=underlying324
 a53:=Tryz.isAgg324
 z53:=Tryz.sizeOf324
 v53:=Tryz.zeroValue324
 t131:=underlying193
 a131:=Tryz.isAgg193
 z131:=Tryz.sizeOf193
 v131:=Tryz.zeroValue193
 t182:=underlying315
 a182:=Tryz.isAgg315
 z182:=Tryz.sizeOf315
 v182:=Tryz.zeroValue315
 t183:=underlying316
 a183:=Tryz.isAgg316
 z183:=Tryz.sizeOf316
 v183:=Tryz.zeroValue316
 t218:=underlying344
 a218:=Tryz.isAgg344
 z218:=Tryz.sizeOf344
 v218:=Tryz.zeroValue344
 t222:=underlying348
 a222:=Tryz.isAgg348
 z222:=Tryz.sizeOf348
 v222:=Tryz.zeroValue348
 t228:=underlying356
 a228:=Tryz.isAgg356
 z228:=Tryz.sizeOf356
 v228:=Tryz.zeroValue356
 t229:=underlying297
 a229:=Tryz.isAgg297
 z229:=Tryz.sizeOf297
 v229:=Tryz.zeroValue297
def rN{A:Nat->Prop}{w:World}{l:aa Int}{us:aa Value}(h1:us.length=l.length*1)(h2:∀i,i<l.length->bN A w (uni.cells 3 l[i]!) ((us.drop (i*1)).take 1)):us=l.map (Value.int .i64):=by
 apply wB (by simpa using h1);intro i q1 q2;simp at q2;obtain⟨g1,g2⟩:=h2 i q2;have e:((us.drop (i*1)).take 1)[0]? =V us[i]:=by
  rw[wN (by omega),yD];simp[q1]
 have g3:=g2 0 (.lit (.int .i64 l[i]!)) us[i] rfl e;rw[g3.cH,yY,getElem!_pos l i q2]
def acY{A:Nat->Prop}{w:World}{l:aa Int}:∀i,i<l.length->bN A w (uni.cells 3 l[i]!) (((l.map (Value.int .i64)).drop (i*1)).take 1):=λi hi=>by
 have e:((l.map (Value.int .i64)).drop (i*1)).take 1=[Value.int .i64 l[i]!]:=by
  rw[xz,xu (by simpa using hi),List.take_succ_cons,xR,yY,getElem!_pos l i hi]
 rw[e];refine⟨rfl,λj a v q1 q2=> ?_⟩;cases j with
 |zero=>cases q1;cases q2;exact .lit _
 |succ j=>cases q1
def aoK(l b:aa Int)(hb:PT l=V b):K7 w9 237 [.own 0] [(0, .row 3 l)] 1 (gC w9 237 1 (d237.pat b)):=by
 unfold PT at hb;split at hb
 case isFalse=>cases hb
 rename_i hlen;have hbl:b=l.mergeSort λx y=>J (x<=y):=(zA.inj hb).symm;have hln:b.length=l.length:=by rw[hbl,List.length_mergeSort]
 intro ρ;have ho:gC w9 237 1 (d237.pat b)=⟨.iR [],[(0, .row 3 b)],1⟩:=by kernel_rfl
 show Go.Iv.Fn w9 237 [(cc.own 0).sub ρ] (bg.res ρ [(0, .row 3 l)]) _;rw[ho,dO];intro w A vs hr hd hn;obtain⟨hr1,hr2⟩:=hr;obtain⟨v,rfl⟩:∃v,vs=[v]:=List.length_eq_one_iff.1 hr1;have hv:v=ρ.v 0:=(hr2 0 _ v rfl rfl).cH;subst hv;generalize hv:ρ.v 0=v at*;have hok:=hd.1 (.row v 3 l) (by show _∈[cE.row (ρ.v 0) 3 l];rw[hv];exact zy.2 rfl);obtain⟨us,h1,h2,h3⟩:=hok;have hσ:bg.res ρ [(0, .row 3 l)]=[cE.row v 3 l]:=by show [cE.row (ρ.v 0) 3 l]=_;rw[hv]
 have hus:us=l.map (Value.int .i64):=rN h1.1 h3;rw[hσ]at hd hn ⊢;have fin:∀w':World,gD w' v 3 1 b.length (b.map (Value.int .i64))->Kp (bD [cE.row v 3 l]) w w'->∃v_1 av σ',Ending.returned (Value.tuple #[])=Ending.returned v_1/\
   (∃ρ',oS 1 ρ ρ'/\av=(cc.iR (dz:=uni.dz) []).sub ρ'/\List.Perm σ' (bg.res ρ' [(0, .row 3 b)]))/\Tr ⟨w,A,bD [cE.row v 3 l]⟩ (bD [cE.row v 3 l]) [cE.row v 3 l] w σ' w'/\Rel (al ⟨w,A,bD [cE.row v 3 l]⟩ σ') w' av v_1:=λw' hrow hk=>by
  have hbk:bD [cE.row v 3 b]=bD [cE.row v 3 l]:=rfl;have hal:∀x,al ⟨w,A,bD [cE.row v 3 l]⟩ [cE.row v 3 l] x->al ⟨w,A,bD [cE.row v 3 l]⟩ [cE.row v 3 b] x:=λx h=>h;refine⟨_, .iR [],[cE.row v 3 b],rfl,⟨ρ,λi _=>⟨rfl,rfl⟩,by simp only[cc.sub,yS],by show List.Perm _ [cE.row (ρ.v 0) 3 b];rw[hv]⟩,⟨⟨hk,?_,?_,?_⟩,hk,λx _ h=>⟨hal x h,h.2⟩⟩,Rel.iR [] [] rfl (λj a v q=>by cases q)⟩
  ·intro r hr;rw[zy.1 hr];exact⟨b.map (Value.int .i64),hrow,λi _=>rfl,acY⟩
  ·rw[hbk];exact hn
  ·intro x hx;exact .inl hx
 obtain⟨h1l,hcase⟩:=h1;rcases hcase with ⟨p,hvp,hl0⟩|⟨gb,cap,cur,hvp,hg,q1,q2,q3,q4⟩
 ·have hl:l=[]:=xg.1 hl0;have hbn:b=[]:=by rw[hbl,hl,List.mergeSort_nil]
  subst hvp;refine(Go.Proofs.Any.slices_Sort_int_none Srt p 0 w).mono λe w' he=> ?_;obtain⟨rfl,rfl⟩:=he;refine fin w' ?_ (Kp.refl _ _);rw[hbn];exact⟨rfl, .inl ⟨p,rfl,rfl⟩⟩
 ·subst hvp;have hgs:gb<w.heap.size:=(xE.1 hg).1;have q4:cur.toList.take (l.length*1)=us:=q4;have q3:cur.size=(cap+1)*1:=q3;rw[xz]at q4;have q1:l.length<=cap+1:=q1;have hbc:b.length<=cap+1:=by rw[hln];exact q1
  have hH:=holds_of_blockI (ss:=l) hg (by rw[q4,hus]);refine(Go.Proofs.Any.slices_Sort_int Srt gb 0 (cap+1) l w hH hgs (by omega)).mono λe w' he=> ?_;obtain⟨rfl,n,os,rfl⟩:=he;rw[<-hbl];obtain⟨k1,k2,k3,k4,k5⟩:=grownBy_sortedI (w:=w) (g:=gb) (n:=n) (os:=os) b.toArray;refine fin _ ?_ ⟨k1,k2,k3,Nat.le_add_right _ _,k4,λk hk hX=>k5 k hk (λh=>hX ?_)⟩
  ·refine⟨by simp, .inr ⟨gb,cap,_,by rw[hln];rfl,heap_sortedI _ hg,hbc,q2,by simp[Go.Sort.putCells,q3],?_⟩⟩;rw[xz];exact take_putCellsI cur b (by rw[q3,xz];exact hbc)
  ·cases h;exact bT.2 ⟨_,zy.2 rfl,rfl⟩
def aBr:alS:=λg b hb=>aoK g.2.1 b hb
abbrev E35:=aa Int
def d35:Td 0 E35:= .c [] [2] (.t (cA.s 2 [] 3) (.c [] [2] (.r 0 1 (ec 2 (qo 0) en) (sr 0 3 sn) (λz=>z.2.1) (λx=>(((),()),(x,()))))))
def A35:=(lc (ql 3) ln)
def Qq(a0:aa Int):af E35:=if a0.length<=1073741824 then V a0 else G
def arI:cR w9 cZ 0 300 35 .no:=bA (l:=[]) func35 (aV (by kernel_rfl)) (by kernel_rfl) aF
def aDS(x:Int)(xs:aa Int):bL w9 cZ 300 .no 35 [.sl 3 (x::xs)] [] 0 d35.rd=if([]++(x::xs)).length<=1073741824 then V ([]++(x::xs))else G:=by kernel_rfl
def aEO(c:Nat):bL w9 cZ 300 .no 35 [.lit (.slice G 0 c)] [] 0 d35.rd=V []:=by kernel_rfl
def aFd(a:Addr)(c:Nat):bL w9 cZ 300 .no 35 [.lit (.slice (V a) 0 c)] [] 0 d35.rd=V []:=by kernel_rfl
def h35:HL w9 35 A35 d35 (λg=>Qq g.1):=λg r h=>by
 obtain⟨a0,_⟩:=g;have h:Qq a0=V r:=h;cases a0 with
 |cons x xs=>exact(jK (out:=λp=>gC w9 35 0 (d35.pat p)) (p:=r) aR arI d35.ok (λp=>by kernel_rfl) (iB (by kernel_rfl)) (ig (by kernel_rfl)) ((aDS x xs).trans (by rw[yw];exact h))).2
 |nil=>
  cases h;exact Js (λc=>(jK (out:=λp=>gC w9 35 0 (d35.pat p)) (p:=[]) aR arI d35.ok (λp=>by kernel_rfl) (iB (by kernel_rfl)) (ig (by kernel_rfl)) (aEO c)).2) (λa c=>(jK (out:=λp=>gC w9 35 0 (d35.pat p)) (p:=[]) aR arI d35.ok (λp=>by kernel_rfl) (iB (by kernel_rfl)) (ig (by kernel_rfl)) (aFd a c)).2)
def JR:=eL w9 35 S A35 d35 (λg=>Qq g.1)
def mb{F:aZ}(h:aQ w9 F):aQ w9 (JR F):=cO (sc:=jr) cg h35 ⟨_,func35,by kernel_rfl,by kernel_rfl⟩ (λ_=>by kernel_rfl) (λ_=>by kernel_rfl) h
def MR{F:aZ}{f:Nat}(hne:zf f 35=S)(h:bw F f):bw (JR F) f:=XN hne h
structure nO where
 t21:List Int
 (t22 t23:Int)
 (b0 b1 b2:aH)
def RK:Td 0 nO:= .c [] [2,4,7,21,22,23] (.r 0 4 (ec 2 (qp 0 0) (ec 4 (qp 1 0) (ec 7 (qp 2 0) (ec 21 (qo 3) (ec 22 aL (ec 23 aL en)))))) (sb 0 34 (lg 34) (sb 1 34 (lg 34) (sb 2 34 (lg 34) (sr 3 3 sn)))) (λz=>⟨z.q.1,z.1.q.1,z.1.q.2.1,z.2.1,z.t.1,z.t.2.1⟩) (λx=>(((),(),(),(),x.t22,x.t23,()),(x.b0,x.b1,x.b2,x.t21,()))))
def vL(p:nO):af (af nO):=
 bif J (p.t23<p.t22)then if 0<=p.t23/\p.t23<p.t21.length then if 3=3/\p.t23.toNat<p.t21.length then bif bif iU p.t21[p.t23.toNat]! then S else O then V (G)else match BO p.b0 p.t21[p.t23.toNat]! with|G=>G|V r1=>bif bif fA r1.fst then S else O then match lW p.b2 (gO p.t21[p.t23.toNat]!)with|G=>G|V r2=>V (V (nO.mk p.t21 p.t22 (i64.wrap (p.t23+1)) r1.snd p.b1 r2))else V (V (nO.mk p.t21 p.t22 (i64.wrap (p.t23+1)) r1.snd p.b1 p.b2))else G else G else V (G)
def K3:=bJ (vL)
abbrev ayA:=aH×Int
def d161:Td 0 ayA:= .c [] [4,5] (.r 0 1 (ec 4 (qp 0 0) (ec 5 aL en)) (sb 0 34 (lg 34) sn) (λz=>(z.2.1,z.1.2.1)) (λx=>(((),x.2,()),(x.1,()))))
def Mk(a0:aH)(a1:aa Int):af ayA:=
 match tq a0 with|G=>G|V r3=>bif bif r3 then S else O then V (aH.mk 0 0 0,1)else match Qq a1 with|G=>G|V r4=>match PT r4 with|G=>G|V r5=>match K3 (nO.mk r5 (↑(zP r5):Int) 0 a0 (aH.mk 0 0 0) iL)with|G=>G|V r6=>bif J (r6.t23<r6.t22)then if 0<=r6.t23/\r6.t23<r6.t21.length then if 3=3/\r6.t23.toNat<r6.t21.length then bif bif iU r6.t21[r6.t23.toNat]! then S else O then V (aH.mk 0 0 0,3)else match BO r6.b0 r6.t21[r6.t23.toNat]! with|G=>G|V r7=>bif bif fA r7.fst then S else O then match lW r6.b2 (gO r6.t21[r6.t23.toNat]!)with|G=>G|V r8=>G else G else G else G else match lW r6.b2 r6.b0 with|G=>G|V r9=>V (r9,0)
def azU:=eL w9 161 S (lc (qg 34) (lc (ql 3) ln)) d161 (λg=>Mk g.1 g.2.1)
def acW:EO azU:=λh=>kL (an:=(noTwo (noTwo (noTwo (noTwo (noTwo (.two (noTwo (RK.lp K3 .no)) .no))))))) (l:=[(aW f161 0,(RK.lp K3 .no))]) func161 (abY aBr (jU (rz (qV (ja (Jm (uQ (kJ (mb aR))))))))) (az (aO RK) aF) h
def Nl{l:aa Int}(h:fZ l=O):∀{i j:Nat},i<j->j<l.length->l[i]! <l[j]! :=by
 intro i j hij hj;induction j with
 |zero=>omega
 |succ j ih=>
  have h1:=(jL l).1 h j hj;by_cases hi:i=j
  ·subst hi;exact h1
  ·have:=ih (by omega) (by omega);omega
def N8{l:aa Int}(h:fZ l=O):l.mergeSort (λx y=>J (x<=y))=l:=by
 apply List.mergeSort_of_pairwise;rw[List.pairwise_iff_getElem];intro i j hi hj hij;have:=Nl h hij hj;rw[getElem!_pos l i hi,getElem!_pos l j hj]at this;simp;omega
def Gl:aa Int->Int->Int
 |[],x=>x
 |b::l,x=>if x<=b then b else Gl l x
def nX(l:aa Int)(b x:Int):Gl (l++[b]) x=if(∃c∈l,x<=c)then Gl l x else if x<=b then b else x:=by
 induction l with
 |nil=>simp[Gl]
 |cons c l ih=>
  show (if x<=c then c else Gl (l++[b]) x)=_;by_cases h:x<=c
  ·rw[bE h,bE ⟨c,zo ..,h⟩];show c=if x<=c then c else Gl l x
   rw[bE h]
  ·rw[bO h,ih];show _=if _ then(if x<=c then c else Gl l x)else _
   rw[bO h];by_cases k:∃c∈l,x<=c
   ·obtain⟨d,hd,hx⟩:=k;rw[bE ⟨d,hd,hx⟩,bE ⟨d,zO _ hd,hx⟩]
   ·rw[bO k,bO (show ¬∃d∈c::l,x<=d from λ⟨d,hd,hx⟩=>by
     rcases zD.mp hd with rfl|hd
     ·exact h hx
     ·exact k ⟨d,hd,hx⟩)]
def agx{l:aa Int}{x:Int}(h:∃c∈l,x<=c):Gl l x∈l:=by
 induction l with
 |nil=>obtain⟨c,hc,_⟩:=h;cases hc
 |cons c l ih=>
  show (if x<=c then c else Gl l x)∈_;by_cases k:x<=c
  ·rw[bE k];exact zo ..
  ·rw[bO k];obtain⟨d,hd,hx⟩:=h;rcases zD.mp hd with rfl|hd
   ·exact dD hx k
   ·exact zO _ (ih ⟨d,hd,hx⟩)
def Kc{l:aa Int}{x:Int}(h:¬∃c∈l,x<=c):Gl l x=x:=by
 induction l with
 |nil=>rfl
 |cons c l ih=>
  show (if x<=c then c else Gl l x)=_;rw[bO (λk=>h ⟨c,zo ..,k⟩),ih (λ⟨d,hd,hx⟩=>h ⟨d,zO _ hd,hx⟩)]
def vH(a:aH)(l:aa Int)(y:Int):Prop:=∃x,bU a x/\y=Gl l x
def Vr{a:aH}(h:NV a){l:aa Int}(hl:∀b∈l,cC b){y:Int}(k:vH a l y):cC y:=by
 obtain⟨x,hx,rfl⟩:=k;by_cases c:∃c∈l,x<=c
 ·exact hl _ (agx c)
 ·rw[Kc c];exact WU h hx
structure Nd (a:aH) (l:List Int) (i:Nat) (s:aH×aH):Prop where
 rest:Ex (λx=>bU a x/\∀b∈l.take i,b<x) s.1
 out:mF (λy=>∃x,bU a x/\(∃b∈l.take i,x<=b)/\y=Gl (l.take i) x) s.2
 v:NV s.2
def Nd.step{a:aH}{l:aa Int}{i:Nat}{s:aH×aH}(hi:i<l.length)(hl:∀b∈l,cC b)(h:Nd a l i s):
  ∃u r,BO s.1 l[i]! =V (u,r)/\NV u/\(fA u=O->Nd a l (i+1) (r,s.2))/\(fA u=S->Nd a l (i+1) (r,cV s.2 (fK l[i]!))):=by
 obtain⟨u,r,e,p1,p2⟩:=u6 h.rest.1 l[i]!;have hb:=hl _ (bh hi);have mu:∀x,bU u x↔bU a x/\(∀b∈l.take i,b<x)/\x<=l[i]! :=λx=>
  ⟨λk=>let ⟨k1,k2⟩:=(p1.2 x).mp k;let ⟨k3,k4⟩:=(h.rest.2 x).mp k1;⟨k3,k4,k2⟩,λ⟨k1,k2,k3⟩=>(p1.2 x).mpr ⟨(h.rest.2 x).mpr ⟨k1,k2⟩,k3⟩⟩
 have tk:l.take (i+1)=l.take i++[l[i]!]:=bK hi;have mr:Ex (λx=>bU a x/\∀b∈l.take (i+1),b<x) r:=⟨p2.1,λx=>by
  rw[tk];constructor
  ·intro k;obtain⟨k1,k2⟩:=(p2.2 x).mp k;obtain⟨k3,k4⟩:=(h.rest.2 x).mp k1;refine⟨k3,λb hb=> ?_⟩;rcases zW.mp hb with hb|hb
   ·exact k4 b hb
   ·rw[zy.mp hb];exact k2
  ·rintro⟨k1,k2⟩;exact(p2.2 x).mpr ⟨(h.rest.2 x).mpr ⟨k1,λb hb=>k2 b (yJ _ hb)⟩,k2 _ (yK _ (zy.mpr rfl))⟩⟩
 have eq:∀y,((∃x,bU a x/\(∃b∈l.take i,x<=b)/\y=Gl (l.take i) x)\/(y=l[i]!/\∃x,bU u x))↔(∃x,bU a x/\(∃b∈l.take (i+1),x<=b)/\y=Gl (l.take (i+1)) x):=λy=>by
  rw[tk];constructor
  ·rintro(⟨x,k1,⟨b,hb,k2⟩,rfl⟩|⟨rfl,x,hx⟩)
   ·exact⟨x,k1,⟨b,yJ _ hb,k2⟩,by rw[nX,bE ⟨b,hb,k2⟩]⟩
   ·obtain⟨k1,k2,k3⟩:=(mu x).mp hx;exact⟨x,k1,⟨_,yK _ (zy.mpr rfl),k3⟩,by rw[nX,bO (λ⟨b,hb,k⟩=>by have:=k2 b hb;omega),bE k3]⟩
  ·rintro⟨x,k1,⟨b,hb,k2⟩,rfl⟩;by_cases c:∃b∈l.take i,x<=b
   ·exact .inl ⟨x,k1,c,by rw[nX,bE c]⟩
   ·have k3:x<=l[i]! :=by
     rcases zW.mp hb with hb|hb
     ·exact dD ⟨b,hb,k2⟩ c
     ·rw[<-zy.mp hb];exact k2
    refine .inr ⟨by rw[nX,bO c,bE k3],x,(mu x).mpr ⟨k1,λb hb=> ?_,k3⟩⟩;rcases Int.lt_or_le b x with q|q
    ·exact q
    ·exact dD ⟨b,hb,q⟩ c
 obtain⟨t1,t2⟩:=nv h.out h.v hb (Ex.rep (P:=bU u) ⟨p1.1,λx=>Iff.rfl⟩) p1.1;refine⟨u,r,e,p1.1,λk=>⟨mr,(t1 k).congr eq,h.v⟩,λk=>⟨mr,(t2 k).congr eq,eT h.v (pX hb)⟩⟩
def an3{l:aa Int}(h:l.length<=1073741824):Qq l=V l:=by unfold Qq;rw[bE h]
def ZN{a:aH}(h:NV a){l:aa Int}(hr:fZ l=O)(hn:l.length<=1000000)(hl:∀b∈l,cC b):∃c,Mk a l=V (c,0)/\mF (vH a l) c:=by
 unfold Mk;rw[eS,ew h];simp only[bC,bB];rw[an3 (by omega)];simp only;rw[show PT l=V l from by unfold PT;rw[gY,N8 hr]];simp only;obtain⟨⟨r,o⟩,e1,hI⟩:=dc (rnd:=vL) l.length (λi (s:aH×aH)=>nO.mk l l.length (i:Nat) s.1 (aH.mk 0 0 0) s.2) (Nd a l)
  (λi s hi hI=>by
   obtain⟨u,r,e,vu,q1,q2⟩:=hI.step hi hl;have hb:=hl _ (bh hi);have hbb:iU l[i]! =O:=by rw[jO];exact bY hb
   unfold vL;simp only;rw[nH,bC,gY,ze,bE ⟨trivial,hi⟩,hbb];simp only[bC,bB];rw[e];simp only;rw[fu hi hn];cases c:fA u with
   |true=>exact⟨(r,s.2),rfl,q1 c⟩
   |false=>
    simp only[bC,bB];rw[iH hI.v (.inr (show NN (gO l[i]!)from NN.one hb.1 hb.2))];exact⟨(r,cV s.2 (fK l[i]!)),rfl,q2 c⟩)
  (λs hI=>by
   unfold vL;simp only;rw[gh];rfl) (b:=(a,cG)) ⟨⟨h,λx=>⟨λk=>⟨k,λb hb=>by simp at hb⟩,λk=>k.1⟩⟩, .none λx ⟨_,_,⟨b,hb,_⟩,_⟩=>by simp at hb, .inl rfl⟩
 have e1:bJ vL (nO.mk l l.length 0 a (aH.mk 0 0 0) iL)=V (nO.mk l l.length (l.length:Nat) r (aH.mk 0 0 0) o):=e1;rw[show K3=bJ vL from rfl,e1];simp only;rw[gh,bB,iH hI.v hI.rest.1];refine⟨_,rfl,(hI.out.join hI.rest.rep hI.v hI.rest.1).congr λy=> ?_⟩;rw[zB];constructor
 ·rintro(⟨x,k1,_,k3⟩|⟨k1,k2⟩)
  ·exact⟨x,k1,k3⟩
  ·exact⟨y,k1,(Kc λ⟨b,hb,k⟩=>by have:=k2 b hb;omega).symm⟩
 ·rintro⟨x,k1,k2⟩;by_cases c:∃b∈l,x<=b
  ·exact .inl ⟨x,k1,c,k2⟩
  ·right;rw[Kc c]at k2;subst k2;exact⟨k1,λb hb=>by
    rcases Int.lt_or_le b y with q|q
    ·exact q
    ·exact dD ⟨b,hb,q⟩ c⟩
structure kZ where
 t1:List Int
 t9:Int
 t10:Bool
 t11:Int
 (b0 b1 b2:aH)
def JX(p:kZ):af (af kZ):=
 bif J (p.t11<p.t1.length)then if 0<=p.t11/\p.t11<p.t1.length then bif J (((p.t1,(),(),(),p.t9,p.t10,p.t11,()),p.b0,p.b1,p.b2,()).snd.snd.snd.fst.ag<=((p.t1,(),(),(),p.t9,p.t10,p.t11,()),p.b0,p.b1,p.b2,()).fst.fst[((p.t1,(),(),(),p.t9,p.t10,p.t11,()),p.b0,p.b1,p.b2,()).fst.snd.snd.snd.snd.snd.snd.fst.toNat]!)then bif bif p.t10 then S else O then if 0<=p.t11/\p.t11<p.t1.length then V (V (kZ.mk p.t1 p.t1[p.t11.toNat]! O (i64.wrap (p.t11+1)) p.b0 p.b1 p.b2))else G else if 0<=p.t11/\p.t11<p.t1.length then bif J (((p.t1,(),(),(),p.t9,p.t10,p.t11,()),p.b0,p.b1,p.b2,()).fst.fst[((p.t1,(),(),(),p.t9,p.t10,p.t11,()),p.b0,p.b1,p.b2,()).fst.snd.snd.snd.snd.snd.snd.fst.toNat]! <((p.t1,(),(),(),p.t9,p.t10,p.t11,()),p.b0,p.b1,p.b2,()).fst.snd.snd.snd.snd.fst)then if 0<=p.t11/\p.t11<p.t1.length then V (V (kZ.mk p.t1 p.t1[p.t11.toNat]! O (i64.wrap (p.t11+1)) p.b0 p.b1 p.b2))else G else V (V (kZ.mk p.t1 p.t9 p.t10 (i64.wrap (p.t11+1)) p.b0 p.b1 p.b2))else G else V (V (kZ.mk p.t1 p.t9 p.t10 (i64.wrap (p.t11+1)) p.b0 p.b1 p.b2))else G else V (G)
def PZ:=bJ (JX)
structure nI where
 t1:List Int
 (b0 b1 b2:aH)
def tJ(p:nI):af (af nI):=
 bif bif lS p.b2 then S else O then match PZ (kZ.mk p.t1 0 S 0 p.b0 p.b1 p.b2)with|G=>G|V r1=>bif J (r1.t11<r1.t1.length)then if 0<=r1.t11/\r1.t11<r1.t1.length then bif J (((r1.t1,(),(),(),r1.t9,r1.t10,r1.t11,()),r1.b0,r1.b1,r1.b2,()).snd.snd.snd.fst.ag<=((r1.t1,(),(),(),r1.t9,r1.t10,r1.t11,()),r1.b0,r1.b1,r1.b2,()).fst.fst[((r1.t1,(),(),(),r1.t9,r1.t10,r1.t11,()),r1.b0,r1.b1,r1.b2,()).fst.snd.snd.snd.snd.snd.snd.fst.toNat]!)then bif bif r1.t10 then S else O then if 0<=r1.t11/\r1.t11<r1.t1.length then G else G else if 0<=r1.t11/\r1.t11<r1.t1.length then bif J (((r1.t1,(),(),(),r1.t9,r1.t10,r1.t11,()),r1.b0,r1.b1,r1.b2,()).fst.fst[((r1.t1,(),(),(),r1.t9,r1.t10,r1.t11,()),r1.b0,r1.b1,r1.b2,()).fst.snd.snd.snd.snd.snd.snd.fst.toNat]! <((r1.t1,(),(),(),r1.t9,r1.t10,r1.t11,()),r1.b0,r1.b1,r1.b2,()).fst.snd.snd.snd.snd.fst)then if 0<=r1.t11/\r1.t11<r1.t1.length then G else G else G else G else G else G else bif bif r1.t10 then S else O then match lE r1.b1 r1.b2 with|G=>G|V r2=>V (G)else match lE r1.b1 (aH.mk r1.t9 r1.t9 0)with|G=>G|V r3=>match m42 r1.b2 r1.t9 with|G=>G|V r4=>V (V (nI.mk r1.t1 r1.b0 r3 r4))else V (G)
def XQ:=bJ (tJ)
structure tv where
 t1:List Int
 t6:Int
 (b0 b1:aH)
def Bf(p:tv):af (af tv):=
 bif J (p.t6<p.t1.length)then if 0<=p.t6/\p.t6<p.t1.length then bif bif n9 p.t1[p.t6.toNat]! then S else O then V (G)else V (V (tv.mk p.t1 (i64.wrap (p.t6+1)) p.b0 p.b1))else G else V (G)
def Zz:=bJ (Bf)
abbrev aCW:=aH×Int
def P8(a0:aH)(a1:aa Int):af aCW:=
 match Xg a0 with|G=>G|V r5=>bif bif r5 then S else O then V (aH.mk 0 0 0,1)else match Zz (tv.mk a1 0 a0 (aH.mk 0 0 0))with|G=>G|V r6=>bif J (r6.t6<r6.t1.length)then if 0<=r6.t6/\r6.t6<r6.t1.length then bif bif n9 r6.t1[r6.t6.toNat]! then S else O then V (aH.mk 0 0 0,3)else G else G else match XQ (nI.mk r6.t1 r6.b1 sj r6.b0)with|G=>G|V r7=>bif bif lS r7.b2 then S else O then match PZ (kZ.mk r7.t1 0 S 0 r7.b0 r7.b1 r7.b2)with|G=>G|V r8=>bif J (r8.t11<r8.t1.length)then if 0<=r8.t11/\r8.t11<r8.t1.length then bif J (((r8.t1,(),(),(),r8.t9,r8.t10,r8.t11,()),r8.b0,r8.b1,r8.b2,()).snd.snd.snd.fst.ag<=((r8.t1,(),(),(),r8.t9,r8.t10,r8.t11,()),r8.b0,r8.b1,r8.b2,()).fst.fst[((r8.t1,(),(),(),r8.t9,r8.t10,r8.t11,()),r8.b0,r8.b1,r8.b2,()).fst.snd.snd.snd.snd.snd.snd.fst.toNat]!)then bif bif r8.t10 then S else O then if 0<=r8.t11/\r8.t11<r8.t1.length then G else G else if 0<=r8.t11/\r8.t11<r8.t1.length then bif J (((r8.t1,(),(),(),r8.t9,r8.t10,r8.t11,()),r8.b0,r8.b1,r8.b2,()).fst.fst[((r8.t1,(),(),(),r8.t9,r8.t10,r8.t11,()),r8.b0,r8.b1,r8.b2,()).fst.snd.snd.snd.snd.snd.snd.fst.toNat]! <((r8.t1,(),(),(),r8.t9,r8.t10,r8.t11,()),r8.b0,r8.b1,r8.b2,()).fst.snd.snd.snd.snd.fst)then if 0<=r8.t11/\r8.t11<r8.t1.length then G else G else G else G else G else G else bif bif r8.t10 then S else O then match lE r8.b1 r8.b2 with|G=>G|V r9=>V (r9,0)else match lE r8.b1 (aH.mk r8.t9 r8.t9 0)with|G=>G|V r10=>match m42 r8.b2 r8.t9 with|G=>G|V r11=>G else V (r7.b1,0)
def SE{l:aa Int}(hr:fZ l=O)(hn:l.length<=1000000)(b0 b1 c:aH):∃best found,PZ (kZ.mk l 0 S 0 b0 b1 c)=V (kZ.mk l best found l.length b0 b1 c)/\
  ((found=S/\∀j,j<l.length->l[j]! <c.ag)\/(found=O/\∃j,j<l.length/\best=l[j]!/\c.ag<=l[j]!/\∀k,k<j->l[k]! <c.ag)):=by
 obtain⟨⟨best,found⟩,e1,hI⟩:=dc (rnd:=JX) l.length (λi (s:Int×Bool)=>kZ.mk l s.1 s.2 (i:Nat) b0 b1 c)
  (λi s=>(s.2=S/\∀j,j<i->l[j]! <c.ag)\/(s.2=O/\∃j,j<i/\s.1=l[j]!/\c.ag<=l[j]!/\∀k,k<j->l[k]! <c.ag))
  (λi s hi hI=>by
   have hci:(0:Int)<=(i:Int)/\(i:Int)<(l.length:Int):=by omega
   unfold JX;simp only;rw[bY hci.2,bC,bE hci,ze,fu hi hn];by_cases h1:c.ag<=l[i]!
   ·rw[bY h1,bC];rcases hI with ⟨h2,h3⟩|⟨h2,j,h3,h4,h5,h6⟩
    ·rw[h2];simp only[bC,bB];rw[bE hci];exact⟨(l[i]!,O),rfl, .inr ⟨rfl,i,by omega,rfl,h1,h3⟩⟩
    ·rw[h2];simp only[bC,bB];have hlt:l[j]! <l[i]! :=Nl hr h3 hi;rw[bE hci,bX (show ¬l[i]! <s.1 by omega),bB];exact⟨(s.1,O),rfl, .inr ⟨rfl,j,by omega,h4,h5,h6⟩⟩
   ·rw[bX h1,bB];refine⟨s,rfl,?_⟩;rcases hI with ⟨h2,h3⟩|⟨h2,j,h3,h4⟩
    ·refine .inl ⟨h2,λj hj=> ?_⟩;rcases y9.mp hj with k|rfl
     ·exact h3 j k
     ·omega
    ·exact .inr ⟨h2,j,by omega,h4⟩)
  (λs hI=>by
   unfold JX;simp only;rw[gh];rfl) (b:=((0:Int),S)) (.inl ⟨rfl,λj hj=>dD hj (yG _)⟩)
 exact⟨best,found,e1,hI⟩
def Vv{l:aa Int}{j:Nat}{x:Int}(hj:j<l.length)(h1:∀k,k<j->l[k]! <x)(h2:x<=l[j]!):Gl l x=l[j]! :=by
 induction l generalizing j with
 |nil=>exact dD hj (yG _)
 |cons b l ih=>
  cases j with
  |zero=>exact bE h2
  |succ j=>
   have h0:b<x:=h1 0 (by omega);show (if x<=b then b else Gl l x)=_;rw[v7];exact ih (j:=j) (by simpa using hj) (λk hk=>h1 (k+1) (by omega)) h2
def get_of_mem{l:aa Int}{b:Int}(h:b∈l):∃j,j<l.length/\l[j]! =b:=by
 obtain⟨j,hj,rfl⟩:=yZ h;exact⟨j,hj,getElem!_pos l j hj⟩
def aaU{a:aH}(h:NV a){l:aa Int}(hr:fZ l=O)(hn:l.length<=1000000)(hl:∀b∈l,cC b):∃c,P8 a l=V (c,0)/\mF (vH a l) c:=by
 unfold P8;rw[gq,ew h];simp only[bC,bB];have e0:bJ Bf (tv.mk l 0 a (aH.mk 0 0 0))=V (tv.mk l (l.length:Nat) a (aH.mk 0 0 0)):=MC (rnd:=Bf) (λi=>tv.mk l (i:Nat) a (aH.mk 0 0 0)) l.length (λi hi=>by
  unfold Bf;simp only;rw[nH,bC,gY,ze,FU,bY (hl _ (bh hi)),fu hi hn];rfl) (λr=>by
  unfold Bf;simp only;rw[gh];intro h;cases h)
 rw[show Zz=bJ Bf from rfl,e0];simp only;rw[gh,bB];obtain⟨z,e1,⟨o,r,T,rfl,hr1,ho,vo⟩,hs⟩:=lB (rnd:=tJ) (λp=>∃o r T,p=nI.mk l (aH.mk 0 0 0) o r/\Ex (λx=>bU a x/\T<x) r/\mF (λy=>∃x,bU a x/\x<=T/\y=Gl l x) o/\NV o)
  (λp=>if lS p.b2=O then 0 else(1099511627777-p.b2.ag).toNat) (λp p' ⟨o,r,T,hp,h1,h2,h3⟩ hq=>by
  subst hp;have hq:tJ (nI.mk l (aH.mk 0 0 0) o r)=V (V p'):=hq;unfold tJ at hq;simp only at hq;rcases h1.1 with rfl|vr
  ·rw[oh]at hq;cases hq
  ·rw[iz vr]at hq;simp only[bC,bB]at hq;obtain⟨best,found,e2,h4⟩:=SE hr hn (aH.mk 0 0 0) o r;rw[e2]at hq;simp only at hq;rw[gh,bB]at hq;rcases h4 with ⟨rfl,h4⟩|⟨rfl,j,hj,rfl,h5,h6⟩
   ·simp only[bC,bB]at hq;rw[l8 h3 h1.1]at hq;cases hq
   ·simp only[bC,bB]at hq;have hb:=hl _ (bh hj);obtain⟨u,f1,s1⟩:=Ad h1.1 l[j]!;rw[l8 h3 (.inr (show NN (aH.mk l[j]! l[j]! 0)from NN.one hb.1 hb.2)),f1]at hq;simp only[zA.injEq]at hq;subst hq;have lo1:=(h1.2 r.ag).mp ⟨zm _,vr.le,⟨0,by omega⟩⟩;refine⟨⟨_,_,l[j]!,rfl,⟨s1.1,λx=> ?_⟩,?_,eT h3 (pX hb)⟩,?_⟩
    ·constructor
     ·intro k;obtain⟨k1,k2⟩:=(s1.2 x).mp k;exact⟨((h1.2 x).mp k1).1,k2⟩
     ·rintro⟨k1,k2⟩;exact(s1.2 x).mpr ⟨(h1.2 x).mpr ⟨k1,by omega⟩,k2⟩
    ·refine(h2.join (Ji l[j]!) h3 (pX hb)).congr λy=> ?_;have mid:∀x,bU a x->T<x->x<=l[j]!->Gl l x=l[j]! :=λx k1 k2 k3=>by
      have k4:=(h1.2 x).mpr ⟨k1,k2⟩;have:=k4.1;exact Vv hj (λk hk=>by have:=h6 k hk;omega) k3
     constructor
     ·rintro(⟨x,k1,k2,k3⟩|rfl)
      ·exact⟨x,k1,by omega,k3⟩
      ·exact⟨r.ag,lo1.1,h5,(mid _ lo1.1 lo1.2 h5).symm⟩
     ·rintro⟨x,k1,k2,rfl⟩;by_cases c:x<=T
      ·exact .inl ⟨x,k1,c,rfl⟩
      ·exact .inr (mid x k1 (by omega) k2)
    ·show (if lS u=O then 0 else(1099511627777-u.ag).toNat)<(if lS r=O then 0 else(1099511627777-r.ag).toNat);rw[bO (show ¬lS r=O by rw[iz vr];decide)];have:=vr.le;have:=vr.hi;rcases s1.1 with rfl|vu
     ·rw[bE oh];omega
     ·rw[bO (show ¬lS u=O by rw[iz vu];decide)];have:=(s1.2 u.ag).mp ⟨zm _,vu.le,⟨0,by omega⟩⟩;have:=this.2;omega) ⟨cG,a,a.ag-1,rfl,⟨h,λx=>⟨λk=>⟨k,by have:=k.1;omega⟩,λk=>k.1⟩⟩, .none λy ⟨x,k1,k2,_⟩=>by have:=k1.1;omega, .inl rfl⟩
 rw[show XQ=bJ tJ from rfl,show nI.mk l (aH.mk 0 0 0) sj a=nI.mk l (aH.mk 0 0 0) cG a from rfl,e1];simp only;rcases hr1.1 with rfl|vr
 ·rw[oh];refine⟨o,rfl,ho.congr λy=>⟨λ⟨x,k1,_,k3⟩=>⟨x,k1,k3⟩,λ⟨x,k1,k3⟩=>⟨x,k1,?_,k3⟩⟩⟩;rcases Int.lt_or_le T x with q|q
  ·exact dD ((hr1.2 x).mpr ⟨k1,q⟩) BI
  ·exact q
 ·rw[iz vr];simp only[bC,bB];obtain⟨best,found,e2,h4⟩:=SE hr hn (aH.mk 0 0 0) o r;rw[e2];simp only;rw[gh,bB];rcases h4 with ⟨rfl,h4⟩|⟨rfl,j,hj,rfl,h5,h6⟩
  ·simp only[bC,bB];rw[l8 vo hr1.1];refine⟨_,rfl,(ho.join hr1.rep vo hr1.1).congr λy=> ?_⟩;have big:∀x,bU a x->T<x->Gl l x=x:=λx k1 k2=>Kc λ⟨b,hb,k3⟩=>by
    obtain⟨j,hj,rfl⟩:=get_of_mem hb;have:=((hr1.2 x).mpr ⟨k1,k2⟩).1;have:=h4 j hj;omega
   constructor
   ·rintro(⟨x,k1,_,k3⟩|⟨k1,k2⟩)
    ·exact⟨x,k1,k3⟩
    ·exact⟨y,k1,(big y k1 k2).symm⟩
   ·rintro⟨x,k1,k3⟩;by_cases c:x<=T
    ·exact .inl ⟨x,k1,c,k3⟩
    ·right;rw[big x k1 (by omega)]at k3;subst k3;exact⟨k1,by omega⟩
  ·exfalso;have hb:=hl _ (bh hj);obtain⟨u,f1,s1⟩:=Ad hr1.1 l[j]!;refine hs _ (show tJ _=V (V (nI.mk l (aH.mk 0 0 0) (cV o (aH.mk l[j]! l[j]! 0)) u))from ?_);unfold tJ;simp only;rw[iz vr];simp only[bC,bB];rw[e2];simp only;rw[gh,bB];simp only[bC,bB];rw[l8 vo (.inr (show NN (aH.mk l[j]! l[j]! 0)from NN.one hb.1 hb.2)),f1]
def Ov{a:aH}(h:NV a){l:aa Int}(hr:fZ l=O)(hn:l.length<=1000000)(hl:∀b∈l,cC b):∃c,Mk a l=V (c,0)/\P8 a l=V (c,0)/\mF (vH a l) c/\NV c:=by
 obtain⟨c,e1,r1⟩:=ZN h hr hn hl;obtain⟨d,e2,r2⟩:=aaU h hr hn hl;rw[<-r1.uniq r2]at e2;exact⟨c,e1,e2,r1,r1.valid λy hy=>Vr h hl hy⟩
def dA.ne{P:Int->Prop}{c:aH}(h:dA P c):c≠cG:=λe=>by
 have h1:=h.all _ h.lo;rw[e]at h1;have h2:(1:Int)<=0:=xU h1.1 h1.2.1;omega
def NV.nn{c:aH}(h:NV c)(k:c≠cG):NN c:=h.elim (λe=>dD e k) id
def mF.nn{P:Int->Prop}{c:aH}(h:mF P c)(v:NV c){x:Int}(hx:P x):NN c:=by
 rcases h with ⟨_,h⟩|h
 ·exact dD hx (h x)
 ·exact v.nn h.ne
def Q8:NN (aH.mk 0 0 0):=NN.one (x:=0) (by omega) (by omega)
def Hi{a b:Bool}(h:(a||b)=true):NN (iI a b):=(uw a b).nn (by cases a<;>cases b<;>first|(cases h;done)|(intro e;cases e))
def Ho(op:Int){a:aH}(h:NN a):NN (Be op a).1:=by
 unfold Be;split
 ·exact Q8
 rw[bO h.ne];split
 ·exact Hi (zero_or h)
 ·exact acI h
def adk{op:Int}{a b:aH}(ha:NN a)(hb:NN b):∃r,oP op a b=V r/\NN r.1:=by
 by_cases ho:binop op
 ·have r1:=ha.rB;have r2:=ha.BC;have r3:=hb.rB;have r4:=hb.BC;by_cases hs:cnt a*cnt b<=4096
  ·rw[ow ho ha hb hs];rcases BY ho ha hb (by omega)with ⟨h1,c,e,h2⟩|⟨_,e⟩
   ·exact⟨_,e,h2.valid h1⟩
   ·exact⟨_,e,Q8⟩
  have hbin:=ho;obtain⟨o1,o2⟩:=ho;rcases (show op=8\/op=9\/op=10\/op=11\/op=12\/op=21\/op=22\/(13<=op/\op<=20)by omega)with rfl|rfl|rfl|rfl|rfl|rfl|rfl|h
  ·rcases jH (op:=8) (.inl rfl) ha hb (λQ h=>MQ ha hb h) (λh=>(qN ha hb).mpr ⟨fQ h (.inl rfl) (.inl rfl),fQ h (.inr (.inr rfl)) (.inr (.inr rfl))⟩)with ⟨_,e,hv⟩|⟨_,e⟩
   ·exact⟨_,e,hv⟩
   ·exact⟨_,e,Q8⟩
  ·rcases jH (op:=9) (.inr (.inl rfl)) ha hb (λQ h=>Ou ha hb h) (λh=>(rA ha hb).mpr ⟨fQ h (.inl rfl) (.inr (.inr rfl)),fQ h (.inr (.inr rfl)) (.inl rfl)⟩)with ⟨_,e,hv⟩|⟨_,e⟩
   ·exact⟨_,e,hv⟩
   ·exact⟨_,e,Q8⟩
  ·rcases jH (op:=10) (.inr (.inr rfl)) ha hb (λQ h=>MN ha hb h) (λh=>(jB ha hb).mpr ⟨fQ h (.inl rfl) (.inl rfl),fQ h (.inl rfl) (.inr (.inr rfl)),fQ h (.inr (.inr rfl)) (.inl rfl),fQ h (.inr (.inr rfl)) (.inr (.inr rfl))⟩)with ⟨_,e,hv⟩|⟨_,e⟩
   ·exact⟨_,e,hv⟩
   ·exact⟨_,e,Q8⟩
  all_goals rw[vD hbin ha hb hs];unfold VG
  ·obtain⟨a1,a2⟩:=r1;obtain⟨a3,a4⟩:=r2;simp only[Int.reduceEq,ep,cI,bB,bC];have hm:((max a.ag.natAbs a.ah.natAbs:Nat):Int)<=1099511627776:=by omega
   generalize max a.ag.natAbs a.ah.natAbs=m at*;rw[lZ ⟨by omega,by omega⟩ ⟨by omega,by omega⟩ (by omega),lZ ⟨by omega,by omega⟩ ⟨by omega,by omega⟩ (by omega)];cases (J (0<=a.ag)&&J (0<=b.ag))with
   |true=>exact⟨(jx 0 (m:Int) 1,0),rfl,l7 (lo:=0) (hi:=(m:Int)) (st:=1) (by omega) (by omega) (by omega) (by omega)⟩
   |false=>exact⟨(jx (-(m:Int)) (m:Int) 1,0),rfl,l7 (lo:= -(m:Int)) (hi:=(m:Int)) (st:=1) (by omega) (by omega) (by omega) (by omega)⟩
  ·obtain⟨b1,b2⟩:=r3;obtain⟨b3,b4⟩:=r4;simp only[Int.reduceEq,ep,cI,bB,bC];have hp:(if b.ag<0 then b.ag+1 else 0)<=0/\ -1099511627776<=(if b.ag<0 then b.ag+1 else 0):=by split<;>omega
   have hq:0<=(if 0<b.ah then b.ah-1 else 0)/\(if 0<b.ah then b.ah-1 else 0)<=1099511627776:=by split<;>omega
   generalize (if b.ag<0 then b.ag+1 else 0)=p at*;generalize (if 0<b.ah then b.ah-1 else 0)=q at*;rw[lZ ⟨by omega,by omega⟩ ⟨by omega,by omega⟩ (by omega)];exact⟨(jx p q 1,0),rfl,l7 (lo:=p) (hi:=q) (st:=1) (by omega) (by omega) (by omega) (by omega)⟩
  ·simp only[Int.reduceEq,ep,cI,bB,bC];obtain⟨l',e2,h2⟩:=IP (eT (.inr ha) (.inr hb)) (min a.ah b.ah);rw[e2];refine⟨_,rfl,h2.rep.nn h2.1 (x:=(cV a b).ag) ⟨?_,?_⟩⟩
   ·rw[gA ha hb];have:=(kY ha hb).le;exact⟨by omega,this,by rw[Int.sub_self];exact xB _⟩
   ·rw[gA ha hb];show min a.ag b.ag<=_;have:=ha.le;have:=hb.le;omega
  ·simp only[Int.reduceEq,ep,cI,bB,bC];obtain⟨l',e2,h2⟩:=Ad (eT (.inr ha) (.inr hb)) (max a.ag b.ag-1);rw[e2];refine⟨_,rfl,h2.rep.nn h2.1 (x:=(cV a b).ah) ⟨?_,?_⟩⟩
   ·rw[gA ha hb];have:=(kY ha hb).le;exact⟨this,by omega,(kY ha hb).dvd⟩
   ·rw[gA ha hb];show _<max a.ah b.ah;have:=ha.le;have:=hb.le;omega
  ·rw[UK h ha hb];refine⟨(iI (ue op a b).1 (ue op a b).2,0),?_,Hi (QD h ha hb)⟩;rcases iQ h with rfl|rfl|rfl|rfl|rfl|rfl|rfl|rfl<;>rfl
 ·refine⟨(aH.mk 0 0 0,1),?_,Q8⟩;unfold oP;rw[gq,gq,ew (.inr ha),ew (.inr hb),show Qn op=BM op from rfl,jT,bX ho];rfl
def Gg(op:Int)(a b:aH):aH:=match oP op a b with
 |none=>cG
 |some r=>r.1
def uB(op:Int){a b:aH}(ha:NN a)(hb:NN b):∃c,vz op a b=V (Gg op a b,c)/\oP op a b=V (Gg op a b,c)/\NN (Gg op a b):=by
 obtain⟨r,e1,e2,_⟩:=LC op (.inr ha) (.inr hb);obtain⟨r',e3,h⟩:=adk (op:=op) ha hb;have:r'=r:=by rw[e2]at e3;cases e3;rfl
 subst this;unfold Gg;rw[e2];exact⟨r'.2,e1,rfl,h⟩
def jh(a:aH)(lo hi:Int):aH:=match m86 a lo hi with
 |none=>cG
 |some r=>r.1
def kU{a:aH}(ha:NN a)(lo hi:Int):∃c,m81 a lo hi=V (jh a lo hi,c)/\m86 a lo hi=V (jh a lo hi,c)/\NN (jh a lo hi)/\(cC lo->cC hi->lo<=hi->mF (sH a lo hi) (jh a lo hi)):=by
 rcases Pe (.inr ha) lo hi with ⟨c,e1,e2,h,v,_⟩|⟨e1,e2,hn⟩
 ·unfold jh;rw[e2];have:=ha.le;exact⟨0,e1,rfl,h.nn v (x:=max lo (min a.ag hi)) ⟨a.ag,⟨by omega,this,by rw[Int.sub_self];exact xB _⟩,rfl⟩,λ_ _ _=>h⟩
 ·unfold jh;rw[e2];exact⟨3,e1,rfl,Q8,λh1 h2 h3=>dD ⟨h1,h2,h3⟩ hn⟩
def rL(a:aH)(l:aa Int):aH:=match P8 a l with
 |none=>cG
 |some r=>r.1
def CX{a:aH}(ha:NN a){l:aa Int}(hr:fZ l=O)(hn:l.length<=1000000)(hl:∀b∈l,cC b):Mk a l=V (rL a l,0)/\P8 a l=V (rL a l,0)/\NN (rL a l)/\mF (vH a l) (rL a l):=by
 obtain⟨c,e1,e2,h,v⟩:=Ov (.inr ha) hr hn hl;unfold rL;rw[e2];have:=ha.le;exact⟨e1,rfl,h.nn v (x:=Gl l a.ag) ⟨a.ag,⟨by omega,this,by rw[Int.sub_self];exact xB _⟩,rfl⟩,h⟩
def jJ{a b:aH}(h:NN a)(k:NN b):NN (cV a b):=by rw[gA h k];exact kY h k
structure AS where
 t0:List aX
 t1:Int
 t5:List aX
 t6:Int
def Qk:Td 0 AS:= .c [] [0,1,5,6] (.r 0 1 (ec 0 (ql 131) (ec 1 aL (ec 5 (qo 0) (ec 6 aL en)))) (sr 0 131 sn) (λz=>⟨z.1.1,z.1.2.1,z.2.1,z.1.t.2.1⟩) (λx=>((x.t0,x.t1,(),x.t6,()),(x.t5,()))))
def KA(p:AS):af (af AS):=
 bif J (p.t6<p.t0.length)then if 0<=p.t6/\p.t6<p.t0.length then bif J (p.t0[p.t6.toNat]!.bz=p.t1)then if 0<=p.t6/\p.t6<p.t0.length then if(p.t5++[p.t0[p.t6.toNat]!]).length<=1073741824 then V (V (AS.mk p.t0 p.t1 (p.t5++[p.t0[p.t6.toNat]!]) (i64.wrap (p.t6+1))))else G else G else V (V (AS.mk p.t0 p.t1 p.t5 (i64.wrap (p.t6+1))))else G else V (G)
def IA:=bJ (KA)
abbrev aAW:=aa aX
def d173:Td 0 aAW:= .c [] [4] (.r 0 1 (ec 4 (qo 0) en) (sr 0 131 sn) (λz=>z.2.1) (λx=>(((),()),(x,()))))
def agV(a0:aa aX)(a1:Int):af aAW:=
 match IA (AS.mk a0 a1 [] (0))with|G=>G|V r1=>bif J (r1.t6<r1.t0.length)then if 0<=r1.t6/\r1.t6<r1.t0.length then bif J (r1.t0[r1.t6.toNat]!.bz=r1.t1)then if 0<=r1.t6/\r1.t6<r1.t0.length then if(r1.t5++[r1.t0[r1.t6.toNat]!]).length<=1073741824 then G else G else G else G else G else V (r1.t5)
def azl:=eL w9 173 S (lc (ql 131) (bk ln)) d173 (λg=>agV g.1 g.2.1)
def aeZ:EO azl:=λh=>kL (an:=(noTwo (noTwo (.two (noTwo (Qk.lp IA .no)) .no)))) (l:=[(aW f173 0,(Qk.lp IA .no))]) func173 aR (az (aO Qk) aF) h
def F89:aZ:=(azl cZ)
structure NT where
 t6:List aX
 (t8 t9:Int)
def YP:Td 0 NT:= .c [] [6,8,9] (.r 0 1 (ec 6 (qo 0) (ec 8 aL (ec 9 aL en))) (sr 0 131 sn) (λz=>⟨z.2.1,z.1.2.1,z.1.t.1⟩) (λx=>(((),x.t8,x.t9,()),(x.t6,()))))
def MV(p:NT):af (af NT):=
 bif J (p.t9<p.t6.length)then if 0<=p.t9/\p.t9<p.t6.length then if 131=131/\p.t9.toNat<p.t6.length then if 0<=p.t9/\p.t9<p.t6.length then if 131=131/\p.t9.toNat<p.t6.length then bif J (4096<i64.wrap (p.t8*i64.wrap (i64.wrap (p.t6[p.t9.toNat]!.ah-p.t6[p.t9.toNat]!.ag)+1)))then V (G)else V (V (NT.mk p.t6 (i64.wrap (p.t8*i64.wrap (i64.wrap (p.t6[p.t9.toNat]!.ah-p.t6[p.t9.toNat]!.ag)+1))) (i64.wrap (p.t9+1))))else G else G else G else G else V (G)
def Uj:=bJ (MV)
structure Nf where
 t6:List aX
 t7:Int
def Zg:Td 0 Nf:= .c [] [6,7] (.r 0 1 (ec 6 (qo 0) (ec 7 aL en)) (sr 0 131 sn) (λz=>⟨z.2.1,z.1.2.1⟩) (λx=>(((),x.t7,()),(x.t6,()))))
def Se(p:Nf):af (af Nf):=
 bif J (p.t7<p.t6.length)then if 0<=p.t7/\p.t7<p.t6.length then if 131=131/\p.t7.toNat<p.t6.length then if 0<=p.t7/\p.t7<p.t6.length then if 131=131/\p.t7.toNat<p.t6.length then bif J (p.t6[p.t7.toNat]!.ah<p.t6[p.t7.toNat]!.ag)then V (G)else if 0<=p.t7/\p.t7<p.t6.length then if 131=131/\p.t7.toNat<p.t6.length then bif J (p.t6[p.t7.toNat]!.ag< -1048576)then V (G)else if 0<=p.t7/\p.t7<p.t6.length then if 131=131/\p.t7.toNat<p.t6.length then bif J (1048576<p.t6[p.t7.toNat]!.ah)then V (G)else V (V (Nf.mk p.t6 (i64.wrap (p.t7+1))))else G else G else G else G else G else G else G else G else V (G)
def Tm:=bJ (Se)
abbrev E89:=Int×Int
def d89:Td 0 E89:= .c [] [4,5] (.r 0 0 (ec 4 aL (ec 5 aL en)) sn (λz=>(z.1.1,z.1.2.1)) (λx=>((x.1,x.2,()),(()))))
def aFs:∀f∈([]:aa Nat),bw (F89) f:=aF
def m89(a0:aa aX)(a1:Int):af E89:=
 match bif bif J (a1=0)then S else O then bif bif J (a1=1)then S else O then bif bif J (a1=2)then S else O then V (bif J (a1=3)then S else O)else V S else V S else V S with|G=>G|V r1=>bif r1 then V (0,1)else match agV a0 a1 with|G=>G|V r2=>match Tm (Nf.mk r2 0)with|G=>G|V r3=>bif J (r3.t7<r3.t6.length)then if 0<=r3.t7/\r3.t7<r3.t6.length then if 131=131/\r3.t7.toNat<r3.t6.length then if 0<=r3.t7/\r3.t7<r3.t6.length then if 131=131/\r3.t7.toNat<r3.t6.length then bif J (r3.t6[r3.t7.toNat]!.ah<r3.t6[r3.t7.toNat]!.ag)then V (0,3)else if 0<=r3.t7/\r3.t7<r3.t6.length then if 131=131/\r3.t7.toNat<r3.t6.length then bif J (r3.t6[r3.t7.toNat]!.ag< -1048576)then V (0,3)else if 0<=r3.t7/\r3.t7<r3.t6.length then if 131=131/\r3.t7.toNat<r3.t6.length then bif J (1048576<r3.t6[r3.t7.toNat]!.ah)then V (0,3)else G else G else G else G else G else G else G else G else G else match Uj (NT.mk r3.t6 1 0)with|G=>G|V r4=>bif J (r4.t9<r4.t6.length)then if 0<=r4.t9/\r4.t9<r4.t6.length then if 131=131/\r4.t9.toNat<r4.t6.length then if 0<=r4.t9/\r4.t9<r4.t6.length then if 131=131/\r4.t9.toNat<r4.t6.length then bif J (4096<i64.wrap (r4.t8*i64.wrap (i64.wrap (r4.t6[r4.t9.toNat]!.ah-r4.t6[r4.t9.toNat]!.ag)+1)))then V (0,4)else G else G else G else G else G else V (r4.t8,0)
def e89:=eL w9 89 S (lc (ql 131) (bk ln)) d89 (λg=>m89 g.1 g.2.1)
def aoQ:EO e89:=λh=>kL (F:=F89) (an:=(noTwo (.two (.two (.rb [] 23) .no) (noTwo (.two (noTwo (Zg.lp Tm .no)) (noTwo (.two (noTwo (YP.lp Uj .no)) .no))))))) (l:=[(.skip,(.rb [] 23)),(aW f89 0,(Zg.lp Tm .no)),(aW f89 1,(YP.lp Uj .no))]) func89 (aeZ aR) (az aFs (az (aO Zg) (az (aO YP) aF))) h
def L9:EP e89:=λh=>kP h
def F24:aZ:=(e90 (e89 (e78 (e53 cZ))))
abbrev E24:=Bool
def d24:Td 0 E24:= .c [] [8] (.r 0 0 (ec 8 qb en) sn (λz=>z.1.1) (λx=>((x,()),(()))))
def ayG:∀f∈([53,78]:aa Nat),bw (F24) f:=(az (Nq (L9 (uh (NS bS)))) (az (Nq (L9 (uh (NS bS)))) aF))
def m24(a0:aN)(a1:Int)(a2:Int)(a3:Int):af E24:=
 match match m53 a0 (10) (80)with|G=>G|V r1=>bif bif r1 then S else O then V (O)else match m78 a0 with|G=>G|V r2=>V (bif J (r2=0)then S else O)with|G=>G|V r3=>bif r3 then V (S)else match m89 a0.ai (1)with|G=>G|V r4=>match m89 a0.ai (2)with|G=>G|V r5=>match m89 a0.ai (3)with|G=>G|V r6=>match r90 a0.bI with|G=>G|V r7=>match bif J (r4.fst<=a1)then bif J (r5.fst<=a2)then bif J (r6.fst<=a3)then V (J (r7.fst<=400))else V (S)else V (S)else V (S)with|G=>G|V r8=>V (r8)
def e24:=eL w9 24 S (lc (qg 26) (bk (bk (bk ln)))) d24 (λg=>m24 g.1 g.2.1 g.t.1 g.t.2.1)
def ary:EO e24:=λh=>kL (F:=F24) (an:=(noTwo (.two (.two (.rb [53,78] 25) .no) (noTwo (noTwo (noTwo (noTwo (.two (.rb [53,78] 8) .no)))))))) (l:=[(.skip,(.rb [53,78] 25)),(.skip,(.rb [53,78] 8))]) func24 (Z3 (aoQ (Y0 (asC aR)))) (az ayG (az ayG aF)) h
def Fi:EP e24:=λh=>kP h
structure aHr where
 t0:List aX
 (t6 t7 t8:Int)
 t9:List Int
 t10:Bool
 t11:Int
 b0:iM
def azF:aZ:=cZ
abbrev au5:=Int
def d193:Td 0 au5:= .c [] [4] (.r 0 0 (ec 4 aL en) sn (λz=>z.1.1) (λx=>((x,()),(()))))
def au9:∀f∈([]:aa Nat),bw (azF) f:=aF
def aeC(a0:Int)(a1:Int):af au5:=
 bif J (a1=0)then V 0 else if¬a1=0then match if¬a1=0then bif bif J (a0.tmod a1=0)then S else O then V (bif J (a0<0)==J (a1<0)then S else O)else V S else G with|G=>G|V r1=>bif r1 then V (i64.wrap (i64.wrap (a0.tdiv a1)-1))else V (i64.wrap (a0.tdiv a1))else G
def aja:=eL w9 193 S (bk (bk ln)) d193 (λg=>aeC g.1 g.2.1)
def aec:EO aja:=λh=>kL (F:=azF) (an:=(noTwo (noTwo (noTwo (.two (.two (.rb [] 21) .no) .no))))) (l:=[(.skip,(.rb [] 21))]) func193 aR (az au9 aF) h
structure aCD where
 t0:List Int
 (t1 t5:Int)
 t6:Bool
 t7:Int
structure aHH where
 t1:List Int
 t2:List ay
 t9:Int
 b0:aN
 (b1 b2:nV)
structure aEW where
 t1:List Int
 t9:Int
 b0:aN
 b1:ay
 (b2 b3:nV)
structure aGO where
 (t1 t5:List Int)
 t6:Int
 b0:aN
structure aHw where
 (t0 t1:List Int)
 t5:Int
def Bx(b:Bool):Int:=if b=O then 1 else 0
def Wt(a b:Int):Int:=if b=0 then 0 else if a.tmod b≠0/\J (a<0)≠J (b<0)then a.tdiv b-1 else a.tdiv b
def aFB(a b:Int):Int:=if b=0 then 0 else a-b*Wt a b
def Nw(o a b:Int):Int:=
 if o=8 then a+b else if o=9 then a-b else if o=10 then a*b else if o=11 then Wt a b else if o=12 then aFB a b
 else if o=13 then Bx (J (a=b))else if o=14 then Bx (J (a≠b))else if o=15 then Bx (J (a<b))else if o=16 then Bx (J (a<=b))
 else if o=17 then Bx (J (b<a))else if o=18 then Bx (J (b<=a))else if o=19 then Bx (J (a≠0/\b≠0))else if o=20 then Bx (J (a≠0\/b≠0))
 else if o=21 then(if a<b then a else b)else(if b<a then a else b)
def akv(a b:Int):(a.tdiv b).natAbs<=a.natAbs:=Int.natAbs_tdiv_le_natAbs a b
def VIn(vars:aa aX)(vals:aa Int):Prop:=vals.length=vars.length/\∀i,i<vars.length->vars[i]!.ag<=vals[i]!/\vals[i]!<=vars[i]!.ah
def neB(a b:Bool):(bif a==b then false else true)=J (a≠b):=by cases a<;>cases b<;>rfl
def ag7{a b:Int}(h1: -1099511627776<=a)(h2:a<=1099511627776):aeC a b=V (Wt a b):=by
 have h3:=akv a b;have w1:i64.wrap (a.tdiv b)=a.tdiv b:=aG;have w2:i64.wrap (a.tdiv b-1)=a.tdiv b-1:=aG;unfold aeC Wt;by_cases hb:b=0
 ·simp[hb]
 by_cases hm:a.tmod b=0
 ·simp[hb,hm,w1]
 ·simp only[hb,hm,w1,w2,ep,bB,bC,not_false_eq_true,cB,gG,ne_eq,true_and,neB,not_true];by_cases hc:J (a<0)=J (b<0)
  ·simp[hc]
  ·simp[hc]
def ajC{vars:aa aX}{inp:Bool}{t:au}(hf:dJ vars inp t=O):(0<=(cq t.bF).1/\(cq t.bF).1<=t.aq.length/\(t.aq.length:Int)<=(cq t.bF).2)/\(t.bF=24->0<=t.fN/\t.fN<vars.length):=by
 rw[lI]at hf;have h:=(zi _ _▸hf).1;unfold Bw at h;rw[zi,decide_eq_true_iff]at h;refine⟨h.1,λh24=> ?_⟩;have h2:=h.2;simp only[h24,Int.reduceEq,reduceIte,zi,decide_eq_true_eq]at h2;exact h2.1
def ZF(o:Int)(h:0<=(cq o).1):((o=0\/o=24)/\cq o=(0,0))\/((o=6\/o=7)/\cq o=(1,1))\/((8<=o/\o<=22)/\cq o=(2,2))\/(o=23/\cq o=(3,3))\/(o=25/\cq o=(2,33)):=by
 unfold cq at h ⊢;split
 ·exact .inl ⟨‹_›,rfl⟩
 rename_i h1;rw[bO h1]at h;split
 ·exact .inr (.inl ⟨‹_›,rfl⟩)
 rename_i h2;rw[bO h2]at h;split
 ·exact .inr (.inr (.inl ⟨‹_›,rfl⟩))
 rename_i h3;rw[bO h3]at h;split
 ·exact .inr (.inr (.inr (.inl ⟨‹_›,rfl⟩)))
 rename_i h4;rw[bO h4]at h;split
 ·exact .inr (.inr (.inr (.inr ⟨‹_›,rfl⟩)))
 ·rename_i h5;rw[bO h5]at h;simp at h
def GZ(M:aN->aa ay->Bool->af lU)(f:aN)(l A B:aa ay)(top:Bool)(n i a b:Int)(ha:M f A S=V a)(hb:M f B S=V b):
  AL M ⟨l,top,l,n,i,[A,B],2,0,f⟩=V ⟨l,top,l,n,i,[A,B],2,if a≠0 then 0 else if b≠0 then 1 else 2,f⟩:=by
 have w0:i64.wrap 1=1:=rfl;have w1:i64.wrap 2=2:=rfl;have r1:s9 M ⟨l,top,l,n,i,[A,B],2,0,f⟩=if a≠0 then V G else V (V ⟨l,top,l,n,i,[A,B],2,1,f⟩):=by
  unfold s9;by_cases h:a=0<;>simp[ha,h,w0]
 have r2:s9 M ⟨l,top,l,n,i,[A,B],2,1,f⟩=if b≠0 then V G else V (V ⟨l,top,l,n,i,[A,B],2,2,f⟩):=by
  unfold s9;by_cases h:b=0<;>simp[hb,h,w1]
 have r3:s9 M ⟨l,top,l,n,i,[A,B],2,2,f⟩=V G:=by
  unfold s9;simp
 unfold AL;by_cases h1:a≠0
 ·rw[bE h1]at r1 ⊢;exact b9 λr=>by rw[r1];simp
 ·rw[bO h1]at r1 ⊢;rw[bM r1];by_cases h2:b≠0
  ·rw[bE h2]at r2 ⊢;exact b9 λr=>by rw[r2];simp
  ·rw[bO h2]at r2 ⊢;rw[bM r2];exact b9 λr=>by rw[r3];simp
def Tj(n i:Nat)(hn:n<=1000000):J ((i:Int)=i64.wrap ((n:Int)-1))=J (i+1=n):=by
 rw[aG];apply decide_eq_decide.2;omega
def aco(M:aN->aa ay->Bool->af lU)(f:aN)(hv:dg f.ai)(l:aa ay)(hl:l.length<=1000000)(top:Bool)(hM:∀s∈l,M f s.aM S=V (ct f S s.aM)/\M f s.aS S=V (ct f S s.aS))(i:Nat)(hi:i<l.length):
  (Xc f top l.length i l[i]! =0->vQ M ⟨l,top,l,(l.length:Int),(i:Int),f⟩=V (V ⟨l,top,l,(l.length:Int),((i+1:Nat):Int),f⟩))/\(Xc f top l.length i l[i]!≠0->vQ M ⟨l,top,l,(l.length:Int),(i:Int),f⟩=V G):=by
 have hw:=fu hi hl;obtain⟨k1,k2⟩:=hM _ (bh hi);have hin:=GZ M f l l[i]!.aM l[i]!.aS top (l.length:Int) (i:Int) _ _ k1 k2;have hlen:(([l[i]!.aM,l[i]!.aS]:aa (aa ay)).length:Int)=2:=rfl;have hi1:(i:Int)<(l.length:Int):=by omega
 have hi0:(0:Int)<=(i:Int):=by omega
 unfold vQ Xc mW;dsimp only;simp only[ze,au.eta,ay.eta,S9,Tj l.length i hl,Cc f.ai hv,hlen,hin,hw,hi1,hi0,cI,bC,cT,cB];have e1':(bif top then some (bif dI f l[i]! (J (i+1=l.length))then false else true)else some (bif dI f l[i]! false then false else true))=some (bif dI f l[i]! (top&&J (i+1=l.length))then false else true):=by cases top<;>rfl
 rw[e1'];have hS:dI f l[i]! (top&&J (i+1=l.length))=O->QN l[i]! =V (sD l[i]!):=λh=>Sr _ (jj h).1;revert hS;generalize dI f l[i]! (top&&J (i+1=l.length))=za;intro hS;generalize l[i]!.aM=A at k1 hin ⊢;generalize l[i]!.aS=B at k2 hin ⊢;cases za with
 |false=>simp
 |true=>
  rw[hS rfl];generalize sD l[i]! =N;cases N with
  |false=>simp
  |true=>
   generalize eW f.ai S l[i]!.aA=T;generalize ct f S A=a at*;generalize ct f S B=b at*;by_cases hT:T=0
   ·by_cases ha:a=0
    ·by_cases hb:b=0
     ·simp[hT,ha,hb,hw]
     ·simp[hT,ha,hb,k2]
    ·simp[hT,ha,k1]
   ·simp[hT]
def afh(M:aN->aa ay->Bool->af lU)(f:aN)(hv:dg f.ai)(l:aa ay)(hl:l.length<=1000000)(top:Bool)(hM:∀s∈l,M f s.aM S=V (ct f S s.aM)/\M f s.aS S=V (ct f S s.aS)):ahA M f l top=V (ct f top l):=by
 obtain⟨i,e1,hc⟩:=sw (rnd:=vQ M) l (λi=>⟨l,top,l,(l.length:Int),(i:Int),f⟩) (Xc f top l.length) (λi hi=>aco M f hv l hl top hM i hi) (by unfold vQ;simp);have e1':Iq M ⟨l,top,l,(l.length:Int),0,f⟩=V ⟨l,top,l,(l.length:Int),(i:Int),f⟩:=e1;rw[pH f top l.length l 0 (by omega)]at hc;unfold ahA;rw[e1'];dsimp only;rcases hc with ⟨rfl,hc⟩|⟨hi,h0,hc⟩
 ·rw[hc];simp
 ·rw[hc];obtain⟨k1,k2⟩:=hM _ (bh hi);have hin:=GZ M f l l[i]!.aM l[i]!.aS top (l.length:Int) (i:Int) _ _ k1 k2;have hlen:(([l[i]!.aM,l[i]!.aS]:aa (aa ay)).length:Int)=2:=rfl;have hi1:(i:Int)<(l.length:Int):=by omega
  have hi0:(0:Int)<=(i:Int):=by omega
  revert h0;unfold Xc mW;simp only[ze,au.eta,ay.eta,S9,Tj l.length i hl,Cc f.ai hv,hlen,hin,hi1,hi0,cI,bC,cT,cB];have e1':(bif top then some (bif dI f l[i]! (J (i+1=l.length))then false else true)else some (bif dI f l[i]! false then false else true))=some (bif dI f l[i]! (top&&J (i+1=l.length))then false else true):=by cases top<;>rfl
  rw[e1'];have hS:dI f l[i]! (top&&J (i+1=l.length))=O->QN l[i]! =V (sD l[i]!):=λh=>Sr _ (jj h).1;revert hS;generalize dI f l[i]! (top&&J (i+1=l.length))=za;intro hS;generalize l[i]!.aM=A at k1 hin ⊢;generalize l[i]!.aS=B at k2 hin ⊢;cases za with
  |false=>simp
  |true=>
   rw[hS rfl];generalize sD l[i]! =N;cases N with
   |false=>simp
   |true=>
    generalize eW f.ai S l[i]!.aA=T;generalize ct f S A=a at*;generalize ct f S B=b at*;by_cases hT:T=0
    ·by_cases ha:a=0
     ·by_cases hb:b=0
      ·simp[hT,ha,hb]
      ·simp[hT,ha,hb,k2]
     ·simp[hT,ha,k1]
    ·simp[hT]
def IT(f:aN)(hv:dg f.ai):∀(n:Nat) (l:aa ay) (top:Bool),zg l<n->fO l<=1000->Rk n f l top=V (ct f top l)
 |0,_,_,h,_=>by omega
 |n+1,l,top,h,h2=>afh (Rk n) f hv l (by have:=kD l;omega) top (λs hs=>⟨IT f hv n _ _ (by have:=bt hs;omega) (by have:=gm hs;omega),IT f hv n _ _ (by have:=bt hs;omega) (by have:=gm hs;omega)⟩)
def agY(f:aN)(hv:dg f.ai)(l:aa ay)(top:Bool)(h:fO l<=1000):ahZ f l top=V (ct f top l):=fe (zg l+1) λn hn=>IT f hv n l top (by omega) h
def S6{f:aN}{s:ay}{last:Bool}(h:dI f s last=O)(c:Int)(hc:c=if s.cn=2 then 67108864 else 10000):
  ((bif J (s.bq<0)then V O else bif J (c<s.bq)then V O else bif J (s.fN<0)then V O else bif J (s.cn=4)then V (J (4096<s.fN))else V S):af Bool)=V (!(J (0<=s.bq/\s.bq<=c)&&(if s.cn=4 then J (0<=s.fN/\s.fN<=4096)else O))):=by
 obtain⟨b1,b2,b3,b4,b5⟩:=jj h;have hd:∀(p:Prop) [Decidable p],(!decide p)=J (¬p):=λp _=>by by_cases hp:p<;>simp[hp]
 by_cases h1:s.bq<0
 ·simp[h1,show ¬0<=s.bq by omega]
 by_cases h2:c<s.bq
 ·simp[h1,h2,show ¬s.bq<=c by omega]
 by_cases h3:s.fN<0
 ·have h4:s.cn=4:=by
   by_cases h4:s.cn=4
   ·exact h4
   ·have:=b5 h4;omega
  simp[h1,h2,h3,h4,show ¬0<=s.fN by omega]
 by_cases h4:s.cn=4
 ·simp[h1,h2,h3,h4,show 0<=s.bq by omega,show s.bq<=c by omega,show 0<=s.fN by omega];by_cases h5:4096<s.fN
  ·simp[h5]
  ·simp[h5];omega
 ·simp[h1,h2,h3,h4,show 0<=s.bq by omega,show s.bq<=c by omega]
def U4{f:aN}{s:ay}{last:Bool}(h:dI f s last=O):
  ((bif J (0<(s.aJ.length:Int))then if(0:Int)<=i64.wrap ((s.aJ.length:Int)-(1:Int))/\i64.wrap ((s.aJ.length:Int)-(1:Int))<(s.aJ.length:Int)then V (J (67108864<s.aJ[(i64.wrap ((s.aJ.length:Int)-1)).toNat]!))else G else V S):af Bool)=V (!(if s.cn=6 then J (s.aJ[s.aJ.length-1]!<=67108864)else O)):=by
 obtain⟨b1,b2,b3,b4,b5⟩:=jj h;by_cases h6:s.cn=6
 ·obtain⟨b1,b2⟩:=b1 h6;have hw:i64.wrap ((s.aJ.length:Int)-1)=(s.aJ.length:Int)-1:=aG;have hw2:((s.aJ.length:Int)-1).toNat=s.aJ.length-1:=by omega
  rw[hw,hw2,nH,bC,bE ⟨by omega,by omega⟩,bE h6];generalize s.aJ[s.aJ.length-1]! =B;by_cases h:67108864<B
  ·simp[h]
  ·simp[h];omega
 ·rw[bX (by have:=b2 h6;omega),bO h6];rfl
def agm(M:aN->aa ay->Bool->af oB)(f:aN)(hv:dg f.ai)(l:aa ay)(hl:l.length<=1000000)(hB:∀s∈l,s.aJ.length<=1000000)(top:Bool)(hM:∀s∈l,M f s.aM S=V (ct f S s.aM)/\M f s.aS S=V (ct f S s.aS))(i:Nat)(hi:i<l.length):
  (Xc f top l.length i l[i]! =0->AI M ⟨l,top,(i:Int),f⟩=V (V ⟨l,top,((i+1:Nat):Int),f⟩))/\(Xc f top l.length i l[i]!≠0->AI M ⟨l,top,(i:Int),f⟩=V G):=by
 have hw:=fu hi hl;obtain⟨k1,k2⟩:=hM _ (bh hi);have hb:=hB _ (bh hi);have hi1:(i:Int)<(l.length:Int):=by omega
 have hi0:(0:Int)<=(i:Int):=by omega
 unfold AI Xc mW;dsimp only;simp only[ze,au.eta,ay.eta,Uw f l[i]! _ hb,Tj l.length i hl,Cz f.ai hv,hw,hi1,hi0,cI,bC,cT,cB];have e1':(bif top then some (bif dI f l[i]! (J (i+1=l.length))then false else true)else some (bif dI f l[i]! false then false else true))=some (bif dI f l[i]! (top&&J (i+1=l.length))then false else true):=by cases top<;>rfl
 rw[e1'];cases hS:dI f l[i]! (top&&J (i+1=l.length))with
 |false=>simp
 |true=>
  have hn:=S6 hS;rw[U4 hS];unfold sD;generalize (if l[i]!.cn=6 then J (l[i]!.aJ[l[i]!.aJ.length-1]!<=67108864)else O)=B6;by_cases h2:l[i]!.cn=2
  ·rw[bE h2]at hn ⊢;rw[bY h2,hn 67108864 rfl];generalize (J (0<=l[i]!.bq/\l[i]!.bq<=67108864)&&(if l[i]!.cn=4 then J (0<=l[i]!.fN/\l[i]!.fN<=4096)else O))=N;generalize eW f.ai S l[i]!.aA=T;generalize l[i]!.aM=A at k1 ⊢;generalize l[i]!.aS=B at k2 ⊢;generalize ct f S A=a at*;generalize ct f S B=b at*;cases N with
   |false=>simp
   |true=>
    cases B6 with
    |false=>simp
    |true=>
     by_cases hT:T=0
     ·by_cases ha:a=0
      ·by_cases hb:b=0
       ·simp[hT,ha,hb,k1,k2]
       ·simp[hT,ha,hb,k1,k2]
      ·simp[hT,ha,k1]
     ·simp[hT]
  ·rw[bO h2]at hn ⊢;rw[bX h2,hn 10000 rfl];generalize (J (0<=l[i]!.bq/\l[i]!.bq<=10000)&&(if l[i]!.cn=4 then J (0<=l[i]!.fN/\l[i]!.fN<=4096)else O))=N;generalize eW f.ai S l[i]!.aA=T;generalize l[i]!.aM=A at k1 ⊢;generalize l[i]!.aS=B at k2 ⊢;generalize ct f S A=a at*;generalize ct f S B=b at*;cases N with
   |false=>simp
   |true=>
    cases B6 with
    |false=>simp
    |true=>
     by_cases hT:T=0
     ·by_cases ha:a=0
      ·by_cases hb:b=0
       ·simp[hT,ha,hb,k1,k2]
       ·simp[hT,ha,hb,k1,k2]
      ·simp[hT,ha,k1]
     ·simp[hT]
def ae4(M:aN->aa ay->Bool->af oB)(f:aN)(hv:dg f.ai)(l:aa ay)(hl:l.length<=1000000)(hB:∀s∈l,s.aJ.length<=1000000)(top:Bool)(hM:∀s∈l,M f s.aM S=V (ct f S s.aM)/\M f s.aS S=V (ct f S s.aS)):aiV M f l top=V (ct f top l):=by
 obtain⟨i,e1,hc⟩:=sw (rnd:=AI M) l (λi=>⟨l,top,(i:Int),f⟩) (Xc f top l.length) (λi hi=>agm M f hv l hl hB top hM i hi) (by unfold AI;simp);have e1':KD M ⟨l,top,0,f⟩=V ⟨l,top,(i:Int),f⟩:=e1;rw[pH f top l.length l 0 (by omega)]at hc;unfold aiV;rw[e1'];dsimp only;rcases hc with ⟨rfl,hc⟩|⟨hi,h0,hc⟩
 ·rw[hc];simp
 ·rw[hc];obtain⟨k1,k2⟩:=hM _ (bh hi);have hb:=hB _ (bh hi);have hi1:(i:Int)<(l.length:Int):=by omega
  have hi0:(0:Int)<=(i:Int):=by omega
  revert h0;unfold Xc mW;simp only[ze,au.eta,ay.eta,Uw f l[i]! _ hb,Tj l.length i hl,Cz f.ai hv,hi1,hi0,cI,bC,cT,cB];have e1':(bif top then some (bif dI f l[i]! (J (i+1=l.length))then false else true)else some (bif dI f l[i]! false then false else true))=some (bif dI f l[i]! (top&&J (i+1=l.length))then false else true):=by cases top<;>rfl
  rw[e1'];cases hS:dI f l[i]! (top&&J (i+1=l.length))with
  |false=>simp
  |true=>
   have hn:=S6 hS;rw[U4 hS];unfold sD;generalize (if l[i]!.cn=6 then J (l[i]!.aJ[l[i]!.aJ.length-1]!<=67108864)else O)=B6;by_cases h2:l[i]!.cn=2
   ·rw[bE h2]at hn ⊢;rw[bY h2,hn 67108864 rfl];generalize (J (0<=l[i]!.bq/\l[i]!.bq<=67108864)&&(if l[i]!.cn=4 then J (0<=l[i]!.fN/\l[i]!.fN<=4096)else O))=N;generalize eW f.ai S l[i]!.aA=T;generalize l[i]!.aM=A at k1 ⊢;generalize l[i]!.aS=B at k2 ⊢;generalize ct f S A=a at*;generalize ct f S B=b at*;cases N with
    |false=>simp
    |true=>
     cases B6 with
     |false=>simp
     |true=>
      by_cases hT:T=0
      ·by_cases ha:a=0
       ·by_cases hb:b=0
        ·simp[hT,ha,hb,k1,k2]
        ·simp[hT,ha,hb,k1,k2]
       ·simp[hT,ha,k1]
      ·simp[hT]
   ·rw[bO h2]at hn ⊢;rw[bX h2,hn 10000 rfl];generalize (J (0<=l[i]!.bq/\l[i]!.bq<=10000)&&(if l[i]!.cn=4 then J (0<=l[i]!.fN/\l[i]!.fN<=4096)else O))=N;generalize eW f.ai S l[i]!.aA=T;generalize l[i]!.aM=A at k1 ⊢;generalize l[i]!.aS=B at k2 ⊢;generalize ct f S A=a at*;generalize ct f S B=b at*;cases N with
    |false=>simp
    |true=>
     cases B6 with
     |false=>simp
     |true=>
      by_cases hT:T=0
      ·by_cases ha:a=0
       ·by_cases hb:b=0
        ·simp[hT,ha,hb,k1,k2]
        ·simp[hT,ha,hb,k1,k2]
       ·simp[hT,ha,k1]
      ·simp[hT]
def Ja(f:aN)(hv:dg f.ai):∀(n:Nat) (l:aa ay) (top:Bool),zg l<n->fO l<=1000->R5 n f l top=V (ct f top l)
 |0,_,_,h,_=>by omega
 |n+1,l,top,h,h2=>ae4 (R5 n) f hv l (by have:=kD l;omega) (λs hs=>by have:=Cm hs;have:=oG s;omega) top (λs hs=>⟨Ja f hv n _ _ (by have:=bt hs;omega) (by have:=gm hs;omega),Ja f hv n _ _ (by have:=bt hs;omega) (by have:=gm hs;omega)⟩)
def adx(f:aN)(hv:dg f.ai)(l:aa ay)(top:Bool)(h:fO l<=1000):afX f l top=V (ct f top l):=fe (zg l+1) λn hn=>Ja f hv n l top (by omega) h
def aa2(f:aN)(hv:dg f.ai)(hl:f.ak.length<=1000000)(i:Nat)(hi:i<f.ak.length):
  (kf f i f.ak[i]! =0->Bc ⟨f.ak,(f.ak.length:Int),(i:Int),f⟩=V (V ⟨f.ak,(f.ak.length:Int),((i+1:Nat):Int),f⟩))/\(kf f i f.ak[i]!≠0->Bc ⟨f.ak,(f.ak.length:Int),(i:Int),f⟩=V G):=by
 have hw:=fu hi hl;have h2:=Ux (f.ak.take i) (by rw[zH];omega) f.ak[i]!;unfold Bc kf;dsimp only;simp only[ze,au.eta,dB.eta,B8,Ca,h2,Cc f.ai hv,hw];generalize iO f.ak[i]!.fName=B;generalize ((f.ak.take i).any λw=>w.fName.toList==f.ak[i]!.fName.toList)=A;generalize gP f.ak[i]!.ag f.ak[i]!.ah=C;generalize eW f.ai O f.ak[i]!.aA=T;have hi1:(i:Int)<(f.ak.length:Int):=by omega
 have hi0:(0:Int)<=(i:Int):=by omega
 have hi2:(i:Int)<=(f.ak.length:Int):=by omega
 simp only[hi0,hi1,hi2,cT,cB,cI,bC];cases A<;>cases B<;>cases C<;>by_cases hT:T=0<;>simp[hT]
def agd(f:aN)(hv:dg f.ai)(hl:f.ak.length<=1000000):afE f=V (cu (kf f) f.ak 0):=by
 obtain⟨i,e1,hc⟩:=sw (rnd:=Bc) f.ak (λi=>⟨f.ak,(f.ak.length:Int),(i:Int),f⟩) (kf f) (λi hi=>aa2 f hv hl i hi) (by unfold Bc;simp);have e1':Ih ⟨f.ak,(f.ak.length:Int),0,f⟩=V ⟨f.ak,(f.ak.length:Int),(i:Int),f⟩:=e1;unfold afE;rw[e1'];dsimp only;rcases hc with ⟨rfl,hc⟩|⟨hi,h0,hc⟩
 ·rw[hc];simp
 ·rw[hc];have h2:=Ux (f.ak.take i) (by rw[zH];omega) f.ak[i]!;revert h0;unfold kf;simp only[ze,au.eta,dB.eta,B8,Ca,h2,Cc f.ai hv];generalize iO f.ak[i]!.fName=B;generalize ((f.ak.take i).any λw=>w.fName.toList==f.ak[i]!.fName.toList)=A;generalize gP f.ak[i]!.ag f.ak[i]!.ah=C;generalize eW f.ai O f.ak[i]!.aA=T;have hi1:(i:Int)<(f.ak.length:Int):=by omega
  have hi0:(0:Int)<=(i:Int):=by omega
  have hi2:(i:Int)<=(f.ak.length:Int):=by omega
  simp only[hi0,hi1,hi2,cT,cB,cI,bC];cases A<;>cases B<;>cases C<;>by_cases hT:T=0<;>simp[hT]
def aey(f:aN)(hv:dg f.ai)(hl:f.ak.length<=1000000)(i:Nat)(hi:i<f.ak.length):
  (kf f i f.ak[i]! =0->HM ⟨(i:Int),f⟩=V (V ⟨((i+1:Nat):Int),f⟩))/\(kf f i f.ak[i]!≠0->HM ⟨(i:Int),f⟩=V G):=by
 have hw:=fu hi hl;obtain⟨j,h2,h3⟩:=Lq f hl i (by omega) f.ak[i]!;unfold HM kf;dsimp only;simp only[ze,au.eta,dB.eta,CC,CA,h2,Cz f.ai hv,hw];generalize iO f.ak[i]!.fName=B;generalize ((f.ak.take i).any λw=>w.fName.toList==f.ak[i]!.fName.toList)=A at h3;generalize gP f.ak[i]!.ag f.ak[i]!.ah=C;generalize eW f.ai O f.ak[i]!.aA=T;have hi1:(i:Int)<(f.ak.length:Int):=by omega
 have hi0:(0:Int)<=(i:Int):=by omega
 simp only[hi0,hi1,cT,cB,cI,bC];rcases h3 with ⟨rfl,rfl⟩|⟨hj,h4,rfl⟩
 ·cases B<;>cases C<;>by_cases hT:T=0<;>simp[hT]
 ·have hj1:(j:Int)<(i:Int):=by omega
  have hj2:(j:Int)<(f.ak.length:Int):=by omega
  have hj0:(0:Int)<=(j:Int):=by omega
  simp only[hj0,hj1,hj2,h4,cT,cB,cI,bC];cases B<;>simp
def Xq(f:aN)(hv:dg f.ai)(hl:f.ak.length<=1000000):∃i:Nat,SI ⟨0,f⟩=V ⟨(i:Int),f⟩/\((i=f.ak.length/\cu (kf f) f.ak 0=0)\/(i<f.ak.length/\kf f i f.ak[i]!≠0/\cu (kf f) f.ak 0=kf f i f.ak[i]!)):=
 sw (rnd:=HM) f.ak (λi=>⟨(i:Int),f⟩) (kf f) (λi hi=>aey f hv hl i hi) (by unfold HM;simp)
def Ba{f:aN}{i:Nat}(hi:i<f.ak.length):jA ((f.ak.take i).map (·.aA))+nT f.ak[i]!.aA<=jA (f.ak.map (·.aA)):=by
 have h:=FB (f.ak.map (·.aA)) (i+1);rw[<-xQ,bK hi,z8,Cw]at h;simpa [jA]using h
def ahM(f:aN)(h:fO f.bI+jA (f.ak.map (·.aA))<=900)(hl:f.ak.length<=1000000):aeN f=V (qx f):=by
 unfold aeN qx;by_cases h1:64<(f.ai.length:Int)
 ·simp[h1,show ¬f.ai.length<=64 by omega]
 by_cases h2:8<(f.ak.length:Int)
 ·simp[h1,h2,show ¬f.ak.length<=8 by omega]
 rw[bX h1,bX h2,bY (show f.ai.length<=64 by omega),bY (show f.ak.length<=8 by omega)];dsimp only[bB,bC];have hb:=CG f.bI;rw[ac3 f.bI (by omega)];obtain⟨i,b,e1,hI,hc⟩:=lH (rnd:=D0) f.ak.length (λi (b:Int)=>⟨b,(i:Int),f⟩) (λi b=>(0<=b/\b<=fO f.bI+jA ((f.ak.take i).map (·.aA)))/\∀j,j<i->dT f.ak[j]!.aA<=12) (λi _=>12<dT f.ak[i]!.aA) (λi b hi hI=>by
  have hn:=Ba hi;have hw:=fu hi hl;have k1:=IE f.ak[i]!.aA (by omega);have k2:=Ie f.ak[i]!.aA (by omega);have hi1:(i:Int)<(f.ak.length:Int):=by omega
  have hi0:(0:Int)<=(i:Int):=by omega
  by_cases hd:12<dT f.ak[i]!.aA
  ·refine .inr ⟨?_,hd⟩;unfold D0;dsimp only;simp only[ze,au.eta,k1,k2,hi1,hi0,cI,bC,cT,cB,hd]
  ·refine .inl ⟨b+nT f.ak[i]!.aA,?_,⟨by omega,?_⟩,λj hj=> ?_⟩
   ·have hw2:i64.wrap (b+(nT f.ak[i]!.aA:Int))=b+nT f.ak[i]!.aA:=aG;unfold D0;dsimp only;simp only[ze,au.eta,k1,k2,hi1,hi0,cI,bC,cT,cB,hd,ep,bB,hw,hw2]
   ·rw[bK hi,z8,Cw];simp only[ye,yS,qI,show jA []=0 from rfl];omega
   ·rcases y9.1 hj with h|h
    ·exact hI.2 j h
    ·subst h;omega) (λb _=>by unfold D0;simp) (b:=gH f.bI) ⟨⟨by omega,by simp only[xR,yS,show jA []=0 from rfl];omega⟩,λj hj=>dD hj (by omega)⟩
 have e1':Iw ⟨gH f.bI,0,f⟩=V ⟨b,(i:Int),f⟩:=e1;dsimp only;rw[e1'];dsimp only;rcases hc with rfl|⟨hi,hd⟩
 ·rw[bX (show ¬((f.ak.length:Int)<(f.ak.length:Int))by omega),bB];have ha:f.ak.all (λh=>J (dT h.aA<=12))=O:=Fs λj hj=>by simpa using hI.2 j hj
  have hn:=hI.1.2;rw[zB]at hn;rw[ha,bY (show b<=1024 by omega),bC,acF f.bI (by omega),aku f.bI (by omega)];by_cases h5:jD f.bI<=12
  ·cases fG f.bI<;>simp[h5]
  ·simp[h5]
 ·have hn:=Ba hi;have k1:=IE f.ak[i]!.aA (by omega);have k2:=Ie f.ak[i]!.aA (by omega);have hi1:(i:Int)<(f.ak.length:Int):=by omega
  have hi0:(0:Int)<=(i:Int):=by omega
  have ha:f.ak.all (λh=>J (dT h.aA<=12))=S:=uU hi (by simpa using hd);simp only[ze,au.eta,k1,k2,hi1,hi0,cI,bC,cT,cB,hd,ha,Bool.and_false,Bool.false_and]
def aif(M:aa ay->Int->bf->af se)(l:aa ay)(hM:∀s∈l,∀(d:Int) (b:bf),0<=d->d<=13->0<=b.bG->(b.bG+fO s.aM<=1000->M s.aM d b=V (nE d s.aM b))/\(b.bG+fO s.aS<=1000->M s.aS d b=V (nE d s.aS b)))(d:Int)(b:bf)(h0:0<=d)(hd:d<=13)(h1:0<=b.bG)(h2:b.bG+fO l<=1000):ajD M l d b=V (nE d l b):=by
 have hL:=kD l;have hw1:i64.wrap (d+1)=d+1:=aG;have hgo:∀(l:aa ay) (i:Nat) (b:bf),M1 (λ_ (b:bf) (s:ay)=>if e9 (dF d b)=O then(.inr (dF d b):bf ⊕ bf)else .inl (nE (d+1) s.aS (nE (d+1) s.aM (tw s.aA 1 (dF d b))))) id id l i b=nE d l b:=by
  intro l;induction l with
  |nil=>intro i b;rw[nE];rfl
  |cons s l ih=>
   intro i b;rw[nE];by_cases ho:e9 (dF d b)=O
   ·rw[bE ho,nM (r:=dF d b) (by rw[bE ho])];rfl
   ·rw[bO ho,rC (b':=nE (d+1) s.aS (nE (d+1) s.aM (tw s.aA 1 (dF d b)))) (by rw[bO ho])];exact ih (i+1) _
 have hm:∀(b:bf) (x:Bool),-1000000<=b.bG->b.bG<=1000000->x=(b.fE||J (12<d))->jo ⟨i64.wrap (b.bG+1),x⟩=(e9 (dF d b),dF d b):=λb x b1 b2 hx=>by
  rw[uc,aG,hx];rfl
 have hs:∀(i:Nat) (b:bf),i<l.length->0<=b.bG->b.bG+nS l[i]!<=1000->e9 (dF d b)=S->d<=12/\Gz l[i]!.aA 1 (dF d b)=V (tw l[i]!.aA 1 (dF d b))/\M l[i]!.aM (d+1) (tw l[i]!.aA 1 (dF d b))=V (nE (d+1) l[i]!.aM (tw l[i]!.aA 1 (dF d b)))/\M l[i]!.aS (d+1) (nE (d+1) l[i]!.aM (tw l[i]!.aA 1 (dF d b)))=V (nE (d+1) l[i]!.aS (nE (d+1) l[i]!.aM (tw l[i]!.aA 1 (dF d b))))/\0<=(nE (d+1) l[i]!.aS (nE (d+1) l[i]!.aM (tw l[i]!.aA 1 (dF d b)))).bG/\(nE (d+1) l[i]!.aS (nE (d+1) l[i]!.aM (tw l[i]!.aA 1 (dF d b)))).bG<=b.bG+nS l[i]! :=λi b hi b1 b2 ho=>by
  have hd2:d<=12:=by unfold e9 dF at ho;grind
  have hN:=oG l[i]!;have hp:(dF d b).bG=b.bG+1:=rfl;obtain⟨a1,a2,a3⟩:=JH l[i]!.aA 1 (dF d b) (by omega) (by omega) (by omega);obtain⟨c1,c2,c3⟩:=Pg (d+1) l[i]!.aM (tw l[i]!.aA 1 (dF d b)) (by omega) (by omega) (by omega) (by omega);obtain⟨g1,g2,g3⟩:=Pg (d+1) l[i]!.aS (nE (d+1) l[i]!.aM (tw l[i]!.aA 1 (dF d b))) (by omega) (by omega) (by omega) (by omega);exact⟨hd2,Tv _ 1 _ (by omega) (by omega) (by omega) (by omega),(hM _ (bh hi) (d+1) _ (by omega) (by omega) (by omega)).1 (by omega),(hM _ (bh hi) (d+1) _ (by omega) (by omega) (by omega)).2 (by omega),by omega,by omega⟩
 obtain⟨i,v,e1,hI,hc⟩:=TE (rnd:=FD M) l (λi (b:bf)=>⟨d,l,(l.length:Int),(i:Int),b⟩) (λ_ (b:bf) (s:ay)=>if e9 (dF d b)=O then(.inr (dF d b):bf ⊕ bf)else .inl (nE (d+1) s.aS (nE (d+1) s.aM (tw s.aA 1 (dF d b))))) id id (λi x=>0<=x.bG/\x.bG<=b.bG+fO (l.take i)) (λi x hi hx=>by
   have hn:=ED hi;have hw:=fu hi (by omega);have hi1:(i:Int)<(l.length:Int):=by omega
   have hi0:(0:Int)<=(i:Int):=by omega
   have hmx:=hm x;cases ho:e9 (dF d x)with
   |true=>
    refine⟨λb' hb'=>by simp at hb',λr hr=> ?_⟩;unfold FD;dsimp only;simp only[ze,hi1,hi0,cI,bC,cT,cB];cases hb:x.fE with
    |true=>rw[hmx O (by omega) (by omega) (by rw[hb];rfl),ho];rfl
    |false=>rw[hmx (J (12<d)) (by omega) (by omega) (by rw[hb];rfl),ho];rfl
   |false=>
    obtain⟨q0,q1,q2,q3,q4,q5⟩:=hs i x hi hx.1 (by omega) ho;refine⟨λb' hb'=> ?_,λr hr=>by simp at hr⟩;have hb':nE (d+1) l[i]!.aS (nE (d+1) l[i]!.aM (tw l[i]!.aA 1 (dF d x)))=b':=by simpa using hb'
    subst hb';refine⟨?_,⟨q4,by rw[bK hi,NU];omega⟩⟩;unfold FD;dsimp only;simp only[ze,hi1,hi0,cI,bC,cT,cB];cases hb:x.fE with
    |true=>rw[hmx O (by omega) (by omega) (by rw[hb];rfl),ho];simp only[au.eta,q1,q2,q3,hw1,hw,bC,bB]
    |false=>rw[hmx (J (12<d)) (by omega) (by omega) (by rw[hb];rfl),ho];simp only[au.eta,q1,q2,q3,hw1,hw,bC,bB]) (λx _=>by unfold FD;simp) (b:=b) ⟨h1,by simp[fO]⟩
 have e1':JN M ⟨d,l,(l.length:Int),0,b⟩=V ⟨d,l,(l.length:Int),(i:Int),v⟩:=e1;rw[hgo]at hc;unfold ajD;rw[e1'];dsimp only;rcases hc with ⟨rfl,hc⟩|⟨hi,r,hr,hc⟩
 ·rw[hc,gh];rfl
 ·have hn:=ED hi;have hi1:(i:Int)<(l.length:Int):=by omega
  have hi0:(0:Int)<=(i:Int):=by omega
  have ho:e9 (dF d v)=O:=by
   by_cases ho:e9 (dF d v)=O
   ·exact ho
   ·rw[bO ho]at hr;cases hr
  rw[bE ho]at hr;cases hr;rw[hc];have hmx:=hm v;simp only[ze,hi1,hi0,cI,bC,cT,cB];cases hb:v.fE with
  |true=>rw[hmx O (by omega) (by omega) (by rw[hb];rfl),ho];rfl
  |false=>rw[hmx (J (12<d)) (by omega) (by omega) (by rw[hb];rfl),ho];rfl
def Kr:∀(n:Nat) (l:aa ay) (d:Int) (b:bf),zg l<n->0<=d->d<=13->0<=b.bG->b.bG+fO l<=1000->Rx n l d b=V (nE d l b)
 |0,_,_,_,h,_,_,_,_=>by omega
 |n+1,l,d,b,h,h0,hd,h1,h2=>aif (Rx n) l (λs hs d b a1 a2 a3=>⟨λa4=>Kr n _ d b (by have:=bt hs;omega) a1 a2 a3 a4,λa4=>Kr n _ d b (by have:=bt hs;omega) a1 a2 a3 a4⟩) d b h0 hd h1 h2
def aeD(l:aa ay)(d:Int)(b:bf)(h0:0<=d)(hd:d<=13)(h1:0<=b.bG)(h2:b.bG+fO l<=1000):aax l d b=V (nE d l b):=fe (zg l+1) λn hn=>Kr n l d b (by omega) h0 hd h1 h2
def aeB(f:aN)(h:fO f.bI+jA (f.ak.map (·.aA))<=900)(hl:f.ak.length<=1000000):∃r q,aax f.bI 1 ⟨0,S⟩=V r/\EY ⟨f.ak,(f.ak.length:Int),0,f,r⟩=V ⟨f.ak,(f.ak.length:Int),(f.ak.length:Int),f,q⟩/\e9 q= !(f.ak.all (λh=>J (dT h.aA<=12))&&J (jD f.bI<=12)&& !fG f.bI):=by
 obtain⟨p1,p2,p3⟩:=Pg 1 f.bI ⟨0,S⟩ (by omega) (by omega) (zm 0) (by show (0:Int)+_<=_;omega);have p2:0<=(nE 1 f.bI ⟨0,S⟩).bG:=p2;have p3:(nE 1 f.bI ⟨0,S⟩).bG<=0+fO f.bI:=p3;refine⟨nE 1 f.bI ⟨0,S⟩,?_⟩;have p4:=aeD f.bI 1 ⟨0,S⟩ (by omega) (by omega) (zm 0) (by show (0:Int)+_<=_;omega);generalize nE 1 f.bI ⟨0,S⟩=r at*;obtain⟨q,e1,hI⟩:=dc (rnd:=DZ) f.ak.length (λi (q:bf)=>⟨f.ak,(f.ak.length:Int),(i:Int),f,q⟩) (λi q=>q.fE=(r.fE||(f.ak.take i).any λh=>J (12<dT h.aA))/\0<=q.bG/\q.bG<=r.bG+jA ((f.ak.take i).map (·.aA))) (λi q hi hI=>by
  have hn:=Ba hi;have hw:=fu hi hl;have hi1:(i:Int)<(f.ak.length:Int):=by omega
  have hi0:(0:Int)<=(i:Int):=by omega
  have hn2:jA ((f.ak.take (i+1)).map (·.aA))=jA ((f.ak.take i).map (·.aA))+nT f.ak[i]!.aA:=by
   rw[bK hi,z8,Cw];simp[jA]
  have ha:((f.ak.take (i+1)).any λh=>J (12<dT h.aA))=(((f.ak.take i).any λh=>J (12<dT h.aA))||J (12<dT f.ak[i]!.aA)):=by
   rw[bK hi,List.any_append,List.any_cons,List.any_nil,Bool.or_false]
  rw[ha,hn2];obtain⟨q1,q2,q3⟩:=hI;cases ho:e9 q with
  |true=>
   refine⟨q,?_,?_,q2,by omega⟩
   ·unfold DZ;dsimp only;simp only[ze,hi1,hi0,cI,bC,bB,cT,cB,uc,ho,hw]
   ·unfold e9 at ho;rw[bX (show ¬1024<q.bG by omega),Bool.or_false]at ho;rw[<-Bool.or_assoc,<-q1,ho];rfl
  |false=>
   obtain⟨c1,c2,c3⟩:=JH f.ak[i]!.aA 1 q (by omega) q2 (by omega);have k:=Tv f.ak[i]!.aA 1 q (by omega) (by omega) q2 (by omega);refine⟨tw f.ak[i]!.aA 1 q,?_,?_,by omega,by omega⟩
   ·unfold DZ;dsimp only;simp only[ze,au.eta,hi1,hi0,cI,bC,bB,cT,cB,uc,ho,hw,k]
   ·rw[c1,q1,Bool.or_assoc];rw[show J (12<1-1+dT f.ak[i]!.aA)=J (12<dT f.ak[i]!.aA)from decide_eq_decide.2 (by omega)]) (λq _=>by unfold DZ;simp) (b:=r) ⟨by simp,p2,by simp[jA]⟩
 have e1':EY ⟨f.ak,(f.ak.length:Int),0,f,r⟩=V ⟨f.ak,(f.ak.length:Int),(f.ak.length:Int),f,q⟩:=e1;refine⟨q,p4,e1',?_⟩;rw[zB]at hI;obtain⟨q1,q2,q3⟩:=hI;unfold e9;rw[bX (show ¬1024<q.bG by omega),Bool.or_false,q1,p1];have e2:(f.ak.any λh=>J (12<dT h.aA))= !(f.ak.all λh=>J (dT h.aA<=12)):=by
  rw[List.not_all_eq_any_not]
  congr 1
  funext h
  by_cases hd:dT h.aA<=12
  ·simp[hd]
  ·simp[hd];omega
 have e3:J (12<1-1+jD f.bI)= !J (jD f.bI<=12):=by
  by_cases hd:jD f.bI<=12
  ·simp[hd]
  ·simp[hd];omega
 rw[e2,e3];generalize (f.ak.all λh=>J (dT h.aA<=12))=x;generalize J (jD f.bI<=12)=y;generalize fG f.bI=z;cases x<;>cases y<;>cases z<;>rfl
def Bm:aa ay->Prop
 |[]=>True
 |s::l=>(0<=s.bq/\s.bq<=67108864)/\(s.cn=4->0<=s.fN/\s.fN<=4096)/\(s.cn≠3->s.cn≠4->s.aM=[])/\(s.cn≠3->s.aS=[])/\Bm s.aM/\Bm s.aS/\Bm l
termination_by l=>zg l
decreasing_by
 ·exact(bt (zo ..)).1
 ·exact(bt (zo ..)).2
 ·exact dY _ _
def an0{s:ay}(h:sD s=O):(0<=s.bq/\s.bq<=67108864)/\(s.cn=4->0<=s.fN/\s.fN<=4096):=by
 unfold sD at h;simp only[zi,decide_eq_true_eq]at h;grind
def Bi(f:aN):∀(n:Nat) (l:aa ay) (top:Bool),zg l<n->ct f top l=0->Bm l
 |0,_,_,h,_=>by omega
 |n+1,[],top,h,hc=>by rw[Bm];trivial
 |n+1,s::l,top,h,hc=>by
  rw[ct]at hc;have hz:=bt (l:=s::l) (zo ..);have hz2:=dY s l;by_cases h1:mW f (top&&l.isEmpty) s≠0
  ·rw[bE h1]at hc;exact dD hc h1
  rw[bO h1]at hc;by_cases h2:ct f S s.aM≠0
  ·rw[bE h2]at hc;exact dD hc h2
  rw[bO h2]at hc;by_cases h3:ct f S s.aS≠0
  ·rw[bE h3]at hc;exact dD hc h3
  rw[bO h3]at hc;have q1:=Bi f n s.aM S (by omega) (by omega);have q2:=Bi f n s.aS S (by omega) (by omega);have q3:=Bi f n l top (by omega) hc;have h1:mW f (top&&l.isEmpty) s=0:=by omega
  unfold mW at h1;cases hS:dI f s (top&&l.isEmpty)with
  |false=>rw[hS]at h1;simp at h1
  |true=>
   rw[hS]at h1;cases hN:sD s with
   |false=>rw[hN]at h1;simp at h1
   |true=>
    obtain⟨n1,n2⟩:=an0 hN;obtain⟨b1,b2,b3,b4,b5⟩:=jj hS;rw[Bm];exact⟨n1,n2,b3,b4,q1,q2,q3⟩
def Gt(s:ay)(a b:Int×Int×Int):Int×Int×Int:=
 if s.cn=1 then(1,1,s.bq)
 else if s.cn=3 then(1+max a.1 b.1,max a.2.1 b.2.1,s.bq+max a.2.2 b.2.2)
 else if s.cn=4 then(1+s.fN*(1+a.1),s.fN*a.2.1,s.fN*(s.bq+a.2.2))
 else(1,0,s.bq)
def LZ(a b:Int×Int×Int):Int×Int×Int:=(a.1+b.1,a.2.1+b.2.1,a.2.2+b.2.2)
def vF(s:ay)(l:aa ay):eV (s::l)=LZ (Gt s (eV s.aM) (eV s.aS)) (eV l):=by
 rw[eV];unfold Gt LZ;dsimp only;split
 ·rfl
 ·split
  ·rfl
  ·split
   ·rfl
   ·simp
def MA(l:aa ay)(s:ay):eV (l++[s])=LZ (eV l) (Gt s (eV s.aM) (eV s.aS)):=by
 have h0:eV []=(0,0,0):=by rw[eV]
 induction l with
 |nil=>rw[yw,vF,h0];unfold LZ;simp
 |cons a l ih=>
  rw[xo,vF,vF,ih];unfold LZ;simp only[Int.add_assoc]
def rV(c:Int×Int×Int)(a:Int×Int×Int):Int×Int×Int:=(min a.1 c.1,min a.2.1 c.2.1,min a.2.2 c.2.2)
def ac0{n x c k:Int}(hn:0<=n)(hk:0<=k)(hx:0<=x)(hc:0<=c):min (n*(k+min x c)) c=min (n*(k+x)) c:=by
 by_cases h:x<=c
 ·rw[wM h]
 ·rw[xW (show c<=x by omega)];by_cases h0:n=0
  ·subst h0;simp
  ·have e1:1*(k+c)<=n*(k+c):=zN (by omega) (by omega);have e2:1*(k+x)<=n*(k+x):=zN (by omega) (by omega);rw[xW (by omega),xW (by omega)]
def oa:∀{l:aa ay},Bm l->∀s∈l,(0<=s.bq/\s.bq<=67108864)/\(s.cn=4->0<=s.fN/\s.fN<=4096)/\(s.cn≠3->s.cn≠4->s.aM=[])/\(s.cn≠3->s.aS=[])/\Bm s.aM/\Bm s.aS
 |[],_,s,hs=>by cases hs
 |a::l,h,s,hs=>by
  rw[Bm]at h;rcases zD.1 hs with rfl|hs
  ·exact⟨h.1,h.2.1,h.2.2.1,h.2.2.2.1,h.2.2.2.2.1,h.2.2.2.2.2.1⟩
  ·exact oa h.2.2.2.2.2.2 s hs
def nn3(a:Int×Int×Int):Prop:=0<=a.1/\0<=a.2.1/\0<=a.2.2
def aqr{s:ay}{a b:Int×Int×Int}(hc:0<=s.bq)(hN:s.cn=4->0<=s.fN)(ha:nn3 a)(hb:nn3 b):nn3 (Gt s a b):=by
 unfold nn3 at*;unfold Gt;split
 ·exact⟨y8 (by decide:(0:Int)<1),y8 (by decide:(0:Int)<1),hc⟩
 ·split
  ·dsimp only;omega
  ·split
   ·rename_i h4;have:=hN h4;have e1:0<=s.fN*(1+a.1):=zF this (by omega);have e2:0<=s.fN*a.2.1:=zF this (by omega);have e3:0<=s.fN*(s.bq+a.2.2):=zF this (by omega);dsimp only;omega
   ·exact⟨y8 (by decide:(0:Int)<1),zm (0:Int),hc⟩
def Iy:∀(n:Nat) (l:aa ay),zg l<n->Bm l->nn3 (eV l)
 |0,_,h,_=>by omega
 |n+1,[],h,_=>by rw[show eV []=(0,0,0)by rw[eV]];exact⟨by decide,by decide,by decide⟩
 |n+1,s::l,h,ho=>by
  have hz:=bt (l:=s::l) (zo ..);have hz2:=dY s l;rw[Bm]at ho;have q1:=Iy n s.aM (by omega) ho.2.2.2.2.1;have q2:=Iy n s.aS (by omega) ho.2.2.2.2.2.1;have q3:=Iy n l (by omega) ho.2.2.2.2.2.2;have q4:=aqr ho.1.1 (λh=>(ho.2.1 h).1) q1 q2;rw[vF];unfold nn3 LZ at*;dsimp only;omega
def ri{l:aa ay}(h:Bm l):nn3 (eV l):=Iy _ l (zJ _) h
def Db:∀{l:aa ay} (i:Nat),Bm l->Bm (l.take i)
 |[],i,h=>by rw[List.take_nil];exact h
 |s::l,0,h=>by rw[xR,Bm];trivial
 |s::l,i+1,h=>by
  rw[Bm]at h;rw[List.take_succ_cons,Bm];exact⟨h.1,h.2.1,h.2.2.1,h.2.2.2.1,h.2.2.2.2.1,h.2.2.2.2.2.1,Db i h.2.2.2.2.2.2⟩
def M3(a:Int×Int×Int):qz:=⟨a.1,a.2.1,a.2.2⟩
def R7:Int×Int×Int:=(1099511627776,1099511627776,1099511627776)
def KY:Int×Int×Int:=(4097,9,67108865)
def akl{n x:Int}(h1:0<=n)(h2:n<=4096)(h3:0<=x)(h4:x<=1200000000000):0<=n*x/\n*x<=4915200000000000:=by
 have e1:n*x<=4096*x:=zN h2 h3;have e2:0<=n*x:=zF h1 h3;omega
def kj(w c:Int):(if c<w then c else w)=min w c:=by omega
def as9(w c:Int):(if w<c then w else c)=min w c:=by omega
def Rn(a b c:Int):(if min a c<min b c then min b c else min a c)=min (max a b) c:=by omega
def adq(a b c:Int):(if min b c<min a c then min a c else min b c)=min (max a b) c:=by omega
section
variable {C x y m k n a:Int} (h0:0<=C) (h1:C<=1099511627776) (hx:0<=x)
include h0 h1 hx
theorem RO(hy:0<=y)(hy2:y<=67108864):min (i64.wrap (min x C+y)) C=min (x+y) C:=by
 rw[aG];omega
theorem Wx(hm:0<=m)(hk:0<=k)(hk2:k<=67108864):min (i64.wrap (min x C+i64.wrap (k+min m C))) C=min (x+(k+m)) C:=by
 have:i64.wrap (k+min m C)=k+min m C:=aG;rw[this,aG];omega
theorem alK(hm:0<=m):min (i64.wrap (min x C+min m C)) C=min (x+m) C:=by
 rw[aG];omega
theorem aq2{z:Int}(hz:0<=z)(hy:0<=y)(hy2:y<=4915200000000001)(h:min y C=min z C):min (i64.wrap (min x C+y)) C=min (x+z) C:=by
 rw[aG];omega
omit hx in
theorem YM(hn:0<=n)(hn2:n<=4096)(ha:0<=a)(hk:0<=k)(hk2:k<=67108864):i64.wrap (n*i64.wrap (k+min a C))=n*(k+min a C)/\0<=n*(k+min a C)/\n*(k+min a C)<=4915200000000000/\0<=n*(k+a)/\min (n*(k+min a C)) C=min (n*(k+a)) C:=by
 have e1:i64.wrap (k+min a C)=k+min a C:=aG;have e2:=akl (x:=k+min a C) hn hn2 (by omega) (by omega);rw[e1];exact⟨aG,e2.1,e2.2,zF hn (by omega),ac0 hn hk ha h0⟩
theorem axL(hn:0<=n)(hn2:n<=4096)(ha:0<=a)(hk:0<=k)(hk2:k<=67108864):min (i64.wrap (min x C+i64.wrap (n*i64.wrap (k+min a C)))) C=min (x+n*(k+a)) C:=by
 obtain⟨q1,q2,q3,q4,q5⟩:=YM h0 h1 hn hn2 ha hk hk2;rw[q1];exact aq2 h0 h1 hx q4 q2 (by omega) q5
theorem al4(hn:0<=n)(hn2:n<=4096)(ha:0<=a):min (i64.wrap (min x C+i64.wrap (1+i64.wrap (n*i64.wrap (1+min a C))))) C=min (x+(1+n*(1+a))) C:=by
 obtain⟨q1,q2,q3,q4,q5⟩:=YM (k:=1) h0 h1 hn hn2 ha (by omega) (by omega);rw[q1];generalize n*(1+min a C)=y at*;generalize n*(1+a)=z at*;rw[show i64.wrap (1+y)=1+y from aG];exact aq2 h0 h1 hx (by omega) (by omega) (by omega) (by omega)
theorem anu(hn:0<=n)(hn2:n<=4096)(ha:0<=a):min (i64.wrap (min x C+i64.wrap (n*min a C))) C=min (x+n*a) C:=by
 obtain⟨q1,q2,q3,q4,q5⟩:=YM (k:=0) h0 h1 hn hn2 ha (by omega) (by omega);rw[Int.zero_add]at q2 q3 q4 q5;rw[Int.zero_add]at q5;rw[show i64.wrap (n*min a C)=n*min a C from aG];exact aq2 h0 h1 hx q4 q2 (by omega) q5
end
def ahk(M:aa ay->af rX)(l:aa ay)(hl:l.length<=1000000)(ho:Bm l)(hM:∀s∈l,M s.aM=V (M3 (rV R7 (eV s.aM)))/\M s.aS=V (M3 (rV R7 (eV s.aS)))):adr M l=V (M3 (rV R7 (eV l))):=by
 obtain⟨v,e1,hv⟩:=dc (rnd:=KU M) l.length (λi (b:qz)=>⟨l,(l.length:Int),(i:Int),⟨0,0,0⟩,b⟩) (λi b=>b=M3 (rV R7 (eV (l.take i)))) (λi bb hi hb=>by
  have hw:=fu hi hl;obtain⟨k1,k2⟩:=hM _ (bh hi);obtain⟨⟨c1,c2⟩,hN,_,_,o1,o2⟩:=oa ho _ (bh hi);obtain⟨x1,x2,x3⟩:=ri (Db i ho);obtain⟨a1,a2,a3⟩:=ri o1;obtain⟨b1,b2,b3⟩:=ri o2;refine⟨M3 (rV R7 (eV (l.take (i+1)))),?_,rfl⟩;have hi1:(i:Int)<(l.length:Int):=by omega
  have hi0:(0:Int)<=(i:Int):=by omega
  rw[bK hi,MA];generalize eV (l.take i)=x at*;generalize eV l[i]!.aM=a at*;generalize eV l[i]!.aS=b at*;obtain⟨X1,X2,X3⟩:=x;obtain⟨A1,A2,A3⟩:=a;obtain⟨B1,B2,B3⟩:=b;have hb:bb=⟨min X1 1099511627776,min X2 1099511627776,min X3 1099511627776⟩:=hb;have k1:M l[i]!.aM=V ⟨min A1 1099511627776,min A2 1099511627776,min A3 1099511627776⟩:=k1;have k2:M l[i]!.aS=V ⟨min B1 1099511627776,min B2 1099511627776,min B3 1099511627776⟩:=k2;subst hb;have z0:(0:Int)<=1099511627776:=by decide
  have z1:(1099511627776:Int)<=1099511627776:=by decide
  dsimp only at x1 x2 x3 a1 a2 a3 b1 b2 b3;unfold KU;dsimp only;simp only[ze,hi1,hi0,cI,bC,cT,cB,k1,k2,hw];by_cases h1:l[i]!.cn=1
  ·have e:Gt l[i]! (A1,A2,A3) (B1,B2,B3)=(1,1,l[i]!.bq):=by unfold Gt;rw[bE h1]
   rw[bY h1,bC,e,kj,kj,kj,RO z0 z1 x1 (by omega) (by omega),RO z0 z1 x2 (by omega) (by omega),RO z0 z1 x3 c1 c2];rfl
  ·rw[bX h1,bB];by_cases h3:l[i]!.cn=3
   ·have e:Gt l[i]! (A1,A2,A3) (B1,B2,B3)=(1+max A1 B1,max A2 B2,l[i]!.bq+max A3 B3):=by unfold Gt;rw[bO h1,bE h3]
    rw[bY h3,bC,e,Rn,Rn,Rn,kj,kj,kj,Wx z0 z1 x1 (by omega) (by omega) (by omega),alK z0 z1 x2 (by omega),Wx z0 z1 x3 (by omega) c1 c2];rfl
   ·rw[bX h3,bB];by_cases h4:l[i]!.cn=4
    ·obtain⟨n1,n2⟩:=hN h4;have e:Gt l[i]! (A1,A2,A3) (B1,B2,B3)=(1+l[i]!.fN*(1+A1),l[i]!.fN*A2,l[i]!.fN*(l[i]!.bq+A3)):=by unfold Gt;rw[bO h1,bO h3,bE h4]
     rw[bY h4,bC,e,kj,kj,kj,al4 z0 z1 x1 n1 n2 a1,anu z0 z1 x2 n1 n2 a2,axL z0 z1 x3 n1 n2 a3 c1 c2];rfl
    ·have e:Gt l[i]! (A1,A2,A3) (B1,B2,B3)=(1,0,l[i]!.bq):=by unfold Gt;rw[bO h1,bO h3,bO h4]
     rw[bX h4,bB,e,kj,kj,kj,RO z0 z1 x1 (by omega) (by omega),RO z0 z1 x2 (by omega) (by omega),RO z0 z1 x3 c1 c2];rfl) (λb _=>by unfold KU;simp) (b:=⟨0,0,0⟩) (by rw[xR,show eV []=(0,0,0)by rw[eV]];rfl)
 have e1':Je M ⟨l,(l.length:Int),0,⟨0,0,0⟩,⟨0,0,0⟩⟩=V ⟨l,(l.length:Int),(l.length:Int),⟨0,0,0⟩,v⟩:=e1;unfold adr;rw[e1'];rw[zB]at hv;rw[hv];simp
def H6:∀(n:Nat) (l:aa ay),zg l<n->fO l<=1000->Bm l->Px n l=V (M3 (rV R7 (eV l)))
 |0,_,h,_,_=>by omega
 |n+1,l,h,h2,ho=>ahk (Px n) l (by have:=kD l;omega) ho (λs hs=>⟨H6 n _ (by have:=bt hs;omega) (by have:=gm hs;omega) (oa ho s hs).2.2.2.2.1,H6 n _ (by have:=bt hs;omega) (by have:=gm hs;omega) (oa ho s hs).2.2.2.2.2⟩)
def ag0(l:aa ay)(h:fO l<=1000)(ho:Bm l):Yo l=V (M3 (rV R7 (eV l))):=fe (zg l+1) λn hn=>H6 n l (by omega) h ho
def ao2(M:aa ay->af OH)(l:aa ay)(hl:l.length<=1000000)(ho:Bm l)(hM:∀s∈l,M s.aM=V (rV KY (eV s.aM))/\M s.aS=V (rV KY (eV s.aS))):s90 M l=V (rV KY (eV l)):=by
 obtain⟨v,e1,hv⟩:=dc (rnd:=TZ M) l.length (λi (b:Int×Int×Int)=>⟨l,b.1,b.2.1,b.2.2,(i:Int)⟩) (λi b=>b=rV KY (eV (l.take i))) (λi bb hi hb=>by
  have hw:=fu hi hl;obtain⟨k1,k2⟩:=hM _ (bh hi);obtain⟨⟨c1,c2⟩,hN,hT,hE,o1,o2⟩:=oa ho _ (bh hi);obtain⟨x1,x2,x3⟩:=ri (Db i ho);obtain⟨a1,a2,a3⟩:=ri o1;obtain⟨b1,b2,b3⟩:=ri o2;have zT:l[i]!.cn≠3->l[i]!.cn≠4->eV l[i]!.aM=(0,0,0):=λh3 h4=>by rw[hT h3 h4,eV]
  have zE:l[i]!.cn≠3->eV l[i]!.aS=(0,0,0):=λh3=>by rw[hE h3,eV]
  refine⟨rV KY (eV (l.take (i+1))),?_,rfl⟩;have hi1:(i:Int)<(l.length:Int):=by omega
  have hi0:(0:Int)<=(i:Int):=by omega
  rw[bK hi,MA];generalize eV (l.take i)=x at*;generalize eV l[i]!.aM=a at*;generalize eV l[i]!.aS=b at*;obtain⟨X1,X2,X3⟩:=x;obtain⟨A1,A2,A3⟩:=a;obtain⟨B1,B2,B3⟩:=b;have hb:bb=(min X1 4097,min X2 9,min X3 67108865):=hb;have k1:M l[i]!.aM=V (min A1 4097,min A2 9,min A3 67108865):=k1;have k2:M l[i]!.aS=V (min B1 4097,min B2 9,min B3 67108865):=k2;subst hb;have z0:(0:Int)<=4097:=by decide
  have z1:(4097:Int)<=1099511627776:=by decide
  have y0:(0:Int)<=9:=by decide
  have y1:(9:Int)<=1099511627776:=by decide
  have u0:(0:Int)<=67108865:=by decide
  have u1:(67108865:Int)<=1099511627776:=by decide
  dsimp only at x1 x2 x3 a1 a2 a3 b1 b2 b3;unfold TZ;dsimp only;simp only[ze,hi1,hi0,cI,bC,cT,cB,k1,k2,hw,qU,oC,as9,adq];by_cases h4:l[i]!.cn=4
  ·obtain⟨n1,n2⟩:=hN h4;have h1:¬l[i]!.cn=1:=by omega
   have h3:¬l[i]!.cn=3:=by omega
   have e:Gt l[i]! (A1,A2,A3) (B1,B2,B3)=(1+l[i]!.fN*(1+A1),l[i]!.fN*A2,l[i]!.fN*(l[i]!.bq+A3)):=by unfold Gt;rw[bO h1,bO h3,bE h4]
   rw[bY h4,bX h1,bC,bB,e,al4 z0 z1 x1 n1 n2 a1,anu y0 y1 x2 n1 n2 a2,axL u0 u1 x3 n1 n2 a3 c1 c2];rfl
  ·rw[bX h4,bB];by_cases h1:l[i]!.cn=1
   ·have h3:¬l[i]!.cn=3:=by omega
    have ea:=zT h3 h4;have eb:=zE h3;cases ea;cases eb;have e:Gt l[i]! (0,0,0) (0,0,0)=(1,1,l[i]!.bq):=by unfold Gt;rw[bE h1]
    rw[bY h1,bC,e,Wx z0 z1 x1 (by omega) (by omega) (by omega),RO y0 y1 x2 (by omega) (by omega),Wx u0 u1 x3 (by omega) c1 c2];simp only[rV,KY,LZ,Int.max_self,Int.add_zero]
   ·rw[bX h1,bB,Wx z0 z1 x1 (by omega) (by omega) (by omega),alK y0 y1 x2 (by omega),Wx u0 u1 x3 (by omega) c1 c2];by_cases h3:l[i]!.cn=3
    ·have e:Gt l[i]! (A1,A2,A3) (B1,B2,B3)=(1+max A1 B1,max A2 B2,l[i]!.bq+max A3 B3):=by unfold Gt;rw[bO h1,bE h3]
     rw[e];rfl
    ·have ea:=zT h3 h4;have eb:=zE h3;cases ea;cases eb;have e:Gt l[i]! (0,0,0) (0,0,0)=(1,0,l[i]!.bq):=by unfold Gt;rw[bO h1,bO h3,bO h4]
     rw[e];simp only[rV,KY,LZ,Int.max_self,Int.add_zero]) (λb _=>by unfold TZ;simp) (b:=(0,0,0)) (by rw[xR,show eV []=(0,0,0)by rw[eV]];rfl)
 have e1':Uh M ⟨l,0,0,0,0⟩=V ⟨l,v.1,v.2.1,v.2.2,(l.length:Int)⟩:=e1;unfold s90;rw[e1'];rw[zB]at hv;rw[hv];simp
def QB:∀(n:Nat) (l:aa ay),zg l<n->fO l<=1000->Bm l->m90 n l=V (rV KY (eV l))
 |0,_,h,_,_=>by omega
 |n+1,l,h,h2,ho=>ao2 (m90 n) l (by have:=kD l;omega) ho (λs hs=>⟨QB n _ (by have:=bt hs;omega) (by have:=gm hs;omega) (oa ho s hs).2.2.2.2.1,QB n _ (by have:=bt hs;omega) (by have:=gm hs;omega) (oa ho s hs).2.2.2.2.2⟩)
def abP(l:aa ay)(h:fO l<=1000)(ho:Bm l):r90 l=V (rV KY (eV l)):=fe (zg l+1) λn hn=>QB n l (by omega) h ho
def Ua(f:aN)(h:fO f.bI+jA (f.ak.map (·.aA))<=900)(hh:f.ak.length<=1000000)(hvl:f.ai.length<=1000000):Xr f=V (oI f):=by
 obtain⟨r,q,e1,e2,e3⟩:=aeB f h hh;unfold Xr oI;rw[e1];dsimp only;rw[e2];dsimp only;rw[bX (show ¬((f.ak.length:Int)<(f.ak.length:Int))by omega),bB,uc,e3];unfold qx;generalize (f.ak.all λh=>J (dT h.aA<=12))=x;generalize J (jD f.bI<=12)=y;generalize fG f.bI=z;by_cases h1:64<(f.ai.length:Int)
 ·simp[h1,show ¬f.ai.length<=64 by omega]
 by_cases h2:8<(f.ak.length:Int)
 ·simp[h1,h2,show ¬f.ak.length<=8 by omega]
 rw[bX h1,bX h2,bY (show f.ai.length<=64 by omega),bY (show f.ak.length<=8 by omega)];dsimp only[bB,wA];simp only[wA];cases hx:(x&&y&& !z)with
 |false=>rfl
 |true=>
  rw[afr f.ai hvl];dsimp only[Bool.not_true,bB];rw[bO (by decide)];by_cases hvc:jy f.ai=0
  case neg=>simp[hvc]
  have hv:dg f.ai:=by
   apply mU;unfold jy at hvc;by_cases h0:cu (lQ f.ai) f.ai 0=0
   ·exact h0
   ·rw[bE h0]at hvc;exact dD hvc h0
  rw[bY hvc,bC,bB,bO (by simpa using hvc),agd f hv hh];dsimp only;by_cases hhc:cu (kf f) f.ak 0=0
  case neg=>simp[hhc]
  rw[bY hhc,bC,bB,bO (by simpa using hhc),agY f hv f.bI O (by omega)];dsimp only;by_cases hsc:ct f O f.bI=0
  case neg=>simp[hsc]
  have ho:Bm f.bI:=Bi f _ f.bI O (zJ _) hsc;rw[bY hsc,bC,bB,bO (by simpa using hsc)];have e:=ag0 f.bI (by omega) ho;unfold UR;generalize eV f.bI=u at e ⊢;obtain⟨a,b,c⟩:=u;have e:Yo f.bI=V ⟨min a 1099511627776,min b 1099511627776,min c 1099511627776⟩:=e;rw[e];dsimp only;by_cases a1:4096<a
  ·simp[a1,show 4096<min a 1099511627776 by omega]
  ·by_cases b1:8<b
   ·simp[a1,b1,show ¬4096<min a 1099511627776 by omega,show 8<min b 1099511627776 by omega]
   ·by_cases d1:67108864<c
    ·simp[a1,b1,d1,show ¬4096<min a 1099511627776 by omega,show ¬8<min b 1099511627776 by omega,show 67108864<min c 1099511627776 by omega]
    ·simp[a1,b1,d1,show ¬4096<min a 1099511627776 by omega,show ¬8<min b 1099511627776 by omega,show ¬67108864<min c 1099511627776 by omega]
def Yz(f:aN)(h:fO f.bI+jA (f.ak.map (·.aA))<=900)(hh:f.ak.length<=1000000)(hvl:f.ai.length<=1000000):m78 f=V (oI f):=by
 unfold m78 oI;rw[ahM f h hh];dsimp only;cases hx:qx f with
 |false=>rfl
 |true=>
  rw[ahd f.ai hvl];dsimp only[bC,bB];rw[bO (by decide)];by_cases hvc:jy f.ai=0
  case neg=>simp[hvc]
  have hv:dg f.ai:=by
   apply mU;unfold jy at hvc;by_cases h0:cu (lQ f.ai) f.ai 0=0
   ·exact h0
   ·rw[bE h0]at hvc;exact dD hvc h0
  obtain⟨i,e1,hc⟩:=Xq f hv hh;rw[bY hvc,bC,bB,bO (by simpa using hvc),e1];dsimp only;rcases hc with ⟨rfl,hc⟩|⟨hi,h0,hc⟩
  ·rw[bO (show ¬(cu (kf f) f.ak 0≠0)by rw[hc];simp),bX (show ¬((f.ak.length:Int)<(f.ak.length:Int))by omega),bB,adx f hv f.bI O (by omega)];dsimp only;by_cases hsc:ct f O f.bI=0
   case neg=>simp[hsc]
   have ho:Bm f.bI:=Bi f _ f.bI O (zJ _) hsc;rw[bY hsc,bC,bB,bO (show ¬(ct f O f.bI≠0)by rw[hsc];simp)];have e:=abP f.bI (by omega) ho;unfold UR;generalize eV f.bI=u at e ⊢;obtain⟨a,b,c⟩:=u;have e:r90 f.bI=V (min a 4097,min b 9,min c 67108865):=e;rw[e];dsimp only;by_cases a1:4096<a
   ·simp[a1,show 4096<min a 4097 by omega]
   ·by_cases b1:8<b
    ·simp[a1,b1,show ¬4096<min a 4097 by omega,show 8<min b 9 by omega]
    ·by_cases d1:67108864<c
     ·simp[a1,b1,d1,show ¬4096<min a 4097 by omega,show ¬8<min b 9 by omega,show 67108864<min c 67108865 by omega]
     ·simp[a1,b1,d1,show ¬4096<min a 4097 by omega,show ¬8<min b 9 by omega,show ¬67108864<min c 67108865 by omega]
  ·obtain⟨j,h2,h3⟩:=Lq f hh i (by omega) f.ak[i]!;rw[bE (show cu (kf f) f.ak 0≠0 by rw[hc];exact h0),hc];have hi1:(i:Int)<(f.ak.length:Int):=by omega
   have hi0:(0:Int)<=(i:Int):=by omega
   revert h0;unfold kf;simp only[ze,au.eta,dB.eta,CC,CA,h2,Cz f.ai hv,hi0,hi1,cT,cB,cI,bC];generalize iO f.ak[i]!.fName=B;generalize ((f.ak.take i).any λw=>w.fName.toList==f.ak[i]!.fName.toList)=A at h3;generalize gP f.ak[i]!.ag f.ak[i]!.ah=C;generalize eW f.ai O f.ak[i]!.aA=T;rcases h3 with ⟨rfl,rfl⟩|⟨hj,h4,rfl⟩
   ·cases B<;>cases C<;>by_cases hT:T=0<;>simp[hT]
   ·have hj1:(j:Int)<(i:Int):=by omega
    have hj2:(j:Int)<(f.ak.length:Int):=by omega
    have hj0:(0:Int)<=(j:Int):=by omega
    simp only[hj0,hj1,hj2,h4,cT,cB,cI,bC];cases B<;>simp
def lC{f:aN}(h:oI f=0):dg f.ai:=by
 unfold oI at h;by_cases h1:qx f=S
 ·rw[bE h1]at h;exact dD h (by decide)
 rw[bO h1]at h;by_cases hvc:jy f.ai=0
 ·apply mU;unfold jy at hvc;by_cases h0:cu (lQ f.ai) f.ai 0=0
  ·exact h0
  ·rw[bE h0]at hvc;exact dD hvc h0
 ·rw[bE hvc]at h;exact dD h hvc
structure CS where
 (vals outs:List Int)
 time:Int
def jM{f:aN}{top:Bool}{x:ay}{l:aa ay}(h:ct f top (x::l)=0):mW f (top&&l.isEmpty) x=0/\ct f S x.aM=0/\ct f S x.aS=0/\ct f top l=0:=by
 rw[ct]at h;split at h
 ·exact dD h ‹_›
 rename_i h1;split at h
 ·exact dD h ‹_›
 rename_i h2;split at h
 ·exact dD h ‹_›
 rename_i h3;exact⟨by simpa using h1,by simpa using h2,by simpa using h3,h⟩
structure ajT (f:aN) (last:Bool) (x:ay):Prop where
 do_:0<=x.cn/\x.cn<=6
 cost:0<=x.bq/\x.bq<=67108864
 n4:x.cn=4->0<=x.fN/\x.fN<=4096
 var:x.cn=0\/x.cn=5->0<=x.dG/\x.dG<f.ai.length
 n5:x.cn=5->0<=x.fN/\x.fN<f.ak.length
 amn:x.cn=6->last=O/\(1<=x.aJ.length/\x.aJ.length<=32)/\(0:Int)<=x.aJ[0]!/\fZ x.aJ=O/\x.aJ[x.aJ.length-1]!<=67108864
 term:eW f.ai S x.aA=0
def uE{f:aN}{last:Bool}{x:ay}(h:mW f last x=0):ajT f last x:=by
 unfold mW at h;by_cases h1:dI f x last=S
 ·rw[bE h1]at h;cases h
 rw[bO h1]at h;by_cases h2:sD x=S
 ·rw[bE h2]at h;cases h
 rw[bO h2]at h;have h1:dI f x last=O:=by simpa using h1
 have h2:sD x=O:=by simpa using h2
 unfold sD at h2;simp only[zi,decide_eq_true_eq]at h2;obtain⟨⟨g1,g2⟩,g3⟩:=h2;unfold dI sV at h1;dsimp only at h1;have hd:0<=x.cn/\x.cn<=6:=by
  by_cases a0:x.cn=0
  ·omega
  by_cases a1:x.cn=1
  ·omega
  by_cases a2:x.cn=2
  ·omega
  by_cases a3:x.cn=3
  ·omega
  by_cases a4:x.cn=4
  ·omega
  by_cases a5:x.cn=5
  ·omega
  by_cases a6:x.cn=6
  ·omega
  ·simp[a0,a1,a2,a3,a4,a5,a6]at h1
 refine⟨hd,⟨g1.1,?_⟩,λq=> ?_,λq=> ?_,λq=> ?_,λq=> ?_,h⟩
 ·have:=g1.2;split at this<;>omega
 ·rw[bE q]at g2;simpa using g2
 ·rcases q with q|q
  ·simp[q]at h1;omega
  ·simp[q]at h1;omega
 ·simp[q]at h1;omega
 ·rw[bE q]at g3;simp only[q,Int.reduceEq,cB,gG,zi,decide_eq_true_eq]at h1 g3;exact⟨h1.1.1.1.1.2,h1.2.1.1,h1.2.1.2,h1.2.2,g3⟩
def TJ(x:ay)(l:aa ay):eV (x::l)=
  (if x.cn=1 then(1+(eV l).1,1+(eV l).2.1,x.bq+(eV l).2.2)
   else if x.cn=3 then(1+max (eV x.aM).1 (eV x.aS).1+(eV l).1,max (eV x.aM).2.1 (eV x.aS).2.1+(eV l).2.1,x.bq+max (eV x.aM).2.2 (eV x.aS).2.2+(eV l).2.2)
   else if x.cn=4 then(1+x.fN*(1+(eV x.aM).1)+(eV l).1,x.fN*(eV x.aM).2.1+(eV l).2.1,x.fN*(x.bq+(eV x.aM).2.2)+(eV l).2.2)
   else(1+(eV l).1,(eV l).2.1,x.bq+(eV l).2.2)):=by rw[eV]
def jR(f:aN):∀(n:Nat) (l:aa ay) (top:Bool),zg l<n->ct f top l=0->0<=(eV l).2.1/\0<=(eV l).2.2
 |0,_,_,h,_=>by omega
 |n+1,[],_,_,_=>by rw[eV];exact⟨zm _,zm _⟩
 |n+1,x::l,top,h,hc=>by
  obtain⟨h1,h2,h3,h4⟩:=jM hc;have ho:=uE h1;have hs:=bt (zo (a:=x) (l:=l));have ht:=dY x l;have i1:=jR f n x.aM S (by omega) h2;have i2:=jR f n x.aS S (by omega) h3;have i3:=jR f n l top (by omega) h4;have hcost:=ho.cost;rw[TJ];by_cases a1:x.cn=1
  ·rw[bE a1];dsimp only;omega
  by_cases a3:x.cn=3
  ·rw[bO a1,bE a3];dsimp only;omega
  by_cases a4:x.cn=4
  ·rw[bO a1,bO a3,bE a4];have hn:=ho.n4 a4;have p1:=zF hn.1 i1.1;have p2:=zF hn.1 (show 0<=x.bq+(eV x.aM).2.2 by omega);dsimp only;omega
  ·rw[bO a1,bO a3,bO a4];dsimp only;omega
structure Aft (vars:List aX) (s r:CS) (o t:Int):Prop where
 vals:VIn vars r.vals
 outs:(s.outs.length:Int)<=r.outs.length/\(r.outs.length:Int)<=s.outs.length+o
 time:s.time<=r.time/\r.time<=s.time+t
def uO(x:ay):Int×Int:=if x.cn=1 then(1,x.bq)else if x.cn=3 then(max (eV x.aM).2.1 (eV x.aS).2.1,x.bq+max (eV x.aM).2.2 (eV x.aS).2.2)
 else if x.cn=4 then(x.fN*(eV x.aM).2.1,x.fN*(x.bq+(eV x.aM).2.2))else(0,x.bq)
def ado(x:ay)(l:aa ay):(eV (x::l)).2.1=(uO x).1+(eV l).2.1/\(eV (x::l)).2.2=(uO x).2+(eV l).2.2:=by
 rw[TJ];unfold uO;split
 ·exact⟨rfl,rfl⟩
 split
 ·exact⟨rfl,rfl⟩
 split
 ·exact⟨rfl,rfl⟩
 ·refine⟨?_,rfl⟩;dsimp only;omega
def Ug{l:aa Int}(h:fZ l=O):∀{i j:Nat},i<j->j<l.length->l[i]! <l[j]! :=by
 intro i j hij hj;induction j with
 |zero=>omega
 |succ j ih=>
  have h1:=(jL l).1 h j hj;by_cases hi:i=j
  ·subst hi;exact h1
  ·have:=ih (by omega) (by omega);omega
structure Bud (f:aN) (top:Bool) (l:List ay) (s:CS):Prop where
 hc:ct f top l=0
 vals:VIn f.ai s.vals
 t0:0<=s.time
 t:s.time+(eV l).2.2<=134217728
 o:(s.outs.length:Int)+(eV l).2.1<=8
structure aIi (f:aN) (x:ay) (n:Nat) (s:CS):Prop where
 hc:ct f S x.aM=0
 term:eW f.ai S x.aA=0
 cost:0<=x.bq
 vals:VIn f.ai s.vals
 t0:0<=s.time
 t:s.time+n*(x.bq+(eV x.aM).2.2)<=134217728
 o:(s.outs.length:Int)+n*(eV x.aM).2.1<=8
def drop_cons{α:Type}[Inhabited α]{l:aa α}{i:Nat}(h:i<l.length):l.drop i=l[i]! ::l.drop (i+1):=by rw[getElem!_pos l i h];exact xu h
def UC{x:ay}{l:aa ay}(hx:x∈l):fO x.aM<=fO l/\fO x.aS<=fO l:=by have:=Cm hx;have:=oG x;omega
def Dt{f:aN}{x:ay}:∀{top:Bool} {l:aa ay},ct f top l=0->x∈l->∃last,ajT f last x
 |_,[],_,h=>by cases h
 |_,y::l,hc,h=>by
  obtain⟨h1,h2,h3,h4⟩:=jM hc;rcases zD.1 h with rfl|h
  ·exact⟨_,uE h1⟩
  ·exact Dt h4 h
def nD(n:Nat)(g:Nat->aH):aa aH:=(zM n).map g
def ji(n:Nat)(g:Nat->aH):(nD n g).length=n:=by simp[nD]
def nU{n:Nat}{g:Nat->aH}{i:Nat}(h:i<n):(nD n g)[i]! =g i:=by
 rw[getElem!_pos _ i (by rw[ji];exact h)];simp[nD]
def MJ(n:Nat)(g:Nat->aH):nD (n+1) g=nD n g++[g n]:=by simp[nD,List.range_succ]
def ij{n:Nat}{g g':Nat->aH}(h:∀i,i<n->g i=g' i):nD n g=nD n g':=
 zX λi hi=>h i (List.mem_range.1 hi)
def Jx{n:Nat}{g:Nat->aH}{i:Nat}(x:aH):(nD n g).set i x=nD n (λj=>if j=i then x else g j):=by
 apply wB
 ·simp[nD]
 ·intro j h1 h2;simp only[nD,List.getElem_set,yY,List.getElem_range];by_cases c:i=j
  ·subst c;simp
  ·rw[bO c,bO (λe=>c e.symm)]
def ZT(l:aa aH):nD l.length (λi=>l[i]!)=l:=by
 apply wB
 ·simp[nD]
 ·intro j h1 h2;simp only[nD,yY,List.getElem_range];exact getElem!_pos l j h2
def R3{n:Nat}{g:Nat->aH}{l:aa aH}(h1:l.length=n)(h2:∀i,i<n->g i=l[i]!):nD n g=l:=by
 subst h1;rw[ij h2,ZT]
def tr(s:ax):aK:=⟨s.ai,s.aB,s.aC,s.aI⟩
structure gE (n m:Nat) (s:ax):Prop where
 len:s.ai.length=n
 vars:∀i,i<n->NN s.ai[i]!
 count:NN s.aB
 sl:s.aC.length<=m
 slots:∀i,i<s.aC.length->NN s.aC[i]!
 time:NN s.aI
def gE.weak{n m m':Nat}{s:ax}(h:gE n m s)(k:m<=m'):gE n m' s:=⟨h.len,h.vars,h.count,zK h.sl k,h.slots,h.time⟩
def kK(s:ax)(c:Int):ax:=⟨s.ai,s.aB,s.aC,Gg 8 s.aI (fK c)⟩
def XV(f:aN)(s:ax)(v:Int)(n:aH):ax:=⟨s.ai.set v.toNat (jh n f.ai[v.toNat]!.ag f.ai[v.toNat]!.ah),s.aB,s.aC,s.aI⟩
def aci(s:ax)(v:aH):ax:=
 ⟨s.ai,Gg 8 s.aB (fK 1),nD s.aC.length (λk=>if de s.aB k=O then cV s.aC[k]! v else s.aC[k]!)++[v],s.aI⟩
def slJ(a b:aa aH)(i:Nat):aH:=if a.length<=i then b[i]! else if b.length<=i then a[i]! else cV a[i]! b[i]!
def qD(a b:ax):ax:=
 ⟨nD a.ai.length (λi=>cV a.ai[i]! b.ai[i]!),cV a.aB b.aB,nD (max a.aC.length b.aC.length) (slJ a.aC b.aC),cV a.aI b.aI⟩
def mC{c:Int}(h:cC c):NN (fK c):=NN.one h.1 h.2
def ux{n m:Nat}{s:ax}(h:gE n m s){c:Int}(hc:cC c):gE n m (kK s c):=
 ⟨h.len,h.vars,h.count,h.sl,h.slots,let ⟨_,_,_,k⟩:=uB 8 h.time (mC hc);k⟩
def To{f:aN}{n m:Nat}{s:ax}(h:gE n m s){v:Int}{x:aH}(hx:NN x):gE n m (XV f s v x):=by
 refine⟨?_,λi hi=> ?_,h.count,h.sl,h.slots,h.time⟩
 ·show (s.ai.set _ _).length=n;rw[yo];exact h.len
 ·show NN (s.ai.set _ _)[i]!;have hl:=h.len;rw[getElem!_pos _ i (by rw[yo];omega),List.getElem_set];split
  ·exact let ⟨_,_,_,k,_⟩:=kU hx f.ai[v.toNat]!.ag f.ai[v.toNat]!.ah;k
  ·have:=h.vars i hi;rw[getElem!_pos _ i (by omega)]at this;exact this
def aiB{n m:Nat}{s:ax}(h:gE n m s){x:aH}(hx:NN x):gE n (m+1) (aci s x):=by
 have hs:=h.sl;have hl:(aci s x).aC.length=s.aC.length+1:=by simp[aci,ji]
 refine⟨h.len,h.vars,let ⟨_,_,_,k⟩:=uB 8 h.count (mC (c:=1) ⟨by decide,by decide⟩);k,by omega,λi hi=> ?_,h.time⟩;rw[hl]at hi;have hlt:=ji s.aC.length (λk=>if de s.aB k=O then cV s.aC[k]! x else s.aC[k]!);show NN (nD s.aC.length (λk=>if de s.aB k=O then cV s.aC[k]! x else s.aC[k]!)++[x])[i]!;by_cases c:i<s.aC.length
 ·have hg:=nU (g:=(λk=>if de s.aB k=O then cV s.aC[k]! x else s.aC[k]!)) c;generalize nD s.aC.length (λk=>if de s.aB k=O then cV s.aC[k]! x else s.aC[k]!)=T at*;rw[getElem!_pos _ i (by rw[zj];omega),List.getElem_append_left (by omega),<-getElem!_pos T i (by omega),hg];split
  ·exact jJ (h.slots i c) hx
  ·exact h.slots i c
 ·generalize nD s.aC.length (λk=>if de s.aB k=O then cV s.aC[k]! x else s.aC[k]!)=T at*;rw[getElem!_pos _ i (by rw[zj,yH];omega),List.getElem_append_right (by omega)];simpa using hx
def aq6{a b:aa aH}(ha:∀i,i<a.length->NN a[i]!)(hb:∀i,i<b.length->NN b[i]!){i:Nat}(hi:i<max a.length b.length):NN (slJ a b i):=by
 unfold slJ;split
 ·exact hb i (by omega)
 split
 ·exact ha i (by omega)
 ·exact jJ (ha i (by omega)) (hb i (by omega))
def DP{n m:Nat}{s t:ax}(h:gE n m s)(k:gE n m t):gE n m (qD s t):=by
 have h1:=h.len;have h2:=h.sl;have k2:=k.sl;refine⟨by show (nD _ _).length=n;rw[ji];exact h1,λi hi=> ?_,jJ h.count k.count,by show (nD _ _).length<=m;rw[ji];omega,λi hi=> ?_,jJ h.time k.time⟩
 ·show NN (nD _ _)[i]!;rw[nU (by omega)];exact jJ (h.vars i hi) (k.vars i hi)
 ·have hi:i<(nD (max s.aC.length t.aC.length) (slJ s.aC t.aC)).length:=hi;rw[ji]at hi;show NN (nD _ _)[i]!;rw[nU hi];exact aq6 h.slots k.slots hi
def EU(i:aH)(ks:aa aH):Nat->aH
 |0=>cG
 |n+1=>if de i n=O then cV (EU i ks n) ks[n]! else EU i ks n
def aai(vars:aa aH)(t:au)(k:aa aH):aH:=
 if t.bF=0 then fK t.fN else if t.bF=24 then vars[t.fN.toNat]! else if t.bF=6 then(Be 6 k[0]!).1 else if t.bF=7 then(Be 7 k[0]!).1
 else if t.bF=23 then(if de k[0]! 0=S then k[1]! else if cK k[0]! =S then k[2]! else cV k[1]! k[2]!)
 else if t.bF=25 then EU (jh k[0]! 0 ((k.length:Int)-2)) (k.drop 1) (k.drop 1).length else Gg t.bF k[0]! k[1]!
def dS(vars:aa aH)(t:au):aH:=aai vars t (t.aq.attach.map λk=>dS vars k.1)
termination_by zg t
decreasing_by exact au.fm k.2
def ajb(vars:aa aH)(t:au):dS vars t=aai vars t (t.aq.map (dS vars)):=by
 rw[dS];rw[show (t.aq.attach.map λk=>dS vars k.1)=t.aq.map (dS vars)from wv (f:=dS vars)]
def mapA{vars:aa aH}{t:au}{i:Nat}(h:i<t.aq.length):(t.aq.map (dS vars))[i]! =dS vars t.aq[i]! :=by
 rw[getElem!_pos _ i (by simpa using h),getElem!_pos _ i h,yY]
def JK{i:aH}{ks:aa aH}(hk:∀j,j<ks.length->NN ks[j]!):∀n,n<=ks.length->NV (EU i ks n)/\((∃j,j<n/\de i (j:Nat)=O)->NN (EU i ks n))
 |0,_=>⟨.inl rfl,λ⟨j,h,_⟩=>by omega⟩
 |n+1,hn=>by
  obtain⟨h1,h2⟩:=JK (i:=i) hk n (by omega);rw[EU];by_cases c:de i (n:Nat)=O
  ·rw[bE c];have hv:=eT h1 (.inr (hk n (by omega)));have:NN (cV (EU i ks n) ks[n]!):=by
    rcases h1 with e|h
    ·rw[e,jg];exact hk n (by omega)
    ·exact jJ h (hk n (by omega))
   exact⟨hv,λ_=>this⟩
  ·rw[bO c];refine⟨h1,λ⟨j,h,k⟩=>h2 ⟨j,?_,k⟩⟩;by_cases e:j=n
   ·subst e;exact dD k c
   ·omega
def VI{a:aH}(ha:NN a){n:Nat}(h0:1<=n)(hn:n<=1000000):∃j:Nat,j<n/\de (jh a 0 ((n:Int)-1)) (j:Nat)=O:=by
 obtain⟨_,_,_,hv,hr⟩:=kU ha 0 ((n:Int)-1);have hr:=hr ⟨by decide,by decide⟩ ⟨by omega,by omega⟩ (by omega);rcases hr with ⟨e,_⟩|hr
 ·exact dD e hv.ne
 ·obtain⟨x,_,h2⟩:=hr.lo;refine⟨(jh a 0 ((n:Int)-1)).ag.toNat,by omega,?_⟩;rw[show (((jh a 0 ((n:Int)-1)).ag.toNat:Nat):Int)=(jh a 0 ((n:Int)-1)).ag by omega];exact mB ⟨zm _,hv.le,by rw[Int.sub_self];exact xB _⟩
def rj(x:Int):Un x=fK x:=rfl
def abh{vars:aa aX}{t:au}(h:(gN vars t).isSome=O):∀k∈t.aq,(gN vars k).isSome=O:=λk hk=>by
 rw[uZ]at h;cases ha:kI (t.aq.map (gN vars))with
 |none=>rw[ha]at h;cases h
 |some r=>
  have hr:=rq ha;have hm:gN vars k∈r.map V:=by rw[<-hr];exact List.mem_map_of_mem hk
  obtain⟨s,h1,h2⟩:=zL.1 hm;rw[<-h2];rfl
def akk{vars:aa aX}{t:au}(h0:t.bF=0)(h:(gN vars t).isSome=O):cC t.fN:=by
 rw[uZ]at h;cases ha:kI (t.aq.map (gN vars))with
 |none=>rw[ha]at h;cases h
 |some r=>
  rw[ha]at h;dsimp only at h;split at h
  ·rename_i hl;unfold vg iP at hl;simp only[h0,cB,zi,decide_eq_true_eq]at hl;unfold cC;omega
  ·cases h
def aao(M:au->ax->af qj){vars:aa aH}{st:ax}{ks:aa au}(hl:ks.length<=1000000)(hK:∀j,j<ks.length->M ks[j]! st=V (dS vars ks[j]!,st)/\NN (dS vars ks[j]!)){H:aH}(hH:NN H)(z:aH):
  I5 M ⟨ks,(ks.length:Int),0,st,z,H,cG⟩=V ⟨ks,(ks.length:Int),(ks.length:Int),st,z,H,EU H (ks.map (dS vars)) ks.length⟩:=by
 have hmap:∀j,j<ks.length->(ks.map (dS vars))[j]! =dS vars ks[j]! :=λj h=>by rw[getElem!_pos _ j (by simpa using h),getElem!_pos _ j h,yY]
 have hkn:∀j,j<(ks.map (dS vars)).length->NN (ks.map (dS vars))[j]! :=λj h=>by
  have h:j<ks.length:=by simpa using h
  rw[hmap j h];exact(hK j h).2
 obtain⟨v,e1,hv⟩:=dc (rnd:=I7 M) ks.length (λi (_:Unit)=>⟨ks,(ks.length:Int),(i:Int),st,z,H,EU H (ks.map (dS vars)) i⟩) (λi _=>True) (λi b hi _=>by
  have hw:=fu hi hl;obtain⟨k1,k2⟩:=hK i hi;have i1:(i:Int)<(ks.length:Int):=by omega
  have i2:(0:Int)<=(i:Int):=by omega
  refine⟨(),?_,trivial⟩;unfold I7;by_cases hc:de H (i:Nat)=O
  ·simp only[ze,i1,i2,cI,bC,cT,cB,o6 (.inr hH),hc,au.eta,k1,oy (JK hkn i (by simp;omega)).1 (.inr k2),hw,EU,hmap i hi]
  ·have hc:de H (i:Nat)=S:=by simpa using hc
   simp only[ze,i1,i2,cI,bC,bB,cT,cB,o6 (.inr hH),hc,hw,EU,yA,gG]) (λb _=>by unfold I7;simp) (b:=()) trivial
 exact e1
def ape(M:au->ax->af qj){vars:aa aX}{inp:Bool}{m:Nat}{st:ax}(hst:gE vars.length m st)(t:au)(hf:dJ vars inp t=O)(hs:(gN vars t).isSome=O)
  (hM:∀k∈t.aq,M k st=V (dS st.ai k,st)/\NN (dS st.ai k)):akA M t st=V (dS st.ai t,st)/\NN (dS st.ai t):=by
 obtain⟨⟨g1,g2,g3⟩,h24⟩:=ajC hf;have K:∀i,i<t.aq.length->M t.aq[i]! st=V (dS st.ai t.aq[i]!,st)/\NN (dS st.ai t.aq[i]!):=λi hi=>hM _ (bh hi);rw[ajb];unfold akA aai;simp only[au.eta,zx];rcases ZF t.bF g1 with ⟨h,e⟩|⟨h,e⟩|⟨h,e⟩|⟨h,e⟩|⟨h,e⟩<;>rw[e]at g2 g3<;>dsimp only at g2 g3
 ·rcases h with h|h
  ·simp only[h,cI,bC,cB,rj];exact⟨trivial,mC (akk h hs)⟩
  ·obtain⟨q1,q2⟩:=h24 h;have hl:=hst.len;simp only[h,Int.reduceEq,ep,cI,bC,bB,cB,gG];rw[gY];exact⟨rfl,hst.vars _ (by omega)⟩
 ·obtain⟨k1,k2⟩:=K 0 (by omega);have m0:=mapA (vars:=st.ai) (show 0<t.aq.length by omega);have i1:(t.aq.length:Int)=1:=by omega
  rcases h with h|h
  ·simp only[h,Int.reduceEq,ep,cI,bC,bB,i1,cB,gG,k1,m0,cT,TO (.inr k2),Int.reduceLT,Int.reduceLE,true_and];exact Ho _ k2
  ·simp only[h,Int.reduceEq,ep,cI,bC,bB,i1,cB,gG,k1,m0,cT,TO (.inr k2),Int.reduceLT,Int.reduceLE,true_and];exact Ho _ k2
 ·obtain⟨k1,k2⟩:=K 0 (by omega);obtain⟨l1,l2⟩:=K 1 (by omega);have m0:=mapA (vars:=st.ai) (show 0<t.aq.length by omega);have m1:=mapA (vars:=st.ai) (show 1<t.aq.length by omega);have hlen:(t.aq.length:Int)=2:=by omega
  obtain⟨c,hb,_,hn⟩:=uB t.bF k2 l2;have n0:t.bF≠0:=by omega
  have n1:t.bF≠24:=by omega
  have n2:t.bF≠6:=by omega
  have n3:t.bF≠7:=by omega
  have n4:t.bF≠23:=by omega
  have n5:t.bF≠25:=by omega
  simp only[n0,n1,n2,n3,n4,n5,ep,bB,hlen,gG,k1,l1,hb,m0,m1,Int.reduceEq,Int.reduceLT,Int.reduceLE,cT,cB,true_and];exact hn
 ·obtain⟨k1,k2⟩:=K 0 (by omega);obtain⟨l1,l2⟩:=K 1 (by omega);obtain⟨p1,p2⟩:=K 2 (by omega);have m0:=mapA (vars:=st.ai) (show 0<t.aq.length by omega);have m1:=mapA (vars:=st.ai) (show 1<t.aq.length by omega);have m2:=mapA (vars:=st.ai) (show 2<t.aq.length by omega);have hlen:(t.aq.length:Int)=3:=by omega
  simp only[h,Int.reduceEq,ep,cI,bC,bB,hlen,cB,gG,k1,l1,p1,m0,m1,m2,Co (.inr k2),oy (.inr l2) (.inr p2),Int.reduceLT,Int.reduceLE,cT];cases de (dS st.ai t.aq[0]!) 0<;>cases cK (dS st.ai t.aq[0]!)
  ·exact⟨rfl,l2⟩
  ·exact⟨rfl,l2⟩
  ·exact⟨rfl,p2⟩
  ·exact⟨rfl,jJ l2 p2⟩
 ·obtain⟨k1,k2⟩:=K 0 (by omega);have m0:=mapA (vars:=st.ai) (show 0<t.aq.length by omega);have w:i64.wrap ((t.aq.length:Int)-(2:Int))=(t.aq.length:Int)-(2:Int):=aG;obtain⟨c,hcl,_,hcn,_⟩:=kU k2 0 ((t.aq.length:Int)-(2:Int));obtain⟨j,hj1,hj2⟩:=VI k2 (n:=t.aq.length-1) (by omega) (by omega);rw[show (((t.aq.length-1:Nat):Int)-1)=(t.aq.length:Int)-(2:Int)by omega]at hj2;simp only[h,Int.reduceEq,ep,cI,bC,bB,cB,gG,k1,m0,w];rw[gY,hcl];generalize jh (dS st.ai t.aq[0]!) 0 ((t.aq.length:Int)-(2:Int))=H at*;have hd:(t.aq.drop 1).length=t.aq.length-1:=ym ..;have e2:=aao M (vars:=st.ai) (st:=st) (ks:=t.aq.drop 1) (by omega) (λj hj=>hM _ (wg (bh hj))) (H:=H) hcn ⟨0,0,0⟩;dsimp only;rw[gY];rw[show agT=cG from rfl,e2];dsimp only;rw[gh,bB,<-xJ,zx];refine⟨rfl,(JK (λj hj=> ?_) _ (by simp)).2 ⟨j,by omega,hj2⟩⟩;have hj:j<(t.aq.drop 1).length:=by simpa using hj
  rw[getElem!_pos _ j (by simpa using hj),yY];exact(hM _ (wg (xM ..))).2
def QZ{vars:aa aX}{inp:Bool}{m:Nat}{st:ax}(hst:gE vars.length m st):∀(n:Nat) (t:au),zg t<n->dJ vars inp t=O->(gN vars t).isSome=O->R8 n t st=V (dS st.ai t,st)/\NN (dS st.ai t)
 |0,_,h,_,_=>by omega
 |n+1,t,h,hf,hs=>ape (R8 n) hst t hf hs (λk hk=>QZ hst n k (by have:=au.fm hk;omega) (C8 hf hk) (abh hs k hk))
def Cr{vars:aa aX}{inp:Bool}{t:au}(hc:eW vars inp t=0):dJ vars inp t=O/\(gN vars t).isSome=O:=by
 unfold eW at hc;cases hf:dJ vars inp t with
 |false=>rw[hf]at hc;simp at hc
 |true=>
  rw[hf]at hc;cases hs:(gN vars t).isSome with
  |false=>rw[hs]at hc;simp at hc
  |true=>exact⟨rfl,rfl⟩
def l6{vars:aa aX}{inp:Bool}{m:Nat}{st:ax}(hst:gE vars.length m st)(t:au)(hc:eW vars inp t=0):NN (dS st.ai t):=
 (QZ hst (zg t+1) t (by omega) (Cr hc).1 (Cr hc).2).2
abbrev E82:=aH
def d82:Td 0 E82:= .c [] [4] (.r 0 1 (ec 4 (qp 0 0) en) (sb 0 34 (lg 34) sn) (λz=>z.2.1) (λx=>(((),()),(x,()))))
def Qv(a0:ax)(a1:au):af E82:=
 match aeu (au.mk a1.bF a1.fN a1.aq) a0 with|G=>G|V r1=>V (r1.fst)
def e82:=eL w9 82 S (lc (qg 128) (lc (qg 137) ln)) d82 (λg=>Qv g.1 g.2.1)
def Ka:EO e82:=λh=>kL (an:= .no) func82 (ahh aR) aF h
abbrev E40:=aa aH
def d40:Td 0 E40:= .c [] [2] (.t (cA.s 2 [] 34) (.c [] [2] (.r 0 1 (ec 2 (qo 0) en) (sr 0 34 sn) (λz=>z.2.1) (λx=>(((),()),(x,()))))))
def A40:=(lc (ql 34) ln)
def Vy(a0:aa aH):af E40:=if a0.length<=1073741824 then V a0 else G
def aq4:cR w9 cZ 0 300 40 .no:=bA (l:=[]) func40 (aV (by kernel_rfl)) (by kernel_rfl) aF
def aCr(x:aH)(xs:aa aH):bL w9 cZ 300 .no 40 [.sl 34 (x::xs)] [] 0 d40.rd=if([]++(x::xs)).length<=1073741824 then V ([]++(x::xs))else G:=by kernel_rfl
def aEb(c:Nat):bL w9 cZ 300 .no 40 [.lit (.slice G 0 c)] [] 0 d40.rd=V []:=by kernel_rfl
def aCm(a:Addr)(c:Nat):bL w9 cZ 300 .no 40 [.lit (.slice (V a) 0 c)] [] 0 d40.rd=V []:=by kernel_rfl
def h40:HL w9 40 A40 d40 (λg=>Vy g.1):=λg r h=>by
 obtain⟨a0,_⟩:=g;have h:Vy a0=V r:=h;cases a0 with
 |cons x xs=>exact(jK (out:=λp=>gC w9 40 0 (d40.pat p)) (p:=r) aR aq4 d40.ok (λp=>by kernel_rfl) (iB (by kernel_rfl)) (ig (by kernel_rfl)) ((aCr x xs).trans (by rw[yw];exact h))).2
 |nil=>
  cases h;exact Js (λc=>(jK (out:=λp=>gC w9 40 0 (d40.pat p)) (p:=[]) aR aq4 d40.ok (λp=>by kernel_rfl) (iB (by kernel_rfl)) (ig (by kernel_rfl)) (aEb c)).2) (λa c=>(jK (out:=λp=>gC w9 40 0 (d40.pat p)) (p:=[]) aR aq4 d40.ok (λp=>by kernel_rfl) (iB (by kernel_rfl)) (ig (by kernel_rfl)) (aCm a c)).2)
def e40:=eL w9 40 S A40 d40 (λg=>Vy g.1)
def sP{F:aZ}(h:aQ w9 F):aQ w9 (e40 F):=cO (sc:=jr) cg h40 ⟨_,func40,by kernel_rfl,by kernel_rfl⟩ (λ_=>by kernel_rfl) (λ_=>by kernel_rfl) h
abbrev azS:=ax
def d235:Td 0 azS:= .c [] [2] (.r 0 3 (ec 2 (qp 0 0) en) (sb 0 128 (lc (qo 1) (bk (bk (bk (lc (qo 2) (bk (bk (bk ln)))))))) (sr 1 34 (sr 2 34 sn))) (λz=>(ax.mk z.t.1 (aH.mk z.2.1.2.1 z.2.1.t.1 z.2.1.t.2.1) z.t.2.1 (aH.mk z.2.1.q.2.1 z.2.1.q.t.1 z.2.1.q.t.2.1))) (λx=>(((),()),(((),x.aB.ag,x.aB.ah,x.aB.aj,(),x.aI.ag,x.aI.ah,x.aI.aj,()),x.ai,x.aC,()))))
def Gq(a0:ax):af azS:=
 match Vy a0.ai with|G=>G|V r1=>match Vy a0.aC with|G=>G|V r2=>V (ax.mk r1 a0.aB r2 a0.aI)
def atn:=eL w9 235 S (lc (qg 128) ln) d235 (λg=>Gq g.1)
def ve:EO atn:=λh=>kL (an:= .no) func235 (sP aR) aF h
structure vM where
 t46:List aH
 (t47 t48:Int)
 (b0 b1:ax)
def RL:Td 0 vM:= .c [] [4,5,46,47,48] (.r 0 4 (ec 4 (qp 0 0) (ec 5 (qp 1 0) (ec 46 (ql 34) (ec 47 aL (ec 48 aL en))))) (sb 0 128 (lc qn (bk (bk (bk (lc qn (bk (bk (bk ln)))))))) (sb 1 128 (lc (qo 2) (bk (bk (bk (lc (qo 3) (bk (bk (bk ln)))))))) (sr 2 34 (sr 3 34 sn)))) (λz=>⟨z.1.t.1,z.1.t.2.1,z.1.q.1,(ax.mk [] (aH.mk z.2.1.2.1 z.2.1.t.1 z.2.1.t.2.1) [] (aH.mk z.2.1.q.2.1 z.2.1.q.t.1 z.2.1.q.t.2.1)),(ax.mk z.t.2.1 (aH.mk z.t.1.2.1 z.t.1.t.1 z.t.1.t.2.1) z.q.1 (aH.mk z.t.1.q.2.1 z.t.1.q.t.1 z.t.1.q.t.2.1))⟩) (λx=>(((),(),x.t46,x.t47,x.t48,()),(((),x.b0.aB.ag,x.b0.aB.ah,x.b0.aB.aj,(),x.b0.aI.ag,x.b0.aI.ah,x.b0.aI.aj,()),((),x.b1.aB.ag,x.b1.aB.ah,x.b1.aB.aj,(),x.b1.aI.ag,x.b1.aI.ah,x.b1.aI.aj,()),x.b1.ai,x.b1.aC,()))))
def KK(p:vM):af (af vM):=
 bif J (p.t48<p.t47)then if 0<=p.t48/\p.t48<p.t46.length then bif J (p.t48<p.b1.aC.length)then if 0<=p.t48/\p.t48<p.b1.aC.length then if 34=34/\p.t48.toNat<p.b1.aC.length then match vC p.b1.aC[p.t48.toNat]! p.t46[p.t48.toNat]! with|G=>G|V r2=>if 0<=p.t48/\p.t48<p.b1.aC.length then if 34=34/\p.t48.toNat<p.b1.aC.length then V (V (vM.mk p.t46 p.t47 (i64.wrap (p.t48+1)) (ax.mk [] p.b0.aB [] p.b0.aI) (ax.mk p.b1.ai p.b1.aB (p.b1.aC.set p.t48.toNat r2) p.b1.aI)))else G else G else G else G else if(p.b1.aC++[p.t46[p.t48.toNat]!]).length<=1073741824 then V (V (vM.mk p.t46 p.t47 (i64.wrap (p.t48+1)) (ax.mk [] p.b0.aB [] p.b0.aI) (ax.mk p.b1.ai p.b1.aB (p.b1.aC++[p.t46[p.t48.toNat]!]) p.b1.aI)))else G else G else V (G)
def J5:=bJ (KK)
structure Dz where
 (t13 t14:Int)
 (b0 b1 b2:ax)
def OL:Td 0 Dz:= .c [] [3,4,5,13,14] (.r 0 5 (ec 3 (qp 0 0) (ec 4 (qp 1 0) (ec 5 (qp 2 0) (ec 13 aL (ec 14 aL en))))) (sb 0 128 (lg 128) (sb 1 128 (lc qn (bk (bk (bk (lc qn (bk (bk (bk ln)))))))) (sb 2 128 (lc (qo 3) (bk (bk (bk (lc (qo 4) (bk (bk (bk ln)))))))) (sr 3 34 (sr 4 34 sn))))) (λz=>⟨z.1.t.2.1,z.1.q.1,z.2.1,(ax.mk [] (aH.mk z.t.1.2.1 z.t.1.t.1 z.t.1.t.2.1) [] (aH.mk z.t.1.q.2.1 z.t.1.q.t.1 z.t.1.q.t.2.1)),(ax.mk z.q.1 (aH.mk z.t.2.1.2.1 z.t.2.1.t.1 z.t.2.1.t.2.1) z.q.2.1 (aH.mk z.t.2.1.q.2.1 z.t.2.1.q.t.1 z.t.2.1.q.t.2.1))⟩) (λx=>(((),(),(),x.t13,x.t14,()),(x.b0,((),x.b1.aB.ag,x.b1.aB.ah,x.b1.aB.aj,(),x.b1.aI.ag,x.b1.aI.ah,x.b1.aI.aj,()),((),x.b2.aB.ag,x.b2.aB.ah,x.b2.aB.aj,(),x.b2.aI.ag,x.b2.aI.ah,x.b2.aI.aj,()),x.b2.ai,x.b2.aC,()))))
def IK(p:Dz):af (af Dz):=
 bif J (p.t14<p.t13)then if 0<=p.t14/\p.t14<p.b2.ai.length then if 34=34/\p.t14.toNat<p.b2.ai.length then if 0<=p.t14/\p.t14<p.b0.ai.length then match vC p.b2.ai[p.t14.toNat]! p.b0.ai[p.t14.toNat]! with|G=>G|V r1=>if 0<=p.t14/\p.t14<p.b2.ai.length then if 34=34/\p.t14.toNat<p.b2.ai.length then V (V (Dz.mk p.t13 (i64.wrap (p.t14+1)) p.b0 (ax.mk [] p.b1.aB [] p.b1.aI) (ax.mk (p.b2.ai.set p.t14.toNat r1) p.b2.aB p.b2.aC p.b2.aI)))else G else G else G else G else G else V (G)
def Jt:=bJ (IK)
abbrev avn:=ax
def d236:Td 0 avn:= .c [] [4] (.r 0 3 (ec 4 (qp 0 0) en) (sb 0 128 (lc (qo 1) (bk (bk (bk (lc (qo 2) (bk (bk (bk ln)))))))) (sr 1 34 (sr 2 34 sn))) (λz=>(ax.mk z.t.1 (aH.mk z.2.1.2.1 z.2.1.t.1 z.2.1.t.2.1) z.t.2.1 (aH.mk z.2.1.q.2.1 z.2.1.q.t.1 z.2.1.q.t.2.1))) (λx=>(((),()),(((),x.aB.ag,x.aB.ah,x.aB.aj,(),x.aI.ag,x.aI.ah,x.aI.aj,()),x.ai,x.aC,()))))
def HZ(a0:ax)(a1:ax):af avn:=
 match Gq a0 with|G=>G|V r3=>match Jt (Dz.mk r3.ai.length 0 a1 (ax.mk [] (aH.mk 0 0 0) [] (aH.mk 0 0 0)) r3)with|G=>G|V r4=>bif J (r4.t14<r4.t13)then if 0<=r4.t14/\r4.t14<r4.b2.ai.length then if 34=34/\r4.t14.toNat<r4.b2.ai.length then if 0<=r4.t14/\r4.t14<r4.b0.ai.length then match vC r4.b2.ai[r4.t14.toNat]! r4.b0.ai[r4.t14.toNat]! with|G=>G|V r5=>if 0<=r4.t14/\r4.t14<r4.b2.ai.length then if 34=34/\r4.t14.toNat<r4.b2.ai.length then G else G else G else G else G else G else match vC r4.b2.aB r4.b0.aB with|G=>G|V r6=>match vC r4.b2.aI r4.b0.aI with|G=>G|V r7=>match J5 (vM.mk r4.b0.aC r4.b0.aC.length 0 (ax.mk [] r4.b1.aB [] r4.b1.aI) (ax.mk r4.b2.ai r6 r4.b2.aC r7))with|G=>G|V r8=>bif J (r8.t48<r8.t47)then if 0<=r8.t48/\r8.t48<r8.t46.length then bif J (r8.t48<r8.b1.aC.length)then if 0<=r8.t48/\r8.t48<r8.b1.aC.length then if 34=34/\r8.t48.toNat<r8.b1.aC.length then match vC r8.b1.aC[r8.t48.toNat]! r8.t46[r8.t48.toNat]! with|G=>G|V r9=>if 0<=r8.t48/\r8.t48<r8.b1.aC.length then if 34=34/\r8.t48.toNat<r8.b1.aC.length then G else G else G else G else G else if(r8.b1.aC++[r8.t46[r8.t48.toNat]!]).length<=1073741824 then G else G else G else V (r8.b1)
def ari:=eL w9 236 S (lc (qg 128) (lc (qg 128) ln)) d236 (λg=>HZ g.1 g.2.1)
def Tl:EO ari:=λh=>kL (an:=(noTwo (noTwo (.two (noTwo (OL.lp Jt .no)) (noTwo (noTwo (.two (noTwo (RL.lp J5 .no)) .no))))))) (l:=[(aW f236 0,(OL.lp Jt .no)),(aW f236 1,(RL.lp J5 .no))]) func236 (ve (Io aR)) (az (aO OL) (az (aO RL) aF)) h
def an4:aZ:=(anP (e80 cZ))
def akf:aQ w9 an4:=(JM (K5 aR))
abbrev awt:=ax
def d157:Td 0 awt:= .c [] [4] (.r 0 1 (ec 4 (qp 0 0) en) (sb 0 128 (lg 128) sn) (λz=>z.2.1) (λx=>(((),()),(x,()))))
def auM:=(lc (qg 128) (bk ln))
def amr:An:= .no
def avt:cR w9 (an4) 0 300 157 (amr):=bA (l:=[]) func157 (aV (by kernel_rfl)) (by kernel_rfl) aF
def M7(a0:ax)(a1:Int):af awt:=
 match vz (8) a0.aI (Un a1)with|G=>G|V r1=>V (ax.mk a0.ai a0.aB a0.aC r1.fst)
def aD7(a0:ax)(a1:Int):bL w9 (an4) 300 (amr) 157 (auM.c (a0,a1,())) [] 0 d157.rd=M7 a0 a1:=by kernel_rfl
def an5:aZ->aZ:=eZ w9 157 auM d157 (λg=>M7 g.1 g.2.1)
def TI{F:aZ}(h:aQ w9 F):aQ w9 (an5 F):=oK (cF akf avt (λ_=>by kernel_rfl) (λ_=>by kernel_rfl) λg=>aD7 g.1 g.2.1) ⟨_,func157,by kernel_rfl,by kernel_rfl⟩ (λ_=>by kernel_rfl) h
abbrev awO:=ax
def d158:Td 0 awO:= .c [] [8] (.r 0 3 (ec 8 (qp 0 0) en) (sb 0 128 (lc (qo 1) (bk (bk (bk (lc (qo 2) (bk (bk (bk ln)))))))) (sr 1 34 (sr 2 34 sn))) (λz=>(ax.mk z.t.1 (aH.mk z.2.1.2.1 z.2.1.t.1 z.2.1.t.2.1) z.t.2.1 (aH.mk z.2.1.q.2.1 z.2.1.q.t.1 z.2.1.q.t.2.1))) (λx=>(((),()),(((),x.aB.ag,x.aB.ah,x.aB.aj,(),x.aI.ag,x.aI.ah,x.aI.aj,()),x.ai,x.aC,()))))
def R9(a0:Runner)(a1:ax)(a2:Int)(a3:aH):af awO:=
 match Gq a1 with|G=>G|V r1=>if 0<=a2/\a2<a0.fF.ai.length then match m81 a3 a0.fF.ai[a2.toNat]!.ag a0.fF.ai[a2.toNat]!.ah with|G=>G|V r2=>if 0<=a2/\a2<r1.ai.length then if 34=34/\a2.toNat<r1.ai.length then V (ax.mk (r1.ai.set a2.toNat r2.fst) r1.aB r1.aC r1.aI)else G else G else G
def aAu:=eL w9 158 S (lc (qg 133) (lc (qg 128) (bk (lc (qg 34) ln)))) d158 (λg=>R9 g.1 g.2.1 g.t.1 g.t.2.1)
def ah8:EO aAu:=λh=>kL (an:= .no) func158 (ve (OU aR)) aF h
structure vO where
 (t10 t11:Int)
 b0:ax
 b1:aH
 b2:ax
def QC:Td 0 vO:= .c [] [2,3,4,10,11] (.r 0 5 (ec 2 (qp 0 0) (ec 3 (qp 1 0) (ec 4 (qp 2 0) (ec 10 aL (ec 11 aL en))))) (sb 0 128 (lc (qo 3) (bk (bk (bk (lc (qo 4) (bk (bk (bk ln)))))))) (sb 1 34 (lg 34) (sb 2 128 (lc qn (bk (bk (bk (lc qn (bk (bk (bk ln)))))))) (sr 3 34 (sr 4 34 sn))))) (λz=>⟨z.1.t.2.1,z.1.q.1,(ax.mk z.q.1 (aH.mk z.2.1.2.1 z.2.1.t.1 z.2.1.t.2.1) z.q.2.1 (aH.mk z.2.1.q.2.1 z.2.1.q.t.1 z.2.1.q.t.2.1)),z.t.1,(ax.mk [] (aH.mk z.t.2.1.2.1 z.t.2.1.t.1 z.t.2.1.t.2.1) [] (aH.mk z.t.2.1.q.2.1 z.t.2.1.q.t.1 z.t.2.1.q.t.2.1))⟩) (λx=>(((),(),(),x.t10,x.t11,()),(((),x.b0.aB.ag,x.b0.aB.ah,x.b0.aB.aj,(),x.b0.aI.ag,x.b0.aI.ah,x.b0.aI.aj,()),x.b1,((),x.b2.aB.ag,x.b2.aB.ah,x.b2.aB.aj,(),x.b2.aI.ag,x.b2.aI.ah,x.b2.aI.aj,()),x.b0.ai,x.b0.aC,()))))
def Iz(p:vO):af (af vO):=
 bif J (p.t11<p.t10)then match m92 p.b0.aB p.t11 with|G=>G|V r1=>bif r1 then if 0<=p.t11/\p.t11<p.b0.aC.length then if 34=34/\p.t11.toNat<p.b0.aC.length then match vC p.b0.aC[p.t11.toNat]! p.b1 with|G=>G|V r2=>if 0<=p.t11/\p.t11<p.b0.aC.length then if 34=34/\p.t11.toNat<p.b0.aC.length then V (V (vO.mk p.t10 (i64.wrap (p.t11+1)) (ax.mk p.b0.ai p.b0.aB (p.b0.aC.set p.t11.toNat r2) p.b0.aI) p.b1 (ax.mk [] p.b2.aB [] p.b2.aI)))else G else G else G else G else V (V (vO.mk p.t10 (i64.wrap (p.t11+1)) p.b0 p.b1 (ax.mk [] p.b2.aB [] p.b2.aI)))else V (G)
def JI:=bJ (Iz)
abbrev aAC:=ax
def d159:Td 0 aAC:= .c [] [4] (.r 0 3 (ec 4 (qp 0 0) en) (sb 0 128 (lc (qo 1) (bk (bk (bk (lc (qo 2) (bk (bk (bk ln)))))))) (sr 1 34 (sr 2 34 sn))) (λz=>(ax.mk z.t.1 (aH.mk z.2.1.2.1 z.2.1.t.1 z.2.1.t.2.1) z.t.2.1 (aH.mk z.2.1.q.2.1 z.2.1.q.t.1 z.2.1.q.t.2.1))) (λx=>(((),()),(((),x.aB.ag,x.aB.ah,x.aB.aj,(),x.aI.ag,x.aI.ah,x.aI.aj,()),x.ai,x.aC,()))))
def YA(a0:ax)(a1:aH):af aAC:=
 match Gq a0 with|G=>G|V r3=>match JI (vO.mk r3.aC.length 0 r3 a1 (ax.mk [] (aH.mk 0 0 0) [] (aH.mk 0 0 0)))with|G=>G|V r4=>bif J (r4.t11<r4.t10)then match m92 r4.b0.aB r4.t11 with|G=>G|V r5=>bif r5 then if 0<=r4.t11/\r4.t11<r4.b0.aC.length then if 34=34/\r4.t11.toNat<r4.b0.aC.length then match vC r4.b0.aC[r4.t11.toNat]! r4.b1 with|G=>G|V r6=>if 0<=r4.t11/\r4.t11<r4.b0.aC.length then if 34=34/\r4.t11.toNat<r4.b0.aC.length then G else G else G else G else G else G else if(r4.b0.aC++[r4.b1]).length<=1073741824 then match vz 8 r4.b0.aB (Un 1)with|G=>G|V r7=>V (ax.mk r4.b0.ai r7.fst (r4.b0.aC++[r4.b1]) r4.b0.aI)else G
def axo:=eL w9 159 S (lc (qg 128) (lc (qg 34) ln)) d159 (λg=>YA g.1 g.2.1)
def adu:EO axo:=λh=>kL (an:=(noTwo (noTwo (.two (noTwo (QC.lp JI .no)) .no)))) (l:=[(aW f159 0,(QC.lp JI .no))]) func159 (ve (JM (Io (Qo (K5 aR))))) (az (aO QC) aF) h
abbrev qW:=ax
def d83:Td 0 qW:= .c [] [6] (.r 0 1 (ec 6 (qp 0 0) en) (sb 0 128 (lg 128) sn) (λz=>z.2.1) (λx=>(((),()),(x,()))))
def A83:=(lc (qg 133) (lc (ql 166) (lc (qg 128) ln)))
def x83(M:Runner->(aa ay)->ax->af qW):aZ->aZ:=eZ w9 83 A83 d83 (λg=>M g.1 g.2.1 g.2.2.1)
def H83(M:Runner->(aa ay)->ax->af qW):Prop:=HL w9 83 A83 d83 (λg=>M g.1 g.2.1 g.2.2.1)
def O7{M:Runner->(aa ay)->ax->af qW}(hM:H83 M){F:aZ}(h:aQ w9 F):aQ w9 (x83 M F):=oK hM ⟨_,func83,by kernel_rfl,by kernel_rfl⟩ (λ_=>by kernel_rfl) h
abbrev iA:=ax
def d156:Td 0 iA:= .c [] [6] (.r 0 1 (ec 6 (qp 0 0) en) (sb 0 128 (lg 128) sn) (λz=>z.2.1) (λx=>(((),()),(x,()))))
def aqS:=(lc (qg 133) (lc (qg 166) (lc (qg 128) ln)))
def axT(M:Runner->ay->ax->af iA):aZ->aZ:=eZ w9 156 aqS d156 (λg=>M g.1 g.2.1 g.2.2.1)
def Zs(M:Runner->ay->ax->af iA):Prop:=HL w9 156 aqS d156 (λg=>M g.1 g.2.1 g.2.2.1)
def ajL{M:Runner->ay->ax->af iA}(hM:Zs M){F:aZ}(h:aQ w9 F):aQ w9 (axT M F):=oK hM ⟨_,func156,by kernel_rfl,by kernel_rfl⟩ (λ_=>by kernel_rfl) h
abbrev iy:=ax
def d160:Td 0 iy:= .c [] [6] (.t (cA.fc 0 0 []) (.t (cA.fc 0 4 []) (.c [] [6] (.r 0 1 (ec 6 (qp 0 0) en) (sb 0 128 (lg 128) sn) (λz=>z.2.1) (λx=>(((),()),(x,())))))))
def aqL:=(lc (qg 133) (lc (qg 166) (lc (qg 128) ln)))
def x160(M:Runner->ay->ax->af iy):aZ->aZ:=eZ w9 160 aqL d160 (λg=>M g.1 g.2.1 g.2.2.1)
def XD(M:Runner->ay->ax->af iy):Prop:=HL w9 160 aqL d160 (λg=>M g.1 g.2.1 g.2.2.1)
def aeO{M:Runner->ay->ax->af iy}(hM:XD M){F:aZ}(h:aQ w9 F):aQ w9 (x160 M F):=oK hM ⟨_,func160,by kernel_rfl,by kernel_rfl⟩ (λ_=>by kernel_rfl) h
def F83(M83:Runner->(aa ay)->ax->af qW)(M156:Runner->ay->ax->af iA)(M160:Runner->ay->ax->af iy):aZ:=(azU (x160 M160 (axo (aAu (an5 (axT M156 (e82 cZ)))))))
def apS{M83 M156 M160}(h83:H83 M83)(h156:Zs M156)(h160:XD M160):aQ w9 (F83 M83 M156 M160):=(acW (aeO h160 (adu (ah8 (TI (ajL h156 (Ka aR)))))))
structure pV where
 t9:List ay
 (t10 t11:Int)
 b0:Runner
 (b1 b2:ax)
def YS:Td 0 pV:= .c [] [3,5,6,9,10,11] (.t (cA.fc 1 0 []) (.t (cA.fc 1 4 []) (.c [] [3,5,6,9,10,11] (.r 0 3 (ec 3 (qp 0 0) (ec 5 (qp 1 0) (ec 6 (qp 2 0) (ec 9 (ql 166) (ec 10 aL (ec 11 aL en)))))) (sb 0 133 (lg 133) (sb 1 128 (lg 128) (sb 2 128 (lc qn (bk (bk (bk (lc qn (bk (bk (bk ln)))))))) sn))) (λz=>⟨z.1.t.2.1,z.1.q.1,z.1.q.2.1,z.2.1,z.t.1,(ax.mk [] (aH.mk z.t.2.1.2.1 z.t.2.1.t.1 z.t.2.1.t.2.1) [] (aH.mk z.t.2.1.q.2.1 z.t.2.1.q.t.1 z.t.2.1.q.t.2.1))⟩) (λx=>(((),(),(),x.t9,x.t10,x.t11,()),(x.b0,x.b1,((),x.b2.aB.ag,x.b2.aB.ah,x.b2.aB.aj,(),x.b2.aI.ag,x.b2.aI.ah,x.b2.aI.aj,()),())))))))
def TU(M83:Runner->(aa ay)->ax->af qW)(M156:Runner->ay->ax->af iA)(M160:Runner->ay->ax->af iy)(p:pV):af (af pV):=
 bif J (p.t11<p.t10)then if 0<=p.t11/\p.t11<p.t9.length then bif J (p.t9[p.t11.toNat]!.cn=4)then match M156 p.b0 (ay.mk p.t9[p.t11.toNat]!.cn p.t9[p.t11.toNat]!.bq p.t9[p.t11.toNat]!.dG p.t9[p.t11.toNat]!.fN (au.mk p.t9[p.t11.toNat]!.aA.bF p.t9[p.t11.toNat]!.aA.fN p.t9[p.t11.toNat]!.aA.aq) p.t9[p.t11.toNat]!.aM p.t9[p.t11.toNat]!.aS p.t9[p.t11.toNat]!.aJ) p.b1 with|G=>G|V r1=>V (V (pV.mk p.t9 p.t10 (i64.wrap (p.t11+1)) p.b0 r1 (ax.mk [] p.b2.aB [] p.b2.aI)))else match M7 p.b1 p.t9[p.t11.toNat]!.bq with|G=>G|V r2=>bif J (p.t9[p.t11.toNat]!.cn=0)then match Qv r2 (au.mk p.t9[p.t11.toNat]!.aA.bF p.t9[p.t11.toNat]!.aA.fN p.t9[p.t11.toNat]!.aA.aq)with|G=>G|V r3=>match R9 p.b0 r2 p.t9[p.t11.toNat]!.dG r3 with|G=>G|V r4=>V (V (pV.mk p.t9 p.t10 (i64.wrap (p.t11+1)) p.b0 r4 (ax.mk [] p.b2.aB [] p.b2.aI)))else bif J (p.t9[p.t11.toNat]!.cn=5)then if 0<=p.t9[p.t11.toNat]!.fN/\p.t9[p.t11.toNat]!.fN<p.b0.ak.length then match R9 p.b0 r2 p.t9[p.t11.toNat]!.dG p.b0.ak[p.t9[p.t11.toNat]!.fN.toNat]! with|G=>G|V r5=>V (V (pV.mk p.t9 p.t10 (i64.wrap (p.t11+1)) p.b0 r5 (ax.mk [] p.b2.aB [] p.b2.aI)))else G else bif J (p.t9[p.t11.toNat]!.cn=1)then match Qv r2 (au.mk p.t9[p.t11.toNat]!.aA.bF p.t9[p.t11.toNat]!.aA.fN p.t9[p.t11.toNat]!.aA.aq)with|G=>G|V r6=>match YA r2 r6 with|G=>G|V r7=>V (V (pV.mk p.t9 p.t10 (i64.wrap (p.t11+1)) p.b0 r7 (ax.mk [] p.b2.aB [] p.b2.aI)))else bif J (p.t9[p.t11.toNat]!.cn=3)then match M160 p.b0 (ay.mk p.t9[p.t11.toNat]!.cn p.t9[p.t11.toNat]!.bq p.t9[p.t11.toNat]!.dG p.t9[p.t11.toNat]!.fN (au.mk p.t9[p.t11.toNat]!.aA.bF p.t9[p.t11.toNat]!.aA.fN p.t9[p.t11.toNat]!.aA.aq) p.t9[p.t11.toNat]!.aM p.t9[p.t11.toNat]!.aS p.t9[p.t11.toNat]!.aJ) r2 with|G=>G|V r8=>V (V (pV.mk p.t9 p.t10 (i64.wrap (p.t11+1)) p.b0 r8 (ax.mk [] p.b2.aB [] p.b2.aI)))else bif J (p.t9[p.t11.toNat]!.cn=6)then match Mk r2.aI p.t9[p.t11.toNat]!.aJ with|G=>G|V r9=>V (V (pV.mk p.t9 p.t10 (i64.wrap (p.t11+1)) p.b0 (ax.mk r2.ai r2.aB r2.aC r9.fst) (ax.mk [] p.b2.aB [] p.b2.aI)))else V (V (pV.mk p.t9 p.t10 (i64.wrap (p.t11+1)) p.b0 r2 (ax.mk [] p.b2.aB [] p.b2.aI)))else G else V (G)
def UD(M83:Runner->(aa ay)->ax->af qW)(M156:Runner->ay->ax->af iA)(M160:Runner->ay->ax->af iy):=bJ (TU M83 M156 M160)
def az5(M83:Runner->(aa ay)->ax->af qW)(M156:Runner->ay->ax->af iA)(M160:Runner->ay->ax->af iy):An:=(noTwo (.two (noTwo (YS.lp (UD M83 M156 M160) .no)) .no))
def aDQ(M83:Runner->(aa ay)->ax->af qW)(M156:Runner->ay->ax->af iA)(M160:Runner->ay->ax->af iy):cR w9 (F83 M83 M156 M160) 0 300 83 (az5 M83 M156 M160):=bA (l:=[(aW f83 0,(YS.lp (UD M83 M156 M160) .no))]) func83 (aV (by kernel_rfl)) (by kernel_rfl) (az (aO YS) aF)
def s83(M83:Runner->(aa ay)->ax->af qW)(M156:Runner->ay->ax->af iA)(M160:Runner->ay->ax->af iy)(a0:Runner)(a1:aa ay)(a2:ax):af qW:=
 match UD M83 M156 M160 (pV.mk a1 a1.length 0 a0 a2 (ax.mk [] (aH.mk 0 0 0) [] (aH.mk 0 0 0)))with|G=>G|V r10=>bif J (r10.t11<r10.t10)then if 0<=r10.t11/\r10.t11<r10.t9.length then bif J (r10.t9[r10.t11.toNat]!.cn=4)then match M156 r10.b0 (ay.mk r10.t9[r10.t11.toNat]!.cn r10.t9[r10.t11.toNat]!.bq r10.t9[r10.t11.toNat]!.dG r10.t9[r10.t11.toNat]!.fN (au.mk r10.t9[r10.t11.toNat]!.aA.bF r10.t9[r10.t11.toNat]!.aA.fN r10.t9[r10.t11.toNat]!.aA.aq) r10.t9[r10.t11.toNat]!.aM r10.t9[r10.t11.toNat]!.aS r10.t9[r10.t11.toNat]!.aJ) r10.b1 with|G=>G|V r11=>G else match M7 r10.b1 r10.t9[r10.t11.toNat]!.bq with|G=>G|V r12=>bif J (r10.t9[r10.t11.toNat]!.cn=0)then match Qv r12 (au.mk r10.t9[r10.t11.toNat]!.aA.bF r10.t9[r10.t11.toNat]!.aA.fN r10.t9[r10.t11.toNat]!.aA.aq)with|G=>G|V r13=>match R9 r10.b0 r12 r10.t9[r10.t11.toNat]!.dG r13 with|G=>G|V r14=>G else bif J (r10.t9[r10.t11.toNat]!.cn=5)then if 0<=r10.t9[r10.t11.toNat]!.fN/\r10.t9[r10.t11.toNat]!.fN<r10.b0.ak.length then match R9 r10.b0 r12 r10.t9[r10.t11.toNat]!.dG r10.b0.ak[r10.t9[r10.t11.toNat]!.fN.toNat]! with|G=>G|V r15=>G else G else bif J (r10.t9[r10.t11.toNat]!.cn=1)then match Qv r12 (au.mk r10.t9[r10.t11.toNat]!.aA.bF r10.t9[r10.t11.toNat]!.aA.fN r10.t9[r10.t11.toNat]!.aA.aq)with|G=>G|V r16=>match YA r12 r16 with|G=>G|V r17=>G else bif J (r10.t9[r10.t11.toNat]!.cn=3)then match M160 r10.b0 (ay.mk r10.t9[r10.t11.toNat]!.cn r10.t9[r10.t11.toNat]!.bq r10.t9[r10.t11.toNat]!.dG r10.t9[r10.t11.toNat]!.fN (au.mk r10.t9[r10.t11.toNat]!.aA.bF r10.t9[r10.t11.toNat]!.aA.fN r10.t9[r10.t11.toNat]!.aA.aq) r10.t9[r10.t11.toNat]!.aM r10.t9[r10.t11.toNat]!.aS r10.t9[r10.t11.toNat]!.aJ) r12 with|G=>G|V r18=>G else bif J (r10.t9[r10.t11.toNat]!.cn=6)then match Mk r12.aI r10.t9[r10.t11.toNat]!.aJ with|G=>G|V r19=>G else G else G else V (r10.b1)
def c83(M83:Runner->(aa ay)->ax->af qW)(M156:Runner->ay->ax->af iA)(M160:Runner->ay->ax->af iy)(a0:Runner)(a1:aa ay)(a2:ax):bL w9 (F83 M83 M156 M160) 300 (az5 M83 M156 M160) 83 (A83.c (a0,a1,a2,())) [] 0 d83.rd=s83 M83 M156 M160 a0 a1 a2:=by kernel_rfl
def aoC(M83:Runner->(aa ay)->ax->af qW)(M156:Runner->ay->ax->af iA)(M160:Runner->ay->ax->af iy):aZ:=(ari (atn (an5 (ain (x83 M83 (e82 cZ))))))
def aka{M83 M156 M160}(h83:H83 M83)(h156:Zs M156)(h160:XD M160):aQ w9 (aoC M83 M156 M160):=(Tl (ve (TI (KW (O7 h83 (Ka aR))))))
structure mj where
 t53:List ax
 (t54 t55:Int)
 (b0 b1:ax)
def RP:Td 0 mj:= .c [] [6,11,53,54,55] (.t (cA.fc 1 0 []) (.t (cA.fc 1 4 []) (.c [] [6,11,53,54,55] (.r 0 2 (ec 6 (qp 0 0) (ec 11 (qp 1 0) (ec 53 (ql 128) (ec 54 aL (ec 55 aL en))))) (sb 0 128 (lc qn (bk (bk (bk (lc qn (bk (bk (bk ln)))))))) (sb 1 128 (lg 128) sn)) (λz=>⟨z.1.t.1,z.1.t.2.1,z.1.q.1,(ax.mk [] (aH.mk z.2.1.2.1 z.2.1.t.1 z.2.1.t.2.1) [] (aH.mk z.2.1.q.2.1 z.2.1.q.t.1 z.2.1.q.t.2.1)),z.t.1⟩) (λx=>(((),(),x.t53,x.t54,x.t55,()),(((),x.b0.aB.ag,x.b0.aB.ah,x.b0.aB.aj,(),x.b0.aI.ag,x.b0.aI.ah,x.b0.aI.aj,()),x.b1,())))))))
def Kg(M83:Runner->(aa ay)->ax->af qW)(M156:Runner->ay->ax->af iA)(M160:Runner->ay->ax->af iy)(p:mj):af (af mj):=
 bif J (p.t55<p.t54)then if 0<=p.t55/\p.t55<p.t53.length then match HZ p.b1 p.t53[p.t55.toNat]! with|G=>G|V r7=>V (V (mj.mk p.t53 p.t54 (i64.wrap (p.t55+1)) (ax.mk [] p.b0.aB [] p.b0.aI) r7))else G else V (G)
def qM(M83:Runner->(aa ay)->ax->af qW)(M156:Runner->ay->ax->af iA)(M160:Runner->ay->ax->af iy):=bJ (Kg M83 M156 M160)
structure Ag where
 t7:List ax
 t8:Bool
 (t15 t16:Int)
 b0:Runner
 b1:ay
 (b2 b3:ax)
def Pc:Td 0 Ag:= .c [] [3,4,5,6,7,8,15,16] (.t (cA.s 7 [] 128) (.c [] [3,4,5,6,7,8,15,16] (.r 0 5 (ec 3 (qp 0 0) (ec 4 (qp 1 0) (ec 5 (qp 2 0) (ec 6 (qp 3 0) (ec 7 (qo 4) (ec 8 qb (ec 15 aL (ec 16 aL en)))))))) (sb 0 133 (lg 133) (sb 1 166 (lg 166) (sb 2 128 (lg 128) (sb 3 128 (lc qn (bk (bk (bk (lc qn (bk (bk (bk ln)))))))) (sr 4 128 sn))))) (λz=>⟨z.q.2.1,z.1.q.2.1,z.1.q.t.1,z.1.q.t.2.1,z.2.1,z.t.1,z.t.2.1,(ax.mk [] (aH.mk z.q.1.2.1 z.q.1.t.1 z.q.1.t.2.1) [] (aH.mk z.q.1.q.2.1 z.q.1.q.t.1 z.q.1.q.t.2.1))⟩) (λx=>(((),(),(),(),(),x.t8,x.t15,x.t16,()),(x.b0,x.b1,x.b2,((),x.b3.aB.ag,x.b3.aB.ah,x.b3.aB.aj,(),x.b3.aI.ag,x.b3.aI.ah,x.b3.aI.aj,()),x.t7,()))))))
def AW(M83:Runner->(aa ay)->ax->af qW)(M156:Runner->ay->ax->af iA)(M160:Runner->ay->ax->af iy)(p:Ag):af (af Ag):=
 bif J (p.t16<p.t15)then match M7 p.b2 p.b1.bq with|G=>G|V r1=>match Qv r1 (au.mk p.b1.aA.bF p.b1.aA.fN p.b1.aA.aq)with|G=>G|V r2=>match O8 r2 with|G=>G|V r3=>bif r3.fst then match Gq r1 with|G=>G|V r4=>if(p.t7++[r4]).length<=1073741824 then bif bif r3.snd then S else O then V (G)else match M83 p.b0 p.b1.aM r1 with|G=>G|V r5=>V (V (Ag.mk (p.t7++[r4]) p.t8 p.t15 (i64.wrap (p.t16+1)) p.b0 (ay.mk p.b1.cn p.b1.bq p.b1.dG p.b1.fN (au.mk p.b1.aA.bF p.b1.aA.fN p.b1.aA.aq) p.b1.aM p.b1.aS p.b1.aJ) r5 (ax.mk [] p.b3.aB [] p.b3.aI)))else G else bif bif r3.snd then S else O then V (G)else match M83 p.b0 p.b1.aM r1 with|G=>G|V r6=>V (V (Ag.mk p.t7 p.t8 p.t15 (i64.wrap (p.t16+1)) p.b0 (ay.mk p.b1.cn p.b1.bq p.b1.dG p.b1.fN (au.mk p.b1.aA.bF p.b1.aA.fN p.b1.aA.aq) p.b1.aM p.b1.aS p.b1.aJ) r6 (ax.mk [] p.b3.aB [] p.b3.aI)))else V (G)
def Jo(M83:Runner->(aa ay)->ax->af qW)(M156:Runner->ay->ax->af iA)(M160:Runner->ay->ax->af iy):=bJ (AW M83 M156 M160)
def alg(M83:Runner->(aa ay)->ax->af qW)(M156:Runner->ay->ax->af iA)(M160:Runner->ay->ax->af iy):An:=(noTwo (noTwo (noTwo (.two (noTwo (Pc.lp (Jo M83 M156 M160) .no)) (noTwo (noTwo (.two (noTwo (RP.lp (qM M83 M156 M160) .no)) .no)))))))
def ay4(M83:Runner->(aa ay)->ax->af qW)(M156:Runner->ay->ax->af iA)(M160:Runner->ay->ax->af iy):cR w9 (aoC M83 M156 M160) 0 300 156 (alg M83 M156 M160):=bA (l:=[(aW f156 0,(Pc.lp (Jo M83 M156 M160) .no)),(aW f156 1,(RP.lp (qM M83 M156 M160) .no))]) func156 (aV (by kernel_rfl)) (by kernel_rfl) (az (aO Pc) (az (aO RP) aF))
def agn(M83:Runner->(aa ay)->ax->af qW)(M156:Runner->ay->ax->af iA)(M160:Runner->ay->ax->af iy)(a0:Runner)(a1:ay)(a2:ax):af iA:=
 match Jo M83 M156 M160 (Ag.mk [] O a1.fN 0 a0 (ay.mk a1.cn a1.bq a1.dG a1.fN (au.mk a1.aA.bF a1.aA.fN a1.aA.aq) a1.aM a1.aS a1.aJ) a2 (ax.mk [] (aH.mk 0 0 0) [] (aH.mk 0 0 0)))with|G=>G|V r8=>bif J (r8.t16<r8.t15)then match M7 r8.b2 r8.b1.bq with|G=>G|V r9=>match Qv r9 (au.mk r8.b1.aA.bF r8.b1.aA.fN r8.b1.aA.aq)with|G=>G|V r10=>match O8 r10 with|G=>G|V r11=>bif r11.fst then match Gq r9 with|G=>G|V r12=>if(r8.t7++[r12]).length<=1073741824 then bif bif r11.snd then S else O then if(0:Int)<=(0:Int)/\(0:Int)<(↑(r8.t7++[r12]).length:Int)then if 128=128/\0<(r8.t7++[r12]).length then if(0:Int)<=(1:Int)/\(1:Int)<=(↑(r8.t7++[r12]).length:Int)then match qM M83 M156 M160 (mj.mk (yf 1 (r8.t7++[r12])) (↑(yf 1 (r8.t7++[r12])).length:Int) 0 (ax.mk [] r8.b3.aB [] r8.b3.aI) (r8.t7++[r12])[0]!)with|G=>G|V r13=>bif J (r13.t55<r13.t54)then if 0<=r13.t55/\r13.t55<r13.t53.length then match HZ r13.b1 r13.t53[r13.t55.toNat]! with|G=>G|V r14=>G else G else V (r13.b1)else G else G else G else match M83 r8.b0 r8.b1.aM r9 with|G=>G|V r15=>G else G else bif bif r11.snd then S else O then if(0:Int)<=(0:Int)/\(0:Int)<r8.t7.length then if 128=128/\0<r8.t7.length then if(0:Int)<=(1:Int)/\(1:Int)<=r8.t7.length then match qM M83 M156 M160 (mj.mk (yf 1 r8.t7) (↑(yf 1 r8.t7).length:Int) 0 (ax.mk [] r8.b3.aB [] r8.b3.aI) r8.t7[0]!)with|G=>G|V r16=>bif J (r16.t55<r16.t54)then if 0<=r16.t55/\r16.t55<r16.t53.length then match HZ r16.b1 r16.t53[r16.t55.toNat]! with|G=>G|V r17=>G else G else V (r16.b1)else G else G else G else match M83 r8.b0 r8.b1.aM r9 with|G=>G|V r18=>G else bif r8.t8 then if(r8.t7++[r8.b2]).length<=1073741824 then if(0:Int)<=(0:Int)/\(0:Int)<(↑(r8.t7++[r8.b2]).length:Int)then if 128=128/\0<(r8.t7++[r8.b2]).length then if(0:Int)<=(1:Int)/\(1:Int)<=(↑(r8.t7++[r8.b2]).length:Int)then match qM M83 M156 M160 (mj.mk (yf 1 (r8.t7++[r8.b2])) (↑(yf 1 (r8.t7++[r8.b2])).length:Int) 0 (ax.mk [] r8.b3.aB [] r8.b3.aI) (r8.t7++[r8.b2])[0]!)with|G=>G|V r19=>bif J (r19.t55<r19.t54)then if 0<=r19.t55/\r19.t55<r19.t53.length then match HZ r19.b1 r19.t53[r19.t55.toNat]! with|G=>G|V r20=>G else G else V (r19.b1)else G else G else G else G else if(0:Int)<=(0:Int)/\(0:Int)<r8.t7.length then if 128=128/\0<r8.t7.length then if(0:Int)<=(1:Int)/\(1:Int)<=r8.t7.length then match qM M83 M156 M160 (mj.mk (yf 1 r8.t7) (↑(yf 1 r8.t7).length:Int) 0 (ax.mk [] r8.b3.aB [] r8.b3.aI) r8.t7[0]!)with|G=>G|V r21=>bif J (r21.t55<r21.t54)then if 0<=r21.t55/\r21.t55<r21.t53.length then match HZ r21.b1 r21.t53[r21.t55.toNat]! with|G=>G|V r22=>G else G else V (r21.b1)else G else G else G
def aDy(M83:Runner->(aa ay)->ax->af qW)(M156:Runner->ay->ax->af iA)(M160:Runner->ay->ax->af iy)(a0:Runner)(a1:ay)(a2:ax):bL w9 (aoC M83 M156 M160) 300 (alg M83 M156 M160) 156 (aqS.c (a0,a1,a2,())) [] 0 d156.rd=agn M83 M156 M160 a0 a1 a2:=by kernel_rfl
def atq(M83:Runner->(aa ay)->ax->af qW)(M156:Runner->ay->ax->af iA)(M160:Runner->ay->ax->af iy):aZ:=(ari (atn (ain (x83 M83 (e82 cZ)))))
def afS{M83 M156 M160}(h83:H83 M83)(h156:Zs M156)(h160:XD M160):aQ w9 (atq M83 M156 M160):=(Tl (ve (KW (O7 h83 (Ka aR)))))
def alL(M83:Runner->(aa ay)->ax->af qW)(M156:Runner->ay->ax->af iA)(M160:Runner->ay->ax->af iy):An:= .no
def awC(M83:Runner->(aa ay)->ax->af qW)(M156:Runner->ay->ax->af iA)(M160:Runner->ay->ax->af iy):cR w9 (atq M83 M156 M160) 0 300 160 (alL M83 M156 M160):=bA (l:=[]) func160 (aV (by kernel_rfl)) (by kernel_rfl) aF
def ajm(M83:Runner->(aa ay)->ax->af qW)(M156:Runner->ay->ax->af iA)(M160:Runner->ay->ax->af iy)(a0:Runner)(a1:ay)(a2:ax):af iy:=
 match Qv a2 (au.mk a1.aA.bF a1.aA.fN a1.aA.aq)with|G=>G|V r1=>match O8 r1 with|G=>G|V r2=>bif bif r2.fst then S else O then match M83 a0 a1.aM a2 with|G=>G|V r3=>V (r3)else bif bif r2.snd then S else O then match M83 a0 a1.aS a2 with|G=>G|V r4=>V (r4)else match Gq a2 with|G=>G|V r5=>match M83 a0 a1.aM r5 with|G=>G|V r6=>match Gq a2 with|G=>G|V r7=>match M83 a0 a1.aS r7 with|G=>G|V r8=>match HZ r6 r8 with|G=>G|V r9=>V (r9)
def aDl(M83:Runner->(aa ay)->ax->af qW)(M156:Runner->ay->ax->af iA)(M160:Runner->ay->ax->af iy)(a0:Runner)(a1:ay)(a2:ax):bL w9 (atq M83 M156 M160) 300 (alL M83 M156 M160) 160 (aqL.c (a0,a1,a2,())) [] 0 d160.rd=ajm M83 M156 M160 a0 a1 a2:=by kernel_rfl
def dN:Nat->(Runner->(aa ay)->ax->af qW)×(Runner->ay->ax->af iA)×(Runner->ay->ax->af iy)
 |0=>(λ_ _ _=>G,λ_ _ _=>G,λ_ _ _=>G)
 |n+1=>(s83 (dN n).1 (dN n).2.1 (dN n).2.2,agn (dN n).1 (dN n).2.1 (dN n).2.2,ajm (dN n).1 (dN n).2.1 (dN n).2.2)
def Vn(n:Nat):Runner->(aa ay)->ax->af qW:=(dN n).1
def Eh(n:Nat):Runner->ay->ax->af iA:=(dN n).2.1
def CP(n:Nat):Runner->ay->ax->af iy:=(dN n).2.2
def oF:∀n,H83 (Vn n)/\Zs (Eh n)/\XD (CP n)
 |0=>⟨λ_ _ h=>(by cases h),λ_ _ h=>(by cases h),λ_ _ h=>(by cases h)⟩
 |n+1=>by
  have ih:=oF n;obtain⟨i83,i156,i160⟩:=ih;refine⟨?_,?_,?_⟩
  ·exact(cF (apS i83 i156 i160) (aDQ (Vn n) (Eh n) (CP n)) (λ_=>by kernel_rfl) (λ_=>by kernel_rfl) λg=>c83 (Vn n) (Eh n) (CP n) g.1 g.2.1 g.2.2.1)
  ·exact(cF (aka i83 i156 i160) (ay4 (Vn n) (Eh n) (CP n)) (λ_=>by kernel_rfl) (λ_=>by kernel_rfl) λg=>aDy (Vn n) (Eh n) (CP n) g.1 g.2.1 g.2.2.1)
  ·exact(cF (afS i83 i156 i160) (awC (Vn n) (Eh n) (CP n)) (λ_=>by kernel_rfl) (λ_=>by kernel_rfl) λg=>aDl (Vn n) (Eh n) (CP n) g.1 g.2.1 g.2.2.1)
def r83:Runner->(aa ay)->ax->af qW:=λa0 a1 a2=>lim (λn=>Vn n a0 a1 a2)
def aoX:H83 r83:=λg b h=>by
 obtain⟨n,hn⟩:=dR (show lim (λn=>Vn n g.1 g.2.1 g.2.2.1)=V b from h);exact(oF n).1 g b hn
def e83(F:aZ):aZ:=x83 r83 F
def ar5{F:aZ}(h:aQ w9 F):aQ w9 (e83 F):=O7 aoX h
abbrev aDb:=aH
def aam(a0:aH)(a1:Int):af aDb:=
 match oP (8) a0 (m36 a1)with|G=>G|V r1=>V (r1.fst)
structure A5 where
 (t48 t49:Int)
 (b0 b1 b2 b3:aK)
def aqF(p:A5):af (af A5):=
 bif J (p.t49<p.t48)then bif J (p.b0.aC.length<=p.t49)then if 0<=p.t49/\p.t49<p.b1.aC.length then if(p.b3.aC++[p.b1.aC[p.t49.toNat]!]).length<=1073741824 then V (V (A5.mk p.t48 (i64.wrap (p.t49+1)) p.b0 p.b1 (aK.mk [] p.b2.aB [] p.b2.aI) (aK.mk p.b3.ai p.b3.aB (p.b3.aC++[p.b1.aC[p.t49.toNat]!]) p.b3.aI)))else G else G else bif J (p.b1.aC.length<=p.t49)then if 0<=p.t49/\p.t49<p.b0.aC.length then if(p.b3.aC++[p.b0.aC[p.t49.toNat]!]).length<=1073741824 then V (V (A5.mk p.t48 (i64.wrap (p.t49+1)) p.b0 p.b1 (aK.mk [] p.b2.aB [] p.b2.aI) (aK.mk p.b3.ai p.b3.aB (p.b3.aC++[p.b0.aC[p.t49.toNat]!]) p.b3.aI)))else G else G else if 0<=p.t49/\p.t49<p.b0.aC.length then if 0<=p.t49/\p.t49<p.b1.aC.length then match lE p.b0.aC[p.t49.toNat]! p.b1.aC[p.t49.toNat]! with|G=>G|V r2=>if(p.b3.aC++[r2]).length<=1073741824 then V (V (A5.mk p.t48 (i64.wrap (p.t49+1)) p.b0 p.b1 (aK.mk [] p.b2.aB [] p.b2.aI) (aK.mk p.b3.ai p.b3.aB (p.b3.aC++[r2]) p.b3.aI)))else G else G else G else V (G)
def apV:=bJ (aqF)
structure KQ where
 (t21 t22:Int)
 (b0 b1 b2 b3:aK)
def aoc(p:KQ):af (af KQ):=
 bif J (p.t22<p.t21)then if 0<=p.t22/\p.t22<p.b0.ai.length then if 0<=p.t22/\p.t22<p.b1.ai.length then match lE p.b0.ai[p.t22.toNat]! p.b1.ai[p.t22.toNat]! with|G=>G|V r1=>if(p.b3.ai++[r1]).length<=1073741824 then V (V (KQ.mk p.t21 (i64.wrap (p.t22+1)) p.b0 p.b1 (aK.mk [] p.b2.aB [] p.b2.aI) (aK.mk (p.b3.ai++[r1]) p.b3.aB [] p.b3.aI)))else G else G else G else V (G)
def aob:=bJ (aoc)
abbrev aCs:=aK
def aiU(a0:aK)(a1:aK):af aCs:=
 match lE a0.aB a1.aB with|G=>G|V r3=>match lE a0.aI a1.aI with|G=>G|V r4=>match aob (KQ.mk a0.ai.length 0 a0 a1 (aK.mk [] (aH.mk 0 0 0) [] (aH.mk 0 0 0)) (aK.mk [] r3 [] r4))with|G=>G|V r5=>bif J (r5.t22<r5.t21)then if 0<=r5.t22/\r5.t22<r5.b0.ai.length then if 0<=r5.t22/\r5.t22<r5.b1.ai.length then match lE r5.b0.ai[r5.t22.toNat]! r5.b1.ai[r5.t22.toNat]! with|G=>G|V r6=>if(r5.b3.ai++[r6]).length<=1073741824 then G else G else G else G else match apV (A5.mk (if(r5.b0.aC.length:Int)<(r5.b1.aC.length:Int)then(r5.b1.aC.length:Int)else(r5.b0.aC.length:Int)) 0 r5.b0 r5.b1 (aK.mk [] r5.b2.aB [] r5.b2.aI) (aK.mk r5.b3.ai r5.b3.aB [] r5.b3.aI))with|G=>G|V r7=>bif J (r7.t49<r7.t48)then bif J (r7.b0.aC.length<=r7.t49)then if 0<=r7.t49/\r7.t49<r7.b1.aC.length then if(r7.b3.aC++[r7.b1.aC[r7.t49.toNat]!]).length<=1073741824 then G else G else G else bif J (r7.b1.aC.length<=r7.t49)then if 0<=r7.t49/\r7.t49<r7.b0.aC.length then if(r7.b3.aC++[r7.b0.aC[r7.t49.toNat]!]).length<=1073741824 then G else G else G else if 0<=r7.t49/\r7.t49<r7.b0.aC.length then if 0<=r7.t49/\r7.t49<r7.b1.aC.length then match lE r7.b0.aC[r7.t49.toNat]! r7.b1.aC[r7.t49.toNat]! with|G=>G|V r8=>if(r7.b3.aC++[r8]).length<=1073741824 then G else G else G else G else V (r7.b3)
structure IS where
 t10:List aK
 (t11 t12:Int)
 (b0 b1:aK)
def asN(p:IS):af (af IS):=
 bif J (p.t12<p.t11)then if 0<=p.t12/\p.t12<p.t10.length then match aiU p.b1 p.t10[p.t12.toNat]! with|G=>G|V r1=>V (V (IS.mk p.t10 p.t11 (i64.wrap (p.t12+1)) (aK.mk [] p.b0.aB [] p.b0.aI) r1))else G else V (G)
def asx:=bJ (asN)
abbrev aFI:=aK
def Yw(a0:aa aK):af aFI:=
 if(0:Int)<=(0:Int)/\(0:Int)<a0.length then if(0:Int)<=(1:Int)/\(1:Int)<=a0.length then match asx (IS.mk (yf 1 a0) (↑(yf 1 a0).length:Int) 0 (aK.mk [] (aH.mk 0 0 0) [] (aH.mk 0 0 0)) a0[0]!)with|G=>G|V r2=>bif J (r2.t12<r2.t11)then if 0<=r2.t12/\r2.t12<r2.t10.length then match aiU r2.b1 r2.t10[r2.t12.toNat]! with|G=>G|V r3=>G else G else V (r2.b1)else G else G
abbrev aDi:=aK
def af7(a0:aN)(a1:aK)(a2:Int)(a3:aH):af aDi:=
 if([]++a1.ai).length<=1073741824 then if 0<=a2/\a2<a0.ai.length then if 0<=a2/\a2<a0.ai.length then match m86 a3 a0.ai[a2.toNat]!.ag a0.ai[a2.toNat]!.ah with|G=>G|V r1=>if 0<=a2/\a2<(↑([]++a1.ai).length:Int)then if 34=34/\a2.toNat<([]++a1.ai).length then V (aK.mk (([]++a1.ai).set a2.toNat r1.fst) a1.aB a1.aC a1.aI)else G else G else G else G else G
structure DX where
 t5:List aH
 (t12 t13:Int)
 b0:aK
 b1:aH
 b2:aK
def apx(p:DX):af (af DX):=
 bif J (p.t13<p.t12)then match m32 p.b0.aB p.t13 with|G=>G|V r1=>bif r1 then if 0<=p.t13/\p.t13<p.t5.length then if 34=34/\p.t13.toNat<p.t5.length then match lE p.t5[p.t13.toNat]! p.b1 with|G=>G|V r2=>if 0<=p.t13/\p.t13<p.t5.length then if 34=34/\p.t13.toNat<p.t5.length then V (V (DX.mk (p.t5.set p.t13.toNat r2) p.t12 (i64.wrap (p.t13+1)) p.b0 p.b1 (aK.mk [] p.b2.aB [] p.b2.aI)))else G else G else G else G else V (V (DX.mk p.t5 p.t12 (i64.wrap (p.t13+1)) p.b0 p.b1 (aK.mk [] p.b2.aB [] p.b2.aI)))else V (G)
def as4:=bJ (apx)
abbrev aCU:=aK
def aAm(a0:aK)(a1:aH):af aCU:=
 if([]++a0.aC).length<=1073741824 then match as4 (DX.mk ([]++a0.aC) (↑([]++a0.aC).length:Int) 0 a0 a1 (aK.mk [] (aH.mk 0 0 0) [] (aH.mk 0 0 0)))with|G=>G|V r3=>bif J (r3.t13<r3.t12)then match m32 r3.b0.aB r3.t13 with|G=>G|V r4=>bif r4 then if 0<=r3.t13/\r3.t13<r3.t5.length then if 34=34/\r3.t13.toNat<r3.t5.length then match lE r3.t5[r3.t13.toNat]! r3.b1 with|G=>G|V r5=>if 0<=r3.t13/\r3.t13<r3.t5.length then if 34=34/\r3.t13.toNat<r3.t5.length then G else G else G else G else G else G else if(r3.t5++[r3.b1]).length<=1073741824 then match aam r3.b0.aB 1with|G=>G|V r6=>V (aK.mk r3.b0.ai r6 (r3.t5++[r3.b1]) r3.b0.aI)else G else G
abbrev E88:=aK
abbrev LI:=aK
structure oH where
 t1:List aH
 t13:List ay
 (t14 t15:Int)
 b0:aN
 (b1 b2:aK)
def auB(M88:aN->(aa aH)->(aa ay)->aK->af E88)(M167:aN->(aa aH)->ay->aK->af LI)(p:oH):af (af oH):=
 bif J (p.t15<p.t14)then if 0<=p.t15/\p.t15<p.t13.length then bif J (p.t13[p.t15.toNat]!.cn=4)then match M167 p.b0 p.t1 (ay.mk p.t13[p.t15.toNat]!.cn p.t13[p.t15.toNat]!.bq p.t13[p.t15.toNat]!.dG p.t13[p.t15.toNat]!.fN (au.mk p.t13[p.t15.toNat]!.aA.bF p.t13[p.t15.toNat]!.aA.fN p.t13[p.t15.toNat]!.aA.aq) p.t13[p.t15.toNat]!.aM p.t13[p.t15.toNat]!.aS p.t13[p.t15.toNat]!.aJ) p.b1 with|G=>G|V r1=>V (V (oH.mk p.t1 p.t13 p.t14 (i64.wrap (p.t15+1)) p.b0 r1 (aK.mk [] p.b2.aB [] p.b2.aI)))else match aam p.b1.aI p.t13[p.t15.toNat]!.bq with|G=>G|V r2=>bif J (p.t13[p.t15.toNat]!.cn=0)then match r87 (aK.mk p.b1.ai p.b1.aB p.b1.aC r2) (au.mk p.t13[p.t15.toNat]!.aA.bF p.t13[p.t15.toNat]!.aA.fN p.t13[p.t15.toNat]!.aA.aq)with|G=>G|V r3=>match af7 p.b0 (aK.mk p.b1.ai p.b1.aB p.b1.aC r2) p.t13[p.t15.toNat]!.dG r3 with|G=>G|V r4=>V (V (oH.mk p.t1 p.t13 p.t14 (i64.wrap (p.t15+1)) p.b0 r4 (aK.mk [] p.b2.aB [] p.b2.aI)))else bif J (p.t13[p.t15.toNat]!.cn=5)then if 0<=p.t13[p.t15.toNat]!.fN/\p.t13[p.t15.toNat]!.fN<p.t1.length then match af7 p.b0 (aK.mk p.b1.ai p.b1.aB p.b1.aC r2) p.t13[p.t15.toNat]!.dG p.t1[p.t13[p.t15.toNat]!.fN.toNat]! with|G=>G|V r5=>V (V (oH.mk p.t1 p.t13 p.t14 (i64.wrap (p.t15+1)) p.b0 r5 (aK.mk [] p.b2.aB [] p.b2.aI)))else G else bif J (p.t13[p.t15.toNat]!.cn=1)then match r87 (aK.mk p.b1.ai p.b1.aB p.b1.aC r2) (au.mk p.t13[p.t15.toNat]!.aA.bF p.t13[p.t15.toNat]!.aA.fN p.t13[p.t15.toNat]!.aA.aq)with|G=>G|V r6=>match aAm (aK.mk p.b1.ai p.b1.aB p.b1.aC r2) r6 with|G=>G|V r7=>V (V (oH.mk p.t1 p.t13 p.t14 (i64.wrap (p.t15+1)) p.b0 r7 (aK.mk [] p.b2.aB [] p.b2.aI)))else bif J (p.t13[p.t15.toNat]!.cn=3)then match r87 (aK.mk p.b1.ai p.b1.aB p.b1.aC r2) (au.mk p.t13[p.t15.toNat]!.aA.bF p.t13[p.t15.toNat]!.aA.fN p.t13[p.t15.toNat]!.aA.aq)with|G=>G|V r8=>match Gx r8 with|G=>G|V r9=>bif bif r9.fst then S else O then match M88 p.b0 p.t1 p.t13[p.t15.toNat]!.aM (aK.mk p.b1.ai p.b1.aB p.b1.aC r2)with|G=>G|V r10=>V (V (oH.mk p.t1 p.t13 p.t14 (i64.wrap (p.t15+1)) p.b0 r10 (aK.mk [] p.b2.aB [] p.b2.aI)))else bif bif r9.snd then S else O then match M88 p.b0 p.t1 p.t13[p.t15.toNat]!.aS (aK.mk p.b1.ai p.b1.aB p.b1.aC r2)with|G=>G|V r11=>V (V (oH.mk p.t1 p.t13 p.t14 (i64.wrap (p.t15+1)) p.b0 r11 (aK.mk [] p.b2.aB [] p.b2.aI)))else match M88 p.b0 p.t1 p.t13[p.t15.toNat]!.aM (aK.mk p.b1.ai p.b1.aB p.b1.aC r2)with|G=>G|V r12=>match M88 p.b0 p.t1 p.t13[p.t15.toNat]!.aS (aK.mk p.b1.ai p.b1.aB p.b1.aC r2)with|G=>G|V r13=>match aiU r12 r13 with|G=>G|V r14=>V (V (oH.mk p.t1 p.t13 p.t14 (i64.wrap (p.t15+1)) p.b0 r14 (aK.mk [] p.b2.aB [] p.b2.aI)))else bif J (p.t13[p.t15.toNat]!.cn=6)then match P8 r2 p.t13[p.t15.toNat]!.aJ with|G=>G|V r15=>V (V (oH.mk p.t1 p.t13 p.t14 (i64.wrap (p.t15+1)) p.b0 (aK.mk p.b1.ai p.b1.aB p.b1.aC r15.fst) (aK.mk [] p.b2.aB [] p.b2.aI)))else V (V (oH.mk p.t1 p.t13 p.t14 (i64.wrap (p.t15+1)) p.b0 (aK.mk p.b1.ai p.b1.aB p.b1.aC r2) (aK.mk [] p.b2.aB [] p.b2.aI)))else G else V (G)
def ax9(M88:aN->(aa aH)->(aa ay)->aK->af E88)(M167:aN->(aa aH)->ay->aK->af LI):=bJ (auB M88 M167)
def s88(M88:aN->(aa aH)->(aa ay)->aK->af E88)(M167:aN->(aa aH)->ay->aK->af LI)(a0:aN)(a1:aa aH)(a2:aa ay)(a3:aK):af E88:=
 match ax9 M88 M167 (oH.mk a1 a2 a2.length 0 a0 a3 (aK.mk [] (aH.mk 0 0 0) [] (aH.mk 0 0 0)))with|G=>G|V r16=>bif J (r16.t15<r16.t14)then if 0<=r16.t15/\r16.t15<r16.t13.length then bif J (r16.t13[r16.t15.toNat]!.cn=4)then match M167 r16.b0 r16.t1 (ay.mk r16.t13[r16.t15.toNat]!.cn r16.t13[r16.t15.toNat]!.bq r16.t13[r16.t15.toNat]!.dG r16.t13[r16.t15.toNat]!.fN (au.mk r16.t13[r16.t15.toNat]!.aA.bF r16.t13[r16.t15.toNat]!.aA.fN r16.t13[r16.t15.toNat]!.aA.aq) r16.t13[r16.t15.toNat]!.aM r16.t13[r16.t15.toNat]!.aS r16.t13[r16.t15.toNat]!.aJ) r16.b1 with|G=>G|V r17=>G else match aam r16.b1.aI r16.t13[r16.t15.toNat]!.bq with|G=>G|V r18=>bif J (r16.t13[r16.t15.toNat]!.cn=0)then match r87 (aK.mk r16.b1.ai r16.b1.aB r16.b1.aC r18) (au.mk r16.t13[r16.t15.toNat]!.aA.bF r16.t13[r16.t15.toNat]!.aA.fN r16.t13[r16.t15.toNat]!.aA.aq)with|G=>G|V r19=>match af7 r16.b0 (aK.mk r16.b1.ai r16.b1.aB r16.b1.aC r18) r16.t13[r16.t15.toNat]!.dG r19 with|G=>G|V r20=>G else bif J (r16.t13[r16.t15.toNat]!.cn=5)then if 0<=r16.t13[r16.t15.toNat]!.fN/\r16.t13[r16.t15.toNat]!.fN<r16.t1.length then match af7 r16.b0 (aK.mk r16.b1.ai r16.b1.aB r16.b1.aC r18) r16.t13[r16.t15.toNat]!.dG r16.t1[r16.t13[r16.t15.toNat]!.fN.toNat]! with|G=>G|V r21=>G else G else bif J (r16.t13[r16.t15.toNat]!.cn=1)then match r87 (aK.mk r16.b1.ai r16.b1.aB r16.b1.aC r18) (au.mk r16.t13[r16.t15.toNat]!.aA.bF r16.t13[r16.t15.toNat]!.aA.fN r16.t13[r16.t15.toNat]!.aA.aq)with|G=>G|V r22=>match aAm (aK.mk r16.b1.ai r16.b1.aB r16.b1.aC r18) r22 with|G=>G|V r23=>G else bif J (r16.t13[r16.t15.toNat]!.cn=3)then match r87 (aK.mk r16.b1.ai r16.b1.aB r16.b1.aC r18) (au.mk r16.t13[r16.t15.toNat]!.aA.bF r16.t13[r16.t15.toNat]!.aA.fN r16.t13[r16.t15.toNat]!.aA.aq)with|G=>G|V r24=>match Gx r24 with|G=>G|V r25=>bif bif r25.fst then S else O then match M88 r16.b0 r16.t1 r16.t13[r16.t15.toNat]!.aM (aK.mk r16.b1.ai r16.b1.aB r16.b1.aC r18)with|G=>G|V r26=>G else bif bif r25.snd then S else O then match M88 r16.b0 r16.t1 r16.t13[r16.t15.toNat]!.aS (aK.mk r16.b1.ai r16.b1.aB r16.b1.aC r18)with|G=>G|V r27=>G else match M88 r16.b0 r16.t1 r16.t13[r16.t15.toNat]!.aM (aK.mk r16.b1.ai r16.b1.aB r16.b1.aC r18)with|G=>G|V r28=>match M88 r16.b0 r16.t1 r16.t13[r16.t15.toNat]!.aS (aK.mk r16.b1.ai r16.b1.aB r16.b1.aC r18)with|G=>G|V r29=>match aiU r28 r29 with|G=>G|V r30=>G else bif J (r16.t13[r16.t15.toNat]!.cn=6)then match P8 r18 r16.t13[r16.t15.toNat]!.aJ with|G=>G|V r31=>G else G else G else V (r16.b1)
structure DW where
 t1:List aH
 t9:List aK
 (t13 t14:Int)
 b0:aN
 b1:ay
 (b2 b3:aK)
def atp(M88:aN->(aa aH)->(aa ay)->aK->af E88)(M167:aN->(aa aH)->ay->aK->af LI)(p:DW):af (af DW):=
 bif J (p.t14<p.t13)then match aam p.b2.aI p.b1.bq with|G=>G|V r1=>match r87 (aK.mk p.b2.ai p.b2.aB p.b2.aC r1) (au.mk p.b1.aA.bF p.b1.aA.fN p.b1.aA.aq)with|G=>G|V r2=>match Gx r2 with|G=>G|V r3=>bif r3.fst then if(p.t9++[aK.mk p.b2.ai p.b2.aB p.b2.aC r1]).length<=1073741824 then bif bif r3.snd then S else O then match Yw (p.t9++[aK.mk p.b2.ai p.b2.aB p.b2.aC r1])with|G=>G|V r4=>V (G)else match M88 p.b0 p.t1 p.b1.aM (aK.mk p.b2.ai p.b2.aB p.b2.aC r1)with|G=>G|V r5=>V (V (DW.mk p.t1 (p.t9++[aK.mk p.b2.ai p.b2.aB p.b2.aC r1]) p.t13 (i64.wrap (p.t14+1)) p.b0 (ay.mk p.b1.cn p.b1.bq p.b1.dG p.b1.fN (au.mk p.b1.aA.bF p.b1.aA.fN p.b1.aA.aq) p.b1.aM p.b1.aS p.b1.aJ) r5 (aK.mk [] p.b3.aB [] p.b3.aI)))else G else bif bif r3.snd then S else O then match Yw p.t9 with|G=>G|V r6=>V (G)else match M88 p.b0 p.t1 p.b1.aM (aK.mk p.b2.ai p.b2.aB p.b2.aC r1)with|G=>G|V r7=>V (V (DW.mk p.t1 p.t9 p.t13 (i64.wrap (p.t14+1)) p.b0 (ay.mk p.b1.cn p.b1.bq p.b1.dG p.b1.fN (au.mk p.b1.aA.bF p.b1.aA.fN p.b1.aA.aq) p.b1.aM p.b1.aS p.b1.aJ) r7 (aK.mk [] p.b3.aB [] p.b3.aI)))else V (G)
def asG(M88:aN->(aa aH)->(aa ay)->aK->af E88)(M167:aN->(aa aH)->ay->aK->af LI):=bJ (atp M88 M167)
def aCi(M88:aN->(aa aH)->(aa ay)->aK->af E88)(M167:aN->(aa aH)->ay->aK->af LI)(a0:aN)(a1:aa aH)(a2:ay)(a3:aK):af LI:=
 match asG M88 M167 (DW.mk a1 [] a2.fN (0) a0 (ay.mk a2.cn a2.bq a2.dG a2.fN (au.mk a2.aA.bF a2.aA.fN a2.aA.aq) a2.aM a2.aS a2.aJ) a3 (aK.mk [] (aH.mk (0) (0) (0)) [] (aH.mk (0) (0) (0))))with|G=>G|V r8=>bif J (r8.t14<r8.t13)then match aam r8.b2.aI r8.b1.bq with|G=>G|V r9=>match r87 (aK.mk r8.b2.ai r8.b2.aB r8.b2.aC r9) (au.mk r8.b1.aA.bF r8.b1.aA.fN r8.b1.aA.aq)with|G=>G|V r10=>match Gx r10 with|G=>G|V r11=>bif r11.fst then if(r8.t9++[aK.mk r8.b2.ai r8.b2.aB r8.b2.aC r9]).length<=1073741824 then bif bif r11.snd then S else O then match Yw (r8.t9++[aK.mk r8.b2.ai r8.b2.aB r8.b2.aC r9])with|G=>G|V r12=>V (r12)else match M88 r8.b0 r8.t1 r8.b1.aM (aK.mk r8.b2.ai r8.b2.aB r8.b2.aC r9)with|G=>G|V r13=>G else G else bif bif r11.snd then S else O then match Yw r8.t9 with|G=>G|V r14=>V (r14)else match M88 r8.b0 r8.t1 r8.b1.aM (aK.mk r8.b2.ai r8.b2.aB r8.b2.aC r9)with|G=>G|V r15=>G else if(r8.t9++[r8.b2]).length<=1073741824 then match Yw (r8.t9++[r8.b2])with|G=>G|V r16=>V (r16)else G
def qK:Nat->(aN->(aa aH)->(aa ay)->aK->af E88)×(aN->(aa aH)->ay->aK->af LI)
 |0=>(λ_ _ _ _=>G,λ_ _ _ _=>G)
 |n+1=>(s88 (qK n).1 (qK n).2,aCi (qK n).1 (qK n).2)
def m88(n:Nat):aN->(aa aH)->(aa ay)->aK->af E88:=(qK n).1
def r88:aN->(aa aH)->(aa ay)->aK->af E88:=λa0 a1 a2 a3=>lim (λn=>m88 n a0 a1 a2 a3)
def abQ{l:aa aH}(h:l.length<=1000000):Vy l=V l:=by unfold Vy;rw[gY]
def ru{s:ax}(h1:s.ai.length<=1000000)(h2:s.aC.length<=1000000):Gq s=V s:=by
 unfold Gq;rw[abQ h1];dsimp only;rw[abQ h2]
def Pt{n m:Nat}{s:ax}(h:gE n m s){c:Int}(hc:cC c):M7 s c=V (kK s c):=by
 obtain⟨z,e,_,_⟩:=uB 8 h.time (mC hc);unfold M7 kK;rw[rj,e]
def XZ{r:Runner}{m:Nat}{s:ax}(h:gE r.fF.ai.length m s)(hn:r.fF.ai.length<=1000000)(hm:m<=1000000){v:Int}{x:aH}(h1:0<=v)(h2:v<r.fF.ai.length)(hx:NN x):R9 r s v x=V (XV r.fF s v x):=by
 have hl:=h.len;have hs:=h.sl;obtain⟨z,e,_,_⟩:=kU hx r.fF.ai[v.toNat]!.ag r.fF.ai[v.toNat]!.ah;unfold R9 XV;rw[ru (by omega) (by omega)];dsimp only;rw[bE ⟨h1,h2⟩,e];dsimp only;rw[gY,bE ⟨rfl,by omega⟩]
def Oy{vars:aa aX}{inp:Bool}{m:Nat}{st:ax}(hst:gE vars.length m st){t:au}(hc:eW vars inp t=0):Qv st t=V (dS st.ai t):=by
 have e:aeu t st=V (dS st.ai t,st):=fe (zg t+1) λn hn=>(QZ hst n t (by omega) (Cr hc).1 (Cr hc).2).1;unfold Qv;rw[au.eta,e]
def EX(s:ax)(v:aH)(i:Nat):aa aH:=nD s.aC.length (λk=>if k<i/\de s.aB k=O then cV s.aC[k]! v else s.aC[k]!)
def MO(s:ax)(v:aH)(i:Nat):(EX s v i).length=s.aC.length:=ji ..
def atc(s:ax)(v:aH):EX s v 0=s.aC:=R3 rfl λi _=>by rw[bO (λh=>by omega)]
def ZO(s:ax)(v:aH):EX s v s.aC.length=nD s.aC.length (λk=>if de s.aB k=O then cV s.aC[k]! v else s.aC[k]!):=ij λi hi=>by
 by_cases c:de s.aB (i:Nat)=O
 ·rw[bE ⟨hi,c⟩,bE c]
 ·rw[bO (λh=>c h.2),bO c]
def Xz{s:ax}{v:aH}{i:Nat}(h:i<s.aC.length):(EX s v i)[i]! =s.aC[i]! :=by
 rw[EX,nU h,bO (λh=>by omega)]
def aab{s:ax}{v:aH}{i:Nat}(c:de s.aB (i:Nat)=O):(EX s v i).set i (cV s.aC[i]! v)=EX s v (i+1):=by
 rw[EX,Jx];refine ij λj _=> ?_;by_cases e:j=i
 ·subst e;rw[bE rfl,bE ⟨by omega,c⟩]
 ·rw[bO e];by_cases c2:j<i/\de s.aB (j:Nat)=O
  ·rw[bE c2,bE ⟨by omega,c2.2⟩]
  ·rw[bO c2,bO (λh=>c2 ⟨by omega,h.2⟩)]
def afB{s:ax}{v:aH}{i:Nat}(c:de s.aB (i:Nat)=S):EX s v i=EX s v (i+1):=by
 refine ij λj _=> ?_;by_cases e:j=i
 ·subst e;rw[bO (λh=>by omega),bO (λh=>by rw[c]at h;cases h.2)]
 ·by_cases c2:j<i/\de s.aB (j:Nat)=O
  ·rw[bE c2,bE ⟨by omega,c2.2⟩]
  ·rw[bO c2,bO (λh=>c2 ⟨by omega,h.2⟩)]
def apz{n m:Nat}{s:ax}(h:gE n m s)(hn:n<=1000000)(hm:m<=1000000){x:aH}(hx:NN x):YA s x=V (aci s x):=by
 have hs:=h.sl;have hl:=h.len;obtain⟨v,e1,_⟩:=dc (rnd:=Iz) s.aC.length (λi (_:Unit)=>⟨(s.aC.length:Int),(i:Int),⟨s.ai,s.aB,EX s x i,s.aI⟩,x,⟨[],⟨0,0,0⟩,[],⟨0,0,0⟩⟩⟩) (λi _=>True) (λi b hi _=>by
  have hw:=fu hi (by omega);have i1:(i:Int)<(s.aC.length:Int):=by omega
  have i2:(0:Int)<=(i:Int):=by omega
  refine⟨(),?_,trivial⟩;unfold Iz;dsimp only;by_cases hc:de s.aB (i:Nat)=O
  ·simp only[ze,i1,i2,hi,cI,bC,cT,cB,o6 (.inr h.count),hc,MO,Xz hi,oy (.inr (h.slots i hi)) (.inr hx),hw,aab hc]
  ·have hc:de s.aB (i:Nat)=S:=by simpa using hc
   simp only[i1,cI,bC,bB,o6 (.inr h.count),hc,hw,afB hc]) (λb _=>by unfold Iz;simp) (b:=()) trivial
 rw[atc]at e1;have e1':JI ⟨(s.aC.length:Int),0,s,x,⟨[],⟨0,0,0⟩,[],⟨0,0,0⟩⟩⟩=_:=e1;obtain⟨z,eb,_,_⟩:=uB 8 h.count (mC (c:=1) ⟨by decide,by decide⟩);unfold YA;rw[ru (by omega) (by omega)];dsimp only;rw[e1'];dsimp only;rw[gh,bB,bE (by rw[zj,MO];simp;omega),rj,eb,ZO];rfl
def DY(a b:aa aH)(i:Nat):aa aH:=nD a.length (λk=>if k<i then cV a[k]! b[k]! else a[k]!)
def X9(a b:aa aH)(i:Nat):(DY a b i).length=a.length:=ji ..
def asf(a b:aa aH):DY a b 0=a:=R3 rfl λi _=>by rw[v7]
def abc(a b:aa aH):DY a b a.length=nD a.length (λk=>cV a[k]! b[k]!):=ij λi hi=>by rw[bE hi]
def YN{a b:aa aH}{i:Nat}(h:i<a.length):(DY a b i)[i]! =a[i]! :=by rw[DY,nU h,v7]
def XA(a b:aa aH)(i:Nat):(DY a b i).set i (cV a[i]! b[i]!)=DY a b (i+1):=by
 rw[DY,Jx];refine ij λj _=> ?_;by_cases e:j=i
 ·subst e;rw[bE rfl,gY]
 ·rw[bO e];by_cases c:j<i
  ·rw[bE c,gY]
  ·rw[bO c,v7]
def oT(a b:aa aH)(i:Nat):aa aH:=nD (max a.length i) (λk=>if k<i then slJ a b k else a[k]!)
def Dn(a b:aa aH)(i:Nat):(oT a b i).length=max a.length i:=ji ..
def asg(a b:aa aH):oT a b 0=a:=R3 (by omega) λi _=>by rw[v7]
def ace(a b:aa aH):oT a b b.length=nD (max a.length b.length) (slJ a b):=ij λi hi=>by
 by_cases c:i<b.length
 ·rw[bE c]
 ·rw[bO c];unfold slJ;rw[v7,gY]
def abf{a b:aa aH}{i:Nat}(h:i<a.length):(oT a b i)[i]! =a[i]! :=by rw[oT,nU (by omega),v7]
def aal{a b:aa aH}{i:Nat}(h:i<a.length)(k:i<b.length):(oT a b i).set i (cV a[i]! b[i]!)=oT a b (i+1):=by
 rw[oT,Jx,oT,show max a.length i=max a.length (i+1)by omega];refine ij λj _=> ?_;by_cases e:j=i
 ·subst e;rw[bE rfl,gY];unfold slJ;rw[v7,v7]
 ·rw[bO e];by_cases c:j<i
  ·rw[bE c,gY]
  ·rw[bO c,v7]
def Zc{a b:aa aH}{i:Nat}(h:a.length<=i):oT a b i++[b[i]!]=oT a b (i+1):=by
 rw[oT,oT,show max a.length i=i by omega,show max a.length (i+1)=i+1 by omega,MJ]
 congr 1
 ·refine ij λj hj=> ?_;rw[bE hj,gY]
 ·rw[gY];unfold slJ;rw[bE h]
def ack{n m:Nat}{s t:ax}(h:gE n m s)(k:gE n m t)(hn:n<=1000000)(hm:m<=1000000):HZ s t=V (qD s t):=by
 have hs:=h.sl;have hl:=h.len;have ks:=k.sl;have kl:=k.len;obtain⟨v,e1,_⟩:=dc (rnd:=IK) s.ai.length (λi (_:Unit)=>⟨(s.ai.length:Int),(i:Int),t,⟨[],⟨0,0,0⟩,[],⟨0,0,0⟩⟩,⟨DY s.ai t.ai i,s.aB,s.aC,s.aI⟩⟩) (λi _=>True) (λi b hi _=>by
  have hw:=fu hi (by omega);have i1:(i:Int)<(s.ai.length:Int):=by omega
  have i2:(0:Int)<=(i:Int):=by omega
  have i3:(i:Int)<(t.ai.length:Int):=by omega
  refine⟨(),?_,trivial⟩;unfold IK;dsimp only;simp only[ze,i1,i2,i3,hi,cI,bC,cT,cB,X9,YN hi,oy (.inr (h.vars i (by omega))) (.inr (k.vars i (by omega))),hw,XA]) (λb _=>by unfold IK;simp) (b:=()) trivial
 rw[asf]at e1;have e1':Jt ⟨(s.ai.length:Int),0,t,⟨[],⟨0,0,0⟩,[],⟨0,0,0⟩⟩,s⟩=_:=e1;obtain⟨v2,e2,_⟩:=dc (rnd:=KK) t.aC.length (λi (_:Unit)=>⟨t.aC,(t.aC.length:Int),(i:Int),⟨[],⟨0,0,0⟩,[],⟨0,0,0⟩⟩,⟨DY s.ai t.ai s.ai.length,cV s.aB t.aB,oT s.aC t.aC i,cV s.aI t.aI⟩⟩) (λi _=>True) (λi b hi _=>by
  have hw:=fu hi (by omega);have i1:(i:Int)<(t.aC.length:Int):=by omega
  have i2:(0:Int)<=(i:Int):=by omega
  refine⟨(),?_,trivial⟩;unfold KK;dsimp only;by_cases c:i<s.aC.length
  ·have i3:(i:Int)<((oT s.aC t.aC i).length:Int):=by rw[Dn];omega
   have i4:i<(oT s.aC t.aC i).length:=by omega
   simp only[ze,i1,i2,i3,i4,cI,bC,cT,cB,abf c,oy (.inr (h.slots i c)) (.inr (k.slots i hi)),hw,aal c hi]
  ·have i3:¬(i:Int)<((oT s.aC t.aC i).length:Int):=by rw[Dn];omega
   have i4:(oT s.aC t.aC (i+1)).length<=1073741824:=by rw[Dn];omega
   simp only[ze,i1,i2,i3,i4,cI,ep,bC,bB,cT,cB,hw,Zc (show s.aC.length<=i by omega)]) (λb _=>by unfold KK;simp) (b:=()) trivial
 rw[asg]at e2;have e2':J5 ⟨t.aC,(t.aC.length:Int),0,⟨[],⟨0,0,0⟩,[],⟨0,0,0⟩⟩,⟨DY s.ai t.ai s.ai.length,cV s.aB t.aB,s.aC,cV s.aI t.aI⟩⟩=_:=e2;unfold HZ;rw[ru (by omega) (by omega)];dsimp only;rw[e1'];dsimp only;rw[gh,bB,oy (.inr h.count) (.inr k.count)];dsimp only;rw[oy (.inr h.time) (.inr k.time)];dsimp only;rw[e2'];dsimp only;rw[gh,bB,abc,ace];rfl
def qh(body:ax->ax)(t:au)(c:Int):Nat->ax->aa ax
 |0,s=>[s]
 |n+1,s=>(if de (dS s.ai t) 0=O then[kK s c]else[])++(if cK (dS s.ai t)=O then qh body t c n (body (kK s c))else[])
def vT:aa ax->ax
 |[]=>⟨[],cG,[],cG⟩
 |x::l=>l.foldl qD x
def brA(v:aH)(a b:ax->ax)(s:ax):ax:=
 if de v 0=S then a s else if cK v=S then b s else qD (a s) (b s)
def Hs(f:aN)(hv:aa aH)(a b:ax->ax)(x:ay)(s:ax):ax:=
 if x.cn=4 then vT (qh a x.aA x.bq x.fN.toNat s)
 else if x.cn=0 then XV f (kK s x.bq) x.dG (dS s.ai x.aA)
 else if x.cn=1 then aci (kK s x.bq) (dS s.ai x.aA)
 else if x.cn=5 then XV f (kK s x.bq) x.dG hv[x.fN.toNat]!
 else if x.cn=3 then brA (dS s.ai x.aA) a b (kK s x.bq)
 else if x.cn=6 then⟨s.ai,s.aB,s.aC,rL (Gg 8 s.aI (fK x.bq)) x.aJ⟩
 else kK s x.bq
def kg(f:aN)(hv:aa aH):aa ay->ax->ax
 |[],s=>s
 |x::l,s=>kg f hv l (Hs f hv (λs=>kg f hv x.aM s) (λs=>kg f hv x.aS s) x s)
termination_by l=>zg l
decreasing_by
 all_goals first|exact(bt (zo ..)).1|exact(bt (zo ..)).2|exact dY _ _
def Nh(f:aN)(hv:aa aH)(s:ax):kg f hv [] s=s:=by rw[kg]
def HK(f:aN)(hv:aa aH)(x:ay)(l:aa ay)(s:ax):kg f hv (x::l) s=kg f hv l (Hs f hv (kg f hv x.aM) (kg f hv x.aS) x s):=by rw[kg]
def Wr{n m:Nat}:∀{l:aa ax},l≠[]->(∀q∈l,gE n m q)->gE n m (vT l)
 |[],h,_=>dD rfl h
 |x::l,_,h=>by
  have key:∀(l:aa ax) (x:ax),gE n m x->(∀q∈l,gE n m q)->gE n m (l.foldl qD x):=λl=>by
   induction l with
   |nil=>intro x hx _;exact hx
   |cons y l ih=>intro x hx hl;exact ih (qD x y) (DP hx (hl y (zo ..))) (λq hq=>hl q (zO _ hq))
  exact key l x (h x (zo ..)) (λq hq=>h q (zO _ hq))
def KH{vars:aa aX}{a:ax->ax}{t:au}{c:Int}{o:Nat}(hc:cC c)(ht:eW vars S t=0)(ha:∀s m,gE vars.length m s->gE vars.length (m+o) (a s)):∀(N:Nat) (s:ax) (m:Nat),gE vars.length m s->(∀q∈qh a t c N s,gE vars.length (m+N*o) q)/\qh a t c N s≠[]
 |0,s,m,h=>by
  rw[qh];refine⟨λq hq=> ?_,by simp⟩;rw[zy.1 hq];exact h.weak (by omega)
 |n+1,s,m,h=>by
  rw[qh];have hz:=zero_or (l6 h t ht);have h1:=ux h hc;obtain⟨i1,i2⟩:=KH hc ht ha n (a (kK s c)) (m+o) (ha _ _ h1);have e:m+o+n*o=m+(n+1)*o:=by rw[yd,Nat.one_mul];omega
  refine⟨λq hq=> ?_,λe=> ?_⟩
  ·rcases zW.1 hq with hq|hq
   ·split at hq
    ·rw[zy.1 hq];exact h1.weak (by omega)
    ·cases hq
   ·split at hq
    ·rw[<-e];exact i1 q hq
    ·cases hq
  ·obtain⟨e1,e2⟩:=List.append_eq_nil_iff.1 e;cases hn:cK (dS s.ai t)with
   |true=>rw[hn,bE rfl]at e2;exact i2 e2
   |false=>
    rw[hn]at hz;have hz:de (dS s.ai t) 0=O:=by simpa using hz
    rw[hz,bE rfl]at e1;cases e1
def iW(l:aa ay):Nat:=(eV l).2.1.toNat
def Uv{l:aa Int}(h1:1<=l.length/\l.length<=32)(h0:(0:Int)<=l[0]!)(hr:fZ l=O)(h6:l[l.length-1]!<=67108864):∀b∈l,cC b:=λb hb=>by
 obtain⟨i,hi,e⟩:=List.mem_iff_getElem.1 hb;have e:l[i]! =b:=by rw[getElem!_pos l i hi];exact e
 have a1:l[0]!<=l[i]! :=by
  by_cases h:i=0
  ·subst h;exact zm _
  ·exact y8 (Ug hr (by omega) hi)
 have a2:l[i]!<=l[l.length-1]! :=by
  by_cases h:i=l.length-1
  ·subst h;exact zm _
  ·exact y8 (Ug hr (by omega) (by omega))
 rw[<-e];unfold cC;omega
def Eo{f:aN}{last:Bool}{x:ay}(hx:ajT f last x):cC x.bq:=by
 have:=hx.cost;unfold cC;omega
def aqu{n m o p:Nat}{v:aH}{a b:ax->ax}{s:ax}(h:gE n m s)(ha:∀s m,gE n m s->gE n (m+o) (a s))(hb:∀s m,gE n m s->gE n (m+p) (b s)):gE n (m+max o p) (brA v a b s):=by
 unfold brA;split
 ·exact(ha _ _ h).weak (by omega)
 split
 ·exact(hb _ _ h).weak (by omega)
 ·exact DP ((ha _ _ h).weak (by omega)) ((hb _ _ h).weak (by omega))
def Ml{f:aN}{hv:aa aH}(hh:hv.length=f.ak.length)(hvn:∀i,i<hv.length->NN hv[i]!){a b:ax->ax}{last:Bool}{x:ay}(hx:ajT f last x)
  (p1:0<=(eV x.aM).2.1) (p2:0<=(eV x.aS).2.1)
  (ha:∀s m,gE f.ai.length m s->gE f.ai.length (m+iW x.aM) (a s)) (hb:∀s m,gE f.ai.length m s->gE f.ai.length (m+iW x.aS) (b s))
  {s:ax} {m:Nat} (h:gE f.ai.length m s):gE f.ai.length (m+(uO x).1.toNat) (Hs f hv a b x s):=by
 have hc:=Eo hx;have h1:=ux h hc;have hvl:=l6 h x.aA hx.term;unfold Hs uO;by_cases a4:x.cn=4
 ·simp only[a4,Int.reduceEq,cB,gG];have hn:=hx.n4 a4;obtain⟨i1,i2⟩:=KH hc hx.term ha x.fN.toNat s m h;have e:(x.fN*(eV x.aM).2.1).toNat=x.fN.toNat*iW x.aM:=by rw[iW,Int.toNat_mul hn.1 p1]
  rw[e];exact Wr i2 i1
 by_cases a0:x.cn=0
 ·simp only[a0,Int.reduceEq,cB,gG];exact To h1 hvl
 by_cases a1:x.cn=1
 ·simp only[a1,Int.reduceEq,cB,gG];exact aiB h1 hvl
 by_cases a5:x.cn=5
 ·simp only[a5,Int.reduceEq,cB,gG];obtain⟨n1,n2⟩:=hx.n5 a5;exact To h1 (hvn _ (by omega))
 by_cases a3:x.cn=3
 ·simp only[a3,Int.reduceEq,cB,gG];have:=aqu (v:=dS s.ai x.aA) h1 ha hb;unfold iW at this;refine this.weak ?_;omega
 by_cases a6:x.cn=6
 ·simp only[a6,Int.reduceEq,cB,gG];obtain⟨_,q2,q3,q4,q5⟩:=hx.amn a6;have k:=(CX (a:=Gg 8 s.aI (fK x.bq)) h1.time q4 (by omega) (Uv q2 q3 q4 q5)).2.2.1;exact⟨h.len,h.vars,h.count,h.sl,h.slots,k⟩
 ·simp only[a0,a1,a3,a4,a5,a6,gG];exact h1
def HF{f:aN}{top:Bool}{x:ay}{l:aa ay}(h:ct f top (x::l)=0):iW (x::l)=(uO x).1.toNat+iW l:=by
 obtain⟨h1,h2,h3,h4⟩:=jM h;have ho:=uE h1;have p1:=(jR f _ _ _ (zJ _) h2).1;have p2:=(jR f _ _ _ (zJ _) h3).1;have p3:=(jR f _ _ _ (zJ _) h4).1;have e1:0<=(uO x).1:=by
  unfold uO;by_cases a1:x.cn=1
  ·rw[bE a1];show (0:Int)<=1;decide
  by_cases a3:x.cn=3
  ·rw[bO a1,bE a3];dsimp only;omega
  by_cases a4:x.cn=4
  ·rw[bO a1,bO a3,bE a4];exact zF (ho.n4 a4).1 p1
  ·rw[bO a1,bO a3,bO a4];exact zm _
 unfold iW;rw[(ado x l).1];omega
def jP{f:aN}{hv:aa aH}(hh:hv.length=f.ak.length)(hvn:∀i,i<hv.length->NN hv[i]!):∀(n:Nat) (l:aa ay) (top:Bool),zg l<n->ct f top l=0->∀(s:ax) (m:Nat),gE f.ai.length m s->gE f.ai.length (m+iW l) (kg f hv l s)
 |0,_,_,h,_,_,_,_=>by omega
 |n+1,[],_,_,_,s,m,h=>by rw[Nh];exact h.weak (by omega)
 |n+1,x::l,top,hn,hc,s,m,h=>by
  obtain⟨h1,h2,h3,h4⟩:=jM hc;have ho:=uE h1;have hsz:=bt (zo (a:=x) (l:=l));have ht:=dY x l;have p1:=(jR f n x.aM S (by omega) h2).1;have p2:=(jR f n x.aS S (by omega) h3).1;rw[HK,HF hc];have i1:=Ml hh hvn ho p1 p2 (jP hh hvn n x.aM S (by omega) h2) (jP hh hvn n x.aS S (by omega) h3) h;exact(jP hh hvn n l top (by omega) h4 _ _ i1).weak (by omega)
def QW{α:Type}[Inhabited α](g:α->α->α)(l:aa α)(x:α){i:Nat}(h:i<l.length):(l.take (i+1)).foldl g x=g ((l.take i).foldl g x) l[i]! :=by
 rw[List.take_add_one,wz,zu h,getElem!_pos l i h];rfl
def Om{n m:Nat}:∀(l:aa ax) (x:ax),gE n m x->(∀q∈l,gE n m q)->gE n m (l.foldl qD x)
 |[],x,hx,_=>hx
 |y::l,x,hx,hl=>Om l (qD x y) (DP hx (hl y (zo ..))) (λq hq=>hl q (zO _ hq))
def Xn(M83:Runner->(aa ay)->ax->af qW)(M156:Runner->ay->ax->af iA)(M160:Runner->ay->ax->af iy){n m:Nat}(hn:n<=1000000)(hm:m<=1000000){l:aa ax}{x:ax}(hl:l.length<=1000000)(hx:gE n m x)(hq:∀q∈l,gE n m q)(c t:aH):
  qM M83 M156 M160 ⟨l,(l.length:Int),0,⟨[],c,[],t⟩,x⟩=V ⟨l,(l.length:Int),(l.length:Int),⟨[],c,[],t⟩,l.foldl qD x⟩:=by
 obtain⟨v,e1,_⟩:=dc (rnd:=Kg M83 M156 M160) l.length (λi (_:Unit)=>⟨l,(l.length:Int),(i:Int),⟨[],c,[],t⟩,(l.take i).foldl qD x⟩) (λi _=>True) (λi b hi _=>by
  have hw:=fu hi hl;have i1:(i:Int)<(l.length:Int):=by omega
  have i2:(0:Int)<=(i:Int):=by omega
  have e:=ack (Om (l.take i) x hx (λq k=>hq q (List.mem_of_mem_take k))) (hq _ (bh hi)) hn hm;refine⟨(),?_,trivial⟩;unfold Kg;dsimp only;simp only[ze,i1,i2,cI,bC,cT,cB,e,hw,QW qD l x hi]) (λb _=>by unfold Kg;simp) (b:=()) trivial
 rw[zB]at e1;exact e1
def Ty(M83:Runner->(aa ay)->ax->af qW)(M156:Runner->ay->ax->af iA)(M160:Runner->ay->ax->af iy){n m:Nat}(hn:n<=1000000)(hm:m<=1000000){L:aa ax}(h0:L≠[])(hl:L.length<=1000000)(hq:∀q∈L,gE n m q)(c t:aH):
  1<=L.length/\qM M83 M156 M160 (mj.mk (yf 1 L) ((yf 1 L).length:Int) (0) (ax.mk [] c [] t) L[0]!)=V (mj.mk (yf 1 L) ((yf 1 L).length:Int) ((yf 1 L).length:Int) (ax.mk [] c [] t) (vT L)):=by
 cases L with
 |nil=>exact dD rfl h0
 |cons x l=>
  have hx:=hq x (zo ..);have hq2:∀q∈l,gE n m q:=λq k=>hq q (zO _ k);exact⟨by simp,Xn M83 M156 M160 hn hm (l:=l) (x:=x) (by simp at hl;omega) hx hq2 c t⟩
def OB(a:ax->ax)(t:au)(c:Int):∀(N:Nat) (s:ax),(qh a t c N s).length<=N+1
 |0,s=>by rw[qh];simp
 |n+1,s=>by
  rw[qh,zj];have:=OB a t c n (a (kK s c));split<;>split<;>simp<;>omega
def aru(M83:Runner->(aa ay)->ax->af qW)(M156:Runner->ay->ax->af iA)(M160:Runner->ay->ax->af iy){r:Runner}(hn:r.fF.ai.length<=1000000){a:ax->ax}{o:Nat}{x:ay}(hN:0<=x.fN/\x.fN<=4096)(hc:cC x.bq)(ht:eW r.fF.ai S x.aA=0)
  (ha:∀s m,gE r.fF.ai.length m s->gE r.fF.ai.length (m+o) (a s)) {s:ax} {m:Nat} (h:gE r.fF.ai.length m s) (hm:m+x.fN.toNat*o<=1000000)
  (h1:∀s m,gE r.fF.ai.length m s->m+o<=1000000->M83 r x.aM s=V (a s)):
  agn M83 M156 M160 r x s=V (vT (qh a x.aA x.bq x.fN.toNat s)):=by
 obtain⟨okAll,neAll⟩:=KH hc ht ha x.fN.toNat s m h;have lenAll:=OB a x.aA x.bq x.fN.toNat s;obtain⟨i,v,e1,⟨hi,hV1,hV2,hV3,hV4⟩,hcc⟩:=lH (rnd:=AW M83 M156 M160) x.fN.toNat (λi (b:aa ax×ax×ax)=>⟨b.1,O,x.fN,(i:Int),r,x,b.2.1,⟨[],b.2.2.aB,[],b.2.2.aI⟩⟩)
  (λi b=>i<=x.fN.toNat/\gE r.fF.ai.length (m+i*o) b.2.1/\b.1.length<=i/\b.1++qh a x.aA x.bq (x.fN.toNat-i) b.2.1=qh a x.aA x.bq x.fN.toNat s/\True) (λi b=>cK (dS b.2.1.ai x.aA)=S) (λi b hi hb=>by
  obtain⟨L,b,z⟩:=b;obtain⟨_,hb,hL,hr,_⟩:=hb;dsimp only at hb hr hL;obtain⟨k,hk⟩:∃k,x.fN.toNat-i=k+1:=⟨x.fN.toNat-i-1,by omega⟩;have hk2:x.fN.toNat-(i+1)=k:=by omega
  rw[hk,qh]at hr;have hio:i*o+o<=x.fN.toNat*o:=by
   have:=yL o (show i+1<=x.fN.toNat by omega);rw[yd,Nat.one_mul]at this;exact this
  have hw:i64.wrap ((i:Int)+1)=((i+1:Nat):Int):=by rw[aG];omega
  have i1:(i:Int)<x.fN:=by omega
  have hA:=ux hb hc;have ea:=Pt hb hc;have hsl:=hA.sl;have hln:=hA.len;have hnn:=l6 hA x.aA ht;have ev:Qv (kK b x.bq) x.aA=V (dS b.ai x.aA):=Oy hA ht;have et:=Co (a:=dS b.ai x.aA) (.inr hnn);have hz:(cK (dS b.ai x.aA)||de (dS b.ai x.aA) 0)=O:=zero_or hnn;have e:=h1 _ _ hA (by omega);have ec:=ru (s:=kK b x.bq) (by omega) (by omega);have el:(L++[kK b x.bq]).length<=1073741824:=by rw[zj,yH];omega
  by_cases hno:cK (dS b.ai x.aA)=O
  ·rw[bE hno]at hr;refine .inl ?_;have hnext:gE r.fF.ai.length (m+(i+1)*o) (a (kK b x.bq)):=by
    have:=ha _ _ hA;rw[yd,Nat.one_mul];exact this.weak (by omega)
   by_cases hh:de (dS b.ai x.aA) 0=O
   ·rw[bE hh]at hr;refine⟨(L++[kK b x.bq],a (kK b x.bq),z),?_,by omega,hnext,by rw[zj,yH];omega,by rw[hk2,yR];exact hr,trivial⟩;unfold AW;simp only[i1,cI,bC,au.eta,ea,ev,et,ec,el,hh,hno,bB,cB,e,ay.eta,hw]
   ·rw[bO hh,yw]at hr;have hh:de (dS b.ai x.aA) 0=S:=by simpa using hh
    refine⟨(L,a (kK b x.bq),z),?_,by omega,hnext,Nat.le_succ_of_le hL,by rw[hk2];exact hr,trivial⟩;unfold AW;simp only[i1,cI,bC,au.eta,ea,ev,et,hh,hno,bB,e,ay.eta,hw]
  ·have hno:cK (dS b.ai x.aA)=S:=by simpa using hno
   refine .inr ⟨?_,hno⟩;have hh:de (dS b.ai x.aA) 0=O:=by rw[hno]at hz;simpa using hz
   unfold AW;simp only[i1,cI,bC,au.eta,ea,ev,et,ec,el,hh,hno,bB,cB]) (λb _=>by
   unfold AW;dsimp only;rw[gh];rfl) (b:=([],s,⟨[],⟨0,0,0⟩,[],⟨0,0,0⟩⟩)) ⟨by omega,h.weak (by omega),by simp,rfl,trivial⟩
 obtain⟨L,b,z⟩:=v;dsimp only at hV1 hV2 hV3 hcc;have e1':Jo M83 M156 M160 ⟨[],O,x.fN,0,r,x,s,⟨[],⟨0,0,0⟩,[],⟨0,0,0⟩⟩⟩=V ⟨L,O,x.fN,(i:Int),r,x,b,⟨[],z.aB,[],z.aI⟩⟩:=e1;unfold agn;rw[au.eta,ay.eta,e1'];rcases hcc with rfl|⟨hi2,hno⟩
 ·rw[xS,qh]at hV3;dsimp only;rw[gh,bB];simp only[bC];rw[bE (by rw[zj,yH];omega),hV3];obtain⟨j1,j2⟩:=Ty M83 M156 M160 hn hm neAll (by omega) okAll z.aB z.aI;rw[gY,bE (by first|exact⟨rfl,j1⟩|exact⟨trivial,j1⟩),gY,j2];dsimp only;rw[gh,bB]
 ·obtain⟨k,hk⟩:∃k,x.fN.toNat-i=k+1:=⟨x.fN.toNat-i-1,by omega⟩;rw[hk,qh]at hV3;have hA:=ux hV1 hc;have ea:=Pt hV1 hc;have hio:i*o<=x.fN.toNat*o:=yL o hi;have hsl:=hA.sl;have hln:=hA.len;have hnn:=l6 hA x.aA ht;have ev:Qv (kK b x.bq) x.aA=V (dS b.ai x.aA):=Oy hA ht;have et:=Co (a:=dS b.ai x.aA) (.inr hnn);have hz:(cK (dS b.ai x.aA)||de (dS b.ai x.aA) 0)=O:=zero_or hnn;have ec:=ru (s:=kK b x.bq) (by omega) (by omega);have hh:de (dS b.ai x.aA) 0=O:=by rw[hno]at hz;simpa using hz
  rw[hh,hno,bE rfl,bO (by decide),yy]at hV3;dsimp only;rw[nH,bC,ea];dsimp only;rw[au.eta,ev];dsimp only;rw[et];dsimp only;rw[hh,hno,bC,ec];dsimp only;rw[bE (by rw[zj,yH];omega),hV3];obtain⟨j1,j2⟩:=Ty M83 M156 M160 hn hm neAll (by omega) okAll z.aB z.aI;rw[gY,bE (by first|exact⟨rfl,j1⟩|exact⟨trivial,j1⟩),gY,j2];dsimp only;rw[gh,bB];rfl
def apM(M83:Runner->(aa ay)->ax->af qW)(M156:Runner->ay->ax->af iA)(M160:Runner->ay->ax->af iy){r:Runner}(hn:r.fF.ai.length<=1000000){a b:ax->ax}{o p:Nat}{x:ay}{s:ax}{m:Nat}(h:gE r.fF.ai.length m s)(hc:eW r.fF.ai S x.aA=0)(hm:m+max o p<=1000000)
  (ha:∀s m,gE r.fF.ai.length m s->gE r.fF.ai.length (m+o) (a s)) (hb:∀s m,gE r.fF.ai.length m s->gE r.fF.ai.length (m+p) (b s))
  (h1:M83 r x.aM s=V (a s)) (h2:M83 r x.aS s=V (b s)):
  ajm M83 M156 M160 r x s=V (brA (dS s.ai x.aA) a b s):=by
 have hsl:=h.sl;have hln:=h.len;unfold ajm brA;rw[au.eta,Oy h hc];dsimp only;rw[Co (.inr (l6 h x.aA hc))];have ec:=ru (s:=s) (by omega) (by omega);have ej:=ack ((ha _ _ h).weak (show m+o<=m+max o p by omega)) ((hb _ _ h).weak (show m+p<=m+max o p by omega)) hn hm;dsimp only;cases de (dS s.ai x.aA) 0 with
 |false=>simp only[bB,bC,h1,cB]
 |true=>
  cases cK (dS s.ai x.aA)with
  |false=>simp only[bB,bC,h2,cB,gG,Bool.true_eq_false]
  |true=>simp only[bB,bC,h1,h2,ec,ej,gG,Bool.true_eq_false]
def aA6(M83:Runner->(aa ay)->ax->af qW)(M156:Runner->ay->ax->af iA)(M160:Runner->ay->ax->af iy){r:Runner}(hn:r.fF.ai.length<=1000000)(hh:r.ak.length=r.fF.ak.length)(hvn:∀i,i<r.ak.length->NN r.ak[i]!)
  {top:Bool} {l:aa ay} (hl:l.length<=1000000) (hc:ct r.fF top l=0) {s:ax} {m:Nat} (h:gE r.fF.ai.length m s) (hm:m+iW l<=1000000)
  (h1:∀x∈l,∀s m,x.cn=3->gE r.fF.ai.length m s->m+max (iW x.aM) (iW x.aS)<=1000000->M160 r x s=V (brA (dS s.ai x.aA) (kg r.fF r.ak x.aM) (kg r.fF r.ak x.aS) s))
  (h3:∀x∈l,∀s m,x.cn=4->gE r.fF.ai.length m s->m+x.fN.toNat*iW x.aM<=1000000->M156 r x s=V (vT (qh (kg r.fF r.ak x.aM) x.aA x.bq x.fN.toNat s))):
  s83 M83 M156 M160 r l s=V (kg r.fF r.ak l s):=by
 obtain⟨v,e1,hV⟩:=dc (rnd:=TU M83 M156 M160) l.length (λi (b:ax×ax)=>⟨l,(l.length:Int),(i:Int),r,b.1,⟨[],b.2.aB,[],b.2.aI⟩⟩)
  (λi b=>(∃k,gE r.fF.ai.length k b.1/\k+iW (l.drop i)<=1000000)/\ct r.fF top (l.drop i)=0/\kg r.fF r.ak (l.drop i) b.1=kg r.fF r.ak l s) (λi b hi hb=>by
  obtain⟨b,z⟩:=b;obtain⟨⟨k,hb,hk⟩,hst,hr⟩:=hb;dsimp only at hb hr;rw[drop_cons hi]at hk hst hr;rw[HK]at hr;have hmem:=bh hi;generalize hx:l[i]! =x at*;obtain⟨g1,g2,g3,g4⟩:=jM hst;have ho:=uE g1;have p1:=(jR r.fF _ _ _ (zJ _) g2).1;have p2:=(jR r.fF _ _ _ (zJ _) g3).1;have aT:=jP hh hvn _ x.aM S (zJ _) g2;have aE:=jP hh hvn _ x.aS S (zJ _) g3;rw[HF hst]at hk;have hnext:=Ml hh hvn ho p1 p2 aT aE hb;refine⟨(Hs r.fF r.ak (kg r.fF r.ak x.aM) (kg r.fF r.ak x.aS) x b,z),?_,⟨_,hnext,by omega⟩,g4,hr⟩;have hw:=fu hi hl;have i1:(i:Int)<(l.length:Int):=by omega
  have i2:(0:Int)<=(i:Int):=by omega
  have hcost:=Eo ho;unfold TU;dsimp only;simp only[ze,i1,i2,hx,cI,bC,cT,cB,ay.eta,au.eta,hw];unfold Hs;by_cases d4:x.cn=4
  ·have hN:=ho.n4 d4;have eu:(uO x).1.toNat=x.fN.toNat*iW x.aM:=by
    unfold uO;simp only[d4,Int.reduceEq,cB,gG];rw[iW,Int.toNat_mul hN.1 p1]
   have e:=h3 x hmem b k d4 hb (by omega);simp only[d4,Int.reduceEq,cI,bC,cB,e]
  have ea:=Pt hb hcost;have hA:=ux hb hcost;have ev:Qv (kK b x.bq) x.aA=V (dS b.ai x.aA):=Oy hA ho.term;have hnn:NN (dS b.ai x.aA):=l6 hb x.aA ho.term;simp only[d4,ep,bB,ea,gG];by_cases d0:x.cn=0
  ·obtain⟨v1,v2⟩:=ho.var (.inl d0);simp only[d0,Int.reduceEq,cI,ep,bC,bB,cB,gG,ev,XZ hA hn (by omega) v1 v2 hnn]
  by_cases d1:x.cn=1
  ·have e:=apz hA hn (by omega) hnn;simp only[d1,Int.reduceEq,cI,ep,bC,bB,cB,gG,ev,e]
  by_cases d5:x.cn=5
  ·obtain⟨v1,v2⟩:=ho.var (.inr d5);obtain⟨n1,n2⟩:=ho.n5 d5;have hlt:x.fN.toNat<r.ak.length:=by omega
   have e:=XZ hA hn (by omega) v1 v2 (hvn _ hlt);simp only[d5,Int.reduceEq,cI,ep,bC,bB,cB,gG];rw[gY,e]
  by_cases d3:x.cn=3
  ·have eu:(uO x).1.toNat=max (iW x.aM) (iW x.aS):=by
    unfold uO iW;simp only[d3,Int.reduceEq,cB,gG];omega
   have e:=h1 x hmem (kK b x.bq) k d3 hA (by omega);simp only[d3,Int.reduceEq,cI,ep,bC,bB,cB,gG,e];rfl
  by_cases d6:x.cn=6
  ·obtain⟨_,q2,q3,q4,q5⟩:=ho.amn d6;have e:=(CX (a:=Gg 8 b.aI (fK x.bq)) hA.time q4 (by omega) (Uv q2 q3 q4 q5)).1;have e:Mk (kK b x.bq).aI x.aJ=_:=e;simp only[d6,Int.reduceEq,cI,ep,bC,bB,cB,gG];rw[e];rfl
  ·simp only[d0,d1,d3,d5,d6,ep,bB,gG]) (λb _=>by unfold TU;simp) (b:=(s,⟨[],⟨0,0,0⟩,[],⟨0,0,0⟩⟩)) ⟨⟨m,h,by rw[List.drop_zero];exact hm⟩,by rw[List.drop_zero];exact hc,by rw[List.drop_zero]⟩
 obtain⟨b,z⟩:=v;have e1':UD M83 M156 M160 ⟨l,(l.length:Int),0,r,s,⟨[],⟨0,0,0⟩,[],⟨0,0,0⟩⟩⟩=V ⟨l,(l.length:Int),(l.length:Int),r,b,⟨[],z.aB,[],z.aI⟩⟩:=e1;have hr:=hV.2.2;dsimp only at hr;rw[List.drop_length,Nh]at hr;unfold s83;rw[e1',<-hr];dsimp only;rw[gh,bB]
def AE{f:aN}{x:ay}:∀{top:Bool} {l:aa ay},ct f top l=0->x∈l->ct f S x.aM=0/\ct f S x.aS=0
 |_,[],_,h=>by cases h
 |top,y::l,hc,h=>by
  obtain⟨h1,h2,h3,h4⟩:=jM hc;rcases zD.1 h with rfl|h
  ·exact⟨h2,h3⟩
  ·exact AE h4 h
def amR{r:Runner}(hn:r.fF.ai.length<=1000000)(hh:r.ak.length=r.fF.ak.length)(hvn:∀i,i<r.ak.length->NN r.ak[i]!):∀n:Nat,
  (∀(top:Bool) (l:aa ay) (s:ax) (m:Nat),2*zg l<n->fO l<=1000000->ct r.fF top l=0->gE r.fF.ai.length m s->m+iW l<=1000000->Vn n r l s=V (kg r.fF r.ak l s))/\
  (∀(x:ay) (s:ax) (m:Nat),2*zg x.aM+1<n->fO x.aM<=1000000->(0<=x.fN/\x.fN<=4096)->cC x.bq->eW r.fF.ai S x.aA=0->ct r.fF S x.aM=0->gE r.fF.ai.length m s->m+x.fN.toNat*iW x.aM<=1000000->Eh n r x s=V (vT (qh (kg r.fF r.ak x.aM) x.aA x.bq x.fN.toNat s)))/\
  (∀(x:ay) (s:ax) (m:Nat),2*zg x.aM+1<n->2*zg x.aS+1<n->fO x.aM<=1000000->fO x.aS<=1000000->eW r.fF.ai S x.aA=0->ct r.fF S x.aM=0->ct r.fF S x.aS=0->gE r.fF.ai.length m s->m+max (iW x.aM) (iW x.aS)<=1000000->CP n r x s=V (brA (dS s.ai x.aA) (kg r.fF r.ak x.aM) (kg r.fF r.ak x.aS) s))
 |0=>⟨λ_ _ _ _ h=>by omega,λ_ _ _ h=>by omega,λ_ _ _ h=>by omega⟩
 |n+1=>by
  obtain⟨i1,i2,i3⟩:=amR hn hh hvn n;refine⟨λtop l s m h hN hc hs hm=> ?_,λx s m h hN hx hc ht hst hs hm=> ?_,λx s m h h' hN hN' ht hst hst' hs hm=> ?_⟩
  ·refine aA6 (Vn n) (Eh n) (CP n) hn hh hvn (zK (kD l) hN) hc hs hm (λx hx s m h3 hs hm=> ?_) (λx hx s m h4 hs hm=> ?_)
   ·have:=bt hx;have:=UC hx;obtain⟨_,k⟩:=Dt hc hx;obtain⟨k1,k2⟩:=AE hc hx;exact i3 x s m (by omega) (by omega) (by omega) (by omega) k.term k1 k2 hs hm
   ·have:=(bt hx).1;obtain⟨_,k⟩:=Dt hc hx;obtain⟨k1,k2⟩:=AE hc hx;exact i2 x s m (by omega) (zK (UC hx).1 hN) (k.n4 h4) (Eo k) k.term k1 hs hm
  ·refine aru (Vn n) (Eh n) (CP n) hn hx hc ht (jP hh hvn _ x.aM S (zJ _) hst) hs hm (λs m hs hm=>i1 S x.aM s m (by omega) hN hst hs hm)
  ·exact apM (Vn n) (Eh n) (CP n) hn hs ht hm (jP hh hvn _ x.aM S (zJ _) hst) (jP hh hvn _ x.aS S (zJ _) hst') (i1 S x.aM s m (by omega) hN hst hs (by omega)) (i1 S x.aS s m (by omega) hN' hst' hs (by omega))
def awQ{r:Runner}(hn:r.fF.ai.length<=1000000)(hh:r.ak.length=r.fF.ak.length)(hvn:∀i,i<r.ak.length->NN r.ak[i]!){top:Bool}{l:aa ay}{s:ax}{m:Nat}(hN:fO l<=1000000)(hc:ct r.fF top l=0)(hs:gE r.fF.ai.length m s)(hm:m+iW l<=1000000):r83 r l s=V (kg r.fF r.ak l s):=
 fe (2*zg l+1) λn h=>(amR hn hh hvn n).1 top l s m (by omega) hN hc hs hm
def kd(k:Int)(v:aX):Bool:=J (v.bz=k)
def dZ(vars:aa aX)(k:Int)(i:Nat):Nat:=((vars.take i).filter (kd k)).length
def kT{vars:aa aX}{i:Nat}(h:i<vars.length)(k:Int):dZ vars k (i+1)=dZ vars k i+if vars[i]!.bz=k then 1 else 0:=by
 unfold dZ;rw[bK h,y7,zj];by_cases hk:vars[i]!.bz=k
 ·rw[bE hk];simp only[yU,xZ,kd,hk,cI,cB,yH]
 ·rw[bO hk];simp only[yU,xZ,kd,hk,ep,yA,gG,yB]
def rD(vars:aa aX)(k:Int)(i:Nat):dZ vars k i<=i:=by
 unfold dZ;exact zK (yh _ _) (by rw[zH];omega)
def rI{vars:aa aX}{k:Int}{i j:Nat}(hij:i<=j)(hj:j<=vars.length):dZ vars k i<=dZ vars k j:=by
 induction j with
 |zero=>
  have:i=0:=by omega
  subst this;exact zn _
 |succ j ih=>
  by_cases h:i=j+1
  ·subst h;exact zn _
  ·rw[kT (by omega)];have:=ih (by omega) (by omega);omega
def o4(vars:aa aX)(k:Int):dZ vars k vars.length=(vars.filter (kd k)).length:=by unfold dZ;rw[zB]
def aj9(vars:aa aX)(hl:vars.length<=1000000)(k:Int):agV vars k=V (vars.filter (kd k)):=by
 obtain⟨v,e1,hV⟩:=dc (rnd:=KA) vars.length (λi (b:aa aX)=>⟨vars,k,b,(i:Int)⟩) (λi b=>b=(vars.take i).filter (kd k)) (λi b hi hb=>by
  have hw:=fu hi hl;have i1:(i:Int)<(vars.length:Int):=by omega
  have i2:(0:Int)<=(i:Int):=by omega
  refine⟨_,?_,rfl⟩;have hlen:b.length<=1000000:=by rw[hb];exact zK (rD vars k i) (by omega)
  rw[bK hi,y7,<-hb];unfold KA;by_cases hk:vars[i]!.bz=k
  ·have h2:(b++[vars[i]!]).length<=1073741824:=by rw[zj,yH];omega
   simp only[ze,i1,i2,hk,h2,hw,cI,bC,cT,cB,kd,yU,xZ]
  ·simp only[ze,i1,i2,hk,hw,cI,ep,bC,bB,cT,cB,kd,yU,xZ,yy,yA,gG]) (λb _=>by unfold KA;simp) (b:=[]) (by simp)
 rw[zB]at hV;have e1':IA ⟨vars,k,[],0⟩=V ⟨vars,k,v,(vars.length:Int)⟩:=e1;unfold agV;rw[e1'];simp[hV]
def Ed(vars:aa aX)(hv:dg vars)(hl:vars.length<=1000000){k:Int}(hk:k=1\/k=2\/k=3):∃p,m89 vars k=V p:=by
 have hm:=aj9 vars hl k;generalize hF:vars.filter (kd k)=L at hm;have hL:∀v∈L,-1048576<=v.ag/\v.ag<=v.ah/\v.ah<=1048576:=λv h=>by rw[<-hF]at h;exact hv v (zZ.1 h).1
 have hll:L.length<=1000000:=by rw[<-hF];exact zK (yh _ _) hl
 obtain⟨v,e1,_⟩:=dc (rnd:=Se) L.length (λi (_:Unit)=>⟨L,(i:Int)⟩) (λ_ _=>True) (λi b hi _=>by
  have hw:=fu hi hll;obtain⟨q1,q2,q3⟩:=hL _ (bh hi);have i1:(i:Int)<(L.length:Int):=by omega
  have i2:(0:Int)<=(i:Int):=by omega
  refine⟨(),?_,trivial⟩;unfold Se;simp only[ze,i1,i2,hi,hw,cI,bC,cT,cB,show ¬L[i]!.ah<L[i]!.ag by omega,show ¬L[i]!.ag< -1048576 by omega,show ¬1048576<L[i]!.ah by omega,ep,bB]) (λb _=>by unfold Se;simp) (b:=()) trivial
 have e1':Tm ⟨L,0⟩=V ⟨L,(L.length:Int)⟩:=e1;have hsz:∀i,i<L.length->∀n:Int,1<=n->n<=4096->i64.wrap (n*i64.wrap (i64.wrap (L[i]!.ah-L[i]!.ag)+1))=n*(L[i]!.ah-L[i]!.ag+1)/\1<=n*(L[i]!.ah-L[i]!.ag+1):=λi hi n h1 h2=>by
  obtain⟨q1,q2,q3⟩:=hL _ (bh hi);have p1:n*(L[i]!.ah-L[i]!.ag+1)<=4096*(L[i]!.ah-L[i]!.ag+1):=zN h2 (by omega);have p2:1*(L[i]!.ah-L[i]!.ag+1)<=n*(L[i]!.ah-L[i]!.ag+1):=zN h1 (by omega);rw[aG (n:=L[i]!.ah-L[i]!.ag),aG (n:=L[i]!.ah-L[i]!.ag+1),aG];exact⟨rfl,by omega⟩
 obtain⟨i,n,e2,hI,hc⟩:=lH (rnd:=MV) L.length (λi (b:Int)=>⟨L,b,(i:Int)⟩) (λ_ b=>1<=b/\b<=4096) (λi b=>4096<b*(L[i]!.ah-L[i]!.ag+1)) (λi b hi hb=>by
  have hw:=fu hi hll;obtain⟨s1,s2⟩:=hsz i hi b hb.1 hb.2;have i1:(i:Int)<(L.length:Int):=by omega
  have i2:(0:Int)<=(i:Int):=by omega
  by_cases h:4096<b*(L[i]!.ah-L[i]!.ag+1)
  ·refine .inr ⟨?_,h⟩;unfold MV;simp only[ze,i1,i2,hi,cI,bC,cT,cB,s1,h]
  ·refine .inl ⟨b*(L[i]!.ah-L[i]!.ag+1),?_,s2,by omega⟩;unfold MV;simp only[ze,i1,i2,hi,hw,cI,bC,cT,cB,s1,h,ep,bB]) (λb _=>by unfold MV;simp) (b:=1) ⟨by omega,by omega⟩
 have e2':Uj ⟨L,1,0⟩=V ⟨L,n,(i:Int)⟩:=e2;have hk1:(bif bif J (k=0)then S else O then
   bif bif J (k=1)then S else O then
    bif bif J (k=2)then S else O then V (bif J (k=3)then S else O)else V S
   else V S
  else some false)=some false:=by rcases hk with h|h|h<;>simp[h]
 unfold m89;rw[hk1];simp only[bB,hm,e1'];rw[gh,bB,e2'];dsimp only;rcases hc with rfl|⟨hi,h⟩
 ·rw[gh];exact⟨_,rfl⟩
 ·obtain⟨s1,s2⟩:=hsz i hi n hI.1 hI.2;have i1:(i:Int)<(L.length:Int):=by omega
  have i2:(0:Int)<=(i:Int):=by omega
  simp only[ze,i1,i2,hi,cI,bC,cT,cB,s1,h];exact⟨_,rfl⟩
def WL{f:aN}(h:few f 10 80=O):fO f.bI+jA (f.ak.map (·.aA))<=80/\f.ak.length<=10/\f.ai.length<=10:=by
 unfold few at h;rw[decide_eq_true_eq]at h;omega
def Vz{f:aN}(h:oI f=0):ct f O f.bI=0:=by
 unfold oI at h;split at h
 ·cases h
 split at h
 ·exact dD h ‹_›
 split at h
 ·exact dD h ‹_›
 split at h
 ·exact dD h ‹_›
 rename_i h4;simpa using h4
def arL(f:aN)(a b c:Int):∃r,m24 f a b c=V r/\(r=O->few f 10 80=O/\oI f=0):=by
 unfold m24;rw[aq9 f 10 80 (by decide) (by decide) (by decide) (by decide)];cases hf:few f 10 80 with
 |false=>exact⟨false,rfl,λh=>by cases h⟩
 |true=>
  obtain⟨h1,h2,h3⟩:=WL hf;rw[Yz f (by omega) (by omega) (by omega)];by_cases hc:oI f=0
  ·have hv:=lC hc;obtain⟨p1,e1⟩:=Ed f.ai hv (by omega) (k:=1) (.inl rfl);obtain⟨p2,e2⟩:=Ed f.ai hv (by omega) (k:=2) (.inr (.inl rfl));obtain⟨p3,e3⟩:=Ed f.ai hv (by omega) (k:=3) (.inr (.inr rfl));have hS:Bm f.bI:=Bi f _ f.bI O (zJ _) (Vz hc);rw[e1,e2,e3,abP f.bI (by omega) hS];simp only[hc,cI,bC,bB];cases J (p1.fst<=a)<;>cases J (p2.fst<=b)<;>cases J (p3.fst<=c)<;>exact⟨_,rfl,λ_=>⟨trivial,trivial⟩⟩
  ·simp only[hc,ep,bC,bB];exact⟨false,rfl,λh=>by cases h⟩
def alI(vars:aa aX)(inp:iM)(i:Nat):Int:=
 if vars[i]!.bz=1 then inp.cW[dZ vars 1 i]! else if vars[i]!.bz=2 then inp.aU[dZ vars 2 i]! else if vars[i]!.bz=3 then inp.dx[dZ vars 3 i]! else vars[i]!.eO
structure aBT (vars:List aX) (inp:iM):Prop where
 s:inp.cW.length=dZ vars 1 vars.length
 p:inp.aU.length=dZ vars 2 vars.length
 r:inp.dx.length=dZ vars 3 vars.length
 b:∀i,i<vars.length->vars[i]!.ag<=alI vars inp i/\alI vars inp i<=vars[i]!.ah
def ng{α:Type}[Inhabited α]{c:Nat->α->Int}:∀{l:aa α} {i:Nat},cu c l i=0->∀j,j<l.length->c (i+j) l[j]! =0
 |[],_,_,j,h=>by simp at h
 |x::l,i,h,j,hj=>by
  unfold cu at h;split at h
  case isFalse h1=>exact dD h h1
  rename_i h0;cases j with
  |zero=>simpa using h0
  |succ j=>
   have:=ng h j (by simpa using hj);rw[show i+(j+1)=i+1+j by omega];exact this
def ark{f:aN}{i:Nat}{h:dB}(hc:kf f i h=0):(-1048576<=h.ag/\h.ag<=h.ah/\h.ah<=1048576)/\eW f.ai O h.aA=0:=by
 unfold kf at hc;split at hc
 ·cases hc
 split at hc
 ·cases hc
 split at hc
 ·cases hc
 rename_i hb;have hb:gP h.ag h.ah=O:=by simpa using hb
 unfold gP at hb;rw[decide_eq_true_eq]at hb;exact⟨⟨hb.2.1,hb.1,hb.2.2⟩,hc⟩
structure U3 (f:aN):Prop where
 vars:dg f.ai
 hat:∀i,i<f.ak.length->(-1048576<=f.ak[i]!.ag/\f.ak[i]!.ag<=f.ak[i]!.ah/\f.ak[i]!.ah<=1048576)/\eW f.ai O f.ak[i]!.aA=0
 steps:ct f O f.bI=0
 o:(eV f.bI).2.1<=8
 t:(eV f.bI).2.2<=67108864
def Q0{f:aN}(h:oI f=0):U3 f:=by
 have hv:=lC h;unfold oI at h;split at h
 ·cases h
 split at h
 ·exact dD h ‹_›
 split at h
 ·exact dD h ‹_›
 rename_i h3;split at h
 ·exact dD h ‹_›
 rename_i h4;split at h
 ·cases h
 rename_i h5;have h3:cu (kf f) f.ak 0=0:=by simpa using h3
 have h4:ct f O f.bI=0:=by simpa using h4
 unfold UR at h5;simp only[decide_eq_true_eq]at h5;exact⟨hv,λi hi=>ark (i:=0+i) (ng h3 i hi),h4,by omega,by omega⟩
end Go.Proofs.YtnfljbehcffmcaaGreat
end
