/- Merged: Pv2, Pv2b, Pv4, So, Hs, Ne9, Hr, Ne10, Ne30, Ha, Qv, Qw, Pv5, Pv6, Pv7, Qr, Qs, Ne31, Ne32. -/
import Derived.Test.YtnfljbehcffmcaaGreatM4AbstractCovers
import Derived.Test.YtnfljbehcffmcaaGreatM2AbstractCovers
import Derived.Shelf.Sort.Plain
import Derived.Shelf.Slices.In.SortNone
import Derived.Sort.OwnSortedInts
import Derived.Test.YtnfljbehcffmcaaGreatM3AbstractCovers
open Int renaming toNat_natCast → za, le_refl → zg, mul_nonneg → zq, mul_comm → zA, mul_le_mul_of_nonneg_right → zG, add_mul → zI, one_mul → zR, toNat → yC, le_of_lt → yN, dvd_zero → yU, le_trans → y6, mul_one → y8, le_total → xI, min_eq_right → xJ, natAbs_tmod → xK, mul_sub → xL, natCast_add → we, min_eq_left → wu, tmod_nonneg → wv, mul_tdiv_add_tmod → wI, mul_le_mul_of_nonpos_right → wJ
open Nat renaming beq → zb, lt_succ_self → zw, le_trans → zx, not_lt_zero → yD, mul_le_mul_right → yF, mod_lt → yP, lt_succ_iff_lt_or_eq → yT, mul_one → y4, sub_self → xF, div_add_mod → wk
open List renaming length → zc, length_append → zh, mem_cons_self → zi, getElem?_eq_getElem → zk, all_eq_true → zo, mem_cons → zy, mem_singleton → zC, range → zH, mem_cons_of_mem → zJ, length_map → zK, mem_map → zL, take_length → zM, length_set → zO, mem_append → zU, map_congr_left → zV, getElem?_map → zY, length_take → zZ, length_drop → z8, map_append → yc, nil_append → yg, map_cons → yh, getElem_map → yo, getElem?_drop → yw, mem_append_left → yA, mem_append_right → yB, length_singleton → yG, map_nil → y5, getElem_append_right → xg, map_drop → xj, cons_append → xw, getElem_mem → xx, getElem_append_left → xB, getElem_drop → xC, map_take → xD, take_zero → xE, attach_map_val → xO, drop_eq_getElem_cons → xR, getElem_of_mem → xS, drop_zero → xT, mem_of_mem_drop → xW, getElem_set → wg, getElem_range → wz, mem_map_of_mem → wL, mem_iff_getElem → wM
open Bool renaming cond_decide → ze, and_eq_true → zf, false_eq_true → xp, true → wO, false → wN
open Option renaming some → zF, some → V, none → O
open Decidable renaming decide → wP
open Go.Proofs.Tryz renaming prog → wQ
open Go.Proofs.Tryz
set_option linter.unusedSectionVars false
set_option linter.unusedVariables false
set_option linter.unusedSimpArgs false
set_option linter.defProp false
noncomputable section
set_option maxRecDepth 100000
namespace Go.Proofs.YtnfljbehcffmcaaGreat
open Go Go.Iv
open Go.IntKind (i64 u64)
def ace(o:Int):KO o=bW o:=by
 unfold KO bW
 simp only[ze]
 grind
def abQ(o:Int):FQ o=if o=25 then-2 else(bW o).1:=by
 unfold FQ bW
 simp only[ze]
 grind (splits:=40)
def acZ(M:List aS->aq->Bool->Option sx)(vars:List aS)(inp:Bool)(t:aq)(hM:∀k∈t.ak,M vars k inp=V (cU vars inp k)):aaJ M vars t inp=V (cU vars inp t):=by
 have key:t.ak.length<=1000000->∃i:Nat,Au M ⟨vars,inp,t.ak,(t.ak.length:Int),0⟩=V ⟨vars,inp,t.ak,(t.ak.length:Int),(i:Int)⟩/\((i=t.ak.length/\t.ak.all (cU vars inp)=wO)\/(i<t.ak.length/\cU vars inp t.ak[i]! =wN/\t.ak.all (cU vars inp)=wN)):=fun hl=>by
  obtain⟨i,e1,hc⟩:=oI (cO:=HF M) t.ak (fun i=>⟨vars,inp,t.ak,(t.ak.length:Int),(i:Int)⟩) (fun _ k=>cU vars inp k) (fun i hi=>by
   have hw:=gF hi hl
   have hk:=hM _ (aX hi)
   unfold HF
   dsimp only
   simp only[ze,za,aq.eta,hk,hw]
   cases cU vars inp t.ak[i]! <;>simp[hi]) (by unfold HF;simp)
  refine⟨i,e1,?_⟩
  rcases hc with ⟨rfl,hc⟩|⟨hi,hc⟩
  ·exact .inl ⟨rfl,DM hc⟩
  ·exact .inr ⟨hi,hc,wY hi hc⟩
 unfold aaJ
 rw[ace,lC]
 unfold BK
 by_cases hn:0<=(bW t.bf).1/\(bW t.bf).1<=t.ak.length/\(t.ak.length:Int)<=(bW t.bf).2
 ·have h33:(bW t.bf).2<=33:=by unfold bW;grind
  obtain⟨i,e,hc⟩:=key (by omega)
  rw[bP hn,bO (show ¬(bW t.bf).1<0 by omega),bO (show ¬(t.ak.length:Int)<(bW t.bf).1 by omega),bO (show ¬(bW t.bf).2<(t.ak.length:Int)by omega),e]
  generalize t.ak.all (cU vars inp)=A at hc
  simp only[ze,za,bA,Bool.true_and]
  rcases hc with ⟨rfl,rfl⟩|⟨hi,h2,rfl⟩
  ·cases inp<;>grind
  ·have hk:=hM _ (aX hi)
   simp only[aq.eta,hk,h2]
   cases inp<;>grind
 ·rw[bO hn]
  simp only[ze]
  grind
def QW(vars:List aS)(inp:Bool):∀(n:Nat) (t:aq),SizeOf.sizeOf t<n->Nq n vars t inp=V (cU vars inp t)
 |0,_,h=>by omega
 |n+1,t,h=>acZ (Nq n) vars inp t (fun k hk=>QW vars inp n k (by have:=aq.dV hk;omega))
def ahe(vars:List aS)(inp:Bool)(t:aq):adV vars t inp=V (cU vars inp t):=eE (SizeOf.sizeOf t+1) fun n hn=>QW vars inp n t (by omega)
def aa7(M:List aS->aq->Bool->Option sA)(vars:List aS)(inp:Bool)(t:aq)(hM:∀k∈t.ak,M vars k inp=V (cU vars inp k)):adb M vars t inp=V (cU vars inp t):=by
 have key:t.ak.length<=1000000->∃i:Nat,C7 M ⟨vars,inp,0,t⟩=V ⟨vars,inp,(i:Int),t⟩/\((i=t.ak.length/\t.ak.all (cU vars inp)=wO)\/(i<t.ak.length/\cU vars inp t.ak[i]! =wN/\t.ak.all (cU vars inp)=wN)):=fun hl=>by
  obtain⟨i,e1,hc⟩:=oI (cO:=HC M) t.ak (fun i=>⟨vars,inp,(i:Int),t⟩) (fun _ k=>cU vars inp k) (fun i hi=>by
   have hw:=gF hi hl
   have hk:=hM _ (aX hi)
   unfold HC
   dsimp only
   simp only[ze,za,aq.eta,hk,hw]
   cases cU vars inp t.ak[i]! <;>simp[hi]) (by unfold HC;simp)
  refine⟨i,e1,?_⟩
  rcases hc with ⟨rfl,hc⟩|⟨hi,hc⟩
  ·exact .inl ⟨rfl,DM hc⟩
  ·exact .inr ⟨hi,hc,wY hi hc⟩
 unfold adb
 rw[abQ,lC]
 unfold BK
 have hk0:(bW t.bf).1= -1\/0<=(bW t.bf).1:=by unfold bW;grind
 have hk1:t.bf≠25->(bW t.bf).1=(bW t.bf).2:=by unfold bW;grind
 have hk2:t.bf=25->bW t.bf=(2,33):=by unfold bW;grind
 have h33:(bW t.bf).2<=33:=by unfold bW;grind
 have hk3:t.bf=25->(bW t.bf).1=2/\(bW t.bf).2=33:=fun h=>by rw[hk2 h];exact⟨rfl,rfl⟩
 generalize (bW t.bf).1=a at*
 generalize (bW t.bf).2=b at*
 by_cases hn:0<=a/\a<=t.ak.length/\(t.ak.length:Int)<=b
 ·obtain⟨i,e,hc⟩:=key (by omega)
  rw[bP hn,aq.eta,e]
  generalize t.ak.all (cU vars inp)=A at hc
  simp only[ze,za,Bool.true_and]
  rcases hc with ⟨rfl,rfl⟩|⟨hi,h2,rfl⟩
  ·cases inp<;>grind
  ·have hk:=hM _ (aX hi)
   simp only[aq.eta,hk,h2]
   clear hM key e hk h2 hk2 hk0
   by_cases h25:t.bf=25
   ·rw[bw h25,h25]
    cases inp<;>grind (splits:=30)
   ·rw[bF h25]
    have:=hk1 h25
    subst this
    rw[bF (show ¬a= -1 by omega),bw (show 0<=a by omega),bw (show (t.ak.length:Int)=a by omega),bF (show ¬a= -2 by omega)]
    dsimp only[bA,bE]
    cases inp<;>grind (splits:=30)
 ·rw[bO hn]
  simp only[ze]
  grind
def SY(vars:List aS)(inp:Bool):∀(n:Nat) (t:aq),SizeOf.sizeOf t<n->ND n vars t inp=V (cU vars inp t)
 |0,_,h=>by omega
 |n+1,t,h=>aa7 (ND n) vars inp t (fun k hk=>SY vars inp n k (by have:=aq.dV hk;omega))
def agJ(vars:List aS)(inp:Bool)(t:aq):agb vars t inp=V (cU vars inp t):=eE (SizeOf.sizeOf t+1) fun n hn=>SY vars inp n t (by omega)
def rS(s:Span):Prop:= -1048576<=s.af/\s.af<=s.aa/\s.aa<=1048576
def Cv(a b:Span):Ui a b=dA a b:=rfl
def mj{a b:Int}(h1: -1048576<=a)(h2:a<=1048576)(h3: -1048576<=b)(h4:b<=1048576): -1099511627776<=a*b/\a*b<=1099511627776:=by
 have e1:(1048576-a)*(1048576-b)≥0:=zq (by omega) (by omega)
 have e2:(1048576+a)*(1048576+b)≥0:=zq (by omega) (by omega)
 have e3:(1048576-a)*(1048576+b)≥0:=zq (by omega) (by omega)
 have e4:(1048576+a)*(1048576-b)≥0:=zq (by omega) (by omega)
 grind
def aau(a b:Span)(ha:rS a)(hb:rS b):adK a b=V (dA (dA (dA ⟨a.af*b.af,a.af*b.af⟩ ⟨a.af*b.aa,a.af*b.aa⟩) ⟨a.aa*b.af,a.aa*b.af⟩) ⟨a.aa*b.aa,a.aa*b.aa⟩):=by
 unfold rS at ha hb
 have w1:Az a.af b.af=a.af*b.af:=by have:=mj (a:=a.af) (b:=b.af) (by omega) (by omega) (by omega) (by omega);exact aF
 have w2:Az a.af b.aa=a.af*b.aa:=by have:=mj (a:=a.af) (b:=b.aa) (by omega) (by omega) (by omega) (by omega);exact aF
 have w3:Az a.aa b.af=a.aa*b.af:=by have:=mj (a:=a.aa) (b:=b.af) (by omega) (by omega) (by omega) (by omega);exact aF
 have w4:Az a.aa b.aa=a.aa*b.aa:=by have:=mj (a:=a.aa) (b:=b.aa) (by omega) (by omega) (by omega) (by omega);exact aF
 unfold adK
 rw[w1,w2,w3,w4]
 generalize a.af*b.af=p
 generalize a.af*b.aa=q
 generalize a.aa*b.af=r
 generalize a.aa*b.aa=s
 have e:C3 ⟨[q,r,s],(3:Int),0,⟨0,0⟩,⟨p,p⟩⟩=V ⟨[q,r,s],3,3,⟨0,0⟩,dA (dA (dA ⟨p,p⟩ ⟨q,q⟩) ⟨r,r⟩) ⟨s,s⟩⟩:=by
  have k1:qA ⟨[q,r,s],(3:Int),0,⟨0,0⟩,⟨p,p⟩⟩=V (V ⟨[q,r,s],(3:Int),1,⟨0,0⟩,dA ⟨p,p⟩ ⟨q,q⟩⟩):=by unfold qA;simp[Cv,aF]
  have k2:qA ⟨[q,r,s],(3:Int),1,⟨0,0⟩,dA ⟨p,p⟩ ⟨q,q⟩⟩=V (V ⟨[q,r,s],(3:Int),2,⟨0,0⟩,dA (dA ⟨p,p⟩ ⟨q,q⟩) ⟨r,r⟩⟩):=by unfold qA;simp[Cv,aF]
  have k3:qA ⟨[q,r,s],(3:Int),2,⟨0,0⟩,dA (dA ⟨p,p⟩ ⟨q,q⟩) ⟨r,r⟩⟩=V (V ⟨[q,r,s],(3:Int),3,⟨0,0⟩,dA (dA (dA ⟨p,p⟩ ⟨q,q⟩) ⟨r,r⟩) ⟨s,s⟩⟩):=by unfold qA;simp[Cv,aF]
  unfold C3
  rw[bQ k1,bQ k2,bQ k3]
  exact cu fun r=>by unfold qA;simp
 rw[show (([q,r,s]:List Int).length:Int)=3 from rfl,e]
 simp
def abY{a b:Span}(ha:rS a)(hb:rS b):rS (dA a b):=by
 unfold rS dA at*
 grind
def mM:∀(l:List Span) (a:Span),rS a->(∀x∈l,rS x)->rS (l.foldl dA a)
 |[],a,ha,_=>ha
 |x::l,a,ha,h=>mM l (dA a x) (abY ha (h x (zi ..))) fun y hy=>h y (zJ _ hy)
def U3(l:List Span)(hl:l.length<=1000000)(z a:Span):DN ⟨l,(l.length:Int),0,z,a⟩=V ⟨l,(l.length:Int),(l.length:Int),z,l.foldl dA a⟩:=by
 obtain⟨v,e1,hv⟩:=dH (cO:=Jh) l.length (fun i (b:Span)=>⟨l,(l.length:Int),(i:Int),z,b⟩) (fun i b=>b=(l.take i).foldl dA a) (fun i b hi hb=>by
  have hw:=gF hi hl
  refine⟨dA b l[i]!,?_,?_⟩
  ·unfold Jh
   dsimp only
   simp only[ze,za,Cv,hw]
   grind
  ·rw[bS hi,List.foldl_append,hb];rfl) (fun b _=>by unfold Jh;simp) (b:=a) rfl
 rw[zM]at hv
 rw[<-hv]
 exact e1
def uj(vars:List aS)(t:aq)(k:List Span):Prop:=(0<=(bW t.bf).1/\(bW t.bf).1<=k.length/\(k.length:Int)<=(bW t.bf).2)/\(t.bf=24->0<=t.fN/\t.fN<vars.length)/\∀s∈k,rS s
def afG(vars:List aS)(t:aq)(k:List Span)(h:uj vars t k):aaT vars t k=V (dR vars t k):=by
 obtain⟨hk,h24,hI⟩:=h
 have h0:1<=(bW t.bf).1->rS k[0]! :=fun h=>hI _ (aX (by omega))
 have h1:2<=(bW t.bf).1->rS k[1]! :=fun h=>hI _ (aX (by omega))
 have h33:(bW t.bf).2<=33:=by unfold bW;grind
 have hd:(k.drop 2).length<=1000000:=by rw[z8];omega
 have W:∀n:Int,-8796093022208<=n->n<=8796093022208->i64.wrap n=n:=fun n a b=>aF
 unfold aaT dR
 rw[U3 _ hd]
 have cs:t.bf=0\/t.bf=24\/t.bf=6\/t.bf=8\/t.bf=9\/t.bf=10\/t.bf=11\/t.bf=12\/t.bf=21\/t.bf=22\/t.bf=23\/t.bf=25\/(t.bf≠0/\t.bf≠24/\t.bf≠6/\t.bf≠8/\t.bf≠9/\t.bf≠10/\t.bf≠11/\t.bf≠12/\t.bf≠21/\t.bf≠22/\t.bf≠23/\t.bf≠25):=by omega
 rcases cs with h|h|h|h|h|h|h|h|h|h|h|h|h
 ·simp[h]
 ·simp[h,h24 h]
 ·have hl:1<=(bW t.bf).1:=by rw[h];decide
  obtain⟨a1,a2,a3⟩:=h0 hl
  have w1:i64.wrap ((0:Int)-k[0]!.aa)= -k[0]!.aa:=by rw[W _ (by omega) (by omega)];omega
  have w2:i64.wrap ((0:Int)-k[0]!.af)= -k[0]!.af:=by rw[W _ (by omega) (by omega)];omega
  have i0:(0:Int)<(k.length:Int):=by omega
  simp only[Z0,h,ze,Int.reduceEq,reduceIte,i0,w1,w2,zg,ew,cz]
 ·have hl:2<=(bW t.bf).1:=by rw[h];decide
  obtain⟨a1,a2,a3⟩:=h0 (by omega)
  obtain⟨b1,b2,b3⟩:=h1 hl
  have w1:=W (k[0]!.af+k[1]!.af) (by omega) (by omega)
  have w2:=W (k[0]!.aa+k[1]!.aa) (by omega) (by omega)
  have i0:(0:Int)<(k.length:Int):=by omega
  have i1:(1:Int)<(k.length:Int):=by omega
  simp only[Z0,h,ze,Int.reduceEq,Int.reduceLE,reduceIte,i0,i1,w1,w2,zg,ew,cz]
 ·have hl:2<=(bW t.bf).1:=by rw[h];decide
  obtain⟨a1,a2,a3⟩:=h0 (by omega)
  obtain⟨b1,b2,b3⟩:=h1 hl
  have w1:=W (k[0]!.af-k[1]!.aa) (by omega) (by omega)
  have w2:=W (k[0]!.aa-k[1]!.af) (by omega) (by omega)
  have i0:(0:Int)<(k.length:Int):=by omega
  have i1:(1:Int)<(k.length:Int):=by omega
  simp only[Z0,h,ze,Int.reduceEq,Int.reduceLE,reduceIte,i0,i1,w1,w2,zg,ew,cz]
 ·have hl:2<=(bW t.bf).1:=by rw[h];decide
  have e18:=aau _ _ (h0 (by omega)) (h1 hl)
  have i0:(0:Int)<(k.length:Int):=by omega
  have i1:(1:Int)<(k.length:Int):=by omega
  simp only[Z0,h,ze,Int.reduceEq,Int.reduceLE,reduceIte,i0,i1,e18,zg,ew,cz]
 ·have hl:2<=(bW t.bf).1:=by rw[h];decide
  obtain⟨a1,a2,a3⟩:=h0 (by omega)
  obtain⟨b1,b2,b3⟩:=h1 hl
  have w1:i64.wrap ((0:Int)-k[0]!.af)= -k[0]!.af:=by rw[W _ (by omega) (by omega)];omega
  have w2:i64.wrap ((0:Int)-if k[0]!.aa< -k[0]!.af then-k[0]!.af else k[0]!.aa)= -(if k[0]!.aa< -k[0]!.af then-k[0]!.af else k[0]!.aa):=by split<;>(rw[W _ (by omega) (by omega)];omega)
  have i0:(0:Int)<(k.length:Int):=by omega
  have i1:(1:Int)<(k.length:Int):=by omega
  simp only[Z0,h,ze,Int.reduceEq,Int.reduceLE,reduceIte,i0,i1,w1,w2,zg,ew,cz]
  by_cases c1:(0:Int)<=k[0]!.af<;>by_cases c2:(0:Int)<=k[1]!.af<;>simp only[c1,c2,cz,dS,dx,gh,bE,bA,ew,and_true,and_false]
 ·have hl:2<=(bW t.bf).1:=by rw[h];decide
  obtain⟨b1,b2,b3⟩:=h1 hl
  have w1:=W (k[1]!.af+1) (by omega) (by omega)
  have w2:=W (k[1]!.aa-1) (by omega) (by omega)
  have i1:(1:Int)<(k.length:Int):=by omega
  simp only[Z0,h,ze,Int.reduceEq,Int.reduceLE,reduceIte,i1,w1,w2,zg,ew,cz]
  by_cases c1:k[1]!.af<0<;>by_cases c2:(0:Int)<k[1]!.aa<;>simp only[c1,c2,cz,dS]
  ·rw[jC,jC]
  ·rw[jC]
  ·rw[jC]
 ·have hl:2<=(bW t.bf).1:=by rw[h];decide
  have i0:(0:Int)<(k.length:Int):=by omega
  have i1:(1:Int)<(k.length:Int):=by omega
  simp only[Z0,h,ze,Int.reduceEq,Int.reduceLE,reduceIte,i0,i1,zg,ew,cz]
 ·have hl:2<=(bW t.bf).1:=by rw[h];decide
  have i0:(0:Int)<(k.length:Int):=by omega
  have i1:(1:Int)<(k.length:Int):=by omega
  simp only[Z0,h,ze,Int.reduceEq,Int.reduceLE,reduceIte,i0,i1,zg,ew,cz]
 ·have hl:2<=(bW t.bf).1:=by rw[h];decide
  have i1:(1:Int)<(k.length:Int):=by omega
  have i2:(2:Int)<=(k.length:Int):=by omega
  simp only[Z0,h,ze,Int.reduceEq,Int.reduceLE,reduceIte,i1,i2,zg,ew,cz,Int.lt_irrefl,dS,true_or]
 ·have hl:2<=(bW t.bf).1:=by rw[h];decide
  have i1:(1:Int)<(k.length:Int):=by omega
  have i2:(2:Int)<=(k.length:Int):=by omega
  simp only[Z0,h,ze,Int.reduceEq,Int.reduceLE,reduceIte,i1,i2,zg,ew,cz,Int.lt_irrefl,dS,or_true]
 ·obtain⟨c1,c2,c3,c4,c5,c6,c7,c8,c9,c18,c11,c12⟩:=h
  simp only[c1,c2,c3,c4,c5,c6,c7,c8,c9,c18,c11,c12,ze,dS,or_self]
def YW(vars:List aS)(hv:bX vars)(t:aq)(k:List Span)(h:uj vars t k):(dR vars t k).af<=(dR vars t k).aa:=by
 obtain⟨hk,h24,hI⟩:=h
 have h0:1<=(bW t.bf).1->rS k[0]! :=fun h=>hI _ (aX (by omega))
 have h1:2<=(bW t.bf).1->rS k[1]! :=fun h=>hI _ (aX (by omega))
 unfold dR
 have cs:t.bf=0\/t.bf=24\/t.bf=6\/t.bf=8\/t.bf=9\/t.bf=10\/t.bf=11\/t.bf=12\/t.bf=21\/t.bf=22\/t.bf=23\/t.bf=25\/(t.bf≠0/\t.bf≠24/\t.bf≠6/\t.bf≠8/\t.bf≠9/\t.bf≠10/\t.bf≠11/\t.bf≠12/\t.bf≠21/\t.bf≠22/\t.bf≠23/\t.bf≠25):=by omega
 rcases cs with h|h|h|h|h|h|h|h|h|h|h|h|h
 ·simp[h]
 ·have hm:vars[t.fN.toNat]!∈vars:=aX (by have:=h24 h;omega)
  have:=hv _ hm
  simp only[h,Int.reduceEq,reduceIte]
  omega
 ·obtain⟨a1,a2,a3⟩:=h0 (by rw[h];decide)
  simp only[h,Int.reduceEq,reduceIte]
  omega
 ·obtain⟨a1,a2,a3⟩:=h0 (by rw[h];decide)
  obtain⟨b1,b2,b3⟩:=h1 (by rw[h];decide)
  simp only[h,Int.reduceEq,reduceIte]
  omega
 ·obtain⟨a1,a2,a3⟩:=h0 (by rw[h];decide)
  obtain⟨b1,b2,b3⟩:=h1 (by rw[h];decide)
  simp only[h,Int.reduceEq,reduceIte]
  omega
 ·simp only[h,Int.reduceEq,reduceIte,dA]
  generalize k[0]!.af*k[1]!.af=p
  generalize k[0]!.af*k[1]!.aa=q
  generalize k[0]!.aa*k[1]!.af=r
  generalize k[0]!.aa*k[1]!.aa=s
  grind
 ·obtain⟨a1,a2,a3⟩:=h0 (by rw[h];decide)
  simp only[h,Int.reduceEq,reduceIte]
  grind
 ·simp only[h,Int.reduceEq,reduceIte]
  grind
 ·obtain⟨a1,a2,a3⟩:=h0 (by rw[h];decide)
  obtain⟨b1,b2,b3⟩:=h1 (by rw[h];decide)
  simp only[h,Int.reduceEq,reduceIte]
  grind
 ·obtain⟨a1,a2,a3⟩:=h0 (by rw[h];decide)
  obtain⟨b1,b2,b3⟩:=h1 (by rw[h];decide)
  simp only[h,Int.reduceEq,reduceIte]
  grind
 ·have:=mM (k.drop 2) k[1]! (h1 (by rw[h];decide)) fun x hx=>hI x (xW hx)
  simp only[h,Int.reduceEq,reduceIte,true_or,cz]
  exact this.2.1
 ·have:=mM (k.drop 2) k[1]! (h1 (by rw[h];decide)) fun x hx=>hI x (xW hx)
  simp only[h,Int.reduceEq,reduceIte,or_true,cz]
  exact this.2.1
 ·obtain⟨c1,c2,c3,c4,c5,c6,c7,c8,c9,c18,c11,c12⟩:=h
  simp only[c1,c2,c3,c4,c5,c6,c7,c8,c9,c18,c11,c12,dS,or_self]
  decide
def jO:∀{l:List (Option Span)} {r:List Span},jE l=V r->l=r.map V
 |[],r,h=>by unfold jE at h;cases h;rfl
 |none::l,r,h=>by unfold jE at h;cases h
 |some s::l,r,h=>by
  unfold jE at h
  cases hl:jE l with
  |none=>rw[hl]at h;cases h
  |some q=>rw[hl]at h;cases h;rw[jO hl];rfl
def KY(l:List Span):jE (l.map V)=V l:=by
 induction l with
 |nil=>rfl
 |cons s l ih=>rw[yh,jE,ih]
def Bo:∀{l:List (Option Span)},O∈l->jE l=O
 |none::l,h=>rfl
 |some s::l,h=>by
  unfold jE
  rw[Bo (by simpa using h)]
def Ga{vars:List aS}{inp:Bool}{t:aq}{k:List Span}(hf:BK vars inp t=wO)(hl:k.length=t.ak.length)(hI:∀s∈k,rS s):uj vars t k:=by
 unfold BK at hf
 refine⟨?_,?_,hI⟩
 ·rw[hl]
  simp only[zf,decide_eq_true_eq]at hf
  exact hf.1
 ·intro h
  rw[h]at hf
  simp at hf
  exact hf.2.1
def agD(vars:List aS)(hv:bX vars)(inp:Bool)(t:aq)(s:Span)(hf:cU vars inp t=wO)(h:eB vars t=V s):rS s:=by
 have key:∀(n:Nat) (t:aq) (s:Span),SizeOf.sizeOf t<n->cU vars inp t=wO->eB vars t=V s->rS s:=by
  intro n
  induction n with
  |zero=>intro t s h;omega
  |succ n ih=>
   intro t s hz hf h
   rw[lC,zf,zo]at hf
   rw[kN]at h
   cases ha:jE (t.ak.map (eB vars))with
   |none=>rw[ha]at h;cases h
   |some k=>
    rw[ha]at h
    dsimp only at h
    have hm:=jO ha
    have hl:k.length=t.ak.length:=by have:=congrArg zc hm;simpa using this.symm
    have hI:∀s∈k,rS s:=fun x hx=>by
     have:V x∈t.ak.map (eB vars):=by rw[hm];exact wL hx
     obtain⟨c,hc,e⟩:=zL.1 this
     exact ih c x (by have:=aq.dV hc;omega) (hf.2 c hc) e
    have ho:=YW vars hv t k (Ga hf.1 hl hI)
    split at h
    ·rename_i hlim
     cases h
     unfold sC at hlim
     unfold rS
     grind
    ·cases h
 exact key _ t s (zw _) hf h
def ve(vars:List aS)(t:aq):Span×Bool:=match jE (t.ak.map (eB vars))with
 |none=>(⟨0,0⟩,wN)
 |some l=>(dR vars t l,sC (dR vars t l))
def J7(vars:List aS)(t:aq):eB vars t=if(ve vars t).2=wO then V (ve vars t).1 else O:=by
 rw[kN,ve]
 cases jE (t.ak.map (eB vars))<;>rfl
def qZ{vars:List aS}(hv:bX vars){inp:Bool}{t:aq}{k:List Span}(hf:cU vars inp t=wO)(ha:jE (t.ak.map (eB vars))=V k):uj vars t k:=by
 rw[lC,zf,zo]at hf
 have hm:=jO ha
 refine Ga hf.1 (by have:=congrArg zc hm;simpa using this.symm) fun x hx=> ?_
 have:V x∈t.ak.map (eB vars):=by rw[hm];exact wL hx
 obtain⟨c,hc,e⟩:=zL.1 this
 exact agD vars hv inp c x (hf.2 c hc) e
def LI{vars:List aS}{inp:Bool}{t:aq}(hf:cU vars inp t=wO):t.ak.length<=33:=by
 rw[lC,zf]at hf
 have:=hf.1
 unfold BK at this
 have h33:(bW t.bf).2<=33:=by unfold bW;grind
 simp only[zf,decide_eq_true_eq]at this
 omega
def j7{vars:List aS}{inp:Bool}{t k:aq}(hf:cU vars inp t=wO)(hk:k∈t.ak):cU vars inp k=wO:=by
 rw[lC,zf,zo]at hf
 exact hf.2 k hk
def abw(M:List aS->aq->Option sF)(vars:List aS)(hv:bX vars)(inp:Bool)(t:aq)(hf:cU vars inp t=wO)(hM:∀k∈t.ak,M vars k=V (ve vars k)):abS M vars t=V (ve vars t):=by
 have h33:=LI hf
 obtain⟨i,b,e1,hI,hc⟩:=oK (cO:=Ep M) t.ak.length (fun i (b:List Span)=>⟨vars,b,t.ak,(t.ak.length:Int),(i:Int),t,⟨0,0⟩⟩) (fun i b=>(t.ak.take i).map (eB vars)=b.map V) (fun i _=>(ve vars t.ak[i]!).2=wN) (fun i b hi hb=>by
  have hw:=gF hi (by omega)
  have hk:=hM _ (aX hi)
  have hlen:b.length=i:=by have:=congrArg zc hb;simp at this;omega
  cases hx:(ve vars t.ak[i]!).2 with
  |true=>
   refine .inl ⟨b++[(ve vars t.ak[i]!).1],?_,?_⟩
   ·have hl2:(b++[(ve vars t.ak[i]!).1]).length<=1073741824:=by simp;omega
    unfold Ep
    dsimp only
    simp only[za,aq.eta,hk,hx,hl2,hw,cz,bE,bA]
    simp[hi]
   ·rw[bS hi,yc,hb,yc]
    congr 1
    rw[yh,yh,J7,bw hx]
    rfl
  |false=>
   refine .inr ⟨?_,rfl⟩
   unfold Ep
   dsimp only
   simp only[za,aq.eta,hk,hx,bE,bA]
   simp[hi]) (fun b _=>by unfold Ep;simp) (b:=[]) rfl
 have e1':HX M ⟨vars,[],t.ak,(t.ak.length:Int),0,t,⟨0,0⟩⟩=V ⟨vars,b,t.ak,(t.ak.length:Int),(i:Int),t,⟨0,0⟩⟩:=e1
 unfold abS
 rw[aq.eta,e1']
 dsimp only
 rcases hc with rfl|⟨hi,hx⟩
 ·rw[zM]at hI
  have ha:jE (t.ak.map (eB vars))=V b:=by rw[hI];exact KY b
  rw[fy,bA,aq.eta,afG vars t b (qZ hv hf ha)]
  unfold ve
  rw[ha]
  dsimp only
  unfold sC
  simp only[ze]
  grind
 ·have hk:=hM _ (aX hi)
  have ha:jE (t.ak.map (eB vars))=O:=Bo (zL.2 ⟨t.ak[i]!,aX hi,by rw[J7,hx];simp⟩)
  rw[sw,bE,bw ⟨by omega,by omega⟩]
  simp only[za,aq.eta,hk,hx,bE,bA]
  unfold ve
  rw[ha]
def Te(vars:List aS)(hv:bX vars)(inp:Bool):∀(n:Nat) (t:aq),SizeOf.sizeOf t<n->cU vars inp t=wO->OK n vars t=V (ve vars t)
 |0,_,h,_=>by omega
 |n+1,t,h,hf=>abw (OK n) vars hv inp t hf (fun k hk=>Te vars hv inp n k (by have:=aq.dV hk;omega) (j7 hf hk))
def afP(vars:List aS)(hv:bX vars)(inp:Bool)(t:aq)(hf:cU vars inp t=wO):ad3 vars t=V (ve vars t):=eE (SizeOf.sizeOf t+1) fun n hn=>Te vars hv inp n t (by omega) hf
def Cq(vars:List aS)(hv:bX vars)(inp:Bool)(t:aq):Pf vars t inp=V (eH vars inp t):=by
 unfold Pf eH
 rw[aq.eta,ahe]
 cases hf:cU vars inp t with
 |false=>rfl
 |true=>
  rw[afP vars hv inp t hf,J7]
  dsimp only
  cases (ve vars t).2<;>rfl
def Al(vars:List aS)(t:aq)(k:List Span):Span:=if t.bf=0/\(t.fN< -1048576\/1048576<t.fN)then⟨-1048577,1048577⟩else dR vars t k
def T1(vars:List aS)(t:aq)(k:List Span):sC (Al vars t k)=sC (dR vars t k)/\(sC (dR vars t k)=wO->Al vars t k=dR vars t k):=by
 unfold Al
 by_cases h:t.bf=0/\(t.fN< -1048576\/1048576<t.fN)
 ·have e:sC (dR vars t k)=wN:=by
   unfold sC dR
   rw[bw h.1]
   simp
   omega
  rw[bw h,e]
  exact⟨by decide,fun h=>by cases h⟩
 ·rw[bF h]
  exact⟨rfl,fun _=>rfl⟩
def oA(a b:Int):jF a b=if a<b then a else b:=by
 unfold jF
 simp only[ze]
def mh(a b:Int):ku a b=if b<a then a else b:=by
 unfold ku
 simp only[ze]
def gR{k:List Span}{i:Nat}(h:i<k.length):(k.map (·.af))[i]! =k[i]!.af:=by
 rw[getElem!_pos _ i (by simpa using h),getElem!_pos k i h,yo]
def fH{k:List Span}{i:Nat}(h:i<k.length):(k.map (·.aa))[i]! =k[i]!.aa:=by
 rw[getElem!_pos _ i (by simpa using h),getElem!_pos k i h,yo]
def GB(k:List Span)(hl:k.length<=1000000)(h2:2<=k.length)(a:Span):Ew ⟨k.map (·.af),k.map (·.aa),a.af,a.aa,2⟩=V ⟨k.map (·.af),k.map (·.aa),((k.drop 2).foldl dA a).af,((k.drop 2).foldl dA a).aa,(k.length:Int)⟩:=by
 have hlen:(k.drop 2).length=k.length-2:=z8 ..
 have hget:∀i,i<k.length-2->(k.drop 2)[i]! =k[i+2]! :=fun i hi=>by
  rw[getElem!_pos _ i (by omega),getElem!_pos _ (i+2) (by omega),xC]
  congr 1
  omega
 obtain⟨v,e1,hv⟩:=dH (cO:=Ic) (k.length-2) (fun i (b:Span)=>⟨k.map (·.af),k.map (·.aa),b.af,b.aa,((i+2:Nat):Int)⟩) (fun i b=>b=((k.drop 2).take i).foldl dA a) (fun i b hi hb=>by
  have hw:=gF (show i+2<k.length by omega) hl
  refine⟨dA b k[i+2]!,?_,?_⟩
  ·unfold Ic
   dsimp only
   simp only[ze,za,oA,mh,hw,zK,gR (show i+2<k.length by omega),fH (show i+2<k.length by omega)]
   unfold dA
   rw[gC,bw ⟨by omega,by omega⟩,bw ⟨by omega,by omega⟩]
   congr 3<;>grind
  ·rw[bS (by omega),List.foldl_append,hb,hget i hi];rfl) (fun b _=>by
   unfold Ic
   simp only[zK,ze]
   rw[jC]) (b:=a) rfl
 rw[<-hlen,zM]at hv
 rw[<-hv]
 rw[show k.length-2+2=k.length by omega]at e1
 exact e1
def acd(vars:List aS)(t:aq)(k:List Span)(h:uj vars t k):aeB vars t (k.map (·.af)) (k.map (·.aa))=V ((Al vars t k).af,(Al vars t k).aa):=by
 obtain⟨hk,h24,hI⟩:=h
 have h0:1<=(bW t.bf).1->rS k[0]! :=fun h=>hI _ (aX (by omega))
 have h1:2<=(bW t.bf).1->rS k[1]! :=fun h=>hI _ (aX (by omega))
 have h33:(bW t.bf).2<=33:=by unfold bW;grind
 have W:∀n:Int,-8796093022208<=n->n<=8796093022208->i64.wrap n=n:=fun n a b=>aF
 unfold aeB Al dR
 have cs:t.bf=0\/t.bf=24\/t.bf=6\/t.bf=8\/t.bf=9\/t.bf=10\/t.bf=11\/t.bf=12\/t.bf=21\/t.bf=22\/t.bf=23\/t.bf=25\/(t.bf≠0/\t.bf≠24/\t.bf≠6/\t.bf≠8/\t.bf≠9/\t.bf≠10/\t.bf≠11/\t.bf≠12/\t.bf≠21/\t.bf≠22/\t.bf≠23/\t.bf≠25):=by omega
 rcases cs with h|h|h|h|h|h|h|h|h|h|h|h|h
 ·simp only[Z0,h,ze,Int.reduceEq,reduceIte,true_and]
  grind
 ·simp[h,h24 h]
 ·have hl:1<=(bW t.bf).1:=by rw[h];decide
  obtain⟨a1,a2,a3⟩:=h0 hl
  have w1:i64.wrap ((0:Int)-k[0]!.aa)= -k[0]!.aa:=by rw[W _ (by omega) (by omega)];omega
  have w2:i64.wrap ((0:Int)-k[0]!.af)= -k[0]!.af:=by rw[W _ (by omega) (by omega)];omega
  have i0:(0:Int)<(k.length:Int):=by omega
  simp only[Z0,h,ze,Int.reduceEq,reduceIte,zK,i0,gR (show 0<k.length by omega),fH (show 0<k.length by omega),w1,w2,zg,ew,cz,false_and,dS]
 ·have hl:2<=(bW t.bf).1:=by rw[h];decide
  obtain⟨a1,a2,a3⟩:=h0 (by omega)
  obtain⟨b1,b2,b3⟩:=h1 hl
  have w1:=W (k[0]!.af+k[1]!.af) (by omega) (by omega)
  have w2:=W (k[0]!.aa+k[1]!.aa) (by omega) (by omega)
  have i0:(0:Int)<(k.length:Int):=by omega
  have i1:(1:Int)<(k.length:Int):=by omega
  simp only[Z0,h,ze,Int.reduceEq,Int.reduceLE,reduceIte,zK,gR (show 0<k.length by omega),fH (show 0<k.length by omega),gR (show 1<k.length by omega),fH (show 1<k.length by omega),i0,i1,w1,w2,zg,ew,cz,false_and,dS]
 ·have hl:2<=(bW t.bf).1:=by rw[h];decide
  obtain⟨a1,a2,a3⟩:=h0 (by omega)
  obtain⟨b1,b2,b3⟩:=h1 hl
  have w1:=W (k[0]!.af-k[1]!.aa) (by omega) (by omega)
  have w2:=W (k[0]!.aa-k[1]!.af) (by omega) (by omega)
  have i0:(0:Int)<(k.length:Int):=by omega
  have i1:(1:Int)<(k.length:Int):=by omega
  simp only[Z0,h,ze,Int.reduceEq,Int.reduceLE,reduceIte,zK,gR (show 0<k.length by omega),fH (show 0<k.length by omega),gR (show 1<k.length by omega),fH (show 1<k.length by omega),i0,i1,w1,w2,zg,ew,cz,false_and,dS]
 ·have hl:2<=(bW t.bf).1:=by rw[h];decide
  obtain⟨a1,a2,a3⟩:=h0 (by omega)
  obtain⟨b1,b2,b3⟩:=h1 hl
  have m1:=mj (a:=k[0]!.af) (b:=k[1]!.af) (by omega) (by omega) (by omega) (by omega)
  have m2:=mj (a:=k[0]!.af) (b:=k[1]!.aa) (by omega) (by omega) (by omega) (by omega)
  have m3:=mj (a:=k[0]!.aa) (b:=k[1]!.af) (by omega) (by omega) (by omega) (by omega)
  have m4:=mj (a:=k[0]!.aa) (b:=k[1]!.aa) (by omega) (by omega) (by omega) (by omega)
  have w1:=W _ (show-8796093022208<=k[0]!.af*k[1]!.af by omega) (by omega)
  have w2:=W _ (show-8796093022208<=k[0]!.af*k[1]!.aa by omega) (by omega)
  have w3:=W _ (show-8796093022208<=k[0]!.aa*k[1]!.af by omega) (by omega)
  have w4:=W _ (show-8796093022208<=k[0]!.aa*k[1]!.aa by omega) (by omega)
  have i0:(0:Int)<(k.length:Int):=by omega
  have i1:(1:Int)<(k.length:Int):=by omega
  simp only[Z0,h,ze,Int.reduceEq,Int.reduceLE,reduceIte,zK,gR (show 0<k.length by omega),fH (show 0<k.length by omega),gR (show 1<k.length by omega),fH (show 1<k.length by omega),i0,i1,w1,w2,w3,w4,zg,ew,cz,false_and,dS,oA,mh,dA]
  generalize k[0]!.af*k[1]!.af=p
  generalize k[0]!.af*k[1]!.aa=q
  generalize k[0]!.aa*k[1]!.af=r
  generalize k[0]!.aa*k[1]!.aa=s
  congr 2<;>grind
 ·have hl:2<=(bW t.bf).1:=by rw[h];decide
  obtain⟨a1,a2,a3⟩:=h0 (by omega)
  obtain⟨b1,b2,b3⟩:=h1 hl
  have z0:yC 0=0:=rfl
  have z1:yC 1=1:=rfl
  have VQ:∀x:Int,-1048576<=x->x<=1048576->Bw x=if x<0 then-x else x:=fun x q1 q2=>by
   unfold Bw
   rw[W _ (by omega) (by omega)]
   simp only[ze]
   grind
  have TT:ku (Bw k[0]!.af) (Bw k[0]!.aa)=if k[0]!.aa< -k[0]!.af then-k[0]!.af else k[0]!.aa:=by
   rw[VQ _ (by omega) (by omega),VQ _ (by omega) (by omega),mh]
   grind
  have w2:i64.wrap ((0:Int)-if k[0]!.aa< -k[0]!.af then-k[0]!.af else k[0]!.aa)= -(if k[0]!.aa< -k[0]!.af then-k[0]!.af else k[0]!.aa):=by split<;>(rw[W _ (by omega) (by omega)];omega)
  have i0:(0:Int)<(k.length:Int):=by omega
  have i1:(1:Int)<(k.length:Int):=by omega
  simp only[Z0,h,ze,Int.reduceEq,Int.reduceLE,reduceIte,zK,z0,z1,gR (show 0<k.length by omega),fH (show 0<k.length by omega),gR (show 1<k.length by omega),fH (show 1<k.length by omega),i0,i1,TT,w2,zg,ew,cz,false_and,dS]
  by_cases c1:(0:Int)<=k[0]!.af<;>by_cases c2:(0:Int)<=k[1]!.af<;>simp only[c1,c2,cz,dS,dx,gh,bE,bA,ew,and_true,and_false]
 ·have hl:2<=(bW t.bf).1:=by rw[h];decide
  obtain⟨b1,b2,b3⟩:=h1 hl
  have w1:=W (k[1]!.af+1) (by omega) (by omega)
  have w2:=W (k[1]!.aa-1) (by omega) (by omega)
  have i1:(1:Int)<(k.length:Int):=by omega
  simp only[Z0,h,ze,Int.reduceEq,Int.reduceLE,reduceIte,zK,gR (show 1<k.length by omega),fH (show 1<k.length by omega),i1,zg,ew,cz,false_and,dS,Z9,w1,w2,oA,mh]
  congr 1
  by_cases c1:k[1]!.af<0<;>by_cases c2:(0:Int)<k[1]!.aa<;>simp only[c1,c2,cz,dS,Prod.mk.injEq,and_true,true_and]<;>grind
 ·have hl:2<=(bW t.bf).1:=by rw[h];decide
  have i0:(0:Int)<(k.length:Int):=by omega
  have i1:(1:Int)<(k.length:Int):=by omega
  simp only[Z0,h,ze,Int.reduceEq,Int.reduceLE,reduceIte,zK,gR (show 0<k.length by omega),fH (show 0<k.length by omega),gR (show 1<k.length by omega),fH (show 1<k.length by omega),i0,i1,zg,ew,cz,false_and,dS,oA,mh]
  congr 2<;>grind
 ·have hl:2<=(bW t.bf).1:=by rw[h];decide
  have i0:(0:Int)<(k.length:Int):=by omega
  have i1:(1:Int)<(k.length:Int):=by omega
  simp only[Z0,h,ze,Int.reduceEq,Int.reduceLE,reduceIte,zK,gR (show 0<k.length by omega),fH (show 0<k.length by omega),gR (show 1<k.length by omega),fH (show 1<k.length by omega),i0,i1,zg,ew,cz,false_and,dS,oA,mh]
  congr 2<;>grind
 ·have hl:2<=(bW t.bf).1:=by rw[h];decide
  have i1:(1:Int)<(k.length:Int):=by omega
  have e:=GB k (by omega) (by omega) k[1]!
  simp only[Z0,h,ze,Int.reduceEq,Int.reduceLE,reduceIte,zK,gR (show 1<k.length by omega),fH (show 1<k.length by omega),e,i1,zg,ew,cz,Int.lt_irrefl,dS,true_or,false_and]
 ·have hl:2<=(bW t.bf).1:=by rw[h];decide
  have i1:(1:Int)<(k.length:Int):=by omega
  have e:=GB k (by omega) (by omega) k[1]!
  simp only[Z0,h,ze,Int.reduceEq,Int.reduceLE,reduceIte,zK,gR (show 1<k.length by omega),fH (show 1<k.length by omega),e,i1,zg,ew,cz,Int.lt_irrefl,dS,or_true,false_and]
 ·obtain⟨c1,c2,c3,c4,c5,c6,c7,c8,c9,c18,c11,c12⟩:=h
  simp only[c1,c2,c3,c4,c5,c6,c7,c8,c9,c18,c11,c12,ze,dS,or_self,false_and]
def qJ(vars:List aS)(t:aq):Int×Int×Bool:=match jE (t.ak.map (eB vars))with
 |none=>(0,0,wN)
 |some l=>((Al vars t l).af,(Al vars t l).aa,sC (Al vars t l))
def IJ(vars:List aS)(t:aq):eB vars t=if(qJ vars t).2.2=wO then V ⟨(qJ vars t).1,(qJ vars t).2.1⟩else O:=by
 rw[kN,qJ]
 cases h:jE (t.ak.map (eB vars))with
 |none=>rfl
 |some l=>
  obtain⟨h1,h2⟩:=T1 vars t l
  dsimp only
  by_cases hl:sC (dR vars t l)=wO
  ·rw[bw hl,bw (h1.trans hl),h2 hl]
  ·rw[bF hl,bF (by rw[h1];exact hl)]
def ahz(M:List aS->aq->Option sG)(vars:List aS)(hv:bX vars)(inp:Bool)(t:aq)(hf:cU vars inp t=wO)(hM:∀k∈t.ak,M vars k=V (qJ vars k)):agZ M vars t=V (qJ vars t):=by
 have h33:=LI hf
 obtain⟨i,b,e1,hI,hc⟩:=oK (cO:=Dp M) t.ak.length (fun i (b:List Span)=>⟨vars,b.map (·.af),b.map (·.aa),(i:Int),t⟩) (fun i b=>(t.ak.take i).map (eB vars)=b.map V) (fun i _=>(qJ vars t.ak[i]!).2.2=wN) (fun i b hi hb=>by
  have hw:=gF hi (by omega)
  have hk:=hM _ (aX hi)
  have hlen:b.length=i:=by have:=congrArg zc hb;simp at this;omega
  cases hx:(qJ vars t.ak[i]!).2.2 with
  |true=>
   refine .inl ⟨b++[⟨(qJ vars t.ak[i]!).1,(qJ vars t.ak[i]!).2.1⟩],?_,?_⟩
   ·have hl2:(b.map (·.af)++[(qJ vars t.ak[i]!).1]).length<=1073741824:=by simp;omega
    have hl3:(b.map (·.aa)++[(qJ vars t.ak[i]!).2.1]).length<=1073741824:=by simp;omega
    unfold Dp
    dsimp only
    simp only[za,aq.eta,hk,hx,hl2,hl3,hw,cz,bE,bA]
    simp[hi]
   ·rw[bS hi,yc,hb,yc]
    congr 1
    rw[yh,yh,IJ,bw hx]
    rfl
  |false=>
   refine .inr ⟨?_,rfl⟩
   unfold Dp
   dsimp only
   simp only[za,aq.eta,hk,hx,bE,bA]
   simp[hi]) (fun b _=>by unfold Dp;simp) (b:=[]) rfl
 have e1':Jd M ⟨vars,[],[],0,t⟩=V ⟨vars,b.map (·.af),b.map (·.aa),(i:Int),t⟩:=e1
 unfold agZ
 rw[aq.eta,e1']
 dsimp only
 rcases hc with rfl|⟨hi,hx⟩
 ·rw[zM]at hI
  have ha:jE (t.ak.map (eB vars))=V b:=by rw[hI];exact KY b
  rw[fy,bA,aq.eta,acd vars t b (qZ hv hf ha)]
  unfold qJ
  rw[ha]
  dsimp only
  unfold sC
  simp only[ze]
  grind
 ·have hk:=hM _ (aX hi)
  have ha:jE (t.ak.map (eB vars))=O:=Bo (zL.2 ⟨t.ak[i]!,aX hi,by rw[IJ,hx];simp⟩)
  rw[sw,bE,bw ⟨by omega,by omega⟩]
  simp only[za,aq.eta,hk,hx,bE,bA]
  unfold qJ
  rw[ha]
def QD(vars:List aS)(hv:bX vars)(inp:Bool):∀(n:Nat) (t:aq),SizeOf.sizeOf t<n->cU vars inp t=wO->PE n vars t=V (qJ vars t)
 |0,_,h,_=>by omega
 |n+1,t,h,hf=>ahz (PE n) vars hv inp t hf (fun k hk=>QD vars hv inp n k (by have:=aq.dV hk;omega) (j7 hf hk))
def ahg(vars:List aS)(hv:bX vars)(inp:Bool)(t:aq)(hf:cU vars inp t=wO):aaK vars t=V (qJ vars t):=eE (SizeOf.sizeOf t+1) fun n hn=>QD vars hv inp n t (by omega) hf
def CU(vars:List aS)(hv:bX vars)(inp:Bool)(t:aq):Hs vars t inp=V (eH vars inp t):=by
 unfold Hs eH
 rw[aq.eta,agJ]
 cases hf:cU vars inp t with
 |false=>rfl
 |true=>
  rw[ahg vars hv inp t hf,IJ]
  dsimp only
  cases (qJ vars t).2.2<;>rfl
def dc.eta(h:dc):dc.mk h.fName h.af h.aa h.az=h:=by cases h;rfl
def RW(l:List dc)(hl:l.length<=1000000)(v:dc):Zv l v=V (l.any fun w=>w.fName.toList==v.fName.toList):=by
 obtain⟨i,e1,hc⟩:=oI (cO:=JS) l (fun i=>⟨l,v.fName,v.af,v.aa,v.az.bf,v.az.fN,v.az.ak,(l.length:Int),(i:Int)⟩) (fun _ w=> !(w.fName.toList==v.fName.toList)) (fun i hi=>by
  have hw:=gF hi hl
  unfold JS V4
  dsimp only
  simp only[ze,za]
  grind) (by unfold JS;simp)
 have e1':Jq ⟨l,v.fName,v.af,v.aa,v.az.bf,v.az.fN,v.az.ak,(l.length:Int),0⟩=V ⟨l,v.fName,v.af,v.aa,v.az.bf,v.az.fN,v.az.ak,(l.length:Int),(i:Int)⟩:=e1
 unfold Zv ao0
 rw[e1']
 dsimp only
 rcases hc with ⟨rfl,hc⟩|⟨hi,hc⟩
 ·rw[vz fun j hj=>by have:=hc j hj;simpa using this]
  simp
 ·have hc':(l[i]!.fName.toList==v.fName.toList)=wO:=by simpa using hc
  rw[Dd hi hc']
  unfold V4
  simp only[za,hc',bE]
  simp[hi]
def Li(f:aP)(hl:f.aj.length<=1000000)(n:Nat)(hn:n<=f.aj.length)(v:dc):
  ∃i:Nat,KA ⟨n,0,f,v⟩=V ⟨n,(i:Int),f,v⟩/\((i=n/\((f.aj.take n).any fun w=>w.fName.toList==v.fName.toList)=wN)\/(i<n/\(f.aj[i]!.fName.toList==v.fName.toList)=wO/\((f.aj.take n).any fun w=>w.fName.toList==v.fName.toList)=wO)):=by
 have hlen:(f.aj.take n).length=n:=by rw[zZ];omega
 have hget:∀i,i<n->(f.aj.take n)[i]! =f.aj[i]! :=fun i hi=>by
  rw[getElem!_pos _ i (by omega),getElem!_pos _ i (by omega),List.getElem_take]
 obtain⟨i,e1,hc⟩:=oI (cO:=TD) (f.aj.take n) (fun i=>⟨(n:Int),(i:Int),f,v⟩) (fun _ w=> !(w.fName.toList==v.fName.toList)) (fun i hi=>by
  rw[hlen]at hi
  have hw:=gF hi (by omega)
  rw[hget i hi]
  unfold TD
  dsimp only
  simp only[ze,za,aq.eta,dc.eta]
  grind) (by rw[hlen];unfold TD;simp)
 refine⟨i,e1,?_⟩
 rw[hlen]at hc
 rcases hc with ⟨rfl,hc⟩|⟨hi,hc⟩
 ·exact .inl ⟨rfl,vz fun j hj=>by have:=hc j (by omega);simpa using this⟩
 ·have hc':((f.aj.take n)[i]!.fName.toList==v.fName.toList)=wO:=by simpa using hc
  exact .inr ⟨hi,by rw[<-hget i hi];exact hc',Dd (by omega) hc'⟩
def agH(t:aq):Up t=u9 t:=by
 unfold Up u9
 simp only[ze]
 grind
def ago(t:aq):LY t=u9 t:=by
 unfold LY u9
 simp only[ze]
 grind
def jH:∀(l:List Int),fJ l=wO↔∀i,i+1<l.length->l[i]! <l[i+1]!
 |[]=>by simp[fJ]
 |[a]=>by simp[fJ]
 |a::b::l=>by
  unfold fJ
  rw[zf,jH (b::l),decide_eq_true_iff]
  constructor
  ·rintro⟨h1,h2⟩ i hi
   cases i with
   |zero=>exact h1
   |succ i=>exact h2 i (by simpa using hi)
  ·intro h
   exact⟨h 0 (by simp),fun i hi=>h (i+1) (by simpa using hi)⟩
def adn(l:List Int)(hl:l.length<=1000000):Ub l=V (fJ l):=by
 obtain⟨i,e1,hc⟩:=oI (cO:=J3) l (fun i=>⟨l,(l.length:Int),(i:Int)⟩) (fun i x=>wP (i=0)||wP (l[i-1]! <x)) (fun i hi=>by
  have hw:=gF hi hl
  have hw2:i64.wrap ((i:Int)-1)=(i:Int)-1:=aF
  have hw3:((i:Int)-1).toNat=i-1:=by omega
  unfold J3
  dsimp only
  simp only[ze,za,hw,hw2,hw3]
  generalize l[i]! =y
  generalize l[i-1]! =z
  grind) (by unfold J3;simp)
 have e1':Jx ⟨l,(l.length:Int),0⟩=V ⟨l,(l.length:Int),(i:Int)⟩:=e1
 unfold Ub
 rw[e1']
 dsimp only
 rcases hc with ⟨rfl,hc⟩|⟨hi,hc⟩
 ·have:fJ l=wO:=(jH l).2 fun i hi=>by
   have:=hc (i+1) hi
   simpa using this
  rw[this]
  simp
 ·have hc':i≠0/\¬l[i-1]! <l[i]! :=by
   simp only[Bool.or_eq_false_iff,decide_eq_false_iff_not]at hc
   exact hc
  have:fJ l=wN:=by
   cases hr:fJ l with
   |false=>rfl
   |true=>
    have:=(jH l).1 hr (i-1) (by omega)
    rw[show i-1+1=i by omega]at this
    exact cQ this hc'.2
  rw[this]
  have hw2:i64.wrap ((i:Int)-1)=(i:Int)-1:=aF
  have hw3:((i:Int)-1).toNat=i-1:=by omega
  simp only[ze,za,hw2,hw3]
  revert hc'
  generalize l[i]! =y
  generalize l[i-1]! =z
  intro hc'
  grind
def abE(l:List Int)(hl:l.length<=1000000):aa2 l=V (wP (1<=l.length/\l.length<=32)&&wP ((0:Int)<=l[0]!)&&fJ l):=by
 unfold aa2
 by_cases h1:1<=l.length/\l.length<=32
 case neg=>
  rw[bO h1]
  simp only[ze]
  grind
 rw[bP h1,bO (show ¬(l.length:Int)<1 by omega),bO (show ¬32<(l.length:Int)by omega),bw (⟨zg _,by omega⟩:(0:Int)<=0/\(0:Int)<(l.length:Int))]
 have hz:l[yC 0]! =l[0]! :=rfl
 rw[hz]
 by_cases h0:(0:Int)<=l[0]!
 case neg=>
  rw[bO h0,bP (show l[0]! <0 by omega)]
  rfl
 rw[bP h0,bO (show ¬l[0]! <0 by omega)]
 dsimp only[bA]
 have hlen:(l.drop 1).length=l.length-1:=z8 ..
 have hget:∀i,i<l.length-1->(l.drop 1)[i]! =l[i+1]! :=fun i hi=>by
  rw[getElem!_pos _ i (by omega),getElem!_pos _ (i+1) (by omega),xC]
  congr 1
  omega
 obtain⟨i,e1,hc⟩:=oI (cO:=G4) (l.drop 1) (fun i=>⟨l,((i+1:Nat):Int)⟩) (fun i x=>wP (l[i]! <x)) (fun i hi=>by
  rw[hlen]at hi
  have hw:=gF (show i+1<l.length by omega) hl
  have hw2:i64.wrap (((i+1:Nat):Int)-1)=(i:Int):=by rw[aF];omega
  rw[hget i hi]
  unfold G4
  dsimp only
  simp only[ze,za,hw,hw2]
  generalize l[i+1]! =y
  generalize l[i]! =z
  grind) (by
   rw[hlen]
   unfold G4
   simp only[ze]
   rw[jC])
 have e1':Jc ⟨l,1⟩=V ⟨l,((i+1:Nat):Int)⟩:=e1
 rw[e1']
 dsimp only
 rw[hlen]at hc
 rcases hc with ⟨rfl,hc⟩|⟨hi,hc⟩
 ·have:fJ l=wO:=(jH l).2 fun i hi=>by
   have:=hc i (by omega)
   rw[hget i (by omega)]at this
   simpa using this
  rw[this,bO (show ¬(((l.length-1+1:Nat):Int)<(l.length:Int))by omega)]
  rfl
 ·rw[hget i hi]at hc
  have hc':¬l[i]! <l[i+1]! :=by simpa using hc
  have:fJ l=wN:=by
   cases hr:fJ l with
   |false=>rfl
   |true=>exact cQ ((jH l).1 hr i (by omega)) hc'
  rw[this]
  have hw2:i64.wrap (((i+1:Nat):Int)-1)=(i:Int):=by rw[aF];omega
  simp only[ze,za,hw2]
  revert hc'
  generalize l[i+1]! =y
  generalize l[i]! =z
  intro hc'
  grind
def CV(a b:Bool):(a&&b)=if a=true then b else false:=by cases a<;>rfl
def QF(f:aP)(s:au)(last:Bool):O7 f s last=V (dy f s last):=by
 have h199:s.aJ.length<=32->Ub s.aJ=V (fJ s.aJ):=fun h=>adn _ (by omega)
 have hz:s.aJ[yC 0]! =s.aJ[0]! :=rfl
 unfold O7 TX Zn YN
 rw[aq.eta,agH,hz]
 obtain⟨X,hX⟩:∃X,X=dy f s last:=⟨_,rfl⟩
 rw[<-hX]
 have hX1:X=wO↔dy f s last=wO:=by rw[hX]
 clear hX
 unfold dy tX at hX1
 generalize fJ s.aJ=R at*
 generalize u9 s.az=Z at*
 generalize f.ah[s.cP.toNat]!.bk=K at*
 generalize s.aJ[0]! =B0 at*
 generalize Ub s.aJ=M at*
 have cs:s.bN=0\/s.bN=1\/s.bN=2\/s.bN=3\/s.bN=4\/s.bN=5\/s.bN=6\/s.bN<0\/6<s.bN:=by omega
 rcases cs with h|h|h|h|h|h|h|h|h
 case inr.inr.inr.inr.inr.inr.inr.inl=>rw[bP h];dsimp only[bE];cases X<;>grind
 case inr.inr.inr.inr.inr.inr.inr.inr=>rw[bP h,fy];dsimp only[bE,bA];cases X<;>grind
 all_goals
  rw[h]at hX1 ⊢
  cases X<;>cases Z<;>simp only[Int.reduceEq,Int.reduceLT,dx,gh,bE,bA,cz,dS,ze,reduceIte,zf,decide_eq_true_eq,xp,true_iff,false_iff,not_and,and_true,and_false]at hX1 ⊢ <;>grind (splits:=40)
def XP(a b:Bool):(bif a then some b else some false)=some (a&&b):=by cases a<;>rfl
def RL(f:aP)(s:au)(last:Bool)(hb:s.aJ.length<=1000000):PU f s last=V (dy f s last):=by
 have h173:=abE s.aJ hb
 have e1:(bif wP ((s.aH.length:Int)=0)then V (wP ((s.aL.length:Int)=0))else V wN)=V (wP (s.aH.length=0/\s.aL.length=0)):=by
  have c1:((s.aH.length:Int)=0)↔s.aH.length=0:=by omega
  have c2:((s.aL.length:Int)=0)↔s.aL.length=0:=by omega
  simp only[c1,c2]
  by_cases a1:s.aH.length=0<;>by_cases a2:s.aL.length=0<;>simp[a1,a2]
 have e2:(bif wP (0<=s.cP)then bif wP (s.cP<(f.ah.length:Int))then if(0:Int)<=s.cP/\s.cP<(f.ah.length:Int)then V (wP (f.ah[s.cP.toNat]!.bk=0))else O else V wN else V wN)=V (tX f s):=by
  unfold tX
  simp only[ze]
  generalize f.ah[s.cP.toNat]!.bk=K
  by_cases a1:0<=s.cP<;>by_cases a2:s.cP<(f.ah.length:Int)<;>simp[a1,a2]
 unfold PU
 rw[aq.eta,ago,h173,e1,e2]
 dsimp only
 unfold dy
 generalize fJ s.aJ=R
 generalize u9 s.az=Z
 generalize tX f s=L1
 generalize wP (s.aH.length=0/\s.aL.length=0)=F
 generalize s.aJ[0]! =B0
 have hi:((s.aJ.length:Int)=0)↔s.aJ.length=0:=by omega
 have hi2:((s.aL.length:Int)=0)↔s.aL.length=0:=by omega
 simp only[hi,hi2]
 have cs:s.bN=0\/s.bN=1\/s.bN=2\/s.bN=3\/s.bN=4\/s.bN=5\/s.bN=6\/(s.bN≠0/\s.bN≠1/\s.bN≠2/\s.bN≠3/\s.bN≠4/\s.bN≠5/\s.bN≠6):=by omega
 rcases cs with h|h|h|h|h|h|h|⟨h0,h1,h2,h3,h4,h5,h6⟩
 case inr.inr.inr.inr.inr.inr.inr=>simp only[h0,h1,h2,h3,h4,h5,h6,gh,bA,dS]
 all_goals
  rw[h]
  simp only[Int.reduceEq,dx,gh,bE,bA,cz,dS,reduceIte]
  generalize wP (s.aJ.length=0)=b1
  generalize wP (s.cP=0)=b2
  generalize wP (s.aL.length=0)=b3
  generalize wP (1<=s.aJ.length/\s.aJ.length<=32)=b4
  generalize wP ((0:Int)<=B0)=b5
  try rw[Bool.decide_and]
  generalize wP (s.fN=0)=b6
  try generalize wP (0<=s.fN)=b7
  try generalize wP (s.fN<(f.aj.length:Int))=b8
  simp only[XP]
  first|done|(congr 1;ac_rfl)
def Sh(s:au)(hb:s.bN=6->1<=s.aJ.length/\s.aJ.length<=32):O5 s=V (tA s):=by
 unfold O5 tA
 by_cases h6:s.bN=6
 ·obtain⟨b1,b2⟩:=hb h6
  have hw:i64.wrap ((s.aJ.length:Int)-1)=(s.aJ.length:Int)-1:=aF
  have hw2:((s.aJ.length:Int)-1).toNat=s.aJ.length-1:=by omega
  rw[hw,hw2,h6]
  generalize s.aJ[s.aJ.length-1]! =B
  simp only[Int.reduceEq,Int.reduceLT,dx,gh,bE,bA,cz,dS,ze,reduceIte,CV,decide_eq_true_eq,xp]
  grind (splits:=30)
 ·rw[bO h6,bF h6]
  by_cases h2:s.bN=2
  ·rw[h2]
   simp only[Int.reduceEq,Int.reduceLT,dx,gh,bE,bA,cz,dS,ze,reduceIte,CV,decide_eq_true_eq,xp]
   grind (splits:=30)
  ·rw[bO h2,bF h2]
   simp only[Int.reduceEq,Int.reduceLT,dx,gh,bE,bA,cz,dS,ze,reduceIte,CV,decide_eq_true_eq,xp]
   grind (splits:=30)
def jr{f:aP}{s:au}{last:Bool}(h:dy f s last=wO):(s.bN=6->1<=s.aJ.length/\s.aJ.length<=32)/\(s.bN≠6->s.aJ.length=0)/\(s.bN≠3->s.bN≠4->s.aH=[])/\(s.bN≠3->s.aL=[])/\(s.bN≠4->0<=s.fN):=by
 unfold dy at h
 simp only[CV,decide_eq_true_eq]at h
 have e1:s.aH.length=0->s.aH=[]:=List.length_eq_zero_iff.1
 have e2:s.aL.length=0->s.aL=[]:=List.length_eq_zero_iff.1
 refine⟨fun h6=> ?_,fun h6=> ?_,fun h3 h4=>e1 ?_,fun h3=>e2 ?_,fun h4=> ?_⟩<;>grind (splits:=40)
abbrev asM:Type:=List Int
def d237:Td 1 asM:= .c [] [] (.r 1 1 en (sr 0 3 sn) (fun z=>z.2.1) (fun x=>((()),(x,()))))
def aq6:=(lc (qo 0) ln)
def aq2:=(sr 0 3 sn)
def NZ(b0:List Int):Option asM:=if b0.length<=1073741824 then V (b0.mergeSort fun x y=>wP (x<=y))else O
def ajO:Prop:=HY wQ 237 1 aq6 aq2 d237 (fun g=>NZ g.2.1)
def axL:aK->aK:=eY wQ 237 1 aq6 aq2 d237 (fun g=>NZ g.2.1)
def Z2(hv:ajO){F:aK}(h:bq wQ F):bq wQ (axL F):=LK hv ⟨_,func237,by kernel_rfl,by kernel_rfl⟩ (fun _=>by kernel_rfl) h
def abZ:Go.Shelf.Ren:=⟨fun|189=>237|125=>257|257=>281|128=>300|129=>301|294=>317|295=>318|296=>319|297=>320|298=>321|299=>322|216=>323|300=>324|301=>325|328=>342|329=>333|330=>334|331=>343|332=>344|215=>326|343=>354|n=>n,fun|28=>27|3=>3|46=>240|0=>0|51=>322|53=>324|4=>4|183=>316|182=>315|131=>193|5=>5|9=>9|218=>344|222=>348|228=>356|229=>297|n=>n,fun|n=>n⟩
def Srt:Go.Proofs.Lays.n189 wQ abZ where
 mixed:=by kernel_rfl
 f125:=func257.trans (congrArg V (by kernel_rfl))
 f128:=func300.trans (congrArg V (by kernel_rfl))
 f129:=func301.trans (congrArg V (by kernel_rfl))
 f189:=func237.trans (congrArg V (by kernel_rfl))
 f215:=func326.trans (congrArg V (by kernel_rfl))
 f216:=func323.trans (congrArg V (by kernel_rfl))
 f257:=func281.trans (congrArg V (by kernel_rfl))
 f294:=func317.trans (congrArg V (by kernel_rfl))
 f295:=func318.trans (congrArg V (by kernel_rfl))
 f296:=func319.trans (congrArg V (by kernel_rfl))
 f297:=func320.trans (congrArg V (by kernel_rfl))
 f298:=func321.trans (congrArg V (by kernel_rfl))
 f299:=func322.trans (congrArg V (by kernel_rfl))
 f300:=func324.trans (congrArg V (by kernel_rfl))
 f301:=func325.trans (congrArg V (by kernel_rfl))
 f328:=func342.trans (congrArg V (by kernel_rfl))
 f329:=func333.trans (congrArg V (by kernel_rfl))
 f330:=func334.trans (congrArg V (by kernel_rfl))
 f331:=func343.trans (congrArg V (by kernel_rfl))
 f332:=func344.trans (congrArg V (by kernel_rfl))
 f343:=func354.trans (congrArg V (by kernel_rfl))
 t0:=underlying0
 a0:=Tryz.isAgg0
 z0:=Tryz.sizeOf0
 v0:=Tryz.zeroValue0
 t3:=underlying3
 a3:=Tryz.isAgg3
 z3:=Tryz.sizeOf3
 v3:=Tryz.zeroValue3
 t4:=underlying4
 a4:=Tryz.isAgg4
 z4:=Tryz.sizeOf4
 v4:=Tryz.zeroValue4
 t5:=underlying5
 a5:=Tryz.isAgg5
 z5:=Tryz.sizeOf5
 v5:=Tryz.zeroValue5
 t9:=underlying9
 a9:=Tryz.isAgg9
 z9:=Tryz.sizeOf9
 v9:=Tryz.zeroValue9
 t28:=underlying27
 a28:=Tryz.isAgg27
 z28:=Tryz.sizeOf27
 v28:=Tryz.zeroValue27
 t46:=underlying240
 a46:=Tryz.isAgg240
 z46:=Tryz.sizeOf240
 v46:=Tryz.zeroValue240
 t51:=underlying322
 a51:=Tryz.isAgg322
 z51:=Tryz.sizeOf322
 v51:=Tryz.zeroValue322
 t53:=underlying324
 a53:=Tryz.isAgg324
 z53:=Tryz.sizeOf324
 v53:=Tryz.zeroValue324
 t131:=underlying193
 a131:=Tryz.isAgg193
 z131:=Tryz.sizeOf193
 v131:=Tryz.zeroValue193
 t182:=underlying315
 a182:=Tryz.isAgg315
 z182:=Tryz.sizeOf315
 v182:=Tryz.zeroValue315
 t183:=underlying316
 a183:=Tryz.isAgg316
 z183:=Tryz.sizeOf316
 v183:=Tryz.zeroValue316
 t218:=underlying344
 a218:=Tryz.isAgg344
 z218:=Tryz.sizeOf344
 v218:=Tryz.zeroValue344
 t222:=underlying348
 a222:=Tryz.isAgg348
 z222:=Tryz.sizeOf348
 v222:=Tryz.zeroValue348
 t228:=underlying356
 a228:=Tryz.isAgg356
 z228:=Tryz.sizeOf356
 v228:=Tryz.zeroValue356
 t229:=underlying297
 a229:=Tryz.isAgg297
 z229:=Tryz.sizeOf297
 v229:=Tryz.zeroValue297
def rJ{A:Nat->Prop}{w:World}{l:List Int}{us:List Value}(h1:us.length=l.length*1)(h2:∀i,i<l.length->bK A w (uni.cells 3 l[i]!) ((us.drop (i*1)).take 1)):us=l.map (Value.int .i64):=by
 apply List.ext_getElem (by simpa using h1)
 intro i q1 q2
 simp at q2
 obtain⟨g1,g2⟩:=h2 i q2
 have e:((us.drop (i*1)).take 1)[0]? =V us[i]:=by
  rw[List.getElem?_take_of_lt (by omega),yw]
  simp[q1]
 have g3:=g2 0 (.lit (.int .i64 l[i]!)) us[i] rfl e
 rw[g3.cK,yo,getElem!_pos l i q2]
def adq{A:Nat->Prop}{w:World}{l:List Int}:∀i,i<l.length->bK A w (uni.cells 3 l[i]!) (((l.map (Value.int .i64)).drop (i*1)).take 1):=fun i hi=>by
 have e:((l.map (Value.int .i64)).drop (i*1)).take 1=[Value.int .i64 l[i]!]:=by
  rw[y4,xR (by simpa using hi),List.take_succ_cons,xE,yo,getElem!_pos l i hi]
 rw[e]
 refine⟨rfl,fun j a v q1 q2=> ?_⟩
 cases j with
 |zero=>cases q1;cases q2;exact .lit _
 |succ j=>cases q1
def amN(l b:List Int)(hb:NZ l=V b):Tv wQ 237 [.own 0] [(0, .row 3 l)] 1 (kz wQ 237 1 (d237.pat b)):=by
 unfold NZ at hb
 split at hb
 case isFalse=>cases hb
 rename_i hlen
 have hbl:b=l.mergeSort fun x y=>wP (x<=y):=(zF.inj hb).symm
 have hln:b.length=l.length:=by rw[hbl,List.length_mergeSort]
 intro ρ
 have ho:kz wQ 237 1 (d237.pat b)=⟨.jB [],[(0, .row 3 b)],1⟩:=by kernel_rfl
 show Go.Iv.Fn wQ 237 [(cc.own 0).sub ρ] (aY.res ρ [(0, .row 3 l)]) _
 rw[ho,dW]
 intro w A vs hr hd hn
 obtain⟨hr1,hr2⟩:=hr
 obtain⟨v,rfl⟩:∃v,vs=[v]:=List.length_eq_one_iff.1 hr1
 have hv:v=ρ.v 0:=(hr2 0 _ v rfl rfl).cK
 subst hv
 generalize hv:ρ.v 0=v at*
 have hok:=hd.1 (.row v 3 l) (by show _∈[cH.row (ρ.v 0) 3 l];rw[hv];exact zC.2 rfl)
 obtain⟨us,h1,h2,h3⟩:=hok
 have hσ:aY.res ρ [(0, .row 3 l)]=[cH.row v 3 l]:=by show [cH.row (ρ.v 0) 3 l]=_;rw[hv]
 have hus:us=l.map (Value.int .i64):=rJ h1.1 h3
 rw[hσ]at hd hn ⊢
 have fin:∀w':World,iq w' v 3 1 b.length (b.map (Value.int .i64))->Kp (bH [cH.row v 3 l]) w w'->∃v_1 av σ',Ending.returned (Value.tuple #[])=Ending.returned v_1/\
   (∃ρ',sk 1 ρ ρ'/\av=(cc.jB (dw:=uni.dw) []).sub ρ'/\List.Perm σ' (aY.res ρ' [(0, .row 3 b)]))/\Tr ⟨w,A,bH [cH.row v 3 l]⟩ (bH [cH.row v 3 l]) [cH.row v 3 l] w σ' w'/\Rel (al ⟨w,A,bH [cH.row v 3 l]⟩ σ') w' av v_1:=fun w' hrow hk=>by
  have hbk:bH [cH.row v 3 b]=bH [cH.row v 3 l]:=rfl
  have hal:∀x,al ⟨w,A,bH [cH.row v 3 l]⟩ [cH.row v 3 l] x->al ⟨w,A,bH [cH.row v 3 l]⟩ [cH.row v 3 b] x:=fun x h=>h
  refine⟨_, .jB [],[cH.row v 3 b],rfl,⟨ρ,fun i _=>⟨rfl,rfl⟩,by simp only[cc.sub,y5],by show List.Perm _ [cH.row (ρ.v 0) 3 b];rw[hv]⟩,⟨⟨hk,?_,?_,?_⟩,hk,fun x _ h=>⟨hal x h,h.2⟩⟩,Rel.jB [] [] rfl (fun j a v q=>by cases q)⟩
  ·intro r hr
   rw[zC.1 hr]
   exact⟨b.map (Value.int .i64),hrow,fun i _=>rfl,adq⟩
  ·rw[hbk];exact hn
  ·intro x hx;exact .inl hx
 obtain⟨h1l,hcase⟩:=h1
 rcases hcase with ⟨p,hvp,hl0⟩|⟨gb,cap,cur,hvp,hg,q1,q2,q3,q4⟩
 ·have hl:l=[]:=List.length_eq_zero_iff.1 hl0
  have hbn:b=[]:=by rw[hbl,hl,List.mergeSort_nil]
  subst hvp
  refine(Go.Proofs.Any.slices_Sort_int_none Srt p 0 w).mono fun e w' he=> ?_
  obtain⟨rfl,rfl⟩:=he
  refine fin w' ?_ (Kp.refl _ _)
  rw[hbn]
  exact⟨rfl, .inl ⟨p,rfl,rfl⟩⟩
 ·subst hvp
  have hgs:gb<w.heap.size:=(Array.getElem?_eq_some_iff.1 hg).1
  have q4:cur.toList.take (l.length*1)=us:=q4
  have q3:cur.size=(cap+1)*1:=q3
  rw[y4]at q4
  have q1:l.length<=cap+1:=q1
  have hbc:b.length<=cap+1:=by rw[hln];exact q1
  have hH:=holds_of_blockI (ss:=l) hg (by rw[q4,hus])
  refine(Go.Proofs.Any.slices_Sort_int Srt gb 0 (cap+1) l w hH hgs (by omega)).mono fun e w' he=> ?_
  obtain⟨rfl,n,os,rfl⟩:=he
  rw[<-hbl]
  obtain⟨k1,k2,k3,k4,k5⟩:=grownBy_sortedI (w:=w) (g:=gb) (n:=n) (os:=os) b.toArray
  refine fin _ ?_ ⟨k1,k2,k3,k4,fun k hk hX=>k5 k hk (fun h=>hX ?_)⟩
  ·refine⟨by simp, .inr ⟨gb,cap,_,by rw[hln];rfl,heap_sortedI _ hg,hbc,q2,by simp[Go.Sort.putCells,q3],?_⟩⟩
   rw[y4]
   exact take_putCellsI cur b (by rw[q3,y4];exact hbc)
  ·cases h
   exact bR.2 ⟨_,zC.2 rfl,rfl⟩
def aua:ajO:=fun g b hb=>amN g.2.1 b hb
abbrev E35:Type:=List Int
def d35:Td 0 E35:= .c [] [2] (.t (cj.s 2 [] 3) (.c [] [2] (.r 0 1 (ec 2 (qo 0) en) (sr 0 3 sn) (fun z=>z.2.1) (fun x=>(((),()),(x,()))))))
def A35:=(lc (ql 3) ln)
def m35(a0:List Int):Option E35:=if a0.length<=1073741824 then V a0 else O
def al0:eG wQ dg 0 300 35 .no:=bV (l:=[]) func35 (bG (by kernel_rfl)) (by kernel_rfl) aB
def axI(x:Int)(xs:List Int):bU wQ dg 300 .no 35 [.sl 3 (x::xs)] [] 0 d35.rd=if([]++(x::xs)).length<=1073741824 then V ([]++(x::xs))else O:=by kernel_rfl
def ax7(c:Nat):bU wQ dg 300 .no 35 [.lit (.slice O 0 c)] [] 0 d35.rd=V []:=by kernel_rfl
def azt(a:Addr)(c:Nat):bU wQ dg 300 .no 35 [.lit (.slice (V a) 0 c)] [] 0 d35.rd=V []:=by kernel_rfl
def h35:HL wQ 35 A35 d35 (fun g=>m35 g.1):=fun g r h=>by
 obtain⟨a0,_⟩:=g
 have h:m35 a0=V r:=h
 cases a0 with
 |cons x xs=>exact(pH (out:=fun p=>kz wQ 35 0 (d35.pat p)) (p:=r) aR al0 d35.ok (fun p=>by kernel_rfl) (nY (by kernel_rfl)) (mc (by kernel_rfl)) ((axI x xs).trans (by rw[yg];exact h))).2
 |nil=>
  cases h
  exact RX (fun c=>(pH (out:=fun p=>kz wQ 35 0 (d35.pat p)) (p:=[]) aR al0 d35.ok (fun p=>by kernel_rfl) (nY (by kernel_rfl)) (mc (by kernel_rfl)) (ax7 c)).2) (fun a c=>(pH (out:=fun p=>kz wQ 35 0 (d35.pat p)) (p:=[]) aR al0 d35.ok (fun p=>by kernel_rfl) (nY (by kernel_rfl)) (mc (by kernel_rfl)) (azt a c)).2)
def e35:aK->aK:=eL wQ 35 wN A35 d35 (fun g=>m35 g.1)
def X8{F:aK}(h:bq wQ F):bq wQ (e35 F):=gI (sc:=Cc) eW h35 ⟨_,func35,by kernel_rfl,by kernel_rfl⟩ (fun _=>by kernel_rfl) (fun _=>by kernel_rfl) h
structure lq where
 t21:List Int
 (t22 t23:Int)
 (b0 b1 b2:aI)
def Qc:Td 0 lq:= .c [] [2,4,7,21,22,23] (.r 0 4 (ec 2 (qp 0 0) (ec 4 (qp 1 0) (ec 7 (qp 2 0) (ec 21 (qo 3) (ec 22 aM (ec 23 aM en)))))) (sb 0 34 (lg 34) (sb 1 34 (lg 34) (sb 2 34 (lg 34) (sr 3 3 sn)))) (fun z=>⟨z.2.2.2.2.1,z.1.2.2.2.2.1,z.1.2.2.2.2.2.1,z.2.1,z.2.2.1,z.2.2.2.1⟩) (fun x=>(((),(),(),(),x.t22,x.t23,()),(x.b0,x.b1,x.b2,x.t21,()))))
def Aq(p:lq):Option (Option lq):=
 bif wP (p.t23<p.t22)then if 0<=p.t23/\p.t23<p.t21.length then if 3=3/\p.t23.toNat<p.t21.length then bif bif jL p.t21[p.t23.toNat]! then wN else wO then V (O)else match BZ p.b0 p.t21[p.t23.toNat]! with|O=>O|V r1=>bif bif fm r1.fst then wN else wO then match lZ p.b2 (gJ p.t21[p.t23.toNat]!)with|O=>O|V r2=>V (V (lq.mk p.t21 p.t22 (i64.wrap (p.t23+1)) r1.snd p.b1 r2))else V (V (lq.mk p.t21 p.t22 (i64.wrap (p.t23+1)) r1.snd p.b1 p.b2))else O else O else V (O)
def Iq:lq->Option lq:=bI (Aq)
abbrev atz:Type:=aI×Int
def d161:Td 0 atz:= .c [] [4,5] (.r 0 1 (ec 4 (qp 0 0) (ec 5 aM en)) (sb 0 34 (lg 34) sn) (fun z=>(z.2.1,z.1.2.1)) (fun x=>(((),x.2,()),(x.1,()))))
def La(a0:aI)(a1:List Int):Option atz:=
 match tV a0 with|O=>O|V r3=>bif bif r3 then wN else wO then V (aI.mk 0 0 0,1)else match m35 a1 with|O=>O|V r4=>match NZ r4 with|O=>O|V r5=>match Iq (lq.mk r5 (↑(zc r5):Int) 0 a0 (aI.mk 0 0 0) iR)with|O=>O|V r6=>bif wP (r6.t23<r6.t22)then if 0<=r6.t23/\r6.t23<r6.t21.length then if 3=3/\r6.t23.toNat<r6.t21.length then bif bif jL r6.t21[r6.t23.toNat]! then wN else wO then V (aI.mk 0 0 0,3)else match BZ r6.b0 r6.t21[r6.t23.toNat]! with|O=>O|V r7=>bif bif fm r7.fst then wN else wO then match lZ r6.b2 (gJ r6.t21[r6.t23.toNat]!)with|O=>O|V r8=>O else O else O else O else match lZ r6.b2 r6.b0 with|O=>O|V r9=>V (r9,0)
def auT:aK->aK:=eL wQ 161 wN (lc (qg 34) (lc (ql 3) ln)) d161 (fun g=>La g.1 g.2.1)
def ac4:EO auT:=fun h=>kL (an:=(noTwo (noTwo (noTwo (noTwo (noTwo (.two (noTwo (Qc.lp Iq .no)) .no))))))) (l:=[(bg f161 0,(Qc.lp Iq .no))]) func161 (Z2 aua (jW (rM (si (ju (Iy (Cw (kQ (X8 aR))))))))) (ay (aO Qc) aB) h
def KQ{l:List Int}(h:fJ l=wO):∀{i j:Nat},i<j->j<l.length->l[i]! <l[j]! :=by
 intro i j hij hj
 induction j with
 |zero=>omega
 |succ j ih=>
  have h1:=(jH l).1 h j hj
  by_cases hi:i=j
  ·subst hi;exact h1
  ·have:=ih (by omega) (by omega)
   omega
def LF{l:List Int}(h:fJ l=wO):l.mergeSort (fun x y=>wP (x<=y))=l:=by
 apply List.mergeSort_of_pairwise
 rw[List.pairwise_iff_getElem]
 intro i j hi hj hij
 have:=KQ h hij hj
 rw[getElem!_pos l i hi,getElem!_pos l j hj]at this
 simp
 omega
def DA:List Int->Int->Int
 |[],x=>x
 |b::l,x=>if x<=b then b else DA l x
def oE(l:List Int)(b x:Int):DA (l++[b]) x=if(∃c∈l,x<=c)then DA l x else if x<=b then b else x:=by
 induction l with
 |nil=>simp[DA]
 |cons c l ih=>
  show (if x<=c then c else DA (l++[b]) x)=_
  by_cases h:x<=c
  ·rw[bw h,bw ⟨c,zi ..,h⟩]
   show c=if x<=c then c else DA l x
   rw[bw h]
  ·rw[bF h,ih]
   show _=if _ then(if x<=c then c else DA l x)else _
   rw[bF h]
   by_cases k:∃c∈l,x<=c
   ·obtain⟨d,hd,hx⟩:=k
    rw[bw ⟨d,hd,hx⟩,bw ⟨d,zJ _ hd,hx⟩]
   ·rw[bF k,bF (show ¬∃d∈c::l,x<=d from fun⟨d,hd,hx⟩=>by
     rcases zy.mp hd with rfl|hd
     ·exact h hx
     ·exact k ⟨d,hd,hx⟩)]
def aaI{l:List Int}{x:Int}(h:∃c∈l,x<=c):DA l x∈l:=by
 induction l with
 |nil=>obtain⟨c,hc,_⟩:=h;cases hc
 |cons c l ih=>
  show (if x<=c then c else DA l x)∈_
  by_cases k:x<=c
  ·rw[bw k];exact zi ..
  ·rw[bF k]
   obtain⟨d,hd,hx⟩:=h
   rcases zy.mp hd with rfl|hd
   ·exact cQ hx k
   ·exact zJ _ (ih ⟨d,hd,hx⟩)
def Hg{l:List Int}{x:Int}(h:¬∃c∈l,x<=c):DA l x=x:=by
 induction l with
 |nil=>rfl
 |cons c l ih=>
  show (if x<=c then c else DA l x)=_
  rw[bF (fun k=>h ⟨c,zi ..,k⟩),ih (fun⟨d,hd,hx⟩=>h ⟨d,zJ _ hd,hx⟩)]
def uS(a:aI)(l:List Int)(y:Int):Prop:=∃x,bz a x/\y=DA l x
def Vk{a:aI}(h:NV a){l:List Int}(hl:∀b∈l,bY b){y:Int}(k:uS a l y):bY y:=by
 obtain⟨x,hx,rfl⟩:=k
 by_cases c:∃c∈l,x<=c
 ·exact hl _ (aaI c)
 ·rw[Hg c];exact T6 h hx
structure Me (a:aI) (l:List Int) (i:Nat) (s:aI×aI):Prop where
 rest:Ex (fun x=>bz a x/\∀b∈l.take i,b<x) s.1
 out:mF (fun y=>∃x,bz a x/\(∃b∈l.take i,x<=b)/\y=DA (l.take i) x) s.2
 v:NV s.2
def Me.step{a:aI}{l:List Int}{i:Nat}{s:aI×aI}(hi:i<l.length)(hl:∀b∈l,bY b)(h:Me a l i s):
  ∃u r,BZ s.1 l[i]! =V (u,r)/\NV u/\(fm u=wO->Me a l (i+1) (r,s.2))/\(fm u=wN->Me a l (i+1) (r,cn s.2 (dL l[i]!))):=by
 obtain⟨u,r,e,p1,p2⟩:=vX h.rest.1 l[i]!
 have hb:=hl _ (aX hi)
 have mu:∀x,bz u x↔bz a x/\(∀b∈l.take i,b<x)/\x<=l[i]! :=fun x=>
  ⟨fun k=>let ⟨k1,k2⟩:=(p1.2 x).mp k;let ⟨k3,k4⟩:=(h.rest.2 x).mp k1;⟨k3,k4,k2⟩,fun⟨k1,k2,k3⟩=>(p1.2 x).mpr ⟨(h.rest.2 x).mpr ⟨k1,k2⟩,k3⟩⟩
 have tk:l.take (i+1)=l.take i++[l[i]!]:=bS hi
 have mr:Ex (fun x=>bz a x/\∀b∈l.take (i+1),b<x) r:=⟨p2.1,fun x=>by
  rw[tk]
  constructor
  ·intro k
   obtain⟨k1,k2⟩:=(p2.2 x).mp k
   obtain⟨k3,k4⟩:=(h.rest.2 x).mp k1
   refine⟨k3,fun b hb=> ?_⟩
   rcases zU.mp hb with hb|hb
   ·exact k4 b hb
   ·rw[zC.mp hb];exact k2
  ·rintro⟨k1,k2⟩
   exact(p2.2 x).mpr ⟨(h.rest.2 x).mpr ⟨k1,fun b hb=>k2 b (yA _ hb)⟩,k2 _ (yB _ (zC.mpr rfl))⟩⟩
 have eq:∀y,((∃x,bz a x/\(∃b∈l.take i,x<=b)/\y=DA (l.take i) x)\/(y=l[i]!/\∃x,bz u x))↔(∃x,bz a x/\(∃b∈l.take (i+1),x<=b)/\y=DA (l.take (i+1)) x):=fun y=>by
  rw[tk]
  constructor
  ·rintro(⟨x,k1,⟨b,hb,k2⟩,rfl⟩|⟨rfl,x,hx⟩)
   ·exact⟨x,k1,⟨b,yA _ hb,k2⟩,by rw[oE,bw ⟨b,hb,k2⟩]⟩
   ·obtain⟨k1,k2,k3⟩:=(mu x).mp hx
    exact⟨x,k1,⟨_,yB _ (zC.mpr rfl),k3⟩,by rw[oE,bF (fun⟨b,hb,k⟩=>by have:=k2 b hb;omega),bw k3]⟩
  ·rintro⟨x,k1,⟨b,hb,k2⟩,rfl⟩
   by_cases c:∃b∈l.take i,x<=b
   ·exact .inl ⟨x,k1,c,by rw[oE,bw c]⟩
   ·have k3:x<=l[i]! :=by
     rcases zU.mp hb with hb|hb
     ·exact cQ ⟨b,hb,k2⟩ c
     ·rw[<-zC.mp hb];exact k2
    refine .inr ⟨by rw[oE,bF c,bw k3],x,(mu x).mpr ⟨k1,fun b hb=> ?_,k3⟩⟩
    rcases Int.lt_or_le b x with q|q
    ·exact q
    ·exact cQ ⟨b,hb,q⟩ c
 obtain⟨t1,t2⟩:=nB h.out h.v hb (Ex.rep (P:=bz u) ⟨p1.1,fun x=>Iff.rfl⟩) p1.1
 refine⟨u,r,e,p1.1,fun k=>⟨mr,(t1 k).congr eq,h.v⟩,fun k=>⟨mr,(t2 k).congr eq,dU h.v (pQ hb)⟩⟩
def amK{l:List Int}(h:l.length<=1073741824):m35 l=V l:=by unfold m35;rw[bw h]
def YR{a:aI}(h:NV a){l:List Int}(hr:fJ l=wO)(hn:l.length<=1000000)(hl:∀b∈l,bY b):∃c,La a l=V (c,0)/\mF (uS a l) c:=by
 unfold La
 rw[eR,dX h]
 simp only[bE,bA]
 rw[amK (by omega)]
 simp only
 rw[show NZ l=V l from by unfold NZ;rw[gC,LF hr]]
 simp only
 obtain⟨⟨r,o⟩,e1,hI⟩:=dH (cO:=Aq) l.length (fun i (s:aI×aI)=>lq.mk l l.length (i:Nat) s.1 (aI.mk 0 0 0) s.2) (Me a l)
  (fun i s hi hI=>by
   obtain⟨u,r,e,vu,q1,q2⟩:=hI.step hi hl
   have hb:=hl _ (aX hi)
   have hbb:jL l[i]! =wO:=by rw[jR];exact bP hb
   unfold Aq
   simp only
   rw[sw,bE,gC,za,bw ⟨trivial,hi⟩,hbb]
   simp only[bE,bA]
   rw[e]
   simp only
   rw[gF hi hn]
   cases c:fm u with
   |true=>exact⟨(r,s.2),rfl,q1 c⟩
   |false=>
    simp only[bE,bA]
    rw[iP hI.v (.inr (show NN (gJ l[i]!)from NN.one hb.1 hb.2))]
    exact⟨(r,cn s.2 (dL l[i]!)),rfl,q2 c⟩)
  (fun s hI=>by
   unfold Aq
   simp only
   rw[fy]
   rfl) (b:=(a,cy)) ⟨⟨h,fun x=>⟨fun k=>⟨k,fun b hb=>by simp at hb⟩,fun k=>k.1⟩⟩, .none fun x ⟨_,_,⟨b,hb,_⟩,_⟩=>by simp at hb, .inl rfl⟩
 have e1:bI Aq (lq.mk l l.length 0 a (aI.mk 0 0 0) iR)=V (lq.mk l l.length (l.length:Nat) r (aI.mk 0 0 0) o):=e1
 rw[show Iq=bI Aq from rfl,e1]
 simp only
 rw[fy,bA,iP hI.v hI.rest.1]
 refine⟨_,rfl,(hI.out.join hI.rest.rep hI.v hI.rest.1).congr fun y=> ?_⟩
 rw[zM]
 constructor
 ·rintro(⟨x,k1,_,k3⟩|⟨k1,k2⟩)
  ·exact⟨x,k1,k3⟩
  ·exact⟨y,k1,(Hg fun⟨b,hb,k⟩=>by have:=k2 b hb;omega).symm⟩
 ·rintro⟨x,k1,k2⟩
  by_cases c:∃b∈l,x<=b
  ·exact .inl ⟨x,k1,c,k2⟩
  ·right
   rw[Hg c]at k2
   subst k2
   exact⟨k1,fun b hb=>by
    rcases Int.lt_or_le b y with q|q
    ·exact q
    ·exact cQ ⟨b,hb,q⟩ c⟩
structure jk where
 t1:List Int
 t9:Int
 t10:Bool
 t11:Int
 (b0 b1 b2:aI)
def NY:Td 0 jk:= .c [] [1,4,7,8,9,10,11] (.r 0 3 (ec 1 (ql 3) (ec 4 (qp 0 0) (ec 7 (qp 1 0) (ec 8 (qp 2 0) (ec 9 aM (ec 10 qb (ec 11 aM en))))))) (sb 0 34 (lg 34) (sb 1 34 (lg 34) (sb 2 34 (lg 34) sn))) (fun z=>⟨z.1.1,z.1.2.2.2.2.1,z.1.2.2.2.2.2.1,z.1.2.2.2.2.2.2.1,z.2.1,z.2.2.1,z.2.2.2.1⟩) (fun x=>((x.t1,(),(),(),x.t9,x.t10,x.t11,()),(x.b0,x.b1,x.b2,()))))
def Hf(p:jk):Option (Option jk):=
 bif wP (p.t11<p.t1.length)then if 0<=p.t11/\p.t11<p.t1.length then bif wP (((p.t1,(),(),(),p.t9,p.t10,p.t11,()),p.b0,p.b1,p.b2,()).snd.snd.snd.fst.af<=((p.t1,(),(),(),p.t9,p.t10,p.t11,()),p.b0,p.b1,p.b2,()).fst.fst[((p.t1,(),(),(),p.t9,p.t10,p.t11,()),p.b0,p.b1,p.b2,()).fst.snd.snd.snd.snd.snd.snd.fst.toNat]!)then bif bif p.t10 then wN else wO then if 0<=p.t11/\p.t11<p.t1.length then V (V (jk.mk p.t1 p.t1[p.t11.toNat]! wO (i64.wrap (p.t11+1)) p.b0 p.b1 p.b2))else O else if 0<=p.t11/\p.t11<p.t1.length then bif wP (((p.t1,(),(),(),p.t9,p.t10,p.t11,()),p.b0,p.b1,p.b2,()).fst.fst[((p.t1,(),(),(),p.t9,p.t10,p.t11,()),p.b0,p.b1,p.b2,()).fst.snd.snd.snd.snd.snd.snd.fst.toNat]! <((p.t1,(),(),(),p.t9,p.t10,p.t11,()),p.b0,p.b1,p.b2,()).fst.snd.snd.snd.snd.fst)then if 0<=p.t11/\p.t11<p.t1.length then V (V (jk.mk p.t1 p.t1[p.t11.toNat]! wO (i64.wrap (p.t11+1)) p.b0 p.b1 p.b2))else O else V (V (jk.mk p.t1 p.t9 p.t10 (i64.wrap (p.t11+1)) p.b0 p.b1 p.b2))else O else V (V (jk.mk p.t1 p.t9 p.t10 (i64.wrap (p.t11+1)) p.b0 p.b1 p.b2))else O else V (O)
def Fe:jk->Option jk:=bI (Hf)
structure ki where
 t1:List Int
 (b0 b1 b2:aI)
def OC:Td 0 ki:= .c [] [1,4,7,8] (.r 0 3 (ec 1 (ql 3) (ec 4 (qp 0 0) (ec 7 (qp 1 0) (ec 8 (qp 2 0) en)))) (sb 0 34 (lg 34) (sb 1 34 (lg 34) (sb 2 34 (lg 34) sn))) (fun z=>⟨z.1.1,z.2.1,z.2.2.1,z.2.2.2.1⟩) (fun x=>((x.t1,(),(),(),()),(x.b0,x.b1,x.b2,()))))
def tM(p:ki):Option (Option ki):=
 bif bif lz p.b2 then wN else wO then match Fe (jk.mk p.t1 0 wN 0 p.b0 p.b1 p.b2)with|O=>O|V r1=>bif wP (r1.t11<r1.t1.length)then if 0<=r1.t11/\r1.t11<r1.t1.length then bif wP (((r1.t1,(),(),(),r1.t9,r1.t10,r1.t11,()),r1.b0,r1.b1,r1.b2,()).snd.snd.snd.fst.af<=((r1.t1,(),(),(),r1.t9,r1.t10,r1.t11,()),r1.b0,r1.b1,r1.b2,()).fst.fst[((r1.t1,(),(),(),r1.t9,r1.t10,r1.t11,()),r1.b0,r1.b1,r1.b2,()).fst.snd.snd.snd.snd.snd.snd.fst.toNat]!)then bif bif r1.t10 then wN else wO then if 0<=r1.t11/\r1.t11<r1.t1.length then O else O else if 0<=r1.t11/\r1.t11<r1.t1.length then bif wP (((r1.t1,(),(),(),r1.t9,r1.t10,r1.t11,()),r1.b0,r1.b1,r1.b2,()).fst.fst[((r1.t1,(),(),(),r1.t9,r1.t10,r1.t11,()),r1.b0,r1.b1,r1.b2,()).fst.snd.snd.snd.snd.snd.snd.fst.toNat]! <((r1.t1,(),(),(),r1.t9,r1.t10,r1.t11,()),r1.b0,r1.b1,r1.b2,()).fst.snd.snd.snd.snd.fst)then if 0<=r1.t11/\r1.t11<r1.t1.length then O else O else O else O else O else O else bif bif r1.t10 then wN else wO then match kH r1.b1 r1.b2 with|O=>O|V r2=>V (O)else match kH r1.b1 (aI.mk r1.t9 r1.t9 0)with|O=>O|V r3=>match Rf r1.b2 r1.t9 with|O=>O|V r4=>V (V (ki.mk r1.t1 r1.b0 r3 r4))else V (O)
def XB:An:=(noTwo (noTwo (.two (noTwo (NY.lp Fe .no)) .no)))
def I7:ki->Option ki:=bI (tM)
structure mG where
 t1:List Int
 t6:Int
 (b0 b1:aI)
def PK:Td 0 mG:= .c [] [1,2,4,6] (.r 0 2 (ec 1 (ql 3) (ec 2 (qp 0 0) (ec 4 (qp 1 0) (ec 6 aM en)))) (sb 0 34 (lg 34) (sb 1 34 (lg 34) sn)) (fun z=>⟨z.1.1,z.1.2.2.2.1,z.2.1,z.2.2.1⟩) (fun x=>((x.t1,(),(),x.t6,()),(x.b0,x.b1,()))))
def Bh(p:mG):Option (Option mG):=
 bif wP (p.t6<p.t1.length)then if 0<=p.t6/\p.t6<p.t1.length then bif bif oR p.t1[p.t6.toNat]! then wN else wO then V (O)else V (V (mG.mk p.t1 (i64.wrap (p.t6+1)) p.b0 p.b1))else O else V (O)
def Il:mG->Option mG:=bI (Bh)
abbrev ar9:Type:=aI×Int
def d172:Td 0 ar9:= .c [] [4,5] (.r 0 1 (ec 4 (qp 0 0) (ec 5 aM en)) (sb 0 34 (lg 34) sn) (fun z=>(z.2.1,z.1.2.1)) (fun x=>(((),x.2,()),(x.1,()))))
def Kr(a0:aI)(a1:List Int):Option ar9:=
 match Vp a0 with|O=>O|V r5=>bif bif r5 then wN else wO then V (aI.mk 0 0 0,1)else match Il (mG.mk a1 0 a0 (aI.mk 0 0 0))with|O=>O|V r6=>bif wP (r6.t6<r6.t1.length)then if 0<=r6.t6/\r6.t6<r6.t1.length then bif bif oR r6.t1[r6.t6.toNat]! then wN else wO then V (aI.mk 0 0 0,3)else O else O else match I7 (ki.mk r6.t1 r6.b1 sI r6.b0)with|O=>O|V r7=>bif bif lz r7.b2 then wN else wO then match Fe (jk.mk r7.t1 0 wN 0 r7.b0 r7.b1 r7.b2)with|O=>O|V r8=>bif wP (r8.t11<r8.t1.length)then if 0<=r8.t11/\r8.t11<r8.t1.length then bif wP (((r8.t1,(),(),(),r8.t9,r8.t10,r8.t11,()),r8.b0,r8.b1,r8.b2,()).snd.snd.snd.fst.af<=((r8.t1,(),(),(),r8.t9,r8.t10,r8.t11,()),r8.b0,r8.b1,r8.b2,()).fst.fst[((r8.t1,(),(),(),r8.t9,r8.t10,r8.t11,()),r8.b0,r8.b1,r8.b2,()).fst.snd.snd.snd.snd.snd.snd.fst.toNat]!)then bif bif r8.t10 then wN else wO then if 0<=r8.t11/\r8.t11<r8.t1.length then O else O else if 0<=r8.t11/\r8.t11<r8.t1.length then bif wP (((r8.t1,(),(),(),r8.t9,r8.t10,r8.t11,()),r8.b0,r8.b1,r8.b2,()).fst.fst[((r8.t1,(),(),(),r8.t9,r8.t10,r8.t11,()),r8.b0,r8.b1,r8.b2,()).fst.snd.snd.snd.snd.snd.snd.fst.toNat]! <((r8.t1,(),(),(),r8.t9,r8.t10,r8.t11,()),r8.b0,r8.b1,r8.b2,()).fst.snd.snd.snd.snd.fst)then if 0<=r8.t11/\r8.t11<r8.t1.length then O else O else O else O else O else O else bif bif r8.t10 then wN else wO then match kH r8.b1 r8.b2 with|O=>O|V r9=>V (r9,0)else match kH r8.b1 (aI.mk r8.t9 r8.t9 0)with|O=>O|V r10=>match Rf r8.b2 r8.t9 with|O=>O|V r11=>O else V (r7.b1,0)
def avO:aK->aK:=eL wQ 172 wN (lc (qg 34) (lc (ql 3) ln)) d172 (fun g=>Kr g.1 g.2.1)
def ae0:EO avO:=fun h=>kL (an:=(noTwo (noTwo (.two (noTwo (PK.lp Il .no)) (noTwo (.two (OC.lp I7 XB) .no)))))) (l:=[(bg f172 0,(PK.lp Il .no)),(bg f172 1,(OC.lp I7 XB)),(bg f172 2,(NY.lp Fe .no))]) func172 (rL (rV (kJ (l8 (tO (Jm aR)))))) (ay (aO PK) (ay (aO OC) (ay (aO NY) aB))) h
def SX{l:List Int}(hr:fJ l=wO)(hn:l.length<=1000000)(b0 b1 c:aI):∃best found,Fe (jk.mk l 0 wN 0 b0 b1 c)=V (jk.mk l best found l.length b0 b1 c)/\
  ((found=wN/\∀j,j<l.length->l[j]! <c.af)\/(found=wO/\∃j,j<l.length/\best=l[j]!/\c.af<=l[j]!/\∀k,k<j->l[k]! <c.af)):=by
 obtain⟨⟨best,found⟩,e1,hI⟩:=dH (cO:=Hf) l.length (fun i (s:Int×Bool)=>jk.mk l s.1 s.2 (i:Nat) b0 b1 c)
  (fun i s=>(s.2=wN/\∀j,j<i->l[j]! <c.af)\/(s.2=wO/\∃j,j<i/\s.1=l[j]!/\c.af<=l[j]!/\∀k,k<j->l[k]! <c.af))
  (fun i s hi hI=>by
   have hci:(0:Int)<=(i:Int)/\(i:Int)<(l.length:Int):=by omega
   unfold Hf
   simp only
   rw[bP hci.2,bE,bw hci,za,gF hi hn]
   by_cases h1:c.af<=l[i]!
   ·rw[bP h1,bE]
    rcases hI with ⟨h2,h3⟩|⟨h2,j,h3,h4,h5,h6⟩
    ·rw[h2]
     simp only[bE,bA]
     rw[bw hci]
     exact⟨(l[i]!,wO),rfl, .inr ⟨rfl,i,by omega,rfl,h1,h3⟩⟩
    ·rw[h2]
     simp only[bE,bA]
     have hlt:l[j]! <l[i]! :=KQ hr h3 hi
     rw[bw hci,bO (show ¬l[i]! <s.1 by omega),bA]
     exact⟨(s.1,wO),rfl, .inr ⟨rfl,j,by omega,h4,h5,h6⟩⟩
   ·rw[bO h1,bA]
    refine⟨s,rfl,?_⟩
    rcases hI with ⟨h2,h3⟩|⟨h2,j,h3,h4⟩
    ·refine .inl ⟨h2,fun j hj=> ?_⟩
     rcases yT.mp hj with k|rfl
     ·exact h3 j k
     ·omega
    ·exact .inr ⟨h2,j,by omega,h4⟩)
  (fun s hI=>by
   unfold Hf
   simp only
   rw[fy]
   rfl) (b:=((0:Int),wN)) (.inl ⟨rfl,fun j hj=>cQ hj (yD _)⟩)
 exact⟨best,found,e1,hI⟩
def Vj{l:List Int}{j:Nat}{x:Int}(hj:j<l.length)(h1:∀k,k<j->l[k]! <x)(h2:x<=l[j]!):DA l x=l[j]! :=by
 induction l generalizing j with
 |nil=>exact cQ hj (yD _)
 |cons b l ih=>
  cases j with
  |zero=>exact bw h2
  |succ j=>
   have h0:b<x:=h1 0 (by omega)
   show (if x<=b then b else DA l x)=_
   rw[jC]
   exact ih (j:=j) (by simpa using hj) (fun k hk=>h1 (k+1) (by omega)) h2
def get_of_mem{l:List Int}{b:Int}(h:b∈l):∃j,j<l.length/\l[j]! =b:=by
 obtain⟨j,hj,rfl⟩:=xS h
 exact⟨j,hj,getElem!_pos l j hj⟩
def YE{a:aI}(h:NV a){l:List Int}(hr:fJ l=wO)(hn:l.length<=1000000)(hl:∀b∈l,bY b):∃c,Kr a l=V (c,0)/\mF (uS a l) c:=by
 unfold Kr
 rw[gp,dX h]
 simp only[bE,bA]
 have e0:bI Bh (mG.mk l 0 a (aI.mk 0 0 0))=V (mG.mk l (l.length:Nat) a (aI.mk 0 0 0)):=KG (cO:=Bh) (fun i=>mG.mk l (i:Nat) a (aI.mk 0 0 0)) l.length (fun i hi=>by
  unfold Bh
  simp only
  rw[sw,bE,gC,za,Dv,bP (hl _ (aX hi)),gF hi hn]
  rfl) (fun r=>by
  unfold Bh
  simp only
  rw[fy]
  intro h
  cases h)
 rw[show Il=bI Bh from rfl,e0]
 simp only
 rw[fy,bA]
 obtain⟨z,e1,⟨o,r,T,rfl,hr1,ho,vo⟩,hs⟩:=lH (cO:=tM) (fun p=>∃o r T,p=ki.mk l (aI.mk 0 0 0) o r/\Ex (fun x=>bz a x/\T<x) r/\mF (fun y=>∃x,bz a x/\x<=T/\y=DA l x) o/\NV o)
  (fun p=>if lz p.b2=wO then 0 else(1099511627777-p.b2.af).toNat) (fun p p' ⟨o,r,T,hp,h1,h2,h3⟩ hq=>by
  subst hp
  have hq:tM (ki.mk l (aI.mk 0 0 0) o r)=V (V p'):=hq
  unfold tM at hq
  simp only at hq
  rcases h1.1 with rfl|vr
  ·rw[n9]at hq;cases hq
  ·rw[iB vr]at hq
   simp only[bE,bA]at hq
   obtain⟨best,found,e2,h4⟩:=SX hr hn (aI.mk 0 0 0) o r
   rw[e2]at hq
   simp only at hq
   rw[fy,bA]at hq
   rcases h4 with ⟨rfl,h4⟩|⟨rfl,j,hj,rfl,h5,h6⟩
   ·simp only[bE,bA]at hq
    rw[l9 h3 h1.1]at hq
    cases hq
   ·simp only[bE,bA]at hq
    have hb:=hl _ (aX hj)
    obtain⟨u,f1,s1⟩:=p8 h1.1 l[j]!
    rw[l9 h3 (.inr (show NN (aI.mk l[j]! l[j]! 0)from NN.one hb.1 hb.2)),f1]at hq
    simp only[zF.injEq]at hq
    subst hq
    have lo1:=(h1.2 r.af).mp ⟨zg _,vr.le,⟨0,by omega⟩⟩
    refine⟨⟨_,_,l[j]!,rfl,⟨s1.1,fun x=> ?_⟩,?_,dU h3 (pQ hb)⟩,?_⟩
    ·constructor
     ·intro k
      obtain⟨k1,k2⟩:=(s1.2 x).mp k
      exact⟨((h1.2 x).mp k1).1,k2⟩
     ·rintro⟨k1,k2⟩
      exact(s1.2 x).mpr ⟨(h1.2 x).mpr ⟨k1,by omega⟩,k2⟩
    ·refine(h2.join (Ip l[j]!) h3 (pQ hb)).congr fun y=> ?_
     have mid:∀x,bz a x->T<x->x<=l[j]!->DA l x=l[j]! :=fun x k1 k2 k3=>by
      have k4:=(h1.2 x).mpr ⟨k1,k2⟩
      have:=k4.1
      exact Vj hj (fun k hk=>by have:=h6 k hk;omega) k3
     constructor
     ·rintro(⟨x,k1,k2,k3⟩|rfl)
      ·exact⟨x,k1,by omega,k3⟩
      ·exact⟨r.af,lo1.1,h5,(mid _ lo1.1 lo1.2 h5).symm⟩
     ·rintro⟨x,k1,k2,rfl⟩
      by_cases c:x<=T
      ·exact .inl ⟨x,k1,c,rfl⟩
      ·exact .inr (mid x k1 (by omega) k2)
    ·show (if lz u=wO then 0 else(1099511627777-u.af).toNat)<(if lz r=wO then 0 else(1099511627777-r.af).toNat)
     rw[bF (show ¬lz r=wO by rw[iB vr];decide)]
     have:=vr.le
     have:=vr.hi
     rcases s1.1 with rfl|vu
     ·rw[bw n9];omega
     ·rw[bF (show ¬lz u=wO by rw[iB vu];decide)]
      have:=(s1.2 u.af).mp ⟨zg _,vu.le,⟨0,by omega⟩⟩
      have:=this.2
      omega) ⟨cy,a,a.af-1,rfl,⟨h,fun x=>⟨fun k=>⟨k,by have:=k.1;omega⟩,fun k=>k.1⟩⟩, .none fun y ⟨x,k1,k2,_⟩=>by have:=k1.1;omega, .inl rfl⟩
 rw[show I7=bI tM from rfl,show ki.mk l (aI.mk 0 0 0) sI a=ki.mk l (aI.mk 0 0 0) cy a from rfl,e1]
 simp only
 rcases hr1.1 with rfl|vr
 ·rw[n9]
  refine⟨o,rfl,ho.congr fun y=>⟨fun⟨x,k1,_,k3⟩=>⟨x,k1,k3⟩,fun⟨x,k1,k3⟩=>⟨x,k1,?_,k3⟩⟩⟩
  rcases Int.lt_or_le T x with q|q
  ·exact cQ ((hr1.2 x).mpr ⟨k1,q⟩) uV
  ·exact q
 ·rw[iB vr]
  simp only[bE,bA]
  obtain⟨best,found,e2,h4⟩:=SX hr hn (aI.mk 0 0 0) o r
  rw[e2]
  simp only
  rw[fy,bA]
  rcases h4 with ⟨rfl,h4⟩|⟨rfl,j,hj,rfl,h5,h6⟩
  ·simp only[bE,bA]
   rw[l9 vo hr1.1]
   refine⟨_,rfl,(ho.join hr1.rep vo hr1.1).congr fun y=> ?_⟩
   have big:∀x,bz a x->T<x->DA l x=x:=fun x k1 k2=>Hg fun⟨b,hb,k3⟩=>by
    obtain⟨j,hj,rfl⟩:=get_of_mem hb
    have:=((hr1.2 x).mpr ⟨k1,k2⟩).1
    have:=h4 j hj
    omega
   constructor
   ·rintro(⟨x,k1,_,k3⟩|⟨k1,k2⟩)
    ·exact⟨x,k1,k3⟩
    ·exact⟨y,k1,(big y k1 k2).symm⟩
   ·rintro⟨x,k1,k3⟩
    by_cases c:x<=T
    ·exact .inl ⟨x,k1,c,k3⟩
    ·right
     rw[big x k1 (by omega)]at k3
     subst k3
     exact⟨k1,by omega⟩
  ·exfalso
   have hb:=hl _ (aX hj)
   obtain⟨u,f1,s1⟩:=p8 hr1.1 l[j]!
   refine hs _ (show tM _=V (V (ki.mk l (aI.mk 0 0 0) (cn o (aI.mk l[j]! l[j]! 0)) u))from ?_)
   unfold tM
   simp only
   rw[iB vr]
   simp only[bE,bA]
   rw[e2]
   simp only
   rw[fy,bA]
   simp only[bE,bA]
   rw[l9 vo (.inr (show NN (aI.mk l[j]! l[j]! 0)from NN.one hb.1 hb.2)),f1]
def KN{a:aI}(h:NV a){l:List Int}(hr:fJ l=wO)(hn:l.length<=1000000)(hl:∀b∈l,bY b):∃c,La a l=V (c,0)/\Kr a l=V (c,0)/\mF (uS a l) c/\NV c:=by
 obtain⟨c,e1,r1⟩:=YR h hr hn hl
 obtain⟨d,e2,r2⟩:=YE h hr hn hl
 rw[<-r1.uniq r2]at e2
 exact⟨c,e1,e2,r1,r1.valid fun y hy=>Vk h hl hy⟩
def cS.ne{P:Int->Prop}{c:aI}(h:cS P c):c≠cy:=fun e=>by
 have h1:=h.all _ h.lo
 rw[e]at h1
 have h2:(1:Int)<=0:=y6 h1.1 h1.2.1
 omega
def NV.nn{c:aI}(h:NV c)(k:c≠cy):NN c:=h.elim (fun e=>cQ e k) id
def mF.nn{P:Int->Prop}{c:aI}(h:mF P c)(v:NV c){x:Int}(hx:P x):NN c:=by
 rcases h with ⟨_,h⟩|h
 ·exact cQ hx (h x)
 ·exact v.nn h.ne
def Ox:NN (aI.mk 0 0 0):=NN.one (x:=0) (by omega) (by omega)
def GX{a b:Bool}(h:(a||b)=true):NN (fS a b):=(vU a b).nn (by cases a<;>cases b<;>first|(cases h;done)|(intro e;cases e))
def GS(op:Int){a:aI}(h:NN a):NN (mI op a).1:=by
 unfold mI
 split
 ·exact Ox
 rw[bF h.ne]
 split
 ·exact GX (zero_or h)
 ·exact acU h
def aep{op:Int}{a b:aI}(ha:NN a)(hb:NN b):∃r,ow op a b=V r/\NN r.1:=by
 by_cases ho:binop op
 ·have r1:=ha.qO
  have r2:=ha.A5
  have r3:=hb.qO
  have r4:=hb.A5
  by_cases hs:cnt a*cnt b<=4096
  ·rw[lD ho ha hb hs]
   rcases uZ ho ha hb (by omega)with ⟨h1,c,e,h2⟩|⟨_,e⟩
   ·exact⟨_,e,h2.valid h1⟩
   ·exact⟨_,e,Ox⟩
  have hbin:=ho
  obtain⟨o1,o2⟩:=ho
  rcases (show op=8\/op=9\/op=10\/op=11\/op=12\/op=21\/op=22\/(13<=op/\op<=20)by omega)with rfl|rfl|rfl|rfl|rfl|rfl|rfl|h
  ·rcases eV (op:=8) (.inl rfl) ha hb (fun Q h=>lJ ha hb h) (fun h=>(jI ha hb).mpr ⟨cZ h (.inl rfl) (.inl rfl),cZ h (.inr (.inr rfl)) (.inr (.inr rfl))⟩)with ⟨_,e,hv⟩|⟨_,e⟩
   ·exact⟨_,e,hv⟩
   ·exact⟨_,e,Ox⟩
  ·rcases eV (op:=9) (.inr (.inl rfl)) ha hb (fun Q h=>vF ha hb h) (fun h=>(nc ha hb).mpr ⟨cZ h (.inl rfl) (.inr (.inr rfl)),cZ h (.inr (.inr rfl)) (.inl rfl)⟩)with ⟨_,e,hv⟩|⟨_,e⟩
   ·exact⟨_,e,hv⟩
   ·exact⟨_,e,Ox⟩
  ·rcases eV (op:=10) (.inr (.inr rfl)) ha hb (fun Q h=>u7 ha hb h) (fun h=>(jg ha hb).mpr ⟨cZ h (.inl rfl) (.inl rfl),cZ h (.inl rfl) (.inr (.inr rfl)),cZ h (.inr (.inr rfl)) (.inl rfl),cZ h (.inr (.inr rfl)) (.inr (.inr rfl))⟩)with ⟨_,e,hv⟩|⟨_,e⟩
   ·exact⟨_,e,hv⟩
   ·exact⟨_,e,Ox⟩
  all_goals rw[o4 hbin ha hb hs];unfold OJ
  ·obtain⟨a1,a2⟩:=r1
   obtain⟨a3,a4⟩:=r2
   simp only[Int.reduceEq,gh,dx,bA,bE]
   have hm:((max a.af.natAbs a.aa.natAbs:Nat):Int)<=1099511627776:=by omega
   generalize max a.af.natAbs a.aa.natAbs=m at*
   rw[iM ⟨by omega,by omega⟩ ⟨by omega,by omega⟩ (by omega),iM ⟨by omega,by omega⟩ ⟨by omega,by omega⟩ (by omega)]
   cases (wP (0<=a.af)&&wP (0<=b.af))with
   |true=>exact⟨(fL 0 (m:Int) 1,0),rfl,ji (lo:=0) (hi:=(m:Int)) (st:=1) (by omega) (by omega) (by omega) (by omega)⟩
   |false=>exact⟨(fL (-(m:Int)) (m:Int) 1,0),rfl,ji (lo:= -(m:Int)) (hi:=(m:Int)) (st:=1) (by omega) (by omega) (by omega) (by omega)⟩
  ·obtain⟨b1,b2⟩:=r3
   obtain⟨b3,b4⟩:=r4
   simp only[Int.reduceEq,gh,dx,bA,bE]
   have hp:(if b.af<0 then b.af+1 else 0)<=0/\ -1099511627776<=(if b.af<0 then b.af+1 else 0):=by split<;>omega
   have hq:0<=(if 0<b.aa then b.aa-1 else 0)/\(if 0<b.aa then b.aa-1 else 0)<=1099511627776:=by split<;>omega
   generalize (if b.af<0 then b.af+1 else 0)=p at*
   generalize (if 0<b.aa then b.aa-1 else 0)=q at*
   rw[iM ⟨by omega,by omega⟩ ⟨by omega,by omega⟩ (by omega)]
   exact⟨(fL p q 1,0),rfl,ji (lo:=p) (hi:=q) (st:=1) (by omega) (by omega) (by omega) (by omega)⟩
  ·simp only[Int.reduceEq,gh,dx,bA,bE]
   obtain⟨l',e2,h2⟩:=AE (dU (.inr ha) (.inr hb)) (min a.aa b.aa)
   rw[e2]
   refine⟨_,rfl,h2.rep.nn h2.1 (x:=(cn a b).af) ⟨?_,?_⟩⟩
   ·rw[cE ha hb]
    have:=(jo ha hb).le
    exact⟨by omega,this,by rw[Int.sub_self];exact yU _⟩
   ·rw[cE ha hb]
    show min a.af b.af<=_
    have:=ha.le
    have:=hb.le
    omega
  ·simp only[Int.reduceEq,gh,dx,bA,bE]
   obtain⟨l',e2,h2⟩:=p8 (dU (.inr ha) (.inr hb)) (max a.af b.af-1)
   rw[e2]
   refine⟨_,rfl,h2.rep.nn h2.1 (x:=(cn a b).aa) ⟨?_,?_⟩⟩
   ·rw[cE ha hb]
    have:=(jo ha hb).le
    exact⟨this,by omega,(jo ha hb).dvd⟩
   ·rw[cE ha hb]
    show _<max a.aa b.aa
    have:=ha.le
    have:=hb.le
    omega
  ·rw[Ij h ha hb]
   refine⟨(fS (oW op a b).1 (oW op a b).2,0),?_,GX (PO h ha hb)⟩
   rcases gZ h with rfl|rfl|rfl|rfl|rfl|rfl|rfl|rfl<;>rfl
 ·refine⟨(aI.mk 0 0 0,1),?_,Ox⟩
  unfold ow
  rw[gp,gp,dX (.inr ha),dX (.inr hb),show Fz op=B8 op from rfl,jV,bO ho]
  rfl
def iS(op:Int)(a b:aI):aI:=match ow op a b with
 |none=>cy
 |some r=>r.1
def wS(op:Int){a b:aI}(ha:NN a)(hb:NN b):∃c,uX op a b=V (iS op a b,c)/\ow op a b=V (iS op a b,c)/\NN (iS op a b):=by
 obtain⟨r,e1,e2,_⟩:=LX op (.inr ha) (.inr hb)
 obtain⟨r',e3,h⟩:=aep (op:=op) ha hb
 have:r'=r:=by rw[e2]at e3;cases e3;rfl
 subst this
 unfold iS
 rw[e2]
 exact⟨r'.2,e1,rfl,h⟩
def gN(a:aI)(lo hi:Int):aI:=match m86 a lo hi with
 |none=>cy
 |some r=>r.1
def jf{a:aI}(ha:NN a)(lo hi:Int):∃c,m81 a lo hi=V (gN a lo hi,c)/\m86 a lo hi=V (gN a lo hi,c)/\NN (gN a lo hi)/\(bY lo->bY hi->lo<=hi->mF (tL a lo hi) (gN a lo hi)):=by
 rcases No (.inr ha) lo hi with ⟨c,e1,e2,h,v,_⟩|⟨e1,e2,hn⟩
 ·unfold gN
  rw[e2]
  have:=ha.le
  exact⟨0,e1,rfl,h.nn v (x:=max lo (min a.af hi)) ⟨a.af,⟨by omega,this,by rw[Int.sub_self];exact yU _⟩,rfl⟩,fun _ _ _=>h⟩
 ·unfold gN
  rw[e2]
  exact⟨3,e1,rfl,Ox,fun h1 h2 h3=>cQ ⟨h1,h2,h3⟩ hn⟩
def rI(a:aI)(l:List Int):aI:=match Kr a l with
 |none=>cy
 |some r=>r.1
def tR{a:aI}(ha:NN a){l:List Int}(hr:fJ l=wO)(hn:l.length<=1000000)(hl:∀b∈l,bY b):La a l=V (rI a l,0)/\Kr a l=V (rI a l,0)/\NN (rI a l)/\mF (uS a l) (rI a l):=by
 obtain⟨c,e1,e2,h,v⟩:=KN (.inr ha) hr hn hl
 unfold rI
 rw[e2]
 have:=ha.le
 exact⟨e1,rfl,h.nn v (x:=DA l a.af) ⟨a.af,⟨by omega,this,by rw[Int.sub_self];exact yU _⟩,rfl⟩,h⟩
def jP{a b:aI}(h:NN a)(k:NN b):NN (cn a b):=by rw[cE h k];exact jo h k
structure qw where
 t0:List aS
 t1:Int
 t5:List aS
 t6:Int
def Oq:Td 0 qw:= .c [] [0,1,5,6] (.r 0 1 (ec 0 (ql 131) (ec 1 aM (ec 5 (qo 0) (ec 6 aM en)))) (sr 0 131 sn) (fun z=>⟨z.1.1,z.1.2.1,z.2.1,z.1.2.2.2.1⟩) (fun x=>((x.t0,x.t1,(),x.t6,()),(x.t5,()))))
def JL(p:qw):Option (Option qw):=
 bif wP (p.t6<p.t0.length)then if 0<=p.t6/\p.t6<p.t0.length then bif wP (p.t0[p.t6.toNat]!.bk=p.t1)then if 0<=p.t6/\p.t6<p.t0.length then if(p.t5++[p.t0[p.t6.toNat]!]).length<=1073741824 then V (V (qw.mk p.t0 p.t1 (p.t5++[p.t0[p.t6.toNat]!]) (i64.wrap (p.t6+1))))else O else O else V (V (qw.mk p.t0 p.t1 p.t5 (i64.wrap (p.t6+1))))else O else V (O)
def HZ:qw->Option qw:=bI (JL)
abbrev apx:Type:=List aS
def d173:Td 0 apx:= .c [] [4] (.r 0 1 (ec 4 (qo 0) en) (sr 0 131 sn) (fun z=>z.2.1) (fun x=>(((),()),(x,()))))
def XK(a0:List aS)(a1:Int):Option apx:=
 match HZ (qw.mk a0 a1 [] (0))with|O=>O|V r1=>bif wP (r1.t6<r1.t0.length)then if 0<=r1.t6/\r1.t6<r1.t0.length then bif wP (r1.t0[r1.t6.toNat]!.bk=r1.t1)then if 0<=r1.t6/\r1.t6<r1.t0.length then if(r1.t5++[r1.t0[r1.t6.toNat]!]).length<=1073741824 then O else O else O else O else O else V (r1.t5)
def alP:aK->aK:=eL wQ 173 wN (lc (ql 131) (aN ln)) d173 (fun g=>XK g.1 g.2.1)
def Tq:EO alP:=fun h=>kL (an:=(noTwo (noTwo (.two (noTwo (Oq.lp HZ .no)) .no)))) (l:=[(bg f173 0,(Oq.lp HZ .no))]) func173 aR (ay (aO Oq) aB) h
def F89:aK:=(alP dg)
structure E4 where
 t6:List aS
 (t8 t9:Int)
def WA:Td 0 E4:= .c [] [6,8,9] (.r 0 1 (ec 6 (qo 0) (ec 8 aM (ec 9 aM en))) (sr 0 131 sn) (fun z=>⟨z.2.1,z.1.2.1,z.1.2.2.1⟩) (fun x=>(((),x.t8,x.t9,()),(x.t6,()))))
def BG(p:E4):Option (Option E4):=
 bif wP (p.t9<p.t6.length)then if 0<=p.t9/\p.t9<p.t6.length then if 131=131/\p.t9.toNat<p.t6.length then if 0<=p.t9/\p.t9<p.t6.length then if 131=131/\p.t9.toNat<p.t6.length then bif wP (4096<i64.wrap (p.t8*i64.wrap (i64.wrap (p.t6[p.t9.toNat]!.aa-p.t6[p.t9.toNat]!.af)+1)))then V (O)else V (V (E4.mk p.t6 (i64.wrap (p.t8*i64.wrap (i64.wrap (p.t6[p.t9.toNat]!.aa-p.t6[p.t9.toNat]!.af)+1))) (i64.wrap (p.t9+1))))else O else O else O else O else V (O)
def Mv:E4->Option E4:=bI (BG)
structure Ed where
 t6:List aS
 t7:Int
def X6:Td 0 Ed:= .c [] [6,7] (.r 0 1 (ec 6 (qo 0) (ec 7 aM en)) (sr 0 131 sn) (fun z=>⟨z.2.1,z.1.2.1⟩) (fun x=>(((),x.t7,()),(x.t6,()))))
def EG(p:Ed):Option (Option Ed):=
 bif wP (p.t7<p.t6.length)then if 0<=p.t7/\p.t7<p.t6.length then if 131=131/\p.t7.toNat<p.t6.length then if 0<=p.t7/\p.t7<p.t6.length then if 131=131/\p.t7.toNat<p.t6.length then bif wP (p.t6[p.t7.toNat]!.aa<p.t6[p.t7.toNat]!.af)then V (O)else if 0<=p.t7/\p.t7<p.t6.length then if 131=131/\p.t7.toNat<p.t6.length then bif wP (p.t6[p.t7.toNat]!.af< -1048576)then V (O)else if 0<=p.t7/\p.t7<p.t6.length then if 131=131/\p.t7.toNat<p.t6.length then bif wP (1048576<p.t6[p.t7.toNat]!.aa)then V (O)else V (V (Ed.mk p.t6 (i64.wrap (p.t7+1))))else O else O else O else O else O else O else O else O else V (O)
def KI:Ed->Option Ed:=bI (EG)
abbrev E89:Type:=Int×Int
def d89:Td 0 E89:= .c [] [4,5] (.r 0 0 (ec 4 aM (ec 5 aM en)) sn (fun z=>(z.1.1,z.1.2.1)) (fun x=>((x.1,x.2,()),(()))))
def aw7:∀f∈([]:List Nat),bh (F89) f:=aB
def m89(a0:List aS)(a1:Int):Option E89:=
 match bif bif wP (a1=0)then wN else wO then bif bif wP (a1=1)then wN else wO then bif bif wP (a1=2)then wN else wO then V (bif wP (a1=3)then wN else wO)else V wN else V wN else V wN with|O=>O|V r1=>bif r1 then V (0,1)else match XK a0 a1 with|O=>O|V r2=>match KI (Ed.mk r2 0)with|O=>O|V r3=>bif wP (r3.t7<r3.t6.length)then if 0<=r3.t7/\r3.t7<r3.t6.length then if 131=131/\r3.t7.toNat<r3.t6.length then if 0<=r3.t7/\r3.t7<r3.t6.length then if 131=131/\r3.t7.toNat<r3.t6.length then bif wP (r3.t6[r3.t7.toNat]!.aa<r3.t6[r3.t7.toNat]!.af)then V (0,3)else if 0<=r3.t7/\r3.t7<r3.t6.length then if 131=131/\r3.t7.toNat<r3.t6.length then bif wP (r3.t6[r3.t7.toNat]!.af< -1048576)then V (0,3)else if 0<=r3.t7/\r3.t7<r3.t6.length then if 131=131/\r3.t7.toNat<r3.t6.length then bif wP (1048576<r3.t6[r3.t7.toNat]!.aa)then V (0,3)else O else O else O else O else O else O else O else O else O else match Mv (E4.mk r3.t6 1 0)with|O=>O|V r4=>bif wP (r4.t9<r4.t6.length)then if 0<=r4.t9/\r4.t9<r4.t6.length then if 131=131/\r4.t9.toNat<r4.t6.length then if 0<=r4.t9/\r4.t9<r4.t6.length then if 131=131/\r4.t9.toNat<r4.t6.length then bif wP (4096<i64.wrap (r4.t8*i64.wrap (i64.wrap (r4.t6[r4.t9.toNat]!.aa-r4.t6[r4.t9.toNat]!.af)+1)))then V (0,4)else O else O else O else O else O else V (r4.t8,0)
def e89:aK->aK:=eL wQ 89 wN (lc (ql 131) (aN ln)) d89 (fun g=>m89 g.1 g.2.1)
def Zb:EO e89:=fun h=>kL (F:=F89) (an:=(noTwo (.two (.two (.rb [] 23) .no) (noTwo (.two (noTwo (X6.lp KI .no)) (noTwo (.two (noTwo (WA.lp Mv .no)) .no))))))) (l:=[(.skip,(.rb [] 23)),(bg f89 0,(X6.lp KI .no)),(bg f89 1,(WA.lp Mv .no))]) func89 (Tq aR) (ay aw7 (ay (aO X6) (ay (aO WA) aB))) h
def Ld:EP e89:=fun h=>kP h
def F24:aK:=(e90 (e89 (e78 (e53 dg))))
abbrev E24:Type:=Bool
def d24:Td 0 E24:= .c [] [8] (.r 0 0 (ec 8 qb en) sn (fun z=>z.1.1) (fun x=>((x,()),(()))))
def avb:∀f∈([53,78]:List Nat),bh (F24) f:=(ay (Kw (Ld (lT (qz bB)))) (ay (Kw (Ld (lT (qz bB)))) aB))
def m24(a0:aP)(a1:Int)(a2:Int)(a3:Int):Option E24:=
 match match m53 a0 (10) (80)with|O=>O|V r1=>bif bif r1 then wN else wO then V (wO)else match m78 a0 with|O=>O|V r2=>V (bif wP (r2=0)then wN else wO)with|O=>O|V r3=>bif r3 then V (wN)else match m89 a0.ah (1)with|O=>O|V r4=>match m89 a0.ah (2)with|O=>O|V r5=>match m89 a0.ah (3)with|O=>O|V r6=>match r90 a0.bJ with|O=>O|V r7=>match bif wP (r4.fst<=a1)then bif wP (r5.fst<=a2)then bif wP (r6.fst<=a3)then V (wP (r7.fst<=400))else V (wN)else V (wN)else V (wN)with|O=>O|V r8=>V (r8)
def e24:aK->aK:=eL wQ 24 wN (lc (qg 26) (aN (aN (aN ln)))) d24 (fun g=>m24 g.1 g.2.1 g.2.2.1 g.2.2.2.1)
def WM:EO e24:=fun h=>kL (F:=F24) (an:=(noTwo (.two (.two (.rb [53,78] 25) .no) (noTwo (noTwo (noTwo (noTwo (.two (.rb [53,78] 8) .no)))))))) (l:=[(.skip,(.rb [53,78] 25)),(.skip,(.rb [53,78] 8))]) func24 (Xn (Zb (J8 (V7 aR)))) (ay avb (ay avb aB)) h
def nq:EP e24:=fun h=>kP h
abbrev avh:Type:=Int×Bool
def d178:Td 0 avh:= .c [] [4,5] (.r 0 0 (ec 4 aM (ec 5 qb en)) sn (fun z=>(z.1.1,z.1.2.1)) (fun x=>((x.1,x.2,()),(()))))
def Hl(a0:List Int)(a1:Int):Option avh:=
 bif wP (a0.length<=a1)then V (0,wN)else if 0<=a1/\a1<a0.length then V (a0[a1.toNat]!,wO)else O
def arZ:aK->aK:=eL wQ 178 wN (lc (ql 3) (aN ln)) d178 (fun g=>Hl g.1 g.2.1)
def abt:EO arZ:=fun h=>kL (an:= .no) func178 aR aB h
def F95:aK:=(arZ dg)
def anF:bq wQ F95:=(abt aR)
structure mb where
 t0:List aS
 (t6 t7 t8:Int)
 t9:List Int
 t10:Bool
 t11:Int
 b0:cR
def Vu:Td 0 mb:= .c [] [0,3,6,7,8,9,10,11] (.r 0 2 (ec 0 (ql 131) (ec 3 (qp 0 0) (ec 6 aM (ec 7 aM (ec 8 aM (ec 9 (qo 1) (ec 10 qb (ec 11 aM en)))))))) (sb 0 52 (lg 52) (sr 1 3 sn)) (fun z=>⟨z.1.1,z.1.2.2.1,z.1.2.2.2.1,z.1.2.2.2.2.1,z.2.2.1,z.1.2.2.2.2.2.2.1,z.1.2.2.2.2.2.2.2.1,z.2.1⟩) (fun x=>((x.t0,(),x.t6,x.t7,x.t8,(),x.t10,x.t11,()),(x.b0,x.t9,()))))
def SM(p:mb):Option (Option mb):=
 bif wP (p.t11<p.t0.length)then if 0<=p.t11/\p.t11<p.t0.length then bif wP (p.t0[p.t11.toNat]!.bk=1)then match Hl p.b0.eO p.t6 with|O=>O|V r1=>bif bif r1.snd then wN else wO then V (O)else match bif wP (r1.fst<p.t0[p.t11.toNat]!.af)then V wO else V (wP (p.t0[p.t11.toNat]!.aa<r1.fst))with|O=>O|V r2=>bif r2 then if(p.t9++[r1.fst]).length<=1073741824 then V (V (mb.mk p.t0 (i64.wrap (p.t6+1)) p.t7 p.t8 (p.t9++[r1.fst]) wN (i64.wrap (p.t11+1)) p.b0))else O else if(p.t9++[r1.fst]).length<=1073741824 then V (V (mb.mk p.t0 (i64.wrap (p.t6+1)) p.t7 p.t8 (p.t9++[r1.fst]) p.t10 (i64.wrap (p.t11+1)) p.b0))else O else bif wP (p.t0[p.t11.toNat]!.bk=2)then match Hl p.b0.aW p.t7 with|O=>O|V r3=>bif bif r3.snd then wN else wO then V (O)else match bif wP (r3.fst<p.t0[p.t11.toNat]!.af)then V wO else V (wP (p.t0[p.t11.toNat]!.aa<r3.fst))with|O=>O|V r4=>bif r4 then if(p.t9++[r3.fst]).length<=1073741824 then V (V (mb.mk p.t0 p.t6 (i64.wrap (p.t7+1)) p.t8 (p.t9++[r3.fst]) wN (i64.wrap (p.t11+1)) p.b0))else O else if(p.t9++[r3.fst]).length<=1073741824 then V (V (mb.mk p.t0 p.t6 (i64.wrap (p.t7+1)) p.t8 (p.t9++[r3.fst]) p.t10 (i64.wrap (p.t11+1)) p.b0))else O else bif wP (p.t0[p.t11.toNat]!.bk=3)then match Hl p.b0.fk p.t8 with|O=>O|V r5=>bif bif r5.snd then wN else wO then V (O)else match bif wP (r5.fst<p.t0[p.t11.toNat]!.af)then V wO else V (wP (p.t0[p.t11.toNat]!.aa<r5.fst))with|O=>O|V r6=>bif r6 then if(p.t9++[r5.fst]).length<=1073741824 then V (V (mb.mk p.t0 p.t6 p.t7 (i64.wrap (p.t8+1)) (p.t9++[r5.fst]) wN (i64.wrap (p.t11+1)) p.b0))else O else if(p.t9++[r5.fst]).length<=1073741824 then V (V (mb.mk p.t0 p.t6 p.t7 (i64.wrap (p.t8+1)) (p.t9++[r5.fst]) p.t10 (i64.wrap (p.t11+1)) p.b0))else O else match bif wP (p.t0[p.t11.toNat]!.dz<p.t0[p.t11.toNat]!.af)then V wO else V (wP (p.t0[p.t11.toNat]!.aa<p.t0[p.t11.toNat]!.dz))with|O=>O|V r7=>bif r7 then if(p.t9++[p.t0[p.t11.toNat]!.dz]).length<=1073741824 then V (V (mb.mk p.t0 p.t6 p.t7 p.t8 (p.t9++[p.t0[p.t11.toNat]!.dz]) wN (i64.wrap (p.t11+1)) p.b0))else O else if(p.t9++[p.t0[p.t11.toNat]!.dz]).length<=1073741824 then V (V (mb.mk p.t0 p.t6 p.t7 p.t8 (p.t9++[p.t0[p.t11.toNat]!.dz]) p.t10 (i64.wrap (p.t11+1)) p.b0))else O else O else V (O)
def aiv:An:=(noTwo (.two (noTwo (noTwo (noTwo (noTwo (.two (.two (.rb [] 74) .no) .no))))) .no))
def QG:mb->Option mb:=bI (SM)
abbrev E95:Type:=(List Int)×Int
def d95:Td 0 E95:= .c [] [4,5] (.t (cj.s 4 [] 3) (.t (cj.fs 4 []) (.c [] [4,5] (.r 0 0 (ec 4 (ql 3) (ec 5 aM en)) sn (fun z=>(z.1.1,z.1.2.1)) (fun x=>((x.1,x.2,()),(())))))))
def A95:=(lc (ql 131) (lc (qg 52) ln))
def aq3:An:=(noTwo (noTwo (noTwo (noTwo (.two (noTwo (Vu.lp QG aiv)) (.two (.two (.rb [] 97) .no) .no))))))
def aq5:∀f∈([]:List Nat),bh (F95) f:=aB
def axX:eG wQ (F95) 0 300 95 (aq3):=bV (l:=[(bg f95 0,(Vu.lp QG aiv)),(.skip,(.rb [] 74)),(.skip,(.rb [] 97))]) func95 (bG (by kernel_rfl)) (by kernel_rfl) (ay (aO Vu) (ay aq5 (ay aq5 aB)))
def m95(a0:List aS)(a1:cR):Option E95:=
 match QG (mb.mk a0 0 0 0 [] wO 0 a1)with|O=>O|V r8=>bif wP (r8.t11<r8.t0.length)then if 0<=r8.t11/\r8.t11<r8.t0.length then bif wP (r8.t0[r8.t11.toNat]!.bk=1)then match Hl r8.b0.eO r8.t6 with|O=>O|V r9=>bif bif r9.snd then wN else wO then V ([],1)else match bif wP (r9.fst<r8.t0[r8.t11.toNat]!.af)then V wO else V (wP (r8.t0[r8.t11.toNat]!.aa<r9.fst))with|O=>O|V r10=>bif r10 then if(r8.t9++[r9.fst]).length<=1073741824 then O else O else if(r8.t9++[r9.fst]).length<=1073741824 then O else O else bif wP (r8.t0[r8.t11.toNat]!.bk=2)then match Hl r8.b0.aW r8.t7 with|O=>O|V r11=>bif bif r11.snd then wN else wO then V ([],1)else match bif wP (r11.fst<r8.t0[r8.t11.toNat]!.af)then V wO else V (wP (r8.t0[r8.t11.toNat]!.aa<r11.fst))with|O=>O|V r12=>bif r12 then if(r8.t9++[r11.fst]).length<=1073741824 then O else O else if(r8.t9++[r11.fst]).length<=1073741824 then O else O else bif wP (r8.t0[r8.t11.toNat]!.bk=3)then match Hl r8.b0.fk r8.t8 with|O=>O|V r13=>bif bif r13.snd then wN else wO then V ([],1)else match bif wP (r13.fst<r8.t0[r8.t11.toNat]!.af)then V wO else V (wP (r8.t0[r8.t11.toNat]!.aa<r13.fst))with|O=>O|V r14=>bif r14 then if(r8.t9++[r13.fst]).length<=1073741824 then O else O else if(r8.t9++[r13.fst]).length<=1073741824 then O else O else match bif wP (r8.t0[r8.t11.toNat]!.dz<r8.t0[r8.t11.toNat]!.af)then V wO else V (wP (r8.t0[r8.t11.toNat]!.aa<r8.t0[r8.t11.toNat]!.dz))with|O=>O|V r15=>bif r15 then if(r8.t9++[r8.t0[r8.t11.toNat]!.dz]).length<=1073741824 then O else O else if(r8.t9++[r8.t0[r8.t11.toNat]!.dz]).length<=1073741824 then O else O else O else match bif bif wP (r8.t6=r8.b0.eO.length)then wN else wO then V wO else bif bif wP (r8.t7=r8.b0.aW.length)then wN else wO then V wO else V (bif wP (r8.t8=r8.b0.fk.length)then wN else wO)with|O=>O|V r16=>bif r16 then V ([],1)else bif bif r8.t10 then wN else wO then V ([],3)else V (r8.t9,0)
def c95(a0:List aS)(a1:cR):bU wQ (F95) 300 (aq3) 95 (A95.c (a0,a1,())) [] 0 d95.rd=m95 a0 a1:=by kernel_rfl
def e95:aK->aK:=eZ wQ 95 A95 d95 (fun g=>m95 g.1 g.2.1)
def amk{F:aK}(h:bq wQ F):bq wQ (e95 F):=jj (dG anF axX (fun _=>by kernel_rfl) (fun _=>by kernel_rfl) fun g=>c95 g.1 g.2.1) ⟨_,func95,by kernel_rfl,by kernel_rfl⟩ (fun _=>by kernel_rfl) h
def axv:aK:=dg
abbrev alF:Type:=Int
def d183:Td 0 alF:= .c [] [6] (.r 0 0 (ec 6 aM en) sn (fun z=>z.1.1) (fun x=>((x,()),(()))))
def aqv:=(aN (aN (aN ln)))
def aiY:An:= .no
def vO(a0:Int)(a1:Int)(a2:Int):alF:=
 bif wP (a0<a1)then a1 else bif wP (a2<a0)then a2 else a0
def az5(a0:Int)(a1:Int)(a2:Int):bU wQ (axv) 300 (aiY) 183 (aqv.c (a0,a1,a2,())) [] 0 d183.rd=V (vO a0 a1 a2):=by
 refine Eq.trans (b:=(
  bif wP (a0<a1)then V (a1)else bif wP (a2<a0)then V (a2)else V (a0):Option alF)) (by kernel_rfl) ?_
 simp only[vO,cv,cF]
def amR:aK->aK:=eL wQ 183 wN aqv d183 (fun g=>V (vO g.1 g.2.1 g.2.2.1))
def JN:EO amR:=fun h=>kL (an:=aiY) func183 aR aB h (c:=fun g=>az5 g.1 g.2.1 g.2.2.1)
def ayZ:aK:=dg
abbrev ame:Type:=Int
def d248:Td 0 ame:= .c [] [2] (.r 0 0 (ec 2 aM en) sn (fun z=>z.1.1) (fun x=>((x,()),(()))))
def ary:=(lc qb ln)
def ajr:An:= .no
def tw(a0:Bool):ame:=
 bif a0 then 1 else 0
def ayW(a0:Bool):bU wQ (ayZ) 300 (ajr) 248 (ary.c (a0,())) [] 0 d248.rd=V (tw a0):=by
 refine Eq.trans (b:=(
  bif a0 then V (1)else V (0):Option ame)) (by kernel_rfl) ?_
 simp only[tw,cv,cF]
def aqx:aK->aK:=eL wQ 248 wN ary d248 (fun g=>V (tw g.1))
def R9:EO aqx:=fun h=>kL (an:=ajr) func248 aR aB h (c:=fun g=>ayW g.1)
def arw:aK:=dg
abbrev avn:Type:=Int
def d193:Td 0 avn:= .c [] [4] (.r 0 0 (ec 4 aM en) sn (fun z=>z.1.1) (fun x=>((x,()),(()))))
def art:∀f∈([]:List Nat),bh (arw) f:=aB
def Wf(a0:Int)(a1:Int):Option avn:=
 bif wP (a1=0)then V 0 else if¬a1=0then match if¬a1=0then bif bif wP (a0.tmod a1=0)then wN else wO then V (bif wP (a0<0)==wP (a1<0)then wN else wO)else V wN else O with|O=>O|V r1=>bif r1 then V (i64.wrap (i64.wrap (a0.tdiv a1)-1))else V (i64.wrap (a0.tdiv a1))else O
def ayM:aK->aK:=eL wQ 193 wN (aN (aN ln)) d193 (fun g=>Wf g.1 g.2.1)
def Tf:EO ayM:=fun h=>kL (F:=arw) (an:=(noTwo (noTwo (noTwo (.two (.two (.rb [] 21) .no) .no))))) (l:=[(.skip,(.rb [] 21))]) func193 aR (ay art aB) h
abbrev aqs:Type:=Int
def d287:Td 0 aqs:= .c [] [4] (.r 0 0 (ec 4 aM en) sn (fun z=>z.1.1) (fun x=>((x,()),(()))))
def adi(a0:Int)(a1:Int):Option aqs:=
 bif wP (a1=0)then V (0)else match Wf a0 a1 with|O=>O|V r1=>V (i64.wrap (a0-i64.wrap (a1*r1)))
def azU:aK->aK:=eL wQ 287 wN (aN (aN ln)) d287 (fun g=>adi g.1 g.2.1)
def agp:EO azU:=fun h=>kL (an:= .no) func287 (Tf aR) aB h
abbrev aty:Type:=Int
def d249:Td 0 aty:= .c [] [6] (.r 0 0 (ec 6 aM en) sn (fun z=>z.1.1) (fun x=>((x,()),(()))))
def ae3(a0:Int)(a1:Int)(a2:Int):Option aty:=
 bif wP (a0=8)then V (i64.wrap (a1+a2))else bif wP (a0=9)then V (i64.wrap (a1-a2))else bif wP (a0=10)then V (i64.wrap (a1*a2))else bif wP (a0=11)then match Wf a1 a2 with|O=>O|V r1=>V (r1)else bif wP (a0=12)then match adi a1 a2 with|O=>O|V r2=>V (r2)else bif wP (a0=13)then V (tw (wP (a1=a2)))else bif wP (a0=14)then V (tw (bif wP (a1=a2)then wN else wO))else bif wP (a0=15)then V (tw (wP (a1<a2)))else bif wP (a0=16)then V (tw (wP (a1<=a2)))else bif wP (a0=17)then V (tw (wP (a2<a1)))else bif wP (a0=18)then V (tw (wP (a2<=a1)))else bif wP (a0=19)then bif bif wP (a1=0)then wN else wO then V (tw (bif wP (a2=0)then wN else wO))else V (tw wN)else bif wP (a0=20)then bif bif wP (a1=0)then wN else wO then V (tw wO)else V (tw (bif wP (a2=0)then wN else wO))else bif wP (a0=21)then V (jF a1 a2)else V (ku a1 a2)
def avU:aK->aK:=eL wQ 249 wN (aN (aN (aN ln))) d249 (fun g=>ae3 g.1 g.2.1 g.2.2.1)
def adG:EO avU:=fun h=>kL (an:= .no) func249 (agp (R9 (Tf (Cp (Co aR))))) aB h
abbrev vi:Type:=Int
def d181:Td 0 vi:= .c [] [4] (.r 0 0 (ec 4 aM en) sn (fun z=>z.1.1) (fun x=>((x,()),(()))))
def anb:=(lc (ql 3) (lc (qg 137) ln))
def akC(M:(List Int)->aq->Option vi):aK->aK:=eL wQ 181 wN anb d181 (fun g=>M g.1 g.2.1)
def ag3(M:(List Int)->aq->Option vi):Prop:=HL wQ 181 anb d181 (fun g=>M g.1 g.2.1)
def SI{M:(List Int)->aq->Option vi}(hM:ag3 M){F:aK}(h:bq wQ F):bq wQ (akC M F):=gI (sc:=Cc) eW hM ⟨_,func181,by kernel_rfl,by kernel_rfl⟩ (fun _=>by kernel_rfl) (fun _=>by kernel_rfl) h
def al5(M181:(List Int)->aq->Option vi):aK:=(avU (aqx (amR (akC M181 dg))))
def aeO{M181}(h181:ag3 M181):bq wQ (al5 M181):=(adG (R9 (JN (SI h181 aR))))
def aik(M181:(List Int)->aq->Option vi):An:= .no
def aqP(M181:(List Int)->aq->Option vi):eG wQ (al5 M181) 0 300 181 (aik M181):=bV (l:=[]) func181 (bG (by kernel_rfl)) (by kernel_rfl) aB
def aff(M181:(List Int)->aq->Option vi)(a0:List Int)(a1:aq):Option vi:=
 bif wP (a1.bf=0)then V (a1.fN)else bif wP (a1.bf=24)then if 0<=a1.fN/\a1.fN<a0.length then V (a0[a1.fN.toNat]!)else O else bif wP (a1.bf=6)then if(0:Int)<=(0:Int)/\(0:Int)<a1.ak.length then match M181 a0 (aq.mk a1.ak[0]!.bf a1.ak[0]!.fN a1.ak[0]!.ak)with|O=>O|V r1=>V (i64.wrap (0-r1))else O else bif wP (a1.bf=7)then if(0:Int)<=(0:Int)/\(0:Int)<a1.ak.length then match M181 a0 (aq.mk a1.ak[0]!.bf a1.ak[0]!.fN a1.ak[0]!.ak)with|O=>O|V r2=>V (tw (wP (r2=0)))else O else bif wP (a1.bf=23)then if(0:Int)<=(0:Int)/\(0:Int)<a1.ak.length then match M181 a0 (aq.mk a1.ak[0]!.bf a1.ak[0]!.fN a1.ak[0]!.ak)with|O=>O|V r3=>bif bif wP (r3=0)then wN else wO then if(0:Int)<=(1:Int)/\(1:Int)<a1.ak.length then match M181 a0 (aq.mk a1.ak[1]!.bf a1.ak[1]!.fN a1.ak[1]!.ak)with|O=>O|V r4=>V (r4)else O else if(0:Int)<=(2:Int)/\(2:Int)<a1.ak.length then match M181 a0 (aq.mk a1.ak[2]!.bf a1.ak[2]!.fN a1.ak[2]!.ak)with|O=>O|V r5=>V (r5)else O else O else bif wP (a1.bf=25)then if(0:Int)<=(0:Int)/\(0:Int)<a1.ak.length then match M181 a0 (aq.mk a1.ak[0]!.bf a1.ak[0]!.fN a1.ak[0]!.ak)with|O=>O|V r6=>if 0<=i64.wrap ((1:Int)+vO r6 ((0:Int)) (i64.wrap ((↑a1.ak.length:Int)-(2:Int))))/\i64.wrap ((1:Int)+vO r6 ((0:Int)) (i64.wrap ((↑a1.ak.length:Int)-(2:Int))))<a1.ak.length then match M181 a0 (aq.mk a1.ak[(i64.wrap (1+vO r6 0 (i64.wrap ((↑a1.ak.length:Int)-2)))).toNat]!.bf a1.ak[(i64.wrap (1+vO r6 0 (i64.wrap ((↑a1.ak.length:Int)-2)))).toNat]!.fN a1.ak[(i64.wrap (1+vO r6 0 (i64.wrap ((↑a1.ak.length:Int)-2)))).toNat]!.ak)with|O=>O|V r7=>V (r7)else O else O else if(0:Int)<=(0:Int)/\(0:Int)<a1.ak.length then match M181 a0 (aq.mk a1.ak[0]!.bf a1.ak[0]!.fN a1.ak[0]!.ak)with|O=>O|V r8=>if(0:Int)<=(1:Int)/\(1:Int)<a1.ak.length then match M181 a0 (aq.mk a1.ak[1]!.bf a1.ak[1]!.fN a1.ak[1]!.ak)with|O=>O|V r9=>match ae3 a1.bf r8 r9 with|O=>O|V r10=>V (r10)else O else O
def axK(M181:(List Int)->aq->Option vi)(a0:List Int)(a1:aq):bU wQ (al5 M181) 300 (aik M181) 181 (anb.c (a0,a1,())) [] 0 d181.rd=aff M181 a0 a1:=by kernel_rfl
def aid:Nat->((List Int)->aq->Option vi)
 |0=>(fun _ _=>O)
 |n+1=>(aff (aid n))
def NP(n:Nat):(List Int)->aq->Option vi:=(aid n)
def KT:∀n,ag3 (NP n)
 |0=>fun _ _ h=>(by cases h)
 |n+1=>by
  have ih:=KT n
  have i181:=ih
  exact(dG (aeO i181) (aqP (NP n)) (fun _=>by kernel_rfl) (fun _=>by kernel_rfl) fun g=>axK (NP n) g.1 g.2.1)
def BF:(List Int)->aq->Option vi:=fun a0 a1=>lim (fun n=>NP n a0 a1)
def ag7:ag3 BF:=fun g b h=>by
 obtain⟨n,hn⟩:=cT (show lim (fun n=>NP n g.1 g.2.1)=V b from h)
 exact(KT n) g b hn
def adf(F:aK):aK:=akC BF F
def IA{F:aK}(h:bq wQ F):bq wQ (adf F):=SI ag7 h
abbrev arP:Type:=List Int
def d180:Td 0 arP:= .c [] [8] (.r 0 1 (ec 8 (qo 0) en) (sr 0 3 sn) (fun z=>z.2.1) (fun x=>(((),()),(x,()))))
def PV(a0:aP)(a1:List Int)(a2:Int)(a3:Int):Option arP:=
 if([]++a1).length<=1073741824 then if 0<=a2/\a2<a0.ah.length then if 0<=a2/\a2<a0.ah.length then if 0<=a2/\a2<(↑([]++a1).length:Int)then if 3=3/\a2.toNat<([]++a1).length then V (([]++a1).set a2.toNat (vO a3 a0.ah[a2.toNat]!.af a0.ah[a2.toNat]!.aa))else O else O else O else O else O
def atN:aK->aK:=eL wQ 180 wN (lc (qg 26) (lc (ql 3) (aN (aN ln)))) d180 (fun g=>PV g.1 g.2.1 g.2.2.1 g.2.2.2.1)
def adB:EO atN:=fun h=>kL (an:= .no) func180 (JN aR) aB h
def aqi:aK:=dg
structure qk where
 t0:List Int
 (t1 t5:Int)
 t6:Bool
 t7:Int
def N6:Td 0 qk:= .c [] [0,1,5,6,7] (.r 0 0 (ec 0 (ql 3) (ec 1 aM (ec 5 aM (ec 6 qb (ec 7 aM en))))) sn (fun z=>⟨z.1.1,z.1.2.1,z.1.2.2.1,z.1.2.2.2.1,z.1.2.2.2.2.1⟩) (fun x=>((x.t0,x.t1,x.t5,x.t6,x.t7,()),(()))))
def A8(p:qk):Option (Option qk):=
 bif wP (p.t7<p.t0.length)then match if 0<=p.t7/\p.t7<p.t0.length then bif wP (((p.t0,p.t1,p.t5,p.t6,p.t7,()),()).fst.snd.fst<=((p.t0,p.t1,p.t5,p.t6,p.t7,()),()).fst.fst[((p.t0,p.t1,p.t5,p.t6,p.t7,()),()).fst.snd.snd.snd.snd.fst.toNat]!)then bif bif p.t6 then wN else wO then V wO else if 0<=p.t7/\p.t7<p.t0.length then V (wP (((p.t0,p.t1,p.t5,p.t6,p.t7,()),()).fst.fst[((p.t0,p.t1,p.t5,p.t6,p.t7,()),()).fst.snd.snd.snd.snd.fst.toNat]! <((p.t0,p.t1,p.t5,p.t6,p.t7,()),()).fst.snd.snd.fst))else O else V wN else O with|O=>O|V r1=>bif r1 then if 0<=p.t7/\p.t7<p.t0.length then V (V (qk.mk p.t0 p.t1 p.t0[p.t7.toNat]! wO (i64.wrap (p.t7+1))))else O else V (V (qk.mk p.t0 p.t1 p.t5 p.t6 (i64.wrap (p.t7+1))))else V (O)
def VD:An:=(noTwo (.two (.two (.rb [] 32) .no) .no))
def JH:qk->Option qk:=bI (A8)
abbrev arR:Type:=Int
def d182:Td 0 arR:= .c [] [4] (.r 0 0 (ec 4 aM en) sn (fun z=>z.1.1) (fun x=>((x,()),(()))))
def atL:∀f∈([]:List Nat),bh (aqi) f:=aB
def ZO(a0:List Int)(a1:Int):Option arR:=
 match JH (qk.mk a0 a1 a1 wN 0)with|O=>O|V r2=>bif wP (r2.t7<r2.t0.length)then match if 0<=r2.t7/\r2.t7<r2.t0.length then bif wP (((r2.t0,r2.t1,r2.t5,r2.t6,r2.t7,()),()).fst.snd.fst<=((r2.t0,r2.t1,r2.t5,r2.t6,r2.t7,()),()).fst.fst[((r2.t0,r2.t1,r2.t5,r2.t6,r2.t7,()),()).fst.snd.snd.snd.snd.fst.toNat]!)then bif bif r2.t6 then wN else wO then V wO else if 0<=r2.t7/\r2.t7<r2.t0.length then V (wP (((r2.t0,r2.t1,r2.t5,r2.t6,r2.t7,()),()).fst.fst[((r2.t0,r2.t1,r2.t5,r2.t6,r2.t7,()),()).fst.snd.snd.snd.snd.fst.toNat]! <((r2.t0,r2.t1,r2.t5,r2.t6,r2.t7,()),()).fst.snd.snd.fst))else O else V wN else O with|O=>O|V r3=>bif r3 then if 0<=r2.t7/\r2.t7<r2.t0.length then O else O else O else V (r2.t5)
def aqf:aK->aK:=eL wQ 182 wN (lc (ql 3) (aN ln)) d182 (fun g=>ZO g.1 g.2.1)
def aeM:EO aqf:=fun h=>kL (F:=aqi) (an:=(noTwo (noTwo (.two (noTwo (N6.lp JH VD)) .no)))) (l:=[(bg f182 0,(N6.lp JH VD)),(.skip,(.rb [] 32))]) func182 aR (ay (aO N6) (ay atL aB)) h
abbrev CD:Type:=bD
def d96:Td 0 CD:= .c [] [8] (.r 0 1 (ec 8 (qp 0 0) en) (sb 0 56 (lg 56) sn) (fun z=>z.2.1) (fun x=>(((),()),(x,()))))
def A96:=(lc (qg 26) (lc (ql 3) (lc (ql 166) (lc (qg 56) ln))))
def x96(M:aP->(List Int)->(List au)->bD->Option CD):aK->aK:=eZ wQ 96 A96 d96 (fun g=>M g.1 g.2.1 g.2.2.1 g.2.2.2.1)
def H96(M:aP->(List Int)->(List au)->bD->Option CD):Prop:=HL wQ 96 A96 d96 (fun g=>M g.1 g.2.1 g.2.2.1 g.2.2.2.1)
def OQ{M:aP->(List Int)->(List au)->bD->Option CD}(hM:H96 M){F:aK}(h:bq wQ F):bq wQ (x96 M F):=jj hM ⟨_,func96,by kernel_rfl,by kernel_rfl⟩ (fun _=>by kernel_rfl) h
abbrev lf:Type:=bD
def d179:Td 0 lf:= .c [] [8] (.r 0 1 (ec 8 (qp 0 0) en) (sb 0 56 (lg 56) sn) (fun z=>z.2.1) (fun x=>(((),()),(x,()))))
def ak0:=(lc (qg 26) (lc (ql 3) (lc (qg 166) (lc (qg 56) ln))))
def arH(M:aP->(List Int)->au->bD->Option lf):aK->aK:=eZ wQ 179 ak0 d179 (fun g=>M g.1 g.2.1 g.2.2.1 g.2.2.2.1)
def ag5(M:aP->(List Int)->au->bD->Option lf):Prop:=HL wQ 179 ak0 d179 (fun g=>M g.1 g.2.1 g.2.2.1 g.2.2.2.1)
def aaq{M:aP->(List Int)->au->bD->Option lf}(hM:ag5 M){F:aK}(h:bq wQ F):bq wQ (arH M F):=jj hM ⟨_,func179,by kernel_rfl,by kernel_rfl⟩ (fun _=>by kernel_rfl) h
def F96(M96:aP->(List Int)->(List au)->bD->Option CD)(M179:aP->(List Int)->au->bD->Option lf):aK:=(aqf (adf (atN (arH M179 (x96 M96 dg)))))
def alo{M96 M179}(h96:H96 M96)(h179:ag5 M179):bq wQ (F96 M96 M179):=(aeM (IA (adB (aaq h179 (OQ h96 aR)))))
structure mg where
 t1:List Int
 t2:List au
 t9:Int
 b0:aP
 (b1 b2:bD)
def VO:Td 0 mg:= .c [] [1,2,4,7,8,9] (.t (cj.fc 1 0 []) (.t (cj.fc 1 1 []) (.c [] [1,2,4,7,8,9] (.r 0 3 (ec 1 (ql 3) (ec 2 (ql 166) (ec 4 (qp 0 0) (ec 7 (qp 1 0) (ec 8 (qp 2 0) (ec 9 aM en)))))) (sb 0 26 (lg 26) (sb 1 56 (lg 56) (sb 2 56 (lc qn (lc qn (aN ln))) sn))) (fun z=>⟨z.1.1,z.1.2.1,z.1.2.2.2.2.2.1,z.2.1,z.2.2.1,(bD.mk [] [] z.2.2.2.1.2.2.1)⟩) (fun x=>((x.t1,x.t2,(),(),(),x.t9,()),(x.b0,x.b1,((),(),x.b2.aD,()),())))))))
def QV(M96:aP->(List Int)->(List au)->bD->Option CD)(M179:aP->(List Int)->au->bD->Option lf)(p:mg):Option (Option mg):=
 bif wP (p.t9<p.t2.length)then if 0<=p.t9/\p.t9<p.t2.length then bif wP (p.t2[p.t9.toNat]!.bN=4)then match M179 p.b0 p.t1 (au.mk p.t2[p.t9.toNat]!.bN p.t2[p.t9.toNat]!.aQ p.t2[p.t9.toNat]!.cP p.t2[p.t9.toNat]!.fN (aq.mk p.t2[p.t9.toNat]!.az.bf p.t2[p.t9.toNat]!.az.fN p.t2[p.t9.toNat]!.az.ak) p.t2[p.t9.toNat]!.aH p.t2[p.t9.toNat]!.aL p.t2[p.t9.toNat]!.aJ) p.b1 with|O=>O|V r1=>V (V (mg.mk p.t1 p.t2 (i64.wrap (p.t9+1)) p.b0 r1 (bD.mk [] [] p.b2.aD)))else bif wP (p.t2[p.t9.toNat]!.bN=0)then match BF p.b1.dF (aq.mk p.t2[p.t9.toNat]!.az.bf p.t2[p.t9.toNat]!.az.fN p.t2[p.t9.toNat]!.az.ak)with|O=>O|V r2=>match PV p.b0 p.b1.dF p.t2[p.t9.toNat]!.cP r2 with|O=>O|V r3=>V (V (mg.mk p.t1 p.t2 (i64.wrap (p.t9+1)) p.b0 (bD.mk r3 p.b1.aZ (i64.wrap (p.b1.aD+p.t2[p.t9.toNat]!.aQ))) (bD.mk [] [] p.b2.aD)))else bif wP (p.t2[p.t9.toNat]!.bN=1)then if([]++p.b1.aZ).length<=1073741824 then match BF p.b1.dF (aq.mk p.t2[p.t9.toNat]!.az.bf p.t2[p.t9.toNat]!.az.fN p.t2[p.t9.toNat]!.az.ak)with|O=>O|V r4=>if([]++p.b1.aZ++[r4]).length<=1073741824 then V (V (mg.mk p.t1 p.t2 (i64.wrap (p.t9+1)) p.b0 (bD.mk p.b1.dF ([]++p.b1.aZ++[r4]) (i64.wrap (p.b1.aD+p.t2[p.t9.toNat]!.aQ))) (bD.mk [] [] p.b2.aD)))else O else O else bif wP (p.t2[p.t9.toNat]!.bN=5)then if 0<=p.t2[p.t9.toNat]!.fN/\p.t2[p.t9.toNat]!.fN<p.t1.length then match PV p.b0 p.b1.dF p.t2[p.t9.toNat]!.cP p.t1[p.t2[p.t9.toNat]!.fN.toNat]! with|O=>O|V r5=>V (V (mg.mk p.t1 p.t2 (i64.wrap (p.t9+1)) p.b0 (bD.mk r5 p.b1.aZ (i64.wrap (p.b1.aD+p.t2[p.t9.toNat]!.aQ))) (bD.mk [] [] p.b2.aD)))else O else bif wP (p.t2[p.t9.toNat]!.bN=3)then match BF p.b1.dF (aq.mk p.t2[p.t9.toNat]!.az.bf p.t2[p.t9.toNat]!.az.fN p.t2[p.t9.toNat]!.az.ak)with|O=>O|V r6=>bif bif wP (r6=0)then wN else wO then match M96 p.b0 p.t1 p.t2[p.t9.toNat]!.aH (bD.mk p.b1.dF p.b1.aZ (i64.wrap (p.b1.aD+p.t2[p.t9.toNat]!.aQ)))with|O=>O|V r7=>V (V (mg.mk p.t1 p.t2 (i64.wrap (p.t9+1)) p.b0 r7 (bD.mk [] [] p.b2.aD)))else match M96 p.b0 p.t1 p.t2[p.t9.toNat]!.aL (bD.mk p.b1.dF p.b1.aZ (i64.wrap (p.b1.aD+p.t2[p.t9.toNat]!.aQ)))with|O=>O|V r8=>V (V (mg.mk p.t1 p.t2 (i64.wrap (p.t9+1)) p.b0 r8 (bD.mk [] [] p.b2.aD)))else bif wP (p.t2[p.t9.toNat]!.bN=6)then match ZO p.t2[p.t9.toNat]!.aJ (i64.wrap (p.b1.aD+p.t2[p.t9.toNat]!.aQ))with|O=>O|V r9=>V (V (mg.mk p.t1 p.t2 (i64.wrap (p.t9+1)) p.b0 (bD.mk p.b1.dF p.b1.aZ r9) (bD.mk [] [] p.b2.aD)))else V (V (mg.mk p.t1 p.t2 (i64.wrap (p.t9+1)) p.b0 (bD.mk p.b1.dF p.b1.aZ (i64.wrap (p.b1.aD+p.t2[p.t9.toNat]!.aQ))) (bD.mk [] [] p.b2.aD)))else O else V (O)
def Sz(M96:aP->(List Int)->(List au)->bD->Option CD)(M179:aP->(List Int)->au->bD->Option lf):mg->Option mg:=bI (QV M96 M179)
def ar0(M96:aP->(List Int)->(List au)->bD->Option CD)(M179:aP->(List Int)->au->bD->Option lf):An:=(noTwo (.two (noTwo (VO.lp (Sz M96 M179) .no)) .no))
def aw2(M96:aP->(List Int)->(List au)->bD->Option CD)(M179:aP->(List Int)->au->bD->Option lf):eG wQ (F96 M96 M179) 0 300 96 (ar0 M96 M179):=bV (l:=[(bg f96 0,(VO.lp (Sz M96 M179) .no))]) func96 (bG (by kernel_rfl)) (by kernel_rfl) (ay (aO VO) aB)
def s96(M96:aP->(List Int)->(List au)->bD->Option CD)(M179:aP->(List Int)->au->bD->Option lf)(a0:aP)(a1:List Int)(a2:List au)(a3:bD):Option CD:=
 match Sz M96 M179 (mg.mk a1 a2 0 a0 a3 (bD.mk [] [] (0)))with|O=>O|V r10=>bif wP (r10.t9<r10.t2.length)then if 0<=r10.t9/\r10.t9<r10.t2.length then bif wP (r10.t2[r10.t9.toNat]!.bN=4)then match M179 r10.b0 r10.t1 (au.mk r10.t2[r10.t9.toNat]!.bN r10.t2[r10.t9.toNat]!.aQ r10.t2[r10.t9.toNat]!.cP r10.t2[r10.t9.toNat]!.fN (aq.mk r10.t2[r10.t9.toNat]!.az.bf r10.t2[r10.t9.toNat]!.az.fN r10.t2[r10.t9.toNat]!.az.ak) r10.t2[r10.t9.toNat]!.aH r10.t2[r10.t9.toNat]!.aL r10.t2[r10.t9.toNat]!.aJ) r10.b1 with|O=>O|V r11=>O else bif wP (r10.t2[r10.t9.toNat]!.bN=0)then match BF r10.b1.dF (aq.mk r10.t2[r10.t9.toNat]!.az.bf r10.t2[r10.t9.toNat]!.az.fN r10.t2[r10.t9.toNat]!.az.ak)with|O=>O|V r12=>match PV r10.b0 r10.b1.dF r10.t2[r10.t9.toNat]!.cP r12 with|O=>O|V r13=>O else bif wP (r10.t2[r10.t9.toNat]!.bN=1)then if([]++r10.b1.aZ).length<=1073741824 then match BF r10.b1.dF (aq.mk r10.t2[r10.t9.toNat]!.az.bf r10.t2[r10.t9.toNat]!.az.fN r10.t2[r10.t9.toNat]!.az.ak)with|O=>O|V r14=>if([]++r10.b1.aZ++[r14]).length<=1073741824 then O else O else O else bif wP (r10.t2[r10.t9.toNat]!.bN=5)then if 0<=r10.t2[r10.t9.toNat]!.fN/\r10.t2[r10.t9.toNat]!.fN<r10.t1.length then match PV r10.b0 r10.b1.dF r10.t2[r10.t9.toNat]!.cP r10.t1[r10.t2[r10.t9.toNat]!.fN.toNat]! with|O=>O|V r15=>O else O else bif wP (r10.t2[r10.t9.toNat]!.bN=3)then match BF r10.b1.dF (aq.mk r10.t2[r10.t9.toNat]!.az.bf r10.t2[r10.t9.toNat]!.az.fN r10.t2[r10.t9.toNat]!.az.ak)with|O=>O|V r16=>bif bif wP (r16=0)then wN else wO then match M96 r10.b0 r10.t1 r10.t2[r10.t9.toNat]!.aH (bD.mk r10.b1.dF r10.b1.aZ (i64.wrap (r10.b1.aD+r10.t2[r10.t9.toNat]!.aQ)))with|O=>O|V r17=>O else match M96 r10.b0 r10.t1 r10.t2[r10.t9.toNat]!.aL (bD.mk r10.b1.dF r10.b1.aZ (i64.wrap (r10.b1.aD+r10.t2[r10.t9.toNat]!.aQ)))with|O=>O|V r18=>O else bif wP (r10.t2[r10.t9.toNat]!.bN=6)then match ZO r10.t2[r10.t9.toNat]!.aJ (i64.wrap (r10.b1.aD+r10.t2[r10.t9.toNat]!.aQ))with|O=>O|V r19=>O else O else O else V (r10.b1)
def c96(M96:aP->(List Int)->(List au)->bD->Option CD)(M179:aP->(List Int)->au->bD->Option lf)(a0:aP)(a1:List Int)(a2:List au)(a3:bD):bU wQ (F96 M96 M179) 300 (ar0 M96 M179) 96 (A96.c (a0,a1,a2,a3,())) [] 0 d96.rd=s96 M96 M179 a0 a1 a2 a3:=by kernel_rfl
def aos(M96:aP->(List Int)->(List au)->bD->Option CD)(M179:aP->(List Int)->au->bD->Option lf):aK:=(adf (x96 M96 dg))
def aea{M96 M179}(h96:H96 M96)(h179:ag5 M179):bq wQ (aos M96 M179):=(IA (OQ h96 aR))
structure ug where
 t1:List Int
 t9:Int
 b0:aP
 b1:au
 (b2 b3:bD)
def NG:Td 0 ug:= .c [] [1,4,6,7,8,9] (.r 0 4 (ec 1 (ql 3) (ec 4 (qp 0 0) (ec 6 (qp 1 0) (ec 7 (qp 2 0) (ec 8 (qp 3 0) (ec 9 aM en)))))) (sb 0 26 (lg 26) (sb 1 166 (lg 166) (sb 2 56 (lg 56) (sb 3 56 (lc qn (lc qn (aN ln))) sn)))) (fun z=>⟨z.1.1,z.1.2.2.2.2.2.1,z.2.1,z.2.2.1,z.2.2.2.1,(bD.mk [] [] z.2.2.2.2.1.2.2.1)⟩) (fun x=>((x.t1,(),(),(),(),x.t9,()),(x.b0,x.b1,x.b2,((),(),x.b3.aD,()),()))))
def Ev(M96:aP->(List Int)->(List au)->bD->Option CD)(M179:aP->(List Int)->au->bD->Option lf)(p:ug):Option (Option ug):=
 bif wP (p.t9<p.b1.fN)then match BF p.b2.dF (aq.mk p.b1.az.bf p.b1.az.fN p.b1.az.ak)with|O=>O|V r1=>bif wP (r1=0)then V (O)else match M96 p.b0 p.t1 p.b1.aH (bD.mk p.b2.dF p.b2.aZ (i64.wrap (p.b2.aD+p.b1.aQ)))with|O=>O|V r2=>V (V (ug.mk p.t1 (i64.wrap (p.t9+1)) p.b0 (au.mk p.b1.bN p.b1.aQ p.b1.cP p.b1.fN (aq.mk p.b1.az.bf p.b1.az.fN p.b1.az.ak) p.b1.aH p.b1.aL p.b1.aJ) r2 (bD.mk [] [] p.b3.aD)))else V (O)
def J0(M96:aP->(List Int)->(List au)->bD->Option CD)(M179:aP->(List Int)->au->bD->Option lf):ug->Option ug:=bI (Ev M96 M179)
def ait(M96:aP->(List Int)->(List au)->bD->Option CD)(M179:aP->(List Int)->au->bD->Option lf):An:=(noTwo (.two (noTwo (NG.lp (J0 M96 M179) .no)) .no))
def apG(M96:aP->(List Int)->(List au)->bD->Option CD)(M179:aP->(List Int)->au->bD->Option lf):eG wQ (aos M96 M179) 0 300 179 (ait M96 M179):=bV (l:=[(bg f179 0,(NG.lp (J0 M96 M179) .no))]) func179 (bG (by kernel_rfl)) (by kernel_rfl) (ay (aO NG) aB)
def afi(M96:aP->(List Int)->(List au)->bD->Option CD)(M179:aP->(List Int)->au->bD->Option lf)(a0:aP)(a1:List Int)(a2:au)(a3:bD):Option lf:=
 match J0 M96 M179 (ug.mk a1 (0) a0 (au.mk a2.bN a2.aQ a2.cP a2.fN (aq.mk a2.az.bf a2.az.fN a2.az.ak) a2.aH a2.aL a2.aJ) a3 (bD.mk [] [] (0)))with|O=>O|V r3=>bif wP (r3.t9<r3.b1.fN)then match BF r3.b2.dF (aq.mk r3.b1.az.bf r3.b1.az.fN r3.b1.az.ak)with|O=>O|V r4=>bif wP (r4=0)then V (bD.mk r3.b2.dF r3.b2.aZ (i64.wrap (r3.b2.aD+r3.b1.aQ)))else match M96 r3.b0 r3.t1 r3.b1.aH (bD.mk r3.b2.dF r3.b2.aZ (i64.wrap (r3.b2.aD+r3.b1.aQ)))with|O=>O|V r5=>O else V (r3.b2)
def axn(M96:aP->(List Int)->(List au)->bD->Option CD)(M179:aP->(List Int)->au->bD->Option lf)(a0:aP)(a1:List Int)(a2:au)(a3:bD):bU wQ (aos M96 M179) 300 (ait M96 M179) 179 (ak0.c (a0,a1,a2,a3,())) [] 0 d179.rd=afi M96 M179 a0 a1 a2 a3:=by kernel_rfl
def nj:Nat->(aP->(List Int)->(List au)->bD->Option CD)×(aP->(List Int)->au->bD->Option lf)
 |0=>(fun _ _ _ _=>O,fun _ _ _ _=>O)
 |n+1=>(s96 (nj n).1 (nj n).2,afi (nj n).1 (nj n).2)
def m96(n:Nat):aP->(List Int)->(List au)->bD->Option CD:=(nj n).1
def KH(n:Nat):aP->(List Int)->au->bD->Option lf:=(nj n).2
def BS:∀n,H96 (m96 n)/\ag5 (KH n)
 |0=>⟨fun _ _ h=>(by cases h),fun _ _ h=>(by cases h)⟩
 |n+1=>by
  have ih:=BS n
  obtain⟨i96,i179⟩:=ih
  refine⟨?_,?_⟩
  ·exact(dG (alo i96 i179) (aw2 (m96 n) (KH n)) (fun _=>by kernel_rfl) (fun _=>by kernel_rfl) fun g=>c96 (m96 n) (KH n) g.1 g.2.1 g.2.2.1 g.2.2.2.1)
  ·exact(dG (aea i96 i179) (apG (m96 n) (KH n)) (fun _=>by kernel_rfl) (fun _=>by kernel_rfl) fun g=>axn (m96 n) (KH n) g.1 g.2.1 g.2.2.1 g.2.2.2.1)
def r96:aP->(List Int)->(List au)->bD->Option CD:=fun a0 a1 a2 a3=>lim (fun n=>m96 n a0 a1 a2 a3)
def aoe:H96 r96:=fun g b h=>by
 obtain⟨n,hn⟩:=cT (show lim (fun n=>m96 n g.1 g.2.1 g.2.2.1 g.2.2.2.1)=V b from h)
 exact(BS n).1 g b hn
def e96(F:aK):aK:=x96 r96 F
def anW{F:aK}(h:bq wQ F):bq wQ (e96 F):=OQ aoe h
def F97:aK:=(amR (adf dg))
def amA:bq wQ F97:=(JN (IA aR))
structure EK where
 (t1 t5:List Int)
 t6:Int
 b0:aP
def XA:Td 0 EK:= .c [] [1,2,5,6] (.r 0 2 (ec 1 (ql 3) (ec 2 (qp 0 0) (ec 5 (qo 1) (ec 6 aM en)))) (sb 0 26 (lg 26) (sr 1 3 sn)) (fun z=>⟨z.1.1,z.2.2.1,z.1.2.2.2.1,z.2.1⟩) (fun x=>((x.t1,(),(),x.t6,()),(x.b0,x.t5,()))))
def Tc(p:EK):Option (Option EK):=
 bif wP (p.t6<p.b0.aj.length)then if 0<=p.t6/\p.t6<p.b0.aj.length then match BF p.t1 (aq.mk p.b0.aj[p.t6.toNat]!.az.bf p.b0.aj[p.t6.toNat]!.az.fN p.b0.aj[p.t6.toNat]!.az.ak)with|O=>O|V r1=>if(p.t5++[vO r1 p.b0.aj[p.t6.toNat]!.af p.b0.aj[p.t6.toNat]!.aa]).length<=1073741824 then V (V (EK.mk p.t1 (p.t5++[vO r1 p.b0.aj[p.t6.toNat]!.af p.b0.aj[p.t6.toNat]!.aa]) (i64.wrap (p.t6+1)) p.b0))else O else O else V (O)
def RD:EK->Option EK:=bI (Tc)
abbrev E97:Type:=List Int
def d97:Td 0 E97:= .c [] [4] (.t (cj.fs 4 []) (.c [] [4] (.r 0 0 (ec 4 (ql 3) en) sn (fun z=>z.1.1) (fun x=>((x,()),(()))))))
def A97:=(lc (qg 26) (lc (ql 3) ln))
def atX:An:=(noTwo (noTwo (.two (noTwo (XA.lp RD .no)) .no)))
def azH:eG wQ (F97) 0 300 97 (atX):=bV (l:=[(bg f97 0,(XA.lp RD .no))]) func97 (bG (by kernel_rfl)) (by kernel_rfl) (ay (aO XA) aB)
def m97(a0:aP)(a1:List Int):Option E97:=
 match RD (EK.mk a1 [] (0) a0)with|O=>O|V r2=>bif wP (r2.t6<r2.b0.aj.length)then if 0<=r2.t6/\r2.t6<r2.b0.aj.length then match BF r2.t1 (aq.mk r2.b0.aj[r2.t6.toNat]!.az.bf r2.b0.aj[r2.t6.toNat]!.az.fN r2.b0.aj[r2.t6.toNat]!.az.ak)with|O=>O|V r3=>if(r2.t5++[vO r3 r2.b0.aj[r2.t6.toNat]!.af r2.b0.aj[r2.t6.toNat]!.aa]).length<=1073741824 then O else O else O else V (r2.t5)
def c97(a0:aP)(a1:List Int):bU wQ (F97) 300 (atX) 97 (A97.c (a0,a1,())) [] 0 d97.rd=m97 a0 a1:=by kernel_rfl
def e97:aK->aK:=eZ wQ 97 A97 d97 (fun g=>m97 g.1 g.2.1)
def ang{F:aK}(h:bq wQ F):bq wQ (e97 F):=jj (dG amA azH (fun _=>by kernel_rfl) (fun _=>by kernel_rfl) fun g=>c97 g.1 g.2.1) ⟨_,func97,by kernel_rfl,by kernel_rfl⟩ (fun _=>by kernel_rfl) h
def F28:aK:=(e97 (e96 (e95 (e78 dg))))
def am7:bq wQ F28:=(ang (anW (amk (J8 aR))))
abbrev E28:Type:=bD×Int
def d28:Td 0 E28:= .c [] [4,5] (.r 0 1 (ec 4 (qp 0 0) (ec 5 aM en)) (sb 0 56 (lg 56) sn) (fun z=>(z.2.1,z.1.2.1)) (fun x=>(((),x.2,()),(x.1,()))))
def A28:=(lc (qg 26) (lc (qg 52) ln))
def auh:An:= .no
def aw4:eG wQ (F28) 0 300 28 (auh):=bV (l:=[]) func28 (bG (by kernel_rfl)) (by kernel_rfl) aB
def m28(a0:aP)(a1:cR):Option E28:=
 match m78 a0 with|O=>O|V r1=>bif bif wP (r1=0)then wN else wO then V ((bD.mk [] [] (0),r1))else match m95 a0.ah a1 with|O=>O|V r2=>bif bif wP (r2.snd=0)then wN else wO then V ((bD.mk [] [] (0),r2.snd))else match m97 a0 r2.fst with|O=>O|V r3=>match r96 a0 r3 a0.bJ (bD.mk r2.fst [] (0))with|O=>O|V r4=>V ((r4,0))
def c28(a0:aP)(a1:cR):bU wQ (F28) 300 (auh) 28 (A28.c (a0,a1,())) [] 0 d28.rd=m28 a0 a1:=by kernel_rfl
def e28:aK->aK:=eZ wQ 28 A28 d28 (fun g=>m28 g.1 g.2.1)
def amS{F:aK}(h:bq wQ F):bq wQ (e28 F):=jj (dG am7 aw4 (fun _=>by kernel_rfl) (fun _=>by kernel_rfl) fun g=>c28 g.1 g.2.1) ⟨_,func28,by kernel_rfl,by kernel_rfl⟩ (fun _=>by kernel_rfl) h
def F29:aK:=dg
def akW:bq wQ F29:=aR
abbrev E29:Type:=bt
def d29:Td 0 E29:= .c [] [4] (.r 0 1 (ec 4 (qp 0 0) en) (sb 0 47 (lg 47) sn) (fun z=>z.2.1) (fun x=>(((),()),(x,()))))
def A29:=(lc (qg 47) (lc qb ln))
def asz:An:= .no
def axf:eG wQ (F29) 0 300 29 (asz):=bV (l:=[]) func29 (bG (by kernel_rfl)) (by kernel_rfl) aB
def MQ(a0:bt)(a1:Bool):E29:=
 bif a1 then a0 else bt.mk a0.aZ (0)
def c29(a0:bt)(a1:Bool):bU wQ (F29) 300 (asz) 29 (A29.c (a0,a1,())) [] 0 d29.rd=V (MQ a0 a1):=by
 refine Eq.trans (b:=(
  bif a1 then V (a0)else V (bt.mk a0.aZ (0)):Option E29)) (by kernel_rfl) ?_
 simp only[MQ,cv,cF]
def e29:aK->aK:=eZ wQ 29 A29 d29 (fun g=>V (MQ g.1 g.2.1))
def ak6{F:aK}(h:bq wQ F):bq wQ (e29 F):=jj (dG akW axf (fun _=>by kernel_rfl) (fun _=>by kernel_rfl) fun g=>c29 g.1 g.2.1) ⟨_,func29,by kernel_rfl,by kernel_rfl⟩ (fun _=>by kernel_rfl) h
def DL{F:aK}{f:Nat}(hne:zb f 29=wN)(h:bh F f):bh (e29 F) f:=qF hne h
structure E9 where
 (t0 t1:List Int)
 t5:Int
def XX:Td 0 E9:= .c [] [0,1,5] (.r 0 0 (ec 0 (ql 3) (ec 1 (ql 3) (ec 5 aM en))) sn (fun z=>⟨z.1.1,z.1.2.1,z.1.2.2.1⟩) (fun x=>((x.t0,x.t1,x.t5,()),(()))))
def avu(p:E9):Option (Option E9):=
 bif wP (p.t5<p.t0.length)then if 0<=p.t5/\p.t5<p.t0.length then if 0<=p.t5/\p.t5<p.t1.length then bif bif wP (((p.t0,p.t1,p.t5,()),()).fst.fst[((p.t0,p.t1,p.t5,()),()).fst.snd.snd.fst.toNat]! =((p.t0,p.t1,p.t5,()),()).fst.snd.fst[((p.t0,p.t1,p.t5,()),()).fst.snd.snd.fst.toNat]!)then wN else wO then V (O)else V (V (E9.mk p.t0 p.t1 (i64.wrap (p.t5+1))))else O else O else V (O)
def XH:E9->Option E9:=bI (avu)
abbrev E98:Type:=Bool
def d98:Td 0 E98:= .c [] [4] (.r 0 0 (ec 4 qb en) sn (fun z=>z.1.1) (fun x=>((x,()),(()))))
def m98(a0:List Int)(a1:List Int):Option E98:=
 bif bif wP ((↑a0.length:Int)=(↑a1.length:Int))then wN else wO then V wN else match XH (E9.mk a0 a1 0)with|O=>O|V r1=>bif wP (r1.t5<r1.t0.length)then if 0<=r1.t5/\r1.t5<r1.t0.length then if 0<=r1.t5/\r1.t5<r1.t1.length then bif bif wP (((r1.t0,r1.t1,r1.t5,()),()).fst.fst[((r1.t0,r1.t1,r1.t5,()),()).fst.snd.snd.fst.toNat]! =((r1.t0,r1.t1,r1.t5,()),()).fst.snd.fst[((r1.t0,r1.t1,r1.t5,()),()).fst.snd.snd.fst.toNat]!)then wN else wO then V wN else O else O else O else V wO
def e98:aK->aK:=eL wQ 98 wN (lc (ql 3) (lc (ql 3) ln)) d98 (fun g=>m98 g.1 g.2.1)
def ane:EO e98:=fun h=>kL (an:=(noTwo (noTwo (.two (noTwo (XX.lp XH .no)) .no)))) (l:=[(bg f98 0,(XX.lp XH .no))]) func98 aR (ay (aO XX) aB) h
def Xr:EP e98:=fun h=>kP h
def F31:aK:=(e98 dg)
abbrev E31:Type:=Bool
def d31:Td 0 E31:= .c [] [4] (.r 0 0 (ec 4 qb en) sn (fun z=>z.1.1) (fun x=>((x,()),(()))))
def azD:∀f∈([98]:List Nat),bh (F31) f:=(ay (Xr bB) aB)
def m31(a0:bt)(a1:bt):Option E31:=
 match bif wP (a0.aD=a1.aD)then match m98 a0.aZ a1.aZ with|O=>O|V r1=>V (r1)else V (wN)with|O=>O|V r2=>V (r2)
def e31:aK->aK:=eL wQ 31 wN (lc (qg 47) (lc (qg 47) ln)) d31 (fun g=>m31 g.1 g.2.1)
def al8:EO e31:=fun h=>kL (F:=F31) (an:=(noTwo (.two (.rb [98] 4) .no))) (l:=[(.skip,(.rb [98] 4))]) func31 (ane aR) (ay azD aB) h
def My:EP e31:=fun h=>kP h
def jb(b:Bool):Int:=if b=wO then 1 else 0
def gB(n lo hi:Int):Int:=if n<lo then lo else if hi<n then hi else n
def oV(a b:Int):Int:=if b=0 then 0 else if a.tmod b≠0/\wP (a<0)≠wP (b<0)then a.tdiv b-1 else a.tdiv b
def FC(a b:Int):Int:=if b=0 then 0 else a-b*oV a b
def uC(o a b:Int):Int:=
 if o=8 then a+b else if o=9 then a-b else if o=10 then a*b else if o=11 then oV a b else if o=12 then FC a b
 else if o=13 then jb (wP (a=b))else if o=14 then jb (wP (a≠b))else if o=15 then jb (wP (a<b))else if o=16 then jb (wP (a<=b))
 else if o=17 then jb (wP (b<a))else if o=18 then jb (wP (b<=a))else if o=19 then jb (wP (a≠0/\b≠0))else if o=20 then jb (wP (a≠0\/b≠0))
 else if o=21 then(if a<b then a else b)else(if b<a then a else b)
def tq(vals:List Int)(t:aq)(k:List Int):Int:=
 if t.bf=0 then t.fN else if t.bf=24 then vals[t.fN.toNat]! else if t.bf=6 then-k[0]! else if t.bf=7 then jb (wP (k[0]! =0))
 else if t.bf=23 then(if k[0]!≠0 then k[1]! else k[2]!)else if t.bf=25 then k[(1+gB k[0]! 0 ((k.length:Int)-2)).toNat]! else uC t.bf k[0]! k[1]!
def dN(vals:List Int)(t:aq):Int:=tq vals t (t.ak.attach.map fun k=>dN vals k.1)
termination_by SizeOf.sizeOf t
decreasing_by exact aq.dV k.2
def JZ(vals:List Int)(t:aq):dN vals t=tq vals t (t.ak.map (dN vals)):=by
 rw[dN]
 rw[show (t.ak.attach.map fun k=>dN vals k.1)=t.ak.map (dN vals)from xO (f:=dN vals)]
def DF(a b:Int)(hb:b≠0):b*a.tdiv b+a.tmod b=a/\(a.tmod b).natAbs<b.natAbs/\(0<=a->0<=a.tmod b)/\(a<=0->a.tmod b<=0):=by
 refine⟨wI a b,?_,fun h=>wv b h,fun h=> ?_⟩
 ·rw[xK];exact yP _ (by omega)
 ·have:=wv b (show 0<= -a by omega)
  rw[Int.neg_tmod]at this
  omega
def SW(a b:Int):(a.tdiv b).natAbs<=a.natAbs:=Int.natAbs_tdiv_le_natAbs a b
def tdiv_sign{a b:Int}:(0<=a->0<=b->0<=a.tdiv b):=fun h1 h2=>Int.tdiv_nonneg h1 h2
def JB(a b:Int): -(a.natAbs:Int)<=oV a b/\oV a b<=a.natAbs/\(0<=a->0<=b->0<=oV a b):=by
 unfold oV
 by_cases hb:b=0
 ·rw[bw hb];omega
 rw[bF hb]
 obtain⟨e,h1,h2,h3⟩:=DF a b hb
 have h4:=SW a b
 by_cases hc:a.tmod b≠0/\wP (a<0)≠wP (b<0)
 ·rw[bw hc]
  obtain⟨c1,c2⟩:=hc
  have c3:(a<0/\0<b)\/(0<=a/\b<0):=by
   by_cases q1:a<0<;>by_cases q2:b<0<;>simp[q1,q2]at c2<;>omega
  have h5:(a.tdiv b).natAbs<a.natAbs:=by
   rcases Nat.lt_or_ge (a.tdiv b).natAbs a.natAbs with h|h
   ·exact h
   ·exfalso
    have e1:(a.tdiv b).natAbs=a.natAbs:=by omega
    have e2:a.natAbs=b.natAbs*(a.tdiv b).natAbs+(a.tmod b).natAbs:=by
     rw[Int.natAbs_tdiv,xK];exact(wk _ _).symm
    rw[e1]at e2
    have:b.natAbs*a.natAbs≥1*a.natAbs:=yF _ (by omega)
    omega
  omega
 ·rw[bF hc]
  refine⟨by omega,by omega,fun q1 q2=>tdiv_sign q1 q2⟩
def Qz(a b:Int):(if b<0 then b+1 else 0)<=FC a b/\FC a b<=(if 0<b then b-1 else 0):=by
 unfold FC oV
 by_cases hb:b=0
 ·rw[bw hb];simp[hb]
 rw[bF hb,bF hb]
 obtain⟨e,h1,h2,h3⟩:=DF a b hb
 by_cases hc:a.tmod b≠0/\wP (a<0)≠wP (b<0)
 ·rw[bw hc,xL,y8]
  obtain⟨c1,c2⟩:=hc
  have c3:(a<0/\0<b)\/(0<=a/\b<0):=by
   by_cases q1:a<0<;>by_cases q2:b<0<;>simp[q1,q2]at c2<;>omega
  split<;>split<;>omega
 ·rw[bF hc]
  have c3:a.tmod b=0\/(a<0/\b<0)\/(0<=a/\0<=b):=by
   by_cases q0:a.tmod b=0
   ·exact .inl q0
   ·by_cases q1:a<0<;>by_cases q2:b<0<;>simp[q0,q1,q2]at hc<;>omega
  split<;>split<;>omega
def BC{x lo hi y:Int}(h1:lo<=x)(h2:x<=hi):(lo*y<=x*y\/hi*y<=x*y)/\(x*y<=lo*y\/x*y<=hi*y):=by
 rcases xI 0 y with h|h
 ·exact⟨.inl (zG h1 h), .inr (zG h2 h)⟩
 ·exact⟨.inr (wJ h2 h), .inl (wJ h1 h)⟩
def amC{x y:Int}{a b:Span}(h1:a.af<=x)(h2:x<=a.aa)(h3:b.af<=y)(h4:y<=b.aa):
  (a.af*b.af<=x*y\/a.af*b.aa<=x*y\/a.aa*b.af<=x*y\/a.aa*b.aa<=x*y)/\
  (x*y<=a.af*b.af\/x*y<=a.af*b.aa\/x*y<=a.aa*b.af\/x*y<=a.aa*b.aa):=by
 obtain⟨p1,p2⟩:=BC (y:=y) h1 h2
 obtain⟨q1,q2⟩:=BC (y:=a.af) h3 h4
 obtain⟨r1,r2⟩:=BC (y:=a.aa) h3 h4
 rw[zA b.af,zA b.aa,zA y]at q1 q2 r1 r2
 omega
def jU:∀(l:List Span) (a:Span),(l.foldl dA a).af<=a.af/\a.aa<=(l.foldl dA a).aa/\∀s∈l,(l.foldl dA a).af<=s.af/\s.aa<=(l.foldl dA a).aa
 |[],a=>⟨zg _,zg _,fun s h=>by cases h⟩
 |x::l,a=>by
  obtain⟨h1,h2,h3⟩:=jU l (dA a x)
  have e1:(dA a x).af<=a.af/\(dA a x).af<=x.af/\a.aa<=(dA a x).aa/\x.aa<=(dA a x).aa:=by unfold dA;grind
  rw[List.foldl_cons]
  refine⟨by omega,by omega,fun s hs=> ?_⟩
  rcases zy.1 hs with rfl|hs
  ·omega
  ·exact h3 s hs
def AS(x:Int)(s:Span):Prop:=s.af<=x/\x<=s.aa
def RY(b:Bool):AS (jb b) ⟨0,1⟩:=by cases b<;>exact⟨by decide,by decide⟩
def KIn(k:List Int)(r:List Span):Prop:=k.length=r.length/\∀i,i<r.length->AS k[i]! r[i]!
def FJ(vars:List aS)(vals:List Int):Prop:=vals.length=vars.length/\∀i,i<vars.length->vars[i]!.af<=vals[i]!/\vals[i]!<=vars[i]!.aa
def QM{vars:List aS}{vals:List Int}(hV:FJ vars vals){t:aq}{r:List Span}(h:uj vars t r){k:List Int}(hk:KIn k r):AS (tq vals t k) (dR vars t r):=by
 obtain⟨⟨g1,g2,g3⟩,h24,hI⟩:=h
 obtain⟨hl,hk⟩:=hk
 have k0:1<=r.length->AS k[0]! r[0]! :=fun h=>hk 0 (by omega)
 have k1:2<=r.length->AS k[1]! r[1]! :=fun h=>hk 1 (by omega)
 have sel:∀i,1<=i->i<r.length->AS k[i]! ((r.drop 2).foldl dA r[1]!):=fun i h1 h2=>by
  obtain⟨e1,e2,e3⟩:=jU (r.drop 2) r[1]!
  have e4:=hk i h2
  unfold AS at e4 ⊢
  by_cases hi:i=1
  ·subst hi;omega
  ·have hm:r[i]!∈r.drop 2:=by
    rw[wM]
    refine⟨i-2,by rw[z8];omega,?_⟩
    rw[xC,getElem!_pos _ i h2]
    congr 1
    omega
   have:=e3 _ hm
   omega
 have kn:bW t.bf=if t.bf=0\/t.bf=24 then(0,0)else if t.bf=6\/t.bf=7 then(1,1)else if 8<=t.bf/\t.bf<=22 then(2,2)else if t.bf=23 then(3,3)else if t.bf=25 then(2,33)else(-1,-1):=rfl
 unfold tq dR
 by_cases o0:t.bf=0
 ·rw[bw o0,bw o0];exact⟨zg _,zg _⟩
 rw[bF o0,bF o0]
 by_cases o24:t.bf=24
 ·rw[bw o24,bw o24]
  obtain⟨n1,n2⟩:=h24 o24
  exact hV.2 _ (by omega)
 rw[bF o24,bF o24]
 rw[jC]at kn
 by_cases o6:t.bf=6
 ·rw[bw (.inl o6)]at kn
  rw[kn]at g1 g2 g3
  have:=k0 (by simp at g2;omega)
  rw[bw o6,bw o6]
  unfold AS at this ⊢
  dsimp only
  omega
 rw[bF o6,bF o6]
 by_cases o7:t.bf=7
 ·simp only[o7,Int.reduceEq,reduceIte,or_self]
  exact RY _
 rw[bF o7]
 rw[jC]at kn
 by_cases o23:t.bf=23
 ·rw[jC,bw o23]at kn
  rw[kn]at g1 g2 g3
  dsimp only at g2 g3
  simp only[o23,Int.reduceEq,reduceIte,true_or]
  split
  ·exact sel 1 (by omega) (by omega)
  ·exact sel 2 (by omega) (by omega)
 rw[bF o23]
 by_cases o25:t.bf=25
 ·rw[jC,bF o23,bw o25]at kn
  rw[kn]at g1 g2 g3
  dsimp only at g2 g3
  simp only[o25,Int.reduceEq,reduceIte,or_true]
  refine sel _ ?_ ?_<;>unfold gB<;>grind
 rw[bF o25]
 have h22:8<=t.bf/\t.bf<=22:=by
  by_cases h:8<=t.bf/\t.bf<=22
  ·exact h
  ·rw[bF h,bF o23,bF o25]at kn;rw[kn]at g1;simp at g1
 rw[bw h22]at kn
 rw[kn]at g1 g2 g3
 dsimp only at g2 g3
 have a0:=k0 (by omega)
 have a1:=k1 (by omega)
 have i0:=hI _ (aX (show 0<r.length by omega))
 have i1:=hI _ (aX (show 1<r.length by omega))
 unfold AS at a0 a1
 unfold rS at i0 i1
 unfold uC
 by_cases o8:t.bf=8
 ·rw[bw o8,bw o8];unfold AS;dsimp only;omega
 rw[bF o8,bF o8]
 by_cases o9:t.bf=9
 ·rw[bw o9,bw o9];unfold AS;dsimp only;omega
 rw[bF o9,bF o9]
 by_cases o10:t.bf=10
 ·rw[bw o10,bw o10]
  have hm:=amC (a:=r[0]!) (b:=r[1]!) a0.1 a0.2 a1.1 a1.2
  unfold AS dA
  dsimp only
  generalize k[0]! *k[1]! =xy at hm ⊢
  generalize r[0]!.af*r[1]!.af=p at hm ⊢
  generalize r[0]!.af*r[1]!.aa=q at hm ⊢
  generalize r[0]!.aa*r[1]!.af=u at hm ⊢
  generalize r[0]!.aa*r[1]!.aa=s at hm ⊢
  grind
 rw[bF o10,bF o10]
 by_cases o11:t.bf=11
 ·rw[bw o11,bw o11]
  obtain⟨d1,d2,d3⟩:=JB k[0]! k[1]!
  unfold AS
  split
  ·rename_i hc
   have:=d3 (by omega) (by omega)
   dsimp only
   refine⟨this,?_⟩
   split<;>omega
  ·dsimp only
   split<;>omega
 rw[bF o11,bF o11]
 by_cases o12:t.bf=12
 ·rw[bw o12,bw o12]
  obtain⟨d1,d2⟩:=Qz k[0]! k[1]!
  unfold AS
  dsimp only
  constructor
  ·refine y6 ?_ d1
   split<;>split<;>omega
  ·refine y6 d2 ?_
   split<;>split<;>omega
 rw[bF o12,bF o12]
 by_cases o21:t.bf=21
 ·rw[bw o21]
  simp only[o21,Int.reduceEq,reduceIte]
  unfold AS
  dsimp only
  constructor<;>split<;>(try split)<;>omega
 by_cases o22:t.bf=22
 ·rw[bF o21,bw o22]
  simp only[o22,Int.reduceEq,reduceIte]
  unfold AS
  dsimp only
  constructor<;>split<;>(try split)<;>omega
 have cs:t.bf=13\/t.bf=14\/t.bf=15\/t.bf=16\/t.bf=17\/t.bf=18\/t.bf=19\/t.bf=20:=by omega
 rcases cs with o|o|o|o|o|o|o|o<;>simp only[o,Int.reduceEq,reduceIte,or_self]<;>exact RY _
def Ju{vars:List aS}(hv:bX vars){vals:List Int}(hV:FJ vars vals){inp:Bool}:∀(n:Nat) (t:aq),SizeOf.sizeOf t<n->cU vars inp t=wO->∀s,eB vars t=V s->AS (dN vals t) s
 |0,_,h,_,_,_=>by omega
 |n+1,t,h,hf,s,hs=>by
  rw[kN]at hs
  cases ha:jE (t.ak.map (eB vars))with
  |none=>rw[ha]at hs;cases hs
  |some r=>
   rw[ha]at hs
   dsimp only at hs
   have hK:=qZ hv hf ha
   have hr:t.ak.map (eB vars)=r.map V:=jO ha
   have hlen:t.ak.length=r.length:=by have:=congrArg zc hr;simpa using this
   split at hs
   ·cases hs
    rw[JZ]
    refine QM hV hK ⟨by simp[hlen],fun i hi=> ?_⟩
    have hm:t.ak[i]!∈t.ak:=aX (by omega)
    have e1:(t.ak.map (dN vals))[i]! =dN vals t.ak[i]! :=by
     rw[getElem!_pos _ i (by simp;omega),getElem!_pos _ i (by omega),yo]
    have e2:eB vars t.ak[i]! =V r[i]! :=by
     have:=congrArg (fun l=>l[i]?) hr
     simp only[zY]at this
     rw[zk (show i<t.ak.length by omega),zk hi]at this
     rw[getElem!_pos _ i (by omega),getElem!_pos _ i hi]
     simpa using this
    rw[e1]
    exact Ju hv hV n _ (by have:=aq.dV hm;omega) (j7 hf hm) _ e2
   ·cases hs
def SC(b:Bool):tw b=jb b:=by cases b<;>rfl
def JQ(n lo hi:Int):vO n lo hi=gB n lo hi:=by unfold vO gB;simp only[ze]
def neB(a b:Bool):(bif a==b then false else true)=wP (a≠b):=by cases a<;>cases b<;>rfl
def Qn{a b:Int}(h1: -1099511627776<=a)(h2:a<=1099511627776):Wf a b=V (oV a b):=by
 have h3:=SW a b
 have w1:i64.wrap (a.tdiv b)=a.tdiv b:=aF
 have w2:i64.wrap (a.tdiv b-1)=a.tdiv b-1:=aF
 unfold Wf oV
 by_cases hb:b=0
 ·simp[hb]
 by_cases hm:a.tmod b=0
 ·simp[hb,hm,w1]
 ·simp only[hb,hm,w1,w2,gh,bA,bE,not_false_eq_true,cz,dS,ne_eq,true_and,neB,not_true]
  by_cases hc:wP (a<0)=wP (b<0)
  ·simp[hc]
  ·simp[hc]
def ac8{a b:Int}(h1: -1099511627776<=a)(h2:a<=1099511627776)(h3: -1099511627776<=b)(h4:b<=1099511627776):adi a b=V (FC a b):=by
 unfold adi
 rw[Qn h1 h2]
 unfold FC
 by_cases hb:b=0
 ·simp[hb]
 obtain⟨e,q1,q2,q3⟩:=DF a b hb
 have hd:b*oV a b=b*a.tdiv b\/b*oV a b=b*a.tdiv b-b:=by
  unfold oV
  rw[bF hb]
  split
  ·right;rw[xL,y8]
  ·left;rfl
 have w1:i64.wrap (b*oV a b)=b*oV a b:=aF
 have w2:i64.wrap (a-b*oV a b)=a-b*oV a b:=aF
 simp only[hb,gh,bA,dS,w1,w2]
def adw{o a b:Int}(ha: -1048576<=a/\a<=1048576)(hb: -1048576<=b/\b<=1048576):ae3 o a b=V (uC o a b):=by
 have hm:=mj (a:=a) (b:=b) (by omega) (by omega) (by omega) (by omega)
 have w1:i64.wrap (a+b)=a+b:=aF
 have w2:i64.wrap (a-b)=a-b:=aF
 have w3:i64.wrap (a*b)=a*b:=aF
 unfold ae3 uC
 rw[Qn (by omega) (by omega),ac8 (by omega) (by omega) (by omega) (by omega),w1,w2,w3]
 simp only[SC,oA,mh]
 have z:∀x:Int,(bif wP (x=0)then wN else wO)=wP (x≠0):=fun x=>by by_cases h:x=0<;>simp[h]
 have z2:(bif wP (a=b)then wN else wO)=wP (a≠b):=by by_cases h:a=b<;>simp[h]
 rw[z,z,z2]
 have y:(bif wP (a≠0)then V (jb (wP (b≠0)))else V (jb wN))=V (jb (wP (a≠0/\b≠0))):=by by_cases h1:a=0<;>by_cases h2:b=0<;>simp[h1,h2]
 have y2:(bif wP (a≠0)then V (jb wO)else V (jb (wP (b≠0))))=V (jb (wP (a≠0\/b≠0))):=by by_cases h1:a=0<;>by_cases h2:b=0<;>simp[h1,h2]
 rw[y,y2]
 simp only[ze,cF]
def aqD{vars:List aS}(hv:bX vars){vals:List Int}(hV:FJ vars vals){inp:Bool}{t:aq}(hf:cU vars inp t=wO)(hs:(eB vars t).isSome=wO):
  ∀k∈t.ak,(eB vars k).isSome=wO/\ -1048576<=dN vals k/\dN vals k<=1048576:=fun k hk=>by
 rw[kN]at hs
 cases ha:jE (t.ak.map (eB vars))with
 |none=>rw[ha]at hs;cases hs
 |some r=>
  have hK:=qZ hv hf ha
  have hr:=jO ha
  have hm:eB vars k∈r.map V:=by rw[<-hr];exact wL hk
  obtain⟨s,h1,h2⟩:=zL.1 hm
  have h3:=Ju hv hV (SizeOf.sizeOf k+1) k (by omega) (j7 hf hk) s h2.symm
  have h4:=hK.2.2 s h1
  unfold AS at h3
  unfold rS at h4
  exact⟨by rw[<-h2];rfl,by omega,by omega⟩
def Ib{vars:List aS}{inp:Bool}{t:aq}(hf:cU vars inp t=wO):(0<=(bW t.bf).1/\(bW t.bf).1<=t.ak.length/\(t.ak.length:Int)<=(bW t.bf).2)/\(t.bf=24->0<=t.fN/\t.fN<vars.length):=by
 rw[lC]at hf
 have h:=(zf _ _▸hf).1
 unfold BK at h
 rw[zf,decide_eq_true_iff]at h
 refine⟨h.1,fun h24=> ?_⟩
 have h2:=h.2
 simp only[h24,Int.reduceEq,reduceIte,zf,decide_eq_true_eq]at h2
 exact h2.1
def DH(o:Int)(h:0<=(bW o).1):((o=0\/o=24)/\bW o=(0,0))\/((o=6\/o=7)/\bW o=(1,1))\/((8<=o/\o<=22)/\bW o=(2,2))\/(o=23/\bW o=(3,3))\/(o=25/\bW o=(2,33)):=by
 unfold bW at h ⊢
 split
 ·exact .inl ⟨‹_›,rfl⟩
 rename_i h1
 rw[bF h1]at h
 split
 ·exact .inr (.inl ⟨‹_›,rfl⟩)
 rename_i h2
 rw[bF h2]at h
 split
 ·exact .inr (.inr (.inl ⟨‹_›,rfl⟩))
 rename_i h3
 rw[bF h3]at h
 split
 ·exact .inr (.inr (.inr (.inl ⟨‹_›,rfl⟩)))
 rename_i h4
 rw[bF h4]at h
 split
 ·exact .inr (.inr (.inr (.inr ⟨‹_›,rfl⟩)))
 ·rename_i h5
  rw[bF h5]at h
  simp at h
def pL{vals:List Int}{t:aq}{i:Nat}(h:i<t.ak.length):(t.ak.map (dN vals))[i]! =dN vals t.ak[i]! :=by
 rw[getElem!_pos _ i (by simpa using h),getElem!_pos _ i h,yo]
def abm(M:List Int->aq->Option vi){vars:List aS}(hv:bX vars){vals:List Int}(hV:FJ vars vals){inp:Bool}(t:aq)(hf:cU vars inp t=wO)(hs:(eB vars t).isSome=wO)
  (hM:∀k∈t.ak,M vals k=V (dN vals k)):aff M vals t=V (dN vals t):=by
 obtain⟨⟨g1,g2,g3⟩,h24⟩:=Ib hf
 have hkv:=aqD hv hV hf hs
 have K:∀i,i<t.ak.length->M vals t.ak[i]! =V (dN vals t.ak[i]!)/\ -1048576<=dN vals t.ak[i]!/\dN vals t.ak[i]!<=1048576:=fun i hi=>⟨hM _ (aX hi),(hkv _ (aX hi)).2⟩
 rw[JZ]
 unfold aff tq
 simp only[aq.eta,zK]
 rcases DH t.bf g1 with ⟨h,e⟩|⟨h,e⟩|⟨h,e⟩|⟨h,e⟩|⟨h,e⟩<;>rw[e]at g2 g3<;>dsimp only at g2 g3
 ·rcases h with h|h
  ·simp[h]
  ·have:=h24 h
   have hl:=hV.1
   simp[h]
   omega
 ·obtain⟨k1,k2,k3⟩:=K 0 (by omega)
  have m0:=pL (vals:=vals) (show 0<t.ak.length by omega)
  have w:i64.wrap ((0:Int)-dN vals t.ak[0]!)= -dN vals t.ak[0]! :=by rw[aF];omega
  have i0:(0:Int)<=0/\(0:Int)<(t.ak.length:Int):=by omega
  rcases h with h|h
  ·simp only[Z0,h,Int.reduceEq,gh,dx,bE,bA,i0,cz,k1,w,m0,reduceIte,ew]
  ·simp only[h,Int.reduceEq,gh,dx,bE,bA,i0,cz,k1,m0,reduceIte,ew,SC]
 ·obtain⟨k1,k2,k3⟩:=K 0 (by omega)
  obtain⟨l1,l2,l3⟩:=K 1 (by omega)
  have m0:=pL (vals:=vals) (show 0<t.ak.length by omega)
  have m1:=pL (vals:=vals) (show 1<t.ak.length by omega)
  have i0:(0:Int)<=0/\(0:Int)<(t.ak.length:Int):=by omega
  have i1:(0:Int)<=1/\(1:Int)<(t.ak.length:Int):=by omega
  have hb:=adw (o:=t.bf) ⟨k2,k3⟩ ⟨l2,l3⟩
  have n0:t.bf≠0:=by omega
  have n1:t.bf≠24:=by omega
  have n2:t.bf≠6:=by omega
  have n3:t.bf≠7:=by omega
  have n4:t.bf≠23:=by omega
  have n5:t.bf≠25:=by omega
  simp only[n0,n1,n2,n3,n4,n5,gh,bA,i0,i1,cz,dS,k1,l1,hb,m0,m1,ew]
 ·obtain⟨k1,k2,k3⟩:=K 0 (by omega)
  obtain⟨l1,l2,l3⟩:=K 1 (by omega)
  obtain⟨p1,p2,p3⟩:=K 2 (by omega)
  have m0:=pL (vals:=vals) (show 0<t.ak.length by omega)
  have m1:=pL (vals:=vals) (show 1<t.ak.length by omega)
  have m2:=pL (vals:=vals) (show 2<t.ak.length by omega)
  have i0:(0:Int)<=0/\(0:Int)<(t.ak.length:Int):=by omega
  have i1:(0:Int)<=1/\(1:Int)<(t.ak.length:Int):=by omega
  have i2:(0:Int)<=2/\(2:Int)<(t.ak.length:Int):=by omega
  simp only[h,Int.reduceEq,gh,dx,bE,bA,i0,i1,i2,cz,k1,l1,p1,m0,m1,m2,reduceIte,ew]
  by_cases hz:dN vals t.ak[0]! =0
  ·simp only[hz,dx,bE,bA,dS,ne_eq,not_true]
  ·simp only[hz,gh,bE,bA,cz,ne_eq,not_false_eq_true]
 ·obtain⟨k1,k2,k3⟩:=K 0 (by omega)
  have m0:=pL (vals:=vals) (show 0<t.ak.length by omega)
  have i0:(0:Int)<=0/\(0:Int)<(t.ak.length:Int):=by omega
  have w:i64.wrap ((t.ak.length:Int)-(2:Int))=(t.ak.length:Int)-(2:Int):=aF
  have hh:0<=gB (dN vals t.ak[0]!) 0 ((t.ak.length:Int)-(2:Int))/\gB (dN vals t.ak[0]!) 0 ((t.ak.length:Int)-(2:Int))<=(t.ak.length:Int)-(2:Int):=by unfold gB;grind
  have w2:i64.wrap ((1:Int)+gB (dN vals t.ak[0]!) 0 ((t.ak.length:Int)-(2:Int)))=(1:Int)+gB (dN vals t.ak[0]!) 0 ((t.ak.length:Int)-(2:Int)):=aF
  simp only[h,Int.reduceEq,gh,dx,bE,bA,i0,cz,k1,m0,reduceIte,ew,JQ,w,w2]
  generalize gB (dN vals t.ak[0]!) 0 ((t.ak.length:Int)-(2:Int))=H at hh
  obtain⟨q1,_,_⟩:=K (1+H).toNat (by omega)
  rw[gC,pL (by omega)]
  simp only[q1]
  rfl
def RH{vars:List aS}(hv:bX vars){vals:List Int}(hV:FJ vars vals)(inp:Bool):∀(n:Nat) (t:aq),SizeOf.sizeOf t<n->cU vars inp t=wO->(eB vars t).isSome=wO->NP n vals t=V (dN vals t)
 |0,_,h,_,_=>by omega
 |n+1,t,h,hf,hs=>abm (NP n) hv hV t hf hs (fun k hk=>RH hv hV inp n k (by have:=aq.dV hk;omega) (j7 hf hk) (aqD hv hV hf hs k hk).1)
def Cz{vars:List aS}(hv:bX vars){vals:List Int}(hV:FJ vars vals)(inp:Bool)(t:aq)(hc:eH vars inp t=0):BF vals t=V (dN vals t)/\ -1048576<=dN vals t/\dN vals t<=1048576:=by
 unfold eH at hc
 cases hf:cU vars inp t with
 |false=>rw[hf]at hc;simp at hc
 |true=>
  rw[hf]at hc
  cases hs:(eB vars t).isSome with
  |false=>rw[hs]at hc;simp at hc
  |true=>
   refine⟨eE (SizeOf.sizeOf t+1) fun n hn=>RH hv hV inp n t (by omega) hf hs,?_⟩
   obtain⟨s,e⟩:=Option.isSome_iff_exists.1 hs
   have h3:=Ju hv hV (SizeOf.sizeOf t+1) t (by omega) hf s e
   have h4:sC s=wO:=by
    rw[kN]at e
    cases ha:jE (t.ak.map (eB vars))with
    |none=>rw[ha]at e;cases e
    |some r=>
     rw[ha]at e
     dsimp only at e
     split at e
     ·cases e;assumption
     ·cases e
   unfold sC at h4
   unfold AS at h3
   simp at h4
   omega
def Gn(M:aP->List au->Bool->Option l5)(f:aP)(l A B:List au)(top:Bool)(n i a b:Int)(ha:M f A wN=V a)(hb:M f B wN=V b):
  AT M ⟨l,top,l,n,i,[A,B],2,0,f⟩=V ⟨l,top,l,n,i,[A,B],2,if a≠0 then 0 else if b≠0 then 1 else 2,f⟩:=by
 have w0:i64.wrap 1=1:=rfl
 have w1:i64.wrap 2=2:=rfl
 have r1:uD M ⟨l,top,l,n,i,[A,B],2,0,f⟩=if a≠0 then V O else V (V ⟨l,top,l,n,i,[A,B],2,1,f⟩):=by
  unfold uD
  by_cases h:a=0<;>simp[ha,h,w0]
 have r2:uD M ⟨l,top,l,n,i,[A,B],2,1,f⟩=if b≠0 then V O else V (V ⟨l,top,l,n,i,[A,B],2,2,f⟩):=by
  unfold uD
  by_cases h:b=0<;>simp[hb,h,w1]
 have r3:uD M ⟨l,top,l,n,i,[A,B],2,2,f⟩=V O:=by
  unfold uD
  simp
 unfold AT
 by_cases h1:a≠0
 ·rw[bw h1]at r1 ⊢
  exact cu fun r=>by rw[r1];simp
 ·rw[bF h1]at r1 ⊢
  rw[bQ r1]
  by_cases h2:b≠0
  ·rw[bw h2]at r2 ⊢
   exact cu fun r=>by rw[r2];simp
  ·rw[bF h2]at r2 ⊢
   rw[bQ r2]
   exact cu fun r=>by rw[r3];simp
def QU(n i:Nat)(hn:n<=1000000):wP ((i:Int)=i64.wrap ((n:Int)-1))=wP (i+1=n):=by
 rw[aF]
 apply decide_eq_decide.2
 omega
def YX(M:aP->List au->Bool->Option l5)(f:aP)(hv:bX f.ah)(l:List au)(hl:l.length<=1000000)(top:Bool)(hM:∀s∈l,M f s.aH wN=V (b9 f wN s.aH)/\M f s.aL wN=V (b9 f wN s.aL))(i:Nat)(hi:i<l.length):
  (Vn f top l.length i l[i]! =0->AL M ⟨l,top,l,(l.length:Int),(i:Int),f⟩=V (V ⟨l,top,l,(l.length:Int),((i+1:Nat):Int),f⟩))/\(Vn f top l.length i l[i]!≠0->AL M ⟨l,top,l,(l.length:Int),(i:Int),f⟩=V O):=by
 have hw:=gF hi hl
 obtain⟨k1,k2⟩:=hM _ (aX hi)
 have hin:=Gn M f l l[i]!.aH l[i]!.aL top (l.length:Int) (i:Int) _ _ k1 k2
 have hlen:(([l[i]!.aH,l[i]!.aL]:List (List au)).length:Int)=2:=rfl
 have hi1:(i:Int)<(l.length:Int):=by omega
 have hi0:(0:Int)<=(i:Int):=by omega
 unfold AL Vn oT
 dsimp only
 simp only[za,aq.eta,au.eta,QF,QU l.length i hl,Cq f.ah hv,hlen,hin,hw,hi1,hi0,dx,bE,ew,cz]
 have e1':(bif top then some (bif dy f l[i]! (wP (i+1=l.length))then false else true)else some (bif dy f l[i]! false then false else true))=some (bif dy f l[i]! (top&&wP (i+1=l.length))then false else true):=by cases top<;>rfl
 rw[e1']
 have hS:dy f l[i]! (top&&wP (i+1=l.length))=wO->O5 l[i]! =V (tA l[i]!):=fun h=>Sh _ (jr h).1
 revert hS
 generalize dy f l[i]! (top&&wP (i+1=l.length))=S
 intro hS
 generalize l[i]!.aH=A at k1 hin ⊢
 generalize l[i]!.aL=B at k2 hin ⊢
 cases S with
 |false=>simp
 |true=>
  rw[hS rfl]
  generalize tA l[i]! =N
  cases N with
  |false=>simp
  |true=>
   generalize eH f.ah wN l[i]!.az=T
   generalize b9 f wN A=a at*
   generalize b9 f wN B=b at*
   by_cases hT:T=0
   ·by_cases ha:a=0
    ·by_cases hb:b=0
     ·simp[hT,ha,hb,hw]
     ·simp[hT,ha,hb,k2]
    ·simp[hT,ha,k1]
   ·simp[hT]
def afA(M:aP->List au->Bool->Option l5)(f:aP)(hv:bX f.ah)(l:List au)(hl:l.length<=1000000)(top:Bool)(hM:∀s∈l,M f s.aH wN=V (b9 f wN s.aH)/\M f s.aL wN=V (b9 f wN s.aL)):acm M f l top=V (b9 f top l):=by
 obtain⟨i,e1,hc⟩:=sU (cO:=AL M) l (fun i=>⟨l,top,l,(l.length:Int),(i:Int),f⟩) (Vn f top l.length) (fun i hi=>YX M f hv l hl top hM i hi) (by unfold AL;simp)
 have e1':HA M ⟨l,top,l,(l.length:Int),0,f⟩=V ⟨l,top,l,(l.length:Int),(i:Int),f⟩:=e1
 rw[qQ f top l.length l 0 (by omega)]at hc
 unfold acm
 rw[e1']
 dsimp only
 rcases hc with ⟨rfl,hc⟩|⟨hi,h0,hc⟩
 ·rw[hc]
  simp
 ·rw[hc]
  obtain⟨k1,k2⟩:=hM _ (aX hi)
  have hin:=Gn M f l l[i]!.aH l[i]!.aL top (l.length:Int) (i:Int) _ _ k1 k2
  have hlen:(([l[i]!.aH,l[i]!.aL]:List (List au)).length:Int)=2:=rfl
  have hi1:(i:Int)<(l.length:Int):=by omega
  have hi0:(0:Int)<=(i:Int):=by omega
  revert h0
  unfold Vn oT
  simp only[za,aq.eta,au.eta,QF,QU l.length i hl,Cq f.ah hv,hlen,hin,hi1,hi0,dx,bE,ew,cz]
  have e1':(bif top then some (bif dy f l[i]! (wP (i+1=l.length))then false else true)else some (bif dy f l[i]! false then false else true))=some (bif dy f l[i]! (top&&wP (i+1=l.length))then false else true):=by cases top<;>rfl
  rw[e1']
  have hS:dy f l[i]! (top&&wP (i+1=l.length))=wO->O5 l[i]! =V (tA l[i]!):=fun h=>Sh _ (jr h).1
  revert hS
  generalize dy f l[i]! (top&&wP (i+1=l.length))=S
  intro hS
  generalize l[i]!.aH=A at k1 hin ⊢
  generalize l[i]!.aL=B at k2 hin ⊢
  cases S with
  |false=>simp
  |true=>
   rw[hS rfl]
   generalize tA l[i]! =N
   cases N with
   |false=>simp
   |true=>
    generalize eH f.ah wN l[i]!.az=T
    generalize b9 f wN A=a at*
    generalize b9 f wN B=b at*
    by_cases hT:T=0
    ·by_cases ha:a=0
     ·by_cases hb:b=0
      ·simp[hT,ha,hb]
      ·simp[hT,ha,hb,k2]
     ·simp[hT,ha,k1]
    ·simp[hT]
def He(f:aP)(hv:bX f.ah):∀(n:Nat) (l:List au) (top:Bool),SizeOf.sizeOf l<n->fO l<=1000->M0 n f l top=V (b9 f top l)
 |0,_,_,h,_=>by omega
 |n+1,l,top,h,h2=>afA (M0 n) f hv l (by have:=jQ l;omega) top (fun s hs=>⟨He f hv n _ _ (by have:=aV hs;omega) (by have:=ga hs;omega),He f hv n _ _ (by have:=aV hs;omega) (by have:=ga hs;omega)⟩)
def ae5(f:aP)(hv:bX f.ah)(l:List au)(top:Bool)(h:fO l<=1000):abd f l top=V (b9 f top l):=eE (SizeOf.sizeOf l+1) fun n hn=>He f hv n l top (by omega) h
def QI{f:aP}{s:au}{last:Bool}(h:dy f s last=wO)(c:Int)(hc:c=if s.bN=2 then 67108864 else 10000):
  ((bif wP (s.aQ<0)then V wO else bif wP (c<s.aQ)then V wO else bif wP (s.fN<0)then V wO else bif wP (s.bN=4)then V (wP (4096<s.fN))else V wN):Option Bool)=V (!(wP (0<=s.aQ/\s.aQ<=c)&&(if s.bN=4 then wP (0<=s.fN/\s.fN<=4096)else wO))):=by
 obtain⟨b1,b2,b3,b4,b5⟩:=jr h
 have hd:∀(p:Prop) [Decidable p],(!decide p)=wP (¬p):=fun p _=>by by_cases hp:p<;>simp[hp]
 by_cases h1:s.aQ<0
 ·simp[h1,show ¬0<=s.aQ by omega]
 by_cases h2:c<s.aQ
 ·simp[h1,h2,show ¬s.aQ<=c by omega]
 by_cases h3:s.fN<0
 ·have h4:s.bN=4:=by
   by_cases h4:s.bN=4
   ·exact h4
   ·have:=b5 h4;omega
  simp[h1,h2,h3,h4,show ¬0<=s.fN by omega]
 by_cases h4:s.bN=4
 ·simp[h1,h2,h3,h4,show 0<=s.aQ by omega,show s.aQ<=c by omega,show 0<=s.fN by omega]
  by_cases h5:4096<s.fN
  ·simp[h5]
  ·simp[h5];omega
 ·simp[h1,h2,h3,h4,show 0<=s.aQ by omega,show s.aQ<=c by omega]
def Rx{f:aP}{s:au}{last:Bool}(h:dy f s last=wO):
  ((bif wP (0<(s.aJ.length:Int))then if(0:Int)<=i64.wrap ((s.aJ.length:Int)-(1:Int))/\i64.wrap ((s.aJ.length:Int)-(1:Int))<(s.aJ.length:Int)then V (wP (67108864<s.aJ[(i64.wrap ((s.aJ.length:Int)-1)).toNat]!))else O else V wN):Option Bool)=V (!(if s.bN=6 then wP (s.aJ[s.aJ.length-1]!<=67108864)else wO)):=by
 obtain⟨b1,b2,b3,b4,b5⟩:=jr h
 by_cases h6:s.bN=6
 ·obtain⟨b1,b2⟩:=b1 h6
  have hw:i64.wrap ((s.aJ.length:Int)-1)=(s.aJ.length:Int)-1:=aF
  have hw2:((s.aJ.length:Int)-1).toNat=s.aJ.length-1:=by omega
  rw[hw,hw2,sw,bE,bw ⟨by omega,by omega⟩,bw h6]
  generalize s.aJ[s.aJ.length-1]! =B
  by_cases h:67108864<B
  ·simp[h]
  ·simp[h];omega
 ·rw[bO (by have:=b2 h6;omega),bF h6]
  rfl
def abH(M:aP->List au->Bool->Option oo)(f:aP)(hv:bX f.ah)(l:List au)(hl:l.length<=1000000)(hB:∀s∈l,s.aJ.length<=1000000)(top:Bool)(hM:∀s∈l,M f s.aH wN=V (b9 f wN s.aH)/\M f s.aL wN=V (b9 f wN s.aL))(i:Nat)(hi:i<l.length):
  (Vn f top l.length i l[i]! =0->Bg M ⟨l,top,(i:Int),f⟩=V (V ⟨l,top,((i+1:Nat):Int),f⟩))/\(Vn f top l.length i l[i]!≠0->Bg M ⟨l,top,(i:Int),f⟩=V O):=by
 have hw:=gF hi hl
 obtain⟨k1,k2⟩:=hM _ (aX hi)
 have hb:=hB _ (aX hi)
 have hi1:(i:Int)<(l.length:Int):=by omega
 have hi0:(0:Int)<=(i:Int):=by omega
 unfold Bg Vn oT
 dsimp only
 simp only[za,aq.eta,au.eta,RL f l[i]! _ hb,QU l.length i hl,CU f.ah hv,hw,hi1,hi0,dx,bE,ew,cz]
 have e1':(bif top then some (bif dy f l[i]! (wP (i+1=l.length))then false else true)else some (bif dy f l[i]! false then false else true))=some (bif dy f l[i]! (top&&wP (i+1=l.length))then false else true):=by cases top<;>rfl
 rw[e1']
 cases hS:dy f l[i]! (top&&wP (i+1=l.length))with
 |false=>simp
 |true=>
  have hn:=QI hS
  rw[Rx hS]
  unfold tA
  generalize (if l[i]!.bN=6 then wP (l[i]!.aJ[l[i]!.aJ.length-1]!<=67108864)else wO)=B6
  by_cases h2:l[i]!.bN=2
  ·rw[bw h2]at hn ⊢
   rw[bP h2,hn 67108864 rfl]
   generalize (wP (0<=l[i]!.aQ/\l[i]!.aQ<=67108864)&&(if l[i]!.bN=4 then wP (0<=l[i]!.fN/\l[i]!.fN<=4096)else wO))=N
   generalize eH f.ah wN l[i]!.az=T
   generalize l[i]!.aH=A at k1 ⊢
   generalize l[i]!.aL=B at k2 ⊢
   generalize b9 f wN A=a at*
   generalize b9 f wN B=b at*
   cases N with
   |false=>simp
   |true=>
    cases B6 with
    |false=>simp
    |true=>
     by_cases hT:T=0
     ·by_cases ha:a=0
      ·by_cases hb:b=0
       ·simp[hT,ha,hb,k1,k2]
       ·simp[hT,ha,hb,k1,k2]
      ·simp[hT,ha,k1]
     ·simp[hT]
  ·rw[bF h2]at hn ⊢
   rw[bO h2,hn 10000 rfl]
   generalize (wP (0<=l[i]!.aQ/\l[i]!.aQ<=10000)&&(if l[i]!.bN=4 then wP (0<=l[i]!.fN/\l[i]!.fN<=4096)else wO))=N
   generalize eH f.ah wN l[i]!.az=T
   generalize l[i]!.aH=A at k1 ⊢
   generalize l[i]!.aL=B at k2 ⊢
   generalize b9 f wN A=a at*
   generalize b9 f wN B=b at*
   cases N with
   |false=>simp
   |true=>
    cases B6 with
    |false=>simp
    |true=>
     by_cases hT:T=0
     ·by_cases ha:a=0
      ·by_cases hb:b=0
       ·simp[hT,ha,hb,k1,k2]
       ·simp[hT,ha,hb,k1,k2]
      ·simp[hT,ha,k1]
     ·simp[hT]
def aco(M:aP->List au->Bool->Option oo)(f:aP)(hv:bX f.ah)(l:List au)(hl:l.length<=1000000)(hB:∀s∈l,s.aJ.length<=1000000)(top:Bool)(hM:∀s∈l,M f s.aH wN=V (b9 f wN s.aH)/\M f s.aL wN=V (b9 f wN s.aL)):agX M f l top=V (b9 f top l):=by
 obtain⟨i,e1,hc⟩:=sU (cO:=Bg M) l (fun i=>⟨l,top,(i:Int),f⟩) (Vn f top l.length) (fun i hi=>abH M f hv l hl hB top hM i hi) (by unfold Bg;simp)
 have e1':Hw M ⟨l,top,0,f⟩=V ⟨l,top,(i:Int),f⟩:=e1
 rw[qQ f top l.length l 0 (by omega)]at hc
 unfold agX
 rw[e1']
 dsimp only
 rcases hc with ⟨rfl,hc⟩|⟨hi,h0,hc⟩
 ·rw[hc]
  simp
 ·rw[hc]
  obtain⟨k1,k2⟩:=hM _ (aX hi)
  have hb:=hB _ (aX hi)
  have hi1:(i:Int)<(l.length:Int):=by omega
  have hi0:(0:Int)<=(i:Int):=by omega
  revert h0
  unfold Vn oT
  simp only[za,aq.eta,au.eta,RL f l[i]! _ hb,QU l.length i hl,CU f.ah hv,hi1,hi0,dx,bE,ew,cz]
  have e1':(bif top then some (bif dy f l[i]! (wP (i+1=l.length))then false else true)else some (bif dy f l[i]! false then false else true))=some (bif dy f l[i]! (top&&wP (i+1=l.length))then false else true):=by cases top<;>rfl
  rw[e1']
  cases hS:dy f l[i]! (top&&wP (i+1=l.length))with
  |false=>simp
  |true=>
   have hn:=QI hS
   rw[Rx hS]
   unfold tA
   generalize (if l[i]!.bN=6 then wP (l[i]!.aJ[l[i]!.aJ.length-1]!<=67108864)else wO)=B6
   by_cases h2:l[i]!.bN=2
   ·rw[bw h2]at hn ⊢
    rw[bP h2,hn 67108864 rfl]
    generalize (wP (0<=l[i]!.aQ/\l[i]!.aQ<=67108864)&&(if l[i]!.bN=4 then wP (0<=l[i]!.fN/\l[i]!.fN<=4096)else wO))=N
    generalize eH f.ah wN l[i]!.az=T
    generalize l[i]!.aH=A at k1 ⊢
    generalize l[i]!.aL=B at k2 ⊢
    generalize b9 f wN A=a at*
    generalize b9 f wN B=b at*
    cases N with
    |false=>simp
    |true=>
     cases B6 with
     |false=>simp
     |true=>
      by_cases hT:T=0
      ·by_cases ha:a=0
       ·by_cases hb:b=0
        ·simp[hT,ha,hb,k1,k2]
        ·simp[hT,ha,hb,k1,k2]
       ·simp[hT,ha,k1]
      ·simp[hT]
   ·rw[bF h2]at hn ⊢
    rw[bO h2,hn 10000 rfl]
    generalize (wP (0<=l[i]!.aQ/\l[i]!.aQ<=10000)&&(if l[i]!.bN=4 then wP (0<=l[i]!.fN/\l[i]!.fN<=4096)else wO))=N
    generalize eH f.ah wN l[i]!.az=T
    generalize l[i]!.aH=A at k1 ⊢
    generalize l[i]!.aL=B at k2 ⊢
    generalize b9 f wN A=a at*
    generalize b9 f wN B=b at*
    cases N with
    |false=>simp
    |true=>
     cases B6 with
     |false=>simp
     |true=>
      by_cases hT:T=0
      ·by_cases ha:a=0
       ·by_cases hb:b=0
        ·simp[hT,ha,hb,k1,k2]
        ·simp[hT,ha,hb,k1,k2]
       ·simp[hT,ha,k1]
      ·simp[hT]
def Jt(f:aP)(hv:bX f.ah):∀(n:Nat) (l:List au) (top:Bool),SizeOf.sizeOf l<n->fO l<=1000->N2 n f l top=V (b9 f top l)
 |0,_,_,h,_=>by omega
 |n+1,l,top,h,h2=>aco (N2 n) f hv l (by have:=jQ l;omega) (fun s hs=>by have:=CZ hs;have:=oH s;omega) top (fun s hs=>⟨Jt f hv n _ _ (by have:=aV hs;omega) (by have:=ga hs;omega),Jt f hv n _ _ (by have:=aV hs;omega) (by have:=ga hs;omega)⟩)
def agh(f:aP)(hv:bX f.ah)(l:List au)(top:Bool)(h:fO l<=1000):afM f l top=V (b9 f top l):=eE (SizeOf.sizeOf l+1) fun n hn=>Jt f hv n l top (by omega) h
def ZI(f:aP)(hv:bX f.ah)(hl:f.aj.length<=1000000)(i:Nat)(hi:i<f.aj.length):
  (lU f i f.aj[i]! =0->AD ⟨f.aj,(f.aj.length:Int),(i:Int),f⟩=V (V ⟨f.aj,(f.aj.length:Int),((i+1:Nat):Int),f⟩))/\(lU f i f.aj[i]!≠0->AD ⟨f.aj,(f.aj.length:Int),(i:Int),f⟩=V O):=by
 have hw:=gF hi hl
 have h2:=RW (f.aj.take i) (by rw[zZ];omega) f.aj[i]!
 unfold AD lU
 dsimp only
 simp only[za,aq.eta,dc.eta,Ck,CR,h2,Cq f.ah hv,hw]
 generalize je f.aj[i]!.fName=B
 generalize ((f.aj.take i).any fun w=>w.fName.toList==f.aj[i]!.fName.toList)=A
 generalize gM f.aj[i]!.af f.aj[i]!.aa=C
 generalize eH f.ah wO f.aj[i]!.az=T
 have hi1:(i:Int)<(f.aj.length:Int):=by omega
 have hi0:(0:Int)<=(i:Int):=by omega
 have hi2:(i:Int)<=(f.aj.length:Int):=by omega
 simp only[hi0,hi1,hi2,ew,cz,dx,bE]
 cases A<;>cases B<;>cases C<;>by_cases hT:T=0<;>simp[hT]
def afE(f:aP)(hv:bX f.ah)(hl:f.aj.length<=1000000):aaW f=V (cw (lU f) f.aj 0):=by
 obtain⟨i,e1,hc⟩:=sU (cO:=AD) f.aj (fun i=>⟨f.aj,(f.aj.length:Int),(i:Int),f⟩) (lU f) (fun i hi=>ZI f hv hl i hi) (by unfold AD;simp)
 have e1':Hq ⟨f.aj,(f.aj.length:Int),0,f⟩=V ⟨f.aj,(f.aj.length:Int),(i:Int),f⟩:=e1
 unfold aaW
 rw[e1']
 dsimp only
 rcases hc with ⟨rfl,hc⟩|⟨hi,h0,hc⟩
 ·rw[hc]
  simp
 ·rw[hc]
  have h2:=RW (f.aj.take i) (by rw[zZ];omega) f.aj[i]!
  revert h0
  unfold lU
  simp only[za,aq.eta,dc.eta,Ck,CR,h2,Cq f.ah hv]
  generalize je f.aj[i]!.fName=B
  generalize ((f.aj.take i).any fun w=>w.fName.toList==f.aj[i]!.fName.toList)=A
  generalize gM f.aj[i]!.af f.aj[i]!.aa=C
  generalize eH f.ah wO f.aj[i]!.az=T
  have hi1:(i:Int)<(f.aj.length:Int):=by omega
  have hi0:(0:Int)<=(i:Int):=by omega
  have hi2:(i:Int)<=(f.aj.length:Int):=by omega
  simp only[hi0,hi1,hi2,ew,cz,dx,bE]
  cases A<;>cases B<;>cases C<;>by_cases hT:T=0<;>simp[hT]
def acR(f:aP)(hv:bX f.ah)(hl:f.aj.length<=1000000)(i:Nat)(hi:i<f.aj.length):
  (lU f i f.aj[i]! =0->Gf ⟨(i:Int),f⟩=V (V ⟨((i+1:Nat):Int),f⟩))/\(lU f i f.aj[i]!≠0->Gf ⟨(i:Int),f⟩=V O):=by
 have hw:=gF hi hl
 obtain⟨j,h2,h3⟩:=Li f hl i (by omega) f.aj[i]!
 unfold Gf lU
 dsimp only
 simp only[za,aq.eta,dc.eta,CA,CB,h2,CU f.ah hv,hw]
 generalize je f.aj[i]!.fName=B
 generalize ((f.aj.take i).any fun w=>w.fName.toList==f.aj[i]!.fName.toList)=A at h3
 generalize gM f.aj[i]!.af f.aj[i]!.aa=C
 generalize eH f.ah wO f.aj[i]!.az=T
 have hi1:(i:Int)<(f.aj.length:Int):=by omega
 have hi0:(0:Int)<=(i:Int):=by omega
 simp only[hi0,hi1,ew,cz,dx,bE]
 rcases h3 with ⟨rfl,rfl⟩|⟨hj,h4,rfl⟩
 ·cases B<;>cases C<;>by_cases hT:T=0<;>simp[hT]
 ·have hj1:(j:Int)<(i:Int):=by omega
  have hj2:(j:Int)<(f.aj.length:Int):=by omega
  have hj0:(0:Int)<=(j:Int):=by omega
  simp only[hj0,hj1,hj2,h4,ew,cz,dx,bE]
  cases B<;>simp
def Xk(f:aP)(hv:bX f.ah)(hl:f.aj.length<=1000000):∃i:Nat,S4 ⟨0,f⟩=V ⟨(i:Int),f⟩/\((i=f.aj.length/\cw (lU f) f.aj 0=0)\/(i<f.aj.length/\lU f i f.aj[i]!≠0/\cw (lU f) f.aj 0=lU f i f.aj[i]!)):=
 sU (cO:=Gf) f.aj (fun i=>⟨(i:Int),f⟩) (lU f) (fun i hi=>acR f hv hl i hi) (by unfold Gf;simp)
def Ay{f:aP}{i:Nat}(hi:i<f.aj.length):jK ((f.aj.take i).map (·.az))+nT f.aj[i]!.az<=jK (f.aj.map (·.az)):=by
 have h:=EX (f.aj.map (·.az)) (i+1)
 rw[<-xD,bS hi,yc,CO]at h
 simpa [jK]using h
def ab5(f:aP)(h:fO f.bJ+jK (f.aj.map (·.az))<=900)(hl:f.aj.length<=1000000):adS f=V (pK f):=by
 unfold adS pK
 by_cases h1:64<(f.ah.length:Int)
 ·simp[h1,show ¬f.ah.length<=64 by omega]
 by_cases h2:8<(f.aj.length:Int)
 ·simp[h1,h2,show ¬f.aj.length<=8 by omega]
 rw[bO h1,bO h2,bP (show f.ah.length<=64 by omega),bP (show f.aj.length<=8 by omega)]
 dsimp only[bA,bE]
 have hb:=CK f.bJ
 rw[ac6 f.bJ (by omega)]
 obtain⟨i,b,e1,hI,hc⟩:=oK (cO:=Fi) f.aj.length (fun i (b:Int)=>⟨b,(i:Int),f⟩) (fun i b=>(0<=b/\b<=fO f.bJ+jK ((f.aj.take i).map (·.az)))/\∀j,j<i->dT f.aj[j]!.az<=12) (fun i _=>12<dT f.aj[i]!.az) (fun i b hi hI=>by
  have hn:=Ay hi
  have hw:=gF hi hl
  have k1:=Ih f.aj[i]!.az (by omega)
  have k2:=HW f.aj[i]!.az (by omega)
  have hi1:(i:Int)<(f.aj.length:Int):=by omega
  have hi0:(0:Int)<=(i:Int):=by omega
  by_cases hd:12<dT f.aj[i]!.az
  ·refine .inr ⟨?_,hd⟩
   unfold Fi
   dsimp only
   simp only[za,aq.eta,k1,k2,hi1,hi0,dx,bE,ew,cz,hd]
  ·refine .inl ⟨b+nT f.aj[i]!.az,?_,⟨by omega,?_⟩,fun j hj=> ?_⟩
   ·have hw2:i64.wrap (b+(nT f.aj[i]!.az:Int))=b+nT f.aj[i]!.az:=aF
    unfold Fi
    dsimp only
    simp only[za,aq.eta,k1,k2,hi1,hi0,dx,bE,ew,cz,hd,gh,bA,hw,hw2]
   ·rw[bS hi,yc,CO]
    simp only[yh,y5,qM,show jK []=0 from rfl]
    omega
   ·rcases yT.1 hj with h|h
    ·exact hI.2 j h
    ·subst h;omega) (fun b _=>by unfold Fi;simp) (b:=gD f.bJ) ⟨⟨by omega,by simp only[xE,y5,show jK []=0 from rfl];omega⟩,fun j hj=>cQ hj (by omega)⟩
 have e1':J4 ⟨gD f.bJ,0,f⟩=V ⟨b,(i:Int),f⟩:=e1
 dsimp only
 rw[e1']
 dsimp only
 rcases hc with rfl|⟨hi,hd⟩
 ·rw[bO (show ¬((f.aj.length:Int)<(f.aj.length:Int))by omega),bA]
  have ha:f.aj.all (fun h=>wP (dT h.az<=12))=wO:=DM fun j hj=>by simpa using hI.2 j hj
  have hn:=hI.1.2
  rw[zM]at hn
  rw[ha,bP (show b<=1024 by omega),bE,adD f.bJ (by omega),adh f.bJ (by omega)]
  by_cases h5:jG f.bJ<=12
  ·cases fI f.bJ<;>simp[h5]
  ·simp[h5]
 ·have hn:=Ay hi
  have k1:=Ih f.aj[i]!.az (by omega)
  have k2:=HW f.aj[i]!.az (by omega)
  have hi1:(i:Int)<(f.aj.length:Int):=by omega
  have hi0:(0:Int)<=(i:Int):=by omega
  have ha:f.aj.all (fun h=>wP (dT h.az<=12))=wN:=wY hi (by simpa using hd)
  simp only[za,aq.eta,k1,k2,hi1,hi0,dx,bE,ew,cz,hd,ha,Bool.and_false,Bool.false_and]
def ae9(M:List au->Int->aU->Option sB)(l:List au)(hM:∀s∈l,∀(d:Int) (b:aU),0<=d->d<=13->0<=b.bC->(b.bC+fO s.aH<=1000->M s.aH d b=V (nN d s.aH b))/\(b.bC+fO s.aL<=1000->M s.aL d b=V (nN d s.aL b)))(d:Int)(b:aU)(h0:0<=d)(hd:d<=13)(h1:0<=b.bC)(h2:b.bC+fO l<=1000):agV M l d b=V (nN d l b):=by
 have hL:=jQ l
 have hw1:i64.wrap (d+1)=d+1:=aF
 have hgo:∀(l:List au) (i:Nat) (b:aU),OW (fun _ (b:aU) (s:au)=>if eX (de d b)=wO then(.inr (de d b):aU ⊕ aU)else .inl (nN (d+1) s.aL (nN (d+1) s.aH (uo s.az 1 (de d b))))) id id l i b=nN d l b:=by
  intro l
  induction l with
  |nil=>intro i b;rw[nN];rfl
  |cons s l ih=>
   intro i b
   rw[nN]
   by_cases ho:eX (de d b)=wO
   ·rw[bw ho,CJ (r:=de d b) (by rw[bw ho])];rfl
   ·rw[bF ho,Aa (b':=nN (d+1) s.aL (nN (d+1) s.aH (uo s.az 1 (de d b)))) (by rw[bF ho])]
    exact ih (i+1) _
 have hm:∀(b:aU) (x:Bool),-1000000<=b.bC->b.bC<=1000000->x=(b.fG||wP (12<d))->jA ⟨i64.wrap (b.bC+1),x⟩=(eX (de d b),de d b):=fun b x b1 b2 hx=>by
  rw[wT,aF,hx]
  rfl
 have hs:∀(i:Nat) (b:aU),i<l.length->0<=b.bC->b.bC+nS l[i]!<=1000->eX (de d b)=wN->d<=12/\FD l[i]!.az 1 (de d b)=V (uo l[i]!.az 1 (de d b))/\M l[i]!.aH (d+1) (uo l[i]!.az 1 (de d b))=V (nN (d+1) l[i]!.aH (uo l[i]!.az 1 (de d b)))/\M l[i]!.aL (d+1) (nN (d+1) l[i]!.aH (uo l[i]!.az 1 (de d b)))=V (nN (d+1) l[i]!.aL (nN (d+1) l[i]!.aH (uo l[i]!.az 1 (de d b))))/\0<=(nN (d+1) l[i]!.aL (nN (d+1) l[i]!.aH (uo l[i]!.az 1 (de d b)))).bC/\(nN (d+1) l[i]!.aL (nN (d+1) l[i]!.aH (uo l[i]!.az 1 (de d b)))).bC<=b.bC+nS l[i]! :=fun i b hi b1 b2 ho=>by
  have hd2:d<=12:=by unfold eX de at ho;grind
  have hN:=oH l[i]!
  have hp:(de d b).bC=b.bC+1:=rfl
  obtain⟨a1,a2,a3⟩:=JX l[i]!.az 1 (de d b) (by omega) (by omega) (by omega)
  obtain⟨c1,c2,c3⟩:=Qf (d+1) l[i]!.aH (uo l[i]!.az 1 (de d b)) (by omega) (by omega) (by omega) (by omega)
  obtain⟨g1,g2,g3⟩:=Qf (d+1) l[i]!.aL (nN (d+1) l[i]!.aH (uo l[i]!.az 1 (de d b))) (by omega) (by omega) (by omega) (by omega)
  exact⟨hd2,RG _ 1 _ (by omega) (by omega) (by omega) (by omega),(hM _ (aX hi) (d+1) _ (by omega) (by omega) (by omega)).1 (by omega),(hM _ (aX hi) (d+1) _ (by omega) (by omega) (by omega)).2 (by omega),by omega,by omega⟩
 obtain⟨i,v,e1,hI,hc⟩:=Y7 (cO:=DO M) l (fun i (b:aU)=>⟨d,l,(l.length:Int),(i:Int),b⟩) (fun _ (b:aU) (s:au)=>if eX (de d b)=wO then(.inr (de d b):aU ⊕ aU)else .inl (nN (d+1) s.aL (nN (d+1) s.aH (uo s.az 1 (de d b))))) id id (fun i x=>0<=x.bC/\x.bC<=b.bC+fO (l.take i)) (fun i x hi hx=>by
   have hn:=Fp hi
   have hw:=gF hi (by omega)
   have hi1:(i:Int)<(l.length:Int):=by omega
   have hi0:(0:Int)<=(i:Int):=by omega
   have hmx:=hm x
   cases ho:eX (de d x)with
   |true=>
    refine⟨fun b' hb'=>by simp at hb',fun r hr=> ?_⟩
    unfold DO
    dsimp only
    simp only[za,hi1,hi0,dx,bE,ew,cz]
    cases hb:x.fG with
    |true=>rw[hmx wO (by omega) (by omega) (by rw[hb];rfl),ho];rfl
    |false=>rw[hmx (wP (12<d)) (by omega) (by omega) (by rw[hb];rfl),ho];rfl
   |false=>
    obtain⟨q0,q1,q2,q3,q4,q5⟩:=hs i x hi hx.1 (by omega) ho
    refine⟨fun b' hb'=> ?_,fun r hr=>by simp at hr⟩
    have hb':nN (d+1) l[i]!.aL (nN (d+1) l[i]!.aH (uo l[i]!.az 1 (de d x)))=b':=by simpa using hb'
    subst hb'
    refine⟨?_,⟨q4,by rw[bS hi,Lu];omega⟩⟩
    unfold DO
    dsimp only
    simp only[za,hi1,hi0,dx,bE,ew,cz]
    cases hb:x.fG with
    |true=>rw[hmx wO (by omega) (by omega) (by rw[hb];rfl),ho];simp only[aq.eta,q1,q2,q3,hw1,hw,bE,bA]
    |false=>rw[hmx (wP (12<d)) (by omega) (by omega) (by rw[hb];rfl),ho];simp only[aq.eta,q1,q2,q3,hw1,hw,bE,bA]) (fun x _=>by unfold DO;simp) (b:=b) ⟨h1,by simp[fO]⟩
 have e1':JY M ⟨d,l,(l.length:Int),0,b⟩=V ⟨d,l,(l.length:Int),(i:Int),v⟩:=e1
 rw[hgo]at hc
 unfold agV
 rw[e1']
 dsimp only
 rcases hc with ⟨rfl,hc⟩|⟨hi,r,hr,hc⟩
 ·rw[hc,fy]
  rfl
 ·have hn:=Fp hi
  have hi1:(i:Int)<(l.length:Int):=by omega
  have hi0:(0:Int)<=(i:Int):=by omega
  have ho:eX (de d v)=wO:=by
   by_cases ho:eX (de d v)=wO
   ·exact ho
   ·rw[bF ho]at hr;cases hr
  rw[bw ho]at hr
  cases hr
  rw[hc]
  have hmx:=hm v
  simp only[za,hi1,hi0,dx,bE,ew,cz]
  cases hb:v.fG with
  |true=>rw[hmx wO (by omega) (by omega) (by rw[hb];rfl),ho];rfl
  |false=>rw[hmx (wP (12<d)) (by omega) (by omega) (by rw[hb];rfl),ho];rfl
def Jw:∀(n:Nat) (l:List au) (d:Int) (b:aU),SizeOf.sizeOf l<n->0<=d->d<=13->0<=b.bC->b.bC+fO l<=1000->Ql n l d b=V (nN d l b)
 |0,_,_,_,h,_,_,_,_=>by omega
 |n+1,l,d,b,h,h0,hd,h1,h2=>ae9 (Ql n) l (fun s hs d b a1 a2 a3=>⟨fun a4=>Jw n _ d b (by have:=aV hs;omega) a1 a2 a3 a4,fun a4=>Jw n _ d b (by have:=aV hs;omega) a1 a2 a3 a4⟩) d b h0 hd h1 h2
def agL(l:List au)(d:Int)(b:aU)(h0:0<=d)(hd:d<=13)(h1:0<=b.bC)(h2:b.bC+fO l<=1000):Wp l d b=V (nN d l b):=eE (SizeOf.sizeOf l+1) fun n hn=>Jw n l d b (by omega) h0 hd h1 h2
def aeG(f:aP)(h:fO f.bJ+jK (f.aj.map (·.az))<=900)(hl:f.aj.length<=1000000):∃r q,Wp f.bJ 1 ⟨0,wN⟩=V r/\DX ⟨f.aj,(f.aj.length:Int),0,f,r⟩=V ⟨f.aj,(f.aj.length:Int),(f.aj.length:Int),f,q⟩/\eX q= !(f.aj.all (fun h=>wP (dT h.az<=12))&&wP (jG f.bJ<=12)&& !fI f.bJ):=by
 obtain⟨p1,p2,p3⟩:=Qf 1 f.bJ ⟨0,wN⟩ (by omega) (by omega) (zg 0) (by show (0:Int)+_<=_;omega)
 have p2:0<=(nN 1 f.bJ ⟨0,wN⟩).bC:=p2
 have p3:(nN 1 f.bJ ⟨0,wN⟩).bC<=0+fO f.bJ:=p3
 refine⟨nN 1 f.bJ ⟨0,wN⟩,?_⟩
 have p4:=agL f.bJ 1 ⟨0,wN⟩ (by omega) (by omega) (zg 0) (by show (0:Int)+_<=_;omega)
 generalize nN 1 f.bJ ⟨0,wN⟩=r at*
 obtain⟨q,e1,hI⟩:=dH (cO:=E5) f.aj.length (fun i (q:aU)=>⟨f.aj,(f.aj.length:Int),(i:Int),f,q⟩) (fun i q=>q.fG=(r.fG||(f.aj.take i).any fun h=>wP (12<dT h.az))/\0<=q.bC/\q.bC<=r.bC+jK ((f.aj.take i).map (·.az))) (fun i q hi hI=>by
  have hn:=Ay hi
  have hw:=gF hi hl
  have hi1:(i:Int)<(f.aj.length:Int):=by omega
  have hi0:(0:Int)<=(i:Int):=by omega
  have hn2:jK ((f.aj.take (i+1)).map (·.az))=jK ((f.aj.take i).map (·.az))+nT f.aj[i]!.az:=by
   rw[bS hi,yc,CO]
   simp[jK]
  have ha:((f.aj.take (i+1)).any fun h=>wP (12<dT h.az))=(((f.aj.take i).any fun h=>wP (12<dT h.az))||wP (12<dT f.aj[i]!.az)):=by
   rw[bS hi,List.any_append,List.any_cons,List.any_nil,Bool.or_false]
  rw[ha,hn2]
  obtain⟨q1,q2,q3⟩:=hI
  cases ho:eX q with
  |true=>
   refine⟨q,?_,?_,q2,by omega⟩
   ·unfold E5
    dsimp only
    simp only[za,hi1,hi0,dx,bE,bA,ew,cz,wT,ho,hw]
   ·unfold eX at ho
    rw[bO (show ¬1024<q.bC by omega),Bool.or_false]at ho
    rw[<-Bool.or_assoc,<-q1,ho]
    rfl
  |false=>
   obtain⟨c1,c2,c3⟩:=JX f.aj[i]!.az 1 q (by omega) q2 (by omega)
   have k:=RG f.aj[i]!.az 1 q (by omega) (by omega) q2 (by omega)
   refine⟨uo f.aj[i]!.az 1 q,?_,?_,by omega,by omega⟩
   ·unfold E5
    dsimp only
    simp only[za,aq.eta,hi1,hi0,dx,bE,bA,ew,cz,wT,ho,hw,k]
   ·rw[c1,q1,Bool.or_assoc]
    rw[show wP (12<1-1+dT f.aj[i]!.az)=wP (12<dT f.aj[i]!.az)from decide_eq_decide.2 (by omega)]) (fun q _=>by unfold E5;simp) (b:=r) ⟨by simp,p2,by simp[jK]⟩
 have e1':DX ⟨f.aj,(f.aj.length:Int),0,f,r⟩=V ⟨f.aj,(f.aj.length:Int),(f.aj.length:Int),f,q⟩:=e1
 refine⟨q,p4,e1',?_⟩
 rw[zM]at hI
 obtain⟨q1,q2,q3⟩:=hI
 unfold eX
 rw[bO (show ¬1024<q.bC by omega),Bool.or_false,q1,p1]
 have e2:(f.aj.any fun h=>wP (12<dT h.az))= !(f.aj.all fun h=>wP (dT h.az<=12)):=by
  rw[List.not_all_eq_any_not]
  congr 1
  funext h
  by_cases hd:dT h.az<=12
  ·simp[hd]
  ·simp[hd];omega
 have e3:wP (12<1-1+jG f.bJ)= !wP (jG f.bJ<=12):=by
  by_cases hd:jG f.bJ<=12
  ·simp[hd]
  ·simp[hd];omega
 rw[e2,e3]
 generalize (f.aj.all fun h=>wP (dT h.az<=12))=x
 generalize wP (jG f.bJ<=12)=y
 generalize fI f.bJ=z
 cases x<;>cases y<;>cases z<;>rfl
def Bl:List au->Prop
 |[]=>True
 |s::l=>(0<=s.aQ/\s.aQ<=67108864)/\(s.bN=4->0<=s.fN/\s.fN<=4096)/\(s.bN≠3->s.bN≠4->s.aH=[])/\(s.bN≠3->s.aL=[])/\Bl s.aH/\Bl s.aL/\Bl l
termination_by l=>SizeOf.sizeOf l
decreasing_by
 ·exact(aV (zi ..)).1
 ·exact(aV (zi ..)).2
 ·exact dh _ _
def ako{s:au}(h:tA s=wO):(0<=s.aQ/\s.aQ<=67108864)/\(s.bN=4->0<=s.fN/\s.fN<=4096):=by
 unfold tA at h
 simp only[zf,decide_eq_true_eq]at h
 grind
def Am(f:aP):∀(n:Nat) (l:List au) (top:Bool),SizeOf.sizeOf l<n->b9 f top l=0->Bl l
 |0,_,_,h,_=>by omega
 |n+1,[],top,h,hc=>by rw[Bl];trivial
 |n+1,s::l,top,h,hc=>by
  rw[b9]at hc
  have hz:=aV (l:=s::l) (zi ..)
  have hz2:=dh s l
  by_cases h1:oT f (top&&l.isEmpty) s≠0
  ·rw[bw h1]at hc;exact cQ hc h1
  rw[bF h1]at hc
  by_cases h2:b9 f wN s.aH≠0
  ·rw[bw h2]at hc;exact cQ hc h2
  rw[bF h2]at hc
  by_cases h3:b9 f wN s.aL≠0
  ·rw[bw h3]at hc;exact cQ hc h3
  rw[bF h3]at hc
  have q1:=Am f n s.aH wN (by omega) (by omega)
  have q2:=Am f n s.aL wN (by omega) (by omega)
  have q3:=Am f n l top (by omega) hc
  have h1:oT f (top&&l.isEmpty) s=0:=by omega
  unfold oT at h1
  cases hS:dy f s (top&&l.isEmpty)with
  |false=>rw[hS]at h1;simp at h1
  |true=>
   rw[hS]at h1
   cases hN:tA s with
   |false=>rw[hN]at h1;simp at h1
   |true=>
    obtain⟨n1,n2⟩:=ako hN
    obtain⟨b1,b2,b3,b4,b5⟩:=jr hS
    rw[Bl]
    exact⟨n1,n2,b3,b4,q1,q2,q3⟩
def FI(s:au)(a b:Int×Int×Int):Int×Int×Int:=
 if s.bN=1 then(1,1,s.aQ)
 else if s.bN=3 then(1+max a.1 b.1,max a.2.1 b.2.1,s.aQ+max a.2.2 b.2.2)
 else if s.bN=4 then(1+s.fN*(1+a.1),s.fN*a.2.1,s.fN*(s.aQ+a.2.2))
 else(1,0,s.aQ)
def LD(a b:Int×Int×Int):Int×Int×Int:=(a.1+b.1,a.2.1+b.2.1,a.2.2+b.2.2)
def wX(s:au)(l:List au):cA (s::l)=LD (FI s (cA s.aH) (cA s.aL)) (cA l):=by
 rw[cA]
 unfold FI LD
 dsimp only
 split
 ·rfl
 ·split
  ·rfl
  ·split
   ·rfl
   ·simp
def Kj(l:List au)(s:au):cA (l++[s])=LD (cA l) (FI s (cA s.aH) (cA s.aL)):=by
 have h0:cA []=(0,0,0):=by rw[cA]
 induction l with
 |nil=>rw[yg,wX,h0];unfold LD;simp
 |cons a l ih=>
  rw[xw,wX,wX,ih]
  unfold LD
  simp only[Int.add_assoc]
def sM(c:Int×Int×Int)(a:Int×Int×Int):Int×Int×Int:=(min a.1 c.1,min a.2.1 c.2.1,min a.2.2 c.2.2)
def ahw{n x c k:Int}(hn:0<=n)(hk:0<=k)(hx:0<=x)(hc:0<=c):min (n*(k+min x c)) c=min (n*(k+x)) c:=by
 by_cases h:x<=c
 ·rw[wu h]
 ·rw[xJ (show c<=x by omega)]
  by_cases h0:n=0
  ·subst h0;simp
  ·have e1:1*(k+c)<=n*(k+c):=zG (by omega) (by omega)
   have e2:1*(k+x)<=n*(k+x):=zG (by omega) (by omega)
   rw[xJ (by omega),xJ (by omega)]
def nZ:∀{l:List au},Bl l->∀s∈l,(0<=s.aQ/\s.aQ<=67108864)/\(s.bN=4->0<=s.fN/\s.fN<=4096)/\(s.bN≠3->s.bN≠4->s.aH=[])/\(s.bN≠3->s.aL=[])/\Bl s.aH/\Bl s.aL
 |[],_,s,hs=>by cases hs
 |a::l,h,s,hs=>by
  rw[Bl]at h
  rcases zy.1 hs with rfl|hs
  ·exact⟨h.1,h.2.1,h.2.2.1,h.2.2.2.1,h.2.2.2.2.1,h.2.2.2.2.2.1⟩
  ·exact nZ h.2.2.2.2.2.2 s hs
def nn3(a:Int×Int×Int):Prop:=0<=a.1/\0<=a.2.1/\0<=a.2.2
def aj6{s:au}{a b:Int×Int×Int}(hc:0<=s.aQ)(hN:s.bN=4->0<=s.fN)(ha:nn3 a)(hb:nn3 b):nn3 (FI s a b):=by
 unfold nn3 at*
 unfold FI
 split
 ·exact⟨yN (by decide:(0:Int)<1),yN (by decide:(0:Int)<1),hc⟩
 ·split
  ·dsimp only;omega
  ·split
   ·rename_i h4
    have:=hN h4
    have e1:0<=s.fN*(1+a.1):=zq this (by omega)
    have e2:0<=s.fN*a.2.1:=zq this (by omega)
    have e3:0<=s.fN*(s.aQ+a.2.2):=zq this (by omega)
    dsimp only;omega
   ·exact⟨yN (by decide:(0:Int)<1),zg (0:Int),hc⟩
def HO:∀(n:Nat) (l:List au),SizeOf.sizeOf l<n->Bl l->nn3 (cA l)
 |0,_,h,_=>by omega
 |n+1,[],h,_=>by rw[show cA []=(0,0,0)by rw[cA]];exact⟨by decide,by decide,by decide⟩
 |n+1,s::l,h,ho=>by
  have hz:=aV (l:=s::l) (zi ..)
  have hz2:=dh s l
  rw[Bl]at ho
  have q1:=HO n s.aH (by omega) ho.2.2.2.2.1
  have q2:=HO n s.aL (by omega) ho.2.2.2.2.2.1
  have q3:=HO n l (by omega) ho.2.2.2.2.2.2
  have q4:=aj6 ho.1.1 (fun h=>(ho.2.1 h).1) q1 q2
  rw[wX]
  unfold nn3 LD at*
  dsimp only
  omega
def sg{l:List au}(h:Bl l):nn3 (cA l):=HO _ l (zw _) h
def De:∀{l:List au} (i:Nat),Bl l->Bl (l.take i)
 |[],i,h=>by rw[List.take_nil];exact h
 |s::l,0,h=>by rw[xE,Bl];trivial
 |s::l,i+1,h=>by
  rw[Bl]at h
  rw[List.take_succ_cons,Bl]
  exact⟨h.1,h.2.1,h.2.2.1,h.2.2.2.1,h.2.2.2.2.1,h.2.2.2.2.2.1,De i h.2.2.2.2.2.2⟩
def M3(a:Int×Int×Int):qC:=⟨a.1,a.2.1,a.2.2⟩
def MY:Int×Int×Int:=(1099511627776,1099511627776,1099511627776)
def G7:Int×Int×Int:=(4097,9,67108865)
def aex{n x:Int}(h1:0<=n)(h2:n<=4096)(h3:0<=x)(h4:x<=1200000000000):0<=n*x/\n*x<=4915200000000000:=by
 have e1:n*x<=4096*x:=zG h2 h3
 have e2:0<=n*x:=zq h1 h3
 omega
def kj(w c:Int):(if c<w then c else w)=min w c:=by omega
def aj3(w c:Int):(if w<c then w else c)=min w c:=by omega
def PX(a b c:Int):(if min a c<min b c then min b c else min a c)=min (max a b) c:=by omega
def afb(a b c:Int):(if min b c<min a c then min a c else min b c)=min (max a b) c:=by omega
section
variable {C x y m k n a:Int} (h0:0<=C) (h1:C<=1099511627776) (hx:0<=x)
include h0 h1 hx
theorem M5(hy:0<=y)(hy2:y<=67108864):min (i64.wrap (min x C+y)) C=min (x+y) C:=by
 rw[aF]
 omega
theorem UH(hm:0<=m)(hk:0<=k)(hk2:k<=67108864):min (i64.wrap (min x C+i64.wrap (k+min m C))) C=min (x+(k+m)) C:=by
 have:i64.wrap (k+min m C)=k+min m C:=aF
 rw[this,aF]
 omega
theorem ajI(hm:0<=m):min (i64.wrap (min x C+min m C)) C=min (x+m) C:=by
 rw[aF]
 omega
theorem alG{z:Int}(hz:0<=z)(hy:0<=y)(hy2:y<=4915200000000001)(h:min y C=min z C):min (i64.wrap (min x C+y)) C=min (x+z) C:=by
 rw[aF]
 omega
omit hx in
theorem WG(hn:0<=n)(hn2:n<=4096)(ha:0<=a)(hk:0<=k)(hk2:k<=67108864):i64.wrap (n*i64.wrap (k+min a C))=n*(k+min a C)/\0<=n*(k+min a C)/\n*(k+min a C)<=4915200000000000/\0<=n*(k+a)/\min (n*(k+min a C)) C=min (n*(k+a)) C:=by
 have e1:i64.wrap (k+min a C)=k+min a C:=aF
 have e2:=aex (x:=k+min a C) hn hn2 (by omega) (by omega)
 rw[e1]
 exact⟨aF,e2.1,e2.2,zq hn (by omega),ahw hn hk ha h0⟩
theorem arW(hn:0<=n)(hn2:n<=4096)(ha:0<=a)(hk:0<=k)(hk2:k<=67108864):min (i64.wrap (min x C+i64.wrap (n*i64.wrap (k+min a C)))) C=min (x+n*(k+a)) C:=by
 obtain⟨q1,q2,q3,q4,q5⟩:=WG h0 h1 hn hn2 ha hk hk2
 rw[q1]
 exact alG h0 h1 hx q4 q2 (by omega) q5
theorem aiW(hn:0<=n)(hn2:n<=4096)(ha:0<=a):min (i64.wrap (min x C+i64.wrap (1+i64.wrap (n*i64.wrap (1+min a C))))) C=min (x+(1+n*(1+a))) C:=by
 obtain⟨q1,q2,q3,q4,q5⟩:=WG (k:=1) h0 h1 hn hn2 ha (by omega) (by omega)
 rw[q1]
 generalize n*(1+min a C)=y at*
 generalize n*(1+a)=z at*
 rw[show i64.wrap (1+y)=1+y from aF]
 exact alG h0 h1 hx (by omega) (by omega) (by omega) (by omega)
theorem ai7(hn:0<=n)(hn2:n<=4096)(ha:0<=a):min (i64.wrap (min x C+i64.wrap (n*min a C))) C=min (x+n*a) C:=by
 obtain⟨q1,q2,q3,q4,q5⟩:=WG (k:=0) h0 h1 hn hn2 ha (by omega) (by omega)
 rw[Int.zero_add]at q2 q3 q4 q5
 rw[Int.zero_add]at q5
 rw[show i64.wrap (n*min a C)=n*min a C from aF]
 exact alG h0 h1 hx q4 q2 (by omega) q5
end
def aaH(M:List au->Option sL)(l:List au)(hl:l.length<=1000000)(ho:Bl l)(hM:∀s∈l,M s.aH=V (M3 (sM MY (cA s.aH)))/\M s.aL=V (M3 (sM MY (cA s.aL)))):af2 M l=V (M3 (sM MY (cA l))):=by
 obtain⟨v,e1,hv⟩:=dH (cO:=Jk M) l.length (fun i (b:qC)=>⟨l,(l.length:Int),(i:Int),⟨0,0,0⟩,b⟩) (fun i b=>b=M3 (sM MY (cA (l.take i)))) (fun i bb hi hb=>by
  have hw:=gF hi hl
  obtain⟨k1,k2⟩:=hM _ (aX hi)
  obtain⟨⟨c1,c2⟩,hN,_,_,o1,o2⟩:=nZ ho _ (aX hi)
  obtain⟨x1,x2,x3⟩:=sg (De i ho)
  obtain⟨a1,a2,a3⟩:=sg o1
  obtain⟨b1,b2,b3⟩:=sg o2
  refine⟨M3 (sM MY (cA (l.take (i+1)))),?_,rfl⟩
  have hi1:(i:Int)<(l.length:Int):=by omega
  have hi0:(0:Int)<=(i:Int):=by omega
  rw[bS hi,Kj]
  generalize cA (l.take i)=x at*
  generalize cA l[i]!.aH=a at*
  generalize cA l[i]!.aL=b at*
  obtain⟨X1,X2,X3⟩:=x
  obtain⟨A1,A2,A3⟩:=a
  obtain⟨B1,B2,B3⟩:=b
  have hb:bb=⟨min X1 1099511627776,min X2 1099511627776,min X3 1099511627776⟩:=hb
  have k1:M l[i]!.aH=V ⟨min A1 1099511627776,min A2 1099511627776,min A3 1099511627776⟩:=k1
  have k2:M l[i]!.aL=V ⟨min B1 1099511627776,min B2 1099511627776,min B3 1099511627776⟩:=k2
  subst hb
  have z0:(0:Int)<=1099511627776:=by decide
  have z1:(1099511627776:Int)<=1099511627776:=by decide
  dsimp only at x1 x2 x3 a1 a2 a3 b1 b2 b3
  unfold Jk
  dsimp only
  simp only[za,hi1,hi0,dx,bE,ew,cz,k1,k2,hw]
  by_cases h1:l[i]!.bN=1
  ·have e:FI l[i]! (A1,A2,A3) (B1,B2,B3)=(1,1,l[i]!.aQ):=by unfold FI;rw[bw h1]
   rw[bP h1,bE,e,kj,kj,kj,M5 z0 z1 x1 (by omega) (by omega),M5 z0 z1 x2 (by omega) (by omega),M5 z0 z1 x3 c1 c2]
   rfl
  ·rw[bO h1,bA]
   by_cases h3:l[i]!.bN=3
   ·have e:FI l[i]! (A1,A2,A3) (B1,B2,B3)=(1+max A1 B1,max A2 B2,l[i]!.aQ+max A3 B3):=by unfold FI;rw[bF h1,bw h3]
    rw[bP h3,bE,e,PX,PX,PX,kj,kj,kj,UH z0 z1 x1 (by omega) (by omega) (by omega),ajI z0 z1 x2 (by omega),UH z0 z1 x3 (by omega) c1 c2]
    rfl
   ·rw[bO h3,bA]
    by_cases h4:l[i]!.bN=4
    ·obtain⟨n1,n2⟩:=hN h4
     have e:FI l[i]! (A1,A2,A3) (B1,B2,B3)=(1+l[i]!.fN*(1+A1),l[i]!.fN*A2,l[i]!.fN*(l[i]!.aQ+A3)):=by unfold FI;rw[bF h1,bF h3,bw h4]
     rw[bP h4,bE,e,kj,kj,kj,aiW z0 z1 x1 n1 n2 a1,ai7 z0 z1 x2 n1 n2 a2,arW z0 z1 x3 n1 n2 a3 c1 c2]
     rfl
    ·have e:FI l[i]! (A1,A2,A3) (B1,B2,B3)=(1,0,l[i]!.aQ):=by unfold FI;rw[bF h1,bF h3,bF h4]
     rw[bO h4,bA,e,kj,kj,kj,M5 z0 z1 x1 (by omega) (by omega),M5 z0 z1 x2 (by omega) (by omega),M5 z0 z1 x3 c1 c2]
     rfl) (fun b _=>by unfold Jk;simp) (b:=⟨0,0,0⟩) (by rw[xE,show cA []=(0,0,0)by rw[cA]];rfl)
 have e1':IE M ⟨l,(l.length:Int),0,⟨0,0,0⟩,⟨0,0,0⟩⟩=V ⟨l,(l.length:Int),(l.length:Int),⟨0,0,0⟩,v⟩:=e1
 unfold af2
 rw[e1']
 rw[zM]at hv
 rw[hv]
 simp
def JV:∀(n:Nat) (l:List au),SizeOf.sizeOf l<n->fO l<=1000->Bl l->PC n l=V (M3 (sM MY (cA l)))
 |0,_,h,_,_=>by omega
 |n+1,l,h,h2,ho=>aaH (PC n) l (by have:=jQ l;omega) ho (fun s hs=>⟨JV n _ (by have:=aV hs;omega) (by have:=ga hs;omega) (nZ ho s hs).2.2.2.2.1,JV n _ (by have:=aV hs;omega) (by have:=ga hs;omega) (nZ ho s hs).2.2.2.2.2⟩)
def agI(l:List au)(h:fO l<=1000)(ho:Bl l):ZJ l=V (M3 (sM MY (cA l))):=eE (SizeOf.sizeOf l+1) fun n hn=>JV n l (by omega) h ho
def anN(M:List au->Option Mx)(l:List au)(hl:l.length<=1000000)(ho:Bl l)(hM:∀s∈l,M s.aH=V (sM G7 (cA s.aH))/\M s.aL=V (sM G7 (cA s.aL))):s90 M l=V (sM G7 (cA l)):=by
 obtain⟨v,e1,hv⟩:=dH (cO:=Sd M) l.length (fun i (b:Int×Int×Int)=>⟨l,b.1,b.2.1,b.2.2,(i:Int)⟩) (fun i b=>b=sM G7 (cA (l.take i))) (fun i bb hi hb=>by
  have hw:=gF hi hl
  obtain⟨k1,k2⟩:=hM _ (aX hi)
  obtain⟨⟨c1,c2⟩,hN,hT,hE,o1,o2⟩:=nZ ho _ (aX hi)
  obtain⟨x1,x2,x3⟩:=sg (De i ho)
  obtain⟨a1,a2,a3⟩:=sg o1
  obtain⟨b1,b2,b3⟩:=sg o2
  have zT:l[i]!.bN≠3->l[i]!.bN≠4->cA l[i]!.aH=(0,0,0):=fun h3 h4=>by rw[hT h3 h4,cA]
  have zE:l[i]!.bN≠3->cA l[i]!.aL=(0,0,0):=fun h3=>by rw[hE h3,cA]
  refine⟨sM G7 (cA (l.take (i+1))),?_,rfl⟩
  have hi1:(i:Int)<(l.length:Int):=by omega
  have hi0:(0:Int)<=(i:Int):=by omega
  rw[bS hi,Kj]
  generalize cA (l.take i)=x at*
  generalize cA l[i]!.aH=a at*
  generalize cA l[i]!.aL=b at*
  obtain⟨X1,X2,X3⟩:=x
  obtain⟨A1,A2,A3⟩:=a
  obtain⟨B1,B2,B3⟩:=b
  have hb:bb=(min X1 4097,min X2 9,min X3 67108865):=hb
  have k1:M l[i]!.aH=V (min A1 4097,min A2 9,min A3 67108865):=k1
  have k2:M l[i]!.aL=V (min B1 4097,min B2 9,min B3 67108865):=k2
  subst hb
  have z0:(0:Int)<=4097:=by decide
  have z1:(4097:Int)<=1099511627776:=by decide
  have y0:(0:Int)<=9:=by decide
  have y1:(9:Int)<=1099511627776:=by decide
  have u0:(0:Int)<=67108865:=by decide
  have u1:(67108865:Int)<=1099511627776:=by decide
  dsimp only at x1 x2 x3 a1 a2 a3 b1 b2 b3
  unfold Sd
  dsimp only
  simp only[za,hi1,hi0,dx,bE,ew,cz,k1,k2,hw,oA,mh,aj3,afb]
  by_cases h4:l[i]!.bN=4
  ·obtain⟨n1,n2⟩:=hN h4
   have h1:¬l[i]!.bN=1:=by omega
   have h3:¬l[i]!.bN=3:=by omega
   have e:FI l[i]! (A1,A2,A3) (B1,B2,B3)=(1+l[i]!.fN*(1+A1),l[i]!.fN*A2,l[i]!.fN*(l[i]!.aQ+A3)):=by unfold FI;rw[bF h1,bF h3,bw h4]
   rw[bP h4,bO h1,bE,bA,e,aiW z0 z1 x1 n1 n2 a1,ai7 y0 y1 x2 n1 n2 a2,arW u0 u1 x3 n1 n2 a3 c1 c2]
   rfl
  ·rw[bO h4,bA]
   by_cases h1:l[i]!.bN=1
   ·have h3:¬l[i]!.bN=3:=by omega
    have ea:=zT h3 h4
    have eb:=zE h3
    cases ea
    cases eb
    have e:FI l[i]! (0,0,0) (0,0,0)=(1,1,l[i]!.aQ):=by unfold FI;rw[bw h1]
    rw[bP h1,bE,e,UH z0 z1 x1 (by omega) (by omega) (by omega),M5 y0 y1 x2 (by omega) (by omega),UH u0 u1 x3 (by omega) c1 c2]
    simp only[sM,G7,LD,Int.max_self,Int.add_zero]
   ·rw[bO h1,bA,UH z0 z1 x1 (by omega) (by omega) (by omega),ajI y0 y1 x2 (by omega),UH u0 u1 x3 (by omega) c1 c2]
    by_cases h3:l[i]!.bN=3
    ·have e:FI l[i]! (A1,A2,A3) (B1,B2,B3)=(1+max A1 B1,max A2 B2,l[i]!.aQ+max A3 B3):=by unfold FI;rw[bF h1,bw h3]
     rw[e]
     rfl
    ·have ea:=zT h3 h4
     have eb:=zE h3
     cases ea
     cases eb
     have e:FI l[i]! (0,0,0) (0,0,0)=(1,0,l[i]!.aQ):=by unfold FI;rw[bF h1,bF h3,bF h4]
     rw[e]
     simp only[sM,G7,LD,Int.max_self,Int.add_zero]) (fun b _=>by unfold Sd;simp) (b:=(0,0,0)) (by rw[xE,show cA []=(0,0,0)by rw[cA]];rfl)
 have e1':Rv M ⟨l,0,0,0,0⟩=V ⟨l,v.1,v.2.1,v.2.2,(l.length:Int)⟩:=e1
 unfold s90
 rw[e1']
 rw[zM]at hv
 rw[hv]
 simp
def NA:∀(n:Nat) (l:List au),SizeOf.sizeOf l<n->fO l<=1000->Bl l->m90 n l=V (sM G7 (cA l))
 |0,_,h,_,_=>by omega
 |n+1,l,h,h2,ho=>anN (m90 n) l (by have:=jQ l;omega) ho (fun s hs=>⟨NA n _ (by have:=aV hs;omega) (by have:=ga hs;omega) (nZ ho s hs).2.2.2.2.1,NA n _ (by have:=aV hs;omega) (by have:=ga hs;omega) (nZ ho s hs).2.2.2.2.2⟩)
def WR(l:List au)(h:fO l<=1000)(ho:Bl l):r90 l=V (sM G7 (cA l)):=eE (SizeOf.sizeOf l+1) fun n hn=>NA n l (by omega) h ho
def ahc(f:aP)(h:fO f.bJ+jK (f.aj.map (·.az))<=900)(hh:f.aj.length<=1000000)(hvl:f.ah.length<=1000000):aey f=V (B7 f):=by
 obtain⟨r,q,e1,e2,e3⟩:=aeG f h hh
 unfold aey B7
 rw[e1]
 dsimp only
 rw[e2]
 dsimp only
 rw[bO (show ¬((f.aj.length:Int)<(f.aj.length:Int))by omega),bA,wT,e3]
 unfold pK
 generalize (f.aj.all fun h=>wP (dT h.az<=12))=x
 generalize wP (jG f.bJ<=12)=y
 generalize fI f.bJ=z
 by_cases h1:64<(f.ah.length:Int)
 ·simp[h1,show ¬f.ah.length<=64 by omega]
 by_cases h2:8<(f.aj.length:Int)
 ·simp[h1,h2,show ¬f.aj.length<=8 by omega]
 rw[bO h1,bO h2,bP (show f.ah.length<=64 by omega),bP (show f.aj.length<=8 by omega)]
 dsimp only[bA,Bool.true_and]
 simp only[Bool.true_and]
 cases hx:(x&&y&& !z)with
 |false=>rfl
 |true=>
  rw[acy f.ah hvl]
  dsimp only[Bool.not_true,bA]
  rw[bF (by decide)]
  by_cases hvc:kD f.ah=0
  case neg=>simp[hvc]
  have hv:bX f.ah:=by
   apply nM
   unfold kD at hvc
   by_cases h0:cw (mK f.ah) f.ah 0=0
   ·exact h0
   ·rw[bw h0]at hvc;exact cQ hvc h0
  rw[bP hvc,bE,bA,bF (by simpa using hvc),afE f hv hh]
  dsimp only
  by_cases hhc:cw (lU f) f.aj 0=0
  case neg=>simp[hhc]
  rw[bP hhc,bE,bA,bF (by simpa using hhc),ae5 f hv f.bJ wO (by omega)]
  dsimp only
  by_cases hsc:b9 f wO f.bJ=0
  case neg=>simp[hsc]
  have ho:Bl f.bJ:=Am f _ f.bJ wO (zw _) hsc
  rw[bP hsc,bE,bA,bF (by simpa using hsc)]
  have e:=agI f.bJ (by omega) ho
  unfold Tu
  generalize cA f.bJ=u at e ⊢
  obtain⟨a,b,c⟩:=u
  have e:ZJ f.bJ=V ⟨min a 1099511627776,min b 1099511627776,min c 1099511627776⟩:=e
  rw[e]
  dsimp only
  by_cases a1:4096<a
  ·simp[a1,show 4096<min a 1099511627776 by omega]
  ·by_cases b1:8<b
   ·simp[a1,b1,show ¬4096<min a 1099511627776 by omega,show 8<min b 1099511627776 by omega]
   ·by_cases d1:67108864<c
    ·simp[a1,b1,d1,show ¬4096<min a 1099511627776 by omega,show ¬8<min b 1099511627776 by omega,show 67108864<min c 1099511627776 by omega]
    ·simp[a1,b1,d1,show ¬4096<min a 1099511627776 by omega,show ¬8<min b 1099511627776 by omega,show ¬67108864<min c 1099511627776 by omega]
def Nv(f:aP)(h:fO f.bJ+jK (f.aj.map (·.az))<=900)(hh:f.aj.length<=1000000)(hvl:f.ah.length<=1000000):m78 f=V (B7 f):=by
 unfold m78 B7
 rw[ab5 f h hh]
 dsimp only
 cases hx:pK f with
 |false=>rfl
 |true=>
  rw[ag8 f.ah hvl]
  dsimp only[bE,bA]
  rw[bF (by decide)]
  by_cases hvc:kD f.ah=0
  case neg=>simp[hvc]
  have hv:bX f.ah:=by
   apply nM
   unfold kD at hvc
   by_cases h0:cw (mK f.ah) f.ah 0=0
   ·exact h0
   ·rw[bw h0]at hvc;exact cQ hvc h0
  obtain⟨i,e1,hc⟩:=Xk f hv hh
  rw[bP hvc,bE,bA,bF (by simpa using hvc),e1]
  dsimp only
  rcases hc with ⟨rfl,hc⟩|⟨hi,h0,hc⟩
  ·rw[bF (show ¬(cw (lU f) f.aj 0≠0)by rw[hc];simp),bO (show ¬((f.aj.length:Int)<(f.aj.length:Int))by omega),bA,agh f hv f.bJ wO (by omega)]
   dsimp only
   by_cases hsc:b9 f wO f.bJ=0
   case neg=>simp[hsc]
   have ho:Bl f.bJ:=Am f _ f.bJ wO (zw _) hsc
   rw[bP hsc,bE,bA,bF (show ¬(b9 f wO f.bJ≠0)by rw[hsc];simp)]
   have e:=WR f.bJ (by omega) ho
   unfold Tu
   generalize cA f.bJ=u at e ⊢
   obtain⟨a,b,c⟩:=u
   have e:r90 f.bJ=V (min a 4097,min b 9,min c 67108865):=e
   rw[e]
   dsimp only
   by_cases a1:4096<a
   ·simp[a1,show 4096<min a 4097 by omega]
   ·by_cases b1:8<b
    ·simp[a1,b1,show ¬4096<min a 4097 by omega,show 8<min b 9 by omega]
    ·by_cases d1:67108864<c
     ·simp[a1,b1,d1,show ¬4096<min a 4097 by omega,show ¬8<min b 9 by omega,show 67108864<min c 67108865 by omega]
     ·simp[a1,b1,d1,show ¬4096<min a 4097 by omega,show ¬8<min b 9 by omega,show ¬67108864<min c 67108865 by omega]
  ·obtain⟨j,h2,h3⟩:=Li f hh i (by omega) f.aj[i]!
   rw[bw (show cw (lU f) f.aj 0≠0 by rw[hc];exact h0),hc]
   have hi1:(i:Int)<(f.aj.length:Int):=by omega
   have hi0:(0:Int)<=(i:Int):=by omega
   revert h0
   unfold lU
   simp only[za,aq.eta,dc.eta,CA,CB,h2,CU f.ah hv,hi0,hi1,ew,cz,dx,bE]
   generalize je f.aj[i]!.fName=B
   generalize ((f.aj.take i).any fun w=>w.fName.toList==f.aj[i]!.fName.toList)=A at h3
   generalize gM f.aj[i]!.af f.aj[i]!.aa=C
   generalize eH f.ah wO f.aj[i]!.az=T
   rcases h3 with ⟨rfl,rfl⟩|⟨hj,h4,rfl⟩
   ·cases B<;>cases C<;>by_cases hT:T=0<;>simp[hT]
   ·have hj1:(j:Int)<(i:Int):=by omega
    have hj2:(j:Int)<(f.aj.length:Int):=by omega
    have hj0:(0:Int)<=(j:Int):=by omega
    simp only[hj0,hj1,hj2,h4,ew,cz,dx,bE]
    cases B<;>simp
def pG{f:aP}(h:B7 f=0):bX f.ah:=by
 unfold B7 at h
 by_cases h1:pK f=wN
 ·rw[bw h1]at h;exact cQ h (by decide)
 rw[bF h1]at h
 by_cases hvc:kD f.ah=0
 ·apply nM
  unfold kD at hvc
  by_cases h0:cw (mK f.ah) f.ah 0=0
  ·exact h0
  ·rw[bw h0]at hvc;exact cQ hvc h0
 ·rw[bw hvc]at h;exact cQ h hvc
structure CS where
 vals:List Int
 outs:List Int
 time:Int
def lR:List Int->Int->Int
 |[],t=>t
 |b::l,t=>if t<=b then b else lR l t
def amm(f:aP)(s:CS)(v n:Int):CS:=⟨s.vals.set v.toNat (gB n f.ah[v.toNat]!.af f.ah[v.toNat]!.aa),s.outs,s.time⟩
def CS.add(s:CS)(c:Int):CS:=⟨s.vals,s.outs,s.time+c⟩
def pe(body:CS->CS)(t:aq)(c:Int):Nat->CS->CS
 |0,s=>s
 |n+1,s=>if dN s.vals t=0 then s.add c else pe body t c n (body (s.add c))
def sY(f:aP)(hv:List Int)(a b:CS->CS)(x:au)(s:CS):CS:=
 if x.bN=4 then pe a x.az x.aQ x.fN.toNat s
 else if x.bN=0 then amm f (s.add x.aQ) x.cP (dN s.vals x.az)
 else if x.bN=1 then⟨s.vals,s.outs++[dN s.vals x.az],s.time+x.aQ⟩
 else if x.bN=5 then amm f (s.add x.aQ) x.cP hv[x.fN.toNat]!
 else if x.bN=3 then(if dN s.vals x.az≠0 then a (s.add x.aQ)else b (s.add x.aQ))
 else if x.bN=6 then⟨s.vals,s.outs,lR x.aJ (s.time+x.aQ)⟩
 else s.add x.aQ
def iX(f:aP)(hv:List Int):List au->CS->CS
 |[],s=>s
 |x::l,s=>iX f hv l (sY f hv (fun s=>iX f hv x.aH s) (fun s=>iX f hv x.aL s) x s)
termination_by l=>SizeOf.sizeOf l
decreasing_by
 all_goals first|exact(aV (zi ..)).1|exact(aV (zi ..)).2|exact dh _ _
def vZ(f:aP)(hv:List Int)(s:CS):iX f hv [] s=s:=by rw[iX]
def Ap(f:aP)(hv:List Int)(x:au)(l:List au)(s:CS):iX f hv (x::l) s=iX f hv l (sY f hv (iX f hv x.aH) (iX f hv x.aL) x s):=by rw[iX]
def dP{f:aP}{top:Bool}{x:au}{l:List au}(h:b9 f top (x::l)=0):oT f (top&&l.isEmpty) x=0/\b9 f wN x.aH=0/\b9 f wN x.aL=0/\b9 f top l=0:=by
 rw[b9]at h
 split at h
 ·exact cQ h ‹_›
 rename_i h1
 split at h
 ·exact cQ h ‹_›
 rename_i h2
 split at h
 ·exact cQ h ‹_›
 rename_i h3
 exact⟨by simpa using h1,by simpa using h2,by simpa using h3,h⟩
structure JJ (f:aP) (last:Bool) (x:au):Prop where
 do_:0<=x.bN/\x.bN<=6
 cost:0<=x.aQ/\x.aQ<=67108864
 n4:x.bN=4->0<=x.fN/\x.fN<=4096
 var:x.bN=0\/x.bN=5->0<=x.cP/\x.cP<f.ah.length
 n5:x.bN=5->0<=x.fN/\x.fN<f.aj.length
 BY:x.bN=6->last=wO/\(1<=x.aJ.length/\x.aJ.length<=32)/\(0:Int)<=x.aJ[0]!/\fJ x.aJ=wO/\x.aJ[x.aJ.length-1]!<=67108864
 term:eH f.ah wN x.az=0
def kI{f:aP}{last:Bool}{x:au}(h:oT f last x=0):JJ f last x:=by
 unfold oT at h
 by_cases h1:dy f x last=wN
 ·rw[bw h1]at h;cases h
 rw[bF h1]at h
 by_cases h2:tA x=wN
 ·rw[bw h2]at h;cases h
 rw[bF h2]at h
 have h1:dy f x last=wO:=by simpa using h1
 have h2:tA x=wO:=by simpa using h2
 unfold tA at h2
 simp only[zf,decide_eq_true_eq]at h2
 obtain⟨⟨g1,g2⟩,g3⟩:=h2
 unfold dy tX at h1
 dsimp only at h1
 have hd:0<=x.bN/\x.bN<=6:=by
  by_cases a0:x.bN=0
  ·omega
  by_cases a1:x.bN=1
  ·omega
  by_cases a2:x.bN=2
  ·omega
  by_cases a3:x.bN=3
  ·omega
  by_cases a4:x.bN=4
  ·omega
  by_cases a5:x.bN=5
  ·omega
  by_cases a6:x.bN=6
  ·omega
  ·simp[a0,a1,a2,a3,a4,a5,a6]at h1
 refine⟨hd,⟨g1.1,?_⟩,fun q=> ?_,fun q=> ?_,fun q=> ?_,fun q=> ?_,h⟩
 ·have:=g1.2
  split at this<;>omega
 ·rw[bw q]at g2
  simpa using g2
 ·rcases q with q|q
  ·simp[q]at h1;omega
  ·simp[q]at h1;omega
 ·simp[q]at h1;omega
 ·rw[bw q]at g3
  simp only[q,Int.reduceEq,cz,dS,zf,decide_eq_true_eq]at h1 g3
  exact⟨h1.1.1.1.1.2,h1.2.1.1,h1.2.1.2,h1.2.2,g3⟩
def RB(x:au)(l:List au):cA (x::l)=
  (if x.bN=1 then(1+(cA l).1,1+(cA l).2.1,x.aQ+(cA l).2.2)
   else if x.bN=3 then(1+max (cA x.aH).1 (cA x.aL).1+(cA l).1,max (cA x.aH).2.1 (cA x.aL).2.1+(cA l).2.1,x.aQ+max (cA x.aH).2.2 (cA x.aL).2.2+(cA l).2.2)
   else if x.bN=4 then(1+x.fN*(1+(cA x.aH).1)+(cA l).1,x.fN*(cA x.aH).2.1+(cA l).2.1,x.fN*(x.aQ+(cA x.aH).2.2)+(cA l).2.2)
   else(1+(cA l).1,(cA l).2.1,x.aQ+(cA l).2.2)):=by rw[cA]
def dJ(f:aP):∀(n:Nat) (l:List au) (top:Bool),SizeOf.sizeOf l<n->b9 f top l=0->0<=(cA l).2.1/\0<=(cA l).2.2
 |0,_,_,h,_=>by omega
 |n+1,[],_,_,_=>by rw[cA];exact⟨zg _,zg _⟩
 |n+1,x::l,top,h,hc=>by
  obtain⟨h1,h2,h3,h4⟩:=dP hc
  have ho:=kI h1
  have hs:=aV (zi (a:=x) (l:=l))
  have ht:=dh x l
  have i1:=dJ f n x.aH wN (by omega) h2
  have i2:=dJ f n x.aL wN (by omega) h3
  have i3:=dJ f n l top (by omega) h4
  have hcost:=ho.cost
  rw[RB]
  by_cases a1:x.bN=1
  ·rw[bw a1];dsimp only;omega
  by_cases a3:x.bN=3
  ·rw[bF a1,bw a3];dsimp only;omega
  by_cases a4:x.bN=4
  ·rw[bF a1,bF a3,bw a4]
   have hn:=ho.n4 a4
   have p1:=zq hn.1 i1.1
   have p2:=zq hn.1 (show 0<=x.aQ+(cA x.aH).2.2 by omega)
   dsimp only
   omega
  ·rw[bF a1,bF a3,bF a4];dsimp only;omega
def MN{n lo hi:Int}(h:lo<=hi):lo<=gB n lo hi/\gB n lo hi<=hi:=by unfold gB;grind
def FJ.set{vars:List aS}{vals:List Int}(h:FJ vars vals)(hv:bX vars){v n:Int}(h1:0<=v)(h2:v<vars.length):FJ vars (vals.set v.toNat (gB n vars[v.toNat]!.af vars[v.toNat]!.aa)):=by
 refine⟨by rw[zO];exact h.1,fun i hi=> ?_⟩
 have hl:=h.1
 by_cases hvi:v.toNat=i
 ·subst hvi
  rw[getElem!_pos (vals.set _ _) v.toNat (by rw[zO];omega),List.getElem_set_self]
  exact MN (hv _ (aX hi)).2.1
 ·have:=h.2 i hi
  rw[getElem!_pos (vals.set _ _) i (by rw[zO];omega),List.getElem_set_ne hvi]
  rw[getElem!_pos vals i (by omega)]at this
  exact this
structure SA (vars:List aS) (s r:CS) (o t:Int):Prop where
 vals:FJ vars r.vals
 outs:(s.outs.length:Int)<=r.outs.length/\(r.outs.length:Int)<=s.outs.length+o
 time:s.time<=r.time/\r.time<=s.time+t
def LN{vars:List aS}{a:CS->CS}{t:aq}{c o u:Int}(hc:0<=c)(ho:0<=o)(hu:0<=u)(ha:∀s:CS,FJ vars s.vals->SA vars s (a s) o u):∀(n:Nat) (s:CS),FJ vars s.vals->SA vars s (pe a t c n s) (n*o) (n*(c+u))
 |0,s,h=>⟨h,by rw[pe];simp,by rw[pe];simp⟩
 |n+1,s,h=>by
  rw[pe]
  have e1:((n+1:Nat):Int)*o=n*o+o:=by rw[we,zI];simp
  have e2:((n+1:Nat):Int)*(c+u)=n*(c+u)+(c+u):=by rw[we,zI];simp
  have p1:0<=(n:Int)*o:=zq (by omega) ho
  have p2:0<=(n:Int)*(c+u):=zq (by omega) (by omega)
  rw[e1,e2]
  split
  ·refine⟨h,?_,?_⟩
   ·show (s.outs.length:Int)<=s.outs.length/\_;exact⟨zg _,by show (s.outs.length:Int)<=_;omega⟩
   ·show s.time<=s.time+c/\s.time+c<=_;omega
  ·have i1:=ha (s.add c) h
   have i2:=LN (t:=t) hc ho hu ha n (a (s.add c)) i1.vals
   have q1:=i1.outs
   have q2:=i1.time
   have q3:=i2.outs
   have q4:=i2.time
   have z1:(s.add c).time=s.time+c:=rfl
   have z2:(s.add c).outs=s.outs:=rfl
   rw[z2]at q1
   rw[z1]at q2
   exact⟨i2.vals,by omega,by omega⟩
def SA.weak{vars:List aS}{s r:CS}{o t o' t':Int}(h:SA vars s r o t)(h1:o<=o')(h2:t<=t'):SA vars s r o' t':=⟨h.vals,by have:=h.outs;omega,by have:=h.time;omega⟩
def SA.trans{vars:List aS}{s r q:CS}{o t o' t':Int}(h:SA vars s r o t)(h':SA vars r q o' t'):SA vars s q (o+o') (t+t'):=⟨h'.vals,by have:=h.outs;have:=h'.outs;omega,by have:=h.time;have:=h'.time;omega⟩
def uO(x:au):Int×Int:=if x.bN=1 then(1,x.aQ)else if x.bN=3 then(max (cA x.aH).2.1 (cA x.aL).2.1,x.aQ+max (cA x.aH).2.2 (cA x.aL).2.2)
 else if x.bN=4 then(x.fN*(cA x.aH).2.1,x.fN*(x.aQ+(cA x.aH).2.2))else(0,x.aQ)
def hU(x:au)(l:List au):(cA (x::l)).2.1=(uO x).1+(cA l).2.1/\(cA (x::l)).2.2=(uO x).2+(cA l).2.2:=by
 rw[RB]
 unfold uO
 split
 ·exact⟨rfl,rfl⟩
 split
 ·exact⟨rfl,rfl⟩
 split
 ·exact⟨rfl,rfl⟩
 ·refine⟨?_,rfl⟩
  dsimp only
  omega
def GH{f:aP}(hv:bX f.ah){hs:List Int}{a b:CS->CS}{last:Bool}{x:au}(hx:JJ f last x)(h6:x.bN≠6)
  (p1:0<=(cA x.aH).2.1/\0<=(cA x.aH).2.2) (p2:0<=(cA x.aL).2.1/\0<=(cA x.aL).2.2)
  (ha:∀s:CS,FJ f.ah s.vals->SA f.ah s (a s) (cA x.aH).2.1 (cA x.aH).2.2) (hb:∀s:CS,FJ f.ah s.vals->SA f.ah s (b s) (cA x.aL).2.1 (cA x.aL).2.2)
  (s:CS) (h:FJ f.ah s.vals):SA f.ah s (sY f hs a b x s) (uO x).1 (uO x).2:=by
 have hc:=hx.cost
 have add:SA f.ah s (s.add x.aQ) 0 x.aQ:=⟨h,by show (s.outs.length:Int)<=s.outs.length/\(s.outs.length:Int)<=_;omega,by show s.time<=s.time+x.aQ/\s.time+x.aQ<=_;omega⟩
 unfold sY uO
 by_cases a4:x.bN=4
 ·simp only[a4,Int.reduceEq,cz,dS]
  have hn:=hx.n4 a4
  have:=LN (t:=x.az) hc.1 p1.1 p1.2 ha x.fN.toNat s h
  rw[show ((x.fN.toNat:Nat):Int)=x.fN by omega]at this
  exact this
 by_cases a0:x.bN=0
 ·simp only[a0,Int.reduceEq,cz,dS]
  obtain⟨v1,v2⟩:=hx.var (.inl a0)
  exact⟨h.set hv v1 v2,add.outs,add.time⟩
 by_cases a1:x.bN=1
 ·simp only[a1,Int.reduceEq,cz,dS]
  exact⟨h,by simp;omega,by show s.time<=s.time+x.aQ/\s.time+x.aQ<=_;omega⟩
 by_cases a5:x.bN=5
 ·simp only[a5,Int.reduceEq,cz,dS]
  obtain⟨v1,v2⟩:=hx.var (.inr a5)
  exact⟨h.set hv v1 v2,add.outs,add.time⟩
 by_cases a3:x.bN=3
 ·simp only[a3,Int.reduceEq,cz,dS]
  split
  ·refine(add.trans (ha _ h)).weak ?_ ?_<;>omega
  ·refine(add.trans (hb _ h)).weak ?_ ?_<;>omega
 ·simp only[a0,a1,a3,a4,a5,h6,dS]
  exact add
def m8{f:aP}(hv:bX f.ah)(hs:List Int):∀(n:Nat) (l:List au),SizeOf.sizeOf l<n->b9 f wN l=0->∀s:CS,FJ f.ah s.vals->SA f.ah s (iX f hs l s) (cA l).2.1 (cA l).2.2
 |0,_,h,_,_,_=>by omega
 |n+1,[],_,_,s,h=>by rw[vZ,cA];exact⟨h,by simp,by simp⟩
 |n+1,x::l,hn,hc,s,h=>by
  obtain⟨h1,h2,h3,h4⟩:=dP hc
  have ho:=kI h1
  have hsz:=aV (zi (a:=x) (l:=l))
  have ht:=dh x l
  have h6:x.bN≠6:=fun h=>by have:=(ho.BY h).1;simp at this
  have p1:=dJ f n x.aH wN (by omega) h2
  have p2:=dJ f n x.aL wN (by omega) h3
  rw[Ap,(hU x l).1,(hU x l).2]
  have i1:=GH hv (hs:=hs) ho h6 p1 p2 (m8 hv hs n x.aH (by omega) h2) (m8 hv hs n x.aL (by omega) h3) s h
  exact i1.trans (m8 hv hs n l (by omega) h4 _ i1.vals)
def Ea:∀{l:List Int} {t:Int},(∀j,j<l.length->l[j]! <t)->lR l t=t
 |[],_,_=>rfl
 |b::l,t,h=>by
  have h0:=h 0 (by simp)
  have h0:b<t:=h0
  rw[lR,jC]
  exact Ea fun j hj=>h (j+1) (by simpa using hj)
def Mn:∀{l:List Int} {t:Int} {j:Nat},j<l.length->t<=l[j]!->(∀k,k<j->l[k]! <t)->lR l t=l[j]!
 |[],_,_,h,_,_=>by simp at h
 |b::l,t,0,_,h2,_=>by
  have h2:t<=b:=h2
  rw[lR,bw h2];rfl
 |b::l,t,j+1,h1,h2,h3=>by
  have h0:b<t:=h3 0 (by omega)
  rw[lR,jC]
  exact Mn (l:=l) (j:=j) (by simpa using h1) h2 fun k hk=>h3 (k+1) (by omega)
def KX(l:List Int)(t:Int):(lR l t=t/\∀j,j<l.length->l[j]! <t)\/∃j,j<l.length/\lR l t=l[j]!/\t<=l[j]!/\∀k,k<j->l[k]! <t:=by
 induction l with
 |nil=>exact .inl ⟨rfl,fun j h=>by simp at h⟩
 |cons b l ih=>
  rw[lR]
  by_cases h:t<=b
  ·rw[bw h];exact .inr ⟨0,by simp,rfl,h,fun k hk=>by omega⟩
  ·rw[bF h]
   rcases ih with ⟨e,h1⟩|⟨j,h1,h2,h3,h4⟩
   ·refine .inl ⟨e,fun j hj=> ?_⟩
    cases j with
    |zero=>show b<t;omega
    |succ j=>exact h1 j (by simpa using hj)
   ·refine .inr ⟨j+1,by simpa using h1,h2,h3,fun k hk=> ?_⟩
    cases k with
    |zero=>show b<t;omega
    |succ k=>exact h4 k (by omega)
def CM{l:List Int}(h:fJ l=wO):∀{i j:Nat},i<j->j<l.length->l[i]! <l[j]! :=by
 intro i j hij hj
 induction j with
 |zero=>omega
 |succ j ih=>
  have h1:=(jH l).1 h j hj
  by_cases hi:i=j
  ·subst hi;exact h1
  ·have:=ih (by omega) (by omega)
   omega
def adk(l:List Int)(t:Int)(hl:l.length<=1000000)(h:fJ l=wO):ZO l t=V (lR l t):=by
 obtain⟨v,e1,hv⟩:=dH (cO:=A8) l.length (fun i (b:Int×Bool)=>⟨l,t,b.1,b.2,(i:Int)⟩)
  (fun i b=>(b=(t,wN)/\∀j,j<i->l[j]! <t)\/(b.2=wO/\∃j,j<i/\b.1=l[j]!/\t<=l[j]!/\∀k,k<j->l[k]! <t)) (fun i b hi hb=>by
  have hw:=gF hi hl
  have i1:(i:Int)<(l.length:Int):=by omega
  have i2:(0:Int)<=(i:Int):=by omega
  rcases hb with ⟨rfl,hb⟩|⟨hb,j,h1,h2,h3,h4⟩
  ·by_cases hc:t<=l[i]!
   ·refine⟨(l[i]!,wO),?_, .inr ⟨rfl,i,by omega,rfl,hc,hb⟩⟩
    unfold A8
    simp only[za,i1,i2,hc,hw,dx,bE,bA,ew,cz]
   ·refine⟨(t,wN),?_, .inl ⟨rfl,fun j hj=> ?_⟩⟩
    ·unfold A8
     simp only[za,i1,i2,hc,hw,dx,gh,bE,bA,ew,cz]
    ·by_cases hji:j=i
     ·subst hji;omega
     ·exact hb j (by omega)
  ·have hlt:=CM h h1 hi
   obtain⟨b1,b2⟩:=b
   dsimp only at hb h2
   subst hb h2
   refine⟨(l[j]!,wO),?_, .inr ⟨rfl,j,by omega,rfl,h3,h4⟩⟩
   unfold A8
   simp only[za,i1,i2,show t<=l[i]! by omega,show ¬l[i]! <l[j]! by omega,hw,dx,gh,bE,bA,ew,cz]) (fun b _=>by unfold A8;simp) (b:=(t,wN)) (.inl ⟨rfl,fun j hj=>by omega⟩)
 have e1':JH ⟨l,t,t,wN,0⟩=V ⟨l,t,v.1,v.2,(l.length:Int)⟩:=e1
 unfold ZO
 rw[e1']
 dsimp only
 rw[fy,bA]
 rcases hv with ⟨rfl,hv⟩|⟨_,j,h1,h2,h3,h4⟩
 ·rw[Ea hv]
 ·rw[h2,Mn h1 h3 h4]
def Tz{f:aP}{vals:List Int}(hV:FJ f.ah vals)(hn:f.ah.length<=1000000){v n:Int}(h1:0<=v)(h2:v<f.ah.length):PV f vals v n=V (vals.set v.toNat (gB n f.ah[v.toNat]!.af f.ah[v.toNat]!.aa)):=by
 have hl:=hV.1
 unfold PV
 simp only[yg,JQ]
 rw[gC,gC,gC,gC,bw ⟨trivial,by omega⟩]
structure FN (f:aP) (top:Bool) (l:List au) (s:CS):Prop where
 hc:b9 f top l=0
 vals:FJ f.ah s.vals
 t0:0<=s.time
 t:s.time+(cA l).2.2<=134217728
 o:(s.outs.length:Int)+(cA l).2.1<=8
def aht{l:List Int}{t:Int}(hr:fJ l=wO)(hl:1<=l.length)(h6:l[l.length-1]!<=67108864)(ht:0<=t)(ht2:t<=134217728):0<=lR l t/\lR l t<=134217728:=by
 rcases KX l t with ⟨e,_⟩|⟨j,h1,e,h3,_⟩
 ·rw[e];exact⟨ht,ht2⟩
 ·rw[e]
  have:l[j]!<=l[l.length-1]! :=by
   by_cases hj:j=l.length-1
   ·subst hj;exact zg _
   ·exact yN (CM hr (by omega) (by omega))
  omega
def FN.ok{f:aP}{top:Bool}{x:au}{l:List au}{s:CS}(h:FN f top (x::l) s):JJ f (top&&l.isEmpty) x:=kI (dP h.hc).1
def FN.pos{f:aP}{top:Bool}{x:au}{l:List au}{s:CS}(h:FN f top (x::l) s):(0<=(cA x.aH).2.1/\0<=(cA x.aH).2.2)/\(0<=(cA x.aL).2.1/\0<=(cA x.aL).2.2)/\(0<=(cA l).2.1/\0<=(cA l).2.2):=by
 obtain⟨h1,h2,h3,h4⟩:=dP h.hc
 exact⟨dJ f _ _ _ (zw _) h2,dJ f _ _ _ (zw _) h3,dJ f _ _ _ (zw _) h4⟩
def FN.next{f:aP}(hv:bX f.ah){hs:List Int}{top:Bool}{x:au}{l:List au}{s:CS}(h:FN f top (x::l) s):FN f top l (sY f hs (iX f hs x.aH) (iX f hs x.aL) x s):=by
 obtain⟨h1,h2,h3,h4⟩:=dP h.hc
 have ho:=h.ok
 obtain⟨p1,p2,p3⟩:=h.pos
 have ht:=h.t
 have hou:=h.o
 have h0:=h.t0
 rw[(hU x l).2]at ht
 rw[(hU x l).1]at hou
 by_cases h6:x.bN=6
 ·obtain⟨q1,q2,q3,q4,q5⟩:=ho.BY h6
  have hl:l=[]:=by
   cases l with
   |nil=>rfl
   |cons a l=>simp at q1
  subst hl
  have hu:uO x=(0,x.aQ):=by unfold uO;simp[h6]
  have hc:=ho.cost
  rw[hu]at ht hou
  rw[show cA []=(0,0,0)by rw[cA]]at ht hou
  dsimp only at ht hou
  have hb:=aht (t:=s.time+x.aQ) q4 q2.1 q5 (by omega) (by omega)
  unfold sY
  simp only[h6,Int.reduceEq,cz,dS]
  exact⟨h4,h.vals,hb.1,by rw[cA];dsimp only;omega,by rw[cA];dsimp only;omega⟩
 ·have i:=GH hv (hs:=hs) ho h6 p1 p2 (m8 hv hs _ x.aH (zw _) h2) (m8 hv hs _ x.aL (zw _) h3) s h.vals
  have q1:=i.outs
  have q2:=i.time
  exact⟨h4,i.vals,by omega,by omega,by omega⟩
def FN.sub{f:aP}{top:Bool}{x:au}{l:List au}{s:CS}(h:FN f top (x::l) s)(h3:x.bN=3):FN f wN x.aH (s.add x.aQ)/\FN f wN x.aL (s.add x.aQ):=by
 obtain⟨g1,g2,g3,g4⟩:=dP h.hc
 have ho:=h.ok
 obtain⟨p1,p2,p3⟩:=h.pos
 have ht:=h.t
 have hou:=h.o
 have h0:=h.t0
 have hc:=ho.cost
 rw[(hU x l).2]at ht
 rw[(hU x l).1]at hou
 have hu:uO x=(max (cA x.aH).2.1 (cA x.aL).2.1,x.aQ+max (cA x.aH).2.2 (cA x.aL).2.2):=by unfold uO;simp[h3]
 rw[hu]at ht hou
 dsimp only at ht hou
 refine⟨⟨g2,h.vals,?_,?_,?_⟩,⟨g3,h.vals,?_,?_,?_⟩⟩<;>simp only[CS.add]<;>omega
structure FH (f:aP) (x:au) (n:Nat) (s:CS):Prop where
 hc:b9 f wN x.aH=0
 term:eH f.ah wN x.az=0
 cost:0<=x.aQ
 vals:FJ f.ah s.vals
 t0:0<=s.time
 t:s.time+n*(x.aQ+(cA x.aH).2.2)<=134217728
 o:(s.outs.length:Int)+n*(cA x.aH).2.1<=8
def FN.loop{f:aP}{top:Bool}{x:au}{l:List au}{s:CS}(h:FN f top (x::l) s)(h4:x.bN=4):FH f x x.fN.toNat s:=by
 obtain⟨g1,g2,g3,g4⟩:=dP h.hc
 have ho:=h.ok
 obtain⟨p1,p2,p3⟩:=h.pos
 have ht:=h.t
 have hou:=h.o
 have hn:=ho.n4 h4
 rw[(hU x l).2]at ht
 rw[(hU x l).1]at hou
 have hu:uO x=(x.fN*(cA x.aH).2.1,x.fN*(x.aQ+(cA x.aH).2.2)):=by unfold uO;simp[h4]
 rw[hu]at ht hou
 dsimp only at ht hou
 have e:((x.fN.toNat:Nat):Int)=x.fN:=by omega
 exact⟨g2,ho.term,ho.cost.1,h.vals,h.t0,by rw[e];omega,by rw[e];omega⟩
def FH.body{f:aP}{x:au}{n:Nat}{s:CS}(h:FH f x (n+1) s):FN f wN x.aH (s.add x.aQ):=by
 have p:=dJ f _ _ _ (zw _) h.hc
 have ht:=h.t
 have ho:=h.o
 have hc:=h.cost
 have h0:=h.t0
 rw[we,zI]at ht ho
 have e1:0<=(n:Int)*(x.aQ+(cA x.aH).2.2):=zq (by omega) (by omega)
 have e2:0<=(n:Int)*(cA x.aH).2.1:=zq (by omega) (by omega)
 simp only[Int.natCast_one,zR]at ht ho
 refine⟨h.hc,h.vals,?_,?_,?_⟩<;>simp only[CS.add]<;>omega
def FH.next{f:aP}(hv:bX f.ah)(hs:List Int){x:au}{n:Nat}{s:CS}(h:FH f x (n+1) s):FH f x n (iX f hs x.aH (s.add x.aQ)):=by
 have i:=m8 hv hs _ x.aH (zw _) h.hc (s.add x.aQ) h.vals
 have ht:=h.t
 have ho:=h.o
 have hc:=h.cost
 have h0:=h.t0
 have q1:=i.outs
 have q2:=i.time
 rw[we,zI]at ht ho
 simp only[Int.natCast_one,zR]at ht ho
 simp only[CS.add]at q1 q2
 exact⟨h.hc,h.term,h.cost,i.vals,by simp only[CS.add];omega,by simp only[CS.add];omega,by simp only[CS.add];omega⟩
def iD(s:CS):bD:=⟨s.vals,s.outs,s.time⟩
def drop_cons{α:Type}[Inhabited α]{l:List α}{i:Nat}(h:i<l.length):l.drop i=l[i]! ::l.drop (i+1):=by rw[getElem!_pos l i h];exact xR h
def ann(M96:aP->(List Int)->(List au)->bD->Option CD)(M179:aP->(List Int)->au->bD->Option lf){f:aP}(hv:bX f.ah)(hn:f.ah.length<=1000000){hs:List Int}(hh:hs.length=f.aj.length)
  {top:Bool} {l:List au} (hl:l.length<=1000000) {s:CS} (h:FN f top l s)
  (h1:∀x∈l,∀s,FN f wN x.aH s->M96 f hs x.aH (iD s)=V (iD (iX f hs x.aH s)))
  (h2:∀x∈l,∀s,FN f wN x.aL s->M96 f hs x.aL (iD s)=V (iD (iX f hs x.aL s)))
  (h3:∀x∈l,∀s,x.bN=4->FH f x x.fN.toNat s->M179 f hs x (iD s)=V (iD (pe (iX f hs x.aH) x.az x.aQ x.fN.toNat s))):
  s96 M96 M179 f hs l (iD s)=V (iD (iX f hs l s)):=by
 obtain⟨v,e1,hV⟩:=dH (cO:=QV M96 M179) l.length (fun i (b:CS×Int)=>⟨hs,l,(i:Int),f,iD b.1,⟨[],[],b.2⟩⟩)
  (fun i b=>FN f top (l.drop i) b.1/\iX f hs (l.drop i) b.1=iX f hs l s) (fun i b hi hb=>by
  obtain⟨b,z⟩:=b
  obtain⟨hb,hr⟩:=hb
  dsimp only at hb hr
  rw[drop_cons hi]at hb hr
  rw[Ap]at hr
  have hm:=aX hi
  generalize hx:l[i]! =x at*
  refine⟨(sY f hs (iX f hs x.aH) (iX f hs x.aL) x b,z),?_,hb.next hv,hr⟩
  have ho:=hb.ok
  obtain⟨ev,ev1,ev2⟩:=Cz hv hb.vals wN x.az ho.term
  have hw:=gF hi hl
  have i1:(i:Int)<(l.length:Int):=by omega
  have i2:(0:Int)<=(i:Int):=by omega
  have hc:=ho.cost
  have ht:=hb.t
  have ht0:=hb.t0
  have hp:=hb.pos.2.2.2
  have hou:=hb.o
  have hpo:=hb.pos.2.2.1
  have htu:b.time+x.aQ<=134217728\/x.bN=4:=by
   rw[(hU x _).2]at ht
   by_cases q4:x.bN=4
   ·exact .inr q4
   ·left
    have:x.aQ<=(uO x).2:=by
     unfold uO
     have:=hb.pos
     split
     ·exact zg _
     ·split
      ·dsimp only;omega
      ·first|(rw[bF q4];exact zg _)|exact zg _
    omega
  have hou8:(b.outs.length:Int)<=8:=by
   rw[(hU x _).1]at hou
   have:0<=(uO x).1:=by
    unfold uO
    have:=hb.pos
    split
    ·show (0:Int)<=1;decide
    ·split
     ·dsimp only;omega
     ·split
      ·rename_i q;exact zq (ho.n4 q).1 this.1.1
      ·exact zg _
   omega
  unfold QV
  dsimp only[iD]
  simp only[za,i1,i2,hx,dx,bE,ew,cz,au.eta,aq.eta,hw]
  unfold sY
  by_cases d4:x.bN=4
  ·have e:=h3 x hm b d4 (hb.loop d4)
   dsimp only[iD]at e
   simp only[d4,Int.reduceEq,dx,bE,cz,e]
  have htw:i64.wrap (b.time+x.aQ)=b.time+x.aQ:=aF
  simp only[htw]
  by_cases d0:x.bN=0
  ·obtain⟨v1,v2⟩:=ho.var (.inl d0)
   simp only[d0,Int.reduceEq,dx,gh,bE,bA,cz,dS,ev,Tz hb.vals hn v1 v2]
   rfl
  by_cases d1:x.bN=1
  ·simp only[d1,Int.reduceEq,dx,gh,bE,bA,cz,dS,ev,yg]
   rw[gC,bw (by simp;omega)]
  by_cases d5:x.bN=5
  ·obtain⟨v1,v2⟩:=ho.var (.inr d5)
   obtain⟨n1,n2⟩:=ho.n5 d5
   simp only[d5,Int.reduceEq,dx,gh,bE,bA,cz,dS,Tz hb.vals hn v1 v2]
   rw[gC]
   rfl
  by_cases d3:x.bN=3
  ·have e1:=h1 x hm _ (hb.sub d3).1
   have e2:=h2 x hm _ (hb.sub d3).2
   dsimp only[iD,CS.add]at e1 e2
   simp only[d3,Int.reduceEq,dx,gh,bE,bA,cz,dS,ev,e1,e2]
   by_cases hz:dN b.vals x.az=0
   ·simp only[hz,dx,bE,bA,ne_eq,not_true,dS]
    rfl
   ·simp only[hz,gh,bE,bA,ne_eq,not_false_eq_true,cz]
    rfl
  by_cases d6:x.bN=6
  ·obtain⟨_,q2,_,q4,_⟩:=ho.BY d6
   simp only[d6,Int.reduceEq,dx,gh,bE,bA,cz,dS,adk x.aJ _ (by omega) q4]
  ·simp only[d0,d1,d3,d4,d5,d6,gh,bA,dS]
   rfl) (fun b _=>by unfold QV;simp) (b:=(s,0)) ⟨by rw[xT];exact h,by rw[xT]⟩
 obtain⟨b,z⟩:=v
 have e1':Sz M96 M179 ⟨hs,l,0,f,iD s,⟨[],[],0⟩⟩=V ⟨hs,l,(l.length:Int),f,iD b,⟨[],[],z⟩⟩:=e1
 have hr:=hV.2
 dsimp only at hr
 rw[List.drop_length,vZ]at hr
 unfold s96
 rw[e1',<-hr]
 dsimp only
 rw[fy,bA]
def abG(M96:aP->(List Int)->(List au)->bD->Option CD)(M179:aP->(List Int)->au->bD->Option lf){f:aP}(hv:bX f.ah){hs:List Int}{x:au}(hN:0<=x.fN/\x.fN<=4096){s:CS}(h:FH f x x.fN.toNat s)
  (h1:∀s,FN f wN x.aH s->M96 f hs x.aH (iD s)=V (iD (iX f hs x.aH s))):
  afi M96 M179 f hs x (iD s)=V (iD (pe (iX f hs x.aH) x.az x.aQ x.fN.toNat s)):=by
 obtain⟨i,v,e1,hV,hc⟩:=oK (cO:=Ev M96 M179) x.fN.toNat (fun i (b:CS×Int)=>⟨hs,(i:Int),f,x,iD b.1,⟨[],[],b.2⟩⟩)
  (fun i b=>FH f x (x.fN.toNat-i) b.1/\pe (iX f hs x.aH) x.az x.aQ (x.fN.toNat-i) b.1=pe (iX f hs x.aH) x.az x.aQ x.fN.toNat s) (fun i b=>dN b.1.vals x.az=0) (fun i b hi hb=>by
  obtain⟨b,z⟩:=b
  obtain⟨hb,hr⟩:=hb
  dsimp only at hb hr
  obtain⟨k,hk⟩:∃k,x.fN.toNat-i=k+1:=⟨x.fN.toNat-i-1,by omega⟩
  have hk2:x.fN.toNat-(i+1)=k:=by omega
  rw[hk]at hb hr
  rw[pe]at hr
  obtain⟨ev,_,_⟩:=Cz hv hb.vals wN x.az hb.term
  have hw:i64.wrap ((i:Int)+1)=((i+1:Nat):Int):=by rw[aF];omega
  have i1:(i:Int)<x.fN:=by omega
  have hbb:=hb.body
  have ht:=hbb.t
  have hp:=dJ f _ _ _ (zw _) hb.hc
  have h0:=hb.t0
  have hcc:=hb.cost
  have htw:i64.wrap (b.time+x.aQ)=b.time+x.aQ:=by simp only[CS.add]at ht;exact aF
  have e:=h1 _ hbb
  dsimp only[iD,CS.add]at e
  by_cases hz:dN b.vals x.az=0
  ·refine .inr ⟨?_,hz⟩
   unfold Ev
   dsimp only[iD]
   simp only[i1,dx,bE,aq.eta,ev,hz]
  ·rw[bF hz]at hr
   refine .inl ⟨(iX f hs x.aH (b.add x.aQ),z),?_,by rw[hk2];exact hb.next hv hs,by rw[hk2];exact hr⟩
   unfold Ev
   dsimp only[iD]
   simp only[i1,dx,bE,aq.eta,ev,hz,gh,bA,htw,e,au.eta,hw]
   rfl) (fun b _=>by
   unfold Ev
   dsimp only
   rw[fy];rfl) (b:=(s,0)) ⟨h,rfl⟩
 obtain⟨b,z⟩:=v
 have e1':J0 M96 M179 ⟨hs,0,f,x,iD s,⟨[],[],0⟩⟩=V ⟨hs,(i:Int),f,x,iD b,⟨[],[],z⟩⟩:=e1
 unfold afi
 rw[aq.eta,au.eta]
 rw[e1']
 obtain⟨hb,hr⟩:=hV
 dsimp only at hb hr
 rw[<-hr]
 rcases hc with rfl|⟨hi,hz⟩
 ·dsimp only
  rw[fy,bA,xF,pe]
 ·obtain⟨k,hk⟩:∃k,x.fN.toNat-i=k+1:=⟨x.fN.toNat-i-1,by omega⟩
  rw[hk]at hb ⊢
  dsimp only at hz
  rw[pe,bw hz]
  obtain⟨ev,_,_⟩:=Cz hv hb.vals wN x.az hb.term
  have ht:=hb.body.t
  have hp:=dJ f _ _ _ (zw _) hb.hc
  have h0:=hb.t0
  have hcc:=hb.cost
  have htw:i64.wrap (b.time+x.aQ)=b.time+x.aQ:=by simp only[CS.add]at ht;exact aF
  dsimp only[iD]
  rw[sw,bE,aq.eta,ev]
  simp only[hz,dx,bE,htw]
  rfl
def vS{x:au}{l:List au}(hx:x∈l):fO x.aH<=fO l/\fO x.aL<=fO l:=by have:=CZ hx;have:=oH x;omega
def vH{f:aP}{x:au}:∀{top:Bool} {l:List au},b9 f top l=0->x∈l->∃last,JJ f last x
 |_,[],_,h=>by cases h
 |_,y::l,hc,h=>by
  obtain⟨h1,h2,h3,h4⟩:=dP hc
  rcases zy.1 h with rfl|h
  ·exact⟨_,kI h1⟩
  ·exact vH h4 h
def YM{f:aP}(hv:bX f.ah)(hn:f.ah.length<=1000000){hs:List Int}(hh:hs.length=f.aj.length):∀n:Nat,
  (∀(top:Bool) (l:List au) (s:CS),2*SizeOf.sizeOf l<n->fO l<=1000000->FN f top l s->m96 n f hs l (iD s)=V (iD (iX f hs l s)))/\
  (∀(x:au) (s:CS),2*SizeOf.sizeOf x.aH+1<n->fO x.aH<=1000000->(0<=x.fN/\x.fN<=4096)->FH f x x.fN.toNat s->KH n f hs x (iD s)=V (iD (pe (iX f hs x.aH) x.az x.aQ x.fN.toNat s)))
 |0=>⟨fun _ _ _ h=>by omega,fun _ _ h=>by omega⟩
 |n+1=>by
  obtain⟨i1,i2⟩:=YM hv hn hh n
  refine⟨fun top l s h hN hb0=> ?_,fun x s h hN hx hb=> ?_⟩
  ·refine ann (m96 n) (KH n) hv hn hh (zx (jQ l) hN) hb0 (fun x hx s hb=> ?_) (fun x hx s hb=> ?_) (fun x hx s h4 hb=> ?_)
   ·have:=(aV hx).1
    exact i1 wN x.aH s (by omega) (zx (vS hx).1 hN) hb
   ·have:=(aV hx).2
    exact i1 wN x.aL s (by omega) (zx (vS hx).2 hN) hb
   ·have:=(aV hx).1
    exact i2 x s (by omega) (zx (vS hx).1 hN) ((vH hb0.hc hx).choose_spec.n4 h4) hb
  ·exact abG (m96 n) (KH n) hv hx hb (fun s hb=>i1 wN x.aH s (by omega) hN hb)
def jv(n:Nat)(g:Nat->aI):List aI:=(zH n).map g
def eC(n:Nat)(g:Nat->aI):(jv n g).length=n:=by simp[jv]
def gj{n:Nat}{g:Nat->aI}{i:Nat}(h:i<n):(jv n g)[i]! =g i:=by
 rw[getElem!_pos _ i (by rw[eC];exact h)]
 simp[jv]
def Kf(n:Nat)(g:Nat->aI):jv (n+1) g=jv n g++[g n]:=by simp[jv,List.range_succ]
def ij{n:Nat}{g g':Nat->aI}(h:∀i,i<n->g i=g' i):jv n g=jv n g':=
 zV fun i hi=>h i (List.mem_range.1 hi)
def IC{n:Nat}{g:Nat->aI}{i:Nat}(x:aI):(jv n g).set i x=jv n (fun j=>if j=i then x else g j):=by
 apply List.ext_getElem
 ·simp[jv]
 ·intro j h1 h2
  simp only[jv,wg,yo,wz]
  by_cases c:i=j
  ·subst c;simp
  ·rw[bF c,bF (fun e=>c e.symm)]
def Yk(l:List aI):jv l.length (fun i=>l[i]!)=l:=by
 apply List.ext_getElem
 ·simp[jv]
 ·intro j h1 h2
  simp only[jv,yo,wz]
  exact getElem!_pos l j h2
def O1{n:Nat}{g:Nat->aI}{l:List aI}(h1:l.length=n)(h2:∀i,i<n->g i=l[i]!):jv n g=l:=by
 subst h1
 rw[ij h2,Yk]
def tr(s:ax):aG:=⟨s.ah,s.aA,s.aC,s.aD⟩
structure fM (n m:Nat) (s:ax):Prop where
 len:s.ah.length=n
 vars:∀i,i<n->NN s.ah[i]!
 count:NN s.aA
 sl:s.aC.length<=m
 slots:∀i,i<s.aC.length->NN s.aC[i]!
 time:NN s.aD
def fM.weak{n m m':Nat}{s:ax}(h:fM n m s)(k:m<=m'):fM n m' s:=⟨h.len,h.vars,h.count,zx h.sl k,h.slots,h.time⟩
def iF(s:ax)(c:Int):ax:=⟨s.ah,s.aA,s.aC,iS 8 s.aD (dL c)⟩
def KD(f:aP)(s:ax)(v:Int)(n:aI):ax:=⟨s.ah.set v.toNat (gN n f.ah[v.toNat]!.af f.ah[v.toNat]!.aa),s.aA,s.aC,s.aD⟩
def FM(s:ax)(v:aI):ax:=
 ⟨s.ah,iS 8 s.aA (dL 1),jv s.aC.length (fun k=>if cG s.aA k=wO then cn s.aC[k]! v else s.aC[k]!)++[v],s.aD⟩
def WO(a b:List aI)(i:Nat):aI:=if a.length<=i then b[i]! else if b.length<=i then a[i]! else cn a[i]! b[i]!
def jc(a b:ax):ax:=
 ⟨jv a.ah.length (fun i=>cn a.ah[i]! b.ah[i]!),cn a.aA b.aA,jv (max a.aC.length b.aC.length) (WO a.aC b.aC),cn a.aD b.aD⟩
def j9{c:Int}(h:bY c):NN (dL c):=NN.one h.1 h.2
def sv{n m:Nat}{s:ax}(h:fM n m s){c:Int}(hc:bY c):fM n m (iF s c):=
 ⟨h.len,h.vars,h.count,h.sl,h.slots,let ⟨_,_,_,k⟩:=wS 8 h.time (j9 hc);k⟩
def CY{f:aP}{n m:Nat}{s:ax}(h:fM n m s){v:Int}{x:aI}(hx:NN x):fM n m (KD f s v x):=by
 refine⟨?_,fun i hi=> ?_,h.count,h.sl,h.slots,h.time⟩
 ·show (s.ah.set _ _).length=n
  rw[zO];exact h.len
 ·show NN (s.ah.set _ _)[i]!
  have hl:=h.len
  rw[getElem!_pos _ i (by rw[zO];omega),wg]
  split
  ·exact let ⟨_,_,_,k,_⟩:=jf hx f.ah[v.toNat]!.af f.ah[v.toNat]!.aa;k
  ·have:=h.vars i hi
   rw[getElem!_pos _ i (by omega)]at this
   exact this
def RR{n m:Nat}{s:ax}(h:fM n m s){x:aI}(hx:NN x):fM n (m+1) (FM s x):=by
 have hs:=h.sl
 have hl:(FM s x).aC.length=s.aC.length+1:=by simp[FM,eC]
 refine⟨h.len,h.vars,let ⟨_,_,_,k⟩:=wS 8 h.count (j9 (c:=1) ⟨by decide,by decide⟩);k,by omega,fun i hi=> ?_,h.time⟩
 rw[hl]at hi
 have hlt:=eC s.aC.length (fun k=>if cG s.aA k=wO then cn s.aC[k]! x else s.aC[k]!)
 show NN (jv s.aC.length (fun k=>if cG s.aA k=wO then cn s.aC[k]! x else s.aC[k]!)++[x])[i]!
 by_cases c:i<s.aC.length
 ·have hg:=gj (g:=(fun k=>if cG s.aA k=wO then cn s.aC[k]! x else s.aC[k]!)) c
  generalize jv s.aC.length (fun k=>if cG s.aA k=wO then cn s.aC[k]! x else s.aC[k]!)=T at*
  rw[getElem!_pos _ i (by rw[zh];omega),xB (by omega),<-getElem!_pos T i (by omega),hg]
  split
  ·exact jP (h.slots i c) hx
  ·exact h.slots i c
 ·generalize jv s.aC.length (fun k=>if cG s.aA k=wO then cn s.aC[k]! x else s.aC[k]!)=T at*
  rw[getElem!_pos _ i (by rw[zh,yG];omega),xg (by omega)]
  simpa using hx
def aj8{a b:List aI}(ha:∀i,i<a.length->NN a[i]!)(hb:∀i,i<b.length->NN b[i]!){i:Nat}(hi:i<max a.length b.length):NN (WO a b i):=by
 unfold WO
 split
 ·exact hb i (by omega)
 split
 ·exact ha i (by omega)
 ·exact jP (ha i (by omega)) (hb i (by omega))
def v8{n m:Nat}{s t:ax}(h:fM n m s)(k:fM n m t):fM n m (jc s t):=by
 have h1:=h.len
 have h2:=h.sl
 have k2:=k.sl
 refine⟨by show (jv _ _).length=n;rw[eC];exact h1,fun i hi=> ?_,jP h.count k.count,by show (jv _ _).length<=m;rw[eC];omega,fun i hi=> ?_,jP h.time k.time⟩
 ·show NN (jv _ _)[i]!
  rw[gj (by omega)]
  exact jP (h.vars i hi) (k.vars i hi)
 ·have hi:i<(jv (max s.aC.length t.aC.length) (WO s.aC t.aC)).length:=hi
  rw[eC]at hi
  show NN (jv _ _)[i]!
  rw[gj hi]
  exact aj8 h.slots k.slots hi
def sy(i:aI)(ks:List aI):Nat->aI
 |0=>cy
 |n+1=>if cG i n=wO then cn (sy i ks n) ks[n]! else sy i ks n
def SH(vars:List aI)(t:aq)(k:List aI):aI:=
 if t.bf=0 then dL t.fN else if t.bf=24 then vars[t.fN.toNat]! else if t.bf=6 then(mI 6 k[0]!).1 else if t.bf=7 then(mI 7 k[0]!).1
 else if t.bf=23 then(if cG k[0]! 0=wN then k[1]! else if cq k[0]! =wN then k[2]! else cn k[1]! k[2]!)
 else if t.bf=25 then sy (gN k[0]! 0 ((k.length:Int)-2)) (k.drop 1) (k.drop 1).length else iS t.bf k[0]! k[1]!
def cC(vars:List aI)(t:aq):aI:=SH vars t (t.ak.attach.map fun k=>cC vars k.1)
termination_by SizeOf.sizeOf t
decreasing_by exact aq.dV k.2
def SR(vars:List aI)(t:aq):cC vars t=SH vars t (t.ak.map (cC vars)):=by
 rw[cC]
 rw[show (t.ak.attach.map fun k=>cC vars k.1)=t.ak.map (cC vars)from xO (f:=cC vars)]
def mapA{vars:List aI}{t:aq}{i:Nat}(h:i<t.ak.length):(t.ak.map (cC vars))[i]! =cC vars t.ak[i]! :=by
 rw[getElem!_pos _ i (by simpa using h),getElem!_pos _ i h,yo]
def vh{i:aI}{ks:List aI}(hk:∀j,j<ks.length->NN ks[j]!):∀n,n<=ks.length->NV (sy i ks n)/\((∃j,j<n/\cG i (j:Nat)=wO)->NN (sy i ks n))
 |0,_=>⟨.inl rfl,fun⟨j,h,_⟩=>by omega⟩
 |n+1,hn=>by
  obtain⟨h1,h2⟩:=vh (i:=i) hk n (by omega)
  rw[sy]
  by_cases c:cG i (n:Nat)=wO
  ·rw[bw c]
   have hv:=dU h1 (.inr (hk n (by omega)))
   have:NN (cn (sy i ks n) ks[n]!):=by
    rcases h1 with e|h
    ·rw[e,gV];exact hk n (by omega)
    ·exact jP h (hk n (by omega))
   exact⟨hv,fun _=>this⟩
  ·rw[bF c]
   refine⟨h1,fun⟨j,h,k⟩=>h2 ⟨j,?_,k⟩⟩
   by_cases e:j=n
   ·subst e;exact cQ k c
   ·omega
def Ug{a:aI}(ha:NN a){n:Nat}(h0:1<=n)(hn:n<=1000000):∃j:Nat,j<n/\cG (gN a 0 ((n:Int)-1)) (j:Nat)=wO:=by
 obtain⟨_,_,_,hv,hr⟩:=jf ha 0 ((n:Int)-1)
 have hr:=hr ⟨by decide,by decide⟩ ⟨by omega,by omega⟩ (by omega)
 rcases hr with ⟨e,_⟩|hr
 ·exact cQ e hv.ne
 ·obtain⟨x,_,h2⟩:=hr.lo
  refine⟨(gN a 0 ((n:Int)-1)).af.toNat,by omega,?_⟩
  rw[show (((gN a 0 ((n:Int)-1)).af.toNat:Nat):Int)=(gN a 0 ((n:Int)-1)).af by omega]
  exact fQ ⟨zg _,hv.le,by rw[Int.sub_self];exact yU _⟩
def rG(x:Int):Qx x=dL x:=rfl
def Mp{vars:List aS}{t:aq}(h:(eB vars t).isSome=wO):∀k∈t.ak,(eB vars k).isSome=wO:=fun k hk=>by
 rw[kN]at h
 cases ha:jE (t.ak.map (eB vars))with
 |none=>rw[ha]at h;cases h
 |some r=>
  have hr:=jO ha
  have hm:eB vars k∈r.map V:=by rw[<-hr];exact wL hk
  obtain⟨s,h1,h2⟩:=zL.1 hm
  rw[<-h2];rfl
def afZ{vars:List aS}{t:aq}(h0:t.bf=0)(h:(eB vars t).isSome=wO):bY t.fN:=by
 rw[kN]at h
 cases ha:jE (t.ak.map (eB vars))with
 |none=>rw[ha]at h;cases h
 |some r=>
  rw[ha]at h
  dsimp only at h
  split at h
  ·rename_i hl
   unfold sC dR at hl
   simp only[h0,cz,zf,decide_eq_true_eq]at hl
   unfold bY
   omega
  ·cases h
def XM(M:aq->ax->Option qy){vars:List aI}{st:ax}{ks:List aq}(hl:ks.length<=1000000)(hK:∀j,j<ks.length->M ks[j]! st=V (cC vars ks[j]!,st)/\NN (cC vars ks[j]!)){H:aI}(hH:NN H)(z:aI):
  Jo M ⟨ks,(ks.length:Int),0,st,z,H,cy⟩=V ⟨ks,(ks.length:Int),(ks.length:Int),st,z,H,sy H (ks.map (cC vars)) ks.length⟩:=by
 have hmap:∀j,j<ks.length->(ks.map (cC vars))[j]! =cC vars ks[j]! :=fun j h=>by rw[getElem!_pos _ j (by simpa using h),getElem!_pos _ j h,yo]
 have hkn:∀j,j<(ks.map (cC vars)).length->NN (ks.map (cC vars))[j]! :=fun j h=>by
  have h:j<ks.length:=by simpa using h
  rw[hmap j h];exact(hK j h).2
 obtain⟨v,e1,hv⟩:=dH (cO:=HI M) ks.length (fun i (_:Unit)=>⟨ks,(ks.length:Int),(i:Int),st,z,H,sy H (ks.map (cC vars)) i⟩) (fun i _=>True) (fun i b hi _=>by
  have hw:=gF hi hl
  obtain⟨k1,k2⟩:=hK i hi
  have i1:(i:Int)<(ks.length:Int):=by omega
  have i2:(0:Int)<=(i:Int):=by omega
  refine⟨(),?_,trivial⟩
  unfold HI
  by_cases hc:cG H (i:Nat)=wO
  ·simp only[za,i1,i2,dx,bE,ew,cz,tU (.inr hH),hc,aq.eta,k1,n7 (vh hkn i (by simp;omega)).1 (.inr k2),hw,sy,hmap i hi]
  ·have hc:cG H (i:Nat)=wN:=by simpa using hc
   simp only[za,i1,i2,dx,bE,bA,ew,cz,tU (.inr hH),hc,hw,sy,xp,dS]) (fun b _=>by unfold HI;simp) (b:=()) trivial
 exact e1
def aox(M:aq->ax->Option qy){vars:List aS}{inp:Bool}{m:Nat}{st:ax}(hst:fM vars.length m st)(t:aq)(hf:cU vars inp t=wO)(hs:(eB vars t).isSome=wO)
  (hM:∀k∈t.ak,M k st=V (cC st.ah k,st)/\NN (cC st.ah k)):acH M t st=V (cC st.ah t,st)/\NN (cC st.ah t):=by
 obtain⟨⟨g1,g2,g3⟩,h24⟩:=Ib hf
 have K:∀i,i<t.ak.length->M t.ak[i]! st=V (cC st.ah t.ak[i]!,st)/\NN (cC st.ah t.ak[i]!):=fun i hi=>hM _ (aX hi)
 rw[SR]
 unfold acH SH
 simp only[aq.eta,zK]
 rcases DH t.bf g1 with ⟨h,e⟩|⟨h,e⟩|⟨h,e⟩|⟨h,e⟩|⟨h,e⟩<;>rw[e]at g2 g3<;>dsimp only at g2 g3
 ·rcases h with h|h
  ·simp only[h,dx,bE,cz,rG]
   exact⟨trivial,j9 (afZ h hs)⟩
  ·obtain⟨q1,q2⟩:=h24 h
   have hl:=hst.len
   simp only[h,Int.reduceEq,gh,dx,bE,bA,cz,dS]
   rw[gC]
   exact⟨rfl,hst.vars _ (by omega)⟩
 ·obtain⟨k1,k2⟩:=K 0 (by omega)
  have m0:=mapA (vars:=st.ah) (show 0<t.ak.length by omega)
  have i1:(t.ak.length:Int)=1:=by omega
  rcases h with h|h
  ·simp only[h,Int.reduceEq,gh,dx,bE,bA,i1,cz,dS,k1,m0,ew,Ry (.inr k2),Int.reduceLT,Int.reduceLE,true_and]
   exact GS _ k2
  ·simp only[h,Int.reduceEq,gh,dx,bE,bA,i1,cz,dS,k1,m0,ew,Ry (.inr k2),Int.reduceLT,Int.reduceLE,true_and]
   exact GS _ k2
 ·obtain⟨k1,k2⟩:=K 0 (by omega)
  obtain⟨l1,l2⟩:=K 1 (by omega)
  have m0:=mapA (vars:=st.ah) (show 0<t.ak.length by omega)
  have m1:=mapA (vars:=st.ah) (show 1<t.ak.length by omega)
  have hlen:(t.ak.length:Int)=2:=by omega
  obtain⟨c,hb,_,hn⟩:=wS t.bf k2 l2
  have n0:t.bf≠0:=by omega
  have n1:t.bf≠24:=by omega
  have n2:t.bf≠6:=by omega
  have n3:t.bf≠7:=by omega
  have n4:t.bf≠23:=by omega
  have n5:t.bf≠25:=by omega
  simp only[n0,n1,n2,n3,n4,n5,gh,bA,hlen,dS,k1,l1,hb,m0,m1,Int.reduceEq,Int.reduceLT,Int.reduceLE,ew,cz,true_and]
  exact hn
 ·obtain⟨k1,k2⟩:=K 0 (by omega)
  obtain⟨l1,l2⟩:=K 1 (by omega)
  obtain⟨p1,p2⟩:=K 2 (by omega)
  have m0:=mapA (vars:=st.ah) (show 0<t.ak.length by omega)
  have m1:=mapA (vars:=st.ah) (show 1<t.ak.length by omega)
  have m2:=mapA (vars:=st.ah) (show 2<t.ak.length by omega)
  have hlen:(t.ak.length:Int)=3:=by omega
  simp only[h,Int.reduceEq,gh,dx,bE,bA,hlen,cz,dS,k1,l1,p1,m0,m1,m2,Cj (.inr k2),n7 (.inr l2) (.inr p2),Int.reduceLT,Int.reduceLE,ew]
  cases cG (cC st.ah t.ak[0]!) 0<;>cases cq (cC st.ah t.ak[0]!)
  ·exact⟨rfl,l2⟩
  ·exact⟨rfl,l2⟩
  ·exact⟨rfl,p2⟩
  ·exact⟨rfl,jP l2 p2⟩
 ·obtain⟨k1,k2⟩:=K 0 (by omega)
  have m0:=mapA (vars:=st.ah) (show 0<t.ak.length by omega)
  have w:i64.wrap ((t.ak.length:Int)-(2:Int))=(t.ak.length:Int)-(2:Int):=aF
  obtain⟨c,hcl,_,hcn,_⟩:=jf k2 0 ((t.ak.length:Int)-(2:Int))
  obtain⟨j,hj1,hj2⟩:=Ug k2 (n:=t.ak.length-1) (by omega) (by omega)
  rw[show (((t.ak.length-1:Nat):Int)-1)=(t.ak.length:Int)-(2:Int)by omega]at hj2
  simp only[h,Int.reduceEq,gh,dx,bE,bA,cz,dS,k1,m0,w]
  rw[gC,hcl]
  generalize gN (cC st.ah t.ak[0]!) 0 ((t.ak.length:Int)-(2:Int))=H at*
  have hd:(t.ak.drop 1).length=t.ak.length-1:=z8 ..
  have e2:=XM M (vars:=st.ah) (st:=st) (ks:=t.ak.drop 1) (by omega) (fun j hj=>hM _ (xW (aX hj))) (H:=H) hcn ⟨0,0,0⟩
  dsimp only
  rw[gC]
  rw[show af4=cy from rfl,e2]
  dsimp only
  rw[fy,bA,<-xj,zK]
  refine⟨rfl,(vh (fun j hj=> ?_) _ (by simp)).2 ⟨j,by omega,hj2⟩⟩
  have hj:j<(t.ak.drop 1).length:=by simpa using hj
  rw[getElem!_pos _ j (by simpa using hj),yo]
  exact(hM _ (xW (xx ..))).2
def Ff{vars:List aS}{inp:Bool}{m:Nat}{st:ax}(hst:fM vars.length m st):∀(n:Nat) (t:aq),SizeOf.sizeOf t<n->cU vars inp t=wO->(eB vars t).isSome=wO->PF n t st=V (cC st.ah t,st)/\NN (cC st.ah t)
 |0,_,h,_,_=>by omega
 |n+1,t,h,hf,hs=>aox (PF n) hst t hf hs (fun k hk=>Ff hst n k (by have:=aq.dV hk;omega) (j7 hf hk) (Mp hs k hk))
def vM{vars:List aS}{inp:Bool}{t:aq}(hc:eH vars inp t=0):cU vars inp t=wO/\(eB vars t).isSome=wO:=by
 unfold eH at hc
 cases hf:cU vars inp t with
 |false=>rw[hf]at hc;simp at hc
 |true=>
  rw[hf]at hc
  cases hs:(eB vars t).isSome with
  |false=>rw[hs]at hc;simp at hc
  |true=>exact⟨rfl,rfl⟩
def iO{vars:List aS}{inp:Bool}{m:Nat}{st:ax}(hst:fM vars.length m st)(t:aq)(hc:eH vars inp t=0):NN (cC st.ah t):=
 (Ff hst (SizeOf.sizeOf t+1) t (by omega) (vM hc).1 (vM hc).2).2
end Go.Proofs.YtnfljbehcffmcaaGreat
end
