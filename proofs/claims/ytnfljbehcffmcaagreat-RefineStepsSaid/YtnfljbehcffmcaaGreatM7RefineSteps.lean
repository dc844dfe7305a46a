/- Merged: Nr2, Nr3, Nr4, Nr5, Nr6, Si, Sg, Sj, Hrc, Nr9, Nr10, Hrd, Nr11, Iy1, Iy2, Opd, Qk. -/
import Derived.Test.YtnfljbehcffmcaaGreatM1RefineSteps
import Derived.Test.YtnfljbehcffmcaaGreatM6RefineSteps
import Derived.Test.YtnfljbehcffmcaaGreatM2RefineSteps
import Derived.Test.YtnfljbehcffmcaaGreatM5RefineSteps
import Derived.Shelf.Spec.SlicesInsert
import Derived.Lib.AppendZerosOnto
import Derived.Laws.NewBlocks
import Derived.Lib.Overlaps
import Derived.Laws.Externs
import Derived.Shelf.Spec.SlicesGrow
import Derived.Deep.Slices
import Derived.Lib.SmallJoins
open List renaming length -> zR
open Nat renaming beq -> ze, le_refl -> zm, lt_succ_self -> zC, add_mul -> zX, le_succ -> yd, add_zero -> yj, mul_le_mul_right -> yl, zero_add -> ym, add_assoc -> yG, one_mul -> yL, zero_le -> yV, not_lt_zero -> y8, sub_self -> xT
open Int renaming toNat_natCast -> zg, le_refl -> zw, toNat -> zD, lt_irrefl -> yg, natCast_zero -> xH
open List renaming length_append -> zh, replicate -> zj, mem_cons_self -> zk, mem_singleton -> zo, getElem?_eq_getElem -> zq, length_map -> zu, all_eq_true -> zx, mem_cons -> zy, length_take -> zA, take_length -> zH, mem_cons_of_mem -> zI, mem_map -> zK, map_append -> zM, range -> zN, mem_append -> zP, length_drop -> zV, drop_drop -> zW, map_congr_left -> zZ, getElem?_eq_some_iff -> z7, mem_filter -> z8, drop -> ya, map_cons -> yf, length_singleton -> yh, length_filter_le -> yt, length_set -> yu, append_nil -> yy, length_nil -> yB, getElem?_take -> yE, getElem?_drop -> yF, drop_eq_getElem_cons -> yN, flatMap_cons -> yQ, length_cons -> yT, map_nil -> yU, getElem_of_mem -> y5, size_toArray -> y6, take_append_drop -> xe, filter_append -> xk, mem_flatMap -> xz, map_drop -> xA, mem_of_mem_drop -> xC, filterMap_cons -> xD, length_eq_zero_iff -> xG, getElem_take -> xJ, map_take -> xK, length_replicate -> xQ, flatMap_append -> xR, getElem_drop -> xS, ext_getElem -> xY, pairwise_cons -> x8, getElem_append_left -> wg, any_eq_true -> wo, getElem?_take_of_lt -> wz, drop_of_length_le -> wA, set_eq_take_append_cons_drop -> wB, getElem_append_right -> wD, length_pos_iff -> wG, mem_of_mem_take -> wH, drop_length -> wN, filter_eq_nil_iff -> wR, filter_eq_self -> wS, filter_cons_of_pos -> ve, filter_cons_of_neg -> vf
open Bool renaming false_eq_true -> yx, or_eq_true -> yK, true -> O, false -> G
open Option renaming bind_eq_some_iff -> zn, some -> zF, isSome_none -> vg, some -> V, none -> I
open Array renaming length_toList -> yp, getElem?_eq_some_iff -> y9, getElem?_eq_getElem -> xd, getElem?_toList -> wO
open Decidable renaming decide -> J
open Go.Proofs.Tryz renaming prog -> vi
open Go.Proofs.Tryz
set_option linter.unusedSectionVars false
set_option linter.unusedVariables false
set_option linter.unusedSimpArgs false
set_option linter.defProp false
noncomputable section
set_option maxRecDepth 100000
namespace Go.Proofs.YtnfljbehcffmcaaGreat
open Go Go.Iv
open Go.IntKind (i64 u64)
def gh(l:aa Part):aa Int:=l.flatMap (·.ax)
structure WF (f:aS) (l:List Part):Prop where
 ne:0<zR l
 root:l[0]!.bP=o7 f
 box:∀i,i<zR l->ig f l[i]!.bP
 kid:∀i,i<zR l->(l[i]!.ax=[]/\l[i]!.b8=0/\l[i]!.iU=0)\/
  ∃a b j:Nat,l[i]!.ax=[(a:Int),(b:Int)]/\i<a/\a<zR l/\i<b/\b<zR l/\a≠b/\l[i]!.b8=(j:Int)/\j<zR l[i]!.bP/\l[i]!.bP[j]!.ah<=l[i]!.iU/\l[i]!.iU<l[i]!.bP[j]!.ag/\
   l[a]!.bP=bLo l[i]!.bP j l[i]!.iU/\l[b]!.bP=bHi l[i]!.bP j l[i]!.iU
 cnt:∀k:Nat,k<zR l->(gh l).count (k:Int)=if k=0 then 0 else 1
def Qi{l:aa Part}{k:Nat}(hk:k<zR l){q:Part}(h0:l[k]!.ax=[])(x:Int):(gh (l.set k q)).count x=(gh l).count x+q.ax.count x:=by
 have e1:l=l.take k++l[k]! ::l.drop (k+1):=by
  rw[getElem!_pos l k hk,<-yN hk,xe]
 have e2:l.set k q=l.take k++q::l.drop (k+1):=wB.trans (bJ hk);unfold gh
 conv=>rhs;rw[e1]
 rw[e2];simp only[xR,yQ,List.count_append,h0,List.count_nil];omega
def WF.abI{f:aS}{l:aa Part}(h:WF f l){x:Int}(hx:x∈gh l):∃i a:Nat,i<zR l/\x∈l[i]!.ax/\x=(a:Int)/\i<a/\a<zR l:=by
 obtain⟨p,hp,hx⟩:=xz.1 hx;obtain⟨i,hi,rfl⟩:=y5 hp;have e:=getElem!_pos l i hi;refine⟨i,?_⟩;rcases h.kid i hi with ⟨h1,_⟩|⟨a,b,j,h1,h2,h3,h4,h5,_⟩
 ·rw[<-e,h1]at hx;cases hx
 ·rw[<-e]at hx;have hx':=hx;rw[h1]at hx;rcases zy.1 hx with rfl|hx
  ·exact⟨a,hi,hx',rfl,h2,h3⟩
  ·rw[zo.1 hx]at hx' ⊢;exact⟨b,hi,hx',rfl,h4,h5⟩
def WF.parent{f:aS}{l:aa Part}(h:WF f l){k:Nat}(hk:k<zR l)(h0:k≠0):∃i,i<k/\(k:Int)∈l[i]!.ax:=by
 have:=h.cnt k hk;rw[bN h0]at this;have hm:(k:Int)∈gh l:=List.count_pos_iff.1 aq;obtain⟨i,a,h1,h2,h3,h4,h5⟩:=h.abI hm;have:a=k:=aq;subst this;exact⟨i,h4,h2⟩
def uZ{f:aS}{v:bT}(c:Cx f v):WF f [⟨0,0,[],o7 f⟩] where
 ne:=Nat.zero_lt_one
 root:=rfl
 box i hi:=by
  have:i=0:=by simpa using hi
  subst this;exact Vr c
 kid i hi:=by
  have:i=0:=by simpa using hi
  subst this;simp
 cnt k hk:=by
  have:k=0:=by simpa using hk
  subst this;rfl
def EJ(l:aa Part)(k i:Nat)(a:Int):zR (iJ l k i a)=zR l+2:=by unfold iJ;simp
def FK(l:aa Part)(k i:Nat)(a:Int){j:Nat}(hj:j<zR l):(iJ l k i a)[j]! =if k=j then⟨(i:Int),a,[(zR l:Int),((zR l+1:Nat):Int)],l[k]!.bP⟩else l[j]! :=by
 unfold iJ;rw[adE _ _ _ (by simpa using hj),iR _ _ _ _ hj]
def SO(l:aa Part)(k i:Nat)(a:Int):(iJ l k i a)[zR l]! =⟨0,0,[],bLo l[k]!.bP i a⟩/\(iJ l k i a)[zR l+1]! =⟨0,0,[],bHi l[k]!.bP i a⟩:=by
 unfold iJ;simp
def Z8{f:aS}{l:aa Part}(h:WF f l){k i:Nat}(hk:k<zR l)(h0:l[k]!.ax=[])(hi:i<zR l[k]!.bP){a:Int}(h1:l[k]!.bP[i]!.ah<=a)(h2:a<l[k]!.bP[i]!.ag):WF f (iJ l k i a):=by
 have hl:=EJ l k i a;obtain⟨n1,n2⟩:=SO l k i a;have hb:=h.box k hk;have obx:∀j,j<zR l->(iJ l k i a)[j]!.bP=l[j]!.bP:=λj hj=>by
  rw[FK l k i a hj];by_cases e:k=j
  ·rw[bJ e,e]
  ·rw[bN e]
 refine⟨aq,by rw[obx 0 h.ne];exact h.root,λj hj=> ?_,λj hj=> ?_,λx hx=> ?_⟩
 ·rw[hl]at hj;by_cases j1:j<zR l
  ·rw[obx j j1];exact h.box j j1
  ·by_cases j2:j=zR l
   ·rw[j2,n1];exact anW hb hi h1 h2
   ·rw[show j=zR l+1 by omega,n2];exact an5 hb hi h1 h2
 ·rw[hl]at hj;by_cases j1:j<zR l
  ·rw[FK l k i a j1];by_cases e:k=j
   ·rw[bJ e];subst e;refine .inr ⟨zR l,zR l+1,i,rfl,hk,aq,aq,aq,aq,rfl,hi,h1,h2,?_,?_⟩
    ·rw[n1]
    ·rw[n2]
   ·rw[bN e];rcases h.kid j j1 with q|⟨a',b',i',q1,q2,q3,q4,q5,q6,q7,q8,q9,q10,q11,q12⟩
    ·exact .inl q
    ·exact .inr ⟨a',b',i',q1,q2,aq,q4,aq,q6,q7,q8,q9,q10,by rw[obx a' q3];exact q11,by rw[obx b' q5];exact q12⟩
  ·by_cases j2:j=zR l
   ·rw[j2,n1];exact .inl ⟨rfl,rfl,rfl⟩
   ·rw[show j=zR l+1 by omega,n2];exact .inl ⟨rfl,rfl,rfl⟩
 ·rw[hl]at hx;have e:(gh (iJ l k i a)).count (x:Int)=(gh l).count (x:Int)+[(zR l:Int),((zR l+1:Nat):Int)].count (x:Int):=by
   unfold iJ;have:gh (l.set k ⟨(i:Int),a,[(zR l:Int),((zR l+1:Nat):Int)],l[k]!.bP⟩++[⟨0,0,[],bLo l[k]!.bP i a⟩,⟨0,0,[],bHi l[k]!.bP i a⟩])=gh (l.set k ⟨(i:Int),a,[(zR l:Int),((zR l+1:Nat):Int)],l[k]!.bP⟩):=by
    unfold gh;simp
   rw[this,Qi hk h0]
  rw[e];have hc:∀y z:Nat,([(y:Int),(z:Int)]).count (x:Int)=(if y=x then 1 else 0)+(if z=x then 1 else 0):=λy z=>by
   simp only[List.count_cons,List.count_nil,beq_iff_eq,Int.natCast_inj];omega
  rw[hc];by_cases x1:x<zR l
  ·rw[h.cnt x x1,bN (show ¬l.length=x by omega),bN (show ¬l.length+1=x by omega)];rfl
  ·have:(gh l).count (x:Int)=0:=List.count_eq_zero.2 λhm=>by
    obtain⟨i',a',q1,q2,q3,q4,q5⟩:=h.abI hm;omega
   rw[this,bN (show ¬x=0 by have:=h.ne;omega)];by_cases x2:x=zR l
   ·rw[bJ x2.symm,bN (show ¬l.length+1=x by omega)]
   ·rw[bN (show ¬l.length=x by omega),bJ (show zR l+1=x by omega)]
def XK(c:aa Cell)(i:Int)(n:Int)(t16:aa Cell)(t17 t18:Int)(ks:aa Int)(P:aa Int)(hl:zR ks<=1000000)(hk:∀x∈ks,∃a:Nat,x=(a:Int)/\i<(a:Int)/\a<zR c)(hP:zR P=zR c)(hb:∀k,k<zR P->0<=P[k]!/\P[k]!<=1000000):
  ∃ae,En ⟨c,P,i,t16,t17,t18,ks,(zR ks:Int),0⟩=V ⟨c,ae,i,t16,t17,t18,ks,(zR ks:Int),(zR ks:Int)⟩/\zR ae=zR P/\∀k,k<zR P->ae[k]! =P[k]! +((ks.count (k:Int):Nat):Int):=by
 obtain⟨ae,e,h1,h2⟩:=cH (rnd:=J5) (zR ks) (λj (ae:aa Int)=>⟨c,ae,i,t16,t17,t18,ks,(zR ks:Int),(j:Int)⟩) (λj ae=>zR ae=zR P/\∀k,k<zR P->ae[k]! =P[k]! +(((ks.take j).count (k:Int):Nat):Int)) (λj ae hj ⟨h1,h2⟩=>by
  have hw:=jG hj hl;have i1:(j:Int)<(zR ks:Int):=aq;have i2:(0:Int)<=(j:Int):=aq;obtain⟨a,ea,a1,a2⟩:=hk ks[j]! (bu hj);have a3:¬(a:Int)<=i:=aq;have a4:¬(zR c:Int)<=(a:Int):=aq;have a5:(a:Int)<(zR ae:Int):=aq;have a6:(0:Int)<=(a:Int):=aq;have a7:a<zR ae:=aq;have hq:=h2 a aq;have hbb:=hb a aq;have hcl:(ks.take j).count (a:Int)<=1000000:=by
   have:=List.count_le_length (a:=(a:Int)) (l:=ks.take j);rw[zA]at this;omega
  have hw2:aj (ae[a]! +1)=ae[a]! +1:=aM;refine⟨ae.set a (ae[a]! +1),?_,by rw[yu];exact h1,λk hk=> ?_⟩
  ·unfold J5;simp only[cZ,cU,i1,i2,dS,ea,a3,a4,a5,a6,a7,hw,hw2]
  ·rw[iR _ _ _ _ aq,bG hj,List.count_append,ea];by_cases e:a=k
   ·subst e;rw[bJ rfl,hq];simp;omega
   ·rw[bN e,h2 k hk];have:([(a:Int)]).count (k:Int)=0:=List.count_eq_zero.2 (by simp;omega);rw[this];simp) (λae _=>by unfold J5;simp) (b:=P) ⟨rfl,λk _=>by simp⟩
 rw[zH]at h2;exact⟨ae,e,h1,h2⟩
structure an1 (l:List Part) (c:List Cell):Prop where
 len:zR c=zR l
 el:∀i,i<zR l->c[i]!.b8=l[i]!.b8/\c[i]!.iU=l[i]!.iU/\c[i]!.ax=l[i]!.ax
def Cy{l:aa Part}{i:Nat}(h:i<zR l):gh (l.take (i+1))=gh (l.take i)++l[i]!.ax:=by
 unfold gh;rw[bG h,xR];simp
def WF.vT{f:aS}{l:aa Part}(h:WF f l){i:Nat}(hi:i<zR l):zR l[i]!.ax<=2:=by
 rcases h.kid i hi with ⟨h1,_⟩|⟨a,b,j,h1,_⟩<;>rw[h1]<;>simp
def WF.Us{f:aS}{l:aa Part}(h:WF f l):∀i,i<=zR l->zR (gh (l.take i))<=2*i
 |0,_=>by simp[gh]
 |i+1,hi=>by
  have:=h.Us i aq;have:=h.vT (i:=i) aq;rw[Cy aq,zh];omega
def ai3{f:aS}{l:aa Part}(h:WF f l)(hl:zR l<=100000){c:aa Cell}(hc:an1 l c):aeB c=V O:=by
 have hn:zR c=zR l:=hc.len;have h0:=h.ne;obtain⟨P,e,hP,hPk⟩:=cH (rnd:=KS) (zR c) (λi (P:aa Int)=>⟨c,P,c,(zR c:Int),(i:Int)⟩) (λi P=>zR P=zR c/\∀k,k<zR c->P[k]! =(((gh (l.take i)).count (k:Int):Nat):Int)) (λi P hi ⟨p1,p2⟩=>by
  obtain⟨i1,i2,hw⟩:=w3 hi aq;have hil:i<zR l:=aq;obtain⟨c1,c2,c3⟩:=hc.el i hil;have hkl:=h.vT hil;have hall:∀x∈c[i]!.ax,∃a:Nat,x=(a:Int)/\(i:Int)<(a:Int)/\a<zR c:=λx hx=>by
   rw[c3]at hx;rcases h.kid i hil with ⟨q1,_⟩|⟨a,b,j,q1,q2,q3,q4,q5,_⟩
   ·rw[q1]at hx;cases hx
   ·rw[q1]at hx;rcases zy.1 hx with rfl|hx
    ·exact⟨a,rfl,aq,aq⟩
    ·rw[zo.1 hx];exact⟨b,rfl,aq,aq⟩
  obtain⟨ae,e1,e2,e3⟩:=XK c (i:Int) 0 c (zR c:Int) (i:Int) c[i]!.ax P (by rw[c3];omega) hall p1 (λk hk=>by
   rw[p2 k aq];have:=h.Us i aq;have:=List.count_le_length (a:=(k:Int)) (l:=gh (l.take i));omega)
  refine⟨ae,?_,aq,λk hk=> ?_⟩
  ·unfold KS;rcases h.kid i hil with ⟨q1,q2,q3⟩|⟨a,b,j,q1,_⟩
   ·have z:c[i]!.ax=[]:=by rw[c3,q1]
    have z1:c[i]!.b8=0:=by rw[c1,q2]
    have z2:c[i]!.iU=0:=by rw[c2,q3]
    rw[z]at e1;simp only[yB]at e1;simp only[zg,i1,z,z1,z2,yB,e1,hw];simp
   ·have z:c[i]!.ax=[(a:Int),(b:Int)]:=by rw[c3,q1]
    rw[z]at e1;simp only[yT,yB]at e1;simp only[zg,i1,z,yT,yB,e1,hw];simp
  ·rw[e3 k aq,p2 k hk,Cy hil,List.count_append,c3];simp) (λP _=>by unfold KS;simp) (b:=zj (zR c) 0) ⟨by simp,λk hk=>by
    rw[getElem!_pos _ k (by simpa using hk)];simp[gh]⟩
 have e':Lp ⟨c,zj (zR c) 0,c,(zR c:Int),0⟩=V ⟨c,P,c,(zR c:Int),(zR c:Int)⟩:=e;rw[hn,zH]at hPk;have hfin:∀k,k<zR l->P[k]! =if k=0 then 0 else 1:=λk hk=>by
  rw[hPk k hk,h.cnt k hk];split<;>rfl
 obtain⟨-,e2,-⟩:=cH (rnd:=Lu) (zR P) (λi (_:Unit)=>⟨P,(zR P:Int),(i:Int)⟩) (λ_ _=>True) (λi b hi _=>by
  obtain⟨i1,i2,hw⟩:=w3 hi aq;have hp:=hfin i aq;refine⟨(),?_,trivial⟩;unfold Lu;by_cases e:i=0
  ·subst e;simp only[zg,i1,hi,hp];rfl
  ·rw[bN e]at hp;have:¬(i:Int)=0:=aq;simp only[zg,i1,hi,hp,hw,this];simp) (λb _=>by unfold Lu;simp) (b:=()) trivial
 have e2':J9 ⟨P,(zR P:Int),0⟩=V ⟨P,(zR P:Int),(zR P:Int)⟩:=e2;have n0:¬(zR c:Int)=0:=aq;have n1:(0:Int)<=(zR c:Int)/\(zR c:Int)<=(zR c:Int)/\(zR c:Int)<=1073741824:=aq;unfold aeB;simp only[cZ,n0,cv,bJ n1,e',yg,e2']
def Gl(l:aa aB):Prop:=l.Pairwise λx y=>dN x y<=0
def si(l:aa aB):(F1 l).Perm l:=List.mergeSort_perm _ _
def N6(l:aa aB):Gl (F1 l):=by
 have:=List.pairwise_mergeSort (le:=λx y=> !Go.Proofs.ltOf dN y x) (λa b c h1 h2=>by
  simp only[Go.Proofs.ltOf,Bool.not_eq_true',decide_eq_false_iff_not]at*;have n1:=dQ a b;have n2:=dQ b c;have n3:=dQ a c
  have:=mO a b c aq aq;omega) (λa b=>by
  simp only[Go.Proofs.ltOf,yK,Bool.not_eq_true',decide_eq_false_iff_not];have:=dQ a b;omega) l
 refine this.imp λ{a b} h=> ?_;simp only[Go.Proofs.ltOf,Bool.not_eq_true',decide_eq_false_iff_not]at h;have:=dQ a b;omega
def Fz:∀(l:aa aB) (p:aB),(pH p l).Sublist l
 |[],_=> .slnil
 |y::l,p=>by
  unfold pH;split
  ·exact(Fz l y).cons y
  ·exact(Fz l y).cons_cons y
def F4(l:aa aB):(vM l).Sublist l:=by
 cases l with
 |nil=>exact .slnil
 |cons x l=>exact(Fz l x).cons_cons x
def abX{l:aa aB}(h:Gl l):Gl (vM l):=List.Pairwise.sublist (F4 l) h
def nc(c:aa dI):aa aB:=(c.filter (·.dW)).map (·.cG)
def jy(c:aa dI):aa aB:=vM (F1 (nc c))
def DR(c:aa dI):Gl (jy c):=abX (N6 _)
def vU(c:aa dI):zR (jy c)<=zR c:=by
 have h1:=(F4 (F1 (nc c))).length_le;rw[(si _).length_eq]at h1;have h2:=yt (λx:dI=>x.dW) c;unfold jy;unfold nc at*;rw[zu]at h1;omega
def OJ{c:aa dI}{o:aB}(h:o∈jy c):∃x∈c,x.dW=O/\x.cG=o:=by
 have:=(si _).mem_iff.1 ((F4 _).subset h);obtain⟨x,h1,h2⟩:=zK.1 this;obtain⟨h3,h4⟩:=z8.1 h1;exact⟨x,h3,h4,h2⟩
def IE{c:aa dI}{i:Nat}(h:i<zR c):nc (c.take (i+1))=if c[i]!.dW then nc (c.take i)++[c[i]!.cG]else nc (c.take i):=by
 unfold nc;rw[bG h,xk,zM];cases e:c[i]!.dW
 ·rw[vf (by rw[e];decide)];simp
 ·rw[ve e];rfl
def akJ(f:aS)(v:bT){c:aa dI}(hl:zR c<=1000000):amK ⟨f,v,c⟩=V (jy c,⟨f,v,c⟩):=by
 obtain⟨L,e,hL⟩:=cH (rnd:=KP) (zR c) (λi (L:aa aB)=>⟨L,c,(zR c:Int),(i:Int),⟨f,v,c⟩⟩) (λi L=>L=nc (c.take i)) (λi L hi hb=>by
  obtain⟨i1,i2,hw⟩:=w3 hi hl;refine⟨nc (c.take (i+1)),?_,rfl⟩;subst hb;have hlen:zR (nc (c.take i))<=1000000:=by
   unfold nc;rw[zu];have:=yt (λx:dI=>x.dW) (c.take i);rw[zA]at this;omega
  have hl2:zR (nc (c.take i)++[c[i]!.cG])<=1073741824:=by rw[zh,yh];omega
  rw[IE hi];unfold KP;cases es:c[i]!.dW with
  |true=>simp only[cZ,i1,i2,hi,cI,dS,es,hl2,hw]
  |false=>simp only[cZ,cU,fU,i1,i2,hi,es,hw,yx]) (λL _=>by unfold KP;simp) (b:=[]) (by simp[nc])
 rw[zH]at hL;subst hL;have e':Je ⟨[],c,(zR c:Int),0,⟨f,v,c⟩⟩=V ⟨nc c,c,(zR c:Int),(zR c:Int),⟨f,v,c⟩⟩:=e;have hlen:zR (nc c)<=1000000:=by
  unfold nc;rw[zu];have:=yt (λx:dI=>x.dW) c;omega
 have h2:zR (F1 (nc c))<=1073741824:=by rw[(si _).length_eq];omega
 unfold amK;simp only[e',yg,Y5,X8,bJ (show zR (nc c)<=1073741824 by omega),bJ h2];rfl
def tV{α:Type}[Inhabited α](p:α->Bool):∀(l:aa α) (k:Nat),k<=zR l->(∀j,j<zR l->p l[j]! =J (j<k))->zR (l.filter p)=k
 |[],k,hk,_=>by simp at hk ⊢;omega
 |x::l,0,_,h=>by
  have h0:=h 0 (by simp);have:p x=G:=by simpa using h0
  rw[vf (by simp[this])];exact tV p l 0 (yV _) λj hj=>by
   have:=h (j+1) (by simpa using hj)
   assumption
 |x::l,k+1,hk,h=>by
  have h0:=h 0 (by simp);have:p x=O:=by simpa using h0
  rw[ve this,yT,tV p l k (by simpa using hk) λj hj=>by
   have:=h (j+1) (by simpa using hj);simpa using this]
def kN(l:aa aB)(o:aB):Nat:=zR (l.filter λx=>J (dN x o<0))
def GY(l:aa aB)(o:aB):Bool:=l.any λx=>J (dN x o=0)
def Kz{l:aa aB}(h:Gl l){i j:Nat}(hij:i<j)(hj:j<zR l):dN l[i]! l[j]!<=0:=by
 rw[getElem!_pos l i aq,getElem!_pos l j hj];exact List.pairwise_iff_getElem.1 h i j aq hj hij
def ajJ{l:aa aB}(o:aB){k:Nat}(hk:k<=zR l)(h1:∀j,j<k->dN l[j]! o<0)(h2:∀j,k<=j->j<zR l->0<=dN l[j]! o):kN l o=k:=
 tV _ l k hk λj hj=>by
  by_cases e:j<k
  ·rw[b7 e];exact b7 (h1 j e)
  ·rw[bY e];have:=h2 j aq hj;exact fO
def aks{l:aa aB}(hs:Gl l)(o:aB){k:Nat}(hk:k<=zR l)(h1:∀j,j<k->dN l[j]! o<0)(h2:∀j,k<=j->j<zR l->0<=dN l[j]! o):GY l o=J (k<zR l/\dN l[k]! o=0):=by
 unfold GY;by_cases e:k<zR l/\dN l[k]! o=0
 ·rw[b7 e,wo];exact⟨l[k]!,bu e.1,b7 e.2⟩
 ·rw[bY e,List.any_eq_false];intro x hx;obtain⟨j,hj,rfl⟩:=y5 hx;rw[decide_eq_true_eq];intro he;rw[<-getElem!_pos l j hj]at he;by_cases jk:j<k
  ·have:=h1 j jk;omega
  ·by_cases jk2:j=k
   ·exact e ⟨jk2▸hj,jk2▸he⟩
   ·have a1:=Kz hs (show k<j by omega) hj;have a2:=h2 k (zm _) aq;have a3:=mO l[k]! l[j]! o a1 aq;omega
def aEt{x:Int}(h1:0<=x)(h2:x<9223372036854775808):cT u64 (bE x) 1=x/2:=by
 have:bE x=x:=by simp[aj,bE,IntKind.wrap,IntKind.bits];omega
 rw[this];unfold cT;have e:(2:Int)^(min (1:Int).toNat u64.bits)=2:=by decide
 rw[e,Int.fdiv_eq_ediv_of_nonneg _ aq]
def apZ{q:aB->aB->af Int}{l:aa aB}(hs:Gl l)(hl:zR l<=1000000)(o:aB)(ho:∀x∈l,q x o=V (dN x o)):mB q l o=V ((kN l o:Int),GY l o):=by
 have key:∀(d lo_ hi_:Nat),hi_-lo_<=d->lo_<=hi_->hi_<=zR l->(∀j,j<lo_->dN l[j]! o<0)->(∀j,hi_<=j->j<zR l->0<=dN l[j]! o)->
   ∃k:Nat,bI (nB q) ⟨l,(zR l:Int),(lo_:Int),(hi_:Int),o⟩=V ⟨l,(zR l:Int),(k:Int),(k:Int),o⟩/\k<=zR l/\(∀j,j<k->dN l[j]! o<0)/\∀j,k<=j->j<zR l->0<=dN l[j]! o:=by
  intro d;induction d with
  |zero=>
   intro a b h1 h2 h3 h4 h5;have:a=b:=aq;subst this;exact⟨a,ct λr=>by unfold nB;simp,h3,h4,h5⟩
  |succ d ih=>
   intro a b h1 h2 h3 h4 h5;by_cases hab:a=b
   ·subst hab;exact⟨a,ct λr=>by unfold nB;simp,h3,h4,h5⟩
   ·have hlt:(a:Int)<(b:Int):=aq;have w1:aj ((a:Int)+(b:Int))=(a:Int)+(b:Int):=aM;have s1:=aEt (x:=(a:Int)+(b:Int)) aq aq;obtain⟨m,hm⟩:∃m:Nat,((a:Int)+(b:Int))/2=(m:Int):=⟨((a+b)/2:Nat),aq⟩;have w2:aj (m:Int)=(m:Int):=aM;have w3:aj ((m:Int)+1)=((m+1:Nat):Int):=jG (n:=1000000) aq aq;have i1:(m:Int)<(zR l:Int):=aq;have i2:(0:Int)<=(m:Int):=aq;have L0:=ho l[m]! (bu aq);by_cases hc:dN l[m]! o<0
    ·have r:nB q ⟨l,(zR l:Int),(a:Int),(b:Int),o⟩=V (V ⟨l,(zR l:Int),((m+1:Nat):Int),(b:Int),o⟩):=by
      unfold nB;simp only[cZ,hlt,cI,w1,s1,hm,w2,w3,i1,i2,dS,L0,hc]
     obtain⟨k,q1,q2⟩:=ih (m+1) b aq aq h3 (λj hj=>by
      by_cases e:j=m
      ·rw[e];exact hc
      ·have:=Kz hs (show j<m by omega) aq;have n1:=dQ l[j]! o;have n2:=dQ l[m]! o
       have:=mO o l[j]! l[m]!;by_cases z:dN l[j]! o<0
       ·exact z
       ·have:=this aq (by assumption);omega) h5
     exact⟨k,by rw[bR r];exact q1,q2⟩
    ·have r:nB q ⟨l,(zR l:Int),(a:Int),(b:Int),o⟩=V (V ⟨l,(zR l:Int),(a:Int),(m:Int),o⟩):=by
      unfold nB;simp only[cZ,cU,hlt,w1,s1,hm,w2,i1,i2,dS,L0,hc]
     obtain⟨k,q1,q2⟩:=ih a m aq aq aq h4 (λj hj1 hj2=>by
      by_cases e:j=m
      ·rw[e];omega
      ·have:=Kz hs (show m<j by omega) hj2;have n1:=dQ l[j]! o;have n2:=dQ l[m]! o
       by_cases z:dN l[j]! o<0
       ·have:=mO l[m]! l[j]! o (by assumption) aq;have:=mO o l[m]! l[j]! aq (by assumption);omega
       ·omega)
     exact⟨k,by rw[bR r];exact q1,q2⟩
 obtain⟨k,e,h1,h2,h3⟩:=key (zR l) 0 (zR l) aq aq (zm _) (λj hj=>aq) (λj h1 h2=>aq);have e':bI (nB q) ⟨l,(zR l:Int),0,(zR l:Int),o⟩=V ⟨l,(zR l:Int),(k:Int),(k:Int),o⟩:=e;rw[ajJ o h1 h2 h3,aks hs o h1 h2 h3];unfold mB;simp only[e',yg,CC,cv];by_cases hk:k<zR l
 ·have i1:(k:Int)<(zR l:Int):=aq;have i2:(0:Int)<=(k:Int):=aq;have L0:=ho l[k]! (bu hk);simp only[cZ,i1,i2,cI,dS,L0,hk,true_and]
 ·have i1:¬(k:Int)<(zR l:Int):=aq;simp only[i1,CC,cv,hk,false_and]
def ahd{l:aa aB}(hs:Gl l)(hl:zR l<=1000000)(o:aB)(ho:∀x∈l,zR x.aK<=9223372036854775807):agB l o=V ((kN l o:Int),GY l o):=apZ hs hl o λx hx=>DC x o (ho x hx)
def gd(L:aa aB)(c:dI):Cell:=⟨c.b8,c.iU,c.ax,if c.dW then[(kN L c.cG:Int)]else[],c.cO⟩
def fH(c:aa dI):aY:=⟨jy c,c.map (gd (jy c))⟩
structure Csz (c:List dI):Prop where
 len:zR c<=100000
 kid:∀i,i<zR c->zR c[i]!.ax<=1000
 obs:∀i,i<zR c->zR c[i]!.cG.aK<=1000
def Csz.mem{c:aa dI}(h:Csz c){o:aB}(ho:o∈jy c):zR o.aK<=1000:=by
 obtain⟨x,h1,_,rfl⟩:=OJ ho;obtain⟨i,hi,rfl⟩:=y5 h1;rw[<-getElem!_pos c i hi];exact h.obs i hi
def JP(f:aS)(v:bT){c:aa dI}(h:Csz c):MT ⟨f,v,c⟩=V (fH c,⟨f,v,c⟩):=by
 have hcl:=h.len;have hll:=vU c;have avn:=akJ f v (c:=c) aq;obtain⟨L,hL⟩:∃L,L=jy c:=⟨_,rfl⟩;have hLl:zR L<=zR c:=by rw[hL];exact hll
 obtain⟨b,e1,hb⟩:=cH (rnd:=KD) (zR L) (λi (b:aa aB)=>⟨L,L,(zR L:Int),(i:Int),⟨f,v,c⟩,⟨[],[]⟩,⟨b,[]⟩⟩) (λi b=>b=L.take i) (λi b hi hb=>by
  obtain⟨i1,i2,hw⟩:=w3 hi aq;have e35:=abE (l:=L[i]!.aK) (h.mem (hL▸bu hi));have hl2:zR (b++[L[i]!])<=1073741824:=by rw[hb,zh,zA,yh];omega
  refine⟨b++[L[i]!],?_,by rw[hb,bG hi]⟩;unfold KD;simp only[cZ,i1,i2,hi,cI,dS,e35,hl2,hw]) (λb _=>by unfold KD;simp) (b:=[]) (by simp)
 rw[zH]at hb;subst hb;have e1':IU ⟨b,b,(zR b:Int),0,⟨f,v,c⟩,⟨[],[]⟩,⟨[],[]⟩⟩=V ⟨b,b,(zR b:Int),(zR b:Int),⟨f,v,c⟩,⟨[],[]⟩,⟨b,[]⟩⟩:=e1;obtain⟨C,e2,hC⟩:=cH (rnd:=Lv) (zR c) (λi (C:aa Cell)=>⟨b,c,(zR c:Int),(i:Int),⟨f,v,c⟩,⟨[],[]⟩,⟨b,C⟩⟩) (λi C=>C=(c.take i).map (gd b)) (λi C hi hC=>by
  obtain⟨i1,i2,hw⟩:=w3 hi aq;have e35:=abE (l:=c[i]!.ax) (h.kid i hi);have Nk:=ahd (l:=b) (by rw[hL];exact DR c) aq c[i]!.cG (λx hx=>by have:=h.mem (hL▸hx);omega);have hl2:∀x:Cell,zR (C++[x])<=1073741824:=λx=>by rw[hC,zh,zu,zA,yh];omega
  refine⟨C++[gd b c[i]!],?_,by rw[hC,bG hi,zM];rfl⟩;unfold Lv;cases es:c[i]!.dW with
  |true=>simp only[cZ,i1,i2,hi,cI,dS,e35,es,Nk,hl2,hw,gd]
  |false=>simp only[cZ,cU,fU,i1,i2,hi,e35,es,hl2,hw,gd,yx]) (λC _=>by unfold Lv;simp) (b:=[]) (by simp)
 rw[zH]at hC;subst hC;have e2':LC ⟨b,c,(zR c:Int),0,⟨f,v,c⟩,⟨[],[]⟩,⟨b,[]⟩⟩=V ⟨b,c,(zR c:Int),(zR c:Int),⟨f,v,c⟩,⟨[],[]⟩,⟨b,c.map (gd b)⟩⟩:=e2;unfold MT;simp only[avn,e1',e2',yg,CC,cv,fH,<-hL]
end Go.Proofs.YtnfljbehcffmcaaGreat
end
noncomputable section
set_option maxRecDepth 100000
namespace Go.Proofs.YtnfljbehcffmcaaGreat
open Go Go.Iv
open Go.IntKind (i64 u64)
section
variable {f:aS} {v:bT}
def n9(c:Cx f v){l:aa Part}(h:WF f l)(hl:zR l<=100000):Csz (l.map (cellOf f v)):=by
 refine⟨by simpa using hl,λi hi=> ?_,λi hi=> ?_⟩
 ·have hi':i<zR l:=by simpa using hi
  rw[dV _ _ _ hi'];have:=h.vT hi';show zR l[i]!.ax<=1000;omega
 ·have hi':i<zR l:=by simpa using hi
  rw[dV _ _ _ hi'];have:=(h.box i hi').obl c;show zR (AK f v l[i]!.bP).aK<=1000;omega
def Oy(c:Cx f v):N8 f v=V (⟨f,v,[cellOf f v ⟨0,0,[],o7 f⟩]⟩,0):=by
 have e76:=auw f c.hN (by have:=c.hh;omega) c.hl;rw[bJ c.hc]at e76;have hb:=Vr c;unfold N8;simp only[e76,hb.Qe c,hb.XE c];rfl
def Pn(l:aa Part):an1 l (fH (l.map (cellOf f v))).aP:=by
 refine⟨by simp[fH],λi hi=> ?_⟩;have e:(fH (l.map (cellOf f v))).aP[i]! =gd (jy (l.map (cellOf f v))) (cellOf f v l[i]!):=by
  show ((l.map (cellOf f v)).map (gd _))[i]! =_;rw[dV _ _ _ (by simpa using hi),dV _ _ _ hi]
 rw[e];exact⟨rfl,rfl,rfl⟩
def vX(l:aa Int)(hl:zR l<=1000):m77 l l=V O:=by
 obtain⟨-,e,-⟩:=cH (rnd:=Ue) (zR l) (λi (_:Unit)=>⟨l,l,(zR l:Int),(i:Int)⟩) (λ_ _=>True) (λi b hi _=>by
  obtain⟨i1,i2,hw⟩:=w3 hi aq;refine⟨(),?_,trivial⟩;unfold Ue;simp only[cZ,cU,i1,i2,dS,hw]) (λb _=>by unfold Ue;simp) (b:=()) trivial
 have e':Ve ⟨l,l,(zR l:Int),0⟩=V ⟨l,l,(zR l:Int),(zR l:Int)⟩:=e;unfold m77;simp only[cZ,cU,e',yg]
def YI(x:Cell)(h1:zR x.ax<=1000)(h2:zR x.cG<=1000):ZO x x=V O:=by
 unfold ZO;simp only[uU,cI,vX _ h1,vX _ h2]
def aBj{α W:Type}[Inhabited α][Inhabited W]{q:α->W->af Bool}{a:aa α}{b:aa W}(hl:zR a<=9223372036854775807)(h:zR a=zR b->∀i,i<zR a->∃r,q a[i]! b[i]! =V r):∃r,mE q a b=V r/\(r=O↔a.length=zR b/\∀i,i<zR a->q a[i]! b[i]! =V O):=by
 by_cases he:zR a=zR b
 ·have hd:J ((zR a:Int)=(zR b:Int))=O:=om;obtain⟨i,-,e,hI,hS⟩:=me (rnd:=nE q) (zR a) (λi (_:Unit)=>⟨b,a,(zR a:Int),(i:Int)⟩) (λi _=>∀j,j<i->q a[j]! b[j]! =V O) (λi _=>q a[i]! b[i]! =V G) (λi _ hi hI=>by
   have hw:=wI hi hl;have i1:(i:Int)<(zR a:Int):=aq;have i2:(0:Int)<=(i:Int):=aq;have i3:(i:Int)<(zR b:Int):=aq;obtain⟨r,hr⟩:=h he i hi;cases r with
   |true=>
    refine .inl ⟨(),?_,λj hj=> ?_⟩
    ·unfold nE;simp only[cZ,cU,i1,i2,i3,dS,hr,hw]
    ·by_cases e:j=i
     ·rw[e];exact hr
     ·exact hI j aq
   |false=>
    refine .inr ⟨?_,hr⟩;unfold nE;simp only[cZ,cU,i1,i2,i3,dS,hr]) (λ_ _=>by unfold nE;simp) (b:=()) λj hj=>aq
  have e':bI (nE q) ⟨b,a,(zR a:Int),0⟩=V ⟨b,a,(zR a:Int),(i:Int)⟩:=e;unfold mE;rcases hS with hn|⟨hi,hS⟩
  ·refine⟨O,?_,λ_=>⟨he,hn▸hI⟩,λ_=>rfl⟩;rw[hn]at e';simp only[cU,hd,e',yg,CC]
  ·refine⟨false,?_,⟨(λh=>by cases h),λhh=> ?_⟩⟩
   ·have i1:(i:Int)<(zR a:Int):=aq;have i2:(0:Int)<=(i:Int):=aq;have i3:(i:Int)<(zR b:Int):=aq;simp only[cZ,cU,hd,e',i1,i2,i3,dS,hS]
   ·have:=hh.2 i hi;rw[hS]at this;cases this
 ·have he':¬(zR a:Int)=(zR b:Int):=aq;refine⟨false,?_,⟨(λh=>by cases h),λhh=>ep hh.1 he⟩⟩;unfold mE;simp only[cU,he',CC]
def Dv{α W:Type}[Inhabited α][Inhabited W]{q:α->W->af Bool}{a:aa α}{b:aa W}(hl:zR a<=1000000)(he:zR a=zR b)(h:∀i,i<zR a->q a[i]! b[i]! =V O):mE q a b=V O:=by
 obtain⟨r,e,hr⟩:=aBj (a:=a) (b:=b) aq λ_ i hi=>⟨O,h i hi⟩;simp_all
def Zo(l:aa Cell)(hl:zR l<=1000000)(h:∀i,i<zR l->zR l[i]!.ax<=1000/\zR l[i]!.cG<=1000):alh l l=V O:=Dv hl rfl λi hi=>YI _ (h i hi).1 (h i hi).2
def acg(l:aa aB)(hl:zR l<=1000000)(h:∀x∈l,zR x.aK<=1000):m71 l l=V O:=Dv hl rfl λi hi=>by
 unfold aja;rw[DC _ _ (by have:=h _ (bu hi);omega),rU];rfl
def YV:∀{p:Part},p.ax=[]->p.b8=0->p.iU=0->p=⟨0,0,[],p.bP⟩
 |⟨_,_,_,_⟩,h1,h2,h3=>by cases h1;cases h2;cases h3;rfl
def XS{j:Int}{k:aa Int}:∀{p:Part},p.ax=k->p.b8=j->p=⟨j,p.iU,k,p.bP⟩
 |⟨_,_,_,_⟩,h1,h2=>by cases h1;cases h2;rfl
def PJ(c:Cx f v){l:aa Part}(h:WF f l)(hl:zR l<=8192):CG f v (fH (l.map (cellOf f v)))=V (⟨f,v,l.map (cellOf f v)⟩,0):=by
 have hsz:=n9 c h aq;have hsh:=Pn (f:=f) (v:=v) l;obtain⟨C,hC⟩:∃C,C=(fH (l.map (cellOf f v))).aP:=⟨_,rfl⟩;have hCl:zR C=zR l:=by rw[hC];exact hsh.len
 rw[<-hC]at hsh;have h0:=h.ne;have hidl:=oL c;have ahU:=ai3 h aq hsh;obtain⟨s,hs⟩:∃s,s=fH (l.map (cellOf f v)):=⟨_,rfl⟩;rw[<-hs]at hC ⊢;obtain⟨ad,e,hBl,hB⟩:=cH (rnd:=AE) (zR l) (λi (ad:aa (aa aL))=>⟨ad,C,(zR l:Int),(i:Int),s,⟨f,v,(l.take i).map (cellOf f v)⟩⟩) (λi ad=>zR ad=zR l/\∀j,j<zR l->(j=0\/∃p,p<i/\(j:Int)∈l[p]!.ax)->ad[j]! =l[j]!.bP) (λi ad hi ⟨b1,b2⟩=>by
  obtain⟨i1,i2,hw⟩:=w3 hi aq;have i3:i<zR ad:=aq;have eB:ad[i]! =l[i]!.bP:=b2 i hi (by
   by_cases e:i=0
   ·omega
   ·obtain⟨p,p1,p2⟩:=h.parent hi e;exact .inr ⟨p,p1,p2⟩)
  have hb:=h.box i hi;have e25:=hb.Qe c;have e26:=hb.XE c;obtain⟨s1,s2,s3⟩:=hsh.el i hi;have elen:zR ((l.take i).map (cellOf f v))=i:=by rw[zu,zA];omega
  have g2:ga ⟨ad,C,(zR l:Int),(i:Int),s,⟨f,v,(l.take i).map (cellOf f v)⟩⟩ (bdX f v l[i]!.bP,0) (AK f v l[i]!.bP,Ms f v l[i]!.bP,0)=(l.take i++[(⟨0,0,[],l[i]!.bP⟩:Part)]).map (cellOf f v):=by
   unfold ga;simp only[zg,eB,zM];rfl
  have gl:zR ((l.take i++[(⟨0,0,[],l[i]!.bP⟩:Part)]).map (cellOf f v))<=1073741824:=by simp;omega
  have gl2:zR ((l.take i++[(⟨0,0,[],l[i]!.bP⟩:Part)]).map (cellOf f v))=i+1:=by simp;omega
  rcases h.kid i hi with ⟨q1,q2,q3⟩|⟨a,b,j,q1,q2,q3,q4,q5,q6,q7,q8,q9,q10,q11,q12⟩
  ·refine⟨ad,?_,b1,λx hx hp=>b2 x hx ?_⟩
   ·have ek:C[i]!.ax=[]:=by rw[s3,q1]
    have et:(l.take (i+1)).map (cellOf f v)=(l.take i++[(⟨0,0,[],l[i]!.bP⟩:Part)]).map (cellOf f v):=by
     rw[bG hi];rw[<-YV q1 q2 q3]
    rw[et];unfold AE;simp only[cZ,i1,i2,i3,hCl,b1,eB,cI,dS,e25,e26,g2,gl,ek,hw,hi];rfl
   ·rcases hp with hp|⟨p,p1,p2⟩
    ·omega
    ·refine .inr ⟨p,?_,p2⟩;by_cases e:p=i
     ·simp_all
     ·omega
  ·have hj:=q8;have hd:=hb.bd c.hc hj;have aes:=VO (b:=l[i]!.bP) (by rw[hb.len];omega) hj (a:=l[i]!.iU) aq aq;have ek:C[i]!.ax=[(a:Int),(b:Int)]:=by rw[s3,q1]
   have ein:C[i]!.b8=(j:Int):=by rw[s1,q7]
   have eat:C[i]!.iU=l[i]!.iU:=s2;refine⟨(ad.set a (bLo l[i]!.bP j l[i]!.iU)).set b (bHi l[i]!.bP j l[i]!.iU),?_,by simpa using b1,λx hx hp=> ?_⟩
   ·have et:(l.take (i+1)).map (cellOf f v)=(l.take i++[l[i]!]).map (cellOf f v):=by rw[bG hi]
    have gx:∀q:Part,((l.take i++[q]).map (cellOf f v))[i]! =cellOf f v q:=λq=>by
     rw[dV _ _ _ (by simp;omega)];have:=aal (l.take i) [q] 0 (by simp);rw[zA,Nat.min_eq_left aq]at this;exact congrArg (cellOf f v) this
    have gs:∀q r:Part,((l.take i++[q]).map (cellOf f v)).set i (cellOf f v r)=(l.take i++[r]).map (cellOf f v):=λq r=>by
     rw[<-List.map_set]
     congr 1
     rw[List.set_append_right _ _ (by rw[zA];omega),zA,Nat.min_eq_left aq,xT];rfl
    have g0:iE ⟨ad,C,(zR l:Int),(i:Int),s,⟨f,v,(l.take i).map (cellOf f v)⟩⟩ (bdX f v l[i]!.bP,0) (AK f v l[i]!.bP,Ms f v l[i]!.bP,0)=(l.take i++[(⟨(j:Int),0,[],l[i]!.bP⟩:Part)]).map (cellOf f v):=by
     unfold iE;rw[g2];simp only[zg,gx,ein];exact gs _ ⟨(j:Int),0,[],l[i]!.bP⟩
    have g1:iC ⟨ad,C,(zR l:Int),(i:Int),s,⟨f,v,(l.take i).map (cellOf f v)⟩⟩ (bdX f v l[i]!.bP,0) (AK f v l[i]!.bP,Ms f v l[i]!.bP,0)=(l.take i++[(⟨(j:Int),l[i]!.iU,[],l[i]!.bP⟩:Part)]).map (cellOf f v):=by
     unfold iC;rw[g0];simp only[zg,gx,eat];exact gs _ ⟨(j:Int),l[i]!.iU,[],l[i]!.bP⟩
    have gl3:∀q:Part,zR ((l.take i++[q]).map (cellOf f v))=i+1:=λq=>by simp;omega
    have e35:=abE (l:=[(a:Int),(b:Int)]) (by simp);have elast:=XS q1 q7;have gl4:i+1<=1073741824:=aq;have gf:=gs ⟨(j:Int),l[i]!.iU,[],l[i]!.bP⟩ ⟨(j:Int),l[i]!.iU,[(a:Int),(b:Int)],l[i]!.bP⟩;rw[et];have c1:¬(j:Int)<0:=aq;have c2:¬(zR l[i]!.bP:Int)<=(j:Int):=aq;have c3:(0:Int)<=(j:Int):=aq;have c4:(j:Int)<(zR l[i]!.bP:Int):=aq;have c5:¬l[i]!.iU<l[i]!.bP[j]!.ah:=aq;have c6:¬l[i]!.bP[j]!.ag<=l[i]!.iU:=aq;have c7:(0:Int)<=(a:Int):=aq;have c8:(a:Int)<(zR l:Int):=aq;have c9:(0:Int)<=(b:Int):=aq;have c10:(b:Int)<(zR l:Int):=aq;have c11:(i:Int)<((i+1:Nat):Int):=aq;have k0:([(a:Int),(b:Int)])[0]! =(a:Int):=rfl;have k1:([(a:Int),(b:Int)])[1]! =(b:Int):=rfl;have t0:zD 0=0:=rfl;have t1:zD 1=1:=rfl;unfold AE;simp only[cZ,cU,i1,i2,i3,hCl,b1,eB,dS,e25,e26,g2,gl,ek,ein,eat,yT,yB,hw,c1,c2,c3,c4,c5,c6,aes,t0,t1,k0,k1,c7,c8,c9,c10,q3,q5,yu,e35,gl3,c11,g0,g1,gx,zC,gl4,hi];simp only[cellOf]at gf ⊢;rw[gf,<-elast];rfl
   ·have hxs:((ad.set a (bLo l[i]!.bP j l[i]!.iU)).set b (bHi l[i]!.bP j l[i]!.iU))[x]! =if b=x then bHi l[i]!.bP j l[i]!.iU else if a=x then bLo l[i]!.bP j l[i]!.iU else ad[x]! :=by
     rw[iR _ _ _ _ (by simpa [b1]using hx),iR _ _ _ _ (by rw[b1];exact hx)]
    rw[hxs];by_cases xb:b=x
    ·rw[bJ xb,<-xb,q12]
    ·rw[bN xb];by_cases xa:a=x
     ·rw[bJ xa,<-xa,q11]
     ·rw[bN xa];refine b2 x hx ?_;rcases hp with hp|⟨p,p1,p2⟩
      ·exact .inl hp
      ·refine .inr ⟨p,?_,p2⟩;by_cases e:p=i
       ·rw[e,q1]at p2;rcases zy.1 p2 with p2|p2
        ·omega
        ·have:=zo.1 p2;omega
       ·omega) (λad hB=>by unfold AE;simp) (b:=(zj (zR l) []).set 0 (o7 f)) ⟨by simp,λj hj hp=>by
    rcases hp with rfl|⟨p,hp,_⟩
    ·rw[iR _ _ _ _ (by simpa using hj),bJ rfl,h.root]
    ·omega⟩
 rw[zH]at e;have e':Da ⟨(zj (zR l) []).set 0 (o7 f),C,(zR l:Int),0,s,⟨f,v,[]⟩⟩=V ⟨ad,C,(zR l:Int),(zR l:Int),s,⟨f,v,l.map (cellOf f v)⟩⟩:=e;have e118:=Oy c;have Ek:=JP f v hsz;rw[<-hs]at Ek;have hll:=vU (l.map (cellOf f v));rw[zu]at hll;have TG:alh s.aP s.aP=V O:=Zo _ (by rw[<-hC,hCl];omega) λi hi=>by
  rw[<-hC]at hi ⊢;rw[hCl]at hi;have es:C[i]! =gd (jy (l.map (cellOf f v))) (cellOf f v l[i]!):=by
   rw[hC,hs];show ((l.map (cellOf f v)).map (gd _))[i]! =_;rw[dV _ _ _ (by simpa using hi),dV _ _ _ hi]
  rw[es];refine⟨by have:=h.vT hi;show zR l[i]!.ax<=_;omega,?_⟩;unfold gd;dsimp only;split<;>simp
 have e71:m71 s.cG s.cG=V O:=acg _ (by rw[hs];show zR (jy _)<=_;omega) λx hx=>by
  rw[hs]at hx;exact hsz.mem hx
 have n1:¬(8192:Int)<(zR l:Int):=aq;have n2:(0:Int)<=(zR l:Int)/\(zR l:Int)<=(zR l:Int)/\(zR l:Int)<=1073741824:=aq;have n3:(0:Int)<(zR l:Int):=aq;have e0:([cellOf f v ⟨0,0,[],o7 f⟩])[0]!.bP=o7 f:=rfl;have e1:(0:Int)<((0+1:Nat):Int):=by decide
 have e2:0<0+1:=by decide
 have n4:=n2.1;have n5:=n2.2.2;rw[hC]at e' ahU hCl;unfold CG;simp only[cZ,cU,e118,hCl,n1,ahU,n4,n5,yT,yB,xQ,n3,h0,dS,zw,e0,e1,e2,e',yg,Ek,TG,e71]
end
end Go.Proofs.YtnfljbehcffmcaaGreat
end
noncomputable section
set_option maxRecDepth 100000
namespace Go.Proofs.YtnfljbehcffmcaaGreat
open Go Go.Iv
open Go.IntKind (i64 u64)
def rg(n:aL):Int:=n.ag-n.ah
def XU(b:aa aL):Nat->Nat
 |0=>0
 |k+1=>if rg b[XU b k]! <rg b[k]! then k else XU b k
def wid(b:aa aL):Nat:=XU b (zR b)
def Jo(b:aa aL):Int:=(b[wid b]!.ah+b[wid b]!.ag)/2
def Az(b:aa aL):Bool:=b.any λn=>J (0<rg n)
def BP{b:aa aL}(h:0<zR b):∀k,k<=zR b->XU b k<zR b
 |0,_=>h
 |k+1,hk=>by
  have:=BP h k aq;unfold XU;split<;>omega
def WJ{b:aa aL}:∀k j,j<k->rg b[j]!<=rg b[XU b k]!
 |k+1,j,hj=>by
  have ih:=WJ (b:=b) k;unfold XU;by_cases e:j=k
  ·subst e;split<;>omega
  ·have:=ih j aq;split<;>omega
section
variable {f:aS} {v:bT}
def IX(b:aa aL):Az b=O↔0<zR b/\0<rg b[wid b]! :=by
 unfold Az;rw[wo];constructor
 ·rintro⟨n,hn,h⟩;obtain⟨i,hi,rfl⟩:=y5 hn;rw[decide_eq_true_eq,<-getElem!_pos b i hi]at h;have:=WJ (b:=b) (zR b) i hi;exact⟨aq,by unfold wid;omega⟩
 ·rintro⟨h1,h2⟩;exact⟨b[wid b]!,bu (BP h1 _ (zm _)),b7 h2⟩
def L1{b:aa aL}(h:Az b=O):wid b<zR b/\b[wid b]!.ah<=Jo b/\Jo b<b[wid b]!.ag:=by
 obtain⟨h1,h2⟩:=(IX b).1 h;unfold rg at h2;unfold Jo;exact⟨BP h1 _ (zm _),aq,aq⟩
def ig.rgw{b:aa aL}(h:ig f b)(c:pL f=0){j:Nat}(hj:j<zR b):aj (b[j]!.ag-b[j]!.ah)=rg b[j]!/\0<=rg b[j]!/\rg b[j]!<=2097152:=by
 have:=h.bd c hj;unfold rg;exact⟨aM,aq,aq⟩
def VW{b:aa aL}(h:ig f b)(c:pL f=0){j:Nat}(hj:j<zR b):Oc b[j]! =rg b[j]! +1:=by
 obtain⟨h1,h2,h3⟩:=h.rgw c hj;unfold Oc;rw[h1,aM]
def akc{b:aa aL}(h:ig f b)(c:Cx f v)(t1:Int)(T:Tree):C9 ⟨t1,b,0,b,(zR b:Int),0,T⟩=V ⟨t1,b,(wid b:Int),b,(zR b:Int),(zR b:Int),T⟩:=by
 have hbl:zR b<=1000000:=by have:=oL c;rw[h.len];omega
 obtain⟨w,e,hw⟩:=cH (rnd:=vB) (zR b) (λi (w:Nat)=>⟨t1,b,(w:Int),b,(zR b:Int),(i:Int),T⟩) (λi w=>w=XU b i) (λi w hi hb=>by
  obtain⟨i1,i2,hw⟩:=w3 hi hbl;have hwl:=BP (b:=b) aq i aq;rw[<-hb]at hwl;have w1:(w:Int)<(zR b:Int):=aq;have w2:(0:Int)<=(w:Int):=aq;have e1:=VW h c.hc hi;have e2:=VW h c.hc hwl;by_cases hr:rg b[w]! <rg b[i]!
  ·refine⟨i,?_,by unfold XU;rw[<-hb,bJ hr]⟩;have:rg b[w]! +1<rg b[i]! +1:=aq;unfold vB;simp only[cZ,i1,i2,w1,w2,cI,dS,e1,e2,this,hw]
  ·refine⟨w,?_,by unfold XU;rw[<-hb,bN hr]⟩;have:¬rg b[w]! +1<rg b[i]! +1:=aq;unfold vB;simp only[cZ,cU,i1,i2,w1,w2,dS,e1,e2,this,hw]) (λw _=>by unfold vB;simp) (b:=0) rfl
 subst hw;exact e
def ajO{b:aa aL}(h:ig f b)(c:Cx f v):K6 ⟨b,0,b,(zR b:Int),0⟩=V ⟨b,(wid b:Int),b,(zR b:Int),(zR b:Int)⟩:=by
 have hbl:zR b<=1000000:=by have:=oL c;rw[h.len];omega
 obtain⟨w,e,hw⟩:=cH (rnd:=GF) (zR b) (λi (w:Nat)=>⟨b,(w:Int),b,(zR b:Int),(i:Int)⟩) (λi w=>w=XU b i) (λi w hi hb=>by
  obtain⟨i1,i2,hw⟩:=w3 hi hbl;have hwl:=BP (b:=b) aq i aq;rw[<-hb]at hwl;have w1:(w:Int)<(zR b:Int):=aq;have w2:(0:Int)<=(w:Int):=aq;have e1:=(h.rgw c.hc hi).1;have e2:=(h.rgw c.hc hwl).1;by_cases hr:rg b[w]! <rg b[i]!
  ·refine⟨i,?_,by unfold XU;rw[<-hb,bJ hr]⟩;unfold GF;simp only[cZ,i1,i2,w1,w2,cI,dS,e1,e2,hr,hw]
  ·refine⟨w,?_,by unfold XU;rw[<-hb,bN hr]⟩;unfold GF;simp only[cZ,cU,i1,i2,w1,w2,dS,e1,e2,hr,hw]) (λw _=>by unfold GF;simp) (b:=0) rfl
 subst hw;exact e
def ig.ayI{b:aa aL}(h:ig f b)(c:pL f=0){j:Nat}(hj:j<zR b):aj (b[j]!.ah+b[j]!.ag)=b[j]!.ah+b[j]!.ag:=by
 have:=h.bd c hj;exact aM
def aCg(x:Int):cT IntKind.i64 x 1=x/2:=by
 unfold cT;have e:(2:Int)^(min (1:Int).toNat IntKind.i64.bits)=2:=by decide
 rw[e,Int.fdiv_eq_ediv_of_nonneg _ aq]
def abK(x:Int):ZA x 2=x/2:=by
 unfold ZA;have:=Int.tmod_eq_emod (a:=x) (b:=2);have:=Int.tdiv_eq_ediv (a:=x) (b:=2);split
 ·omega
 ·split<;>grind
def ag0{b:aa aL}(h:ig f b)(c:Cx f v):ajq b=V (if Az b=O then((wid b:Int),Jo b,O)else(0,0,G)):=by
 have e:=ajO h c;unfold ajq;simp only[cZ,e,yg,cv];by_cases h0:zR b=0
 ·have:Az b=G:=by rw[xG.1 h0];rfl
  rw[this];simp[h0]
 ·have hl:=BP (b:=b) aq _ (zm _);have hl:wid b<zR b:=hl;have i0:¬(zR b:Int)=0:=aq;have i1:(wid b:Int)<(zR b:Int):=aq;have i2:(0:Int)<=(wid b:Int):=aq;obtain⟨-,r2,-⟩:=h.rgw c.hc hl;have hs:=h.ayI c.hc hl;have hd:=h.bd c.hc hl;by_cases hc:b[wid b]!.ag=b[wid b]!.ah
  ·have:Az b=G:=by
    cases e:Az b with
    |false=>rfl
    |true=>have:=((IX b).1 e).2;unfold rg at this;omega
   rw[this];simp only[cZ,cU,fU,i0,i1,i2,hc,yx]
  ·have:Az b=O:=(IX b).2 ⟨aq,by unfold rg at r2 ⊢;omega⟩;rw[this];have auc:=ajM (a:=b[wid b]!.ah+b[wid b]!.ag) (b:=2) aq aq;simp only[cZ,i0,i1,i2,hc,cv,dS,hs,auc,abK];rfl
def afR(a b:Int):QW a b=iv a b:=by unfold QW iv;by_cases h:a=b<;>simp[h]
def ajn{b:aa aL}(h:zR b<=1000000){i:Nat}(hi:i<zR b){a:Int}(h1: -1048576<=a)(h2:a<=1048576):ahr b (i:Int) a=V (bLo b i a,bHi b i a):=by
 have hw:aj (a+1)=a+1:=aM;have i1:(i:Int)<(zR b:Int):=aq;have i2:(0:Int)<=(i:Int):=aq;unfold ahr;simp only[cZ,ap3 h,i1,i2,dS,hi,afR,hw];rfl
def aiQ{l:aa Part}(h:zR l<=1000000):Yn l=V l:=by unfold Yn;rw[gV]
def aqm(c:Cx f v){l:aa Part}(hl:zR l<=100000){k:Nat}(hk:k<zR l)(hb:ig f l[k]!.bP):
  m49 l (k:Int)=V (if Az l[k]!.bP=O then(iJ l k (wid l[k]!.bP) (Jo l[k]!.bP),O)else(l,G)):=by
 have k1:(k:Int)<(zR l:Int):=aq;have k2:(0:Int)<=(k:Int):=aq;have Xz:=ag0 hb c;unfold m49;cases hc:Az l[k]!.bP with
 |false=>
  rw[hc]at Xz;simp only[cZ,cU,fU,k1,k2,Xz,yx]
 |true=>
  rw[hc]at Xz;obtain⟨h1,h2,h3⟩:=L1 hc;have hd:=hb.bd c.hc h1;have auK:=ajn (b:=l[k]!.bP) (by have:=oL c;rw[hb.len];omega) h1 (a:=Jo l[k]!.bP) aq aq;have asq:=aiQ (l:=l) aq;have hw:aj ((zR l:Int)+1)=((zR l+1:Nat):Int):=jG (n:=1000000) aq aq;have hlen:∀x y:Part,zR (l++[x,y])=zR l+2:=λx y=>by simp
  have k3:k<zR l+2:=aq;have k4:zR l+2<=1073741824:=aq;have k5:(k:Int)<((zR l+2:Nat):Int):=aq;have hset:∀x y q:Part,(l++[x,y]).set k q=l.set k q++[x,y]:=λx y q=>by rw[List.set_append_left _ _ hk]
  simp only[cZ,cU,k1,k2,dS,Xz,auK,asq,hlen,k3,k4,k5,hw,hset];rfl
def acA(c:Cx f v){l:aa Part}(hl:zR l<=8190){k:Nat}(hk:k<zR l)(hb:ig f l[k]!.bP)(hc:Az l[k]!.bP=O):
  IF (k:Int) ⟨f,v,l.map (cellOf f v)⟩=V (0,⟨f,v,(iJ l k (wid l[k]!.bP) (Jo l[k]!.bP)).map (cellOf f v)⟩):=by
 have k1:(k:Int)<(zR l:Int):=aq;have k2:(0:Int)<=(k:Int):=aq;have hw:aj ((zR l:Int)+2)=(zR l:Int)+2:=aM;have k3:¬(8192:Int)<(zR l:Int)+2:=aq;have ek:(l.map (cellOf f v))[k]! =cellOf f v l[k]! :=dV _ _ _ hk;obtain⟨h1,h2,h3⟩:=L1 hc;have e109:=akc hb c (k:Int) ⟨f,v,l.map (cellOf f v)⟩;have hs:=hb.ayI c.hc h1;have avh:=am6 c aq hk hb h1 h2 h3;have j1:(wid l[k]!.bP:Int)<(zR l[k]!.bP:Int):=aq;have j2:(0:Int)<=(wid l[k]!.bP:Int):=aq;have em:cT IntKind.i64 (l[k]!.bP[wid l[k]!.bP]!.ah+l[k]!.bP[wid l[k]!.bP]!.ag) 1=Jo l[k]!.bP:=aCg _;have eb:∀p:Part,(cellOf f v p).bP=p.bP:=λ_=>rfl;unfold IF;simp only[cZ,zu,hw,k3,cv,k1,k2,hk,dS,ek,eb,e109,yg,j1,j2,hs,em,avh]
end
end Go.Proofs.YtnfljbehcffmcaaGreat
end
noncomputable section
set_option maxRecDepth 100000
namespace Go.Proofs.YtnfljbehcffmcaaGreat
open Go Go.Iv
open Go.IntKind (i64 u64)
section
variable {f:aS} {v:bT}
def jL(f:aS):aa Part:=[⟨0,0,[],o7 f⟩]
def aqO(c:Cx f v):m54 f v=V (fH ((jL f).map (cellOf f v)),0):=by
 have e118:=Oy c;have Ek:=JP f v (n9 c (uZ c) (by simp));unfold m54;simp only[cU,e118,uU];simp only[yf,yU]at Ek;rw[Ek];rfl
def asT(c:Cx f v):m58 f=V (jL f):=by
 have e39:=at5 f (mg c.hc) c.hl;unfold m58 aso;rw[e39];rfl
def ae9(f:aS)(h:zR f.ai<=1000):∃n,aio f=V n:=by
 obtain⟨n,e,-⟩:=cH (rnd:=JN) (zR f.ai) (λi (n:Int)=>⟨n,f.ai,(zR f.ai:Int),(i:Int)⟩) (λ_ _=>True) (λi n hi _=>by
  obtain⟨i1,i2,hw⟩:=w3 hi aq;unfold JN;by_cases h1:f.ai[i]!.bB=1
  ·refine⟨aj (n*aj (aj (f.ai[i]!.ag-f.ai[i]!.ah)+1)),?_,trivial⟩;simp only[cZ,i1,i2,cI,dS,h1,hw]
  ·by_cases h3:f.ai[i]!.bB=3
   ·refine⟨aj (n*aj (aj (f.ai[i]!.ag-f.ai[i]!.ah)+1)),?_,trivial⟩;have h31:¬(3:Int)=1:=by decide
    simp only[cZ,cU,i1,i2,dS,h3,h31,hw]
   ·refine⟨n,?_,trivial⟩;simp only[cZ,cU,i1,i2,dS,h1,h3,hw]) (λn _=>by unfold JN;simp) (b:=1) trivial
 have e':IT ⟨1,f.ai,(zR f.ai:Int),0⟩=V ⟨n,f.ai,(zR f.ai:Int),(zR f.ai:Int)⟩:=e;unfold aio;simp only[e',yg,CC,cv];exact⟨n,rfl⟩
def ark(f:aS)(v:bT):∃r,m46 f v=V r/\(r=O->Cx f v):=by
 obtain⟨r,e24,h24⟩:=arB f 16 4096 4;unfold m46;cases r with
 |false=>exact⟨false,by simp only[e24,cv],λh=>by cases h⟩
 |true=>
  obtain⟨hf,hc⟩:=h24 rfl;unfold few at hf;rw[decide_eq_true_iff]at hf;obtain⟨f1,f2,f3⟩:=hf;have e55:=awU (f:=f) aq aq aq v;obtain⟨n,aaK⟩:=ae9 f aq;by_cases hq:cdA f v=0
  ·refine⟨J (n<=16),by simp only[e24,cI,e55,hq,uU,aaK],λ_=>⟨aq,aq,aq,hc,hq⟩⟩
  ·exact⟨false,by simp only[cU,e24,e55,hq,CC],λh=>by cases h⟩
end
end Go.Proofs.YtnfljbehcffmcaaGreat
end
noncomputable section
set_option maxRecDepth 100000
namespace Go.Proofs.YtnfljbehcffmcaaGreat
open Go Go.Iv Go.Sort Go.Proofs Go.Shelf Go.RowKit Go.Lib
section
variable {P:Program}
def oO(w:World)(dT sT ty elem:TypeId)(b o dLen dCap:Nat)(a:Addr)(sLen sCap:Nat)(cs:aa Value)(K m:Nat)
  (hu:P.underlying dT=V (.slice elem)) (hz:∀w,(Go.sizeOf elem).run P w= .ok K w) (hm:Nat.min sLen dLen=m) (hn:zR cs=m*K)
  (hsrc:∀j v,cs[j]? =V v->w.cell? (a.add j)=V v) (hc:∀j,j<zR cs->(w.cell? ⟨b,o+j,I⟩).isSome=O) (hf:∀j,j<zR cs->w.frozen? ⟨b,o+j,I⟩=G) (h1:∀v∈cs,v.oneCell'=O):
  (Builtin.copy_ #[dT,sT] ty #[.slice (V ⟨b,o,I⟩) dLen dCap, .slice (V a) sLen sCap]).run P w= .ok (goInt m) (w.setCells b o cs):=by
 have hl:=run_firstCells_some (P:=P) w K m a sLen sCap cs hn hsrc;have hst:=run_storeCells_cells (P:=P) b o cs 0 w (by simpa using hc) (by simpa using hf) h1;rw[yj]at hst;simp[Builtin.copy_,run_underlying hu,Builtin.lenOf,hz,hm,hl,hst]
set_option maxHeartbeats 4000000 in
def SS(FG:P.funcs[125]? =V f125)(mixed:P.follows .mixedOrders=O)
  (t3:P.underlying 3=V (.int .i64)) (a3:∀w,(isAgg 3).run P w= .ok G w) (z3:∀w,(Go.sizeOf 3).run P w= .ok 1 w) (v3:∀w,(zeroValue 3).run P w= .ok (.int .i64 0) w)
  (t4:P.underlying 4=V .bool) (a4:∀w,(isAgg 4).run P w= .ok G w) (z4:∀w,(Go.sizeOf 4).run P w= .ok 1 w) (v4:∀w,(zeroValue 4).run P w= .ok (.bool G) w)
  (t50:P.underlying 50=V (.slice 47)) (a50:∀w,(isAgg 50).run P w= .ok G w) (z50:∀w,(Go.sizeOf 50).run P w= .ok 1 w) (v50:∀w,(zeroValue 50).run P w= .ok (.slice I 0 0) w)
  (K:Nat) (z47:∀w,(Go.sizeOf 47).run P w= .ok K w)
  (base:af Addr) (n c vb voff vc:Nat) (w am:World) (v':Value) (hnc:n<=c) (hn63:c<=9223372036854775807) (hnil:base=I->n=0/\c=0)
  (hr:(Builtin.append_ #[50,50] 50 #[.slice base n c, .slice (V ⟨vb,voff,I⟩) 1 vc]).run P w= .ok v' am):
  Calls P 125 #[.slice base n c, .int .i64 n, .slice (V ⟨vb,voff,I⟩) 1 vc] w λe w'=>e= .returned v'/\w'=am:=by
 go_enter FG,Tryz.ntmps125
 cases base with
 |none=>
  obtain⟨rfl,rfl⟩:=hnil rfl
  go_wp2_with (at_builtin;refine Lib.wpList_append_run _ rfl _ _ _ _ rfl _ _ rfl rfl _ _ hr ?_)
  go_ret
  exact⟨rfl,rfl⟩
 |some a=>
  obtain⟨ab,ao,asp⟩:=a
  go_wp2_with (at_builtin;refine Lib.wpList_append_run _ rfl _ _ _ _ rfl _ _ rfl rfl _ _ hr ?_)
  all_goals (go_ret;exact⟨rfl,rfl⟩)
set_option maxHeartbeats 8000000 in
def Jx(FG:P.funcs[125]? =V f125)(F197:P.funcs[197]? =V f197)(mixed:P.follows .mixedOrders=O)
  (t3:P.underlying 3=V (.int .i64)) (a3:∀w,(isAgg 3).run P w= .ok G w) (z3:∀w,(Go.sizeOf 3).run P w= .ok 1 w) (v3:∀w,(zeroValue 3).run P w= .ok (.int .i64 0) w)
  (t4:P.underlying 4=V .bool) (a4:∀w,(isAgg 4).run P w= .ok G w) (z4:∀w,(Go.sizeOf 4).run P w= .ok 1 w) (v4:∀w,(zeroValue 4).run P w= .ok (.bool G) w)
  (t50:P.underlying 50=V (.slice 47)) (a50:∀w,(isAgg 50).run P w= .ok G w) (z50:∀w,(Go.sizeOf 50).run P w= .ok 1 w) (v50:∀w,(zeroValue 50).run P w= .ok (.slice I 0 0) w)
  (K:Nat) (hK:0<K) (z47:∀w,(Go.sizeOf 47).run P w= .ok K w)
  (b off n c i vb voff vc:Nat) (cs vs:aa Value) (w:World) (hi:i<n) (hroom:n+1<=c) (hc63:c<=9223372036854775807) (hvb:vb≠b)
  (hcl:zR cs=n*K) (hvl:zR vs=K)
  (hcs:∀j v,cs[j]? =V v->w.cell? ⟨b,off+j,I⟩=V v) (hsp:∀j,j<(n+1)*K->(w.cell? ⟨b,off+j,I⟩).isSome=O) (hfz:∀j,j<(n+1)*K->w.frozen? ⟨b,off+j,I⟩=G)
  (hvs:∀j v,vs[j]? =V v->w.cell? ⟨vb,voff+j,I⟩=V v) (h1c:∀v∈cs,v.oneCell'=O) (h1v:∀v∈vs,v.oneCell'=O)
  (tA tB:TypeId) (kA kB:Nat) (hsa:w.shape? vb=V (tA,kA)) (hsb:w.shape? b=V (tB,kB)) (hkB:kB≠0) (hfa:w.frozen? ⟨vb,voff,I⟩=G) (hfe:w.frozen? ⟨vb,kA,I⟩=G):
  Calls P 125 #[.slice (V ⟨b,off,I⟩) n c, .int .i64 i, .slice (V ⟨vb,voff,I⟩) 1 vc] w λe w'=>
   e= .returned (.slice (V ⟨b,off,I⟩) (n+1) c)/\w'=(w.drew.setCells b (off+(i+1)*K) (cs.drop (i*K))).setCells b (off+i*K) vs:=by
 have hz2:¬((i:Int)=(n:Int)):=aq;have hov:∀lb cb,(callFunc 197 #[.slice (V ⟨vb,voff,I⟩) 1 vc, .slice (V ⟨b,off+(i+1)*K,I⟩) lb cb]).run P w= .ok (.value (.bool G)) w:=λlb cb=>by
  rw[run_callFunc_extern F197 aW aW aW (e:=Extern.SlicesOverlaps.overlaps #[50,50] #[4]) aW,
   Lib.run_overlaps_apart w 50 4 47 t50 K z47 ⟨vb,voff,I⟩ ⟨b,off+(i+1)*K,I⟩ 1 vc lb cb hvb tA tB kA kB hsa hsb hkB hfa hfe]
  rfl
 have hiK:i*K<=n*K:=yl K aq;have e1:(n+1)*K=n*K+K:=by rw[zX,yL]
 have e2:(i+1)*K=i*K+K:=by rw[zX,yL]
 have e3:(n-i)*K=n*K-i*K:=Nat.sub_mul n i K;have hiK2:(i+1)*K<=n*K:=yl K hi;have hdl:zR (cs.drop (i*K))=(n-i)*K:=by rw[zV,hcl,e3]
 have hw1:IntKind.i64.wrap ((i:Int)+1)=(i:Int)+1:=by rw[IntKind.wrap_i64];omega
 have hw2:IntKind.i64.wrap ((n:Int)+1)=(n:Int)+1:=by rw[IntKind.wrap_i64];omega
 have hb1:(0:Int)<=(i:Int)+1:=aq;have htn:((i:Int)+1).toNat=i+1:=aq;have htn2:((n:Int)+1).toNat=n+1:=aq;have hb2:¬(c=i+1):=aq;have hb3:(i:Int)<=(n:Int)+1:=aq;have hb4:¬(c=i):=aq;have hin:i<=n:=aq;have hcp1:∀ty dc sc,(Builtin.copy_ #[50,50] ty #[.slice (V ⟨b,off+(i+1)*K,I⟩) (n-i) dc, .slice (V ⟨b,off+i*K,I⟩) (n+1-i) sc]).run P w.drew= .ok (goInt (n-i:Nat)) (w.drew.setCells b (off+(i+1)*K) (cs.drop (i*K))):=λty dc sc=>
  oO w.drew _ _ ty 47 b (off+(i+1)*K) (n-i) dc ⟨b,off+i*K,I⟩ (n+1-i) sc (cs.drop (i*K)) K (n-i) t50 z47 (by simp only[Nat.min_def];split<;>omega) hdl
   (λj v hj=>by rw[Addr.add_lit,yG];exact hcs (i*K+j) v (by rwa [yF]at hj))
   (λj hj=>by rw[yG];exact hsp _ aq) (λj hj=>by rw[yG];exact hfz _ aq) (λv hv=>h1c v (xC hv))
 obtain⟨W1,hW1⟩:∃W1,W1=w.drew.setCells b (off+(i+1)*K) (cs.drop (i*K)):=⟨_,rfl⟩;have hsp1:∀k,k<(n+1)*K->(W1.cell? ⟨b,off+k,I⟩).isSome=O:=λk hk=>by
  rw[hW1];exact isSome_setCells b _ _ _ (λj hj=>by rw[yG];exact hsp _ aq) _ (hsp k hk)
 have hcp2:∀(am:World),(∀x,am.cell? x=W1.cell? x)->(∀x,am.frozen? x=W1.frozen? x)->∀ty dc,(Builtin.copy_ #[50,50] ty #[.slice (V ⟨b,off+i*K,I⟩) (n+1-i) dc, .slice (V ⟨vb,voff,I⟩) 1 vc]).run P am= .ok (goInt (1:Nat)) (am.setCells b (off+i*K) vs):=λam hWc hWf ty dc=>
  oO am _ _ ty 47 b (off+i*K) (n+1-i) dc ⟨vb,voff,I⟩ 1 vc vs K 1 t50 z47 (by simp only[Nat.min_def];split<;>omega) (by rw[hvl,yL])
   (λj v hj=>by
    rw[Addr.add_lit,hWc,hW1,World.cell?_setCells_out b _ _ _ _ (λh _=>ep h hvb)];exact hvs j v hj)
   (λj hj=>by rw[hWc,yG];exact hsp1 _ aq) (λj hj=>by rw[hWf,hW1,World.frozen?_setCells,yG];exact hfz _ aq) h1v
 rw[<-hW1]at hcp1;clear e1 e2 e3 hiK hiK2 hdl hsp1 hcl
 go_enter FG,Tryz.ntmps125
 go_wp2_with (simp only[hov])
 go_region_law_o (refine step_copy_runI rfl _ _ 50 50 rfl _ _ (by simp[Act.eval,Act.put]) (by simp[Act.eval,Act.put]) (hcp1 _ _ _) ?_)
 go_wp2_with (at_builtin;refine wpList_copy_runI _ rfl _ _ 50 50 rfl _ _ rfl rfl (hcp2 _ (λ_=>rfl) (λ_=>rfl) _ _) ?_)
 go_ret
 first|exact⟨rfl,rfl⟩|exact⟨rfl,by rw[hW1]⟩
set_option maxHeartbeats 8000000 in
def Pv(FG:P.funcs[125]? =V f125)(mixed:P.follows .mixedOrders=O)
  (t3:P.underlying 3=V (.int .i64)) (a3:∀w,(isAgg 3).run P w= .ok G w) (z3:∀w,(Go.sizeOf 3).run P w= .ok 1 w) (v3:∀w,(zeroValue 3).run P w= .ok (.int .i64 0) w)
  (t4:P.underlying 4=V .bool) (a4:∀w,(isAgg 4).run P w= .ok G w) (z4:∀w,(Go.sizeOf 4).run P w= .ok 1 w) (v4:∀w,(zeroValue 4).run P w= .ok (.bool G) w)
  (t50:P.underlying 50=V (.slice 47)) (a50:∀w,(isAgg 50).run P w= .ok G w) (z50:∀w,(Go.sizeOf 50).run P w= .ok 1 w) (v50:∀w,(zeroValue 50).run P w= .ok (.slice I 0 0) w)
  (i0:TypeInfo) (z:Value) (hi0:P.info? 47=V i0) (hz0:i0.zero=V z) (hs0:0<i0.size) (hzs:z.cells.size=i0.size)
  (K:Nat) (hKs:i0.size=K) (z47:∀w,(Go.sizeOf 47).run P w= .ok K w)
  (b off n c i vb voff vc:Nat) (cs vs:aa Value) (w:World) (hi:i<n) (hnc:n<=c) (hroom:c<n+1) (hn63:n+1<=4611686018427387904) (hbig:(n+1)*i0.bytes<=140737488355328)
  (hcl:zR cs=n*K) (hvl:zR vs=K)
  (hcs:∀j v,cs[j]? =V v->w.cell? ⟨b,off+j,I⟩=V v)
  (hvs:∀j v,vs[j]? =V v->w.cell? ⟨vb,voff+j,I⟩=V v) (h1c:∀v∈cs,v.oneCell'=O) (h1v:∀v∈vs,v.oneCell'=O) (hbw:b<w.heap.size) (hvw:vb<w.heap.size):
  Calls P 125 #[.slice (V ⟨b,off,I⟩) n c, .int .i64 i, .slice (V ⟨vb,voff,I⟩) 1 vc] w λe w'=>
   e= .returned (.slice (V ⟨w.heap.size,0,I⟩) (n+1) (grownCap w (n+1) c 47))/\
   w'=(((w.alloc (.cells ((cs.take (i*K)).toArray++Builtin.zeroCells z.cells (n+1-i)++Builtin.zeroCells z.cells (grownCap w (n+1) c 47-(n+1))) 47)).drew.setCells w.heap.size (i*K) vs).drew).setCells w.heap.size ((i+1)*K) (cs.drop (i*K)):=by
 have hz2:¬((i:Int)=(n:Int)):=aq;have hz3:(c:Int)<(n:Int)+1:=aq;have hkk:(n:Int)+1-(i:Int)=((n+1-i:Nat):Int):=aq;have hik:i+(n+1-i)=n+1:=aq;have hiK:i*K<=n*K:=yl K aq;have e1:(n+1)*K=n*K+K:=by rw[zX,yL]
 have e2:(i+1)*K=i*K+K:=by rw[zX,yL]
 have e3:(n-i)*K=n*K-i*K:=Nat.sub_mul n i K;have e4:(n+1-i)*K=(n+1)*K-i*K:=Nat.sub_mul (n+1) i K;have hiK2:(i+1)*K<=n*K:=yl K hi;have hdl:zR (cs.drop (i*K))=(n-i)*K:=by rw[zV,hcl,e3]
 have hold:(Builtin.firstCells i0.size i (.slice (V ⟨b,off,I⟩) i c)).run P w.drew= .ok (cs.take (i*K)).toArray w.drew:=by
  rw[hKs];exact run_firstCells_some w.drew K i ⟨b,off,I⟩ i c (cs.take (i*K)) (by rw[zA];omega) (λj v hj=>by
   rw[Addr.add_lit];rw[yE]at hj;split at hj
   ·exact hcs j v hj
   ·cases hj)
 have hrz:∀ty,(Builtin.append_ #[50,3] ty #[.slice (V ⟨b,off,I⟩) i c, .int .i64 ((n:Int)+1-(i:Int))]).run P w=
   .ok (.slice (V ⟨w.heap.size,0,I⟩) (n+1) (grownCap w (n+1) c 47)) (w.drew.alloc (.cells ((cs.take (i*K)).toArray++Builtin.zeroCells z.cells (n+1-i)++Builtin.zeroCells z.cells (grownCap w (n+1) c 47-(n+1))) 47)):=λty=>by
  have h:=Lib.run_append_grow_zeros w 50 3 ty 47 i0 _ .i64 .i64 t50 t3 hi0 hz0 (V ⟨b,off,I⟩) i c (cs.take (i*K)) hold (n+1-i) aq hs0 aq aq
   (by have:(n+1-i)*i0.bytes<=(n+1)*i0.bytes:=yl _ aq;omega)
   (by rw[hik];exact growslice_fits hroom hbig)
  rw[hik]at h;rw[hkk];exact h
 obtain⟨za,hG⟩:∃za,za=grownCap w (n+1) c 47:=⟨_,rfl⟩;obtain⟨ROW,hROW⟩:∃ROW:Array Value,ROW=(cs.take (i*K)).toArray++Builtin.zeroCells z.cells (n+1-i)++Builtin.zeroCells z.cells (za-(n+1)):=⟨_,rfl⟩;rw[<-hG]at hrz ⊢;rw[<-hROW]at hrz ⊢;have hRl:(n+1)*K<=ROW.size:=by
  rw[hROW];simp only[Array.size_append,y6,zA,size_zeroCells,hzs,hKs,hcl];omega
 obtain⟨W1,hW1⟩:∃W1,W1=w.drew.alloc (.cells ROW 47):=⟨_,rfl⟩;rw[<-hW1]at hrz;have hN:∀j,j<(n+1)*K->(W1.cell? ⟨w.heap.size,j,I⟩).isSome=O:=λj hj=>by
  rw[hW1,World.cell?_alloc_at (w:=w.drew) ROW _ w.heap.size j rfl,xd aq];rfl
 have hNf:∀j,W1.frozen? ⟨w.heap.size,j,I⟩=G:=λj=>by rw[hW1];exact World.frozen?_alloc_at (w:=w.drew) ROW _ w.heap.size j rfl
 have hOb:∀j v,w.cell? ⟨b,j,I⟩=V v->W1.cell? ⟨b,j,I⟩=V v:=λj v h=>by rw[hW1,World.cell?_alloc_past (w:=w.drew) _ b j hbw];exact h
 have hOv:∀j v,w.cell? ⟨vb,j,I⟩=V v->W1.cell? ⟨vb,j,I⟩=V v:=λj v h=>by rw[hW1,World.cell?_alloc_past (w:=w.drew) _ vb j hvw];exact h
 have hcpA:∀(am:World),(∀x,am.cell? x=W1.cell? x)->(∀x,am.frozen? x=W1.frozen? x)->∀ty dc,(Builtin.copy_ #[50,50] ty #[.slice (V ⟨w.heap.size,i*K,I⟩) (n+1-i) dc, .slice (V ⟨vb,voff,I⟩) 1 vc]).run P am= .ok (goInt (1:Nat)) (am.setCells w.heap.size (i*K) vs):=λam hWc hWf ty dc=>
  oO am _ _ ty 47 w.heap.size (i*K) (n+1-i) dc ⟨vb,voff,I⟩ 1 vc vs K 1 t50 z47 (by simp only[Nat.min_def];split<;>omega) (by rw[hvl,yL])
   (λj v hj=>by rw[Addr.add_lit,hWc];exact hOv _ v (hvs j v hj))
   (λj hj=>by rw[hWc];exact hN _ aq) (λj hj=>by rw[hWf];exact hNf _) h1v
 have hGn:n+1<=za:=by rw[hG];exact grownCap_ge w _ _ _
 have hG63:za<=9223372036854775807:=by
  have:=grownCap_le_maxLen w (n+1) c 47 (by unfold maxLen;omega);rw[<-hG]at this;unfold maxLen at this;omega
 have hGi:¬(za=i):=aq;have hGim:¬(za=i+1):=aq;have hci:¬(c=i):=aq;have hbN:b≠w.heap.size:=aq;have hcpB:∀(am:World),(∀x,am.cell? x=(W1.setCells w.heap.size (i*K) vs).cell? x)->(∀x,am.frozen? x=(W1.setCells w.heap.size (i*K) vs).frozen? x)->∀ty dc sc,(Builtin.copy_ #[50,50] ty #[.slice (V ⟨w.heap.size,(i+1)*K,I⟩) (n-i) dc, .slice (V ⟨b,off+i*K,I⟩) (n-i) sc]).run P am= .ok (goInt (n-i:Nat)) (am.setCells w.heap.size ((i+1)*K) (cs.drop (i*K))):=λam hWc hWf ty dc sc=>
  oO am _ _ ty 47 w.heap.size ((i+1)*K) (n-i) dc ⟨b,off+i*K,I⟩ (n-i) sc (cs.drop (i*K)) K (n-i) t50 z47 (by simp only[Nat.min_def];split<;>omega) hdl
   (λj v hj=>by
    rw[Addr.add_lit,hWc,World.cell?_setCells_out _ _ _ _ _ (λh _=>ep h hbN),yG];exact hOb _ v (hcs (i*K+j) v (by rwa [yF]at hj)))
   (λj hj=>by rw[hWc];exact isSome_setCells _ _ _ _ (λt ht=>hN _ aq) _ (hN _ aq))
   (λj hj=>by rw[hWf,World.frozen?_setCells];exact hNf _) (λv hv=>h1c v (xC hv))
 subst hW1;have hE1:∀x,((w.alloc (.cells ROW 47)).drew).cell? x=(w.drew.alloc (.cells ROW 47)).cell? x:=λx=>rfl;have hE2:∀x,((w.alloc (.cells ROW 47)).drew).frozen? x=(w.drew.alloc (.cells ROW 47)).frozen? x:=λx=>rfl;have hF1:∀x,(((w.alloc (.cells ROW 47)).drew.setCells w.heap.size (i*K) vs).drew).cell? x=((w.drew.alloc (.cells ROW 47)).setCells w.heap.size (i*K) vs).cell? x:=λx=>rfl;have hF2:∀x,(((w.alloc (.cells ROW 47)).drew.setCells w.heap.size (i*K) vs).drew).frozen? x=((w.drew.alloc (.cells ROW 47)).setCells w.heap.size (i*K) vs).frozen? x:=λx=>rfl;have hw1:IntKind.i64.wrap ((i:Int)+1)=(i:Int)+1:=by rw[IntKind.wrap_i64];omega
 have hw2:IntKind.i64.wrap ((n:Int)+1)=(n:Int)+1:=by rw[IntKind.wrap_i64];omega
 have hb1:(0:Int)<=(i:Int)+1:=aq;have hin:i<=n:=aq;have htn:((i:Int)+1).toNat=i+1:=aq;have hb3:(i:Int)<=(n:Int):=aq;clear hkk hik hold hROW hG hRl e1 e2 e3 e4 hiK hiK2 hdl hcl
 go_enter FG,Tryz.ntmps125
 go_wp2_with (first
  |(at_builtin;refine Lib.wpList_append_run _ rfl _ _ _ _ rfl _ _ rfl rfl _ _ (hrz _) ?_)
  |(at_builtin;refine wpList_copy_runI _ rfl _ _ 50 50 rfl _ _ rfl rfl (hcpA _ hE1 hE2 _ _) ?_)
  |(at_builtin;refine wpList_copy_runI _ rfl _ _ 50 50 rfl _ _ rfl rfl (hcpB _ (λ_=>rfl) (λ_=>rfl) _ _ _) ?_))
 go_region_law_o (refine step_copy_runI rfl _ _ 50 50 rfl (.slice (V ⟨w.heap.size,(i+1)*K,I⟩) (n-i) (za-(i+1))) (.slice (V ⟨b,off+i*K,I⟩) (n-i) (c-i)) (by simp[Act.eval,Act.put]) (by simp[Act.eval,Act.put]) (hcpB _ hF1 hF2 50 (za-(i+1)) (c-i)) ?_)
 go_wp2
 go_ret
 exact⟨rfl,rfl⟩
end
end Go.Proofs.YtnfljbehcffmcaaGreat
end
noncomputable section
set_option maxRecDepth 100000
namespace Go.Proofs.YtnfljbehcffmcaaGreat
open Go Go.Iv
open Go.IntKind (i64 u64)
def heap_alloc(w:World)(o:Obj):(w.alloc o).heap[w.heap.size]? =V o:=by unfold World.alloc;simp
end Go.Proofs.YtnfljbehcffmcaaGreat
end
noncomputable section
set_option maxRecDepth 100000
namespace Go.Proofs.YtnfljbehcffmcaaGreat
open Go Go.Iv Go.Sort Go.Proofs
abbrev aC5:=aa aB
def d125:Td 2 aC5:= .c [] [6] (.r 2 3 (ec 6 (qo 2) en) (sr 2 47 sn) (λz=>z.2.1) (λx=>(((),()),(x,()))))
def aw9:=(lc (qo 0) (aU (lc (qo 1) ln)))
def aBV:=(sr 0 47 (sr 1 47 sn))
def OU(a1:Int)(b0:aa aB)(b1:aa aB):af aC5:=if 0<=a1/\a1<=zR b0/\zR b0<=1000000000/\zR b1=1 then V (b0.take a1.toNat++b1++b0.drop a1.toNat)else I
def apn:Prop:=HY vi 125 2 aw9 aBV d125 (λg=>OU g.1.2.1 g.2.1 g.2.2.1)
def asg:bq->bq:=eY vi 125 2 aw9 aBV d125 (λg=>OU g.1.2.1 g.2.1 g.t.1)
def ZW(hv:apn){F:bq}(h:bA vi F):bA vi (asg F):=CO hv ⟨_,func125,aW,aW⟩ (λ_=>aW) h
section
variable {α:Type} [Inhabited α] {enc:α->aa Value} (hk:∀x,zR (enc x)=2)
include hk
theorem JH:∀(L:aa α) (i:Nat),(L.flatMap enc).drop (i*2)=(L.drop i).flatMap enc
 |L,0=>by simp
 |[],i+1=>by simp
 |x::L,i+1=>by
  rw[yQ,List.drop_succ_cons,<-JH L i,show (i+1)*2=2+i*2 by omega,<-zW,List.drop_left' (hk x)]
theorem Vh:∀(L:aa α) (i:Nat),(L.flatMap enc).take (i*2)=(L.take i).flatMap enc
 |L,0=>by simp
 |[],i+1=>by simp
 |x::L,i+1=>by
  rw[yQ,List.take_succ_cons,yQ,<-Vh L i,show (i+1)*2=2+i*2 by omega,List.take_append,hk x,List.take_of_length_le (by rw[hk];omega),show 2+i*2-2=i*2 by omega]
theorem abc:∀(L:aa α),zR (L.flatMap enc)=zR L*2
 |[]=>rfl
 |x::L=>by rw[yQ,zh,hk,abc L,yT];omega
theorem E8(L:aa α):flatK enc 2 L.toArray=(L.flatMap enc).toArray:=by
 refine H8 enc L.toArray (by rw[abc hk];simp) λi hi=> ?_;have hi:i<zR L:=by simpa using hi
 rw[JH hk,yN hi,yQ,List.take_left' (hk _)];simp[hi]
end
def VC{us us1:aa Value}{n i:Nat}{F:Array Value}(hu:zR us=n*2)(h1:zR us1=2)(hi:i<=n)(hF:(n+1)*2<=F.size)(h:∀t,t<(n+1)*2->F[t]! =if t<i*2 then us[t]! else if t<(i+1)*2 then us1[t-i*2]! else us[t-2]!):
  F.toList.take ((n+1)*2)=us.take (i*2)++us1++us.drop (i*2):=by
 have l1:zR (us.take (i*2))=i*2:=by rw[zA];omega
 apply xY
 ·rw[zA,zh,zh,l1,zV,yp];omega
 ·intro t q1 q2;have ht:t<(n+1)*2:=by rw[zA]at q1;omega
  have e:=h t ht;rw[getElem!_pos F t aq]at e;rw[xJ,Array.getElem_toList,e];by_cases c1:t<i*2
  ·rw[bJ c1,wg (by rw[zh];omega),wg aq,xJ,getElem!_pos us t aq]
  ·rw[bN c1];by_cases c2:t<(i+1)*2
   ·rw[bJ c2,wg (by rw[zh];omega),wD aq,getElem!_pos us1 _ aq]
    congr 1
    omega
   ·rw[bN c2,wD (by rw[zh];omega),xS,getElem!_pos us _ aq]
    congr 1
    rw[zh];omega
def arI:∃i,vi.info? 47=V i/\i.zero=V (.agg #[.slice I 0 0, .int .i64 0])/\i.size=2/\i.bytes=32:=by
 have h:(vi.info? 47).map (λi=>(i.zero,i.size,i.bytes))=V (V (.agg #[.slice I 0 0, .int .i64 0]),2,32):=aW;simp_all
def avx(l b1 b:aa aB)(n:Int)(hb:OU n l b1=V b):Mo vi 125 [.own 0, .n .i64 n, .own 1] [(0, .row 47 l),(1, .row 47 b1)] 2 (fK vi 125 2 (d125.pat b)):=by
 unfold OU at hb;split at hb
 case isFalse=>cases hb
 rename_i hn;obtain⟨hn0,hn1,hn2,hn3⟩:=hn;obtain⟨i,rfl⟩:∃i:Nat,n=(i:Int):=⟨n.toNat,aq⟩;rw[zg]at hb;have hbl:b=l.take i++b1++l.drop i:=(zF.inj hb).symm;have hin:i<=zR l:=aq;have hlen:zR b=zR l+1:=by rw[hbl];simp;omega
 intro S;have ho:fK vi 125 2 (d125.pat b)=⟨.own 2,[(2, .row 47 b)],3⟩:=aW;show Go.Iv.Fn vi 125 [(b9.own 0).sub S,(b9.n .i64 (i:Int)).sub S,(b9.own 1).sub S] (bt.res S [(0, .row 47 l),(1, .row 47 b1)]) _;rw[ho,dz,dz,show (b9.n (dh:=uni.dh) .i64 (i:Int)).sub S= .n .i64 (i:Int)by simp[b9.sub]];intro w A vs hr hd hnd;obtain⟨hr1,hr2⟩:=hr;obtain⟨v,v2,v1,rfl⟩:∃v v2 v1,vs=[v,v2,v1]:=by
  match vs,hr1 with
  |[v,v2,v1],_=>exact⟨v,v2,v1,rfl⟩
 have hv:v=S.v 0:=(hr2 0 _ v rfl rfl).cM;have hv1:v1=S.v 1:=(hr2 2 _ v1 rfl rfl).cM;have hv2:v2= .int .i64 (i:Int):=(hr2 1 _ v2 rfl rfl).cM;subst hv hv1 hv2;have aw:bt.res S [(0, .row 47 l),(1, .row 47 b1)]=[cn.row (S.v 0) 47 l,cn.row (S.v 1) 47 b1]:=rfl;rw[aw]at hd hnd ⊢;clear hr1 hr2 aw;generalize hv:S.v 0=v at*;generalize hv1:S.v 1=v1 at*;obtain⟨us,g1,g2,g3⟩:=hd.1 (.row v 47 l) (zk ..);obtain⟨us1,k1,k2,k3⟩:=hd.1 (.row v1 47 b1) (zI _ (zo.2 rfl));have g1:gv w v 47 2 (zR l) us:=g1;have k1:gv w v1 47 2 (zR b1) us1:=k1;have g0:zR us=zR l*2:=g1.1;have k0:zR us1=zR b1*2:=k1.1;obtain⟨d,d1,d2,d3⟩:=Vx g0 g3;obtain⟨e,e1,e2,e3⟩:=Vx k0 k3;have hb1:zR b1=1:=aq;rw[hb1]at k0 k1;have hus:us=d.toList.flatMap nM:=by
  have:=E8 ki d.toList;simp_all
 have hus1:us1=e.toList.flatMap nM:=by
  have:=E8 ki e.toList;simp_all
 obtain⟨D,hD⟩:∃D:aa (Ob A w),D=d.toList.take i++e.toList++d.toList.drop i:=⟨_,rfl⟩;have hDb:(D.map λx=>x.1.1)=b:=by rw[hD,zM,zM,xK,xA,d2,e2,hbl]
 have hDf:D.flatMap nM=us.take (i*2)++us1++us.drop (i*2):=by
  rw[hus,hus1,Vh ki,JH ki,hD,xR,xR]
 obtain⟨r1,r2⟩:=Sn D.toArray b (by simpa using hDb);rw[E8 ki,hDf]at r1 r2;have hbks:∀x,x∈bC [cn.row v 47 l,cn.row v1 47 b1]↔gH v=V x\/gH v1=V x:=λx=>by
  rw[bS];constructor
  ·rintro⟨r,hr,hx⟩;rcases zy.1 hr with rfl|hr
   ·exact .inl hx
   ·rw[zo.1 hr]at hx;exact .inr hx
  ·rintro(h|h)
   ·exact⟨_,zk ..,h⟩
   ·exact⟨_,zI _ (zo.2 rfl),h⟩
 have fin:∀(w':World) (u:Value),gv w' u 47 2 (zR l+1) (us.take (i*2)++us1++us.drop (i*2))->(∀x,gH u=V x->gH v=V x\/w.heap.size<=x)->Kp (bC [cn.row v 47 l,cn.row v1 47 b1]) w w'->∃v_1 av B',Ending.returned u=Ending.returned v_1/\
   (∃S',pU 2 S S'/\av=(b9.own (dh:=uni.dh) 2).sub S'/\List.Perm B' (bt.res S' [(2, .row 47 b)]))/\Tr ⟨w,A,bC [cn.row v 47 l,cn.row v1 47 b1]⟩ (bC [cn.row v 47 l,cn.row v1 47 b1]) [cn.row v 47 l,cn.row v1 47 b1] w B' w'/\Rel (al ⟨w,A,bC [cn.row v 47 l,cn.row v1 47 b1]⟩ B') w' av v_1:=λw' u hrow hu hk=>by
  have hbu:∀x,x∈bC [cn.row u 47 b]->x∈bC [cn.row v 47 l,cn.row v1 47 b1]\/w.heap.size<=x:=λx hx=>by
   obtain⟨r,hr,hx⟩:=bS.1 hx;rw[zo.1 hr]at hx;exact(hu x hx).imp (λh=>(hbks x).2 (.inl h)) id
  refine⟨u, .lit u,[cn.row u 47 b],rfl,⟨⟨λj=>if j=2 then u else S.v j,S.b⟩,λj hj=>⟨by show _=if j=2 then u else S.v j;rw[bN aq],rfl⟩,by rw[dz];rfl,List.Perm.refl _⟩,⟨⟨hk,?_,?_,?_⟩,hk,λx hx h=>⟨⟨h.1,λhx2=> ?_⟩,h.2⟩⟩, .lit u⟩
  ·intro r hr;rw[zo.1 hr];refine⟨us.take (i*2)++us1++us.drop (i*2),by have h:=hrow;rw[<-hlen]at h;exact h,λj _=>rfl,λj hj=>(r2 j hj).mono λx hx hA=> ?_⟩;have hnb:x∉bC [cn.row v 47 l,cn.row v1 47 b1]:=λh=>hd.2 x h hA;exact⟨⟨.inl hA,λh=>(hbu x h).elim hnb aq⟩,hk.block x hx hnb⟩
  ·unfold bC;simp only[xD];cases cn.blk (cn.row u 47 b)<;>simp
  ·exact hbu
  ·exact(hbu x hx2).elim h.2 aq
 rcases k1.2 with ⟨p,_,h0⟩|⟨vb,vc,vcur,hvv,hvg,_,_,hvs,hvt⟩
 ·cases h0
 subst hvv;have hvw:vb<w.heap.size:=(y9.1 hvg).1;have hone1:∀x∈us1,x.oneCell'=O:=by
  rw[hus1];intro x hx;obtain⟨y,_,hy⟩:=xz.1 hx;exact Dw y x hy
 have honec:∀x∈us,x.oneCell'=O:=by
  rw[hus];intro x hx;obtain⟨y,_,hy⟩:=xz.1 hx;exact Dw y x hy
 have hvc:∀j x,us1[j]? =V x->w.cell? ⟨vb,0+j,I⟩=V x:=λj x hj=>by rw[ym];exact k1.cells rfl j x hj
 have m64:maxLen=9223372036854775807:=rfl;obtain⟨i0,i1,i2,i3,i4⟩:=arI;by_cases hend:i=zR l
 ·subst hend;obtain⟨v',am,hrun,hrow,hkp,hblk⟩:=qz (P:=vi) (ty:=50) underlying50 i1 i2 i3 i4 (by rfl) g1 (xs:= .slice (V ⟨vb,0,I⟩) 1 (vc+1)) (news:=us1) ⟨_,_,rfl, .inr ⟨_,rfl,λj x hj=>by rw[Addr.add_lit];exact hvc j x hj⟩⟩ aq hone1 aq aq;obtain⟨q,cap,hvq,hcap,hc63,hnil⟩:∃q cap,v= .slice q (zR l) cap/\zR l<=cap/\cap<=9223372036854775807/\(q=I->zR l=0/\cap=0):=by
   rcases g1.2 with ⟨p,hp,h0⟩|⟨g,c',cur,hp,_,hc1,hc,_⟩
   ·exact⟨p,0,by rw[hp,h0],aq,aq,λ_=>⟨h0,rfl⟩⟩
   ·exact⟨_,c'+1,hp,hc1,aq,λh=>by cases h⟩
  subst hvq;refine(SS (P:=vi) func125 aW underlying3 Tryz.isAgg3 Tryz.sizeOf3 Tryz.zeroValue3 underlying4 Tryz.isAgg4 Tryz.sizeOf4 Tryz.zeroValue4 underlying50 Tryz.isAgg50 Tryz.sizeOf50 Tryz.zeroValue50 2 Tryz.sizeOf47 q (zR l) cap vb 0 (vc+1) w am v' hcap hc63 hnil hrun).mono λe w' he=> ?_;obtain⟨rfl,rfl⟩:=he;refine fin _ _ ?_ (λx hx=> ?_) ⟨hkp.os,hkp.tape,hkp.output,hkp.drawn,hkp.size,λx hx hn=>hkp.block x hx λh=>hn ((hbks x).2 (.inl ?_))⟩
  ·rw[<-g0,zH,wN,yy];exact hrow
  ·rcases hblk with h|h
   ·rw[h]at hx;exact .inl hx
   ·rw[h]at hx;cases hx;exact .inr (zm _)
  ·simpa using h
 ·have hlt:i<zR l:=aq;rcases g1.2 with ⟨p,_,h0⟩|⟨g,cap,cur,hvq,hg,q1,q2,q3,q4⟩
  ·omega
  subst hvq;have hgs:g<w.heap.size:=(y9.1 hg).1;have hcs:∀j x,us[j]? =V x->w.cell? ⟨g,0+j,I⟩=V x:=λj x hj=>by rw[ym];exact g1.cells rfl j x hj
  have hne:vb≠g:=λe=>by
   subst e;simp[bC,cn.blk,gH]at hnd
  have curus:∀t,t<zR l*2->cur[t]! =us[t]! :=λt ht=>by
   have h:(cur.toList.take (zR l*2))[t]? =us[t]? :=congrArg (λz:aa Value=>z[t]?) q4;rw[wz ht,wO,xd aq,zq aq]at h;rw[getElem!_pos cur t aq,getElem!_pos us t aq];exact zF.inj h
  by_cases hroom:zR l+1<=cap+1
  ·refine(Jx (P:=vi) func125 func197 aW underlying3 Tryz.isAgg3 Tryz.sizeOf3 Tryz.zeroValue3 underlying4 Tryz.isAgg4 Tryz.sizeOf4 Tryz.zeroValue4 underlying50 Tryz.isAgg50 Tryz.sizeOf50 Tryz.zeroValue50 2 (by decide) Tryz.sizeOf47 g 0 (zR l) (cap+1) i vb 0 (vc+1) us us1 w hlt hroom aq hne g0 aq hcs
    (λj hj=>by simp only[World.cell?,hg,vg,yx,GQ];rw[xd aq];rfl) (λj hj=>by simp[World.frozen?,hg]) hvc honec hone1 47 47 vcur.size cur.size (by simp[World.shape?,hvg]) (by simp[World.shape?,hg]) aq (by simp[World.frozen?,hvg]) (by simp[World.frozen?,hvg])).mono λe w' he=> ?_
   obtain⟨rfl,rfl⟩:=he;refine fin _ _ ⟨by simp;omega, .inr ⟨g,cap,_,rfl,gM _ _ _ _ (gM _ _ _ _ hg),hroom,q2,by simp[q3],?_⟩⟩ (λx hx=> .inl (by cases hx;rfl)) ?_
   ·refine VC g0 aq hin (by simp[q3];omega) λt ht=> ?_;rw[get_setMany _ _ _ t (by simp[q3];omega),get_setMany _ _ _ t (by rw[q3];omega),zV];simp only[ym,k0,g0];by_cases c1:t<i*2
    ·rw[bN aq,bN aq,bJ c1,curus t aq]
    ·by_cases c2:t<(i+1)*2
     ·rw[bJ aq,bN c1,bJ c2]
     ·rw[bN aq,bJ aq,bN c1,bN c2,getElem!_pos _ _ (by rw[zV];omega),xS,getElem!_pos us _ aq]
      congr 1
      omega
   ·exact Kp.trans (X:=bC [cn.row (.slice (V ⟨g,0,I⟩) (zR l) (cap+1)) 47 l,cn.row (.slice (V ⟨vb,0,I⟩) 1 (vc+1)) 47 b1]) (Y:=[g]) (Kp.trans (w1:=w.drew) (Y:=[g]) ⟨rfl,rfl,rfl,yd _,zm _,λ_ _ _=>rfl⟩ (jg _ _ _) λx hx _=>(hbks x).2 (.inl (by rw[zo.1 hx];rfl))) (jg _ _ _) λx hx _=>(hbks x).2 (.inl (by rw[zo.1 hx];rfl))
  ·have hG:=grownCap_ge w (zR l+1) (cap+1) 47;have hG2:=grownCap_le_maxLen w (zR l+1) (cap+1) 47 aq;refine(Pv (P:=vi) func125 aW underlying3 Tryz.isAgg3 Tryz.sizeOf3 Tryz.zeroValue3 underlying4 Tryz.isAgg4 Tryz.sizeOf4 Tryz.zeroValue4 underlying50 Tryz.isAgg50 Tryz.sizeOf50 Tryz.zeroValue50 i0 _ i1 i2 aq (by rw[i3];rfl) 2 i3 Tryz.sizeOf47 g 0 (zR l) (cap+1) i vb 0 (vc+1) us us1 w hlt q1 aq aq (by rw[i4];omega) g0 aq hcs hvc honec hone1 hgs hvw).mono λe w' he=> ?_;obtain⟨rfl,rfl⟩:=he;obtain⟨za,hGe⟩:∃za,grownCap w (zR l+1) (cap+1) 47=za+1:=⟨grownCap w (zR l+1) (cap+1) 47-1,aq⟩;rw[hGe]at hG hG2 ⊢;have hzc:∀m,(Builtin.zeroCells (Value.agg #[.slice I 0 0, .int .i64 0]).cells m).size=m*2:=λm=>by rw[size_zeroCells];rfl
   have hRs:((us.take (i*2)).toArray++Builtin.zeroCells (Value.agg #[.slice I 0 0, .int .i64 0]).cells (zR l+1-i)++Builtin.zeroCells (Value.agg #[.slice I 0 0, .int .i64 0]).cells (za+1-(zR l+1))).size=(za+1)*2:=by
    simp only[Array.size_append,y6,zA,hzc];omega
   obtain⟨ROW,hROW⟩:∃ROW:Array Value,ROW=(us.take (i*2)).toArray++Builtin.zeroCells (Value.agg #[.slice I 0 0, .int .i64 0]).cells (zR l+1-i)++Builtin.zeroCells (Value.agg #[.slice I 0 0, .int .i64 0]).cells (za+1-(zR l+1)):=⟨_,rfl⟩;rw[<-hROW]at hRs ⊢;have hR1:∀t,t<i*2->ROW[t]! =us[t]! :=λt ht=>by
    rw[getElem!_pos ROW t aq,getElem!_pos us t aq];simp only[hROW];rw[Array.getElem_append_left (by simp;omega),Array.getElem_append_left (by simp;omega)];simp
   refine fin _ _ ⟨by simp;omega, .inr ⟨w.heap.size,za,_,rfl,gM (T:=47) _ _ (((w.alloc (.cells ROW 47)).drew.setCells w.heap.size (i*2) us1).drew) _ (gM (T:=47) _ _ ((w.alloc (.cells ROW 47)).drew) ROW (heap_alloc w _)),hG,hG2,by simp[hRs],?_⟩⟩ (λx hx=> .inr (by cases hx;exact zm _)) ?_
   ·refine VC g0 aq hin (by simp[hRs];omega) λt ht=> ?_;rw[get_setMany _ _ _ t (by simp[hRs];omega),get_setMany _ _ _ t (by rw[hRs];omega),zV];by_cases c1:t<i*2
    ·rw[bN aq,bN aq,bJ c1,hR1 t c1]
    ·by_cases c2:t<(i+1)*2
     ·rw[bN aq,bJ aq,bN c1,bJ c2]
     ·rw[bJ aq,bN c1,bN c2,getElem!_pos _ _ (by rw[zV];omega),xS,getElem!_pos us _ aq]
      congr 1
      omega
   ·refine Kp.trans (X:=bC [cn.row (.slice (some ⟨g,0,none⟩) (zR l) (cap+1)) 47 l,cn.row (.slice (some ⟨vb,0,none⟩) 1 (vc+1)) 47 b1]) (w1:=(w.alloc (.cells ROW 47)).drew) (Y:=[w.heap.size]) ⟨rfl,rfl,rfl,yd w.drawn,by show _<=(w.heap.push _).size;rw[Array.size_push];exact yd _,λx hx _=>by show (w.heap.push _)[x]? =_;rw[Array.getElem?_push,bN aq]⟩ (Kp.trans (w1:=((w.alloc (.cells ROW 47)).drew.setCells w.heap.size (i*2) us1).drew) (Y:=[w.heap.size]) (Kp.trans (Y:=[]) (jg _ _ _) (Kp.drew _) λx hx _=>by cases hx) (jg _ _ _) λx hx _=>hx) λx hx hlt=>by rw[zo.1 hx]at hlt;omega
def awK:apn:=λg b hb=>avx g.2.1 g.2.2.1 b g.1.2.1 hb
end Go.Proofs.YtnfljbehcffmcaaGreat
end
noncomputable section
set_option maxRecDepth 100000
namespace Go.Proofs.YtnfljbehcffmcaaGreat
open Go Go.Iv
open Go.IntKind (i64 u64)
def Jp:Td 0 kO:=dB 124
def ajj(p:kO):af (af kO):=nB Zp p
def Wu:=bI (ajj)
abbrev apV:=Int×Bool
def aBP:Td 0 apV:=dBs
def HN(a0:aa aB)(a1:aB):af apV:=mB Zp a0 a1
def aAl:=eL vi 123 G (lc (ql 47) (lc (qg 47) (lc (qf 124 ln) ln))) aBP (λg=>HN g.1 g.2.1)
def adm:EO aAl:=λh=>kL (an:=(noTwo (noTwo (noTwo (.two (Jp.lp Wu .no) .no))))) (l:=[(aZ f123 0,(Jp.lp Wu .no))]) func123 (Xl aV) (aA (aO Jp) aH) h
abbrev aAx:=aB×Bool
def d122:Td 0 aAx:= .c [] [6,7] (.r 0 2 (ec 6 (qp 0 0) (ec 7 qb en)) (sb 0 47 (lc (qo 1) (aU ln)) (sr 1 3 sn)) (λz=>((aB.mk z.t.1 z.2.1.2.1),z.1.2.1)) (λx=>(((),x.2,()),(((),x.1.aI,()),x.1.aK,()))))
def M1(a0:aS)(a1:bT)(a2:aa aL):af aAx:=
 match m37 a0 a1 a2 with|I=>I|V r1=>V (r1)
def QZ:=eL vi 122 G (lc (qg 26) (lc (qg 29) (lc (ql 34) ln))) d122 (λg=>M1 g.1 g.2.1 g.t.1)
def ajt:EO QZ:=λh=>kL (an:= .no) func122 (au1 aV) aH h
abbrev aBq:=Int
def d126:Td 0 aBq:= .c [] [6] (.r 0 0 (ec 6 aN en) sn (λz=>z.1.1) (λx=>((x,()),(()))))
def ZL(a0:aS)(a1:bT)(a2:aa aL):af aBq:=
 match m38 a0 a1 a2 with|I=>I|V r1=>V (r1)
def alG:=eL vi 126 G (lc (qg 26) (lc (qg 29) (lc (ql 34) ln))) d126 (λg=>ZL g.1 g.2.1 g.t.1)
def amL:EO alG:=λh=>kL (an:= .no) func126 (au7 aV) aH h
structure H9 where
 t8:List aB
 t9:List Bool
 t73:List Part
 (t74 t75:Int)
 b0:aS
 b1:bT
 (b2 b3:aY)
def ab3:Td 0 H9:= .c [] [3,4,6,7,8,9,73,74,75] (.t (bX.c 3 1 [] 117) (.c [] [3,4,6,7,8,9,73,74,75] (.r 0 8 (ec 3 (qp 0 0) (ec 4 (qp 1 0) (ec 6 (qp 2 0) (ec 7 (qp 3 0) (ec 8 (qo 4) (ec 9 (qo 5) (ec 73 (ql 90) (ec 74 aN (ec 75 aN en))))))))) (sb 0 26 (lg 26) (sb 1 29 (lg 29) (sb 2 84 (lc qn (lc qn ln)) (sb 3 84 (lc (qo 6) (lc (qo 7) ln)) (sr 4 47 (sr 5 4 (sr 6 47 (sr 7 117 sn)))))))) (λz=>⟨z.q.2.1,z.q.t.1,z.1.q.t.1,z.1.q.t.2.1,z.1.q.q.1,z.2.1,z.t.1,(aY.mk [] []),(aY.mk z.q.t.2.1 z.q.q.1)⟩) (λx=>(((),(),(),(),(),(),x.t73,x.t74,x.t75,()),(x.b0,x.b1,((),(),()),((),(),()),x.t8,x.t9,x.b3.cG,x.b3.aP,()))))))
def U6(p:H9):af (af H9):=
 bif J (p.t75<p.t74)then if 0<=p.t75/\p.t75<zR p.t73 then match ZL p.b0 p.b1 p.t73[zD p.t75]!.bP with|I=>I|V r4=>if 0<=p.t75/\p.t75<zR p.t9 then if 4=4/\zD p.t75<zR p.t9 then bif p.t9[zD p.t75]! then if 0<=p.t75/\p.t75<zR p.t8 then if 47=47/\zD p.t75<zR p.t8 then match HN p.b3.cG p.t8[zD p.t75]! with|I=>I|V r5=>if(p.b3.aP++[Cell.mk p.t73[zD p.t75]!.b8 p.t73[zD p.t75]!.iU p.t73[zD p.t75]!.ax [r5.fst] r4]).length<=1073741824 then V (V (H9.mk p.t8 p.t9 p.t73 p.t74 (aj (p.t75+1)) p.b0 p.b1 (aY.mk [] []) (aY.mk p.b3.cG (p.b3.aP++[Cell.mk p.t73[zD p.t75]!.b8 p.t73[zD p.t75]!.iU p.t73[zD p.t75]!.ax [r5.fst] r4]))))else I else I else I else if(p.b3.aP++[Cell.mk p.t73[zD p.t75]!.b8 p.t73[zD p.t75]!.iU p.t73[zD p.t75]!.ax [] r4]).length<=1073741824 then V (V (H9.mk p.t8 p.t9 p.t73 p.t74 (aj (p.t75+1)) p.b0 p.b1 (aY.mk [] []) (aY.mk p.b3.cG (p.b3.aP++[Cell.mk p.t73[zD p.t75]!.b8 p.t73[zD p.t75]!.iU p.t73[zD p.t75]!.ax [] r4]))))else I else I else I else I else V (I)
def Vo:=bI (U6)
structure FR where
 t2:List Part
 t8:List aB
 t9:List Bool
 t25:List Part
 (t26 t27:Int)
 b0:aS
 b1:bT
 (b2 b3:aY)
def aey:Td 0 FR:= .c [] [2,3,4,6,7,8,9,25,26,27] (.t (bX.c 3 0 [] 47) (.c [] [2,3,4,6,7,8,9,25,26,27] (.r 0 7 (ec 2 (ql 90) (ec 3 (qp 0 0) (ec 4 (qp 1 0) (ec 6 (qp 2 0) (ec 7 (qp 3 0) (ec 8 (qo 4) (ec 9 (qo 5) (ec 25 (ql 90) (ec 26 aN (ec 27 aN en)))))))))) (sb 0 26 (lg 26) (sb 1 29 (lg 29) (sb 2 84 (lc qn (lc qn ln)) (sb 3 84 (lc (qo 6) (lc qn ln)) (sr 4 47 (sr 5 4 (sr 6 47 sn))))))) (λz=>⟨z.1.1,z.q.2.1,z.q.t.1,z.1.q.t.2.1,z.1.q.q.1,z.1.q.q.2.1,z.2.1,z.t.1,(aY.mk [] []),(aY.mk z.q.t.2.1 [])⟩) (λx=>((x.t2,(),(),(),(),(),(),x.t25,x.t26,x.t27,()),(x.b0,x.b1,((),(),()),((),(),()),x.t8,x.t9,x.b3.cG,()))))))
def WO(p:FR):af (af FR):=
 bif J (p.t27<p.t26)then if 0<=p.t27/\p.t27<zR p.t25 then match M1 p.b0 p.b1 p.t25[zD p.t27]!.bP with|I=>I|V r1=>if 0<=p.t27/\p.t27<zR p.t8 then if 47=47/\zD p.t27<zR p.t8 then if 0<=p.t27/\p.t27<zR p.t9 then if 4=4/\zD p.t27<zR p.t9 then if 0<=p.t27/\p.t27<(↑(p.t9.set p.t27.toNat r1.snd).length:Int)then if 4=4/\zD p.t27<zR (p.t9.set p.t27.toNat r1.snd) then bif(p.t9.set p.t27.toNat r1.snd)[zD p.t27]! then if 0<=p.t27/\p.t27<(↑(p.t8.set p.t27.toNat r1.fst).length:Int)then if 47=47/\zD p.t27<zR (p.t8.set p.t27.toNat r1.fst) then match HN p.b3.cG (p.t8.set p.t27.toNat r1.fst)[zD p.t27]! with|I=>I|V r2=>bif bif r2.snd then G else O then if 0<=p.t27/\p.t27<(↑(p.t8.set p.t27.toNat r1.fst).length:Int)then if 47=47/\zD p.t27<zR (p.t8.set p.t27.toNat r1.fst) then match OU r2.fst p.b3.cG [(p.t8.set p.t27.toNat r1.fst)[zD p.t27]!]with|I=>I|V r3=>V (V (FR.mk p.t2 (p.t8.set p.t27.toNat r1.fst) (p.t9.set p.t27.toNat r1.snd) p.t25 p.t26 (aj (p.t27+1)) p.b0 p.b1 (aY.mk [] []) (aY.mk r3 [])))else I else I else V (V (FR.mk p.t2 (p.t8.set p.t27.toNat r1.fst) (p.t9.set p.t27.toNat r1.snd) p.t25 p.t26 (aj (p.t27+1)) p.b0 p.b1 (aY.mk [] []) (aY.mk p.b3.cG [])))else I else I else V (V (FR.mk p.t2 (p.t8.set p.t27.toNat r1.fst) (p.t9.set p.t27.toNat r1.snd) p.t25 p.t26 (aj (p.t27+1)) p.b0 p.b1 (aY.mk [] []) (aY.mk p.b3.cG [])))else I else I else I else I else I else I else I else V (I)
def Vm:=bI (WO)
abbrev E57:=aY
def d57:Td 0 E57:= .c [] [6] (.r 0 3 (ec 6 (qp 0 0) en) (sb 0 84 (lc (qo 1) (lc (qo 2) ln)) (sr 1 47 (sr 2 117 sn))) (λz=>(aY.mk z.t.1 z.t.2.1)) (λx=>(((),()),(((),(),()),x.cG,x.aP,()))))
def m57(a0:aS)(a1:bT)(a2:aa Part):af E57:=
 if(0:Int)<=zR a2/\(zR a2:Int)<=(zR a2:Int)/\(zR a2:Int)<=(1073741824:Int)then if(0:Int)<=zR a2/\(zR a2:Int)<=(zR a2:Int)/\(zR a2:Int)<=(1073741824:Int)then match Vm (FR.mk a2 (zj (zR a2) (aB.mk [] (0))) (zj (zR a2) G) a2 (zR a2) 0 a0 a1 (aY.mk [] []) (aY.mk [] []))with|I=>I|V r6=>bif J (r6.t27<r6.t26)then if 0<=r6.t27/\r6.t27<zR r6.t25 then match M1 r6.b0 r6.b1 r6.t25[zD r6.t27]!.bP with|I=>I|V r7=>if 0<=r6.t27/\r6.t27<zR r6.t8 then if 47=47/\zD r6.t27<zR r6.t8 then if 0<=r6.t27/\r6.t27<zR r6.t9 then if 4=4/\zD r6.t27<zR r6.t9 then if 0<=r6.t27/\r6.t27<(↑(r6.t9.set r6.t27.toNat r7.snd).length:Int)then if 4=4/\zD r6.t27<zR (r6.t9.set r6.t27.toNat r7.snd) then bif(r6.t9.set r6.t27.toNat r7.snd)[zD r6.t27]! then if 0<=r6.t27/\r6.t27<(↑(r6.t8.set r6.t27.toNat r7.fst).length:Int)then if 47=47/\zD r6.t27<zR (r6.t8.set r6.t27.toNat r7.fst) then match HN r6.b3.cG (r6.t8.set r6.t27.toNat r7.fst)[zD r6.t27]! with|I=>I|V r8=>bif bif r8.snd then G else O then if 0<=r6.t27/\r6.t27<(↑(r6.t8.set r6.t27.toNat r7.fst).length:Int)then if 47=47/\zD r6.t27<zR (r6.t8.set r6.t27.toNat r7.fst) then match OU r8.fst r6.b3.cG [(r6.t8.set r6.t27.toNat r7.fst)[zD r6.t27]!]with|I=>I|V r9=>I else I else I else I else I else I else I else I else I else I else I else I else I else I else match Vo (H9.mk r6.t8 r6.t9 r6.t2 (zR r6.t2) 0 r6.b0 r6.b1 (aY.mk [] []) (aY.mk r6.b3.cG []))with|I=>I|V r10=>bif J (r10.t75<r10.t74)then if 0<=r10.t75/\r10.t75<zR r10.t73 then match ZL r10.b0 r10.b1 r10.t73[zD r10.t75]!.bP with|I=>I|V r11=>if 0<=r10.t75/\r10.t75<zR r10.t9 then if 4=4/\zD r10.t75<zR r10.t9 then bif r10.t9[zD r10.t75]! then if 0<=r10.t75/\r10.t75<zR r10.t8 then if 47=47/\zD r10.t75<zR r10.t8 then match HN r10.b3.cG r10.t8[zD r10.t75]! with|I=>I|V r12=>if(r10.b3.aP++[Cell.mk r10.t73[zD r10.t75]!.b8 r10.t73[zD r10.t75]!.iU r10.t73[zD r10.t75]!.ax [r12.fst] r11]).length<=1073741824 then I else I else I else I else if(r10.b3.aP++[Cell.mk r10.t73[zD r10.t75]!.b8 r10.t73[zD r10.t75]!.iU r10.t73[zD r10.t75]!.ax [] r11]).length<=1073741824 then I else I else I else I else I else V (r10.b3)else I else I
def e57:bq->bq:=eZ vi 57 (lc (qg 26) (lc (qg 29) (lc (ql 90) ln))) d57 (λg=>m57 g.1 g.2.1 g.t.1)
def avq:EO e57:=λh=>kZ (an:=(noTwo (noTwo (noTwo (noTwo (.two (noTwo (aey.lp Vm .no)) (.two (noTwo (ab3.lp Vo .no)) .no))))))) (l:=[(aZ f57 0,(aey.lp Vm .no)),(aZ f57 1,(ab3.lp Vo .no))]) func57 (amL (ZW awK (Xl (adm (ajt aV))))) (aA (aO aey) (aA (aO ab3) aH)) h
def acz{F:bq}{f:Nat}(hne:ze f 57=G)(h:bz F f):bz (e57 F) f:=l8 hne h
def Qf:Td 0 (LE aB aB):=dE 47 47 31
def ar4(p:(LE aB aB)):af (af (LE aB aB)):=nE m31 p
def aa1:=bI (ar4)
abbrev aBX:=Bool
def aHn:Td 0 aBX:=dEq
def at2(a0:aa aB)(a1:aa aB):af aBX:=mE m31 a0 a1
def aqj:=eL vi 71 O (lc (ql 47) (lc (ql 47) (lc (qf 31 ln) ln))) aHn (λg=>at2 g.1 g.2.1)
def ago:EO aqj:=λh=>kL (an:=(noTwo (noTwo (.two (noTwo (Qf.lp aa1 .no)) .no)))) (l:=[(aZ f71 0,(Qf.lp aa1 .no))]) func71 (ad4 aV) (aA (aO Qf) aH) h
def Ie:EP aqj:=λh=>kP h
def ay0:bq:=(e77 dw)
abbrev aAh:=Bool
def d121:Td 0 aAh:= .c [] [4] (.r 0 0 (ec 4 qb en) sn (λz=>z.1.1) (λx=>((x,()),(()))))
def aA8:∀f∈([77]:aa Nat),bz (ay0) f:=(aA (P7 bF) aH)
def akl(a0:Cell)(a1:Cell):af aAh:=
 match bif J (a0.b8=a1.b8)then bif J (a0.iU=a1.iU)then bif J (a0.cO=a1.cO)then match m77 a0.ax a1.ax with|I=>I|V r1=>bif r1 then match m77 a0.cG a1.cG with|I=>I|V r2=>V (r2)else V (G)else V (G)else V (G)else V (G)with|I=>I|V r3=>V (r3)
def avs:=eL vi 121 G (lc (qg 117) (lc (qg 117) ln)) d121 (λg=>akl g.1 g.2.1)
def Vp:EO avs:=λh=>kL (F:=ay0) (an:=(noTwo (.two (.rb [77] 4) .no))) (l:=[(.skip,(.rb [77] 4))]) func121 (aba aV) (aA aA8 aH) h
def HK:EP avs:=λh=>kP h
def JY:Td 0 (LE Cell Cell):=dE 117 117 121
def agD(p:(LE Cell Cell)):af (af (LE Cell Cell)):=nE akl p
def UN:=bI (agD)
abbrev apU:=Bool
def axx:Td 0 apU:=dEq
def aaN(a0:aa Cell)(a1:aa Cell):af apU:=mE akl a0 a1
def aea:=eL vi 120 O (lc (ql 117) (lc (ql 117) (lc (qf 121 ln) ln))) axx (λg=>aaN g.1 g.2.1)
def ac8:EO aea:=λh=>kL (an:=(noTwo (noTwo (.two (noTwo (JY.lp UN .no)) .no)))) (l:=[(aZ f120 0,(JY.lp UN .no))]) func120 (Vp aV) (aA (aO JY) aH) h
def Gb:EP aea:=λh=>kP h
def F56:bq:=(avs (aea (TG (aqj (e71 (e31 dw))))))
abbrev E56:=Bool
def d56:Td 0 E56:= .c [] [4] (.r 0 0 (ec 4 qb en) sn (λz=>z.1.1) (λx=>((x,()),(()))))
def aGm:∀f∈([71,120]:aa Nat),bz (F56) f:=(aA (HK (Gb (Ij (Ie (N3 (P3 bF)))))) (aA (HK (Gb (Ij (Ie (N3 (P3 bF)))))) aH))
def m56(a0:aY)(a1:aY):af E56:=
 match match at2 a0.cG a1.cG with|I=>I|V r1=>bif r1 then match aaN a0.aP a1.aP with|I=>I|V r2=>V (r2)else V (G)with|I=>I|V r3=>V (r3)
def e56:=eL vi 56 G (lc (qg 84) (lc (qg 84) ln)) d56 (λg=>m56 g.1 g.2.1)
def asf:EO e56:=λh=>kL (F:=F56) (an:=(noTwo (.two (.rb [71,120] 4) .no))) (l:=[(.skip,(.rb [71,120] 4))]) func56 (Vp (ac8 (Uv (ago (abj (ad4 aV)))))) (aA aGm aH) h
def aae:EP e56:=λh=>kP h
abbrev E63:=Bool
def d63:Td 0 E63:= .c [] [4] (.r 0 0 (ec 4 qb en) sn (λz=>z.1.1) (λx=>((x,()),(()))))
def m63(a0:aa aL)(a1:Part):af E63:=
 match m64 a0 a1.bP with|I=>I|V r1=>V (r1)
def e63:=eL vi 63 G (lc (ql 34) (lc (qg 90) ln)) d63 (λg=>m63 g.1 g.2.1)
abbrev E62:=Bool
def d62:Td 0 E62:=dEq
def m62(a0:aa (aa aL))(a1:aa Part):af E62:=mE m63 a0 a1
def e62:=eL vi 62 O (lc (ql 30) (lc (ql 90) (lc (qf 63 ln) ln))) d62 (λg=>m62 g.1 g.2.1)
structure Wn where
 t10:List (List aL)
 t26:List dI
 (t27 t28:Int)
def aDa(p:Wn):af (af Wn):=
 bif J (p.t28<p.t27)then if 0<=p.t28/\p.t28<zR p.t26 then if 174=174/\zD p.t28<zR p.t26 then match Qu p.t26[zD p.t28]!.bP with|I=>I|V r1=>if(p.t10++[r1]).length<=1073741824 then V (V (Wn.mk (p.t10++[r1]) p.t26 p.t27 (aj (p.t28+1))))else I else I else I else V (I)
def aDj:=bI (aDa)
abbrev E61:=(aa (aa aL))×Int
def d61:Td 0 E61:= .c [] [6,7] (.t (bX.s 6 [] 30) (.c [] [6,7] (.r 0 1 (ec 6 (qo 0) (ec 7 aN en)) (sr 0 30 sn) (λz=>(z.2.1,z.1.2.1)) (λx=>(((),x.2,()),(x.1,()))))))
def m61(a0:aS)(a1:bT)(a2:aY):af E61:=
 match CG a0 a1 a2 with|I=>I|V r2=>bif bif J (r2.snd=0)then G else O then V ([],r2.snd)else match aDj (Wn.mk [] r2.fst.aP (zR r2.fst.aP) 0)with|I=>I|V r3=>bif J (r3.t28<r3.t27)then if 0<=r3.t28/\r3.t28<zR r3.t26 then if 174=174/\zD r3.t28<zR r3.t26 then match Qu r3.t26[zD r3.t28]!.bP with|I=>I|V r4=>if(r3.t10++[r4]).length<=1073741824 then I else I else I else I else V (r3.t10,0)
def e61:bq->bq:=eZ vi 61 (lc (qg 26) (lc (qg 29) (lc (qg 84) ln))) d61 (λg=>m61 g.1 g.2.1 g.t.1)
def F12:bq:=(e63 (e62 (e61 (e57 (e56 (e47 (e46 (e45 dw))))))))
abbrev E12:=Bool
def d12:Td 0 E12:= .c [] [6] (.r 0 0 (ec 6 qb en) sn (λz=>z.1.1) (λx=>((x,()),(()))))
def A12:=(lc (qg 26) (lc (qg 29) (lc (ql 5) ln)))
def aGM:An:=(noTwo (noTwo (.two (.two (.rb [46,62] 22) .no) (noTwo (noTwo (noTwo (.two (.rb [46,62] 6) .no)))))))
def m12(a0:aS)(a1:bT)(a2:aa Int):af E12:=
 bif bif m45 then G else O then V G else match match m46 a0 a1 with|I=>I|V r1=>bif bif r1 then G else O then V O else V (J (20<(zR a2:Int)))with|I=>I|V r2=>bif r2 then V O else match m47 a0 a1 a2 with|I=>I|V r3=>bif bif r3.snd.snd then G else O then V G else match m57 a0 a1 r3.fst with|I=>I|V r4=>match m56 r3.snd.fst r4 with|I=>I|V r5=>bif bif r5 then G else O then V G else match m61 a0 a1 r3.snd.fst with|I=>I|V r6=>match bif J (r6.snd=0)then match m62 r6.fst r3.fst with|I=>I|V r7=>V (r7)else V G with|I=>I|V r8=>V (r8)
def c12(a0:aS)(a1:bT)(a2:aa Int):bV vi (F12) 300 (aGM) 12 (A12.c (a0,a1,a2,())) [] 0 d12.rd=m12 a0 a1 a2:=aW
def BH:∀(k:Nat) (a b:aa Int),k<=zR a->k<=zR b->(∀j,j<k->a[j]! =b[j]!)->iw a b=iw (a.drop k) (b.drop k)
 |0,_,_,_,_,_=>rfl
 |k+1,[],_,h,_,_=>by simp at h
 |k+1,_::_,[],_,h,_=>by simp at h
 |k+1,x::a,y::b,h1,h2,h=>by
  have h0:=h 0 aq;subst h0;rw[List.drop_succ_cons,List.drop_succ_cons,<-BH k a b (by simpa using h1) (by simpa using h2) λj hj=>by simpa using h (j+1) aq];simp[iw]
def ah8(x y:Int):Mv x y=if x<y then-1 else if y<x then 1 else 0:=by
 unfold Mv Zb;by_cases h:x<y
 ·simp[h]
 ·by_cases k:y<x<;>simp[h]
def agZ(a b:aB)(ha:zR a.aK<=1000):Zp a b=V (dN a b):=by
 obtain⟨i,-,e,hI,h⟩:=me (rnd:=AM) (min (zR a.aK) (zR b.aK)) (λi (_:Unit)=>⟨(i:Int),a,b⟩) (λi _=>∀j,j<i->a.aK[j]! =b.aK[j]!) (λi _=>i<min (zR a.aK) b.aK.length/\a.aK[i]!≠b.aK[i]!) (λi _ hi hI=>by
  have hw:=wI (i:=i) (n:=1000) aq aq;have i1:(i:Int)<(zR a.aK:Int):=aq;have i2:(i:Int)<(zR b.aK:Int):=aq;have i3:(0:Int)<=(i:Int):=aq;by_cases h:a.aK[i]! =b.aK[i]!
  ·refine .inl ⟨(),?_,λj hj=> ?_⟩
   ·unfold AM;simp only[cZ,cU,i1,i2,i3,h,dS,hw]
   ·by_cases e:j=i
    ·rw[e];exact h
    ·exact hI j aq
  ·refine .inr ⟨?_,hi,h⟩;unfold AM;simp only[cZ,cU,i1,i2,i3,h,dS]) (λ_ _=>by
   unfold AM;by_cases h:zR a.aK<=zR b.aK
   ·rw[Nat.min_eq_left h];simp
   ·rw[Nat.min_eq_right aq];have:(zR b.aK:Int)<(zR a.aK:Int):=aq;simp) (b:=()) λj hj=>aq
 have e':KI ⟨0,a,b⟩=V ⟨(i:Int),a,b⟩:=e;unfold Zp;simp only[e',ah8];rcases h with hn|⟨hi,hd⟩
 ·have hd:=BH i a.aK b.aK aq aq hI;unfold dN;rw[hd];by_cases h1:(i:Int)<(zR a.aK:Int)
  ·have h2:¬(i:Int)<(zR b.aK:Int):=aq;rw[yN (l:=a.aK) aq,show ya i b.aK=[]from List.drop_eq_nil_of_le aq];have h3:¬(zR a.aK:Int)=(zR b.aK:Int):=aq;have h4:¬(zR a.aK:Int)<(zR b.aK:Int):=aq;have h5:(zR b.aK:Int)<(zR a.aK:Int):=aq;simp only[cZ,cU,fU,h1,h2,h3,h4,h5,iw,ne_eq,Int.one_ne_zero,not_false_eq_true]
  ·rw[show ya i a.aK=[]from List.drop_eq_nil_of_le aq];by_cases h2:zR b.aK=i
   ·rw[show ya i b.aK=[]from List.drop_eq_nil_of_le aq];have h3:(zR a.aK:Int)=(zR b.aK:Int):=aq;rw[h3]at h1;simp only[cZ,cU,h3,h1,iw,ne_eq,not_true,GQ]
   ·rw[yN (l:=b.aK) aq];have h3:¬(zR a.aK:Int)=(zR b.aK:Int):=aq;have h4:(zR a.aK:Int)<(zR b.aK:Int):=aq;simp only[h1,h3,h4];rfl
 ·have hd':=BH i a.aK b.aK aq aq hI;have h1:(i:Int)<(zR a.aK:Int):=aq;have h2:(i:Int)<(zR b.aK:Int):=aq;rw[yN (l:=a.aK) aq,yN (l:=b.aK) aq,<-getElem!_pos a.aK i aq,<-getElem!_pos b.aK i aq]at hd';unfold dN;rw[hd'];simp only[zg,h1,h2,hd,iw];by_cases h4:a.aK[i]! <b.aK[i]!
  ·simp only[h4];rfl
  ·have h5:b.aK[i]! <a.aK[i]! :=aq;simp only[h4,h5];rfl
def Mw(l:aa aB):Prop:=l.Pairwise λx y=>dN x y<0
def I8{a b c:aB}(h:dN a b<0)(k:dN b c<=0):dN a c<0:=by
 have h1:=mO a b c aq k;by_cases e:dN a c=0
 ·have:=rR e;subst this;have:=dQ a b;omega
 ·omega
def DH:∀{a b:aa aB},Mw a->Mw b->(∀x,x∈a↔x∈b)->a=b
 |[],[],_,_,_=>rfl
 |[],y::b,_,_,h=>by have:=(h y).2 (zk ..);cases this
 |x::a,[],_,_,h=>by have:=(h x).1 (zk ..);cases this
 |x::a,y::b,ha,hb,h=>by
  obtain⟨a1,a2⟩:=x8.1 ha;obtain⟨b1,b2⟩:=x8.1 hb;have hxy:x=y:=by
   rcases zy.1 ((h x).1 (zk ..))with e|e
   ·exact e
   ·rcases zy.1 ((h y).2 (zk ..))with e2|e2
    ·simp_all
    ·have q1:=b1 x e;have q2:=a1 y e2;have:=dQ x y;omega
  subst hxy;rw[DH a2 b2 λz=>⟨λhz=> ?_,λhz=> ?_⟩]
  ·rcases zy.1 ((h z).1 (zI _ hz))with e|e
   ·subst e;have:=a1 z hz;rw[rU]at this;omega
   ·exact e
  ·rcases zy.1 ((h z).2 (zI _ hz))with e|e
   ·subst e;have:=b1 z hz;rw[rU]at this;omega
   ·exact e
def M6:∀{l:aa aB} {p:aB},(∀x∈l,dN p x<=0)->Gl l->(∀x∈pH p l,dN p x<0)/\Mw (pH p l)/\∀x,x∈p::pH p l↔x∈p::l
 |[],p,_,_=>⟨λx hx=>by simp[pH]at hx,List.Pairwise.nil,λx=>by simp[pH]⟩
 |y::l,p,hp,hs=>by
  obtain⟨s1,s2⟩:=x8.1 hs;obtain⟨i1,i2,i3⟩:=M6 (l:=l) (p:=y) s1 s2;unfold pH;have hpy:=hp y (zk ..);have hn:=dQ p y;split
  ·rename_i e;have e2:=rR e;subst e2;refine⟨i1,i2,λx=>(i3 x).trans ?_⟩;simp
  ·have hlt:dN p y<0:=aq;refine⟨λx hx=> ?_,x8.2 ⟨i1,i2⟩,λx=> ?_⟩
   ·rcases zy.1 hx with rfl|hx
    ·omega
    ·exact I8 hlt (by have:=i1 x hx;omega)
   ·rw[zy,i3 x,zy (b:=p)]
def aeS{l:aa aB}(hs:Gl l):Mw (vM l)/\∀x,x∈vM l↔x∈l:=by
 cases l with
 |nil=>exact⟨List.Pairwise.nil,λx=>Iff.rfl⟩
 |cons p l=>
  obtain⟨s1,s2⟩:=x8.1 hs;obtain⟨i1,i2,i3⟩:=M6 (l:=l) (p:=p) s1 s2;exact⟨x8.2 ⟨i1,i2⟩,i3⟩
def Po(c:aa dI):Mw (jy c)/\∀x,x∈jy c↔x∈nc c:=by
 obtain⟨h1,h2⟩:=aeS (N6 (nc c));exact⟨h1,λx=>(h2 x).trans (si _).mem_iff⟩
def HO:∀{l:aa aB},Mw l->∀o,l.take (kN l o)=l.filter (λx=>J (dN x o<0))/\l.drop (kN l o)=l.filter (λx=> !J (dN x o<0))
 |[],_,o=>⟨rfl,rfl⟩
 |x::l,h,o=>by
  obtain⟨h1,h2⟩:=x8.1 h;obtain⟨i1,i2⟩:=HO h2 o;unfold kN at i1 i2 ⊢;by_cases e:dN x o<0
  ·simp_all
  ·have hno:∀y∈l,¬dN y o<0:=λy hy hc=>e (by
    have q:=h1 y hy;exact I8 q aq)
   have f1:l.filter (λy=>J (dN y o<0))=[]:=wR.2 λy hy=>by simpa using hno y hy
   have f2:l.filter (λy=> !J (dN y o<0))=l:=wS.2 λy hy=>by simpa using hno y hy
   rw[vf (by simpa using e),f1,ve (by simpa using e),f2];simp
def ag3{l:aa aB}(hs:Mw l){o:aB}(hn:GY l o=G):Mw (l.take (kN l o)++[o]++l.drop (kN l o))/\∀x,x∈l.take (kN l o)++[o]++l.drop (kN l o)↔x=o\/x∈l:=by
 obtain⟨e1,e2⟩:=HO hs o;have hne:∀y∈l,dN y o≠0:=λy hy he=>by
  unfold GY at hn;simp_all
 have m1:∀y∈l.take (kN l o),dN y o<0:=λy hy=>by
  simp_all
 have m2:∀y∈l.drop (kN l o),dN o y<0:=λy hy=>by
  have:=hne y (xC hy);rw[e2]at hy;have q:¬dN y o<0:=by simpa using (z8.1 hy).2
  have:=dQ y o;omega
 have hl:∀x,x∈l↔x∈l.take (kN l o)\/x∈l.drop (kN l o):=λx=>by
  conv=>lhs;rw[<-xe (kN l o) l]
  exact zP
 constructor
 ·refine List.pairwise_append.2 ⟨List.pairwise_append.2 ⟨List.Pairwise.sublist (List.take_sublist ..) hs,List.pairwise_singleton ..,λa ha b hb=>by rw[zo.1 hb];exact m1 a ha⟩,List.Pairwise.sublist (List.drop_sublist ..) hs,λa ha b hb=> ?_⟩;rcases zP.1 ha with ha|ha
  ·have:=m2 b hb;exact I8 (m1 a ha) aq
  ·rw[zo.1 ha];exact m2 b hb
 ·intro x;rw[hl,zP,zP,zo];constructor
  ·rintro((h|h)|h)
   ·exact .inr (.inl h)
   ·exact .inl h
   ·exact .inr (.inr h)
  ·rintro(h|h|h)
   ·exact .inl (.inr h)
   ·exact .inl (.inl h)
   ·exact .inr h
def afA{l:aa aB}{o:aB}(h:GY l o=O):o∈l:=by
 obtain⟨x,h1,h2⟩:=wo.1 h;rw[<-rR (of_decide_eq_true h2)];exact h1
def YG{c:aa dI}{i:Nat}(h:i<zR c):jy (c.take (i+1))=if c[i]!.dW=O then if GY (jy (c.take i)) c[i]!.cG=O then jy (c.take i)else(jy (c.take i)).take (kN (jy (c.take i)) c[i]!.cG)++[c[i]!.cG]++(jy (c.take i)).drop (kN (jy (c.take i)) c[i]!.cG)else jy (c.take i):=by
 obtain⟨a1,a2⟩:=Po (c.take (i+1));obtain⟨b1,b2⟩:=Po (c.take i);have hs:=IE h;by_cases h1:c[i]!.dW=O
 ·rw[bJ h1]at hs ⊢;split
  ·rename_i h2;refine DH a1 b1 λx=> ?_;rw[a2,b2,hs,zP,zo];exact⟨λq=>q.elim id λq=>q▸(b2 _).1 (afA h2), .inl⟩
  ·rename_i h2;obtain⟨s1,s2⟩:=ag3 b1 (Bool.eq_false_iff.2 h2);refine DH a1 s1 λx=> ?_;rw[s2,a2,b2,hs,zP,zo,or_comm]
 ·rw[bN h1]at hs ⊢;refine DH a1 b1 λx=> ?_;simp_all
def Oj{l:aa aB}(hs:Gl l)(hl:zR l<=1000000)(o:aB)(ho:∀x∈l,zR x.aK<=1000):HN l o=V ((kN l o:Int),GY l o):=apZ hs hl o λx hx=>agZ x o (ho x hx)
section
variable {f:aS} {v:bT}
def ig.M1{b:aa aL}(h:ig f b)(c:Cx f v):M1 f v b=V (AK f v b,Ms f v b)/\ZL f v b=V (bdX f v b):=by
 have ha:=h.ask c;have hfit:=sg ha;have hbl:zR b<=1000000:=by have:=oL c;rw[h.len];omega
 have e23:=aB4 c.hN c.hh c.hl hfit;have e37:=aCj e23 (AD hfit);have e38:=az5 e23 (AD hfit) hfit.nn hbl hfit.vol.2;unfold YtnfljbehcffmcaaGreat.M1 YtnfljbehcffmcaaGreat.ZL;rw[e37,e38];unfold AK Ms bdX;cases sgB (fD f v b)<;>exact⟨rfl,rfl⟩
def adY(c:Cx f v){l:aa Part}(h:WF f l)(hl:zR l<=8192):m57 f v l=V (fH (l.map (cellOf f v))):=by
 obtain⟨C,hC⟩:∃C,C=l.map (cellOf f v):=⟨_,rfl⟩;have hz:=n9 c h aq;have hCl:zR C=zR l:=by rw[hC,zu]
 have hCg:∀i,i<zR l->C[i]! =cellOf f v l[i]! :=λi hi=>by rw[hC];exact dV _ _ _ hi
 rw[<-hC]at hz ⊢;have lo:∀i x,x∈jy (C.take i)->zR x.aK<=1000:=λi x hx=>by
  obtain⟨y,q1,_,rfl⟩:=OJ hx;obtain⟨j,hj,rfl⟩:=y5 (wH q1);rw[<-getElem!_pos C j hj];exact hz.obs j hj
 have ll:∀i,zR (jy (C.take i))<=zR l:=λi=>by
  have h1:=vU (C.take i);have h2:zR (C.take i)<=zR C:=by rw[zA];omega
  omega
 obtain⟨b1,e1,hb1⟩:=cH (rnd:=WO) (zR l) (λi (b:aa aB×aa Bool×aa aB)=>⟨l,b.1,b.2.1,l,(zR l:Int),(i:Int),f,v,⟨[],[]⟩,⟨b.2.2,[]⟩⟩) (λi b=>zR b.1=zR l/\zR b.2.1=zR l/\(∀j,j<i->b.1[j]! =AK f v l[j]!.bP/\b.2.1[j]! =Ms f v l[j]!.bP)/\b.2.2=jy (C.take i)) (λi b hi hI=>by
  obtain⟨ac,ad,T⟩:=b;obtain⟨q1,q2,q3,q4⟩:=hI;dsimp only at q1 q2 q3 q4 ⊢;obtain⟨i1,i2,hw⟩:=w3 hi aq;have QZ:=((h.box i hi).M1 c).1;have eS:(ac.set i (AK f v l[i]!.bP))[i]! =AK f v l[i]!.bP:=by rw[iR _ _ _ _ aq,bJ rfl]
  have eB:(ad.set i (Ms f v l[i]!.bP))[i]! =Ms f v l[i]!.bP:=by rw[iR _ _ _ _ aq,bJ rfl]
  have s1:zR (ac.set i (AK f v l[i]!.bP))=zR l:=by rw[yu,q1]
  have s2:zR (ad.set i (Ms f v l[i]!.bP))=zR l:=by rw[yu,q2]
  have Nk:=Oj (l:=T) (by rw[q4];exact DR _) (by rw[q4];have:=ll i;omega) (AK f v l[i]!.bP) (λx hx=>lo i x (q4▸hx));have hTl:zR T<=1000000000:=by rw[q4];have:=ll i;omega
  have hT:=YG (c:=C) (i:=i) aq;rw[hCg i hi,<-q4]at hT;have k0:(0:Int)<=(kN T (AK f v l[i]!.bP):Int):=aq;have k1:(kN T (AK f v l[i]!.bP):Int)<=(zR T:Int):=by
   have:kN T (AK f v l[i]!.bP)<=zR T:=yt _ _;omega
  have asg:OU (kN T (AK f v l[i]!.bP):Int) T [AK f v l[i]!.bP]=V (T.take (kN T (AK f v l[i]!.bP))++[AK f v l[i]!.bP]++T.drop (kN T (AK f v l[i]!.bP))):=by
   unfold OU;rw[bJ ⟨k0,k1,hTl,rfl⟩,zg]
  refine⟨(ac.set i (AK f v l[i]!.bP),ad.set i (Ms f v l[i]!.bP),jy (C.take (i+1))),?_,s1,s2,λj hj=> ?_,rfl⟩
  ·rw[hT];unfold WO;cases hs:Ms f v l[i]!.bP with
   |true=>
    rw[hs]at QZ eB s2;cases hh:GY T (AK f v l[i]!.bP)with
    |true=>
     simp only[cZ,cU,i1,i2,hi,dS,QZ,q1,q2,s1,s2,eB,eS,Nk,hw,cellOf,hs,hh]
    |false=>
     simp only[cZ,cU,fU,i1,i2,hi,QZ,q1,q2,s1,s2,eB,eS,Nk,hw,cellOf,hs,hh,asg,yx]
   |false=>
    rw[hs]at QZ eB s2;simp only[cZ,cU,fU,i1,i2,hi,QZ,q1,q2,s1,s2,eB,hw,cellOf,hs,yx]
  ·dsimp only;rw[iR _ _ _ _ aq,iR _ _ _ _ aq];by_cases e:i=j
   ·rw[bJ e,bJ e,e];exact⟨rfl,rfl⟩
   ·rw[bN e,bN e];exact q3 j aq) (λb _=>by unfold WO;simp) (b:=(zj (zR l) ⟨[],0⟩,zj (zR l) G,[])) ⟨by simp,by simp,λj hj=>aq,by simp[jy,nc,F1,vM]⟩
 obtain⟨ac,ad,T⟩:=b1;obtain⟨q1,q2,q3,q4⟩:=hb1;dsimp only at q1 q2 q3 q4 e1;have hCt:C.take l.length=C:=by rw[<-hCl,zH]
 obtain⟨b2,e2,hb2⟩:=cH (rnd:=U6) (zR l) (λi (D:aa Cell)=>⟨ac,ad,l,(zR l:Int),(i:Int),f,v,⟨[],[]⟩,⟨T,D⟩⟩) (λi D=>D=(C.take i).map (gd T)) (λi D hi hD=>by
  obtain⟨i1,i2,hw⟩:=w3 hi aq;have alG:=((h.box i hi).M1 c).2;obtain⟨qS,qB⟩:=q3 i hi;have Nk:=Oj (l:=T) (by rw[q4];exact DR _) (by rw[q4];have:=ll (zR l);omega) (AK f v l[i]!.bP) (λx hx=>lo (zR l) x (q4▸hx));have hl2:∀x:Cell,zR (D++[x])<=1073741824:=λx=>by rw[hD,zh,zu,zA,yh];omega
  refine⟨D++[gd T C[i]!],?_,by rw[hD,bG aq,zM];rfl⟩;rw[hCg i hi];unfold U6;cases hs:Ms f v l[i]!.bP with
  |true=>
   simp only[cZ,i1,i2,hi,cI,dS,alG,q1,q2,qB,qS,Nk,hl2,hw,gd,cellOf,hs]
  |false=>
   simp only[cZ,cU,fU,i1,i2,hi,alG,q1,q2,qB,hl2,hw,gd,cellOf,hs,yx]) (λb _=>by unfold U6;simp) (b:=[]) (by simp)
 rw[hCt]at hb2 q4;have e1':Vm ⟨l,zj (zR l) ⟨[],0⟩,zj (zR l) G,l,(zR l:Int),0,f,v,⟨[],[]⟩,⟨[],[]⟩⟩=V ⟨l,ac,ad,l,(zR l:Int),(zR l:Int),f,v,⟨[],[]⟩,⟨T,[]⟩⟩:=e1;have e2':Vo ⟨ac,ad,l,(zR l:Int),0,f,v,⟨[],[]⟩,⟨T,[]⟩⟩=V ⟨ac,ad,l,(zR l:Int),(zR l:Int),f,v,⟨[],[]⟩,⟨T,b2⟩⟩:=e2;have j1:(0:Int)<=(zR l:Int):=aq;have j2:(zR l:Int)<=1073741824:=aq;unfold m57;simp only[cZ,j1,j2,zw,dS,e1',e2',yg,cv,fH,<-q4,hb2]
def Xx(l:aa aB)(hl:zR l<=1000000)(h:∀x∈l,zR x.aK<=1000):at2 l l=V O:=Dv hl rfl λi hi=>abO _ (h _ (bu hi))
def QD(l:aa Cell)(hl:zR l<=1000000)(h:∀i,i<zR l->zR l[i]!.ax<=1000/\zR l[i]!.cG<=1000):aaN l l=V O:=Dv hl rfl λi hi=>by
 unfold akl;simp only[uU,cI,vX _ (h i hi).1,vX _ (h i hi).2]
def ab6(c:Cx f v){l:aa Part}(h:WF f l)(hl:zR l<=8192):m56 (fH (l.map (cellOf f v))) (fH (l.map (cellOf f v)))=V O:=by
 have hz:=n9 c h aq;have e71:=Xx (jy (l.map (cellOf f v))) (by have:=vU (l.map (cellOf f v));have:=hz.len;omega) (λx hx=>hz.mem hx);have TG:=QD ((l.map (cellOf f v)).map (gd (jy (l.map (cellOf f v))))) (by rw[zu];have:=hz.len;omega) (λi hi=>by
  rw[zu]at hi;rw[dV _ _ _ hi];have:=hz.kid i hi;refine⟨this,?_⟩;show zR (if _ then _ else _:aa Int)<=_;split
  ·simp
  ·exact yV _)
 unfold m56;simp only[fH,e71,TG,cI]
end
structure o8 where
 t3:Int
 t9:List dI
 (t10 t11:Int)
 b0:Tree
def R9:Td 2 o8:= .c [] [0,3,9,10,11] (.r 2 2 (ec 0 (qp 0 0) (ec 3 aN (ec 9 (qo 1) (ec 10 aN (ec 11 aN en))))) (sb 0 172 (lc (ql 131) (lc (ql 139) (lc (ql 166) (lc (ql 3) (lc qb (lc (qo 1) ln)))))) (sr 1 174 sn)) (λz=>⟨z.1.2.1,z.t.1,z.1.t.2.1,z.1.q.1,(Tree.mk (aS.mk z.2.1.1 z.2.1.2.1 z.2.1.t.1) (bT.mk z.2.1.t.2.1 z.2.1.q.1) z.t.1)⟩) (λx=>(((),x.t3,(),x.t10,x.t11,()),((x.b0.fF.ai,x.b0.fF.au,x.b0.fF.bK,x.b0.fV.bf,x.b0.fV.fm,(),()),x.b0.aP,()))))
def Lh(p:o8):af (af o8):=
 bif J (p.t11<p.t10)then if 0<=p.t11/\p.t11<zR p.b0.aP then if 174=174/\zD p.t11<zR p.b0.aP then bif J ((↑p.b0.aP[zD p.t11]!.ax.length:Int)=0)then bif J (1<p.b0.aP[zD p.t11]!.cO)then bif J (p.t3<0)then V (V (o8.mk p.t11 p.b0.aP p.t10 (aj (p.t11+1)) p.b0))else if 0<=p.t3/\p.t3<zR p.b0.aP then if 174=174/\zD p.t3<zR p.b0.aP then bif J (p.b0.aP[zD p.t3]!.cO<p.b0.aP[zD p.t11]!.cO)then V (V (o8.mk p.t11 p.b0.aP p.t10 (aj (p.t11+1)) p.b0))else V (V (o8.mk p.t3 p.b0.aP p.t10 (aj (p.t11+1)) p.b0))else I else I else V (V (o8.mk p.t3 p.b0.aP p.t10 (aj (p.t11+1)) p.b0))else V (V (o8.mk p.t3 p.b0.aP p.t10 (aj (p.t11+1)) p.b0))else I else I else V (I)
def Kx:=bI (Lh)
abbrev awF:=Int×Tree
def d128:Td 2 awF:= .c [] [2] (.r 2 2 (ec 2 aN en) (sb 0 172 (lc (ql 131) (lc (ql 139) (lc (ql 166) (lc (ql 3) (lc qb (lc (qo 1) ln)))))) (sr 1 174 sn)) (λz=>(z.1.1,(Tree.mk (aS.mk z.2.1.1 z.2.1.2.1 z.2.1.t.1) (bT.mk z.2.1.t.2.1 z.2.1.q.1) z.t.1))) (λx=>((x.1,()),((x.2.fF.ai,x.2.fF.au,x.2.fF.bK,x.2.fV.bf,x.2.fV.fm,(),()),x.2.aP,()))))
def aF6:=(sb 0 172 (lc (ql 131) (lc (ql 139) (lc (ql 166) (lc (ql 3) (lc qb (lc (qo 1) ln)))))) (sr 1 174 sn))
def Zx(b0:Tree):af awF:=
 match Kx (o8.mk (-1) b0.aP (zR b0.aP) 0 b0)with|I=>I|V r1=>bif J (r1.t11<r1.t10)then if 0<=r1.t11/\r1.t11<zR r1.b0.aP then if 174=174/\zD r1.t11<zR r1.b0.aP then bif J ((↑r1.b0.aP[zD r1.t11]!.ax.length:Int)=0)then bif J (1<r1.b0.aP[zD r1.t11]!.cO)then bif J (r1.t3<0)then I else if 0<=r1.t3/\r1.t3<zR r1.b0.aP then if 174=174/\zD r1.t3<zR r1.b0.aP then bif J (r1.b0.aP[zD r1.t3]!.cO<r1.b0.aP[zD r1.t11]!.cO)then I else I else I else I else I else I else I else I else V (r1.t3,r1.b0)
def YP:bq->bq:=eY vi 128 2 (lc (qp 0 0) ln) aF6 d128 (λg=>Zx ((Tree.mk (aS.mk g.2.1.1 g.2.1.2.1 g.2.1.t.1) (bT.mk g.2.1.t.2.1 g.2.1.q.1) g.t.1)))
def alx:EO YP:=λh=>kY (an:=(noTwo (noTwo (.two (noTwo (R9.lp Kx .no)) .no)))) (l:=[(aZ f128 0,(R9.lp Kx .no))]) func128 aV (aA (aO R9) aH) h
structure vz where
 t3:Int
 t7:List Cell
 (t8 t9:Int)
 b0:aY
def ZH:Td 0 vz:= .c [] [1,3,7,8,9] (.r 0 1 (ec 1 (qp 0 0) (ec 3 aN (ec 7 (ql 117) (ec 8 aN (ec 9 aN en))))) (sb 0 84 (lg 84) sn) (λz=>⟨z.1.2.1,z.1.t.1,z.1.t.2.1,z.1.q.1,z.2.1⟩) (λx=>(((),x.t3,x.t7,x.t8,x.t9,()),(x.b0,()))))
def Wk(p:vz):af (af vz):=
 bif J (p.t9<p.t8)then if 0<=p.t9/\p.t9<zR p.t7 then bif J ((↑p.t7[zD p.t9]!.ax.length:Int)=0)then bif J (1<p.t7[zD p.t9]!.cO)then bif J (p.t3<0)then V (V (vz.mk p.t9 p.t7 p.t8 (aj (p.t9+1)) p.b0))else if 0<=p.t3/\p.t3<zR p.b0.aP then bif J (p.b0.aP[zD p.t3]!.cO<p.t7[zD p.t9]!.cO)then V (V (vz.mk p.t9 p.t7 p.t8 (aj (p.t9+1)) p.b0))else V (V (vz.mk p.t3 p.t7 p.t8 (aj (p.t9+1)) p.b0))else I else V (V (vz.mk p.t3 p.t7 p.t8 (aj (p.t9+1)) p.b0))else V (V (vz.mk p.t3 p.t7 p.t8 (aj (p.t9+1)) p.b0))else I else V (I)
def V7:=bI (Wk)
abbrev E66:=Int
def d66:Td 0 E66:= .c [] [2] (.r 0 0 (ec 2 aN en) sn (λz=>z.1.1) (λx=>((x,()),(()))))
def m66(a0:aY):af E66:=
 match V7 (vz.mk (-1) a0.aP (zR a0.aP) 0 a0)with|I=>I|V r1=>bif J (r1.t9<r1.t8)then if 0<=r1.t9/\r1.t9<zR r1.t7 then bif J ((↑r1.t7[zD r1.t9]!.ax.length:Int)=0)then bif J (1<r1.t7[zD r1.t9]!.cO)then bif J (r1.t3<0)then I else if 0<=r1.t3/\r1.t3<zR r1.b0.aP then bif J (r1.b0.aP[zD r1.t3]!.cO<r1.t7[zD r1.t9]!.cO)then I else I else I else I else I else I else V (r1.t3)
def e66:=eL vi 66 G (lc (qg 84) ln) d66 (λg=>m66 g.1)
def arM:EO e66:=λh=>kL (an:=(noTwo (noTwo (.two (noTwo (ZH.lp V7 .no)) .no)))) (l:=[(aZ f66 0,(ZH.lp V7 .no))]) func66 aV (aA (aO ZH) aH) h
def abH:EP e66:=λh=>kP h
def F65:bq:=(YP (Ek (ap0 (aoS dw))))
structure Nw where
 (t34 t35:Int)
 b0:aY
 b1:Tree
def acn:Td 0 Nw:= .c [] [8,10,34,35] (.r 0 3 (ec 8 (qp 0 0) (ec 10 (qp 1 0) (ec 34 aN (ec 35 aN en)))) (sb 0 84 (lc qn (lc qn ln)) (sb 1 172 (lc (ql 131) (lc (ql 139) (lc (ql 166) (lc (ql 3) (lc qb (lc (qo 2) ln)))))) (sr 2 174 sn))) (λz=>⟨z.1.t.1,z.1.t.2.1,(aY.mk [] []),(Tree.mk (aS.mk z.t.1.1 z.t.1.2.1 z.t.1.t.1) (bT.mk z.t.1.t.2.1 z.t.1.q.1) z.t.2.1)⟩) (λx=>(((),(),x.t34,x.t35,()),(((),(),()),(x.b1.fF.ai,x.b1.fF.au,x.b1.fF.bK,x.b1.fV.bf,x.b1.fV.fm,(),()),x.b1.aP,()))))
def PU(p:Nw):af (af Nw):=
 bif J (p.t35<p.t34)then match Zx p.b1 with|I=>I|V r1=>bif J (r1.fst<0)then V (I)else match IF r1.fst r1.snd with|I=>I|V r2=>bif bif J (r2.fst=0)then G else O then V (I)else V (V (Nw.mk p.t34 (aj (p.t35+1)) (aY.mk [] []) r2.snd))else V (I)
def W6:=bI (PU)
abbrev E65:=aY×Int
def d65:Td 0 E65:= .c [] [8,9] (.t (bX.c 0 0 [] 47) (.t (bX.c 0 1 [] 117) (.c [] [8,9] (.r 0 3 (ec 8 (qp 0 0) (ec 9 aN en)) (sb 0 84 (lc (qo 1) (lc (qo 2) ln)) (sr 1 47 (sr 2 117 sn))) (λz=>((aY.mk z.t.1 z.t.2.1),z.1.2.1)) (λx=>(((),x.2,()),(((),(),()),x.1.cG,x.1.aP,())))))))
def aFD:∀f∈([]:aa Nat),bz (F65) f:=aH
def m65(a0:aS)(a1:bT)(a2:aY)(a3:Int):af E65:=
 match CG a0 a1 a2 with|I=>I|V r3=>bif bif J (r3.snd=0)then G else O then V ((aY.mk [] [],r3.snd))else match bif J (a3<0)then V (O)else V (J (8192<a3))with|I=>I|V r4=>bif r4 then V ((aY.mk [] [],3))else match W6 (Nw.mk a3 (0) (aY.mk [] []) r3.fst)with|I=>I|V r5=>bif J (r5.t35<r5.t34)then match Zx r5.b1 with|I=>I|V r6=>bif J (r6.fst<0)then match MT r6.snd with|I=>I|V r7=>V ((r7.fst,0))else match IF r6.fst r6.snd with|I=>I|V r8=>bif bif J (r8.fst=0)then G else O then V ((aY.mk [] [],r8.fst))else I else match MT r5.b1 with|I=>I|V r9=>V ((r9.fst,0))
def e65:bq->bq:=eZ vi 65 (lc (qg 26) (lc (qg 29) (lc (qg 84) (aU ln)))) d65 (λg=>m65 g.1 g.2.1 g.t.1 g.t.2.1)
def ate:EO e65:=λh=>kZ (F:=F65) (an:=(noTwo (noTwo (.two (noTwo (noTwo (.two (.rb [] 26) .no))) (.two (noTwo (acn.lp W6 .no)) .no))))) (l:=[(.skip,(.rb [] 26)),(aZ f65 0,(acn.lp W6 .no))]) func65 (alx (Jq (acC (aai aV)))) (aA aFD (aA (aO acn) aH)) h
def ac6{F:bq}{f:Nat}(hne:ze f 65=G)(h:bz F f):bz (e65 F) f:=l8 hne h
def F13:bq:=(e66 (e65 (e58 (e57 (e56 (e54 (e49 (e46 (e45 dw)))))))))
def avC:bA vi F13:=(arM (ate (avI (avq (asf (aua (ari (arw (ahR aG4 aV)))))))))
structure Hr where
 t8:Int
 t10:List Part
 (t58 t59:Int)
 b0:aS
 b1:bT
 b2:aY
def acW:Td 0 Hr:= .c [] [3,4,8,9,10,58,59] (.t (bX.fs 10 []) (.c [] [3,4,8,9,10,58,59] (.r 0 5 (ec 3 (qp 0 0) (ec 4 (qp 1 0) (ec 8 aN (ec 9 (qp 2 0) (ec 10 (ql 90) (ec 58 aN (ec 59 aN en))))))) (sb 0 26 (lg 26) (sb 1 29 (lg 29) (sb 2 84 (lc (qo 3) (lc (qo 4) ln)) (sr 3 47 (sr 4 117 sn))))) (λz=>⟨z.1.t.1,z.1.q.1,z.1.q.2.1,z.1.q.t.1,z.2.1,z.t.1,(aY.mk z.q.1 z.q.2.1)⟩) (λx=>(((),(),x.t8,(),x.t10,x.t58,x.t59,()),(x.b0,x.b1,((),(),()),x.b2.cG,x.b2.aP,()))))))
def Uk(p:Hr):af (af Hr):=
 bif J (p.t59<p.t58)then match m57 p.b0 p.b1 p.t10 with|I=>I|V r1=>match m66 r1 with|I=>I|V r2=>bif J (0<=r2)then match m49 p.t10 r2 with|I=>I|V r3=>V (V (Hr.mk p.t8 r3.fst p.t58 (aj (p.t59+1)) p.b0 p.b1 p.b2))else V (V (Hr.mk p.t8 p.t10 p.t58 (aj (p.t59+1)) p.b0 p.b1 p.b2))else V (I)
def WE:=bI (Uk)
abbrev E13:=Bool
def d13:Td 0 E13:= .c [] [6] (.r 0 0 (ec 6 qb en) sn (λz=>z.1.1) (λx=>((x,()),(()))))
def A13:=(lc (qg 26) (lc (qg 29) (aU ln)))
def aCK:An:=(noTwo (noTwo (.two (.two (.rb [46] 25) .no) (noTwo (noTwo (noTwo (.two (.two (.rb [46] 47) (.two (.two (.rb [46] 6) .no) .no)) (noTwo (.two (noTwo (acW.lp WE .no)) .no)))))))))
def asa:∀f∈([46]:aa Nat),bz (F13) f:=(aA (abH (ac6 (f:=46) rfl (aa9 (f:=46) rfl (acz (f:=46) rfl (aae (aeh (f:=46) rfl (acN (f:=46) rfl (adh (abw bF))))))))) aH)
def aGL:fe vi (F13) 0 300 13 (aCK):=b6 (l:=[(.skip,(.rb [46] 25)),(.skip,(.rb [46] 47)),(.skip,(.rb [46] 6)),(aZ f13 0,(acW.lp WE .no))]) func13 (bM aW) aW (aA asa (aA asa (aA asa (aA (aO acW) aH))))
def m13(a0:aS)(a1:bT)(a2:Int):af E13:=
 bif bif m45 then G else O then V G else match match m46 a0 a1 with|I=>I|V r4=>bif bif r4 then G else O then V O else bif J (20<a2)then V (J (a2<=8192))else V G with|I=>I|V r5=>bif r5 then V O else match m54 a0 a1 with|I=>I|V r6=>bif bif J (r6.snd=0)then G else O then V G else match m65 a0 a1 r6.fst a2 with|I=>I|V r7=>match bif J (a2<0)then V O else V (J (8192<a2))with|I=>I|V r8=>bif r8 then match bif J (r7.snd=3)then V (J ((zR r7.fst.aP:Int)=0))else V G with|I=>I|V r9=>V (r9)else match m58 a0 with|I=>I|V r10=>match WE (Hr.mk r7.snd r10 a2 0 a0 a1 r7.fst)with|I=>I|V r11=>bif J (r11.t59<r11.t58)then match m57 r11.b0 r11.b1 r11.t10 with|I=>I|V r12=>match m66 r12 with|I=>I|V r13=>bif J (0<=r13)then match m49 r11.t10 r13 with|I=>I|V r14=>I else I else bif J (r11.t8=0)then match m57 r11.b0 r11.b1 r11.t10 with|I=>I|V r15=>match m56 r11.b2 r15 with|I=>I|V r16=>V (r16)else V G
def c13(a0:aS)(a1:bT)(a2:Int):bV vi (F13) 300 (aCK) 13 (A13.c (a0,a1,a2,())) [] 0 d13.rd=m13 a0 a1 a2:=aW
def h13:HL vi 13 A13 d13 (λg=>m13 g.1 g.2.1 g.2.2.1):=(dR avC aGL (λ_=>aW) (λ_=>aW) λg=>c13 g.1 g.2.1 g.2.2.1)
def rI(C:aa dI):Nat->Int
 |0=> -1
 |k+1=>if C[k]!.ax=[]/\1<C[k]!.cO/\(rI C k<0\/C[(rI C k).toNat]!.cO<C[k]!.cO)then(k:Int)else rI C k
def vG(C:aa dI):∀k,rI C k= -1\/(0<=rI C k/\rI C k<k/\C[(rI C k).toNat]!.ax=[]/\1<C[(rI C k).toNat]!.cO)
 |0=> .inl rfl
 |k+1=>by
  unfold rI;split
  ·rename_i h;exact .inr ⟨aq,aq,by rw[zg];exact h.1,by rw[zg];exact h.2.1⟩
  ·rcases vG C k with h|⟨h1,h2,h3⟩
   ·omega
   ·exact .inr ⟨h1,aq,h3⟩
def aju(T:Tree)(hl:zR T.aP<=1000000):Zx T=V (rI T.aP (zR T.aP),T):=by
 obtain⟨b,e,hb⟩:=cH (rnd:=Lh) (zR T.aP) (λi (b:Int)=>⟨b,T.aP,(zR T.aP:Int),(i:Int),T⟩) (λi b=>b=rI T.aP i) (λi b hi hb=>by
  obtain⟨i1,i2,hw⟩:=w3 hi hl;refine⟨_,?_,rfl⟩;have hr:=vG T.aP i;rw[<-hb]at hr;unfold Lh;unfold rI;rw[<-hb];by_cases h1:T.aP[i]!.ax=[]
  ·by_cases h2:1<T.aP[i]!.cO
   ·by_cases h3:b<0
    ·simp only[cZ,i1,i2,hi,cI,dS,h1,yB,xH,h2,h3,hw,true_or]
    ·obtain⟨r1,r2,-⟩:=hr.resolve_left aq;have r3:b<(zR T.aP:Int):=aq;have r4:b.toNat<zR T.aP:=aq;by_cases h4:T.aP[b.toNat]!.cO<T.aP[i]!.cO
     ·simp only[cZ,cU,i1,i2,hi,dS,h1,yB,xH,h2,h3,hw,r1,r3,r4,h4,or_true]
     ·simp only[cZ,cU,fU,i1,i2,hi,h1,yB,xH,h2,h3,hw,r1,r3,r4,h4,or_false,and_false]
   ·simp only[cZ,cU,fU,i1,i2,hi,h1,yB,xH,h2,hw,false_and,and_false]
  ·have k0:¬(zR T.aP[i]!.ax:Int)=0:=by
    have:=wG.2 h1;omega
   simp only[cZ,cU,fU,i1,i2,hi,h1,k0,hw,false_and]) (λb _=>by unfold Lh;simp) (b:= -1) rfl
 have e':Kx ⟨-1,T.aP,(zR T.aP:Int),0,T⟩=V ⟨b,T.aP,(zR T.aP:Int),(zR T.aP:Int),T⟩:=e;unfold Zx;simp only[e',yg,CC,cv,hb]
def atc(C:aa dI)(L:aa aB)(ac:aa aB)(hl:zR C<=1000000):m66 ⟨ac,C.map (gd L)⟩=V (rI C (zR C)):=by
 have hCl:zR (C.map (gd L))=zR C:=zu ..;obtain⟨b,e,hb⟩:=cH (rnd:=Wk) (zR C) (λi (b:Int)=>⟨b,C.map (gd L),(zR C:Int),(i:Int),⟨ac,C.map (gd L)⟩⟩) (λi b=>b=rI C i) (λi b hi hb=>by
  obtain⟨i1,i2,hw⟩:=w3 hi hl;have g1:(C.map (gd L))[i]!.ax=C[i]!.ax/\(C.map (gd L))[i]!.cO=C[i]!.cO:=by rw[dV _ _ _ hi];exact⟨rfl,rfl⟩
  refine⟨_,?_,rfl⟩;have hr:=vG C i;rw[<-hb]at hr;unfold Wk;unfold rI;rw[<-hb];by_cases h1:C[i]!.ax=[]
  ·by_cases h2:1<C[i]!.cO
   ·by_cases h3:b<0
    ·simp only[cZ,hCl,i1,i2,cI,dS,g1.1,g1.2,h1,yB,xH,h2,h3,hw,true_or]
    ·obtain⟨r1,r2,-⟩:=hr.resolve_left aq;have r3:b<(zR C:Int):=aq;have g2:(C.map (gd L))[b.toNat]!.cO=C[b.toNat]!.cO:=by rw[dV _ _ _ aq];rfl
     by_cases h4:C[b.toNat]!.cO<C[i]!.cO
     ·simp only[cZ,cU,hCl,i1,i2,dS,g1.1,g1.2,h1,yB,xH,h2,h3,hw,r1,r3,g2,h4,or_true]
     ·simp only[cZ,cU,fU,hCl,i1,i2,g1.1,g1.2,h1,yB,xH,h2,h3,hw,r1,r3,g2,h4,or_false,and_false]
   ·simp only[cZ,cU,fU,hCl,i1,i2,g1.1,g1.2,h1,yB,xH,h2,hw,false_and,and_false]
  ·have k0:¬(zR C[i]!.ax:Int)=0:=by
    have:=wG.2 h1;omega
   simp only[cZ,cU,fU,hCl,i1,i2,g1.1,h1,k0,hw,false_and]) (λb _=>by unfold Wk;simp) (b:= -1) rfl
 have e':V7 ⟨-1,C.map (gd L),(zR C:Int),0,⟨ac,C.map (gd L)⟩⟩=V ⟨b,C.map (gd L),(zR C:Int),(zR C:Int),⟨ac,C.map (gd L)⟩⟩:=e;unfold m66;simp only[hCl,e',yg,CC,cv,hb]
section
variable {f:aS} {v:bT}
def PS:∀{b:aa aL},(∀x∈b,bZ x=1)->eW b=1
 |[],_=>by rw[eW]
 |x::b,h=>by
  rw[eW,h x (zk ..),PS λy hy=>h y (zI _ hy)];rfl
def ig.one{b:aa aL}(h:ig f b)(c:Cx f v)(hb:1<bdX f v b):Az b=O:=by
 have hfit:=sg (h.ask c);rw[<-Bool.not_eq_false];intro hc;have hv:eW b=1:=PS λx hx=>by
  have hn:=hfit.nn x hx;refine(kr hn).2 ?_;unfold Az at hc;rw[List.any_eq_false]at hc;have h1:=hc x hx;rw[decide_eq_true_eq]at h1;have h2:=hn.le;unfold rg at h1;omega
 have:=(Qq (AD hfit) (M:=eW b) aq (zR (fD f v b).aF+1)).2.1;unfold bdX ado at hb;omega
def rH(f:aS)(v:bT)(l:aa Part):Int:=rI (l.map (cellOf f v)) (zR l)
def pK(f:aS)(v:bT)(l:aa Part):aa Part:=if 0<=rH f v l then iJ l (rH f v l).toNat (wid l[(rH f v l).toNat]!.bP) (Jo l[(rH f v l).toNat]!.bP)else l
def mN(f:aS)(v:bT):Nat->aa Part
 |0=>jL f
 |n+1=>pK f v (mN f v n)
def EU(c:Cx f v){l:aa Part}(h:WF f l)(hw:0<=rH f v l):∃k:Nat,rH f v l=(k:Int)/\k<zR l/\l[k]!.ax=[]/\Az l[k]!.bP=O:=by
 rcases vG (l.map (cellOf f v)) (zR l) with e|⟨h1,h2,h3,h4⟩
 ·unfold rH at hw;omega
 ·refine⟨(rH f v l).toNat,aq,by unfold rH;omega,?_⟩;have hk:(rI (l.map (cellOf f v)) (zR l)).toNat<zR l:=aq;rw[dV _ _ _ hk]at h3 h4;exact⟨h3,(h.box _ hk).one c h4⟩
def aeP(c:Cx f v){l:aa Part}(h:WF f l):WF f (pK f v l)/\zR (pK f v l)<=zR l+2:=by
 unfold pK;split
 ·rename_i hw;obtain⟨k,e,h1,h2,h3⟩:=EU c h hw;rw[e,zg];obtain⟨q1,q2,q3⟩:=L1 h3;exact⟨Z8 h h1 h2 q1 q2 q3,by rw[EJ];omega⟩
 ·exact⟨h,aq⟩
def qY(c:Cx f v):∀n,WF f (mN f v n)/\zR (mN f v n)<=1+2*n
 |0=>⟨uZ c,by simp[mN,jL]⟩
 |n+1=>by
  obtain⟨h1,h2⟩:=qY c n;obtain⟨h3,h4⟩:=aeP c h1;exact⟨h3,by show zR (pK f v (mN f v n))<=_;omega⟩
def EY{i:Nat}(h:rH f v (mN f v i)<0):∀n,i<=n->mN f v n=mN f v i
 |0,hn=>by rw[show i=0 by omega]
 |n+1,hn=>by
  by_cases e:i=n+1
  ·rw[e]
  ·have:=EY h n aq;show pK f v (mN f v n)=_;rw[this];unfold pK;rw[AJ]
def arP(c:Cx f v){n:Nat}(hn:n<=20):m65 f v (fH ((jL f).map (cellOf f v))) (n:Int)=V (fH ((mN f v n).map (cellOf f v)),0):=by
 have e105:=PJ c (l:=jL f) (uZ c) (by simp[jL]);have hCl:∀l:aa Part,zR (l.map (cellOf f v))=zR l:=λl=>zu ..;have YP:∀l:aa Part,zR l<=100000->Zx ⟨f,v,l.map (cellOf f v)⟩=V (rH f v l,⟨f,v,l.map (cellOf f v)⟩):=λl hl=>by
  rw[aju _ (by rw[hCl];omega)];unfold rH;simp
 obtain⟨i,l,e,hI,hS⟩:=me (rnd:=PU) n (λi (l:aa Part)=>⟨(n:Int),(i:Int),⟨[],[]⟩,⟨f,v,l.map (cellOf f v)⟩⟩) (λi l=>l=mN f v i) (λi l=>rH f v l<0) (λi l hi hl=>by
  have hw:=jG hi aq;have i1:(i:Int)<(n:Int):=aq;obtain⟨g1,g2⟩:=qY c i;rw[<-hl]at g1 g2;by_cases h:rH f v l<0
  ·refine .inr ⟨?_,h⟩;unfold PU;simp only[i1,uU,cI,YP l aq,h]
  ·refine .inl ⟨pK f v l,?_,by rw[hl];rfl⟩;obtain⟨k,hk,q1,q2,q3⟩:=EU c g1 aq;have e109:=acA c (l:=l) aq q1 (g1.box k q1) q3;have h':¬(k:Int)<0:=aq;have h'':(0:Int)<=(k:Int):=aq;unfold PU pK;simp only[cZ,cU,i1,YP l aq,hk,h',h'',e109,dS,hw]) (λl _=>by unfold PU;simp) (b:=jL f) rfl
 have e':W6 ⟨(n:Int),0,⟨[],[]⟩,⟨f,v,(jL f).map (cellOf f v)⟩⟩=V ⟨(n:Int),(i:Int),⟨[],[]⟩,⟨f,v,l.map (cellOf f v)⟩⟩:=e;have hin:i<=n:=by rcases hS with h|⟨h,_⟩<;>omega
 obtain⟨g1,g2⟩:=qY c i;have Ek:=JP f v (n9 c g1 aq);have n1:¬(n:Int)<0:=aq;have n2:¬(8192:Int)<(n:Int):=aq;have e105':CG f v (fH ((jL f).map (cellOf f v)))=V (⟨f,v,(jL f).map (cellOf f v)⟩,0):=e105;subst hI;unfold m65;rcases hS with h|⟨h1,h2⟩
 ·subst h;simp only[cZ,cU,e105',n1,n2,e',yg,Ek]
 ·have i1:(i:Int)<(n:Int):=aq;rw[EY h2 n hin];simp only[cZ,cU,e105',n1,n2,e',i1,YP _ (show zR (mN f v i)<=100000 by omega),h2,Ek]
def ajW(c:Cx f v){n:Int}(hn:n<0\/8192<n):m65 f v (fH ((jL f).map (cellOf f v))) n=V (⟨[],[]⟩,3):=by
 have e105':CG f v (fH ((jL f).map (cellOf f v)))=V (⟨f,v,(jL f).map (cellOf f v)⟩,0):=PJ c (l:=jL f) (uZ c) (by simp[jL]);unfold m65;by_cases n1:n<0
 ·simp only[cU,e105',uU,n1]
 ·have n2:=hn.resolve_left n1;simp only[cZ,cU,e105',n1,n2]
def aCV(f:aS)(v:bT)(n:Int):m13 f v n=V O:=by
 obtain⟨r,e46,h46⟩:=ark f v;unfold m13;cases r with
 |false=>simp only[cU,m45,e46]
 |true=>
  have c:=h46 rfl;have e54:=aqO c;by_cases hp:20<n/\n<=8192
  ·simp only[cU,m45,e46,hp.1,hp.2,uU]
  ·have hr:(bif J (20<n)then V (J (n<=8192))else V G)=V G:=by
    by_cases h1:20<n
    ·simp_all
    ·simp only[h1,CC,cv]
   by_cases hb:n<0\/8192<n
   ·have e65:=ajW c hb;have hb':(bif J (n<0)then V O else V (J (8192<n)))=V O:=by
     by_cases h1:n<0
     ·simp_all
     ·simp_all
    simp only[cU,m45,e46,hr,e54,uU,e65,hb',yB,xH]
   ·have h1:¬n<0:=aq;have h2:¬8192<n:=aq;obtain⟨k,rfl⟩:∃k:Nat,n=(k:Int):=⟨n.toNat,aq⟩;have e65:=arP c (n:=k) aq;have e58:=asT c;obtain⟨T,hT⟩:∃T,T=fH ((mN f v k).map (cellOf f v)):=⟨_,rfl⟩;rw[<-hT]at e65;obtain⟨l,e,hl⟩:=cH (rnd:=Uk) k (λi (l:aa Part)=>⟨0,l,(k:Int),(i:Int),f,v,T⟩) (λi l=>l=mN f v i) (λi l hi hl=>by
     have hw:=jG hi aq;have i1:(i:Int)<(k:Int):=aq;obtain⟨g1,g2⟩:=qY c i;rw[<-hl]at g1 g2;have e57:=adY c g1 aq;have e66:m66 (fH (l.map (cellOf f v)))=V (rH f v l):=by
      unfold fH rH;rw[atc _ _ _ (by rw[zu];omega),zu]
     refine⟨pK f v l,?_,by rw[hl];rfl⟩;unfold Uk;by_cases h:0<=rH f v l
     ·obtain⟨k,hk,q1,q2,q3⟩:=EU c g1 h;have e49:=aqm c (l:=l) aq q1 (g1.box k q1);rw[q3]at e49;have h'':(0:Int)<=(k:Int):=aq;unfold pK;simp only[cZ,i1,cI,e57,e66,hk,h'',e49,dS,hw]
     ·unfold pK;simp only[cZ,cU,i1,e57,e66,h,GQ,hw]) (λl _=>by unfold Uk;simp) (b:=jL f) rfl
    have e':WE ⟨0,jL f,(k:Int),0,f,v,T⟩=V ⟨0,l,(k:Int),(k:Int),f,v,T⟩:=e;obtain⟨g1,g2⟩:=qY c k;rw[<-hl]at g1 g2 hT;have e57:=adY c g1 aq;have e56:=ab6 c g1 aq;rw[<-hT]at e57 e56;simp only[cZ,cU,m45,e46,hr,e54,e65,h1,h2,e58,e',yg,e57,e56]
end
end Go.Proofs.YtnfljbehcffmcaaGreat
end
noncomputable section
namespace Go.Iv
variable [U:tf]
open Go Go.RowKit Go.Deep Go.ChangeShapes Go.WideShapes Go.Joins
def aqe{P:Program}{f:FuncId}{args:aa AV}(h:Iv.Fn P f args [] (λa s=>a= .b O/\s=[])){A:Nat->Prop}{w:World}{vs:aa Value}(hr:bO A w args vs):
  Calls P f vs.toArray w λe w'=>∃v,e= .returned v/\v= .bool O/\Below w.heap.size w w':=
 (h w A vs hr ⟨λr hr=>by simp at hr,λb hb=>by simp[bC]at hb⟩ (by simp[bC])).mono λe w' ⟨v,av,B',h1,⟨h2,h3⟩,h4,h5⟩=>by
  subst h2;exact⟨v,h1,h5.cM,h4.kp.below⟩
abbrev uf:Nat->Prop:=λ_=>True
def mF{α:Type}{H:Type}(enc:TypeId×Value->H)(P:Program)(w:World)(t:TypeId)(c:α->aa AV)(ok:α->Prop):Prop:=
 ∀(base:Nat) (fuel:Nat) (cs:aa Value) (x:DataW H×aa MemPlace),DataW.trod enc P w base (λ_=>O) O fuel t cs=V x->∃a,ok a/\bO uf w (c a) cs
section
variable {α:Type} {H:Type} {enc:TypeId×Value->H} {P:Program} {w:World} {t e:TypeId}
def mF.int{k:IntKind}(ht:P.underlying t=V (.int k)):mF enc P w t (cN k) (λn=>(Lit.int k n).wf=O):=λbase fuel cs x h=>by
 obtain⟨n,rfl,_,hw⟩:=DataW.trod_int ht h;exact⟨n,hw,bO.cons (.lit _) bO.nil⟩
def mF.bool(ht:P.underlying t=V .bool):mF enc P w t cB (λ_=>True):=λbase fuel cs x h=>by
 obtain⟨b,rfl,_⟩:=DataW.trod_bool ht h;exact⟨b,trivial,bO.cons (.lit _) bO.nil⟩
def mF.slice{ok:U.dh e->Prop}{sz:Nat}(ht:P.underlying t=V (.slice e))(hc:P.cellsOf e=sz+1)(hs:U.sz e=sz+1)(he:mF enc P w e (U.cells e) ok):
  mF enc P w t (λl:aa (U.dh e)=>[.sl e l]) (λl=>zR l<=9223372036854775807/\∀a∈l,ok a):=λbase fuel cs x h=>by
 rcases open_slice ht h with ⟨rfl,_⟩|⟨a,len,cp,m,n,D,Pl,hcs,hb,hl,hm,hmm,_,hx⟩
 ·refine⟨[],⟨by simp,by simp⟩,bO.cons ?_ bO.nil⟩;exact .sl e ([]:aa (U.dh e)) I 0 (λ_ _=>default) (by simp) (by simp) (λi hi=>by simp at hi) (λi hi=>by simp at hi) (λi j a hi=>by simp at hi)
 ·subst hcs;have hmm:m=cp:=by rw[hmm];rfl
  rw[hc]at hx;have hmx:cp<=9223372036854775807:=by unfold maxLen at hm;omega
  obtain⟨CS,hCS⟩:=choose_lt (α:=aa Value×U.dh e) (p:=λi y=>w.cells? base (a.add (i*(sz+1))) (sz+1)=V y.1/\ok y.2/\bO uf w (U.cells e y.2) y.1) (n:=len) (λi hi=>by
   obtain⟨cs',h1,h2⟩:=hx i aq;obtain⟨y,h3,h4⟩:=he _ _ _ _ h2;exact⟨(cs',y),h1,h3,h4⟩)
  obtain⟨l,hld⟩:∃l:aa (U.dh e),l=(zN len).map λi=>(CS i).2:=⟨_,rfl⟩;have hln:zR l=len:=by rw[hld];simp
  have hget:∀i,i<len->l[i]! =(CS i).2:=λi hi=>by
   rw[getElem!_pos l i aq];simp[hld]
  refine⟨l,⟨aq,λy hy=> ?_⟩,bO.cons ?_ bO.nil⟩
  ·rw[hld,zK]at hy;obtain⟨i,hi,rfl⟩:=hy;exact(hCS i (by simpa using hi)).2.1
  ·rw[<-hln];refine .sl e l (V a) cp (λi j=>(CS i).1[j]!) aq aq (λi hi=> ?_) (λi hi=> ?_) (λi j av hi hj=> ?_)
   ·rw[hln]at hi;obtain⟨h1,_,h3⟩:=hCS i hi;obtain⟨_,h5,_⟩:=World.cells?_some h1;rw[hget i hi,<-h3.1,h5,hs]
   ·rw[hln]at hi;obtain⟨h1,_,h3⟩:=hCS i hi;obtain⟨_,h5,h6⟩:=World.cells?_some h1;have hj:∀j,j<sz+1->w.cell? ((a.add (i*(sz+1))).add j)=V (CS i).1[j]! :=λj hj=>by
     rw[h6 j hj,getElem!_pos _ j aq,zq aq]
    obtain⟨b,off,spot⟩:=a;have hs:spot=I:=by
     obtain⟨g1,_,_⟩:=hCS 0 aq;obtain⟨_,g5,g6⟩:=World.cells?_some g1;have:=World.cell?_spot (v:=(CS 0).1[0]!) (w:=w) (a:=((⟨b,off,spot⟩:Addr).add (0*(sz+1))).add 0) (by rw[g6 0 aq,getElem!_pos _ 0 aq,zq aq]);simpa [Addr.add]using this
    subst hs;have hj':∀j,j<sz+1->w.cell? ⟨b,off+i*(sz+1)+j,I⟩=V (CS i).1[j]! :=λj hlt=>by
     have:=hj j hlt;have ap:∀o i:Nat,(⟨b,o,I⟩:Addr).add i=⟨b,o+i,I⟩:=λo i=>by
      unfold Addr.add;split
      ·rename_i h0;simp only[h0,yj]
      ·rfl
     rw[ap,ap]at this;exact this
    exact⟨b,off,rfl,World.block_lt_of_cell? w _ (hj' 0 aq),trivial,by rw[hs];exact hj'⟩
   ·rw[hln]at hi;rw[hget i hi]at hj;obtain⟨h1,_,h3⟩:=hCS i hi;obtain⟨v,q1,q2⟩:=h3.get hj;show Rel uf w av (CS i).1[j]!;obtain⟨q3,q4⟩:=z7.1 q1;rw[getElem!_pos _ j q3,q4];exact q2
def mF.agg{c:α->aa AV}{ok:α->Prop}{v:Value}{cs:Array Value}{d:DataW H}{p:aa MemPlace}(he:mF enc P w t c ok)(hv:v= .agg cs)(h:DataW.Trod enc P w 0 (λ_=>O) O t v d p):∃a,ok a/\Rel uf w (.agg (c a)) v:=by
 obtain⟨fuel,hf⟩:=h;subst hv;obtain⟨l⟩:=cs;obtain⟨a,h1,h2⟩:=he _ _ _ _ hf;exact⟨a,h1,Rel.pS h2⟩
end
def Mo.law[L:nu]{P:Program}{f:FuncId}{args:aa AV}{x:Out}(h:Mo P f args [] 0 x)(hx:x=⟨.b O,[],0⟩)(ha:args.all (G6 2)=O):Iv.Fn P f args [] (λa s=>a= .b O/\s=[]):=by
 subst hx;have h1:=h ⟨λ_=>undef,λ_=>0⟩;have:args.map (b9.sub ⟨λ_=>undef,λ_=>0⟩)=args.map id:=zZ λc hcm=>ku 2 (zx.1 ha c hcm);rw[this,List.map_id]at h1;exact h1.mono λa s ⟨S',_,e1,e2⟩=>⟨by rw[e1];exact ku 2 rfl,List.Perm.eq_nil e2⟩
def dg{A:Nat->Prop}{w:World}{xs bs:aa AV}{us:aa Value}{n:Nat}(h:bO A w xs (us.take n))(h':bO A w bs (us.drop n)):bO A w (xs++bs) us:=by
 have:=h.app h'
 rwa [xe]at this
def LF(ad:Nat){α:Type}{H:Type}(enc:TypeId×Value->H)(P:Program)(w:World)(t:TypeId)(c:α->aa AV)(ok:α->Prop):Prop:=
 ∀(base:Nat) (fuel:Nat),fuel<ad->∀(cs:aa Value) (x:DataW H×aa MemPlace),DataW.trod enc P w base (λ_=>O) O fuel t cs=V x->∃a,ok a/\bO uf w (c a) cs
section
variable {α:Type} {H:Type} {enc:TypeId×Value->H} {P:Program} {w:World} {t e:TypeId}
def mF.ofB{c:α->aa AV}{ok:α->Prop}(h:∀ad,LF ad enc P w t c ok):mF enc P w t c ok:=λbase fuel cs x hx=>h (fuel+1) base fuel (zC _) cs x hx
def mF.str(ht:P.underlying t=V .string):mF enc P w t (λs=>[.s s]) (λ_=>True):=λbase fuel cs x h=>by
 obtain⟨b,rfl,_⟩:=DataW.trod_string ht h;exact⟨b,trivial,bO.cons (.lit _) bO.nil⟩
def mF.any{c:α->aa AV}{ok:α->Prop}(h:mF enc P w t c ok):mF enc P w t c (λ_=>True):=λbase fuel cs x hx=>by
 obtain⟨a,_,r⟩:=h base fuel cs x hx;exact⟨a,trivial,r⟩
def LF.slice{ad:Nat}{ok:U.dh e->Prop}{sz:Nat}(ht:P.underlying t=V (.slice e))(hc:P.cellsOf e=sz+1)(hs:U.sz e=sz+1)(he:LF ad enc P w e (U.cells e) ok):
  LF ad enc P w t (λl:aa (U.dh e)=>[.sl e l]) (λl=>zR l<=9223372036854775807/\∀a∈l,ok a):=λbase fuel hB cs x h=>by
 rcases DataW.trod_slice ht h with ⟨rfl,_⟩|⟨a,len,cp,elems,rest,n,hfu,hcs,_,hb,hl,hm,hlen,hx,_,_⟩
 ·refine⟨[],⟨by simp,by simp⟩,bO.cons ?_ bO.nil⟩;exact .sl e ([]:aa (U.dh e)) I 0 (λ_ _=>default) (by simp) (by simp) (λi hi=>by simp at hi) (λi hi=>by simp at hi) (λi j a hi=>by simp at hi)
 ·subst hcs;rw[hc]at hx;have hmx:cp<=9223372036854775807:=by unfold maxLen at hm;omega
  obtain⟨CS,hCS⟩:=choose_lt (α:=aa Value×U.dh e) (p:=λi y=>w.cells? base (a.add (i*(sz+1))) (sz+1)=V y.1/\ok y.2/\bO uf w (U.cells e y.2) y.1) (n:=len) (λi hi=>by
   have hk:=hx i hi;rw[zq (show i<zR elems by omega)]at hk;obtain⟨cs',h1,h2⟩:=zn.1 hk;obtain⟨y,h3,h4⟩:=he _ n aq _ _ h2;exact⟨(cs',y),h1,h3,h4⟩)
  obtain⟨l,hld⟩:∃l:aa (U.dh e),l=(zN len).map λi=>(CS i).2:=⟨_,rfl⟩;have hln:zR l=len:=by rw[hld];simp
  have hget:∀i,i<len->l[i]! =(CS i).2:=λi hi=>by
   rw[getElem!_pos l i aq];simp[hld]
  refine⟨l,⟨aq,λy hy=> ?_⟩,bO.cons ?_ bO.nil⟩
  ·rw[hld,zK]at hy;obtain⟨i,hi,rfl⟩:=hy;exact(hCS i (by simpa using hi)).2.1
  ·rw[<-hln];refine .sl e l (V a) cp (λi j=>(CS i).1[j]!) aq aq (λi hi=> ?_) (λi hi=> ?_) (λi j av hi hj=> ?_)
   ·rw[hln]at hi;obtain⟨h1,_,h3⟩:=hCS i hi;obtain⟨_,h5,_⟩:=World.cells?_some h1;rw[hget i hi,<-h3.1,h5,hs]
   ·rw[hln]at hi;obtain⟨h1,_,h3⟩:=hCS i hi;obtain⟨_,h5,h6⟩:=World.cells?_some h1;have hj:∀j,j<sz+1->w.cell? ((a.add (i*(sz+1))).add j)=V (CS i).1[j]! :=λj hj=>by
     rw[h6 j hj,getElem!_pos _ j aq,zq aq]
    obtain⟨b,off,spot⟩:=a;have hs:spot=I:=by
     obtain⟨g1,_,_⟩:=hCS 0 aq;obtain⟨_,g5,g6⟩:=World.cells?_some g1;have:=World.cell?_spot (v:=(CS 0).1[0]!) (w:=w) (a:=((⟨b,off,spot⟩:Addr).add (0*(sz+1))).add 0) (by rw[g6 0 aq,getElem!_pos _ 0 aq,zq aq]);simpa [Addr.add]using this
    subst hs;have hj':∀j,j<sz+1->w.cell? ⟨b,off+i*(sz+1)+j,I⟩=V (CS i).1[j]! :=λj hlt=>by
     have:=hj j hlt;have ap:∀o i:Nat,(⟨b,o,I⟩:Addr).add i=⟨b,o+i,I⟩:=λo i=>by
      unfold Addr.add;split
      ·rename_i h0;simp only[h0,yj]
      ·rfl
     rw[ap,ap]at this;exact this
    exact⟨b,off,rfl,World.block_lt_of_cell? w _ (hj' 0 aq),trivial,by rw[hs];exact hj'⟩
   ·rw[hln]at hi;rw[hget i hi]at hj;obtain⟨h1,_,h3⟩:=hCS i hi;obtain⟨v,q1,q2⟩:=h3.get hj;show Rel uf w av (CS i).1[j]!;obtain⟨q3,q4⟩:=z7.1 q1;rw[getElem!_pos _ j q3,q4];exact q2
end
end Go.Iv
end
noncomputable section
set_option maxRecDepth 100000
namespace Go.Proofs.YtnfljbehcffmcaaGreat
open Go Go.Iv Go.RowKit Go.Deep Go.ChangeShapes Go.WideShapes Go.Joins
section
variable {H:Type} {enc:TypeId×Value->H} {w:World}
def og9:mF enc vi w 9 (λs=>[.s s]) (λ_=>True):=mF.str underlying9
def awO:mF enc vi w 129 (cN .i64) (λ_=>True):=(mF.int underlying129).any
def og3:mF enc vi w 3 (cN .i64) (λ_=>True):=(mF.int underlying3).any
def aBv:mF enc vi w 131 (uni.cells 131) (λ_=>True):=λbase fuel cs x h=>by
 obtain⟨xs,n,hfu,rfl,hl,hlen,hf⟩:=DataW.trod_struct underlying131 h;rw[show vi.cellsOf 131=5 from aW]at hl;have hlen:zR xs=5:=hlen;have f0:DataW.trod enc vi w base (λ_=>O) O n 9 ((cs.drop 0).take (vi.cellsOf 9))=xs[0]? :=hf 0 _ rfl;rw[show vi.cellsOf 9=1 from aW,zq (show 0<zR xs by omega)]at f0;obtain⟨a0,_,r0⟩:=og9 _ _ _ _ f0;have f1:DataW.trod enc vi w base (λ_=>O) O n 129 ((cs.drop 1).take (vi.cellsOf 129))=xs[1]? :=hf 1 _ rfl;rw[show vi.cellsOf 129=1 from aW,zq (show 1<zR xs by omega)]at f1;obtain⟨a1,_,r1⟩:=awO _ _ _ _ f1;have f2:DataW.trod enc vi w base (λ_=>O) O n 3 ((cs.drop 2).take (vi.cellsOf 3))=xs[2]? :=hf 2 _ rfl;rw[show vi.cellsOf 3=1 from aW,zq (show 2<zR xs by omega)]at f2;obtain⟨a2,_,r2⟩:=og3 _ _ _ _ f2;have f3:DataW.trod enc vi w base (λ_=>O) O n 3 ((cs.drop 3).take (vi.cellsOf 3))=xs[3]? :=hf 3 _ rfl;rw[show vi.cellsOf 3=1 from aW,zq (show 3<zR xs by omega)]at f3;obtain⟨a3,_,r3⟩:=og3 _ _ _ _ f3;have f4:DataW.trod enc vi w base (λ_=>O) O n 3 ((cs.drop 4).take (vi.cellsOf 3))=xs[4]? :=hf 4 _ rfl;rw[show vi.cellsOf 3=1 from aW,zq (show 4<zR xs by omega)]at f4;obtain⟨a4,_,r4⟩:=og3 _ _ _ _ f4;have e:bO uf w [] (cs.drop 5):=by rw[wA aq];exact bO.nil
 have s4:=dg (us:=cs.drop 4) r4 (by rw[zW];exact e);have s3:=dg (us:=cs.drop 3) r3 (by rw[zW];exact s4);have s2:=dg (us:=cs.drop 2) r2 (by rw[zW];exact s3);have s1:=dg (us:=cs.drop 1) r1 (by rw[zW];exact s2);have s0:=dg (us:=cs.drop 0) r0 (by rw[zW];exact s1);exact⟨(⟨a0,a1,a2,a3,a4⟩:bg),trivial,s0⟩
def aFL:mF enc vi w 22 (λl:aa (uni.dh 131)=>[.sl 131 l]) (λl=>zR l<=9223372036854775807/\∀a∈l,True):=mF.slice (e:=131) (sz:=4) underlying22 aW rfl aBv
def aBW:mF enc vi w 134 (cN .i64) (λ_=>True):=(mF.int underlying134).any
def abx:∀ad,LF ad enc vi w 137 (uni.cells 137) (λ_=>True)
 |0=>λbase fuel hB=>ep hB (y8 _)
 |ad+1=>λbase fuel hB cs x h=>by
  have ih:=abx ad;obtain⟨xs,n,hfu,rfl,hl,hlen,hf⟩:=DataW.trod_struct underlying137 h;rw[show vi.cellsOf 137=3 from aW]at hl;have hlen:zR xs=3:=hlen;have f0:DataW.trod enc vi w base (λ_=>O) O n 134 ((cs.drop 0).take (vi.cellsOf 134))=xs[0]? :=hf 0 _ rfl;rw[show vi.cellsOf 134=1 from aW,zq (show 0<zR xs by omega)]at f0;obtain⟨a0,_,r0⟩:=aBW _ _ _ _ f0;have f1:DataW.trod enc vi w base (λ_=>O) O n 3 ((cs.drop 1).take (vi.cellsOf 3))=xs[1]? :=hf 1 _ rfl;rw[show vi.cellsOf 3=1 from aW,zq (show 1<zR xs by omega)]at f1;obtain⟨a1,_,r1⟩:=og3 _ _ _ _ f1;have f2:DataW.trod enc vi w base (λ_=>O) O n 135 ((cs.drop 2).take (vi.cellsOf 135))=xs[2]? :=hf 2 _ rfl;rw[show vi.cellsOf 135=1 from aW,zq (show 2<zR xs by omega)]at f2;obtain⟨a2,_,r2⟩:=LF.slice (t:=135) (e:=137) (sz:=2) underlying135 aW rfl ih base n aq _ _ f2;have e:bO uf w [] (cs.drop 3):=by rw[wA aq];exact bO.nil
  have s2:=dg (us:=cs.drop 2) r2 (by rw[zW];exact e);have s1:=dg (us:=cs.drop 1) r1 (by rw[zW];exact s2);have s0:=dg (us:=cs.drop 0) r0 (by rw[zW];exact s1);exact⟨(⟨a0,a1,a2⟩:az),trivial,s0⟩
def aoc:mF enc vi w 137 (uni.cells 137) (λ_=>True):=mF.ofB abx
def aDo:mF enc vi w 139 (uni.cells 139) (λ_=>True):=λbase fuel cs x h=>by
 obtain⟨xs,n,hfu,rfl,hl,hlen,hf⟩:=DataW.trod_struct underlying139 h;rw[show vi.cellsOf 139=6 from aW]at hl;have hlen:zR xs=4:=hlen;have f0:DataW.trod enc vi w base (λ_=>O) O n 9 ((cs.drop 0).take (vi.cellsOf 9))=xs[0]? :=hf 0 _ rfl;rw[show vi.cellsOf 9=1 from aW,zq (show 0<zR xs by omega)]at f0;obtain⟨a0,_,r0⟩:=og9 _ _ _ _ f0;have f1:DataW.trod enc vi w base (λ_=>O) O n 3 ((cs.drop 1).take (vi.cellsOf 3))=xs[1]? :=hf 1 _ rfl;rw[show vi.cellsOf 3=1 from aW,zq (show 1<zR xs by omega)]at f1;obtain⟨a1,_,r1⟩:=og3 _ _ _ _ f1;have f2:DataW.trod enc vi w base (λ_=>O) O n 3 ((cs.drop 2).take (vi.cellsOf 3))=xs[2]? :=hf 2 _ rfl;rw[show vi.cellsOf 3=1 from aW,zq (show 2<zR xs by omega)]at f2;obtain⟨a2,_,r2⟩:=og3 _ _ _ _ f2;have f3:DataW.trod enc vi w base (λ_=>O) O n 137 ((cs.drop 3).take (vi.cellsOf 137))=xs[3]? :=hf 3 _ rfl;rw[show vi.cellsOf 137=3 from aW,zq (show 3<zR xs by omega)]at f3;obtain⟨a3,_,r3⟩:=aoc _ _ _ _ f3;have e:bO uf w [] (cs.drop 6):=by rw[wA aq];exact bO.nil
 have s3:=dg (us:=cs.drop 3) r3 (by rw[zW];exact e);have s2:=dg (us:=cs.drop 2) r2 (by rw[zW];exact s3);have s1:=dg (us:=cs.drop 1) r1 (by rw[zW];exact s2);have s0:=dg (us:=cs.drop 0) r0 (by rw[zW];exact s1);exact⟨(⟨a0,a1,a2,a3⟩:dF),trivial,s0⟩
def aH0:mF enc vi w 23 (λl:aa (uni.dh 139)=>[.sl 139 l]) (λl=>zR l<=9223372036854775807/\∀a∈l,True):=mF.slice (e:=139) (sz:=5) underlying23 aW rfl aDo
def axd:mF enc vi w 164 (cN .i64) (λ_=>True):=(mF.int underlying164).any
def aBJ:mF enc vi w 27 (λl:aa (uni.dh 3)=>[.sl 3 l]) (λl=>zR l<=9223372036854775807/\∀a∈l,True):=mF.slice (e:=3) (sz:=0) underlying27 aW rfl og3
def abL:∀ad,LF ad enc vi w 166 (uni.cells 166) (λ_=>True)
 |0=>λbase fuel hB=>ep hB (y8 _)
 |ad+1=>λbase fuel hB cs x h=>by
  have ih:=abL ad;obtain⟨xs,n,hfu,rfl,hl,hlen,hf⟩:=DataW.trod_struct underlying166 h;rw[show vi.cellsOf 166=10 from aW]at hl;have hlen:zR xs=8:=hlen;have f0:DataW.trod enc vi w base (λ_=>O) O n 164 ((cs.drop 0).take (vi.cellsOf 164))=xs[0]? :=hf 0 _ rfl;rw[show vi.cellsOf 164=1 from aW,zq (show 0<zR xs by omega)]at f0;obtain⟨a0,_,r0⟩:=axd _ _ _ _ f0;have f1:DataW.trod enc vi w base (λ_=>O) O n 3 ((cs.drop 1).take (vi.cellsOf 3))=xs[1]? :=hf 1 _ rfl;rw[show vi.cellsOf 3=1 from aW,zq (show 1<zR xs by omega)]at f1;obtain⟨a1,_,r1⟩:=og3 _ _ _ _ f1;have f2:DataW.trod enc vi w base (λ_=>O) O n 3 ((cs.drop 2).take (vi.cellsOf 3))=xs[2]? :=hf 2 _ rfl;rw[show vi.cellsOf 3=1 from aW,zq (show 2<zR xs by omega)]at f2;obtain⟨a2,_,r2⟩:=og3 _ _ _ _ f2;have f3:DataW.trod enc vi w base (λ_=>O) O n 3 ((cs.drop 3).take (vi.cellsOf 3))=xs[3]? :=hf 3 _ rfl;rw[show vi.cellsOf 3=1 from aW,zq (show 3<zR xs by omega)]at f3;obtain⟨a3,_,r3⟩:=og3 _ _ _ _ f3;have f4:DataW.trod enc vi w base (λ_=>O) O n 137 ((cs.drop 4).take (vi.cellsOf 137))=xs[4]? :=hf 4 _ rfl;rw[show vi.cellsOf 137=3 from aW,zq (show 4<zR xs by omega)]at f4;obtain⟨a4,_,r4⟩:=aoc _ _ _ _ f4;have f5:DataW.trod enc vi w base (λ_=>O) O n 24 ((cs.drop 7).take (vi.cellsOf 24))=xs[5]? :=hf 5 _ rfl;rw[show vi.cellsOf 24=1 from aW,zq (show 5<zR xs by omega)]at f5;obtain⟨a5,_,r5⟩:=LF.slice (t:=24) (e:=166) (sz:=9) underlying24 aW rfl ih base n aq _ _ f5;have f6:DataW.trod enc vi w base (λ_=>O) O n 24 ((cs.drop 8).take (vi.cellsOf 24))=xs[6]? :=hf 6 _ rfl;rw[show vi.cellsOf 24=1 from aW,zq (show 6<zR xs by omega)]at f6;obtain⟨a6,_,r6⟩:=LF.slice (t:=24) (e:=166) (sz:=9) underlying24 aW rfl ih base n aq _ _ f6;have f7:DataW.trod enc vi w base (λ_=>O) O n 27 ((cs.drop 9).take (vi.cellsOf 27))=xs[7]? :=hf 7 _ rfl;rw[show vi.cellsOf 27=1 from aW,zq (show 7<zR xs by omega)]at f7;obtain⟨a7,_,r7⟩:=aBJ _ _ _ _ f7;have e:bO uf w [] (cs.drop 10):=by rw[wA aq];exact bO.nil
  have s7:=dg (us:=cs.drop 9) r7 (by rw[zW];exact e);have s6:=dg (us:=cs.drop 8) r6 (by rw[zW];exact s7);have s5:=dg (us:=cs.drop 7) r5 (by rw[zW];exact s6);have s4:=dg (us:=cs.drop 4) r4 (by rw[zW];exact s5);have s3:=dg (us:=cs.drop 3) r3 (by rw[zW];exact s4);have s2:=dg (us:=cs.drop 2) r2 (by rw[zW];exact s3);have s1:=dg (us:=cs.drop 1) r1 (by rw[zW];exact s2);have s0:=dg (us:=cs.drop 0) r0 (by rw[zW];exact s1);exact⟨(⟨a0,a1,a2,a3,a4,a5,a6,a7⟩:aC),trivial,s0⟩
def axu:mF enc vi w 166 (uni.cells 166) (λ_=>True):=mF.ofB abL
def aHE:mF enc vi w 24 (λl:aa (uni.dh 166)=>[.sl 166 l]) (λl=>zR l<=9223372036854775807/\∀a∈l,True):=mF.slice (e:=166) (sz:=9) underlying24 aW rfl axu
def aHy:mF enc vi w 26 (uni.cells 26) (λ_=>True):=λbase fuel cs x h=>by
 obtain⟨xs,n,hfu,rfl,hl,hlen,hf⟩:=DataW.trod_struct underlying26 h;rw[show vi.cellsOf 26=3 from aW]at hl;have hlen:zR xs=3:=hlen;have f0:DataW.trod enc vi w base (λ_=>O) O n 22 ((cs.drop 0).take (vi.cellsOf 22))=xs[0]? :=hf 0 _ rfl;rw[show vi.cellsOf 22=1 from aW,zq (show 0<zR xs by omega)]at f0;obtain⟨a0,_,r0⟩:=aFL _ _ _ _ f0;have f1:DataW.trod enc vi w base (λ_=>O) O n 23 ((cs.drop 1).take (vi.cellsOf 23))=xs[1]? :=hf 1 _ rfl;rw[show vi.cellsOf 23=1 from aW,zq (show 1<zR xs by omega)]at f1;obtain⟨a1,_,r1⟩:=aH0 _ _ _ _ f1;have f2:DataW.trod enc vi w base (λ_=>O) O n 24 ((cs.drop 2).take (vi.cellsOf 24))=xs[2]? :=hf 2 _ rfl;rw[show vi.cellsOf 24=1 from aW,zq (show 2<zR xs by omega)]at f2;obtain⟨a2,_,r2⟩:=aHE _ _ _ _ f2;have e:bO uf w [] (cs.drop 3):=by rw[wA aq];exact bO.nil
 have s2:=dg (us:=cs.drop 2) r2 (by rw[zW];exact e);have s1:=dg (us:=cs.drop 1) r1 (by rw[zW];exact s2);have s0:=dg (us:=cs.drop 0) r0 (by rw[zW];exact s1);exact⟨(⟨a0,a1,a2⟩:aS),trivial,s0⟩
def og4:mF enc vi w 4 cB (λ_=>True):=mF.bool underlying4
def aFZ:mF enc vi w 29 (uni.cells 29) (λ_=>True):=λbase fuel cs x h=>by
 obtain⟨xs,n,hfu,rfl,hl,hlen,hf⟩:=DataW.trod_struct underlying29 h;rw[show vi.cellsOf 29=2 from aW]at hl;have hlen:zR xs=2:=hlen;have f0:DataW.trod enc vi w base (λ_=>O) O n 27 ((cs.drop 0).take (vi.cellsOf 27))=xs[0]? :=hf 0 _ rfl;rw[show vi.cellsOf 27=1 from aW,zq (show 0<zR xs by omega)]at f0;obtain⟨a0,_,r0⟩:=aBJ _ _ _ _ f0;have f1:DataW.trod enc vi w base (λ_=>O) O n 4 ((cs.drop 1).take (vi.cellsOf 4))=xs[1]? :=hf 1 _ rfl;rw[show vi.cellsOf 4=1 from aW,zq (show 1<zR xs by omega)]at f1;obtain⟨a1,_,r1⟩:=og4 _ _ _ _ f1;have e:bO uf w [] (cs.drop 2):=by rw[wA aq];exact bO.nil
 have s1:=dg (us:=cs.drop 1) r1 (by rw[zW];exact e);have s0:=dg (us:=cs.drop 0) r0 (by rw[zW];exact s1);exact⟨(⟨a0,a1⟩:bT),trivial,s0⟩
end
end Go.Proofs.YtnfljbehcffmcaaGreat
end
noncomputable section
set_option maxRecDepth 100000
namespace Go.Proofs.YtnfljbehcffmcaaGreat
open Go Go.Iv
open Go.IntKind (i64 u64)
def avr:fK vi 13 0 (d13.pat O)=⟨.b O,[],0⟩:=aW
def aru(f:aS)(v:bT)(n:Int):Iv.Fn vi 13 [.agg (uni.cells 26 f), .agg (uni.cells 29 v), .n .i64 n] [] (λa s=>a= .b O/\s=[]):=(h13 (f,v,n,()) O (aCV f v n)).law avr aW
end Go.Proofs.YtnfljbehcffmcaaGreat
end
