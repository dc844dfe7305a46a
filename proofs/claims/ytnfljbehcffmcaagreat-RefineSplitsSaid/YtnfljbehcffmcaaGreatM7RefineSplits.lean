/- Merged: Nr2, Nr3, Nr4, Nr5, Nr6, Si, Sg, Sj, Hrc, Nr9, Nr10, Iy1, Iy2, Opd, Qj. -/
import Derived.Test.YtnfljbehcffmcaaGreatM1RefineSplits
import Derived.Test.YtnfljbehcffmcaaGreatM6RefineSplits
import Derived.Test.YtnfljbehcffmcaaGreatM2RefineSplits
import Derived.Test.YtnfljbehcffmcaaGreatM5RefineSplits
import Derived.Shelf.Spec.SlicesInsert
import Derived.Lib.AppendZerosOnto
import Derived.Laws.NewBlocks
import Derived.Lib.Overlaps
import Derived.Laws.Externs
import Derived.Shelf.Spec.SlicesGrow
import Derived.Deep.Slices
import Derived.Lib.SmallJoins
open List renaming length -> zR
open Nat renaming beq -> ze, le_refl -> zm, lt_succ_self -> zC, add_mul -> zX, le_succ -> ye, add_zero -> yh, zero_add -> yj, mul_le_mul_right -> ym, add_assoc -> yF, one_mul -> yK, mod_lt -> yV, zero_le -> yW, not_lt_zero -> y9, sub_self -> xS
open List renaming length_append -> zg, replicate -> zj, mem_cons_self -> zk, length_map -> zn, mem_singleton -> zq, getElem?_eq_getElem -> zu, all_eq_true -> zx, mem_cons -> zy, length_take -> zA, take_length -> zG, mem_cons_of_mem -> zJ, map_append -> zK, mem_map -> zL, range -> zN, mem_append -> zP, length_drop -> zV, drop_drop -> zW, map_congr_left -> zZ, mem_filter -> z7, getElem?_eq_some_iff -> z8, drop -> ya, map_cons -> yc, length_singleton -> yg, length_filter_le -> yt, length_set -> yw, append_nil -> yy, getElem?_take -> yD, getElem?_drop -> yE, length_cons -> yM, drop_eq_getElem_cons -> yN, flatMap_cons -> yQ, map_nil -> yT, getElem_of_mem -> yU, length_nil -> y6, size_toArray -> y7, take_append_drop -> xg, filter_append -> xk, length_eq_zero_iff -> xw, mem_flatMap -> xA, map_drop -> xB, mem_of_mem_drop -> xD, filterMap_cons -> xE, getElem_take -> xI, map_take -> xJ, length_replicate -> xP, flatMap_append -> xQ, getElem_drop -> xR, any_eq_true -> xU, ext_getElem -> xY, pairwise_cons -> x8, getElem_append_left -> wg, getElem?_take_of_lt -> wu, drop_of_length_le -> wz, set_eq_take_append_cons_drop -> wA, getElem_append_right -> wC, mem_of_mem_take -> wF, filter_cons_of_pos -> wL, filter_cons_of_neg -> wM, foldl_append -> wN, drop_length -> wO, length_pos_iff -> wR, filter_eq_nil_iff -> wU, filter_eq_self -> wV, take_succ_cons -> vi, drop_succ_cons -> vm
open Bool renaming and_eq_true -> zh, false_eq_true -> yu, or_eq_true -> yJ, true -> O, false -> G
open Int renaming toNat_natCast -> zi, le_refl -> zw, toNat -> zD, lt_irrefl -> yl
open Option renaming map_eq_some_iff -> zl, bind_eq_some_iff -> zo, some -> zF, isSome_none -> vh, some -> V, none -> I
open Array renaming length_toList -> yp, getElem?_eq_some_iff -> xd, getElem?_eq_getElem -> xe, getElem?_toList -> wP, toArray_toList -> wS
open Decidable renaming decide -> J
open Go.Proofs.Tryz renaming prog -> vn
open Go.Proofs.Tryz
set_option linter.unusedSectionVars false
set_option linter.unusedVariables false
set_option linter.unusedSimpArgs false
set_option linter.defProp false
noncomputable section
set_option maxRecDepth 100000
namespace Go.Proofs.YtnfljbehcffmcaaGreat
open Go Go.Iv
open Go.IntKind (i64 u64)
def fL(l:aa Part):aa Int:=l.flatMap (·.ax)
structure WF (f:aU) (l:List Part):Prop where
 ne:0<zR l
 root:l[0]!.bK=oB f
 box:∀i,i<zR l->iG f l[i]!.bK
 kid:∀i,i<zR l->(l[i]!.ax=[]/\l[i]!.b8=0/\l[i]!.iQ=0)\/
  ∃a b j:Nat,l[i]!.ax=[(a:Int),(b:Int)]/\i<a/\a<zR l/\i<b/\b<zR l/\a≠b/\l[i]!.b8=(j:Int)/\j<zR l[i]!.bK/\l[i]!.bK[j]!.ah<=l[i]!.iQ/\l[i]!.iQ<l[i]!.bK[j]!.ag/\
   l[a]!.bK=ZA l[i]!.bK j l[i]!.iQ/\l[b]!.bK=ZL l[i]!.bK j l[i]!.iQ
 cnt:∀k:Nat,k<zR l->(fL l).count (k:Int)=if k=0 then 0 else 1
def SO{l:aa Part}{k:Nat}(hk:k<zR l){q:Part}(h0:l[k]!.ax=[])(x:Int):(fL (l.set k q)).count x=(fL l).count x+q.ax.count x:=by
 have e1:l=l.take k++l[k]! ::l.drop (k+1):=by
  rw[getElem!_pos l k hk,<-yN hk,xg]
 have e2:l.set k q=l.take k++q::l.drop (k+1):=wA.trans (bI hk);unfold fL
 conv=>rhs;rw[e1]
 rw[e2];simp only[xQ,yQ,List.count_append,h0,List.count_nil];omega
def WF.acN{f:aU}{l:aa Part}(h:WF f l){x:Int}(hx:x∈fL l):∃i a:Nat,i<zR l/\x∈l[i]!.ax/\x=(a:Int)/\i<a/\a<zR l:=by
 unfold fL at hx;obtain⟨p,hp,hx⟩:=xA.1 hx;obtain⟨i,hi,rfl⟩:=yU hp;have e:=getElem!_pos l i hi;refine⟨i,?_⟩;rcases h.kid i hi with ⟨h1,_⟩|⟨a,b,j,h1,h2,h3,h4,h5,_⟩
 ·rw[<-e,h1]at hx;cases hx
 ·rw[<-e]at hx;have hx':=hx;rw[h1]at hx;rcases zy.1 hx with rfl|hx
  ·exact⟨a,hi,hx',rfl,h2,h3⟩
  ·rw[zq.1 hx]at hx' ⊢;exact⟨b,hi,hx',rfl,h4,h5⟩
def WF.parent{f:aU}{l:aa Part}(h:WF f l){k:Nat}(hk:k<zR l)(h0:k≠0):∃i,i<k/\(k:Int)∈l[i]!.ax:=by
 have:=h.cnt k hk;rw[bO h0]at this;have hm:(k:Int)∈fL l:=List.count_pos_iff.1 aq;obtain⟨i,a,h1,h2,h3,h4,h5⟩:=h.acN hm;have:a=k:=aq;subst this;exact⟨i,h4,h2⟩
def Ou{f:aU}{v:bW}(c:Cx f v):WF f [⟨0,0,[],oB f⟩] where
 ne:=Nat.zero_lt_one
 root:=rfl
 box i hi:=by
  have:i=0:=by simpa using hi
  subst this;exact U3 c
 kid i hi:=by
  have:i=0:=by simpa using hi
  subst this;exact .inl ⟨rfl,rfl,rfl⟩
 cnt k hk:=by
  have:k=0:=by simpa using hk
  subst this;rfl
def tV(l:aa Part)(k i:Nat)(a:Int):zR (gN l k i a)=zR l+2:=by unfold gN;simp
def FV(l:aa Part)(k i:Nat)(a:Int){j:Nat}(hj:j<zR l):(gN l k i a)[j]! =if k=j then⟨(i:Int),a,[(zR l:Int),((zR l+1:Nat):Int)],l[k]!.bK⟩else l[j]! :=by
 unfold gN;rw[abo _ _ _ (by simpa using hj),iT _ _ _ _ hj]
def TP(l:aa Part)(k i:Nat)(a:Int):(gN l k i a)[zR l]! =⟨0,0,[],ZA l[k]!.bK i a⟩/\(gN l k i a)[zR l+1]! =⟨0,0,[],ZL l[k]!.bK i a⟩:=by
 unfold gN;have e:zR l=zR (l.set k ⟨(i:Int),a,[(zR l:Int),((zR l+1:Nat):Int)],l[k]!.bK⟩):=by simp
 constructor
 ·have:=EZ (l.set k ⟨(i:Int),a,[(zR l:Int),((zR l+1:Nat):Int)],l[k]!.bK⟩) [(⟨0,0,[],ZA l[k]!.bK i a⟩:Part),⟨0,0,[],ZL l[k]!.bK i a⟩] 0 (by simp)
  rwa [<-e,yh]at this
 ·have:=EZ (l.set k ⟨(i:Int),a,[(zR l:Int),((zR l+1:Nat):Int)],l[k]!.bK⟩) [(⟨0,0,[],ZA l[k]!.bK i a⟩:Part),⟨0,0,[],ZL l[k]!.bK i a⟩] 1 (by simp)
  rwa [<-e]at this
def NJ{f:aU}{l:aa Part}(h:WF f l){k i:Nat}(hk:k<zR l)(h0:l[k]!.ax=[])(hi:i<zR l[k]!.bK){a:Int}(h1:l[k]!.bK[i]!.ah<=a)(h2:a<l[k]!.bK[i]!.ag):WF f (gN l k i a):=by
 have hl:=tV l k i a;obtain⟨n1,n2⟩:=TP l k i a;have hb:=h.box k hk;have obx:∀j,j<zR l->(gN l k i a)[j]!.bK=l[j]!.bK:=λj hj=>by
  rw[FV l k i a hj];by_cases e:k=j
  ·rw[bI e,e]
  ·rw[bO e]
 refine⟨aq,by rw[obx 0 h.ne];exact h.root,λj hj=> ?_,λj hj=> ?_,λx hx=> ?_⟩
 ·rw[hl]at hj;by_cases j1:j<zR l
  ·rw[obx j j1];exact h.box j j1
  ·by_cases j2:j=zR l
   ·rw[j2,n1];exact apb hb hi h1 h2
   ·rw[show j=zR l+1 by omega,n2];exact apB hb hi h1 h2
 ·rw[hl]at hj;by_cases j1:j<zR l
  ·rw[FV l k i a j1];by_cases e:k=j
   ·rw[bI e];subst e;refine .inr ⟨zR l,zR l+1,i,rfl,hk,aq,aq,aq,aq,rfl,hi,h1,h2,?_,?_⟩
    ·rw[n1]
    ·rw[n2]
   ·rw[bO e];rcases h.kid j j1 with q|⟨a',b',i',q1,q2,q3,q4,q5,q6,q7,q8,q9,q10,q11,q12⟩
    ·exact .inl q
    ·exact .inr ⟨a',b',i',q1,q2,aq,q4,aq,q6,q7,q8,q9,q10,by rw[obx a' q3];exact q11,by rw[obx b' q5];exact q12⟩
  ·by_cases j2:j=zR l
   ·rw[j2,n1];exact .inl ⟨rfl,rfl,rfl⟩
   ·rw[show j=zR l+1 by omega,n2];exact .inl ⟨rfl,rfl,rfl⟩
 ·rw[hl]at hx;have e:(fL (gN l k i a)).count (x:Int)=(fL l).count (x:Int)+[(zR l:Int),((zR l+1:Nat):Int)].count (x:Int):=by
   unfold gN;have:fL (l.set k ⟨(i:Int),a,[(zR l:Int),((zR l+1:Nat):Int)],l[k]!.bK⟩++[⟨0,0,[],ZA l[k]!.bK i a⟩,⟨0,0,[],ZL l[k]!.bK i a⟩])=fL (l.set k ⟨(i:Int),a,[(zR l:Int),((zR l+1:Nat):Int)],l[k]!.bK⟩):=by
    unfold fL;simp
   rw[this,SO hk h0]
  rw[e];have hc:∀y z:Nat,([(y:Int),(z:Int)]).count (x:Int)=(if y=x then 1 else 0)+(if z=x then 1 else 0):=λy z=>by
   simp only[List.count_cons,List.count_nil,beq_iff_eq,yj,Int.natCast_inj];omega
  rw[hc];by_cases x1:x<zR l
  ·rw[h.cnt x x1,bO (show ¬l.length=x by omega),bO (show ¬l.length+1=x by omega)];rfl
  ·have:(fL l).count (x:Int)=0:=List.count_eq_zero.2 λhm=>by
    obtain⟨i',a',q1,q2,q3,q4,q5⟩:=h.acN hm;omega
   rw[this,bO (show ¬x=0 by have:=h.ne;omega)];by_cases x2:x=zR l
   ·rw[bI x2.symm,bO (show ¬l.length+1=x by omega)]
   ·rw[bO (show ¬l.length=x by omega),bI (show zR l+1=x by omega)]
def XO(c:aa Cell)(i:Int)(n:Int)(t16:aa Cell)(t17 t18:Int)(ks:aa Int)(P:aa Int)(hl:zR ks<=1000000)(hk:∀x∈ks,∃a:Nat,x=(a:Int)/\i<(a:Int)/\a<zR c)(hP:zR P=zR c)(hb:∀k,k<zR P->0<=P[k]!/\P[k]!<=1000000):
  ∃Q,Fq ⟨c,P,i,t16,t17,t18,ks,(zR ks:Int),0⟩=V ⟨c,Q,i,t16,t17,t18,ks,(zR ks:Int),(zR ks:Int)⟩/\zR Q=zR P/\∀k,k<zR P->Q[k]! =P[k]! +((ks.count (k:Int):Nat):Int):=by
 obtain⟨Q,e,h1,h2⟩:=cH (rnd:=L3) ks.length (λj (Q:aa Int)=>⟨c,Q,i,t16,t17,t18,ks,(zR ks:Int),(j:Int)⟩) (λj Q=>zR Q=zR P/\∀k,k<zR P->Q[k]! =P[k]! +(((ks.take j).count (k:Int):Nat):Int)) (λj Q hj ⟨h1,h2⟩=>by
  have hw:=jJ hj hl;have i1:(j:Int)<(zR ks:Int):=aq;have i2:(0:Int)<=(j:Int):=aq;obtain⟨a,ea,a1,a2⟩:=hk ks[j]! (bq hj);have a3:¬(a:Int)<=i:=aq;have a4:¬(zR c:Int)<=(a:Int):=aq;have a5:(a:Int)<(zR Q:Int):=aq;have a6:(0:Int)<=(a:Int):=aq;have a7:a<zR Q:=aq;have hq:=h2 a aq;have hbb:=hb a aq;have hcl:(ks.take j).count (a:Int)<=1000000:=by
   have:=List.count_le_length (a:=(a:Int)) (l:=ks.take j);rw[zA]at this;omega
  have hw2:ak (Q[a]! +1)=Q[a]! +1:=aM;refine⟨Q.set a (Q[a]! +1),?_,by rw[yw];exact h1,λk hk=> ?_⟩
  ·unfold L3;simp only[cV,cT,i1,i2,dM,ea,a3,a4,a5,a6,a7,hw,hw2]
  ·rw[iT _ _ _ _ aq,bC hj,List.count_append,ea];by_cases e:a=k
   ·subst e;rw[bI rfl,hq];simp;omega
   ·rw[bO e,h2 k hk];have:([(a:Int)]).count (k:Int)=0:=List.count_eq_zero.2 (by simp;omega);rw[this];simp) (λQ _=>by unfold L3;simp) (b:=P) ⟨rfl,λk _=>by simp⟩
 rw[zG]at h2;exact⟨Q,e,h1,h2⟩
structure aoY (l:List Part) (c:List Cell):Prop where
 len:zR c=zR l
 el:∀i,i<zR l->c[i]!.b8=l[i]!.b8/\c[i]!.iQ=l[i]!.iQ/\c[i]!.ax=l[i]!.ax
def Cs{l:aa Part}{i:Nat}(h:i<zR l):fL (l.take (i+1))=fL (l.take i)++l[i]!.ax:=by
 unfold fL;rw[bC h,xQ];simp
def WF.Ay{f:aU}{l:aa Part}(h:WF f l){i:Nat}(hi:i<zR l):zR l[i]!.ax<=2:=by
 rcases h.kid i hi with ⟨h1,_⟩|⟨a,b,j,h1,_⟩<;>rw[h1]<;>simp
def WF.Xy{f:aU}{l:aa Part}(h:WF f l):∀i,i<=zR l->zR (fL (l.take i))<=2*i
 |0,_=>by simp[fL]
 |i+1,hi=>by
  have:=h.Xy i aq;have:=h.Ay (i:=i) aq;rw[Cs aq,zg];omega
def aks{f:aU}{l:aa Part}(h:WF f l)(hl:zR l<=100000){c:aa Cell}(hc:aoY l c):aek c=V O:=by
 have hn:zR c=zR l:=hc.len;have h0:=h.ne;obtain⟨P,e,hP,hPk⟩:=cH (rnd:=LA) c.length (λi (P:aa Int)=>⟨c,P,c,(zR c:Int),(i:Int)⟩) (λi P=>zR P=zR c/\∀k,k<zR c->P[k]! =(((fL (l.take i)).count (k:Int):Nat):Int)) (λi P hi ⟨p1,p2⟩=>by
  obtain⟨i1,i2,hw⟩:=w3 hi aq;have hil:i<zR l:=aq;obtain⟨c1,c2,c3⟩:=hc.el i hil;have hkl:=h.Ay hil;have hall:∀x∈c[i]!.ax,∃a:Nat,x=(a:Int)/\(i:Int)<(a:Int)/\a<zR c:=λx hx=>by
   rw[c3]at hx;rcases h.kid i hil with ⟨q1,_⟩|⟨a,b,j,q1,q2,q3,q4,q5,_⟩
   ·rw[q1]at hx;cases hx
   ·rw[q1]at hx;rcases zy.1 hx with rfl|hx
    ·exact⟨a,rfl,aq,aq⟩
    ·rw[zq.1 hx];exact⟨b,rfl,aq,aq⟩
  obtain⟨Q,e1,e2,e3⟩:=XO c (i:Int) 0 c (zR c:Int) (i:Int) c[i]!.ax P (by rw[c3];omega) hall p1 (λk hk=>by
   rw[p2 k aq];have:=h.Xy i aq;have:=List.count_le_length (a:=(k:Int)) (l:=fL (l.take i));omega)
  refine⟨Q,?_,aq,λk hk=> ?_⟩
  ·unfold LA;rcases h.kid i hil with ⟨q1,q2,q3⟩|⟨a,b,j,q1,_⟩
   ·have z:c[i]!.ax=[]:=by rw[c3,q1]
    have z1:c[i]!.b8=0:=by rw[c1,q2]
    have z2:c[i]!.iQ=0:=by rw[c2,q3]
    rw[z]at e1;simp only[y6]at e1;simp only[cV,cT,i1,i2,dM,z,z1,z2,y6,e1,hw];simp
   ·have z:c[i]!.ax=[(a:Int),(b:Int)]:=by rw[c3,q1]
    rw[z]at e1;simp only[yM,y6]at e1;simp only[cV,i1,i2,cI,dM,z,yM,y6,e1,hw];simp
  ·rw[e3 k aq,p2 k hk,Cs hil,List.count_append,c3];simp) (λP _=>by unfold LA;simp) (b:=zj c.length 0) ⟨by simp,λk hk=>by
    rw[getElem!_pos _ k (by simpa using hk)];simp[fL]⟩
 have e':Mg ⟨c,zj c.length 0,c,(zR c:Int),0⟩=V ⟨c,P,c,(zR c:Int),(zR c:Int)⟩:=e;rw[hn,zG]at hPk;have hfin:∀k,k<zR l->P[k]! =if k=0 then 0 else 1:=λk hk=>by
  rw[hPk k hk,h.cnt k hk];split<;>rfl
 obtain⟨-,e2,-⟩:=cH (rnd:=JM) P.length (λi (_:Unit)=>⟨P,(zR P:Int),(i:Int)⟩) (λ_ _=>True) (λi b hi _=>by
  obtain⟨i1,i2,hw⟩:=w3 hi aq;have hp:=hfin i aq;refine⟨(),?_,trivial⟩;unfold JM;by_cases e:i=0
  ·subst e;rw[bI rfl]at hp;simp only[cV,i1,i2,hi,cI,dM,hp,hw];simp[hp]
  ·rw[bO e]at hp;have:¬(i:Int)=0:=aq;simp only[cV,i1,i2,hi,cI,dM,hp,hw,this];simp) (λb _=>by unfold JM;simp) (b:=()) trivial
 have e2':Kc ⟨P,(zR P:Int),0⟩=V ⟨P,(zR P:Int),(zR P:Int)⟩:=e2;have n0:¬(zR c:Int)=0:=aq;have n1:(0:Int)<=(zR c:Int)/\(zR c:Int)<=(zR c:Int)/\(zR c:Int)<=1073741824:=aq;unfold aek;simp only[cV,n0,cw,bI n1,e',yl,e2']
def CR(l:aa aC):Prop:=l.Pairwise λx y=>dI x y<=0
def sy(l:aa aC):(CQ l).Perm l:=List.mergeSort_perm _ _
def Oi(l:aa aC):CR (CQ l):=by
 unfold CQ CR;have:=List.pairwise_mergeSort (le:=λx y=> !Go.Proofs.ltOf dI y x) (λa b c h1 h2=>by
  simp only[Go.Proofs.ltOf,Bool.not_eq_true',decide_eq_false_iff_not]at*;have n1:=dO a b;have n2:=dO b c;have n3:=dO a c
  have:=mN a b c aq aq;omega) (λa b=>by
  simp only[Go.Proofs.ltOf,yJ,Bool.not_eq_true',decide_eq_false_iff_not];have:=dO a b;omega) l
 refine this.imp λ{a b} h=> ?_;simp only[Go.Proofs.ltOf,Bool.not_eq_true',decide_eq_false_iff_not]at h;have:=dO a b;omega
def Gl:∀(l:aa aC) (p:aC),(oy p l).Sublist l
 |[],_=> .slnil
 |y::l,p=>by
  unfold oy;split
  ·exact(Gl l y).cons y
  ·exact(Gl l y).cons_cons y
def GC(l:aa aC):(vY l).Sublist l:=by
 cases l with
 |nil=>exact .slnil
 |cons x l=>exact(Gl l x).cons_cons x
def aaa{l:aa aC}(h:CR l):CR (vY l):=List.Pairwise.sublist (GC l) h
def mI(c:aa dP):aa aC:=(c.filter (·.dX)).map (·.cE)
def jr(c:aa dP):aa aC:=vY (CQ (mI c))
def DT(c:aa dP):CR (jr c):=aaa (Oi _)
def vw(c:aa dP):zR (jr c)<=zR c:=by
 have h1:=(GC (CQ (mI c))).length_le;rw[(sy _).length_eq]at h1;have h2:=yt (λx:dP=>x.dX) c;unfold jr;unfold mI at*;rw[zn]at h1;omega
def Pn{c:aa dP}{o:aC}(h:o∈jr c):∃x∈c,x.dX=O/\x.cE=o:=by
 have:=(sy _).mem_iff.1 ((GC _).subset h);unfold mI at this;obtain⟨x,h1,h2⟩:=zL.1 this;obtain⟨h3,h4⟩:=z7.1 h1;exact⟨x,h3,h4,h2⟩
def Hq{c:aa dP}{i:Nat}(h:i<zR c):mI (c.take (i+1))=if c[i]!.dX then mI (c.take i)++[c[i]!.cE]else mI (c.take i):=by
 unfold mI;rw[bC h,xk,zK];cases e:c[i]!.dX
 ·rw[wM (by rw[e];decide)];simp
 ·rw[wL e];rfl
def alv(f:aU)(v:bW){c:aa dP}(hl:zR c<=1000000):alx ⟨f,v,c⟩=V (jr c,⟨f,v,c⟩):=by
 obtain⟨L,e,hL⟩:=cH (rnd:=K8) c.length (λi (L:aa aC)=>⟨L,c,(zR c:Int),(i:Int),⟨f,v,c⟩⟩) (λi L=>L=mI (c.take i)) (λi L hi hb=>by
  obtain⟨i1,i2,hw⟩:=w3 hi hl;refine⟨mI (c.take (i+1)),?_,rfl⟩;subst hb;have hlen:zR (mI (c.take i))<=1000000:=by
   unfold mI;rw[zn];have:=yt (λx:dP=>x.dX) (c.take i);rw[zA]at this;omega
  have hl2:zR (mI (c.take i)++[c[i]!.cE])<=1073741824:=by rw[zg,yg];omega
  rw[Hq hi];unfold K8;cases es:c[i]!.dX with
  |true=>simp only[cV,i1,i2,hi,cI,dM,es,hl2,hw]
  |false=>simp only[cV,cT,gz,i1,i2,hi,es,hw,yu]) (λL _=>by unfold K8;simp) (b:=[]) (by simp[mI])
 rw[zG]at hL;subst hL;have e':Kb ⟨[],c,(zR c:Int),0,⟨f,v,c⟩⟩=V ⟨mI c,c,(zR c:Int),(zR c:Int),⟨f,v,c⟩⟩:=e;have hlen:zR (mI c)<=1000000:=by
  unfold mI;rw[zn];have:=yt (λx:dP=>x.dX) c;omega
 have h2:zR (CQ (mI c))<=1073741824:=by rw[(sy _).length_eq];omega
 unfold alx;simp only[e',yl,CZ,cw,Yd,Ze,bI (show zR (mI c)<=1073741824 by omega),bI h2];rfl
def uz{α:Type}[Inhabited α](p:α->Bool):∀(l:aa α) (k:Nat),k<=zR l->(∀j,j<zR l->p l[j]! =J (j<k))->zR (l.filter p)=k
 |[],k,hk,_=>by simp at hk ⊢;omega
 |x::l,0,_,h=>by
  have h0:=h 0 (by simp);have:p x=G:=by simpa using h0
  rw[wM (by simp[this])];exact uz p l 0 (yW _) λj hj=>by
   have:=h (j+1) (by simpa using hj);simpa using this
 |x::l,k+1,hk,h=>by
  have h0:=h 0 (by simp);have:p x=O:=by simpa using h0
  rw[wL this,yM,uz p l k (by simpa using hk) λj hj=>by
   have:=h (j+1) (by simpa using hj);simpa using this]
def kS(l:aa aC)(o:aC):Nat:=zR (l.filter λx=>J (dI x o<0))
def Gd(l:aa aC)(o:aC):Bool:=l.any λx=>J (dI x o=0)
def Kl{l:aa aC}(h:CR l){i j:Nat}(hij:i<j)(hj:j<zR l):dI l[i]! l[j]!<=0:=by
 rw[getElem!_pos l i aq,getElem!_pos l j hj];exact List.pairwise_iff_getElem.1 h i j aq hj hij
def alH{l:aa aC}(o:aC){k:Nat}(hk:k<=zR l)(h1:∀j,j<k->dI l[j]! o<0)(h2:∀j,k<=j->j<zR l->0<=dI l[j]! o):kS l o=k:=
 uz _ l k hk λj hj=>by
  by_cases e:j<k
  ·rw[bZ e];exact bZ (h1 j e)
  ·rw[bY e];have:=h2 j aq hj;exact fK
def alk{l:aa aC}(hs:CR l)(o:aC){k:Nat}(hk:k<=zR l)(h1:∀j,j<k->dI l[j]! o<0)(h2:∀j,k<=j->j<zR l->0<=dI l[j]! o):Gd l o=J (k<zR l/\dI l[k]! o=0):=by
 unfold Gd;by_cases e:k<zR l/\dI l[k]! o=0
 ·rw[bZ e,xU];exact⟨l[k]!,bq e.1,bZ e.2⟩
 ·rw[bY e,List.any_eq_false];intro x hx;obtain⟨j,hj,rfl⟩:=yU hx;rw[decide_eq_true_eq];intro he;rw[<-getElem!_pos l j hj]at he;by_cases jk:j<k
  ·have:=h1 j jk;omega
  ·by_cases jk2:j=k
   ·exact e ⟨jk2▸hj,jk2▸he⟩
   ·have a1:=Kl hs (show k<j by omega) hj;have a2:=h2 k (zm _) aq;have a3:=mN l[k]! l[j]! o a1 aq;exact e ⟨aq,aq⟩
def aFc{x:Int}(h1:0<=x)(h2:x<9223372036854775808):cS u64 (bG x) 1=x/2:=by
 have:bG x=x:=by simp[ak,bG,IntKind.wrap,IntKind.bits,IntKind.signed];omega
 rw[this];unfold cS;have e:(2:Int)^(min (1:Int).toNat u64.bits)=2:=by decide
 rw[e,Int.fdiv_eq_ediv_of_nonneg _ aq]
def api{q:aC->aC->af Int}{l:aa aC}(hs:CR l)(hl:zR l<=1000000)(o:aC)(ho:∀x∈l,q x o=V (dI x o)):mB q l o=V ((kS l o:Int),Gd l o):=by
 have key:∀(d lo_ hi_:Nat),hi_-lo_<=d->lo_<=hi_->hi_<=zR l->(∀j,j<lo_->dI l[j]! o<0)->(∀j,hi_<=j->j<zR l->0<=dI l[j]! o)->
   ∃k:Nat,bJ (nB q) ⟨l,(zR l:Int),(lo_:Int),(hi_:Int),o⟩=V ⟨l,(zR l:Int),(k:Int),(k:Int),o⟩/\k<=zR l/\(∀j,j<k->dI l[j]! o<0)/\∀j,k<=j->j<zR l->0<=dI l[j]! o:=by
  intro d;induction d with
  |zero=>
   intro a b h1 h2 h3 h4 h5;have:a=b:=aq;subst this;exact⟨a,ct λr=>by unfold nB;simp,h3,h4,h5⟩
  |succ d ih=>
   intro a b h1 h2 h3 h4 h5;by_cases hab:a=b
   ·subst hab;exact⟨a,ct λr=>by unfold nB;simp,h3,h4,h5⟩
   ·have hlt:(a:Int)<(b:Int):=aq;have w1:ak ((a:Int)+(b:Int))=(a:Int)+(b:Int):=aM;have s1:=aFc (x:=(a:Int)+(b:Int)) aq aq;obtain⟨m,hm⟩:∃m:Nat,((a:Int)+(b:Int))/2=(m:Int):=⟨((a+b)/2:Nat),aq⟩;have m1:a<=m/\m<b:=aq;have w2:ak (m:Int)=(m:Int):=aM;have w3:ak ((m:Int)+1)=((m+1:Nat):Int):=jJ (n:=1000000) aq aq;have i1:(m:Int)<(zR l:Int):=aq;have i2:(0:Int)<=(m:Int):=aq;have Ma:=ho l[m]! (bq aq);by_cases hc:dI l[m]! o<0
    ·have r:nB q ⟨l,(zR l:Int),(a:Int),(b:Int),o⟩=V (V ⟨l,(zR l:Int),((m+1:Nat):Int),(b:Int),o⟩):=by
      unfold nB;simp only[cV,hlt,cI,w1,s1,hm,w2,w3,i1,i2,dM,Ma,hc]
     obtain⟨k,q1,q2⟩:=ih (m+1) b aq aq h3 (λj hj=>by
      by_cases e:j=m
      ·rw[e];exact hc
      ·have:=Kl hs (show j<m by omega) aq;have n1:=dO l[j]! o;have n2:=dO l[m]! o
       have:=mN o l[j]! l[m]!;by_cases z:dI l[j]! o<0
       ·exact z
       ·have:=this aq (by assumption);omega) h5
     exact⟨k,by rw[bR r];exact q1,q2⟩
    ·have r:nB q ⟨l,(zR l:Int),(a:Int),(b:Int),o⟩=V (V ⟨l,(zR l:Int),(a:Int),(m:Int),o⟩):=by
      unfold nB;simp only[cV,cT,hlt,w1,s1,hm,w2,i1,i2,dM,Ma,hc]
     obtain⟨k,q1,q2⟩:=ih a m aq aq aq h4 (λj hj1 hj2=>by
      by_cases e:j=m
      ·rw[e];omega
      ·have:=Kl hs (show m<j by omega) hj2;have n1:=dO l[j]! o;have n2:=dO l[m]! o
       by_cases z:dI l[j]! o<0
       ·have:=mN l[m]! l[j]! o (by assumption) aq;have:dI l[m]! o=0:=aq;have e3:=nr this;have:=mN o l[m]! l[j]! aq (by assumption);omega
       ·omega)
     exact⟨k,by rw[bR r];exact q1,q2⟩
 obtain⟨k,e,h1,h2,h3⟩:=key l.length 0 l.length aq aq (zm _) (λj hj=>aq) (λj h1 h2=>aq);have e':bJ (nB q) ⟨l,(zR l:Int),0,(zR l:Int),o⟩=V ⟨l,(zR l:Int),(k:Int),(k:Int),o⟩:=e;rw[alH o h1 h2 h3,alk hs o h1 h2 h3];unfold mB;simp only[e',yl,CZ,cw];by_cases hk:k<zR l
 ·have i1:(k:Int)<(zR l:Int):=aq;have i2:(0:Int)<=(k:Int):=aq;have Ma:=ho l[k]! (bq hk);simp only[cV,i1,i2,cI,dM,Ma,hk,true_and]
 ·have i1:¬(k:Int)<(zR l:Int):=aq;simp only[i1,CZ,cw,hk,false_and]
def akg{l:aa aC}(hs:CR l)(hl:zR l<=1000000)(o:aC)(ho:∀x∈l,zR x.aK<=9223372036854775807):anm l o=V ((kS l o:Int),Gd l o):=api hs hl o λx hx=>Dt x o (ho x hx)
def kW(L:aa aC)(c:dP):Cell:=⟨c.b8,c.iQ,c.ax,if c.dX then[(kS L c.cE:Int)]else[],c.gv⟩
def fO(c:aa dP):bk:=⟨jr c,c.map (kW (jr c))⟩
structure Csz (c:List dP):Prop where
 len:zR c<=100000
 kid:∀i,i<zR c->zR c[i]!.ax<=1000
 obs:∀i,i<zR c->zR c[i]!.cE.aK<=1000
def Csz.mem{c:aa dP}(h:Csz c){o:aC}(ho:o∈jr c):zR o.aK<=1000:=by
 obtain⟨x,h1,_,rfl⟩:=Pn ho;obtain⟨i,hi,rfl⟩:=yU h1;rw[<-getElem!_pos c i hi];exact h.obs i hi
def JG(f:aU)(v:bW){c:aa dP}(h:Csz c):Zt ⟨f,v,c⟩=V (fO c,⟨f,v,c⟩):=by
 have hcl:=h.len;have hll:=vw c;have aiK:=alv f v (c:=c) aq;obtain⟨L,hL⟩:∃L,L=jr c:=⟨_,rfl⟩;have hLl:zR L<=zR c:=by rw[hL];exact hll
 obtain⟨b,e1,hb⟩:=cH (rnd:=KF) L.length (λi (b:aa aC)=>⟨L,L,(zR L:Int),(i:Int),⟨f,v,c⟩,⟨[],[]⟩,⟨b,[]⟩⟩) (λi b=>b=L.take i) (λi b hi hb=>by
  obtain⟨i1,i2,hw⟩:=w3 hi aq;have e35:=ac5 (l:=L[i]!.aK) (h.mem (hL▸bq hi));have hl2:zR (b++[L[i]!])<=1073741824:=by rw[hb,zg,zA,yg];omega
  refine⟨b++[L[i]!],?_,by rw[hb,bC hi]⟩;unfold KF;simp only[cV,i1,i2,hi,cI,dM,e35,hl2,hw]) (λb _=>by unfold KF;simp) (b:=[]) (by simp)
 rw[zG]at hb;subst hb;have e1':K0 ⟨b,b,(zR b:Int),0,⟨f,v,c⟩,⟨[],[]⟩,⟨[],[]⟩⟩=V ⟨b,b,(zR b:Int),(zR b:Int),⟨f,v,c⟩,⟨[],[]⟩,⟨b,[]⟩⟩:=e1;obtain⟨C,e2,hC⟩:=cH (rnd:=LZ) c.length (λi (C:aa Cell)=>⟨b,c,(zR c:Int),(i:Int),⟨f,v,c⟩,⟨[],[]⟩,⟨b,C⟩⟩) (λi C=>C=(c.take i).map (kW b)) (λi C hi hC=>by
  obtain⟨i1,i2,hw⟩:=w3 hi aq;have e35:=ac5 (l:=c[i]!.ax) (h.kid i hi);have GU:=akg (l:=b) (by rw[hL];exact DT c) aq c[i]!.cE (λx hx=>by have:=h.mem (hL▸hx);omega);have hl2:∀x:Cell,zR (C++[x])<=1073741824:=λx=>by rw[hC,zg,zn,zA,yg];omega
  refine⟨C++[kW b c[i]!],?_,by rw[hC,bC hi,zK];rfl⟩;unfold LZ;cases es:c[i]!.dX with
  |true=>simp only[cV,i1,i2,hi,cI,dM,e35,es,GU,hl2,hw,kW]
  |false=>simp only[cV,cT,gz,i1,i2,hi,e35,es,hl2,hw,kW,yu]) (λC _=>by unfold LZ;simp) (b:=[]) (by simp)
 rw[zG]at hC;subst hC;have e2':KW ⟨b,c,(zR c:Int),0,⟨f,v,c⟩,⟨[],[]⟩,⟨b,[]⟩⟩=V ⟨b,c,(zR c:Int),(zR c:Int),⟨f,v,c⟩,⟨[],[]⟩,⟨b,c.map (kW b)⟩⟩:=e2;unfold Zt;rw[<-hL]at aiK;simp only[aiK,e1',e2',yl,CZ,cw,fO,<-hL]
end Go.Proofs.YtnfljbehcffmcaaGreat
end
noncomputable section
set_option maxRecDepth 100000
namespace Go.Proofs.YtnfljbehcffmcaaGreat
open Go Go.Iv
open Go.IntKind (i64 u64)
section
variable {f:aU} {v:bW}
def ny(c:Cx f v){l:aa Part}(h:WF f l)(hl:zR l<=100000):Csz (l.map (cellOf f v)):=by
 refine⟨by simpa using hl,λi hi=> ?_,λi hi=> ?_⟩
 ·have hi':i<zR l:=by simpa using hi
  rw[eo _ _ _ hi'];have:=h.Ay hi';show zR l[i]!.ax<=1000;omega
 ·have hi':i<zR l:=by simpa using hi
  rw[eo _ _ _ hi'];have:=(h.box i hi').obl c;show zR (AE f v l[i]!.bK).aK<=1000;omega
def Mw(c:Cx f v):NO f v=V (⟨f,v,[cellOf f v ⟨0,0,[],oB f⟩]⟩,0):=by
 have e76:=atM f c.hN (by have:=c.hh;omega) c.hl;rw[bI c.hc]at e76;have hb:=U3 c;unfold NO;simp only[e76,hb.RI c,hb.ZC c];rfl
def Np(l:aa Part):aoY l (fO (l.map (cellOf f v))).aX:=by
 refine⟨by simp[fO],λi hi=> ?_⟩;have e:(fO (l.map (cellOf f v))).aX[i]! =kW (jr (l.map (cellOf f v))) (cellOf f v l[i]!):=by
  show ((l.map (cellOf f v)).map (kW _))[i]! =_;rw[eo _ _ _ (by simpa using hi),eo _ _ _ hi]
 rw[e];exact⟨rfl,rfl,rfl⟩
def vp(l:aa Int)(hl:zR l<=1000):m77 l l=V O:=by
 obtain⟨-,e,-⟩:=cH (rnd:=Uv) l.length (λi (_:Unit)=>⟨l,l,(zR l:Int),(i:Int)⟩) (λ_ _=>True) (λi b hi _=>by
  obtain⟨i1,i2,hw⟩:=w3 hi aq;refine⟨(),?_,trivial⟩;unfold Uv;simp only[cV,cT,i1,i2,dM,hw]) (λb _=>by unfold Uv;simp) (b:=()) trivial
 have e':VT ⟨l,l,(zR l:Int),0⟩=V ⟨l,l,(zR l:Int),(zR l:Int)⟩:=e;unfold m77;simp only[cV,cT,e',yl]
def YJ(x:Cell)(h1:zR x.ax<=1000)(h2:zR x.cE<=1000):acH x x=V O:=by
 unfold acH;simp only[Cv,cI,vp _ h1,vp _ h2]
def axP{α β:Type}[Inhabited α][Inhabited β]{q:α->β->af Bool}{a:aa α}{b:aa β}(hl:zR a<=9223372036854775807)(h:zR a=zR b->∀i,i<zR a->∃r,q a[i]! b[i]! =V r):∃r,mE q a b=V r/\(r=O↔a.length=zR b/\∀i,i<zR a->q a[i]! b[i]! =V O):=by
 by_cases he:zR a=zR b
 ·have hd:J ((zR a:Int)=(zR b:Int))=O:=oo;obtain⟨i,-,e,hI,hS⟩:=lM (rnd:=nE q) a.length (λi (_:Unit)=>⟨b,a,(zR a:Int),(i:Int)⟩) (λi _=>∀j,j<i->q a[j]! b[j]! =V O) (λi _=>q a[i]! b[i]! =V G) (λi _ hi hI=>by
   have hw:=wI hi hl;have i1:(i:Int)<(zR a:Int):=aq;have i2:(0:Int)<=(i:Int):=aq;have i3:(i:Int)<(zR b:Int):=aq;obtain⟨r,hr⟩:=h he i hi;cases r with
   |true=>
    refine .inl ⟨(),?_,λj hj=> ?_⟩
    ·unfold nE;simp only[cV,cT,i1,i2,i3,dM,hr,hw]
    ·by_cases e:j=i
     ·rw[e];exact hr
     ·exact hI j aq
   |false=>
    refine .inr ⟨?_,hr⟩;unfold nE;simp only[cV,cT,i1,i2,i3,dM,hr]) (λ_ _=>by unfold nE;simp) (b:=()) λj hj=>aq
  have e':bJ (nE q) ⟨b,a,(zR a:Int),0⟩=V ⟨b,a,(zR a:Int),(i:Int)⟩:=e;unfold mE;rcases hS with hn|⟨hi,hS⟩
  ·refine⟨O,?_,λ_=>⟨he,hn▸hI⟩,λ_=>rfl⟩;rw[hn]at e';simp only[cT,hd,e',yl,CZ]
  ·refine⟨false,?_,⟨(λh=>by cases h),λhh=> ?_⟩⟩
   ·have i1:(i:Int)<(zR a:Int):=aq;have i2:(0:Int)<=(i:Int):=aq;have i3:(i:Int)<(zR b:Int):=aq;simp only[cV,cT,hd,e',i1,i2,i3,dM,hS]
   ·have:=hh.2 i hi;rw[hS]at this;cases this
 ·have he':¬(zR a:Int)=(zR b:Int):=aq;refine⟨false,?_,⟨(λh=>by cases h),λhh=>ei hh.1 he⟩⟩;unfold mE;simp only[cT,he',CZ]
def vE{α β:Type}[Inhabited α][Inhabited β]{q:α->β->af Bool}{a:aa α}{b:aa β}(hl:zR a<=1000000)(he:zR a=zR b)(h:∀i,i<zR a->q a[i]! b[i]! =V O):mE q a b=V O:=by
 obtain⟨r,e,hr⟩:=axP (a:=a) (b:=b) aq λ_ i hi=>⟨O,h i hi⟩;rw[e,hr.2 ⟨he,h⟩]
def ZF(l:aa Cell)(hl:zR l<=1000000)(h:∀i,i<zR l->zR l[i]!.ax<=1000/\zR l[i]!.cE<=1000):ak6 l l=V O:=vE hl rfl λi hi=>YJ _ (h i hi).1 (h i hi).2
def abV(l:aa aC)(hl:zR l<=1000000)(h:∀x∈l,zR x.aK<=1000):m71 l l=V O:=vE hl rfl λi hi=>by
 unfold ah5;rw[Dt _ _ (by have:=h _ (bq hi);omega),rR];rfl
def Zg:∀{p:Part},p.ax=[]->p.b8=0->p.iQ=0->p=⟨0,0,[],p.bK⟩
 |⟨_,_,_,_⟩,h1,h2,h3=>by cases h1;cases h2;cases h3;rfl
def XE{j:Int}{k:aa Int}:∀{p:Part},p.ax=k->p.b8=j->p=⟨j,p.iQ,k,p.bK⟩
 |⟨_,_,_,_⟩,h1,h2=>by cases h1;cases h2;rfl
def MM(c:Cx f v){l:aa Part}(h:WF f l)(hl:zR l<=8192):OU f v (fO (l.map (cellOf f v)))=V (⟨f,v,l.map (cellOf f v)⟩,0):=by
 have hsz:=ny c h aq;have hsh:=Np (f:=f) (v:=v) l;obtain⟨C,hC⟩:∃C,C=(fO (l.map (cellOf f v))).aX:=⟨_,rfl⟩;have hCl:zR C=zR l:=by rw[hC];exact hsh.len
 rw[<-hC]at hsh;have h0:=h.ne;have hidl:=j9 c;have ali:=aks h aq hsh;obtain⟨s,hs⟩:∃s,s=fO (l.map (cellOf f v)):=⟨_,rfl⟩;rw[<-hs]at hC ⊢;obtain⟨B,e,hBl,hB⟩:=cH (rnd:=vL) l.length (λi (B:aa (aa aL))=>⟨B,C,(zR l:Int),(i:Int),s,⟨f,v,(l.take i).map (cellOf f v)⟩⟩) (λi B=>zR B=zR l/\∀j,j<zR l->(j=0\/∃p,p<i/\(j:Int)∈l[p]!.ax)->B[j]! =l[j]!.bK) (λi B hi ⟨b1,b2⟩=>by
  obtain⟨i1,i2,hw⟩:=w3 hi aq;have i3:i<zR B:=aq;have eB:B[i]! =l[i]!.bK:=b2 i hi (by
   by_cases e:i=0
   ·exact .inl e
   ·obtain⟨p,p1,p2⟩:=h.parent hi e;exact .inr ⟨p,p1,p2⟩)
  have hb:=h.box i hi;have e25:=hb.RI c;have e26:=hb.ZC c;obtain⟨s1,s2,s3⟩:=hsh.el i hi;have elen:zR ((l.take i).map (cellOf f v))=i:=by rw[zn,zA];omega
  have g2:fT ⟨B,C,(zR l:Int),(i:Int),s,⟨f,v,(l.take i).map (cellOf f v)⟩⟩ (bdX f v l[i]!.bK,0) (AE f v l[i]!.bK,MG f v l[i]!.bK,0)=(l.take i++[(⟨0,0,[],l[i]!.bK⟩:Part)]).map (cellOf f v):=by
   unfold fT;simp only[zi,eB,zK,yc,yT];rfl
  have gl:zR ((l.take i++[(⟨0,0,[],l[i]!.bK⟩:Part)]).map (cellOf f v))<=1073741824:=by simp;omega
  have gl2:zR ((l.take i++[(⟨0,0,[],l[i]!.bK⟩:Part)]).map (cellOf f v))=i+1:=by simp;omega
  rcases h.kid i hi with ⟨q1,q2,q3⟩|⟨a,b,j,q1,q2,q3,q4,q5,q6,q7,q8,q9,q10,q11,q12⟩
  ·refine⟨B,?_,b1,λx hx hp=>b2 x hx ?_⟩
   ·have ek:C[i]!.ax=[]:=by rw[s3,q1]
    have et:(l.take (i+1)).map (cellOf f v)=(l.take i++[(⟨0,0,[],l[i]!.bK⟩:Part)]).map (cellOf f v):=by
     rw[bC hi];rw[<-Zg q1 q2 q3]
    rw[et];unfold vL;simp only[cV,i1,i2,i3,hCl,b1,eB,cI,dM,e25,e26,g2,gl,ek,y6,hw,hi];rfl
   ·rcases hp with hp|⟨p,p1,p2⟩
    ·exact .inl hp
    ·refine .inr ⟨p,?_,p2⟩;by_cases e:p=i
     ·rw[e,q1]at p2;cases p2
     ·omega
  ·have hj:=q8;have hd:=hb.bd c.hc hj;have ad3:=WA (b:=l[i]!.bK) (by rw[hb.len];omega) hj (a:=l[i]!.iQ) aq aq;have ek:C[i]!.ax=[(a:Int),(b:Int)]:=by rw[s3,q1]
   have ein:C[i]!.b8=(j:Int):=by rw[s1,q7]
   have eat:C[i]!.iQ=l[i]!.iQ:=s2;refine⟨(B.set a (ZA l[i]!.bK j l[i]!.iQ)).set b (ZL l[i]!.bK j l[i]!.iQ),?_,by simpa using b1,λx hx hp=> ?_⟩
   ·have et:(l.take (i+1)).map (cellOf f v)=(l.take i++[l[i]!]).map (cellOf f v):=by rw[bC hi]
    have gx:∀q:Part,((l.take i++[q]).map (cellOf f v))[i]! =cellOf f v q:=λq=>by
     rw[eo _ _ _ (by simp;omega)];have:=EZ (l.take i) [q] 0 (by simp);rw[zA,Nat.min_eq_left aq]at this;exact congrArg (cellOf f v) this
    have gs:∀q r:Part,((l.take i++[q]).map (cellOf f v)).set i (cellOf f v r)=(l.take i++[r]).map (cellOf f v):=λq r=>by
     rw[<-List.map_set]
     congr 1
     rw[List.set_append_right _ _ (by rw[zA];omega),zA,Nat.min_eq_left aq,xS];rfl
    have g0:iq ⟨B,C,(zR l:Int),(i:Int),s,⟨f,v,(l.take i).map (cellOf f v)⟩⟩ (bdX f v l[i]!.bK,0) (AE f v l[i]!.bK,MG f v l[i]!.bK,0)=(l.take i++[(⟨(j:Int),0,[],l[i]!.bK⟩:Part)]).map (cellOf f v):=by
     unfold iq;rw[g2];simp only[zi,gx,ein];exact gs _ ⟨(j:Int),0,[],l[i]!.bK⟩
    have g1:iB ⟨B,C,(zR l:Int),(i:Int),s,⟨f,v,(l.take i).map (cellOf f v)⟩⟩ (bdX f v l[i]!.bK,0) (AE f v l[i]!.bK,MG f v l[i]!.bK,0)=(l.take i++[(⟨(j:Int),l[i]!.iQ,[],l[i]!.bK⟩:Part)]).map (cellOf f v):=by
     unfold iB;rw[g0];simp only[zi,gx,eat];exact gs _ ⟨(j:Int),l[i]!.iQ,[],l[i]!.bK⟩
    have gl3:∀q:Part,zR ((l.take i++[q]).map (cellOf f v))=i+1:=λq=>by simp;omega
    have e35:=ac5 (l:=[(a:Int),(b:Int)]) (by simp);have elast:=XE q1 q7;have gl4:i+1<=1073741824:=aq;have gf:=gs ⟨(j:Int),l[i]!.iQ,[],l[i]!.bK⟩ ⟨(j:Int),l[i]!.iQ,[(a:Int),(b:Int)],l[i]!.bK⟩;rw[et];have c1:¬(j:Int)<0:=aq;have c2:¬(zR l[i]!.bK:Int)<=(j:Int):=aq;have c3:(0:Int)<=(j:Int):=aq;have c4:(j:Int)<(zR l[i]!.bK:Int):=aq;have c5:¬l[i]!.iQ<l[i]!.bK[j]!.ah:=aq;have c6:¬l[i]!.bK[j]!.ag<=l[i]!.iQ:=aq;have c7:(0:Int)<=(a:Int):=aq;have c8:(a:Int)<(zR l:Int):=aq;have c9:(0:Int)<=(b:Int):=aq;have c10:(b:Int)<(zR l:Int):=aq;have c11:(i:Int)<((i+1:Nat):Int):=aq;have k0:([(a:Int),(b:Int)])[0]! =(a:Int):=rfl;have k1:([(a:Int),(b:Int)])[1]! =(b:Int):=rfl;have t0:zD 0=0:=rfl;have t1:zD 1=1:=rfl;unfold vL;simp only[cV,cT,i1,i2,i3,hCl,b1,eB,dM,e25,e26,g2,gl,ek,ein,eat,yM,y6,hw,c1,c2,c3,c4,c5,c6,ad3,t0,t1,k0,k1,c7,c8,c9,c10,q3,q5,yw,e35,gl3,c11,g0,g1,gx,zC,gl4,hi];simp only[cellOf]at gf ⊢;rw[gf,<-elast];rfl
   ·have hxs:((B.set a (ZA l[i]!.bK j l[i]!.iQ)).set b (ZL l[i]!.bK j l[i]!.iQ))[x]! =if b=x then ZL l[i]!.bK j l[i]!.iQ else if a=x then ZA l[i]!.bK j l[i]!.iQ else B[x]! :=by
     rw[iT _ _ _ _ (by simpa [b1]using hx),iT _ _ _ _ (by rw[b1];exact hx)]
    rw[hxs];by_cases xb:b=x
    ·rw[bI xb,<-xb,q12]
    ·rw[bO xb];by_cases xa:a=x
     ·rw[bI xa,<-xa,q11]
     ·rw[bO xa];refine b2 x hx ?_;rcases hp with hp|⟨p,p1,p2⟩
      ·exact .inl hp
      ·refine .inr ⟨p,?_,p2⟩;by_cases e:p=i
       ·rw[e,q1]at p2;rcases zy.1 p2 with p2|p2
        ·omega
        ·have:=zq.1 p2;omega
       ·omega) (λB hB=>by unfold vL;simp) (b:=(zj l.length []).set 0 (oB f)) ⟨by simp,λj hj hp=>by
    rcases hp with rfl|⟨p,hp,_⟩
    ·rw[iT _ _ _ _ (by simpa using hj),bI rfl,h.root]
    ·omega⟩
 rw[zG]at e;have e':DK ⟨(zj l.length []).set 0 (oB f),C,(zR l:Int),0,s,⟨f,v,[]⟩⟩=V ⟨B,C,(zR l:Int),(zR l:Int),s,⟨f,v,l.map (cellOf f v)⟩⟩:=e;have e118:=Mw c;have GR:=JG f v hsz;rw[<-hs]at GR;have hll:=vw (l.map (cellOf f v));rw[zn]at hll;have Sb:ak6 s.aX s.aX=V O:=ZF _ (by rw[<-hC,hCl];omega) λi hi=>by
  rw[<-hC]at hi ⊢;rw[hCl]at hi;have es:C[i]! =kW (jr (l.map (cellOf f v))) (cellOf f v l[i]!):=by
   rw[hC,hs];show ((l.map (cellOf f v)).map (kW _))[i]! =_;rw[eo _ _ _ (by simpa using hi),eo _ _ _ hi]
  rw[es];refine⟨by have:=h.Ay hi;show zR l[i]!.ax<=_;omega,?_⟩;unfold kW;dsimp only;split<;>simp
 have e71:m71 s.cE s.cE=V O:=abV _ (by rw[hs];show zR (jr _)<=_;omega) λx hx=>by
  rw[hs]at hx;exact hsz.mem hx
 have n1:¬(8192:Int)<(zR l:Int):=aq;have n2:(0:Int)<=(zR l:Int)/\(zR l:Int)<=(zR l:Int)/\(zR l:Int)<=1073741824:=aq;have n3:(0:Int)<(zR l:Int):=aq;have e0:([cellOf f v ⟨0,0,[],oB f⟩])[0]!.bK=oB f:=rfl;have e1:(0:Int)<((0+1:Nat):Int):=by decide
 have e2:0<0+1:=by decide
 have n4:=n2.1;have n5:=n2.2.2;rw[hC]at e' ali hCl;unfold OU;simp only[cV,cT,e118,hCl,n1,ali,n4,n5,yM,y6,xP,n3,h0,dM,zw,e0,e1,e2,e',yl,GR,Sb,e71]
end
end Go.Proofs.YtnfljbehcffmcaaGreat
end
noncomputable section
set_option maxRecDepth 100000
namespace Go.Proofs.YtnfljbehcffmcaaGreat
open Go Go.Iv
open Go.IntKind (i64 u64)
def rg(n:aL):Int:=n.ag-n.ah
def Zu(b:aa aL):Nat->Nat
 |0=>0
 |k+1=>if rg b[Zu b k]! <rg b[k]! then k else Zu b k
def wid(b:aa aL):Nat:=Zu b b.length
def Fc(b:aa aL):Int:=(b[wid b]!.ah+b[wid b]!.ag)/2
def nJ(b:aa aL):Bool:=b.any λn=>J (0<rg n)
def AN{b:aa aL}(h:0<zR b):∀k,k<=zR b->Zu b k<zR b
 |0,_=>h
 |k+1,hk=>by
  have:=AN h k aq;unfold Zu;split<;>omega
def Xr{b:aa aL}:∀k j,j<k->rg b[j]!<=rg b[Zu b k]!
 |k+1,j,hj=>by
  have ih:=Xr (b:=b) k;unfold Zu;by_cases e:j=k
  ·subst e;split<;>omega
  ·have:=ih j aq;split<;>omega
section
variable {f:aU} {v:bW}
def IJ(b:aa aL):nJ b=O↔0<zR b/\0<rg b[wid b]! :=by
 unfold nJ;rw[xU];constructor
 ·rintro⟨n,hn,h⟩;obtain⟨i,hi,rfl⟩:=yU hn;rw[decide_eq_true_eq,<-getElem!_pos b i hi]at h;have:=Xr (b:=b) b.length i hi;exact⟨aq,by unfold wid;omega⟩
 ·rintro⟨h1,h2⟩;exact⟨b[wid b]!,bq (AN h1 _ (zm _)),bZ h2⟩
def De{b:aa aL}(h:nJ b=O):wid b<zR b/\b[wid b]!.ah<=Fc b/\Fc b<b[wid b]!.ag:=by
 obtain⟨h1,h2⟩:=(IJ b).1 h;unfold rg at h2;unfold Fc;exact⟨AN h1 _ (zm _),aq,aq⟩
def iG.rgw{b:aa aL}(h:iG f b)(c:pL f=0){j:Nat}(hj:j<zR b):ak (b[j]!.ag-b[j]!.ah)=rg b[j]!/\0<=rg b[j]!/\rg b[j]!<=2097152:=by
 have:=h.bd c hj;unfold rg;exact⟨aM,aq,aq⟩
def C6{b:aa aL}(h:iG f b)(c:pL f=0){j:Nat}(hj:j<zR b):MJ b[j]! =rg b[j]! +1:=by
 obtain⟨h1,h2,h3⟩:=h.rgw c hj;unfold MJ;rw[h1,aM]
def ahQ{b:aa aL}(h:iG f b)(c:Cx f v):aik b=V (nJ b):=by
 have hbl:zR b<=1000000:=by have:=j9 c;rw[h.len];omega
 obtain⟨i,-,e,hB,hI⟩:=lM (rnd:=FP) b.length (λi (_:Unit)=>⟨b,(zR b:Int),(i:Int)⟩) (λi _=>∀j,j<i->¬0<rg b[j]!) (λi _=>0<rg b[i]!) (λi u hi hb=>by
  obtain⟨i1,i2,hw⟩:=w3 hi hbl;have Zo:=C6 h c.hc hi;by_cases hr:0<rg b[i]!
  ·refine .inr ⟨?_,hr⟩;have:(1:Int)<rg b[i]! +1:=aq;unfold FP Yj;simp only[cV,i1,i2,cI,dM,Zo,this]
  ·refine .inl ⟨(),?_,λj hj=> ?_⟩
   ·have:¬(1:Int)<rg b[i]! +1:=aq;unfold FP Yj;simp only[cV,cT,i1,i2,dM,Zo,this,hw]
   ·by_cases e:j=i
    ·rw[e];exact hr
    ·exact hb j aq) (λu _=>by unfold FP;simp) (b:=()) (λj hj=>aq)
 have e':Kh ⟨b,(zR b:Int),0⟩=V ⟨b,(zR b:Int),(i:Int)⟩:=e;unfold aik as3;simp only[e'];rcases hI with rfl|⟨hi,hr⟩
 ·have:nJ b=G:=by
   unfold nJ;rw[List.any_eq_false];intro x hx;obtain⟨j,hj,rfl⟩:=yU hx;rw[<-getElem!_pos b j hj,decide_eq_true_eq];exact hB j hj
  rw[this];simp only[yl,CZ,cw];rfl
 ·have:nJ b=O:=by
   unfold nJ;rw[xU];exact⟨b[i]!,bq hi,bZ hr⟩
  rw[this];have i1:(i:Int)<(zR b:Int):=aq;have i2:(0:Int)<=(i:Int):=aq;have Zo:=C6 h c.hc hi;have:(1:Int)<rg b[i]! +1:=aq;unfold Yj;simp only[cV,i1,i2,cI,dM,Zo,this]
def ahh{b:aa aL}(h:iG f b)(c:Cx f v)(t1:Int)(T:Tree):C8 ⟨t1,b,0,b,(zR b:Int),0,T⟩=V ⟨t1,b,(wid b:Int),b,(zR b:Int),(zR b:Int),T⟩:=by
 have hbl:zR b<=1000000:=by have:=j9 c;rw[h.len];omega
 obtain⟨w,e,hw⟩:=cH (rnd:=vT) b.length (λi (w:Nat)=>⟨t1,b,(w:Int),b,(zR b:Int),(i:Int),T⟩) (λi w=>w=Zu b i) (λi w hi hb=>by
  obtain⟨i1,i2,hw⟩:=w3 hi hbl;have hwl:=AN (b:=b) aq i aq;rw[<-hb]at hwl;have w1:(w:Int)<(zR b:Int):=aq;have w2:(0:Int)<=(w:Int):=aq;have e1:=C6 h c.hc hi;have e2:=C6 h c.hc hwl;by_cases hr:rg b[w]! <rg b[i]!
  ·refine⟨i,?_,by unfold Zu;rw[<-hb,bI hr]⟩;have:rg b[w]! +1<rg b[i]! +1:=aq;unfold vT;simp only[cV,i1,i2,w1,w2,cI,dM,e1,e2,this,hw]
  ·refine⟨w,?_,by unfold Zu;rw[<-hb,bO hr]⟩;have:¬rg b[w]! +1<rg b[i]! +1:=aq;unfold vT;simp only[cV,cT,i1,i2,w1,w2,dM,e1,e2,this,hw]) (λw _=>by unfold vT;simp) (b:=0) rfl
 subst hw;exact e
def ahH{b:aa aL}(h:iG f b)(c:Cx f v):I6 ⟨b,0,b,(zR b:Int),0⟩=V ⟨b,(wid b:Int),b,(zR b:Int),(zR b:Int)⟩:=by
 have hbl:zR b<=1000000:=by have:=j9 c;rw[h.len];omega
 obtain⟨w,e,hw⟩:=cH (rnd:=Fv) b.length (λi (w:Nat)=>⟨b,(w:Int),b,(zR b:Int),(i:Int)⟩) (λi w=>w=Zu b i) (λi w hi hb=>by
  obtain⟨i1,i2,hw⟩:=w3 hi hbl;have hwl:=AN (b:=b) aq i aq;rw[<-hb]at hwl;have w1:(w:Int)<(zR b:Int):=aq;have w2:(0:Int)<=(w:Int):=aq;have e1:=(h.rgw c.hc hi).1;have e2:=(h.rgw c.hc hwl).1;by_cases hr:rg b[w]! <rg b[i]!
  ·refine⟨i,?_,by unfold Zu;rw[<-hb,bI hr]⟩;unfold Fv;simp only[cV,i1,i2,w1,w2,cI,dM,e1,e2,hr,hw]
  ·refine⟨w,?_,by unfold Zu;rw[<-hb,bO hr]⟩;unfold Fv;simp only[cV,cT,i1,i2,w1,w2,dM,e1,e2,hr,hw]) (λw _=>by unfold Fv;simp) (b:=0) rfl
 subst hw;exact e
def iG.aB3{b:aa aL}(h:iG f b)(c:pL f=0){j:Nat}(hj:j<zR b):ak (b[j]!.ah+b[j]!.ag)=b[j]!.ah+b[j]!.ag:=by
 have:=h.bd c hj;exact aM
def az0(x:Int):cS IntKind.i64 x 1=x/2:=by
 unfold cS;have e:(2:Int)^(min (1:Int).toNat IntKind.i64.bits)=2:=by decide
 rw[e,Int.fdiv_eq_ediv_of_nonneg _ aq]
def aeW(x:Int):YS x 2=x/2:=by
 unfold YS;have:=Int.tmod_eq_emod (a:=x) (b:=2);have:=Int.tdiv_eq_ediv (a:=x) (b:=2);split
 ·omega
 ·split<;>grind
def amX{b:aa aL}(h:iG f b)(c:Cx f v):aj5 b=V (if nJ b=O then((wid b:Int),Fc b,O)else(0,0,G)):=by
 have e:=ahH h c;unfold aj5;simp only[cV,e,yl,cw];by_cases h0:zR b=0
 ·have:nJ b=G:=by rw[xw.1 h0];rfl
  rw[this];simp[h0]
 ·have hl:=AN (b:=b) aq _ (zm _);have hl:wid b<zR b:=hl;have i0:¬(zR b:Int)=0:=aq;have i1:(wid b:Int)<(zR b:Int):=aq;have i2:(0:Int)<=(wid b:Int):=aq;obtain⟨-,r2,-⟩:=h.rgw c.hc hl;have hs:=h.aB3 c.hc hl;have hd:=h.bd c.hc hl;by_cases hc:b[wid b]!.ag=b[wid b]!.ah
  ·have:nJ b=G:=by
    cases e:nJ b with
    |false=>rfl
    |true=>have:=((IJ b).1 e).2;unfold rg at this;omega
   rw[this];simp only[cV,cT,gz,i0,i1,i2,hc,yu]
  ·have:nJ b=O:=(IJ b).2 ⟨aq,by unfold rg at r2 ⊢;omega⟩;rw[this];have au1:=akO (a:=b[wid b]!.ah+b[wid b]!.ag) (b:=2) aq aq;simp only[cV,i0,i1,i2,hc,cw,dM,hs,au1,aeW];rfl
def aj9(a b:Int):QM a b=iv a b:=by unfold QM iv;by_cases h:a=b<;>simp[h]
def ajR{b:aa aL}(h:zR b<=1000000){i:Nat}(hi:i<zR b){a:Int}(h1: -1048576<=a)(h2:a<=1048576):ahl b (i:Int) a=V (ZA b i a,ZL b i a):=by
 have hw:ak (a+1)=a+1:=aM;have i1:(i:Int)<(zR b:Int):=aq;have i2:(0:Int)<=(i:Int):=aq;unfold ahl;simp only[cV,aa9 h,i1,i2,dM,hi,aj9,hw];rfl
def afq{l:aa Part}(h:zR l<=1000000):X0 l=V l:=by unfold X0;rw[gW]
def auN(c:Cx f v){l:aa Part}(hl:zR l<=100000){k:Nat}(hk:k<zR l)(hb:iG f l[k]!.bK):
  m49 l (k:Int)=V (if nJ l[k]!.bK=O then(gN l k (wid l[k]!.bK) (Fc l[k]!.bK),O)else(l,G)):=by
 have k1:(k:Int)<(zR l:Int):=aq;have k2:(0:Int)<=(k:Int):=aq;have Yn:=amX hb c;unfold m49;cases hc:nJ l[k]!.bK with
 |false=>
  rw[hc]at Yn;simp only[cV,cT,gz,k1,k2,Yn,yu]
 |true=>
  rw[hc]at Yn;obtain⟨h1,h2,h3⟩:=De hc;have hd:=hb.bd c.hc h1;have au0:=ajR (b:=l[k]!.bK) (by have:=j9 c;rw[hb.len];omega) h1 (a:=Fc l[k]!.bK) aq aq;have auU:=afq (l:=l) aq;have hw:ak ((zR l:Int)+1)=((zR l+1:Nat):Int):=jJ (n:=1000000) aq aq;have hlen:∀x y:Part,zR (l++[x,y])=zR l+2:=λx y=>by simp
  have k3:k<zR l+2:=aq;have k4:zR l+2<=1073741824:=aq;have k5:(k:Int)<((zR l+2:Nat):Int):=aq;have hset:∀x y q:Part,(l++[x,y]).set k q=l.set k q++[x,y]:=λx y q=>by rw[List.set_append_left _ _ hk]
  simp only[cV,cT,k1,k2,dM,Yn,au0,auU,hlen,k3,k4,k5,hw,hset];rfl
def aeT(c:Cx f v){l:aa Part}(hl:zR l<=8190){k:Nat}(hk:k<zR l)(hb:iG f l[k]!.bK)(hc:nJ l[k]!.bK=O):
  UA (k:Int) ⟨f,v,l.map (cellOf f v)⟩=V (0,⟨f,v,(gN l k (wid l[k]!.bK) (Fc l[k]!.bK)).map (cellOf f v)⟩):=by
 have k1:(k:Int)<(zR l:Int):=aq;have k2:(0:Int)<=(k:Int):=aq;have hw:ak ((zR l:Int)+2)=(zR l:Int)+2:=aM;have k3:¬(8192:Int)<(zR l:Int)+2:=aq;have ek:(l.map (cellOf f v))[k]! =cellOf f v l[k]! :=eo _ _ _ hk;obtain⟨h1,h2,h3⟩:=De hc;have e109:=ahh hb c (k:Int) ⟨f,v,l.map (cellOf f v)⟩;have hs:=hb.aB3 c.hc h1;have ar3:=aii c aq hk hb h1 h2 h3;have j1:(wid l[k]!.bK:Int)<(zR l[k]!.bK:Int):=aq;have j2:(0:Int)<=(wid l[k]!.bK:Int):=aq;have em:cS IntKind.i64 (l[k]!.bK[wid l[k]!.bK]!.ah+l[k]!.bK[wid l[k]!.bK]!.ag) 1=Fc l[k]!.bK:=az0 _;have eb:∀p:Part,(cellOf f v p).bK=p.bK:=λ_=>rfl;unfold UA;simp only[cV,zn,hw,k3,cw,k1,k2,hk,dM,ek,eb,e109,yl,j1,j2,hs,em,ar3]
end
end Go.Proofs.YtnfljbehcffmcaaGreat
end
noncomputable section
set_option maxRecDepth 100000
namespace Go.Proofs.YtnfljbehcffmcaaGreat
open Go Go.Iv
open Go.IntKind (i64 u64)
section
variable {f:aU} {v:bW}
def Jm{l:aa Part}{k:Nat}(hk:k<zR l):(l.map (cellOf f v))[k]!.ax=l[k]!.ax/\(l.map (cellOf f v))[k]!.bK=l[k]!.bK:=by
 rw[eo _ _ _ hk];exact⟨rfl,rfl⟩
def aur(c:Cx f v){l:aa Part}(h:WF f l)(hl:zR l<=8190){k:Nat}(hk:k<zR l)(h0:l[k]!.ax=[])(hc:nJ l[k]!.bK=O):m48 f v (fO (l.map (cellOf f v))) (k:Int)=V (fO ((gN l k (wid l[k]!.bK) (Fc l[k]!.bK)).map (cellOf f v)),0):=by
 have e105:=MM c h aq;have hb:=h.box k hk;have ak1:=ahQ hb c;obtain⟨h1,h2,h3⟩:=De hc;have e109:=aeT c hl hk hb hc;have h':=NJ h hk h0 h1 h2 h3;have GR:=JG f v (ny c h' (by rw[tV];omega));have k1:¬(k:Int)<0:=aq;have k2:¬(zR l:Int)<=(k:Int):=aq;have k3:(0:Int)<=(k:Int):=aq;have k4:(k:Int)<(zR l:Int):=aq;have k5:¬(0:Int)<((0:Nat):Int):=aq;unfold m48;simp only[cV,cT,e105,k1,zn,k2,k3,k4,hk,dM,(Jm hk).1,(Jm hk).2,h0,y6,k5,ak1,hc,e109,GR]
def Gp(f:aU):aa Part:=[⟨0,0,[],oB f⟩]
def art(c:Cx f v):m54 f v=V (fO ((Gp f).map (cellOf f v)),0):=by
 have e118:=Mw c;have GR:=JG f v (ny c (Ou c) (by simp));unfold m54;simp only[cT,e118,Cv];simp only[yc,yT]at GR;rw[GR];rfl
def atH(c:Cx f v):m58 f=V (Gp f):=by
 have e39:=avh f (mC c.hc) c.hl;unfold m58 asi;rw[e39];rfl
def stepG(l:aa Part)(x:Int):aa Part:=
 if l[x.toNat%l.length]!.ax=[]/\nJ l[x.toNat%l.length]!.bK=O then gN l (x.toNat%l.length) (wid l[x.toNat%l.length]!.bK) (Fc l[x.toNat%l.length]!.bK)else l
def nX(f:aU)(p:aa Int):aa Part:=p.foldl stepG (Gp f)
def aaI{l:aa Part}(h:WF f l)(x:Int):WF f (stepG l x)/\zR (stepG l x)<=zR l+2:=by
 unfold stepG;have hm:=yV x.toNat h.ne;split
 ·rename_i hh;obtain⟨h1,h2,h3⟩:=De hh.2;exact⟨NJ h hm hh.1 h1 h2 h3,by rw[tV];omega⟩
 ·exact⟨h,aq⟩
def EK(c:Cx f v):∀(n:Nat) (p:aa Int),zR p=n->WF f (nX f p)/\zR (nX f p)<=1+2*zR p
 |0,p,hp=>by
  have:=xw.1 hp;subst this;exact⟨Ou c,by simp[nX,Gp]⟩
 |n+1,p,hp=>by
  have hne:p≠[]:=by intro e;rw[e]at hp;cases hp
  have e:p=p.dropLast++[p.getLast hne]:=(List.dropLast_concat_getLast hne).symm;have hd:zR p.dropLast=n:=by rw[List.length_dropLast];omega
  obtain⟨i1,i2⟩:=EK c n p.dropLast hd;have eg:nX f p=stepG (nX f p.dropLast) (p.getLast hne):=by
   conv=>lhs;rw[e]
   unfold nX;rw[wN];rfl
  obtain⟨j1,j2⟩:=aaI i1 (p.getLast hne);rw[eg];exact⟨j1,aq⟩
def atB(c:Cx f v){p:aa Int}(hp:zR p<=20)(hx:∀x∈p,0<=x/\x<256):m47 f v p=V (nX f p,fO ((nX f p).map (cellOf f v)),O):=by
 obtain⟨b,e,hb⟩:=cH (rnd:=VP) p.length (λi (b:aa Part)=>⟨b,p,(zR p:Int),(i:Int),f,v,⟨[],[]⟩,fO (b.map (cellOf f v))⟩) (λi b=>b=nX f (p.take i)) (λi b hi hb=>by
  obtain⟨i1,i2,hw⟩:=w3 hi aq;obtain⟨x1,x2⟩:=hx p[i]! (bq hi);have hwx:ak p[i]! =p[i]! :=aM;obtain⟨g1,g2⟩:=EK c _ (p.take i) rfl;rw[<-hb]at g1 g2;have hl:zR b<=8190:=by
   rw[zA]at g2;omega
  have hne:=g1.ne;have n0:¬(zR b:Int)=0:=aq;obtain⟨k,hk⟩:∃k,k=p[i]!.toNat%b.length:=⟨_,rfl⟩;have hkl:k<zR b:=by rw[hk];exact yV _ hne
  have et:p[i]!.tmod (zR b:Int)=(k:Int):=by
   rw[hk];obtain⟨q,hq⟩:∃q:Nat,p[i]! =(q:Int):=⟨p[i]!.toNat,aq⟩;rw[hq,zi];exact(Int.ofNat_tmod q b.length).symm
  have k1:(k:Int)<(zR b:Int):=aq;have k2:(0:Int)<=(k:Int):=aq;have hbx:=g1.box k hkl;have e49:=auN c (l:=b) aq hkl hbx;refine⟨stepG b p[i]!,?_,by rw[bC hi];unfold nX;rw[wN,hb];rfl⟩;have es:stepG b p[i]! =if b[k]!.ax=[]/\nJ b[k]!.bK=O then gN b k (wid b[k]!.bK) (Fc b[k]!.bK)else b:=by unfold stepG;rw[<-hk]
  unfold VP;by_cases h0:b[k]!.ax=[]
  ·have k0:¬(0:Int)<((0:Nat):Int):=aq;cases hc:nJ b[k]!.bK with
   |true=>
    rw[hc]at e49 es;simp only[h0,GJ,dM]at es e49;have e48:=aur c g1 hl hkl h0 hc;rw[es];simp only[cV,cT,i1,i2,dM,n0,not_false_eq_true,hwx,et,e49,k1,k2,h0,y6,k0,e48,hw]
   |false=>
    rw[hc]at e49 es;simp only[h0,and_false,yu,GL]at es e49;rw[es];simp only[cV,cT,i1,i2,dM,n0,not_false_eq_true,hwx,et,e49,k1,k2,h0,y6,k0,hw]
  ·have k0:(0:Int)<(zR b[k]!.ax:Int):=by
    have:=wR.2 h0;omega
   rw[bO (λh=>h0 h.1)]at es;rw[es];simp only[cV,cT,i1,i2,dM,n0,not_false_eq_true,hwx,et,e49,k1,k2,k0,hw]) (λb _=>by unfold VP;simp) (b:=Gp f) rfl
 rw[zG]at hb;subst hb;have e':UE ⟨Gp f,p,(zR p:Int),0,f,v,⟨[],[]⟩,fO ((Gp f).map (cellOf f v))⟩=V ⟨nX f p,p,(zR p:Int),(zR p:Int),f,v,⟨[],[]⟩,fO ((nX f p).map (cellOf f v))⟩:=e;unfold m47;simp only[cV,cT,atH c,art c,e',yl]
def aeZ(f:aU)(h:zR f.ai<=1000):∃n,aiG f=V n:=by
 obtain⟨n,e,-⟩:=cH (rnd:=JS) f.ai.length (λi (n:Int)=>⟨n,f.ai,(zR f.ai:Int),(i:Int)⟩) (λ_ _=>True) (λi n hi _=>by
  obtain⟨i1,i2,hw⟩:=w3 hi aq;unfold JS;by_cases h1:f.ai[i]!.bB=1
  ·refine⟨ak (n*ak (ak (f.ai[i]!.ag-f.ai[i]!.ah)+1)),?_,trivial⟩;simp only[cV,i1,i2,cI,dM,h1,hw]
  ·by_cases h3:f.ai[i]!.bB=3
   ·refine⟨ak (n*ak (ak (f.ai[i]!.ag-f.ai[i]!.ah)+1)),?_,trivial⟩;have h31:¬(3:Int)=1:=by decide
    simp only[cV,cT,i1,i2,dM,h3,h31,hw]
   ·refine⟨n,?_,trivial⟩;simp only[cV,cT,i1,i2,dM,h1,h3,hw]) (λn _=>by unfold JS;simp) (b:=1) trivial
 have e':Kw ⟨1,f.ai,(zR f.ai:Int),0⟩=V ⟨n,f.ai,(zR f.ai:Int),(zR f.ai:Int)⟩:=e;unfold aiG;simp only[e',yl,CZ,cw];exact⟨n,rfl⟩
def auj(f:aU)(v:bW):∃r,m46 f v=V r/\(r=O->Cx f v):=by
 obtain⟨r,e24,h24⟩:=auR f 16 4096 4;unfold m46;cases r with
 |false=>exact⟨false,by simp only[e24,cw],λh=>by cases h⟩
 |true=>
  obtain⟨hf,hc⟩:=h24 rfl;unfold few at hf;rw[decide_eq_true_iff]at hf;obtain⟨f1,f2,f3⟩:=hf;have e55:=aB6 (f:=f) aq aq aq v;obtain⟨n,abj⟩:=aeZ f aq;by_cases hq:cdA f v=0
  ·refine⟨J (n<=16),by simp only[e24,cI,e55,hq,Cv,abj],λ_=>⟨aq,aq,aq,hc,hq⟩⟩
  ·exact⟨false,by simp only[cT,e24,e55,hq,CZ],λh=>by cases h⟩
end
end Go.Proofs.YtnfljbehcffmcaaGreat
end
noncomputable section
set_option maxRecDepth 100000
namespace Go.Proofs.YtnfljbehcffmcaaGreat
open Go Go.Iv Go.Sort Go.Proofs Go.Shelf Go.RowKit Go.Lib
section
variable {P:Program}
def o7(w:World)(dT sT ty elem:TypeId)(b o dLen dCap:Nat)(a:Addr)(sLen sCap:Nat)(cs:aa Value)(K m:Nat)
  (hu:P.underlying dT=V (.slice elem)) (hz:∀w,(Go.sizeOf elem).run P w= .ok K w) (hm:Nat.min sLen dLen=m) (hn:zR cs=m*K)
  (hsrc:∀j v,cs[j]? =V v->w.cell? (a.add j)=V v) (hc:∀j,j<zR cs->(w.cell? ⟨b,o+j,I⟩).isSome=O) (hf:∀j,j<zR cs->w.frozen? ⟨b,o+j,I⟩=G) (h1:∀v∈cs,v.oneCell'=O):
  (Builtin.copy_ #[dT,sT] ty #[.slice (V ⟨b,o,I⟩) dLen dCap, .slice (V a) sLen sCap]).run P w= .ok (goInt m) (w.setCells b o cs):=by
 have hl:=run_firstCells_some (P:=P) w K m a sLen sCap cs hn hsrc;have hst:=run_storeCells_cells (P:=P) b o cs 0 w (by simpa using hc) (by simpa using hf) h1;rw[yh]at hst;simp[Builtin.copy_,run_underlying hu,Builtin.lenOf,hz,hm,hl,hst]
set_option maxHeartbeats 4000000 in
def Ri(FG:P.funcs[125]? =V f125)(mixed:P.follows .mixedOrders=O)
  (t3:P.underlying 3=V (.int .i64)) (a3:∀w,(isAgg 3).run P w= .ok G w) (z3:∀w,(Go.sizeOf 3).run P w= .ok 1 w) (v3:∀w,(zeroValue 3).run P w= .ok (.int .i64 0) w)
  (t4:P.underlying 4=V .bool) (a4:∀w,(isAgg 4).run P w= .ok G w) (z4:∀w,(Go.sizeOf 4).run P w= .ok 1 w) (v4:∀w,(zeroValue 4).run P w= .ok (.bool G) w)
  (t50:P.underlying 50=V (.slice 47)) (a50:∀w,(isAgg 50).run P w= .ok G w) (z50:∀w,(Go.sizeOf 50).run P w= .ok 1 w) (v50:∀w,(zeroValue 50).run P w= .ok (.slice I 0 0) w)
  (K:Nat) (z47:∀w,(Go.sizeOf 47).run P w= .ok K w)
  (base:af Addr) (n c vb voff vc:Nat) (w W:World) (v':Value) (hnc:n<=c) (hn63:c<=9223372036854775807) (hnil:base=I->n=0/\c=0)
  (hr:(Builtin.append_ #[50,50] 50 #[.slice base n c, .slice (V ⟨vb,voff,I⟩) 1 vc]).run P w= .ok v' W):
  Calls P 125 #[.slice base n c, .int .i64 n, .slice (V ⟨vb,voff,I⟩) 1 vc] w λe w'=>e= .returned v'/\w'=W:=by
 go_enter FG,Tryz.ntmps125
 cases base with
 |none=>
  obtain⟨rfl,rfl⟩:=hnil rfl
  go_wp2_with (at_builtin;refine Lib.wpList_append_run _ rfl _ _ _ _ rfl _ _ rfl rfl _ _ hr ?_)
  go_ret
  exact⟨rfl,rfl⟩
 |some a=>
  obtain⟨ab,ao,asp⟩:=a
  go_wp2_with (at_builtin;refine Lib.wpList_append_run _ rfl _ _ _ _ rfl _ _ rfl rfl _ _ hr ?_)
  all_goals (go_ret;exact⟨rfl,rfl⟩)
set_option maxHeartbeats 8000000 in
def JZ(FG:P.funcs[125]? =V f125)(F197:P.funcs[197]? =V f197)(mixed:P.follows .mixedOrders=O)
  (t3:P.underlying 3=V (.int .i64)) (a3:∀w,(isAgg 3).run P w= .ok G w) (z3:∀w,(Go.sizeOf 3).run P w= .ok 1 w) (v3:∀w,(zeroValue 3).run P w= .ok (.int .i64 0) w)
  (t4:P.underlying 4=V .bool) (a4:∀w,(isAgg 4).run P w= .ok G w) (z4:∀w,(Go.sizeOf 4).run P w= .ok 1 w) (v4:∀w,(zeroValue 4).run P w= .ok (.bool G) w)
  (t50:P.underlying 50=V (.slice 47)) (a50:∀w,(isAgg 50).run P w= .ok G w) (z50:∀w,(Go.sizeOf 50).run P w= .ok 1 w) (v50:∀w,(zeroValue 50).run P w= .ok (.slice I 0 0) w)
  (K:Nat) (hK:0<K) (z47:∀w,(Go.sizeOf 47).run P w= .ok K w)
  (b off n c i vb voff vc:Nat) (cs vs:aa Value) (w:World) (hi:i<n) (hroom:n+1<=c) (hc63:c<=9223372036854775807) (hvb:vb≠b)
  (hcl:zR cs=n*K) (hvl:zR vs=K)
  (hcs:∀j v,cs[j]? =V v->w.cell? ⟨b,off+j,I⟩=V v) (hsp:∀j,j<(n+1)*K->(w.cell? ⟨b,off+j,I⟩).isSome=O) (hfz:∀j,j<(n+1)*K->w.frozen? ⟨b,off+j,I⟩=G)
  (hvs:∀j v,vs[j]? =V v->w.cell? ⟨vb,voff+j,I⟩=V v) (h1c:∀v∈cs,v.oneCell'=O) (h1v:∀v∈vs,v.oneCell'=O)
  (tA tB:TypeId) (kA kB:Nat) (hsa:w.shape? vb=V (tA,kA)) (hsb:w.shape? b=V (tB,kB)) (hkB:kB≠0) (hfa:w.frozen? ⟨vb,voff,I⟩=G) (hfe:w.frozen? ⟨vb,kA,I⟩=G):
  Calls P 125 #[.slice (V ⟨b,off,I⟩) n c, .int .i64 i, .slice (V ⟨vb,voff,I⟩) 1 vc] w λe w'=>
   e= .returned (.slice (V ⟨b,off,I⟩) (n+1) c)/\w'=(w.drew.setCells b (off+(i+1)*K) (cs.drop (i*K))).setCells b (off+i*K) vs:=by
 have hz2:¬((i:Int)=(n:Int)):=aq;have hov:∀lb cb,(callFunc 197 #[.slice (V ⟨vb,voff,I⟩) 1 vc, .slice (V ⟨b,off+(i+1)*K,I⟩) lb cb]).run P w= .ok (.value (.bool G)) w:=λlb cb=>by
  rw[run_callFunc_extern F197 aV aV aV (e:=Extern.SlicesOverlaps.overlaps #[50,50] #[4]) aV,
   Lib.run_overlaps_apart w 50 4 47 t50 K z47 ⟨vb,voff,I⟩ ⟨b,off+(i+1)*K,I⟩ 1 vc lb cb hvb tA tB kA kB hsa hsb hkB hfa hfe]
  rfl
 have hiK:i*K<=n*K:=ym K aq;have e1:(n+1)*K=n*K+K:=by rw[zX,yK]
 have e2:(i+1)*K=i*K+K:=by rw[zX,yK]
 have e3:(n-i)*K=n*K-i*K:=Nat.sub_mul n i K;have hiK2:(i+1)*K<=n*K:=ym K hi;have hdl:zR (cs.drop (i*K))=(n-i)*K:=by rw[zV,hcl,e3]
 have hw1:IntKind.i64.wrap ((i:Int)+1)=(i:Int)+1:=by rw[IntKind.wrap_i64];omega
 have hw2:IntKind.i64.wrap ((n:Int)+1)=(n:Int)+1:=by rw[IntKind.wrap_i64];omega
 have hb1:(0:Int)<=(i:Int)+1:=aq;have htn:((i:Int)+1).toNat=i+1:=aq;have htn2:((n:Int)+1).toNat=n+1:=aq;have hb2:¬(c=i+1):=aq;have hb3:(i:Int)<=(n:Int)+1:=aq;have hb4:¬(c=i):=aq;have hin:i<=n:=aq;have hcp1:∀ty dc sc,(Builtin.copy_ #[50,50] ty #[.slice (V ⟨b,off+(i+1)*K,I⟩) (n-i) dc, .slice (V ⟨b,off+i*K,I⟩) (n+1-i) sc]).run P w.drew= .ok (goInt (n-i:Nat)) (w.drew.setCells b (off+(i+1)*K) (cs.drop (i*K))):=λty dc sc=>
  o7 w.drew _ _ ty 47 b (off+(i+1)*K) (n-i) dc ⟨b,off+i*K,I⟩ (n+1-i) sc (cs.drop (i*K)) K (n-i) t50 z47 (by simp only[Nat.min_def];split<;>omega) hdl
   (λj v hj=>by rw[Addr.add_lit,yF];exact hcs (i*K+j) v (by rwa [yE]at hj))
   (λj hj=>by rw[yF];exact hsp _ aq) (λj hj=>by rw[yF];exact hfz _ aq) (λv hv=>h1c v (xD hv))
 obtain⟨W1,hW1⟩:∃W1,W1=w.drew.setCells b (off+(i+1)*K) (cs.drop (i*K)):=⟨_,rfl⟩;have hsp1:∀k,k<(n+1)*K->(W1.cell? ⟨b,off+k,I⟩).isSome=O:=λk hk=>by
  rw[hW1];exact isSome_setCells b _ _ _ (λj hj=>by rw[yF];exact hsp _ aq) _ (hsp k hk)
 have hcp2:∀(W:World),(∀x,W.cell? x=W1.cell? x)->(∀x,W.frozen? x=W1.frozen? x)->∀ty dc,(Builtin.copy_ #[50,50] ty #[.slice (V ⟨b,off+i*K,I⟩) (n+1-i) dc, .slice (V ⟨vb,voff,I⟩) 1 vc]).run P W= .ok (goInt (1:Nat)) (W.setCells b (off+i*K) vs):=λW hWc hWf ty dc=>
  o7 W _ _ ty 47 b (off+i*K) (n+1-i) dc ⟨vb,voff,I⟩ 1 vc vs K 1 t50 z47 (by simp only[Nat.min_def];split<;>omega) (by rw[hvl,yK])
   (λj v hj=>by
    rw[Addr.add_lit,hWc,hW1,World.cell?_setCells_out b _ _ _ _ (λh _=>ei h hvb)];exact hvs j v hj)
   (λj hj=>by rw[hWc,yF];exact hsp1 _ aq) (λj hj=>by rw[hWf,hW1,World.frozen?_setCells,yF];exact hfz _ aq) h1v
 rw[<-hW1]at hcp1;clear e1 e2 e3 hiK hiK2 hdl hsp1 hcl
 go_enter FG,Tryz.ntmps125
 go_wp2_with (simp only[hov])
 go_region_law_o (refine step_copy_runI rfl _ _ 50 50 rfl _ _ (by simp[Act.eval,Act.put]) (by simp[Act.eval,Act.put]) (hcp1 _ _ _) ?_)
 go_wp2_with (at_builtin;refine wpList_copy_runI _ rfl _ _ 50 50 rfl _ _ rfl rfl (hcp2 _ (λ_=>rfl) (λ_=>rfl) _ _) ?_)
 go_ret
 first|exact⟨rfl,rfl⟩|exact⟨rfl,by rw[hW1]⟩
set_option maxHeartbeats 8000000 in
def Mr(FG:P.funcs[125]? =V f125)(mixed:P.follows .mixedOrders=O)
  (t3:P.underlying 3=V (.int .i64)) (a3:∀w,(isAgg 3).run P w= .ok G w) (z3:∀w,(Go.sizeOf 3).run P w= .ok 1 w) (v3:∀w,(zeroValue 3).run P w= .ok (.int .i64 0) w)
  (t4:P.underlying 4=V .bool) (a4:∀w,(isAgg 4).run P w= .ok G w) (z4:∀w,(Go.sizeOf 4).run P w= .ok 1 w) (v4:∀w,(zeroValue 4).run P w= .ok (.bool G) w)
  (t50:P.underlying 50=V (.slice 47)) (a50:∀w,(isAgg 50).run P w= .ok G w) (z50:∀w,(Go.sizeOf 50).run P w= .ok 1 w) (v50:∀w,(zeroValue 50).run P w= .ok (.slice I 0 0) w)
  (i0:TypeInfo) (z:Value) (hi0:P.info? 47=V i0) (hz0:i0.zero=V z) (hs0:0<i0.size) (hzs:z.cells.size=i0.size)
  (K:Nat) (hKs:i0.size=K) (z47:∀w,(Go.sizeOf 47).run P w= .ok K w)
  (b off n c i vb voff vc:Nat) (cs vs:aa Value) (w:World) (hi:i<n) (hnc:n<=c) (hroom:c<n+1) (hn63:n+1<=4611686018427387904) (hbig:(n+1)*i0.bytes<=140737488355328)
  (hcl:zR cs=n*K) (hvl:zR vs=K)
  (hcs:∀j v,cs[j]? =V v->w.cell? ⟨b,off+j,I⟩=V v)
  (hvs:∀j v,vs[j]? =V v->w.cell? ⟨vb,voff+j,I⟩=V v) (h1c:∀v∈cs,v.oneCell'=O) (h1v:∀v∈vs,v.oneCell'=O) (hbw:b<w.heap.size) (hvw:vb<w.heap.size):
  Calls P 125 #[.slice (V ⟨b,off,I⟩) n c, .int .i64 i, .slice (V ⟨vb,voff,I⟩) 1 vc] w λe w'=>
   e= .returned (.slice (V ⟨w.heap.size,0,I⟩) (n+1) (grownCap w (n+1) c 47))/\
   w'=(((w.alloc (.cells ((cs.take (i*K)).toArray++Builtin.zeroCells z.cells (n+1-i)++Builtin.zeroCells z.cells (grownCap w (n+1) c 47-(n+1))) 47)).drew.setCells w.heap.size (i*K) vs).drew).setCells w.heap.size ((i+1)*K) (cs.drop (i*K)):=by
 have hz2:¬((i:Int)=(n:Int)):=aq;have hz3:(c:Int)<(n:Int)+1:=aq;have hkk:(n:Int)+1-(i:Int)=((n+1-i:Nat):Int):=aq;have hik:i+(n+1-i)=n+1:=aq;have hiK:i*K<=n*K:=ym K aq;have e1:(n+1)*K=n*K+K:=by rw[zX,yK]
 have e2:(i+1)*K=i*K+K:=by rw[zX,yK]
 have e3:(n-i)*K=n*K-i*K:=Nat.sub_mul n i K;have e4:(n+1-i)*K=(n+1)*K-i*K:=Nat.sub_mul (n+1) i K;have hiK2:(i+1)*K<=n*K:=ym K hi;have hdl:zR (cs.drop (i*K))=(n-i)*K:=by rw[zV,hcl,e3]
 have hold:(Builtin.firstCells i0.size i (.slice (V ⟨b,off,I⟩) i c)).run P w.drew= .ok (cs.take (i*K)).toArray w.drew:=by
  rw[hKs];exact run_firstCells_some w.drew K i ⟨b,off,I⟩ i c (cs.take (i*K)) (by rw[zA];omega) (λj v hj=>by
   rw[Addr.add_lit];rw[yD]at hj;split at hj
   ·exact hcs j v hj
   ·cases hj)
 have hrz:∀ty,(Builtin.append_ #[50,3] ty #[.slice (V ⟨b,off,I⟩) i c, .int .i64 ((n:Int)+1-(i:Int))]).run P w=
   .ok (.slice (V ⟨w.heap.size,0,I⟩) (n+1) (grownCap w (n+1) c 47)) (w.drew.alloc (.cells ((cs.take (i*K)).toArray++Builtin.zeroCells z.cells (n+1-i)++Builtin.zeroCells z.cells (grownCap w (n+1) c 47-(n+1))) 47)):=λty=>by
  have h:=Lib.run_append_grow_zeros w 50 3 ty 47 i0 _ .i64 .i64 t50 t3 hi0 hz0 (V ⟨b,off,I⟩) i c (cs.take (i*K)) hold (n+1-i) aq hs0 aq aq
   (by have:(n+1-i)*i0.bytes<=(n+1)*i0.bytes:=ym _ aq;omega)
   (by rw[hik];exact growslice_fits hroom hbig)
  rw[hik]at h;rw[hkk];exact h
 obtain⟨za,hG⟩:∃za,za=grownCap w (n+1) c 47:=⟨_,rfl⟩;obtain⟨ROW,hROW⟩:∃ROW:Array Value,ROW=(cs.take (i*K)).toArray++Builtin.zeroCells z.cells (n+1-i)++Builtin.zeroCells z.cells (za-(n+1)):=⟨_,rfl⟩;rw[<-hG]at hrz ⊢;rw[<-hROW]at hrz ⊢;have hRl:(n+1)*K<=ROW.size:=by
  rw[hROW];simp only[Array.size_append,y7,zA,size_zeroCells,hzs,hKs,hcl];omega
 obtain⟨W1,hW1⟩:∃W1,W1=w.drew.alloc (.cells ROW 47):=⟨_,rfl⟩;rw[<-hW1]at hrz;have hN:∀j,j<(n+1)*K->(W1.cell? ⟨w.heap.size,j,I⟩).isSome=O:=λj hj=>by
  rw[hW1,World.cell?_alloc_at (w:=w.drew) ROW _ w.heap.size j rfl,xe aq];rfl
 have hNf:∀j,W1.frozen? ⟨w.heap.size,j,I⟩=G:=λj=>by rw[hW1];exact World.frozen?_alloc_at (w:=w.drew) ROW _ w.heap.size j rfl
 have hOb:∀j v,w.cell? ⟨b,j,I⟩=V v->W1.cell? ⟨b,j,I⟩=V v:=λj v h=>by rw[hW1,World.cell?_alloc_past (w:=w.drew) _ b j hbw];exact h
 have hOv:∀j v,w.cell? ⟨vb,j,I⟩=V v->W1.cell? ⟨vb,j,I⟩=V v:=λj v h=>by rw[hW1,World.cell?_alloc_past (w:=w.drew) _ vb j hvw];exact h
 have hcpA:∀(W:World),(∀x,W.cell? x=W1.cell? x)->(∀x,W.frozen? x=W1.frozen? x)->∀ty dc,(Builtin.copy_ #[50,50] ty #[.slice (V ⟨w.heap.size,i*K,I⟩) (n+1-i) dc, .slice (V ⟨vb,voff,I⟩) 1 vc]).run P W= .ok (goInt (1:Nat)) (W.setCells w.heap.size (i*K) vs):=λW hWc hWf ty dc=>
  o7 W _ _ ty 47 w.heap.size (i*K) (n+1-i) dc ⟨vb,voff,I⟩ 1 vc vs K 1 t50 z47 (by simp only[Nat.min_def];split<;>omega) (by rw[hvl,yK])
   (λj v hj=>by rw[Addr.add_lit,hWc];exact hOv _ v (hvs j v hj))
   (λj hj=>by rw[hWc];exact hN _ aq) (λj hj=>by rw[hWf];exact hNf _) h1v
 have hGn:n+1<=za:=by rw[hG];exact grownCap_ge w _ _ _
 have hG63:za<=9223372036854775807:=by
  have:=grownCap_le_maxLen w (n+1) c 47 (by unfold maxLen;omega);rw[<-hG]at this;unfold maxLen at this;omega
 have hGi:¬(za=i):=aq;have hGim:¬(za=i+1):=aq;have hci:¬(c=i):=aq;have hbN:b≠w.heap.size:=aq;have hcpB:∀(W:World),(∀x,W.cell? x=(W1.setCells w.heap.size (i*K) vs).cell? x)->(∀x,W.frozen? x=(W1.setCells w.heap.size (i*K) vs).frozen? x)->∀ty dc sc,(Builtin.copy_ #[50,50] ty #[.slice (V ⟨w.heap.size,(i+1)*K,I⟩) (n-i) dc, .slice (V ⟨b,off+i*K,I⟩) (n-i) sc]).run P W= .ok (goInt (n-i:Nat)) (W.setCells w.heap.size ((i+1)*K) (cs.drop (i*K))):=λW hWc hWf ty dc sc=>
  o7 W _ _ ty 47 w.heap.size ((i+1)*K) (n-i) dc ⟨b,off+i*K,I⟩ (n-i) sc (cs.drop (i*K)) K (n-i) t50 z47 (by simp only[Nat.min_def];split<;>omega) hdl
   (λj v hj=>by
    rw[Addr.add_lit,hWc,World.cell?_setCells_out _ _ _ _ _ (λh _=>ei h hbN),yF];exact hOb _ v (hcs (i*K+j) v (by rwa [yE]at hj)))
   (λj hj=>by rw[hWc];exact isSome_setCells _ _ _ _ (λt ht=>hN _ aq) _ (hN _ aq))
   (λj hj=>by rw[hWf,World.frozen?_setCells];exact hNf _) (λv hv=>h1c v (xD hv))
 subst hW1;have hE1:∀x,((w.alloc (.cells ROW 47)).drew).cell? x=(w.drew.alloc (.cells ROW 47)).cell? x:=λx=>rfl;have hE2:∀x,((w.alloc (.cells ROW 47)).drew).frozen? x=(w.drew.alloc (.cells ROW 47)).frozen? x:=λx=>rfl;have hF1:∀x,(((w.alloc (.cells ROW 47)).drew.setCells w.heap.size (i*K) vs).drew).cell? x=((w.drew.alloc (.cells ROW 47)).setCells w.heap.size (i*K) vs).cell? x:=λx=>rfl;have hF2:∀x,(((w.alloc (.cells ROW 47)).drew.setCells w.heap.size (i*K) vs).drew).frozen? x=((w.drew.alloc (.cells ROW 47)).setCells w.heap.size (i*K) vs).frozen? x:=λx=>rfl;have hw1:IntKind.i64.wrap ((i:Int)+1)=(i:Int)+1:=by rw[IntKind.wrap_i64];omega
 have hw2:IntKind.i64.wrap ((n:Int)+1)=(n:Int)+1:=by rw[IntKind.wrap_i64];omega
 have hb1:(0:Int)<=(i:Int)+1:=aq;have hin:i<=n:=aq;have htn:((i:Int)+1).toNat=i+1:=aq;have hb3:(i:Int)<=(n:Int):=aq;clear hkk hik hold hROW hG hRl e1 e2 e3 e4 hiK hiK2 hdl hcl
 go_enter FG,Tryz.ntmps125
 go_wp2_with (first
  |(at_builtin;refine Lib.wpList_append_run _ rfl _ _ _ _ rfl _ _ rfl rfl _ _ (hrz _) ?_)
  |(at_builtin;refine wpList_copy_runI _ rfl _ _ 50 50 rfl _ _ rfl rfl (hcpA _ hE1 hE2 _ _) ?_)
  |(at_builtin;refine wpList_copy_runI _ rfl _ _ 50 50 rfl _ _ rfl rfl (hcpB _ (λ_=>rfl) (λ_=>rfl) _ _ _) ?_))
 go_region_law_o (refine step_copy_runI rfl _ _ 50 50 rfl (.slice (V ⟨w.heap.size,(i+1)*K,I⟩) (n-i) (za-(i+1))) (.slice (V ⟨b,off+i*K,I⟩) (n-i) (c-i)) (by simp[Act.eval,Act.put]) (by simp[Act.eval,Act.put]) (hcpB _ hF1 hF2 50 (za-(i+1)) (c-i)) ?_)
 go_wp2
 go_ret
 exact⟨rfl,rfl⟩
end
end Go.Proofs.YtnfljbehcffmcaaGreat
end
noncomputable section
set_option maxRecDepth 100000
namespace Go.Proofs.YtnfljbehcffmcaaGreat
open Go Go.Iv
open Go.IntKind (i64 u64)
def heap_alloc(w:World)(o:Obj):(w.alloc o).heap[w.heap.size]? =V o:=by unfold World.alloc;simp
end Go.Proofs.YtnfljbehcffmcaaGreat
end
noncomputable section
set_option maxRecDepth 100000
namespace Go.Proofs.YtnfljbehcffmcaaGreat
open Go Go.Iv Go.Sort Go.Proofs
abbrev aBA:=aa aC
def d125:Td 2 aBA:= .c [] [6] (.r 2 3 (ec 6 (qo 2) en) (sr 2 47 sn) (λz=>z.2.1) (λx=>(((),()),(x,()))))
def axg:=(lc (qo 0) (aS (lc (qo 1) ln)))
def awF:=(sr 0 47 (sr 1 47 sn))
def Qa(a1:Int)(b0:aa aC)(b1:aa aC):af aBA:=if 0<=a1/\a1<=zR b0/\zR b0<=1000000000/\zR b1=1 then V (b0.take a1.toNat++b1++b0.drop a1.toNat)else I
def apG:Prop:=HY vn 125 2 axg awF d125 (λg=>Qa g.1.2.1 g.2.1 g.2.2.1)
def aup:bu->bu:=eY vn 125 2 axg awF d125 (λg=>Qa g.1.2.1 g.2.1 g.t.1)
def ae3(hv:apG){F:bu}(h:bz vn F):bz vn (aup F):=CB hv ⟨_,func125,aV,aV⟩ (λ_=>aV) h
section
variable {α:Type} [Inhabited α] {enc:α->aa Value} (hk:∀x,zR (enc x)=2)
include hk
theorem L5:∀(L:aa α) (i:Nat),(L.flatMap enc).drop (i*2)=(L.drop i).flatMap enc
 |L,0=>by simp
 |[],i+1=>by simp
 |x::L,i+1=>by
  rw[yQ,vm,<-L5 L i,show (i+1)*2=2+i*2 by omega,<-zW,List.drop_left' (hk x)]
theorem U5:∀(L:aa α) (i:Nat),(L.flatMap enc).take (i*2)=(L.take i).flatMap enc
 |L,0=>by simp
 |[],i+1=>by simp
 |x::L,i+1=>by
  rw[yQ,vi,yQ,<-U5 L i,show (i+1)*2=2+i*2 by omega,List.take_append,hk x,List.take_of_length_le (by rw[hk];omega),show 2+i*2-2=i*2 by omega]
theorem adJ:∀(L:aa α),zR (L.flatMap enc)=zR L*2
 |[]=>rfl
 |x::L=>by rw[yQ,zg,hk,adJ L,yM];omega
theorem EV(L:aa α):flatK enc 2 L.toArray=(L.flatMap enc).toArray:=by
 refine Hf enc L.toArray (by rw[adJ hk];simp) λi hi=> ?_;have hi:i<zR L:=by simpa using hi
 rw[L5 hk,yN hi,yQ,List.take_left' (hk _)];simp[hi]
end
def Um{us us1:aa Value}{n i:Nat}{F:Array Value}(hu:zR us=n*2)(h1:zR us1=2)(hi:i<=n)(hF:(n+1)*2<=F.size)(h:∀t,t<(n+1)*2->F[t]! =if t<i*2 then us[t]! else if t<(i+1)*2 then us1[t-i*2]! else us[t-2]!):
  F.toList.take ((n+1)*2)=us.take (i*2)++us1++us.drop (i*2):=by
 have l1:zR (us.take (i*2))=i*2:=by rw[zA];omega
 apply xY
 ·rw[zA,zg,zg,l1,zV,yp];omega
 ·intro t q1 q2;have ht:t<(n+1)*2:=by rw[zA]at q1;omega
  have e:=h t ht;rw[getElem!_pos F t aq]at e;rw[xI,Array.getElem_toList,e];by_cases c1:t<i*2
  ·rw[bI c1,wg (by rw[zg];omega),wg aq,xI,getElem!_pos us t aq]
  ·rw[bO c1];by_cases c2:t<(i+1)*2
   ·rw[bI c2,wg (by rw[zg];omega),wC aq,getElem!_pos us1 _ aq]
    congr 1
    omega
   ·rw[bO c2,wC (by rw[zg];omega),xR,getElem!_pos us _ aq]
    congr 1
    rw[zg];omega
def au4:∃i,vn.info? 47=V i/\i.zero=V (.agg #[.slice I 0 0, .int .i64 0])/\i.size=2/\i.bytes=32:=by
 have h:(vn.info? 47).map (λi=>(i.zero,i.size,i.bytes))=V (V (.agg #[.slice I 0 0, .int .i64 0]),2,32):=aV;obtain⟨i,h1,h2⟩:=zl.1 h;simp only[Prod.mk.injEq]at h2;exact⟨i,h1,h2⟩
def as1(l b1 b:aa aC)(n:Int)(hb:Qa n l b1=V b):Mm vn 125 [.own 0, .n .i64 n, .own 1] [(0, .row 47 l),(1, .row 47 b1)] 2 (fG vn 125 2 (d125.pat b)):=by
 unfold Qa at hb;split at hb
 case isFalse=>cases hb
 rename_i hn;obtain⟨hn0,hn1,hn2,hn3⟩:=hn;obtain⟨i,rfl⟩:∃i:Nat,n=(i:Int):=⟨n.toNat,aq⟩;rw[zi]at hb;have hbl:b=l.take i++b1++l.drop i:=(zF.inj hb).symm;have hin:i<=zR l:=aq;have hlen:zR b=zR l+1:=by rw[hbl];simp;omega
 intro ρ;have ho:fG vn 125 2 (d125.pat b)=⟨.own 2,[(2, .row 47 b)],3⟩:=aV;show Go.Iv.Fn vn 125 [(b9.own 0).sub ρ,(b9.n .i64 (i:Int)).sub ρ,(b9.own 1).sub ρ] (bt.res ρ [(0, .row 47 l),(1, .row 47 b1)]) _;rw[ho,dy,dy,show (b9.n (dg:=uni.dg) .i64 (i:Int)).sub ρ= .n .i64 (i:Int)by simp[b9.sub]];intro w A vs hr hd hnd;obtain⟨hr1,hr2⟩:=hr;obtain⟨v,v2,v1,rfl⟩:∃v v2 v1,vs=[v,v2,v1]:=by
  match vs,hr1 with
  |[v,v2,v1],_=>exact⟨v,v2,v1,rfl⟩
 have hv:v=ρ.v 0:=(hr2 0 _ v rfl rfl).cL;have hv1:v1=ρ.v 1:=(hr2 2 _ v1 rfl rfl).cL;have hv2:v2= .int .i64 (i:Int):=(hr2 1 _ v2 rfl rfl).cL;subst hv hv1 hv2;have hσ:bt.res ρ [(0, .row 47 l),(1, .row 47 b1)]=[cn.row (ρ.v 0) 47 l,cn.row (ρ.v 1) 47 b1]:=rfl;rw[hσ]at hd hnd ⊢;clear hr1 hr2 hσ;generalize hv:ρ.v 0=v at*;generalize hv1:ρ.v 1=v1 at*;obtain⟨us,g1,g2,g3⟩:=hd.1 (.row v 47 l) (zk ..);obtain⟨us1,k1,k2,k3⟩:=hd.1 (.row v1 47 b1) (zJ _ (zq.2 rfl));have g1:gq w v 47 2 l.length us:=g1;have k1:gq w v1 47 2 b1.length us1:=k1;have g0:zR us=zR l*2:=g1.1;have k0:zR us1=zR b1*2:=k1.1;obtain⟨d,d1,d2,d3⟩:=Uz g0 g3;obtain⟨e,e1,e2,e3⟩:=Uz k0 k3;have hb1:zR b1=1:=aq;rw[hb1]at k0 k1;have hus:us=d.toList.flatMap nY:=by
  have:=EV kg d.toList;rw[wS,d3]at this;exact congrArg Array.toList this
 have hus1:us1=e.toList.flatMap nY:=by
  have:=EV kg e.toList;rw[wS,e3]at this;exact congrArg Array.toList this
 obtain⟨D,hD⟩:∃D:aa (Ob A w),D=d.toList.take i++e.toList++d.toList.drop i:=⟨_,rfl⟩;have hDb:(D.map λx=>x.1.1)=b:=by rw[hD,zK,zK,xJ,xB,d2,e2,hbl]
 have hDf:D.flatMap nY=us.take (i*2)++us1++us.drop (i*2):=by
  rw[hus,hus1,U5 kg,L5 kg,hD,xQ,xQ]
 obtain⟨r1,r2⟩:=SJ D.toArray b (by simpa using hDb);rw[EV kg,hDf]at r1 r2;have hbks:∀x,x∈bD [cn.row v 47 l,cn.row v1 47 b1]↔gJ v=V x\/gJ v1=V x:=λx=>by
  rw[bS];constructor
  ·rintro⟨r,hr,hx⟩;rcases zy.1 hr with rfl|hr
   ·exact .inl hx
   ·rw[zq.1 hr]at hx;exact .inr hx
  ·rintro(h|h)
   ·exact⟨_,zk ..,h⟩
   ·exact⟨_,zJ _ (zq.2 rfl),h⟩
 have fin:∀(w':World) (u:Value),gq w' u 47 2 (zR l+1) (us.take (i*2)++us1++us.drop (i*2))->(∀x,gJ u=V x->gJ v=V x\/w.heap.size<=x)->Kp (bD [cn.row v 47 l,cn.row v1 47 b1]) w w'->∃v_1 av σ',Ending.returned u=Ending.returned v_1/\
   (∃ρ',pU 2 ρ ρ'/\av=(b9.own (dg:=uni.dg) 2).sub ρ'/\List.Perm σ' (bt.res ρ' [(2, .row 47 b)]))/\Tr ⟨w,A,bD [cn.row v 47 l,cn.row v1 47 b1]⟩ (bD [cn.row v 47 l,cn.row v1 47 b1]) [cn.row v 47 l,cn.row v1 47 b1] w σ' w'/\Rel (al ⟨w,A,bD [cn.row v 47 l,cn.row v1 47 b1]⟩ σ') w' av v_1:=λw' u hrow hu hk=>by
  have hbu:∀x,x∈bD [cn.row u 47 b]->x∈bD [cn.row v 47 l,cn.row v1 47 b1]\/w.heap.size<=x:=λx hx=>by
   obtain⟨r,hr,hx⟩:=bS.1 hx;rw[zq.1 hr]at hx;exact(hu x hx).imp (λh=>(hbks x).2 (.inl h)) id
  refine⟨u, .lit u,[cn.row u 47 b],rfl,⟨⟨λj=>if j=2 then u else ρ.v j,ρ.b⟩,λj hj=>⟨by show _=if j=2 then u else ρ.v j;rw[bO aq],rfl⟩,by rw[dy];rfl,List.Perm.refl _⟩,⟨⟨hk,?_,?_,?_⟩,hk,λx hx h=>⟨⟨h.1,λhx2=> ?_⟩,h.2⟩⟩, .lit u⟩
  ·intro r hr;rw[zq.1 hr];refine⟨us.take (i*2)++us1++us.drop (i*2),by have h:=hrow;rw[<-hlen]at h;exact h,λj _=>rfl,λj hj=>(r2 j hj).mono λx hx hA=> ?_⟩;have hnb:x∉bD [cn.row v 47 l,cn.row v1 47 b1]:=λh=>hd.2 x h hA;exact⟨⟨.inl hA,λh=>(hbu x h).elim hnb aq⟩,hk.block x hx hnb⟩
  ·unfold bD;simp only[xE,List.filterMap_nil];cases cn.blk (cn.row u 47 b)<;>simp
  ·exact hbu
  ·exact(hbu x hx2).elim h.2 aq
 rcases k1.2 with ⟨p,_,h0⟩|⟨vb,vc,vcur,hvv,hvg,_,_,hvs,hvt⟩
 ·cases h0
 subst hvv;have hvw:vb<w.heap.size:=(xd.1 hvg).1;have hone1:∀x∈us1,x.oneCell'=O:=by
  rw[hus1];intro x hx;obtain⟨y,_,hy⟩:=xA.1 hx;exact Dp y x hy
 have honec:∀x∈us,x.oneCell'=O:=by
  rw[hus];intro x hx;obtain⟨y,_,hy⟩:=xA.1 hx;exact Dp y x hy
 have hvc:∀j x,us1[j]? =V x->w.cell? ⟨vb,0+j,I⟩=V x:=λj x hj=>by rw[yj];exact k1.cells rfl j x hj
 have m64:maxLen=9223372036854775807:=rfl;obtain⟨i0,i1,i2,i3,i4⟩:=au4;by_cases hend:i=zR l
 ·subst hend;obtain⟨v',W,hrun,hrow,hkp,hblk⟩:=rq (P:=vn) (ty:=50) underlying50 i1 i2 i3 i4 (by rfl) g1 (xs:= .slice (V ⟨vb,0,I⟩) 1 (vc+1)) (news:=us1) ⟨_,_,rfl, .inr ⟨_,rfl,λj x hj=>by rw[Addr.add_lit];exact hvc j x hj⟩⟩ aq hone1 aq aq;obtain⟨q,cap,hvq,hcap,hc63,hnil⟩:∃q cap,v= .slice q l.length cap/\zR l<=cap/\cap<=9223372036854775807/\(q=I->zR l=0/\cap=0):=by
   rcases g1.2 with ⟨p,hp,h0⟩|⟨g,c',cur,hp,_,hc1,hc,_⟩
   ·exact⟨p,0,by rw[hp,h0],aq,aq,λ_=>⟨h0,rfl⟩⟩
   ·exact⟨_,c'+1,hp,hc1,aq,λh=>by cases h⟩
  subst hvq;refine(Ri (P:=vn) func125 aV underlying3 Tryz.isAgg3 Tryz.sizeOf3 Tryz.zeroValue3 underlying4 Tryz.isAgg4 Tryz.sizeOf4 Tryz.zeroValue4 underlying50 Tryz.isAgg50 Tryz.sizeOf50 Tryz.zeroValue50 2 Tryz.sizeOf47 q l.length cap vb 0 (vc+1) w W v' hcap hc63 hnil hrun).mono λe w' he=> ?_;obtain⟨rfl,rfl⟩:=he;refine fin _ _ ?_ (λx hx=> ?_) ⟨hkp.os,hkp.tape,hkp.output,hkp.drawn,hkp.size,λx hx hn=>hkp.block x hx λh=>hn ((hbks x).2 (.inl ?_))⟩
  ·rw[<-g0,zG,wO,yy];exact hrow
  ·rcases hblk with h|h
   ·rw[h]at hx;exact .inl hx
   ·rw[h]at hx;cases hx;exact .inr (zm _)
  ·simpa using h
 ·have hlt:i<zR l:=aq;rcases g1.2 with ⟨p,_,h0⟩|⟨g,cap,cur,hvq,hg,q1,q2,q3,q4⟩
  ·omega
  subst hvq;have hgs:g<w.heap.size:=(xd.1 hg).1;have hcs:∀j x,us[j]? =V x->w.cell? ⟨g,0+j,I⟩=V x:=λj x hj=>by rw[yj];exact g1.cells rfl j x hj
  have hne:vb≠g:=λe=>by
   subst e;simp[bD,cn.blk,gJ]at hnd
  have curus:∀t,t<zR l*2->cur[t]! =us[t]! :=λt ht=>by
   have h:(cur.toList.take (zR l*2))[t]? =us[t]? :=congrArg (λz:aa Value=>z[t]?) q4;rw[wu ht,wP,xe aq,zu aq]at h;rw[getElem!_pos cur t aq,getElem!_pos us t aq];exact zF.inj h
  by_cases hroom:zR l+1<=cap+1
  ·refine(JZ (P:=vn) func125 func197 aV underlying3 Tryz.isAgg3 Tryz.sizeOf3 Tryz.zeroValue3 underlying4 Tryz.isAgg4 Tryz.sizeOf4 Tryz.zeroValue4 underlying50 Tryz.isAgg50 Tryz.sizeOf50 Tryz.zeroValue50 2 (by decide) Tryz.sizeOf47 g 0 l.length (cap+1) i vb 0 (vc+1) us us1 w hlt hroom aq hne g0 aq hcs
    (λj hj=>by simp only[World.cell?,hg,vh,yu,GL];rw[xe aq];rfl) (λj hj=>by simp[World.frozen?,hg]) hvc honec hone1 47 47 vcur.size cur.size (by simp[World.shape?,hvg]) (by simp[World.shape?,hg]) aq (by simp[World.frozen?,hvg]) (by simp[World.frozen?,hvg])).mono λe w' he=> ?_
   obtain⟨rfl,rfl⟩:=he;refine fin _ _ ⟨by simp;omega, .inr ⟨g,cap,_,rfl,gK _ _ _ _ (gK _ _ _ _ hg),hroom,q2,by simp[q3],?_⟩⟩ (λx hx=> .inl (by cases hx;rfl)) ?_
   ·refine Um g0 aq hin (by simp[q3];omega) λt ht=> ?_;rw[get_setMany _ _ _ t (by simp[q3];omega),get_setMany _ _ _ t (by rw[q3];omega),zV];simp only[yj,k0,g0];by_cases c1:t<i*2
    ·rw[bO aq,bO aq,bI c1,curus t aq]
    ·by_cases c2:t<(i+1)*2
     ·rw[bI aq,bO c1,bI c2]
     ·rw[bO aq,bI aq,bO c1,bO c2,getElem!_pos _ _ (by rw[zV];omega),xR,getElem!_pos us _ aq]
      congr 1
      omega
   ·exact Kp.trans (X:=bD [cn.row (.slice (V ⟨g,0,I⟩) l.length (cap+1)) 47 l,cn.row (.slice (V ⟨vb,0,I⟩) 1 (vc+1)) 47 b1]) (Y:=[g]) (Kp.trans (w1:=w.drew) (Y:=[g]) ⟨rfl,rfl,rfl,ye _,zm _,λ_ _ _=>rfl⟩ (jf _ _ _) λx hx _=>(hbks x).2 (.inl (by rw[zq.1 hx];rfl))) (jf _ _ _) λx hx _=>(hbks x).2 (.inl (by rw[zq.1 hx];rfl))
  ·have hG:=grownCap_ge w (zR l+1) (cap+1) 47;have hG2:=grownCap_le_maxLen w (zR l+1) (cap+1) 47 aq;refine(Mr (P:=vn) func125 aV underlying3 Tryz.isAgg3 Tryz.sizeOf3 Tryz.zeroValue3 underlying4 Tryz.isAgg4 Tryz.sizeOf4 Tryz.zeroValue4 underlying50 Tryz.isAgg50 Tryz.sizeOf50 Tryz.zeroValue50 i0 _ i1 i2 aq (by rw[i3];rfl) 2 i3 Tryz.sizeOf47 g 0 l.length (cap+1) i vb 0 (vc+1) us us1 w hlt q1 aq aq (by rw[i4];omega) g0 aq hcs hvc honec hone1 hgs hvw).mono λe w' he=> ?_;obtain⟨rfl,rfl⟩:=he;obtain⟨za,hGe⟩:∃za,grownCap w (zR l+1) (cap+1) 47=za+1:=⟨grownCap w (zR l+1) (cap+1) 47-1,aq⟩;rw[hGe]at hG hG2 ⊢;have hzc:∀m,(Builtin.zeroCells (Value.agg #[.slice I 0 0, .int .i64 0]).cells m).size=m*2:=λm=>by rw[size_zeroCells];rfl
   have hRs:((us.take (i*2)).toArray++Builtin.zeroCells (Value.agg #[.slice I 0 0, .int .i64 0]).cells (zR l+1-i)++Builtin.zeroCells (Value.agg #[.slice I 0 0, .int .i64 0]).cells (za+1-(zR l+1))).size=(za+1)*2:=by
    simp only[Array.size_append,y7,zA,hzc];omega
   obtain⟨ROW,hROW⟩:∃ROW:Array Value,ROW=(us.take (i*2)).toArray++Builtin.zeroCells (Value.agg #[.slice I 0 0, .int .i64 0]).cells (zR l+1-i)++Builtin.zeroCells (Value.agg #[.slice I 0 0, .int .i64 0]).cells (za+1-(zR l+1)):=⟨_,rfl⟩;rw[<-hROW]at hRs ⊢;have hR1:∀t,t<i*2->ROW[t]! =us[t]! :=λt ht=>by
    rw[getElem!_pos ROW t aq,getElem!_pos us t aq];simp only[hROW];rw[Array.getElem_append_left (by simp;omega),Array.getElem_append_left (by simp;omega)];simp
   refine fin _ _ ⟨by simp;omega, .inr ⟨w.heap.size,za,_,rfl,gK (T:=47) _ _ (((w.alloc (.cells ROW 47)).drew.setCells w.heap.size (i*2) us1).drew) _ (gK (T:=47) _ _ ((w.alloc (.cells ROW 47)).drew) ROW (heap_alloc w _)),hG,hG2,by simp[hRs],?_⟩⟩ (λx hx=> .inr (by cases hx;exact zm _)) ?_
   ·refine Um g0 aq hin (by simp[hRs];omega) λt ht=> ?_;rw[get_setMany _ _ _ t (by simp[hRs];omega),get_setMany _ _ _ t (by rw[hRs];omega),zV];simp only[k0,g0];by_cases c1:t<i*2
    ·rw[bO aq,bO aq,bI c1,hR1 t c1]
    ·by_cases c2:t<(i+1)*2
     ·rw[bO aq,bI aq,bO c1,bI c2]
     ·rw[bI aq,bO c1,bO c2,getElem!_pos _ _ (by rw[zV];omega),xR,getElem!_pos us _ aq]
      congr 1
      omega
   ·refine Kp.trans (X:=bD [cn.row (.slice (some ⟨g,0,none⟩) l.length (cap+1)) 47 l,cn.row (.slice (some ⟨vb,0,none⟩) 1 (vc+1)) 47 b1]) (w1:=(w.alloc (.cells ROW 47)).drew) (Y:=[w.heap.size]) ⟨rfl,rfl,rfl,ye w.drawn,by show _<=(w.heap.push _).size;rw[Array.size_push];exact ye _,λx hx _=>by show (w.heap.push _)[x]? =_;rw[Array.getElem?_push,bO aq]⟩ (Kp.trans (w1:=((w.alloc (.cells ROW 47)).drew.setCells w.heap.size (i*2) us1).drew) (Y:=[w.heap.size]) (Kp.trans (Y:=[]) (jf _ _ _) (Kp.drew _) λx hx _=>by cases hx) (jf _ _ _) λx hx _=>hx) λx hx hlt=>by rw[zq.1 hx]at hlt;omega
def awW:apG:=λg b hb=>as1 g.2.1 g.2.2.1 b g.1.2.1 hb
end Go.Proofs.YtnfljbehcffmcaaGreat
end
noncomputable section
set_option maxRecDepth 100000
namespace Go.Proofs.YtnfljbehcffmcaaGreat
open Go Go.Iv
open Go.IntKind (i64 u64)
def Md:Td 0 kN:=dB 124
def aiE(p:kN):af (af kN):=nB Ym p
def WB:=bJ (aiE)
abbrev aov:=Int×Bool
def azk:Td 0 aov:=dBs
def HP(a0:aa aC)(a1:aC):af aov:=mB Ym a0 a1
def aBN:=eL vn 123 G (lc (ql 47) (lc (qg 47) (lc (qf 124 ln) ln))) azk (λg=>HP g.1 g.2.1)
def ad1:EO aBN:=λh=>kL (an:=(noTwo (noTwo (noTwo (.two (Md.lp WB .no) .no))))) (l:=[(aY f123 0,(Md.lp WB .no))]) func123 (VE aP) (aA (aO Md) aH) h
abbrev aCa:=aC×Bool
def d122:Td 0 aCa:= .c [] [6,7] (.r 0 2 (ec 6 (qp 0 0) (ec 7 qb en)) (sb 0 47 (lc (qo 1) (aS ln)) (sr 1 3 sn)) (λz=>((aC.mk z.t.1 z.2.1.2.1),z.1.2.1)) (λx=>(((),x.2,()),(((),x.1.aI,()),x.1.aK,()))))
def PT(a0:aU)(a1:bW)(a2:aa aL):af aCa:=
 match m37 a0 a1 a2 with|I=>I|V r1=>V (r1)
def QB:=eL vn 122 G (lc (qg 26) (lc (qg 29) (lc (ql 34) ln))) d122 (λg=>PT g.1 g.2.1 g.t.1)
def ajt:EO QB:=λh=>kL (an:= .no) func122 (aut aP) aH h
abbrev awn:=Int
def d126:Td 0 awn:= .c [] [6] (.r 0 0 (ec 6 aN en) sn (λz=>z.1.1) (λx=>((x,()),(()))))
def adW(a0:aU)(a1:bW)(a2:aa aL):af awn:=
 match m38 a0 a1 a2 with|I=>I|V r1=>V (r1)
def ag1:=eL vn 126 G (lc (qg 26) (lc (qg 29) (lc (ql 34) ln))) d126 (λg=>adW g.1 g.2.1 g.t.1)
def ai5:EO ag1:=λh=>kL (an:= .no) func126 (asw aP) aH h
structure G8 where
 t8:List aC
 t9:List Bool
 t73:List Part
 (t74 t75:Int)
 b0:aU
 b1:bW
 (b2 b3:bk)
def abg:Td 0 G8:= .c [] [3,4,6,7,8,9,73,74,75] (.t (bX.c 3 1 [] 117) (.c [] [3,4,6,7,8,9,73,74,75] (.r 0 8 (ec 3 (qp 0 0) (ec 4 (qp 1 0) (ec 6 (qp 2 0) (ec 7 (qp 3 0) (ec 8 (qo 4) (ec 9 (qo 5) (ec 73 (ql 90) (ec 74 aN (ec 75 aN en))))))))) (sb 0 26 (lg 26) (sb 1 29 (lg 29) (sb 2 84 (lc qn (lc qn ln)) (sb 3 84 (lc (qo 6) (lc (qo 7) ln)) (sr 4 47 (sr 5 4 (sr 6 47 (sr 7 117 sn)))))))) (λz=>⟨z.q.2.1,z.q.t.1,z.1.q.t.1,z.1.q.t.2.1,z.1.q.q.1,z.2.1,z.t.1,(bk.mk [] []),(bk.mk z.q.t.2.1 z.q.q.1)⟩) (λx=>(((),(),(),(),(),(),x.t73,x.t74,x.t75,()),(x.b0,x.b1,((),(),()),((),(),()),x.t8,x.t9,x.b3.cE,x.b3.aX,()))))))
def VV(p:G8):af (af G8):=
 bif J (p.t75<p.t74)then if 0<=p.t75/\p.t75<zR p.t73 then match adW p.b0 p.b1 p.t73[zD p.t75]!.bK with|I=>I|V r4=>if 0<=p.t75/\p.t75<zR p.t9 then if 4=4/\zD p.t75<zR p.t9 then bif p.t9[zD p.t75]! then if 0<=p.t75/\p.t75<zR p.t8 then if 47=47/\zD p.t75<zR p.t8 then match HP p.b3.cE p.t8[zD p.t75]! with|I=>I|V r5=>if(p.b3.aX++[Cell.mk p.t73[zD p.t75]!.b8 p.t73[zD p.t75]!.iQ p.t73[zD p.t75]!.ax [r5.fst] r4]).length<=1073741824 then V (V (G8.mk p.t8 p.t9 p.t73 p.t74 (ak (p.t75+1)) p.b0 p.b1 (bk.mk [] []) (bk.mk p.b3.cE (p.b3.aX++[Cell.mk p.t73[zD p.t75]!.b8 p.t73[zD p.t75]!.iQ p.t73[zD p.t75]!.ax [r5.fst] r4]))))else I else I else I else if(p.b3.aX++[Cell.mk p.t73[zD p.t75]!.b8 p.t73[zD p.t75]!.iQ p.t73[zD p.t75]!.ax [] r4]).length<=1073741824 then V (V (G8.mk p.t8 p.t9 p.t73 p.t74 (ak (p.t75+1)) p.b0 p.b1 (bk.mk [] []) (bk.mk p.b3.cE (p.b3.aX++[Cell.mk p.t73[zD p.t75]!.b8 p.t73[zD p.t75]!.iQ p.t73[zD p.t75]!.ax [] r4]))))else I else I else I else I else V (I)
def V9:=bJ (VV)
structure DO where
 t2:List Part
 t8:List aC
 t9:List Bool
 t25:List Part
 (t26 t27:Int)
 b0:aU
 b1:bW
 (b2 b3:bk)
def abk:Td 0 DO:= .c [] [2,3,4,6,7,8,9,25,26,27] (.t (bX.c 3 0 [] 47) (.c [] [2,3,4,6,7,8,9,25,26,27] (.r 0 7 (ec 2 (ql 90) (ec 3 (qp 0 0) (ec 4 (qp 1 0) (ec 6 (qp 2 0) (ec 7 (qp 3 0) (ec 8 (qo 4) (ec 9 (qo 5) (ec 25 (ql 90) (ec 26 aN (ec 27 aN en)))))))))) (sb 0 26 (lg 26) (sb 1 29 (lg 29) (sb 2 84 (lc qn (lc qn ln)) (sb 3 84 (lc (qo 6) (lc qn ln)) (sr 4 47 (sr 5 4 (sr 6 47 sn))))))) (λz=>⟨z.1.1,z.q.2.1,z.q.t.1,z.1.q.t.2.1,z.1.q.q.1,z.1.q.q.2.1,z.2.1,z.t.1,(bk.mk [] []),(bk.mk z.q.t.2.1 [])⟩) (λx=>((x.t2,(),(),(),(),(),(),x.t25,x.t26,x.t27,()),(x.b0,x.b1,((),(),()),((),(),()),x.t8,x.t9,x.b3.cE,()))))))
def Ut(p:DO):af (af DO):=
 bif J (p.t27<p.t26)then if 0<=p.t27/\p.t27<zR p.t25 then match PT p.b0 p.b1 p.t25[zD p.t27]!.bK with|I=>I|V r1=>if 0<=p.t27/\p.t27<zR p.t8 then if 47=47/\zD p.t27<zR p.t8 then if 0<=p.t27/\p.t27<zR p.t9 then if 4=4/\zD p.t27<zR p.t9 then if 0<=p.t27/\p.t27<(↑(p.t9.set p.t27.toNat r1.snd).length:Int)then if 4=4/\zD p.t27<zR (p.t9.set p.t27.toNat r1.snd) then bif(p.t9.set p.t27.toNat r1.snd)[zD p.t27]! then if 0<=p.t27/\p.t27<(↑(p.t8.set p.t27.toNat r1.fst).length:Int)then if 47=47/\zD p.t27<zR (p.t8.set p.t27.toNat r1.fst) then match HP p.b3.cE (p.t8.set p.t27.toNat r1.fst)[zD p.t27]! with|I=>I|V r2=>bif bif r2.snd then G else O then if 0<=p.t27/\p.t27<(↑(p.t8.set p.t27.toNat r1.fst).length:Int)then if 47=47/\zD p.t27<zR (p.t8.set p.t27.toNat r1.fst) then match Qa r2.fst p.b3.cE [(p.t8.set p.t27.toNat r1.fst)[zD p.t27]!]with|I=>I|V r3=>V (V (DO.mk p.t2 (p.t8.set p.t27.toNat r1.fst) (p.t9.set p.t27.toNat r1.snd) p.t25 p.t26 (ak (p.t27+1)) p.b0 p.b1 (bk.mk [] []) (bk.mk r3 [])))else I else I else V (V (DO.mk p.t2 (p.t8.set p.t27.toNat r1.fst) (p.t9.set p.t27.toNat r1.snd) p.t25 p.t26 (ak (p.t27+1)) p.b0 p.b1 (bk.mk [] []) (bk.mk p.b3.cE [])))else I else I else V (V (DO.mk p.t2 (p.t8.set p.t27.toNat r1.fst) (p.t9.set p.t27.toNat r1.snd) p.t25 p.t26 (ak (p.t27+1)) p.b0 p.b1 (bk.mk [] []) (bk.mk p.b3.cE [])))else I else I else I else I else I else I else I else V (I)
def Uo:=bJ (Ut)
abbrev E57:=bk
def d57:Td 0 E57:= .c [] [6] (.r 0 3 (ec 6 (qp 0 0) en) (sb 0 84 (lc (qo 1) (lc (qo 2) ln)) (sr 1 47 (sr 2 117 sn))) (λz=>(bk.mk z.t.1 z.t.2.1)) (λx=>(((),()),(((),(),()),x.cE,x.aX,()))))
def m57(a0:aU)(a1:bW)(a2:aa Part):af E57:=
 if(0:Int)<=zR a2/\(zR a2:Int)<=(zR a2:Int)/\(zR a2:Int)<=(1073741824:Int)then if(0:Int)<=zR a2/\(zR a2:Int)<=(zR a2:Int)/\(zR a2:Int)<=(1073741824:Int)then match Uo (DO.mk a2 (zj a2.length (aC.mk [] (0))) (zj a2.length G) a2 a2.length 0 a0 a1 (bk.mk [] []) (bk.mk [] []))with|I=>I|V r6=>bif J (r6.t27<r6.t26)then if 0<=r6.t27/\r6.t27<zR r6.t25 then match PT r6.b0 r6.b1 r6.t25[zD r6.t27]!.bK with|I=>I|V r7=>if 0<=r6.t27/\r6.t27<zR r6.t8 then if 47=47/\zD r6.t27<zR r6.t8 then if 0<=r6.t27/\r6.t27<zR r6.t9 then if 4=4/\zD r6.t27<zR r6.t9 then if 0<=r6.t27/\r6.t27<(↑(r6.t9.set r6.t27.toNat r7.snd).length:Int)then if 4=4/\zD r6.t27<zR (r6.t9.set r6.t27.toNat r7.snd) then bif(r6.t9.set r6.t27.toNat r7.snd)[zD r6.t27]! then if 0<=r6.t27/\r6.t27<(↑(r6.t8.set r6.t27.toNat r7.fst).length:Int)then if 47=47/\zD r6.t27<zR (r6.t8.set r6.t27.toNat r7.fst) then match HP r6.b3.cE (r6.t8.set r6.t27.toNat r7.fst)[zD r6.t27]! with|I=>I|V r8=>bif bif r8.snd then G else O then if 0<=r6.t27/\r6.t27<(↑(r6.t8.set r6.t27.toNat r7.fst).length:Int)then if 47=47/\zD r6.t27<zR (r6.t8.set r6.t27.toNat r7.fst) then match Qa r8.fst r6.b3.cE [(r6.t8.set r6.t27.toNat r7.fst)[zD r6.t27]!]with|I=>I|V r9=>I else I else I else I else I else I else I else I else I else I else I else I else I else I else match V9 (G8.mk r6.t8 r6.t9 r6.t2 r6.t2.length 0 r6.b0 r6.b1 (bk.mk [] []) (bk.mk r6.b3.cE []))with|I=>I|V r10=>bif J (r10.t75<r10.t74)then if 0<=r10.t75/\r10.t75<zR r10.t73 then match adW r10.b0 r10.b1 r10.t73[zD r10.t75]!.bK with|I=>I|V r11=>if 0<=r10.t75/\r10.t75<zR r10.t9 then if 4=4/\zD r10.t75<zR r10.t9 then bif r10.t9[zD r10.t75]! then if 0<=r10.t75/\r10.t75<zR r10.t8 then if 47=47/\zD r10.t75<zR r10.t8 then match HP r10.b3.cE r10.t8[zD r10.t75]! with|I=>I|V r12=>if(r10.b3.aX++[Cell.mk r10.t73[zD r10.t75]!.b8 r10.t73[zD r10.t75]!.iQ r10.t73[zD r10.t75]!.ax [r12.fst] r11]).length<=1073741824 then I else I else I else I else if(r10.b3.aX++[Cell.mk r10.t73[zD r10.t75]!.b8 r10.t73[zD r10.t75]!.iQ r10.t73[zD r10.t75]!.ax [] r11]).length<=1073741824 then I else I else I else I else I else V (r10.b3)else I else I
def e57:bu->bu:=eZ vn 57 (lc (qg 26) (lc (qg 29) (lc (ql 90) ln))) d57 (λg=>m57 g.1 g.2.1 g.t.1)
def ati:EO e57:=λh=>kZ (an:=(noTwo (noTwo (noTwo (noTwo (.two (noTwo (abk.lp Uo .no)) (.two (noTwo (abg.lp V9 .no)) .no))))))) (l:=[(aY f57 0,(abk.lp Uo .no)),(aY f57 1,(abg.lp V9 .no))]) func57 (ai5 (ae3 awW (VE (ad1 (ajt aP))))) (aA (aO abk) (aA (aO abg) aH)) h
def MD{F:bu}{f:Nat}(hne:ze f 57=G)(h:bA F f):bA (e57 F) f:=ri hne h
def RW:Td 0 (LE aC aC):=dE 47 47 31
def avb(p:(LE aC aC)):af (af (LE aC aC)):=nE m31 p
def adX:=bJ (avb)
abbrev az8:=Bool
def aE8:Td 0 az8:=dEq
def aqT(a0:aa aC)(a1:aa aC):af az8:=mE m31 a0 a1
def atP:=eL vn 71 O (lc (ql 47) (lc (ql 47) (lc (qf 31 ln) ln))) aE8 (λg=>aqT g.1 g.2.1)
def afz:EO atP:=λh=>kL (an:=(noTwo (noTwo (.two (noTwo (RW.lp adX .no)) .no)))) (l:=[(aY f71 0,(RW.lp adX .no))]) func71 (ac1 aP) (aA (aO RW) aH) h
def Ir:EP atP:=λh=>kP h
def ax6:bu:=(e77 di)
abbrev ayY:=Bool
def d121:Td 0 ayY:= .c [] [4] (.r 0 0 (ec 4 qb en) sn (λz=>z.1.1) (λx=>((x,()),(()))))
def ay0:∀f∈([77]:aa Nat),bA (ax6) f:=(aA (PS bF) aH)
def agt(a0:Cell)(a1:Cell):af ayY:=
 match bif J (a0.b8=a1.b8)then bif J (a0.iQ=a1.iQ)then bif J (a0.gv=a1.gv)then match m77 a0.ax a1.ax with|I=>I|V r1=>bif r1 then match m77 a0.cE a1.cE with|I=>I|V r2=>V (r2)else V (G)else V (G)else V (G)else V (G)with|I=>I|V r3=>V (r3)
def ars:=eL vn 121 G (lc (qg 117) (lc (qg 117) ln)) d121 (λg=>agt g.1 g.2.1)
def Vj:EO ars:=λh=>kL (F:=ax6) (an:=(noTwo (.two (.rb [77] 4) .no))) (l:=[(.skip,(.rb [77] 4))]) func121 (adU aP) (aA ay0 aH) h
def HU:EP ars:=λh=>kP h
def L8:Td 0 (LE Cell Cell):=dE 117 117 121
def ahd(p:(LE Cell Cell)):af (af (LE Cell Cell)):=nE agt p
def VN:=bJ (ahd)
abbrev aox:=Bool
def awG:Td 0 aox:=dEq
def ads(a0:aa Cell)(a1:aa Cell):af aox:=mE agt a0 a1
def ZT:=eL vn 120 O (lc (ql 117) (lc (ql 117) (lc (qf 121 ln) ln))) awG (λg=>ads g.1 g.2.1)
def abT:EO ZT:=λh=>kL (an:=(noTwo (noTwo (.two (noTwo (L8.lp VN .no)) .no)))) (l:=[(aY f120 0,(L8.lp VN .no))]) func120 (Vj aP) (aA (aO L8) aH) h
def GD:EP ZT:=λh=>kP h
def F56:bu:=(ars (ZT (Sb (atP (e71 (e31 di))))))
abbrev E56:=Bool
def d56:Td 0 E56:= .c [] [4] (.r 0 0 (ec 4 qb en) sn (λz=>z.1.1) (λx=>((x,()),(()))))
def aF2:∀f∈([71,120]:aa Nat),bA (F56) f:=(aA (HU (GD (Ib (Ir (PX (OJ bF)))))) (aA (HU (GD (Ib (Ir (PX (OJ bF)))))) aH))
def m56(a0:bk)(a1:bk):af E56:=
 match match aqT a0.cE a1.cE with|I=>I|V r1=>bif r1 then match ads a0.aX a1.aX with|I=>I|V r2=>V (r2)else V (G)with|I=>I|V r3=>V (r3)
def e56:=eL vn 56 G (lc (qg 84) (lc (qg 84) ln)) d56 (λg=>m56 g.1 g.2.1)
def arq:EO e56:=λh=>kL (F:=F56) (an:=(noTwo (.two (.rb [71,120] 4) .no))) (l:=[(.skip,(.rb [71,120] 4))]) func56 (Vj (abT (Wn (afz (aeM (ac1 aP)))))) (aA aF2 aH) h
def OL:EP e56:=λh=>kP h
abbrev E63:=Bool
def d63:Td 0 E63:= .c [] [4] (.r 0 0 (ec 4 qb en) sn (λz=>z.1.1) (λx=>((x,()),(()))))
def m63(a0:aa aL)(a1:Part):af E63:=
 match m64 a0 a1.bK with|I=>I|V r1=>V (r1)
def e63:=eL vn 63 G (lc (ql 34) (lc (qg 90) ln)) d63 (λg=>m63 g.1 g.2.1)
def aau:EO e63:=λh=>kL (an:= .no) func63 (aqv aP) aH h
def NF:EP e63:=λh=>kP h
def ada:Td 0 (LE (aa aL) Part):=dE 30 90 63
def awU(p:(LE (aa aL) Part)):af (af (LE (aa aL) Part)):=nE m63 p
def anE:=bJ (awU)
abbrev E62:=Bool
def d62:Td 0 E62:=dEq
def m62(a0:aa (aa aL))(a1:aa Part):af E62:=mE m63 a0 a1
def e62:=eL vn 62 O (lc (ql 30) (lc (ql 90) (lc (qf 63 ln) ln))) d62 (λg=>m62 g.1 g.2.1)
def asF:EO e62:=λh=>kL (an:=(noTwo (noTwo (.two (noTwo (ada.lp anE .no)) .no)))) (l:=[(aY f62 0,(ada.lp anE .no))]) func62 (aau aP) (aA (aO ada) aH) h
def N3:EP e62:=λh=>kP h
structure ND where
 t10:List (List aL)
 t26:List dP
 (t27 t28:Int)
def aaR:Td 0 ND:= .c [] [10,26,27,28] (.t (bX.s 10 [] 30) (.c [] [10,26,27,28] (.r 0 2 (ec 10 (qo 0) (ec 26 (qo 1) (ec 27 aN (ec 28 aN en)))) (sr 0 30 (sr 1 174 sn)) (λz=>⟨z.2.1,z.t.1,z.1.t.1,z.1.t.2.1⟩) (λx=>(((),(),x.t27,x.t28,()),(x.t10,x.t26,()))))))
def Vu(p:ND):af (af ND):=
 bif J (p.t28<p.t27)then if 0<=p.t28/\p.t28<zR p.t26 then if 174=174/\zD p.t28<zR p.t26 then match Ta p.t26[zD p.t28]!.bK with|I=>I|V r1=>if(p.t10++[r1]).length<=1073741824 then V (V (ND.mk (p.t10++[r1]) p.t26 p.t27 (ak (p.t28+1))))else I else I else I else V (I)
def WI:=bJ (Vu)
abbrev E61:=(aa (aa aL))×Int
def d61:Td 0 E61:= .c [] [6,7] (.t (bX.s 6 [] 30) (.c [] [6,7] (.r 0 1 (ec 6 (qo 0) (ec 7 aN en)) (sr 0 30 sn) (λz=>(z.2.1,z.1.2.1)) (λx=>(((),x.2,()),(x.1,()))))))
def m61(a0:aU)(a1:bW)(a2:bk):af E61:=
 match OU a0 a1 a2 with|I=>I|V r2=>bif bif J (r2.snd=0)then G else O then V ([],r2.snd)else match WI (ND.mk [] r2.fst.aX r2.fst.aX.length 0)with|I=>I|V r3=>bif J (r3.t28<r3.t27)then if 0<=r3.t28/\r3.t28<zR r3.t26 then if 174=174/\zD r3.t28<zR r3.t26 then match Ta r3.t26[zD r3.t28]!.bK with|I=>I|V r4=>if(r3.t10++[r4]).length<=1073741824 then I else I else I else I else V (r3.t10,0)
def e61:bu->bu:=eZ vn 61 (lc (qg 26) (lc (qg 29) (lc (qg 84) ln))) d61 (λg=>m61 g.1 g.2.1 g.t.1)
def arM:EO e61:=λh=>kZ (an:=(noTwo (noTwo (noTwo (noTwo (.two (noTwo (aaR.lp WI .no)) .no)))))) (l:=[(aY f61 0,(aaR.lp WI .no))]) func61 (OZ (rG aP)) (aA (aO aaR) aH) h
def OM{F:bu}{f:Nat}(hne:ze f 61=G)(h:bA F f):bA (e61 F) f:=ri hne h
def F12:bu:=(e63 (e62 (e61 (e57 (e56 (e47 (e46 (e45 di))))))))
def auX:bz vn F12:=(aau (asF (arM (ati (arq (aua (au3 (af3 aHU aP))))))))
abbrev E12:=Bool
def d12:Td 0 E12:= .c [] [6] (.r 0 0 (ec 6 qb en) sn (λz=>z.1.1) (λx=>((x,()),(()))))
def A12:=(lc (qg 26) (lc (qg 29) (lc (ql 5) ln)))
def aDh:An:=(noTwo (noTwo (.two (.two (.rb [46,62] 22) .no) (noTwo (noTwo (noTwo (.two (.rb [46,62] 6) .no)))))))
def aDm:∀f∈([46,62]:aa Nat),bA (F12) f:=(aA (NF (N3 (OM (f:=46) rfl (MD (f:=46) rfl (OL (N8 (f:=46) rfl (O5 (OP bF)))))))) (aA (NF (N3 (OM (f:=62) rfl (MD (f:=62) rfl (OL (N8 (f:=62) rfl (O5 (OP bF)))))))) aH))
def aEN:eX vn (F12) 0 300 12 (aDh):=b6 (l:=[(.skip,(.rb [46,62] 22)),(.skip,(.rb [46,62] 6))]) func12 (bN aV) aV (aA aDm (aA aDm aH))
def m12(a0:aU)(a1:bW)(a2:aa Int):af E12:=
 bif bif m45 then G else O then V G else match match m46 a0 a1 with|I=>I|V r1=>bif bif r1 then G else O then V O else V (J (20<(zR a2:Int)))with|I=>I|V r2=>bif r2 then V O else match m47 a0 a1 a2 with|I=>I|V r3=>bif bif r3.snd.snd then G else O then V G else match m57 a0 a1 r3.fst with|I=>I|V r4=>match m56 r3.snd.fst r4 with|I=>I|V r5=>bif bif r5 then G else O then V G else match m61 a0 a1 r3.snd.fst with|I=>I|V r6=>match bif J (r6.snd=0)then match m62 r6.fst r3.fst with|I=>I|V r7=>V (r7)else V G with|I=>I|V r8=>V (r8)
def c12(a0:aU)(a1:bW)(a2:aa Int):bU vn (F12) 300 (aDh) 12 (A12.c (a0,a1,a2,())) [] 0 d12.rd=m12 a0 a1 a2:=aV
def h12:HL vn 12 A12 d12 (λg=>m12 g.1 g.2.1 g.2.2.1):=(dR auX aEN (λ_=>aV) (λ_=>aV) λg=>c12 g.1 g.2.1 g.2.2.1)
def BX:∀(k:Nat) (a b:aa Int),k<=zR a->k<=zR b->(∀j,j<k->a[j]! =b[j]!)->hU a b=hU (a.drop k) (b.drop k)
 |0,_,_,_,_,_=>rfl
 |k+1,[],_,h,_,_=>by simp at h
 |k+1,_::_,[],_,h,_=>by simp at h
 |k+1,x::a,y::b,h1,h2,h=>by
  have h0:=h 0 aq;simp at h0;subst h0;rw[vm,vm,<-BX k a b (by simpa using h1) (by simpa using h2) λj hj=>by simpa using h (j+1) aq];simp[hU]
def aj3(x y:Int):M1 x y=if x<y then-1 else if y<x then 1 else 0:=by
 unfold M1 X6;by_cases h:x<y
 ·simp[h]
 ·by_cases k:y<x<;>simp[h,k]
def agA(a b:aC)(ha:zR a.aK<=1000):Ym a b=V (dI a b):=by
 obtain⟨i,-,e,hI,h⟩:=lM (rnd:=Bd) (min a.aK.length b.aK.length) (λi (_:Unit)=>⟨(i:Int),a,b⟩) (λi _=>∀j,j<i->a.aK[j]! =b.aK[j]!) (λi _=>i<min a.aK.length b.aK.length/\a.aK[i]!≠b.aK[i]!) (λi _ hi hI=>by
  have hw:=wI (i:=i) (n:=1000) aq aq;have i1:(i:Int)<(zR a.aK:Int):=aq;have i2:(i:Int)<(zR b.aK:Int):=aq;have i3:(0:Int)<=(i:Int):=aq;by_cases h:a.aK[i]! =b.aK[i]!
  ·refine .inl ⟨(),?_,λj hj=> ?_⟩
   ·unfold Bd;simp only[cV,cT,i1,i2,i3,h,dM,hw]
   ·by_cases e:j=i
    ·rw[e];exact h
    ·exact hI j aq
  ·refine .inr ⟨?_,hi,h⟩;unfold Bd;simp only[cV,cT,i1,i2,i3,h,dM]) (λ_ _=>by
   unfold Bd;by_cases h:zR a.aK<=zR b.aK
   ·rw[Nat.min_eq_left h];simp
   ·rw[Nat.min_eq_right aq];have:(zR b.aK:Int)<(zR a.aK:Int):=aq;simp[this]) (b:=()) λj hj=>aq
 have e':LD ⟨0,a,b⟩=V ⟨(i:Int),a,b⟩:=e;unfold Ym;simp only[e',aj3];rcases h with hn|⟨hi,hd⟩
 ·have hd:=BX i a.aK b.aK aq aq hI;unfold dI;rw[hd];by_cases h1:(i:Int)<(zR a.aK:Int)
  ·have h2:¬(i:Int)<(zR b.aK:Int):=aq;rw[yN (l:=a.aK) aq,show ya i b.aK=[]from List.drop_eq_nil_of_le aq];have h3:¬(zR a.aK:Int)=(zR b.aK:Int):=aq;have h4:¬(zR a.aK:Int)<(zR b.aK:Int):=aq;have h5:(zR b.aK:Int)<(zR a.aK:Int):=aq;simp only[cV,cT,gz,h1,h2,h3,h4,h5,hU,ne_eq,Int.one_ne_zero,not_false_eq_true]
  ·rw[show ya i a.aK=[]from List.drop_eq_nil_of_le aq];by_cases h2:zR b.aK=i
   ·rw[show ya i b.aK=[]from List.drop_eq_nil_of_le aq];have h3:(zR a.aK:Int)=(zR b.aK:Int):=aq;rw[h3]at h1;simp only[cV,cT,h3,h1,hU,ne_eq,not_true,GL]
   ·rw[yN (l:=b.aK) aq];have h3:¬(zR a.aK:Int)=(zR b.aK:Int):=aq;have h4:(zR a.aK:Int)<(zR b.aK:Int):=aq;simp only[cV,cT,h1,h3,h4,dM,hU];rfl
 ·have hd':=BX i a.aK b.aK aq aq hI;have h1:(i:Int)<(zR a.aK:Int):=aq;have h2:(i:Int)<(zR b.aK:Int):=aq;have h3:(0:Int)<=(i:Int):=aq;rw[yN (l:=a.aK) aq,yN (l:=b.aK) aq,<-getElem!_pos a.aK i aq,<-getElem!_pos b.aK i aq]at hd';unfold dI;rw[hd'];have hd:=hd.2;simp only[cV,cT,h1,h2,h3,hd,dM,hU];by_cases h4:a.aK[i]! <b.aK[i]!
  ·simp only[h4,dM];rfl
  ·have h5:b.aK[i]! <a.aK[i]! :=aq;simp only[gz,h4,h5];rfl
def PL(l:aa aC):Prop:=l.Pairwise λx y=>dI x y<0
def L2{a b c:aC}(h:dI a b<0)(k:dI b c<=0):dI a c<0:=by
 have h1:=mN a b c aq k;by_cases e:dI a c=0
 ·have:=nr e;subst this;have:=dO a b;omega
 ·omega
def DA:∀{a b:aa aC},PL a->PL b->(∀x,x∈a↔x∈b)->a=b
 |[],[],_,_,_=>rfl
 |[],y::b,_,_,h=>by have:=(h y).2 (zk ..);cases this
 |x::a,[],_,_,h=>by have:=(h x).1 (zk ..);cases this
 |x::a,y::b,ha,hb,h=>by
  obtain⟨a1,a2⟩:=x8.1 ha;obtain⟨b1,b2⟩:=x8.1 hb;have hxy:x=y:=by
   rcases zy.1 ((h x).1 (zk ..))with e|e
   ·exact e
   ·rcases zy.1 ((h y).2 (zk ..))with e2|e2
    ·exact e2.symm
    ·have q1:=b1 x e;have q2:=a1 y e2;have:=dO x y;omega
  subst hxy;rw[DA a2 b2 λz=>⟨λhz=> ?_,λhz=> ?_⟩]
  ·rcases zy.1 ((h z).1 (zJ _ hz))with e|e
   ·subst e;have:=a1 z hz;rw[rR]at this;omega
   ·exact e
  ·rcases zy.1 ((h z).2 (zJ _ hz))with e|e
   ·subst e;have:=b1 z hz;rw[rR]at this;omega
   ·exact e
def MS:∀{l:aa aC} {p:aC},(∀x∈l,dI p x<=0)->CR l->(∀x∈oy p l,dI p x<0)/\PL (oy p l)/\∀x,x∈p::oy p l↔x∈p::l
 |[],p,_,_=>⟨λx hx=>by simp[oy]at hx,List.Pairwise.nil,λx=>by simp[oy]⟩
 |y::l,p,hp,hs=>by
  obtain⟨s1,s2⟩:=x8.1 hs;obtain⟨i1,i2,i3⟩:=MS (l:=l) (p:=y) s1 s2;unfold oy;have hpy:=hp y (zk ..);have hn:=dO p y;split
  ·rename_i e;have e2:=nr e;subst e2;refine⟨i1,i2,λx=>(i3 x).trans ?_⟩;simp
  ·have hlt:dI p y<0:=aq;refine⟨λx hx=> ?_,x8.2 ⟨i1,i2⟩,λx=> ?_⟩
   ·rcases zy.1 hx with rfl|hx
    ·exact hlt
    ·exact L2 hlt (by have:=i1 x hx;omega)
   ·rw[zy,i3 x,zy (b:=p)]
def aar{l:aa aC}(hs:CR l):PL (vY l)/\∀x,x∈vY l↔x∈l:=by
 cases l with
 |nil=>exact⟨List.Pairwise.nil,λx=>Iff.rfl⟩
 |cons p l=>
  obtain⟨s1,s2⟩:=x8.1 hs;obtain⟨i1,i2,i3⟩:=MS (l:=l) (p:=p) s1 s2;exact⟨x8.2 ⟨i1,i2⟩,i3⟩
def P3(c:aa dP):PL (jr c)/\∀x,x∈jr c↔x∈mI c:=by
 obtain⟨h1,h2⟩:=aar (Oi (mI c));exact⟨h1,λx=>(h2 x).trans (sy _).mem_iff⟩
def HG:∀{l:aa aC},PL l->∀o,l.take (kS l o)=l.filter (λx=>J (dI x o<0))/\l.drop (kS l o)=l.filter (λx=> !J (dI x o<0))
 |[],_,o=>⟨rfl,rfl⟩
 |x::l,h,o=>by
  obtain⟨h1,h2⟩:=x8.1 h;obtain⟨i1,i2⟩:=HG h2 o;unfold kS at i1 i2 ⊢;by_cases e:dI x o<0
  ·rw[wL (by simpa using e),wM (by simpa using e),yM,vi,vm,i1,i2];exact⟨rfl,rfl⟩
  ·have hno:∀y∈l,¬dI y o<0:=λy hy hc=>e (by
    have q:=h1 y hy;exact L2 q aq)
   have f1:l.filter (λy=>J (dI y o<0))=[]:=wU.2 λy hy=>by simpa using hno y hy
   have f2:l.filter (λy=> !J (dI y o<0))=l:=wV.2 λy hy=>by simpa using hno y hy
   rw[wM (by simpa using e),f1,wL (by simpa using e),f2];exact⟨rfl,rfl⟩
def amm{l:aa aC}(hs:PL l){o:aC}(hn:Gd l o=G):PL (l.take (kS l o)++[o]++l.drop (kS l o))/\∀x,x∈l.take (kS l o)++[o]++l.drop (kS l o)↔x=o\/x∈l:=by
 obtain⟨e1,e2⟩:=HG hs o;have hne:∀y∈l,dI y o≠0:=λy hy he=>by
  unfold Gd at hn;rw[List.any_eq_false]at hn;exact hn y hy (bZ he)
 have m1:∀y∈l.take (kS l o),dI y o<0:=λy hy=>by
  rw[e1]at hy;simpa using (z7.1 hy).2
 have m2:∀y∈l.drop (kS l o),dI o y<0:=λy hy=>by
  have:=hne y (xD hy);rw[e2]at hy;have q:¬dI y o<0:=by simpa using (z7.1 hy).2
  have:=dO y o;omega
 have hl:∀x,x∈l↔x∈l.take (kS l o)\/x∈l.drop (kS l o):=λx=>by
  conv=>lhs;rw[<-xg (kS l o) l]
  exact zP
 constructor
 ·refine List.pairwise_append.2 ⟨List.pairwise_append.2 ⟨List.Pairwise.sublist (List.take_sublist ..) hs,List.pairwise_singleton ..,λa ha b hb=>by rw[zq.1 hb];exact m1 a ha⟩,List.Pairwise.sublist (List.drop_sublist ..) hs,λa ha b hb=> ?_⟩;rcases zP.1 ha with ha|ha
  ·have:=m2 b hb;exact L2 (m1 a ha) aq
  ·rw[zq.1 ha];exact m2 b hb
 ·intro x;rw[hl,zP,zP,zq];constructor
  ·rintro((h|h)|h)
   ·exact .inr (.inl h)
   ·exact .inl h
   ·exact .inr (.inr h)
  ·rintro(h|h|h)
   ·exact .inl (.inr h)
   ·exact .inl (.inl h)
   ·exact .inr h
def aj1{l:aa aC}{o:aC}(h:Gd l o=O):o∈l:=by
 unfold Gd at h;obtain⟨x,h1,h2⟩:=xU.1 h;rw[<-nr (of_decide_eq_true h2)];exact h1
def Y3{c:aa dP}{i:Nat}(h:i<zR c):jr (c.take (i+1))=if c[i]!.dX=O then if Gd (jr (c.take i)) c[i]!.cE=O then jr (c.take i)else(jr (c.take i)).take (kS (jr (c.take i)) c[i]!.cE)++[c[i]!.cE]++(jr (c.take i)).drop (kS (jr (c.take i)) c[i]!.cE)else jr (c.take i):=by
 obtain⟨a1,a2⟩:=P3 (c.take (i+1));obtain⟨b1,b2⟩:=P3 (c.take i);have hs:=Hq h;by_cases h1:c[i]!.dX=O
 ·rw[bI h1]at hs ⊢;split
  ·rename_i h2;refine DA a1 b1 λx=> ?_;rw[a2,b2,hs,zP,zq];exact⟨λq=>q.elim id λq=>q▸(b2 _).1 (aj1 h2), .inl⟩
  ·rename_i h2;obtain⟨s1,s2⟩:=amm b1 (Bool.eq_false_iff.2 h2);refine DA a1 s1 λx=> ?_;rw[s2,a2,b2,hs,zP,zq,or_comm]
 ·rw[bO h1]at hs ⊢;refine DA a1 b1 λx=> ?_;rw[a2,b2,hs]
def N7{l:aa aC}(hs:CR l)(hl:zR l<=1000000)(o:aC)(ho:∀x∈l,zR x.aK<=1000):HP l o=V ((kS l o:Int),Gd l o):=api hs hl o λx hx=>agA x o (ho x hx)
section
variable {f:aU} {v:bW}
def iG.PT{b:aa aL}(h:iG f b)(c:Cx f v):PT f v b=V (AE f v b,MG f v b)/\adW f v b=V (bdX f v b):=by
 have ha:=h.ask c;have hfit:=Au ha;have hbl:zR b<=1000000:=by have:=j9 c;rw[h.len];omega
 have e23:=axJ c.hN c.hh c.hl hfit;have e37:=ayb e23 (DE hfit);have e38:=ayX e23 (DE hfit) hfit.nn hbl hfit.vol.2;unfold YtnfljbehcffmcaaGreat.PT YtnfljbehcffmcaaGreat.adW;rw[e37,e38];unfold AE MG bdX;cases sgB (fC f v b)<;>exact⟨rfl,rfl⟩
def aqt(c:Cx f v){l:aa Part}(h:WF f l)(hl:zR l<=8192):m57 f v l=V (fO (l.map (cellOf f v))):=by
 obtain⟨C,hC⟩:∃C,C=l.map (cellOf f v):=⟨_,rfl⟩;have hz:=ny c h aq;have hCl:zR C=zR l:=by rw[hC,zn]
 have hCg:∀i,i<zR l->C[i]! =cellOf f v l[i]! :=λi hi=>by rw[hC];exact eo _ _ _ hi
 rw[<-hC]at hz ⊢;have lo:∀i x,x∈jr (C.take i)->zR x.aK<=1000:=λi x hx=>by
  obtain⟨y,q1,_,rfl⟩:=Pn hx;obtain⟨j,hj,rfl⟩:=yU (wF q1);rw[<-getElem!_pos C j hj];exact hz.obs j hj
 have ll:∀i,zR (jr (C.take i))<=zR l:=λi=>by
  have h1:=vw (C.take i);have h2:zR (C.take i)<=zR C:=by rw[zA];omega
  omega
 obtain⟨b1,e1,hb1⟩:=cH (rnd:=Ut) l.length (λi (b:aa aC×aa Bool×aa aC)=>⟨l,b.1,b.2.1,l,(zR l:Int),(i:Int),f,v,⟨[],[]⟩,⟨b.2.2,[]⟩⟩) (λi b=>zR b.1=zR l/\zR b.2.1=zR l/\(∀j,j<i->b.1[j]! =AE f v l[j]!.bK/\b.2.1[j]! =MG f v l[j]!.bK)/\b.2.2=jr (C.take i)) (λi b hi hI=>by
  obtain⟨S,B,T⟩:=b;obtain⟨q1,q2,q3,q4⟩:=hI;dsimp only at q1 q2 q3 q4 ⊢;obtain⟨i1,i2,hw⟩:=w3 hi aq;have QB:=((h.box i hi).PT c).1;have eS:(S.set i (AE f v l[i]!.bK))[i]! =AE f v l[i]!.bK:=by rw[iT _ _ _ _ aq,bI rfl]
  have eB:(B.set i (MG f v l[i]!.bK))[i]! =MG f v l[i]!.bK:=by rw[iT _ _ _ _ aq,bI rfl]
  have s1:zR (S.set i (AE f v l[i]!.bK))=zR l:=by rw[yw,q1]
  have s2:zR (B.set i (MG f v l[i]!.bK))=zR l:=by rw[yw,q2]
  have GU:=N7 (l:=T) (by rw[q4];exact DT _) (by rw[q4];have:=ll i;omega) (AE f v l[i]!.bK) (λx hx=>lo i x (q4▸hx));have hTl:zR T<=1000000000:=by rw[q4];have:=ll i;omega
  have hT:=Y3 (c:=C) (i:=i) aq;rw[hCg i hi,<-q4]at hT;have k0:(0:Int)<=(kS T (AE f v l[i]!.bK):Int):=aq;have k1:(kS T (AE f v l[i]!.bK):Int)<=(zR T:Int):=by
   have:kS T (AE f v l[i]!.bK)<=zR T:=yt _ _;omega
  have aup:Qa (kS T (AE f v l[i]!.bK):Int) T [AE f v l[i]!.bK]=V (T.take (kS T (AE f v l[i]!.bK))++[AE f v l[i]!.bK]++T.drop (kS T (AE f v l[i]!.bK))):=by
   unfold Qa;rw[bI ⟨k0,k1,hTl,rfl⟩,zi]
  refine⟨(S.set i (AE f v l[i]!.bK),B.set i (MG f v l[i]!.bK),jr (C.take (i+1))),?_,s1,s2,λj hj=> ?_,rfl⟩
  ·rw[hT];unfold Ut;cases hs:MG f v l[i]!.bK with
   |true=>
    rw[hs]at QB eB s2;cases hh:Gd T (AE f v l[i]!.bK)with
    |true=>
     rw[hh]at GU;simp only[cV,cT,i1,i2,hi,dM,QB,q1,q2,s1,s2,eB,eS,GU,hw,cellOf,hs,hh]
    |false=>
     rw[hh]at GU;simp only[cV,cT,gz,i1,i2,hi,QB,q1,q2,s1,s2,eB,eS,GU,hw,cellOf,hs,hh,aup,yu]
   |false=>
    rw[hs]at QB eB s2;simp only[cV,cT,gz,i1,i2,hi,QB,q1,q2,s1,s2,eB,hw,cellOf,hs,yu]
  ·dsimp only;rw[iT _ _ _ _ aq,iT _ _ _ _ aq];by_cases e:i=j
   ·rw[bI e,bI e,e];exact⟨rfl,rfl⟩
   ·rw[bO e,bO e];exact q3 j aq) (λb _=>by unfold Ut;simp) (b:=(zj l.length ⟨[],0⟩,zj l.length G,[])) ⟨by simp,by simp,λj hj=>aq,by simp[jr,mI,CQ,vY]⟩
 obtain⟨S,B,T⟩:=b1;obtain⟨q1,q2,q3,q4⟩:=hb1;dsimp only at q1 q2 q3 q4 e1;have hCt:C.take l.length=C:=by rw[<-hCl,zG]
 obtain⟨b2,e2,hb2⟩:=cH (rnd:=VV) l.length (λi (D:aa Cell)=>⟨S,B,l,(zR l:Int),(i:Int),f,v,⟨[],[]⟩,⟨T,D⟩⟩) (λi D=>D=(C.take i).map (kW T)) (λi D hi hD=>by
  obtain⟨i1,i2,hw⟩:=w3 hi aq;have ag1:=((h.box i hi).PT c).2;obtain⟨qS,qB⟩:=q3 i hi;have GU:=N7 (l:=T) (by rw[q4];exact DT _) (by rw[q4];have:=ll l.length;omega) (AE f v l[i]!.bK) (λx hx=>lo l.length x (q4▸hx));have hl2:∀x:Cell,zR (D++[x])<=1073741824:=λx=>by rw[hD,zg,zn,zA,yg];omega
  refine⟨D++[kW T C[i]!],?_,by rw[hD,bC aq,zK];rfl⟩;rw[hCg i hi];unfold VV;cases hs:MG f v l[i]!.bK with
  |true=>
   rw[hs]at qB;simp only[cV,i1,i2,hi,cI,dM,ag1,q1,q2,qB,qS,GU,hl2,hw,kW,cellOf,hs]
  |false=>
   rw[hs]at qB;simp only[cV,cT,gz,i1,i2,hi,ag1,q1,q2,qB,hl2,hw,kW,cellOf,hs,yu]) (λb _=>by unfold VV;simp) (b:=[]) (by simp)
 rw[hCt]at hb2 q4;have e1':Uo ⟨l,zj l.length ⟨[],0⟩,zj l.length G,l,(zR l:Int),0,f,v,⟨[],[]⟩,⟨[],[]⟩⟩=V ⟨l,S,B,l,(zR l:Int),(zR l:Int),f,v,⟨[],[]⟩,⟨T,[]⟩⟩:=e1;have e2':V9 ⟨S,B,l,(zR l:Int),0,f,v,⟨[],[]⟩,⟨T,[]⟩⟩=V ⟨S,B,l,(zR l:Int),(zR l:Int),f,v,⟨[],[]⟩,⟨T,b2⟩⟩:=e2;have j1:(0:Int)<=(zR l:Int):=aq;have j2:(zR l:Int)<=1073741824:=aq;unfold m57;simp only[cV,j1,j2,zw,dM,e1',e2',yl,cw,fO,<-q4,hb2]
def XF(l:aa aC)(hl:zR l<=1000000)(h:∀x∈l,zR x.aK<=1000):aqT l l=V O:=vE hl rfl λi hi=>ZY _ (h _ (bq hi))
def TY(l:aa Cell)(hl:zR l<=1000000)(h:∀i,i<zR l->zR l[i]!.ax<=1000/\zR l[i]!.cE<=1000):ads l l=V O:=vE hl rfl λi hi=>by
 unfold agt;simp only[Cv,cI,vp _ (h i hi).1,vp _ (h i hi).2]
def ad8(c:Cx f v){l:aa Part}(h:WF f l)(hl:zR l<=8192):m56 (fO (l.map (cellOf f v))) (fO (l.map (cellOf f v)))=V O:=by
 have hz:=ny c h aq;have e71:=XF (jr (l.map (cellOf f v))) (by have:=vw (l.map (cellOf f v));have:=hz.len;omega) (λx hx=>hz.mem hx);have Sb:=TY ((l.map (cellOf f v)).map (kW (jr (l.map (cellOf f v))))) (by rw[zn];have:=hz.len;omega) (λi hi=>by
  rw[zn]at hi;rw[eo _ _ _ hi];have:=hz.kid i hi;refine⟨this,?_⟩;show zR (if _ then _ else _:aa Int)<=_;split
  ·exact(by decide:(1:Nat)<=1000)
  ·exact yW _)
 unfold m56;simp only[fO,e71,Sb,cI]
def avq(c:Cx f v){l:aa Part}(h:WF f l)(hl:zR l<=8192):m61 f v (fO (l.map (cellOf f v)))=V (l.map (·.bK),0):=by
 have e105:=MM c h aq;have hCl:zR (l.map (cellOf f v))=zR l:=zn ..;obtain⟨b,e,hb⟩:=cH (rnd:=Vu) l.length (λi (b:aa (aa aL))=>⟨b,l.map (cellOf f v),(zR l:Int),(i:Int)⟩) (λi b=>b=(l.take i).map (·.bK)) (λi b hi hb=>by
  obtain⟨i1,i2,hw⟩:=w3 hi aq;have e40:=aa9 (l:=l[i]!.bK) (by rw[(h.box i hi).len];have:=j9 c;omega);have hl2:∀x:aa aL,zR (b++[x])<=1073741824:=λx=>by rw[hb,zg,zn,zA,yg];omega
  refine⟨b++[l[i]!.bK],?_,by rw[hb,bC hi,zK];rfl⟩;unfold Vu;simp only[cV,hCl,i1,i2,hi,cI,dM,(Jm hi).2,e40,hl2,hw]) (λb _=>by unfold Vu;simp) (b:=[]) (by simp)
 rw[zG]at hb;have e':WI ⟨[],l.map (cellOf f v),(zR l:Int),0⟩=V ⟨b,l.map (cellOf f v),(zR l:Int),(zR l:Int)⟩:=e;unfold m61;simp only[cV,cT,e105,hCl,e',yl,hb]
def aaH(l:aa Part)(hl:zR l<=1000000)(h:∀i,i<zR l->zR l[i]!.bK<=1000000):m62 (l.map (·.bK)) l=V O:=vE (by rw[zn];exact hl) (zn ..) λi hi=>by
 rw[zn]at hi;unfold m63;rw[eo _ _ _ hi,aaU _ (h i hi)]
def ayq(f:aU)(v:bW)(p:aa Int)(hx:∀x∈p,0<=x/\x<256):m12 f v p=V O:=by
 obtain⟨r,e46,h46⟩:=auj f v;unfold m12;cases r with
 |false=>simp only[cT,m45,e46]
 |true=>
  have c:=h46 rfl;by_cases hp:(20:Int)<(zR p:Int)
  ·simp only[cT,m45,e46,hp,Cv]
  ·have e47:=atB c (p:=p) aq hx;obtain⟨g1,g2⟩:=EK c _ p rfl;obtain⟨l,hl⟩:∃l,l=nX f p:=⟨_,rfl⟩;rw[<-hl]at e47 g1 g2;have e57:=aqt c g1 aq;have e56:=ad8 c g1 aq;have e61:=avq c g1 aq;have e62:=aaH l aq λi hi=>by rw[(g1.box i hi).len];have:=j9 c;omega
   simp only[cV,cT,m45,e46,hp,e47,e57,e56,e61,e62]
end
end Go.Proofs.YtnfljbehcffmcaaGreat
end
noncomputable section
namespace Go.Iv
variable [U:sV]
open Go Go.RowKit Go.Deep Go.ChangeShapes Go.WideShapes Go.Joins
def atx{P:Program}{f:FuncId}{args:aa AV}(h:Iv.Fn P f args [] (λa s=>a= .b O/\s=[])){A:Nat->Prop}{w:World}{vs:aa Value}(hr:bP A w args vs):
  Calls P f vs.toArray w λe w'=>∃v,e= .returned v/\v= .bool O/\Below w.heap.size w w':=
 (h w A vs hr ⟨λr hr=>by simp at hr,λb hb=>by simp[bD]at hb⟩ (by simp[bD])).mono λe w' ⟨v,av,σ',h1,⟨h2,h3⟩,h4,h5⟩=>by
  subst h2;exact⟨v,h1,h5.cL,h4.kp.below⟩
abbrev ur:Nat->Prop:=λ_=>True
def kD{α:Type}{H:Type}(enc:TypeId×Value->H)(P:Program)(w:World)(t:TypeId)(c:α->aa AV)(ok:α->Prop):Prop:=
 ∀(base:Nat) (fuel:Nat) (cs:aa Value) (x:DataW H×aa MemPlace),DataW.trod enc P w base (λ_=>O) O fuel t cs=V x->∃a,ok a/\bP ur w (c a) cs
section
variable {α:Type} {H:Type} {enc:TypeId×Value->H} {P:Program} {w:World} {t e:TypeId}
def kD.int{k:IntKind}(ht:P.underlying t=V (.int k)):kD enc P w t (cN k) (λn=>(Lit.int k n).wf=O):=λbase fuel cs x h=>by
 obtain⟨n,rfl,_,hw⟩:=DataW.trod_int ht h;exact⟨n,hw,bP.cons (.lit _) bP.nil⟩
def kD.bool(ht:P.underlying t=V .bool):kD enc P w t cB (λ_=>True):=λbase fuel cs x h=>by
 obtain⟨b,rfl,_⟩:=DataW.trod_bool ht h;exact⟨b,trivial,bP.cons (.lit _) bP.nil⟩
def kD.slice{ok:U.dg e->Prop}{sz:Nat}(ht:P.underlying t=V (.slice e))(hc:P.cellsOf e=sz+1)(hs:U.sz e=sz+1)(he:kD enc P w e (U.cells e) ok):
  kD enc P w t (λl:aa (U.dg e)=>[.sl e l]) (λl=>zR l<=9223372036854775807/\∀a∈l,ok a):=λbase fuel cs x h=>by
 rcases open_slice ht h with ⟨rfl,_⟩|⟨a,len,cp,m,n,D,Pl,hcs,hb,hl,hm,hmm,_,hx⟩
 ·refine⟨[],⟨by simp,by simp⟩,bP.cons ?_ bP.nil⟩;exact .sl e ([]:aa (U.dg e)) I 0 (λ_ _=>default) (by simp) (by simp) (λi hi=>by simp at hi) (λi hi=>by simp at hi) (λi j a hi=>by simp at hi)
 ·subst hcs;have hmm:m=cp:=by rw[hmm];rfl
  rw[hc]at hx;have hmx:cp<=9223372036854775807:=by unfold maxLen at hm;omega
  obtain⟨CS,hCS⟩:=choose_lt (α:=aa Value×U.dg e) (p:=λi y=>w.cells? base (a.add (i*(sz+1))) (sz+1)=V y.1/\ok y.2/\bP ur w (U.cells e y.2) y.1) (n:=len) (λi hi=>by
   obtain⟨cs',h1,h2⟩:=hx i aq;obtain⟨y,h3,h4⟩:=he _ _ _ _ h2;exact⟨(cs',y),h1,h3,h4⟩)
  obtain⟨l,hld⟩:∃l:aa (U.dg e),l=(zN len).map λi=>(CS i).2:=⟨_,rfl⟩;have hln:zR l=len:=by rw[hld];simp
  have hget:∀i,i<len->l[i]! =(CS i).2:=λi hi=>by
   rw[getElem!_pos l i aq];simp[hld]
  refine⟨l,⟨aq,λy hy=> ?_⟩,bP.cons ?_ bP.nil⟩
  ·rw[hld,zL]at hy;obtain⟨i,hi,rfl⟩:=hy;exact(hCS i (by simpa using hi)).2.1
  ·rw[<-hln];refine .sl e l (V a) cp (λi j=>(CS i).1[j]!) aq aq (λi hi=> ?_) (λi hi=> ?_) (λi j av hi hj=> ?_)
   ·rw[hln]at hi;obtain⟨h1,_,h3⟩:=hCS i hi;obtain⟨_,h5,_⟩:=World.cells?_some h1;rw[hget i hi,<-h3.1,h5,hs]
   ·rw[hln]at hi;obtain⟨h1,_,h3⟩:=hCS i hi;obtain⟨_,h5,h6⟩:=World.cells?_some h1;have hj:∀j,j<sz+1->w.cell? ((a.add (i*(sz+1))).add j)=V (CS i).1[j]! :=λj hj=>by
     rw[h6 j hj,getElem!_pos _ j aq,zu aq]
    obtain⟨b,off,spot⟩:=a;have hs:spot=I:=by
     obtain⟨g1,_,_⟩:=hCS 0 aq;obtain⟨_,g5,g6⟩:=World.cells?_some g1;have:=World.cell?_spot (v:=(CS 0).1[0]!) (w:=w) (a:=((⟨b,off,spot⟩:Addr).add (0*(sz+1))).add 0) (by rw[g6 0 aq,getElem!_pos _ 0 aq,zu aq]);simpa [Addr.add]using this
    subst hs;have hj':∀j,j<sz+1->w.cell? ⟨b,off+i*(sz+1)+j,I⟩=V (CS i).1[j]! :=λj hlt=>by
     have:=hj j hlt;have ap:∀o i:Nat,(⟨b,o,I⟩:Addr).add i=⟨b,o+i,I⟩:=λo i=>by
      unfold Addr.add;split
      ·rename_i h0;simp only[h0,yh]
      ·rfl
     rw[ap,ap]at this;exact this
    exact⟨b,off,rfl,World.block_lt_of_cell? w _ (hj' 0 aq),trivial,by rw[hs];exact hj'⟩
   ·rw[hln]at hi;rw[hget i hi]at hj;obtain⟨h1,_,h3⟩:=hCS i hi;obtain⟨v,q1,q2⟩:=h3.get hj;show Rel ur w av (CS i).1[j]!;obtain⟨q3,q4⟩:=z8.1 q1;rw[getElem!_pos _ j q3,q4];exact q2
def kD.one{c:α->AV}{ok:α->Prop}{v:Value}{d:DataW H}{p:aa MemPlace}(he:kD enc P w t (λa=>[c a]) ok)(hv:v.cells=#[v])(h:DataW.Trod enc P w 0 (λ_=>O) O t v d p):∃a,ok a/\Rel ur w (c a) v:=by
 obtain⟨fuel,hf⟩:=h;rw[hv]at hf;obtain⟨a,h1,h2⟩:=he _ _ _ _ hf;exact⟨a,h1,h2.2 0 _ _ rfl rfl⟩
def kD.agg{c:α->aa AV}{ok:α->Prop}{v:Value}{cs:Array Value}{d:DataW H}{p:aa MemPlace}(he:kD enc P w t c ok)(hv:v= .agg cs)(h:DataW.Trod enc P w 0 (λ_=>O) O t v d p):∃a,ok a/\Rel ur w (.agg (c a)) v:=by
 obtain⟨fuel,hf⟩:=h;subst hv;obtain⟨l⟩:=cs;obtain⟨a,h1,h2⟩:=he _ _ _ _ hf;exact⟨a,h1,Rel.pN h2⟩
end
def Mm.law[L:nj]{P:Program}{f:FuncId}{args:aa AV}{x:Out}(h:Mm P f args [] 0 x)(hx:x=⟨.b O,[],0⟩)(ha:args.all (G4 2)=O):Iv.Fn P f args [] (λa s=>a= .b O/\s=[]):=by
 subst hx;have h1:=h ⟨λ_=>undef,λ_=>0⟩;have:args.map (b9.sub ⟨λ_=>undef,λ_=>0⟩)=args.map id:=zZ λc hcm=>kE 2 (zx.1 ha c hcm);rw[this,List.map_id]at h1;exact h1.mono λa s ⟨ρ',_,e1,e2⟩=>⟨by rw[e1];exact kE 2 rfl,List.Perm.eq_nil e2⟩
def cZ{A:Nat->Prop}{w:World}{xs bs:aa AV}{us:aa Value}{n:Nat}(h:bP A w xs (us.take n))(h':bP A w bs (us.drop n)):bP A w (xs++bs) us:=by
 have:=h.app h'
 rwa [xg]at this
def JU(B:Nat){α:Type}{H:Type}(enc:TypeId×Value->H)(P:Program)(w:World)(t:TypeId)(c:α->aa AV)(ok:α->Prop):Prop:=
 ∀(base:Nat) (fuel:Nat),fuel<B->∀(cs:aa Value) (x:DataW H×aa MemPlace),DataW.trod enc P w base (λ_=>O) O fuel t cs=V x->∃a,ok a/\bP ur w (c a) cs
section
variable {α:Type} {H:Type} {enc:TypeId×Value->H} {P:Program} {w:World} {t e:TypeId}
def kD.ofB{c:α->aa AV}{ok:α->Prop}(h:∀B,JU B enc P w t c ok):kD enc P w t c ok:=λbase fuel cs x hx=>h (fuel+1) base fuel (zC _) cs x hx
def kD.str(ht:P.underlying t=V .string):kD enc P w t (λs=>[.s s]) (λ_=>True):=λbase fuel cs x h=>by
 obtain⟨b,rfl,_⟩:=DataW.trod_string ht h;exact⟨b,trivial,bP.cons (.lit _) bP.nil⟩
def kD.any{c:α->aa AV}{ok:α->Prop}(h:kD enc P w t c ok):kD enc P w t c (λ_=>True):=λbase fuel cs x hx=>by
 obtain⟨a,_,r⟩:=h base fuel cs x hx;exact⟨a,trivial,r⟩
def JU.slice{B:Nat}{ok:U.dg e->Prop}{sz:Nat}(ht:P.underlying t=V (.slice e))(hc:P.cellsOf e=sz+1)(hs:U.sz e=sz+1)(he:JU B enc P w e (U.cells e) ok):
  JU B enc P w t (λl:aa (U.dg e)=>[.sl e l]) (λl=>zR l<=9223372036854775807/\∀a∈l,ok a):=λbase fuel hB cs x h=>by
 rcases DataW.trod_slice ht h with ⟨rfl,_⟩|⟨a,len,cp,elems,rest,n,hfu,hcs,_,hb,hl,hm,hlen,hx,_,_⟩
 ·refine⟨[],⟨by simp,by simp⟩,bP.cons ?_ bP.nil⟩;exact .sl e ([]:aa (U.dg e)) I 0 (λ_ _=>default) (by simp) (by simp) (λi hi=>by simp at hi) (λi hi=>by simp at hi) (λi j a hi=>by simp at hi)
 ·subst hcs;rw[hc]at hx;have hmx:cp<=9223372036854775807:=by unfold maxLen at hm;omega
  obtain⟨CS,hCS⟩:=choose_lt (α:=aa Value×U.dg e) (p:=λi y=>w.cells? base (a.add (i*(sz+1))) (sz+1)=V y.1/\ok y.2/\bP ur w (U.cells e y.2) y.1) (n:=len) (λi hi=>by
   have hk:=hx i hi;rw[zu (show i<zR elems by omega)]at hk;obtain⟨cs',h1,h2⟩:=zo.1 hk;obtain⟨y,h3,h4⟩:=he _ n aq _ _ h2;exact⟨(cs',y),h1,h3,h4⟩)
  obtain⟨l,hld⟩:∃l:aa (U.dg e),l=(zN len).map λi=>(CS i).2:=⟨_,rfl⟩;have hln:zR l=len:=by rw[hld];simp
  have hget:∀i,i<len->l[i]! =(CS i).2:=λi hi=>by
   rw[getElem!_pos l i aq];simp[hld]
  refine⟨l,⟨aq,λy hy=> ?_⟩,bP.cons ?_ bP.nil⟩
  ·rw[hld,zL]at hy;obtain⟨i,hi,rfl⟩:=hy;exact(hCS i (by simpa using hi)).2.1
  ·rw[<-hln];refine .sl e l (V a) cp (λi j=>(CS i).1[j]!) aq aq (λi hi=> ?_) (λi hi=> ?_) (λi j av hi hj=> ?_)
   ·rw[hln]at hi;obtain⟨h1,_,h3⟩:=hCS i hi;obtain⟨_,h5,_⟩:=World.cells?_some h1;rw[hget i hi,<-h3.1,h5,hs]
   ·rw[hln]at hi;obtain⟨h1,_,h3⟩:=hCS i hi;obtain⟨_,h5,h6⟩:=World.cells?_some h1;have hj:∀j,j<sz+1->w.cell? ((a.add (i*(sz+1))).add j)=V (CS i).1[j]! :=λj hj=>by
     rw[h6 j hj,getElem!_pos _ j aq,zu aq]
    obtain⟨b,off,spot⟩:=a;have hs:spot=I:=by
     obtain⟨g1,_,_⟩:=hCS 0 aq;obtain⟨_,g5,g6⟩:=World.cells?_some g1;have:=World.cell?_spot (v:=(CS 0).1[0]!) (w:=w) (a:=((⟨b,off,spot⟩:Addr).add (0*(sz+1))).add 0) (by rw[g6 0 aq,getElem!_pos _ 0 aq,zu aq]);simpa [Addr.add]using this
    subst hs;have hj':∀j,j<sz+1->w.cell? ⟨b,off+i*(sz+1)+j,I⟩=V (CS i).1[j]! :=λj hlt=>by
     have:=hj j hlt;have ap:∀o i:Nat,(⟨b,o,I⟩:Addr).add i=⟨b,o+i,I⟩:=λo i=>by
      unfold Addr.add;split
      ·rename_i h0;simp only[h0,yh]
      ·rfl
     rw[ap,ap]at this;exact this
    exact⟨b,off,rfl,World.block_lt_of_cell? w _ (hj' 0 aq),trivial,by rw[hs];exact hj'⟩
   ·rw[hln]at hi;rw[hget i hi]at hj;obtain⟨h1,_,h3⟩:=hCS i hi;obtain⟨v,q1,q2⟩:=h3.get hj;show Rel ur w av (CS i).1[j]!;obtain⟨q3,q4⟩:=z8.1 q1;rw[getElem!_pos _ j q3,q4];exact q2
end
end Go.Iv
end
noncomputable section
set_option maxRecDepth 100000
namespace Go.Proofs.YtnfljbehcffmcaaGreat
open Go Go.Iv Go.RowKit Go.Deep Go.ChangeShapes Go.WideShapes Go.Joins
section
variable {H:Type} {enc:TypeId×Value->H} {w:World}
def og9:kD enc vn w 9 (λs=>[.s s]) (λ_=>True):=kD.str underlying9
def aDn:kD enc vn w 129 (cN .i64) (λ_=>True):=(kD.int underlying129).any
def og3:kD enc vn w 3 (cN .i64) (λ_=>True):=(kD.int underlying3).any
def aCe:kD enc vn w 131 (uni.cells 131) (λ_=>True):=λbase fuel cs x h=>by
 obtain⟨xs,n,hfu,rfl,hl,hlen,hf⟩:=DataW.trod_struct underlying131 h;rw[show vn.cellsOf 131=5 from aV]at hl;have hlen:zR xs=5:=hlen;have f0:DataW.trod enc vn w base (λ_=>O) O n 9 ((cs.drop 0).take (vn.cellsOf 9))=xs[0]? :=hf 0 _ rfl;rw[show vn.cellsOf 9=1 from aV,zu (show 0<zR xs by omega)]at f0;obtain⟨a0,_,r0⟩:=og9 _ _ _ _ f0;have f1:DataW.trod enc vn w base (λ_=>O) O n 129 ((cs.drop 1).take (vn.cellsOf 129))=xs[1]? :=hf 1 _ rfl;rw[show vn.cellsOf 129=1 from aV,zu (show 1<zR xs by omega)]at f1;obtain⟨a1,_,r1⟩:=aDn _ _ _ _ f1;have f2:DataW.trod enc vn w base (λ_=>O) O n 3 ((cs.drop 2).take (vn.cellsOf 3))=xs[2]? :=hf 2 _ rfl;rw[show vn.cellsOf 3=1 from aV,zu (show 2<zR xs by omega)]at f2;obtain⟨a2,_,r2⟩:=og3 _ _ _ _ f2;have f3:DataW.trod enc vn w base (λ_=>O) O n 3 ((cs.drop 3).take (vn.cellsOf 3))=xs[3]? :=hf 3 _ rfl;rw[show vn.cellsOf 3=1 from aV,zu (show 3<zR xs by omega)]at f3;obtain⟨a3,_,r3⟩:=og3 _ _ _ _ f3;have f4:DataW.trod enc vn w base (λ_=>O) O n 3 ((cs.drop 4).take (vn.cellsOf 3))=xs[4]? :=hf 4 _ rfl;rw[show vn.cellsOf 3=1 from aV,zu (show 4<zR xs by omega)]at f4;obtain⟨a4,_,r4⟩:=og3 _ _ _ _ f4;have e:bP ur w [] (cs.drop 5):=by rw[wz aq];exact bP.nil
 have s4:=cZ (us:=cs.drop 4) r4 (by rw[zW];exact e);have s3:=cZ (us:=cs.drop 3) r3 (by rw[zW];exact s4);have s2:=cZ (us:=cs.drop 2) r2 (by rw[zW];exact s3);have s1:=cZ (us:=cs.drop 1) r1 (by rw[zW];exact s2);have s0:=cZ (us:=cs.drop 0) r0 (by rw[zW];exact s1);exact⟨(⟨a0,a1,a2,a3,a4⟩:bf),trivial,s0⟩
def aEz:kD enc vn w 22 (λl:aa (uni.dg 131)=>[.sl 131 l]) (λl=>zR l<=9223372036854775807/\∀a∈l,True):=kD.slice (e:=131) (sz:=4) underlying22 aV rfl aCe
def awb:kD enc vn w 134 (cN .i64) (λ_=>True):=(kD.int underlying134).any
def ac6:∀B,JU B enc vn w 137 (uni.cells 137) (λ_=>True)
 |0=>λbase fuel hB=>ei hB (y9 _)
 |B+1=>λbase fuel hB cs x h=>by
  have ih:=ac6 B;obtain⟨xs,n,hfu,rfl,hl,hlen,hf⟩:=DataW.trod_struct underlying137 h;rw[show vn.cellsOf 137=3 from aV]at hl;have hlen:zR xs=3:=hlen;have f0:DataW.trod enc vn w base (λ_=>O) O n 134 ((cs.drop 0).take (vn.cellsOf 134))=xs[0]? :=hf 0 _ rfl;rw[show vn.cellsOf 134=1 from aV,zu (show 0<zR xs by omega)]at f0;obtain⟨a0,_,r0⟩:=awb _ _ _ _ f0;have f1:DataW.trod enc vn w base (λ_=>O) O n 3 ((cs.drop 1).take (vn.cellsOf 3))=xs[1]? :=hf 1 _ rfl;rw[show vn.cellsOf 3=1 from aV,zu (show 1<zR xs by omega)]at f1;obtain⟨a1,_,r1⟩:=og3 _ _ _ _ f1;have f2:DataW.trod enc vn w base (λ_=>O) O n 135 ((cs.drop 2).take (vn.cellsOf 135))=xs[2]? :=hf 2 _ rfl;rw[show vn.cellsOf 135=1 from aV,zu (show 2<zR xs by omega)]at f2;obtain⟨a2,_,r2⟩:=JU.slice (t:=135) (e:=137) (sz:=2) underlying135 aV rfl ih base n aq _ _ f2;have e:bP ur w [] (cs.drop 3):=by rw[wz aq];exact bP.nil
  have s2:=cZ (us:=cs.drop 2) r2 (by rw[zW];exact e);have s1:=cZ (us:=cs.drop 1) r1 (by rw[zW];exact s2);have s0:=cZ (us:=cs.drop 0) r0 (by rw[zW];exact s1);exact⟨(⟨a0,a1,a2⟩:az),trivial,s0⟩
def ao2:kD enc vn w 137 (uni.cells 137) (λ_=>True):=kD.ofB ac6
def awL:kD enc vn w 139 (uni.cells 139) (λ_=>True):=λbase fuel cs x h=>by
 obtain⟨xs,n,hfu,rfl,hl,hlen,hf⟩:=DataW.trod_struct underlying139 h;rw[show vn.cellsOf 139=6 from aV]at hl;have hlen:zR xs=4:=hlen;have f0:DataW.trod enc vn w base (λ_=>O) O n 9 ((cs.drop 0).take (vn.cellsOf 9))=xs[0]? :=hf 0 _ rfl;rw[show vn.cellsOf 9=1 from aV,zu (show 0<zR xs by omega)]at f0;obtain⟨a0,_,r0⟩:=og9 _ _ _ _ f0;have f1:DataW.trod enc vn w base (λ_=>O) O n 3 ((cs.drop 1).take (vn.cellsOf 3))=xs[1]? :=hf 1 _ rfl;rw[show vn.cellsOf 3=1 from aV,zu (show 1<zR xs by omega)]at f1;obtain⟨a1,_,r1⟩:=og3 _ _ _ _ f1;have f2:DataW.trod enc vn w base (λ_=>O) O n 3 ((cs.drop 2).take (vn.cellsOf 3))=xs[2]? :=hf 2 _ rfl;rw[show vn.cellsOf 3=1 from aV,zu (show 2<zR xs by omega)]at f2;obtain⟨a2,_,r2⟩:=og3 _ _ _ _ f2;have f3:DataW.trod enc vn w base (λ_=>O) O n 137 ((cs.drop 3).take (vn.cellsOf 137))=xs[3]? :=hf 3 _ rfl;rw[show vn.cellsOf 137=3 from aV,zu (show 3<zR xs by omega)]at f3;obtain⟨a3,_,r3⟩:=ao2 _ _ _ _ f3;have e:bP ur w [] (cs.drop 6):=by rw[wz aq];exact bP.nil
 have s3:=cZ (us:=cs.drop 3) r3 (by rw[zW];exact e);have s2:=cZ (us:=cs.drop 2) r2 (by rw[zW];exact s3);have s1:=cZ (us:=cs.drop 1) r1 (by rw[zW];exact s2);have s0:=cZ (us:=cs.drop 0) r0 (by rw[zW];exact s1);exact⟨(⟨a0,a1,a2,a3⟩:dD),trivial,s0⟩
def aEW:kD enc vn w 23 (λl:aa (uni.dg 139)=>[.sl 139 l]) (λl=>zR l<=9223372036854775807/\∀a∈l,True):=kD.slice (e:=139) (sz:=5) underlying23 aV rfl awL
def aA5:kD enc vn w 164 (cN .i64) (λ_=>True):=(kD.int underlying164).any
def aA9:kD enc vn w 27 (λl:aa (uni.dg 3)=>[.sl 3 l]) (λl=>zR l<=9223372036854775807/\∀a∈l,True):=kD.slice (e:=3) (sz:=0) underlying27 aV rfl og3
def aas:∀B,JU B enc vn w 166 (uni.cells 166) (λ_=>True)
 |0=>λbase fuel hB=>ei hB (y9 _)
 |B+1=>λbase fuel hB cs x h=>by
  have ih:=aas B;obtain⟨xs,n,hfu,rfl,hl,hlen,hf⟩:=DataW.trod_struct underlying166 h;rw[show vn.cellsOf 166=10 from aV]at hl;have hlen:zR xs=8:=hlen;have f0:DataW.trod enc vn w base (λ_=>O) O n 164 ((cs.drop 0).take (vn.cellsOf 164))=xs[0]? :=hf 0 _ rfl;rw[show vn.cellsOf 164=1 from aV,zu (show 0<zR xs by omega)]at f0;obtain⟨a0,_,r0⟩:=aA5 _ _ _ _ f0;have f1:DataW.trod enc vn w base (λ_=>O) O n 3 ((cs.drop 1).take (vn.cellsOf 3))=xs[1]? :=hf 1 _ rfl;rw[show vn.cellsOf 3=1 from aV,zu (show 1<zR xs by omega)]at f1;obtain⟨a1,_,r1⟩:=og3 _ _ _ _ f1;have f2:DataW.trod enc vn w base (λ_=>O) O n 3 ((cs.drop 2).take (vn.cellsOf 3))=xs[2]? :=hf 2 _ rfl;rw[show vn.cellsOf 3=1 from aV,zu (show 2<zR xs by omega)]at f2;obtain⟨a2,_,r2⟩:=og3 _ _ _ _ f2;have f3:DataW.trod enc vn w base (λ_=>O) O n 3 ((cs.drop 3).take (vn.cellsOf 3))=xs[3]? :=hf 3 _ rfl;rw[show vn.cellsOf 3=1 from aV,zu (show 3<zR xs by omega)]at f3;obtain⟨a3,_,r3⟩:=og3 _ _ _ _ f3;have f4:DataW.trod enc vn w base (λ_=>O) O n 137 ((cs.drop 4).take (vn.cellsOf 137))=xs[4]? :=hf 4 _ rfl;rw[show vn.cellsOf 137=3 from aV,zu (show 4<zR xs by omega)]at f4;obtain⟨a4,_,r4⟩:=ao2 _ _ _ _ f4;have f5:DataW.trod enc vn w base (λ_=>O) O n 24 ((cs.drop 7).take (vn.cellsOf 24))=xs[5]? :=hf 5 _ rfl;rw[show vn.cellsOf 24=1 from aV,zu (show 5<zR xs by omega)]at f5;obtain⟨a5,_,r5⟩:=JU.slice (t:=24) (e:=166) (sz:=9) underlying24 aV rfl ih base n aq _ _ f5;have f6:DataW.trod enc vn w base (λ_=>O) O n 24 ((cs.drop 8).take (vn.cellsOf 24))=xs[6]? :=hf 6 _ rfl;rw[show vn.cellsOf 24=1 from aV,zu (show 6<zR xs by omega)]at f6;obtain⟨a6,_,r6⟩:=JU.slice (t:=24) (e:=166) (sz:=9) underlying24 aV rfl ih base n aq _ _ f6;have f7:DataW.trod enc vn w base (λ_=>O) O n 27 ((cs.drop 9).take (vn.cellsOf 27))=xs[7]? :=hf 7 _ rfl;rw[show vn.cellsOf 27=1 from aV,zu (show 7<zR xs by omega)]at f7;obtain⟨a7,_,r7⟩:=aA9 _ _ _ _ f7;have e:bP ur w [] (cs.drop 10):=by rw[wz aq];exact bP.nil
  have s7:=cZ (us:=cs.drop 9) r7 (by rw[zW];exact e);have s6:=cZ (us:=cs.drop 8) r6 (by rw[zW];exact s7);have s5:=cZ (us:=cs.drop 7) r5 (by rw[zW];exact s6);have s4:=cZ (us:=cs.drop 4) r4 (by rw[zW];exact s5);have s3:=cZ (us:=cs.drop 3) r3 (by rw[zW];exact s4);have s2:=cZ (us:=cs.drop 2) r2 (by rw[zW];exact s3);have s1:=cZ (us:=cs.drop 1) r1 (by rw[zW];exact s2);have s0:=cZ (us:=cs.drop 0) r0 (by rw[zW];exact s1);exact⟨(⟨a0,a1,a2,a3,a4,a5,a6,a7⟩:aB),trivial,s0⟩
def aC9:kD enc vn w 166 (uni.cells 166) (λ_=>True):=kD.ofB aas
def aGS:kD enc vn w 24 (λl:aa (uni.dg 166)=>[.sl 166 l]) (λl=>zR l<=9223372036854775807/\∀a∈l,True):=kD.slice (e:=166) (sz:=9) underlying24 aV rfl aC9
def aFa:kD enc vn w 26 (uni.cells 26) (λ_=>True):=λbase fuel cs x h=>by
 obtain⟨xs,n,hfu,rfl,hl,hlen,hf⟩:=DataW.trod_struct underlying26 h;rw[show vn.cellsOf 26=3 from aV]at hl;have hlen:zR xs=3:=hlen;have f0:DataW.trod enc vn w base (λ_=>O) O n 22 ((cs.drop 0).take (vn.cellsOf 22))=xs[0]? :=hf 0 _ rfl;rw[show vn.cellsOf 22=1 from aV,zu (show 0<zR xs by omega)]at f0;obtain⟨a0,_,r0⟩:=aEz _ _ _ _ f0;have f1:DataW.trod enc vn w base (λ_=>O) O n 23 ((cs.drop 1).take (vn.cellsOf 23))=xs[1]? :=hf 1 _ rfl;rw[show vn.cellsOf 23=1 from aV,zu (show 1<zR xs by omega)]at f1;obtain⟨a1,_,r1⟩:=aEW _ _ _ _ f1;have f2:DataW.trod enc vn w base (λ_=>O) O n 24 ((cs.drop 2).take (vn.cellsOf 24))=xs[2]? :=hf 2 _ rfl;rw[show vn.cellsOf 24=1 from aV,zu (show 2<zR xs by omega)]at f2;obtain⟨a2,_,r2⟩:=aGS _ _ _ _ f2;have e:bP ur w [] (cs.drop 3):=by rw[wz aq];exact bP.nil
 have s2:=cZ (us:=cs.drop 2) r2 (by rw[zW];exact e);have s1:=cZ (us:=cs.drop 1) r1 (by rw[zW];exact s2);have s0:=cZ (us:=cs.drop 0) r0 (by rw[zW];exact s1);exact⟨(⟨a0,a1,a2⟩:aU),trivial,s0⟩
def og4:kD enc vn w 4 cB (λ_=>True):=kD.bool underlying4
def aED:kD enc vn w 29 (uni.cells 29) (λ_=>True):=λbase fuel cs x h=>by
 obtain⟨xs,n,hfu,rfl,hl,hlen,hf⟩:=DataW.trod_struct underlying29 h;rw[show vn.cellsOf 29=2 from aV]at hl;have hlen:zR xs=2:=hlen;have f0:DataW.trod enc vn w base (λ_=>O) O n 27 ((cs.drop 0).take (vn.cellsOf 27))=xs[0]? :=hf 0 _ rfl;rw[show vn.cellsOf 27=1 from aV,zu (show 0<zR xs by omega)]at f0;obtain⟨a0,_,r0⟩:=aA9 _ _ _ _ f0;have f1:DataW.trod enc vn w base (λ_=>O) O n 4 ((cs.drop 1).take (vn.cellsOf 4))=xs[1]? :=hf 1 _ rfl;rw[show vn.cellsOf 4=1 from aV,zu (show 1<zR xs by omega)]at f1;obtain⟨a1,_,r1⟩:=og4 _ _ _ _ f1;have e:bP ur w [] (cs.drop 2):=by rw[wz aq];exact bP.nil
 have s1:=cZ (us:=cs.drop 1) r1 (by rw[zW];exact e);have s0:=cZ (us:=cs.drop 0) r0 (by rw[zW];exact s1);exact⟨(⟨a0,a1⟩:bW),trivial,s0⟩
end
end Go.Proofs.YtnfljbehcffmcaaGreat
end
noncomputable section
set_option maxRecDepth 100000
namespace Go.Proofs.YtnfljbehcffmcaaGreat
open Go Go.Iv
open Go.IntKind (i64 u64)
def atl:fG vn 12 0 (d12.pat O)=⟨.b O,[],0⟩:=aV
def avp{x:Int}(h:(Lit.int .u8 x).wf=O):0<=x/\x<256:=by
 unfold Lit.wf at h;rw[zh,decide_eq_true_eq,decide_eq_true_eq]at h;have h1:IntKind.u8.min=0:=by decide
 have h2:IntKind.u8.max=255:=by decide
 rw[h1,h2]at h;omega
def avf(f:aU)(v:bW)(p:aa Int)(hx:zR p<=9223372036854775807/\∀x∈p,(Lit.int .u8 x).wf=O):Iv.Fn vn 12 [.agg (uni.cells 26 f), .agg (uni.cells 29 v), .sl 5 p] [] (λa s=>a= .b O/\s=[]):=(h12 (f,v,p,()) O (ayq f v p λx h=>avp (hx.2 x h))).law atl aV
section
variable {H:Type} {enc:TypeId×Value->H} {w:World}
def og5:kD enc vn w 5 (cN .u8) (λn=>(Lit.int .u8 n).wf=O):=kD.int underlying5
def aG3:kD enc vn w 79 (λl:aa (uni.dg 5)=>[.sl 5 l]) (λl=>zR l<=9223372036854775807/\∀a∈l,(Lit.int .u8 a).wf=O):=kD.slice (e:=5) (sz:=0) underlying79 aV rfl og5
end
end Go.Proofs.YtnfljbehcffmcaaGreat
end
