/- Merged: Ix3, Ix4, Iz, Ix5, Ix6, Ixr, Ua, Us, Um, Gs, Ho, Hp, Gn, Gb, Ga, Gd, Sg. -/
import Derived.Test.YtghilkcphindjaaGreatM1SymbolicFinals
import Derived.Test.YtghilkcphindjaaGreatM2SymbolicFinals
import Derived.OrdersIn
import Derived.Test.YtghilkcphindjaaGreatProg
import Derived.Shelf.Spec.SlicesGrow
open Nat renaming beq -> zg, le_refl -> zx, blt -> zB, le_trans -> zK, lt_succ_self -> zN, ble -> z7, le_succ -> yc, eq_of_beq_eq_true -> yI, beq_refl -> yQ, blt_eq -> xw
open Bool renaming and_eq_true -> zh, or_eq_true -> yO, true -> Z, false -> O
open Option renaming map_eq_some_iff -> zj, bind_eq_some_iff -> zl, map_some -> z8, some -> M, none -> J
open List renaming mem_cons -> zk, mem_cons_self -> zm, all_eq_true -> zn, length_append -> zu, mem_map -> zC, getElem?_eq_getElem -> zD, length_map -> zF, map_cons -> zI, mem_cons_of_mem -> zM, getElem?_map -> zP, mem_append -> zR, getElem?_eq_some_iff -> zU, map_congr_left -> zV, length -> zZ, mem_append_left -> ye, map_map -> yg, mem_append_right -> ym, nodup_append -> yH, getElem_mem -> yR, filterMap_cons -> xd, nodup_nil -> xg, all_cons -> xu, drop -> xx, eq_nil_of_length_eq_zero -> xG, flatMap_cons -> xV, getD_eq_getElem?_getD -> wA, getElem?_append_left -> wH, getElem?_append_right -> wK
open Int renaming toNat -> zQ
open Array renaming getElem?_eq_some_iff -> yd
open Decidable renaming decide -> w9
open Go.Proofs.Tryz renaming prog -> va
open Go.Proofs.Tryz
set_option linter.unusedSectionVars false
set_option linter.unusedVariables false
set_option linter.unusedSimpArgs false
set_option linter.defProp false
noncomputable section
namespace Go.Iv
variable [U:HB] [L:Ho]
open Go Go.RowKit
def k8(f:Nat->Nat)(n:Nat):AV->AV:=Nat.rec (λd=>match d with
 | .own i=> .own (f i)
 | .ptr i o=> .ptr (f i) o
 | .ra i t m o=> .ra (f i) t m o
 |d=>d) (λ_ ih d=>match d with
 | .own i=> .own (f i)
 | .ptr i o=> .ptr (f i) o
 | .ra i t m o=> .ra (f i) t m o
 | .agg cs=> .agg (cs.map ih)
 | .iF cs=> .iF (cs.map ih)
 | .fn g cs=> .fn g (cs.map ih)
 | .fp cs=> .fp (cs.map ih)
 |d=>d) n
def ja{f:Nat->Nat}{ρ ρ':Gh}{p:Nat->Bool}(hp:∀i,p i=Z->ρ'.v (f i)=ρ.v i/\ρ'.b (f i)=ρ.b i):∀(n:Nat) {d:AV},jr p n d=Z->(k8 f n d).sub ρ'=d.sub ρ
 |0,d,h=>by
  cases d with
  |lit v=>show bU.sub ρ' (.lit v)=_;rw[bL,bL]
  |sl t l=>show bU.sub ρ' (.sl t l)=_;rw[fV,fV]
  |rp v k=>show bU.sub ρ' (.rp v k)=_;simp only[bU.sub]
  |own i=>show bU.sub ρ' (.own (f i))=_;rw[cI,cI,(hp _ h).1]
  |ptr i o=>show bU.sub ρ' (.ptr (f i) o)=_;rw[fT,fT,(hp _ h).2]
  |ra i t m o=>show bU.sub ρ' (.ra (f i) t m o)=_;rw[jC,jC,(hp _ h).1]
  |_=>cases h
 |n+1,d,h=>by
  have hL:∀{cs:aa AV},cs.all (jr p n)=Z->(cs.map (k8 f n)).map (bU.sub ρ')=cs.map (bU.sub ρ):=λ{cs} h=>by
   rw[yg];exact zV λc hc=>ja hp n (zn.1 h c hc)
  cases d with
  |lit v=>show bU.sub ρ' (.lit v)=_;rw[bL,bL]
  |sl t l=>show bU.sub ρ' (.sl t l)=_;rw[fV,fV]
  |rp v k=>show bU.sub ρ' (.rp v k)=_;simp only[bU.sub]
  |own i=>show bU.sub ρ' (.own (f i))=_;rw[cI,cI,(hp _ h).1]
  |ptr i o=>show bU.sub ρ' (.ptr (f i) o)=_;rw[fT,fT,(hp _ h).2]
  |ra i t m o=>show bU.sub ρ' (.ra (f i) t m o)=_;rw[jC,jC,(hp _ h).1]
  |fp cs=>show bU.sub ρ' (.fp (List.map (k8 f n) cs))=_;rw[mB,mB,hL h]
  |agg cs=>show bU.sub ρ' (.agg (List.map (k8 f n) cs))=_;rw[eS,eS,hL h]
  |iF cs=>show bU.sub ρ' (.iF (List.map (k8 f n) cs))=_;rw[jJ,jJ,hL h]
  |fn g cs=>show bU.sub ρ' (.fn g (List.map (k8 f n) cs))=_;rw[sV,sV,hL h]
def kV{f:Nat->Nat}{p:Nat->Bool}{m:Nat}(hp:∀i,p i=Z->f i<m):∀(n:Nat) {d:AV},jr p n d=Z->cE m (k8 f n d)
 |0,d,h=>by
  cases d<;>first|exact .lit _|exact .sl _ _|exact .rp _ _|exact .own _ (hp _ h)|exact .ptr _ _ (hp _ h)|exact .ra _ _ _ _ (hp _ h)|(cases h;done)
 |n+1,d,h=>by
  have hL:∀{cs:aa AV},cs.all (jr p n)=Z->∀c∈cs.map (k8 f n),cE m c:=λ{cs} h c hc=>by
   obtain⟨c',h1,rfl⟩:=zC.1 hc;exact kV hp n (zn.1 h c' h1)
  cases d<;>first|exact .lit _|exact .sl _ _|exact .rp _ _|exact .own _ (hp _ h)|exact .ptr _ _ (hp _ h)|exact .ra _ _ _ _ (hp _ h)|exact .agg _ (hL h)|exact .iF _ (hL h)|exact .fn _ _ (hL h)|exact .fp _ (hL h)
def Hs(f:Nat->Nat):IR->IR
 | .box T cs=> .box T (cs.map (k8 f 4))
 |r=>r
def ko(l:aa Nat)(i:Nat):Nat:=List.rec 0 (λj _ ih=>match zg j i with
 |true=>0
 |false=>ih+1) l
def Ap:∀{l:aa Nat} {i:Nat},i∈l->l[ko l i]? =M i
 |j::l,i,h=>by
  show (j::l)[match zg j i with
   |true=>0
   |false=>ko l i+1]? =M i
  cases hb:zg j i with
  |true=>have:=fL hb;subst this;rfl
  |false=>
   have hne:i≠j:=λe=>by subst e;rw[yQ]at hb;cases hb
   exact Ap ((zk.1 h).resolve_left hne)
def Ow(ts:aa Nat)(E:ET):Env:=ts.filterMap λt=>(cF E t).map λd=>(t,d)
def ZU{E:ET}:∀(ts:aa Nat) t d,Env.get (Ow ts E) t=M d->cF E t=M d:=λts=>by
 induction ts with
 |nil=>intro t d h;cases h
 |cons u ts ih=>
  intro t d h;unfold Ow at h;rw[xd]at h;cases hu:cF E u with
  |none=>rw[hu]at h;exact ih t d h
  |some x=>
   rw[hu]at h;by_cases hut:u=t
   ·subst hut;have h:Env.get ((u,x)::_) u=M d:=h;rw[Env.ew]at h;grind
   ·have h:Env.get ((u,x)::_) t=M d:=h;rw[Env.dH _ _ hut]at h;exact ih t d h
def pick(i:Nat)(R:aS):af ((Nat×IR)×aS):=List.rec J (λp R ih=>match zg p.1 i with
 |true=>M (p,R)
 |false=>match ih with
  |some x=>M (x.1,p::x.2)
  |none=>J) R
def IT{i:Nat}:∀{R:aS} {x},pick i R=M x->List.Perm R (x.1::x.2)
 |[],x,h=>by cases h
 |p::R,x,h=>by
  have h:(match zg p.1 i with
   |true=>M (p,R)
   |false=>match pick i R with
    |some x=>M (x.1,p::x.2)
    |none=>J)=M x:=h
  split at h
  ·cases h;exact .refl _
  ·split at h
   ·rename_i y hy;cases h;exact((IT hy).cons p).trans (.swap _ _ _)
   ·cases h
def jQ(ns:aa Nat):aS->aS×aS:=List.rec (λR=>([],R)) (λi _ ih R=>match pick i R with
 |some x=>(x.1::(ih x.2).1,(ih x.2).2)
 |none=>ih R) ns
def nX:∀(ns:aa Nat) (R:aS),List.Perm R ((jQ ns R).1++(jQ ns R).2)
 |[],R=> .refl _
 |i::ns,R=>by
  show List.Perm R ((match pick i R with
   |some x=>(x.1::(jQ ns x.2).1,(jQ ns x.2).2)
   |none=>jQ ns R).1++(match pick i R with
   |some x=>(x.1::(jQ ns x.2).1,(jQ ns x.2).2)
   |none=>jQ ns R).2)
  split
  ·rename_i x hx;exact(IT hx).trans ((nX ns x.2).cons _)
  ·exact nX ns R
def upto(n:Nat):aa Nat:=Nat.rec [] (λi ih=>ih++[i]) n
def adR{n i:Nat}(h:i<n):i∈upto n:=by
 induction n with
 |zero=>omega
 |succ n ih=>
  show i∈upto n++[n];by_cases hi:i=n
  ·subst hi;simp
  ·exact ye _ (ih aj)
def ag2{n i:Nat}(h:i<n):(upto n)[i]? =M i:=by
 induction n with
 |zero=>omega
 |succ n ih=>
  show (upto n++[n])[i]? =M i;have hl:∀n,zZ (upto n)=n:=λn=>by
   induction n with
   |zero=>rfl
   |succ n ih=>show zZ (upto n++[n])=n+1;simp[ih]
  by_cases hi:i=n
  ·simp_all
  ·rw[wH (by rw[hl];omega)];exact ih aj
def uQ:∀n,zZ (upto n)=n:=λn=>by
 induction n with
 |zero=>rfl
 |succ n ih=>show zZ (upto n++[n])=n+1;simp[ih]
def mj(n0:Nat)(dr rest:aa Nat)(i:Nat):Nat:=match cS i dr with
 |true=>n0+ko rest i
 |false=>ko (upto n0++rest) i
def aej(n0:Nat)(dr:aa Nat)(l:Env)(R:aS)(rest:aa Nat):af St:=match l.all (λq=>jr (λi=>cS i rest|| !cS i dr&&zB i n0) 4 q.2)&&R.all (λq=>(cS q.1 rest|| !cS q.1 dr&&zB q.1 n0)&&match q.2 with
  | .box _ cs=>cs.all (jr (λi=>cS i rest|| !cS i dr&&zB i n0) 4)
  | .row _ _=>Z
  | .mp _=>Z
  | .md _ _ _=>Z)with
 |true=>M ⟨asD (l.map λq=>(q.1,k8 (mj n0 dr rest) 4 q.2)),R.map λq=>(mj n0 dr rest q.1,Hs (mj n0 dr rest) q.2),n0+zZ rest⟩
 |false=>J
def aei(n0:Nat)(dr:aa Nat)(l:Env)(R:aS):af St:=aej n0 dr l R ((R.map λq=>q.1).filter λi=>cS i dr|| !zB i n0)
def canon(n0:Nat)(dr:aa Nat)(ts:aa Nat)(s:St):af St:=aei n0 dr (Ow ts s.E) (jQ ((upto n0).filter (λi=> !cS i dr)++reach s.R 3 (((Ow ts s.E).flatMap λq=>jY 4 q.2)++(upto n0).filter (λi=> !cS i dr))) s.R).1
def ae6{n0 n:Nat}{dr ts:aa Nat}{C:Cg}{s s':St}{a:Act}{w:World}(hC:C.n=n0)(h:canon n0 dr ts s=M s')(hm:Mt C n s a w):Mt C n s' a w:=by
 unfold canon aei at h;generalize hl:Ow ts s.E=l at h;generalize hR:(jQ ((upto n0).filter (λi=> !cS i dr)++reach s.R 3 ((l.flatMap λq=>jY 4 q.2)++(upto n0).filter (λi=> !cS i dr))) s.R)=R2 at h;have hperm:List.Perm s.R (R2.1++R2.2):=by rw[<-hR];exact nX _ _
 obtain⟨R,Rr⟩:=R2;generalize hns:((R.map λq=>q.1).filter λi=>cS i dr|| !zB i n0)=rest at h;unfold aej at h;split at h
 case h_2=>cases h
 rename_i hb;cases h;rw[zh]at hb;obtain⟨hb1,hb2⟩:=hb;obtain⟨E,hh,hE,hR0,ρ,hag,hsim⟩:=hm
 let ρ':Gh:=⟨λj=>ρ.v ((upto n0++rest).getD j 0),λj=>ρ.b ((upto n0++rest).getD j 0)⟩
 have hget:∀i,(cS i rest|| !cS i dr&&zB i n0)=Z->(upto n0++rest)[mj n0 dr rest i]? =M i:=λi hi=>by
  unfold mj;cases hd:cS i dr with
  |true=>
   rw[hd]at hi;have hi:cS i rest=Z:=by simpa using hi
   show (upto n0++rest)[n0+ko rest i]? =M i;rw[wK (by rw[uQ];omega),uQ,Nat.add_sub_cancel_left];exact Ap (dN.1 hi)
  |false=>
   refine Ap ?_;rw[yO]at hi;rcases hi with hi|hi
   ·exact ym _ (dN.1 hi)
   ·refine ye _ (adR ?_);simp_all
 have hp:∀i,(cS i rest|| !cS i dr&&zB i n0)=Z->ρ'.v (mj n0 dr rest i)=ρ.v i/\ρ'.b (mj n0 dr rest i)=ρ.b i:=λi hi=>by
  have e:(upto n0++rest).getD (mj n0 dr rest i) 0=i:=by rw[wA,hget i hi];rfl
  exact⟨by show ρ.v ((upto n0++rest).getD (mj n0 dr rest i) 0)=_;rw[e],by show ρ.b ((upto n0++rest).getD (mj n0 dr rest i) 0)=_;rw[e]⟩
 have hll:zZ (upto n0++rest)=n0+zZ rest:=by rw[zu,uQ]
 have hlt:∀i,(cS i rest|| !cS i dr&&zB i n0)=Z->mj n0 dr rest i<n0+zZ rest:=λi hi=>by
  rw[<-hll];exact(zU.1 (hget i hi)).1
 have hres:aS.res ρ' (R.map λq=>(mj n0 dr rest q.1,Hs (mj n0 dr rest) q.2))=aS.res ρ R:=by
  unfold aS.res;rw[yg];refine zV λq hq=> ?_;have hbq:=zn.1 hb2 q hq;rw[zh]at hbq;have hm:=hbq.1;have hbq:=hbq.2;obtain⟨i,r⟩:=q;cases r with
  |row t l=>show bM.row (ρ'.v (mj n0 dr rest i)) t l= .row (ρ.v i) t l;rw[(hp i hm).1]
  |mp es=>show bM.mp (ρ'.v (mj n0 dr rest i)) es= .mp (ρ.v i) es;rw[(hp i hm).1]
  |md k e l=>show bM.mp (ρ'.v (mj n0 dr rest i)) (l.map (mW k e))= .mp (ρ.v i) (l.map (mW k e));rw[(hp i hm).1]
  |box T cs=>
   show bM.box (ρ'.b (mj n0 dr rest i)) T ((cs.map (k8 (mj n0 dr rest) 4)).map (bU.sub ρ'))= .box (ρ.b i) T (cs.map (bU.sub ρ));rw[(hp i hm).2,yg]
   congr 1
   exact zV λc hc=>ja hp 4 (zn.1 hbq c hc)
 have hp2:List.Perm (aS.res ρ s.R) (aS.res ρ (R++Rr)):=hperm.map _;have hsim2:=hsim.perm hp2;rw[fR]at hsim2;have hless:=hsim2.less (List.sublist_append_left _ _);refine⟨l.map λq=>(q.1,k8 (mj n0 dr rest) 4 q.2),Bo _,λq hq=> ?_,λq hq=> ?_,ρ',⟨λi hi=> ?_,?_⟩,?_⟩
 ·obtain⟨q',h1,rfl⟩:=zC.1 hq;exact kV hlt 4 (zn.1 hb1 q' h1)
 ·obtain⟨q',h1,rfl⟩:=zC.1 hq;have hbq:=zn.1 hb2 q' h1;rw[zh]at hbq;have hm:=hbq.1;have hbq:=hbq.2;refine⟨hlt _ hm,?_⟩;obtain⟨i,r⟩:=q';cases r with
  |row t l=>trivial
  |mp es=>trivial
  |md k e l=>trivial
  |box T cs=>
   intro c hc;obtain⟨c',h3,rfl⟩:=zC.1 hc;exact kV hlt 4 (zn.1 hbq c' h3)
 ·rw[hC]at hi;have e:(upto n0++rest).getD i 0=i:=by
   rw[wA,wH (by rw[uQ];exact hi),ag2 hi];rfl
  have:=hag.1 i (by rw[hC];exact hi);exact⟨by show C.ρ.v i=ρ.v ((upto n0++rest).getD i 0);rw[e];exact this.1,by show C.ρ.b i=ρ.b ((upto n0++rest).getD i 0);rw[e];exact this.2⟩
 ·rw[hC];simp
 ·rw[hres];refine⟨hless.defers,hless.size,λt av ht=> ?_,hless.good⟩;have e:∀(l:Env),(∀q∈l,jr (λi=>cS i rest|| !cS i dr&&zB i n0) 4 q.2=Z)->Env.sub ρ' (l.map λq=>(q.1,k8 (mj n0 dr rest) 4 q.2))=Env.sub ρ l:=λl hl=>by
   unfold Env.sub;rw[yg];exact zV λq hq=>by
    show (q.1,(k8 (mj n0 dr rest) 4 q.2).sub ρ')=_;rw[ja hp 4 (hl q hq)]
  rw[e l (λq hq=>zn.1 hb1 q hq),Env.eR]at ht;obtain⟨d,hd,rfl⟩:=zj.1 ht;rw[<-hl]at hd;exact hless.slots t _ (by rw[Env.eR,hh t d (ZU ts t d hd)];rfl)
def rdC{γ:Type}(n0:Nat)(dr ts:aa Nat)(rd:St->af γ)(s:St):af γ:=(canon n0 dr ts s).bind rd
def avJ{γ:Type}{n0 n:Nat}{dr ts:aa Nat}{rd:St->af γ}{pat:γ->St}(h:lI n0 n rd pat):lI n0 n (rdC n0 dr ts rd) pat:=λC s p a w hC hr hm=>by
 obtain⟨s',h1,h2⟩:=zl.1 hr;exact h C s' p a w hC h2 (ae6 hC h1 hm)
def uj{β:Type}(f:β->β)(j:Nat)(l:aa β):aa β:=List.rec (λ_=>[]) (λb l ih j=>match zg j 0 with
 |true=>f b::l
 |false=>b::ih (j-1)) l j
def Aj{β γ:Type}{f:β->β}{g g':β->γ}:∀(l:aa β) (j:Nat),(∀b∈l,g (f b)=g' b)->(∀b∈l,g b=g' b)->(uj f j l).map g=l.map g'
 |[],_,_,_=>rfl
 |b::l,j,h1,h2=>by
  show (match zg j 0 with
   |true=>f b::l
   |false=>b::uj f (j-1) l).map g=_
  split
  ·rw[zI,zI,h1 b zm,zV λc hc=>h2 c (zM _ hc)]
  ·rw[zI,zI,h2 b zm,Aj l (j-1) (λc hc=>h1 c (zM _ hc)) (λc hc=>h2 c (zM _ hc))]
def As{β:Type}{f:β->β}{p:β->Prop}:∀(l:aa β) (j:Nat),(∀b∈l,p (f b))->(∀b∈l,p b)->∀b∈uj f j l,p b
 |[],_,_,_,b,hb=>by cases hb
 |c::l,j,h1,h2,b,hb=>by
  have hb:b∈(match zg j 0 with
   |true=>f c::l
   |false=>c::uj f (j-1) l):=hb
  split at hb
  ·rcases zk.1 hb with rfl|hb
   ·simp_all
   ·simp_all
  ·rcases zk.1 hb with rfl|hb
   ·simp_all
   ·exact As l (j-1) (λc hc=>h1 c (zM _ hc)) (λc hc=>h2 c (zM _ hc)) b hb
def vo(nx:Nat)(p:aa Nat):AV->AV:=List.rec (λd=>match d with
 | .lit (.slice J 0 0)=> .own nx
 |d=>d) (λj _ ih d=>match d with
 | .agg cs=> .agg (uj ih j cs)
 | .iF cs=> .iF (uj ih j cs)
 |d=>d) p
def vC{ρ:Gh}{nx:Nat}:∀(p:aa Nat) (d:AV),cE nx d->(vo nx p d).sub (ρ.eU nx (.slice J 0 0))=d.sub ρ
 |[],d,h=>by
  show bU.sub _ (match d with
   | .lit (.slice J 0 0)=> .own nx
   |d=>d)=_
  split
  ·rw[cI,bL];simp[Gh.eU]
  ·exact(h.sub (.eU ρ nx _)).symm
 |j::p,d,h=>by
  show bU.sub _ (match d with
   | .agg cs=> .agg (uj (vo nx p) j cs)
   | .iF cs=> .iF (uj (vo nx p) j cs)
   |d=>d)=_
  split
  ·rw[eS,eS,Aj _ j (λb hb=>vC p b (h.nK b hb)) (λb hb=>((h.nK b hb).sub (.eU ρ nx _)).symm)]
  ·rw[jJ,jJ,Aj _ j (λb hb=>vC p b (h.EN b hb)) (λb hb=>((h.EN b hb).sub (.eU ρ nx _)).symm)]
  ·exact(h.sub (.eU ρ nx _)).symm
def vw{nx:Nat}:∀(p:aa Nat) (d:AV),cE nx d->cE (nx+1) (vo nx p d)
 |[],d,h=>by
  show cE (nx+1) (match d with
   | .lit (.slice J 0 0)=> .own nx
   |d=>d)
  split
  ·exact .own _ (zN _)
  ·exact h.mono (yc _)
 |j::p,d,h=>by
  show cE (nx+1) (match d with
   | .agg cs=> .agg (uj (vo nx p) j cs)
   | .iF cs=> .iF (uj (vo nx p) j cs)
   |d=>d)
  split
  ·exact .agg _ (As _ j (λb hb=>vw p b (h.nK b hb)) (λb hb=>(h.nK b hb).mono (yc _)))
  ·exact .iF _ (As _ j (λb hb=>vw p b (h.EN b hb)) (λb hb=>(h.EN b hb).mono (yc _)))
  ·exact h.mono (yc _)
def aw7(t:Nat)(p:aa Nat)(e:Nat)(s:St):St:=match cF s.E t with
 |some d=>⟨ig t (vo s.nx p d) s.E,(s.nx, .row e [])::s.R,s.nx+1⟩
 |none=>s
def pn(id j:Nat)(p:aa Nat)(e:Nat)(s:St):St:=match gj s.R id with
 |some (.box T cs)=>⟨s.E,(s.nx, .row e [])::pG id (.box T (uj (vo s.nx p) j cs)) s.R,s.nx+1⟩
 |_=>s
def W8{ρ:Gh}{R:aS}{nx e:Nat}:aS.res (ρ.eU nx (.slice J 0 0)) ((nx,IR.row e [])::R)=bM.row (.slice J 0 0) e []::aS.res (ρ.eU nx (.slice J 0 0)) R:=by
 show bM.row ((ρ.eU nx (.slice J 0 0)).v nx) e []::_=_;simp[Gh.eU,aS.res]
def alN{C:Cg}{n t e:Nat}{p:aa Nat}{s:St}{a:Act}{w:World}(hm:Mt C n s a w):Mt C n (aw7 t p e s) a w:=by
 unfold aw7;split
 case h_2=>exact hm
 rename_i d hg;obtain⟨E,hh,hE,hR,ρ,hag,hsim⟩:=hm;have ht:=Me (C:=C.C) J e hsim.good;have hs:=hsim.tr ht;have hs1:E.sub ρ=E.sub (ρ.eU s.nx (.slice J 0 0)):=hE.sub (.eU ρ s.nx _);have hr1:aS.res ρ s.R=aS.res (ρ.eU s.nx (.slice J 0 0)) s.R:=hR.res (.eU ρ s.nx _);have hd:cE s.nx d:=hE _ (Env.get_mem (hh t d hg));refine⟨(t,vo s.nx p d)::E,hh.put t _,Env.vq (hE.mono (yc _)) (vw p d hd),λq hq=> ?_,ρ.eU s.nx (.slice J 0 0),⟨hag.1.trans (.eU ρ s.nx _) hag.2,zK hag.2 (yc _)⟩,?_⟩
 ·rcases zk.1 hq with rfl|hq
  ·exact⟨zN _,trivial⟩
  ·exact(hR.mono (yc _)) q hq
 ·show lH C.C n ((t,bU.sub _ (vo s.nx p d))::E.sub _) (aS.res _ ((s.nx,IR.row e [])::s.R)) a w;rw[W8,<-hr1,<-hs1,vC p d hd];refine⟨hs.defers,hs.size,λu av hu=> ?_,hs.good⟩;by_cases htu:t=u
  ·subst htu;rw[Env.ew]at hu;cases hu;exact hs.slots t _ (by rw[Env.eR,hh t _ hg,z8])
  ·rw[Env.dH _ _ htu]at hu;exact hs.slots u av hu
def ame{C:Cg}{n id j e:Nat}{p:aa Nat}{s:St}{a:Act}{w:World}(hm:Mt C n s a w):Mt C n (pn id j p e s) a w:=by
 unfold pn;split
 case h_2=>exact hm
 rename_i T cs hg;obtain⟨E,hh,hE,hR,ρ,hag,hsim⟩:=hm;have ht:=Me (C:=C.C) J e hsim.good;have hs:=hsim.tr ht;have hs1:E.sub ρ=E.sub (ρ.eU s.nx (.slice J 0 0)):=hE.sub (.eU ρ s.nx _);have hr1:aS.res ρ s.R=aS.res (ρ.eU s.nx (.slice J 0 0)) s.R:=hR.res (.eU ρ s.nx _);obtain⟨hid,hcs⟩:=FJ hg hR;have hr2:aS.res (ρ.eU s.nx (.slice J 0 0)) (pG id (.box T (uj (vo s.nx p) j cs)) s.R)=aS.res ρ s.R:=by
  obtain⟨i,h1,h2,_⟩:=dG hg;rw[h2,rF,<-hr1];have e1:IR.res (ρ.eU s.nx (.slice J 0 0)) id (.box T (uj (vo s.nx p) j cs))=IR.res ρ id (.box T cs):=by
   show bM.box ((ρ.eU s.nx (.slice J 0 0)).b id) T ((uj (vo s.nx p) j cs).map (bU.sub _))= .box (ρ.b id) T (cs.map (bU.sub ρ));rw[Aj cs j (λb hb=>vC p b (hcs b hb)) (λb hb=>((hcs b hb).sub (.eU ρ s.nx _)).symm)];rfl
  rw[e1];have h3:=fB (ρ:=ρ) h1;exact List.ext_getElem? λk=>by
   by_cases hk:i=k
   ·subst hk;rw[List.getElem?_set_self (zU.1 h3).1,h3]
   ·simp_all
 refine⟨E,hh,hE.mono (yc _),λq hq=> ?_,ρ.eU s.nx (.slice J 0 0),⟨hag.1.trans (.eU ρ s.nx _) hag.2,zK hag.2 (yc _)⟩,?_⟩
 ·rcases zk.1 hq with rfl|hq
  ·exact⟨zN _,trivial⟩
  ·refine mS hg (hR.mono (yc _)) ?_ q hq;exact As cs j (λb hb=>vw p b (hcs b hb)) (λb hb=>(hcs b hb).mono (yc _))
 ·show lH C.C n (E.sub _) (aS.res _ ((s.nx,IR.row e [])::pG id (.box T (uj (vo s.nx p) j cs)) s.R)) a w;rw[W8,hr2,<-hs1];exact hs
def atA(p:aa Nat):AV->af Nat:=List.rec (λd=>match d with
 | .own i=>M i
 |_=>J) (λj _ ih d=>match d with
 | .agg cs=>(cs[j]?).bind ih
 | .iF cs=>(cs[j]?).bind ih
 |_=>J) p
def aCL(t:Nat)(p:aa Nat)(s:St):St:=match cF s.E t with
 |some d=>match atA p d with
  |some i=>s.Aw i
  |none=>s
 |none=>s
def aA9(id j:Nat)(p:aa Nat)(s:St):St:=match gj s.R id with
 |some (.box _ cs)=>match (cs[j]?).bind (atA p)with
  |some i=>s.Aw i
  |none=>s
 |_=>s
def rdF{γ:Type}(f:St->St)(rd:St->af γ)(s:St):af γ:=rd (f s)
def bT(f:St->St):Prop:=∀(C:Cg) n s a w,Mt C n s a w->Mt C n (f s) a w
def bT.s(t:Nat)(p:aa Nat)(e:Nat):bT (aw7 t p e):=λ_ _ _ _ _ h=>alN h
def bT.c(id j:Nat)(p:aa Nat)(e:Nat):bT (pn id j p e):=λ_ _ _ _ _ h=>ame h
def bT.fs(t:Nat)(p:aa Nat):bT (aCL t p):=λ_ _ _ _ _ h=>by
 unfold aCL;split
 ·split
  ·exact h.Aw _
  ·exact h
 ·exact h
def bT.fc(id j:Nat)(p:aa Nat):bT (aA9 id j p):=λ_ _ _ _ _ h=>by
 unfold aA9;split
 ·split
  ·exact h.Aw _
  ·exact h
 ·exact h
def atL{γ:Type}{n0 n:Nat}{f:St->St}{rd:St->af γ}{pat:γ->St}(hf:bT f)(h:lI n0 n rd pat):lI n0 n (rdF f rd) pat:=λC s p a w hC hr hm=>h C (f s) p a w hC hr (hf C n s a w hm)
section
variable {P:Program} {f:FuncId} {args:aa AV} {σp σr:aa bM} {Φ:AV->aa bM->Prop}
def Gz{σ:aa bM}{w:World}{A:Nat->Prop}(hd:Hd A σ w)(hnd:(bh σ).Nodup):Good ⟨w,A,bh σ⟩ σ w:=
 have hal:∀b,A b->al ⟨w,A,bh σ⟩ σ b:=λb hA=>⟨.inl hA,λhx=>hd.2 b hx hA⟩
 ⟨Kp.refl _ _,λr hr=>(hd.1 r hr).mono (λb _ hA=>⟨hal b hA,rfl⟩) (λ_ _=>rfl),hnd,λb hb=> .inl hb⟩
def Og{σ σ':aa bM}{X:aa Nat}{C:Cx}{w w':World}(h:Tr C X σ w σ' w')(hX:∀b∈X,b∈bh σ):Tr C (bh σ) σ w σ' w':=
 ⟨h.good,⟨h.kp.os,h.kp.tape,h.kp.output,h.kp.size,λk hk hn=>h.kp.block k hk λhx=>hn (hX k hx)⟩,λb hb hA=>⟨(h.al b hb hA).1,hA.2⟩⟩
def Fn.an3(h:Fn P f args σp Φ):Fn P f args (σp++σr) (λa s=>∃so,Φ a so/\s=so++σr):=λw A vs hrel hd0 hnd0=>by
 have hg:=Gz hd0 hnd0;generalize hC:(⟨w,A,bh (σp++σr)⟩:Cx)=C at hg ⊢;have hdis:=hg.BR;rw[fk]at hdis;obtain⟨d1,d2,d3⟩:=yH.1 hdis;have hlt:∀b∈bh (σp++σr),b<w.heap.size:=λb hb=>by
  obtain⟨s,h1,h2⟩:=bE.1 hb;exact(hg.res s h1).lt h2
 have hal0:∀b,A b->al C (σp++σr) b:=λb hA=>by
  subst hC;exact⟨.inl hA,λhx=>hd0.2 b hx hA⟩
 have hd:Hd (al C (σp++σr)) σp w:=⟨λr hr=>hg.res r (ye _ hr),λb hb hA=>hA.2 (bI.2 (.inl hb))⟩;refine(h w (al C (σp++σr)) vs (hrel.mono λb _ hA=>⟨hal0 b hA,rfl⟩) hd d1).mono λe w' ⟨v,av,σo,q1,q2,q3,q4⟩=> ?_;have hsub:∀b,al ⟨w,al C (σp++σr),bh σp⟩ σo b->al C (σo++σr) b:=λb hb=>by
  obtain⟨hb1,hb2⟩:=hb;rcases hb1 with hb1|hb1|hb1
  ·exact⟨hb1.1,λhx=>(bI.1 hx).elim hb2 (λh=>hb1.2 (bI.2 (.inr h)))⟩
  ·have hbp:b∈bh σp:=hb1;refine⟨?_,λhx=>(bI.1 hx).elim hb2 (λh=>d3 b hbp b h rfl)⟩;rcases hg.own b (bI.2 (.inl hbp))with h|h
   ·simp_all
   ·omega
  ·have hbw:w.heap.size<=b:=hb1;exact⟨.inr (.inr (zK hg.kept.size hbw)),λhx=>(bI.1 hx).elim hb2 (λh=>by have:=hlt b (bI.2 (.inr h));omega)⟩
 have ht:=C8 hg (λb hA _=> .inl hA) q3 (λr hr=>(q3.good.res r hr).mono (λb hb hA=>⟨hsub b hA,rfl⟩) (λ_ _=>rfl));exact⟨v,av,σo++σr,q1,⟨σo,q2,rfl⟩,Og ht (λb hb=>bI.2 (.inl hb)),q4.mono λb hb hA=>⟨hsub b hA,rfl⟩⟩
def Fn.aJZ{args':aa AV}{σr:aa bM}(h:Fn P f args' [] Φ)(hv:∀(A:Nat->Prop) (w:World) (us:aa Value),Hd A σr w->bD A w args us->bD (λb=>A b\/b∈bh σr) w args' us)
  (hc:∀av σo,Φ av σo->Cl av/\∀r∈σo,ClR r):Fn P f args σr (λa s=>∃so,Φ a so/\s=so++σr):=λw A vs hrel hd0 hnd0=>by
 have hg:=Gz hd0 hnd0;generalize hC:(⟨w,A,bh σr⟩:Cx)=C at hg ⊢;have hal0:∀b,A b->al C σr b:=λb hA=>by
  subst hC;exact⟨.inl hA,λhx=>hd0.2 b hx hA⟩
 have h3:=hv (al C σr) w vs hg.hd (hrel.mono λb _ hA=>⟨hal0 b hA,rfl⟩);refine(h w _ vs h3 ⟨λr hr=>(by cases hr),λb hb=>(by cases hb)⟩ xg).mono λe w' ⟨v,av,σo,q1,q2,q3,q4⟩=> ?_;obtain⟨c1,c2⟩:=hc av σo q2;have ht:=C8 (σp:=[]) (σr:=σr) hg (λb hA _=>hA) q3 (λr hr=>c2 r hr _ _ w' (q3.good.res r hr));exact⟨v,av,σo++σr,q1,⟨σo,q2,rfl⟩,Og (σ:=σr) ht (λb hb=>by cases hb),c1 _ _ w' v q4⟩
end
def aJd(n:Nat):AV->Bool:=jr (λ_=>O) n
def Im(lb:Bool)(rd:Nat->af IR)(n:Nat):AV->AV:=Nat.rec (λd=>match d with
 | .own id=>match rd id with
  |some (.row t l)=> .sl t l
  |_=> .own id
 |d=>d) (λ_ ih d=>match d with
 | .own id=>match rd id with
  |some (.row t l)=> .sl t l
  |_=> .own id
 | .ptr id 0=>match lb with
  |true=>match rd id with
   |some (.box _ cs)=> .fp (cs.map ih)
   |_=> .ptr id 0
  |false=> .ptr id 0
 | .agg cs=> .agg (cs.map ih)
 | .fn f cs=> .fn f (cs.map ih)
 |d=>d) n
def aeW{R:aS}{ρ:Gh}{A:Nat->Prop}{w:World}{v:Value}{id T:Nat}{cs:aa AV}(hd:Hd A (aS.res ρ R) w)(hg:gj R id=M (.box T cs))(hr:Rel A w ((bU.ptr (cQ:=U.cQ) id 0).sub ρ) v):
  Rel (λb=>A b\/b∈bh (aS.res ρ R)) w (.fp (cs.map (bU.sub ρ))) v:=by
 obtain⟨i,hi,_⟩:=dG hg;have hres:=fB (ρ:=ρ) hi;rw[fT]at hr;exact Vw.box i hres A w v hd hr
def YP{lb:Bool}{R:aS}{ρ:Gh}{A:Nat->Prop}{w:World}(hd:Hd A (aS.res ρ R) w):∀(n:Nat) {d:AV} {v:Value},Rel (λb=>A b\/b∈bh (aS.res ρ R)) w (d.sub ρ) v->Rel (λb=>A b\/b∈bh (aS.res ρ R)) w ((Im lb (gj R) n d).sub ρ) v:=by
 have hown:∀{id:Nat} {v:Value},Rel (λb=>A b\/b∈bh (aS.res ρ R)) w ((bU.own (cQ:=U.cQ) id).sub ρ) v->Rel (λb=>A b\/b∈bh (aS.res ρ R)) w ((match gj R id with
  |some (.row t l)=>bU.sl t l
  |_=> .own id).sub ρ) v:=λ{id v} h=>by
  rw[cI]at h;rw[h.bR];exact aee hd (by rw[cI];exact .lit _)
 intro n;induction n with
 |zero=>
  intro d v h;cases d<;>first|exact h|exact hown h
 |succ n ih=>
  have hL:∀{cs:aa AV} {us:aa Value},bD (λb=>A b\/b∈bh (aS.res ρ R)) w (cs.map (bU.sub ρ)) us->bD (λb=>A b\/b∈bh (aS.res ρ R)) w ((cs.map (Im lb (gj R) n)).map (bU.sub ρ)) us:=λ{cs us} h=>
   ⟨by simpa using h.1,λj a u q1 q2=>by
    rw[yg,zP]at q1;obtain⟨c,hc,rfl⟩:=zj.1 q1;exact ih (h.2 j _ u (by rw[zP,hc];rfl) q2)⟩
  intro d v h;cases d with
  |own id=>exact hown h
  |agg cs=>
   show Rel _ w ((bU.agg (cs.map (Im lb (gj R) n))).sub ρ) v;rw[eS]at h ⊢;obtain⟨us,rfl,h2⟩:=h.gO;exact Rel.nK (hL h2)
  |fn f cs=>
   show Rel _ w ((bU.fn f (cs.map (Im lb (gj R) n))).sub ρ) v;rw[sV]at h ⊢;obtain⟨us,rfl,h2⟩:=h.V6;have h3:=hL h2;exact .fn f _ us h3.1 h3.2
  |ptr id off=>
   cases off with
   |succ o=>exact h
   |zero=>
    cases lb with
    |false=>exact h
    |true=>
     show Rel _ w (bU.sub ρ (match gj R id with
      |some (.box _ cs)=> .fp (cs.map (Im Z (gj R) n))
      |_=> .ptr id 0)) v
     split
     ·rename_i T cs hg;have h0:Rel A w ((bU.ptr (cQ:=U.cQ) id 0).sub ρ) v:=by
       rw[fT]at h ⊢;rw[h.bR];exact .lit _
      obtain⟨b,o,us,rfl,q1,q2,q3,q4⟩:=(aeW hd hg h0).EE;rw[mB];have q5:=hL q4;exact .fp _ b o us q1 q2 q5.1 q3 q5.2
     ·exact h
  |_=>exact h
def jR(l:aa Nat)(n0 nx:Nat)(i:Nat):Nat:=match zB i n0 with
 |true=>l.getD i 0
 |false=>nx+(i-n0)
def Out.okB(n0:Nat)(x:Out):Bool:=z7 n0 x.c&&jr (λi=>zB i x.c) 4 x.d&&x.R.all λq=>zB q.1 x.c&&match q.2 with
 | .box _ cs=>cs.all (jr (λi=>zB i x.c) 4)
 | .row _ _=>Z
 | .mp _=>Z
 | .md _ _ _=>Z
def Qo{α γ β:Type}(q:aa AV->aS->af γ)(t:γ->af β)(out:β->Out)(n0:Nat)(args:aa AV)(nx:Nat)(k:AV->aS->Nat->af α)(F:af α)(Rp Rr:aS)(ns:aa Nat):af α:=
 match zg (zZ Rp) n0&&args.all (jr (λi=>cS i ns) 4)&&Rp.all (λq=>match q.2 with
  | .box _ cs=>cs.all (jr (λi=>cS i ns) 4)
  | .row _ _=>Z
  | .mp _=>Z
  | .md _ _ _=>Z)with
 |true=>match q (args.map (k8 (ko ns) 4)) (Rp.map λq=>(ko ns q.1,Hs (ko ns) q.2))with
  |some g=>match t g with
   |some b=>k (k8 (jR ns n0 nx) 4 (out b).d) ((out b).R.map (λq=>(jR ns n0 nx q.1,Hs (jR ns n0 nx) q.2))++Rr) (nx+((out b).c-n0))
   |none=>J
  |none=>F
 |false=>F
def afs{α γ β:Type}(q:aa AV->aS->af γ)(t:γ->af β)(out:β->Out)(n0:Nat)(args:aa AV)(nx:Nat)(k:AV->aS->Nat->af α)(F:af α)(R2:aS×aS):af α:=
 Qo q t out n0 args nx k F R2.1 R2.2 (R2.1.map λq=>q.1)
def orY{γ β:Type}(f0 n0:Nat)(q:aa AV->aS->af γ)(t:γ->af β)(out:β->Out)(F:aT):aT:=λ_ f args R nx k=>match zg f f0 with
 |true=>afs q t out n0 args nx k (F _ f args R nx k) (jQ (reach R 3 (args.flatMap (jY 4))) R)
 |false=>F _ f args R nx k
def QY{γ:Type}(q:aa AV->aS->af γ)(ca:γ->aa AV)(cr:γ->aS):Prop:=∀xs R g,q xs R=M g->(∀(ρ:Gh) A w us,bD A w (xs.map (bU.sub ρ)) us->bD A w ((ca g).map (bU.sub ρ)) us)/\HE R (cr g)
def Fn.pre{P:Program}{f:FuncId}{args args':aa AV}{R R':aS}{ρ:Gh}{Φ:AV->aa bM->Prop}(h:Fn P f args' (aS.res ρ R') Φ)(ha:∀A w us,bD A w args us->bD A w args' us)(hr:HE R R'):Fn P f args (aS.res ρ R) Φ:=λw A vs h1 h2 h3=>by
 have hb:bh (aS.res ρ R)=bh (aS.res ρ R'):=GG hr;rw[hb];refine(h w A vs (ha A w vs h1) ⟨RF hr h2.1,λb hb'=>h2.2 b (by rw[hb];exact hb')⟩ (by rw[<-hb];exact h3)).mono λe w' ⟨v,av,σ',q1,q2,q3,q4⟩=>⟨v,av,σ',q1,q2,⟨q3.good,q3.kp,λb hb' hA=> ?_⟩,q4⟩;refine q3.al b hb' ⟨hA.1,?_⟩;rw[<-hb];exact hA.2
def aga{P:Program}{F:aT}{γ β:Type}{f0 n0:Nat}{q:aa AV->aS->af γ}{ca:γ->aa AV}{cr:γ->aS}{t:γ->af β}{out:β->Out}(hF:gR P F)(hf:sL P f0)(hq:QY q ca cr)(hm:∀b,(out b).okB n0=Z)
  (h:∀g b,t g=M b->Ht P f0 (ca g) (cr g) n0 (out b)):gR P (orY f0 n0 q t out F):=λα f args R nx k r hr hargs hR=>by
 unfold orY at hr;split at hr
 case h_2=>exact hF α f args R nx k r hr hargs hR
 rename_i hb;have hb:=fL hb;subst hb;unfold afs at hr;generalize hR2:jQ (reach R 3 (args.flatMap (jY 4))) R=R2 at hr;have hperm:List.Perm R (R2.1++R2.2):=by rw[<-hR2];exact nX _ _
 obtain⟨Rp,Rr⟩:=R2;dsimp only at hr hperm;generalize hns:(Rp.map λq=>q.1)=ns at hr;unfold Qo at hr;split at hr
 case h_2=>exact hF α f args R nx k r hr hargs hR
 rename_i hchk;rw[zh,zh]at hchk;obtain⟨⟨hc0,hc1⟩,hc2⟩:=hchk;have hc0:=fL hc0;split at hr
 case h_2=>exact hF α f args R nx k r hr hargs hR
 rename_i g hg;split at hr
 case h_2=>cases hr
 rename_i b hb;have hlen:zZ ns=n0:=by rw[<-hns,zF,hc0]
 have hRs:∀p∈Rp++Rr,p.1<nx/\p.2.cE nx:=λp hp=>hR p (hperm.mem_iff.2 hp);have hnsl:∀i∈ns,i<nx:=λi hi=>by
  rw[<-hns]at hi;obtain⟨p,hp,rfl⟩:=zC.1 hi;exact(hRs p (ye _ hp)).1
 obtain⟨hqa,hqr⟩:=hq _ _ g hg;have hok:=hm b;unfold Out.okB at hok;rw[zh,zh]at hok;obtain⟨⟨ho0,ho1⟩,ho2⟩:=hok;have ho0:n0<=(out b).c:=by simpa using ho0
 refine⟨hf,λρ=> ?_⟩
 let ρ0:Gh:=⟨λj=>ρ.v (ns.getD j 0),λj=>ρ.b (ns.getD j 0)⟩
 have hp:∀i,cS i ns=Z->ρ0.v (ko ns i)=ρ.v i/\ρ0.b (ko ns i)=ρ.b i:=λi hi=>by
  have:=Ap (dN.1 hi);have e:ns.getD (ko ns i) 0=i:=by rw[wA,this];rfl
  exact⟨by show ρ.v (ns.getD (ko ns i) 0)=_;rw[e],by show ρ.b (ns.getD (ko ns i) 0)=_;rw[e]⟩
 have ea:(args.map (k8 (ko ns) 4)).map (bU.sub ρ0)=args.map (bU.sub ρ):=by
  rw[yg];exact zV λc hc=>ja hp 4 (zn.1 hc1 c hc)
 have er:aS.res ρ0 (Rp.map λq=>(ko ns q.1,Hs (ko ns) q.2))=aS.res ρ Rp:=by
  unfold aS.res;rw[yg];refine zV λq hq=> ?_;have hm:cS q.1 ns=Z:=dN.2 (by rw[<-hns];exact zC.2 ⟨q,hq,rfl⟩);have hbq:=zn.1 hc2 q hq;obtain⟨i,rr⟩:=q;cases rr with
  |row t l=>show bM.row (ρ0.v (ko ns i)) t l= .row (ρ.v i) t l;rw[(hp i hm).1]
  |mp es=>show bM.mp (ρ0.v (ko ns i)) es= .mp (ρ.v i) es;rw[(hp i hm).1]
  |md k e l=>show bM.mp (ρ0.v (ko ns i)) (l.map (mW k e))= .mp (ρ.v i) (l.map (mW k e));rw[(hp i hm).1]
  |box T cs=>
   show bM.box (ρ0.b (ko ns i)) T ((cs.map (k8 (ko ns) 4)).map (bU.sub ρ0))= .box (ρ.b i) T (cs.map (bU.sub ρ));rw[(hp i hm).2,yg]
   congr 1
   exact zV λc hc=>ja hp 4 (zn.1 hbq c hc)
 have h1:=Fn.pre (h g b hb ρ0) (hqa ρ0) hqr;rw[ea,er]at h1;have h2:=Fn.an3 (σr:=aS.res ρ Rr) h1;rw[<-fR]at h2;have hp2:List.Perm (aS.res ρ R) (aS.res ρ (Rp++Rr)):=hperm.map _;have h3:Fn P f (args.map (bU.sub ρ)) (aS.res ρ R) (λa s=>∃so,(∃ρ':Gh,nc n0 ρ0 ρ'/\a=(out b).d.sub ρ'/\List.Perm so (aS.res ρ' (out b).R))/\s=so++aS.res ρ Rr):=λw A vs q1 q2 q3=>by
  have hbm:∀x,x∈bh (aS.res ρ (Rp++Rr))↔x∈bh (aS.res ρ R):=λx=>(hp2.symm.filterMap _).mem_iff;refine(h2 w A vs q1 ⟨λr hr=>q2.1 r (hp2.mem_iff.2 hr),λx hx=>q2.2 x ((hbm x).1 hx)⟩ ((hp2.filterMap _).nodup_iff.1 q3)).mono λe w' ⟨v,av,σ',g1,g2,g3,g4⟩=> ?_;have hal:∀s x,al ⟨w,A,bh (aS.res ρ (Rp++Rr))⟩ s x->al ⟨w,A,bh (aS.res ρ R)⟩ s x:=λs x hx=>⟨hx.1.imp id (Or.imp (λh=>(hbm x).1 h) id),hx.2⟩;refine⟨v,av,σ',g1,g2,⟨⟨⟨g3.kp.os,g3.kp.tape,g3.kp.output,g3.kp.size,λk hk hn=>g3.kp.block k hk λhx=>hn ((hbm k).1 hx)⟩,λrr hrr=>(g3.good.res rr hrr).mono (λx _ hA=>⟨hal _ x hA,rfl⟩) (λ_ _=>rfl),g3.good.BR,λx hx=>(g3.good.own x hx).imp (λh=>(hbm x).1 h) id⟩,⟨g3.kp.os,g3.kp.tape,g3.kp.output,g3.kp.size,λk hk hn=>g3.kp.block k hk λhx=>hn ((hbm k).1 hx)⟩,λx hx hA=> ?_⟩,g4.mono λx _ hA=>⟨hal _ x hA,rfl⟩⟩;have hA':al ⟨w,A,bh (aS.res ρ (Rp++Rr))⟩ (aS.res ρ (Rp++Rr)) x:=⟨hA.1.imp id (Or.imp (λh=>(hbm x).2 h) id),λh=>hA.2 ((hbm x).1 h)⟩;exact⟨hal _ x (g3.al x hx hA').1,λh=>hA.2 h⟩
 refine Fn.mono h3 λa s ⟨so,⟨ρ1,g0,g1,g2⟩,g3⟩=> ?_
 let ρ2:Gh:=⟨λi=>if i<nx then ρ.v i else ρ1.v (n0+(i-nx)),λi=>if i<nx then ρ.b i else ρ1.b (n0+(i-nx))⟩
 have hag:nc nx ρ ρ2:=λi hi=>⟨by simp only[ρ2,bO hi],by simp only[ρ2,bO hi]⟩;have hb2:∀i,zB i (out b).c=Z->(ρ2.v (jR ns n0 nx i)=ρ1.v i/\ρ2.b (jR ns n0 nx i)=ρ1.b i)/\jR ns n0 nx i<nx+((out b).c-n0):=λi hi=>by
  have hi:i<(out b).c:=by simpa using hi
  unfold jR;split
  ·rename_i hlt;have hlt:i<n0:=by simpa using hlt
   obtain⟨e1,e2⟩:=g0 i hlt;have hlt2:i<zZ ns:=by rw[hlen];exact hlt
   have hmem:ns.getD i 0∈ns:=by rw[wA,zD hlt2];exact yR hlt2
   have h4:=hnsl _ hmem;refine⟨⟨?_,?_⟩,aj⟩
   ·show (if ns.getD i 0<nx then ρ.v (ns.getD i 0)else _)=_;rw[bO h4];exact e1
   ·show (if ns.getD i 0<nx then ρ.b (ns.getD i 0)else _)=_;rw[bO h4];exact e2
  ·rename_i hlt;have hlt:¬i<n0:=by
    intro hx;have:zB i n0=Z:=by rw[xw];exact hx
    rw[this]at hlt;cases hlt
   have h5:¬nx+(i-n0)<nx:=aj;have h6:n0+(nx+(i-n0)-nx)=i:=aj;refine⟨⟨?_,?_⟩,aj⟩
   ·show (if nx+(i-n0)<nx then _ else ρ1.v (n0+(nx+(i-n0)-nx)))=_;rw[bP h5,h6]
   ·show (if nx+(i-n0)<nx then _ else ρ1.b (n0+(nx+(i-n0)-nx)))=_;rw[bP h5,h6]
 have hres:aS.res ρ2 ((out b).R.map λq=>(jR ns n0 nx q.1,Hs (jR ns n0 nx) q.2))=aS.res ρ1 (out b).R:=by
  unfold aS.res;rw[yg];refine zV λq hq=> ?_;have hbq:=zn.1 ho2 q hq;rw[zh]at hbq;obtain⟨i,rr⟩:=q;cases rr with
  |row t l=>show bM.row (ρ2.v (jR ns n0 nx i)) t l= .row (ρ1.v i) t l;rw[(hb2 i hbq.1).1.1]
  |mp es=>show bM.mp (ρ2.v (jR ns n0 nx i)) es= .mp (ρ1.v i) es;rw[(hb2 i hbq.1).1.1]
  |md k e l=>show bM.mp (ρ2.v (jR ns n0 nx i)) (l.map (mW k e))= .mp (ρ1.v i) (l.map (mW k e));rw[(hb2 i hbq.1).1.1]
  |box T cs=>
   show bM.box (ρ2.b (jR ns n0 nx i)) T ((cs.map (k8 (jR ns n0 nx) 4)).map (bU.sub ρ2))= .box (ρ1.b i) T (cs.map (bU.sub ρ1));rw[(hb2 i hbq.1).1.2,yg]
   congr 1
   exact zV λc hc=>ja (λi hi=>(hb2 i hi).1) 4 (zn.1 hbq.2 c hc)
 refine⟨_,_,_,hr,aj,kV (λi hi=>(hb2 i hi).2) 4 ho1,λq hq=> ?_,ρ2,hag,?_,?_⟩
 ·rcases zR.1 hq with hq|hq
  ·obtain⟨q',h4,rfl⟩:=zC.1 hq;have hbq:=zn.1 ho2 q' h4;rw[zh]at hbq;refine⟨(hb2 _ hbq.1).2,?_⟩;obtain⟨i,rr⟩:=q';cases rr with
   |row t l=>trivial
   |mp es=>trivial
   |md k e l=>trivial
   |box T cs=>
    intro c hc;obtain⟨c',h5,rfl⟩:=zC.1 hc;exact kV (λi hi=>(hb2 i hi).2) 4 (zn.1 hbq.2 c' h5)
  ·have:=hRs q (ym _ hq);exact⟨aj,this.2.mono aj⟩
 ·rw[g1];exact(ja (λi hi=>(hb2 i hi).1) 4 ho1).symm
 ·rw[g3,fR,hres,<-aS.cE.res (R:=Rr) (λq hq=>hRs q (ym _ hq)) hag];exact g2.append_right _
def scD(n:Nat):AV->Bool:=Nat.rec (λd=>match d with
 | .lit _=>Z
 | .own _=>Z
 | .ptr _ _=>Z
 |_=>O) (λ_ ih d=>match d with
 | .lit _=>Z
 | .own _=>Z
 | .ptr _ _=>Z
 | .agg cs=>cs.all ih
 | .iF cs=>cs.all ih
 |_=>O) n
def adX{ρ:Gh}:∀(n:Nat) {d:AV},scD n d=Z->Cl (d.sub ρ):=λn=>by
 induction n with
 |zero=>
  intro d h;cases d<;>first|(cases h;done)|(rw[bL];exact .lit _)|(rw[cI];exact .lit _)|(rw[fT];exact .lit _)
 |succ n ih=>
  have hL:∀{cs:aa AV},cs.all (scD n)=Z->MN (cs.map (bU.sub ρ)):=λ{cs} h=>by
   induction cs with
   |nil=>exact .nil
   |cons c cs ihc=>
    rw[xu,zh]at h;exact .cons (ih h.1) (ihc h.2)
  intro d h;cases d<;>first|(cases h;done)|(rw[bL];exact .lit _)|(rw[cI];exact .lit _)|(rw[fT];exact .lit _)|skip
  ·rw[eS];exact .agg (hL h)
  ·rw[jJ];exact .iF (hL h)
def WV{n:Nat}{ρ:Gh}:∀cs:aa AV,cs.all (scD n)=Z->MN (cs.map (bU.sub ρ))
 |[],_=> .nil
 |c::cs,h=>by
  rw[xu,zh]at h;exact .cons (adX n h.1) (WV cs h.2)
def Out.scB(sc:Nat->Bool)(x:Out):Bool:=scD 4 x.d&&x.R.all λq=>match q.2 with
 | .row t _=>sc t
 | .mp _=>O
 | .md _ _ _=>O
 | .box _ cs=>cs.all (scD 3)
def aiy{sc:Nat->Bool}(hsc:∀t,sc t=Z->∀x,MN (U.cells t x)){x:Out}(h:x.scB sc=Z)(ρ:Gh):Cl (x.d.sub ρ)/\∀r∈aS.res ρ x.R,ClR r:=by
 unfold Out.scB at h;rw[zh]at h;refine⟨adX 4 h.1,λr hr=> ?_⟩;obtain⟨q,hq,rfl⟩:=zC.1 hr;have hb:=zn.1 h.2 q hq;obtain⟨i,rr⟩:=q;cases rr with
 |row t l=>exact ClR.row (hsc t hb)
 |mp es=>cases hb
 |md k e l=>cases hb
 |box T cs=>
  exact ClR.box (WV cs hb)
def WL{α γ β:Type}(q:aa AV->af γ)(t:γ->af β)(out:β->Out)(args:aa AV)(R:aS)(nx:Nat)(k:AV->aS->Nat->af α)(F:af α):af α:=
 match args.all (aJd 4)with
 |true=>match q args with
  |some g=>match t g with
   |some b=>k (k8 (λi=>i+nx) 4 (out b).d) ((out b).R.map (λq=>(q.1+nx,Hs (λi=>i+nx) q.2))++R) ((out b).c+nx)
   |none=>J
  |none=>F
 |false=>F
def orL{γ β:Type}(f0:Nat)(lb:Bool)(q:aa AV->af γ)(t:γ->af β)(out:β->Out)(F:aT):aT:=λ_ f args R nx k=>match zg f f0 with
 |true=>WL q t out (args.map (Im lb (gj R) 3)) R nx k (F _ f args R nx k)
 |false=>F _ f args R nx k
def ar0{P:Program}{F:aT}{γ β:Type}{f0:Nat}{lb:Bool}{q:aa AV->af γ}{ca:γ->aa AV}{t:γ->af β}{out:β->Out}{sc:Nat->Bool}(hF:gR P F)(hsc:∀t,sc t=Z->∀x,MN (U.cells t x))(hf:sL P f0)(hq:Nz q ca)(hm:∀b,(out b).okB 0=Z)(hs:∀b,(out b).scB sc=Z)
  (h:∀g b,t g=M b->Ht P f0 (ca g) [] 0 (out b)):gR P (orL f0 lb q t out F):=λα f args R nx k r hr hargs hR=>by
 unfold orL at hr;split at hr
 case h_2=>exact hF α f args R nx k r hr hargs hR
 rename_i hb;have hb:=fL hb;subst hb;unfold WL at hr;split at hr
 case h_2=>exact hF α f args R nx k r hr hargs hR
 split at hr
 case h_2=>exact hF α f args R nx k r hr hargs hR
 rename_i g hg;split at hr
 case h_2=>cases hr
 rename_i b hb;obtain⟨hqa,_⟩:=hq _ g hg;have hok:=hm b;unfold Out.okB at hok;rw[zh,zh]at hok;obtain⟨⟨_,ho1⟩,ho2⟩:=hok;refine⟨hf,λρ=> ?_⟩;have h1:Fn P f ((ca g).map (bU.sub ρ)) [] _:=h g b hb ρ;have h2:=Fn.aJZ (args:=args.map (bU.sub ρ)) (σr:=aS.res ρ R) h1 (λA w us hd hrel=>by
  refine hqa ρ _ w us ⟨by simpa using hrel.1,λj a v q1 q2=> ?_⟩;rw[yg,zP]at q1;obtain⟨c,hc,rfl⟩:=zj.1 q1;exact YP hd 3 ((hrel.2 j _ v (by rw[zP,hc];rfl) q2).mono λb _ hA=>⟨.inl hA,rfl⟩)) (λav σo ⟨ρ',_,e1,e2⟩=>by
   obtain⟨c1,c2⟩:=aiy hsc (hs b) ρ';subst e1;exact⟨c1,λr hr=>c2 r (e2.mem_iff.1 hr)⟩)
 have hlt:∀i,zB i (out b).c=Z->i+nx<(out b).c+nx:=λi hi=>by rw[xw]at hi;omega
 refine Fn.mono h2 λa s ⟨s',⟨ρ1,_,g1,g2⟩,g3⟩=> ?_
 let ρ2:Gh:=⟨λi=>if i<nx then ρ.v i else ρ1.v (i-nx),λi=>if i<nx then ρ.b i else ρ1.b (i-nx)⟩
 have hag:nc nx ρ ρ2:=λi hi=>⟨by simp only[ρ2,bO hi],by simp only[ρ2,bO hi]⟩;have hp:∀i,zB i (out b).c=Z->ρ2.v (i+nx)=ρ1.v i/\ρ2.b (i+nx)=ρ1.b i:=λi _=>by
  have:¬i+nx<nx:=aj;exact⟨by simp only[ρ2,bP this,Nat.add_sub_cancel],by simp only[ρ2,bP this,Nat.add_sub_cancel]⟩
 have hres:aS.res ρ2 ((out b).R.map λq=>(q.1+nx,Hs (λi=>i+nx) q.2))=aS.res ρ1 (out b).R:=by
  unfold aS.res;rw[yg];refine zV λq hq=> ?_;have hbq:=zn.1 ho2 q hq;rw[zh]at hbq;obtain⟨i,rr⟩:=q;cases rr with
  |row t l=>show bM.row (ρ2.v (i+nx)) t l= .row (ρ1.v i) t l;rw[(hp i hbq.1).1]
  |mp es=>show bM.mp (ρ2.v (i+nx)) es= .mp (ρ1.v i) es;rw[(hp i hbq.1).1]
  |md k e l=>show bM.mp (ρ2.v (i+nx)) (l.map (mW k e))= .mp (ρ1.v i) (l.map (mW k e));rw[(hp i hbq.1).1]
  |box T cs=>
   show bM.box (ρ2.b (i+nx)) T ((cs.map (k8 (λi=>i+nx) 4)).map (bU.sub ρ2))= .box (ρ1.b i) T (cs.map (bU.sub ρ1));rw[(hp i hbq.1).2,yg]
   congr 1
   exact zV λc hc=>ja hp 4 (zn.1 hbq.2 c hc)
 refine⟨_,_,_,hr,Nat.le_add_left _ _,kV hlt 4 ho1,λq hq=> ?_,ρ2,hag,?_,?_⟩
 ·rcases zR.1 hq with hq|hq
  ·obtain⟨q',h4,rfl⟩:=zC.1 hq;have hbq:=zn.1 ho2 q' h4;rw[zh]at hbq;refine⟨hlt _ hbq.1,?_⟩;obtain⟨i,rr⟩:=q';cases rr with
   |row t l=>trivial
   |mp es=>trivial
   |md k e l=>trivial
   |box T cs=>
    intro c hc;obtain⟨c',h5,rfl⟩:=zC.1 hc;exact kV hlt 4 (zn.1 hbq.2 c' h5)
  ·exact(hR.mono (Nat.le_add_left _ _)) q hq
 ·rw[g1];exact(ja hp 4 ho1).symm
 ·rw[g3,fR,hres,<-hR.res hag];exact g2.append_right _
def aP{P:Program}:bK P dz:=⟨auu,λ_ _ _ _ _ _ _ _=>rfl⟩
def al1{γ δ:Type}{f0 n0:Nat}{q:aa AV->aS->af γ}{t:γ->af δ}{out:δ->Out}{F:aT}(hN:dF F):dF (orY f0 n0 q t out F):=λα β f args R nx k D=>by
 unfold orY;split
 ·unfold afs Qo;split
  ·split
   ·split<;>rfl
   ·exact hN ..
  ·exact hN ..
 ·exact hN ..
def aij{γ δ:Type}{f0:Nat}{lb:Bool}{q:aa AV->af γ}{t:γ->af δ}{out:δ->Out}{F:aT}(hN:dF F):dF (orL f0 lb q t out F):=λα β f args R nx k D=>by
 unfold orL;split
 ·unfold WL;split
  ·split
   ·split<;>rfl
   ·exact hN ..
  ·exact hN ..
 ·exact hN ..
def aoK{P:Program}{F:aT}{γ β:Type}{f0 n0:Nat}{q:aa AV->aS->af γ}{ca:γ->aa AV}{cr:γ->aS}{t:γ->af β}{out:β->Out}(hF:bK P F)(hf:sL P f0)(hq:QY q ca cr)(hm:∀b,(out b).okB n0=Z)
 (h:∀g b,t g=M b->Ht P f0 (ca g) (cr g) n0 (out b)):bK P (orY f0 n0 q t out F):=⟨aga hF.ok hf hq hm h,al1 hF.nat⟩
def aAL{P:Program}{F:aT}{γ β:Type}{f0:Nat}{lb:Bool}{q:aa AV->af γ}{ca:γ->aa AV}{t:γ->af β}{out:β->Out}{sc:Nat->Bool}(hF:bK P F)(hsc:∀t,sc t=Z->∀x,MN (U.cells t x))(hf:sL P f0)(hq:Nz q ca)(hm:∀b,(out b).okB 0=Z)(hs:∀b,(out b).scB sc=Z)
 (h:∀g b,t g=M b->Ht P f0 (ca g) [] 0 (out b)):bK P (orL f0 lb q t out F):=⟨ar0 hF.ok hsc hf hq hm hs h,aij hF.nat⟩
def cU{f:FuncId}:bH dz f:=λ_ _ _ _ _ _ h=>by cases h
def jf{γ β:Type}{f0:Nat}{lb:Bool}{q:aa AV->af γ}{t:γ->af β}{out:β->Out}{F:aT}{f:FuncId}(h:bH F f)(hm:∀b,(out b).R=[]):bH (orL f0 lb q t out F) f:=λargs R nx d R' nx' hr=>by
 unfold orL at hr;split at hr
 ·unfold WL at hr;split at hr
  ·split at hr
   ·split at hr
    ·simp_all
    ·cases hr
   ·exact h _ _ _ _ _ _ hr
  ·exact h _ _ _ _ _ _ hr
 ·exact h _ _ _ _ _ _ hr
def pQ{γ β:Type}{f0 n0:Nat}{q:aa AV->aS->af γ}{t:γ->af β}{out:β->Out}{F:aT}{f:FuncId}(hne:zg f f0=O)(h:bH F f):bH (orY f0 n0 q t out F) f:=λargs R nx d R' nx' hr=>by
 unfold orY at hr;rw[hne]at hr;exact h _ _ _ _ _ _ hr
def b6{α:Type}(b:Bool)(x y:α):(bif b then some x else some y)=some (bif b then x else y):=by cases b<;>rfl
def cw{α:Type}(p:Prop)[Decidable p](x y:α):(if p then M x else M y)=M (if p then x else y):=by split<;>rfl
def gG{n0:Nat}{args:aa AV}(h:args.all (jr (λi=>zB i n0) 4)=Z):∀d∈args,cE n0 d:=λd hd=>(DA 4 (zn.1 h d hd)).mono λi hi=>by rw[xw]at hi;exact hi
def eT{n0:Nat}{R:aS}(h:R.all (λq=>zB q.1 n0&&match q.2 with
  | .box _ cs=>cs.all (jr (λi=>zB i n0) 4)
  | .row _ _=>Z
  | .mp _=>Z
  | .md _ _ _=>Z)=Z):aS.cE n0 R:=λq hq=>by
 have hb:=zn.1 h q hq;rw[zh,xw]at hb;refine⟨hb.1,?_⟩;obtain⟨i,rr⟩:=q;cases rr with
 |row t l=>trivial
 |mp es=>trivial
 |md k e l=>trivial
 |box T cs=>exact gG hb.2
def qy0{γ:Type}(q:aa AV->af γ)(xs:aa AV)(R:aS):af γ:=match R with
 |[]=>q xs
 |_=>J
def acN{γ:Type}{q:aa AV->af γ}{ca:γ->aa AV}(h:Nz q ca):QY (qy0 q) ca (λ_=>[]):=λxs R g hg=>by
 unfold qy0 at hg;split at hg
 ·exact⟨(h xs g hg).1, .nil⟩
 ·cases hg
def qyR{γ δ:Type}(q:aa AV->af γ)(r:aS->af δ)(xs:aa AV)(R:aS):af (γ×δ):=match q xs with
 |some g=>match r R with
  |some h=>M (g,h)
  |none=>J
 |none=>J
def atn{γ δ:Type}{q:aa AV->af γ}{ca:γ->aa AV}{r:aS->af δ}{cr:δ->aS}(hq:Nz q ca)(hr:vW r cr):QY (qyR q r) (λg=>ca g.1) (λg=>cr g.2):=λxs R g hg=>by
 unfold qyR at hg;split at hg
 ·rename_i g' h1;split at hg
  ·rename_i h' h2;cases hg;exact⟨(hq xs g' h1).1,hr R h' h2⟩
  ·cases hg
 ·cases hg
open Classical in
def lim{β:Type}(m:Nat->af β):af β:=if h:∃b N,∀n,N<=n->m n=M b then M (Classical.choose h)else J
def bW{β:Type}{m:Nat->af β}{b:β}(h:lim m=M b):∃n,m n=M b:=by
 unfold lim at h;split at h
 ·rename_i hx;cases h;obtain⟨N,hN⟩:=Classical.choose_spec hx;exact⟨N,hN N (zx _)⟩
 ·cases h
def dc{β:Type}{m:Nat->af β}{b:β}(N:Nat)(h:∀n,N<=n->m n=M b):lim m=M b:=by
 have hx:∃b N,∀n,N<=n->m n=M b:=⟨b,N,h⟩;unfold lim;rw[dif_pos hx];obtain⟨zf,hM⟩:=Classical.choose_spec hx;have h1:=hM (max zf N) (Nat.le_max_left _ _);rw[h (max zf N) (Nat.le_max_right _ _)]at h1;exact h1.symm
def Uo{P:Program}{f:FuncId}{t:Nat}{x:Out}(h1:∀c,Ht P f [.lit (.slice J 0 c)] [] 0 x)(h2:∀a c,Ht P f [.lit (.slice (M a) 0 c)] [] 0 x):Ht P f [.sl t []] [] 0 x:=λρ w A vs hr hd hn=>by
 have hr':bD A w [(bU.sl t []:AV).sub ρ] vs:=hr;obtain⟨v,us,rfl,h3,h4⟩:=hr'.head;rw[fV]at h3;obtain⟨p,c,g,hv,_⟩:=h3.sG;have hz:us=[]:=xG (by simpa using h4.1);subst hz hv;cases p with
 |none=>exact h1 c ρ w A _ (bD.cons (by rw[bL];exact .lit _) bD.nil) hd hn
 |some a=>exact h2 a c ρ w A _ (bD.cons (by rw[bL];exact .lit _) bD.nil) hd hn
def aLS:AV->Bool
 | .lit _=>Z
 |_=>O
def V9:∀(cs:aa AV),cs.all aLS=Z->MN cs
 |[],_=> .nil
 |c::cs,h=>by
  rw[xu,zh]at h;refine .cons ?_ (V9 cs h.2);cases c<;>first|(cases h.1;done)|exact .lit _
def rfE(t:Nat)(s:St):St:=match cF s.E t with
 |some (.fn f [.ptr id 0])=>match gj s.R id with
  |some (.box _ cs)=>⟨ig t (.fn f [.fp cs]) s.E,j6 id s.R,s.nx⟩
  |_=>s
 |_=>s
def eW(a b:Int):Int:=if a<b then a else b
def ou(a b:Int):eW a b=min a b:=by unfold eW;split<;>omega
def jI(a:Int):eW a a=a:=by rw[ou];omega
section
variable {β γ δ:Type}
structure Rq (β:Type) where
 f:AV->Option β
 c:β->AV
 ok:PN f c
structure Rl (γ:Type) where
 q:List AV->Option γ
 c:γ->List AV
 ok:Nz q c
def aU:Rq Int:=⟨jo .i64,bU.n .i64, .i .i64⟩
def qi(k:IntKind):Rq Int:=⟨jo k,bU.n k, .i k⟩
def qb:Rq Bool:=⟨asB,bU.b, .b⟩
def qs:Rq ByteArray:=⟨asS,bU.s, .s⟩
def ql(t:Nat):Rq (aa (U.cQ t)):=⟨kG t,bU.sl t, .l t⟩
@[reducible] def tupT (t:Nat):Nat->Type
 |0=>Unit
 |n+1=>U.cQ t×tupT t n
def ofT(t:Nat):(n:Nat)->tupT t n->aa (U.cQ t)
 |0,_=>[]
 |n+1,x=>x.1::ofT t n x.2
def toT(t:Nat):(n:Nat)->aa (U.cQ t)->af (tupT t n)
 |0,[]=>M ()
 |n+1,a::l=>(toT t n l).map λx=>(a,x)
 |_,_=>J
def ab8{t:Nat}:∀{n:Nat} {l:aa (U.cQ t)} {x:tupT t n},toT t n l=M x->l=ofT t n x
 |0,[],x,h=>rfl
 |0,_::_,x,h=>by cases h
 |n+1,[],x,h=>by cases h
 |n+1,a::l,x,h=>by
  obtain⟨y,h1,rfl⟩:=zj.1 (show (toT t n l).map (λx=>(a,x))=M x from h);rw[ab8 h1];rfl
def asK(t n:Nat)(a:AV):af (tupT t n):=(kG t a).bind (toT t n)
def PN.k(t n:Nat):PN (asK t n) (λx=> .sl t (ofT t n x)):=λa x h=>by
 obtain⟨l,h1,h2⟩:=zl.1 h;have h3:=PN.l t a l h1;rw[ab8 h2]at h3;exact h3
def qk(t n:Nat):Rq (tupT t n):=⟨asK t n,λx=> .sl t (ofT t n x), .k t n⟩
def qg(t:Nat):Rq (U.cQ t):=⟨ako t,λx=> .agg (U.cells t x), .g t⟩
def qp(i o:Nat):Rq Unit:=⟨asP i o,λ_=> .ptr i o, .p i o⟩
def qo(i:Nat):Rq Unit:=⟨asO i,λ_=> .own i, .o i⟩
def qn:Rq Unit:=⟨arZ,λ_=> .lit (.slice J 0 0), .ns⟩
def qv:Rq Unit:=⟨aww,λ_=> .lit (.pointer J), .np⟩
def qa(l:Rl γ):Rq γ:=⟨axl l.q,λx=> .agg (l.c x), .ag l.ok⟩
def qf(k:Nat)(l:Rl γ):Rq γ:=⟨ar5 k l.q,λx=> .fn (.func k) (l.c x), .ff k l.ok⟩
def qr(l:Rl γ):Rq γ:=⟨ar3 l.q,λx=> .fp (l.c x), .fp l.ok⟩
def ln:Rl Unit:=⟨sR,λ_=>[], .nil⟩
def lc(a:Rq β)(l:Rl γ):Rl (β×γ):=⟨eE a.f l.q,λx=>a.c x.1::l.c x.2, .cons a.ok l.ok⟩
abbrev dX(l:Rl γ):Rl (Int×γ):=lc aU l
def lg(t:Nat):Rl (U.cQ t):=⟨avL t,λx=>U.cells t x,Nz.parse t⟩
structure Re (γ:Type) where
 q:ET->Option γ
 d:γ->Env
 ok:oR q d
def en:Re Unit:=⟨slN,λ_=>[], .nil⟩
def ec(t:Nat)(a:Rq β)(l:Re γ):Re (β×γ):=⟨slC t a.f l.q,λx=>(t,a.c x.1)::l.d x.2, .cons a.ok l.ok⟩
structure Rs (γ:Type) where
 q:aS->Option γ
 d:γ->aS
 ok:vW q d
def sn:Rs Unit:=⟨rsN,λ_=>[], .nil⟩
def sr(i t:Nat)(l:Rs γ):Rs (aa (U.cQ t)×γ):=⟨rsR i t l.q,λx=>(i, .row t x.1)::l.d x.2, .row l.ok⟩
def sm(i:Nat)(k:KK)(e:VK)(l:Rs γ):Rs (aa (k.T×e.T)×γ):=⟨rsM i k e l.q,λx=>(i, .md k e x.1)::l.d x.2, .map l.ok⟩
def sb(i t:Nat)(a:Rl β)(l:Rs γ):Rs (β×γ):=⟨axt i t a.q l.q,λx=>(i, .box t (a.c x.1))::l.d x.2, .aLU a.ok l.ok⟩
structure Td (n0:Nat) (γ:Type) where
 rd:St->Option γ
 pat:γ->St
 ok:∀n,lI n0 n rd pat
def Td.r(n0 m:Nat)(e:Re β)(s:Rs δ)(mk:β×δ->γ)(un:γ->β×δ)(h:∀z,un (mk z)=z:=by exact λ_=>rfl):Td n0 γ:=
 ⟨rdM mk (stR m e.q s.q),λx=>stP m e.d s.d (un x),λ_=>(ar7 e.ok s.ok).m mk λz=>by rw[h]⟩
def Td.c{n0:Nat}(dr ts:aa Nat)(d:Td n0 γ):Td n0 γ:=⟨rdC n0 dr ts d.rd,d.pat,λn=>avJ (d.ok n)⟩
def Td.t{n0:Nat}{f:St->St}(h:bT f)(d:Td n0 γ):Td n0 γ:=⟨rdF f d.rd,d.pat,λn=>atL h (d.ok n)⟩
def Td.rf{n0:Nat}(d:Td n0 γ)(e:γ->St)(a:γ->af γ):An:= .rf γ d.rd d.pat e a
def Td.lp{n0:Nat}(d:Td n0 γ)(a:γ->af γ)(b:An):An:= .lp γ d.rd d.pat a b
end
def eN(P:Program)(f n0:Nat)(s:St):Out:=match (match mZ P f s with
  |some ds=>M (Out.mk (iK ds) (sI s.R n0 (iK ds)) s.nx)
  |none=>J)with
 |some o=>o
 |none=>⟨.iF [],[],0⟩
def az{α:Type _}{Q:α->Prop}:∀p∈([]:aa α),Q p:=λp h=>by cases h
def aA{α:Type _}{Q:α->Prop}{a:α}{l:aa α}(h:Q a)(t:∀p∈l,Q p):∀p∈a::l,Q p:=λp hp=>(zk.1 hp).elim (λe=>e▸h) (t p)
section
variable {P:Program} {F:aT} {f n0:Nat} {γ δ β:Type}
def HY(P:Program)(f n0:Nat)(a:Rl γ)(s:Rs δ)(d:Td n0 β)(t:γ×δ->af β):Prop:=∀g b,t g=M b->Ht P f (a.c g.1) (s.d g.2) n0 (eN P f n0 (d.pat b))
def HL(P:Program)(f:Nat)(a:Rl γ)(d:Td 0 β)(t:γ->af β):Prop:=∀g b,t g=M b->Ht P f (a.c g) [] 0 (eN P f 0 (d.pat b))
def gZ(hF:bK P F){an:An}(fa:dB P F n0 300 f an){a:Rl γ}{s:Rs δ}{d:Td n0 β}{t:γ×δ->af β}(ho:∀p,(match mZ P f (d.pat p)with
   |some ds=>M (Out.mk (iK ds) (sI (d.pat p).R n0 (iK ds)) (d.pat p).nx)
   |none=>J)=M (eN P f n0 (d.pat p)))
  (h1:∀g,(a.c g).all (jr (λi=>zB i n0) 4)=Z) (h2:∀g,(s.d g).all (λq=>zB q.1 n0&&match q.2 with
  | .box _ cs=>cs.all (jr (λi=>zB i n0) 4)
  | .row _ _=>Z
  | .mp _=>Z
  | .md _ _ _=>Z)=Z) (c:∀g,bY P F 300 an f (a.c g.1) (s.d g.2) n0 d.rd=t g):HY P f n0 a s d t:=
 λg b hb=>(hU (p:=b) hF fa d.ok ho (gG (h1 g.1)) (eT (h2 g.2)) ((c g).trans hb)).2
def fo(hF:bK P F){an:An}(fa:dB P F 0 300 f an){a:Rl γ}{d:Td 0 β}{t:γ->af β}(ho:∀p,(match mZ P f (d.pat p)with
   |some ds=>M (Out.mk (iK ds) (sI (d.pat p).R 0 (iK ds)) (d.pat p).nx)
   |none=>J)=M (eN P f 0 (d.pat p)))
  (h1:∀g,(a.c g).all (jr (λi=>zB i 0) 4)=Z) (c:∀g,bY P F 300 an f (a.c g) [] 0 d.rd=t g):HL P f a d t:=
 λg b hb=>(hU (p:=b) hF fa d.ok ho (gG (h1 g)) (eT rfl) ((c g).trans hb)).2
def eY(P:Program)(f n0:Nat)(a:Rl γ)(s:Rs δ)(d:Td n0 β)(t:γ×δ->af β)(F:aT):aT:=orY f n0 (qyR a.q s.q) t (λx=>eN P f n0 (d.pat x)) F
def eZ(P:Program)(f:Nat)(a:Rl γ)(d:Td 0 β)(t:γ->af β)(F:aT):aT:=orY f 0 (qy0 a.q) t (λx=>eN P f 0 (d.pat x)) F
def eL(P:Program)(f:Nat)(lb:Bool)(a:Rl γ)(d:Td 0 β)(t:γ->af β)(F:aT):aT:=orL f lb a.q t (λx=>eN P f 0 (d.pat x)) F
def gi{a:Rl γ}{s:Rs δ}{d:Td n0 β}{t:γ×δ->af β}(h:HY P f n0 a s d t)(hf:sL P f)(h3:∀b,(eN P f n0 (d.pat b)).okB n0=Z)(hF:bK P F):bK P (eY P f n0 a s d t F):=
 aoK hF hf (atn a.ok s.ok) h3 h
def oI{a:Rl γ}{d:Td 0 β}{t:γ->af β}(h:HL P f a d t)(hf:sL P f)(h3:∀b,(eN P f 0 (d.pat b)).okB 0=Z)(hF:bK P F):bK P (eZ P f a d t F):=
 aoK hF hf (acN a.ok) h3 h
def fI{lb:Bool}{sc:Nat->Bool}(hsc:∀t,sc t=Z->∀x,MN (U.cells t x)){a:Rl γ}{d:Td 0 β}{t:γ->af β}(h:HL P f a d t)(hf:sL P f)(h3:∀b,(eN P f 0 (d.pat b)).okB 0=Z)(h4:∀b,(eN P f 0 (d.pat b)).scB sc=Z)(hF:bK P F):bK P (eL P f lb a d t F):=
 aAL hF hsc hf a.ok h3 h4 h
end
def cnY(n0:Nat)(args:aa AV)(Rp:aS)(ns:aa Nat):Bool:=zg (zZ Rp) n0&&args.all (jr (λi=>cS i ns) 4)&&Rp.all (λq=>match q.2 with
 | .box _ cs=>cs.all (jr (λi=>cS i ns) 4)
 | .row _ _=>Z
 | .mp _=>Z
 | .md _ _ _=>Z)
def Zi{γ β α:Type}(t:γ->af β)(K:β->af α)(F G:af α)(o:af γ):af α:=match o with
 |some g=>match t g with
  |some b=>K b
  |none=>G
 |none=>F
def onT{α:Type}(c:Bool)(x y:af α):af α:=match c with
 |true=>x
 |false=>y
def Bg{α γ β:Type}(q:aa AV->aS->af γ)(t:γ->af β)(out:β->Out)(n0:Nat)(args:aa AV)(nx:Nat)(k:AV->aS->Nat->af α)(F G:af α)(Rp Rr:aS)(ns:aa Nat):af α:=
 onT (cnY n0 args Rp ns) (Zi t (λb=>k (k8 (jR ns n0 nx) 4 (out b).d) ((out b).R.map (λq=>(jR ns n0 nx q.1,Hs (jR ns n0 nx) q.2))++Rr) (nx+((out b).c-n0))) F G (q (args.map (k8 (ko ns) 4)) (Rp.map λq=>(ko ns q.1,Hs (ko ns) q.2)))) F
def afM{α γ β:Type}(q:aa AV->aS->af γ)(t:γ->af β)(out:β->Out)(n0:Nat)(args:aa AV)(nx:Nat)(k:AV->aS->Nat->af α)(F:af α)(Rp Rr:aS)(ns:aa Nat):Qo q t out n0 args nx k F Rp Rr ns=Bg q t out n0 args nx k F J Rp Rr ns:=rfl
def ain{γ β α:Type}(t:γ->af β)(K:β->af α)(F:af α)(o:af γ):Zi t K F F o=Zi t K F J o\/Zi t K F F o=F:=by
 unfold Zi;cases o with
 |none=>exact .inr rfl
 |some g=>
  cases h:t g with
  |none=>exact .inr (by simp only[h])
  |some b=>exact .inl (by simp only[h])
def ZF{α γ β:Type}(q:aa AV->aS->af γ)(t:γ->af β)(out:β->Out)(n0:Nat)(args:aa AV)(nx:Nat)(k:AV->aS->Nat->af α)(F:af α)(Rp Rr:aS)(ns:aa Nat):
  Bg q t out n0 args nx k F F Rp Rr ns=Qo q t out n0 args nx k F Rp Rr ns\/Bg q t out n0 args nx k F F Rp Rr ns=F:=by
 rw[afM];unfold Bg;cases cnY n0 args Rp ns with
 |false=>exact .inr rfl
 |true=>exact ain ..
def R6{γ β:Type}(f0 n0:Nat)(q:aa AV->aS->af γ)(t:γ->af β)(out:β->Out)(F:aT):aT:=λ_ f args R nx k=>match zg f f0 with
 |true=>Bg q t out n0 args nx k (F _ f args R nx k) (F _ f args R nx k) (jQ (reach R 3 (args.flatMap (jY 4))) R).1 (jQ (reach R 3 (args.flatMap (jY 4))) R).2 ((jQ (reach R 3 (args.flatMap (jY 4))) R).1.map λq=>q.1)
 |false=>F _ f args R nx k
def ant{γ β α:Type}(f0 n0:Nat)(q:aa AV->aS->af γ)(t:γ->af β)(out:β->Out)(F:aT)(f:FuncId)(args:aa AV)(R:aS)(nx:Nat)(k:AV->aS->Nat->af α):
  R6 f0 n0 q t out F α f args R nx k=orY f0 n0 q t out F α f args R nx k\/R6 f0 n0 q t out F α f args R nx k=F α f args R nx k:=by
 unfold R6 orY;cases zg f f0 with
 |true=>exact ZF ..
 |false=>exact .inr rfl
def aeK{γ δ:Type}{f0 n0:Nat}{q:aa AV->aS->af γ}{t:γ->af δ}{out:δ->Out}{F:aT}(hN:dF F):dF (R6 f0 n0 q t out F):=λα β f args R nx k D=>by
 have hF:=hN α β f args R nx k D;unfold R6 Bg onT Zi;cases zg f f0 with
 |false=>exact hF
 |true=>
  cases cnY n0 args (jQ (reach R 3 (args.flatMap (jY 4))) R).1 ((jQ (reach R 3 (args.flatMap (jY 4))) R).1.map λq=>q.1)with
  |false=>exact hF
  |true=>
   simp only;split
   ·split
    ·rfl
    ·exact hF
   ·exact hF
def aye{P:Program}{F:aT}{γ β:Type}{f0 n0:Nat}{q:aa AV->aS->af γ}{ca:γ->aa AV}{cr:γ->aS}{t:γ->af β}{out:β->Out}(hF:bK P F)(hf:sL P f0)(hq:QY q ca cr)(hm:∀b,(out b).okB n0=Z)
  (h:∀g b,t g=M b->Ht P f0 (ca g) (cr g) n0 (out b)):bK P (R6 f0 n0 q t out F):=⟨λα f args R nx k r hr hargs hR=>by
 rcases ant f0 n0 q t out F f args R nx k with e|e
 ·exact aga hF.ok hf hq hm h α f args R nx k r (e▸hr) hargs hR
 ·exact hF.ok α f args R nx k r (e▸hr) hargs hR,aeK hF.nat⟩
def eZf{γ β:Type}(P:Program)(f:Nat)(a:Rl γ)(d:Td 0 β)(t:γ->af β)(F:aT):aT:=R6 f 0 (qy0 a.q) t (λx=>eN P f 0 (d.pat x)) F
def axx{γ β:Type}{P:Program}{f:Nat}{F:aT}{a:Rl γ}{d:Td 0 β}{t:γ->af β}(h:HL P f a d t)(hf:sL P f)(h3:∀b,(eN P f 0 (d.pat b)).okB 0=Z)(hF:bK P F):bK P (eZf P f a d t F):=
 aye hF hf (acN a.ok) h3 h
def Zq{P:Program}{l m i:Nat}{ops:Array Oper}{Q:Exit->Act->World->Prop}{K K':Act->World->Prop}{a:Act}{w:World}(hp:ops.toList.all iM=Z)(hQ:¬LetsOut Q)(h:wpOp P ops Q i K a w)(hK:∀a w,K a w->K' a w):wpOpIn (Fence.wide.inRound l) m P ops Q i K' a w:=by
 unfold wpOp at h;unfold wpOpIn;cases hi:ops[i]? with
 |none=>rw[hi]at h;exact hK _ _ h
 |some o=>
  rw[hi]at h;simp only at h ⊢;have ho:iM o=Z:=zn.1 hp o (by
   obtain⟨h1,h2⟩:=yd.1 hi;rw[<-h2];exact Array.getElem_mem_toList h1)
  split
  ·rename_i hw;rw[bO hw]at h;rcases h with h|h
   ·exact Iw ho h hK
   ·exact iy h.2 hQ
  ·rename_i hw;rw[bP hw]at h;exact⟨λ_ _=>trivial,hK _ _ h⟩
def GZ{P:Program}{l m:Nat}{md:Region.Mode}{ops:Array Oper}{Q:Exit->Act->World->Prop}(hp:ops.toList.all iM=Z)(hQ:¬LetsOut Q):∀(fuel:Nat) (listed:Array Bool) (a:Act) (w:World),wpAny P md ops Q fuel listed a w->wpAnyIn (Fence.wide.inRound l) m P md ops Q fuel listed a w
 |0,_,_,_,h=>h
 |fuel+1,listed,a,w,h=>⟨h.1,λi hi=>Zq hp hQ (h.2 i hi) λa' w'=>GZ hp hQ fuel _ a' w'⟩
def aqi{α:Type}(P:Program)(C:Cg)(n:Nat)(c:Code)(x:St->gz α->af α):Prop:=∀(lp m:Nat) (r:α) (s:St) (k:gz α) (a:Act) (w:World),x s k=M r->Mt C n s a w->a.defers=[]->c.wpIn (Fence.wide.inRound lp) m P (λe a' w'=>a'.defers=[]/\∃s',k e s'=M r/\Mt C n s' a' w') a w
section
variable {α:Type} {P:Program} {F:aT} {C:Cg} {n:Nat}
def Y5(hF:gR P F)(hN:dF F)(id:Nat)(ops:Array Oper)(draw:Bool)(hp:ops.toList.all iM=Z):aqi (α:=α) P C n (.region id ops draw) (Cr P F n id ops draw):=λlp m r s k a w h hm hd=>by
 unfold Cr at h;cases draw with
 |false=>
  have h1:=vA hF (ops:=ops) ops.toList h hm;have h2:=lM (l:=lp) (m:=m) (λ⟨_,_,h⟩=>by cases h.1) ops.toList a w hp h1;refine wpIn_mono (wpIn_region_list h2) λe a' w' ⟨he,hd',s',g1,g2⟩=> ?_;subst he;exact⟨hd'.trans hd,s',g1,g2⟩
 |true=>
  obtain⟨h1,h2⟩:=H9 hF hN h hm;refine wpIn_mono (wpIn_region_any h1 (GZ hp (λ⟨_,_,h⟩=>by cases h.1) _ _ _ _ h2)) λe a' w' ⟨he,hd',s',g1,g2⟩=> ?_;subst he;exact⟨hd'.trans hd,s',g1,g2⟩
def plC:Code->Bool
 | .skip=>Z
 | .region _ ops _=>ops.toList.all iM
 | .seq x y=>plC x&&plC y
 | .block _ x=>plC x
 | .exit _=>Z
 | .ret=>Z
 |_=>O
def vE(hF:gR P F)(hN:dF F)(fuel:Nat):∀(c:Code),plC c=Z->aqi (α:=α) P C n c (exec P F n fuel c)
 | .skip,_=>λlp m r s k a w h hm hd=>wpIn_skip ⟨hd,s,h,hm⟩
 | .region id ops draw,hp=>Y5 hF hN id ops draw hp
 | .seq x y,hp=>λlp m r s k a w h hm hd=>by
  have hp':plC x=Z/\plC y=Z:=by simpa [plC]using hp
  refine wpIn_seq (wpIn_mono (vE hF hN fuel x hp'.1 lp m r s _ a w h hm hd) λe a' w' ⟨hd',s',h1,h2⟩=> ?_);cases e with
  |normal=>exact vE hF hN fuel y hp'.2 lp m r s' k a' w' h1 h2 hd'
  |_=>exact⟨hd',s',h1,h2⟩
 | .block id x,hp=>λlp m r s k a w h hm hd=>by
  refine wpIn_block (wpIn_mono (vE hF hN fuel x hp lp m r s _ a w h hm hd) λe a' w' ⟨hd',s',h1,h2⟩=> ?_);cases e with
  |exit id'=>
   simp only[pF]at h1;simp only[Exit.inBlock];split
   ·rename_i he;subst he;have hb:zg id' id'=Z:=yQ _;simp only[hb]at h1;exact⟨hd',s',h1,h2⟩
   ·rename_i he;have hb:zg id' id=O:=by
     cases hb:zg id' id with
     |false=>rfl
     |true=>exact iy (yI hb) he
    simp only[hb]at h1;exact⟨hd',s',h1,h2⟩
  |_=>exact⟨hd',s',h1,h2⟩
 | .exit i,_=>λlp m r s k a w h hm hd=>wpIn_exit ⟨hd,s,h,hm⟩
 | .ret,_=>λlp m r s k a w h hm hd=>wpIn_ret ⟨hd,s,h,hm⟩
end
end Go.Iv
set_option maxRecDepth 100000
namespace Go.Proofs.YtghilkcphindjaaGreat
open Go Go.Iv
open Go.IntKind (i64 u64)
structure ay where
 (bA fN:Int)
 ax:List ay
instance:Inhabited ay:=⟨⟨0,0,[]⟩⟩
structure aM where
 (cu aW bq fN:Int)
 aB:ay
 (aQ aX:List aM)
 aR:List Int
instance:Inhabited aM:=⟨⟨0,0,0,0,⟨0,0,[]⟩,[],[],[]⟩⟩
structure bf where
 fName:ByteArray
 (bQ aC au eB:Int)
 deriving Inhabited,DecidableEq
structure dO where
 fName:ByteArray
 (aC au:Int)
 aB:ay
 deriving Inhabited
structure bn where
 ah:List bf
 ai:List dO
 bG:List aM
 deriving Inhabited
structure Slot where
 (bq dJ dM:Int)
 deriving Inhabited,DecidableEq
structure bu where
 (bq aC au:Int)
 deriving Inhabited,DecidableEq
structure cz where
 ah:Int
 aD:List bu
 aH:Int
 deriving Inhabited,DecidableEq
structure mI where
 cq:List Int
 ar2:Bool
 deriving Inhabited,DecidableEq
structure bB where
 bJ:List Int
 aN:Int
 deriving Inhabited,DecidableEq
structure aq where
 ah:Int
 aG:List Int
 aD:List bu
 aH:Int
 deriving Inhabited,DecidableEq
structure fu where
 (cC cq gQ:List Int)
 deriving Inhabited,DecidableEq
structure cG where
 (aV bJ:List Int)
 aN:Int
 deriving Inhabited,DecidableEq
structure Map where
 aBf:List bB
 vH:aq
 deriving Inhabited,DecidableEq
structure aK where
 fF:bn
 (ah cC:Int)
 bS:List Slot
 ai:List aq
 deriving Inhabited
structure aF where
 aV:List aq
 aJ:aq
 cM:List aq
 aN:aq
 deriving Inhabited,DecidableEq
structure bC where
 aD:Int
 gu:Bool
 deriving Inhabited,DecidableEq
structure qh where
 (gy bJ aN:Int)
 deriving Inhabited,DecidableEq
structure Pt where
 (dJ Xa:Int)
 deriving Inhabited,DecidableEq
structure End where
 FZ:cz
 jm:aF
 deriving Inhabited,DecidableEq
structure Span where
 (aC au:Int)
 deriving Inhabited,DecidableEq
inductive Ky
 |k3
 |k4
 |k24
 |k26
 |k38
 |k42
 |k46
 |k53
 |k55
 |k65
 |k80
 |k84
 |k88
 |k96
 |k106
 |k108
 |k111
 |k113
 |k116
 |k138
 |k150
 |k175
 |k177
 |k181
 |k231
 |k273
 |k317
 |no
def ky:Nat->Ky
 |3=> .k3
 |4=> .k4
 |24=> .k24
 |26=> .k26
 |38=> .k38
 |42=> .k42
 |46=> .k46
 |53=> .k53
 |55=> .k55
 |65=> .k65
 |80=> .k80
 |84=> .k84
 |88=> .k88
 |96=> .k96
 |106=> .k106
 |108=> .k108
 |111=> .k111
 |113=> .k113
 |116=> .k116
 |138=> .k138
 |150=> .k150
 |175=> .k175
 |177=> .k177
 |181=> .k181
 |231=> .k231
 |273=> .k273
 |317=> .k317
 |_=> .no
def Gv:Ky->Type
 | .k3=>Int
 | .k4=>Bool
 | .k24=>aa aM
 | .k26=>bn
 | .k38=>Slot
 | .k42=>cz
 | .k46=>aa Int
 | .k53=>mI
 | .k55=>bB
 | .k65=>Int
 | .k80=>aq
 | .k84=>fu
 | .k88=>cG
 | .k96=>Map
 | .k106=>ay
 | .k108=>bf
 | .k111=>aM
 | .k113=>bu
 | .k116=>dO
 | .k138=>aK
 | .k150=>aF
 | .k175=>Nat
 | .k177=>bC
 | .k181=>qh
 | .k231=>Pt
 | .k273=>End
 | .k317=>Span
 | .no=>Unit
abbrev cH(t:Nat):Type:=Gv (ky t)
@[reducible] def inhK:(k:Ky)->Inhabited (Gv k)
 | .k3=>⟨(default:Int)⟩
 | .k4=>⟨(default:Bool)⟩
 | .k24=>⟨(default:aa aM)⟩
 | .k26=>⟨(default:bn)⟩
 | .k38=>⟨(default:Slot)⟩
 | .k42=>⟨(default:cz)⟩
 | .k46=>⟨(default:aa Int)⟩
 | .k53=>⟨(default:mI)⟩
 | .k55=>⟨(default:bB)⟩
 | .k65=>⟨(default:Int)⟩
 | .k80=>⟨(default:aq)⟩
 | .k84=>⟨(default:fu)⟩
 | .k88=>⟨(default:cG)⟩
 | .k96=>⟨(default:Map)⟩
 | .k106=>⟨(default:ay)⟩
 | .k108=>⟨(default:bf)⟩
 | .k111=>⟨(default:aM)⟩
 | .k113=>⟨(default:bu)⟩
 | .k116=>⟨(default:dO)⟩
 | .k138=>⟨(default:aK)⟩
 | .k150=>⟨(default:aF)⟩
 | .k175=>⟨(0:Nat)⟩
 | .k177=>⟨(default:bC)⟩
 | .k181=>⟨(default:qh)⟩
 | .k231=>⟨(default:Pt)⟩
 | .k273=>⟨(default:End)⟩
 | .k317=>⟨(default:Span)⟩
 | .no=>⟨()⟩
def szK:Ky->Nat
 | .k3=>1
 | .k4=>1
 | .k24=>1
 | .k26=>3
 | .k38=>3
 | .k42=>3
 | .k46=>1
 | .k53=>2
 | .k55=>2
 | .k65=>1
 | .k80=>4
 | .k84=>3
 | .k88=>3
 | .k96=>5
 | .k106=>3
 | .k108=>5
 | .k111=>10
 | .k113=>3
 | .k116=>6
 | .k138=>7
 | .k150=>10
 | .k175=>1
 | .k177=>2
 | .k181=>3
 | .k231=>2
 | .k273=>13
 | .k317=>2
 | .no=>0
def oy:(k:Ky)->Gv k->aa (bU cH)
 | .k3,x=>(λx:Int=>[.n .i64 x]) x
 | .k4,x=>(λx:Bool=>[.b x]) x
 | .k24,x=>(λx:aa aM=>[.sl 111 x]) x
 | .k26,x=>(λx:bn=>[.sl 108 x.ah, .sl 116 x.ai, .sl 111 x.bG]) x
 | .k38,x=>(λx:Slot=>[.n .i64 x.bq, .n .i64 x.dJ, .n .i64 x.dM]) x
 | .k42,x=>(λx:cz=>[.n .i64 x.ah, .sl 113 x.aD, .n .i64 x.aH]) x
 | .k46,x=>(λx:aa Int=>[.sl 3 x]) x
 | .k53,x=>(λx:mI=>[.sl 3 x.cq, .b x.ar2]) x
 | .k55,x=>(λx:bB=>[.sl 3 x.bJ, .n .i64 x.aN]) x
 | .k65,x=>(λx:Int=>[.n .i64 x]) x
 | .k80,x=>(λx:aq=>[.n .i64 x.ah, .sl 3 x.aG, .sl 113 x.aD, .n .i64 x.aH]) x
 | .k84,x=>(λx:fu=>[.sl 3 x.cC, .sl 3 x.cq, .sl 3 x.gQ]) x
 | .k88,x=>(λx:cG=>[.sl 3 x.aV, .sl 3 x.bJ, .n .i64 x.aN]) x
 | .k96,x=>(λx:Map=>[.sl 55 x.aBf, .n .i64 x.vH.ah, .sl 3 x.vH.aG, .sl 113 x.vH.aD, .n .i64 x.vH.aH]) x
 | .k106,x=>(λx:ay=>[.n .i64 x.bA, .n .i64 x.fN, .sl 106 x.ax]) x
 | .k108,x=>(λx:bf=>[.s x.fName, .n .i64 x.bQ, .n .i64 x.aC, .n .i64 x.au, .n .i64 x.eB]) x
 | .k111,x=>(λx:aM=>[.n .i64 x.cu, .n .i64 x.aW, .n .i64 x.bq, .n .i64 x.fN, .n .i64 x.aB.bA, .n .i64 x.aB.fN, .sl 106 x.aB.ax, .sl 111 x.aQ, .sl 111 x.aX, .sl 3 x.aR]) x
 | .k113,x=>(λx:bu=>[.n .i64 x.bq, .n .i64 x.aC, .n .i64 x.au]) x
 | .k116,x=>(λx:dO=>[.s x.fName, .n .i64 x.aC, .n .i64 x.au, .n .i64 x.aB.bA, .n .i64 x.aB.fN, .sl 106 x.aB.ax]) x
 | .k138,x=>(λx:aK=>[.sl 108 x.fF.ah, .sl 116 x.fF.ai, .sl 111 x.fF.bG, .n .i64 x.ah, .n .i64 x.cC, .sl 38 x.bS, .sl 80 x.ai]) x
 | .k150,x=>(λx:aF=>[.sl 80 x.aV, .n .i64 x.aJ.ah, .sl 3 x.aJ.aG, .sl 113 x.aJ.aD, .n .i64 x.aJ.aH, .sl 80 x.cM, .n .i64 x.aN.ah, .sl 3 x.aN.aG, .sl 113 x.aN.aD, .n .i64 x.aN.aH]) x
 | .k175,x=>(λx:Nat=>[.fn (.func x) []]) x
 | .k177,x=>(λx:bC=>[.n .i64 x.aD, .b x.gu]) x
 | .k181,x=>(λx:qh=>[.n .i64 x.gy, .n .i64 x.bJ, .n .i64 x.aN]) x
 | .k231,x=>(λx:Pt=>[.n .i64 x.dJ, .n .i64 x.Xa]) x
 | .k273,x=>(λx:End=>[.n .i64 x.FZ.ah, .sl 113 x.FZ.aD, .n .i64 x.FZ.aH, .sl 80 x.jm.aV, .n .i64 x.jm.aJ.ah, .sl 3 x.jm.aJ.aG, .sl 113 x.jm.aJ.aD, .n .i64 x.jm.aJ.aH, .sl 80 x.jm.cM, .n .i64 x.jm.aN.ah, .sl 3 x.jm.aN.aG, .sl 113 x.jm.aN.aD, .n .i64 x.jm.aN.aH]) x
 | .k317,x=>(λx:Span=>[.n .i64 x.aC, .n .i64 x.au]) x
 | .no,_=>[]
instance uni:HB:=⟨cH,λt=>inhK (ky t),λt=>szK (ky t),λt=>oy (ky t)⟩
def adI:(k:Ky)->aa AV->af (Gv k)
 | .k3=>λcs=>((eE (jo .i64) sR) cs).map (λg:Int×Unit=>(g.1:Int))
 | .k4=>λcs=>((eE asB sR) cs).map (λg:Bool×Unit=>(g.1:Bool))
 | .k24=>λcs=>((eE (kG 111) sR) cs).map (λg:(aa (cH 111))×Unit=>(g.1:aa aM))
 | .k26=>λcs=>((eE (kG 108) (eE (kG 116) (eE (kG 111) sR))) cs).map (λg:(aa (cH 108))×(aa (cH 116))×(aa (cH 111))×Unit=>((bn.mk g.1 g.2.1 g.2.2.1):bn))
 | .k38=>λcs=>((eE (jo .i64) (eE (jo .i64) (eE (jo .i64) sR))) cs).map (λg:Int×Int×Int×Unit=>((Slot.mk g.1 g.2.1 g.2.2.1):Slot))
 | .k42=>λcs=>((eE (jo .i64) (eE (kG 113) (eE (jo .i64) sR))) cs).map (λg:Int×(aa (cH 113))×Int×Unit=>((cz.mk g.1 g.2.1 g.2.2.1):cz))
 | .k46=>λcs=>((eE (kG 3) sR) cs).map (λg:(aa (cH 3))×Unit=>(g.1:aa Int))
 | .k53=>λcs=>((eE (kG 3) (eE asB sR)) cs).map (λg:(aa (cH 3))×Bool×Unit=>((mI.mk g.1 g.2.1):mI))
 | .k55=>λcs=>((eE (kG 3) (eE (jo .i64) sR)) cs).map (λg:(aa (cH 3))×Int×Unit=>((bB.mk g.1 g.2.1):bB))
 | .k65=>λcs=>((eE (jo .i64) sR) cs).map (λg:Int×Unit=>(g.1:Int))
 | .k80=>λcs=>((eE (jo .i64) (eE (kG 3) (eE (kG 113) (eE (jo .i64) sR)))) cs).map (λg:Int×(aa (cH 3))×(aa (cH 113))×Int×Unit=>((aq.mk g.1 g.2.1 g.2.2.1 g.2.2.2.1):aq))
 | .k84=>λcs=>((eE (kG 3) (eE (kG 3) (eE (kG 3) sR))) cs).map (λg:(aa (cH 3))×(aa (cH 3))×(aa (cH 3))×Unit=>((fu.mk g.1 g.2.1 g.2.2.1):fu))
 | .k88=>λcs=>((eE (kG 3) (eE (kG 3) (eE (jo .i64) sR))) cs).map (λg:(aa (cH 3))×(aa (cH 3))×Int×Unit=>((cG.mk g.1 g.2.1 g.2.2.1):cG))
 | .k96=>λcs=>((eE (kG 55) (eE (jo .i64) (eE (kG 3) (eE (kG 113) (eE (jo .i64) sR))))) cs).map (λg:(aa (cH 55))×Int×(aa (cH 3))×(aa (cH 113))×Int×Unit=>((Map.mk g.1 (aq.mk g.2.1 g.2.2.1 g.2.2.2.1 g.2.2.2.2.1)):Map))
 | .k106=>λcs=>((eE (jo .i64) (eE (jo .i64) (eE (kG 106) sR))) cs).map (λg:Int×Int×(aa (cH 106))×Unit=>((ay.mk g.1 g.2.1 g.2.2.1):ay))
 | .k108=>λcs=>((eE asS (eE (jo .i64) (eE (jo .i64) (eE (jo .i64) (eE (jo .i64) sR))))) cs).map (λg:ByteArray×Int×Int×Int×Int×Unit=>((bf.mk g.1 g.2.1 g.2.2.1 g.2.2.2.1 g.2.2.2.2.1):bf))
 | .k111=>λcs=>((eE (jo .i64) (eE (jo .i64) (eE (jo .i64) (eE (jo .i64) (eE (jo .i64) (eE (jo .i64) (eE (kG 106) (eE (kG 111) (eE (kG 111) (eE (kG 3) sR)))))))))) cs).map (λg:Int×Int×Int×Int×Int×Int×(aa (cH 106))×(aa (cH 111))×(aa (cH 111))×(aa (cH 3))×Unit=>((aM.mk g.1 g.2.1 g.2.2.1 g.2.2.2.1 (ay.mk g.2.2.2.2.1 g.2.2.2.2.2.1 g.2.2.2.2.2.2.1) g.2.2.2.2.2.2.2.1 g.2.2.2.2.2.2.2.2.1 g.2.2.2.2.2.2.2.2.2.1):aM))
 | .k113=>λcs=>((eE (jo .i64) (eE (jo .i64) (eE (jo .i64) sR))) cs).map (λg:Int×Int×Int×Unit=>((bu.mk g.1 g.2.1 g.2.2.1):bu))
 | .k116=>λcs=>((eE asS (eE (jo .i64) (eE (jo .i64) (eE (jo .i64) (eE (jo .i64) (eE (kG 106) sR)))))) cs).map (λg:ByteArray×Int×Int×Int×Int×(aa (cH 106))×Unit=>((dO.mk g.1 g.2.1 g.2.2.1 (ay.mk g.2.2.2.1 g.2.2.2.2.1 g.2.2.2.2.2.1)):dO))
 | .k138=>λcs=>((eE (kG 108) (eE (kG 116) (eE (kG 111) (eE (jo .i64) (eE (jo .i64) (eE (kG 38) (eE (kG 80) sR))))))) cs).map (λg:(aa (cH 108))×(aa (cH 116))×(aa (cH 111))×Int×Int×(aa (cH 38))×(aa (cH 80))×Unit=>((aK.mk (bn.mk g.1 g.2.1 g.2.2.1) g.2.2.2.1 g.2.2.2.2.1 g.2.2.2.2.2.1 g.2.2.2.2.2.2.1):aK))
 | .k150=>λcs=>((eE (kG 80) (eE (jo .i64) (eE (kG 3) (eE (kG 113) (eE (jo .i64) (eE (kG 80) (eE (jo .i64) (eE (kG 3) (eE (kG 113) (eE (jo .i64) sR)))))))))) cs).map (λg:(aa (cH 80))×Int×(aa (cH 3))×(aa (cH 113))×Int×(aa (cH 80))×Int×(aa (cH 3))×(aa (cH 113))×Int×Unit=>((aF.mk g.1 (aq.mk g.2.1 g.2.2.1 g.2.2.2.1 g.2.2.2.2.1) g.2.2.2.2.2.1 (aq.mk g.2.2.2.2.2.2.1 g.2.2.2.2.2.2.2.1 g.2.2.2.2.2.2.2.2.1 g.2.2.2.2.2.2.2.2.2.1)):aF))
 | .k175=>atx
 | .k177=>λcs=>((eE (jo .i64) (eE asB sR)) cs).map (λg:Int×Bool×Unit=>((bC.mk g.1 g.2.1):bC))
 | .k181=>λcs=>((eE (jo .i64) (eE (jo .i64) (eE (jo .i64) sR))) cs).map (λg:Int×Int×Int×Unit=>((qh.mk g.1 g.2.1 g.2.2.1):qh))
 | .k231=>λcs=>((eE (jo .i64) (eE (jo .i64) sR)) cs).map (λg:Int×Int×Unit=>((Pt.mk g.1 g.2.1):Pt))
 | .k273=>λcs=>((eE (jo .i64) (eE (kG 113) (eE (jo .i64) (eE (kG 80) (eE (jo .i64) (eE (kG 3) (eE (kG 113) (eE (jo .i64) (eE (kG 80) (eE (jo .i64) (eE (kG 3) (eE (kG 113) (eE (jo .i64) sR))))))))))))) cs).map (λg:Int×(aa (cH 113))×Int×(aa (cH 80))×Int×(aa (cH 3))×(aa (cH 113))×Int×(aa (cH 80))×Int×(aa (cH 3))×(aa (cH 113))×Int×Unit=>((End.mk (cz.mk g.1 g.2.1 g.2.2.1) (aF.mk g.2.2.2.1 (aq.mk g.2.2.2.2.1 g.2.2.2.2.2.1 g.2.2.2.2.2.2.1 g.2.2.2.2.2.2.2.1) g.2.2.2.2.2.2.2.2.1 (aq.mk g.2.2.2.2.2.2.2.2.2.1 g.2.2.2.2.2.2.2.2.2.2.1 g.2.2.2.2.2.2.2.2.2.2.2.1 g.2.2.2.2.2.2.2.2.2.2.2.2.1))):End))
 | .k317=>λcs=>((eE (jo .i64) (eE (jo .i64) sR)) cs).map (λg:Int×Int×Unit=>((Span.mk g.1 g.2.1):Span))
 | .no=>λ_=>J
def Y8:(k:Ky)->Pk (adI k) (oy k)
 | .k3=>Pk.map (λg:Int×Unit=>(g.1:Int)) (.cons (.i .i64) .nil) (λ_=>rfl)
 | .k4=>Pk.map (λg:Bool×Unit=>(g.1:Bool)) (.cons .b .nil) (λ_=>rfl)
 | .k24=>Pk.map (λg:(aa (cH 111))×Unit=>(g.1:aa aM)) (.cons (.l 111) .nil) (λ_=>rfl)
 | .k26=>Pk.map (λg:(aa (cH 108))×(aa (cH 116))×(aa (cH 111))×Unit=>((bn.mk g.1 g.2.1 g.2.2.1):bn)) (.cons (.l 108) (.cons (.l 116) (.cons (.l 111) .nil))) (λ_=>rfl)
 | .k38=>Pk.map (λg:Int×Int×Int×Unit=>((Slot.mk g.1 g.2.1 g.2.2.1):Slot)) (.cons (.i .i64) (.cons (.i .i64) (.cons (.i .i64) .nil))) (λ_=>rfl)
 | .k42=>Pk.map (λg:Int×(aa (cH 113))×Int×Unit=>((cz.mk g.1 g.2.1 g.2.2.1):cz)) (.cons (.i .i64) (.cons (.l 113) (.cons (.i .i64) .nil))) (λ_=>rfl)
 | .k46=>Pk.map (λg:(aa (cH 3))×Unit=>(g.1:aa Int)) (.cons (.l 3) .nil) (λ_=>rfl)
 | .k53=>Pk.map (λg:(aa (cH 3))×Bool×Unit=>((mI.mk g.1 g.2.1):mI)) (.cons (.l 3) (.cons .b .nil)) (λ_=>rfl)
 | .k55=>Pk.map (λg:(aa (cH 3))×Int×Unit=>((bB.mk g.1 g.2.1):bB)) (.cons (.l 3) (.cons (.i .i64) .nil)) (λ_=>rfl)
 | .k65=>Pk.map (λg:Int×Unit=>(g.1:Int)) (.cons (.i .i64) .nil) (λ_=>rfl)
 | .k80=>Pk.map (λg:Int×(aa (cH 3))×(aa (cH 113))×Int×Unit=>((aq.mk g.1 g.2.1 g.2.2.1 g.2.2.2.1):aq)) (.cons (.i .i64) (.cons (.l 3) (.cons (.l 113) (.cons (.i .i64) .nil)))) (λ_=>rfl)
 | .k84=>Pk.map (λg:(aa (cH 3))×(aa (cH 3))×(aa (cH 3))×Unit=>((fu.mk g.1 g.2.1 g.2.2.1):fu)) (.cons (.l 3) (.cons (.l 3) (.cons (.l 3) .nil))) (λ_=>rfl)
 | .k88=>Pk.map (λg:(aa (cH 3))×(aa (cH 3))×Int×Unit=>((cG.mk g.1 g.2.1 g.2.2.1):cG)) (.cons (.l 3) (.cons (.l 3) (.cons (.i .i64) .nil))) (λ_=>rfl)
 | .k96=>Pk.map (λg:(aa (cH 55))×Int×(aa (cH 3))×(aa (cH 113))×Int×Unit=>((Map.mk g.1 (aq.mk g.2.1 g.2.2.1 g.2.2.2.1 g.2.2.2.2.1)):Map)) (.cons (.l 55) (.cons (.i .i64) (.cons (.l 3) (.cons (.l 113) (.cons (.i .i64) .nil))))) (λ_=>rfl)
 | .k106=>Pk.map (λg:Int×Int×(aa (cH 106))×Unit=>((ay.mk g.1 g.2.1 g.2.2.1):ay)) (.cons (.i .i64) (.cons (.i .i64) (.cons (.l 106) .nil))) (λ_=>rfl)
 | .k108=>Pk.map (λg:ByteArray×Int×Int×Int×Int×Unit=>((bf.mk g.1 g.2.1 g.2.2.1 g.2.2.2.1 g.2.2.2.2.1):bf)) (.cons .s (.cons (.i .i64) (.cons (.i .i64) (.cons (.i .i64) (.cons (.i .i64) .nil))))) (λ_=>rfl)
 | .k111=>Pk.map (λg:Int×Int×Int×Int×Int×Int×(aa (cH 106))×(aa (cH 111))×(aa (cH 111))×(aa (cH 3))×Unit=>((aM.mk g.1 g.2.1 g.2.2.1 g.2.2.2.1 (ay.mk g.2.2.2.2.1 g.2.2.2.2.2.1 g.2.2.2.2.2.2.1) g.2.2.2.2.2.2.2.1 g.2.2.2.2.2.2.2.2.1 g.2.2.2.2.2.2.2.2.2.1):aM)) (.cons (.i .i64) (.cons (.i .i64) (.cons (.i .i64) (.cons (.i .i64) (.cons (.i .i64) (.cons (.i .i64) (.cons (.l 106) (.cons (.l 111) (.cons (.l 111) (.cons (.l 3) .nil)))))))))) (λ_=>rfl)
 | .k113=>Pk.map (λg:Int×Int×Int×Unit=>((bu.mk g.1 g.2.1 g.2.2.1):bu)) (.cons (.i .i64) (.cons (.i .i64) (.cons (.i .i64) .nil))) (λ_=>rfl)
 | .k116=>Pk.map (λg:ByteArray×Int×Int×Int×Int×(aa (cH 106))×Unit=>((dO.mk g.1 g.2.1 g.2.2.1 (ay.mk g.2.2.2.1 g.2.2.2.2.1 g.2.2.2.2.2.1)):dO)) (.cons .s (.cons (.i .i64) (.cons (.i .i64) (.cons (.i .i64) (.cons (.i .i64) (.cons (.l 106) .nil)))))) (λ_=>rfl)
 | .k138=>Pk.map (λg:(aa (cH 108))×(aa (cH 116))×(aa (cH 111))×Int×Int×(aa (cH 38))×(aa (cH 80))×Unit=>((aK.mk (bn.mk g.1 g.2.1 g.2.2.1) g.2.2.2.1 g.2.2.2.2.1 g.2.2.2.2.2.1 g.2.2.2.2.2.2.1):aK)) (.cons (.l 108) (.cons (.l 116) (.cons (.l 111) (.cons (.i .i64) (.cons (.i .i64) (.cons (.l 38) (.cons (.l 80) .nil))))))) (λ_=>rfl)
 | .k150=>Pk.map (λg:(aa (cH 80))×Int×(aa (cH 3))×(aa (cH 113))×Int×(aa (cH 80))×Int×(aa (cH 3))×(aa (cH 113))×Int×Unit=>((aF.mk g.1 (aq.mk g.2.1 g.2.2.1 g.2.2.2.1 g.2.2.2.2.1) g.2.2.2.2.2.1 (aq.mk g.2.2.2.2.2.2.1 g.2.2.2.2.2.2.2.1 g.2.2.2.2.2.2.2.2.1 g.2.2.2.2.2.2.2.2.2.1)):aF)) (.cons (.l 80) (.cons (.i .i64) (.cons (.l 3) (.cons (.l 113) (.cons (.i .i64) (.cons (.l 80) (.cons (.i .i64) (.cons (.l 3) (.cons (.l 113) (.cons (.i .i64) .nil)))))))))) (λ_=>rfl)
 | .k175=>Pk.fn
 | .k177=>Pk.map (λg:Int×Bool×Unit=>((bC.mk g.1 g.2.1):bC)) (.cons (.i .i64) (.cons .b .nil)) (λ_=>rfl)
 | .k181=>Pk.map (λg:Int×Int×Int×Unit=>((qh.mk g.1 g.2.1 g.2.2.1):qh)) (.cons (.i .i64) (.cons (.i .i64) (.cons (.i .i64) .nil))) (λ_=>rfl)
 | .k231=>Pk.map (λg:Int×Int×Unit=>((Pt.mk g.1 g.2.1):Pt)) (.cons (.i .i64) (.cons (.i .i64) .nil)) (λ_=>rfl)
 | .k273=>Pk.map (λg:Int×(aa (cH 113))×Int×(aa (cH 80))×Int×(aa (cH 3))×(aa (cH 113))×Int×(aa (cH 80))×Int×(aa (cH 3))×(aa (cH 113))×Int×Unit=>((End.mk (cz.mk g.1 g.2.1 g.2.2.1) (aF.mk g.2.2.2.1 (aq.mk g.2.2.2.2.1 g.2.2.2.2.2.1 g.2.2.2.2.2.2.1 g.2.2.2.2.2.2.2.1) g.2.2.2.2.2.2.2.2.1 (aq.mk g.2.2.2.2.2.2.2.2.2.1 g.2.2.2.2.2.2.2.2.2.2.1 g.2.2.2.2.2.2.2.2.2.2.2.1 g.2.2.2.2.2.2.2.2.2.2.2.2.1))):End)) (.cons (.i .i64) (.cons (.l 113) (.cons (.i .i64) (.cons (.l 80) (.cons (.i .i64) (.cons (.l 3) (.cons (.l 113) (.cons (.i .i64) (.cons (.l 80) (.cons (.i .i64) (.cons (.l 3) (.cons (.l 113) (.cons (.i .i64) .nil))))))))))))) (λ_=>rfl)
 | .k317=>Pk.map (λg:Int×Int×Unit=>((Span.mk g.1 g.2.1):Span)) (.cons (.i .i64) (.cons (.i .i64) .nil)) (λ_=>rfl)
 | .no=> .none
def ap5:(k:Ky)->aa (Gv k)->af (aa Int)
 |_,_=>J
def ahF(l:aa Int):l.flatMap (λx=>[bU.n (cQ:=cH) .u8 x])=l.map (.n .u8):=by
 induction l with
 |nil=>rfl
 |cons a l ih=>rw[xV,ih];rfl
def acA:(k:Ky)->(l:aa (Gv k))->(ns:aa Int)->ap5 k l=M ns->l.flatMap (oy k)=ns.map (.n .u8)/\szK k=1:=by
 intro k l ns h;cases k<;>first|(cases h;done)|(cases h;exact⟨ahF _,rfl⟩)
def aHT(k:Ky)(x:Gv k):zZ (oy k x)=szK k:=by cases k<;>rfl
def aJu(k:Ky)(x:Gv k):(oy k x).all iV=true:=by cases k<;>rfl
def aJi(k:Ky)(x:Gv k)(ρ:Gh):(oy k x).map (bU.sub ρ)=oy k x:=aaX _ (by cases k<;>rfl) ρ
def aKg(k:Ky)(x:Gv k)(n:Nat):∀c∈oy k x,cE n c:=adF _ (by cases k<;>rfl) n
instance uniL:Ho where
 len:=λt x=>aHT (ky t) x
 one:=λt x=>aJu (ky t) x
 clo:=λt x ρ=>aJi (ky t) x ρ
 oZ:=λt x n=>aKg (ky t) x n
 parse:=λt=>adI (ky t)
 k9:=λt=>Y8 (ky t)
 amV:=λt=>ap5 (ky t)
 vg:=λt=>acA (ky t)
 fz:=λf=>zg f 91||zg f 1000080||zg f 1000042||zg f 1000138||zg f 1000271||zg f 193||zg f 189||zg f 210||zg f 151||zg f 178||zg f 134||zg f 184||zg f 145||zg f 148||zg f 117||zg f 182||zg f 204||zg f 22||zg f 40||zg f 73||zg f 127||zg f 186
def scK:Ky->Bool
 | .k3=>Z
 | .k4=>Z
 | .k38=>Z
 | .k65=>Z
 | .k108=>Z
 | .k113=>Z
 | .k177=>Z
 | .k181=>Z
 | .k231=>Z
 | .k317=>Z
 |_=>O
def sB(t:Nat):Bool:=scK (ky t)
def awj:(k:Ky)->scK k=Z->(x:Gv k)->MN (oy k x):=by
 intro k h x;cases k<;>first|(cases h;done)|exact V9 _ rfl
def dQ(t:Nat)(h:sB t=Z)(x:uni.cQ t):MN (uni.cells t x):=awj (ky t) h x
def gI{p:Prop}{_:Decidable p}(h:¬p:=by omega):decide p=O:=iU h
def zDT{p:Prop}{_:Decidable p}(h:p:=by omega):decide p=Z:=l8 h
def Dx{p:Prop}{_:Decidable p}{α:Type _}{a b:α}(h:p:=by omega):(if p then a else b)=a:=bO h
def nB{p:Prop}{_:Decidable p}{α:Type _}{a b:α}(h:¬p:=by omega):(if p then a else b)=b:=bP h
abbrev EO(e:aT->aT):Prop:=∀{F:aT},bK va F->bK va (e F)
abbrev EP(e:aT->aT):Prop:=∀{F:aT} {f:Nat},bH F f->bH (e F) f
def kP{f:Nat}{lb:Bool}{γ β:Type}{a:Rl γ}{d:Td 0 β}{t:γ->af β}{F:aT}{g:Nat}(h:bH F g)(hm:∀b,(eN va f 0 (d.pat b)).R=[]:=by intro _;kernel_rfl):bH (eL va f lb a d t F) g:=jf h hm
def aO{F:aT}{n0 nt:Nat}{c:Code}{β:Type}{b:An}{n:β->af (af β)}(d:Td n0 β)(h:∀p,kO va F nt 300 c b (af β) (d.pat p) (kOn d.rd)=n p:=by intro _;kernel_rfl):FD va F n0 nt 300 (c,d.lp (bX n) b):=⟨d.ok _,DD h⟩
def kL{f:Nat}{lb:Bool}{fn:Func}{F G:aT}{an:An}{γ β:Type}{a:Rl γ}{d:Td 0 β}{t:γ->af β}{l:aa (Code×An)}
  (hf:va.funcs[f]? =M fn) (hF:bK va F) (h:∀p∈l,FD va F 0 fn.ntmps 300 p) (hG:bK va G)
  (hb:fn.body.isNone=O:=by kernel_rfl) (ho:Z1 (qJ fn) an=l:=by kernel_rfl)
  (h0:∀p,(match mZ va f (d.pat p)with
   |some ds=>M (Out.mk (iK ds) (sI (d.pat p).R 0 (iK ds)) (d.pat p).nx)
   |none=>J)=M (eN va f 0 (d.pat p)):=by intro _;kernel_rfl)
  (h1:∀g,(a.c g).all (jr (λi=>zB i 0) 4)=Z:=by intro _;kernel_rfl)
  (c:∀g,bY va F 300 an f (a.c g) [] 0 d.rd=t g:=by intro _;kernel_rfl)
  (h2:(fn.name=="runtime.NumGoroutine")=O:=by kernel_rfl)
  (h3:∀b,(eN va f 0 (d.pat b)).okB 0=Z:=by intro _;kernel_rfl) (h4:∀b,(eN va f 0 (d.pat b)).scB sB=Z:=by intro _;kernel_rfl):bK va (eL va f lb a d t G):=
 fI (sc:=sB) dQ (fo hF (bF hf (aY hb) ho h) (λp=>by have:=h0 p;revert this;cases mZ va f (d.pat p)<;>exact id) h1 c) ⟨_,hf,h2,hb⟩ h3 h4 hG
def kZ{f:Nat}{fn:Func}{F G:aT}{an:An}{γ β:Type}{a:Rl γ}{d:Td 0 β}{t:γ->af β}{l:aa (Code×An)}
  (hf:va.funcs[f]? =M fn) (hF:bK va F) (h:∀p∈l,FD va F 0 fn.ntmps 300 p) (hG:bK va G)
  (hb:fn.body.isNone=O:=by kernel_rfl) (ho:Z1 (qJ fn) an=l:=by kernel_rfl)
  (h0:∀p,(match mZ va f (d.pat p)with
   |some ds=>M (Out.mk (iK ds) (sI (d.pat p).R 0 (iK ds)) (d.pat p).nx)
   |none=>J)=M (eN va f 0 (d.pat p)):=by intro _;kernel_rfl)
  (h1:∀g,(a.c g).all (jr (λi=>zB i 0) 4)=Z:=by intro _;kernel_rfl)
  (c:∀g,bY va F 300 an f (a.c g) [] 0 d.rd=t g:=by intro _;kernel_rfl)
  (h2:(fn.name=="runtime.NumGoroutine")=O:=by kernel_rfl)
  (h3:∀b,(eN va f 0 (d.pat b)).okB 0=Z:=by intro _;kernel_rfl):bK va (eZ va f a d t G):=
 oI (fo hF (bF hf (aY hb) ho h) (λp=>by have:=h0 p;revert this;cases mZ va f (d.pat p)<;>exact id) h1 c) ⟨_,hf,h2,hb⟩ h3 hG
def kZf{f:Nat}{fn:Func}{F G:aT}{an:An}{γ β:Type}{a:Rl γ}{d:Td 0 β}{t:γ->af β}{l:aa (Code×An)}
  (hf:va.funcs[f]? =M fn) (hF:bK va F) (h:∀p∈l,FD va F 0 fn.ntmps 300 p) (hG:bK va G)
  (hb:fn.body.isNone=O:=by kernel_rfl) (ho:Z1 (qJ fn) an=l:=by kernel_rfl)
  (h0:∀p,(match mZ va f (d.pat p)with
   |some ds=>M (Out.mk (iK ds) (sI (d.pat p).R 0 (iK ds)) (d.pat p).nx)
   |none=>J)=M (eN va f 0 (d.pat p)):=by intro _;kernel_rfl)
  (h1:∀g,(a.c g).all (jr (λi=>zB i 0) 4)=Z:=by intro _;kernel_rfl)
  (c:∀g,bY va F 300 an f (a.c g) [] 0 d.rd=t g:=by intro _;kernel_rfl)
  (h2:(fn.name=="runtime.NumGoroutine")=O:=by kernel_rfl)
  (h3:∀b,(eN va f 0 (d.pat b)).okB 0=Z:=by intro _;kernel_rfl):bK va (eZf va f a d t G):=
 axx (fo hF (bF hf (aY hb) ho h) (λp=>by have:=h0 p;revert this;cases mZ va f (d.pat p)<;>exact id) h1 c) ⟨_,hf,h2,hb⟩ h3 hG
def kY{f n0:Nat}{fn:Func}{F G:aT}{an:An}{γ δ β:Type}{a:Rl γ}{s:Rs δ}{d:Td n0 β}{t:γ×δ->af β}{l:aa (Code×An)}
  (hf:va.funcs[f]? =M fn) (hF:bK va F) (h:∀p∈l,FD va F n0 fn.ntmps 300 p) (hG:bK va G)
  (hb:fn.body.isNone=O:=by kernel_rfl) (ho:Z1 (qJ fn) an=l:=by kernel_rfl)
  (h0:∀p,(match mZ va f (d.pat p)with
   |some ds=>M (Out.mk (iK ds) (sI (d.pat p).R n0 (iK ds)) (d.pat p).nx)
   |none=>J)=M (eN va f n0 (d.pat p)):=by intro _;kernel_rfl)
  (h1:∀g,(a.c g).all (jr (λi=>zB i n0) 4)=Z:=by intro _;kernel_rfl)
  (h1':∀g,(s.d g).all (λq=>zB q.1 n0&&match q.2 with
  | .box _ cs=>cs.all (jr (λi=>zB i n0) 4)
  | .row _ _=>Z
  | .mp _=>Z
  | .md _ _ _=>Z)=Z:=by intro _;kernel_rfl)
  (c:∀g,bY va F 300 an f (a.c g.1) (s.d g.2) n0 d.rd=t g:=by intro _;kernel_rfl)
  (h2:(fn.name=="runtime.NumGoroutine")=O:=by kernel_rfl)
  (h3:∀b,(eN va f n0 (d.pat b)).okB n0=Z:=by intro _;kernel_rfl):bK va (eY va f n0 a s d t G):=
 gi (gZ hF (bF hf (aY hb) ho h) (λp=>by have:=h0 p;revert this;cases mZ va f (d.pat p)<;>exact id) h1 (λg=>Eq.trans (by congr 1;funext q;obtain⟨i,r⟩:=q;cases r<;>rfl) (h1' g)) c) ⟨_,hf,h2,hb⟩ h3 hG
def iS{F:aT}{p:Nat->Bool}(h:bK va F):bK va (oK va F p 300 10):=⟨nD h.ok h.nat 300 10,kF h.nat 300 10⟩
abbrev iu(k:Nat):Td 0 Bool:= .c [] [k] (.r 0 0 (ec k qb en) sn (λz=>z.1.1) (λx=>((x,()),(()))) λ_=>rfl)
abbrev dW(k:Nat):Td 0 Int:= .c [] [k] (.r 0 0 (ec k aU en) sn (λz=>z.1.1) (λx=>((x,()),(()))) λ_=>rfl)
abbrev gY:=(dX ln)
abbrev Xq:=(lc (ql 108) (lc (ql 116) (lc (ql 111) (dX (dX (lc (ql 38) (lc (qo 1) ln)))))))
abbrev w2_:=(lc (qp 0 0) (lc (qp 1 0) (lc (qp 2 0) (lc (qp 3 0) (lc (qp 4 0) ln)))))
abbrev w8_:=(dX (lc qn (lc qn gY)))
abbrev w3_:=(dX (lc qn (lc qn (dX (lc qn w8_)))))
abbrev w4_:=(lc (qp 0 0) (lc (qp 1 0) (lc (qp 2 0) (lc (qp 3 0) (lc (qp 4 0) (lc (qp 5 0) ln))))))
abbrev uS:=(dX gY)
abbrev Nf:=(lc (qo 2) (lc (qo 3) (lc (qo 4) (lc qb ln))))
abbrev w6_:=(sb 0 296 (lc (qo 1) Nf) (sr 1 3 (sr 2 113 (sm 3 .k1 .i (sm 4 .k3 .i sn)))))
abbrev OX:=(dX uS)
abbrev w9_:=(sb 1 150 (lc (qo 2) (dX (lc (ql 3) (lc (ql 113) (dX (lc (qo 3) (dX (lc (ql 3) (lc (ql 113) gY))))))))) (sr 2 80 (sr 3 80 sn)))
abbrev Lg:=(lc (qg 80) (lc (qg 80) ln))
abbrev aaH:=(lc (qp 0 0) (lc (qp 1 0) (lc (qp 2 0) (lc (qp 3 0) ln))))
abbrev awV:=(sb 6 296 (lc (qo 7) (lc (qo 8) (lc (qo 9) (lc (qo 10) (lc qb ln))))) (sr 7 3 (sr 8 113 (sm 9 .k1 .i (sm 10 .k3 .i sn)))))
abbrev HD:=(sb 0 138 Xq (sr 1 80 sn))
abbrev MM:=(lc (qf 263 w2_) ln)
abbrev aD6:=(sb 4 226 MM (sm 5 .k3 .i (sb 6 296 (lc (qo 13) (lc (qo 14) (lc (qo 11) (lc (qo 12) (lc qb ln))))) (sb 7 3 gY (sb 8 3 gY (sm 11 .k1 .i (sm 12 .k3 .i (sr 13 3 (sr 14 113 sn)))))))))
abbrev asa:=(lc (qo 9) (lc (qo 10) (lc (qo 11) (lc (qo 12) (lc qb ln)))))
abbrev azE:=(sb 4 226 MM (sm 5 .k3 .i (sb 6 296 asa (sb 7 3 gY (sb 8 3 gY (sr 9 3 (sr 10 113 (sm 11 .k1 .i (sm 12 .k3 .i sn)))))))))
abbrev aBw:=(lc (ql 108) (lc (ql 116) (lc (ql 111) (dX (dX (lc (ql 38) (lc (qo 4) ln)))))))
abbrev aCB:=(sb 4 150 (lc qn w3_) (sb 5 150 (lc (qo 6) (dX (lc (ql 3) (lc (ql 113) (dX (lc (qo 7) (dX (lc (ql 3) (lc (ql 113) gY))))))))) (sr 6 80 (sr 7 80 sn))))
abbrev aea:=(dX (lc (ql 3) (lc qn gY)))
abbrev Ec:=(lc (qp 7 0) ln)
abbrev uT:=(lc (qp 6 0) ln)
abbrev ay1:=(sb 4 226 MM (sm 5 .k3 .i (sb 6 296 (lc (qo 11) (lc (qo 12) (lc (qo 9) (lc (qo 10) (lc qb ln))))) (sm 9 .k1 .i (sm 10 .k3 .i (sr 11 3 (sr 12 113 sn)))))))
abbrev AN:=(lc (qp 0 0) ln)
abbrev aGt:=(sb 0 293 (lc (qo 4) ln) (sb 1 40 (lc (ql 113) ln) (sb 2 241 (lc (qf 245 aaH) ln) (sb 3 42 (dX (lc (qo 5) gY)) (sm 4 .k1 .i (sr 5 113 sn))))))
abbrev Fc:=(lc (qk 80 1) ln)
abbrev Yy:=(sb 0 3 gY (sb 1 3 gY sn))
abbrev OW:=(lc (qf 239 w4_) ln)
abbrev akZ:=(lc (ql 108) (lc (qg 106) (lc qb ln)))
abbrev Lt:=(lc (qg 106) ln)
abbrev ajz:=(lc (qo 10) (lc (qo 11) (lc qb ln)))
abbrev OA:=(lc (qp 8 0) ln)
abbrev amM:=(lc (qp 0 0) (dX Lg))
abbrev aEr:=(sb 1 150 (lc qn w3_) (sb 2 138 aBw (sb 3 150 (lc (qo 5) w3_) (sr 4 80 (sr 5 80 sn)))))
abbrev ah9:=(lc (qp 0 0) (lc (qp 1 0) ln))
abbrev aiv:=(lc (qp 0 0) (lc (qg 80) ln))
abbrev aD8:=(lc (ql 80) (dX (lc (ql 3) (lc qn (dX (lc (ql 80) aea))))))
abbrev ZX:=(lc (qa OX) w2_)
abbrev an0:=(dX (lc qn gY))
abbrev ahR:=(lc (qf 249 ln) ln)
abbrev aff:=(lc (ql 108) gY)
abbrev al0:=(lc (qf 183 Ec) ln)
abbrev ab5:=(lc (ql 111) ln)
abbrev agx:=(lc (qg 80) gY)
abbrev aiL:=(lc (qf 274 w2_) ln)
abbrev aEu:=(sm 10 .k1 .i (sm 11 .k3 .i (sr 12 3 (sr 13 113 sn))))
abbrev avr:=(lc (qg 26) (lc (qg 53) ln))
abbrev aFO:=(sr 8 3 (sr 9 113 (sm 10 .k1 .i (sm 11 .k3 .i sn))))
def cA(n:Nat)(a:An):An:=Nat.rec a (λ_ b=> .two .no b) n
abbrev fW{α:Type}(s:α):af (af α):=M (M s)
abbrev dy{α:Type}:af (af α):=M J
def aug:aT:=dz
abbrev aur:=Bool
def d188:Td 0 aur:=iu 2
def aBq:=gY
def apI:An:=(noTwo (.two (.rb [] 2) .no))
def aGe:∀f∈([]:aa Nat),bH (aug) f:=az
def kH(a0:Int):aur:=
 let r1:Bool:=bif w9 (-1099511627776<=a0)then w9 (a0<=1099511627776)else O;r1
def aKl(a0:Int):bY va (aug) 300 (apI) 188 (aBq.c (a0,())) [] 0 d188.rd=M (kH a0):=by
 refine Eq.trans (b:=(
  match bif w9 (-1099511627776<=a0)then M (w9 (a0<=1099511627776))else M (O)with|J=>J|M r1=>M (r1):af aur)) aL ?_
 simp only[kH,b6,cw]
def aaf:=eL va 188 O aBq d188 (λg=>M (kH g.1))
def vZ:EO aaf:=λh=>kL (F:=aug) (an:=apI) (l:=[(.skip,(.rb [] 2))]) func188 aP (aA aGe az) h (c:=λg=>aKl g.1)
def kC:EP aaf:=λh=>kP h
abbrev aDa:=Int×(aa Int)×(aa bu)×ga×cR×Bool
def d158:Td 5 aDa:= .c [1] [4] (.r 5 6 (ec 4 aU en) (sb 0 296 (lc (qo 5) Nf) (sr 2 113 (sm 3 .k1 .i (sm 4 .k3 .i (sr 5 3 sn))))) (λz=>(z.1.1,z.q.2.1,z.t.1,z.t.2.1,z.q.1,z.2.1.q.1)) (λx=>((x.1,()),(((),(),(),(),x.q.2,()),x.t.1,x.t.2.1,x.q.1,x.2.1,()))))
def aLk:=w6_
def vp(a1:Int)(bt:aa Int)(eC:aa bu)(jv:ga)(jx:cR)(jW:Bool):af aDa:=
 bif bif(ei jv a1).isSome then O else Z then if(bt++[a1]).length<=1073741824 then bif jW then M ((ak (2*(zZ bt:Int)),bt++[a1],eC,gB jv a1 (zZ bt),jx,Z))else M ((ak (2*(zZ bt:Int)),bt++[a1],eC,gB jv a1 (zZ bt),jx,bif kH a1 then O else Z))else J else M ((ak (2*(ei jv a1).getD 0),bt,eC,jv,jx,jW))
def SM:aT->aT:=eY va 158 5 (lc (qp 0 0) gY) aLk d158 (λg=>vp g.1.2.1 g.t.1 g.t.2.1 g.q.1 g.q.2.1 g.2.1.q.1)
def lU:EO SM:=λh=>kY (an:= .no) func158 (vZ aP) az h
abbrev aGg:=Int×(aa Int)×(aa bu)×ga×cR×Bool
def d159:Td 5 aGg:= .c [2] [8] (.r 5 6 (ec 8 aU en) (sb 0 296 (lc (qo 1) (lc (qo 5) (lc (qo 3) (lc (qo 4) (lc qb ln))))) (sr 1 3 (sm 3 .k1 .i (sm 4 .k3 .i (sr 5 113 sn))))) (λz=>(z.1.1,z.t.1,z.q.2.1,z.t.2.1,z.q.1,z.2.1.q.1)) (λx=>((x.1,()),(((),(),(),(),x.q.2,()),x.2.1,x.t.2.1,x.q.1,x.t.1,()))))
def aJ8:=w6_
def He(a1:Int)(a2:Int)(a3:Int)(bt:aa Int)(eC:aa bu)(jv:ga)(jx:cR)(jW:Bool):af aGg:=
 bif w9 (a2=a3)then M (a2,bt,eC,jv,jx,jW)else bif bif(ei jx (a1,a2,a3)).isSome then O else Z then if(eC++[bu.mk a1 a2 a3]).length<=1073741824 then M ((ak (ak (2*(zZ eC:Int))+1),bt,eC++[bu.mk a1 a2 a3],jv,gB jx (a1,a2,a3) (zZ eC:Int),jW))else J else M ((ak (ak (2*(ei jx (a1,a2,a3)).getD 0)+1),bt,eC,jv,jx,jW))
def Th:aT->aT:=eY va 159 5 (lc (qp 0 0) OX) aJ8 d159 (λg=>He g.1.2.1 g.1.t.1 g.1.t.2.1 g.t.1 g.t.2.1 g.q.1 g.q.2.1 g.2.1.q.1)
def oB:EO Th:=λh=>kY (an:= .no) func159 aP az h
abbrev axW:=(aa (Int×Bool))×(aa Int)×(aa Int)×(aa Int)×(aa bu)×ga×cR×Bool
def d274:Td 13 axW:= .c [6,8] [] (.r 13 15 en (sb 0 347 (lc (qo 5) ln) (sb 1 46 (lc (qo 13) ln) (sb 2 239 Ec (sb 3 348 aiL (sb 4 46 (lc (qo 14) ln) (sm 5 .k1 .b (sb 7 296 asa (sr 9 3 (sr 10 113 (sm 11 .k1 .i (sm 12 .k3 .i (sr 13 3 (sr 14 3 sn))))))))))))) (λz=>(z.q.t.1,z.q.q.q.1,z.q.q.q.2.1,z.q.q.1,z.q.q.2.1,z.q.q.t.1,z.q.q.t.2.1,z.q.t.2.1.q.1)) (λx=>((()),(((),()),((),()),((),()),(((),(),(),(),(),()),()),((),()),x.1,((),(),(),(),x.q.t.2,()),x.t.2.1,x.q.1,x.q.2.1,x.q.t.1,x.2.1,x.t.1,()))))
def aE2:=(dX w2_)
def azx:=(sb 0 347 (lc (qo 5) ln) (sb 1 46 (lc (qo 6) ln) (sb 2 239 Ec (sb 3 348 aiL (sb 4 46 (lc (qo 8) ln) (sm 5 .k1 .b (sr 6 3 (sb 7 296 asa (sr 8 3 (sr 9 3 (sr 10 113 (sm 11 .k1 .i (sm 12 .k3 .i sn)))))))))))))
abbrev Hw:Type:=Int->(aa (Int×Bool))->(aa Int)->(aa Int)->(aa Int)->(aa bu)->ga->cR->Bool->af axW
def ayc(zf:Hw):aT->aT:=eY va 274 13 aE2 azx d274 (λg=>zf g.1.1 g.2.2.2.2.2.2.1 g.2.2.2.2.2.2.2.1 g.2.2.2.2.2.2.2.2.2.1 g.2.2.2.2.2.2.2.2.2.2.1 g.2.2.2.2.2.2.2.2.2.2.2.1 g.2.2.2.2.2.2.2.2.2.2.2.2.1 g.2.2.2.2.2.2.2.2.2.2.2.2.2.1 g.2.2.2.2.2.2.2.2.1.2.2.2.2.1)
def aiM(zf:Hw):Prop:=HY va 274 13 aE2 azx d274 (λg=>zf g.1.1 g.2.2.2.2.2.2.1 g.2.2.2.2.2.2.2.1 g.2.2.2.2.2.2.2.2.2.1 g.2.2.2.2.2.2.2.2.2.2.1 g.2.2.2.2.2.2.2.2.2.2.2.1 g.2.2.2.2.2.2.2.2.2.2.2.2.1 g.2.2.2.2.2.2.2.2.2.2.2.2.2.1 g.2.2.2.2.2.2.2.2.1.2.2.2.2.1)
def VP{zf:Hw}(hM:aiM zf):EO (ayc zf):=gi hM ⟨_,func274,aL,aL⟩ (λ_=>aL)
def aAB(M274:Hw):aT:=(ayc M274 dz)
def amC{M274}(h274:aiM M274):bK va (aAB M274):=(VP h274 aP)
def aB6(M274:Hw):An:= .no
def aGm(M274:Hw):dB va (aAB M274) 13 300 274 (aB6 M274):=bF (l:=[]) func274 (aY aL) aL az
def Q9(M274:Hw)(a0:Int)(bt:aa (Int×Bool))(b1_0:aa Int)(b4_0:aa Int)(b7_0:aa Int)(b7_1:aa bu)(b7_2:ga)(b7_3:cR)(b7_4:Bool):af axW:=
 bif(ei bt a0).getD O then M (bt,b1_0,b4_0,b7_0,b7_1,b7_2,b7_3,b7_4)else bif w9 (a0.tmod 2=0)then if(b1_0++[ak (a0.tdiv ((2:Int)))]).length<=1073741824 then M ((gB bt a0 Z,b1_0++[ak (a0.tdiv 2)],b4_0,b7_0,b7_1,b7_2,b7_3,b7_4))else J else if 0<=ak (a0.tdiv ((2:Int)))/\ak (a0.tdiv ((2:Int)))<zZ b7_1 then if 113=113/\(ak (a0.tdiv ((2:Int)))).toNat<zZ b7_1 then match M274 b7_1[(ak (a0.tdiv 2)).toNat]!.aC (gB bt a0 Z) b1_0 b4_0 b7_0 b7_1 b7_2 b7_3 b7_4 with|J=>J|M r1=>match M274 b7_1[(ak (a0.tdiv 2)).toNat]!.au r1.fst r1.snd.fst r1.snd.snd.fst r1.snd.snd.snd.fst r1.snd.snd.snd.snd.fst r1.snd.snd.snd.snd.snd.fst r1.snd.snd.snd.snd.snd.snd.fst r1.snd.snd.snd.snd.snd.snd.snd with|J=>J|M r2=>if(r2.snd.snd.fst++[ak (a0.tdiv ((2:Int)))]).length<=1073741824 then M ((r2.fst,r2.snd.fst,r2.snd.snd.fst++[ak (a0.tdiv 2)],r2.snd.snd.snd))else J else J else J
def Gf:Nat->Hw
 |0=>(λ_ _ _ _ _ _ _ _ _=>J)
 |n+1=>(Q9 (Gf n))
def avA(n:Nat):Hw:=(Gf n)
def Pp:∀n,aiM (avA n)
 |0=>λ_ _ h=>(by cases h)
 |n+1=>gZ (amC (Pp n)) (aGm (avA n)) (λ_=>aL) (λ_=>aL) (λ_=>aL) λ_=>aL
def anr:Hw:=λa0 bt b1_0 b4_0 b7_0 b7_1 b7_2 b7_3 b7_4=>lim (λn=>avA n a0 bt b1_0 b4_0 b7_0 b7_1 b7_2 b7_3 b7_4)
def ak0:aiM anr:=λg b h=>(bW h).elim λn=>Pp n g b
def aEz(F:aT):aT:=ayc anr F
def VZ:EO aEz:=VP ak0
abbrev abF:=(aa (Int×Bool))×(aa Int)×(aa Int)×(aa Int)×(aa bu)×ga×cR×Bool
def ao7:Td 11 abF:= .c [] [] (.t (bT.c 1 0 [] 3) (.t (bT.c 4 0 [] 3) (.c [] [] (.r 11 13 en (sb 0 347 (lc (qo 5) ln) (sb 1 46 (lc (qo 11) ln) (sb 2 239 uT (sb 3 348 aiL (sb 4 46 (lc (qo 12) ln) (sm 5 .k1 .b (sb 6 296 (lc (qo 7) (lc (qo 8) (lc (qo 9) (lc (qo 10) (lc qb ln))))) (sr 7 3 (sr 8 113 (sm 9 .k1 .i (sm 10 .k3 .i (sr 11 3 (sr 12 3 sn))))))))))))) (λz=>(z.q.t.1,z.q.q.q.1,z.q.q.q.2.1,z.q.q.1,z.q.q.2.1,z.q.q.t.1,z.q.q.t.2.1,z.q.t.2.1.q.1)) (λx=>((()),(((),()),((),()),((),()),(((),(),(),(),(),()),()),((),()),x.1,((),(),(),(),x.q.t.2,()),x.t.2.1,x.q.1,x.q.2.1,x.q.t.1,x.2.1,x.t.1,())))))))
def api:=(dX w2_)
def arJ:=(sb 0 347 (lc (qo 5) ln) (sb 1 46 (lc qn ln) (sb 2 239 uT (sb 3 348 aiL (sb 4 46 (lc qn ln) (sm 5 .k1 .b awV))))))
abbrev sx:Type:=Int->(aa (Int×Bool))->(aa Int)->(aa bu)->ga->cR->Bool->af abF
def acI(zf:sx):aT->aT:=eY va 274 11 api arJ ao7 (λg=>zf g.1.1 g.2.2.2.2.2.2.1 g.2.2.2.2.2.2.2.2.1 g.2.2.2.2.2.2.2.2.2.1 g.2.2.2.2.2.2.2.2.2.2.1 g.2.2.2.2.2.2.2.2.2.2.2.1 g.2.2.2.2.2.2.2.1.2.2.2.2.1)
def Xf(zf:sx):Prop:=HY va 274 11 api arJ ao7 (λg=>zf g.1.1 g.2.2.2.2.2.2.1 g.2.2.2.2.2.2.2.2.1 g.2.2.2.2.2.2.2.2.2.1 g.2.2.2.2.2.2.2.2.2.2.1 g.2.2.2.2.2.2.2.2.2.2.2.1 g.2.2.2.2.2.2.2.1.2.2.2.2.1)
def PV{zf:sx}(hM:Xf zf):EO (acI zf):=gi hM ⟨_,func274,aL,aL⟩ (λ_=>aL)
def apV(M274n:sx):aT:=(acI M274n (aEz dz))
def agi{M274n}(h274n:Xf M274n):bK va (apV M274n):=(PV h274n (VZ aP))
def avM(M274n:sx):An:= .no
def axU(M274n:sx):dB va (apV M274n) 11 300 274 (avM M274n):=bF (l:=[]) func274 (aY aL) aL az
def Oo(M274n:sx)(a0:Int)(bt:aa (Int×Bool))(b6_0:aa Int)(b6_1:aa bu)(b6_2:ga)(b6_3:cR)(b6_4:Bool):af abF:=
 bif(ei bt a0).getD O then M (bt,[],[],b6_0,b6_1,b6_2,b6_3,b6_4)else bif w9 (a0.tmod 2=0)then M ((gB bt a0 Z,[ak (a0.tdiv 2)],[],b6_0,b6_1,b6_2,b6_3,b6_4))else if 0<=ak (a0.tdiv ((2:Int)))/\ak (a0.tdiv ((2:Int)))<zZ b6_1 then if 113=113/\(ak (a0.tdiv ((2:Int)))).toNat<zZ b6_1 then match M274n b6_1[(ak (a0.tdiv 2)).toNat]!.aC (gB bt a0 Z) b6_0 b6_1 b6_2 b6_3 b6_4 with|J=>J|M r1=>match anr b6_1[(ak (a0.tdiv 2)).toNat]!.au r1.fst r1.snd.fst r1.snd.snd.fst r1.snd.snd.snd.fst r1.snd.snd.snd.snd.fst r1.snd.snd.snd.snd.snd.fst r1.snd.snd.snd.snd.snd.snd.fst r1.snd.snd.snd.snd.snd.snd.snd with|J=>J|M r2=>if(r2.snd.snd.fst++[ak (a0.tdiv ((2:Int)))]).length<=1073741824 then M ((r2.fst,r2.snd.fst,r2.snd.snd.fst++[ak (a0.tdiv 2)],r2.snd.snd.snd))else J else J else J
def D9:Nat->sx
 |0=>(λ_ _ _ _ _ _ _=>J)
 |n+1=>(Oo (D9 n))
def agL(n:Nat):sx:=(D9 n)
def IX:∀n,Xf (agL n)
 |0=>λ_ _ h=>(by cases h)
 |n+1=>gZ (agi (IX n)) (axU (agL n)) (λ_=>aL) (λ_=>aL) (λ_=>aL) λ_=>aL
def Xv:sx:=λa0 bt b6_0 b6_1 b6_2 b6_3 b6_4=>lim (λn=>agL n a0 bt b6_0 b6_1 b6_2 b6_3 b6_4)
def acY:Xf Xv:=λg b h=>(bW h).elim λn=>IX n g b
def aDR(F:aT):aT:=acI Xv F
def ag6:EO aDR:=PV acY
abbrev azL:=Int
def d294:Td 0 azL:=dW 2
def atb(a0_0:Int)(a0_1:Int)(a0_2:Int):azL:=
 a0_0
def ajZ:=eL va 294 O (lc (qa OX) ln) d294 (λg=>M (atb g.1.1 g.1.2.1 g.1.t.1))
def Kb:EO ajZ:=λh=>kL (an:= .no) func294 aP az h
def BC:EP ajZ:=λh=>kP h
abbrev aDx:=Int
def d211:Td 0 aDx:=dW 4
def jL(a0:aq)(a1:Int):af aDx:=
 bif w9 (a1<zZ a0.aG)then M (a0.ah)else if 0<=ak (a1-a0.aG.length)/\ak (a1-a0.aG.length)<zZ a0.aD then M (a0.aD[(ak (a1-a0.aG.length)).toNat]!.bq)else J
def Jo:=eL va 211 O agx d211 (λg=>jL g.1 g.2.1)
def lP:EO Jo:=λh=>kL (an:= .no) func211 aP az h
def Bq:EP Jo:=λh=>kP h
abbrev aEa:=Int
def d212:Td 0 aEa:=dW 8
def lJ(a0:aq)(a1:Int)(a2:Int)(a3:Bool):af aEa:=
 match jL a0 a1 with|J=>J|M r1=>bif bif w9 (r1=a2)then O else Z then M (a1)else if 0<=ak (a1-a0.aG.length)/\ak (a1-a0.aG.length)<zZ a0.aD then bif a3 then M (a0.aD[(ak (a1-a0.aG.length)).toNat]!.au)else M (a0.aD[(ak (a1-a0.aG.length)).toNat]!.aC)else J
def Sl:=eL va 212 O (lc (qg 80) (dX (dX (lc qb ln)))) d212 (λg=>lJ g.1 g.2.1 g.t.1 g.t.2.1)
def rH:EO Sl:=λh=>kL (an:= .no) func212 (lP aP) az h
abbrev afI:=Int×cR×aq×(aa Int)×(aa bu)×ga×cR×Bool
def apL:Td 11 afI:= .c [7,8] [7] (.r 11 13 (ec 7 aU en) (sb 0 327 (lc (qo 5) ln) (sb 1 136 Fc (sb 2 239 uT (sb 3 226 (lc (qf 294 ln) ln) ay1)))) (λz=>(z.1.1,z.q.t.1,z.t.1.1.1,z.q.q.t.1,z.q.q.t.2.1,z.q.q.1,z.q.q.2.1,z.q.t.2.1.q.1)) (λx=>((x.1,()),(((),()),((x.t.1,()),()),((),()),((()),()),(((),(),(),(),(),()),()),x.2.1,((),(),(),(),x.q.t.2,()),x.q.2.1,x.q.t.1,x.t.2.1,x.q.1,()))))
def apq:=ZX
def ara:=(sb 0 327 (lc (qo 5) ln) (sb 1 136 Fc (sb 2 239 uT (sb 3 226 (lc (qf 294 ln) ln) (sb 4 226 MM (sm 5 .k3 .i awV))))))
abbrev rV:Type:=Int->Int->Int->cR->aq->(aa Int)->(aa bu)->ga->cR->Bool->af afI
def aaU(zf:rV):aT->aT:=eY va 263 11 apq ara apL (λg=>zf g.1.1.1 g.1.1.2.1 g.1.1.2.2.1 g.2.2.2.2.2.2.1 g.2.2.1.1.1 g.2.2.2.2.2.2.2.2.1 g.2.2.2.2.2.2.2.2.2.1 g.2.2.2.2.2.2.2.2.2.2.1 g.2.2.2.2.2.2.2.2.2.2.2.1 g.2.2.2.2.2.2.2.1.2.2.2.2.1)
def XI(zf:rV):Prop:=HY va 263 11 apq ara apL (λg=>zf g.1.1.1 g.1.1.2.1 g.1.1.2.2.1 g.2.2.2.2.2.2.1 g.2.2.1.1.1 g.2.2.2.2.2.2.2.2.1 g.2.2.2.2.2.2.2.2.2.1 g.2.2.2.2.2.2.2.2.2.2.1 g.2.2.2.2.2.2.2.2.2.2.2.1 g.2.2.2.2.2.2.2.1.2.2.2.2.1)
def Po{zf:rV}(hM:XI zf):EO (aaU zf):=gi hM ⟨_,func263,aL,aL⟩ (λ_=>aL)
def aru(M263a:rV):aT:=(ajZ (aaU M263a (Sl (Jo (Th (SM dz))))))
def aeX{M263a}(h263a:XI M263a):bK va (aru M263a):=(Kb (Po h263a (rH (lP (oB (lU aP))))))
def as3(M263a:rV):An:= .no
def axo(M263a:rV):dB va (aru M263a) 11 300 263 (as3 M263a):=bF (l:=[]) func263 (aY aL) aL az
def Fk(M263a:rV)(a0_0:Int)(a0_1:Int)(a0_2:Int)(bt:cR)(b1_0_0:aq)(b6_0:aa Int)(b6_1:aa bu)(b6_2:ga)(b6_3:cR)(b6_4:Bool):af afI:=
 bif(ei bt (a0_0,a0_1,a0_2)).isSome then M (((ei bt (a0_0,a0_1,a0_2)).getD 0,bt,b1_0_0,b6_0,b6_1,b6_2,b6_3,b6_4))else match jL b1_0_0 a0_0 with|J=>J|M r1=>bif w9 ((eW r1 b1_0_0.ah)=b1_0_0.ah)then if 0<=a0_0/\a0_0<zZ b1_0_0.aG then match vp (atb b1_0_0.aG[a0_0.toNat]! (0) 0) b6_0 b6_1 b6_2 b6_3 b6_4 with|J=>J|M r2=>M ((r2.fst,gB bt (a0_0,a0_1,a0_2) r2.fst,b1_0_0,r2.snd))else J else match lJ b1_0_0 a0_0 (eW r1 b1_0_0.ah) O with|J=>J|M r3=>match lJ b1_0_0 a0_0 (eW r1 b1_0_0.ah) Z with|J=>J|M r4=>match M263a r3 0 0 bt b1_0_0 b6_0 b6_1 b6_2 b6_3 b6_4 with|J=>J|M r5=>match M263a r4 0 0 r5.snd.fst r5.snd.snd.fst r5.snd.snd.snd.fst r5.snd.snd.snd.snd.fst r5.snd.snd.snd.snd.snd.fst r5.snd.snd.snd.snd.snd.snd.fst r5.snd.snd.snd.snd.snd.snd.snd with|J=>J|M r6=>match He (eW r1 b1_0_0.ah) r5.fst r6.fst r6.snd.snd.snd.fst r6.snd.snd.snd.snd.fst r6.snd.snd.snd.snd.snd.fst r6.snd.snd.snd.snd.snd.snd.fst r6.snd.snd.snd.snd.snd.snd.snd with|J=>J|M r7=>M ((r7.fst,gB r6.snd.fst (a0_0,a0_1,a0_2) r7.fst,r6.snd.snd.fst,r7.snd))
def tj:Nat->rV
 |0=>(λ_ _ _ _ _ _ _ _ _ _=>J)
 |n+1=>(Fk (tj n))
def acL(n:Nat):rV:=(tj n)
def IV:∀n,XI (acL n)
 |0=>λ_ _ h=>(by cases h)
 |n+1=>gZ (aeX (IV n)) (axo (acL n)) (λ_=>aL) (λ_=>aL) (λ_=>aL) λ_=>aL
def Vx:rV:=λa0_0 a0_1 a0_2 bt b1_0_0 b6_0 b6_1 b6_2 b6_3 b6_4=>lim (λn=>acL n a0_0 a0_1 a0_2 bt b1_0_0 b6_0 b6_1 b6_2 b6_3 b6_4)
def agU:XI Vx:=λg b h=>(bW h).elim λn=>IV n g b
def HO(F:aT):aT:=aaU Vx F
def gW:EO HO:=Po agU
def aJX:aT:=dz
abbrev avV:=Int
def d242:Td 0 avV:=dW 2
def azl:=(lc qb ln)
def apA:An:= .no
def Mu(a0:Bool):avV:=
 bif a0 then 1 else 0
def aJk(a0:Bool):bY va (aJX) 300 (apA) 242 (azl.c (a0,())) [] 0 d242.rd=M (Mu a0):=by
 refine Eq.trans (b:=(
  bif a0 then M (1)else M (0):af avV)) aL ?_
 simp only[Mu,b6,cw]
def aLe:=eL va 242 O azl d242 (λg=>M (Mu g.1))
def DB:EO aLe:=λh=>kL (an:=apA) func242 aP az h (c:=λg=>aJk g.1)
abbrev aD7:=Int
def d280:Td 0 aD7:=dW 4
def abn(a0:Int)(a1:Int):aD7:=
 ak (a0+a1)
def ato:=eL va 280 O uS d280 (λg=>M (abn g.1 g.2.1))
def UI:EO ato:=λh=>kL (an:= .no) func280 aP az h
abbrev azz:=Int
def d281:Td 0 azz:=dW 4
def abI(a0:Int)(a1:Int):azz:=
 ak (a0-a1)
def avX:=eL va 281 O uS d281 (λg=>M (abI g.1 g.2.1))
def X8:EO avX:=λh=>kL (an:= .no) func281 aP az h
def azR:aT:=dz
abbrev aCA:=Int
def d282:Td 0 aCA:=dW 4
def aFC:∀f∈([]:aa Nat),bH (azR) f:=az
def Yr(a0:Int)(a1:Int):af aCA:=
 match bif bif w9 (a0=0)then O else Z then if¬(if a0<ak ((0:Int)-a0)then ak ((0:Int)-a0)else a0)=0then M (w9 (ak ((1099511627776:Int).tdiv (if a0<ak (0-a0)then ak (0-a0)else a0))<if a1<ak (0-a1)then ak (0-a1)else a1))else J else M O with|J=>J|M r1=>bif r1 then M 1099511627777 else M (ak (a0*a1))
def aup:=eL va 282 O uS d282 (λg=>Yr g.1 g.2.1)
def Vg:EO aup:=λh=>kL (F:=azR) (an:=(noTwo (.two (.two (.rb [] 18) .no) .no))) (l:=[(.skip,(.rb [] 18))]) func282 aP (aA aFC az) h
def aCb:aT:=dz
abbrev aCg:=Int
def d283:Td 0 aCg:=dW 4
def aDt:∀f∈([]:aa Nat),bH (aCb) f:=az
def acE(a0:Int)(a1:Int):af aCg:=
 bif w9 (a1=0)then M 0 else if¬a1=0then match if¬a1=0then bif bif w9 (a0.tmod a1=0)then O else Z then M (bif w9 (a0<0)==w9 (a1<0)then O else Z)else M O else J with|J=>J|M r1=>bif r1 then M (ak (ak (a0.tdiv a1)-1))else M (ak (a0.tdiv a1))else J
def asR:=eL va 283 O uS d283 (λg=>acE g.1 g.2.1)
def LC:EO asR:=λh=>kL (F:=aCb) (an:=(cA 3 (.two (.two (.rb [] 21) .no) .no))) (l:=[(.skip,(.rb [] 21))]) func283 aP (aA aDt az) h
abbrev aBN:=Int
def d284:Td 0 aBN:=dW 4
def TU(a0:Int)(a1:Int):af aBN:=
 match acE a0 a1 with|J=>J|M r1=>M (ak (Mu (bif w9 (a1=0)then O else Z)*ak (a0-ak (a1*r1))))
def axM:=eL va 284 O uS d284 (λg=>TU g.1 g.2.1)
def VW:EO axM:=λh=>kL (an:= .no) func284 (LC (DB aP)) az h
def aKD:aT:=dz
abbrev ase:=Int
def d285:Td 0 ase:=dW 4
def ayR:=uS
def aq0:An:= .no
def abd(a0:Int)(a1:Int):ase:=
 if a1<a0 then a1 else a0
def aI1(a0:Int)(a1:Int):bY va (aKD) 300 (aq0) 285 (ayR.c (a0,a1,())) [] 0 d285.rd=M (abd a0 a1):=by
 refine Eq.trans (b:=(
  M (if a1<a0 then a1 else a0):af ase)) aL ?_
 simp only[abd,b6,cw]
def asZ:=eL va 285 O ayR d285 (λg=>M (abd g.1 g.2.1))
def Vk:EO asZ:=λh=>kL (an:=aq0) func285 aP az h (c:=λg=>aI1 g.1 g.2.1)
def aIO:aT:=dz
abbrev avj:=Int
def d286:Td 0 avj:=dW 4
def aF9:=uS
def aox:An:= .no
def acj(a0:Int)(a1:Int):avj:=
 if a0<a1 then a1 else a0
def aHC(a0:Int)(a1:Int):bY va (aIO) 300 (aox) 286 (aF9.c (a0,a1,())) [] 0 d286.rd=M (acj a0 a1):=by
 refine Eq.trans (b:=(
  M (if a0<a1 then a1 else a0):af avj)) aL ?_
 simp only[acj,b6,cw]
def axd:=eL va 286 O aF9 d286 (λg=>M (acj g.1 g.2.1))
def Wh:EO axd:=λh=>kL (an:=aox) func286 aP az h (c:=λg=>aHC g.1 g.2.1)
abbrev aDi:=Int
def d287:Td 0 aDi:=dW 4
def adE(a0:Int)(a1:Int):aDi:=
 Mu (w9 (a0<a1))
def ar4:=eL va 287 O uS d287 (λg=>M (adE g.1 g.2.1))
def X7:EO ar4:=λh=>kL (an:= .no) func287 (DB aP) az h
abbrev aB7:=Int
def d288:Td 0 aB7:=dW 4
def av1(a0:Int)(a1:Int):aB7:=
 Mu (w9 (a0=a1))
def axT:=eL va 288 O uS d288 (λg=>M (av1 g.1 g.2.1))
def Ul:EO axT:=λh=>kL (an:= .no) func288 (DB aP) az h
def az8:aT:=(axT (ar4 (axd (asZ (axM (asR (aup (avX (ato dz)))))))))
abbrev aB1:=aa Nat
def d237:Td 0 aB1:= .c [] [0] (.r 0 1 (ec 0 (qo 0) en) (sr 0 175 sn) (λz=>z.2.1) (λx=>(((),()),(x,()))))
def aGx:=ln
def aoE:An:= .no
def Mm:aB1:=
 [280,281,282,283,284,285,286,287,288]
def aKs:bY va (az8) 300 (aoE) 237 (aGx.c ()) [] 0 d237.rd=M (Mm):=aL
def aEF:aT->aT:=eZ va 237 aGx d237 (λ_=>M (Mm))
def alr:EO aEF:=λh=>kZ (F:=az8) (an:=aoE) func237 (Ul (X7 (Wh (Vk (VW (LC (Vg (X8 (UI aP))))))))) az h (c:=λ_=>aKs)
abbrev aGy:=Int×Nat
def d238:Td 1 aGy:= .c [] [3] (.r 1 1 (ec 3 aU en) (sb 0 175 (lg 175) sn) (λz=>(z.1.1,z.2.1)) (λx=>((x.1,()),(x.2,()))))
def BM:=(lc (qa OX) AN)
def Br:=(sb 0 175 (lg 175) sn)
def CQ:aT:=ato (avX (aup (asR (axM (asZ (axd (ar4 (axT dz))))))))
def amg:bK va CQ:=UI (X8 (Vg (LC (VW (Vk (Wh (X7 (Ul aP))))))))
def aEs:dB va CQ 1 300 238 .no:=bF (l:=[]) func238 (aY aL) aL az
def jT(k:Nat)(x y:Int):af Int:=if k=280 then M (abn x y)else if k=281 then M (abI x y)else if k=282 then Yr x y else if k=283 then acE x y else if k=284 then TU x y else if k=285 then M (abd x y)else if k=286 then M (acj x y)else if k=287 then M (adE x y)else if k=288 then M (av1 x y)else J
def ac9(a0_0 a0_1 a0_2:Int)(b0:Nat):af aGy:=(jT b0 a0_0 a0_1).map λr=>(r,b0)
def ahm(g:(Int×Int×Int×Unit)×Unit×Unit):bY va CQ 300 .no 238 (BM.c g) (Br.d ((280:Nat),())) 1 d238.rd=M (abn g.1.1 g.1.2.1,280):=aL
def abe(g:(Int×Int×Int×Unit)×Unit×Unit):bY va CQ 300 .no 238 (BM.c g) (Br.d ((281:Nat),())) 1 d238.rd=M (abI g.1.1 g.1.2.1,281):=aL
def afH(g:(Int×Int×Int×Unit)×Unit×Unit):bY va CQ 300 .no 238 (BM.c g) (Br.d ((282:Nat),())) 1 d238.rd=(match Yr g.1.1 g.1.2.1 with|J=>J|M r=>M (r,282)):=aL
def acz(g:(Int×Int×Int×Unit)×Unit×Unit):bY va CQ 300 .no 238 (BM.c g) (Br.d ((283:Nat),())) 1 d238.rd=(match acE g.1.1 g.1.2.1 with|J=>J|M r=>M (r,283)):=aL
def agj(g:(Int×Int×Int×Unit)×Unit×Unit):bY va CQ 300 .no 238 (BM.c g) (Br.d ((284:Nat),())) 1 d238.rd=(match TU g.1.1 g.1.2.1 with|J=>J|M r=>M (r,284)):=aL
def afK(g:(Int×Int×Int×Unit)×Unit×Unit):bY va CQ 300 .no 238 (BM.c g) (Br.d ((285:Nat),())) 1 d238.rd=M (abd g.1.1 g.1.2.1,285):=aL
def acq(g:(Int×Int×Int×Unit)×Unit×Unit):bY va CQ 300 .no 238 (BM.c g) (Br.d ((286:Nat),())) 1 d238.rd=M (acj g.1.1 g.1.2.1,286):=aL
def afx(g:(Int×Int×Int×Unit)×Unit×Unit):bY va CQ 300 .no 238 (BM.c g) (Br.d ((287:Nat),())) 1 d238.rd=M (adE g.1.1 g.1.2.1,287):=aL
def aev(g:(Int×Int×Int×Unit)×Unit×Unit):bY va CQ 300 .no 238 (BM.c g) (Br.d ((288:Nat),())) 1 d238.rd=M (av1 g.1.1 g.1.2.1,288):=aL
def aDm:HY va 238 1 BM Br d238 (λg=>ac9 g.1.1.1 g.1.1.2.1 g.1.1.2.2.1 g.2.1):=by
 intro g b hb;obtain⟨g1,k,⟨⟩⟩:=g;have hgo:bY va CQ 300 .no 238 (BM.c g1) (Br.d (k,())) 1 d238.rd=M b->Ht va 238 (BM.c g1) (Br.d (k,())) 1 (eN va 238 1 (d238.pat b)):=λh=>
  (hU (p:=b) (out:=eN va 238 1 ∘ d238.pat) amg aEs d238.ok (λ_=>aL) (gG aL) (eT aL) h).2
 have hm:(jT k g1.1.1 g1.1.2.1).map (λr=>(r,k))=M b:=hb;refine hgo ?_;have hk:∀{o:af Int} {n:Nat},o.map (λr=>(r,n))=some b->(match o with|none=>none|some r=>some (r,n))=some b:=λ{o n} h=>by cases o<;>exact h
 unfold jT at hm;split at hm
 ·rename_i e;subst e;exact(ahm g1).trans hm
 split at hm
 ·rename_i e;subst e;exact(abe g1).trans hm
 split at hm
 ·rename_i e;subst e;exact(afH g1).trans (hk hm)
 split at hm
 ·rename_i e;subst e;exact(acz g1).trans (hk hm)
 split at hm
 ·rename_i e;subst e;exact(agj g1).trans (hk hm)
 split at hm
 ·rename_i e;subst e;exact(afK g1).trans hm
 split at hm
 ·rename_i e;subst e;exact(acq g1).trans hm
 split at hm
 ·rename_i e;subst e;exact(afx g1).trans hm
 split at hm
 ·rename_i e;subst e;exact(aev g1).trans hm
 ·cases hm
def aw2:aT->aT:=eY va 238 1 BM Br d238 (λg=>ac9 g.1.1.1 g.1.1.2.1 g.1.1.t.1 g.2.1)
def Ks{F:aT}(h:bK va F):bK va (aw2 F):=gi aDm ⟨_,func238,aL,aL⟩ (λ_=>aL) h
def F16:aT:=dz
def ax7:bK va F16:=aP
structure Ep where
 t2:List Slot
 (t3 t4 t6 t7 t9:Int)
 t10:List Int
 (t11 t12:Int)
 t17:List bf
 (t18 t19:Int)
 b0:bn
 b2:bf
def acu:Td 0 Ep:= .c [] [1,2,3,4,6,7,8,9,10,11,12,17,18,19] (.r 0 4 (ec 1 (qp 0 0) (ec 2 (qo 1) (ec 3 aU (ec 4 aU (ec 6 aU (ec 7 aU (ec 8 (qp 2 0) (ec 9 aU (ec 10 (qo 3) (ec 11 aU (ec 12 aU (ec 17 (ql 108) (ec 18 aU (ec 19 aU en)))))))))))))) (sb 0 26 (lg 26) (sr 1 38 (sb 2 108 (lg 108) (sr 3 65 sn)))) (λz=>⟨z.t.1,z.1.t.1,z.1.t.2.1,z.1.q.1,z.1.q.2.1,z.1.q.t.2.1,z.q.1,z.1.q.q.2.1,z.1.q.q.t.1,z.1.q.q.t.2.1,z.1.q.q.q.1,z.1.q.q.q.2.1,z.2.1,z.t.2.1⟩) (λx=>(((),(),x.t3,x.t4,x.t6,x.t7,(),x.t9,(),x.t11,x.t12,x.t17,x.t18,x.t19,()),(x.b0,x.t2,x.b2,x.t10,()))))
def pM{α:Type}(p:Ep)(go:Ep->af α)(e1:af α):af α:=
 if 0<=p.t9 then bif w9 (FF IntKind.i64 1 p.t9<ak (ak (p.b2.au-p.b2.aC)+1))then go (Ep.mk p.t2 p.t3 p.t4 p.t6 p.t7 (ak (p.t9+1)) p.t10 p.t11 p.t12 p.t17 p.t18 p.t19 p.b0 p.b2)else e1 else J
def Vz(p:Ep):af (af Ep):=
 pM p fW dy
def Wy:=bX (Vz)
structure Ck where
 t2:List Slot
 (t3 t4 t6:Int)
 t10:List Int
 (t11 t12:Int)
 t17:List bf
 (t18 t19:Int)
 b0:bn
def abr:Td 0 Ck:= .c [] [1,2,3,4,6,10,11,12,17,18,19] (.r 0 3 (ec 1 (qp 0 0) (ec 2 (qo 1) (ec 3 aU (ec 4 aU (ec 6 aU (ec 10 (qo 2) (ec 11 aU (ec 12 aU (ec 17 (ql 108) (ec 18 aU (ec 19 aU en))))))))))) (sb 0 26 (lg 26) (sr 1 38 (sr 2 65 sn))) (λz=>⟨z.t.1,z.1.t.1,z.1.t.2.1,z.1.q.1,z.t.2.1,z.1.q.t.1,z.1.q.t.2.1,z.1.q.q.1,z.1.q.q.2.1,z.1.q.q.t.1,z.2.1⟩) (λx=>(((),(),x.t3,x.t4,x.t6,(),x.t11,x.t12,x.t17,x.t18,x.t19,()),(x.b0,x.t2,x.t10,()))))
def Am{α:Type}(p:Ck)(go:Ck->af α)(e1:af α):af α:=
 bif w9 (p.t19<p.t18)then if 0<=p.t19/\p.t19<zZ p.t17 then bif bif w9 (p.t17[zQ p.t19]!.bQ=p.t6)then O else Z then go (Ck.mk p.t2 p.t3 p.t4 p.t6 p.t10 p.t11 p.t12 p.t17 p.t18 (ak (p.t19+1)) p.b0)else match Wy (Ep.mk p.t2 p.t3 p.t4 p.t6 p.t19 0 p.t10 p.t11 p.t12 p.t17 p.t18 p.t19 p.b0 p.t17[zQ p.t19]!)with|J=>J|M r3=>pM r3 (λ_=>J) (if(r3.t2++[Slot.mk r3.t7 r3.t3 r3.t9]).length<=1073741824 then go (Ck.mk (r3.t2++[Slot.mk r3.t7 r3.t3 r3.t9]) (ak (r3.t3+r3.t9)) r3.t4 r3.t6 r3.t10 r3.t11 r3.t12 r3.t17 r3.t18 (ak (r3.t19+1)) r3.b0)else J)else J else e1
def M5(p:Ck):af (af Ck):=
 Am p fW dy
def ao8:An:=(cA 2 (.two (cA 3 (.two (acu.lp Wy .no) .no)) .no))
def Vt:=bX (M5)
structure Co where
 t2:List Slot
 (t3 t4:Int)
 t10:List Int
 (t11 t12:Int)
 b0:bn
def ahH:Td 0 Co:= .c [] [1,2,3,4,10,11,12] (.t (bT.s 2 [] 38) (.c [] [1,2,3,4,10,11,12] (.r 0 3 (ec 1 (qp 0 0) (ec 2 (qo 1) (ec 3 aU (ec 4 aU (ec 10 (qo 2) (ec 11 aU (ec 12 aU en))))))) (sb 0 26 (lg 26) (sr 1 38 (sr 2 65 sn))) (λz=>⟨z.t.1,z.1.t.1,z.1.t.2.1,z.t.2.1,z.1.q.2.1,z.1.q.t.1,z.2.1⟩) (λx=>(((),(),x.t3,x.t4,(),x.t11,x.t12,()),(x.b0,x.t2,x.t10,()))))))
def IM{α:Type}(p:Co)(go:Co->af α)(e1:af α):af α:=
 bif w9 (p.t12<p.t11)then if 0<=p.t12/\p.t12<zZ p.t10 then if 65=65/\zQ p.t12<zZ p.t10 then match Vt (Ck.mk p.t2 p.t3 p.t4 p.t10[zQ p.t12]! p.t10 p.t11 p.t12 p.b0.ah (zZ p.b0.ah) 0 p.b0)with|J=>J|M r1=>Am r1 (λ_=>J) (bif w9 (r1.t6=1)then go (Co.mk r1.t2 r1.t3 r1.t3 r1.t10 r1.t11 (ak (r1.t12+1)) r1.b0)else go (Co.mk r1.t2 r1.t3 r1.t4 r1.t10 r1.t11 (ak (r1.t12+1)) r1.b0))else J else J else e1
def HW(p:Co):af (af Co):=
 IM p fW dy
def aoL:An:=(cA 2 (.two (noTwo (.two (noTwo (abr.lp Vt ao8)) .no)) .no))
def Qd:=bX (HW)
abbrev E16:=(aa Slot)×Int×Int
def d16:Td 0 E16:= .c [] [2,3,4] (.r 0 1 (ec 2 (qo 0) (ec 3 aU (ec 4 aU en))) (sr 0 38 sn) (λz=>(z.2.1,z.1.2.1,z.1.t.1)) (λx=>(((),x.2.1,x.t,()),(x.1,()))))
def A16:=(lc (qg 26) ln)
def ay9:An:=(noTwo (.two (noTwo (ahH.lp Qd aoL)) .no))
def aKA:dB va (F16) 0 300 16 (ay9):=bF (l:=[(bz f16 0,(ahH.lp Qd aoL)),(bz f16 1,(abr.lp Vt ao8)),(bz f16 2,(acu.lp Wy .no))]) func16 (aY aL) aL (aA (aO ahH) (aA (aO abr) (aA (aO acu) az)))
def m16(a0:bn):af E16:=
 match Qd (Co.mk [] (0) 0 [1,3] (2:Int) 0 a0)with|J=>J|M r4=>IM r4 (λ_=>J) (M (r4.t2,r4.t3,r4.t4))
def c16(a0:bn):bY va (F16) 300 (ay9) 16 (A16.c (a0,())) [] 0 d16.rd=m16 a0:=aL
def h16:HL va 16 A16 d16 (λg=>m16 g.1):=(fo ax7 aKA (λ_=>aL) (λ_=>aL) λg=>c16 g.1)
def e16:=eL va 16 O A16 d16 (λg=>m16 g.1)
def RL{F:aT}(h:bK va F):bK va (e16 F):=fI (sc:=sB) dQ h16 ⟨_,func16,aL,aL⟩ (λ_=>aL) (λ_=>aL) h
structure FB where
 t1:List Bool
 t9:List Int
 t10:Bool
 t13:Int
 t22:List Slot
 (t23 t24 t29 t30:Int)
 b0:bn
 b2:Slot
def aqP{α:Type}(p:FB)(go:FB->af α)(e1:af α):af α:=
 bif w9 (p.t30<p.t29)then if 0<=ak (p.b2.dJ+p.t30)/\ak (p.b2.dJ+p.t30)<zZ p.t1 then bif p.t1[(ak (p.b2.dJ+p.t30)).toNat]! then go (FB.mk p.t1 p.t9 p.t10 (ak (ak (2*p.t13)+1)) p.t22 p.t23 p.t24 p.t29 (ak (p.t30+1)) p.b0 p.b2)else go (FB.mk p.t1 p.t9 p.t10 (ak (2*p.t13)) p.t22 p.t23 p.t24 p.t29 (ak (p.t30+1)) p.b0 p.b2)else J else e1
def aCY(p:FB):af (af FB):=
 aqP p fW dy
def ayK:=bX (aCY)
structure E6 where
 t1:List Bool
 t9:List Int
 t10:Bool
 t22:List Slot
 (t23 t24:Int)
 b0:bn
def arn{α:Type}(p:E6)(go:E6->af α)(e1:af α):af α:=
 bif w9 (p.t24<p.t23)then if 0<=p.t24/\p.t24<zZ p.t22 then if 38=38/\zQ p.t24<zZ p.t22 then match ayK (FB.mk p.t1 p.t9 p.t10 0 p.t22 p.t23 p.t24 p.t22[zQ p.t24]!.dM 0 p.b0 p.t22[zQ p.t24]!)with|J=>J|M r1=>aqP r1 (λ_=>J) (if 0<=r1.b2.bq/\r1.b2.bq<zZ r1.b0.ah then if(r1.t9++[ak (r1.b0.ah[zQ r1.b2.bq]!.aC+r1.t13)]).length<=1073741824 then bif w9 (r1.b0.ah[zQ r1.b2.bq]!.au<ak (r1.b0.ah[zQ r1.b2.bq]!.aC+r1.t13))then go (E6.mk r1.t1 (r1.t9++[ak (r1.b0.ah[zQ r1.b2.bq]!.aC+r1.t13)]) O r1.t22 r1.t23 (ak (r1.t24+1)) r1.b0)else go (E6.mk r1.t1 (r1.t9++[ak (r1.b0.ah[zQ r1.b2.bq]!.aC+r1.t13)]) r1.t10 r1.t22 r1.t23 (ak (r1.t24+1)) r1.b0)else J else J)else J else J else e1
def aCE(p:E6):af (af E6):=
 arn p fW dy
def aGh:=bX (aCE)
abbrev E19:=(aa Int)×Bool
def d19:Td 0 E19:= .c [] [4,5] (.r 0 1 (ec 4 (qo 0) (ec 5 qb en)) (sr 0 3 sn) (λz=>(z.2.1,z.1.2.1)) (λx=>(((),x.2,()),(x.1,()))))
def m19(a0:bn)(a1:aa Bool):af E19:=
 match m16 a0 with|J=>J|M r2=>match aGh (E6.mk a1 [] Z r2.fst (zZ r2.fst) 0 a0)with|J=>J|M r3=>arn r3 (λ_=>J) (M (r3.t9,r3.t10))
def e19:=eL va 19 O (lc (qg 26) (lc (ql 4) ln)) d19 (λg=>m19 g.1 g.2.1)
structure aMK where
 (t0 t1:List Bool)
 (t12 t13:Int)
structure Fs where
 (t0 t1:List Int)
 (t12 t13:Int)
def abc:Td 0 Fs:= .c [] [0,1,12,13] (.r 0 0 (ec 0 (ql 3) (ec 1 (ql 3) (ec 12 aU (ec 13 aU en)))) sn (λz=>⟨z.1.1,z.1.2.1,z.1.t.1,z.1.t.2.1⟩) (λx=>((x.t0,x.t1,x.t12,x.t13,()),(()))))
def Py{α:Type}(p:Fs)(go:Fs->af α)(e1 e2:af α):af α:=
 bif w9 (p.t13<p.t12)then if 0<=p.t13/\p.t13<zZ p.t0 then if 0<=p.t13/\p.t13<zZ p.t1 then bif bif w9 (p.t0[zQ p.t13]! =p.t1[zQ p.t13]!)then O else Z then e1 else go (Fs.mk p.t0 p.t1 p.t12 (ak (p.t13+1)))else J else J else e2
def UL(p:Fs):af (af Fs):=
 Py p fW dy dy
def XX:=bX (UL)
abbrev E32:=Bool
def d32:Td 0 E32:=iu 4
def m32(a0:aa Int)(a1:aa Int):af E32:=
 bif bif w9 ((zZ a0:Int)=(zZ a1:Int))then O else Z then M O else match XX (Fs.mk a0 a1 (zZ a0) 0)with|J=>J|M r1=>Py r1 (λ_=>J) (M O) (M Z)
def e32:=eL va 32 O (lc (ql 3) (lc (ql 3) ln)) d32 (λg=>m32 g.1 g.2.1)
def aat:EO e32:=λh=>kL (an:=(cA 2 (.two (noTwo (abc.lp XX .no)) .no))) (l:=[(bz f32 0,(abc.lp XX .no))]) func32 aP (aA (aO abc) az) h
def pU:EP e32:=λh=>kP h
structure aMH where
 (t0 t1:List Slot)
 (t12 t13:Int)
structure aNv where
 t1:List Int
 t8:List Bool
 (t11 t12:Int)
 t19:List Slot
 (t20 t21:Int)
 b0:bn
structure aMi where
 t1:List Int
 t8:List Bool
 t19:List Slot
 (t20 t21:Int)
 b0:bn
structure B8 where
 t0:List bf
 t1:Int
 t5:List bf
 t6:Int
def ab3:Td 0 B8:= .c [] [0,1,5,6] (.r 0 1 (ec 0 (ql 108) (ec 1 aU (ec 5 (qo 0) (ec 6 aU en)))) (sr 0 108 sn) (λz=>⟨z.1.1,z.1.2.1,z.2.1,z.1.t.2.1⟩) (λx=>((x.t0,x.t1,(),x.t6,()),(x.t5,()))))
def Is{α:Type}(p:B8)(go:B8->af α)(e1:af α):af α:=
 bif w9 (p.t6<zZ p.t0)then if 0<=p.t6/\p.t6<zZ p.t0 then bif w9 (p.t0[zQ p.t6]!.bQ=p.t1)then if 0<=p.t6/\p.t6<zZ p.t0 then if(p.t5++[p.t0[zQ p.t6]!]).length<=1073741824 then go (B8.mk p.t0 p.t1 (p.t5++[p.t0[zQ p.t6]!]) (ak (p.t6+1)))else J else J else go (B8.mk p.t0 p.t1 p.t5 (ak (p.t6+1)))else J else e1
def Nd(p:B8):af (af B8):=
 Is p fW dy
def UW:=bX (Nd)
abbrev E68:=aa bf
def d68:Td 0 E68:= .c [] [4] (.r 0 1 (ec 4 (qo 0) en) (sr 0 108 sn) (λz=>z.2.1) (λx=>(((),()),(x,()))))
def m68(a0:aa bf)(a1:Int):af E68:=
 match UW (B8.mk a0 a1 [] (0))with|J=>J|M r1=>Is r1 (λ_=>J) (M (r1.t5))
def e68:=eL va 68 O aff d68 (λg=>m68 g.1 g.2.1)
def Ry:EO e68:=λh=>kL (an:=(cA 2 (.two (noTwo (ab3.lp UW .no)) .no))) (l:=[(bz f68 0,(ab3.lp UW .no))]) func68 aP (aA (aO ab3) az) h
def F67:aT:=(e68 dz)
structure Ez where
 t6:List bf
 (t8 t9:Int)
def ahO:Td 0 Ez:= .c [] [6,8,9] (.r 0 1 (ec 6 (qo 0) (ec 8 aU (ec 9 aU en))) (sr 0 108 sn) (λz=>⟨z.2.1,z.1.2.1,z.1.t.1⟩) (λx=>(((),x.t8,x.t9,()),(x.t6,()))))
def Pg{α:Type}(p:Ez)(go:Ez->af α)(e1 e2:af α):af α:=
 bif w9 (p.t9<zZ p.t6)then if 0<=p.t9/\p.t9<zZ p.t6 then if 108=108/\zQ p.t9<zZ p.t6 then if 0<=p.t9/\p.t9<zZ p.t6 then if 108=108/\zQ p.t9<zZ p.t6 then bif w9 (4096<ak (p.t8*ak (ak (p.t6[zQ p.t9]!.au-p.t6[zQ p.t9]!.aC)+1)))then e1 else go (Ez.mk p.t6 (ak (p.t8*ak (ak (p.t6[zQ p.t9]!.au-p.t6[zQ p.t9]!.aC)+1))) (ak (p.t9+1)))else J else J else J else J else e2
def W1(p:Ez):af (af Ez):=
 Pg p fW dy dy
def Vr:=bX (W1)
structure Gt where
 t6:List bf
 t7:Int
def abT:Td 0 Gt:= .c [] [6,7] (.r 0 1 (ec 6 (qo 0) (ec 7 aU en)) (sr 0 108 sn) (λz=>⟨z.2.1,z.1.2.1⟩) (λx=>(((),x.t7,()),(x.t6,()))))
def Oj{α:Type}(p:Gt)(go:Gt->af α)(e1 e2:af α):af α:=
 bif w9 (p.t7<zZ p.t6)then if 0<=p.t7/\p.t7<zZ p.t6 then if 108=108/\zQ p.t7<zZ p.t6 then if 0<=p.t7/\p.t7<zZ p.t6 then if 108=108/\zQ p.t7<zZ p.t6 then bif w9 (p.t6[zQ p.t7]!.au<p.t6[zQ p.t7]!.aC)then e1 else if 0<=p.t7/\p.t7<zZ p.t6 then if 108=108/\zQ p.t7<zZ p.t6 then bif w9 (p.t6[zQ p.t7]!.aC< -1048576)then e1 else if 0<=p.t7/\p.t7<zZ p.t6 then if 108=108/\zQ p.t7<zZ p.t6 then bif w9 (1048576<p.t6[zQ p.t7]!.au)then e1 else go (Gt.mk p.t6 (ak (p.t7+1)))else J else J else J else J else J else J else J else J else e2
def U9(p:Gt):af (af Gt):=
 Oj p fW dy dy
def VM:=bX (U9)
abbrev E67:=Int×Int
def d67:Td 0 E67:= .c [] [4,5] (.r 0 0 (ec 4 aU (ec 5 aU en)) sn (λz=>(z.1.1,z.1.2.1)) (λx=>((x.1,x.2,()),(()))))
def aKO:∀f∈([]:aa Nat),bH (F67) f:=az
def m67(a0:aa bf)(a1:Int):af E67:=
 match (bif bif w9 (a1=0)then O else Z then bif bif w9 (a1=1)then O else Z then bif bif w9 (a1=2)then O else Z then M (bif w9 (a1=3)then O else Z)else M (O)else M (O)else M (O))with|J=>J|M r1=>bif r1 then M ((0,1))else match m68 a0 a1 with|J=>J|M r2=>match VM (Gt.mk r2 (0))with|J=>J|M r3=>Oj r3 (λ_=>J) (M ((0,3))) (match Vr (Ez.mk r3.t6 (1) (0))with|J=>J|M r4=>Pg r4 (λ_=>J) (M ((0,4))) (M ((r4.t8,0))))
def e67:=eL va 67 O aff d67 (λg=>m67 g.1 g.2.1)
def adh:EO e67:=λh=>kL (F:=F67) (an:=(noTwo (.two (.two (.rb [] 23) .no) (noTwo (.two (noTwo (abT.lp VM .no)) (noTwo (.two (noTwo (ahO.lp Vr .no)) .no))))))) (l:=[(.skip,(.rb [] 23)),(bz f67 0,(abT.lp VM .no)),(bz f67 1,(ahO.lp Vr .no))]) func67 (Ry aP) (aA aKO (aA (aO abT) (aA (aO ahO) az))) h
def Oq:EP e67:=λh=>kP h
structure G4 where
 t2:List Int
 t10:List bf
 (t11 t12:Int)
def acg:Td 0 G4:= .c [] [2,10,11,12] (.r 0 1 (ec 2 (ql 3) (ec 10 (qo 0) (ec 11 aU (ec 12 aU en)))) (sr 0 108 sn) (λz=>⟨z.1.1,z.2.1,z.1.t.1,z.1.t.2.1⟩) (λx=>((x.t2,(),x.t11,x.t12,()),(x.t10,()))))
def ID{α:Type}(p:G4)(go:G4->af α)(e1 e2:af α):af α:=
 bif w9 (p.t12<zZ p.t10)then if 0<=p.t12/\p.t12<zZ p.t2 then if 0<=p.t12/\p.t12<zZ p.t10 then if 108=108/\zQ p.t12<zZ p.t10 then bif w9 (p.t2[zQ p.t12]! <p.t10[zQ p.t12]!.aC)then e1 else if 0<=p.t12/\p.t12<zZ p.t2 then if 0<=p.t12/\p.t12<zZ p.t10 then if 108=108/\zQ p.t12<zZ p.t10 then bif w9 (p.t10[zQ p.t12]!.au<p.t2[zQ p.t12]!)then e1 else if 0<=p.t12/\p.t12<zZ p.t10 then if 108=108/\zQ p.t12<zZ p.t10 then if 0<=p.t12/\p.t12<zZ p.t10 then if 108=108/\zQ p.t12<zZ p.t10 then if 0<=p.t12/\p.t12<zZ p.t2 then if 0<=p.t12/\p.t12<zZ p.t10 then if 108=108/\zQ p.t12<zZ p.t10 then go (G4.mk p.t2 p.t10 (ak (ak (ak (p.t11*ak (ak (p.t10[zQ p.t12]!.au-p.t10[zQ p.t12]!.aC)+1))+p.t2[zQ p.t12]!)-p.t10[zQ p.t12]!.aC)) (ak (p.t12+1)))else J else J else J else J else J else J else J else J else J else J else J else J else J else e2
def PU(p:G4):af (af G4):=
 ID p fW dy dy
def Xp:=bX (PU)
abbrev E28:=Int×Int
def d28:Td 0 E28:= .c [] [6,7] (.r 0 0 (ec 6 aU (ec 7 aU en)) sn (λz=>(z.1.1,z.1.2.1)) (λx=>((x.1,x.2,()),(()))))
def m28(a0:aa bf)(a1:Int)(a2:aa Int):af E28:=
 match m67 a0 a1 with|J=>J|M r1=>bif bif w9 (r1.snd=0)then O else Z then M (0,r1.snd)else match m68 a0 a1 with|J=>J|M r2=>bif bif w9 ((↑(zZ r2):Int)=(zZ a2:Int))then O else Z then M (0,2)else match Xp (G4.mk a2 r2 0 0)with|J=>J|M r3=>ID r3 (λ_=>J) (M (0,3)) (M (r3.t11,0))
def e28:=eL va 28 O (lc (ql 108) (dX (lc (ql 3) ln))) d28 (λg=>m28 g.1 g.2.1 g.t.1)
def aul:EO e28:=λh=>kL (an:=(cA 6 (.two (noTwo (acg.lp Xp .no)) .no))) (l:=[(bz f28 0,(acg.lp Xp .no))]) func28 (Ry (adh aP)) (aA (aO acg) az) h
def F96:aT:=dz
abbrev E96:=Bool×bC
def d96:Td 1 E96:= .c [] [2] (.r 1 1 (ec 2 qb en) (sb 0 177 (lg 177) sn) (λz=>(z.1.1,z.2.1)) (λx=>((x.1,()),(x.2,()))))
def A96:=AN
def B96:=(sb 0 177 (lg 177) sn)
def aCv:An:=(noTwo (.two (.rb [] 2) .no))
def aH1:∀f∈([]:aa Nat),bH (F96) f:=az
def Hj(b0:bC):E96:=
 let r1:Bool:=bif b0.gu then Z else w9 (1024<b0.aD);(r1,b0)
def c96(b0:bC):bY va (F96) 300 (aCv) 96 (A96.c ((),())) (B96.d (b0,())) 1 d96.rd=M (Hj b0):=by
 refine Eq.trans (b:=(
  match bif b0.gu then M (Z)else M (w9 (1024<b0.aD))with|J=>J|M r1=>M ((r1,b0)):af E96)) aL ?_
 simp only[Hj,b6,cw]
def e96:aT->aT:=eY va 96 1 A96 B96 d96 (λg=>M (Hj g.2.1))
def Rw:EO e96:=λh=>kY (F:=F96) (an:=aCv) (l:=[(.skip,(.rb [] 2))]) func96 aP (aA aH1 az) h (c:=λg=>c96 g.2.1)
abbrev E97:=bC
def d97:Td 1 E97:= .c [] [] (.r 1 1 en (sb 0 177 (lg 177) sn) (λz=>z.2.1) (λx=>((()),(x,()))))
def A97:=(lc (qp 0 0) (lc (qg 106) gY))
def B97:=(sb 0 177 (lg 177) sn)
abbrev Xn:Type:=ay->Int->bC->af E97
def x97(zf:Xn):aT->aT:=eY va 97 1 A97 B97 d97 (λg=>zf g.1.2.1 g.1.2.2.1 g.2.1)
def H97(zf:Xn):Prop:=HY va 97 1 A97 B97 d97 (λg=>zf g.1.2.1 g.1.2.2.1 g.2.1)
def ahd{zf:Xn}(hM:H97 zf):EO (x97 zf):=gi hM ⟨_,func97,aL,aL⟩ (λ_=>aL)
def F97(M97:Xn):aT:=(x97 M97 (e96 dz))
def axp{M97}(h97:H97 M97):bK va (F97 M97):=(ahd h97 (Rw aP))
structure CD where
 t2:Int
 t29:List ay
 (t30 t31:Int)
 b0:bC
def ahy:Td 1 CD:= .c [] [0,2,29,30,31] (.r 1 1 (ec 0 (qp 0 0) (ec 2 aU (ec 29 (ql 106) (ec 30 aU (ec 31 aU en))))) (sb 0 177 (lg 177) sn) (λz=>⟨z.1.2.1,z.1.t.1,z.1.t.2.1,z.1.q.1,z.2.1⟩) (λx=>(((),x.t2,x.t29,x.t30,x.t31,()),(x.b0,()))))
def Jj{α:Type}(M97:Xn)(p:CD)(go:CD->af α)(e1:af α):af α:=
 bif w9 (p.t31<p.t30)then if 0<=p.t31/\p.t31<zZ p.t29 then match M97 (ay.mk p.t29[zQ p.t31]!.bA p.t29[zQ p.t31]!.fN p.t29[zQ p.t31]!.ax) (ak (p.t2+1)) p.b0 with|J=>J|M r1=>go (CD.mk p.t2 p.t29 p.t30 (ak (p.t31+1)) r1)else J else e1
def VO(M97:Xn)(p:CD):af (af CD):=
 Jj M97 p fW dy
def Na(M97:Xn):=bX (VO M97)
def aHD(M97:Xn):An:=(cA 5 (ahy.lp (Na M97) .no))
def aKX(M97:Xn):dB va (F97 M97) 1 300 97 (aHD M97):=bF (l:=[(bz f97 0,(ahy.lp (Na M97) .no))]) func97 (aY aL) aL (aA (aO ahy) az)
def s97(M97:Xn)(a1:ay)(a2:Int)(b0:bC):af E97:=
 bif b0.gu then bif(Hj (bC.mk (ak (b0.aD+1)) Z)).fst then M ((Hj (bC.mk (ak (b0.aD+1)) Z)).snd)else match Na M97 (CD.mk a2 a1.ax (zZ a1.ax) 0 (Hj (bC.mk (ak (b0.aD+1)) Z)).snd)with|J=>J|M r2=>Jj M97 r2 (λ_=>J) (M (r2.b0))else bif(Hj (bC.mk (ak (b0.aD+1)) (w9 (12<a2)))).fst then M ((Hj (bC.mk (ak (b0.aD+1)) (w9 (12<a2)))).snd)else match Na M97 (CD.mk a2 a1.ax (zZ a1.ax) 0 (Hj (bC.mk (ak (b0.aD+1)) (w9 (12<a2)))).snd)with|J=>J|M r4=>Jj M97 r4 (λ_=>J) (M (r4.b0))
def aGn:Nat->Xn
 |0=>(λ_ _ _=>J)
 |n+1=>(s97 (aGn n))
def m97(n:Nat):Xn:=(aGn n)
def WE:∀n,H97 (m97 n)
 |0=>λ_ _ h=>(by cases h)
 |n+1=>gZ (axp (WE n)) (aKX (m97 n)) (λ_=>aL) (λ_=>aL) (λ_=>aL) λ_=>aL
def r97:Xn:=λa1 a2 b0=>lim (λn=>m97 n a1 a2 b0)
def asC:H97 r97:=λg b h=>(bW h).elim λn=>WE n g b
def e97(F:aT):aT:=x97 r97 F
def aaz:EO e97:=ahd asC
abbrev E95:=bC
def d95:Td 1 E95:= .c [] [] (.r 1 1 en (sb 0 177 (lg 177) sn) (λz=>z.2.1) (λx=>((()),(x,()))))
def A95:=(lc (qp 0 0) (lc (ql 111) gY))
def B95:=(sb 0 177 (lg 177) sn)
abbrev Zm:Type:=(aa aM)->Int->bC->af E95
def x95(zf:Zm):aT->aT:=eY va 95 1 A95 B95 d95 (λg=>zf g.1.2.1 g.1.2.2.1 g.2.1)
def H95(zf:Zm):Prop:=HY va 95 1 A95 B95 d95 (λg=>zf g.1.2.1 g.1.2.2.1 g.2.1)
def ahU{zf:Zm}(hM:H95 zf):EO (x95 zf):=gi hM ⟨_,func95,aL,aL⟩ (λ_=>aL)
def F95(M95:Zm):aT:=(e97 (e96 (x95 M95 dz)))
def atr{M95}(h95:H95 M95):bK va (F95 M95):=(aaz (Rw (ahU h95 aP)))
structure CA where
 t2:Int
 t8:List aM
 (t9 t10:Int)
 b0:bC
def adD:Td 1 CA:= .c [] [0,2,8,9,10] (.r 1 1 (ec 0 (qp 0 0) (ec 2 aU (ec 8 (ql 111) (ec 9 aU (ec 10 aU en))))) (sb 0 177 (lg 177) sn) (λz=>⟨z.1.2.1,z.1.t.1,z.1.t.2.1,z.1.q.1,z.2.1⟩) (λx=>(((),x.t2,x.t8,x.t9,x.t10,()),(x.b0,()))))
def Ja{α:Type}(M95:Zm)(p:CA)(go:CA->af α)(e1 e2 e3:af α):af α:=
 bif w9 (p.t10<p.t9)then if 0<=p.t10/\p.t10<zZ p.t8 then bif p.b0.gu then bif(Hj (bC.mk (ak (p.b0.aD+1)) Z)).fst then e1 else match r97 (ay.mk p.t8[zQ p.t10]!.aB.bA p.t8[zQ p.t10]!.aB.fN p.t8[zQ p.t10]!.aB.ax) 1 (Hj (bC.mk (ak (p.b0.aD+1)) Z)).snd with|J=>J|M r1=>match M95 p.t8[zQ p.t10]!.aQ (ak (p.t2+1)) r1 with|J=>J|M r2=>match M95 p.t8[zQ p.t10]!.aX (ak (p.t2+1)) r2 with|J=>J|M r3=>go (CA.mk p.t2 p.t8 p.t9 (ak (p.t10+1)) r3)else bif(Hj (bC.mk (ak (p.b0.aD+1)) (w9 (12<p.t2)))).fst then e2 else match r97 (ay.mk p.t8[zQ p.t10]!.aB.bA p.t8[zQ p.t10]!.aB.fN p.t8[zQ p.t10]!.aB.ax) 1 (Hj (bC.mk (ak (p.b0.aD+1)) (w9 (12<p.t2)))).snd with|J=>J|M r4=>match M95 p.t8[zQ p.t10]!.aQ (ak (p.t2+1)) r4 with|J=>J|M r5=>match M95 p.t8[zQ p.t10]!.aX (ak (p.t2+1)) r5 with|J=>J|M r6=>go (CA.mk p.t2 p.t8 p.t9 (ak (p.t10+1)) r6)else J else e3
def Qt(M95:Zm)(p:CA):af (af CA):=
 Ja M95 p fW dy dy dy
def WM(M95:Zm):=bX (Qt M95)
def aIJ(M95:Zm):An:=(noTwo (adD.lp (WM M95) .no))
def aH5(M95:Zm):dB va (F95 M95) 1 300 95 (aIJ M95):=bF (l:=[(bz f95 0,(adD.lp (WM M95) .no))]) func95 (aY aL) aL (aA (aO adD) az)
def s95(M95:Zm)(a1:aa aM)(a2:Int)(b0:bC):af E95:=
 match WM M95 (CA.mk a2 a1 (zZ a1) 0 b0)with|J=>J|M r7=>Ja M95 r7 (λ_=>J) (M ((Hj (bC.mk (ak (r7.b0.aD+1)) Z)).snd)) (M ((Hj (bC.mk (ak (r7.b0.aD+1)) (w9 (12<r7.t2)))).snd)) (M (r7.b0))
def aDj:Nat->Zm
 |0=>(λ_ _ _=>J)
 |n+1=>(s95 (aDj n))
def m95(n:Nat):Zm:=(aDj n)
def UA:∀n,H95 (m95 n)
 |0=>λ_ _ h=>(by cases h)
 |n+1=>gZ (atr (UA n)) (aH5 (m95 n)) (λ_=>aL) (λ_=>aL) (λ_=>aL) λ_=>aL
def r95:Zm:=λa1 a2 b0=>lim (λn=>m95 n a1 a2 b0)
def awu:H95 r95:=λg b h=>(bW h).elim λn=>UA n g b
def e95(F:aT):aT:=x95 r95 F
def axA:EO e95:=ahU awu
abbrev aGj:=Bool
def d162:Td 0 aGj:=iu 3
def anq(a0:bf)(c0:bf):aGj:=
 a0.fName.toList==c0.fName.toList
def aIK:=eL va 162 O (lc (qg 108) (lc (qr (lg 108)) ln)) d162 (λg=>M (anq g.1 g.2.1))
def Vc:EO aIK:=λh=>kL (an:= .no) func162 aP az h
def azy:aT:=dz
structure sN where
 t0:ByteArray
 (t14 t15:Int)
def Te:Td 0 sN:= .c [] [0,14,15] (.r 0 0 (ec 0 qs (ec 14 aU (ec 15 aU en))) sn (λz=>⟨z.1.1,z.1.2.1,z.1.t.1⟩) (λx=>((x.t0,x.t14,x.t15,()),(()))))
def Hf{α:Type}(p:sN)(go:sN->af α)(e1 e2:af α):af α:=
 bif w9 (p.t15<p.t14)then if 0<=p.t15/\p.t15<p.t0.size then match (bif w9 (97<=cO p.t0 p.t15.toNat)then M (w9 (cO p.t0 p.t15.toNat<=122))else M O)with|J=>J|M r1=>match (bif bif r1 then O else Z then bif w9 (p.t15=0)then M Z else bif w9 (cO p.t0 p.t15.toNat<48)then bif bif w9 (cO p.t0 p.t15.toNat=46)then O else Z then M (bif w9 (cO p.t0 p.t15.toNat=95)then O else Z)else M O else bif w9 (57<cO p.t0 p.t15.toNat)then bif bif w9 (cO p.t0 p.t15.toNat=46)then O else Z then M (bif w9 (cO p.t0 p.t15.toNat=95)then O else Z)else M O else M O else M O)with|J=>J|M r2=>bif r2 then e1 else go (sN.mk p.t0 p.t14 (ak (p.t15+1)))else J else e2
def JZ(p:sN):af (af sN):=
 Hf p fW dy dy
def ae5:An:=(cA 2 (.two (cA 2 (.two (.rb [] 5) (.two (.rb [] 48) .no))) .no))
def LH:=bX (JZ)
abbrev aFv:=Bool
def d163:Td 0 aFv:=iu 2
def adt:∀f∈([]:aa Nat),bH (azy) f:=az
def ab4(a0:ByteArray):af aFv:=
 match (bif a0.toList==(ByteArray.mk (Array.mk [])).toList then M Z else M (w9 (40<(a0.size:Int))))with|J=>J|M r3=>bif r3 then M O else match LH (sN.mk a0 a0.size 0)with|J=>J|M r4=>Hf r4 (λ_=>J) (M O) (M Z)
def aE4:=eL va 163 O (lc qs ln) d163 (λg=>ab4 g.1)
def Wb:EO aE4:=λh=>kL (F:=azy) (an:=(noTwo (.two (.two (.rb [] 12) .no) (.two (noTwo (Te.lp LH ae5)) .no)))) (l:=[(.skip,(.rb [] 12)),(bz f163 0,(Te.lp LH ae5)),(.skip,(.rb [] 5)),(.skip,(.rb [] 48))]) func163 aP (aA adt (aA (aO Te) (aA adt (aA adt az)))) h
structure tQ where
 t0:List bf
 sO:ByteArray
 (uI uL uD tK t7 t8:Int)
def Sw:Td 0 tQ:= .c [] [0,1,7,8] (.r 0 0 (ec 0 (ql 108) (ec 1 (qf 162 (lc (qr (lc qs (dX OX))) ln)) (ec 7 aU (ec 8 aU en)))) sn (λz=>⟨z.1.1,z.1.2.1.1.1,z.1.2.1.1.2.1,z.1.2.1.1.t.1,z.1.2.1.1.t.2.1,z.1.2.1.1.q.1,z.1.t.1,z.1.t.2.1⟩) (λx=>((x.t0,((x.sO,x.uI,x.uL,x.uD,x.tK,()),()),x.t7,x.t8,()),(()))))
def DY{α:Type}(p:tQ)(go:tQ->af α)(e1 e2:af α):af α:=
 bif w9 (p.t8<p.t7)then if 0<=p.t8/\p.t8<zZ p.t0 then bif anq p.t0[zQ p.t8]! (bf.mk p.sO p.uI p.uL p.uD p.tK)then e1 else go (tQ.mk p.t0 p.sO p.uI p.uL p.uD p.tK p.t7 (ak (p.t8+1)))else J else e2
def KH(p:tQ):af (af tQ):=
 DY p fW dy dy
def JH:=bX (KH)
abbrev aE9:=Int
def d225:Td 0 aE9:=dW 4
def awR(a0:aa bf)(a1_0:bf):af aE9:=
 match JH (tQ.mk a0 a1_0.fName a1_0.bQ a1_0.aC a1_0.au a1_0.eB (zZ a0) 0)with|J=>J|M r1=>DY r1 (λ_=>J) (M (r1.t8)) (M (-1))
def aIN:=eL va 225 Z (lc (ql 108) (lc (qf 162 (lc (qr (lg 108)) ln)) ln)) d225 (λg=>awR g.1 g.2.1.1)
def amW:EO aIN:=λh=>kL (an:=(noTwo (.two (noTwo (Sw.lp JH .no)) .no))) (l:=[(bz f225 0,(Sw.lp JH .no))]) func225 (Vc aP) (aA (aO Sw) az) h
abbrev aAH:=Bool
def d164:Td 0 aAH:=iu 4
def amZ(a0:aa bf)(a1_0:bf):af aAH:=
 match awR a0 a1_0 with|J=>J|M r1=>M (w9 (0<=r1))
def aFM:=eL va 164 Z (lc (ql 108) (lc (qf 162 (lc (qr (lg 108)) ln)) ln)) d164 (λg=>amZ g.1 g.2.1.1)
def akx:EO aFM:=λh=>kL (an:= .no) func164 (amW (Vc aP)) az h
def axI:aT:=dz
abbrev arU:=Bool
def d165:Td 0 arU:=iu 4
def aEb:=uS
def aot:An:=(noTwo (.two (.rb [] 4) .no))
def aC5:∀f∈([]:aa Nat),bH (axI) f:=az
def QX(a0:Int)(a1:Int):arU:=
 let r1:Bool:=bif w9 (a0<=a1)then bif w9 (-1048576<=a0)then w9 (a1<=1048576)else O else O;r1
def aJ3(a0:Int)(a1:Int):bY va (axI) 300 (aot) 165 (aEb.c (a0,a1,())) [] 0 d165.rd=M (QX a0 a1):=by
 refine Eq.trans (b:=(
  match bif w9 (a0<=a1)then bif w9 (-1048576<=a0)then M (w9 (a1<=1048576))else M (O)else M (O)with|J=>J|M r1=>M (r1):af arU)) aL ?_
 simp only[QX,b6,cw]
def aEC:=eL va 165 O aEb d165 (λg=>M (QX g.1 g.2.1))
def XQ:EO aEC:=λh=>kL (F:=axI) (an:=aot) (l:=[(.skip,(.rb [] 4))]) func165 aP (aA aC5 az) h (c:=λg=>aJ3 g.1 g.2.1)
abbrev aCM:=Int
def d277:Td 0 aCM:=dW 2
def YO(a0:bf):aCM:=
 ak (ak (a0.au-a0.aC)+1)
def aDw:=eL va 277 O (lc (qg 108) ln) d277 (λg=>M (YO g.1))
def aj6:EO aDw:=λh=>kL (an:= .no) func277 aP az h
def aAw:aT:=(aDw dz)
structure mg where
 t7:List bf
 t10:Int
 t49:List bf
 (t50 t51:Int)
def RY:Td 0 mg:= .c [] [7,10,49,50,51] (.r 0 1 (ec 7 (qo 0) (ec 10 aU (ec 49 (qo 0) (ec 50 aU (ec 51 aU en))))) (sr 0 108 sn) (λz=>⟨z.2.1,z.1.2.1,z.2.1,z.1.t.2.1,z.1.q.1⟩) (λx=>(((),x.t10,(),x.t50,x.t51,()),(x.t49,()))))
def p6{α:Type}(p:mg)(go:mg->af α)(e1 e2:af α):af α:=
 bif w9 (p.t51<p.t50)then if 0<=p.t51/\p.t51<zZ p.t49 then if 108=108/\zQ p.t51<zZ p.t49 then bif w9 (4096<ak (p.t10*YO p.t49[zQ p.t51]!))then e1 else go (mg.mk p.t49 (ak (p.t10*YO p.t49[zQ p.t51]!)) p.t49 p.t50 (ak (p.t51+1)))else J else J else e2
def Mf(p:mg):af (af mg):=
 p6 p fW dy dy
def tP:=bX (Mf)
structure kI where
 t1:Int
 (t7 t19:List bf)
 (t20 t21:Int)
def TD:Td 0 kI:= .c [] [1,7,19,20,21] (.t (bT.s 7 [] 108) (.c [] [1,7,19,20,21] (.r 0 1 (ec 1 aU (ec 7 (qo 0) (ec 19 (ql 108) (ec 20 aU (ec 21 aU en))))) (sr 0 108 sn) (λz=>⟨z.1.1,z.2.1,z.1.t.1,z.1.t.2.1,z.1.q.1⟩) (λx=>((x.t1,(),x.t19,x.t20,x.t21,()),(x.t7,()))))))
def ov{α:Type}(p:kI)(go:kI->af α)(e1 e2:af α):af α:=
 bif w9 (p.t21<p.t20)then if 0<=p.t21/\p.t21<zZ p.t19 then bif bif w9 (p.t19[zQ p.t21]!.bQ=p.t1)then O else Z then go (kI.mk p.t1 p.t7 p.t19 p.t20 (ak (p.t21+1)))else match (bif w9 (p.t19[zQ p.t21]!.au<p.t19[zQ p.t21]!.aC)then M Z else bif w9 (p.t19[zQ p.t21]!.aC< -1048576)then M Z else M (w9 (1048576<p.t19[zQ p.t21]!.au)))with|J=>J|M r1=>bif r1 then e1 else if(p.t7++[p.t19[zQ p.t21]!]).length<=1073741824 then go (kI.mk p.t1 (p.t7++[p.t19[zQ p.t21]!]) p.t19 p.t20 (ak (p.t21+1)))else J else J else e2
def DX(p:kI):af (af kI):=
 ov p fW dy dy
def afJ:An:=(cA 2 (.two (cA 2 (.two (.two (.rb [] 43) .no) .no)) .no))
def tD:=bX (DX)
abbrev aCx:=(aa bf)×Int×Int
def d226:Td 0 aCx:= .c [] [4,5,6] (.t (bT.s 4 [] 108) (.c [] [4,5,6] (.r 0 1 (ec 4 (qo 0) (ec 5 aU (ec 6 aU en))) (sr 0 108 sn) (λz=>(z.2.1,z.1.2.1,z.1.t.1)) (λx=>(((),x.2.1,x.t,()),(x.1,()))))))
def aDu:∀f∈([]:aa Nat),bH (aAw) f:=az
def axw(a0:aa bf)(a1:Int):af aCx:=
 bif w9 (a1=0)then match tD (kI.mk a1 [] a0 (zZ a0) 0)with|J=>J|M r2=>ov r2 (λ_=>J) (M ([],0,3)) (match tP (mg.mk r2.t7 1 r2.t7 (zZ r2.t7) 0)with|J=>J|M r4=>p6 r4 (λ_=>J) (M ([],0,4)) (M (r4.t49,r4.t10,0)))else bif w9 (a1=1)then match tD (kI.mk a1 [] a0 (zZ a0) 0)with|J=>J|M r5=>ov r5 (λ_=>J) (M ([],0,3)) (match tP (mg.mk r5.t7 1 r5.t7 (zZ r5.t7) 0)with|J=>J|M r7=>p6 r7 (λ_=>J) (M ([],0,4)) (M (r7.t49,r7.t10,0)))else bif w9 (a1=2)then match tD (kI.mk a1 [] a0 (zZ a0) 0)with|J=>J|M r8=>ov r8 (λ_=>J) (M ([],0,3)) (match tP (mg.mk r8.t7 1 r8.t7 (zZ r8.t7) 0)with|J=>J|M r10=>p6 r10 (λ_=>J) (M ([],0,4)) (M (r10.t49,r10.t10,0)))else bif w9 (a1=3)then match tD (kI.mk a1 [] a0 (zZ a0) 0)with|J=>J|M r11=>ov r11 (λ_=>J) (M ([],0,3)) (match tP (mg.mk r11.t7 1 r11.t7 (zZ r11.t7) 0)with|J=>J|M r13=>p6 r13 (λ_=>J) (M ([],0,4)) (M (r13.t49,r13.t10,0)))else M ([],0,1)
def aKB:=eL va 226 O aff d226 (λg=>axw g.1 g.2.1)
def alO:EO aKB:=λh=>kL (F:=aAw) (an:=(cA 3 (.two (noTwo (TD.lp tD afJ)) (noTwo (.two (noTwo (RY.lp tP .no)) .no))))) (l:=[(bz f226 0,(TD.lp tD afJ)),(.skip,(.rb [] 43)),(bz f226 1,(RY.lp tP .no))]) func226 (aj6 aP) (aA (aO TD) (aA aDu (aA (aO RY) az))) h
abbrev aAP:=Int×Int
def d166:Td 0 aAP:= .c [] [4,5] (.r 0 0 (ec 4 aU (ec 5 aU en)) sn (λz=>(z.1.1,z.1.2.1)) (λx=>((x.1,x.2,()),(()))))
def ajR(a0:aa bf)(a1:Int):af aAP:=
 match axw a0 a1 with|J=>J|M r1=>M (r1.snd)
def az4:=eL va 166 O aff d166 (λg=>ajR g.1 g.2.1)
def ajh:EO az4:=λh=>kL (an:= .no) func166 (alO aP) az h
def F98:aT:=(az4 (aEC (aFM (aE4 dz))))
structure EM where
 t0:List bf
 t71:List Int
 (t72 t73:Int)
def aez:Td 0 EM:= .c [] [0,71,72,73] (.r 0 1 (ec 0 (ql 108) (ec 71 (qo 0) (ec 72 aU (ec 73 aU en)))) (sr 0 65 sn) (λz=>⟨z.1.1,z.2.1,z.1.t.1,z.1.t.2.1⟩) (λx=>((x.t0,(),x.t72,x.t73,()),(x.t71,()))))
def Fe{α:Type}(p:EM)(go:EM->af α)(e1 e2:af α):af α:=
 bif w9 (p.t73<p.t72)then if 0<=p.t73/\p.t73<zZ p.t71 then if 65=65/\zQ p.t73<zZ p.t71 then match ajR p.t0 p.t71[zQ p.t73]! with|J=>J|M r6=>match (bif bif w9 (r6.snd=0)then O else Z then M Z else bif w9 (p.t71[zQ p.t73]! =3)then M (w9 (256<r6.fst))else M O)with|J=>J|M r7=>bif r7 then e1 else go (EM.mk p.t0 p.t71 p.t72 (ak (p.t73+1)))else J else J else e2
def B4(p:EM):af (af EM):=
 Fe p fW dy dy
def arL:An:=(cA 2 (.two (cA 2 (.two (.rb [] 92) .no)) .no))
def CC:=bX (B4)
structure DJ where
 (t0 t10:List bf)
 (t11 t12:Int)
def aeO:Td 0 DJ:= .c [] [0,10,11,12] (.r 0 0 (ec 0 (ql 108) (ec 10 (ql 108) (ec 11 aU (ec 12 aU en)))) sn (λz=>⟨z.1.1,z.1.2.1,z.1.t.1,z.1.t.2.1⟩) (λx=>((x.t0,x.t10,x.t11,x.t12,()),(()))))
def Nc{α:Type}(p:DJ)(go:DJ->af α)(e1 e2 e3 e4 e5:af α):af α:=
 bif w9 (p.t12<p.t11)then if 0<=p.t12/\p.t12<zZ p.t10 then match ab4 p.t10[zQ p.t12]!.fName with|J=>J|M r1=>bif bif r1 then O else Z then e1 else if 0<=p.t12/\p.t12<=zZ p.t0 then match amZ (List.take p.t12.toNat p.t0) p.t10[zQ p.t12]! with|J=>J|M r2=>bif r2 then e2 else match (bif w9 (p.t10[zQ p.t12]!.bQ<0)then M Z else M (w9 (3<p.t10[zQ p.t12]!.bQ)))with|J=>J|M r3=>bif r3 then e3 else bif bif QX p.t10[zQ p.t12]!.aC p.t10[zQ p.t12]!.au then O else Z then e4 else match (bif bif w9 (p.t10[zQ p.t12]!.bQ=0)then O else Z then M (bif w9 (p.t10[zQ p.t12]!.eB=0)then O else Z)else M O)with|J=>J|M r4=>bif r4 then e4 else match (bif w9 (p.t10[zQ p.t12]!.bQ=0)then bif w9 (p.t10[zQ p.t12]!.eB<p.t10[zQ p.t12]!.aC)then M Z else M (w9 (p.t10[zQ p.t12]!.au<p.t10[zQ p.t12]!.eB))else M O)with|J=>J|M r5=>bif r5 then e4 else go (DJ.mk p.t0 p.t10 p.t11 (ak (p.t12+1)))else J else J else e5
def HU(p:DJ):af (af DJ):=
 Nc p fW dy dy dy dy dy
def aq8:An:=(cA 2 (.two (cA 6 (.two (.rb [] 29) (noTwo (.two (cA 2 (.two (.rb [] 38) (noTwo (.rb [] 38)))) .no)))) .no))
def W7:=bX (HU)
abbrev E98:=Int
def d98:Td 0 E98:=dW 2
def aml:∀f∈([]:aa Nat),bH (F98) f:=az
def m98(a0:aa bf):af E98:=
 match W7 (DJ.mk a0 a0 (zZ a0) 0)with|J=>J|M r8=>Nc r8 (λ_=>J) (M 7) (M 8) (M 1) (M 3) (match CC (EM.mk r8.t0 [1,2,3] (3:Int) 0)with|J=>J|M r14=>Fe r14 (λ_=>J) (M 4) (M 0))
def e98:=eL va 98 O (lc (ql 108) ln) d98 (λg=>m98 g.1)
def ar1:EO e98:=λh=>kL (F:=F98) (an:=(noTwo (.two (noTwo (aeO.lp W7 aq8)) (.two (noTwo (aez.lp CC arL)) .no)))) (l:=[(bz f98 0,(aeO.lp W7 aq8)),(.skip,(.rb [] 29)),(.skip,(.rb [] 38)),(.skip,(.rb [] 38)),(bz f98 1,(aez.lp CC arL)),(.skip,(.rb [] 92))]) func98 (ajh (XQ (akx (Wb aP)))) (aA (aO aeO) (aA aml (aA aml (aA aml (aA (aO aez) (aA aml az)))))) h
abbrev aFe:=Bool
def d167:Td 0 aFe:=iu 3
def akg(a0:dO)(c0:dO):aFe:=
 a0.fName.toList==c0.fName.toList
def aJE:=eL va 167 O (lc (qg 116) (lc (qr (lg 116)) ln)) d167 (λg=>M (akg g.1 g.2.1))
def Xg:EO aJE:=λh=>kL (an:= .no) func167 aP az h
structure ud where
 t0:List dO
 sO:ByteArray
 (uI uL uD tK:Int)
 SY:List ay
 (t7 t8:Int)
def Sg:Td 0 ud:= .c [] [0,1,7,8] (.r 0 0 (ec 0 (ql 116) (ec 1 (qf 167 (lc (qr (lc qs (dX (dX (dX (dX (lc (ql 106) ln))))))) ln)) (ec 7 aU (ec 8 aU en)))) sn (λz=>⟨z.1.1,z.1.2.1.1.1,z.1.2.1.1.2.1,z.1.2.1.1.t.1,z.1.2.1.1.t.2.1,z.1.2.1.1.q.1,z.1.2.1.1.q.2.1,z.1.t.1,z.1.t.2.1⟩) (λx=>((x.t0,((x.sO,x.uI,x.uL,x.uD,x.tK,x.SY,()),()),x.t7,x.t8,()),(()))))
def Fq{α:Type}(p:ud)(go:ud->af α)(e1 e2:af α):af α:=
 bif w9 (p.t8<p.t7)then if 0<=p.t8/\p.t8<zZ p.t0 then bif akg (dO.mk p.t0[zQ p.t8]!.fName p.t0[zQ p.t8]!.aC p.t0[zQ p.t8]!.au (ay.mk p.t0[zQ p.t8]!.aB.bA p.t0[zQ p.t8]!.aB.fN p.t0[zQ p.t8]!.aB.ax)) (dO.mk p.sO p.uI p.uL (ay.mk p.uD p.tK p.SY))then e1 else go (ud.mk p.t0 p.sO p.uI p.uL p.uD p.tK p.SY p.t7 (ak (p.t8+1)))else J else e2
def K4(p:ud):af (af ud):=
 Fq p fW dy dy
def Md:=bX (K4)
abbrev aB5:=Int
def d227:Td 0 aB5:=dW 4
def awN(a0:aa dO)(a1_0:dO):af aB5:=
 match Md (ud.mk a0 a1_0.fName a1_0.aC a1_0.au a1_0.aB.bA a1_0.aB.fN a1_0.aB.ax (zZ a0) 0)with|J=>J|M r1=>Fq r1 (λ_=>J) (M (r1.t8)) (M (-1))
def aLg:=eL va 227 Z (lc (ql 116) (lc (qf 167 (lc (qr (lg 116)) ln)) ln)) d227 (λg=>awN g.1 g.2.1.1)
def alw:EO aLg:=λh=>kL (an:=(noTwo (.two (noTwo (Sg.lp Md .no)) .no))) (l:=[(bz f227 0,(Sg.lp Md .no))]) func227 (Xg aP) (aA (aO Sg) az) h
abbrev aFP:=Bool
def d168:Td 0 aFP:=iu 4
def ajF(a0:aa dO)(a1_0:dO):af aFP:=
 match awN a0 (dO.mk a1_0.fName a1_0.aC a1_0.au (ay.mk a1_0.aB.bA a1_0.aB.fN a1_0.aB.ax))with|J=>J|M r1=>M (w9 (0<=r1))
def aII:=eL va 168 Z (lc (ql 116) (lc (qf 167 (lc (qr (lg 116)) ln)) ln)) d168 (λg=>ajF g.1 g.2.1.1)
def alz:EO aII:=λh=>kL (an:= .no) func168 (alw (Xg aP)) az h
def awk:aT:=dz
abbrev aw8:=Int×Int
def d278:Td 0 aw8:= .c [] [2,3] (.r 0 0 (ec 2 aU (ec 3 aU en)) sn (λz=>(z.1.1,z.1.2.1)) (λx=>((x.1,x.2,()),(()))))
def aF2:=gY
def aqa:An:=(noTwo (.two (.two (.rb [] 4) (noTwo (.two (.rb [] 11) (noTwo (.two (.rb [] 18) .no))))) .no))
def afm:∀f∈([]:aa Nat),bH (awk) f:=az
def Qa(a0:Int):aw8:=
 let r1:Bool:=bif w9 (a0=0)then Z else w9 (a0=24);bif r1 then(0,0)else let r2:Bool:=bif w9 (a0=6)then Z else w9 (a0=7);bif r2 then(1,1)else let r3:Bool:=bif w9 (8<=a0)then w9 (a0<=22)else O;bif r3 then(2,2)else bif w9 (a0=23)then(3,3)else bif w9 (a0=25)then(2,33)else(-1,-1)
def aKk(a0:Int):bY va (awk) 300 (aqa) 278 (aF2.c (a0,())) [] 0 d278.rd=M (Qa a0):=by
 refine Eq.trans (b:=(
  match bif w9 (a0=0)then M (Z)else M (w9 (a0=24))with|J=>J|M r1=>bif r1 then M ((0,0))else match bif w9 (a0=6)then M (Z)else M (w9 (a0=7))with|J=>J|M r2=>bif r2 then M ((1,1))else match bif w9 (8<=a0)then M (w9 (a0<=22))else M (O)with|J=>J|M r3=>bif r3 then M ((2,2))else bif w9 (a0=23)then M ((3,3))else bif w9 (a0=25)then M ((2,33))else M ((-1,-1)):af aw8)) aL ?_
 simp only[Qa,b6,cw]
def ay3:=eL va 278 O aF2 d278 (λg=>M (Qa g.1))
def anT:EO ay3:=λh=>kL (F:=awk) (an:=aqa) (l:=[(.skip,(.rb [] 4)),(.skip,(.rb [] 11)),(.skip,(.rb [] 18))]) func278 aP (aA afm (aA afm (aA afm az))) h (c:=λg=>aKk g.1)
abbrev amX:=Bool
def d228:Td 0 amX:=iu 6
def aFI:=akZ
abbrev AT:Type:=(aa bf)->ay->Bool->af amX
def av6(zf:AT):aT->aT:=eL va 228 O aFI d228 (λg=>zf g.1 g.2.1 g.2.2.1)
def akl(zf:AT):Prop:=HL va 228 aFI d228 (λg=>zf g.1 g.2.1 g.2.2.1)
def Wj{zf:AT}(hM:akl zf):EO (av6 zf):=fI (sc:=sB) dQ hM ⟨_,func228,aL,aL⟩ (λ_=>aL) (λ_=>aL)
def atE(M228:AT):aT:=(ay3 (av6 M228 dz))
def am1{M228}(h228:akl M228):bK va (atE M228):=(anT (Wj h228 aP))
structure oh where
 t0:List bf
 t2:Bool
 t65:List ay
 (t66 t67:Int)
def Sq:Td 0 oh:= .c [] [0,2,65,66,67] (.r 0 0 (ec 0 (ql 108) (ec 2 qb (ec 65 (ql 106) (ec 66 aU (ec 67 aU en))))) sn (λz=>⟨z.1.1,z.1.2.1,z.1.t.1,z.1.t.2.1,z.1.q.1⟩) (λx=>((x.t0,x.t2,x.t65,x.t66,x.t67,()),(()))))
def sX{α:Type}(M228:AT)(p:oh)(go:oh->af α)(e1 e2:af α):af α:=
 bif w9 (p.t67<p.t66)then if 0<=p.t67/\p.t67<zZ p.t65 then match M228 p.t0 (ay.mk p.t65[zQ p.t67]!.bA p.t65[zQ p.t67]!.fN p.t65[zQ p.t67]!.ax) p.t2 with|J=>J|M r1=>bif bif r1 then O else Z then e1 else go (oh.mk p.t0 p.t2 p.t65 p.t66 (ak (p.t67+1)))else J else e2
def Kn(M228:AT)(p:oh):af (af oh):=
 sX M228 p fW dy dy
def Bl(M228:AT):=bX (Kn M228)
def azP(M228:AT):An:=(cA 2 (.two (.two (.rb [] 32) .no) (.two (cA 4 (.two (.two (.rb [] 63) .no) .no)) (.two (noTwo (Sq.lp (Bl M228) .no)) .no))))
def aoB{M228}:∀f∈([]:aa Nat),bH (atE M228) f:=az
def aFD(M228:AT):dB va (atE M228) 0 300 228 (azP M228):=bF (l:=[(.skip,(.rb [] 32)),(.skip,(.rb [] 63)),(bz f228 0,(Sq.lp (Bl M228) .no))]) func228 (aY aL) aL (aA aoB (aA aoB (aA (aO Sq) az)))
def arR(M228:AT)(a0:aa bf)(a1:ay)(a2:Bool):af amX:=
 match (bif w9 ((Qa a1.bA).fst<0)then M Z else bif w9 ((zZ a1.ax:Int)<(Qa a1.bA).fst)then M Z else M (w9 ((Qa a1.bA).snd<zZ a1.ax)))with|J=>J|M r2=>bif r2 then M O else bif w9 (a1.bA=0)then match Bl M228 (oh.mk a0 a2 a1.ax (zZ a1.ax) 0)with|J=>J|M r3=>sX M228 r3 (λ_=>J) (M O) (M Z)else bif w9 (a1.bA=24)then match (bif w9 (a1.fN<0)then M Z else bif w9 (zZ a0<=a1.fN)then M Z else bif a2 then if 0<=a1.fN/\a1.fN<zZ a0 then M (w9 (a0[a1.fN.toNat]!.bQ=0))else J else M O)with|J=>J|M r5=>bif r5 then M O else match Bl M228 (oh.mk a0 a2 a1.ax (zZ a1.ax) 0)with|J=>J|M r6=>sX M228 r6 (λ_=>J) (M O) (M Z)else bif bif w9 (a1.fN=0)then O else Z then M O else match Bl M228 (oh.mk a0 a2 a1.ax (zZ a1.ax) 0)with|J=>J|M r8=>sX M228 r8 (λ_=>J) (M O) (M Z)
def aqx:Nat->AT
 |0=>(λ_ _ _=>J)
 |n+1=>(arR (aqx n))
def aa9(n:Nat):AT:=(aqx n)
def PX:∀n,akl (aa9 n)
 |0=>λ_ _ h=>(by cases h)
 |n+1=>fo (am1 (PX n)) (aFD (aa9 n)) (λ_=>aL) (λ_=>aL) λ_=>aL
def aic:AT:=λa0 a1 a2=>lim (λn=>aa9 n a0 a1 a2)
def ajY:akl aic:=λg b h=>(bW h).elim λn=>PX n g b
def aJm(F:aT):aT:=av6 aic F
def ajX:EO aJm:=Wj ajY
abbrev aC3:=Int
def d298:Td 0 aC3:=dW 4
def AW(a0:Int)(a1:Int):aC3:=
 ak (a0*a1)
def aE7:=eL va 298 O uS d298 (λg=>M (AW g.1 g.2.1))
def W2:EO aE7:=λh=>kL (an:= .no) func298 aP az h
def aIf:aT:=dz
abbrev axn:=Span
def d299:Td 0 axn:= .c [] [4] (.r 0 1 (ec 4 (qp 0 0) en) (sb 0 317 (lg 317) sn) (λz=>z.2.1) (λx=>(((),()),(x,()))))
def aEP:=(lc (qg 317) (lc (qg 317) ln))
def arj:An:= .no
def Y1(a0:Span)(a1:Span):axn:=
 Span.mk (if a1.aC<a0.aC then a1.aC else a0.aC) (if a0.au<a1.au then a1.au else a0.au)
def aJI(a0:Span)(a1:Span):bY va (aIf) 300 (arj) 299 (aEP.c (a0,a1,())) [] 0 d299.rd=M (Y1 a0 a1):=by
 refine Eq.trans (b:=(
  M (Span.mk (if a1.aC<a0.aC then a1.aC else a0.aC) (if a0.au<a1.au then a1.au else a0.au)):af axn)) aL ?_
 simp only[Y1,b6,cw]
def aBM:=eL va 299 O aEP d299 (λg=>M (Y1 g.1 g.2.1))
def X5:EO aBM:=λh=>kL (an:=arj) func299 aP az h (c:=λg=>aJI g.1 g.2.1)
structure uz where
 t38:List Int
 (t39 t40:Int)
 (b0 b1:Span)
def S9:Td 0 uz:= .c [] [6,8,38,39,40] (.r 0 3 (ec 6 (qp 0 0) (ec 8 (qp 1 0) (ec 38 (qo 2) (ec 39 aU (ec 40 aU en))))) (sb 0 317 (lg 317) (sb 1 317 (lg 317) (sr 2 3 sn))) (λz=>⟨z.t.2.1,z.1.t.2.1,z.1.q.1,z.2.1,z.t.1⟩) (λx=>(((),(),(),x.t39,x.t40,()),(x.b0,x.b1,x.t38,()))))
def ua{α:Type}(p:uz)(go:uz->af α)(e1:af α):af α:=
 bif w9 (p.t40<p.t39)then if 0<=p.t40/\p.t40<zZ p.t38 then if 3=3/\zQ p.t40<zZ p.t38 then go (uz.mk p.t38 p.t39 (ak (p.t40+1)) p.b0 (Y1 p.b1 (Span.mk p.t38[zQ p.t40]! p.t38[zQ p.t40]!)))else J else J else e1
def p7(p:uz):af (af uz):=
 ua p fW dy
def FY:=bX (p7)
abbrev aBO:=Span
def d297:Td 0 aBO:= .c [] [6] (.r 0 1 (ec 6 (qp 0 0) en) (sb 0 317 (lg 317) sn) (λz=>z.2.1) (λx=>(((),()),(x,()))))
def amI(a0:Span)(a1:Span):af aBO:=
 match FY (uz.mk [AW a0.aC a1.au,AW a0.au a1.aC,AW a0.au a1.au] (↑[AW a0.aC a1.au,AW a0.au a1.aC,AW a0.au a1.au].length:Int) 0 (Span.mk 0 0) (Span.mk (AW a0.aC a1.aC) (AW a0.aC a1.aC)))with|J=>J|M r1=>ua r1 (λ_=>J) (M (r1.b1))
def aEW:=eL va 297 O (lc (qg 317) (lc (qg 317) (lc (qf 298 ln) ln))) d297 (λg=>amI g.1 g.2.1)
def aku:EO aEW:=λh=>kL (an:=(cA 3 (.two (noTwo (S9.lp FY .no)) .no))) (l:=[(bz f297 0,(S9.lp FY .no))]) func297 (X5 (W2 aP)) (aA (aO S9) az) h
def aEM:aT:=(aBM (aE7 (aEW dz)))
structure qG where
 t207:List Span
 (t208 t209:Int)
 (b0 b1:Span)
def Q3:Td 0 qG:= .c [] [6,9,207,208,209] (.r 0 2 (ec 6 (qp 0 0) (ec 9 (qp 1 0) (ec 207 (ql 317) (ec 208 aU (ec 209 aU en))))) (sb 0 317 (lg 317) (sb 1 317 (lg 317) sn)) (λz=>⟨z.1.t.1,z.1.t.2.1,z.1.q.1,z.2.1,z.t.1⟩) (λx=>(((),(),x.t207,x.t208,x.t209,()),(x.b0,x.b1,()))))
def BY{α:Type}(p:qG)(go:qG->af α)(e1:af α):af α:=
 bif w9 (p.t209<p.t208)then if 0<=p.t209/\p.t209<zZ p.t207 then go (qG.mk p.t207 p.t208 (ak (p.t209+1)) p.b0 (Y1 p.b1 p.t207[zQ p.t209]!))else J else e1
def JN(p:qG):af (af qG):=
 BY p fW dy
def Fy:=bX (JN)
abbrev aBP:=Span
def d279:Td 0 aBP:= .c [] [6] (.r 0 1 (ec 6 (qp 0 0) en) (sb 0 317 (lg 317) sn) (λz=>z.2.1) (λx=>(((),()),(x,()))))
def aAh:∀f∈([]:aa Nat),bH (aEM) f:=az
def aiG(a0:aa bf)(a1:ay)(a2:aa Span):af aBP:=
 bif w9 (a1.bA=0)then M (Span.mk a1.fN a1.fN)else bif w9 (a1.bA=24)then if 0<=a1.fN/\a1.fN<zZ a0 then if 0<=a1.fN/\a1.fN<zZ a0 then M (Span.mk a0[a1.fN.toNat]!.aC a0[a1.fN.toNat]!.au)else J else J else bif w9 (a1.bA=6)then if(0:Int)<=(0:Int)/\(0:Int)<zZ a2 then if(0:Int)<=(0:Int)/\(0:Int)<zZ a2 then M (Span.mk (ak (0-a2[0]!.au)) (ak (0-a2[0]!.aC)))else J else J else bif w9 (a1.bA=8)then if(0:Int)<=(0:Int)/\(0:Int)<zZ a2 then if(0:Int)<=(1:Int)/\(1:Int)<zZ a2 then if(0:Int)<=(0:Int)/\(0:Int)<zZ a2 then if(0:Int)<=(1:Int)/\(1:Int)<zZ a2 then M (Span.mk (ak (a2[0]!.aC+a2[1]!.aC)) (ak (a2[0]!.au+a2[1]!.au)))else J else J else J else J else bif w9 (a1.bA=9)then if(0:Int)<=(0:Int)/\(0:Int)<zZ a2 then if(0:Int)<=(1:Int)/\(1:Int)<zZ a2 then if(0:Int)<=(0:Int)/\(0:Int)<zZ a2 then if(0:Int)<=(1:Int)/\(1:Int)<zZ a2 then M (Span.mk (ak (a2[0]!.aC-a2[1]!.au)) (ak (a2[0]!.au-a2[1]!.aC)))else J else J else J else J else bif w9 (a1.bA=10)then if(0:Int)<=(0:Int)/\(0:Int)<zZ a2 then if(0:Int)<=(1:Int)/\(1:Int)<zZ a2 then match amI a2[0]! a2[1]! with|J=>J|M r1=>M (r1)else J else J else bif w9 (a1.bA=11)then if(0:Int)<=(0:Int)/\(0:Int)<zZ a2 then if(0:Int)<=(0:Int)/\(0:Int)<zZ a2 then match (if(0:Int)<=(0:Int)/\(0:Int)<zZ a2 then bif w9 (0<=a2[0]!.aC)then if(0:Int)<=(1:Int)/\(1:Int)<zZ a2 then M (w9 (0<=a2[1]!.aC))else J else M O else J)with|J=>J|M r2=>bif r2 then M (Span.mk 0 (if a2[0]!.au<ak (0-a2[0]!.aC)then ak (0-a2[0]!.aC)else a2[0]!.au))else M (Span.mk (ak (0-if a2[0]!.au<ak (0-a2[0]!.aC)then ak (0-a2[0]!.aC)else a2[0]!.au)) (if a2[0]!.au<ak (0-a2[0]!.aC)then ak (0-a2[0]!.aC)else a2[0]!.au))else J else J else bif w9 (a1.bA=12)then if(0:Int)<=(1:Int)/\(1:Int)<zZ a2 then bif w9 (a2[1]!.aC<0)then if(0:Int)<=(1:Int)/\(1:Int)<zZ a2 then if(0:Int)<=(1:Int)/\(1:Int)<zZ a2 then bif w9 (0<a2[1]!.au)then if(0:Int)<=(1:Int)/\(1:Int)<zZ a2 then M (Span.mk (if 0<ak (a2[1]!.aC+1)then 0 else ak (a2[1]!.aC+1)) (if ak (a2[1]!.au-1)<0 then 0 else ak (a2[1]!.au-1)))else J else M (Span.mk (if 0<ak (a2[1]!.aC+1)then 0 else ak (a2[1]!.aC+1)) 0)else J else J else if(0:Int)<=(1:Int)/\(1:Int)<zZ a2 then bif w9 (0<a2[1]!.au)then if(0:Int)<=(1:Int)/\(1:Int)<zZ a2 then M (Span.mk 0 (if ak (a2[1]!.au-1)<0 then 0 else ak (a2[1]!.au-1)))else J else M (Span.mk 0 0)else J else J else bif w9 (a1.bA=21)then if(0:Int)<=(0:Int)/\(0:Int)<zZ a2 then if(0:Int)<=(1:Int)/\(1:Int)<zZ a2 then if(0:Int)<=(0:Int)/\(0:Int)<zZ a2 then if(0:Int)<=(1:Int)/\(1:Int)<zZ a2 then M (Span.mk (if a2[1]!.aC<a2[0]!.aC then a2[1]!.aC else a2[0]!.aC) (if a2[1]!.au<a2[0]!.au then a2[1]!.au else a2[0]!.au))else J else J else J else J else bif w9 (a1.bA=22)then if(0:Int)<=(0:Int)/\(0:Int)<zZ a2 then if(0:Int)<=(1:Int)/\(1:Int)<zZ a2 then if(0:Int)<=(0:Int)/\(0:Int)<zZ a2 then if(0:Int)<=(1:Int)/\(1:Int)<zZ a2 then M (Span.mk (if a2[0]!.aC<a2[1]!.aC then a2[1]!.aC else a2[0]!.aC) (if a2[0]!.au<a2[1]!.au then a2[1]!.au else a2[0]!.au))else J else J else J else J else bif w9 (a1.bA=23)then if(0:Int)<=(1:Int)/\(1:Int)<zZ a2 then if(0:Int)<=(2:Int)/\(2:Int)<=zZ a2 then match Fy (qG.mk (xx 2 a2) (↑(xx 2 a2).length:Int) 0 (Span.mk 0 0) a2[1]!)with|J=>J|M r3=>BY r3 (λ_=>J) (M (r3.b1))else J else J else bif w9 (a1.bA=25)then if(0:Int)<=(1:Int)/\(1:Int)<zZ a2 then if(0:Int)<=(2:Int)/\(2:Int)<=zZ a2 then match Fy (qG.mk (xx 2 a2) (↑(xx 2 a2).length:Int) 0 (Span.mk 0 0) a2[1]!)with|J=>J|M r4=>BY r4 (λ_=>J) (M (r4.b1))else J else J else M (Span.mk 0 1)
def aBD:=eL va 279 O (lc (ql 108) (lc (qg 106) (lc (ql 317) ln))) d279 (λg=>aiG g.1 g.2.1 g.t.1)
def anM:EO aBD:=λh=>kL (F:=aEM) (an:=(noTwo (.two (cA 14 (.two (noTwo (.two (.two (.rb [] 123) .no) .no)) (cA 7 (.two (noTwo (.two (noTwo (Q3.lp Fy .no)) .no)) .no)))) .no))) (l:=[(.skip,(.rb [] 123)),(bz f279 0,(Q3.lp Fy .no))]) func279 (X5 (W2 (aku aP))) (aA aAh (aA (aO Q3) az)) h
abbrev amT:=Span×Bool
def d229:Td 0 amT:= .c [] [4,5] (.r 0 1 (ec 4 (qp 0 0) (ec 5 qb en)) (sb 0 317 (lg 317) sn) (λz=>(z.2.1,z.1.2.1)) (λx=>(((),x.2,()),(x.1,()))))
def aAA:=(lc (ql 108) Lt)
abbrev AJ:Type:=(aa bf)->ay->af amT
def atp(zf:AJ):aT->aT:=eL va 229 O aAA d229 (λg=>zf g.1 g.2.1)
def als(zf:AJ):Prop:=HL va 229 aAA d229 (λg=>zf g.1 g.2.1)
def WJ{zf:AJ}(hM:als zf):EO (atp zf):=fI (sc:=sB) dQ hM ⟨_,func229,aL,aL⟩ (λ_=>aL) (λ_=>aL)
def aER(M229:AJ):aT:=(aBD (atp M229 dz))
def ans{M229}(h229:als M229):bK va (aER M229):=(anM (WJ h229 aP))
structure tE where
 t0:List bf
 t6:List Span
 t13:List ay
 (t14 t15:Int)
 b0:ay
 b1:Span
def RH:Td 0 tE:= .c [] [0,3,4,6,13,14,15] (.t (bT.s 6 [] 317) (.c [] [0,3,4,6,13,14,15] (.r 0 3 (ec 0 (ql 108) (ec 3 (qp 0 0) (ec 4 (qp 1 0) (ec 6 (qo 2) (ec 13 (ql 106) (ec 14 aU (ec 15 aU en))))))) (sb 0 106 (lg 106) (sb 1 317 (lg 317) (sr 2 317 sn))) (λz=>⟨z.1.1,z.t.2.1,z.1.q.1,z.1.q.2.1,z.1.q.t.1,z.2.1,z.t.1⟩) (λx=>((x.t0,(),(),(),x.t13,x.t14,x.t15,()),(x.b0,x.b1,x.t6,()))))))
def AB{α:Type}(M229:AJ)(p:tE)(go:tE->af α)(e1 e2:af α):af α:=
 bif w9 (p.t15<p.t14)then if 0<=p.t15/\p.t15<zZ p.t13 then match M229 p.t0 (ay.mk p.t13[zQ p.t15]!.bA p.t13[zQ p.t15]!.fN p.t13[zQ p.t15]!.ax)with|J=>J|M r1=>bif bif r1.snd then O else Z then e1 else if(p.t6++[r1.fst]).length<=1073741824 then go (tE.mk p.t0 (p.t6++[r1.fst]) p.t13 p.t14 (ak (p.t15+1)) (ay.mk p.b0.bA p.b0.fN p.b0.ax) p.b1)else J else J else e2
def DU(M229:AJ)(p:tE):af (af tE):=
 AB M229 p fW dy dy
def JX(M229:AJ):=bX (DU M229)
def aBk(M229:AJ):An:=(cA 2 (.two (noTwo (RH.lp (JX M229) .no)) .no))
def aED(M229:AJ):dB va (aER M229) 0 300 229 (aBk M229):=bF (l:=[(bz f229 0,(RH.lp (JX M229) .no))]) func229 (aY aL) aL (aA (aO RH) az)
def axH(M229:AJ)(a0:aa bf)(a1:ay):af amT:=
 match JX M229 (tE.mk a0 [] a1.ax (zZ a1.ax) 0 (ay.mk a1.bA a1.fN a1.ax) (Span.mk 0 0))with|J=>J|M r2=>AB M229 r2 (λ_=>J) (M (Span.mk 0 0,O)) (match aiG r2.t0 (ay.mk r2.b0.bA r2.b0.fN r2.b0.ax) r2.t6 with|J=>J|M r4=>bif w9 (-1048576<=r4.aC)then M ((r4,w9 (r4.au<=1048576)))else M (r4,O))
def aqZ:Nat->AJ
 |0=>(λ_ _=>J)
 |n+1=>(axH (aqZ n))
def ahr(n:Nat):AJ:=(aqZ n)
def OQ:∀n,als (ahr n)
 |0=>λ_ _ h=>(by cases h)
 |n+1=>fo (ans (OQ n)) (aED (ahr n)) (λ_=>aL) (λ_=>aL) λ_=>aL
def am9:AJ:=λa0 a1=>lim (λn=>ahr n a0 a1)
def alo:als am9:=λg b h=>(bW h).elim λn=>OQ n g b
def aJL(F:aT):aT:=atp am9 F
def aiF:EO aJL:=WJ alo
abbrev asn:=Int
def d169:Td 0 asn:=dW 6
def YR(a0:aa bf)(a1:ay)(a2:Bool):af asn:=
 match aic a0 (ay.mk a1.bA a1.fN a1.ax) a2 with|J=>J|M r1=>bif bif r1 then O else Z then M (1)else match am9 a0 (ay.mk a1.bA a1.fN a1.ax)with|J=>J|M r2=>bif bif r2.snd then O else Z then M (3)else M (0)
def avh:=eL va 169 O akZ d169 (λg=>YR g.1 g.2.1 g.t.1)
def Wz:EO avh:=λh=>kL (an:= .no) func169 (aiF (ajX aP)) az h
def ZT:EP avh:=λh=>kP h
structure Ei where
 t8:List dO
 (t9 t10:Int)
 b0:bn
def ag3:Td 0 Ei:= .c [] [1,8,9,10] (.r 0 1 (ec 1 (qp 0 0) (ec 8 (ql 116) (ec 9 aU (ec 10 aU en)))) (sb 0 26 (lg 26) sn) (λz=>⟨z.1.2.1,z.1.t.1,z.1.t.2.1,z.2.1⟩) (λx=>(((),x.t8,x.t9,x.t10,()),(x.b0,()))))
def N7{α:Type}(p:Ei)(go:Ei->af α)(e1:af α)(e2:af α)(e3:af α)(e4:asn->af α)(e5:af α):af α:=
 bif w9 (p.t10<p.t9)then if 0<=p.t10/\p.t10<zZ p.t8 then match ab4 p.t8[zQ p.t10]!.fName with|J=>J|M r1=>bif bif r1 then O else Z then e1 else if 0<=p.t10/\p.t10<=zZ p.b0.ai then match ajF (List.take p.t10.toNat p.b0.ai) (dO.mk p.t8[zQ p.t10]!.fName p.t8[zQ p.t10]!.aC p.t8[zQ p.t10]!.au (ay.mk p.t8[zQ p.t10]!.aB.bA p.t8[zQ p.t10]!.aB.fN p.t8[zQ p.t10]!.aB.ax))with|J=>J|M r2=>bif r2 then e2 else bif bif QX p.t8[zQ p.t10]!.aC p.t8[zQ p.t10]!.au then O else Z then e3 else match YR p.b0.ah (ay.mk p.t8[zQ p.t10]!.aB.bA p.t8[zQ p.t10]!.aB.fN p.t8[zQ p.t10]!.aB.ax) Z with|J=>J|M r3=>bif bif w9 (r3=0)then O else Z then e4 r3 else go (Ei.mk p.t8 p.t9 (ak (p.t10+1)) p.b0)else J else J else e5
def Ig(p:Ei):af (af Ei):=
 N7 p (λs=>M (M s)) (M J) (M J) (M J) (λ_=>M J) (M J)
def Xy:=bX (Ig)
abbrev E99:=Int
def d99:Td 0 E99:=dW 2
def m99(a0:bn):af E99:=
 match Xy (Ei.mk a0.ai (zZ a0.ai) 0 a0)with|J=>J|M r4=>N7 r4 (λ_=>J) (M 7) (M 8) (M 3) (λr7=>M (r7)) (M 0)
def e99:=eL va 99 O (lc (qg 26) ln) d99 (λg=>m99 g.1)
def axB:EO e99:=λh=>kL (an:=(noTwo (.two (noTwo (ag3.lp Xy .no)) .no))) (l:=[(bz f99 0,(ag3.lp Xy .no))]) func99 (Wz (alz (XQ (Wb aP)))) (aA (aO ag3) az) h
def ayd:aT:=dz
abbrev avT:=Bool
def d230:Td 0 avT:=iu 2
def aBV:=gY
def aqT:An:=(noTwo (.two (.rb [] 2) .no))
def ayX:∀f∈([]:aa Nat),bH (ayd) f:=az
def aab(a0:Int):avT:=
 let r1:Bool:=bif w9 (a0=0)then Z else w9 (a0=5);r1
def aIc(a0:Int):bY va (ayd) 300 (aqT) 230 (aBV.c (a0,())) [] 0 d230.rd=M (aab a0):=by
 refine Eq.trans (b:=(
  match bif w9 (a0=0)then M (Z)else M (w9 (a0=5))with|J=>J|M r1=>M (r1):af avT)) aL ?_
 simp only[aab,b6,cw]
def aui:=eL va 230 O aBV d230 (λg=>M (aab g.1))
def akh:EO aui:=λh=>kL (F:=ayd) (an:=aqT) (l:=[(.skip,(.rb [] 2))]) func230 aP (aA ayX az) h (c:=λg=>aIc g.1)
def mR:EP aui:=λh=>kP h
def avY:aT:=dz
abbrev as1:=Bool
def d231:Td 0 as1:=iu 2
def aEE:=gY
def ard:An:=(noTwo (.two (.rb [] 2) .no))
def aF3:∀f∈([]:aa Nat),bH (avY) f:=az
def abS(a0:Int):as1:=
 let r1:Bool:=bif w9 (a0=4)then Z else w9 (a0=5);r1
def aKa(a0:Int):bY va (avY) 300 (ard) 231 (aEE.c (a0,())) [] 0 d231.rd=M (abS a0):=by
 refine Eq.trans (b:=(
  match bif w9 (a0=4)then M (Z)else M (w9 (a0=5))with|J=>J|M r1=>M (r1):af as1)) aL ?_
 simp only[abS,b6,cw]
def awy:=eL va 231 O aEE d231 (λg=>M (abS g.1))
def amd:EO awy:=λh=>kL (F:=avY) (an:=ard) (l:=[(.skip,(.rb [] 2))]) func231 aP (aA aF3 az) h (c:=λg=>aKa g.1)
def nM:EP awy:=λh=>kP h
def awp:aT:=dz
abbrev avl:=Bool
def d232:Td 0 avl:=iu 2
def aDD:=gY
def aro:An:=(noTwo (.two (.rb [] 2) .no))
def aAD:∀f∈([]:aa Nat),bH (awp) f:=az
def afR(a0:Int):avl:=
 let r1:Bool:=bif w9 (a0=0)then Z else bif w9 (a0=1)then Z else bif w9 (a0=3)then Z else w9 (a0=4);r1
def aK1(a0:Int):bY va (awp) 300 (aro) 232 (aDD.c (a0,())) [] 0 d232.rd=M (afR a0):=by
 refine Eq.trans (b:=(
  match bif w9 (a0=0)then M (Z)else bif w9 (a0=1)then M (Z)else bif w9 (a0=3)then M (Z)else M (w9 (a0=4))with|J=>J|M r1=>M (r1):af avl)) aL ?_
 simp only[afR,b6,cw]
def atW:=eL va 232 O aDD d232 (λg=>M (afR g.1))
def aiD:EO atW:=λh=>kL (F:=awp) (an:=aro) (l:=[(.skip,(.rb [] 2))]) func232 aP (aA aAD az) h (c:=λg=>aK1 g.1)
def ny:EP atW:=λh=>kP h
def aus:aT:=dz
abbrev asj:=Bool
def d233:Td 0 asj:=iu 2
def aFx:=Lt
def aqE:An:=(noTwo (.two (.rb [] 2) .no))
def azB:∀f∈([]:aa Nat),bH (aus) f:=az
def ZW(a0:ay):asj:=
 let r1:Bool:=bif w9 (a0.bA=0)then bif w9 (a0.fN=0)then w9 ((zZ a0.ax:Int)=0)else O else O;r1
def aJ7(a0:ay):bY va (aus) 300 (aqE) 233 (aFx.c (a0,())) [] 0 d233.rd=M (ZW a0):=by
 refine Eq.trans (b:=(
  match bif w9 (a0.bA=0)then bif w9 (a0.fN=0)then M (w9 ((zZ a0.ax:Int)=0))else M (O)else M (O)with|J=>J|M r1=>M (r1):af asj)) aL ?_
 simp only[ZW,b6,cw]
def awd:=eL va 233 O aFx d233 (λg=>M (ZW g.1))
def akN:EO awd:=λh=>kL (F:=aus) (an:=aqE) (l:=[(.skip,(.rb [] 2))]) func233 aP (aA azB az) h (c:=λg=>aJ7 g.1)
def nH:EP awd:=λh=>kP h
structure qE where
 t0:List Int
 (t5 t6:Int)
def RD:Td 0 qE:= .c [] [0,5,6] (.r 0 0 (ec 0 (ql 3) (ec 5 aU (ec 6 aU en))) sn (λz=>⟨z.1.1,z.1.2.1,z.1.t.1⟩) (λx=>((x.t0,x.t5,x.t6,()),(()))))
def Fz{α:Type}(p:qE)(go:qE->af α)(e1 e2:af α):af α:=
 bif w9 (p.t6<p.t5)then bif w9 (0<p.t6)then if 0<=p.t6/\p.t6<zZ p.t0 then if 0<=ak (p.t6-1)/\ak (p.t6-1)<zZ p.t0 then bif w9 (p.t0[zQ p.t6]!<=p.t0[(ak (p.t6-1)).toNat]!)then e1 else go (qE.mk p.t0 p.t5 (ak (p.t6+1)))else J else J else go (qE.mk p.t0 p.t5 (ak (p.t6+1)))else e2
def KQ(p:qE):af (af qE):=
 Fz p fW dy dy
def KB:=bX (KQ)
abbrev aCN:=Bool
def d234:Td 0 aCN:=iu 2
def acZ(a0:aa Int):af aCN:=
 match KB (qE.mk a0 (zZ a0) 0)with|J=>J|M r1=>Fz r1 (λ_=>J) (M O) (M Z)
def aw1:=eL va 234 O (lc (ql 3) ln) d234 (λg=>acZ g.1)
def aoh:EO aw1:=λh=>kL (an:=(noTwo (.two (noTwo (RD.lp KB .no)) .no))) (l:=[(bz f234 0,(RD.lp KB .no))]) func234 aP (aA (aO RD) az) h
def mQ:EP aw1:=λh=>kP h
def aEY:aT:=(aw1 (awd (atW (awy (aui dz)))))
abbrev aEc:=Bool
def d170:Td 0 aEc:=iu 6
def sq:∀f∈([230,231,232,233,234]:aa Nat),bH (aEY) f:=(aA (mQ (nH (ny (nM (mR cU))))) (aA (mQ (nH (ny (nM (mR cU))))) (aA (mQ (nH (ny (nM (mR cU))))) (aA (mQ (nH (ny (nM (mR cU))))) (aA (mQ (nH (ny (nM (mR cU))))) az)))))
def TC(a0:bn)(a1:aM)(a2:Bool):af aEc:=
 match bif w9 (a1.cu<0)then M Z else M (w9 (6<a1.cu))with|J=>J|M r1=>bif r1 then M O else match bif bif aab a1.cu then O else Z then M (bif w9 (a1.bq=0)then O else Z)else M O with|J=>J|M r2=>bif r2 then M O else match bif bif abS a1.cu then O else Z then M (bif w9 (a1.fN=0)then O else Z)else M O with|J=>J|M r3=>bif r3 then M O else match bif bif afR a1.cu then O else Z then M (bif ZW (ay.mk a1.aB.bA a1.aB.fN a1.aB.ax)then O else Z)else M O with|J=>J|M r4=>bif r4 then M O else match bif bif w9 (a1.cu=3)then O else Z then bif bif w9 (a1.cu=4)then O else Z then M (w9 (0<(zZ a1.aQ:Int)))else M O else M O with|J=>J|M r5=>bif r5 then M O else match bif bif w9 (a1.cu=3)then O else Z then M (w9 (0<(zZ a1.aX:Int)))else M O with|J=>J|M r6=>bif r6 then M O else match bif bif w9 (a1.cu=6)then O else Z then M (w9 (0<(zZ a1.aR:Int)))else M O with|J=>J|M r7=>bif r7 then M O else match bif aab a1.cu then bif w9 (a1.bq<0)then M Z else bif w9 (zZ a0.ah<=a1.bq)then M Z else if 0<=a1.bq/\a1.bq<zZ a0.ah then M (bif w9 (a0.ah[a1.bq.toNat]!.bQ=0)then O else Z)else J else M O with|J=>J|M r8=>bif r8 then M O else match bif w9 (a1.cu=5)then bif w9 (a1.fN<0)then M Z else M (w9 (zZ a0.ai<=a1.fN))else M O with|J=>J|M r9=>bif r9 then M O else match bif bif w9 (a1.cu=6)then O else Z then M Z else bif a2 then bif w9 (0<(zZ a1.aR:Int))then bif w9 ((zZ a1.aR:Int)<=32)then if(0:Int)<=(0:Int)/\(0:Int)<zZ a1.aR then bif w9 (0<=a1.aR[zQ 0]!)then match acZ a1.aR with|J=>J|M r10=>M (r10)else M O else J else M O else M O else M O with|J=>J|M r11=>M (r11)
def axr:=eL va 170 O (lc (qg 26) (lc (qg 111) (lc qb ln))) d170 (λg=>TC g.1 g.2.1 g.t.1)
def ajB:EO axr:=λh=>kL (F:=aEY) (an:=(cA 2 (.two (.two (.two (.rb [230,231,232,233,234] 10) (noTwo (.two (.rb [230,231,232,233,234] 10) (noTwo (.two (.rb [230,231,232,233,234] 10) (noTwo (.two (.rb [230,231,232,233,234] 10) (noTwo (.two (.rb [230,231,232,233,234] 10) (noTwo (.two (.rb [230,231,232,233,234] 10) (noTwo (.two (.rb [230,231,232,233,234] 10) (noTwo (.two (.rb [230,231,232,233,234] 10) (noTwo (.rb [230,231,232,233,234] 10))))))))))))))))) .no) (.two (.rb [230,231,232,233,234] 6) .no)))) (l:=[(.skip,(.rb [230,231,232,233,234] 10)),(.skip,(.rb [230,231,232,233,234] 10)),(.skip,(.rb [230,231,232,233,234] 10)),(.skip,(.rb [230,231,232,233,234] 10)),(.skip,(.rb [230,231,232,233,234] 10)),(.skip,(.rb [230,231,232,233,234] 10)),(.skip,(.rb [230,231,232,233,234] 10)),(.skip,(.rb [230,231,232,233,234] 10)),(.skip,(.rb [230,231,232,233,234] 10)),(.skip,(.rb [230,231,232,233,234] 6))]) func170 (aoh (akN (aiD (amd (akh aP))))) (aA sq (aA sq (aA sq (aA sq (aA sq (aA sq (aA sq (aA sq (aA sq (aA sq az)))))))))) h
def aah:EP axr:=λh=>kP h
def aEv:aT:=dz
abbrev aDO:=Bool
def d171:Td 0 aDO:=iu 2
def arD:∀f∈([]:aa Nat),bH (aEv) f:=az
def TY(a0:aM):af aDO:=
 bif w9 (a0.cu=2)then match bif w9 (a0.aW<0)then M Z else bif w9 (67108864<a0.aW)then M Z else bif w9 (a0.cu=4)then bif w9 (a0.fN<0)then M Z else M (w9 (4096<a0.fN))else M O with|J=>J|M r1=>bif r1 then M O else match bif bif w9 (a0.cu=6)then O else Z then M Z else if 0<=ak ((zZ a0.aR:Int)-(1:Int))/\ak ((zZ a0.aR:Int)-(1:Int))<zZ a0.aR then M (w9 (a0.aR[(ak ((zZ a0.aR:Int)-1)).toNat]!<=67108864))else J with|J=>J|M r2=>M (r2)else match bif w9 (a0.aW<0)then M Z else bif w9 (10000<a0.aW)then M Z else bif w9 (a0.cu=4)then bif w9 (a0.fN<0)then M Z else M (w9 (4096<a0.fN))else M O with|J=>J|M r3=>bif r3 then M O else match bif bif w9 (a0.cu=6)then O else Z then M Z else if 0<=ak ((zZ a0.aR:Int)-(1:Int))/\ak ((zZ a0.aR:Int)-(1:Int))<zZ a0.aR then M (w9 (a0.aR[(ak ((zZ a0.aR:Int)-1)).toNat]!<=67108864))else J with|J=>J|M r4=>M (r4)
def auX:=eL va 171 O (lc (qg 111) ln) d171 (λg=>TY g.1)
def aiV:EO auX:=λh=>kL (F:=aEv) (an:=(cA 3 (.two (.two (.rb [] 30) .no) (.two (.rb [] 2) .no)))) (l:=[(.skip,(.rb [] 30)),(.skip,(.rb [] 2))]) func171 aP (aA arD (aA arD az)) h
def Zw:EP auX:=λh=>kP h
abbrev TW:=Int
def d100:Td 0 TW:=dW 6
def az6:=(lc (qg 26) (lc (ql 111) (lc qb ln)))
abbrev qR:Type:=bn->(aa aM)->Bool->af TW
def ala(zf:qR):aT->aT:=eL va 100 O az6 d100 (λg=>zf g.1 g.2.1 g.2.2.1)
def YW{zf:qR}{F:aT}{f:Nat}(h:bH F f):bH (ala zf F) f:=jf h (λ_=>aL)
def aib(zf:qR):Prop:=HL va 100 az6 d100 (λg=>zf g.1 g.2.1 g.2.2.1)
def Wn{zf:qR}(hM:aib zf):EO (ala zf):=fI (sc:=sB) dQ hM ⟨_,func100,aL,aL⟩ (λ_=>aL) (λ_=>aL)
def avt(M100:qR):aT:=(auX (axr (avh (ala M100 dz))))
def ajN{M100}(h100:aib M100):bK va (avt M100):=(aiV (ajB (Wz (Wn h100 aP))))
structure qH where
 t1:List aM
 t2:Bool
 t13:List aM
 (t14 t15:Int)
 t47:List (List aM)
 (t48 t49:Int)
 b0:bn
def RT:Td 0 qH:= .c [] [1,2,3,13,14,15,47,48,49] (.r 0 2 (ec 1 (ql 111) (ec 2 qb (ec 3 (qp 0 0) (ec 13 (ql 111) (ec 14 aU (ec 15 aU (ec 47 (qo 1) (ec 48 aU (ec 49 aU en))))))))) (sb 0 26 (lg 26) (sr 1 24 sn)) (λz=>⟨z.1.1,z.1.2.1,z.1.t.2.1,z.1.q.1,z.1.q.2.1,z.t.1,z.1.q.t.2.1,z.1.q.q.1,z.2.1⟩) (λx=>((x.t1,x.t2,(),x.t13,x.t14,x.t15,(),x.t48,x.t49,()),(x.b0,x.t47,()))))
def p9{α:Type}(M100:qR)(p:qH)(go:qH->af α)(e1:TW->af α)(e2:af α):af α:=
 bif w9 (p.t49<p.t48)then if 0<=p.t49/\p.t49<zZ p.t47 then if 24=24/\zQ p.t49<zZ p.t47 then match M100 p.b0 p.t47[zQ p.t49]! O with|J=>J|M r8=>bif bif w9 (r8=0)then O else Z then e1 r8 else go (qH.mk p.t1 p.t2 p.t13 p.t14 p.t15 p.t47 p.t48 (ak (p.t49+1)) p.b0)else J else J else e2
def Ba(M100:qR)(p:qH):af (af qH):=
 p9 M100 p (λs=>M (M s)) (λ_=>M J) (M J)
def BE(M100:qR):=bX (Ba M100)
structure GM where
 t1:List aM
 t2:Bool
 t13:List aM
 (t14 t15:Int)
 b0:bn
def Tj:Td 0 GM:= .c [] [1,2,3,13,14,15] (.r 0 1 (ec 1 (ql 111) (ec 2 qb (ec 3 (qp 0 0) (ec 13 (ql 111) (ec 14 aU (ec 15 aU en)))))) (sb 0 26 (lg 26) sn) (λz=>⟨z.1.1,z.1.2.1,z.1.t.2.1,z.1.q.1,z.1.q.2.1,z.2.1⟩) (λx=>((x.t1,x.t2,(),x.t13,x.t14,x.t15,()),(x.b0,()))))
def Az(M100:qR)(p:GM):af (af GM):=
 bif w9 (p.t15<p.t14)then if 0<=p.t15/\p.t15<zZ p.t13 then match (bif p.t2 then match TC p.b0 (aM.mk p.t13[zQ p.t15]!.cu p.t13[zQ p.t15]!.aW p.t13[zQ p.t15]!.bq p.t13[zQ p.t15]!.fN (ay.mk p.t13[zQ p.t15]!.aB.bA p.t13[zQ p.t15]!.aB.fN p.t13[zQ p.t15]!.aB.ax) p.t13[zQ p.t15]!.aQ p.t13[zQ p.t15]!.aX p.t13[zQ p.t15]!.aR) (w9 (p.t15=ak ((zZ p.t1:Int)-1)))with|J=>J|M r1=>M (bif r1 then O else Z)else match TC p.b0 (aM.mk p.t13[zQ p.t15]!.cu p.t13[zQ p.t15]!.aW p.t13[zQ p.t15]!.bq p.t13[zQ p.t15]!.fN (ay.mk p.t13[zQ p.t15]!.aB.bA p.t13[zQ p.t15]!.aB.fN p.t13[zQ p.t15]!.aB.ax) p.t13[zQ p.t15]!.aQ p.t13[zQ p.t15]!.aX p.t13[zQ p.t15]!.aR) O with|J=>J|M r2=>M (bif r2 then O else Z))with|J=>J|M r3=>bif r3 then M (J)else match TY (aM.mk p.t13[zQ p.t15]!.cu p.t13[zQ p.t15]!.aW p.t13[zQ p.t15]!.bq p.t13[zQ p.t15]!.fN (ay.mk p.t13[zQ p.t15]!.aB.bA p.t13[zQ p.t15]!.aB.fN p.t13[zQ p.t15]!.aB.ax) p.t13[zQ p.t15]!.aQ p.t13[zQ p.t15]!.aX p.t13[zQ p.t15]!.aR)with|J=>J|M r4=>bif bif r4 then O else Z then M (J)else match YR p.b0.ah (ay.mk p.t13[zQ p.t15]!.aB.bA p.t13[zQ p.t15]!.aB.fN p.t13[zQ p.t15]!.aB.ax) O with|J=>J|M r5=>bif bif w9 (r5=0)then O else Z then M (J)else match BE M100 (qH.mk p.t1 p.t2 p.t13 p.t14 p.t15 [p.t13[zQ p.t15]!.aQ,p.t13[zQ p.t15]!.aX] (↑[p.t13[zQ p.t15]!.aQ,p.t13[zQ p.t15]!.aX].length:Int) 0 p.b0)with|J=>J|M r6=>p9 M100 r6 (λ_=>J) (λr7=>M (J)) (M (M (GM.mk r6.t1 r6.t2 r6.t13 r6.t14 (ak (r6.t15+1)) r6.b0)))else J else M (J)
def adV(M100:qR):An:=(cA 2 (.two (noTwo (.two (.two (.rb [170] 31) .no) (cA 3 (RT.lp (BE M100) .no)))) .no))
def Kj(M100:qR):=bX (Az M100)
def ayY(M100:qR):An:=(noTwo (.two (noTwo (Tj.lp (Kj M100) (adV M100))) .no))
def aBZ{M100}:∀f∈([170]:aa Nat),bH (avt M100) f:=(aA (Zw (aah (ZT (YW cU)))) az)
def aBe(M100:qR):dB va (avt M100) 0 300 100 (ayY M100):=bF (l:=[(bz f100 0,(Tj.lp (Kj M100) (adV M100))),(.skip,(.rb [170] 31)),(bz f100 1,(RT.lp (BE M100) .no))]) func100 (aY aL) aL (aA (aO Tj) (aA aBZ (aA (aO RT) az)))
def atG(M100:qR)(a0:bn)(a1:aa aM)(a2:Bool):af TW:=
 match Kj M100 (GM.mk a1 a2 a1 (zZ a1) 0 a0)with|J=>J|M r9=>bif w9 (r9.t15<r9.t14)then if 0<=r9.t15/\r9.t15<zZ r9.t13 then match (bif r9.t2 then match TC r9.b0 (aM.mk r9.t13[zQ r9.t15]!.cu r9.t13[zQ r9.t15]!.aW r9.t13[zQ r9.t15]!.bq r9.t13[zQ r9.t15]!.fN (ay.mk r9.t13[zQ r9.t15]!.aB.bA r9.t13[zQ r9.t15]!.aB.fN r9.t13[zQ r9.t15]!.aB.ax) r9.t13[zQ r9.t15]!.aQ r9.t13[zQ r9.t15]!.aX r9.t13[zQ r9.t15]!.aR) (w9 (r9.t15=ak ((zZ r9.t1:Int)-1)))with|J=>J|M r10=>M (bif r10 then O else Z)else match TC r9.b0 (aM.mk r9.t13[zQ r9.t15]!.cu r9.t13[zQ r9.t15]!.aW r9.t13[zQ r9.t15]!.bq r9.t13[zQ r9.t15]!.fN (ay.mk r9.t13[zQ r9.t15]!.aB.bA r9.t13[zQ r9.t15]!.aB.fN r9.t13[zQ r9.t15]!.aB.ax) r9.t13[zQ r9.t15]!.aQ r9.t13[zQ r9.t15]!.aX r9.t13[zQ r9.t15]!.aR) O with|J=>J|M r11=>M (bif r11 then O else Z))with|J=>J|M r12=>bif r12 then M 1 else match TY (aM.mk r9.t13[zQ r9.t15]!.cu r9.t13[zQ r9.t15]!.aW r9.t13[zQ r9.t15]!.bq r9.t13[zQ r9.t15]!.fN (ay.mk r9.t13[zQ r9.t15]!.aB.bA r9.t13[zQ r9.t15]!.aB.fN r9.t13[zQ r9.t15]!.aB.ax) r9.t13[zQ r9.t15]!.aQ r9.t13[zQ r9.t15]!.aX r9.t13[zQ r9.t15]!.aR)with|J=>J|M r13=>bif bif r13 then O else Z then M 3 else match YR r9.b0.ah (ay.mk r9.t13[zQ r9.t15]!.aB.bA r9.t13[zQ r9.t15]!.aB.fN r9.t13[zQ r9.t15]!.aB.ax) O with|J=>J|M r14=>bif bif w9 (r14=0)then O else Z then M (r14)else match BE M100 (qH.mk r9.t1 r9.t2 r9.t13 r9.t14 r9.t15 [r9.t13[zQ r9.t15]!.aQ,r9.t13[zQ r9.t15]!.aX] (↑[r9.t13[zQ r9.t15]!.aQ,r9.t13[zQ r9.t15]!.aX].length:Int) 0 r9.b0)with|J=>J|M r15=>p9 M100 r15 (λ_=>J) (λr16=>M (r16)) J else J else M 0
def aoR:Nat->qR
 |0=>(λ_ _ _=>J)
 |n+1=>(atG (aoR n))
def adk(n:Nat):qR:=(aoR n)
def Qp:∀n,aib (adk n)
 |0=>λ_ _ h=>(by cases h)
 |n+1=>fo (ajN (Qp n)) (aBe (adk n)) (λ_=>aL) (λ_=>aL) λ_=>aL
def akJ:qR:=λa0 a1 a2=>lim (λn=>adk n a0 a1 a2)
def alf:aib akJ:=λg b h=>(bW h).elim λn=>Qp n g b
def aCa(F:aT):aT:=ala akJ F
def alM:EO aCa:=Wn alf
abbrev ak9:=qh
def d101:Td 0 ak9:= .c [] [2] (.r 0 1 (ec 2 (qp 0 0) en) (sb 0 181 (lg 181) sn) (λz=>z.2.1) (λx=>(((),()),(x,()))))
def aE3:=ab5
abbrev BK:Type:=(aa aM)->af ak9
def x101(zf:BK):aT->aT:=eL va 101 O aE3 d101 (λg=>zf g.1)
def ah4(zf:BK):Prop:=HL va 101 aE3 d101 (λg=>zf g.1)
def XJ{zf:BK}(hM:ah4 zf):EO (x101 zf):=fI (sc:=sB) dQ hM ⟨_,func101,aL,aL⟩ (λ_=>aL) (λ_=>aL)
def aBh(M101:BK):aT:=(x101 M101 dz)
def anQ{M101}(h101:ah4 M101):bK va (aBh M101):=(XJ h101 aP)
structure l7 where
 t9:List aM
 (t10 t11:Int)
 (b0 b1:qh)
def Rg:Td 0 l7:= .c [] [2,3,9,10,11] (.r 0 2 (ec 2 (qp 0 0) (ec 3 (qp 1 0) (ec 9 (ql 111) (ec 10 aU (ec 11 aU en))))) (sb 0 181 (lg 181) (sb 1 181 (lg 181) sn)) (λz=>⟨z.1.t.1,z.1.t.2.1,z.1.q.1,z.2.1,z.t.1⟩) (λx=>(((),(),x.t9,x.t10,x.t11,()),(x.b0,x.b1,()))))
def Gw{α:Type}(M101:BK)(p:l7)(go:l7->af α)(e1:af α):af α:=
 bif w9 (p.t11<p.t10)then if 0<=p.t11/\p.t11<zZ p.t9 then match M101 p.t9[zQ p.t11]!.aQ with|J=>J|M r1=>match M101 p.t9[zQ p.t11]!.aX with|J=>J|M r2=>bif w9 (p.t9[zQ p.t11]!.cu=1)then go (l7.mk p.t9 p.t10 (ak (p.t11+1)) p.b0 (qh.mk (if 1099511627776<ak (p.b1.gy+1)then 1099511627776 else ak (p.b1.gy+1)) (if 1099511627776<ak (p.b1.bJ+1)then 1099511627776 else ak (p.b1.bJ+1)) (if 1099511627776<ak (p.b1.aN+p.t9[zQ p.t11]!.aW)then 1099511627776 else ak (p.b1.aN+p.t9[zQ p.t11]!.aW))))else bif w9 (p.t9[zQ p.t11]!.cu=3)then go (l7.mk p.t9 p.t10 (ak (p.t11+1)) p.b0 (qh.mk (if 1099511627776<ak (p.b1.gy+ak (1+if r1.gy<r2.gy then r2.gy else r1.gy))then 1099511627776 else ak (p.b1.gy+ak (1+if r1.gy<r2.gy then r2.gy else r1.gy))) (if 1099511627776<ak (p.b1.bJ+if r1.bJ<r2.bJ then r2.bJ else r1.bJ)then 1099511627776 else ak (p.b1.bJ+if r1.bJ<r2.bJ then r2.bJ else r1.bJ)) (if 1099511627776<ak (p.b1.aN+ak (p.t9[zQ p.t11]!.aW+if r1.aN<r2.aN then r2.aN else r1.aN))then 1099511627776 else ak (p.b1.aN+ak (p.t9[zQ p.t11]!.aW+if r1.aN<r2.aN then r2.aN else r1.aN)))))else bif w9 (p.t9[zQ p.t11]!.cu=4)then go (l7.mk p.t9 p.t10 (ak (p.t11+1)) p.b0 (qh.mk (if 1099511627776<ak (p.b1.gy+ak (1+ak (p.t9[zQ p.t11]!.fN*ak (1+r1.gy))))then 1099511627776 else ak (p.b1.gy+ak (1+ak (p.t9[zQ p.t11]!.fN*ak (1+r1.gy))))) (if 1099511627776<ak (p.b1.bJ+ak (p.t9[zQ p.t11]!.fN*r1.bJ))then 1099511627776 else ak (p.b1.bJ+ak (p.t9[zQ p.t11]!.fN*r1.bJ))) (if 1099511627776<ak (p.b1.aN+ak (p.t9[zQ p.t11]!.fN*ak (p.t9[zQ p.t11]!.aW+r1.aN)))then 1099511627776 else ak (p.b1.aN+ak (p.t9[zQ p.t11]!.fN*ak (p.t9[zQ p.t11]!.aW+r1.aN))))))else go (l7.mk p.t9 p.t10 (ak (p.t11+1)) p.b0 (qh.mk (if 1099511627776<ak (p.b1.gy+1)then 1099511627776 else ak (p.b1.gy+1)) (if 1099511627776<ak (p.b1.bJ+0)then 1099511627776 else ak (p.b1.bJ+0)) (if 1099511627776<ak (p.b1.aN+p.t9[zQ p.t11]!.aW)then 1099511627776 else ak (p.b1.aN+p.t9[zQ p.t11]!.aW))))else J else e1
def L9(M101:BK)(p:l7):af (af l7):=
 Gw M101 p fW dy
def Kt(M101:BK):=bX (L9 M101)
def aDE(M101:BK):An:=(cA 2 (.two (noTwo (Rg.lp (Kt M101) .no)) .no))
def az9(M101:BK):dB va (aBh M101) 0 300 101 (aDE M101):=bF (l:=[(bz f101 0,(Rg.lp (Kt M101) .no))]) func101 (aY aL) aL (aA (aO Rg) az)
def axF(M101:BK)(a0:aa aM):af ak9:=
 match Kt M101 (l7.mk a0 (zZ a0) 0 (qh.mk 0 0 0) (qh.mk 0 0 0))with|J=>J|M r3=>Gw M101 r3 (λ_=>J) (M (r3.b1))
def aq6:Nat->BK
 |0=>(λ_=>J)
 |n+1=>(axF (aq6 n))
def aeS(n:Nat):BK:=(aq6 n)
def Pr:∀n,ah4 (aeS n)
 |0=>λ_ _ h=>(by cases h)
 |n+1=>fo (anQ (Pr n)) (az9 (aeS n)) (λ_=>aL) (λ_=>aL) λ_=>aL
def ae8:BK:=λa0=>lim (λn=>aeS n a0)
def ajj:ah4 ae8:=λg b h=>(bW h).elim λn=>Pr n g b
def aB9(F:aT):aT:=x101 ae8 F
def al6:EO aB9:=XJ ajj
def F48:aT:=(aB9 (aCa (e99 (e98 (e97 (e96 (e95 dz)))))))
structure B7 where
 t14:List dO
 (t15 t16:Int)
 b0:bn
 b1:bC
def aco:Td 0 B7:= .c [] [1,3,14,15,16] (.r 0 2 (ec 1 (qp 0 0) (ec 3 (qp 1 0) (ec 14 (ql 116) (ec 15 aU (ec 16 aU en))))) (sb 0 26 (lg 26) (sb 1 177 (lg 177) sn)) (λz=>⟨z.1.t.1,z.1.t.2.1,z.1.q.1,z.2.1,z.t.1⟩) (λx=>(((),(),x.t14,x.t15,x.t16,()),(x.b0,x.b1,()))))
def I8{α:Type}(p:B7)(go:B7->af α)(e1:af α):af α:=
 bif w9 (p.t16<p.t15)then if 0<=p.t16/\p.t16<zZ p.t14 then bif bif(Hj p.b1).fst then O else Z then match r97 (ay.mk p.t14[zQ p.t16]!.aB.bA p.t14[zQ p.t16]!.aB.fN p.t14[zQ p.t16]!.aB.ax) 1 (Hj p.b1).snd with|J=>J|M r1=>go (B7.mk p.t14 p.t15 (ak (p.t16+1)) p.b0 r1)else go (B7.mk p.t14 p.t15 (ak (p.t16+1)) p.b0 (Hj p.b1).snd)else J else e1
def N6(p:B7):af (af B7):=
 I8 p fW dy
def NP:=bX (N6)
abbrev E48:=Int
def d48:Td 0 E48:=dW 2
def aIS:∀f∈([]:aa Nat),bH (F48) f:=az
def m48(a0:bn):af E48:=
 match r95 a0.bG 1 (bC.mk 0 O)with|J=>J|M r2=>match NP (B7.mk a0.ai (zZ a0.ai) 0 a0 r2)with|J=>J|M r3=>I8 r3 (λ_=>J) (bif w9 (64<(zZ r3.b0.ah:Int))then M 4 else bif w9 (8<(zZ r3.b0.ai:Int))then M 4 else bif(Hj r3.b1).fst then M 4 else match m98 r3.b0.ah with|J=>J|M r5=>bif bif w9 (r5=0)then O else Z then M (r5)else match m99 r3.b0 with|J=>J|M r6=>bif bif w9 (r6=0)then O else Z then M (r6)else match akJ r3.b0 r3.b0.bG Z with|J=>J|M r7=>bif bif w9 (r7=0)then O else Z then M (r7)else match ae8 r3.b0.bG with|J=>J|M r8=>match (bif w9 (4096<r8.gy)then M Z else bif w9 (8<r8.bJ)then M Z else M (w9 (67108864<r8.aN)))with|J=>J|M r9=>bif r9 then M 4 else M 0)
def e48:=eL va 48 O (lc (qg 26) ln) d48 (λg=>m48 g.1)
def ago:EO e48:=λh=>kL (F:=F48) (an:=(cA 3 (.two (noTwo (aco.lp NP .no)) (cA 4 (.two (noTwo (.two (.rb [] 72) .no)) .no))))) (l:=[(bz f48 0,(aco.lp NP .no)),(.skip,(.rb [] 72))]) func48 (al6 (alM (axB (ar1 (aaz (Rw (axA aP))))))) (aA (aO aco) (aA aIS az)) h
abbrev E47:=Int
def d47:Td 0 E47:=dW 4
def A47:=(lc (qg 106) gY)
abbrev Qz:Type:=ay->Int->af E47
def x47(zf:Qz):aT->aT:=eL va 47 O A47 d47 (λg=>zf g.1 g.2.1)
def H47(zf:Qz):Prop:=HL va 47 A47 d47 (λg=>zf g.1 g.2.1)
def adM{zf:Qz}(hM:H47 zf):EO (x47 zf):=fI (sc:=sB) dQ hM ⟨_,func47,aL,aL⟩ (λ_=>aL) (λ_=>aL)
def F47(M47:Qz):aT:=(x47 M47 dz)
def atQ{M47}(h47:H47 M47):bK va (F47 M47):=(adM h47 aP)
structure Et where
 (t1 t5:Int)
 b0:ay
def abt:Td 0 Et:= .c [] [1,2,5] (.r 0 1 (ec 1 aU (ec 2 (qp 0 0) (ec 5 aU en))) (sb 0 106 (lg 106) sn) (λz=>⟨z.1.1,z.1.t.1,z.2.1⟩) (λx=>((x.t1,(),x.t5,()),(x.b0,()))))
def IS{α:Type}(M47:Qz)(p:Et)(go:Et->af α)(e1:af α):af α:=
 match (bif w9 (p.t5<zZ p.b0.ax)then M (w9 (0<=p.t1))else M O)with|J=>J|M r1=>bif r1 then if 0<=p.t5/\p.t5<zZ p.b0.ax then match M47 (ay.mk p.b0.ax[zQ p.t5]!.bA p.b0.ax[zQ p.t5]!.fN p.b0.ax[zQ p.t5]!.ax) p.t1 with|J=>J|M r2=>go (Et.mk r2 (ak (p.t5+1)) (ay.mk p.b0.bA p.b0.fN p.b0.ax))else J else e1
def VC(M47:Qz)(p:Et):af (af Et):=
 IS M47 p fW dy
def aqH(M47:Qz):An:=(.two (.two (.rb [] 16) .no) .no)
def VH(M47:Qz):=bX (VC M47)
def aKU(M47:Qz):An:=(cA 2 (.two (noTwo (abt.lp (VH M47) (aqH M47))) .no))
def aIq{M47}:∀f∈([]:aa Nat),bH (F47 M47) f:=az
def aKp(M47:Qz):dB va (F47 M47) 0 300 47 (aKU M47):=bF (l:=[(bz f47 0,(abt.lp (VH M47) (aqH M47))),(.skip,(.rb [] 16))]) func47 (aY aL) aL (aA (aO abt) (aA aIq az))
def s47(M47:Qz)(a0:ay)(a1:Int):af E47:=
 match VH M47 (Et.mk (ak (a1-1)) (0) (ay.mk a0.bA a0.fN a0.ax))with|J=>J|M r3=>IS M47 r3 (λ_=>J) (M (r3.t1))
def aEi:Nat->Qz
 |0=>(λ_ _=>J)
 |n+1=>(s47 (aEi n))
def m47(n:Nat):Qz:=(aEi n)
def XS:∀n,H47 (m47 n)
 |0=>λ_ _ h=>(by cases h)
 |n+1=>fo (atQ (XS n)) (aKp (m47 n)) (λ_=>aL) (λ_=>aL) λ_=>aL
def r47:Qz:=λa0 a1=>lim (λn=>m47 n a0 a1)
def aya:H47 r47:=λg b h=>(bW h).elim λn=>XS n g b
def e47(F:aT):aT:=x47 r47 F
def afh:EO e47:=adM aya
abbrev E46:=Int
def d46:Td 0 E46:=dW 4
def A46:=(lc (ql 111) gY)
abbrev WD:Type:=(aa aM)->Int->af E46
def x46(zf:WD):aT->aT:=eL va 46 O A46 d46 (λg=>zf g.1 g.2.1)
def H46(zf:WD):Prop:=HL va 46 A46 d46 (λg=>zf g.1 g.2.1)
def afT{zf:WD}(hM:H46 zf):EO (x46 zf):=fI (sc:=sB) dQ hM ⟨_,func46,aL,aL⟩ (λ_=>aL) (λ_=>aL)
def F46(M46:WD):aT:=(e47 (x46 M46 dz))
def au2{M46}(h46:H46 M46):bK va (F46 M46):=(afh (afT h46 aP))
structure DW where
 t0:List aM
 (t1 t5:Int)
def aaZ:Td 0 DW:= .c [] [0,1,5] (.r 0 0 (ec 0 (ql 111) (ec 1 aU (ec 5 aU en))) sn (λz=>⟨z.1.1,z.1.2.1,z.1.t.1⟩) (λx=>((x.t0,x.t1,x.t5,()),(()))))
def OC{α:Type}(M46:WD)(p:DW)(go:DW->af α)(e1 e2:af α):af α:=
 match (bif w9 (p.t5<zZ p.t0)then M (w9 (0<=p.t1))else M O)with|J=>J|M r1=>bif r1 then if 0<=p.t5/\p.t5<zZ p.t0 then match r47 (ay.mk p.t0[zQ p.t5]!.aB.bA p.t0[zQ p.t5]!.aB.fN p.t0[zQ p.t5]!.aB.ax) (ak (p.t1-1))with|J=>J|M r2=>if 0<=p.t5/\p.t5<zZ p.t0 then bif w9 (r2<(↑p.t0[zQ p.t5]!.aR.length:Int))then e1 else if 0<=p.t5/\p.t5<zZ p.t0 then if 0<=p.t5/\p.t5<zZ p.t0 then if 0<=p.t5/\p.t5<zZ p.t0 then match M46 p.t0[zQ p.t5]!.aQ (ak (r2-(↑p.t0[zQ p.t5]!.aR.length:Int)))with|J=>J|M r3=>match M46 p.t0[zQ p.t5]!.aX r3 with|J=>J|M r4=>go (DW.mk p.t0 r4 (ak (p.t5+1)))else J else J else J else J else J else e2
def Pm(M46:WD)(p:DW):af (af DW):=
 OC M46 p fW dy dy
def aoM(M46:WD):An:=(.two (.two (.rb [] 13) .no) .no)
def Vf(M46:WD):=bX (Pm M46)
def aIU(M46:WD):An:=(noTwo (.two (noTwo (aaZ.lp (Vf M46) (aoM M46))) .no))
def aIg{M46}:∀f∈([]:aa Nat),bH (F46 M46) f:=az
def aLv(M46:WD):dB va (F46 M46) 0 300 46 (aIU M46):=bF (l:=[(bz f46 0,(aaZ.lp (Vf M46) (aoM M46))),(.skip,(.rb [] 13))]) func46 (aY aL) aL (aA (aO aaZ) (aA aIg az))
def s46(M46:WD)(a0:aa aM)(a1:Int):af E46:=
 match Vf M46 (DW.mk a0 a1 (0))with|J=>J|M r5=>OC M46 r5 (λ_=>J) (M (-1)) (M (r5.t1))
def aAY:Nat->WD
 |0=>(λ_ _=>J)
 |n+1=>(s46 (aAY n))
def m46(n:Nat):WD:=(aAY n)
def U2:∀n,H46 (m46 n)
 |0=>λ_ _ h=>(by cases h)
 |n+1=>fo (au2 (U2 n)) (aLv (m46 n)) (λ_=>aL) (λ_=>aL) λ_=>aL
def r46:WD:=λa0 a1=>lim (λn=>m46 n a0 a1)
def avR:H46 r46:=λg b h=>(bW h).elim λn=>U2 n g b
def e46(F:aT):aT:=x46 r46 F
def axD:EO e46:=afT avR
def F13:aT:=(e47 (e46 dz))
def awq:bK va F13:=(afh (axD aP))
structure ED where
 t7:Int
 t27:List dO
 (t28 t29:Int)
def aeC:Td 0 ED:= .c [] [7,27,28,29] (.r 0 0 (ec 7 aU (ec 27 (ql 116) (ec 28 aU (ec 29 aU en)))) sn (λz=>⟨z.1.1,z.1.2.1,z.1.t.1,z.1.t.2.1⟩) (λx=>((x.t7,x.t27,x.t28,x.t29,()),(()))))
def Ql{α:Type}(p:ED)(go:ED->af α)(e1:af α):af α:=
 bif w9 (p.t29<p.t28)then if 0<=p.t29/\p.t29<zZ p.t27 then match r47 (ay.mk p.t27[zQ p.t29]!.aB.bA p.t27[zQ p.t29]!.aB.fN p.t27[zQ p.t29]!.aB.ax) p.t7 with|J=>J|M r1=>go (ED.mk r1 p.t27 p.t28 (ak (p.t29+1)))else J else e1
def NV(p:ED):af (af ED):=
 Ql p fW dy
def We:=bX (NV)
abbrev E13:=Bool
def d13:Td 0 E13:=iu 6
def A13:=(lc (qg 26) uS)
def aBc:An:=(noTwo (.two (.two (.rb [] 21) .no) (noTwo (.two (noTwo (aeC.lp We .no)) .no))))
def aJB:∀f∈([]:aa Nat),bH (F13) f:=az
def aKH:dB va (F13) 0 300 13 (aBc):=bF (l:=[(.skip,(.rb [] 21)),(bz f13 0,(aeC.lp We .no))]) func13 (aY aL) aL (aA aJB (aA (aO aeC) az))
def m13(a0:bn)(a1:Int)(a2:Int):af E13:=
 match (bif w9 (a1<zZ a0.ah)then M Z else M (w9 (a1<zZ a0.ai)))with|J=>J|M r2=>bif r2 then M O else match r46 a0.bG a2 with|J=>J|M r3=>match We (ED.mk r3 a0.ai (zZ a0.ai) 0)with|J=>J|M r4=>Ql r4 (λ_=>J) (M (w9 (0<=r4.t7)))
def c13(a0:bn)(a1:Int)(a2:Int):bY va (F13) 300 (aBc) 13 (A13.c (a0,a1,a2,())) [] 0 d13.rd=m13 a0 a1 a2:=aL
def h13:HL va 13 A13 d13 (λg=>m13 g.1 g.2.1 g.2.2.1):=(fo awq aKH (λ_=>aL) (λ_=>aL) λg=>c13 g.1 g.2.1 g.2.2.1)
def e13:=eL va 13 O A13 d13 (λg=>m13 g.1 g.2.1 g.t.1)
def awn{F:aT}(h:bK va F):bK va (e13 F):=fI (sc:=sB) dQ h13 ⟨_,func13,aL,aL⟩ (λ_=>aL) (λ_=>aL) h
def Ph:EP e13:=λh=>kP h
abbrev atF:=Int
def d104:Td 0 atF:=dW 2
def aBY:=Lt
abbrev sZ:Type:=ay->af atF
def x104(zf:sZ):aT->aT:=eL va 104 O aBY d104 (λg=>zf g.1)
def Zy{zf:sZ}{F:aT}{f:Nat}(h:bH F f):bH (x104 zf F) f:=jf h (λ_=>aL)
def alE(zf:sZ):Prop:=HL va 104 aBY d104 (λg=>zf g.1)
def UC{zf:sZ}(hM:alE zf):EO (x104 zf):=fI (sc:=sB) dQ hM ⟨_,func104,aL,aL⟩ (λ_=>aL) (λ_=>aL)
def aDM(M104:sZ):aT:=(x104 M104 dz)
def amx{M104}(h104:alE M104):bK va (aDM M104):=(UC h104 aP)
structure th where
 (t3 t4:Int)
 b0:ay
def RJ:Td 0 th:= .c [] [1,3,4] (.r 0 1 (ec 1 (qp 0 0) (ec 3 aU (ec 4 aU en))) (sb 0 106 (lg 106) sn) (λz=>⟨z.1.2.1,z.1.t.1,z.2.1⟩) (λx=>(((),x.t3,x.t4,()),(x.b0,()))))
def DT{α:Type}(M104:sZ)(p:th)(go:th->af α)(e1:af α):af α:=
 bif w9 (p.t4<zZ p.b0.ax)then if 0<=p.t4/\p.t4<zZ p.b0.ax then match M104 (ay.mk p.b0.ax[zQ p.t4]!.bA p.b0.ax[zQ p.t4]!.fN p.b0.ax[zQ p.t4]!.ax)with|J=>J|M r1=>go (th.mk (ak (p.t3+r1)) (ak (p.t4+1)) (ay.mk p.b0.bA p.b0.fN p.b0.ax))else J else e1
def K6(M104:sZ)(p:th):af (af th):=
 DT M104 p fW dy
def LJ(M104:sZ):=bX (K6 M104)
def ayP(M104:sZ):An:=(cA 2 (.two (noTwo (RJ.lp (LJ M104) .no)) .no))
def aCX(M104:sZ):dB va (aDM M104) 0 300 104 (ayP M104):=bF (l:=[(bz f104 0,(RJ.lp (LJ M104) .no))]) func104 (aY aL) aL (aA (aO RJ) az)
def att(M104:sZ)(a0:ay):af atF:=
 match LJ M104 (th.mk (1) (0) (ay.mk a0.bA a0.fN a0.ax))with|J=>J|M r2=>DT M104 r2 (λ_=>J) (M (r2.t3))
def ao2:Nat->sZ
 |0=>(λ_=>J)
 |n+1=>(att (ao2 n))
def aar(n:Nat):sZ:=(ao2 n)
def OL:∀n,alE (aar n)
 |0=>λ_ _ h=>(by cases h)
 |n+1=>fo (amx (OL n)) (aCX (aar n)) (λ_=>aL) (λ_=>aL) λ_=>aL
def abJ:sZ:=λa0=>lim (λn=>aar n a0)
def alA:alE abJ:=λg b h=>(bW h).elim λn=>OL n g b
def ajw(F:aT):aT:=x104 abJ F
def Xb:EO ajw:=UC alA
def IJ{F:aT}{f:Nat}(h:bH F f):bH (ajw F) f:=Zy h
abbrev ah3:=Int
def d103:Td 0 ah3:=dW 2
def aAo:=ab5
abbrev uX:Type:=(aa aM)->af ah3
def akK(zf:uX):aT->aT:=eL va 103 O aAo d103 (λg=>zf g.1)
def Zn{zf:uX}{F:aT}{f:Nat}(h:bH F f):bH (akK zf F) f:=jf h (λ_=>aL)
def akk(zf:uX):Prop:=HL va 103 aAo d103 (λg=>zf g.1)
def Xx{zf:uX}(hM:akk zf):EO (akK zf):=fI (sc:=sB) dQ hM ⟨_,func103,aL,aL⟩ (λ_=>aL) (λ_=>aL)
def aBC(M103:uX):aT:=(ajw (akK M103 dz))
def al3{M103}(h103:akk M103):bK va (aBC M103):=(Xb (Xx h103 aP))
structure td where
 t0:List aM
 (t3 t4:Int)
def TH:Td 0 td:= .c [] [0,3,4] (.r 0 0 (ec 0 (ql 111) (ec 3 aU (ec 4 aU en))) sn (λz=>⟨z.1.1,z.1.2.1,z.1.t.1⟩) (λx=>((x.t0,x.t3,x.t4,()),(()))))
def G7{α:Type}(M103:uX)(p:td)(go:td->af α)(e1:af α):af α:=
 bif w9 (p.t4<zZ p.t0)then if 0<=p.t4/\p.t4<zZ p.t0 then match abJ (ay.mk p.t0[zQ p.t4]!.aB.bA p.t0[zQ p.t4]!.aB.fN p.t0[zQ p.t4]!.aB.ax)with|J=>J|M r1=>if 0<=p.t4/\p.t4<zZ p.t0 then match M103 p.t0[zQ p.t4]!.aQ with|J=>J|M r2=>if 0<=p.t4/\p.t4<zZ p.t0 then match M103 p.t0[zQ p.t4]!.aX with|J=>J|M r3=>go (td.mk p.t0 (ak (ak (ak (ak (p.t3+1)+r1)+r2)+r3)) (ak (p.t4+1)))else J else J else J else e1
def Kg(M103:uX)(p:td):af (af td):=
 G7 M103 p fW dy
def KL(M103:uX):=bX (Kg M103)
def aFi(M103:uX):An:=(cA 2 (.two (noTwo (TH.lp (KL M103) .no)) .no))
def aBU(M103:uX):dB va (aBC M103) 0 300 103 (aFi M103):=bF (l:=[(bz f103 0,(TH.lp (KL M103) .no))]) func103 (aY aL) aL (aA (aO TH) az)
def auM(M103:uX)(a0:aa aM):af ah3:=
 match KL M103 (td.mk a0 (0) (0))with|J=>J|M r4=>G7 M103 r4 (λ_=>J) (M (r4.t3))
def apo:Nat->uX
 |0=>(λ_=>J)
 |n+1=>(auM (apo n))
def agm(n:Nat):uX:=(apo n)
def O1:∀n,akk (agm n)
 |0=>λ_ _ h=>(by cases h)
 |n+1=>fo (al3 (O1 n)) (aBU (agm n)) (λ_=>aL) (λ_=>aL) λ_=>aL
def alI:uX:=λa0=>lim (λn=>agm n a0)
def akY:akk alI:=λg b h=>(bW h).elim λn=>O1 n g b
def au0(F:aT):aT:=akK alI F
def aof:EO au0:=Xx akY
def I6{F:aT}{f:Nat}(h:bH F f):bH (au0 F) f:=Zn h
abbrev av8:=Int
def d105:Td 0 av8:=dW 2
def aB2:=Lt
abbrev ur:Type:=ay->af av8
def amv(zf:ur):aT->aT:=eL va 105 O aB2 d105 (λg=>zf g.1)
def ZV{zf:ur}{F:aT}{f:Nat}(h:bH F f):bH (amv zf F) f:=jf h (λ_=>aL)
def alQ(zf:ur):Prop:=HL va 105 aB2 d105 (λg=>zf g.1)
def Uk{zf:ur}(hM:alQ zf):EO (amv zf):=fI (sc:=sB) dQ hM ⟨_,func105,aL,aL⟩ (λ_=>aL) (λ_=>aL)
def aDb(M105:ur):aT:=(amv M105 dz)
def ak2{M105}(h105:alQ M105):bK va (aDb M105):=(Uk h105 aP)
structure pT where
 (t3 t4:Int)
 b0:ay
def Sd:Td 0 pT:= .c [] [1,3,4] (.r 0 1 (ec 1 (qp 0 0) (ec 3 aU (ec 4 aU en))) (sb 0 106 (lg 106) sn) (λz=>⟨z.1.2.1,z.1.t.1,z.2.1⟩) (λx=>(((),x.t3,x.t4,()),(x.b0,()))))
def GR{α:Type}(M105:ur)(p:pT)(go:pT->af α)(e1:af α):af α:=
 bif w9 (p.t4<zZ p.b0.ax)then if 0<=p.t4/\p.t4<zZ p.b0.ax then match M105 (ay.mk p.b0.ax[zQ p.t4]!.bA p.b0.ax[zQ p.t4]!.fN p.b0.ax[zQ p.t4]!.ax)with|J=>J|M r1=>bif w9 (p.t3<r1)then go (pT.mk r1 (ak (p.t4+1)) (ay.mk p.b0.bA p.b0.fN p.b0.ax))else go (pT.mk p.t3 (ak (p.t4+1)) (ay.mk p.b0.bA p.b0.fN p.b0.ax))else J else e1
def KO(M105:ur)(p:pT):af (af pT):=
 GR M105 p fW dy
def LK(M105:ur):=bX (KO M105)
def ay7(M105:ur):An:=(cA 2 (.two (noTwo (Sd.lp (LK M105) .no)) .no))
def aAC(M105:ur):dB va (aDb M105) 0 300 105 (ay7 M105):=bF (l:=[(bz f105 0,(Sd.lp (LK M105) .no))]) func105 (aY aL) aL (aA (aO Sd) az)
def arX(M105:ur)(a0:ay):af av8:=
 match LK M105 (pT.mk (0) (0) (ay.mk a0.bA a0.fN a0.ax))with|J=>J|M r2=>GR M105 r2 (λ_=>J) (M (ak (r2.t3+1)))
def aoZ:Nat->ur
 |0=>(λ_=>J)
 |n+1=>(arX (aoZ n))
def agu(n:Nat):ur:=(aoZ n)
def Qu:∀n,alQ (agu n)
 |0=>λ_ _ h=>(by cases h)
 |n+1=>fo (ak2 (Qu n)) (aAC (agu n)) (λ_=>aL) (λ_=>aL) λ_=>aL
def ZB:ur:=λa0=>lim (λn=>agu n a0)
def amb:alQ ZB:=λg b h=>(bW h).elim λn=>Qu n g b
def anf(F:aT):aT:=amv ZB F
def Xr:EO anf:=Uk amb
def rB{F:aT}{f:Nat}(h:bH F f):bH (anf F) f:=ZV h
abbrev ah2:=Int
def d106:Td 0 ah2:=dW 2
def aze:=ab5
abbrev vt:Type:=(aa aM)->af ah2
def alg(zf:vt):aT->aT:=eL va 106 O aze d106 (λg=>zf g.1)
def YG{zf:vt}{F:aT}{f:Nat}(h:bH F f):bH (alg zf F) f:=jf h (λ_=>aL)
def al2(zf:vt):Prop:=HL va 106 aze d106 (λg=>zf g.1)
def Wm{zf:vt}(hM:al2 zf):EO (alg zf):=fI (sc:=sB) dQ hM ⟨_,func106,aL,aL⟩ (λ_=>aL) (λ_=>aL)
def aAE(M106:vt):aT:=(alg M106 dz)
def ah8{M106}(h106:al2 M106):bK va (aAE M106):=(Wm h106 aP)
structure lY where
 t0:List aM
 (t3 t4:Int)
def SP:Td 0 lY:= .c [] [0,3,4] (.r 0 0 (ec 0 (ql 111) (ec 3 aU (ec 4 aU en))) sn (λz=>⟨z.1.1,z.1.2.1,z.1.t.1⟩) (λx=>((x.t0,x.t3,x.t4,()),(()))))
def Gg{α:Type}(M106:vt)(p:lY)(go:lY->af α)(e1:af α):af α:=
 bif w9 (p.t4<zZ p.t0)then if 0<=p.t4/\p.t4<zZ p.t0 then match M106 p.t0[zQ p.t4]!.aQ with|J=>J|M r1=>if 0<=p.t4/\p.t4<zZ p.t0 then match M106 p.t0[zQ p.t4]!.aX with|J=>J|M r2=>bif w9 (p.t3<ak (r1+1))then bif w9 (ak (r1+1)<ak (r2+1))then go (lY.mk p.t0 (ak (r2+1)) (ak (p.t4+1)))else go (lY.mk p.t0 (ak (r1+1)) (ak (p.t4+1)))else bif w9 (p.t3<ak (r2+1))then go (lY.mk p.t0 (ak (r2+1)) (ak (p.t4+1)))else go (lY.mk p.t0 p.t3 (ak (p.t4+1)))else J else J else e1
def JG(M106:vt)(p:lY):af (af lY):=
 Gg M106 p fW dy
def Mx(M106:vt):=bX (JG M106)
def aGb(M106:vt):An:=(cA 2 (.two (noTwo (SP.lp (Mx M106) .no)) .no))
def aCp(M106:vt):dB va (aAE M106) 0 300 106 (aGb M106):=bF (l:=[(bz f106 0,(SP.lp (Mx M106) .no))]) func106 (aY aL) aL (aA (aO SP) az)
def auE(M106:vt)(a0:aa aM):af ah2:=
 match Mx M106 (lY.mk a0 (0) (0))with|J=>J|M r3=>Gg M106 r3 (λ_=>J) (M (r3.t3))
def apM:Nat->vt
 |0=>(λ_=>J)
 |n+1=>(auE (apM n))
def adZ(n:Nat):vt:=(apM n)
def Ox:∀n,al2 (adZ n)
 |0=>λ_ _ h=>(by cases h)
 |n+1=>fo (ah8 (Ox n)) (aCp (adZ n)) (λ_=>aL) (λ_=>aL) λ_=>aL
def ami:vt:=λa0=>lim (λn=>adZ n a0)
def anv:al2 ami:=λg b h=>(bW h).elim λn=>Ox n g b
def asz(F:aT):aT:=alg ami F
def amO:EO asz:=Wm anv
def Ji{F:aT}{f:Nat}(h:bH F f):bH (asz F) f:=YG h
abbrev alX:=Bool
def d107:Td 0 alX:=iu 2
def aEh:=ab5
abbrev tA:Type:=(aa aM)->af alX
def akn(zf:tA):aT->aT:=eL va 107 O aEh d107 (λg=>zf g.1)
def AL{zf:tA}{F:aT}{f:Nat}(h:bH F f):bH (akn zf F) f:=jf h (λ_=>aL)
def alT(zf:tA):Prop:=HL va 107 aEh d107 (λg=>zf g.1)
def V7{zf:tA}(hM:alT zf):EO (akn zf):=fI (sc:=sB) dQ hM ⟨_,func107,aL,aL⟩ (λ_=>aL) (λ_=>aL)
def atv(M107:tA):aT:=(akn M107 (anf dz))
def amu{M107}(h107:alT M107):bK va (atv M107):=(V7 h107 (Xr aP))
structure uE where
 t0:List aM
 t3:Int
def TP:Td 0 uE:= .c [] [0,3] (.r 0 0 (ec 0 (ql 111) (ec 3 aU en)) sn (λz=>⟨z.1.1,z.1.2.1⟩) (λx=>((x.t0,x.t3,()),(()))))
def F1{α:Type}(M107:tA)(p:uE)(go:uE->af α)(e1 e2:af α):af α:=
 bif w9 (p.t3<zZ p.t0)then match (if 0<=p.t3/\p.t3<zZ p.t0 then match ZB (ay.mk p.t0[zQ p.t3]!.aB.bA p.t0[zQ p.t3]!.aB.fN p.t0[zQ p.t3]!.aB.ax)with|J=>J|M r1=>bif w9 (12<r1)then M Z else if 0<=p.t3/\p.t3<zZ p.t0 then match M107 p.t0[zQ p.t3]!.aQ with|J=>J|M r2=>bif r2 then M Z else if 0<=p.t3/\p.t3<zZ p.t0 then match M107 p.t0[zQ p.t3]!.aX with|J=>J|M r3=>M (r3)else J else J else J)with|J=>J|M r4=>bif r4 then e1 else go (uE.mk p.t0 (ak (p.t3+1)))else e2
def Jk(M107:tA)(p:uE):af (af uE):=
 F1 M107 p fW dy dy
def aaS(M107:tA):An:=(noTwo (.two (.two (.rb [105,107] 32) .no) .no))
def Ln(M107:tA):=bX (Jk M107)
def aEH(M107:tA):An:=(noTwo (.two (noTwo (TP.lp (Ln M107) (aaS M107))) .no))
def aCI{M107}:∀f∈([105,107]:aa Nat),bH (atv M107) f:=(aA (AL (rB cU)) (aA (AL (rB cU)) az))
def aFn(M107:tA):dB va (atv M107) 0 300 107 (aEH M107):=bF (l:=[(bz f107 0,(TP.lp (Ln M107) (aaS M107))),(.skip,(.rb [105,107] 32))]) func107 (aY aL) aL (aA (aO TP) (aA aCI az))
def atC(M107:tA)(a0:aa aM):af alX:=
 match Ln M107 (uE.mk a0 (0))with|J=>J|M r5=>F1 M107 r5 (λ_=>J) (M (Z)) (M (O))
def aqo:Nat->tA
 |0=>(λ_=>J)
 |n+1=>(atC (aqo n))
def abA(n:Nat):tA:=(aqo n)
def OP:∀n,alT (abA n)
 |0=>λ_ _ h=>(by cases h)
 |n+1=>fo (amu (OP n)) (aFn (abA n)) (λ_=>aL) (λ_=>aL) λ_=>aL
def ana:tA:=λa0=>lim (λn=>abA n a0)
def akc:alT ana:=λg b h=>(bW h).elim λn=>OP n g b
def atw(F:aT):aT:=akn ana F
def ane:EO atw:=V7 akc
def Ih{F:aT}{f:Nat}(h:bH F f):bH (atw F) f:=AL h
def F50:aT:=(atw (asz (anf (ajw (au0 dz)))))
structure Fh where
 (t3 t4:Int)
 b0:bn
def adS:Td 0 Fh:= .c [] [1,3,4] (.r 0 1 (ec 1 (qp 0 0) (ec 3 aU (ec 4 aU en))) (sb 0 26 (lg 26) sn) (λz=>⟨z.1.2.1,z.1.t.1,z.2.1⟩) (λx=>(((),x.t3,x.t4,()),(x.b0,()))))
def Iq{α:Type}(p:Fh)(go:Fh->af α)(e1 e2:af α):af α:=
 bif w9 (p.t4<zZ p.b0.ai)then if 0<=p.t4/\p.t4<zZ p.b0.ai then match abJ (ay.mk p.b0.ai[zQ p.t4]!.aB.bA p.b0.ai[zQ p.t4]!.aB.fN p.b0.ai[zQ p.t4]!.aB.ax)with|J=>J|M r1=>if 0<=p.t4/\p.t4<zZ p.b0.ai then match ZB (ay.mk p.b0.ai[zQ p.t4]!.aB.bA p.b0.ai[zQ p.t4]!.aB.fN p.b0.ai[zQ p.t4]!.aB.ax)with|J=>J|M r2=>bif w9 (12<r2)then e1 else go (Fh.mk (ak (p.t3+r1)) (ak (p.t4+1)) p.b0)else J else J else e2
def Oh(p:Fh):af (af Fh):=
 Iq p fW dy dy
def U8:=bX (Oh)
abbrev E50:=Bool
def d50:Td 0 E50:=iu 2
def aC0:∀f∈([106,107]:aa Nat),bH (F50) f:=(aA (Ih (Ji (rB (IJ (I6 cU))))) (aA (Ih (Ji (rB (IJ (I6 cU))))) az))
def m50(a0:bn):af E50:=
 match (bif w9 (64<(zZ a0.ah:Int))then M Z else M (w9 (8<(zZ a0.ai:Int))))with|J=>J|M r3=>bif r3 then M O else match alI a0.bG with|J=>J|M r4=>match U8 (Fh.mk r4 0 a0)with|J=>J|M r5=>Iq r5 (λ_=>J) (M O) (match (bif w9 (r5.t3<=1024)then match ami r5.b0.bG with|J=>J|M r8=>bif w9 (r8<=12)then match ana r5.b0.bG with|J=>J|M r9=>M (bif r9 then O else Z)else M O else M O)with|J=>J|M r10=>M (r10))
def e50:=eL va 50 O (lc (qg 26) ln) d50 (λg=>m50 g.1)
def ati:EO e50:=λh=>kL (F:=F50) (an:=(noTwo (.two (.two (.rb [106,107] 14) .no) (noTwo (.two (noTwo (adS.lp U8 .no)) (.two (.rb [106,107] 2) .no)))))) (l:=[(.skip,(.rb [106,107] 14)),(bz f50 0,(adS.lp U8 .no)),(.skip,(.rb [106,107] 2))]) func50 (ane (amO (Xr (Xb (aof aP))))) (aA aC0 (aA (aO adS) (aA aC0 az))) h
def F52:aT:=dz
structure GU where
 t0:ByteArray
 t3:Int
def abY:Td 0 GU:= .c [] [0,3] (.r 0 0 (ec 0 qs (ec 3 aU en)) sn (λz=>⟨z.1.1,z.1.2.1⟩) (λx=>((x.t0,x.t3,()),(()))))
def Ou{α:Type}(p:GU)(go:GU->af α)(e1 e2:af α):af α:=
 bif w9 (p.t3<p.t0.size)then if 0<=p.t3/\p.t3<p.t0.size then match (bif w9 (97<=cO p.t0 p.t3.toNat)then M (w9 (cO p.t0 p.t3.toNat<=122))else M O)with|J=>J|M r1=>match (bif w9 (48<=cO p.t0 p.t3.toNat)then bif w9 (cO p.t0 p.t3.toNat<=57)then M Z else bif w9 (cO p.t0 p.t3.toNat=46)then M Z else M (w9 (cO p.t0 p.t3.toNat=95))else bif w9 (cO p.t0 p.t3.toNat=46)then M Z else M (w9 (cO p.t0 p.t3.toNat=95)))with|J=>J|M r2=>match (bif bif r1 then O else Z then bif w9 (p.t3=0)then M Z else M (bif r2 then O else Z)else M O)with|J=>J|M r3=>bif r3 then e1 else go (GU.mk p.t0 (ak (p.t3+1)))else J else e2
def Wg(p:GU):af (af GU):=
 Ou p fW dy dy
def aq1:An:=(noTwo (.two (noTwo (.two (.rb [] 5) (.two (.rb [] 6) (.two (.rb [] 53) .no)))) .no))
def XZ:=bX (Wg)
abbrev E52:=Bool
def d52:Td 0 E52:=iu 2
def akq:∀f∈([]:aa Nat),bH (F52) f:=az
def m52(a0:ByteArray):af E52:=
 match (bif w9 ((a0.size:Int)<1)then M Z else M (w9 (40<(a0.size:Int))))with|J=>J|M r4=>bif r4 then M O else match XZ (GU.mk a0 0)with|J=>J|M r5=>Ou r5 (λ_=>J) (M O) (M Z)
def e52:=eL va 52 O (lc qs ln) d52 (λg=>m52 g.1)
def ac6:EO e52:=λh=>kL (F:=F52) (an:=(noTwo (.two (.two (.rb [] 14) .no) (.two (noTwo (abY.lp XZ aq1)) .no)))) (l:=[(.skip,(.rb [] 14)),(bz f52 0,(abY.lp XZ aq1)),(.skip,(.rb [] 5)),(.skip,(.rb [] 6)),(.skip,(.rb [] 53))]) func52 aP (aA akq (aA (aO abY) (aA akq (aA akq (aA akq az))))) h
def agw:EP e52:=λh=>kP h
def F53:aT:=dz
abbrev E53:=Bool
def d53:Td 0 E53:=iu 4
def A53:=uS
def aFG:An:=(noTwo (.two (.rb [] 4) .no))
def aJy:∀f∈([]:aa Nat),bH (F53) f:=az
def m53(a0:Int)(a1:Int):E53:=
 let r1:Bool:=bif w9 (a0<=a1)then bif w9 (-1048576<=a0)then w9 (a1<=1048576)else O else O;r1
def c53(a0:Int)(a1:Int):bY va (F53) 300 (aFG) 53 (A53.c (a0,a1,())) [] 0 d53.rd=M (m53 a0 a1):=by
 refine Eq.trans (b:=(
  match bif w9 (a0<=a1)then bif w9 (-1048576<=a0)then M (w9 (a1<=1048576))else M (O)else M (O)with|J=>J|M r1=>M (r1):af E53)) aL ?_
 simp only[m53,b6,cw]
def e53:=eL va 53 O A53 d53 (λg=>M (m53 g.1 g.2.1))
def ae0:EO e53:=λh=>kL (F:=F53) (an:=aFG) (l:=[(.skip,(.rb [] 4))]) func53 aP (aA aJy az) h (c:=λg=>c53 g.1 g.2.1)
def adf:EP e53:=λh=>kP h
structure qj where
 t0:List bf
 (t1 t5 t6:Int)
def TM:Td 0 qj:= .c [] [0,1,5,6] (.r 0 0 (ec 0 (ql 108) (ec 1 aU (ec 5 aU (ec 6 aU en)))) sn (λz=>⟨z.1.1,z.1.2.1,z.1.t.1,z.1.t.2.1⟩) (λx=>((x.t0,x.t1,x.t5,x.t6,()),(()))))
def Ff{α:Type}(p:qj)(go:qj->af α)(e1 e2:af α):af α:=
 bif w9 (p.t6<zZ p.t0)then if 0<=p.t6/\p.t6<zZ p.t0 then bif bif w9 (p.t0[zQ p.t6]!.bQ=p.t1)then O else Z then go (qj.mk p.t0 p.t1 p.t5 (ak (p.t6+1)))else if 0<=p.t6/\p.t6<zZ p.t0 then if 0<=p.t6/\p.t6<zZ p.t0 then bif w9 (4096<ak (p.t5*ak (ak (p.t0[zQ p.t6]!.au-p.t0[zQ p.t6]!.aC)+1)))then e1 else go (qj.mk p.t0 p.t1 (ak (p.t5*ak (ak (p.t0[zQ p.t6]!.au-p.t0[zQ p.t6]!.aC)+1))) (ak (p.t6+1)))else J else J else J else e2
def JA(p:qj):af (af qj):=
 Ff p fW dy dy
def Ld:=bX (JA)
abbrev aF8:=Int
def d108:Td 0 aF8:=dW 4
def Zt(a0:aa bf)(a1:Int):af aF8:=
 match Ld (qj.mk a0 a1 (1) (0))with|J=>J|M r1=>Ff r1 (λ_=>J) (M (4097)) (M (r1.t5))
def auj:=eL va 108 O aff d108 (λg=>Zt g.1 g.2.1)
def air:EO auj:=λh=>kL (an:=(cA 2 (.two (noTwo (TM.lp Ld .no)) .no))) (l:=[(bz f108 0,(TM.lp Ld .no))]) func108 aP (aA (aO TM) az) h
def Za:EP auj:=λh=>kP h
def F51:aT:=(auj (e53 (e52 dz)))
structure Em where
 t0:List bf
 (t3 t5:Int)
 b0:bf
def aav:Td 0 Em:= .c [] [0,3,4,5] (.r 0 1 (ec 0 (ql 108) (ec 3 aU (ec 4 (qp 0 0) (ec 5 aU en)))) (sb 0 108 (lg 108) sn) (λz=>⟨z.1.1,z.1.2.1,z.1.t.2.1,z.2.1⟩) (λx=>((x.t0,x.t3,(),x.t5,()),(x.b0,()))))
def DL{α:Type}(p:Em)(go:Em->af α)(e1 e2:af α):af α:=
 bif w9 (p.t5<p.t3)then if 0<=p.t5/\p.t5<zZ p.t0 then bif p.t0[zQ p.t5]!.fName.toList==p.b0.fName.toList then e1 else go (Em.mk p.t0 p.t3 (ak (p.t5+1)) p.b0)else J else e2
def XV(p:Em):af (af Em):=
 DL p fW dy dy
def Wd:=bX (XV)
structure Gi where
 t0:List bf
 t3:Int
def aeo:Td 0 Gi:= .c [] [0,3] (.r 0 0 (ec 0 (ql 108) (ec 3 aU en)) sn (λz=>⟨z.1.1,z.1.2.1⟩) (λx=>((x.t0,x.t3,()),(()))))
def No{α:Type}(p:Gi)(go:Gi->af α)(e1 e2 e3 e4 e5:af α):af α:=
 bif w9 (p.t3<zZ p.t0)then if 0<=p.t3/\p.t3<zZ p.t0 then match m52 p.t0[zQ p.t3]!.fName with|J=>J|M r1=>bif bif r1 then O else Z then e1 else match Wd (Em.mk p.t0 p.t3 0 p.t0[zQ p.t3]!)with|J=>J|M r2=>DL r2 (λ_=>J) e2 (match (bif bif w9 (r2.b0.bQ=0)then O else Z then bif bif w9 (r2.b0.bQ=1)then O else Z then bif bif w9 (r2.b0.bQ=2)then O else Z then M (bif w9 (r2.b0.bQ=3)then O else Z)else M O else M O else M O)with|J=>J|M r3=>bif r3 then e3 else bif bif m53 r2.b0.aC r2.b0.au then O else Z then e4 else match (bif w9 (r2.b0.bQ=0)then bif w9 (r2.b0.eB<r2.b0.aC)then M Z else bif w9 (r2.b0.au<r2.b0.eB)then M Z else bif bif w9 (r2.b0.bQ=0)then O else Z then M (bif w9 (r2.b0.eB=0)then O else Z)else M O else bif bif w9 (r2.b0.bQ=0)then O else Z then M (bif w9 (r2.b0.eB=0)then O else Z)else M O)with|J=>J|M r4=>bif r4 then e4 else go (Gi.mk r2.t0 (ak (r2.t3+1))))else J else e5
def HV(p:Gi):af (af Gi):=
 No p fW dy dy dy dy dy
def aor:An:=(noTwo (.two (cA 2 (.two (noTwo (aav.lp Wd .no)) (.two (.two (.rb [108] 50) .no) (noTwo (.two (.rb [108] 83) .no))))) .no))
def UH:=bX (HV)
abbrev E51:=Int
def d51:Td 0 E51:=dW 2
def as9:∀f∈([108]:aa Nat),bH (F51) f:=(aA (Za (adf (agw cU))) az)
def m51(a0:aa bf):af E51:=
 match UH (Gi.mk a0 (0))with|J=>J|M r5=>No r5 (λ_=>J) (M (7)) (M (8)) (M (1)) (M (3)) (match (match Zt r5.t0 (1)with|J=>J|M r10=>bif w9 (4096<r10)then M (Z)else match Zt r5.t0 (2)with|J=>J|M r11=>bif w9 (4096<r11)then M (Z)else match Zt r5.t0 (3)with|J=>J|M r12=>M (w9 (256<r12)))with|J=>J|M r13=>bif r13 then M (4)else M (0))
def e51:=eL va 51 O (lc (ql 108) ln) d51 (λg=>m51 g.1)
def axh:EO e51:=λh=>kL (F:=F51) (an:=(noTwo (.two (noTwo (aeo.lp UH aor)) (.two (.two (.rb [108] 96) .no) .no)))) (l:=[(bz f51 0,(aeo.lp UH aor)),(bz f51 1,(aav.lp Wd .no)),(.skip,(.rb [108] 50)),(.skip,(.rb [108] 83)),(.skip,(.rb [108] 96))]) func51 (air (ae0 (ac6 aP))) (aA (aO aeo) (aA (aO aav) (aA as9 (aA as9 (aA as9 az))))) h
def aH4:aT:=dz
abbrev atB:=Int
def d174:Td 0 atB:=dW 2
def aEw:=gY
def arf:An:= .no
def HA(a0:Int):atB:=
 bif w9 (a0=0)then 0 else bif w9 (a0=24)then 0 else bif w9 (a0=6)then 1 else bif w9 (a0=7)then 1 else bif w9 (a0=8)then 2 else bif w9 (a0=9)then 2 else bif w9 (a0=10)then 2 else bif w9 (a0=11)then 2 else bif w9 (a0=12)then 2 else bif w9 (a0=13)then 2 else bif w9 (a0=14)then 2 else bif w9 (a0=15)then 2 else bif w9 (a0=16)then 2 else bif w9 (a0=17)then 2 else bif w9 (a0=18)then 2 else bif w9 (a0=19)then 2 else bif w9 (a0=20)then 2 else bif w9 (a0=21)then 2 else bif w9 (a0=22)then 2 else bif w9 (a0=23)then 3 else bif w9 (a0=25)then-2 else-1
def aJW(a0:Int):bY va (aH4) 300 (arf) 174 (aEw.c (a0,())) [] 0 d174.rd=M (HA a0):=by
 refine Eq.trans (b:=(
  bif w9 (a0=0)then M (0)else bif w9 (a0=24)then M (0)else bif w9 (a0=6)then M (1)else bif w9 (a0=7)then M (1)else bif w9 (a0=8)then M (2)else bif w9 (a0=9)then M (2)else bif w9 (a0=10)then M (2)else bif w9 (a0=11)then M (2)else bif w9 (a0=12)then M (2)else bif w9 (a0=13)then M (2)else bif w9 (a0=14)then M (2)else bif w9 (a0=15)then M (2)else bif w9 (a0=16)then M (2)else bif w9 (a0=17)then M (2)else bif w9 (a0=18)then M (2)else bif w9 (a0=19)then M (2)else bif w9 (a0=20)then M (2)else bif w9 (a0=21)then M (2)else bif w9 (a0=22)then M (2)else bif w9 (a0=23)then M (3)else bif w9 (a0=25)then M (-2)else M (-1):af atB)) aL ?_
 simp only[HA,b6,cw]
def ayD:=eL va 174 O aEw d174 (λg=>M (HA g.1))
def ah6:EO ayD:=λh=>kL (an:=arf) func174 aP az h (c:=λg=>aJW g.1)
abbrev amH:=Bool
def d109:Td 0 amH:=iu 6
def azd:=akZ
abbrev AS:Type:=(aa bf)->ay->Bool->af amH
def aue(zf:AS):aT->aT:=eL va 109 O azd d109 (λg=>zf g.1 g.2.1 g.2.2.1)
def amA(zf:AS):Prop:=HL va 109 azd d109 (λg=>zf g.1 g.2.1 g.2.2.1)
def Ui{zf:AS}(hM:amA zf):EO (aue zf):=fI (sc:=sB) dQ hM ⟨_,func109,aL,aL⟩ (λ_=>aL) (λ_=>aL)
def avz(M109:AS):aT:=(ayD (aue M109 dz))
def amL{M109}(h109:amA M109):bK va (avz M109):=(ah6 (Ui h109 aP))
structure pq where
 t0:List bf
 t2:Bool
 t8:Int
 b0:ay
def QI:Td 0 pq:= .c [] [0,2,4,8] (.r 0 1 (ec 0 (ql 108) (ec 2 qb (ec 4 (qp 0 0) (ec 8 aU en)))) (sb 0 106 (lg 106) sn) (λz=>⟨z.1.1,z.1.2.1,z.1.t.2.1,z.2.1⟩) (λx=>((x.t0,x.t2,(),x.t8,()),(x.b0,()))))
def AZ{α:Type}(M109:AS)(p:pq)(go:pq->af α)(e1 e2:af α):af α:=
 bif w9 (p.t8<zZ p.b0.ax)then if 0<=p.t8/\p.t8<zZ p.b0.ax then match M109 p.t0 (ay.mk p.b0.ax[zQ p.t8]!.bA p.b0.ax[zQ p.t8]!.fN p.b0.ax[zQ p.t8]!.ax) p.t2 with|J=>J|M r1=>bif bif r1 then O else Z then e1 else go (pq.mk p.t0 p.t2 (ak (p.t8+1)) (ay.mk p.b0.bA p.b0.fN p.b0.ax))else J else e2
def Jl(M109:AS)(p:pq):af (af pq):=
 AZ M109 p fW dy dy
def Ga(M109:AS):=bX (Jl M109)
def ayW(M109:AS):An:=(cA 2 (.two (.two (.rb [] 40) .no) (.two (noTwo (.two (.two (.rb [] 65) .no) (.two (.rb [] 73) .no))) (.two (noTwo (QI.lp (Ga M109) .no)) .no))))
def ahC{M109}:∀f∈([]:aa Nat),bH (avz M109) f:=az
def azp(M109:AS):dB va (avz M109) 0 300 109 (ayW M109):=bF (l:=[(.skip,(.rb [] 40)),(.skip,(.rb [] 65)),(.skip,(.rb [] 73)),(bz f109 0,(QI.lp (Ga M109) .no))]) func109 (aY aL) aL (aA ahC (aA ahC (aA ahC (aA (aO QI) az))))
def avm(M109:AS)(a0:aa bf)(a1:ay)(a2:Bool):af amH:=
 match (bif w9 (HA a1.bA= -1)then M Z else bif w9 (0<=HA a1.bA)then bif bif w9 (zZ a1.ax=HA a1.bA)then O else Z then M Z else bif w9 (HA a1.bA= -2)then bif w9 ((zZ a1.ax:Int)<2)then M Z else M (w9 (33<(zZ a1.ax:Int)))else M O else bif w9 (HA a1.bA= -2)then bif w9 ((zZ a1.ax:Int)<2)then M Z else M (w9 (33<(zZ a1.ax:Int)))else M O)with|J=>J|M r2=>bif r2 then M O else bif w9 (a1.bA=24)then match (bif w9 (a1.fN<0)then M Z else bif w9 (zZ a0<=a1.fN)then M Z else bif a2 then if 0<=a1.fN/\a1.fN<zZ a0 then M (w9 (a0[a1.fN.toNat]!.bQ=0))else J else M O)with|J=>J|M r3=>bif r3 then M O else match Ga M109 (pq.mk a0 a2 0 (ay.mk a1.bA a1.fN a1.ax))with|J=>J|M r4=>AZ M109 r4 (λ_=>J) (M O) (M Z)else match (bif bif w9 (a1.bA=0)then O else Z then M (bif w9 (a1.fN=0)then O else Z)else M O)with|J=>J|M r6=>bif r6 then M O else match Ga M109 (pq.mk a0 a2 0 (ay.mk a1.bA a1.fN a1.ax))with|J=>J|M r7=>AZ M109 r7 (λ_=>J) (M O) (M Z)
def apf:Nat->AS
 |0=>(λ_ _ _=>J)
 |n+1=>(avm (apf n))
def agI(n:Nat):AS:=(apf n)
def Qx:∀n,amA (agI n)
 |0=>λ_ _ h=>(by cases h)
 |n+1=>fo (amL (Qx n)) (azp (agI n)) (λ_=>aL) (λ_=>aL) λ_=>aL
def ak6:AS:=λa0 a1 a2=>lim (λn=>agI n a0 a1 a2)
def alH:amA ak6:=λg b h=>(bW h).elim λn=>Qx n g b
def aIu(F:aT):aT:=aue ak6 F
def alZ:EO aIu:=Ui alH
def aJH:aT:=dz
abbrev arT:=Int
def d112:Td 0 arT:=dW 4
def aAW:=uS
def apX:An:= .no
def j8(a0:Int)(a1:Int):arT:=
 bif w9 (a1<a0)then a0 else a1
def aI0(a0:Int)(a1:Int):bY va (aJH) 300 (apX) 112 (aAW.c (a0,a1,())) [] 0 d112.rd=M (j8 a0 a1):=by
 refine Eq.trans (b:=(
  bif w9 (a1<a0)then M (a0)else M (a1):af arT)) aL ?_
 simp only[j8,b6,cw]
def Zd:=eL va 112 O aAW d112 (λg=>M (j8 g.1 g.2.1))
def CZ:EO Zd:=λh=>kL (an:=apX) func112 aP az h (c:=λg=>aI0 g.1 g.2.1)
def aJD:aT:=dz
abbrev avg:=Int
def d113:Td 0 avg:=dW 4
def azV:=uS
def aqL:An:= .no
def jq(a0:Int)(a1:Int):avg:=
 bif w9 (a0<a1)then a0 else a1
def aHI(a0:Int)(a1:Int):bY va (aJD) 300 (aqL) 113 (azV.c (a0,a1,())) [] 0 d113.rd=M (jq a0 a1):=by
 refine Eq.trans (b:=(
  bif w9 (a0<a1)then M (a0)else M (a1):af avg)) aL ?_
 simp only[jq,b6,cw]
def aiP:=eL va 113 O azV d113 (λg=>M (jq g.1 g.2.1))
def C5:EO aiP:=λh=>kL (an:=aqL) func113 aP az h (c:=λg=>aHI g.1 g.2.1)
def aIx:aT:=dz
abbrev asl:=Int
def d235:Td 0 asl:=dW 2
def aFc:=gY
def aqb:An:= .no
def AD(a0:Int):asl:=
 bif w9 (a0<0)then ak (0-a0)else a0
def aLa(a0:Int):bY va (aIx) 300 (aqb) 235 (aFc.c (a0,())) [] 0 d235.rd=M (AD a0):=by
 refine Eq.trans (b:=(
  bif w9 (a0<0)then M (ak (0-a0))else M (a0):af asl)) aL ?_
 simp only[AD,b6,cw]
def ad7:=eL va 235 O aFc d235 (λg=>M (AD g.1))
def amy:EO ad7:=λh=>kL (an:=aqb) func235 aP az h (c:=λg=>aLa g.1)
def aLb:aT:=(aiP (Zd dz))
abbrev avQ:=Int×Int
def d236:Td 0 avQ:= .c [] [4,5] (.r 0 0 (ec 4 aU (ec 5 aU en)) sn (λz=>(z.1.1,z.1.2.1)) (λx=>((x.1,x.2,()),(()))))
def aAN:=uS
def ap9:An:= .no
def afW(a0:Int)(a1:Int):avQ:=
 bif w9 (a0<0)then bif w9 (0<a1)then(jq (0) (ak (a0+1)),j8 (0) (ak (a1-1)))else(jq (0) (ak (a0+1)),0)else bif w9 (0<a1)then(0,j8 (0) (ak (a1-1)))else(0,0)
def aHK(a0:Int)(a1:Int):bY va (aLb) 300 (ap9) 236 (aAN.c (a0,a1,())) [] 0 d236.rd=M (afW a0 a1):=by
 refine Eq.trans (b:=(
  bif w9 (a0<0)then bif w9 (0<a1)then M ((jq (0) (ak (a0+1)),j8 (0) (ak (a1-1))))else M ((jq (0) (ak (a0+1)),0))else bif w9 (0<a1)then M ((0,j8 (0) (ak (a1-1))))else M ((0,0)):af avQ)) aL ?_
 simp only[afW,b6,cw]
def aFA:=eL va 236 O aAN d236 (λg=>M (afW g.1 g.2.1))
def aik:EO aFA:=λh=>kL (an:=ap9) func236 (C5 (CZ aP)) az h (c:=λg=>aHK g.1 g.2.1)
def aCn:aT:=(aFA (ad7 (aiP (Zd dz))))
structure qS where
 (t2 t3:List Int)
 (t15 t16 t17:Int)
def SS:Td 0 qS:= .c [] [2,3,15,16,17] (.r 0 0 (ec 2 (ql 3) (ec 3 (ql 3) (ec 15 aU (ec 16 aU (ec 17 aU en))))) sn (λz=>⟨z.1.1,z.1.2.1,z.1.t.1,z.1.t.2.1,z.1.q.1⟩) (λx=>((x.t2,x.t3,x.t15,x.t16,x.t17,()),(()))))
def BG{α:Type}(p:qS)(go:qS->af α)(e1:af α):af α:=
 bif w9 (p.t17<zZ p.t2)then if 0<=p.t17/\p.t17<zZ p.t2 then if 0<=p.t17/\p.t17<zZ p.t3 then go (qS.mk p.t2 p.t3 (jq p.t15 p.t2[zQ p.t17]!) (j8 p.t16 p.t3[zQ p.t17]!) (ak (p.t17+1)))else J else J else e1
def Lq(p:qS):af (af qS):=
 BG p fW dy
def FR:=bX (Lq)
abbrev azA:=Int×Int
def d175:Td 0 azA:= .c [] [8,9] (.r 0 0 (ec 8 aU (ec 9 aU en)) sn (λz=>(z.1.1,z.1.2.1)) (λx=>((x.1,x.2,()),(()))))
def apg:∀f∈([]:aa Nat),bH (aCn) f:=az
def ais(a0:aa bf)(a1:ay)(a2:aa Int)(a3:aa Int):af azA:=
 bif w9 (a1.bA=0)then match (bif w9 (a1.fN< -1048576)then M Z else M (w9 (1048576<a1.fN)))with|J=>J|M r1=>bif r1 then M (-1048577,1048577)else M (a1.fN,a1.fN)else bif w9 (a1.bA=24)then if 0<=a1.fN/\a1.fN<zZ a0 then if 0<=a1.fN/\a1.fN<zZ a0 then M (a0[a1.fN.toNat]!.aC,a0[a1.fN.toNat]!.au)else J else J else bif w9 (a1.bA=6)then if(0:Int)<=(0:Int)/\(0:Int)<zZ a3 then if(0:Int)<=(0:Int)/\(0:Int)<zZ a2 then M ((ak (0-a3[0]!),ak (0-a2[0]!)))else J else J else bif w9 (a1.bA=8)then if(0:Int)<=(0:Int)/\(0:Int)<zZ a2 then if(0:Int)<=(1:Int)/\(1:Int)<zZ a2 then if(0:Int)<=(0:Int)/\(0:Int)<zZ a3 then if(0:Int)<=(1:Int)/\(1:Int)<zZ a3 then M ((ak (a2[0]! +a2[1]!),ak (a3[0]! +a3[1]!)))else J else J else J else J else bif w9 (a1.bA=9)then if(0:Int)<=(0:Int)/\(0:Int)<zZ a2 then if(0:Int)<=(1:Int)/\(1:Int)<zZ a3 then if(0:Int)<=(0:Int)/\(0:Int)<zZ a3 then if(0:Int)<=(1:Int)/\(1:Int)<zZ a2 then M ((ak (a2[0]! -a3[1]!),ak (a3[0]! -a2[1]!)))else J else J else J else J else bif w9 (a1.bA=10)then if(0:Int)<=(0:Int)/\(0:Int)<zZ a2 then if(0:Int)<=(1:Int)/\(1:Int)<zZ a2 then if(0:Int)<=(0:Int)/\(0:Int)<zZ a2 then if(0:Int)<=(1:Int)/\(1:Int)<zZ a3 then if(0:Int)<=(0:Int)/\(0:Int)<zZ a3 then if(0:Int)<=(1:Int)/\(1:Int)<zZ a2 then if(0:Int)<=(0:Int)/\(0:Int)<zZ a3 then if(0:Int)<=(1:Int)/\(1:Int)<zZ a3 then M ((jq (jq (ak (a2[0]! *a2[1]!)) (ak (a2[0]! *a3[1]!))) (jq (ak (a3[0]! *a2[1]!)) (ak (a3[0]! *a3[1]!))),j8 (j8 (ak (a2[0]! *a2[1]!)) (ak (a2[0]! *a3[1]!))) (j8 (ak (a3[0]! *a2[1]!)) (ak (a3[0]! *a3[1]!)))))else J else J else J else J else J else J else J else J else bif w9 (a1.bA=11)then if(0:Int)<=(0:Int)/\(0:Int)<zZ a2 then if(0:Int)<=(0:Int)/\(0:Int)<zZ a3 then match (if(0:Int)<=(0:Int)/\(0:Int)<zZ a2 then bif w9 (0<=a2[zQ 0]!)then if(0:Int)<=(1:Int)/\(1:Int)<zZ a2 then M (w9 (0<=a2[zQ 1]!))else J else M O else J)with|J=>J|M r2=>bif r2 then M ((0,j8 (AD a2[0]!) (AD a3[0]!)))else M ((ak (0-j8 (AD a2[0]!) (AD a3[0]!)),j8 (AD a2[0]!) (AD a3[0]!)))else J else J else bif w9 (a1.bA=12)then if(0:Int)<=(1:Int)/\(1:Int)<zZ a2 then if(0:Int)<=(1:Int)/\(1:Int)<zZ a3 then M (afW a2[1]! a3[1]!)else J else J else bif w9 (a1.bA=21)then if(0:Int)<=(0:Int)/\(0:Int)<zZ a2 then if(0:Int)<=(1:Int)/\(1:Int)<zZ a2 then if(0:Int)<=(0:Int)/\(0:Int)<zZ a3 then if(0:Int)<=(1:Int)/\(1:Int)<zZ a3 then M (jq a2[0]! a2[1]!,jq a3[0]! a3[1]!)else J else J else J else J else bif w9 (a1.bA=22)then if(0:Int)<=(0:Int)/\(0:Int)<zZ a2 then if(0:Int)<=(1:Int)/\(1:Int)<zZ a2 then if(0:Int)<=(0:Int)/\(0:Int)<zZ a3 then if(0:Int)<=(1:Int)/\(1:Int)<zZ a3 then M (j8 a2[0]! a2[1]!,j8 a3[0]! a3[1]!)else J else J else J else J else bif w9 (a1.bA=23)then if(0:Int)<=(1:Int)/\(1:Int)<zZ a2 then if(0:Int)<=(1:Int)/\(1:Int)<zZ a3 then match FR (qS.mk a2 a3 a2[1]! a3[1]! (2))with|J=>J|M r3=>BG r3 (λ_=>J) (M (r3.t15,r3.t16))else J else J else bif w9 (a1.bA=25)then if(0:Int)<=(1:Int)/\(1:Int)<zZ a2 then if(0:Int)<=(1:Int)/\(1:Int)<zZ a3 then match FR (qS.mk a2 a3 a2[1]! a3[1]! (2))with|J=>J|M r4=>BG r4 (λ_=>J) (M (r4.t15,r4.t16))else J else J else M (0,1)
def aAS:=eL va 175 O (lc (ql 108) (lc (qg 106) (lc (ql 3) (lc (ql 3) ln)))) d175 (λg=>ais g.1 g.2.1 g.t.1 g.t.2.1)
def ak8:EO aAS:=λh=>kL (F:=aCn) (an:=(noTwo (.two (cA 2 (.two (.two (.two (.rb [] 29) .no) .no) (cA 11 (.two (noTwo (.two (.two (.rb [] 154) .no) .no)) (cA 7 (.two (noTwo (.two (noTwo (SS.lp FR .no)) .no)) .no)))))) .no))) (l:=[(.skip,(.rb [] 29)),(.skip,(.rb [] 154)),(bz f175 0,(SS.lp FR .no))]) func175 (aik (amy (C5 (CZ aP)))) (aA apg (aA apg (aA (aO SS) az))) h
abbrev akw:=Int×Int×Bool
def d110:Td 0 akw:= .c [] [4,5,6] (.r 0 0 (ec 4 aU (ec 5 aU (ec 6 qb en))) sn (λz=>(z.1.1,z.1.2.1,z.1.t.1)) (λx=>((x.1,x.2.1,x.t,()),(()))))
def aD2:=(lc (ql 108) Lt)
abbrev Bt:Type:=(aa bf)->ay->af akw
def avP(zf:Bt):aT->aT:=eL va 110 O aD2 d110 (λg=>zf g.1 g.2.1)
def anV(zf:Bt):Prop:=HL va 110 aD2 d110 (λg=>zf g.1 g.2.1)
def XW{zf:Bt}(hM:anV zf):EO (avP zf):=fI (sc:=sB) dQ hM ⟨_,func110,aL,aL⟩ (λ_=>aL) (λ_=>aL)
def aCz(M110:Bt):aT:=(aAS (avP M110 dz))
def alh{M110}(h110:anV M110):bK va (aCz M110):=(ak8 (XW h110 aP))
structure tF where
 t0:List bf
 (t7 t8:List Int)
 t9:Int
 b0:ay
def Tz:Td 0 tF:= .c [] [0,3,7,8,9] (.r 0 3 (ec 0 (ql 108) (ec 3 (qp 0 0) (ec 7 (qo 1) (ec 8 (qo 2) (ec 9 aU en))))) (sb 0 106 (lg 106) (sr 1 3 (sr 2 3 sn))) (λz=>⟨z.1.1,z.t.1,z.t.2.1,z.1.q.1,z.2.1⟩) (λx=>((x.t0,(),(),(),x.t9,()),(x.b0,x.t7,x.t8,()))))
def BU{α:Type}(M110:Bt)(p:tF)(go:tF->af α)(e1 e2:af α):af α:=
 bif w9 (p.t9<zZ p.b0.ax)then if 0<=p.t9/\p.t9<zZ p.b0.ax then match M110 p.t0 (ay.mk p.b0.ax[zQ p.t9]!.bA p.b0.ax[zQ p.t9]!.fN p.b0.ax[zQ p.t9]!.ax)with|J=>J|M r1=>bif bif r1.snd.snd then O else Z then e1 else if(p.t7++[r1.fst]).length<=1073741824 then if(p.t8++[r1.snd.fst]).length<=1073741824 then go (tF.mk p.t0 (p.t7++[r1.fst]) (p.t8++[r1.snd.fst]) (ak (p.t9+1)) (ay.mk p.b0.bA p.b0.fN p.b0.ax))else J else J else J else e2
def FT(M110:Bt)(p:tF):af (af tF):=
 BU M110 p fW dy dy
def MC(M110:Bt):=bX (FT M110)
def aEg(M110:Bt):An:=(cA 3 (.two (noTwo (Tz.lp (MC M110) .no)) .no))
def aEI(M110:Bt):dB va (aCz M110) 0 300 110 (aEg M110):=bF (l:=[(bz f110 0,(Tz.lp (MC M110) .no))]) func110 (aY aL) aL (aA (aO Tz) az)
def auZ(M110:Bt)(a0:aa bf)(a1:ay):af akw:=
 match MC M110 (tF.mk a0 [] [] (0) (ay.mk a1.bA a1.fN a1.ax))with|J=>J|M r2=>BU M110 r2 (λ_=>J) (M ((0,0,O))) (match ais r2.t0 (ay.mk r2.b0.bA r2.b0.fN r2.b0.ax) r2.t7 r2.t8 with|J=>J|M r4=>bif w9 (-1048576<=r4.fst)then M ((r4.fst,r4.snd,w9 (r4.snd<=1048576)))else M ((r4.fst,r4.snd,O)))
def apl:Nat->Bt
 |0=>(λ_ _=>J)
 |n+1=>(auZ (apl n))
def ag7(n:Nat):Bt:=(apl n)
def P4:∀n,anV (ag7 n)
 |0=>λ_ _ h=>(by cases h)
 |n+1=>fo (alh (P4 n)) (aEI (ag7 n)) (λ_=>aL) (λ_=>aL) λ_=>aL
def ama:Bt:=λa0 a1=>lim (λn=>ag7 n a0 a1)
def aln:anV ama:=λg b h=>(bW h).elim λn=>P4 n g b
def aJ9(F:aT):aT:=avP ama F
def amn:EO aJ9:=XW aln
abbrev E54:=Int
def d54:Td 0 E54:=dW 6
def m54(a0:aa bf)(a1:ay)(a2:Bool):af E54:=
 match ak6 a0 (ay.mk a1.bA a1.fN a1.ax) a2 with|J=>J|M r1=>bif bif r1 then O else Z then M (1)else match ama a0 (ay.mk a1.bA a1.fN a1.ax)with|J=>J|M r2=>bif bif r2.snd.snd then O else Z then M (3)else M (0)
def e54:=eL va 54 O akZ d54 (λg=>m54 g.1 g.2.1 g.t.1)
def acv:EO e54:=λh=>kL (an:= .no) func54 (amn (alZ aP)) az h
def abX:EP e54:=λh=>kP h
def atX:aT:=dz
abbrev atV:=Bool
def d176:Td 0 atV:=iu 2
def aCZ:=Lt
def ao9:An:=(noTwo (.two (.rb [] 2) .no))
def ay5:∀f∈([]:aa Nat),bH (atX) f:=az
def NJ(a0:ay):atV:=
 let r1:Bool:=bif w9 (a0.bA=0)then bif w9 (a0.fN=0)then w9 ((zZ a0.ax:Int)=0)else O else O;r1
def aIs(a0:ay):bY va (atX) 300 (ao9) 176 (aCZ.c (a0,())) [] 0 d176.rd=M (NJ a0):=by
 refine Eq.trans (b:=(
  match bif w9 (a0.bA=0)then bif w9 (a0.fN=0)then M (w9 ((zZ a0.ax:Int)=0))else M (O)else M (O)with|J=>J|M r1=>M (r1):af atV)) aL ?_
 simp only[NJ,b6,cw]
def avi:=eL va 176 O aCZ d176 (λg=>M (NJ g.1))
def ak7:EO avi:=λh=>kL (F:=atX) (an:=ao9) (l:=[(.skip,(.rb [] 2))]) func176 aP (aA ay5 az) h (c:=λg=>aIs g.1)
def H8:EP avi:=λh=>kP h
def aza:aT:=dz
structure tO where
 t0:List Int
 t3:Int
def S6:Td 0 tO:= .c [] [0,3] (.r 0 0 (ec 0 (ql 3) (ec 3 aU en)) sn (λz=>⟨z.1.1,z.1.2.1⟩) (λx=>((x.t0,x.t3,()),(()))))
def EY{α:Type}(p:tO)(go:tO->af α)(e1 e2:af α):af α:=
 bif w9 (p.t3<zZ p.t0)then if 0<=p.t3/\p.t3<zZ p.t0 then if 0<=ak (p.t3-1)/\ak (p.t3-1)<zZ p.t0 then bif w9 (p.t0[zQ p.t3]!<=p.t0[(ak (p.t3-1)).toNat]!)then e1 else go (tO.mk p.t0 (ak (p.t3+1)))else J else J else e2
def Mw(p:tO):af (af tO):=
 EY p fW dy dy
def J9:=bX (Mw)
abbrev aFl:=Bool
def d177:Td 0 aFl:=iu 2
def aBX:∀f∈([]:aa Nat),bH (aza) f:=az
def ajf(a0:aa Int):af aFl:=
 match (bif w9 ((zZ a0:Int)<1)then M Z else bif w9 (32<(zZ a0:Int))then M Z else if(0:Int)<=(0:Int)/\(0:Int)<zZ a0 then M (w9 (a0[zQ 0]! <0))else J)with|J=>J|M r1=>bif r1 then M O else match J9 (tO.mk a0 1)with|J=>J|M r2=>EY r2 (λ_=>J) (M O) (M Z)
def awb:=eL va 177 O (lc (ql 3) ln) d177 (λg=>ajf g.1)
def amD:EO awb:=λh=>kL (F:=aza) (an:=(noTwo (.two (.two (.rb [] 17) .no) (.two (noTwo (S6.lp J9 .no)) .no)))) (l:=[(.skip,(.rb [] 17)),(bz f177 0,(S6.lp J9 .no))]) func177 aP (aA aBX (aA (aO S6) az)) h
def IN:EP awb:=λh=>kP h
def aBI:aT:=(awb (avi dz))
abbrev aBz:=Bool
def d111:Td 0 aBz:=iu 6
def Af:∀f∈([176,177]:aa Nat),bH (aBI) f:=(aA (IN (H8 cU)) (aA (IN (H8 cU)) az))
def ad8(a0:bn)(a1:aM)(a2:Bool):af aBz:=
 match bif w9 ((zZ a1.aQ:Int)=0)then M (w9 ((zZ a1.aX:Int)=0))else M O with|J=>J|M r1=>match bif w9 (0<=a1.bq)then bif w9 (a1.bq<zZ a0.ah)then if 0<=a1.bq/\a1.bq<zZ a0.ah then M (w9 (a0.ah[a1.bq.toNat]!.bQ=0))else J else M O else M O with|J=>J|M r2=>bif w9 (a1.cu=0)then match bif r1 then bif r2 then bif w9 (a1.fN=0)then M (w9 ((zZ a1.aR:Int)=0))else M O else M O else M O with|J=>J|M r3=>M (r3)else bif w9 (a1.cu=1)then match bif r1 then bif w9 (a1.bq=0)then bif w9 (a1.fN=0)then M (w9 ((zZ a1.aR:Int)=0))else M O else M O else M O with|J=>J|M r4=>M (r4)else bif w9 (a1.cu=2)then match bif r1 then bif w9 (a1.bq=0)then bif w9 (a1.fN=0)then bif w9 ((zZ a1.aR:Int)=0)then M (NJ (ay.mk a1.aB.bA a1.aB.fN a1.aB.ax))else M O else M O else M O else M O with|J=>J|M r5=>M (r5)else bif w9 (a1.cu=3)then match bif w9 (a1.bq=0)then bif w9 (a1.fN=0)then M (w9 ((zZ a1.aR:Int)=0))else M O else M O with|J=>J|M r6=>M (r6)else bif w9 (a1.cu=4)then match bif w9 (a1.bq=0)then bif w9 ((zZ a1.aX:Int)=0)then M (w9 ((zZ a1.aR:Int)=0))else M O else M O with|J=>J|M r7=>M (r7)else bif w9 (a1.cu=5)then match bif r1 then bif r2 then bif w9 (0<=a1.fN)then bif w9 (a1.fN<zZ a0.ai)then bif w9 ((zZ a1.aR:Int)=0)then M (NJ (ay.mk a1.aB.bA a1.aB.fN a1.aB.ax))else M O else M O else M O else M O else M O with|J=>J|M r8=>M (r8)else bif w9 (a1.cu=6)then match bif r1 then bif a2 then bif w9 (a1.bq=0)then bif w9 (a1.fN=0)then bif NJ (ay.mk a1.aB.bA a1.aB.fN a1.aB.ax)then match ajf a1.aR with|J=>J|M r9=>M (r9)else M O else M O else M O else M O else M O with|J=>J|M r10=>M (r10)else M O
def avK:=eL va 111 O (lc (qg 26) (lc (qg 111) (lc qb ln))) d111 (λg=>ad8 g.1 g.2.1 g.t.1)
def amK:EO avK:=λh=>kL (F:=aBI) (an:=(noTwo (.two (.rb [176,177] 7) (.two (.rb [176,177] 8) (.two (cA 2 (.two (.two (.rb [176,177] 6) .no) (noTwo (.two (.two (.rb [176,177] 6) .no) (noTwo (.two (.two (.rb [176,177] 6) .no) (noTwo (.two (.two (.rb [176,177] 6) .no) (noTwo (.two (.two (.rb [176,177] 6) .no) (noTwo (.two (.two (.rb [176,177] 6) .no) (noTwo (.two (.two (.rb [176,177] 6) .no) .no)))))))))))))) .no))))) (l:=[(.skip,(.rb [176,177] 7)),(.skip,(.rb [176,177] 8)),(.skip,(.rb [176,177] 6)),(.skip,(.rb [176,177] 6)),(.skip,(.rb [176,177] 6)),(.skip,(.rb [176,177] 6)),(.skip,(.rb [176,177] 6)),(.skip,(.rb [176,177] 6)),(.skip,(.rb [176,177] 6))]) func111 (amD (ak7 aP)) (aA Af (aA Af (aA Af (aA Af (aA Af (aA Af (aA Af (aA Af (aA Af az))))))))) h
def YB:EP avK:=λh=>kP h
abbrev E55:=Int
def d55:Td 0 E55:=dW 6
def A55:=(lc (qg 26) (lc (ql 111) (lc qb ln)))
abbrev Sj:Type:=bn->(aa aM)->Bool->af E55
def x55(zf:Sj):aT->aT:=eL va 55 O A55 d55 (λg=>zf g.1 g.2.1 g.2.2.1)
def ab6{zf:Sj}{F:aT}{f:Nat}(h:bH F f):bH (x55 zf F) f:=jf h (λ_=>aL)
def H55(zf:Sj):Prop:=HL va 55 A55 d55 (λg=>zf g.1 g.2.1 g.2.2.1)
def aeB{zf:Sj}(hM:H55 zf):EO (x55 zf):=fI (sc:=sB) dQ hM ⟨_,func55,aL,aL⟩ (λ_=>aL) (λ_=>aL)
def F55(M55:Sj):aT:=(avK (x55 M55 (e54 dz)))
def awQ{M55}(h55:H55 M55):bK va (F55 M55):=(amK (aeB h55 (acv aP)))
structure Cj where
 t1:List aM
 t2:Bool
 t7:Int
 b0:bn
def ahz:Td 0 Cj:= .c [] [1,2,3,7] (.r 0 1 (ec 1 (ql 111) (ec 2 qb (ec 3 (qp 0 0) (ec 7 aU en)))) (sb 0 26 (lg 26) sn) (λz=>⟨z.1.1,z.1.2.1,z.1.t.2.1,z.2.1⟩) (λx=>((x.t1,x.t2,(),x.t7,()),(x.b0,()))))
def N4{α:Type}(M55:Sj)(p:Cj)(go:Cj->af α)(e1:af α)(e2:af α)(e3:E54->af α)(e4:E55->af α)(e5:E55->af α)(e6:E54->af α)(e7:E55->af α)(e8:E55->af α)(e9:af α):af α:=
 bif w9 (p.t7<zZ p.t1)then if 0<=p.t7/\p.t7<zZ p.t1 then match (bif p.t2 then match ad8 p.b0 (aM.mk p.t1[zQ p.t7]!.cu p.t1[zQ p.t7]!.aW p.t1[zQ p.t7]!.bq p.t1[zQ p.t7]!.fN (ay.mk p.t1[zQ p.t7]!.aB.bA p.t1[zQ p.t7]!.aB.fN p.t1[zQ p.t7]!.aB.ax) p.t1[zQ p.t7]!.aQ p.t1[zQ p.t7]!.aX p.t1[zQ p.t7]!.aR) (w9 (p.t7=ak ((zZ p.t1:Int)-1)))with|J=>J|M r1=>M (bif r1 then O else Z)else match ad8 p.b0 (aM.mk p.t1[zQ p.t7]!.cu p.t1[zQ p.t7]!.aW p.t1[zQ p.t7]!.bq p.t1[zQ p.t7]!.fN (ay.mk p.t1[zQ p.t7]!.aB.bA p.t1[zQ p.t7]!.aB.fN p.t1[zQ p.t7]!.aB.ax) p.t1[zQ p.t7]!.aQ p.t1[zQ p.t7]!.aX p.t1[zQ p.t7]!.aR) O with|J=>J|M r2=>M (bif r2 then O else Z))with|J=>J|M r3=>bif r3 then e1 else bif w9 (p.t1[zQ p.t7]!.cu=2)then match (bif w9 (p.t1[zQ p.t7]!.aW<0)then M Z else bif w9 (67108864<p.t1[zQ p.t7]!.aW)then M Z else bif w9 (p.t1[zQ p.t7]!.fN<0)then M Z else bif w9 (p.t1[zQ p.t7]!.cu=4)then M (w9 (4096<p.t1[zQ p.t7]!.fN))else M O)with|J=>J|M r4=>bif r4 then e2 else match (bif w9 (0<(↑p.t1[zQ p.t7]!.aR.length:Int))then if 0<=ak ((↑p.t1[zQ p.t7]!.aR.length:Int)-(1:Int))/\ak ((↑p.t1[zQ p.t7]!.aR.length:Int)-(1:Int))<(↑p.t1[zQ p.t7]!.aR.length:Int)then M (w9 (67108864<p.t1[zQ p.t7]!.aR[(ak ((↑p.t1[zQ p.t7]!.aR.length:Int)-1)).toNat]!))else J else M O)with|J=>J|M r5=>bif r5 then e2 else match m54 p.b0.ah (ay.mk p.t1[zQ p.t7]!.aB.bA p.t1[zQ p.t7]!.aB.fN p.t1[zQ p.t7]!.aB.ax) O with|J=>J|M r6=>bif bif w9 (r6=0)then O else Z then e3 r6 else match M55 p.b0 p.t1[zQ p.t7]!.aQ O with|J=>J|M r7=>bif bif w9 (r7=0)then O else Z then e4 r7 else match M55 p.b0 p.t1[zQ p.t7]!.aX O with|J=>J|M r8=>bif bif w9 (r8=0)then O else Z then e5 r8 else go (Cj.mk p.t1 p.t2 (ak (p.t7+1)) p.b0)else match (bif w9 (p.t1[zQ p.t7]!.aW<0)then M Z else bif w9 (10000<p.t1[zQ p.t7]!.aW)then M Z else bif w9 (p.t1[zQ p.t7]!.fN<0)then M Z else bif w9 (p.t1[zQ p.t7]!.cu=4)then M (w9 (4096<p.t1[zQ p.t7]!.fN))else M O)with|J=>J|M r9=>bif r9 then e2 else match (bif w9 (0<(↑p.t1[zQ p.t7]!.aR.length:Int))then if 0<=ak ((↑p.t1[zQ p.t7]!.aR.length:Int)-(1:Int))/\ak ((↑p.t1[zQ p.t7]!.aR.length:Int)-(1:Int))<(↑p.t1[zQ p.t7]!.aR.length:Int)then M (w9 (67108864<p.t1[zQ p.t7]!.aR[(ak ((↑p.t1[zQ p.t7]!.aR.length:Int)-1)).toNat]!))else J else M O)with|J=>J|M r10=>bif r10 then e2 else match m54 p.b0.ah (ay.mk p.t1[zQ p.t7]!.aB.bA p.t1[zQ p.t7]!.aB.fN p.t1[zQ p.t7]!.aB.ax) O with|J=>J|M r11=>bif bif w9 (r11=0)then O else Z then e6 r11 else match M55 p.b0 p.t1[zQ p.t7]!.aQ O with|J=>J|M r12=>bif bif w9 (r12=0)then O else Z then e7 r12 else match M55 p.b0 p.t1[zQ p.t7]!.aX O with|J=>J|M r13=>bif bif w9 (r13=0)then O else Z then e8 r13 else go (Cj.mk p.t1 p.t2 (ak (p.t7+1)) p.b0)else J else e9
def Ib(M55:Sj)(p:Cj):af (af Cj):=
 N4 M55 p (λs=>M (M s)) (M J) (M J) (λ_=>M J) (λ_=>M J) (λ_=>M J) (λ_=>M J) (λ_=>M J) (λ_=>M J) (M J)
def apC(M55:Sj):An:=(noTwo (.two (noTwo (.two (.two (.rb [111] 32) .no) (cA 2 (.two (.two (.rb [111] 59) .no) (.two (.two (.rb [111] 74) .no) .no))))) .no))
def XF(M55:Sj):=bX (Ib M55)
def aIP(M55:Sj):An:=(noTwo (.two (noTwo (ahz.lp (XF M55) (apC M55))) .no))
def avI{M55}:∀f∈([111]:aa Nat),bH (F55 M55) f:=(aA (YB (ab6 (abX cU))) az)
def aLY(M55:Sj):dB va (F55 M55) 0 300 55 (aIP M55):=bF (l:=[(bz f55 0,(ahz.lp (XF M55) (apC M55))),(.skip,(.rb [111] 32)),(.skip,(.rb [111] 59)),(.skip,(.rb [111] 74))]) func55 (aY aL) aL (aA (aO ahz) (aA avI (aA avI (aA avI az))))
def s55(M55:Sj)(a0:bn)(a1:aa aM)(a2:Bool):af E55:=
 match XF M55 (Cj.mk a1 a2 (0) a0)with|J=>J|M r14=>N4 M55 r14 (λ_=>J) (M (1)) (M (3)) (λr20=>M (r20)) (λr21=>M (r21)) (λr22=>M (r22)) (λr25=>M (r25)) (λr26=>M (r26)) (λr27=>M (r27)) (M (0))
def aGi:Nat->Sj
 |0=>(λ_ _ _=>J)
 |n+1=>(s55 (aGi n))
def m55(n:Nat):Sj:=(aGi n)
def VN:∀n,H55 (m55 n)
 |0=>λ_ _ h=>(by cases h)
 |n+1=>fo (awQ (VN n)) (aLY (m55 n)) (λ_=>aL) (λ_=>aL) λ_=>aL
def r55:Sj:=λa0 a1 a2=>lim (λn=>m55 n a0 a1 a2)
def awB:H55 r55:=λg b h=>(bW h).elim λn=>VN n g b
def e55(F:aT):aT:=x55 r55 F
def awJ:EO e55:=aeB awB
abbrev E56:=Int×Int×Int
def d56:Td 0 E56:= .c [] [2,3,4] (.r 0 0 (ec 2 aU (ec 3 aU (ec 4 aU en))) sn (λz=>(z.1.1,z.1.2.1,z.1.t.1)) (λx=>((x.1,x.2.1,x.t,()),(()))))
def A56:=ab5
abbrev Wl:Type:=(aa aM)->af E56
def x56(zf:Wl):aT->aT:=eL va 56 O A56 d56 (λg=>zf g.1)
def ahK{zf:Wl}{F:aT}{f:Nat}(h:bH F f):bH (x56 zf F) f:=jf h (λ_=>aL)
def H56(zf:Wl):Prop:=HL va 56 A56 d56 (λg=>zf g.1)
def acw{zf:Wl}(hM:H56 zf):EO (x56 zf):=fI (sc:=sB) dQ hM ⟨_,func56,aL,aL⟩ (λ_=>aL) (λ_=>aL)
def F56(M56:Wl):aT:=(aiP (Zd (x56 M56 dz)))
def atl{M56}(h56:H56 M56):bK va (F56 M56):=(C5 (CZ (acw h56 aP)))
structure sJ where
 t0:List aM
 (t5 t6 t7 t8:Int)
def agE:Td 0 sJ:= .c [] [0,5,6,7,8] (.r 0 0 (ec 0 (ql 111) (ec 5 aU (ec 6 aU (ec 7 aU (ec 8 aU en))))) sn (λz=>⟨z.1.1,z.1.2.1,z.1.t.1,z.1.t.2.1,z.1.q.1⟩) (λx=>((x.t0,x.t5,x.t6,x.t7,x.t8,()),(()))))
def Pj{α:Type}(M56:Wl)(p:sJ)(go:sJ->af α)(e1:af α):af α:=
 bif w9 (p.t8<zZ p.t0)then if 0<=p.t8/\p.t8<zZ p.t0 then match M56 p.t0[zQ p.t8]!.aQ with|J=>J|M r1=>match M56 p.t0[zQ p.t8]!.aX with|J=>J|M r2=>bif w9 (p.t0[zQ p.t8]!.cu=4)then bif w9 (p.t0[zQ p.t8]!.cu=1)then go (sJ.mk p.t0 (jq (ak (p.t5+ak (1+ak (p.t0[zQ p.t8]!.fN*ak (1+r1.fst))))) 4097) (jq (ak (p.t6+1)) 9) (jq (ak (p.t7+ak (p.t0[zQ p.t8]!.fN*ak (p.t0[zQ p.t8]!.aW+r1.snd.snd)))) 67108865) (ak (p.t8+1)))else go (sJ.mk p.t0 (jq (ak (p.t5+ak (1+ak (p.t0[zQ p.t8]!.fN*ak (1+r1.fst))))) 4097) (jq (ak (p.t6+ak (p.t0[zQ p.t8]!.fN*r1.snd.fst))) 9) (jq (ak (p.t7+ak (p.t0[zQ p.t8]!.fN*ak (p.t0[zQ p.t8]!.aW+r1.snd.snd)))) 67108865) (ak (p.t8+1)))else bif w9 (p.t0[zQ p.t8]!.cu=1)then go (sJ.mk p.t0 (jq (ak (p.t5+ak (1+j8 r1.fst r2.fst))) 4097) (jq (ak (p.t6+1)) 9) (jq (ak (p.t7+ak (p.t0[zQ p.t8]!.aW+j8 r1.snd.snd r2.snd.snd))) 67108865) (ak (p.t8+1)))else go (sJ.mk p.t0 (jq (ak (p.t5+ak (1+j8 r1.fst r2.fst))) 4097) (jq (ak (p.t6+j8 r1.snd.fst r2.snd.fst)) 9) (jq (ak (p.t7+ak (p.t0[zQ p.t8]!.aW+j8 r1.snd.snd r2.snd.snd))) 67108865) (ak (p.t8+1)))else J else e1
def Xm(M56:Wl)(p:sJ):af (af sJ):=
 Pj M56 p fW dy
def VT(M56:Wl):=bX (Xm M56)
def aJf(M56:Wl):An:=(cA 2 (.two (noTwo (agE.lp (VT M56) .no)) .no))
def aHL(M56:Wl):dB va (F56 M56) 0 300 56 (aJf M56):=bF (l:=[(bz f56 0,(agE.lp (VT M56) .no))]) func56 (aY aL) aL (aA (aO agE) az)
def s56(M56:Wl)(a0:aa aM):af E56:=
 match VT M56 (sJ.mk a0 (0) (0) (0) (0))with|J=>J|M r3=>Pj M56 r3 (λ_=>J) (M ((r3.t5,r3.t6,r3.t7)))
def aAa:Nat->Wl
 |0=>(λ_=>J)
 |n+1=>(s56 (aAa n))
def m56(n:Nat):Wl:=(aAa n)
def Vi:∀n,H56 (m56 n)
 |0=>λ_ _ h=>(by cases h)
 |n+1=>fo (atl (Vi n)) (aHL (m56 n)) (λ_=>aL) (λ_=>aL) λ_=>aL
def r56:Wl:=λa0=>lim (λn=>m56 n a0)
def axj:H56 r56:=λg b h=>(bW h).elim λn=>Vi n g b
def e56(F:aT):aT:=x56 r56 F
def aes:EO e56:=acw axj
def OE{F:aT}{f:Nat}(h:bH F f):bH (e56 F) f:=ahK h
def F15:aT:=(e56 (e55 (e54 (e53 (e52 (e51 (e50 dz)))))))
def auA:bK va F15:=(aes (awJ (acv (ae0 (ac6 (axh (ati aP)))))))
structure Cp where
 (t4 t6:Int)
 b0:bn
 b1:dO
def abl:Td 0 Cp:= .c [] [1,4,5,6] (.r 0 2 (ec 1 (qp 0 0) (ec 4 aU (ec 5 (qp 1 0) (ec 6 aU en)))) (sb 0 26 (lg 26) (sb 1 116 (lg 116) sn)) (λz=>⟨z.1.2.1,z.1.t.2.1,z.2.1,z.t.1⟩) (λx=>(((),x.t4,(),x.t6,()),(x.b0,x.b1,()))))
def Ci{α:Type}(p:Cp)(go:Cp->af α)(e1 e2:af α):af α:=
 bif w9 (p.t6<p.t4)then if 0<=p.t6/\p.t6<zZ p.b0.ai then bif p.b0.ai[zQ p.t6]!.fName.toList==p.b1.fName.toList then e1 else go (Cp.mk p.t4 (ak (p.t6+1)) p.b0 (dO.mk p.b1.fName p.b1.aC p.b1.au (ay.mk p.b1.aB.bA p.b1.aB.fN p.b1.aB.ax)))else J else e2
def UB(p:Cp):af (af Cp):=
 Ci p fW dy dy
def PG:=bX (UB)
structure Nb where
 t4:Int
 b0:bn
def ae4:Td 0 Nb:= .c [] [1,4] (.r 0 1 (ec 1 (qp 0 0) (ec 4 aU en)) (sb 0 26 (lg 26) sn) (λz=>⟨z.1.2.1,z.2.1⟩) (λx=>(((),x.t4,()),(x.b0,()))))
def IG(p:Nb):af (af Nb):=
 bif w9 (p.t4<zZ p.b0.ai)then if 0<=p.t4/\p.t4<zZ p.b0.ai then match m52 p.b0.ai[zQ p.t4]!.fName with|J=>J|M r1=>bif bif r1 then O else Z then M (J)else match PG (Cp.mk p.t4 0 p.b0 (dO.mk p.b0.ai[zQ p.t4]!.fName p.b0.ai[zQ p.t4]!.aC p.b0.ai[zQ p.t4]!.au (ay.mk p.b0.ai[zQ p.t4]!.aB.bA p.b0.ai[zQ p.t4]!.aB.fN p.b0.ai[zQ p.t4]!.aB.ax)))with|J=>J|M r2=>Ci r2 (λ_=>J) (M (J)) (bif bif m53 r2.b1.aC r2.b1.au then O else Z then M (J)else match m54 r2.b0.ah (ay.mk r2.b1.aB.bA r2.b1.aB.fN r2.b1.aB.ax) Z with|J=>J|M r3=>bif bif w9 (r3=0)then O else Z then M (J)else M (M (Nb.mk (ak (r2.t4+1)) r2.b0)))else J else M (J)
def aoX:An:=(noTwo (.two (cA 2 (.two (noTwo (abl.lp PG .no)) .no)) .no))
def WW:=bX (IG)
abbrev E15:=Int
def d15:Td 0 E15:=dW 2
def A15:=(lc (qg 26) ln)
def aFd:An:=(cA 4 (.two (noTwo (ae4.lp WW aoX)) (cA 3 (.two (.two (.rb [] 86) .no) .no))))
def aJV:∀f∈([]:aa Nat),bH (F15) f:=az
def aJ6:dB va (F15) 0 300 15 (aFd):=bF (l:=[(bz f15 0,(ae4.lp WW aoX)),(bz f15 1,(abl.lp PG .no)),(.skip,(.rb [] 86))]) func15 (aY aL) aL (aA (aO ae4) (aA (aO abl) (aA aJV az)))
def m15(a0:bn):af E15:=
 match m50 a0 with|J=>J|M r4=>bif bif r4 then O else Z then M 4 else match m51 a0.ah with|J=>J|M r5=>bif bif w9 (r5=0)then O else Z then M (r5)else match WW (Nb.mk 0 a0)with|J=>J|M r6=>bif w9 (r6.t4<zZ r6.b0.ai)then if 0<=r6.t4/\r6.t4<zZ r6.b0.ai then match m52 r6.b0.ai[zQ r6.t4]!.fName with|J=>J|M r7=>bif bif r7 then O else Z then M 7 else match PG (Cp.mk r6.t4 0 r6.b0 (dO.mk r6.b0.ai[zQ r6.t4]!.fName r6.b0.ai[zQ r6.t4]!.aC r6.b0.ai[zQ r6.t4]!.au (ay.mk r6.b0.ai[zQ r6.t4]!.aB.bA r6.b0.ai[zQ r6.t4]!.aB.fN r6.b0.ai[zQ r6.t4]!.aB.ax)))with|J=>J|M r8=>Ci r8 (λ_=>J) (M 8) (bif bif m53 r8.b1.aC r8.b1.au then O else Z then M 3 else match m54 r8.b0.ah (ay.mk r8.b1.aB.bA r8.b1.aB.fN r8.b1.aB.ax) Z with|J=>J|M r9=>bif bif w9 (r9=0)then O else Z then M (r9)else J)else J else match r55 r6.b0 r6.b0.bG Z with|J=>J|M r10=>bif bif w9 (r10=0)then O else Z then M (r10)else match r56 r6.b0.bG with|J=>J|M r11=>match (bif w9 (4096<r11.fst)then M Z else bif w9 (8<r11.snd.fst)then M Z else M (w9 (67108864<r11.snd.snd)))with|J=>J|M r12=>bif r12 then M 4 else M 0
def c15(a0:bn):bY va (F15) 300 (aFd) 15 (A15.c (a0,())) [] 0 d15.rd=m15 a0:=aL
def h15:HL va 15 A15 d15 (λg=>m15 g.1):=(fo auA aJ6 (λ_=>aL) (λ_=>aL) λg=>c15 g.1)
def e15:=eL va 15 O A15 d15 (λg=>m15 g.1)
def af8{F:aT}(h:bK va F):bK va (e15 F):=fI (sc:=sB) dQ h15 ⟨_,func15,aL,aL⟩ (λ_=>aL) (λ_=>aL) h
def NM:EP e15:=λh=>kP h
end Go.Proofs.YtghilkcphindjaaGreat
end
