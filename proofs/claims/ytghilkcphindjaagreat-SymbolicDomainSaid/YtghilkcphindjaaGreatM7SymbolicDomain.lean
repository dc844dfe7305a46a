/- Merged: Yb3, Yc, Yd, Ye, Yf, Yg, Yh, Ns9, Ivr, Vl, Hka, Hkb, Sw, Sv, Sx, Sy, Hkc, Hkd, Gv, Yi, Iy1, Iy2, Opd, Q4. -/
import Derived.Test.YtghilkcphindjaaGreatM5SymbolicDomain
import Derived.Test.YtghilkcphindjaaGreatM6SymbolicDomain
import Derived.Test.YtghilkcphindjaaGreatM2SymbolicDomain
import Derived.Test.YtghilkcphindjaaGreatM3SymbolicDomain
import Derived.RangeFuncBound
import Derived.RangeFuncCalls
import Derived.RangeFuncLeaves
import Derived.Shelf.Abstract
import Derived.Shelf.RegionOpen
import Derived.WalkKit
import Derived.OwnWalkIn
import Derived.TacticsInMore
import Derived.LoopNIn
import Derived.LoopIn
import Derived.Shelf.SlSortCmp.KitK
import Derived.Sort.WalkB12
import Derived.Deep.LoopGhost
import Derived.Lib.SliceRun
import Derived.Lib.QuietBelow
import Derived.Test.YtghilkcphindjaaGreatM4SymbolicDomain
import Derived.Deep.Slices
import Derived.Lib.SmallJoins
open List renaming length -> yz
open Int renaming toNat -> zB
open Nat renaming beq -> zh, le_refl -> zA, le_trans -> zY, lt_succ_self -> z7, zero_add -> ya, add_mul -> yq, zero_le -> yy, pow_succ -> yG, pow_pos -> yM, lt_of_lt_of_le -> yN, add_zero -> yO, mul_le_mul_right -> yP, le_of_ble_eq_true -> yV, pow_le_pow_right -> xh, add_assoc -> xo, sub_self -> xy, eq_zero_or_pos -> wj, add_sub_cancel -> wA
open Int renaming toNat_natCast -> zi, lt_irrefl -> zJ, le_refl -> zL, mul_nonneg -> yQ, mul_le_mul_of_nonneg_right -> xD
open Bool renaming and_eq_true -> zj, false_eq_true -> xg, true -> O, false -> V
open Option renaming map_eq_some_iff -> zk, bind_eq_some_iff -> zn, some -> zG, isSome_none -> ye, getD_some -> yl, some -> Q, none -> J
open List renaming getElem?_eq_getElem -> zm, mem_cons -> zu, all_eq_true -> zx, mem_map -> zy, mem_singleton -> zC, length_append -> zF, length_map -> zI, map_append -> zK, length_take -> zM, getElem?_eq_some_iff -> zQ, map_congr_left -> zR, range -> zU, mem_append -> zV, drop_drop -> z6, getElem!_cons_zero -> yb, length_drop -> yc, filter_append -> yj, length_cons -> yo, take_length -> yp, idxOf_lt_length_of_mem -> yt, getElem!_cons_succ -> yu, size_toArray -> yK, nil_append -> yR, take_of_length_le -> yX, nodup_nil -> yY, cons_append -> yZ, drop_eq_getElem_cons -> y7, length_eq_zero_iff -> y8, filterMap_cons -> xd, not_mem_nil -> xe, getElem?_eq_none -> xw, finRange -> xA, length_nil -> xC, map_inj_left -> xE, take_append_drop -> xF, map_id -> xK, all_cons -> xL, drop_of_length_le -> xM, getElem?_append_right -> xO, idxOf_append -> xQ, getElem?_take_of_lt -> xR, nodup_cons -> xT, getElem_take -> xW, getElem?_append_left -> xY, filter_eq_self -> xZ, getElem_map -> x9, nodup_iff_pairwise_ne -> we, mem_of_mem_drop -> wo, filter_sublist -> wB, ext_getElem -> wE, length_pos_iff -> wH, length_singleton -> wN, idxOf_cons_self -> wO, getElem?_take_eq_none -> wP
open Array renaming getElem?_eq_some_iff -> ym, getElem?_toList -> xb, getElem?_eq_getElem -> xk, getElem?_modify -> xz
open Decidable renaming decide -> Z
open Go.Proofs.Tryz renaming prog -> wR
open Go.Proofs.Tryz
set_option linter.unusedSectionVars false
set_option linter.unusedVariables false
set_option linter.unusedSimpArgs false
set_option linter.defProp false
noncomputable section
namespace Go.Proofs.YtghilkcphindjaaGreat
open Go Go.Iv BT
def aaA{n:Int}{t:BT}{d:bO}(hn:n<=12)(h:gT n t d)(ho:Ord n 0 t):Wd d=Q O:=by
 have ha:=h.arg ho hn;have hl:=h.len;obtain⟨s1,s2,s3⟩:=dV ho hn;have hLv:=Ja h.zo;have hcl:Cl (bf t []):=dR t kX;have hdN:=h.nd;obtain⟨sn,e1,_⟩:=dL (rnd:=A6) (yz d.az) (λi (s:aa ((Int×Int×Int)×Bool))=>⟨s,d.az,(yz d.az:Int),(i:Int),d⟩) (λi s=>∀v p q,(dA s (v,p,q)).getD V=O->∃j,j<i/\d.az[j]! =⟨v,p,q⟩) (λi s hi hI=>by
  have i1:(i:Int)<(yz d.az:Int):=by omega
  have i2:(0:Int)<=(i:Int):=by omega
  have hw2:IntKind.i64.wrap ((i:Int)+1)=((i+1:Nat):Int):=iF hi (by omega);obtain⟨v,a,b,e,hf,ma,mb,hab,hv0,hvn,hta,htb,hnum,hne⟩:=KU hLv ho (show i<yz (bE (bf t [])) by omega);rw[<-h.nodes]at hf;have da:Den d.g (num gG (bE (bf t [])) a) a:=by have:=gB hcl hLv ma;rw[<-h.nodes]at this;exact this
  have db:Den d.g (num gG (bE (bf t [])) b) b:=by have:=gB hcl hLv mb;rw[<-h.nodes]at this;exact this
  have ta:=uC ha da;have tb:=uC ha db;obtain⟨na1,na2⟩:=hnum a (.inl rfl);obtain⟨nb1,nb2⟩:=hnum b (.inr rfl);have hL2:((yz gG:Nat):Int)=2:=rfl;rw[hL2]at na2 nb2;generalize num gG (bE (bf t [])) a=x at*;generalize num gG (bE (bf t [])) b=y at*;have hws:IntKind.i64.wrap (1+(i:Int))=1+(i:Int):=aJ (by omega) (by omega);have c0:Z (d.ah<=v)=V:=dw (by rw[h.v];omega);have c1:Z (x<0)=V:=dw (by omega);have c2:Z (1+(i:Int)<x)=V:=dw (by omega);have c3:Z (y<0)=V:=dw (by omega);have c4:Z (1+(i:Int)<y)=V:=dw (by omega);have c5:Z (x=y)=V:=dw hne;have c6:Z (v<0)=V:=dw (by omega);have c7:Z (a.top n<=v)=V:=dw (by omega);have c8:Z (b.top n<=v)=V:=dw (by omega);have c9:(dA s (v,x,y)).getD V=V:=by
   cases e9:(dA s (v,x,y)).getD false with
   |false=>rfl
   |true=>
    obtain⟨j,hj,hj2⟩:=hI v x y e9;rw[<-hf]at hj2;have:=nd_get! hdN (by omega) hi hj2;omega
  refine⟨fQ s (v,x,y) O,?_,λv' p' q' h'=> ?_⟩
  ·unfold A6;simp only[zi,i1,i2,fO,dh,cL,gd,dU,hf,hws,c0,c1,c2,c3,c4,c5,c6,c9,ta,tb,c7,c8,hw2]
  ·rw[dD]at h';split at h'
   ·rename_i e2;cases e2;exact⟨i,by omega,hf⟩
   ·obtain⟨j,hj,hj2⟩:=hI v' p' q' h';exact⟨j,by omega,hj2⟩) (λ_ _=>by unfold A6;simp) (b:=[]) (λv p q h=>by rw[jo]at h;cases h)
 have e1':FC ⟨[],d.az,(yz d.az:Int),0,d⟩=Q ⟨sn,d.az,(yz d.az:Int),(yz d.az:Int),d⟩:=e1;have hroot:=KN (l:=bf t []) hLv (bY t []);rw[<-h.root]at hroot;have hL2:((yz gG:Nat):Int)=2:=rfl;rw[hL2]at hroot;have hws:IntKind.i64.wrap (1+(yz d.az:Int))=1+(yz d.az:Int):=aJ (by omega) (by omega);have c1:Z (0<=d.bu)=O:=iN (by omega);have c2:Z (d.bu<=1+(yz d.az:Int))=O:=iN (by omega);unfold Wd;simp only[e1',zJ,jk,cL,hws,c1,c2,dh]
def Mh{n:Int}{t:BT}{d:bO}(h0:0<=n)(hn:n<=12)(h:gT n t d)(ho:Ord n 0 t):HJ d=Q 0:=by
 have hl:=h.len;obtain⟨s1,s2,s3⟩:=dV ho hn;have c1:Z (d.ah<0)=V:=dw (by rw[h.v];omega);have c2:Z ((40:Int)<d.ah)=V:=dw (by rw[h.v];omega);have c4:Z ((4096:Int)<(yz d.az:Int))=V:=dw (by omega);obtain⟨d',e,hc⟩:=RF (ns:=d.az) (by omega) h.nd h.den h.zo (by omega) (v0:=n);have:=hc.eq h;subst this;unfold HJ;rw[show QC d'.ah d'.az d'.bu=Q d' by rw[h.v];exact e];simp only[c1,c2,c4,cL,aaA hn h ho,dh,fO,Cj d'.az (by omega)]
def apq(l:aa bO)(n:Int)(hl:yz l<=1000)(h0:l≠[])(h:∀d∈l,HJ d=Q 0/\d.ah=n):Te l=Q 0:=by
 have hpos:=wH.2 h0;obtain⟨_,e0,_⟩:=dL (rnd:=B4) (yz l) (λi (_:Unit)=>⟨l,l,(yz l:Int),(i:Int)⟩) (λ_ _=>True) (λi _ hi _=>by
  have i1:(i:Int)<(yz l:Int):=by omega
  have i2:(0:Int)<=(i:Int):=by omega
  have hw2:IntKind.i64.wrap ((i:Int)+1)=((i+1:Nat):Int):=iF hi (by omega);refine⟨(),?_,trivial⟩;unfold B4;simp only[zi,i1,i2,fO,dh,cL,gd,dU,hw2,(h _ (mem_get! hi)).1]) (λ_ _=>by unfold B4;simp) (b:=()) trivial
 have e0':EX ⟨l,l,(yz l:Int),0⟩=Q ⟨l,l,(yz l:Int),(yz l:Int)⟩:=e0;obtain⟨_,e1,_⟩:=dL (rnd:=vu) (yz l) (λi (_:Unit)=>⟨l,l,(yz l:Int),(i:Int)⟩) (λ_ _=>True) (λi _ hi _=>by
  have i1:(i:Int)<(yz l:Int):=by omega
  have i2:(0:Int)<=(i:Int):=by omega
  have i3:(0:Int)<=(0:Int)/\(0:Int)<(yz l:Int):=by omega
  have hw2:IntKind.i64.wrap ((i:Int)+1)=((i+1:Nat):Int):=iF hi (by omega);refine⟨(),?_,trivial⟩;unfold vu;simp only[zi,i1,i2,i3,fO,dh,cL,gd,dU,hw2,(h _ (mem_get! hi)).2,(h _ (mem_get! hpos)).2]) (λ_ _=>by unfold vu;simp) (b:=()) trivial
 have e1':DW ⟨l,l,(yz l:Int),0⟩=Q ⟨l,l,(yz l:Int),(yz l:Int)⟩:=e1;unfold Te;simp only[e0',e1',zJ,jk,cL]
def an3{n:Int}{t1 t2 t:BT}{d1 d2:bO}{o:Int}(h0:0<=n)(hn:n<=12)(c1:gT n t1 d1)(o1:Ord n 0 t1)(c2:gT n t2 d2)(o2:Ord n 0 t2)(ho:0<=o)(ho2:o<=15)(hA:AP n (λx y _=>Pg o x y) 12 t1 t2 (.leaf 0) t):∃d,LO o d1 d2=Q (d,0)/\gT n t d:=by
 have hot:Ord n 0 t:=Es hA o1 o2 trivial h0;have hz:t.jy zo:=by
  have:∀{d:Nat} {a b c t:BT},AP n (λx y _=>Pg o x y) d a b c t->t.jy zo:=λh=>by
   induction h with
   |leaf x y z=>exact amS o x y
   |node v hv hn h0 h1 i0 i1=>exact all_mk i0 i1
  exact this hA
 obtain⟨s1,s2,s3⟩:=dV hot hn;have hv:=apq [d1,d2] n (by simp) (by simp) λd hd=>by
  simp only[zu,xe,or_false]at hd;rcases hd with rfl|rfl
  ·exact⟨Mh h0 hn c1 o1,c1.v⟩
  ·exact⟨Mh h0 hn c2 o2,c2.v⟩
 have a1:=c1.arg o1 hn;have a2:=c2.arg o2 hn;obtain⟨q,m',b',w,hI,_,_,hd,hs⟩:=Yj (wkA (o:=o) a1 a2) (avP (n:=n) (d0:=d1) (d1:=d2) (o:=o)) (aB4 a1 a2) hA d1.bu d2.bu 0 [] ⟨[],[]⟩ rfl c1.den c2.den fm adk (λr0 r1 r2 q h=>by rw[jo]at h;cases h) (show 0+2^(12+1)<=1000000000 by decide) hz;have hs':yz b'.N+1<=0+2^(12+1):=hs;have hI':BIb b':=hI;have e:FT d1.bu d2.bu 0 [] n d1 d2 o []=Q (q,m',n,d1,d2,o,b'.N,b'.m):=dg 13 λk hk=>EG.1 (w k (by omega));have hbN:b'.N.Nodup:=by
  rw[we,List.pairwise_iff_getElem];intro i j hi hj hij e2;have hx:b'.N[i]=⟨b'.N[i].bz,b'.N[i].aG,b'.N[i].au⟩:=rfl;generalize b'.N[i].bz=v,b'.N[i].aG=p,b'.N[i].au=r at hx;have g1:b'.N[i]? =Q ⟨v,p,r⟩:=by rw[zm hi,hx]
  have g2:b'.N[j]? =Q ⟨v,p,r⟩:=by rw[zm hj,<-e2,hx]
  have:=hI'.inj _ _ _ (dI.2 ⟨i,rfl,g1⟩) (dI.2 ⟨j,rfl,g2⟩);omega
 obtain⟨d,e2,hc⟩:=Ld (ns:=b'.N) (by omega) hbN hd hz (by omega) (v0:=n);refine⟨d,?_,hc⟩;have c3:Z (o<0)=V:=dw (by omega);have c4:Z (15<o)=V:=dw (by omega);have hl:=hc.len;have c5:Z ((4096:Int)<(yz d.az:Int))=V:=dw (by omega);unfold LO;rw[hv];simp only[fO,dh,cL,c3,c4];unfold OX;simp only[yb,yu,c1.v,e,e2];unfold SH;rw[c5];rfl
def amW{n:Int}(h0:0<=n)(hn:n<=12)(b:Bool):∃d,H7 n b=(d,0)/\gT n (.leaf (if b then 1 else 0)) d/\d.az=[]:=by
 have c1:Z (n<0)=V:=dw (by omega);have c2:Z (40<n)=V:=dw (by omega);unfold H7;simp only[c1,c2,cL];cases b
 ·exact⟨_,rfl,⟨rfl, .inl rfl,rfl,rfl⟩,rfl⟩
 ·exact⟨_,rfl,⟨rfl, .inr rfl,rfl,rfl⟩,rfl⟩
def aAW{n i:Int}(h0:0<=n)(hn:n<=12)(hi:0<=i)(hin:i<n):∃d,J6 n i=(d,0)/\gT n (.node i (.leaf 0) (.leaf 1)) d:=by
 have c1:Z (n<0)=V:=dw (by omega);have c2:Z (40<n)=V:=dw (by omega);have c3:Z (i<0)=V:=dw (by omega);have c4:Z (n<=i)=V:=dw (by omega);unfold J6;simp only[c1,c2,c3,c4,cL];have hd:bf (.node i (.leaf 0) (.leaf 1)) []=[.leaf 0, .leaf 1, .node i (.leaf 0) (.leaf 1)]:=by simp[bf]
 refine⟨_,rfl,⟨rfl,⟨.inl rfl, .inr rfl⟩,?_,?_⟩⟩
 ·rw[hd];rfl
 ·rw[hd];simp[bE,List.filter,Kv,num]
def aq6{x:Int}(h:zo x):kE x:=by
 rcases h with h|h<;>subst h<;>rfl
def jy.imp{P zg:Int->Prop}(h:∀x,P x->zg x):∀{t:BT},t.jy P->t.jy zg
 | .leaf x,hx=>h x hx
 | .node _ a b,hx=>⟨jy.imp h hx.1,jy.imp h hx.2⟩
def Qr{n:Int}{t:BT}{c:bO}(hn:n<=12)(h:gT n t c)(ho:Ord n 0 t):∃d,U7 c=Q d/\iS n t d:=by
 have hl:=h.len;obtain⟨s1,s2,s3⟩:=dV ho hn;have hLv:=Ja h.zo;have hcl:Cl (bf t []):=dR t kX;obtain⟨r0,b1,e0,I0,_,D0,S0⟩:=Bd.ou (P:=kE) 0 ⟨[],[],[],[],V⟩ rfl (SU kE) (by simp);obtain⟨r1,b2,e1,I1,L1,D1,S1⟩:=Bd.ou (P:=kE) 1 b1 rfl I0 (by simp at S0;omega);have S2:yz b2.L+yz b2.N<=2:=by simp at S0;omega
 have e0':=mU e0;have e1':=mU e1;obtain⟨v,e2,V1,V2,V3,V4⟩:=dL (rnd:=BJ) (yz c.az) (λi (s:aa Int×Bd)=>⟨s.1,c.az,(yz c.az:Int),(i:Int),c,⟨0,[],[],0⟩,s.2.L,s.2.N,s.2.mL,s.2.mN,s.2.w⟩) (λi s=>yz s.1=2+i/\BI kE s.2/\yz s.2.L+yz s.2.N<=2+i/\∀r u,Den c.g r u->r<2+(i:Int)->Den s.2.g s.1[r.toNat]! u) (λi s hi hI=>by
  obtain⟨refs,b⟩:=s;obtain⟨H1,H2,H3,H4⟩:=hI;simp only at H1 H2 H3 H4;have i1:(i:Int)<(yz c.az:Int):=by omega
  have i2:(0:Int)<=(i:Int):=by omega
  have hw2:IntKind.i64.wrap ((i:Int)+1)=((i+1:Nat):Int):=iF hi (by omega);obtain⟨v,a,b',e,hf,ma,mb,hab,hv0,hvn,hta,htb,hnum,hne⟩:=KU hLv ho (show i<yz (bE (bf t [])) by omega);rw[<-h.nodes]at hf;have da:Den c.g (num gG (bE (bf t [])) a) a:=by have:=gB hcl hLv ma;rw[<-h.nodes]at this;exact this
  have db:Den c.g (num gG (bE (bf t [])) b') b':=by have:=gB hcl hLv mb;rw[<-h.nodes]at this;exact this
  obtain⟨na1,na2⟩:=hnum a (.inl rfl);obtain⟨nb1,nb2⟩:=hnum b' (.inr rfl);have hL2:((yz gG:Nat):Int)=2:=rfl;rw[hL2]at na2 nb2;generalize num gG (bE (bf t [])) a=x at*;generalize num gG (bE (bf t [])) b'=y at*;obtain⟨r,b3,e3,I3,L3,D3,S3⟩:=Bd.jY (P:=kE) v refs[x.toNat]! refs[y.toNat]! a b' b H2 (by omega) (H4 x a da (by omega)) (H4 y b' db (by omega));have e3':=vD e3;have hmk:jN v a b'= .node v a b':=by simp[jN,hab]
  rw[hmk]at D3;have j1:(0:Int)<=x/\x<(yz refs:Int):=by omega
  have j2:x.toNat<yz refs:=by omega
  have j3:(0:Int)<=y/\y<(yz refs:Int):=by omega
  have j4:y.toNat<yz refs:=by omega
  have j5:yz (refs++[r])<=1073741824:=by simp;omega
  refine⟨(refs++[r],b3),?_,by simp;omega,I3,by simp only;omega,λr' u hd hr=> ?_⟩
  ·unfold BJ;simp only[zi,i1,i2,fO,dh,gd,dU,hf,j1,j2,j3,j4,e3',j5,hw2]
  ·by_cases hlt:r'<2+(i:Int)
   ·have hr0:0<=r':=by
     cases hd with
     |leaf h=>rcases (fJ.1 h).1 with h'|h'<;>rw[(fJ.1 h).2,h']<;>decide
     |node h=>obtain⟨k,rfl,_⟩:=dI.1 h;omega
    have:(refs++[r])[r'.toNat]! =refs[r'.toNat]! :=by
     rw[getElem!_pos (refs++[r]) _ (by simp;omega),getElem!_pos refs _ (by omega),List.getElem_append_left]
    simp only;rw[this];exact(H4 r' u hd hlt).mono L3
   ·have hr':r'=2+(i:Int):=by omega
    subst hr';have hgi:c.g (2+(i:Int))=Q (.inr (v,x,y)):=dI.2 ⟨i,rfl,by rw[zm hi,<-getElem!_pos c.az i hi,hf]⟩;have hu:=hd.ur (.node hgi da db);subst hu;have:(refs++[r])[(2+(i:Int)).toNat]! =r:=by
     rw[show (2+(i:Int)).toNat=yz refs by omega,getElem!_pos (refs++[r]) _ (by simp)];simp
    simp only;rw[this];exact D3) (λs _=>by unfold BJ;simp) (b:=([r0,r1],b2)) ⟨rfl,I1,by simp only;omega,λr u hd hr=>by
   cases hd with
   |@leaf _ x h=>
    obtain⟨hz,rfl⟩:=fJ.1 h;rcases hz with hz|hz
    ·subst hz;exact D0.mono L1
    ·subst hz;exact D1
   |node h=>obtain⟨k,rfl,_⟩:=dI.1 h;omega⟩
 obtain⟨refs,b⟩:=v;simp only at e2 V1 V2 V3 V4;have e2':Fq ⟨[r0,r1],c.az,(yz c.az:Int),0,c,⟨0,[],[],0⟩,b2.L,b2.N,b2.mL,b2.mN,b2.w⟩=Q ⟨refs,c.az,(yz c.az:Int),(yz c.az:Int),c,⟨0,[],[],0⟩,b.L,b.N,b.mL,b.mN,b.w⟩:=e2;have hroot:=KN (l:=bf t []) hLv (bY t []);rw[<-h.root]at hroot;have hL2:((yz gG:Nat):Int)=2:=rfl;rw[hL2]at hroot;have hD:=V4 c.bu t h.den (by omega);obtain⟨d,e3,hc⟩:=nE (n:=n) (λx hx=>DC hx) V2 (by omega) hD (by omega) (by omega);refine⟨d,?_,hc⟩;have j1:(0:Int)<=c.bu/\c.bu<(yz refs:Int):=by omega
 have j2:c.bu.toNat<yz refs:=by omega
 unfold U7;rw[show gx=([],[],[],[],V)from rfl,e0'];simp only[e1',e2',zJ,jk,cL,j1,j2,gd,dU,h.v,e3]
def ayk{n:Int}{t t':BT}{c:bO}{no yes:Int}(h0:0<=n)(hn:n<=12)(h:gT n t c)(ho:Ord n 0 t)(hno:kE no)(hyes:kE yes)(hA:AP n (λx _ _=>if x=1 then yes else no) 12 t (.leaf 0) (.leaf 0) t'):∃d,Me c no yes=Q (d,0)/\iS n t' d:=by
 obtain⟨d0,e0,c0⟩:=Qr hn h ho;have hP:t'.jy kE:=by
  have:∀{d:Nat} {a b c t:BT},AP n (λx _ _=>if x=1 then yes else no) d a b c t->t.jy kE:=λh=>by
   induction h with
   |leaf x y z=>
    show kE (if x=1 then yes else no);split<;>assumption
   |node v hv hn h0 h1 i0 i1=>exact all_mk i0 i1
  exact this hA
 obtain⟨d,e1,hc⟩:=anw (yes:=yes) (no:=no) hn (c0.arg ho hn) c0.den hA (Es hA ho trivial trivial h0) hP;refine⟨d,?_,hc⟩;have hno':jK no=O:=hno;have hyes':jK yes=O:=hyes;unfold Me;simp only[Mh h0 hn h ho,fO,dh,cL,hno',hyes',e0,e1]
def UC{n:Int}{t1 t2 t:BT}{d1 d2:aH}{o:Int}(h0:0<=n)(hn:n<=12)(c1:iS n t1 d1)(o1:Ord n 0 t1)(p1:t1.jy kE)(c2:iS n t2 d2)(o2:Ord n 0 t2)(p2:t2.jy kE)(ho:0<=o)(ho2:o<=8)(hop:∀x y,∃z,iQ (280+o.toNat) x y=Q z)(hA:AP n (λx y _=>(iQ (280+o.toNat) x y).getD 0) 12 t1 t2 (.leaf 0) t)(hP:t.jy kE):∃d,Hf o d1 d2=Q (d,0)/\iS n t d:=by
 obtain⟨d,e,hc⟩:=alf hn (c1.arg o1 hn) (c2.arg o2 hn) c1.den c2.den hop hA (Es hA o1 o2 trivial h0) hP;refine⟨d,?_,hc⟩;have hv:=w9 [d1,d2] n (by simp) (by simp) λd hd=>by
  simp only[zu,xe,or_false]at hd;rcases hd with rfl|rfl
  ·exact⟨Bv h0 hn c1 o1 p1,c1.v⟩
  ·exact⟨Bv h0 hn c2 o2 p2,c2.v⟩
 have c3:Z (o<0)=V:=dw (by omega);have c4:Z ((9:Int)<=o)=V:=dw (by omega);have hl:yz Fy=9:=rfl;have c5:(0:Int)<=o/\o<(yz Fy:Int):=by rw[hl];omega
 have c6:o.toNat<yz Fy:=by rw[hl];omega
 have c7:Fy[o.toNat]! =280+o.toNat:=by
  have:o.toNat<=8:=by omega
  generalize o.toNat=k at*;rcases k with _|_|_|_|_|_|_|_|_|k<;>first|rfl|omega
 unfold Hf;simp only[hv,fO,dh,cL,c3,c4,c5,c6,c7,gd,dU,e]
def RT{n x:Int}(h0:0<=n)(hn:n<=12)(hx:kE x):∃d,Fv n x=(d,0)/\iS n (.leaf x) d/\d.az=[]:=by
 have c1:Z (n<0)=V:=dw (by omega);have c2:Z (40<n)=V:=dw (by omega);have hx':jK x=O:=hx;unfold Fv;simp only[c1,c2,hx',dh,cL];have hd:bf (.leaf x) []=[.leaf x]:=rfl;refine⟨_,rfl,⟨rfl,List.pairwise_singleton ..,λy=> ?_,rfl,?_⟩,rfl⟩
 ·rw[hd];simp
 ·simp[num]
def Ln{b:Bd}(hb:BI kE b)(hs:yz b.L+yz b.N<=1000000){t:BT}{r n:Int}(hd:Den b.g r t)(hz:t.jy zo)(hN:yz (bE (bf t []))<=4096)(hL:yz (iZ (bf t []))<=4096):∃d c,Sw n r b.L b.N b.mL b.mN b.w=Q (d,0,c)/\gT n t d:=by
 have hG:=hb.inj;obtain⟨SL,ho,hO⟩:=G3 (λx hx=>(DC hx).2) hb (by omega) hd (by omega) (by omega);obtain⟨r0,b1,e0,I0,L0,D0,S0⟩:=Bd.ou (P:=kE) 0 b rfl hb (by omega);obtain⟨r1,b2,e1,I1,L1,D1,S1⟩:=Bd.ou (P:=kE) 1 b1 rfl I0 (by omega);have e0':=mU e0;have e1':=mU e1;have hG2:=I1.inj;have hle:b.g.Le b2.g:=L0.trans L1;have D0':=D0.mono L1;have hr01:r0≠r1:=λh=>by
  rw[h]at D0';have:=D0'.ur D1;cases this
 have hcl:Cl (bf t []):=dR t kX;have hnd:(bf t []).Nodup:=mJ t yY;have hNd:(bE (bf t [])).Nodup:=hnd.sublist wB;have hzl:=Ja hz;have hden:∀u∈bf t [],∃r',Den b.g r' u:=λu hu=>by
  rcases fu hu with h|h
  ·cases h
  ·exact p6 hd h
 have hdr0:∀u∈bf t [],Den b.g (rf b.g u) u:=λu hu=>by
  obtain⟨r',h⟩:=hden u hu;rw[nt hG h];exact h
 have hdr:∀u∈bf t [],Den b2.g (rf b.g u) u:=λu hu=>(hdr0 u hu).mono hle;have hrt:rf b.g t=r:=nt hG hd;generalize hacc:bf t []=acc at*;have hta:t∈acc:=by rw[<-hacc];exact bY _ _
 have hleaf:∀x,BT.leaf x∈acc->dA [(r0,(0:Int)),(r1,1)] (rf b.g (.leaf x))=Q (num gG (bE acc) (.leaf x)):=λx hx=>by
  have hdx:=hdr _ hx;have hx2:x∈gG:=hzl x hx;simp only[gG,zu,xe,or_false]at hx2;rcases hx2 with rfl|rfl
  ·rw[hdx.inj hG2 D0'];unfold dA;simp[num]
  ·rw[hdx.inj hG2 D1];unfold dA;simp[num,hr01.symm];rfl
 have hixl:∀i,i<yz (bE acc)->∃v p q k,(bE acc)[i]! = .node v p q/\p∈acc/\q∈acc/\rf b.g (.node v p q)=2*((k:Nat):Int)+1/\b2.N[k]? =Q ⟨v,rf b.g p,rf b.g q⟩/\(ixs b.g (bE acc))[i]! =(k:Int):=λi hi=>by
  obtain⟨v,p,q,e,hm⟩:=D9 (mem_get! hi);obtain⟨hp,hq⟩:=hcl.parts hm;have hdx:=hdr _ hm;cases hdx with
  |@node _ _ a c _ _ h ha hc=>
   obtain⟨k,e2,hk⟩:=iu.1 h;refine⟨v,p,q,k,e,hp,hq,e2,by rw[<-ha.inj hG2 (hdr p hp),<-hc.inj hG2 (hdr q hq)];exact hk,?_⟩;unfold ixs;rw[map_get! _ hi,e,e2];omega
 obtain⟨n1,e2,i1⟩:=dL (rnd:=Aa) (bE acc).length (λi (nu:aa (Int×Int))=>⟨r,nu,ixs b.g (bE acc),(yz (bE acc):Int),(i:Int),b2.L,b2.N,b2.mL,b2.mN,b2.w,⟨0,[],0⟩,⟨n,(fT gG (bE acc)).take i,0⟩⟩) (λi nu=>(∀x,BT.leaf x∈acc->dA nu (rf b.g (.leaf x))=Q (num gG (bE acc) (.leaf x)))/\∀j,j<i->dA nu (rf b.g (bE acc)[j]!)=Q ((2+j:Nat):Int)) (λi nu hi hI=>by
  obtain⟨v,p,q,k,e,hp,hq,hr,hk,hix⟩:=hixl i hi;have hm:BT.node v p q∈acc:=by rw[<-e];exact(dc.1 (mem_get! hi)).1
  obtain⟨hk1,hk2⟩:=get_some hk;have i1:(i:Int)<(yz (bE acc):Int):=by omega
  have i1':(i:Int)<(yz (ixs b.g (bE acc)):Int):=by rw[fV];exact i1
  have i2:(0:Int)<=(i:Int):=by omega
  have i3:i<yz (ixs b.g (bE acc)):=by rw[fV];exact hi
  have i4:(0:Int)<=(k:Int):=by omega
  have i5:(k:Int)<(yz b2.N:Int):=by omega
  have hw2:IntKind.i64.wrap ((i:Int)+1)=((i+1:Nat):Int):=iF hi (by omega);have hwk:IntKind.i64.wrap (IntKind.i64.wrap (2*(k:Int))+1)=2*(k:Int)+1:=by
   rw[aJ (n:=2*(k:Int)) (by omega) (by omega)];exact aJ (by omega) (by omega)
  have hws:IntKind.i64.wrap (2+(i:Int))=((2+i:Nat):Int):=by
   rw[aJ (by omega) (by omega)];omega
  have hnum:∀c,(c=p\/c=q)->dA nu (rf b.g c)=Q (num gG (bE acc) c):=λc hc=>by
   cases c with
   |leaf x=>
    refine hI.1 x ?_;rcases hc with h|h
    ·rw[h];exact hp
    ·rw[h];exact hq
   |node v' p' q'=>
    obtain⟨h1,h2⟩:=BU hcl hnd hm hc rfl;rw[<-e,o5 hNd hi]at h2;have h3:=hI.2 _ h2;rw[dz h1]at h3;rw[h3];rfl
  have hfi:(fT gG (bE acc))[i]! =⟨v,num gG (bE acc) p,num gG (bE acc) q⟩:=by
   unfold fT;rw[map_get! _ hi,e];rfl
  have hfl:i<yz (fT gG (bE acc)):=by rw[fK];exact hi
  have hlen:yz ((fT gG (bE acc)).take i++[(⟨v,num gG (bE acc) p,num gG (bE acc) q⟩:aF)])<=1073741824:=by simp;omega
  refine⟨fQ nu (2*(k:Int)+1) ((2+i:Nat):Int),?_,λx hx=> ?_,λj hj=> ?_⟩
  ·unfold Aa;simp only[zi,i1,i1',i2,fO,dh,gd,dU,i3,hix,i4,i5,hk1,hk2,hw2,hwk,hws,hnum p (.inl rfl),hnum q (.inr rfl),yl,hlen];rw[take_succ! hfl,hfi]
  ·rw[dD,bT,hI.1 x hx];intro h;have hdx:=hdr _ hx;rw[h]at hdx;cases hdx with
   |leaf h=>
    obtain⟨k',e,_⟩:=gD.1 h;omega
  ·rw[dD];by_cases e3:j=i
   ·subst e3;rw[e,hr,bS rfl]
   ·rw[bT,hI.2 j (by omega)];intro h;rw[<-hr,<-e]at h;have h1:=hdr _ (dc.1 (mem_get! (by omega:j<yz (bE acc)))).1;have h2:=hdr _ (dc.1 (mem_get! hi)).1;rw[h]at h1;exact e3 (nd_get! hNd (by omega) hi (h1.ur h2))) (λnu _=>by unfold Aa;simp) (b:=[(r0,0),(r1,1)]) ⟨hleaf,λj hj=>by omega⟩
 have e2':FY ⟨r,[(r0,0),(r1,1)],ixs b.g (bE acc),(yz (ixs b.g (bE acc)):Int),0,b2.L,b2.N,b2.mL,b2.mN,b2.w,⟨0,[],0⟩,⟨n,[],0⟩⟩=Q ⟨r,n1,ixs b.g (bE acc),(yz (bE acc):Int),(yz (bE acc):Int),b2.L,b2.N,b2.mL,b2.mN,b2.w,⟨0,[],0⟩,⟨n,fT gG (bE acc),0⟩⟩:=by
  have:(fT gG (bE acc)).take (bE acc).length=fT gG (bE acc):=yX (by rw[fK];omega);rw[this]at e2;rw[fV];exact e2
 have hroot:dA n1 r=Q (num gG (bE acc) t):=by
  rw[<-hrt];cases t with
  |leaf x=>exact i1.1 x hta
  |node v p q=>
   have hm:BT.node v p q∈bE acc:=dc.2 ⟨hta,rfl⟩;have:=i1.2 _ (yt hm);rw[dz hm]at this;exact this
 refine⟨⟨n,fT gG (bE acc),num gG (bE acc) t⟩,(b2.L,b2.N,b2.mL,b2.mN,b2.w),?_,⟨rfl,hz,by rw[hacc],by rw[hacc]⟩⟩;have c2:Z ((4096:Int)<(yz (ixs b.g (bE acc)):Int))=V:=dw (by rw[fV];omega);have c3:Z (r0=r1)=V:=dw hr01;have c4:Z (r1=r0)=V:=dw hr01.symm;unfold Sw;simp only[ho,c2,cL,e0',e1',c3,c4,dh,e2',zJ,jk,hroot,yl]
def Se{n:Int}{t t':BT}{d:aH}{z:Int}(h0:0<=n)(hn:n<=12)(hc:iS n t d)(ho:Ord n 0 t)(hp:t.jy kE)(hA:AP n (λx _ _=>if x=z then 1 else 0) 12 t (.leaf 0) (.leaf 0) t'):∃d',PV d z=Q (d',0)/\gT n t' d':=by
 have ha:=hc.arg ho hn;have hz:t'.jy zo:=by
  have:∀{d:Nat} {a b c t:BT},AP n (λx _ _=>if x=z then 1 else 0) d a b c t->t.jy zo:=λh=>by
   induction h with
   |leaf x y w=>
    show zo (if x=z then 1 else 0);split
    ·exact .inr rfl
    ·exact .inl rfl
   |node v hv hn h0 h1 i0 i1=>exact all_mk i0 i1
  exact this hA
 have ho':=Es hA ho trivial trivial h0;obtain⟨q,m',b',w,hI,hb,hs⟩:=qA (apN (z:=z) ha (P:=kE)) hA hc.den fm fm (jy.imp (λx=>aq6) hz);have e:MU d.bu 0 0 [] d [] [] [] [] V z=Q (q,m',d,b'.L,b'.N,b'.mL,b'.mN,b'.w,z):=dg 13 λk hk=>qS.1 (w k (by omega));obtain⟨s1,s2,_⟩:=dV ho' hn;obtain⟨d',c,e2,hc'⟩:=Ln (n:=n) hI (by omega) hb hz (by omega) (by omega);refine⟨d',?_,hc'⟩;have hv:=w9 [d] n (by simp) (by simp) λx hx=>by
  simp only[zu,xe,or_false]at hx;subst hx;exact⟨Bv h0 hn hc ho hp,hc.v⟩
 unfold PV;simp only[yb,hv,fO,dh,cL];rw[show gx=([],[],[],[],V)from rfl,e];simp only[hc.v];rw[e2]
structure Dm (k:Nat) (F:List Bool->Int) (d:aH):Prop where
 c:iS (k:Int) (tf k 0 F) d
 p:∀e:List Bool,yz e=k->kE (F e)
def Db(k:Nat)(F:aa Bool->Int)(d:bO):Prop:=gT (k:Int) (tf k 0 F) d
def AP.le{n:Int}{f:Int->Int->Int->Int}{d d':Nat}{a b c r:BT}(h:AP n f d a b c r)(hd:d<=d'):AP n f d' a b c r:=by
 induction hd with
 |refl=>exact h
 |step _ ih=>exact ih.mono
def KD{k:Nat}{F:aa Bool->Int}:Ord (k:Int) 0 (tf k 0 F):=tB (by omega)
def ap1{k:Nat}(hk:k<=12)(f:Int->Int->Int->Int)(F:aa Bool->Int):AP (k:Int) f 12 (tf k 0 F) (.leaf 0) (.leaf 0) (tf k 0 λe=>f (F e) 0 0):=by
 have h:=Ow (n:=(k:Int)) (f:=f) (k:=k) (v:=0) (F:=F) (G:=λ_=>0) (H:=λ_=>0) (by omega);rw[iT]at h;exact h.le hk
def ap2{k:Nat}(hk:k<=12)(f:Int->Int->Int->Int)(F G:aa Bool->Int):AP (k:Int) f 12 (tf k 0 F) (tf k 0 G) (.leaf 0) (tf k 0 λe=>f (F e) (G e) 0):=by
 have h:=Ow (n:=(k:Int)) (f:=f) (k:=k) (v:=0) (F:=F) (G:=G) (H:=λ_=>0) (by omega);rw[iT]at h;exact h.le hk
def Dm.congr{k:Nat}{F G:aa Bool->Int}{d:aH}(h:Dm k F d)(e:∀x:aa Bool,yz x=k->F x=G x):Dm k G d:=
 ⟨by rw[<-iw e];exact h.c,λx hx=>by rw[<-e x hx];exact h.p x hx⟩
def Db.congr{k:Nat}{F G:aa Bool->Int}{d:bO}(h:Db k F d)(e:∀x:aa Bool,yz x=k->F x=G x):Db k G d:=by
 unfold Db at*;rw[<-iw e];exact h
def asG{k:Nat}(hk:k<=12){F G H:aa Bool->Int}{a b:aH}{o:Int}(ho:0<=o)(ho2:o<=8)(hop:∀x y,∃z,iQ (280+o.toNat) x y=Q z)(ha:Dm k F a)(hb:Dm k G b)(hH:∀e:aa Bool,yz e=k->iQ (280+o.toNat) (F e) (G e)=Q (H e))(hP:∀e:aa Bool,yz e=k->kE (H e)):∃d,Hf o a b=Q (d,0)/\Dm k H d:=by
 have hA:=ap2 hk (λx y _=>(iQ (280+o.toNat) x y).getD 0) F G;have hc:(tf k 0 λe=>(iQ (280+o.toNat) (F e) (G e)).getD 0)=tf k 0 H:=iw λe he=>by rw[hH e he];rfl
 rw[hc]at hA;obtain⟨d,e,h⟩:=UC (by omega) (by omega) ha.c KD (pP ha.p) hb.c KD (pP hb.p) ho ho2 hop hA (pP hP);exact⟨d,e,h,hP⟩
def awC{k:Nat}(hk:k<=12){F G:aa Bool->Int}{a b:aH}(ha:Dm k F a)(hb:Dm k G b)(hP:∀e:aa Bool,yz e=k->kE (F e+G e)):∃d,Hf 0 a b=Q (d,0)/\Dm k (λe=>F e+G e) d:=
 asG hk (by omega) (by omega) (λx y=>⟨_,rfl⟩) ha hb (λe he=>by
  obtain⟨_,h1,h2⟩:=DC (hP e he);show Q (QI (F e) (G e))=_;unfold QI;rw[aJ (by omega) (by omega)]) hP
def are{k:Nat}(hk:k<=12){F G:aa Bool->Int}{a b:aH}(ha:Dm k F a)(hb:Dm k G b):∃d,Hf 7 a b=Q (d,0)/\Dm k (λe=>if F e<G e then 1 else 0) d:=
 asG hk (by omega) (by omega) (λx y=>⟨_,rfl⟩) ha hb (λe he=>by
  show Q (RH (F e) (G e))=_;unfold RH;rw[MW];simp only[decide_eq_true_eq]) (λe _=>by
  show kE (if F e<G e then 1 else 0);split<;>rfl)
def ofD{k:Nat}(hk:k<=12){B:aa Bool->Int}{c:bO}{no yes:Int}(hc:Db k B c)(hno:kE no)(hyes:kE yes):∃d,Me c no yes=Q (d,0)/\Dm k (λe=>if B e=1 then yes else no) d:=by
 obtain⟨d,e,h⟩:=ayk (by omega) (by omega) hc KD hno hyes (ap1 hk (λx _ _=>if x=1 then yes else no) B);exact⟨d,e,h,λe _=>by
  show kE (if B e=1 then yes else no);split<;>assumption⟩
def aoY{k:Nat}(hk:k<=12){F:aa Bool->Int}{a:aH}{z:Int}(ha:Dm k F a):∃d,PV a z=Q (d,0)/\Db k (λe=>if F e=z then 1 else 0) d:=by
 obtain⟨d,e,h⟩:=Se (by omega) (by omega) ha.c KD (pP ha.p) (ap1 hk (λx _ _=>if x=z then 1 else 0) F);exact⟨d,e,h⟩
def amh{k:Nat}(hk:k<=12){A B:aa Bool->Int}{a b:bO}{o:Int}(ho:0<=o)(ho2:o<=15)(ha:Db k A a)(hb:Db k B b):∃d,LO o a b=Q (d,0)/\Db k (λe=>Pg o (A e) (B e)) d:=by
 obtain⟨d,e,h⟩:=an3 (by omega) (by omega) ha KD hb KD ho ho2 (ap2 hk (λx y _=>Pg o x y) A B);exact⟨d,e,h⟩
def Zr(x y:Int):Pg 8 x y=if x=1/\y=1 then 1 else 0:=by
 unfold Pg;by_cases hx:x=1<;>by_cases hy:y=1<;>simp only[hx,hy,fO,jk,gd,and_true,true_and,dU,jP,and_false,false_and]<;>rfl
def Ya:∀(k:Nat) (v:Int) (i:Nat),i<k->(tf k v λe=>if e[i]! then 1 else 0)= .node (v+i) (.leaf 0) (.leaf 1)
 |k+1,v,0,_=>by
  simp only[tf,yb,xg,jP,dU];rw[iT,iT];simp[jN]
 |k+1,v,i+1,h=>by
  simp only[tf,yu];rw[Ya k (v+1) i (by omega)];simp only[jN,dU]
  congr 1
  omega
def aAF{k:Nat}(hk:k<=12){i:Int}(hi:0<=i)(hik:i<(k:Int)):∃d,J6 (k:Int) i=(d,0)/\Db k (λe=>if e[i.toNat]! then 1 else 0) d:=by
 obtain⟨d,e,h⟩:=aAW (n:=(k:Int)) (by omega) (by omega) hi hik;refine⟨d,e,?_⟩;unfold Db;rw[Ya k 0 i.toNat (by omega),show (0:Int)+(i.toNat:Int)=i by omega];exact h
def akv{k:Nat}(hk:k<=12){x:Int}(hx:kE x):∃d,Fv (k:Int) x=(d,0)/\Dm k (λ_=>x) d/\d.az=[]:=by
 obtain⟨d,e,h,hn⟩:=RT (n:=(k:Int)) (by omega) (by omega) hx;exact⟨d,e,⟨by rw[iT];exact h,λ_ _=>hx⟩,hn⟩
def aso{k:Nat}(hk:k<=12):∃d,H7 (k:Int) O=(d,0)/\Db k (λ_=>1) d/\d.az=[]:=by
 obtain⟨d,e,h,hn⟩:=amW (n:=(k:Int)) (by omega) (by omega) O;refine⟨d,e,?_,hn⟩;unfold Db;rw[iT];exact h
def ON{k:Nat}(hk:k<=12){x:Int}(hx:kE x)(X:cc)(hX:X.ah=(k:Int)):∃d,Kr x X=(d,X)/\Dm k (λ_=>x) d/\d.az=[]:=by
 obtain⟨d,e,h,hn⟩:=akv hk hx;refine⟨d,?_,h,hn⟩;unfold Kr;rw[hX,e];simp only;obtain⟨v,L,N,r⟩:=d;simp only at hn;subst hn;rfl
def Bq(s:Slot)(i:Nat)(e:aa Bool):Int:=bv ((ux e s).take i)*2^(s.cR.toNat-i)
def RZ{m:Nat}(h:m<=12):(1:Int)<=2^m/\(2:Int)^m<=4096:=by
 have h1:(2:Int)^m=((2^m:Nat):Int):=by simp
 have h2:2^m<=2^12:=xh (by omega) h;have h3:0<2^m:=yM (by omega);rw[h1];have:(2:Nat)^12=4096:=rfl;omega
def abZ{s:Slot}{i:Nat}{e:aa Bool}(hi:i<=s.cR.toNat)(hb:s.cR.toNat<=12):0<=Bq s i e/\Bq s i e<=4096:=by
 have hl:yz ((ux e s).take i)<=i:=by rw[zM];omega
 obtain⟨h1,h2⟩:=Ms ((ux e s).take i) 0 (zL _);obtain⟨p1,p2⟩:=RZ (m:=s.cR.toNat-i) (by omega);have h3:(2:Int)^((ux e s).take i).length<=2^i:=by exact_mod_cast xh (n:=2) (by omega) hl
 unfold Bq bv;simp only[Int.zero_add,Int.one_mul]at h2;refine⟨yQ h1 (by omega),?_⟩;have h4:List.foldl RO 0 ((ux e s).take i)*2^(s.cR.toNat-i)<=2^i*2^(s.cR.toNat-i):=xD (by omega) (by omega);rw[<-Int.pow_add,show i+(s.cR.toNat-i)=s.cR.toNat by omega]at h4;have:=(RZ hb).2;omega
def Qm{s:Slot}{i:Nat}{e:aa Bool}(h0:0<=s.cK)(hi:i<s.cR.toNat)(hl:s.cR.toNat<=yz (ux e s)):Bq s (i+1) e=Bq s i e+(if(if e[(s.cK+(i:Int)).toNat]! then(1:Int)else 0)=1 then 2^(s.cR.toNat-1-i)else 0):=by
 have e1:s.cR.toNat-i=(s.cR.toNat-1-i)+1:=by omega
 unfold Bq;rw[take_succ! (by omega:i<yz (ux e s)),MZ,O6 h0 hi,show s.cR.toNat-(i+1)=s.cR.toNat-1-i by omega,e1,Int.pow_succ];unfold RO;generalize (2:Int)^(s.cR.toNat-1-i)=p;generalize bv ((ux e s).take i)=q;cases e[(s.cK+(i:Int)).toNat]!
 ·simp only[xg,jP];rw[bT (by decide),Int.add_zero,Int.add_zero,Int.mul_comm p 2,<-Int.mul_assoc,Int.mul_comm q 2]
 ·simp only[dU];rw[Int.add_mul,Int.one_mul,Int.mul_comm p 2,<-Int.mul_assoc,Int.mul_comm q 2]
def ado{k:Nat}(hk:k<=12)(X:cc)(hX:X.ah=(k:Int)){vs:aa aT}{s:Slot}(hs:oa vs (k:Int) s):∃d,QV s X=Q (d,X)/\Dm k (λe=>bv (ux e s)) d:=by
 have g1:=hs.f0;have g2:=hs.b0;have g3:=hs.l
 obtain⟨kb,hkb⟩:∃kb:Nat,s.cR=(kb:Int):=⟨s.cR.toNat,by omega⟩;have hkb':s.cR.toNat=kb:=by omega
 obtain⟨d0,e0,D0,N0⟩:=ON hk (x:=0) rfl X hX;obtain⟨v,q,hv⟩:=dL (rnd:=wX) kb (λi (d:aH)=>⟨(kb:Int),(i:Int),X,s,⟨0,[],[],0⟩,d⟩) (λi d=>Dm k (Bq s i) d) (λi d hi hd=>by
  have i1:(i:Int)<(kb:Int):=by omega
  have w1:IntKind.i64.wrap (IntKind.i64.wrap (s.cR-1)-(i:Int))=((kb-1-i:Nat):Int):=by
   rw[aJ (n:=s.cR-1) (by omega) (by omega),aJ (by omega) (by omega)];omega
  have w2:IntKind.i64.wrap ((i:Int)+1)=((i+1:Nat):Int):=by rw[aJ (by omega) (by omega)];rfl
  have w3:IntKind.i64.wrap (s.cK+(i:Int))=s.cK+(i:Int):=aJ (by omega) (by omega);have i2:(0:Int)<=((kb-1-i:Nat):Int):=by omega
  obtain⟨p1,p2⟩:=RZ (m:=kb-1-i) (by omega);obtain⟨dv,ev,hv⟩:=aAF hk (i:=s.cK+(i:Int)) (by omega) (by omega);obtain⟨do',eo,ho⟩:=ofD hk (no:=0) (yes:=2^(kb-1-i)) hv rfl (Lp (by omega) (by omega));have hsum:∀e:aa Bool,yz e=k->Bq s i e+(if(if e[(s.cK+(i:Int)).toNat]! then(1:Int)else 0)=1 then 2^(kb-1-i)else 0)=Bq s (i+1) e:=λe he=>by
   rw[Qm g1 (by omega) (by rw[uJ (vs:=vs) (by rw[he];exact hs)];exact zA _),hkb']
  obtain⟨dp,ep,hp⟩:=awC hk hd ho λe he=>by
   rw[hsum e he];have:=abZ (s:=s) (i:=i+1) (e:=e) (by omega) (by omega);exact Lp (by omega) (by omega)
  refine⟨dp,?_,hp.congr hsum⟩;unfold wX;simp only[i1,fO,dh,w1,w2,w3,i2,dU,hX,ev,Xz (show kb-1-i<=30 by omega),eo];unfold JN;rw[ep]) (λd _=>by unfold wX;simp) (b:=d0) (D0.congr λe he=>by simp[Bq,bv])
 have hv':Dm k (λe=>bv (ux e s)) v:=hv.congr λe he=>by
  have hl:=uJ (vs:=vs) (bits:=e) (t:=s) (by rw[he];exact hs);unfold Bq;rw[yX (by omega),hkb',xy,Int.pow_zero,Int.mul_one]
 refine⟨v,?_,hv'⟩;have q':FA ⟨s.cR,0,X,s,⟨0,[],[],0⟩,d0⟩=Q ⟨s.cR,s.cR,X,s,⟨0,[],[],0⟩,v⟩:=by rw[hkb];exact q
 have ed:(aH.mk d0.ah d0.aR [] d0.bu)=d0:=by
  obtain⟨v,L,N,r⟩:=d0;simp only at N0;subst N0;rfl
 unfold QV;rw[e0];simp only[ed,q',zJ,jk,cL]
def JB(vs:aa aT)(sl:aa Slot)(e:aa Bool):Int:=if sl.all (oM vs e)=O then 1 else 0
def PZ{k:Nat}(hk:k<=12)(X:cc)(hX:X.ah=(k:Int))(hv:Qt X.fF.ah)(hl:yz X.cZ<=10000)(hs:∀t∈X.cZ,oa X.fF.ah (k:Int) t):∃d,m58 X=Q (d,X)/\Db k (JB X.fF.ah X.cZ) d:=by
 obtain⟨d0,e0,D0,N0⟩:=aso hk;have ed:(bO.mk d0.ah [] d0.bu)=d0:=by
  obtain⟨v,N,r⟩:=d0;simp only at N0;subst N0;rfl
 obtain⟨v,q,hq⟩:=dL (rnd:=It) (yz X.cZ) (λi (d:bO)=>⟨X.cZ,(yz X.cZ:Int),(i:Int),X,⟨0,[],0⟩,d⟩) (λi d=>Db k (JB X.fF.ah (X.cZ.take i)) d) (λi d hi hd=>by
  have i1:(i:Int)<(yz X.cZ:Int):=by omega
  have i2:(0:Int)<=(i:Int):=by omega
  have w2:IntKind.i64.wrap ((i:Int)+1)=((i+1:Nat):Int):=by rw[aJ (by omega) (by omega)];rfl
  have ht:=hs _ (mem_get! hi);have x1:=ht.v0;have x2:=ht.v1
  obtain⟨v1,v2,v3⟩:=hv.2 (X.cZ[i]!.bz.toNat) (by omega);obtain⟨d1,e1,D1⟩:=ado hk X hX ht;have wz:IntKind.i64.wrap (IntKind.i64.wrap (X.fF.ah[X.cZ[i]!.bz.toNat]!.au-X.fF.ah[X.cZ[i]!.bz.toNat]!.aG)+1)=X.fF.ah[X.cZ[i]!.bz.toNat]!.au-X.fF.ah[X.cZ[i]!.bz.toNat]!.aG+1:=by
   rw[aJ (n:=X.fF.ah[X.cZ[i]!.bz.toNat]!.au-X.fF.ah[X.cZ[i]!.bz.toNat]!.aG) (by omega) (by omega),aJ (by omega) (by omega)]
  obtain⟨d2,e2,D2,N2⟩:=ON hk (x:=X.fF.ah[X.cZ[i]!.bz.toNat]!.au-X.fF.ah[X.cZ[i]!.bz.toNat]!.aG+1) (Lp (by omega) (by omega)) X hX;have ed2:(aH.mk d2.ah d2.aR [] d2.bu)=d2:=by
   obtain⟨v,L,N,r⟩:=d2;simp only at N2;subst N2;rfl
  obtain⟨d3,e3,D3⟩:=are hk D1 D2;obtain⟨d4,e4,D4⟩:=aoY hk (z:=1) D3;obtain⟨d5,e5,D5⟩:=amh hk (o:=8) (by omega) (by omega) hd D4;refine⟨d5,?_,D5.congr λe he=> ?_⟩
  ·unfold It;simp only[i1,i2,fO,dh,zi,gd,dU,x1,x2,e1,wz,e2,ed2];unfold JN;simp only[e3];unfold Xa;simp only[e4,e5,w2]
  ·rw[Zr];unfold JB;rw[take_succ! hi,List.all_append];simp only[xL,List.all_nil,Bool.and_true,zj];have hsl:oM X.fF.ah e X.cZ[i]! =O↔bv (ux e X.cZ[i]!)<X.fF.ah[X.cZ[i]!.bz.toNat]!.au-X.fF.ah[X.cZ[i]!.bz.toNat]!.aG+1:=by
    unfold oM slV;simp only[Bool.not_eq_true',decide_eq_false_iff_not];omega
   by_cases q1:(X.cZ.take i).all (oM X.fF.ah e)=O<;>by_cases q2:oM X.fF.ah e X.cZ[i]! =O<;>simp only[q1,q2,<-hsl,dU,jP,gd,and_true,true_and,and_false,false_and,Int.zero_ne_one,xg,reduceCtorEq]) (λd _=>by unfold It;simp) (b:=d0) (D0.congr λe he=>by simp[JB])
 rw[yX (zA _)]at hq;refine⟨v,?_,hq⟩;have q':Pv ⟨X.cZ,(yz X.cZ:Int),0,X,⟨0,[],0⟩,d0⟩=Q ⟨X.cZ,(yz X.cZ:Int),(yz X.cZ:Int),X,⟨0,[],0⟩,v⟩:=q;unfold m58;rw[hX,e0];simp only[ed,q',zJ,jk,cL]
def aoK(f:bB)(h:few f 20 200=O):(RI f≠0->∃d,m18 f=Q (d,RI f))/\(RI f=0->(12<(bZ f.ah).2.2->∃d,m18 f=Q (d,4))/\∀k:Nat,(bZ f.ah).2.2=(k:Int)->k<=12->∃d,m18 f=Q (d,0)/\Db k (JB f.ah (bZ f.ah).1) d):=by
 obtain⟨h1,h2,h3⟩:=Mg h;have e48:=amA f h1 h2 (by omega);refine⟨λhc=> ?_,λhc=> ?_⟩
 ·unfold m18;rw[e48];simp only[hc,jk,cL,dh];exact⟨_,rfl⟩
 ·have hv:=TS h hc;obtain⟨e49,l1,l2,l3,l4,l5⟩:=Lr f hv;refine⟨λhb=> ?_,λk hk1 hk=> ?_⟩
  ·unfold m18;rw[e48];simp only[hc,fO,cL,dh,e49,hb];exact⟨_,rfl⟩
  ·obtain⟨d,e,D⟩:=PZ hk (cc.mk f (bZ f.ah).2.2 (bZ f.ah).2.1 (bZ f.ah).1 []) hk1 hv (by simp only;omega) (λt ht=>by
    have:=Dl hv t ht;rw[hk1]at this;exact this)
   refine⟨d,?_,D⟩;have hb:Z (12<(bZ f.ah).2.2)=V:=dw (by omega);unfold m18;rw[e48];simp only[hc,fO,cL,dh,e49,hb,e]
structure NKn (L:List Int) (R:List Int->List aF->Int->Option (Int×List aF)) (zg:Nat->List Int->Int->Option (Int×List aF)):Prop where
 one:∀k x v,x∈L->zg (k+1) [x] v=Q (((L.idxOf x:Nat):Int),[])
 two:∀k l v q1 N1 q2 N2,0<=v->v<=1000000->2<=yz l->yz l<1000000000->zg k (l.take (yz l/2)) (v+1)=Q (q1,N1)->R (l.drop (yz l/2)) N1 (v+1)=Q (q2,N2)->yz N2<1000000000->zg (k+1) l v=Q (if q1=q2 then(q1,N2)else if(⟨v,q1,q2⟩:aF)∈N2 then(((yz L+N2.idxOf ⟨v,q1,q2⟩:Nat):Int),N2)else(((yz L+yz N2:Nat):Int),N2++[⟨v,q1,q2⟩]))
def U0{L:aa Int}{R:aa Int->aa aF->Int->af (Int×aa aF)}{Q':Nat->aa Int->aa aF->Int->af (Int×aa aF)}{zg:Nat->aa Int->Int->af (Int×aa aF)}(hQ':NK L Q')(hR:∀n l N v x,(∀f,n<f->Q' f l N v=Q x)->R l N v=Q x)(hQ:NKn L R zg):∀{k:Nat} {v:Int} {l:aa Int},yz l=2^k->2^k<=4096->0<=v->v+k<=1000000->(∀x∈l,x∈L)->yz (bE (bf (tt k v l) []))+1<=2^k/\Lv L (bf (tt k v l) [])/\∀f,k<f->zg f l v=Q (num L (bE (bf (tt k v l) [])) (tt k v l),fT L (bE (bf (tt k v l) [])))
 |0,v,l,hl,hk,hv,hv2,hL=>by
  obtain⟨x,rfl⟩:∃x,l=[x]:=List.length_eq_one_iff.1 hl;have e:bE (bf (.leaf x) [])=[]:=by
   rfl
  simp only[tt,yb];refine⟨by rw[e];simp,Sn (hL x (by simp)) (λy hy=>by cases hy),λf hf=> ?_⟩;obtain⟨f,rfl⟩:∃j,f=j+1:=⟨f-1,by omega⟩;rw[hQ.one f x v (hL x (by simp)),e];rfl
 |k+1,v,l,hl,hk,hv,hv2,hL=>by
  have h2:2^(k+1)=2*2^k:=by rw[yG];omega
  have hp:0<2^k:=yM (by omega);obtain⟨n1,L1,w1⟩:=U0 hQ' hR hQ (k:=k) (v:=v+1) (l:=l.take (2^k)) (by rw[zM];omega) (by omega) (by omega) (by omega) (λx hx=>hL x (List.mem_of_mem_take hx));have hc:Cl []:=λm v a b k e=>by cases m<;>cases e
  have hc1:=dR (tt k (v+1) (l.take (2^k))) hc;obtain⟨n2,L2,w2⟩:=jY hQ' (k:=k) (v:=v+1) (l:=l.drop (2^k)) (acc:=bf (tt k (v+1) (l.take (2^k))) []) (by rw[yc];omega) (by omega) (by omega) (by omega) hc1 (λx hx=>hL x (wo hx)) L1 (by omega);simp only[tt];generalize ha:tt k (v+1) (l.take (2^k))=a at*;generalize hb:tt k (v+1) (l.drop (2^k))=b at*;have hc2:=dR b hc1;have ha2:a∈bf b (bf a []):=gz _ _ (bY _ _);have hb2:b∈bf b (bf a []):=bY _ _;obtain⟨s1,s2⟩:=WB hc (v:=v) L2;have hgo:∀f,k+1<f->zg f l v=Q (if num L (bE (bf a [])) a=num L (bE (bf b (bf a []))) b then(num L (bE (bf a [])) a,fT L (bE (bf b (bf a []))))else if(⟨v,num L (bE (bf a [])) a,num L (bE (bf b (bf a []))) b⟩:aF)∈fT L (bE (bf b (bf a [])))then(((yz L+(fT L (bE (bf b (bf a [])))).idxOf ⟨v,num L (bE (bf a [])) a,num L (bE (bf b (bf a []))) b⟩:Nat):Int),fT L (bE (bf b (bf a []))))else(((yz L+yz (fT L (bE (bf b (bf a [])))):Nat):Int),fT L (bE (bf b (bf a [])))++[⟨v,num L (bE (bf a [])) a,num L (bE (bf b (bf a []))) b⟩])):=λf hf=>by
   obtain⟨f,rfl⟩:∃j,f=j+1:=⟨f-1,by omega⟩;have hh:yz l/2=2^k:=by omega
   exact hQ.two f l v _ _ _ _ hv (by omega) (by omega) (by omega) (by rw[hh];exact w1 f (by omega)) (by rw[hh];exact hR k _ _ _ _ w2) (by rw[fK];omega)
  by_cases e:a=b
  ·have hd:=s2 e;have hm:jN v a b=a:=by rw[e];simp[jN]
   have hd1:bf b (bf a [])=bf a []:=by rw[<-e];exact jh hc1 (bY _ _)
   rw[hd];refine⟨by omega,L2,λf hf=> ?_⟩;rw[hgo f hf,bS (s1.2 e),hm,hd1]
  ·have hm:jN v a b= .node v a b:=by simp[jN,e]
   have hne:¬num L (bE (bf a [])) a=num L (bE (bf b (bf a []))) b:=λh=>e (s1.1 h);rw[hm];have hna:num L (bE (bf a [])) a=num L (bE (bf b (bf a []))) a:=(rH (bY a []) b).symm;by_cases hi:BT.node v a b∈bf b (bf a [])
   ·have hd:bf (.node v a b) []=bf b (bf a []):=by
     conv=>lhs;unfold bf
     rw[bS hi]
    rw[hd];refine⟨by omega,L2,λf hf=> ?_⟩;rw[hgo f hf,bT hne,hna,bS ((qj hc2 L2 ha2 hb2).2 hi),IL hc2 L2 hi];rfl
   ·have hd:bf (.node v a b) []=bf b (bf a [])++[.node v a b]:=by
     conv=>lhs;unfold bf
     rw[bT hi]
    rw[hd];refine⟨by rw[dW,zF];simp only[wN];omega,λx hx=> ?_,λf hf=> ?_⟩
    ·rcases zV.1 hx with h|h
     ·exact L2 x h
     ·simp at h
    ·rw[hgo f hf,bT hne,hna,bT λh=>hi ((qj hc2 L2 ha2 hb2).1 h),ry hc2 ha2 hb2]
     congr 2
     rw[dW,fK];simp only[num];rw[xQ,bT λh=>hi (dc.1 h).1,wO];omega
def OC{L:aa Int}(hl:yz L<=1000000){x:Int}(hx:x∈L):Ry L x=Q ((L.idxOf x:Nat):Int):=by
 obtain⟨i,v,e,hI,h⟩:=AB (rnd:=vI) (yz L) (λi (_:Unit)=>⟨L,x,(yz L:Int),(i:Int)⟩) (λi _=>∀j,j<i->L[j]!≠x) (λi _=>L[i]! =x) (λi _ hi hI=>by
  have i1:(i:Int)<(yz L:Int):=by omega
  have i2:(0:Int)<=(i:Int):=by omega
  have hw2:IntKind.i64.wrap ((i:Int)+1)=((i+1:Nat):Int):=iF hi (by omega);unfold vI;simp only[i1,i2,fO,dh,gd,dU,zi,hw2];by_cases e:x=L[i]!
  ·right;rw[iN e];exact⟨rfl,e.symm⟩
  ·left;rw[dw e];refine⟨(),rfl,λj hj=> ?_⟩;by_cases ej:j=i
   ·subst ej;exact λh=>e h.symm
   ·exact hI j (by omega)) (λ_ _=>by unfold vI;simp) (b:=()) (λj hj=>by omega)
 have hlt:L.idxOf x<yz L:=yt hx;have hget:=dz hx;have e':Fw ⟨L,x,(yz L:Int),0⟩=Q ⟨L,x,(yz L:Int),(i:Int)⟩:=e;unfold Ry;rw[e'];rcases h with rfl|⟨h1,h2⟩
 ·exact gI hget (hI _ hlt)
 ·have hi:i=L.idxOf x:=by
   have h3:L.idxOf x<=i:=by
    rcases Nat.lt_or_ge i (L.idxOf x)with h|h
    ·exfalso;have h4:=List.not_of_lt_findIdx (xs:=L) (p:=λy=>y==x) (i:=i) h;rw[getElem!_pos L i h1]at h2;simp[h2]at h4
    ·exact h
   rcases Nat.lt_or_ge (L.idxOf x) i with h|h
   ·exact gI hget (hI _ h)
   ·omega
  have i1:(i:Int)<(yz L:Int):=by omega
  have i2:(0:Int)<=(i:Int):=by omega
  simp only[i1,i2,fO,dh,gd,dU,zi,h2];rw[hi]
def MQ{N:aa aF}(hl:yz N<1000000000)(x:aF):Q8 N x=Q (if x∈N then((N.idxOf x:Nat):Int)else-1):=by
 have hdec:∀i:Nat,(bif Z (x.bz=N[i]!.bz)then bif Z (x.aG=N[i]!.aG)then bif Z (x.au=N[i]!.au)then O else V else V else V)=Z (N[i]! =x):=λi=>by
  generalize N[i]! =y;obtain⟨a,b,c⟩:=x;obtain⟨a',b',c'⟩:=y;simp only[aF.mk.injEq];by_cases h1:a=a'<;>by_cases h2:b=b'<;>by_cases h3:c=c'<;>simp[h1,h2,h3,eq_comm]
  all_goals first|done|(intro h;simp_all)
 obtain⟨i,v,e,hI,h⟩:=AB (rnd:=AT) (yz N) (λi (_:Unit)=>⟨N,(yz N:Int),(i:Int),x⟩) (λi _=>∀j,j<i->N[j]!≠x) (λi _=>N[i]! =x) (λi _ hi hI=>by
  have i1:(i:Int)<(yz N:Int):=by omega
  have i2:(0:Int)<=(i:Int):=by omega
  have hw2:IntKind.i64.wrap ((i:Int)+1)=((i+1:Nat):Int):=by rw[aJ (by omega) (by omega)];rfl
  unfold AT;simp only[i1,i2,fO,dh,gd,dU,zi,hw2,hdec];by_cases e:N[i]! =x
  ·right;rw[iN e];exact⟨rfl,e⟩
  ·left;rw[dw e];refine⟨(),rfl,λj hj=> ?_⟩;by_cases ej:j=i
   ·subst ej;exact e
   ·exact hI j (by omega)) (λ_ _=>by unfold AT;simp) (b:=()) (λj hj=>by omega)
 have e':EC ⟨N,(yz N:Int),0,x⟩=Q ⟨N,(yz N:Int),(i:Int),x⟩:=e;unfold Q8;rw[e'];rcases h with rfl|⟨h1,h2⟩
 ·have hx:x∉N:=λhx=>hI _ (yt hx) (dz hx);simp only[zJ,jk,cL];rw[bT hx]
 ·have hx:x∈N:=by rw[<-h2];exact mem_get! h1
  have hi:i=N.idxOf x:=by
   have h3:N.idxOf x<=i:=by
    rcases Nat.lt_or_ge i (N.idxOf x)with h|h
    ·exfalso;have h4:=List.not_of_lt_findIdx (xs:=N) (p:=λy=>y==x) (i:=i) h;rw[getElem!_pos N i h1]at h2;simp[h2]at h4
    ·exact h
   rcases Nat.lt_or_ge (N.idxOf x) i with h|h
   ·exact gI (dz hx) (hI _ h)
   ·omega
  have i1:(i:Int)<(yz N:Int):=by omega
  have i2:(0:Int)<=(i:Int):=by omega
  simp only[i1,i2,fO,dh,gd,dU,zi,hdec];rw[h2,iN rfl,bS hx,hi];rfl
def half{n:Nat}(h:n<1000000000):IntKind.i64.wrap ((n:Int).tdiv 2)=((n/2:Nat):Int):=by
 rw[Int.tdiv_eq_ediv_of_nonneg (by omega),aJ (by omega) (by omega)];omega
def cnd{α:Type}(p:Prop)[Decidable p](a b:α):(bif decide p then a else b)=if p then a else b:=by by_cases h:p<;>simp[h]
def air(x:Int):(yz ([x]:aa Int):Int)=1:=rfl
def nkQ{L:aa Int}(hL:yz L<=1000000):NK L (λf l N v=>Ig f l L v N) where
 one:=λk x N v hx=>by
  show PJ (Ig k) [x] L v N=_;unfold PJ;simp only[air,fO,dh];rw[bS (by decide)];simp only[yb,OC hL hx]
 two:=λk l N v q1 N1 q2 N2 hv hv2 hl hl2 w1 w2 hn=>by
  show PJ (Ig k) l L v N=_;unfold PJ;have c1:Z ((yz l:Int)=1)=V:=dw (by omega);have hh:=half hl2;have c2:(0:Int)<=((yz l/2:Nat):Int)/\((yz l/2:Nat):Int)<=(yz l:Int):=by omega
  have hw:IntKind.i64.wrap (v+1)=v+1:=aJ (by omega) (by omega);simp only[c1,cL,hh,c2,gd,dU,zi,hw,w1,w2,MQ hn,cnd];by_cases e1:q1=q2
  ·simp only[e1,dU]
  ·simp only[e1,jP];by_cases e2:(⟨v,q1,q2⟩:aF)∈N2
   ·have hlt:=yt e2;have hw2:IntKind.i64.wrap ((yz L:Int)+((N2.idxOf (⟨v,q1,q2⟩:aF):Nat):Int))=((yz L+N2.idxOf ⟨v,q1,q2⟩:Nat):Int):=by rw[aJ (by omega) (by omega)];omega
    have c3:(0:Int)<=((N2.idxOf (⟨v,q1,q2⟩:aF):Nat):Int):=by omega
    simp only[e2,dU,hw2,c3]
   ·have hw2:IntKind.i64.wrap ((yz L:Int)+(yz N2:Int))=((yz L+yz N2:Nat):Int):=by rw[aJ (by omega) (by omega)];omega
    have c3:¬(0:Int)<= -1:=by omega
    have c4:yz (N2++[(⟨v,q1,q2⟩:aF)])<=1073741824:=by simp;omega
    simp only[e2,jP,hw2,c3,c4,dU]
def aAB{L:aa Int}(hL:yz L<=1000000):NKn L (λl N v=>SJ l L v N) (λf l v=>G7 f l L v) where
 one:=λk x v hx=>by
  show Ql (G7 k) [x] L v=_;unfold Ql;simp only[air,fO,dh];rw[bS (by decide)];simp only[yb,OC hL hx]
 two:=λk l v q1 N1 q2 N2 hv hv2 hl hl2 w1 w2 hn=>by
  show Ql (G7 k) l L v=_;unfold Ql;have c1:Z ((yz l:Int)=1)=V:=dw (by omega);have hh:=half hl2;have c2:(0:Int)<=((yz l/2:Nat):Int)/\((yz l/2:Nat):Int)<=(yz l:Int):=by omega
  have hw:IntKind.i64.wrap (v+1)=v+1:=aJ (by omega) (by omega);simp only[c1,cL,hh,c2,gd,dU,zi,hw,w1,w2,MQ hn,cnd];by_cases e1:q1=q2
  ·simp only[e1,dU]
  ·simp only[e1,jP];by_cases e2:(⟨v,q1,q2⟩:aF)∈N2
   ·have hlt:=yt e2;have hw2:IntKind.i64.wrap ((yz L:Int)+((N2.idxOf (⟨v,q1,q2⟩:aF):Nat):Int))=((yz L+N2.idxOf ⟨v,q1,q2⟩:Nat):Int):=by rw[aJ (by omega) (by omega)];omega
    have c3:(0:Int)<=((N2.idxOf (⟨v,q1,q2⟩:aF):Nat):Int):=by omega
    simp only[e2,dU,hw2,c3]
   ·have hw2:IntKind.i64.wrap ((yz L:Int)+(yz N2:Int))=((yz L+yz N2:Nat):Int):=by rw[aJ (by omega) (by omega)];omega
    have c3:¬(0:Int)<= -1:=by omega
    have c4:yz (N2++[(⟨v,q1,q2⟩:aF)])<=1073741824:=by simp;omega
    simp only[e2,jP,hw2,c3,c4,dU]
def Zs{L:aa Int}(hL:yz L<=1000000){k:Nat}(hk:k<=12){l:aa Int}(hl:yz l=2^k)(hm:∀x∈l,x∈L):afk l L 0=Q (num L (bE (bf (tf k 0 λe=>l[jR e]!) [])) (tf k 0 λe=>l[jR e]!),fT L (bE (bf (tf k 0 λe=>l[jR e]!) []))):=by
 have h4:2^k<=4096:=zY (xh (n:=2) (by omega) hk) (by decide);obtain⟨_,_,w⟩:=U0 (nkQ hL) (R:=λl N v=>SJ l L v N) (λn l N v x h=>dg (n+1) λf hf=>h f (by omega)) (aAB hL) (v:=0) hl h4 (by omega) (by omega) hm;rw[<-XL hl];exact dg (k+1) λf hf=>w f (by omega)
def Lt{k:Nat}(hk:k<=12){l:aa Bool}(hl:yz l=2^k):∃d,m22 (k:Int) l=Q d/\Db k (λe=>if l[jR e]! then 1 else 0) d:=by
 have h4:2^k<=4096:=zY (xh (n:=2) (by omega) hk) (by decide);obtain⟨v,q,hv⟩:=dL (rnd:=JI) (yz l) (λi (t:aa Int)=>⟨(k:Int),t,l,(yz l:Int),(i:Int),⟨0,[],0⟩⟩) (λi t=>t=(l.take i).map λb=>if b then(1:Int)else 0) (λi t hi ht=>by
  have i1:(i:Int)<(yz l:Int):=by omega
  have i2:(0:Int)<=(i:Int):=by omega
  have hw2:IntKind.i64.wrap ((i:Int)+1)=((i+1:Nat):Int):=iF hi (by omega);have hlen:∀x:Int,yz (t++[x])<=1073741824:=λx=>by rw[ht];simp;omega
  refine⟨t++[if l[i]! then 1 else 0],?_,?_⟩
  ·unfold JI;cases hb:l[i]! <;>simp only[i1,i2,fO,dh,cL,gd,dU,zi,hw2,hb,hlen,xg,jP]
  ·rw[take_succ! hi,zK,ht];rfl) (λt _=>by unfold JI;simp) (b:=[]) rfl
 rw[yX (zA _)]at hv;subst hv;have hmem:∀x∈l.map (λb=>if b then(1:Int)else 0),x∈gG:=λx hx=>by
  obtain⟨b,_,rfl⟩:=zy.1 hx;cases b<;>simp
 have hn:=Zs (L:=gG) (by simp) hk (l:=l.map λb=>if b then(1:Int)else 0) (by simp[hl]) hmem;have hF:(tf k 0 λe=>(l.map λb=>if b then(1:Int)else 0)[jR e]!)=tf k 0 λe=>if l[jR e]! then 1 else 0:=iw λe he=>by
  have:=mj e;rw[he]at this;rw[map_get! _ (by omega)]
 rw[hF]at hn;refine⟨⟨(k:Int),fT gG (bE (bf (tf k 0 λe=>if l[jR e]! then 1 else 0) [])),num gG (bE (bf (tf k 0 λe=>if l[jR e]! then 1 else 0) [])) (tf k 0 λe=>if l[jR e]! then 1 else 0)⟩,?_,⟨rfl,pP λe _=> ?_,rfl,rfl⟩⟩
 ·have q':OB ⟨(k:Int),[],l,(yz l:Int),0,⟨0,[],0⟩⟩=Q ⟨(k:Int),l.map (λb=>if b then(1:Int)else 0),l,(yz l:Int),(yz l:Int),⟨0,[],0⟩⟩:=q;unfold m22;rw[q'];simp only[zJ,jk,cL];rw[hn]
 ·split
  ·exact .inr rfl
  ·exact .inl rfl
end Go.Proofs.YtghilkcphindjaaGreat
end
noncomputable section
set_option maxRecDepth 100000
namespace Go.Proofs.YtghilkcphindjaaGreat
open Go Go.Iv
open Go.IntKind (i64 u64)
def aA5{x:Int}(k:Nat)(hk:k<=64):cF IntKind.i64 x (k:Int)=x/2^k:=by
 unfold cF;rw[show min ((k:Int)).toNat IntKind.i64.bits=k from by simp only[zi,IntKind.bits];omega];exact Int.fdiv_eq_ediv_of_nonneg _ (Int.le_of_lt (Int.pow_pos (by omega)))
def aAe{x:Int}(h1:0<=x)(h2:x<9223372036854775808):mS IntKind.i64 x 1=x%2:=by
 unfold mS;have e:(BitVec.ofInt IntKind.i64.bits x&&&BitVec.ofInt IntKind.i64.bits 1).toNat=x.toNat%2:=by
  rw[BitVec.toNat_and];simp only[IntKind.bits];rw[show (BitVec.ofInt 64 1).toNat=1 from rfl,Nat.and_one_is_mod];rw[BitVec.toNat_ofInt];omega
 rw[e];rw[aJ (by omega) (by omega)];omega
end Go.Proofs.YtghilkcphindjaaGreat
end
noncomputable section
namespace Go.Iv
variable [U:tQ]
open Go Go.RowKit Go.Shelf Go.Proofs
def adN(C:Cx)(n:Nat)(σ:aa bH)(w:World)(zf:aa Nat->aa bH->Prop)(EA:Env)(a:Act)(W:World):Prop:=
 ∃σ1,(∃pre,zf pre σ1)/\jH C n EA σ1 a W/\a.defers=[]/\Lay C σ w σ1 W/\w.heap.size<=W.heap.size
def adN.own{C:Cx}{n:Nat}{σ:aa bH}{w:World}(hw:C.w0.heap.size<=w.heap.size)(zf:aa Nat->aa bH->Prop)(hn:∀pre σ,zf pre σ->QF σ)(EA:Env)(a:Act):OwnFrom w.heap.size (λ(_:Unit)=>adN C n σ w zf EA a):=λ_ W W' row ⟨σ1,⟨pre,h1⟩,h2,h5,h3,h4⟩ hg hr=>by
 have ht:=IA (C:=C) hg (λr e=>⟨by have:=(hr r e).1;omega,(hr r e).2⟩) h2.good.kept.size;refine⟨σ1,⟨pre,h1⟩,⟨.nil h5,h2.size,h2.slots.uu ht,h2.good.IC (hn _ _ h1) ht⟩,h5,λb hb hA=>⟨(h3 b hb hA).1,?_⟩,zY h4 hg.size⟩;exact(hg.block b (by omega) (λe=>by have:=(hr b e.symm).1;omega)).trans (h3 b hb hA).2
def CW.rfa{P:Program}{C:Cx}{n:Nat}{zg:Exit->Env->aa bH->Prop}{E:Env}{σ:aa bH}{g:Operand}{ps:Array Tmp}{assign body:Code}{gf:Nat}{caps:aa AV}{es:aa (aa AV)}
  (zf:aa Nat->aa bH->Prop) (EA:Nat->Env) (nJ:∀pre σ,zf pre σ->QF σ) (hb:∀C W pre pre' σ σ',zf pre σ->zf pre' σ'->Good C σ W->Good C σ' W->aY σ=aY σ') (hg:E.ev g=Q (.fn (.func gf) caps)) (eg:Enters P gf) (hit:Iter P gf caps es) (hps:∀i,i<yz es->yz es[i]! =ps.size) (hpn:∀p∈ps.toList,p<n) (h0:zf [] σ)
  (hassign:∀C' pre i σ',i<yz es->zf pre σ'->YH P C' n assign (λe E1 σ1=>e= .normal/\Sub (EA i) E1/\∃σ2,zf pre σ2/\List.Sublist σ2 σ1) (Hy ps.toList es[i]! E) σ')
  (hbody:∀C' pre i σ',i<yz es->yz pre<yz es->zf pre σ'->YH P C' n body (λe _ σ2=>e= .normal/\∃σ3,zf (pre++[i]) σ3/\List.Sublist σ3 σ2) (EA i) σ')
  (hdone:∀σ',zf (zU (yz es)) σ'->zg .normal E σ'):CW P C n (.rangeFunc g ps assign body) zg E σ:=λa w ha=>by
 have hgv:=ha.slots.ops g _ hg;obtain⟨lb,hlb,hev⟩:∃lb:aa Value,bn (al C σ) w caps lb/\a.eval g= .func (.func gf) #[] lb.toArray:=by
  generalize hx:bM.fn (.func gf) caps=x at hgv;generalize a.eval g=v at hgv;cases hgv with
  |fn f cs us hl hr=>cases hx;exact⟨us,⟨hl,hr⟩,rfl⟩
  |_=>cases hx
 obtain⟨us,hul,hur,hseq⟩:=hit (al C σ) w lb hlb;have hw0:C.w0.heap.size<=w.heap.size:=ha.good.kept.size;have hKt:∀{A B D:World},(∀b,b<w.heap.size->al C σ b->B.heap[b]? =A.heap[b]?)->(∀b,b<w.heap.size->al C σ b->D.heap[b]? =B.heap[b]?)->(∀b,b<w.heap.size->al C σ b->D.heap[b]? =A.heap[b]?):=λh k b hb hA=>(k b hb hA).trans (h b hb hA);have after:∀(a:Act) D W σ',Lay C σ w σ' W->QF σ'->Good C σ' W->w.heap.size<=W.heap.size->w.heap.size<=D->W.heap[D]? =Q (.deferred (Q []))->jH C n E σ a w->jH C n E σ' {a with defers:={target:= .collected D,args:=#[]}::a.defers} W:=λa D W σ' hL hm hG hSz hD hdf ha=>by
  have hcell:∀(b:Nat) ds,W.heap[b]? =Q (Obj.deferred ds)->b∉aY σ':=λb ds hb hx=>by
   obtain⟨r,h1,h2⟩:=bw.1 hx;obtain⟨cs,T,m,h3⟩:=(hG.res r h1).cells (hm r h1) h2;rw[hb]at h3;cases h3
  refine⟨?_,ha.size,λs av q=> ?_,hG⟩
  ·obtain⟨Ds,h1,h2,h3⟩:=ha.defers;refine⟨D::Ds,by simp[h1],xT.2 ⟨λhx=>by have:=(h3 D hx).1;omega,h2⟩,λD' hD'=> ?_⟩;rcases zu.1 hD' with rfl|hD'
   ·exact⟨(ym.1 hdf).1,by omega,hcell _ _ hdf,hdf⟩
   ·obtain⟨q1,q2,q3,q4⟩:=h3 D' hD';have q5:=(hL D' q1 ⟨.inr (.inr q2),q3⟩).2.trans q4;exact⟨(ym.1 q5).1,q2,hcell _ _ q5,q5⟩
  ·obtain⟨v,q1,q2⟩:=ha.slots s av q;exact⟨v,q1,q2.mono λb hb hA=>hL b hb hA⟩
 refine wpIn_wide.1 (wpIn_rangeFunc_ownH (F:=Fence.wide) (n:=2) (g:=g) (ps:=ps) (assign:=assign) (body:=body) (α:=Fin (yz es)) (w0:=w) (gf:=gf) (lb:=lb.toArray) rfl (by omega) hev trivial eg hseq hKt (λW l o o' hl _ _ _ b hb _=>World.putObj_heap_other (by omega)) (Below.refl _ _) (λx=> ?_)
  (λpre W=>Mid C σ w (zf (pre.map (·.1))) W) (λc pre W=>False)
  (Mid.own (α:=aa (Fin (yz es))) hw0 (λpre=>zf (pre.map (·.1))) (λ_=>nJ _)) (λc pre W W' row h hg hr=>h.elim) ⟨σ,h0,ha.good,λb _ hA=>⟨hA,rfl⟩,zA _⟩
  (λx a'=>adN C n σ w zf (EA x.1) a') (λx a'=>adN.own hw0 zf nJ _ a') ?_ ?_ ?_ ?_)
 ·have:=(hur x.1 x.2).1;rw[yK,this];exact hps x.1 x.2
 ·intro l pre x W K ⟨σ',hJ,hG,hL,hS⟩ hK;have hsl:fS (al ⟨W,al C σ',aY σ'⟩ σ') W (Hy ps.toList es[x.1]! E) (LU a.tmps (ps.toList.zip us[x.1]!)):=by
   refine fS.Hy _ _ _ _ _ (λt av ht=> ?_) ?_ (λp hp=>by rw[ha.size];exact hpn p hp) (by rw[hps x.1 x.2];simp)
   ·obtain⟨v,q1,q2⟩:=ha.slots t av ht;exact⟨v,q1,q2.mono λb hb hA=>⟨⟨.inl (hL b hb hA).1,(hL b hb hA).1.2⟩,(hL b hb hA).2⟩⟩
   ·exact(hur x.1 x.2).mono λb hb hA=>⟨⟨.inl (hL b hb hA).1,(hL b hb hA).1.2⟩,(hL b hb hA).2⟩
  rw[P6];refine wpIn_mono (hassign ⟨W,al C σ',aY σ'⟩ _ x.1 σ' x.2 hJ l 0 _ W ⟨.nil rfl,(tG _ _).trans ha.size,hsl,hG.fresh⟩ rfl) ?_
  ·rintro e a' W' ⟨hd1,E1,σ1,hs1,rfl,hka,σ2,hj2,hsub⟩;have t:=Wn hG hs1.good;have hL2:=(hL.tr t hS).less hsub;have hS2:=zY hS t.kp.size;refine hK a' W' (qL _ hG (nJ _ _ hJ) t) (λb hb hA=>t.kp.block b (yN hb hS) (hL b hb hA).1.2) ⟨σ2,hj2,t.good.less hsub,hL2,hS2⟩ ?_;refine⟨σ2,⟨_,hj2⟩,⟨.nil hd1,hs1.size,λs av q=> ?_,t.good.less hsub⟩,hd1,hL2,hS2⟩;obtain⟨v,q1,q2⟩:=hs1.slots s av (hka s av q);exact⟨v,q1,q2.mono λb _ hA=>⟨⟨(Uq hG b hA).1,λhx=>(Uq hG b hA).2 (gJ (λ_ hr=>hsub.subset hr) b hx)⟩,rfl⟩⟩
 ·intro l pre x a' W hl hr ⟨σ',hJ,hG,hL,hS⟩ ⟨σ1,⟨pre1,hJ1⟩,hs1,hd1,hL1,hS1⟩ hlt;have hbb:=hb C W _ _ _ _ hJ1 hJ hs1.good hG;have hs2:jH ⟨W,al C σ',aY σ'⟩ n (EA x.1) σ' a' W:=⟨.nil hd1,hs1.size,λs av q=>by
   obtain⟨v,q1,q2⟩:=hs1.slots s av q;have hA':∀b,al C σ1 b->al C σ' b:=λb hA=>⟨hA.1,by rw[<-hbb];exact hA.2⟩;exact⟨v,q1,q2.mono λb _ hA=>⟨⟨.inl (hA' b hA),(hA' b hA).2⟩,rfl⟩⟩,hG.fresh⟩
  refine wpIn_mono (hbody ⟨W,al C σ',aY σ'⟩ _ x.1 σ' x.2 (by simpa using hlt) hJ l 0 a' W hs2 hd1) ?_;rintro e a2 W' ⟨_,E2,σ2,hs3,rfl,σ3,hj3,hsub⟩;have t:=Wn hG hs3.good;have hkf:=qL w.heap.size hG (nJ _ _ hJ) t;refine⟨hkf,λb hb hA=>t.kp.block b (yN hb hS) (hL b hb hA).1.2,σ3,?_,t.good.less hsub,(hL.tr t hS).less hsub,zY hS t.kp.size⟩;rw[zK];exact hj3
 ·intro D xs W hD hS ⟨σ',hJ,hG,hL,hSz⟩ hdf;subst hS;refine⟨E,σ',after a D W σ' hL (nJ _ _ hJ) hG hSz hD hdf ha,hdone σ' ?_⟩;have e:(xA (yz es)).map (·.1)=zU es.length:=wE (by simp) λi h1 h2=>by simp
  rw[e]at hJ;exact hJ
 ·intro D c pre W hD hS h hdf;exact h.elim
end Go.Iv
end
noncomputable section
set_option maxRecDepth 100000
namespace Go.Proofs.YtghilkcphindjaaGreat
open Go Go.RowKit Go.Shelf Go.Iv
attribute [local go_sem] Oper.semAt_some
def DG{n k:Nat}(h:k<n):(xA n).take (k+1)=(xA n).take k++[⟨k,h⟩]:=by
 rw[List.take_add_one,zm (by simpa using h),List.getElem_finRange];rfl
def Eh(W:World)(o:Obj):W.grownBy (W.alloc o) J:=⟨rfl,rfl,rfl,by simp,λk hk _=>heap_alloc_old W o hk⟩
set_option maxHeartbeats 4000000 in
def TF(l Bs o b off len cap n0:Nat)(u:Nat->Nat->Int)(A:Nat->Prop)(hb:b<n0)(hAb:A b)(hB:Bs<n0)(hAB:A Bs)(hlen:len<=9223372036854775807)(zf Jx:aa (Fin len)->World->Prop)
  (hJa:∀pre W o,zf pre W->zf pre (W.alloc o))
  (hY:∀pre (x:Fin len) W,zf pre W->yz pre<len->YieldAt Fence.wide 0 wR l #[.agg #[.int .i64 (u x.1 0), .int .i64 (u x.1 1)]] W λe W'=>
   (e= .returned (.bool O)/\zf (pre++[x]) W'/\(∀b,b<n0->A b->W'.heap[b]? =W.heap[b]?))\/(e= .returned (.bool V)/\Jx (pre++[x]) W'))
  (W:World) (hn:n0<=W.heap.size) (hBs:W.cell? ⟨Bs,o,J⟩=Q (.slice (Q ⟨b,off,J⟩) len cap)) (hc:∀i j,i<len->j<2->W.cell? ⟨b,off+i*2+j,J⟩=Q (.int .i64 (u i j))) (h0:zf [] W):
  CallsIn Fence.wide 1 wR 266 #[.func (.yield l) #[] #[], .pointer (Q ⟨Bs,o,J⟩)] W λe W'=>(∃v,e= .returned v)/\
   ((∃xs,xs=xA len/\zf xs W')\/(∃pre,pre<+:xA len/\Jx pre W')):=by
 have hin:∀(w2:World),(∀b,b<n0->A b->w2.heap[b]? =W.heap[b]?)->∀b,b<n0->A b->b<w2.heap.size:=λw2 h b hb hA=>by
  have h1:=h b hb hA;rw[xk (yN hb hn)]at h1;exact(ym.1 h1).1
 refine callsIn_of_wp func266 rfl trivial ?_ rfl;simp only[Tryz.ntmps266,yK,yo,xC,Nat.reduceAdd,Nat.reduceSub,Array.replicate_succ,Array.replicate_zero,List.push_toArray,List.append_toArray,yR,yZ]
 gi_wp2
 gi_loopw [7] (λi wr=>∃k:Nat,k<=len/\i= .int .i64 (k:Int)/\zf ((xA len).take k) wr/\(∀b,b<n0->A b->wr.heap[b]? =W.heap[b]?))
  (λi _=>len-(intOf i).toNat)
 case atStart=>exact⟨0,yy _,by simp,by simpa using h0,λ_ _ _=>rfl⟩
 case round=>
  obtain⟨k,hk,rfl,hJs,hnx⟩:=hrel;have hcx:∀i j,i<len->j<2->wr.cell? ⟨b,off+i*2+j,J⟩=Q (.int .i64 (u i j)):=λi j h1 h2=>(World.cell?_of_block (hnx b hb hAb)).trans (hc i j h1 h2);by_cases hlt:k<len
  ·obtain⟨fn,tmps,assign,body,hy,hR⟩:=hY _ ⟨k,hlt⟩ (wr.alloc (.cells #[.int .i64 (u k 0), .int .i64 (u k 1)] 231)) (hJa _ _ _ hJs) (by simp;omega);dsimp only at hy;have e0:wr.cell? ⟨b,off+k*2,J⟩=Q (.int .i64 (u k 0)):=hcx k 0 (by omega) (by omega);have e1:wr.cell? ⟨b,off+k*2+1,J⟩=Q (.int .i64 (u k 1)):=hcx k 1 (by omega) (by omega)
   gi_wp2
   refine hR.mono ?_;rintro e W3 (⟨rfl,hJ3,hk3⟩|⟨rfl,hJx3⟩)
   ·gi_wp2
    go_roundw
    case rel=>exact⟨k+1,by omega,by first|(simp;done)|(simp;omega),by rw[DG hlt];exact hJ3,λb' h1 h2=>((hk3 b' h1 h2).trans (heap_alloc_old wr _ (hin wr hnx b' h1 h2))).trans (hnx b' h1 h2)⟩
    case measure=>simp[intOf];omega
   ·gi_wp2
    refine bodyPost_ret (results_none rfl _ _ _) rfl ?_;exact⟨⟨_,rfl⟩, .inr ⟨_,by rw[<-DG hlt];exact List.take_prefix _ _,hJx3⟩⟩
  ·obtain rfl:k=len:=by omega
   gi_wp2
   go_end0
   exact⟨⟨_,rfl⟩, .inl ⟨_,rfl,by rwa [yX (by simp)]at hJs⟩⟩
set_option maxHeartbeats 1000000 in
def QW(l Bs o cap:Nat)(p:af Addr)(zf:aa (Fin 0)->World->Prop)(W:World)(hBs:W.cell? ⟨Bs,o,J⟩=Q (.slice p 0 cap))(h0:zf [] W):
  CallsIn Fence.wide 1 wR 266 #[.func (.yield l) #[] #[], .pointer (Q ⟨Bs,o,J⟩)] W λe W'=>(∃v,e= .returned v)/\zf [] W':=by
 refine callsIn_of_wp func266 rfl trivial ?_ rfl;simp only[Tryz.ntmps266,yK,yo,xC,Nat.reduceAdd,Nat.reduceSub,Array.replicate_succ,Array.replicate_zero,List.push_toArray,List.append_toArray,yR,yZ]
 gi_wp2
 gi_loopw [7] (λi wr=>i= .int .i64 0/\zf [] wr) (λ_ _=>0)
 case atStart=>exact⟨by simp,h0⟩
 case round=>
  obtain⟨rfl,hJs⟩:=hrel
  gi_wp2
  go_end0
  exact⟨⟨_,rfl⟩,hJs⟩
def tu(l:aa (uni.cA 231)):aa (aa AV):=l.map λx=>[.agg (uni.cells 231 x)]
def v8(l:aa (uni.cA 231)){k:Nat}(h:k<yz l):(tu l)[k]! =[.agg (uni.cells 231 l[k]!)]:=by
 unfold tu;rw[getElem!_pos _ k (by simpa using h),getElem!_pos l k h,x9]
def Mv(l:aa (uni.cA 231)):Iter wR 266 [.fp [.sl 231 l]] (tu l):=λA w lb hlb=>by
 obtain⟨v,hv1,hv2⟩:=hlb.get (j:=0) rfl;obtain rfl:lb=[v]:=by
  have:=hlb.1;cases lb with
  |nil=>cases hv1
  |cons x xs=>
   cases xs with
   |nil=>simp at hv1;rw[hv1]
   |cons y ys=>simp at this
 obtain⟨Bs,o,us,rfl,hB,hAB,hcs,hus⟩:=hv2.tR;obtain⟨sv,hs1,hs2⟩:=hus.get (j:=0) rfl;have hcB:=hcs 0 sv hs1;rw[yO]at hcB;obtain⟨p,cap,u,rfl,hl,hcap,hz,hc,hr⟩:=hs2.oq;have hE:yz (tu l)=yz l:=by simp[tu]
 obtain⟨q,hq⟩:∃q:Nat->Nat->Int,q=λi j=>if j=0 then(l[i]! :uni.cA 231).cK else(l[i]! :uni.cA 231).MT:=⟨_,rfl⟩
 have hu:∀i j,i<yz l->j<2->u i j= .int .i64 (q i j):=λi j hi hj=>by
  match j with
  |0=>rw[hq];exact(hr i 0 _ hi rfl).bI
  |1=>rw[hq];exact(hr i 1 _ hi rfl).bI
 obtain⟨vs,hvs⟩:∃vs:aa (aa Value),vs=(zU (yz l)).map λ(i:Nat)=>[.agg #[.int .i64 (q i 0), .int .i64 (q i 1)]]:=⟨_,rfl⟩;have hget:∀i,i<yz l->vs[i]! =[.agg #[.int .i64 (q i 0), .int .i64 (q i 1)]]:=λi hi=>by
  subst hvs;rw[getElem!_pos _ i (by simpa using hi)];simp
 refine⟨vs,by subst hvs;simp[tu],λi hi=> ?_,?_⟩
 ·rw[hE]at hi;rw[v8 l hi,hget i hi];refine bn.cons ?_ bn.nil;have h1:Rel A w (.agg (uni.cells 231 l[i]!)) (.agg [u i 0,u i 1].toArray):= .agg _ [u i 0,u i 1] rfl λj a v h1 h2=>by
   match j with
   |0=>cases h2;exact hr _ 0 a hi h1
   |1=>cases h2;exact hr _ 1 a hi h1
   |j+2=>cases h2
  rw[hu i 0 hi (by omega),hu i 1 hi (by omega)]at h1;exact h1
 ·have henc:(λi:Fin (tu l).length=>(vs[i.1]!).toArray)=λx=>#[.agg #[.int .i64 (q x.1 0), .int .i64 (q x.1 1)]]:=funext λx=>by
   have hx:=x.2;rw[hget x.1 (by omega)]
  rw[henc];intro lp zf Jx W hW hJ1 _ hY h0;have hblk:∀b,b<w.heap.size->W.heap[b]? =w.heap[b]? :=λb hb=>hW.block b hb;have hcB':W.cell? ⟨Bs,o,J⟩=Q (.slice p (tu l).length cap):=by rw[World.cell?_of_block (hblk Bs hB),hE];exact hcB
  by_cases h0l:yz l=0
  ·obtain rfl:l=[]:=y8.1 h0l;exact(QW lp Bs o cap p zf W hcB' h0).mono λe W' h=>⟨h.1, .inl ⟨[],rfl,h.2⟩⟩
  ·obtain⟨b,off,rfl,hb,hAb,hcell⟩:=hc 0 (by omega);refine(TF lp Bs o b off (tu l).length cap w.heap.size q A hb hAb hB hAB (by omega) zf Jx (λpre W o h=>hJ1 pre W _ none h (Eh W o) (λr hr=>by cases hr)) hY W hW.size hcB' (λi j h1 h2=> ?_) h0).mono λe W' h=>h;obtain⟨b',off',e1,_,_,h4⟩:=hc i (by omega);cases e1;rw[World.cell?_of_block (hblk b hb),<-hu i j (by omega) h2];exact h4 j h2
def ah9:lR wR 227:=⟨_,underlying227,trivial⟩
def amy:mT wR 231 2:=⟨⟨_,underlying231,trivial⟩,by kernel_rfl⟩
def aBJ:(wR.info? 227).map (·.size)=Q 1:=by kernel_rfl
def asW:(wR.info? 231).map (·.size)=Q (uni.sz 231):=by kernel_rfl
def aDc:(wR.info? 231).map (λi=>(i.size,i.bytes))=Q (uni.sz 231,16):=by kernel_rfl
def atM:gO wR 231=Q [.int .i64 0, .int .i64 0]:=by kernel_rfl
def aBr:(wR.info? 231).bind (λi=>i.zero.map (·.cells))=Q ([.int .i64 0, .int .i64 0]:aa Value).toArray:=by kernel_rfl
def apo(l:aa (uni.cA 231))(hl:yz l<=1073741824):Iv.Fn wR 292 [.lit (.slice J 0 0), .fn (.func 266) [.fp [.sl 231 l]]] [] (λa s=>∃v,a= .lit v/\s=[.row v 231 l]):=by
 refine Iv.Fn.of func292 rfl rfl rfl (λC=> ?_);refine CW.seq ?_;refine CW.region ?_;refine RW.v rfl rfl rfl (Yv.box rfl rfl (Pw.p rfl)) ?_;rintro _ _ ⟨b2,rfl,rfl⟩;refine RW.p rfl rfl rfl (Yp.assign rfl rfl) ?_;refine RW.nil ?_;refine CW.own J 231 ?_;refine CW.seq ?_;refine CW.seq ?_;refine CW.region ?_;refine RW.p rfl rfl rfl (Yp.move rfl rfl) ?_;refine RW.nil ?_;refine CW.block ?_;have hE:yz (tu l)=yz l:=by simp[tu]
 refine CW.rfa (gf:=266) (caps:=[.fp [.sl 231 l]]) (es:=tu l) (λpre s=>∃v,s=[.row v 231 (pre.map λi=>l[i]!), .box b2 227 [.lit v]]) (λi=>[(5, .fp (uni.cells 231 l[i]!)),(2, .lit (.pointer (Q ⟨b2,0,J⟩)))]) ?_ ?_ rfl (enters_of func266 (by kernel_rfl) rfl) (Mv l) (λi hi=>by rw[v8 l (by omega)];rfl) (by decide) ⟨_,rfl⟩ ?_ ?_ ?_
 ·rintro pre σ ⟨v,rfl⟩ r hr v' es rfl;simp at hr
 ·rintro C0 W pre pre' _ _ ⟨v,rfl⟩ ⟨v',rfl⟩ h1 h2;have key:∀(v:Value) (l':aa (uni.cA 231)),Iv.Good C0 [.row v 231 l', .box b2 227 [.lit v]] W->∃us:aa Value,YG W b2 us.toArray 227/\us=[v]:=λv l' h=>by
   obtain⟨us,g1,g2⟩:=h.res (.box b2 227 [.lit v]) (by simp);obtain⟨u,us',rfl,g3,g4⟩:=g2.head;have:us'=[]:=y8.1 g4.1;subst this;rw[g3.bI]at g1;exact⟨_,g1,rfl⟩
  obtain⟨_,g1,rfl⟩:=key v _ h1;obtain⟨_,g2,rfl⟩:=key v' _ h2;have:v=v':=by
   have:=g1.symm.trans g2;simpa using this
  rw[this];rfl
 ·rintro C' pre i _ hi ⟨v,rfl⟩;rw[v8 l (by omega)];refine YH.region rfl ?_;refine RW.v rfl rfl rfl (Yv.alloc rfl aBr) ?_;rintro _ _ ⟨b5,rfl,rfl⟩;refine RW.u rfl rfl (Yu.Mz 0 rfl rfl rfl rfl asW (Pw.p rfl) rfl (yV rfl)) ?_;refine RW.ug 0 5 rfl rfl (Vw.box 0 rfl) ?_;refine RW.nil ?_;exact⟨rfl,Sub.cons rfl (Sub.cons rfl Sub.nil),_,⟨v,rfl⟩,List.Sublist.refl _⟩
 ·rintro C' pre i _ hi hp ⟨v,rfl⟩;refine YH.block ?_;refine YH.region rfl ?_;refine RW.p rfl rfl rfl (Yp.KL 1 rfl rfl rfl ah9 rfl) ?_;refine RW.p rfl rfl rfl (Yp.XP rfl rfl amy (yV rfl)) ?_;refine RW.v rfl rfl rfl (Yv.lit (e:=231) (zs:=[.int .i64 0, .int .i64 0]) [l[i]!] rfl underlying227 asW atM rfl (λA w ρ hd hρ=>HB (cs:=([.int .i64 0, .int .i64 0]:aa Value).map .lit) (bn.lits _) (Env.nN hρ rfl) rfl) rfl (λi hi=>uniL.len _ _) (by decide) (by decide)) ?_;rintro _ _ ⟨v10,rfl,rfl⟩;refine RW.v rfl rfl rfl (Yv.app (e:=231) (l:=pre.map λi=>l[i]!) (l2:=[l[i]!]) (zs:=[.int .i64 0, .int .i64 0]) 1 rfl rfl rfl (.inr (.inr ⟨0,_,rfl,rfl⟩)) underlying227 aDc atM rfl rfl (uniL.one _) (by simp;omega)) ?_;rintro _ _ ⟨v',rfl,rfl⟩;refine RW.u rfl rfl (Yu.Mz 2 rfl rfl rfl rfl aBJ (Pw.own 1 rfl) rfl (yV rfl)) ?_;refine RW.nil ?_;exact⟨rfl,[.row v' 231 ((pre++[i]).map λi=>l[i]!), .box b2 227 [.lit v']],⟨v',rfl⟩,by rw[zK];exact List.sublist_cons_self _ _⟩
 ·rintro _ ⟨v,rfl⟩;have hl2:(zU (tu l).length).map (λi=>l[i]!)=l:=by
   rw[hE];exact wE (by simp) λi h1 h2=>by rw[x9,List.getElem_range,getElem!_pos l i h2]
  rw[hl2];refine CW.seq ?_;refine CW.region ?_;refine RW.p rfl rfl rfl (Yp.KL 1 rfl rfl rfl ah9 rfl) ?_;refine RW.p rfl rfl rfl (Yp.assign rfl rfl) ?_;refine RW.nil ?_;refine CW.ret ?_;exact aAs (.inr rfl) rfl (rA.tmp rfl) (List.Sublist.cons_cons _ (List.nil_sublist _)) ⟨v,rfl,rfl⟩
def auw(l:aa (uni.cA 231))(hl:yz l<=1073741824):Gu wR 292 [.lit (.slice J 0 0), .fn (.func 266) [.fp [.sl 231 l]]] [] 0 ⟨.own 0,[(0, .row 231 l)],1⟩:=λρ=>by
 have e1:[.lit (.slice J 0 0), .fn (.func 266) [.fp [.sl 231 l]]].map (bM.sub ρ)=([.lit (.slice J 0 0), .fn (.func 266) [.fp [.sl 231 l]]]:aa AV):=by simp[bM.sub]
 rw[e1];exact(apo l hl).mono λa s ⟨v,h1,h2⟩=>⟨ρ.eC 0 v,λi hi=>gI hi (Nat.not_lt_zero _),by rw[h1];simp[cD,Gh.eC],by rw[h2];simp[aM.res,IR.res,Gh.eC]⟩
abbrev atS:=aa (uni.cA 231)
def d292:Td 0 atS:= .c [] [4] (.r 0 1 (ec 4 (qo 0) en) (sr 0 231 sn) (λz=>z.2.1) (λx=>(((),()),(x,()))))
def ate:=(lc qn (lc (qf 266 (lc (qr (lc (ql 231) ln)) ln)) ln))
def ap0(l:aa (uni.cA 231)):af atS:=if yz l<=1073741824 then Q l else J
def aC9(l:aa (uni.cA 231)):gE wR 292 0 (d292.pat l)=⟨.own 0,[(0, .row 231 l)],1⟩:=by kernel_rfl
def awN:HL wR 292 ate d292 (λg=>ap0 g.2.1.1.1):=λg b hb=>by
 dsimp only[ap0]at hb;split at hb
 ·rename_i h;cases hb;rw[aC9];exact auw _ h
 ·cases hb
def abr:=eL wR 292 O ate d292 (λg=>ap0 g.2.1.1.1)
def kU{F:aI}(h:ak wR F):ak wR (abr F):=bA (sc:=dM) aX awN ⟨_,func292,by kernel_rfl,by kernel_rfl⟩ (λ_=>by kernel_rfl) (λ_=>by kernel_rfl) h
end Go.Proofs.YtghilkcphindjaaGreat
end
noncomputable section
set_option maxRecDepth 100000
namespace Go.Proofs.YtghilkcphindjaaGreat
open Go Go.Iv
open Go.IntKind (i64 u64)
def tb{γ β:Type}[DecidableEq γ](T:aa (γ×β))(g:γ):af β:=(T.find? λp=>Z (p.1=g)).map (·.2)
def tE{γ β:Type}[DecidableEq γ]{T:aa (γ×β)}{g:γ}{b:β}(h:tb T g=Q b):(g,b)∈T:=by
 unfold tb at h;obtain⟨p,h1,rfl⟩:=zk.1 h;have h2:=List.find?_some h1;rw[decide_eq_true_eq]at h2;exact h2▸List.mem_of_find?_eq_some h1
def Ug:aI:=jr wR (abr cw) (λf=>zh f 292) 300 60
def OE:ak wR Ug:=⟨gM (kU aQ).ok (kU aQ).nat 300 60,ga (kU aQ).nat 300 60⟩
abbrev agK:Type:=Int
def JF:Td 0 agK:= .c [] [2] (.r 0 0 (ec 2 aL en) sn (λz=>z.1.1) (λx=>((x,()),(()))) λ_=>rfl)
def VT:=(lc (qg 80) ln)
def t210:aa ((aH×Unit)×agK):=[((⟨2,[0],[],0⟩,()),0),
 ((⟨2,[0,2],[⟨0,0,1⟩],2⟩,()),0),
 ((⟨2,[0,1],[⟨1,0,1⟩],2⟩,()),0),
 ((⟨2,[0,1,2,3],[⟨1,0,1⟩,⟨1,2,3⟩,⟨0,4,5⟩],6⟩,()),0),
 ((⟨2,[2],[],0⟩,()),0),
 ((⟨2,[0,1,2],[⟨1,0,1⟩,⟨0,3,2⟩],4⟩,()),0),
 ((⟨2,[1],[],0⟩,()),0),
 ((⟨2,[0,1],[⟨1,0,1⟩,⟨0,2,0⟩],3⟩,()),0),
 ((⟨2,[3],[],0⟩,()),0),
 ((⟨2,[0,1],[⟨1,1,0⟩,⟨0,1,2⟩],3⟩,()),0)]
def akG:bx wR Ug 0 300 210 .no:=aD (l:=[]) func210 (aq (by kernel_rfl)) (by kernel_rfl) aC
def aB3:(t210.map λp=>aO wR Ug 300 .no 210 (VT.c p.1) [] 0 JF.rd)=t210.map λp=>Q p.2:=by kernel_rfl
def ax6:HL wR 210 VT JF (tb (γ:=aH×Unit) t210):=λg b hb=>
 (gL (out:=λp=>gE wR 210 0 (JF.pat p)) (p:=b) OE akG JF.ok (λp=>by kernel_rfl) (gm (by kernel_rfl)) (fL (by kernel_rfl)) (xE.1 aB3 _ (tE hb))).2
def UT:aI->aI:=eZ wR 210 VT JF (tb (γ:=aH×Unit) t210)
def pW{F:aI}(h:ak wR F):ak wR (UT F):=gh ax6 ⟨_,func210,by kernel_rfl,by kernel_rfl⟩ (λ_=>by kernel_rfl) h
abbrev agL:Type:=Int
def Hu:Td 0 agL:= .c [] [2] (.r 0 0 (ec 2 aL en) sn (λz=>z.1.1) (λx=>((x,()),(()))) λ_=>rfl)
def XB:=(lc (qg 42) ln)
def t151:aa ((bO×Unit)×agL):=[((⟨2,[⟨0,0,1⟩],2⟩,()),0),
 ((⟨2,[⟨1,0,1⟩],2⟩,()),0),
 ((⟨2,[],1⟩,()),0),
 ((⟨2,[],0⟩,()),0),
 ((⟨2,[⟨1,1,0⟩,⟨0,1,2⟩],3⟩,()),0)]
def aot:bx wR Ug 0 300 151 .no:=aD (l:=[]) func151 (aq (by kernel_rfl)) (by kernel_rfl) aC
def aBK:(t151.map λp=>aO wR Ug 300 .no 151 (XB.c p.1) [] 0 Hu.rd)=t151.map λp=>Q p.2:=by kernel_rfl
def awz:HL wR 151 XB Hu (tb (γ:=bO×Unit) t151):=λg b hb=>
 (gL (out:=λp=>gE wR 151 0 (Hu.pat p)) (p:=b) OE aot Hu.ok (λp=>by kernel_rfl) (gm (by kernel_rfl)) (fL (by kernel_rfl)) (xE.1 aBK _ (tE hb))).2
def Wx:aI->aI:=eZ wR 151 XB Hu (tb (γ:=bO×Unit) t151)
def rz{F:aI}(h:ak wR F):ak wR (Wx F):=gh awz ⟨_,func151,by kernel_rfl,by kernel_rfl⟩ (λ_=>by kernel_rfl) h
def sK:aI:=jr wR (UT (Wx (abr cw))) (λf=>zh f 210||zh f 151||zh f 292) 300 60
def nV:ak wR sK:=⟨gM (pW (rz (kU aQ))).ok (pW (rz (kU aQ))).nat 300 60,ga (pW (rz (kU aQ))).nat 300 60⟩
abbrev ajd:Type:=aH×Int
def Ia:Td 0 ajd:= .c [] [6,7] (.t (cq.fc 0 1 []) (.t (cq.fc 0 2 []) (.c [] [6,7] (.r 0 1 (ec 6 (qp 0 0) (ec 7 aL en)) (sb 0 80 (lg 80) sn) (λz=>(z.2.1,z.1.2.1)) (λx=>(((),x.2,()),(x.1,()))) λ_=>rfl))))
def TB:=(aW (lc (qg 80) (lc (qg 80) ln)))
def t178:aa ((Int×aH×aH×Unit)×ajd):=[((0,⟨2,[0],[],0⟩,⟨2,[0,2],[⟨0,0,1⟩],2⟩,()),(⟨2,[0,2],[⟨0,0,1⟩],2⟩,0)),
 ((0,⟨2,[0,2],[⟨0,0,1⟩],2⟩,⟨2,[0,1],[⟨1,0,1⟩],2⟩,()),(⟨2,[0,1,2,3],[⟨1,0,1⟩,⟨1,2,3⟩,⟨0,4,5⟩],6⟩,0)),
 ((5,⟨2,[0,1,2,3],[⟨1,0,1⟩,⟨1,2,3⟩,⟨0,4,5⟩],6⟩,⟨2,[2],[],0⟩,()),(⟨2,[0,1,2],[⟨1,0,1⟩,⟨0,3,2⟩],4⟩,0)),
 ((0,⟨2,[0,1,2],[⟨1,0,1⟩,⟨0,3,2⟩],4⟩,⟨2,[0],[],0⟩,()),(⟨2,[0,1,2],[⟨1,0,1⟩,⟨0,3,2⟩],4⟩,0)),
 ((0,⟨2,[0],[],0⟩,⟨2,[1],[],0⟩,()),(⟨2,[1],[],0⟩,0)),
 ((8,⟨2,[0,1,2],[⟨1,0,1⟩,⟨0,3,2⟩],4⟩,⟨2,[1],[],0⟩,()),(⟨2,[0,1],[⟨1,0,1⟩,⟨0,2,0⟩],3⟩,0)),
 ((7,⟨2,[0,1,2,3],[⟨1,0,1⟩,⟨1,2,3⟩,⟨0,4,5⟩],6⟩,⟨2,[3],[],0⟩,()),(⟨2,[0,1],[⟨1,1,0⟩,⟨0,1,2⟩],3⟩,0))]
def akQ:bx wR sK 0 300 178 .no:=aD (l:=[]) func178 (aq (by kernel_rfl)) (by kernel_rfl) aC
def aCT:(t178.map λp=>aO wR sK 300 .no 178 (TB.c p.1) [] 0 Ia.rd)=t178.map λp=>Q p.2:=by kernel_rfl
def atP:HL wR 178 TB Ia (tb (γ:=Int×aH×aH×Unit) t178):=λg b hb=>
 (gL (out:=λp=>gE wR 178 0 (Ia.pat p)) (p:=b) nV akQ Ia.ok (λp=>by kernel_rfl) (gm (by kernel_rfl)) (fL (by kernel_rfl)) (xE.1 aCT _ (tE hb))).2
def aip:aI->aI:=eZ wR 178 TB Ia (tb (γ:=Int×aH×aH×Unit) t178)
def U4{F:aI}(h:ak wR F):ak wR (aip F):=gh atP ⟨_,func178,by kernel_rfl,by kernel_rfl⟩ (λ_=>by kernel_rfl) h
abbrev agq:Type:=aH×Int
def JE:Td 0 agq:= .c [] [6,7] (.t (cq.fc 0 1 []) (.t (cq.fc 0 2 []) (.c [] [6,7] (.r 0 1 (ec 6 (qp 0 0) (ec 7 aL en)) (sb 0 80 (lg 80) sn) (λz=>(z.2.1,z.1.2.1)) (λx=>(((),x.2,()),(x.1,()))) λ_=>rfl))))
def Xq:=(lc (qg 42) (lc (qg 80) (lc (qg 80) ln)))
def t134:aa ((bO×aH×aH×Unit)×agq):=[((⟨2,[],1⟩,⟨2,[0,1],[⟨1,0,1⟩,⟨0,2,0⟩],3⟩,⟨2,[0],[],0⟩,()),(⟨2,[0,1],[⟨1,0,1⟩,⟨0,2,0⟩],3⟩,0)),
 ((⟨2,[],0⟩,⟨2,[0,1],[⟨1,0,1⟩,⟨0,2,0⟩],3⟩,⟨2,[0],[],0⟩,()),(⟨2,[0],[],0⟩,0))]
def apT:bx wR sK 0 300 134 .no:=aD (l:=[]) func134 (aq (by kernel_rfl)) (by kernel_rfl) aC
def aDg:(t134.map λp=>aO wR sK 300 .no 134 (Xq.c p.1) [] 0 JE.rd)=t134.map λp=>Q p.2:=by kernel_rfl
def arN:HL wR 134 Xq JE (tb (γ:=bO×aH×aH×Unit) t134):=λg b hb=>
 (gL (out:=λp=>gE wR 134 0 (JE.pat p)) (p:=b) nV apT JE.ok (λp=>by kernel_rfl) (gm (by kernel_rfl)) (fL (by kernel_rfl)) (xE.1 aDg _ (tE hb))).2
def ahu:aI->aI:=eZ wR 134 Xq JE (tb (γ:=bO×aH×aH×Unit) t134)
def Sf{F:aI}(h:ak wR F):ak wR (ahu F):=gh arN ⟨_,func134,by kernel_rfl,by kernel_rfl⟩ (λ_=>by kernel_rfl) h
abbrev aiQ:Type:=bO×Int
def Ko:Td 0 aiQ:= .c [] [4,5] (.t (cq.fc 0 1 []) (.c [] [4,5] (.r 0 1 (ec 4 (qp 0 0) (ec 5 aL en)) (sb 0 42 (lg 42) sn) (λz=>(z.2.1,z.1.2.1)) (λx=>(((),x.2,()),(x.1,()))) λ_=>rfl)))
def UL:=(lc (qg 80) (aW ln))
def t184:aa ((aH×Int×Unit)×aiQ):=[((⟨2,[0],[],0⟩,0,()),(⟨2,[],1⟩,0)),
 ((⟨2,[0],[],0⟩,1,()),(⟨2,[],0⟩,0)),
 ((⟨2,[0],[],0⟩,2,()),(⟨2,[],0⟩,0)),
 ((⟨2,[0],[],0⟩,3,()),(⟨2,[],0⟩,0)),
 ((⟨2,[0],[],0⟩,4,()),(⟨2,[],0⟩,0)),
 ((⟨2,[0],[],0⟩,5,()),(⟨2,[],0⟩,0)),
 ((⟨2,[0],[],0⟩,6,()),(⟨2,[],0⟩,0)),
 ((⟨2,[0],[],0⟩,7,()),(⟨2,[],0⟩,0)),
 ((⟨2,[0,1],[⟨1,1,0⟩,⟨0,1,2⟩],3⟩,1,()),(⟨2,[⟨1,1,0⟩,⟨0,1,2⟩],3⟩,0))]
def aoN:bx wR sK 0 300 184 .no:=aD (l:=[]) func184 (aq (by kernel_rfl)) (by kernel_rfl) aC
def aDx:(t184.map λp=>aO wR sK 300 .no 184 (UL.c p.1) [] 0 Ko.rd)=t184.map λp=>Q p.2:=by kernel_rfl
def av9:HL wR 184 UL Ko (tb (γ:=aH×Int×Unit) t184):=λg b hb=>
 (gL (out:=λp=>gE wR 184 0 (Ko.pat p)) (p:=b) nV aoN Ko.ok (λp=>by kernel_rfl) (gm (by kernel_rfl)) (fL (by kernel_rfl)) (xE.1 aDx _ (tE hb))).2
def agF:aI->aI:=eZ wR 184 UL Ko (tb (γ:=aH×Int×Unit) t184)
def Yb{F:aI}(h:ak wR F):ak wR (agF F):=gh av9 ⟨_,func184,by kernel_rfl,by kernel_rfl⟩ (λ_=>by kernel_rfl) h
abbrev agj:Type:=aH×Int
def JR:Td 0 agj:= .c [] [6,7] (.t (cq.fc 0 1 []) (.t (cq.fc 0 2 []) (.c [] [6,7] (.r 0 1 (ec 6 (qp 0 0) (ec 7 aL en)) (sb 0 80 (lg 80) sn) (λz=>(z.2.1,z.1.2.1)) (λx=>(((),x.2,()),(x.1,()))) λ_=>rfl))))
def Ts:=(lc (qg 42) (aW (aW ln)))
def t145:aa ((bO×Int×Int×Unit)×agj):=[((⟨2,[⟨0,0,1⟩],2⟩,0,2,()),(⟨2,[0,2],[⟨0,0,1⟩],2⟩,0)),
 ((⟨2,[⟨1,0,1⟩],2⟩,0,1,()),(⟨2,[0,1],[⟨1,0,1⟩],2⟩,0))]
def apM:bx wR sK 0 300 145 .no:=aD (l:=[]) func145 (aq (by kernel_rfl)) (by kernel_rfl) aC
def aCy:(t145.map λp=>aO wR sK 300 .no 145 (Ts.c p.1) [] 0 JR.rd)=t145.map λp=>Q p.2:=by kernel_rfl
def ara:HL wR 145 Ts JR (tb (γ:=bO×Int×Int×Unit) t145):=λg b hb=>
 (gL (out:=λp=>gE wR 145 0 (JR.pat p)) (p:=b) nV apM JR.ok (λp=>by kernel_rfl) (gm (by kernel_rfl)) (fL (by kernel_rfl)) (xE.1 aCy _ (tE hb))).2
def aiG:aI->aI:=eZ wR 145 Ts JR (tb (γ:=bO×Int×Int×Unit) t145)
def Xx{F:aI}(h:ak wR F):ak wR (aiG F):=gh ara ⟨_,func145,by kernel_rfl,by kernel_rfl⟩ (λ_=>by kernel_rfl) h
abbrev ai9:Type:=aH×aa Gp×Int
def Hr:Td 0 ai9:= .c [] [4,5,6] (.t (cq.fc 0 1 []) (.t (cq.fc 0 2 []) (.t (cq.fs 5 []) (.c [] [4,5,6] (.r 0 1 (ec 4 (qp 0 0) (ec 5 (ql 231) (ec 6 aL en))) (sb 0 80 (lg 80) sn) (λz=>(z.2.1,z.1.2.1,z.1.2.2.1)) (λx=>(((),x.2.1,x.2.2,()),(x.1,()))) λ_=>rfl)))))
def R8:=(lc (qg 80) (lc (qg 80) ln))
def t148:aa ((aH×aH×Unit)×ai9):=[((⟨2,[1],[],0⟩,⟨2,[1],[],0⟩,()),(⟨2,[0],[],0⟩,[⟨1,1⟩],0)),
 ((⟨2,[0],[],0⟩,⟨2,[0,1],[⟨1,0,1⟩,⟨0,2,0⟩],3⟩,()),(⟨2,[0,1],[⟨1,0,1⟩,⟨0,2,0⟩],3⟩,[⟨0,0⟩,⟨0,1⟩],0)),
 ((⟨2,[0,1],[⟨1,0,1⟩,⟨0,2,0⟩],3⟩,⟨2,[0],[],0⟩,()),(⟨2,[0,1],[⟨1,0,1⟩,⟨0,2,0⟩],3⟩,[⟨0,0⟩,⟨1,0⟩],0)),
 ((⟨2,[1],[],0⟩,⟨2,[0],[],0⟩,()),(⟨2,[0],[],0⟩,[⟨1,0⟩],0))]
def ajw:bx wR sK 0 300 148 .no:=aD (l:=[]) func148 (aq (by kernel_rfl)) (by kernel_rfl) aC
def aAf:(t148.map λp=>aO wR sK 300 .no 148 (R8.c p.1) [] 0 Hr.rd)=t148.map λp=>Q p.2:=by kernel_rfl
def avd:HL wR 148 R8 Hr (tb (γ:=aH×aH×Unit) t148):=λg b hb=>
 (gL (out:=λp=>gE wR 148 0 (Hr.pat p)) (p:=b) nV ajw Hr.ok (λp=>by kernel_rfl) (gm (by kernel_rfl)) (fL (by kernel_rfl)) (xE.1 aAf _ (tE hb))).2
def agn:aI->aI:=eZ wR 148 R8 Hr (tb (γ:=aH×aH×Unit) t148)
def Vz{F:aI}(h:ak wR F):ak wR (agn F):=gh avd ⟨_,func148,by kernel_rfl,by kernel_rfl⟩ (λ_=>by kernel_rfl) h
abbrev agz:Type:=bO×Int
def Jb:Td 0 agz:= .c [] [6,7] (.t (cq.fc 0 1 []) (.c [] [6,7] (.r 0 1 (ec 6 (qp 0 0) (ec 7 aL en)) (sb 0 42 (lg 42) sn) (λz=>(z.2.1,z.1.2.1)) (λx=>(((),x.2,()),(x.1,()))) λ_=>rfl)))
def WE:=(aW (lc (qg 42) (lc (qg 42) ln)))
def t117:aa ((Int×bO×bO×Unit)×agz):=[((8,⟨2,[],1⟩,⟨2,[⟨1,1,0⟩,⟨0,1,2⟩],3⟩,()),(⟨2,[⟨1,1,0⟩,⟨0,1,2⟩],3⟩,0))]
def alV:bx wR sK 0 300 117 .no:=aD (l:=[]) func117 (aq (by kernel_rfl)) (by kernel_rfl) aC
def aCr:(t117.map λp=>aO wR sK 300 .no 117 (WE.c p.1) [] 0 Jb.rd)=t117.map λp=>Q p.2:=by kernel_rfl
def atQ:HL wR 117 WE Jb (tb (γ:=Int×bO×bO×Unit) t117):=λg b hb=>
 (gL (out:=λp=>gE wR 117 0 (Jb.pat p)) (p:=b) nV alV Jb.ok (λp=>by kernel_rfl) (gm (by kernel_rfl)) (fL (by kernel_rfl)) (xE.1 aCr _ (tE hb))).2
def aiP:aI->aI:=eZ wR 117 WE Jb (tb (γ:=Int×bO×bO×Unit) t117)
def SX{F:aI}(h:ak wR F):ak wR (aiP F):=gh atQ ⟨_,func117,by kernel_rfl,by kernel_rfl⟩ (λ_=>by kernel_rfl) h
end Go.Proofs.YtghilkcphindjaaGreat
end
noncomputable section
set_option maxRecDepth 100000
namespace Go.Proofs.YtghilkcphindjaaGreat
open Go Go.Iv Go.Sort Go.Proofs Go.Shelf Go.RowKit Go.Lib
section
variable {α:Type} [Inhabited α] (r:α->α->Bool)
def Em(d:Array α)(j:Nat):Bool:=Z (j=0)|| !r d[j]! d[j-1]!
def CI(d:Array α)(m:Nat):aa α:=((zU m).filter (Em r d)).map (d[·]!)
variable {r}
def iW(d:Array α)(m:Nat):CI r d (m+1)=CI r d m++(if Em r d m then[d[m]!]else[]):=by
 unfold CI;rw[List.range_succ,yj,zK]
 congr 1
 by_cases h:Em r d m<;>simp[h]
def EI(d:Array α)(m:Nat)(h:∀j,j<m->Em r d j=O):CI r d m=(zU m).map (d[·]!):=by
 unfold CI;rw[xZ.2 (λj hj=>h j (List.mem_range.1 hj))]
def K0(d:Array α):(zU d.size).map (d[·]!)=d.toList:=by
 apply wE
 ·simp
 ·intro i h1 h2;have hi:i<d.size:=by simpa using h2
  simp[getElem!_pos,hi]
structure uw (r:α->α->Bool) (d:Array α) (m k:Nat) (dk:Array α):Prop where
 size:dk.size=d.size
 len:yz (CI r d m)=k
 lt:k<m
 low:∀j,j<k->(CI r d m)[j]? =Q dk[j]!
 high:∀j,k<=j->dk[j]! =d[j]!
def uw.start{d:Array α}{k0:Nat}(hall:∀j,j<k0->Em r d j=O)(hdup:Em r d k0=V):uw r d (k0+1) k0 d where
 size:=rfl
 len:=by rw[iW,hdup,EI d k0 hall];simp
 lt:=z7 _
 low:=λj hj=>by rw[iW,hdup,EI d k0 hall];simp[hj]
 high:=λ_ _=>rfl
def uw.keep{d dk:Array α}{m k:Nat}(h:uw r d m k dk)(hm:m<d.size)(hk:Em r d m=O):uw r d (m+1) (k+1) (dk.setIfInBounds k d[m]!) where
 size:=by simp[h.size]
 len:=by rw[iW,hk];simp[h.len]
 lt:=by have:=h.lt;omega
 low:=λj hj=>by
  rw[iW,hk,bS rfl];by_cases e:j=k
  ·subst e;rw[xO (by rw[h.len];exact zA _),h.len,xy,getElem!_set_same dk j _ (by have:=h.lt;have:=h.size;omega)];rfl
  ·rw[xY (by rw[h.len];omega),h.low j (by omega),getElem!_set_other dk k j _ e]
 high:=λj hj=>by rw[getElem!_set_other dk k j _ (by omega),h.high j (by omega)]
def uw.skip{d dk:Array α}{m k:Nat}(h:uw r d m k dk)(hk:Em r d m=V):uw r d (m+1) k dk where
 size:=h.size
 len:=by rw[iW,hk];simpa using h.len
 lt:=by have:=h.lt;omega
 low:=λj hj=>by rw[iW,hk];simpa using h.low j hj
 high:=h.high
end
section
variable {P:Program} {α:Type} [Inhabited α] {enc:α->aa Value} {k:Nat} {w0 W:World} {blk off:Nat} {dk:Array α}
def Js(hk:∀x,yz (enc x)=k)(d:Array α)(i:Nat)(hi:i<d.size)(x:α):setMany (flatK enc k d) (i*k) (enc x)=flatK enc k (d.setIfInBounds i x):=by
 refine ext_get! (by simp) λt ht=> ?_;have ht':t<d.size*k:=by simpa using ht
 have k0:0<k:=by
  rcases wj k with h|h
  ·subst h;simp at ht'
  ·exact h
 rw[get_setMany _ _ _ t (by simpa using ht'),get_flatK _ _ _ t ht',get_flatK _ _ _ t (by simpa using ht'),hk];by_cases a:t/k=i
 ·rw[bS ((blk_iff k i t k0).2 a),a,getElem!_set_same d i x hi,Nat.mod_eq_sub_div_mul,a]
 ·rw[bT (λh=>a ((blk_iff k i t k0).1 h)),getElem!_set_other d i _ x a]
def KZ(h:SWK enc k w0 blk off dk W)(hk:∀x,yz (enc x)=k)(hb:blk<w0.heap.size)(i:Nat)(hi:i<dk.size)(x:α):SWK enc k w0 blk off (dk.setIfInBounds i x) (W.setCells blk (off+i*k) (enc x)):=by
 obtain⟨n,os,rfl⟩:=h;refine⟨n,os,?_⟩;unfold sortWorldK;rw[setCells_grow os blk _ _ _ (by show blk<(putRowK enc k _ blk off dk).heap.size;rw[size_putRowK];exact hb)]
 congr 1
 unfold putRowK;have:=yP k (show i+1<=dk.size from hi);rw[yq,Nat.one_mul]at this;rw[setCells_putRow _ _ _ _ _ _ (by rw[hk,size_flatK];exact this),Js hk dk i hi x]
def ZS(h:SWK enc k w0 blk off dk W){d0:Array α}(R:RowK enc k w0 blk off d0)(hs:dk.size=d0.size)(P:Program)(i:Nat)(hi:i<dk.size)(x:α):
  Sem.run P (storeCells ⟨blk,off+i*k,J⟩ (enc x) 0) W= .ok () (W.setCells blk (off+i*k) (enc x)):=
 stores_of_holds P (h.holds R.hblk R.hH hs) (i*k) _ (by rw[R.hk,size_flatK];exact rowK_bnd dk k i hi) (R.h1 _)
def vc(enc:α->aa Value)(k:Nat)(w0:World)(blk off:Nat)(dk:Array α)(W:World):Prop:=∃q,SWK enc k (redrawn w0 q) blk off dk W
def pX{d0:Array α}(R:RowK enc k w0 blk off d0)(q:Nat):RowK enc k (redrawn w0 q) blk off d0:=⟨R.hk,R.h1,R.hH,R.hblk⟩
def vc.start{d0:Array α}(h:HoldsK enc k w0 blk off d0):vc enc k w0 blk off d0 w0:=⟨w0.drawn,SWK.start h⟩
def vc.grown(h:vc enc k w0 blk off dk W)(d:Nat)(os:Array Obj):vc enc k w0 blk off dk (grow (redrawn W d) os):=by
 obtain⟨q,n,os0,rfl⟩:=h;have h1:SWK enc k (redrawn w0 d) blk off dk (redrawn (sortWorldK enc k (redrawn w0 q) blk off n dk os0) d):=⟨0,os0,rfl⟩;exact⟨d,h1.grown 0 os⟩
def vc.ld{d0:Array α}(h:vc enc k w0 blk off dk W)(R:RowK enc k w0 blk off d0)(hs:dk.size=d0.size)(P:Program)(i:Nat)(hi:i<dk.size)(n:Nat)(os:Array Obj):
  Sem.run P (loadCellsFrom ⟨blk,off+i*k,J⟩ 0 k #[]) (grow (redrawn W n) os)= .ok (enc dk[i]!).toArray (grow (redrawn W n) os):=by
 obtain⟨q,h1⟩:=h.grown n os;exact h1.load (pX R q) hs P i hi
def LX(h:vc enc k w0 blk off dk W)(hk:∀x,yz (enc x)=k)(hb:blk<w0.heap.size)(i:Nat)(hi:i<dk.size)(x:α):vc enc k w0 blk off (dk.setIfInBounds i x) (W.setCells blk (off+i*k) (enc x)):=by
 obtain⟨q,h⟩:=h;exact⟨q,KZ h hk hb i hi x⟩
def aeO{d0:Array α}(h:vc enc k w0 blk off dk W)(R:RowK enc k w0 blk off d0)(hs:dk.size=d0.size)(P:Program)(i:Nat)(hi:i<dk.size)(x:α):
  Sem.run P (storeCells ⟨blk,off+i*k,J⟩ (enc x) 0) W= .ok () (W.setCells blk (off+i*k) (enc x)):=by
 obtain⟨q,h⟩:=h;exact ZS h (pX R q) hs P i hi x
def k9{f:FuncId}{args:Array Value}{w:World}{n:Nat}{os:Array Obj}{v:Value}
  (h:Calls P f args (grow (redrawn w n) os) λe w'=>e= .returned v/\∃q os',w'=grow (redrawn (grow (redrawn w n) os) q) os'):Calls P f args (grow (redrawn w n) os) λe w''=>e= .returned v/\∃p:Regrown,w''=grow (redrawn w p.d) p.os:=
 h.mono λ_ _ ⟨he,q,os',hq⟩=>⟨he,⟨q,os++os'⟩,by rw[hq];show grow (grow (redrawn w q) os) os'=_;rw[grow_grow]⟩
end
set_option maxHeartbeats 8000000 in
set_option maxRecDepth 1000000 in
def UO{P:Program}{α:Type}[Inhabited α](FG:P.funcs[89]? =Q f89)(mixed:P.follows .mixedOrders=O)
  (t3:P.underlying 3=Q (.int .i64)) (a3:∀w,(isAgg 3).run P w= .ok V w) (z3:∀w,(Go.sizeOf 3).run P w= .ok 1 w) (v3:∀w,(zeroValue 3).run P w= .ok (.int .i64 0) w)
  (t4:P.underlying 4=Q .bool) (a4:∀w,(isAgg 4).run P w= .ok V w) (z4:∀w,(Go.sizeOf 4).run P w= .ok 1 w) (v4:∀w,(zeroValue 4).run P w= .ok (.bool V) w)
  (t74:P.underlying 74=Q (.slice 55)) (a74:∀w,(isAgg 74).run P w= .ok V w) (z74:∀w,(Go.sizeOf 74).run P w= .ok 1 w) (v74:∀w,(zeroValue 74).run P w= .ok (.slice J 0 0) w)
  (k:Nat) (aE:∀w,(isAgg 55).run P w= .ok O w) (zE:∀w,(Go.sizeOf 55).run P w= .ok k w)
  (enc:α->aa Value) (r:α->α->Bool) (g:Nat) (cb:Array Value) (blk off cap:Nat) (d:Array α) (w:World)
  (eg:∀args w,(callFunc g args).run P w= .ok (.enter g args) w)
  (hcmp:∀(dk:Array α) (W:World),dk.size=d.size->vc enc k w blk off dk W->∀x y:α,Calls P g (#[.agg (enc x).toArray, .agg (enc y).toArray]++cb) W λe w'=>e= .returned (.bool (r x y))/\∃q os',w'=grow (redrawn W q) os')
  (R:RowK enc k w blk off d) (hsz:d.size<4611686018427387904) (hcap:d.size<=cap)
  (zs:Nat->aa Value) (hclr:∀(W:World) (dk:Array α) (kk:Nat),vc enc k w blk off dk W->dk.size=d.size->kk<d.size->∀ty,(Builtin.clear_ #[74] ty #[.slice (Q ⟨blk,off+kk*k,J⟩) (d.size-kk) (cap-kk)]).run P W= .ok (.tuple #[]) (W.setCells blk (off+kk*k) (zs kk))):
  Calls P 89 #[.slice (Q ⟨blk,off,J⟩) d.size cap, .func (.func g) #[] cb] w λe w'=>
   e= .returned (.slice (Q ⟨blk,off,J⟩) (CI r d d.size).length cap)/\∃(dk:Array α) (W:World),vc enc k w blk off dk W/\dk.size=d.size/\(∀j,j<yz (CI r d d.size)->(CI r d d.size)[j]? =Q dk[j]!)/\
    (w'=W\/w'=W.setCells blk (off+yz (CI r d d.size)*k) (zs (CI r d d.size).length)):=by
 have S00:vc enc k w blk off d w:=vc.start R.hH;have HC:Aside _:=hcmp;have HCL:Aside _:=hclr;have S0:Aside (vc enc k w blk off d w):=S00;have same:∀W,vc enc k w blk off d W->(∀j,j<d.size->Em r d j=O)->yz (CI r d d.size)=d.size/\∃(dk:Array α) (W':World),vc enc k w blk off dk W'/\dk.size=d.size/\(∀j,j<yz (CI r d d.size)->(CI r d d.size)[j]? =Q dk[j]!)/\(W=W'\/W=W'.setCells blk (off+yz (CI r d d.size)*k) (zs (CI r d d.size).length)):=λW hS hall=>by
  have e:CI r d d.size=d.toList:=by rw[EI d _ hall,K0]
  refine⟨by rw[e];simp,d,W,hS,rfl,λj hj=> ?_, .inl rfl⟩;rw[e]at hj ⊢;have hj':j<d.size:=by simpa using hj
  rw[zm hj,getElem!_pos d j hj'];simp
 have HS:Aside _:=same;have kp1:∀j,j<1->Em r d j=O:=λj hj=>by
  have:j=0:=by omega
  subst this;rfl
 clear same S00 hcmp hclr;by_cases h2:d.size<2
 ·have K1:Aside (∀j,j<1->Em r d j=O):=kp1;clear kp1
  go_enter FG,Tryz.ntmps89
  go_wp2
  go_ret
  obtain⟨e1,e2⟩:=HS.out w S0.out (λj hj=>K1.out j (by omega));exact⟨by rw[e1];rfl,e2⟩
 ·have K1:Aside (∀j,j<1->Em r d j=O):=kp1;clear kp1
  go_enter FG,Tryz.ntmps89
  go_wp2
  go_loopg [5] d.size (λg1 s5 wr=>∃(k1:Nat),s5= .int .i64 k1/\1<=k1/\k1<=d.size/\d.size-k1<=g1/\Aside (vc enc k w blk off d wr)/\Aside (∀j,j<k1->Em r d j=O))
  case atStart=>exact⟨1,rfl,zA _,by omega,by omega,S0,K1⟩
  case round=>
   obtain⟨k1,rfl,hk1,hk2,hg,S1,A1⟩:=hrel;by_cases hlt:k1<d.size
   ·obtain⟨kp,rfl⟩:∃kp,k1=kp+1:=⟨k1-1,by omega⟩;obtain⟨xj,hxj⟩:∃x,d[kp+1]! =x:=⟨_,rfl⟩;obtain⟨xp,hxp⟩:∃x,d[kp]! =x:=⟨_,rfl⟩;have hwp:IntKind.i64.wrap (kp:Int)=(kp:Int):=by rw[IntKind.wrap_i64];omega
    have jz:(kp:Int)+1<(d.size:Int):=by omega
    have jz1:(kp:Int)<(d.size:Int):=by omega
    have p0:(0:Int)<=(kp:Int)+1:=by omega
    have e0:((kp:Int)+1).toNat=kp+1:=by omega
    have lj:∀n' os',Sem.run P (loadCellsFrom ⟨blk,off+(kp+1)*k,J⟩ 0 k #[]) (grow (redrawn wr n') os')= .ok (enc xj).toArray (grow (redrawn wr n') os'):=λn' os'=>by
     rw[<-hxj];exact S1.out.ld R rfl P (kp+1) hlt n' os'
    have lp:∀n' os',Sem.run P (loadCellsFrom ⟨blk,off+kp*k,J⟩ 0 k #[]) (grow (redrawn wr n') os')= .ok (enc xp).toArray (grow (redrawn wr n') os'):=λn' os'=>by
     rw[<-hxp];exact S1.out.ld R rfl P kp (by omega) n' os'
    have hcg:∀n' os',Calls P g (#[.agg (enc xj).toArray, .agg (enc xp).toArray]++cb) (grow (redrawn wr n') os') λe w'=>e= .returned (.bool (r xj xp))/\∃q os'',w'=grow (redrawn (grow (redrawn wr n') os') q) os'':=λn' os'=>HC.out d _ rfl (S1.out.grown n' os') xj xp;cases hr:r xj xp with
    |true=>
     rw[hr]at hcg
     go_wp2_with fail
     refine wp_region_quiet_below (by assumption) (by kernel_rfl) ?_
     repeat (quiet_step (first|(go_at_fn g;refine k9 (hcg _ _))))
     refine wpQuiet_nil ?_;intro _ hw';obtain⟨⟨nq,osq⟩,hw''⟩:=hw';subst hw'';have S2:Aside (vc enc k w blk off d (grow (redrawn wr nq) osq)):=S1.out.grown nq osq;have I0:Aside (uw r d (kp+1+1) (kp+1) d):=uw.start A1.out (by unfold Em;rw[wA,hxj,hxp,hr];simp);clear lj lp hcg;generalize grow (redrawn wr nq) osq=wq at S2 ⊢
     go_wp2
     go_loopg [5,7] d.size (λg2 s5 s7 wr=>∃(kk k2:Nat) (dk:Array α),s5= .int .i64 kk/\s7= .int .i64 k2/\1<=k2/\kp+1+k2<=d.size/\d.size-(kp+1+k2)<=g2/\Aside (vc enc k w blk off dk wr)/\Aside (uw r d (kp+1+k2) kk dk))
     case atStart=>exact⟨kp+1,1,d,rfl,rfl,zA _,by omega,by omega,S2,I0⟩
     case round=>
      obtain⟨kk,k2,dk,rfl,rfl,hk21,hle,hg2,S3,I3⟩:=hrel;have hds:=I3.out.size;have hkk:=I3.out.lt;by_cases hlt2:kp+1+k2<d.size
      ·obtain⟨kq,rfl⟩:∃kq,k2=kq+1:=⟨k2-1,by omega⟩;obtain⟨xm,hxm⟩:∃x,d[kp+1+(kq+1)]! =x:=⟨_,rfl⟩;obtain⟨xq,hxq⟩:∃x,d[kp+1+kq]! =x:=⟨_,rfl⟩;have hm:dk[kp+1+(kq+1)]! =xm:=by rw[I3.out.high _ (by omega),hxm]
       have hq:dk[kp+1+kq]! =xq:=by rw[I3.out.high _ (by omega),hxq]
       have hwq:IntKind.i64.wrap (kq:Int)=(kq:Int):=by rw[IntKind.wrap_i64];omega
       have q0:(0:Int)<=(kq:Int)+1:=by omega
       have f0:((kq:Int)+1).toNat=kq+1:=by omega
       have lm:∀n' os',Sem.run P (loadCellsFrom ⟨blk,off+(kp+1)*k+(kq+1)*k,J⟩ 0 k #[]) (grow (redrawn wr n') os')= .ok (enc xm).toArray (grow (redrawn wr n') os'):=λn' os'=>by
        have:=S3.out.ld R hds P (kp+1+(kq+1)) (by omega) n' os';rw[hm,yq (kp+1) (kq+1),<-xo]at this;exact this
       have lq:∀n' os',Sem.run P (loadCellsFrom ⟨blk,off+(kp+1)*k+kq*k,J⟩ 0 k #[]) (grow (redrawn wr n') os')= .ok (enc xq).toArray (grow (redrawn wr n') os'):=λn' os'=>by
        have:=S3.out.ld R hds P (kp+1+kq) (by omega) n' os';rw[hq,yq (kp+1) kq,<-xo]at this;exact this
       have hcg:∀n' os',Calls P g (#[.agg (enc xm).toArray, .agg (enc xq).toArray]++cb) (grow (redrawn wr n') os') λe w'=>e= .returned (.bool (r xm xq))/\∃q os'',w'=grow (redrawn (grow (redrawn wr n') os') q) os'':=λn' os'=>HC.out dk _ hds (S3.out.grown n' os') xm xq;have jl:(kq:Int)+1<((d.size-(kp+1):Nat):Int):=by omega
       have jl1:(kq:Int)<((d.size-(kp+1):Nat):Int):=by omega
       cases hr2:r xm xq with
       |true=>
        rw[hr2]at hcg
        go_wp2_with fail
        refine wp_region_quiet_below (by assumption) (by kernel_rfl) ?_
        repeat (quiet_step (first|(go_at_fn g;refine k9 (hcg _ _))))
        refine wpQuiet_nil ?_;intro _ hw';obtain⟨⟨nq,osq⟩,hw''⟩:=hw';subst hw''
        go_wp2
        go_roundg (d.size-(kp+1+(kq+1+1)))
        case measure=>omega
        case rel=>exact⟨kk,kq+1+1,dk,rfl,by go_num,by omega,by omega,zA _,S3.out.grown nq osq,I3.out.skip (by unfold Em;rw[show kp+1+(kq+1)-1=kp+1+kq by omega,hxm,hxq,hr2];simp)⟩
       |false=>
        rw[hr2]at hcg
        go_wp2_with fail
        refine wp_region_quiet_below (by assumption) (by kernel_rfl) ?_
        repeat (quiet_step (first|(go_at_fn g;refine k9 (hcg _ _))))
        refine wpQuiet_nil ?_;intro _ hw';obtain⟨⟨nq,osq⟩,hw''⟩:=hw';subst hw'';have lm3:=lm nq osq;have S4:Aside (vc enc k w blk off dk (grow (redrawn wr nq) osq)):=S3.out.grown nq osq;have st:=aeO S4.out R hds P kk (by omega) xm;have S5:Aside (vc enc k w blk off (dk.setIfInBounds kk xm) ((grow (redrawn wr nq) osq).setCells blk (off+kk*k) (enc xm))):=LX S4.out R.hk R.hblk kk (by omega) xm;have hlm:yz (enc xm)=k:=R.hk xm;have I4:Aside (uw r d (kp+1+(kq+1)+1) (kk+1) (dk.setIfInBounds kk xm)):=by
         have:=I3.out.keep hlt2 (by unfold Em;rw[show kp+1+(kq+1)-1=kp+1+kq by omega,hxm,hxq,hr2];simp)
         rwa [hxm]at this
        have kz:(kk:Int)<(d.size:Int):=by omega
        have kz0:(0:Int)<=(kk:Int):=by omega
        clear lm lq hcg;generalize grow (redrawn wr nq) osq=wq3 at lm3 S4 st S5 ⊢;generalize enc xm=cm at lm3 st S5 hlm
        go_wp2
        go_roundg (d.size-(kp+1+(kq+1+1)))
        case measure=>omega
        case rel=>exact⟨kk+1,kq+1+1,dk.setIfInBounds kk xm,by go_num,by go_num,by omega,by omega,zA _,S5,I4⟩
      ·have hend:kp+1+k2=d.size:=by omega
       have hcl:=λty=>HCL.out wr dk kk S3.out hds (by omega) ty;have kz:(kk:Int)<=(d.size:Int):=by omega
       have kz1:(kk:Int)<=(cap:Int):=by omega
       go_wp2
       go_ret
       have hI:=I3.out;rw[hend]at hI;exact⟨by rw[hI.len];rfl,dk,wr,S3.out,hds,λj hj=>hI.low j (by rw[<-hI.len];exact hj), .inr (by rw[hI.len])⟩
    |false=>
     rw[hr]at hcg
     go_wp2_with fail
     refine wp_region_quiet_below (by assumption) (by kernel_rfl) ?_
     repeat (quiet_step (first|(go_at_fn g;refine k9 (hcg _ _))))
     refine wpQuiet_nil ?_;intro _ hw';obtain⟨⟨nq,osq⟩,hw''⟩:=hw';subst hw''
     go_wp2
     go_roundg (d.size-(kp+1+1))
     case measure=>omega
     case rel=>
      refine⟨kp+1+1,by go_num,by omega,by omega,zA _,S1.out.grown nq osq,λj hj=> ?_⟩;by_cases e:j=kp+1
      ·subst e;unfold Em;rw[wA,hxj,hxp,hr];simp
      ·exact A1.out j (by omega)
   ·have:k1=d.size:=by omega
    subst this
    go_wp2
    go_ret
    obtain⟨e1,e2⟩:=HS.out _ S1.out A1.out;exact⟨by rw[e1];rfl,e2⟩
set_option maxHeartbeats 1000000 in
def Eu(FG:wR.funcs[89]? =Q f89)(p:af Addr)(cap:Nat)(fv:Value)(w:World):
  Calls wR 89 #[.slice p 0 cap,fv] w λe w'=>e= .returned (.slice p 0 cap)/\w'=w:=by
 go_enter FG,Tryz.ntmps89
 go_wp2
 go_ret
 exact⟨rfl,rfl⟩
end Go.Proofs.YtghilkcphindjaaGreat
end
noncomputable section
set_option maxRecDepth 100000
namespace Go.Proofs.YtghilkcphindjaaGreat
open Go Go.Iv
open Go.IntKind (i64 u64)
def akF:aI:=cw
def aaS:ak wR akF:=aQ
abbrev apE:=Bool
def d273:Td 0 apE:= .c [] [2] (.r 0 0 (ec 2 qb en) sn (λz=>z.1.1) (λx=>((x,()),(()))))
def atr:=(aW ln)
def ajk:An:= .no
def asu:bx wR (akF) 0 300 273 (ajk):=aD (l:=[]) func273 (aq (by kernel_rfl)) (by kernel_rfl) aC
def CB(a0:Int):apE:=
 bif Z (a0=a0)then V else O
def aCs(a0:Int):aO wR (akF) 300 (ajk) 273 (atr.c (a0,())) [] 0 d273.rd=Q (CB a0):=by
 refine Eq.trans (b:=(
  Q (bif Z (a0=a0)then V else O):af apE)) (by kernel_rfl) ?_
 simp only[CB,bV,cv]
def atH:=eL wR 273 V atr d273 (λg=>Q (CB g.1))
def adD{F:aI}(h:ak wR F):ak wR (atH F):=bA (sc:=dM) aX (bq aaS asu (λ_=>by kernel_rfl) (λ_=>by kernel_rfl) λg=>aCs g.1) ⟨_,func273,by kernel_rfl,by kernel_rfl⟩ (λ_=>by kernel_rfl) (λ_=>by kernel_rfl) h
def apU:aI:=(atH cw)
def ab8:ak wR apU:=(adD aQ)
abbrev amp:=Int
def d223:Td 0 amp:= .c [] [4] (.r 0 0 (ec 4 aL en) sn (λz=>z.1.1) (λx=>((x,()),(()))))
def aum:=(aW (aW ln))
def ahV:An:= .no
def aqw:bx wR (apU) 0 300 223 (ahV):=aD (l:=[]) func223 (aq (by kernel_rfl)) (by kernel_rfl) aC
def CH(a0:Int)(a1:Int):amp:=
 bif CB a0 then bif CB a1 then 0 else-1 else bif CB a1 then 1 else bif Z (a0<a1)then-1 else bif Z (a1<a0)then 1 else 0
def aDi(a0:Int)(a1:Int):aO wR (apU) 300 (ahV) 223 (aum.c (a0,a1,())) [] 0 d223.rd=Q (CH a0 a1):=by
 refine Eq.trans (b:=(
  bif CB a0 then bif CB a1 then Q (0)else Q (-1)else bif CB a1 then Q (1)else bif Z (a0<a1)then Q (-1)else bif Z (a1<a0)then Q (1)else Q (0):af amp)) (by kernel_rfl) ?_
 simp only[CH,bV,cv]
def ayF:=eL wR 223 V aum d223 (λg=>Q (CH g.1 g.2.1))
def acK{F:aI}(h:ak wR F):ak wR (ayF F):=bA (sc:=dM) aX (bq ab8 aqw (λ_=>by kernel_rfl) (λ_=>by kernel_rfl) λg=>aDi g.1 g.2.1) ⟨_,func223,by kernel_rfl,by kernel_rfl⟩ (λ_=>by kernel_rfl) (λ_=>by kernel_rfl) h
def afQ:aI:=(ayF cw)
def abc:ak wR afQ:=(acK aQ)
structure pQ where
 (t0 t1 t9:List Int)
 (t10 t11:Int)
def Cr:Td 0 pQ:= .c [] [0,1,9,10,11] (.r 0 0 (ec 0 (ql 3) (ec 1 (ql 3) (ec 9 (ql 3) (ec 10 aL (ec 11 aL en))))) sn (λz=>⟨z.1.1,z.1.2.1,z.1.t.1,z.1.t.2.1,z.1.q.1⟩) (λx=>((x.t0,x.t1,x.t9,x.t10,x.t11,()),(()))))
def oT(p:pQ):af (af pQ):=
 bif Z (p.t11<p.t10)then if 0<=p.t11/\p.t11<yz p.t9 then bif Z (yz p.t1<=p.t11)then Q (J)else if 0<=p.t11/\p.t11<yz p.t1 then bif bif Z (CH p.t9[zB p.t11]! p.t1[zB p.t11]! =0)then V else O then Q (J)else Q (Q (pQ.mk p.t0 p.t1 p.t9 p.t10 (i64.wrap (p.t11+1))))else J else J else Q (J)
def aoh(p:pQ):bK wR (afQ) f155.ntmps 300 (aN f155 0) .no (af pQ) (Cr.pat p) (fR Cr.rd)=oT p:=by kernel_rfl
def FR:=b6 (oT)
abbrev awO:=Int
def d155:Td 0 awO:= .c [] [4] (.r 0 0 (ec 4 aL en) sn (λz=>z.1.1) (λx=>((x,()),(()))))
def axm:=(lc (ql 3) (lc (ql 3) ln))
def aix:An:=(noTwo (.two (noTwo (Cr.lp FR .no)) .no))
def axb:bx wR (afQ) 0 300 155 (aix):=aD (l:=[(aN f155 0,(Cr.lp FR .no))]) func155 (aq (by kernel_rfl)) (by kernel_rfl) (aA ⟨Cr.ok _,bt (aoh)⟩ aC)
def S7(a0:aa Int)(a1:aa Int):af awO:=
 match FR (pQ.mk a0 a1 a0 (yz a0) 0)with|J=>J|Q r1=>bif Z (r1.t11<r1.t10)then if 0<=r1.t11/\r1.t11<yz r1.t9 then bif Z (yz r1.t1<=r1.t11)then Q 1 else if 0<=r1.t11/\r1.t11<yz r1.t1 then bif bif Z (CH r1.t9[zB r1.t11]! r1.t1[zB r1.t11]! =0)then V else O then Q (CH r1.t9[zB r1.t11]! r1.t1[zB r1.t11]!)else J else J else J else bif Z ((yz r1.t0:Int)<(yz r1.t1:Int))then Q (-1)else Q 0
def aDO(a0:aa Int)(a1:aa Int):aO wR (afQ) 300 (aix) 155 (axm.c (a0,a1,())) [] 0 d155.rd=S7 a0 a1:=by kernel_rfl
def avX:=eL wR 155 V axm d155 (λg=>S7 g.1 g.2.1)
def ad1{F:aI}(h:ak wR F):ak wR (avX F):=bA (sc:=dM) aX (bq abc axb (λ_=>by kernel_rfl) (λ_=>by kernel_rfl) λg=>aDO g.1 g.2.1) ⟨_,func155,by kernel_rfl,by kernel_rfl⟩ (λ_=>by kernel_rfl) (λ_=>by kernel_rfl) h
def F88:aI:=(avX cw)
def aoI:ak wR F88:=(ad1 aQ)
abbrev E88:=Int
def d88:Td 0 E88:= .c [] [4] (.r 0 0 (ec 4 aL en) sn (λz=>z.1.1) (λx=>((x,()),(()))))
def A88:=(lc (qg 55) (lc (qg 55) ln))
def asi:An:= .no
def aB2:bx wR (F88) 0 300 88 (asi):=aD (l:=[]) func88 (aq (by kernel_rfl)) (by kernel_rfl) aC
def m88(a0:bh)(a1:bh):af E88:=
 match S7 a0.bJ a1.bJ with|J=>J|Q r1=>bif bif Z (r1=0)then V else O then Q (r1)else bif Z (a0.cH<a1.cH)then Q (-1)else bif Z (a1.cH<a0.cH)then Q (1)else Q (0)
def c88(a0:bh)(a1:bh):aO wR (F88) 300 (asi) 88 (A88.c (a0,a1,())) [] 0 d88.rd=m88 a0 a1:=by kernel_rfl
def e88:=eL wR 88 V A88 d88 (λg=>m88 g.1 g.2.1)
def ap5{F:aI}(h:ak wR F):ak wR (e88 F):=bA (sc:=dM) aX (bq aoI aB2 (λ_=>by kernel_rfl) (λ_=>by kernel_rfl) λg=>c88 g.1 g.2.1) ⟨_,func88,by kernel_rfl,by kernel_rfl⟩ (λ_=>by kernel_rfl) (λ_=>by kernel_rfl) h
def F90:aI:=(e88 cw)
def aoQ:ak wR F90:=(ap5 aQ)
abbrev E90:=Bool
def d90:Td 0 E90:= .c [] [4] (.r 0 0 (ec 4 qb en) sn (λz=>z.1.1) (λx=>((x,()),(()))))
def A90:=(lc (qg 55) (lc (qg 55) ln))
def arz:An:= .no
def aAg:bx wR (F90) 0 300 90 (arz):=aD (l:=[]) func90 (aq (by kernel_rfl)) (by kernel_rfl) aC
def m90(a0:bh)(a1:bh):af E90:=
 match m88 a0 a1 with|J=>J|Q r1=>Q (Z (r1=0))
def c90(a0:bh)(a1:bh):aO wR (F90) 300 (arz) 90 (A90.c (a0,a1,())) [] 0 d90.rd=m90 a0 a1:=by kernel_rfl
def e90:=eL wR 90 V A90 d90 (λg=>m90 g.1 g.2.1)
def alb{F:aI}(h:ak wR F):ak wR (e90 F):=bA (sc:=dM) aX (bq aoQ aAg (λ_=>by kernel_rfl) (λ_=>by kernel_rfl) λg=>c90 g.1 g.2.1) ⟨_,func90,by kernel_rfl,by kernel_rfl⟩ (λ_=>by kernel_rfl) (λ_=>by kernel_rfl) h
def KC:aa Int->aa Int->Int
 |[],[]=>0
 |[],_::_=> -1
 |_::_,[]=>1
 |x::a,y::b=>if x<y then-1 else if y<x then 1 else KC a b
def EZ(x y:bh):Int:=if KC x.bJ y.bJ≠0 then KC x.bJ y.bJ else if x.cH<y.cH then-1 else if y.cH<x.cH then 1 else 0
def aa7(x y:Int):CH x y=if x<y then-1 else if y<x then 1 else 0:=by
 unfold CH CB;simp only[fO,dh,cL];by_cases h:x<y
 ·simp[h]
 ·by_cases k:y<x<;>simp[h,k]
def Vu(a b:aa Int)(ha:yz a<=9223372036854775807\/b.length<=9223372036854775807):S7 a b=Q (KC a b):=by
 obtain⟨step,hs⟩:∃step:Nat->Unit->Int->Unit ⊕ Int,step=λi _ x=>if yz b<=i then .inr 1 else if CH x b[i]!≠0 then .inr (CH x b[i]!)else .inl ():=⟨_,rfl⟩
 obtain⟨fin,hf⟩:∃fin:Unit->af Int,fin=λ_=>Q (if yz a<yz b then-1 else 0):=⟨_,rfl⟩;obtain⟨i,v,e1,-,hI⟩:=M5 (rnd:=oT) a (λi (_:Unit)=>⟨a,b,a,(yz a:Int),(i:Int)⟩) step Q fin (λ_ _=>True) (λi v hi _=>by
  have i1:(i:Int)<(yz a:Int):=by omega
  have i2:(0:Int)<=(i:Int):=by omega
  rw[hs];refine⟨λb' h=>⟨?_,trivial⟩,λr h=> ?_⟩<;>dsimp only at h
  ·split at h
   ·cases h
   ·split at h
    ·cases h
    ·rename_i g1 g2;have g3:¬(yz b:Int)<=(i:Int):=by omega
     have g4:(i:Int)<(yz b:Int):=by omega
     have hw:i64.wrap ((i:Int)+1)=((i+1:Nat):Int):=by rw[aJ (by omega) (by omega)];omega
     unfold oT;simp only[zi,i1,i2,g3,g4,fO,jk,dh,cL,gd,dU,hw,Decidable.not_not.1 g2]
  ·split at h
   ·rename_i g1;have g3:(yz b:Int)<=(i:Int):=by omega
    unfold oT;simp only[zi,i1,i2,g3,fO,dh,gd,dU]
   ·split at h
    ·rename_i g1 g2;have g3:¬(yz b:Int)<=(i:Int):=by omega
     have g4:(i:Int)<(yz b:Int):=by omega
     unfold oT;simp only[zi,i1,i2,g3,g4,fO,jk,dh,cL,gd,dU,g2]
    ·cases h) (λv _=>by unfold oT;simp) (b:=()) trivial
 have e1':FR ⟨a,b,a,(yz a:Int),0⟩=Q ⟨a,b,a,(yz a:Int),(i:Int)⟩:=e1;have key:∀(l:aa Int) (k:Nat),k<=yz b->yz a=k+yz l->Kc step Q fin l k ()=Q (KC l (b.drop k)):=by
  intro l;induction l with
  |nil=>
   intro k hk hl;simp only[Kc,hf];simp only[xC,yO]at hl;by_cases h:k=yz b
   ·rw[h,List.drop_length,bT (by omega)];rfl
   ·rw[y7 (by omega),bS (by omega)];rfl
  |cons x l ih=>
   intro k hk hl;simp only[yo]at hl;by_cases h:k=yz b
   ·rw[lJ (r:=1) (by rw[hs];simp[h]),h,List.drop_length];rfl
   ·have hk':k<yz b:=by omega
    rw[y7 hk'];have e:=aa7 x b[k]!;have eb:b[k]! =b[k]:=getElem!_pos b k hk';rw[eb]at e;unfold KC;by_cases h1:x<b[k]
    ·rw[lJ (r:= -1) (by rw[hs];simp[show ¬b.length<=k by omega,e,eb,h1]),bS h1]
    ·by_cases h2:b[k]<x
     ·rw[lJ (r:=1) (by rw[hs];simp[show ¬b.length<=k by omega,e,eb,h1,h2]),bT h1,bS h2]
     ·rw[nG (b':=()) (by rw[hs];simp[show ¬b.length<=k by omega,e,eb,h1,h2]),bT h1,bT h2];exact ih (k+1) (by omega) (by omega)
 have hk:=key a 0 (by omega) (by omega);rw[List.drop_zero]at hk;rw[<-hk];unfold S7;simp only[e1'];rcases hI with ⟨rfl,hg⟩|⟨hi,r,hr,hg⟩
 ·rw[hg,hf];simp only[zJ,jk,cL];by_cases h:yz a<yz b
  ·rw[bS h,iN (by omega:(yz a:Int)<(yz b:Int))];rfl
  ·rw[bT h,dw (by omega:¬(yz a:Int)<(yz b:Int))];rfl
 ·rw[hg];have i1:(i:Int)<(yz a:Int):=by omega
  have i2:(0:Int)<=(i:Int):=by omega
  rw[hs]at hr;simp only at hr;split at hr
  ·rename_i g1;have g3:(yz b:Int)<=(i:Int):=by omega
   simp only[zi,i1,i2,g3,fO,dh,gd,dU];cases hr;rfl
  ·split at hr
   ·rename_i g1 g2;have g3:¬(yz b:Int)<=(i:Int):=by omega
    have g4:(i:Int)<(yz b:Int):=by omega
    simp only[zi,i1,i2,g3,g4,fO,jk,dh,cL,gd,dU,g2];cases hr;rfl
   ·cases hr
def aeN(a b:bh)(ha:yz a.bJ<=9223372036854775807\/b.bJ.length<=9223372036854775807):m88 a b=Q (EZ a b):=by
 unfold m88 EZ;rw[Vu _ _ ha];dsimp only;by_cases h:KC a.bJ b.bJ=0
 ·by_cases h1:a.cH<b.cH
  ·simp[h,h1]
  ·by_cases h2:b.cH<a.cH<;>simp[h,h1,h2]
 ·simp[h]
def ak8(a b:bh)(ha:yz a.bJ<=9223372036854775807):m88 a b=Q (EZ a b):=aeN a b (.inl ha)
def wU:bh->aa bh->aa bh
 |_,[]=>[]
 |p,y::l=>if EZ y p=0 then wU y l else y::wU y l
def JC:aa bh->aa bh
 |[]=>[]
 |x::l=>x::wU x l
end Go.Proofs.YtghilkcphindjaaGreat
end
noncomputable section
set_option maxRecDepth 100000
namespace Go.Proofs.YtghilkcphindjaaGreat
open Go Go.Iv Go.Sort Go.Proofs
abbrev Ob(A:Nat->Prop)(w:World):={p:bh×aa Value//p.2.length=2/\bn A w (uni.cells 55 p.1) p.2}
section
variable {A:Nat->Prop} {w:World}
def ahQ{o:bh}{us:aa Value}(h:yz us=2/\bn A w (uni.cells 55 o) us):∃u v,us=[u,v]/\Rel A w (.sl 3 o.bJ) u/\v= .int .i64 o.cH:=by
 obtain⟨h1,h2⟩:=h
 match us,h1 with
 |[u,v],_=>exact⟨u,v,rfl,h2.2 0 _ _ rfl rfl,(h2.2 1 (.lit (.int .i64 o.cH)) v rfl rfl).bI⟩
def VI{o:bh}{u:Value}(h:Rel A w (.sl 3 o.bJ) u):bn A w (uni.cells 55 o) [u, .int .i64 o.cH]:=
 ⟨rfl,λj a v h1 h2=>by
  match j with
  |0=>cases h1;cases h2;exact h
  |1=>cases h1;cases h2;exact .lit _
  |j+2=>cases h1⟩
def ayC:Rel A w (.sl 3 ([]:aa Int)) (.slice none 0 0):=Rel.sl (U:=uni) 3 [] none 0 (λ_ _=> .int .i64 0) (yy _) (zA _) (λi hi=>by cases hi) (λi hi=>by cases hi) (λi j a hi=>by cases hi)
instance:Inhabited (Ob A w):=⟨⟨(⟨[],0⟩,[.slice J 0 0, .int .i64 0]),rfl,VI ayC⟩⟩
def nP(x:Ob A w):aa Value:=x.1.2
def uT(x:Ob A w):yz (nP x)=2:=x.2.1
def acw(x:Ob A w):∀v∈nP x,v.oneCell'=O:=λv hv=>by
 obtain⟨u,t,h1,h2,h3⟩:=ahQ x.2;unfold nP at hv;rw[h1]at hv;rcases zu.1 hv with rfl|hv
 ·cases h2;rfl
 ·rw[zC.1 hv,h3];rfl
def au3(x:Ob A w):yz x.1.1.bJ<=9223372036854775807:=by
 obtain⟨u,t,h1,h2,h3⟩:=ahQ x.2;generalize x.1.1.bJ=l at h2;cases h2 with
 |sl t l p cap u hl hcap hz hc hr=>exact hl
def QO{α:Type}[Inhabited α](enc:α->aa Value)(d:Array α){us:aa Value}(h1:yz us=d.size*2)(h:∀i,i<d.size->enc d[i]! =(us.drop (i*2)).take 2):flatK enc 2 d=us.toArray:=by
 refine ext_get! (by simp[h1]) λt ht=> ?_;have ht:t<d.size*2:=by simpa using ht
 rw[get_flatK _ _ _ _ ht,h _ (by omega)];have e:(us.toArray:Array Value)[t]! =us[t]! :=by simp
 rw[e,getElem!_pos us t (by omega),getElem!_pos _ _ (by simp;omega),xW,List.getElem_drop]
 congr 1
 omega
def PT{α:Type}[Inhabited α]{enc:α->aa Value}{d:Array α}{W:World}{g:Nat}{cur:Array Value}{T:TypeId}{us:aa Value}(hb:W.heap[g]? =Q (.cells cur T (0,0)))(hf:flatK enc 2 d=us.toArray)(hc:cur.toList.take us.length=us):HoldsK enc 2 W g 0 d:=by
 unfold HoldsK;rw[hf];intro j hj;have hj':j<yz us:=by simpa using hj
 refine⟨?_,by simp[World.frozen?,hb]⟩;have h1:(cur.toList.take (yz us))[j]? =us[j]? :=by rw[hc]
 rw[xR hj']at h1;simp only[World.cell?,hb,ya];simp only[ye,xg,jP];rw[<-xb,h1];simp[hj']
def Aj{α:Type}[Inhabited α]{enc:α->aa Value}{W:World}{g m:Nat}{dk:Array α}{os:Array Obj}{cur:Array Value}{T:TypeId}(hb:W.heap[g]? =Q (.cells cur T (0,0))):
  (sortWorldK enc 2 W g 0 m dk os).heap[g]? =Q (.cells (putCells id 0 (flatK enc 2 dk) cur) T (0,0)):=by
 have hg:g<W.heap.size:=(ym.1 hb).1;unfold sortWorldK putRowK;rw[heap_grow_old _ _ (by simpa using hg)];simp[putRow,mapBlock,Sort.ahead,xz,hb,onCells]
def tZ{α:Type}[Inhabited α]{enc:α->aa Value}{W:World}{g m:Nat}{dk:Array α}{os:Array Obj}{b:Nat}(hb:b<W.heap.size)(hne:b≠g):
  (sortWorldK enc 2 W g 0 m dk os).heap[b]? =W.heap[b]? :=by
 unfold sortWorldK putRowK;rw[heap_grow_old _ _ (by simpa using hb)];simp[putRow,mapBlock,Sort.ahead,xz,Ne.symm hne]
def LF{α:Type}[Inhabited α]{enc:α->aa Value}{W:World}{g m:Nat}{dk:Array α}{os:Array Obj}:W.heap.size<=(sortWorldK enc 2 W g 0 m dk os).heap.size:=size_sortWorldK_c enc 2 W g 0 m dk os
def R5{α:Type}[Inhabited α]{enc:α->aa Value}{W:World}{g m:Nat}{dk:Array α}{os:Array Obj}:Kp [g] W (sortWorldK enc 2 W g 0 m dk os):=
 ⟨rfl,rfl,rfl,LF,λk hk hn=>tZ hk (by simpa using hn)⟩
def VH{F cur:Array Value}(h:F.size<=cur.size):(putCells id 0 F cur).toList.take F.size=F.toList:=by
 apply List.ext_getElem?;intro j;by_cases hj:j<F.size
 ·rw[xR hj,xb];simp[putCells,hj,show j<cur.size by omega]
 ·rw[wP (by omega),xw (by simp;omega)]
def YS{W W':World}(h:Kp [] W W'):∃q os,W'=grow (redrawn W q) os:=by
 obtain⟨p,hp⟩:=regrown_of_below h.below;exact⟨p.d,p.os,hp⟩
def aA9(a b:bh)(h:yz a.bJ<=9223372036854775807):Iv.Fn wR 90 [.agg (uni.cells 55 a), .agg (uni.cells 55 b)] [] (λx s=>x= .b (Z (EZ a b=0))/\s=[]):=
 (SM (F:=e90 cw) (alb aQ).ok P0.b rfl (gm (by kernel_rfl)) ((show e90 cw Bool 90 [.agg (uni.cells 55 a), .agg (uni.cells 55 b)] [] 0 (UJ RM)=(match m90 a b with|J=>J|Q r=>Q r)from by kernel_rfl).trans (by unfold m90;rw[ak8 a b h]))).2
def aaI{f:Nat}{x y:Ob A w}{r:Value}(hf:Iv.Fn wR f [.agg (uni.cells 55 x.1.1), .agg (uni.cells 55 y.1.1)] [] (λa s=>a= .lit r/\s=[])){W:World}(hW:∀b,b<w.heap.size->A b->W.heap[b]? =w.heap[b]?):
  Calls wR f #[.agg (nP x).toArray, .agg (nP y).toArray] W λe w'=>e= .returned r/\∃q os',w'=grow (redrawn W q) os':=by
 have hr:∀z:Ob A w,bn A W (uni.cells 55 z.1.1) (nP z):=λz=>z.2.2.mono λb hb hA=>⟨hA,hW b hb hA⟩;refine(hf W A [.agg (nP x).toArray, .agg (nP y).toArray] ⟨rfl,λj a v h1 h2=> ?_⟩ ⟨λr hr=>(by cases hr),λb hb=>(by cases hb)⟩ yY).mono λe w' ⟨v,av,σ',he,⟨h1,h2⟩,ht,hv⟩=> ?_
 ·match j with
  |0=>cases h1;cases h2;exact .agg _ _ (hr x).1 (hr x).2
  |1=>cases h1;cases h2;exact .agg _ _ (hr y).1 (hr y).2
  |j+2=>cases h1
 ·rw[h1]at hv;exact⟨by rw[he,hv.bI],YS ht.kp⟩
end
def ayY{A:Nat->Prop}{w:World}{l:aa bh}{us:aa Value}(h1:yz us=yz l*2)(h3:∀i,i<yz l->bn A w (uni.cells 55 l[i]!) ((us.drop (i*2)).take 2)):
  ∃d:Array (Ob A w),d.size=yz l/\(d.toList.map λx=>x.1.1)=l/\flatK nP 2 d=us.toArray:=by
 have hx:∀i:Fin (yz l),yz ((us.drop (i.1*2)).take 2)=2/\bn A w (uni.cells 55 l[i]) ((us.drop (i.1*2)).take 2):=λi=>by
  have hi:=i.2;refine⟨by rw[zM,yc];omega,?_⟩;have:=h3 i.1 hi
  rwa [getElem!_pos l i.1 hi]at this
 refine⟨Array.ofFn λi:Fin l.length=>(⟨(l[i],(us.drop (i.1*2)).take 2),hx i⟩:Ob A w),by simp,?_,QO _ _ (by simpa using h1) λi hi=> ?_⟩
 ·apply wE (by simp);intro i q1 q2;simp
 ·have hi':i<yz l:=by simpa using hi
  rw[getElem!_pos _ i hi];simp[nP]
def anP{A:Nat->Prop}{w:World}(d:Array (Ob A w))(l:aa bh)(h:(d.toList.map λx=>x.1.1)=l):yz (flatK nP 2 d).toList=yz l*2/\∀i,i<yz l->bn A w (uni.cells 55 l[i]!) (((flatK nP 2 d).toList.drop (i*2)).take 2):=by
 have hs:d.size=yz l:=by rw[<-h];simp
 refine⟨by simp[hs],λi hi=> ?_⟩;have e:(((flatK nP 2 d).toList.drop (i*2)).take 2)=nP d[i]! :=by
  apply wE
  ·rw[uT,zM,yc];simp[hs];omega
  ·intro j q1 q2;rw[uT]at q2;rw[xW,List.getElem_drop,Array.getElem_toList];have:=get_flatK nP 2 d (i*2+j) (by omega);rw[getElem!_pos _ _ (by simp;omega)]at this;rw[this,show (i*2+j)/2=i by omega,show (i*2+j)%2=j by omega,getElem!_pos _ j (by rw[uT];exact q2)]
 rw[e];have e2:l[i]! =d[i]!.1.1:=by
  subst h;rw[getElem!_pos _ i hi,getElem!_pos d i (by omega)];simp
 rw[e2];exact d[i]!.2.2
abbrev E89:=aa bh
def d89:Td 1 E89:= .c [] [4] (.r 1 2 (ec 4 (qo 1) en) (sr 1 55 sn) (λz=>z.2.1) (λx=>(((),()),(x,()))))
def A89:=(lc (qo 0) (lc (qf 90 ln) ln))
def B89:=(sr 0 55 sn)
def m89(b0:aa bh):af E89:=if yz b0<=1073741824 then Q (JC b0)else J
def auG:Prop:=HY wR 89 1 A89 B89 d89 (λg=>m89 g.2.1)
def e89:aI->aI:=eY wR 89 1 A89 B89 d89 (λg=>m89 g.2.1)
def abR(hv:auG){F:aI}(h:ak wR F):ak wR (e89 F):=dG hv ⟨_,func89,by kernel_rfl,by kernel_rfl⟩ (λ_=>by kernel_rfl) h
def oh{g:Nat}{T:TypeId}:∀(vs:aa Value) (o:Nat) (W:World) (cur:Array Value),W.heap[g]? =Q (.cells cur T (0,0))->(W.setCells g o vs).heap[g]? =Q (.cells (setMany cur o vs) T (0,0))
 |[],_,_,_,h=>h
 |v::vs,o,W,cur,h=>by
  rw[World.setCells,setMany];refine oh vs (o+1) _ _ ?_;rw[setCell_eq];simp[mapBlock,xz,h,onCells]
def uj{g:Nat}:∀(vs:aa Value) (o:Nat) (W:World),Kp [g] W (W.setCells g o vs)
 |[],_,W=>Kp.refl _ W
 |v::vs,o,W=>by
  rw[World.setCells];refine Kp.trans (w1:=W.setCell ⟨g,o,J⟩ v) (X:=[g]) (Y:=[g]) ?_ (uj vs (o+1) _) (λb hb _=>hb);rw[setCell_eq];refine⟨rfl,rfl,rfl,by simp[mapBlock],λk hk hX=> ?_⟩;have:g≠k:=λe=>hX (by simp[e]);simp[mapBlock,xz,this]
def DJ(x:bh):∀(l:aa bh) (p:bh),wU p (l++[x])=wU p l++if EZ x (l.getLastD p)=0 then[]else[x]
 |[],p=>by
  by_cases h:EZ x p=0<;>simp[wU,h]
 |y::l,p=>by
  simp only[yZ,wU];rw[DJ x l y];have e:(y::l).getLastD p=l.getLastD y:=by cases l<;>rfl
  rw[e];split<;>simp
section
variable {A:Nat->Prop} {w:World}
def eqO(x y:Ob A w):Bool:=Z (EZ x.1.1 y.1.1=0)
def NI(d:Array (Ob A w)):∀m,m<=d.size->(CI eqO d m).map (λx=>x.1.1)=JC ((d.toList.map λx=>x.1.1).take m)
 |0,_=>by simp[CI,JC]
 |m+1,hm=>by
  have ih:=NI d m (by omega);have hl:m<yz (d.toList.map λx=>x.1.1):=by simp;omega
  have eg:∀j,j<d.size->(d.toList.map λx=>x.1.1)[j]! =d[j]!.1.1:=λj hj=>by
   rw[getElem!_pos _ j (by simpa using hj),getElem!_pos d j hj];simp
  rw[iW,zK,ih,bQ hl,eg m (by omega)];by_cases h0:m=0
  ·subst h0;simp[Em,JC,wU]
  ·obtain⟨n,rfl⟩:∃n,m=n+1:=⟨m-1,by omega⟩;have hl2:n<yz (d.toList.map λx=>x.1.1):=by simp;omega
   have e2:(d.toList.map λx=>x.1.1).take (n+1)=(d.toList.map λx=>x.1.1).take n++[d[n]!.1.1]:=by rw[bQ hl2,eg n (by omega)]
   obtain⟨q,hq⟩:∃q,q=(d.toList.map λx=>x.1.1).take (n+1):=⟨_,rfl⟩;rw[<-hq];cases q with
   |nil=>rw[e2]at hq;simp at hq
   |cons a q=>
    show _=a::wU a (q++[d[n+1]!.1.1]);rw[DJ];have:q.getLastD a=d[n]!.1.1:=by
     have h1:=congrArg List.getLast? hq;rw[e2,List.getLast?_append,List.getLast?_singleton,Option.some_or,List.getLast?_cons]at h1;rw[List.getLastD_eq_getLast?];exact zG.inj h1
    rw[this];unfold Em eqO;rw[wA];by_cases hc:EZ d[n+1]!.1.1 d[n]!.1.1=0<;>simp[hc,JC]
end
def Nj:∀(l:aa bh) (p:bh),yz (wU p l)<=yz l
 |[],_=>zA _
 |y::l,p=>by
  have:=Nj l y;unfold wU;split<;>simp<;>omega
def aeC(l:aa bh):yz (JC l)<=yz l:=by
 cases l with
 |nil=>exact zA _
 |cons x l=>have:=Nj l x;simp[JC];omega
def Z9{W:World}{gb n kk:Nat}{F:Array Value}(h:W.heap[gb]? =Q (.cells F 55 (0,0)))(hs:n*2<=F.size)(hk:kk<n){c:Nat}{ty:TypeId}:
  (Builtin.clear_ #[74] ty #[.slice (Q ⟨gb,0+kk*2,J⟩) (n-kk) c]).run wR W= .ok (.tuple #[]) (W.setCells gb (0+kk*2) (Builtin.zeroCells #[.slice J 0 0, .int .i64 0] (n-kk)).toList):=by
 have hl:yz (Builtin.zeroCells #[.slice J 0 0, .int .i64 0] (n-kk)).toList=(n-kk)*2:=by simp[Builtin.zeroCells]
 have hst:=run_storeCells_cells (P:=wR) gb (0+kk*2) (Builtin.zeroCells #[.slice J 0 0, .int .i64 0] (n-kk)).toList 0 W (λj hj=>by
   rw[hl]at hj;simp only[World.cell?,h,ye,xg,jP];rw[xk (by omega)];rfl) (λj hj=>by simp[World.frozen?,h]) (λv hv=>by
   simp only[Builtin.zeroCells,Array.toList_map,zy]at hv;obtain⟨i,_,rfl⟩:=hv;have:i%(#[.slice J 0 0, .int .i64 0]:Array Value).size<2:=Nat.mod_lt _ (by decide);generalize i%(#[.slice J 0 0, .int .i64 0]:Array Value).size=q at this
   match q,this with
   |0,_=>rfl
   |1,_=>rfl)
 simp only[yO]at hst;obtain⟨m,hm⟩:∃m,n-kk=m+1:=⟨n-kk-1,by omega⟩;rw[hm]at hst ⊢;rw[ya]at hst ⊢;simp[Builtin.clear_,run_underlying underlying74,Tryz.zeroValue55,Value.cells,hst]
def arG(l b:aa bh)(hb:m89 l=Q b):Gu wR 89 [.own 0, .fn (.func 90) []] [(0, .row 55 l)] 1 (gE wR 89 1 (d89.pat b)):=by
 unfold m89 at hb;split at hb
 case isFalse=>cases hb
 rename_i hlen;have hbl:b=JC l:=(zG.inj hb).symm;intro ρ;have ho:gE wR 89 1 (d89.pat b)=⟨.own 1,[(1, .row 55 b)],2⟩:=by kernel_rfl
 show Go.Iv.Fn wR 89 [(bM.own 0).sub ρ,(bM.fn (.func 90) []).sub ρ] (aM.res ρ [(0, .row 55 l)]) _;rw[ho,cD,show (bM.fn (cA:=uni.cA) (.func 90) []).sub ρ= .fn (.func 90) []by simp[bM.sub]];intro w A vs hr hd hn;obtain⟨hr1,hr2⟩:=hr;obtain⟨v,v2,rfl⟩:∃v v2,vs=[v,v2]:=by
  match vs,hr1 with
  |[v,v2],_=>exact⟨v,v2,rfl⟩
 have hv:v=ρ.v 0:=(hr2 0 _ v rfl rfl).bI;have hv2:v2= .func (.func 90) #[] #[]:=by
  have:=hr2 1 (.fn (.func 90) []) v2 rfl rfl;cases this with
  |fn f cs us hl hrr=>rw[y8.1 hl]
 subst hv hv2;generalize hv:ρ.v 0=v at*;have hok:=hd.1 (.row v 55 l) (by show _∈[bH.row (ρ.v 0) 55 l];rw[hv];exact zC.2 rfl);obtain⟨us,h1,h2,h3⟩:=hok;have hσ:aM.res ρ [(0, .row 55 l)]=[bH.row v 55 l]:=by show [bH.row (ρ.v 0) 55 l]=_;rw[hv]
 rw[hσ]at hd hn ⊢;have fin:∀(w':World) (u:Value),fD u=fD v->(∃us',fM w' u 55 2 (yz b) us'/\∀i,i<yz b->bn A w (uni.cells 55 b[i]!) ((us'.drop (i*2)).take 2))->Kp (aY [bH.row v 55 l]) w w'->∃v_1 av σ',Ending.returned u=Ending.returned v_1/\
   (∃ρ',l6 1 ρ ρ'/\av=(bM.own (cA:=uni.cA) 1).sub ρ'/\List.Perm σ' (aM.res ρ' [(1, .row 55 b)]))/\Tr ⟨w,A,aY [bH.row v 55 l]⟩ (aY [bH.row v 55 l]) [bH.row v 55 l] w σ' w'/\Rel (al ⟨w,A,aY [bH.row v 55 l]⟩ σ') w' av v_1:=λw' u hu ⟨us',hrow,hrel⟩ hk=>by
  have hbk:aY [bH.row u 55 b]=aY [bH.row v 55 l]:=by simp only[aY,xd,bH.blk,hu]
  have hal:∀x,al ⟨w,A,aY [bH.row v 55 l]⟩ [bH.row v 55 l] x->al ⟨w,A,aY [bH.row v 55 l]⟩ [bH.row u 55 b] x:=λx h=>⟨h.1,by rw[hbk];exact h.2⟩;refine⟨u, .lit u,[bH.row u 55 b],rfl,⟨⟨λi=>if i=1 then u else ρ.v i,ρ.b⟩,λi hi=>⟨by show _=if i=1 then u else ρ.v i;rw[bT (by omega)],rfl⟩,by rw[cD];rfl,List.Perm.refl _⟩,⟨⟨hk,?_,?_,?_⟩,hk,λx _ h=>⟨hal x h,h.2⟩⟩, .lit u⟩
  ·intro r hr;rw[zC.1 hr];refine⟨us',hrow,λi _=>rfl,λi hi=>(hrel i hi).mono λx hx hA=> ?_⟩;have hnb:x∉aY [bH.row v 55 l]:=λh=>hd.2 x h hA;exact⟨⟨.inl hA,by rw[hbk];exact hnb⟩,hk.block x hx hnb⟩
  ·rw[hbk];exact hn
  ·intro x hx;rw[hbk]at hx;exact .inl hx
 obtain⟨h1l,hcase⟩:=h1;rcases hcase with ⟨p,hvp,hl0⟩|⟨gb,cap,cur,hvp,hg,q1,q2,q3,q4⟩
 ·have hl:l=[]:=y8.1 hl0;have hbn:b=[]:=by rw[hbl,hl];rfl
  subst hvp;refine(Eu func89 p 0 (.func (.func 90) #[] #[]) w).mono λe w' he=> ?_;obtain⟨rfl,rfl⟩:=he;refine fin w' _ rfl ⟨[],?_,λi hi=>by rw[hbn]at hi;cases hi⟩ (Kp.refl _ _);rw[hbn];exact⟨rfl, .inl ⟨p,rfl,rfl⟩⟩
 ·subst hvp;have hgs:gb<w.heap.size:=(ym.1 hg).1;have hAg:¬A gb:=hd.2 gb (bw.2 ⟨_,zC.2 rfl,rfl⟩);have q4:cur.toList.take (yz l*2)=us:=q4;have q3:cur.size=(cap+1)*2:=q3;have h1l:yz us=yz l*2:=h1l;have q1':yz l<=cap+1:=q1;obtain⟨d,d1,d2,d3⟩:=ayY h1l h3;have hH:HoldsK nP 2 w gb 0 d:=PT hg d3 (by rw[h1l];exact q4);have hcmp:∀(dk:Array (Ob A w)) (W:World),dk.size=d.size->vc nP 2 w gb 0 dk W->∀x y:Ob A w,Calls wR 90 (#[.agg (nP x).toArray, .agg (nP y).toArray]++#[]) W λe w'=>e= .returned (.bool (eqO x y))/\∃q os',w'=grow (redrawn W q) os':=λdk W hdk ⟨q0,n,os,hW⟩ x y=>by
   subst hW;exact aaI (aA9 x.1.1 y.1.1 (au3 x)) (λc hc hA=>tZ hc λe=>hAg (e▸hA))
  have hs:=UO (P:=wR) func89 (by kernel_rfl) underlying3 Tryz.isAgg3 Tryz.sizeOf3 Tryz.zeroValue3 underlying4 Tryz.isAgg4 Tryz.sizeOf4 Tryz.zeroValue4 underlying74 Tryz.isAgg74 Tryz.sizeOf74 Tryz.zeroValue74
   2 Tryz.isAgg55 Tryz.sizeOf55 nP eqO 90 #[] gb 0 (cap+1) d w (enters_of func90 (by kernel_rfl) rfl) hcmp ⟨uT,acw,hH,hgs⟩ (by rw[d1];omega) (by rw[d1];exact q1')
   (λkk=>(Builtin.zeroCells #[.slice J 0 0, .int .i64 0] (d.size-kk)).toList) (λW dk kk hS hdk hkk ty=>by
    obtain⟨q0,n,os,rfl⟩:=hS;exact Z9 (Aj (enc:=nP) (W:=redrawn w q0) hg) (by simp[putCells,q3];omega) hkk)
  rw[d1]at hs;refine hs.mono λe w' he=> ?_;obtain⟨rfl,dk,W,⟨q0,n,os,hW⟩,hdk,hlow,hfin⟩:=he;rw[<-d1]at hlow hfin ⊢;obtain⟨L,hL⟩:∃L,L=CI eqO d d.size:=⟨_,rfl⟩;rw[<-hL]at hlow hfin ⊢;have hLb:L.map (λx=>x.1.1)=b:=by
   rw[hL,NI d d.size (zA _),d2,d1,yp,hbl]
  have hLlen:yz L=yz b:=by rw[<-hLb,zI]
  have hbll:yz b<=yz l:=by rw[hbl];exact aeC l
  have hWg:W.heap[gb]? =Q (.cells (putCells id 0 (flatK nP 2 dk) cur) 55 (0,0)):=by rw[hW];exact Aj (W:=redrawn w q0) hg
  have hkW:Kp [gb] w W:=by
   have k1:Kp [gb] (redrawn w q0) (sortWorldK nP 2 (redrawn w q0) gb 0 n dk os):=R5;rw[hW];exact⟨k1.os,k1.tape,k1.output,k1.size,k1.block⟩
  have hFs:(flatK nP 2 dk).size=yz l*2:=by rw[size_flatK,hdk]
  obtain⟨F,hF1,hF2,hF3,hF4⟩:∃F:Array Value,w'.heap[gb]? =Q (.cells F 55 (0,0))/\F.size=(cap+1)*2/\F.toList.take (yz b*2)=(flatK nP 2 dk).toList.take (yz b*2)/\Kp [gb] w w':=by
   have ht:=VH (F:=flatK nP 2 dk) (cur:=cur) (by rw[hFs,q3];omega);have ht2:(putCells id 0 (flatK nP 2 dk) cur).toList.take (yz b*2)=(flatK nP 2 dk).toList.take (yz b*2):=by
    rw[<-ht,List.take_take,Nat.min_eq_left (by rw[hFs];omega)]
   rcases hfin with rfl|rfl
   ·exact⟨_,hWg,by simp[putCells,q3],ht2,hkW⟩
   ·refine⟨_,oh _ _ _ _ hWg,by simp[putCells,q3],?_,Kp.trans hkW (uj _ _ _) λx hx _=>hx⟩;rw[<-ht2];apply List.ext_getElem?;intro j;by_cases hj:j<yz b*2
    ·rw[xR hj,xR hj,xb,xb];have hjs:j<(putCells id 0 (flatK nP 2 dk) cur).size:=by simp[putCells,q3];omega
     have:=get_setMany ((Builtin.zeroCells #[.slice J 0 0, .int .i64 0] (d.size-L.length)).toList) (0+yz L*2) _ j hjs;rw[bT (by omega),getElem!_pos _ j (by simpa using hjs),getElem!_pos _ j hjs]at this;rw[xk (by simpa using hjs),xk hjs,this]
    ·rw[wP (by omega),wP (by omega)]
  have hdl:flatK nP 2 L.toArray=((flatK nP 2 dk).toList.take (yz b*2)).toArray:=by
   refine ext_get! (by simp[hLlen,hFs];omega) λt ht=> ?_;have ht:t<yz L*2:=by simpa using ht
   rw[get_flatK _ _ _ t (by simpa using ht)];have e1:(L.toArray)[t/2]! =dk[t/2]! :=by
    have:=hlow (t/2) (by omega);rw[getElem!_pos _ (t/2) (by simp;omega)];rw[zm (by omega)]at this;simpa using zG.inj this
   have e2:(((flatK nP 2 dk).toList.take (yz b*2)).toArray)[t]! =(flatK nP 2 dk)[t]! :=by
    rw[getElem!_pos _ t (by simp[hFs];omega),getElem!_pos _ t (by rw[hFs];omega)];simp
   rw[e1,e2,get_flatK _ _ _ t (by rw[hdk];omega)]
  obtain⟨r1,r2⟩:=anP L.toArray b (by simpa using hLb);rw[hdl]at r1 r2;refine fin w' _ rfl ⟨(flatK nP 2 dk).toList.take (yz b*2),⟨by simpa using r1, .inr ⟨gb,cap,F,by rw[hLlen],hF1,by omega,q2,hF2,hF3⟩⟩,λi hi=>by simpa using r2 i hi⟩ hF4
def aAo:auG:=λg b hb=>arG g.2.1 b hb
end Go.Proofs.YtghilkcphindjaaGreat
end
noncomputable section
set_option maxRecDepth 100000
namespace Go.Proofs.YtghilkcphindjaaGreat
open Go Go.Iv
open Go.IntKind (i64 u64)
abbrev E92:=aa Int
def d92:Td 0 E92:= .c [] [2] (.t (cq.s 2 [] 3) (.c [] [2] (.r 0 1 (ec 2 (qo 0) en) (sr 0 3 sn) (λz=>z.2.1) (λx=>(((),()),(x,()))))))
def A92:=(lc (ql 3) ln)
def m92(a0:aa Int):af E92:=if yz a0<=1073741824 then Q a0 else J
def alS:bx wR cw 0 300 92 .no:=aD (l:=[]) func92 (aq (by kernel_rfl)) (by kernel_rfl) aC
def aAw(x:Int)(xs:aa Int):aO wR cw 300 .no 92 [.sl 3 (x::xs)] [] 0 d92.rd=if([]++(x::xs)).length<=1073741824 then Q ([]++(x::xs))else J:=by kernel_rfl
def az6(c:Nat):aO wR cw 300 .no 92 [.lit (.slice J 0 c)] [] 0 d92.rd=Q []:=by kernel_rfl
def aBy(a:Addr)(c:Nat):aO wR cw 300 .no 92 [.lit (.slice (Q a) 0 c)] [] 0 d92.rd=Q []:=by kernel_rfl
def h92:HL wR 92 A92 d92 (λg=>m92 g.1):=λg r h=>by
 obtain⟨a0,_⟩:=g;have h:m92 a0=Q r:=h;cases a0 with
 |cons x xs=>exact(gL (out:=λp=>gE wR 92 0 (d92.pat p)) (p:=r) aQ alS d92.ok (λp=>by kernel_rfl) (gm (by kernel_rfl)) (fL (by kernel_rfl)) ((aAw x xs).trans (by rw[yR];exact h))).2
 |nil=>
  cases h;exact YO (λc=>(gL (out:=λp=>gE wR 92 0 (d92.pat p)) (p:=[]) aQ alS d92.ok (λp=>by kernel_rfl) (gm (by kernel_rfl)) (fL (by kernel_rfl)) (az6 c)).2) (λa c=>(gL (out:=λp=>gE wR 92 0 (d92.pat p)) (p:=[]) aQ alS d92.ok (λp=>by kernel_rfl) (gm (by kernel_rfl)) (fL (by kernel_rfl)) (aBy a c)).2)
def e92:=eL wR 92 V A92 d92 (λg=>m92 g.1)
def anL{F:aI}(h:ak wR F):ak wR (e92 F):=bA (sc:=dM) aX h92 ⟨_,func92,by kernel_rfl,by kernel_rfl⟩ (λ_=>by kernel_rfl) (λ_=>by kernel_rfl) h
def B12:aI:=aip (ahu (agF (aiG (agn (aiP (UT (Wx (abr (e89 (e92 cw))))))))))
def RP:ak wR B12:=U4 (Sf (Yb (Xx (Vz (SX (pW (rz (kU (abR aAo (anL aQ))))))))))
def t12:jr wR B12 (λf=>zh f 178||zh f 134||zh f 184||zh f 145||zh f 148||zh f 117||zh f 210||zh f 151||zh f 292||zh f 89||zh f 92) 300 60 Bool 12 [] [] 0 (UJ RM)=Q O:=by kernel_rfl
abbrev E12:=Bool
def d12:Td 0 E12:= .c [] [0] (.r 0 0 (ec 0 qb en) sn (λz=>z.1.1) (λx=>((x,()),(()))))
def A12:=ln
def m12:E12:=O
def atY:Prop:=HL wR 12 A12 d12 (λ_=>Q m12)
def e12:=eL wR 12 V A12 d12 (λ_=>Q m12)
def aaT(hv:atY){F:aI}(h:ak wR F):ak wR (e12 F):=bA (sc:=dM) aX hv ⟨_,func12,by kernel_rfl,by kernel_rfl⟩ (λ_=>by kernel_rfl) (λ_=>by kernel_rfl) h
def LA{P:Program}{f:FuncId}{xs:aa AV}{d:AV}(h:Iv.Fn P f xs [] (λa s=>a=d/\s=[]))(ha:∀ρ:Gh,xs.map (bM.sub ρ)=xs)(hd:∀ρ:Gh,d.sub ρ=d):Gu P f xs [] 0 ⟨d,[],0⟩:=λρ=>by
 rw[ha ρ];exact h.mono λa s ⟨h1,h2⟩=>⟨ρ,λ_ _=>⟨rfl,rfl⟩,by rw[h1];exact(hd ρ).symm,by rw[h2];exact List.Perm.refl _⟩
def akg:gE wR 12 0 (d12.pat m12)=⟨.b O,[],0⟩:=by kernel_rfl
def aCN:atY:=λg b hb=>by
 cases hb;rw[akg];exact LA (SM (gM (P:=wR) RP.ok RP.nat 300 60) P0.b rfl (λd hd=>by cases hd) t12).2 (λ_=>rfl) (λρ=>iB 2 (by kernel_rfl))
def F4:aI:=(e22 (e21 (e20 (e19 (TP (e16 (e15 (e13 (e12 cw)))))))))
def aqy:ak wR F4:=(aop (al3 (amt (alJ (apn (V0 (an9 (alX (aaT aCN aQ)))))))))
structure LM where
 (t4 t7:Int)
 t9:List Bool
 (t45 t46:Int)
 b0:bB
 b1:bO
def Xt:Td 0 LM:= .c [] [1,3,4,7,9,45,46] (.t (cq.s 9 [] 4) (.c [] [1,3,4,7,9,45,46] (.r 0 3 (ec 1 (qp 0 0) (ec 3 (qp 1 0) (ec 4 aL (ec 7 aL (ec 9 (qo 2) (ec 45 aL (ec 46 aL en))))))) (sb 0 26 (lg 26) (sb 1 42 (lg 42) (sr 2 4 sn))) (λz=>⟨z.1.t.1,z.1.t.2.1,z.t.2.1,z.1.q.2.1,z.1.q.t.1,z.2.1,z.t.1⟩) (λx=>(((),(),x.t4,x.t7,(),x.t45,x.t46,()),(x.b0,x.b1,x.t9,()))))))
def XZ(p:LM):af (af LM):=
 bif Z (p.t46<p.t45)then match m20 p.t46 p.t7 with|J=>J|Q r1=>match m19 p.b0 r1 with|J=>J|Q r2=>if(p.t9++[r2.snd]).length<=1073741824 then Q (Q (LM.mk p.t4 p.t7 (p.t9++[r2.snd]) p.t45 (i64.wrap (p.t46+1)) p.b0 p.b1))else J else Q (J)
def aBS(p:LM):bK wR (F4) f4.ntmps 300 (aN f4 0) .no (af LM) (Xt.pat p) (fR Xt.rd)=XZ p:=by kernel_rfl
def ZP:=b6 (XZ)
abbrev E4:=Bool
def d4:Td 0 E4:= .c [] [2] (.r 0 0 (ec 2 qb en) sn (λz=>z.1.1) (λx=>((x,()),(()))))
def A4:=(lc (qg 26) ln)
def an4:An:=(noTwo (noTwo (noTwo (noTwo (noTwo (noTwo (noTwo (noTwo (noTwo (.two (noTwo (Xt.lp ZP .no)) .no))))))))))
def fa4:bx wR (F4) 0 300 4 (an4):=aD (l:=[(aN f4 0,(Xt.lp ZP .no))]) func4 (aq (by kernel_rfl)) (by kernel_rfl) (aA ⟨Xt.ok _,bt (aBS)⟩ aC)
def m4(a0:bB):af E4:=
 bif bif m12 then V else O then Q V else match m13 a0 20 200with|J=>J|Q r3=>bif bif r3 then V else O then Q O else match m18 a0 with|J=>J|Q r4=>match m15 a0 with|J=>J|Q r5=>bif bif Z (r5=0)then V else O then Q (Z (r4.snd=r5))else match m16 a0 with|J=>J|Q r6=>bif Z (12<r6.snd.fst)then Q (Z (r4.snd=4))else bif Z (8<r6.snd.fst)then Q (Z (r4.snd=0))else if 0<=r6.snd.fst then match ZP (LM.mk r4.snd r6.snd.fst [] (qF IntKind.i64 1 r6.snd.fst) 0 a0 r4.fst)with|J=>J|Q r7=>bif Z (r7.t46<r7.t45)then match m20 r7.t46 r7.t7 with|J=>J|Q r8=>match m19 r7.b0 r8 with|J=>J|Q r9=>if(r7.t9++[r9.snd]).length<=1073741824 then J else J else bif Z (r7.t4=0)then match m22 r7.t7 r7.t9 with|J=>J|Q r10=>match m21 r7.b1 r10 with|J=>J|Q r11=>Q (r11)else Q V else J
def c4(a0:bB):aO wR (F4) 300 (an4) 4 (A4.c (a0,())) [] 0 d4.rd=m4 a0:=by kernel_rfl
def h4:HL wR 4 A4 d4 (λg=>m4 g.1):=(bq aqy fa4 (λ_=>by kernel_rfl) (λ_=>by kernel_rfl) λg=>c4 g.1)
end Go.Proofs.YtghilkcphindjaaGreat
end
noncomputable section
namespace Go.Proofs.YtghilkcphindjaaGreat
open Go Go.Iv BT
def pw2(n:Nat):((2:Int)^n)=((2^n:Nat):Int):=by simp
def Ox:∀{e:aa Bool} {i:Nat},i<yz e->(jR e/2^(yz e-1-i))%2=if e[i]! then 1 else 0
 |b::e,0,_=>by
  have h:=mj e;have hp:0<2^e.length:=yM (by omega);simp only[jR,yo,yb];rw[show yz e+1-1-0=yz e by omega];cases b
  ·simp only[xg,jP,ya];rw[Nat.div_eq_of_lt h]
  ·simp only[dU];rw[Nat.add_comm,Nat.add_div_right _ hp,Nat.div_eq_of_lt h]
 |b::e,i+1,hi=>by
  have hi':i<yz e:=by simpa using hi
  have ih:=Ox hi';simp only[jR,yo,yu];rw[show yz e+1-1-(i+1)=yz e-1-i by omega,<-ih];cases b
  ·simp
  ·simp only[dU];have e1:2^e.length=2^(yz e-1-i)*(2*2^i):=by
    rw[Nat.mul_comm 2,<-yG,<-Nat.pow_add]
    congr 1
    omega
   rw[e1,Nat.mul_add_div (yM (by omega)),Nat.add_comm,Nat.add_mul_mod_self_left]
def en:Nat->Nat->aa Bool
 |0,_=>[]
 |k+1,K=>if K<2^k then V::en k K else O::en k (K-2^k)
def Mj:∀(k K:Nat),yz (en k K)=k
 |0,_=>rfl
 |k+1,K=>by
  unfold en;split<;>simp[Mj k]
def LB:∀{k K:Nat},K<2^k->jR (en k K)=K
 |0,K,h=>by simp at h;simp[en,jR,h]
 |k+1,K,h=>by
  have h2:2^(k+1)=2*2^k:=by rw[yG];omega
  unfold en;split
  ·rename_i h1;simp[jR,LB h1]
  ·simp only[jR,dU,Mj];rw[LB (by omega)];omega
def VE:∀e:aa Bool,en (yz e) (jR e)=e
 |[]=>rfl
 |b::e=>by
  have h:=mj e;have ih:=VE e;cases b
  ·simp only[yo,jR,xg,jP,ya,en];rw[bS h,ih]
  ·simp only[yo,jR,dU,en];rw[bT (by omega),show 2^e.length+jR e-2^e.length=jR e by omega,ih]
def ao6{e:aa Bool}(hl:yz e<=12):m20 (jR e:Nat) (yz e:Nat)=Q e:=by
 have hb:=mj e;have h4:2^e.length<=4096:=zY (xh (n:=2) (by omega) hl) (by decide);obtain⟨v,q,hv⟩:=dL (rnd:=Ka) (yz e) (λi (t:aa Bool)=>⟨(jR e:Nat),t,(yz e:Int)-1-(i:Int)⟩) (λi t=>t=e.take i) (λi t hi ht=>by
  have i1:(0:Int)<=(yz e:Int)-1-(i:Int):=by omega
  have hw:IntKind.i64.wrap ((yz e:Int)-1-(i:Int)-1)=(yz e:Int)-1-((i+1:Nat):Int):=by rw[aJ (by omega) (by omega)];omega
  have hbit:Z (mS IntKind.i64 (cF IntKind.i64 ((jR e:Nat):Int) ((yz e:Int)-1-(i:Int))) 1=1)=e[i]! :=by
   rw[show (yz e:Int)-1-(i:Int)=((yz e-1-i:Nat):Int)by omega,aA5 _ (by omega),pw2];have h1:((jR e:Nat):Int)/((2^(yz e-1-i):Nat):Int)=((jR e/2^(yz e-1-i):Nat):Int):=by simp
   have h2:jR e/2^(yz e-1-i)<=jR e:=Nat.div_le_self _ _;have h3:=Ox hi;rw[h1];generalize jR e/2^(yz e-1-i)=z at*;rw[aAe (by omega) (by omega),show ((z:Int)%2)=((z%2:Nat):Int)by omega,h3];cases e[i]! <;>rfl
  have hlen:yz (t++[e[i]!])<=1073741824:=by rw[ht];simp;omega
  refine⟨e.take (i+1),?_,rfl⟩;unfold Ka;simp only[i1,fO,dh,dU,hbit,hlen,hw];rw[take_succ! hi,ht]) (λt _=>by
   have i1:¬(0:Int)<=(yz e:Int)-1-(yz e:Int):=by omega
   unfold Ka;simp only[i1,jk,cL]) (b:=[]) rfl
 rw[yX (zA _)]at hv;subst hv;have hw:IntKind.i64.wrap ((yz v:Int)-1)=(yz v:Int)-1:=aJ (by omega) (by omega);have q':OA ⟨(jR v:Nat),[],(yz v:Int)-1⟩=Q ⟨(jR v:Nat),v,(yz v:Int)-1-(yz v:Int)⟩:=by
  have:=q;simp only[Int.ofNat_zero,Int.sub_zero]at this;exact this
 have i1:¬(0:Int)<=(yz v:Int)-1-(yz v:Int):=by omega
 unfold m20;rw[hw,q'];simp only[i1,jk,cL]
def UW(d:bO)(hl:yz d.az<=1000000):m21 d d=Q O:=by
 unfold m21;simp only[fO,dh,Cj _ hl]
def aft(f:bB):m4 f=Q O:=by
 have h12:m12=O:=rfl;unfold m4;rw[h12,alv f 20 200 (by omega) (by omega) (by omega) (by omega)];by_cases hf:few f 20 200=O
 ·obtain⟨h1,h2,h3⟩:=Mg hf;have e15:=akJ f h1 h2 (by omega);obtain⟨g1,g2⟩:=aoK f hf;by_cases hc:RI f=0
  ·obtain⟨k1,k2⟩:=g2 hc;have hv:=TS hf hc;have e16:=Uo f hv;obtain⟨_,l1,l2,l3,l4,l5⟩:=Lr f hv;by_cases q1:12<(bZ f.ah).2.2
   ·obtain⟨d,TP⟩:=k1 q1;simp only[hf,TP,e15,hc,e16,q1,fO,dh,cL]
   ·obtain⟨k,hk⟩:∃k:Nat,(bZ f.ah).2.2=(k:Int):=⟨((bZ f.ah).2.2).toNat,by omega⟩;obtain⟨d,TP,hD⟩:=k2 k hk (by omega);by_cases q2:8<(bZ f.ah).2.2
    ·simp only[hf,TP,e15,hc,e16,q1,q2,fO,jk,dh,cL]
    ·have hk8:k<=8:=by omega
     have hp:2^k<=256:=zY (xh (n:=2) (by omega) hk8) (by decide);obtain⟨tb,q,ht⟩:=dL (rnd:=XZ) (2^k) (λi (t:aa Bool)=>⟨0,(k:Int),t,((2^k:Nat):Int),(i:Int),f,d⟩) (λi t=>t=(zU i).map λj=>(bZ f.ah).1.all (oM f.ah (en k j))) (λi t hi ht=>by
      have i1:(i:Int)<((2^k:Nat):Int):=by omega
      have w2:IntKind.i64.wrap ((i:Int)+1)=((i+1:Nat):Int):=by rw[aJ (by omega) (by omega)];rfl
      have hle:=Mj k i;have e20:=ao6 (e:=en k i) (by omega);rw[LB hi,hle]at e20;have e19:=alT f hv (en k i) (by omega) λt ht=>by
       have:=Dl hv t ht;rw[hk]at this;rw[hle];exact this
      have hlen:yz (t++[(bZ f.ah).1.all (oM f.ah (en k i))])<=1073741824:=by rw[ht];simp;omega
      refine⟨t++[(bZ f.ah).1.all (oM f.ah (en k i))],?_,?_⟩
      ·unfold XZ;simp only[i1,fO,dh,e20,e19,hlen,dU,w2]
      ·rw[List.range_succ,zK,<-ht];rfl) (λt _=>by unfold XZ;simp) (b:=[]) rfl
     have htl:yz tb=2^k:=by rw[ht];simp
     obtain⟨d',e22,hD'⟩:=Lt (k:=k) (by omega) htl;have hdd:d'=d:=gT.eq (hD'.congr (G:=JB f.ah (bZ f.ah).1) λe he=>by
      have hb:=mj e;rw[he]at hb;have:tb[jR e]! =(bZ f.ah).1.all (oM f.ah e):=by
       rw[ht,map_get! _ (by simpa using hb)];have hr:(zU (2^k))[jR e]! =jR e:=by
        rw[getElem!_pos (zU (2^k)) _ (by simpa using hb),List.getElem_range]
       rw[hr,<-he,VE]
      simp only[this,JB]) hD
     subst hdd;have hlen:=gT.len hD;obtain⟨s1,_,_⟩:=dV (n:=(k:Int)) (KD (k:=k) (F:=JB f.ah (bZ f.ah).1)) (by omega);have q':ZP ⟨0,(k:Int),[],((2^k:Nat):Int),0,f,d'⟩=Q ⟨0,(k:Int),tb,((2^k:Nat):Int),((2^k:Nat):Int),f,d'⟩:=q;have hsh:qF IntKind.i64 1 (k:Int)=((2^k:Nat):Int):=by rw[Xz (by omega),pw2]
     have c1:Z (12<(k:Int))=V:=dw (by omega);have c2:Z (8<(k:Int))=V:=dw (by omega);have c3:(0:Int)<=(k:Int):=by omega
     simp only[hf,TP,e15,hc,e16,hk,c1,c2,c3,hsh,q',e22,UW d' (by omega),zJ,fO,jk,dh,cL,dU]
  ·obtain⟨d,TP⟩:=g1 hc;simp only[hf,TP,e15,hc,fO,jk,dh,cL]
 ·simp only[eq_false_of_ne_true hf,dh,cL]
end Go.Proofs.YtghilkcphindjaaGreat
end
noncomputable section
namespace Go.Iv
variable [U:tQ]
open Go Go.RowKit Go.Deep Go.ChangeShapes Go.WideShapes Go.Joins
def alk{P:Program}{f:FuncId}{args:aa AV}(h:Iv.Fn P f args [] (λa s=>a= .b O/\s=[])){A:Nat->Prop}{w:World}{vs:aa Value}(hr:bn A w args vs):
  Calls P f vs.toArray w λe w'=>∃v,e= .returned v/\v= .bool O/\Below w.heap.size w w':=
 (h w A vs hr ⟨λr hr=>by simp at hr,λb hb=>by simp[aY]at hb⟩ (by simp[aY])).mono λe w' ⟨v,av,σ',h1,⟨h2,h3⟩,h4,h5⟩=>by
  subst h2;exact⟨v,h1,h5.bI,h4.kp.below⟩
abbrev tv:Nat->Prop:=λ_=>True
def kO{α:Type}{H:Type}(enc:TypeId×Value->H)(P:Program)(w:World)(t:TypeId)(c:α->aa AV)(ok:α->Prop):Prop:=
 ∀(base:Nat) (fuel:Nat) (cs:aa Value) (x:DataW H×aa MemPlace),DataW.trod enc P w base (λ_=>O) O fuel t cs=Q x->∃a,ok a/\bn tv w (c a) cs
section
variable {α:Type} {H:Type} {enc:TypeId×Value->H} {P:Program} {w:World} {t e:TypeId}
def kO.int{k:IntKind}(ht:P.underlying t=Q (.int k)):kO enc P w t (cN k) (λn=>(Lit.int k n).wf=O):=λbase fuel cs x h=>by
 obtain⟨n,rfl,_,hw⟩:=DataW.trod_int ht h;exact⟨n,hw,bn.cons (.lit _) bn.nil⟩
def kO.slice{ok:U.cA e->Prop}{sz:Nat}(ht:P.underlying t=Q (.slice e))(hc:P.cellsOf e=sz+1)(hs:U.sz e=sz+1)(he:kO enc P w e (U.cells e) ok):
  kO enc P w t (λl:aa (U.cA e)=>[.sl e l]) (λl=>yz l<=9223372036854775807/\∀a∈l,ok a):=λbase fuel cs x h=>by
 rcases open_slice ht h with ⟨rfl,_⟩|⟨a,len,cp,m,n,D,Pl,hcs,hb,hl,hm,hmm,_,hx⟩
 ·refine⟨[],⟨by simp,by simp⟩,bn.cons ?_ bn.nil⟩;exact .sl e ([]:aa (U.cA e)) J 0 (λ_ _=>default) (by simp) (by simp) (λi hi=>by simp at hi) (λi hi=>by simp at hi) (λi j a hi=>by simp at hi)
 ·subst hcs;have hmm:m=cp:=by rw[hmm];rfl
  rw[hc]at hx;have hmx:cp<=9223372036854775807:=by unfold maxLen at hm;omega
  obtain⟨CS,hCS⟩:=choose_lt (α:=aa Value×U.cA e) (p:=λi y=>w.cells? base (a.add (i*(sz+1))) (sz+1)=Q y.1/\ok y.2/\bn tv w (U.cells e y.2) y.1) (n:=len) (λi hi=>by
   obtain⟨cs',h1,h2⟩:=hx i (by omega);obtain⟨y,h3,h4⟩:=he _ _ _ _ h2;exact⟨(cs',y),h1,h3,h4⟩)
  obtain⟨l,hld⟩:∃l:aa (U.cA e),l=(zU len).map λi=>(CS i).2:=⟨_,rfl⟩;have hln:yz l=len:=by rw[hld];simp
  have hget:∀i,i<len->l[i]! =(CS i).2:=λi hi=>by
   rw[getElem!_pos l i (by omega)];simp[hld]
  refine⟨l,⟨by omega,λy hy=> ?_⟩,bn.cons ?_ bn.nil⟩
  ·rw[hld,zy]at hy;obtain⟨i,hi,rfl⟩:=hy;exact(hCS i (by simpa using hi)).2.1
  ·rw[<-hln];refine .sl e l (Q a) cp (λi j=>(CS i).1[j]!) (by omega) (by omega) (λi hi=> ?_) (λi hi=> ?_) (λi j av hi hj=> ?_)
   ·rw[hln]at hi;obtain⟨h1,_,h3⟩:=hCS i hi;obtain⟨_,h5,_⟩:=World.cells?_some h1;rw[hget i hi,<-h3.1,h5,hs]
   ·rw[hln]at hi;obtain⟨h1,_,h3⟩:=hCS i hi;obtain⟨_,h5,h6⟩:=World.cells?_some h1;have hj:∀j,j<sz+1->w.cell? ((a.add (i*(sz+1))).add j)=Q (CS i).1[j]! :=λj hj=>by
     rw[h6 j hj,getElem!_pos _ j (by omega),zm (by omega)]
    obtain⟨b,off,spot⟩:=a;have hs:spot=J:=by
     obtain⟨g1,_,_⟩:=hCS 0 (by omega);obtain⟨_,g5,g6⟩:=World.cells?_some g1;have:=World.cell?_spot (v:=(CS 0).1[0]!) (w:=w) (a:=((⟨b,off,spot⟩:Addr).add (0*(sz+1))).add 0) (by rw[g6 0 (by omega),getElem!_pos _ 0 (by omega),zm (by omega)]);simpa [Addr.add]using this
    subst hs;have hj':∀j,j<sz+1->w.cell? ⟨b,off+i*(sz+1)+j,J⟩=Q (CS i).1[j]! :=λj hlt=>by
     have:=hj j hlt;have ap:∀o i:Nat,(⟨b,o,J⟩:Addr).add i=⟨b,o+i,J⟩:=λo i=>by
      unfold Addr.add;split
      ·rename_i h0;simp only[h0,yO]
      ·rfl
     rw[ap,ap]at this;exact this
    exact⟨b,off,rfl,World.block_lt_of_cell? w _ (hj' 0 (by omega)),trivial,by rw[hs];exact hj'⟩
   ·rw[hln]at hi;rw[hget i hi]at hj;obtain⟨h1,_,h3⟩:=hCS i hi;obtain⟨v,q1,q2⟩:=h3.get hj;show Rel tv w av (CS i).1[j]!;obtain⟨q3,q4⟩:=zQ.1 q1;rw[getElem!_pos _ j q3,q4];exact q2
def kO.agg{c:α->aa AV}{ok:α->Prop}{v:Value}{cs:Array Value}{d:DataW H}{p:aa MemPlace}(he:kO enc P w t c ok)(hv:v= .agg cs)(h:DataW.Trod enc P w 0 (λ_=>O) O t v d p):∃a,ok a/\Rel tv w (.agg (c a)) v:=by
 obtain⟨fuel,hf⟩:=h;subst hv;obtain⟨l⟩:=cs;obtain⟨a,h1,h2⟩:=he _ _ _ _ hf;exact⟨a,h1,Rel.kj h2⟩
end
def Gu.law[L:sG]{P:Program}{f:FuncId}{args:aa AV}{x:Out}(h:Gu P f args [] 0 x)(hx:x=⟨.b O,[],0⟩)(ha:args.all (uF 2)=O):Iv.Fn P f args [] (λa s=>a= .b O/\s=[]):=by
 subst hx;have h1:=h ⟨λ_=>undef,λ_=>0⟩;have:args.map (bM.sub ⟨λ_=>undef,λ_=>0⟩)=args.map id:=zR λc hcm=>iB 2 (zx.1 ha c hcm);rw[this,xK]at h1;exact h1.mono λa s ⟨ρ',_,e1,e2⟩=>⟨by rw[e1];exact iB 2 rfl,List.Perm.eq_nil e2⟩
def cI{A:Nat->Prop}{w:World}{xs bs:aa AV}{us:aa Value}{n:Nat}(h:bn A w xs (us.take n))(h':bn A w bs (us.drop n)):bn A w (xs++bs) us:=by
 have:=h.app h'
 rwa [xF]at this
def FJ(B:Nat){α:Type}{H:Type}(enc:TypeId×Value->H)(P:Program)(w:World)(t:TypeId)(c:α->aa AV)(ok:α->Prop):Prop:=
 ∀(base:Nat) (fuel:Nat),fuel<B->∀(cs:aa Value) (x:DataW H×aa MemPlace),DataW.trod enc P w base (λ_=>O) O fuel t cs=Q x->∃a,ok a/\bn tv w (c a) cs
section
variable {α:Type} {H:Type} {enc:TypeId×Value->H} {P:Program} {w:World} {t e:TypeId}
def kO.ofB{c:α->aa AV}{ok:α->Prop}(h:∀B,FJ B enc P w t c ok):kO enc P w t c ok:=λbase fuel cs x hx=>h (fuel+1) base fuel (z7 _) cs x hx
def kO.str(ht:P.underlying t=Q .string):kO enc P w t (λs=>[.s s]) (λ_=>True):=λbase fuel cs x h=>by
 obtain⟨b,rfl,_⟩:=DataW.trod_string ht h;exact⟨b,trivial,bn.cons (.lit _) bn.nil⟩
def kO.any{c:α->aa AV}{ok:α->Prop}(h:kO enc P w t c ok):kO enc P w t c (λ_=>True):=λbase fuel cs x hx=>by
 obtain⟨a,_,r⟩:=h base fuel cs x hx;exact⟨a,trivial,r⟩
def FJ.slice{B:Nat}{ok:U.cA e->Prop}{sz:Nat}(ht:P.underlying t=Q (.slice e))(hc:P.cellsOf e=sz+1)(hs:U.sz e=sz+1)(he:FJ B enc P w e (U.cells e) ok):
  FJ B enc P w t (λl:aa (U.cA e)=>[.sl e l]) (λl=>yz l<=9223372036854775807/\∀a∈l,ok a):=λbase fuel hB cs x h=>by
 rcases DataW.trod_slice ht h with ⟨rfl,_⟩|⟨a,len,cp,elems,rest,n,hfu,hcs,_,hb,hl,hm,hlen,hx,_,_⟩
 ·refine⟨[],⟨by simp,by simp⟩,bn.cons ?_ bn.nil⟩;exact .sl e ([]:aa (U.cA e)) J 0 (λ_ _=>default) (by simp) (by simp) (λi hi=>by simp at hi) (λi hi=>by simp at hi) (λi j a hi=>by simp at hi)
 ·subst hcs;rw[hc]at hx;have hmx:cp<=9223372036854775807:=by unfold maxLen at hm;omega
  obtain⟨CS,hCS⟩:=choose_lt (α:=aa Value×U.cA e) (p:=λi y=>w.cells? base (a.add (i*(sz+1))) (sz+1)=Q y.1/\ok y.2/\bn tv w (U.cells e y.2) y.1) (n:=len) (λi hi=>by
   have hk:=hx i hi;rw[zm (show i<yz elems by omega)]at hk;obtain⟨cs',h1,h2⟩:=zn.1 hk;obtain⟨y,h3,h4⟩:=he _ n (by omega) _ _ h2;exact⟨(cs',y),h1,h3,h4⟩)
  obtain⟨l,hld⟩:∃l:aa (U.cA e),l=(zU len).map λi=>(CS i).2:=⟨_,rfl⟩;have hln:yz l=len:=by rw[hld];simp
  have hget:∀i,i<len->l[i]! =(CS i).2:=λi hi=>by
   rw[getElem!_pos l i (by omega)];simp[hld]
  refine⟨l,⟨by omega,λy hy=> ?_⟩,bn.cons ?_ bn.nil⟩
  ·rw[hld,zy]at hy;obtain⟨i,hi,rfl⟩:=hy;exact(hCS i (by simpa using hi)).2.1
  ·rw[<-hln];refine .sl e l (Q a) cp (λi j=>(CS i).1[j]!) (by omega) (by omega) (λi hi=> ?_) (λi hi=> ?_) (λi j av hi hj=> ?_)
   ·rw[hln]at hi;obtain⟨h1,_,h3⟩:=hCS i hi;obtain⟨_,h5,_⟩:=World.cells?_some h1;rw[hget i hi,<-h3.1,h5,hs]
   ·rw[hln]at hi;obtain⟨h1,_,h3⟩:=hCS i hi;obtain⟨_,h5,h6⟩:=World.cells?_some h1;have hj:∀j,j<sz+1->w.cell? ((a.add (i*(sz+1))).add j)=Q (CS i).1[j]! :=λj hj=>by
     rw[h6 j hj,getElem!_pos _ j (by omega),zm (by omega)]
    obtain⟨b,off,spot⟩:=a;have hs:spot=J:=by
     obtain⟨g1,_,_⟩:=hCS 0 (by omega);obtain⟨_,g5,g6⟩:=World.cells?_some g1;have:=World.cell?_spot (v:=(CS 0).1[0]!) (w:=w) (a:=((⟨b,off,spot⟩:Addr).add (0*(sz+1))).add 0) (by rw[g6 0 (by omega),getElem!_pos _ 0 (by omega),zm (by omega)]);simpa [Addr.add]using this
    subst hs;have hj':∀j,j<sz+1->w.cell? ⟨b,off+i*(sz+1)+j,J⟩=Q (CS i).1[j]! :=λj hlt=>by
     have:=hj j hlt;have ap:∀o i:Nat,(⟨b,o,J⟩:Addr).add i=⟨b,o+i,J⟩:=λo i=>by
      unfold Addr.add;split
      ·rename_i h0;simp only[h0,yO]
      ·rfl
     rw[ap,ap]at this;exact this
    exact⟨b,off,rfl,World.block_lt_of_cell? w _ (hj' 0 (by omega)),trivial,by rw[hs];exact hj'⟩
   ·rw[hln]at hi;rw[hget i hi]at hj;obtain⟨h1,_,h3⟩:=hCS i hi;obtain⟨v,q1,q2⟩:=h3.get hj;show Rel tv w av (CS i).1[j]!;obtain⟨q3,q4⟩:=zQ.1 q1;rw[getElem!_pos _ j q3,q4];exact q2
end
end Go.Iv
end
noncomputable section
set_option maxRecDepth 100000
namespace Go.Proofs.YtghilkcphindjaaGreat
open Go Go.Iv Go.RowKit Go.Deep Go.ChangeShapes Go.WideShapes Go.Joins
section
variable {H:Type} {enc:TypeId×Value->H} {w:World}
def og9:kO enc wR w 9 (λs=>[.s s]) (λ_=>True):=kO.str underlying9
def aAz:kO enc wR w 65 (cN .i64) (λ_=>True):=(kO.int underlying65).any
def YC:kO enc wR w 3 (cN .i64) (λ_=>True):=(kO.int underlying3).any
def auW:kO enc wR w 108 (uni.cells 108) (λ_=>True):=λbase fuel cs x h=>by
 obtain⟨xs,n,hfu,rfl,hl,hlen,hf⟩:=DataW.trod_struct underlying108 h;rw[show wR.cellsOf 108=5 from by kernel_rfl]at hl;have hlen:yz xs=5:=hlen;have f0:DataW.trod enc wR w base (λ_=>O) O n 9 ((cs.drop 0).take (wR.cellsOf 9))=xs[0]? :=hf 0 _ rfl;rw[show wR.cellsOf 9=1 from by kernel_rfl,zm (show 0<yz xs by omega)]at f0;obtain⟨a0,_,r0⟩:=og9 _ _ _ _ f0;have f1:DataW.trod enc wR w base (λ_=>O) O n 65 ((cs.drop 1).take (wR.cellsOf 65))=xs[1]? :=hf 1 _ rfl;rw[show wR.cellsOf 65=1 from by kernel_rfl,zm (show 1<yz xs by omega)]at f1;obtain⟨a1,_,r1⟩:=aAz _ _ _ _ f1;have f2:DataW.trod enc wR w base (λ_=>O) O n 3 ((cs.drop 2).take (wR.cellsOf 3))=xs[2]? :=hf 2 _ rfl;rw[show wR.cellsOf 3=1 from by kernel_rfl,zm (show 2<yz xs by omega)]at f2;obtain⟨a2,_,r2⟩:=YC _ _ _ _ f2;have f3:DataW.trod enc wR w base (λ_=>O) O n 3 ((cs.drop 3).take (wR.cellsOf 3))=xs[3]? :=hf 3 _ rfl;rw[show wR.cellsOf 3=1 from by kernel_rfl,zm (show 3<yz xs by omega)]at f3;obtain⟨a3,_,r3⟩:=YC _ _ _ _ f3;have f4:DataW.trod enc wR w base (λ_=>O) O n 3 ((cs.drop 4).take (wR.cellsOf 3))=xs[4]? :=hf 4 _ rfl;rw[show wR.cellsOf 3=1 from by kernel_rfl,zm (show 4<yz xs by omega)]at f4;obtain⟨a4,_,r4⟩:=YC _ _ _ _ f4;have e:bn tv w [] (cs.drop 5):=by rw[xM (by omega)];exact bn.nil
 have s4:=cI (us:=cs.drop 4) r4 (by rw[z6];exact e);have s3:=cI (us:=cs.drop 3) r3 (by rw[z6];exact s4);have s2:=cI (us:=cs.drop 2) r2 (by rw[z6];exact s3);have s1:=cI (us:=cs.drop 1) r1 (by rw[z6];exact s2);have s0:=cI (us:=cs.drop 0) r0 (by rw[z6];exact s1);exact⟨(⟨a0,a1,a2,a3,a4⟩:aT),trivial,s0⟩
def azV:kO enc wR w 22 (λl:aa (uni.cA 108)=>[.sl 108 l]) (λl=>yz l<=9223372036854775807/\∀a∈l,True):=kO.slice (e:=108) (sz:=4) underlying22 (by kernel_rfl) rfl auW
def axC:kO enc wR w 103 (cN .i64) (λ_=>True):=(kO.int underlying103).any
def UH:∀B,FJ B enc wR w 106 (uni.cells 106) (λ_=>True)
 |0=>λbase fuel hB=>gI hB (Nat.not_lt_zero _)
 |B+1=>λbase fuel hB cs x h=>by
  have ih:=UH B;obtain⟨xs,n,hfu,rfl,hl,hlen,hf⟩:=DataW.trod_struct underlying106 h;rw[show wR.cellsOf 106=3 from by kernel_rfl]at hl;have hlen:yz xs=3:=hlen;have f0:DataW.trod enc wR w base (λ_=>O) O n 103 ((cs.drop 0).take (wR.cellsOf 103))=xs[0]? :=hf 0 _ rfl;rw[show wR.cellsOf 103=1 from by kernel_rfl,zm (show 0<yz xs by omega)]at f0;obtain⟨a0,_,r0⟩:=axC _ _ _ _ f0;have f1:DataW.trod enc wR w base (λ_=>O) O n 3 ((cs.drop 1).take (wR.cellsOf 3))=xs[1]? :=hf 1 _ rfl;rw[show wR.cellsOf 3=1 from by kernel_rfl,zm (show 1<yz xs by omega)]at f1;obtain⟨a1,_,r1⟩:=YC _ _ _ _ f1;have f2:DataW.trod enc wR w base (λ_=>O) O n 104 ((cs.drop 2).take (wR.cellsOf 104))=xs[2]? :=hf 2 _ rfl;rw[show wR.cellsOf 104=1 from by kernel_rfl,zm (show 2<yz xs by omega)]at f2;obtain⟨a2,_,r2⟩:=FJ.slice (t:=104) (e:=106) (sz:=2) underlying104 (by kernel_rfl) rfl ih base n (by omega) _ _ f2;have e:bn tv w [] (cs.drop 3):=by rw[xM (by omega)];exact bn.nil
  have s2:=cI (us:=cs.drop 2) r2 (by rw[z6];exact e);have s1:=cI (us:=cs.drop 1) r1 (by rw[z6];exact s2);have s0:=cI (us:=cs.drop 0) r0 (by rw[z6];exact s1);exact⟨(⟨a0,a1,a2⟩:aj),trivial,s0⟩
def ai5:kO enc wR w 106 (uni.cells 106) (λ_=>True):=kO.ofB UH
def ayM:kO enc wR w 116 (uni.cells 116) (λ_=>True):=λbase fuel cs x h=>by
 obtain⟨xs,n,hfu,rfl,hl,hlen,hf⟩:=DataW.trod_struct underlying116 h;rw[show wR.cellsOf 116=6 from by kernel_rfl]at hl;have hlen:yz xs=4:=hlen;have f0:DataW.trod enc wR w base (λ_=>O) O n 9 ((cs.drop 0).take (wR.cellsOf 9))=xs[0]? :=hf 0 _ rfl;rw[show wR.cellsOf 9=1 from by kernel_rfl,zm (show 0<yz xs by omega)]at f0;obtain⟨a0,_,r0⟩:=og9 _ _ _ _ f0;have f1:DataW.trod enc wR w base (λ_=>O) O n 3 ((cs.drop 1).take (wR.cellsOf 3))=xs[1]? :=hf 1 _ rfl;rw[show wR.cellsOf 3=1 from by kernel_rfl,zm (show 1<yz xs by omega)]at f1;obtain⟨a1,_,r1⟩:=YC _ _ _ _ f1;have f2:DataW.trod enc wR w base (λ_=>O) O n 3 ((cs.drop 2).take (wR.cellsOf 3))=xs[2]? :=hf 2 _ rfl;rw[show wR.cellsOf 3=1 from by kernel_rfl,zm (show 2<yz xs by omega)]at f2;obtain⟨a2,_,r2⟩:=YC _ _ _ _ f2;have f3:DataW.trod enc wR w base (λ_=>O) O n 106 ((cs.drop 3).take (wR.cellsOf 106))=xs[3]? :=hf 3 _ rfl;rw[show wR.cellsOf 106=3 from by kernel_rfl,zm (show 3<yz xs by omega)]at f3;obtain⟨a3,_,r3⟩:=ai5 _ _ _ _ f3;have e:bn tv w [] (cs.drop 6):=by rw[xM (by omega)];exact bn.nil
 have s3:=cI (us:=cs.drop 3) r3 (by rw[z6];exact e);have s2:=cI (us:=cs.drop 2) r2 (by rw[z6];exact s3);have s1:=cI (us:=cs.drop 1) r1 (by rw[z6];exact s2);have s0:=cI (us:=cs.drop 0) r0 (by rw[z6];exact s1);exact⟨(⟨a0,a1,a2,a3⟩:cG),trivial,s0⟩
def aDp:kO enc wR w 23 (λl:aa (uni.cA 116)=>[.sl 116 l]) (λl=>yz l<=9223372036854775807/\∀a∈l,True):=kO.slice (e:=116) (sz:=5) underlying23 (by kernel_rfl) rfl ayM
def aw3:kO enc wR w 109 (cN .i64) (λ_=>True):=(kO.int underlying109).any
def aDb:kO enc wR w 46 (λl:aa (uni.cA 3)=>[.sl 3 l]) (λl=>yz l<=9223372036854775807/\∀a∈l,True):=kO.slice (e:=3) (sz:=0) underlying46 (by kernel_rfl) rfl YC
def XA:∀B,FJ B enc wR w 111 (uni.cells 111) (λ_=>True)
 |0=>λbase fuel hB=>gI hB (Nat.not_lt_zero _)
 |B+1=>λbase fuel hB cs x h=>by
  have ih:=XA B;obtain⟨xs,n,hfu,rfl,hl,hlen,hf⟩:=DataW.trod_struct underlying111 h;rw[show wR.cellsOf 111=10 from by kernel_rfl]at hl;have hlen:yz xs=8:=hlen;have f0:DataW.trod enc wR w base (λ_=>O) O n 109 ((cs.drop 0).take (wR.cellsOf 109))=xs[0]? :=hf 0 _ rfl;rw[show wR.cellsOf 109=1 from by kernel_rfl,zm (show 0<yz xs by omega)]at f0;obtain⟨a0,_,r0⟩:=aw3 _ _ _ _ f0;have f1:DataW.trod enc wR w base (λ_=>O) O n 3 ((cs.drop 1).take (wR.cellsOf 3))=xs[1]? :=hf 1 _ rfl;rw[show wR.cellsOf 3=1 from by kernel_rfl,zm (show 1<yz xs by omega)]at f1;obtain⟨a1,_,r1⟩:=YC _ _ _ _ f1;have f2:DataW.trod enc wR w base (λ_=>O) O n 3 ((cs.drop 2).take (wR.cellsOf 3))=xs[2]? :=hf 2 _ rfl;rw[show wR.cellsOf 3=1 from by kernel_rfl,zm (show 2<yz xs by omega)]at f2;obtain⟨a2,_,r2⟩:=YC _ _ _ _ f2;have f3:DataW.trod enc wR w base (λ_=>O) O n 3 ((cs.drop 3).take (wR.cellsOf 3))=xs[3]? :=hf 3 _ rfl;rw[show wR.cellsOf 3=1 from by kernel_rfl,zm (show 3<yz xs by omega)]at f3;obtain⟨a3,_,r3⟩:=YC _ _ _ _ f3;have f4:DataW.trod enc wR w base (λ_=>O) O n 106 ((cs.drop 4).take (wR.cellsOf 106))=xs[4]? :=hf 4 _ rfl;rw[show wR.cellsOf 106=3 from by kernel_rfl,zm (show 4<yz xs by omega)]at f4;obtain⟨a4,_,r4⟩:=ai5 _ _ _ _ f4;have f5:DataW.trod enc wR w base (λ_=>O) O n 24 ((cs.drop 7).take (wR.cellsOf 24))=xs[5]? :=hf 5 _ rfl;rw[show wR.cellsOf 24=1 from by kernel_rfl,zm (show 5<yz xs by omega)]at f5;obtain⟨a5,_,r5⟩:=FJ.slice (t:=24) (e:=111) (sz:=9) underlying24 (by kernel_rfl) rfl ih base n (by omega) _ _ f5;have f6:DataW.trod enc wR w base (λ_=>O) O n 24 ((cs.drop 8).take (wR.cellsOf 24))=xs[6]? :=hf 6 _ rfl;rw[show wR.cellsOf 24=1 from by kernel_rfl,zm (show 6<yz xs by omega)]at f6;obtain⟨a6,_,r6⟩:=FJ.slice (t:=24) (e:=111) (sz:=9) underlying24 (by kernel_rfl) rfl ih base n (by omega) _ _ f6;have f7:DataW.trod enc wR w base (λ_=>O) O n 46 ((cs.drop 9).take (wR.cellsOf 46))=xs[7]? :=hf 7 _ rfl;rw[show wR.cellsOf 46=1 from by kernel_rfl,zm (show 7<yz xs by omega)]at f7;obtain⟨a7,_,r7⟩:=aDb _ _ _ _ f7;have e:bn tv w [] (cs.drop 10):=by rw[xM (by omega)];exact bn.nil
  have s7:=cI (us:=cs.drop 9) r7 (by rw[z6];exact e);have s6:=cI (us:=cs.drop 8) r6 (by rw[z6];exact s7);have s5:=cI (us:=cs.drop 7) r5 (by rw[z6];exact s6);have s4:=cI (us:=cs.drop 4) r4 (by rw[z6];exact s5);have s3:=cI (us:=cs.drop 3) r3 (by rw[z6];exact s4);have s2:=cI (us:=cs.drop 2) r2 (by rw[z6];exact s3);have s1:=cI (us:=cs.drop 1) r1 (by rw[z6];exact s2);have s0:=cI (us:=cs.drop 0) r0 (by rw[z6];exact s1);exact⟨(⟨a0,a1,a2,a3,a4,a5,a6,a7⟩:ax),trivial,s0⟩
def auV:kO enc wR w 111 (uni.cells 111) (λ_=>True):=kO.ofB XA
def aDh:kO enc wR w 24 (λl:aa (uni.cA 111)=>[.sl 111 l]) (λl=>yz l<=9223372036854775807/\∀a∈l,True):=kO.slice (e:=111) (sz:=9) underlying24 (by kernel_rfl) rfl auV
def aCw:kO enc wR w 26 (uni.cells 26) (λ_=>True):=λbase fuel cs x h=>by
 obtain⟨xs,n,hfu,rfl,hl,hlen,hf⟩:=DataW.trod_struct underlying26 h;rw[show wR.cellsOf 26=3 from by kernel_rfl]at hl;have hlen:yz xs=3:=hlen;have f0:DataW.trod enc wR w base (λ_=>O) O n 22 ((cs.drop 0).take (wR.cellsOf 22))=xs[0]? :=hf 0 _ rfl;rw[show wR.cellsOf 22=1 from by kernel_rfl,zm (show 0<yz xs by omega)]at f0;obtain⟨a0,_,r0⟩:=azV _ _ _ _ f0;have f1:DataW.trod enc wR w base (λ_=>O) O n 23 ((cs.drop 1).take (wR.cellsOf 23))=xs[1]? :=hf 1 _ rfl;rw[show wR.cellsOf 23=1 from by kernel_rfl,zm (show 1<yz xs by omega)]at f1;obtain⟨a1,_,r1⟩:=aDp _ _ _ _ f1;have f2:DataW.trod enc wR w base (λ_=>O) O n 24 ((cs.drop 2).take (wR.cellsOf 24))=xs[2]? :=hf 2 _ rfl;rw[show wR.cellsOf 24=1 from by kernel_rfl,zm (show 2<yz xs by omega)]at f2;obtain⟨a2,_,r2⟩:=aDh _ _ _ _ f2;have e:bn tv w [] (cs.drop 3):=by rw[xM (by omega)];exact bn.nil
 have s2:=cI (us:=cs.drop 2) r2 (by rw[z6];exact e);have s1:=cI (us:=cs.drop 1) r1 (by rw[z6];exact s2);have s0:=cI (us:=cs.drop 0) r0 (by rw[z6];exact s1);exact⟨(⟨a0,a1,a2⟩:bB),trivial,s0⟩
end
end Go.Proofs.YtghilkcphindjaaGreat
end
noncomputable section
set_option maxRecDepth 100000
namespace Go.Proofs.YtghilkcphindjaaGreat
open Go Go.Iv
open Go.IntKind (i64 u64)
def aqR:gE wR 4 0 (d4.pat O)=⟨.b O,[],0⟩:=by kernel_rfl
def at0(f:bB):Iv.Fn wR 4 [.agg (uni.cells 26 f)] [] (λa s=>a= .b O/\s=[]):=(h4 (f,()) O (aft f)).law aqR (by kernel_rfl)
end Go.Proofs.YtghilkcphindjaaGreat
end
