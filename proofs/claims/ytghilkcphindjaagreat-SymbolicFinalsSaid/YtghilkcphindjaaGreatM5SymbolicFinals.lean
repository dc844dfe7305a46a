/- Merged: Qv, Qw, Qr, Qs, Sv, Sz1, Sw, Sz2, Sz3, Sx, Ve, Vf, Gt1, Gt2, Gt3, Hkc, Hkd, Zv, Zw, Zx, Zy0, Iy1, Iy2, Hl, Gl, Gt4. -/
import Derived.Test.YtghilkcphindjaaGreatM1SymbolicFinals
import Derived.Test.YtghilkcphindjaaGreatM4SymbolicFinals
import Derived.Test.YtghilkcphindjaaGreatM3SymbolicFinals
import Derived.Shelf.SlSortCmp.KitK
import Derived.Sort.WalkB12
import Derived.Deep.LoopGhost
import Derived.Lib.SliceRun
import Derived.Lib.QuietBelow
import Derived.Shelf.SlSortCmp.NoneTotal
import Derived.Shelf.Sort.Plain
import Derived.Shelf.Slices.In.SortNone
import Derived.Shelf.Slices.CompactI
import Derived.Lib.RowBridge
import Derived.Deep.Slices
import Derived.Lib.SmallJoins
open Nat renaming beq -> zg, le_refl -> zx, le_trans -> zK, lt_succ_self -> zN, zero_add -> zY, mul_one -> yb, zero_le -> yu, add_mul -> yw, add_zero -> yG, mul_le_mul_right -> yS, sub_self -> xb, add_assoc -> xD, mod_lt -> xF, lt_or_ge -> xJ, eq_zero_or_pos -> wD, mod_eq_of_lt -> wF
open Bool renaming and_eq_true -> zh, cond_decide -> zS, or_eq_true -> yO, true -> Z, false -> O
open SizeOf renaming sizeOf -> zi
open Option renaming map_eq_some_iff -> zj, bind_eq_some_iff -> zl, some -> zJ, map_some -> z8, getD_some -> yE, some -> M, none -> J
open List renaming mem_cons -> zk, mem_cons_self -> zm, all_eq_true -> zn, replicate -> zq, length_append -> zu, range -> zy, mem_singleton -> zA, mem_map -> zC, getElem?_eq_getElem -> zD, length_map -> zF, map_append -> zH, map_cons -> zI, length_take -> zL, mem_cons_of_mem -> zM, getElem?_map -> zP, mem_append -> zR, getElem?_eq_some_iff -> zU, map_congr_left -> zV, length_drop -> zX, length -> zZ, length_cons -> ya, mem_append_left -> ye, map_map -> yg, take_length -> yh, filter_append -> yj, nil_append -> yl, length_set -> yq, map_nil -> yx, getElem_map -> yy, idxOf_lt_length_of_mem -> yz, cons_append -> yB, length_eq_zero_iff -> yC, not_mem_nil -> yD, nodup_append -> yH, length_nil -> yP, getElem_mem -> yR, take_of_length_le -> yU, drop_eq_getElem_cons -> yX, length_singleton -> y8, filterMap_cons -> xd, nodup_nil -> xg, getElem_take -> xo, drop -> xx, getElem?_take_of_lt -> xA, range_succ -> xH, ext_getElem -> xI, mem_range -> xM, take_append_drop -> xT, nodup_iff_pairwise_ne -> x9, nodup_cons -> wg, drop_zero -> wh, getElem?_eq_none -> wj, getElem_drop -> wm, filter_eq_self -> wu, idxOf_append -> wB, getElem?_append_left -> wH, getElem?_append_right -> wK, filter_sublist -> wM, pairwise_iff_getElem -> wN, getElem?_take_eq_none -> w8
open Int renaming toNat_natCast -> zw, le_refl -> zG, lt_irrefl -> zO, toNat -> zQ, mul_nonneg -> yo, mul_le_mul_of_nonneg_right -> xe, le_trans -> x8
open Array renaming getElem?_eq_some_iff -> yd, length_toList -> yf, getElem?_toList -> y7, getElem?_eq_getElem -> xC, getElem?_modify -> xK
open Decidable renaming decide -> w9
open Go.Proofs.Tryz renaming prog -> va
open Go.Proofs.Tryz
set_option linter.unusedSectionVars false
set_option linter.unusedVariables false
set_option linter.unusedSimpArgs false
set_option linter.defProp false
noncomputable section
set_option maxRecDepth 100000
namespace Go.Proofs.YtghilkcphindjaaGreat
open Go Go.Iv
open Go.IntKind (i64 u64)
def eP(b:Bool):Int:=if b=Z then 1 else 0
def gC(n lo hi:Int):Int:=if n<lo then lo else if hi<n then hi else n
def jX(a b:Int):Int:=if b=0 then 0 else if a.tmod b≠0/\w9 (a<0)≠w9 (b<0)then a.tdiv b-1 else a.tdiv b
def On(a b:Int):Int:=if b=0 then 0 else a-b*jX a b
def pR(o a b:Int):Int:=
 if o=8 then a+b else if o=9 then a-b else if o=10 then a*b else if o=11 then jX a b else if o=12 then On a b
 else if o=13 then eP (w9 (a=b))else if o=14 then eP (w9 (a≠b))else if o=15 then eP (w9 (a<b))else if o=16 then eP (w9 (a<=b))
 else if o=17 then eP (w9 (b<a))else if o=18 then eP (w9 (b<=a))else if o=19 then eP (w9 (a≠0/\b≠0))else if o=20 then eP (w9 (a≠0\/b≠0))
 else if o=21 then(if a<b then a else b)else(if b<a then a else b)
def BF(vals:aa Int)(t:ay)(k:aa Int):Int:=
 if t.bA=0 then t.fN else if t.bA=24 then vals[t.fN.toNat]! else if t.bA=6 then-k[0]! else if t.bA=7 then eP (w9 (k[0]! =0))
 else if t.bA=23 then(if k[0]!≠0 then k[1]! else k[2]!)else if t.bA=25 then k[(1+gC k[0]! 0 ((zZ k:Int)-2)).toNat]! else pR t.bA k[0]! k[1]!
def cV(vals:aa Int)(t:ay):Int:=BF vals t (t.ax.attach.map λk=>cV vals k.1)
termination_by zi t
decreasing_by exact ay.eF k.2
def LL(vals:aa Int)(t:ay):cV vals t=BF vals t (t.ax.map (cV vals)):=by
 rw[cV];simp
def G3(a b:Int)(hb:b≠0):b*a.tdiv b+a.tmod b=a/\(a.tmod b).natAbs<b.natAbs/\(0<=a->0<=a.tmod b)/\(a<=0->a.tmod b<=0):=by
 refine⟨Int.mul_tdiv_add_tmod a b,?_,λh=>Int.tmod_nonneg b h,λh=> ?_⟩
 ·rw[Int.natAbs_tmod];exact xF _ aj
 ·have:=Int.tmod_nonneg b (show 0<= -a by omega);rw[Int.neg_tmod]at this;omega
def Ur(a b:Int):(a.tdiv b).natAbs<=a.natAbs:=Int.natAbs_tdiv_le_natAbs a b
def tdiv_sign{a b:Int}:(0<=a->0<=b->0<=a.tdiv b):=λh1 h2=>Int.tdiv_nonneg h1 h2
def amh(a b:Int): -(a.natAbs:Int)<=jX a b/\jX a b<=a.natAbs/\(0<=a->0<=b->0<=jX a b):=by
 unfold jX;by_cases hb:b=0
 ·omega
 rw[bP hb];have h4:=Ur a b;by_cases hc:a.tmod b≠0/\w9 (a<0)≠w9 (b<0)
 ·rw[bO hc];obtain⟨c1,c2⟩:=hc;have c3:(a<0/\0<b)\/(0<=a/\b<0):=by
   by_cases q1:a<0<;>by_cases q2:b<0<;>simp at c2<;>omega
  have h5:(a.tdiv b).natAbs<a.natAbs:=by
   rcases xJ (a.tdiv b).natAbs a.natAbs with h|h
   ·exact h
   ·exfalso;have e1:(a.tdiv b).natAbs=a.natAbs:=aj;have e2:a.natAbs=b.natAbs*(a.tdiv b).natAbs+(a.tmod b).natAbs:=by
     rw[Int.natAbs_tdiv,Int.natAbs_tmod];exact(Nat.div_add_mod _ _).symm
    rw[e1]at e2;have:b.natAbs*a.natAbs≥1*a.natAbs:=yS _ aj;omega
  omega
 ·rw[bP hc];refine⟨aj,aj,λq1 q2=>tdiv_sign q1 q2⟩
def aip(a b:Int):(if b<0 then b+1 else 0)<=On a b/\On a b<=(if 0<b then b-1 else 0):=by
 unfold On jX;by_cases hb:b=0
 ·omega
 rw[bP hb,bP hb];obtain⟨e,h1,h2,h3⟩:=G3 a b hb;by_cases hc:a.tmod b≠0/\w9 (a<0)≠w9 (b<0)
 ·rw[bO hc,Int.mul_sub,Int.mul_one];obtain⟨c1,c2⟩:=hc;have c3:(a<0/\0<b)\/(0<=a/\b<0):=by
   by_cases q1:a<0<;>by_cases q2:b<0<;>simp at c2<;>omega
  omega
 ·rw[bP hc];have c3:a.tmod b=0\/(a<0/\b<0)\/(0<=a/\0<=b):=by
   by_cases q0:a.tmod b=0
   ·omega
   ·by_cases q1:a<0<;>by_cases q2:b<0<;>simp at hc<;>omega
  omega
def BP{x lo hi y:Int}(h1:lo<=x)(h2:x<=hi):(lo*y<=x*y\/hi*y<=x*y)/\(x*y<=lo*y\/x*y<=hi*y):=by
 rcases Int.le_total 0 y with h|h
 ·exact⟨.inl (xe h1 h), .inr (xe h2 h)⟩
 ·exact⟨.inr (Int.mul_le_mul_of_nonpos_right h2 h), .inl (Int.mul_le_mul_of_nonpos_right h1 h)⟩
def ash{x y:Int}{a b:Span}(h1:a.aC<=x)(h2:x<=a.au)(h3:b.aC<=y)(h4:y<=b.au):
  (a.aC*b.aC<=x*y\/a.aC*b.au<=x*y\/a.au*b.aC<=x*y\/a.au*b.au<=x*y)/\
  (x*y<=a.aC*b.aC\/x*y<=a.aC*b.au\/x*y<=a.au*b.aC\/x*y<=a.au*b.au):=by
 obtain⟨p1,p2⟩:=BP (y:=y) h1 h2;obtain⟨q1,q2⟩:=BP (y:=a.aC) h3 h4;obtain⟨r1,r2⟩:=BP (y:=a.au) h3 h4;grind
def rW:∀(l:aa Span) (a:Span),(l.foldl fE a).aC<=a.aC/\a.au<=(l.foldl fE a).au/\∀s∈l,(l.foldl fE a).aC<=s.aC/\s.au<=(l.foldl fE a).au
 |[],a=>⟨zG _,zG _,λs h=>by cases h⟩
 |x::l,a=>by
  obtain⟨h1,h2,h3⟩:=rW l (fE a x);have e1:(fE a x).aC<=a.aC/\(fE a x).aC<=x.aC/\a.au<=(fE a x).au/\x.au<=(fE a x).au:=by unfold fE;grind
  rw[List.foldl_cons];refine⟨aj,aj,λs hs=> ?_⟩;rcases zk.1 hs with rfl|hs
  ·omega
  ·simp_all
def Ju(x:Int)(s:Span):Prop:=s.aC<=x/\x<=s.au
def Wt(b:Bool):Ju (eP b) ⟨0,1⟩:=by cases b<;>exact⟨by decide,by decide⟩
def KIn(k:aa Int)(r:aa Span):Prop:=zZ k=zZ r/\∀i,i<zZ r->Ju k[i]! r[i]!
def vM(vars:aa bf)(vals:aa Int):Prop:=zZ vals=zZ vars/\∀i,i<zZ vars->vars[i]!.aC<=vals[i]!/\vals[i]!<=vars[i]!.au
def aiq{vars:aa bf}{vals:aa Int}(hV:vM vars vals){t:ay}{r:aa Span}(h:AA vars t r){k:aa Int}(hk:KIn k r):Ju (BF vals t k) (iY vars t r):=by
 obtain⟨⟨g1,g2,g3⟩,h24,hI⟩:=h;obtain⟨hl,hk⟩:=hk;have k0:1<=zZ r->Ju k[0]! r[0]! :=λh=>hk 0 aj;have k1:2<=zZ r->Ju k[1]! r[1]! :=λh=>hk 1 aj;have sel:∀i,1<=i->i<zZ r->Ju k[i]! ((r.drop 2).foldl fE r[1]!):=λi h1 h2=>by
  obtain⟨e1,e2,e3⟩:=rW (r.drop 2) r[1]!;have e4:=hk i h2;unfold Ju at e4 ⊢;by_cases hi:i=1
  ·subst hi;omega
  ·have hm:r[i]!∈r.drop 2:=by
    rw[List.mem_iff_getElem];refine⟨i-2,by rw[zX];omega,?_⟩;rw[wm,getElem!_pos _ i h2]
    congr 1
    omega
   have:=e3 _ hm;omega
 have kn:bZ t.bA=if t.bA=0\/t.bA=24 then(0,0)else if t.bA=6\/t.bA=7 then(1,1)else if 8<=t.bA/\t.bA<=22 then(2,2)else if t.bA=23 then(3,3)else if t.bA=25 then(2,33)else(-1,-1):=rfl
 unfold BF iY;by_cases o0:t.bA=0
 ·rw[bO o0,bO o0];exact⟨zG _,zG _⟩
 rw[bP o0,bP o0];by_cases o61:t.bA=24
 ·rw[bO o61,bO o61];obtain⟨n1,n2⟩:=h24 o61;exact hV.2 _ aj
 rw[bP o61,bP o61];rw[nB]at kn;by_cases o6:t.bA=6
 ·rw[bO (.inl o6)]at kn;rw[kn]at g1 g2 g3;have:=k0 (by simp at g2;omega);rw[bO o6,bO o6];unfold Ju at this ⊢;dsimp only;omega
 rw[bP o6,bP o6];by_cases o7:t.bA=7
 ·simp only[o7];exact Wt _
 rw[bP o7];rw[nB]at kn;by_cases o23:t.bA=23
 ·rw[nB,bO o23]at kn;rw[kn]at g1 g2 g3;dsimp only at g2 g3;simp only[o23,Int.reduceEq,reduceIte];split
  ·exact sel 1 aj aj
  ·exact sel 2 aj aj
 rw[bP o23];by_cases o25:t.bA=25
 ·rw[nB,bP o23,bO o25]at kn;rw[kn]at g1 g2 g3;dsimp only at g2 g3;simp only[o25,Int.reduceEq,reduceIte,or_true];refine sel _ ?_ ?_<;>unfold gC<;>grind
 rw[bP o25];have h22:8<=t.bA/\t.bA<=22:=by
  by_cases h:8<=t.bA/\t.bA<=22
  ·exact h
  ·rw[bP h,bP o23,bP o25]at kn;rw[kn]at g1;simp at g1
 rw[bO h22]at kn;rw[kn]at g1 g2 g3;dsimp only at g2 g3;have a0:=k0 aj;have a1:=k1 aj;have i0:=hI _ (bg (show 0<zZ r by omega));have i1:=hI _ (bg (show 1<zZ r by omega));unfold Ju at a0 a1;unfold Dl at i0 i1;unfold pR;by_cases o8:t.bA=8
 ·rw[bO o8,bO o8];unfold Ju;dsimp only;omega
 rw[bP o8,bP o8];by_cases o9:t.bA=9
 ·rw[bO o9,bO o9];unfold Ju;dsimp only;omega
 rw[bP o9,bP o9];by_cases o10:t.bA=10
 ·rw[bO o10,bO o10];have hm:=ash (a:=r[0]!) (b:=r[1]!) a0.1 a0.2 a1.1 a1.2;unfold Ju fE;dsimp only;generalize k[0]! *k[1]! =xy at hm ⊢;generalize r[0]!.aC*r[1]!.aC=p at hm ⊢;generalize r[0]!.aC*r[1]!.au=q at hm ⊢;generalize r[0]!.au*r[1]!.aC=u at hm ⊢;generalize r[0]!.au*r[1]!.au=s at hm ⊢;grind
 rw[bP o10,bP o10];by_cases o11:t.bA=11
 ·rw[bO o11,bO o11];obtain⟨d1,d2,d3⟩:=amh k[0]! k[1]!;unfold Ju;split
  ·rename_i hc;have:=d3 aj aj;dsimp only;refine⟨this,?_⟩;split<;>omega
  ·dsimp only;split<;>omega
 rw[bP o11,bP o11];by_cases o12:t.bA=12
 ·rw[bO o12,bO o12];obtain⟨d1,d2⟩:=aip k[0]! k[1]!;unfold Ju;dsimp only;constructor
  ·refine x8 ?_ d1;split<;>split<;>omega
  ·refine x8 d2 ?_;split<;>split<;>omega
 rw[bP o12,bP o12];by_cases o21:t.bA=21
 ·rw[bO o21];simp only[o21,Int.reduceEq,reduceIte];unfold Ju;dsimp only;constructor<;>split<;>(try split)<;>omega
 by_cases o22:t.bA=22
 ·rw[bP o21,bO o22];simp only[o22,Int.reduceEq,reduceIte];unfold Ju;dsimp only;constructor<;>split<;>(try split)<;>omega
 have cs:t.bA=13\/t.bA=14\/t.bA=15\/t.bA=16\/t.bA=17\/t.bA=18\/t.bA=19\/t.bA=20:=aj;rcases cs with o|o|o|o|o|o|o|o<;>simp only[o,Int.reduceEq,reduceIte,or_self]<;>exact Wt _
def Jn{vars:aa bf}(hv:cg vars){vals:aa Int}(hV:vM vars vals){inp:Bool}:∀(n:Nat) (t:ay),zi t<n->dh vars inp t=Z->∀s,gM vars t=M s->Ju (cV vals t) s
 |0,_,h,_,_,_=>aj
 |n+1,t,h,hf,s,hs=>by
  rw[q8]at hs;cases ha:kg (t.ax.map (gM vars))with
  |none=>rw[ha]at hs;cases hs
  |some r=>
   rw[ha]at hs;dsimp only at hs;have hK:=u9 hv hf ha;have hr:t.ax.map (gM vars)=r.map M:=nr ha;have hlen:zZ t.ax=zZ r:=by have:=congrArg zZ hr;simpa using this
   split at hs
   ·cases hs;rw[LL];refine aiq hV hK ⟨by simp[hlen],λi hi=> ?_⟩;have hm:t.ax[i]!∈t.ax:=bg aj;have e1:(t.ax.map (cV vals))[i]! =cV vals t.ax[i]! :=by
     rw[getElem!_pos _ i (by simp;omega),getElem!_pos _ i aj,yy]
    have e2:gM vars t.ax[i]! =M r[i]! :=by
     have:=congrArg (λl=>l[i]?) hr;simp only[zP]at this;simp_all
    rw[e1];exact Jn hv hV n _ (by have:=ay.eF hm;omega) (nh hf hm) _ e2
   ·cases hs
def VS(b:Bool):uJ b=eP b:=by cases b<;>rfl
def Mq(n lo hi:Int):BH n lo hi=gC n lo hi:=by unfold BH gC;simp only[zS]
def neB(a b:Bool):(bif a==b then false else true)=w9 (a≠b):=by cases a<;>cases b<;>rfl
def JB{a b:Int}(h1: -1099511627776<=a)(h2:a<=1099511627776):aec a b=M (jX a b):=by
 have h3:=Ur a b;have w1:ak (a.tdiv b)=a.tdiv b:=aI;have w2:ak (a.tdiv b-1)=a.tdiv b-1:=aI;unfold aec jX;by_cases hb:b=0
 ·simp[hb]
 by_cases hm:a.tmod b=0
 ·simp[hb,hm,w1]
 ·simp only[hb,hm,w1,w2,ne_eq,neB];by_cases hc:w9 (a<0)=w9 (b<0)
  ·simp[hc]
  ·simp[hc]
def amY{a b:Int}(h1: -1099511627776<=a)(h2:a<=1099511627776)(h3: -1099511627776<=b)(h4:b<=1099511627776):ajJ a b=M (On a b):=by
 unfold ajJ;rw[JB h1 h2];unfold On;by_cases hb:b=0
 ·simp[hb]
 obtain⟨e,q1,q2,q3⟩:=G3 a b hb;have hd:b*jX a b=b*a.tdiv b\/b*jX a b=b*a.tdiv b-b:=by
  unfold jX;rw[bP hb];split
  ·right;rw[Int.mul_sub,Int.mul_one]
  ·omega
 have w1:ak (b*jX a b)=b*jX a b:=aI;have w2:ak (a-b*jX a b)=a-b*jX a b:=aI;simp only[hb,mF,fO,AE,w1,w2]
def anJ{o a b:Int}(ha: -1048576<=a/\a<=1048576)(hb: -1048576<=b/\b<=1048576):al5 o a b=M (pR o a b):=by
 have hm:=ot (a:=a) (b:=b) aj aj aj aj;have w1:ak (a+b)=a+b:=aI;have w2:ak (a-b)=a-b:=aI;have w3:ak (a*b)=a*b:=aI;unfold al5 pR;rw[JB aj aj,amY aj aj aj aj,w1,w2,w3];simp only[VS,og,lT];have z:∀x:Int,(bif w9 (x=0)then O else Z)=w9 (x≠0):=λx=>by by_cases h:x=0<;>simp
 have z2:(bif w9 (a=b)then O else Z)=w9 (a≠b):=by by_cases h:a=b<;>simp
 rw[z,z,z2];have y:(bif w9 (a≠0)then M (eP (w9 (b≠0)))else M (eP O))=M (eP (w9 (a≠0/\b≠0))):=by by_cases h1:a=0<;>by_cases h2:b=0<;>simp[h1]
 have y2:(bif w9 (a≠0)then M (eP Z)else M (eP (w9 (b≠0))))=M (eP (w9 (a≠0\/b≠0))):=by by_cases h1:a=0<;>by_cases h2:b=0<;>simp[h1]
 rw[y,y2];simp only[zS,cw]
def aeN{vars:aa bf}(hv:cg vars){vals:aa Int}(hV:vM vars vals){inp:Bool}{t:ay}(hf:dh vars inp t=Z)(hs:(gM vars t).isSome=Z):
  ∀k∈t.ax,(gM vars k).isSome=Z/\ -1048576<=cV vals k/\cV vals k<=1048576:=λk hk=>by
 rw[q8]at hs;cases ha:kg (t.ax.map (gM vars))with
 |none=>rw[ha]at hs;cases hs
 |some r=>
  have hK:=u9 hv hf ha;have hr:=nr ha;have hm:gM vars k∈r.map M:=by rw[<-hr];exact List.mem_map_of_mem hk
  obtain⟨s,h1,h2⟩:=zC.1 hm;have h3:=Jn hv hV (zi k+1) k aj (nh hf hk) s h2.symm;have h4:=hK.2.2 s h1;unfold Ju at h3;unfold Dl at h4;exact⟨by rw[<-h2];rfl,aj,aj⟩
def Xt{vars:aa bf}{inp:Bool}{t:ay}(hf:dh vars inp t=Z):(0<=(bZ t.bA).1/\(bZ t.bA).1<=zZ t.ax/\(zZ t.ax:Int)<=(bZ t.bA).2)/\(t.bA=24->0<=t.fN/\t.fN<zZ vars):=by
 rw[lD]at hf;have h:=(zh _ _▸hf).1;unfold Cc at h;rw[zh,decide_eq_true_iff]at h;refine⟨h.1,λh24=> ?_⟩;simp_all
def EL(o:Int)(h:0<=(bZ o).1):((o=0\/o=24)/\bZ o=(0,0))\/((o=6\/o=7)/\bZ o=(1,1))\/((8<=o/\o<=22)/\bZ o=(2,2))\/(o=23/\bZ o=(3,3))\/(o=25/\bZ o=(2,33)):=by
 unfold bZ at h ⊢;split
 ·exact .inl ⟨‹_›,rfl⟩
 rename_i h1;rw[bP h1]at h;split
 ·exact .inr (.inl ⟨‹_›,rfl⟩)
 rename_i h2;rw[bP h2]at h;split
 ·exact .inr (.inr (.inl ⟨‹_›,rfl⟩))
 rename_i h3;rw[bP h3]at h;split
 ·exact .inr (.inr (.inr (.inl ⟨‹_›,rfl⟩)))
 rename_i h4;rw[bP h4]at h;split
 ·exact .inr (.inr (.inr (.inr ⟨‹_›,rfl⟩)))
 ·rename_i h5;rw[bP h5]at h;omega
def JY{vals:aa Int}{t:ay}{i:Nat}(h:i<zZ t.ax):(t.ax.map (cV vals))[i]! =cV vals t.ax[i]! :=by
 rw[getElem!_pos _ i (by simpa using h),getElem!_pos _ i h,yy]
def ajs(zf:aa Int->ay->af alm){vars:aa bf}(hv:cg vars){vals:aa Int}(hV:vM vars vals){inp:Bool}(t:ay)(hf:dh vars inp t=Z)(hs:(gM vars t).isSome=Z)
  (hM:∀k∈t.ax,zf vals k=M (cV vals k)):avw zf vals t=M (cV vals t):=by
 obtain⟨⟨g1,g2,g3⟩,h24⟩:=Xt hf;have hkv:=aeN hv hV hf hs;have K:∀i,i<zZ t.ax->zf vals t.ax[i]! =M (cV vals t.ax[i]!)/\ -1048576<=cV vals t.ax[i]!/\cV vals t.ax[i]!<=1048576:=λi hi=>⟨hM _ (bg hi),(hkv _ (bg hi)).2⟩;rw[LL];unfold avw BF;simp only[ay.eta,zF];rcases EL t.bA g1 with ⟨h,e⟩|⟨h,e⟩|⟨h,e⟩|⟨h,e⟩|⟨h,e⟩<;>rw[e]at g2 g3<;>dsimp only at g2 g3
 ·rcases h with h|h
  ·simp[h]
  ·have:=h24 h;have hl:=hV.1;simp[h];omega
 ·obtain⟨k1,k2,k3⟩:=K 0 aj;have m0:=JY (vals:=vals) (show 0<zZ t.ax by omega);have w:ak ((0:Int)-cV vals t.ax[0]!)= -cV vals t.ax[0]! :=by rw[aI];omega
  have i0:(0:Int)<=0/\(0:Int)<(zZ t.ax:Int):=aj;rcases h with h|h
  ·simp only[dS,dP,h,Int.reduceEq,i0,k1,w,m0,reduceIte]
  ·simp only[dS,dP,h,Int.reduceEq,i0,dx,k1,m0,reduceIte,VS]
 ·obtain⟨k1,k2,k3⟩:=K 0 aj;obtain⟨l1,l2,l3⟩:=K 1 aj;have m0:=JY (vals:=vals) (show 0<zZ t.ax by omega);have m1:=JY (vals:=vals) (show 1<zZ t.ax by omega);have i0:(0:Int)<=0/\(0:Int)<(zZ t.ax:Int):=aj;have i1:(0:Int)<=1/\(1:Int)<(zZ t.ax:Int):=aj;have hb:=anJ (o:=t.bA) ⟨k2,k3⟩ ⟨l2,l3⟩;have n0:t.bA≠0:=aj;have n1:t.bA≠24:=aj;have n2:t.bA≠6:=aj;have n3:t.bA≠7:=aj;have n4:t.bA≠23:=aj;have n5:t.bA≠25:=aj;simp only[dS,lG,n0,n1,n2,n3,n4,n5,fO,i0,i1,k1,l1,hb,m0,m1]
 ·obtain⟨k1,k2,k3⟩:=K 0 aj;obtain⟨l1,l2,l3⟩:=K 1 aj;obtain⟨p1,p2,p3⟩:=K 2 aj;have m0:=JY (vals:=vals) (show 0<zZ t.ax by omega);have m1:=JY (vals:=vals) (show 1<zZ t.ax by omega);have m2:=JY (vals:=vals) (show 2<zZ t.ax by omega);have i0:(0:Int)<=0/\(0:Int)<(zZ t.ax:Int):=aj;have i1:(0:Int)<=1/\(1:Int)<(zZ t.ax:Int):=aj;have i2:(0:Int)<=2/\(2:Int)<(zZ t.ax:Int):=aj;simp only[dS,dP,h,Int.reduceEq,i0,i1,i2,dx,k1,l1,p1,m0,m1,m2,reduceIte];by_cases hz:cV vals t.ax[0]! =0
  ·simp only[dP,hz,mG,AE,ne_eq,not_true]
  ·simp only[dP,hz,mF,dx,ne_eq,not_false_eq_true]
 ·obtain⟨k1,k2,k3⟩:=K 0 aj;have m0:=JY (vals:=vals) (show 0<zZ t.ax by omega);have i0:(0:Int)<=0/\(0:Int)<(zZ t.ax:Int):=aj;have w:ak ((zZ t.ax:Int)-(2:Int))=(zZ t.ax:Int)-(2:Int):=aI;have hh:0<=gC (cV vals t.ax[0]!) 0 ((zZ t.ax:Int)-(2:Int))/\gC (cV vals t.ax[0]!) 0 ((zZ t.ax:Int)-(2:Int))<=(zZ t.ax:Int)-(2:Int):=by unfold gC;grind
  have w2:ak ((1:Int)+gC (cV vals t.ax[0]!) 0 ((zZ t.ax:Int)-(2:Int)))=(1:Int)+gC (cV vals t.ax[0]!) 0 ((zZ t.ax:Int)-(2:Int)):=aI;simp only[dS,dP,h,Int.reduceEq,i0,dx,k1,m0,reduceIte,Mq,w,w2];generalize gC (cV vals t.ax[0]!) 0 ((zZ t.ax:Int)-(2:Int))=H at hh;obtain⟨q1,_,_⟩:=K (1+H).toNat aj;rw[Dx,JY aj];simp only[q1];rfl
def XO{vars:aa bf}(hv:cg vars){vals:aa Int}(hV:vM vars vals)(inp:Bool):∀(n:Nat) (t:ay),zi t<n->dh vars inp t=Z->(gM vars t).isSome=Z->ahP n vals t=M (cV vals t)
 |0,_,h,_,_=>aj
 |n+1,t,h,hf,hs=>ajs (ahP n) hv hV t hf hs (λk hk=>XO hv hV inp n k (by have:=ay.eF hk;omega) (nh hf hk) (aeN hv hV hf hs k hk).1)
def u6{vars:aa bf}(hv:cg vars){vals:aa Int}(hV:vM vars vals)(inp:Bool)(t:ay)(hc:iX vars inp t=0):NU vals t=M (cV vals t)/\ -1048576<=cV vals t/\cV vals t<=1048576:=by
 unfold iX at hc;cases hf:dh vars inp t with
 |false=>rw[hf]at hc;simp at hc
 |true=>
  rw[hf]at hc;cases hs:(gM vars t).isSome with
  |false=>rw[hs]at hc;simp at hc
  |true=>
   refine⟨dc (zi t+1) λn hn=>XO hv hV inp n t aj hf hs,?_⟩;obtain⟨s,e⟩:=Option.isSome_iff_exists.1 hs;have h3:=Jn hv hV (zi t+1) t aj hf s e;have h4:Al s=Z:=by
    rw[q8]at e;cases ha:kg (t.ax.map (gM vars))with
    |none=>rw[ha]at e;cases e
    |some r=>
     rw[ha]at e;dsimp only at e;split at e
     ·simp_all
     ·cases e
   unfold Al at h4;unfold Ju at h3;simp at h4;omega
structure CS where
 (vals outs:List Int)
 time:Int
def jS:aa Int->Int->Int
 |[],t=>t
 |b::l,t=>if t<=b then b else jS l t
def arP(f:bn)(s:CS)(v n:Int):CS:=⟨s.vals.set v.toNat (gC n f.ah[v.toNat]!.aC f.ah[v.toNat]!.au),s.outs,s.time⟩
def CS.add(s:CS)(c:Int):CS:=⟨s.vals,s.outs,s.time+c⟩
def jP(body:CS->CS)(t:ay)(c:Int):Nat->CS->CS
 |0,s=>s
 |n+1,s=>if cV s.vals t=0 then s.add c else jP body t c n (body (s.add c))
def sj(f:bn)(hv:aa Int)(a b:CS->CS)(x:aM)(s:CS):CS:=
 if x.cu=4 then jP a x.aB x.aW x.fN.toNat s
 else if x.cu=0 then arP f (s.add x.aW) x.bq (cV s.vals x.aB)
 else if x.cu=1 then⟨s.vals,s.outs++[cV s.vals x.aB],s.time+x.aW⟩
 else if x.cu=5 then arP f (s.add x.aW) x.bq hv[x.fN.toNat]!
 else if x.cu=3 then(if cV s.vals x.aB≠0 then a (s.add x.aW)else b (s.add x.aW))
 else if x.cu=6 then⟨s.vals,s.outs,jS x.aR (s.time+x.aW)⟩
 else s.add x.aW
def eO(f:bn)(hv:aa Int):aa aM->CS->CS
 |[],s=>s
 |x::l,s=>eO f hv l (sj f hv (λs=>eO f hv x.aQ s) (λs=>eO f hv x.aX s) x s)
termination_by l=>zi l
decreasing_by
 all_goals first|exact(aZ (zm ..)).1|exact(aZ (zm ..)).2|exact eu _ _
def vh(f:bn)(hv:aa Int)(s:CS):eO f hv [] s=s:=by rw[eO]
def qX(f:bn)(hv:aa Int)(x:aM)(l:aa aM)(s:CS):eO f hv (x::l) s=eO f hv l (sj f hv (eO f hv x.aQ) (eO f hv x.aX) x s):=by rw[eO]
def iq{f:bn}{top:Bool}{x:aM}{l:aa aM}(h:cK f top (x::l)=0):pn f (top&&l.isEmpty) x=0/\cK f O x.aQ=0/\cK f O x.aX=0/\cK f top l=0:=by
 rw[cK]at h;omega
structure ac8 (f:bn) (last:Bool) (x:aM):Prop where
 do_:0<=x.cu/\x.cu<=6
 cost:0<=x.aW/\x.aW<=67108864
 n4:x.cu=4->0<=x.fN/\x.fN<=4096
 var:x.cu=0\/x.cu=5->0<=x.bq/\x.bq<zZ f.ah
 n5:x.cu=5->0<=x.fN/\x.fN<zZ f.ai
 US:x.cu=6->last=Z/\(1<=zZ x.aR/\zZ x.aR<=32)/\(0:Int)<=x.aR[0]!/\jg x.aR=Z/\x.aR[zZ x.aR-1]!<=67108864
 term:iX f.ah O x.aB=0
def Dc{f:bn}{last:Bool}{x:aM}(h:pn f last x=0):ac8 f last x:=by
 unfold pn at h;by_cases h1:dw f x last=O
 ·simp_all
 rw[bP h1]at h;by_cases h2:sK x=O
 ·simp_all
 rw[bP h2]at h;have h1:dw f x last=Z:=by simpa using h1
 have h2:sK x=Z:=by simpa using h2
 unfold sK at h2;simp only[zh,decide_eq_true_eq]at h2;obtain⟨⟨g1,g2⟩,g3⟩:=h2;unfold dw Bp at h1;have hd:0<=x.cu/\x.cu<=6:=by
  by_cases a0:x.cu=0
  ·omega
  by_cases a1:x.cu=1
  ·omega
  by_cases a2:x.cu=2
  ·omega
  by_cases a3:x.cu=3
  ·omega
  by_cases a4:x.cu=4
  ·omega
  by_cases a5:x.cu=5
  ·omega
  simp_all
 refine⟨hd,⟨g1.1,?_⟩,λq=> ?_,λq=> ?_,λq=> ?_,λq=> ?_,h⟩
 ·omega
 ·simp_all
 ·rcases q with q|q
  ·simp_all
  ·simp_all
 ·simp_all
 ·rw[bO q]at g3;simp only[lG,q,Int.reduceEq,zh,decide_eq_true_eq]at h1 g3;exact⟨h1.1.1.1.1.2,h1.2.1.1,h1.2.1.2,h1.2.2,g3⟩
def XR(x:aM)(l:aa aM):dR (x::l)=
  (if x.cu=1 then(1+(dR l).1,1+(dR l).2.1,x.aW+(dR l).2.2)
   else if x.cu=3 then(1+max (dR x.aQ).1 (dR x.aX).1+(dR l).1,max (dR x.aQ).2.1 (dR x.aX).2.1+(dR l).2.1,x.aW+max (dR x.aQ).2.2 (dR x.aX).2.2+(dR l).2.2)
   else if x.cu=4 then(1+x.fN*(1+(dR x.aQ).1)+(dR l).1,x.fN*(dR x.aQ).2.1+(dR l).2.1,x.fN*(x.aW+(dR x.aQ).2.2)+(dR l).2.2)
   else(1+(dR l).1,(dR l).2.1,x.aW+(dR l).2.2)):=by rw[dR]
def jd(f:bn):∀(n:Nat) (l:aa aM) (top:Bool),zi l<n->cK f top l=0->0<=(dR l).2.1/\0<=(dR l).2.2
 |0,_,_,h,_=>aj
 |n+1,[],_,_,_=>by rw[dR];exact⟨zG _,zG _⟩
 |n+1,x::l,top,h,hc=>by
  obtain⟨h1,h2,h3,h4⟩:=iq hc;have ho:=Dc h1;have hs:=aZ (zm (a:=x) (l:=l));have ht:=eu x l;have i1:=jd f n x.aQ O aj h2;have i3:=jd f n l top aj h4;have hcost:=ho.cost;rw[XR];by_cases a1:x.cu=1
  ·rw[bO a1];dsimp only;omega
  by_cases a3:x.cu=3
  ·rw[bP a1,bO a3];dsimp only;omega
  by_cases a4:x.cu=4
  ·rw[bP a1,bP a3,bO a4];have hn:=ho.n4 a4;have p1:=yo hn.1 i1.1;have p2:=yo hn.1 (show 0<=x.aW+(dR x.aQ).2.2 by omega);dsimp only;omega
  ·rw[bP a1,bP a3,bP a4];dsimp only;omega
def ags{n lo hi:Int}(h:lo<=hi):lo<=gC n lo hi/\gC n lo hi<=hi:=by unfold gC;grind
def vM.set{vars:aa bf}{vals:aa Int}(h:vM vars vals)(hv:cg vars){v n:Int}(h1:0<=v)(h2:v<zZ vars):vM vars (vals.set v.toNat (gC n vars[v.toNat]!.aC vars[v.toNat]!.au)):=by
 refine⟨by rw[yq];exact h.1,λi hi=> ?_⟩;have hl:=h.1;by_cases hvi:v.toNat=i
 ·subst hvi;rw[getElem!_pos (vals.set _ _) v.toNat (by rw[yq];omega),List.getElem_set_self];exact ags (hv _ (bg hi)).2.1
 ·have:=h.2 i hi;rw[getElem!_pos (vals.set _ _) i (by rw[yq];omega),List.getElem_set_ne hvi];rw[getElem!_pos vals i aj]at this;omega
structure Yi (vars:List bf) (s r:CS) (o t:Int):Prop where
 vals:vM vars r.vals
 outs:(zZ s.outs:Int)<=zZ r.outs/\(zZ r.outs:Int)<=zZ s.outs+o
 time:s.time<=r.time/\r.time<=s.time+t
def OJ{vars:aa bf}{a:CS->CS}{t:ay}{c o u:Int}(hc:0<=c)(ho:0<=o)(hu:0<=u)(ha:∀s:CS,vM vars s.vals->Yi vars s (a s) o u):∀(n:Nat) (s:CS),vM vars s.vals->Yi vars s (jP a t c n s) (n*o) (n*(c+u))
 |0,s,h=>⟨h,by rw[jP];simp,by rw[jP];simp⟩
 |n+1,s,h=>by
  rw[jP];have e1:((n+1:Nat):Int)*o=n*o+o:=by rw[Int.natCast_add,Int.add_mul];simp
  have e2:((n+1:Nat):Int)*(c+u)=n*(c+u)+(c+u):=by rw[Int.natCast_add,Int.add_mul];simp
  have p1:0<=(n:Int)*o:=yo aj ho;have p2:0<=(n:Int)*(c+u):=yo aj aj;split
  ·refine⟨h,?_,?_⟩
   ·show (zZ s.outs:Int)<=zZ s.outs/\_;exact⟨zG _,by show (zZ s.outs:Int)<=_;omega⟩
   ·show s.time<=s.time+c/\s.time+c<=_;omega
  ·have i1:=ha (s.add c) h;have i2:=OJ (t:=t) hc ho hu ha n (a (s.add c)) i1.vals;have q1:=i1.outs;have q2:=i1.time;have q3:=i2.outs;have q4:=i2.time;have z1:(s.add c).time=s.time+c:=rfl;have z2:(s.add c).outs=s.outs:=rfl;rw[z2]at q1;exact⟨i2.vals,aj,aj⟩
def Yi.weak{vars:aa bf}{s r:CS}{o t o' t':Int}(h:Yi vars s r o t)(h1:o<=o')(h2:t<=t'):Yi vars s r o' t':=⟨h.vals,by have:=h.outs;omega,by have:=h.time;omega⟩
def Yi.trans{vars:aa bf}{s r q:CS}{o t o' t':Int}(h:Yi vars s r o t)(h':Yi vars r q o' t'):Yi vars s q (o+o') (t+t'):=⟨h'.vals,by have:=h.outs;have:=h'.outs;omega,by have:=h.time;have:=h'.time;omega⟩
def uO(x:aM):Int×Int:=if x.cu=1 then(1,x.aW)else if x.cu=3 then(max (dR x.aQ).2.1 (dR x.aX).2.1,x.aW+max (dR x.aQ).2.2 (dR x.aX).2.2)
 else if x.cu=4 then(x.fN*(dR x.aQ).2.1,x.fN*(x.aW+(dR x.aQ).2.2))else(0,x.aW)
def iL(x:aM)(l:aa aM):(dR (x::l)).2.1=(uO x).1+(dR l).2.1/\(dR (x::l)).2.2=(uO x).2+(dR l).2.2:=by
 rw[XR];unfold uO;grind
def IZ{f:bn}(hv:cg f.ah){hs:aa Int}{a b:CS->CS}{last:Bool}{x:aM}(hx:ac8 f last x)(h6:x.cu≠6)
  (p1:0<=(dR x.aQ).2.1/\0<=(dR x.aQ).2.2) (p2:0<=(dR x.aX).2.1/\0<=(dR x.aX).2.2)
  (ha:∀s:CS,vM f.ah s.vals->Yi f.ah s (a s) (dR x.aQ).2.1 (dR x.aQ).2.2) (hb:∀s:CS,vM f.ah s.vals->Yi f.ah s (b s) (dR x.aX).2.1 (dR x.aX).2.2)
  (s:CS) (h:vM f.ah s.vals):Yi f.ah s (sj f hs a b x s) (uO x).1 (uO x).2:=by
 have hc:=hx.cost;have add:Yi f.ah s (s.add x.aW) 0 x.aW:=⟨h,by show (zZ s.outs:Int)<=zZ s.outs/\(zZ s.outs:Int)<=_;omega,by show s.time<=s.time+x.aW/\s.time+x.aW<=_;omega⟩;unfold sj uO;by_cases a4:x.cu=4
 ·simp only[lG,a4,Int.reduceEq];have hn:=hx.n4 a4;have:=OJ (t:=x.aB) hc.1 p1.1 p1.2 ha x.fN.toNat s h;rw[show ((x.fN.toNat:Nat):Int)=x.fN by omega]at this;omega
 by_cases a0:x.cu=0
 ·simp only[a0];obtain⟨v1,v2⟩:=hx.var (.inl a0);exact⟨h.set hv v1 v2,add.outs,add.time⟩
 by_cases a1:x.cu=1
 ·simp only[a1,dx];exact⟨h,by simp;omega,by show s.time<=s.time+x.aW/\s.time+x.aW<=_;omega⟩
 by_cases a5:x.cu=5
 ·simp only[a5];obtain⟨v1,v2⟩:=hx.var (.inr a5);exact⟨h.set hv v1 v2,add.outs,add.time⟩
 by_cases a3:x.cu=3
 ·simp only[lG,a3,Int.reduceEq];split
  ·refine(add.trans (ha _ h)).weak ?_ ?_<;>omega
  ·refine(add.trans (hb _ h)).weak ?_ ?_<;>omega
 ·simp only[a0,a1,a3,a4,a5,h6,AE];omega
def nQ{f:bn}(hv:cg f.ah)(hs:aa Int):∀(n:Nat) (l:aa aM),zi l<n->cK f O l=0->∀s:CS,vM f.ah s.vals->Yi f.ah s (eO f hs l s) (dR l).2.1 (dR l).2.2
 |0,_,h,_,_,_=>aj
 |n+1,[],_,_,s,h=>by rw[vh,dR];exact⟨h,by simp,by simp⟩
 |n+1,x::l,hn,hc,s,h=>by
  obtain⟨h1,h2,h3,h4⟩:=iq hc;have ho:=Dc h1;have hsz:=aZ (zm (a:=x) (l:=l));have ht:=eu x l;have h6:x.cu≠6:=λh=>by have:=(ho.US h).1;simp at this
  have p1:=jd f n x.aQ O aj h2;have p2:=jd f n x.aX O aj h3;rw[qX,(iL x l).1,(iL x l).2];have i1:=IZ hv (hs:=hs) ho h6 p1 p2 (nQ hv hs n x.aQ aj h2) (nQ hv hs n x.aX aj h3) s h;exact i1.trans (nQ hv hs n l aj h4 _ i1.vals)
def GO:∀{l:aa Int} {t:Int},(∀j,j<zZ l->l[j]! <t)->jS l t=t
 |[],_,_=>rfl
 |b::l,t,h=>by
  have h0:=h 0 (by simp);have h0:b<t:=h0;rw[jS,nB];exact GO λj hj=>h (j+1) (by simpa using hj)
def Pq:∀{l:aa Int} {t:Int} {j:Nat},j<zZ l->t<=l[j]!->(∀k,k<j->l[k]! <t)->jS l t=l[j]!
 |[],_,_,h,_,_=>by simp at h
 |b::l,t,0,_,h2,_=>by
  have h2:t<=b:=h2;rw[jS,bO h2];rfl
 |b::l,t,j+1,h1,h2,h3=>by
  have h0:b<t:=h3 0 aj;rw[jS,nB];exact Pq (l:=l) (j:=j) (by simpa using h1) h2 λk hk=>h3 (k+1) aj
def Pc(l:aa Int)(t:Int):(jS l t=t/\∀j,j<zZ l->l[j]! <t)\/∃j,j<zZ l/\jS l t=l[j]!/\t<=l[j]!/\∀k,k<j->l[k]! <t:=by
 induction l with
 |nil=>exact .inl ⟨rfl,λj h=>by simp at h⟩
 |cons b l ih=>
  rw[jS];by_cases h:t<=b
  ·rw[bO h];exact .inr ⟨0,by simp,rfl,h,λk hk=>aj⟩
  ·rw[bP h];rcases ih with ⟨e,h1⟩|⟨j,h1,h2,h3,h4⟩
   ·refine .inl ⟨e,λj hj=> ?_⟩;cases j with
    |zero=>show b<t;omega
    |succ j=>exact h1 j (by simpa using hj)
   ·refine .inr ⟨j+1,by simpa using h1,h2,h3,λk hk=> ?_⟩;cases k with
    |zero=>show b<t;omega
    |succ k=>exact h4 k aj
def Dd{l:aa Int}(h:jg l=Z):∀{i j:Nat},i<j->j<zZ l->l[i]! <l[j]! :=by
 intro i j hij hj;induction j with
 |zero=>omega
 |succ j ih=>
  have h1:=(kD l).1 h j hj;by_cases hi:i=j
  ·subst hi;exact h1
  ·omega
def amz(l:aa Int)(t:Int)(hl:zZ l<=1000000)(h:jg l=Z):anb l t=M (jS l t):=by
 obtain⟨v,e1,hv⟩:=cZ (rnd:=AO) (zZ l) (λi (b:Int×Bool)=>⟨l,t,b.1,b.2,(i:Int)⟩)
  (λi b=>(b=(t,O)/\∀j,j<i->l[j]! <t)\/(b.2=Z/\∃j,j<i/\b.1=l[j]!/\t<=l[j]!/\∀k,k<j->l[k]! <t)) (λi b hi hb=>by
  obtain⟨i1,i2,hw⟩:=w3 hi hl;rcases hb with ⟨rfl,hb⟩|⟨hb,j,h1,h2,h3,h4⟩
  ·by_cases hc:t<=l[i]!
   ·refine⟨(l[i]!,Z),?_, .inr ⟨rfl,i,aj,rfl,hc,hb⟩⟩;unfold AO uK;simp only[dS,dP,i1,i2,hc,hw,dx]
   ·refine⟨(t,O),?_, .inl ⟨rfl,λj hj=> ?_⟩⟩
    ·unfold AO uK;simp only[dS,dP,i1,i2,hc,hw,dx]
    ·by_cases hji:j=i
     ·subst hji;omega
     ·exact hb j aj
  ·have hlt:=Dd h h1 hi;obtain⟨b1,b2⟩:=b;subst hb h2;refine⟨(l[j]!,Z),?_, .inr ⟨rfl,j,aj,rfl,h3,h4⟩⟩;unfold AO uK;simp only[dS,dP,i1,i2,show t<=l[i]! by omega,show ¬l[i]! <l[j]! by omega,hw,dx]) (λb _=>by unfold AO uK;simp) (b:=(t,O)) (.inl ⟨rfl,λj hj=>aj⟩)
 have e1':K3 ⟨l,t,t,O,0⟩=M ⟨l,t,v.1,v.2,(zZ l:Int)⟩:=e1;unfold anb uK;rw[e1'];dsimp only;rw[gI,fO];rcases hv with ⟨rfl,hv⟩|⟨_,j,h1,h2,h3,h4⟩
 ·rw[GO hv]
 ·rw[h2,Pq h1 h3 h4]
def VI{f:bn}{vals:aa Int}(hV:vM f.ah vals)(hn:zZ f.ah<=1000000){v n:Int}(h1:0<=v)(h2:v<zZ f.ah):afq f vals v n=M (vals.set v.toNat (gC n f.ah[v.toNat]!.aC f.ah[v.toNat]!.au)):=by
 have hl:=hV.1;unfold afq;simp only[yl,Mq];rw[Dx,Dx,Dx,Dx,bO ⟨trivial,aj⟩]
structure rA (f:bn) (top:Bool) (l:List aM) (s:CS):Prop where
 hc:cK f top l=0
 vals:vM f.ah s.vals
 t0:0<=s.time
 t:s.time+(dR l).2.2<=134217728
 o:(zZ s.outs:Int)+(dR l).2.1<=8
def akB{l:aa Int}{t:Int}(hr:jg l=Z)(hl:1<=zZ l)(h6:l[zZ l-1]!<=67108864)(ht:0<=t)(ht2:t<=134217728):0<=jS l t/\jS l t<=134217728:=by
 rcases Pc l t with ⟨e,_⟩|⟨j,h1,e,h3,_⟩
 ·omega
 ·rw[e];have:l[j]!<=l[zZ l-1]! :=by
   by_cases hj:j=zZ l-1
   ·subst hj;exact zG _
   ·exact Int.le_of_lt (Dd hr aj aj)
  omega
def rA.ok{f:bn}{top:Bool}{x:aM}{l:aa aM}{s:CS}(h:rA f top (x::l) s):ac8 f (top&&l.isEmpty) x:=Dc (iq h.hc).1
def rA.pos{f:bn}{top:Bool}{x:aM}{l:aa aM}{s:CS}(h:rA f top (x::l) s):(0<=(dR x.aQ).2.1/\0<=(dR x.aQ).2.2)/\(0<=(dR x.aX).2.1/\0<=(dR x.aX).2.2)/\(0<=(dR l).2.1/\0<=(dR l).2.2):=by
 obtain⟨h1,h2,h3,h4⟩:=iq h.hc;exact⟨jd f _ _ _ (zN _) h2,jd f _ _ _ (zN _) h3,jd f _ _ _ (zN _) h4⟩
def rA.next{f:bn}(hv:cg f.ah){hs:aa Int}{top:Bool}{x:aM}{l:aa aM}{s:CS}(h:rA f top (x::l) s):rA f top l (sj f hs (eO f hs x.aQ) (eO f hs x.aX) x s):=by
 obtain⟨h1,h2,h3,h4⟩:=iq h.hc;have ho:=h.ok;obtain⟨p1,p2,p3⟩:=h.pos;have ht:=h.t;have hou:=h.o;have h0:=h.t0;rw[(iL x l).2]at ht;rw[(iL x l).1]at hou;by_cases h6:x.cu=6
 ·obtain⟨q1,q2,q3,q4,q5⟩:=ho.US h6;have hl:l=[]:=by
   simp_all
  subst hl;have hu:uO x=(0,x.aW):=by unfold uO;simp[h6]
  have hc:=ho.cost;rw[hu]at ht hou;dsimp only at ht hou;have hb:=akB (t:=s.time+x.aW) q4 q2.1 q5 aj aj;unfold sj;simp only[lG,h6,Int.reduceEq];exact⟨h4,h.vals,hb.1,by rw[dR];dsimp only;omega,by rw[dR];dsimp only;omega⟩
 ·have i:=IZ hv (hs:=hs) ho h6 p1 p2 (nQ hv hs _ x.aQ (zN _) h2) (nQ hv hs _ x.aX (zN _) h3) s h.vals;have q1:=i.outs;have q2:=i.time;exact⟨h4,i.vals,aj,aj,aj⟩
def rA.sub{f:bn}{top:Bool}{x:aM}{l:aa aM}{s:CS}(h:rA f top (x::l) s)(h3:x.cu=3):rA f O x.aQ (s.add x.aW)/\rA f O x.aX (s.add x.aW):=by
 obtain⟨g1,g2,g3,g4⟩:=iq h.hc;have ho:=h.ok;obtain⟨p1,p2,p3⟩:=h.pos;have ht:=h.t;have hou:=h.o;have h0:=h.t0;have hc:=ho.cost;rw[(iL x l).2]at ht;rw[(iL x l).1]at hou;have hu:uO x=(max (dR x.aQ).2.1 (dR x.aX).2.1,x.aW+max (dR x.aQ).2.2 (dR x.aX).2.2):=by unfold uO;simp[h3]
 rw[hu]at ht hou;refine⟨⟨g2,h.vals,?_,?_,?_⟩,⟨g3,h.vals,?_,?_,?_⟩⟩<;>simp only[CS.add]<;>omega
structure rO (f:bn) (x:aM) (n:Nat) (s:CS):Prop where
 hc:cK f O x.aQ=0
 term:iX f.ah O x.aB=0
 cost:0<=x.aW
 vals:vM f.ah s.vals
 t0:0<=s.time
 t:s.time+n*(x.aW+(dR x.aQ).2.2)<=134217728
 o:(zZ s.outs:Int)+n*(dR x.aQ).2.1<=8
def rA.loop{f:bn}{top:Bool}{x:aM}{l:aa aM}{s:CS}(h:rA f top (x::l) s)(h4:x.cu=4):rO f x x.fN.toNat s:=by
 obtain⟨g1,g2,g3,g4⟩:=iq h.hc;have ho:=h.ok;obtain⟨p1,p2,p3⟩:=h.pos;have ht:=h.t;have hou:=h.o;have hn:=ho.n4 h4;rw[(iL x l).2]at ht;rw[(iL x l).1]at hou;have hu:uO x=(x.fN*(dR x.aQ).2.1,x.fN*(x.aW+(dR x.aQ).2.2)):=by unfold uO;simp[h4]
 rw[hu]at ht hou;have e:((x.fN.toNat:Nat):Int)=x.fN:=aj;exact⟨g2,ho.term,ho.cost.1,h.vals,h.t0,by rw[e];omega,by rw[e];omega⟩
def rO.body{f:bn}{x:aM}{n:Nat}{s:CS}(h:rO f x (n+1) s):rA f O x.aQ (s.add x.aW):=by
 have p:=jd f _ _ _ (zN _) h.hc;have ht:=h.t;have ho:=h.o;have hc:=h.cost;have h0:=h.t0;rw[Int.natCast_add,Int.add_mul]at ht ho;have e1:0<=(n:Int)*(x.aW+(dR x.aQ).2.2):=yo aj aj;have e2:0<=(n:Int)*(dR x.aQ).2.1:=yo aj aj;refine⟨h.hc,h.vals,?_,?_,?_⟩<;>simp only[CS.add]<;>omega
def rO.next{f:bn}(hv:cg f.ah)(hs:aa Int){x:aM}{n:Nat}{s:CS}(h:rO f x (n+1) s):rO f x n (eO f hs x.aQ (s.add x.aW)):=by
 have i:=nQ hv hs _ x.aQ (zN _) h.hc (s.add x.aW) h.vals;have ht:=h.t;have ho:=h.o;have hc:=h.cost;have h0:=h.t0;have q1:=i.outs;have q2:=i.time;rw[Int.natCast_add,Int.add_mul]at ht ho;simp only[CS.add]at q1 q2;exact⟨h.hc,h.term,h.cost,i.vals,by simp only[CS.add];omega,by simp only[CS.add];omega,by simp only[CS.add];omega⟩
def iB(s:CS):cG:=⟨s.vals,s.outs,s.time⟩
def drop_cons{α:Type}[Inhabited α]{l:aa α}{i:Nat}(h:i<zZ l):l.drop i=l[i]! ::l.drop (i+1):=by rw[getElem!_pos l i h];exact yX h
def atf(M77:Hi)(M137:mw){f:bn}(hv:cg f.ah)(hn:zZ f.ah<=1000000){hs:aa Int}(hh:zZ hs=zZ f.ai)
  {top:Bool} {l:aa aM} (hl:zZ l<=1000000) {s:CS} (h:rA f top l s)
  (h1:∀x∈l,∀s,rA f O x.aQ s->M77 f hs x.aQ (iB s)=M (iB (eO f hs x.aQ s)))
  (h2:∀x∈l,∀s,rA f O x.aX s->M77 f hs x.aX (iB s)=M (iB (eO f hs x.aX s)))
  (h3:∀x∈l,∀s,x.cu=4->rO f x x.fN.toNat s->M137 f hs x (iB s)=M (iB (jP (eO f hs x.aQ) x.aB x.aW x.fN.toNat s))):
  s77 M77 M137 f hs l (iB s)=M (iB (eO f hs l s)):=by
 obtain⟨v,e1,hV⟩:=cZ (rnd:=Xk M77 M137) (zZ l) (λi (b:CS×Int)=>⟨hs,l,(i:Int),f,iB b.1,⟨[],[],b.2⟩⟩)
  (λi b=>rA f top (l.drop i) b.1/\eO f hs (l.drop i) b.1=eO f hs l s) (λi b hi hb=>by
  obtain⟨b,z⟩:=b;obtain⟨hb,hr⟩:=hb;dsimp only at hb hr;rw[drop_cons hi]at hb hr;rw[qX]at hr;have hm:=bg hi;generalize hx:l[i]! =x at*;refine⟨(sj f hs (eO f hs x.aQ) (eO f hs x.aX) x b,z),?_,hb.next hv,hr⟩;have ho:=hb.ok;obtain⟨ev,ev1,ev2⟩:=u6 hv hb.vals O x.aB ho.term;obtain⟨i1,i2,hw⟩:=w3 hi hl;have hc:=ho.cost;have ht:=hb.t;have ht0:=hb.t0;have hp:=hb.pos.2.2.2;have hou:=hb.o;have hpo:=hb.pos.2.2.1;have htu:b.time+x.aW<=134217728\/x.cu=4:=by
   rw[(iL x _).2]at ht;by_cases q4:x.cu=4
   ·omega
   ·left;have:x.aW<=(uO x).2:=by
     unfold uO;have:=hb.pos;split
     ·omega
     ·split
      ·omega
      ·omega
    omega
  have hou8:(zZ b.outs:Int)<=8:=by
   rw[(iL x _).1]at hou;have:0<=(uO x).1:=by
    unfold uO;have:=hb.pos;split
    ·omega
    ·split
     ·omega
     ·split
      ·rename_i q;exact yo (ho.n4 q).1 this.1.1
      ·omega
   omega
  unfold Xk Ni;dsimp only[iB];simp only[dS,i1,i2,hx,aM.eta,ay.eta,hw];unfold sj;by_cases d4:x.cu=4
  ·have e:=h3 x hm b d4 (hb.loop d4);dsimp only[iB]at e;simp only[d4,mG,fZ,dx,e]
  have htw:ak (b.time+x.aW)=b.time+x.aW:=aI;simp only[htw];by_cases d0:x.cu=0
  ·obtain⟨v1,v2⟩:=ho.var (.inl d0);simp only[d0,Int.reduceEq,mG,ev,VI hb.vals hn v1 v2];rfl
  by_cases d1:x.cu=1
  ·simp only[dS,dP,lG,d1,Int.reduceEq,ev,yl];rw[Dx,bO (by simp;omega)]
  by_cases d5:x.cu=5
  ·obtain⟨v1,v2⟩:=ho.var (.inr d5);obtain⟨n1,n2⟩:=ho.n5 d5;simp only[dS,dP,lG,d5,Int.reduceEq,VI hb.vals hn v1 v2];rw[Dx];rfl
  by_cases d3:x.cu=3
  ·have e1:=h1 x hm _ (hb.sub d3).1;have e2:=h2 x hm _ (hb.sub d3).2;dsimp only[iB,CS.add]at e1 e2;simp only[dS,dP,lG,d3,Int.reduceEq,ev,e1,e2];by_cases hz:cV b.vals x.aB=0
   ·simp only[dP,hz,mG,ne_eq,not_true,AE];rfl
   ·simp only[dP,hz,mF,ne_eq,not_false_eq_true,dx];rfl
  by_cases d6:x.cu=6
  ·obtain⟨_,q2,_,q4,_⟩:=ho.US d6;simp only[dS,dP,lG,d6,Int.reduceEq,amz x.aR _ aj q4]
  ·simp only[d0,d1,d3,d4,d5,d6,mF,fO,AE];rfl) (λb _=>by unfold Xk Ni;simp) (b:=(s,0)) ⟨by rw[wh];exact h,by rw[wh]⟩
 obtain⟨b,z⟩:=v;have e1':Uj M77 M137 ⟨hs,l,0,f,iB s,⟨[],[],0⟩⟩=M ⟨hs,l,(zZ l:Int),f,iB b,⟨[],[],z⟩⟩:=e1;have hr:=hV.2;rw[List.drop_length,vh]at hr;unfold s77 Ni;rw[e1',<-hr];dsimp only;rw[gI,fO]
def ajS(M77:Hi)(M137:mw){f:bn}(hv:cg f.ah){hs:aa Int}{x:aM}(hN:0<=x.fN/\x.fN<=4096){s:CS}(h:rO f x x.fN.toNat s)
  (h1:∀s,rA f O x.aQ s->M77 f hs x.aQ (iB s)=M (iB (eO f hs x.aQ s))):
  avG M77 M137 f hs x (iB s)=M (iB (jP (eO f hs x.aQ) x.aB x.aW x.fN.toNat s)):=by
 obtain⟨i,v,e1,hV,hc⟩:=oO (rnd:=DG M77 M137) x.fN.toNat (λi (b:CS×Int)=>⟨hs,(i:Int),f,x,iB b.1,⟨[],[],b.2⟩⟩)
  (λi b=>rO f x (x.fN.toNat-i) b.1/\jP (eO f hs x.aQ) x.aB x.aW (x.fN.toNat-i) b.1=jP (eO f hs x.aQ) x.aB x.aW x.fN.toNat s) (λi b=>cV b.1.vals x.aB=0) (λi b hi hb=>by
  obtain⟨b,z⟩:=b;obtain⟨hb,hr⟩:=hb;dsimp only at hb hr;obtain⟨k,hk⟩:∃k,x.fN.toNat-i=k+1:=⟨x.fN.toNat-i-1,aj⟩;have hk2:x.fN.toNat-(i+1)=k:=aj;rw[hk]at hb hr;rw[jP]at hr;obtain⟨ev,_,_⟩:=u6 hv hb.vals O x.aB hb.term;have hw:ak ((i:Int)+1)=((i+1:Nat):Int):=by rw[aI];omega
  have i1:(i:Int)<x.fN:=aj;have hbb:=hb.body;have ht:=hbb.t;have hp:=jd f _ _ _ (zN _) hb.hc;have h0:=hb.t0;have hcc:=hb.cost;have htw:ak (b.time+x.aW)=b.time+x.aW:=by simp only[CS.add]at ht;exact aI
  have e:=h1 _ hbb;dsimp only[iB,CS.add]at e;by_cases hz:cV b.vals x.aB=0
  ·refine .inr ⟨?_,hz⟩;unfold DG Bx;dsimp only[iB];simp only[i1,mG,fZ,ay.eta,ev,hz]
  ·rw[bP hz]at hr;refine .inl ⟨(eO f hs x.aQ (b.add x.aW),z),?_,by rw[hk2];exact hb.next hv hs,by rw[hk2];exact hr⟩;unfold DG Bx;dsimp only[iB];simp only[i1,ay.eta,ev,hz,htw,e,aM.eta,hw];rfl) (λb _=>by
   unfold DG Bx;dsimp only;rw[gI];rfl) (b:=(s,0)) ⟨h,rfl⟩
 obtain⟨b,z⟩:=v;have e1':JJ M77 M137 ⟨hs,0,f,x,iB s,⟨[],[],0⟩⟩=M ⟨hs,(i:Int),f,x,iB b,⟨[],[],z⟩⟩:=e1;unfold avG Bx;rw[ay.eta,aM.eta];rw[e1'];obtain⟨hb,hr⟩:=hV;dsimp only at hb hr;rw[<-hr];rcases hc with rfl|⟨hi,hz⟩
 ·dsimp only;rw[gI,fO,xb,jP]
 ·obtain⟨k,hk⟩:∃k,x.fN.toNat-i=k+1:=⟨x.fN.toNat-i-1,aj⟩;rw[hk]at hb ⊢;rw[jP,bO hz];obtain⟨ev,_,_⟩:=u6 hv hb.vals O x.aB hb.term;have ht:=hb.body.t;have hp:=jd f _ _ _ (zN _) hb.hc;have h0:=hb.t0;have hcc:=hb.cost;have htw:ak (b.time+x.aW)=b.time+x.aW:=by simp only[CS.add]at ht;exact aI
  dsimp only[iB];rw[zDT,fZ,ay.eta,ev];simp only[hz,htw];rfl
def rJ{x:aM}{l:aa aM}(hx:x∈l):gF x.aQ<=gF l/\gF x.aX<=gF l:=by have:=CV hx;have:=oL x;omega
def vm{f:bn}{x:aM}:∀{top:Bool} {l:aa aM},cK f top l=0->x∈l->∃last,ac8 f last x
 |_,[],_,h=>by cases h
 |_,y::l,hc,h=>by
  obtain⟨h1,h2,h3,h4⟩:=iq hc;rcases zk.1 h with rfl|h
  ·exact⟨_,Dc h1⟩
  ·exact vm h4 h
def aex{f:bn}(hv:cg f.ah)(hn:zZ f.ah<=1000000){hs:aa Int}(hh:zZ hs=zZ f.ai):∀n:Nat,
  (∀(top:Bool) (l:aa aM) (s:CS),2*zi l<n->gF l<=1000000->rA f top l s->m77 n f hs l (iB s)=M (iB (eO f hs l s)))/\
  (∀(x:aM) (s:CS),2*zi x.aQ+1<n->gF x.aQ<=1000000->(0<=x.fN/\x.fN<=4096)->rO f x x.fN.toNat s->Y6 n f hs x (iB s)=M (iB (jP (eO f hs x.aQ) x.aB x.aW x.fN.toNat s)))
 |0=>⟨λ_ _ _ h=>aj,λ_ _ h=>aj⟩
 |n+1=>by
  obtain⟨i1,i2⟩:=aex hv hn hh n;refine⟨λtop l s h hN hb0=> ?_,λx s h hN hx hb=> ?_⟩
  ·refine atf (m77 n) (Y6 n) hv hn hh (zK (jH l) hN) hb0 (λx hx s hb=> ?_) (λx hx s hb=> ?_) (λx hx s h4 hb=> ?_)
   ·have:=(aZ hx).1;exact i1 O x.aQ s aj (zK (rJ hx).1 hN) hb
   ·have:=(aZ hx).2;exact i1 O x.aX s aj (zK (rJ hx).2 hN) hb
   ·have:=(aZ hx).1;exact i2 x s aj (zK (rJ hx).1 hN) ((vm hb0.hc hx).choose_spec.n4 h4) hb
  ·exact ajS (m77 n) (Y6 n) hv hx hb (λs hb=>i1 O x.aQ s aj hN hb)
def awP:aT:=dz
def aog:bK va awP:=aP
abbrev aw3:=Bool
def d273:Td 0 aw3:= .c [] [2] (.r 0 0 (ec 2 qb en) sn (λz=>z.1.1) (λx=>((x,()),(()))))
def aFJ:=(dX ln)
def apz:An:= .no
def aE6:dB va (awP) 0 300 273 (apz):=bF (l:=[]) func273 (aY aL) aL az
def My(a0:Int):aw3:=
 bif w9 (a0=a0)then O else Z
def aLi(a0:Int):bY va (awP) 300 (apz) 273 (aFJ.c (a0,())) [] 0 d273.rd=M (My a0):=by
 refine Eq.trans (b:=(
  M (bif w9 (a0=a0)then O else Z):af aw3)) aL ?_
 rfl
def aCu:=eL va 273 O aFJ d273 (λg=>M (My g.1))
def amB{F:aT}(h:bK va F):bK va (aCu F):=fI (sc:=sB) dQ (fo aog aE6 (λ_=>aL) (λ_=>aL) λg=>aLi g.1) ⟨_,func273,aL,aL⟩ (λ_=>aL) (λ_=>aL) h
def axz:aT:=(aCu dz)
def akV:bK va axz:=(amB aP)
abbrev awT:=Int
def d223:Td 0 awT:= .c [] [4] (.r 0 0 (ec 4 aU en) sn (λz=>z.1.1) (λx=>((x,()),(()))))
def aAR:=(dX (dX ln))
def aqc:An:= .no
def aBb:dB va (axz) 0 300 223 (aqc):=bF (l:=[]) func223 (aY aL) aL az
def Hu(a0:Int)(a1:Int):awT:=
 bif My a0 then bif My a1 then 0 else-1 else bif My a1 then 1 else bif w9 (a0<a1)then-1 else bif w9 (a1<a0)then 1 else 0
def aK2(a0:Int)(a1:Int):bY va (axz) 300 (aqc) 223 (aAR.c (a0,a1,())) [] 0 d223.rd=M (Hu a0 a1):=by
 refine Eq.trans (b:=(
  bif My a0 then bif My a1 then M (0)else M (-1)else bif My a1 then M (1)else bif w9 (a0<a1)then M (-1)else bif w9 (a1<a0)then M (1)else M (0):af awT)) aL ?_
 simp only[Hu,b6]
def aEt:=eL va 223 O aAR d223 (λg=>M (Hu g.1 g.2.1))
def aiT{F:aT}(h:bK va F):bK va (aEt F):=fI (sc:=sB) dQ (fo akV aBb (λ_=>aL) (λ_=>aL) λg=>aK2 g.1 g.2.1) ⟨_,func223,aL,aL⟩ (λ_=>aL) (λ_=>aL) h
def akR:aT:=(aEt dz)
def ajm:bK va akR:=(aiT aP)
structure uk where
 (t0 t1 t9:List Int)
 (t10 t11:Int)
def FE:Td 0 uk:= .c [] [0,1,9,10,11] (.r 0 0 (ec 0 (ql 3) (ec 1 (ql 3) (ec 9 (ql 3) (ec 10 aU (ec 11 aU en))))) sn (λz=>⟨z.1.1,z.1.2.1,z.1.t.1,z.1.t.2.1,z.1.q.1⟩) (λx=>((x.t0,x.t1,x.t9,x.t10,x.t11,()),(()))))
def ux(p:uk):af (af uk):=
 bif w9 (p.t11<p.t10)then if 0<=p.t11/\p.t11<zZ p.t9 then bif w9 (zZ p.t1<=p.t11)then M (J)else if 0<=p.t11/\p.t11<zZ p.t1 then bif bif w9 (Hu p.t9[zQ p.t11]! p.t1[zQ p.t11]! =0)then O else Z then M (J)else M (M (uk.mk p.t0 p.t1 p.t9 p.t10 (ak (p.t11+1))))else J else J else M (J)
def axO(p:uk):kO va (akR) f155.ntmps 300 (bz f155 0) .no (af uk) (FE.pat p) (kOn FE.rd)=ux p:=aL
def Js:=bX (ux)
abbrev aEf:=Int
def d155:Td 0 aEf:= .c [] [4] (.r 0 0 (ec 4 aU en) sn (λz=>z.1.1) (λx=>((x,()),(()))))
def aF1:=(lc (ql 3) (lc (ql 3) ln))
def art:An:=(noTwo (.two (noTwo (FE.lp Js .no)) .no))
def aFs:dB va (akR) 0 300 155 (art):=bF (l:=[(bz f155 0,(FE.lp Js .no))]) func155 (aY aL) aL (aA ⟨FE.ok _,DD (axO)⟩ az)
def agb(a0:aa Int)(a1:aa Int):af aEf:=
 match Js (uk.mk a0 a1 a0 (zZ a0) 0)with|J=>J|M r1=>bif w9 (r1.t11<r1.t10)then if 0<=r1.t11/\r1.t11<zZ r1.t9 then bif w9 (zZ r1.t1<=r1.t11)then M 1 else if 0<=r1.t11/\r1.t11<zZ r1.t1 then bif bif w9 (Hu r1.t9[zQ r1.t11]! r1.t1[zQ r1.t11]! =0)then O else Z then M (Hu r1.t9[zQ r1.t11]! r1.t1[zQ r1.t11]!)else J else J else J else bif w9 ((zZ r1.t0:Int)<(zZ r1.t1:Int))then M (-1)else M 0
def aI5(a0:aa Int)(a1:aa Int):bY va (akR) 300 (art) 155 (aF1.c (a0,a1,())) [] 0 d155.rd=agb a0 a1:=aL
def aCm:=eL va 155 O aF1 d155 (λg=>agb g.1 g.2.1)
def ani{F:aT}(h:bK va F):bK va (aCm F):=fI (sc:=sB) dQ (fo ajm aFs (λ_=>aL) (λ_=>aL) λg=>aI5 g.1 g.2.1) ⟨_,func155,aL,aL⟩ (λ_=>aL) (λ_=>aL) h
def F88:aT:=(aCm dz)
def awh:bK va F88:=(ani aP)
abbrev E88:=Int
def d88:Td 0 E88:= .c [] [4] (.r 0 0 (ec 4 aU en) sn (λz=>z.1.1) (λx=>((x,()),(()))))
def A88:=(lc (qg 55) (lc (qg 55) ln))
def aDA:An:= .no
def aIb:dB va (F88) 0 300 88 (aDA):=bF (l:=[]) func88 (aY aL) aL az
def m88(a0:bB)(a1:bB):af E88:=
 match agb a0.bJ a1.bJ with|J=>J|M r1=>bif bif w9 (r1=0)then O else Z then M (r1)else bif w9 (a0.aN<a1.aN)then M (-1)else bif w9 (a1.aN<a0.aN)then M (1)else M (0)
def c88(a0:bB)(a1:bB):bY va (F88) 300 (aDA) 88 (A88.c (a0,a1,())) [] 0 d88.rd=m88 a0 a1:=aL
def e88:=eL va 88 O A88 d88 (λg=>m88 g.1 g.2.1)
def at4{F:aT}(h:bK va F):bK va (e88 F):=fI (sc:=sB) dQ (fo awh aIb (λ_=>aL) (λ_=>aL) λg=>c88 g.1 g.2.1) ⟨_,func88,aL,aL⟩ (λ_=>aL) (λ_=>aL) h
def F90:aT:=(e88 dz)
def awS:bK va F90:=(at4 aP)
abbrev E90:=Bool
def d90:Td 0 E90:= .c [] [4] (.r 0 0 (ec 4 qb en) sn (λz=>z.1.1) (λx=>((x,()),(()))))
def A90:=(lc (qg 55) (lc (qg 55) ln))
def azC:An:= .no
def aKL:dB va (F90) 0 300 90 (azC):=bF (l:=[]) func90 (aY aL) aL az
def m90(a0:bB)(a1:bB):af E90:=
 match m88 a0 a1 with|J=>J|M r1=>M (w9 (r1=0))
def c90(a0:bB)(a1:bB):bY va (F90) 300 (azC) 90 (A90.c (a0,a1,())) [] 0 d90.rd=m90 a0 a1:=aL
def e90:=eL va 90 O A90 d90 (λg=>m90 g.1 g.2.1)
def ax4{F:aT}(h:bK va F):bK va (e90 F):=fI (sc:=sB) dQ (fo awS aKL (λ_=>aL) (λ_=>aL) λg=>c90 g.1 g.2.1) ⟨_,func90,aL,aL⟩ (λ_=>aL) (λ_=>aL) h
def Sa:aa Int->aa Int->Int
 |[],[]=>0
 |[],_::_=> -1
 |_::_,[]=>1
 |x::a,y::b=>if x<y then-1 else if y<x then 1 else Sa a b
def Ol(x y:bB):Int:=if Sa x.bJ y.bJ≠0 then Sa x.bJ y.bJ else if x.aN<y.aN then-1 else if y.aN<x.aN then 1 else 0
def akD(x y:Int):Hu x y=if x<y then-1 else if y<x then 1 else 0:=by
 unfold Hu My;by_cases h:x<y
 ·simp[h]
 ·by_cases k:y<x<;>simp[h]
def abL(a b:aa Int)(ha:zZ a<=9223372036854775807\/b.length<=9223372036854775807):agb a b=M (Sa a b):=by
 obtain⟨step,hs⟩:∃step:Nat->Unit->Int->Unit ⊕ Int,step=λi _ x=>if zZ b<=i then .inr 1 else if Hu x b[i]!≠0 then .inr (Hu x b[i]!)else .inl ():=⟨_,rfl⟩
 obtain⟨fin,hf⟩:∃fin:Unit->af Int,fin=λ_=>M (if zZ a<zZ b then-1 else 0):=⟨_,rfl⟩;obtain⟨i,v,e1,-,hI⟩:=Vo (rnd:=ux) a (λi (_:Unit)=>⟨a,b,a,(zZ a:Int),(i:Int)⟩) step M fin (λ_ _=>True) (λi v hi _=>by
  have i1:(i:Int)<(zZ a:Int):=aj;have i2:(0:Int)<=(i:Int):=aj;rw[hs];refine⟨λb' h=>⟨?_,trivial⟩,λr h=> ?_⟩<;>dsimp only at h
  ·split at h
   ·cases h
   ·split at h
    ·cases h
    ·rename_i g1 g2;have g3:¬(zZ b:Int)<=(i:Int):=aj;have g4:(i:Int)<(zZ b:Int):=aj;have hw:ak ((i:Int)+1)=((i+1:Nat):Int):=by rw[aI];omega
     unfold ux;simp only[dS,dP,i1,i2,g3,g4,dx,hw,Decidable.not_not.1 g2]
  ·split at h
   ·rename_i g1;have g3:(zZ b:Int)<=(i:Int):=aj;unfold ux;simp only[dS,i1,i2,g3,fZ,dx]
   ·split at h
    ·rename_i g1 g2;have g3:¬(zZ b:Int)<=(i:Int):=aj;have g4:(i:Int)<(zZ b:Int):=aj;unfold ux;simp only[dS,dP,i1,i2,g3,g4,dx,g2]
    ·cases h) (λv _=>by unfold ux;simp) (b:=()) trivial
 have e1':Js ⟨a,b,a,(zZ a:Int),0⟩=M ⟨a,b,a,(zZ a:Int),(i:Int)⟩:=e1;have key:∀(l:aa Int) (k:Nat),k<=zZ b->zZ a=k+zZ l->QB step M fin l k ()=M (Sa l (b.drop k)):=by
  intro l;induction l with
  |nil=>
   intro k hk hl;simp only[hf];simp only[yP]at hl;by_cases h:k=zZ b
   ·rw[h,List.drop_length,nB];rfl
   ·rw[yX aj,Dx];rfl
  |cons x l ih=>
   intro k hk hl;simp only[ya]at hl;by_cases h:k=zZ b
   ·rw[ox (r:=1) (by rw[hs];simp[h]),h,List.drop_length];rfl
   ·have hk':k<zZ b:=aj;rw[yX hk'];have e:=akD x b[k]!;have eb:b[k]! =b[k]:=getElem!_pos b k hk';rw[eb]at e;unfold Sa;by_cases h1:x<b[k]
    ·rw[ox (r:= -1) (by rw[hs];simp[show ¬b.length<=k by omega,e,eb,h1]),bO h1]
    ·by_cases h2:b[k]<x
     ·rw[ox (r:=1) (by rw[hs];simp[show ¬b.length<=k by omega,e,eb,h1,h2]),bP h1,bO h2]
     ·rw[rL (b':=()) (by rw[hs];simp[show ¬b.length<=k by omega,e,eb,h1,h2]),bP h1,bP h2];exact ih (k+1) aj aj
 have hk:=key a 0 aj aj;rw[wh]at hk;rw[<-hk];unfold agb;simp only[e1'];rcases hI with ⟨rfl,hg⟩|⟨hi,r,hr,hg⟩
 ·rw[hg,hf];simp only[zO,mF,fO];by_cases h:zZ a<zZ b
  ·rw[bO h,l8 (by omega:(zZ a:Int)<(zZ b:Int))];rfl
  ·rw[bP h,iU (by omega:¬(zZ a:Int)<(zZ b:Int))];rfl
 ·rw[hg];have i1:(i:Int)<(zZ a:Int):=aj;have i2:(0:Int)<=(i:Int):=aj;rw[hs]at hr;simp only at hr;split at hr
  ·rename_i g1;have g3:(zZ b:Int)<=(i:Int):=aj;simp only[dS,i1,i2,g3,fZ,dx];cases hr;rfl
  ·split at hr
   ·rename_i g1 g2;have g3:¬(zZ b:Int)<=(i:Int):=aj;have g4:(i:Int)<(zZ b:Int):=aj;simp only[dS,dP,i1,i2,g3,g4,dx,g2];cases hr;rfl
   ·cases hr
def ajL(a b:bB)(ha:zZ a.bJ<=9223372036854775807\/b.bJ.length<=9223372036854775807):m88 a b=M (Ol a b):=by
 unfold m88 Ol;rw[abL _ _ ha];by_cases h:Sa a.bJ b.bJ=0
 ·by_cases h1:a.aN<b.aN
  ·simp[h,h1]
  ·by_cases h2:b.aN<a.aN<;>simp[h,h1,h2]
 ·simp[h]
def atZ(a b:bB)(ha:zZ a.bJ<=9223372036854775807):m88 a b=M (Ol a b):=ajL a b (.inl ha)
def KS:bB->aa bB->aa bB
 |_,[]=>[]
 |p,y::l=>if Ol y p=0 then KS y l else y::KS y l
def SJ:aa bB->aa bB
 |[]=>[]
 |x::l=>x::KS x l
end Go.Proofs.YtghilkcphindjaaGreat
namespace Go.Proofs.YtghilkcphindjaaGreat
open Go Go.Iv Go.Sort Go.Proofs Go.Shelf Go.RowKit Go.Lib
set_option maxHeartbeats 4000000 in
def Ud(W:World)(bj bb bl n cap i j:Nat)(a b:Int)(h1:W.cell? ⟨bj,0,J⟩=M (.pointer (M ⟨bb,0,J⟩)))(h2:W.cell? ⟨bb,0,J⟩=M (.slice (M ⟨bl,0,J⟩) n cap))
  (h3:W.cell? ⟨bl,i,J⟩=M (.int .i64 a)) (h4:W.cell? ⟨bl,j,J⟩=M (.int .i64 b)) (hi:(i:Int)<(n:Int)) (hj:(j:Int)<(n:Int)) (hn:(n:Int)<=9223372036854775807) (ha: -2305843009213693952<=a/\a<=2305843009213693952) (hb: -2305843009213693952<=b/\b<=2305843009213693952):
  Calls va 276 #[.int .i64 i, .int .i64 j, .pointer (M ⟨bj,0,J⟩)] W λe w'=>e= .returned (.int .i64 (a-b))/\∃q,w'=W.drewN q:=by
 have hw:ak (a-b)=a-b:=by rw[ak,IntKind.wrap_i64];omega
 have t3:=underlying3;have a3:=Tryz.isAgg3;have z3:=Tryz.sizeOf3;have v3:=Tryz.zeroValue3
 have t46:=underlying46;have a46:=Tryz.isAgg46;have z46:=Tryz.sizeOf46;have v46:=Tryz.zeroValue46
 have t239:=underlying239;have a239:=Tryz.isAgg239;have z239:=Tryz.sizeOf239;have v239:=Tryz.zeroValue239
 have t296:=underlying296;have u296:=run_underlying (P:=va) underlying296;have i0:(0:Int)<=(i:Int):=aj;have j0:(0:Int)<=(j:Int):=aj
 go_enter func276,Tryz.ntmps276
 go_wp2_with fail
 go_quiet (fail)
 go_wp2
 go_ret
 exact⟨rfl,nq,rfl⟩
section
variable {α:Type} [Inhabited α] (r:α->α->Bool)
def PR(d:Array α)(j:Nat):Bool:=w9 (j=0)|| !r d[j]! d[j-1]!
def HI(d:Array α)(m:Nat):aa α:=((zy m).filter (PR r d)).map (d[·]!)
variable {r}
def kM(d:Array α)(m:Nat):HI r d (m+1)=HI r d m++(if PR r d m then[d[m]!]else[]):=by
 unfold HI;rw[xH,yj,zH];grind
def Ms(d:Array α)(m:Nat)(h:∀j,j<m->PR r d j=Z):HI r d m=(zy m).map (d[·]!):=by
 unfold HI;rw[wu.2 (λj hj=>h j (xM.1 hj))]
def R9(d:Array α):(zy d.size).map (d[·]!)=d.toList:=by
 apply xI
 ·simp
 ·intro i h1 h2;have hi:i<d.size:=by simpa using h2
  simp[hi]
structure CE (r:α->α->Bool) (d:Array α) (m k:Nat) (dk:Array α):Prop where
 size:dk.size=d.size
 len:zZ (HI r d m)=k
 lt:k<m
 low:∀j,j<k->(HI r d m)[j]? =M dk[j]!
 high:∀j,k<=j->dk[j]! =d[j]!
def CE.start{d:Array α}{k0:Nat}(hall:∀j,j<k0->PR r d j=Z)(hdup:PR r d k0=O):CE r d (k0+1) k0 d where
 size:=rfl
 len:=by rw[kM,hdup,Ms d k0 hall];simp
 lt:=zN _
 low:=λj hj=>by rw[kM,hdup,Ms d k0 hall];simp[hj]
 high:=λ_ _=>rfl
def CE.keep{d dk:Array α}{m k:Nat}(h:CE r d m k dk)(hm:m<d.size)(hk:PR r d m=Z):CE r d (m+1) (k+1) (dk.setIfInBounds k d[m]!) where
 size:=by simp[h.size]
 len:=by rw[kM,hk];simp[h.len]
 lt:=by have:=h.lt;omega
 low:=λj hj=>by
  rw[kM,hk,bO rfl];by_cases e:j=k
  ·subst e;rw[wK (by rw[h.len];exact zx _),h.len,xb,getElem!_set_same dk j _ (by have:=h.lt;have:=h.size;omega)];rfl
  ·rw[wH (by rw[h.len];omega),h.low j aj,getElem!_set_other dk k j _ e]
 high:=λj hj=>by rw[getElem!_set_other dk k j _ aj,h.high j aj]
def CE.skip{d dk:Array α}{m k:Nat}(h:CE r d m k dk)(hk:PR r d m=O):CE r d (m+1) k dk where
 size:=h.size
 len:=by rw[kM,hk];simpa using h.len
 lt:=by have:=h.lt;omega
 low:=λj hj=>by rw[kM,hk];simpa using h.low j hj
 high:=h.high
end
section
variable {P:Program} {α:Type} [Inhabited α] {enc:α->aa Value} {k:Nat} {w0 W:World} {blk off:Nat} {dk:Array α}
def Nn(hk:∀x,zZ (enc x)=k)(d:Array α)(i:Nat)(hi:i<d.size)(x:α):setMany (flatK enc k d) (i*k) (enc x)=flatK enc k (d.setIfInBounds i x):=by
 refine ext_get! (by simp) λt ht=> ?_;have ht':t<d.size*k:=by simpa using ht
 have k0:0<k:=by
  rcases wD k with h|h
  ·simp_all
  ·exact h
 rw[get_setMany _ _ _ t (by simpa using ht'),get_flatK _ _ _ t ht',get_flatK _ _ _ t (by simpa using ht'),hk];by_cases a:t/k=i
 ·rw[bO ((blk_iff k i t k0).2 a),a,getElem!_set_same d i x hi,Nat.mod_eq_sub_div_mul,a]
 ·rw[bP (λh=>a ((blk_iff k i t k0).1 h)),getElem!_set_other d i _ x a]
def RQ(h:SWK enc k w0 blk off dk W)(hk:∀x,zZ (enc x)=k)(hb:blk<w0.heap.size)(i:Nat)(hi:i<dk.size)(x:α):SWK enc k w0 blk off (dk.setIfInBounds i x) (W.setCells blk (off+i*k) (enc x)):=by
 obtain⟨n,os,rfl⟩:=h;refine⟨n,os,?_⟩;unfold sortWorldK;rw[setCells_grow os blk _ _ _ (by show blk<(putRowK enc k _ blk off dk).heap.size;rw[size_putRowK];exact hb)];unfold putRowK;have:=yS k (show i+1<=dk.size from hi);rw[yw,Nat.one_mul]at this;rw[setCells_putRow _ _ _ _ _ _ (by rw[hk,size_flatK];exact this),Nn hk dk i hi x]
def alK(h:SWK enc k w0 blk off dk W){d0:Array α}(R:RowK enc k w0 blk off d0)(hs:dk.size=d0.size)(P:Program)(i:Nat)(hi:i<dk.size)(x:α):
  Sem.run P (storeCells ⟨blk,off+i*k,J⟩ (enc x) 0) W= .ok () (W.setCells blk (off+i*k) (enc x)):=
 stores_of_holds P (h.holds R.hblk R.hH hs) (i*k) _ (by rw[R.hk,size_flatK];exact rowK_bnd dk k i hi) (R.h1 _)
def CX(enc:α->aa Value)(k:Nat)(w0:World)(blk off:Nat)(dk:Array α)(W:World):Prop:=∃q,SWK enc k (redrawn w0 q) blk off dk W
def uV{d0:Array α}(R:RowK enc k w0 blk off d0)(q:Nat):RowK enc k (redrawn w0 q) blk off d0:=⟨R.hk,R.h1,R.hH,R.hblk⟩
def CX.start{d0:Array α}(h:HoldsK enc k w0 blk off d0):CX enc k w0 blk off d0 w0:=⟨w0.drawn,SWK.start h⟩
def CX.grown(h:CX enc k w0 blk off dk W)(d:Nat)(os:Array Obj):CX enc k w0 blk off dk (grow (redrawn W d) os):=by
 obtain⟨q,n,os0,rfl⟩:=h;have h1:SWK enc k (redrawn w0 d) blk off dk (redrawn (sortWorldK enc k (redrawn w0 q) blk off n dk os0) d):=⟨0,os0,rfl⟩;exact⟨d,h1.grown 0 os⟩
def CX.ld{d0:Array α}(h:CX enc k w0 blk off dk W)(R:RowK enc k w0 blk off d0)(hs:dk.size=d0.size)(P:Program)(i:Nat)(hi:i<dk.size)(n:Nat)(os:Array Obj):
  Sem.run P (loadCellsFrom ⟨blk,off+i*k,J⟩ 0 k #[]) (grow (redrawn W n) os)= .ok (enc dk[i]!).toArray (grow (redrawn W n) os):=by
 obtain⟨q,h1⟩:=h.grown n os;exact h1.load (uV R q) hs P i hi
def R7(h:CX enc k w0 blk off dk W)(hk:∀x,zZ (enc x)=k)(hb:blk<w0.heap.size)(i:Nat)(hi:i<dk.size)(x:α):CX enc k w0 blk off (dk.setIfInBounds i x) (W.setCells blk (off+i*k) (enc x)):=by
 obtain⟨q,h⟩:=h;exact⟨q,RQ h hk hb i hi x⟩
def am4{d0:Array α}(h:CX enc k w0 blk off dk W)(R:RowK enc k w0 blk off d0)(hs:dk.size=d0.size)(P:Program)(i:Nat)(hi:i<dk.size)(x:α):
  Sem.run P (storeCells ⟨blk,off+i*k,J⟩ (enc x) 0) W= .ok () (W.setCells blk (off+i*k) (enc x)):=by
 obtain⟨q,h⟩:=h;exact alK h (uV R q) hs P i hi x
def oC{f:FuncId}{args:Array Value}{w:World}{n:Nat}{os:Array Obj}{v:Value}
  (h:Calls P f args (grow (redrawn w n) os) λe w'=>e= .returned v/\∃q os',w'=grow (redrawn (grow (redrawn w n) os) q) os'):Calls P f args (grow (redrawn w n) os) λe w''=>e= .returned v/\∃p:Regrown,w''=grow (redrawn w p.d) p.os:=
 h.mono λ_ _ ⟨he,q,os',hq⟩=>⟨he,⟨q,os++os'⟩,by rw[hq];show grow (grow (redrawn w q) os) os'=_;rw[grow_grow]⟩
end
set_option maxHeartbeats 8000000 in
set_option maxRecDepth 1000000 in
def ahN{P:Program}{α:Type}[Inhabited α](FG:P.funcs[89]? =M f89)(mixed:P.follows .mixedOrders=Z)
  (t3:P.underlying 3=M (.int .i64)) (a3:∀w,(isAgg 3).run P w= .ok O w) (z3:∀w,(Go.sizeOf 3).run P w= .ok 1 w) (v3:∀w,(zeroValue 3).run P w= .ok (.int .i64 0) w)
  (t4:P.underlying 4=M .bool) (a4:∀w,(isAgg 4).run P w= .ok O w) (z4:∀w,(Go.sizeOf 4).run P w= .ok 1 w) (v4:∀w,(zeroValue 4).run P w= .ok (.bool O) w)
  (t74:P.underlying 74=M (.slice 55)) (a74:∀w,(isAgg 74).run P w= .ok O w) (z74:∀w,(Go.sizeOf 74).run P w= .ok 1 w) (v74:∀w,(zeroValue 74).run P w= .ok (.slice J 0 0) w)
  (k:Nat) (aE:∀w,(isAgg 55).run P w= .ok Z w) (zE:∀w,(Go.sizeOf 55).run P w= .ok k w)
  (enc:α->aa Value) (r:α->α->Bool) (g:Nat) (cb:Array Value) (blk off cap:Nat) (d:Array α) (w:World)
  (eg:∀args w,(callFunc g args).run P w= .ok (.enter g args) w)
  (hcmp:∀(dk:Array α) (W:World),dk.size=d.size->CX enc k w blk off dk W->∀x y:α,Calls P g (#[.agg (enc x).toArray, .agg (enc y).toArray]++cb) W λe w'=>e= .returned (.bool (r x y))/\∃q os',w'=grow (redrawn W q) os')
  (R:RowK enc k w blk off d) (hsz:d.size<4611686018427387904) (hcap:d.size<=cap)
  (zs:Nat->aa Value) (hclr:∀(W:World) (dk:Array α) (kk:Nat),CX enc k w blk off dk W->dk.size=d.size->kk<d.size->∀ty,(Builtin.clear_ #[74] ty #[.slice (M ⟨blk,off+kk*k,J⟩) (d.size-kk) (cap-kk)]).run P W= .ok (.tuple #[]) (W.setCells blk (off+kk*k) (zs kk))):
  Calls P 89 #[.slice (M ⟨blk,off,J⟩) d.size cap, .func (.func g) #[] cb] w λe w'=>
   e= .returned (.slice (M ⟨blk,off,J⟩) (HI r d d.size).length cap)/\∃(dk:Array α) (W:World),CX enc k w blk off dk W/\dk.size=d.size/\(∀j,j<zZ (HI r d d.size)->(HI r d d.size)[j]? =M dk[j]!)/\
    (w'=W\/w'=W.setCells blk (off+zZ (HI r d d.size)*k) (zs (HI r d d.size).length)):=by
 have S00:CX enc k w blk off d w:=CX.start R.hH;have HC:Aside _:=hcmp;have HCL:Aside _:=hclr;have S0:Aside (CX enc k w blk off d w):=S00;have same:∀W,CX enc k w blk off d W->(∀j,j<d.size->PR r d j=Z)->zZ (HI r d d.size)=d.size/\∃(dk:Array α) (W':World),CX enc k w blk off dk W'/\dk.size=d.size/\(∀j,j<zZ (HI r d d.size)->(HI r d d.size)[j]? =M dk[j]!)/\(W=W'\/W=W'.setCells blk (off+zZ (HI r d d.size)*k) (zs (HI r d d.size).length)):=λW hS hall=>by
  have e:HI r d d.size=d.toList:=by rw[Ms d _ hall,R9]
  refine⟨by rw[e];simp,d,W,hS,rfl,λj hj=> ?_, .inl rfl⟩;rw[e]at hj ⊢;have hj':j<d.size:=by simpa using hj
  rw[zD hj,getElem!_pos d j hj'];simp
 have HS:Aside _:=same;have kp1:∀j,j<1->PR r d j=Z:=λj hj=>by
  have:j=0:=aj;subst this;rfl
 clear same S00 hcmp hclr;by_cases h2:d.size<2
 ·have K1:Aside (∀j,j<1->PR r d j=Z):=kp1;clear kp1
  go_enter FG,Tryz.ntmps89
  go_wp2
  go_ret
  obtain⟨e1,e2⟩:=HS.out w S0.out (λj hj=>K1.out j aj);exact⟨by rw[e1];rfl,e2⟩
 ·have K1:Aside (∀j,j<1->PR r d j=Z):=kp1;clear kp1
  go_enter FG,Tryz.ntmps89
  go_wp2
  go_loopg [5] d.size (λg1 s5 wr=>∃(k1:Nat),s5= .int .i64 k1/\1<=k1/\k1<=d.size/\d.size-k1<=g1/\Aside (CX enc k w blk off d wr)/\Aside (∀j,j<k1->PR r d j=Z))
  case atStart=>exact⟨1,rfl,zx _,aj,aj,S0,K1⟩
  case round=>
   obtain⟨k1,rfl,hk1,hk2,hg,S1,A1⟩:=hrel;by_cases hlt:k1<d.size
   ·obtain⟨kp,rfl⟩:∃kp,k1=kp+1:=⟨k1-1,aj⟩;obtain⟨xj,hxj⟩:∃x,d[kp+1]! =x:=⟨_,rfl⟩;obtain⟨xp,hxp⟩:∃x,d[kp]! =x:=⟨_,rfl⟩;have hwp:ak (kp:Int)=(kp:Int):=by rw[ak,IntKind.wrap_i64];omega
    have jz:(kp:Int)+1<(d.size:Int):=aj;have jz1:(kp:Int)<(d.size:Int):=aj;have p0:(0:Int)<=(kp:Int)+1:=aj;have e0:((kp:Int)+1).toNat=kp+1:=aj;have lj:∀n' os',Sem.run P (loadCellsFrom ⟨blk,off+(kp+1)*k,J⟩ 0 k #[]) (grow (redrawn wr n') os')= .ok (enc xj).toArray (grow (redrawn wr n') os'):=λn' os'=>by
     rw[<-hxj];exact S1.out.ld R rfl P (kp+1) hlt n' os'
    have lp:∀n' os',Sem.run P (loadCellsFrom ⟨blk,off+kp*k,J⟩ 0 k #[]) (grow (redrawn wr n') os')= .ok (enc xp).toArray (grow (redrawn wr n') os'):=λn' os'=>by
     rw[<-hxp];exact S1.out.ld R rfl P kp aj n' os'
    have hcg:∀n' os',Calls P g (#[.agg (enc xj).toArray, .agg (enc xp).toArray]++cb) (grow (redrawn wr n') os') λe w'=>e= .returned (.bool (r xj xp))/\∃q os'',w'=grow (redrawn (grow (redrawn wr n') os') q) os'':=λn' os'=>HC.out d _ rfl (S1.out.grown n' os') xj xp;cases hr:r xj xp with
    |true=>
     rw[hr]at hcg
     go_wp2_with fail
     refine wp_region_quiet_below (by assumption) aL ?_
     repeat (quiet_step (first|(go_at_fn g;refine oC (hcg _ _))))
     refine wpQuiet_nil ?_;intro _ hw';obtain⟨⟨nq,osq⟩,hw''⟩:=hw';subst hw'';have S2:Aside (CX enc k w blk off d (grow (redrawn wr nq) osq)):=S1.out.grown nq osq;have I0:Aside (CE r d (kp+1+1) (kp+1) d):=CE.start A1.out (by unfold PR;rw[Nat.add_sub_cancel,hxj,hxp,hr];simp);clear lj lp hcg;generalize grow (redrawn wr nq) osq=wq at S2 ⊢
     go_wp2
     go_loopg [5,7] d.size (λg2 s5 s7 wr=>∃(kk k2:Nat) (dk:Array α),s5= .int .i64 kk/\s7= .int .i64 k2/\1<=k2/\kp+1+k2<=d.size/\d.size-(kp+1+k2)<=g2/\Aside (CX enc k w blk off dk wr)/\Aside (CE r d (kp+1+k2) kk dk))
     case atStart=>exact⟨kp+1,1,d,rfl,rfl,zx _,aj,aj,S2,I0⟩
     case round=>
      obtain⟨kk,k2,dk,rfl,rfl,hk21,hle,hg2,S3,I3⟩:=hrel;have hds:=I3.out.size;have hkk:=I3.out.lt;by_cases hlt2:kp+1+k2<d.size
      ·obtain⟨kq,rfl⟩:∃kq,k2=kq+1:=⟨k2-1,aj⟩;obtain⟨xm,hxm⟩:∃x,d[kp+1+(kq+1)]! =x:=⟨_,rfl⟩;obtain⟨xq,hxq⟩:∃x,d[kp+1+kq]! =x:=⟨_,rfl⟩;have hm:dk[kp+1+(kq+1)]! =xm:=by rw[I3.out.high _ aj,hxm]
       have hq:dk[kp+1+kq]! =xq:=by rw[I3.out.high _ aj,hxq]
       have hwq:ak (kq:Int)=(kq:Int):=by rw[ak,IntKind.wrap_i64];omega
       have q0:(0:Int)<=(kq:Int)+1:=aj;have f0:((kq:Int)+1).toNat=kq+1:=aj;have lm:∀n' os',Sem.run P (loadCellsFrom ⟨blk,off+(kp+1)*k+(kq+1)*k,J⟩ 0 k #[]) (grow (redrawn wr n') os')= .ok (enc xm).toArray (grow (redrawn wr n') os'):=λn' os'=>by
        have:=S3.out.ld R hds P (kp+1+(kq+1)) aj n' os';rw[hm,yw (kp+1) (kq+1),<-xD]at this;exact this
       have lq:∀n' os',Sem.run P (loadCellsFrom ⟨blk,off+(kp+1)*k+kq*k,J⟩ 0 k #[]) (grow (redrawn wr n') os')= .ok (enc xq).toArray (grow (redrawn wr n') os'):=λn' os'=>by
        have:=S3.out.ld R hds P (kp+1+kq) aj n' os';rw[hq,yw (kp+1) kq,<-xD]at this;exact this
       have hcg:∀n' os',Calls P g (#[.agg (enc xm).toArray, .agg (enc xq).toArray]++cb) (grow (redrawn wr n') os') λe w'=>e= .returned (.bool (r xm xq))/\∃q os'',w'=grow (redrawn (grow (redrawn wr n') os') q) os'':=λn' os'=>HC.out dk _ hds (S3.out.grown n' os') xm xq;have jl:(kq:Int)+1<((d.size-(kp+1):Nat):Int):=aj;have jl1:(kq:Int)<((d.size-(kp+1):Nat):Int):=aj;cases hr2:r xm xq with
       |true=>
        rw[hr2]at hcg
        go_wp2_with fail
        refine wp_region_quiet_below (by assumption) aL ?_
        repeat (quiet_step (first|(go_at_fn g;refine oC (hcg _ _))))
        refine wpQuiet_nil ?_;intro _ hw';obtain⟨⟨nq,osq⟩,hw''⟩:=hw';subst hw''
        go_wp2
        go_roundg (d.size-(kp+1+(kq+1+1)))
        case measure=>omega
        case rel=>exact⟨kk,kq+1+1,dk,rfl,by go_num,aj,aj,zx _,S3.out.grown nq osq,I3.out.skip (by unfold PR;rw[show kp+1+(kq+1)-1=kp+1+kq by omega,hxm,hxq,hr2];simp)⟩
       |false=>
        rw[hr2]at hcg
        go_wp2_with fail
        refine wp_region_quiet_below (by assumption) aL ?_
        repeat (quiet_step (first|(go_at_fn g;refine oC (hcg _ _))))
        refine wpQuiet_nil ?_;intro _ hw';obtain⟨⟨nq,osq⟩,hw''⟩:=hw';subst hw'';have lm3:=lm nq osq;have S4:Aside (CX enc k w blk off dk (grow (redrawn wr nq) osq)):=S3.out.grown nq osq;have st:=am4 S4.out R hds P kk aj xm;have S5:Aside (CX enc k w blk off (dk.setIfInBounds kk xm) ((grow (redrawn wr nq) osq).setCells blk (off+kk*k) (enc xm))):=R7 S4.out R.hk R.hblk kk aj xm;have hlm:zZ (enc xm)=k:=R.hk xm;have I4:Aside (CE r d (kp+1+(kq+1)+1) (kk+1) (dk.setIfInBounds kk xm)):=by
         have:=I3.out.keep hlt2 (by unfold PR;rw[show kp+1+(kq+1)-1=kp+1+kq by omega,hxm,hxq,hr2];simp)
         rwa [hxm]at this
        have kz:(kk:Int)<(d.size:Int):=aj;have kz0:(0:Int)<=(kk:Int):=aj;clear lm lq hcg;generalize grow (redrawn wr nq) osq=wq3 at lm3 S4 st S5 ⊢;generalize enc xm=cm at lm3 st S5 hlm
        go_wp2
        go_roundg (d.size-(kp+1+(kq+1+1)))
        case measure=>omega
        case rel=>exact⟨kk+1,kq+1+1,dk.setIfInBounds kk xm,by go_num,by go_num,aj,aj,zx _,S5,I4⟩
      ·have hend:kp+1+k2=d.size:=aj;have hcl:=λty=>HCL.out wr dk kk S3.out hds aj ty;have kz:(kk:Int)<=(d.size:Int):=aj;have kz1:(kk:Int)<=(cap:Int):=aj
       go_wp2
       go_ret
       have hI:=I3.out;rw[hend]at hI;exact⟨by rw[hI.len];rfl,dk,wr,S3.out,hds,λj hj=>hI.low j (by rw[<-hI.len];exact hj), .inr (by rw[hI.len])⟩
    |false=>
     rw[hr]at hcg
     go_wp2_with fail
     refine wp_region_quiet_below (by assumption) aL ?_
     repeat (quiet_step (first|(go_at_fn g;refine oC (hcg _ _))))
     refine wpQuiet_nil ?_;intro _ hw';obtain⟨⟨nq,osq⟩,hw''⟩:=hw';subst hw''
     go_wp2
     go_roundg (d.size-(kp+1+1))
     case measure=>omega
     case rel=>
      refine⟨kp+1+1,by go_num,aj,aj,zx _,S1.out.grown nq osq,λj hj=> ?_⟩;by_cases e:j=kp+1
      ·subst e;unfold PR;rw[Nat.add_sub_cancel,hxj,hxp,hr];simp
      ·exact A1.out j aj
   ·have:k1=d.size:=aj;subst this
    go_wp2
    go_ret
    obtain⟨e1,e2⟩:=HS.out _ S1.out A1.out;exact⟨by rw[e1];rfl,e2⟩
set_option maxHeartbeats 1000000 in
def Mr(FG:va.funcs[89]? =M f89)(p:af Addr)(cap:Nat)(fv:Value)(w:World):
  Calls va 89 #[.slice p 0 cap,fv] w λe w'=>e= .returned (.slice p 0 cap)/\w'=w:=by
 go_enter FG,Tryz.ntmps89
 go_wp2
 go_ret
 simp
end Go.Proofs.YtghilkcphindjaaGreat
namespace Go.Proofs.YtghilkcphindjaaGreat
open Go Go.Iv Go.Sort Go.Proofs
abbrev ava:=aa Int×aa Int×aa bu×ga×cR×Bool
def azf:=(sr 0 3 (sb 1 239 (lc (qp 2 0) ln) (sb 2 296 (lc (qo 3) (lc (qo 4) (lc (qo 5) (lc (qo 6) (lc qb ln))))) (sr 3 3 (sr 4 113 (sm 5 .k1 .i (sm 6 .k3 .i sn)))))))
def d275:Td 7 ava:= .c [] [] (.r 7 7 en (sr 0 3 (sb 1 239 (lc (qp 2 0) ln) (sb 2 296 (lc (qo 3) (lc (qo 4) (lc (qo 5) (lc (qo 6) (lc qb ln))))) (sr 3 3 (sr 4 113 (sm 5 .k1 .i (sm 6 .k3 .i sn))))))) (λz=>(z.2.1,z.q.1,z.q.2.1,z.q.t.1,z.q.t.2.1,z.t.2.1.q.1)) (λx=>((()),(x.1,((),()),((),(),(),(),x.q.2,()),x.2.1,x.t.1,x.t.2.1,x.q.1,()))))
def aAm:=(lc (qo 0) (lc (qf 276 (lc (qp 1 0) ln)) ln))
def VU(l L:aa Int):Bool:=w9 (zZ l<=1073741824)&&(l.all λx=>w9 (0<=x)&&w9 (x<(zZ L:Int)))&&(L.all λv=>w9 (-2305843009213693952<=v)&&w9 (v<=2305843009213693952))&&decide L.Nodup
def mK(l L:aa Int):aa Int:=l.mergeSort λx y=>w9 (L[x.toNat]!<=L[y.toNat]!)
def ZQ(l L:aa Int)(N:aa bu)(a:ga)(b:cR)(w:Bool):af ava:=if VU l L=Z then M (mK l L,L,N,a,b,w)else J
def apK:Prop:=HY va 275 7 aAm azf d275 (λg=>ZQ g.2.1 g.2.2.2.2.1 g.2.2.2.2.2.1 g.2.2.2.2.2.2.1 g.2.2.2.2.2.2.2.1 g.2.2.2.1.2.2.2.2.1)
def aIG:aT->aT:=eY va 275 7 aAm azf d275 (λg=>ZQ g.2.1 g.q.1 g.q.2.1 g.q.t.1 g.q.t.2.1 g.t.2.1.q.1)
def ad6(hv:apK){F:aT}(h:bK va F):bK va (aIG F):=gi hv ⟨_,func275,aL,aL⟩ (λ_=>aL) h
def p8{A:Nat->Prop}{w:World}:∀{l:aa Int} {us:aa Value},bD A w (l.flatMap (uni.cells 3)) us->us=l.map (Value.int .i64)
 |[],us,h=>yC.1 (show zZ us=0 from h.1)
 |x::l,us,h=>by
  have e:(x::l).flatMap (uni.cells 3)=bU.lit (.int .i64 x)::l.flatMap (uni.cells 3):=rfl;rw[e]at h
  match us,h with
  |[],h=>exact iy h.1 (by simp)
  |u::us,h=>
   have h1:=(h.2 0 _ u rfl rfl).bR;have h2:bD A w (l.flatMap (uni.cells 3)) us:=⟨by simpa using h.1,λj a v q1 q2=>h.2 (j+1) a v (by simpa using q1) (by simpa using q2)⟩;rw[h1,p8 h2,zI]
def vk{A:Nat->Prop}{w:World}:∀l:aa Int,bD A w (l.flatMap (uni.cells 3)) (l.map (Value.int .i64))
 |[]=>bD.nil
 |x::l=>bD.cons (.lit _) (vk l)
section
variable {α:Type} [Inhabited α] {enc:α->Value} {W:World} {g m:Nat} {dk:Array α} {os:Array Obj}
def K5{cur:Array Value}{T:TypeId}(hb:W.heap[g]? =M (.cells cur T (0,0))):(sortWorld enc W g 0 m dk os).heap[g]? =M (.cells (putCells enc 0 dk cur) T (0,0)):=by
 have hg:g<W.heap.size:=(yd.1 hb).1;unfold sortWorld;rw[heap_grow_old _ _ (by simpa [putRow,mapBlock,Sort.ahead]using hg)];simp[putRow,mapBlock,Sort.ahead,xK,hb,onCells]
def uM{b:Nat}(hb:b<W.heap.size)(hne:b≠g):(sortWorld enc W g 0 m dk os).heap[b]? =W.heap[b]? :=by
 unfold sortWorld;rw[heap_grow_old _ _ (by simpa [putRow,mapBlock,Sort.ahead]using hb)];simp[putRow,mapBlock,Sort.ahead,xK,Ne.symm hne]
def ad4:Kp [g] W (sortWorld enc W g 0 m dk os):=
 ⟨rfl,rfl,rfl,by simp[sortWorld,grow,putRow,mapBlock,Sort.ahead],λk hk hn=>uM hk (by simpa using hn)⟩
def BB{cur:Array Value}(h:dk.size<=cur.size):(putCells enc 0 dk cur).toList.take dk.size=dk.toList.map enc:=by
 apply List.ext_getElem?;intro j;by_cases hj:j<dk.size
 ·rw[xA hj,y7];simp[putCells,hj,show j<cur.size by omega]
 ·rw[w8 aj,wj (by simp;omega)]
end
def cfL(L:aa Int)(k:Nat)(x y:Fin (k+1)):Int:=L[x.val]! -L[y.val]!
def apR{L:aa Int}{k:Nat}{x y:Fin (k+1)}(h:ltOf (cfL L k) x y=Z):L[x.val]! <L[y.val]! :=by
 have:L[x.val]! -L[y.val]! <0:=of_decide_eq_true h;omega
def U0{L:aa Int}{k:Nat}{x y:Fin (k+1)}(h:ltOf (cfL L k) x y=O):L[y.val]!<=L[x.val]! :=by
 have:¬L[x.val]! -L[y.val]! <0:=of_decide_eq_false h;omega
def am6(L:aa Int)(k:Nat):SWO (ltOf (cfL L k)) where
 irrefl x:=iU (by show ¬L[x.val]! -L[x.val]! <0;omega)
 trans x y z h1 h2:=l8 (by
  have a:=apR h1;have b:=apR h2;show L[x.val]! -L[z.val]! <0;omega)
 ntrans x y z h1 h2:=iU (by
  have a:=U0 h1;have b:=U0 h2;show ¬L[x.val]! -L[z.val]! <0;omega)
def anO{L:aa Int}{k:Nat}(hk:zZ L=k+1)(hn:L.Nodup)(x y:Fin (k+1))(h1:ltOf (cfL L k) x y=O)(h2:ltOf (cfL L k) y x=O):x=y:=by
 have a:=U0 h1;have b:=U0 h2;have e:L[x.val]! =L[y.val]! :=aj;have hx:x.val<zZ L:=by have:=x.isLt;omega
 have hy:y.val<zZ L:=by have:=y.isLt;omega
 rw[getElem!_pos L _ hx,getElem!_pos L _ hy]at e;exact Fin.ext ((List.getElem_inj hn).1 e)
def Tw:Go.Shelf.Ren:=⟨λ|6=>275|15=>102|14=>296|28=>172|29=>173|20=>309|21=>310|22=>311|23=>312|24=>313|25=>314|26=>315|27=>316|46=>320|47=>269|48=>270|49=>321|50=>322|57=>324|n=>n,λ|22=>46|24=>3|25=>175|39=>174|53=>251|55=>253|46=>305|45=>304|50=>100|66=>341|70=>345|76=>358|77=>255|n=>n,λ|n=>n⟩
def afZ:Go.Proofs.SlLaysF.n6 va Tw where
 mixed:=aL
 f6:=⟨f275.name,aL,func275.trans (congrArg M aL)⟩
 f14:=⟨f296.name,aL,func296.trans (congrArg M aL)⟩
 f15:=func102.trans (congrArg M aL)
 f20:=⟨f309.name,aL,func309.trans (congrArg M aL)⟩
 f21:=⟨f310.name,aL,func310.trans (congrArg M aL)⟩
 f22:=⟨f311.name,aL,func311.trans (congrArg M aL)⟩
 f23:=⟨f312.name,aL,func312.trans (congrArg M aL)⟩
 f24:=⟨f313.name,aL,func313.trans (congrArg M aL)⟩
 f25:=⟨f314.name,aL,func314.trans (congrArg M aL)⟩
 f26:=⟨f315.name,aL,func315.trans (congrArg M aL)⟩
 f27:=⟨f316.name,aL,func316.trans (congrArg M aL)⟩
 f28:=func172.trans (congrArg M aL)
 f29:=func173.trans (congrArg M aL)
 f46:=⟨f320.name,aL,func320.trans (congrArg M aL)⟩
 f47:=func269.trans (congrArg M aL)
 f48:=func270.trans (congrArg M aL)
 f49:=⟨f321.name,aL,func321.trans (congrArg M aL)⟩
 f50:=⟨f322.name,aL,func322.trans (congrArg M aL)⟩
 f57:=⟨f324.name,aL,func324.trans (congrArg M aL)⟩
 t0:=underlying0
 a0:=Tryz.isAgg0
 z0:=Tryz.sizeOf0
 v0:=Tryz.zeroValue0
 t3:=underlying3
 a3:=Tryz.isAgg3
 z3:=Tryz.sizeOf3
 v3:=Tryz.zeroValue3
 t4:=underlying4
 a4:=Tryz.isAgg4
 z4:=Tryz.sizeOf4
 v4:=Tryz.zeroValue4
 t5:=underlying5
 a5:=Tryz.isAgg5
 z5:=Tryz.sizeOf5
 v5:=Tryz.zeroValue5
 t9:=underlying9
 a9:=Tryz.isAgg9
 z9:=Tryz.sizeOf9
 v9:=Tryz.zeroValue9
 t22:=underlying46
 a22:=Tryz.isAgg46
 z22:=Tryz.sizeOf46
 v22:=Tryz.zeroValue46
 a24:=Tryz.isAgg3
 z24:=Tryz.sizeOf3
 t25:=underlying175
 a25:=Tryz.isAgg175
 z25:=Tryz.sizeOf175
 v25:=Tryz.zeroValue175
 t39:=underlying174
 a39:=Tryz.isAgg174
 z39:=Tryz.sizeOf174
 v39:=Tryz.zeroValue174
 t45:=underlying304
 a45:=Tryz.isAgg304
 z45:=Tryz.sizeOf304
 v45:=Tryz.zeroValue304
 t46:=underlying305
 a46:=Tryz.isAgg305
 z46:=Tryz.sizeOf305
 v46:=Tryz.zeroValue305
 t50:=underlying100
 a50:=Tryz.isAgg100
 z50:=Tryz.sizeOf100
 v50:=Tryz.zeroValue100
 t53:=underlying251
 a53:=Tryz.isAgg251
 z53:=Tryz.sizeOf251
 v53:=Tryz.zeroValue251
 t55:=underlying253
 a55:=Tryz.isAgg253
 z55:=Tryz.sizeOf253
 v55:=Tryz.zeroValue253
 t66:=underlying341
 a66:=Tryz.isAgg341
 z66:=Tryz.sizeOf341
 v66:=Tryz.zeroValue341
 t70:=underlying345
 a70:=Tryz.isAgg345
 z70:=Tryz.sizeOf345
 v70:=Tryz.zeroValue345
 t76:=underlying358
 a76:=Tryz.isAgg358
 z76:=Tryz.sizeOf358
 v76:=Tryz.zeroValue358
 t77:=underlying255
 a77:=Tryz.isAgg255
 z77:=Tryz.sizeOf255
 v77:=Tryz.zeroValue255
def anC{L:aa Int}{k:Nat}(hk:zZ L=k+1){l:aa Int}(hl:∀x∈l,0<=x/\x<(zZ L:Int)):
  ((l.map λx=>Fin.ofNat (k+1) x.toNat).mergeSort λx y=> !ltOf (cfL L k) y x).map (λx=>(x.val:Int))=mK l L:=by
 have hv:∀x∈l,((Fin.ofNat (k+1) x.toNat).val:Int)=x:=λx hx=>by
  have:=hl x hx;simp only[Fin.ofNat];rw[wF aj];omega
 have e0:(l.map λx=>Fin.ofNat (k+1) x.toNat).map (λx=>(x.val:Int))=l:=by
  rw[yg]
  conv=>rhs;rw[<-List.map_id l]
  exact zV hv
 rw[List.map_mergeSort (s:=λx y=>w9 (L[x.toNat]!<=L[y.toNat]!)),e0]
 ·rfl
 ·intro a _ b _;show (!w9 (L[b.val]! -L[a.val]! <0))=w9 (L[(a.val:Int).toNat]!<=L[(b.val:Int).toNat]!);rw[zw,zw,<-decide_not];simp
def axb(l L:aa Int)(N:aa bu)(a:ga)(b:cR)(wd:Bool)(r:ava)(hb:ZQ l L N a b wd=M r):
  Ht va 275 [.own 0, .fn (.func 276) [.ptr 1 0]] [(0, .row 3 l),(1, .box 239 [.ptr 2 0]),(2, .box 296 [.own 3, .own 4, .own 5, .own 6, .b wd]),(3, .row 3 L),(4, .row 113 N),(5, .md .k1 .i a),(6, .md .k3 .i b)] 7 (eN va 275 7 (d275.pat r)):=by
 unfold ZQ at hb;split at hb
 case isFalse=>cases hb
 rename_i hok;have hr0:r=(mK l L,L,N,a,b,wd):=(zJ.inj hb).symm;subst hr0;unfold VU at hok;simp only[zh,decide_eq_true_eq,zn]at hok;obtain⟨⟨⟨hlen,hrng⟩,hval⟩,hnd⟩:=hok;intro ρ;have ho:eN va 275 7 (d275.pat (mK l L,L,N,a,b,wd))=⟨.iF [],[(0, .row 3 (mK l L)),(1, .box 239 [.ptr 2 0]),(2, .box 296 [.own 3, .own 4, .own 5, .own 6, .b wd]),(3, .row 3 L),(4, .row 113 N),(5, .md .k1 .i a),(6, .md .k3 .i b)],7⟩:=aL;rw[ho];obtain⟨rest,hrest⟩:∃rest:aa bM,rest=aS.res ρ [(1, .box 239 [.ptr 2 0]),(2, .box 296 [.own 3, .own 4, .own 5, .own 6, .b wd]),(3, .row 3 L),(4, .row 113 N),(5, .md .k1 .i a),(6, .md .k3 .i b)]:=⟨_,rfl⟩;show Go.Iv.Fn va 275 [(bU.own 0).sub ρ,(bU.fn (.func 276) [.ptr 1 0]).sub ρ] (bM.row (ρ.v 0) 3 l::aS.res ρ [(1, .box 239 [.ptr 2 0]),(2, .box 296 [.own 3, .own 4, .own 5, .own 6, .b wd]),(3, .row 3 L),(4, .row 113 N),(5, .md .k1 .i a),(6, .md .k3 .i b)]) _;rw[<-hrest];intro w A vs hr hd hn;obtain⟨hr1,hr2⟩:=hr;obtain⟨v,v2,rfl⟩:∃v v2,vs=[v,v2]:=by
  match vs,hr1 with
  |[v,v2],_=>exact⟨v,v2,rfl⟩
 have hv:v=ρ.v 0:=by
  have:=hr2 0 _ v rfl rfl;rw[cI]at this;exact this.bR
 have hv2:v2= .func (.func 276) #[] #[.pointer (M ⟨ρ.b 1,0,J⟩)]:=by
  have h:=hr2 1 (.fn (.func 276) [.lit (.pointer (M ⟨ρ.b 1,0,J⟩))]) v2 (by simp[bU.sub]) rfl;cases h with
  |fn f cs us hl hrr=>
   match us,hl with
   |[u],_=>rw[(hrr 0 _ u rfl rfl).bR]
 subst hv hv2;have hg:Go.Iv.Good ⟨w,A,bh (bM.row (ρ.v 0) 3 l::rest)⟩ (bM.row (ρ.v 0) 3 l::rest) w:=⟨Kp.refl _ _,λr hr=>(hd.1 r hr).mono (λb _ hA=>⟨⟨.inl hA,λhx=>hd.2 b hx hA⟩,rfl⟩) (λ_ _=>rfl),hn,λb hb=> .inl hb⟩;have fin:∀w':World,gr w' (ρ.v 0) 3 1 (mK l L).length ((mK l L).map (Value.int .i64))->Kp (fU (ρ.v 0)).toList w w'->∃v av σ',Ending.returned (Value.tuple #[])=Ending.returned v/\(∃ρ',nc 7 ρ ρ'/\av=(bU.iF (cQ:=uni.cQ) []).sub ρ'/\List.Perm σ' (aS.res ρ' [(0, .row 3 (mK l L)),(1, .box 239 [.ptr 2 0]),(2, .box 296 [.own 3, .own 4, .own 5, .own 6, .b wd]),(3, .row 3 L),(4, .row 113 N),(5, .md .k1 .i a),(6, .md .k3 .i b)]))/\
   Tr ⟨w,A,bh (bM.row (ρ.v 0) 3 l::rest)⟩ (bh (bM.row (ρ.v 0) 3 l::rest)) (bM.row (ρ.v 0) 3 l::rest) w σ' w'/\Rel (al ⟨w,A,bh (bM.row (ρ.v 0) 3 l::rest)⟩ σ') w' av v:=λw' hrow hk=>by
  have t:=pW (i:=0) (r:= .row (ρ.v 0) 3 l) (r':= .row (ρ.v 0) 3 (mK l L)) hg rfl hk (.inl rfl) (pN hrow (λi _=>rfl) (vk _));refine⟨_, .iF [],bM.row (ρ.v 0) 3 (mK l L)::rest,rfl,⟨ρ,λi _=>⟨rfl,rfl⟩,by simp only[bU.sub,yx],by rw[hrest];exact List.Perm.refl _⟩,t.wide (λb hb=> ?_),Rel.iF [] [] rfl (λj a v q=>by cases q)⟩;have hb:b∈(fU (ρ.v 0)).toList:=hb;cases hq:fU (ρ.v 0)with
  |none=>rw[hq]at hb;cases hb
  |some g=>
   rw[hq]at hb;exact bE.2 ⟨_,zm,by rw[show b=g by simpa using hb];exact hq⟩
 have nilS:∀p c,l=[]->ρ.v 0= .slice p 0 c->gr w (.slice p 0 c) 3 1 (zZ l) []->Calls va 275 #[ρ.v 0, .func (.func 276) #[] #[.pointer (M ⟨ρ.b 1,0,J⟩)]] w λe w'=>∃v av σ',e=Ending.returned v/\(∃ρ',nc 7 ρ ρ'/\av=(bU.iF (cQ:=uni.cQ) []).sub ρ'/\List.Perm σ' (aS.res ρ' [(0, .row 3 (mK l L)),(1, .box 239 [.ptr 2 0]),(2, .box 296 [.own 3, .own 4, .own 5, .own 6, .b wd]),(3, .row 3 L),(4, .row 113 N),(5, .md .k1 .i a),(6, .md .k3 .i b)]))/\
   Tr ⟨w,A,bh (bM.row (ρ.v 0) 3 l::rest)⟩ (bh (bM.row (ρ.v 0) 3 l::rest)) (bM.row (ρ.v 0) 3 l::rest) w σ' w'/\Rel (al ⟨w,A,bh (bM.row (ρ.v 0) 3 l::rest)⟩ σ') w' av v:=λp c hl hv hri=>by
  have h0:=Go.Proofs.AnyF.slices_SortFunc_none {afZ with} p c (.func (.func 276) #[] #[.pointer (M ⟨ρ.b 1,0,J⟩)]) w;rw[<-hv]at h0;refine h0.mono λe w' he=> ?_;obtain⟨rfl,rfl⟩:=he;refine fin w' ?_ (Kp.refl _ _);rw[hv];have e:mK l L=[]:=by rw[hl];unfold mK;rw[List.mergeSort_nil]
  simp_all
 obtain⟨us,h1,h2,h3⟩:=lF (hd.1 (.row (ρ.v 0) 3 l) zm);have hus:=p8 h3;subst hus;show Calls va 275 #[ρ.v 0, .func (.func 276) #[] #[.pointer (M ⟨ρ.b 1,0,J⟩)]] w _;obtain⟨h1l,hcase⟩:=h1;rcases hcase with ⟨p,hvp,hl0⟩|⟨gb,cap,cur,hvp,hgb,q1,q2,q3,q4⟩
 ·have hl:l=[]:=yC.1 hl0;exact nilS p 0 hl hvp ⟨by rw[hl];rfl, .inl ⟨p,rfl,hl0⟩⟩
 ·by_cases hl:l=[]
  ·refine nilS _ _ hl (by rw[hvp,hl];rfl) ⟨by rw[hl];rfl, .inr ⟨gb,cap,cur,by rw[hl];rfl,hgb,q1,q2,q3,?_⟩⟩;rw[hl];rfl
  ·obtain⟨k,hk⟩:∃k,zZ L=k+1:=by
    cases l with
    |nil=>exact iy rfl hl
    |cons x l=>
     have:=hrng x zm;exact⟨zZ L-1,aj⟩
   have q1:zZ l<=cap+1:=q1;have q3:cur.size=cap+1:=by rw[q3];exact yb _
   have q4:cur.toList.take (zZ l*1)=l.map (Value.int .i64):=q4;rw[yb]at q4;have m1:bM.box (ρ.b 1) 239 [.lit (.pointer (M ⟨ρ.b 2,0,J⟩))]∈rest:=by rw[hrest];simp[aS.res,IR.res,bU.sub]
   have m2:bM.box (ρ.b 2) 296 [.lit (ρ.v 3), .lit (ρ.v 4), .lit (ρ.v 5), .lit (ρ.v 6), .b wd]∈rest:=by rw[hrest];simp[aS.res,IR.res,bU.sub]
   have m3:bM.row (ρ.v 3) 3 L∈rest:=by rw[hrest];simp[aS.res,IR.res]
   obtain⟨u1,b1,r1⟩:=hd.1 _ (zM _ m1);obtain⟨u2,b2,r2⟩:=hd.1 _ (zM _ m2);obtain⟨u3,b3,-,r3⟩:=lF (hd.1 _ (zM _ m3));have hu3:=p8 r3;subst hu3;obtain⟨b3l,hc3⟩:=b3;rcases hc3 with ⟨p,-,hz⟩|⟨bl,cap3,cur3,hv3,hbl,p1,p2,p3,p4⟩
   ·exfalso;have hz:zZ L=0:=hz;omega
   have hv3:ρ.v 3= .slice (M ⟨bl,0,J⟩) (zZ L) (cap3+1):=hv3;have p1:zZ L<=cap3+1:=p1;have hvp:ρ.v 0= .slice (M ⟨gb,0,J⟩) (zZ l) (cap+1):=hvp;have p4:cur3.toList.take (zZ L*1)=L.map (Value.int .i64):=p4;rw[yb]at p4;have ngb:∀x,x∈bh rest->x≠gb:=λx hx e=>by
    have:bh (bM.row (ρ.v 0) 3 l::rest)=gb::bh rest:=by
     unfold bh;rw[xd,show bM.blk (bM.row (ρ.v 0) 3 l)=M gb by rw[show bM.blk (bM.row (ρ.v 0) 3 l)=fU (ρ.v 0)from rfl,hvp];rfl]
    rw[this]at hn;exact(wg.1 hn).1 (e▸hx)
   have n1:ρ.b 1≠gb:=ngb _ (bE.2 ⟨_,m1,rfl⟩);have n2:ρ.b 2≠gb:=ngb _ (bE.2 ⟨_,m2,rfl⟩);have n3:bl≠gb:=ngb _ (bE.2 ⟨_,m3,by rw[show bM.blk (bM.row (ρ.v 3) 3 L)=fU (ρ.v 3)from rfl,hv3];rfl⟩);have hgs:gb<w.heap.size:=(yd.1 hgb).1;have hls:bl<w.heap.size:=(yd.1 hbl).1;obtain⟨d,hd0⟩:∃d:Array (Fin (k+1)),d=(l.map λx=>Fin.ofNat (k+1) x.toNat).toArray:=⟨_,rfl⟩;have hds:d.size=zZ l:=by rw[hd0];simp
   have hfv:∀x∈l,((Fin.ofNat (k+1) x.toNat).val:Int)=x:=λx hx=>by
    have:=hrng x hx;simp only[Fin.ofNat];rw[wF aj];omega
   have hH:Holds (λx:Fin (k+1)=>Value.int .i64 (x.val:Int)) w gb 0 d:=λj hj=>by
    have hj':j<zZ l:=aj;have e1:cur[j]? =M (Value.int .i64 l[j]):=by
     have:=congrArg (·[j]?) q4;simp only[xA hj',zP,zD hj',z8]at this
     rwa [y7]at this
    have e2:d[j]! =Fin.ofNat (k+1) (l[j]).toNat:=by rw[getElem!_pos d j hj];simp[hd0]
    rw[e2,zY];show w.cell? ⟨gb,j,J⟩=M (Value.int .i64 ((Fin.ofNat (k+1) (l[j]).toNat).val:Int))/\_;rw[hfv _ (yR hj')];exact⟨by simp[World.cell?,hgb,e1],by simp[World.frozen?,hgb]⟩
   have hL:∀i,i<zZ L->cur3[i]? =M (Value.int .i64 L[i]!):=λi hi=>by
    have:=congrArg (·[i]?) p4;simp only[xA hi,zP,zD hi,z8]at this;rw[y7]at this;rw[this,getElem!_pos L i hi]
   have hu1:∃rs,u1= .pointer (M ⟨ρ.b 2,0,J⟩)::rs:=by
    match u1,r1.1 with
    |[u],_=>exact⟨[],by rw[(r1.2 0 _ u rfl rfl).bR]⟩
   have hu2:∃rs,u2=ρ.v 3::rs:=by
    match u2,r2.1 with
    |u::rs,_=>exact⟨rs,by rw[(r2.2 0 _ u rfl rfl).bR]⟩
   obtain⟨rs1,rfl⟩:=hu1;obtain⟨rs2,rfl⟩:=hu2;have b1:w.heap[ρ.b 1]? =M (.cells (Value.pointer (M ⟨ρ.b 2,0,J⟩)::rs1).toArray 239 (0,0)):=b1;have b2:w.heap[ρ.b 2]? =M (.cells (ρ.v 3::rs2).toArray 296 (0,0)):=b2;have hcmp:CmpReads va 276 #[.pointer (M ⟨ρ.b 1,0,J⟩)] (λx:Fin (k+1)=>Value.int .i64 (x.val:Int)) (cfL L k) gb 0 d.size w:=λm os dk hdk x y=>by
    have c1:=uM (enc:=λx:Fin (k+1)=>Value.int .i64 (x.val:Int)) (m:=m) (dk:=dk) (os:=os) (yd.1 b1).1 n1;have c2:=uM (enc:=λx:Fin (k+1)=>Value.int .i64 (x.val:Int)) (m:=m) (dk:=dk) (os:=os) (yd.1 b2).1 n2;have c3:=uM (enc:=λx:Fin (k+1)=>Value.int .i64 (x.val:Int)) (m:=m) (dk:=dk) (os:=os) hls n3;generalize sortWorld (λx:Fin (k+1)=>Value.int .i64 (x.val:Int)) w gb 0 m dk os=W at c1 c2 c3 ⊢;have hx:=x.isLt;have hy:=y.isLt;have vx:=hval L[x.val]! (by rw[getElem!_pos L _ aj];exact yR _);have vy:=hval L[y.val]! (by rw[getElem!_pos L _ aj];exact yR _);exact Ud W (ρ.b 1) (ρ.b 2) bl (zZ L) (cap3+1) x.val y.val L[x.val]! L[y.val]! (by simp[World.cell?,c1,b1]) (by simp[World.cell?,c2,b2,hv3]) (by simp[World.cell?,c3,hbl,hL x.val aj]) (by simp[World.cell?,c3,hbl,hL y.val aj]) aj aj (by unfold maxLen at p2;omega) vx vy
   have hs:=Go.Proofs.Any.slices_SortFunc_total afZ (λx:Fin (k+1)=>Value.int .i64 (x.val:Int)) (λ_=>rfl) (cfL L k) (am6 L k) 276 #[.pointer (M ⟨ρ.b 1,0,J⟩)] gb 0 (cap+1) d w (enters_of func276 aL rfl) hcmp.lays hH hgs aj (anO hk hnd);rw[hds,<-hvp]at hs;refine hs.mono λe w' he=> ?_;obtain⟨rfl,n,os,rfl⟩:=he;obtain⟨s,hs0⟩:∃s:aa (Fin (k+1)),s=d.toList.mergeSort λx y=> !ltOf (cfL L k) y x:=⟨_,rfl⟩;have hsm:s.map (λx=>(x.val:Int))=mK l L:=by rw[hs0,hd0];exact anC hk (λx hx=>hrng x hx)
   have hsl:zZ s=zZ l:=by rw[hs0,List.length_mergeSort,yf,hds]
   have hbl':zZ (mK l L)=zZ l:=by rw[<-hsm,zF,hsl]
   rw[<-hs0];refine fin _ ⟨by rw[zF,yb], .inr ⟨gb,cap,_,by rw[hvp,hbl'],K5 hgb,by rw[hbl'];exact q1,q2,by simp[putCells,q3],?_⟩⟩ ?_
   ·have:=BB (enc:=λx:Fin (k+1)=>Value.int .i64 (x.val:Int)) (dk:=s.toArray) (cur:=cur) (by simp;omega);rw[yb,hbl',<-hsl,show zZ s=s.toArray.size by simp,this,<-hsm,yg];rfl
   ·rw[hvp];exact ad4
def aAv:apK:=λg r hb=>axb _ _ _ _ _ _ r hb
abbrev Ob(A:Nat->Prop)(w:World):={p:bB×aa Value//p.2.length=2/\bD A w (uni.cells 55 p.1) p.2}
section
variable {A:Nat->Prop} {w:World}
def aos{o:bB}{us:aa Value}(h:zZ us=2/\bD A w (uni.cells 55 o) us):∃u v,us=[u,v]/\Rel A w (.sl 3 o.bJ) u/\v= .int .i64 o.aN:=by
 obtain⟨h1,h2⟩:=h
 match us,h1 with
 |[u,v],_=>exact⟨u,v,rfl,h2.2 0 _ _ rfl rfl,(h2.2 1 (.lit (.int .i64 o.aN)) v rfl rfl).bR⟩
def afF{o:bB}{u:Value}(h:Rel A w (.sl 3 o.bJ) u):bD A w (uni.cells 55 o) [u, .int .i64 o.aN]:=
 ⟨rfl,λj a v h1 h2=>by
  match j with
  |0=>cases h1;cases h2;exact h
  |1=>cases h1;cases h2;exact .lit _
  |j+2=>cases h1⟩
def aFL:Rel A w (.sl 3 ([]:aa Int)) (.slice none 0 0):=Rel.sl (U:=uni) 3 [] none 0 (λ_ _=> .int .i64 0) (yu _) (zx _) (λi hi=>by cases hi) (λi hi=>by cases hi) (λi j a hi=>by cases hi)
instance:Inhabited (Ob A w):=⟨⟨(⟨[],0⟩,[.slice J 0 0, .int .i64 0]),rfl,afF aFL⟩⟩
def qW(x:Ob A w):aa Value:=x.1.2
def CR(x:Ob A w):zZ (qW x)=2:=x.2.1
def am8(x:Ob A w):∀v∈qW x,v.oneCell'=Z:=λv hv=>by
 obtain⟨u,t,h1,h2,h3⟩:=aos x.2;unfold qW at hv;rw[h1]at hv;rcases zk.1 hv with rfl|hv
 ·cases h2;rfl
 ·rw[zA.1 hv,h3];rfl
def azM(x:Ob A w):zZ x.1.1.bJ<=9223372036854775807:=by
 obtain⟨u,t,h1,h2,h3⟩:=aos x.2;cases h2 with
 |sl t l p cap u hl hcap hz hc hr=>exact hl
def Z3{α:Type}[Inhabited α](enc:α->aa Value)(d:Array α){us:aa Value}(h1:zZ us=d.size*2)(h:∀i,i<d.size->enc d[i]! =(us.drop (i*2)).take 2):flatK enc 2 d=us.toArray:=by
 refine ext_get! (by simp[h1]) λt ht=> ?_;have ht:t<d.size*2:=by simpa using ht
 rw[get_flatK _ _ _ _ ht,h _ aj];have e:(us.toArray:Array Value)[t]! =us[t]! :=by simp
 rw[e,getElem!_pos us t aj,getElem!_pos _ _ (by simp;omega),xo,wm]
 congr 1
 omega
def Z6{α:Type}[Inhabited α]{enc:α->aa Value}{d:Array α}{W:World}{g:Nat}{cur:Array Value}{T:TypeId}{us:aa Value}(hb:W.heap[g]? =M (.cells cur T (0,0)))(hf:flatK enc 2 d=us.toArray)(hc:cur.toList.take us.length=us):HoldsK enc 2 W g 0 d:=by
 unfold HoldsK;rw[hf];intro j hj;have hj':j<zZ us:=by simpa using hj
 refine⟨?_,by simp[World.frozen?,hb]⟩;have h1:(cur.toList.take (zZ us))[j]? =us[j]? :=by rw[hc]
 rw[xA hj']at h1;simp only[World.cell?,hb,zY];rw[<-y7,h1];simp[hj']
def E5{α:Type}[Inhabited α]{enc:α->aa Value}{W:World}{g m:Nat}{dk:Array α}{os:Array Obj}{cur:Array Value}{T:TypeId}(hb:W.heap[g]? =M (.cells cur T (0,0))):
  (sortWorldK enc 2 W g 0 m dk os).heap[g]? =M (.cells (putCells id 0 (flatK enc 2 dk) cur) T (0,0)):=by
 have hg:g<W.heap.size:=(yd.1 hb).1;unfold sortWorldK putRowK;rw[heap_grow_old _ _ (by simpa using hg)];simp[putRow,mapBlock,xK,hb,onCells]
def CB{α:Type}[Inhabited α]{enc:α->aa Value}{W:World}{g m:Nat}{dk:Array α}{os:Array Obj}{b:Nat}(hb:b<W.heap.size)(hne:b≠g):
  (sortWorldK enc 2 W g 0 m dk os).heap[b]? =W.heap[b]? :=by
 unfold sortWorldK putRowK;rw[heap_grow_old _ _ (by simpa using hb)];simp[putRow,mapBlock,xK,Ne.symm hne]
def TE{α:Type}[Inhabited α]{enc:α->aa Value}{W:World}{g m:Nat}{dk:Array α}{os:Array Obj}:W.heap.size<=(sortWorldK enc 2 W g 0 m dk os).heap.size:=size_sortWorldK_c enc 2 W g 0 m dk os
def aft{α:Type}[Inhabited α]{enc:α->aa Value}{W:World}{g m:Nat}{dk:Array α}{os:Array Obj}:Kp [g] W (sortWorldK enc 2 W g 0 m dk os):=
 ⟨rfl,rfl,rfl,TE,λk hk hn=>CB hk (by simpa using hn)⟩
def agp{F cur:Array Value}(h:F.size<=cur.size):(putCells id 0 F cur).toList.take F.size=F.toList:=by
 apply List.ext_getElem?;intro j;by_cases hj:j<F.size
 ·rw[xA hj,y7];simp[putCells,hj,show j<cur.size by omega]
 ·rw[w8 aj,wj (by simp;omega)]
def aix{W W':World}(h:Kp [] W W'):∃q os,W'=grow (redrawn W q) os:=by
 obtain⟨p,hp⟩:=regrown_of_below h.below;exact⟨p.d,p.os,hp⟩
def aI4(a b:bB)(h:zZ a.bJ<=9223372036854775807):Iv.Fn va 90 [.agg (uni.cells 55 a), .agg (uni.cells 55 b)] [] (λx s=>x= .b (w9 (Ol a b=0))/\s=[]):=
 (abv (F:=e90 dz) (ax4 aP).ok P0.b rfl (gG aL) ((show e90 dz Bool 90 [.agg (uni.cells 55 a), .agg (uni.cells 55 b)] [] 0 (abk asB)=(match m90 a b with|J=>J|M r=>M r)from aL).trans (by unfold m90;rw[atZ a b h]))).2
def al8{f:Nat}{x y:Ob A w}{r:Value}(hf:Iv.Fn va f [.agg (uni.cells 55 x.1.1), .agg (uni.cells 55 y.1.1)] [] (λa s=>a= .lit r/\s=[])){W:World}(hW:∀b,b<w.heap.size->A b->W.heap[b]? =w.heap[b]?):
  Calls va f #[.agg (qW x).toArray, .agg (qW y).toArray] W λe w'=>e= .returned r/\∃q os',w'=grow (redrawn W q) os':=by
 have hr:∀z:Ob A w,bD A W (uni.cells 55 z.1.1) (qW z):=λz=>z.2.2.mono λb hb hA=>⟨hA,hW b hb hA⟩;refine(hf W A [.agg (qW x).toArray, .agg (qW y).toArray] ⟨rfl,λj a v h1 h2=> ?_⟩ ⟨λr hr=>(by cases hr),λb hb=>(by cases hb)⟩ xg).mono λe w' ⟨v,av,σ',he,⟨h1,h2⟩,ht,hv⟩=> ?_
 ·match j with
  |0=>cases h1;cases h2;exact .agg _ _ (hr x).1 (hr x).2
  |1=>cases h1;cases h2;exact .agg _ _ (hr y).1 (hr y).2
  |j+2=>cases h1
 ·rw[h1]at hv;exact⟨by rw[he,hv.bR],aix ht.kp⟩
end
def aFu{A:Nat->Prop}{w:World}{l:aa bB}{us:aa Value}(h1:zZ us=zZ l*2)(h3:∀i,i<zZ l->bD A w (uni.cells 55 l[i]!) ((us.drop (i*2)).take 2)):
  ∃d:Array (Ob A w),d.size=zZ l/\(d.toList.map λx=>x.1.1)=l/\flatK qW 2 d=us.toArray:=by
 have hx:∀i:Fin (zZ l),zZ ((us.drop (i.1*2)).take 2)=2/\bD A w (uni.cells 55 l[i]) ((us.drop (i.1*2)).take 2):=λi=>by
  have hi:=i.2;refine⟨by rw[zL,zX];omega,?_⟩;have:=h3 i.1 hi
  rwa [getElem!_pos l i.1 hi]at this
 refine⟨Array.ofFn λi:Fin l.length=>(⟨(l[i],(us.drop (i.1*2)).take 2),hx i⟩:Ob A w),by simp,?_,Z3 _ _ (by simpa using h1) λi hi=> ?_⟩
 ·apply xI (by simp);simp
 ·have hi':i<zZ l:=by simpa using hi
  rw[getElem!_pos _ i hi];simp[qW]
def axP{A:Nat->Prop}{w:World}(d:Array (Ob A w))(l:aa bB)(h:(d.toList.map λx=>x.1.1)=l):zZ (flatK qW 2 d).toList=zZ l*2/\∀i,i<zZ l->bD A w (uni.cells 55 l[i]!) (((flatK qW 2 d).toList.drop (i*2)).take 2):=by
 have hs:d.size=zZ l:=by rw[<-h];simp
 refine⟨by simp[hs],λi hi=> ?_⟩;have e:(((flatK qW 2 d).toList.drop (i*2)).take 2)=qW d[i]! :=by
  apply xI
  ·rw[CR,zL,zX];simp;omega
  ·intro j q1 q2;rw[CR]at q2;rw[xo,wm,Array.getElem_toList];have:=get_flatK qW 2 d (i*2+j) aj;rw[getElem!_pos _ _ (by simp;omega)]at this;rw[this,show (i*2+j)/2=i by omega,show (i*2+j)%2=j by omega,getElem!_pos _ j (by rw[CR];exact q2)]
 rw[e];have e2:l[i]! =d[i]!.1.1:=by
  subst h;rw[getElem!_pos _ i hi,getElem!_pos d i aj];simp
 rw[e2];exact d[i]!.2.2
abbrev E89:=aa bB
def d89:Td 1 E89:= .c [] [4] (.r 1 2 (ec 4 (qo 1) en) (sr 1 55 sn) (λz=>z.2.1) (λx=>(((),()),(x,()))))
def A89:=(lc (qo 0) (lc (qf 90 ln) ln))
def B89:=(sr 0 55 sn)
def m89(b0:aa bB):af E89:=if zZ b0<=1073741824 then M (SJ b0)else J
def azH:Prop:=HY va 89 1 A89 B89 d89 (λg=>m89 g.2.1)
def e89:aT->aT:=eY va 89 1 A89 B89 d89 (λg=>m89 g.2.1)
def akS(hv:azH){F:aT}(h:bK va F):bK va (e89 F):=gi hv ⟨_,func89,aL,aL⟩ (λ_=>aL) h
def sg{g:Nat}{T:TypeId}:∀(vs:aa Value) (o:Nat) (W:World) (cur:Array Value),W.heap[g]? =M (.cells cur T (0,0))->(W.setCells g o vs).heap[g]? =M (.cells (setMany cur o vs) T (0,0))
 |[],_,_,_,h=>h
 |v::vs,o,W,cur,h=>by
  refine sg vs (o+1) _ _ ?_;rw[setCell_eq];simp[mapBlock,xK,h,onCells]
def Cm{g:Nat}:∀(vs:aa Value) (o:Nat) (W:World),Kp [g] W (W.setCells g o vs)
 |[],_,W=>Kp.refl _ W
 |v::vs,o,W=>by
  refine Kp.trans (w1:=W.setCell ⟨g,o,J⟩ v) (X:=[g]) (Y:=[g]) ?_ (Cm vs (o+1) _) (λb hb _=>hb);rw[setCell_eq];refine⟨rfl,rfl,rfl,by simp[mapBlock],λk hk hX=> ?_⟩;have:g≠k:=λe=>hX (by simp[e]);simp[mapBlock,xK,this]
def Jb(x:bB):∀(l:aa bB) (p:bB),KS p (l++[x])=KS p l++if Ol x (l.getLastD p)=0 then[]else[x]
 |[],p=>by
  rfl
 |y::l,p=>by
  simp only[yB,KS];rw[Jb x l y];have e:(y::l).getLastD p=l.getLastD y:=by cases l<;>rfl
  rw[e];split<;>simp
section
variable {A:Nat->Prop} {w:World}
def eqO(x y:Ob A w):Bool:=w9 (Ol x.1.1 y.1.1=0)
def XC(d:Array (Ob A w)):∀m,m<=d.size->(HI eqO d m).map (λx=>x.1.1)=SJ ((d.toList.map λx=>x.1.1).take m)
 |0,_=>by simp[HI,SJ]
 |m+1,hm=>by
  have ih:=XC d m aj;have hl:m<zZ (d.toList.map λx=>x.1.1):=by simp;omega
  have eg:∀j,j<d.size->(d.toList.map λx=>x.1.1)[j]! =d[j]!.1.1:=λj hj=>by
   rw[getElem!_pos _ j (by simpa using hj),getElem!_pos d j hj];simp
  rw[kM,zH,ih,bV hl,eg m aj];by_cases h0:m=0
  ·subst h0;rfl
  ·obtain⟨n,rfl⟩:∃n,m=n+1:=⟨m-1,aj⟩;have hl2:n<zZ (d.toList.map λx=>x.1.1):=by simp;omega
   have e2:(d.toList.map λx=>x.1.1).take (n+1)=(d.toList.map λx=>x.1.1).take n++[d[n]!.1.1]:=by rw[bV hl2,eg n aj]
   obtain⟨q,hq⟩:∃q,q=(d.toList.map λx=>x.1.1).take (n+1):=⟨_,rfl⟩;rw[<-hq];cases q with
   |nil=>rw[e2]at hq;simp at hq
   |cons a q=>
    show _=a::KS a (q++[d[n+1]!.1.1]);rw[Jb];have:q.getLastD a=d[n]!.1.1:=by
     have h1:=congrArg List.getLast? hq;rw[e2,List.getLast?_append,List.getLast?_singleton,Option.some_or,List.getLast?_cons]at h1;simp_all
    rw[this];unfold PR eqO;by_cases hc:Ol d[n+1]!.1.1 d[n]!.1.1=0<;>simp[hc,SJ]
end
def UQ:∀(l:aa bB) (p:bB),zZ (KS p l)<=zZ l
 |[],_=>zx _
 |y::l,p=>by
  have:=UQ l y;unfold KS;split<;>simp<;>omega
def ai1(l:aa bB):zZ (SJ l)<=zZ l:=by
 cases l with
 |nil=>exact zx _
 |cons x l=>have:=UQ l x;simp[SJ];omega
def akQ{W:World}{gb n kk:Nat}{F:Array Value}(h:W.heap[gb]? =M (.cells F 55 (0,0)))(hs:n*2<=F.size)(hk:kk<n){c:Nat}{ty:TypeId}:
  (Builtin.clear_ #[74] ty #[.slice (M ⟨gb,0+kk*2,J⟩) (n-kk) c]).run va W= .ok (.tuple #[]) (W.setCells gb (0+kk*2) (Builtin.zeroCells #[.slice J 0 0, .int .i64 0] (n-kk)).toList):=by
 have hl:zZ (Builtin.zeroCells #[.slice J 0 0, .int .i64 0] (n-kk)).toList=(n-kk)*2:=by simp[Builtin.zeroCells]
 have hst:=run_storeCells_cells (P:=va) gb (0+kk*2) (Builtin.zeroCells #[.slice J 0 0, .int .i64 0] (n-kk)).toList 0 W (λj hj=>by
   simp only[World.cell?,h];rw[xC aj];rfl) (λj hj=>by simp[World.frozen?,h]) (λv hv=>by
   simp only[Builtin.zeroCells,Array.toList_map,zC]at hv;obtain⟨i,_,rfl⟩:=hv;have:i%(#[.slice J 0 0, .int .i64 0]:Array Value).size<2:=xF _ (by decide);generalize i%(#[.slice J 0 0, .int .i64 0]:Array Value).size=q at this
   match q,this with
   |0,_=>rfl
   |1,_=>rfl)
 obtain⟨m,hm⟩:∃m,n-kk=m+1:=⟨n-kk-1,aj⟩;rw[hm]at hst ⊢;rw[zY]at hst ⊢;simp[Builtin.clear_,Value.cells,hst]
def aEJ(l b:aa bB)(hb:m89 l=M b):Ht va 89 [.own 0, .fn (.func 90) []] [(0, .row 55 l)] 1 (eN va 89 1 (d89.pat b)):=by
 unfold m89 at hb;split at hb
 case isFalse=>cases hb
 rename_i hlen;have hbl:b=SJ l:=(zJ.inj hb).symm;intro ρ;have ho:eN va 89 1 (d89.pat b)=⟨.own 1,[(1, .row 55 b)],2⟩:=aL;show Go.Iv.Fn va 89 [(bU.own 0).sub ρ,(bU.fn (.func 90) []).sub ρ] (aS.res ρ [(0, .row 55 l)]) _;rw[ho,cI,show (bU.fn (cQ:=uni.cQ) (.func 90) []).sub ρ= .fn (.func 90) []by simp[bU.sub]];intro w A vs hr hd hn;obtain⟨hr1,hr2⟩:=hr;obtain⟨v,v2,rfl⟩:∃v v2,vs=[v,v2]:=by
  match vs,hr1 with
  |[v,v2],_=>exact⟨v,v2,rfl⟩
 have hv:v=ρ.v 0:=(hr2 0 _ v rfl rfl).bR;have hv2:v2= .func (.func 90) #[] #[]:=by
  have:=hr2 1 (.fn (.func 90) []) v2 rfl rfl;cases this with
  |fn f cs us hl hrr=>rw[yC.1 hl]
 subst hv hv2;generalize hv:ρ.v 0=v at*;have hok:=hd.1 (.row v 55 l) (by show _∈[bM.row (ρ.v 0) 55 l];rw[hv];exact zA.2 rfl);obtain⟨us,h1,h2,h3⟩:=hok;have hσ:aS.res ρ [(0, .row 55 l)]=[bM.row v 55 l]:=by show [bM.row (ρ.v 0) 55 l]=_;rw[hv]
 rw[hσ]at hd hn ⊢;have fin:∀(w':World) (u:Value),fU u=fU v->(∃us',gr w' u 55 2 (zZ b) us'/\∀i,i<zZ b->bD A w (uni.cells 55 b[i]!) ((us'.drop (i*2)).take 2))->Kp (bh [bM.row v 55 l]) w w'->∃v_1 av σ',Ending.returned u=Ending.returned v_1/\
   (∃ρ',nc 1 ρ ρ'/\av=(bU.own (cQ:=uni.cQ) 1).sub ρ'/\List.Perm σ' (aS.res ρ' [(1, .row 55 b)]))/\Tr ⟨w,A,bh [bM.row v 55 l]⟩ (bh [bM.row v 55 l]) [bM.row v 55 l] w σ' w'/\Rel (al ⟨w,A,bh [bM.row v 55 l]⟩ σ') w' av v_1:=λw' u hu ⟨us',hrow,hrel⟩ hk=>by
  have hbk:bh [bM.row u 55 b]=bh [bM.row v 55 l]:=by simp only[bh,xd,bM.blk,hu]
  have hal:∀x,al ⟨w,A,bh [bM.row v 55 l]⟩ [bM.row v 55 l] x->al ⟨w,A,bh [bM.row v 55 l]⟩ [bM.row u 55 b] x:=λx h=>⟨h.1,by rw[hbk];exact h.2⟩;refine⟨u, .lit u,[bM.row u 55 b],rfl,⟨⟨λi=>if i=1 then u else ρ.v i,ρ.b⟩,λi hi=>⟨by show _=if i=1 then u else ρ.v i;rw[nB],rfl⟩,by rw[cI];rfl,List.Perm.refl _⟩,⟨⟨hk,?_,?_,?_⟩,hk,λx _ h=>⟨hal x h,h.2⟩⟩, .lit u⟩
  ·intro r hr;rw[zA.1 hr];refine⟨us',hrow,λi _=>rfl,λi hi=>(hrel i hi).mono λx hx hA=> ?_⟩;have hnb:x∉bh [bM.row v 55 l]:=λh=>hd.2 x h hA;exact⟨⟨.inl hA,by rw[hbk];exact hnb⟩,hk.block x hx hnb⟩
  ·simp_all
  ·intro x hx;rw[hbk]at hx;exact .inl hx
 obtain⟨h1l,hcase⟩:=h1;rcases hcase with ⟨p,hvp,hl0⟩|⟨gb,cap,cur,hvp,hg,q1,q2,q3,q4⟩
 ·have hl:l=[]:=yC.1 hl0;have hbn:b=[]:=by rw[hbl,hl];rfl
  subst hvp;refine(Mr func89 p 0 (.func (.func 90) #[] #[]) w).mono λe w' he=> ?_;obtain⟨rfl,rfl⟩:=he;refine fin w' _ rfl ⟨[],?_,λi hi=>by rw[hbn]at hi;cases hi⟩ (Kp.refl _ _);rw[hbn];exact⟨rfl, .inl ⟨p,rfl,rfl⟩⟩
 ·subst hvp;have hgs:gb<w.heap.size:=(yd.1 hg).1;have hAg:¬A gb:=hd.2 gb (bE.2 ⟨_,zA.2 rfl,rfl⟩);have q4:cur.toList.take (zZ l*2)=us:=q4;have q3:cur.size=(cap+1)*2:=q3;have h1l:zZ us=zZ l*2:=h1l;have q1':zZ l<=cap+1:=q1;obtain⟨d,d1,d2,d3⟩:=aFu h1l h3;have hH:HoldsK qW 2 w gb 0 d:=Z6 hg d3 (by rw[h1l];exact q4);have hcmp:∀(dk:Array (Ob A w)) (W:World),dk.size=d.size->CX qW 2 w gb 0 dk W->∀x y:Ob A w,Calls va 90 (#[.agg (qW x).toArray, .agg (qW y).toArray]++#[]) W λe w'=>e= .returned (.bool (eqO x y))/\∃q os',w'=grow (redrawn W q) os':=λdk W hdk ⟨q0,n,os,hW⟩ x y=>by
   subst hW;exact al8 (aI4 x.1.1 y.1.1 (azM x)) (λc hc hA=>CB hc λe=>hAg (e▸hA))
  have hs:=ahN (P:=va) func89 aL underlying3 Tryz.isAgg3 Tryz.sizeOf3 Tryz.zeroValue3 underlying4 Tryz.isAgg4 Tryz.sizeOf4 Tryz.zeroValue4 underlying74 Tryz.isAgg74 Tryz.sizeOf74 Tryz.zeroValue74
   2 Tryz.isAgg55 Tryz.sizeOf55 qW eqO 90 #[] gb 0 (cap+1) d w (enters_of func90 aL rfl) hcmp ⟨CR,am8,hH,hgs⟩ (by rw[d1];omega) (by rw[d1];exact q1')
   (λkk=>(Builtin.zeroCells #[.slice J 0 0, .int .i64 0] (d.size-kk)).toList) (λW dk kk hS hdk hkk ty=>by
    obtain⟨q0,n,os,rfl⟩:=hS;exact akQ (E5 (enc:=qW) (W:=redrawn w q0) hg) (by simp[putCells];omega) hkk)
  rw[d1]at hs;refine hs.mono λe w' he=> ?_;obtain⟨rfl,dk,W,⟨q0,n,os,hW⟩,hdk,hlow,hfin⟩:=he;rw[<-d1]at hlow hfin ⊢;obtain⟨L,hL⟩:∃L,L=HI eqO d d.size:=⟨_,rfl⟩;rw[<-hL]at hlow hfin ⊢;have hLb:L.map (λx=>x.1.1)=b:=by
   rw[hL,XC d d.size (zx _),d2,d1,yh,hbl]
  have hLlen:zZ L=zZ b:=by rw[<-hLb,zF]
  have hbll:zZ b<=zZ l:=by rw[hbl];exact ai1 l
  have hWg:W.heap[gb]? =M (.cells (putCells id 0 (flatK qW 2 dk) cur) 55 (0,0)):=by rw[hW];exact E5 (W:=redrawn w q0) hg
  have hkW:Kp [gb] w W:=by
   have k1:Kp [gb] (redrawn w q0) (sortWorldK qW 2 (redrawn w q0) gb 0 n dk os):=aft;rw[hW];exact⟨k1.os,k1.tape,k1.output,k1.size,k1.block⟩
  have hFs:(flatK qW 2 dk).size=zZ l*2:=by rw[size_flatK,hdk]
  obtain⟨F,hF1,hF2,hF3,hF4⟩:∃F:Array Value,w'.heap[gb]? =M (.cells F 55 (0,0))/\F.size=(cap+1)*2/\F.toList.take (zZ b*2)=(flatK qW 2 dk).toList.take (zZ b*2)/\Kp [gb] w w':=by
   have ht:=agp (F:=flatK qW 2 dk) (cur:=cur) (by rw[hFs,q3];omega);have ht2:(putCells id 0 (flatK qW 2 dk) cur).toList.take (zZ b*2)=(flatK qW 2 dk).toList.take (zZ b*2):=by
    rw[<-ht,List.take_take,Nat.min_eq_left (by rw[hFs];omega)]
   rcases hfin with rfl|rfl
   ·exact⟨_,hWg,by simp[putCells,q3],ht2,hkW⟩
   ·refine⟨_,sg _ _ _ _ hWg,by simp[putCells,q3],?_,Kp.trans hkW (Cm _ _ _) λx hx _=>hx⟩;rw[<-ht2];apply List.ext_getElem?;intro j;by_cases hj:j<zZ b*2
    ·rw[xA hj,xA hj,y7,y7];have hjs:j<(putCells id 0 (flatK qW 2 dk) cur).size:=by simp[putCells];omega
     have:=get_setMany ((Builtin.zeroCells #[.slice J 0 0, .int .i64 0] (d.size-L.length)).toList) (0+zZ L*2) _ j hjs;rw[nB,getElem!_pos _ j (by simpa using hjs),getElem!_pos _ j hjs]at this;rw[xC (by simpa using hjs),xC hjs,this]
    ·rw[w8 aj,w8 aj]
  have hdl:flatK qW 2 L.toArray=((flatK qW 2 dk).toList.take (zZ b*2)).toArray:=by
   refine ext_get! (by simp[hLlen,hFs];omega) λt ht=> ?_;have ht:t<zZ L*2:=by simpa using ht
   rw[get_flatK _ _ _ t (by simpa using ht)];have e1:(L.toArray)[t/2]! =dk[t/2]! :=by
    have:=hlow (t/2) aj;rw[getElem!_pos _ (t/2) (by simp;omega)];rw[zD aj]at this;simpa using zJ.inj this
   have e2:(((flatK qW 2 dk).toList.take (zZ b*2)).toArray)[t]! =(flatK qW 2 dk)[t]! :=by
    rw[getElem!_pos _ t (by simp[hFs];omega),getElem!_pos _ t (by rw[hFs];omega)];simp
   rw[e1,e2,get_flatK _ _ _ t (by rw[hdk];omega)]
  obtain⟨r1,r2⟩:=axP L.toArray b (by simpa using hLb);rw[hdl]at r1 r2;refine fin w' _ rfl ⟨(flatK qW 2 dk).toList.take (zZ b*2),⟨by simpa using r1, .inr ⟨gb,cap,F,by rw[hLlen],hF1,aj,q2,hF2,hF3⟩⟩,λi hi=>by simpa using r2 i hi⟩ hF4
def aK4:azH:=λg b hb=>aEJ g.2.1 b hb
def Tf:Go.Shelf.Ren:=⟨λ|189=>143|125=>102|257=>201|128=>172|129=>173|294=>253|295=>254|296=>255|297=>256|298=>257|299=>258|216=>259|300=>260|301=>261|328=>289|329=>269|330=>270|331=>290|332=>291|215=>273|343=>300|n=>n,λ|28=>46|46=>174|51=>251|53=>253|183=>305|182=>304|131=>100|218=>341|222=>345|228=>358|229=>255|n=>n,λ|n=>n⟩
def aeL:Go.Proofs.Lays.n189 va Tf where
 mixed:=aL
 f125:=func102.trans (congrArg M aL)
 f128:=func172.trans (congrArg M aL)
 f129:=func173.trans (congrArg M aL)
 f189:=func143.trans (congrArg M aL)
 f215:=func273.trans (congrArg M aL)
 f216:=func259.trans (congrArg M aL)
 f257:=func201.trans (congrArg M aL)
 f294:=func253.trans (congrArg M aL)
 f295:=func254.trans (congrArg M aL)
 f296:=func255.trans (congrArg M aL)
 f297:=func256.trans (congrArg M aL)
 f298:=func257.trans (congrArg M aL)
 f299:=func258.trans (congrArg M aL)
 f300:=func260.trans (congrArg M aL)
 f301:=func261.trans (congrArg M aL)
 f328:=func289.trans (congrArg M aL)
 f329:=func269.trans (congrArg M aL)
 f330:=func270.trans (congrArg M aL)
 f331:=func290.trans (congrArg M aL)
 f332:=func291.trans (congrArg M aL)
 f343:=func300.trans (congrArg M aL)
 t0:=underlying0
 a0:=Tryz.isAgg0
 z0:=Tryz.sizeOf0
 v0:=Tryz.zeroValue0
 t3:=underlying3
 a3:=Tryz.isAgg3
 z3:=Tryz.sizeOf3
 v3:=Tryz.zeroValue3
 t4:=underlying4
 a4:=Tryz.isAgg4
 z4:=Tryz.sizeOf4
 v4:=Tryz.zeroValue4
 t5:=underlying5
 a5:=Tryz.isAgg5
 z5:=Tryz.sizeOf5
 v5:=Tryz.zeroValue5
 t9:=underlying9
 a9:=Tryz.isAgg9
 z9:=Tryz.sizeOf9
 v9:=Tryz.zeroValue9
 t28:=underlying46
 a28:=Tryz.isAgg46
 z28:=Tryz.sizeOf46
 v28:=Tryz.zeroValue46
 t46:=underlying174
 a46:=Tryz.isAgg174
 z46:=Tryz.sizeOf174
 v46:=Tryz.zeroValue174
 t51:=underlying251
 a51:=Tryz.isAgg251
 z51:=Tryz.sizeOf251
 v51:=Tryz.zeroValue251
 t53:=underlying253
 a53:=Tryz.isAgg253
 z53:=Tryz.sizeOf253
 v53:=Tryz.zeroValue253
 t131:=underlying100
 a131:=Tryz.isAgg100
 z131:=Tryz.sizeOf100
 v131:=Tryz.zeroValue100
 t182:=underlying304
 a182:=Tryz.isAgg304
 z182:=Tryz.sizeOf304
 v182:=Tryz.zeroValue304
 t183:=underlying305
 a183:=Tryz.isAgg305
 z183:=Tryz.sizeOf305
 v183:=Tryz.zeroValue305
 t218:=underlying341
 a218:=Tryz.isAgg341
 z218:=Tryz.sizeOf341
 v218:=Tryz.zeroValue341
 t222:=underlying345
 a222:=Tryz.isAgg345
 z222:=Tryz.sizeOf345
 v222:=Tryz.zeroValue345
 t228:=underlying358
 a228:=Tryz.isAgg358
 z228:=Tryz.sizeOf358
 v228:=Tryz.zeroValue358
 t229:=underlying255
 a229:=Tryz.isAgg255
 z229:=Tryz.sizeOf255
 v229:=Tryz.zeroValue255
def jV(l:aa Int):aa Int:=l.mergeSort λx y=>w9 (x<=y)
abbrev avq:=aa Int
def aAU:=(sr 0 3 sn)
def d143:Td 1 avq:= .c [] [] (.r 1 1 en (sr 0 3 sn) (λz=>z.2.1) (λx=>((()),(x,()))))
def azg:=(lc (qo 0) ln)
def TL(l:aa Int):af avq:=if zZ l<=1073741824 then M (jV l)else J
def au6(l:aa Int)(r:avq)(hb:TL l=M r):Ht va 143 [.own 0] [(0, .row 3 l)] 1 (eN va 143 1 (d143.pat r)):=by
 unfold TL at hb;split at hb
 case isFalse=>cases hb
 rename_i hlen;have hr0:r=jV l:=(zJ.inj hb).symm;subst hr0;intro ρ;have ho:eN va 143 1 (d143.pat (jV l))=⟨.iF [],[(0, .row 3 (jV l))],1⟩:=aL;rw[ho];show Go.Iv.Fn va 143 [(bU.own 0).sub ρ] [bM.row (ρ.v 0) 3 l] _;intro w A vs hr hd hn;obtain⟨hr1,hr2⟩:=hr;obtain⟨v,rfl⟩:∃v,vs=[v]:=by
  match vs,hr1 with
  |[v],_=>exact⟨v,rfl⟩
 have hv:v=ρ.v 0:=by
  have:=hr2 0 _ v rfl rfl;rw[cI]at this;exact this.bR
 subst hv;have hg:Go.Iv.Good ⟨w,A,bh [bM.row (ρ.v 0) 3 l]⟩ [bM.row (ρ.v 0) 3 l] w:=⟨Kp.refl _ _,λr hr=>(hd.1 r hr).mono (λb _ hA=>⟨⟨.inl hA,λhx=>hd.2 b hx hA⟩,rfl⟩) (λ_ _=>rfl),hn,λb hb=> .inl hb⟩;have fin:∀w':World,gr w' (ρ.v 0) 3 1 (jV l).length ((jV l).map (Value.int .i64))->Kp (fU (ρ.v 0)).toList w w'->∃v av σ',Ending.returned (Value.tuple #[])=Ending.returned v/\(∃ρ',nc 1 ρ ρ'/\av=(bU.iF (cQ:=uni.cQ) []).sub ρ'/\List.Perm σ' (aS.res ρ' [(0, .row 3 (jV l))]))/\
   Tr ⟨w,A,bh [bM.row (ρ.v 0) 3 l]⟩ (bh [bM.row (ρ.v 0) 3 l]) [bM.row (ρ.v 0) 3 l] w σ' w'/\Rel (al ⟨w,A,bh [bM.row (ρ.v 0) 3 l]⟩ σ') w' av v:=λw' hrow hk=>by
  have t:=pW (i:=0) (r:= .row (ρ.v 0) 3 l) (r':= .row (ρ.v 0) 3 (jV l)) hg rfl hk (.inl rfl) (pN hrow (λi _=>rfl) (vk _));refine⟨_, .iF [],[bM.row (ρ.v 0) 3 (jV l)],rfl,⟨ρ,λi _=>⟨rfl,rfl⟩,by simp only[bU.sub,yx],List.Perm.refl _⟩,t.wide (λb hb=> ?_),Rel.iF [] [] rfl (λj a v q=>by cases q)⟩;have hb:b∈(fU (ρ.v 0)).toList:=hb;cases hq:fU (ρ.v 0)with
  |none=>rw[hq]at hb;cases hb
  |some g=>
   rw[hq]at hb;exact bE.2 ⟨_,zm,by rw[show b=g by simpa using hb];exact hq⟩
 have nilS:∀p c,l=[]->ρ.v 0= .slice p 0 c->gr w (.slice p 0 c) 3 1 (zZ l) []->Calls va 143 #[ρ.v 0] w λe w'=>∃v av σ',e=Ending.returned v/\(∃ρ',nc 1 ρ ρ'/\av=(bU.iF (cQ:=uni.cQ) []).sub ρ'/\List.Perm σ' (aS.res ρ' [(0, .row 3 (jV l))]))/\
   Tr ⟨w,A,bh [bM.row (ρ.v 0) 3 l]⟩ (bh [bM.row (ρ.v 0) 3 l]) [bM.row (ρ.v 0) 3 l] w σ' w'/\Rel (al ⟨w,A,bh [bM.row (ρ.v 0) 3 l]⟩ σ') w' av v:=λp c hl hv hri=>by
  have h0:=Go.Proofs.Any.slices_Sort_int_none aeL p c w;rw[<-hv]at h0;refine Calls.mono h0 λe w' he=> ?_;obtain⟨rfl,rfl⟩:=he;refine fin w' ?_ (Kp.refl _ _);rw[hv];have e:jV l=[]:=by rw[hl];unfold jV;rw[List.mergeSort_nil]
  rw[e];rw[hl]at hri;exact hri
 obtain⟨us,h1,h2,h3⟩:=lF (hd.1 (.row (ρ.v 0) 3 l) zm);have hus:=p8 h3;subst hus;show Calls va 143 #[ρ.v 0] w _;obtain⟨h1l,hcase⟩:=h1;rcases hcase with ⟨p,hvp,hl0⟩|⟨gb,cap,cur,hvp,hgb,q1,q2,q3,q4⟩
 ·have hl:l=[]:=yC.1 hl0;exact nilS p 0 hl hvp ⟨by rw[hl];rfl, .inl ⟨p,rfl,hl0⟩⟩
 ·by_cases hl:l=[]
  ·refine nilS _ _ hl (by rw[hvp,hl];rfl) ⟨by rw[hl];rfl, .inr ⟨gb,cap,cur,by rw[hl];rfl,hgb,q1,q2,q3,?_⟩⟩;rw[hl];rfl
  ·have q1:zZ l<=cap+1:=q1;have q3:cur.size=cap+1:=by rw[q3];exact yb _
   have q4:cur.toList.take (zZ l*1)=l.map (Value.int .i64):=q4;rw[yb]at q4;have hvp:ρ.v 0= .slice (M ⟨gb,0,J⟩) (zZ l) (cap+1):=hvp;have hgs:gb<w.heap.size:=(yd.1 hgb).1;have hH:Holds (Value.int .i64) w gb 0 l.toArray:=λj hj=>by
    have hj':j<zZ l:=by simpa using hj
    have e1:cur[j]? =M (Value.int .i64 l[j]):=by
     have:=congrArg (·[j]?) q4;simp only[xA hj',zP,zD hj',z8]at this
     rwa [y7]at this
    have e2:l.toArray[j]! =l[j]:=by rw[getElem!_pos l.toArray j hj];simp
    rw[e2,zY];exact⟨by simp[World.cell?,hgb,e1],by simp[World.frozen?,hgb]⟩
   have hs:=Go.Proofs.Any.slices_Sort_int aeL gb 0 (cap+1) l w hH hgs aj;rw[<-hvp]at hs;refine Calls.mono hs λe w' he=> ?_;obtain⟨rfl,n,os,rfl⟩:=he;have hbl':zZ (jV l)=zZ l:=List.length_mergeSort _;refine fin _ ⟨by rw[zF,yb], .inr ⟨gb,cap,_,by rw[hvp,hbl'],K5 (enc:=Value.int .i64) hgb,by rw[hbl'];exact q1,q2,by simp[putCells,q3],?_⟩⟩ ?_
   ·have:=BB (enc:=Value.int .i64) (dk:=(jV l).toArray) (cur:=cur) (by simp;omega);rw[yb,show zZ (jV l)=(jV l).toArray.size by simp];exact this
   ·rw[hvp];exact ad4
def azK:HY va 143 1 azg aAU d143 (λg=>TL g.2.1):=λg r hb=>au6 _ _ hb
def aIw:aT->aT:=eY va 143 1 azg aAU d143 (λg=>TL g.2.1)
def ak1{F:aT}(h:bK va F):bK va (aIw F):=gi azK ⟨_,func143,aL,aL⟩ (λ_=>aL) h
def aad:Go.Shelf.Ren:=⟨λ|20=>79|n=>n,λ|22=>46|n=>n,λ|n=>n⟩
def apn:Go.Proofs.Lays2.n20 va aad where
 mixed:=aL
 f20:=func79.trans (congrArg M aL)
 t0:=underlying0
 a0:=Tryz.isAgg0
 z0:=Tryz.sizeOf0
 v0:=Tryz.zeroValue0
 t3:=underlying3
 a3:=Tryz.isAgg3
 z3:=Tryz.sizeOf3
 v3:=Tryz.zeroValue3
 t4:=underlying4
 a4:=Tryz.isAgg4
 z4:=Tryz.sizeOf4
 v4:=Tryz.zeroValue4
 t22:=underlying46
 a22:=Tryz.isAgg46
 z22:=Tryz.sizeOf46
 v22:=Tryz.zeroValue46
 i3:=aL
def anW(l:aa Int):zZ (Go.Lib.compact l)<=zZ l:=Go.Lib.compact_length_le l
abbrev azT:=aa Int
def aFR:=(sr 0 3 sn)
def aj4:Td 1 azT:= .c [] [2] (.r 1 2 (ec 2 (qo 1) en) (sr 1 3 sn) (λz=>z.2.1) (λx=>(((),()),(x,()))))
def aBT:=(lc (qo 0) ln)
def TG(l:aa Int):af azT:=if zZ l<=1073741824 then M (Go.Lib.compact l)else J
def ayQ(l b:aa Int)(hb:TG l=M b):Ht va 79 [.own 0] [(0, .row 3 l)] 1 (eN va 79 1 (aj4.pat b)):=by
 unfold TG at hb;split at hb
 case isFalse=>cases hb
 rename_i hlen;have hbl:b=Go.Lib.compact l:=(zJ.inj hb).symm;intro ρ;have ho:eN va 79 1 (aj4.pat b)=⟨.own 1,[(1, .row 3 b)],2⟩:=aL;show Go.Iv.Fn va 79 [(bU.own 0).sub ρ] (aS.res ρ [(0, .row 3 l)]) _;rw[ho,cI];intro w A vs hr hd hn;obtain⟨hr1,hr2⟩:=hr;obtain⟨v,rfl⟩:∃v,vs=[v]:=by
  match vs,hr1 with
  |[v],_=>exact⟨v,rfl⟩
 have hv:v=ρ.v 0:=(hr2 0 _ v rfl rfl).bR;subst hv;generalize hv:ρ.v 0=v at*;have hok:=hd.1 (.row v 3 l) (by show _∈[bM.row (ρ.v 0) 3 l];rw[hv];exact zA.2 rfl);obtain⟨us,h1,h2,h3⟩:=lF hok;have hus:=p8 h3;subst hus;have hσ:aS.res ρ [(0, .row 3 l)]=[bM.row v 3 l]:=by show [bM.row (ρ.v 0) 3 l]=_;rw[hv]
 rw[hσ]at hd hn ⊢;have fin:∀(w':World) (u:Value),fU u=fU v->gr w' u 3 1 (zZ b) (b.map (Value.int .i64))->Kp (bh [bM.row v 3 l]) w w'->∃v_1 av σ',Ending.returned u=Ending.returned v_1/\
   (∃ρ',nc 1 ρ ρ'/\av=(bU.own (cQ:=uni.cQ) 1).sub ρ'/\List.Perm σ' (aS.res ρ' [(1, .row 3 b)]))/\Tr ⟨w,A,bh [bM.row v 3 l]⟩ (bh [bM.row v 3 l]) [bM.row v 3 l] w σ' w'/\Rel (al ⟨w,A,bh [bM.row v 3 l]⟩ σ') w' av v_1:=λw' u hu hrow hk=>by
  have hbk:bh [bM.row u 3 b]=bh [bM.row v 3 l]:=by simp only[bh,xd,bM.blk,hu]
  have hal:∀x,al ⟨w,A,bh [bM.row v 3 l]⟩ [bM.row v 3 l] x->al ⟨w,A,bh [bM.row v 3 l]⟩ [bM.row u 3 b] x:=λx h=>⟨h.1,by rw[hbk];exact h.2⟩;refine⟨u, .lit u,[bM.row u 3 b],rfl,⟨⟨λi=>if i=1 then u else ρ.v i,ρ.b⟩,λi hi=>⟨by show _=if i=1 then u else ρ.v i;rw[nB],rfl⟩,by rw[cI];rfl,List.Perm.refl _⟩,⟨⟨hk,?_,?_,?_⟩,hk,λx _ h=>⟨hal x h,h.2⟩⟩, .lit u⟩
  ·intro r hr;rw[zA.1 hr];exact pN hrow (λi _=>rfl) (vk _)
  ·rw[hbk];exact hn
  ·intro x hx;rw[hbk]at hx;exact .inl hx
 obtain⟨h1l,hcase⟩:=h1;rcases hcase with ⟨p,hvp,hl0⟩|⟨gb,cap,cur,hvp,hg,q1,q2,q3,q4⟩
 ·have hl:l=[]:=yC.1 hl0;have hbn:b=[]:=by rw[hbl,hl];rfl
  subst hvp;refine Calls.mono (Go.Proofs.Any.slices_Compact_int_empty apn p 0 w) λe w' he=> ?_;obtain⟨rfl,rfl⟩:=he;refine fin w' _ rfl ?_ (Kp.refl _ _);rw[hbn];exact⟨rfl, .inl ⟨p,rfl,rfl⟩⟩
 ·have hvp:v= .slice (M ⟨gb,0,J⟩) (zZ l) (cap+1):=hvp;subst hvp;have hgs:gb<w.heap.size:=(yd.1 hg).1;have q1:zZ l<=cap+1:=q1;have q3:cur.size=cap+1:=by rw[q3];exact yb _
  have q4:cur.toList.take (zZ l*1)=l.map (Value.int .i64):=q4;rw[yb]at q4;have hH:Holds (Value.int .i64) w gb 0 l.toArray:=λj hj=>by
   have hj':j<zZ l:=by simpa using hj
   have e1:cur[j]? =M (Value.int .i64 l[j]):=by
    have:=congrArg (·[j]?) q4;simp only[xA hj',zP,zD hj',z8]at this
    rwa [y7]at this
   have e2:l.toArray[j]! =l[j]:=by rw[getElem!_pos l.toArray j hj];simp
   rw[e2,zY];exact⟨by simp[World.cell?,hg,e1],by simp[World.frozen?,hg]⟩
  have hs:=Go.Proofs.Any.slices_Compact_int apn gb 0 (cap+1) l w hH aj q1;refine Calls.mono hs λe w' he=> ?_;obtain⟨rfl,n,rfl⟩:=he;have hbll:=anW l;rw[<-hbl]at hbll ⊢;obtain⟨dk,hdk⟩:∃dk:Array Int,dk=(b++zq (zZ l-b.length) 0).toArray:=⟨_,rfl⟩;have hds:dk.size=zZ l:=by rw[hdk];simp;omega
  rw[<-hdk];have hw:putRow (Value.int .i64) (Sort.ahead w n) gb 0 dk=sortWorld (Value.int .i64) w gb 0 n dk #[]:=(grow_empty _).symm;rw[hw];refine fin _ _ rfl ⟨by rw[zF,yb], .inr ⟨gb,cap,_,rfl,K5 (enc:=Value.int .i64) hg,aj,q2,by simp[putCells,q3],?_⟩⟩ ad4;have:=BB (enc:=Value.int .i64) (dk:=dk) (cur:=cur) aj;have h5:=congrArg (List.take (zZ b)) this;rw[List.take_take,Nat.min_eq_left aj]at h5;rw[yb];refine h5.trans ?_;rw[hdk,zH,List.take_left' (by simp)]
def aLL:HY va 79 1 aBT aFR aj4 (λg=>TG g.2.1):=λg r hb=>ayQ _ _ hb
def aJK:aT->aT:=eY va 79 1 aBT aFR aj4 (λg=>TG g.2.1)
def anj{F:aT}(h:bK va F):bK va (aJK F):=gi aLL ⟨_,func79,aL,aL⟩ (λ_=>aL) h
end Go.Proofs.YtghilkcphindjaaGreat
namespace Go.Proofs.YtghilkcphindjaaGreat
open Go Go.Iv
open Go.IntKind (i64 u64)
def aub:aT:=dz
abbrev au3:=cz×Int
def d114:Td 0 au3:= .c [] [4,5] (.r 0 1 (ec 4 (qp 0 0) (ec 5 aU en)) (sb 0 42 an0 sn) (λz=>((cz.mk z.2.1.1 [] z.2.1.t.1),z.1.2.1)) (λx=>(((),x.2,()),((x.1.ah,(),x.1.aH,()),()))))
def aBo:=(dX (lc qb ln))
def aoW:An:=(noTwo (.two (.two (.rb [] 12) .no) .no))
def ayN:∀f∈([]:aa Nat),bH (aub) f:=az
def OR(a0:Int)(a1:Bool):au3:=
 let r1:Bool:=bif w9 (a0<0)then Z else w9 (40<a0);bif r1 then(cz.mk (0) [] (0),3)else bif a1 then(cz.mk a0 [] (1),0)else(cz.mk a0 [] (0),0)
def aKy(a0:Int)(a1:Bool):bY va (aub) 300 (aoW) 114 (aBo.c (a0,a1,())) [] 0 d114.rd=M (OR a0 a1):=by
 refine Eq.trans (b:=(
  match bif w9 (a0<0)then M (Z)else M (w9 (40<a0))with|J=>J|M r1=>bif r1 then M ((cz.mk (0) [] (0),3))else bif a1 then M ((cz.mk a0 [] (1),0))else M ((cz.mk a0 [] (0),0)):af au3)) aL ?_
 simp only[OR,b6,cw]
def aKw:=eL va 114 O aBo d114 (λg=>M (OR g.1 g.2.1))
def alS:EO aKw:=λh=>kL (F:=aub) (an:=aoW) (l:=[(.skip,(.rb [] 12))]) func114 aP (aA ayN az) h (c:=λg=>aKy g.1 g.2.1)
def aFa:aT:=dz
abbrev aCD:=(aa Int)×(aa bu)×ga×cR×Bool
def d156:Td 0 aCD:= .c [] [0] (.t (bT.c 0 0 [] 3) (.t (bT.c 0 1 [] 113) (.c [] [0] (.r 0 5 (ec 0 (qp 0 0) en) w6_ (λz=>(z.t.1,z.t.2.1,z.q.1,z.q.2.1,z.2.1.q.1)) (λx=>(((),()),(((),(),(),(),x.q,()),x.1,x.2.1,x.t.1,x.t.2.1,())))))))
def aFp:=ln
def aom:An:= .no
def fQ:aCD:=
 ([],[],[],[],O)
def aHZ:bY va (aFa) 300 (aom) 156 (aFp.c ()) [] 0 d156.rd=M (fQ):=aL
def aK9:aT->aT:=eZ va 156 aFp d156 (λ_=>M (fQ))
def nY:EO aK9:=λh=>kZ (F:=aFa) (an:=aom) func156 aP az h (c:=λ_=>aHZ)
abbrev aDc:=(aa Int)×(aa Int)×(aa Int)×(aa bu)×ga×cR×Bool
def d224:Td 5 aDc:= .c [] [4,5] (.r 5 9 (ec 4 (qp 5 0) (ec 5 (qp 6 0) en)) (sb 0 296 (lc (qo 1) Nf) (sr 1 3 (sr 2 113 (sm 3 .k1 .i (sm 4 .k3 .i (sb 5 46 (lc (qo 7) ln) (sb 6 46 (lc (qo 8) ln) (sr 7 3 (sr 8 3 sn))))))))) (λz=>(z.q.q.1,z.q.q.2.1,z.t.1,z.t.2.1,z.q.1,z.q.2.1,z.2.1.q.1)) (λx=>(((),(),()),(((),(),(),(),x.q.t,()),x.t.1,x.t.2.1,x.q.1,x.q.2.1,((),()),((),()),x.1,x.2.1,()))))
def aIT:=w6_
def agV(a1:Int)(bt:aa Int)(eC:aa bu)(jv:ga)(jx:cR)(jW:Bool):af aDc:=
 match Xv a1 [] bt eC jv jx jW with|J=>J|M r1=>match ZQ r1.snd.fst r1.snd.snd.snd.fst r1.snd.snd.snd.snd.fst r1.snd.snd.snd.snd.snd.fst r1.snd.snd.snd.snd.snd.snd.fst r1.snd.snd.snd.snd.snd.snd.snd with|J=>J|M r2=>M ((r1.snd.snd.fst,r2))
def aDo:aT->aT:=eY va 224 5 (lc (qp 0 0) gY) aIT d224 (λg=>agV g.1.2.1 g.t.1 g.t.2.1 g.q.1 g.q.2.1 g.2.1.q.1)
def U1:EO aDo:=λh=>kY (an:= .no) func224 (ad6 aAv (ag6 (VZ aP))) az h
def aCr:aT:=(aDo dz)
structure tX where
 t2:Int
 t9:List Int
 t10:ga
 t64:List Int
 (t65 t66:Int)
 bt:List Int
 eC:List bu
 jv:ga
 jx:cR
 jW:Bool
 (b5 b8:aq)
def Q5:Td 5 tX:= .c [] [0,2,6,9,10,11,64,65,66] (.t (bT.c 8 2 [] 113) (.c [] [0,2,6,9,10,11,64,65,66] (.r 5 12 (ec 0 (qp 0 0) (ec 2 aU (ec 6 (qp 5 0) (ec 9 (qo 6) (ec 10 (qo 7) (ec 11 (qp 8 0) (ec 64 (qo 9) (ec 65 aU (ec 66 aU en))))))))) (sb 0 296 (lc (qo 1) Nf) (sr 1 3 (sr 2 113 (sm 3 .k1 .i (sm 4 .k3 .i (sb 5 80 w8_ (sr 6 3 (sm 7 .k1 .i (sb 8 80 (dX (lc (qo 10) (lc (qo 11) gY))) (sr 9 3 (sr 10 3 (sr 11 113 sn)))))))))))) (λz=>⟨z.1.2.1,z.q.t.2.1,z.q.q.1,z.q.q.t.1,z.1.q.t.2.1,z.1.q.q.1,z.t.1,z.t.2.1,z.q.1,z.q.2.1,z.2.1.q.1,(aq.mk z.q.t.1.1 [] [] z.q.t.1.t.2.1),(aq.mk z.q.q.2.1.1 z.q.q.t.2.1 z.q.q.q.1 z.q.q.2.1.t.2.1)⟩) (λx=>(((),x.t2,(),(),(),(),(),x.t65,x.t66,()),(((),(),(),(),x.jW,()),x.bt,x.eC,x.jv,x.jx,(x.b5.ah,(),(),x.b5.aH,()),x.t9,x.t10,(x.b8.ah,(),(),x.b8.aH,()),x.t64,x.b8.aG,x.b8.aD,()))))))
def Fv{α:Type}(p:tX)(go:tX->af α)(e1:af α):af α:=
 bif w9 (p.t66<p.t65)then if 0<=p.t66/\p.t66<zZ p.t64 then if 3=3/\zQ p.t66<zZ p.t64 then if 0<=p.t64[zQ p.t66]!/\p.t64[zQ p.t66]! <(zZ p.eC:Int)then if 113=113/\zQ p.t64[zQ p.t66]! <zZ p.eC then if(p.b8.aD++[bu.mk p.eC[zQ p.t64[zQ p.t66]!]!.bq ((ei p.t10 p.eC[zQ p.t64[zQ p.t66]!]!.aC).getD ((0:Int))) ((ei p.t10 p.eC[zQ p.t64[zQ p.t66]!]!.au).getD ((0:Int)))]).length<=1073741824 then go (tX.mk p.t2 p.t9 (gB p.t10 (ak (ak (2*p.t64[zQ p.t66]!)+1)) (ak (zZ p.t9+p.t66))) p.t64 p.t65 (ak (p.t66+1)) p.bt p.eC p.jv p.jx p.jW (aq.mk p.b5.ah [] [] p.b5.aH) (aq.mk p.b8.ah p.b8.aG (p.b8.aD++[bu.mk p.eC[zQ p.t64[zQ p.t66]!]!.bq ((ei p.t10 p.eC[zQ p.t64[zQ p.t66]!]!.aC).getD 0) ((ei p.t10 p.eC[zQ p.t64[zQ p.t66]!]!.au).getD 0)]) p.b8.aH))else J else J else J else J else J else e1
def K0(p:tX):af (af tX):=
 Fv p fW dy
def Mp:=bX (K0)
structure tB where
 t2:Int
 (t8 t9:List Int)
 t10:ga
 t40:List Int
 (t41 t42:Int)
 bt:List Int
 eC:List bu
 jv:ga
 jx:cR
 jW:Bool
 (b5 b9:aq)
def TX:Td 5 tB:= .c [] [0,2,6,8,9,10,11,40,41,42] (.t (bT.c 9 1 [] 3) (.c [] [0,2,6,8,9,10,11,40,41,42] (.r 5 11 (ec 0 (qp 0 0) (ec 2 aU (ec 6 (qp 5 0) (ec 8 (qo 6) (ec 9 (qo 7) (ec 10 (qo 8) (ec 11 (qp 9 0) (ec 40 (qo 7) (ec 41 aU (ec 42 aU en)))))))))) (sb 0 296 (lc (qo 1) Nf) (sr 1 3 (sr 2 113 (sm 3 .k1 .i (sm 4 .k3 .i (sb 5 80 w8_ (sr 6 3 (sr 7 3 (sm 8 .k1 .i (sb 9 80 (dX (lc (qo 10) (lc qn gY))) (sr 10 3 sn))))))))))) (λz=>⟨z.1.2.1,z.q.t.2.1,z.q.q.1,z.q.q.2.1,z.q.q.1,z.1.q.q.1,z.1.q.q.2.1,z.t.1,z.t.2.1,z.q.1,z.q.2.1,z.2.1.q.1,(aq.mk z.q.t.1.1 [] [] z.q.t.1.t.2.1),(aq.mk z.q.q.t.1.1 z.q.q.t.2.1 [] z.q.q.t.1.t.2.1)⟩) (λx=>(((),x.t2,(),(),(),(),(),(),x.t41,x.t42,()),(((),(),(),(),x.jW,()),x.bt,x.eC,x.jv,x.jx,(x.b5.ah,(),(),x.b5.aH,()),x.t8,x.t40,x.t10,(x.b9.ah,(),(),x.b9.aH,()),x.b9.aG,()))))))
def FN{α:Type}(p:tB)(go:tB->af α)(e1:af α):af α:=
 bif w9 (p.t42<p.t41)then if 0<=p.t42/\p.t42<zZ p.t40 then if 3=3/\zQ p.t42<zZ p.t40 then if 0<=p.t40[zQ p.t42]!/\p.t40[zQ p.t42]! <(zZ p.bt:Int)then if 3=3/\zQ p.t40[zQ p.t42]! <zZ p.bt then if(p.b9.aG++[p.bt[zQ p.t40[zQ p.t42]!]!]).length<=1073741824 then go (tB.mk p.t2 p.t8 p.t40 (gB p.t10 (ak (2*p.t40[zQ p.t42]!)) p.t42) p.t40 p.t41 (ak (p.t42+1)) p.bt p.eC p.jv p.jx p.jW (aq.mk p.b5.ah [] [] p.b5.aH) (aq.mk p.b9.ah (p.b9.aG++[p.bt[zQ p.t40[zQ p.t42]!]!]) [] p.b9.aH))else J else J else J else J else J else e1
def KN(p:tB):af (af tB):=
 FN p fW dy
def KT:=bX (KN)
abbrev aFm:=aq×Int×(aa Int)×(aa bu)×ga×cR×Bool
def d160:Td 5 aFm:= .c [] [6,7] (.r 5 6 (ec 6 (qp 5 0) (ec 7 aU en)) (sb 0 296 (lc (qo 1) Nf) (sr 1 3 (sr 2 113 (sm 3 .k1 .i (sm 4 .k3 .i (sb 5 80 (lg 80) sn)))))) (λz=>(z.q.t.1,z.1.2.1,z.t.1,z.t.2.1,z.q.1,z.q.2.1,z.2.1.q.1)) (λx=>(((),x.2.1,()),(((),(),(),(),x.q.t,()),x.t.1,x.t.2.1,x.q.1,x.q.2.1,x.1,()))))
def aKK:=w6_
def aDl:∀f∈([]:aa Nat),bH (aCr) f:=az
def LM(a1:Int)(a2:Int)(bt:aa Int)(eC:aa bu)(jv:ga)(jx:cR)(jW:Bool):af aFm:=
 bif jW then M ((aq.mk 0 [] [] (0),3,bt,eC,jv,jx,jW))else match agV a2 bt eC jv jx jW with|J=>J|M r1=>match (bif w9 (4096<(zZ r1.snd.fst:Int))then M Z else M (w9 (4096<(zZ r1.fst:Int))))with|J=>J|M r2=>bif r2 then M ((aq.mk 0 [] [] (0),4,r1.snd.snd))else match KT (tB.mk a2 r1.fst r1.snd.fst [] r1.snd.fst (zZ r1.snd.fst) 0 r1.snd.snd.fst r1.snd.snd.snd.fst r1.snd.snd.snd.snd.fst r1.snd.snd.snd.snd.snd.fst r1.snd.snd.snd.snd.snd.snd (aq.mk 0 [] [] (0)) (aq.mk a1 [] [] (0)))with|J=>J|M r3=>FN r3 (λ_=>J) (match Mp (tX.mk r3.t2 r3.t40 r3.t10 r3.t8 (zZ r3.t8) 0 r3.bt r3.eC r3.jv r3.jx r3.jW (aq.mk r3.b5.ah [] [] r3.b5.aH) (aq.mk r3.b9.ah r3.b9.aG [] r3.b9.aH))with|J=>J|M r4=>Fv r4 (λ_=>J) (M ((aq.mk r4.b8.ah r4.b8.aG r4.b8.aD ((ei r4.t10 r4.t2).getD 0),0,r4.bt,r4.eC,r4.jv,r4.jx,r4.jW))))
def aK7:aT->aT:=eY va 160 5 (lc (qp 0 0) uS) aKK d160 (λg=>LM g.1.2.1 g.1.t.1 g.t.1 g.t.2.1 g.q.1 g.q.2.1 g.2.1.q.1)
def rz:EO aK7:=λh=>kY (F:=aCr) (an:=(cA 3 (.two (.two (.rb [] 35) .no) (cA 2 (.two (noTwo (TX.lp KT .no)) (.two (noTwo (Q5.lp Mp .no)) .no)))))) (l:=[(.skip,(.rb [] 35)),(bz f160 0,(TX.lp KT .no)),(bz f160 1,(Q5.lp Mp .no))]) func160 (U1 aP) (aA aDl (aA (aO TX) (aA (aO Q5) az))) h
abbrev aqy:=aq×Int
def ayL:Td 0 aqy:= .c [] [4,5] (.r 0 1 (ec 4 (qp 0 0) (ec 5 aU en)) (sb 0 80 (lg 80) sn) (λz=>(z.2.1,z.1.2.1)) (λx=>(((),x.2,()),(x.1,()))))
def WR(a1_0:aq):af aqy:=
 match Vx a1_0.aH (0) (0) [] a1_0 fQ.fst fQ.snd.fst fQ.snd.snd.fst fQ.snd.snd.snd.fst fQ.snd.snd.snd.snd with|J=>J|M r1=>match LM a1_0.ah r1.fst r1.snd.snd.snd.fst r1.snd.snd.snd.snd.fst r1.snd.snd.snd.snd.snd.fst r1.snd.snd.snd.snd.snd.snd.fst r1.snd.snd.snd.snd.snd.snd.snd with|J=>J|M r2=>M ((r2.fst,r2.snd.fst))
def Io:aT->aT:=eZ va 189 (lc (qf 294 ln) Fc) ayL (λg=>WR g.2.1.1)
def qB:EO Io:=λh=>kZ (an:= .no) func189 (iS (p:=(λf=>zg f 156||zg f 160||zg f 263||zg f 294)) (Kb (gW (rz (nY aP))))) az h
def kN{F:aT}{f:Nat}(hne:zg f 189=O)(h:bH F f):bH (Io F) f:=pQ hne h
structure Ea where
 (t0 t1:List bu)
 (t12 t13:Int)
def aeZ:Td 0 Ea:= .c [] [0,1,12,13] (.r 0 0 (ec 0 (ql 113) (ec 1 (ql 113) (ec 12 aU (ec 13 aU en)))) sn (λz=>⟨z.1.1,z.1.2.1,z.1.t.1,z.1.t.2.1⟩) (λx=>((x.t0,x.t1,x.t12,x.t13,()),(()))))
def Oz{α:Type}(p:Ea)(go:Ea->af α)(e1 e2:af α):af α:=
 bif w9 (p.t13<p.t12)then if 0<=p.t13/\p.t13<zZ p.t0 then if 0<=p.t13/\p.t13<zZ p.t1 then bif bif bif w9 (p.t0[zQ p.t13]!.bq=p.t1[zQ p.t13]!.bq)then bif w9 (p.t0[zQ p.t13]!.aC=p.t1[zQ p.t13]!.aC)then bif w9 (p.t0[zQ p.t13]!.au=p.t1[zQ p.t13]!.au)then Z else O else O else O then O else Z then e1 else go (Ea.mk p.t0 p.t1 p.t12 (ak (p.t13+1)))else J else J else e2
def UJ(p:Ea):af (af Ea):=
 Oz p fW dy dy
def Wi:=bX (UJ)
abbrev E59:=Bool
def d59:Td 0 E59:=iu 4
def m59(a0:aa bu)(a1:aa bu):af E59:=
 bif bif w9 ((zZ a0:Int)=(zZ a1:Int))then O else Z then M O else match Wi (Ea.mk a0 a1 (zZ a0) 0)with|J=>J|M r1=>Oz r1 (λ_=>J) (M O) (M Z)
def e59:=eL va 59 O (lc (ql 113) (lc (ql 113) ln)) d59 (λg=>m59 g.1 g.2.1)
def Su:EO e59:=λh=>kL (an:=(cA 2 (.two (noTwo (aeZ.lp Wi .no)) .no))) (l:=[(bz f59 0,(aeZ.lp Wi .no))]) func59 aP (aA (aO aeZ) az) h
def nv:EP e59:=λh=>kP h
def aAb:aT:=(ajZ (Jo (Io (aaf (e59 (e32 dz))))))
structure sY where
 t5:List ((Int×Int×Int)×Bool)
 t39:List bu
 (t40 t41:Int)
 b0:aq
def Ra:Td 0 sY:= .c [] [1,5,39,40,41] (.r 0 2 (ec 1 (qp 0 0) (ec 5 (qo 1) (ec 39 (ql 113) (ec 40 aU (ec 41 aU en))))) (sb 0 80 (lg 80) (sm 1 .k3 .b sn)) (λz=>⟨z.t.1,z.1.t.1,z.1.t.2.1,z.1.q.1,z.2.1⟩) (λx=>(((),(),x.t39,x.t40,x.t41,()),(x.b0,x.t5,()))))
def DV{α:Type}(p:sY)(go:sY->af α)(e1 e2:af α):af α:=
 bif w9 (p.t41<p.t40)then if 0<=p.t41/\p.t41<zZ p.t39 then bif w9 (p.t39[zQ p.t41]!.aC<0)then e1 else bif w9 (ak (zZ p.b0.aG+p.t41)<=p.t39[zQ p.t41]!.aC)then e1 else bif w9 (p.t39[zQ p.t41]!.au<0)then e1 else bif w9 (ak (zZ p.b0.aG+p.t41)<=p.t39[zQ p.t41]!.au)then e1 else bif w9 (p.t39[zQ p.t41]!.aC=p.t39[zQ p.t41]!.au)then e1 else bif(ei p.t5 (p.t39[zQ p.t41]!.bq,p.t39[zQ p.t41]!.aC,p.t39[zQ p.t41]!.au)).getD O then e1 else bif w9 (p.t39[zQ p.t41]!.bq<0)then e1 else match jL p.b0 p.t39[zQ p.t41]!.aC with|J=>J|M r2=>bif w9 (r2<=p.t39[zQ p.t41]!.bq)then e1 else match jL p.b0 p.t39[zQ p.t41]!.au with|J=>J|M r3=>bif w9 (r3<=p.t39[zQ p.t41]!.bq)then e1 else go (sY.mk (gB p.t5 (p.t39[zQ p.t41]!.bq,p.t39[zQ p.t41]!.aC,p.t39[zQ p.t41]!.au) Z) p.t39 p.t40 (ak (p.t41+1)) p.b0)else J else e2
def J2(p:sY):af (af sY):=
 DV p fW dy dy
def KJ:=bX (J2)
structure tC where
 t12:List Int
 (t13 t14:Int)
 b0:aq
def QZ:Td 0 tC:= .c [] [1,12,13,14] (.r 0 1 (ec 1 (qp 0 0) (ec 12 (ql 3) (ec 13 aU (ec 14 aU en)))) (sb 0 80 (lg 80) sn) (λz=>⟨z.1.2.1,z.1.t.1,z.1.t.2.1,z.2.1⟩) (λx=>(((),x.t12,x.t13,x.t14,()),(x.b0,()))))
def FO{α:Type}(p:tC)(go:tC->af α)(e1 e2:af α):af α:=
 bif w9 (p.t14<p.t13)then if 0<=p.t14/\p.t14<zZ p.t12 then match (bif bif kH p.t12[zQ p.t14]! then O else Z then M Z else bif w9 (0<p.t14)then if 0<=ak (p.t14-1)/\ak (p.t14-1)<zZ p.b0.aG then M (w9 (p.t12[zQ p.t14]!<=p.b0.aG[(ak (p.t14-1)).toNat]!))else J else M O)with|J=>J|M r1=>bif r1 then e1 else go (tC.mk p.t12 p.t13 (ak (p.t14+1)) p.b0)else J else e2
def LA(p:tC):af (af tC):=
 FO p fW dy dy
def agt:An:=(cA 2 (.two (noTwo (.two (.rb [32,59,188] 35) .no)) .no))
def LB:=bX (LA)
abbrev azn:=Bool
def d267:Td 0 azn:=iu 2
def ad2:∀f∈([32,59,188]:aa Nat),bH (aAb) f:=(aA (BC (Bq (kN (f:=32) rfl (kC (nv (pU cU)))))) (aA (BC (Bq (kN (f:=59) rfl (kC (nv (pU cU)))))) (aA (BC (Bq (kN (f:=188) rfl (kC (nv (pU cU)))))) az)))
def ai8(a0:aq):af azn:=
 match LB (tC.mk a0.aG (zZ a0.aG) 0 a0)with|J=>J|M r4=>FO r4 (λ_=>J) (M O) (match KJ (sY.mk [] r4.b0.aD (zZ r4.b0.aD) 0 r4.b0)with|J=>J|M r6=>DV r6 (λ_=>J) (M O) (match (bif w9 (r6.b0.aH<0)then M Z else M (w9 (ak ((zZ r6.b0.aG:Int)+(zZ r6.b0.aD:Int))<=r6.b0.aH)))with|J=>J|M r9=>bif r9 then M O else match WR r6.b0 with|J=>J|M r10=>match (bif w9 (r10.snd=0)then match m32 r6.b0.aG r10.fst.aG with|J=>J|M r11=>bif r11 then match m59 r6.b0.aD r10.fst.aD with|J=>J|M r12=>bif r12 then M (w9 (r6.b0.aH=r10.fst.aH))else M O else M O else M O)with|J=>J|M r13=>M (r13)))
def aEL:=eL va 267 O (lc (qg 80) ln) d267 (λg=>ai8 g.1)
def al4:EO aEL:=λh=>kL (F:=aAb) (an:=(noTwo (.two (noTwo (QZ.lp LB agt)) (noTwo (.two (noTwo (Ra.lp KJ .no)) (.two (.two (.rb [32,59,188] 121) .no) (noTwo (.two (.rb [32,59,188] 2) .no)))))))) (l:=[(bz f267 0,(QZ.lp LB agt)),(.skip,(.rb [32,59,188] 35)),(bz f267 1,(Ra.lp KJ .no)),(.skip,(.rb [32,59,188] 121)),(.skip,(.rb [32,59,188] 2))]) func267 (Kb (lP (qB (vZ (Su (aat aP)))))) (aA (aO QZ) (aA ad2 (aA (aO Ra) (aA ad2 (aA ad2 az))))) h
def aDv:aT:=(aEL dz)
abbrev aAl:=Int
def d210:Td 0 aAl:=dW 2
def apP:∀f∈([]:aa Nat),bH (aDv) f:=az
def afi(a0:aq):af aAl:=
 match bif w9 (a0.ah<0)then M Z else M (w9 (40<a0.ah))with|J=>J|M r1=>bif r1 then M 3 else match bif w9 (4096<(zZ a0.aG:Int))then M Z else M (w9 (4096<(zZ a0.aD:Int)))with|J=>J|M r2=>bif r2 then M 4 else match ai8 a0 with|J=>J|M r3=>bif bif r3 then O else Z then M 1 else M 0
def aKW:=eL va 210 O (lc (qg 80) ln) d210 (λg=>afi g.1)
def ajQ:EO aKW:=λh=>kL (F:=aDv) (an:=(noTwo (.two (.two (.rb [] 10) .no) (.two (.two (.rb [] 20) .no) .no)))) (l:=[(.skip,(.rb [] 10)),(.skip,(.rb [] 20))]) func210 (al4 aP) (aA apP (aA apP az)) h
structure tG where
 (t0 t17:List aq)
 (t18 t19:Int)
def RR:Td 0 tG:= .c [] [0,17,18,19] (.r 0 0 (ec 0 (ql 80) (ec 17 (ql 80) (ec 18 aU (ec 19 aU en)))) sn (λz=>⟨z.1.1,z.1.2.1,z.1.t.1,z.1.t.2.1⟩) (λx=>((x.t0,x.t17,x.t18,x.t19,()),(()))))
def GF{α:Type}(p:tG)(go:tG->af α)(e1 e2:af α):af α:=
 bif w9 (p.t19<p.t18)then if 0<=p.t19/\p.t19<zZ p.t17 then if(0:Int)<=(0:Int)/\(0:Int)<zZ p.t0 then bif bif w9 (p.t17[zQ p.t19]!.ah=p.t0[0]!.ah)then O else Z then e1 else go (tG.mk p.t0 p.t17 p.t18 (ak (p.t19+1)))else J else J else e2
def LV(p:tG):af (af tG):=
 GF p fW dy dy
def LQ:=bX (LV)
structure tM where
 (t0 t7:List aq)
 (t8 t9:Int)
def R5:Td 0 tM:= .c [] [0,7,8,9] (.r 0 0 (ec 0 (ql 80) (ec 7 (ql 80) (ec 8 aU (ec 9 aU en)))) sn (λz=>⟨z.1.1,z.1.2.1,z.1.t.1,z.1.t.2.1⟩) (λx=>((x.t0,x.t7,x.t8,x.t9,()),(()))))
def Fj{α:Type}(p:tM)(go:tM->af α)(e1 e2:af α):af α:=
 bif w9 (p.t9<p.t8)then if 0<=p.t9/\p.t9<zZ p.t7 then match afi p.t7[zQ p.t9]! with|J=>J|M r1=>bif bif w9 (r1=0)then O else Z then e1 else go (tM.mk p.t0 p.t7 p.t8 (ak (p.t9+1)))else J else e2
def JC(p:tM):af (af tM):=
 Fj p fW dy dy
def Lb:=bX (JC)
abbrev aCq:=Int
def d149:Td 0 aCq:=dW 2
def Ta(a0:aa aq):af aCq:=
 match Lb (tM.mk a0 a0 (zZ a0) 0)with|J=>J|M r2=>Fj r2 (λ_=>J) (M 1) (match LQ (tG.mk r2.t0 r2.t0 (zZ r2.t0) 0)with|J=>J|M r4=>GF r4 (λ_=>J) (M 2) (M 0))
def anl:=eL va 149 O (lc (ql 80) ln) d149 (λg=>Ta g.1)
def CT:EO anl:=λh=>kL (an:=(noTwo (.two (noTwo (R5.lp Lb .no)) (.two (noTwo (RR.lp LQ .no)) .no)))) (l:=[(bz f149 0,(R5.lp Lb .no)),(bz f149 1,(RR.lp LQ .no))]) func149 (ajQ aP) (aA (aO R5) (aA (aO RR) az)) h
def ZJ:EP anl:=λh=>kP h
abbrev acd:=Int×cR×aq×aq×(aa Int)×(aa bu)×ga×cR×Bool×Nat
def arw:Td 12 acd:= .c [8,9] [7] (.r 12 14 (ec 7 aU en) (sb 0 327 (lc (qo 5) ln) (sb 1 136 (lc (qk 80 2) ln) (sb 2 239 uT (sb 3 226 (lc (qf 238 Ec) ln) (sb 4 226 MM (sm 5 .k3 .i (sb 6 296 (lc (qo 12) (lc (qo 13) ajz)) (sb 7 175 (lg 175) aEu)))))))) (λz=>(z.1.1,z.q.t.1,z.t.1.1.1,z.t.1.1.2.1,z.q.q.t.2.1,z.q.q.q.1,z.q.q.2.1,z.q.q.t.1,z.q.t.2.1.q.1,z.q.q.1)) (λx=>((x.1,()),(((),()),((x.t.1,x.t.2.1,()),()),((),()),(((),()),()),(((),(),(),(),(),()),()),x.2.1,((),(),(),(),x.q.q.1,()),x.q.q.2,x.q.t.1,x.q.t.2.1,x.q.1,x.q.2.1,()))))
def aoq:=ZX
def aqM:=(sb 0 327 (lc (qo 5) ln) (sb 1 136 (lc (qk 80 2) ln) (sb 2 239 uT (sb 3 226 (lc (qf 238 Ec) ln) (sb 4 226 MM (sm 5 .k3 .i (sb 6 296 (lc (qo 8) (lc (qo 9) ajz)) (sb 7 175 (lg 175) aFO))))))))
abbrev rY:Type:=Int->Int->Int->cR->aq->aq->(aa Int)->(aa bu)->ga->cR->Bool->Nat->af acd
def aht(zf:rY):aT->aT:=eY va 263 12 aoq aqM arw (λg=>zf g.1.1.1 g.1.1.2.1 g.1.1.2.2.1 g.2.2.2.2.2.2.1 g.2.2.1.1.1 g.2.2.1.1.2.1 g.2.2.2.2.2.2.2.2.2.1 g.2.2.2.2.2.2.2.2.2.2.1 g.2.2.2.2.2.2.2.2.2.2.2.1 g.2.2.2.2.2.2.2.2.2.2.2.2.1 g.2.2.2.2.2.2.2.1.2.2.2.2.1 g.2.2.2.2.2.2.2.2.1)
def Yg(zf:rY):Prop:=HY va 263 12 aoq aqM arw (λg=>zf g.1.1.1 g.1.1.2.1 g.1.1.2.2.1 g.2.2.2.2.2.2.1 g.2.2.1.1.1 g.2.2.1.1.2.1 g.2.2.2.2.2.2.2.2.2.1 g.2.2.2.2.2.2.2.2.2.2.1 g.2.2.2.2.2.2.2.2.2.2.2.1 g.2.2.2.2.2.2.2.2.2.2.2.2.1 g.2.2.2.2.2.2.2.1.2.2.2.2.1 g.2.2.2.2.2.2.2.2.1)
def N8{zf:rY}(hM:Yg zf):EO (aht zf):=gi hM ⟨_,func263,aL,aL⟩ (λ_=>aL)
def aoC(M263P:rY):aT:=(aht M263P (HO (aw2 (Sl (Jo (Th (SM dz)))))))
def ahQ{M263P}(h263P:Yg M263P):bK va (aoC M263P):=(N8 h263P (gW (Ks (rH (lP (oB (lU aP)))))))
def av2(M263P:rY):An:= .no
def arV(M263P:rY):dB va (aoC M263P) 12 300 263 (av2 M263P):=bF (l:=[]) func263 (aY aL) aL az
def Gs(M263P:rY)(a0_0:Int)(a0_1:Int)(a0_2:Int)(bt:cR)(b1_0_0:aq)(b1_0_1:aq)(b6_0:aa Int)(b6_1:aa bu)(b6_2:ga)(b6_3:cR)(b6_4:Bool)(b7:Nat):af acd:=
 bif(ei bt (a0_0,a0_1,a0_2)).isSome then M (((ei bt (a0_0,a0_1,a0_2)).getD 0,bt,b1_0_0,b1_0_1,b6_0,b6_1,b6_2,b6_3,b6_4,b7))else match jL b1_0_0 a0_0 with|J=>J|M r1=>match jL b1_0_1 a0_1 with|J=>J|M r2=>bif w9 ((eW r2 (eW r1 b1_0_0.ah))=b1_0_0.ah)then if 0<=a0_0/\a0_0<zZ b1_0_0.aG then if 0<=a0_1/\a0_1<zZ b1_0_1.aG then match ac9 b1_0_0.aG[a0_0.toNat]! b1_0_1.aG[a0_1.toNat]! (0) b7 with|J=>J|M r3=>match vp r3.fst b6_0 b6_1 b6_2 b6_3 b6_4 with|J=>J|M r4=>M ((r4.fst,gB bt (a0_0,a0_1,a0_2) r4.fst,b1_0_0,b1_0_1,r4.snd.fst,r4.snd.snd.fst,r4.snd.snd.snd.fst,r4.snd.snd.snd.snd.fst,r4.snd.snd.snd.snd.snd,r3.snd))else J else J else match lJ b1_0_0 a0_0 (eW r2 (eW r1 b1_0_0.ah)) O with|J=>J|M r5=>match lJ b1_0_0 a0_0 (eW r2 (eW r1 b1_0_0.ah)) Z with|J=>J|M r6=>match lJ b1_0_1 a0_1 (eW r2 (eW r1 b1_0_0.ah)) O with|J=>J|M r7=>match lJ b1_0_1 a0_1 (eW r2 (eW r1 b1_0_0.ah)) Z with|J=>J|M r8=>match M263P r5 r7 0 bt b1_0_0 b1_0_1 b6_0 b6_1 b6_2 b6_3 b6_4 b7 with|J=>J|M r9=>match M263P r6 r8 0 r9.snd.fst r9.snd.snd.fst r9.snd.snd.snd.fst r9.snd.snd.snd.snd.fst r9.snd.snd.snd.snd.snd.fst r9.snd.snd.snd.snd.snd.snd.fst r9.snd.snd.snd.snd.snd.snd.snd.fst r9.snd.snd.snd.snd.snd.snd.snd.snd.fst r9.snd.snd.snd.snd.snd.snd.snd.snd.snd with|J=>J|M r10=>match He (eW r2 (eW r1 b1_0_0.ah)) r9.fst r10.fst r10.snd.snd.snd.snd.fst r10.snd.snd.snd.snd.snd.fst r10.snd.snd.snd.snd.snd.snd.fst r10.snd.snd.snd.snd.snd.snd.snd.fst r10.snd.snd.snd.snd.snd.snd.snd.snd.fst with|J=>J|M r11=>M ((r11.fst,gB r10.snd.fst (a0_0,a0_1,a0_2) r11.fst,r10.snd.snd.fst,r10.snd.snd.snd.fst,r11.snd.fst,r11.snd.snd.fst,r11.snd.snd.snd.fst,r11.snd.snd.snd.snd.fst,r11.snd.snd.snd.snd.snd,r10.snd.snd.snd.snd.snd.snd.snd.snd.snd))
def s9:Nat->rY
 |0=>(λ_ _ _ _ _ _ _ _ _ _ _ _=>J)
 |n+1=>(Gs (s9 n))
def abV(n:Nat):rY:=(s9 n)
def Ic:∀n,Yg (abV n)
 |0=>λ_ _ h=>(by cases h)
 |n+1=>gZ (ahQ (Ic n)) (arV (abV n)) (λ_=>aL) (λ_=>aL) (λ_=>aL) λ_=>aL
def WQ:rY:=λa0_0 a0_1 a0_2 bt b1_0_0 b1_0_1 b6_0 b6_1 b6_2 b6_3 b6_4 b7=>lim (λn=>abV n a0_0 a0_1 a0_2 bt b1_0_0 b1_0_1 b6_0 b6_1 b6_2 b6_3 b6_4 b7)
def ac5:Yg WQ:=λg b h=>(bW h).elim λn=>Ic n g b
def aDW(F:aT):aT:=aht WQ F
def aau:EO aDW:=N8 ac5
abbrev aoA:=aq×Int×Nat
def aBH:Td 1 aoA:= .c [] [4,5] (.r 1 2 (ec 4 (qp 1 0) (ec 5 aU en)) (sb 0 175 (lg 175) (sb 1 80 (lg 80) sn)) (λz=>(z.t.1,z.1.2.1,z.2.1)) (λx=>(((),x.2.1,()),(x.t,x.1,()))))
def aBG:=(lc (qf 238 AN) (lc (qk 80 2) ln))
def aBr:=(sb 0 175 (lg 175) sn)
def Vy(a1_0:aq)(a1_1:aq)(b0:Nat):af aoA:=
 match WQ a1_0.aH a1_1.aH (0) [] a1_0 a1_1 fQ.fst fQ.snd.fst fQ.snd.snd.fst fQ.snd.snd.snd.fst fQ.snd.snd.snd.snd b0 with|J=>J|M r1=>match LM a1_0.ah r1.fst r1.snd.snd.snd.snd.fst r1.snd.snd.snd.snd.snd.fst r1.snd.snd.snd.snd.snd.snd.fst r1.snd.snd.snd.snd.snd.snd.snd.fst r1.snd.snd.snd.snd.snd.snd.snd.snd.fst with|J=>J|M r2=>M ((r2.fst,r2.snd.fst,r1.snd.snd.snd.snd.snd.snd.snd.snd.snd))
def apD:aT->aT:=eY va 189 1 aBG aBr aBH (λg=>Vy g.1.2.1.1 g.1.2.1.2.1 g.2.1)
def acM:EO apD:=λh=>kY (an:= .no) func189 (iS (p:=(λf=>zg f 156||zg f 160||zg f 238||zg f 263)) (aau (gW (Ks (rz (nY aP)))))) az h
def az0:aT:=(aw2 (aEF (apD (Io (anl dz)))))
abbrev aF0:=aq×Int
def d178:Td 0 aF0:= .c [] [6,7] (.r 0 1 (ec 6 (qp 0 0) (ec 7 aU en)) (sb 0 80 (lg 80) sn) (λz=>(z.2.1,z.1.2.1)) (λx=>(((),x.2,()),(x.1,()))))
def aCK:∀f∈([]:aa Nat),bH (az0) f:=az
def Ru(a0:Int)(a1:aq)(a2:aq):af aF0:=
 match Ta [a1,a2]with|J=>J|M r1=>bif bif w9 (r1=0)then O else Z then M ((aq.mk 0 [] [] (0),r1))else match bif w9 (a0<0)then M Z else M (w9 (9<=a0))with|J=>J|M r2=>bif r2 then M ((aq.mk 0 [] [] (0),3))else if 0<=a0/\a0<(↑(zZ Mm):Int)then if 175=175/\a0.toNat<zZ Mm then match Vy a1 a2 Mm[a0.toNat]! with|J=>J|M r3=>M (r3.fst,r3.snd.fst)else J else J
def aKF:aT->aT:=eZ va 178 (dX Lg) d178 (λg=>Ru g.1 g.2.1 g.t.1)
def UF:EO aKF:=λh=>kZ (F:=az0) (an:=(cA 2 (.two (.two (.rb [] 23) .no) .no))) (l:=[(.skip,(.rb [] 23))]) func178 (Ks (alr (acM (qB (CT aP))))) (aA aCK az) h
abbrev anp:=aq×aK
def d115:Td 1 anp:= .c [] [8] (.r 1 2 (ec 8 (qp 1 0) en) (sb 0 138 (lg 138) (sb 1 80 (lg 80) sn)) (λz=>(z.t.1,z.2.1)) (λx=>(((),()),(x.2,x.1,()))))
def aHV:=(sb 0 138 (lg 138) sn)
def ij(a1:Int)(a2:aq)(a3:aq)(b0:aK):af anp:=
 match Ru a1 a2 a3 with|J=>J|M r1=>M ((r1.fst,b0))
def aeF:aT->aT:=eY va 115 1 amM aHV d115 (λg=>ij g.1.2.1 g.1.t.1 g.1.t.2.1 g.2.1)
def jG:EO aeF:=λh=>kY (an:= .no) func115 (UF aP) az h
abbrev asN:=Int×ga×(aa bu)×cz
def d245:Td 6 asN:= .c [5] [6] (.r 6 7 (ec 6 aU en) (sb 0 293 (lc (qo 4) ln) (sb 1 40 (lc (ql 113) ln) (sb 2 241 (lc (qf 245 aaH) ln) (sb 3 42 (dX (lc (qo 6) gY)) (sm 4 .k1 .i (sr 6 113 sn)))))) (λz=>(z.1.1,z.q.2.1,z.t.1.1,(cz.mk z.q.1.1 z.q.t.1 z.q.1.t.1))) (λx=>((x.1,()),(((),()),(x.t.1,()),(((),(),(),(),()),()),(x.t.2.ah,(),x.t.2.aH,()),x.2.1,x.t.2.aD,()))))
def aFr:=(dX aaH)
def aAx:=aGt
abbrev Hv:Type:=Int->ga->(aa bu)->Int->(aa bu)->Int->af asN
def avS(zf:Hv):aT->aT:=eY va 245 6 aFr aAx d245 (λg=>zf g.1.1 g.2.2.2.2.2.1 g.2.2.1.1 g.2.2.2.2.1.1 g.2.2.2.2.2.2.1 g.2.2.2.2.1.2.2.1)
def akW(zf:Hv):Prop:=HY va 245 6 aFr aAx d245 (λg=>zf g.1.1 g.2.2.2.2.2.1 g.2.2.1.1 g.2.2.2.2.1.1 g.2.2.2.2.2.2.1 g.2.2.2.2.1.2.2.1)
def UU{zf:Hv}(hM:akW zf):EO (avS zf):=gi hM ⟨_,func245,aL,aL⟩ (λ_=>aL)
def aFj(M245:Hv):aT:=(avS M245 dz)
def alJ{M245}(h245:akW M245):bK va (aFj M245):=(UU h245 aP)
def aDH(M245:Hv):An:= .no
def azt(M245:Hv):dB va (aFj M245) 6 300 245 (aDH M245):=bF (l:=[]) func245 (aY aL) aL az
def adA(M245:Hv)(a0:Int)(bt:ga)(b1_0:aa bu)(b3_0:Int)(b3_1:aa bu)(b3_2:Int):af asN:=
 bif(ei bt a0).isSome then M (((ei bt a0).getD 0,bt,b1_0,cz.mk b3_0 b3_1 b3_2))else if 0<=ak (a0-2)/\ak (a0-2)<zZ b1_0 then match M245 b1_0[(ak (a0-2)).toNat]!.aC bt b1_0 b3_0 b3_1 b3_2 with|J=>J|M r1=>match M245 b1_0[(ak (a0-2)).toNat]!.au r1.snd.fst r1.snd.snd.fst r1.snd.snd.snd.ah r1.snd.snd.snd.aD r1.snd.snd.snd.aH with|J=>J|M r2=>if(r2.snd.snd.snd.aD++[bu.mk b1_0[(ak (a0-2)).toNat]!.bq r1.fst r2.fst]).length<=1073741824 then M (((ei (gB r2.snd.fst a0 (ak (ak (2+(↑(r2.snd.snd.snd.aD++[bu.mk b1_0[(ak (a0-2)).toNat]!.bq r1.fst r2.fst]).length:Int))-1))) a0).getD 0,gB r2.snd.fst a0 (ak (ak (2+(↑(r2.snd.snd.snd.aD++[bu.mk b1_0[(ak (a0-2)).toNat]!.bq r1.fst r2.fst]).length:Int))-1)),r2.snd.snd.fst,cz.mk r2.snd.snd.snd.ah (r2.snd.snd.snd.aD++[bu.mk b1_0[(ak (a0-2)).toNat]!.bq r1.fst r2.fst]) r2.snd.snd.snd.aH))else J else J
def IE:Nat->Hv
 |0=>(λ_ _ _ _ _ _=>J)
 |n+1=>(adA (IE n))
def axu(n:Nat):Hv:=(IE n)
def O9:∀n,akW (axu n)
 |0=>λ_ _ h=>(by cases h)
 |n+1=>gZ (alJ (O9 n)) (azt (axu n)) (λ_=>aL) (λ_=>aL) (λ_=>aL) λ_=>aL
def afQ:Hv:=λa0 bt b1_0 b3_0 b3_1 b3_2=>lim (λn=>axu n a0 bt b1_0 b3_0 b3_1 b3_2)
def ai2:akW afQ:=λg b h=>(bW h).elim λn=>O9 n g b
def aBp(F:aT):aT:=avS afQ F
def X9:EO aBp:=UU ai2
abbrev aaO:=Int×ga×(aa bu)×cz
def apT:Td 5 aaO:= .c [] [6] (.t (bT.c 3 1 [] 113) (.c [] [6] (.r 5 6 (ec 6 aU en) aGt (λz=>(z.1.1,z.q.2.1,z.t.1.1,(cz.mk z.q.1.1 z.q.t.1 z.q.1.t.1))) (λx=>((x.1,()),(((),()),(x.t.1,()),(((),(),(),(),()),()),(x.t.2.ah,(),x.t.2.aH,()),x.2.1,x.t.2.aD,()))))))
def aqD:=(dX aaH)
def apU:=(sb 0 293 (lc (qo 4) ln) (sb 1 40 (lc (ql 113) ln) (sb 2 241 (lc (qf 245 aaH) ln) (sb 3 42 an0 (sm 4 .k1 .i sn)))))
abbrev se:Type:=Int->ga->(aa bu)->Int->Int->af aaO
def afb(zf:se):aT->aT:=eY va 245 5 aqD apU apT (λg=>zf g.1.1 g.2.2.2.2.2.1 g.2.2.1.1 g.2.2.2.2.1.1 g.2.2.2.2.1.2.2.1)
def Xw(zf:se):Prop:=HY va 245 5 aqD apU apT (λg=>zf g.1.1 g.2.2.2.2.2.1 g.2.2.1.1 g.2.2.2.2.1.1 g.2.2.2.2.1.2.2.1)
def OU{zf:se}(hM:Xw zf):EO (afb zf):=gi hM ⟨_,func245,aL,aL⟩ (λ_=>aL)
def aqU(M245n:se):aT:=(afb M245n (aBp dz))
def ac4{M245n}(h245n:Xw M245n):bK va (aqU M245n):=(OU h245n (X9 aP))
def atz(M245n:se):An:= .no
def asA(M245n:se):dB va (aqU M245n) 5 300 245 (atz M245n):=bF (l:=[]) func245 (aY aL) aL az
def PJ(M245n:se)(a0:Int)(bt:ga)(b1_0:aa bu)(b3_0:Int)(b3_2:Int):af aaO:=
 bif(ei bt a0).isSome then M (((ei bt a0).getD 0,bt,b1_0,cz.mk b3_0 [] b3_2))else if 0<=ak (a0-2)/\ak (a0-2)<zZ b1_0 then match M245n b1_0[(ak (a0-2)).toNat]!.aC bt b1_0 b3_0 b3_2 with|J=>J|M r1=>match afQ b1_0[(ak (a0-2)).toNat]!.au r1.snd.fst r1.snd.snd.fst r1.snd.snd.snd.ah r1.snd.snd.snd.aD r1.snd.snd.snd.aH with|J=>J|M r2=>if(r2.snd.snd.snd.aD++[bu.mk b1_0[(ak (a0-2)).toNat]!.bq r1.fst r2.fst]).length<=1073741824 then M (((ei (gB r2.snd.fst a0 (ak (ak (2+(↑(r2.snd.snd.snd.aD++[bu.mk b1_0[(ak (a0-2)).toNat]!.bq r1.fst r2.fst]).length:Int))-1))) a0).getD 0,gB r2.snd.fst a0 (ak (ak (2+(↑(r2.snd.snd.snd.aD++[bu.mk b1_0[(ak (a0-2)).toNat]!.bq r1.fst r2.fst]).length:Int))-1)),r2.snd.snd.fst,cz.mk r2.snd.snd.snd.ah (r2.snd.snd.snd.aD++[bu.mk b1_0[(ak (a0-2)).toNat]!.bq r1.fst r2.fst]) r2.snd.snd.snd.aH))else J else J
def BW:Nat->se
 |0=>(λ_ _ _ _ _=>J)
 |n+1=>(PJ (BW n))
def ahn(n:Nat):se:=(BW n)
def HN:∀n,Xw (ahn n)
 |0=>λ_ _ h=>(by cases h)
 |n+1=>gZ (ac4 (HN n)) (asA (ahn n)) (λ_=>aL) (λ_=>aL) (λ_=>aL) λ_=>aL
def Ve:se:=λa0 bt b1_0 b3_0 b3_2=>lim (λn=>ahn n a0 bt b1_0 b3_0 b3_2)
def acn:Xw Ve:=λg b h=>(bW h).elim λn=>HN n g b
def aDf(F:aT):aT:=afb Ve F
def acQ:EO aDf:=OU acn
abbrev aEo:=cz
def d186:Td 0 aEo:= .c [] [6] (.r 0 1 (ec 6 (qp 0 0) en) (sb 0 42 (lg 42) sn) (λz=>z.2.1) (λx=>(((),()),(x,()))))
def Sf(a0:Int)(a1:aa bu)(a2:Int):af aEo:=
 match Ve a2 [(0,0),(1,1)] a1 a0 (0)with|J=>J|M r1=>M (cz.mk r1.snd.snd.snd.ah r1.snd.snd.snd.aD r1.fst)
def av7:aT->aT:=eZ va 186 (dX (lc (ql 113) gY)) d186 (λg=>Sf g.1 g.2.1 g.t.1)
def LI:EO av7:=λh=>kZ (an:= .no) func186 (acQ (X9 aP)) az h
def YA{F:aT}{f:Nat}(hne:zg f 186=O)(h:bH F f):bH (av7 F) f:=pQ hne h
abbrev aGu:=Int
def d214:Td 0 aGu:=dW 4
def nI(a0:cz)(a1:Int):af aGu:=
 bif w9 (a1<2)then M (a0.ah)else if 0<=ak (a1-2)/\ak (a1-2)<zZ a0.aD then M (a0.aD[(ak (a1-2)).toNat]!.bq)else J
def ZA:=eL va 214 O (lc (qg 42) gY) d214 (λg=>nI g.1 g.2.1)
def rq:EO ZA:=λh=>kL (an:= .no) func214 aP az h
def aEZ:aT:=(ZA dz)
structure tN where
 t3:List ((Int×Int×Int)×Bool)
 t13:List bu
 (t14 t15:Int)
 b0:cz
def T9:Td 0 tN:= .c [] [1,3,13,14,15] (.r 0 2 (ec 1 (qp 0 0) (ec 3 (qo 1) (ec 13 (ql 113) (ec 14 aU (ec 15 aU en))))) (sb 0 42 (lg 42) (sm 1 .k3 .b sn)) (λz=>⟨z.t.1,z.1.t.1,z.1.t.2.1,z.1.q.1,z.2.1⟩) (λx=>(((),(),x.t13,x.t14,x.t15,()),(x.b0,x.t3,()))))
def EC{α:Type}(p:tN)(go:tN->af α)(e1 e2:af α):af α:=
 bif w9 (p.t15<p.t14)then if 0<=p.t15/\p.t15<zZ p.t13 then bif w9 (p.t13[zQ p.t15]!.bq<0)then e1 else bif w9 (p.b0.ah<=p.t13[zQ p.t15]!.bq)then e1 else bif w9 (p.t13[zQ p.t15]!.aC=p.t13[zQ p.t15]!.au)then e1 else bif(ei p.t3 (p.t13[zQ p.t15]!.bq,p.t13[zQ p.t15]!.aC,p.t13[zQ p.t15]!.au)).getD O then e1 else bif w9 (p.t13[zQ p.t15]!.aC<0)then e1 else bif w9 (ak (1+p.t15)<p.t13[zQ p.t15]!.aC)then e1 else match nI p.b0 p.t13[zQ p.t15]!.aC with|J=>J|M r1=>bif w9 (r1<=p.t13[zQ p.t15]!.bq)then e1 else bif w9 (p.t13[zQ p.t15]!.au<0)then e1 else bif w9 (ak (1+p.t15)<p.t13[zQ p.t15]!.au)then e1 else match nI p.b0 p.t13[zQ p.t15]!.au with|J=>J|M r2=>bif w9 (r2<=p.t13[zQ p.t15]!.bq)then e1 else go (tN.mk (gB p.t3 (p.t13[zQ p.t15]!.bq,p.t13[zQ p.t15]!.aC,p.t13[zQ p.t15]!.au) Z) p.t13 p.t14 (ak (p.t15+1)) p.b0)else J else e2
def Lx(p:tN):af (af tN):=
 EC p fW dy dy
def Km:=bX (Lx)
abbrev azv:=Bool
def d213:Td 0 azv:=iu 2
def ayI:∀f∈([]:aa Nat),bH (aEZ) f:=az
def ajM(a0:cz):af azv:=
 match Km (tN.mk [] a0.aD (zZ a0.aD) 0 a0)with|J=>J|M r3=>EC r3 (λ_=>J) (M O) (match (bif w9 (0<=r3.b0.aH)then M (w9 (r3.b0.aH<=ak (1+(zZ r3.b0.aD:Int))))else M O)with|J=>J|M r6=>M (r6))
def at6:=eL va 213 O (lc (qg 42) ln) d213 (λg=>ajM g.1)
def aoe:EO at6:=λh=>kL (F:=aEZ) (an:=(cA 2 (.two (noTwo (T9.lp Km .no)) (.two (.rb [] 2) .no)))) (l:=[(bz f213 0,(T9.lp Km .no)),(.skip,(.rb [] 2))]) func213 (rq aP) (aA (aO T9) (aA ayI az)) h
def YL:EP at6:=λh=>kP h
def aD0:aT:=(at6 (av7 (e59 dz)))
abbrev aD3:=Int
def d151:Td 0 aD3:=dW 2
def aoJ:∀f∈([59]:aa Nat),bH (aD0) f:=(aA (YL (YA (f:=59) rfl (nv cU))) az)
def SQ(a0:cz):af aD3:=
 match bif w9 (a0.ah<0)then M Z else M (w9 (40<a0.ah))with|J=>J|M r1=>bif r1 then M 3 else bif w9 (4096<(zZ a0.aD:Int))then M 4 else match ajM a0 with|J=>J|M r2=>bif bif r2 then O else Z then M 1 else match Sf a0.ah a0.aD a0.aH with|J=>J|M r3=>match bif bif w9 (r3.aH=a0.aH)then O else Z then M Z else match m59 r3.aD a0.aD with|J=>J|M r4=>M (bif r4 then O else Z)with|J=>J|M r5=>bif r5 then M 1 else M 0
def at1:=eL va 151 O (lc (qg 42) ln) d151 (λg=>SQ g.1)
def KV:EO at1:=λh=>kL (F:=aD0) (an:=(noTwo (.two (.two (.rb [59] 11) .no) (cA 3 (.two (.two (.rb [59] 38) .no) .no))))) (l:=[(.skip,(.rb [59] 11)),(.skip,(.rb [59] 38))]) func151 (aoe (LI (Su aP))) (aA aoJ (aA aoJ az)) h
def ZZ:EP at1:=λh=>kP h
def aJg:aT:=dz
abbrev axG:=Int×Int×Int
def d202:Td 2 axG:= .c [] [4] (.r 2 2 (ec 4 aU en) Yy (λz=>(z.1.1,z.2.1.1,z.t.1.1)) (λx=>((x.1,()),((x.2.1,()),(x.t,()),()))))
def aFW:=(lc (qa OX) ah9)
def aA6:=Yy
def apu:An:= .no
def SC(a0_0:Int)(a0_1:Int)(a0_2:Int)(bt:Int)(b1_0:Int):axG:=
 bif w9 (a0_0=1)then(bt,bt,b1_0)else(b1_0,bt,b1_0)
def aLp(a0_0:Int)(a0_1:Int)(a0_2:Int)(bt:Int)(b1_0:Int):bY va (aJg) 300 (apu) 202 (aFW.c ((a0_0,a0_1,a0_2,()),(),(),())) (aA6.d ((bt,()),(b1_0,()),())) 2 d202.rd=M (SC a0_0 a0_1 a0_2 bt b1_0):=by
 refine Eq.trans (b:=(
  bif w9 (a0_0=1)then M ((bt,bt,b1_0))else M ((b1_0,bt,b1_0)):af axG)) aL ?_
 simp only[SC,b6,cw]
def aBs:aT->aT:=eY va 202 2 aFW aA6 d202 (λg=>M (SC g.1.1.1 g.1.1.2.1 g.1.1.t.1 g.2.1.1 g.t.1.1))
def Yj:EO aBs:=λh=>kY (an:=apu) func202 aP az h (c:=λg=>aLp g.1.1.1 g.1.1.2.1 g.1.1.t.1 g.2.1.1 g.t.1.1)
abbrev ace:=Int×cR×aq×(aa Int)×(aa bu)×ga×cR×Bool×Int×Int
def aon:Td 13 ace:= .c [9,10] [7] (.r 13 15 (ec 7 aU en) (sb 0 327 (lc (qo 5) ln) (sb 1 136 Fc (sb 2 239 uT (sb 3 226 (lc (qf 202 (lc (qp 7 0) OA)) ln) aD6)))) (λz=>(z.1.1,z.q.t.1,z.t.1.1.1,z.q.q.q.1,z.q.q.q.2.1,z.q.q.t.1,z.q.q.t.2.1,z.q.t.2.1.q.1,z.q.q.1.1,z.q.q.2.1.1)) (λx=>((x.1,()),(((),()),((x.t.1,()),()),((),()),(((),(),()),()),(((),(),(),(),(),()),()),x.2.1,((),(),(),(),x.q.t.2.1,()),(x.q.q.1,()),(x.q.q.2,()),x.q.2.1,x.q.t.1,x.t.2.1,x.q.1,()))))
def ap7:=ZX
def aoP:=(sb 0 327 (lc (qo 5) ln) (sb 1 136 Fc (sb 2 239 uT (sb 3 226 (lc (qf 202 (lc (qp 7 0) OA)) ln) azE))))
abbrev rX:Type:=Int->Int->Int->cR->aq->(aa Int)->(aa bu)->ga->cR->Bool->Int->Int->af ace
def ab7(zf:rX):aT->aT:=eY va 263 13 ap7 aoP aon (λg=>zf g.1.1.1 g.1.1.2.1 g.1.1.2.2.1 g.2.2.2.2.2.2.1 g.2.2.1.1.1 g.2.2.2.2.2.2.2.2.2.2.1 g.2.2.2.2.2.2.2.2.2.2.2.1 g.2.2.2.2.2.2.2.2.2.2.2.2.1 g.2.2.2.2.2.2.2.2.2.2.2.2.2.1 g.2.2.2.2.2.2.2.1.2.2.2.2.1 g.2.2.2.2.2.2.2.2.1.1 g.2.2.2.2.2.2.2.2.2.1.1)
def Xj(zf:rX):Prop:=HY va 263 13 ap7 aoP aon (λg=>zf g.1.1.1 g.1.1.2.1 g.1.1.2.2.1 g.2.2.2.2.2.2.1 g.2.2.1.1.1 g.2.2.2.2.2.2.2.2.2.2.1 g.2.2.2.2.2.2.2.2.2.2.2.1 g.2.2.2.2.2.2.2.2.2.2.2.2.1 g.2.2.2.2.2.2.2.2.2.2.2.2.2.1 g.2.2.2.2.2.2.2.1.2.2.2.2.1 g.2.2.2.2.2.2.2.2.1.1 g.2.2.2.2.2.2.2.2.2.1.1)
def Pv{zf:rX}(hM:Xj zf):EO (ab7 zf):=gi hM ⟨_,func263,aL,aL⟩ (λ_=>aL)
def arE(M263O:rX):aT:=(ab7 M263O (HO (Sl (Jo (aBs (Th (SM dz)))))))
def abZ{M263O}(h263O:Xj M263O):bK va (arE M263O):=(Pv h263O (gW (rH (lP (Yj (oB (lU aP)))))))
def awC(M263O:rX):An:= .no
def at7(M263O:rX):dB va (arE M263O) 13 300 263 (awC M263O):=bF (l:=[]) func263 (aY aL) aL az
def F6(M263O:rX)(a0_0:Int)(a0_1:Int)(a0_2:Int)(bt:cR)(b1_0_0:aq)(b6_0:aa Int)(b6_1:aa bu)(b6_2:ga)(b6_3:cR)(b6_4:Bool)(b7_0:Int)(b8_0:Int):af ace:=
 bif(ei bt (a0_0,a0_1,a0_2)).isSome then M (((ei bt (a0_0,a0_1,a0_2)).getD 0,bt,b1_0_0,b6_0,b6_1,b6_2,b6_3,b6_4,b7_0,b8_0))else match jL b1_0_0 a0_0 with|J=>J|M r1=>bif w9 ((eW r1 b1_0_0.ah)=b1_0_0.ah)then if 0<=a0_0/\a0_0<zZ b1_0_0.aG then match vp (SC b1_0_0.aG[a0_0.toNat]! (0) 0 b7_0 b8_0).fst b6_0 b6_1 b6_2 b6_3 b6_4 with|J=>J|M r2=>M ((r2.fst,gB bt (a0_0,a0_1,a0_2) r2.fst,b1_0_0,r2.snd.fst,r2.snd.snd.fst,r2.snd.snd.snd.fst,r2.snd.snd.snd.snd.fst,r2.snd.snd.snd.snd.snd,(SC b1_0_0.aG[a0_0.toNat]! (0) 0 b7_0 b8_0).snd))else J else match lJ b1_0_0 a0_0 (eW r1 b1_0_0.ah) O with|J=>J|M r3=>match lJ b1_0_0 a0_0 (eW r1 b1_0_0.ah) Z with|J=>J|M r4=>match M263O r3 0 0 bt b1_0_0 b6_0 b6_1 b6_2 b6_3 b6_4 b7_0 b8_0 with|J=>J|M r5=>match M263O r4 0 0 r5.snd.fst r5.snd.snd.fst r5.snd.snd.snd.fst r5.snd.snd.snd.snd.fst r5.snd.snd.snd.snd.snd.fst r5.snd.snd.snd.snd.snd.snd.fst r5.snd.snd.snd.snd.snd.snd.snd.fst r5.snd.snd.snd.snd.snd.snd.snd.snd.fst r5.snd.snd.snd.snd.snd.snd.snd.snd.snd with|J=>J|M r6=>match He (eW r1 b1_0_0.ah) r5.fst r6.fst r6.snd.snd.snd.fst r6.snd.snd.snd.snd.fst r6.snd.snd.snd.snd.snd.fst r6.snd.snd.snd.snd.snd.snd.fst r6.snd.snd.snd.snd.snd.snd.snd.fst with|J=>J|M r7=>M ((r7.fst,gB r6.snd.fst (a0_0,a0_1,a0_2) r7.fst,r6.snd.snd.fst,r7.snd.fst,r7.snd.snd.fst,r7.snd.snd.snd.fst,r7.snd.snd.snd.snd.fst,r7.snd.snd.snd.snd.snd,r6.snd.snd.snd.snd.snd.snd.snd.snd))
def sP:Nat->rX
 |0=>(λ_ _ _ _ _ _ _ _ _ _ _ _=>J)
 |n+1=>(F6 (sP n))
def afX(n:Nat):rX:=(sP n)
def Jg:∀n,Xj (afX n)
 |0=>λ_ _ h=>(by cases h)
 |n+1=>gZ (abZ (Jg n)) (at7 (afX n)) (λ_=>aL) (λ_=>aL) (λ_=>aL) λ_=>aL
def XK:rX:=λa0_0 a0_1 a0_2 bt b1_0_0 b6_0 b6_1 b6_2 b6_3 b6_4 b7_0 b8_0=>lim (λn=>afX n a0_0 a0_1 a0_2 bt b1_0_0 b6_0 b6_1 b6_2 b6_3 b6_4 b7_0 b8_0)
def ahh:Xj XK:=λg b h=>(bW h).elim λn=>Jg n g b
def aBA(F:aT):aT:=ab7 XK F
def aeV:EO aBA:=Pv ahh
abbrev aqF:=aq×Int×Int×Int
def azI:Td 2 aqF:= .c [] [4,5] (.r 2 3 (ec 4 (qp 2 0) (ec 5 aU en)) (sb 0 3 gY (sb 1 3 gY (sb 2 80 (lg 80) sn))) (λz=>(z.t.2.1,z.1.2.1,z.2.1.1,z.t.1.1)) (λx=>(((),x.2.1,()),((x.t.1,()),(x.t.2,()),x.1,()))))
def aDs:=(lc (qf 202 ah9) Fc)
def azQ:=Yy
def UZ(a1_0:aq)(bt:Int)(b1_0:Int):af aqF:=
 match XK a1_0.aH (0) (0) [] a1_0 fQ.fst fQ.snd.fst fQ.snd.snd.fst fQ.snd.snd.snd.fst fQ.snd.snd.snd.snd bt b1_0 with|J=>J|M r1=>match LM a1_0.ah r1.fst r1.snd.snd.snd.fst r1.snd.snd.snd.snd.fst r1.snd.snd.snd.snd.snd.fst r1.snd.snd.snd.snd.snd.snd.fst r1.snd.snd.snd.snd.snd.snd.snd.fst with|J=>J|M r2=>M ((r2.fst,r2.snd.fst,r1.snd.snd.snd.snd.snd.snd.snd.snd))
def agW:aT->aT:=eY va 189 2 aDs azQ azI (λg=>UZ g.1.2.1.1 g.2.1.1 g.t.1.1)
def ada:EO agW:=λh=>kY (an:= .no) func189 (iS (p:=(λf=>zg f 156||zg f 160||zg f 202||zg f 263)) (aeV (gW (Yj (rz (nY aP)))))) az h
def Rj{F:aT}{f:Nat}(hne:zg f 189=O)(h:bH F f):bH (agW F) f:=pQ hne h
structure tL where
 t4:List Int
 t16:List bu
 (t17 t18:Int)
 b0:cz
 b1:aq
 auG:List Int
 ayb:List bu
 asi:ga
 avn:cR
 asG:Bool
def Tc:Td 0 tL:= .c [] [1,2,3,4,16,17,18] (.r 0 8 (ec 1 (qp 0 0) (ec 2 (qp 1 0) (ec 3 (qp 2 0) (ec 4 (qo 3) (ec 16 (ql 113) (ec 17 aU (ec 18 aU en))))))) (sb 0 42 (lg 42) (sb 1 80 w8_ (sb 2 296 (lc (qo 4) (lc (qo 5) (lc (qo 6) (lc (qo 7) (lc qb ln))))) (sr 3 3 (sr 4 3 (sr 5 113 (sm 6 .k1 .i (sm 7 .k3 .i sn)))))))) (λz=>⟨z.q.1,z.1.q.1,z.1.q.2.1,z.1.q.t.1,z.2.1,(aq.mk z.t.1.1 [] [] z.t.1.t.2.1),z.q.2.1,z.q.t.1,z.q.t.2.1,z.q.q.1,z.t.2.1.q.1⟩) (λx=>(((),(),(),(),x.t16,x.t17,x.t18,()),(x.b0,(x.b1.ah,(),(),x.b1.aH,()),((),(),(),(),x.asG,()),x.t4,x.auG,x.ayb,x.asi,x.avn,()))))
def Gl{α:Type}(p:tL)(go:tL->af α)(e1:af α):af α:=
 bif w9 (p.t18<p.t17)then if 0<=p.t18/\p.t18<zZ p.t16 then if 0<=p.t16[zQ p.t18]!.aC/\p.t16[zQ p.t18]!.aC<zZ p.t4 then if 3=3/\p.t16[zQ p.t18]!.aC.toNat<zZ p.t4 then if 0<=p.t16[zQ p.t18]!.au/\p.t16[zQ p.t18]!.au<zZ p.t4 then if 3=3/\p.t16[zQ p.t18]!.au.toNat<zZ p.t4 then match He p.t16[zQ p.t18]!.bq p.t4[p.t16[zQ p.t18]!.aC.toNat]! p.t4[p.t16[zQ p.t18]!.au.toNat]! p.auG p.ayb p.asi p.avn p.asG with|J=>J|M r1=>if(p.t4++[r1.fst]).length<=1073741824 then go (tL.mk (p.t4++[r1.fst]) p.t16 p.t17 (ak (p.t18+1)) p.b0 (aq.mk p.b1.ah [] [] p.b1.aH) r1.snd.fst r1.snd.snd.fst r1.snd.snd.snd.fst r1.snd.snd.snd.snd.fst r1.snd.snd.snd.snd.snd)else J else J else J else J else J else J else e1
def KX(p:tL):af (af tL):=
 Gl p fW dy
def J5:=bX (KX)
abbrev aFy:=aq
def d197:Td 0 aFy:= .c [] [2] (.r 0 1 (ec 2 (qp 0 0) en) (sb 0 80 (lg 80) sn) (λz=>z.2.1) (λx=>(((),()),(x,()))))
def aaQ(a0:cz):af aFy:=
 match vp 0 fQ.fst fQ.snd.fst fQ.snd.snd.fst fQ.snd.snd.snd.fst fQ.snd.snd.snd.snd with|J=>J|M r2=>match vp 1 r2.snd.fst r2.snd.snd.fst r2.snd.snd.snd.fst r2.snd.snd.snd.snd.fst r2.snd.snd.snd.snd.snd with|J=>J|M r3=>match J5 (tL.mk [r2.fst,r3.fst] a0.aD (zZ a0.aD) 0 a0 (aq.mk 0 [] [] (0)) r3.snd.fst r3.snd.snd.fst r3.snd.snd.snd.fst r3.snd.snd.snd.snd.fst r3.snd.snd.snd.snd.snd)with|J=>J|M r4=>Gl r4 (λ_=>J) (if 0<=r4.b0.aH/\r4.b0.aH<zZ r4.t4 then if 3=3/\zQ r4.b0.aH<zZ r4.t4 then match LM r4.b0.ah r4.t4[zQ r4.b0.aH]! r4.auG r4.ayb r4.asi r4.avn r4.asG with|J=>J|M r6=>M (r6.fst)else J else J)
def atS:aT->aT:=eZ va 197 (lc (qg 42) ln) d197 (λg=>aaQ g.1)
def UM:EO atS:=λh=>kZ (an:=(cA 3 (.two (noTwo (Tc.lp J5 .no)) .no))) (l:=[(bz f197 0,(Tc.lp J5 .no))]) func197 (rz (oB (lU (nY aP)))) (aA (aO Tc) az) h
def YH{F:aT}{f:Nat}(hne:zg f 197=O)(h:bH F f):bH (atS F) f:=pQ hne h
def aFX:aT:=(atS (Io (agW (aaf (at1 dz)))))
abbrev aAy:=aq×Int
def d145:Td 0 aAy:= .c [] [6,7] (.r 0 1 (ec 6 (qp 0 0) (ec 7 aU en)) (sb 0 80 (lg 80) sn) (λz=>(z.2.1,z.1.2.1)) (λx=>(((),x.2,()),(x.1,()))))
def aCT:∀f∈([188]:aa Nat),bH (aFX) f:=(aA (YH (f:=188) rfl (kN (f:=188) rfl (Rj (f:=188) rfl (kC (ZZ cU))))) az)
def aag(a0:cz)(a1:Int)(a2:Int):af aAy:=
 match SQ a0 with|J=>J|M r1=>bif bif w9 (r1=0)then O else Z then M ((aq.mk (0) [] [] (0),1))else match bif bif kH a1 then O else Z then M (Z)else M (bif kH a2 then O else Z)with|J=>J|M r2=>bif r2 then M ((aq.mk (0) [] [] (0),3))else match aaQ a0 with|J=>J|M r3=>match UZ r3 a2 a1 with|J=>J|M r4=>M ((r4.fst,r4.snd.fst))
def aIt:aT->aT:=eZ va 145 (lc (qg 42) uS) d145 (λg=>aag g.1 g.2.1 g.t.1)
def C6:EO aIt:=λh=>kZ (F:=aFX) (an:=(cA 2 (.two (.two (.rb [188] 19) .no) .no))) (l:=[(.skip,(.rb [188] 19))]) func145 (UM (qB (ada (vZ (KV aP))))) (aA aCT az) h
def as4:aT:=dz
abbrev aut:=cz×Int
def d179:Td 0 aut:= .c [] [4,5] (.r 0 1 (ec 4 (qp 0 0) (ec 5 aU en)) (sb 0 42 (lg 42) sn) (λz=>(z.2.1,z.1.2.1)) (λx=>(((),x.2,()),(x.1,()))))
def aGk:=uS
def apH:An:=(noTwo (.two (.two (.rb [] 20) .no) .no))
def ay8:∀f∈([]:aa Nat),bH (as4) f:=az
def TV(a0:Int)(a1:Int):aut:=
 let r1:Bool:=bif w9 (a0<0)then Z else bif w9 (40<a0)then Z else bif w9 (a1<0)then Z else w9 (a0<=a1);bif r1 then(cz.mk (0) [] (0),3)else(cz.mk a0 [bu.mk a1 (0) (1)] (2),0)
def aLO(a0:Int)(a1:Int):bY va (as4) 300 (apH) 179 (aGk.c (a0,a1,())) [] 0 d179.rd=M (TV a0 a1):=by
 refine Eq.trans (b:=(
  match bif w9 (a0<0)then M (Z)else bif w9 (40<a0)then M (Z)else bif w9 (a1<0)then M (Z)else M (w9 (a0<=a1))with|J=>J|M r1=>bif r1 then M ((cz.mk (0) [] (0),3))else M ((cz.mk a0 [bu.mk a1 (0) (1)] (2),0)):af aut)) aL ?_
 simp only[TV,b6,cw]
def aIa:aT->aT:=eZ va 179 aGk d179 (λg=>M (TV g.1 g.2.1))
def VY:EO aIa:=λh=>kZ (F:=as4) (an:=apH) (l:=[(.skip,(.rb [] 20))]) func179 aP (aA ay8 az) h (c:=λg=>aLO g.1 g.2.1)
def asu:aT:=(aaf dz)
abbrev asE:=aq×Int
def d135:Td 0 asE:= .c [] [4,5] (.r 0 1 (ec 4 (qp 0 0) (ec 5 aU en)) (sb 0 80 aea sn) (λz=>((aq.mk z.2.1.1 z.2.1.2.1 [] z.2.1.t.2.1),z.1.2.1)) (λx=>(((),x.2,()),((x.1.ah,x.1.aG,(),x.1.aH,()),()))))
def ayZ:=uS
def aqk:An:=(noTwo (.two (.two (.rb [188] 16) .no) .no))
def aEy:∀f∈([188]:aa Nat),bH (asu) f:=(aA (kC cU) az)
def L8(a0:Int)(a1:Int):asE:=
 let r1:Bool:=bif w9 (a0<0)then Z else bif w9 (40<a0)then Z else bif kH a1 then O else Z;bif r1 then(aq.mk (0) [] [] (0),3)else(aq.mk a0 [a1] [] (0),0)
def aH7(a0:Int)(a1:Int):bY va (asu) 300 (aqk) 135 (ayZ.c (a0,a1,())) [] 0 d135.rd=M (L8 a0 a1):=by
 refine Eq.trans (b:=(
  match bif w9 (a0<0)then M (Z)else bif w9 (40<a0)then M (Z)else M (bif kH a1 then O else Z)with|J=>J|M r1=>bif r1 then M ((aq.mk (0) [] [] (0),3))else M ((aq.mk a0 [a1] [] (0),0)):af asE)) aL ?_
 simp only[L8,b6,cw]
def aKP:aT->aT:=eZ va 135 ayZ d135 (λg=>M (L8 g.1 g.2.1))
def Wr:EO aKP:=λh=>kZ (F:=asu) (an:=aqk) (l:=[(.skip,(.rb [188] 16))]) func135 (vZ aP) (aA aEy az) h (c:=λg=>aH7 g.1 g.2.1)
abbrev E75:=aq×aK
def d75:Td 1 E75:= .c [] [4] (.r 1 2 (ec 4 (qp 1 0) en) (sb 0 138 (lg 138) (sb 1 80 aea sn)) (λz=>((aq.mk z.t.1.1 z.t.1.2.1 [] z.t.1.t.2.1),z.2.1)) (λx=>(((),()),(x.2,(x.1.ah,x.1.aG,(),x.1.aH,()),()))))
def B75:=(sb 0 138 (lg 138) sn)
def fh(a1:Int)(b0:aK):E75:=
 (aq.mk (L8 b0.ah a1).fst.ah (L8 b0.ah a1).fst.aG [] (L8 b0.ah a1).fst.aH,b0)
def e75:aT->aT:=eY va 75 1 (lc (qp 0 0) gY) B75 d75 (λg=>M (fh g.1.2.1 g.2.1))
def lZ:EO e75:=λh=>kY (an:= .no) func75 (Wr aP) az h
structure qP where
 (t14 t15:Int)
 b0:aK
 b1:Slot
 (b2 b3:aq)
def Q8:Td 1 qP:= .c [] [0,3,4,5,14,15] (.r 1 4 (ec 0 (qp 0 0) (ec 3 (qp 1 0) (ec 4 (qp 2 0) (ec 5 (qp 3 0) (ec 14 aU (ec 15 aU en)))))) (sb 0 138 (lg 138) (sb 1 38 (lg 38) (sb 2 80 w8_ (sb 3 80 (lg 80) sn)))) (λz=>⟨z.1.q.1,z.1.q.2.1,z.2.1,z.t.1,(aq.mk z.t.2.1.1 [] [] z.t.2.1.t.2.1),z.q.1⟩) (λx=>(((),(),(),(),x.t14,x.t15,()),(x.b0,x.b1,(x.b2.ah,(),(),x.b2.aH,()),x.b3,()))))
def DZ{α:Type}(p:qP)(go:qP->af α)(e1:af α):af α:=
 bif w9 (p.t15<p.t14)then if 0<=ak (ak (p.b1.dM-1)-p.t15)then match aag (TV p.b0.ah (ak (p.b1.dJ+p.t15))).fst 0 (FF IntKind.i64 1 (ak (ak (p.b1.dM-1)-p.t15)))with|J=>J|M r1=>match ij 0 p.b3 r1.fst p.b0 with|J=>J|M r2=>go (qP.mk p.t14 (ak (p.t15+1)) r2.snd p.b1 (aq.mk p.b2.ah [] [] p.b2.aH) r2.fst)else J else e1
def LD(p:qP):af (af qP):=
 DZ p fW dy
def Bc:=bX (LD)
abbrev awM:=aq×aK
def d116:Td 1 awM:= .c [] [4] (.r 1 2 (ec 4 (qp 1 0) en) (sb 0 138 (lg 138) (sb 1 80 (lg 80) sn)) (λz=>(z.t.1,z.2.1)) (λx=>(((),()),(x.2,x.1,()))))
def aIA:=(sb 0 138 (lg 138) sn)
def Yx(a1:Slot)(b0:aK):af awM:=
 match Bc (qP.mk a1.dM (0) (fh (0) b0).snd a1 (aq.mk (0) [] [] (0)) (aq.mk (fh (0) b0).fst.ah (fh (0) b0).fst.aG [] (fh (0) b0).fst.aH))with|J=>J|M r3=>DZ r3 (λ_=>J) (M ((r3.b3,r3.b0)))
def aHR:aT->aT:=eY va 116 1 (lc (qp 0 0) (lc (qg 38) ln)) aIA d116 (λg=>Yx g.1.2.1 g.2.1)
def aiX:EO aHR:=λh=>kY (an:=(cA 2 (.two (noTwo (Q8.lp Bc .no)) .no))) (l:=[(bz f116 0,(Q8.lp Bc .no))]) func116 (VY (C6 (jG (lZ aP)))) (aA (aO Q8) az) h
structure uq where
 (t0 t17:List cz)
 (t18 t19:Int)
def T4:Td 0 uq:= .c [] [0,17,18,19] (.r 0 0 (ec 0 (ql 42) (ec 17 (ql 42) (ec 18 aU (ec 19 aU en)))) sn (λz=>⟨z.1.1,z.1.2.1,z.1.t.1,z.1.t.2.1⟩) (λx=>((x.t0,x.t17,x.t18,x.t19,()),(()))))
def Ew{α:Type}(p:uq)(go:uq->af α)(e1 e2:af α):af α:=
 bif w9 (p.t19<p.t18)then if 0<=p.t19/\p.t19<zZ p.t17 then if(0:Int)<=(0:Int)/\(0:Int)<zZ p.t0 then bif bif w9 (p.t17[zQ p.t19]!.ah=p.t0[0]!.ah)then O else Z then e1 else go (uq.mk p.t0 p.t17 p.t18 (ak (p.t19+1)))else J else J else e2
def JK(p:uq):af (af uq):=
 Ew p fW dy dy
def Ls:=bX (JK)
structure tS where
 (t0 t7:List cz)
 (t8 t9:Int)
def Tu:Td 0 tS:= .c [] [0,7,8,9] (.r 0 0 (ec 0 (ql 42) (ec 7 (ql 42) (ec 8 aU (ec 9 aU en)))) sn (λz=>⟨z.1.1,z.1.2.1,z.1.t.1,z.1.t.2.1⟩) (λx=>((x.t0,x.t7,x.t8,x.t9,()),(()))))
def FQ{α:Type}(p:tS)(go:tS->af α)(e1 e2:af α):af α:=
 bif w9 (p.t9<p.t8)then if 0<=p.t9/\p.t9<zZ p.t7 then match SQ p.t7[zQ p.t9]! with|J=>J|M r1=>bif bif w9 (r1=0)then O else Z then e1 else go (tS.mk p.t0 p.t7 p.t8 (ak (p.t9+1)))else J else e2
def MH(p:tS):af (af tS):=
 FQ p fW dy dy
def JD:=bX (MH)
abbrev aA5:=Int
def d180:Td 0 aA5:=dW 2
def ae2(a0:aa cz):af aA5:=
 match JD (tS.mk a0 a0 (zZ a0) 0)with|J=>J|M r2=>FQ r2 (λ_=>J) (M 1) (match Ls (uq.mk r2.t0 r2.t0 (zZ r2.t0) 0)with|J=>J|M r4=>Ew r4 (λ_=>J) (M 2) (M 0))
def aB3:=eL va 180 O (lc (ql 42) ln) d180 (λg=>ae2 g.1)
def WX:EO aB3:=λh=>kL (an:=(noTwo (.two (noTwo (Tu.lp JD .no)) (.two (noTwo (T4.lp Ls .no)) .no)))) (l:=[(bz f180 0,(Tu.lp JD .no)),(bz f180 1,(T4.lp Ls .no))]) func180 (KV aP) (aA (aO Tu) (aA (aO T4) az)) h
def aJC:aT:=dz
abbrev atP:=cz×Int
def d181:Td 0 atP:= .c [] [2,3] (.r 0 1 (ec 2 (qp 0 0) (ec 3 aU en)) (sb 0 42 (lg 42) sn) (λz=>(z.2.1,z.1.2.1)) (λx=>(((),x.2,()),(x.1,()))))
def aFo:=(lc (qg 42) ln)
def aov:An:= .no
def RO(a0:cz):atP:=
 bif w9 (4096<(zZ a0.aD:Int))then(cz.mk 0 [] (0),4)else(a0,0)
def aJU(a0:cz):bY va (aJC) 300 (aov) 181 (aFo.c (a0,())) [] 0 d181.rd=M (RO a0):=by
 refine Eq.trans (b:=(
  bif w9 (4096<(zZ a0.aD:Int))then M ((cz.mk (0) [] (0),4))else M ((a0,0)):af atP)) aL ?_
 simp only[RO,b6,cw]
def aAt:aT->aT:=eZ va 181 aFo d181 (λg=>M (RO g.1))
def Yh:EO aAt:=λh=>kZ (an:=aov) func181 aP az h (c:=λg=>aJU g.1)
def aKm:aT:=dz
abbrev auQ:=Bool×Int
def d183:Td 1 auQ:= .c [] [3] (.r 1 1 (ec 3 qb en) (sb 0 3 gY sn) (λz=>(z.1.1,z.2.1.1)) (λx=>((x.1,()),((x.2,()),()))))
def aAd:=(lc (qa (lc qb (lc qb (lc qb ln)))) AN)
def azD:=(sb 0 3 gY sn)
def aqt:An:= .no
def CN(a0_0:Bool)(a0_1:Bool)(a0_2:Bool)(bt:Int):auQ:=
 bif a0_0 then bif a0_1 then(w9 (oT IntKind.i64 (de IntKind.i64 bt (3)) (1)=1),bt)else(w9 (oT IntKind.i64 (de IntKind.i64 bt (2)) (1)=1),bt)else bif a0_1 then(w9 (oT IntKind.i64 (de IntKind.i64 bt (1)) (1)=1),bt)else(w9 (oT IntKind.i64 (de IntKind.i64 bt (0)) (1)=1),bt)
def aIM(a0_0:Bool)(a0_1:Bool)(a0_2:Bool)(bt:Int):bY va (aKm) 300 (aqt) 183 (aAd.c ((a0_0,a0_1,a0_2,()),(),())) (azD.d ((bt,()),())) 1 d183.rd=M (CN a0_0 a0_1 a0_2 bt):=by
 refine Eq.trans (b:=(
  bif a0_0 then bif a0_1 then M ((w9 (oT IntKind.i64 (de IntKind.i64 bt (3)) (1)=1),bt))else M ((w9 (oT IntKind.i64 (de IntKind.i64 bt (2)) (1)=1),bt))else bif a0_1 then M ((w9 (oT IntKind.i64 (de IntKind.i64 bt (1)) (1)=1),bt))else M ((w9 (oT IntKind.i64 (de IntKind.i64 bt (0)) (1)=1),bt)):af auQ)) aL ?_
 simp only[CN,b6,cw]
def ayf:aT->aT:=eY va 183 1 aAd azD d183 (λg=>M (CN g.1.1.1 g.1.1.2.1 g.1.1.t.1 g.2.1.1))
def KI:EO ayf:=λh=>kY (an:=aqt) func183 aP az h (c:=λg=>aIM g.1.1.1 g.1.1.2.1 g.1.1.t.1 g.2.1.1)
abbrev aFN:=Int
def d153:Td 0 aFN:=dW 8
def rP(a0:cz)(a1:Int)(a2:Int)(a3:Bool):af aFN:=
 match nI a0 a1 with|J=>J|M r1=>bif bif w9 (r1=a2)then O else Z then M (a1)else bif a3 then if 0<=ak (a1-2)/\ak (a1-2)<zZ a0.aD then M (a0.aD[(ak (a1-2)).toNat]!.au)else J else if 0<=ak (a1-2)/\ak (a1-2)<zZ a0.aD then M (a0.aD[(ak (a1-2)).toNat]!.aC)else J
def aeu:=eL va 153 O (lc (qg 42) (dX (dX (lc qb ln)))) d153 (λg=>rP g.1 g.2.1 g.t.1 g.t.2.1)
def Dv:EO aeu:=λh=>kL (an:= .no) func153 (rq aP) az h
abbrev aBu:=Int×(aa bu)×cR
def d240:Td 3 aBu:= .c [1] [8] (.r 3 4 (ec 8 aU en) (sb 0 326 (lc (qo 3) (lc (qo 2) ln)) (sm 2 .k3 .i (sr 3 113 sn))) (λz=>(z.1.1,z.t.2.1,z.t.1)) (λx=>((x.1,()),(((),(),()),x.t,x.2.1,()))))
def aLD:=(sb 0 326 (lc (qo 1) (lc (qo 2) ln)) (sr 1 113 (sm 2 .k3 .i sn)))
def O6(a1:Int)(a2:Int)(a3:Int)(bt:aa bu)(eC:cR):af aBu:=
 bif w9 (a2=a3)then M (a2,bt,eC)else bif(ei eC (a1,a2,a3)).isSome then M (((ei eC (a1,a2,a3)).getD 0,bt,eC))else if(bt++[bu.mk a1 a2 a3]).length<=1073741824 then M (((ei (gB eC (a1,a2,a3) (ak (ak (2+(↑(bt++[bu.mk a1 a2 a3]).length:Int))-1))) (a1,a2,a3)).getD 0,bt++[bu.mk a1 a2 a3],gB eC (a1,a2,a3) (ak (ak (2+(↑(bt++[bu.mk a1 a2 a3]).length:Int))-1))))else J
def aa3:aT->aT:=eY va 240 3 (lc (qp 0 0) OX) aLD d240 (λg=>O6 g.1.2.1 g.1.t.1 g.1.t.2.1 g.t.1 g.t.2.1)
def De:EO aa3:=λh=>kY (an:= .no) func240 aP az h
abbrev afr:=Int×cR×Int×cz×cz×Int×(aa bu)×cR
def aqd:Td 11 afr:= .c [9] [8] (.r 11 12 (ec 8 aU en) (sb 0 327 (lc (qo 6) ln) (sb 1 3 gY (sb 2 264 (lc (qk 42 2) ln) (sb 3 201 al0 (sb 4 226 OW (sb 5 324 OA (sm 6 .k3 .i (sb 7 3 gY (sb 8 326 (lc (qo 11) (lc (qo 10) ln)) (sm 10 .k3 .i (sr 11 113 sn))))))))))) (λz=>(z.1.1,z.q.t.2.1,z.t.1.1,z.t.2.1.1.1,z.t.2.1.1.2.1,z.q.q.1.1,z.q.q.t.2.1,z.q.q.t.1)) (λx=>((x.1,()),(((),()),(x.t.1,()),((x.t.2.1,x.q.1,()),()),(((),()),()),(((),(),(),(),(),(),()),()),((),()),x.2.1,(x.q.2.1,()),((),(),()),x.q.t.2,x.q.t.1,()))))
def apB:=(lc (qa OX) w4_)
def aqr:=(sb 0 327 (lc (qo 6) ln) (sb 1 3 gY (sb 2 264 (lc (qk 42 2) ln) (sb 3 201 al0 (sb 4 226 OW (sb 5 324 OA (sm 6 .k3 .i (sb 7 3 gY (sb 8 326 (lc (qo 9) (lc (qo 10) ln)) (sr 9 113 (sm 10 .k3 .i sn)))))))))))
abbrev sA:Type:=Int->Int->Int->cR->Int->cz->cz->Int->(aa bu)->cR->af afr
def aeG(zf:sA):aT->aT:=eY va 239 11 apB aqr aqd (λg=>zf g.1.1.1 g.1.1.2.1 g.1.1.2.2.1 g.2.2.2.2.2.2.2.1 g.2.2.1.1 g.2.2.2.1.1.1 g.2.2.2.1.1.2.1 g.2.2.2.2.2.2.2.2.1.1 g.2.2.2.2.2.2.2.2.2.2.1 g.2.2.2.2.2.2.2.2.2.2.2.1)
def Xh(zf:sA):Prop:=HY va 239 11 apB aqr aqd (λg=>zf g.1.1.1 g.1.1.2.1 g.1.1.2.2.1 g.2.2.2.2.2.2.2.1 g.2.2.1.1 g.2.2.2.1.1.1 g.2.2.2.1.1.2.1 g.2.2.2.2.2.2.2.2.1.1 g.2.2.2.2.2.2.2.2.2.2.1 g.2.2.2.2.2.2.2.2.2.2.2.1)
def Qe{zf:sA}(hM:Xh zf):EO (aeG zf):=gi hM ⟨_,func239,aL,aL⟩ (λ_=>aL)
def aqN(M239A:sA):aT:=(aa3 (aeG M239A (ZA (ayf (aeu dz)))))
def adQ{M239A}(h239A:Xh M239A):bK va (aqN M239A):=(De (Qe h239A (rq (KI (Dv aP)))))
def ath(M239A:sA):An:= .no
def ata(M239A:sA):dB va (aqN M239A) 11 300 239 (ath M239A):=bF (l:=[]) func239 (aY aL) aL az
def G6(M239A:sA)(a0_0:Int)(a0_1:Int)(a0_2:Int)(bt:cR)(b1_0:Int)(b2_0_0:cz)(b2_0_1:cz)(b7_0:Int)(b8_0:aa bu)(b8_1:cR):af afr:=
 bif(ei bt (a0_0,a0_1,a0_2)).isSome then M (((ei bt (a0_0,a0_1,a0_2)).getD (0),bt,b1_0,b2_0_0,b2_0_1,b7_0,b8_0,b8_1))else match nI b2_0_0 a0_0 with|J=>J|M r1=>match nI b2_0_1 a0_1 with|J=>J|M r2=>bif w9 ((eW r2 (eW r1 b1_0))=b1_0)then bif(CN (w9 (a0_0=1)) (w9 (a0_1=1)) O b7_0).fst then M ((1,gB bt (a0_0,a0_1,a0_2) (1),b1_0,b2_0_0,b2_0_1,(CN (w9 (a0_0=1)) (w9 (a0_1=1)) O b7_0).snd,b8_0,b8_1))else M ((0,gB bt (a0_0,a0_1,a0_2) (0),b1_0,b2_0_0,b2_0_1,(CN (w9 (a0_0=1)) (w9 (a0_1=1)) O b7_0).snd,b8_0,b8_1))else match rP b2_0_0 a0_0 (eW r2 (eW r1 b1_0)) O with|J=>J|M r3=>match rP b2_0_0 a0_0 (eW r2 (eW r1 b1_0)) Z with|J=>J|M r4=>match rP b2_0_1 a0_1 (eW r2 (eW r1 b1_0)) O with|J=>J|M r5=>match rP b2_0_1 a0_1 (eW r2 (eW r1 b1_0)) Z with|J=>J|M r6=>match M239A r3 r5 a0_2 bt b1_0 b2_0_0 b2_0_1 b7_0 b8_0 b8_1 with|J=>J|M r7=>match M239A r4 r6 a0_2 r7.snd.fst r7.snd.snd.fst r7.snd.snd.snd.fst r7.snd.snd.snd.snd.fst r7.snd.snd.snd.snd.snd.fst r7.snd.snd.snd.snd.snd.snd.fst r7.snd.snd.snd.snd.snd.snd.snd with|J=>J|M r8=>match O6 (eW r2 (eW r1 b1_0)) r7.fst r8.fst r8.snd.snd.snd.snd.snd.snd.fst r8.snd.snd.snd.snd.snd.snd.snd with|J=>J|M r9=>M ((r9.fst,gB r8.snd.fst (a0_0,a0_1,a0_2) r9.fst,r8.snd.snd.fst,r8.snd.snd.snd.fst,r8.snd.snd.snd.snd.fst,r8.snd.snd.snd.snd.snd.fst,r9.snd))
def sQ:Nat->sA
 |0=>(λ_ _ _ _ _ _ _ _ _ _=>J)
 |n+1=>(G6 (sQ n))
def abW(n:Nat):sA:=(sQ n)
def Jh:∀n,Xh (abW n)
 |0=>λ_ _ h=>(by cases h)
 |n+1=>gZ (adQ (Jh n)) (ata (abW n)) (λ_=>aL) (λ_=>aL) (λ_=>aL) λ_=>aL
def O4:sA:=λa0_0 a0_1 a0_2 bt b1_0 b2_0_0 b2_0_1 b7_0 b8_0 b8_1=>lim (λn=>abW n a0_0 a0_1 a0_2 bt b1_0 b2_0_0 b2_0_1 b7_0 b8_0 b8_1)
def aeQ:Xh O4:=λg b h=>(bW h).elim λn=>Jh n g b
def XL(F:aT):aT:=aeG O4 F
def qm:EO XL:=Qe aeQ
abbrev RE:=Int×cR×Int×cz×cz×Int×(aa bu)×cR
def ae9:Td 10 RE:= .c [] [8] (.t (bT.c 8 0 [] 113) (.c [] [8] (.r 10 11 (ec 8 aU en) (sb 0 327 (lc (qo 6) ln) (sb 1 3 gY (sb 2 264 (lc (qk 42 2) ln) (sb 3 201 al0 (sb 4 226 OW (sb 5 324 OA (sm 6 .k3 .i (sb 7 3 gY (sb 8 326 (lc (qo 10) (lc (qo 9) ln)) (sm 9 .k3 .i (sr 10 113 sn))))))))))) (λz=>(z.1.1,z.q.t.2.1,z.t.1.1,z.t.2.1.1.1,z.t.2.1.1.2.1,z.q.q.1.1,z.q.q.t.2.1,z.q.q.t.1)) (λx=>((x.1,()),(((),()),(x.t.1,()),((x.t.2.1,x.q.1,()),()),(((),()),()),(((),(),(),(),(),(),()),()),((),()),x.2.1,(x.q.2.1,()),((),(),()),x.q.t.2,x.q.t.1,()))))))
def agX:=(lc (qa OX) w4_)
def abu:=(sb 0 327 (lc (qo 6) ln) (sb 1 3 gY (sb 2 264 (lc (qk 42 2) ln) (sb 3 201 al0 (sb 4 226 OW (sb 5 324 OA (sm 6 .k3 .i (sb 7 3 gY (sb 8 326 (lc qn (lc (qo 9) ln)) (sm 9 .k3 .i sn))))))))))
abbrev me:Type:=Int->Int->Int->cR->Int->cz->cz->Int->cR->af RE
def SK(zf:me):aT->aT:=eY va 239 10 agX abu ae9 (λg=>zf g.1.1.1 g.1.1.2.1 g.1.1.2.2.1 g.2.2.2.2.2.2.2.1 g.2.2.1.1 g.2.2.2.1.1.1 g.2.2.2.1.1.2.1 g.2.2.2.2.2.2.2.2.1.1 g.2.2.2.2.2.2.2.2.2.2.1)
def Mh(zf:me):Prop:=HY va 239 10 agX abu ae9 (λg=>zf g.1.1.1 g.1.1.2.1 g.1.1.2.2.1 g.2.2.2.2.2.2.2.1 g.2.2.1.1 g.2.2.2.1.1.1 g.2.2.2.1.1.2.1 g.2.2.2.2.2.2.2.2.1.1 g.2.2.2.2.2.2.2.2.2.2.1)
def HT{zf:me}(hM:Mh zf):EO (SK zf):=gi hM ⟨_,func239,aL,aL⟩ (λ_=>aL)
def adu(M239An:me):aT:=(aa3 (SK M239An (XL (ZA (ayf (aeu dz))))))
def Zg{M239An}(h239An:Mh M239An):bK va (adu M239An):=(De (HT h239An (qm (rq (KI (Dv aP))))))
def akt(M239An:me):An:= .no
def anz(M239An:me):dB va (adu M239An) 10 300 239 (akt M239An):=bF (l:=[]) func239 (aY aL) aL az
def uw(M239An:me)(a0_0:Int)(a0_1:Int)(a0_2:Int)(bt:cR)(b1_0:Int)(b2_0_0:cz)(b2_0_1:cz)(b7_0:Int)(b8_1:cR):af RE:=
 bif(ei bt (a0_0,a0_1,a0_2)).isSome then M (((ei bt (a0_0,a0_1,a0_2)).getD (0),bt,b1_0,b2_0_0,b2_0_1,b7_0,[],b8_1))else match nI b2_0_0 a0_0 with|J=>J|M r1=>match nI b2_0_1 a0_1 with|J=>J|M r2=>bif w9 ((eW r2 (eW r1 b1_0))=b1_0)then bif(CN (w9 (a0_0=1)) (w9 (a0_1=1)) O b7_0).fst then M ((1,gB bt (a0_0,a0_1,a0_2) (1),b1_0,b2_0_0,b2_0_1,(CN (w9 (a0_0=1)) (w9 (a0_1=1)) O b7_0).snd,[],b8_1))else M ((0,gB bt (a0_0,a0_1,a0_2) (0),b1_0,b2_0_0,b2_0_1,(CN (w9 (a0_0=1)) (w9 (a0_1=1)) O b7_0).snd,[],b8_1))else match rP b2_0_0 a0_0 (eW r2 (eW r1 b1_0)) O with|J=>J|M r3=>match rP b2_0_0 a0_0 (eW r2 (eW r1 b1_0)) Z with|J=>J|M r4=>match rP b2_0_1 a0_1 (eW r2 (eW r1 b1_0)) O with|J=>J|M r5=>match rP b2_0_1 a0_1 (eW r2 (eW r1 b1_0)) Z with|J=>J|M r6=>match M239An r3 r5 a0_2 bt b1_0 b2_0_0 b2_0_1 b7_0 b8_1 with|J=>J|M r7=>match O4 r4 r6 a0_2 r7.snd.fst r7.snd.snd.fst r7.snd.snd.snd.fst r7.snd.snd.snd.snd.fst r7.snd.snd.snd.snd.snd.fst r7.snd.snd.snd.snd.snd.snd.fst r7.snd.snd.snd.snd.snd.snd.snd with|J=>J|M r8=>match O6 (eW r2 (eW r1 b1_0)) r7.fst r8.fst r8.snd.snd.snd.snd.snd.snd.fst r8.snd.snd.snd.snd.snd.snd.snd with|J=>J|M r9=>M ((r9.fst,gB r8.snd.fst (a0_0,a0_1,a0_2) r9.fst,r8.snd.snd.fst,r8.snd.snd.snd.fst,r8.snd.snd.snd.snd.fst,r8.snd.snd.snd.snd.snd.fst,r9.snd))
def n9:Nat->me
 |0=>(λ_ _ _ _ _ _ _ _ _=>J)
 |n+1=>(uw (n9 n))
def TN(n:Nat):me:=(n9 n)
def GP:∀n,Mh (TN n)
 |0=>λ_ _ h=>(by cases h)
 |n+1=>gZ (Zg (GP n)) (anz (TN n)) (λ_=>aL) (λ_=>aL) (λ_=>aL) λ_=>aL
def Kq:me:=λa0_0 a0_1 a0_2 bt b1_0 b2_0_0 b2_0_1 b7_0 b8_1=>lim (λn=>TN n a0_0 a0_1 a0_2 bt b1_0 b2_0_0 b2_0_1 b7_0 b8_1)
def YY:Mh Kq:=λg b h=>(bW h).elim λn=>GP n g b
def TI(F:aT):aT:=SK Kq F
def rG:EO TI:=HT YY
abbrev aql:=cz×Int
def aAq:Td 1 aql:= .c [] [4] (.r 1 2 (ec 4 (qp 1 0) en) (sb 0 3 gY (sb 1 42 (lg 42) sn)) (λz=>(z.t.1,z.2.1.1)) (λx=>(((),()),((x.2,()),x.1,()))))
def aEp:=(lc (qk 42 2) (lc (qf 183 AN) ln))
def aDK:=(sb 0 3 gY sn)
def ag4(a0_0:cz)(a0_1:cz)(bt:Int):af aql:=
 match Kq a0_0.aH a0_1.aH (0) [] a0_0.ah a0_0 a0_1 bt []with|J=>J|M r1=>match Sf r1.snd.snd.fst r1.snd.snd.snd.snd.snd.snd.fst r1.fst with|J=>J|M r2=>M ((r2,r1.snd.snd.snd.snd.snd.fst))
def apa:aT->aT:=eY va 182 1 aEp aDK aAq (λg=>ag4 g.1.1.1 g.1.1.2.1 g.2.1.1)
def Pn:EO apa:=λh=>kY (an:= .no) func182 (rG ((qm (LI (KI aP))))) az h
def aDC:aT:=(apa (aAt (aB3 dz)))
abbrev azk:=cz×Int
def d117:Td 0 azk:= .c [] [6,7] (.r 0 1 (ec 6 (qp 0 0) (ec 7 aU en)) (sb 0 42 (lg 42) sn) (λz=>(z.2.1,z.1.2.1)) (λx=>(((),x.2,()),(x.1,()))))
def aCh:∀f∈([]:aa Nat),bH (aDC) f:=az
def N9(a0:Int)(a1:cz)(a2:cz):af azk:=
 match ae2 [a1,a2]with|J=>J|M r1=>bif bif w9 (r1=0)then O else Z then M ((cz.mk (0) [] (0),r1))else match bif w9 (a0<0)then M (Z)else M (w9 (15<a0))with|J=>J|M r2=>bif r2 then M ((cz.mk (0) [] (0),3))else match ag4 a1 a2 a0 with|J=>J|M r3=>M (RO r3.fst)
def aLw:aT->aT:=eZ va 117 (dX (lc (qg 42) (lc (qg 42) ln))) d117 (λg=>N9 g.1 g.2.1 g.t.1)
def LF:EO aLw:=λh=>kZ (F:=aDC) (an:=(cA 2 (.two (.two (.rb [] 22) .no) .no))) (l:=[(.skip,(.rb [] 22))]) func117 (Pn (Yh (WX aP))) (aA aCh az) h
structure uo where
 t2:Int
 t10:ga
 t33:List Int
 (t34 t35:Int)
 bt:List Int
 eC:List bu
 jv:ga
 jx:cR
 jW:Bool
 (b5 b7:cz)
def QT:Td 5 uo:= .c [] [0,2,6,10,11,33,34,35] (.t (bT.c 7 1 [] 113) (.c [] [0,2,6,10,11,33,34,35] (.r 5 11 (ec 0 (qp 0 0) (ec 2 aU (ec 6 (qp 5 0) (ec 10 (qo 6) (ec 11 (qp 7 0) (ec 33 (qo 8) (ec 34 aU (ec 35 aU en)))))))) (sb 0 296 (lc (qo 9) Nf) (sr 2 113 (sm 3 .k1 .i (sm 4 .k3 .i (sb 5 42 an0 (sm 6 .k1 .i (sb 7 42 (dX (lc (qo 10) gY)) (sr 8 3 (sr 9 3 (sr 10 113 sn)))))))))) (λz=>⟨z.1.2.1,z.q.t.1,z.q.q.1,z.1.q.t.1,z.1.q.t.2.1,z.q.q.2.1,z.t.1,z.t.2.1,z.q.1,z.2.1.q.1,(cz.mk z.q.2.1.1 [] z.q.2.1.t.1),(cz.mk z.q.t.2.1.1 z.q.q.t.1 z.q.t.2.1.t.1)⟩) (λx=>(((),x.t2,(),(),(),(),x.t34,x.t35,()),(((),(),(),(),x.jW,()),x.eC,x.jv,x.jx,(x.b5.ah,(),x.b5.aH,()),x.t10,(x.b7.ah,(),x.b7.aH,()),x.t33,x.bt,x.b7.aD,()))))))
def FC{α:Type}(p:uo)(go:uo->af α)(e1:af α):af α:=
 bif w9 (p.t35<p.t34)then if 0<=p.t35/\p.t35<zZ p.t33 then if 3=3/\zQ p.t35<zZ p.t33 then if 0<=p.t33[zQ p.t35]!/\p.t33[zQ p.t35]! <(zZ p.eC:Int)then if 113=113/\zQ p.t33[zQ p.t35]! <zZ p.eC then if(p.b7.aD++[bu.mk p.eC[zQ p.t33[zQ p.t35]!]!.bq ((ei p.t10 p.eC[zQ p.t33[zQ p.t35]!]!.aC).getD ((0:Int))) ((ei p.t10 p.eC[zQ p.t33[zQ p.t35]!]!.au).getD ((0:Int)))]).length<=1073741824 then go (uo.mk p.t2 (gB p.t10 (ak (ak (2*p.t33[zQ p.t35]!)+1)) (ak (2+p.t35))) p.t33 p.t34 (ak (p.t35+1)) p.bt p.eC p.jv p.jx p.jW (cz.mk p.b5.ah [] p.b5.aH) (cz.mk p.b7.ah (p.b7.aD++[bu.mk p.eC[zQ p.t33[zQ p.t35]!]!.bq ((ei p.t10 p.eC[zQ p.t33[zQ p.t35]!]!.aC).getD 0) ((ei p.t10 p.eC[zQ p.t33[zQ p.t35]!]!.au).getD 0)]) p.b7.aH))else J else J else J else J else J else e1
def La(p:uo):af (af uo):=
 FC p fW dy
def K7:=bX (La)
abbrev aC4:=cz×Int×(aa Int)×(aa bu)×ga×cR×Bool
def d243:Td 5 aC4:= .c [1] [6,7] (.r 5 7 (ec 6 (qp 5 0) (ec 7 aU en)) (sb 0 296 (lc (qo 6) Nf) (sr 2 113 (sm 3 .k1 .i (sm 4 .k3 .i (sb 5 42 (lg 42) (sr 6 3 sn)))))) (λz=>(z.q.2.1,z.1.2.1,z.q.t.1,z.t.1,z.t.2.1,z.q.1,z.2.1.q.1)) (λx=>(((),x.2.1,()),(((),(),(),(),x.q.t,()),x.t.2.1,x.q.1,x.q.2.1,x.1,x.t.1,()))))
def aLs:=w6_
def ajc(a1:Int)(a2:Int)(bt:aa Int)(eC:aa bu)(jv:ga)(jx:cR)(jW:Bool):af aC4:=
 match agV a2 bt eC jv jx jW with|J=>J|M r1=>bif w9 (4096<(zZ r1.fst:Int))then M ((cz.mk 0 [] (0),4,r1.snd.snd))else match vp 0 r1.snd.snd.fst r1.snd.snd.snd.fst r1.snd.snd.snd.snd.fst r1.snd.snd.snd.snd.snd.fst r1.snd.snd.snd.snd.snd.snd with|J=>J|M r2=>match vp 1 r2.snd.fst r2.snd.snd.fst r2.snd.snd.snd.fst r2.snd.snd.snd.snd.fst r2.snd.snd.snd.snd.snd with|J=>J|M r3=>bif bif w9 (r2.fst=r3.fst)then O else Z then bif bif bif bif w9 (r2.fst=r3.fst)then O else Z then bif w9 (r3.fst=r2.fst)then O else Z else O then Z else O then match K7 (uo.mk a2 [(r2.fst,0),(r3.fst,1)] r1.fst (zZ r1.fst) 0 r3.snd.fst r3.snd.snd.fst r3.snd.snd.snd.fst r3.snd.snd.snd.snd.fst r3.snd.snd.snd.snd.snd (cz.mk 0 [] (0)) (cz.mk a1 [] (0)))with|J=>J|M r4=>FC r4 (λ_=>J) (M ((cz.mk r4.b7.ah r4.b7.aD ((ei r4.t10 r4.t2).getD 0),0,r4.bt,r4.eC,r4.jv,r4.jx,r4.jW)))else J else J
def aLr:aT->aT:=eY va 243 5 (lc (qp 0 0) uS) aLs d243 (λg=>ajc g.1.2.1 g.1.t.1 g.t.1 g.t.2.1 g.q.1 g.q.2.1 g.2.1.q.1)
def anE:EO aLr:=λh=>kY (an:=(cA 5 (.two (noTwo (QT.lp K7 .no)) .no))) (l:=[(bz f243 0,(QT.lp K7 .no))]) func243 (U1 (lU aP)) (aA (aO QT) az) h
abbrev azF:=Int×Int
def d241:Td 1 azF:= .c [] [3] (.r 1 1 (ec 3 aU en) (sb 0 3 gY sn) (λz=>(z.1.1,z.2.1.1)) (λx=>((x.1,()),((x.2,()),()))))
def aLJ:=(sb 0 3 gY sn)
def afg(a0_0:Int)(a0_1:Int)(a0_2:Int)(bt:Int):azF:=
 (Mu (w9 (a0_0=bt)),bt)
def aCP:aT->aT:=eY va 241 1 (lc (qa OX) AN) aLJ d241 (λg=>M (afg g.1.1.1 g.1.1.2.1 g.1.1.t.1 g.2.1.1))
def ajd:EO aCP:=λh=>kY (an:= .no) func241 (DB aP) az h
abbrev afU:=Int×cR×aq×(aa Int)×(aa bu)×ga×cR×Bool×Int
def aoU:Td 12 afU:= .c [8,9] [7] (.r 12 14 (ec 7 aU en) (sb 0 327 (lc (qo 5) ln) (sb 1 136 Fc (sb 2 239 uT (sb 3 226 (lc (qf 241 Ec) ln) (sb 4 226 MM (sm 5 .k3 .i (sb 6 296 (lc (qo 12) (lc (qo 13) ajz)) (sb 7 3 gY aEu)))))))) (λz=>(z.1.1,z.q.t.1,z.t.1.1.1,z.q.q.t.2.1,z.q.q.q.1,z.q.q.2.1,z.q.q.t.1,z.q.t.2.1.q.1,z.q.q.1.1)) (λx=>((x.1,()),(((),()),((x.t.1,()),()),((),()),(((),()),()),(((),(),(),(),(),()),()),x.2.1,((),(),(),(),x.q.t.2.1,()),(x.q.q,()),x.q.2.1,x.q.t.1,x.t.2.1,x.q.1,()))))
def aqh:=ZX
def arF:=(sb 0 327 (lc (qo 5) ln) (sb 1 136 Fc (sb 2 239 uT (sb 3 226 (lc (qf 241 Ec) ln) (sb 4 226 MM (sm 5 .k3 .i (sb 6 296 (lc (qo 8) (lc (qo 9) ajz)) (sb 7 3 gY aFO))))))))
abbrev sk:Type:=Int->Int->Int->cR->aq->(aa Int)->(aa bu)->ga->cR->Bool->Int->af afU
def afv(zf:sk):aT->aT:=eY va 263 12 aqh arF aoU (λg=>zf g.1.1.1 g.1.1.2.1 g.1.1.2.2.1 g.2.2.2.2.2.2.1 g.2.2.1.1.1 g.2.2.2.2.2.2.2.2.2.1 g.2.2.2.2.2.2.2.2.2.2.1 g.2.2.2.2.2.2.2.2.2.2.2.1 g.2.2.2.2.2.2.2.2.2.2.2.2.1 g.2.2.2.2.2.2.2.1.2.2.2.2.1 g.2.2.2.2.2.2.2.2.1.1)
def VA(zf:sk):Prop:=HY va 263 12 aqh arF aoU (λg=>zf g.1.1.1 g.1.1.2.1 g.1.1.2.2.1 g.2.2.2.2.2.2.1 g.2.2.1.1.1 g.2.2.2.2.2.2.2.2.2.1 g.2.2.2.2.2.2.2.2.2.2.1 g.2.2.2.2.2.2.2.2.2.2.2.1 g.2.2.2.2.2.2.2.2.2.2.2.2.1 g.2.2.2.2.2.2.2.1.2.2.2.2.1 g.2.2.2.2.2.2.2.2.1.1)
def Ny{zf:sk}(hM:VA zf):EO (afv zf):=gi hM ⟨_,func263,aL,aL⟩ (λ_=>aL)
def aqj(M263L:sk):aT:=(afv M263L (HO (aCP (Sl (Jo (Th (SM dz)))))))
def aek{M263L}(h263L:VA M263L):bK va (aqj M263L):=(Ny h263L (gW (ajd (rH (lP (oB (lU aP)))))))
def atd(M263L:sk):An:= .no
def auk(M263L:sk):dB va (aqj M263L) 12 300 263 (atd M263L):=bF (l:=[]) func263 (aY aL) aL az
def DM(M263L:sk)(a0_0:Int)(a0_1:Int)(a0_2:Int)(bt:cR)(b1_0_0:aq)(b6_0:aa Int)(b6_1:aa bu)(b6_2:ga)(b6_3:cR)(b6_4:Bool)(b7_0:Int):af afU:=
 bif(ei bt (a0_0,a0_1,a0_2)).isSome then M (((ei bt (a0_0,a0_1,a0_2)).getD 0,bt,b1_0_0,b6_0,b6_1,b6_2,b6_3,b6_4,b7_0))else match jL b1_0_0 a0_0 with|J=>J|M r1=>bif w9 ((eW r1 b1_0_0.ah)=b1_0_0.ah)then if 0<=a0_0/\a0_0<zZ b1_0_0.aG then match vp (afg b1_0_0.aG[a0_0.toNat]! (0) 0 b7_0).fst b6_0 b6_1 b6_2 b6_3 b6_4 with|J=>J|M r2=>M ((r2.fst,gB bt (a0_0,a0_1,a0_2) r2.fst,b1_0_0,r2.snd.fst,r2.snd.snd.fst,r2.snd.snd.snd.fst,r2.snd.snd.snd.snd.fst,r2.snd.snd.snd.snd.snd,(afg b1_0_0.aG[a0_0.toNat]! (0) 0 b7_0).snd))else J else match lJ b1_0_0 a0_0 (eW r1 b1_0_0.ah) O with|J=>J|M r3=>match lJ b1_0_0 a0_0 (eW r1 b1_0_0.ah) Z with|J=>J|M r4=>match M263L r3 0 0 bt b1_0_0 b6_0 b6_1 b6_2 b6_3 b6_4 b7_0 with|J=>J|M r5=>match M263L r4 0 0 r5.snd.fst r5.snd.snd.fst r5.snd.snd.snd.fst r5.snd.snd.snd.snd.fst r5.snd.snd.snd.snd.snd.fst r5.snd.snd.snd.snd.snd.snd.fst r5.snd.snd.snd.snd.snd.snd.snd.fst r5.snd.snd.snd.snd.snd.snd.snd.snd with|J=>J|M r6=>match He (eW r1 b1_0_0.ah) r5.fst r6.fst r6.snd.snd.snd.fst r6.snd.snd.snd.snd.fst r6.snd.snd.snd.snd.snd.fst r6.snd.snd.snd.snd.snd.snd.fst r6.snd.snd.snd.snd.snd.snd.snd.fst with|J=>J|M r7=>M ((r7.fst,gB r6.snd.fst (a0_0,a0_1,a0_2) r7.fst,r6.snd.snd.fst,r7.snd.fst,r7.snd.snd.fst,r7.snd.snd.snd.fst,r7.snd.snd.snd.snd.fst,r7.snd.snd.snd.snd.snd,r6.snd.snd.snd.snd.snd.snd.snd.snd))
def tI:Nat->sk
 |0=>(λ_ _ _ _ _ _ _ _ _ _ _=>J)
 |n+1=>(DM (tI n))
def aeg(n:Nat):sk:=(tI n)
def Jf:∀n,VA (aeg n)
 |0=>λ_ _ h=>(by cases h)
 |n+1=>gZ (aek (Jf n)) (auk (aeg n)) (λ_=>aL) (λ_=>aL) (λ_=>aL) λ_=>aL
def Ya:sk:=λa0_0 a0_1 a0_2 bt b1_0_0 b6_0 b6_1 b6_2 b6_3 b6_4 b7_0=>lim (λn=>aeg n a0_0 a0_1 a0_2 bt b1_0_0 b6_0 b6_1 b6_2 b6_3 b6_4 b7_0)
def agN:VA Ya:=λg b h=>(bW h).elim λn=>Jf n g b
def aEq(F:aT):aT:=afv Ya F
def agF:EO aEq:=Ny agN
abbrev aBK:=cz×Int
def d184:Td 0 aBK:= .c [] [4,5] (.r 0 1 (ec 4 (qp 0 0) (ec 5 aU en)) (sb 0 42 (lg 42) sn) (λz=>(z.2.1,z.1.2.1)) (λx=>(((),x.2,()),(x.1,()))))
def aa5(a0:aq)(a1:Int):af aBK:=
 match Ta [a0]with|J=>J|M r1=>bif bif w9 (r1=0)then O else Z then M ((cz.mk (0) [] (0),r1))else match Ya a0.aH (0) (0) [] a0 fQ.fst fQ.snd.fst fQ.snd.snd.fst fQ.snd.snd.snd.fst fQ.snd.snd.snd.snd a1 with|J=>J|M r2=>match ajc a0.ah r2.fst r2.snd.snd.snd.fst r2.snd.snd.snd.snd.fst r2.snd.snd.snd.snd.snd.fst r2.snd.snd.snd.snd.snd.snd.fst r2.snd.snd.snd.snd.snd.snd.snd.fst with|J=>J|M r3=>M ((r3.fst,r3.snd.fst))
def aHP:aT->aT:=eZ va 184 agx d184 (λg=>aa5 g.1 g.2.1)
def Yk:EO aHP:=λh=>kZ (an:= .no) func184 (iS (p:=(λf=>zg f 149||zg f 156||zg f 243||zg f 263)) (agF (gW (anE (nY (CT aP)))))) az h
def B12:aT:=apy (apt (arC (ao4 (ap0 (ao0 (abf (afn (an2 (e89 (e92 dz))))))))))
def aed:bK va B12:=ag9 (aeJ (ahj (agf (agq (af7 (vJ (uW (oq (akS aK4 (awW aP))))))))))
def t12:oK va B12 (λf=>zg f 178||zg f 134||zg f 184||zg f 145||zg f 148||zg f 117||zg f 210||zg f 151||zg f 292||zg f 89||zg f 92) 300 60 Bool 12 [] [] 0 (abk asB)=M Z:=aL
abbrev E12:=Bool
def d12:Td 0 E12:=iu 0
def A12:=ln
def m12:E12:=Z
def aBt:Prop:=HL va 12 A12 d12 (λ_=>M m12)
def e12:=eL va 12 O A12 d12 (λ_=>M m12)
def ajA(hv:aBt){F:aT}(h:bK va F):bK va (e12 F):=fI (sc:=sB) dQ hv ⟨_,func12,aL,aL⟩ (λ_=>aL) (λ_=>aL) h
def SU{P:Program}{f:FuncId}{xs:aa AV}{d:AV}(h:Iv.Fn P f xs [] (λa s=>a=d/\s=[]))(ha:∀ρ:Gh,xs.map (bU.sub ρ)=xs)(hd:∀ρ:Gh,d.sub ρ=d):Ht P f xs [] 0 ⟨d,[],0⟩:=λρ=>by
 rw[ha ρ];exact h.mono λa s ⟨h1,h2⟩=>⟨ρ,λ_ _=>⟨rfl,rfl⟩,by rw[h1];exact(hd ρ).symm,by rw[h2];exact List.Perm.refl _⟩
def awv:eN va 12 0 (d12.pat m12)=⟨.b Z,[],0⟩:=aL
def aLG:aBt:=λg b hb=>by
 cases hb;rw[awv];exact SU (abv (nD (P:=va) aed.ok aed.nat 300 60) P0.b rfl (λd hd=>by cases hd) t12).2 (λ_=>rfl) (λρ=>jK 2 aL)
end Go.Proofs.YtghilkcphindjaaGreat
namespace Go.Proofs.YtghilkcphindjaaGreat
open Go Go.Iv BT
def tm0(k:Nat):((2*(k:Int)).tmod 2=0)/\((2*(k:Int)).tdiv 2=(k:Int)):=by
 rw[Int.tmod_eq_emod_of_nonneg aj,Int.tdiv_eq_ediv_of_nonneg aj];constructor<;>omega
def tm1(k:Nat):((2*(k:Int)+1).tmod 2=1)/\((2*(k:Int)+1).tdiv 2=(k:Int)):=by
 rw[Int.tmod_eq_emod_of_nonneg aj,Int.tdiv_eq_ediv_of_nonneg aj];constructor<;>omega
open Classical in
def alc(b:Bd)(k:Nat)(r:Int)(S:aa (Int×Bool))(lv nd:aa Int):af (aa (Int×Bool)×aa Int×aa Int):=match Gf k r S lv nd b.L b.N b.mL b.mN b.w with
 |some x=>if x.2.2.2=(b.L,b.N,b.mL,b.mN,b.w)then M (x.1,x.2.1,x.2.2.1)else J
 |none=>J
def C7{b:Bd}{k:Nat}{r:Int}{S:aa (Int×Bool)}{lv nd:aa Int}{x:aa (Int×Bool)×aa Int×aa Int}:alc b k r S lv nd=M x↔Gf k r S lv nd b.L b.N b.mL b.mN b.w=M (x.1,x.2.1,x.2.2,b.L,b.N,b.mL,b.mN,b.w):=by
 unfold alc;constructor
 ·intro h;split at h
  ·rename_i y hy;split at h
   ·rename_i hb;cases h;rw[hy];obtain⟨y1,y2,y3,y4⟩:=y;simp only at hb;rw[hb]
   ·cases h
  ·cases h
 ·intro h;rw[h];simp
def get_some{α:Type}[Inhabited α]{l:aa α}{k:Nat}{x:α}(h:l[k]? =M x):k<zZ l/\l[k]! =x:=by
 obtain⟨h1,h2⟩:=zU.1 h;exact⟨h1,by rw[getElem!_pos l k h1];exact h2⟩
def an1{b:Bd}(hb:zZ b.L+zZ b.N<4000000000000000000):OK1 b.g (alc b) where
 hit:=λk r S lv nd h=>by
  rw[C7];show Q9 (Gf k) r S lv nd b.L b.N b.mL b.mN b.w=_;unfold Q9;rw[h];rfl
 leaf:=λk r S lv nd x h hr hl=>by
  rw[C7];show Q9 (Gf k) r S lv nd b.L b.N b.mL b.mN b.w=_;obtain⟨i,rfl,hi⟩:=iN.1 hr;obtain⟨h1,h2⟩:=get_some hi;unfold Q9;rw[h,(tm0 i).1,(tm0 i).2,aI];simp only[dP,mG];rw[bO (by simp;omega),show 2*(i:Int)/2=i by omega]
 node:=λk r S lv nd v p q S1 lv1 nd1 S2 lv2 nd2 h hr w1 w2 hn=>by
  rw[C7]at w1 w2 ⊢;show Q9 (Gf k) r S lv nd b.L b.N b.mL b.mN b.w=_;obtain⟨i,rfl,hi⟩:=jF.1 hr;obtain⟨h1,h2⟩:=get_some hi;unfold Q9;rw[h,(tm1 i).1,(tm1 i).2,aI];simp only[fO,zw,h2];rw[show (w9 ((1:Int)=0))=O from rfl];simp only[fO];rw[Dx,bO ⟨trivial,h1⟩,w1];simp only;rw[w2];simp only;rw[bO (by simp;omega),show (2*(i:Int)+1)/2=i by omega]
def anU{b:Bd}{r:Int}{S:aa (Int×Bool)}{lv nd:aa Int}{x:aa (Int×Bool)×aa Int×aa Int}(n:Nat)(h:∀k,n<=k->alc b k r S lv nd=M x):anr r S lv nd b.L b.N b.mL b.mN b.w=M (x.1,x.2.1,x.2.2,b.L,b.N,b.mL,b.mN,b.w):=
 dc n λk hk=>C7.1 (h k hk)
def aiJ{b:Bd}(hG:b.g.Inj)(hb:zZ b.L+zZ b.N<4000000000000000000):∀{t:BT} {r:Int},Den b.g r t->∀{P:aa BT} {S:aa (Int×Bool)},(∀u∈P,t.sz<u.sz)->SO b.g [] P S->zZ (bN (bw t []))<=1000000000->zZ (lC (bw t []))<=1000000000->∃S',SO b.g (bw t []) P S'/\∀k,t.sz<=k->D9 k r S b.L b.N b.mL b.mN b.w=M (S',ixs b.g (lC (bw t [])),ixs b.g (bN (bw t [])),b.L,b.N,b.mL,b.mN,b.w):=by
 have hfalse:∀{t:BT} {r:Int},Den b.g r t->∀{P:aa BT} {S:aa (Int×Bool)},(∀u∈P,t.sz<u.sz)->SO b.g [] P S->(ei S r).getD O=O:=by
  intro t r hd P S hP hS;cases e:(ei S r).getD false with
  |false=>rfl
  |true=>
   rcases (hS r t hd).1 e with h|h
   ·cases h
   ·have:=hP t h;omega
 intro t;induction t with
 |leaf x=>
  intro r hd P S hP hS hn hl;have hf:=hfalse hd hP hS;have hrf:=qe hG hd;have hde:bw (.leaf x) []=[.leaf x]:=rfl;refine⟨gB S r Z,?_,λk hk=> ?_⟩
  ·intro r' u hu;rw[eG];by_cases e:r'=r
   ·subst e;have:=hu.oU hd;subst this;simp[hde]
   ·have hne:u≠ .leaf x:=λe2=>e (by subst e2;exact hu.inj hG hd);rw[bP e,hS r' u hu];simp[hde,hne]
  ·obtain⟨k,rfl⟩:∃j,k=j+1:=⟨k-1,by simp only[sz]at hk;omega⟩;cases hd with
   |leaf hr=>
    show Oo (D9 k) r S b.L b.N b.mL b.mN b.w=_;obtain⟨i,rfl,hi⟩:=iN.1 hr;obtain⟨h1,h2⟩:=get_some hi;unfold Oo;rw[hf,(tm0 i).1,(tm0 i).2,aI,hde];simp only[dP,mG];rw[show lC [BT.leaf x]=[.leaf x]from rfl,show bN [BT.leaf x]=[]from rfl];simp only[ixs,zI,yx,hrf];rw[show 2*(i:Int)/2=i by omega]
 |node v p0 q0 ia ib=>
  intro r hd P S hP hS hn hl;have hf:=hfalse hd hP hS;have hrf:=qe hG hd;cases hd with
  |@node _ _ p q _ _ hr hp hq=>
   have hd':Den b.g r (.node v p0 q0):= .node hr hp hq;have hnin:BT.node v p0 q0∉bw q0 (bw p0 []):=λhx=>by
    rcases gx hx with hx|hx
    ·rcases gx hx with hx|hx
     ·cases hx
     ·have:=hx.sC;simp only[sz]at this;omega
    ·have:=hx.sC;simp only[sz]at this;omega
   have hde:bw (.node v p0 q0) []=bw q0 (bw p0 [])++[.node v p0 q0]:=by
    conv=>lhs;unfold bw
    rw[bP hnin]
   have hnl:zZ (bN (bw (.node v p0 q0) []))=zZ (bN (bw q0 (bw p0 [])))+1:=by
    rw[hde,fA,zu];rfl
   have hll:zZ (lC (bw (.node v p0 q0) []))=zZ (lC (bw q0 (bw p0 []))):=by
    rw[hde,vT]
   have hc0:Cl []:=λm v a b k e=>by cases m<;>cases e
   have hc1:=fe p0 hc0;have p1:=MG q0 (bw p0 []);have p2:=ag8 q0 (bw p0 []);have hS0:SO b.g [] (.node v p0 q0::P) (gB S r Z):=by
    intro r' u hu;rw[eG];by_cases e:r'=r
    ·subst e;have:=hu.oU hd';subst this;simp
    ·have hne:u≠ .node v p0 q0:=λe2=>e (by subst e2;exact hu.inj hG hd');rw[bP e,hS r' u hu];simp[hne]
   have hPP:∀w:BT,w.sz<=p0.sz+q0.sz->∀u∈BT.node v p0 q0::P,w.sz<u.sz:=λw hw u hu=>by
    rcases zk.1 hu with h|h
    ·rw[h];simp only[sz];omega
    ·have:=hP u h;simp only[sz]at this;omega
   obtain⟨S1,hS1,w1⟩:=ia hp (hPP p0 aj) hS0 aj aj;obtain⟨S2,hS2,w2⟩:=atu hG (an1 hb) hq hc1 (hPP q0 aj) hS1 aj aj;have w2':=anU _ w2;refine⟨S2,?_,λk hk=> ?_⟩
   ·intro r' u hu;rw[hS2 r' u hu,hde];simp only[zk,zR,yD,or_false,or_assoc]
   ·obtain⟨k,rfl⟩:∃j,k=j+1:=⟨k-1,by simp only[sz]at hk;omega⟩;simp only[sz]at hk;show Oo (D9 k) r S b.L b.N b.mL b.mN b.w=_;obtain⟨i,rfl,hi⟩:=jF.1 hr;obtain⟨h1,h2⟩:=get_some hi;unfold Oo;rw[hf,(tm1 i).1,(tm1 i).2,aI];simp only[fO,zw,h2];rw[show (w9 ((1:Int)=0))=O from rfl];simp only[fO];rw[Dx,bO ⟨trivial,h1⟩,w1 k aj];simp only;rw[w2'];simp only;rw[bO (by simp only[zu,y8,iz];omega),hde,vT,fA,LX];simp only[ixs,zI,yx,hrf];rw[show (2*(i:Int)+1)/2=i by omega]
structure iG (n:Int) (t:BT) (d:aq):Prop where
 v:d.ah=n
 asc:Asc d.aG
 mem:∀x,x∈d.aG↔BT.leaf x∈bw t []
 nodes:d.aD=iD d.aG (bN (bw t []))
 root:d.aH=num d.aG (bN (bw t [])) t
def iG.eq{n:Int}{t:BT}{d d':aq}(h:iG n t d)(h':iG n t d'):d=d':=by
 have e:d.aG=d'.aG:=Us h.asc h'.asc λx=>(h.mem x).trans (h'.mem x).symm;obtain⟨v,L,N,r⟩:=d;obtain⟨v',L',N',r'⟩:=d';have h1:=h.v;have h2:=h.nodes;have h3:=h.root
 have h1':=h'.v;have h2':=h'.nodes;have h3':=h'.root
 simp only at e h1 h2 h3 h1' h2' h3';subst e h1 h1' h2 h2' h3 h3';rfl
def vB{G:Gr}{u:BT}:∀{t:BT} {r:Int},Den G r t->u.Sub t->∃r',Den G r' u
 | .leaf x,r,hd,h=>by rw[h];exact⟨r,hd⟩
 | .node v a b,r,hd,h=>by
  cases hd with
  |node h1 ha hb=>
   rcases h with h|h|h
   ·rw[h];exact⟨r, .node h1 ha hb⟩
   ·exact vB ha h
   ·exact vB hb h
def mc:Cl []:=λm v a b k e=>by cases m<;>cases e
def aiU{l:aa BT}{u:BT}(h:u∈lC l):∃x,u= .leaf x/\BT.leaf x∈l:=by
 obtain⟨h1,h2⟩:=K9.1 h;cases u with
 |leaf x=>exact⟨x,rfl,h1⟩
 |node v a b=>cases h2
def Jr{l:aa BT}{u:BT}(h:u∈bN l):∃v a b,u= .node v a b/\BT.node v a b∈l:=by
 obtain⟨h1,h2⟩:=dL.1 h;cases u with
 |leaf x=>cases h2
 |node v a b=>exact⟨v,a,b,rfl,h1⟩
def Fp{l:aa BT}(hc:Cl l)(hn:l.Nodup){v:Int}{a b c:BT}(h:BT.node v a b∈l)(hp:c=a\/c=b)(hi:c.QA=Z):c∈bN l/\(bN l).idxOf c<(bN l).idxOf (.node v a b):=by
 obtain⟨m,k,e⟩:=List.append_of_mem h;obtain⟨ha,hb⟩:=hc m v a b k e;have hcm:c∈m:=by rcases hp with rfl|rfl<;>assumption
 have hcn:c∈bN m:=dL.2 ⟨hcm,hi⟩;have hnm:BT.node v a b∉bN m:=λhx=>by
  have h1:=(dL.1 hx).1;rw[e,yH]at hn;exact hn.2.2 _ h1 _ zm rfl
 have he:bN l=bN m++bN (BT.node v a b::k):=by rw[e,Bh]
 rw[he];refine⟨ye _ hcn,?_⟩;rw[wB,wB,bO hcn,bP hnm];have:=yz hcn;omega
def uG{α:Type}[DecidableEq α][Inhabited α]{l:aa α}(hn:l.Nodup){i:Nat}(h:i<zZ l):l.idxOf l[i]! =i:=by
 have h1:l.idxOf l[i]! <zZ l:=by
  rw[getElem!_pos l i h];exact yz (yR h)
 have h2:l[l.idxOf l[i]!]'h1=l[i]:=by
  have:=List.getElem_idxOf h1;rw[this,getElem!_pos l i h]
 exact(List.getElem_inj hn).1 h2
instance:Inhabited BT:=⟨.leaf 0⟩
def take_succ!{α:Type}[Inhabited α]{l:aa α}{i:Nat}(h:i<zZ l):l.take (i+1)=l.take i++[l[i]!]:=by
 rw[List.take_add_one,getElem!_pos l i h,zD h];rfl
def map_get!{α β:Type}[Inhabited α][Inhabited β](f:α->β){l:aa α}{i:Nat}(h:i<zZ l):(l.map f)[i]! =f l[i]! :=by
 rw[getElem!_pos (l.map f) i (by simpa using h),getElem!_pos l i h,yy]
structure aHG (b:Bd) (l:List BT) (SL:List Int):Prop where
 len:zZ SL=zZ (lC l)
 rng:∀i∈SL,0<=i/\i<(zZ b.L:Int)
 nd:SL.Nodup
 asc:Asc (SL.map λi=>b.L[i.toNat]!)
 mem:∀x,x∈(SL.map λi=>b.L[i.toNat]!)↔BT.leaf x∈l
def NF{P:Int->Prop}(hPr:∀x,P x-> -1099511627776<=x/\x<=1099511627776){b:Bd}(hb:BI P b)(hs:zZ b.L+zZ b.N<=1000000000){t:BT}{r:Int}(hd:Den b.g r t)(hN:zZ (bN (bw t []))<=1000000)(hL:zZ (lC (bw t []))<=1000000):∃SL,agV r b.L b.N b.mL b.mN b.w=M (ixs b.g (bN (bw t [])),SL,b.L,b.N,b.mL,b.mN,b.w)/\aHG b (bw t []) SL:=by
 have hG:=hb.inj;obtain⟨S',hS',w⟩:=aiJ hG aj hd (P:=[]) (S:=[]) (λu hu=>by cases hu) (λr u _=>by simp[kr]) aj aj;have w':Xv r [] b.L b.N b.mL b.mN b.w=M (S',ixs b.g (lC (bw t [])),ixs b.g (bN (bw t [])),b.L,b.N,b.mL,b.mN,b.w):=dc _ w;have hlf:∀u∈lC (bw t []),∃x k,u= .leaf x/\rf b.g u=2*((k:Nat):Int)/\b.L[k]? =M x:=λu hu=>by
  obtain⟨x,rfl,hx⟩:=aiU hu;rcases gx hx with h|h
  ·cases h
  ·obtain⟨r',hr'⟩:=vB hd h;have h3:=qe hG hr';cases hr' with
   |leaf h4=>
    obtain⟨k,rfl,h5⟩:=iN.1 h4;exact⟨x,k,rfl,h3,h5⟩
 have hnd:(bw t []).Nodup:=qC t xg;have hlnd:(lC (bw t [])).Nodup:=hnd.sublist wM;have hixr:∀i∈ixs b.g (lC (bw t [])),0<=i/\i<(zZ b.L:Int):=λi hi=>by
  obtain⟨u,hu,rfl⟩:=zC.1 hi;obtain⟨x,k,rfl,h1,h2⟩:=hlf u hu;have:=(get_some h2).1;rw[h1];omega
 have hLn:b.L.Nodup:=by
  rw[x9,wN];intro i j hi hj hij e;have h1:=(hb.l b.L[i] i).2 ⟨i,rfl,zD hi⟩;have h2:=(hb.l b.L[i] j).2 ⟨j,rfl,by rw[zD hj,e]⟩;rw[h1]at h2;simp only[zJ.injEq]at h2;omega
 have hixn:(ixs b.g (lC (bw t []))).Nodup:=by
  unfold ixs;rw[x9,List.pairwise_map];refine List.Pairwise.imp_of_mem ?_ hlnd;intro u u' hu hu' hne e;obtain⟨x,k,rfl,h1,h2⟩:=hlf u hu;obtain⟨x',k',rfl,h1',h2'⟩:=hlf u' hu';rw[h1,h1']at e;have:k=k':=aj;subst this;rw[h2]at h2';cases h2';exact hne rfl
 have hok:VU (ixs b.g (lC (bw t []))) b.L=Z:=by
  unfold VU;simp only[zh,decide_eq_true_eq,zn];refine⟨⟨⟨by rw[iz];omega,λx hx=>hixr x hx⟩,λx hx=> ?_⟩,hLn⟩;have:=hPr x (hb.P x hx);omega
 refine⟨mK (ixs b.g (lC (bw t []))) b.L,?_,?_⟩
 ·unfold agV ZQ;rw[w'];simp only;rw[bO hok]
 ·have hp:(mK (ixs b.g (lC (bw t []))) b.L).Perm (ixs b.g (lC (bw t []))):=List.mergeSort_perm _ _;have hrng:∀i∈mK (ixs b.g (lC (bw t []))) b.L,0<=i/\i<(zZ b.L:Int):=λi hi=>hixr i (hp.mem_iff.1 hi);have hsn:(mK (ixs b.g (lC (bw t []))) b.L).Nodup:=hp.nodup_iff.2 hixn;have hsr:(mK (ixs b.g (lC (bw t []))) b.L).Pairwise λx y=>(w9 (b.L[x.toNat]!<=b.L[y.toNat]!))=Z:=List.pairwise_mergeSort (λa b c h1 h2=>by simp only[decide_eq_true_eq]at*;omega) (λa b=>by simp only[yO,decide_eq_true_eq];omega) _;refine⟨by rw[hp.length_eq,iz],hrng,hsn,?_,λx=> ?_⟩
  ·unfold Asc;rw[List.pairwise_map];refine List.Pairwise.imp_of_mem ?_ (List.pairwise_and_iff.2 ⟨hsr,x9.1 hsn⟩);intro i j hi hj ⟨h1,h2⟩;have r1:=hrng i hi;have r2:=hrng j hj;simp only[decide_eq_true_eq]at h1;have:b.L[i.toNat]!≠b.L[j.toNat]! :=λe=>by
    rw[getElem!_pos b.L _ aj,getElem!_pos b.L _ aj]at e;have:=(List.getElem_inj hLn).1 e;omega
   omega
  ·constructor
   ·intro hx;obtain⟨i,hi,rfl⟩:=zC.1 hx;obtain⟨u,hu,rfl⟩:=zC.1 (hp.mem_iff.1 hi);obtain⟨x,k,rfl,h1,h2⟩:=hlf u hu;rw[h1,show (2*(k:Int)/2).toNat=k by omega,(get_some h2).2];exact(K9.1 hu).1
   ·intro hx;have hu:BT.leaf x∈lC (bw t []):=K9.2 ⟨hx,rfl⟩;obtain⟨x',k,e,h1,h2⟩:=hlf _ hu;cases e;refine zC.2 ⟨rf b.g (.leaf x)/2,hp.mem_iff.2 (zC.2 ⟨_,hu,rfl⟩),?_⟩;rw[h1,show (2*(k:Int)/2).toNat=k by omega,(get_some h2).2]
def mem_get!{α:Type}[Inhabited α]{l:aa α}{i:Nat}(h:i<zZ l):l[i]!∈l:=by
 rw[getElem!_pos l i h];exact yR h
def nd_get!{α:Type}[Inhabited α]{l:aa α}(hn:l.Nodup){i j:Nat}(hi:i<zZ l)(hj:j<zZ l)(h:l[i]! =l[j]!):i=j:=by
 rw[getElem!_pos l i hi,getElem!_pos l j hj]at h;exact(List.getElem_inj hn).1 h
def kE{P:Int->Prop}(hPr:∀x,P x->kH x=Z/\ -1099511627776<=x/\x<=1099511627776){b:Bd}(hb:BI P b)(hs:zZ b.L+zZ b.N<=1000000000){t:BT}{r n:Int}(hd:Den b.g r t)(hN:zZ (bN (bw t []))<=4096)(hL:zZ (lC (bw t []))<=4096):∃d,LM n r b.L b.N b.mL b.mN b.w=M (d,0,b.L,b.N,b.mL,b.mN,b.w)/\iG n t d:=by
 have hG:=hb.inj;have hw:b.w=O:=by
  cases e:b.w with
  |false=>rfl
  |true=>
   obtain⟨x,h1,h2⟩:=hb.w e;rw[(hPr x (hb.P x h1)).1]at h2;cases h2
 obtain⟨SL,ho,hO⟩:=NF (λx hx=>(hPr x hx).2) hb hs hd aj aj;have hcl:Cl (bw t []):=fe t mc;have hnd:(bw t []).Nodup:=qC t xg;have hNd:(bN (bw t [])).Nodup:=hnd.sublist wM;have hden:∀u∈bw t [],∃r',Den b.g r' u:=λu hu=>by
  rcases gx hu with h|h
  ·cases h
  ·exact vB hd h
 have hdr:∀u∈bw t [],Den b.g (rf b.g u) u:=λu hu=>by
  obtain⟨r',h⟩:=hden u hu;rw[qe hG h];exact h
 have hrt:rf b.g t=r:=qe hG hd;generalize hacc:bw t []=acc at*;have hta:t∈acc:=by rw[<-hacc];exact cv _ _
 generalize hVL:(SL.map λi=>b.L[i.toNat]!)=VL at*;have hasc:=hO.asc;have hmem:=hO.mem;rw[hVL]at hasc hmem;have hvn:zZ VL=zZ SL:=by rw[<-hVL,zF]
 have hLv:Lv VL acc:=λx hx=>(hmem x).2 hx;have hsl:=hO.len;have hSr:∀i,i<zZ SL->0<=SL[i]!/\SL[i]! <(zZ b.L:Int):=λi hi=>hO.rng _ (mem_get! hi);obtain⟨n0,e0,i0⟩:=cZ (rnd:=KN) (zZ SL) (λi (num:ga)=>⟨r,ixs b.g (bN acc),SL,num,SL,(zZ SL:Int),(i:Int),b.L,b.N,b.mL,b.mN,b.w,⟨0,[],[],0⟩,⟨n,VL.take i,[],0⟩⟩) (λi num=>∀j,j<i->ei num (2*SL[j]!)=M (j:Int)) (λi num hi hI=>by
  obtain⟨h1,h2⟩:=hSr i hi;have i1:(i:Int)<(zZ SL:Int):=aj;have i2:(0:Int)<=(i:Int):=aj;have i3:SL[i]!.toNat<zZ b.L:=aj;have hw2:ak ((i:Int)+1)=((i+1:Nat):Int):=jy hi aj;have hwk:ak (2*SL[i]!)=2*SL[i]! :=aI;have hv:b.L[SL[i]!.toNat]! =VL[i]! :=by rw[<-hVL,map_get! _ hi]
  have hlen:zZ (VL.take i++[VL[i]!])<=1073741824:=by simp;omega
  refine⟨gB num (2*SL[i]!) (i:Int),?_,λj hj=> ?_⟩
  ·unfold KN FN;simp only[dS,i1,i2,fZ,dx,hi,h1,h2,i3,hw2,hwk,hv,hlen];rw[take_succ! aj]
  ·rw[eG];by_cases e:j=i
   ·subst e;rw[bO rfl]
   ·rw[bP λh=>e (nd_get! hO.nd aj hi aj),hI j aj]) (λnum _=>by unfold KN FN;simp) (b:=[]) (λj hj=>aj)
 have e0':KT ⟨r,ixs b.g (bN acc),SL,[],SL,(zZ SL:Int),0,b.L,b.N,b.mL,b.mN,b.w,⟨0,[],[],0⟩,⟨n,[],[],0⟩⟩=M ⟨r,ixs b.g (bN acc),SL,n0,SL,(zZ SL:Int),(zZ SL:Int),b.L,b.N,b.mL,b.mN,b.w,⟨0,[],[],0⟩,⟨n,VL,[],0⟩⟩:=by
  have:VL.take SL.length=VL:=yU aj;rw[this]at e0;exact e0
 have hleaf:∀x,BT.leaf x∈acc->ei n0 (rf b.g (.leaf x))=M (num VL (bN acc) (.leaf x)):=λx hx=>by
  have hdx:=hdr _ hx;cases hdx with
  |leaf h=>
   obtain⟨k,e,hk⟩:=iN.1 h;have hxv:x∈VL:=(hmem x).2 hx;have hi:VL.idxOf x<zZ VL:=yz hxv;have hvi:VL[VL.idxOf x]! =x:=dU hxv;have hsi:SL[VL.idxOf x]! =(k:Int):=by
    obtain⟨h1,h2⟩:=hSr (VL.idxOf x) aj;have h3:b.L[SL[VL.idxOf x]!.toNat]! =x:=by rw[<-map_get! (λi:Int=>b.L[i.toNat]!) (by omega:VL.idxOf x<zZ SL),hVL,hvi]
    have h4:b.L[SL[VL.idxOf x]!.toNat]? =M x:=by
     rw[zD (by omega:SL[VL.idxOf x]!.toNat<zZ b.L),<-getElem!_pos b.L _ aj,h3]
    have h5:=(hb.l x _).2 ⟨_,rfl,h4⟩;rw[(hb.l x _).2 ⟨_,rfl,hk⟩]at h5;simp only[zJ.injEq]at h5;omega
   rw[e,<-hsi,i0 _ aj];rfl
 have hixl:∀i,i<zZ (bN acc)->∃v p q k,(bN acc)[i]! = .node v p q/\p∈acc/\q∈acc/\rf b.g (.node v p q)=2*((k:Nat):Int)+1/\b.N[k]? =M ⟨v,rf b.g p,rf b.g q⟩/\(ixs b.g (bN acc))[i]! =(k:Int):=λi hi=>by
  obtain⟨v,p,q,e,hm⟩:=Jr (mem_get! hi);obtain⟨hp,hq⟩:=hcl.parts hm;have hdx:=hdr _ hm;cases hdx with
  |@node _ _ a c _ _ h ha hc=>
   obtain⟨k,e2,hk⟩:=jF.1 h;refine⟨v,p,q,k,e,hp,hq,e2,by rw[qe hG ha,qe hG hc];exact hk,?_⟩;unfold ixs;rw[map_get! _ hi,e,e2];omega
 obtain⟨n1,e1,i1⟩:=cZ (rnd:=K0) (bN acc).length (λi (nu:ga)=>⟨r,SL,nu,ixs b.g (bN acc),(zZ (bN acc):Int),(i:Int),b.L,b.N,b.mL,b.mN,b.w,⟨0,[],[],0⟩,⟨n,VL,(iD VL (bN acc)).take i,0⟩⟩) (λi nu=>(∀x,BT.leaf x∈acc->ei nu (rf b.g (.leaf x))=M (num VL (bN acc) (.leaf x)))/\∀j,j<i->ei nu (rf b.g (bN acc)[j]!)=M ((zZ VL+j:Nat):Int)) (λi nu hi hI=>by
  obtain⟨v,p,q,k,e,hp,hq,hr,hk,hix⟩:=hixl i hi;have hm:BT.node v p q∈acc:=by rw[<-e];exact(dL.1 (mem_get! hi)).1
  obtain⟨hk1,hk2⟩:=get_some hk;have i1:(i:Int)<(zZ (bN acc):Int):=aj;have i1':(i:Int)<(zZ (ixs b.g (bN acc)):Int):=by rw[iz];exact i1
  have i2:(0:Int)<=(i:Int):=aj;have i3:i<zZ (ixs b.g (bN acc)):=by rw[iz];exact hi
  have i4:(0:Int)<=(k:Int):=aj;have i5:(k:Int)<(zZ b.N:Int):=aj;have hw2:ak ((i:Int)+1)=((i+1:Nat):Int):=jy hi aj;have hwk:ak (ak (2*(k:Int))+1)=2*(k:Int)+1:=by
   rw[aI (n:=2*(k:Int))];exact aI
  have hws:ak ((zZ SL:Int)+(i:Int))=((zZ VL+i:Nat):Int):=by
   rw[aI];omega
  have hnum:∀c,(c=p\/c=q)->ei nu (rf b.g c)=M (num VL (bN acc) c):=λc hc=>by
   cases c with
   |leaf x=>
    refine hI.1 x ?_;rcases hc with h|h
    ·rw[h];exact hp
    ·rw[h];exact hq
   |node v' p' q'=>
    obtain⟨h1,h2⟩:=Fp hcl hnd hm hc rfl;rw[<-e,uG hNd hi]at h2;have h3:=hI.2 _ h2;rw[dU h1]at h3;rw[h3];rfl
  have hfi:(iD VL (bN acc))[i]! =⟨v,num VL (bN acc) p,num VL (bN acc) q⟩:=by
   unfold iD;rw[map_get! _ hi,e];rfl
  have hfl:i<zZ (iD VL (bN acc)):=by rw[gT];exact hi
  have hlen:zZ ((iD VL (bN acc)).take i++[(⟨v,num VL (bN acc) p,num VL (bN acc) q⟩:bu)])<=1073741824:=by simp;omega
  refine⟨gB nu (2*(k:Int)+1) ((zZ VL+i:Nat):Int),?_,λx hx=> ?_,λj hj=> ?_⟩
  ·unfold K0 Fv;simp only[dS,i1,i1',i2,fZ,dx,i3,hix,i4,i5,hk1,hk2,hw2,hwk,hws,hnum p (.inl rfl),hnum q (.inr rfl),yE,hlen];rw[take_succ! hfl,hfi]
  ·rw[eG,bP,hI.1 x hx];intro h;have hdx:=hdr _ hx;rw[h]at hdx;cases hdx with
   |leaf h=>
    obtain⟨k',e,_⟩:=iN.1 h;omega
  ·rw[eG];by_cases e3:j=i
   ·subst e3;rw[e,hr,bO rfl]
   ·rw[bP,hI.2 j aj];intro h;rw[<-hr,<-e]at h;have h1:=hdr _ (dL.1 (mem_get! (by omega:j<zZ (bN acc)))).1;have h2:=hdr _ (dL.1 (mem_get! hi)).1;rw[h]at h1;exact e3 (nd_get! hNd aj hi (h1.oU h2))) (λnu _=>by unfold K0 Fv;simp) (b:=n0) ⟨hleaf,λj hj=>aj⟩
 have e1':Mp ⟨r,SL,n0,ixs b.g (bN acc),(zZ (ixs b.g (bN acc)):Int),0,b.L,b.N,b.mL,b.mN,b.w,⟨0,[],[],0⟩,⟨n,VL,[],0⟩⟩=M ⟨r,SL,n1,ixs b.g (bN acc),(zZ (bN acc):Int),(zZ (bN acc):Int),b.L,b.N,b.mL,b.mN,b.w,⟨0,[],[],0⟩,⟨n,VL,iD VL (bN acc),0⟩⟩:=by
  have:(iD VL (bN acc)).take (bN acc).length=iD VL (bN acc):=yU (by rw[gT];omega);rw[this]at e1;rw[iz];exact e1
 have hroot:ei n1 r=M (num VL (bN acc) t):=by
  rw[<-hrt];cases t with
  |leaf x=>exact i1.1 x hta
  |node v p q=>
   have hm:BT.node v p q∈bN acc:=dL.2 ⟨hta,rfl⟩;have:=i1.2 _ (yz hm);rw[dU hm]at this;exact this
 refine⟨⟨n,VL,iD VL (bN acc),num VL (bN acc) t⟩,?_,⟨rfl,hasc,by rw[hacc];exact hmem,by rw[hacc],by rw[hacc]⟩⟩;unfold LM FN Fv;rw[hw]at ho e0' e1' ⊢;have c1:w9 ((4096:Int)<(zZ SL:Int))=O:=gI;have c2:w9 ((4096:Int)<(zZ (ixs b.g (bN acc)):Int))=O:=iU (by rw[iz];omega);simp only[fO,ho,c1,c2,e0',zO,mF,e1',hroot,yE]
def Ll{L:aa Int}{N:aa bu}{r x:Int}(h:Gm L N r=M (.inl x)):0<=r/\r<(zZ L:Int)/\L[r.toNat]! =x:=by
 unfold Gm at h;split at h
 ·cases h
 split at h
 ·cases h;exact⟨aj,aj,rfl⟩
 split at h<;>cases h
def Kz{L:aa Int}{N:aa bu}{r v p q:Int}(h:Gm L N r=M (.inr (v,p,q))):(zZ L:Int)<=r/\r<(zZ L:Int)+(zZ N:Int)/\N[(r-(zZ L:Int)).toNat]! =⟨v,p,q⟩:=by
 unfold Gm at h;split at h
 ·cases h
 split at h
 ·cases h
 split at h
 ·cases h;exact⟨aj,aj,rfl⟩
 ·cases h
structure Arg (n:Int) (d:aq):Prop where
 v:d.ah=n
 s:zZ d.aG+zZ d.aD<=1000000000
abbrev aq.g(d:aq):Gr:=Gm d.aG d.aD
def fK{n:Int}{d:aq}(hd:Arg n d){r:Int}{u:BT}(h:Den d.g r u):jL d r=M (u.top n):=by
 have hs:=hd.s;unfold jL;cases h with
 |leaf h=>
  obtain⟨h1,h2,h3⟩:=Ll h;rw[l8 h2,hd.v];rfl
 |node h ha hb=>
  obtain⟨h1,h2,h3⟩:=Kz h;rw[gI,aI];simp only[fO];rw[Dx,h3];rfl
def fC{n:Int}{d:aq}(hd:Arg n d){r:Int}{u:BT}(h:Den d.g r u){v:Int}(hv:v<n)(hi:Bool):∃r',lJ d r v hi=M r'/\Den d.g r' (u.rT v hi):=by
 have hs:=hd.s;cases h with
 |leaf h=>
  have ht:jL d r=M n:=fK hd (.leaf h);unfold lJ;rw[ht];refine⟨r,?_, .leaf h⟩;have e:w9 (n=v)=O:=gI;simp only;rw[e];rfl
 |@node _ w p q s t h ha hb=>
  obtain⟨h1,h2,h3⟩:=Kz h;have ht:jL d r=M w:=fK hd (.node h ha hb);unfold lJ;rw[ht];simp only[rT];by_cases e:w=v
  ·rw[l8 e,bO e,aI];simp only[dP];rw[Dx,h3];cases hi
   ·exact⟨p,rfl,ha⟩
   ·exact⟨q,rfl,hb⟩
  ·rw[iU e,bP e];exact⟨r,rfl, .node h ha hb⟩
def jc{d:aq}{r x:Int}(h:Den d.g r (.leaf x)):0<=r/\r<(zZ d.aG:Int)/\d.aG[r.toNat]! =x:=by
 cases h with
 |leaf h=>exact Ll h
abbrev NR:Gr:=Gm [0] []
def kA{r:Int}{u:BT}(h:Den NR r u):r=0/\u= .leaf 0:=by
 cases h with
 |leaf h=>
  obtain⟨h1,h2,h3⟩:=Ll h;have:r=0:=by simp at h2;omega
  subst this;exact⟨rfl,by rw[<-h3];rfl⟩
 |node h=>
  obtain⟨h1,h2,h3⟩:=Kz h;simp at h1 h2;omega
def dI:Den NR 0 (.leaf 0):= .leaf rfl
def l6{x r:Int}{b b':Bd}(h:b.lf x=M (r,b')):vp x b.L b.N b.mL b.mN b.w=M (r,b'.L,b'.N,b'.mL,b'.mN,b'.w):=by
 unfold Bd.lf at h;obtain⟨y,h1,h2⟩:=zj.1 h;obtain⟨y1,y2,y3,y4,y5,y6⟩:=y;cases h2;exact h1
def uC{v p q r:Int}{b b':Bd}(h:b.nd v p q=M (r,b')):He v p q b.L b.N b.mL b.mN b.w=M (r,b'.L,b'.N,b'.mL,b'.mN,b'.w):=by
 unfold Bd.nd at h;obtain⟨y,h1,h2⟩:=zj.1 h;obtain⟨y1,y2,y3,y4,y5,y6⟩:=y;cases h2;exact h1
end Go.Proofs.YtghilkcphindjaaGreat
namespace Go.Iv
variable [U:HB]
open Go Go.RowKit Go.Deep Go.ChangeShapes Go.WideShapes Go.Joins
def awc{P:Program}{f:FuncId}{args:aa AV}(h:Iv.Fn P f args [] (λa s=>a= .b Z/\s=[])){A:Nat->Prop}{w:World}{vs:aa Value}(hr:bD A w args vs):
  Calls P f vs.toArray w λe w'=>∃v,e= .returned v/\v= .bool Z/\Below w.heap.size w w':=
 (h w A vs hr ⟨λr hr=>by simp at hr,λb hb=>by simp[bh]at hb⟩ (by simp[bh])).mono λe w' ⟨v,av,σ',h1,⟨h2,h3⟩,h4,h5⟩=>by
  subst h2;exact⟨v,h1,h5.bR,h4.kp.below⟩
abbrev Fu:Nat->Prop:=λ_=>True
def Ht.law[L:Ho]{P:Program}{f:FuncId}{args:aa AV}{x:Out}(h:Ht P f args [] 0 x)(hx:x=⟨.b Z,[],0⟩)(ha:args.all (CM 2)=Z):Iv.Fn P f args [] (λa s=>a= .b Z/\s=[]):=by
 subst hx;have h1:=h ⟨λ_=>undef,λ_=>0⟩;have:args.map (bU.sub ⟨λ_=>undef,λ_=>0⟩)=args.map id:=zV λc hcm=>jK 2 (zn.1 ha c hcm);rw[this,List.map_id]at h1;exact h1.mono λa s ⟨ρ',_,e1,e2⟩=>⟨by rw[e1];exact jK 2 rfl,List.Perm.eq_nil e2⟩
def agd{A:Nat->Prop}{w:World}{xs bs:aa AV}{us:aa Value}{n:Nat}(h:bD A w xs (us.take n))(h':bD A w bs (us.drop n)):bD A w (xs++bs) us:=by
 have:=h.app h'
 rwa [xT]at this
def gA(B:Nat){α:Type}{H:Type}(enc:TypeId×Value->H)(P:Program)(w:World)(t:TypeId)(c:α->aa AV):Prop:=
 ∀(base:Nat) (fuel:Nat),fuel<B->∀(cs:aa Value) (x:DataW H×aa MemPlace),DataW.trod enc P w base (λ_=>Z) Z fuel t cs=M x->∃a,bD Fu w (c a) cs
section
variable {α:Type} {H:Type} {enc:TypeId×Value->H} {P:Program} {w:World} {t e:TypeId} {B:Nat}
def gA.int{k:IntKind}(ht:P.underlying t=M (.int k)):gA B enc P w t (cN k):=λbase fuel _ cs x h=>by
 obtain⟨n,rfl,_,hw⟩:=DataW.trod_int ht h;exact⟨n,bD.cons (.lit _) bD.nil⟩
def gA.bool(ht:P.underlying t=M .bool):gA B enc P w t cB:=λbase fuel _ cs x h=>by
 obtain⟨b,rfl,_⟩:=DataW.trod_bool ht h;exact⟨b,bD.cons (.lit _) bD.nil⟩
def gA.str(ht:P.underlying t=M .string):gA B enc P w t (λs=>[.s s]):=λbase fuel _ cs x h=>by
 obtain⟨b,rfl,_⟩:=DataW.trod_string ht h;exact⟨b,bD.cons (.lit _) bD.nil⟩
def oS{i m n base:Nat}{c:α->aa AV}{us:aa Value}{xs:aa (DataW H×aa MemPlace)}(hB:n<B)(he:gA B enc P w t c)(hl:zZ xs=m)(hf:DataW.trod enc P w base (λ_=>Z) Z n t us=xs[i]?)(hi:i<m:=by decide):∃a,bD Fu w (c a) us:=by
 rw[zD (show i<zZ xs by omega)]at hf;exact he _ _ hB _ _ hf
def rS{xs bs:aa AV}{us:aa Value}{o k o':Nat}(h:bD Fu w xs ((us.drop o).take k))(h':bD Fu w bs (us.drop o'))(ho:o+k=o':=by kernel_rfl):bD Fu w (xs++bs) (us.drop o):=by
 subst ho;rw[<-List.drop_drop]at h';exact agd h h'
def rE{us:aa Value}{k:Nat}(h:zZ us=k):bD Fu w [] (us.drop k):=by
 rw[List.drop_of_length_le aj];exact bD.nil
def Opn.agg{c:α->aa AV}{v:Value}{cs:Array Value}{d:DataW H}{p:aa MemPlace}(he:∀B,gA B enc P w t c)(hv:v= .agg cs)(h:DataW.Trod enc P w 0 (λ_=>Z) Z t v d p):∃a,Rel Fu w (.agg (c a)) v:=by
 obtain⟨fuel,hf⟩:=h;subst hv;obtain⟨l⟩:=cs;obtain⟨a,h2⟩:=he _ _ _ (zN _) _ _ hf;exact⟨a,Rel.nK h2⟩
def gA.slice{B:Nat}{sz:Nat}(ht:P.underlying t=M (.slice e))(hc:P.cellsOf e=sz+1)(hs:U.sz e=sz+1)(he:gA B enc P w e (U.cells e)):
  gA B enc P w t (λl:aa (U.cQ e)=>[.sl e l]):=λbase fuel hB cs x h=>by
 rcases DataW.trod_slice ht h with ⟨rfl,_⟩|⟨a,len,cp,elems,rest,n,hfu,hcs,_,hb,hl,hm,hlen,hx,_,_⟩
 ·refine⟨[],bD.cons ?_ bD.nil⟩;exact .sl e ([]:aa (U.cQ e)) J 0 (λ_ _=>default) (by simp) (by simp) (λi hi=>by simp at hi) (λi hi=>by simp at hi) (λi j a hi=>by simp at hi)
 ·subst hcs;rw[hc]at hx;have hmx:cp<=9223372036854775807:=by unfold maxLen at hm;omega
  obtain⟨CS,hCS⟩:=choose_lt (α:=aa Value×U.cQ e) (p:=λi y=>w.cells? base (a.add (i*(sz+1))) (sz+1)=M y.1/\bD Fu w (U.cells e y.2) y.1) (n:=len) (λi hi=>by
   have hk:=hx i hi;rw[zD (show i<zZ elems by omega)]at hk;obtain⟨cs',h1,h2⟩:=zl.1 hk;obtain⟨y,h3,h4⟩:=he _ n aj _ _ h2;exact⟨(cs',y),h1,h3,h4⟩)
  obtain⟨l,hld⟩:∃l:aa (U.cQ e),l=(zy len).map λi=>(CS i).2:=⟨_,rfl⟩;have hln:zZ l=len:=by rw[hld];simp
  have hget:∀i,i<len->l[i]! =(CS i).2:=λi hi=>by
   rw[getElem!_pos l i aj];simp[hld]
  refine⟨l,bD.cons ?_ bD.nil⟩
  ·rw[<-hln];refine .sl e l (M a) cp (λi j=>(CS i).1[j]!) aj aj (λi hi=> ?_) (λi hi=> ?_) (λi j av hi hj=> ?_)
   ·rw[hln]at hi;obtain⟨h1,h3⟩:=hCS i hi;obtain⟨_,h5,_⟩:=World.cells?_some h1;rw[hget i hi,<-h3.1,h5,hs]
   ·rw[hln]at hi;obtain⟨h1,h3⟩:=hCS i hi;obtain⟨_,h5,h6⟩:=World.cells?_some h1;have hj:∀j,j<sz+1->w.cell? ((a.add (i*(sz+1))).add j)=M (CS i).1[j]! :=λj hj=>by
     rw[h6 j hj,getElem!_pos _ j aj,zD aj]
    obtain⟨b,off,spot⟩:=a;have hs:spot=J:=by
     obtain⟨g1,_⟩:=hCS 0 aj;obtain⟨_,g5,g6⟩:=World.cells?_some g1;have:=World.cell?_spot (v:=(CS 0).1[0]!) (w:=w) (a:=((⟨b,off,spot⟩:Addr).add (0*(sz+1))).add 0) (by rw[g6 0 aj,getElem!_pos _ 0 aj,zD aj]);simpa [Addr.add]using this
    subst hs;have hj':∀j,j<sz+1->w.cell? ⟨b,off+i*(sz+1)+j,J⟩=M (CS i).1[j]! :=λj hlt=>by
     have:=hj j hlt;have ap:∀o i:Nat,(⟨b,o,J⟩:Addr).add i=⟨b,o+i,J⟩:=λo i=>by
      unfold Addr.add;split
      ·rename_i h0;simp only[h0,yG]
      ·rfl
     rw[ap,ap]at this;exact this
    exact⟨b,off,rfl,World.block_lt_of_cell? w _ (hj' 0 aj),trivial,by rw[hs];exact hj'⟩
   ·rw[hln]at hi;rw[hget i hi]at hj;obtain⟨h1,h3⟩:=hCS i hi;obtain⟨v,q1,q2⟩:=h3.get hj;show Rel Fu w av (CS i).1[j]!;obtain⟨q3,q4⟩:=zU.1 q1;rw[getElem!_pos _ j q3,q4];exact q2
end
end Go.Iv
namespace Go.Proofs.YtghilkcphindjaaGreat
def iE:ByteArray:=ByteArray.mk #[0,1,2,2,3,3,3,3,4,4,4,4,4,4,4,4,5,5,5,5,5,5,5,5,5,5,5,5,5,5,5,5,6,6,6,6,6,6,6,6,6,6,6,6,6,6,6,6,6,6,6,6,6,6,6,6,6,6,6,6,6,6,6,6,7,7,7,7,7,7,7,7,7,7,7,7,7,7,7,7,7,7,7,7,7,7,7,7,7,7,7,7,7,7,7,7,7,7,7,7,7,7,7,7,7,7,7,7,7,7,7,7,7,7,7,7,7,7,7,7,7,7,7,7,7,7,7,7,8,8,8,8,8,8,8,8,8,8,8,8,8,8,8,8,8,8,8,8,8,8,8,8,8,8,8,8,8,8,8,8,8,8,8,8,8,8,8,8,8,8,8,8,8,8,8,8,8,8,8,8,8,8,8,8,8,8,8,8,8,8,8,8,8,8,8,8,8,8,8,8,8,8,8,8,8,8,8,8,8,8,8,8,8,8,8,8,8,8,8,8,8,8,8,8,8,8,8,8,8,8,8,8,8,8,8,8,8,8,8,8,8,8,8,8,8,8,8,8,8,8,8,8,8,8,8,8]
end Go.Proofs.YtghilkcphindjaaGreat
namespace Go.Proofs.YtghilkcphindjaaGreat
open Go Go.Iv
open Go.IntKind (i64 u64)
structure Ct where
 t1:Int
 t5:List Int
 t9:List bf
 (t10 t11:Int)
def abM:Td 0 Ct:= .c [] [1,5,9,10,11] (.t (bT.s 5 [] 3) (.c [] [1,5,9,10,11] (.r 0 1 (ec 1 aU (ec 5 (qo 0) (ec 9 (ql 108) (ec 10 aU (ec 11 aU en))))) (sr 0 3 sn) (λz=>⟨z.1.1,z.2.1,z.1.t.1,z.1.t.2.1,z.1.q.1⟩) (λx=>((x.t1,(),x.t9,x.t10,x.t11,()),(x.t5,()))))))
def Nr{α:Type}(p:Ct)(go:Ct->af α)(e1:af α):af α:=
 bif w9 (p.t11<p.t10)then if 0<=p.t11/\p.t11<zZ p.t9 then bif w9 (p.t9[zQ p.t11]!.bQ=p.t1)then if(p.t5++[p.t11]).length<=1073741824 then go (Ct.mk p.t1 (p.t5++[p.t11]) p.t9 p.t10 (ak (p.t11+1)))else J else go (Ct.mk p.t1 p.t5 p.t9 p.t10 (ak (p.t11+1)))else J else e1
def Wa(p:Ct):af (af Ct):=
 Nr p fW dy
def UY:=bX (Wa)
abbrev E65:=aa Int
def d65:Td 0 E65:= .c [] [4] (.r 0 1 (ec 4 (qo 0) en) (sr 0 3 sn) (λz=>z.2.1) (λx=>(((),()),(x,()))))
def m65(a0:bn)(a1:Int):af E65:=
 match UY (Ct.mk a1 [] a0.ah (zZ a0.ah) 0)with|J=>J|M r1=>Nr r1 (λ_=>J) (M (r1.t5))
def e65:=eL va 65 O (lc (qg 26) gY) d65 (λg=>m65 g.1 g.2.1)
def SH:EO e65:=λh=>kL (an:=(cA 2 (.two (noTwo (abM.lp UY .no)) .no))) (l:=[(bz f65 0,(abM.lp UY .no))]) func65 aP (aA (aO abM) az) h
abbrev azr:=Int
def d172:Td 0 azr:=dW 2
def aKT(a0:Int):af azr:=
 bif w9 (65536<=a0)then bif w9 (256<=de IntKind.u32 a0 16)then if 0<=IntKind.u8.wrap (de IntKind.u32 (de IntKind.u32 a0 ((16:Int))) ((8:Int)))/\IntKind.u8.wrap (de IntKind.u32 (de IntKind.u32 a0 ((16:Int))) ((8:Int)))<256then M (ak (24+ak (cO iE (IntKind.u8.wrap (de IntKind.u32 (de IntKind.u32 a0 16) 8)).toNat)))else J else if 0<=IntKind.u8.wrap (de IntKind.u32 a0 ((16:Int)))/\IntKind.u8.wrap (de IntKind.u32 a0 ((16:Int)))<256then M (ak (16+ak (cO iE (IntKind.u8.wrap (de IntKind.u32 a0 16)).toNat)))else J else bif w9 (256<=a0)then if 0<=IntKind.u8.wrap (de IntKind.u32 a0 ((8:Int)))/\IntKind.u8.wrap (de IntKind.u32 a0 ((8:Int)))<256then M (ak (8+ak (cO iE (IntKind.u8.wrap (de IntKind.u32 a0 8)).toNat)))else J else if 0<=IntKind.u8.wrap a0/\IntKind.u8.wrap a0<256then M (ak (0+ak (cO iE (IntKind.u8.wrap a0).toNat)))else J
def aLN:=eL va 172 O (lc (qi .u32) ln) d172 (λg=>aKT g.1)
def aiw:EO aLN:=λh=>kL (an:= .no) func172 aP az h
abbrev aFU:=Int
def d173:Td 0 aFU:=dW 2
def amR(a0:Int):af aFU:=
 bif w9 (4294967296<=a0)then bif w9 (65536<=de u64 a0 32)then bif w9 (256<=de u64 (de u64 a0 32) 16)then if 0<=IntKind.u8.wrap (de u64 (de u64 (de u64 a0 ((32:Int))) ((16:Int))) ((8:Int)))/\IntKind.u8.wrap (de u64 (de u64 (de u64 a0 ((32:Int))) ((16:Int))) ((8:Int)))<256then M (ak (56+ak (cO iE (IntKind.u8.wrap (de u64 (de u64 (de u64 a0 32) 16) 8)).toNat)))else J else if 0<=IntKind.u8.wrap (de u64 (de u64 a0 ((32:Int))) ((16:Int)))/\IntKind.u8.wrap (de u64 (de u64 a0 ((32:Int))) ((16:Int)))<256then M (ak (48+ak (cO iE (IntKind.u8.wrap (de u64 (de u64 a0 32) 16)).toNat)))else J else bif w9 (256<=de u64 a0 32)then if 0<=IntKind.u8.wrap (de u64 (de u64 a0 ((32:Int))) ((8:Int)))/\IntKind.u8.wrap (de u64 (de u64 a0 ((32:Int))) ((8:Int)))<256then M (ak (40+ak (cO iE (IntKind.u8.wrap (de u64 (de u64 a0 32) 8)).toNat)))else J else if 0<=IntKind.u8.wrap (de u64 a0 ((32:Int)))/\IntKind.u8.wrap (de u64 a0 ((32:Int)))<256then M (ak (32+ak (cO iE (IntKind.u8.wrap (de u64 a0 32)).toNat)))else J else bif w9 (65536<=a0)then bif w9 (256<=de u64 a0 16)then if 0<=IntKind.u8.wrap (de u64 (de u64 a0 ((16:Int))) ((8:Int)))/\IntKind.u8.wrap (de u64 (de u64 a0 ((16:Int))) ((8:Int)))<256then M (ak (24+ak (cO iE (IntKind.u8.wrap (de u64 (de u64 a0 16) 8)).toNat)))else J else if 0<=IntKind.u8.wrap (de u64 a0 ((16:Int)))/\IntKind.u8.wrap (de u64 a0 ((16:Int)))<256then M (ak (16+ak (cO iE (IntKind.u8.wrap (de u64 a0 16)).toNat)))else J else bif w9 (256<=a0)then if 0<=IntKind.u8.wrap (de u64 a0 ((8:Int)))/\IntKind.u8.wrap (de u64 a0 ((8:Int)))<256then M (ak (8+ak (cO iE (IntKind.u8.wrap (de u64 a0 8)).toNat)))else J else if 0<=IntKind.u8.wrap a0/\IntKind.u8.wrap a0<256then M (ak (0+ak (cO iE (IntKind.u8.wrap a0).toNat)))else J
def aH0:=eL va 173 O (lc (qi .u64) ln) d173 (λg=>amR g.1)
def alC:EO aH0:=λh=>kL (an:= .no) func173 aP az h
abbrev aAu:=Int
def d102:Td 0 aAu:=dW 2
def agT(a0:Int):af aAu:=
 match amR a0 with|J=>J|M r1=>M (r1)
def aIF:=eL va 102 O (lc (qi .u64) ln) d102 (λg=>agT g.1)
def ah1:EO aIF:=λh=>kL (an:= .no) func102 (alC (aiw aP)) az h
structure Ge where
 t2:List Slot
 (t3 t4 t6:Int)
 t10:List Int
 (t11 t12:Int)
 t18:List Int
 (t19 t20:Int)
 b0:bn
def ac3:Td 0 Ge:= .c [] [1,2,3,4,6,10,11,12,18,19,20] (.r 0 4 (ec 1 (qp 0 0) (ec 2 (qo 1) (ec 3 aU (ec 4 aU (ec 6 aU (ec 10 (qo 2) (ec 11 aU (ec 12 aU (ec 18 (qo 3) (ec 19 aU (ec 20 aU en))))))))))) (sb 0 26 (lg 26) (sr 1 38 (sr 2 65 (sr 3 3 sn)))) (λz=>⟨z.t.1,z.1.t.1,z.1.t.2.1,z.1.q.1,z.t.2.1,z.1.q.t.1,z.1.q.t.2.1,z.q.1,z.1.q.q.2.1,z.1.q.q.t.1,z.2.1⟩) (λx=>(((),(),x.t3,x.t4,x.t6,(),x.t11,x.t12,(),x.t19,x.t20,()),(x.b0,x.t2,x.t10,x.t18,()))))
def Cz{α:Type}(p:Ge)(go:Ge->af α)(e1:af α):af α:=
 bif w9 (p.t20<p.t19)then if 0<=p.t20/\p.t20<zZ p.t18 then if 3=3/\zQ p.t20<zZ p.t18 then if 0<=p.t18[zQ p.t20]!/\p.t18[zQ p.t20]! <(zZ p.b0.ah:Int)then if 0<=p.t18[zQ p.t20]!/\p.t18[zQ p.t20]! <(zZ p.b0.ah:Int)then match agT (Z7 (ak (p.b0.ah[zQ p.t18[zQ p.t20]!]!.au-p.b0.ah[zQ p.t18[zQ p.t20]!]!.aC)))with|J=>J|M r4=>if(p.t2++[Slot.mk p.t18[zQ p.t20]! p.t4 r4]).length<=1073741824 then go (Ge.mk (p.t2++[Slot.mk p.t18[zQ p.t20]! p.t4 r4]) p.t3 (ak (p.t4+r4)) p.t6 p.t10 p.t11 p.t12 p.t18 p.t19 (ak (p.t20+1)) p.b0)else J else J else J else J else J else e1
def Xe(p:Ge):af (af Ge):=
 Cz p fW dy
def Vh:=bX (Xe)
structure Cu where
 t2:List Slot
 (t3 t4:Int)
 t10:List Int
 (t11 t12:Int)
 b0:bn
def agD:Td 0 Cu:= .c [] [1,2,3,4,10,11,12] (.t (bT.s 2 [] 38) (.c [] [1,2,3,4,10,11,12] (.r 0 3 (ec 1 (qp 0 0) (ec 2 (qo 1) (ec 3 aU (ec 4 aU (ec 10 (qo 2) (ec 11 aU (ec 12 aU en))))))) (sb 0 26 (lg 26) (sr 1 38 (sr 2 65 sn))) (λz=>⟨z.t.1,z.1.t.1,z.1.t.2.1,z.t.2.1,z.1.q.2.1,z.1.q.t.1,z.2.1⟩) (λx=>(((),(),x.t3,x.t4,(),x.t11,x.t12,()),(x.b0,x.t2,x.t10,()))))))
def Jc{α:Type}(p:Cu)(go:Cu->af α)(e1:af α):af α:=
 bif w9 (p.t12<p.t11)then if 0<=p.t12/\p.t12<zZ p.t10 then if 65=65/\zQ p.t12<zZ p.t10 then match m65 p.b0 p.t10[zQ p.t12]! with|J=>J|M r1=>match Vh (Ge.mk p.t2 p.t3 p.t4 p.t10[zQ p.t12]! p.t10 p.t11 p.t12 r1 (↑(zZ r1):Int) 0 p.b0)with|J=>J|M r2=>Cz r2 (λ_=>J) (bif w9 (r2.t6=1)then go (Cu.mk r2.t2 r2.t4 r2.t4 r2.t10 r2.t11 (ak (r2.t12+1)) r2.b0)else go (Cu.mk r2.t2 r2.t3 r2.t4 r2.t10 r2.t11 (ak (r2.t12+1)) r2.b0))else J else J else e1
def HR(p:Cu):af (af Cu):=
 Jc p fW dy
def aqQ:An:=(cA 2 (.two (noTwo (.two (noTwo (ac3.lp Vh .no)) .no)) .no))
def Qb:=bX (HR)
abbrev E49:=(aa Slot)×Int×Int
def d49:Td 0 E49:= .c [] [2,3,4] (.r 0 1 (ec 2 (qo 0) (ec 3 aU (ec 4 aU en))) (sr 0 38 sn) (λz=>(z.2.1,z.1.2.1,z.1.t.1)) (λx=>(((),x.2.1,x.t,()),(x.1,()))))
def m49(a0:bn):af E49:=
 match Qb (Cu.mk [] (0) 0 [1,3] (2:Int) 0 a0)with|J=>J|M r5=>Jc r5 (λ_=>J) (M (r5.t2,r5.t3,r5.t4))
def e49:=eL va 49 O (lc (qg 26) ln) d49 (λg=>m49 g.1)
def aeU:EO e49:=λh=>kL (an:=(noTwo (.two (noTwo (agD.lp Qb aqQ)) .no))) (l:=[(bz f49 0,(agD.lp Qb aqQ)),(bz f49 1,(ac3.lp Vh .no))]) func49 (ah1 (SH aP)) (aA (aO agD) (aA (aO ac3) az)) h
abbrev av9:=cz×aK
def d118:Td 1 av9:= .c [] [6] (.r 1 2 (ec 6 (qp 1 0) en) (sb 0 138 (lg 138) (sb 1 42 (lg 42) sn)) (λz=>(z.t.1,z.2.1)) (λx=>(((),()),(x.2,x.1,()))))
def aJb:=(sb 0 138 (lg 138) sn)
def Gu(a1:aq)(a2:Int)(b0:aK):af av9:=
 match aa5 a1 a2 with|J=>J|M r1=>M ((r1.fst,b0))
def avW:aT->aT:=eY va 118 1 (lc (qp 0 0) agx) aJb d118 (λg=>Gu g.1.2.1 g.1.t.1 g.2.1)
def lV:EO avW:=λh=>kY (an:= .no) func118 (Yk aP) az h
structure Es where
 t20:List Slot
 (t21 t22:Int)
 b0:aK
 (b1 b2:cz)
def af0:Td 1 Es:= .c [] [0,2,3,20,21,22] (.r 1 3 (ec 0 (qp 0 0) (ec 2 (qp 1 0) (ec 3 (qp 2 0) (ec 20 (ql 38) (ec 21 aU (ec 22 aU en)))))) (sb 0 138 (lg 138) (sb 1 42 an0 (sb 2 42 (lg 42) sn))) (λz=>⟨z.1.t.2.1,z.1.q.1,z.1.q.2.1,z.2.1,(cz.mk z.t.1.1 [] z.t.1.t.1),z.t.2.1⟩) (λx=>(((),(),(),x.t20,x.t21,x.t22,()),(x.b0,(x.b1.ah,(),x.b1.aH,()),x.b2,()))))
def MY{α:Type}(p:Es)(go:Es->af α)(e1:af α):af α:=
 bif w9 (p.t22<p.t21)then if 0<=p.t22/\p.t22<zZ p.t20 then if 0<=p.t20[zQ p.t22]!.bq/\p.t20[zQ p.t22]!.bq<zZ p.b0.fF.ah then match Yx p.t20[zQ p.t22]! p.b0 with|J=>J|M r1=>match ij 7 r1.fst (aq.mk (fh (ak (ak (p.b0.fF.ah[p.t20[zQ p.t22]!.bq.toNat]!.au-p.b0.fF.ah[p.t20[zQ p.t22]!.bq.toNat]!.aC)+1)) r1.snd).fst.ah (fh (ak (ak (p.b0.fF.ah[p.t20[zQ p.t22]!.bq.toNat]!.au-p.b0.fF.ah[p.t20[zQ p.t22]!.bq.toNat]!.aC)+1)) r1.snd).fst.aG [] (fh (ak (ak (p.b0.fF.ah[p.t20[zQ p.t22]!.bq.toNat]!.au-p.b0.fF.ah[p.t20[zQ p.t22]!.bq.toNat]!.aC)+1)) r1.snd).fst.aH) (fh (ak (ak (p.b0.fF.ah[p.t20[zQ p.t22]!.bq.toNat]!.au-p.b0.fF.ah[p.t20[zQ p.t22]!.bq.toNat]!.aC)+1)) r1.snd).snd with|J=>J|M r2=>match Gu r2.fst 1 r2.snd with|J=>J|M r3=>match N9 8 p.b2 r3.fst with|J=>J|M r4=>go (Es.mk p.t20 p.t21 (ak (p.t22+1)) r3.snd (cz.mk p.b1.ah [] p.b1.aH) r4.fst)else J else J else e1
def Vj(p:Es):af (af Es):=
 MY p fW dy
def VV:=bX (Vj)
abbrev E58:=cz×aK
def d58:Td 1 E58:= .c [] [2] (.r 1 2 (ec 2 (qp 1 0) en) (sb 0 138 (lg 138) (sb 1 42 (lg 42) sn)) (λz=>(z.t.1,z.2.1)) (λx=>(((),()),(x.2,x.1,()))))
def B58:=(sb 0 138 (lg 138) sn)
def m58(b0:aK):af E58:=
 match VV (Es.mk b0.bS (zZ b0.bS) 0 b0 (cz.mk 0 [] (0)) (cz.mk (OR b0.ah Z).fst.ah [] (OR b0.ah Z).fst.aH))with|J=>J|M r5=>MY r5 (λ_=>J) (M (r5.b2,r5.b0))
def e58:aT->aT:=eY va 58 1 AN B58 d58 (λg=>m58 g.2.1)
def auo:EO e58:=λh=>kY (an:=(cA 2 (.two (noTwo (af0.lp VV .no)) .no))) (l:=[(bz f58 0,(af0.lp VV .no))]) func58 (lV (LF (aiX (jG (alS (lZ aP)))))) (aA (aO af0) az) h
def F18:aT:=(oK va (e58 (e49 (e48 dz))) (λf=>zg f 48||zg f 49||zg f 58) 300 10)
abbrev E18:=cz×Int
def d18:Td 0 E18:= .c [] [2,3] (.r 0 1 (ec 2 (qp 0 0) (ec 3 aU en)) (sb 0 42 (lg 42) sn) (λz=>(z.2.1,z.1.2.1)) (λx=>(((),x.2,()),(x.1,()))))
def A18:=(lc (qg 26) ln)
def aKM:An:= .no
def m18(a0:bn):af E18:=
 match m48 a0 with|J=>J|M r1=>bif bif w9 (r1=0)then O else Z then M ((cz.mk (0) [] (0),r1))else match m49 a0 with|J=>J|M r2=>bif w9 (12<r2.snd.snd)then M ((cz.mk (0) [] (0),4))else match m58 (aK.mk a0 r2.snd.snd r2.snd.fst r2.fst [])with|J=>J|M r3=>M ((r3.fst,0))
def c18(a0:bn):bY va (F18) 300 (aKM) 18 (A18.c (a0,())) [] 0 d18.rd=m18 a0:=aL
def e18:aT->aT:=eZ va 18 A18 d18 (λg=>m18 g.1)
structure IL where
 t0:Int
 t5:List Bool
 t6:Int
def apk{α:Type}(p:IL)(go:IL->af α)(e1:af α):af α:=
 bif w9 (0<=p.t6)then if 0<=p.t6 then if(p.t5++[w9 (oT IntKind.i64 (de IntKind.i64 p.t0 p.t6) 1=1)]).length<=1073741824 then go (IL.mk p.t0 (p.t5++[w9 (oT IntKind.i64 (de IntKind.i64 p.t0 p.t6) 1=1)]) (ak (p.t6-1)))else J else J else e1
def aAr(p:IL):af (af IL):=
 apk p fW dy
def aFB:=bX (aAr)
abbrev E20:=aa Bool
def d20:Td 0 E20:= .c [] [4] (.r 0 1 (ec 4 (qo 0) en) (sr 0 4 sn) (λz=>z.2.1) (λx=>(((),()),(x,()))))
def m20(a0:Int)(a1:Int):af E20:=
 match aFB (IL.mk a0 [] (ak (a1-1)))with|J=>J|M r1=>apk r1 (λ_=>J) (M (r1.t5))
def e20:=eL va 20 O uS d20 (λg=>m20 g.1 g.2.1)
abbrev E21:=Bool
def m21(a0:cz)(a1:cz):af E21:=
 match bif w9 (a0.ah=a1.ah)then bif w9 (a0.aH=a1.aH)then match m59 a0.aD a1.aD with|J=>J|M r1=>M (r1)else M (O)else M (O)with|J=>J|M r2=>M (r2)
structure sM where
 t0:List Int
 (t1 t7 t8:Int)
def QH:Td 0 sM:= .c [] [0,1,7,8] (.r 0 0 (ec 0 (ql 3) (ec 1 aU (ec 7 aU (ec 8 aU en)))) sn (λz=>⟨z.1.1,z.1.2.1,z.1.t.1,z.1.t.2.1⟩) (λx=>((x.t0,x.t1,x.t7,x.t8,()),(()))))
def DK{α:Type}(p:sM)(go:sM->af α)(e1 e2:af α):af α:=
 bif w9 (p.t8<p.t7)then if 0<=p.t8/\p.t8<zZ p.t0 then bif w9 (p.t1=p.t0[zQ p.t8]!)then e1 else go (sM.mk p.t0 p.t1 p.t7 (ak (p.t8+1)))else J else e2
def Kc(p:sM):af (af sM):=
 DK p fW dy dy
def KR:=bX (Kc)
abbrev aBj:=Int
def d119:Td 0 aBj:=dW 4
def afC(a0:aa Int)(a1:Int):af aBj:=
 match KR (sM.mk a0 a1 (zZ a0) 0)with|J=>J|M r1=>DK r1 (λ_=>J) (M (r1.t8)) (M (-1))
def asU:=eL va 119 O (lc (ql 3) gY) d119 (λg=>afC g.1 g.2.1)
def XB:EO asU:=λh=>kL (an:=(noTwo (.two (noTwo (QH.lp KR .no)) .no))) (l:=[(bz f119 0,(QH.lp KR .no))]) func119 aP (aA (aO QH) az) h
structure tH where
 t0:List bu
 (t7 t8:Int)
 b0:bu
def TO:Td 0 tH:= .c [] [0,3,7,8] (.r 0 1 (ec 0 (ql 113) (ec 3 (qp 0 0) (ec 7 aU (ec 8 aU en)))) (sb 0 113 (lg 113) sn) (λz=>⟨z.1.1,z.1.t.1,z.1.t.2.1,z.2.1⟩) (λx=>((x.t0,(),x.t7,x.t8,()),(x.b0,()))))
def Fa{α:Type}(p:tH)(go:tH->af α)(e1 e2:af α):af α:=
 bif w9 (p.t8<p.t7)then if 0<=p.t8/\p.t8<zZ p.t0 then bif bif w9 (p.b0.bq=p.t0[zQ p.t8]!.bq)then bif w9 (p.b0.aC=p.t0[zQ p.t8]!.aC)then bif w9 (p.b0.au=p.t0[zQ p.t8]!.au)then Z else O else O else O then e1 else go (tH.mk p.t0 p.t7 (ak (p.t8+1)) p.b0)else J else e2
def Lm(p:tH):af (af tH):=
 Fa p fW dy dy
def Jw:=bX (Lm)
abbrev aDI:=Int
def d120:Td 0 aDI:=dW 4
def abg(a0:aa bu)(a1:bu):af aDI:=
 match Jw (tH.mk a0 (zZ a0) 0 a1)with|J=>J|M r1=>Fa r1 (λ_=>J) (M (r1.t8)) (M (-1))
def axe:=eL va 120 O (lc (ql 113) (lc (qg 113) ln)) d120 (λg=>abg g.1 g.2.1)
def W6:EO axe:=λh=>kL (an:=(noTwo (.two (noTwo (TO.lp Jw .no)) .no))) (l:=[(bz f120 0,(TO.lp Jw .no))]) func120 aP (aA (aO TO) az) h
abbrev ast:=Int×(aa bu)
def aAO:Td 1 ast:= .c [0] [8,9] (.r 1 2 (ec 8 aU (ec 9 (qo 1) en)) (sr 1 113 sn) (λz=>(z.1.1,z.2.1)) (λx=>((x.1,(),()),(x.2,()))))
def aF6:=(lc (ql 3) (lc (ql 3) (lc (qo 0) gY)))
def aBl:=(sr 0 113 sn)
abbrev Hr:Type:=(aa Int)->(aa Int)->Int->(aa bu)->af ast
def auD(zf:Hr):aT->aT:=eY va 60 1 aF6 aBl aAO (λg=>zf g.1.1 g.1.2.1 g.1.2.2.2.1 g.2.1)
def aod(zf:Hr):Prop:=HY va 60 1 aF6 aBl aAO (λg=>zf g.1.1 g.1.2.1 g.1.2.2.2.1 g.2.1)
def Un{zf:Hr}(hM:aod zf):EO (auD zf):=gi hM ⟨_,func60,aL,aL⟩ (λ_=>aL)
def azj(M60o:Hr):aT:=(axe (asU (auD M60o dz)))
def aji{M60o}(h60o:aod M60o):bK va (azj M60o):=(W6 (XB (Un h60o aP)))
def aEm(M60o:Hr):An:= .no
def aFz(M60o:Hr):dB va (azj M60o) 1 300 60 (aEm M60o):=bF (l:=[]) func60 (aY aL) aL az
def ads(M60o:Hr)(a0:aa Int)(a1:aa Int)(a3:Int)(b0:aa bu):af ast:=
 bif w9 ((zZ a0:Int)=1)then if(0:Int)<=(0:Int)/\(0:Int)<zZ a0 then match afC a1 a0[0]! with|J=>J|M r1=>M (r1,b0)else J else if 0<=ak ((zZ a0:Int).tdiv ((2:Int)))/\ak ((zZ a0:Int).tdiv ((2:Int)))<=zZ a0 then match M60o (List.take (ak ((zZ a0:Int).tdiv 2)).toNat a0) a1 (ak (a3+1)) b0 with|J=>J|M r2=>if 0<=ak ((zZ a0:Int).tdiv ((2:Int)))/\ak ((zZ a0:Int).tdiv ((2:Int)))<=zZ a0 then match M60o (xx (ak ((zZ a0:Int).tdiv 2)).toNat a0) a1 (ak (a3+1)) r2.snd with|J=>J|M r3=>bif w9 (r2.fst=r3.fst)then M (r2.fst,r3.snd)else match abg r3.snd (bu.mk a3 r2.fst r3.fst)with|J=>J|M r4=>bif w9 (0<=r4)then M ((ak (zZ a1+r4),r3.snd))else if(r3.snd++[bu.mk a3 r2.fst r3.fst]).length<=1073741824 then M ((ak ((zZ a1:Int)+(zZ r3.snd:Int)),r3.snd++[bu.mk a3 r2.fst r3.fst]))else J else J else J
def MZ:Nat->Hr
 |0=>(λ_ _ _ _=>J)
 |n+1=>(ads (MZ n))
def ax0(n:Nat):Hr:=(MZ n)
def ND:∀n,aod (ax0 n)
 |0=>λ_ _ h=>(by cases h)
 |n+1=>gZ (aji (ND n)) (aFz (ax0 n)) (λ_=>aL) (λ_=>aL) (λ_=>aL) λ_=>aL
def aaI:Hr:=λa0 a1 a3 b0=>lim (λn=>ax0 n a0 a1 a3 b0)
def amp:aod aaI:=λg b h=>(bW h).elim λn=>ND n g b
def aAX(F:aT):aT:=auD aaI F
def Vm:EO aAX:=Un amp
abbrev atN:=Int×(aa bu)
def ayG:Td 0 atN:= .c [] [8,9] (.t (bT.s 9 [] 113) (.c [] [8,9] (.r 0 1 (ec 8 aU (ec 9 (qo 0) en)) (sr 0 113 sn) (λz=>(z.1.1,z.2.1)) (λx=>((x.1,(),()),(x.2,()))))))
def aFt:=(lc (ql 3) (lc (ql 3) (lc qn gY)))
abbrev Hy:Type:=(aa Int)->(aa Int)->Int->af atN
def ax6(zf:Hy):aT->aT:=eL va 60 O aFt ayG (λg=>zf g.1 g.2.1 g.2.2.2.1)
def akH(zf:Hy):Prop:=HL va 60 aFt ayG (λg=>zf g.1 g.2.1 g.2.2.2.1)
def X0{zf:Hy}(hM:akH zf):EO (ax6 zf):=fI (sc:=sB) dQ hM ⟨_,func60,aL,aL⟩ (λ_=>aL) (λ_=>aL)
def ay6(M60n:Hy):aT:=(axe (asU (ax6 M60n (aAX dz))))
def alv{M60n}(h60n:akH M60n):bK va (ay6 M60n):=(W6 (XB (X0 h60n (Vm aP))))
def azJ(M60n:Hy):An:= .no
def ay0(M60n:Hy):dB va (ay6 M60n) 0 300 60 (azJ M60n):=bF (l:=[]) func60 (aY aL) aL az
def adT(M60n:Hy)(a0:aa Int)(a1:aa Int)(a3:Int):af atN:=
 bif w9 ((zZ a0:Int)=1)then if(0:Int)<=(0:Int)/\(0:Int)<zZ a0 then match afC a1 a0[0]! with|J=>J|M r1=>M (r1,[])else J else if 0<=ak ((zZ a0:Int).tdiv ((2:Int)))/\ak ((zZ a0:Int).tdiv ((2:Int)))<=zZ a0 then match M60n (List.take (ak ((zZ a0:Int).tdiv 2)).toNat a0) a1 (ak (a3+1))with|J=>J|M r2=>if 0<=ak ((zZ a0:Int).tdiv ((2:Int)))/\ak ((zZ a0:Int).tdiv ((2:Int)))<=zZ a0 then match aaI (xx (ak ((zZ a0:Int).tdiv 2)).toNat a0) a1 (ak (a3+1)) r2.snd with|J=>J|M r3=>bif w9 (r2.fst=r3.fst)then M (r2.fst,r3.snd)else match abg r3.snd (bu.mk a3 r2.fst r3.fst)with|J=>J|M r4=>bif w9 (0<=r4)then M ((ak (zZ a1+r4),r3.snd))else if(r3.snd++[bu.mk a3 r2.fst r3.fst]).length<=1073741824 then M ((ak ((zZ a1:Int)+(zZ r3.snd:Int)),r3.snd++[bu.mk a3 r2.fst r3.fst]))else J else J else J
def P7:Nat->Hy
 |0=>(λ_ _ _=>J)
 |n+1=>(adT (P7 n))
def awA(n:Nat):Hy:=(P7 n)
def Nq:∀n,akH (awA n)
 |0=>λ_ _ h=>(by cases h)
 |n+1=>fo (alv (Nq n)) (ay0 (awA n)) (λ_=>aL) (λ_=>aL) λ_=>aL
def abw:Hy:=λa0 a1 a3=>lim (λn=>awA n a0 a1 a3)
def alu:akH abw:=λg b h=>(bW h).elim λn=>Nq n g b
def aKc(F:aT):aT:=ax6 abw F
def anK:EO aKc:=X0 alu
structure EV where
 t0:Int
 t5:List Int
 t10:List Bool
 (t11 t12:Int)
 b0:cz
def apW{α:Type}(p:EV)(go:EV->af α)(e1:af α):af α:=
 bif w9 (p.t12<p.t11)then if 0<=p.t12/\p.t12<zZ p.t10 then bif p.t10[zQ p.t12]! then if(p.t5++[(1:Int)]).length<=1073741824 then go (EV.mk p.t0 (p.t5++[1]) p.t10 p.t11 (ak (p.t12+1)) (cz.mk p.b0.ah [] p.b0.aH))else J else if(p.t5++[(0:Int)]).length<=1073741824 then go (EV.mk p.t0 (p.t5++[0]) p.t10 p.t11 (ak (p.t12+1)) (cz.mk p.b0.ah [] p.b0.aH))else J else J else e1
def aAs(p:EV):af (af EV):=
 apW p fW dy
def aFV:=bX (aAs)
abbrev E22:=cz
def m22(a0:Int)(a1:aa Bool):af E22:=
 match aFV (EV.mk a0 [] a1 (zZ a1) 0 (cz.mk 0 [] (0)))with|J=>J|M r1=>apW r1 (λ_=>J) (match abw r1.t5 [0,1] (0)with|J=>J|M r2=>M (cz.mk r1.t0 r2.snd r2.fst))
end Go.Proofs.YtghilkcphindjaaGreat
end
