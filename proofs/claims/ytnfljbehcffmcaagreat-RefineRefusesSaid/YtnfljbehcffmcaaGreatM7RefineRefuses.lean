/- Merged: Nr1, Nr2, Nr3, Nr4, Nr5, Nr6, Iy1, Iy2, Opd, Qh. -/
import Derived.Test.YtnfljbehcffmcaaGreatM6RefineRefuses
import Derived.Test.YtnfljbehcffmcaaGreatM2RefineRefuses
import Derived.Test.YtnfljbehcffmcaaGreatM5RefineRefuses
import Derived.Deep.Slices
import Derived.Lib.SmallJoins
open Int renaming toNat_natCast → ze, le_refl → zq, toNat → zC, lt_irrefl → yo
open Nat renaming le_refl → zo, lt_succ_self → zJ, zero_add → yl, add_zero → yq, not_lt_zero → yF, mod_lt → yP, zero_le → yZ, sub_self → xS
open Bool renaming and_eq_true → zi, false_eq_true → yu, or_eq_true → yL, true → O, false → G
open Option renaming bind_eq_some_iff → zn, some → V, none → S
open List renaming replicate → zk, length_append → zl, getElem?_eq_getElem → zu, all_eq_true → zw, length_map → zx, mem_singleton → zy, mem_cons → zB, take_length → zD, length_take → zH, mem_map → zL, range → zM, drop_drop → zW, map_congr_left → zX, mem_filter → zZ, getElem?_eq_some_iff → z7, map_append → z8, map_cons → yc, length_filter_le → yp, length_set → yx, length_nil → yG, length_singleton → yM, append_assoc → yQ, map_nil → yR, getElem_map → yW, length_cons → yX, getElem_of_mem → yY, filter_append → y6, length_eq_zero_iff → xe, drop_eq_getElem_cons → xu, take_append_drop → xw, flatMap_cons → xH, length_replicate → xO, mem_flatMap → xP, drop_of_length_le → xY, length_pos_iff → wg, any_eq_true → wu, foldl_append → wA, set_eq_take_append_cons_drop → wD, flatMap_append → wG
open Decidable renaming decide → J
open Go.Proofs.Tryz renaming prog → w9
open Go.Proofs.Tryz
set_option linter.unusedSectionVars false
set_option linter.unusedVariables false
set_option linter.unusedSimpArgs false
set_option linter.defProp false
noncomputable section
set_option maxRecDepth 100000
namespace Go.Proofs.YtnfljbehcffmcaaGreat
open Go Go.Iv
open Go.IntKind (i64 u64)
def iv(a b:Int):aH:=if a=b then⟨a,b,0⟩else⟨a,b,1⟩
def Pj(a b:Int):(iv a b).ag=a:=by unfold iv;split<;>rfl
def Jn(a b:Int):(iv a b).ah=b:=by unfold iv;split<;>rfl
def ad0(a b:Int):O8 a b=iv a b:=by unfold O8 iv;by_cases h:a=b<;>simp[h]
def awM{a b:Int}(h1: -1048576<=a)(h2:a<=b)(h3:b<=1048576):NN (iv a b):=by
 unfold iv;by_cases e:a=b
 ·rw[bG e];exact⟨by show _<=a;omega,by show b<=_;omega,by show a<=b;omega, .inl ⟨e,rfl⟩⟩
 ·rw[bP e];exact⟨by show _<=a;omega,by show b<=_;omega,by show a<=b;omega, .inr ⟨by show a<b;omega,by show (1:Int)<=1;omega,by show (b-a)%1=0;omega⟩⟩
structure iG (f:aN) (b:List aH):Prop where
 len:b.length=(dZ f.aj).length
 el:∀j,j<b.length->∃x y,b[j]! =iv x y/\x<=y/\(dZ f.aj)[j]!.ag<=x/\y<=(dZ f.aj)[j]!.ah
structure Cx (f:aN) (v:bY):Prop where
 hN:fI f.bH+jr (f.ak.map (·.az))<=900
 hh:f.ak.length<=1000
 hl:f.aj.length<=1000
 hc:oD f=0
 hq:cdA f v=0
def lY{α:Type}[Inhabited α](l:aa α)(i j:Nat)(x:α)(hj:j<l.length):(l.set i x)[j]! =if i=j then x else l[j]! :=by
 rw[getElem!_pos _ j (by simpa using hj),getElem!_pos l j hj,List.getElem_set]
def ZB{α:Type}[Inhabited α](l m:aa α)(j:Nat)(hj:j<l.length):(l++m)[j]! =l[j]! :=by
 rw[getElem!_pos _ j (by simp;omega),getElem!_pos l j hj,List.getElem_append_left hj]
def Fo{α:Type}[Inhabited α](l m:aa α)(j:Nat)(h:j<m.length):(l++m)[l.length+j]! =m[j]! :=by
 rw[getElem!_pos _ _ (by simp;omega),getElem!_pos m j h,List.getElem_append_right (by omega)];simp
def eG{α β:Type}[Inhabited α][Inhabited β](g:α->β)(l:aa α)(j:Nat)(h:j<l.length):(l.map g)[j]! =g l[j]! :=by
 rw[getElem!_pos _ j (by simpa using h),getElem!_pos l j h,yW]
def Vx(b:aa aH)(i:Nat)(at_:Int):aa aH:=b.set i (iv b[i]!.ag at_)
def Wq(b:aa aH)(i:Nat)(at_:Int):aa aH:=b.set i (iv (at_+1) b[i]!.ah)
section
variable {f:aN} {v:bY}
def ou(h:Cx f v):(dZ f.aj).length<=2000:=by
 unfold dZ;rw[zl];have:=yp (kd 1) f.aj;have:=yp (kd 3) f.aj;have:=h.hl;omega
def iG.bd{b:aa aH}(h:iG f b)(c:oD f=0){j:Nat}(hj:j<b.length): -1048576<=b[j]!.ag/\b[j]!.ag<=b[j]!.ah/\b[j]!.ah<=1048576:=by
 obtain⟨x,y,e,h1,h2,h3⟩:=h.el j hj;obtain⟨k1,k2,k3⟩:=Pc c (j:=j) (by rw[<-h.len];exact hj);rw[e,Pj,Jn];omega
def Tz(h:Cx f v):iG f (nU f):=by
 rw[abv];refine⟨by simp,λj hj=> ?_⟩;have hj':j<(dZ f.aj).length:=by simpa using hj
 obtain⟨k1,k2,k3⟩:=Pc h.hc hj';refine⟨(dZ f.aj)[j]!.ag,(dZ f.aj)[j]!.ah,?_,k2,zq _,zq _⟩;rw[eG _ _ _ hj'];unfold Bw iv;by_cases e:(dZ f.aj)[j]!.ag=(dZ f.aj)[j]!.ah
 ·rw[bG e,bG e,<-e]
 ·rw[bP e,bP e]
def Zl{b:aa aH}(h:iG f b){i:Nat}(hi:i<b.length){x y:Int}(h1:x<=y)(h2:b[i]!.ag<=x)(h3:y<=b[i]!.ah):iG f (b.set i (iv x y)):=by
 refine⟨by rw[yx];exact h.len,λj hj=> ?_⟩;rw[yx]at hj;rw[lY _ _ _ _ hj];by_cases e:i=j
 ·subst e;obtain⟨x',y',e',k1,k2,k3⟩:=h.el i hj;rw[e',Pj]at h2;rw[e',Jn]at h3;exact⟨x,y,by rw[bG rfl],h1,by omega,by omega⟩
 ·rw[bP e];exact h.el j hj
def alT{b:aa aH}(h:iG f b){i:Nat}(hi:i<b.length){a:Int}(h1:b[i]!.ag<=a)(h2:a<b[i]!.ah):iG f (Vx b i a):=Zl h hi h1 (zq _) (by omega)
def aky{b:aa aH}(h:iG f b){i:Nat}(hi:i<b.length){a:Int}(h1:b[i]!.ag<=a)(h2:a<b[i]!.ah):iG f (Wq b i a):=Zl h hi (by omega) (by omega) (zq _)
def iG.ask{b:aa aH}(h:iG f b)(c:Cx f v):uc f v b=0:=by
 have hq:=c.hq;have hc:=c.hc;unfold cdA at hq;unfold uc;by_cases h2:v.aU.length=(f.aj.filter (kd 2)).length
 case neg=>rw[bP (by simpa using hc),bG h2]at hq;cases hq
 by_cases h3:cq (jg v.aU) (f.aj.filter (kd 2)) 0=0
 case neg=>rw[bP (by simpa using hc),bP (by simpa using h2)]at hq;exact dF hq h3
 rw[bP (by simpa using hc),bP (by simpa using h2),bP (by simpa using h3),bP (by simpa using h.len)];refine F7 _ _ λj hj=> ?_;rw[yl];have hj':j<b.length:=by rw[h.len];exact hj
 obtain⟨x,y,e,h1,h2,h3⟩:=h.el j hj';obtain⟨k1,k2,k3⟩:=Pc hc hj;have hn:NN b[j]! :=by rw[e];exact awM (by omega) h1 (by omega)
 have el:b[j]!.ag=x:=by rw[e,Pj]
 have eh:b[j]!.ah=y:=by rw[e,Jn]
 unfold nw;rw[dY (.inr hn)];simp only[bD,bA];have hs:We b[j]! =ct b[j]! :=by unfold We;rw[bG (.inr hn)]
 have hp:=size_pos hn;rw[hs,gd,gd,gd];rfl
def bdX(f:aN)(v:bY)(b:aa aH):Int:=aqG (gM f v b) (ij b)
def sgX(f:aN)(v:bY)(b:aa aH):Bool:=sgB (gM f v b)
def obX(f:aN)(v:bY)(b:aa aH):aD:=if sgX f v b=O then ag0 (gM f v b)else⟨[],0⟩
def iG.QT{b:aa aH}(h:iG f b)(c:Cx f v):QT f v b=V (bdX f v b,0):=by
 have ha:=h.ask c;have e20:=akZ (v:=v) (box:=b) c.hN c.hh c.hl;rw[bG ha]at e20;have hfit:=Co ha;have hbl:b.length<=1000000:=by have:=ou c;rw[h.len];omega
 exact avG e20 (TE hfit) hfit.nn hbl hfit.vol.2
def iG.US{b:aa aH}(h:iG f b)(c:Cx f v):US f v b=V (obX f v b,sgX f v b,0):=by
 have ha:=h.ask c;have e20:=akZ (v:=v) (box:=b) c.hN c.hh c.hl;rw[bG ha]at e20;have hfit:=Co ha;have:=aw6 e20 (TE hfit);rw[this];unfold obX sgX;cases sgB (gM f v b)<;>rfl
def iG.obl{b:aa aH}(h:iG f b)(c:Cx f v):(obX f v b).aW.length<=8:=by
 unfold obX;split
 ·unfold ag0;rw[zx];exact(ZC (Co (h.ask c))).1
 ·exact yZ _
def cellOf(f:aN)(v:bY)(p:Part):dX:=⟨p.bR,p.cA,p.jo,p.aq,bdX f v p.bR,sgX f v p.bR,obX f v p.bR⟩
def gD(l:aa Part)(k i:Nat)(a:Int):aa Part:=
 l.set k ⟨(i:Int),a,[(l.length:Int),((l.length+1:Nat):Int)],l[k]!.bR⟩++[⟨0,0,[],Vx l[k]!.bR i a⟩,⟨0,0,[],Wq l[k]!.bR i a⟩]
def akn{l:aa aH}(h:l.length<=1000000):Wc l=V l:=by unfold Wc;rw[ig]
def Sa{b:aa aH}(h:b.length<=1000000){i:Nat}(hi:i<b.length){a:Int}(h1: -1048576<=a)(h2:a<=1048576):OR b (i:Int) a=V (Vx b i a,Wq b i a):=by
 have hw:i64.wrap (a+1)=a+1:=aG;have i1:(i:Int)<(b.length:Int):=by omega
 have i2:(0:Int)<=(i:Int):=by omega
 unfold OR;simp only[akn h,ze,i1,i2,dA,cF,hi,ad0,hw];rfl
def Tj{b:aa aH}(h:iG f b)(c:Cx f v){l:aa dX}(hl:l.length<=1000000):UJ b ⟨f,v,l⟩=V ⟨f,v,l++[cellOf f v ⟨0,0,[],b⟩]⟩:=by
 have:(l++[cellOf f v ⟨0,0,[],b⟩]).length<=1073741824:=by rw[zl,yM];omega
 unfold UJ;simp only[h.QT c,h.US c];exact bG this
def Cy(l:aa Part)(k:Nat)(q:Part){x:dX}(hx:x=cellOf f v q):(l.map (cellOf f v)).set k x=(l.set k q).map (cellOf f v):=by rw[hx,<-List.map_set]
def ajh(c:Cx f v){l:aa Part}(hl:l.length<=100000){k i:Nat}(hk:k<l.length)(hb:iG f l[k]!.bR)(hi:i<l[k]!.bR.length){a:Int}(h1:l[k]!.bR[i]!.ag<=a)(h2:a<l[k]!.bR[i]!.ah):
  Xt (k:Int) (i:Int) a ⟨f,v,l.map (cellOf f v)⟩=V ⟨f,v,(gD l k i a).map (cellOf f v)⟩:=by
 have hbl:l[k]!.bR.length<=1000000:=by have:=ou c;rw[hb.len];omega
 have hd:=hb.bd c.hc hi;have O4:=Sa hbl hi (a:=a) (by omega) (by omega);have ek:(l.map (cellOf f v))[k]! =cellOf f v l[k]! :=eG _ _ _ hk;have k1:(k:Int)<(l.length:Int):=by omega
 have k2:(0:Int)<=(k:Int):=by omega
 have hw:i64.wrap ((l.length:Int)+1)=((l.length+1:Nat):Int):=fG (n:=1000000) (by omega) (by omega);have g0:lz ⟨f,v,l.map (cellOf f v)⟩ (k:Int) (i:Int)=(l.set k ⟨(i:Int),l[k]!.jo,l[k]!.aq,l[k]!.bR⟩).map (cellOf f v):=by
  unfold lz;rw[ze];exact Cy l k _ (by dsimp only;rw[ek];rfl)
 have g1:lD ⟨f,v,l.map (cellOf f v)⟩ (k:Int) (i:Int) a=(l.set k ⟨(i:Int),a,l[k]!.aq,l[k]!.bR⟩).map (cellOf f v):=by
  unfold lD;rw[g0,ze,eG _ _ _ (by simpa using hk),lY _ _ _ _ hk,bG rfl];exact(Cy _ k ⟨(i:Int),a,l[k]!.aq,l[k]!.bR⟩ rfl).trans (by rw[List.set_set])
 have g2:((l.set k ⟨(i:Int),a,l[k]!.aq,l[k]!.bR⟩).map (cellOf f v))[k]! =cellOf f v ⟨(i:Int),a,l[k]!.aq,l[k]!.bR⟩:=by
  rw[eG _ _ _ (by simpa using hk),lY _ _ _ _ hk,bG rfl]
 have e1:=Tj (alT hb hi h1 h2) c (l:=(l.set k ⟨(i:Int),a,[(l.length:Int),((l.length+1:Nat):Int)],l[k]!.bR⟩).map (cellOf f v)) (by simp;omega);have e2:=Tj (aky hb hi h1 h2) c (l:=(l.set k ⟨(i:Int),a,[(l.length:Int),((l.length+1:Nat):Int)],l[k]!.bR⟩).map (cellOf f v)++[cellOf f v ⟨0,0,[],Vx l[k]!.bR i a⟩]) (by simp;omega);have e3:((l.set k ⟨(i:Int),a,l[k]!.aq,l[k]!.bR⟩).map (cellOf f v)).set k ⟨l[k]!.bR,(i:Int),a,[(l.length:Int),((l.length+1:Nat):Int)],bdX f v l[k]!.bR,sgX f v l[k]!.bR,obX f v l[k]!.bR⟩=(l.set k ⟨(i:Int),a,[(l.length:Int),((l.length+1:Nat):Int)],l[k]!.bR⟩).map (cellOf f v):=by
  exact(Cy _ k ⟨(i:Int),a,[(l.length:Int),((l.length+1:Nat):Int)],l[k]!.bR⟩ rfl).trans (by rw[List.set_set])
 unfold Xt;simp only[g0,g1,g2,ek,zx,yx,ze,k1,k2,hk,dA,cF,hw,cellOf,O4]at*;rw[e3,e1];simp only;rw[e2];simp only[gD,z8,yQ];rfl
end
def fH(l:aa Part):aa Int:=l.flatMap (·.aq)
structure WF (f:aN) (l:List Part):Prop where
 ne:0<l.length
 root:l[0]!.bR=nU f
 box:∀i,i<l.length->iG f l[i]!.bR
 kid:∀i,i<l.length->(l[i]!.aq=[]/\l[i]!.cA=0/\l[i]!.jo=0)\/
  ∃a b j:Nat,l[i]!.aq=[(a:Int),(b:Int)]/\i<a/\a<l.length/\i<b/\b<l.length/\a≠b/\l[i]!.cA=(j:Int)/\j<l[i]!.bR.length/\l[i]!.bR[j]!.ag<=l[i]!.jo/\l[i]!.jo<l[i]!.bR[j]!.ah/\
   l[a]!.bR=Vx l[i]!.bR j l[i]!.jo/\l[b]!.bR=Wq l[i]!.bR j l[i]!.jo
 cnt:∀k:Nat,k<l.length->(fH l).count (k:Int)=if k=0 then 0 else 1
def QX{l:aa Part}{k:Nat}(hk:k<l.length){q:Part}(h0:l[k]!.aq=[])(x:Int):(fH (l.set k q)).count x=(fH l).count x+q.aq.count x:=by
 have e1:l=l.take k++l[k]! ::l.drop (k+1):=by
  rw[getElem!_pos l k hk,<-xu hk,xw]
 have e2:l.set k q=l.take k++q::l.drop (k+1):=wD.trans (bG hk);unfold fH
 conv=>rhs;rw[e1]
 rw[e2];simp only[wG,xH,List.count_append,h0,List.count_nil];omega
def WF.abG{f:aN}{l:aa Part}(h:WF f l){x:Int}(hx:x∈fH l):∃i a:Nat,i<l.length/\x∈l[i]!.aq/\x=(a:Int)/\i<a/\a<l.length:=by
 unfold fH at hx;obtain⟨p,hp,hx⟩:=xP.1 hx;obtain⟨i,hi,rfl⟩:=yY hp;have e:=getElem!_pos l i hi;refine⟨i,?_⟩;rcases h.kid i hi with ⟨h1,_⟩|⟨a,b,j,h1,h2,h3,h4,h5,_⟩
 ·rw[<-e,h1]at hx;cases hx
 ·rw[<-e]at hx;have hx':=hx;rw[h1]at hx;rcases zB.1 hx with rfl|hx
  ·exact⟨a,hi,hx',rfl,h2,h3⟩
  ·rw[zy.1 hx]at hx' ⊢;exact⟨b,hi,hx',rfl,h4,h5⟩
def WF.parent{f:aN}{l:aa Part}(h:WF f l){k:Nat}(hk:k<l.length)(h0:k≠0):∃i,i<k/\(k:Int)∈l[i]!.aq:=by
 have:=h.cnt k hk;rw[bP h0]at this;have hm:(k:Int)∈fH l:=List.count_pos_iff.1 (by omega);obtain⟨i,a,h1,h2,h3,h4,h5⟩:=h.abG hm;have:a=k:=by omega
 subst this;exact⟨i,h4,h2⟩
def Mw{f:aN}{v:bY}(c:Cx f v):WF f [⟨0,0,[],nU f⟩] where
 ne:=Nat.zero_lt_one
 root:=rfl
 box i hi:=by
  have:i=0:=by simpa using hi
  subst this;exact Tz c
 kid i hi:=by
  have:i=0:=by simpa using hi
  subst this;exact .inl ⟨rfl,rfl,rfl⟩
 cnt k hk:=by
  have:k=0:=by simpa using hk
  subst this;rfl
def sX(l:aa Part)(k i:Nat)(a:Int):(gD l k i a).length=l.length+2:=by unfold gD;simp
def Cv(l:aa Part)(k i:Nat)(a:Int){j:Nat}(hj:j<l.length):(gD l k i a)[j]! =if k=j then⟨(i:Int),a,[(l.length:Int),((l.length+1:Nat):Int)],l[k]!.bR⟩else l[j]! :=by
 unfold gD;rw[ZB _ _ _ (by simpa using hj),lY _ _ _ _ hj]
def OV(l:aa Part)(k i:Nat)(a:Int):(gD l k i a)[l.length]! =⟨0,0,[],Vx l[k]!.bR i a⟩/\(gD l k i a)[l.length+1]! =⟨0,0,[],Wq l[k]!.bR i a⟩:=by
 unfold gD;have e:l.length=(l.set k ⟨(i:Int),a,[(l.length:Int),((l.length+1:Nat):Int)],l[k]!.bR⟩).length:=by simp
 constructor
 ·have:=Fo (l.set k ⟨(i:Int),a,[(l.length:Int),((l.length+1:Nat):Int)],l[k]!.bR⟩) [(⟨0,0,[],Vx l[k]!.bR i a⟩:Part),⟨0,0,[],Wq l[k]!.bR i a⟩] 0 (by simp)
  rwa [<-e,yq]at this
 ·have:=Fo (l.set k ⟨(i:Int),a,[(l.length:Int),((l.length+1:Nat):Int)],l[k]!.bR⟩) [(⟨0,0,[],Vx l[k]!.bR i a⟩:Part),⟨0,0,[],Wq l[k]!.bR i a⟩] 1 (by simp)
  rwa [<-e]at this
def L6{f:aN}{l:aa Part}(h:WF f l){k i:Nat}(hk:k<l.length)(h0:l[k]!.aq=[])(hi:i<l[k]!.bR.length){a:Int}(h1:l[k]!.bR[i]!.ag<=a)(h2:a<l[k]!.bR[i]!.ah):WF f (gD l k i a):=by
 have hl:=sX l k i a;obtain⟨n1,n2⟩:=OV l k i a;have hb:=h.box k hk;have obx:∀j,j<l.length->(gD l k i a)[j]!.bR=l[j]!.bR:=λj hj=>by
  rw[Cv l k i a hj];by_cases e:k=j
  ·rw[bG e,e]
  ·rw[bP e]
 refine⟨by omega,by rw[obx 0 h.ne];exact h.root,λj hj=> ?_,λj hj=> ?_,λx hx=> ?_⟩
 ·rw[hl]at hj;by_cases j1:j<l.length
  ·rw[obx j j1];exact h.box j j1
  ·by_cases j2:j=l.length
   ·rw[j2,n1];exact alT hb hi h1 h2
   ·rw[show j=l.length+1 by omega,n2];exact aky hb hi h1 h2
 ·rw[hl]at hj;by_cases j1:j<l.length
  ·rw[Cv l k i a j1];by_cases e:k=j
   ·rw[bG e];subst e;refine .inr ⟨l.length,l.length+1,i,rfl,hk,by omega,by omega,by omega,by omega,rfl,hi,h1,h2,?_,?_⟩
    ·rw[n1]
    ·rw[n2]
   ·rw[bP e];rcases h.kid j j1 with q|⟨a',b',i',q1,q2,q3,q4,q5,q6,q7,q8,q9,q10,q11,q12⟩
    ·exact .inl q
    ·exact .inr ⟨a',b',i',q1,q2,by omega,q4,by omega,q6,q7,q8,q9,q10,by rw[obx a' q3];exact q11,by rw[obx b' q5];exact q12⟩
  ·by_cases j2:j=l.length
   ·rw[j2,n1];exact .inl ⟨rfl,rfl,rfl⟩
   ·rw[show j=l.length+1 by omega,n2];exact .inl ⟨rfl,rfl,rfl⟩
 ·rw[hl]at hx;have e:(fH (gD l k i a)).count (x:Int)=(fH l).count (x:Int)+[(l.length:Int),((l.length+1:Nat):Int)].count (x:Int):=by
   unfold gD;have:fH (l.set k ⟨(i:Int),a,[(l.length:Int),((l.length+1:Nat):Int)],l[k]!.bR⟩++[⟨0,0,[],Vx l[k]!.bR i a⟩,⟨0,0,[],Wq l[k]!.bR i a⟩])=fH (l.set k ⟨(i:Int),a,[(l.length:Int),((l.length+1:Nat):Int)],l[k]!.bR⟩):=by
    unfold fH;simp
   rw[this,QX hk h0]
  rw[e];have hc:∀y z:Nat,([(y:Int),(z:Int)]).count (x:Int)=(if y=x then 1 else 0)+(if z=x then 1 else 0):=λy z=>by
   simp only[List.count_cons,List.count_nil,beq_iff_eq,yl,Int.natCast_inj];omega
  rw[hc];by_cases x1:x<l.length
  ·rw[h.cnt x x1,bP (show ¬l.length=x by omega),bP (show ¬l.length+1=x by omega)];rfl
  ·have:(fH l).count (x:Int)=0:=List.count_eq_zero.2 λhm=>by
    obtain⟨i',a',q1,q2,q3,q4,q5⟩:=h.abG hm;omega
   rw[this,bP (show ¬x=0 by have:=h.ne;omega)];by_cases x2:x=l.length
   ·rw[bG x2.symm,bP (show ¬l.length+1=x by omega)]
   ·rw[bP (show ¬l.length=x by omega),bG (show l.length+1=x by omega)]
def Wi(c:aa Cell)(i:Int)(n:Int)(t16:aa Cell)(t17 t18:Int)(ks:aa Int)(P:aa Int)(hl:ks.length<=1000000)(hk:∀x∈ks,∃a:Nat,x=(a:Int)/\i<(a:Int)/\a<c.length)(hP:P.length=c.length)(hb:∀k,k<P.length->0<=P[k]!/\P[k]!<=1000000):
  ∃Q,ER ⟨c,P,i,t16,t17,t18,ks,(ks.length:Int),0⟩=V ⟨c,Q,i,t16,t17,t18,ks,(ks.length:Int),(ks.length:Int)⟩/\Q.length=P.length/\∀k,k<P.length->Q[k]! =P[k]! +((ks.count (k:Int):Nat):Int):=by
 obtain⟨Q,e,h1,h2⟩:=cZ (rnd:=Dm) ks.length (λj (Q:aa Int)=>⟨c,Q,i,t16,t17,t18,ks,(ks.length:Int),(j:Int)⟩) (λj Q=>Q.length=P.length/\∀k,k<P.length->Q[k]! =P[k]! +(((ks.take j).count (k:Int):Nat):Int)) (λj Q hj ⟨h1,h2⟩=>by
  have hw:=fG hj hl;have i1:(j:Int)<(ks.length:Int):=by omega
  have i2:(0:Int)<=(j:Int):=by omega
  obtain⟨a,ea,a1,a2⟩:=hk ks[j]! (bh hj);have a3:¬(a:Int)<=i:=by omega
  have a4:¬(c.length:Int)<=(a:Int):=by omega
  have a5:(a:Int)<(Q.length:Int):=by omega
  have a6:(0:Int)<=(a:Int):=by omega
  have a7:a<Q.length:=by omega
  have hq:=h2 a (by omega);have hbb:=hb a (by omega);have hcl:(ks.take j).count (a:Int)<=1000000:=by
   have:=List.count_le_length (a:=(a:Int)) (l:=ks.take j);rw[zH]at this;omega
  have hw2:i64.wrap (Q[a]! +1)=Q[a]! +1:=aG;refine⟨Q.set a (Q[a]! +1),?_,by rw[yx];exact h1,λk hk=> ?_⟩
  ·unfold Dm;simp only[ze,i1,i2,cR,bD,dA,cF,ea,a3,a4,a5,a6,a7,eR,bA,hw,hw2]
  ·rw[lY _ _ _ _ (by omega),bI hj,List.count_append,ea];by_cases e:a=k
   ·subst e;rw[bG rfl,hq];simp;omega
   ·rw[bP e,h2 k hk];have:([(a:Int)]).count (k:Int)=0:=List.count_eq_zero.2 (by simp;omega);rw[this];simp) (λQ _=>by unfold Dm;simp) (b:=P) ⟨rfl,λk _=>by simp⟩
 rw[zD]at h2;exact⟨Q,e,h1,h2⟩
structure ak8 (l:List Part) (c:List Cell):Prop where
 len:c.length=l.length
 el:∀i,i<l.length->c[i]!.cA=l[i]!.cA/\c[i]!.jo=l[i]!.jo/\c[i]!.aq=l[i]!.aq
def Bb{l:aa Part}{i:Nat}(h:i<l.length):fH (l.take (i+1))=fH (l.take i)++l[i]!.aq:=by
 unfold fH;rw[bI h,wG];simp
def WF.uK{f:aN}{l:aa Part}(h:WF f l){i:Nat}(hi:i<l.length):l[i]!.aq.length<=2:=by
 rcases h.kid i hi with ⟨h1,_⟩|⟨a,b,j,h1,_⟩<;>rw[h1]<;>simp
def WF.Up{f:aN}{l:aa Part}(h:WF f l):∀i,i<=l.length->(fH (l.take i)).length<=2*i
 |0,_=>by simp[fH]
 |i+1,hi=>by
  have:=h.Up i (by omega);have:=h.uK (i:=i) (by omega);rw[Bb (by omega),zl];omega
def afu{f:aN}{l:aa Part}(h:WF f l)(hl:l.length<=100000){c:aa Cell}(hc:ak8 l c):Vm c=V O:=by
 have hn:c.length=l.length:=hc.len;have h0:=h.ne;obtain⟨P,e,hP,hPk⟩:=cZ (rnd:=DP) c.length (λi (P:aa Int)=>⟨c,P,c,(c.length:Int),(i:Int)⟩) (λi P=>P.length=c.length/\∀k,k<c.length->P[k]! =(((fH (l.take i)).count (k:Int):Nat):Int)) (λi P hi ⟨p1,p2⟩=>by
  have hw:=fG hi (by omega);have i1:(i:Int)<(c.length:Int):=by omega
  have i2:(0:Int)<=(i:Int):=by omega
  have hil:i<l.length:=by omega
  obtain⟨c1,c2,c3⟩:=hc.el i hil;have hkl:=h.uK hil;have hall:∀x∈c[i]!.aq,∃a:Nat,x=(a:Int)/\(i:Int)<(a:Int)/\a<c.length:=λx hx=>by
   rw[c3]at hx;rcases h.kid i hil with ⟨q1,_⟩|⟨a,b,j,q1,q2,q3,q4,q5,_⟩
   ·rw[q1]at hx;cases hx
   ·rw[q1]at hx;rcases zB.1 hx with rfl|hx
    ·exact⟨a,rfl,by omega,by omega⟩
    ·rw[zy.1 hx];exact⟨b,rfl,by omega,by omega⟩
  obtain⟨Q,e1,e2,e3⟩:=Wi c (i:Int) 0 c (c.length:Int) (i:Int) c[i]!.aq P (by rw[c3];omega) hall p1 (λk hk=>by
   rw[p2 k (by omega)];have:=h.Up i (by omega);have:=List.count_le_length (a:=(k:Int)) (l:=fH (l.take i));omega)
  refine⟨Q,?_,by omega,λk hk=> ?_⟩
  ·unfold DP;rcases h.kid i hil with ⟨q1,q2,q3⟩|⟨a,b,j,q1,_⟩
   ·have z:c[i]!.aq=[]:=by rw[c3,q1]
    have z1:c[i]!.cA=0:=by rw[c1,q2]
    have z2:c[i]!.jo=0:=by rw[c2,q3]
    rw[z]at e1;simp only[yG]at e1;simp only[ze,i1,i2,cR,bD,dA,cF,z,z1,z2,yG,eR,bA,e1,hw];simp
   ·have z:c[i]!.aq=[(a:Int),(b:Int)]:=by rw[c3,q1]
    rw[z]at e1;simp only[yX,yG]at e1;simp only[ze,i1,i2,cR,bD,dA,cF,z,yX,yG,e1,hw];simp
  ·rw[e3 k (by omega),p2 k hk,Bb hil,List.count_append,c3];simp) (λP _=>by unfold DP;simp) (b:=zk c.length 0) ⟨by simp,λk hk=>by
    rw[getElem!_pos _ k (by simpa using hk)];simp[fH]⟩
 have e':IS ⟨c,zk c.length 0,c,(c.length:Int),0⟩=V ⟨c,P,c,(c.length:Int),(c.length:Int)⟩:=e;rw[hn,zD]at hPk;have hfin:∀k,k<l.length->P[k]! =if k=0 then 0 else 1:=λk hk=>by
  rw[hPk k hk,h.cnt k hk];split<;>rfl
 obtain⟨-,e2,-⟩:=cZ (rnd:=Fb) P.length (λi (_:Unit)=>⟨P,(P.length:Int),(i:Int)⟩) (λ_ _=>True) (λi b hi _=>by
  have hw:=fG hi (by omega);have i1:(i:Int)<(P.length:Int):=by omega
  have i2:(0:Int)<=(i:Int):=by omega
  have hp:=hfin i (by omega);refine⟨(),?_,trivial⟩;unfold Fb;by_cases e:i=0
  ·subst e;rw[bG rfl]at hp;simp only[ze,i1,i2,hi,cR,bD,dA,cF,hp,hw];simp[hp]
  ·rw[bP e]at hp;have:¬(i:Int)=0:=by omega
   simp only[ze,i1,i2,hi,cR,bD,dA,cF,hp,hw,this];simp) (λb _=>by unfold Fb;simp) (b:=()) trivial
 have e2':H6 ⟨P,(P.length:Int),0⟩=V ⟨P,(P.length:Int),(P.length:Int)⟩:=e2;have n0:¬(c.length:Int)=0:=by omega
 have n1:(0:Int)<=(c.length:Int)/\(c.length:Int)<=(c.length:Int)/\(c.length:Int)<=1073741824:=by omega
 unfold Vm;simp only[n0,eR,bA,bG n1,ze,e',yo,e2']
def MQ(l:aa aD):Prop:=l.Pairwise λx y=>fq x y<=0
def AL(l:aa aD):(FB l).Perm l:=List.mergeSort_perm _ _
def XS(l:aa aD):MQ (FB l):=by
 unfold FB MQ;have:=List.pairwise_mergeSort (le:=λx y=> !Go.Proofs.ltOf fq y x) (λa b c h1 h2=>by
  simp only[Go.Proofs.ltOf,Bool.not_eq_true',decide_eq_false_iff_not]at*;have n1:=eF a b;have n2:=eF b c;have n3:=eF a c
  have:=oo a b c (by omega) (by omega);omega) (λa b=>by
  simp only[Go.Proofs.ltOf,yL,Bool.not_eq_true',decide_eq_false_iff_not];have:=eF a b;omega) l
 refine this.imp λ{a b} h=> ?_;simp only[Go.Proofs.ltOf,Bool.not_eq_true',decide_eq_false_iff_not]at h;have:=eF a b;omega
def Di:∀(l:aa aD) (p:aD),(vz p l).Sublist l
 |[],_=> .slnil
 |y::l,p=>by
  unfold vz;split
  ·exact(Di l y).cons y
  ·exact(Di l y).cons_cons y
def Ft(l:aa aD):(EH l).Sublist l:=by
 cases l with
 |nil=>exact .slnil
 |cons x l=>exact(Di l x).cons_cons x
def YU{l:aa aD}(h:MQ l):MQ (EH l):=List.Pairwise.sublist (Ft l) h
def og(c:aa dX):aa aD:=(c.filter (·.ei)).map (·.dI)
def BE(c:aa dX):aa aD:=EH (FB (og c))
def WZ(c:aa dX):MQ (BE c):=YU (XS _)
def LJ(c:aa dX):(BE c).length<=c.length:=by
 have h1:=(Ft (FB (og c))).length_le;rw[(AL _).length_eq]at h1;have h2:=yp (λx:dX=>x.ei) c;unfold BE;unfold og at*;rw[zx]at h1;omega
def Xz{c:aa dX}{o:aD}(h:o∈BE c):∃x∈c,x.ei=O/\x.dI=o:=by
 have:=(AL _).mem_iff.1 ((Ft _).subset h);unfold og at this;obtain⟨x,h1,h2⟩:=zL.1 this;obtain⟨h3,h4⟩:=zZ.1 h1;exact⟨x,h3,h4,h2⟩
def V4{c:aa dX}{i:Nat}(h:i<c.length):og (c.take (i+1))=if c[i]!.ei then og (c.take i)++[c[i]!.dI]else og (c.take i):=by
 unfold og;rw[bI h,y6,z8];cases e:c[i]!.ei
 ·rw[List.filter_cons_of_neg (by rw[e];decide)];simp
 ·rw[List.filter_cons_of_pos e];rfl
def ahm(f:aN)(v:bY){c:aa dX}(hl:c.length<=1000000):Zf ⟨f,v,c⟩=V (BE c,⟨f,v,c⟩):=by
 obtain⟨L,e,hL⟩:=cZ (rnd:=DU) c.length (λi (L:aa aD)=>⟨L,c,(c.length:Int),(i:Int),⟨f,v,c⟩⟩) (λi L=>L=og (c.take i)) (λi L hi hb=>by
  have hw:=fG hi hl;have i1:(i:Int)<(c.length:Int):=by omega
  have i2:(0:Int)<=(i:Int):=by omega
  refine⟨og (c.take (i+1)),?_,rfl⟩;subst hb;have hlen:(og (c.take i)).length<=1000000:=by
   unfold og;rw[zx];have:=yp (λx:dX=>x.ei) (c.take i);rw[zH]at this;omega
  have hl2:(og (c.take i)++[c[i]!.dI]).length<=1073741824:=by rw[zl,yM];omega
  rw[V4 hi];unfold DU;cases es:c[i]!.ei with
  |true=>simp only[ze,i1,i2,hi,cR,bD,dA,cF,es,hl2,hw]
  |false=>simp only[ze,i1,i2,hi,cR,bD,bA,dA,cF,es,hw,yu,gA]) (λL _=>by unfold DU;simp) (b:=[]) (by simp[og])
 rw[zD]at hL;subst hL;have e':Hu ⟨[],c,(c.length:Int),0,⟨f,v,c⟩⟩=V ⟨og c,c,(c.length:Int),(c.length:Int),⟨f,v,c⟩⟩:=e;have hlen:(og c).length<=1000000:=by
  unfold og;rw[zx];have:=yp (λx:dX=>x.ei) c;omega
 have h2:(FB (og c)).length<=1073741824:=by rw[(AL _).length_eq];omega
 unfold Zf;simp only[e',yo,eR,bA,UD,VI,bG (show (og c).length<=1073741824 by omega),bG h2];rfl
def sA{α:Type}[Inhabited α](p:α->Bool):∀(l:aa α) (k:Nat),k<=l.length->(∀j,j<l.length->p l[j]! =J (j<k))->(l.filter p).length=k
 |[],k,hk,_=>by simp at hk ⊢;omega
 |x::l,0,_,h=>by
  have h0:=h 0 (by simp);have:p x=G:=by simpa using h0
  rw[List.filter_cons_of_neg (by simp[this])];exact sA p l 0 (yZ _) λj hj=>by
   have:=h (j+1) (by simpa using hj);simpa using this
 |x::l,k+1,hk,h=>by
  have h0:=h 0 (by simp);have:p x=O:=by simpa using h0
  rw[List.filter_cons_of_pos this,yX,sA p l k (by simpa using hk) λj hj=>by
   have:=h (j+1) (by simpa using hj);simpa using this]
def api(l:aa aD)(o:aD):Nat:=(l.filter λx=>J (fq x o<0)).length
def ang(l:aa aD)(o:aD):Bool:=l.any λx=>J (fq x o=0)
def Jj{l:aa aD}(h:MQ l){i j:Nat}(hij:i<j)(hj:j<l.length):fq l[i]! l[j]!<=0:=by
 rw[getElem!_pos l i (by omega),getElem!_pos l j hj];exact List.pairwise_iff_getElem.1 h i j (by omega) hj hij
def adE{l:aa aD}(o:aD){k:Nat}(hk:k<=l.length)(h1:∀j,j<k->fq l[j]! o<0)(h2:∀j,k<=j->j<l.length->0<=fq l[j]! o):api l o=k:=
 sA _ l k hk λj hj=>by
  by_cases e:j<k
  ·rw[bW e];exact bW (h1 j e)
  ·rw[bX e];have:=h2 j (by omega) hj;exact gd
def acp{l:aa aD}(hs:MQ l)(o:aD){k:Nat}(hk:k<=l.length)(h1:∀j,j<k->fq l[j]! o<0)(h2:∀j,k<=j->j<l.length->0<=fq l[j]! o):ang l o=J (k<l.length/\fq l[k]! o=0):=by
 unfold ang;by_cases e:k<l.length/\fq l[k]! o=0
 ·rw[bW e,wu];exact⟨l[k]!,bh e.1,bW e.2⟩
 ·rw[bX e,List.any_eq_false];intro x hx;obtain⟨j,hj,rfl⟩:=yY hx;rw[decide_eq_true_eq];intro he;rw[<-getElem!_pos l j hj]at he;by_cases jk:j<k
  ·have:=h1 j jk;omega
  ·by_cases jk2:j=k
   ·exact e ⟨jk2▸hj,jk2▸he⟩
   ·have a1:=Jj hs (show k<j by omega) hj;have a2:=h2 k (zo _) (by omega);have a3:=oo l[k]! l[j]! o a1 (by omega);exact e ⟨by omega,by omega⟩
def aCh{x:Int}(h1:0<=x)(h2:x<9223372036854775808):cL IntKind.u64 (IntKind.u64.wrap x) 1=x/2:=by
 have:IntKind.u64.wrap x=x:=by simp[IntKind.wrap,IntKind.bits,IntKind.signed];omega
 rw[this];unfold cL;have e:(2:Int)^(min (1:Int).toNat IntKind.u64.bits)=2:=by decide
 rw[e,Int.fdiv_eq_ediv_of_nonneg _ (by omega)]
def ajr{l:aa aD}(hs:MQ l)(hl:l.length<=1000000)(o:aD)(ho:∀x∈l,x.aW.length<=9223372036854775807):Vu l o=V ((api l o:Int),ang l o):=by
 have key:∀(d lo_ hi_:Nat),hi_-lo_<=d->lo_<=hi_->hi_<=l.length->(∀j,j<lo_->fq l[j]! o<0)->(∀j,hi_<=j->j<l.length->0<=fq l[j]! o)->
   ∃k:Nat,tu ⟨l,(l.length:Int),(lo_:Int),(hi_:Int),o⟩=V ⟨l,(l.length:Int),(k:Int),(k:Int),o⟩/\k<=l.length/\(∀j,j<k->fq l[j]! o<0)/\∀j,k<=j->j<l.length->0<=fq l[j]! o:=by
  intro d;induction d with
  |zero=>
   intro a b h1 h2 h3 h4 h5;have:a=b:=by omega
   subst this;exact⟨a,cu λr=>by unfold pV;simp,h3,h4,h5⟩
  |succ d ih=>
   intro a b h1 h2 h3 h4 h5;by_cases hab:a=b
   ·subst hab;exact⟨a,cu λr=>by unfold pV;simp,h3,h4,h5⟩
   ·have hlt:(a:Int)<(b:Int):=by omega
    have w1:i64.wrap ((a:Int)+(b:Int))=(a:Int)+(b:Int):=aG;have s1:=aCh (x:=(a:Int)+(b:Int)) (by omega) (by omega);obtain⟨m,hm⟩:∃m:Nat,((a:Int)+(b:Int))/2=(m:Int):=⟨((a+b)/2:Nat),by omega⟩;have m1:a<=m/\m<b:=by omega
    have w2:i64.wrap (m:Int)=(m:Int):=aG;have w3:i64.wrap ((m:Int)+1)=((m+1:Nat):Int):=fG (n:=1000000) (by omega) (by omega);have i1:(m:Int)<(l.length:Int):=by omega
    have i2:(0:Int)<=(m:Int):=by omega
    have vO:=vm l[m]! o (ho _ (bh (by omega)));by_cases hc:fq l[m]! o<0
    ·have r:pV ⟨l,(l.length:Int),(a:Int),(b:Int),o⟩=V (V ⟨l,(l.length:Int),((m+1:Nat):Int),(b:Int),o⟩):=by
      unfold pV;simp only[hlt,cR,bD,w1,s1,hm,w2,w3,i1,i2,dA,cF,ze,vO,hc]
     obtain⟨k,q1,q2⟩:=ih (m+1) b (by omega) (by omega) h3 (λj hj=>by
      by_cases e:j=m
      ·rw[e];exact hc
      ·have:=Jj hs (show j<m by omega) (by omega);have n1:=eF l[j]! o;have n2:=eF l[m]! o
       have:=oo o l[j]! l[m]!;by_cases z:fq l[j]! o<0
       ·exact z
       ·have:=this (by omega) (by assumption);omega) h5
     exact⟨k,by unfold tu;rw[bQ r];exact q1,q2⟩
    ·have r:pV ⟨l,(l.length:Int),(a:Int),(b:Int),o⟩=V (V ⟨l,(l.length:Int),(a:Int),(m:Int),o⟩):=by
      unfold pV;simp only[hlt,cR,bD,w1,s1,hm,w2,i1,i2,dA,cF,ze,vO,hc,eR,bA]
     obtain⟨k,q1,q2⟩:=ih a m (by omega) (by omega) (by omega) h4 (λj hj1 hj2=>by
      by_cases e:j=m
      ·rw[e];omega
      ·have:=Jj hs (show m<j by omega) hj2;have n1:=eF l[j]! o;have n2:=eF l[m]! o
       by_cases z:fq l[j]! o<0
       ·have:=oo l[m]! l[j]! o (by assumption) (by omega);have:fq l[m]! o=0:=by omega
        have e3:=GP this;have:=oo o l[m]! l[j]! (by omega) (by assumption);omega
       ·omega)
     exact⟨k,by unfold tu;rw[bQ r];exact q1,q2⟩
 obtain⟨k,e,h1,h2,h3⟩:=key l.length 0 l.length (by omega) (by omega) (zo _) (λj hj=>by omega) (λj h1 h2=>by omega);have e':tu ⟨l,(l.length:Int),0,(l.length:Int),o⟩=V ⟨l,(l.length:Int),(k:Int),(k:Int),o⟩:=e;rw[adE o h1 h2 h3,acp hs o h1 h2 h3];unfold Vu;simp only[e',yo,eR,bA];by_cases hk:k<l.length
 ·have i1:(k:Int)<(l.length:Int):=by omega
  have i2:(0:Int)<=(k:Int):=by omega
  have vO:=vm l[k]! o (ho _ (bh hk));simp only[i1,i2,cR,bD,dA,cF,ze,vO,hk,true_and]
 ·have i1:¬(k:Int)<(l.length:Int):=by omega
  simp only[i1,eR,bA,hk,false_and]
def qE(L:aa aD)(c:dX):Cell:=⟨c.cA,c.jo,c.aq,if c.ei then[(api L c.dI:Int)]else[],c.gB⟩
def fU(c:aa dX):bJ:=⟨BE c,c.map (qE (BE c))⟩
structure Csz (c:List dX):Prop where
 len:c.length<=100000
 kid:∀i,i<c.length->c[i]!.aq.length<=1000
 obs:∀i,i<c.length->c[i]!.dI.aW.length<=1000
def Csz.mem{c:aa dX}(h:Csz c){o:aD}(ho:o∈BE c):o.aW.length<=1000:=by
 obtain⟨x,h1,_,rfl⟩:=Xz ho;obtain⟨i,hi,rfl⟩:=yY h1;rw[<-getElem!_pos c i hi];exact h.obs i hi
def Jy(f:aN)(v:bY){c:aa dX}(h:Csz c):Q9 ⟨f,v,c⟩=V (fU c,⟨f,v,c⟩):=by
 have hcl:=h.len;have hll:=LJ c;have aaX:=ahm f v (c:=c) (by omega);obtain⟨L,hL⟩:∃L,L=BE c:=⟨_,rfl⟩;have hLl:L.length<=c.length:=by rw[hL];exact hll
 obtain⟨b,e1,hb⟩:=cZ (rnd:=EI) L.length (λi (b:aa aD)=>⟨L,L,(L.length:Int),(i:Int),⟨f,v,c⟩,⟨[],[]⟩,⟨b,[]⟩⟩) (λi b=>b=L.take i) (λi b hi hb=>by
  have hw:=fG hi (by omega);have i1:(i:Int)<(L.length:Int):=by omega
  have i2:(0:Int)<=(i:Int):=by omega
  have Ws:=Zi (l:=L[i]!.aW) (h.mem (hL▸bh hi));have hl2:(b++[L[i]!]).length<=1073741824:=by rw[hb,zl,zH,yM];omega
  refine⟨b++[L[i]!],?_,by rw[hb,bI hi]⟩;unfold EI;simp only[ze,i1,i2,hi,cR,bD,dA,cF,Ws,hl2,hw]) (λb _=>by unfold EI;simp) (b:=[]) (by simp)
 rw[zD]at hb;subst hb;have e1':IW ⟨b,b,(b.length:Int),0,⟨f,v,c⟩,⟨[],[]⟩,⟨[],[]⟩⟩=V ⟨b,b,(b.length:Int),(b.length:Int),⟨f,v,c⟩,⟨[],[]⟩,⟨b,[]⟩⟩:=e1;obtain⟨C,e2,hC⟩:=cZ (rnd:=Da) c.length (λi (C:aa Cell)=>⟨b,c,(c.length:Int),(i:Int),⟨f,v,c⟩,⟨[],[]⟩,⟨b,C⟩⟩) (λi C=>C=(c.take i).map (qE b)) (λi C hi hC=>by
  have hw:=fG hi (by omega);have i1:(i:Int)<(c.length:Int):=by omega
  have i2:(0:Int)<=(i:Int):=by omega
  have Ws:=Zi (l:=c[i]!.aq) (h.kid i hi);have af4:=ajr (l:=b) (by rw[hL];exact WZ c) (by omega) c[i]!.dI (λx hx=>by have:=h.mem (hL▸hx);omega);have hl2:∀x:Cell,(C++[x]).length<=1073741824:=λx=>by rw[hC,zl,zx,zH,yM];omega
  refine⟨C++[qE b c[i]!],?_,by rw[hC,bI hi,z8];rfl⟩;unfold Da;cases es:c[i]!.ei with
  |true=>simp only[ze,i1,i2,hi,cR,bD,dA,cF,Ws,es,af4,hl2,hw,qE]
  |false=>simp only[ze,i1,i2,hi,cR,bD,bA,dA,cF,Ws,es,hl2,hw,qE,yu,gA]) (λC _=>by unfold Da;simp) (b:=[]) (by simp)
 rw[zD]at hC;subst hC;have e2':Ja ⟨b,c,(c.length:Int),0,⟨f,v,c⟩,⟨[],[]⟩,⟨b,[]⟩⟩=V ⟨b,c,(c.length:Int),(c.length:Int),⟨f,v,c⟩,⟨[],[]⟩,⟨b,c.map (qE b)⟩⟩:=e2;unfold Q9;rw[<-hL]at aaX;simp only[aaX,e1',e2',yo,eR,bA,fU,<-hL]
end Go.Proofs.YtnfljbehcffmcaaGreat
end
noncomputable section
set_option maxRecDepth 100000
namespace Go.Proofs.YtnfljbehcffmcaaGreat
open Go Go.Iv
open Go.IntKind (i64 u64)
section
variable {f:aN} {v:bY}
def Ap(c:Cx f v){l:aa Part}(h:WF f l)(hl:l.length<=100000):Csz (l.map (cellOf f v)):=by
 refine⟨by simpa using hl,λi hi=> ?_,λi hi=> ?_⟩
 ·have hi':i<l.length:=by simpa using hi
  rw[eG _ _ _ hi'];have:=h.uK hi';show l[i]!.aq.length<=1000;omega
 ·have hi':i<l.length:=by simpa using hi
  rw[eG _ _ _ hi'];have:=(h.box i hi').obl c;show (obX f v l[i]!.bR).aW.length<=1000;omega
def M7(c:Cx f v):Gw f v=V (⟨f,v,[cellOf f v ⟨0,0,[],nU f⟩]⟩,0):=by
 have e76:=am0 f c.hN (by have:=c.hh;omega) c.hl;rw[bG c.hc]at e76;have hb:=Tz c;unfold Gw;simp only[e76,hb.QT c,hb.US c];rfl
def Nk(l:aa Part):ak8 l (fU (l.map (cellOf f v))).aS:=by
 refine⟨by simp[fU],λi hi=> ?_⟩;have e:(fU (l.map (cellOf f v))).aS[i]! =qE (BE (l.map (cellOf f v))) (cellOf f v l[i]!):=by
  show ((l.map (cellOf f v)).map (qE _))[i]! =_;rw[eG _ _ _ (by simpa using hi),eG _ _ _ hi]
 rw[e];exact⟨rfl,rfl,rfl⟩
def MJ(l:aa Int)(hl:l.length<=1000):m77 l l=V O:=by
 obtain⟨-,e,-⟩:=cZ (rnd:=Ld) l.length (λi (_:Unit)=>⟨l,l,(l.length:Int),(i:Int)⟩) (λ_ _=>True) (λi b hi _=>by
  have hw:=fG hi (by omega);have i1:(i:Int)<(l.length:Int):=by omega
  have i2:(0:Int)<=(i:Int):=by omega
  refine⟨(),?_,trivial⟩;unfold Ld;simp only[ze,i1,i2,cR,bD,bA,dA,cF,hw]) (λb _=>by unfold Ld;simp) (b:=()) trivial
 have e':SS ⟨l,l,(l.length:Int),0⟩=V ⟨l,l,(l.length:Int),(l.length:Int)⟩:=e;unfold m77;simp only[e',cR,bD,bA,yo,eR]
def U1(x:Cell)(h1:x.aq.length<=1000)(h2:x.dI.length<=1000):VG x x=V O:=by
 unfold VG;simp only[cR,bD,MJ _ h1,MJ _ h2]
def UC(l:aa Cell)(hl:l.length<=1000000)(h:∀i,i<l.length->l[i]!.aq.length<=1000/\l[i]!.dI.length<=1000):UR l l=V O:=by
 obtain⟨-,e,-⟩:=cZ (rnd:=FC) l.length (λi (_:Unit)=>⟨l,l,(l.length:Int),(i:Int)⟩) (λ_ _=>True) (λi b hi _=>by
  have hw:=fG hi hl;have i1:(i:Int)<(l.length:Int):=by omega
  have i2:(0:Int)<=(i:Int):=by omega
  refine⟨(),?_,trivial⟩;unfold FC;simp only[ze,i1,i2,cR,bD,bA,dA,cF,U1 _ (h i hi).1 (h i hi).2,hw]) (λb _=>by unfold FC;simp) (b:=()) trivial
 have e':Kn ⟨l,l,(l.length:Int),0⟩=V ⟨l,l,(l.length:Int),(l.length:Int)⟩:=e;unfold UR;simp only[e',cR,bD,bA,yo,eR]
def Xu(l:aa aD)(hl:l.length<=1000000)(h:∀x∈l,x.aW.length<=1000):m71 l l=V O:=by
 obtain⟨-,e,-⟩:=cZ (rnd:=Ma) l.length (λi (_:Unit)=>⟨l,l,(l.length:Int),(i:Int)⟩) (λ_ _=>True) (λi b hi _=>by
  have hw:=fG hi hl;have i1:(i:Int)<(l.length:Int):=by omega
  have i2:(0:Int)<=(i:Int):=by omega
  have Ze:Vh l[i]! l[i]! =V O:=by
   unfold Vh;rw[vm _ _ (by have:=h _ (bh hi);omega),Gz];rfl
  refine⟨(),?_,trivial⟩;unfold Ma;simp only[ze,i1,i2,cR,bD,bA,dA,cF,Ze,hw]) (λb _=>by unfold Ma;simp) (b:=()) trivial
 have e':TK ⟨l,l,(l.length:Int),0⟩=V ⟨l,l,(l.length:Int),(l.length:Int)⟩:=e;unfold m71;simp only[e',cR,bD,bA,yo,eR]
def UI:∀{p:Part},p.aq=[]->p.cA=0->p.jo=0->p=⟨0,0,[],p.bR⟩
 |⟨_,_,_,_⟩,h1,h2,h3=>by cases h1;cases h2;cases h3;rfl
def UA{j:Int}{k:aa Int}:∀{p:Part},p.aq=k->p.cA=j->p=⟨j,p.jo,k,p.bR⟩
 |⟨_,_,_,_⟩,h1,h2=>by cases h1;cases h2;rfl
def Fj(c:Cx f v){l:aa Part}(h:WF f l)(hl:l.length<=8192):Ms f v (fU (l.map (cellOf f v)))=V (⟨f,v,l.map (cellOf f v)⟩,0):=by
 have hsz:=Ap c h (by omega);have hsh:=Nk (f:=f) (v:=v) l;obtain⟨C,hC⟩:∃C,C=(fU (l.map (cellOf f v))).aS:=⟨_,rfl⟩;have hCl:C.length=l.length:=by rw[hC];exact hsh.len
 rw[<-hC]at hsh;have h0:=h.ne;have hidl:=ou c;have WD:=afu h (by omega) hsh;obtain⟨s,hs⟩:∃s,s=fU (l.map (cellOf f v)):=⟨_,rfl⟩;rw[<-hs]at hC ⊢;obtain⟨B,e,hBl,hB⟩:=cZ (rnd:=rC) l.length (λi (B:aa (aa aH))=>⟨B,C,(l.length:Int),(i:Int),s,⟨f,v,(l.take i).map (cellOf f v)⟩⟩) (λi B=>B.length=l.length/\∀j,j<l.length->(j=0\/∃p,p<i/\(j:Int)∈l[p]!.aq)->B[j]! =l[j]!.bR) (λi B hi ⟨b1,b2⟩=>by
  have hw:=fG hi (by omega);have i1:(i:Int)<(l.length:Int):=by omega
  have i2:(0:Int)<=(i:Int):=by omega
  have i3:i<B.length:=by omega
  have eB:B[i]! =l[i]!.bR:=b2 i hi (by
   by_cases e:i=0
   ·exact .inl e
   ·obtain⟨p,p1,p2⟩:=h.parent hi e;exact .inr ⟨p,p1,p2⟩)
  have hb:=h.box i hi;have e25:=hb.QT c;have e26:=hb.US c;obtain⟨s1,s2,s3⟩:=hsh.el i hi;have elen:((l.take i).map (cellOf f v)).length=i:=by rw[zx,zH];omega
  have g2:fM ⟨B,C,(l.length:Int),(i:Int),s,⟨f,v,(l.take i).map (cellOf f v)⟩⟩ (bdX f v l[i]!.bR,0) (obX f v l[i]!.bR,sgX f v l[i]!.bR,0)=(l.take i++[(⟨0,0,[],l[i]!.bR⟩:Part)]).map (cellOf f v):=by
   unfold fM;simp only[ze,eB,z8,yc,yR];rfl
  have gl:((l.take i++[(⟨0,0,[],l[i]!.bR⟩:Part)]).map (cellOf f v)).length<=1073741824:=by simp;omega
  have gl2:((l.take i++[(⟨0,0,[],l[i]!.bR⟩:Part)]).map (cellOf f v)).length=i+1:=by simp;omega
  rcases h.kid i hi with ⟨q1,q2,q3⟩|⟨a,b,j,q1,q2,q3,q4,q5,q6,q7,q8,q9,q10,q11,q12⟩
  ·refine⟨B,?_,b1,λx hx hp=>b2 x hx ?_⟩
   ·have ek:C[i]!.aq=[]:=by rw[s3,q1]
    have et:(l.take (i+1)).map (cellOf f v)=(l.take i++[(⟨0,0,[],l[i]!.bR⟩:Part)]).map (cellOf f v):=by
     rw[bI hi];rw[<-UI q1 q2 q3]
    rw[et];unfold rC;simp only[ze,i1,i2,i3,hCl,b1,eB,cR,bD,dA,cF,e25,e26,g2,gl,ek,yG,hw,hi];rfl
   ·rcases hp with hp|⟨p,p1,p2⟩
    ·exact .inl hp
    ·refine .inr ⟨p,?_,p2⟩;by_cases e:p=i
     ·rw[e,q1]at p2;cases p2
     ·omega
  ·have hj:=q8;have hd:=hb.bd c.hc hj;have O4:=Sa (b:=l[i]!.bR) (by rw[hb.len];omega) hj (a:=l[i]!.jo) (by omega) (by omega);have ek:C[i]!.aq=[(a:Int),(b:Int)]:=by rw[s3,q1]
   have ein:C[i]!.cA=(j:Int):=by rw[s1,q7]
   have eat:C[i]!.jo=l[i]!.jo:=s2;refine⟨(B.set a (Vx l[i]!.bR j l[i]!.jo)).set b (Wq l[i]!.bR j l[i]!.jo),?_,by simpa using b1,λx hx hp=> ?_⟩
   ·have et:(l.take (i+1)).map (cellOf f v)=(l.take i++[l[i]!]).map (cellOf f v):=by rw[bI hi]
    have gx:∀q:Part,((l.take i++[q]).map (cellOf f v))[i]! =cellOf f v q:=λq=>by
     rw[eG _ _ _ (by simp;omega)];have:=Fo (l.take i) [q] 0 (by simp);rw[zH,Nat.min_eq_left (by omega)]at this;exact congrArg (cellOf f v) this
    have gs:∀q r:Part,((l.take i++[q]).map (cellOf f v)).set i (cellOf f v r)=(l.take i++[r]).map (cellOf f v):=λq r=>by
     rw[<-List.map_set]
     congr 1
     rw[List.set_append_right _ _ (by rw[zH];omega),zH,Nat.min_eq_left (by omega),xS];rfl
    have g0:gZ ⟨B,C,(l.length:Int),(i:Int),s,⟨f,v,(l.take i).map (cellOf f v)⟩⟩ (bdX f v l[i]!.bR,0) (obX f v l[i]!.bR,sgX f v l[i]!.bR,0)=(l.take i++[(⟨(j:Int),0,[],l[i]!.bR⟩:Part)]).map (cellOf f v):=by
     unfold gZ;rw[g2];simp only[ze,gx,ein];exact gs _ ⟨(j:Int),0,[],l[i]!.bR⟩
    have g1:gY ⟨B,C,(l.length:Int),(i:Int),s,⟨f,v,(l.take i).map (cellOf f v)⟩⟩ (bdX f v l[i]!.bR,0) (obX f v l[i]!.bR,sgX f v l[i]!.bR,0)=(l.take i++[(⟨(j:Int),l[i]!.jo,[],l[i]!.bR⟩:Part)]).map (cellOf f v):=by
     unfold gY;rw[g0];simp only[ze,gx,eat];exact gs _ ⟨(j:Int),l[i]!.jo,[],l[i]!.bR⟩
    have gl3:∀q:Part,((l.take i++[q]).map (cellOf f v)).length=i+1:=λq=>by simp;omega
    have Ws:=Zi (l:=[(a:Int),(b:Int)]) (by simp);have elast:=UA q1 q7;have gl4:i+1<=1073741824:=by omega
    have gf:=gs ⟨(j:Int),l[i]!.jo,[],l[i]!.bR⟩ ⟨(j:Int),l[i]!.jo,[(a:Int),(b:Int)],l[i]!.bR⟩;rw[et];have c1:¬(j:Int)<0:=by omega
    have c2:¬(l[i]!.bR.length:Int)<=(j:Int):=by omega
    have c3:(0:Int)<=(j:Int):=by omega
    have c4:(j:Int)<(l[i]!.bR.length:Int):=by omega
    have c5:¬l[i]!.jo<l[i]!.bR[j]!.ag:=by omega
    have c6:¬l[i]!.bR[j]!.ah<=l[i]!.jo:=by omega
    have c7:(0:Int)<=(a:Int):=by omega
    have c8:(a:Int)<(l.length:Int):=by omega
    have c9:(0:Int)<=(b:Int):=by omega
    have c10:(b:Int)<(l.length:Int):=by omega
    have c11:(i:Int)<((i+1:Nat):Int):=by omega
    have k0:([(a:Int),(b:Int)])[0]! =(a:Int):=rfl;have k1:([(a:Int),(b:Int)])[1]! =(b:Int):=rfl;have t0:zC 0=0:=rfl;have t1:zC 1=1:=rfl;unfold rC;simp only[ze,i1,i2,i3,hCl,b1,eB,cR,bD,dA,cF,e25,e26,g2,gl,ek,ein,eat,yX,yG,hw,c1,c2,c3,c4,c5,c6,eR,bA,O4,t0,t1,k0,k1,c7,c8,c9,c10,q3,q5,yx,Ws,gl3,c11,g0,g1,gx,zJ,gl4,hi];simp only[cellOf]at gf ⊢;rw[gf,<-elast];rfl
   ·have hxs:((B.set a (Vx l[i]!.bR j l[i]!.jo)).set b (Wq l[i]!.bR j l[i]!.jo))[x]! =if b=x then Wq l[i]!.bR j l[i]!.jo else if a=x then Vx l[i]!.bR j l[i]!.jo else B[x]! :=by
     rw[lY _ _ _ _ (by simpa [b1]using hx),lY _ _ _ _ (by rw[b1];exact hx)]
    rw[hxs];by_cases xb:b=x
    ·rw[bG xb,<-xb,q12]
    ·rw[bP xb];by_cases xa:a=x
     ·rw[bG xa,<-xa,q11]
     ·rw[bP xa];refine b2 x hx ?_;rcases hp with hp|⟨p,p1,p2⟩
      ·exact .inl hp
      ·refine .inr ⟨p,?_,p2⟩;by_cases e:p=i
       ·rw[e,q1]at p2;rcases zB.1 p2 with p2|p2
        ·omega
        ·have:=zy.1 p2;omega
       ·omega) (λB hB=>by unfold rC;simp) (b:=(zk l.length []).set 0 (nU f)) ⟨by simp,λj hj hp=>by
    rcases hp with rfl|⟨p,hp,_⟩
    ·rw[lY _ _ _ _ (by simpa using hj),bG rfl,h.root]
    ·omega⟩
 rw[zD]at e;have e':Cj ⟨(zk l.length []).set 0 (nU f),C,(l.length:Int),0,s,⟨f,v,[]⟩⟩=V ⟨B,C,(l.length:Int),(l.length:Int),s,⟨f,v,l.map (cellOf f v)⟩⟩:=e;have e118:=M7 c;have Bt:=Jy f v hsz;rw[<-hs]at Bt;have hll:=LJ (l.map (cellOf f v));rw[zx]at hll;have aet:UR s.aS s.aS=V O:=UC _ (by rw[<-hC,hCl];omega) λi hi=>by
  rw[<-hC]at hi ⊢;rw[hCl]at hi;have es:C[i]! =qE (BE (l.map (cellOf f v))) (cellOf f v l[i]!):=by
   rw[hC,hs];show ((l.map (cellOf f v)).map (qE _))[i]! =_;rw[eG _ _ _ (by simpa using hi),eG _ _ _ hi]
  rw[es];refine⟨by have:=h.uK hi;show l[i]!.aq.length<=_;omega,?_⟩;unfold qE;dsimp only;split<;>simp
 have e71:m71 s.dI s.dI=V O:=Xu _ (by rw[hs];show (BE _).length<=_;omega) λx hx=>by
  rw[hs]at hx;exact hsz.mem hx
 have n1:¬(8192:Int)<(l.length:Int):=by omega
 have n2:(0:Int)<=(l.length:Int)/\(l.length:Int)<=(l.length:Int)/\(l.length:Int)<=1073741824:=by omega
 have n3:(0:Int)<(l.length:Int):=by omega
 have e0:([cellOf f v ⟨0,0,[],nU f⟩])[0]!.bR=nU f:=rfl;have e1:(0:Int)<((0+1:Nat):Int):=by decide
 have e2:0<0+1:=by decide
 have n4:=n2.1;have n5:=n2.2.2;rw[hC]at e' WD hCl;unfold Ms;simp only[e118,hCl,n1,WD,n4,n5,cR,eR,bD,bA,ze,yX,yG,xO,n3,h0,dA,cF,zq,e0,e1,e2,e',yo,Bt,aet,e71]
end
end Go.Proofs.YtnfljbehcffmcaaGreat
end
noncomputable section
set_option maxRecDepth 100000
namespace Go.Proofs.YtnfljbehcffmcaaGreat
open Go Go.Iv
open Go.IntKind (i64 u64)
def rg(n:aH):Int:=n.ah-n.ag
def VP(b:aa aH):Nat->Nat
 |0=>0
 |k+1=>if rg b[VP b k]! <rg b[k]! then k else VP b k
def wid(b:aa aH):Nat:=VP b b.length
def Ey(b:aa aH):Int:=(b[wid b]!.ag+b[wid b]!.ah)/2
def lQ(b:aa aH):Bool:=b.any λn=>J (0<rg n)
def vW{b:aa aH}(h:0<b.length):∀k,k<=b.length->VP b k<b.length
 |0,_=>h
 |k+1,hk=>by
  have:=vW h k (by omega);unfold VP;split<;>omega
def TI{b:aa aH}:∀k j,j<k->rg b[j]!<=rg b[VP b k]!
 |k+1,j,hj=>by
  have ih:=TI (b:=b) k;unfold VP;by_cases e:j=k
  ·subst e;split<;>omega
  ·have:=ih j (by omega);split<;>omega
section
variable {f:aN} {v:bY}
def JM(b:aa aH):lQ b=O↔0<b.length/\0<rg b[wid b]! :=by
 unfold lQ;rw[wu];constructor
 ·rintro⟨n,hn,h⟩;obtain⟨i,hi,rfl⟩:=yY hn;rw[decide_eq_true_eq,<-getElem!_pos b i hi]at h;have:=TI (b:=b) b.length i hi;exact⟨by omega,by unfold wid;omega⟩
 ·rintro⟨h1,h2⟩;exact⟨b[wid b]!,bh (vW h1 _ (zo _)),bW h2⟩
def BQ{b:aa aH}(h:lQ b=O):wid b<b.length/\b[wid b]!.ag<=Ey b/\Ey b<b[wid b]!.ah:=by
 obtain⟨h1,h2⟩:=(JM b).1 h;unfold rg at h2;unfold Ey;exact⟨vW h1 _ (zo _),by omega,by omega⟩
def iG.rgw{b:aa aH}(h:iG f b)(c:oD f=0){j:Nat}(hj:j<b.length):i64.wrap (b[j]!.ah-b[j]!.ag)=rg b[j]!/\0<=rg b[j]!/\rg b[j]!<=2097152:=by
 have:=h.bd c hj;unfold rg;exact⟨aG,by omega,by omega⟩
def Ce{b:aa aH}(h:iG f b)(c:oD f=0){j:Nat}(hj:j<b.length):Hr b[j]! =rg b[j]! +1:=by
 obtain⟨h1,h2,h3⟩:=h.rgw c hj;unfold Hr;rw[h1,aG]
def RM{b:aa aH}(h:iG f b)(c:Cx f v):abh b=V (lQ b):=by
 have hbl:b.length<=1000000:=by have:=ou c;rw[h.len];omega
 obtain⟨i,-,e,hB,hI⟩:=oE (rnd:=AW) b.length (λi (_:Unit)=>⟨b,(b.length:Int),(i:Int)⟩) (λi _=>∀j,j<i->¬0<rg b[j]!) (λi _=>0<rg b[i]!) (λi u hi hb=>by
  have hw:=fG hi hbl;have i1:(i:Int)<(b.length:Int):=by omega
  have i2:(0:Int)<=(i:Int):=by omega
  have MA:=Ce h c.hc hi;by_cases hr:0<rg b[i]!
  ·refine .inr ⟨?_,hr⟩;have:(1:Int)<rg b[i]! +1:=by omega
   unfold AW Oo;simp only[ze,i1,i2,cR,bD,dA,cF,MA,this]
  ·refine .inl ⟨(),?_,λj hj=> ?_⟩
   ·have:¬(1:Int)<rg b[i]! +1:=by omega
    unfold AW Oo;simp only[ze,i1,i2,cR,bD,bA,eR,dA,cF,MA,this,hw]
   ·by_cases e:j=i
    ·rw[e];exact hr
    ·exact hb j (by omega)) (λu _=>by unfold AW;simp) (b:=()) (λj hj=>by omega)
 have e':JZ ⟨b,(b.length:Int),0⟩=V ⟨b,(b.length:Int),(i:Int)⟩:=e;unfold abh aeT;simp only[e'];rcases hI with rfl|⟨hi,hr⟩
 ·have:lQ b=G:=by
   unfold lQ;rw[List.any_eq_false];intro x hx;obtain⟨j,hj,rfl⟩:=yY hx;rw[<-getElem!_pos b j hj,decide_eq_true_eq];exact hB j hj
  rw[this];simp only[yo,eR,bA];rfl
 ·have:lQ b=O:=by
   unfold lQ;rw[wu];exact⟨b[i]!,bh hi,bW hr⟩
  rw[this];have i1:(i:Int)<(b.length:Int):=by omega
  have i2:(0:Int)<=(i:Int):=by omega
  have MA:=Ce h c.hc hi;have:(1:Int)<rg b[i]! +1:=by omega
  unfold Oo;simp only[ze,i1,i2,cR,bD,dA,cF,MA,this]
def agR{b:aa aH}(h:iG f b)(c:Cx f v)(t1:Int)(T:Tree):Cf ⟨t1,b,0,b,(b.length:Int),0,T⟩=V ⟨t1,b,(wid b:Int),b,(b.length:Int),(b.length:Int),T⟩:=by
 have hbl:b.length<=1000000:=by have:=ou c;rw[h.len];omega
 obtain⟨w,e,hw⟩:=cZ (rnd:=qL) b.length (λi (w:Nat)=>⟨t1,b,(w:Int),b,(b.length:Int),(i:Int),T⟩) (λi w=>w=VP b i) (λi w hi hb=>by
  have hw:=fG hi hbl;have i1:(i:Int)<(b.length:Int):=by omega
  have i2:(0:Int)<=(i:Int):=by omega
  have hwl:=vW (b:=b) (by omega) i (by omega);rw[<-hb]at hwl;have w1:(w:Int)<(b.length:Int):=by omega
  have w2:(0:Int)<=(w:Int):=by omega
  have e1:=Ce h c.hc hi;have e2:=Ce h c.hc hwl;by_cases hr:rg b[w]! <rg b[i]!
  ·refine⟨i,?_,by unfold VP;rw[<-hb,bG hr]⟩;have:rg b[w]! +1<rg b[i]! +1:=by omega
   unfold qL;simp only[ze,i1,i2,w1,w2,cR,bD,dA,cF,e1,e2,this,hw]
  ·refine⟨w,?_,by unfold VP;rw[<-hb,bP hr]⟩;have:¬rg b[w]! +1<rg b[i]! +1:=by omega
   unfold qL;simp only[ze,i1,i2,w1,w2,cR,bD,bA,eR,dA,cF,e1,e2,this,hw]) (λw _=>by unfold qL;simp) (b:=0) rfl
 subst hw;exact e
def ahf{b:aa aH}(h:iG f b)(c:Cx f v):HN ⟨b,0,b,(b.length:Int),0⟩=V ⟨b,(wid b:Int),b,(b.length:Int),(b.length:Int)⟩:=by
 have hbl:b.length<=1000000:=by have:=ou c;rw[h.len];omega
 obtain⟨w,e,hw⟩:=cZ (rnd:=AX) b.length (λi (w:Nat)=>⟨b,(w:Int),b,(b.length:Int),(i:Int)⟩) (λi w=>w=VP b i) (λi w hi hb=>by
  have hw:=fG hi hbl;have i1:(i:Int)<(b.length:Int):=by omega
  have i2:(0:Int)<=(i:Int):=by omega
  have hwl:=vW (b:=b) (by omega) i (by omega);rw[<-hb]at hwl;have w1:(w:Int)<(b.length:Int):=by omega
  have w2:(0:Int)<=(w:Int):=by omega
  have e1:=(h.rgw c.hc hi).1;have e2:=(h.rgw c.hc hwl).1;by_cases hr:rg b[w]! <rg b[i]!
  ·refine⟨i,?_,by unfold VP;rw[<-hb,bG hr]⟩;unfold AX;simp only[ze,i1,i2,w1,w2,cR,bD,dA,cF,e1,e2,hr,hw]
  ·refine⟨w,?_,by unfold VP;rw[<-hb,bP hr]⟩;unfold AX;simp only[ze,i1,i2,w1,w2,cR,bD,bA,eR,dA,cF,e1,e2,hr,hw]) (λw _=>by unfold AX;simp) (b:=0) rfl
 subst hw;exact e
def iG.azY{b:aa aH}(h:iG f b)(c:oD f=0){j:Nat}(hj:j<b.length):i64.wrap (b[j]!.ag+b[j]!.ah)=b[j]!.ag+b[j]!.ah:=by
 have:=h.bd c hj;exact aG
def axd(x:Int):cL IntKind.i64 x 1=x/2:=by
 unfold cL;have e:(2:Int)^(min (1:Int).toNat IntKind.i64.bits)=2:=by decide
 rw[e,Int.fdiv_eq_ediv_of_nonneg _ (by omega)]
def ZG(x:Int):U6 x 2=x/2:=by
 unfold U6;have:=Int.tmod_eq_emod (a:=x) (b:=2);have:=Int.tdiv_eq_ediv (a:=x) (b:=2);split
 ·omega
 ·split<;>grind
def agA{b:aa aH}(h:iG f b)(c:Cx f v):Zx b=V (if lQ b=O then((wid b:Int),Ey b,O)else(0,0,G)):=by
 have e:=ahf h c;unfold Zx;simp only[e,yo,eR,bA,ze];by_cases h0:b.length=0
 ·have:lQ b=G:=by rw[xe.1 h0];rfl
  rw[this];simp[h0]
 ·have hl:=vW (b:=b) (by omega) _ (zo _);have hl:wid b<b.length:=hl;have i0:¬(b.length:Int)=0:=by omega
  have i1:(wid b:Int)<(b.length:Int):=by omega
  have i2:(0:Int)<=(wid b:Int):=by omega
  obtain⟨-,r2,-⟩:=h.rgw c.hc hl;have hs:=h.azY c.hc hl;have hd:=h.bd c.hc hl;by_cases hc:b[wid b]!.ah=b[wid b]!.ag
  ·have:lQ b=G:=by
    cases e:lQ b with
    |false=>rfl
    |true=>have:=((JM b).1 e).2;unfold rg at this;omega
   rw[this];simp only[i0,i1,i2,hc,eR,cR,bA,bD,dA,cF,yu,gA]
  ·have:lQ b=O:=(JM b).2 ⟨by omega,by unfold rg at r2 ⊢;omega⟩;rw[this];have afk:=aiJ (a:=b[wid b]!.ag+b[wid b]!.ah) (b:=2) (by omega) (by omega);simp only[i0,i1,i2,hc,eR,bA,dA,cF,hs,afk,ZG];rfl
def aiY(a b:Int):N4 a b=iv a b:=by unfold N4 iv;by_cases h:a=b<;>simp[h]
def ad9{b:aa aH}(h:b.length<=1000000){i:Nat}(hi:i<b.length){a:Int}(h1: -1048576<=a)(h2:a<=1048576):ZI b (i:Int) a=V (Vx b i a,Wq b i a):=by
 have hw:i64.wrap (a+1)=a+1:=aG;have i1:(i:Int)<(b.length:Int):=by omega
 have i2:(0:Int)<=(i:Int):=by omega
 unfold ZI;simp only[akn h,ze,i1,i2,dA,cF,hi,aiY,hw];rfl
def ahi{l:aa Part}(h:l.length<=1000000):VW l=V l:=by unfold VW;rw[ig]
def Z8(c:Cx f v){l:aa Part}(hl:l.length<=100000){k:Nat}(hk:k<l.length)(hb:iG f l[k]!.bR):
  m49 l (k:Int)=V (if lQ l[k]!.bR=O then(gD l k (wid l[k]!.bR) (Ey l[k]!.bR),O)else(l,G)):=by
 have k1:(k:Int)<(l.length:Int):=by omega
 have k2:(0:Int)<=(k:Int):=by omega
 have Oz:=agA hb c;unfold m49;cases hc:lQ l[k]!.bR with
 |false=>
  rw[hc]at Oz;simp only[ze,k1,k2,dA,cF,Oz,yu,gA,bA,bD]
 |true=>
  rw[hc]at Oz;obtain⟨h1,h2,h3⟩:=BQ hc;have hd:=hb.bd c.hc h1;have agE:=ad9 (b:=l[k]!.bR) (by have:=ou c;rw[hb.len];omega) h1 (a:=Ey l[k]!.bR) (by omega) (by omega);have aeC:=ahi (l:=l) (by omega);have hw:i64.wrap ((l.length:Int)+1)=((l.length+1:Nat):Int):=fG (n:=1000000) (by omega) (by omega);have hlen:∀x y:Part,(l++[x,y]).length=l.length+2:=λx y=>by simp
  have k3:k<l.length+2:=by omega
  have k4:l.length+2<=1073741824:=by omega
  have k5:(k:Int)<((l.length+2:Nat):Int):=by omega
  have hset:∀x y q:Part,(l++[x,y]).set k q=l.set k q++[x,y]:=λx y q=>by rw[List.set_append_left _ _ hk]
  simp only[ze,k1,k2,dA,cF,Oz,bA,bD,agE,aeC,hlen,k3,k4,k5,hw,hset];rfl
def Yz(c:Cx f v){l:aa Part}(hl:l.length<=8190){k:Nat}(hk:k<l.length)(hb:iG f l[k]!.bR)(hc:lQ l[k]!.bR=O):
  LR (k:Int) ⟨f,v,l.map (cellOf f v)⟩=V (0,⟨f,v,(gD l k (wid l[k]!.bR) (Ey l[k]!.bR)).map (cellOf f v)⟩):=by
 have k1:(k:Int)<(l.length:Int):=by omega
 have k2:(0:Int)<=(k:Int):=by omega
 have hw:i64.wrap ((l.length:Int)+2)=(l.length:Int)+2:=aG;have k3:¬(8192:Int)<(l.length:Int)+2:=by omega
 have ek:(l.map (cellOf f v))[k]! =cellOf f v l[k]! :=eG _ _ _ hk;obtain⟨h1,h2,h3⟩:=BQ hc;have e109:=agR hb c (k:Int) ⟨f,v,l.map (cellOf f v)⟩;have hs:=hb.azY c.hc h1;have adR:=ajh c (by omega) hk hb h1 h2 h3;have j1:(wid l[k]!.bR:Int)<(l[k]!.bR.length:Int):=by omega
 have j2:(0:Int)<=(wid l[k]!.bR:Int):=by omega
 have em:cL IntKind.i64 (l[k]!.bR[wid l[k]!.bR]!.ag+l[k]!.bR[wid l[k]!.bR]!.ah) 1=Ey l[k]!.bR:=axd _;have eb:∀p:Part,(cellOf f v p).bR=p.bR:=λ_=>rfl;unfold LR;simp only[zx,hw,k3,eR,bA,k1,k2,hk,dA,cF,ze,ek,eb,e109,yo,j1,j2,hs,em,adR]
end
end Go.Proofs.YtnfljbehcffmcaaGreat
end
noncomputable section
set_option maxRecDepth 100000
namespace Go.Proofs.YtnfljbehcffmcaaGreat
open Go Go.Iv
open Go.IntKind (i64 u64)
section
variable {f:aN} {v:bY}
def u5{l:aa Part}{k:Nat}(hk:k<l.length):(l.map (cellOf f v))[k]!.aq=l[k]!.aq/\(l.map (cellOf f v))[k]!.bR=l[k]!.bR:=by
 rw[eG _ _ _ hk];exact⟨rfl,rfl⟩
def Sv(c:Cx f v){l:aa Part}(h:WF f l)(hl:l.length<=8190){k:Int}(hk:k<0\/(l.length:Int)<=k\/0<=k/\k<l.length/\l[k.toNat]!.aq≠[]):Wo f v (fU (l.map (cellOf f v))) k=V (⟨[],[]⟩,3):=by
 have e105:=Fj c h (by omega);unfold Wo;by_cases k1:k<0
 ·simp only[e105,cR,bD,bA,k1]
 ·by_cases k2:(l.length:Int)<=k
  ·simp only[e105,cR,eR,bD,bA,k1,zx,k2]
  ·obtain⟨h1,h2,h3⟩:=(hk.resolve_left k1).resolve_left k2;have k3:k.toNat<l.length:=by omega
   have k4:(0:Int)<(l[k.toNat]!.aq.length:Int):=by
    have:=wg.2 h3;omega
   simp only[e105,cR,eR,bD,bA,k1,zx,k2,h1,h2,k3,dA,cF,(u5 k3).1,k4]
def ad3(c:Cx f v){l:aa Part}(h:WF f l)(hl:l.length<=8190){k:Nat}(hk:k<l.length)(h0:l[k]!.aq=[])(hc:lQ l[k]!.bR=G):Wo f v (fU (l.map (cellOf f v))) (k:Int)=V (⟨[],[]⟩,11):=by
 have e105:=Fj c h (by omega);have Wa:=RM (h.box k hk) c;have k1:¬(k:Int)<0:=by omega
 have k2:¬(l.length:Int)<=(k:Int):=by omega
 have k3:(0:Int)<=(k:Int):=by omega
 have k4:(k:Int)<(l.length:Int):=by omega
 have k5:¬(0:Int)<((0:Nat):Int):=by omega
 unfold Wo;simp only[e105,cR,eR,bD,bA,k1,zx,k2,k3,k4,hk,dA,cF,ze,(u5 hk).1,(u5 hk).2,h0,yG,k5,Wa,hc]
def YW(c:Cx f v){l:aa Part}(h:WF f l)(hl:l.length<=8190){k:Nat}(hk:k<l.length)(h0:l[k]!.aq=[])(hc:lQ l[k]!.bR=O):Wo f v (fU (l.map (cellOf f v))) (k:Int)=V (fU ((gD l k (wid l[k]!.bR) (Ey l[k]!.bR)).map (cellOf f v)),0):=by
 have e105:=Fj c h (by omega);have hb:=h.box k hk;have Wa:=RM hb c;obtain⟨h1,h2,h3⟩:=BQ hc;have e109:=Yz c hl hk hb hc;have h':=L6 h hk h0 h1 h2 h3;have Bt:=Jy f v (Ap c h' (by rw[sX];omega));have k1:¬(k:Int)<0:=by omega
 have k2:¬(l.length:Int)<=(k:Int):=by omega
 have k3:(0:Int)<=(k:Int):=by omega
 have k4:(k:Int)<(l.length:Int):=by omega
 have k5:¬(0:Int)<((0:Nat):Int):=by omega
 unfold Wo;simp only[e105,cR,eR,bD,bA,k1,zx,k2,k3,k4,hk,dA,cF,ze,(u5 hk).1,(u5 hk).2,h0,yG,k5,Wa,hc,e109,Bt]
def DO(f:aN):aa Part:=[⟨0,0,[],nU f⟩]
def ao9(c:Cx f v):m54 f v=V (fU ((DO f).map (cellOf f v)),0):=by
 have e118:=M7 c;have Bt:=Jy f v (Ap c (Mw c) (by simp));unfold m54;simp only[e118,cR,bD,bA];simp only[yc,yR]at Bt;rw[Bt];rfl
def apM(c:Cx f v):m58 f=V (DO f):=by
 have e39:=aob f (kZ c.hc) c.hl;unfold m58 adk;rw[e39];rfl
def stepG(l:aa Part)(x:Int):aa Part:=
 if l[x.toNat%l.length]!.aq=[]/\lQ l[x.toNat%l.length]!.bR=O then gD l (x.toNat%l.length) (wid l[x.toNat%l.length]!.bR) (Ey l[x.toNat%l.length]!.bR)else l
def mS(f:aN)(p:aa Int):aa Part:=p.foldl stepG (DO f)
def YX{l:aa Part}(h:WF f l)(x:Int):WF f (stepG l x)/\(stepG l x).length<=l.length+2:=by
 unfold stepG;have hm:=yP x.toNat h.ne;split
 ·rename_i hh;obtain⟨h1,h2,h3⟩:=BQ hh.2;exact⟨L6 h hm hh.1 h1 h2 h3,by rw[sX];omega⟩
 ·exact⟨h,by omega⟩
def Cu(c:Cx f v):∀(n:Nat) (p:aa Int),p.length=n->WF f (mS f p)/\(mS f p).length<=1+2*p.length
 |0,p,hp=>by
  have:=xe.1 hp;subst this;exact⟨Mw c,by simp[mS,DO]⟩
 |n+1,p,hp=>by
  have hne:p≠[]:=by intro e;rw[e]at hp;cases hp
  have e:p=p.dropLast++[p.getLast hne]:=(List.dropLast_concat_getLast hne).symm;have hd:p.dropLast.length=n:=by rw[List.length_dropLast];omega
  obtain⟨i1,i2⟩:=Cu c n p.dropLast hd;have eg:mS f p=stepG (mS f p.dropLast) (p.getLast hne):=by
   conv=>lhs;rw[e]
   unfold mS;rw[wA];rfl
  obtain⟨j1,j2⟩:=YX i1 (p.getLast hne);rw[eg];exact⟨j1,by omega⟩
def anR(c:Cx f v){p:aa Int}(hp:p.length<=20)(hx:∀x∈p,0<=x/\x<256):m47 f v p=V (mS f p,fU ((mS f p).map (cellOf f v)),O):=by
 obtain⟨b,e,hb⟩:=cZ (rnd:=MD) p.length (λi (b:aa Part)=>⟨b,p,(p.length:Int),(i:Int),f,v,⟨[],[]⟩,fU (b.map (cellOf f v))⟩) (λi b=>b=mS f (p.take i)) (λi b hi hb=>by
  have hw:=fG hi (by omega);have i1:(i:Int)<(p.length:Int):=by omega
  have i2:(0:Int)<=(i:Int):=by omega
  obtain⟨x1,x2⟩:=hx p[i]! (bh hi);have hwx:i64.wrap p[i]! =p[i]! :=aG;obtain⟨g1,g2⟩:=Cu c _ (p.take i) rfl;rw[<-hb]at g1 g2;have hl:b.length<=8190:=by
   rw[zH]at g2;omega
  have hne:=g1.ne;have n0:¬(b.length:Int)=0:=by omega
  obtain⟨k,hk⟩:∃k,k=p[i]!.toNat%b.length:=⟨_,rfl⟩;have hkl:k<b.length:=by rw[hk];exact yP _ hne
  have et:p[i]!.tmod (b.length:Int)=(k:Int):=by
   rw[hk];obtain⟨q,hq⟩:∃q:Nat,p[i]! =(q:Int):=⟨p[i]!.toNat,by omega⟩;rw[hq,ze];exact(Int.ofNat_tmod q b.length).symm
  have k1:(k:Int)<(b.length:Int):=by omega
  have k2:(0:Int)<=(k:Int):=by omega
  have hbx:=g1.box k hkl;have Kl:=Z8 c (l:=b) (by omega) hkl hbx;refine⟨stepG b p[i]!,?_,by rw[bI hi];unfold mS;rw[wA,hb];rfl⟩;have es:stepG b p[i]! =if b[k]!.aq=[]/\lQ b[k]!.bR=O then gD b k (wid b[k]!.bR) (Ey b[k]!.bR)else b:=by unfold stepG;rw[<-hk]
  unfold MD;by_cases h0:b[k]!.aq=[]
  ·have k0:¬(0:Int)<((0:Nat):Int):=by omega
   cases hc:lQ b[k]!.bR with
   |true=>
    rw[hc]at Kl es;simp only[h0,dA,cF]at es Kl;have QB:=YW c g1 hl hkl h0 hc;rw[es];simp only[ze,i1,i2,cR,eR,bD,bA,dA,cF,n0,not_false_eq_true,hwx,et,Kl,k1,k2,h0,yG,k0,QB,hw]
   |false=>
    rw[hc]at Kl es;simp only[h0,and_false,yu,gA]at es Kl;rw[es];simp only[ze,i1,i2,cR,eR,bD,bA,dA,cF,n0,not_false_eq_true,hwx,et,Kl,k1,k2,h0,yG,k0,hw]
  ·have k0:(0:Int)<(b[k]!.aq.length:Int):=by
    have:=wg.2 h0;omega
   rw[bP (λh=>h0 h.1)]at es;rw[es];simp only[ze,i1,i2,cR,eR,bD,bA,dA,cF,n0,not_false_eq_true,hwx,et,Kl,k1,k2,k0,hw]) (λb _=>by unfold MD;simp) (b:=DO f) rfl
 rw[zD]at hb;subst hb;have e':Ui ⟨DO f,p,(p.length:Int),0,f,v,⟨[],[]⟩,fU ((DO f).map (cellOf f v))⟩=V ⟨mS f p,p,(p.length:Int),(p.length:Int),f,v,⟨[],[]⟩,fU ((mS f p).map (cellOf f v))⟩:=e;unfold m47;simp only[apM c,ao9 c,cR,bD,bA,e',yo,eR]
def W7(f:aN)(h:f.aj.length<=1000):∃n,aaD f=V n:=by
 obtain⟨n,e,-⟩:=cZ (rnd:=DM) f.aj.length (λi (n:Int)=>⟨n,f.aj,(f.aj.length:Int),(i:Int)⟩) (λ_ _=>True) (λi n hi _=>by
  have hw:=fG hi (by omega);have i1:(i:Int)<(f.aj.length:Int):=by omega
  have i2:(0:Int)<=(i:Int):=by omega
  unfold DM;by_cases h1:f.aj[i]!.bz=1
  ·refine⟨i64.wrap (n*i64.wrap (i64.wrap (f.aj[i]!.ah-f.aj[i]!.ag)+1)),?_,trivial⟩;simp only[ze,i1,i2,cR,bD,dA,cF,h1,hw]
  ·by_cases h3:f.aj[i]!.bz=3
   ·refine⟨i64.wrap (n*i64.wrap (i64.wrap (f.aj[i]!.ah-f.aj[i]!.ag)+1)),?_,trivial⟩;have h31:¬(3:Int)=1:=by decide
    simp only[ze,i1,i2,cR,eR,bD,bA,dA,cF,h3,h31,hw]
   ·refine⟨n,?_,trivial⟩;simp only[ze,i1,i2,cR,eR,bD,bA,dA,cF,h1,h3,hw]) (λn _=>by unfold DM;simp) (b:=1) trivial
 have e':Je ⟨1,f.aj,(f.aj.length:Int),0⟩=V ⟨n,f.aj,(f.aj.length:Int),(f.aj.length:Int)⟩:=e;unfold aaD;simp only[e',yo,eR,bA];exact⟨n,rfl⟩
def an5(f:aN)(v:bY):∃r,m46 f v=V r/\(r=O->Cx f v):=by
 obtain⟨r,e24,h24⟩:=arC f 16 4096 4;unfold m46;cases r with
 |false=>exact⟨false,by simp only[e24,bA],λh=>by cases h⟩
 |true=>
  obtain⟨hf,hc⟩:=h24 rfl;unfold few at hf;rw[decide_eq_true_iff]at hf;obtain⟨f1,f2,f3⟩:=hf;have e55:=avw (f:=f) (by omega) (by omega) (by omega) v;obtain⟨n,ZU⟩:=W7 f (by omega);by_cases hq:cdA f v=0
  ·refine⟨J (n<=16),by simp only[e24,bD,e55,hq,cR,ZU],λ_=>⟨by omega,by omega,by omega,hc,hq⟩⟩
  ·exact⟨false,by simp only[e24,bD,e55,hq,eR,bA],λh=>by cases h⟩
def aCj(f:aN)(v:bY)(p:aa Int)(hx:∀x∈p,0<=x/\x<256):m8 f v p=V O:=by
 obtain⟨r,e46,h46⟩:=an5 f v;unfold m8;cases r with
 |false=>simp only[m45,e46,bD,bA]
 |true=>
  have c:=h46 rfl;by_cases hp:(20:Int)<(p.length:Int)
  ·simp only[m45,e46,bD,bA,hp,cR]
  ·have e47:=anR c (p:=p) (by omega) hx;obtain⟨g1,g2⟩:=Cu c _ p rfl;obtain⟨l,hl⟩:∃l,l=mS f p:=⟨_,rfl⟩;rw[<-hl]at e47 g1 g2;have hll:l.length<=8190:=by omega
   obtain⟨-,e,-⟩:=cZ (rnd:=aaR) (l.length+2) (λi (_:Unit)=>⟨l,(i:Int)-1,f,v,fU (l.map (cellOf f v))⟩) (λ_ _=>True) (λi _ hi _=>by
    have i1:(i:Int)-1<=(l.length:Int):=by omega
    have hw:i64.wrap ((i:Int)-1+1)=((i+1:Nat):Int)-1:=by rw[aG];omega
    refine⟨(),?_,trivial⟩;unfold aaR;by_cases hb:(i:Int)-1<0\/(l.length:Int)<=(i:Int)-1
    ·have QB:=Sv c g1 hll (k:=(i:Int)-1) (by omega);by_cases h1:(0:Int)<=(i:Int)-1
     ·have h2:¬(i:Int)-1<(l.length:Int):=by omega
      simp only[i1,cR,bD,QB,h1,h2,eR,bA,hw];simp
     ·simp only[i1,cR,bD,QB,h1,eR,bA,hw];simp
    ·obtain⟨k,hk⟩:∃k:Nat,(i:Int)-1=(k:Int):=⟨i-1,by omega⟩;rw[hk]at hb hw i1 ⊢;have hkl:k<l.length:=by omega
     have h1:(0:Int)<=(k:Int):=by omega
     have h2:(k:Int)<(l.length:Int):=by omega
     by_cases h0:l[k]!.aq=[]
     ·have Kl:=Z8 c (l:=l) (by omega) hkl (g1.box k hkl);cases hc:lQ l[k]!.bR with
      |true=>
       rw[hc]at Kl;simp only[cF]at Kl;have QB:=YW c g1 hll hkl h0 hc;simp only[i1,cR,bD,QB,h1,h2,dA,cF,ze,h0,yG,Kl,bA,hw];simp
      |false=>
       rw[hc]at Kl;simp only[yu,gA]at Kl;have QB:=ad3 c g1 hll hkl h0 hc;simp only[i1,cR,bD,QB,h1,h2,dA,cF,ze,h0,yG,Kl,bA,hw];simp
     ·have QB:=Sv c g1 hll (k:=(k:Int)) (.inr (.inr ⟨h1,h2,by rw[ze];exact h0⟩));have k0:¬(l[k]!.aq.length:Int)=0:=by
       have:=wg.2 h0;omega
      simp only[i1,cR,bD,QB,h1,h2,dA,cF,ze,k0,eR,bA,hw];simp) (λ_ _=>by
    have:¬((l.length+2:Nat):Int)-1<=(l.length:Int):=by omega
    unfold aaR;simp only[this,eR,bA]) (b:=()) trivial
   have e':afS ⟨l,-1,f,v,fU (l.map (cellOf f v))⟩=V ⟨l,((l.length+2:Nat):Int)-1,f,v,fU (l.map (cellOf f v))⟩:=e;have hfin:¬((l.length+2:Nat):Int)-1<=(l.length:Int):=by omega
   simp only[m45,e46,bD,bA,hp,eR,e47,e',hfin]
end
end Go.Proofs.YtnfljbehcffmcaaGreat
end
noncomputable section
namespace Go.Iv
variable [U:ru]
open Go Go.RowKit Go.Deep Go.ChangeShapes Go.WideShapes Go.Joins
def aoq{P:Program}{f:FuncId}{args:aa AV}(h:Iv.Fn P f args [] (λa s=>a= .b O/\s=[])){A:Nat->Prop}{w:World}{vs:aa Value}(hr:bL A w args vs):
  Calls P f vs.toArray w λe w'=>∃v,e= .returned v/\v= .bool O/\Below w.heap.size w w':=
 (h w A vs hr ⟨λr hr=>by simp at hr,λb hb=>by simp[bF]at hb⟩ (by simp[bF])).mono λe w' ⟨v,av,σ',h1,⟨h2,h3⟩,h4,h5⟩=>by
  subst h2;exact⟨v,h1,h5.cK,h4.kp.below⟩
abbrev sM:Nat->Prop:=λ_=>True
def jV{α:Type}{H:Type}(enc:TypeId×Value->H)(P:Program)(w:World)(t:TypeId)(c:α->aa AV)(ok:α->Prop):Prop:=
 ∀(base:Nat) (fuel:Nat) (cs:aa Value) (x:DataW H×aa MemPlace),DataW.trod enc P w base (λ_=>O) O fuel t cs=V x->∃a,ok a/\bL sM w (c a) cs
section
variable {α:Type} {H:Type} {enc:TypeId×Value->H} {P:Program} {w:World} {t e:TypeId}
def jV.int{k:IntKind}(ht:P.underlying t=V (.int k)):jV enc P w t (cN k) (λn=>(Lit.int k n).wf=O):=λbase fuel cs x h=>by
 obtain⟨n,rfl,_,hw⟩:=DataW.trod_int ht h;exact⟨n,hw,bL.cons (.lit _) bL.nil⟩
def jV.bool(ht:P.underlying t=V .bool):jV enc P w t cB (λ_=>True):=λbase fuel cs x h=>by
 obtain⟨b,rfl,_⟩:=DataW.trod_bool ht h;exact⟨b,trivial,bL.cons (.lit _) bL.nil⟩
def jV.slice{ok:U.dw e->Prop}{sz:Nat}(ht:P.underlying t=V (.slice e))(hc:P.cellsOf e=sz+1)(hs:U.sz e=sz+1)(he:jV enc P w e (U.cells e) ok):
  jV enc P w t (λl:aa (U.dw e)=>[.sl e l]) (λl=>l.length<=9223372036854775807/\∀a∈l,ok a):=λbase fuel cs x h=>by
 rcases open_slice ht h with ⟨rfl,_⟩|⟨a,len,cp,m,n,D,Pl,hcs,hb,hl,hm,hmm,_,hx⟩
 ·refine⟨[],⟨by simp,by simp⟩,bL.cons ?_ bL.nil⟩;exact .sl e ([]:aa (U.dw e)) S 0 (λ_ _=>default) (by simp) (by simp) (λi hi=>by simp at hi) (λi hi=>by simp at hi) (λi j a hi=>by simp at hi)
 ·subst hcs;have hmm:m=cp:=by rw[hmm];rfl
  rw[hc]at hx;have hmx:cp<=9223372036854775807:=by unfold maxLen at hm;omega
  obtain⟨CS,hCS⟩:=choose_lt (α:=aa Value×U.dw e) (p:=λi y=>w.cells? base (a.add (i*(sz+1))) (sz+1)=V y.1/\ok y.2/\bL sM w (U.cells e y.2) y.1) (n:=len) (λi hi=>by
   obtain⟨cs',h1,h2⟩:=hx i (by omega);obtain⟨y,h3,h4⟩:=he _ _ _ _ h2;exact⟨(cs',y),h1,h3,h4⟩)
  obtain⟨l,hld⟩:∃l:aa (U.dw e),l=(zM len).map λi=>(CS i).2:=⟨_,rfl⟩;have hln:l.length=len:=by rw[hld];simp
  have hget:∀i,i<len->l[i]! =(CS i).2:=λi hi=>by
   rw[getElem!_pos l i (by omega)];simp[hld]
  refine⟨l,⟨by omega,λy hy=> ?_⟩,bL.cons ?_ bL.nil⟩
  ·rw[hld,zL]at hy;obtain⟨i,hi,rfl⟩:=hy;exact(hCS i (by simpa using hi)).2.1
  ·rw[<-hln];refine .sl e l (V a) cp (λi j=>(CS i).1[j]!) (by omega) (by omega) (λi hi=> ?_) (λi hi=> ?_) (λi j av hi hj=> ?_)
   ·rw[hln]at hi;obtain⟨h1,_,h3⟩:=hCS i hi;obtain⟨_,h5,_⟩:=World.cells?_some h1;rw[hget i hi,<-h3.1,h5,hs]
   ·rw[hln]at hi;obtain⟨h1,_,h3⟩:=hCS i hi;obtain⟨_,h5,h6⟩:=World.cells?_some h1;have hj:∀j,j<sz+1->w.cell? ((a.add (i*(sz+1))).add j)=V (CS i).1[j]! :=λj hj=>by
     rw[h6 j hj,getElem!_pos _ j (by omega),zu (by omega)]
    obtain⟨b,off,spot⟩:=a;have hs:spot=S:=by
     obtain⟨g1,_,_⟩:=hCS 0 (by omega);obtain⟨_,g5,g6⟩:=World.cells?_some g1;have:=World.cell?_spot (v:=(CS 0).1[0]!) (w:=w) (a:=((⟨b,off,spot⟩:Addr).add (0*(sz+1))).add 0) (by rw[g6 0 (by omega),getElem!_pos _ 0 (by omega),zu (by omega)]);simpa [Addr.add]using this
    subst hs;have hj':∀j,j<sz+1->w.cell? ⟨b,off+i*(sz+1)+j,S⟩=V (CS i).1[j]! :=λj hlt=>by
     have:=hj j hlt;have ap:∀o i:Nat,(⟨b,o,S⟩:Addr).add i=⟨b,o+i,S⟩:=λo i=>by
      unfold Addr.add;split
      ·rename_i h0;simp only[h0,yq]
      ·rfl
     rw[ap,ap]at this;exact this
    exact⟨b,off,rfl,World.block_lt_of_cell? w _ (hj' 0 (by omega)),trivial,by rw[hs];exact hj'⟩
   ·rw[hln]at hi;rw[hget i hi]at hj;obtain⟨h1,_,h3⟩:=hCS i hi;obtain⟨v,q1,q2⟩:=h3.get hj;show Rel sM w av (CS i).1[j]!;obtain⟨q3,q4⟩:=z7.1 q1;rw[getElem!_pos _ j q3,q4];exact q2
def jV.one{c:α->AV}{ok:α->Prop}{v:Value}{d:DataW H}{p:aa MemPlace}(he:jV enc P w t (λa=>[c a]) ok)(hv:v.cells=#[v])(h:DataW.Trod enc P w 0 (λ_=>O) O t v d p):∃a,ok a/\Rel sM w (c a) v:=by
 obtain⟨fuel,hf⟩:=h;rw[hv]at hf;obtain⟨a,h1,h2⟩:=he _ _ _ _ hf;exact⟨a,h1,h2.2 0 _ _ rfl rfl⟩
def jV.agg{c:α->aa AV}{ok:α->Prop}{v:Value}{cs:Array Value}{d:DataW H}{p:aa MemPlace}(he:jV enc P w t c ok)(hv:v= .agg cs)(h:DataW.Trod enc P w 0 (λ_=>O) O t v d p):∃a,ok a/\Rel sM w (.agg (c a)) v:=by
 obtain⟨fuel,hf⟩:=h;subst hv;obtain⟨l⟩:=cs;obtain⟨a,h1,h2⟩:=he _ _ _ _ hf;exact⟨a,h1,Rel.oM h2⟩
end
def Lu.law[L:l7]{P:Program}{f:FuncId}{args:aa AV}{x:Out}(h:Lu P f args [] 0 x)(hx:x=⟨.b O,[],0⟩)(ha:args.all (FP 2)=O):Iv.Fn P f args [] (λa s=>a= .b O/\s=[]):=by
 subst hx;have h1:=h ⟨λ_=>undef,λ_=>0⟩;have:args.map (bZ.sub ⟨λ_=>undef,λ_=>0⟩)=args.map id:=zX λc hcm=>jY 2 (zw.1 ha c hcm);rw[this,List.map_id]at h1;exact h1.mono λa s ⟨ρ',_,e1,e2⟩=>⟨by rw[e1];exact jY 2 rfl,List.Perm.eq_nil e2⟩
def cW{A:Nat->Prop}{w:World}{xs bs:aa AV}{us:aa Value}{n:Nat}(h:bL A w xs (us.take n))(h':bL A w bs (us.drop n)):bL A w (xs++bs) us:=by
 have:=h.app h'
 rwa [xw]at this
def I9(B:Nat){α:Type}{H:Type}(enc:TypeId×Value->H)(P:Program)(w:World)(t:TypeId)(c:α->aa AV)(ok:α->Prop):Prop:=
 ∀(base:Nat) (fuel:Nat),fuel<B->∀(cs:aa Value) (x:DataW H×aa MemPlace),DataW.trod enc P w base (λ_=>O) O fuel t cs=V x->∃a,ok a/\bL sM w (c a) cs
section
variable {α:Type} {H:Type} {enc:TypeId×Value->H} {P:Program} {w:World} {t e:TypeId}
def jV.ofB{c:α->aa AV}{ok:α->Prop}(h:∀B,I9 B enc P w t c ok):jV enc P w t c ok:=λbase fuel cs x hx=>h (fuel+1) base fuel (zJ _) cs x hx
def jV.str(ht:P.underlying t=V .string):jV enc P w t (λs=>[.s s]) (λ_=>True):=λbase fuel cs x h=>by
 obtain⟨b,rfl,_⟩:=DataW.trod_string ht h;exact⟨b,trivial,bL.cons (.lit _) bL.nil⟩
def jV.any{c:α->aa AV}{ok:α->Prop}(h:jV enc P w t c ok):jV enc P w t c (λ_=>True):=λbase fuel cs x hx=>by
 obtain⟨a,_,r⟩:=h base fuel cs x hx;exact⟨a,trivial,r⟩
def I9.slice{B:Nat}{ok:U.dw e->Prop}{sz:Nat}(ht:P.underlying t=V (.slice e))(hc:P.cellsOf e=sz+1)(hs:U.sz e=sz+1)(he:I9 B enc P w e (U.cells e) ok):
  I9 B enc P w t (λl:aa (U.dw e)=>[.sl e l]) (λl=>l.length<=9223372036854775807/\∀a∈l,ok a):=λbase fuel hB cs x h=>by
 rcases DataW.trod_slice ht h with ⟨rfl,_⟩|⟨a,len,cp,elems,rest,n,hfu,hcs,_,hb,hl,hm,hlen,hx,_,_⟩
 ·refine⟨[],⟨by simp,by simp⟩,bL.cons ?_ bL.nil⟩;exact .sl e ([]:aa (U.dw e)) S 0 (λ_ _=>default) (by simp) (by simp) (λi hi=>by simp at hi) (λi hi=>by simp at hi) (λi j a hi=>by simp at hi)
 ·subst hcs;rw[hc]at hx;have hmx:cp<=9223372036854775807:=by unfold maxLen at hm;omega
  obtain⟨CS,hCS⟩:=choose_lt (α:=aa Value×U.dw e) (p:=λi y=>w.cells? base (a.add (i*(sz+1))) (sz+1)=V y.1/\ok y.2/\bL sM w (U.cells e y.2) y.1) (n:=len) (λi hi=>by
   have hk:=hx i hi;rw[zu (show i<elems.length by omega)]at hk;obtain⟨cs',h1,h2⟩:=zn.1 hk;obtain⟨y,h3,h4⟩:=he _ n (by omega) _ _ h2;exact⟨(cs',y),h1,h3,h4⟩)
  obtain⟨l,hld⟩:∃l:aa (U.dw e),l=(zM len).map λi=>(CS i).2:=⟨_,rfl⟩;have hln:l.length=len:=by rw[hld];simp
  have hget:∀i,i<len->l[i]! =(CS i).2:=λi hi=>by
   rw[getElem!_pos l i (by omega)];simp[hld]
  refine⟨l,⟨by omega,λy hy=> ?_⟩,bL.cons ?_ bL.nil⟩
  ·rw[hld,zL]at hy;obtain⟨i,hi,rfl⟩:=hy;exact(hCS i (by simpa using hi)).2.1
  ·rw[<-hln];refine .sl e l (V a) cp (λi j=>(CS i).1[j]!) (by omega) (by omega) (λi hi=> ?_) (λi hi=> ?_) (λi j av hi hj=> ?_)
   ·rw[hln]at hi;obtain⟨h1,_,h3⟩:=hCS i hi;obtain⟨_,h5,_⟩:=World.cells?_some h1;rw[hget i hi,<-h3.1,h5,hs]
   ·rw[hln]at hi;obtain⟨h1,_,h3⟩:=hCS i hi;obtain⟨_,h5,h6⟩:=World.cells?_some h1;have hj:∀j,j<sz+1->w.cell? ((a.add (i*(sz+1))).add j)=V (CS i).1[j]! :=λj hj=>by
     rw[h6 j hj,getElem!_pos _ j (by omega),zu (by omega)]
    obtain⟨b,off,spot⟩:=a;have hs:spot=S:=by
     obtain⟨g1,_,_⟩:=hCS 0 (by omega);obtain⟨_,g5,g6⟩:=World.cells?_some g1;have:=World.cell?_spot (v:=(CS 0).1[0]!) (w:=w) (a:=((⟨b,off,spot⟩:Addr).add (0*(sz+1))).add 0) (by rw[g6 0 (by omega),getElem!_pos _ 0 (by omega),zu (by omega)]);simpa [Addr.add]using this
    subst hs;have hj':∀j,j<sz+1->w.cell? ⟨b,off+i*(sz+1)+j,S⟩=V (CS i).1[j]! :=λj hlt=>by
     have:=hj j hlt;have ap:∀o i:Nat,(⟨b,o,S⟩:Addr).add i=⟨b,o+i,S⟩:=λo i=>by
      unfold Addr.add;split
      ·rename_i h0;simp only[h0,yq]
      ·rfl
     rw[ap,ap]at this;exact this
    exact⟨b,off,rfl,World.block_lt_of_cell? w _ (hj' 0 (by omega)),trivial,by rw[hs];exact hj'⟩
   ·rw[hln]at hi;rw[hget i hi]at hj;obtain⟨h1,_,h3⟩:=hCS i hi;obtain⟨v,q1,q2⟩:=h3.get hj;show Rel sM w av (CS i).1[j]!;obtain⟨q3,q4⟩:=z7.1 q1;rw[getElem!_pos _ j q3,q4];exact q2
end
end Go.Iv
end
noncomputable section
set_option maxRecDepth 100000
namespace Go.Proofs.YtnfljbehcffmcaaGreat
open Go Go.Iv Go.RowKit Go.Deep Go.ChangeShapes Go.WideShapes Go.Joins
section
variable {H:Type} {enc:TypeId×Value->H} {w:World}
def og9:jV enc w9 w 9 (λs=>[.s s]) (λ_=>True):=jV.str underlying9
def avX:jV enc w9 w 129 (cN .i64) (λ_=>True):=(jV.int underlying129).any
def og3:jV enc w9 w 3 (cN .i64) (λ_=>True):=(jV.int underlying3).any
def azX:jV enc w9 w 131 (uni.cells 131) (λ_=>True):=λbase fuel cs x h=>by
 obtain⟨xs,n,hfu,rfl,hl,hlen,hf⟩:=DataW.trod_struct underlying131 h;rw[show w9.cellsOf 131=5 from by kernel_rfl]at hl;have hlen:xs.length=5:=hlen;have f0:DataW.trod enc w9 w base (λ_=>O) O n 9 ((cs.drop 0).take (w9.cellsOf 9))=xs[0]? :=hf 0 _ rfl;rw[show w9.cellsOf 9=1 from by kernel_rfl,zu (show 0<xs.length by omega)]at f0;obtain⟨a0,_,r0⟩:=og9 _ _ _ _ f0;have f1:DataW.trod enc w9 w base (λ_=>O) O n 129 ((cs.drop 1).take (w9.cellsOf 129))=xs[1]? :=hf 1 _ rfl;rw[show w9.cellsOf 129=1 from by kernel_rfl,zu (show 1<xs.length by omega)]at f1;obtain⟨a1,_,r1⟩:=avX _ _ _ _ f1;have f2:DataW.trod enc w9 w base (λ_=>O) O n 3 ((cs.drop 2).take (w9.cellsOf 3))=xs[2]? :=hf 2 _ rfl;rw[show w9.cellsOf 3=1 from by kernel_rfl,zu (show 2<xs.length by omega)]at f2;obtain⟨a2,_,r2⟩:=og3 _ _ _ _ f2;have f3:DataW.trod enc w9 w base (λ_=>O) O n 3 ((cs.drop 3).take (w9.cellsOf 3))=xs[3]? :=hf 3 _ rfl;rw[show w9.cellsOf 3=1 from by kernel_rfl,zu (show 3<xs.length by omega)]at f3;obtain⟨a3,_,r3⟩:=og3 _ _ _ _ f3;have f4:DataW.trod enc w9 w base (λ_=>O) O n 3 ((cs.drop 4).take (w9.cellsOf 3))=xs[4]? :=hf 4 _ rfl;rw[show w9.cellsOf 3=1 from by kernel_rfl,zu (show 4<xs.length by omega)]at f4;obtain⟨a4,_,r4⟩:=og3 _ _ _ _ f4;have e:bL sM w [] (cs.drop 5):=by rw[xY (by omega)];exact bL.nil
 have s4:=cW (us:=cs.drop 4) r4 (by rw[zW];exact e);have s3:=cW (us:=cs.drop 3) r3 (by rw[zW];exact s4);have s2:=cW (us:=cs.drop 2) r2 (by rw[zW];exact s3);have s1:=cW (us:=cs.drop 1) r1 (by rw[zW];exact s2);have s0:=cW (us:=cs.drop 0) r0 (by rw[zW];exact s1);exact⟨(⟨a0,a1,a2,a3,a4⟩:aX),trivial,s0⟩
def aDR:jV enc w9 w 22 (λl:aa (uni.dw 131)=>[.sl 131 l]) (λl=>l.length<=9223372036854775807/\∀a∈l,True):=jV.slice (e:=131) (sz:=4) underlying22 (by kernel_rfl) rfl azX
def awT:jV enc w9 w 134 (cN .i64) (λ_=>True):=(jV.int underlying134).any
def YH:∀B,I9 B enc w9 w 137 (uni.cells 137) (λ_=>True)
 |0=>λbase fuel hB=>dF hB (yF _)
 |B+1=>λbase fuel hB cs x h=>by
  have ih:=YH B;obtain⟨xs,n,hfu,rfl,hl,hlen,hf⟩:=DataW.trod_struct underlying137 h;rw[show w9.cellsOf 137=3 from by kernel_rfl]at hl;have hlen:xs.length=3:=hlen;have f0:DataW.trod enc w9 w base (λ_=>O) O n 134 ((cs.drop 0).take (w9.cellsOf 134))=xs[0]? :=hf 0 _ rfl;rw[show w9.cellsOf 134=1 from by kernel_rfl,zu (show 0<xs.length by omega)]at f0;obtain⟨a0,_,r0⟩:=awT _ _ _ _ f0;have f1:DataW.trod enc w9 w base (λ_=>O) O n 3 ((cs.drop 1).take (w9.cellsOf 3))=xs[1]? :=hf 1 _ rfl;rw[show w9.cellsOf 3=1 from by kernel_rfl,zu (show 1<xs.length by omega)]at f1;obtain⟨a1,_,r1⟩:=og3 _ _ _ _ f1;have f2:DataW.trod enc w9 w base (λ_=>O) O n 135 ((cs.drop 2).take (w9.cellsOf 135))=xs[2]? :=hf 2 _ rfl;rw[show w9.cellsOf 135=1 from by kernel_rfl,zu (show 2<xs.length by omega)]at f2;obtain⟨a2,_,r2⟩:=I9.slice (t:=135) (e:=137) (sz:=2) underlying135 (by kernel_rfl) rfl ih base n (by omega) _ _ f2;have e:bL sM w [] (cs.drop 3):=by rw[xY (by omega)];exact bL.nil
  have s2:=cW (us:=cs.drop 2) r2 (by rw[zW];exact e);have s1:=cW (us:=cs.drop 1) r1 (by rw[zW];exact s2);have s0:=cW (us:=cs.drop 0) r0 (by rw[zW];exact s1);exact⟨(⟨a0,a1,a2⟩:au),trivial,s0⟩
def amr:jV enc w9 w 137 (uni.cells 137) (λ_=>True):=jV.ofB YH
def axw:jV enc w9 w 139 (uni.cells 139) (λ_=>True):=λbase fuel cs x h=>by
 obtain⟨xs,n,hfu,rfl,hl,hlen,hf⟩:=DataW.trod_struct underlying139 h;rw[show w9.cellsOf 139=6 from by kernel_rfl]at hl;have hlen:xs.length=4:=hlen;have f0:DataW.trod enc w9 w base (λ_=>O) O n 9 ((cs.drop 0).take (w9.cellsOf 9))=xs[0]? :=hf 0 _ rfl;rw[show w9.cellsOf 9=1 from by kernel_rfl,zu (show 0<xs.length by omega)]at f0;obtain⟨a0,_,r0⟩:=og9 _ _ _ _ f0;have f1:DataW.trod enc w9 w base (λ_=>O) O n 3 ((cs.drop 1).take (w9.cellsOf 3))=xs[1]? :=hf 1 _ rfl;rw[show w9.cellsOf 3=1 from by kernel_rfl,zu (show 1<xs.length by omega)]at f1;obtain⟨a1,_,r1⟩:=og3 _ _ _ _ f1;have f2:DataW.trod enc w9 w base (λ_=>O) O n 3 ((cs.drop 2).take (w9.cellsOf 3))=xs[2]? :=hf 2 _ rfl;rw[show w9.cellsOf 3=1 from by kernel_rfl,zu (show 2<xs.length by omega)]at f2;obtain⟨a2,_,r2⟩:=og3 _ _ _ _ f2;have f3:DataW.trod enc w9 w base (λ_=>O) O n 137 ((cs.drop 3).take (w9.cellsOf 137))=xs[3]? :=hf 3 _ rfl;rw[show w9.cellsOf 137=3 from by kernel_rfl,zu (show 3<xs.length by omega)]at f3;obtain⟨a3,_,r3⟩:=amr _ _ _ _ f3;have e:bL sM w [] (cs.drop 6):=by rw[xY (by omega)];exact bL.nil
 have s3:=cW (us:=cs.drop 3) r3 (by rw[zW];exact e);have s2:=cW (us:=cs.drop 2) r2 (by rw[zW];exact s3);have s1:=cW (us:=cs.drop 1) r1 (by rw[zW];exact s2);have s0:=cW (us:=cs.drop 0) r0 (by rw[zW];exact s1);exact⟨(⟨a0,a1,a2,a3⟩:dx),trivial,s0⟩
def aDF:jV enc w9 w 23 (λl:aa (uni.dw 139)=>[.sl 139 l]) (λl=>l.length<=9223372036854775807/\∀a∈l,True):=jV.slice (e:=139) (sz:=5) underlying23 (by kernel_rfl) rfl axw
def awh:jV enc w9 w 164 (cN .i64) (λ_=>True):=(jV.int underlying164).any
def au7:jV enc w9 w 27 (λl:aa (uni.dw 3)=>[.sl 3 l]) (λl=>l.length<=9223372036854775807/\∀a∈l,True):=jV.slice (e:=3) (sz:=0) underlying27 (by kernel_rfl) rfl og3
def Zz:∀B,I9 B enc w9 w 166 (uni.cells 166) (λ_=>True)
 |0=>λbase fuel hB=>dF hB (yF _)
 |B+1=>λbase fuel hB cs x h=>by
  have ih:=Zz B;obtain⟨xs,n,hfu,rfl,hl,hlen,hf⟩:=DataW.trod_struct underlying166 h;rw[show w9.cellsOf 166=10 from by kernel_rfl]at hl;have hlen:xs.length=8:=hlen;have f0:DataW.trod enc w9 w base (λ_=>O) O n 164 ((cs.drop 0).take (w9.cellsOf 164))=xs[0]? :=hf 0 _ rfl;rw[show w9.cellsOf 164=1 from by kernel_rfl,zu (show 0<xs.length by omega)]at f0;obtain⟨a0,_,r0⟩:=awh _ _ _ _ f0;have f1:DataW.trod enc w9 w base (λ_=>O) O n 3 ((cs.drop 1).take (w9.cellsOf 3))=xs[1]? :=hf 1 _ rfl;rw[show w9.cellsOf 3=1 from by kernel_rfl,zu (show 1<xs.length by omega)]at f1;obtain⟨a1,_,r1⟩:=og3 _ _ _ _ f1;have f2:DataW.trod enc w9 w base (λ_=>O) O n 3 ((cs.drop 2).take (w9.cellsOf 3))=xs[2]? :=hf 2 _ rfl;rw[show w9.cellsOf 3=1 from by kernel_rfl,zu (show 2<xs.length by omega)]at f2;obtain⟨a2,_,r2⟩:=og3 _ _ _ _ f2;have f3:DataW.trod enc w9 w base (λ_=>O) O n 3 ((cs.drop 3).take (w9.cellsOf 3))=xs[3]? :=hf 3 _ rfl;rw[show w9.cellsOf 3=1 from by kernel_rfl,zu (show 3<xs.length by omega)]at f3;obtain⟨a3,_,r3⟩:=og3 _ _ _ _ f3;have f4:DataW.trod enc w9 w base (λ_=>O) O n 137 ((cs.drop 4).take (w9.cellsOf 137))=xs[4]? :=hf 4 _ rfl;rw[show w9.cellsOf 137=3 from by kernel_rfl,zu (show 4<xs.length by omega)]at f4;obtain⟨a4,_,r4⟩:=amr _ _ _ _ f4;have f5:DataW.trod enc w9 w base (λ_=>O) O n 24 ((cs.drop 7).take (w9.cellsOf 24))=xs[5]? :=hf 5 _ rfl;rw[show w9.cellsOf 24=1 from by kernel_rfl,zu (show 5<xs.length by omega)]at f5;obtain⟨a5,_,r5⟩:=I9.slice (t:=24) (e:=166) (sz:=9) underlying24 (by kernel_rfl) rfl ih base n (by omega) _ _ f5;have f6:DataW.trod enc w9 w base (λ_=>O) O n 24 ((cs.drop 8).take (w9.cellsOf 24))=xs[6]? :=hf 6 _ rfl;rw[show w9.cellsOf 24=1 from by kernel_rfl,zu (show 6<xs.length by omega)]at f6;obtain⟨a6,_,r6⟩:=I9.slice (t:=24) (e:=166) (sz:=9) underlying24 (by kernel_rfl) rfl ih base n (by omega) _ _ f6;have f7:DataW.trod enc w9 w base (λ_=>O) O n 27 ((cs.drop 9).take (w9.cellsOf 27))=xs[7]? :=hf 7 _ rfl;rw[show w9.cellsOf 27=1 from by kernel_rfl,zu (show 7<xs.length by omega)]at f7;obtain⟨a7,_,r7⟩:=au7 _ _ _ _ f7;have e:bL sM w [] (cs.drop 10):=by rw[xY (by omega)];exact bL.nil
  have s7:=cW (us:=cs.drop 9) r7 (by rw[zW];exact e);have s6:=cW (us:=cs.drop 8) r6 (by rw[zW];exact s7);have s5:=cW (us:=cs.drop 7) r5 (by rw[zW];exact s6);have s4:=cW (us:=cs.drop 4) r4 (by rw[zW];exact s5);have s3:=cW (us:=cs.drop 3) r3 (by rw[zW];exact s4);have s2:=cW (us:=cs.drop 2) r2 (by rw[zW];exact s3);have s1:=cW (us:=cs.drop 1) r1 (by rw[zW];exact s2);have s0:=cW (us:=cs.drop 0) r0 (by rw[zW];exact s1);exact⟨(⟨a0,a1,a2,a3,a4,a5,a6,a7⟩:ay),trivial,s0⟩
def azJ:jV enc w9 w 166 (uni.cells 166) (λ_=>True):=jV.ofB Zz
def aAS:jV enc w9 w 24 (λl:aa (uni.dw 166)=>[.sl 166 l]) (λl=>l.length<=9223372036854775807/\∀a∈l,True):=jV.slice (e:=166) (sz:=9) underlying24 (by kernel_rfl) rfl azJ
def aDy:jV enc w9 w 26 (uni.cells 26) (λ_=>True):=λbase fuel cs x h=>by
 obtain⟨xs,n,hfu,rfl,hl,hlen,hf⟩:=DataW.trod_struct underlying26 h;rw[show w9.cellsOf 26=3 from by kernel_rfl]at hl;have hlen:xs.length=3:=hlen;have f0:DataW.trod enc w9 w base (λ_=>O) O n 22 ((cs.drop 0).take (w9.cellsOf 22))=xs[0]? :=hf 0 _ rfl;rw[show w9.cellsOf 22=1 from by kernel_rfl,zu (show 0<xs.length by omega)]at f0;obtain⟨a0,_,r0⟩:=aDR _ _ _ _ f0;have f1:DataW.trod enc w9 w base (λ_=>O) O n 23 ((cs.drop 1).take (w9.cellsOf 23))=xs[1]? :=hf 1 _ rfl;rw[show w9.cellsOf 23=1 from by kernel_rfl,zu (show 1<xs.length by omega)]at f1;obtain⟨a1,_,r1⟩:=aDF _ _ _ _ f1;have f2:DataW.trod enc w9 w base (λ_=>O) O n 24 ((cs.drop 2).take (w9.cellsOf 24))=xs[2]? :=hf 2 _ rfl;rw[show w9.cellsOf 24=1 from by kernel_rfl,zu (show 2<xs.length by omega)]at f2;obtain⟨a2,_,r2⟩:=aAS _ _ _ _ f2;have e:bL sM w [] (cs.drop 3):=by rw[xY (by omega)];exact bL.nil
 have s2:=cW (us:=cs.drop 2) r2 (by rw[zW];exact e);have s1:=cW (us:=cs.drop 1) r1 (by rw[zW];exact s2);have s0:=cW (us:=cs.drop 0) r0 (by rw[zW];exact s1);exact⟨(⟨a0,a1,a2⟩:aN),trivial,s0⟩
def og4:jV enc w9 w 4 cB (λ_=>True):=jV.bool underlying4
def aAU:jV enc w9 w 29 (uni.cells 29) (λ_=>True):=λbase fuel cs x h=>by
 obtain⟨xs,n,hfu,rfl,hl,hlen,hf⟩:=DataW.trod_struct underlying29 h;rw[show w9.cellsOf 29=2 from by kernel_rfl]at hl;have hlen:xs.length=2:=hlen;have f0:DataW.trod enc w9 w base (λ_=>O) O n 27 ((cs.drop 0).take (w9.cellsOf 27))=xs[0]? :=hf 0 _ rfl;rw[show w9.cellsOf 27=1 from by kernel_rfl,zu (show 0<xs.length by omega)]at f0;obtain⟨a0,_,r0⟩:=au7 _ _ _ _ f0;have f1:DataW.trod enc w9 w base (λ_=>O) O n 4 ((cs.drop 1).take (w9.cellsOf 4))=xs[1]? :=hf 1 _ rfl;rw[show w9.cellsOf 4=1 from by kernel_rfl,zu (show 1<xs.length by omega)]at f1;obtain⟨a1,_,r1⟩:=og4 _ _ _ _ f1;have e:bL sM w [] (cs.drop 2):=by rw[xY (by omega)];exact bL.nil
 have s1:=cW (us:=cs.drop 1) r1 (by rw[zW];exact e);have s0:=cW (us:=cs.drop 0) r0 (by rw[zW];exact s1);exact⟨(⟨a0,a1⟩:bY),trivial,s0⟩
end
end Go.Proofs.YtnfljbehcffmcaaGreat
end
noncomputable section
set_option maxRecDepth 100000
namespace Go.Proofs.YtnfljbehcffmcaaGreat
open Go Go.Iv
open Go.IntKind (i64 u64)
def axC:gN w9 8 0 (d8.pat O)=⟨.b O,[],0⟩:=by kernel_rfl
def anH{x:Int}(h:(Lit.int .u8 x).wf=O):0<=x/\x<256:=by
 unfold Lit.wf at h;rw[zi,decide_eq_true_eq,decide_eq_true_eq]at h;have h1:IntKind.u8.min=0:=by decide
 have h2:IntKind.u8.max=255:=by decide
 rw[h1,h2]at h;omega
def axp(f:aN)(v:bY)(p:aa Int)(hx:p.length<=9223372036854775807/\∀x∈p,(Lit.int .u8 x).wf=O):Iv.Fn w9 8 [.agg (uni.cells 26 f), .agg (uni.cells 29 v), .sl 5 p] [] (λa s=>a= .b O/\s=[]):=(h8 (f,v,p,()) O (aCj f v p λx h=>anH (hx.2 x h))).law axC (by kernel_rfl)
section
variable {H:Type} {enc:TypeId×Value->H} {w:World}
def og5:jV enc w9 w 5 (cN .u8) (λn=>(Lit.int .u8 n).wf=O):=jV.int underlying5
def aCl:jV enc w9 w 79 (λl:aa (uni.dw 5)=>[.sl 5 l]) (λl=>l.length<=9223372036854775807/\∀a∈l,(Lit.int .u8 a).wf=O):=jV.slice (e:=5) (sz:=0) underlying79 (by kernel_rfl) rfl og5
end
end Go.Proofs.YtnfljbehcffmcaaGreat
end
