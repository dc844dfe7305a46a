/- Merged: Nr1, Nr2, Nr3, Nr4, Nr5, Nr6, Sg, Hrb, Nr7, Nr8, Iy1, Iy2, Opd, Qi. -/
import Derived.Test.YtnfljbehcffmcaaGreatM6RefineFinds
import Derived.Test.YtnfljbehcffmcaaGreatM2RefineFinds
import Derived.Test.YtnfljbehcffmcaaGreatM5RefineFinds
import Derived.Shelf.Spec.SlicesGrow
import Derived.Deep.Slices
import Derived.Lib.SmallJoins
open Int renaming toNat_natCast → ze, le_refl → zm, toNat → zC, lt_irrefl → ya
open Nat renaming le_refl → zn, lt_succ_self → zJ, le_succ → yc, zero_add → yp, add_zero → yt, not_lt_zero → yG, mod_lt → yQ, zero_le → yT, sub_self → xS
open Bool renaming and_eq_true → zi, false_eq_true → yA, or_eq_true → yM, true → O, false → S
open List renaming length_append → zj, replicate → zl, getElem?_eq_getElem → zu, all_eq_true → zw, length_map → zx, mem_singleton → zy, take_length → zB, mem_cons → zD, length_take → zH, mem_map → zL, range → zM, length → zP, drop_drop → zU, map_congr_left → zX, mem_filter → zZ, getElem?_eq_some_iff → z7, map_append → z8, map_cons → ye, length_filter_le → yh, length_set → yo, append_nil → yy, length_nil → yB, length_singleton → yH, length_cons → yN, append_assoc → yR, map_nil → yS, getElem_map → yY, getElem_of_mem → yZ, filterMap_cons → y6, filter_append → y7, length_eq_zero_iff → xg, drop_eq_getElem_cons → xu, take_append_drop → xw, flatMap_cons → xH, length_replicate → xO, mem_flatMap → xP, drop_of_length_le → xY, any_eq_true → wo, foldl_append → wz, set_eq_take_append_cons_drop → wC, flatMap_append → wF, length_pos_iff → wP
open Option renaming map_eq_some_iff → zk, bind_eq_some_iff → zq, some → zA, some → V, none → G
open Decidable renaming decide → J
open Go.Proofs.Tryz renaming prog → w9
open Go.Proofs.Tryz
set_option linter.unusedSectionVars false
set_option linter.unusedVariables false
set_option linter.unusedSimpArgs false
set_option linter.defProp false
noncomputable section
set_option maxRecDepth 100000
namespace Go.Proofs.YtnfljbehcffmcaaGreat
open Go Go.Iv
open Go.IntKind (i64 u64)
def iv(a b:Int):aH:=if a=b then⟨a,b,0⟩else⟨a,b,1⟩
def I9(a b:Int):(iv a b).ag=a:=by unfold iv;split<;>rfl
def Cy(a b:Int):(iv a b).ah=b:=by unfold iv;split<;>rfl
def ahy(a b:Int):RG a b=iv a b:=by unfold RG iv;by_cases h:a=b<;>simp[h]
def ayO{a b:Int}(h1: -1048576<=a)(h2:a<=b)(h3:b<=1048576):NN (iv a b):=by
 unfold iv;by_cases e:a=b
 ·rw[bE e];exact⟨by show _<=a;omega,by show b<=_;omega,by show a<=b;omega, .inl ⟨e,rfl⟩⟩
 ·rw[bO e];exact⟨by show _<=a;omega,by show b<=_;omega,by show a<=b;omega, .inr ⟨by show a<b;omega,by show (1:Int)<=1;omega,by show (b-a)%1=0;omega⟩⟩
structure iJ (f:aN) (b:List aH):Prop where
 len:b.length=(dM f.ai).length
 el:∀j,j<b.length->∃x y,b[j]! =iv x y/\x<=y/\(dM f.ai)[j]!.ag<=x/\y<=(dM f.ai)[j]!.ah
structure Cx (f:aN) (v:bV):Prop where
 hN:fO f.bI+jA (f.ak.map (·.aA))<=900
 hh:f.ak.length<=1000
 hl:f.ai.length<=1000
 hc:oI f=0
 hq:cdA f v=0
def kG{α:Type}[Inhabited α](l:aa α)(i j:Nat)(x:α)(hj:j<l.length):(l.set i x)[j]! =if i=j then x else l[j]! :=by
 rw[getElem!_pos _ j (by simpa using hj),getElem!_pos l j hj,List.getElem_set]
def DL{α:Type}[Inhabited α](l m:aa α)(j:Nat)(hj:j<l.length):(l++m)[j]! =l[j]! :=by
 rw[getElem!_pos _ j (by simp;omega),getElem!_pos l j hj,List.getElem_append_left hj]
def pM{α:Type}[Inhabited α](l m:aa α)(j:Nat)(h:j<m.length):(l++m)[l.length+j]! =m[j]! :=by
 rw[getElem!_pos _ _ (by simp;omega),getElem!_pos m j h,List.getElem_append_right (by omega)];simp
def eF{α β:Type}[Inhabited α][Inhabited β](g:α->β)(l:aa α)(j:Nat)(h:j<l.length):(l.map g)[j]! =g l[j]! :=by
 rw[getElem!_pos _ j (by simpa using h),getElem!_pos l j h,yY]
def Vx(b:aa aH)(i:Nat)(at_:Int):aa aH:=b.set i (iv b[i]!.ag at_)
def Xb(b:aa aH)(i:Nat)(at_:Int):aa aH:=b.set i (iv (at_+1) b[i]!.ah)
section
variable {f:aN} {v:bV}
def l5(h:Cx f v):(dM f.ai).length<=2000:=by
 unfold dM;rw[zj];have:=yh (kd 1) f.ai;have:=yh (kd 3) f.ai;have:=h.hl;omega
def iJ.bd{b:aa aH}(h:iJ f b)(c:oI f=0){j:Nat}(hj:j<b.length): -1048576<=b[j]!.ag/\b[j]!.ag<=b[j]!.ah/\b[j]!.ah<=1048576:=by
 obtain⟨x,y,e,h1,h2,h3⟩:=h.el j hj;obtain⟨k1,k2,k3⟩:=Jc c (j:=j) (by rw[<-h.len];exact hj);rw[e,I9,Cy];omega
def Ti(h:Cx f v):iJ f (kX f):=by
 rw[uS];refine⟨by simp,λj hj=> ?_⟩;have hj':j<(dM f.ai).length:=by simpa using hj
 obtain⟨k1,k2,k3⟩:=Jc h.hc hj';refine⟨(dM f.ai)[j]!.ag,(dM f.ai)[j]!.ah,?_,k2,zm _,zm _⟩;rw[eF _ _ _ hj'];unfold rZ iv;by_cases e:(dM f.ai)[j]!.ag=(dM f.ai)[j]!.ah
 ·rw[bE e,bE e,<-e]
 ·rw[bO e,bO e]
def abK{b:aa aH}(h:iJ f b){i:Nat}(hi:i<b.length){x y:Int}(h1:x<=y)(h2:b[i]!.ag<=x)(h3:y<=b[i]!.ah):iJ f (b.set i (iv x y)):=by
 refine⟨by rw[yo];exact h.len,λj hj=> ?_⟩;rw[yo]at hj;rw[kG _ _ _ _ hj];by_cases e:i=j
 ·subst e;obtain⟨x',y',e',k1,k2,k3⟩:=h.el i hj;rw[e',I9]at h2;rw[e',Cy]at h3;exact⟨x,y,by rw[bE rfl],h1,by omega,by omega⟩
 ·rw[bO e];exact h.el j hj
def alp{b:aa aH}(h:iJ f b){i:Nat}(hi:i<b.length){a:Int}(h1:b[i]!.ag<=a)(h2:a<b[i]!.ah):iJ f (Vx b i a):=abK h hi h1 (zm _) (by omega)
def ani{b:aa aH}(h:iJ f b){i:Nat}(hi:i<b.length){a:Int}(h1:b[i]!.ag<=a)(h2:a<b[i]!.ah):iJ f (Xb b i a):=abK h hi (by omega) (by omega) (zm _)
def iJ.ask{b:aa aH}(h:iJ f b)(c:Cx f v):tZ f v b=0:=by
 have hq:=c.hq;have hc:=c.hc;unfold cdA at hq;unfold tZ;by_cases h2:v.aU.length=(f.ai.filter (kd 2)).length
 case neg=>rw[bO (by simpa using hc),bE h2]at hq;cases hq
 by_cases h3:cu (jq v.aU) (f.ai.filter (kd 2)) 0=0
 case neg=>rw[bO (by simpa using hc),bO (by simpa using h2)]at hq;exact dD hq h3
 rw[bO (by simpa using hc),bO (by simpa using h2),bO (by simpa using h3),bO (by simpa using h.len)];refine Hp _ _ λj hj=> ?_;rw[yp];have hj':j<b.length:=by rw[h.len];exact hj
 obtain⟨x,y,e,h1,h2,h3⟩:=h.el j hj';obtain⟨k1,k2,k3⟩:=Jc hc hj;have hn:NN b[j]! :=by rw[e];exact ayO (by omega) h1 (by omega)
 have el:b[j]!.ag=x:=by rw[e,I9]
 have eh:b[j]!.ah=y:=by rw[e,Cy]
 unfold nP;rw[ew (.inr hn)];simp only[bC,bB];have hs:V2 b[j]! =cw b[j]! :=by unfold V2;rw[bE (.inr hn)]
 have hp:=size_pos hn;rw[hs,gh,gh,gh];rfl
def bdX(f:aN)(v:bV)(b:aa aH):Int:=asc (gL f v b) (hU b)
def sgX(f:aN)(v:bV)(b:aa aH):Bool:=sgB (gL f v b)
def obX(f:aN)(v:bV)(b:aa aH):aD:=if sgX f v b=O then ae3 (gL f v b)else⟨[],0⟩
def iJ.Qr{b:aa aH}(h:iJ f b)(c:Cx f v):Qr f v b=V (bdX f v b,0):=by
 have ha:=h.ask c;have e20:=alD (v:=v) (box:=b) c.hN c.hh c.hl;rw[bE ha]at e20;have hfit:=Cv ha;have hbl:b.length<=1000000:=by have:=l5 c;rw[h.len];omega
 exact aAf e20 (Tp hfit) hfit.nn hbl hfit.vol.2
def iJ.Wb{b:aa aH}(h:iJ f b)(c:Cx f v):Wb f v b=V (obX f v b,sgX f v b,0):=by
 have ha:=h.ask c;have e20:=alD (v:=v) (box:=b) c.hN c.hh c.hl;rw[bE ha]at e20;have hfit:=Cv ha;have:=avg e20 (Tp hfit);rw[this];unfold obX sgX;cases sgB (gL f v b)<;>rfl
def iJ.obl{b:aa aH}(h:iJ f b)(c:Cx f v):(obX f v b).aY.length<=8:=by
 unfold obX;split
 ·unfold ae3;rw[zx];exact(XC (Cv (h.ask c))).1
 ·exact yT _
def cellOf(f:aN)(v:bV)(p:Part):eo:=⟨p.bP,p.bZ,p.iV,p.aq,bdX f v p.bP,sgX f v p.bP,obX f v p.bP⟩
def gJ(l:aa Part)(k i:Nat)(a:Int):aa Part:=
 l.set k ⟨(i:Int),a,[(l.length:Int),((l.length+1:Nat):Int)],l[k]!.bP⟩++[⟨0,0,[],Vx l[k]!.bP i a⟩,⟨0,0,[],Xb l[k]!.bP i a⟩]
def alu{l:aa aH}(h:l.length<=1000000):Vy l=V l:=by unfold Vy;rw[gY]
def TV{b:aa aH}(h:b.length<=1000000){i:Nat}(hi:i<b.length){a:Int}(h1: -1048576<=a)(h2:a<=1048576):Pm b (i:Int) a=V (Vx b i a,Xb b i a):=by
 have hw:i64.wrap (a+1)=a+1:=aG;have i1:(i:Int)<(b.length:Int):=by omega
 have i2:(0:Int)<=(i:Int):=by omega
 unfold Pm;simp only[alu h,ze,i1,i2,cT,cB,hi,ahy,hw];rfl
def Uf{b:aa aH}(h:iJ f b)(c:Cx f v){l:aa eo}(hl:l.length<=1000000):WT b ⟨f,v,l⟩=V ⟨f,v,l++[cellOf f v ⟨0,0,[],b⟩]⟩:=by
 have:(l++[cellOf f v ⟨0,0,[],b⟩]).length<=1073741824:=by rw[zj,yH];omega
 unfold WT;simp only[h.Qr c,h.Wb c];exact bE this
def E4(l:aa Part)(k:Nat)(q:Part){x:eo}(hx:x=cellOf f v q):(l.map (cellOf f v)).set k x=(l.set k q).map (cellOf f v):=by rw[hx,<-List.map_set]
def aiz(c:Cx f v){l:aa Part}(hl:l.length<=100000){k i:Nat}(hk:k<l.length)(hb:iJ f l[k]!.bP)(hi:i<l[k]!.bP.length){a:Int}(h1:l[k]!.bP[i]!.ag<=a)(h2:a<l[k]!.bP[i]!.ah):
  Xx (k:Int) (i:Int) a ⟨f,v,l.map (cellOf f v)⟩=V ⟨f,v,(gJ l k i a).map (cellOf f v)⟩:=by
 have hbl:l[k]!.bP.length<=1000000:=by have:=l5 c;rw[hb.len];omega
 have hd:=hb.bd c.hc hi;have Qt:=TV hbl hi (a:=a) (by omega) (by omega);have ek:(l.map (cellOf f v))[k]! =cellOf f v l[k]! :=eF _ _ _ hk;have k1:(k:Int)<(l.length:Int):=by omega
 have k2:(0:Int)<=(k:Int):=by omega
 have hw:i64.wrap ((l.length:Int)+1)=((l.length+1:Nat):Int):=fu (n:=1000000) (by omega) (by omega);have g0:k8 ⟨f,v,l.map (cellOf f v)⟩ (k:Int) (i:Int)=(l.set k ⟨(i:Int),l[k]!.iV,l[k]!.aq,l[k]!.bP⟩).map (cellOf f v):=by
  unfold k8;rw[ze];exact E4 l k _ (by dsimp only;rw[ek];rfl)
 have g1:lT ⟨f,v,l.map (cellOf f v)⟩ (k:Int) (i:Int) a=(l.set k ⟨(i:Int),a,l[k]!.aq,l[k]!.bP⟩).map (cellOf f v):=by
  unfold lT;rw[g0,ze,eF _ _ _ (by simpa using hk),kG _ _ _ _ hk,bE rfl];exact(E4 _ k ⟨(i:Int),a,l[k]!.aq,l[k]!.bP⟩ rfl).trans (by rw[List.set_set])
 have g2:((l.set k ⟨(i:Int),a,l[k]!.aq,l[k]!.bP⟩).map (cellOf f v))[k]! =cellOf f v ⟨(i:Int),a,l[k]!.aq,l[k]!.bP⟩:=by
  rw[eF _ _ _ (by simpa using hk),kG _ _ _ _ hk,bE rfl]
 have e1:=Uf (alp hb hi h1 h2) c (l:=(l.set k ⟨(i:Int),a,[(l.length:Int),((l.length+1:Nat):Int)],l[k]!.bP⟩).map (cellOf f v)) (by simp;omega);have e2:=Uf (ani hb hi h1 h2) c (l:=(l.set k ⟨(i:Int),a,[(l.length:Int),((l.length+1:Nat):Int)],l[k]!.bP⟩).map (cellOf f v)++[cellOf f v ⟨0,0,[],Vx l[k]!.bP i a⟩]) (by simp;omega);have e3:((l.set k ⟨(i:Int),a,l[k]!.aq,l[k]!.bP⟩).map (cellOf f v)).set k ⟨l[k]!.bP,(i:Int),a,[(l.length:Int),((l.length+1:Nat):Int)],bdX f v l[k]!.bP,sgX f v l[k]!.bP,obX f v l[k]!.bP⟩=(l.set k ⟨(i:Int),a,[(l.length:Int),((l.length+1:Nat):Int)],l[k]!.bP⟩).map (cellOf f v):=by
  exact(E4 _ k ⟨(i:Int),a,[(l.length:Int),((l.length+1:Nat):Int)],l[k]!.bP⟩ rfl).trans (by rw[List.set_set])
 unfold Xx;simp only[g0,g1,g2,ek,zx,yo,ze,k1,k2,hk,cT,cB,hw,cellOf,Qt]at*;rw[e3,e1];simp only;rw[e2];simp only[gJ,z8,yR];rfl
end
def fJ(l:aa Part):aa Int:=l.flatMap (·.aq)
structure WF (f:aN) (l:List Part):Prop where
 ne:0<l.length
 root:l[0]!.bP=kX f
 box:∀i,i<l.length->iJ f l[i]!.bP
 kid:∀i,i<l.length->(l[i]!.aq=[]/\l[i]!.bZ=0/\l[i]!.iV=0)\/
  ∃a b j:Nat,l[i]!.aq=[(a:Int),(b:Int)]/\i<a/\a<l.length/\i<b/\b<l.length/\a≠b/\l[i]!.bZ=(j:Int)/\j<l[i]!.bP.length/\l[i]!.bP[j]!.ag<=l[i]!.iV/\l[i]!.iV<l[i]!.bP[j]!.ah/\
   l[a]!.bP=Vx l[i]!.bP j l[i]!.iV/\l[b]!.bP=Xb l[i]!.bP j l[i]!.iV
 cnt:∀k:Nat,k<l.length->(fJ l).count (k:Int)=if k=0 then 0 else 1
def PB{l:aa Part}{k:Nat}(hk:k<l.length){q:Part}(h0:l[k]!.aq=[])(x:Int):(fJ (l.set k q)).count x=(fJ l).count x+q.aq.count x:=by
 have e1:l=l.take k++l[k]! ::l.drop (k+1):=by
  rw[getElem!_pos l k hk,<-xu hk,xw]
 have e2:l.set k q=l.take k++q::l.drop (k+1):=wC.trans (bE hk);unfold fJ
 conv=>rhs;rw[e1]
 rw[e2];simp only[wF,xH,List.count_append,h0,List.count_nil];omega
def WF.Zl{f:aN}{l:aa Part}(h:WF f l){x:Int}(hx:x∈fJ l):∃i a:Nat,i<l.length/\x∈l[i]!.aq/\x=(a:Int)/\i<a/\a<l.length:=by
 unfold fJ at hx;obtain⟨p,hp,hx⟩:=xP.1 hx;obtain⟨i,hi,rfl⟩:=yZ hp;have e:=getElem!_pos l i hi;refine⟨i,?_⟩;rcases h.kid i hi with ⟨h1,_⟩|⟨a,b,j,h1,h2,h3,h4,h5,_⟩
 ·rw[<-e,h1]at hx;cases hx
 ·rw[<-e]at hx;have hx':=hx;rw[h1]at hx;rcases zD.1 hx with rfl|hx
  ·exact⟨a,hi,hx',rfl,h2,h3⟩
  ·rw[zy.1 hx]at hx' ⊢;exact⟨b,hi,hx',rfl,h4,h5⟩
def WF.parent{f:aN}{l:aa Part}(h:WF f l){k:Nat}(hk:k<l.length)(h0:k≠0):∃i,i<k/\(k:Int)∈l[i]!.aq:=by
 have:=h.cnt k hk;rw[bO h0]at this;have hm:(k:Int)∈fJ l:=List.count_pos_iff.1 (by omega);obtain⟨i,a,h1,h2,h3,h4,h5⟩:=h.Zl hm;have:a=k:=by omega
 subst this;exact⟨i,h4,h2⟩
def No{f:aN}{v:bV}(c:Cx f v):WF f [⟨0,0,[],kX f⟩] where
 ne:=Nat.zero_lt_one
 root:=rfl
 box i hi:=by
  have:i=0:=by simpa using hi
  subst this;exact Ti c
 kid i hi:=by
  have:i=0:=by simpa using hi
  subst this;exact .inl ⟨rfl,rfl,rfl⟩
 cnt k hk:=by
  have:k=0:=by simpa using hk
  subst this;rfl
def tF(l:aa Part)(k i:Nat)(a:Int):(gJ l k i a).length=l.length+2:=by unfold gJ;simp
def Du(l:aa Part)(k i:Nat)(a:Int){j:Nat}(hj:j<l.length):(gJ l k i a)[j]! =if k=j then⟨(i:Int),a,[(l.length:Int),((l.length+1:Nat):Int)],l[k]!.bP⟩else l[j]! :=by
 unfold gJ;rw[DL _ _ _ (by simpa using hj),kG _ _ _ _ hj]
def QA(l:aa Part)(k i:Nat)(a:Int):(gJ l k i a)[l.length]! =⟨0,0,[],Vx l[k]!.bP i a⟩/\(gJ l k i a)[l.length+1]! =⟨0,0,[],Xb l[k]!.bP i a⟩:=by
 unfold gJ;have e:l.length=(l.set k ⟨(i:Int),a,[(l.length:Int),((l.length+1:Nat):Int)],l[k]!.bP⟩).length:=by simp
 constructor
 ·have:=pM (l.set k ⟨(i:Int),a,[(l.length:Int),((l.length+1:Nat):Int)],l[k]!.bP⟩) [(⟨0,0,[],Vx l[k]!.bP i a⟩:Part),⟨0,0,[],Xb l[k]!.bP i a⟩] 0 (by simp)
  rwa [<-e,yt]at this
 ·have:=pM (l.set k ⟨(i:Int),a,[(l.length:Int),((l.length+1:Nat):Int)],l[k]!.bP⟩) [(⟨0,0,[],Vx l[k]!.bP i a⟩:Part),⟨0,0,[],Xb l[k]!.bP i a⟩] 1 (by simp)
  rwa [<-e]at this
def LB{f:aN}{l:aa Part}(h:WF f l){k i:Nat}(hk:k<l.length)(h0:l[k]!.aq=[])(hi:i<l[k]!.bP.length){a:Int}(h1:l[k]!.bP[i]!.ag<=a)(h2:a<l[k]!.bP[i]!.ah):WF f (gJ l k i a):=by
 have hl:=tF l k i a;obtain⟨n1,n2⟩:=QA l k i a;have hb:=h.box k hk;have obx:∀j,j<l.length->(gJ l k i a)[j]!.bP=l[j]!.bP:=λj hj=>by
  rw[Du l k i a hj];by_cases e:k=j
  ·rw[bE e,e]
  ·rw[bO e]
 refine⟨by omega,by rw[obx 0 h.ne];exact h.root,λj hj=> ?_,λj hj=> ?_,λx hx=> ?_⟩
 ·rw[hl]at hj;by_cases j1:j<l.length
  ·rw[obx j j1];exact h.box j j1
  ·by_cases j2:j=l.length
   ·rw[j2,n1];exact alp hb hi h1 h2
   ·rw[show j=l.length+1 by omega,n2];exact ani hb hi h1 h2
 ·rw[hl]at hj;by_cases j1:j<l.length
  ·rw[Du l k i a j1];by_cases e:k=j
   ·rw[bE e];subst e;refine .inr ⟨l.length,l.length+1,i,rfl,hk,by omega,by omega,by omega,by omega,rfl,hi,h1,h2,?_,?_⟩
    ·rw[n1]
    ·rw[n2]
   ·rw[bO e];rcases h.kid j j1 with q|⟨a',b',i',q1,q2,q3,q4,q5,q6,q7,q8,q9,q10,q11,q12⟩
    ·exact .inl q
    ·exact .inr ⟨a',b',i',q1,q2,by omega,q4,by omega,q6,q7,q8,q9,q10,by rw[obx a' q3];exact q11,by rw[obx b' q5];exact q12⟩
  ·by_cases j2:j=l.length
   ·rw[j2,n1];exact .inl ⟨rfl,rfl,rfl⟩
   ·rw[show j=l.length+1 by omega,n2];exact .inl ⟨rfl,rfl,rfl⟩
 ·rw[hl]at hx;have e:(fJ (gJ l k i a)).count (x:Int)=(fJ l).count (x:Int)+[(l.length:Int),((l.length+1:Nat):Int)].count (x:Int):=by
   unfold gJ;have:fJ (l.set k ⟨(i:Int),a,[(l.length:Int),((l.length+1:Nat):Int)],l[k]!.bP⟩++[⟨0,0,[],Vx l[k]!.bP i a⟩,⟨0,0,[],Xb l[k]!.bP i a⟩])=fJ (l.set k ⟨(i:Int),a,[(l.length:Int),((l.length+1:Nat):Int)],l[k]!.bP⟩):=by
    unfold fJ;simp
   rw[this,PB hk h0]
  rw[e];have hc:∀y z:Nat,([(y:Int),(z:Int)]).count (x:Int)=(if y=x then 1 else 0)+(if z=x then 1 else 0):=λy z=>by
   simp only[List.count_cons,List.count_nil,beq_iff_eq,yp,Int.natCast_inj];omega
  rw[hc];by_cases x1:x<l.length
  ·rw[h.cnt x x1,bO (show ¬l.length=x by omega),bO (show ¬l.length+1=x by omega)];rfl
  ·have:(fJ l).count (x:Int)=0:=List.count_eq_zero.2 λhm=>by
    obtain⟨i',a',q1,q2,q3,q4,q5⟩:=h.Zl hm;omega
   rw[this,bO (show ¬x=0 by have:=h.ne;omega)];by_cases x2:x=l.length
   ·rw[bE x2.symm,bO (show ¬l.length+1=x by omega)]
   ·rw[bO (show ¬l.length=x by omega),bE (show l.length+1=x by omega)]
def Wi(c:aa Cell)(i:Int)(n:Int)(t16:aa Cell)(t17 t18:Int)(ks:aa Int)(P:aa Int)(hl:ks.length<=1000000)(hk:∀x∈ks,∃a:Nat,x=(a:Int)/\i<(a:Int)/\a<c.length)(hP:P.length=c.length)(hb:∀k,k<P.length->0<=P[k]!/\P[k]!<=1000000):
  ∃Q,Et ⟨c,P,i,t16,t17,t18,ks,(ks.length:Int),0⟩=V ⟨c,Q,i,t16,t17,t18,ks,(ks.length:Int),(ks.length:Int)⟩/\Q.length=P.length/\∀k,k<P.length->Q[k]! =P[k]! +((ks.count (k:Int):Nat):Int):=by
 obtain⟨Q,e,h1,h2⟩:=dc (rnd:=Fb) ks.length (λj (Q:aa Int)=>⟨c,Q,i,t16,t17,t18,ks,(ks.length:Int),(j:Int)⟩) (λj Q=>Q.length=P.length/\∀k,k<P.length->Q[k]! =P[k]! +(((ks.take j).count (k:Int):Nat):Int)) (λj Q hj ⟨h1,h2⟩=>by
  have hw:=fu hj hl;have i1:(j:Int)<(ks.length:Int):=by omega
  have i2:(0:Int)<=(j:Int):=by omega
  obtain⟨a,ea,a1,a2⟩:=hk ks[j]! (bh hj);have a3:¬(a:Int)<=i:=by omega
  have a4:¬(c.length:Int)<=(a:Int):=by omega
  have a5:(a:Int)<(Q.length:Int):=by omega
  have a6:(0:Int)<=(a:Int):=by omega
  have a7:a<Q.length:=by omega
  have hq:=h2 a (by omega);have hbb:=hb a (by omega);have hcl:(ks.take j).count (a:Int)<=1000000:=by
   have:=List.count_le_length (a:=(a:Int)) (l:=ks.take j);rw[zH]at this;omega
  have hw2:i64.wrap (Q[a]! +1)=Q[a]! +1:=aG;refine⟨Q.set a (Q[a]! +1),?_,by rw[yo];exact h1,λk hk=> ?_⟩
  ·unfold Fb;simp only[ze,i1,i2,cI,bC,cT,cB,ea,a3,a4,a5,a6,a7,ep,bB,hw,hw2]
  ·rw[kG _ _ _ _ (by omega),bK hj,List.count_append,ea];by_cases e:a=k
   ·subst e;rw[bE rfl,hq];simp;omega
   ·rw[bO e,h2 k hk];have:([(a:Int)]).count (k:Int)=0:=List.count_eq_zero.2 (by simp;omega);rw[this];simp) (λQ _=>by unfold Fb;simp) (b:=P) ⟨rfl,λk _=>by simp⟩
 rw[zB]at h2;exact⟨Q,e,h1,h2⟩
structure amp (l:List Part) (c:List Cell):Prop where
 len:c.length=l.length
 el:∀i,i<l.length->c[i]!.bZ=l[i]!.bZ/\c[i]!.iV=l[i]!.iV/\c[i]!.aq=l[i]!.aq
def BB{l:aa Part}{i:Nat}(h:i<l.length):fJ (l.take (i+1))=fJ (l.take i)++l[i]!.aq:=by
 unfold fJ;rw[bK h,wF];simp
def WF.vn{f:aN}{l:aa Part}(h:WF f l){i:Nat}(hi:i<l.length):l[i]!.aq.length<=2:=by
 rcases h.kid i hi with ⟨h1,_⟩|⟨a,b,j,h1,_⟩<;>rw[h1]<;>simp
def WF.Ss{f:aN}{l:aa Part}(h:WF f l):∀i,i<=l.length->(fJ (l.take i)).length<=2*i
 |0,_=>by simp[fJ]
 |i+1,hi=>by
  have:=h.Ss i (by omega);have:=h.vn (i:=i) (by omega);rw[BB (by omega),zj];omega
def akx{f:aN}{l:aa Part}(h:WF f l)(hl:l.length<=100000){c:aa Cell}(hc:amp l c):Wo c=V O:=by
 have hn:c.length=l.length:=hc.len;have h0:=h.ne;obtain⟨P,e,hP,hPk⟩:=dc (rnd:=FX) c.length (λi (P:aa Int)=>⟨c,P,c,(c.length:Int),(i:Int)⟩) (λi P=>P.length=c.length/\∀k,k<c.length->P[k]! =(((fJ (l.take i)).count (k:Int):Nat):Int)) (λi P hi ⟨p1,p2⟩=>by
  have hw:=fu hi (by omega);have i1:(i:Int)<(c.length:Int):=by omega
  have i2:(0:Int)<=(i:Int):=by omega
  have hil:i<l.length:=by omega
  obtain⟨c1,c2,c3⟩:=hc.el i hil;have hkl:=h.vn hil;have hall:∀x∈c[i]!.aq,∃a:Nat,x=(a:Int)/\(i:Int)<(a:Int)/\a<c.length:=λx hx=>by
   rw[c3]at hx;rcases h.kid i hil with ⟨q1,_⟩|⟨a,b,j,q1,q2,q3,q4,q5,_⟩
   ·rw[q1]at hx;cases hx
   ·rw[q1]at hx;rcases zD.1 hx with rfl|hx
    ·exact⟨a,rfl,by omega,by omega⟩
    ·rw[zy.1 hx];exact⟨b,rfl,by omega,by omega⟩
  obtain⟨Q,e1,e2,e3⟩:=Wi c (i:Int) 0 c (c.length:Int) (i:Int) c[i]!.aq P (by rw[c3];omega) hall p1 (λk hk=>by
   rw[p2 k (by omega)];have:=h.Ss i (by omega);have:=List.count_le_length (a:=(k:Int)) (l:=fJ (l.take i));omega)
  refine⟨Q,?_,by omega,λk hk=> ?_⟩
  ·unfold FX;rcases h.kid i hil with ⟨q1,q2,q3⟩|⟨a,b,j,q1,_⟩
   ·have z:c[i]!.aq=[]:=by rw[c3,q1]
    have z1:c[i]!.bZ=0:=by rw[c1,q2]
    have z2:c[i]!.iV=0:=by rw[c2,q3]
    rw[z]at e1;simp only[yB]at e1;simp only[ze,i1,i2,cI,bC,cT,cB,z,z1,z2,yB,ep,bB,e1,hw];simp
   ·have z:c[i]!.aq=[(a:Int),(b:Int)]:=by rw[c3,q1]
    rw[z]at e1;simp only[yN,yB]at e1;simp only[ze,i1,i2,cI,bC,cT,cB,z,yN,yB,e1,hw];simp
  ·rw[e3 k (by omega),p2 k hk,BB hil,List.count_append,c3];simp) (λP _=>by unfold FX;simp) (b:=zl c.length 0) ⟨by simp,λk hk=>by
    rw[getElem!_pos _ k (by simpa using hk)];simp[fJ]⟩
 have e':IW ⟨c,zl c.length 0,c,(c.length:Int),0⟩=V ⟨c,P,c,(c.length:Int),(c.length:Int)⟩:=e;rw[hn,zB]at hPk;have hfin:∀k,k<l.length->P[k]! =if k=0 then 0 else 1:=λk hk=>by
  rw[hPk k hk,h.cnt k hk];split<;>rfl
 obtain⟨-,e2,-⟩:=dc (rnd:=EV) P.length (λi (_:Unit)=>⟨P,(P.length:Int),(i:Int)⟩) (λ_ _=>True) (λi b hi _=>by
  have hw:=fu hi (by omega);have i1:(i:Int)<(P.length:Int):=by omega
  have i2:(0:Int)<=(i:Int):=by omega
  have hp:=hfin i (by omega);refine⟨(),?_,trivial⟩;unfold EV;by_cases e:i=0
  ·subst e;rw[bE rfl]at hp;simp only[ze,i1,i2,hi,cI,bC,cT,cB,hp,hw];simp[hp]
  ·rw[bO e]at hp;have:¬(i:Int)=0:=by omega
   simp only[ze,i1,i2,hi,cI,bC,cT,cB,hp,hw,this];simp) (λb _=>by unfold EV;simp) (b:=()) trivial
 have e2':KS ⟨P,(P.length:Int),0⟩=V ⟨P,(P.length:Int),(P.length:Int)⟩:=e2;have n0:¬(c.length:Int)=0:=by omega
 have n1:(0:Int)<=(c.length:Int)/\(c.length:Int)<=(c.length:Int)/\(c.length:Int)<=1073741824:=by omega
 unfold Wo;simp only[n0,ep,bB,bE n1,ze,e',ya,e2']
def Na(l:aa aD):Prop:=l.Pairwise λx y=>fB x y<=0
def AO(l:aa aD):(Fx l).Perm l:=List.mergeSort_perm _ _
def YZ(l:aa aD):Na (Fx l):=by
 unfold Fx Na;have:=List.pairwise_mergeSort (le:=λx y=> !Go.Proofs.ltOf fB y x) (λa b c h1 h2=>by
  simp only[Go.Proofs.ltOf,Bool.not_eq_true',decide_eq_false_iff_not]at*;have n1:=eN a b;have n2:=eN b c;have n3:=eN a c
  have:=nZ a b c (by omega) (by omega);omega) (λa b=>by
  simp only[Go.Proofs.ltOf,yM,Bool.not_eq_true',decide_eq_false_iff_not];have:=eN a b;omega) l
 refine this.imp λ{a b} h=> ?_;simp only[Go.Proofs.ltOf,Bool.not_eq_true',decide_eq_false_iff_not]at h;have:=eN a b;omega
def Dy:∀(l:aa aD) (p:aD),(AY p l).Sublist l
 |[],_=> .slnil
 |y::l,p=>by
  unfold AY;split
  ·exact(Dy l y).cons y
  ·exact(Dy l y).cons_cons y
def CL(l:aa aD):(Dh l).Sublist l:=by
 cases l with
 |nil=>exact .slnil
 |cons x l=>exact(Dy l x).cons_cons x
def XJ{l:aa aD}(h:Na l):Na (Dh l):=List.Pairwise.sublist (CL l) h
def nL(c:aa eo):aa aD:=(c.filter (·.eE)).map (·.dL)
def BN(c:aa eo):aa aD:=Dh (Fx (nL c))
def Zh(c:aa eo):Na (BN c):=XJ (YZ _)
def Nn(c:aa eo):(BN c).length<=c.length:=by
 have h1:=(CL (Fx (nL c))).length_le;rw[(AO _).length_eq]at h1;have h2:=yh (λx:eo=>x.eE) c;unfold BN;unfold nL at*;rw[zx]at h1;omega
def abU{c:aa eo}{o:aD}(h:o∈BN c):∃x∈c,x.eE=O/\x.dL=o:=by
 have:=(AO _).mem_iff.1 ((CL _).subset h);unfold nL at this;obtain⟨x,h1,h2⟩:=zL.1 this;obtain⟨h3,h4⟩:=zZ.1 h1;exact⟨x,h3,h4,h2⟩
def VY{c:aa eo}{i:Nat}(h:i<c.length):nL (c.take (i+1))=if c[i]!.eE then nL (c.take i)++[c[i]!.dL]else nL (c.take i):=by
 unfold nL;rw[bK h,y7,z8];cases e:c[i]!.eE
 ·rw[List.filter_cons_of_neg (by rw[e];decide)];simp
 ·rw[List.filter_cons_of_pos e];rfl
def agf(f:aN)(v:bV){c:aa eo}(hl:c.length<=1000000):Yf ⟨f,v,c⟩=V (BN c,⟨f,v,c⟩):=by
 obtain⟨L,e,hL⟩:=dc (rnd:=EC) c.length (λi (L:aa aD)=>⟨L,c,(c.length:Int),(i:Int),⟨f,v,c⟩⟩) (λi L=>L=nL (c.take i)) (λi L hi hb=>by
  have hw:=fu hi hl;have i1:(i:Int)<(c.length:Int):=by omega
  have i2:(0:Int)<=(i:Int):=by omega
  refine⟨nL (c.take (i+1)),?_,rfl⟩;subst hb;have hlen:(nL (c.take i)).length<=1000000:=by
   unfold nL;rw[zx];have:=yh (λx:eo=>x.eE) (c.take i);rw[zH]at this;omega
  have hl2:(nL (c.take i)++[c[i]!.dL]).length<=1073741824:=by rw[zj,yH];omega
  rw[VY hi];unfold EC;cases es:c[i]!.eE with
  |true=>simp only[ze,i1,i2,hi,cI,bC,cT,cB,es,hl2,hw]
  |false=>simp only[ze,i1,i2,hi,cI,bC,bB,cT,cB,es,hw,yA,gG]) (λL _=>by unfold EC;simp) (b:=[]) (by simp[nL])
 rw[zB]at hL;subst hL;have e':JC ⟨[],c,(c.length:Int),0,⟨f,v,c⟩⟩=V ⟨nL c,c,(c.length:Int),(c.length:Int),⟨f,v,c⟩⟩:=e;have hlen:(nL c).length<=1000000:=by
  unfold nL;rw[zx];have:=yh (λx:eo=>x.eE) c;omega
 have h2:(Fx (nL c)).length<=1073741824:=by rw[(AO _).length_eq];omega
 unfold Yf;simp only[e',ya,ep,bB,W0,VZ,bE (show (nL c).length<=1073741824 by omega),bE h2];rfl
def tC{α:Type}[Inhabited α](p:α->Bool):∀(l:aa α) (k:Nat),k<=l.length->(∀j,j<l.length->p l[j]! =J (j<k))->(l.filter p).length=k
 |[],k,hk,_=>by simp at hk ⊢;omega
 |x::l,0,_,h=>by
  have h0:=h 0 (by simp);have:p x=S:=by simpa using h0
  rw[List.filter_cons_of_neg (by simp[this])];exact tC p l 0 (yT _) λj hj=>by
   have:=h (j+1) (by simpa using hj);simpa using this
 |x::l,k+1,hk,h=>by
  have h0:=h 0 (by simp);have:p x=O:=by simpa using h0
  rw[List.filter_cons_of_pos this,yN,tC p l k (by simpa using hk) λj hj=>by
   have:=h (j+1) (by simpa using hj);simpa using this]
def anL(l:aa aD)(o:aD):Nat:=(l.filter λx=>J (fB x o<0)).length
def aph(l:aa aD)(o:aD):Bool:=l.any λx=>J (fB x o=0)
def Jh{l:aa aD}(h:Na l){i j:Nat}(hij:i<j)(hj:j<l.length):fB l[i]! l[j]!<=0:=by
 rw[getElem!_pos l i (by omega),getElem!_pos l j hj];exact List.pairwise_iff_getElem.1 h i j (by omega) hj hij
def aiA{l:aa aD}(o:aD){k:Nat}(hk:k<=l.length)(h1:∀j,j<k->fB l[j]! o<0)(h2:∀j,k<=j->j<l.length->0<=fB l[j]! o):anL l o=k:=
 tC _ l k hk λj hj=>by
  by_cases e:j<k
  ·rw[bY e];exact bY (h1 j e)
  ·rw[bX e];have:=h2 j (by omega) hj;exact gh
def ad1{l:aa aD}(hs:Na l)(o:aD){k:Nat}(hk:k<=l.length)(h1:∀j,j<k->fB l[j]! o<0)(h2:∀j,k<=j->j<l.length->0<=fB l[j]! o):aph l o=J (k<l.length/\fB l[k]! o=0):=by
 unfold aph;by_cases e:k<l.length/\fB l[k]! o=0
 ·rw[bY e,wo];exact⟨l[k]!,bh e.1,bY e.2⟩
 ·rw[bX e,List.any_eq_false];intro x hx;obtain⟨j,hj,rfl⟩:=yZ hx;rw[decide_eq_true_eq];intro he;rw[<-getElem!_pos l j hj]at he;by_cases jk:j<k
  ·have:=h1 j jk;omega
  ·by_cases jk2:j=k
   ·exact e ⟨jk2▸hj,jk2▸he⟩
   ·have a1:=Jh hs (show k<j by omega) hj;have a2:=h2 k (zn _) (by omega);have a3:=nZ l[k]! l[j]! o a1 (by omega);exact e ⟨by omega,by omega⟩
def aD4{x:Int}(h1:0<=x)(h2:x<9223372036854775808):cL IntKind.u64 (IntKind.u64.wrap x) 1=x/2:=by
 have:IntKind.u64.wrap x=x:=by simp[IntKind.wrap,IntKind.bits,IntKind.signed];omega
 rw[this];unfold cL;have e:(2:Int)^(min (1:Int).toNat IntKind.u64.bits)=2:=by decide
 rw[e,Int.fdiv_eq_ediv_of_nonneg _ (by omega)]
def ahq{l:aa aD}(hs:Na l)(hl:l.length<=1000000)(o:aD)(ho:∀x∈l,x.aY.length<=9223372036854775807):Wy l o=V ((anL l o:Int),aph l o):=by
 have key:∀(d lo_ hi_:Nat),hi_-lo_<=d->lo_<=hi_->hi_<=l.length->(∀j,j<lo_->fB l[j]! o<0)->(∀j,hi_<=j->j<l.length->0<=fB l[j]! o)->
   ∃k:Nat,tg ⟨l,(l.length:Int),(lo_:Int),(hi_:Int),o⟩=V ⟨l,(l.length:Int),(k:Int),(k:Int),o⟩/\k<=l.length/\(∀j,j<k->fB l[j]! o<0)/\∀j,k<=j->j<l.length->0<=fB l[j]! o:=by
  intro d;induction d with
  |zero=>
   intro a b h1 h2 h3 h4 h5;have:a=b:=by omega
   subst this;exact⟨a,b9 λr=>by unfold qa;simp,h3,h4,h5⟩
  |succ d ih=>
   intro a b h1 h2 h3 h4 h5;by_cases hab:a=b
   ·subst hab;exact⟨a,b9 λr=>by unfold qa;simp,h3,h4,h5⟩
   ·have hlt:(a:Int)<(b:Int):=by omega
    have w1:i64.wrap ((a:Int)+(b:Int))=(a:Int)+(b:Int):=aG;have s1:=aD4 (x:=(a:Int)+(b:Int)) (by omega) (by omega);obtain⟨m,hm⟩:∃m:Nat,((a:Int)+(b:Int))/2=(m:Int):=⟨((a+b)/2:Nat),by omega⟩;have m1:a<=m/\m<b:=by omega
    have w2:i64.wrap (m:Int)=(m:Int):=aG;have w3:i64.wrap ((m:Int)+1)=((m+1:Nat):Int):=fu (n:=1000000) (by omega) (by omega);have i1:(m:Int)<(l.length:Int):=by omega
    have i2:(0:Int)<=(m:Int):=by omega
    have Bk:=uv l[m]! o (ho _ (bh (by omega)));by_cases hc:fB l[m]! o<0
    ·have r:qa ⟨l,(l.length:Int),(a:Int),(b:Int),o⟩=V (V ⟨l,(l.length:Int),((m+1:Nat):Int),(b:Int),o⟩):=by
      unfold qa;simp only[hlt,cI,bC,w1,s1,hm,w2,w3,i1,i2,cT,cB,ze,Bk,hc]
     obtain⟨k,q1,q2⟩:=ih (m+1) b (by omega) (by omega) h3 (λj hj=>by
      by_cases e:j=m
      ·rw[e];exact hc
      ·have:=Jh hs (show j<m by omega) (by omega);have n1:=eN l[j]! o;have n2:=eN l[m]! o
       have:=nZ o l[j]! l[m]!;by_cases z:fB l[j]! o<0
       ·exact z
       ·have:=this (by omega) (by assumption);omega) h5
     exact⟨k,by unfold tg;rw[bM r];exact q1,q2⟩
    ·have r:qa ⟨l,(l.length:Int),(a:Int),(b:Int),o⟩=V (V ⟨l,(l.length:Int),(a:Int),(m:Int),o⟩):=by
      unfold qa;simp only[hlt,cI,bC,w1,s1,hm,w2,i1,i2,cT,cB,ze,Bk,hc,ep,bB]
     obtain⟨k,q1,q2⟩:=ih a m (by omega) (by omega) (by omega) h4 (λj hj1 hj2=>by
      by_cases e:j=m
      ·rw[e];omega
      ·have:=Jh hs (show m<j by omega) hj2;have n1:=eN l[j]! o;have n2:=eN l[m]! o
       by_cases z:fB l[j]! o<0
       ·have:=nZ l[m]! l[j]! o (by assumption) (by omega);have:fB l[m]! o=0:=by omega
        have e3:=G3 this;have:=nZ o l[m]! l[j]! (by omega) (by assumption);omega
       ·omega)
     exact⟨k,by unfold tg;rw[bM r];exact q1,q2⟩
 obtain⟨k,e,h1,h2,h3⟩:=key l.length 0 l.length (by omega) (by omega) (zn _) (λj hj=>by omega) (λj h1 h2=>by omega);have e':tg ⟨l,(l.length:Int),0,(l.length:Int),o⟩=V ⟨l,(l.length:Int),(k:Int),(k:Int),o⟩:=e;rw[aiA o h1 h2 h3,ad1 hs o h1 h2 h3];unfold Wy;simp only[e',ya,ep,bB];by_cases hk:k<l.length
 ·have i1:(k:Int)<(l.length:Int):=by omega
  have i2:(0:Int)<=(k:Int):=by omega
  have Bk:=uv l[k]! o (ho _ (bh hk));simp only[i1,i2,cI,bC,cT,cB,ze,Bk,hk,true_and]
 ·have i1:¬(k:Int)<(l.length:Int):=by omega
  simp only[i1,ep,bB,hk,false_and]
def pe(L:aa aD)(c:eo):Cell:=⟨c.bZ,c.iV,c.aq,if c.eE then[(anL L c.dL:Int)]else[],c.gF⟩
def gW(c:aa eo):bH:=⟨BN c,c.map (pe (BN c))⟩
structure Csz (c:List eo):Prop where
 len:c.length<=100000
 kid:∀i,i<c.length->c[i]!.aq.length<=1000
 obs:∀i,i<c.length->c[i]!.dL.aY.length<=1000
def Csz.mem{c:aa eo}(h:Csz c){o:aD}(ho:o∈BN c):o.aY.length<=1000:=by
 obtain⟨x,h1,_,rfl⟩:=abU ho;obtain⟨i,hi,rfl⟩:=yZ h1;rw[<-getElem!_pos c i hi];exact h.obs i hi
def Ki(f:aN)(v:bV){c:aa eo}(h:Csz c):Po ⟨f,v,c⟩=V (gW c,⟨f,v,c⟩):=by
 have hcl:=h.len;have hll:=Nn c;have abz:=agf f v (c:=c) (by omega);obtain⟨L,hL⟩:∃L,L=BN c:=⟨_,rfl⟩;have hLl:L.length<=c.length:=by rw[hL];exact hll
 obtain⟨b,e1,hb⟩:=dc (rnd:=Em) L.length (λi (b:aa aD)=>⟨L,L,(L.length:Int),(i:Int),⟨f,v,c⟩,⟨[],[]⟩,⟨b,[]⟩⟩) (λi b=>b=L.take i) (λi b hi hb=>by
  have hw:=fu hi (by omega);have i1:(i:Int)<(L.length:Int):=by omega
  have i2:(0:Int)<=(i:Int):=by omega
  have JR:=Tf (l:=L[i]!.aY) (h.mem (hL▸bh hi));have hl2:(b++[L[i]!]).length<=1073741824:=by rw[hb,zj,zH,yH];omega
  refine⟨b++[L[i]!],?_,by rw[hb,bK hi]⟩;unfold Em;simp only[ze,i1,i2,hi,cI,bC,cT,cB,JR,hl2,hw]) (λb _=>by unfold Em;simp) (b:=[]) (by simp)
 rw[zB]at hb;subst hb;have e1':KE ⟨b,b,(b.length:Int),0,⟨f,v,c⟩,⟨[],[]⟩,⟨[],[]⟩⟩=V ⟨b,b,(b.length:Int),(b.length:Int),⟨f,v,c⟩,⟨[],[]⟩,⟨b,[]⟩⟩:=e1;obtain⟨C,e2,hC⟩:=dc (rnd:=F8) c.length (λi (C:aa Cell)=>⟨b,c,(c.length:Int),(i:Int),⟨f,v,c⟩,⟨[],[]⟩,⟨b,C⟩⟩) (λi C=>C=(c.take i).map (pe b)) (λi C hi hC=>by
  have hw:=fu hi (by omega);have i1:(i:Int)<(c.length:Int):=by omega
  have i2:(0:Int)<=(i:Int):=by omega
  have JR:=Tf (l:=c[i]!.aq) (h.kid i hi);have afR:=ahq (l:=b) (by rw[hL];exact Zh c) (by omega) c[i]!.dL (λx hx=>by have:=h.mem (hL▸hx);omega);have hl2:∀x:Cell,(C++[x]).length<=1073741824:=λx=>by rw[hC,zj,zx,zH,yH];omega
  refine⟨C++[pe b c[i]!],?_,by rw[hC,bK hi,z8];rfl⟩;unfold F8;cases es:c[i]!.eE with
  |true=>simp only[ze,i1,i2,hi,cI,bC,cT,cB,JR,es,afR,hl2,hw,pe]
  |false=>simp only[ze,i1,i2,hi,cI,bC,bB,cT,cB,JR,es,hl2,hw,pe,yA,gG]) (λC _=>by unfold F8;simp) (b:=[]) (by simp)
 rw[zB]at hC;subst hC;have e2':KX ⟨b,c,(c.length:Int),0,⟨f,v,c⟩,⟨[],[]⟩,⟨b,[]⟩⟩=V ⟨b,c,(c.length:Int),(c.length:Int),⟨f,v,c⟩,⟨[],[]⟩,⟨b,c.map (pe b)⟩⟩:=e2;unfold Po;rw[<-hL]at abz;simp only[abz,e1',e2',ya,ep,bB,gW,<-hL]
end Go.Proofs.YtnfljbehcffmcaaGreat
end
noncomputable section
set_option maxRecDepth 100000
namespace Go.Proofs.YtnfljbehcffmcaaGreat
open Go Go.Iv
open Go.IntKind (i64 u64)
section
variable {f:aN} {v:bV}
def vW(c:Cx f v){l:aa Part}(h:WF f l)(hl:l.length<=100000):Csz (l.map (cellOf f v)):=by
 refine⟨by simpa using hl,λi hi=> ?_,λi hi=> ?_⟩
 ·have hi':i<l.length:=by simpa using hi
  rw[eF _ _ _ hi'];have:=h.vn hi';show l[i]!.aq.length<=1000;omega
 ·have hi':i<l.length:=by simpa using hi
  rw[eF _ _ _ hi'];have:=(h.box i hi').obl c;show (obX f v l[i]!.bP).aY.length<=1000;omega
def LL(c:Cx f v):HG f v=V (⟨f,v,[cellOf f v ⟨0,0,[],kX f⟩]⟩,0):=by
 have e76:=arn f c.hN (by have:=c.hh;omega) c.hl;rw[bE c.hc]at e76;have hb:=Ti c;unfold HG;simp only[e76,hb.Qr c,hb.Wb c];rfl
def N7(l:aa Part):amp l (gW (l.map (cellOf f v))).aP:=by
 refine⟨by simp[gW],λi hi=> ?_⟩;have e:(gW (l.map (cellOf f v))).aP[i]! =pe (BN (l.map (cellOf f v))) (cellOf f v l[i]!):=by
  show ((l.map (cellOf f v)).map (pe _))[i]! =_;rw[eF _ _ _ (by simpa using hi),eF _ _ _ hi]
 rw[e];exact⟨rfl,rfl,rfl⟩
def OG(l:aa Int)(hl:l.length<=1000):m77 l l=V O:=by
 obtain⟨-,e,-⟩:=dc (rnd:=NG) l.length (λi (_:Unit)=>⟨l,l,(l.length:Int),(i:Int)⟩) (λ_ _=>True) (λi b hi _=>by
  have hw:=fu hi (by omega);have i1:(i:Int)<(l.length:Int):=by omega
  have i2:(0:Int)<=(i:Int):=by omega
  refine⟨(),?_,trivial⟩;unfold NG;simp only[ze,i1,i2,cI,bC,bB,cT,cB,hw]) (λb _=>by unfold NG;simp) (b:=()) trivial
 have e':Uz ⟨l,l,(l.length:Int),0⟩=V ⟨l,l,(l.length:Int),(l.length:Int)⟩:=e;unfold m77;simp only[e',cI,bC,bB,ya,ep]
def VS(x:Cell)(h1:x.aq.length<=1000)(h2:x.dL.length<=1000):V9 x x=V O:=by
 unfold V9;simp only[cI,bC,OG _ h1,OG _ h2]
def V4(l:aa Cell)(hl:l.length<=1000000)(h:∀i,i<l.length->l[i]!.aq.length<=1000/\l[i]!.dL.length<=1000):Vu l l=V O:=by
 obtain⟨-,e,-⟩:=dc (rnd:=Fm) l.length (λi (_:Unit)=>⟨l,l,(l.length:Int),(i:Int)⟩) (λ_ _=>True) (λi b hi _=>by
  have hw:=fu hi hl;have i1:(i:Int)<(l.length:Int):=by omega
  have i2:(0:Int)<=(i:Int):=by omega
  refine⟨(),?_,trivial⟩;unfold Fm;simp only[ze,i1,i2,cI,bC,bB,cT,cB,VS _ (h i hi).1 (h i hi).2,hw]) (λb _=>by unfold Fm;simp) (b:=()) trivial
 have e':IF ⟨l,l,(l.length:Int),0⟩=V ⟨l,l,(l.length:Int),(l.length:Int)⟩:=e;unfold Vu;simp only[e',cI,bC,bB,ya,ep]
def aap(l:aa aD)(hl:l.length<=1000000)(h:∀x∈l,x.aY.length<=1000):m71 l l=V O:=by
 obtain⟨-,e,-⟩:=dc (rnd:=Oh) l.length (λi (_:Unit)=>⟨l,l,(l.length:Int),(i:Int)⟩) (λ_ _=>True) (λi b hi _=>by
  have hw:=fu hi hl;have i1:(i:Int)<(l.length:Int):=by omega
  have i2:(0:Int)<=(i:Int):=by omega
  have ab5:Wc l[i]! l[i]! =V O:=by
   unfold Wc;rw[uv _ _ (by have:=h _ (bh hi);omega),Hx];rfl
  refine⟨(),?_,trivial⟩;unfold Oh;simp only[ze,i1,i2,cI,bC,bB,cT,cB,ab5,hw]) (λb _=>by unfold Oh;simp) (b:=()) trivial
 have e':UM ⟨l,l,(l.length:Int),0⟩=V ⟨l,l,(l.length:Int),(l.length:Int)⟩:=e;unfold m71;simp only[e',cI,bC,bB,ya,ep]
def V0:∀{p:Part},p.aq=[]->p.bZ=0->p.iV=0->p=⟨0,0,[],p.bP⟩
 |⟨_,_,_,_⟩,h1,h2,h3=>by cases h1;cases h2;cases h3;rfl
def VW{j:Int}{k:aa Int}:∀{p:Part},p.aq=k->p.bZ=j->p=⟨j,p.iV,k,p.bP⟩
 |⟨_,_,_,_⟩,h1,h2=>by cases h1;cases h2;rfl
def OC(c:Cx f v){l:aa Part}(h:WF f l)(hl:l.length<=8192):Hf f v (gW (l.map (cellOf f v)))=V (⟨f,v,l.map (cellOf f v)⟩,0):=by
 have hsz:=vW c h (by omega);have hsh:=N7 (f:=f) (v:=v) l;obtain⟨C,hC⟩:∃C,C=(gW (l.map (cellOf f v))).aP:=⟨_,rfl⟩;have hCl:C.length=l.length:=by rw[hC];exact hsh.len
 rw[<-hC]at hsh;have h0:=h.ne;have hidl:=l5 c;have Zy:=akx h (by omega) hsh;obtain⟨s,hs⟩:∃s,s=gW (l.map (cellOf f v)):=⟨_,rfl⟩;rw[<-hs]at hC ⊢;obtain⟨B,e,hBl,hB⟩:=dc (rnd:=qP) l.length (λi (B:aa (aa aH))=>⟨B,C,(l.length:Int),(i:Int),s,⟨f,v,(l.take i).map (cellOf f v)⟩⟩) (λi B=>B.length=l.length/\∀j,j<l.length->(j=0\/∃p,p<i/\(j:Int)∈l[p]!.aq)->B[j]! =l[j]!.bP) (λi B hi ⟨b1,b2⟩=>by
  have hw:=fu hi (by omega);have i1:(i:Int)<(l.length:Int):=by omega
  have i2:(0:Int)<=(i:Int):=by omega
  have i3:i<B.length:=by omega
  have eB:B[i]! =l[i]!.bP:=b2 i hi (by
   by_cases e:i=0
   ·exact .inl e
   ·obtain⟨p,p1,p2⟩:=h.parent hi e;exact .inr ⟨p,p1,p2⟩)
  have hb:=h.box i hi;have e25:=hb.Qr c;have e26:=hb.Wb c;obtain⟨s1,s2,s3⟩:=hsh.el i hi;have elen:((l.take i).map (cellOf f v)).length=i:=by rw[zx,zH];omega
  have g2:fP ⟨B,C,(l.length:Int),(i:Int),s,⟨f,v,(l.take i).map (cellOf f v)⟩⟩ (bdX f v l[i]!.bP,0) (obX f v l[i]!.bP,sgX f v l[i]!.bP,0)=(l.take i++[(⟨0,0,[],l[i]!.bP⟩:Part)]).map (cellOf f v):=by
   unfold fP;simp only[ze,eB,z8,ye,yS];rfl
  have gl:((l.take i++[(⟨0,0,[],l[i]!.bP⟩:Part)]).map (cellOf f v)).length<=1073741824:=by simp;omega
  have gl2:((l.take i++[(⟨0,0,[],l[i]!.bP⟩:Part)]).map (cellOf f v)).length=i+1:=by simp;omega
  rcases h.kid i hi with ⟨q1,q2,q3⟩|⟨a,b,j,q1,q2,q3,q4,q5,q6,q7,q8,q9,q10,q11,q12⟩
  ·refine⟨B,?_,b1,λx hx hp=>b2 x hx ?_⟩
   ·have ek:C[i]!.aq=[]:=by rw[s3,q1]
    have et:(l.take (i+1)).map (cellOf f v)=(l.take i++[(⟨0,0,[],l[i]!.bP⟩:Part)]).map (cellOf f v):=by
     rw[bK hi];rw[<-V0 q1 q2 q3]
    rw[et];unfold qP;simp only[ze,i1,i2,i3,hCl,b1,eB,cI,bC,cT,cB,e25,e26,g2,gl,ek,yB,hw,hi];rfl
   ·rcases hp with hp|⟨p,p1,p2⟩
    ·exact .inl hp
    ·refine .inr ⟨p,?_,p2⟩;by_cases e:p=i
     ·rw[e,q1]at p2;cases p2
     ·omega
  ·have hj:=q8;have hd:=hb.bd c.hc hj;have Qt:=TV (b:=l[i]!.bP) (by rw[hb.len];omega) hj (a:=l[i]!.iV) (by omega) (by omega);have ek:C[i]!.aq=[(a:Int),(b:Int)]:=by rw[s3,q1]
   have ein:C[i]!.bZ=(j:Int):=by rw[s1,q7]
   have eat:C[i]!.iV=l[i]!.iV:=s2;refine⟨(B.set a (Vx l[i]!.bP j l[i]!.iV)).set b (Xb l[i]!.bP j l[i]!.iV),?_,by simpa using b1,λx hx hp=> ?_⟩
   ·have et:(l.take (i+1)).map (cellOf f v)=(l.take i++[l[i]!]).map (cellOf f v):=by rw[bK hi]
    have gx:∀q:Part,((l.take i++[q]).map (cellOf f v))[i]! =cellOf f v q:=λq=>by
     rw[eF _ _ _ (by simp;omega)];have:=pM (l.take i) [q] 0 (by simp);rw[zH,Nat.min_eq_left (by omega)]at this;exact congrArg (cellOf f v) this
    have gs:∀q r:Part,((l.take i++[q]).map (cellOf f v)).set i (cellOf f v r)=(l.take i++[r]).map (cellOf f v):=λq r=>by
     rw[<-List.map_set]
     congr 1
     rw[List.set_append_right _ _ (by rw[zH];omega),zH,Nat.min_eq_left (by omega),xS];rfl
    have g0:iq ⟨B,C,(l.length:Int),(i:Int),s,⟨f,v,(l.take i).map (cellOf f v)⟩⟩ (bdX f v l[i]!.bP,0) (obX f v l[i]!.bP,sgX f v l[i]!.bP,0)=(l.take i++[(⟨(j:Int),0,[],l[i]!.bP⟩:Part)]).map (cellOf f v):=by
     unfold iq;rw[g2];simp only[ze,gx,ein];exact gs _ ⟨(j:Int),0,[],l[i]!.bP⟩
    have g1:ic ⟨B,C,(l.length:Int),(i:Int),s,⟨f,v,(l.take i).map (cellOf f v)⟩⟩ (bdX f v l[i]!.bP,0) (obX f v l[i]!.bP,sgX f v l[i]!.bP,0)=(l.take i++[(⟨(j:Int),l[i]!.iV,[],l[i]!.bP⟩:Part)]).map (cellOf f v):=by
     unfold ic;rw[g0];simp only[ze,gx,eat];exact gs _ ⟨(j:Int),l[i]!.iV,[],l[i]!.bP⟩
    have gl3:∀q:Part,((l.take i++[q]).map (cellOf f v)).length=i+1:=λq=>by simp;omega
    have JR:=Tf (l:=[(a:Int),(b:Int)]) (by simp);have elast:=VW q1 q7;have gl4:i+1<=1073741824:=by omega
    have gf:=gs ⟨(j:Int),l[i]!.iV,[],l[i]!.bP⟩ ⟨(j:Int),l[i]!.iV,[(a:Int),(b:Int)],l[i]!.bP⟩;rw[et];have c1:¬(j:Int)<0:=by omega
    have c2:¬(l[i]!.bP.length:Int)<=(j:Int):=by omega
    have c3:(0:Int)<=(j:Int):=by omega
    have c4:(j:Int)<(l[i]!.bP.length:Int):=by omega
    have c5:¬l[i]!.iV<l[i]!.bP[j]!.ag:=by omega
    have c6:¬l[i]!.bP[j]!.ah<=l[i]!.iV:=by omega
    have c7:(0:Int)<=(a:Int):=by omega
    have c8:(a:Int)<(l.length:Int):=by omega
    have c9:(0:Int)<=(b:Int):=by omega
    have c10:(b:Int)<(l.length:Int):=by omega
    have c11:(i:Int)<((i+1:Nat):Int):=by omega
    have k0:([(a:Int),(b:Int)])[0]! =(a:Int):=rfl;have k1:([(a:Int),(b:Int)])[1]! =(b:Int):=rfl;have t0:zC 0=0:=rfl;have t1:zC 1=1:=rfl;unfold qP;simp only[ze,i1,i2,i3,hCl,b1,eB,cI,bC,cT,cB,e25,e26,g2,gl,ek,ein,eat,yN,yB,hw,c1,c2,c3,c4,c5,c6,ep,bB,Qt,t0,t1,k0,k1,c7,c8,c9,c10,q3,q5,yo,JR,gl3,c11,g0,g1,gx,zJ,gl4,hi];simp only[cellOf]at gf ⊢;rw[gf,<-elast];rfl
   ·have hxs:((B.set a (Vx l[i]!.bP j l[i]!.iV)).set b (Xb l[i]!.bP j l[i]!.iV))[x]! =if b=x then Xb l[i]!.bP j l[i]!.iV else if a=x then Vx l[i]!.bP j l[i]!.iV else B[x]! :=by
     rw[kG _ _ _ _ (by simpa [b1]using hx),kG _ _ _ _ (by rw[b1];exact hx)]
    rw[hxs];by_cases xb:b=x
    ·rw[bE xb,<-xb,q12]
    ·rw[bO xb];by_cases xa:a=x
     ·rw[bE xa,<-xa,q11]
     ·rw[bO xa];refine b2 x hx ?_;rcases hp with hp|⟨p,p1,p2⟩
      ·exact .inl hp
      ·refine .inr ⟨p,?_,p2⟩;by_cases e:p=i
       ·rw[e,q1]at p2;rcases zD.1 p2 with p2|p2
        ·omega
        ·have:=zy.1 p2;omega
       ·omega) (λB hB=>by unfold qP;simp) (b:=(zl l.length []).set 0 (kX f)) ⟨by simp,λj hj hp=>by
    rcases hp with rfl|⟨p,hp,_⟩
    ·rw[kG _ _ _ _ (by simpa using hj),bE rfl,h.root]
    ·omega⟩
 rw[zB]at e;have e':B9 ⟨(zl l.length []).set 0 (kX f),C,(l.length:Int),0,s,⟨f,v,[]⟩⟩=V ⟨B,C,(l.length:Int),(l.length:Int),s,⟨f,v,l.map (cellOf f v)⟩⟩:=e;have e118:=LL c;have BH:=Ki f v hsz;rw[<-hs]at BH;have hll:=Nn (l.map (cellOf f v));rw[zx]at hll;have afY:Vu s.aP s.aP=V O:=V4 _ (by rw[<-hC,hCl];omega) λi hi=>by
  rw[<-hC]at hi ⊢;rw[hCl]at hi;have es:C[i]! =pe (BN (l.map (cellOf f v))) (cellOf f v l[i]!):=by
   rw[hC,hs];show ((l.map (cellOf f v)).map (pe _))[i]! =_;rw[eF _ _ _ (by simpa using hi),eF _ _ _ hi]
  rw[es];refine⟨by have:=h.vn hi;show l[i]!.aq.length<=_;omega,?_⟩;unfold pe;dsimp only;split<;>simp
 have e71:m71 s.dL s.dL=V O:=aap _ (by rw[hs];show (BN _).length<=_;omega) λx hx=>by
  rw[hs]at hx;exact hsz.mem hx
 have n1:¬(8192:Int)<(l.length:Int):=by omega
 have n2:(0:Int)<=(l.length:Int)/\(l.length:Int)<=(l.length:Int)/\(l.length:Int)<=1073741824:=by omega
 have n3:(0:Int)<(l.length:Int):=by omega
 have e0:([cellOf f v ⟨0,0,[],kX f⟩])[0]!.bP=kX f:=rfl;have e1:(0:Int)<((0+1:Nat):Int):=by decide
 have e2:0<0+1:=by decide
 have n4:=n2.1;have n5:=n2.2.2;rw[hC]at e' Zy hCl;unfold Hf;simp only[e118,hCl,n1,Zy,n4,n5,cI,ep,bC,bB,ze,yN,yB,xO,n3,h0,cT,cB,zm,e0,e1,e2,e',ya,BH,afY,e71]
end
end Go.Proofs.YtnfljbehcffmcaaGreat
end
noncomputable section
set_option maxRecDepth 100000
namespace Go.Proofs.YtnfljbehcffmcaaGreat
open Go Go.Iv
open Go.IntKind (i64 u64)
def rg(n:aH):Int:=n.ah-n.ag
def Wg(b:aa aH):Nat->Nat
 |0=>0
 |k+1=>if rg b[Wg b k]! <rg b[k]! then k else Wg b k
def wid(b:aa aH):Nat:=Wg b b.length
def E5(b:aa aH):Int:=(b[wid b]!.ag+b[wid b]!.ah)/2
def mM(b:aa aH):Bool:=b.any λn=>J (0<rg n)
def Ao{b:aa aH}(h:0<b.length):∀k,k<=b.length->Wg b k<b.length
 |0,_=>h
 |k+1,hk=>by
  have:=Ao h k (by omega);unfold Wg;split<;>omega
def TG{b:aa aH}:∀k j,j<k->rg b[j]!<=rg b[Wg b k]!
 |k+1,j,hj=>by
  have ih:=TG (b:=b) k;unfold Wg;by_cases e:j=k
  ·subst e;split<;>omega
  ·have:=ih j (by omega);split<;>omega
section
variable {f:aN} {v:bV}
def Jk(b:aa aH):mM b=O↔0<b.length/\0<rg b[wid b]! :=by
 unfold mM;rw[wo];constructor
 ·rintro⟨n,hn,h⟩;obtain⟨i,hi,rfl⟩:=yZ hn;rw[decide_eq_true_eq,<-getElem!_pos b i hi]at h;have:=TG (b:=b) b.length i hi;exact⟨by omega,by unfold wid;omega⟩
 ·rintro⟨h1,h2⟩;exact⟨b[wid b]!,bh (Ao h1 _ (zn _)),bY h2⟩
def Ck{b:aa aH}(h:mM b=O):wid b<b.length/\b[wid b]!.ag<=E5 b/\E5 b<b[wid b]!.ah:=by
 obtain⟨h1,h2⟩:=(Jk b).1 h;unfold rg at h2;unfold E5;exact⟨Ao h1 _ (zn _),by omega,by omega⟩
def iJ.rgw{b:aa aH}(h:iJ f b)(c:oI f=0){j:Nat}(hj:j<b.length):i64.wrap (b[j]!.ah-b[j]!.ag)=rg b[j]!/\0<=rg b[j]!/\rg b[j]!<=2097152:=by
 have:=h.bd c hj;unfold rg;exact⟨aG,by omega,by omega⟩
def BZ{b:aa aH}(h:iJ f b)(c:oI f=0){j:Nat}(hj:j<b.length):JJ b[j]! =rg b[j]! +1:=by
 obtain⟨h1,h2,h3⟩:=h.rgw c hj;unfold JJ;rw[h1,aG]
def aje{b:aa aH}(h:iJ f b)(c:Cx f v):aaz b=V (mM b):=by
 have hbl:b.length<=1000000:=by have:=l5 c;rw[h.len];omega
 obtain⟨i,-,e,hB,hI⟩:=lH (rnd:=Bl) b.length (λi (_:Unit)=>⟨b,(b.length:Int),(i:Int)⟩) (λi _=>∀j,j<i->¬0<rg b[j]!) (λi _=>0<rg b[i]!) (λi u hi hb=>by
  have hw:=fu hi hbl;have i1:(i:Int)<(b.length:Int):=by omega
  have i2:(0:Int)<=(i:Int):=by omega
  have Mb:=BZ h c.hc hi;by_cases hr:0<rg b[i]!
  ·refine .inr ⟨?_,hr⟩;have:(1:Int)<rg b[i]! +1:=by omega
   unfold Bl QU;simp only[ze,i1,i2,cI,bC,cT,cB,Mb,this]
  ·refine .inl ⟨(),?_,λj hj=> ?_⟩
   ·have:¬(1:Int)<rg b[i]! +1:=by omega
    unfold Bl QU;simp only[ze,i1,i2,cI,bC,bB,ep,cT,cB,Mb,this,hw]
   ·by_cases e:j=i
    ·rw[e];exact hr
    ·exact hb j (by omega)) (λu _=>by unfold Bl;simp) (b:=()) (λj hj=>by omega)
 have e':Jf ⟨b,(b.length:Int),0⟩=V ⟨b,(b.length:Int),(i:Int)⟩:=e;unfold aaz akI;simp only[e'];rcases hI with rfl|⟨hi,hr⟩
 ·have:mM b=S:=by
   unfold mM;rw[List.any_eq_false];intro x hx;obtain⟨j,hj,rfl⟩:=yZ hx;rw[<-getElem!_pos b j hj,decide_eq_true_eq];exact hB j hj
  rw[this];simp only[ya,ep,bB];rfl
 ·have:mM b=O:=by
   unfold mM;rw[wo];exact⟨b[i]!,bh hi,bY hr⟩
  rw[this];have i1:(i:Int)<(b.length:Int):=by omega
  have i2:(0:Int)<=(i:Int):=by omega
  have Mb:=BZ h c.hc hi;have:(1:Int)<rg b[i]! +1:=by omega
  unfold QU;simp only[ze,i1,i2,cI,bC,cT,cB,Mb,this]
def aih{b:aa aH}(h:iJ f b)(c:Cx f v)(t1:Int)(T:Tree):B4 ⟨t1,b,0,b,(b.length:Int),0,T⟩=V ⟨t1,b,(wid b:Int),b,(b.length:Int),(b.length:Int),T⟩:=by
 have hbl:b.length<=1000000:=by have:=l5 c;rw[h.len];omega
 obtain⟨w,e,hw⟩:=dc (rnd:=rH) b.length (λi (w:Nat)=>⟨t1,b,(w:Int),b,(b.length:Int),(i:Int),T⟩) (λi w=>w=Wg b i) (λi w hi hb=>by
  have hw:=fu hi hbl;have i1:(i:Int)<(b.length:Int):=by omega
  have i2:(0:Int)<=(i:Int):=by omega
  have hwl:=Ao (b:=b) (by omega) i (by omega);rw[<-hb]at hwl;have w1:(w:Int)<(b.length:Int):=by omega
  have w2:(0:Int)<=(w:Int):=by omega
  have e1:=BZ h c.hc hi;have e2:=BZ h c.hc hwl;by_cases hr:rg b[w]! <rg b[i]!
  ·refine⟨i,?_,by unfold Wg;rw[<-hb,bE hr]⟩;have:rg b[w]! +1<rg b[i]! +1:=by omega
   unfold rH;simp only[ze,i1,i2,w1,w2,cI,bC,cT,cB,e1,e2,this,hw]
  ·refine⟨w,?_,by unfold Wg;rw[<-hb,bO hr]⟩;have:¬rg b[w]! +1<rg b[i]! +1:=by omega
   unfold rH;simp only[ze,i1,i2,w1,w2,cI,bC,bB,ep,cT,cB,e1,e2,this,hw]) (λw _=>by unfold rH;simp) (b:=0) rfl
 subst hw;exact e
def agq{b:aa aH}(h:iJ f b)(c:Cx f v):Ia ⟨b,0,b,(b.length:Int),0⟩=V ⟨b,(wid b:Int),b,(b.length:Int),(b.length:Int)⟩:=by
 have hbl:b.length<=1000000:=by have:=l5 c;rw[h.len];omega
 obtain⟨w,e,hw⟩:=dc (rnd:=Av) b.length (λi (w:Nat)=>⟨b,(w:Int),b,(b.length:Int),(i:Int)⟩) (λi w=>w=Wg b i) (λi w hi hb=>by
  have hw:=fu hi hbl;have i1:(i:Int)<(b.length:Int):=by omega
  have i2:(0:Int)<=(i:Int):=by omega
  have hwl:=Ao (b:=b) (by omega) i (by omega);rw[<-hb]at hwl;have w1:(w:Int)<(b.length:Int):=by omega
  have w2:(0:Int)<=(w:Int):=by omega
  have e1:=(h.rgw c.hc hi).1;have e2:=(h.rgw c.hc hwl).1;by_cases hr:rg b[w]! <rg b[i]!
  ·refine⟨i,?_,by unfold Wg;rw[<-hb,bE hr]⟩;unfold Av;simp only[ze,i1,i2,w1,w2,cI,bC,cT,cB,e1,e2,hr,hw]
  ·refine⟨w,?_,by unfold Wg;rw[<-hb,bO hr]⟩;unfold Av;simp only[ze,i1,i2,w1,w2,cI,bC,bB,ep,cT,cB,e1,e2,hr,hw]) (λw _=>by unfold Av;simp) (b:=0) rfl
 subst hw;exact e
def iJ.aA1{b:aa aH}(h:iJ f b)(c:oI f=0){j:Nat}(hj:j<b.length):i64.wrap (b[j]!.ag+b[j]!.ah)=b[j]!.ag+b[j]!.ah:=by
 have:=h.bd c hj;exact aG
def awc(x:Int):cL IntKind.i64 x 1=x/2:=by
 unfold cL;have e:(2:Int)^(min (1:Int).toNat IntKind.i64.bits)=2:=by decide
 rw[e,Int.fdiv_eq_ediv_of_nonneg _ (by omega)]
def Zr(x:Int):Wt x 2=x/2:=by
 unfold Wt;have:=Int.tmod_eq_emod (a:=x) (b:=2);have:=Int.tdiv_eq_ediv (a:=x) (b:=2);split
 ·omega
 ·split<;>grind
def adM{b:aa aH}(h:iJ f b)(c:Cx f v):Ym b=V (if mM b=O then((wid b:Int),E5 b,O)else(0,0,S)):=by
 have e:=agq h c;unfold Ym;simp only[e,ya,ep,bB,ze];by_cases h0:b.length=0
 ·have:mM b=S:=by rw[xg.1 h0];rfl
  rw[this];simp[h0]
 ·have hl:=Ao (b:=b) (by omega) _ (zn _);have hl:wid b<b.length:=hl;have i0:¬(b.length:Int)=0:=by omega
  have i1:(wid b:Int)<(b.length:Int):=by omega
  have i2:(0:Int)<=(wid b:Int):=by omega
  obtain⟨-,r2,-⟩:=h.rgw c.hc hl;have hs:=h.aA1 c.hc hl;have hd:=h.bd c.hc hl;by_cases hc:b[wid b]!.ah=b[wid b]!.ag
  ·have:mM b=S:=by
    cases e:mM b with
    |false=>rfl
    |true=>have:=((Jk b).1 e).2;unfold rg at this;omega
   rw[this];simp only[i0,i1,i2,hc,ep,cI,bB,bC,cT,cB,yA,gG]
  ·have:mM b=O:=(Jk b).2 ⟨by omega,by unfold rg at r2 ⊢;omega⟩;rw[this];have aja:=ag7 (a:=b[wid b]!.ag+b[wid b]!.ah) (b:=2) (by omega) (by omega);simp only[i0,i1,i2,hc,ep,bB,cT,cB,hs,aja,Zr];rfl
def ahL(a b:Int):Pf a b=iv a b:=by unfold Pf iv;by_cases h:a=b<;>simp[h]
def afo{b:aa aH}(h:b.length<=1000000){i:Nat}(hi:i<b.length){a:Int}(h1: -1048576<=a)(h2:a<=1048576):Zn b (i:Int) a=V (Vx b i a,Xb b i a):=by
 have hw:i64.wrap (a+1)=a+1:=aG;have i1:(i:Int)<(b.length:Int):=by omega
 have i2:(0:Int)<=(i:Int):=by omega
 unfold Zn;simp only[alu h,ze,i1,i2,cT,cB,hi,ahL,hw];rfl
def akj{l:aa Part}(h:l.length<=1000000):Vo l=V l:=by unfold Vo;rw[gY]
def apC(c:Cx f v){l:aa Part}(hl:l.length<=100000){k:Nat}(hk:k<l.length)(hb:iJ f l[k]!.bP):
  m49 l (k:Int)=V (if mM l[k]!.bP=O then(gJ l k (wid l[k]!.bP) (E5 l[k]!.bP),O)else(l,S)):=by
 have k1:(k:Int)<(l.length:Int):=by omega
 have k2:(0:Int)<=(k:Int):=by omega
 have Ru:=adM hb c;unfold m49;cases hc:mM l[k]!.bP with
 |false=>
  rw[hc]at Ru;simp only[ze,k1,k2,cT,cB,Ru,yA,gG,bB,bC]
 |true=>
  rw[hc]at Ru;obtain⟨h1,h2,h3⟩:=Ck hc;have hd:=hb.bd c.hc h1;have afN:=afo (b:=l[k]!.bP) (by have:=l5 c;rw[hb.len];omega) h1 (a:=E5 l[k]!.bP) (by omega) (by omega);have akM:=akj (l:=l) (by omega);have hw:i64.wrap ((l.length:Int)+1)=((l.length+1:Nat):Int):=fu (n:=1000000) (by omega) (by omega);have hlen:∀x y:Part,(l++[x,y]).length=l.length+2:=λx y=>by simp
  have k3:k<l.length+2:=by omega
  have k4:l.length+2<=1073741824:=by omega
  have k5:(k:Int)<((l.length+2:Nat):Int):=by omega
  have hset:∀x y q:Part,(l++[x,y]).set k q=l.set k q++[x,y]:=λx y q=>by rw[List.set_append_left _ _ hk]
  simp only[ze,k1,k2,cT,cB,Ru,bB,bC,afN,akM,hlen,k3,k4,k5,hw,hset];rfl
def Zj(c:Cx f v){l:aa Part}(hl:l.length<=8190){k:Nat}(hk:k<l.length)(hb:iJ f l[k]!.bP)(hc:mM l[k]!.bP=O):
  Mp (k:Int) ⟨f,v,l.map (cellOf f v)⟩=V (0,⟨f,v,(gJ l k (wid l[k]!.bP) (E5 l[k]!.bP)).map (cellOf f v)⟩):=by
 have k1:(k:Int)<(l.length:Int):=by omega
 have k2:(0:Int)<=(k:Int):=by omega
 have hw:i64.wrap ((l.length:Int)+2)=(l.length:Int)+2:=aG;have k3:¬(8192:Int)<(l.length:Int)+2:=by omega
 have ek:(l.map (cellOf f v))[k]! =cellOf f v l[k]! :=eF _ _ _ hk;obtain⟨h1,h2,h3⟩:=Ck hc;have e109:=aih hb c (k:Int) ⟨f,v,l.map (cellOf f v)⟩;have hs:=hb.aA1 c.hc h1;have ahb:=aiz c (by omega) hk hb h1 h2 h3;have j1:(wid l[k]!.bP:Int)<(l[k]!.bP.length:Int):=by omega
 have j2:(0:Int)<=(wid l[k]!.bP:Int):=by omega
 have em:cL IntKind.i64 (l[k]!.bP[wid l[k]!.bP]!.ag+l[k]!.bP[wid l[k]!.bP]!.ah) 1=E5 l[k]!.bP:=awc _;have eb:∀p:Part,(cellOf f v p).bP=p.bP:=λ_=>rfl;unfold Mp;simp only[zx,hw,k3,ep,bB,k1,k2,hk,cT,cB,ze,ek,eb,e109,ya,j1,j2,hs,em,ahb]
end
end Go.Proofs.YtnfljbehcffmcaaGreat
end
noncomputable section
set_option maxRecDepth 100000
namespace Go.Proofs.YtnfljbehcffmcaaGreat
open Go Go.Iv
open Go.IntKind (i64 u64)
section
variable {f:aN} {v:bV}
def rM{l:aa Part}{k:Nat}(hk:k<l.length):(l.map (cellOf f v))[k]!.aq=l[k]!.aq/\(l.map (cellOf f v))[k]!.bP=l[k]!.bP:=by
 rw[eF _ _ _ hk];exact⟨rfl,rfl⟩
def ap9(c:Cx f v){l:aa Part}(h:WF f l)(hl:l.length<=8190){k:Nat}(hk:k<l.length)(h0:l[k]!.aq=[])(hc:mM l[k]!.bP=O):m48 f v (gW (l.map (cellOf f v))) (k:Int)=V (gW ((gJ l k (wid l[k]!.bP) (E5 l[k]!.bP)).map (cellOf f v)),0):=by
 have e105:=OC c h (by omega);have hb:=h.box k hk;have afG:=aje hb c;obtain⟨h1,h2,h3⟩:=Ck hc;have e109:=Zj c hl hk hb hc;have h':=LB h hk h0 h1 h2 h3;have BH:=Ki f v (vW c h' (by rw[tF];omega));have k1:¬(k:Int)<0:=by omega
 have k2:¬(l.length:Int)<=(k:Int):=by omega
 have k3:(0:Int)<=(k:Int):=by omega
 have k4:(k:Int)<(l.length:Int):=by omega
 have k5:¬(0:Int)<((0:Nat):Int):=by omega
 unfold m48;simp only[e105,cI,ep,bC,bB,k1,zx,k2,k3,k4,hk,cT,cB,ze,(rM hk).1,(rM hk).2,h0,yB,k5,afG,hc,e109,BH]
def Fa(f:aN):aa Part:=[⟨0,0,[],kX f⟩]
def aqn(c:Cx f v):m54 f v=V (gW ((Fa f).map (cellOf f v)),0):=by
 have e118:=LL c;have BH:=Ki f v (vW c (No c) (by simp));unfold m54;simp only[e118,cI,bC,bB];simp only[ye,yS]at BH;rw[BH];rfl
def arw(c:Cx f v):m58 f=V (Fa f):=by
 have e39:=arV f (lC c.hc) c.hl;unfold m58 akJ;rw[e39];rfl
def stepG(l:aa Part)(x:Int):aa Part:=
 if l[x.toNat%l.length]!.aq=[]/\mM l[x.toNat%l.length]!.bP=O then gJ l (x.toNat%l.length) (wid l[x.toNat%l.length]!.bP) (E5 l[x.toNat%l.length]!.bP)else l
def mQ(f:aN)(p:aa Int):aa Part:=p.foldl stepG (Fa f)
def XS{l:aa Part}(h:WF f l)(x:Int):WF f (stepG l x)/\(stepG l x).length<=l.length+2:=by
 unfold stepG;have hm:=yQ x.toNat h.ne;split
 ·rename_i hh;obtain⟨h1,h2,h3⟩:=Ck hh.2;exact⟨LB h hm hh.1 h1 h2 h3,by rw[tF];omega⟩
 ·exact⟨h,by omega⟩
def FY(c:Cx f v):∀(n:Nat) (p:aa Int),p.length=n->WF f (mQ f p)/\(mQ f p).length<=1+2*p.length
 |0,p,hp=>by
  have:=xg.1 hp;subst this;exact⟨No c,by simp[mQ,Fa]⟩
 |n+1,p,hp=>by
  have hne:p≠[]:=by intro e;rw[e]at hp;cases hp
  have e:p=p.dropLast++[p.getLast hne]:=(List.dropLast_concat_getLast hne).symm;have hd:p.dropLast.length=n:=by rw[List.length_dropLast];omega
  obtain⟨i1,i2⟩:=FY c n p.dropLast hd;have eg:mQ f p=stepG (mQ f p.dropLast) (p.getLast hne):=by
   conv=>lhs;rw[e]
   unfold mQ;rw[wz];rfl
  obtain⟨j1,j2⟩:=XS i1 (p.getLast hne);rw[eg];exact⟨j1,by omega⟩
def ara(c:Cx f v){p:aa Int}(hp:p.length<=20)(hx:∀x∈p,0<=x/\x<256):m47 f v p=V (mQ f p,gW ((mQ f p).map (cellOf f v)),O):=by
 obtain⟨b,e,hb⟩:=dc (rnd:=OD) p.length (λi (b:aa Part)=>⟨b,p,(p.length:Int),(i:Int),f,v,⟨[],[]⟩,gW (b.map (cellOf f v))⟩) (λi b=>b=mQ f (p.take i)) (λi b hi hb=>by
  have hw:=fu hi (by omega);have i1:(i:Int)<(p.length:Int):=by omega
  have i2:(0:Int)<=(i:Int):=by omega
  obtain⟨x1,x2⟩:=hx p[i]! (bh hi);have hwx:i64.wrap p[i]! =p[i]! :=aG;obtain⟨g1,g2⟩:=FY c _ (p.take i) rfl;rw[<-hb]at g1 g2;have hl:b.length<=8190:=by
   rw[zH]at g2;omega
  have hne:=g1.ne;have n0:¬(b.length:Int)=0:=by omega
  obtain⟨k,hk⟩:∃k,k=p[i]!.toNat%b.length:=⟨_,rfl⟩;have hkl:k<b.length:=by rw[hk];exact yQ _ hne
  have et:p[i]!.tmod (b.length:Int)=(k:Int):=by
   rw[hk];obtain⟨q,hq⟩:∃q:Nat,p[i]! =(q:Int):=⟨p[i]!.toNat,by omega⟩;rw[hq,ze];exact(Int.ofNat_tmod q b.length).symm
  have k1:(k:Int)<(b.length:Int):=by omega
  have k2:(0:Int)<=(k:Int):=by omega
  have hbx:=g1.box k hkl;have e49:=apC c (l:=b) (by omega) hkl hbx;refine⟨stepG b p[i]!,?_,by rw[bK hi];unfold mQ;rw[wz,hb];rfl⟩;have es:stepG b p[i]! =if b[k]!.aq=[]/\mM b[k]!.bP=O then gJ b k (wid b[k]!.bP) (E5 b[k]!.bP)else b:=by unfold stepG;rw[<-hk]
  unfold OD;by_cases h0:b[k]!.aq=[]
  ·have k0:¬(0:Int)<((0:Nat):Int):=by omega
   cases hc:mM b[k]!.bP with
   |true=>
    rw[hc]at e49 es;simp only[h0,cT,cB]at es e49;have e48:=ap9 c g1 hl hkl h0 hc;rw[es];simp only[ze,i1,i2,cI,ep,bC,bB,cT,cB,n0,not_false_eq_true,hwx,et,e49,k1,k2,h0,yB,k0,e48,hw]
   |false=>
    rw[hc]at e49 es;simp only[h0,and_false,yA,gG]at es e49;rw[es];simp only[ze,i1,i2,cI,ep,bC,bB,cT,cB,n0,not_false_eq_true,hwx,et,e49,k1,k2,h0,yB,k0,hw]
  ·have k0:(0:Int)<(b[k]!.aq.length:Int):=by
    have:=wP.2 h0;omega
   rw[bO (λh=>h0 h.1)]at es;rw[es];simp only[ze,i1,i2,cI,ep,bC,bB,cT,cB,n0,not_false_eq_true,hwx,et,e49,k1,k2,k0,hw]) (λb _=>by unfold OD;simp) (b:=Fa f) rfl
 rw[zB]at hb;subst hb;have e':U0 ⟨Fa f,p,(p.length:Int),0,f,v,⟨[],[]⟩,gW ((Fa f).map (cellOf f v))⟩=V ⟨mQ f p,p,(p.length:Int),(p.length:Int),f,v,⟨[],[]⟩,gW ((mQ f p).map (cellOf f v))⟩:=e;unfold m47;simp only[arw c,aqn c,cI,bC,bB,e',ya,ep]
def XP(f:aN)(h:f.ai.length<=1000):∃n,aa6 f=V n:=by
 obtain⟨n,e,-⟩:=dc (rnd:=Dk) f.ai.length (λi (n:Int)=>⟨n,f.ai,(f.ai.length:Int),(i:Int)⟩) (λ_ _=>True) (λi n hi _=>by
  have hw:=fu hi (by omega);have i1:(i:Int)<(f.ai.length:Int):=by omega
  have i2:(0:Int)<=(i:Int):=by omega
  unfold Dk;by_cases h1:f.ai[i]!.bz=1
  ·refine⟨i64.wrap (n*i64.wrap (i64.wrap (f.ai[i]!.ah-f.ai[i]!.ag)+1)),?_,trivial⟩;simp only[ze,i1,i2,cI,bC,cT,cB,h1,hw]
  ·by_cases h3:f.ai[i]!.bz=3
   ·refine⟨i64.wrap (n*i64.wrap (i64.wrap (f.ai[i]!.ah-f.ai[i]!.ag)+1)),?_,trivial⟩;have h31:¬(3:Int)=1:=by decide
    simp only[ze,i1,i2,cI,ep,bC,bB,cT,cB,h3,h31,hw]
   ·refine⟨n,?_,trivial⟩;simp only[ze,i1,i2,cI,ep,bC,bB,cT,cB,h1,h3,hw]) (λn _=>by unfold Dk;simp) (b:=1) trivial
 have e':Kn ⟨1,f.ai,(f.ai.length:Int),0⟩=V ⟨n,f.ai,(f.ai.length:Int),(f.ai.length:Int)⟩:=e;unfold aa6;simp only[e',ya,ep,bB];exact⟨n,rfl⟩
def apT(f:aN)(v:bV):∃r,m46 f v=V r/\(r=O->Cx f v):=by
 obtain⟨r,e24,h24⟩:=arL f 16 4096 4;unfold m46;cases r with
 |false=>exact⟨false,by simp only[e24,bB],λh=>by cases h⟩
 |true=>
  obtain⟨hf,hc⟩:=h24 rfl;unfold few at hf;rw[decide_eq_true_iff]at hf;obtain⟨f1,f2,f3⟩:=hf;have e55:=ayl (f:=f) (by omega) (by omega) (by omega) v;obtain⟨n,Yy⟩:=XP f (by omega);by_cases hq:cdA f v=0
  ·refine⟨J (n<=16),by simp only[e24,bC,e55,hq,cI,Yy],λ_=>⟨by omega,by omega,by omega,hc,hq⟩⟩
  ·exact⟨false,by simp only[e24,bC,e55,hq,ep,bB],λh=>by cases h⟩
end
end Go.Proofs.YtnfljbehcffmcaaGreat
end
noncomputable section
set_option maxRecDepth 100000
namespace Go.Proofs.YtnfljbehcffmcaaGreat
open Go Go.Iv
open Go.IntKind (i64 u64)
abbrev ayh:=aa Int
def d195:Td 0 ayh:= .c [] [4] (.r 0 1 (ec 4 (qo 0) en) (sr 0 3 sn) (λz=>z.2.1) (λx=>(((),()),(x,()))))
def ay3:=(lc qn (bk ln))
def QE(a1:Int):af ayh:=if 0<=a1/\a1<=1073741824 then V []else G
def amg:Prop:=HL w9 195 ay3 d195 (λg=>QE g.2.1)
def agB:aZ->aZ:=eZ w9 195 ay3 d195 (λg=>QE g.2.1)
def aaD(hv:amg){F:aZ}(h:aQ w9 F):aQ w9 (agB F):=oK hv ⟨_,func195,by kernel_rfl,by kernel_rfl⟩ (λ_=>by kernel_rfl) h
def FA:Go.Shelf.Ren:=⟨λ|4=>195|n=>n,λ|22=>27|25=>3|n=>n,λ|n=>n⟩
def Xj:Go.Proofs.Lays8.n4 w9 FA where
 mixed:=by kernel_rfl
 f4:=⟨f195.name,by kernel_rfl,func195.trans (congrArg V (by kernel_rfl))⟩
 t0:=underlying0
 a0:=Tryz.isAgg0
 z0:=Tryz.sizeOf0
 v0:=Tryz.zeroValue0
 t3:=underlying3
 a3:=Tryz.isAgg3
 z3:=Tryz.sizeOf3
 v3:=Tryz.zeroValue3
 t4:=underlying4
 a4:=Tryz.isAgg4
 z4:=Tryz.sizeOf4
 v4:=Tryz.zeroValue4
 t9:=underlying9
 a9:=Tryz.isAgg9
 z9:=Tryz.sizeOf9
 v9:=Tryz.zeroValue9
 t20:=underlying20
 a20:=Tryz.isAgg20
 z20:=Tryz.sizeOf20
 v20:=Tryz.zeroValue20
 t22:=underlying27
 a22:=Tryz.isAgg27
 z22:=Tryz.sizeOf27
 v22:=Tryz.zeroValue27
def heap_alloc(w:World)(o:Obj):(w.alloc o).heap[w.heap.size]? =V o:=by unfold World.alloc;simp
def az6:∃i,w9.info? 3=V i/\i.zero=V (.int .i64 0)/\i.size=1/\i.bytes=8:=by
 have h:(w9.info? 3).map (λi=>(i.zero,i.size,i.bytes))=V (V (.int .i64 0),1,8):=by kernel_rfl
 obtain⟨i,h1,h2⟩:=zk.1 h;simp only[Prod.mk.injEq]at h2;exact⟨i,h1,h2⟩
def aoE(n:Int)(b:aa Int)(hb:QE n=V b):K7 w9 195 [.lit (.slice G 0 0), .n .i64 n] [] 0 (gC w9 195 0 (d195.pat b)):=by
 unfold QE at hb;split at hb
 case isFalse=>cases hb
 rename_i hn;have hbl:b=[]:=(zA.inj hb).symm;subst hbl;intro ρ;have ho:gC w9 195 0 (d195.pat [])=⟨.own 0,[(0, .row 3 [])],1⟩:=by kernel_rfl
 show Go.Iv.Fn w9 195 [(cc.lit (.slice G 0 0)).sub ρ,(cc.n .i64 n).sub ρ] (bg.res ρ []) _;rw[ho];simp only[cc.sub];intro w A vs hr hd hnd;obtain⟨hr1,hr2⟩:=hr;obtain⟨v,v2,rfl⟩:∃v v2,vs=[v,v2]:=by
  match vs,hr1 with
  |[v,v2],_=>exact⟨v,v2,rfl⟩
 obtain rfl:v= .slice G 0 0:=(hr2 0 _ v rfl rfl).cH;obtain rfl:v2= .int .i64 n:=(hr2 1 _ v2 rfl rfl).cH;obtain⟨m,rfl⟩:∃m:Nat,n=(m:Int):=⟨n.toNat,by omega⟩;have hσ:bg.res ρ ([]:bg)=[]:=rfl;rw[hσ]at hd hnd ⊢;have fin:∀(w':World) (u:Value),gD w' u 3 1 0 []->(∀b,gB u=V b->w.heap.size<=b)->Kp [] w w'->∃v_1 av σ',Ending.returned u=Ending.returned v_1/\
   (∃ρ',oS 0 ρ ρ'/\av=cc.lit (ρ'.v 0)/\List.Perm σ' (bg.res ρ' [(0, .row 3 [])]))/\Tr ⟨w,A,bD []⟩ (bD []) [] w σ' w'/\Rel (al ⟨w,A,bD []⟩ σ') w' av v_1:=λw' u hrow hb hk=>by
  refine⟨u, .lit u,[cE.row u 3 []],rfl,⟨⟨λ_=>u,ρ.b⟩,λi hi=>dD hi (by omega),rfl,List.Perm.refl _⟩,⟨⟨hk,?_,?_,?_⟩,hk,λx hx h=>⟨⟨h.1,λhx2=> ?_⟩,by simp[bD]⟩⟩, .lit u⟩
  ·intro r hr;rw[zy.1 hr];exact⟨[],hrow,λi hi=>(by cases hi),λi hi=>(by cases hi)⟩
  ·unfold bD;simp only[y6,List.filterMap_nil];cases cE.blk (cE.row u 3 ([]:aa (uni.dz 3)))<;>simp
  ·intro x hx;obtain⟨r,hr,hx⟩:=bT.1 hx;rw[zy.1 hr]at hx;exact .inr (hb x hx)
  ·obtain⟨r,hr,hx2⟩:=bT.1 hx2;rw[zy.1 hr]at hx2;have:=hb x hx2;omega
 by_cases h0:m=0
 ·subst h0;refine(Go.Proofs.Any8.slices_Grow_room Xj G 0 0 0 w (zn _) (by omega) (by omega) (zn _)).mono λe w' he=> ?_;obtain⟨rfl,rfl⟩:=he;exact fin w' _ ⟨rfl, .inl ⟨none,rfl,rfl⟩⟩ (λb hb=>by cases hb) (Kp.refl _ _)
 ·obtain⟨i0,i1,i2,i3,i4⟩:=az6;have hG:=grownCap_ge w (0+m) 0 3;have hG2:=grownCap_le_maxLen w (0+m) 0 3 (by have:maxLen=9223372036854775807:=rfl;omega);refine(Go.Proofs.Any8.slices_Grow_grow Xj i0 _ i1 i2 (by omega) none 0 0 m [] w (zn _) (by omega) (by rw[i4];omega) (by omega) (by simp) (λ_=>rfl) (λa h=>by cases h)).mono λe w' he=> ?_;obtain⟨rfl,rfl⟩:=he;obtain⟨zb,hGe⟩:∃zb,grownCap w (0+m) 0 (FA.t 25)=zb+1:=⟨grownCap w (0+m) 0 3-1,by show grownCap w (0+m) 0 3=_;omega⟩;rw[hGe];have hGm:zb+1<=maxLen:=by rw[<-hGe];exact hG2
  have hmG:m<=zb+1:=by rw[<-hGe];have:0+m<=grownCap w (0+m) 0 3:=hG;show m<=grownCap w (0+m) 0 3;omega
  refine fin _ _ ⟨rfl, .inr ⟨w.heap.size,zb,_,rfl,heap_alloc w.drew _,yT _,hGm,?_,by simp⟩⟩ (λb hb=>by cases hb;exact zn _) ⟨rfl,rfl,rfl,yc w.drawn,by show _<=(w.drew.heap.push _).size;rw[Array.size_push];exact yc _,λk hk _=> ?_⟩
  ·simp[Builtin.zeroCells,Value.cells];omega
  ·show (w.heap.push _)[k]? =_;rw[Array.getElem?_push,bO (by omega)]
def ayL:amg:=λg b hb=>aoE g.2.1 b hb
def abx:aZ:=(agB cZ)
def ada:aQ w9 abx:=(aaD ayL aR)
structure sJ where
 t6:List Int
 t25:List (List Int)
 (t26 t27:Int)
def Fw:Td 1 sJ:= .c [] [6,25,26,27] (.r 1 2 (ec 6 (qo 1) (ec 25 (qo 0) (ec 26 aL (ec 27 aL en)))) (sr 0 27 (sr 1 3 sn)) (λz=>⟨z.t.1,z.2.1,z.1.t.1,z.1.t.2.1⟩) (λx=>(((),(),x.t26,x.t27,()),(x.t25,x.t6,()))))
def s8(p:sJ):af (af sJ):=
 bif J (p.t27<p.t26)then if 0<=p.t27/\p.t27<p.t25.length then if 27=27/\p.t27.toNat<p.t25.length then if(p.t6++p.t25[p.t27.toNat]!).length<=1073741824 then V (V (sJ.mk (p.t6++p.t25[p.t27.toNat]!) p.t25 p.t26 (i64.wrap (p.t27+1))))else G else G else G else V (G)
def arv(p:sJ):dQ w9 (abx) f115.ntmps 300 (aW f115 1) .no (af sJ) (Fw.pat p) (rT Fw.rd)=s8 p:=by kernel_rfl
def EE:=bJ (s8)
structure tQ where
 t0:List (List Int)
 t3:Int
 t9:List (List Int)
 (t10 t11:Int)
def Da:Td 1 tQ:= .c [] [0,3,9,10,11] (.r 1 1 (ec 0 (qo 0) (ec 3 aL (ec 9 (qo 0) (ec 10 aL (ec 11 aL en))))) (sr 0 27 sn) (λz=>⟨z.2.1,z.1.2.1,z.2.1,z.1.t.2.1,z.1.q.1⟩) (λx=>(((),x.t3,(),x.t10,x.t11,()),(x.t9,()))))
def tN(p:tQ):af (af tQ):=
 bif J (p.t11<p.t10)then if 0<=p.t11/\p.t11<p.t9.length then if 27=27/\p.t11.toNat<p.t9.length then bif J (i64.wrap (p.t3+(↑(zP p.t9[p.t11.toNat]!):Int))<0)then G else V (V (tQ.mk p.t9 (i64.wrap (p.t3+(↑(zP p.t9[p.t11.toNat]!):Int))) p.t9 p.t10 (i64.wrap (p.t11+1))))else G else G else V (G)
def ap7(p:tQ):dQ w9 (abx) f115.ntmps 300 (aW f115 0) .no (af tQ) (Da.pat p) (rT Da.rd)=tN p:=by kernel_rfl
def Ff:=bJ (tN)
abbrev awi:=(aa Int)×(aa (aa Int))
def d115:Td 1 awi:= .c [] [2] (.r 1 2 (ec 2 (qo 1) en) (sr 0 27 (sr 1 3 sn)) (λz=>(z.t.1,z.2.1)) (λx=>(((),()),(x.2,x.1,()))))
def ava:=(lc (qo 0) ln)
def axD:=(sr 0 27 sn)
def amC:An:=(noTwo (noTwo (.two (noTwo (Da.lp Ff .no)) (noTwo (.two (noTwo (Fw.lp EE .no)) .no)))))
def axq:cR w9 (abx) 1 300 115 (amC):=bA (l:=[(aW f115 0,(Da.lp Ff .no)),(aW f115 1,(Fw.lp EE .no))]) func115 (aV (by kernel_rfl)) (by kernel_rfl) (az ⟨Da.ok _,dh (ap7)⟩ (az ⟨Fw.ok _,dh (arv)⟩ aF))
def abu(b0:aa (aa Int)):af awi:=
 match Ff (tQ.mk b0 0 b0 b0.length 0)with|G=>G|V r1=>bif J (r1.t11<r1.t10)then if 0<=r1.t11/\r1.t11<r1.t9.length then if 27=27/\r1.t11.toNat<r1.t9.length then bif J (i64.wrap (r1.t3+(↑(zP r1.t9[r1.t11.toNat]!):Int))<0)then G else G else G else G else match QE r1.t3 with|G=>G|V r2=>match EE (sJ.mk r2 r1.t9 r1.t9.length 0)with|G=>G|V r3=>bif J (r3.t27<r3.t26)then if 0<=r3.t27/\r3.t27<r3.t25.length then if 27=27/\r3.t27.toNat<r3.t25.length then if(r3.t6++r3.t25[r3.t27.toNat]!).length<=1073741824 then G else G else G else G else V (r3.t6,r3.t25)
def aCK(b0:aa (aa Int)):bL w9 (abx) 300 (amC) 115 (ava.c ((),())) (axD.d (b0,())) 1 d115.rd=abu b0:=by kernel_rfl
def agR:aZ->aZ:=eY w9 115 1 ava axD d115 (λg=>abu g.2.1)
def ae0{F:aZ}(h:aQ w9 F):aQ w9 (agR F):=mS (sx ada axq (λ_=>by kernel_rfl) (λ_=>by kernel_rfl) (λ_=>by kernel_rfl) λg=>aCK g.2.1) ⟨_,func115,by kernel_rfl,by kernel_rfl⟩ (λ_=>by kernel_rfl) h
def aaF:aZ:=cZ
def ajf:aQ w9 aaF:=aR
structure tR where
 t2:List Int
 t34:List aX
 (t35 t36:Int)
def Fu:Td 0 tR:= .c [] [2,34,35,36] (.r 0 1 (ec 2 (ql 3) (ec 34 (qo 0) (ec 35 aL (ec 36 aL en)))) (sr 0 131 sn) (λz=>⟨z.1.1,z.2.1,z.1.t.1,z.1.t.2.1⟩) (λx=>((x.t2,(),x.t35,x.t36,()),(x.t34,()))))
def EN(p:tR):af (af tR):=
 bif J (p.t36<p.t35)then if 0<=p.t36/\p.t36<p.t34.length then if 131=131/\p.t36.toNat<p.t34.length then if 0<=p.t36/\p.t36<p.t2.length then bif J (p.t2[p.t36.toNat]! <p.t34[p.t36.toNat]!.ag)then V (G)else if 0<=p.t36/\p.t36<p.t2.length then bif J (p.t34[p.t36.toNat]!.ah<p.t2[p.t36.toNat]!)then V (G)else V (V (tR.mk p.t2 p.t34 p.t35 (i64.wrap (p.t36+1))))else G else G else G else G else V (G)
def asA(p:tR):dQ w9 (aaF) f114.ntmps 300 (aW f114 1) .no (af tR) (Fu.pat p) (rT Fu.rd)=EN p:=by kernel_rfl
def IV:=bJ (EN)
structure pN where
 t1:Int
 t2:List Int
 (t8 t14:List aX)
 (t15 t16:Int)
def D4:Td 0 pN:= .c [] [1,2,8,14,15,16] (.t (cA.s 8 [] 131) (.c [] [1,2,8,14,15,16] (.r 0 1 (ec 1 aL (ec 2 (ql 3) (ec 8 (qo 0) (ec 14 (ql 131) (ec 15 aL (ec 16 aL en)))))) (sr 0 131 sn) (λz=>⟨z.1.1,z.1.2.1,z.2.1,z.1.t.2.1,z.1.q.1,z.1.q.2.1⟩) (λx=>((x.t1,x.t2,(),x.t14,x.t15,x.t16,()),(x.t8,()))))))
def FP(p:pN):af (af pN):=
 bif J (p.t16<p.t15)then if 0<=p.t16/\p.t16<p.t14.length then bif J (p.t14[p.t16.toNat]!.bz=p.t1)then if(p.t8++[p.t14[p.t16.toNat]!]).length<=1073741824 then V (V (pN.mk p.t1 p.t2 (p.t8++[p.t14[p.t16.toNat]!]) p.t14 p.t15 (i64.wrap (p.t16+1))))else G else V (V (pN.mk p.t1 p.t2 p.t8 p.t14 p.t15 (i64.wrap (p.t16+1))))else G else V (G)
def aqB(p:pN):dQ w9 (aaF) f114.ntmps 300 (aW f114 0) .no (af pN) (D4.pat p) (rT D4.rd)=FP p:=by kernel_rfl
def Jv:=bJ (FP)
abbrev aAN:=Int×Int
def d114:Td 0 aAN:= .c [] [6,7] (.r 0 0 (ec 6 aL (ec 7 aL en)) sn (λz=>(z.1.1,z.1.2.1)) (λx=>((x.1,x.2,()),(()))))
def av4:=(lc (qg 26) (bk (lc (ql 3) ln)))
def alG:An:=(noTwo (noTwo (.two (noTwo (D4.lp Jv .no)) (noTwo (.two (noTwo (Fu.lp IV .no)) .no)))))
def axW:cR w9 (aaF) 0 300 114 (alG):=bA (l:=[(aW f114 0,(D4.lp Jv .no)),(aW f114 1,(Fu.lp IV .no))]) func114 (aV (by kernel_rfl)) (by kernel_rfl) (az ⟨D4.ok _,dh (aqB)⟩ (az ⟨Fu.ok _,dh (asA)⟩ aF))
def Np(a0:aN)(a1:Int)(a2:aa Int):af aAN:=
 match Jv (pN.mk a1 a2 [] a0.ai a0.ai.length 0)with|G=>G|V r1=>bif J (r1.t16<r1.t15)then if 0<=r1.t16/\r1.t16<r1.t14.length then bif J (r1.t14[r1.t16.toNat]!.bz=r1.t1)then if(r1.t8++[r1.t14[r1.t16.toNat]!]).length<=1073741824 then G else G else G else G else bif bif J ((r1.t8.length:Int)=(r1.t2.length:Int))then S else O then V (2,0)else match IV (tR.mk r1.t2 r1.t8 r1.t8.length 0)with|G=>G|V r2=>bif J (r2.t36<r2.t35)then if 0<=r2.t36/\r2.t36<r2.t34.length then if 131=131/\r2.t36.toNat<r2.t34.length then if 0<=r2.t36/\r2.t36<r2.t2.length then bif J (r2.t2[r2.t36.toNat]! <r2.t34[r2.t36.toNat]!.ag)then V (0,3)else if 0<=r2.t36/\r2.t36<r2.t2.length then bif J (r2.t34[r2.t36.toNat]!.ah<r2.t2[r2.t36.toNat]!)then V (0,3)else G else G else G else G else G else V (0,0)
def aF3(a0:aN)(a1:Int)(a2:aa Int):bL w9 (aaF) 300 (alG) 114 (av4.c (a0,a1,a2,())) [] 0 d114.rd=Np a0 a1 a2:=by kernel_rfl
def aum:=eL w9 114 S av4 d114 (λg=>Np g.1 g.2.1 g.t.1)
def adW{F:aZ}(h:aQ w9 F):aQ w9 (aum F):=cO (sc:=jr) cg (cF ajf axW (λ_=>by kernel_rfl) (λ_=>by kernel_rfl) λg=>aF3 g.1 g.2.1 g.t.1) ⟨_,func114,by kernel_rfl,by kernel_rfl⟩ (λ_=>by kernel_rfl) (λ_=>by kernel_rfl) h
def F50:aZ:=(agR (aum (Y7 cZ)))
def aqz:aQ w9 F50:=(ae0 (adW (NQ aR)))
structure Bv where
 t20:List Int
 t21:Int
 b0:Tree
def ND:Td 0 Bv:= .c [] [12,20,21] (.r 0 3 (ec 12 (qp 0 0) (ec 20 (qo 1) (ec 21 aL en))) (sb 0 172 (lc (ql 131) (lc (ql 139) (lc (ql 166) (lc (ql 3) (lc qb (lc (qo 2) ln)))))) (sr 1 3 (sr 2 174 sn))) (λz=>⟨z.t.1,z.1.t.1,(Tree.mk (aN.mk z.2.1.1 z.2.1.2.1 z.2.1.t.1) (bV.mk z.2.1.t.2.1 z.2.1.q.1) z.t.2.1)⟩) (λx=>(((),(),x.t21,()),((x.b0.fF.ai,x.b0.fF.ak,x.b0.fF.bI,x.b0.fV.aU,x.b0.fV.eH,(),()),x.t20,x.b0.aP,()))))
def Dl(p:Bv):af (af Bv):=
 if 0<=p.t21/\p.t21<p.b0.aP.length then if 174=174/\p.t21.toNat<p.b0.aP.length then bif J (0<(↑p.b0.aP[p.t21.toNat]!.aq.length:Int))then if 0<=p.t21/\p.t21<p.b0.aP.length then if 174=174/\p.t21.toNat<p.b0.aP.length then if(0:Int)<=(0:Int)/\(0:Int)<(↑p.b0.aP[p.t21.toNat]!.aq.length:Int)then if 0<=p.b0.aP[p.t21.toNat]!.bZ/\p.b0.aP[p.t21.toNat]!.bZ<p.t20.length then if 3=3/\p.b0.aP[p.t21.toNat]!.bZ.toNat<p.t20.length then bif J (p.b0.aP[p.t21.toNat]!.iV<p.t20[p.b0.aP[p.t21.toNat]!.bZ.toNat]!)then if(0:Int)<=(1:Int)/\(1:Int)<(↑p.b0.aP[p.t21.toNat]!.aq.length:Int)then V (V (Bv.mk p.t20 p.b0.aP[p.t21.toNat]!.aq[1]! p.b0))else G else V (V (Bv.mk p.t20 p.b0.aP[p.t21.toNat]!.aq[0]! p.b0))else G else G else G else G else G else V (G)else G else G
def avv(p:Bv):dQ w9 (F50) f50.ntmps 300 (aW f50 1) .no (af Bv) (ND.pat p) (rT ND.rd)=Dl p:=by kernel_rfl
def F7:=bJ (Dl)
structure FN where
 (t3 t4 t49:List Int)
 (t50 t51:Int)
 b0:Tree
def N5:Td 0 FN:= .c [] [3,4,12,49,50,51] (.r 0 3 (ec 3 (ql 3) (ec 4 (ql 3) (ec 12 (qp 0 0) (ec 49 (qo 1) (ec 50 aL (ec 51 aL en)))))) (sb 0 172 (lc (ql 131) (lc (ql 139) (lc (ql 166) (lc (ql 3) (lc qb (lc (qo 2) ln)))))) (sr 1 37 (sr 2 174 sn))) (λz=>⟨z.1.1,z.1.2.1,z.t.1,z.1.q.1,z.1.q.2.1,(Tree.mk (aN.mk z.2.1.1 z.2.1.2.1 z.2.1.t.1) (bV.mk z.2.1.t.2.1 z.2.1.q.1) z.t.2.1)⟩) (λx=>((x.t3,x.t4,(),(),x.t50,x.t51,()),((x.b0.fF.ai,x.b0.fF.ak,x.b0.fF.bI,x.b0.fV.aU,x.b0.fV.eH,(),()),x.t49,x.b0.aP,()))))
def NO(p:FN):af (af FN):=
 bif J (p.t51<p.t50)then if 0<=p.t51/\p.t51<p.t49.length then if 37=37/\p.t51.toNat<p.t49.length then bif bif J (p.t49[p.t51.toNat]! =0)then S else O then V (G)else V (V (FN.mk p.t3 p.t4 p.t49 p.t50 (i64.wrap (p.t51+1)) p.b0))else G else G else V (G)
def aAy(p:FN):dQ w9 (F50) f50.ntmps 300 (aW f50 0) .no (af FN) (N5.pat p) (rT N5.rd)=NO p:=by kernel_rfl
def UO:=bJ (NO)
abbrev E50:=Int×Int
def d50:Td 0 E50:= .c [] [10,11] (.r 0 0 (ec 10 aL (ec 11 aL en)) sn (λz=>(z.1.1,z.1.2.1)) (λx=>((x.1,x.2,()),(()))))
def A50:=(lc (qg 26) (lc (qg 29) (lc (qg 84) (lc (ql 3) (lc (ql 3) ln)))))
def avM:An:=(noTwo (noTwo (noTwo (noTwo (noTwo (.two (noTwo (N5.lp UO .no)) (noTwo (noTwo (.two (ND.lp F7 .no) .no)))))))))
def aCq:cR w9 (F50) 0 300 50 (avM):=bA (l:=[(aW f50 0,(N5.lp UO .no)),(aW f50 1,(ND.lp F7 .no))]) func50 (aV (by kernel_rfl)) (by kernel_rfl) (az ⟨N5.ok _,dh (aAy)⟩ (az ⟨ND.ok _,dh (avv)⟩ aF))
def m50(a0:aN)(a1:bV)(a2:bH)(a3:aa Int)(a4:aa Int):af E50:=
 match Hf a0 a1 a2 with|G=>G|V r1=>bif bif J (r1.snd=0)then S else O then V (0,r1.snd)else match Np a0 1 a3 with|G=>G|V r2=>match Np a0 3 a4 with|G=>G|V r3=>match UO (FN.mk a3 a4 [r2.fst,r3.fst,r2.snd,r3.snd] (↑[r2.fst,r3.fst,r2.snd,r3.snd].length:Int) 0 r1.fst)with|G=>G|V r4=>bif J (r4.t51<r4.t50)then if 0<=r4.t51/\r4.t51<r4.t49.length then if 37=37/\r4.t51.toNat<r4.t49.length then bif bif J (r4.t49[r4.t51.toNat]! =0)then S else O then V (0,r4.t49[r4.t51.toNat]!)else G else G else G else match abu [r4.t3,r4.t4]with|G=>G|V r5=>match F7 (Bv.mk r5.fst 0 r4.b0)with|G=>G|V r6=>if 0<=r6.t21/\r6.t21<r6.b0.aP.length then if 174=174/\r6.t21.toNat<r6.b0.aP.length then bif J (0<(↑r6.b0.aP[r6.t21.toNat]!.aq.length:Int))then if 0<=r6.t21/\r6.t21<r6.b0.aP.length then if 174=174/\r6.t21.toNat<r6.b0.aP.length then if(0:Int)<=(0:Int)/\(0:Int)<(↑r6.b0.aP[r6.t21.toNat]!.aq.length:Int)then if 0<=r6.b0.aP[r6.t21.toNat]!.bZ/\r6.b0.aP[r6.t21.toNat]!.bZ<r6.t20.length then if 3=3/\r6.b0.aP[r6.t21.toNat]!.bZ.toNat<r6.t20.length then bif J (r6.b0.aP[r6.t21.toNat]!.iV<r6.t20[r6.b0.aP[r6.t21.toNat]!.bZ.toNat]!)then if(0:Int)<=(1:Int)/\(1:Int)<(↑r6.b0.aP[r6.t21.toNat]!.aq.length:Int)then G else G else G else G else G else G else G else G else V (r6.t21,0)else G else G
def c50(a0:aN)(a1:bV)(a2:bH)(a3:aa Int)(a4:aa Int):bL w9 (F50) 300 (avM) 50 (A50.c (a0,a1,a2,a3,a4,())) [] 0 d50.rd=m50 a0 a1 a2 a3 a4:=by kernel_rfl
def U7:=eL w9 50 S A50 d50 (λg=>m50 g.1 g.2.1 g.t.1 g.t.2.1 g.q.1)
def anW{F:aZ}(h:aQ w9 F):aQ w9 (U7 F):=cO (sc:=jr) cg (cF aqz aCq (λ_=>by kernel_rfl) (λ_=>by kernel_rfl) λg=>c50 g.1 g.2.1 g.t.1 g.t.2.1 g.q.1) ⟨_,func50,by kernel_rfl,by kernel_rfl⟩ (λ_=>by kernel_rfl) (λ_=>by kernel_rfl) h
def M4{F:aZ}{f:Nat}(h:bw F f):bw (U7 F) f:=eC h (λ_=>by kernel_rfl)
def F51:aZ:=cZ
def aqa:aQ w9 F51:=aR
structure Bu where
 t3:Int
 t7:List aX
 (t8 t9:Int)
def M0:Td 0 Bu:= .c [] [3,7,8,9] (.r 0 0 (ec 3 aL (ec 7 (ql 131) (ec 8 aL (ec 9 aL en)))) sn (λz=>⟨z.1.1,z.1.2.1,z.1.t.1,z.1.t.2.1⟩) (λx=>((x.t3,x.t7,x.t8,x.t9,()),(()))))
def NH(p:Bu):af (af Bu):=
 bif J (p.t9<p.t8)then if 0<=p.t9/\p.t9<p.t7.length then bif J (p.t7[p.t9.toNat]!.bz=1)then V (V (Bu.mk (i64.wrap (p.t3+1)) p.t7 p.t8 (i64.wrap (p.t9+1))))else V (V (Bu.mk p.t3 p.t7 p.t8 (i64.wrap (p.t9+1))))else G else V (G)
def axA(p:Bu):dQ w9 (F51) f51.ntmps 300 (aW f51 0) .no (af Bu) (M0.pat p) (rT M0.rd)=NH p:=by kernel_rfl
def Vg:=bJ (NH)
abbrev E51:=Int
def d51:Td 0 E51:= .c [] [2] (.r 0 0 (ec 2 aL en) sn (λz=>z.1.1) (λx=>((x,()),(()))))
def A51:=(lc (qg 26) ln)
def ayW:An:=(noTwo (noTwo (.two (noTwo (M0.lp Vg .no)) .no)))
def aDJ:cR w9 (F51) 0 300 51 (ayW):=bA (l:=[(aW f51 0,(M0.lp Vg .no))]) func51 (aV (by kernel_rfl)) (by kernel_rfl) (az ⟨M0.ok _,dh (axA)⟩ aF)
def m51(a0:aN):af E51:=
 match Vg (Bu.mk 0 a0.ai a0.ai.length 0)with|G=>G|V r1=>bif J (r1.t9<r1.t8)then if 0<=r1.t9/\r1.t9<r1.t7.length then bif J (r1.t7[r1.t9.toNat]!.bz=1)then G else G else G else V (r1.t3)
def c51(a0:aN):bL w9 (F51) 300 (ayW) 51 (A51.c (a0,())) [] 0 d51.rd=m51 a0:=by kernel_rfl
def e51:=eL w9 51 S A51 d51 (λg=>m51 g.1)
def asn{F:aZ}(h:aQ w9 F):aQ w9 (e51 F):=cO (sc:=jr) cg (cF aqa aDJ (λ_=>by kernel_rfl) (λ_=>by kernel_rfl) λg=>c51 g.1) ⟨_,func51,by kernel_rfl,by kernel_rfl⟩ (λ_=>by kernel_rfl) (λ_=>by kernel_rfl) h
def Mi{F:aZ}{f:Nat}(h:bw F f):bw (e51 F) f:=eC h (λ_=>by kernel_rfl)
def F52:aZ:=cZ
def arD:aQ w9 F52:=aR
structure En where
 t1:List Int
 t7:List aH
 (t8 t9:Int)
def Oj:Td 0 En:= .c [] [1,7,8,9] (.r 0 0 (ec 1 (ql 3) (ec 7 (ql 34) (ec 8 aL (ec 9 aL en)))) sn (λz=>⟨z.1.1,z.1.2.1,z.1.t.1,z.1.t.2.1⟩) (λx=>((x.t1,x.t7,x.t8,x.t9,()),(()))))
def Lg(p:En):af (af En):=
 bif J (p.t9<p.t8)then if 0<=p.t9/\p.t9<p.t7.length then if 0<=p.t9/\p.t9<p.t1.length then bif J (p.t1[p.t9.toNat]! <p.t7[p.t9.toNat]!.ag)then V (G)else if 0<=p.t9/\p.t9<p.t1.length then bif J (p.t7[p.t9.toNat]!.ah<p.t1[p.t9.toNat]!)then V (G)else V (V (En.mk p.t1 p.t7 p.t8 (i64.wrap (p.t9+1))))else G else G else G else V (G)
def at5(p:En):dQ w9 (F52) f52.ntmps 300 (aW f52 0) .no (af En) (Oj.pat p) (rT Oj.rd)=Lg p:=by kernel_rfl
def T9:=bJ (Lg)
abbrev E52:=Bool
def d52:Td 0 E52:= .c [] [4] (.r 0 0 (ec 4 qb en) sn (λz=>z.1.1) (λx=>((x,()),(()))))
def A52:=(lc (ql 34) (lc (ql 3) ln))
def axy:An:=(noTwo (.two (noTwo (Oj.lp T9 .no)) .no))
def aFh:cR w9 (F52) 0 300 52 (axy):=bA (l:=[(aW f52 0,(Oj.lp T9 .no))]) func52 (aV (by kernel_rfl)) (by kernel_rfl) (az ⟨Oj.ok _,dh (at5)⟩ aF)
def m52(a0:aa aH)(a1:aa Int):af E52:=
 match T9 (En.mk a1 a0 a0.length 0)with|G=>G|V r1=>bif J (r1.t9<r1.t8)then if 0<=r1.t9/\r1.t9<r1.t7.length then if 0<=r1.t9/\r1.t9<r1.t1.length then bif J (r1.t1[r1.t9.toNat]! <r1.t7[r1.t9.toNat]!.ag)then V S else if 0<=r1.t9/\r1.t9<r1.t1.length then bif J (r1.t7[r1.t9.toNat]!.ah<r1.t1[r1.t9.toNat]!)then V S else G else G else G else G else V O
def c52(a0:aa aH)(a1:aa Int):bL w9 (F52) 300 (axy) 52 (A52.c (a0,a1,())) [] 0 d52.rd=m52 a0 a1:=by kernel_rfl
def e52:=eL w9 52 S A52 d52 (λg=>m52 g.1 g.2.1)
def asJ{F:aZ}(h:aQ w9 F):aQ w9 (e52 F):=cO (sc:=jr) cg (cF arD aFh (λ_=>by kernel_rfl) (λ_=>by kernel_rfl) λg=>c52 g.1 g.2.1) ⟨_,func52,by kernel_rfl,by kernel_rfl⟩ (λ_=>by kernel_rfl) (λ_=>by kernel_rfl) h
def N1{F:aZ}{f:Nat}(h:bw F f):bw (e52 F) f:=eC h (λ_=>by kernel_rfl)
def F9:aZ:=(e52 (e51 (U7 (e47 (Xf (e45 (JR cZ)))))))
def aAZ:aQ w9 F9:=(asJ (asn (anW (arR (ap5 (akm aC2 (mb aR)))))))
abbrev E9:=Bool
def d9:Td 0 E9:= .c [] [6] (.r 0 0 (ec 6 qb en) sn (λz=>z.1.1) (λx=>((x,()),(()))))
def A9:=(lc (qg 26) (lc (qg 52) (lc (ql 5) ln)))
def an9:An:=(noTwo (noTwo (noTwo (.two (.two (.rb [46,52] 39) .no) (noTwo (noTwo (noTwo (noTwo (.two (noTwo (.two (.two (.rb [46,52] 6) .no) .no)) (.two (noTwo (.two (.two (.rb [46,52] 6) .no) .no)) (.two (.rb [46,52] 6) .no)))))))))))
def pu9:∀f∈([46,52]:aa Nat),bw (F9) f:=(az (N1 (Mi (M4 (LD (f:=46) rfl (MY (Oo (MR (f:=46) rfl bS))))))) (az (N1 (Mi (M4 (LD (f:=52) rfl (MY (Oo (MR (f:=52) rfl bS))))))) aF))
def fa9:cR w9 (F9) 0 300 9 (an9):=bA (l:=[(.skip,(.rb [46,52] 39)),(.skip,(.rb [46,52] 6)),(.skip,(.rb [46,52] 6)),(.skip,(.rb [46,52] 6))]) func9 (aV (by kernel_rfl)) (by kernel_rfl) (az pu9 (az pu9 (az pu9 (az pu9 aF))))
def m9(a0:aN)(a1:iM)(a2:aa Int):af E9:=
 bif bif Xe then S else O then V S else match match m46 a0 (bV.mk a1.aU S)with|G=>G|V r1=>bif bif r1 then S else O then V O else bif J (20<(a2.length:Int))then V O else bif J (20<(a1.cW.length:Int))then V O else V (J (20<(a1.dx.length:Int)))with|G=>G|V r2=>bif r2 then V O else match m47 a0 (bV.mk a1.aU S) a2 with|G=>G|V r3=>bif bif r3.snd.snd then S else O then V S else match m50 a0 (bV.mk a1.aU S) r3.snd.fst a1.cW a1.dx with|G=>G|V r4=>match Qq a1.cW with|G=>G|V r5=>if(r5++a1.dx).length<=1073741824 then match m51 a0 with|G=>G|V r6=>bif bif J (a1.cW.length=r6)then S else O then match bif J (r4.snd=2)then V (J (r4.fst=0))else V S with|G=>G|V r7=>V (r7)else if(0:Int)<=(0:Int)/\(0:Int)<r3.fst.length then bif bif J ((↑(r5++a1.dx).length:Int)=(↑r3.fst[0]!.bP.length:Int))then S else O then match bif J (r4.snd=2)then V (J (r4.fst=0))else V S with|G=>G|V r8=>V (r8)else if(0:Int)<=(0:Int)/\(0:Int)<r3.fst.length then match m52 r3.fst[0]!.bP (r5++a1.dx)with|G=>G|V r9=>bif bif r9 then S else O then match bif J (r4.snd=3)then V (J (r4.fst=0))else V S with|G=>G|V r10=>V (r10)else match bif J (r4.snd=0)then bif J (0<=r4.fst)then bif J (r4.fst<r3.fst.length)then if 0<=r4.fst/\r4.fst<r3.fst.length then bif J ((↑r3.fst[r4.fst.toNat]!.aq.length:Int)=0)then if 0<=r4.fst/\r4.fst<r3.fst.length then match m52 r3.fst[r4.fst.toNat]!.bP (r5++a1.dx)with|G=>G|V r11=>V (r11)else G else V S else G else V S else V S else V S with|G=>G|V r12=>V (r12)else G else G else G
def c9(a0:aN)(a1:iM)(a2:aa Int):bL w9 (F9) 300 (an9) 9 (A9.c (a0,a1,a2,())) [] 0 d9.rd=m9 a0 a1 a2:=by kernel_rfl
def h9:HL w9 9 A9 d9 (λg=>m9 g.1 g.2.1 g.2.2.1):=(cF aAZ fa9 (λ_=>by kernel_rfl) (λ_=>by kernel_rfl) λg=>c9 g.1 g.2.1 g.2.2.1)
def InB(b:aa aH)(p:aa Int):Prop:=b.length=p.length/\∀j,j<b.length->b[j]!.ag<=p[j]!/\p[j]!<=b[j]!.ah
section
variable {f:aN} {v:bV}
def ahi{a b:aa Int}(ha:a.length<=1000)(hb:b.length<=1000):abu [a,b]=V (a++b,[a,b]):=by
 have w1:i64.wrap (0+(a.length:Int))=(a.length:Int):=by rw[aG];omega
 have w2:i64.wrap ((a.length:Int)+(b.length:Int))=(a.length:Int)+(b.length:Int):=aG;have c1:J ((a.length:Int)<0)=S:=gh;have c2:J ((a.length:Int)+(b.length:Int)<0)=S:=gh;have u1:i64.wrap 1=1:=rfl;have u2:i64.wrap 2=2:=rfl;have w3:i64.wrap (a.length:Int)=(a.length:Int):=aG;have r1:tN ⟨[a,b],0,[a,b],2,0⟩=V (V ⟨[a,b],(a.length:Int),[a,b],2,1⟩):=by
  unfold tN;simp[w3,u1,c1]
 have r2:tN ⟨[a,b],(a.length:Int),[a,b],2,1⟩=V (V ⟨[a,b],(a.length:Int)+(b.length:Int),[a,b],2,2⟩):=by
  unfold tN;simp[w2,c2,u2]
 have e1:Ff ⟨[a,b],0,[a,b],2,0⟩=V ⟨[a,b],(a.length:Int)+(b.length:Int),[a,b],2,2⟩:=by
  unfold Ff;rw[bM r1,bM r2];exact b9 λr=>by unfold tN;simp
 have q1:s8 ⟨[],[a,b],2,0⟩=V (V ⟨a,[a,b],2,1⟩):=by
  have:a.length<=1073741824:=by omega
  unfold s8;simp[u1,this]
 have q2:s8 ⟨a,[a,b],2,1⟩=V (V ⟨a++b,[a,b],2,2⟩):=by
  have:a.length+b.length<=1073741824:=by omega
  unfold s8;simp[u2,this]
 have e2:EE ⟨[],[a,b],2,0⟩=V ⟨a++b,[a,b],2,2⟩:=by
  unfold EE;rw[bM q1,bM q2];exact b9 λr=>by unfold s8;simp
 have agB:QE ((a.length:Int)+(b.length:Int))=V []:=by unfold QE;rw[gY]
 have l2:((([a,b]:aa (aa Int)).length:Nat):Int)=2:=rfl;unfold abu;simp only[l2,e1,ya,ep,bB,agB,e2]
def nc(vars:aa aX)(p:aa Int):Int×Int:=if vars.length≠p.length then(2,0)else if∀j,j<vars.length->vars[j]!.ag<=p[j]!/\p[j]!<=vars[j]!.ah then(0,0)else(0,3)
def SN(f:aN)(hl:f.ai.length<=1000)(kind:Int)(p:aa Int):Np f kind p=V (nc (f.ai.filter (kd kind)) p):=by
 obtain⟨b,e,hb⟩:=dc (rnd:=FP) f.ai.length (λi (b:aa aX)=>⟨kind,p,b,f.ai,(f.ai.length:Int),(i:Int)⟩) (λi b=>b=(f.ai.take i).filter (kd kind)) (λi b hi hb=>by
  have hw:=fu hi (by omega);have i1:(i:Int)<(f.ai.length:Int):=by omega
  have i2:(0:Int)<=(i:Int):=by omega
  have hbl:b.length<=1000:=by
   rw[hb];have:=yh (kd kind) (f.ai.take i);rw[zH]at this;omega
  rw[ni hi,<-hb];unfold FP;by_cases h:f.ai[i]!.bz=kind
  ·have hl2:(b++[f.ai[i]!]).length<=1073741824:=by rw[zj,yH];omega
   refine⟨b++[f.ai[i]!],?_,by rw[bE h]⟩;simp only[ze,i1,i2,cI,bC,cT,cB,h,hl2,hw]
  ·refine⟨b,?_,by rw[bO h,yy]⟩;simp only[ze,i1,i2,cI,ep,bC,bB,cT,cB,h,hw]) (λb _=>by unfold FP;simp) (b:=[]) (by simp)
 rw[zB]at hb;have e':Jv ⟨kind,p,[],f.ai,(f.ai.length:Int),0⟩=V ⟨kind,p,b,f.ai,(f.ai.length:Int),(f.ai.length:Int)⟩:=e;rw[<-hb];have hbl:b.length<=1000:=by
  rw[hb];have:=yh (kd kind) f.ai;omega
 unfold Np;simp only[e',ya,ep,bB];by_cases hn:b.length=p.length
 case neg=>
  have:¬(b.length:Int)=(p.length:Int):=by omega
  have hv:nc b p=(2,0):=bE hn;simp only[this,ep,bB,bC,hv]
 have hv:nc b p=if∀j,j<b.length->b[j]!.ag<=p[j]!/\p[j]!<=b[j]!.ah then(0,0)else(0,3):=bO (λh=>h hn)
 have hn':(b.length:Int)=(p.length:Int):=by omega
 obtain⟨i,-,e2,hI,hE⟩:=lH (rnd:=EN) b.length (λi (_:Unit)=>⟨p,b,(b.length:Int),(i:Int)⟩) (λi _=>∀j,j<i->b[j]!.ag<=p[j]!/\p[j]!<=b[j]!.ah) (λi _=>¬(b[i]!.ag<=p[i]!/\p[i]!<=b[i]!.ah)) (λi _ hi hb=>by
  have hw:=fu hi (by omega);have i1:(i:Int)<(b.length:Int):=by omega
  have i2:(0:Int)<=(i:Int):=by omega
  have i3:(i:Int)<(p.length:Int):=by omega
  unfold EN;by_cases h1:p[i]! <b[i]!.ag
  ·refine .inr ⟨?_,by omega⟩;simp only[ze,i1,i2,i3,hi,cI,bC,cT,cB,h1]
  ·by_cases h2:b[i]!.ah<p[i]!
   ·refine .inr ⟨?_,by omega⟩;simp only[ze,i1,i2,i3,hi,cI,ep,bC,bB,cT,cB,h1,h2]
   ·refine .inl ⟨(),?_,λj hj=> ?_⟩
    ·simp only[ze,i1,i2,i3,hi,cI,ep,bC,bB,cT,cB,h1,h2,hw]
    ·by_cases e:j=i
     ·subst e;omega
     ·exact hb j (by omega)) (λ_ _=>by unfold EN;simp) (b:=()) (λj hj=>by omega)
 have e2':IV ⟨p,b,(b.length:Int),0⟩=V ⟨p,b,(b.length:Int),(i:Int)⟩:=e2;rw[hn']at e2' ⊢;simp only[cI,bC,bB,e2'];rcases hE with rfl|⟨hi,hr⟩
 ·rw[hv,bE (λj hj=>hI j (by omega)),hn'];simp only[ya,ep,bB]
 ·have hv2:nc b p=(0,3):=hv.trans (bO (λh=>hr (h i (by omega))));rw[hv2];have i1:(i:Int)<(p.length:Int):=by omega
  have i2:(0:Int)<=(i:Int):=by omega
  have i3:(i:Int)<(b.length:Int):=by omega
  by_cases h1:p[i]! <b[i]!.ag
  ·simp only[ze,i1,i2,i3,hi,cI,bC,cT,cB,h1]
  ·have h2:b[i]!.ah<p[i]! :=by omega
   simp only[ze,i1,i2,i3,hi,cI,ep,bC,bB,cT,cB,h1,h2]
def abS{b:aa aH}{p:aa Int}(hl:b.length=p.length)(hb:b.length<=1000000):∃r,m52 b p=V r/\(r=O↔InB b p):=by
 obtain⟨i,-,e2,hI,hE⟩:=lH (rnd:=Lg) b.length (λi (_:Unit)=>⟨p,b,(b.length:Int),(i:Int)⟩) (λi _=>∀j,j<i->b[j]!.ag<=p[j]!/\p[j]!<=b[j]!.ah) (λi _=>¬(b[i]!.ag<=p[i]!/\p[i]!<=b[i]!.ah)) (λi _ hi hb=>by
  have hw:=fu hi (by omega);have i1:(i:Int)<(b.length:Int):=by omega
  have i2:(0:Int)<=(i:Int):=by omega
  have i3:(i:Int)<(p.length:Int):=by omega
  unfold Lg;by_cases h1:p[i]! <b[i]!.ag
  ·refine .inr ⟨?_,by omega⟩;simp only[ze,i1,i2,i3,cI,bC,cT,cB,h1]
  ·by_cases h2:b[i]!.ah<p[i]!
   ·refine .inr ⟨?_,by omega⟩;simp only[ze,i1,i2,i3,cI,ep,bC,bB,cT,cB,h1,h2]
   ·refine .inl ⟨(),?_,λj hj=> ?_⟩
    ·simp only[ze,i1,i2,i3,cI,ep,bC,bB,cT,cB,h1,h2,hw]
    ·by_cases e:j=i
     ·subst e;omega
     ·exact hb j (by omega)) (λ_ _=>by unfold Lg;simp) (b:=()) (λj hj=>by omega)
 have e2':T9 ⟨p,b,(b.length:Int),0⟩=V ⟨p,b,(b.length:Int),(i:Int)⟩:=e2;unfold m52;simp only[e2'];rcases hE with rfl|⟨hi,hr⟩
 ·refine⟨O,?_,λ_=>⟨hl,hI⟩,λ_=>rfl⟩;simp only[ya,ep,bB]
 ·refine⟨false,?_,λh=>(by cases h),λh=>dD (h.2 i hi) hr⟩;have i1:(i:Int)<(p.length:Int):=by omega
  have i2:(0:Int)<=(i:Int):=by omega
  have i3:(i:Int)<(b.length:Int):=by omega
  by_cases h1:p[i]! <b[i]!.ag
  ·simp only[ze,i1,i2,i3,cI,bC,cT,cB,h1]
  ·have h2:b[i]!.ah<p[i]! :=by omega
   simp only[ze,i1,i2,i3,cI,ep,bC,bB,cT,cB,h1,h2]
def apX(f:aN)(hl:f.ai.length<=1000):m51 f=V (((f.ai.filter (kd 1)).length:Nat):Int):=by
 obtain⟨b,e,hb⟩:=dc (rnd:=NH) f.ai.length (λi (b:Nat)=>⟨(b:Int),f.ai,(f.ai.length:Int),(i:Int)⟩) (λi b=>b=((f.ai.take i).filter (kd 1)).length/\b<=i) (λi b hi ⟨hb,hbi⟩=>by
  have hw:=fu hi (by omega);have hw2:i64.wrap ((b:Int)+1)=((b+1:Nat):Int):=fu (n:=1000000) (by omega) (by omega);have i1:(i:Int)<(f.ai.length:Int):=by omega
  have i2:(0:Int)<=(i:Int):=by omega
  rw[ni hi,zj,<-hb];unfold NH;by_cases h:f.ai[i]!.bz=1
  ·refine⟨b+1,?_,by rw[bE h];exact⟨rfl,by omega⟩⟩;simp only[ze,i1,i2,cI,bC,cT,cB,h,hw,hw2]
  ·refine⟨b,?_,by rw[bO h];exact⟨rfl,by omega⟩⟩;simp only[ze,i1,i2,cI,ep,bC,bB,cT,cB,h,hw]) (λb _=>by unfold NH;simp) (b:=0) (by simp)
 rw[zB]at hb;have e':Vg ⟨0,f.ai,(f.ai.length:Int),0⟩=V ⟨(b:Int),f.ai,(f.ai.length:Int),(f.ai.length:Int)⟩:=e;unfold m51;simp only[e',ya,ep,bB,hb.1]
def ajn{l:aa Part}(h:WF f l){p:aa Int}(h0:InB l[0]!.bP p):∃k:Nat,F7 ⟨p,0,⟨f,v,l.map (cellOf f v)⟩⟩=V ⟨p,(k:Int),⟨f,v,l.map (cellOf f v)⟩⟩/\k<l.length/\l[k]!.aq=[]/\InB l[k]!.bP p:=by
 have cin:∀{k:Nat},k<l.length->(l.map (cellOf f v))[k]!.bZ=l[k]!.bZ/\(l.map (cellOf f v))[k]!.iV=l[k]!.iV:=λhk=>by
  rw[eF _ _ _ hk];exact⟨rfl,rfl⟩
 have key:∀(d k:Nat),l.length-k<=d->k<l.length->InB l[k]!.bP p->∃k':Nat,F7 ⟨p,(k:Int),⟨f,v,l.map (cellOf f v)⟩⟩=V ⟨p,(k':Int),⟨f,v,l.map (cellOf f v)⟩⟩/\k'<l.length/\l[k']!.aq=[]/\InB l[k']!.bP p:=by
  intro d;induction d with
  |zero=>intro k h1 h2;omega
  |succ d ih=>
   intro k h1 hk hin;have k1:(k:Int)<(l.length:Int):=by omega
   have k2:(0:Int)<=(k:Int):=by omega
   rcases h.kid k hk with ⟨q1,q2,q3⟩|⟨a,b,j,q1,q2,q3,q4,q5,q6,q7,q8,q9,q10,q11,q12⟩
   ·refine⟨k,b9 λr=> ?_,hk,q1,hin⟩;unfold Dl;simp only[zx,ze,k1,k2,hk,cT,cB,(rM hk).1,q1,yB];simp
   ·have hj:=q8;have j1:(j:Int)<(p.length:Int):=by rw[<-hin.1];omega
    have j2:(0:Int)<=(j:Int):=by omega
    have j3:j<p.length:=by omega
    have z1:(0:Int)<((0+1+1:Nat):Int):=by decide
    have z2:(1:Int)<((0+1+1:Nat):Int):=by decide
    have z3:(0:Int)<=1:=by decide
    have g0:([(a:Int),(b:Int)])[0]! =(a:Int):=rfl;have g1:([(a:Int),(b:Int)])[1]! =(b:Int):=rfl;have hsub:∀(x y:Int),x<=p[j]!->p[j]!<=y->InB (l[k]!.bP.set j (iv x y)) p:=λx y hx hy=>by
     refine⟨by rw[yo];exact hin.1,λi hi=> ?_⟩;rw[yo]at hi;rw[kG _ _ _ _ hi];by_cases e:j=i
     ·subst e;rw[bE rfl,I9,Cy];exact⟨hx,hy⟩
     ·rw[bO e];exact hin.2 i hi
    have hp:=hin.2 j hj;by_cases hc:l[k]!.iV<p[j]!
    ·have r:Dl ⟨p,(k:Int),⟨f,v,l.map (cellOf f v)⟩⟩=V (V ⟨p,(b:Int),⟨f,v,l.map (cellOf f v)⟩⟩):=by
      unfold Dl;simp only[zx,ze,k1,k2,hk,cT,cB,(rM hk).1,(cin hk).1,(cin hk).2,q1,q7,yN,yB,z1,z2,z3,cI,bC,j1,j2,j3,zm,hc,g1]
     obtain⟨k',e1,e2⟩:=ih b (by omega) q5 (by rw[q12];exact hsub _ _ (by omega) hp.2);exact⟨k',by unfold F7;rw[bM r];exact e1,e2⟩
    ·have r:Dl ⟨p,(k:Int),⟨f,v,l.map (cellOf f v)⟩⟩=V (V ⟨p,(a:Int),⟨f,v,l.map (cellOf f v)⟩⟩):=by
      unfold Dl;simp only[zx,ze,k1,k2,hk,cT,cB,(rM hk).1,(cin hk).1,(cin hk).2,q1,q7,yN,yB,z1,z2,z3,cI,ep,bC,bB,j1,j2,j3,zm,hc,g0]
     obtain⟨k',e1,e2⟩:=ih a (by omega) q3 (by rw[q11];exact hsub _ _ hp.1 (by omega));exact⟨k',by unfold F7;rw[bM r];exact e1,e2⟩
 exact key l.length 0 (by omega) h.ne h0
end
end Go.Proofs.YtnfljbehcffmcaaGreat
end
noncomputable section
set_option maxRecDepth 100000
namespace Go.Proofs.YtnfljbehcffmcaaGreat
open Go Go.Iv
open Go.IntKind (i64 u64)
section
variable {f:aN} {v:bV}
def Xv(s r L:aa Int)(hL:L.length<=100)(T:Tree):∃i:Nat,UO ⟨s,r,L,(L.length:Int),0,T⟩=V ⟨s,r,L,(L.length:Int),(i:Int),T⟩/\(∀j,j<i->L[j]! =0)/\(i=L.length\/(i<L.length/\L[i]!≠0)):=by
 obtain⟨i,-,e,hI,hE⟩:=lH (rnd:=NO) L.length (λi (_:Unit)=>⟨s,r,L,(L.length:Int),(i:Int),T⟩) (λi _=>∀j,j<i->L[j]! =0) (λi _=>L[i]!≠0) (λi _ hi hb=>by
  have hw:=fu hi (by omega);have i1:(i:Int)<(L.length:Int):=by omega
  have i2:(0:Int)<=(i:Int):=by omega
  unfold NO;by_cases h:L[i]! =0
  ·refine .inl ⟨(),?_,λj hj=> ?_⟩
   ·simp only[ze,i1,i2,hi,cI,bC,bB,cT,cB,h,hw]
   ·by_cases e:j=i
    ·rw[e];exact h
    ·exact hb j (by omega)
  ·refine .inr ⟨?_,h⟩;simp only[ze,i1,i2,hi,cI,ep,bC,bB,cT,cB,h]) (λ_ _=>by unfold NO;simp) (b:=()) (λj hj=>by omega)
 exact⟨i,e,hI,hE⟩
def Gr(a b c d:Int):Int:=if a≠0 then a else if b≠0 then b else if c≠0 then c else d
def anN(c:Cx f v){l:aa Part}(h:WF f l)(hl:l.length<=8192){s r:aa Int}(hs:s.length<=1000)(hr:r.length<=1000):
  let q:=nc (f.ai.filter (kd 1)) s
  let q':=nc (f.ai.filter (kd 3)) r
  (Gr q.1 q'.1 q.2 q'.2≠0->m50 f v (gW (l.map (cellOf f v))) s r=V (0,Gr q.1 q'.1 q.2 q'.2))/\
  (Gr q.1 q'.1 q.2 q'.2=0->InB l[0]!.bP (s++r)->∃k:Nat,m50 f v (gW (l.map (cellOf f v))) s r=V ((k:Int),0)/\k<l.length/\l[k]!.aq=[]/\InB l[k]!.bP (s++r)):=by
 intro q q';have e105:=OC c h (by omega);have e1:=SN f c.hl 1 s;have e3:=SN f c.hl 3 r;obtain⟨i,ei,hI,hE⟩:=Xv s r [q.1,q'.1,q.2,q'.2] (by simp) ⟨f,v,l.map (cellOf f v)⟩;have l4:([q.1,q'.1,q.2,q'.2]).length=4:=rfl;rw[l4]at hE;have g0:([q.1,q'.1,q.2,q'.2])[0]! =q.1:=rfl;have g1:([q.1,q'.1,q.2,q'.2])[1]! =q'.1:=rfl;have g2:([q.1,q'.1,q.2,q'.2])[2]! =q.2:=rfl;have g3:([q.1,q'.1,q.2,q'.2])[3]! =q'.2:=rfl;have hfst:(i=4/\Gr q.1 q'.1 q.2 q'.2=0)\/(i<4/\([q.1,q'.1,q.2,q'.2])[i]!≠0/\Gr q.1 q'.1 q.2 q'.2=([q.1,q'.1,q.2,q'.2])[i]!):=by
  unfold Gr;rcases hE with rfl|⟨hi,hn⟩
  ·have a0:=hI 0 (by omega);have a1:=hI 1 (by omega);have a2:=hI 2 (by omega);have a3:=hI 3 (by omega)
   rw[g0]at a0;rw[g1]at a1;rw[g2]at a2;rw[g3]at a3;exact .inl ⟨rfl,by simp[a0,a1,a2,a3]⟩
  ·refine .inr ⟨hi,hn,?_⟩;rcases (by omega:i=0\/i=1\/i=2\/i=3)with rfl|rfl|rfl|rfl
   ·rw[g0]at hn ⊢;simp[hn]
   ·have a0:=hI 0 (by omega);rw[g0]at a0;rw[g1]at hn ⊢;simp[a0,hn]
   ·have a0:=hI 0 (by omega);have a1:=hI 1 (by omega);rw[g0]at a0;rw[g1]at a1;rw[g2]at hn ⊢;simp[a0,a1,hn]
   ·have a0:=hI 0 (by omega);have a1:=hI 1 (by omega);have a2:=hI 2 (by omega);rw[g0]at a0;rw[g1]at a1;rw[g2]at a2;rw[g3];simp[a0,a1,a2]
 have e1':Np f 1 s=V q:=e1;have e3':Np f 3 r=V q':=e3;refine⟨λhne=> ?_,λhz hin=> ?_⟩
 ·rcases hfst with ⟨_,hz⟩|⟨hi,hn,hf⟩
  ·exact dD hz hne
  ·rw[hf];have i1:(i:Int)<4:=by omega
   have i2:(0:Int)<=(i:Int):=by omega
   rw[l4]at ei;have z4:((4:Nat):Int)=4:=rfl;rw[z4]at ei;unfold m50;simp only[e105,cI,bC,bB,e1',e3',l4,z4,ei,i1,i2,cT,cB,ze,hi,hn,ep]
 ·rcases hfst with ⟨rfl,_⟩|⟨_,hn,hf⟩
  ·obtain⟨k,ek,k1,k2,k3⟩:=ajn (v:=v) h hin;refine⟨k,?_,k1,k2,k3⟩;rw[l4]at ei;have agR:=ahi hs hr;have i1:(k:Int)<(l.length:Int):=by omega
   have i2:(0:Int)<=(k:Int):=by omega
   have z0:¬(0:Int)<((0:Nat):Int):=by decide
   unfold m50;simp only[e105,cI,bC,bB,e1',e3',l4,ei,ya,ep,agR,ek,zx,i1,i2,k1,cT,cB,ze,(rM k1).1,k2,yB,z0]
  ·exact dD (hf.symm.trans hz) hn
def acU(c:Cx f v){s r:aa Int}(h1:(f.ai.filter (kd 1)).length=s.length)(h3:(f.ai.filter (kd 3)).length=r.length):
  InB (kX f) (s++r)↔(∀j,j<(f.ai.filter (kd 1)).length->(f.ai.filter (kd 1))[j]!.ag<=s[j]!/\s[j]!<=(f.ai.filter (kd 1))[j]!.ah)/\∀j,j<(f.ai.filter (kd 3)).length->(f.ai.filter (kd 3))[j]!.ag<=r[j]!/\r[j]!<=(f.ai.filter (kd 3))[j]!.ah:=by
 have hb:(kX f).length=s.length+r.length:=by rw[uS,zx];unfold dM;rw[zj,h1,h3]
 have hel:∀j,j<(dM f.ai).length->(kX f)[j]!.ag=(dM f.ai)[j]!.ag/\(kX f)[j]!.ah=(dM f.ai)[j]!.ah:=λj hj=>by
  rw[uS,eF _ _ _ hj];exact(aiI (Jc c.hc hj)).2
 have hl:(dM f.ai).length=s.length+r.length:=by unfold dM;rw[zj,h1,h3]
 have a1:∀j,j<s.length->(dM f.ai)[j]! =(f.ai.filter (kd 1))[j]!/\(s++r)[j]! =s[j]! :=λj hj=>by
  unfold dM;exact⟨DL _ _ _ (by omega),DL _ _ _ hj⟩
 have a3:∀j,j<r.length->(dM f.ai)[s.length+j]! =(f.ai.filter (kd 3))[j]!/\(s++r)[s.length+j]! =r[j]! :=λj hj=>by
  unfold dM;exact⟨by rw[<-h1];exact pM _ _ _ (by omega),pM _ _ _ hj⟩
 constructor
 ·rintro⟨_,h⟩;refine⟨λj hj=> ?_,λj hj=> ?_⟩
  ·have:=h j (by omega);rw[(hel j (by omega)).1,(hel j (by omega)).2,(a1 j (by omega)).1,(a1 j (by omega)).2]at this;exact this
  ·have:=h (s.length+j) (by omega);rw[(hel _ (by omega)).1,(hel _ (by omega)).2,(a3 j (by omega)).1,(a3 j (by omega)).2]at this;exact this
 ·rintro⟨k1,k3⟩;refine⟨by rw[hb,zj],λj hj=> ?_⟩;rw[(hel j (by omega)).1,(hel j (by omega)).2];by_cases e:j<s.length
  ·rw[(a1 j e).1,(a1 j e).2];exact k1 j (by omega)
  ·obtain⟨i,rfl⟩:∃i,j=s.length+i:=⟨j-s.length,by omega⟩;rw[(a3 i (by omega)).1,(a3 i (by omega)).2];exact k3 i (by omega)
def aDB(f:aN)(x:iM)(p:aa Int)(hx:∀x∈p,0<=x/\x<256):m9 f x p=V O:=by
 obtain⟨r,Xf,h46⟩:=apT f ⟨x.aU,S⟩;unfold m9;cases r with
 |false=>simp only[Xe,Xf,bC,bB]
 |true=>
  have c:=h46 rfl;by_cases hp:(20:Int)<(p.length:Int)
  ·simp only[Xe,Xf,bC,bB,hp,cI]
  by_cases hs:(20:Int)<(x.cW.length:Int)
  ·simp only[Xe,Xf,bC,bB,hp,hs,cI,ep]
  by_cases hr:(20:Int)<(x.dx.length:Int)
  ·simp only[Xe,Xf,bC,bB,hp,hs,hr,cI,ep]
  have e47:=ara c (p:=p) (by omega) hx;obtain⟨g1,g2⟩:=FY c _ p rfl;obtain⟨l,hl⟩:∃l,l=mQ f p:=⟨_,rfl⟩;rw[<-hl]at e47 g1 g2;have hll:l.length<=8192:=by omega
  have JR:=Tf (l:=x.cW) (by omega);have e51:=apX f c.hl;have hlen:(x.cW++x.dx).length<=1073741824:=by rw[zj];omega
  have h50:=anN c g1 hll (s:=x.cW) (r:=x.dx) (by omega) (by omega);simp only at h50;obtain⟨F1,hF1⟩:∃F,F=f.ai.filter (kd 1):=⟨_,rfl⟩;obtain⟨F3,hF3⟩:∃F,F=f.ai.filter (kd 3):=⟨_,rfl⟩;have hbox:l[0]!.bP.length=F1.length+F3.length:=by rw[g1.root,uS,zx,hF1,hF3];unfold dM;rw[zj]
  have hri:=acU c (s:=x.cW) (r:=x.dx);rw[<-hF1,<-hF3]at h50 hri;rw[<-hF1]at e51;have l0:(0:Int)<(l.length:Int):=by have:=g1.ne;omega
  have t0:zC 0=0:=rfl;by_cases n1:F1.length=x.cW.length
  case neg=>
   have q:nc F1 x.cW=(2,0):=bE n1;have ef:∀a b:Int,Gr 2 a 0 b=2:=λa b=>rfl;rw[q]at h50;have U7:=h50.1 (by rw[ef];decide);rw[ef]at U7;have m1:¬(x.cW.length:Int)=(F1.length:Int):=by omega
   simp only[Xe,Xf,bC,bB,hp,hs,hr,cI,ep,e47,U7,JR,hlen,cB,e51,m1]
  have m1:(x.cW.length:Int)=(F1.length:Int):=by omega
  have hs':¬(20:Int)<(F1.length:Int):=by omega
  by_cases n3:F3.length=x.dx.length
  case neg=>
   have q:nc F3 x.dx=(2,0):=bE n3;have q1:(nc F1 x.cW).1=0:=by unfold nc;rw[bO (λh=>h n1)];split<;>rfl
   have ef:∀a:Int,Gr 0 2 a 0=2:=λa=>rfl;rw[q,q1]at h50;have U7:=h50.1 (by rw[ef];decide);rw[ef]at U7;have m2:¬((x.cW++x.dx).length:Int)=(l[0]!.bP.length:Int):=by rw[zj,hbox];omega
   simp only[Xe,Xf,bC,bB,hp,hs',hr,cI,ep,e47,U7,JR,hlen,cB,e51,m1,l0,zm,cT,t0,m2]
  have m2:((x.cW++x.dx).length:Int)=(l[0]!.bP.length:Int):=by rw[zj,hbox];omega
  have hri:=hri n1 n3;rw[<-g1.root]at hri;have hid:=l5 c;have hb0:=(g1.box 0 g1.ne).len;obtain⟨z,e52,h52⟩:=abS (b:=l[0]!.bP) (p:=x.cW++x.dx) (by omega) (by omega);have q1:nc F1 x.cW=if∀j,j<F1.length->F1[j]!.ag<=x.cW[j]!/\x.cW[j]!<=F1[j]!.ah then(0,0)else(0,3):=bO (λh=>h n1)
  have q3:nc F3 x.dx=if∀j,j<F3.length->F3[j]!.ag<=x.dx[j]!/\x.dx[j]!<=F3[j]!.ah then(0,0)else(0,3):=bO (λh=>h n3)
  cases z with
  |false=>
   have hnot:¬InB l[0]!.bP (x.cW++x.dx):=λh=>by have:=h52.2 h;cases this
   have ef:Gr (nc F1 x.cW).1 (nc F3 x.dx).1 (nc F1 x.cW).2 (nc F3 x.dx).2=3:=by
    rw[q1,q3];by_cases k1:∀j,j<F1.length->F1[j]!.ag<=x.cW[j]!/\x.cW[j]!<=F1[j]!.ah
    ·by_cases k3:∀j,j<F3.length->F3[j]!.ag<=x.dx[j]!/\x.dx[j]!<=F3[j]!.ah
     ·exact dD (hri.2 ⟨k1,k3⟩) hnot
     ·rw[bE k1,bO k3];rfl
    ·rw[bO k1];split<;>rfl
   have U7:=h50.1 (by rw[ef];decide);rw[ef]at U7;simp only[Xe,Xf,bC,bB,hp,hs',hr,cI,ep,e47,U7,JR,hlen,cB,e51,m1,l0,zm,cT,t0,m2,e52]
  |true=>
   have hin:=h52.1 rfl;obtain⟨k1,k3⟩:=hri.1 hin;have ef:Gr (nc F1 x.cW).1 (nc F3 x.dx).1 (nc F1 x.cW).2 (nc F3 x.dx).2=0:=by
    rw[q1,q3,bE k1,bE k3];rfl
   obtain⟨k,U7,hk,k0,hki⟩:=h50.2 ef hin;obtain⟨y,ey,hy⟩:=abS (b:=l[k]!.bP) (p:=x.cW++x.dx) hki.1 (by have:=(g1.box k hk).len;omega);have hyt:y=O:=hy.2 hki;subst hyt;have i1:(k:Int)<(l.length:Int):=by omega
   have i2:(0:Int)<=(k:Int):=by omega
   have z0:((0:Nat):Int)=0:=rfl;simp only[Xe,Xf,bC,bB,hp,hs',hr,cI,ep,e47,U7,JR,hlen,cB,e51,m1,l0,zm,cT,t0,m2,e52,i1,i2,ze,k0,yB,z0,ey]
end
end Go.Proofs.YtnfljbehcffmcaaGreat
end
noncomputable section
namespace Go.Iv
variable [U:qO]
open Go Go.RowKit Go.Deep Go.ChangeShapes Go.WideShapes Go.Joins
def arJ{P:Program}{f:FuncId}{args:aa AV}(h:Iv.Fn P f args [] (λa s=>a= .b O/\s=[])){A:Nat->Prop}{w:World}{vs:aa Value}(hr:bN A w args vs):
  Calls P f vs.toArray w λe w'=>∃v,e= .returned v/\v= .bool O/\Below w.heap.size w w':=
 (h w A vs hr ⟨λr hr=>by simp at hr,λb hb=>by simp[bD]at hb⟩ (by simp[bD])).mono λe w' ⟨v,av,σ',h1,⟨h2,h3⟩,h4,h5⟩=>by
  subst h2;exact⟨v,h1,h5.cH,h4.kp.below⟩
abbrev tj:Nat->Prop:=λ_=>True
def kN{α:Type}{H:Type}(enc:TypeId×Value->H)(P:Program)(w:World)(t:TypeId)(c:α->aa AV)(ok:α->Prop):Prop:=
 ∀(base:Nat) (fuel:Nat) (cs:aa Value) (x:DataW H×aa MemPlace),DataW.trod enc P w base (λ_=>O) O fuel t cs=V x->∃a,ok a/\bN tj w (c a) cs
section
variable {α:Type} {H:Type} {enc:TypeId×Value->H} {P:Program} {w:World} {t e:TypeId}
def kN.int{k:IntKind}(ht:P.underlying t=V (.int k)):kN enc P w t (cN k) (λn=>(Lit.int k n).wf=O):=λbase fuel cs x h=>by
 obtain⟨n,rfl,_,hw⟩:=DataW.trod_int ht h;exact⟨n,hw,bN.cons (.lit _) bN.nil⟩
def kN.slice{ok:U.dz e->Prop}{sz:Nat}(ht:P.underlying t=V (.slice e))(hc:P.cellsOf e=sz+1)(hs:U.sz e=sz+1)(he:kN enc P w e (U.cells e) ok):
  kN enc P w t (λl:aa (U.dz e)=>[.sl e l]) (λl=>l.length<=9223372036854775807/\∀a∈l,ok a):=λbase fuel cs x h=>by
 rcases open_slice ht h with ⟨rfl,_⟩|⟨a,len,cp,m,n,D,Pl,hcs,hb,hl,hm,hmm,_,hx⟩
 ·refine⟨[],⟨by simp,by simp⟩,bN.cons ?_ bN.nil⟩;exact .sl e ([]:aa (U.dz e)) G 0 (λ_ _=>default) (by simp) (by simp) (λi hi=>by simp at hi) (λi hi=>by simp at hi) (λi j a hi=>by simp at hi)
 ·subst hcs;have hmm:m=cp:=by rw[hmm];rfl
  rw[hc]at hx;have hmx:cp<=9223372036854775807:=by unfold maxLen at hm;omega
  obtain⟨CS,hCS⟩:=choose_lt (α:=aa Value×U.dz e) (p:=λi y=>w.cells? base (a.add (i*(sz+1))) (sz+1)=V y.1/\ok y.2/\bN tj w (U.cells e y.2) y.1) (n:=len) (λi hi=>by
   obtain⟨cs',h1,h2⟩:=hx i (by omega);obtain⟨y,h3,h4⟩:=he _ _ _ _ h2;exact⟨(cs',y),h1,h3,h4⟩)
  obtain⟨l,hld⟩:∃l:aa (U.dz e),l=(zM len).map λi=>(CS i).2:=⟨_,rfl⟩;have hln:l.length=len:=by rw[hld];simp
  have hget:∀i,i<len->l[i]! =(CS i).2:=λi hi=>by
   rw[getElem!_pos l i (by omega)];simp[hld]
  refine⟨l,⟨by omega,λy hy=> ?_⟩,bN.cons ?_ bN.nil⟩
  ·rw[hld,zL]at hy;obtain⟨i,hi,rfl⟩:=hy;exact(hCS i (by simpa using hi)).2.1
  ·rw[<-hln];refine .sl e l (V a) cp (λi j=>(CS i).1[j]!) (by omega) (by omega) (λi hi=> ?_) (λi hi=> ?_) (λi j av hi hj=> ?_)
   ·rw[hln]at hi;obtain⟨h1,_,h3⟩:=hCS i hi;obtain⟨_,h5,_⟩:=World.cells?_some h1;rw[hget i hi,<-h3.1,h5,hs]
   ·rw[hln]at hi;obtain⟨h1,_,h3⟩:=hCS i hi;obtain⟨_,h5,h6⟩:=World.cells?_some h1;have hj:∀j,j<sz+1->w.cell? ((a.add (i*(sz+1))).add j)=V (CS i).1[j]! :=λj hj=>by
     rw[h6 j hj,getElem!_pos _ j (by omega),zu (by omega)]
    obtain⟨b,off,spot⟩:=a;have hs:spot=G:=by
     obtain⟨g1,_,_⟩:=hCS 0 (by omega);obtain⟨_,g5,g6⟩:=World.cells?_some g1;have:=World.cell?_spot (v:=(CS 0).1[0]!) (w:=w) (a:=((⟨b,off,spot⟩:Addr).add (0*(sz+1))).add 0) (by rw[g6 0 (by omega),getElem!_pos _ 0 (by omega),zu (by omega)]);simpa [Addr.add]using this
    subst hs;have hj':∀j,j<sz+1->w.cell? ⟨b,off+i*(sz+1)+j,G⟩=V (CS i).1[j]! :=λj hlt=>by
     have:=hj j hlt;have ap:∀o i:Nat,(⟨b,o,G⟩:Addr).add i=⟨b,o+i,G⟩:=λo i=>by
      unfold Addr.add;split
      ·rename_i h0;simp only[h0,yt]
      ·rfl
     rw[ap,ap]at this;exact this
    exact⟨b,off,rfl,World.block_lt_of_cell? w _ (hj' 0 (by omega)),trivial,by rw[hs];exact hj'⟩
   ·rw[hln]at hi;rw[hget i hi]at hj;obtain⟨h1,_,h3⟩:=hCS i hi;obtain⟨v,q1,q2⟩:=h3.get hj;show Rel tj w av (CS i).1[j]!;obtain⟨q3,q4⟩:=z7.1 q1;rw[getElem!_pos _ j q3,q4];exact q2
def kN.one{c:α->AV}{ok:α->Prop}{v:Value}{d:DataW H}{p:aa MemPlace}(he:kN enc P w t (λa=>[c a]) ok)(hv:v.cells=#[v])(h:DataW.Trod enc P w 0 (λ_=>O) O t v d p):∃a,ok a/\Rel tj w (c a) v:=by
 obtain⟨fuel,hf⟩:=h;rw[hv]at hf;obtain⟨a,h1,h2⟩:=he _ _ _ _ hf;exact⟨a,h1,h2.2 0 _ _ rfl rfl⟩
def kN.agg{c:α->aa AV}{ok:α->Prop}{v:Value}{cs:Array Value}{d:DataW H}{p:aa MemPlace}(he:kN enc P w t c ok)(hv:v= .agg cs)(h:DataW.Trod enc P w 0 (λ_=>O) O t v d p):∃a,ok a/\Rel tj w (.agg (c a)) v:=by
 obtain⟨fuel,hf⟩:=h;subst hv;obtain⟨l⟩:=cs;obtain⟨a,h1,h2⟩:=he _ _ _ _ hf;exact⟨a,h1,Rel.oN h2⟩
end
def K7.law[L:mI]{P:Program}{f:FuncId}{args:aa AV}{x:Out}(h:K7 P f args [] 0 x)(hx:x=⟨.b O,[],0⟩)(ha:args.all (Gf 2)=O):Iv.Fn P f args [] (λa s=>a= .b O/\s=[]):=by
 subst hx;have h1:=h ⟨λ_=>undef,λ_=>0⟩;have:args.map (cc.sub ⟨λ_=>undef,λ_=>0⟩)=args.map id:=zX λc hcm=>jZ 2 (zw.1 ha c hcm);rw[this,List.map_id]at h1;exact h1.mono λa s ⟨ρ',_,e1,e2⟩=>⟨by rw[e1];exact jZ 2 rfl,List.Perm.eq_nil e2⟩
def cU{A:Nat->Prop}{w:World}{xs bs:aa AV}{us:aa Value}{n:Nat}(h:bN A w xs (us.take n))(h':bN A w bs (us.drop n)):bN A w (xs++bs) us:=by
 have:=h.app h'
 rwa [xw]at this
def KC(B:Nat){α:Type}{H:Type}(enc:TypeId×Value->H)(P:Program)(w:World)(t:TypeId)(c:α->aa AV)(ok:α->Prop):Prop:=
 ∀(base:Nat) (fuel:Nat),fuel<B->∀(cs:aa Value) (x:DataW H×aa MemPlace),DataW.trod enc P w base (λ_=>O) O fuel t cs=V x->∃a,ok a/\bN tj w (c a) cs
section
variable {α:Type} {H:Type} {enc:TypeId×Value->H} {P:Program} {w:World} {t e:TypeId}
def kN.ofB{c:α->aa AV}{ok:α->Prop}(h:∀B,KC B enc P w t c ok):kN enc P w t c ok:=λbase fuel cs x hx=>h (fuel+1) base fuel (zJ _) cs x hx
def kN.str(ht:P.underlying t=V .string):kN enc P w t (λs=>[.s s]) (λ_=>True):=λbase fuel cs x h=>by
 obtain⟨b,rfl,_⟩:=DataW.trod_string ht h;exact⟨b,trivial,bN.cons (.lit _) bN.nil⟩
def kN.any{c:α->aa AV}{ok:α->Prop}(h:kN enc P w t c ok):kN enc P w t c (λ_=>True):=λbase fuel cs x hx=>by
 obtain⟨a,_,r⟩:=h base fuel cs x hx;exact⟨a,trivial,r⟩
def KC.slice{B:Nat}{ok:U.dz e->Prop}{sz:Nat}(ht:P.underlying t=V (.slice e))(hc:P.cellsOf e=sz+1)(hs:U.sz e=sz+1)(he:KC B enc P w e (U.cells e) ok):
  KC B enc P w t (λl:aa (U.dz e)=>[.sl e l]) (λl=>l.length<=9223372036854775807/\∀a∈l,ok a):=λbase fuel hB cs x h=>by
 rcases DataW.trod_slice ht h with ⟨rfl,_⟩|⟨a,len,cp,elems,rest,n,hfu,hcs,_,hb,hl,hm,hlen,hx,_,_⟩
 ·refine⟨[],⟨by simp,by simp⟩,bN.cons ?_ bN.nil⟩;exact .sl e ([]:aa (U.dz e)) G 0 (λ_ _=>default) (by simp) (by simp) (λi hi=>by simp at hi) (λi hi=>by simp at hi) (λi j a hi=>by simp at hi)
 ·subst hcs;rw[hc]at hx;have hmx:cp<=9223372036854775807:=by unfold maxLen at hm;omega
  obtain⟨CS,hCS⟩:=choose_lt (α:=aa Value×U.dz e) (p:=λi y=>w.cells? base (a.add (i*(sz+1))) (sz+1)=V y.1/\ok y.2/\bN tj w (U.cells e y.2) y.1) (n:=len) (λi hi=>by
   have hk:=hx i hi;rw[zu (show i<elems.length by omega)]at hk;obtain⟨cs',h1,h2⟩:=zq.1 hk;obtain⟨y,h3,h4⟩:=he _ n (by omega) _ _ h2;exact⟨(cs',y),h1,h3,h4⟩)
  obtain⟨l,hld⟩:∃l:aa (U.dz e),l=(zM len).map λi=>(CS i).2:=⟨_,rfl⟩;have hln:l.length=len:=by rw[hld];simp
  have hget:∀i,i<len->l[i]! =(CS i).2:=λi hi=>by
   rw[getElem!_pos l i (by omega)];simp[hld]
  refine⟨l,⟨by omega,λy hy=> ?_⟩,bN.cons ?_ bN.nil⟩
  ·rw[hld,zL]at hy;obtain⟨i,hi,rfl⟩:=hy;exact(hCS i (by simpa using hi)).2.1
  ·rw[<-hln];refine .sl e l (V a) cp (λi j=>(CS i).1[j]!) (by omega) (by omega) (λi hi=> ?_) (λi hi=> ?_) (λi j av hi hj=> ?_)
   ·rw[hln]at hi;obtain⟨h1,_,h3⟩:=hCS i hi;obtain⟨_,h5,_⟩:=World.cells?_some h1;rw[hget i hi,<-h3.1,h5,hs]
   ·rw[hln]at hi;obtain⟨h1,_,h3⟩:=hCS i hi;obtain⟨_,h5,h6⟩:=World.cells?_some h1;have hj:∀j,j<sz+1->w.cell? ((a.add (i*(sz+1))).add j)=V (CS i).1[j]! :=λj hj=>by
     rw[h6 j hj,getElem!_pos _ j (by omega),zu (by omega)]
    obtain⟨b,off,spot⟩:=a;have hs:spot=G:=by
     obtain⟨g1,_,_⟩:=hCS 0 (by omega);obtain⟨_,g5,g6⟩:=World.cells?_some g1;have:=World.cell?_spot (v:=(CS 0).1[0]!) (w:=w) (a:=((⟨b,off,spot⟩:Addr).add (0*(sz+1))).add 0) (by rw[g6 0 (by omega),getElem!_pos _ 0 (by omega),zu (by omega)]);simpa [Addr.add]using this
    subst hs;have hj':∀j,j<sz+1->w.cell? ⟨b,off+i*(sz+1)+j,G⟩=V (CS i).1[j]! :=λj hlt=>by
     have:=hj j hlt;have ap:∀o i:Nat,(⟨b,o,G⟩:Addr).add i=⟨b,o+i,G⟩:=λo i=>by
      unfold Addr.add;split
      ·rename_i h0;simp only[h0,yt]
      ·rfl
     rw[ap,ap]at this;exact this
    exact⟨b,off,rfl,World.block_lt_of_cell? w _ (hj' 0 (by omega)),trivial,by rw[hs];exact hj'⟩
   ·rw[hln]at hi;rw[hget i hi]at hj;obtain⟨h1,_,h3⟩:=hCS i hi;obtain⟨v,q1,q2⟩:=h3.get hj;show Rel tj w av (CS i).1[j]!;obtain⟨q3,q4⟩:=z7.1 q1;rw[getElem!_pos _ j q3,q4];exact q2
end
end Go.Iv
end
noncomputable section
set_option maxRecDepth 100000
namespace Go.Proofs.YtnfljbehcffmcaaGreat
open Go Go.Iv Go.RowKit Go.Deep Go.ChangeShapes Go.WideShapes Go.Joins
section
variable {H:Type} {enc:TypeId×Value->H} {w:World}
def og9:kN enc w9 w 9 (λs=>[.s s]) (λ_=>True):=kN.str underlying9
def aAB:kN enc w9 w 129 (cN .i64) (λ_=>True):=(kN.int underlying129).any
def og3:kN enc w9 w 3 (cN .i64) (λ_=>True):=(kN.int underlying3).any
def aAd:kN enc w9 w 131 (uni.cells 131) (λ_=>True):=λbase fuel cs x h=>by
 obtain⟨xs,n,hfu,rfl,hl,hlen,hf⟩:=DataW.trod_struct underlying131 h;rw[show w9.cellsOf 131=5 from by kernel_rfl]at hl;have hlen:xs.length=5:=hlen;have f0:DataW.trod enc w9 w base (λ_=>O) O n 9 ((cs.drop 0).take (w9.cellsOf 9))=xs[0]? :=hf 0 _ rfl;rw[show w9.cellsOf 9=1 from by kernel_rfl,zu (show 0<xs.length by omega)]at f0;obtain⟨a0,_,r0⟩:=og9 _ _ _ _ f0;have f1:DataW.trod enc w9 w base (λ_=>O) O n 129 ((cs.drop 1).take (w9.cellsOf 129))=xs[1]? :=hf 1 _ rfl;rw[show w9.cellsOf 129=1 from by kernel_rfl,zu (show 1<xs.length by omega)]at f1;obtain⟨a1,_,r1⟩:=aAB _ _ _ _ f1;have f2:DataW.trod enc w9 w base (λ_=>O) O n 3 ((cs.drop 2).take (w9.cellsOf 3))=xs[2]? :=hf 2 _ rfl;rw[show w9.cellsOf 3=1 from by kernel_rfl,zu (show 2<xs.length by omega)]at f2;obtain⟨a2,_,r2⟩:=og3 _ _ _ _ f2;have f3:DataW.trod enc w9 w base (λ_=>O) O n 3 ((cs.drop 3).take (w9.cellsOf 3))=xs[3]? :=hf 3 _ rfl;rw[show w9.cellsOf 3=1 from by kernel_rfl,zu (show 3<xs.length by omega)]at f3;obtain⟨a3,_,r3⟩:=og3 _ _ _ _ f3;have f4:DataW.trod enc w9 w base (λ_=>O) O n 3 ((cs.drop 4).take (w9.cellsOf 3))=xs[4]? :=hf 4 _ rfl;rw[show w9.cellsOf 3=1 from by kernel_rfl,zu (show 4<xs.length by omega)]at f4;obtain⟨a4,_,r4⟩:=og3 _ _ _ _ f4;have e:bN tj w [] (cs.drop 5):=by rw[xY (by omega)];exact bN.nil
 have s4:=cU (us:=cs.drop 4) r4 (by rw[zU];exact e);have s3:=cU (us:=cs.drop 3) r3 (by rw[zU];exact s4);have s2:=cU (us:=cs.drop 2) r2 (by rw[zU];exact s3);have s1:=cU (us:=cs.drop 1) r1 (by rw[zU];exact s2);have s0:=cU (us:=cs.drop 0) r0 (by rw[zU];exact s1);exact⟨(⟨a0,a1,a2,a3,a4⟩:aX),trivial,s0⟩
def aFD:kN enc w9 w 22 (λl:aa (uni.dz 131)=>[.sl 131 l]) (λl=>l.length<=9223372036854775807/\∀a∈l,True):=kN.slice (e:=131) (sz:=4) underlying22 (by kernel_rfl) rfl aAd
def azH:kN enc w9 w 134 (cN .i64) (λ_=>True):=(kN.int underlying134).any
def YY:∀B,KC B enc w9 w 137 (uni.cells 137) (λ_=>True)
 |0=>λbase fuel hB=>dD hB (yG _)
 |B+1=>λbase fuel hB cs x h=>by
  have ih:=YY B;obtain⟨xs,n,hfu,rfl,hl,hlen,hf⟩:=DataW.trod_struct underlying137 h;rw[show w9.cellsOf 137=3 from by kernel_rfl]at hl;have hlen:xs.length=3:=hlen;have f0:DataW.trod enc w9 w base (λ_=>O) O n 134 ((cs.drop 0).take (w9.cellsOf 134))=xs[0]? :=hf 0 _ rfl;rw[show w9.cellsOf 134=1 from by kernel_rfl,zu (show 0<xs.length by omega)]at f0;obtain⟨a0,_,r0⟩:=azH _ _ _ _ f0;have f1:DataW.trod enc w9 w base (λ_=>O) O n 3 ((cs.drop 1).take (w9.cellsOf 3))=xs[1]? :=hf 1 _ rfl;rw[show w9.cellsOf 3=1 from by kernel_rfl,zu (show 1<xs.length by omega)]at f1;obtain⟨a1,_,r1⟩:=og3 _ _ _ _ f1;have f2:DataW.trod enc w9 w base (λ_=>O) O n 135 ((cs.drop 2).take (w9.cellsOf 135))=xs[2]? :=hf 2 _ rfl;rw[show w9.cellsOf 135=1 from by kernel_rfl,zu (show 2<xs.length by omega)]at f2;obtain⟨a2,_,r2⟩:=KC.slice (t:=135) (e:=137) (sz:=2) underlying135 (by kernel_rfl) rfl ih base n (by omega) _ _ f2;have e:bN tj w [] (cs.drop 3):=by rw[xY (by omega)];exact bN.nil
  have s2:=cU (us:=cs.drop 2) r2 (by rw[zU];exact e);have s1:=cU (us:=cs.drop 1) r1 (by rw[zU];exact s2);have s0:=cU (us:=cs.drop 0) r0 (by rw[zU];exact s1);exact⟨(⟨a0,a1,a2⟩:au),trivial,s0⟩
def amD:kN enc w9 w 137 (uni.cells 137) (λ_=>True):=kN.ofB YY
def avR:kN enc w9 w 139 (uni.cells 139) (λ_=>True):=λbase fuel cs x h=>by
 obtain⟨xs,n,hfu,rfl,hl,hlen,hf⟩:=DataW.trod_struct underlying139 h;rw[show w9.cellsOf 139=6 from by kernel_rfl]at hl;have hlen:xs.length=4:=hlen;have f0:DataW.trod enc w9 w base (λ_=>O) O n 9 ((cs.drop 0).take (w9.cellsOf 9))=xs[0]? :=hf 0 _ rfl;rw[show w9.cellsOf 9=1 from by kernel_rfl,zu (show 0<xs.length by omega)]at f0;obtain⟨a0,_,r0⟩:=og9 _ _ _ _ f0;have f1:DataW.trod enc w9 w base (λ_=>O) O n 3 ((cs.drop 1).take (w9.cellsOf 3))=xs[1]? :=hf 1 _ rfl;rw[show w9.cellsOf 3=1 from by kernel_rfl,zu (show 1<xs.length by omega)]at f1;obtain⟨a1,_,r1⟩:=og3 _ _ _ _ f1;have f2:DataW.trod enc w9 w base (λ_=>O) O n 3 ((cs.drop 2).take (w9.cellsOf 3))=xs[2]? :=hf 2 _ rfl;rw[show w9.cellsOf 3=1 from by kernel_rfl,zu (show 2<xs.length by omega)]at f2;obtain⟨a2,_,r2⟩:=og3 _ _ _ _ f2;have f3:DataW.trod enc w9 w base (λ_=>O) O n 137 ((cs.drop 3).take (w9.cellsOf 137))=xs[3]? :=hf 3 _ rfl;rw[show w9.cellsOf 137=3 from by kernel_rfl,zu (show 3<xs.length by omega)]at f3;obtain⟨a3,_,r3⟩:=amD _ _ _ _ f3;have e:bN tj w [] (cs.drop 6):=by rw[xY (by omega)];exact bN.nil
 have s3:=cU (us:=cs.drop 3) r3 (by rw[zU];exact e);have s2:=cU (us:=cs.drop 2) r2 (by rw[zU];exact s3);have s1:=cU (us:=cs.drop 1) r1 (by rw[zU];exact s2);have s0:=cU (us:=cs.drop 0) r0 (by rw[zU];exact s1);exact⟨(⟨a0,a1,a2,a3⟩:dB),trivial,s0⟩
def aFO:kN enc w9 w 23 (λl:aa (uni.dz 139)=>[.sl 139 l]) (λl=>l.length<=9223372036854775807/\∀a∈l,True):=kN.slice (e:=139) (sz:=5) underlying23 (by kernel_rfl) rfl avR
def azA:kN enc w9 w 164 (cN .i64) (λ_=>True):=(kN.int underlying164).any
def acJ:kN enc w9 w 27 (λl:aa (uni.dz 3)=>[.sl 3 l]) (λl=>l.length<=9223372036854775807/\∀a∈l,True):=kN.slice (e:=3) (sz:=0) underlying27 (by kernel_rfl) rfl og3
def Yk:∀B,KC B enc w9 w 166 (uni.cells 166) (λ_=>True)
 |0=>λbase fuel hB=>dD hB (yG _)
 |B+1=>λbase fuel hB cs x h=>by
  have ih:=Yk B;obtain⟨xs,n,hfu,rfl,hl,hlen,hf⟩:=DataW.trod_struct underlying166 h;rw[show w9.cellsOf 166=10 from by kernel_rfl]at hl;have hlen:xs.length=8:=hlen;have f0:DataW.trod enc w9 w base (λ_=>O) O n 164 ((cs.drop 0).take (w9.cellsOf 164))=xs[0]? :=hf 0 _ rfl;rw[show w9.cellsOf 164=1 from by kernel_rfl,zu (show 0<xs.length by omega)]at f0;obtain⟨a0,_,r0⟩:=azA _ _ _ _ f0;have f1:DataW.trod enc w9 w base (λ_=>O) O n 3 ((cs.drop 1).take (w9.cellsOf 3))=xs[1]? :=hf 1 _ rfl;rw[show w9.cellsOf 3=1 from by kernel_rfl,zu (show 1<xs.length by omega)]at f1;obtain⟨a1,_,r1⟩:=og3 _ _ _ _ f1;have f2:DataW.trod enc w9 w base (λ_=>O) O n 3 ((cs.drop 2).take (w9.cellsOf 3))=xs[2]? :=hf 2 _ rfl;rw[show w9.cellsOf 3=1 from by kernel_rfl,zu (show 2<xs.length by omega)]at f2;obtain⟨a2,_,r2⟩:=og3 _ _ _ _ f2;have f3:DataW.trod enc w9 w base (λ_=>O) O n 3 ((cs.drop 3).take (w9.cellsOf 3))=xs[3]? :=hf 3 _ rfl;rw[show w9.cellsOf 3=1 from by kernel_rfl,zu (show 3<xs.length by omega)]at f3;obtain⟨a3,_,r3⟩:=og3 _ _ _ _ f3;have f4:DataW.trod enc w9 w base (λ_=>O) O n 137 ((cs.drop 4).take (w9.cellsOf 137))=xs[4]? :=hf 4 _ rfl;rw[show w9.cellsOf 137=3 from by kernel_rfl,zu (show 4<xs.length by omega)]at f4;obtain⟨a4,_,r4⟩:=amD _ _ _ _ f4;have f5:DataW.trod enc w9 w base (λ_=>O) O n 24 ((cs.drop 7).take (w9.cellsOf 24))=xs[5]? :=hf 5 _ rfl;rw[show w9.cellsOf 24=1 from by kernel_rfl,zu (show 5<xs.length by omega)]at f5;obtain⟨a5,_,r5⟩:=KC.slice (t:=24) (e:=166) (sz:=9) underlying24 (by kernel_rfl) rfl ih base n (by omega) _ _ f5;have f6:DataW.trod enc w9 w base (λ_=>O) O n 24 ((cs.drop 8).take (w9.cellsOf 24))=xs[6]? :=hf 6 _ rfl;rw[show w9.cellsOf 24=1 from by kernel_rfl,zu (show 6<xs.length by omega)]at f6;obtain⟨a6,_,r6⟩:=KC.slice (t:=24) (e:=166) (sz:=9) underlying24 (by kernel_rfl) rfl ih base n (by omega) _ _ f6;have f7:DataW.trod enc w9 w base (λ_=>O) O n 27 ((cs.drop 9).take (w9.cellsOf 27))=xs[7]? :=hf 7 _ rfl;rw[show w9.cellsOf 27=1 from by kernel_rfl,zu (show 7<xs.length by omega)]at f7;obtain⟨a7,_,r7⟩:=acJ _ _ _ _ f7;have e:bN tj w [] (cs.drop 10):=by rw[xY (by omega)];exact bN.nil
  have s7:=cU (us:=cs.drop 9) r7 (by rw[zU];exact e);have s6:=cU (us:=cs.drop 8) r6 (by rw[zU];exact s7);have s5:=cU (us:=cs.drop 7) r5 (by rw[zU];exact s6);have s4:=cU (us:=cs.drop 4) r4 (by rw[zU];exact s5);have s3:=cU (us:=cs.drop 3) r3 (by rw[zU];exact s4);have s2:=cU (us:=cs.drop 2) r2 (by rw[zU];exact s3);have s1:=cU (us:=cs.drop 1) r1 (by rw[zU];exact s2);have s0:=cU (us:=cs.drop 0) r0 (by rw[zU];exact s1);exact⟨(⟨a0,a1,a2,a3,a4,a5,a6,a7⟩:ay),trivial,s0⟩
def azv:kN enc w9 w 166 (uni.cells 166) (λ_=>True):=kN.ofB Yk
def aEl:kN enc w9 w 24 (λl:aa (uni.dz 166)=>[.sl 166 l]) (λl=>l.length<=9223372036854775807/\∀a∈l,True):=kN.slice (e:=166) (sz:=9) underlying24 (by kernel_rfl) rfl azv
def aDA:kN enc w9 w 26 (uni.cells 26) (λ_=>True):=λbase fuel cs x h=>by
 obtain⟨xs,n,hfu,rfl,hl,hlen,hf⟩:=DataW.trod_struct underlying26 h;rw[show w9.cellsOf 26=3 from by kernel_rfl]at hl;have hlen:xs.length=3:=hlen;have f0:DataW.trod enc w9 w base (λ_=>O) O n 22 ((cs.drop 0).take (w9.cellsOf 22))=xs[0]? :=hf 0 _ rfl;rw[show w9.cellsOf 22=1 from by kernel_rfl,zu (show 0<xs.length by omega)]at f0;obtain⟨a0,_,r0⟩:=aFD _ _ _ _ f0;have f1:DataW.trod enc w9 w base (λ_=>O) O n 23 ((cs.drop 1).take (w9.cellsOf 23))=xs[1]? :=hf 1 _ rfl;rw[show w9.cellsOf 23=1 from by kernel_rfl,zu (show 1<xs.length by omega)]at f1;obtain⟨a1,_,r1⟩:=aFO _ _ _ _ f1;have f2:DataW.trod enc w9 w base (λ_=>O) O n 24 ((cs.drop 2).take (w9.cellsOf 24))=xs[2]? :=hf 2 _ rfl;rw[show w9.cellsOf 24=1 from by kernel_rfl,zu (show 2<xs.length by omega)]at f2;obtain⟨a2,_,r2⟩:=aEl _ _ _ _ f2;have e:bN tj w [] (cs.drop 3):=by rw[xY (by omega)];exact bN.nil
 have s2:=cU (us:=cs.drop 2) r2 (by rw[zU];exact e);have s1:=cU (us:=cs.drop 1) r1 (by rw[zU];exact s2);have s0:=cU (us:=cs.drop 0) r0 (by rw[zU];exact s1);exact⟨(⟨a0,a1,a2⟩:aN),trivial,s0⟩
def aE9:kN enc w9 w 52 (uni.cells 52) (λ_=>True):=λbase fuel cs x h=>by
 obtain⟨xs,n,hfu,rfl,hl,hlen,hf⟩:=DataW.trod_struct underlying52 h;rw[show w9.cellsOf 52=3 from by kernel_rfl]at hl;have hlen:xs.length=3:=hlen;have f0:DataW.trod enc w9 w base (λ_=>O) O n 27 ((cs.drop 0).take (w9.cellsOf 27))=xs[0]? :=hf 0 _ rfl;rw[show w9.cellsOf 27=1 from by kernel_rfl,zu (show 0<xs.length by omega)]at f0;obtain⟨a0,_,r0⟩:=acJ _ _ _ _ f0;have f1:DataW.trod enc w9 w base (λ_=>O) O n 27 ((cs.drop 1).take (w9.cellsOf 27))=xs[1]? :=hf 1 _ rfl;rw[show w9.cellsOf 27=1 from by kernel_rfl,zu (show 1<xs.length by omega)]at f1;obtain⟨a1,_,r1⟩:=acJ _ _ _ _ f1;have f2:DataW.trod enc w9 w base (λ_=>O) O n 27 ((cs.drop 2).take (w9.cellsOf 27))=xs[2]? :=hf 2 _ rfl;rw[show w9.cellsOf 27=1 from by kernel_rfl,zu (show 2<xs.length by omega)]at f2;obtain⟨a2,_,r2⟩:=acJ _ _ _ _ f2;have e:bN tj w [] (cs.drop 3):=by rw[xY (by omega)];exact bN.nil
 have s2:=cU (us:=cs.drop 2) r2 (by rw[zU];exact e);have s1:=cU (us:=cs.drop 1) r1 (by rw[zU];exact s2);have s0:=cU (us:=cs.drop 0) r0 (by rw[zU];exact s1);exact⟨(⟨a0,a1,a2⟩:iM),trivial,s0⟩
end
end Go.Proofs.YtnfljbehcffmcaaGreat
end
noncomputable section
set_option maxRecDepth 100000
namespace Go.Proofs.YtnfljbehcffmcaaGreat
open Go Go.Iv
open Go.IntKind (i64 u64)
def aA7:gC w9 9 0 (d9.pat O)=⟨.b O,[],0⟩:=by kernel_rfl
def apR{x:Int}(h:(Lit.int .u8 x).wf=O):0<=x/\x<256:=by
 unfold Lit.wf at h;rw[zi,decide_eq_true_eq,decide_eq_true_eq]at h;have h1:IntKind.u8.min=0:=by decide
 have h2:IntKind.u8.max=255:=by decide
 rw[h1,h2]at h;omega
def ayf(f:aN)(x:iM)(p:aa Int)(hx:p.length<=9223372036854775807/\∀x∈p,(Lit.int .u8 x).wf=O):Iv.Fn w9 9 [.agg (uni.cells 26 f), .agg (uni.cells 52 x), .sl 5 p] [] (λa s=>a= .b O/\s=[]):=(h9 (f,x,p,()) O (aDB f x p λx h=>apR (hx.2 x h))).law aA7 (by kernel_rfl)
section
variable {H:Type} {enc:TypeId×Value->H} {w:World}
def og5:kN enc w9 w 5 (cN .u8) (λn=>(Lit.int .u8 n).wf=O):=kN.int underlying5
def aDm:kN enc w9 w 79 (λl:aa (uni.dz 5)=>[.sl 5 l]) (λl=>l.length<=9223372036854775807/\∀a∈l,(Lit.int .u8 a).wf=O):=kN.slice (e:=5) (sz:=0) underlying79 (by kernel_rfl) rfl og5
end
end Go.Proofs.YtnfljbehcffmcaaGreat
end
