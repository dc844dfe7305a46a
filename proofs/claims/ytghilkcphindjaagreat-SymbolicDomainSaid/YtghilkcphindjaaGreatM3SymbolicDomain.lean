/- Merged: Ixa, Ix1, Ix2, Ua, Ix3, Ix4, Us, Pl, Zt, Yb0, Iz, Gs, Zu, Sz1, Sz2, Sz3. -/
import Derived.Test.YtghilkcphindjaaGreatM2SymbolicDomain
import Derived.Test.YtghilkcphindjaaGreatProg
import Derived.Shelf.SlSortCmp.KitK
import Derived.Sort.WalkB12
import Derived.Deep.LoopGhost
import Derived.Lib.SliceRun
import Derived.Shelf.SlSortCmp.NoneTotal
open Nat renaming beq -> zh, le_refl -> zA, blt -> zD, le_trans -> zY, lt_succ_self -> z7, ble -> z8, zero_add -> ya, le_succ -> yd, zero_le -> yy, mul_one -> yF, pow_succ -> yG, beq_refl -> yH, eq_of_beq_eq_true -> yI, pow_pos -> yM, blt_eq -> y9, sub_self -> xy, mod_eq_of_lt -> wm, add_sub_cancel -> wA
open Int renaming toNat_natCast -> zi, le_refl -> zL
open Bool renaming and_eq_true -> zj, or_eq_true -> yL, false_eq_true -> xg, true -> O, false -> V
open Option renaming map_eq_some_iff -> zk, bind_eq_some_iff -> zn, some -> zG, map_some -> zX, isSome_none -> ye, getD_some -> yl, isSome_some -> yA, some -> Q, none -> J
open List renaming getElem?_eq_getElem -> zm, mem_cons_self -> zq, mem_cons -> zu, all_eq_true -> zx, mem_map -> zy, mem_singleton -> zC, length_append -> zF, mem_cons_of_mem -> zH, length_map -> zI, map_append -> zK, length_take -> zM, getElem?_map -> zN, map_cons -> zO, getElem?_eq_some_iff -> zQ, map_congr_left -> zR, mem_filter -> zS, mem_append -> zV, mem_append_left -> zZ, getElem!_cons_zero -> yb, length_drop -> yc, map_map -> yg, mem_append_right -> yh, filter_append -> yj, length_cons -> yo, idxOf_lt_length_of_mem -> yt, nodup_append -> yx, length -> yz, getElem_mem -> yJ, append_assoc -> yT, map_nil -> yU, append_nil -> yW, nodup_nil -> yY, length_eq_zero_iff -> y8, filterMap_cons -> xd, not_mem_nil -> xe, getElem?_eq_none -> xw, eq_nil_of_length_eq_zero -> xx, length_nil -> xC, flatMap_cons -> xH, map_id -> xK, all_cons -> xL, filter_cons -> xN, getElem?_append_right -> xO, idxOf_append -> xQ, getElem?_take_of_lt -> xR, nodup_cons -> xT, getElem_take -> xW, getElem?_append_left -> xY, getD_eq_getElem?_getD -> x8, getElem_map -> x9, nodup_iff_pairwise_ne -> we, find?_cons -> wg, mem_of_mem_drop -> wo, pairwise_cons -> wu, filter_sublist -> wB, length_singleton -> wN, idxOf_cons_self -> wO, getElem?_take_eq_none -> wP
open Array renaming length_toList -> yf, getElem?_eq_some_iff -> ym, getElem?_toList -> xb, getElem?_modify -> xz
open Decidable renaming decide -> Z
open Go.Proofs.Tryz renaming prog -> wR
open Go.Proofs.Tryz
set_option linter.unusedSectionVars false
set_option linter.unusedVariables false
set_option linter.unusedSimpArgs false
set_option linter.defProp false
noncomputable section
namespace Go.Iv
variable [U:tQ] [L:sG]
open Go Go.RowKit
def pK(d:AV):∀(m:Nat) (T:ET) (k s:Nat),k<2^m-1->cu (om d m T k) s=if k=s then Q d else cu T s
 |0,T,k,s,h=>by simp at h
 |m+1,T,k,s,h=>by
  rw[M7,Kg T s];by_cases hk:k=0
  ·rw[bS hk,kV];by_cases hs:s=0
   ·simp_all
   ·have h0:¬(0=s):=λe=>hs e.symm;simp_all
  ·rw[bT hk];by_cases hk2:(k-1)%2=0
   ·rw[bS hk2,kV];by_cases hs:s=0
    ·rw[bS hs,bS hs,bT (by omega)]
    ·rw[bT hs,bT hs];by_cases hs2:(s-1)%2=0
     ·rw[bS hs2,bS hs2,pK d m T.l _ _ (by omega)];by_cases hks:k=s
      ·rw[bS hks,bS (by omega)]
      ·rw[bT hks,bT (by omega)]
     ·rw[bT hs2,bT hs2,bT (λe=>hs2 (by rw[<-e];exact hk2))]
   ·rw[bT hk2,kV];by_cases hs:s=0
    ·grind
    ·rw[bT hs,bT hs];by_cases hs2:(s-1)%2=0
     ·rw[bS hs2,bS hs2,bT (λe=>hk2 (by rw[e];exact hs2))]
     ·rw[bT hs2,bT hs2,pK d m T.r _ _ (by omega)];by_cases hks:k=s
      ·rw[bS hks,bS (by omega)]
      ·rw[bT hks,bT (by omega)]
def rS{t s:Nat}{d:AV}{T:ET}(h:t<4095):cu (jE t d T) s=if t=s then Q d else cu T s:=pK d 12 T t s h
def aZ(F:aI)(f:FuncId):Prop:=∀args R nx d R' nx',F (AV×aM×Nat) f args R nx (λd R nx=>Q (d,R,nx))=Q (d,R',nx')->R'=R
def IK(fs:aa Nat):Op->Bool
 | .move _=>O
 | .assign _=>O
 | .pick c _ _=>match c with
  | .tmp t=>zD t 4095
  |_=>O
 | .binOp _ _ _ _ _=>O
 | .unOp _ _ _=>O
 | .fieldAddr _ _ _=>O
 | .indexAddr _ _ _=>O
 | .index _ _ _=>O
 | .load _ _=>O
 | .nilCheck _=>O
 | .convert _ _ _=>O
 | .extract _ _=>O
 | .call c=>match c.callee with
  | .value (.func f)=>cC f fs&& !L.fz f
  | .builtin .len=>O
  | .builtin .max=>O
  | .builtin .min=>O
  |_=>V
 |_=>V
def DF:af Nat->Bool
 |some t=>zD t 4095
 |none=>O
section
variable {P:Program} {F:aI} {n:Nat} {fs:aa Nat}
def VQ{E:ET}{o:Op}(h:IK fs o=O):gr E o=[]:=by
 cases o<;>first|rfl|(cases h;done)|skip
 case call c=>
  unfold IK at h;unfold gr;grind
def lP{g:(K:AV->af ei)->af ei}{g0:af AV}{e:ei}(hg:g (λd=>Q (.val d))=g0.bind λd=>Q (.val d))(h:g (cV Q)=Q e):∃d,e= .val d:=by
 have h:g (λd=>Q (.val d))=Q e:=h;rw[hg]at h;obtain⟨d,_,h2⟩:=zn.1 h;cases h2;simp
def Ra(hN:dH F)(hp:∀f∈fs,aZ F f){o:Op}{E:ET}{rd:Nat->af IR}{R:aM}{nx:Nat}{e:ei}(ho:IK fs o=O)(h:lU o P F (EH E) rd R nx Q=Q e):∃d nx',e= .all d R nx'\/e= .val d:=by
 have fin:(∃d,e= .val d)->∃d nx',e=ei.all d R nx'\/e= .val d:=λ⟨d,h⟩=>⟨d,0, .inr h⟩;have fb:∀{x:af AV},x.bind (cV Q)=Q e->∃d,e= .val d:=λ{x} h=>by
  obtain⟨d,_,h2⟩:=zn.1 h;cases h2;simp
 cases o<;>first|(cases ho;done)|exact fin (fb h)|skip
 case pick c a b=>
  have h:qG c a b P F (EH E) rd R nx Q=Q e:=h;unfold qG at h;split at h
  ·exact fin (fb h)
  ·exact fin (fb h)
  ·cases h
 case binOp b T x y t=>exact fin (lP (Jy (K:=Q) (λd=>Q (ei.val d))).symm h)
 case unOp b T x=>exact fin (lP (Pb (K:=Q) (λd=>Q (ei.val d))).symm h)
 case fieldAddr T x i=>exact fin (lP (Jd (K:=Q) (λd=>Q (ei.val d))).symm h)
 case indexAddr T x y=>exact fin (lP (Ib (K:=Q) (λd=>Q (ei.val d))).symm h)
 case index T x y=>exact fin (lP (Gb (K:=Q) (λd=>Q (ei.val d))).symm h)
 case load T x=>exact fin (lP (Of (K:=Q) (λd=>Q (ei.val d))).symm h)
 case nilCheck x=>exact fin (lP (IS (K:=Q) (λd=>Q (ei.val d))).symm h)
 case convert T T' x=>exact fin (lP (Jc (K:=Q) (λd=>Q (ei.val d))).symm h)
 case extract x i=>exact fin (lP (I7 (K:=Q) (λd=>Q (ei.val d))).symm h)
 case call c=>
  have h:Cf c P F (EH E) rd R nx Q=Q e:=h;unfold Cf at h;unfold IK at ho;dsimp only at ho;split at ho
  ·rename_i f hf;rw[hf]at h;rw[zj]at ho;obtain⟨xs,_,h2⟩:=zn.1 h;have h3:=hN (AV×aM×Nat) ei f (xs++[]) R nx (λd R nx=>Q (d,R,nx)) (λx=>Q (.all x.1 x.2.1 x.2.2));have h3':(F (AV×aM×Nat) f (xs++[]) R nx (λd R nx=>Q (d,R,nx))).bind (λx=>Q (.all x.1 x.2.1 x.2.2))=Q e:=h3.trans h2;obtain⟨⟨d,R',nx'⟩,h4,h5⟩:=zn.1 h3';have h6:=hp f (di.1 ho.1) _ _ _ _ _ _ h4;subst h6;cases h5;exact⟨d,nx', .inl rfl⟩
  ·rename_i hc;rw[hc]at h;unfold vo at h;dsimp only at h;split at h
   ·exact fin (lP (GN (K:=Q) (λd=>Q (ei.val d))).symm h)
   ·cases h
  ·rename_i hc;rw[hc]at h;have h:vo .max c.args c.argTypes P (EH E) rd R nx Q=Q e:=h;unfold vo at h;dsimp only at h;split at h
   ·exact fin (lP (uW (K:=Q) (λd=>Q (ei.val d))).symm h)
   ·cases h
  ·rename_i hc;rw[hc]at h;have h:vo .min c.args c.argTypes P (EH E) rd R nx Q=Q e:=h;unfold vo at h;dsimp only at h;split at h
   ·exact fin (lP (uW (K:=Q) (λd=>Q (ei.val d))).symm h)
   ·cases h
  ·cases ho
def Xb(l:aa Oper)(s s0:St):Prop:=s0.R=s.R/\∀u d,(∀o∈l,o.dst≠Q u)->cu s.E u=Q d->cu s0.E u=Q d
def kC{s:St}{t:Nat}{b:Bool}(ht:t<4095)(h:cu s.E t=Q (.lit (.bool b))){u:Nat}{d:AV}(hu:cu s.E u=Q d):cu (s.fh t b).E u=Q d:=by
 show cu (jE t (.b b) s.E) u=_;rw[rS ht];split
 ·rename_i e;subst e;rw[h]at hu;exact hu
 ·exact hu
def Bj(hN:dH F)(hp:∀f∈fs,aZ F f){ops:Array Oper}(hops:∀o∈ops.toList,DF o.dst=O):∀(l:aa Oper) {s s0:St},(∀o∈l,IK fs o.op=O/\DF o.dst=O)->eD P F n ops l s Q=Q s0->Xb l s s0
 |[],s,s0,_,h=>by cases h;exact⟨rfl,λu d _ hu=>hu⟩
 |o::l,s,s0,hl,h=>by
  have ho:=hl o zq;have hl':=λo' h'=>hl o' (zH _ h');change Ht P F n ops o (eD P F n ops l) s Q=Q s0 at h;unfold Ht at h;split at h
  case h_2=>cases h
  have putG:∀{s2:St} {d:AV} {nx':Nat},eD P F n ops l ⟨mo o.dst d s2.E,s2.R,nx'⟩ Q=Q s0->s2.R=s.R->(∀u d,cu s.E u=Q d->cu s2.E u=Q d)->Xb (o::l) s s0:=λ{s2 d nx'} h1 h2 h3=>by
   obtain⟨q1,q2⟩:=Bj hN hp hops l hl' h1;refine⟨q1.trans h2,λu d' hu hd=>q2 u d' (λo' h'=>hu o' (zH _ h')) ?_⟩;show cu (mo o.dst d s2.E) u=Q d';have hne:=hu o zq;have hod:=ho.2;unfold mo;split
   ·simp_all
   ·rename_i t ht;rw[ht]at hod hne;rw[rS (by simpa [DF]using hod),bT (λe=>hne (by rw[e]))];simp_all
  have yes:∀s1:St,awh P F o (eD P F n ops l) Q s1=Q s0->s1.R=s.R->(∀u d,cu s.E u=Q d->cu s1.E u=Q d)->Xb (o::l) s s0:=λs1 h1 h2 h3=>by
   obtain⟨E1,R1,nx1⟩:=s1;have h1:opF o.op P F o.dst E1 R1 nx1 (eD P F n ops l) Q=Q s0:=h1;have e1:=EL P F o ⟨E1,R1,nx1⟩ (eD (α:=St) P F n ops l) Q;rw[e1]at h1;have go:∀s2:St,rDo P F o (eD P F n ops l) Q s2=Q s0->s2.R=s.R->(∀u d,cu s.E u=Q d->cu s2.E u=Q d)->Xb (o::l) s s0:=λs2 g1 g2 g3=>by
    unfold rDo at g1;rw[VQ ho.1]at g1;obtain⟨E2,R2,nx2⟩:=s2;have g4:(lU o.op P F (EH E2) (fk R2) R2 nx2 Q).bind (HD o.dst E2 R2 nx2 (eD P F n ops l) Q)=Q s0:=(rT _ hN ..).trans g1;obtain⟨e,g5,g6⟩:=zn.1 g4;obtain⟨d,nx',he⟩:=Ra hN hp ho.1 g5;rcases he with he|he
    ·subst he;exact putG (s2:=⟨E2,R2,nx2⟩) g6 g2 g3
    ·subst he;exact putG (s2:=⟨E2,R2,nx2⟩) g6 g2 g3
   unfold tJ at h1;split at h1
   ·rename_i t a b hop;have ht:t<4095:=by
     have:=ho.1;rw[hop]at this;simpa [IK]using this
    split at h1
    ·rename_i b hb;split at h1
     ·exact go _ h1 h2 λu d hu=>kC (s:=⟨E1,R1,nx1⟩) ht hb (h3 u d hu)
     ·exact go _ h1 h2 λu d hu=>kC (s:=⟨E1,R1,nx1⟩) ht hb (h3 u d hu)
    ·cases h1
   ·exact go _ h1 h2 h3
  have no:∀s1:St,rNo o.dst (eD P F n ops l) Q s1=Q s0->s1.R=s.R->(∀u d,cu s.E u=Q d->cu s1.E u=Q d)->Xb (o::l) s s0:=λs1 h1 h2 h3=>by
   have:rNo o.dst (eD P F n ops l) Q s1=eD P F n ops l ⟨mo o.dst (.lit undef) s1.E,s1.R,s1.nx⟩ Q:=by
    cases o.dst<;>rfl
   rw[this]at h1;exact putG (s2:=s1) h1 h2 h3
  unfold gate at h;split at h
  ·exact yes s h rfl λ_ _ h=>h
  ·rename_i j want hg;split at h
   ·cases h
   ·rename_i t hj;have ht:t<4095:=by
     obtain⟨o',ho',hd'⟩:=zn.1 hj;have hm:o'∈ops.toList:=Array.mem_toList_iff.2 (Array.mem_of_getElem? ho');have:=hops o' hm;rw[hd']at this;simpa [DF]using this
    split at h
    ·rename_i b hb;split at h
     ·split at h
      ·exact yes _ h rfl λu d hu=>kC ht hb hu
      ·exact no _ h rfl λu d hu=>kC ht hb hu
     ·split at h
      ·exact no _ h rfl λu d hu=>kC ht hb hu
      ·exact yes _ h rfl λu d hu=>kC ht hb hu
    ·exact no _ h rfl λ_ _ h=>h
    ·cases h
def au1(fs:aa Nat)(t:Nat)(E:ET)(ops:aa Oper):Bool:=zD t 4095&&ops.all λo=>IK fs o.op&&DF o.dst&&match o.dst with
 |some u=>zh u t||match cu E u with
  |none=>O
  |some _=>V
 |none=>O
def rbK(t:Nat)(s:St):af Bool:=match cu s.E t with
 |some (.lit (.bool b))=>Q b
 |_=>J
def KR{α:Type}(P:Program)(F:aI)(n:Nat)(fs:aa Nat)(t:Nat)(ops:Array Oper)(s:St)(k:fA α):af α:=match au1 fs t s.E ops.toList with
 |true=>match eD (α:=Bool) P F n ops ops.toList s (rbK t)with
  |some b=>k .normal ⟨jE t (.b b) s.E,s.R,s.nx⟩
  |none=>J
 |false=>J
def Env.pR{T:ET}:∀(E:Env) (u:Nat) (d:AV),Env.get (E.filter λp=>@Z (cu T p.1=Q p.2) (Classical.propDecidable _)) u=Q d->cu T u=Q d
 |[],_,_,h=>by cases h
 |(k,v)::E,u,d,h=>by
  by_cases hk:cu T k=Q v
  ·rw[xN,bS (by simp[hk])]at h;by_cases hku:k=u
   ·subst hku;rw[Env.dP]at h;simp_all
   ·rw[Env.cW _ _ hku]at h;exact Env.pR E u d h
  ·rw[xN,bT (by simp[hk])]at h;exact Env.pR E u d h
def Env.ni{T:ET}:∀(E:Env) (u:Nat) (d:AV),cu T u=Q d->E.get u=Q d->Env.get (E.filter λp=>@Z (cu T p.1=Q p.2) (Classical.propDecidable _)) u=Q d
 |[],_,_,_,h=>by cases h
 |(k,v)::E,u,d,ht,h=>by
  by_cases hku:k=u
  ·subst hku;rw[Env.dP]at h;cases h;rw[xN,bS (by simp[ht])];exact Env.dP _ _ _
  ·rw[Env.cW _ _ hku]at h;rw[xN];split
   ·rw[Env.cW _ _ hku];exact Env.ni E u d ht h
   ·exact Env.ni E u d ht h
def PK{α:Type}{C:Cg}(hF:gu P F)(hN:dH F)(hp:∀f∈fs,aZ F f)(id t:Nat)(ops:Array Oper):Qk (α:=α) P C n (.region id ops V) (KR P F n fs t ops):=λr s k a w h hm=>by
 unfold KR at h;split at h
 case h_2=>cases h
 rename_i hrb;split at h
 case h_2=>cases h
 rename_i b hb;unfold au1 at hrb;rw[zj,y9]at hrb;obtain⟨ht,hall⟩:=hrb;have hall:∀o∈ops.toList,(IK fs o.op=O/\DF o.dst=O)/\∀u,o.dst=Q u->u=t\/cu s.E u=J:=λo ho=>by
  have h1:=zx.1 hall o ho;rw[zj,zj]at h1;refine⟨h1.1,λu hu=> ?_⟩;have h2:=h1.2;rw[hu]at h2;dsimp only at h2;rw[yL]at h2;rcases h2 with h2|h2
  ·simp_all
  ·right;split at h2
   ·assumption
   ·cases h2
 have hnat:=nU hN (P:=P) (n:=n) (ops:=ops) (rbK t) ops.toList s Q;have hb':(eD P F n ops ops.toList s Q).bind (rbK t)=Q b:=hnat.trans hb;obtain⟨s0,h1,h2⟩:=zn.1 hb';obtain⟨q1,q2⟩:=Bj hN hp (λo ho=>(hall o ho).1.2) ops.toList (λo ho=>(hall o ho).1) h1;have hend:Ends P C n (.region id ops V) (λe s'=>match e with
  | .normal=>Q s'
  |_=>J) s0 a w:=by
  refine wp_mono (wp_region_lit (vL hF _ h1 hm)) λe a' w' ⟨he,_,s',h3,h4⟩=> ?_;subst he;exact⟨s',h3,h4⟩
 refine wp_mono hend λe a' w' ⟨s',h3,h4⟩=> ?_;cases e<;>first|(cases h3;done)|skip
 cases h3;refine⟨_,h,?_⟩;have hbt:cu s0.E t=Q (.b b):=by
  unfold rbK at h2;split at h2
  ·simp_all
  ·cases h2
 obtain⟨E,hh,hE,hR,ρ,hag,hsim⟩:=hm;obtain⟨E0,hh0,hE0,hR0,ρ0,hag0,hsim0⟩:=h4
 let E1:Env:=(t, .b b)::E.filter λp=>@Z (cu s.E p.1=Q p.2) (Classical.propDecidable _)
 have hkey:∀u d,E1.get u=Q d->cu s0.E u=Q d:=λu d hu=>by
  by_cases htu:t=u
  ·subst htu;rw[Env.dP]at hu;cases hu;exact hbt
  ·rw[Env.cW _ _ htu]at hu;have h5:=Env.pR E u d hu;refine q2 u d (λo ho hd=> ?_) h5;rcases (hall o ho).2 u hd with h6|h6
   ·exact htu h6.symm
   ·simp_all
 refine⟨E1,λu d hu=> ?_,Env.qW (λp hp=>hE p (zS.1 hp).1) (.lit _),hR,ρ0,⟨hag0.1,hag.2⟩,?_⟩
 ·have hu:cu (jE t (.b b) s.E) u=Q d:=hu;rw[rS ht]at hu;split at hu
  ·rename_i e;rw[<-e,<-zG.inj hu];exact Env.dP _ _ _
  ·rename_i e;rw[Env.cW _ _ e];exact Env.ni E u d hu (hh u d hu)
 ·rw[q1]at hsim0;refine⟨hsim0.defers,hsim0.size,λu av hu=> ?_,hsim0.good⟩;rw[Env.eA]at hu;obtain⟨d,hd,rfl⟩:=zk.1 hu;exact hsim0.slots u _ (by rw[Env.eA,hh0 u d (hkey u d hd)];rfl)
end
inductive An:Type 1
 |no
 |two (l r:An)
 |lp (γ:Type) (rd:St->Option γ) (pat:γ->St) (EE:γ->Option γ) (body:An)
 |jn (γ:Type) (rd:St->Option γ) (pat:γ->St) (l r:An)
 |rb (fs:List Nat) (t:Nat)
def An.l:An->An
 | .two l _=>l
 | .jn _ _ _ l _=>l
 |_=> .no
def An.r:An->An
 | .two _ r=>r
 | .jn _ _ _ _ r=>r
 |_=> .no
abbrev noTwo(a:An):An:= .two .no a
abbrev XT:=An->(α:Type)->St->fA α->af α
def aAj{γ:Type}(b:Bool)(p q:γ):γ:=match b with
 |true=>p
 |false=>q
def fR{γ:Type}(rd:St->af γ):fA (af γ):=λe s=>match e with
 | .normal=>(rd s).map Q
 |_=>Q J
def aqb{γ:Type}(rd:St->af γ):fA γ:=λe s=>match e with
 | .normal=>rd s
 |_=>J
def TC{γ α:Type}(rd:St->af γ)(pat:γ->St)(c:Operand)(s:St)(x y:(α:Type)->St->fA α->af α)(k:fA α):af α:=match c with
 | .tmp t=>match cu s.E t with
  |some (.lit (.bool b))=>match x γ (s.fh t O) (aqb rd)with
   |some p=>match y γ (s.fh t V) (aqb rd)with
    |some q=>k .normal (pat (aAj b p q))
    |none=>J
   |none=>J
  |_=>J
 |_=>J
def awZ(P:Program)(F:aI)(n:Nat)(id:Nat)(ops:Array Oper)(draw:Bool):XT:=λan _ s k=>match an with
 | .rb fs t=>match draw with
  |false=>KR P F n fs t ops s k
  |true=>uh P F n id ops O s k
 |_=>uh P F n id ops draw s k
def ayZ(x y:XT):XT:=λan α s k=>x an.l α s (Zw (y an.r α) k)
def aku(c:Operand)(x y:XT):XT:=λan α s k=>match an with
 | .jn _ rd pat l r=>TC rd pat c s (x l) (y r) k
 |an=>mw c s (λs=>x an.l α s k) (λs=>y an.r α s k)
def ZF(id:Nat)(x:XT):XT:=λan α s k=>x an α s (o8 id k)
def akC(fuel:Nat)(x:XT):XT:=λan α s k=>match an with
 | .lp _ rd pat EE b=>match rd s with
  |some p=>match EE p with
   |some q=>x b α (pat q) (Jj k λ_=>J)
   |none=>J
  |none=>J
 |an=>AZ (x an α) k fuel s
def bK(P:Program)(F:aI)(n:Nat)(fuel:Nat)(c:Code):XT:=
 Code.rec (λ_ _ s k=>Vn s k) (awZ P F n) (λ_ _=>ayZ) (λc _ _=>aku c) (λid _=>ZF id) (λ_=>akC fuel) (λ_ _ _ _ _ _ _ _ s k=>CC s k) (λi _ _ s k=>TY i s k) (λ_ _ _ _ s k=>CC s k) (λ_ _ _ s k=>CC s k) (λ_ _ _ s k=>CC s k) (λ_ _ s k=>ahN s k) (λ_ _ _ s k=>CC s k) c
def n9{γ:Type}(n0 n:Nat)(rd:St->af γ)(pat:γ->St):Prop:=∀(C:Cg) s p a w,C.n=n0->rd s=Q p->Mt C n s a w->Mt C n (pat p) a w
def Oy{γ:Type}(x:XT)(rd:St->af γ)(pat:γ->St)(b:An):Nat->γ->γ->Prop
 |0,p,q=>p=q
 |n+1,p,q=>∃p',x b (af γ) (pat p) (fR rd)=Q (Q p')/\Oy x rd pat b n p' q
def No{γ:Type}(x:XT)(rd:St->af γ)(pat:γ->St)(EE:γ->af γ)(b:An):Prop:=
 ∀p q,EE p=Q q->∃n,Oy x rd pat b n p q
def GS(P:Program)(F:aI)(n0 n:Nat)(fuel:Nat)(c:Code):An->Prop:=
 Code.rec (λ_=>True) (λ_ _ _ an=>match an with
  | .rb fs _=>∀f∈fs,aZ F f
  |_=>True) (λ_ _ x y an=>x an.l/\y an.r) (λ_ _ _ x y an=>(∀γ rd pat l r,an= .jn γ rd pat l r->n9 n0 n rd pat)/\x an.l/\y an.r) (λ_ _ x=>x)
  (λc x an=>match an with
   | .lp _ rd pat EE b=>n9 n0 n rd pat/\No (bK P F n fuel c) rd pat EE b/\x b
   |an=>x an) (λ_ _ _ _ _ _ _=>True) (λ_ _=>True) (λ_ _ _=>True) (λ_ _=>True) (λ_ _=>True) (λ_=>True) (λ_ _=>True) c
section
variable {P:Program} {F:aI} {C:Cg} {n0 n:Nat}
def Vt(hF:gu P F)(hN:dH F)(hC:C.n=n0)(fuel:Nat)(c:Code):∀an,GS P F n0 n fuel c an->∀(α:Type),Qk (α:=α) P C n c (bK P F n fuel c an α):=by
 induction c with
 |skip=>exact λan _ α r s k a w h hm=>wp_skip ⟨s,h,hm⟩
 |region id ops draw=>
  intro an ho α;cases an with
  |rb fs t=>
   cases draw with
   |false=>exact PK hF hN ho id t ops
   |true=>exact Bf hF hN id ops O
  |_=>exact Bf hF hN id ops draw
 |seq x y hx hy=>
  intro an ho α r s k a w h hm;obtain⟨h1,h2⟩:GS P F n0 n fuel x an.l/\GS P F n0 n fuel y an.r:=ho;refine wp_seq (wp_mono (hx an.l h1 α r s _ a w h hm) λe a' w' ⟨s',g1,g2⟩=> ?_);cases e with
  |normal=>exact hy an.r h2 α r s' k a' w' g1 g2
  |_=>exact⟨s',g1,g2⟩
 |cond c x y hx hy=>
  intro an ho α r s k a w h hm;obtain⟨h0,h1,h2⟩:(∀γ rd pat l r,an= .jn γ rd pat l r->n9 n0 n rd pat)/\GS P F n0 n fuel x an.l/\GS P F n0 n fuel y an.r:=ho;have plain:mw c s (λs=>bK P F n fuel x an.l α s k) (λs=>bK P F n fuel y an.r α s k)=Q r->Ends P C n (.cond c x y) k r a w:=λh=>by
   obtain⟨b,s',he,hm',h'⟩:=Gs h hm;cases b with
   |true=>exact wp_cond_true he (hx an.l h1 α r s' k a w h' hm')
   |false=>exact wp_cond_false he (hy an.r h2 α r s' k a w h' hm')
  cases an with
  |jn γ rd pat l r'=>
   have hrd:=h0 γ rd pat l r' rfl;change TC rd pat c s (bK P F n fuel x l) (bK P F n fuel y r') k=Q r at h;unfold TC at h;split at h
   case h_2=>cases h
   rename_i t;split at h
   case h_2=>cases h
   rename_i b hb;split at h
   case h_2=>cases h
   rename_i p hp;split at h
   case h_2=>cases h
   rename_i q hq;have hev:a.eval (.tmp t)= .bool b:=by
    obtain⟨E,hh,_,_,ρ,_,hs⟩:=hm;refine MH hs ?_;have g1:=hh t _ hb;show Env.get (E.sub ρ) t=_;rw[Env.eA,g1,zX,bF]
   have fin:∀(p:γ),k .normal (pat p)=Q r->∀e a' w',(∃s',aqb rd e s'=Q p/\Mt C n s' a' w')->∃s',k e s'=Q r/\Mt C n s' a' w':=λp hk e a' w' ⟨s',g1,g2⟩=>by
    cases e with
    |normal=>exact⟨_,hk,hrd C s' p a' w' hC g1 g2⟩
    |_=>cases g1
   cases b with
   |true=>exact wp_cond_true hev (wp_mono (hx l h1 γ p _ _ a w hp (hm.fh hb)) (fin p h))
   |false=>exact wp_cond_false hev (wp_mono (hy r' h2 γ q _ _ a w hq (hm.fh hb)) (fin q h))
  |_=>exact plain h
 |block id x hx=>
  intro an ho α r s k a w h hm;refine wp_block (wp_mono (hx an ho α r s _ a w h hm) λe a' w' ⟨s',h1,h2⟩=> ?_);cases e with
  |exit id'=>
   simp only[o8]at h1;simp only[Exit.inBlock];split
   ·rename_i he;subst he;have hb:zh id' id'=O:=yH _;simp only[hb]at h1;exact⟨s',h1,h2⟩
   ·rename_i he;have hb:zh id' id=V:=by
     cases hb:zh id' id with
     |false=>rfl
     |true=>exact gI (yI hb) he
    simp only[hb]at h1;exact⟨s',h1,h2⟩
  |_=>exact⟨s',h1,h2⟩
 |loop c hc=>
  intro an ho α r s k a w h hm;cases an with
  |lp γ rd pat EE b=>
   obtain⟨hrd,hadv,hb⟩:n9 n0 n rd pat/\No (bK P F n fuel c) rd pat EE b/\GS P F n0 n fuel c b:=ho;change (match rd s with
    |some p=>match EE p with
     |some q=>bK P F n fuel c b α (pat q) (Jj k λ_=>J)
     |none=>J
    |none=>J)=Q r at h
   split at h
   case h_2=>cases h
   rename_i p hp;split at h
   case h_2=>cases h
   rename_i q hq;obtain⟨m,hgo⟩:=hadv p q hq;have key:∀(m:Nat) (p:γ),Oy (bK P F n fuel c) rd pat b m p q->∀(a:Act) (w:World),Mt C n (pat p) a w->
     c.wp P (Exit.then (InL P c λe a' w'=>∃s',k e s'=Q r/\Mt C n s' a' w') λe a' w'=>∃s',k e s'=Q r/\Mt C n s' a' w') a w:=by
    intro m;induction m with
    |zero=>
     intro p hg a w hm;have hg:p=q:=hg;subst hg;refine wp_mono (hc b hb α r _ _ a w h hm) λe a' w' ⟨s',q1,q2⟩=> ?_;cases e with
     |normal=>cases q1
     |_=>exact⟨s',q1,q2⟩
    |succ m ih=>
     intro p hg a w hm;obtain⟨p',g1,g3⟩:=hg;refine wp_mono (hc b hb (af γ) (Q p') _ _ a w g1 hm) λe a' w' ⟨s',q1,q2⟩=> ?_;cases e with
     |normal=>
      obtain⟨p'',q3,q4⟩:=zk.1 (show (rd s').map Q=Q (Q p')from q1);cases q4;exact IU (ih p' g3 a' w' (hrd C s' p' a' w' hC q3 q2))
     |_=>cases q1
   exact C1 (key m p hgo a w (hrd C s p a w hC hp hm))
  |_=>exact CU (hc _ ho α) fuel r s k a w h hm
 |exit i=>exact λan _ α r s k a w h hm=>wp_exit ⟨s,h,hm⟩
 |ret=>exact λan _ α r s k a w h hm=>wp_ret ⟨s,h,hm⟩
 |_=>exact λan _ α r s k a w h hm=>by cases h
def aO(P:Program)(F:aI)(fuel:Nat)(an:An){α:Type}(f:FuncId)(args:aa AV)(R:aM)(nx:Nat)(k:St->af α):af α:=match P.funcs[f]? with
 |some fn=>match fn.body with
  |some c=>match z8 (yz args) fn.ntmps&& !(fn.name=="runtime.NumGoroutine")with
   |true=>bK P F fn.ntmps fuel c an α ⟨Hl 0 args .e,R,nx⟩ λe s=>match e with
    | .normal=>k s
    | .ret=>k s
    |_=>J
   |false=>J
  |none=>J
 |none=>J
def bx(P:Program)(F:aI)(n0:Nat)(fuel:Nat)(f:FuncId)(an:An):Prop:=∀fn c,P.funcs[f]? =Q fn->fn.body=Q c->GS P F n0 fn.ntmps fuel c an
def GM(P:Program)(f:FuncId)(s:St):af (aa AV):=match P.funcs[f]? with
 |some fn=>CK P s fn.results.toList
 |none=>J
structure Out where
 d:AV
 R:aM
 c:Nat
def Gu(P:Program)(f:FuncId)(args:aa AV)(R0:aM)(n0:Nat)(x:Out):Prop:=∀ρ:Gh,Fn P f (args.map (bM.sub ρ)) (aM.res ρ R0) (λa s=>∃ρ':Gh,l6 n0 ρ ρ'/\a=x.d.sub ρ'/\List.Perm s (aM.res ρ' x.R))
def gL(hF:ak P F){n0 fuel:Nat}{f:FuncId}{an:An}(han:bx P F n0 fuel f an){args:aa AV}{R0:aM}{γ:Type}{rd:St->af γ}{pat:γ->St}{out:γ->Out}{p:γ}
  (hrd:∀n,n9 n0 n rd pat) (ho:∀p,(match GM P f (pat p)with
   |some ds=>Q (Out.mk (iH ds) (DL (pat p).R n0 (iH ds)) (pat p).nx)
   |none=>J)=Q (out p))
  (hargs:∀d∈args,ct n0 d) (hR:aM.ct n0 R0) (h:aO P F fuel an f args R0 n0 rd=Q p):rP P f/\Gu P f args R0 n0 (out p):=by
 unfold aO at h;split at h
 case h_2=>cases h
 rename_i fn hf;split at h
 case h_2=>cases h
 rename_i c hb;split at h
 case h_2=>cases h
 rename_i hc;rw[zj]at hc;obtain⟨hl,hnm⟩:=hc;have hop:=ho p;split at hop
 case h_2=>cases hop
 rename_i ds hds;have hds:CK P (pat p) fn.results.toList=Q ds:=by
  unfold GM at hds;rw[hf]at hds;exact hds
 have hop:=zG.inj hop;refine⟨⟨fn,hf,by simpa using hnm,by rw[hb];rfl⟩,λρ=>Fn.of hf hb rfl (by rw[zI];exact hl) λC a w ha=> ?_⟩;have hm:Mt ⟨C,ρ,n0⟩ fn.ntmps ⟨Hl 0 args .e,R0,n0⟩ a w:=by
  refine⟨ew 0 args,?_,λq hq=>hargs _ (mD hq),hR,ρ,⟨.refl _ _,zA _⟩,?_⟩
  ·have:=tC args 0 .e [] (λt d ht=>by cases t<;>cases ht) (λt d ht=>by cases t<;>cases ht)
   rwa [yW]at this
  ·rw[l8];exact ha
 refine wp_mono (Vt (C:=⟨C,ρ,n0⟩) hF.ok hF.nat rfl fuel c an (han fn c hf hb) γ p _ _ a w h hm) λe a' w' ⟨s',h1,h2⟩=> ?_;have fin:∀e:Exit,(e= .normal\/e= .ret)->rd s'=Q p->∃E' σ',jH C fn.ntmps E' σ' a' w'/\UU P C fn.ntmps fn (λa s=>∃ρ':Gh,l6 n0 ρ ρ'/\a=(out p).d.sub ρ'/\List.Perm s (aM.res ρ' (out p).R)) e E' σ':=λe he hp=>by
  have hm':=hrd fn.ntmps ⟨C,ρ,n0⟩ s' p a' w' rfl hp h2;obtain⟨E,hh,hE,hR,ρ',⟨hag,hnx⟩,hsim⟩:=hm';have hsub:List.Sublist (DL (pat p).R n0 (iH ds)) (pat p).R:=se _ _ _;refine⟨_,_,hsim,LS (σ':=aM.res ρ' (DL (pat p).R n0 (iH ds))) (av:=(iH ds).sub ρ') he (hsub.map _) ⟨ρ',hag,by rw[<-hop],by rw[<-hop]⟩ λA w' tmps hd hs=> ?_⟩;obtain⟨us,q1,q2⟩:=Fe hh hd hs hds;refine⟨_,?_,Ij q2⟩;show (do let vs <-fn.results.mapM (mK tmps);pure (if h:vs.size=1 then vs[0]else .tuple vs):Sem Value).run P w'=_;have e1:fn.results=fn.results.toList.toArray:=by simp
  rw[e1,List.mapM_toArray];simp[q1]
 cases e with
 |normal=>exact fin _ (.inl rfl) h1
 |ret=>exact fin _ (.inr rfl) h1
 |_=>cases h1
end
section
variable {γ:Type} (rnd:γ->af (af γ))
def oc:Nat->γ->γ->Prop
 |0,p,q=>p=q/\∀r,rnd p≠Q (Q r)
 |n+1,p,q=>∃p',rnd p=Q (Q p')/\oc n p' q
open Classical in
def b6(p:γ):af γ:=if h:∃q n,oc rnd n p q then Q (Classical.choose h)else J
variable {rnd}
def oc.ur:∀{n m:Nat} {p q q':γ},oc rnd n p q->oc rnd m p q'->n=m/\q=q'
 |0,0,p,q,q',⟨h1,_⟩,⟨h2,_⟩=>⟨rfl,h1▸h2⟩
 |0,m+1,p,q,q',⟨h1,h3⟩,⟨p',h2,_⟩=>gI h2 (h3 p')
 |n+1,0,p,q,q',⟨p',h2,_⟩,⟨h1,h3⟩=>gI h2 (h3 p')
 |n+1,m+1,p,q,q',⟨p',h1,h2⟩,⟨p'',h3,h4⟩=>by
  rw[h1]at h3;cases h3;obtain⟨e1,e2⟩:=oc.ur h2 h4;exact⟨by rw[e1],e2⟩
def oc.EE{n:Nat}{p q:γ}(h:oc rnd n p q):b6 rnd p=Q q:=by
 have hx:∃q n,oc rnd n p q:=⟨q,n,h⟩;unfold b6;rw[dif_pos hx];obtain⟨m,hm⟩:=Classical.choose_spec hx;rw[(oc.ur hm h).2]
def sW{p q:γ}(h:b6 rnd p=Q q):∃n,oc rnd n p q:=by
 unfold b6 at h;split at h
 ·rename_i hx;cases h;exact Classical.choose_spec hx
 ·cases h
def cB{p p':γ}(h:rnd p=Q (Q p')):b6 rnd p=b6 rnd p':=by
 cases h2:b6 rnd p' with
 |some q=>
  obtain⟨n,hn⟩:=sW h2;exact(show oc rnd (n+1) p q from⟨p',h,hn⟩).EE
 |none=>
  cases h1:b6 rnd p with
  |none=>rfl
  |some q=>
   obtain⟨n,hn⟩:=sW h1;cases n with
   |zero=>exact gI h (hn.2 p')
   |succ n=>
    obtain⟨p'',h3,h4⟩:=hn;rw[h]at h3;cases h3;rw[h4.EE]at h2;cases h2
def cE{p:γ}(h:∀r,rnd p≠Q (Q r)):b6 rnd p=Q p:=(show oc rnd 0 p p from⟨rfl,h⟩).EE
def oc.x{x:XT}{rd:St->af γ}{pat:γ->St}{b:An}(hx:∀p,x b (af γ) (pat p) (fR rd)=rnd p):∀{n:Nat} {p q:γ},oc rnd n p q->Oy x rd pat b n p q
 |0,_,_,h=>h.1
 |_+1,_,_,⟨p',h1,h2⟩=>⟨p',by rw[hx];exact h1,oc.x hx h2⟩
def bt{x:XT}{rd:St->af γ}{pat:γ->St}{b:An}(hx:∀p,x b (af γ) (pat p) (fR rd)=rnd p):No x rd pat (b6 rnd) b:=λp q h=>by
 obtain⟨n,hn⟩:=sW h;exact⟨n,hn.x hx⟩
end
section
variable {β γ δ:Type}
def PN(f:AV->af β)(c:β->AV):Prop:=∀a b,f a=Q b->(∀(ρ:Gh) A w v,Rel A w (a.sub ρ) v->Rel A w ((c b).sub ρ) v)/\∀n,ct n a->ct n (c b)
def PN.of{f:AV->af β}{c:β->AV}(h:P1 f c)(hc:∀a b,f a=Q b->uF 2 a=O)(hl:∀b,(∀ρ,(c b).sub ρ=c b)/\∀n,ct n (c b)):PN f c:=λa b hb=>
 ⟨λρ A w v hr=>by rw[iB 2 (hc a b hb)]at hr;rw[(hl b).1];exact h a b hb A w v hr,λn _=>(hl b).2 n⟩
def PN.i(k:IntKind):PN (gQ k) (bM.n k):= .of (.i k) (λa b h=>by
 unfold gQ at h;split at h
 ·rfl
 ·cases h) λb=>⟨λρ=>bF ρ _,λn=> .lit _⟩
def PN.b:PN RM bM.b:= .of .b (λa b h=>by
 unfold RM at h;split at h
 ·rfl
 ·cases h) λb=>⟨λρ=>bF ρ _,λn=> .lit _⟩
def PN.s:PN asS bM.s:= .of .s (λa b h=>by
 unfold asS at h;split at h
 ·rfl
 ·cases h) λb=>⟨λρ=>bF ρ _,λn=> .lit _⟩
def PN.l(t:Nat):PN (iP t) (bM.sl t):= .of (.l t) (λa b h=>by
 unfold iP at h;split at h
 ·rfl
 ·rfl
 ·cases h) λb=>⟨λρ=>fE ρ _ _,λn=> .sl _ _⟩
def Z1(t:Nat):AV->af (U.cA t)
 | .agg cs=>match cs.all (uF 1)with
  |true=>L.parse t cs
  |false=>J
 |_=>J
def PN.g(t:Nat):PN (Z1 t) (λx=> .agg (U.cells t x)):= .of (λa b h A w v hr=>by
 unfold Z1 at h;split at h
 ·split at h
  ·obtain⟨us,rfl,h2⟩:=hr.fG;exact Rel.kj (L.ja _ _ _ h A w us h2)
  ·cases h
 ·cases h) (λa b h=>by
 unfold Z1 at h;split at h
 ·split at h
  ·rename_i hc;exact hc
  ·cases h
 ·cases h) λb=>⟨λρ=>by rw[dS,L.clo],λn=> .agg _ (L.nQ t b n)⟩
def asP(id off:Nat):AV->af Unit
 | .ptr i o=>match zh i id&&zh o off with
  |true=>Q ()
  |false=>J
 |_=>J
def PN.p(id off:Nat):PN (asP id off) (λ_=> .ptr id off):=λa b h=>by
 unfold asP at h;split at h
 ·split at h
  ·rename_i hc;rw[zj]at hc;rw[dX hc.1,dX hc.2];exact⟨λ_ _ _ _ h=>h,λ_ h=>h⟩
  ·cases h
 ·cases h
def asO(id:Nat):AV->af Unit
 | .own i=>match zh i id with
  |true=>Q ()
  |false=>J
 |_=>J
def PN.o(id:Nat):PN (asO id) (λ_=> .own id):=λa b h=>by
 unfold asO at h;split at h
 ·split at h
  ·rename_i hc;rw[dX hc];exact⟨λ_ _ _ _ h=>h,λ_ h=>h⟩
  ·cases h
 ·cases h
def Iu(q:aa AV->af γ)(c:γ->aa AV):Prop:=∀cs g,q cs=Q g->(∀(ρ:Gh) A w us,bn A w (cs.map (bM.sub ρ)) us->bn A w ((c g).map (bM.sub ρ)) us)/\∀n,(∀a∈cs,ct n a)->∀a∈c g,ct n a
def Iu.nil:Iu pG (λ_=>[]):=λcs g h=>by
 unfold pG at h;split at h
 ·exact⟨λρ A w us hr=>hr,λn h=>h⟩
 ·cases h
def Iu.cons{f:AV->af β}{c:β->AV}{q:aa AV->af γ}{d:γ->aa AV}(h:PN f c)(hq:Iu q d):Iu (dQ f q) (λx=>c x.1::d x.2):=λcs g hg=>by
 unfold dQ at hg;split at hg
 ·obtain⟨b,h1,hg⟩:=zn.1 hg;obtain⟨g',h2,rfl⟩:=zk.1 hg;obtain⟨h3,h4⟩:=h _ _ h1;obtain⟨h5,h6⟩:=hq _ _ h2;refine⟨λρ A w us hr=> ?_,λn hn a ha=> ?_⟩
  ·rw[zO]at hr ⊢;obtain⟨v,us',rfl,h7,h8⟩:=hr.head;exact bn.cons (h3 ρ A w v h7) (h5 ρ A w us' h8)
  ·rcases zu.1 ha with rfl|ha
   ·exact h4 n (hn _ zq)
   ·exact h6 n (λa ha=>hn a (zH _ ha)) a ha
 ·cases hg
def ajR(q:aa AV->af γ):AV->af γ
 | .agg cs=>q cs
 |_=>J
def PN.ag{q:aa AV->af γ}{c:γ->aa AV}(h:Iu q c):PN (ajR q) (λx=> .agg (c x)):=λa b hb=>by
 unfold ajR at hb;split at hb
 ·rename_i cs;obtain⟨h1,h2⟩:=h _ _ hb;refine⟨λρ A w v hr=> ?_,λn hn=> .agg _ (h2 n hn.kj)⟩;rw[dS]at hr ⊢;obtain⟨us,rfl,h3⟩:=hr.fG;exact Rel.kj (h1 ρ A w us h3)
 ·cases hb
def ame(k:Nat)(q:aa AV->af γ):AV->af γ
 | .fn (.func i) cs=>match zh i k with
  |true=>q cs
  |false=>J
 |_=>J
def PN.ff(k:Nat){q:aa AV->af γ}{c:γ->aa AV}(h:Iu q c):PN (ame k q) (λx=> .fn (.func k) (c x)):=λa b hb=>by
 unfold ame at hb;split at hb
 ·rename_i i cs;split at hb
  ·rename_i hi;have hi:=dX hi;subst hi;obtain⟨h1,h2⟩:=h _ _ hb;refine⟨λρ A w v hr=> ?_,λn hn=> .fn _ _ (h2 n hn.fnL)⟩;rw[oI]at hr ⊢;generalize ha:bM.fn (Fn.func i) (cs.map (bM.sub ρ))=a at hr;cases hr with
   |fn f cs' us hl hr=>
    cases ha;obtain⟨h3,h4⟩:=h1 ρ A w us ⟨hl,hr⟩;exact .fn _ _ us h3 h4
   |_=>cases ha
  ·cases hb
 ·cases hb
def amC(q:aa AV->af γ):AV->af γ
 | .fp cs=>q cs
 |_=>J
def PN.fp{q:aa AV->af γ}{c:γ->aa AV}(h:Iu q c):PN (amC q) (λx=> .fp (c x)):=λa b hb=>by
 unfold amC at hb;split at hb
 ·rename_i cs;obtain⟨h1,h2⟩:=h _ _ hb;refine⟨λρ A w v hr=> ?_,λn hn=> ?_⟩
  ·rw[jx]at hr ⊢;generalize ha:bM.fp (cs.map (bM.sub ρ))=a at hr;cases hr with
   |fp cs' b o us hb hA hl hc hr=>
    cases ha;obtain⟨h3,h4⟩:=h1 ρ A w us ⟨hl,hr⟩;exact .fp _ b o us hb hA h3 hc h4
   |_=>cases ha
  ·generalize ha:bM.fp cs=a at hn;cases hn with
   |fp cs' h5=>cases ha;exact .fp _ (h2 n h5)
   |_=>cases ha
 ·cases hb
def ak2:AV->af Unit
 | .lit (.slice J 0 0)=>Q ()
 |_=>J
def PN.ns:PN ak2 (λ_=> .lit (.slice J 0 0)):=λa b hb=>by
 unfold ak2 at hb;split at hb
 ·exact⟨λ_ _ _ _ h=>h,λ_ h=>h⟩
 ·cases hb
def ak0(t:Nat)(cs:aa AV):af (U.cA t):=match cs.all (λc=>uF 1 c||Fk c)with
 |true=>L.parse t cs
 |false=>J
def Iu.parse(t:Nat):Iu (ak0 t) (λx=>U.cells t x):=λcs g h=>by
 unfold ak0 at h;split at h
 ·rename_i hc;have e:∀ρ,cs.map (bM.sub ρ)=cs:=λρ=>by
   have:cs.map (bM.sub ρ)=cs.map id:=zR λa ha=>(yL _ _▸zx.1 hc a ha:uF 1 a=O\/Fk a=O).elim (λh=>iB 1 h) λh=>vq h ρ;rw[this,xK]
  exact⟨λρ A w us hr=>by rw[e]at hr;rw[L.clo];exact L.ja _ _ _ h A w us hr,λn _=>L.nQ t g n⟩
 ·cases h
def slN(_:ET):af Unit:=Q ()
def slC(t:Nat)(f:AV->af β)(q:ET->af γ)(T:ET):af (β×γ):=match cu T t with
 |some a=>(f a).bind λb=>(q T).map λg=>(b,g)
 |none=>J
def oa(q:ET->af γ)(d:γ->Env):Prop:=∀T g,q T=Q g->∀(E:Env),oR T E->(∀(ρ:Gh) A w tmps,fS A w (E.sub ρ) tmps->fS A w ((d g).sub ρ) tmps)/\∀n,E.ct n->(d g).ct n
def oa.nil:oa slN (λ_=>[]):=λT g _ E _=>⟨λρ A w tmps _ t av h=>(by cases h),λn _ p hp=>(by cases hp)⟩
def oa.cons{t:Nat}{f:AV->af β}{c:β->AV}{q:ET->af γ}{d:γ->Env}(hf:PN f c)(hq:oa q d):oa (slC t f q) (λx=>(t,c x.1)::d x.2):=λT g h E hh=>by
 unfold slC at h;split at h
 case h_2=>cases h
 rename_i a ha;obtain⟨b,hb,h⟩:=zn.1 h;obtain⟨g',hg,rfl⟩:=zk.1 h;obtain⟨h1,h2⟩:=hf a b hb;obtain⟨h3,h4⟩:=hq T g' hg E hh;refine⟨λρ A w tmps hs s av hx=> ?_,λn hn p hp=> ?_⟩
 ·have hx:Env.get ((t,(c b).sub ρ)::(d g').sub ρ) s=Q av:=hx;by_cases hts:t=s
  ·subst hts;rw[Env.dP]at hx;cases hx;obtain⟨v,q1,q2⟩:=hs t (a.sub ρ) (by rw[Env.eA,hh t a ha];rfl);exact⟨v,q1,h1 ρ A w v q2⟩
  ·rw[Env.cW _ _ hts]at hx;exact h3 ρ A w tmps hs s av hx
 ·rcases zu.1 hp with rfl|hp
  ·exact h2 n (hn _ (Env.get_mem (hh t a ha)))
  ·exact h4 n hn p hp
def apF(E:Env):ET:=List.rec .e (λp _ T=>jE p.1 p.2 T) E
def sx:∀E:Env,oR (apF E) E
 |[]=>λt d h=>by cases t<;>cases h
 |p::E=>(sx E).put p.1 p.2
def leR(p p':Nat×IR):Prop:=p.1=p'.1/\(∀(ρ:Gh) A w,(p.2.res ρ p.1).ok A w->(p'.2.res ρ p'.1).ok A w)/\(∀ρ:Gh,(p.2.res ρ p.1).blk=(p'.2.res ρ p'.1).blk)/\∀n,p.2.ct n->p'.2.ct n
inductive CG:aM->aM->Prop
 |nil:CG [] []
 |cons {p p':Nat×IR} {R R':aM} (h:leR p p') (hs:CG R R'):CG (p::R) (p'::R')
def rsN:aM->af Unit
 |[]=>Q ()
 |_=>J
def rsR(id t:Nat)(q:aM->af γ):aM->af (aa (U.cA t)×γ)
 |(i, .row t' l)::R=>match zh i id with
  |true=>(qM t' t l).bind λl=>(q R).map λg=>(l,g)
  |false=>J
 |_=>J
def qU(q:aM->af γ)(d:γ->aM):Prop:=∀R g,q R=Q g->CG R (d g)
def qU.nil:qU rsN (λ_=>[]):=λR g h=>by
 cases R with
 |nil=>exact .nil
 |cons p R=>cases h
def qU.row{id t:Nat}{q:aM->af γ}{d:γ->aM}(hq:qU q d):qU (rsR id t q) (λx=>(id, .row t x.1)::d x.2):=λR g h=>by
 obtain⟨i,t',l,R',rfl,hcd,h9⟩:∃i t' l R',R=(i,IR.row t' l)::R'/\zh i id=O/\((qM t' t l).bind λl=>(q R').map λg=>(l,g))=Q g:=by
  unfold rsR at h;split at h
  ·split at h
   ·rename_i hcd;exact⟨_,_,_,_,rfl,hcd,h⟩
   ·cases h
  ·cases h
 have e1:=dX hcd;subst e1;obtain⟨l',hl,h9⟩:=zn.1 h9;obtain⟨g',hg,rfl⟩:=zk.1 h9;obtain⟨rfl,rfl⟩:=kL hl;exact .cons ⟨rfl,λρ A w h=>h,λρ=>rfl,λn h=>h⟩ (hq _ _ hg)
def agD:(k' k:KK)->(e' e:VK)->aa (k'.T×e'.T)->af (aa (k.T×e.T))
 | .k1, .k1, .i, .i,l=>Q l
 | .k1, .k1, .b, .b,l=>Q l
 | .k2, .k2, .i, .i,l=>Q l
 | .k2, .k2, .b, .b,l=>Q l
 | .k3, .k3, .i, .i,l=>Q l
 | .k3, .k3, .b, .b,l=>Q l
 |_,_,_,_,_=>J
def Q4{k' k:KK}{e' e:VK}{l:aa (k'.T×e'.T)}{l':aa (k.T×e.T)}(h:agD k' k e' e l=Q l'):l.map (kG k' e')=l'.map (kG k e):=by
 cases k'<;>cases k<;>cases e'<;>cases e<;>first|(cases h;rfl)|cases h
def ano(k:KK)(e:VK)(es:aa (AV×AV)):af (aa (k.T×e.T)):=List.rec (Q []) (λp _ ih=>(k.rk p.1).bind λx=>(e.rv p.2).bind λv=>ih.map λl=>(x,v)::l) es
def MS{k:KK}{e:VK}:∀{es:aa (AV×AV)} {l:aa (k.T×e.T)},ano k e es=Q l->es=l.map (kG k e)
 |[],l,h=>by cases h;rfl
 |(a,b)::es,l,h=>by
  obtain⟨x,h1,h⟩:=zn.1 (show ((k.rk a).bind λx=>(e.rv b).bind λv=>(ano k e es).map λl=>(x,v)::l)=Q l from h);obtain⟨v,h2,h⟩:=zn.1 h;obtain⟨l',h3,rfl⟩:=zk.1 h;rw[KK.Yg h1,VK.aia h2,MS h3];rfl
def rsM(id:Nat)(k:KK)(e:VK)(q:aM->af γ):aM->af (aa (k.T×e.T)×γ)
 |(i, .md k' e' l)::R=>match zh i id with
  |true=>(agD k' k e' e l).bind λl=>(q R).map λg=>(l,g)
  |false=>J
 |(i, .mp es)::R=>match zh i id with
  |true=>(ano k e es).bind λl=>(q R).map λg=>(l,g)
  |false=>J
 |_=>J
def qU.map{id:Nat}{k:KK}{e:VK}{q:aM->af γ}{d:γ->aM}(hq:qU q d):qU (rsM id k e q) (λx=>(id, .md k e x.1)::d x.2):=λR g h=>by
 have fin:∀(r:IR) (R':aM) (es:aa (AV×AV)) (l:aa (k.T×e.T)) (g':γ),(∀(ρ:Gh) i,r.res ρ i= .mp (ρ.v i) es)->es=l.map (kG k e)->q R'=Q g'->CG ((id,r)::R') ((id, .md k e l)::d g'):=λr R' es l g' h1 h2 h3=>by
  subst h2;have e1:∀ρ:Gh,r.res ρ id=(IR.md k e l).res ρ id:=λρ=>h1 ρ id;exact .cons ⟨rfl,λρ A w h=>by rw[<-e1];exact h,λρ=>by rw[e1],λn _=>trivial⟩ (hq _ _ h3)
 unfold rsM at h;split at h
 ·rename_i i k' e' l R';split at h
  case h_2=>cases h
  rename_i hi;have hi:=dX hi;subst hi;obtain⟨l',hl,h9⟩:=zn.1 h;obtain⟨g',hg,rfl⟩:=zk.1 h9;exact fin _ _ _ _ _ (λ_ _=>rfl) (Q4 hl) hg
 ·rename_i i es R';split at h
  case h_2=>cases h
  rename_i hi;have hi:=dX hi;subst hi;obtain⟨l',hl,h9⟩:=zn.1 h;obtain⟨g',hg,rfl⟩:=zk.1 h9;exact fin _ _ _ _ _ (λ_ _=>rfl) (MS hl) hg
 ·cases h
def amX(id T:Nat)(f:aa AV->af β)(q:aM->af γ):aM->af (β×γ)
 |(i, .box T' cs)::R=>match zh i id&&zh T' T with
  |true=>(f cs).bind λb=>(q R).map λg=>(b,g)
  |false=>J
 |_=>J
def qU.aAc{id T:Nat}{f:aa AV->af β}{c:β->aa AV}{q:aM->af γ}{d:γ->aM}(hf:Iu f c)(hq:qU q d):qU (amX id T f q) (λx=>(id, .box T (c x.1))::d x.2):=λR g h=>by
 obtain⟨i,T',cs,R',rfl,hcd,h9⟩:∃i T' cs R',R=(i,IR.box T' cs)::R'/\(zh i id&&zh T' T)=O/\((f cs).bind λb=>(q R').map λg=>(b,g))=Q g:=by
  unfold amX at h;split at h
  ·split at h
   ·rename_i hcd;exact⟨_,_,_,_,rfl,hcd,h⟩
   ·cases h
  ·cases h
 rw[zj]at hcd;have e1:=dX hcd.1;have e2:=dX hcd.2;subst e1 e2;obtain⟨b,hb,h9⟩:=zn.1 h9;obtain⟨g',hg,rfl⟩:=zk.1 h9;obtain⟨k1,k2⟩:=hf _ _ hb;exact .cons ⟨rfl,λρ A w ⟨us,h1,h2⟩=>⟨us,h1,k1 ρ A w us h2⟩,λρ=>rfl,λn hn=>k2 n hn⟩ (hq _ _ hg)
def vk{ρ:Gh}:∀{R R':aM},CG R R'->aY (aM.res ρ R)=aY (aM.res ρ R')
 |_,_, .nil=>rfl
 |_,_, .cons (p:=p) (p':=p') h hs=>by
  unfold aY aM.res;rw[zO,zO,xd,xd,h.2.2.1 ρ];have:=vk (ρ:=ρ) hs;unfold aY aM.res at this;rw[this]
def KF{ρ:Gh}{A:Nat->Prop}{w:World}:∀{R R':aM},CG R R'->(∀r∈aM.res ρ R,r.ok A w)->∀r∈aM.res ρ R',r.ok A w
 |_,_, .nil,_=>λr hr=>by cases hr
 |_,_, .cons (p:=p) (p':=p') h hs,h0=>λr hr=>by
  rcases zu.1 hr with rfl|hr
  ·exact h.2.1 ρ A w (h0 _ zq)
  ·exact KF hs (λr hr=>h0 r (zH _ hr)) r hr
def N5{n:Nat}:∀{R R':aM},CG R R'->aM.ct n R->aM.ct n R'
 |_,_, .nil,h=>h
 |_,_, .cons (p:=p) (p':=p') h hs,h0=>λq hq=>by
  rcases zu.1 hq with rfl|hq
  ·exact⟨by rw[<-h.1];exact(h0 _ zq).1,h.2.2.2 n (h0 _ zq).2⟩
  ·exact N5 hs (λq hq=>h0 q (zH _ hq)) q hq
def stR(m:Nat)(q:ET->af γ)(r:aM->af δ)(s:St):af (γ×δ):=match zh s.nx m with
 |true=>(q s.E).bind λg=>(r s.R).map λh=>(g,h)
 |false=>J
def stP(m:Nat)(d:γ->Env)(e:δ->aM)(p:γ×δ):St:=⟨apF (d p.1),e p.2,m⟩
def als{n0 n m:Nat}{q:ET->af γ}{r:aM->af δ}{d:γ->Env}{e:δ->aM}(hq:oa q d)(hr:qU r e):n9 n0 n (stR m q r) (stP m d e):=λC s p a w _ h hm=>by
 unfold stR at h;split at h
 case h_2=>cases h
 rename_i hnx;have hnx:=dX hnx;obtain⟨g,hg,h⟩:=zn.1 h;obtain⟨g',hg',rfl⟩:=zk.1 h;obtain⟨E,hh,hE,hR,ρ,hag,hsim⟩:=hm;obtain⟨h1,h2⟩:=hq _ _ hg E hh;have h3:=hr _ _ hg';have hb:aY (aM.res ρ (e g'))=aY (aM.res ρ s.R):=(vk h3).symm;have hal:∀b,al C.C (aM.res ρ s.R) b->al C.C (aM.res ρ (e g')) b:=λb hA=>⟨hA.1,by rw[hb];exact hA.2⟩;subst hnx;have hdis:(aY (aM.res ρ (e g'))).Nodup:=by rw[hb];exact hsim.good.sN
 refine⟨d g,sx _,h2 _ hE,N5 h3 hR,ρ,hag,hsim.defers.step (λb _ hA=>⟨hal b hA,rfl⟩),hsim.size,λt av ht=> ?_,hsim.good.kept,λx hx=> ?_,hdis,λb hx=>hsim.good.own b (by rw[<-hb];exact hx)⟩
 ·obtain⟨v,q1,q2⟩:=h1 ρ _ w a.tmps hsim.slots t av ht;exact⟨v,q1,q2.mono λb _ hA=>⟨hal b hA,rfl⟩⟩
 ·exact(KF h3 hsim.good.res x hx).mono (λb _ hA=>⟨hal b hA,rfl⟩) (λ_ _=>rfl)
end
def rdM{γ γ':Type}(e:γ->γ')(rd:St->af γ)(s:St):af γ':=match rd s with
 |some p=>Q (e p)
 |none=>J
def n9.m{γ γ':Type}{n0 n:Nat}{rd:St->af γ}{pat:γ->St}(h:n9 n0 n rd pat)(e:γ->γ'){pat':γ'->St}(he:∀p,pat' (e p)=pat p):n9 n0 n (rdM e rd) pat':=λC s p a w hC hr hm=>by
 unfold rdM at hr;split at hr
 ·rename_i p' hp;cases hr;rw[he];exact h C s p' a w hC hp hm
 ·cases hr
def auP(c:Code):An->aa (Code×An):=
 Code.rec (λ_=>[]) (λ_ _ _ an=>match an with
   | .rb fs t=>[(.skip, .rb fs t)]
   |_=>[]) (λ_ _ x y an=>x an.l++y an.r) (λ_ _ _ x y an=>(match an with
   | .jn γ rd pat l r=>[(.skip, .jn γ rd pat l r)]
   |_=>[])++(x an.l++y an.r)) (λ_ _ x=>x)
  (λc x an=>match an with
   | .lp γ rd pat EE b=>(c, .lp γ rd pat EE b)::x b
   |an=>x an) (λ_ _ _ _ _ _ _=>[]) (λ_ _=>[]) (λ_ _ _=>[]) (λ_ _=>[]) (λ_ _=>[]) (λ_=>[]) (λ_ _=>[]) c
def afY(P:Program)(F:aI)(n0 n:Nat)(fuel:Nat)(p:Code×An):Prop:=match p.2 with
 | .lp _ rd pat EE b=>n9 n0 n rd pat/\No (bK P F n fuel p.1) rd pat EE b
 | .jn _ rd pat _ _=>n9 n0 n rd pat
 | .rb fs _=>∀f∈fs,aZ F f
 |_=>True
def aaa{P:Program}{F:aI}{n0 n fuel:Nat}(c:Code):∀an,(∀p∈auP c an,afY P F n0 n fuel p)->GS P F n0 n fuel c an:=by
 induction c with
 |region id ops draw=>
  intro an h;cases an with
  |rb fs t=>exact h (.skip, .rb fs t) (zC.2 rfl)
  |_=>exact trivial
 |seq x y hx hy=>
  intro an h;exact⟨hx an.l λp hp=>h p (zZ _ hp),hy an.r λp hp=>h p (yh _ hp)⟩
 |cond c x y hx hy=>
  intro an h;refine⟨λγ rd pat l r he=> ?_,hx an.l λp hp=>h p (yh _ (zZ _ hp)),hy an.r λp hp=>h p (yh _ (yh _ hp))⟩;subst he;exact h (.skip, .jn γ rd pat l r) (zZ _ (zC.2 rfl))
 |block id x hx=>exact λan h=>hx an h
 |loop c hc=>
  intro an h;cases an with
  |lp γ rd pat EE b=>
   have h0:=h (c, .lp γ rd pat EE b) zq;exact⟨h0.1,h0.2,hc b λp hp=>h p (zH _ hp)⟩
  |no=>exact hc _ h
  |two l r=>exact hc _ h
  |jn γ rd pat l r=>exact hc _ h
  |rb fs t=>exact hc _ h
 |_=>exact λan h=>trivial
def aD{P:Program}{F:aI}{n0 fuel f:Nat}{fn:Func}{c:Code}{an:An}{l:aa (Code×An)}(hf:P.funcs[f]? =Q fn)(hb:fn.body=Q c)(ho:auP c an=l)(h:∀p∈l,afY P F n0 fn.ntmps fuel p):bx P F n0 fuel f an:=λfn' c' h1 h2=>by
 rw[hf]at h1;cases h1;rw[hb]at h2;cases h2;exact aaa c an (by rw[ho];exact h)
def MD(fn:Func):Code:=match fn.body with
 |some c=>c
 |none=> .skip
def aq{fn:Func}(h:fn.body.isNone=V):fn.body=Q (MD fn):=by
 unfold MD;cases hb:fn.body with
 |none=>rw[hb]at h;cases h
 |some c=>rfl
def Y7(c:Code):aa Code:=Code.rec [] (λ_ _ _=>[]) (λ_ _ x y=>x++y) (λ_ _ _ x y=>x++y) (λ_ _ x=>x) (λc x=>c::x) (λ_ _ _ _ _ _=>[]) (λ_=>[]) (λ_ _=>[]) (λ_=>[]) (λ_=>[]) [] (λ_=>[]) c
def aN(fn:Func)(i:Nat):Code:=(Y7 (MD fn)).getD i .skip
end Go.Iv
end
noncomputable section
set_option maxRecDepth 100000
namespace Go.Proofs.YtghilkcphindjaaGreat
open Go Go.Iv
open Go.IntKind (i64 u64)
structure aj where
 (bG fN:Int)
 ay:List aj
instance:Inhabited aj:=⟨⟨0,0,[]⟩⟩
structure ax where
 (cM bN bz fN:Int)
 aB:aj
 (aU aV:List ax)
 aK:List Int
instance:Inhabited ax:=⟨⟨0,0,0,0,⟨0,0,[]⟩,[],[],[]⟩⟩
structure aT where
 fName:ByteArray
 (bU aG au gj:Int)
 deriving Inhabited,DecidableEq
structure cG where
 fName:ByteArray
 (aG au:Int)
 aB:aj
 deriving Inhabited
structure bB where
 ah:List aT
 ai:List cG
 bR:List ax
 deriving Inhabited
structure Slot where
 (bz cK cR:Int)
 deriving Inhabited,DecidableEq
structure aF where
 (bz aG au:Int)
 deriving Inhabited,DecidableEq
structure bO where
 ah:Int
 az:List aF
 bu:Int
 deriving Inhabited,DecidableEq
structure Mo where
 FZ:List Int
 ajF:Bool
 deriving Inhabited,DecidableEq
structure bh where
 bJ:List Int
 cH:Int
 deriving Inhabited,DecidableEq
structure aH where
 ah:Int
 aR:List Int
 az:List aF
 bu:Int
 deriving Inhabited,DecidableEq
structure oE where
 (Fu FZ abm:List Int)
 deriving Inhabited,DecidableEq
structure pq where
 (uQ bJ:List Int)
 cH:Int
 deriving Inhabited,DecidableEq
structure Map where
 auB:List bh
 rq:aH
 deriving Inhabited,DecidableEq
structure cc where
 fF:bB
 (ah Fu:Int)
 cZ:List Slot
 ai:List aH
 deriving Inhabited
structure hU where
 uQ:List aH
 mz:aH
 auN:List aH
 cH:aH
 deriving Inhabited,DecidableEq
structure aP where
 az:Int
 eS:Bool
 deriving Inhabited,DecidableEq
structure me where
 (eX bJ cH:Int)
 deriving Inhabited,DecidableEq
structure Gp where
 (cK MT:Int)
 deriving Inhabited,DecidableEq
structure End where
 TR:bO
 jv:hU
 deriving Inhabited,DecidableEq
structure Span where
 (aG au:Int)
 deriving Inhabited,DecidableEq
inductive Ky
 |k3
 |k4
 |k24
 |k26
 |k38
 |k42
 |k46
 |k53
 |k55
 |k65
 |k80
 |k84
 |k88
 |k96
 |k106
 |k108
 |k111
 |k113
 |k116
 |k138
 |k150
 |k175
 |k177
 |k181
 |k231
 |k273
 |k317
 |no
def ky:Nat->Ky
 |3=> .k3
 |4=> .k4
 |24=> .k24
 |26=> .k26
 |38=> .k38
 |42=> .k42
 |46=> .k46
 |53=> .k53
 |55=> .k55
 |65=> .k65
 |80=> .k80
 |84=> .k84
 |88=> .k88
 |96=> .k96
 |106=> .k106
 |108=> .k108
 |111=> .k111
 |113=> .k113
 |116=> .k116
 |138=> .k138
 |150=> .k150
 |175=> .k175
 |177=> .k177
 |181=> .k181
 |231=> .k231
 |273=> .k273
 |317=> .k317
 |_=> .no
def Cm:Ky->Type
 | .k3=>Int
 | .k4=>Bool
 | .k24=>aa ax
 | .k26=>bB
 | .k38=>Slot
 | .k42=>bO
 | .k46=>aa Int
 | .k53=>Mo
 | .k55=>bh
 | .k65=>Int
 | .k80=>aH
 | .k84=>oE
 | .k88=>pq
 | .k96=>Map
 | .k106=>aj
 | .k108=>aT
 | .k111=>ax
 | .k113=>aF
 | .k116=>cG
 | .k138=>cc
 | .k150=>hU
 | .k175=>Nat
 | .k177=>aP
 | .k181=>me
 | .k231=>Gp
 | .k273=>End
 | .k317=>Span
 | .no=>Unit
abbrev cn(t:Nat):Type:=Cm (ky t)
@[reducible] def inhK:(k:Ky)->Inhabited (Cm k)
 | .k3=>⟨(default:Int)⟩
 | .k4=>⟨(default:Bool)⟩
 | .k24=>⟨(default:aa ax)⟩
 | .k26=>⟨(default:bB)⟩
 | .k38=>⟨(default:Slot)⟩
 | .k42=>⟨(default:bO)⟩
 | .k46=>⟨(default:aa Int)⟩
 | .k53=>⟨(default:Mo)⟩
 | .k55=>⟨(default:bh)⟩
 | .k65=>⟨(default:Int)⟩
 | .k80=>⟨(default:aH)⟩
 | .k84=>⟨(default:oE)⟩
 | .k88=>⟨(default:pq)⟩
 | .k96=>⟨(default:Map)⟩
 | .k106=>⟨(default:aj)⟩
 | .k108=>⟨(default:aT)⟩
 | .k111=>⟨(default:ax)⟩
 | .k113=>⟨(default:aF)⟩
 | .k116=>⟨(default:cG)⟩
 | .k138=>⟨(default:cc)⟩
 | .k150=>⟨(default:hU)⟩
 | .k175=>⟨(0:Nat)⟩
 | .k177=>⟨(default:aP)⟩
 | .k181=>⟨(default:me)⟩
 | .k231=>⟨(default:Gp)⟩
 | .k273=>⟨(default:End)⟩
 | .k317=>⟨(default:Span)⟩
 | .no=>⟨()⟩
def szK:Ky->Nat
 | .k3=>1
 | .k4=>1
 | .k24=>1
 | .k26=>3
 | .k38=>3
 | .k42=>3
 | .k46=>1
 | .k53=>2
 | .k55=>2
 | .k65=>1
 | .k80=>4
 | .k84=>3
 | .k88=>3
 | .k96=>5
 | .k106=>3
 | .k108=>5
 | .k111=>10
 | .k113=>3
 | .k116=>6
 | .k138=>7
 | .k150=>10
 | .k175=>1
 | .k177=>2
 | .k181=>3
 | .k231=>2
 | .k273=>13
 | .k317=>2
 | .no=>0
def kY:(k:Ky)->Cm k->aa (bM cn)
 | .k3,x=>(λx:Int=>[.n .i64 x]) x
 | .k4,x=>(λx:Bool=>[.b x]) x
 | .k24,x=>(λx:aa ax=>[.sl 111 x]) x
 | .k26,x=>(λx:bB=>[.sl 108 x.ah, .sl 116 x.ai, .sl 111 x.bR]) x
 | .k38,x=>(λx:Slot=>[.n .i64 x.bz, .n .i64 x.cK, .n .i64 x.cR]) x
 | .k42,x=>(λx:bO=>[.n .i64 x.ah, .sl 113 x.az, .n .i64 x.bu]) x
 | .k46,x=>(λx:aa Int=>[.sl 3 x]) x
 | .k53,x=>(λx:Mo=>[.sl 3 x.FZ, .b x.ajF]) x
 | .k55,x=>(λx:bh=>[.sl 3 x.bJ, .n .i64 x.cH]) x
 | .k65,x=>(λx:Int=>[.n .i64 x]) x
 | .k80,x=>(λx:aH=>[.n .i64 x.ah, .sl 3 x.aR, .sl 113 x.az, .n .i64 x.bu]) x
 | .k84,x=>(λx:oE=>[.sl 3 x.Fu, .sl 3 x.FZ, .sl 3 x.abm]) x
 | .k88,x=>(λx:pq=>[.sl 3 x.uQ, .sl 3 x.bJ, .n .i64 x.cH]) x
 | .k96,x=>(λx:Map=>[.sl 55 x.auB, .n .i64 x.rq.ah, .sl 3 x.rq.aR, .sl 113 x.rq.az, .n .i64 x.rq.bu]) x
 | .k106,x=>(λx:aj=>[.n .i64 x.bG, .n .i64 x.fN, .sl 106 x.ay]) x
 | .k108,x=>(λx:aT=>[.s x.fName, .n .i64 x.bU, .n .i64 x.aG, .n .i64 x.au, .n .i64 x.gj]) x
 | .k111,x=>(λx:ax=>[.n .i64 x.cM, .n .i64 x.bN, .n .i64 x.bz, .n .i64 x.fN, .n .i64 x.aB.bG, .n .i64 x.aB.fN, .sl 106 x.aB.ay, .sl 111 x.aU, .sl 111 x.aV, .sl 3 x.aK]) x
 | .k113,x=>(λx:aF=>[.n .i64 x.bz, .n .i64 x.aG, .n .i64 x.au]) x
 | .k116,x=>(λx:cG=>[.s x.fName, .n .i64 x.aG, .n .i64 x.au, .n .i64 x.aB.bG, .n .i64 x.aB.fN, .sl 106 x.aB.ay]) x
 | .k138,x=>(λx:cc=>[.sl 108 x.fF.ah, .sl 116 x.fF.ai, .sl 111 x.fF.bR, .n .i64 x.ah, .n .i64 x.Fu, .sl 38 x.cZ, .sl 80 x.ai]) x
 | .k150,x=>(λx:hU=>[.sl 80 x.uQ, .n .i64 x.mz.ah, .sl 3 x.mz.aR, .sl 113 x.mz.az, .n .i64 x.mz.bu, .sl 80 x.auN, .n .i64 x.cH.ah, .sl 3 x.cH.aR, .sl 113 x.cH.az, .n .i64 x.cH.bu]) x
 | .k175,x=>(λx:Nat=>[.fn (.func x) []]) x
 | .k177,x=>(λx:aP=>[.n .i64 x.az, .b x.eS]) x
 | .k181,x=>(λx:me=>[.n .i64 x.eX, .n .i64 x.bJ, .n .i64 x.cH]) x
 | .k231,x=>(λx:Gp=>[.n .i64 x.cK, .n .i64 x.MT]) x
 | .k273,x=>(λx:End=>[.n .i64 x.TR.ah, .sl 113 x.TR.az, .n .i64 x.TR.bu, .sl 80 x.jv.uQ, .n .i64 x.jv.mz.ah, .sl 3 x.jv.mz.aR, .sl 113 x.jv.mz.az, .n .i64 x.jv.mz.bu, .sl 80 x.jv.auN, .n .i64 x.jv.cH.ah, .sl 3 x.jv.cH.aR, .sl 113 x.jv.cH.az, .n .i64 x.jv.cH.bu]) x
 | .k317,x=>(λx:Span=>[.n .i64 x.aG, .n .i64 x.au]) x
 | .no,_=>[]
instance uni:tQ:=⟨cn,λt=>inhK (ky t),λt=>szK (ky t),λt=>kY (ky t)⟩
def Xw:(k:Ky)->aa AV->af (Cm k)
 | .k3=>λcs=>((dQ (gQ .i64) pG) cs).map (λg:Int×Unit=>(g.1:Int))
 | .k4=>λcs=>((dQ RM pG) cs).map (λg:Bool×Unit=>(g.1:Bool))
 | .k24=>λcs=>((dQ (iP 111) pG) cs).map (λg:(aa (cn 111))×Unit=>(g.1:aa ax))
 | .k26=>λcs=>((dQ (iP 108) (dQ (iP 116) (dQ (iP 111) pG))) cs).map (λg:(aa (cn 108))×(aa (cn 116))×(aa (cn 111))×Unit=>((bB.mk g.1 g.2.1 g.2.2.1):bB))
 | .k38=>λcs=>((dQ (gQ .i64) (dQ (gQ .i64) (dQ (gQ .i64) pG))) cs).map (λg:Int×Int×Int×Unit=>((Slot.mk g.1 g.2.1 g.2.2.1):Slot))
 | .k42=>λcs=>((dQ (gQ .i64) (dQ (iP 113) (dQ (gQ .i64) pG))) cs).map (λg:Int×(aa (cn 113))×Int×Unit=>((bO.mk g.1 g.2.1 g.2.2.1):bO))
 | .k46=>λcs=>((dQ (iP 3) pG) cs).map (λg:(aa (cn 3))×Unit=>(g.1:aa Int))
 | .k53=>λcs=>((dQ (iP 3) (dQ RM pG)) cs).map (λg:(aa (cn 3))×Bool×Unit=>((Mo.mk g.1 g.2.1):Mo))
 | .k55=>λcs=>((dQ (iP 3) (dQ (gQ .i64) pG)) cs).map (λg:(aa (cn 3))×Int×Unit=>((bh.mk g.1 g.2.1):bh))
 | .k65=>λcs=>((dQ (gQ .i64) pG) cs).map (λg:Int×Unit=>(g.1:Int))
 | .k80=>λcs=>((dQ (gQ .i64) (dQ (iP 3) (dQ (iP 113) (dQ (gQ .i64) pG)))) cs).map (λg:Int×(aa (cn 3))×(aa (cn 113))×Int×Unit=>((aH.mk g.1 g.2.1 g.2.2.1 g.2.2.2.1):aH))
 | .k84=>λcs=>((dQ (iP 3) (dQ (iP 3) (dQ (iP 3) pG))) cs).map (λg:(aa (cn 3))×(aa (cn 3))×(aa (cn 3))×Unit=>((oE.mk g.1 g.2.1 g.2.2.1):oE))
 | .k88=>λcs=>((dQ (iP 3) (dQ (iP 3) (dQ (gQ .i64) pG))) cs).map (λg:(aa (cn 3))×(aa (cn 3))×Int×Unit=>((pq.mk g.1 g.2.1 g.2.2.1):pq))
 | .k96=>λcs=>((dQ (iP 55) (dQ (gQ .i64) (dQ (iP 3) (dQ (iP 113) (dQ (gQ .i64) pG))))) cs).map (λg:(aa (cn 55))×Int×(aa (cn 3))×(aa (cn 113))×Int×Unit=>((Map.mk g.1 (aH.mk g.2.1 g.2.2.1 g.2.2.2.1 g.2.2.2.2.1)):Map))
 | .k106=>λcs=>((dQ (gQ .i64) (dQ (gQ .i64) (dQ (iP 106) pG))) cs).map (λg:Int×Int×(aa (cn 106))×Unit=>((aj.mk g.1 g.2.1 g.2.2.1):aj))
 | .k108=>λcs=>((dQ asS (dQ (gQ .i64) (dQ (gQ .i64) (dQ (gQ .i64) (dQ (gQ .i64) pG))))) cs).map (λg:ByteArray×Int×Int×Int×Int×Unit=>((aT.mk g.1 g.2.1 g.2.2.1 g.2.2.2.1 g.2.2.2.2.1):aT))
 | .k111=>λcs=>((dQ (gQ .i64) (dQ (gQ .i64) (dQ (gQ .i64) (dQ (gQ .i64) (dQ (gQ .i64) (dQ (gQ .i64) (dQ (iP 106) (dQ (iP 111) (dQ (iP 111) (dQ (iP 3) pG)))))))))) cs).map (λg:Int×Int×Int×Int×Int×Int×(aa (cn 106))×(aa (cn 111))×(aa (cn 111))×(aa (cn 3))×Unit=>((ax.mk g.1 g.2.1 g.2.2.1 g.2.2.2.1 (aj.mk g.2.2.2.2.1 g.2.2.2.2.2.1 g.2.2.2.2.2.2.1) g.2.2.2.2.2.2.2.1 g.2.2.2.2.2.2.2.2.1 g.2.2.2.2.2.2.2.2.2.1):ax))
 | .k113=>λcs=>((dQ (gQ .i64) (dQ (gQ .i64) (dQ (gQ .i64) pG))) cs).map (λg:Int×Int×Int×Unit=>((aF.mk g.1 g.2.1 g.2.2.1):aF))
 | .k116=>λcs=>((dQ asS (dQ (gQ .i64) (dQ (gQ .i64) (dQ (gQ .i64) (dQ (gQ .i64) (dQ (iP 106) pG)))))) cs).map (λg:ByteArray×Int×Int×Int×Int×(aa (cn 106))×Unit=>((cG.mk g.1 g.2.1 g.2.2.1 (aj.mk g.2.2.2.1 g.2.2.2.2.1 g.2.2.2.2.2.1)):cG))
 | .k138=>λcs=>((dQ (iP 108) (dQ (iP 116) (dQ (iP 111) (dQ (gQ .i64) (dQ (gQ .i64) (dQ (iP 38) (dQ (iP 80) pG))))))) cs).map (λg:(aa (cn 108))×(aa (cn 116))×(aa (cn 111))×Int×Int×(aa (cn 38))×(aa (cn 80))×Unit=>((cc.mk (bB.mk g.1 g.2.1 g.2.2.1) g.2.2.2.1 g.2.2.2.2.1 g.2.2.2.2.2.1 g.2.2.2.2.2.2.1):cc))
 | .k150=>λcs=>((dQ (iP 80) (dQ (gQ .i64) (dQ (iP 3) (dQ (iP 113) (dQ (gQ .i64) (dQ (iP 80) (dQ (gQ .i64) (dQ (iP 3) (dQ (iP 113) (dQ (gQ .i64) pG)))))))))) cs).map (λg:(aa (cn 80))×Int×(aa (cn 3))×(aa (cn 113))×Int×(aa (cn 80))×Int×(aa (cn 3))×(aa (cn 113))×Int×Unit=>((hU.mk g.1 (aH.mk g.2.1 g.2.2.1 g.2.2.2.1 g.2.2.2.2.1) g.2.2.2.2.2.1 (aH.mk g.2.2.2.2.2.2.1 g.2.2.2.2.2.2.2.1 g.2.2.2.2.2.2.2.2.1 g.2.2.2.2.2.2.2.2.2.1)):hU))
 | .k175=>alR
 | .k177=>λcs=>((dQ (gQ .i64) (dQ RM pG)) cs).map (λg:Int×Bool×Unit=>((aP.mk g.1 g.2.1):aP))
 | .k181=>λcs=>((dQ (gQ .i64) (dQ (gQ .i64) (dQ (gQ .i64) pG))) cs).map (λg:Int×Int×Int×Unit=>((me.mk g.1 g.2.1 g.2.2.1):me))
 | .k231=>λcs=>((dQ (gQ .i64) (dQ (gQ .i64) pG)) cs).map (λg:Int×Int×Unit=>((Gp.mk g.1 g.2.1):Gp))
 | .k273=>λcs=>((dQ (gQ .i64) (dQ (iP 113) (dQ (gQ .i64) (dQ (iP 80) (dQ (gQ .i64) (dQ (iP 3) (dQ (iP 113) (dQ (gQ .i64) (dQ (iP 80) (dQ (gQ .i64) (dQ (iP 3) (dQ (iP 113) (dQ (gQ .i64) pG))))))))))))) cs).map (λg:Int×(aa (cn 113))×Int×(aa (cn 80))×Int×(aa (cn 3))×(aa (cn 113))×Int×(aa (cn 80))×Int×(aa (cn 3))×(aa (cn 113))×Int×Unit=>((End.mk (bO.mk g.1 g.2.1 g.2.2.1) (hU.mk g.2.2.2.1 (aH.mk g.2.2.2.2.1 g.2.2.2.2.2.1 g.2.2.2.2.2.2.1 g.2.2.2.2.2.2.2.1) g.2.2.2.2.2.2.2.2.1 (aH.mk g.2.2.2.2.2.2.2.2.2.1 g.2.2.2.2.2.2.2.2.2.2.1 g.2.2.2.2.2.2.2.2.2.2.2.1 g.2.2.2.2.2.2.2.2.2.2.2.2.1))):End))
 | .k317=>λcs=>((dQ (gQ .i64) (dQ (gQ .i64) pG)) cs).map (λg:Int×Int×Unit=>((Span.mk g.1 g.2.1):Span))
 | .no=>λ_=>J
def QZ:(k:Ky)->Pk (Xw k) (kY k)
 | .k3=>Pk.map (λg:Int×Unit=>(g.1:Int)) (.cons (.i .i64) .nil) (λ_=>rfl)
 | .k4=>Pk.map (λg:Bool×Unit=>(g.1:Bool)) (.cons .b .nil) (λ_=>rfl)
 | .k24=>Pk.map (λg:(aa (cn 111))×Unit=>(g.1:aa ax)) (.cons (.l 111) .nil) (λ_=>rfl)
 | .k26=>Pk.map (λg:(aa (cn 108))×(aa (cn 116))×(aa (cn 111))×Unit=>((bB.mk g.1 g.2.1 g.2.2.1):bB)) (.cons (.l 108) (.cons (.l 116) (.cons (.l 111) .nil))) (λ_=>rfl)
 | .k38=>Pk.map (λg:Int×Int×Int×Unit=>((Slot.mk g.1 g.2.1 g.2.2.1):Slot)) (.cons (.i .i64) (.cons (.i .i64) (.cons (.i .i64) .nil))) (λ_=>rfl)
 | .k42=>Pk.map (λg:Int×(aa (cn 113))×Int×Unit=>((bO.mk g.1 g.2.1 g.2.2.1):bO)) (.cons (.i .i64) (.cons (.l 113) (.cons (.i .i64) .nil))) (λ_=>rfl)
 | .k46=>Pk.map (λg:(aa (cn 3))×Unit=>(g.1:aa Int)) (.cons (.l 3) .nil) (λ_=>rfl)
 | .k53=>Pk.map (λg:(aa (cn 3))×Bool×Unit=>((Mo.mk g.1 g.2.1):Mo)) (.cons (.l 3) (.cons .b .nil)) (λ_=>rfl)
 | .k55=>Pk.map (λg:(aa (cn 3))×Int×Unit=>((bh.mk g.1 g.2.1):bh)) (.cons (.l 3) (.cons (.i .i64) .nil)) (λ_=>rfl)
 | .k65=>Pk.map (λg:Int×Unit=>(g.1:Int)) (.cons (.i .i64) .nil) (λ_=>rfl)
 | .k80=>Pk.map (λg:Int×(aa (cn 3))×(aa (cn 113))×Int×Unit=>((aH.mk g.1 g.2.1 g.2.2.1 g.2.2.2.1):aH)) (.cons (.i .i64) (.cons (.l 3) (.cons (.l 113) (.cons (.i .i64) .nil)))) (λ_=>rfl)
 | .k84=>Pk.map (λg:(aa (cn 3))×(aa (cn 3))×(aa (cn 3))×Unit=>((oE.mk g.1 g.2.1 g.2.2.1):oE)) (.cons (.l 3) (.cons (.l 3) (.cons (.l 3) .nil))) (λ_=>rfl)
 | .k88=>Pk.map (λg:(aa (cn 3))×(aa (cn 3))×Int×Unit=>((pq.mk g.1 g.2.1 g.2.2.1):pq)) (.cons (.l 3) (.cons (.l 3) (.cons (.i .i64) .nil))) (λ_=>rfl)
 | .k96=>Pk.map (λg:(aa (cn 55))×Int×(aa (cn 3))×(aa (cn 113))×Int×Unit=>((Map.mk g.1 (aH.mk g.2.1 g.2.2.1 g.2.2.2.1 g.2.2.2.2.1)):Map)) (.cons (.l 55) (.cons (.i .i64) (.cons (.l 3) (.cons (.l 113) (.cons (.i .i64) .nil))))) (λ_=>rfl)
 | .k106=>Pk.map (λg:Int×Int×(aa (cn 106))×Unit=>((aj.mk g.1 g.2.1 g.2.2.1):aj)) (.cons (.i .i64) (.cons (.i .i64) (.cons (.l 106) .nil))) (λ_=>rfl)
 | .k108=>Pk.map (λg:ByteArray×Int×Int×Int×Int×Unit=>((aT.mk g.1 g.2.1 g.2.2.1 g.2.2.2.1 g.2.2.2.2.1):aT)) (.cons .s (.cons (.i .i64) (.cons (.i .i64) (.cons (.i .i64) (.cons (.i .i64) .nil))))) (λ_=>rfl)
 | .k111=>Pk.map (λg:Int×Int×Int×Int×Int×Int×(aa (cn 106))×(aa (cn 111))×(aa (cn 111))×(aa (cn 3))×Unit=>((ax.mk g.1 g.2.1 g.2.2.1 g.2.2.2.1 (aj.mk g.2.2.2.2.1 g.2.2.2.2.2.1 g.2.2.2.2.2.2.1) g.2.2.2.2.2.2.2.1 g.2.2.2.2.2.2.2.2.1 g.2.2.2.2.2.2.2.2.2.1):ax)) (.cons (.i .i64) (.cons (.i .i64) (.cons (.i .i64) (.cons (.i .i64) (.cons (.i .i64) (.cons (.i .i64) (.cons (.l 106) (.cons (.l 111) (.cons (.l 111) (.cons (.l 3) .nil)))))))))) (λ_=>rfl)
 | .k113=>Pk.map (λg:Int×Int×Int×Unit=>((aF.mk g.1 g.2.1 g.2.2.1):aF)) (.cons (.i .i64) (.cons (.i .i64) (.cons (.i .i64) .nil))) (λ_=>rfl)
 | .k116=>Pk.map (λg:ByteArray×Int×Int×Int×Int×(aa (cn 106))×Unit=>((cG.mk g.1 g.2.1 g.2.2.1 (aj.mk g.2.2.2.1 g.2.2.2.2.1 g.2.2.2.2.2.1)):cG)) (.cons .s (.cons (.i .i64) (.cons (.i .i64) (.cons (.i .i64) (.cons (.i .i64) (.cons (.l 106) .nil)))))) (λ_=>rfl)
 | .k138=>Pk.map (λg:(aa (cn 108))×(aa (cn 116))×(aa (cn 111))×Int×Int×(aa (cn 38))×(aa (cn 80))×Unit=>((cc.mk (bB.mk g.1 g.2.1 g.2.2.1) g.2.2.2.1 g.2.2.2.2.1 g.2.2.2.2.2.1 g.2.2.2.2.2.2.1):cc)) (.cons (.l 108) (.cons (.l 116) (.cons (.l 111) (.cons (.i .i64) (.cons (.i .i64) (.cons (.l 38) (.cons (.l 80) .nil))))))) (λ_=>rfl)
 | .k150=>Pk.map (λg:(aa (cn 80))×Int×(aa (cn 3))×(aa (cn 113))×Int×(aa (cn 80))×Int×(aa (cn 3))×(aa (cn 113))×Int×Unit=>((hU.mk g.1 (aH.mk g.2.1 g.2.2.1 g.2.2.2.1 g.2.2.2.2.1) g.2.2.2.2.2.1 (aH.mk g.2.2.2.2.2.2.1 g.2.2.2.2.2.2.2.1 g.2.2.2.2.2.2.2.2.1 g.2.2.2.2.2.2.2.2.2.1)):hU)) (.cons (.l 80) (.cons (.i .i64) (.cons (.l 3) (.cons (.l 113) (.cons (.i .i64) (.cons (.l 80) (.cons (.i .i64) (.cons (.l 3) (.cons (.l 113) (.cons (.i .i64) .nil)))))))))) (λ_=>rfl)
 | .k175=>Pk.fn
 | .k177=>Pk.map (λg:Int×Bool×Unit=>((aP.mk g.1 g.2.1):aP)) (.cons (.i .i64) (.cons .b .nil)) (λ_=>rfl)
 | .k181=>Pk.map (λg:Int×Int×Int×Unit=>((me.mk g.1 g.2.1 g.2.2.1):me)) (.cons (.i .i64) (.cons (.i .i64) (.cons (.i .i64) .nil))) (λ_=>rfl)
 | .k231=>Pk.map (λg:Int×Int×Unit=>((Gp.mk g.1 g.2.1):Gp)) (.cons (.i .i64) (.cons (.i .i64) .nil)) (λ_=>rfl)
 | .k273=>Pk.map (λg:Int×(aa (cn 113))×Int×(aa (cn 80))×Int×(aa (cn 3))×(aa (cn 113))×Int×(aa (cn 80))×Int×(aa (cn 3))×(aa (cn 113))×Int×Unit=>((End.mk (bO.mk g.1 g.2.1 g.2.2.1) (hU.mk g.2.2.2.1 (aH.mk g.2.2.2.2.1 g.2.2.2.2.2.1 g.2.2.2.2.2.2.1 g.2.2.2.2.2.2.2.1) g.2.2.2.2.2.2.2.2.1 (aH.mk g.2.2.2.2.2.2.2.2.2.1 g.2.2.2.2.2.2.2.2.2.2.1 g.2.2.2.2.2.2.2.2.2.2.2.1 g.2.2.2.2.2.2.2.2.2.2.2.2.1))):End)) (.cons (.i .i64) (.cons (.l 113) (.cons (.i .i64) (.cons (.l 80) (.cons (.i .i64) (.cons (.l 3) (.cons (.l 113) (.cons (.i .i64) (.cons (.l 80) (.cons (.i .i64) (.cons (.l 3) (.cons (.l 113) (.cons (.i .i64) .nil))))))))))))) (λ_=>rfl)
 | .k317=>Pk.map (λg:Int×Int×Unit=>((Span.mk g.1 g.2.1):Span)) (.cons (.i .i64) (.cons (.i .i64) .nil)) (λ_=>rfl)
 | .no=> .none
def ahk:(k:Ky)->aa (Cm k)->af (aa Int)
 |_,_=>J
def Uy(l:aa Int):l.flatMap (λx=>[bM.n (cA:=cn) .u8 x])=l.map (.n .u8):=by
 induction l with
 |nil=>rfl
 |cons a l ih=>rw[xH,ih];rfl
def Tg:(k:Ky)->(l:aa (Cm k))->(ns:aa Int)->ahk k l=Q ns->l.flatMap (kY k)=ns.map (.n .u8)/\szK k=1:=by
 intro k l ns h;cases k<;>first|(cases h;done)|(cases h;exact⟨Uy _,rfl⟩)
def aAX(k:Ky)(x:Cm k):yz (kY k x)=szK k:=by cases k<;>rfl
def aDr(k:Ky)(x:Cm k):(kY k x).all gF=true:=by cases k<;>rfl
def aBg(k:Ky)(x:Cm k)(ρ:Gh):(kY k x).map (bM.sub ρ)=kY k x:=X0 _ (by cases k<;>rfl) ρ
def az8(k:Ky)(x:Cm k)(n:Nat):∀c∈kY k x,ct n c:=Vv _ (by cases k<;>rfl) n
instance uniL:sG where
 len:=λt x=>aAX (ky t) x
 one:=λt x=>aDr (ky t) x
 clo:=λt x ρ=>aBg (ky t) x ρ
 nQ:=λt x n=>az8 (ky t) x n
 parse:=λt=>Xw (ky t)
 ja:=λt=>QZ (ky t)
 afv:=λt=>ahk (ky t)
 qB:=λt=>Tg (ky t)
 fz:=λf=>zh f 91||zh f 1000080||zh f 1000042||zh f 1000138||zh f 189||zh f 210||zh f 151||zh f 178||zh f 134||zh f 184||zh f 145||zh f 148||zh f 117||zh f 182||zh f 204||zh f 22||zh f 40
end Go.Proofs.YtghilkcphindjaaGreat
end
noncomputable section
namespace Go.Iv
variable [U:tQ] [L:sG]
open Go Go.RowKit
def jO(f:Nat->Nat)(n:Nat):AV->AV:=Nat.rec (λd=>match d with
 | .own i=> .own (f i)
 | .ptr i o=> .ptr (f i) o
 | .ra i t m o=> .ra (f i) t m o
 |d=>d) (λ_ ih d=>match d with
 | .own i=> .own (f i)
 | .ptr i o=> .ptr (f i) o
 | .ra i t m o=> .ra (f i) t m o
 | .agg cs=> .agg (cs.map ih)
 | .gH cs=> .gH (cs.map ih)
 | .fn g cs=> .fn g (cs.map ih)
 | .fp cs=> .fp (cs.map ih)
 |d=>d) n
def gN{f:Nat->Nat}{ρ ρ':Gh}{p:Nat->Bool}(hp:∀i,p i=O->ρ'.v (f i)=ρ.v i/\ρ'.b (f i)=ρ.b i):∀(n:Nat) {d:AV},jG p n d=O->(jO f n d).sub ρ'=d.sub ρ
 |0,d,h=>by
  cases d with
  |lit v=>show bM.sub ρ' (.lit v)=_;rw[bF,bF]
  |sl t l=>show bM.sub ρ' (.sl t l)=_;rw[fE,fE]
  |rp v k=>show bM.sub ρ' (.rp v k)=_;simp only[bM.sub]
  |own i=>show bM.sub ρ' (.own (f i))=_;rw[cD,cD,(hp _ h).1]
  |ptr i o=>show bM.sub ρ' (.ptr (f i) o)=_;rw[eO,eO,(hp _ h).2]
  |ra i t m o=>show bM.sub ρ' (.ra (f i) t m o)=_;rw[gX,gX,(hp _ h).1]
  |_=>cases h
 |n+1,d,h=>by
  have hL:∀{cs:aa AV},cs.all (jG p n)=O->(cs.map (jO f n)).map (bM.sub ρ')=cs.map (bM.sub ρ):=λ{cs} h=>by
   rw[yg];exact zR λc hc=>gN hp n (zx.1 h c hc)
  cases d with
  |lit v=>show bM.sub ρ' (.lit v)=_;rw[bF,bF]
  |sl t l=>show bM.sub ρ' (.sl t l)=_;rw[fE,fE]
  |rp v k=>show bM.sub ρ' (.rp v k)=_;simp only[bM.sub]
  |own i=>show bM.sub ρ' (.own (f i))=_;rw[cD,cD,(hp _ h).1]
  |ptr i o=>show bM.sub ρ' (.ptr (f i) o)=_;rw[eO,eO,(hp _ h).2]
  |ra i t m o=>show bM.sub ρ' (.ra (f i) t m o)=_;rw[gX,gX,(hp _ h).1]
  |fp cs=>show bM.sub ρ' (.fp (List.map (jO f n) cs))=_;rw[jx,jx,hL h]
  |agg cs=>show bM.sub ρ' (.agg (List.map (jO f n) cs))=_;rw[dS,dS,hL h]
  |gH cs=>show bM.sub ρ' (.gH (List.map (jO f n) cs))=_;rw[iq,iq,hL h]
  |fn g cs=>show bM.sub ρ' (.fn g (List.map (jO f n) cs))=_;rw[oI,oI,hL h]
def jb{f:Nat->Nat}{p:Nat->Bool}{m:Nat}(hp:∀i,p i=O->f i<m):∀(n:Nat) {d:AV},jG p n d=O->ct m (jO f n d)
 |0,d,h=>by
  cases d<;>first|exact .lit _|exact .sl _ _|exact .rp _ _|exact .own _ (hp _ h)|exact .ptr _ _ (hp _ h)|exact .ra _ _ _ _ (hp _ h)|(cases h;done)
 |n+1,d,h=>by
  have hL:∀{cs:aa AV},cs.all (jG p n)=O->∀c∈cs.map (jO f n),ct m c:=λ{cs} h c hc=>by
   obtain⟨c',h1,rfl⟩:=zy.1 hc;exact jb hp n (zx.1 h c' h1)
  cases d<;>first|exact .lit _|exact .sl _ _|exact .rp _ _|exact .own _ (hp _ h)|exact .ptr _ _ (hp _ h)|exact .ra _ _ _ _ (hp _ h)|exact .agg _ (hL h)|exact .gH _ (hL h)|exact .fn _ _ (hL h)|exact .fp _ (hL h)
def HZ(f:Nat->Nat):IR->IR
 | .box T cs=> .box T (cs.map (jO f 4))
 |r=>r
def jc(l:aa Nat)(i:Nat):Nat:=List.rec 0 (λj _ ih=>match zh j i with
 |true=>0
 |false=>ih+1) l
def pY:∀{l:aa Nat} {i:Nat},i∈l->l[jc l i]? =Q i
 |j::l,i,h=>by
  show (j::l)[match zh j i with
   |true=>0
   |false=>jc l i+1]? =Q i
  cases hb:zh j i with
  |true=>have:=dX hb;subst this;rfl
  |false=>
   have hne:i≠j:=λe=>by subst e;rw[yH]at hb;cases hb
   exact pY ((zu.1 h).resolve_left hne)
def Gv(ts:aa Nat)(E:ET):Env:=ts.filterMap λt=>(cu E t).map λd=>(t,d)
def Rg{E:ET}:∀(ts:aa Nat) t d,Env.get (Gv ts E) t=Q d->cu E t=Q d:=λts=>by
 induction ts with
 |nil=>intro t d h;cases h
 |cons u ts ih=>
  intro t d h;unfold Gv at h;rw[xd]at h;cases hu:cu E u with
  |none=>rw[hu]at h;exact ih t d h
  |some x=>
   rw[hu]at h;by_cases hut:u=t
   ·subst hut;have h:Env.get ((u,x)::_) u=Q d:=h;rw[Env.dP]at h;rw[hu,h]
   ·have h:Env.get ((u,x)::_) t=Q d:=h;rw[Env.cW _ _ hut]at h;exact ih t d h
def pick(i:Nat)(R:aM):af ((Nat×IR)×aM):=List.rec J (λp R ih=>match zh p.1 i with
 |true=>Q (p,R)
 |false=>match ih with
  |some x=>Q (x.1,p::x.2)
  |none=>J) R
def DA{i:Nat}:∀{R:aM} {x},pick i R=Q x->List.Perm R (x.1::x.2)
 |[],x,h=>by cases h
 |p::R,x,h=>by
  have h:(match zh p.1 i with
   |true=>Q (p,R)
   |false=>match pick i R with
    |some x=>Q (x.1,p::x.2)
    |none=>J)=Q x:=h
  split at h
  ·cases h;exact .refl _
  ·split at h
   ·rename_i y hy;cases h;exact((DA hy).cons p).trans (.swap _ _ _)
   ·cases h
def lS(ns:aa Nat):aM->aM×aM:=List.rec (λR=>([],R)) (λi _ ih R=>match pick i R with
 |some x=>(x.1::(ih x.2).1,(ih x.2).2)
 |none=>ih R) ns
def kP:∀(ns:aa Nat) (R:aM),List.Perm R ((lS ns R).1++(lS ns R).2)
 |[],R=> .refl _
 |i::ns,R=>by
  show List.Perm R ((match pick i R with
   |some x=>(x.1::(lS ns x.2).1,(lS ns x.2).2)
   |none=>lS ns R).1++(match pick i R with
   |some x=>(x.1::(lS ns x.2).1,(lS ns x.2).2)
   |none=>lS ns R).2)
  split
  ·rename_i x hx;exact(DA hx).trans ((kP ns x.2).cons _)
  ·exact kP ns R
def upto(n:Nat):aa Nat:=Nat.rec [] (λi ih=>ih++[i]) n
def Vc{n i:Nat}(h:i<n):i∈upto n:=by
 induction n with
 |zero=>omega
 |succ n ih=>
  show i∈upto n++[n];by_cases hi:i=n
  ·subst hi;simp
  ·exact zZ _ (ih (by omega))
def VG{n i:Nat}(h:i<n):(upto n)[i]? =Q i:=by
 induction n with
 |zero=>omega
 |succ n ih=>
  show (upto n++[n])[i]? =Q i;have hl:∀n,yz (upto n)=n:=λn=>by
   induction n with
   |zero=>rfl
   |succ n ih=>show yz (upto n++[n])=n+1;simp[ih]
  by_cases hi:i=n
  ·subst hi;rw[xO (by rw[hl];exact zA _),hl,xy];rfl
  ·rw[xY (by rw[hl];omega)];exact ih (by omega)
def rE:∀n,yz (upto n)=n:=λn=>by
 induction n with
 |zero=>rfl
 |succ n ih=>show yz (upto n++[n])=n+1;simp[ih]
def jD(n0:Nat)(dr rest:aa Nat)(i:Nat):Nat:=match cC i dr with
 |true=>n0+jc rest i
 |false=>jc (upto n0++rest) i
def Wj(n0:Nat)(dr:aa Nat)(l:Env)(R:aM)(rest:aa Nat):af St:=match l.all (λq=>jG (λi=>cC i rest|| !cC i dr&&zD i n0) 4 q.2)&&R.all (λq=>(cC q.1 rest|| !cC q.1 dr&&zD q.1 n0)&&match q.2 with
  | .box _ cs=>cs.all (jG (λi=>cC i rest|| !cC i dr&&zD i n0) 4)
  | .row _ _=>O
  | .mp _=>O
  | .md _ _ _=>O)with
 |true=>Q ⟨apF (l.map λq=>(q.1,jO (jD n0 dr rest) 4 q.2)),R.map λq=>(jD n0 dr rest q.1,HZ (jD n0 dr rest) q.2),n0+yz rest⟩
 |false=>J
def WO(n0:Nat)(dr:aa Nat)(l:Env)(R:aM):af St:=Wj n0 dr l R ((R.map λq=>q.1).filter λi=>cC i dr|| !zD i n0)
def canon(n0:Nat)(dr:aa Nat)(ts:aa Nat)(s:St):af St:=WO n0 dr (Gv ts s.E) (lS ((upto n0).filter (λi=> !cC i dr)++reach s.R 3 (((Gv ts s.E).flatMap λq=>ku 4 q.2)++(upto n0).filter (λi=> !cC i dr))) s.R).1
def WX{n0 n:Nat}{dr ts:aa Nat}{C:Cg}{s s':St}{a:Act}{w:World}(hC:C.n=n0)(h:canon n0 dr ts s=Q s')(hm:Mt C n s a w):Mt C n s' a w:=by
 unfold canon WO at h;generalize hl:Gv ts s.E=l at h;generalize hR:(lS ((upto n0).filter (λi=> !cC i dr)++reach s.R 3 ((l.flatMap λq=>ku 4 q.2)++(upto n0).filter (λi=> !cC i dr))) s.R)=R2 at h;have hperm:List.Perm s.R (R2.1++R2.2):=by rw[<-hR];exact kP _ _
 obtain⟨R,Rr⟩:=R2;dsimp only at h hperm;generalize hns:((R.map λq=>q.1).filter λi=>cC i dr|| !zD i n0)=rest at h;unfold Wj at h;split at h
 case h_2=>cases h
 rename_i hb;cases h;rw[zj]at hb;obtain⟨hb1,hb2⟩:=hb;obtain⟨E,hh,hE,hR0,ρ,hag,hsim⟩:=hm
 let ρ':Gh:=⟨λj=>ρ.v ((upto n0++rest).getD j 0),λj=>ρ.b ((upto n0++rest).getD j 0)⟩
 have hget:∀i,(cC i rest|| !cC i dr&&zD i n0)=O->(upto n0++rest)[jD n0 dr rest i]? =Q i:=λi hi=>by
  unfold jD;cases hd:cC i dr with
  |true=>
   rw[hd]at hi;have hi:cC i rest=O:=by simpa using hi
   show (upto n0++rest)[n0+jc rest i]? =Q i;rw[xO (by rw[rE];omega),rE,Nat.add_sub_cancel_left];exact pY (di.1 hi)
  |false=>
   rw[hd]at hi;show (upto n0++rest)[jc (upto n0++rest) i]? =Q i;refine pY ?_;rw[yL]at hi;rcases hi with hi|hi
   ·exact yh _ (di.1 hi)
   ·refine zZ _ (Vc ?_);simpa [y9]using hi
 have hp:∀i,(cC i rest|| !cC i dr&&zD i n0)=O->ρ'.v (jD n0 dr rest i)=ρ.v i/\ρ'.b (jD n0 dr rest i)=ρ.b i:=λi hi=>by
  have e:(upto n0++rest).getD (jD n0 dr rest i) 0=i:=by rw[x8,hget i hi];rfl
  exact⟨by show ρ.v ((upto n0++rest).getD (jD n0 dr rest i) 0)=_;rw[e],by show ρ.b ((upto n0++rest).getD (jD n0 dr rest i) 0)=_;rw[e]⟩
 have hll:yz (upto n0++rest)=n0+yz rest:=by rw[zF,rE]
 have hlt:∀i,(cC i rest|| !cC i dr&&zD i n0)=O->jD n0 dr rest i<n0+yz rest:=λi hi=>by
  rw[<-hll];exact(zQ.1 (hget i hi)).1
 have hres:aM.res ρ' (R.map λq=>(jD n0 dr rest q.1,HZ (jD n0 dr rest) q.2))=aM.res ρ R:=by
  unfold aM.res;rw[yg];refine zR λq hq=> ?_;have hbq:=zx.1 hb2 q hq;rw[zj]at hbq;have hm:=hbq.1;have hbq:=hbq.2;obtain⟨i,r⟩:=q;cases r with
  |row t l=>show bH.row (ρ'.v (jD n0 dr rest i)) t l= .row (ρ.v i) t l;rw[(hp i hm).1]
  |mp es=>show bH.mp (ρ'.v (jD n0 dr rest i)) es= .mp (ρ.v i) es;rw[(hp i hm).1]
  |md k e l=>show bH.mp (ρ'.v (jD n0 dr rest i)) (l.map (kG k e))= .mp (ρ.v i) (l.map (kG k e));rw[(hp i hm).1]
  |box T cs=>
   show bH.box (ρ'.b (jD n0 dr rest i)) T ((cs.map (jO (jD n0 dr rest) 4)).map (bM.sub ρ'))= .box (ρ.b i) T (cs.map (bM.sub ρ));rw[(hp i hm).2,yg]
   congr 1
   exact zR λc hc=>gN hp 4 (zx.1 hbq c hc)
 have hp2:List.Perm (aM.res ρ s.R) (aM.res ρ (R++Rr)):=hperm.map _;have hsim2:=hsim.perm hp2;rw[eN]at hsim2;have hless:=hsim2.less (List.sublist_append_left _ _);refine⟨l.map λq=>(q.1,jO (jD n0 dr rest) 4 q.2),sx _,λq hq=> ?_,λq hq=> ?_,ρ',⟨λi hi=> ?_,?_⟩,?_⟩
 ·obtain⟨q',h1,rfl⟩:=zy.1 hq;exact jb hlt 4 (zx.1 hb1 q' h1)
 ·obtain⟨q',h1,rfl⟩:=zy.1 hq;have hbq:=zx.1 hb2 q' h1;rw[zj]at hbq;have hm:=hbq.1;have hbq:=hbq.2;refine⟨hlt _ hm,?_⟩;obtain⟨i,r⟩:=q';cases r with
  |row t l=>trivial
  |mp es=>trivial
  |md k e l=>trivial
  |box T cs=>
   intro c hc;obtain⟨c',h3,rfl⟩:=zy.1 hc;exact jb hlt 4 (zx.1 hbq c' h3)
 ·rw[hC]at hi;have e:(upto n0++rest).getD i 0=i:=by
   rw[x8,xY (by rw[rE];exact hi),VG hi];rfl
  have:=hag.1 i (by rw[hC];exact hi);exact⟨by show C.ρ.v i=ρ.v ((upto n0++rest).getD i 0);rw[e];exact this.1,by show C.ρ.b i=ρ.b ((upto n0++rest).getD i 0);rw[e];exact this.2⟩
 ·rw[hC];show n0<=n0+yz rest;exact Nat.le_add_right _ _
 ·rw[hres];refine⟨hless.defers,hless.size,λt av ht=> ?_,hless.good⟩;have e:∀(l:Env),(∀q∈l,jG (λi=>cC i rest|| !cC i dr&&zD i n0) 4 q.2=O)->Env.sub ρ' (l.map λq=>(q.1,jO (jD n0 dr rest) 4 q.2))=Env.sub ρ l:=λl hl=>by
   unfold Env.sub;rw[yg];exact zR λq hq=>by
    show (q.1,(jO (jD n0 dr rest) 4 q.2).sub ρ')=_;rw[gN hp 4 (hl q hq)]
  rw[e l (λq hq=>zx.1 hb1 q hq),Env.eA]at ht;obtain⟨d,hd,rfl⟩:=zk.1 ht;rw[<-hl]at hd;exact hless.slots t _ (by rw[Env.eA,hh t d (Rg ts t d hd)];rfl)
def rdC{γ:Type}(n0:Nat)(dr ts:aa Nat)(rd:St->af γ)(s:St):af γ:=(canon n0 dr ts s).bind rd
def anR{γ:Type}{n0 n:Nat}{dr ts:aa Nat}{rd:St->af γ}{pat:γ->St}(h:n9 n0 n rd pat):n9 n0 n (rdC n0 dr ts rd) pat:=λC s p a w hC hr hm=>by
 obtain⟨s',h1,h2⟩:=zn.1 hr;exact h C s' p a w hC h2 (WX hC h1 hm)
def oO{β:Type}(f:β->β)(j:Nat)(l:aa β):aa β:=List.rec (λ_=>[]) (λb l ih j=>match zh j 0 with
 |true=>f b::l
 |false=>b::ih (j-1)) l j
def qN{β γ:Type}{f:β->β}{g g':β->γ}:∀(l:aa β) (j:Nat),(∀b∈l,g (f b)=g' b)->(∀b∈l,g b=g' b)->(oO f j l).map g=l.map g'
 |[],_,_,_=>rfl
 |b::l,j,h1,h2=>by
  show (match zh j 0 with
   |true=>f b::l
   |false=>b::oO f (j-1) l).map g=_
  split
  ·rw[zO,zO,h1 b zq,zR λc hc=>h2 c (zH _ hc)]
  ·rw[zO,zO,h2 b zq,qN l (j-1) (λc hc=>h1 c (zH _ hc)) (λc hc=>h2 c (zH _ hc))]
def pZ{β:Type}{f:β->β}{p:β->Prop}:∀(l:aa β) (j:Nat),(∀b∈l,p (f b))->(∀b∈l,p b)->∀b∈oO f j l,p b
 |[],_,_,_,b,hb=>by cases hb
 |c::l,j,h1,h2,b,hb=>by
  have hb:b∈(match zh j 0 with
   |true=>f c::l
   |false=>c::oO f (j-1) l):=hb
  split at hb
  ·rcases zu.1 hb with rfl|hb
   ·exact h1 c zq
   ·exact h2 b (zH _ hb)
  ·rcases zu.1 hb with rfl|hb
   ·exact h2 b zq
   ·exact pZ l (j-1) (λc hc=>h1 c (zH _ hc)) (λc hc=>h2 c (zH _ hc)) b hb
def qI(nx:Nat)(p:aa Nat):AV->AV:=List.rec (λd=>match d with
 | .lit (.slice J 0 0)=> .own nx
 |d=>d) (λj _ ih d=>match d with
 | .agg cs=> .agg (oO ih j cs)
 | .gH cs=> .gH (oO ih j cs)
 |d=>d) p
def qY{ρ:Gh}{nx:Nat}:∀(p:aa Nat) (d:AV),ct nx d->(qI nx p d).sub (ρ.eC nx (.slice J 0 0))=d.sub ρ
 |[],d,h=>by
  show bM.sub _ (match d with
   | .lit (.slice J 0 0)=> .own nx
   |d=>d)=_
  split
  ·rw[cD,bF];simp[Gh.eC]
  ·exact(h.sub (.eC ρ nx _)).symm
 |j::p,d,h=>by
  show bM.sub _ (match d with
   | .agg cs=> .agg (oO (qI nx p) j cs)
   | .gH cs=> .gH (oO (qI nx p) j cs)
   |d=>d)=_
  split
  ·rw[dS,dS,qN _ j (λb hb=>qY p b (h.kj b hb)) (λb hb=>((h.kj b hb).sub (.eC ρ nx _)).symm)]
  ·rw[iq,iq,qN _ j (λb hb=>qY p b (h.w8 b hb)) (λb hb=>((h.w8 b hb).sub (.eC ρ nx _)).symm)]
  ·exact(h.sub (.eC ρ nx _)).symm
def qK{nx:Nat}:∀(p:aa Nat) (d:AV),ct nx d->ct (nx+1) (qI nx p d)
 |[],d,h=>by
  show ct (nx+1) (match d with
   | .lit (.slice J 0 0)=> .own nx
   |d=>d)
  split
  ·exact .own _ (z7 _)
  ·exact h.mono (yd _)
 |j::p,d,h=>by
  show ct (nx+1) (match d with
   | .agg cs=> .agg (oO (qI nx p) j cs)
   | .gH cs=> .gH (oO (qI nx p) j cs)
   |d=>d)
  split
  ·exact .agg _ (pZ _ j (λb hb=>qK p b (h.kj b hb)) (λb hb=>(h.kj b hb).mono (yd _)))
  ·exact .gH _ (pZ _ j (λb hb=>qK p b (h.w8 b hb)) (λb hb=>(h.w8 b hb).mono (yd _)))
  ·exact h.mono (yd _)
def aog(t:Nat)(p:aa Nat)(e:Nat)(s:St):St:=match cu s.E t with
 |some d=>⟨jE t (qI s.nx p d) s.E,(s.nx, .row e [])::s.R,s.nx+1⟩
 |none=>s
def qV(id j:Nat)(p:aa Nat)(e:Nat)(s:St):St:=match fk s.R id with
 |some (.box T cs)=>⟨s.E,(s.nx, .row e [])::mY id (.box T (oO (qI s.nx p) j cs)) s.R,s.nx+1⟩
 |_=>s
def O4{ρ:Gh}{R:aM}{nx e:Nat}:aM.res (ρ.eC nx (.slice J 0 0)) ((nx,IR.row e [])::R)=bH.row (.slice J 0 0) e []::aM.res (ρ.eC nx (.slice J 0 0)) R:=by
 show bH.row ((ρ.eC nx (.slice J 0 0)).v nx) e []::_=_;simp[Gh.eC,aM.res]
def afD{C:Cg}{n t e:Nat}{p:aa Nat}{s:St}{a:Act}{w:World}(hm:Mt C n s a w):Mt C n (aog t p e s) a w:=by
 unfold aog;split
 case h_2=>exact hm
 rename_i d hg;obtain⟨E,hh,hE,hR,ρ,hag,hsim⟩:=hm;have ht:=EP (C:=C.C) J e hsim.good;have hs:=hsim.tr ht;have hs1:E.sub ρ=E.sub (ρ.eC s.nx (.slice J 0 0)):=hE.sub (.eC ρ s.nx _);have hr1:aM.res ρ s.R=aM.res (ρ.eC s.nx (.slice J 0 0)) s.R:=hR.res (.eC ρ s.nx _);have hd:ct s.nx d:=hE _ (Env.get_mem (hh t d hg));refine⟨(t,qI s.nx p d)::E,hh.put t _,Env.qW (hE.mono (yd _)) (qK p d hd),λq hq=> ?_,ρ.eC s.nx (.slice J 0 0),⟨hag.1.trans (.eC ρ s.nx _) hag.2,zY hag.2 (yd _)⟩,?_⟩
 ·rcases zu.1 hq with rfl|hq
  ·exact⟨z7 _,trivial⟩
  ·exact(hR.mono (yd _)) q hq
 ·show jH C.C n ((t,bM.sub _ (qI s.nx p d))::E.sub _) (aM.res _ ((s.nx,IR.row e [])::s.R)) a w;rw[O4,<-hr1,<-hs1,qY p d hd];refine⟨hs.defers,hs.size,λu av hu=> ?_,hs.good⟩;by_cases htu:t=u
  ·subst htu;rw[Env.dP]at hu;cases hu;exact hs.slots t _ (by rw[Env.eA,hh t _ hg,zX])
  ·rw[Env.cW _ _ htu]at hu;exact hs.slots u av hu
def aeX{C:Cg}{n id j e:Nat}{p:aa Nat}{s:St}{a:Act}{w:World}(hm:Mt C n s a w):Mt C n (qV id j p e s) a w:=by
 unfold qV;split
 case h_2=>exact hm
 rename_i T cs hg;obtain⟨E,hh,hE,hR,ρ,hag,hsim⟩:=hm;have ht:=EP (C:=C.C) J e hsim.good;have hs:=hsim.tr ht;have hs1:E.sub ρ=E.sub (ρ.eC s.nx (.slice J 0 0)):=hE.sub (.eC ρ s.nx _);have hr1:aM.res ρ s.R=aM.res (ρ.eC s.nx (.slice J 0 0)) s.R:=hR.res (.eC ρ s.nx _);obtain⟨hid,hcs⟩:=Be hg hR;have hr2:aM.res (ρ.eC s.nx (.slice J 0 0)) (mY id (.box T (oO (qI s.nx p) j cs)) s.R)=aM.res ρ s.R:=by
  obtain⟨i,h1,h2,_⟩:=cU hg;rw[h2,nO,<-hr1];have e1:IR.res (ρ.eC s.nx (.slice J 0 0)) id (.box T (oO (qI s.nx p) j cs))=IR.res ρ id (.box T cs):=by
   show bH.box ((ρ.eC s.nx (.slice J 0 0)).b id) T ((oO (qI s.nx p) j cs).map (bM.sub _))= .box (ρ.b id) T (cs.map (bM.sub ρ));rw[qN cs j (λb hb=>qY p b (hcs b hb)) (λb hb=>((hcs b hb).sub (.eC ρ s.nx _)).symm)];rfl
  rw[e1];have h3:=eu (ρ:=ρ) h1;exact List.ext_getElem? λk=>by
   by_cases hk:i=k
   ·subst hk;rw[List.getElem?_set_self (zQ.1 h3).1,h3]
   ·rw[List.getElem?_set_ne hk]
 refine⟨E,hh,hE.mono (yd _),λq hq=> ?_,ρ.eC s.nx (.slice J 0 0),⟨hag.1.trans (.eC ρ s.nx _) hag.2,zY hag.2 (yd _)⟩,?_⟩
 ·rcases zu.1 hq with rfl|hq
  ·exact⟨z7 _,trivial⟩
  ·refine jV hg (hR.mono (yd _)) ?_ q hq;exact pZ cs j (λb hb=>qK p b (hcs b hb)) (λb hb=>(hcs b hb).mono (yd _))
 ·show jH C.C n (E.sub _) (aM.res _ ((s.nx,IR.row e [])::mY id (.box T (oO (qI s.nx p) j cs)) s.R)) a w;rw[O4,hr2,<-hs1];exact hs
def atA(p:aa Nat):AV->af Nat:=List.rec (λd=>match d with
 | .own i=>Q i
 |_=>J) (λj _ ih d=>match d with
 | .agg cs=>(cs[j]?).bind ih
 | .gH cs=>(cs[j]?).bind ih
 |_=>J) p
def aqD(t:Nat)(p:aa Nat)(s:St):St:=match cu s.E t with
 |some d=>match atA p d with
  |some i=>s.ug i
  |none=>s
 |none=>s
def axh(id j:Nat)(p:aa Nat)(s:St):St:=match fk s.R id with
 |some (.box _ cs)=>match (cs[j]?).bind (atA p)with
  |some i=>s.ug i
  |none=>s
 |_=>s
def rdF{γ:Type}(f:St->St)(rd:St->af γ)(s:St):af γ:=rd (f s)
def cq(f:St->St):Prop:=∀(C:Cg) n s a w,Mt C n s a w->Mt C n (f s) a w
def cq.s(t:Nat)(p:aa Nat)(e:Nat):cq (aog t p e):=λ_ _ _ _ _ h=>afD h
def cq.c(id j:Nat)(p:aa Nat)(e:Nat):cq (qV id j p e):=λ_ _ _ _ _ h=>aeX h
def cq.fs(t:Nat)(p:aa Nat):cq (aqD t p):=λ_ _ _ _ _ h=>by
 unfold aqD;split
 ·split
  ·exact h.ug _
  ·exact h
 ·exact h
def cq.fc(id j:Nat)(p:aa Nat):cq (axh id j p):=λ_ _ _ _ _ h=>by
 unfold axh;split
 ·split
  ·exact h.ug _
  ·exact h
 ·exact h
def ajZ{γ:Type}{n0 n:Nat}{f:St->St}{rd:St->af γ}{pat:γ->St}(hf:cq f)(h:n9 n0 n rd pat):n9 n0 n (rdF f rd) pat:=λC s p a w hC hr hm=>h C (f s) p a w hC hr (hf C n s a w hm)
section
variable {P:Program} {f:FuncId} {args:aa AV} {σp σr:aa bH} {Φ:AV->aa bH->Prop}
def Au{σ:aa bH}{w:World}{A:Nat->Prop}(hd:Hd A σ w)(hnd:(aY σ).Nodup):Good ⟨w,A,aY σ⟩ σ w:=
 have hal:∀b,A b->al ⟨w,A,aY σ⟩ σ b:=λb hA=>⟨.inl hA,λhx=>hd.2 b hx hA⟩
 ⟨Kp.refl _ _,λr hr=>(hd.1 r hr).mono (λb _ hA=>⟨hal b hA,rfl⟩) (λ_ _=>rfl),hnd,λb hb=> .inl hb⟩
def Kk{σ σ':aa bH}{X:aa Nat}{C:Cx}{w w':World}(h:Tr C X σ w σ' w')(hX:∀b∈X,b∈aY σ):Tr C (aY σ) σ w σ' w':=
 ⟨h.good,⟨h.kp.os,h.kp.tape,h.kp.output,h.kp.size,λk hk hn=>h.kp.block k hk λhx=>hn (hX k hx)⟩,λb hb hA=>⟨(h.al b hb hA).1,hA.2⟩⟩
def Fn.adi(h:Fn P f args σp Φ):Fn P f args (σp++σr) (λa s=>∃so,Φ a so/\s=so++σr):=λw A vs hrel hd0 hnd0=>by
 have hg:=Au hd0 hnd0;generalize hC:(⟨w,A,aY (σp++σr)⟩:Cx)=C at hg ⊢;have hdis:=hg.sN;rw[dY]at hdis;obtain⟨d1,d2,d3⟩:=yx.1 hdis;have hlt:∀b∈aY (σp++σr),b<w.heap.size:=λb hb=>by
  obtain⟨s,h1,h2⟩:=bw.1 hb;exact(hg.res s h1).lt h2
 have hal0:∀b,A b->al C (σp++σr) b:=λb hA=>by
  subst hC;exact⟨.inl hA,λhx=>hd0.2 b hx hA⟩
 have hd:Hd (al C (σp++σr)) σp w:=⟨λr hr=>hg.res r (zZ _ hr),λb hb hA=>hA.2 (bC.2 (.inl hb))⟩;refine(h w (al C (σp++σr)) vs (hrel.mono λb _ hA=>⟨hal0 b hA,rfl⟩) hd d1).mono λe w' ⟨v,av,σo,q1,q2,q3,q4⟩=> ?_;have hsub:∀b,al ⟨w,al C (σp++σr),aY σp⟩ σo b->al C (σo++σr) b:=λb hb=>by
  obtain⟨hb1,hb2⟩:=hb;rcases hb1 with hb1|hb1|hb1
  ·exact⟨hb1.1,λhx=>(bC.1 hx).elim hb2 (λh=>hb1.2 (bC.2 (.inr h)))⟩
  ·have hbp:b∈aY σp:=hb1;refine⟨?_,λhx=>(bC.1 hx).elim hb2 (λh=>d3 b hbp b h rfl)⟩;rcases hg.own b (bC.2 (.inl hbp))with h|h
   ·simp_all
   ·omega
  ·have hbw:w.heap.size<=b:=hb1;exact⟨.inr (.inr (zY hg.kept.size hbw)),λhx=>(bC.1 hx).elim hb2 (λh=>by have:=hlt b (bC.2 (.inr h));omega)⟩
 have ht:=u6 hg (λb hA _=> .inl hA) q3 (λr hr=>(q3.good.res r hr).mono (λb hb hA=>⟨hsub b hA,rfl⟩) (λ_ _=>rfl));exact⟨v,av,σo++σr,q1,⟨σo,q2,rfl⟩,Kk ht (λb hb=>bC.2 (.inl hb)),q4.mono λb hb hA=>⟨hsub b hA,rfl⟩⟩
def Fn.aDm{args':aa AV}{σr:aa bH}(h:Fn P f args' [] Φ)(hv:∀(A:Nat->Prop) (w:World) (us:aa Value),Hd A σr w->bn A w args us->bn (λb=>A b\/b∈aY σr) w args' us)
  (hc:∀av σo,Φ av σo->Cl av/\∀r∈σo,ClR r):Fn P f args σr (λa s=>∃so,Φ a so/\s=so++σr):=λw A vs hrel hd0 hnd0=>by
 have hg:=Au hd0 hnd0;generalize hC:(⟨w,A,aY σr⟩:Cx)=C at hg ⊢;have hal0:∀b,A b->al C σr b:=λb hA=>by
  subst hC;exact⟨.inl hA,λhx=>hd0.2 b hx hA⟩
 have h3:=hv (al C σr) w vs hg.hd (hrel.mono λb _ hA=>⟨hal0 b hA,rfl⟩);refine(h w _ vs h3 ⟨λr hr=>(by cases hr),λb hb=>(by cases hb)⟩ yY).mono λe w' ⟨v,av,σo,q1,q2,q3,q4⟩=> ?_;obtain⟨c1,c2⟩:=hc av σo q2;have ht:=u6 (σp:=[]) (σr:=σr) hg (λb hA _=>hA) q3 (λr hr=>c2 r hr _ _ w' (q3.good.res r hr));exact⟨v,av,σo++σr,q1,⟨σo,q2,rfl⟩,Kk (σ:=σr) ht (λb hb=>by cases hb),c1 _ _ w' v q4⟩
end
def aCi(n:Nat):AV->Bool:=jG (λ_=>V) n
def tR{A:Nat->Prop}{w:World}{cs:aa AV}{v:Value}(h:Rel A w (.fp cs) v):∃(b o:Nat) (us:aa Value),v= .pointer (Q ⟨b,o,J⟩)/\b<w.heap.size/\A b/\(∀j v,us[j]? =Q v->w.cell? ⟨b,o+j,J⟩=Q v)/\bn A w cs us:=by
 generalize ha:bM.fp cs=a at h;cases h with
 |fp cs' b o us hb hA hl hc hr=>cases ha;exact⟨b,o,us,rfl,hb,hA,hc,hl,hr⟩
 |_=>cases ha
def C9(lb:Bool)(rd:Nat->af IR)(n:Nat):AV->AV:=Nat.rec (λd=>match d with
 | .own id=>match rd id with
  |some (.row t l)=> .sl t l
  |_=> .own id
 |d=>d) (λ_ ih d=>match d with
 | .own id=>match rd id with
  |some (.row t l)=> .sl t l
  |_=> .own id
 | .ptr id 0=>match lb with
  |true=>match rd id with
   |some (.box _ cs)=> .fp (cs.map ih)
   |_=> .ptr id 0
  |false=> .ptr id 0
 | .agg cs=> .agg (cs.map ih)
 | .fn f cs=> .fn f (cs.map ih)
 |d=>d) n
def Uf{R:aM}{ρ:Gh}{A:Nat->Prop}{w:World}{v:Value}{id T:Nat}{cs:aa AV}(hd:Hd A (aM.res ρ R) w)(hg:fk R id=Q (.box T cs))(hr:Rel A w ((bM.ptr (cA:=U.cA) id 0).sub ρ) v):
  Rel (λb=>A b\/b∈aY (aM.res ρ R)) w (.fp (cs.map (bM.sub ρ))) v:=by
 obtain⟨i,hi,_⟩:=cU hg;have hres:=eu (ρ:=ρ) hi;rw[eO]at hr;exact Vw.box i hres A w v hd hr
def Rh{lb:Bool}{R:aM}{ρ:Gh}{A:Nat->Prop}{w:World}(hd:Hd A (aM.res ρ R) w):∀(n:Nat) {d:AV} {v:Value},Rel (λb=>A b\/b∈aY (aM.res ρ R)) w (d.sub ρ) v->Rel (λb=>A b\/b∈aY (aM.res ρ R)) w ((C9 lb (fk R) n d).sub ρ) v:=by
 have hown:∀{id:Nat} {v:Value},Rel (λb=>A b\/b∈aY (aM.res ρ R)) w ((bM.own (cA:=U.cA) id).sub ρ) v->Rel (λb=>A b\/b∈aY (aM.res ρ R)) w ((match fk R id with
  |some (.row t l)=>bM.sl t l
  |_=> .own id).sub ρ) v:=λ{id v} h=>by
  rw[cD]at h;rw[h.bI];exact TO hd (by rw[cD];exact .lit _)
 intro n;induction n with
 |zero=>
  intro d v h;cases d<;>first|exact h|exact hown h
 |succ n ih=>
  have hL:∀{cs:aa AV} {us:aa Value},bn (λb=>A b\/b∈aY (aM.res ρ R)) w (cs.map (bM.sub ρ)) us->bn (λb=>A b\/b∈aY (aM.res ρ R)) w ((cs.map (C9 lb (fk R) n)).map (bM.sub ρ)) us:=λ{cs us} h=>
   ⟨by simpa using h.1,λj a u q1 q2=>by
    rw[yg,zN]at q1;obtain⟨c,hc,rfl⟩:=zk.1 q1;exact ih (h.2 j _ u (by rw[zN,hc];rfl) q2)⟩
  intro d v h;cases d with
  |own id=>exact hown h
  |agg cs=>
   show Rel _ w ((bM.agg (cs.map (C9 lb (fk R) n))).sub ρ) v;rw[dS]at h ⊢;obtain⟨us,rfl,h2⟩:=h.fG;exact Rel.kj (hL h2)
  |fn f cs=>
   show Rel _ w ((bM.fn f (cs.map (C9 lb (fk R) n))).sub ρ) v;rw[oI]at h ⊢;obtain⟨us,rfl,h2⟩:=h.Ud;have h3:=hL h2;exact .fn f _ us h3.1 h3.2
  |ptr id off=>
   cases off with
   |succ o=>exact h
   |zero=>
    cases lb with
    |false=>exact h
    |true=>
     show Rel _ w (bM.sub ρ (match fk R id with
      |some (.box _ cs)=> .fp (cs.map (C9 O (fk R) n))
      |_=> .ptr id 0)) v
     split
     ·rename_i T cs hg;have h0:Rel A w ((bM.ptr (cA:=U.cA) id 0).sub ρ) v:=by
       rw[eO]at h ⊢;rw[h.bI];exact .lit _
      obtain⟨b,o,us,rfl,q1,q2,q3,q4⟩:=tR (Uf hd hg h0);rw[jx];have q5:=hL q4;exact .fp _ b o us q1 q2 q5.1 q3 q5.2
     ·exact h
  |_=>exact h
def jq(l:aa Nat)(n0 nx:Nat)(i:Nat):Nat:=match zD i n0 with
 |true=>l.getD i 0
 |false=>nx+(i-n0)
def Out.okB(n0:Nat)(x:Out):Bool:=z8 n0 x.c&&jG (λi=>zD i x.c) 4 x.d&&x.R.all λq=>zD q.1 x.c&&match q.2 with
 | .box _ cs=>cs.all (jG (λi=>zD i x.c) 4)
 | .row _ _=>O
 | .mp _=>O
 | .md _ _ _=>O
def X7{α γ β:Type}(q:aa AV->aM->af γ)(t:γ->af β)(out:β->Out)(n0:Nat)(args:aa AV)(nx:Nat)(k:AV->aM->Nat->af α)(F:af α)(Rp Rr:aM)(ns:aa Nat):af α:=
 match zh (yz Rp) n0&&args.all (jG (λi=>cC i ns) 4)&&Rp.all (λq=>match q.2 with
  | .box _ cs=>cs.all (jG (λi=>cC i ns) 4)
  | .row _ _=>O
  | .mp _=>O
  | .md _ _ _=>O)with
 |true=>match q (args.map (jO (jc ns) 4)) (Rp.map λq=>(jc ns q.1,HZ (jc ns) q.2))with
  |some g=>match t g with
   |some b=>k (jO (jq ns n0 nx) 4 (out b).d) ((out b).R.map (λq=>(jq ns n0 nx q.1,HZ (jq ns n0 nx) q.2))++Rr) (nx+((out b).c-n0))
   |none=>J
  |none=>F
 |false=>F
def VR{α γ β:Type}(q:aa AV->aM->af γ)(t:γ->af β)(out:β->Out)(n0:Nat)(args:aa AV)(nx:Nat)(k:AV->aM->Nat->af α)(F:af α)(R2:aM×aM):af α:=
 X7 q t out n0 args nx k F R2.1 R2.2 (R2.1.map λq=>q.1)
def ZU{γ β:Type}(f0 n0:Nat)(q:aa AV->aM->af γ)(t:γ->af β)(out:β->Out)(F:aI):aI:=λ_ f args R nx k=>match zh f f0 with
 |true=>VR q t out n0 args nx k (F _ f args R nx k) (lS (reach R 3 (args.flatMap (ku 4))) R)
 |false=>F _ f args R nx k
def QY{γ:Type}(q:aa AV->aM->af γ)(ca:γ->aa AV)(cr:γ->aM):Prop:=∀xs R g,q xs R=Q g->(∀(ρ:Gh) A w us,bn A w (xs.map (bM.sub ρ)) us->bn A w ((ca g).map (bM.sub ρ)) us)/\CG R (cr g)
def Fn.pre{P:Program}{f:FuncId}{args args':aa AV}{R R':aM}{ρ:Gh}{Φ:AV->aa bH->Prop}(h:Fn P f args' (aM.res ρ R') Φ)(ha:∀A w us,bn A w args us->bn A w args' us)(hr:CG R R'):Fn P f args (aM.res ρ R) Φ:=λw A vs h1 h2 h3=>by
 have hb:aY (aM.res ρ R)=aY (aM.res ρ R'):=vk hr;rw[hb];refine(h w A vs (ha A w vs h1) ⟨KF hr h2.1,λb hb'=>h2.2 b (by rw[hb];exact hb')⟩ (by rw[<-hb];exact h3)).mono λe w' ⟨v,av,σ',q1,q2,q3,q4⟩=>⟨v,av,σ',q1,q2,⟨q3.good,q3.kp,λb hb' hA=> ?_⟩,q4⟩;refine q3.al b hb' ⟨hA.1,?_⟩;rw[<-hb];exact hA.2
def akT{P:Program}{F:aI}{γ β:Type}{f0 n0:Nat}{q:aa AV->aM->af γ}{ca:γ->aa AV}{cr:γ->aM}{t:γ->af β}{out:β->Out}(hF:gu P F)(hf:rP P f0)(hq:QY q ca cr)(hm:∀b,(out b).okB n0=O)
  (h:∀g b,t g=Q b->Gu P f0 (ca g) (cr g) n0 (out b)):gu P (ZU f0 n0 q t out F):=λα f args R nx k r hr hargs hR=>by
 unfold ZU at hr;split at hr
 case h_2=>exact hF α f args R nx k r hr hargs hR
 rename_i hb;have hb:=dX hb;subst hb;unfold VR at hr;generalize hR2:lS (reach R 3 (args.flatMap (ku 4))) R=R2 at hr;have hperm:List.Perm R (R2.1++R2.2):=by rw[<-hR2];exact kP _ _
 obtain⟨Rp,Rr⟩:=R2;dsimp only at hr hperm;generalize hns:(Rp.map λq=>q.1)=ns at hr;unfold X7 at hr;split at hr
 case h_2=>exact hF α f args R nx k r hr hargs hR
 rename_i hchk;rw[zj,zj]at hchk;obtain⟨⟨hc0,hc1⟩,hc2⟩:=hchk;have hc0:=dX hc0;split at hr
 case h_2=>exact hF α f args R nx k r hr hargs hR
 rename_i g hg;split at hr
 case h_2=>cases hr
 rename_i b hb;have hlen:yz ns=n0:=by rw[<-hns,zI,hc0]
 have hRs:∀p∈Rp++Rr,p.1<nx/\p.2.ct nx:=λp hp=>hR p (hperm.mem_iff.2 hp);have hnsl:∀i∈ns,i<nx:=λi hi=>by
  rw[<-hns]at hi;obtain⟨p,hp,rfl⟩:=zy.1 hi;exact(hRs p (zZ _ hp)).1
 obtain⟨hqa,hqr⟩:=hq _ _ g hg;have hok:=hm b;unfold Out.okB at hok;rw[zj,zj]at hok;obtain⟨⟨ho0,ho1⟩,ho2⟩:=hok;have ho0:n0<=(out b).c:=by simpa using ho0
 refine⟨hf,λρ=> ?_⟩
 let ρ0:Gh:=⟨λj=>ρ.v (ns.getD j 0),λj=>ρ.b (ns.getD j 0)⟩
 have hp:∀i,cC i ns=O->ρ0.v (jc ns i)=ρ.v i/\ρ0.b (jc ns i)=ρ.b i:=λi hi=>by
  have:=pY (di.1 hi);have e:ns.getD (jc ns i) 0=i:=by rw[x8,this];rfl
  exact⟨by show ρ.v (ns.getD (jc ns i) 0)=_;rw[e],by show ρ.b (ns.getD (jc ns i) 0)=_;rw[e]⟩
 have ea:(args.map (jO (jc ns) 4)).map (bM.sub ρ0)=args.map (bM.sub ρ):=by
  rw[yg];exact zR λc hc=>gN hp 4 (zx.1 hc1 c hc)
 have er:aM.res ρ0 (Rp.map λq=>(jc ns q.1,HZ (jc ns) q.2))=aM.res ρ Rp:=by
  unfold aM.res;rw[yg];refine zR λq hq=> ?_;have hm:cC q.1 ns=O:=di.2 (by rw[<-hns];exact zy.2 ⟨q,hq,rfl⟩);have hbq:=zx.1 hc2 q hq;obtain⟨i,rr⟩:=q;cases rr with
  |row t l=>show bH.row (ρ0.v (jc ns i)) t l= .row (ρ.v i) t l;rw[(hp i hm).1]
  |mp es=>show bH.mp (ρ0.v (jc ns i)) es= .mp (ρ.v i) es;rw[(hp i hm).1]
  |md k e l=>show bH.mp (ρ0.v (jc ns i)) (l.map (kG k e))= .mp (ρ.v i) (l.map (kG k e));rw[(hp i hm).1]
  |box T cs=>
   show bH.box (ρ0.b (jc ns i)) T ((cs.map (jO (jc ns) 4)).map (bM.sub ρ0))= .box (ρ.b i) T (cs.map (bM.sub ρ));rw[(hp i hm).2,yg]
   congr 1
   exact zR λc hc=>gN hp 4 (zx.1 hbq c hc)
 have h1:=Fn.pre (h g b hb ρ0) (hqa ρ0) hqr;rw[ea,er]at h1;have h2:=Fn.adi (σr:=aM.res ρ Rr) h1;rw[<-eN]at h2;have hp2:List.Perm (aM.res ρ R) (aM.res ρ (Rp++Rr)):=hperm.map _;have h3:Fn P f (args.map (bM.sub ρ)) (aM.res ρ R) (λa s=>∃so,(∃ρ':Gh,l6 n0 ρ0 ρ'/\a=(out b).d.sub ρ'/\List.Perm so (aM.res ρ' (out b).R))/\s=so++aM.res ρ Rr):=λw A vs q1 q2 q3=>by
  have hbm:∀x,x∈aY (aM.res ρ (Rp++Rr))↔x∈aY (aM.res ρ R):=λx=>(hp2.symm.filterMap _).mem_iff;refine(h2 w A vs q1 ⟨λr hr=>q2.1 r (hp2.mem_iff.2 hr),λx hx=>q2.2 x ((hbm x).1 hx)⟩ ((hp2.filterMap _).nodup_iff.1 q3)).mono λe w' ⟨v,av,σ',g1,g2,g3,g4⟩=> ?_;have hal:∀s x,al ⟨w,A,aY (aM.res ρ (Rp++Rr))⟩ s x->al ⟨w,A,aY (aM.res ρ R)⟩ s x:=λs x hx=>⟨hx.1.imp id (Or.imp (λh=>(hbm x).1 h) id),hx.2⟩;refine⟨v,av,σ',g1,g2,⟨⟨⟨g3.kp.os,g3.kp.tape,g3.kp.output,g3.kp.size,λk hk hn=>g3.kp.block k hk λhx=>hn ((hbm k).1 hx)⟩,λrr hrr=>(g3.good.res rr hrr).mono (λx _ hA=>⟨hal _ x hA,rfl⟩) (λ_ _=>rfl),g3.good.sN,λx hx=>(g3.good.own x hx).imp (λh=>(hbm x).1 h) id⟩,⟨g3.kp.os,g3.kp.tape,g3.kp.output,g3.kp.size,λk hk hn=>g3.kp.block k hk λhx=>hn ((hbm k).1 hx)⟩,λx hx hA=> ?_⟩,g4.mono λx _ hA=>⟨hal _ x hA,rfl⟩⟩;have hA':al ⟨w,A,aY (aM.res ρ (Rp++Rr))⟩ (aM.res ρ (Rp++Rr)) x:=⟨hA.1.imp id (Or.imp (λh=>(hbm x).2 h) id),λh=>hA.2 ((hbm x).1 h)⟩;exact⟨hal _ x (g3.al x hx hA').1,λh=>hA.2 h⟩
 refine Fn.mono h3 λa s ⟨so,⟨ρ1,g0,g1,g2⟩,g3⟩=> ?_
 let ρ2:Gh:=⟨λi=>if i<nx then ρ.v i else ρ1.v (n0+(i-nx)),λi=>if i<nx then ρ.b i else ρ1.b (n0+(i-nx))⟩
 have hag:l6 nx ρ ρ2:=λi hi=>⟨by simp only[ρ2,bS hi],by simp only[ρ2,bS hi]⟩;have hb2:∀i,zD i (out b).c=O->(ρ2.v (jq ns n0 nx i)=ρ1.v i/\ρ2.b (jq ns n0 nx i)=ρ1.b i)/\jq ns n0 nx i<nx+((out b).c-n0):=λi hi=>by
  have hi:i<(out b).c:=by simpa using hi
  unfold jq;split
  ·rename_i hlt;have hlt:i<n0:=by simpa using hlt
   obtain⟨e1,e2⟩:=g0 i hlt;have hlt2:i<yz ns:=by rw[hlen];exact hlt
   have hmem:ns.getD i 0∈ns:=by rw[x8,zm hlt2];exact yJ hlt2
   have h4:=hnsl _ hmem;refine⟨⟨?_,?_⟩,by omega⟩
   ·show (if ns.getD i 0<nx then ρ.v (ns.getD i 0)else _)=_;rw[bS h4];exact e1
   ·show (if ns.getD i 0<nx then ρ.b (ns.getD i 0)else _)=_;rw[bS h4];exact e2
  ·rename_i hlt;have hlt:¬i<n0:=by
    intro hx;have:zD i n0=O:=by rw[y9];exact hx
    rw[this]at hlt;cases hlt
   have h5:¬nx+(i-n0)<nx:=by omega
   have h6:n0+(nx+(i-n0)-nx)=i:=by omega
   refine⟨⟨?_,?_⟩,by omega⟩
   ·show (if nx+(i-n0)<nx then _ else ρ1.v (n0+(nx+(i-n0)-nx)))=_;rw[bT h5,h6]
   ·show (if nx+(i-n0)<nx then _ else ρ1.b (n0+(nx+(i-n0)-nx)))=_;rw[bT h5,h6]
 have hres:aM.res ρ2 ((out b).R.map λq=>(jq ns n0 nx q.1,HZ (jq ns n0 nx) q.2))=aM.res ρ1 (out b).R:=by
  unfold aM.res;rw[yg];refine zR λq hq=> ?_;have hbq:=zx.1 ho2 q hq;rw[zj]at hbq;obtain⟨i,rr⟩:=q;cases rr with
  |row t l=>show bH.row (ρ2.v (jq ns n0 nx i)) t l= .row (ρ1.v i) t l;rw[(hb2 i hbq.1).1.1]
  |mp es=>show bH.mp (ρ2.v (jq ns n0 nx i)) es= .mp (ρ1.v i) es;rw[(hb2 i hbq.1).1.1]
  |md k e l=>show bH.mp (ρ2.v (jq ns n0 nx i)) (l.map (kG k e))= .mp (ρ1.v i) (l.map (kG k e));rw[(hb2 i hbq.1).1.1]
  |box T cs=>
   show bH.box (ρ2.b (jq ns n0 nx i)) T ((cs.map (jO (jq ns n0 nx) 4)).map (bM.sub ρ2))= .box (ρ1.b i) T (cs.map (bM.sub ρ1));rw[(hb2 i hbq.1).1.2,yg]
   congr 1
   exact zR λc hc=>gN (λi hi=>(hb2 i hi).1) 4 (zx.1 hbq.2 c hc)
 refine⟨_,_,_,hr,by omega,jb (λi hi=>(hb2 i hi).2) 4 ho1,λq hq=> ?_,ρ2,hag,?_,?_⟩
 ·rcases zV.1 hq with hq|hq
  ·obtain⟨q',h4,rfl⟩:=zy.1 hq;have hbq:=zx.1 ho2 q' h4;rw[zj]at hbq;refine⟨(hb2 _ hbq.1).2,?_⟩;obtain⟨i,rr⟩:=q';cases rr with
   |row t l=>trivial
   |mp es=>trivial
   |md k e l=>trivial
   |box T cs=>
    intro c hc;obtain⟨c',h5,rfl⟩:=zy.1 hc;exact jb (λi hi=>(hb2 i hi).2) 4 (zx.1 hbq.2 c' h5)
  ·have:=hRs q (yh _ hq);exact⟨by omega,this.2.mono (by omega)⟩
 ·rw[g1];exact(gN (λi hi=>(hb2 i hi).1) 4 ho1).symm
 ·rw[g3,eN,hres,<-aM.ct.res (R:=Rr) (λq hq=>hRs q (yh _ hq)) hag];exact g2.append_right _
def scD(n:Nat):AV->Bool:=Nat.rec (λd=>match d with
 | .lit _=>O
 | .own _=>O
 | .ptr _ _=>O
 |_=>V) (λ_ ih d=>match d with
 | .lit _=>O
 | .own _=>O
 | .ptr _ _=>O
 | .agg cs=>cs.all ih
 | .gH cs=>cs.all ih
 |_=>V) n
def Tv{ρ:Gh}:∀(n:Nat) {d:AV},scD n d=O->Cl (d.sub ρ):=λn=>by
 induction n with
 |zero=>
  intro d h;cases d<;>first|(cases h;done)|(rw[bF];exact .lit _)|(rw[cD];exact .lit _)|(rw[eO];exact .lit _)
 |succ n ih=>
  have hL:∀{cs:aa AV},cs.all (scD n)=O->F7 (cs.map (bM.sub ρ)):=λ{cs} h=>by
   induction cs with
   |nil=>exact .nil
   |cons c cs ihc=>
    rw[xL,zj]at h;exact .cons (ih h.1) (ihc h.2)
  intro d h;cases d<;>first|(cases h;done)|(rw[bF];exact .lit _)|(rw[cD];exact .lit _)|(rw[eO];exact .lit _)|skip
  ·rw[dS];exact .agg (hL h)
  ·rw[iq];exact .gH (hL h)
def Oq{n:Nat}{ρ:Gh}:∀cs:aa AV,cs.all (scD n)=O->F7 (cs.map (bM.sub ρ))
 |[],_=> .nil
 |c::cs,h=>by
  rw[xL,zj]at h;exact .cons (Tv n h.1) (Oq cs h.2)
def Out.scB(sc:Nat->Bool)(x:Out):Bool:=scD 4 x.d&&x.R.all λq=>match q.2 with
 | .row t _=>sc t
 | .mp _=>V
 | .md _ _ _=>V
 | .box _ cs=>cs.all (scD 3)
def aeH{sc:Nat->Bool}(hsc:∀t,sc t=O->∀x,F7 (U.cells t x)){x:Out}(h:x.scB sc=O)(ρ:Gh):Cl (x.d.sub ρ)/\∀r∈aM.res ρ x.R,ClR r:=by
 unfold Out.scB at h;rw[zj]at h;refine⟨Tv 4 h.1,λr hr=> ?_⟩;obtain⟨q,hq,rfl⟩:=zy.1 hr;have hb:=zx.1 h.2 q hq;obtain⟨i,rr⟩:=q;cases rr with
 |row t l=>exact ClR.row (hsc t hb)
 |mp es=>cases hb
 |md k e l=>cases hb
 |box T cs=>
  exact ClR.box (Oq cs hb)
def MN{α γ β:Type}(q:aa AV->af γ)(t:γ->af β)(out:β->Out)(args:aa AV)(R:aM)(nx:Nat)(k:AV->aM->Nat->af α)(F:af α):af α:=
 match args.all (aCi 4)with
 |true=>match q args with
  |some g=>match t g with
   |some b=>k (jO (λi=>i+nx) 4 (out b).d) ((out b).R.map (λq=>(q.1+nx,HZ (λi=>i+nx) q.2))++R) ((out b).c+nx)
   |none=>J
  |none=>F
 |false=>F
def orL{γ β:Type}(f0:Nat)(lb:Bool)(q:aa AV->af γ)(t:γ->af β)(out:β->Out)(F:aI):aI:=λ_ f args R nx k=>match zh f f0 with
 |true=>MN q t out (args.map (C9 lb (fk R) 3)) R nx k (F _ f args R nx k)
 |false=>F _ f args R nx k
def anH{P:Program}{F:aI}{γ β:Type}{f0:Nat}{lb:Bool}{q:aa AV->af γ}{ca:γ->aa AV}{t:γ->af β}{out:β->Out}{sc:Nat->Bool}(hF:gu P F)(hsc:∀t,sc t=O->∀x,F7 (U.cells t x))(hf:rP P f0)(hq:Iu q ca)(hm:∀b,(out b).okB 0=O)(hs:∀b,(out b).scB sc=O)
  (h:∀g b,t g=Q b->Gu P f0 (ca g) [] 0 (out b)):gu P (orL f0 lb q t out F):=λα f args R nx k r hr hargs hR=>by
 unfold orL at hr;split at hr
 case h_2=>exact hF α f args R nx k r hr hargs hR
 rename_i hb;have hb:=dX hb;subst hb;unfold MN at hr;split at hr
 case h_2=>exact hF α f args R nx k r hr hargs hR
 split at hr
 case h_2=>exact hF α f args R nx k r hr hargs hR
 rename_i g hg;split at hr
 case h_2=>cases hr
 rename_i b hb;obtain⟨hqa,_⟩:=hq _ g hg;have hok:=hm b;unfold Out.okB at hok;rw[zj,zj]at hok;obtain⟨⟨_,ho1⟩,ho2⟩:=hok;refine⟨hf,λρ=> ?_⟩;have h1:Fn P f ((ca g).map (bM.sub ρ)) [] _:=h g b hb ρ;have h2:=Fn.aDm (args:=args.map (bM.sub ρ)) (σr:=aM.res ρ R) h1 (λA w us hd hrel=>by
  refine hqa ρ _ w us ⟨by simpa using hrel.1,λj a v q1 q2=> ?_⟩;rw[yg,zN]at q1;obtain⟨c,hc,rfl⟩:=zk.1 q1;exact Rh hd 3 ((hrel.2 j _ v (by rw[zN,hc];rfl) q2).mono λb _ hA=>⟨.inl hA,rfl⟩)) (λav σo ⟨ρ',_,e1,e2⟩=>by
   obtain⟨c1,c2⟩:=aeH hsc (hs b) ρ';subst e1;exact⟨c1,λr hr=>c2 r (e2.mem_iff.1 hr)⟩)
 have hlt:∀i,zD i (out b).c=O->i+nx<(out b).c+nx:=λi hi=>by rw[y9]at hi;omega
 refine Fn.mono h2 λa s ⟨s',⟨ρ1,_,g1,g2⟩,g3⟩=> ?_
 let ρ2:Gh:=⟨λi=>if i<nx then ρ.v i else ρ1.v (i-nx),λi=>if i<nx then ρ.b i else ρ1.b (i-nx)⟩
 have hag:l6 nx ρ ρ2:=λi hi=>⟨by simp only[ρ2,bS hi],by simp only[ρ2,bS hi]⟩;have hp:∀i,zD i (out b).c=O->ρ2.v (i+nx)=ρ1.v i/\ρ2.b (i+nx)=ρ1.b i:=λi _=>by
  have:¬i+nx<nx:=by omega
  exact⟨by simp only[ρ2,bT this,wA],by simp only[ρ2,bT this,wA]⟩
 have hres:aM.res ρ2 ((out b).R.map λq=>(q.1+nx,HZ (λi=>i+nx) q.2))=aM.res ρ1 (out b).R:=by
  unfold aM.res;rw[yg];refine zR λq hq=> ?_;have hbq:=zx.1 ho2 q hq;rw[zj]at hbq;obtain⟨i,rr⟩:=q;cases rr with
  |row t l=>show bH.row (ρ2.v (i+nx)) t l= .row (ρ1.v i) t l;rw[(hp i hbq.1).1]
  |mp es=>show bH.mp (ρ2.v (i+nx)) es= .mp (ρ1.v i) es;rw[(hp i hbq.1).1]
  |md k e l=>show bH.mp (ρ2.v (i+nx)) (l.map (kG k e))= .mp (ρ1.v i) (l.map (kG k e));rw[(hp i hbq.1).1]
  |box T cs=>
   show bH.box (ρ2.b (i+nx)) T ((cs.map (jO (λi=>i+nx) 4)).map (bM.sub ρ2))= .box (ρ1.b i) T (cs.map (bM.sub ρ1));rw[(hp i hbq.1).2,yg]
   congr 1
   exact zR λc hc=>gN hp 4 (zx.1 hbq.2 c hc)
 refine⟨_,_,_,hr,Nat.le_add_left _ _,jb hlt 4 ho1,λq hq=> ?_,ρ2,hag,?_,?_⟩
 ·rcases zV.1 hq with hq|hq
  ·obtain⟨q',h4,rfl⟩:=zy.1 hq;have hbq:=zx.1 ho2 q' h4;rw[zj]at hbq;refine⟨hlt _ hbq.1,?_⟩;obtain⟨i,rr⟩:=q';cases rr with
   |row t l=>trivial
   |mp es=>trivial
   |md k e l=>trivial
   |box T cs=>
    intro c hc;obtain⟨c',h5,rfl⟩:=zy.1 hc;exact jb hlt 4 (zx.1 hbq.2 c' h5)
  ·exact(hR.mono (Nat.le_add_left _ _)) q hq
 ·rw[g1];exact(gN hp 4 ho1).symm
 ·rw[g3,eN,hres,<-hR.res hag];exact g2.append_right _
def aQ{P:Program}:ak P cw:=⟨aj9,λ_ _ _ _ _ _ _ _=>rfl⟩
def adL{γ δ:Type}{f0 n0:Nat}{q:aa AV->aM->af γ}{t:γ->af δ}{out:δ->Out}{F:aI}(hN:dH F):dH (ZU f0 n0 q t out F):=λα β f args R nx k D=>by
 unfold ZU;split
 ·unfold VR X7;split
  ·split
   ·split<;>rfl
   ·exact hN ..
  ·exact hN ..
 ·exact hN ..
def ab3{γ δ:Type}{f0:Nat}{lb:Bool}{q:aa AV->af γ}{t:γ->af δ}{out:δ->Out}{F:aI}(hN:dH F):dH (orL f0 lb q t out F):=λα β f args R nx k D=>by
 unfold orL;split
 ·unfold MN;split
  ·split
   ·split<;>rfl
   ·exact hN ..
  ·exact hN ..
 ·exact hN ..
def aiS{P:Program}{F:aI}{γ β:Type}{f0 n0:Nat}{q:aa AV->aM->af γ}{ca:γ->aa AV}{cr:γ->aM}{t:γ->af β}{out:β->Out}(hF:ak P F)(hf:rP P f0)(hq:QY q ca cr)(hm:∀b,(out b).okB n0=O)
 (h:∀g b,t g=Q b->Gu P f0 (ca g) (cr g) n0 (out b)):ak P (ZU f0 n0 q t out F):=⟨akT hF.ok hf hq hm h,adL hF.nat⟩
def aqA{P:Program}{F:aI}{γ β:Type}{f0:Nat}{lb:Bool}{q:aa AV->af γ}{ca:γ->aa AV}{t:γ->af β}{out:β->Out}{sc:Nat->Bool}(hF:ak P F)(hsc:∀t,sc t=O->∀x,F7 (U.cells t x))(hf:rP P f0)(hq:Iu q ca)(hm:∀b,(out b).okB 0=O)(hs:∀b,(out b).scB sc=O)
 (h:∀g b,t g=Q b->Gu P f0 (ca g) [] 0 (out b)):ak P (orL f0 lb q t out F):=⟨anH hF.ok hsc hf hq hm hs h,ab3 hF.nat⟩
def cS{f:FuncId}:aZ cw f:=λ_ _ _ _ _ _ h=>by cases h
def cg{γ β:Type}{f0:Nat}{lb:Bool}{q:aa AV->af γ}{t:γ->af β}{out:β->Out}{F:aI}{f:FuncId}(h:aZ F f)(hm:∀b,(out b).R=[]):aZ (orL f0 lb q t out F) f:=λargs R nx d R' nx' hr=>by
 unfold orL at hr;split at hr
 ·unfold MN at hr;split at hr
  ·split at hr
   ·split at hr
    ·simp_all
    ·cases hr
   ·exact h _ _ _ _ _ _ hr
  ·exact h _ _ _ _ _ _ hr
 ·exact h _ _ _ _ _ _ hr
def qP{γ β:Type}{f0 n0:Nat}{q:aa AV->aM->af γ}{t:γ->af β}{out:β->Out}{F:aI}{f:FuncId}(hne:zh f f0=V)(h:aZ F f):aZ (ZU f0 n0 q t out F) f:=λargs R nx d R' nx' hr=>by
 unfold ZU at hr;rw[hne]at hr;exact h _ _ _ _ _ _ hr
def bV{α:Type}(b:Bool)(x y:α):(bif b then some x else some y)=some (bif b then x else y):=by cases b<;>rfl
def cv{α:Type}(p:Prop)[Decidable p](x y:α):(if p then Q x else Q y)=Q (if p then x else y):=by split<;>rfl
def gm{n0:Nat}{args:aa AV}(h:args.all (jG (λi=>zD i n0) 4)=O):∀d∈args,ct n0 d:=λd hd=>(uL 4 (zx.1 h d hd)).mono λi hi=>by rw[y9]at hi;exact hi
def fL{n0:Nat}{R:aM}(h:R.all (λq=>zD q.1 n0&&match q.2 with
  | .box _ cs=>cs.all (jG (λi=>zD i n0) 4)
  | .row _ _=>O
  | .mp _=>O
  | .md _ _ _=>O)=O):aM.ct n0 R:=λq hq=>by
 have hb:=zx.1 h q hq;rw[zj,y9]at hb;refine⟨hb.1,?_⟩;obtain⟨i,rr⟩:=q;cases rr with
 |row t l=>trivial
 |mp es=>trivial
 |md k e l=>trivial
 |box T cs=>exact gm hb.2
def qy0{γ:Type}(q:aa AV->af γ)(xs:aa AV)(R:aM):af γ:=match R with
 |[]=>q xs
 |_=>J
def ajy{γ:Type}{q:aa AV->af γ}{ca:γ->aa AV}(h:Iu q ca):QY (qy0 q) ca (λ_=>[]):=λxs R g hg=>by
 unfold qy0 at hg;split at hg
 ·exact⟨(h xs g hg).1, .nil⟩
 ·cases hg
def qyR{γ δ:Type}(q:aa AV->af γ)(r:aM->af δ)(xs:aa AV)(R:aM):af (γ×δ):=match q xs with
 |some g=>match r R with
  |some h=>Q (g,h)
  |none=>J
 |none=>J
def aok{γ δ:Type}{q:aa AV->af γ}{ca:γ->aa AV}{r:aM->af δ}{cr:δ->aM}(hq:Iu q ca)(hr:qU r cr):QY (qyR q r) (λg=>ca g.1) (λg=>cr g.2):=λxs R g hg=>by
 unfold qyR at hg;split at hg
 ·rename_i g' h1;split at hg
  ·rename_i h' h2;cases hg;exact⟨(hq xs g' h1).1,hr R h' h2⟩
  ·cases hg
 ·cases hg
open Classical in
def lim{β:Type}(m:Nat->af β):af β:=if h:∃b N,∀n,N<=n->m n=Q b then Q (Classical.choose h)else J
def bX{β:Type}{m:Nat->af β}{b:β}(h:lim m=Q b):∃n,m n=Q b:=by
 unfold lim at h;split at h
 ·rename_i hx;cases h;obtain⟨N,hN⟩:=Classical.choose_spec hx;exact⟨N,hN N (zA _)⟩
 ·cases h
def dg{β:Type}{m:Nat->af β}{b:β}(N:Nat)(h:∀n,N<=n->m n=Q b):lim m=Q b:=by
 have hx:∃b N,∀n,N<=n->m n=Q b:=⟨b,N,h⟩;unfold lim;rw[dif_pos hx];obtain⟨M,hM⟩:=Classical.choose_spec hx;have h1:=hM (max M N) (Nat.le_max_left _ _);rw[h (max M N) (Nat.le_max_right _ _)]at h1;exact h1.symm
def YO{P:Program}{f:FuncId}{t:Nat}{x:Out}(h1:∀c,Gu P f [.lit (.slice J 0 c)] [] 0 x)(h2:∀a c,Gu P f [.lit (.slice (Q a) 0 c)] [] 0 x):Gu P f [.sl t []] [] 0 x:=λρ w A vs hr hd hn=>by
 have hr':bn A w [(bM.sl t []:AV).sub ρ] vs:=hr;obtain⟨v,us,rfl,h3,h4⟩:=hr'.head;rw[fE]at h3;obtain⟨p,c,g,hv,_⟩:=h3.oq;have hz:us=[]:=xx (by simpa using h4.1);subst hz hv;cases p with
 |none=>exact h1 c ρ w A _ (bn.cons (by rw[bF];exact .lit _) bn.nil) hd hn
 |some a=>exact h2 a c ρ w A _ (bn.cons (by rw[bF];exact .lit _) bn.nil) hd hn
def aDu:AV->Bool
 | .lit _=>O
 |_=>V
def Ph:∀(cs:aa AV),cs.all aDu=O->F7 cs
 |[],_=> .nil
 |c::cs,h=>by
  rw[xL,zj]at h;refine .cons ?_ (Ph cs h.2);cases c<;>first|(cases h.1;done)|exact .lit _
end Go.Iv
end
noncomputable section
set_option maxRecDepth 100000
namespace Go.Proofs.YtghilkcphindjaaGreat
open Go Go.Iv
open Go.IntKind (i64 u64)
def scK:Ky->Bool
 | .k3=>O
 | .k4=>O
 | .k38=>O
 | .k65=>O
 | .k108=>O
 | .k113=>O
 | .k177=>O
 | .k181=>O
 | .k231=>O
 | .k317=>O
 |_=>V
def dM(t:Nat):Bool:=scK (ky t)
def ajv:(k:Ky)->scK k=O->(x:Cm k)->F7 (kY k x):=by
 intro k h x;cases k<;>first|(cases h;done)|exact Ph _ rfl
def aX(t:Nat)(h:dM t=O)(x:uni.cA t):F7 (uni.cells t x):=ajv (ky t) h x
end Go.Proofs.YtghilkcphindjaaGreat
end
noncomputable section
namespace Go.Iv
open Go
variable [U:tQ] [L:sG]
def aJ{n:Int}(h1: -9223372036854775808<=n)(h2:n<9223372036854775808):IntKind.i64.wrap n=n:=by
 simp[IntKind.wrap,IntKind.bits,IntKind.signed];omega
def iG{α β ρ:Type}(step:β->α->af β)(ret:β->α->ρ)(fin:β->ρ):aa α->β->ρ
 |[],b=>fin b
 |x::xs,b=>match step b x with
  |some b'=>iG step ret fin xs b'
  |none=>ret b x
def Dt{γ α β ρ:Type}{rnd:γ->af (af γ)}(l:aa α)(mk:Nat->β->γ)(step:β->α->af β)(ret:β->α->ρ)(fin:β->ρ)(I:Nat->β->Prop)
  (h1:∀i b (hi:i<yz l),I i b->∀b',step b l[i]=Q b'->rnd (mk i b)=Q (Q (mk (i+1) b'))/\I (i+1) b')
  (h2:∀i b (hi:i<yz l),I i b->step b l[i]=J->∀r,rnd (mk i b)≠Q (Q r)) (h3:∀b,I (yz l) b->∀r,rnd (mk (yz l) b)≠Q (Q r)) {b:β} (hb:I 0 b):
  ∃i v,i<=yz l/\b6 rnd (mk 0 b)=Q (mk i v)/\I i v/\((i=yz l/\iG step ret fin l b=fin v)\/∃hi:i<yz l,step v l[i]=J/\iG step ret fin l b=ret v l[i]):=by
 have key:∀(xs:aa α) (i:Nat) (b:β),l.drop i=xs->i<=yz l->I i b->∃j v,j<=yz l/\b6 rnd (mk i b)=Q (mk j v)/\I j v/\((j=yz l/\iG step ret fin xs b=fin v)\/∃hi:j<yz l,step v l[j]=J/\iG step ret fin xs b=ret v l[j]):=by
  intro xs;induction xs with
  |nil=>
   intro i b hd hi hb;have:i=yz l:=by have:=congrArg yz hd;simp at this;omega
   subst this;exact⟨_,b,zA _,cE (h3 b hb),hb, .inl ⟨rfl,rfl⟩⟩
  |cons x xs ih=>
   intro i b hd hi hb;have hil:i<yz l:=by have:=congrArg yz hd;simp at this;omega
   have hx:l[i]=x:=by
    have:=congrArg List.head? hd;rw[List.head?_drop,zm hil]at this;simp_all
   have hd':l.drop (i+1)=xs:=by
    have:=congrArg List.tail hd;rw[List.tail_drop]at this
    assumption
   cases hs:step b x with
   |some b'=>
    obtain⟨q1,q2⟩:=h1 i b hil hb b' (by rw[hx];exact hs);obtain⟨j,v,e1,e2,e3,e4⟩:=ih (i+1) b' hd' hil q2;have er:iG step ret fin (x::xs) b=iG step ret fin xs b':=by simp only[iG,hs]
    exact⟨j,v,e1,by rw[cB q1];exact e2,e3,by rw[er];exact e4⟩
   |none=>
    have er:iG step ret fin (x::xs) b=ret b x:=by simp only[iG,hs]
    exact⟨i,b,hi,cE (h2 i b hil hb (by rw[hx];exact hs)),hb, .inr ⟨hil,by rw[hx];exact hs,by rw[er,hx]⟩⟩
 exact key l 0 b rfl (yy _) hb
end Go.Iv
end
noncomputable section
set_option maxRecDepth 100000
namespace Go.Proofs.YtghilkcphindjaaGreat
open Go Go.Iv
open Go.IntKind (i64 u64)
inductive BT where
 |leaf (x:Int)
 |node (v:Int) (a b:BT)
 deriving DecidableEq
namespace BT
def top(n:Int):BT->Int
 | .leaf _=>n
 | .node v _ _=>v
def sz:BT->Nat
 | .leaf _=>1
 | .node _ a b=>sz a+sz b+1
def pV(v:Int)(hi:Bool):BT->BT
 | .leaf x=> .leaf x
 | .node w a b=>if w=v then(if hi then b else a)else .node w a b
def Kv:BT->Bool
 | .leaf _=>V
 | .node _ _ _=>O
def lv:BT->Int
 | .leaf x=>x
 | .node _ _ _=>0
def Ord(n:Int):Int->BT->Prop
 |_, .leaf _=>True
 |v, .node w a b=>v<=w/\w<n/\a≠b/\Ord n (w+1) a/\Ord n (w+1) b
end BT
open BT
def jN(v:Int)(a b:BT):BT:=if a=b then a else .node v a b
def BT.Ord.le{n:Int}:∀{t:BT} {v w:Int},Ord n v t->w<=v->Ord n w t
 | .leaf _,_,_,_,_=>trivial
 | .node _ _ _,_,_,h,hw=>⟨Int.le_trans hw h.1,h.2⟩
def Ta{n v:Int}{a b:BT}(hv:v<n)(ha:Ord n (v+1) a)(hb:Ord n (v+1) b):Ord n v (jN v a b):=by
 unfold jN;split
 ·exact ha.le (by omega)
 ·rename_i h;exact⟨zL _,hv,h,ha,hb⟩
def tf:Nat->Int->(aa Bool->Int)->BT
 |0,_,F=> .leaf (F [])
 |k+1,v,F=>jN v (tf k (v+1) λe=>F (V::e)) (tf k (v+1) λe=>F (O::e))
def tB{n:Int}:∀{k:Nat} {v:Int} {F:aa Bool->Int},v+k=n->Ord n v (tf k v F)
 |0,_,_,_=>trivial
 |k+1,v,F,h=>Ta (by omega) (tB (by omega)) (tB (by omega))
def iw:∀{k:Nat} {v:Int} {F G:aa Bool->Int},(∀e:aa Bool,yz e=k->F e=G e)->tf k v F=tf k v G
 |0,_,_,_,h=>by simp only[tf];rw[h [] rfl]
 |k+1,v,F,G,h=>by
  simp only[tf];rw[iw (k:=k) (G:=λe=>G (V::e)) λe he=>h (V::e) (by simp[he]),iw (k:=k) (G:=λe=>G (O::e)) λe he=>h (O::e) (by simp[he])]
def iT(x:Int):∀(k:Nat) (v:Int),(tf k v λ_=>x)= .leaf x
 |0,_=>rfl
 |k+1,v=>by simp only[tf];rw[iT x k (v+1)];simp[jN]
def BT.jy(P:Int->Prop):BT->Prop
 | .leaf x=>P x
 | .node _ a b=>a.jy P/\b.jy P
def all_mk{P:Int->Prop}{v:Int}{a b:BT}(ha:a.jy P)(hb:b.jy P):(jN v a b).jy P:=by
 unfold jN;split
 ·exact ha
 ·exact⟨ha,hb⟩
def pP{P:Int->Prop}:∀{k:Nat} {v:Int} {F:aa Bool->Int},(∀e:aa Bool,yz e=k->P (F e))->(tf k v F).jy P
 |0,_,_,h=>h [] rfl
 |k+1,v,F,h=>all_mk (pP λe he=>h (V::e) (by simp[he])) (pP λe he=>h (O::e) (by simp[he]))
def ajG{n v w:Int}{hi:Bool}{t:BT}(h:Ord n w t)(hv:v<w):t.pV v hi=t:=by
 cases t with
 |leaf x=>rfl
 |node u a b=>
  have:=h.1;simp only[pV];rw[bT (by omega)]
def sB{n w:Int}{t:BT}(h:Ord n w t)(hw:w<=n):w<=t.top n:=by
 cases t with
 |leaf x=>exact hw
 |node u a b=>exact h.1
def s9{n v:Int}{a b:BT}(hi:Bool)(ha:Ord n (v+1) a):(jN v a b).pV v hi=if hi then b else a:=by
 unfold jN;split
 ·rename_i h;subst h;rw[ajG ha (by omega)];simp
 ·simp[pV]
inductive AP (n:Int) (f:Int->Int->Int->Int):Nat->BT->BT->BT->BT->Prop
 |leaf {d:Nat} (x y z:Int):AP n f d (.leaf x) (.leaf y) (.leaf z) (.leaf (f x y z))
 |node {d:Nat} {a b c r s:BT} (v:Int) (hv:v=min (a.top n) (min (b.top n) (c.top n))) (hn:v<n) (h0:AP n f d (a.pV v V) (b.pV v V) (c.pV v V) r) (h1:AP n f d (a.pV v O) (b.pV v O) (c.pV v O) s):AP n f (d+1) a b c (jN v r s)
def AP.ur{n:Int}{f:Int->Int->Int->Int}{d:Nat}{a b c r:BT}(h:AP n f d a b c r):∀{d':Nat} {r':BT},AP n f d' a b c r'->r=r':=by
 induction h with
 |leaf x y z=>
  intro d' r' h';cases h' with
  |leaf=>rfl
  |node v hv hn=>simp[top]at hv;omega
 |node v hv hn h0 h1 i0 i1=>
  intro d' r' h';cases h' with
  |leaf=>simp[top]at hv;omega
  |node v' hv' hn' h0' h1'=>
   have:v=v':=by rw[hv,hv']
   subst this;rw[i0 h0',i1 h1']
def AP.mono{n:Int}{f:Int->Int->Int->Int}{d:Nat}{a b c r:BT}(h:AP n f d a b c r):AP n f (d+1) a b c r:=by
 induction h with
 |leaf x y z=>exact .leaf x y z
 |node v hv hn h0 h1 i0 i1=>exact .node v hv hn i0 i1
def E6{n v:Int}{a b:BT}(ha:Ord n (v+1) a)(hv:v<n):(a≠b->(jN v a b).top n=v)/\v<=(jN v a b).top n:=by
 unfold jN;split
 ·rename_i h;exact⟨λh'=>gI h h',by have:=sB ha (by omega);omega⟩
 ·exact⟨λ_=>rfl,zL _⟩
def Ow{n:Int}{f:Int->Int->Int->Int}:∀{k:Nat} {v:Int} {F G H:aa Bool->Int},v+k=n->AP n f k (tf k v F) (tf k v G) (tf k v H) (tf k v λe=>f (F e) (G e) (H e))
 |0,v,F,G,H,h=>AP.leaf _ _ _
 |k+1,v,F,G,H,h=>by
  have i0:=Ow (f:=f) (F:=λe=>F (V::e)) (G:=λe=>G (V::e)) (H:=λe=>H (V::e)) (show v+1+(k:Int)=n by omega);have i1:=Ow (f:=f) (F:=λe=>F (O::e)) (G:=λe=>G (O::e)) (H:=λe=>H (O::e)) (show v+1+(k:Int)=n by omega);have oF0:Ord n (v+1) (tf k (v+1) λe=>F (V::e)):=tB (by omega);have oG0:Ord n (v+1) (tf k (v+1) λe=>G (V::e)):=tB (by omega);have oH0:Ord n (v+1) (tf k (v+1) λe=>H (V::e)):=tB (by omega);have hvn:v<n:=by omega
  by_cases hc:tf k (v+1) (λe=>F (V::e))=tf k (v+1) (λe=>F (O::e))/\tf k (v+1) (λe=>G (V::e))=tf k (v+1) (λe=>G (O::e))/\tf k (v+1) (λe=>H (V::e))=tf k (v+1) (λe=>H (O::e))
  ·obtain⟨c1,c2,c3⟩:=hc;rw[<-c1,<-c2,<-c3]at i1;have e:=i0.ur i1;simp only[tf];rw[<-c1,<-c2,<-c3,<-e];simp only[jN,dU];exact i0.mono
  ·simp only[tf];obtain⟨a1,a2⟩:=E6 (n:=n) (b:=tf k (v+1) λe=>F (O::e)) oF0 hvn;obtain⟨b1,b2⟩:=E6 (n:=n) (b:=tf k (v+1) λe=>G (O::e)) oG0 hvn;obtain⟨d1,d2⟩:=E6 (n:=n) (b:=tf k (v+1) λe=>H (O::e)) oH0 hvn;refine .node v ?_ hvn ?_ ?_
   ·by_cases h1:tf k (v+1) (λe=>F (V::e))=tf k (v+1) (λe=>F (O::e))
    ·by_cases h2:tf k (v+1) (λe=>G (V::e))=tf k (v+1) (λe=>G (O::e))
     ·have h3:¬tf k (v+1) (λe=>H (V::e))=tf k (v+1) (λe=>H (O::e)):=λh3=>hc ⟨h1,h2,h3⟩;have:=d1 h3;omega
     ·have:=b1 h2;omega
    ·have:=a1 h1;omega
   ·rw[s9 V oF0,s9 V oG0,s9 V oH0];exact i0
   ·rw[s9 O oF0,s9 O oG0,s9 O oH0];exact i1
def W1{n:Int}(f:Int->Int->Int->Int)(hf:∀x,f x 0 0=x):∀{t:BT} {v:Int} {d:Nat},Ord n v t->n<=v+d->AP n f d t (.leaf 0) (.leaf 0) t
 | .leaf x,v,d,_,_=>by
  have:=AP.leaf (n:=n) (f:=f) (d:=d) x 0 0
  rwa [hf]at this
 | .node w a b,v,0,h,hd=>by have:=h.1;have:=h.2.1;omega
 | .node w a b,v,d+1,h,hd=>by
  obtain⟨h1,h2,h3,h4,h5⟩:=h;have e:jN w a b= .node w a b:=by simp[jN,h3]
  rw[<-e];refine .node w ?_ h2 ?_ ?_
  ·rw[e];simp only[top];omega
  ·rw[e];simp only[pV,dU];exact W1 f hf h4 (by omega)
  ·rw[e];simp only[pV,dU];exact W1 f hf h5 (by omega)
abbrev Gr:=Int->af (Int ⊕ Int×Int×Int)
inductive Den (G:Gr):Int->BT->Prop
 |leaf {r x:Int} (h:G r=Q (.inl x)):Den G r (.leaf x)
 |node {r v a b:Int} {s t:BT} (h:G r=Q (.inr (v,a,b))) (ha:Den G a s) (hb:Den G b t):Den G r (.node v s t)
def Den.ur{G:Gr}{r:Int}{t:BT}(h:Den G r t):∀{t':BT},Den G r t'->t=t':=by
 induction h with
 |leaf h=>
  intro t' h';cases h' with
  |leaf h2=>rw[h]at h2;cases h2;rfl
  |node h2=>rw[h]at h2;cases h2
 |node h ha hb ia ib=>
  intro t' h';cases h' with
  |leaf h2=>rw[h]at h2;cases h2
  |node h2 ha' hb'=>
   rw[h]at h2;cases h2;rw[ia ha',ib hb']
def Gr.Inj(G:Gr):Prop:=∀r r' x,G r=Q x->G r'=Q x->r=r'
def Gr.Le(G H:Gr):Prop:=∀r x,G r=Q x->H r=Q x
def Den.inj{G:Gr}(hG:G.Inj){r:Int}{t:BT}(h:Den G r t):∀{r':Int},Den G r' t->r=r':=by
 induction h with
 |leaf h=>
  intro r' h';cases h' with
  |leaf h2=>exact hG _ _ _ h h2
 |node h ha hb ia ib=>
  intro r' h';cases h' with
  |node h2 ha' hb'=>
   rw[<-ia ha',<-ib hb']at h2;exact hG _ _ _ h h2
def Den.mono{G H:Gr}(hG:G.Le H){r:Int}{t:BT}(h:Den G r t):Den H r t:=by
 induction h with
 |leaf h=>exact .leaf (hG _ _ h)
 |node h ha hb ia ib=>exact .node (hG _ _ h) ia ib
def Gr.Le.trans{G H K:Gr}(h:G.Le H)(h':H.Le K):G.Le K:=λr x hx=>h' r x (h r x hx)
def Gr.Le.refl{G:Gr}:G.Le G:=λ_ _ h=>h
def bf:BT->aa BT->aa BT
 | .leaf x,l=>if BT.leaf x∈l then l else l++[.leaf x]
 | .node v a b,l=>if BT.node v a b∈bf b (bf a l)then bf b (bf a l)else bf b (bf a l)++[.node v a b]
def nK:∀(t:BT) (l:aa BT),∃m,bf t l=l++m
 | .leaf x,l=>by
  unfold bf;split
  ·exact⟨[],by simp⟩
  ·exact⟨_,rfl⟩
 | .node v a b,l=>by
  obtain⟨m1,h1⟩:=nK a l;obtain⟨m2,h2⟩:=nK b (bf a l);unfold bf;split
  ·exact⟨m1++m2,by rw[h2,h1,yT]⟩
  ·exact⟨m1++m2++[.node v a b],by rw[h2,h1];simp⟩
def bY:∀(t:BT) (l:aa BT),t∈bf t l
 | .leaf x,l=>by
  unfold bf;split
  ·assumption
  ·simp
 | .node v a b,l=>by
  unfold bf;split
  ·assumption
  ·simp
def gz(t:BT)(l:aa BT){u:BT}(h:u∈l):u∈bf t l:=by
 obtain⟨m,hm⟩:=nK t l;rw[hm];exact zZ _ h
def Cl(l:aa BT):Prop:=∀m v a b k,l=m++ .node v a b::k->a∈m/\b∈m
def Cl.snoc{l:aa BT}{t:BT}(h:Cl l)(ht:∀v a b,t= .node v a b->a∈l/\b∈l):Cl (l++[t]):=by
 intro m v a b k e;rcases List.eq_nil_or_concat k with hk|⟨k',x,hk⟩
 ·subst hk;obtain⟨e1,e2⟩:=List.append_inj' e rfl;cases e2;subst e1;exact ht v a b rfl
 ·subst hk;rw[List.concat_eq_append,show m++BT.node v a b::(k'++[x])=(m++BT.node v a b::k')++[x]by simp]at e;exact h m v a b k' (List.append_inj' e rfl).1
def Cl.parts{l:aa BT}(h:Cl l){v:Int}{a b:BT}(hm:BT.node v a b∈l):a∈l/\b∈l:=by
 obtain⟨m,k,e⟩:=List.append_of_mem hm;obtain⟨h1,h2⟩:=h m v a b k e;subst e;exact⟨zZ _ h1,zZ _ h2⟩
def dR:∀(t:BT) {l:aa BT},Cl l->Cl (bf t l)
 | .leaf x,l,h=>by
  unfold bf;split
  ·exact h
  ·exact h.snoc λv a b e=>by cases e
 | .node v a b,l,h=>by
  have h2:=dR b (dR a h);unfold bf;split
  ·exact h2
  ·refine h2.snoc λv' a' b' e=> ?_;cases e;exact⟨gz _ _ (bY _ _),bY _ _⟩
def jh:∀{t:BT} {l:aa BT},Cl l->t∈l->bf t l=l
 | .leaf x,l,h,ht=>by unfold bf;rw[bS ht]
 | .node v a b,l,h,ht=>by
  obtain⟨ha,hb⟩:=h.parts ht;unfold bf;rw[jh h ha,jh h hb,bS ht]
def NC{α:Type}{l:aa α}{t:α}(h:l.Nodup)(ht:t∉l):(l++[t]).Nodup:=by
 rw[yx];exact⟨h,by simp,λx hx y hy=>by simp at hy;subst hy;exact λe=>ht (e▸hx)⟩
def mJ:∀(t:BT) {l:aa BT},l.Nodup->(bf t l).Nodup
 | .leaf x,l,h=>by
  unfold bf;split
  ·exact h
  ·exact NC h ‹_›
 | .node v a b,l,h=>by
  have h2:=mJ b (mJ a h);unfold bf;split
  ·exact h2
  ·exact NC h2 ‹_›
def BT.Sub(u:BT):BT->Prop
 | .leaf x=>u= .leaf x
 | .node v a b=>u= .node v a b\/u.Sub a\/u.Sub b
def fu:∀{t:BT} {l:aa BT} {u:BT},u∈bf t l->u∈l\/u.Sub t
 | .leaf x,l,u,h=>by
  unfold bf at h;split at h
  ·exact .inl h
  ·rcases zV.1 h with h|h
   ·exact .inl h
   ·exact .inr (by rw[zC]at h;exact h)
 | .node v a b,l,u,h=>by
  have hr:u∈bf b (bf a l)->u∈l\/u.Sub (.node v a b):=λh=>by
   rcases fu h with h|h
   ·rcases fu h with h|h
    ·exact .inl h
    ·exact .inr (.inr (.inl h))
   ·exact .inr (.inr (.inr h))
  unfold bf at h;split at h
  ·exact hr h
  ·rcases zV.1 h with h|h
   ·exact hr h
   ·exact .inr (.inl (by rw[zC]at h;exact h))
def BT.Sub.ow{u:BT}:∀{t:BT},u.Sub t->u.sz<=t.sz
 | .leaf x,h=>by rw[h];exact zA _
 | .node v a b,h=>by
  rcases h with h|h|h
  ·rw[h];exact zA _
  ·have:=h.ow;simp only[sz];omega
  ·have:=h.ow;simp only[sz];omega
def BT.Sub.ord{n:Int}{u:BT}:∀{t:BT} {v:Int},u.Sub t->Ord n v t->Ord n v u
 | .leaf x,v,h,ho=>by rw[h];trivial
 | .node w a b,v,h,ho=>by
  rcases h with h|h|h
  ·rw[h];exact ho
  ·exact(h.ord ho.2.2.2.1).le (by have:=ho.1;omega)
  ·exact(h.ord ho.2.2.2.2).le (by have:=ho.1;omega)
def BT.Sub.all{P:Int->Prop}{u:BT}:∀{t:BT},u.Sub t->t.jy P->u.jy P
 | .leaf x,h,ho=>by rw[h];exact ho
 | .node w a b,h,ho=>by
  rcases h with h|h|h
  ·rw[h];exact ho
  ·exact h.all ho.1
  ·exact h.all ho.2
def Fp{n:Int}:∀{t:BT} {l:aa BT} {v:Int} {d:Nat},Ord n v t->n<=v+d->yz (bf t l)+1<=yz l+2^(d+1)/\yz ((bf t l).filter Kv)+1<=yz (l.filter Kv)+2^d/\yz ((bf t l).filter λu=> !u.Kv)<=yz (l.filter λu=> !u.Kv)+2^d
 | .leaf x,l,v,d,_,_=>by
  have h0:0<2^d:=yM (by omega);have h1:2^(d+1)=2*2^d:=by rw[yG];omega
  unfold bf;split
  ·omega
  ·simp[yj,List.filter,Kv];omega
 | .node w a b,l,v,0,h,hd=>by have:=h.1;have:=h.2.1;omega
 | .node w a b,l,v,d+1,h,hd=>by
  obtain⟨h1,h2,h3,h4,h5⟩:=h;have hp:2^(d+1)=2*2^d:=by rw[yG];omega
  have hp':2^(d+1+1)=2*2^(d+1):=by rw[yG];omega
  have i1:=Fp (l:=l) (d:=d) h4 (by omega);have i2:=Fp (l:=bf a l) (d:=d) h5 (by omega);unfold bf;split
  ·omega
  ·rw[yj,yj,zF,zF,zF,show [BT.node w a b].filter Kv=[BT.node w a b]from rfl,show [BT.node w a b].filter (λu=> !u.Kv)=[]from rfl,wN,xC];omega
def Gm(L:aa Int)(N:aa aF):Gr:=λr=>if r<0 then J else if r<yz L then Q (.inl L[r.toNat]!)else if r<yz L+yz N then Q (.inr (N[(r-L.length).toNat]!.bz,N[(r-L.length).toNat]!.aG,N[(r-L.length).toNat]!.au))else J
def aaj{L:aa Int}{N:aa aF}{i:Nat}(h:i<yz L):Gm L N (i:Int)=Q (.inl L[i]!):=by
 unfold Gm;rw[bT (by omega),bS (by omega),zi]
def NX{L:aa Int}{N:aa aF}{i:Nat}(h:i<yz N):Gm L N ((yz L+i:Nat):Int)=Q (.inr (N[i]!.bz,N[i]!.aG,N[i]!.au)):=by
 unfold Gm;rw[bT (by omega),bT (by omega),bS (by omega),show (((yz L+i:Nat):Int)-(yz L:Int)).toNat=i by omega]
def num(L:aa Int)(NT:aa BT):BT->Int
 | .leaf x=>(L.idxOf x:Nat)
 | .node v a b=>(yz L+NT.idxOf (.node v a b):Nat)
def fkT(g:BT->Int):BT->aF
 | .node v a b=>⟨v,g a,g b⟩
 | .leaf _=>⟨0,0,0⟩
def fT(L:aa Int)(NT:aa BT):aa aF:=NT.map (fkT (num L NT))
def Rv{α:Type}[DecidableEq α]{x:α}{l:aa α}(h:x∈l)(m:aa α):(l++m).idxOf x=l.idxOf x:=by
 rw[xQ,bS h]
def dz{α:Type}[DecidableEq α][Inhabited α]{x:α}{l:aa α}(h:x∈l):l[l.idxOf x]! =x:=by
 have h':l.idxOf x<yz l:=yt h;rw[getElem!_pos l _ h'];exact List.getElem_idxOf h'
def uI{L:aa Int}{NT:aa BT}{u:BT}(h:u.Kv=O->u∈NT)(X:aa BT):num L (NT++X) u=num L NT u:=by
 cases u with
 |leaf x=>rfl
 |node v a b=>simp only[num];rw[Rv (h rfl)]
def bE(l:aa BT):aa BT:=l.filter Kv
def iZ(l:aa BT):aa BT:=l.filter λu=> !u.Kv
def dc{l:aa BT}{u:BT}:u∈bE l↔u∈l/\u.Kv=O:=zS
def DZ{l:aa BT}{u:BT}:u∈iZ l↔u∈l/\u.Kv=V:=by unfold iZ;rw[zS];simp
def dW(l:aa BT)(v:Int)(a b:BT):bE (l++[.node v a b])=bE l++[.node v a b]:=by unfold bE;rw[yj];rfl
def BD(l:aa BT)(x:Int):bE (l++[.leaf x])=bE l:=by unfold bE;rw[yj];simp[List.filter,Kv]
def qT(l:aa BT)(v:Int)(a b:BT):iZ (l++[.node v a b])=iZ l:=by unfold iZ;rw[yj];simp[List.filter,Kv]
def IE(l:aa BT)(x:Int):iZ (l++[.leaf x])=iZ l++[.leaf x]:=by unfold iZ;rw[yj];rfl
def sH(l m:aa BT):bE (l++m)=bE l++bE m:=yj ..
def rH{L:aa Int}{l:aa BT}{u:BT}(h:u∈l)(t:BT):num L (bE (bf t l)) u=num L (bE l) u:=by
 obtain⟨m,hm⟩:=nK t l;rw[hm,sH];exact uI (λhu=>dc.2 ⟨h,hu⟩) _
def ry{L:aa Int}{l:aa BT}(hc:Cl l){v:Int}{a b:BT}(ha:a∈l)(hb:b∈l):fT L (bE (l++[.node v a b]))=fT L (bE l)++[⟨v,num L (bE l) a,num L (bE l) b⟩]:=by
 have hs:∀u∈l,num L (bE (l++[.node v a b])) u=num L (bE l) u:=λu hu=>by
  rw[sH];exact uI (λh=>dc.2 ⟨hu,h⟩) _
 unfold fT;rw[show bE (l++[BT.node v a b])=bE l++[.node v a b]from dW ..]at hs ⊢;rw[zK]
 congr 1
 ·refine zR λu hu=> ?_;obtain⟨h1,h2⟩:=dc.1 hu;cases u with
  |leaf x=>cases h2
  |node w c d=>
   obtain⟨h3,h4⟩:=hc.parts h1;simp only[fkT];rw[hs c h3,hs d h4]
 ·simp only[zO,yU,fkT];rw[hs a ha,hs b hb]
def Lv(L:aa Int)(l:aa BT):Prop:=∀x,BT.leaf x∈l->x∈L
def ZE{L:aa Int}{NT:aa BT}{v:Int}{a b:BT}(h:BT.node v a b∈NT):(fT L NT)[NT.idxOf (.node v a b)]! =⟨v,num L NT a,num L NT b⟩:=by
 have h':NT.idxOf (.node v a b)<yz NT:=yt h;rw[getElem!_pos (fT L NT) _ (by simpa [fT]using h')];simp only[fT,x9];rw[List.getElem_idxOf h'];rfl
def gB{L:aa Int}{l:aa BT}(hc:Cl l)(hL:Lv L l):∀{u:BT},u∈l->Den (Gm L (fT L (bE l))) (num L (bE l) u) u
 | .leaf x,h=>by
  have hx:=hL x h;have h':L.idxOf x<yz L:=yt hx;exact .leaf ((aaj h').trans (by rw[dz hx]))
 | .node v a b,h=>by
  obtain⟨ha,hb⟩:=hc.parts h;have hn:BT.node v a b∈bE l:=dc.2 ⟨h,rfl⟩;have h':(bE l).idxOf (.node v a b)<yz (bE l):=yt hn;have hf:yz (fT L (bE l))=yz (bE l):=by simp[fT]
  exact .node (a:=num L (bE l) a) (b:=num L (bE l) b) ((NX (by rw[hf];exact h')).trans (by rw[ZE hn])) (gB hc hL ha) (gB hc hL hb)
def jj{L:aa Int}{l:aa BT}(hc:Cl l)(hL:Lv L l){u u':BT}(h:u∈l)(h':u'∈l)(e:num L (bE l) u=num L (bE l) u'):u=u':=by
 have h1:=gB hc hL h;rw[e]at h1;exact h1.ur (gB hc hL h')
def KN{L:aa Int}{l:aa BT}(hL:Lv L l){u:BT}(h:u∈l):0<=num L (bE l) u/\num L (bE l) u<yz L+yz (bE l):=by
 cases u with
 |leaf x=>
  have h':L.idxOf x<yz L:=yt (hL x h);simp only[num];omega
 |node v a b=>
  have h':(bE l).idxOf (.node v a b)<yz (bE l):=yt (dc.2 ⟨h,rfl⟩);simp only[num];omega
def qj{L:aa Int}{l:aa BT}(hc:Cl l)(hL:Lv L l){v:Int}{a b:BT}(ha:a∈l)(hb:b∈l):(⟨v,num L (bE l) a,num L (bE l) b⟩:aF)∈fT L (bE l)↔BT.node v a b∈l:=by
 constructor
 ·intro h;obtain⟨u,hu,e⟩:=zy.1 h;obtain⟨h1,h2⟩:=dc.1 hu;cases u with
  |leaf x=>cases h2
  |node w c d=>
   obtain⟨h3,h4⟩:=hc.parts h1;simp only[fkT,aF.mk.injEq]at e;obtain⟨e1,e2,e3⟩:=e;rw[jj hc hL h3 ha e2,jj hc hL h4 hb e3,e1]at h1;exact h1
 ·intro h;exact zy.2 ⟨_,dc.2 ⟨h,rfl⟩,rfl⟩
def oo{α β:Type}[DecidableEq α][DecidableEq β](g:α->β):∀{l:aa α} {x:α},(∀y∈l,g y=g x->y=x)->(l.map g).idxOf (g x)=l.idxOf x
 |[],x,_=>rfl
 |y::l,x,h=>by
  rw[zO,List.idxOf_cons,List.idxOf_cons];by_cases e:y=x
  ·subst e;simp
  ·have e':g y≠g x:=λe2=>e (h y zq e2);simp only[beq_eq_false_iff_ne.2 e,beq_eq_false_iff_ne.2 e',cL];rw[oo g λz hz=>h z (zH _ hz)]
def IL{L:aa Int}{l:aa BT}(hc:Cl l)(hL:Lv L l){v:Int}{a b:BT}(h:BT.node v a b∈l):(fT L (bE l)).idxOf ⟨v,num L (bE l) a,num L (bE l) b⟩=(bE l).idxOf (.node v a b):=by
 obtain⟨ha,hb⟩:=hc.parts h;refine oo (fkT (num L (bE l))) (x:=BT.node v a b) λu hu e=> ?_;obtain⟨h1,h2⟩:=dc.1 hu;cases u with
 |leaf x=>cases h2
 |node w c d=>
  obtain⟨h3,h4⟩:=hc.parts h1;simp only[fkT,aF.mk.injEq]at e;obtain⟨e1,e2,e3⟩:=e;rw[jj hc hL h3 ha e2,jj hc hL h4 hb e3,e1]
def SG{L:aa Int}{l:aa BT}(hc:Cl l)(hL:Lv L l)(hn:l.Nodup):(fT L (bE l)).Nodup:=by
 have hN:(bE l).Nodup:=hn.sublist wB;unfold fT;rw[we,List.pairwise_map];refine(List.Pairwise.imp_of_mem ?_ hN);intro u u' hu hu' hne e;obtain⟨h1,h2⟩:=dc.1 hu;obtain⟨h1',h2'⟩:=dc.1 hu';cases u with
 |leaf x=>cases h2
 |node w c d=>
  cases u' with
  |leaf x=>cases h2'
  |node w' c' d'=>
   obtain⟨h3,h4⟩:=hc.parts h1;obtain⟨h3',h4'⟩:=hc.parts h1';simp only[fkT,aF.mk.injEq]at e;obtain⟨e1,e2,e3⟩:=e;exact hne (by rw[jj hc hL h3 h3' e2,jj hc hL h4 h4' e3,e1])
def WB{L:aa Int}{l:aa BT}(hc:Cl l){v:Int}{a b:BT}(hL:Lv L (bf b (bf a l))):(num L (bE (bf a l)) a=num L (bE (bf b (bf a l))) b↔a=b)/\(a=b->bf (jN v a b) l=bf b (bf a l)):=by
 have hc1:=dR a hc;have hc2:=dR b hc1;have ha:a∈bf b (bf a l):=gz _ _ (bY _ _);refine⟨?_,λe=> ?_⟩
 ·rw[<-rH (bY a l) b];exact⟨λe=>jj hc2 hL ha (bY _ _) e,λe=>by rw[e]⟩
 ·subst e;rw[jh hc1 (bY _ _)];simp[jN]
def jo{K ze:Type}[DecidableEq K](x:K):dA ([]:aa (K×ze)) x=J:=rfl
def dD{K ze:Type}[DecidableEq K](l:aa (K×ze))(x:K)(v:ze)(y:K):dA (fQ l x v) y=if y=x then Q v else dA l y:=by
 unfold dA fQ;by_cases h:y=x
 ·simp[h]
 ·rw[wg];simp only[h,jk,jP]
  congr 1
  induction l with
  |nil=>rfl
  |cons p l ih=>
   by_cases h2:x=p.1
   ·rw[List.filter_cons_of_neg (by simp[h2]),ih,wg];have:Z (y=p.1)=V:=by rw[<-h2];simpa using h
    rw[this]
   ·rw[List.filter_cons_of_pos (by simp[h2]),wg,wg,ih]
structure BO (β:Type) (P:Int->Prop) where
 I:β->Prop
 g:β->Gr
 s:β->Nat
 lf:Int->β->Option (Int×β)
 nd:Int->Int->Int->β->Option (Int×β)
 ou:∀x b,P x->I b->s b<1000000000->∃r b',lf x b=Q (r,b')/\I b'/\(g b).Le (g b')/\Den (g b') r (.leaf x)/\s b'<=s b+1
 jY:∀v p q s' t b,I b->s b<1000000000->Den (g b) p s'->Den (g b) q t->∃r b',nd v p q b=Q (r,b')/\I b'/\(g b).Le (g b')/\Den (g b') r (jN v s' t)/\s b'<=s b+1
def MI{β:Type}{P:Int->Prop}(o:BO β P)(G0 G1 G2:Gr)(n:Int)(f:Int->Int->Int->Int)(m:aa ((Int×Int×Int)×Int))(b:β):Prop:=∀r0 r1 r2 q,dA m (r0,r1,r2)=Q q->∃t0 t1 t2 t d,Den G0 r0 t0/\Den G1 r1 t1/\Den G2 r2 t2/\AP n f d t0 t1 t2 t/\Den (o.g b) q t
structure WK {β:Type} {P:Int->Prop} (o:BO β P) (G0 G1 G2:Gr) (n:Int) (f:Int->Int->Int->Int) (W:Nat->Int->Int->Int->List ((Int×Int×Int)×Int)->β->Option (Int×List ((Int×Int×Int)×Int)×β)):Prop where
 hit:∀k r0 r1 r2 m b q,dA m (r0,r1,r2)=Q q->W (k+1) r0 r1 r2 m b=Q (q,m,b)
 leaf:∀k r0 r1 r2 m b x0 x1 x2 r b',dA m (r0,r1,r2)=J->Den G0 r0 (.leaf x0)->Den G1 r1 (.leaf x1)->Den G2 r2 (.leaf x2)->o.lf (f x0 x1 x2) b=Q (r,b')->W (k+1) r0 r1 r2 m b=Q (r,fQ m (r0,r1,r2) r,b')
 node:∀r0 r1 r2 m b t0 t1 t2 v,dA m (r0,r1,r2)=J->Den G0 r0 t0->Den G1 r1 t1->Den G2 r2 t2->v=min (t0.top n) (min (t1.top n) (t2.top n))->v<n->∃l0 l1 l2 h0 h1 h2,Den G0 l0 (t0.pV v V)/\Den G1 l1 (t1.pV v V)/\Den G2 l2 (t2.pV v V)/\Den G0 h0 (t0.pV v O)/\Den G1 h1 (t1.pV v O)/\Den G2 h2 (t2.pV v O)/\∀k q1 m1 b1 q2 m2 b2 q b3,W k l0 l1 l2 m b=Q (q1,m1,b1)->W k h0 h1 h2 m1 b1=Q (q2,m2,b2)->o.nd v q1 q2 b2=Q (q,b3)->W (k+1) r0 r1 r2 m b=Q (q,fQ m2 (r0,r1,r2) q,b3)
def MI.le{β:Type}{P:Int->Prop}{o:BO β P}{G0 G1 G2:Gr}{n:Int}{f:Int->Int->Int->Int}{m:aa ((Int×Int×Int)×Int)}{b b':β}(h:MI o G0 G1 G2 n f m b)(hl:(o.g b).Le (o.g b')):MI o G0 G1 G2 n f m b':=λr0 r1 r2 q hq=>by
 obtain⟨t0,t1,t2,t,d,h0,h1,h2,h3,h4⟩:=h r0 r1 r2 q hq;exact⟨t0,t1,t2,t,d,h0,h1,h2,h3,h4.mono hl⟩
def MI.put{β:Type}{P:Int->Prop}{o:BO β P}{G0 G1 G2:Gr}{n:Int}{f:Int->Int->Int->Int}{m:aa ((Int×Int×Int)×Int)}{b:β}(h:MI o G0 G1 G2 n f m b){r0 r1 r2 q:Int}{t0 t1 t2 t:BT}{d:Nat}(h0:Den G0 r0 t0)(h1:Den G1 r1 t1)(h2:Den G2 r2 t2)(h3:AP n f d t0 t1 t2 t)(h4:Den (o.g b) q t):MI o G0 G1 G2 n f (fQ m (r0,r1,r2) q) b:=λs0 s1 s2 p hp=>by
 rw[dD]at hp;split at hp
 ·rename_i e;cases e;cases hp;exact⟨t0,t1,t2,t,d,h0,h1,h2,h3,h4⟩
 ·exact h _ _ _ _ hp
def Og{P:Int->Prop}{v:Int}{a b:BT}(h:(jN v a b).jy P):a.jy P/\b.jy P:=by
 unfold jN at h;split at h
 ·rename_i e;subst e;exact⟨h,h⟩
 ·exact h
def NV{β:Type}{P:Int->Prop}{o:BO β P}{G0 G1 G2:Gr}{n:Int}{f:Int->Int->Int->Int}{W:Nat->Int->Int->Int->aa ((Int×Int×Int)×Int)->β->af (Int×aa ((Int×Int×Int)×Int)×β)}(hW:WK o G0 G1 G2 n f W){d:Nat}{t0 t1 t2 t:BT}(hA:AP n f d t0 t1 t2 t):∀(r0 r1 r2:Int) (m:aa ((Int×Int×Int)×Int)) (b:β),Den G0 r0 t0->Den G1 r1 t1->Den G2 r2 t2->o.I b->MI o G0 G1 G2 n f m b->o.s b+2^(d+1)<=1000000000->t.jy P->∃q m' b',(∀k,d<k->W k r0 r1 r2 m b=Q (q,m',b'))/\o.I b'/\MI o G0 G1 G2 n f m' b'/\(o.g b).Le (o.g b')/\Den (o.g b') q t/\o.s b'+1<=o.s b+2^(d+1):=by
 have hhit:∀{d:Nat} {t0 t1 t2 t:BT},AP n f d t0 t1 t2 t->∀(r0 r1 r2:Int) (m:aa ((Int×Int×Int)×Int)) (b:β),Den G0 r0 t0->Den G1 r1 t1->Den G2 r2 t2->o.I b->MI o G0 G1 G2 n f m b->dA m (r0,r1,r2)≠J->∃q m' b',(∀k,d<k->W k r0 r1 r2 m b=Q (q,m',b'))/\o.I b'/\MI o G0 G1 G2 n f m' b'/\(o.g b).Le (o.g b')/\Den (o.g b') q t/\o.s b'+1<=o.s b+2^(d+1):=by
  intro d t0 t1 t2 t hA r0 r1 r2 m b h0 h1 h2 hI hM hm;cases e:dA m (r0,r1,r2)with
  |none=>exact gI e hm
  |some q=>
   obtain⟨u0,u1,u2,u,d',e0,e1,e2,e3,e4⟩:=hM _ _ _ _ e;rw[<-h0.ur e0,<-h1.ur e1,<-h2.ur e2]at e3;rw[<-hA.ur e3]at e4;refine⟨q,m,b,λk hk=> ?_,hI,hM, .refl,e4,?_⟩
   ·obtain⟨k,rfl⟩:∃j,k=j+1:=⟨k-1,by omega⟩;exact hW.hit k r0 r1 r2 m b q e
   ·have:0<2^(d+1):=yM (by omega);omega
 induction hA with
 |@leaf d x y z=>
  intro r0 r1 r2 m b h0 h1 h2 hI hM hs hP;by_cases hm:dA m (r0,r1,r2)=J
  ·have hp:0<2^d:=yM (by omega);have hp':2^(d+1)=2*2^d:=by rw[yG];omega
   obtain⟨r,b',e,i',l',d',s'⟩:=o.ou (f x y z) b hP hI (by omega);refine⟨r,_,b',λk hk=> ?_,i',(hM.le l').put h0 h1 h2 (.leaf (d:=d) x y z) d',l',d',by omega⟩;obtain⟨k,rfl⟩:∃j,k=j+1:=⟨k-1,by omega⟩;exact hW.leaf k r0 r1 r2 m b x y z r b' hm h0 h1 h2 e
  ·exact hhit (.leaf x y z) r0 r1 r2 m b h0 h1 h2 hI hM hm
 |@node d a b' c r s v hv hn a0 a1 i0 i1=>
  intro r0 r1 r2 m b h0 h1 h2 hI hM hs hP;by_cases hm:dA m (r0,r1,r2)=J
  ·obtain⟨l0,l1,l2,k0,k1,k2,e0,e1,e2,e3,e4,e5,hw⟩:=hW.node r0 r1 r2 m b _ _ _ v hm h0 h1 h2 hv hn;have hp:0<2^(d+1):=yM (by omega);have hp':2^(d+1+1)=2*2^(d+1):=by rw[yG];omega
   obtain⟨P0,P1⟩:=Og hP;obtain⟨q1,m1,b1,w1,I1,M1,L1,D1,S1⟩:=i0 l0 l1 l2 m b e0 e1 e2 hI hM (by omega) P0;obtain⟨q2,m2,b2,w2,I2,M2,L2,D2,S2⟩:=i1 k0 k1 k2 m1 b1 e3 e4 e5 I1 M1 (by omega) P1;obtain⟨q,b3,w3,I3,L3,D3,S3⟩:=o.jY v q1 q2 _ _ b2 I2 (by omega) (D1.mono L2) D2;refine⟨q,_,b3,λk hk=> ?_,I3,(M2.le L3).put h0 h1 h2 (.node v hv hn a0 a1) D3,(L1.trans L2).trans L3,D3,by omega⟩;obtain⟨k,rfl⟩:∃j,k=j+1:=⟨k-1,by omega⟩;exact hw k q1 m1 b1 q2 m2 b2 q b3 (w1 k (by omega)) (w2 k (by omega)) w3
  ·exact hhit (.node v hv hn a0 a1) r0 r1 r2 m b h0 h1 h2 hI hM hm
def qC:∀(t:BT) {l l':aa BT},bE l=bE l'->bE (bf t l)=bE (bf t l')
 | .leaf x,l,l',h=>by
  have e:∀l,bE (bf (.leaf x) l)=bE l:=λl=>by
   unfold bf;split
   ·rfl
   ·exact BD ..
  rw[e,e,h]
 | .node v a b,l,l',h=>by
  have h2:=qC b (qC a h);have hm:BT.node v a b∈bf b (bf a l)↔BT.node v a b∈bf b (bf a l'):=
   ⟨λhx=>(dc.1 (h2▸dc.2 ⟨hx,rfl⟩)).1,λhx=>(dc.1 (h2.symm▸dc.2 ⟨hx,rfl⟩)).1⟩
  unfold bf;by_cases hx:BT.node v a b∈bf b (bf a l)
  ·rw[bS hx,bS (hm.1 hx),h2]
  ·rw[bT hx,bT λh=>hx (hm.2 h),dW,dW,h2]
def Sn{L:aa Int}{t:BT}{l:aa BT}(ht:t.jy (· ∈L))(hl:Lv L l):Lv L (bf t l):=λx hx=>by
 rcases fu hx with h|h
 ·exact hl x h
 ·exact h.all ht
structure YK (G:Gr) (Y:Nat->Int->List (Int×Int)->List aF->Option (Int×List (Int×Int)×List aF)):Prop where
 hit:∀k r S N q,dA S r=Q q->Y (k+1) r S N=Q (q,S,N)
 node:∀k r S N v a b q1 S1 N1 q2 S2 N2,dA S r=J->G r=Q (.inr (v,a,b))->Y k a S N=Q (q1,S1,N1)->Y k b S1 N1=Q (q2,S2,N2)->yz N2<1000000000->Y (k+1) r S N=Q (((2+yz N2:Nat):Int),fQ S2 r ((2+yz N2:Nat):Int),N2++[⟨v,q1,q2⟩])
def SI(G:Gr)(l:aa BT)(S:aa (Int×Int)):Prop:=∀r u,Den G r u->dA S r=if u∈l then Q (num [0,1] (bE l) u)else J
def fK(L:aa Int)(NT:aa BT):yz (fT L NT)=yz NT:=zI ..
def EU(t:BT)(l:aa BT):yz (bE l)<=yz (bE (bf t l)):=by
 obtain⟨m,hm⟩:=nK t l;rw[hm,sH,zF];omega
def aoU{G:Gr}(hG:G.Inj){Y:Nat->Int->aa (Int×Int)->aa aF->af (Int×aa (Int×Int)×aa aF)}(hY:YK G Y):∀{t:BT} {r:Int},Den G r t->∀{l:aa BT} {S:aa (Int×Int)},Cl l->Lv [0,1] (bf t l)->BT.leaf 0∈l->BT.leaf 1∈l->SI G l S->yz (bE (bf t l))<=1000000000->∃S',SI G (bf t l) S'/\∀k,t.sz<=k->Y k r S (fT [0,1] (bE l))=Q (num [0,1] (bE (bf t l)) t,S',fT [0,1] (bE (bf t l))):=by
 have hhit:∀{t:BT} {r:Int},Den G r t->∀{l:aa BT} {S:aa (Int×Int)},Cl l->SI G l S->t∈l->∃S',SI G (bf t l) S'/\∀k,t.sz<=k->Y k r S (fT [0,1] (bE l))=Q (num [0,1] (bE (bf t l)) t,S',fT [0,1] (bE (bf t l))):=by
  intro t r hd l S hc hS ht;rw[jh hc ht];refine⟨S,hS,λk hk=> ?_⟩;obtain⟨k,rfl⟩:∃j,k=j+1:=⟨k-1,by cases t<;>simp only[sz]at hk<;>omega⟩;exact hY.hit k r S _ _ (by rw[hS r t hd,bS ht])
 intro t;induction t with
 |leaf x=>
  intro r hd l S hc hL z0 z1 hS _;refine hhit hd hc hS ?_;have:=hL x (bY _ _);simp only[zu,xe,or_false]at this;rcases this with h|h
  ·rw[h];exact z0
  ·rw[h];exact z1
 |node v a b ia ib=>
  intro r hd l S hc hL z0 z1 hS hn;by_cases ht:BT.node v a b∈l
  ·exact hhit hd hc hS ht
  ·cases hd with
   |@node _ _ p q _ _ hr hp hq=>
    have hd':Den G r (.node v a b):= .node hr hp hq;have hsub:∀u∈bf b (bf a l),u∈bf (.node v a b) l:=λu hu=>by
     unfold bf;split
     ·exact hu
     ·exact zZ _ hu
    have hnin:BT.node v a b∉bf b (bf a l):=λhx=>by
     rcases fu hx with hx|hx
     ·rcases fu hx with hx|hx
      ·exact ht hx
      ·have:=hx.ow;simp only[sz]at this;omega
     ·have:=hx.ow;simp only[sz]at this;omega
    have hde:bf (.node v a b) l=bf b (bf a l)++[.node v a b]:=by
     conv=>lhs;unfold bf
     rw[bT hnin]
    have hnl:yz (bE (bf (.node v a b) l))=yz (bE (bf b (bf a l)))+1:=by
     rw[hde,dW,zF];rfl
    have hc1:=dR a hc;have hc2:=dR b hc1;have p1:=EU b (bf a l);obtain⟨S1,hS1,w1⟩:=ia hp hc (λx hx=>hL x (hsub _ (gz _ _ hx))) z0 z1 hS (by omega);obtain⟨S2,hS2,w2⟩:=ib hq hc1 (λx hx=>hL x (hsub _ hx)) (gz _ _ z0) (gz _ _ z1) hS1 (by omega);have ha2:a∈bf b (bf a l):=gz _ _ (bY _ _);have hb2:b∈bf b (bf a l):=bY _ _;have hnum:num [0,1] (bE (bf (.node v a b) l)) (.node v a b)=((2+yz (fT [0,1] (bE (bf b (bf a l)))):Nat):Int):=by
     rw[hde,dW,fK];simp only[num];rw[xQ,bT λh=>hnin (dc.1 h).1,wO];simp only[yo,xC];omega
    refine⟨fQ S2 r ((2+yz (fT [0,1] (bE (bf b (bf a l)))):Nat):Int),?_,λk hk=> ?_⟩
    ·intro r' u hu;rw[dD];by_cases e:r'=r
     ·subst e;have:=hu.ur hd';subst this;rw[bS rfl,bS (bY _ _),hnum]
     ·have hne:u≠ .node v a b:=λe2=>e (by subst e2;exact hu.inj hG hd');rw[bT e,hS2 r' u hu,hde];by_cases hm:u∈bf b (bf a l)
      ·rw[bS hm,bS (zZ _ hm),sH,uI λh=>dc.2 ⟨hm,h⟩]
      ·rw[bT hm,bT];intro h;rcases zV.1 h with h|h
       ·exact hm h
       ·exact hne (zC.1 h)
    ·obtain⟨k,rfl⟩:∃j,k=j+1:=⟨k-1,by simp only[sz]at hk;omega⟩;simp only[sz]at hk;have hnone:dA S r=J:=by rw[hS r _ hd',bT ht]
     rw[hY.node k r S _ v p q _ _ _ _ _ _ hnone hr (w1 k (by omega)) (w2 k (by omega)) (by rw[fK];omega),hnum,hde,ry hc2 ha2 hb2,rH (bY a l) b]
open Classical in
def rf(G:Gr)(u:BT):Int:=if h:∃r,Den G r u then h.choose else 0
def nt{G:Gr}(hG:G.Inj){r:Int}{u:BT}(h:Den G r u):rf G u=r:=by
 unfold rf;have hx:∃r,Den G r u:=⟨r,h⟩;rw[dif_pos hx];exact hx.choose_spec.inj hG h
structure OK1 (G:Gr) (zc:Nat->Int->List (Int×Bool)->List Int->List Int->Option (List (Int×Bool)×List Int×List Int)):Prop where
 hit:∀k r S lv nd,(dA S r).getD V=O->zc (k+1) r S lv nd=Q (S,lv,nd)
 leaf:∀k r S lv nd x,(dA S r).getD V=V->G r=Q (.inl x)->yz lv<1000000000->zc (k+1) r S lv nd=Q (fQ S r O,lv++[r/2],nd)
 node:∀k r S lv nd v a b S1 lv1 nd1 S2 lv2 nd2,(dA S r).getD V=V->G r=Q (.inr (v,a,b))->zc k a (fQ S r O) lv nd=Q (S1,lv1,nd1)->zc k b S1 lv1 nd1=Q (S2,lv2,nd2)->yz nd2<1000000000->zc (k+1) r S lv nd=Q (S2,lv2,nd2++[r/2])
def SO(G:Gr)(l P:aa BT)(S:aa (Int×Bool)):Prop:=∀r u,Den G r u->((dA S r).getD V=O↔u∈l\/u∈P)
def ixs(G:Gr)(l:aa BT):aa Int:=l.map λu=>rf G u/2
def EB(G:Gr)(l m:aa BT):ixs G (l++m)=ixs G l++ixs G m:=zK ..
def fV(G:Gr)(l:aa BT):yz (ixs G l)=yz l:=zI ..
def akw(l m:aa BT):iZ (l++m)=iZ l++iZ m:=yj ..
def TQ(t:BT)(l:aa BT):yz (iZ l)<=yz (iZ (bf t l)):=by
 obtain⟨m,hm⟩:=nK t l;rw[hm,akw,zF];omega
def apK{G:Gr}(hG:G.Inj){zc:Nat->Int->aa (Int×Bool)->aa Int->aa Int->af (aa (Int×Bool)×aa Int×aa Int)}(hO:OK1 G zc):∀{t:BT} {r:Int},Den G r t->∀{l P:aa BT} {S:aa (Int×Bool)},Cl l->(∀u∈P,t.sz<u.sz)->SO G l P S->yz (bE (bf t l))<=1000000000->yz (iZ (bf t l))<=1000000000->∃S',SO G (bf t l) P S'/\∀k,t.sz<=k->zc k r S (ixs G (iZ l)) (ixs G (bE l))=Q (S',ixs G (iZ (bf t l)),ixs G (bE (bf t l))):=by
 have hhit:∀{t:BT} {r:Int},Den G r t->∀{l P:aa BT} {S:aa (Int×Bool)},Cl l->SO G l P S->t∈l->∃S',SO G (bf t l) P S'/\∀k,t.sz<=k->zc k r S (ixs G (iZ l)) (ixs G (bE l))=Q (S',ixs G (iZ (bf t l)),ixs G (bE (bf t l))):=by
  intro t r hd l P S hc hS ht;rw[jh hc ht];refine⟨S,hS,λk hk=> ?_⟩;obtain⟨k,rfl⟩:∃j,k=j+1:=⟨k-1,by cases t<;>simp only[sz]at hk<;>omega⟩;exact hO.hit k r S _ _ ((hS r t hd).2 (.inl ht))
 have hfalse:∀{t:BT} {r:Int},Den G r t->∀{l P:aa BT} {S:aa (Int×Bool)},(∀u∈P,t.sz<u.sz)->SO G l P S->t∉l->(dA S r).getD V=V:=by
  intro t r hd l P S hP hS ht;cases e:(dA S r).getD false with
  |false=>rfl
  |true=>
   rcases (hS r t hd).1 e with h|h
   ·exact gI h ht
   ·have:=hP t h;omega
 intro t;induction t with
 |leaf x=>
  intro r hd l P S hc hP hS hn hl;by_cases ht:BT.leaf x∈l
  ·exact hhit hd hc hS ht
  ·have hde:bf (.leaf x) l=l++[.leaf x]:=by unfold bf;rw[bT ht]
   have hf:=hfalse hd hP hS ht;have hrf:=nt hG hd;rw[hde]at hl ⊢;rw[IE,zF]at hl;refine⟨fQ S r O,?_,λk hk=> ?_⟩
   ·intro r' u hu;rw[dD];by_cases e:r'=r
    ·subst e;have:=hu.ur hd;subst this;simp
    ·have hne:u≠ .leaf x:=λe2=>e (by subst e2;exact hu.inj hG hd);rw[bT e,hS r' u hu];simp[hne]
   ·obtain⟨k,rfl⟩:∃j,k=j+1:=⟨k-1,by simp only[sz]at hk;omega⟩;cases hd with
    |leaf h=>
     rw[hO.leaf k r S _ _ x hf h (by rw[fV];simp at hl;omega),IE,BD,EB];simp[ixs,hrf]
 |node v a b ia ib=>
  intro r hd l P S hc hP hS hn hl;by_cases ht:BT.node v a b∈l
  ·exact hhit hd hc hS ht
  ·have hf:=hfalse hd hP hS ht;have hrf:=nt hG hd;cases hd with
   |@node _ _ p q _ _ hr hp hq=>
    have hd':Den G r (.node v a b):= .node hr hp hq;have hnin:BT.node v a b∉bf b (bf a l):=λhx=>by
     rcases fu hx with hx|hx
     ·rcases fu hx with hx|hx
      ·exact ht hx
      ·have:=hx.ow;simp only[sz]at this;omega
     ·have:=hx.ow;simp only[sz]at this;omega
    have hde:bf (.node v a b) l=bf b (bf a l)++[.node v a b]:=by
     conv=>lhs;unfold bf
     rw[bT hnin]
    have hnl:yz (bE (bf (.node v a b) l))=yz (bE (bf b (bf a l)))+1:=by
     rw[hde,dW,zF];rfl
    have hll:yz (iZ (bf (.node v a b) l))=yz (iZ (bf b (bf a l))):=by
     rw[hde,qT]
    have hc1:=dR a hc;have hc2:=dR b hc1;have p1:=EU b (bf a l);have p2:=TQ b (bf a l);have hS0:SO G l (.node v a b::P) (fQ S r O):=by
     intro r' u hu;rw[dD];by_cases e:r'=r
     ·subst e;have:=hu.ur hd';subst this;simp
     ·have hne:u≠ .node v a b:=λe2=>e (by subst e2;exact hu.inj hG hd');rw[bT e,hS r' u hu];simp[hne]
    obtain⟨S1,hS1,w1⟩:=ia hp hc (P:= .node v a b::P) (λu hu=>by
     rcases zu.1 hu with h|h
     ·rw[h];simp only[sz];omega
     ·have:=hP u h;simp only[sz]at this;omega) hS0 (by omega) (by omega)
    obtain⟨S2,hS2,w2⟩:=ib hq hc1 (P:= .node v a b::P) (λu hu=>by
     rcases zu.1 hu with h|h
     ·rw[h];simp only[sz];omega
     ·have:=hP u h;simp only[sz]at this;omega) hS1 (by omega) (by omega)
    refine⟨S2,?_,λk hk=> ?_⟩
    ·intro r' u hu;rw[hS2 r' u hu,hde];simp only[zu,zV,xe,or_false,or_assoc]
    ·obtain⟨k,rfl⟩:∃j,k=j+1:=⟨k-1,by simp only[sz]at hk;omega⟩;simp only[sz]at hk;rw[hO.node k r S _ _ v p q _ _ _ _ _ _ hf hr (w1 k (by omega)) (w2 k (by omega)) (by rw[fV];omega),hde,qT,dW,EB];simp[ixs,hrf]
def tt:Nat->Int->aa Int->BT
 |0,_,l=> .leaf l[0]!
 |k+1,v,l=>jN v (tt k (v+1) (l.take (2^k))) (tt k (v+1) (l.drop (2^k)))
def jR:aa Bool->Nat
 |[]=>0
 |b::e=>(if b then 2^e.length else 0)+jR e
def mj:∀e:aa Bool,jR e<2^e.length
 |[]=>by simp[jR]
 |b::e=>by
  have:=mj e;have h:2^(yz e+1)=2*2^e.length:=by rw[yG];omega
  simp only[jR,yo];split<;>omega
def XL:∀{k:Nat} {v:Int} {l:aa Int},yz l=2^k->tt k v l=tf k v λe=>l[jR e]!
 |0,v,l,h=>by simp[tt,tf,jR]
 |k+1,v,l,h=>by
  have h2:2^(k+1)=2*2^k:=by rw[yG];omega
  simp only[tt,tf];rw[XL (k:=k) (by rw[zM];omega),XL (k:=k) (by rw[yc];omega)]
  congr 1
  ·refine iw λe he=> ?_;have:=mj e;rw[he]at this;simp only[jR,xg,jP,ya];rw[getElem!_pos (l.take (2^k)) _ (by rw[zM];omega),getElem!_pos l _ (by omega),xW]
  ·refine iw λe he=> ?_;have:=mj e;rw[he]at this;simp only[jR,dU,he];rw[getElem!_pos (l.drop (2^k)) _ (by rw[yc];omega),getElem!_pos l _ (by omega),List.getElem_drop]
structure NK (L:List Int) (zg:Nat->List Int->List aF->Int->Option (Int×List aF)):Prop where
 one:∀k x N v,x∈L->zg (k+1) [x] N v=Q (((L.idxOf x:Nat):Int),N)
 two:∀k l N v q1 N1 q2 N2,0<=v->v<=1000000->2<=yz l->yz l<1000000000->zg k (l.take (yz l/2)) N (v+1)=Q (q1,N1)->zg k (l.drop (yz l/2)) N1 (v+1)=Q (q2,N2)->yz N2<1000000000->zg (k+1) l N v=Q (if q1=q2 then(q1,N2)else if(⟨v,q1,q2⟩:aF)∈N2 then(((yz L+N2.idxOf ⟨v,q1,q2⟩:Nat):Int),N2)else(((yz L+yz N2:Nat):Int),N2++[⟨v,q1,q2⟩]))
def jY{L:aa Int}{zg:Nat->aa Int->aa aF->Int->af (Int×aa aF)}(hQ:NK L zg):∀{k:Nat} {v:Int} {l:aa Int} {acc:aa BT},yz l=2^k->2^k<=4096->0<=v->v+k<=1000000->Cl acc->(∀x∈l,x∈L)->Lv L acc->yz (bE acc)+2^k<=1000000000->yz (bE (bf (tt k v l) acc))+1<=yz (bE acc)+2^k/\Lv L (bf (tt k v l) acc)/\∀f,k<f->zg f l (fT L (bE acc)) v=Q (num L (bE (bf (tt k v l) acc)) (tt k v l),fT L (bE (bf (tt k v l) acc)))
 |0,v,l,acc,hl,hk,hv,hv2,hc,hL,hA,hs=>by
  obtain⟨x,rfl⟩:∃x,l=[x]:=List.length_eq_one_iff.1 hl;have e:bE (bf (.leaf x) acc)=bE acc:=by
   unfold bf;split
   ·rfl
   ·exact BD ..
  simp only[tt,yb];refine⟨by rw[e];simp,Sn (hL x (by simp)) hA,λf hf=> ?_⟩;obtain⟨f,rfl⟩:∃j,f=j+1:=⟨f-1,by omega⟩;rw[hQ.one f x _ v (hL x (by simp)),e];rfl
 |k+1,v,l,acc,hl,hk,hv,hv2,hc,hL,hA,hs=>by
  have h2:2^(k+1)=2*2^k:=by rw[yG];omega
  have hp:0<2^k:=yM (by omega);obtain⟨n1,L1,w1⟩:=jY hQ (k:=k) (v:=v+1) (l:=l.take (2^k)) (acc:=acc) (by rw[zM];omega) (by omega) (by omega) (by omega) hc (λx hx=>hL x (List.mem_of_mem_take hx)) hA (by omega);have hc1:=dR (tt k (v+1) (l.take (2^k))) hc;obtain⟨n2,L2,w2⟩:=jY hQ (k:=k) (v:=v+1) (l:=l.drop (2^k)) (acc:=bf (tt k (v+1) (l.take (2^k))) acc) (by rw[yc];omega) (by omega) (by omega) (by omega) hc1 (λx hx=>hL x (wo hx)) L1 (by omega);simp only[tt];generalize ha:tt k (v+1) (l.take (2^k))=a at*;generalize hb:tt k (v+1) (l.drop (2^k))=b at*;have hc2:=dR b hc1;have ha2:a∈bf b (bf a acc):=gz _ _ (bY _ _);have hb2:b∈bf b (bf a acc):=bY _ _;obtain⟨s1,s2⟩:=WB hc (v:=v) L2;have hgo:∀f,k+1<f->zg f l (fT L (bE acc)) v=Q (if num L (bE (bf a acc)) a=num L (bE (bf b (bf a acc))) b then(num L (bE (bf a acc)) a,fT L (bE (bf b (bf a acc))))else if(⟨v,num L (bE (bf a acc)) a,num L (bE (bf b (bf a acc))) b⟩:aF)∈fT L (bE (bf b (bf a acc)))then(((yz L+(fT L (bE (bf b (bf a acc)))).idxOf ⟨v,num L (bE (bf a acc)) a,num L (bE (bf b (bf a acc))) b⟩:Nat):Int),fT L (bE (bf b (bf a acc))))else(((yz L+yz (fT L (bE (bf b (bf a acc)))):Nat):Int),fT L (bE (bf b (bf a acc)))++[⟨v,num L (bE (bf a acc)) a,num L (bE (bf b (bf a acc))) b⟩])):=λf hf=>by
   obtain⟨f,rfl⟩:∃j,f=j+1:=⟨f-1,by omega⟩;have hh:yz l/2=2^k:=by omega
   exact hQ.two f l _ v _ _ _ _ hv (by omega) (by omega) (by omega) (by rw[hh];exact w1 f (by omega)) (by rw[hh];exact w2 f (by omega)) (by rw[fK];omega)
  by_cases e:a=b
  ·have hd:=s2 e;have hm:jN v a b=a:=by rw[e];simp[jN]
   have hd1:bf b (bf a acc)=bf a acc:=by rw[<-e];exact jh hc1 (bY _ _)
   rw[hd];refine⟨by omega,L2,λf hf=> ?_⟩;rw[hgo f hf,bS (s1.2 e),hm,hd1]
  ·have hm:jN v a b= .node v a b:=by simp[jN,e]
   have hne:¬num L (bE (bf a acc)) a=num L (bE (bf b (bf a acc))) b:=λh=>e (s1.1 h);rw[hm];have hna:num L (bE (bf a acc)) a=num L (bE (bf b (bf a acc))) a:=(rH (bY a acc) b).symm;by_cases hi:BT.node v a b∈bf b (bf a acc)
   ·have hd:bf (.node v a b) acc=bf b (bf a acc):=by
     conv=>lhs;unfold bf
     rw[bS hi]
    rw[hd];refine⟨by omega,L2,λf hf=> ?_⟩;rw[hgo f hf,bT hne,hna,bS ((qj hc2 L2 ha2 hb2).2 hi),IL hc2 L2 hi];rfl
   ·have hd:bf (.node v a b) acc=bf b (bf a acc)++[.node v a b]:=by
     conv=>lhs;unfold bf
     rw[bT hi]
    rw[hd];refine⟨by rw[dW,zF];simp only[wN];omega,λx hx=> ?_,λf hf=> ?_⟩
    ·rcases zV.1 hx with h|h
     ·exact L2 x h
     ·simp at h
    ·rw[hgo f hf,bT hne,hna,bT λh=>hi ((qj hc2 L2 ha2 hb2).1 h),ry hc2 ha2 hb2]
     congr 2
     rw[dW,fK];simp only[num];rw[xQ,bT λh=>hi (dc.1 h).1,wO];omega
def Asc(l:aa Int):Prop:=l.Pairwise (· < ·)
def MX:∀{l m:aa Int},Asc l->Asc m->(∀x,x∈l↔x∈m)->l=m
 |[],[],_,_,_=>rfl
 |[],y::m,_,_,h=>gI ((h y).2 zq) (by simp)
 |x::l,[],_,_,h=>gI ((h x).1 zq) (by simp)
 |x::l,y::m,hl,hm,h=>by
  have hl':=wu.1 hl;have hm':=wu.1 hm;have e:x=y:=by
   rcases zu.1 ((h x).1 zq)with h1|h1
   ·exact h1
   ·rcases zu.1 ((h y).2 zq)with h2|h2
    ·exact h2.symm
    ·have:=hl'.1 y h2;have:=hm'.1 x h1;omega
  subst e;rw[MX hl'.2 hm'.2 λz=> ?_];constructor
  ·intro hz;rcases zu.1 ((h z).1 (zH _ hz))with h1|h1
   ·have:=hl'.1 z hz;omega
   ·exact h1
  ·intro hz;rcases zu.1 ((h z).2 (zH _ hz))with h1|h1
   ·have:=hm'.1 z hz;omega
   ·exact h1
end Go.Proofs.YtghilkcphindjaaGreat
end
noncomputable section
set_option maxRecDepth 100000
namespace Go.Proofs.YtghilkcphindjaaGreat
open Go Go.Iv
open Go.IntKind (i64 u64)
open BT
structure WKn {β:Type} {P:Int->Prop} (o:BO β P) (nil:β->Prop) (G0 G1 G2:Gr) (n:Int) (f:Int->Int->Int->Int) (R:Int->Int->Int->List ((Int×Int×Int)×Int)->β->Option (Int×List ((Int×Int×Int)×Int)×β)) (W:Nat->Int->Int->Int->List ((Int×Int×Int)×Int)->β->Option (Int×List ((Int×Int×Int)×Int)×β)):Prop where
 hit:∀k r0 r1 r2 m b q,nil b->dA m (r0,r1,r2)=Q q->W (k+1) r0 r1 r2 m b=Q (q,m,b)
 leaf:∀k r0 r1 r2 m b x0 x1 x2 r b',nil b->dA m (r0,r1,r2)=J->Den G0 r0 (.leaf x0)->Den G1 r1 (.leaf x1)->Den G2 r2 (.leaf x2)->P (f x0 x1 x2)->o.lf (f x0 x1 x2) b=Q (r,b')->W (k+1) r0 r1 r2 m b=Q (r,fQ m (r0,r1,r2) r,b')
 node:∀r0 r1 r2 m b t0 t1 t2 v,nil b->dA m (r0,r1,r2)=J->Den G0 r0 t0->Den G1 r1 t1->Den G2 r2 t2->v=min (t0.top n) (min (t1.top n) (t2.top n))->v<n->∃l0 l1 l2 h0 h1 h2,Den G0 l0 (t0.pV v V)/\Den G1 l1 (t1.pV v V)/\Den G2 l2 (t2.pV v V)/\Den G0 h0 (t0.pV v O)/\Den G1 h1 (t1.pV v O)/\Den G2 h2 (t2.pV v O)/\∀k q1 m1 b1 q2 m2 b2 q b3,W k l0 l1 l2 m b=Q (q1,m1,b1)->R h0 h1 h2 m1 b1=Q (q2,m2,b2)->o.nd v q1 q2 b2=Q (q,b3)->W (k+1) r0 r1 r2 m b=Q (q,fQ m2 (r0,r1,r2) q,b3)
def Yj{β:Type}{P:Int->Prop}{o:BO β P}{G0 G1 G2:Gr}{n:Int}{f:Int->Int->Int->Int}{nil:β->Prop}{R:Int->Int->Int->aa ((Int×Int×Int)×Int)->β->af (Int×aa ((Int×Int×Int)×Int)×β)}{W' W:Nat->Int->Int->Int->aa ((Int×Int×Int)×Int)->β->af (Int×aa ((Int×Int×Int)×Int)×β)}(hW':WK o G0 G1 G2 n f W')(hR:∀N r0 r1 r2 m b x,(∀k,N<k->W' k r0 r1 r2 m b=Q x)->R r0 r1 r2 m b=Q x)(hW:WKn o nil G0 G1 G2 n f R W){d:Nat}{t0 t1 t2 t:BT}(hA:AP n f d t0 t1 t2 t):∀(r0 r1 r2:Int) (m:aa ((Int×Int×Int)×Int)) (b:β),nil b->Den G0 r0 t0->Den G1 r1 t1->Den G2 r2 t2->o.I b->MI o G0 G1 G2 n f m b->o.s b+2^(d+1)<=1000000000->t.jy P->∃q m' b',(∀k,d<k->W k r0 r1 r2 m b=Q (q,m',b'))/\o.I b'/\MI o G0 G1 G2 n f m' b'/\(o.g b).Le (o.g b')/\Den (o.g b') q t/\o.s b'+1<=o.s b+2^(d+1):=by
 have hhit:∀{d:Nat} {t0 t1 t2 t:BT},AP n f d t0 t1 t2 t->∀(r0 r1 r2:Int) (m:aa ((Int×Int×Int)×Int)) (b:β),nil b->Den G0 r0 t0->Den G1 r1 t1->Den G2 r2 t2->o.I b->MI o G0 G1 G2 n f m b->dA m (r0,r1,r2)≠J->∃q m' b',(∀k,d<k->W k r0 r1 r2 m b=Q (q,m',b'))/\o.I b'/\MI o G0 G1 G2 n f m' b'/\(o.g b).Le (o.g b')/\Den (o.g b') q t/\o.s b'+1<=o.s b+2^(d+1):=by
  intro d t0 t1 t2 t hA r0 r1 r2 m b hz h0 h1 h2 hI hM hm;cases e:dA m (r0,r1,r2)with
  |none=>exact gI e hm
  |some q=>
   obtain⟨u0,u1,u2,u,d',e0,e1,e2,e3,e4⟩:=hM _ _ _ _ e;rw[<-h0.ur e0,<-h1.ur e1,<-h2.ur e2]at e3;rw[<-hA.ur e3]at e4;refine⟨q,m,b,λk hk=> ?_,hI,hM, .refl,e4,?_⟩
   ·obtain⟨k,rfl⟩:∃j,k=j+1:=⟨k-1,by omega⟩;exact hW.hit k r0 r1 r2 m b q hz e
   ·have:0<2^(d+1):=yM (by omega);omega
 induction hA with
 |@leaf d x y z=>
  intro r0 r1 r2 m b hz h0 h1 h2 hI hM hs hP;by_cases hm:dA m (r0,r1,r2)=J
  ·have hp:0<2^d:=yM (by omega);have hp':2^(d+1)=2*2^d:=by rw[yG];omega
   obtain⟨r,b',e,i',l',d',s'⟩:=o.ou (f x y z) b hP hI (by omega);refine⟨r,_,b',λk hk=> ?_,i',(hM.le l').put h0 h1 h2 (.leaf (d:=d) x y z) d',l',d',by omega⟩;obtain⟨k,rfl⟩:∃j,k=j+1:=⟨k-1,by omega⟩;exact hW.leaf k r0 r1 r2 m b x y z r b' hz hm h0 h1 h2 hP e
  ·exact hhit (.leaf x y z) r0 r1 r2 m b hz h0 h1 h2 hI hM hm
 |@node d a b' c r s v hv hn a0 a1 i0 i1=>
  intro r0 r1 r2 m b hz h0 h1 h2 hI hM hs hP;by_cases hm:dA m (r0,r1,r2)=J
  ·obtain⟨l0,l1,l2,k0,k1,k2,e0,e1,e2,e3,e4,e5,hw⟩:=hW.node r0 r1 r2 m b _ _ _ v hz hm h0 h1 h2 hv hn;have hp:0<2^(d+1):=yM (by omega);have hp':2^(d+1+1)=2*2^(d+1):=by rw[yG];omega
   obtain⟨P0,P1⟩:=Og hP;obtain⟨q1,m1,b1,w1,I1,M1,L1,D1,S1⟩:=i0 l0 l1 l2 m b hz e0 e1 e2 hI hM (by omega) P0;obtain⟨q2,m2,b2,w2,I2,M2,L2,D2,S2⟩:=NV hW' a1 k0 k1 k2 m1 b1 e3 e4 e5 I1 M1 (by omega) P1;obtain⟨q,b3,w3,I3,L3,D3,S3⟩:=o.jY v q1 q2 _ _ b2 I2 (by omega) (D1.mono L2) D2;refine⟨q,_,b3,λk hk=> ?_,I3,(M2.le L3).put h0 h1 h2 (.node v hv hn a0 a1) D3,(L1.trans L2).trans L3,D3,by omega⟩;obtain⟨k,rfl⟩:∃j,k=j+1:=⟨k-1,by omega⟩;exact hw k q1 m1 b1 q2 m2 b2 q b3 (w1 k (by omega)) (hR d _ _ _ _ _ _ w2) w3
  ·exact hhit (.node v hv hn a0 a1) r0 r1 r2 m b hz h0 h1 h2 hI hM hm
def jm:aa BT:=[.leaf 0, .leaf 1]
def aht:Cl jm:=λm v a b k e=>by
 have h:BT.node v a b∈jm:=by rw[e];simp
 simp[jm]at h
structure YKn (G:Gr) (R:Int->List (Int×Int)->List aF->Option (Int×List (Int×Int)×List aF)) (Y:Nat->Int->List (Int×Int)->Option (Int×List (Int×Int)×List aF)):Prop where
 hit:∀k r S q,dA S r=Q q->Y (k+1) r S=Q (q,S,[])
 node:∀k r S v a b q1 S1 N1 q2 S2 N2,dA S r=J->G r=Q (.inr (v,a,b))->Y k a S=Q (q1,S1,N1)->R b S1 N1=Q (q2,S2,N2)->yz N2<1000000000->Y (k+1) r S=Q (((2+yz N2:Nat):Int),fQ S2 r ((2+yz N2:Nat):Int),N2++[⟨v,q1,q2⟩])
def Pn{G:Gr}(hG:G.Inj){R:Int->aa (Int×Int)->aa aF->af (Int×aa (Int×Int)×aa aF)}{Y':Nat->Int->aa (Int×Int)->aa aF->af (Int×aa (Int×Int)×aa aF)}{Y:Nat->Int->aa (Int×Int)->af (Int×aa (Int×Int)×aa aF)}(hY':YK G Y')(hR:∀N r S M x,(∀k,N<=k->Y' k r S M=Q x)->R r S M=Q x)(hY:YKn G R Y):∀{t:BT} {r:Int},Den G r t->∀{S:aa (Int×Int)},Lv [0,1] (bf t jm)->SI G jm S->yz (bE (bf t jm))<=1000000000->∃S',SI G (bf t jm) S'/\∀k,t.sz<=k->Y k r S=Q (num [0,1] (bE (bf t jm)) t,S',fT [0,1] (bE (bf t jm))):=by
 have hhit:∀{t:BT} {r:Int},Den G r t->∀{S:aa (Int×Int)},SI G jm S->t∈jm->∃S',SI G (bf t jm) S'/\∀k,t.sz<=k->Y k r S=Q (num [0,1] (bE (bf t jm)) t,S',fT [0,1] (bE (bf t jm))):=by
  intro t r hd S hS ht;rw[jh aht ht];refine⟨S,hS,λk hk=> ?_⟩;obtain⟨k,rfl⟩:∃j,k=j+1:=⟨k-1,by cases t<;>simp only[sz]at hk<;>omega⟩;rw[hY.hit k r S _ (by rw[hS r t hd,bS ht])];rfl
 intro t;induction t with
 |leaf x=>
  intro r hd S hL hS _;refine hhit hd hS ?_;have:=hL x (bY _ _);simp only[zu,xe,or_false]at this;rcases this with h|h
  ·rw[h];simp[jm]
  ·rw[h];simp[jm]
 |node v a b ia ib=>
  intro r hd S hL hS hn;by_cases ht:BT.node v a b∈jm
  ·exact hhit hd hS ht
  ·cases hd with
   |@node _ _ p q _ _ hr hp hq=>
    have hd':Den G r (.node v a b):= .node hr hp hq;have hsub:∀u∈bf b (bf a jm),u∈bf (.node v a b) jm:=λu hu=>by
     unfold bf;split
     ·exact hu
     ·exact zZ _ hu
    have hnin:BT.node v a b∉bf b (bf a jm):=λhx=>by
     rcases fu hx with hx|hx
     ·rcases fu hx with hx|hx
      ·exact ht hx
      ·have:=hx.ow;simp only[sz]at this;omega
     ·have:=hx.ow;simp only[sz]at this;omega
    have hde:bf (.node v a b) jm=bf b (bf a jm)++[.node v a b]:=by
     conv=>lhs;unfold bf
     rw[bT hnin]
    have hnl:yz (bE (bf (.node v a b) jm))=yz (bE (bf b (bf a jm)))+1:=by
     rw[hde,dW,zF];rfl
    have hc1:=dR a aht;have hc2:=dR b hc1;have p1:=EU b (bf a jm);obtain⟨S1,hS1,w1⟩:=ia hp (λx hx=>hL x (hsub _ (gz _ _ hx))) hS (by omega);obtain⟨S2,hS2,w2⟩:=aoU hG hY' hq hc1 (λx hx=>hL x (hsub _ hx)) (gz _ _ (by simp[jm])) (gz _ _ (by simp[jm])) hS1 (by omega);have ha2:a∈bf b (bf a jm):=gz _ _ (bY _ _);have hb2:b∈bf b (bf a jm):=bY _ _;have hnum:num [0,1] (bE (bf (.node v a b) jm)) (.node v a b)=((2+yz (fT [0,1] (bE (bf b (bf a jm)))):Nat):Int):=by
     rw[hde,dW,fK];simp only[num];rw[xQ,bT λh=>hnin (dc.1 h).1,wO];simp only[yo,xC];omega
    refine⟨fQ S2 r ((2+yz (fT [0,1] (bE (bf b (bf a jm)))):Nat):Int),?_,λk hk=> ?_⟩
    ·intro r' u hu;rw[dD];by_cases e:r'=r
     ·subst e;have:=hu.ur hd';subst this;rw[bS rfl,bS (bY _ _),hnum]
     ·have hne:u≠ .node v a b:=λe2=>e (by subst e2;exact hu.inj hG hd');rw[bT e,hS2 r' u hu,hde];by_cases hm:u∈bf b (bf a jm)
      ·rw[bS hm,bS (zZ _ hm),sH,uI λh=>dc.2 ⟨hm,h⟩]
      ·rw[bT hm,bT];intro h;rcases zV.1 h with h|h
       ·exact hm h
       ·exact hne (zC.1 h)
    ·obtain⟨k,rfl⟩:∃j,k=j+1:=⟨k-1,by simp only[sz]at hk;omega⟩;simp only[sz]at hk;have hnone:dA S r=J:=by rw[hS r _ hd',bT ht]
     rw[hY.node k r S v p q _ _ _ _ _ _ hnone hr (w1 k (by omega)) (hR _ _ _ _ _ w2) (by rw[fK];omega),hnum,hde,ry hc2 ha2 hb2,rH (bY a jm) b]
end Go.Proofs.YtghilkcphindjaaGreat
end
noncomputable section
namespace Go.Iv
variable [U:tQ] [L:sG]
open Go Go.RowKit
section
variable {β γ δ:Type}
structure Rq (β:Type) where
 f:AV->Option β
 c:β->AV
 ok:PN f c
structure Rl (γ:Type) where
 q:List AV->Option γ
 c:γ->List AV
 ok:Iu q c
def aL:Rq Int:=⟨gQ .i64,bM.n .i64, .i .i64⟩
def qi(k:IntKind):Rq Int:=⟨gQ k,bM.n k, .i k⟩
def qb:Rq Bool:=⟨RM,bM.b, .b⟩
def qs:Rq ByteArray:=⟨asS,bM.s, .s⟩
def ql(t:Nat):Rq (aa (U.cA t)):=⟨iP t,bM.sl t, .l t⟩
@[reducible] def tupT (t:Nat):Nat->Type
 |0=>Unit
 |n+1=>U.cA t×tupT t n
def ofT(t:Nat):(n:Nat)->tupT t n->aa (U.cA t)
 |0,_=>[]
 |n+1,x=>x.1::ofT t n x.2
def toT(t:Nat):(n:Nat)->aa (U.cA t)->af (tupT t n)
 |0,[]=>Q ()
 |n+1,a::l=>(toT t n l).map λx=>(a,x)
 |_,_=>J
def XI{t:Nat}:∀{n:Nat} {l:aa (U.cA t)} {x:tupT t n},toT t n l=Q x->l=ofT t n x
 |0,[],x,h=>rfl
 |0,_::_,x,h=>by cases h
 |n+1,[],x,h=>by cases h
 |n+1,a::l,x,h=>by
  obtain⟨y,h1,rfl⟩:=zk.1 (show (toT t n l).map (λx=>(a,x))=Q x from h);rw[XI h1];rfl
def asK(t n:Nat)(a:AV):af (tupT t n):=(iP t a).bind (toT t n)
def PN.k(t n:Nat):PN (asK t n) (λx=> .sl t (ofT t n x)):=λa x h=>by
 obtain⟨l,h1,h2⟩:=zn.1 h;have h3:=PN.l t a l h1;rw[XI h2]at h3;exact h3
def qk(t n:Nat):Rq (tupT t n):=⟨asK t n,λx=> .sl t (ofT t n x), .k t n⟩
def qg(t:Nat):Rq (U.cA t):=⟨Z1 t,λx=> .agg (U.cells t x), .g t⟩
def qp(i o:Nat):Rq Unit:=⟨asP i o,λ_=> .ptr i o, .p i o⟩
def qo(i:Nat):Rq Unit:=⟨asO i,λ_=> .own i, .o i⟩
def qn:Rq Unit:=⟨ak2,λ_=> .lit (.slice J 0 0), .ns⟩
def qa(l:Rl γ):Rq γ:=⟨ajR l.q,λx=> .agg (l.c x), .ag l.ok⟩
def qf(k:Nat)(l:Rl γ):Rq γ:=⟨ame k l.q,λx=> .fn (.func k) (l.c x), .ff k l.ok⟩
def qr(l:Rl γ):Rq γ:=⟨amC l.q,λx=> .fp (l.c x), .fp l.ok⟩
def ln:Rl Unit:=⟨pG,λ_=>[], .nil⟩
def lc(a:Rq β)(l:Rl γ):Rl (β×γ):=⟨dQ a.f l.q,λx=>a.c x.1::l.c x.2, .cons a.ok l.ok⟩
abbrev aW(l:Rl γ):Rl (Int×γ):=lc aL l
def lg(t:Nat):Rl (U.cA t):=⟨ak0 t,λx=>U.cells t x,Iu.parse t⟩
structure Re (γ:Type) where
 q:ET->Option γ
 d:γ->Env
 ok:oa q d
def en:Re Unit:=⟨slN,λ_=>[], .nil⟩
def ec(t:Nat)(a:Rq β)(l:Re γ):Re (β×γ):=⟨slC t a.f l.q,λx=>(t,a.c x.1)::l.d x.2, .cons a.ok l.ok⟩
structure Rs (γ:Type) where
 q:aM->Option γ
 d:γ->aM
 ok:qU q d
def sn:Rs Unit:=⟨rsN,λ_=>[], .nil⟩
def sr(i t:Nat)(l:Rs γ):Rs (aa (U.cA t)×γ):=⟨rsR i t l.q,λx=>(i, .row t x.1)::l.d x.2, .row l.ok⟩
def sm(i:Nat)(k:KK)(e:VK)(l:Rs γ):Rs (aa (k.T×e.T)×γ):=⟨rsM i k e l.q,λx=>(i, .md k e x.1)::l.d x.2, .map l.ok⟩
def sb(i t:Nat)(a:Rl β)(l:Rs γ):Rs (β×γ):=⟨amX i t a.q l.q,λx=>(i, .box t (a.c x.1))::l.d x.2, .aAc a.ok l.ok⟩
structure Td (n0:Nat) (γ:Type) where
 rd:St->Option γ
 pat:γ->St
 ok:∀n,n9 n0 n rd pat
def Td.r(n0 m:Nat)(e:Re β)(s:Rs δ)(mk:β×δ->γ)(un:γ->β×δ)(h:∀z,un (mk z)=z:=by exact λ_=>rfl):Td n0 γ:=
 ⟨rdM mk (stR m e.q s.q),λx=>stP m e.d s.d (un x),λ_=>(als e.ok s.ok).m mk λz=>by rw[h]⟩
def Td.c{n0:Nat}(dr ts:aa Nat)(d:Td n0 γ):Td n0 γ:=⟨rdC n0 dr ts d.rd,d.pat,λn=>anR (d.ok n)⟩
def Td.t{n0:Nat}{f:St->St}(h:cq f)(d:Td n0 γ):Td n0 γ:=⟨rdF f d.rd,d.pat,λn=>ajZ h (d.ok n)⟩
def Td.lp{n0:Nat}(d:Td n0 γ)(a:γ->af γ)(b:An):An:= .lp γ d.rd d.pat a b
end
def gE(P:Program)(f n0:Nat)(s:St):Out:=match (match GM P f s with
  |some ds=>Q (Out.mk (iH ds) (DL s.R n0 (iH ds)) s.nx)
  |none=>J)with
 |some o=>o
 |none=>⟨.gH [],[],0⟩
def aC{α:Type _}{zg:α->Prop}:∀p∈([]:aa α),zg p:=λp h=>by cases h
def aA{α:Type _}{zg:α->Prop}{a:α}{l:aa α}(h:zg a)(t:∀p∈l,zg p):∀p∈a::l,zg p:=λp hp=>(zu.1 hp).elim (λe=>e▸h) (t p)
section
variable {P:Program} {F:aI} {f n0:Nat} {γ δ β:Type}
def HY(P:Program)(f n0:Nat)(a:Rl γ)(s:Rs δ)(d:Td n0 β)(t:γ×δ->af β):Prop:=∀g b,t g=Q b->Gu P f (a.c g.1) (s.d g.2) n0 (gE P f n0 (d.pat b))
def HL(P:Program)(f:Nat)(a:Rl γ)(d:Td 0 β)(t:γ->af β):Prop:=∀g b,t g=Q b->Gu P f (a.c g) [] 0 (gE P f 0 (d.pat b))
def dN(hF:ak P F){an:An}(fa:bx P F n0 300 f an){a:Rl γ}{s:Rs δ}{d:Td n0 β}{t:γ×δ->af β}(ho:∀p,(match GM P f (d.pat p)with
   |some ds=>Q (Out.mk (iH ds) (DL (d.pat p).R n0 (iH ds)) (d.pat p).nx)
   |none=>J)=Q (gE P f n0 (d.pat p)))
  (h1:∀g,(a.c g).all (jG (λi=>zD i n0) 4)=O) (h2:∀g,(s.d g).all (λq=>zD q.1 n0&&match q.2 with
  | .box _ cs=>cs.all (jG (λi=>zD i n0) 4)
  | .row _ _=>O
  | .mp _=>O
  | .md _ _ _=>O)=O) (c:∀g,aO P F 300 an f (a.c g.1) (s.d g.2) n0 d.rd=t g):HY P f n0 a s d t:=
 λg b hb=>(gL (p:=b) hF fa d.ok ho (gm (h1 g.1)) (fL (h2 g.2)) ((c g).trans hb)).2
def bq(hF:ak P F){an:An}(fa:bx P F 0 300 f an){a:Rl γ}{d:Td 0 β}{t:γ->af β}(ho:∀p,(match GM P f (d.pat p)with
   |some ds=>Q (Out.mk (iH ds) (DL (d.pat p).R 0 (iH ds)) (d.pat p).nx)
   |none=>J)=Q (gE P f 0 (d.pat p)))
  (h1:∀g,(a.c g).all (jG (λi=>zD i 0) 4)=O) (c:∀g,aO P F 300 an f (a.c g) [] 0 d.rd=t g):HL P f a d t:=
 λg b hb=>(gL (p:=b) hF fa d.ok ho (gm (h1 g)) (fL rfl) ((c g).trans hb)).2
def eY(P:Program)(f n0:Nat)(a:Rl γ)(s:Rs δ)(d:Td n0 β)(t:γ×δ->af β)(F:aI):aI:=ZU f n0 (qyR a.q s.q) t (λx=>gE P f n0 (d.pat x)) F
def eZ(P:Program)(f:Nat)(a:Rl γ)(d:Td 0 β)(t:γ->af β)(F:aI):aI:=ZU f 0 (qy0 a.q) t (λx=>gE P f 0 (d.pat x)) F
def eL(P:Program)(f:Nat)(lb:Bool)(a:Rl γ)(d:Td 0 β)(t:γ->af β)(F:aI):aI:=orL f lb a.q t (λx=>gE P f 0 (d.pat x)) F
def dG{a:Rl γ}{s:Rs δ}{d:Td n0 β}{t:γ×δ->af β}(h:HY P f n0 a s d t)(hf:rP P f)(h3:∀b,(gE P f n0 (d.pat b)).okB n0=O)(hF:ak P F):ak P (eY P f n0 a s d t F):=
 aiS hF hf (aok a.ok s.ok) h3 h
def gh{a:Rl γ}{d:Td 0 β}{t:γ->af β}(h:HL P f a d t)(hf:rP P f)(h3:∀b,(gE P f 0 (d.pat b)).okB 0=O)(hF:ak P F):ak P (eZ P f a d t F):=
 aiS hF hf (ajy a.ok) h3 h
def bA{lb:Bool}{sc:Nat->Bool}(hsc:∀t,sc t=O->∀x,F7 (U.cells t x)){a:Rl γ}{d:Td 0 β}{t:γ->af β}(h:HL P f a d t)(hf:rP P f)(h3:∀b,(gE P f 0 (d.pat b)).okB 0=O)(h4:∀b,(gE P f 0 (d.pat b)).scB sc=O)(hF:ak P F):ak P (eL P f lb a d t F):=
 aqA hF hsc hf a.ok h3 h4 h
end
end Go.Iv
end
noncomputable section
set_option maxRecDepth 100000
namespace Go.Proofs.YtghilkcphindjaaGreat
open Go Go.Iv
open Go.IntKind (i64 u64)
def afP:aI:=cw
def afn:ak wR afP:=aQ
abbrev amJ:=Bool
def d188:Td 0 amJ:= .c [] [2] (.r 0 0 (ec 2 qb en) sn (λz=>z.1.1) (λx=>((x,()),(()))))
def atK:=(aW ln)
def aga:An:=(noTwo (.two (.rb [] 2) .no))
def avC:∀f∈([]:aa Nat),aZ (afP) f:=aC
def auJ:bx wR (afP) 0 300 188 (aga):=aD (l:=[(.skip,(.rb [] 2))]) func188 (aq (by kernel_rfl)) (by kernel_rfl) (aA avC aC)
def jK(a0:Int):amJ:=
 let r1:Bool:=bif Z (-1099511627776<=a0)then Z (a0<=1099511627776)else V;r1
def aDl(a0:Int):aO wR (afP) 300 (aga) 188 (atK.c (a0,())) [] 0 d188.rd=Q (jK a0):=by
 refine Eq.trans (b:=(
  match bif Z (-1099511627776<=a0)then Q (Z (a0<=1099511627776))else Q (V)with|J=>J|Q r1=>Q (r1):af amJ)) (by kernel_rfl) ?_
 simp only[jK,bV,cv]
def QE:=eL wR 188 V atK d188 (λg=>Q (jK g.1))
def u7{F:aI}(h:ak wR F):ak wR (QE F):=bA (sc:=dM) aX (bq afn auJ (λ_=>by kernel_rfl) (λ_=>by kernel_rfl) λg=>aDl g.1) ⟨_,func188,by kernel_rfl,by kernel_rfl⟩ (λ_=>by kernel_rfl) (λ_=>by kernel_rfl) h
def j8{F:aI}{f:Nat}(h:aZ F f):aZ (QE F) f:=cg h (λ_=>by kernel_rfl)
def anV:aI:=(QE cw)
def afJ:ak wR anV:=(u7 aQ)
abbrev awb:=Int×(aa Int)×(aa aF)×(aa (Int×Int))×(aa ((Int×Int×Int)×Int))×Bool
def d158:Td 5 awb:= .c [1] [4] (.r 5 6 (ec 4 aL en) (sb 0 296 (lc (qo 5) (lc (qo 2) (lc (qo 3) (lc (qo 4) (lc qb ln))))) (sr 2 113 (sm 3 .k1 .i (sm 4 .k3 .i (sr 5 3 sn))))) (λz=>(z.1.1,z.q.2.1,z.t.1,z.t.2.1,z.q.1,z.2.1.q.1)) (λx=>((x.1,()),(((),(),(),(),x.q.2,()),x.t.1,x.t.2.1,x.q.1,x.2.1,()))))
def awa:=(lc (qp 0 0) (aW ln))
def arl:=(sb 0 296 (lc (qo 1) (lc (qo 2) (lc (qo 3) (lc (qo 4) (lc qb ln))))) (sr 1 3 (sr 2 113 (sm 3 .k1 .i (sm 4 .k3 .i sn)))))
def ajc:An:= .no
def axw:bx wR (anV) 5 300 158 (ajc):=aD (l:=[]) func158 (aq (by kernel_rfl)) (by kernel_rfl) aC
def sy(a1:Int)(aS:aa Int)(cz:aa aF)(eR:aa (Int×Int))(eP:aa ((Int×Int×Int)×Int))(fe:Bool):af awb:=
 bif bif(dA eR a1).isSome then V else O then if(aS++[a1]).length<=1073741824 then bif fe then Q ((i64.wrap (2*(yz aS:Int)),aS++[a1],cz,fQ eR a1 (yz aS),eP,O))else Q ((i64.wrap (2*(yz aS:Int)),aS++[a1],cz,fQ eR a1 (yz aS),eP,bif jK a1 then V else O))else J else Q ((i64.wrap (2*(dA eR a1).getD 0),aS,cz,eR,eP,fe))
def aC1(a1:Int)(aS:aa Int)(cz:aa aF)(eR:aa (Int×Int))(eP:aa ((Int×Int×Int)×Int))(fe:Bool):aO wR (anV) 300 (ajc) 158 (awa.c ((),a1,())) (arl.d (((),(),(),(),fe,()),aS,cz,eR,eP,())) 5 d158.rd=sy a1 aS cz eR eP fe:=by kernel_rfl
def L6:aI->aI:=eY wR 158 5 awa arl d158 (λg=>sy g.1.2.1 g.t.1 g.t.2.1 g.q.1 g.q.2.1 g.2.1.q.1)
def nH{F:aI}(h:ak wR F):ak wR (L6 F):=dG (dN afJ axw (λ_=>by kernel_rfl) (λ_=>by kernel_rfl) (λ_=>by kernel_rfl) λg=>aC1 g.1.2.1 g.t.1 g.t.2.1 g.q.1 g.q.2.1 g.2.1.q.1) ⟨_,func158,by kernel_rfl,by kernel_rfl⟩ (λ_=>by kernel_rfl) h
def apw:aI:=cw
def Zc:ak wR apw:=aQ
abbrev awQ:=Int×(aa Int)×(aa aF)×(aa (Int×Int))×(aa ((Int×Int×Int)×Int))×Bool
def d159:Td 5 awQ:= .c [2] [8] (.r 5 6 (ec 8 aL en) (sb 0 296 (lc (qo 1) (lc (qo 5) (lc (qo 3) (lc (qo 4) (lc qb ln))))) (sr 1 3 (sm 3 .k1 .i (sm 4 .k3 .i (sr 5 113 sn))))) (λz=>(z.1.1,z.t.1,z.q.2.1,z.t.2.1,z.q.1,z.2.1.q.1)) (λx=>((x.1,()),(((),(),(),(),x.q.2,()),x.2.1,x.t.2.1,x.q.1,x.t.1,()))))
def aqZ:=(lc (qp 0 0) (aW (aW (aW ln))))
def avR:=(sb 0 296 (lc (qo 1) (lc (qo 2) (lc (qo 3) (lc (qo 4) (lc qb ln))))) (sr 1 3 (sr 2 113 (sm 3 .k1 .i (sm 4 .k3 .i sn)))))
def agC:An:= .no
def avU:bx wR (apw) 5 300 159 (agC):=aD (l:=[]) func159 (aq (by kernel_rfl)) (by kernel_rfl) aC
def Bw(a1:Int)(a2:Int)(a3:Int)(aS:aa Int)(cz:aa aF)(eR:aa (Int×Int))(eP:aa ((Int×Int×Int)×Int))(fe:Bool):af awQ:=
 bif Z (a2=a3)then Q (a2,aS,cz,eR,eP,fe)else bif bif(dA eP (a1,a2,a3)).isSome then V else O then if(cz++[aF.mk a1 a2 a3]).length<=1073741824 then Q ((i64.wrap (i64.wrap (2*(yz cz:Int))+1),aS,cz++[aF.mk a1 a2 a3],eR,fQ eP (a1,a2,a3) (yz cz:Int),fe))else J else Q ((i64.wrap (i64.wrap (2*(dA eP (a1,a2,a3)).getD 0)+1),aS,cz,eR,eP,fe))
def aAG(a1:Int)(a2:Int)(a3:Int)(aS:aa Int)(cz:aa aF)(eR:aa (Int×Int))(eP:aa ((Int×Int×Int)×Int))(fe:Bool):aO wR (apw) 300 (agC) 159 (aqZ.c ((),a1,a2,a3,())) (avR.d (((),(),(),(),fe,()),aS,cz,eR,eP,())) 5 d159.rd=Bw a1 a2 a3 aS cz eR eP fe:=by kernel_rfl
def Rw:aI->aI:=eY wR 159 5 aqZ avR d159 (λg=>Bw g.1.2.1 g.1.t.1 g.1.t.2.1 g.t.1 g.t.2.1 g.q.1 g.q.2.1 g.2.1.q.1)
def ru{F:aI}(h:ak wR F):ak wR (Rw F):=dG (dN Zc avU (λ_=>by kernel_rfl) (λ_=>by kernel_rfl) (λ_=>by kernel_rfl) λg=>aAG g.1.2.1 g.1.t.1 g.1.t.2.1 g.t.1 g.t.2.1 g.q.1 g.q.2.1 g.2.1.q.1) ⟨_,func159,by kernel_rfl,by kernel_rfl⟩ (λ_=>by kernel_rfl) h
abbrev tA:=(aa (Int×Bool))×(aa Int)×(aa Int)×(aa Int)×(aa aF)×(aa (Int×Int))×(aa ((Int×Int×Int)×Int))×Bool
def d274:Td 13 tA:= .c [6,8] [] (.r 13 15 en (sb 0 347 (lc (qo 5) ln) (sb 1 46 (lc (qo 13) ln) (sb 2 239 (lc (qp 7 0) ln) (sb 3 348 (lc (qf 274 (lc (qp 0 0) (lc (qp 1 0) (lc (qp 2 0) (lc (qp 3 0) (lc (qp 4 0) ln)))))) ln) (sb 4 46 (lc (qo 14) ln) (sm 5 .k1 .b (sb 7 296 (lc (qo 9) (lc (qo 10) (lc (qo 11) (lc (qo 12) (lc qb ln))))) (sr 9 3 (sr 10 113 (sm 11 .k1 .i (sm 12 .k3 .i (sr 13 3 (sr 14 3 sn))))))))))))) (λz=>(z.q.t.1,z.q.q.q.1,z.q.q.q.2.1,z.q.q.1,z.q.q.2.1,z.q.q.t.1,z.q.q.t.2.1,z.q.t.2.1.q.1)) (λx=>((()),(((),()),((),()),((),()),(((),(),(),(),(),()),()),((),()),x.1,((),(),(),(),x.q.t.2,()),x.t.2.1,x.q.1,x.q.2.1,x.q.t.1,x.2.1,x.t.1,()))))
def aoR:=(aW (lc (qp 0 0) (lc (qp 1 0) (lc (qp 2 0) (lc (qp 3 0) (lc (qp 4 0) ln))))))
def aoE:=(sb 0 347 (lc (qo 5) ln) (sb 1 46 (lc (qo 6) ln) (sb 2 239 (lc (qp 7 0) ln) (sb 3 348 (lc (qf 274 (lc (qp 0 0) (lc (qp 1 0) (lc (qp 2 0) (lc (qp 3 0) (lc (qp 4 0) ln)))))) ln) (sb 4 46 (lc (qo 8) ln) (sm 5 .k1 .b (sr 6 3 (sb 7 296 (lc (qo 9) (lc (qo 10) (lc (qo 11) (lc (qo 12) (lc qb ln))))) (sr 8 3 (sr 9 3 (sr 10 113 (sm 11 .k1 .i (sm 12 .k3 .i sn)))))))))))))
def ao4(M:Int->(aa (Int×Bool))->(aa Int)->(aa Int)->(aa Int)->(aa aF)->(aa (Int×Int))->(aa ((Int×Int×Int)×Int))->Bool->af tA):aI->aI:=eY wR 274 13 aoR aoE d274 (λg=>M g.1.1 g.2.2.2.2.2.2.1 g.2.2.2.2.2.2.2.1 g.2.2.2.2.2.2.2.2.2.1 g.2.2.2.2.2.2.2.2.2.2.1 g.2.2.2.2.2.2.2.2.2.2.2.1 g.2.2.2.2.2.2.2.2.2.2.2.2.1 g.2.2.2.2.2.2.2.2.2.2.2.2.2.1 g.2.2.2.2.2.2.2.2.1.2.2.2.2.1)
def aa6(M:Int->(aa (Int×Bool))->(aa Int)->(aa Int)->(aa Int)->(aa aF)->(aa (Int×Int))->(aa ((Int×Int×Int)×Int))->Bool->af tA):Prop:=HY wR 274 13 aoR aoE d274 (λg=>M g.1.1 g.2.2.2.2.2.2.1 g.2.2.2.2.2.2.2.1 g.2.2.2.2.2.2.2.2.2.1 g.2.2.2.2.2.2.2.2.2.2.1 g.2.2.2.2.2.2.2.2.2.2.2.1 g.2.2.2.2.2.2.2.2.2.2.2.2.1 g.2.2.2.2.2.2.2.2.2.2.2.2.2.1 g.2.2.2.2.2.2.2.2.1.2.2.2.2.1)
def Nz{M:Int->(aa (Int×Bool))->(aa Int)->(aa Int)->(aa Int)->(aa aF)->(aa (Int×Int))->(aa ((Int×Int×Int)×Int))->Bool->af tA}(hM:aa6 M){F:aI}(h:ak wR F):ak wR (ao4 M F):=dG hM ⟨_,func274,by kernel_rfl,by kernel_rfl⟩ (λ_=>by kernel_rfl) h
def am6(M274:Int->(aa (Int×Bool))->(aa Int)->(aa Int)->(aa Int)->(aa aF)->(aa (Int×Int))->(aa ((Int×Int×Int)×Int))->Bool->af tA):aI:=(ao4 M274 cw)
def abV{M274}(h274:aa6 M274):ak wR (am6 M274):=(Nz h274 aQ)
def ahX(M274:Int->(aa (Int×Bool))->(aa Int)->(aa Int)->(aa Int)->(aa aF)->(aa (Int×Int))->(aa ((Int×Int×Int)×Int))->Bool->af tA):An:= .no
def arj(M274:Int->(aa (Int×Bool))->(aa Int)->(aa Int)->(aa Int)->(aa aF)->(aa (Int×Int))->(aa ((Int×Int×Int)×Int))->Bool->af tA):bx wR (am6 M274) 13 300 274 (ahX M274):=aD (l:=[]) func274 (aq (by kernel_rfl)) (by kernel_rfl) aC
def Ki(M274:Int->(aa (Int×Bool))->(aa Int)->(aa Int)->(aa Int)->(aa aF)->(aa (Int×Int))->(aa ((Int×Int×Int)×Int))->Bool->af tA)(a0:Int)(aS:aa (Int×Bool))(b1_0:aa Int)(b4_0:aa Int)(b7_0:aa Int)(b7_1:aa aF)(b7_2:aa (Int×Int))(b7_3:aa ((Int×Int×Int)×Int))(b7_4:Bool):af tA:=
 bif(dA aS a0).getD V then Q (aS,b1_0,b4_0,b7_0,b7_1,b7_2,b7_3,b7_4)else bif Z (a0.tmod 2=0)then if(b1_0++[i64.wrap (a0.tdiv ((2:Int)))]).length<=1073741824 then Q ((fQ aS a0 O,b1_0++[i64.wrap (a0.tdiv 2)],b4_0,b7_0,b7_1,b7_2,b7_3,b7_4))else J else if 0<=i64.wrap (a0.tdiv ((2:Int)))/\i64.wrap (a0.tdiv ((2:Int)))<yz b7_1 then if 113=113/\(i64.wrap (a0.tdiv ((2:Int)))).toNat<yz b7_1 then match M274 b7_1[(i64.wrap (a0.tdiv 2)).toNat]!.aG (fQ aS a0 O) b1_0 b4_0 b7_0 b7_1 b7_2 b7_3 b7_4 with|J=>J|Q r1=>match M274 b7_1[(i64.wrap (a0.tdiv 2)).toNat]!.au r1.fst r1.snd.fst r1.snd.snd.fst r1.snd.snd.snd.fst r1.snd.snd.snd.snd.fst r1.snd.snd.snd.snd.snd.fst r1.snd.snd.snd.snd.snd.snd.fst r1.snd.snd.snd.snd.snd.snd.snd with|J=>J|Q r2=>if(r2.snd.snd.fst++[i64.wrap (a0.tdiv ((2:Int)))]).length<=1073741824 then Q ((r2.fst,r2.snd.fst,r2.snd.snd.fst++[i64.wrap (a0.tdiv 2)],r2.snd.snd.snd))else J else J else J
def aAA(M274:Int->(aa (Int×Bool))->(aa Int)->(aa Int)->(aa Int)->(aa aF)->(aa (Int×Int))->(aa ((Int×Int×Int)×Int))->Bool->af tA)(a0:Int)(aS:aa (Int×Bool))(b1_0:aa Int)(b4_0:aa Int)(b7_0:aa Int)(b7_1:aa aF)(b7_2:aa (Int×Int))(b7_3:aa ((Int×Int×Int)×Int))(b7_4:Bool):aO wR (am6 M274) 300 (ahX M274) 274 (aoR.c (a0,(),(),(),(),(),())) (aoE.d (((),()),((),()),((),()),(((),(),(),(),(),()),()),((),()),aS,b1_0,((),(),(),(),b7_4,()),b4_0,b7_0,b7_1,b7_2,b7_3,())) 13 d274.rd=Ki M274 a0 aS b1_0 b4_0 b7_0 b7_1 b7_2 b7_3 b7_4:=by kernel_rfl
def Ck:Nat->(Int->(aa (Int×Bool))->(aa Int)->(aa Int)->(aa Int)->(aa aF)->(aa (Int×Int))->(aa ((Int×Int×Int)×Int))->Bool->af tA)
 |0=>(λ_ _ _ _ _ _ _ _ _=>J)
 |n+1=>(Ki (Ck n))
def SP(n:Nat):Int->(aa (Int×Bool))->(aa Int)->(aa Int)->(aa Int)->(aa aF)->(aa (Int×Int))->(aa ((Int×Int×Int)×Int))->Bool->af tA:=(Ck n)
def Ju:∀n,aa6 (SP n)
 |0=>λ_ _ h=>(by cases h)
 |n+1=>by
  have ih:=Ju n;have i274:=ih;exact(dN (abV i274) (arj (SP n)) (λ_=>by kernel_rfl) (λ_=>by kernel_rfl) (λ_=>by kernel_rfl) λg=>aAA (SP n) g.1.1 g.2.2.2.2.2.2.1 g.2.2.2.2.2.2.2.1 g.2.2.2.2.2.2.2.2.2.1 g.2.2.2.2.2.2.2.2.2.2.1 g.2.2.2.2.2.2.2.2.2.2.2.1 g.2.2.2.2.2.2.2.2.2.2.2.2.1 g.2.2.2.2.2.2.2.2.2.2.2.2.2.1 g.2.2.2.2.2.2.2.2.1.2.2.2.2.1)
def adn:Int->(aa (Int×Bool))->(aa Int)->(aa Int)->(aa Int)->(aa aF)->(aa (Int×Int))->(aa ((Int×Int×Int)×Int))->Bool->af tA:=λa0 aS b1_0 b4_0 b7_0 b7_1 b7_2 b7_3 b7_4=>lim (λn=>SP n a0 aS b1_0 b4_0 b7_0 b7_1 b7_2 b7_3 b7_4)
def adE:aa6 adn:=λg b h=>by
 obtain⟨n,hn⟩:=bX (show lim (λn=>SP n g.1.1 g.2.2.2.2.2.2.1 g.2.2.2.2.2.2.2.1 g.2.2.2.2.2.2.2.2.2.1 g.2.2.2.2.2.2.2.2.2.2.1 g.2.2.2.2.2.2.2.2.2.2.2.1 g.2.2.2.2.2.2.2.2.2.2.2.2.1 g.2.2.2.2.2.2.2.2.2.2.2.2.2.1 g.2.2.2.2.2.2.2.2.1.2.2.2.2.1)=Q b from h);exact(Ju n) g b hn
def ane(F:aI):aI:=ao4 adn F
def M4{F:aI}(h:ak wR F):ak wR (ane F):=Nz adE h
abbrev jT:=(aa (Int×Bool))×(aa Int)×(aa Int)×(aa Int)×(aa aF)×(aa (Int×Int))×(aa ((Int×Int×Int)×Int))×Bool
def Xn:Td 11 jT:= .c [] [] (.t (cq.c 1 0 [] 3) (.t (cq.c 4 0 [] 3) (.c [] [] (.r 11 13 en (sb 0 347 (lc (qo 5) ln) (sb 1 46 (lc (qo 11) ln) (sb 2 239 (lc (qp 6 0) ln) (sb 3 348 (lc (qf 274 (lc (qp 0 0) (lc (qp 1 0) (lc (qp 2 0) (lc (qp 3 0) (lc (qp 4 0) ln)))))) ln) (sb 4 46 (lc (qo 12) ln) (sm 5 .k1 .b (sb 6 296 (lc (qo 7) (lc (qo 8) (lc (qo 9) (lc (qo 10) (lc qb ln))))) (sr 7 3 (sr 8 113 (sm 9 .k1 .i (sm 10 .k3 .i (sr 11 3 (sr 12 3 sn))))))))))))) (λz=>(z.q.t.1,z.q.q.q.1,z.q.q.q.2.1,z.q.q.1,z.q.q.2.1,z.q.q.t.1,z.q.q.t.2.1,z.q.t.2.1.q.1)) (λx=>((()),(((),()),((),()),((),()),(((),(),(),(),(),()),()),((),()),x.1,((),(),(),(),x.q.t.2,()),x.t.2.1,x.q.1,x.q.2.1,x.q.t.1,x.2.1,x.t.1,())))))))
def U2:=(aW (lc (qp 0 0) (lc (qp 1 0) (lc (qp 2 0) (lc (qp 3 0) (lc (qp 4 0) ln))))))
def XO:=(sb 0 347 (lc (qo 5) ln) (sb 1 46 (lc qn ln) (sb 2 239 (lc (qp 6 0) ln) (sb 3 348 (lc (qf 274 (lc (qp 0 0) (lc (qp 1 0) (lc (qp 2 0) (lc (qp 3 0) (lc (qp 4 0) ln)))))) ln) (sb 4 46 (lc qn ln) (sm 5 .k1 .b (sb 6 296 (lc (qo 7) (lc (qo 8) (lc (qo 9) (lc (qo 10) (lc qb ln))))) (sr 7 3 (sr 8 113 (sm 9 .k1 .i (sm 10 .k3 .i sn)))))))))))
def UZ(M:Int->(aa (Int×Bool))->(aa Int)->(aa aF)->(aa (Int×Int))->(aa ((Int×Int×Int)×Int))->Bool->af jT):aI->aI:=eY wR 274 11 U2 XO Xn (λg=>M g.1.1 g.2.2.2.2.2.2.1 g.2.2.2.2.2.2.2.2.1 g.2.2.2.2.2.2.2.2.2.1 g.2.2.2.2.2.2.2.2.2.2.1 g.2.2.2.2.2.2.2.2.2.2.2.1 g.2.2.2.2.2.2.2.1.2.2.2.2.1)
def MY(M:Int->(aa (Int×Bool))->(aa Int)->(aa aF)->(aa (Int×Int))->(aa ((Int×Int×Int)×Int))->Bool->af jT):Prop:=HY wR 274 11 U2 XO Xn (λg=>M g.1.1 g.2.2.2.2.2.2.1 g.2.2.2.2.2.2.2.2.1 g.2.2.2.2.2.2.2.2.2.1 g.2.2.2.2.2.2.2.2.2.2.1 g.2.2.2.2.2.2.2.2.2.2.2.1 g.2.2.2.2.2.2.2.1.2.2.2.2.1)
def Jv{M:Int->(aa (Int×Bool))->(aa Int)->(aa aF)->(aa (Int×Int))->(aa ((Int×Int×Int)×Int))->Bool->af jT}(hM:MY M){F:aI}(h:ak wR F):ak wR (UZ M F):=dG hM ⟨_,func274,by kernel_rfl,by kernel_rfl⟩ (λ_=>by kernel_rfl) h
def W2(M274n:Int->(aa (Int×Bool))->(aa Int)->(aa aF)->(aa (Int×Int))->(aa ((Int×Int×Int)×Int))->Bool->af jT):aI:=(UZ M274n (ane cw))
def W4{M274n}(h274n:MY M274n):ak wR (W2 M274n):=(Jv h274n (M4 aQ))
def Xh(M274n:Int->(aa (Int×Bool))->(aa Int)->(aa aF)->(aa (Int×Int))->(aa ((Int×Int×Int)×Int))->Bool->af jT):An:= .no
def amK(M274n:Int->(aa (Int×Bool))->(aa Int)->(aa aF)->(aa (Int×Int))->(aa ((Int×Int×Int)×Int))->Bool->af jT):bx wR (W2 M274n) 11 300 274 (Xh M274n):=aD (l:=[]) func274 (aq (by kernel_rfl)) (by kernel_rfl) aC
def Dj(M274n:Int->(aa (Int×Bool))->(aa Int)->(aa aF)->(aa (Int×Int))->(aa ((Int×Int×Int)×Int))->Bool->af jT)(a0:Int)(aS:aa (Int×Bool))(b6_0:aa Int)(b6_1:aa aF)(b6_2:aa (Int×Int))(b6_3:aa ((Int×Int×Int)×Int))(b6_4:Bool):af jT:=
 bif(dA aS a0).getD V then Q (aS,[],[],b6_0,b6_1,b6_2,b6_3,b6_4)else bif Z (a0.tmod 2=0)then Q ((fQ aS a0 O,[i64.wrap (a0.tdiv 2)],[],b6_0,b6_1,b6_2,b6_3,b6_4))else if 0<=i64.wrap (a0.tdiv ((2:Int)))/\i64.wrap (a0.tdiv ((2:Int)))<yz b6_1 then if 113=113/\(i64.wrap (a0.tdiv ((2:Int)))).toNat<yz b6_1 then match M274n b6_1[(i64.wrap (a0.tdiv 2)).toNat]!.aG (fQ aS a0 O) b6_0 b6_1 b6_2 b6_3 b6_4 with|J=>J|Q r1=>match adn b6_1[(i64.wrap (a0.tdiv 2)).toNat]!.au r1.fst r1.snd.fst r1.snd.snd.fst r1.snd.snd.snd.fst r1.snd.snd.snd.snd.fst r1.snd.snd.snd.snd.snd.fst r1.snd.snd.snd.snd.snd.snd.fst r1.snd.snd.snd.snd.snd.snd.snd with|J=>J|Q r2=>if(r2.snd.snd.fst++[i64.wrap (a0.tdiv ((2:Int)))]).length<=1073741824 then Q ((r2.fst,r2.snd.fst,r2.snd.snd.fst++[i64.wrap (a0.tdiv 2)],r2.snd.snd.snd))else J else J else J
def aqP(M274n:Int->(aa (Int×Bool))->(aa Int)->(aa aF)->(aa (Int×Int))->(aa ((Int×Int×Int)×Int))->Bool->af jT)(a0:Int)(aS:aa (Int×Bool))(b6_0:aa Int)(b6_1:aa aF)(b6_2:aa (Int×Int))(b6_3:aa ((Int×Int×Int)×Int))(b6_4:Bool):aO wR (W2 M274n) 300 (Xh M274n) 274 (U2.c (a0,(),(),(),(),(),())) (XO.d (((),()),((),()),((),()),(((),(),(),(),(),()),()),((),()),aS,((),(),(),(),b6_4,()),b6_0,b6_1,b6_2,b6_3,())) 11 Xn.rd=Dj M274n a0 aS b6_0 b6_1 b6_2 b6_3 b6_4:=by kernel_rfl
def vr:Nat->(Int->(aa (Int×Bool))->(aa Int)->(aa aF)->(aa (Int×Int))->(aa ((Int×Int×Int)×Int))->Bool->af jT)
 |0=>(λ_ _ _ _ _ _ _=>J)
 |n+1=>(Dj (vr n))
def JA(n:Nat):Int->(aa (Int×Bool))->(aa Int)->(aa aF)->(aa (Int×Int))->(aa ((Int×Int×Int)×Int))->Bool->af jT:=(vr n)
def CX:∀n,MY (JA n)
 |0=>λ_ _ h=>(by cases h)
 |n+1=>by
  have ih:=CX n;have i274n:=ih;exact(dN (W4 i274n) (amK (JA n)) (λ_=>by kernel_rfl) (λ_=>by kernel_rfl) (λ_=>by kernel_rfl) λg=>aqP (JA n) g.1.1 g.2.2.2.2.2.2.1 g.2.2.2.2.2.2.2.2.1 g.2.2.2.2.2.2.2.2.2.1 g.2.2.2.2.2.2.2.2.2.2.1 g.2.2.2.2.2.2.2.2.2.2.2.1 g.2.2.2.2.2.2.2.1.2.2.2.2.1)
def OL:Int->(aa (Int×Bool))->(aa Int)->(aa aF)->(aa (Int×Int))->(aa ((Int×Int×Int)×Int))->Bool->af jT:=λa0 aS b6_0 b6_1 b6_2 b6_3 b6_4=>lim (λn=>JA n a0 aS b6_0 b6_1 b6_2 b6_3 b6_4)
def VW:MY OL:=λg b h=>by
 obtain⟨n,hn⟩:=bX (show lim (λn=>JA n g.1.1 g.2.2.2.2.2.2.1 g.2.2.2.2.2.2.2.2.1 g.2.2.2.2.2.2.2.2.2.1 g.2.2.2.2.2.2.2.2.2.2.1 g.2.2.2.2.2.2.2.2.2.2.2.1 g.2.2.2.2.2.2.2.1.2.2.2.2.1)=Q b from h);exact(CX n) g b hn
def ajf(F:aI):aI:=UZ OL F
def Tm{F:aI}(h:ak wR F):ak wR (ajf F):=Jv VW h
def akf:aI:=cw
def ae1:ak wR akf:=aQ
abbrev awM:=Int
def d294:Td 0 awM:= .c [] [2] (.r 0 0 (ec 2 aL en) sn (λz=>z.1.1) (λx=>((x,()),(()))))
def asr:=(lc (qa (aW (aW (aW ln)))) ln)
def ahi:An:= .no
def avr:bx wR (akf) 0 300 294 (ahi):=aD (l:=[]) func294 (aq (by kernel_rfl)) (by kernel_rfl) aC
def ac2(a0_0:Int)(a0_1:Int)(a0_2:Int):awM:=
 a0_0
def aBW(a0_0:Int)(a0_1:Int)(a0_2:Int):aO wR (akf) 300 (ahi) 294 (asr.c ((a0_0,a0_1,a0_2,()),())) [] 0 d294.rd=Q (ac2 a0_0 a0_1 a0_2):=by kernel_rfl
def Vk:=eL wR 294 V asr d294 (λg=>Q (ac2 g.1.1 g.1.2.1 g.1.t.1))
def p8{F:aI}(h:ak wR F):ak wR (Vk F):=bA (sc:=dM) aX (bq ae1 avr (λ_=>by kernel_rfl) (λ_=>by kernel_rfl) λg=>aBW g.1.1 g.1.2.1 g.1.t.1) ⟨_,func294,by kernel_rfl,by kernel_rfl⟩ (λ_=>by kernel_rfl) (λ_=>by kernel_rfl) h
def rR{F:aI}{f:Nat}(h:aZ F f):aZ (Vk F) f:=cg h (λ_=>by kernel_rfl)
def ank:aI:=cw
def abU:ak wR ank:=aQ
abbrev asC:=Int
def d211:Td 0 asC:= .c [] [4] (.r 0 0 (ec 4 aL en) sn (λz=>z.1.1) (λx=>((x,()),(()))))
def ayt:=(lc (qg 80) (aW ln))
def aiV:An:= .no
def as5:bx wR (ank) 0 300 211 (aiV):=aD (l:=[]) func211 (aq (by kernel_rfl)) (by kernel_rfl) aC
def jt(a0:aH)(a1:Int):af asC:=
 bif Z (a1<yz a0.aR)then Q (a0.ah)else if 0<=i64.wrap (a1-a0.aR.length)/\i64.wrap (a1-a0.aR.length)<yz a0.az then Q (a0.az[(i64.wrap (a1-a0.aR.length)).toNat]!.bz)else J
def aAD(a0:aH)(a1:Int):aO wR (ank) 300 (aiV) 211 (ayt.c (a0,a1,())) [] 0 d211.rd=jt a0 a1:=by kernel_rfl
def GW:=eL wR 211 V ayt d211 (λg=>jt g.1 g.2.1)
def nX{F:aI}(h:ak wR F):ak wR (GW F):=bA (sc:=dM) aX (bq abU as5 (λ_=>by kernel_rfl) (λ_=>by kernel_rfl) λg=>aAD g.1 g.2.1) ⟨_,func211,by kernel_rfl,by kernel_rfl⟩ (λ_=>by kernel_rfl) (λ_=>by kernel_rfl) h
def sZ{F:aI}{f:Nat}(h:aZ F f):aZ (GW F) f:=cg h (λ_=>by kernel_rfl)
def alI:aI:=(GW cw)
def acv:ak wR alI:=(nX aQ)
abbrev ayd:=Int
def d212:Td 0 ayd:= .c [] [8] (.r 0 0 (ec 8 aL en) sn (λz=>z.1.1) (λx=>((x,()),(()))))
def aye:=(lc (qg 80) (aW (aW (lc qb ln))))
def ahS:An:= .no
def awU:bx wR (alI) 0 300 212 (ahS):=aD (l:=[]) func212 (aq (by kernel_rfl)) (by kernel_rfl) aC
def oF(a0:aH)(a1:Int)(a2:Int)(a3:Bool):af ayd:=
 match jt a0 a1 with|J=>J|Q r1=>bif bif Z (r1=a2)then V else O then Q (a1)else if 0<=i64.wrap (a1-a0.aR.length)/\i64.wrap (a1-a0.aR.length)<yz a0.az then bif a3 then Q (a0.az[(i64.wrap (a1-a0.aR.length)).toNat]!.au)else Q (a0.az[(i64.wrap (a1-a0.aR.length)).toNat]!.aG)else J
def aBj(a0:aH)(a1:Int)(a2:Int)(a3:Bool):aO wR (alI) 300 (ahS) 212 (aye.c (a0,a1,a2,a3,())) [] 0 d212.rd=oF a0 a1 a2 a3:=by kernel_rfl
def VS:=eL wR 212 V aye d212 (λg=>oF g.1 g.2.1 g.t.1 g.t.2.1)
def ve{F:aI}(h:ak wR F):ak wR (VS F):=bA (sc:=dM) aX (bq acv awU (λ_=>by kernel_rfl) (λ_=>by kernel_rfl) λg=>aBj g.1 g.2.1 g.t.1 g.t.2.1) ⟨_,func212,by kernel_rfl,by kernel_rfl⟩ (λ_=>by kernel_rfl) (λ_=>by kernel_rfl) h
abbrev ko:=Int×(aa ((Int×Int×Int)×Int))×aH×(aa Int)×(aa aF)×(aa (Int×Int))×(aa ((Int×Int×Int)×Int))×Bool
def U6:Td 11 ko:= .c [7,8] [7] (.r 11 13 (ec 7 aL en) (sb 0 327 (lc (qo 5) ln) (sb 1 136 (lc (qk 80 1) ln) (sb 2 239 (lc (qp 6 0) ln) (sb 3 226 (lc (qf 294 ln) ln) (sb 4 226 (lc (qf 263 (lc (qp 0 0) (lc (qp 1 0) (lc (qp 2 0) (lc (qp 3 0) (lc (qp 4 0) ln)))))) ln) (sm 5 .k3 .i (sb 6 296 (lc (qo 11) (lc (qo 12) (lc (qo 9) (lc (qo 10) (lc qb ln))))) (sm 9 .k1 .i (sm 10 .k3 .i (sr 11 3 (sr 12 113 sn))))))))))) (λz=>(z.1.1,z.q.t.1,z.t.1.1.1,z.q.q.t.1,z.q.q.t.2.1,z.q.q.1,z.q.q.2.1,z.q.t.2.1.q.1)) (λx=>((x.1,()),(((),()),((x.t.1,()),()),((),()),((()),()),(((),(),(),(),(),()),()),x.2.1,((),(),(),(),x.q.t.2,()),x.q.2.1,x.q.t.1,x.t.2.1,x.q.1,()))))
def Vm:=(lc (qa (aW (aW (aW ln)))) (lc (qp 0 0) (lc (qp 1 0) (lc (qp 2 0) (lc (qp 3 0) (lc (qp 4 0) ln))))))
def SD:=(sb 0 327 (lc (qo 5) ln) (sb 1 136 (lc (qk 80 1) ln) (sb 2 239 (lc (qp 6 0) ln) (sb 3 226 (lc (qf 294 ln) ln) (sb 4 226 (lc (qf 263 (lc (qp 0 0) (lc (qp 1 0) (lc (qp 2 0) (lc (qp 3 0) (lc (qp 4 0) ln)))))) ln) (sm 5 .k3 .i (sb 6 296 (lc (qo 7) (lc (qo 8) (lc (qo 9) (lc (qo 10) (lc qb ln))))) (sr 7 3 (sr 8 113 (sm 9 .k1 .i (sm 10 .k3 .i sn)))))))))))
def YB(M:Int->Int->Int->(aa ((Int×Int×Int)×Int))->aH->(aa Int)->(aa aF)->(aa (Int×Int))->(aa ((Int×Int×Int)×Int))->Bool->af ko):aI->aI:=eY wR 263 11 Vm SD U6 (λg=>M g.1.1.1 g.1.1.2.1 g.1.1.2.2.1 g.2.2.2.2.2.2.1 g.2.2.1.1.1 g.2.2.2.2.2.2.2.2.1 g.2.2.2.2.2.2.2.2.2.1 g.2.2.2.2.2.2.2.2.2.2.1 g.2.2.2.2.2.2.2.2.2.2.2.1 g.2.2.2.2.2.2.2.1.2.2.2.2.1)
def ML(M:Int->Int->Int->(aa ((Int×Int×Int)×Int))->aH->(aa Int)->(aa aF)->(aa (Int×Int))->(aa ((Int×Int×Int)×Int))->Bool->af ko):Prop:=HY wR 263 11 Vm SD U6 (λg=>M g.1.1.1 g.1.1.2.1 g.1.1.2.2.1 g.2.2.2.2.2.2.1 g.2.2.1.1.1 g.2.2.2.2.2.2.2.2.1 g.2.2.2.2.2.2.2.2.2.1 g.2.2.2.2.2.2.2.2.2.2.1 g.2.2.2.2.2.2.2.2.2.2.2.1 g.2.2.2.2.2.2.2.1.2.2.2.2.1)
def HU{M:Int->Int->Int->(aa ((Int×Int×Int)×Int))->aH->(aa Int)->(aa aF)->(aa (Int×Int))->(aa ((Int×Int×Int)×Int))->Bool->af ko}(hM:ML M){F:aI}(h:ak wR F):ak wR (YB M F):=dG hM ⟨_,func263,by kernel_rfl,by kernel_rfl⟩ (λ_=>by kernel_rfl) h
def UY(M263a:Int->Int->Int->(aa ((Int×Int×Int)×Int))->aH->(aa Int)->(aa aF)->(aa (Int×Int))->(aa ((Int×Int×Int)×Int))->Bool->af ko):aI:=(Vk (YB M263a (VS (GW (Rw (L6 cw))))))
def Up{M263a}(h263a:ML M263a):ak wR (UY M263a):=(p8 (HU h263a (ve (nX (ru (nH aQ))))))
def XK(M263a:Int->Int->Int->(aa ((Int×Int×Int)×Int))->aH->(aa Int)->(aa aF)->(aa (Int×Int))->(aa ((Int×Int×Int)×Int))->Bool->af ko):An:= .no
def anF(M263a:Int->Int->Int->(aa ((Int×Int×Int)×Int))->aH->(aa Int)->(aa aF)->(aa (Int×Int))->(aa ((Int×Int×Int)×Int))->Bool->af ko):bx wR (UY M263a) 11 300 263 (XK M263a):=aD (l:=[]) func263 (aq (by kernel_rfl)) (by kernel_rfl) aC
def ua(M263a:Int->Int->Int->(aa ((Int×Int×Int)×Int))->aH->(aa Int)->(aa aF)->(aa (Int×Int))->(aa ((Int×Int×Int)×Int))->Bool->af ko)(a0_0:Int)(a0_1:Int)(a0_2:Int)(aS:aa ((Int×Int×Int)×Int))(b1_0_0:aH)(b6_0:aa Int)(b6_1:aa aF)(b6_2:aa (Int×Int))(b6_3:aa ((Int×Int×Int)×Int))(b6_4:Bool):af ko:=
 bif(dA aS (a0_0,a0_1,a0_2)).isSome then Q (((dA aS (a0_0,a0_1,a0_2)).getD 0,aS,b1_0_0,b6_0,b6_1,b6_2,b6_3,b6_4))else match jt [b1_0_0][0]! a0_0 with|J=>J|Q r1=>bif Z ((if r1<[b1_0_0][0]!.ah then r1 else[b1_0_0][0]!.ah)=[b1_0_0][0]!.ah)then if 0<=a0_0/\a0_0<(↑[b1_0_0][0]!.aR.length:Int)then match sy (ac2 [b1_0_0][0]!.aR[a0_0.toNat]! (0) 0) b6_0 b6_1 b6_2 b6_3 b6_4 with|J=>J|Q r2=>Q ((r2.fst,fQ aS (a0_0,a0_1,a0_2) r2.fst,b1_0_0,r2.snd))else J else match oF [b1_0_0][0]! a0_0 (if r1<[b1_0_0][0]!.ah then r1 else[b1_0_0][0]!.ah) V with|J=>J|Q r3=>match oF [b1_0_0][0]! a0_0 (if r1<[b1_0_0][0]!.ah then r1 else[b1_0_0][0]!.ah) O with|J=>J|Q r4=>match M263a r3 0 0 aS b1_0_0 b6_0 b6_1 b6_2 b6_3 b6_4 with|J=>J|Q r5=>match M263a r4 0 0 r5.snd.fst r5.snd.snd.fst r5.snd.snd.snd.fst r5.snd.snd.snd.snd.fst r5.snd.snd.snd.snd.snd.fst r5.snd.snd.snd.snd.snd.snd.fst r5.snd.snd.snd.snd.snd.snd.snd with|J=>J|Q r6=>match Bw (if r1<[b1_0_0][0]!.ah then r1 else[b1_0_0][0]!.ah) r5.fst r6.fst r6.snd.snd.snd.fst r6.snd.snd.snd.snd.fst r6.snd.snd.snd.snd.snd.fst r6.snd.snd.snd.snd.snd.snd.fst r6.snd.snd.snd.snd.snd.snd.snd with|J=>J|Q r7=>Q ((r7.fst,fQ r6.snd.fst (a0_0,a0_1,a0_2) r7.fst,r6.snd.snd.fst,r7.snd))
def awn(M263a:Int->Int->Int->(aa ((Int×Int×Int)×Int))->aH->(aa Int)->(aa aF)->(aa (Int×Int))->(aa ((Int×Int×Int)×Int))->Bool->af ko)(a0_0:Int)(a0_1:Int)(a0_2:Int)(aS:aa ((Int×Int×Int)×Int))(b1_0_0:aH)(b6_0:aa Int)(b6_1:aa aF)(b6_2:aa (Int×Int))(b6_3:aa ((Int×Int×Int)×Int))(b6_4:Bool):aO wR (UY M263a) 300 (XK M263a) 263 (Vm.c ((a0_0,a0_1,a0_2,()),(),(),(),(),(),())) (SD.d (((),()),((b1_0_0,()),()),((),()),((()),()),(((),(),(),(),(),()),()),aS,((),(),(),(),b6_4,()),b6_0,b6_1,b6_2,b6_3,())) 11 U6.rd=ua M263a a0_0 a0_1 a0_2 aS b1_0_0 b6_0 b6_1 b6_2 b6_3 b6_4:=by kernel_rfl
def pg:Nat->(Int->Int->Int->(aa ((Int×Int×Int)×Int))->aH->(aa Int)->(aa aF)->(aa (Int×Int))->(aa ((Int×Int×Int)×Int))->Bool->af ko)
 |0=>(λ_ _ _ _ _ _ _ _ _ _=>J)
 |n+1=>(ua (pg n))
def Iq(n:Nat):Int->Int->Int->(aa ((Int×Int×Int)×Int))->aH->(aa Int)->(aa aF)->(aa (Int×Int))->(aa ((Int×Int×Int)×Int))->Bool->af ko:=(pg n)
def DE:∀n,ML (Iq n)
 |0=>λ_ _ h=>(by cases h)
 |n+1=>by
  have ih:=DE n;have i263a:=ih;exact(dN (Up i263a) (anF (Iq n)) (λ_=>by kernel_rfl) (λ_=>by kernel_rfl) (λ_=>by kernel_rfl) λg=>awn (Iq n) g.1.1.1 g.1.1.2.1 g.1.1.2.2.1 g.2.2.2.2.2.2.1 g.2.2.1.1.1 g.2.2.2.2.2.2.2.2.1 g.2.2.2.2.2.2.2.2.2.1 g.2.2.2.2.2.2.2.2.2.2.1 g.2.2.2.2.2.2.2.2.2.2.2.1 g.2.2.2.2.2.2.2.1.2.2.2.2.1)
def NG:Int->Int->Int->(aa ((Int×Int×Int)×Int))->aH->(aa Int)->(aa aF)->(aa (Int×Int))->(aa ((Int×Int×Int)×Int))->Bool->af ko:=λa0_0 a0_1 a0_2 aS b1_0_0 b6_0 b6_1 b6_2 b6_3 b6_4=>lim (λn=>Iq n a0_0 a0_1 a0_2 aS b1_0_0 b6_0 b6_1 b6_2 b6_3 b6_4)
def T6:ML NG:=λg b h=>by
 obtain⟨n,hn⟩:=bX (show lim (λn=>Iq n g.1.1.1 g.1.1.2.1 g.1.1.2.2.1 g.2.2.2.2.2.2.1 g.2.2.1.1.1 g.2.2.2.2.2.2.2.2.1 g.2.2.2.2.2.2.2.2.2.1 g.2.2.2.2.2.2.2.2.2.2.1 g.2.2.2.2.2.2.2.2.2.2.2.1 g.2.2.2.2.2.2.2.1.2.2.2.2.1)=Q b from h);exact(DE n) g b hn
def uc(F:aI):aI:=YB NG F
def dZ{F:aI}(h:ak wR F):ak wR (uc F):=HU T6 h
structure Bd where
 L:List Int
 N:List aF
 mL:List (Int×Int)
 mN:List ((Int×Int×Int)×Int)
 w:Bool
def Bd.g(b:Bd):Gr:=λr=>if r<0 then J else if r%2=0 then(b.L[(r/2).toNat]?).map .inl else(b.N[(r/2).toNat]?).map λx=> .inr (x.bz,x.aG,x.au)
def gD{b:Bd}{r x:Int}:b.g r=Q (.inl x)↔∃k:Nat,r=2*(k:Int)/\b.L[k]? =Q x:=by
 unfold Bd.g;constructor
 ·intro h;split at h
  ·cases h
  split at h
  ·obtain⟨y,h1,h2⟩:=zk.1 h;cases h2;exact⟨(r/2).toNat,by omega,h1⟩
  ·obtain⟨y,h1,h2⟩:=zk.1 h;cases h2
 ·rintro⟨k,rfl,h⟩;rw[bT (by omega),bS (by omega),show ((2*(k:Int))/2).toNat=k by omega,h];rfl
def iu{b:Bd}{r v p q:Int}:b.g r=Q (.inr (v,p,q))↔∃k:Nat,r=2*(k:Int)+1/\b.N[k]? =Q ⟨v,p,q⟩:=by
 unfold Bd.g;constructor
 ·intro h;split at h
  ·cases h
  split at h
  ·obtain⟨y,h1,h2⟩:=zk.1 h;cases h2
  ·obtain⟨y,h1,h2⟩:=zk.1 h;cases y;cases h2;exact⟨(r/2).toNat,by omega,h1⟩
 ·rintro⟨k,rfl,h⟩;rw[bT (by omega),bT (by omega),show ((2*(k:Int)+1)/2).toNat=k by omega,h];rfl
structure BI (P:Int->Prop) (b:Bd):Prop where
 l:∀x i,dA b.mL x=Q i↔∃k:Nat,i=k/\b.L[k]? =Q x
 n:∀v p q i,dA b.mN (v,p,q)=Q i↔∃k:Nat,i=k/\b.N[k]? =Q ⟨v,p,q⟩
 w:b.w=O->∃x∈b.L,jK x=V
 P:∀x∈b.L,P x
def BI.inj{P:Int->Prop}{b:Bd}(h:BI P b):b.g.Inj:=by
 intro r r' x h1 h2;cases x with
 |inl x=>
  obtain⟨k,rfl,e⟩:=gD.1 h1;obtain⟨k',rfl,e'⟩:=gD.1 h2;have a:=(h.l x k).2 ⟨k,rfl,e⟩;rw[(h.l x k').2 ⟨k',rfl,e'⟩]at a;simp only[zG.injEq]at a;omega
 |inr x=>
  obtain⟨v,p,q⟩:=x;obtain⟨k,rfl,e⟩:=iu.1 h1;obtain⟨k',rfl,e'⟩:=iu.1 h2;have a:=(h.n v p q k).2 ⟨k,rfl,e⟩;rw[(h.n v p q k').2 ⟨k',rfl,e'⟩]at a;simp only[zG.injEq]at a;omega
def Bd.lf(x:Int)(b:Bd):af (Int×Bd):=(sy x b.L b.N b.mL b.mN b.w).map λr=>(r.1,⟨r.2.1,r.2.2.1,r.2.2.2.1,r.2.2.2.2.1,r.2.2.2.2.2⟩)
def Bd.nd(v p q:Int)(b:Bd):af (Int×Bd):=(Bw v p q b.L b.N b.mL b.mN b.w).map λr=>(r.1,⟨r.2.1,r.2.2.1,r.2.2.2.1,r.2.2.2.2.1,r.2.2.2.2.2⟩)
def aiD{b b':Bd}(hL:∀(k:Nat) (x:Int),b.L[k]? =Q x->b'.L[k]? =Q x)(hN:∀(k:Nat) (x:aF),b.N[k]? =Q x->b'.N[k]? =Q x):b.g.Le b'.g:=by
 intro r x h;cases x with
 |inl x=>
  obtain⟨k,e,h1⟩:=gD.1 h;exact gD.2 ⟨k,e,hL _ _ h1⟩
 |inr x=>
  obtain⟨v,p,q⟩:=x;obtain⟨k,e,h1⟩:=iu.1 h;exact iu.2 ⟨k,e,hN _ _ h1⟩
def dF{α:Type}{l:aa α}{k:Nat}{x y:α}:(l++[y])[k]? =Q x↔l[k]? =Q x\/(k=yz l/\x=y):=by
 rcases Nat.lt_trichotomy k (yz l) with h|h|h
 ·rw[xY h];constructor
  ·exact .inl
  ·rintro(h1|⟨h1,_⟩)
   ·exact h1
   ·omega
 ·subst h;rw[xO (zA _)];simp[eq_comm]
 ·rw[xw (by simp;omega),xw (by omega)];simp;omega
def Bd.ou{P:Int->Prop}(x:Int)(b:Bd)(hx:P x)(hb:BI P b)(hs:yz b.L+yz b.N<1000000000):∃r b',b.lf x=Q (r,b')/\BI P b'/\b.g.Le b'.g/\Den b'.g r (.leaf x)/\yz b'.L+yz b'.N<=yz b.L+yz b.N+1:=by
 unfold Bd.lf sy;cases e:dA b.mL x with
 |some i=>
  obtain⟨k,rfl,hk⟩:=(hb.l x i).1 e;have hkl:k<yz b.L:=(zQ.1 hk).1;simp only[yA,dh,cL,yl,zX];rw[aJ (by omega) (by omega)];exact⟨_,_,rfl,hb, .refl, .leaf (gD.2 ⟨k,rfl,hk⟩),yd _⟩
 |none=>
  simp only[ye,dh,cL];rw[bS (by simp;omega),aJ (by omega) (by omega)];have hl:∀y i,dA (fQ b.mL x (yz b.L:Int)) y=Q i↔∃k:Nat,i=k/\(b.L++[x])[k]? =Q y:=by
   intro y i;rw[dD];by_cases hy:y=x
   ·subst hy;rw[bS rfl];constructor
    ·intro h;cases h;exact⟨_,rfl,dF.2 (.inr ⟨rfl,rfl⟩)⟩
    ·rintro⟨k,rfl,h⟩;rcases dF.1 h with h|⟨h,_⟩
     ·have:=(hb.l y k).2 ⟨k,rfl,h⟩;rw[e]at this;cases this
     ·rw[h]
   ·rw[bT hy,hb.l];constructor
    ·rintro⟨k,h1,h2⟩;exact⟨k,h1,dF.2 (.inl h2)⟩
    ·rintro⟨k,h1,h2⟩;rcases dF.1 h2 with h|⟨_,h⟩
     ·exact⟨k,h1,h⟩
     ·exact gI h hy
  have hP:∀y∈b.L++[x],P y:=λy hy=>by
   rcases zV.1 hy with h|h
   ·exact hb.P y h
   ·rw[zC.1 h];exact hx
  have hle:∀w',b.g.Le (Bd.mk (b.L++[x]) b.N (fQ b.mL x (yz b.L)) b.mN w').g:=λw'=>aiD (λk y h=>dF.2 (.inl h)) λk y h=>h;have hd:∀w',Den (Bd.mk (b.L++[x]) b.N (fQ b.mL x (yz b.L)) b.mN w').g (2*(yz b.L:Int)) (.leaf x):=λw'=> .leaf (gD.2 ⟨_,rfl,dF.2 (.inr ⟨rfl,rfl⟩)⟩);cases hw:b.w with
  |true=>
   refine⟨_,_,rfl,⟨hl,hb.n,λ_=> ?_,hP⟩,hle _,hd _,by simp;omega⟩;obtain⟨y,h1,h2⟩:=hb.w hw;exact⟨y,zZ _ h1,h2⟩
  |false=>
   refine⟨_,_,rfl,⟨hl,hb.n,λh=>⟨x,by simp,?_⟩,hP⟩,hle _,hd _,by simp;omega⟩;revert h;cases jK x<;>simp
def Bd.jY{P:Int->Prop}(v p q:Int)(s t:BT)(b:Bd)(hb:BI P b)(hs:yz b.L+yz b.N<1000000000)(hp:Den b.g p s)(hq:Den b.g q t):∃r b',b.nd v p q=Q (r,b')/\BI P b'/\b.g.Le b'.g/\Den b'.g r (jN v s t)/\yz b'.L+yz b'.N<=yz b.L+yz b.N+1:=by
 unfold Bd.nd Bw;by_cases hpq:p=q
 ·have:s=t:=by subst hpq;exact hp.ur hq
  rw[iN hpq];exact⟨p,b,rfl,hb, .refl,by rw[show jN v s t=s by simp[jN,this]];exact hp,yd _⟩
 ·have hst:s≠t:=λh=>hpq (by subst h;exact hp.inj hb.inj hq);have hm:jN v s t= .node v s t:=by simp[jN,hst]
  rw[dw hpq,hm];simp only[cL];cases e:dA b.mN (v,p,q)with
  |some i=>
   obtain⟨k,rfl,hk⟩:=(hb.n v p q i).1 e;have hkl:k<yz b.N:=(zQ.1 hk).1;simp only[yA,dh,cL,yl,zX];rw[aJ (n:=2*(k:Int)) (by omega) (by omega),aJ (by omega) (by omega)];exact⟨_,_,rfl,hb, .refl, .node (iu.2 ⟨k,rfl,hk⟩) hp hq,yd _⟩
  |none=>
   simp only[ye,dh,cL];rw[bS (by simp;omega),aJ (n:=2*(yz b.N:Int)) (by omega) (by omega),aJ (by omega) (by omega)];have hle:b.g.Le (Bd.mk b.L (b.N++[⟨v,p,q⟩]) b.mL (fQ b.mN (v,p,q) (yz b.N)) b.w).g:=aiD (λk y h=>h) λk y h=>dF.2 (.inl h);refine⟨_,_,rfl,⟨hb.l,?_,hb.w,hb.P⟩,hle, .node (iu.2 ⟨_,rfl,dF.2 (.inr ⟨rfl,rfl⟩)⟩) (hp.mono hle) (hq.mono hle),by simp;omega⟩;intro v' p' q' i;rw[dD];by_cases hy:(v',p',q')=(v,p,q)
   ·cases hy;rw[bS rfl];constructor
    ·intro h;cases h;exact⟨_,rfl,dF.2 (.inr ⟨rfl,rfl⟩)⟩
    ·rintro⟨k,rfl,h⟩;rcases dF.1 h with h|⟨h,_⟩
     ·have:=(hb.n v p q k).2 ⟨k,rfl,h⟩;rw[e]at this;cases this
     ·rw[h]
   ·rw[bT hy,hb.n];constructor
    ·rintro⟨k,h1,h2⟩;exact⟨k,h1,dF.2 (.inl h2)⟩
    ·rintro⟨k,h1,h2⟩;rcases dF.1 h2 with h|⟨_,h⟩
     ·exact⟨k,h1,h⟩
     ·cases h;exact gI rfl hy
def boM(P:Int->Prop):BO Bd P where
 I:=BI P
 g:=Bd.g
 s:=λb=>yz b.L+yz b.N
 lf:=λx b=>b.lf x
 nd:=λv p q b=>b.nd v p q
 ou:=Bd.ou
 jY:=λv p q s t b hb hs hp hq=>Bd.jY v p q s t b hb hs hp hq
def SU(P:Int->Prop):BI P ⟨[],[],[],[],V⟩ where
 l:=λx i=>by simp[jo]
 n:=λv p q i=>by simp[jo]
 w:=λh=>by cases h
 P:=λx hx=>by cases hx
end Go.Proofs.YtghilkcphindjaaGreat
end
noncomputable section
set_option maxRecDepth 100000
namespace Go.Proofs.YtghilkcphindjaaGreat
open Go Go.Iv Go.Sort Go.Proofs Go.Shelf Go.RowKit Go.Lib
set_option maxHeartbeats 4000000 in
def MC(W:World)(bj bb bl n cap i j:Nat)(a b:Int)(h1:W.cell? ⟨bj,0,J⟩=Q (.pointer (Q ⟨bb,0,J⟩)))(h2:W.cell? ⟨bb,0,J⟩=Q (.slice (Q ⟨bl,0,J⟩) n cap))
  (h3:W.cell? ⟨bl,i,J⟩=Q (.int .i64 a)) (h4:W.cell? ⟨bl,j,J⟩=Q (.int .i64 b)) (hi:(i:Int)<(n:Int)) (hj:(j:Int)<(n:Int)) (hn:(n:Int)<=9223372036854775807) (ha: -2305843009213693952<=a/\a<=2305843009213693952) (hb: -2305843009213693952<=b/\b<=2305843009213693952):
  Calls wR 276 #[.int .i64 i, .int .i64 j, .pointer (Q ⟨bj,0,J⟩)] W λe w'=>e= .returned (.int .i64 (a-b))/\∃q,w'=W.drewN q:=by
 have hw:IntKind.i64.wrap (a-b)=a-b:=by rw[IntKind.wrap_i64];omega
 have t3:=underlying3;have a3:=Tryz.isAgg3;have z3:=Tryz.sizeOf3;have v3:=Tryz.zeroValue3
 have t46:=underlying46;have a46:=Tryz.isAgg46;have z46:=Tryz.sizeOf46;have v46:=Tryz.zeroValue46
 have t239:=underlying239;have a239:=Tryz.isAgg239;have z239:=Tryz.sizeOf239;have v239:=Tryz.zeroValue239
 have t296:=underlying296;have u296:=run_underlying (P:=wR) underlying296;have i0:(0:Int)<=(i:Int):=by omega
 have j0:(0:Int)<=(j:Int):=by omega
 go_enter func276,Tryz.ntmps276
 go_wp2_with fail
 go_quiet (fail)
 go_wp2
 go_ret
 exact⟨rfl,nq,rfl⟩
end Go.Proofs.YtghilkcphindjaaGreat
end
noncomputable section
set_option maxRecDepth 100000
namespace Go.Proofs.YtghilkcphindjaaGreat
open Go Go.Iv Go.Sort Go.Proofs
abbrev amE:=aa Int×aa Int×aa aF×aa (Int×Int)×aa ((Int×Int×Int)×Int)×Bool
def asV:=(sr 0 3 (sb 1 239 (lc (qp 2 0) ln) (sb 2 296 (lc (qo 3) (lc (qo 4) (lc (qo 5) (lc (qo 6) (lc qb ln))))) (sr 3 3 (sr 4 113 (sm 5 .k1 .i (sm 6 .k3 .i sn)))))))
def d275:Td 7 amE:= .c [] [] (.r 7 7 en (sr 0 3 (sb 1 239 (lc (qp 2 0) ln) (sb 2 296 (lc (qo 3) (lc (qo 4) (lc (qo 5) (lc (qo 6) (lc qb ln))))) (sr 3 3 (sr 4 113 (sm 5 .k1 .i (sm 6 .k3 .i sn))))))) (λz=>(z.2.1,z.q.1,z.q.2.1,z.q.t.1,z.q.t.2.1,z.t.2.1.q.1)) (λx=>((()),(x.1,((),()),((),(),(),(),x.q.2,()),x.2.1,x.t.1,x.t.2.1,x.q.1,()))))
def avz:=(lc (qo 0) (lc (qf 276 (lc (qp 1 0) ln)) ln))
def Ny(l L:aa Int):Bool:=Z (yz l<=1073741824)&&(l.all λx=>Z (0<=x)&&Z (x<(yz L:Int)))&&(L.all λv=>Z (-2305843009213693952<=v)&&Z (v<=2305843009213693952))&&decide L.Nodup
def kM(l L:aa Int):aa Int:=l.mergeSort λx y=>Z (L[x.toNat]!<=L[y.toNat]!)
def P4(l L:aa Int)(N:aa aF)(a:aa (Int×Int))(b:aa ((Int×Int×Int)×Int))(w:Bool):af amE:=if Ny l L=O then Q (kM l L,L,N,a,b,w)else J
def ag1:Prop:=HY wR 275 7 avz asV d275 (λg=>P4 g.2.1 g.2.2.2.2.1 g.2.2.2.2.2.1 g.2.2.2.2.2.2.1 g.2.2.2.2.2.2.2.1 g.2.2.2.1.2.2.2.2.1)
def avG:aI->aI:=eY wR 275 7 avz asV d275 (λg=>P4 g.2.1 g.q.1 g.q.2.1 g.q.t.1 g.q.t.2.1 g.t.2.1.q.1)
def WS(hv:ag1){F:aI}(h:ak wR F):ak wR (avG F):=dG hv ⟨_,func275,by kernel_rfl,by kernel_rfl⟩ (λ_=>by kernel_rfl) h
def By{A:Nat->Prop}{w:World}:∀{l:aa Int} {us:aa Value},bn A w (l.flatMap (uni.cells 3)) us->us=l.map (Value.int .i64)
 |[],us,h=>y8.1 (show yz us=0 from h.1)
 |x::l,us,h=>by
  have e:(x::l).flatMap (uni.cells 3)=bM.lit (.int .i64 x)::l.flatMap (uni.cells 3):=rfl;rw[e]at h
  match us,h with
  |[],h=>exact gI h.1 (by simp)
  |u::us,h=>
   have h1:=(h.2 0 _ u rfl rfl).bI;have h2:bn A w (l.flatMap (uni.cells 3)) us:=⟨by simpa using h.1,λj a v q1 q2=>h.2 (j+1) a v (by simpa using q1) (by simpa using q2)⟩;rw[h1,By h2,zO]
def IP{A:Nat->Prop}{w:World}:∀l:aa Int,bn A w (l.flatMap (uni.cells 3)) (l.map (Value.int .i64))
 |[]=>bn.nil
 |x::l=>bn.cons (.lit _) (IP l)
section
variable {α:Type} [Inhabited α] {enc:α->Value} {W:World} {g m:Nat} {dk:Array α} {os:Array Obj}
def Za{cur:Array Value}{T:TypeId}(hb:W.heap[g]? =Q (.cells cur T (0,0))):(sortWorld enc W g 0 m dk os).heap[g]? =Q (.cells (putCells enc 0 dk cur) T (0,0)):=by
 have hg:g<W.heap.size:=(ym.1 hb).1;unfold sortWorld;rw[heap_grow_old _ _ (by simpa [putRow,mapBlock,Sort.ahead]using hg)];simp[putRow,mapBlock,Sort.ahead,xz,hb,onCells]
def qy{b:Nat}(hb:b<W.heap.size)(hne:b≠g):(sortWorld enc W g 0 m dk os).heap[b]? =W.heap[b]? :=by
 unfold sortWorld;rw[heap_grow_old _ _ (by simpa [putRow,mapBlock,Sort.ahead]using hb)];simp[putRow,mapBlock,Sort.ahead,xz,Ne.symm hne]
def aw7:Kp [g] W (sortWorld enc W g 0 m dk os):=
 ⟨rfl,rfl,rfl,by simp[sortWorld,grow,putRow,mapBlock,Sort.ahead],λk hk hn=>qy hk (by simpa using hn)⟩
def PY{cur:Array Value}(h:dk.size<=cur.size):(putCells enc 0 dk cur).toList.take dk.size=dk.toList.map enc:=by
 apply List.ext_getElem?;intro j;by_cases hj:j<dk.size
 ·rw[xR hj,xb];simp[putCells,hj,show j<cur.size by omega]
 ·rw[wP (by omega),xw (by simp;omega)]
end
def Zk(L:aa Int)(k:Nat)(x y:Fin (k+1)):Int:=L[x.val]! -L[y.val]!
def agM{L:aa Int}{k:Nat}{x y:Fin (k+1)}(h:ltOf (Zk L k) x y=O):L[x.val]! <L[y.val]! :=by
 have:L[x.val]! -L[y.val]! <0:=of_decide_eq_true h;omega
def OY{L:aa Int}{k:Nat}{x y:Fin (k+1)}(h:ltOf (Zk L k) x y=V):L[y.val]!<=L[x.val]! :=by
 have:¬L[x.val]! -L[y.val]! <0:=of_decide_eq_false h;omega
def abI(L:aa Int)(k:Nat):SWO (ltOf (Zk L k)) where
 irrefl x:=dw (by show ¬L[x.val]! -L[x.val]! <0;omega)
 trans x y z h1 h2:=iN (by
  have a:=agM h1;have b:=agM h2;show L[x.val]! -L[z.val]! <0;omega)
 ntrans x y z h1 h2:=dw (by
  have a:=OY h1;have b:=OY h2;show ¬L[x.val]! -L[z.val]! <0;omega)
def Zg{L:aa Int}{k:Nat}(hk:yz L=k+1)(hn:L.Nodup)(x y:Fin (k+1))(h1:ltOf (Zk L k) x y=V)(h2:ltOf (Zk L k) y x=V):x=y:=by
 have a:=OY h1;have b:=OY h2;have e:L[x.val]! =L[y.val]! :=by omega
 have hx:x.val<yz L:=by have:=x.isLt;omega
 have hy:y.val<yz L:=by have:=y.isLt;omega
 rw[getElem!_pos L _ hx,getElem!_pos L _ hy]at e;exact Fin.ext ((List.getElem_inj hn).1 e)
def Lz:Go.Shelf.Ren:=⟨λ|6=>275|15=>102|14=>296|28=>172|29=>173|20=>309|21=>310|22=>311|23=>312|24=>313|25=>314|26=>315|27=>316|46=>320|47=>269|48=>270|49=>321|50=>322|57=>324|n=>n,λ|22=>46|24=>3|25=>175|39=>174|53=>251|55=>253|46=>305|45=>304|50=>100|66=>341|70=>345|76=>358|77=>255|n=>n,λ|n=>n⟩
def R4:Go.Proofs.SlLaysF.n6 wR Lz where
 mixed:=by kernel_rfl
 f6:=⟨f275.name,by kernel_rfl,func275.trans (congrArg Q (by kernel_rfl))⟩
 f14:=⟨f296.name,by kernel_rfl,func296.trans (congrArg Q (by kernel_rfl))⟩
 f15:=func102.trans (congrArg Q (by kernel_rfl))
 f20:=⟨f309.name,by kernel_rfl,func309.trans (congrArg Q (by kernel_rfl))⟩
 f21:=⟨f310.name,by kernel_rfl,func310.trans (congrArg Q (by kernel_rfl))⟩
 f22:=⟨f311.name,by kernel_rfl,func311.trans (congrArg Q (by kernel_rfl))⟩
 f23:=⟨f312.name,by kernel_rfl,func312.trans (congrArg Q (by kernel_rfl))⟩
 f24:=⟨f313.name,by kernel_rfl,func313.trans (congrArg Q (by kernel_rfl))⟩
 f25:=⟨f314.name,by kernel_rfl,func314.trans (congrArg Q (by kernel_rfl))⟩
 f26:=⟨f315.name,by kernel_rfl,func315.trans (congrArg Q (by kernel_rfl))⟩
 f27:=⟨f316.name,by kernel_rfl,func316.trans (congrArg Q (by kernel_rfl))⟩
 f28:=func172.trans (congrArg Q (by kernel_rfl))
 f29:=func173.trans (congrArg Q (by kernel_rfl))
 f46:=⟨f320.name,by kernel_rfl,func320.trans (congrArg Q (by kernel_rfl))⟩
 f47:=func269.trans (congrArg Q (by kernel_rfl))
 f48:=func270.trans (congrArg Q (by kernel_rfl))
 f49:=⟨f321.name,by kernel_rfl,func321.trans (congrArg Q (by kernel_rfl))⟩
 f50:=⟨f322.name,by kernel_rfl,func322.trans (congrArg Q (by kernel_rfl))⟩
 f57:=⟨f324.name,by kernel_rfl,func324.trans (congrArg Q (by kernel_rfl))⟩
 t0:=underlying0
 a0:=Tryz.isAgg0
 z0:=Tryz.sizeOf0
 v0:=Tryz.zeroValue0
 t3:=underlying3
 a3:=Tryz.isAgg3
 z3:=Tryz.sizeOf3
 v3:=Tryz.zeroValue3
 t4:=underlying4
 a4:=Tryz.isAgg4
 z4:=Tryz.sizeOf4
 v4:=Tryz.zeroValue4
 t5:=underlying5
 a5:=Tryz.isAgg5
 z5:=Tryz.sizeOf5
 v5:=Tryz.zeroValue5
 t9:=underlying9
 a9:=Tryz.isAgg9
 z9:=Tryz.sizeOf9
 v9:=Tryz.zeroValue9
 t22:=underlying46
 a22:=Tryz.isAgg46
 z22:=Tryz.sizeOf46
 v22:=Tryz.zeroValue46
 a24:=Tryz.isAgg3
 z24:=Tryz.sizeOf3
 t25:=underlying175
 a25:=Tryz.isAgg175
 z25:=Tryz.sizeOf175
 v25:=Tryz.zeroValue175
 t39:=underlying174
 a39:=Tryz.isAgg174
 z39:=Tryz.sizeOf174
 v39:=Tryz.zeroValue174
 t45:=underlying304
 a45:=Tryz.isAgg304
 z45:=Tryz.sizeOf304
 v45:=Tryz.zeroValue304
 t46:=underlying305
 a46:=Tryz.isAgg305
 z46:=Tryz.sizeOf305
 v46:=Tryz.zeroValue305
 t50:=underlying100
 a50:=Tryz.isAgg100
 z50:=Tryz.sizeOf100
 v50:=Tryz.zeroValue100
 t53:=underlying251
 a53:=Tryz.isAgg251
 z53:=Tryz.sizeOf251
 v53:=Tryz.zeroValue251
 t55:=underlying253
 a55:=Tryz.isAgg253
 z55:=Tryz.sizeOf253
 v55:=Tryz.zeroValue253
 t66:=underlying341
 a66:=Tryz.isAgg341
 z66:=Tryz.sizeOf341
 v66:=Tryz.zeroValue341
 t70:=underlying345
 a70:=Tryz.isAgg345
 z70:=Tryz.sizeOf345
 v70:=Tryz.zeroValue345
 t76:=underlying358
 a76:=Tryz.isAgg358
 z76:=Tryz.sizeOf358
 v76:=Tryz.zeroValue358
 t77:=underlying255
 a77:=Tryz.isAgg255
 z77:=Tryz.sizeOf255
 v77:=Tryz.zeroValue255
def Zh{L:aa Int}{k:Nat}(hk:yz L=k+1){l:aa Int}(hl:∀x∈l,0<=x/\x<(yz L:Int)):
  ((l.map λx=>Fin.ofNat (k+1) x.toNat).mergeSort λx y=> !ltOf (Zk L k) y x).map (λx=>(x.val:Int))=kM l L:=by
 have hv:∀x∈l,((Fin.ofNat (k+1) x.toNat).val:Int)=x:=λx hx=>by
  have:=hl x hx;simp only[Fin.ofNat];rw[wm (by omega)];omega
 have e0:(l.map λx=>Fin.ofNat (k+1) x.toNat).map (λx=>(x.val:Int))=l:=by
  rw[yg]
  conv=>rhs;rw[<-xK l]
  exact zR hv
 rw[List.map_mergeSort (s:=λx y=>Z (L[x.toNat]!<=L[y.toNat]!)),e0]
 ·rfl
 ·intro a _ b _;show (!Z (L[b.val]! -L[a.val]! <0))=Z (L[(a.val:Int).toNat]!<=L[(b.val:Int).toNat]!);rw[zi,zi,<-decide_not];exact decide_eq_decide.2 (by omega)
def anB(l L:aa Int)(N:aa aF)(a:aa (Int×Int))(b:aa ((Int×Int×Int)×Int))(wd:Bool)(r:amE)(hb:P4 l L N a b wd=Q r):
  Gu wR 275 [.own 0, .fn (.func 276) [.ptr 1 0]] [(0, .row 3 l),(1, .box 239 [.ptr 2 0]),(2, .box 296 [.own 3, .own 4, .own 5, .own 6, .b wd]),(3, .row 3 L),(4, .row 113 N),(5, .md .k1 .i a),(6, .md .k3 .i b)] 7 (gE wR 275 7 (d275.pat r)):=by
 unfold P4 at hb;split at hb
 case isFalse=>cases hb
 rename_i hok;have hr0:r=(kM l L,L,N,a,b,wd):=(zG.inj hb).symm;subst hr0;unfold Ny at hok;simp only[zj,decide_eq_true_eq,zx]at hok;obtain⟨⟨⟨hlen,hrng⟩,hval⟩,hnd⟩:=hok;intro ρ;have ho:gE wR 275 7 (d275.pat (kM l L,L,N,a,b,wd))=⟨.gH [],[(0, .row 3 (kM l L)),(1, .box 239 [.ptr 2 0]),(2, .box 296 [.own 3, .own 4, .own 5, .own 6, .b wd]),(3, .row 3 L),(4, .row 113 N),(5, .md .k1 .i a),(6, .md .k3 .i b)],7⟩:=by kernel_rfl
 rw[ho];obtain⟨rest,hrest⟩:∃rest:aa bH,rest=aM.res ρ [(1, .box 239 [.ptr 2 0]),(2, .box 296 [.own 3, .own 4, .own 5, .own 6, .b wd]),(3, .row 3 L),(4, .row 113 N),(5, .md .k1 .i a),(6, .md .k3 .i b)]:=⟨_,rfl⟩;show Go.Iv.Fn wR 275 [(bM.own 0).sub ρ,(bM.fn (.func 276) [.ptr 1 0]).sub ρ] (bH.row (ρ.v 0) 3 l::aM.res ρ [(1, .box 239 [.ptr 2 0]),(2, .box 296 [.own 3, .own 4, .own 5, .own 6, .b wd]),(3, .row 3 L),(4, .row 113 N),(5, .md .k1 .i a),(6, .md .k3 .i b)]) _;rw[<-hrest];intro w A vs hr hd hn;obtain⟨hr1,hr2⟩:=hr;obtain⟨v,v2,rfl⟩:∃v v2,vs=[v,v2]:=by
  match vs,hr1 with
  |[v,v2],_=>exact⟨v,v2,rfl⟩
 have hv:v=ρ.v 0:=by
  have:=hr2 0 _ v rfl rfl;rw[cD]at this;exact this.bI
 have hv2:v2= .func (.func 276) #[] #[.pointer (Q ⟨ρ.b 1,0,J⟩)]:=by
  have h:=hr2 1 (.fn (.func 276) [.lit (.pointer (Q ⟨ρ.b 1,0,J⟩))]) v2 (by simp[bM.sub]) rfl;cases h with
  |fn f cs us hl hrr=>
   match us,hl with
   |[u],_=>rw[(hrr 0 _ u rfl rfl).bI]
 subst hv hv2;have hg:Go.Iv.Good ⟨w,A,aY (bH.row (ρ.v 0) 3 l::rest)⟩ (bH.row (ρ.v 0) 3 l::rest) w:=⟨Kp.refl _ _,λr hr=>(hd.1 r hr).mono (λb _ hA=>⟨⟨.inl hA,λhx=>hd.2 b hx hA⟩,rfl⟩) (λ_ _=>rfl),hn,λb hb=> .inl hb⟩;have fin:∀w':World,fM w' (ρ.v 0) 3 1 (kM l L).length ((kM l L).map (Value.int .i64))->Kp (fD (ρ.v 0)).toList w w'->∃v av σ',Ending.returned (Value.tuple #[])=Ending.returned v/\(∃ρ',l6 7 ρ ρ'/\av=(bM.gH (cA:=uni.cA) []).sub ρ'/\List.Perm σ' (aM.res ρ' [(0, .row 3 (kM l L)),(1, .box 239 [.ptr 2 0]),(2, .box 296 [.own 3, .own 4, .own 5, .own 6, .b wd]),(3, .row 3 L),(4, .row 113 N),(5, .md .k1 .i a),(6, .md .k3 .i b)]))/\
   Tr ⟨w,A,aY (bH.row (ρ.v 0) 3 l::rest)⟩ (aY (bH.row (ρ.v 0) 3 l::rest)) (bH.row (ρ.v 0) 3 l::rest) w σ' w'/\Rel (al ⟨w,A,aY (bH.row (ρ.v 0) 3 l::rest)⟩ σ') w' av v:=λw' hrow hk=>by
  have t:=oA (i:=0) (r:= .row (ρ.v 0) 3 l) (r':= .row (ρ.v 0) 3 (kM l L)) hg rfl hk (.inl rfl) (sR hrow (λi _=>rfl) (IP _));refine⟨_, .gH [],bH.row (ρ.v 0) 3 (kM l L)::rest,rfl,⟨ρ,λi _=>⟨rfl,rfl⟩,by simp only[bM.sub,yU],by rw[hrest];exact List.Perm.refl _⟩,t.wide (λb hb=> ?_),Rel.gH [] [] rfl (λj a v q=>by cases q)⟩;have hb:b∈(fD (ρ.v 0)).toList:=hb;cases hq:fD (ρ.v 0)with
  |none=>rw[hq]at hb;cases hb
  |some g=>
   rw[hq]at hb;exact bw.2 ⟨_,zq,by rw[show b=g by simpa using hb];exact hq⟩
 have nilS:∀p c,l=[]->ρ.v 0= .slice p 0 c->fM w (.slice p 0 c) 3 1 (yz l) []->Calls wR 275 #[ρ.v 0, .func (.func 276) #[] #[.pointer (Q ⟨ρ.b 1,0,J⟩)]] w λe w'=>∃v av σ',e=Ending.returned v/\(∃ρ',l6 7 ρ ρ'/\av=(bM.gH (cA:=uni.cA) []).sub ρ'/\List.Perm σ' (aM.res ρ' [(0, .row 3 (kM l L)),(1, .box 239 [.ptr 2 0]),(2, .box 296 [.own 3, .own 4, .own 5, .own 6, .b wd]),(3, .row 3 L),(4, .row 113 N),(5, .md .k1 .i a),(6, .md .k3 .i b)]))/\
   Tr ⟨w,A,aY (bH.row (ρ.v 0) 3 l::rest)⟩ (aY (bH.row (ρ.v 0) 3 l::rest)) (bH.row (ρ.v 0) 3 l::rest) w σ' w'/\Rel (al ⟨w,A,aY (bH.row (ρ.v 0) 3 l::rest)⟩ σ') w' av v:=λp c hl hv hri=>by
  have h0:=Go.Proofs.AnyF.slices_SortFunc_none {R4 with} p c (.func (.func 276) #[] #[.pointer (Q ⟨ρ.b 1,0,J⟩)]) w;rw[<-hv]at h0;refine h0.mono λe w' he=> ?_;obtain⟨rfl,rfl⟩:=he;refine fin w' ?_ (Kp.refl _ _);rw[hv];have e:kM l L=[]:=by rw[hl];unfold kM;rw[List.mergeSort_nil]
  rw[e];rw[hl]at hri;exact hri
 obtain⟨us,h1,h2,h3⟩:=mG (hd.1 (.row (ρ.v 0) 3 l) zq);have hus:=By h3;subst hus;show Calls wR 275 #[ρ.v 0, .func (.func 276) #[] #[.pointer (Q ⟨ρ.b 1,0,J⟩)]] w _;obtain⟨h1l,hcase⟩:=h1;rcases hcase with ⟨p,hvp,hl0⟩|⟨gb,cap,cur,hvp,hgb,q1,q2,q3,q4⟩
 ·have hl:l=[]:=y8.1 hl0;exact nilS p 0 hl hvp ⟨by rw[hl];rfl, .inl ⟨p,rfl,hl0⟩⟩
 ·by_cases hl:l=[]
  ·refine nilS _ _ hl (by rw[hvp,hl];rfl) ⟨by rw[hl];rfl, .inr ⟨gb,cap,cur,by rw[hl];rfl,hgb,q1,q2,q3,?_⟩⟩;rw[hl];rfl
  ·obtain⟨k,hk⟩:∃k,yz L=k+1:=by
    cases l with
    |nil=>exact gI rfl hl
    |cons x l=>
     have:=hrng x zq;exact⟨yz L-1,by omega⟩
   have q1:yz l<=cap+1:=q1;have q3:cur.size=cap+1:=by rw[q3];exact yF _
   have q4:cur.toList.take (yz l*1)=l.map (Value.int .i64):=q4;rw[yF]at q4;have m1:bH.box (ρ.b 1) 239 [.lit (.pointer (Q ⟨ρ.b 2,0,J⟩))]∈rest:=by rw[hrest];simp[aM.res,IR.res,bM.sub]
   have m2:bH.box (ρ.b 2) 296 [.lit (ρ.v 3), .lit (ρ.v 4), .lit (ρ.v 5), .lit (ρ.v 6), .b wd]∈rest:=by rw[hrest];simp[aM.res,IR.res,bM.sub]
   have m3:bH.row (ρ.v 3) 3 L∈rest:=by rw[hrest];simp[aM.res,IR.res]
   obtain⟨u1,b1,r1⟩:=hd.1 _ (zH _ m1);obtain⟨u2,b2,r2⟩:=hd.1 _ (zH _ m2);obtain⟨u3,b3,-,r3⟩:=mG (hd.1 _ (zH _ m3));have hu3:=By r3;subst hu3;obtain⟨b3l,hc3⟩:=b3;rcases hc3 with ⟨p,-,hz⟩|⟨bl,cap3,cur3,hv3,hbl,p1,p2,p3,p4⟩
   ·exfalso;have hz:yz L=0:=hz;omega
   have hv3:ρ.v 3= .slice (Q ⟨bl,0,J⟩) (yz L) (cap3+1):=hv3;have p1:yz L<=cap3+1:=p1;have hvp:ρ.v 0= .slice (Q ⟨gb,0,J⟩) (yz l) (cap+1):=hvp;have p4:cur3.toList.take (yz L*1)=L.map (Value.int .i64):=p4;rw[yF]at p4;have ngb:∀x,x∈aY rest->x≠gb:=λx hx e=>by
    have:aY (bH.row (ρ.v 0) 3 l::rest)=gb::aY rest:=by
     unfold aY;rw[xd,show bH.blk (bH.row (ρ.v 0) 3 l)=Q gb by rw[show bH.blk (bH.row (ρ.v 0) 3 l)=fD (ρ.v 0)from rfl,hvp];rfl]
    rw[this]at hn;exact(xT.1 hn).1 (e▸hx)
   have n1:ρ.b 1≠gb:=ngb _ (bw.2 ⟨_,m1,rfl⟩);have n2:ρ.b 2≠gb:=ngb _ (bw.2 ⟨_,m2,rfl⟩);have n3:bl≠gb:=ngb _ (bw.2 ⟨_,m3,by rw[show bH.blk (bH.row (ρ.v 3) 3 L)=fD (ρ.v 3)from rfl,hv3];rfl⟩);have hgs:gb<w.heap.size:=(ym.1 hgb).1;have hls:bl<w.heap.size:=(ym.1 hbl).1;obtain⟨d,hd0⟩:∃d:Array (Fin (k+1)),d=(l.map λx=>Fin.ofNat (k+1) x.toNat).toArray:=⟨_,rfl⟩;have hds:d.size=yz l:=by rw[hd0];simp
   have hfv:∀x∈l,((Fin.ofNat (k+1) x.toNat).val:Int)=x:=λx hx=>by
    have:=hrng x hx;simp only[Fin.ofNat];rw[wm (by omega)];omega
   have hH:Holds (λx:Fin (k+1)=>Value.int .i64 (x.val:Int)) w gb 0 d:=λj hj=>by
    have hj':j<yz l:=by omega
    have e1:cur[j]? =Q (Value.int .i64 l[j]):=by
     have:=congrArg (·[j]?) q4;simp only[xR hj',zN,zm hj',zX]at this
     rwa [xb]at this
    have e2:d[j]! =Fin.ofNat (k+1) (l[j]).toNat:=by rw[getElem!_pos d j hj];simp[hd0]
    rw[e2,ya];show w.cell? ⟨gb,j,J⟩=Q (Value.int .i64 ((Fin.ofNat (k+1) (l[j]).toNat).val:Int))/\_;rw[hfv _ (yJ hj')];exact⟨by simp[World.cell?,hgb,e1],by simp[World.frozen?,hgb]⟩
   have hL:∀i,i<yz L->cur3[i]? =Q (Value.int .i64 L[i]!):=λi hi=>by
    have:=congrArg (·[i]?) p4;simp only[xR hi,zN,zm hi,zX]at this;rw[xb]at this;rw[this,getElem!_pos L i hi]
   have hu1:∃rs,u1= .pointer (Q ⟨ρ.b 2,0,J⟩)::rs:=by
    match u1,r1.1 with
    |[u],_=>exact⟨[],by rw[(r1.2 0 _ u rfl rfl).bI]⟩
   have hu2:∃rs,u2=ρ.v 3::rs:=by
    match u2,r2.1 with
    |u::rs,_=>exact⟨rs,by rw[(r2.2 0 _ u rfl rfl).bI]⟩
   obtain⟨rs1,rfl⟩:=hu1;obtain⟨rs2,rfl⟩:=hu2;have b1:w.heap[ρ.b 1]? =Q (.cells (Value.pointer (Q ⟨ρ.b 2,0,J⟩)::rs1).toArray 239 (0,0)):=b1;have b2:w.heap[ρ.b 2]? =Q (.cells (ρ.v 3::rs2).toArray 296 (0,0)):=b2;have hcmp:CmpReads wR 276 #[.pointer (Q ⟨ρ.b 1,0,J⟩)] (λx:Fin (k+1)=>Value.int .i64 (x.val:Int)) (Zk L k) gb 0 d.size w:=λm os dk hdk x y=>by
    have c1:=qy (enc:=λx:Fin (k+1)=>Value.int .i64 (x.val:Int)) (m:=m) (dk:=dk) (os:=os) (ym.1 b1).1 n1;have c2:=qy (enc:=λx:Fin (k+1)=>Value.int .i64 (x.val:Int)) (m:=m) (dk:=dk) (os:=os) (ym.1 b2).1 n2;have c3:=qy (enc:=λx:Fin (k+1)=>Value.int .i64 (x.val:Int)) (m:=m) (dk:=dk) (os:=os) hls n3;generalize sortWorld (λx:Fin (k+1)=>Value.int .i64 (x.val:Int)) w gb 0 m dk os=W at c1 c2 c3 ⊢;have hx:=x.isLt;have hy:=y.isLt;have vx:=hval L[x.val]! (by rw[getElem!_pos L _ (by omega)];exact yJ _);have vy:=hval L[y.val]! (by rw[getElem!_pos L _ (by omega)];exact yJ _);exact MC W (ρ.b 1) (ρ.b 2) bl (yz L) (cap3+1) x.val y.val L[x.val]! L[y.val]! (by simp[World.cell?,c1,b1]) (by simp[World.cell?,c2,b2,hv3]) (by simp[World.cell?,c3,hbl,hL x.val (by omega)]) (by simp[World.cell?,c3,hbl,hL y.val (by omega)]) (by omega) (by omega) (by unfold maxLen at p2;omega) vx vy
   have hs:=Go.Proofs.Any.slices_SortFunc_total R4 (λx:Fin (k+1)=>Value.int .i64 (x.val:Int)) (λ_=>rfl) (Zk L k) (abI L k) 276 #[.pointer (Q ⟨ρ.b 1,0,J⟩)] gb 0 (cap+1) d w (enters_of func276 (by kernel_rfl) rfl) hcmp.lays hH hgs (by omega) (Zg hk hnd);rw[hds,<-hvp]at hs;refine hs.mono λe w' he=> ?_;obtain⟨rfl,n,os,rfl⟩:=he;obtain⟨s,hs0⟩:∃s:aa (Fin (k+1)),s=d.toList.mergeSort λx y=> !ltOf (Zk L k) y x:=⟨_,rfl⟩;have hsm:s.map (λx=>(x.val:Int))=kM l L:=by rw[hs0,hd0];exact Zh hk (λx hx=>hrng x hx)
   have hsl:yz s=yz l:=by rw[hs0,List.length_mergeSort,yf,hds]
   have hbl':yz (kM l L)=yz l:=by rw[<-hsm,zI,hsl]
   rw[<-hs0];refine fin _ ⟨by rw[zI,yF], .inr ⟨gb,cap,_,by rw[hvp,hbl'],Za hgb,by rw[hbl'];exact q1,q2,by simp[putCells,q3],?_⟩⟩ ?_
   ·have:=PY (enc:=λx:Fin (k+1)=>Value.int .i64 (x.val:Int)) (dk:=s.toArray) (cur:=cur) (by simp;omega);rw[yF,hbl',<-hsl,show yz s=s.toArray.size by simp,this,<-hsm,yg];rfl
   ·rw[hvp];exact aw7
def aqS:ag1:=λg r hb=>anB _ _ _ _ _ _ r hb
end Go.Proofs.YtghilkcphindjaaGreat
end
