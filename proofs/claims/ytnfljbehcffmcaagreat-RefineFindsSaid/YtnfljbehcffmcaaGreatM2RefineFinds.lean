/- Merged: Iw9, Iw10, Iw11, Iw12, Iw13, Iw14, Iw15, Ixa, Ix1, Ix2, Ua, Ix3, Ix4, Us, Iz, Hl, Um, Hm. -/
import Derived.Test.YtnfljbehcffmcaaGreatM1RefineFinds
import Derived.Test.YtnfljbehcffmcaaGreatProg
open Nat renaming beq → zf, le_refl → zn, blt → zG, lt_succ_self → zJ, le_trans → zK, le_succ → yc, ble → yl, zero_add → yp, add_zero → yt, blt_eq → yC, zero_le → yT, eq_of_beq_eq_true → xh, sub_self → xS, add_sub_cancel → wJ
open Bool renaming and_eq_true → zi, or_eq_true → yM, true → O, false → S
open List renaming length_append → zj, replicate → zl, mem_cons_self → zo, getElem?_eq_getElem → zu, all_eq_true → zw, length_map → zx, mem_singleton → zy, mem_cons → zD, mem_map → zL, mem_cons_of_mem → zO, mem_append → zW, map_congr_left → zX, mem_filter → zZ, getElem?_eq_some_iff → z7, map_append → z8, getElem?_map → yb, map_cons → ye, map_map → yq, nil_append → yw, append_nil → yy, nodup_append → yI, mem_append_left → yJ, mem_append_right → yK, length_cons → yN, replicate_succ → yP, append_assoc → yR, filter_cons → yU, filterMap_cons → y6, getElem?_append → xk, size_toArray → xx, eq_nil_of_length_eq_zero → xy, flatMap_cons → xH, getElem_mem → xM, mem_flatMap → xP, filter_filter → wj, filter_congr → wk, getD_eq_getElem?_getD → wm, getElem?_append_right → wH, eraseIdx_sublist → wQ, getElem?_replicate → wR, getElem?_append_left → wS
open Option renaming map_eq_some_iff → zk, bind_eq_some_iff → zq, some → zA, bind_assoc → zY, map_some → yx, some → V, none → G
open Array renaming getElem?_eq_getElem → xK
open Decidable renaming decide → J
open Go.Proofs.Tryz renaming prog → w9
open Go.Proofs.Tryz
set_option linter.unusedSectionVars false
set_option linter.unusedVariables false
set_option linter.unusedSimpArgs false
set_option linter.defProp false
noncomputable section
namespace Go.Iv
variable [U:qO] [L:mI]
open Go Go.RowKit
def lm(l:aa Nat):Nat:=List.rec 0 (λt _ ih=>Nat.lor ih (Nat.pow 2 t)) l
def OX:∀(l:aa Nat) (t:Nat),(lm l).testBit t=O↔t∈l
 |[],t=>by simp[lm]
 |a::l,t=>by
  show ((lm l)|||2^a).testBit t=O↔_;rw[Nat.testBit_or,yM,OX l t,Nat.testBit_two_pow];simp only[decide_eq_true_eq,zD];constructor
  ·rintro(h|h)
   ·exact .inr h
   ·exact .inl h.symm
  ·rintro(h|h)
   ·exact .inr h.symm
   ·exact .inl h
def and_zero{x y t:Nat}(h:Nat.land x y=0)(hx:x.testBit t=O)(hy:y.testBit t=O):False:=by
 have h':x&&&y=0:=h;have:=Nat.testBit_and x y t;rw[h',hx,hy]at this;simp at this
def msk(acc:aa Nat)(es:aa Edge):Nat:=List.rec 0 (λe _ ih=>match Region.binds .any e with
 |true=>Nat.lor ih (Nat.lor (Nat.pow 2 e.on) (acc.getD e.on 0))
 |false=>ih) es
def Kv{acc:aa Nat}:∀{es:aa Edge} {j:Nat},(msk acc es).testBit j=O->∃e∈es,Region.binds .any e=O/\(j=e.on\/(acc.getD e.on 0).testBit j=O)
 |[],j,h=>by simp[msk]at h
 |e::es,j,h=>by
  change (match Region.binds .any e with
   |true=>Nat.lor (msk acc es) (Nat.lor (Nat.pow 2 e.on) (acc.getD e.on 0))
   |false=>msk acc es).testBit j=O at h
  cases hb:Region.binds .any e with
  |false=>
   rw[hb]at h;obtain⟨e',h1,h2⟩:=Kv h;exact⟨e',zO _ h1,h2⟩
  |true=>
   rw[hb]at h;change ((msk acc es)|||((2^e.on)|||(acc.getD e.on 0))).testBit j=O at h;rw[Nat.testBit_or,Nat.testBit_or,yM,yM,Nat.testBit_two_pow]at h;rcases h with h|h|h
   ·obtain⟨e',h1,h2⟩:=Kv h;exact⟨e',zO _ h1,h2⟩
   ·exact⟨e,zo,hb, .inl (by simp only[decide_eq_true_eq]at h;exact h.symm)⟩
   ·exact⟨e,zo,hb, .inr h⟩
def Me(l:aa Oper):aa Nat->aa Nat:=List.rec (λacc=>acc) (λo _ ih acc=>ih (acc++[msk acc o.after.toList])) l
def Rdy(bs:aa Bool)(o:Oper):Prop:=∀e∈o.after.toList,Region.binds .any e=O->bs[e.on]? =V O
def CY(ops:aa Oper)(bs:aa Bool):Prop:=∀(i:Nat) o,ops[i]? =V o->bs[i]? =V O->Rdy bs o
def aaT(ops:aa Oper)(acc:aa Nat):Prop:=∀(i m:Nat) o,acc[i]? =V m->ops[i]? =V o->∀bs,CY ops bs->Rdy bs o->∀j,m.testBit j=O->bs[j]? =V O
def TK(ops:aa Oper):∀(l:aa Oper) (acc:aa Nat),(∃pre,ops=pre++l/\pre.length=acc.length)->aaT ops acc->aaT ops (Me l acc)
 |[],acc,_,h=>h
 |o::l,acc,⟨pre,hp,hl⟩,h=>by
  refine TK ops l _ ⟨pre++[o],by rw[hp];simp,by simp[hl]⟩ λi m o' hm ho bs hc hr j hj=> ?_;rw[xk]at hm;split at hm
  ·exact h i m o' hm ho bs hc hr j hj
  ·rename_i hlt;have hi:i=acc.length:=by
    have:=(z7.1 hm).1;simp at this;omega
   subst hi;rw[xS]at hm;cases hm;have ho':o'=o:=by
    rw[hp,<-hl,wH (zn _),xS]at ho;exact(zA.inj ho).symm
   subst ho';obtain⟨e,h1,h2,h3⟩:=Kv hj;have h4:=hr e h1 h2;rcases h3 with rfl|h3
   ·exact h4
   ·cases ha:acc[e.on]? with
    |none=>rw[wm,ha]at h3;simp at h3
    |some m'=>
     rw[wm,ha]at h3;have hlt':=(z7.1 ha).1;cases hoe:ops[e.on]? with
     |none=>
      rw[List.getElem?_eq_none_iff,hp,zj]at hoe;omega
     |some oe=>exact h e.on m' oe ha hoe bs hc (hc e.on oe hoe h4) j h3
def awM:Operand->aa Nat
 | .tmp t=>[t]
 |_=>[]
def ak6(ops:Array Oper)(o:Oper):aa Nat:=match o.guard with
 |none=>[]
 |some (j,_)=>match (ops[j]?).bind (·.dst)with
  |some t=>[t]
  |none=>[]
def dw(ops:Array Oper)(o:Oper):aa Nat:=o.op.operands.toList.flatMap awM++ak6 ops o
def efk(o:Oper):Bool:=match o.op with
 | .store _ _ _=>O
 | .buildSlice _ _ _=>O
 | .makeSlice _ _ _=>O
 | .alloc _=>O
 | .box _ _=>O
 | .slice _ _ _ _ _=>O
 | .call {callee:= .builtin .len, ..}=>S
 | .call {callee:= .builtin .max, ..}=>S
 | .call {callee:= .builtin .min, ..}=>S
 | .call _=>O
 |_=>S
def dmk:af Nat->Nat
 |none=>0
 |some t=>Nat.pow 2 t
def Cb{d:af Nat}{t:Nat}(h:d=V t):(dmk d).testBit t=O:=by
 subst h;show (2^t).testBit t=O;rw[Nat.testBit_two_pow];simp
structure Sk where
 (anc sm dm:Nat)
 ef:Bool
def VJ(j:Nat)(a b:Sk):Bool:=b.anc.testBit j||(zf (Nat.land a.dm b.sm) 0&&zf (Nat.land a.dm b.dm) 0&&zf (Nat.land b.dm a.sm) 0)
def M8(b:Sk)(i:Nat)(l:aa Sk):Nat->af (aa (Nat×Nat)):=List.rec (λ_=>V []) (λa _ ih j=>match VJ j a b with
 |true=>match !b.anc.testBit j&&(a.ef||b.ef)with
  |true=>(ih (j+1)).map λps=>(j,i)::ps
  |false=>ih (j+1)
 |false=>G) l
def abm(l:aa Sk):aa Sk->Nat->af (aa (Nat×Nat)):=List.rec (λ_ _=>V []) (λb _ ih pre i=>(M8 b i pre 0).bind λps=>(ih (pre++[b]) (i+1)).map λqs=>ps++qs) l
def Es{b:Sk}{i:Nat}:∀{l:aa Sk} {k:Nat} {ps:aa (Nat×Nat)},M8 b i l k=V ps->∀(j:Nat) a,l[j]? =V a->VJ (k+j) a b=O/\(b.anc.testBit (k+j)=O\/(a.ef||b.ef)=S\/(k+j,i)∈ps)
 |[],k,ps,_,j,a,h=>by cases h
 |a0::l,k,ps,hs,j,a,h=>by
  change (match VJ k a0 b with
   |true=>match !b.anc.testBit k&&(a0.ef||b.ef)with
    |true=>(M8 b i l (k+1)).map λps=>(k,i)::ps
    |false=>M8 b i l (k+1)
   |false=>G)=V ps at hs
  cases h0:VJ k a0 b with
  |false=>rw[h0]at hs;cases hs
  |true=>
   rw[h0]at hs;simp only at hs;cases h1:(!b.anc.testBit k&&(a0.ef||b.ef))with
   |true=>
    rw[h1]at hs;obtain⟨ps',h2,rfl⟩:=zk.1 hs;cases j with
    |zero=>cases h;exact⟨h0, .inr (.inr zo)⟩
    |succ j=>
     obtain⟨h3,h4⟩:=Es h2 j a h;rw[show k+1+j=k+(j+1)from by omega]at h3 h4;exact⟨h3,h4.imp id (λh=>h.imp id λh=>zO _ h)⟩
   |false=>
    rw[h1]at hs;cases j with
    |zero=>
     cases h;refine⟨h0,?_⟩;simp only[yt];cases hb:b.anc.testBit k with
     |true=>exact .inl rfl
     |false=>rw[hb]at h1;exact .inr (.inl (by simpa using h1))
    |succ j=>
     obtain⟨h3,h4⟩:=Es hs j a h;rw[show k+1+j=k+(j+1)from by omega]at h3 h4;exact⟨h3,h4⟩
def N4:∀{l pre:aa Sk} {k:Nat} {ps:aa (Nat×Nat)},abm l pre k=V ps->pre.length=k->∀(i j:Nat) a b,j<i->k<=i->(pre++l)[j]? =V a->(pre++l)[i]? =V b->VJ j a b=O/\(b.anc.testBit j=O\/(a.ef||b.ef)=S\/(j,i)∈ps)
 |[],pre,k,ps,_,hk,i,j,a,b,_,hki,_,hb=>by
  rw[yy]at hb;have:=(z7.1 hb).1;omega
 |b0::l,pre,k,ps,hs,hk,i,j,a,b,hji,hki,ha,hb=>by
  change ((M8 b0 k pre 0).bind λps=>(abm l (pre++[b0]) (k+1)).map λqs=>ps++qs)=V ps at hs;obtain⟨p1,h1,hs⟩:=zq.1 hs;obtain⟨p2,h2,rfl⟩:=zk.1 hs;by_cases hik:i=k
  ·subst hik;rw[wH (by omega),hk,xS]at hb;cases hb;rw[wS (by omega)]at ha;have:=Es h1 j a ha;rw[yp]at this;exact⟨this.1,this.2.imp id λh=>h.imp id λh=>yJ _ h⟩
  ·have h3:=N4 h2 (by simp[hk]) i j a b hji (by omega) (by simpa using ha) (by simpa using hb);exact⟨h3.1,h3.2.imp id λh=>h.imp id λh=>yK _ h⟩
def aqH(ops:Array Oper)(l:aa Oper):aa Nat->aa Sk:=List.rec (λ_=>[]) (λo _ ih ms=>match ms with
 |m::ms=>⟨m,lm (dw ops o),dmk o.dst,efk o⟩::ih ms
 |[]=>[]) l
def plan(ops:Array Oper):af (aa (Nat×Nat)):=abm (aqH ops ops.toList (Me ops.toList [])) [] 0
def Y2(l:aa Oper):∀acc:aa Nat,(Me l acc).length=acc.length+l.length:=by
 induction l with
 |nil=>intro acc;rfl
 |cons o l ih=>intro acc;show (Me l (acc++[_])).length=_;rw[ih];simp;omega
def F6(ops:Array Oper):∀(l:aa Oper) (ms:aa Nat) (i:Nat) (o:Oper) (m:Nat),l[i]? =V o->ms[i]? =V m->(aqH ops l ms)[i]? =V ⟨m,lm (dw ops o),dmk o.dst,efk o⟩
 |[],_,_,_,_,h,_=>by cases h
 |o0::l,[],_,_,_,_,h=>by cases h
 |o0::l,m0::ms,i,o,m,h1,h2=>by
  show (_::aqH ops l ms)[i]? =_;cases i with
  |zero=>cases h1;cases h2;rfl
  |succ i=>exact F6 ops l ms i o m h1 h2
def aiK(xs:aa Nat)(Lo:bg)(ys:aa Nat):Bool:=xs.all (λi=> !dH i ys)&&Lo.all λp=> !dH p.1 ys
def cfD(c d:Rc):Bool:=(!c.ef||aiK c.wr c.Lo d.rd)&&(!d.ef||aiK d.wr d.Lo c.rd)
def ZI(ps:aa (Nat×Nat))(cs:aa Rc):Bool:=ps.all λp=>match cs[p.1]?,cs[p.2]? with
 |some c,V d=>cfD c d
 |_,_=>S
def Sd{xs ys:aa Nat}{Lo:bg}(h:aiK xs Lo ys=O):(∀i∈xs,i∉ys)/\∀p∈Lo,p.1∉ys:=by
 unfold aiK at h;simp only[zi,zw,Bool.not_eq_true']at h;exact⟨λi hi=>iY.1 (h.1 i hi),λp hp=>iY.1 (h.2 p hp)⟩
def af6{ops:Array Oper}{ps:aa (Nat×Nat)}{cs:aa Rc}(hp:plan ops=V ps)(ho:ZI ps cs=O)(hcs:∀(i:Nat) c,cs[i]? =V c->∃o,ops.toList[i]? =V o/\c.dst=o.dst/\c.sl=dw ops o/\(c.ef=O->efk o=O)/\∀i∈c.wr,i∈c.rd)
  {i j:Nat} {c d:Rc} (hji:j<i) (hc:cs[j]? =V c) (hd:cs[i]? =V d):
  CF c d\/∀bs,CY ops.toList bs->(∀o,ops.toList[i]? =V o->Rdy bs o)->bs[j]? =V O:=by
 obtain⟨o1,h1,h2,h3,h4,h5⟩:=hcs j c hc;obtain⟨o2,g1,g2,g3,g4,g5⟩:=hcs i d hd;have hl1:=(z7.1 h1).1;have hl2:=(z7.1 g1).1;have hml:(Me ops.toList []).length=ops.toList.length:=by rw[Y2];simp
 obtain⟨m1,hm1⟩:∃m,(Me ops.toList [])[j]? =V m:=⟨_,zu (by rw[hml];exact hl1)⟩;obtain⟨m2,hm2⟩:∃m,(Me ops.toList [])[i]? =V m:=⟨_,zu (by rw[hml];exact hl2)⟩;have s1:=F6 ops ops.toList _ j o1 m1 h1 hm1;have s2:=F6 ops ops.toList _ i o2 m2 g1 hm2;obtain⟨q1,q2⟩:=N4 hp rfl i j _ _ hji (yT _) s1 s2;have hmsk:aaT ops.toList (Me ops.toList []):=TK ops.toList ops.toList [] ⟨[],rfl,rfl⟩ λi m o h=>by cases h
 by_cases ha:m2.testBit j=O
 ·exact .inr λbs hcl hr=>hmsk i m2 o2 hm2 g1 bs hcl (hr o2 g1) j ha
 ·refine .inl ?_;have ha':m2.testBit j=S:=by simpa using ha
  unfold VJ at q1;simp only[ha',Bool.false_or,zi]at q1;obtain⟨⟨r1,r2⟩,r3⟩:=q1;have r1:=gz r1;have r2:=gz r2;have r3:=gz r3;have hdyn:(c.ef||d.ef)=S\/cfD c d=O:=by
   rcases q2 with q2|q2|q2
   ·exact dD q2 ha
   ·simp only[Bool.or_eq_false_iff]at q2;left;have e1:c.ef=S:=by
     cases h:c.ef with
     |false=>rfl
     |true=>exact dD q2.1 (by rw[h4 h];simp)
    have e2:d.ef=S:=by
     cases h:d.ef with
     |false=>rfl
     |true=>exact dD q2.2 (by rw[g4 h];simp)
    rw[e1,e2];rfl
   ·right;have:=zw.1 ho _ q2;simp only[hc,hd]at this;exact this
  refine⟨λt ht=>⟨λhm=> ?_,λe=> ?_⟩,λt ht hm=> ?_,λhe=> ?_,λhe=> ?_⟩
  ·rw[h2]at ht;rw[g3]at hm;exact and_zero r1 (Cb ht) ((OX _ _).2 hm)
  ·rw[h2]at ht;rw[g2]at e;exact and_zero r2 (Cb ht) (Cb e)
  ·rw[g2]at ht;rw[h3]at hm;exact and_zero r3 (Cb ht) ((OX _ _).2 hm)
  ·rcases hdyn with h|h
   ·rw[he]at h;simp at h
   ·unfold cfD at h;simp only[he,zi,yM,Bool.not_eq_true']at h;have q:=Sd (h.1.resolve_left (by simp));exact⟨q.1,q.2,λp hp hx=>q.2 p hp (g5 _ hx)⟩
  ·rcases hdyn with h|h
   ·rw[he]at h;simp at h
   ·unfold cfD at h;simp only[he,zi,yM,Bool.not_eq_true']at h;have q:=Sd (h.2.resolve_left (by simp));exact⟨q.1,q.2,λp hp hx=>q.2 p hp (h5 _ hx)⟩
def IR.gX(p:Nat->Prop):IR->Prop
 | .box _ cs=>∀c∈cs,Iv.gX p c
 | .row _ _=>True
def bg.gX(p:Nat->Prop)(R:bg):Prop:=∀q∈R,p q.1/\q.2.gX p
def IR.gX.mono{p q:Nat->Prop}{r:IR}(h:r.gX p)(hn:∀i,p i->q i):r.gX q:=by
 cases r with
 |box T cs=>exact λc hc=>(h c hc).mono hn
 |row t l=>trivial
def bg.gX.mono{p q:Nat->Prop}{R:bg}(h:bg.gX p R)(hn:∀i,p i->q i):bg.gX q R:=λx hx=>⟨hn _ (h x hx).1,(h x hx).2.mono hn⟩
def bg.gX.res{p:Nat->Prop}{R:bg}{ρ ρ':Gh}(h:bg.gX p R)(ha:Ags p ρ ρ'):bg.res ρ R=bg.res ρ' R:=zX λq hq=>by
 obtain⟨h1,h2⟩:=h q hq;obtain⟨i,r⟩:=q;cases r with
 |box T cs=>simp only[IR.res];rw[(ha i h1).2,Iv.gX.Z9 h2 ha]
 |row t l=>simp only[IR.res];rw[(ha i h1).1]
def bg.gX.perm{p:Nat->Prop}{R R':bg}(h:bg.gX p R)(hp:List.Perm R R'):bg.gX p R':=λq hq=>h q (hp.mem_iff.2 hq)
def bg.cS.lts{n:Nat}{R:bg}(h:bg.cS n R):bg.gX (λi=>i<n) R:=λq hq=>⟨(h q hq).1,by
 have:=(h q hq).2;cases hr:q.2 with
 |box T cs=>rw[hr]at this;exact this
 |row t l=>trivial⟩
def bg.gX.qT{n:Nat}{R:bg}(h:bg.gX (λi=>i<n) R):bg.cS n R:=λq hq=>⟨(h q hq).1,by
 have:=(h q hq).2;cases hr:q.2 with
 |box T cs=>rw[hr]at this;exact this
 |row t l=>trivial⟩
def u5(f:Fr)(sl:aa Nat):Env:=sl.filterMap λt=>(f t).map λd=>(t,d)
def CQ{f:Fr}{t:Nat}{d:AV}:∀{sl:aa Nat},(u5 f sl).get t=V d->f t=V d
 |[],h=>by cases h
 |s::sl,h=>by
  unfold u5 at h;rw[y6]at h;cases hs:f s with
  |none=>
   rw[hs]at h;exact CQ (sl:=sl) h
  |some e=>
   rw[hs]at h;simp only[yx]at h;unfold Env.get at h;cases hb:zf s t with
   |true=>
    rw[hb]at h;cases h;rw[<-gz hb];exact hs
   |false=>
    rw[hb]at h;exact CQ (sl:=sl) h
def Jj{f:Fr}{t:Nat}{d:AV}:∀{sl:aa Nat},t∈sl->f t=V d->(u5 f sl).get t=V d
 |[],h,_=>by cases h
 |s::sl,h,hf=>by
  unfold u5;rw[y6];by_cases hst:s=t
  ·subst hst;rw[hf];exact Env.fk _ _ _
  ·have ht:t∈sl:=(zD.1 h).resolve_left λe=>hst e.symm;cases f s with
   |none=>exact Jj ht hf
   |some e=>simp only[yx];rw[Env.dV _ _ hst];exact Jj ht hf
def PA{f g:Fr}{sl:aa Nat}(h:∀t∈sl,f t=g t):u5 f sl=u5 g sl:=by
 unfold u5;induction sl with
 |nil=>rfl
 |cons s sl ih=>
  rw[y6,y6,h s zo,ih λt ht=>h t (zO _ ht)]
section
variable {P:Program} {C:Cx} {n:Nat} {o:Oper}
def MtS(C:Cg)(n:Nat)(p:Nat->Prop)(f:Fr)(R:bg)(a:Act)(w:World):Prop:=∃(E:Env) (ρ:Gh),(∀t d,f t=V d->E.get t=V d)/\(∀q∈E,gX p q.2)/\bg.gX p R/\oS C.n C.ρ ρ/\tV C.C n (E.sub ρ) (bg.res ρ R) a w
def qF{ρ:Gh}{R R':bg}(h:List.Perm R R'):List.Perm (bg.res ρ R) (bg.res ρ R'):=h.map _
def kE{ρ:Gh}(R R':bg):bg.res ρ (R++R')=bg.res ρ R++bg.res ρ R':=z8 ..
def MtS.perm{C:Cg}{p:Nat->Prop}{f:Fr}{R R':bg}{a:Act}{w:World}(h:MtS C n p f R a w)(hp:List.Perm R R'):MtS C n p f R' a w:=by
 obtain⟨E,ρ,h1,h2,h3,h5,h4⟩:=h;exact⟨E,ρ,h1,h2,h3.perm hp,h5,h4.perm (qF hp)⟩
def Nlc(nx:Nat)(v:AV)(Ro:bg)(ρ:Gh):af AV->aa cE->Prop:=λa σ'=>∃ρ',oS nx ρ ρ'/\(a=V (v.sub ρ')\/a=G/\v= .lit undef)/\List.Perm σ' (bg.res ρ' Ro)
def adR{wr rd:aa Nat}(h:∀i∈wr,i∈rd)(R:bg):List.Perm (gT wr (cC rd R)++gT rd R) (gT wr R):=by
 have e1:gT wr (cC rd R)=(gT wr R).filter λp=>dH p.1 rd:=by
  simp only[gT,cC,wj];exact wk λp _=>Bool.and_comm ..
 have e2:gT rd R=(gT wr R).filter λp=> !dH p.1 rd:=by
  simp only[gT,wj];refine wk λp _=> ?_;cases hm:dH p.1 rd with
  |true=>rfl
  |false=>
   have:dH p.1 wr=S:=iY.2 λhw=>iY.1 hm (h _ hw);rw[this];rfl
 rw[e1,e2];exact List.filter_append_perm _ _
def apQ{C:Cg}{p:Nat->Prop}{f:Fr}{R:bg}{a:Act}{w:World}{c:Rc}{nx nx':Nat}{Q:Exit->Act->World->Prop}{K':Act->World->Prop}
  (hn:C.n<=nx) (hm:MtS C n p f R a w) (hdst:c.dst=o.dst) (hd:MX n o.dst=O) (hwr:∀i∈c.wr,i∈c.rd) (hloc:∀ρ C,Ye P ((u5 f c.sl).sub ρ) (bg.res ρ (cC c.rd R)) o C (Nlc nx c.v (match c.ef with|O=>c.Lo++gT c.wr (cC c.rd R)|S=>cC c.rd R) ρ))
  (hp:∀i,p i->¬(nx<=i/\i<nx')) (hv:cS nx' c.v) (hLi:bg.cS nx (cC c.rd R)) (hLo:c.ef=O->bg.cS nx' c.Lo)
  (hv':gX (λi=>p i\/(nx<=i/\i<nx')) c.v) (hLo':c.ef=O->bg.gX (λi=>p i\/(nx<=i/\i<nx')) c.Lo)
  (hK:∀a' w',a'.defers=a.defers->MtS C n (λi=>p i\/(nx<=i/\i<nx')) (c.F f) (c.R R) a' w'->K' a' w'):o.wp P a w K' Q:=by
 obtain⟨E,ρ,h1,h2,h3,h0,hsim0⟩:=hm;have hpm:List.Perm (cC c.rd R++gT c.rd R) R:=List.filter_append_perm _ _;have hsim:=hsim0.perm (qF (ρ:=ρ) hpm.symm);rw[kE]at hsim;generalize hσi:bg.res ρ (cC c.rd R)=σi at hsim;generalize hσr:bg.res ρ (gT c.rd R)=σr at hsim;have hg:=hsim.good;have hlt:∀b∈bD (σi++σr),b<w.heap.size:=λb hb=>by
  obtain⟨s,q1,q2⟩:=bT.1 hb;exact(hg.res s q1).lt q2
 have hal:∀b,al C.C (σi++σr) b->al ⟨w,al C.C (σi++σr),bD σi⟩ σi b:=λb hA=>⟨.inl hA,λhx=>hA.2 (bR.2 (.inl hx))⟩;have hgood:Good ⟨w,al C.C (σi++σr),bD σi⟩ σi w:=⟨Kp.refl _ _,λr hr=>(hg.res r (yJ _ hr)).mono (λb _ hA=>⟨hal b hA,rfl⟩) (λ_ _=>rfl),by
  have:=hg.GI;rw[gU]at this;exact(yI.1 this).1,λb hb=> .inl hb⟩
 have hops:OI (al ⟨w,al C.C (σi++σr),bD σi⟩ σi) w ((u5 f c.sl).sub ρ) a.eval:=λx u hx=>by
  rw[Env.PR]at hx;obtain⟨d,hd1,rfl⟩:=zk.1 hx;have hE:E.ev x=V d:=by
   cases x with
   |tmp t=>exact h1 t d (CQ hd1)
   |_=>exact hd1
  exact(hsim.slots.ops x (d.sub ρ) (by rw[Env.PR,hE];rfl)).mono λb _ hA=>⟨hal b hA,rfl⟩
 have step:∀(ρ':Gh) (σo:aa cE) (w':World),oS nx ρ ρ'->List.Perm σo (bg.res ρ' (match c.ef with|O=>c.Lo++gT c.wr (cC c.rd R)|S=>cC c.rd R))->Tr ⟨w,al C.C (σi++σr),bD σi⟩ (bD σi) σi w σo w'->
   ∃ρ'':Gh,oS C.n C.ρ ρ''/\c.v.sub ρ'=c.v.sub ρ''/\tV C.C n (E.sub ρ'') (bg.res ρ'' (c.R R)) a w'/\(∀b,b<w'.heap.size->al ⟨w,al C.C (σi++σr),bD σi⟩ σo b->al C.C (bg.res ρ'' (c.R R)) b):=λρ' σo w' ha hσo ht=>by
  let ρ'':Gh:=⟨λi=>if nx<=i/\i<nx' then ρ'.v i else ρ.v i,λi=>if nx<=i/\i<nx' then ρ'.b i else ρ.b i⟩
  have hag:Ags p ρ ρ'':=λi hi=>by
   have:=hp i hi;exact⟨by simp only[ρ'',bO this],by simp only[ρ'',bO this]⟩
  have hag2:oS nx' ρ' ρ'':=λi hi=>by
   by_cases hni:nx<=i
   ·exact⟨by simp only[ρ'',bE (And.intro hni hi)],by simp only[ρ'',bE (And.intro hni hi)]⟩
   ·have h0:¬(nx<=i/\i<nx'):=λh=>hni h.1;obtain⟨a1,a2⟩:=ha i (by omega);exact⟨by simp only[ρ'',bO h0];exact a1.symm,by simp only[ρ'',bO h0];exact a2.symm⟩
  have hnx:nx<=nx'\/nx'<nx:=by omega
  have hown:∀b∈bD σo,b∈bD σi\/w.heap.size<=b:=ht.good.own;have hsub:∀b,b<w'.heap.size->al ⟨w,al C.C (σi++σr),bD σi⟩ σo b->al C.C (σo++σr) b:=λb _ hb=>by
   obtain⟨hb1,hb2⟩:=hb;rcases hb1 with hb1|hb1|hb1
   ·exact⟨hb1.1,λhx=>(bR.1 hx).elim hb2 (λh=>hb1.2 (bR.2 (.inr h)))⟩
   ·have hbp:b∈bD σi:=hb1;refine⟨?_,λhx=>(bR.1 hx).elim hb2 (λh=> ?_)⟩
    ·rcases hg.own b (bR.2 (.inl hbp))with h|h
     ·exact .inr (.inl h)
     ·exact .inr (.inr h)
    ·have hdis:=hg.GI;rw[gU]at hdis;exact(yI.1 hdis).2.2 b hbp b h rfl
   ·have hbw:w.heap.size<=b:=hb1;exact⟨.inr (.inr (zK hg.kept.size hbw)),λhx=>(bR.1 hx).elim hb2 (λh=>by have:=hlt b (bR.2 (.inr h));omega)⟩
  have ht2:Tr C.C (bD σi) (σi++σr) w (σo++σr) w':=BU hg (λb hA _=> .inl hA) ht (λr hr=>(ht.good.res r hr).mono (λb hb hA=>⟨hsub b hb hA,rfl⟩) (λ_ _=>rfl));have hs2:=hsim.tr ht2;have hout:bg.gX p (gT c.rd R):=λq hq=>h3 q (zZ.1 hq).1;have hEs:E.sub ρ=E.sub ρ'':=zX λq hq=>by rw[(h2 q hq).sub hag]
  have hrs:σr=bg.res ρ'' (gT c.rd R):=by rw[<-hσr,hout.res hag]
  have hpo:List.Perm (σo++σr) (bg.res ρ'' (c.R R)):=by
   rw[hrs];unfold Rc.R;cases hce:c.ef with
   |true=>
    rw[hce]at hσo;simp only at hσo ⊢;have hin:bg.gX p (gT c.wr (cC c.rd R)):=λq hq=>h3 q (zZ.1 (zZ.1 hq).1).1;have hin2:bg.cS nx (gT c.wr (cC c.rd R)):=λq hq=>hLi q (zZ.1 hq).1;have e1:bg.res ρ' (gT c.wr (cC c.rd R))=bg.res ρ'' (gT c.wr (cC c.rd R)):=by rw[<-hin2.res ha,hin.res hag]
    rw[kE,e1,(hLo hce).res hag2]at hσo;refine(hσo.append_right _).trans ?_;rw[yR,kE,<-kE (gT c.wr (cC c.rd R))];exact List.Perm.append_left _ (qF (adR hwr R))
   |false=>
    rw[hce]at hσo;simp only at hσo ⊢;have hin:bg.gX p (cC c.rd R):=λq hq=>h3 q (zZ.1 hq).1;have e1:bg.res ρ' (cC c.rd R)=bg.res ρ'' (cC c.rd R):=by rw[<-hLi.res ha,hin.res hag]
    rw[e1]at hσo;refine(hσo.append_right _).trans ?_;rw[<-kE];exact qF hpm
  refine⟨ρ'',h0.trans (λi hi=>⟨by simp only[ρ'',bO (show ¬(nx<=i/\i<nx')by omega)],by simp only[ρ'',bO (show ¬(nx<=i/\i<nx')by omega)]⟩) (zn C.n),hv.sub hag2,by rw[<-hEs];exact hs2.perm hpo,λb hb hA=>TF hpo b (hsub b hb hA)⟩
 have fin:∀(ρ':Gh) (σo:aa cE) (w':World) (v:Value),oS nx ρ ρ'->List.Perm σo (bg.res ρ' (match c.ef with|O=>c.Lo++gT c.wr (cC c.rd R)|S=>cC c.rd R))->Tr ⟨w,al C.C (σi++σr),bD σi⟩ (bD σi) σi w σo w'->
   Rel (al ⟨w,al C.C (σi++σr),bD σi⟩ σo) w' (c.v.sub ρ') v->K' (a.put o.dst v) w':=λρ' σo w' v q1 q2 q3 q4=>by
  obtain⟨ρ'',g1,g2,g3,g4⟩:=step ρ' σo w' q1 q2 q3;have hR':bg.gX (λi=>p i\/(nx<=i/\i<nx')) (c.R R):=by
   unfold Rc.R;cases hce:c.ef with
   |false=>exact h3.mono λi hi=> .inl hi
   |true=>exact λq hq=>(zW.1 hq).elim (hLo' hce q) λhq=>⟨.inl (h3 q (zZ.1 hq).1).1,(h3 q (zZ.1 hq).1).2.mono λi hi=> .inl hi⟩
  refine hK _ _ (by cases o.dst<;>rfl) ?_;rw[g2]at q4;cases hdo:o.dst with
  |none=>exact⟨E,ρ'',λt d ht=>h1 t d (by unfold Rc.F at ht;rw[hdst,hdo]at ht;simpa using ht),λq hq=>(h2 q hq).mono λi hi=> .inl hi,hR',g1,g3⟩
  |some t=>
   refine⟨(t,c.v)::E,ρ'',λs d hs=> ?_,λq hq=> ?_,hR',g1,?_⟩
   ·unfold Rc.F at hs;rw[hdst,hdo]at hs;by_cases hts:t=s
    ·subst hts;rw[bE rfl]at hs;cases hs;exact Env.fk _ _ _
    ·rw[bO (λe=>hts (zA.inj e))]at hs;rw[Env.dV _ _ hts];exact h1 s d hs
   ·rcases zD.1 hq with rfl|hq
    ·exact hv'
    ·exact(h2 q hq).mono λi hi=> .inl hi
   ·rw[hdo]at hd;exact g3.put hd (q4.mono λb hb hA=>⟨g4 b hb hA,rfl⟩)
 unfold Oper.wp;subst hσi;rcases hloc ρ _ w a.eval hgood hops with ⟨v,w',av,σ',⟨ρ',q1,q2,q3⟩,r1,r2,r3⟩|⟨w',σ',⟨ρ',q1,q2,q3⟩,r1,r2⟩|⟨g,args,r1,r2⟩
 ·rw[r2];rcases q2 with q2|⟨q2,_⟩
  ·cases q2;exact fin ρ' σ' w' v q1 q3 r1 r3
  ·cases q2
 ·rw[r2];rcases q2 with q2|⟨_,q2⟩
  ·cases q2
  ·exact fin ρ' σ' w' undef q1 q3 r1 (by rw[q2,bW];exact .lit _)
 ·rw[r1];refine Calls.mono r2 λee w' ⟨v,av,σ',q0,⟨ρ',q1,q2,q3⟩,s1,s2⟩=> ?_;subst q0;rcases q2 with q2|⟨q2,_⟩
  ·cases q2;exact fin ρ' σ' w' v q1 q3 s1 s2
  ·cases q2
end
end Go.Iv
end
noncomputable section
namespace Go.Iv
variable [U:qO] [L:mI]
open Go Go.RowKit
section
variable {P:Program} {o:Oper} {C:Cx} {N:af AV->aa cE->Prop}
def Ye.Vs{E:Env}{R:bg}{ρ:Gh}{id t:Nat}{l:aa (U.dz t)}(hr:gp R id=V (.row t l))
  (h:Ye P (Env.sub ρ (E.map λp=>(p.1,oq id t l 3 p.2))) (bg.res ρ ((kH id R).map λp=>(p.1,uT id t l p.2))) o C N):Ye P (E.sub ρ) (bg.res ρ R) o C N:=λw ϱ hg hρ=>by
 obtain⟨i,hi1,_,hi3⟩:=eR hr;have hres:=ia (ρ:=ρ) hi1;have hd:Hd (al C (bg.res ρ R)) [.row (ρ.v id) t l] w:=⟨λr hr=>by
   rw[zy]at hr;rw[hr];exact hg.res _ (List.mem_of_getElem? hres),λb hb hA=>hA.2 (by
   obtain⟨r,h1,h2⟩:=bT.1 hb;rw[zy]at h1;rw[h1]at h2;exact bT.2 ⟨_,List.mem_of_getElem? hres,h2⟩)⟩
 have hle:=LY (C:=C) hres hg;have hbk:bD (bg.res ρ ((kH id R).map λp=>(p.1,uT id t l p.2)))=bD ((bg.res ρ R).eraseIdx i):=by
  rw[<-AB,<-hi3];unfold bD bg.res;rw[yq,List.filterMap_map,List.filterMap_map]
  congr 1
  funext p
  obtain⟨q,rr⟩:=p;cases rr<;>rfl
 have hal:∀b,(al C (bg.res ρ R) b\/b∈bD [cE.row (ρ.v id) t l])->al C (bg.res ρ ((kH id R).map λp=>(p.1,uT id t l p.2))) b:=λb hb=>by
  have:=hle b hb;exact⟨this.1,by rw[hbk];exact this.2⟩
 have hrel:∀{d:AV} {v:Value},Rel (al C (bg.res ρ R)) w (d.sub ρ) v->Rel (al C (bg.res ρ ((kH id R).map λp=>(p.1,uT id t l p.2)))) w ((oq id t l 3 d).sub ρ) v:=λh=>
  (Ek hd 3 h).mono λb _ hA=>⟨hal b hA,rfl⟩
 have hsubb:∀b∈bD (bg.res ρ ((kH id R).map λp=>(p.1,uT id t l p.2))),b∈bD (bg.res ρ R):=λb hb=>by
  rw[hbk]at hb;exact pz (λr hr=>(wQ _ _).subset hr) b hb
 have hg':Good C (bg.res ρ ((kH id R).map λp=>(p.1,uT id t l p.2))) w:=by
  refine⟨hg.kept,λrr hrr=> ?_,?_,λb hb=>hg.own b (hsubb b hb)⟩
  ·obtain⟨p,h1,rfl⟩:=zL.1 hrr;obtain⟨p',h2,rfl⟩:=zL.1 h1;have hm:p'.2.res ρ p'.1∈bg.res ρ R:=by
    rw[hi3]at h2;exact zL.2 ⟨p',List.mem_of_mem_eraseIdx h2,rfl⟩
   have h3:=hg.res _ hm;obtain⟨q,rr⟩:=p';cases rr with
   |row t' l'=>exact h3.mono (λb _ hA=>⟨hal b (.inl hA),rfl⟩) (λ_ _=>rfl)
   |box T cs=>
    obtain⟨us,h4,h5⟩:=h3;refine⟨us,h4,by simpa using h5.1,λj av v q1 q2=> ?_⟩;rw[yq,yb]at q1;obtain⟨c,hc,rfl⟩:=zk.1 q1;exact hrel (h5.2 j (c.sub ρ) v (by rw[yb,hc];rfl) q2)
  ·rw[hbk];exact hg.GI.sublist ((wQ _ _).filterMap _)
 have hops:OI (al C (bg.res ρ ((kH id R).map λp=>(p.1,uT id t l p.2)))) w (Env.sub ρ (E.map λp=>(p.1,oq id t l 3 p.2))) ϱ:=λx u hx=>by
  cases x with
  |tmp k=>
   have hx':Env.get (Env.sub ρ (E.map λp=>(p.1,oq id t l 3 p.2))) k=V u:=hx;rw[Env.fh,eF]at hx';obtain⟨d',h1,rfl⟩:=zk.1 hx';obtain⟨d,h2,rfl⟩:=zk.1 h1;exact hrel (hρ (.tmp k) (d.sub ρ) (by show Env.get (E.sub ρ) k=_;rw[Env.fh,h2];rfl))
  |const v=>exact(hρ (.const v) u hx).mono λb _ hA=>⟨hal b (.inl hA),rfl⟩
  |global g=>exact(hρ (.global g) u hx).mono λb _ hA=>⟨hal b (.inl hA),rfl⟩
  |func f=>exact(hρ (.func f) u hx).mono λb _ hA=>⟨hal b (.inl hA),rfl⟩
 have htr:∀{σ':aa cE} {w':World},Tr C (bD (bg.res ρ ((kH id R).map λp=>(p.1,uT id t l p.2)))) (bg.res ρ ((kH id R).map λp=>(p.1,uT id t l p.2))) w σ' w'->Tr C (bD (bg.res ρ R)) (bg.res ρ R) w σ' w':=λh=>
  ⟨h.good,⟨h.kp.os,h.kp.tape,h.kp.output,h.kp.drawn,h.kp.size,λk hk hn=>h.kp.block k hk λhx=>hn (hsubb k hx)⟩,λb hb hA=>⟨(h.al b hb (hal b (.inl hA))).1,hA.2⟩⟩
 rcases h w ϱ hg' hops with ⟨v,w',av,σ',h1,h2,h3,h4⟩|⟨w',σ',h1,h2,h3⟩|⟨f,args,h1,h2⟩
 ·exact .inl ⟨v,w',av,σ',h1,htr h2,h3,h4⟩
 ·exact .inr (.inl ⟨w',σ',h1,htr h2,h3⟩)
 ·exact .inr (.inr ⟨f,args,h1,h2.mono λe w' ⟨v,av,σ',q1,q2,q3,q4⟩=>⟨v,av,σ',q1,q2,htr q3,q4⟩⟩)
def aa3(sl:aa Nat)(T:ET)(E:Env):Prop:=∀t∈sl,∀d,cQ T t=V d->E.get t=V d
def Ye.j8{sl:aa Nat}{nx:Nat}{ρ:Gh}:∀(ids:aa Nat) (T:ET) (E:Env) (R:bg),aa3 sl T E->E.cS nx->bg.cS nx R->
  (∀E',aa3 sl (St.j8 ⟨T,R,nx⟩ ids).E E'->E'.cS nx->bg.cS nx (St.j8 ⟨T,R,nx⟩ ids).R->Ye P (E'.sub ρ) (bg.res ρ (St.j8 ⟨T,R,nx⟩ ids).R) o C N)->Ye P (E.sub ρ) (bg.res ρ R) o C N
 |[],T,E,R,hh,hE,hR,h=>h E hh hE hR
 |i::ids,T,E,R,hh,hE,hR,h=>by
  have e0:St.j8 ⟨T,R,nx⟩ (i::ids)=(St.K9 ⟨T,R,nx⟩ i).j8 ids:=rfl;rw[e0]at h;have key:∀s:St,s.nx=nx->s=⟨s.E,s.R,nx⟩:=λs hs=>by obtain⟨a,b,c⟩:=s;simp only at hs;rw[hs]
  cases hr:gp R i with
  |none=>
   have e1:St.K9 ⟨T,R,nx⟩ i=⟨T,R,nx⟩:=by unfold St.K9;simp only[hr]
   rw[e1]at h;exact Ye.j8 ids T E R hh hE hR h
  |some rr=>
   cases rr with
   |box T0 cs=>
    have e1:St.K9 ⟨T,R,nx⟩ i=⟨T,R,nx⟩:=by unfold St.K9;simp only[hr]
    rw[e1]at h;exact Ye.j8 ids T E R hh hE hR h
   |row t l=>
    have e1:St.K9 ⟨T,R,nx⟩ i=⟨emap (oq i t l 3) T,(kH i R).map λp=>(p.1,uT i t l p.2),nx⟩:=by unfold St.K9;simp only[hr]
    rw[e1]at h;refine Ye.Vs hr (Ye.j8 ids _ _ _ (λk hk d hd=> ?_) (λp hp=> ?_) (λp hp=> ?_) h)
    ·rw[uG]at hd;obtain⟨d',h1,rfl⟩:=zk.1 hd;rw[eF,hh k hk d' h1];rfl
    ·obtain⟨p',h1,rfl⟩:=zL.1 hp;exact pJ 3 (hE p' h1)
    ·obtain⟨p',h1,rfl⟩:=zL.1 hp;have h2:=CM (id:=i) hR p' h1;refine⟨h2.1,?_⟩;obtain⟨q,rr⟩:=p';cases rr with
     |row t' l'=>trivial
     |box T0 cs=>
      intro c hc;obtain⟨c',h3,rfl⟩:=zL.1 hc;exact pJ 3 (h2.2 c' h3)
end
def evL(sl:aa Nat)(T:ET):Operand->af AV
 | .tmp t=>match dH t sl with
  |true=>cQ T t
  |false=>G
 |x=>Gd T x
def lK(R1:bg)(nx:Nat)(fz:Bool)(e:gd):af (AV×Bool×bg×Nat):=V (match e.vl nx with
 |some d=>d
 |none=> .lit undef,match e with
 | .val _=>fz
 |_=>O,e.R R1 nx,e.nx nx)
def Xi(P:Program)(F:aZ)(o:Oper)(sl:aa Nat)(ids:aa Nat)(s:St):af (AV×Bool×bg×Nat):=St.rec (λE1 R1 nx1=>mN o.op P F (evL sl E1) (gp R1) R1 nx1 (lK R1 nx1 (!ids.isEmpty))) (s.j8 ids)
def aiT(P:Program)(F:aZ)(o:Oper)(sl:aa Nat)(E:ET)(Rl:bg)(nx:Nat):af (AV×Bool×bg×Nat):=Xi P F o sl (iT E o.op) ⟨E,Rl,nx⟩
def YK{α:Type}(P:Program)(F:aZ)(o:Oper)(sl:aa Nat)(ids:aa Nat)(D:AV×Bool×bg×Nat->af α)(s:St):af α:=St.rec (λE1 R1 nx1=>mN o.op P F (evL sl E1) (gp R1) R1 nx1 (λe=>D (match e.vl nx1 with
 |some d=>d
 |none=> .lit undef,match e with
 | .val _=>(!ids.isEmpty)
 |_=>O,e.R R1 nx1,e.nx nx1))) (s.j8 ids)
def GM{α:Type}(P:Program)(F:aZ)(o:Oper)(sl:aa Nat)(E:ET)(Rl:bg)(nx:Nat)(D:AV×Bool×bg×Nat->af α):af α:=YK P F o sl (iT E o.op) D ⟨E,Rl,nx⟩
def FM{α:Type}{P:Program}{F:aZ}(hN:dX F){o:Oper}{sl:aa Nat}{E:ET}{Rl:bg}{nx:Nat}(D:AV×Bool×bg×Nat->af α):(aiT P F o sl E Rl nx).bind D=GM P F o sl E Rl nx D:=by
 unfold aiT GM Xi YK;generalize St.j8 ⟨E,Rl,nx⟩ (iT E o.op)=s1;obtain⟨E1,R1,n1⟩:=s1;exact AQ D hN ..
def TB:∀(ids:aa Nat) (s:St),(s.j8 ids).nx=s.nx
 |[],s=>rfl
 |i::ids,s=>by
  show ((s.K9 i).j8 ids).nx=s.nx;rw[TB ids];unfold St.K9;split<;>rfl
def aea{P:Program}{F:aZ}{o:Oper}{sl:aa Nat}{T:ET}{E:Env}{Rl Lo:bg}{nx nx':Nat}{v:AV}{ef:Bool}(hF:iD P F)(h:aiT P F o sl T Rl nx=V (v,ef,Lo,nx'))(hh:aa3 sl T E)(hE:E.cS nx)(hR:bg.cS nx Rl):
  (∀ρ C,Ye P (E.sub ρ) (bg.res ρ Rl) o C (Nlc nx v Lo ρ))/\(ef=S->∀ρ C,Ye P (E.sub ρ) (bg.res ρ Rl) o C (Nlc nx v Rl ρ)):=by
 unfold aiT Xi at h;generalize hs:St.j8 ⟨T,Rl,nx⟩ (iT T o.op)=s1 at h;have hnx:s1.nx=nx:=by rw[<-hs,TB]
 obtain⟨E1,R1,n1⟩:=s1;simp only at hnx;subst hnx;have h':mN o.op P F (evL sl E1) (gp R1) R1 n1 (lK R1 n1 (!(iT T o.op).isEmpty))=V (v,ef,Lo,nx'):=h;rw[NB]at h';have main:∀ρ C (Ro:bg),(∀e:gd,lK R1 n1 (!(iT T o.op).isEmpty) e=V (v,ef,Lo,nx')->e.R R1 n1=Ro)->Ye P (E.sub ρ) (bg.res ρ Rl) o C (Nlc n1 v Ro ρ):=λρ C Ro hRo=>by
  refine Ye.j8 (sl:=sl) (iT T o.op) T E Rl hh hE hR λE' hh' hE' hR'=> ?_;rw[hs]at hh' hR' ⊢;have hsee:j6 (evL sl E1) (gp R1) n1 E' R1:=⟨λx d hx=>by
   cases x with
   |tmp t=>
    unfold evL at hx;simp only at hx;split at hx
    ·rename_i hm;exact hh' t (fU.1 hm) d hx
    ·cases hx
   |_=>exact hx,λ_ _ h=>h,hE',hR'⟩
  have hst:=G6 (o:=o) hF hsee rfl h' ρ C;intro w ϱ hg hρ;have conv:∀a σ',Nx R1 n1 (lK R1 n1 (!(iT T o.op).isEmpty)) (v,ef,Lo,nx') ρ a σ'->Nlc n1 v Ro ρ a σ':=λa σ' ⟨e,q1,q2,q3,q4,ρ',q5,q6,q7⟩=>by
   refine⟨ρ',q5,?_,by rw[<-hRo e q1];exact q7⟩;unfold lK at q1;simp only[zA.injEq,Prod.mk.injEq]at q1;cases hv:e.vl n1 with
   |some d=>
    rw[hv]at q1 q6;left;rw[q6,<-q1.1];rfl
   |none=>
    rw[hv]at q1 q6;right;exact⟨q6,q1.1.symm⟩
  rcases hst w ϱ hg hρ with ⟨v',w',av,σ',h1,h2,h3,h4⟩|⟨w',σ',h1,h2,h3⟩|⟨f,args,h1,h2⟩
  ·exact .inl ⟨v',w',av,σ',conv _ _ h1,h2,h3,h4⟩
  ·exact .inr (.inl ⟨w',σ',conv _ _ h1,h2,h3⟩)
  ·exact .inr (.inr ⟨f,args,h1,h2.mono λe w' ⟨v',av,σ',q1,q2,q3,q4⟩=>⟨v',av,σ',q1,conv _ _ q2,q3,q4⟩⟩)
 refine⟨λρ C=>main ρ C Lo λe he=> ?_,λhef ρ C=>main ρ C Rl λe he=> ?_⟩
 ·unfold lK at he;simp only[zA.injEq,Prod.mk.injEq]at he;exact he.2.2.1
 ·unfold lK at he;simp only[zA.injEq,Prod.mk.injEq]at he;cases e with
  |val d=>
   have hemp:iT T o.op=[]:=by
    have h2:(!(iT T o.op).isEmpty)=S:=by rw[<-hef];exact he.2.1
    simpa using h2
   rw[hemp]at hs;have:(⟨T,Rl,n1⟩:St)=⟨E1,R1,n1⟩:=hs;exact(St.mk.inj this).2.1.symm
  |_=>exact dD (he.2.1.trans hef) (by simp)
end Go.Iv
end
noncomputable section
namespace Go.Iv
variable [U:qO] [L:mI]
open Go Go.RowKit
def kC(p:Nat->Bool)(n:Nat):AV->Bool:=Nat.rec (λd=>match d with
 | .lit _=>O
 | .sl _ _=>O
 | .rp _ _=>O
 | .own i=>p i
 | .ptr i _=>p i
 | .ra i _ _ _=>p i
 |_=>S) (λ_ ih d=>match d with
 | .lit _=>O
 | .sl _ _=>O
 | .rp _ _=>O
 | .own i=>p i
 | .ptr i _=>p i
 | .ra i _ _ _=>p i
 | .agg cs=>cs.all ih
 | .iR cs=>cs.all ih
 | .fn _ cs=>cs.all ih
 | .fp cs=>cs.all ih) n
def CE{p:Nat->Bool}:∀(n:Nat) {d:AV},kC p n d=O->gX (λi=>p i=O) d
 |0,d,h=>by
  cases d<;>first|exact .lit _|exact .sl _ _|exact .rp _ _|exact .own _ h|exact .ptr _ _ h|exact .ra _ _ _ _ h|(cases h;done)
 |n+1,d,h=>by
  have hL:∀{cs:aa AV},cs.all (kC p n)=O->∀c∈cs,gX (λi=>p i=O) c:=λh c hc=>CE n (zw.1 h c hc);cases d<;>first|exact .lit _|exact .sl _ _|exact .rp _ _|exact .own _ h|exact .ptr _ _ h|exact .ra _ _ _ _ h|exact .agg _ (hL h)|exact .iR _ (hL h)|exact .fn _ _ (hL h)|exact .fp _ (hL h)
def H8{p:Nat->Prop}:∀(n:Nat) {d:AV},gX p d->∀i∈ki n d,p i
 |0,d,h,i,hi=>by
  cases h<;>simp only[ki,zy,List.not_mem_nil]at hi<;>(subst hi;assumption)
 |n+1,d,h,i,hi=>by
  have hL:∀{cs:aa AV},(∀c∈cs,gX p c)->i∈cs.flatMap (ki n)->p i:=λh hi=>by
   obtain⟨c,h1,h2⟩:=xP.1 hi;exact H8 n (h c h1) i h2
  cases h with
  |agg cs h=>exact hL h hi
  |iR cs h=>exact hL h hi
  |fn f cs h=>exact hL h hi
  |own id h=>simp only[ki,zy]at hi;rw[hi];exact h
  |ptr id off h=>simp only[ki,zy]at hi;rw[hi];exact h
  |ra id t m off h=>simp only[ki,zy]at hi;rw[hi];exact h
  |_=>simp[ki]at hi
def EK(sl:aa Nat)(T:ET):aa Nat:=sl.flatMap λt=>match cQ T t with
 |some d=>ki 3 d
 |none=>[]
def aaf(R:bg):aa Nat:=R.flatMap λq=>q.1::match q.2 with
 | .box _ cs=>cs.flatMap (ki 3)
 | .row _ _=>[]
def acp(al:aa Nat)(nx nx' i:Nat):Bool:=dH i al||(yl nx i&&zG i nx')
def okR(al:aa Nat)(nx nx':Nat)(R:bg):Bool:=R.all λq=>acp al nx nx' q.1&&match q.2 with
 | .box _ cs=>cs.all (kC (acp al nx nx') 3)
 | .row _ _=>O
def Kx{al:aa Nat}{nx nx' i:Nat}(h:acp al nx nx' i=O):i∈al\/(nx<=i/\i<nx'):=by
 unfold acp at h;simp only[yM,zi,Nat.ble_eq,yC]at h;exact h.imp fU.1 id
def anY{al:aa Nat}{nx nx':Nat}{R:bg}(h:okR al nx nx' R=O):bg.gX (λi=>i∈al\/(nx<=i/\i<nx')) R:=λq hq=>by
 have:=zw.1 h q hq;simp only[zi]at this;refine⟨Kx this.1,?_⟩;obtain⟨i,r⟩:=q;cases r with
 |row t l=>trivial
 |box T cs=>exact λc hc=>(CE 3 (zw.1 this.2 c hc)).mono λi hi=>Kx hi
def aAj(o:Op):Bool:=match o with
 | .move _=>S
 | .assign _=>S
 | .pick _ _ _=>S
 | .unOp _ _ _=>S
 | .nilCheck _=>S
 | .fieldAddr _ _ _=>S
 | .extract _ _=>S
 | .makeFunc _ _ _=>S
 | .alloc _=>S
 |_=>O
def ZH(o:Op):Bool:=match o with
 | .call {callee:= .value _, ..}=>O
 |_=>S
def pT(ops:Array Oper)(o:Oper)(E:ET)(R:bg):aa Nat:=match aAj o.op with
 |false=>[]
 |true=>match ZH o.op with
  |false=>EK (dw ops o) E
  |true=>reach R 3 (EK (dw ops o) E)
def inQ(rd:aa Nat)(R:bg):bg:=match rd with
 |[]=>[]
 |rd=>cC rd R
def Yx(rd:aa Nat)(R:bg):inQ rd R=cC rd R:=by
 cases rd with
 |nil=>exact(List.filter_eq_nil_iff.2 λp _=>by simp[dH]).symm
 |cons a l=>rfl
def rcB(ops:Array Oper)(o:Oper)(E:ET)(Rl:bg)(nx:Nat)(v:AV)(ef:Bool)(Lo:bg)(nx':Nat):Bool:=(λal=>yl nx nx'&&(!ef||efk o)&&kC (acp al nx nx') 4 v&&(!ef||okR al nx nx' Lo)) (EK (dw ops o) E++aaf Rl)
def ahv(e:AV->AV->Bool)(l:aa AV):aa AV->Bool:=List.rec (λm=>match m with
 |[]=>O
 |_=>S) (λa _ ih m=>match m with
 |b::m=>e a b&&ih m
 |[]=>S) l
def anT(ih:AV->AV->Bool)(a b:AV):Bool:=match a,b with
 | .own i, .own j=>zf i j
 | .ptr i o, .ptr j p=>zf i j&&zf o p
 | .fn (.func f) cs, .fn (.func g) ds=>zf f g&&ahv ih cs ds
 |_,_=>S
def eqA(n:Nat):AV->AV->Bool:=Nat.rec (λ_ _=>S) (λ_ ih=>anT ih) n
def asE(a b:IR):Bool:=match a,b with
 | .box T cs, .box T' ds=>zf T T'&&ahv (eqA 2) cs ds
 |_,_=>S
def YV(l:bg):bg->Bool:=List.rec (λm=>match m with
 |[]=>O
 |_=>S) (λa _ ih m=>match m with
 |b::m=>zf a.1 b.1&&asE a.2 b.2&&ih m
 |[]=>S) l
def KG{e:AV->AV->Bool}(he:∀a b,e a b=O->a=b):∀{l m:aa AV},ahv e l m=O->l=m
 |[],[],_=>rfl
 |[],_::_,h=>by cases h
 |_::_,[],h=>by cases h
 |a::l,b::m,h=>by
  change (e a b&&ahv e l m)=O at h;rw[zi]at h;rw[he a b h.1,KG he h.2]
def YB:∀(n:Nat) {a b:AV},eqA n a b=O->a=b
 |0,a,b,h=>by cases h
 |n+1,a,b,h=>by
  change anT (eqA n) a b=O at h;unfold anT at h;split at h
  ·rw[gz h]
  ·rw[zi]at h;rw[gz h.1,gz h.2]
  ·rw[zi]at h;rw[gz h.1,KG (λa b=>YB n) h.2]
  ·cases h
def LH:∀{l m:bg},YV l m=O->l=m
 |[],[],_=>rfl
 |[],_::_,h=>by cases h
 |_::_,[],h=>by cases h
 |(i,a)::l,(j,b)::m,h=>by
  change (zf i j&&asE a b&&YV l m)=O at h;simp only[zi]at h;have h1:=gz h.1.1;subst h1;have h2:=h.1.2;unfold asE at h2;split at h2
  ·rw[zi]at h2;rw[gz h2.1,KG (λa b=>YB 2) h2.2,LH h.2]
  ·cases h2
def trim(K rd:aa Nat)(Rl Lo:bg):aa Nat×bg:=match K.filter λi=>dH i rd with
 |[]=>(rd,Lo)
 |k::K=>match YV (cC (k::K) Lo) (cC (k::K) Rl)with
  |true=>(rd.filter λi=> !dH i (k::K),gT (k::K) Lo)
  |false=>(rd,Lo)
def aei(K rd:aa Nat)(R Lo:bg):(∀i∈(trim K rd (cC rd R) Lo).1,i∈rd)/\(∀q∈(trim K rd (cC rd R) Lo).2,q∈Lo)/\List.Perm Lo ((trim K rd (cC rd R) Lo).2++gT (trim K rd (cC rd R) Lo).1 (cC rd R)):=by
 have h0:gT rd (cC rd R)=[]:=List.filter_eq_nil_iff.2 λp hp=>by
  have:dH p.1 rd=O:=(zZ.1 hp).2;rw[this];simp
 have triv:(∀i∈rd,i∈rd)/\(∀q∈Lo,q∈Lo)/\List.Perm Lo (Lo++gT rd (cC rd R)):=⟨λ_ h=>h,λ_ h=>h,by rw[h0,yy]⟩;unfold trim;split
 ·exact triv
 ·rename_i k K' hK;split
  case h_2=>exact triv
  rename_i he;have he:=LH he;refine⟨λi hi=>(zZ.1 hi).1,λq hq=>(zZ.1 hq).1,?_⟩;have e1:gT (rd.filter λi=> !dH i (k::K')) (cC rd R)=cC (k::K') (cC rd R):=by
   unfold gT cC;refine wk λp hp=> ?_;have hp:dH p.1 rd=O:=(zZ.1 hp).2;cases hm:dH p.1 (k::K')with
   |true=>
    rw[iY.2 λhx=> ?_];rfl;have:=(zZ.1 hx).2;rw[hm]at this;cases this
   |false=>
    rw[fU.2 (zZ.2 ⟨fU.1 hp,by rw[hm];rfl⟩)];rfl
  show List.Perm Lo (gT (k::K') Lo++gT (rd.filter λi=> !dH i (k::K')) (cC rd R));rw[e1,<-he];exact(List.perm_append_comm.trans (List.filter_append_perm _ _)).symm
def partner(ops:Array Oper)(ps:aa (Nat×Nat))(i:Nat):aa Nat:=ps.flatMap λp=>match zf p.1 i with
 |true=>match ops[p.2]? with
  |some o=>match ZH o.op with
   |true=>[]
   |false=>dw ops o
  |none=>[]
 |false=>match zf p.2 i with
  |true=>match ops[p.1]? with
   |some o=>match ZH o.op with
    |true=>[]
    |false=>dw ops o
   |none=>[]
  |false=>[]
def Yq(ops:Array Oper)(ps:aa (Nat×Nat))(cs:aa Rc)(E:ET):aa Nat:=match ps with
 |[]=>[]
 |p::ps=>EK (partner ops (p::ps) cs.length) E
def dK2(o:Oper)(sl:aa Nat)(cs:aa Rc)(rd:aa Nat)(E:ET)(R:bg){α:Type}(ih:aa Rc->St->(aa Rc->St->af α)->af α)(k:aa Rc->St->af α)(v:AV)(ef:Bool)(nx':Nat)(t:aa Nat×bg):af α:=
 ih (cs++[⟨o.dst,v,sl,rd,t.1,ef,t.2⟩]) ⟨rQ o.dst v E,match ef with
  |true=>t.2++gT t.1 R
  |false=>R,nx'⟩ k
def dK(ops:Array Oper)(ps:aa (Nat×Nat))(o:Oper)(cs:aa Rc)(rd:aa Nat)(E:ET)(R Rl:bg)(nx:Nat){α:Type}(ih:aa Rc->St->(aa Rc->St->af α)->af α)(k:aa Rc->St->af α)(x:AV×Bool×bg×Nat):af α:=
 match rcB ops o E Rl nx x.1 x.2.1 x.2.2.1 x.2.2.2 with
 |true=>dK2 o (dw ops o) cs rd E R ih k x.1 x.2.1 x.2.2.2 (trim (Yq ops ps cs E) rd Rl x.2.2.1)
 |false=>G
def aup{α:Type}(P:Program)(F:aZ)(ops:Array Oper)(ps:aa (Nat×Nat))(o:Oper)(ih:aa Rc->St->(aa Rc->St->af α)->af α)(cs:aa Rc)(k:aa Rc->St->af α)(E:ET)(R:bg)(nx:Nat)(rd:aa Nat)(Rl:bg):af α:=
 GM P F o (dw ops o) E Rl nx (dK ops ps o cs rd E R Rl nx ih k)
def aE0{α:Type}(P:Program)(F:aZ)(ops:Array Oper)(ps:aa (Nat×Nat))(o:Oper)(ih:aa Rc->St->(aa Rc->St->af α)->af α)(cs:aa Rc)(k:aa Rc->St->af α)(s:St):af α:=
 St.rec (λE R nx=>(λrd=>aup P F ops ps o ih cs k E R nx rd (inQ rd R)) (pT ops o E R)) s
def dNo{α:Type}(ops:Array Oper)(o:Oper)(ih:aa Rc->St->(aa Rc->St->af α)->af α)(cs:aa Rc)(k:aa Rc->St->af α)(s:St):af α:=
 ih (cs++[⟨o.dst, .lit undef,dw ops o,[],[],S,[]⟩]) ⟨rQ o.dst (.lit undef) s.E,s.R,s.nx⟩ k
def WW{α:Type}(P:Program)(F:aZ)(n:Nat)(ops:Array Oper)(ps:aa (Nat×Nat))(o:Oper)(ih:aa Rc->St->(aa Rc->St->af α)->af α)(cs:aa Rc)(s:St)(k:aa Rc->St->af α):af α:=match MX n o.dst with
 |true=>gate ops o s (aE0 P F ops ps o ih cs k) (dNo ops o ih cs k)
 |false=>G
def Xd{α:Type}(P:Program)(F:aZ)(n:Nat)(ops:Array Oper)(ps:aa (Nat×Nat))(l:aa Oper):aa Rc->St->(aa Rc->St->af α)->af α:=List.rec (λcs s k=>k cs s) (λo _ ih=>WW P F n ops ps o ih) l
def abp(l:aa Oper):Nat->Bool:=List.rec (λ_=>O) (λo _ ih i=>(o.after.toList.all λe=> !Region.binds .any e||zG e.on i)&&ih (i+1)) l
def LN:∀{l:aa Oper} {k:Nat},abp l k=O->∀(i:Nat) o,l[i]? =V o->∀e∈o.after.toList,Region.binds .any e=O->e.on<k+i
 |[],k,_,i,o,h,_,_,_=>by cases h
 |o0::l,k,hb,i,o,h,e,he,hbe=>by
  change ((o0.after.toList.all λe=> !Region.binds .any e||zG e.on k)&&abp l (k+1))=O at hb;simp only[zi]at hb;cases i with
  |zero=>
   cases h;have:=zw.1 hb.1 e he;rw[hbe]at this;simpa [yC]using this
  |succ i=>
   have:=LN hb.2 i o h e he hbe;omega
def Hq{α:Type}(P:Program)(F:aZ)(n:Nat)(ops:Array Oper)(s:St)(k:St->af α):af α:=match P.follows .mixedOrders&&abp ops.toList 0 with
 |true=>match plan ops with
  |some ps=>Xd P F n ops ps ops.toList [] s λcs s'=>match ZI ps cs with
   |true=>k s'
   |false=>G
  |none=>G
 |false=>G
def Ga(ops:Array Oper)(o:Oper)(f:Fr)(wn:Bool):Prop:=match o.guard with
 |none=>wn=O
 |some (j,want)=>∃t,(ops[j]?).bind (·.dst)=V t/\((∃b,f t=V (.lit (.bool b))/\wn=(b==want))\/(∃vs,f t=V (.lit (.tuple vs))/\wn=S))
structure Bb (P:Program) (n:Nat) (ops:Array Oper) (o:Oper) (f:Fr) (R:bg) (nx:Nat) (c:Rc) (nx':Nat):Prop where
 dst:c.dst=o.dst
 sl:c.sl=dw ops o
 ef:c.ef=O->efk o=O
 dn:MX n o.dst=O
 le:nx<=nx'
 run:(Ga ops o f S/\c.v= .lit undef/\c.ef=S)\/(Ga ops o f O/\∀ρ C,Ye P ((u5 f c.sl).sub ρ) (bg.res ρ (cC c.rd R)) o C (Nlc nx c.v (match c.ef with|O=>c.Lo++gT c.wr (cC c.rd R)|S=>cC c.rd R) ρ))
 wr:∀i∈c.wr,i∈c.rd
 lin:bg.cS nx (cC c.rd R)
 lv:cS nx' c.v
 lo:c.ef=O->bg.cS nx' c.Lo
 ids:∀p:Nat->Prop,(∀t∈c.sl,∀d,f t=V d->gX p d)->bg.gX p (cC c.rd R)->gX (λi=>p i\/(nx<=i/\i<nx')) c.v/\(c.ef=O->bg.gX (λi=>p i\/(nx<=i/\i<nx')) c.Lo)
inductive Ch (P:Program) (n:Nat) (ops:Array Oper):Fr->bg->Nat->List Oper->List Rc->Fr->bg->Nat->Prop
 |nil (f:Fr) (R:bg) (nx:Nat):Ch P n ops f R nx [] [] f R nx
 |cons {f f':Fr} {R R':bg} {nx nx1 nx':Nat} {o:Oper} {os:List Oper} {c:Rc} {cs:List Rc} (h:Bb P n ops o f R nx c nx1) (hs:Ch P n ops (c.F f) (c.R R) nx1 os cs f' R' nx'):Ch P n ops f R nx (o::os) (c::cs) f' R' nx'
def ao5{α:Type}{r:α}{ops:Array Oper}{o:Oper}{s:St}{yes no:St->af α}(h:gate ops o s yes no=V r){f:Fr}(hf:∀t d,cQ s.E t=V d->f t=V d):∃s':St,s'.R=s.R/\s'.nx=s.nx/\(∀t d,cQ s'.E t=V d->f t=V d)/\
  ((Ga ops o f O/\yes s'=V r)\/(Ga ops o f S/\no s'=V r)):=by
 unfold gate at h;unfold Ga;split at h
 ·rename_i hg;exact⟨s,rfl,rfl,hf, .inl ⟨by first|rw[hg]|rfl,h⟩⟩
 ·rename_i j want hg;split at h
  ·cases h
  ·rename_i t hj;have hput:∀b,cQ s.E t=V (.lit (.bool b))->∀k d,cQ (s.fW t b).E k=V d->f k=V d:=λb hb k d hk=>by
    have hk':cQ (mE t (.b b) s.E) k=V d:=hk;rcases o9 hk' with ⟨rfl,rfl⟩|⟨_,h2⟩
    ·exact hf _ _ hb
    ·exact hf k d h2
   split at h
   ·rename_i b hb;have hfb:=hf _ _ hb;split at h
    ·split at h
     ·exact⟨s.fW t O,rfl,rfl,hput _ hb, .inl ⟨by(try rw[hg]);exact⟨t,hj, .inl ⟨_,hfb,rfl⟩⟩,h⟩⟩
     ·exact⟨s.fW t O,rfl,rfl,hput _ hb, .inr ⟨by(try rw[hg]);exact⟨t,hj, .inl ⟨_,hfb,rfl⟩⟩,h⟩⟩
    ·split at h
     ·exact⟨s.fW t S,rfl,rfl,hput _ hb, .inr ⟨by(try rw[hg]);exact⟨t,hj, .inl ⟨_,hfb,rfl⟩⟩,h⟩⟩
     ·exact⟨s.fW t S,rfl,rfl,hput _ hb, .inl ⟨by(try rw[hg]);exact⟨t,hj, .inl ⟨_,hfb,rfl⟩⟩,h⟩⟩
   ·rename_i vs hb;exact⟨s,rfl,rfl,hf, .inr ⟨by(try rw[hg]);exact⟨t,hj, .inr ⟨_,hf _ _ hb,rfl⟩⟩,h⟩⟩
   ·cases h
def Y9{dst:af Nat}{v:AV}{E:ET}{f:Fr}{c:Rc}(hc:c.dst=dst)(hv:c.v=v)(hf:∀t d,cQ E t=V d->f t=V d):∀t d,cQ (rQ dst v E) t=V d->c.F f t=V d:=λt d h=>by
 unfold rQ at h;unfold Rc.F;rw[hc,hv];cases dst with
 |none=>simpa using hf t d h
 |some s=>
  rcases o9 h with ⟨rfl,rfl⟩|⟨h1,h2⟩
  ·rw[bE rfl]
  ·rw[bO (λe=>h1 (zA.inj e))];exact hf t d h2
def Ye.mono{P:Program}{C:Cx}{E:Env}{σ:aa cE}{o:Oper}{N N':af AV->aa cE->Prop}(h:Ye P E σ o C N)(hN:∀a σ',N a σ'->N' a σ'):Ye P E σ o C N':=λw ϱ hg hρ=>by
 rcases h w ϱ hg hρ with ⟨v,w',av,σ',h1,h2,h3⟩|⟨w',σ',h1,h2,h3⟩|⟨f,args,h1,h2⟩
 ·exact .inl ⟨v,w',av,σ',hN _ _ h1,h2,h3⟩
 ·exact .inr (.inl ⟨w',σ',hN _ _ h1,h2,h3⟩)
 ·exact .inr (.inr ⟨f,args,h1,Calls.mono h2 λe w' ⟨v,av,σ',q1,q2,q3⟩=>⟨v,av,σ',q1,hN _ _ q2,q3⟩⟩)
def Qx{α:Type}{r:α}{P:Program}{F:aZ}{n:Nat}{ops:Array Oper}{ps:aa (Nat×Nat)}(hF:iD P F)(hN:dX F){k:aa Rc->St->af α}:∀(l:aa Oper) {cs:aa Rc} {s:St} {f:Fr},Xd P F n ops ps l cs s k=V r->(∀t d,cQ s.E t=V d->f t=V d)->(∀t d,f t=V d->cS s.nx d)->bg.cS s.nx s.R->
  ∃(cs':aa Rc) (s':St) (f':Fr),k (cs++cs') s'=V r/\Ch P n ops f s.R s.nx l cs' f' s'.R s'.nx/\(∀t d,cQ s'.E t=V d->f' t=V d)
 |[],cs,s,f,h,hf,_,_=>⟨[],s,f,by rw[yy];exact h, .nil f s.R s.nx,hf⟩
 |o::l,cs,s,f,h,hf,hfl,hR=>by
  change WW P F n ops ps o (Xd P F n ops ps l) cs s k=V r at h;unfold WW at h;split at h
  case h_2=>cases h
  rename_i hd;obtain⟨s1,e1,e2,hf1,⟨hg,h1⟩|⟨hg,h1⟩⟩:=ao5 h hf
  ·obtain⟨E,R,nx⟩:=s1;obtain⟨E0,R0,nx0⟩:=s;simp only at e1 e2 hf1;subst e1 e2;change GM P F o (dw ops o) E (inQ (pT ops o E R) R) nx (dK ops ps o cs (pT ops o E R) E R (inQ (pT ops o E R) R) nx (Xd P F n ops ps l) k)=V r at h1;rw[<-FM hN]at h1;generalize hrd:pT ops o E R=rd at h1;obtain⟨⟨v,ef,Lo,nx'⟩,h2,h3⟩:=zq.1 h1;unfold dK at h3;split at h3
   case h_2=>cases h3
   rename_i hb;rw[Yx]at h2 hb;simp only at h3 hb;unfold rcB at hb;simp only[zi,Nat.ble_eq,yM,Bool.not_eq_true']at hb;obtain⟨⟨⟨hb1,hb2⟩,hb3⟩,hb4⟩:=hb;have hin:bg.cS nx (cC rd R):=λq hq=>hR q (zZ.1 hq).1;have hlE:(u5 f (dw ops o)).cS nx:=λq hq=>by
    obtain⟨t,_,ht⟩:=List.mem_filterMap.1 hq;obtain⟨d,hd1,hd2⟩:=zk.1 ht;rw[<-hd2];exact hfl t d hd1
   obtain⟨y1,y2⟩:=aea hF h2 (E:=u5 f (dw ops o)) (λt ht d hdd=>Jj ht (hf1 t d hdd)) hlE hin;have hal:∀p:Nat->Prop,(∀t∈dw ops o,∀d,f t=V d->gX p d)->bg.gX p (cC rd R)->∀i∈EK (dw ops o) E++aaf (cC rd R),p i:=λp hp1 hp2 i hi=>by
    rcases zW.1 hi with hi|hi
    ·obtain⟨t,ht,hi⟩:=xP.1 hi;split at hi
     ·rename_i d hdd;exact H8 3 (hp1 t ht d (hf1 t d hdd)) i hi
     ·cases hi
    ·obtain⟨q,hq,hi⟩:=xP.1 hi;obtain⟨g1,g2⟩:=hp2 q hq;rcases zD.1 hi with rfl|hi
     ·exact g1
     ·obtain⟨j,rr⟩:=q;cases rr with
      |row t l=>cases hi
      |box T cs=>
       obtain⟨c,hc,hi⟩:=xP.1 hi;exact H8 3 (g2 c hc) i hi
   obtain⟨t1,t2,t3⟩:=aei (Yq ops ps cs E) rd R Lo;rw[Yx]at h3;generalize trim (Yq ops ps cs E) rd (cC rd R) Lo=tr at h3 t1 t2 t3;obtain⟨wr,Lo'⟩:=tr;simp only at t1 t2 t3;have hids:∀p:Nat->Prop,(∀t∈dw ops o,∀d,f t=V d->gX p d)->bg.gX p (cC rd R)->gX (λi=>p i\/(nx<=i/\i<nx')) v/\(ef=O->bg.gX (λi=>p i\/(nx<=i/\i<nx')) Lo'):=λp hp1 hp2=>
    ⟨(CE 4 hb3).mono λi hi=>(Kx hi).imp (hal p hp1 hp2 i) id,λhe q hq=>((anY (hb4.resolve_left (by rw[he];simp))).mono λi hi=>hi.imp (hal p hp1 hp2 i) id) q (t2 q hq)⟩
   obtain⟨g1,g2⟩:=hids (λi=>i<nx) (λt _ d hdd=>hfl t d hdd) hin.lts;have hlt:∀i,(i<nx\/(nx<=i/\i<nx'))->i<nx':=λi hi=>by omega
   have hfact:Bb P n ops o f R nx ⟨o.dst,v,dw ops o,rd,wr,ef,Lo'⟩ nx':=⟨rfl,rfl,λhe=>hb2.resolve_left (by simp only at he;rw[he];simp),hd,hb1, .inr ⟨hg,λρ C=>by
     cases ef with
     |true=>exact Ye.mono (y1 ρ C) λa σ' ⟨ρ',z1,z2,z3⟩=>⟨ρ',z1,z2,z3.trans (qF t3)⟩
     |false=>exact y2 rfl ρ C⟩,t1,hin,g1.mono hlt,λhe=>(bg.gX.mono (g2 he) hlt).qT,hids⟩
   have hR':bg.cS nx' (Rc.R ⟨o.dst,v,dw ops o,rd,wr,ef,Lo'⟩ R):=by
    unfold Rc.R;cases ef with
    |false=>exact hR.mono hb1
    |true=>exact λq hq=>(zW.1 hq).elim (λhq=>((bg.gX.mono (g2 rfl) hlt).qT) q hq) λhq=>(hR.mono hb1) q (zZ.1 hq).1
   have h4:Xd P F n ops ps l (cs++[⟨o.dst,v,dw ops o,rd,wr,ef,Lo'⟩]) ⟨rQ o.dst v E,Rc.R ⟨o.dst,v,dw ops o,rd,wr,ef,Lo'⟩ R,nx'⟩ k=V r:=h3;obtain⟨cs',s',f',q1,q2,q3⟩:=Qx hF hN l (f:=Rc.F ⟨o.dst,v,dw ops o,rd,wr,ef,Lo'⟩ f) h4 (Y9 rfl rfl hf1) (λt d hdd=>by
    unfold Rc.F at hdd;split at hdd
    ·cases hdd;exact g1.mono hlt
    ·exact cS.mono (hfl t d hdd) hb1) hR'
   exact⟨_::cs',s',f',by simpa using q1, .cons hfact q2,q3⟩
  ·obtain⟨E,R,nx⟩:=s1;obtain⟨E0,R0,nx0⟩:=s;simp only at e1 e2 hf1;subst e1 e2;have hin:bg.cS nx (cC [] R):=λq hq=>hR q (zZ.1 hq).1;have hfact:Bb P n ops o f R nx ⟨o.dst, .lit undef,dw ops o,[],[],false,[]⟩ nx:=⟨rfl,rfl,λh=>(by cases h),hd,zn _, .inl ⟨hg,rfl,rfl⟩,λ_ h=>(by cases h),hin, .lit _,λh=>(by cases h),λp _ _=>⟨.lit _,λh=>(by cases h)⟩⟩;have h2:Xd P F n ops ps l (cs++[⟨o.dst, .lit undef,dw ops o,[],[],S,[]⟩]) ⟨rQ o.dst (.lit undef) E,R,nx⟩ k=V r:=h1;obtain⟨cs',s',f',q1,q2,q3⟩:=Qx hF hN l (f:=Rc.F ⟨o.dst, .lit undef,dw ops o,[],[],S,[]⟩ f) h2 (Y9 rfl rfl hf1) (λt d hdd=>by
    unfold Rc.F at hdd;split at hdd
    ·cases hdd;exact .lit _
    ·exact hfl t d hdd) hR
   exact⟨_::cs',s',f',by simpa using q1, .cons hfact q2,q3⟩
end Go.Iv
end
noncomputable section
namespace Go.Iv
variable [U:qO] [L:mI]
open Go Go.RowKit
section
variable {P:Program} {n:Nat} {ops:Array Oper}
def Ch.idx{f f':Fr}{R R':bg}{nx nx':Nat}{os:aa Oper}{cs:aa Rc}(h:Ch P n ops f R nx os cs f' R' nx'):cs.length=os.length/\f'=gM cs (zl cs.length O) f/\R'=gR cs (zl cs.length O) R/\
  ∃g:Nat->Nat,g 0=nx/\g os.length=nx'/\(∀i,i<os.length->g i<=g (i+1))/\∀(i:Nat) o c,os[i]? =V o->cs[i]? =V c->Bb P n ops o (gM (cs.take i) (zl i O) f) (gR (cs.take i) (zl i O) R) (g i) c (g (i+1)):=by
 induction h with
 |nil f R nx=>exact⟨rfl,rfl,rfl,λ_=>nx,rfl,rfl,λi hi=>by simp at hi,λi o c h=>by cases h⟩
 |@cons f f' R R' nx nx1 nx' o os c cs h hs ih=>
  obtain⟨h1,h2,h3,g,g0,g1,g2,g3⟩:=ih;refine⟨by simp[h1],by rw[h2];rfl,by rw[h3];rfl,λi=>match i with|0=>nx|i+1=>g i,rfl,g1,λi hi=> ?_,λi o' c' q1 q2=> ?_⟩
  ·cases i with
   |zero=>show nx<=g 0;rw[g0];exact h.le
   |succ i=>exact g2 i (by simpa using hi)
  ·cases i with
   |zero=>cases q1;cases q2;show Bb P n ops o f R nx c (g 0);rw[g0];exact h
   |succ i=>exact g3 i o' c' q1 q2
def aaQ{g:Nat->Nat}{N:Nat}(h:∀i,i<N->g i<=g (i+1)):∀i j,i<=j->j<=N->g i<=g j:=λi j hij hj=>by
 induction j with
 |zero=>
  have:i=0:=by omega
  subst this;exact zn _
 |succ j ih=>
  by_cases hi:i=j+1
  ·subst hi;exact zn _
  ·exact zK (ih (by omega) (by omega)) (h j (by omega))
def qc:aa Bool->Nat
 |[]=>0
 |b::bs=>(match b with|O=>0|S=>1)+qc bs
def NJ:∀{bs:aa Bool} {i:Nat},bs[i]? =V S->qc bs=qc (bs.set i O)+1
 |[],_,h=>by cases h
 |b::bs,0,h=>by
  simp only[List.getElem?_cons_zero,zA.injEq]at h;subst h;show 1+qc bs=(0+qc bs)+1;omega
 |b::bs,i+1,h=>by
  have:=NJ (bs:=bs) (i:=i) (by simpa using h);cases b with
  |true=>
   show 0+qc bs=(0+qc (bs.set i O))+1;omega
  |false=>
   show 1+qc bs=(1+qc (bs.set i O))+1;omega
def L0:∀N:Nat,qc (zl N S)=N
 |0=>rfl
 |N+1=>by rw[yP];show 1+qc (zl N S)=N+1;rw[L0 N];omega
def GU:∀{bs:aa Bool},qc bs=0->bs=zl bs.length O
 |[],_=>rfl
 |b::bs,h=>by
  cases b with
  |true=>rw[yN,yP,<-GU (bs:=bs) (by have:0+qc bs=0:=h;omega)]
  |false=>have:1+qc bs=0:=h;omega
def L3:∀{bs:aa Bool},qc bs≠0->∃i:Nat,bs[i]? =V S/\∀j,j<i->bs[j]? =V O
 |[],h=>dD rfl h
 |b::bs,h=>by
  cases b with
  |false=>exact⟨0,rfl,λj hj=>by omega⟩
  |true=>
   obtain⟨i,h1,h2⟩:=L3 (bs:=bs) (λe=>h (by show 0+qc bs=0;omega));refine⟨i+1,h1,λj hj=> ?_⟩;cases j with
   |zero=>rfl
   |succ j=>exact h2 j (by omega)
def mem_ready{listed:Array Bool}{i:Nat}:i∈Region.ready .any ops listed↔i<ops.size/\listed.getD i O=S/\∃o,ops[i]? =V o/\∀e∈o.after.toList,Region.binds .any e=O->listed.getD e.on S=O:=by
 unfold Region.ready;simp only[zZ,List.mem_range,zi,Bool.not_eq_true'];refine and_congr_right λhi=>and_congr_right λ_=> ?_;rw[xK hi];simp only[yx,Option.getD_some,zA.injEq,exists_eq_left'];rw[Array.all_eq_true'];constructor
 ·intro h e he hb;have:=h e (by simpa using he);rw[hb]at this;simpa using this
 ·intro h e he;cases hb:Region.binds .any e with
  |false=>rfl
  |true=>simpa using h e (by simpa using he) hb
def AX{listed:Array Bool}{i:Nat}(hi:i<listed.size):listed.getD i O=S↔listed.toList[i]? =V S:=by
 rw[Array.getD_eq_getD_getElem?,xK hi,zu (by simpa using hi)];simp
def El{listed:Array Bool}{i:Nat}:listed.getD i S=O↔listed.toList[i]? =V O:=by
 rw[Array.getD_eq_getD_getElem?];cases h:listed[i]? with
 |none=>simp[h]
 |some b=>simp[h]
def ao0{C:Cg}{cs:aa Rc}{f0:Fr}{R0:bg}{nx0:Nat}{g:Nat->Nat}{ds:aa Deferred}{Q:Exit->Act->World->Prop}
  (hlen:cs.length=ops.size) (g0:g 0=nx0) (gn:C.n<=nx0) (g2:∀i,i<ops.size->g i<=g (i+1)) (hf:∀(i:Nat) o c,ops.toList[i]? =V o->cs[i]? =V c->Bb P n ops o (gM (cs.take i) (zl i O) f0) (gR (cs.take i) (zl i O) R0) (g i) c (g (i+1)))
  (hcf:∀(i j:Nat) (c d:Rc),j<i->cs[j]? =V c->cs[i]? =V d->CF c d\/∀bs,CY ops.toList bs->(∀o,ops.toList[i]? =V o->Rdy bs o)->bs[j]? =V O)
  (hback:∀(i:Nat) o,ops.toList[i]? =V o->∀e∈o.after.toList,Region.binds .any e=O->e.on<i)
  (hQ:∀a w,a.defers=ds->MtS C n (λi=>i<g ops.size) (gM cs (zl cs.length O) f0) (gR cs (zl cs.length O) R0) a w->Q .normal a w):
  ∀(fuel:Nat) (listed:Array Bool) (a:Act) (w:World),listed.size=ops.size->qc listed.toList=fuel->CY ops.toList listed.toList->a.defers=ds->
   MtS C n (λx=>x<nx0\/∃j:Nat,listed.toList[j]? =V O/\g j<=x/\x<g (j+1)) (gM cs listed.toList f0) (gR cs listed.toList R0) a w->wpAny P .any ops Q fuel listed a w:=by
 have hmono:=aaQ (N:=ops.size) (g:=g) g2;intro fuel;induction fuel with
 |zero=>
  intro listed a w hs hc hcl hda hm;have hall:=GU hc;have hfin:Q .normal a w:=by
   refine hQ a w hda ?_;rw[hall,show listed.toList.length=cs.length from by rw[hlen,<-hs];simp]at hm;obtain⟨E,ρ,q1,q2,q3,q5,q4⟩:=hm;have hle:∀i,(i<nx0\/∃j:Nat,(zl cs.length O)[j]? =V O/\g j<=i/\i<g (j+1))->i<g ops.size:=λi hi=>by
    rcases hi with hi|⟨j,hj,_,hj3⟩
    ·have:=hmono 0 ops.size (yT _) (zn _);omega
    ·have hj':j<cs.length:=by simpa using (z7.1 hj).1
     have:=hmono (j+1) ops.size (by omega) (zn _);omega
   exact⟨E,ρ,q1,λq hq=>(q2 q hq).mono hle,q3.mono hle,q5,q4⟩
  refine⟨?_,hfin⟩;rw[List.eq_nil_iff_forall_not_mem];intro i hi;obtain⟨h1,h2,_⟩:=mem_ready.1 hi;rw[AX (by omega),hall,wR]at h2;split at h2<;>cases h2
 |succ fuel ih=>
  intro listed a w hs hc hcl hda hm;refine⟨λhr=> ?_,λi hi=> ?_⟩
  ·
   exfalso;obtain⟨i,h1,h2⟩:=L3 (bs:=listed.toList) (by omega);have hil:i<listed.size:=by simpa using (z7.1 h1).1
   have hio:i<ops.size:=by omega
   have:i∈Region.ready .any ops listed:=mem_ready.2 ⟨hio,(AX hil).2 h1,ops[i],xK hio,λe he hb=>El.2 (h2 _ (hback i ops[i] (by simp[hio]) e he hb))⟩;rw[hr]at this;cases this
  ·obtain⟨hio,h2,o,ho,hrd⟩:=mem_ready.1 hi;have hil:i<listed.size:=by omega
   have hbi:=(AX hil).1 h2;have hol:ops.toList[i]? =V o:=by simpa using ho
   have hRdy:Rdy listed.toList o:=λe he hb=>El.1 (hrd e he hb);obtain⟨c,hci⟩:∃c,cs[i]? =V c:=⟨_,zu (by omega)⟩;have fact:=hf i o c hol hci;obtain⟨s1,s2,s3,s4⟩:=aaJ (cs:=cs) (bs:=listed.toList) (i:=i) (c:=c) f0 R0 (by rw[hlen,<-hs];simp) hci hbi
    (λj d hji hd hbj=>(hcf i j d c hji hd hci).resolve_right λh=>by
     have:=h listed.toList hcl (λo' ho'=>by rw[hol]at ho';cases ho';exact hRdy);rw[hbj]at this;cases this)
    (λj d hij hd hbj=>((hcf j i c d hij hci hd).resolve_right λh=>by
     have hjo:j<ops.size:=by have:=(z7.1 hd).1;omega
     have:=h listed.toList hcl (λo' ho'=>hcl j o' ho' hbj);rw[hbi]at this;cases this).symm)
   have eset:(listed.setIfInBounds i O).toList=listed.toList.set i O:=Array.toList_setIfInBounds ..;have hcl':CY ops.toList (listed.toList.set i O):=λj o' ho' hbj e he hb=>by
    have hmono':∀k,listed.toList[k]? =V O->(listed.toList.set i O)[k]? =V O:=λk hk=>by
     rw[List.getElem?_set];split
     ·rename_i hik;rw[bE (by simpa using hil)]
     ·exact hk
    by_cases hij:i=j
    ·subst hij;rw[hol]at ho';cases ho';exact hmono' _ (hRdy e he hb)
    ·rw[List.getElem?_set_ne hij]at hbj;exact hmono' _ (hcl j o' ho' hbj e he hb)
   have hpn:∀x,(x<nx0\/∃j:Nat,listed.toList[j]? =V O/\g j<=x/\x<g (j+1))->¬(g i<=x/\x<g (i+1)):=λx hx hr=>by
    rcases hx with hx|⟨j,hj,hj2,hj3⟩
    ·have:=hmono 0 i (yT _) (by omega);omega
    ·have hne:j≠i:=λe=>by rw[e,hbi]at hj;cases hj
     have hjl:j<ops.size:=by
      have:j<listed.toList.length:=(z7.1 hj).1;have h3:listed.toList.length=listed.size:=by simp
      omega
     by_cases hlt:j<i
     ·have:=hmono (j+1) i (by omega) (by omega);omega
     ·have:=hmono (i+1) j (by omega) (by omega);omega
   have hweak:∀x,((x<nx0\/∃j:Nat,listed.toList[j]? =V O/\g j<=x/\x<g (j+1))\/(g i<=x/\x<g (i+1)))->(x<nx0\/∃j:Nat,(listed.toList.set i O)[j]? =V O/\g j<=x/\x<g (j+1)):=λx hx=>by
    rcases hx with (hx|⟨j,hj,hj2⟩)|hx
    ·exact .inl hx
    ·refine .inr ⟨j,?_,hj2⟩;rw[List.getElem?_set];split
     ·rw[bE (by simpa using hil)]
     ·exact hj
    ·refine .inr ⟨i,?_,hx⟩;rw[List.getElem?_set_self (by simpa using hil)]
   have cont:∀a' w',a'.defers=ds->MtS C n (λx=>(x<nx0\/∃j:Nat,listed.toList[j]? =V O/\g j<=x/\x<g (j+1))\/(g i<=x/\x<g (i+1))) (c.F (gM cs listed.toList f0)) (c.R (gR cs listed.toList R0)) a' w'->wpAny P .any ops Q fuel (listed.setIfInBounds i O) a' w':=λa' w' hda' hm'=>by
    refine ih (listed.setIfInBounds i O) a' w' (by simp[hs]) ?_ (by rw[eset];exact hcl') hda' ?_
    ·rw[eset];have:=NJ hbi;omega
    ·rw[eset,<-s3];obtain⟨E,ρ,q1,q2,q3,q5,q4⟩:=hm'.perm s4;exact⟨E,ρ,q1,λq hq=>(q2 q hq).mono hweak,q3.mono hweak,q5,q4⟩
   have hgate:∀wn,Ga ops o (gM (cs.take i) (zl i O) f0) wn->Region.wanted o (yielded ops a.tmps)=wn:=λwn hg=>by
    unfold Ga at hg;cases hgd:o.guard with
    |none=>
     rw[hgd]at hg;simp only at hg;rw[hg];unfold Region.wanted;rw[hgd]
    |some jw=>
     obtain⟨j,want⟩:=jw;rw[hgd]at hg;obtain⟨t,hj,hg⟩:=hg;have hts:t∈c.sl:=by
      rw[fact.sl];unfold dw ak6;rw[hgd];simp only[hj];exact yK _ (zy.2 rfl)
     obtain⟨E,ρ,q1,_,_,_,q4⟩:=hm;obtain⟨w1,w2⟩:=Hg (ρ:=ρ) hgd hj (E:=E);rcases hg with ⟨b,hb,hw⟩|⟨vs,hb,hw⟩
     ·rw[hw];exact o5.spec q4.slots (w1 b (q1 _ _ (by rw[s1 t hts];exact hb)))
     ·rw[hw];exact o5.spec q4.slots (w2 vs (q1 _ _ (by rw[s1 t hts];exact hb)))
   unfold wpOp;simp only[ho];rcases fact.run with ⟨hg,hv,hef⟩|⟨hg,hy⟩
   ·rw[bO (by rw[hgate _ hg];exact Bool.false_ne_true)];obtain⟨E,ρ,q1,q2,q3,q5,q4⟩:=hm;have hR:c.R (gR cs listed.toList R0)=gR cs listed.toList R0:=by unfold Rc.R;rw[hef]
    refine cont _ _ (by rw[<-hda];cases o.dst<;>rfl) ?_;rw[hR];cases hdo:o.dst with
    |none=>exact⟨E,ρ,λt d ht=>q1 t d (by unfold Rc.F at ht;rw[fact.dst,hdo]at ht;simpa using ht),λq hq=>(q2 q hq).mono λ_ h=> .inl h,q3.mono λ_ h=> .inl h,q5,q4⟩
    |some t=>
     refine⟨(t, .lit undef)::E,ρ,λs d hsd=> ?_,λq hq=> ?_,q3.mono λ_ h=> .inl h,q5,?_⟩
     ·unfold Rc.F at hsd;rw[fact.dst,hdo,hv]at hsd;by_cases hts:t=s
      ·subst hts;rw[bE rfl]at hsd;cases hsd;exact Env.fk _ _ _
      ·rw[bO (λe=>hts (zA.inj e))]at hsd;rw[Env.dV _ _ hts];exact q1 s d hsd
     ·rcases zD.1 hq with rfl|hq
      ·exact .lit _
      ·exact(q2 q hq).mono λ_ h=> .inl h
     ·have hdn:=fact.dn;rw[hdo]at hdn;have:=q4.put (av:= .lit undef) (v:=undef) hdn (.lit _);show tV C.C n ((t,cc.sub ρ (.lit undef))::E.sub ρ) _ _ _;rw[bW];exact this
   ·rw[bE (hgate _ hg)];refine .inl ?_;have hle:u5 (gM cs listed.toList f0) c.sl=u5 (gM (cs.take i) (zl i O) f0) c.sl:=PA s1;obtain⟨E,ρ,q1,q2,q3,q5,q4⟩:=hm;have hids:=fact.ids (λx=>x<nx0\/∃j:Nat,listed.toList[j]? =V O/\g j<=x/\x<g (j+1)) (λt ht d hd=>by
     rw[<-s1 t ht]at hd;exact q2 _ (Env.get_mem (q1 t d hd))) (by rw[<-s2];exact λq hq=>q3 q (zZ.1 hq).1)
    exact apQ (nx:=g i) (nx':=g (i+1)) (by have:=hmono 0 i (yT _) (by omega);omega) ⟨E,ρ,q1,q2,q3,q5,q4⟩ fact.dst fact.dn fact.wr (by rw[hle,s2];exact hy) hpn fact.lv (by rw[s2];exact fact.lin) fact.lo hids.1 hids.2 λa' w' hd' hm'=>cont a' w' (hd'.trans hda) hm'
def Zu{α:Type}{r:α}{F:aZ}{C:Cg}{s:St}{a:Act}{w:World}{id:Nat}{k:St->af α}(hF:iD P F)(hN:dX F)(h:Hq P F n ops s k=V r)(hm:Mt C n s a w):
  (Code.region id ops O).wp P (λe a' w'=>e= .normal/\a'.defers=a.defers/\∃s',k s'=V r/\Mt C n s' a' w') a w:=by
 unfold Hq at h;split at h
 case h_2=>cases h
 rename_i hb;simp only[zi]at hb;split at h
 case h_2=>cases h
 rename_i ps hps;obtain⟨E,hh,hE,hR,ρ,hag,hsim⟩:=hm;obtain⟨cs,s',f',q1,q2,q3⟩:=Qx hF hN ops.toList (f:=cQ s.E) h (λt d h=>h) (λt d hd=>Env.Zb (x:= .tmp t) hE (hh t d hd)) hR;rw[yw]at q1;split at q1
 case h_2=>cases q1
 rename_i hpo;obtain⟨l1,l2,l3,g,g0,g1,g2,g3⟩:=q2.idx;have hN:ops.toList.length=ops.size:=by simp
 refine wp_region_any hb.1 ?_;refine ao0 (C:=C) (cs:=cs) (f0:=cQ s.E) (R0:=s.R) (nx0:=s.nx) (g:=g) (ds:=a.defers) (by rw[l1,hN]) g0 hag.2 (by rw[<-hN];exact g2) g3 (λi j c d hji hc hd=>af6 hps hpo (λi c hc=>by
   obtain⟨o,ho⟩:∃o,ops.toList[i]? =V o:=⟨_,zu (by rw[<-l1];exact(z7.1 hc).1)⟩;have:=g3 i o c ho hc;exact⟨o,ho,this.dst,this.sl,this.ef,this.wr⟩) hji hc hd) (λi o ho e he hbe=>by have:=LN hb.2 i o ho e he hbe;omega) (λa' w' hd' hm'=> ?_) ops.size (Array.replicate ops.size S) a _ (by simp) (by rw[Array.toList_replicate,L0]) (λi o _ hbi=> ?_) rfl ?_
 ·refine⟨rfl,hd',s',q1,?_⟩;rw[<-l2,<-l3]at hm';obtain⟨E',ρ',p1,p2,p3,p5,p4⟩:=hm';rw[hN]at g1;rw[g1]at p2 p3;exact⟨E',λt d hd=>p1 t d (q3 t d hd),p2,p3.qT,ρ',⟨p5,by have:=aaQ (N:=ops.toList.length) g2 0 ops.toList.length (yT _) (zn _);rw[g0,hN,g1]at this;have h7:=hag.2;omega⟩,p4⟩
 ·rw[Array.toList_replicate,wR]at hbi;split at hbi<;>cases hbi
 ·have nF:∀(cs:aa Rc) (n:Nat) (f:Fr),gM cs (zl n S) f=f:=λcs=>by
   induction cs with
   |nil=>intro n f;rfl
   |cons d cs ih=>
    intro n f;cases n with
    |zero=>rfl
    |succ n=>rw[yP];exact ih n f
  have nR:∀(cs:aa Rc) (n:Nat) (R:bg),gR cs (zl n S) R=R:=λcs=>by
   induction cs with
   |nil=>intro n f;rfl
   |cons d cs ih=>
    intro n f;cases n with
    |zero=>rfl
    |succ n=>rw[yP];exact ih n f
  rw[Array.toList_replicate,nF,nR];exact⟨E,ρ,hh,λq hq=>gX.mono (hE q hq) λi hi=> .inl hi,(bg.gX.mono hR.lts λi hi=> .inl hi),hag.1,hsim.drew⟩
end
end Go.Iv
end
noncomputable section
namespace Go.Iv
variable [U:qO] [L:mI]
open Go Go.RowKit
section
variable {α:Type} {r:α} {P:Program} {F:aZ} {C:Cg} {n:Nat}
def Bn(P:Program)(F:aZ)(n:Nat)(_:Nat)(ops:Array Oper)(draw:Bool)(s:St)(k:gy α):af α:=match draw with
 |false=>eX P F n ops ops.toList s (k .normal)
 |true=>Hq P F n ops s (k .normal)
def exec(P:Program)(F:aZ)(n:Nat)(fuel:Nat)(c:Code):St->gy α->af α:=
 Code.rec ZE (Bn P F n) (λ_ _=>auv) (λc _ _=>asi c) (λid _=>aip id) (λ_=>YW fuel) (λ_ _ _ _ _ _=>Gj) ZV (λ_ _=>Gj) (λ_=>Gj) (λ_=>Gj) ak4 (λ_=>Gj) c
def pI(P:Program)(F:aZ)(fuel:Nat)(f:FuncId)(args:aa AV)(R:bg)(nx:Nat)(k:AV->bg->Nat->af α):af α:=match P.funcs[f]? with
 |some fn=>match fn.body with
  |some c=>match yl args.length fn.ntmps&& !(fn.name=="runtime.NumGoroutine")with
   |true=>exec (α:=α) P F fn.ntmps fuel c ⟨Of 0 args .e,R,nx⟩ λe s=>match e with
    | .normal=>(Gm P s fn.results.toList).bind λds=>k (gL ds) (MI s.R nx (gL ds) args) s.nx
    | .ret=>(Gm P s fn.results.toList).bind λds=>k (gL ds) (MI s.R nx (gL ds) args) s.nx
    |_=>G
   |false=>G
  |none=>G
 |none=>G
def oM(P:Program)(F0:aZ)(has:FuncId->Bool)(fuel:Nat):Nat->aZ
 |0=>F0
 |m+1=>λα f args R nx k=>match has f with
  |true=>F0 α f args R nx k
  |false=>pI P (oM P F0 has fuel m) fuel f args R nx k
def Ends(P:Program)(C:Cg)(n:Nat)(c:Code)(k:gy α)(r:α)(a:Act)(w:World):Prop:=c.wp P (λe a' w'=>∃s',k e s'=V r/\Mt C n s' a' w') a w
def W9(P:Program)(C:Cg)(n:Nat)(c:Code)(x:St->gy α->af α):Prop:=∀(r:α) (s:St) (k:gy α) (a:Act) (w:World),x s k=V r->Mt C n s a w->Ends P C n c k r a w
def Ng{c:Operand}{s:St}{x y:St->af α}(h:pZ c s x y=V r){a:Act}{w:World}(hm:Mt C n s a w):∃(b:Bool) (s':St),a.eval c= .bool b/\Mt C n s' a w/\(match b with|O=>x s'|S=>y s')=V r:=by
 unfold pZ at h;split at h
 ·rename_i t;split at h
  case h_2=>cases h
  rename_i b hb;have hev:a.eval (.tmp t)= .bool b:=by
   obtain⟨E,hh,_,_,ρ,_,hs⟩:=hm;refine SX hs ?_;have h1:=hh t _ hb;show Env.get (E.sub ρ) t=_;rw[Env.fh,h1,yx,bW]
  refine⟨b,s.fW t b,hev,hm.fW hb,?_⟩;unfold XI at h;cases b<;>exact h
 ·exact⟨O,s,rfl,hm,h⟩
 ·exact⟨S,s,rfl,hm,h⟩
 ·cases h
def Ey(hF:iD P F)(hN:dX F)(id:Nat)(ops:Array Oper)(draw:Bool):W9 (α:=α) P C n (.region id ops draw) (Bn P F n id ops draw):=λr s k a w h hm=>by
 unfold Bn at h;cases draw with
 |false=>
  refine wp_mono (wp_region_lit (Ev hF _ h hm)) λe a' w' ⟨he,_,s',h1,h2⟩=> ?_;subst he;exact⟨s',h1,h2⟩
 |true=>
  refine wp_mono (Zu hF hN h hm) λe a' w' ⟨he,_,s',h1,h2⟩=> ?_;subst he;exact⟨s',h1,h2⟩
def Hz{c:Code}{x:St->gy α->af α}(hx:W9 P C n c x)(fuel:Nat):W9 P C n (.loop c) (YW fuel x):=λr s k a w h hm=>by
 have key:∀(m:Nat) (s:St) (a:Act) (w:World),FL x k m s=V r->Mt C n s a w->c.wp P (Exit.then (InL P c λe a' w'=>∃s',k e s'=V r/\Mt C n s' a' w') λe a' w'=>∃s',k e s'=V r/\Mt C n s' a' w') a w:=by
  intro m;induction m with
  |zero=>intro s a w h;cases h
  |succ m ih=>
   intro s a w h hm;refine wp_mono (hx r s _ a w h hm) λe a' w' ⟨s',h1,h2⟩=> ?_;cases e with
   |normal=>exact LA (ih s' a' w' h1 h2)
   |_=>exact⟨s',h1,h2⟩
 exact GS (key fuel s a w h hm)
def adH(hF:iD P F)(hN:dX F)(fuel:Nat)(c:Code):W9 (α:=α) P C n c (exec P F n fuel c):=by
 induction c with
 |skip=>exact λr s k a w h hm=>wp_skip ⟨s,h,hm⟩
 |region id ops draw=>exact Ey hF hN id ops draw
 |seq x y hx hy=>
  intro r s k a w h hm;refine wp_seq (wp_mono (hx r s _ a w h hm) λe a' w' ⟨s',h1,h2⟩=> ?_);cases e with
  |normal=>exact hy r s' k a' w' h1 h2
  |_=>exact⟨s',h1,h2⟩
 |cond c x y hx hy=>
  intro r s k a w h hm;obtain⟨b,s',he,hm',h'⟩:=Ng (show pZ c s _ _=V r from h) hm;cases b with
  |true=>exact wp_cond_true he (hx r s' k a w h' hm')
  |false=>exact wp_cond_false he (hy r s' k a w h' hm')
 |block id x hx=>
  intro r s k a w h hm;refine wp_block (wp_mono (hx r s _ a w h hm) λe a' w' ⟨s',h1,h2⟩=> ?_);cases e with
  |exit id'=>
   simp only[tu]at h1;simp only[Exit.inBlock];split
   ·rename_i he;subst he;have hb:zf id' id'=O:=Nat.beq_refl _;simp only[hb]at h1;exact⟨s',h1,h2⟩
   ·rename_i he;have hb:zf id' id=S:=by
     cases hb:zf id' id with
     |false=>rfl
     |true=>exact dD (xh hb) he
    simp only[hb]at h1;exact⟨s',h1,h2⟩
  |_=>exact⟨s',h1,h2⟩
 |loop c hc=>exact Hz hc fuel
 |exit i=>exact λr s k a w h hm=>wp_exit ⟨s,h,hm⟩
 |ret=>exact λr s k a w h hm=>wp_ret ⟨s,h,hm⟩
 |_=>exact λr s k a w h hm=>by cases h
def vX(nx:Nat)(ids:aa Nat):∀R:bg,List.Sublist (Oe nx ids R) R
 |[]=> .slnil
 |p::R=>by
  have ih:=vX nx ids R;show List.Sublist (Bool.rec (Bool.rec (Oe nx ids R) (p::Oe nx ids R) (dH p.1 ids)) (p::R) (zG p.1 nx)) (p::R);cases zG p.1 nx with
  |true=>exact List.Sublist.refl _
  |false=>
   cases dH p.1 ids with
   |true=>exact ih.cons_cons p
   |false=>exact ih.cons p
def agS{s:St}{E:Env}{ρ:Gh}{rv:ResultVar}{d:AV}(h:abr P s rv=V d)(hh:tL s.E E):DA P (E.sub ρ) (bg.res ρ s.R) rv (d.sub ρ):=by
 unfold abr at h;split at h
 ·rename_i t;refine .tmp ?_;rw[Env.fh,hh t d h];rfl
 ·rename_i t ty;split at h
  case h_2=>cases h
  rename_i id hp;have hp':Env.get (E.sub ρ) t=V (.lit (.pointer (V ⟨ρ.b id,0,G⟩))):=by
   rw[Env.fh,hh t _ hp,yx,cc.sub]
  split at h
  case h_2=>cases h
  rename_i T cs hr;obtain⟨i,hi,_⟩:=eR hr;have hres:=ia (ρ:=ρ) hi;split at h
  ·rename_i h1;refine .auN i hp' hres (CH h1) ?_;rw[yb,h];rfl
  ·split at h
   case h_2=>cases h
   rename_i m hm;split at h
   case h_2=>cases h
   rename_i hl;cases h;rw[fo];refine .auw i hp' hres (MK hm) ?_;rw[zx];exact gz hl
def XG{s:St}{nx:Nat}{rv:ResultVar}{d:AV}(h:abr P s rv=V d){E:Env}(hh:tL s.E E)(hE:E.cS nx)(hR:bg.cS nx s.R):cS nx d:=by
 unfold abr at h;split at h
 ·rename_i t;exact hE _ (Env.get_mem (hh t d h))
 ·split at h
  case h_2=>cases h
  split at h
  case h_2=>cases h
  rename_i id _ T cs hr;have hL:=Fj hr hR;split at h
  ·exact hL.2 _ (List.mem_of_getElem? h)
  ·split at h
   case h_2=>cases h
   split at h
   case h_2=>cases h
   cases h;exact .agg _ hL.2
def Ic{s:St}{E:Env}{ρ:Gh}(hh:tL s.E E){A:Nat->Prop}{w:World}{tmps:Array Value}(hd:Hd A (bg.res ρ s.R) w)(hs:lN A w (E.sub ρ) tmps):∀{l:aa ResultVar} {ds:aa AV},Gm P s l=V ds->
  ∃us,(l.mapM (tI tmps)).run P w= .ok us w/\bN A w (ds.map (cc.sub ρ)) us
 |[],ds,h=>by cases h;exact⟨[],rfl,bN.nil⟩
 |x::l,ds,h=>by
  unfold Gm at h;split at h
  case h_2=>cases h
  rename_i d hx;obtain⟨ds',h1,h2⟩:=zk.1 h;subst h2;obtain⟨v,q1,q2⟩:=agS (ρ:=ρ) hx hh A w tmps hd hs;obtain⟨us,q3,q4⟩:=Ic hh hd hs h1;refine⟨v::us,?_,bN.cons q2 q4⟩;rw[List.mapM_cons];simp[q1,q3]
def Ll{s:St}{nx:Nat}{E:Env}(hh:tL s.E E)(hE:E.cS nx)(hR:bg.cS nx s.R):∀{l:aa ResultVar} {ds:aa AV},Gm P s l=V ds->∀d∈ds,cS nx d
 |[],ds,h=>by cases h;simp
 |x::l,ds,h=>by
  unfold Gm at h;split at h
  case h_2=>cases h
  rename_i d hx;obtain⟨ds',h1,h2⟩:=zk.1 h;subst h2;intro d' hd';rcases zD.1 hd' with rfl|hd'
  ·exact XG hx hh hE hR
  ·exact Ll hh hE hR h1 d' hd'
def YE{nx:Nat}{ds:aa AV}(h:∀d∈ds,cS nx d):cS nx (gL ds):=by
 unfold gL;split
 ·exact h _ (by simp)
 ·exact .iR _ h
def NL{ρ:Gh}{A:Nat->Prop}{w:World}{ds:aa AV}{us:aa Value}(h:bN A w (ds.map (cc.sub ρ)) us):Rel A w ((gL ds).sub ρ) (if h:us.toArray.size=1 then us.toArray[0]else .tuple us.toArray):=by
 unfold gL;split
 ·rename_i d;obtain⟨h1,h2⟩:=h
  match us,h1,h2 with
  |[u],_,h2=>exact h2 0 _ _ rfl rfl
 ·rename_i hn;have hl:us.length=ds.length:=by have:=h.1;simpa using this
  rw[dif_neg (by
   intro e
   match ds,hn with
   |[],_=>rw[xx,hl]at e;cases e
   |[d],hn=>exact hn d rfl
   |_::_::_,_=>rw[xx,hl]at e;simp at e),kF]
  exact Rel.Gw h
def v8:∀(l:aa AV) (i:Nat) (T:ET) (E:Env),tL T E->(∀t d,cQ T t=V d->t<i)->tL (Of i l T) (fq i l++E)
 |[],_,_,_,h,_=>h
 |d::l,i,T,E,h,hT=>by
  have h2:∀t d',cQ (mE i d T) t=V d'->t<i+1:=λt d' ht=>by
   rcases o9 ht with ⟨rfl,_⟩|⟨_,q⟩
   ·omega
   ·have:=hT t d' q;omega
  have:=v8 l (i+1) (mE i d T) ((i,d)::E) (h.put i d) h2;intro t v ht;have h1:Env.get (fq (i+1) l++(i,d)::E) t=V v:=this t v ht;show Env.get ((i,d)::(fq (i+1) l++E)) t=V v;have key:∀(l:aa AV) (j:Nat),i<j->Env.get (fq j l++(i,d)::E) t=Env.get ((i,d)::(fq j l++E)) t:=λl=>by
   induction l with
   |nil=>intro j _;rfl
   |cons u l ih=>
    intro j hj;show Env.get ((j,u)::(fq (j+1) l++(i,d)::E)) t=Env.get ((i,d)::(j,u)::(fq (j+1) l++E)) t;by_cases h1:j=t
    ·subst h1;rw[Env.fk,Env.dV _ _ (by omega),Env.fk]
    ·rw[Env.dV _ _ h1,ih (j+1) (by omega)];by_cases h2:i=t
     ·subst h2;rw[Env.fk,Env.fk]
     ·rw[Env.dV _ _ h2,Env.dV _ _ h2,Env.dV _ _ h1]
  rw[<-key l (i+1) (zJ i)];exact h1
def pW(ρ:Gh):∀(l:aa AV) (i:Nat),(fq i l).sub ρ=fq i (l.map (cc.sub ρ))
 |[],_=>rfl
 |d::l,i=>by show (i,d.sub ρ)::(fq (i+1) l).sub ρ=_;rw[pW ρ l];rfl
def pR:∀{l:aa AV} {i:Nat} {q:Nat×AV},q∈fq i l->q.2∈l
 |d::l,i,q,h=>by
  rcases zD.1 h with rfl|h
  ·exact zo
  ·exact zO _ (pR h)
def Xl{xs:aa AV}{fn:Func}{C:Cx}{ρ:Gh}{nx:Nat}{s:St}{a:Act}{w:World}{k:AV->bg->Nat->af α}{e:Exit}(he:e= .normal\/e= .ret)(h:((Gm P s fn.results.toList).bind λds=>k (gL ds) (MI s.R nx (gL ds) xs) s.nx)=V r)(hm:Mt ⟨C,ρ,nx⟩ n s a w):
  ∃E' σ',tV C n E' σ' a w/\adm P C n fn (λa s=>∃d R' nx',k d R' nx'=V r/\nx<=nx'/\cS nx' d/\bg.cS nx' R'/\∃ρ',oS nx ρ ρ'/\a=d.sub ρ'/\List.Perm s (bg.res ρ' R')) e E' σ':=by
 obtain⟨E,hh,hE,hR,ρ',⟨hag,hnx⟩,hsim⟩:=hm;obtain⟨ds,h1,h2⟩:=zq.1 h;have hsub:List.Sublist (MI s.R nx (gL ds) xs) s.R:=vX _ _ _;refine⟨_,_,hsim,Yl (σ':=bg.res ρ' (MI s.R nx (gL ds) xs)) (av:=(gL ds).sub ρ') he (hsub.map _) ⟨_,_,_,h2,hnx,YE (Ll hh hE hR h1),λq hq=>hR q (hsub.subset hq),ρ',hag,rfl,List.Perm.refl _⟩ λA w' tmps hd hs=> ?_⟩;obtain⟨us,q1,q2⟩:=Ic hh hd hs h1;refine⟨_,?_,NL q2⟩;show (do let vs <-fn.results.mapM (tI tmps);pure (if h:vs.size=1 then vs[0]else .tuple vs):Sem Value).run P w'=_;have e1:fn.results=fn.results.toList.toArray:=by simp
 rw[e1,List.mapM_toArray];simp[q1]
section
variable {β:Type}
def Mo{ops:Array Oper}{o:Oper}{s:St}{y n:St->af α}(D:α->af β):(gate ops o s y n).bind D=gate ops o s (λs=>(y s).bind D) (λs=>(n s).bind D):=by
 unfold gate
 repeat' split
 all_goals first|rfl|simp_all
def Wh{o:Op}{s:St}{f:St->af α}(D:α->af β):(By o s f).bind D=By o s (λs=>(f s).bind D):=by
 unfold By
 repeat' split
 all_goals first|rfl|simp_all
def ag3(hN:dX F){o:Oper}{ih:St->(St->af α)->af α}{ih':St->(St->af β)->af β}{k:St->af α}{D:α->af β}(hi:∀s k,(ih s k).bind D=ih' s (λs=>(k s).bind D))(s:St):(rDo P F o ih k s).bind D=rDo P F o ih' (λs=>(k s).bind D) s:=by
 unfold rDo;generalize s.j8 (iT s.E o.op)=s1;obtain⟨E,R,nx⟩:=s1;show (mN o.op P F (Gd E) (gp R) R nx (JV o.dst E R nx ih k)).bind D=mN o.op P F (Gd E) (gp R) R nx (JV o.dst E R nx ih' λs=>(k s).bind D);rw[AQ D hN]
 congr 1
 funext e
 cases e<;>exact hi ..
def rE(hN:dX F){ops:Array Oper}(D:α->af β):∀(l:aa Oper) (s:St) (k:St->af α),(eX P F n ops l s k).bind D=eX P F n ops l s (λs=>(k s).bind D)
 |[],s,k=>rfl
 |o::l,s,k=>by
  show (Ln P F n ops o (eX P F n ops l) s k).bind D=Ln P F n ops o (eX P F n ops l) s (λs=>(k s).bind D);unfold Ln;split
  ·rw[Mo]
   congr 1
   ·funext s1
    obtain⟨E,R,nx⟩:=s1;show (opF o.op P F o.dst E R nx (eX P F n ops l) k).bind D=opF o.op P F o.dst E R nx (eX P F n ops l) (λs=>(k s).bind D);have e1:=Ig P F o ⟨E,R,nx⟩ (eX (α:=α) P F n ops l) k;have e2:=Ig P F o ⟨E,R,nx⟩ (eX (α:=β) P F n ops l) (λs=>(k s).bind D);dsimp only at e1 e2;rw[e1,e2,Wh]
    congr 1
    funext s2
    exact ag3 hN (λs k=>rE hN D l s k) s2
   ·funext s1
    unfold rNo;split<;>exact rE hN D l _ _
  ·rfl
def Jy(hN:dX F){ops:Array Oper}{ps:aa (Nat×Nat)}(D:α->af β):∀(l:aa Oper) (cs:aa Rc) (s:St) (k:aa Rc->St->af α),(Xd P F n ops ps l cs s k).bind D=Xd P F n ops ps l cs s (λcs s=>(k cs s).bind D)
 |[],cs,s,k=>rfl
 |o::l,cs,s,k=>by
  show (WW P F n ops ps o (Xd P F n ops ps l) cs s k).bind D=WW P F n ops ps o (Xd P F n ops ps l) cs s (λcs s=>(k cs s).bind D);unfold WW;split
  ·rw[Mo]
   congr 1
   ·funext s1
    obtain⟨E,R,nx⟩:=s1;show (GM P F o (dw ops o) E (inQ (pT ops o E R) R) nx (dK ops ps o cs (pT ops o E R) E R (inQ (pT ops o E R) R) nx (Xd P F n ops ps l) k)).bind D=GM P F o (dw ops o) E (inQ (pT ops o E R) R) nx (dK ops ps o cs (pT ops o E R) E R (inQ (pT ops o E R) R) nx (Xd P F n ops ps l) (λcs s=>(k cs s).bind D));rw[<-FM hN,<-FM hN,zY]
    congr 1
    funext x
    unfold dK;split
    ·exact Jy hN D l _ _ _
    ·rfl
   ·funext s1
    exact Jy hN D l _ _ _
  ·rfl
def Ww(hN:dX F)(id:Nat)(ops:Array Oper)(draw:Bool)(D:α->af β)(s:St)(k:gy α):(Bn P F n id ops draw s k).bind D=Bn P F n id ops draw s (λe s=>(k e s).bind D):=by
 unfold Bn;cases draw with
 |false=>exact rE hN D _ _ _
 |true=>
  show (Hq P F n ops s (k .normal)).bind D=Hq P F n ops s (λs=>(k .normal s).bind D);unfold Hq;split
  ·split
   ·rw[Jy hN D]
    congr 1
    funext cs s'
    split<;>rfl
   ·rfl
  ·rfl
def WE{c:Operand}{s:St}{x y:St->af α}(D:α->af β):(pZ c s x y).bind D=pZ c s (λs=>(x s).bind D) (λs=>(y s).bind D):=by
 unfold pZ
 repeat' split
 all_goals first|rfl|(unfold XI;split<;>rfl)|simp_all
def M6{x:St->gy α->af α}{x':St->gy β->af β}{D:α->af β}(hx:∀s k,(x s k).bind D=x' s (λe s=>(k e s).bind D))(k:gy α):∀(m:Nat) (s:St),(FL x k m s).bind D=FL x' (λe s=>(k e s).bind D) m s
 |0,s=>rfl
 |m+1,s=>by
  show (x s (MU k (FL x k m))).bind D=x' s (MU (λe s=>(k e s).bind D) (FL x' (λe s=>(k e s).bind D) m));rw[hx]
  congr 1
  funext e s'
  cases e<;>first|exact M6 hx k m s'|rfl
def abl(hN:dX F)(fuel:Nat)(D:α->af β)(c:Code):∀(s:St) (k:gy α),(exec P F n fuel c s k).bind D=exec P F n fuel c s (λe s=>(k e s).bind D):=by
 induction c with
 |region id ops draw=>exact Ww hN id ops draw D
 |seq x y hx hy=>
  intro s k;show (exec P F n fuel x s (aji (exec P F n fuel y) k)).bind D=exec P F n fuel x s (aji (exec P F n fuel y) (λe s=>(k e s).bind D));rw[hx]
  congr 1
  funext e s'
  cases e<;>first|exact hy s' k|rfl
 |cond c x y hx hy=>
  intro s k;show (pZ c s (λs=>exec P F n fuel x s k) (λs=>exec P F n fuel y s k)).bind D=pZ c s (λs=>exec P F n fuel x s _) (λs=>exec P F n fuel y s _);rw[WE]
  congr 1
  ·funext s;exact hx s k
  ·funext s;exact hy s k
 |block id x hx=>
  intro s k;show (exec P F n fuel x s (tu id k)).bind D=exec P F n fuel x s (tu id (λe s=>(k e s).bind D));rw[hx]
  congr 1
  funext e s'
  cases e<;>first|rfl|(simp only[tu];split<;>rfl)
 |loop c hc=>exact λs k=>M6 hc k fuel s
 |_=>exact λs k=>rfl
def VQ(hN:dX F)(fuel:Nat):dX (λα=>pI (α:=α) P F fuel):=λα β f args R nx k D=>by
 show (pI P F fuel f args R nx k).bind D=pI P F fuel f args R nx _;unfold pI;split
 ·split
  ·split
   ·rw[abl hN]
    congr 1
    funext e s
    cases e<;>first|rfl|exact zY ..
   ·rfl
  ·rfl
 ·rfl
def kO{F0:aZ}{has:FuncId->Bool}(hN:dX F0)(fuel:Nat):∀m:Nat,dX (oM P F0 has fuel m)
 |0=>hN
 |m+1=>λα β f args R nx k D=>by
  show (match has f with|O=>F0 α f args R nx k|S=>pI P (oM P F0 has fuel m) fuel f args R nx k).bind D=_;show _=(match has f with|O=>F0 β f args R nx _|S=>pI P (oM P F0 has fuel m) fuel f args R nx _);cases has f with
  |true=>exact hN ..
  |false=>exact VQ (kO hN fuel m) fuel α β f args R nx k D
end
def abX(hF:iD P F)(hN:dX F)(fuel:Nat):iD P (λα=>pI (α:=α) P F fuel):=λα f args R nx k r h hargs hR=>by
 have h:pI P F fuel f args R nx k=V r:=h;unfold pI at h;split at h
 case h_2=>cases h
 rename_i fn hf;split at h
 case h_2=>cases h
 rename_i c hb;split at h
 case h_2=>cases h
 rename_i hc;rw[zi]at hc;obtain⟨hl,hnm⟩:=hc;refine⟨⟨fn,hf,by simpa using hnm,by rw[hb];rfl⟩,λρ=>Fn.of hf hb rfl (by rw[zx];exact hl) λC a w ha=> ?_⟩;have hm:Mt ⟨C,ρ,nx⟩ fn.ntmps ⟨Of 0 args .e,R,nx⟩ a w:=by
  refine⟨fq 0 args,?_,λq hq=>hargs _ (pR hq),hR,ρ,⟨.refl _ _,zn _⟩,?_⟩
  ·have:=v8 args 0 .e [] (λt d ht=>by cases t<;>cases ht) (λt d ht=>by cases t<;>cases ht)
   rwa [yy]at this
  ·rw[pW];exact ha
 refine wp_mono (adH hF hN fuel c r _ _ a w h hm) λe a' w' ⟨s',h1,h2⟩=> ?_;cases e with
 |normal=>exact Xl (.inl rfl) h1 h2
 |ret=>exact Xl (.inr rfl) h1 h2
 |_=>cases h1
def mL{F0:aZ}{has:FuncId->Bool}(hF:iD P F0)(hN:dX F0)(fuel:Nat):∀m:Nat,iD P (oM P F0 has fuel m)
 |0=>hF
 |m+1=>λα f args R nx k r h hargs hR=>by
  change (match has f with|O=>F0 α f args R nx k|S=>pI P (oM P F0 has fuel m) fuel f args R nx k)=V r at h;split at h
  ·exact hF α f args R nx k r h hargs hR
  ·exact abX (mL hF hN fuel m) (kO hN fuel m) fuel α f args R nx k r h hargs hR
end
end Go.Iv
end
noncomputable section
namespace Go.Iv
variable [U:qO] [L:mI]
open Go Go.RowKit
def scB:Nat->AV->Bool
 |_, .lit _=>O
 |n+1, .agg cs=>cs.all (scB n)
 |n+1, .iR cs=>cs.all (scB n)
 |_,_=>S
def Gf:Nat->AV->Bool
 |_, .lit _=>O
 |_, .sl _ _=>O
 |_, .rp _ _=>O
 |n+1, .agg cs=>cs.all (Gf n)
 |n+1, .iR cs=>cs.all (Gf n)
 |_,_=>S
def jZ:∀(n:Nat) {d:AV} {ρ:Gh},Gf n d=O->d.sub ρ=d
 |n,d,ρ,h=>by
  have hL:∀{m:Nat} {cs:aa AV},m<n->cs.all (Gf m)=O->cs.map (cc.sub ρ)=cs:=λ{m cs} hm h=>by
   have:cs.map (cc.sub ρ)=cs.map id:=zX λc hc=>jZ m (zw.1 h c hc);rw[this,List.map_id]
  cases n with
  |zero=>cases d<;>first|(cases h;done)|simp only[cc.sub]
  |succ n=>
   cases d<;>first|(cases h;done)|(simp only[cc.sub];done)|skip
   ·rw[fo,hL (zJ n) h]
   ·rw[kF,hL (zJ n) h]
def aa8{R:bg}{ρ:Gh}{A:Nat->Prop}{w:World}{v:Value}{id:Nat}(hd:Hd A (bg.res ρ R) w)(hr:Rel A w ((cc.own (dz:=U.dz) id).sub ρ) v):Rel (λb=>A b\/b∈bD (bg.res ρ R)) w ((match gp R id with
  |some (.row t l)=>cc.sl t l
  |_=> .own id).sub ρ) v:=by
 have base:Rel (λb=>A b\/b∈bD (bg.res ρ R)) w ((cc.own (dz:=U.dz) id).sub ρ) v:=hr.mono λb _ hA=>⟨.inl hA,rfl⟩;split
 ·rename_i t l hg;obtain⟨i,hi,_⟩:=eR hg;have hres:=ia (ρ:=ρ) hi;have hm:=List.mem_of_getElem? hres;rw[dO]at hr;rw[gI];have hd1:Hd A [.row (ρ.v id) t l] w:=⟨λr hr=>by
   rw[zy]at hr;rw[hr];exact hd.1 _ hm,λb hb=>hd.2 b (by
    obtain⟨r,h1,h2⟩:=bT.1 hb;rw[zy]at h1;rw[h1]at h2;exact bT.2 ⟨_,hm,h2⟩)⟩
  refine(Vw.row 0 rfl A w v hd1 hr).mono λb _ hA=>⟨hA.imp (λh=>h) λhx=> ?_,rfl⟩;obtain⟨r,h1,h2⟩:=bT.1 hx;rw[zy]at h1;rw[h1]at h2;exact bT.2 ⟨_,hm,h2⟩
 ·exact base
def cZ:aZ:=λ_ _ _ _ _ _=>G
def asd{P:Program}:iD P cZ:=λ_ _ _ _ _ _ _ h=>by cases h
def Py{β:Type}(e:AV->af β)(d:AV)(R:bg)(_:Nat):af β:=match R with
 |[]=>e d
 |_=>G
def P0{β:Type}(e:AV->af β)(m:β->AV):Prop:=∀d x,e d=V x->d=m x/\Gf 2 d=O
def P0.b:P0 PM cc.b:=λd x h=>by
 unfold PM at h;split at h
 ·cases h;exact⟨rfl,rfl⟩
 ·cases h
def P0.i(k:IntKind):P0 (iw k) (cc.n k):=λd x h=>by
 unfold iw at h;split at h
 ·split at h
  ·rename_i hk;subst hk;cases h;exact⟨rfl,rfl⟩
  ·cases h
 ·cases h
def Pq{P:Program}{F:aZ}(hF:iD P F){f:FuncId}{args:aa AV}{β:Type}{e:AV->af β}{m:β->AV}{x:β}(he:P0 e m)(hc:args.all (Gf 2)=O)(hl:∀d∈args,cS 0 d)(h:F β f args [] 0 (Py e)=V x):th P f/\Fn P f args [] (λa s=>a=m x/\s=[]):=by
 obtain⟨h1,h2⟩:=hF β f args [] 0 (Py e) x h hl (λq hq=>by cases hq);refine⟨h1,?_⟩;have:=h2 ⟨λ_=>undef,λ_=>0⟩;have ea:args.map (cc.sub ⟨λ_=>undef,λ_=>0⟩)=args:=by
  have:args.map (cc.sub ⟨λ_=>undef,λ_=>0⟩)=args.map id:=zX λc hcm=>jZ 2 (zw.1 hc c hcm);rw[this,List.map_id]
 rw[ea]at this;refine Fn.mono this λa s ⟨d,R',nx',q1,_,_,_,ρ',_,q2,q3⟩=> ?_;unfold Py at q1;split at q1
 ·obtain⟨q4,q5⟩:=he _ _ q1;rw[q2,jZ 2 q5,q4];exact⟨rfl,by simpa [bg.res]using q3⟩
 ·cases q1
def sR(d:AV):∀(m:Nat) (T:ET) (k s:Nat),k<2^m-1->cQ (sA d m T k) s=if k=s then V d else cQ T s
 |0,T,k,s,h=>by simp at h
 |m+1,T,k,s,h=>by
  have hp:2^(m+1)=2*2^m:=by rw[Nat.pow_succ];omega
  rw[UQ,NA T s];by_cases hk:k=0
  ·rw[bE hk,oz];subst hk;by_cases hs:s=0
   ·rw[bE hs,bE hs.symm]
   ·have h0:¬(0=s):=λe=>hs e.symm;rw[bO h0,bO hs];split<;>simp_all
  ·rw[bO hk];by_cases hk2:(k-1)%2=0
   ·rw[bE hk2,oz];by_cases hs:s=0
    ·rw[bE hs,bE hs,bO (by omega)]
    ·rw[bO hs,bO hs];by_cases hs2:(s-1)%2=0
     ·rw[bE hs2,bE hs2,sR d m T.l _ _ (by omega)];by_cases hks:k=s
      ·rw[bE hks,bE (by omega)]
      ·rw[bO hks,bO (by omega)]
     ·rw[bO hs2,bO hs2,bO (λe=>hs2 (by rw[<-e];exact hk2))]
   ·rw[bO hk2,oz];by_cases hs:s=0
    ·rw[bE hs,bE hs,bO (by omega)]
    ·rw[bO hs,bO hs];by_cases hs2:(s-1)%2=0
     ·rw[bE hs2,bE hs2,bO (λe=>hk2 (by rw[e];exact hs2))]
     ·rw[bO hs2,bO hs2,sR d m T.r _ _ (by omega)];by_cases hks:k=s
      ·rw[bE hks,bE (by omega)]
      ·rw[bO hks,bO (by omega)]
def Au{t s:Nat}{d:AV}{T:ET}(h:t<4095):cQ (mE t d T) s=if t=s then V d else cQ T s:=sR d 12 T t s h
def bw(F:aZ)(f:FuncId):Prop:=∀args R nx d R' nx',F (AV×bg×Nat) f args R nx (λd R nx=>V (d,R,nx))=V (d,R',nx')->R'=R
def Mg(fs:aa Nat):Op->Bool
 | .move _=>O
 | .assign _=>O
 | .pick c _ _=>match c with
  | .tmp t=>zG t 4095
  |_=>O
 | .binOp _ _ _ _ _=>O
 | .unOp _ _ _=>O
 | .fieldAddr _ _ _=>O
 | .indexAddr _ _ _=>O
 | .index _ _ _=>O
 | .load _ _=>O
 | .nilCheck _=>O
 | .convert _ _ _=>O
 | .extract _ _=>O
 | .call c=>match c.callee with
  | .value (.func f)=>dH f fs&& !L.fz f
  | .builtin .len=>O
  | .builtin .max=>O
  | .builtin .min=>O
  |_=>S
 |_=>S
def HJ:af Nat->Bool
 |some t=>zG t 4095
 |none=>O
section
variable {P:Program} {F:aZ} {n:Nat} {fs:aa Nat}
def ZM{E:ET}{o:Op}(h:Mg fs o=O):iT E o=[]:=by
 cases o<;>first|rfl|(cases h;done)|skip
 case call c=>
  unfold Mg at h;unfold iT;dsimp only at h ⊢;split at h
  ·rename_i f hf;rw[zi,Bool.not_eq_true']at h;rw[hf];dsimp only;rw[h.2]
  ·rename_i hc;rw[hc]
  ·rename_i hc;rw[hc]
  ·rename_i hc;rw[hc]
  ·cases h
def oJ{g:(K:AV->af gd)->af gd}{g0:af AV}{e:gd}(hg:g (λd=>V (.val d))=g0.bind λd=>V (.val d))(h:g (dP V)=V e):∃d,e= .val d:=by
 have h:g (λd=>V (.val d))=V e:=h;rw[hg]at h;obtain⟨d,_,h2⟩:=zq.1 h;cases h2;exact⟨d,rfl⟩
def Vt(hN:dX F)(hp:∀f∈fs,bw F f){o:Op}{E:ET}{rd:Nat->af IR}{R:bg}{nx:Nat}{e:gd}(ho:Mg fs o=O)(h:mN o P F (Gd E) rd R nx V=V e):∃d nx',e= .all d R nx'\/e= .val d:=by
 have fin:(∃d,e= .val d)->∃d nx',e=gd.all d R nx'\/e= .val d:=λ⟨d,h⟩=>⟨d,0, .inr h⟩;have fb:∀{x:af AV},x.bind (dP V)=V e->∃d,e= .val d:=λ{x} h=>by
  obtain⟨d,_,h2⟩:=zq.1 h;cases h2;exact⟨d,rfl⟩
 cases o<;>first|(cases ho;done)|exact fin (fb h)|skip
 case pick c a b=>
  have h:vt c a b P F (Gd E) rd R nx V=V e:=h;unfold vt at h;split at h
  ·exact fin (fb h)
  ·exact fin (fb h)
  ·cases h
 case binOp b T x y t=>exact fin (oJ (Nb (K:=V) (λd=>V (gd.val d))).symm h)
 case unOp b T x=>exact fin (oJ (Te (K:=V) (λd=>V (gd.val d))).symm h)
 case fieldAddr T x i=>exact fin (oJ (Nv (K:=V) (λd=>V (gd.val d))).symm h)
 case indexAddr T x y=>exact fin (oJ (Md (K:=V) (λd=>V (gd.val d))).symm h)
 case index T x y=>exact fin (oJ (Nu (K:=V) (λd=>V (gd.val d))).symm h)
 case load T x=>exact fin (oJ (Sn (K:=V) (λd=>V (gd.val d))).symm h)
 case nilCheck x=>exact fin (oJ (LX (K:=V) (λd=>V (gd.val d))).symm h)
 case convert T T' x=>exact fin (oJ (NZ (K:=V) (λd=>V (gd.val d))).symm h)
 case extract x i=>exact fin (oJ (Lb (K:=V) (λd=>V (gd.val d))).symm h)
 case call c=>
  have h:DO c P F (Gd E) rd R nx V=V e:=h;unfold DO at h;unfold Mg at ho;dsimp only at ho;split at ho
  ·rename_i f hf;rw[hf]at h;rw[zi]at ho;have h:KV F (Gd E) R nx (V (.fn (.func f) [])) c.args.toList V=V e:=h;unfold KV at h;dsimp only at h;obtain⟨xs,_,h2⟩:=zq.1 h;have h3:=hN (AV×bg×Nat) gd f (xs++[]) R nx (λd R nx=>V (d,R,nx)) (λx=>V (.all x.1 x.2.1 x.2.2));have h3':(F (AV×bg×Nat) f (xs++[]) R nx (λd R nx=>V (d,R,nx))).bind (λx=>V (.all x.1 x.2.1 x.2.2))=V e:=h3.trans h2;obtain⟨⟨d,R',nx'⟩,h4,h5⟩:=zq.1 h3';have h6:=hp f (fU.1 ho.1) _ _ _ _ _ _ h4;subst h6;cases h5;exact⟨d,nx', .inl rfl⟩
  ·rename_i hc;rw[hc]at h;have h:Br .len c.args c.argTypes P (Gd E) rd R nx V=V e:=h;unfold Br at h;dsimp only at h;split at h
   ·exact fin (oJ (Oc (K:=V) (λd=>V (gd.val d))).symm h)
   ·cases h
  ·rename_i hc;rw[hc]at h;have h:Br .max c.args c.argTypes P (Gd E) rd R nx V=V e:=h;unfold Br at h;dsimp only at h;split at h
   ·exact fin (oJ (Ce (K:=V) (λd=>V (gd.val d))).symm h)
   ·cases h
  ·rename_i hc;rw[hc]at h;have h:Br .min c.args c.argTypes P (Gd E) rd R nx V=V e:=h;unfold Br at h;dsimp only at h;split at h
   ·exact fin (oJ (Ce (K:=V) (λd=>V (gd.val d))).symm h)
   ·cases h
  ·cases ho
def Za(l:aa Oper)(s s0:St):Prop:=s0.R=s.R/\∀u d,(∀o∈l,o.dst≠V u)->cQ s.E u=V d->cQ s0.E u=V d
def nh{s:St}{t:Nat}{b:Bool}(ht:t<4095)(h:cQ s.E t=V (.lit (.bool b))){u:Nat}{d:AV}(hu:cQ s.E u=V d):cQ (s.fW t b).E u=V d:=by
 show cQ (mE t (.b b) s.E) u=_;rw[Au ht];split
 ·rename_i e;subst e;rw[h]at hu;exact hu
 ·exact hu
def Ft(hN:dX F)(hp:∀f∈fs,bw F f){ops:Array Oper}(hops:∀o∈ops.toList,HJ o.dst=O):∀(l:aa Oper) {s s0:St},(∀o∈l,Mg fs o.op=O/\HJ o.dst=O)->eX P F n ops l s V=V s0->Za l s s0
 |[],s,s0,_,h=>by cases h;exact⟨rfl,λu d _ hu=>hu⟩
 |o::l,s,s0,hl,h=>by
  have ho:=hl o zo;have hl':=λo' h'=>hl o' (zO _ h');change Ln P F n ops o (eX P F n ops l) s V=V s0 at h;unfold Ln at h;split at h
  case h_2=>cases h
  have putG:∀{s2:St} {d:AV} {nx':Nat},eX P F n ops l ⟨rQ o.dst d s2.E,s2.R,nx'⟩ V=V s0->s2.R=s.R->(∀u d,cQ s.E u=V d->cQ s2.E u=V d)->Za (o::l) s s0:=λ{s2 d nx'} h1 h2 h3=>by
   obtain⟨q1,q2⟩:=Ft hN hp hops l hl' h1;refine⟨q1.trans h2,λu d' hu hd=>q2 u d' (λo' h'=>hu o' (zO _ h')) ?_⟩;show cQ (rQ o.dst d s2.E) u=V d';have hne:=hu o zo;have hod:=ho.2;unfold rQ;split
   ·exact h3 u d' hd
   ·rename_i t ht;rw[ht]at hod hne;rw[Au (by simpa [HJ]using hod),bO (λe=>hne (by rw[e]))];exact h3 u d' hd
  have yes:∀s1:St,atY P F o (eX P F n ops l) V s1=V s0->s1.R=s.R->(∀u d,cQ s.E u=V d->cQ s1.E u=V d)->Za (o::l) s s0:=λs1 h1 h2 h3=>by
   obtain⟨E1,R1,nx1⟩:=s1;have h1:opF o.op P F o.dst E1 R1 nx1 (eX P F n ops l) V=V s0:=h1;have e1:=Ig P F o ⟨E1,R1,nx1⟩ (eX (α:=St) P F n ops l) V;dsimp only at e1;rw[e1]at h1;have go:∀s2:St,rDo P F o (eX P F n ops l) V s2=V s0->s2.R=s.R->(∀u d,cQ s.E u=V d->cQ s2.E u=V d)->Za (o::l) s s0:=λs2 g1 g2 g3=>by
    unfold rDo at g1;rw[ZM ho.1]at g1;obtain⟨E2,R2,nx2⟩:=s2;have g1:mN o.op P F (Gd E2) (gp R2) R2 nx2 (JV o.dst E2 R2 nx2 (eX P F n ops l) V)=V s0:=g1;have g4:(mN o.op P F (Gd E2) (gp R2) R2 nx2 V).bind (JV o.dst E2 R2 nx2 (eX P F n ops l) V)=V s0:=(AQ _ hN ..).trans g1;obtain⟨e,g5,g6⟩:=zq.1 g4;obtain⟨d,nx',he⟩:=Vt hN hp ho.1 g5;rcases he with he|he
    ·subst he;exact putG (s2:=⟨E2,R2,nx2⟩) g6 g2 g3
    ·subst he;exact putG (s2:=⟨E2,R2,nx2⟩) g6 g2 g3
   unfold By at h1;split at h1
   ·rename_i t a b hop;have ht:t<4095:=by
     have:=ho.1;rw[hop]at this;simpa [Mg,yC]using this
    split at h1
    ·rename_i b hb;split at h1
     ·exact go _ h1 h2 λu d hu=>nh (s:=⟨E1,R1,nx1⟩) ht hb (h3 u d hu)
     ·exact go _ h1 h2 λu d hu=>nh (s:=⟨E1,R1,nx1⟩) ht hb (h3 u d hu)
    ·cases h1
   ·exact go _ h1 h2 h3
  have no:∀s1:St,rNo o.dst (eX P F n ops l) V s1=V s0->s1.R=s.R->(∀u d,cQ s.E u=V d->cQ s1.E u=V d)->Za (o::l) s s0:=λs1 h1 h2 h3=>by
   have:rNo o.dst (eX P F n ops l) V s1=eX P F n ops l ⟨rQ o.dst (.lit undef) s1.E,s1.R,s1.nx⟩ V:=by
    unfold rNo rQ;cases o.dst<;>rfl
   rw[this]at h1;exact putG (s2:=s1) h1 h2 h3
  unfold gate at h;split at h
  ·exact yes s h rfl λ_ _ h=>h
  ·rename_i j want hg;split at h
   ·cases h
   ·rename_i t hj;have ht:t<4095:=by
     obtain⟨o',ho',hd'⟩:=zq.1 hj;have hm:o'∈ops.toList:=Array.mem_toList_iff.2 (Array.mem_of_getElem? ho');have:=hops o' hm;rw[hd']at this;simpa [HJ,yC]using this
    split at h
    ·rename_i b hb;split at h
     ·split at h
      ·exact yes _ h rfl λu d hu=>nh ht hb hu
      ·exact no _ h rfl λu d hu=>nh ht hb hu
     ·split at h
      ·exact no _ h rfl λu d hu=>nh ht hb hu
      ·exact yes _ h rfl λu d hu=>nh ht hb hu
    ·exact no _ h rfl λ_ _ h=>h
    ·cases h
def azw(fs:aa Nat)(t:Nat)(E:ET)(ops:aa Oper):Bool:=zG t 4095&&ops.all λo=>Mg fs o.op&&HJ o.dst&&match o.dst with
 |some u=>zf u t||match cQ E u with
  |none=>O
  |some _=>S
 |none=>O
def rbK(t:Nat)(s:St):af Bool:=match cQ s.E t with
 |some (.lit (.bool b))=>V b
 |_=>G
def RM{α:Type}(P:Program)(F:aZ)(n:Nat)(fs:aa Nat)(t:Nat)(ops:Array Oper)(s:St)(k:gy α):af α:=match azw fs t s.E ops.toList with
 |true=>match eX (α:=Bool) P F n ops ops.toList s (rbK t)with
  |some b=>k .normal ⟨mE t (.b b) s.E,s.R,s.nx⟩
  |none=>G
 |false=>G
def Env.sU{T:ET}:∀(E:Env) (u:Nat) (d:AV),Env.get (E.filter λp=>@J (cQ T p.1=V p.2) (Classical.propDecidable _)) u=V d->cQ T u=V d
 |[],_,_,h=>by cases h
 |(k,v)::E,u,d,h=>by
  by_cases hk:cQ T k=V v
  ·rw[yU,bE (by simp[hk])]at h;by_cases hku:k=u
   ·subst hku;rw[Env.fk]at h;cases h;exact hk
   ·rw[Env.dV _ _ hku]at h;exact Env.sU E u d h
  ·rw[yU,bO (by simp[hk])]at h;exact Env.sU E u d h
def Env.pY{T:ET}:∀(E:Env) (u:Nat) (d:AV),cQ T u=V d->E.get u=V d->Env.get (E.filter λp=>@J (cQ T p.1=V p.2) (Classical.propDecidable _)) u=V d
 |[],_,_,_,h=>by cases h
 |(k,v)::E,u,d,ht,h=>by
  by_cases hku:k=u
  ·subst hku;rw[Env.fk]at h;cases h;rw[yU,bE (by simp[ht])];exact Env.fk _ _ _
  ·rw[Env.dV _ _ hku]at h;rw[yU];split
   ·rw[Env.dV _ _ hku];exact Env.pY E u d ht h
   ·exact Env.pY E u d ht h
def W6{α:Type}{C:Cg}(hF:iD P F)(hN:dX F)(hp:∀f∈fs,bw F f)(id t:Nat)(ops:Array Oper):W9 (α:=α) P C n (.region id ops S) (RM P F n fs t ops):=λr s k a w h hm=>by
 unfold RM at h;split at h
 case h_2=>cases h
 rename_i hrb;split at h
 case h_2=>cases h
 rename_i b hb;unfold azw at hrb;rw[zi,yC]at hrb;obtain⟨ht,hall⟩:=hrb;have hall:∀o∈ops.toList,(Mg fs o.op=O/\HJ o.dst=O)/\∀u,o.dst=V u->u=t\/cQ s.E u=G:=λo ho=>by
  have h1:=zw.1 hall o ho;rw[zi,zi]at h1;refine⟨h1.1,λu hu=> ?_⟩;have h2:=h1.2;rw[hu]at h2;dsimp only at h2;rw[yM]at h2;rcases h2 with h2|h2
  ·exact .inl (gz h2)
  ·right;split at h2
   ·assumption
   ·cases h2
 have hnat:=rE hN (P:=P) (n:=n) (ops:=ops) (rbK t) ops.toList s V;have hb':(eX P F n ops ops.toList s V).bind (rbK t)=V b:=hnat.trans hb;obtain⟨s0,h1,h2⟩:=zq.1 hb';obtain⟨q1,q2⟩:=Ft hN hp (λo ho=>(hall o ho).1.2) ops.toList (λo ho=>(hall o ho).1) h1;have hend:Ends P C n (.region id ops S) (λe s'=>match e with
  | .normal=>V s'
  |_=>G) s0 a w:=by
  refine wp_mono (wp_region_lit (Ev hF _ h1 hm)) λe a' w' ⟨he,_,s',h3,h4⟩=> ?_;subst he;exact⟨s',h3,h4⟩
 refine wp_mono hend λe a' w' ⟨s',h3,h4⟩=> ?_;cases e<;>first|(cases h3;done)|skip
 have h3:V s'=V s0:=h3;cases h3;refine⟨_,h,?_⟩;have hbt:cQ s0.E t=V (.b b):=by
  unfold rbK at h2;split at h2
  ·rename_i b' hb';cases h2;exact hb'
  ·cases h2
 obtain⟨E,hh,hE,hR,ρ,hag,hsim⟩:=hm;obtain⟨E0,hh0,hE0,hR0,ρ0,hag0,hsim0⟩:=h4
 let E1:Env:=(t, .b b)::E.filter λp=>@J (cQ s.E p.1=V p.2) (Classical.propDecidable _)
 have hkey:∀u d,E1.get u=V d->cQ s0.E u=V d:=λu d hu=>by
  by_cases htu:t=u
  ·subst htu;rw[Env.fk]at hu;cases hu;exact hbt
  ·rw[Env.dV _ _ htu]at hu;have h5:=Env.sU E u d hu;refine q2 u d (λo ho hd=> ?_) h5;rcases (hall o ho).2 u hd with h6|h6
   ·exact htu h6.symm
   ·rw[h5]at h6;cases h6
 refine⟨E1,λu d hu=> ?_,Env.um (λp hp=>hE p (zZ.1 hp).1) (.lit _),hR,ρ0,⟨hag0.1,hag.2⟩,?_⟩
 ·have hu:cQ (mE t (.b b) s.E) u=V d:=hu;rw[Au ht]at hu;split at hu
  ·rename_i e;rw[<-e,<-zA.inj hu];exact Env.fk _ _ _
  ·rename_i e;show Env.get ((t,_)::_) u=_;rw[Env.dV _ _ e];exact Env.pY E u d hu (hh u d hu)
 ·rw[q1]at hsim0;refine⟨hsim0.defers,hsim0.size,λu av hu=> ?_,hsim0.good⟩;rw[Env.fh]at hu;obtain⟨d,hd,rfl⟩:=zk.1 hu;exact hsim0.slots u _ (by rw[Env.fh,hh0 u d (hkey u d hd)];rfl)
end
inductive An:Type 1
 |no
 |two (l r:An)
 |lp (γ:Type) (rd:St->Option γ) (pat:γ->St) (GF:γ->Option γ) (body:An)
 |jn (γ:Type) (rd:St->Option γ) (pat:γ->St) (l r:An)
 |rb (fs:List Nat) (t:Nat)
def An.l:An->An
 | .two l _=>l
 | .jn _ _ _ l _=>l
 |_=> .no
def An.r:An->An
 | .two _ r=>r
 | .jn _ _ _ _ r=>r
 |_=> .no
abbrev noTwo(a:An):An:= .two .no a
abbrev XT:=An->(α:Type)->St->gy α->af α
def aCX{γ:Type}(b:Bool)(p q:γ):γ:=match b with
 |true=>p
 |false=>q
def rT{γ:Type}(rd:St->af γ):gy (af γ):=λe s=>match e with
 | .normal=>(rd s).map V
 |_=>V G
def aqj{γ:Type}(rd:St->af γ):gy γ:=λe s=>match e with
 | .normal=>rd s
 |_=>G
def aa7{γ α:Type}(rd:St->af γ)(pat:γ->St)(c:Operand)(s:St)(x y:(α:Type)->St->gy α->af α)(k:gy α):af α:=match c with
 | .tmp t=>match cQ s.E t with
  |some (.lit (.bool b))=>match x γ (s.fW t O) (aqj rd)with
   |some p=>match y γ (s.fW t S) (aqj rd)with
    |some q=>k .normal (pat (aCX b p q))
    |none=>G
   |none=>G
  |_=>G
 |_=>G
def awf(P:Program)(F:aZ)(n:Nat)(id:Nat)(ops:Array Oper)(draw:Bool):XT:=λan _ s k=>match an with
 | .rb fs t=>match draw with
  |false=>RM P F n fs t ops s k
  |true=>Bn P F n id ops O s k
 |_=>Bn P F n id ops draw s k
def avb(x y:XT):XT:=λan α s k=>x an.l α s (aji (y an.r α) k)
def arG(c:Operand)(x y:XT):XT:=λan α s k=>match an with
 | .jn _ rd pat l r=>aa7 rd pat c s (x l) (y r) k
 |an=>pZ c s (λs=>x an.l α s k) (λs=>y an.r α s k)
def ahx(id:Nat)(x:XT):XT:=λan α s k=>x an α s (tu id k)
def ap2(fuel:Nat)(x:XT):XT:=λan α s k=>match an with
 | .lp _ rd pat GF b=>match rd s with
  |some p=>match GF p with
   |some q=>x b α (pat q) (MU k λ_=>G)
   |none=>G
  |none=>G
 |an=>FL (x an α) k fuel s
def dQ(P:Program)(F:aZ)(n:Nat)(fuel:Nat)(c:Code):XT:=
 Code.rec (λ_ _ s k=>ZE s k) (awf P F n) (λ_ _=>avb) (λc _ _=>arG c) (λid _=>ahx id) (λ_=>ap2 fuel) (λ_ _ _ _ _ _ _ _ s k=>Gj s k) (λi _ _ s k=>ZV i s k) (λ_ _ _ _ s k=>Gj s k) (λ_ _ _ s k=>Gj s k) (λ_ _ _ s k=>Gj s k) (λ_ _ s k=>ak4 s k) (λ_ _ _ s k=>Gj s k) c
def rW{γ:Type}(n0 n:Nat)(rd:St->af γ)(pat:γ->St):Prop:=∀(C:Cg) s p a w,C.n=n0->rd s=V p->Mt C n s a w->Mt C n (pat p) a w
def Us{γ:Type}(x:XT)(rd:St->af γ)(pat:γ->St)(b:An):Nat->γ->γ->Prop
 |0,p,q=>p=q
 |n+1,p,q=>∃p',x b (af γ) (pat p) (rT rd)=V (V p')/\Us x rd pat b n p' q
def SD{γ:Type}(x:XT)(rd:St->af γ)(pat:γ->St)(GF:γ->af γ)(b:An):Prop:=
 ∀p q,GF p=V q->∃n,Us x rd pat b n p q
def LW(P:Program)(F:aZ)(n0 n:Nat)(fuel:Nat)(c:Code):An->Prop:=
 Code.rec (λ_=>True) (λ_ _ _ an=>match an with
  | .rb fs _=>∀f∈fs,bw F f
  |_=>True) (λ_ _ x y an=>x an.l/\y an.r) (λ_ _ _ x y an=>(∀γ rd pat l r,an= .jn γ rd pat l r->rW n0 n rd pat)/\x an.l/\y an.r) (λ_ _ x=>x)
  (λc x an=>match an with
   | .lp _ rd pat GF b=>rW n0 n rd pat/\SD (dQ P F n fuel c) rd pat GF b/\x b
   |an=>x an) (λ_ _ _ _ _ _ _=>True) (λ_ _=>True) (λ_ _ _=>True) (λ_ _=>True) (λ_ _=>True) (λ_=>True) (λ_ _=>True) c
section
variable {P:Program} {F:aZ} {C:Cg} {n0 n:Nat}
def X6(hF:iD P F)(hN:dX F)(hC:C.n=n0)(fuel:Nat)(c:Code):∀an,LW P F n0 n fuel c an->∀(α:Type),W9 (α:=α) P C n c (dQ P F n fuel c an α):=by
 induction c with
 |skip=>exact λan _ α r s k a w h hm=>wp_skip ⟨s,h,hm⟩
 |region id ops draw=>
  intro an ho α;cases an with
  |rb fs t=>
   cases draw with
   |false=>exact W6 hF hN ho id t ops
   |true=>exact Ey hF hN id ops O
  |_=>exact Ey hF hN id ops draw
 |seq x y hx hy=>
  intro an ho α r s k a w h hm;obtain⟨h1,h2⟩:LW P F n0 n fuel x an.l/\LW P F n0 n fuel y an.r:=ho;refine wp_seq (wp_mono (hx an.l h1 α r s _ a w h hm) λe a' w' ⟨s',g1,g2⟩=> ?_);cases e with
  |normal=>exact hy an.r h2 α r s' k a' w' g1 g2
  |_=>exact⟨s',g1,g2⟩
 |cond c x y hx hy=>
  intro an ho α r s k a w h hm;obtain⟨h0,h1,h2⟩:(∀γ rd pat l r,an= .jn γ rd pat l r->rW n0 n rd pat)/\LW P F n0 n fuel x an.l/\LW P F n0 n fuel y an.r:=ho;have plain:pZ c s (λs=>dQ P F n fuel x an.l α s k) (λs=>dQ P F n fuel y an.r α s k)=V r->Ends P C n (.cond c x y) k r a w:=λh=>by
   obtain⟨b,s',he,hm',h'⟩:=Ng h hm;cases b with
   |true=>exact wp_cond_true he (hx an.l h1 α r s' k a w h' hm')
   |false=>exact wp_cond_false he (hy an.r h2 α r s' k a w h' hm')
  cases an with
  |jn γ rd pat l r'=>
   have hrd:=h0 γ rd pat l r' rfl;change aa7 rd pat c s (dQ P F n fuel x l) (dQ P F n fuel y r') k=V r at h;unfold aa7 at h;split at h
   case h_2=>cases h
   rename_i t;split at h
   case h_2=>cases h
   rename_i b hb;split at h
   case h_2=>cases h
   rename_i p hp;split at h
   case h_2=>cases h
   rename_i q hq;have hev:a.eval (.tmp t)= .bool b:=by
    obtain⟨E,hh,_,_,ρ,_,hs⟩:=hm;refine SX hs ?_;have g1:=hh t _ hb;show Env.get (E.sub ρ) t=_;rw[Env.fh,g1,yx,bW]
   have fin:∀(p:γ),k .normal (pat p)=V r->∀e a' w',(∃s',aqj rd e s'=V p/\Mt C n s' a' w')->∃s',k e s'=V r/\Mt C n s' a' w':=λp hk e a' w' ⟨s',g1,g2⟩=>by
    cases e with
    |normal=>exact⟨_,hk,hrd C s' p a' w' hC g1 g2⟩
    |_=>cases g1
   cases b with
   |true=>exact wp_cond_true hev (wp_mono (hx l h1 γ p _ _ a w hp (hm.fW hb)) (fin p h))
   |false=>exact wp_cond_false hev (wp_mono (hy r' h2 γ q _ _ a w hq (hm.fW hb)) (fin q h))
  |_=>exact plain h
 |block id x hx=>
  intro an ho α r s k a w h hm;refine wp_block (wp_mono (hx an ho α r s _ a w h hm) λe a' w' ⟨s',h1,h2⟩=> ?_);cases e with
  |exit id'=>
   simp only[tu]at h1;simp only[Exit.inBlock];split
   ·rename_i he;subst he;have hb:zf id' id'=O:=Nat.beq_refl _;simp only[hb]at h1;exact⟨s',h1,h2⟩
   ·rename_i he;have hb:zf id' id=S:=by
     cases hb:zf id' id with
     |false=>rfl
     |true=>exact dD (xh hb) he
    simp only[hb]at h1;exact⟨s',h1,h2⟩
  |_=>exact⟨s',h1,h2⟩
 |loop c hc=>
  intro an ho α r s k a w h hm;cases an with
  |lp γ rd pat GF b=>
   obtain⟨hrd,hadv,hb⟩:rW n0 n rd pat/\SD (dQ P F n fuel c) rd pat GF b/\LW P F n0 n fuel c b:=ho;change (match rd s with
    |some p=>match GF p with
     |some q=>dQ P F n fuel c b α (pat q) (MU k λ_=>G)
     |none=>G
    |none=>G)=V r at h
   split at h
   case h_2=>cases h
   rename_i p hp;split at h
   case h_2=>cases h
   rename_i q hq;obtain⟨m,hgo⟩:=hadv p q hq;have key:∀(m:Nat) (p:γ),Us (dQ P F n fuel c) rd pat b m p q->∀(a:Act) (w:World),Mt C n (pat p) a w->
     c.wp P (Exit.then (InL P c λe a' w'=>∃s',k e s'=V r/\Mt C n s' a' w') λe a' w'=>∃s',k e s'=V r/\Mt C n s' a' w') a w:=by
    intro m;induction m with
    |zero=>
     intro p hg a w hm;have hg:p=q:=hg;subst hg;refine wp_mono (hc b hb α r _ _ a w h hm) λe a' w' ⟨s',q1,q2⟩=> ?_;cases e with
     |normal=>cases q1
     |_=>exact⟨s',q1,q2⟩
    |succ m ih=>
     intro p hg a w hm;obtain⟨p',g1,g3⟩:=hg;refine wp_mono (hc b hb (af γ) (V p') _ _ a w g1 hm) λe a' w' ⟨s',q1,q2⟩=> ?_;cases e with
     |normal=>
      obtain⟨p'',q3,q4⟩:=zk.1 (show (rd s').map V=V (V p')from q1);cases q4;exact LA (ih p' g3 a' w' (hrd C s' p' a' w' hC q3 q2))
     |_=>cases q1
   exact GS (key m p hgo a w (hrd C s p a w hC hp hm))
  |_=>exact Hz (hc _ ho α) fuel r s k a w h hm
 |exit i=>exact λan _ α r s k a w h hm=>wp_exit ⟨s,h,hm⟩
 |ret=>exact λan _ α r s k a w h hm=>wp_ret ⟨s,h,hm⟩
 |_=>exact λan _ α r s k a w h hm=>by cases h
def bL(P:Program)(F:aZ)(fuel:Nat)(an:An){α:Type}(f:FuncId)(args:aa AV)(R:bg)(nx:Nat)(k:St->af α):af α:=match P.funcs[f]? with
 |some fn=>match fn.body with
  |some c=>match yl args.length fn.ntmps&& !(fn.name=="runtime.NumGoroutine")with
   |true=>dQ P F fn.ntmps fuel c an α ⟨Of 0 args .e,R,nx⟩ λe s=>match e with
    | .normal=>k s
    | .ret=>k s
    |_=>G
   |false=>G
  |none=>G
 |none=>G
def cR(P:Program)(F:aZ)(n0:Nat)(fuel:Nat)(f:FuncId)(an:An):Prop:=∀fn c,P.funcs[f]? =V fn->fn.body=V c->LW P F n0 fn.ntmps fuel c an
def DR(P:Program)(f:FuncId)(s:St):af (aa AV):=match P.funcs[f]? with
 |some fn=>Gm P s fn.results.toList
 |none=>G
structure Out where
 d:AV
 R:bg
 c:Nat
def K7(P:Program)(f:FuncId)(args:aa AV)(R0:bg)(n0:Nat)(x:Out):Prop:=∀ρ:Gh,Fn P f (args.map (cc.sub ρ)) (bg.res ρ R0) (λa s=>∃ρ':Gh,oS n0 ρ ρ'/\a=x.d.sub ρ'/\List.Perm s (bg.res ρ' x.R))
def jK(hF:aQ P F){n0 fuel:Nat}{f:FuncId}{an:An}(han:cR P F n0 fuel f an){args:aa AV}{R0:bg}{γ:Type}{rd:St->af γ}{pat:γ->St}{out:γ->Out}{p:γ}
  (hrd:∀n,rW n0 n rd pat) (ho:∀p,(match DR P f (pat p)with
   |some ds=>V (Out.mk (gL ds) (FZ (pat p).R n0 (gL ds)) (pat p).nx)
   |none=>G)=V (out p))
  (hargs:∀d∈args,cS n0 d) (hR:bg.cS n0 R0) (h:bL P F fuel an f args R0 n0 rd=V p):th P f/\K7 P f args R0 n0 (out p):=by
 unfold bL at h;split at h
 case h_2=>cases h
 rename_i fn hf;split at h
 case h_2=>cases h
 rename_i c hb;split at h
 case h_2=>cases h
 rename_i hc;rw[zi]at hc;obtain⟨hl,hnm⟩:=hc;have hop:=ho p;split at hop
 case h_2=>cases hop
 rename_i ds hds;have hds:Gm P (pat p) fn.results.toList=V ds:=by
  unfold DR at hds;rw[hf]at hds;exact hds
 have hop:=zA.inj hop;refine⟨⟨fn,hf,by simpa using hnm,by rw[hb];rfl⟩,λρ=>Fn.of hf hb rfl (by rw[zx];exact hl) λC a w ha=> ?_⟩;have hm:Mt ⟨C,ρ,n0⟩ fn.ntmps ⟨Of 0 args .e,R0,n0⟩ a w:=by
  refine⟨fq 0 args,?_,λq hq=>hargs _ (pR hq),hR,ρ,⟨.refl _ _,zn _⟩,?_⟩
  ·have:=v8 args 0 .e [] (λt d ht=>by cases t<;>cases ht) (λt d ht=>by cases t<;>cases ht)
   rwa [yy]at this
  ·rw[pW];exact ha
 refine wp_mono (X6 (C:=⟨C,ρ,n0⟩) hF.ok hF.nat rfl fuel c an (han fn c hf hb) γ p _ _ a w h hm) λe a' w' ⟨s',h1,h2⟩=> ?_;have fin:∀e:Exit,(e= .normal\/e= .ret)->rd s'=V p->∃E' σ',tV C fn.ntmps E' σ' a' w'/\adm P C fn.ntmps fn (λa s=>∃ρ':Gh,oS n0 ρ ρ'/\a=(out p).d.sub ρ'/\List.Perm s (bg.res ρ' (out p).R)) e E' σ':=λe he hp=>by
  have hm':=hrd fn.ntmps ⟨C,ρ,n0⟩ s' p a' w' rfl hp h2;obtain⟨E,hh,hE,hR,ρ',⟨hag,hnx⟩,hsim⟩:=hm';have hsub:List.Sublist (FZ (pat p).R n0 (gL ds)) (pat p).R:=vX _ _ _;refine⟨_,_,hsim,Yl (σ':=bg.res ρ' (FZ (pat p).R n0 (gL ds))) (av:=(gL ds).sub ρ') he (hsub.map _) ⟨ρ',hag,by rw[<-hop],by rw[<-hop]⟩ λA w' tmps hd hs=> ?_⟩;obtain⟨us,q1,q2⟩:=Ic hh hd hs hds;refine⟨_,?_,NL q2⟩;show (do let vs <-fn.results.mapM (tI tmps);pure (if h:vs.size=1 then vs[0]else .tuple vs):Sem Value).run P w'=_;have e1:fn.results=fn.results.toList.toArray:=by simp
  rw[e1,List.mapM_toArray];simp[q1]
 cases e with
 |normal=>exact fin _ (.inl rfl) h1
 |ret=>exact fin _ (.inr rfl) h1
 |_=>cases h1
end
section
variable {γ:Type} (rnd:γ->af (af γ))
def lX:Nat->γ->γ->Prop
 |0,p,q=>p=q/\∀r,rnd p≠V (V r)
 |n+1,p,q=>∃p',rnd p=V (V p')/\lX n p' q
open Classical in
def bJ(p:γ):af γ:=if h:∃q n,lX rnd n p q then V (Classical.choose h)else G
variable {rnd}
def lX.det:∀{n m:Nat} {p q q':γ},lX rnd n p q->lX rnd m p q'->n=m/\q=q'
 |0,0,p,q,q',⟨h1,_⟩,⟨h2,_⟩=>⟨rfl,h1▸h2⟩
 |0,m+1,p,q,q',⟨h1,h3⟩,⟨p',h2,_⟩=>dD h2 (h3 p')
 |n+1,0,p,q,q',⟨p',h2,_⟩,⟨h1,h3⟩=>dD h2 (h3 p')
 |n+1,m+1,p,q,q',⟨p',h1,h2⟩,⟨p'',h3,h4⟩=>by
  rw[h1]at h3;cases h3;obtain⟨e1,e2⟩:=lX.det h2 h4;exact⟨by rw[e1],e2⟩
def lX.GF{n:Nat}{p q:γ}(h:lX rnd n p q):bJ rnd p=V q:=by
 have hx:∃q n,lX rnd n p q:=⟨q,n,h⟩;unfold bJ;rw[dif_pos hx];obtain⟨m,hm⟩:=Classical.choose_spec hx;rw[(lX.det hm h).2]
def lX.last{n:Nat}{p q:γ}(h:lX rnd n p q):∀r,rnd q≠V (V r):=by
 induction n generalizing p with
 |zero=>obtain⟨h1,h2⟩:=h;rw[<-h1];exact h2
 |succ n ih=>obtain⟨p',_,h2⟩:=h;exact ih h2
def lX.ex(I:γ->Prop)(m:γ->Nat)(h:∀p q,I p->rnd p=V (V q)->I q/\m q<m p):∀(k:Nat) (p:γ),m p<=k->I p->∃n q,lX rnd n p q/\I q
 |k,p,hk,hp=>by
  by_cases hq:∃q,rnd p=V (V q)
  ·obtain⟨q,hq⟩:=hq;obtain⟨h1,h2⟩:=h p q hp hq
   match k with
   |0=>omega
   |k+1=>
    obtain⟨n,r,h3,h4⟩:=lX.ex I m h k q (by omega) h1;exact⟨n+1,r,⟨q,hq,h3⟩,h4⟩
  ·exact⟨0,p,⟨rfl,λr hr=>hq ⟨r,hr⟩⟩,hp⟩
def AH{p q:γ}(h:bJ rnd p=V q):∃n,lX rnd n p q:=by
 unfold bJ at h;split at h
 ·rename_i hx;cases h;exact Classical.choose_spec hx
 ·cases h
def lB(I:γ->Prop)(m:γ->Nat)(h:∀p q,I p->rnd p=V (V q)->I q/\m q<m p){p:γ}(hp:I p):∃q,bJ rnd p=V q/\I q/\∀r,rnd q≠V (V r):=by
 obtain⟨n,q,h1,h2⟩:=lX.ex I m h (m p) p (zn _) hp;exact⟨q,h1.GF,h2,h1.last⟩
def bM{p p':γ}(h:rnd p=V (V p')):bJ rnd p=bJ rnd p':=by
 cases h2:bJ rnd p' with
 |some q=>
  obtain⟨n,hn⟩:=AH h2;exact(show lX rnd (n+1) p q from⟨p',h,hn⟩).GF
 |none=>
  cases h1:bJ rnd p with
  |none=>rfl
  |some q=>
   obtain⟨n,hn⟩:=AH h1;cases n with
   |zero=>exact dD h (hn.2 p')
   |succ n=>
    obtain⟨p'',h3,h4⟩:=hn;rw[h]at h3;cases h3;rw[h4.GF]at h2;cases h2
def b9{p:γ}(h:∀r,rnd p≠V (V r)):bJ rnd p=V p:=(show lX rnd 0 p p from⟨rfl,h⟩).GF
def lX.x{x:XT}{rd:St->af γ}{pat:γ->St}{b:An}(hx:∀p,x b (af γ) (pat p) (rT rd)=rnd p):∀{n:Nat} {p q:γ},lX rnd n p q->Us x rd pat b n p q
 |0,_,_,h=>h.1
 |_+1,_,_,⟨p',h1,h2⟩=>⟨p',by rw[hx];exact h1,lX.x hx h2⟩
def dh{x:XT}{rd:St->af γ}{pat:γ->St}{b:An}(hx:∀p,x b (af γ) (pat p) (rT rd)=rnd p):SD x rd pat (bJ rnd) b:=λp q h=>by
 obtain⟨n,hn⟩:=AH h;exact⟨n,hn.x hx⟩
end
end Go.Iv
end
noncomputable section
namespace Go.Iv
variable [U:qO] [L:mI]
open Go Go.RowKit
section
variable {β γ δ:Type}
def PN(f:AV->af β)(c:β->AV):Prop:=∀a b,f a=V b->(∀(ρ:Gh) A w v,Rel A w (a.sub ρ) v->Rel A w ((c b).sub ρ) v)/\∀n,cS n a->cS n (c b)
def PN.of{f:AV->af β}{c:β->AV}(h:P1 f c)(hc:∀a b,f a=V b->Gf 2 a=O)(hl:∀b,(∀ρ,(c b).sub ρ=c b)/\∀n,cS n (c b)):PN f c:=λa b hb=>
 ⟨λρ A w v hr=>by rw[jZ 2 (hc a b hb)]at hr;rw[(hl b).1];exact h a b hb A w v hr,λn _=>(hl b).2 n⟩
def PN.i(k:IntKind):PN (iw k) (cc.n k):= .of (.i k) (λa b h=>by
 unfold iw at h;split at h
 ·rfl
 ·cases h) λb=>⟨λρ=>bW ρ _,λn=> .lit _⟩
def PN.b:PN PM cc.b:= .of .b (λa b h=>by
 unfold PM at h;split at h
 ·rfl
 ·cases h) λb=>⟨λρ=>bW ρ _,λn=> .lit _⟩
def PN.s:PN asS cc.s:= .of .s (λa b h=>by
 unfold asS at h;split at h
 ·rfl
 ·cases h) λb=>⟨λρ=>bW ρ _,λn=> .lit _⟩
def PN.l(t:Nat):PN (jS t) (cc.sl t):= .of (.l t) (λa b h=>by
 unfold jS at h;split at h
 ·rfl
 ·rfl
 ·cases h) λb=>⟨λρ=>gI ρ _ _,λn=> .sl _ _⟩
def ady(t:Nat):AV->af (U.dz t)
 | .agg cs=>match cs.all (Gf 1)with
  |true=>L.parse t cs
  |false=>G
 |_=>G
def PN.g(t:Nat):PN (ady t) (λx=> .agg (U.cells t x)):= .of (λa b h A w v hr=>by
 unfold ady at h;split at h
 ·split at h
  ·obtain⟨us,rfl,h2⟩:=hr.oD;exact Rel.oN (L.lF _ _ _ h A w us h2)
  ·cases h
 ·cases h) (λa b h=>by
 unfold ady at h;split at h
 ·split at h
  ·rename_i hc;exact hc
  ·cases h
 ·cases h) λb=>⟨λρ=>by rw[fo,L.clo],λn=> .agg _ (L.qT t b n)⟩
def asP(id off:Nat):AV->af Unit
 | .ptr i o=>match zf i id&&zf o off with
  |true=>V ()
  |false=>G
 |_=>G
def PN.p(id off:Nat):PN (asP id off) (λ_=> .ptr id off):=λa b h=>by
 unfold asP at h;split at h
 ·split at h
  ·rename_i hc;rw[zi]at hc;rw[gz hc.1,gz hc.2];exact⟨λ_ _ _ _ h=>h,λ_ h=>h⟩
  ·cases h
 ·cases h
def asO(id:Nat):AV->af Unit
 | .own i=>match zf i id with
  |true=>V ()
  |false=>G
 |_=>G
def PN.o(id:Nat):PN (asO id) (λ_=> .own id):=λa b h=>by
 unfold asO at h;split at h
 ·split at h
  ·rename_i hc;rw[gz hc];exact⟨λ_ _ _ _ h=>h,λ_ h=>h⟩
  ·cases h
 ·cases h
def OK(q:aa AV->af γ)(c:γ->aa AV):Prop:=∀cs g,q cs=V g->(∀(ρ:Gh) A w us,bN A w (cs.map (cc.sub ρ)) us->bN A w ((c g).map (cc.sub ρ)) us)/\∀n,(∀a∈cs,cS n a)->∀a∈c g,cS n a
def OK.nil:OK oU (λ_=>[]):=λcs g h=>by
 unfold oU at h;split at h
 ·exact⟨λρ A w us hr=>hr,λn h=>h⟩
 ·cases h
def OK.cons{f:AV->af β}{c:β->AV}{q:aa AV->af γ}{d:γ->aa AV}(h:PN f c)(hq:OK q d):OK (dU f q) (λx=>c x.1::d x.2):=λcs g hg=>by
 unfold dU at hg;split at hg
 ·obtain⟨b,h1,hg⟩:=zq.1 hg;obtain⟨g',h2,rfl⟩:=zk.1 hg;obtain⟨h3,h4⟩:=h _ _ h1;obtain⟨h5,h6⟩:=hq _ _ h2;refine⟨λρ A w us hr=> ?_,λn hn a ha=> ?_⟩
  ·rw[ye]at hr ⊢;obtain⟨v,us',rfl,h7,h8⟩:=hr.head;exact bN.cons (h3 ρ A w v h7) (h5 ρ A w us' h8)
  ·rcases zD.1 ha with rfl|ha
   ·exact h4 n (hn _ zo)
   ·exact h6 n (λa ha=>hn a (zO _ ha)) a ha
 ·cases hg
def apu(k:Nat)(q:aa AV->af γ):AV->af γ
 | .fn (.func i) cs=>match zf i k with
  |true=>q cs
  |false=>G
 |_=>G
def PN.ff(k:Nat){q:aa AV->af γ}{c:γ->aa AV}(h:OK q c):PN (apu k q) (λx=> .fn (.func k) (c x)):=λa b hb=>by
 unfold apu at hb;split at hb
 ·rename_i i cs;split at hb
  ·rename_i hi;have hi:=gz hi;subst hi;obtain⟨h1,h2⟩:=h _ _ hb;refine⟨λρ A w v hr=> ?_,λn hn=> .fn _ _ (h2 n hn.fnL)⟩;rw[tS]at hr ⊢;generalize ha:cc.fn (Fn.func i) (cs.map (cc.sub ρ))=a at hr;cases hr with
   |fn f cs' us hl hr=>
    cases ha;obtain⟨h3,h4⟩:=h1 ρ A w us ⟨hl,hr⟩;exact .fn _ _ us h3 h4
   |_=>cases ha
  ·cases hb
 ·cases hb
def atd(q:aa AV->af γ):AV->af γ
 | .fp cs=>q cs
 |_=>G
def PN.fp{q:aa AV->af γ}{c:γ->aa AV}(h:OK q c):PN (atd q) (λx=> .fp (c x)):=λa b hb=>by
 unfold atd at hb;split at hb
 ·rename_i cs;obtain⟨h1,h2⟩:=h _ _ hb;refine⟨λρ A w v hr=> ?_,λn hn=> ?_⟩
  ·rw[mq]at hr ⊢;generalize ha:cc.fp (cs.map (cc.sub ρ))=a at hr;cases hr with
   |fp cs' b o us hb hA hl hc hr=>
    cases ha;obtain⟨h3,h4⟩:=h1 ρ A w us ⟨hl,hr⟩;exact .fp _ b o us hb hA h3 hc h4
   |_=>cases ha
  ·generalize ha:cc.fp cs=a at hn;cases hn with
   |fp cs' h5=>cases ha;exact .fp _ (h2 n h5)
   |_=>cases ha
 ·cases hb
def arq:AV->af Unit
 | .lit (.slice G 0 0)=>V ()
 |_=>G
def PN.ns:PN arq (λ_=> .lit (.slice G 0 0)):=λa b hb=>by
 unfold arq at hb;split at hb
 ·exact⟨λ_ _ _ _ h=>h,λ_ h=>h⟩
 ·cases hb
def apr:AV->af Unit
 | .lit (.pointer G)=>V ()
 |_=>G
def PN.np:PN apr (λ_=> .lit (.pointer G)):=λa b hb=>by
 unfold apr at hb;split at hb
 ·exact⟨λ_ _ _ _ h=>h,λ_ h=>h⟩
 ·cases hb
def aoL(t:Nat)(cs:aa AV):af (U.dz t):=match cs.all (Gf 1)with
 |true=>L.parse t cs
 |false=>G
def OK.parse(t:Nat):OK (aoL t) (λx=>U.cells t x):=λcs g h=>by
 unfold aoL at h;split at h
 ·rename_i hc;have e:∀ρ,cs.map (cc.sub ρ)=cs:=λρ=>by
   have:cs.map (cc.sub ρ)=cs.map id:=zX λa ha=>jZ 1 (zw.1 hc a ha);rw[this,List.map_id]
  exact⟨λρ A w us hr=>by rw[e]at hr;rw[L.clo];exact L.lF _ _ _ h A w us hr,λn _=>L.qT t g n⟩
 ·cases h
def slN(_:ET):af Unit:=V ()
def slC(t:Nat)(f:AV->af β)(q:ET->af γ)(T:ET):af (β×γ):=match cQ T t with
 |some a=>(f a).bind λb=>(q T).map λg=>(b,g)
 |none=>G
def PO(q:ET->af γ)(d:γ->Env):Prop:=∀T g,q T=V g->∀(E:Env),tL T E->(∀(ρ:Gh) A w tmps,lN A w (E.sub ρ) tmps->lN A w ((d g).sub ρ) tmps)/\∀n,E.cS n->(d g).cS n
def PO.nil:PO slN (λ_=>[]):=λT g _ E _=>⟨λρ A w tmps _ t av h=>(by cases h),λn _ p hp=>(by cases hp)⟩
def PO.cons{t:Nat}{f:AV->af β}{c:β->AV}{q:ET->af γ}{d:γ->Env}(hf:PN f c)(hq:PO q d):PO (slC t f q) (λx=>(t,c x.1)::d x.2):=λT g h E hh=>by
 unfold slC at h;split at h
 case h_2=>cases h
 rename_i a ha;obtain⟨b,hb,h⟩:=zq.1 h;obtain⟨g',hg,rfl⟩:=zk.1 h;obtain⟨h1,h2⟩:=hf a b hb;obtain⟨h3,h4⟩:=hq T g' hg E hh;refine⟨λρ A w tmps hs s av hx=> ?_,λn hn p hp=> ?_⟩
 ·have hx:Env.get ((t,(c b).sub ρ)::(d g').sub ρ) s=V av:=hx;by_cases hts:t=s
  ·subst hts;rw[Env.fk]at hx;cases hx;obtain⟨v,q1,q2⟩:=hs t (a.sub ρ) (by rw[Env.fh,hh t a ha];rfl);exact⟨v,q1,h1 ρ A w v q2⟩
  ·rw[Env.dV _ _ hts]at hx;exact h3 ρ A w tmps hs s av hx
 ·rcases zD.1 hp with rfl|hp
  ·exact h2 n (hn _ (Env.get_mem (hh t a ha)))
  ·exact h4 n hn p hp
def arh(E:Env):ET:=List.rec .e (λp _ T=>mE p.1 p.2 T) E
def Bh:∀E:Env,tL (arh E) E
 |[]=>λt d h=>by cases t<;>cases h
 |p::E=>(Bh E).put p.1 p.2
def leR(p p':Nat×IR):Prop:=p.1=p'.1/\(∀(ρ:Gh) A w,(p.2.res ρ p.1).ok A w->(p'.2.res ρ p'.1).ok A w)/\(∀ρ:Gh,(p.2.res ρ p.1).blk=(p'.2.res ρ p'.1).blk)/\∀n,p.2.cS n->p'.2.cS n
inductive Kj:bg->bg->Prop
 |nil:Kj [] []
 |cons {p p':Nat×IR} {R R':bg} (h:leR p p') (hs:Kj R R'):Kj (p::R) (p'::R')
def rsN:bg->af Unit
 |[]=>V ()
 |_=>G
def rsR(id t:Nat)(q:bg->af γ):bg->af (aa (U.dz t)×γ)
 |(i, .row t' l)::R=>match zf i id with
  |true=>(u7 t' t l).bind λl=>(q R).map λg=>(l,g)
  |false=>G
 |_=>G
def Fh(q:bg->af γ)(d:γ->bg):Prop:=∀R g,q R=V g->Kj R (d g)
def Fh.nil:Fh rsN (λ_=>[]):=λR g h=>by
 cases R with
 |nil=>exact .nil
 |cons p R=>cases h
def Fh.row{id t:Nat}{q:bg->af γ}{d:γ->bg}(hq:Fh q d):Fh (rsR id t q) (λx=>(id, .row t x.1)::d x.2):=λR g h=>by
 obtain⟨i,t',l,R',rfl,hcd,h9⟩:∃i t' l R',R=(i,IR.row t' l)::R'/\zf i id=O/\((u7 t' t l).bind λl=>(q R').map λg=>(l,g))=V g:=by
  unfold rsR at h;split at h
  ·split at h
   ·rename_i hcd;exact⟨_,_,_,_,rfl,hcd,h⟩
   ·cases h
  ·cases h
 have e1:=gz hcd;subst e1;obtain⟨l',hl,h9⟩:=zq.1 h9;obtain⟨g',hg,rfl⟩:=zk.1 h9;obtain⟨rfl,rfl⟩:=nw hl;exact .cons ⟨rfl,λρ A w h=>h,λρ=>rfl,λn h=>h⟩ (hq _ _ hg)
def asu(id T:Nat)(f:aa AV->af β)(q:bg->af γ):bg->af (β×γ)
 |(i, .box T' cs)::R=>match zf i id&&zf T' T with
  |true=>(f cs).bind λb=>(q R).map λg=>(b,g)
  |false=>G
 |_=>G
def Fh.aEI{id T:Nat}{f:aa AV->af β}{c:β->aa AV}{q:bg->af γ}{d:γ->bg}(hf:OK f c)(hq:Fh q d):Fh (asu id T f q) (λx=>(id, .box T (c x.1))::d x.2):=λR g h=>by
 obtain⟨i,T',cs,R',rfl,hcd,h9⟩:∃i T' cs R',R=(i,IR.box T' cs)::R'/\(zf i id&&zf T' T)=O/\((f cs).bind λb=>(q R').map λg=>(b,g))=V g:=by
  unfold asu at h;split at h
  ·split at h
   ·rename_i hcd;exact⟨_,_,_,_,rfl,hcd,h⟩
   ·cases h
  ·cases h
 rw[zi]at hcd;have e1:=gz hcd.1;have e2:=gz hcd.2;subst e1 e2;obtain⟨b,hb,h9⟩:=zq.1 h9;obtain⟨g',hg,rfl⟩:=zk.1 h9;obtain⟨k1,k2⟩:=hf _ _ hb;exact .cons ⟨rfl,λρ A w ⟨us,h1,h2⟩=>⟨us,h1,k1 ρ A w us h2⟩,λρ=>rfl,λn hn=>k2 n hn⟩ (hq _ _ hg)
def FW{ρ:Gh}:∀{R R':bg},Kj R R'->bD (bg.res ρ R)=bD (bg.res ρ R')
 |_,_, .nil=>rfl
 |_,_, .cons (p:=p) (p':=p') h hs=>by
  unfold bD bg.res;rw[ye,ye,y6,y6,h.2.2.1 ρ];have:=FW (ρ:=ρ) hs;unfold bD bg.res at this;rw[this]
def Ry{ρ:Gh}{A:Nat->Prop}{w:World}:∀{R R':bg},Kj R R'->(∀r∈bg.res ρ R,r.ok A w)->∀r∈bg.res ρ R',r.ok A w
 |_,_, .nil,_=>λr hr=>by cases hr
 |_,_, .cons (p:=p) (p':=p') h hs,h0=>λr hr=>by
  rcases zD.1 hr with rfl|hr
  ·exact h.2.1 ρ A w (h0 _ zo)
  ·exact Ry hs (λr hr=>h0 r (zO _ hr)) r hr
def Sl{n:Nat}:∀{R R':bg},Kj R R'->bg.cS n R->bg.cS n R'
 |_,_, .nil,h=>h
 |_,_, .cons (p:=p) (p':=p') h hs,h0=>λq hq=>by
  rcases zD.1 hq with rfl|hq
  ·exact⟨by rw[<-h.1];exact(h0 _ zo).1,h.2.2.2 n (h0 _ zo).2⟩
  ·exact Sl hs (λq hq=>h0 q (zO _ hq)) q hq
def stR(m:Nat)(q:ET->af γ)(r:bg->af δ)(s:St):af (γ×δ):=match zf s.nx m with
 |true=>(q s.E).bind λg=>(r s.R).map λh=>(g,h)
 |false=>G
def Xh(m:Nat)(d:γ->Env)(e:δ->bg)(p:γ×δ):St:=⟨arh (d p.1),e p.2,m⟩
def apv{n0 n m:Nat}{q:ET->af γ}{r:bg->af δ}{d:γ->Env}{e:δ->bg}(hq:PO q d)(hr:Fh r e):rW n0 n (stR m q r) (Xh m d e):=λC s p a w _ h hm=>by
 unfold stR at h;split at h
 case h_2=>cases h
 rename_i hnx;have hnx:=gz hnx;obtain⟨g,hg,h⟩:=zq.1 h;obtain⟨g',hg',rfl⟩:=zk.1 h;obtain⟨E,hh,hE,hR,ρ,hag,hsim⟩:=hm;obtain⟨h1,h2⟩:=hq _ _ hg E hh;have h3:=hr _ _ hg';have hb:bD (bg.res ρ (e g'))=bD (bg.res ρ s.R):=(FW h3).symm;have hal:∀b,al C.C (bg.res ρ s.R) b->al C.C (bg.res ρ (e g')) b:=λb hA=>⟨hA.1,by rw[hb];exact hA.2⟩;subst hnx;have hdis:(bD (bg.res ρ (e g'))).Nodup:=by rw[hb];exact hsim.good.GI
 refine⟨d g,Bh _,h2 _ hE,Sl h3 hR,ρ,hag,hsim.defers.step (λb _ hA=>⟨hal b hA,rfl⟩),hsim.size,λt av ht=> ?_,hsim.good.kept,λx hx=> ?_,hdis,λb hx=>hsim.good.own b (by rw[<-hb];exact hx)⟩
 ·obtain⟨v,q1,q2⟩:=h1 ρ _ w a.tmps hsim.slots t av ht;exact⟨v,q1,q2.mono λb _ hA=>⟨hal b hA,rfl⟩⟩
 ·exact(Ry h3 hsim.good.res x hx).mono (λb _ hA=>⟨hal b hA,rfl⟩) (λ_ _=>rfl)
end
def rdM{γ γ':Type}(e:γ->γ')(rd:St->af γ)(s:St):af γ':=match rd s with
 |some p=>V (e p)
 |none=>G
def rW.m{γ γ':Type}{n0 n:Nat}{rd:St->af γ}{pat:γ->St}(h:rW n0 n rd pat)(e:γ->γ'){pat':γ'->St}(he:∀p,pat' (e p)=pat p):rW n0 n (rdM e rd) pat':=λC s p a w hC hr hm=>by
 unfold rdM at hr;split at hr
 ·rename_i p' hp;cases hr;rw[he];exact h C s p' a w hC hp hm
 ·cases hr
def asp(c:Code):An->aa (Code×An):=
 Code.rec (λ_=>[]) (λ_ _ _ an=>match an with
   | .rb fs t=>[(.skip, .rb fs t)]
   |_=>[]) (λ_ _ x y an=>x an.l++y an.r) (λ_ _ _ x y an=>(match an with
   | .jn γ rd pat l r=>[(.skip, .jn γ rd pat l r)]
   |_=>[])++(x an.l++y an.r)) (λ_ _ x=>x)
  (λc x an=>match an with
   | .lp γ rd pat GF b=>(c, .lp γ rd pat GF b)::x b
   |an=>x an) (λ_ _ _ _ _ _ _=>[]) (λ_ _=>[]) (λ_ _ _=>[]) (λ_ _=>[]) (λ_ _=>[]) (λ_=>[]) (λ_ _=>[]) c
def TM(P:Program)(F:aZ)(n0 n:Nat)(fuel:Nat)(p:Code×An):Prop:=match p.2 with
 | .lp _ rd pat GF b=>rW n0 n rd pat/\SD (dQ P F n fuel p.1) rd pat GF b
 | .jn _ rd pat _ _=>rW n0 n rd pat
 | .rb fs _=>∀f∈fs,bw F f
 |_=>True
def adY{P:Program}{F:aZ}{n0 n fuel:Nat}(c:Code):∀an,(∀p∈asp c an,TM P F n0 n fuel p)->LW P F n0 n fuel c an:=by
 induction c with
 |region id ops draw=>
  intro an h;cases an with
  |rb fs t=>exact h (.skip, .rb fs t) (zy.2 rfl)
  |_=>exact trivial
 |seq x y hx hy=>
  intro an h;exact⟨hx an.l λp hp=>h p (yJ _ hp),hy an.r λp hp=>h p (yK _ hp)⟩
 |cond c x y hx hy=>
  intro an h;refine⟨λγ rd pat l r he=> ?_,hx an.l λp hp=>h p (yK _ (yJ _ hp)),hy an.r λp hp=>h p (yK _ (yK _ hp))⟩;subst he;exact h (.skip, .jn γ rd pat l r) (yJ _ (zy.2 rfl))
 |block id x hx=>exact λan h=>hx an h
 |loop c hc=>
  intro an h;cases an with
  |lp γ rd pat GF b=>
   have h0:=h (c, .lp γ rd pat GF b) zo;exact⟨h0.1,h0.2,hc b λp hp=>h p (zO _ hp)⟩
  |no=>exact hc _ h
  |two l r=>exact hc _ h
  |jn γ rd pat l r=>exact hc _ h
  |rb fs t=>exact hc _ h
 |_=>exact λan h=>trivial
def bA{P:Program}{F:aZ}{n0 fuel f:Nat}{fn:Func}{c:Code}{an:An}{l:aa (Code×An)}(hf:P.funcs[f]? =V fn)(hb:fn.body=V c)(ho:asp c an=l)(h:∀p∈l,TM P F n0 fn.ntmps fuel p):cR P F n0 fuel f an:=λfn' c' h1 h2=>by
 rw[hf]at h1;cases h1;rw[hb]at h2;cases h2;exact adY c an (by rw[ho];exact h)
def Kh(fn:Func):Code:=match fn.body with
 |some c=>c
 |none=> .skip
def aV{fn:Func}(h:fn.body.isNone=S):fn.body=V (Kh fn):=by
 unfold Kh;cases hb:fn.body with
 |none=>rw[hb]at h;cases h
 |some c=>rfl
def akz(c:Code):aa Code:=Code.rec [] (λ_ _ _=>[]) (λ_ _ x y=>x++y) (λ_ _ _ x y=>x++y) (λ_ _ x=>x) (λc x=>c::x) (λ_ _ _ _ _ _=>[]) (λ_=>[]) (λ_ _=>[]) (λ_=>[]) (λ_=>[]) [] (λ_=>[]) c
def aW(fn:Func)(i:Nat):Code:=(akz (Kh fn)).getD i .skip
end Go.Iv
end
noncomputable section
set_option maxRecDepth 100000
namespace Go.Proofs.YtnfljbehcffmcaaGreat
open Go Go.Iv
open Go.IntKind (i64 u64)
structure au where
 (bF fN:Int)
 aq:List au
instance:Inhabited au:=⟨⟨0,0,[]⟩⟩
structure ay where
 (cn bq dG fN:Int)
 aA:au
 (aM aS:List ay)
 aJ:List Int
instance:Inhabited ay:=⟨⟨0,0,0,0,⟨0,0,[]⟩,[],[],[]⟩⟩
structure aX where
 fName:ByteArray
 (bz ag ah eO:Int)
 deriving Inhabited,DecidableEq
structure dB where
 fName:ByteArray
 (ag ah:Int)
 aA:au
 deriving Inhabited
structure aN where
 ai:List aX
 ak:List dB
 bI:List ay
 deriving Inhabited
structure bV where
 aU:List Int
 eH:Bool
 deriving Inhabited,DecidableEq
structure aH where
 (ag ah aj:Int)
 deriving Inhabited,DecidableEq
structure bQ where
 aB:aH
 aC:List aH
 aI:aH
 IJ:List aH
 deriving Inhabited,DecidableEq
structure aD where
 aY:List Int
 aI:Int
 deriving Inhabited,DecidableEq
structure iM where
 (cW aU dx:List Int)
 deriving Inhabited,DecidableEq
structure nV where
 (Ko aY:List Int)
 aI:Int
 deriving Inhabited,DecidableEq
structure Cell where
 (bZ iV:Int)
 (aq dL:List Int)
 gF:Int
 deriving Inhabited,DecidableEq
structure bH where
 dL:List aD
 aP:List Cell
 deriving Inhabited,DecidableEq
structure Part where
 (bZ iV:Int)
 aq:List Int
 bP:List aH
 deriving Inhabited,DecidableEq
structure ax where
 ai:List aH
 aB:aH
 aC:List aH
 aI:aH
 deriving Inhabited,DecidableEq
structure Runner where
 fF:aN
 ak:List aH
 deriving Inhabited
structure aK where
 ai:List aH
 aB:aH
 aC:List aH
 aI:aH
 deriving Inhabited,DecidableEq
structure eo where
 bP:List aH
 (bZ iV:Int)
 aq:List Int
 gF:Int
 eE:Bool
 dL:aD
 deriving Inhabited,DecidableEq
structure Tree where
 fF:aN
 fV:bV
 aP:List eo
 deriving Inhabited
structure bf where
 bG:Int
 fE:Bool
 deriving Inhabited,DecidableEq
structure qz where
 (ga aY aI:Int)
 deriving Inhabited,DecidableEq
structure Machine where
 fF:aN
 (Ko ak aY:List Int)
 aI:Int
 deriving Inhabited
structure Span where
 (ag ah:Int)
 deriving Inhabited,DecidableEq
inductive Ky
 |k3
 |k4
 |k5
 |k24
 |k26
 |k27
 |k29
 |k30
 |k34
 |k36
 |k37
 |k47
 |k52
 |k56
 |k84
 |k90
 |k117
 |k128
 |k129
 |k131
 |k133
 |k137
 |k139
 |k147
 |k166
 |k172
 |k174
 |k256
 |k260
 |k313
 |k331
 |no
def ky:Nat->Ky
 |3=> .k3
 |4=> .k4
 |5=> .k5
 |24=> .k24
 |26=> .k26
 |27=> .k27
 |29=> .k29
 |30=> .k30
 |34=> .k34
 |36=> .k36
 |37=> .k37
 |47=> .k47
 |52=> .k52
 |56=> .k56
 |84=> .k84
 |90=> .k90
 |117=> .k117
 |128=> .k128
 |129=> .k129
 |131=> .k131
 |133=> .k133
 |137=> .k137
 |139=> .k139
 |147=> .k147
 |166=> .k166
 |172=> .k172
 |174=> .k174
 |256=> .k256
 |260=> .k260
 |313=> .k313
 |331=> .k331
 |_=> .no
def FT:Ky->Type
 | .k3=>Int
 | .k4=>Bool
 | .k5=>Int
 | .k24=>aa ay
 | .k26=>aN
 | .k27=>aa Int
 | .k29=>bV
 | .k30=>aa aH
 | .k34=>aH
 | .k36=>bQ
 | .k37=>Int
 | .k47=>aD
 | .k52=>iM
 | .k56=>nV
 | .k84=>bH
 | .k90=>Part
 | .k117=>Cell
 | .k128=>ax
 | .k129=>Int
 | .k131=>aX
 | .k133=>Runner
 | .k137=>au
 | .k139=>dB
 | .k147=>aK
 | .k166=>ay
 | .k172=>Tree
 | .k174=>eo
 | .k256=>bf
 | .k260=>qz
 | .k313=>Machine
 | .k331=>Span
 | .no=>Unit
abbrev cD(t:Nat):Type:=FT (ky t)
@[reducible] def inhK:(k:Ky)->Inhabited (FT k)
 | .k3=>⟨(default:Int)⟩
 | .k4=>⟨(default:Bool)⟩
 | .k5=>⟨(default:Int)⟩
 | .k24=>⟨(default:aa ay)⟩
 | .k26=>⟨(default:aN)⟩
 | .k27=>⟨(default:aa Int)⟩
 | .k29=>⟨(default:bV)⟩
 | .k30=>⟨(default:aa aH)⟩
 | .k34=>⟨(default:aH)⟩
 | .k36=>⟨(default:bQ)⟩
 | .k37=>⟨(default:Int)⟩
 | .k47=>⟨(default:aD)⟩
 | .k52=>⟨(default:iM)⟩
 | .k56=>⟨(default:nV)⟩
 | .k84=>⟨(default:bH)⟩
 | .k90=>⟨(default:Part)⟩
 | .k117=>⟨(default:Cell)⟩
 | .k128=>⟨(default:ax)⟩
 | .k129=>⟨(default:Int)⟩
 | .k131=>⟨(default:aX)⟩
 | .k133=>⟨(default:Runner)⟩
 | .k137=>⟨(default:au)⟩
 | .k139=>⟨(default:dB)⟩
 | .k147=>⟨(default:aK)⟩
 | .k166=>⟨(default:ay)⟩
 | .k172=>⟨(default:Tree)⟩
 | .k174=>⟨(default:eo)⟩
 | .k256=>⟨(default:bf)⟩
 | .k260=>⟨(default:qz)⟩
 | .k313=>⟨(default:Machine)⟩
 | .k331=>⟨(default:Span)⟩
 | .no=>⟨()⟩
def szK:Ky->Nat
 | .k3=>1
 | .k4=>1
 | .k5=>1
 | .k24=>1
 | .k26=>3
 | .k27=>1
 | .k29=>2
 | .k30=>1
 | .k34=>3
 | .k36=>8
 | .k37=>1
 | .k47=>2
 | .k52=>3
 | .k56=>3
 | .k84=>2
 | .k90=>4
 | .k117=>5
 | .k128=>8
 | .k129=>1
 | .k131=>5
 | .k133=>4
 | .k137=>3
 | .k139=>6
 | .k147=>8
 | .k166=>10
 | .k172=>6
 | .k174=>8
 | .k256=>2
 | .k260=>3
 | .k313=>7
 | .k331=>2
 | .no=>0
def od:(k:Ky)->FT k->aa (cc cD)
 | .k3,x=>(λx:Int=>[.n .i64 x]) x
 | .k4,x=>(λx:Bool=>[.b x]) x
 | .k5,x=>(λx:Int=>[.n .u8 x]) x
 | .k24,x=>(λx:aa ay=>[.sl 166 x]) x
 | .k26,x=>(λx:aN=>[.sl 131 x.ai, .sl 139 x.ak, .sl 166 x.bI]) x
 | .k27,x=>(λx:aa Int=>[.sl 3 x]) x
 | .k29,x=>(λx:bV=>[.sl 3 x.aU, .b x.eH]) x
 | .k30,x=>(λx:aa aH=>[.sl 34 x]) x
 | .k34,x=>(λx:aH=>[.n .i64 x.ag, .n .i64 x.ah, .n .i64 x.aj]) x
 | .k36,x=>(λx:bQ=>[.n .i64 x.aB.ag, .n .i64 x.aB.ah, .n .i64 x.aB.aj, .sl 34 x.aC, .n .i64 x.aI.ag, .n .i64 x.aI.ah, .n .i64 x.aI.aj, .sl 34 x.IJ]) x
 | .k37,x=>(λx:Int=>[.n .i64 x]) x
 | .k47,x=>(λx:aD=>[.sl 3 x.aY, .n .i64 x.aI]) x
 | .k52,x=>(λx:iM=>[.sl 3 x.cW, .sl 3 x.aU, .sl 3 x.dx]) x
 | .k56,x=>(λx:nV=>[.sl 3 x.Ko, .sl 3 x.aY, .n .i64 x.aI]) x
 | .k84,x=>(λx:bH=>[.sl 47 x.dL, .sl 117 x.aP]) x
 | .k90,x=>(λx:Part=>[.n .i64 x.bZ, .n .i64 x.iV, .sl 3 x.aq, .sl 34 x.bP]) x
 | .k117,x=>(λx:Cell=>[.n .i64 x.bZ, .n .i64 x.iV, .sl 3 x.aq, .sl 3 x.dL, .n .i64 x.gF]) x
 | .k128,x=>(λx:ax=>[.sl 34 x.ai, .n .i64 x.aB.ag, .n .i64 x.aB.ah, .n .i64 x.aB.aj, .sl 34 x.aC, .n .i64 x.aI.ag, .n .i64 x.aI.ah, .n .i64 x.aI.aj]) x
 | .k129,x=>(λx:Int=>[.n .i64 x]) x
 | .k131,x=>(λx:aX=>[.s x.fName, .n .i64 x.bz, .n .i64 x.ag, .n .i64 x.ah, .n .i64 x.eO]) x
 | .k133,x=>(λx:Runner=>[.sl 131 x.fF.ai, .sl 139 x.fF.ak, .sl 166 x.fF.bI, .sl 34 x.ak]) x
 | .k137,x=>(λx:au=>[.n .i64 x.bF, .n .i64 x.fN, .sl 137 x.aq]) x
 | .k139,x=>(λx:dB=>[.s x.fName, .n .i64 x.ag, .n .i64 x.ah, .n .i64 x.aA.bF, .n .i64 x.aA.fN, .sl 137 x.aA.aq]) x
 | .k147,x=>(λx:aK=>[.sl 34 x.ai, .n .i64 x.aB.ag, .n .i64 x.aB.ah, .n .i64 x.aB.aj, .sl 34 x.aC, .n .i64 x.aI.ag, .n .i64 x.aI.ah, .n .i64 x.aI.aj]) x
 | .k166,x=>(λx:ay=>[.n .i64 x.cn, .n .i64 x.bq, .n .i64 x.dG, .n .i64 x.fN, .n .i64 x.aA.bF, .n .i64 x.aA.fN, .sl 137 x.aA.aq, .sl 166 x.aM, .sl 166 x.aS, .sl 3 x.aJ]) x
 | .k172,x=>(λx:Tree=>[.sl 131 x.fF.ai, .sl 139 x.fF.ak, .sl 166 x.fF.bI, .sl 3 x.fV.aU, .b x.fV.eH, .sl 174 x.aP]) x
 | .k174,x=>(λx:eo=>[.sl 34 x.bP, .n .i64 x.bZ, .n .i64 x.iV, .sl 3 x.aq, .n .i64 x.gF, .b x.eE, .sl 3 x.dL.aY, .n .i64 x.dL.aI]) x
 | .k256,x=>(λx:bf=>[.n .i64 x.bG, .b x.fE]) x
 | .k260,x=>(λx:qz=>[.n .i64 x.ga, .n .i64 x.aY, .n .i64 x.aI]) x
 | .k313,x=>(λx:Machine=>[.sl 131 x.fF.ai, .sl 139 x.fF.ak, .sl 166 x.fF.bI, .sl 3 x.Ko, .sl 3 x.ak, .sl 3 x.aY, .n .i64 x.aI]) x
 | .k331,x=>(λx:Span=>[.n .i64 x.ag, .n .i64 x.ah]) x
 | .no,_=>[]
instance uni:qO:=⟨cD,λt=>inhK (ky t),λt=>szK (ky t),λt=>od (ky t)⟩
def aav:(k:Ky)->aa AV->af (FT k)
 | .k3=>λcs=>((dU (iw .i64) oU) cs).map (λg:Int×Unit=>(g.1:Int))
 | .k4=>λcs=>((dU PM oU) cs).map (λg:Bool×Unit=>(g.1:Bool))
 | .k5=>λcs=>((dU (iw .u8) oU) cs).map (λg:Int×Unit=>(g.1:Int))
 | .k24=>λcs=>((dU (jS 166) oU) cs).map (λg:(aa (cD 166))×Unit=>(g.1:aa ay))
 | .k26=>λcs=>((dU (jS 131) (dU (jS 139) (dU (jS 166) oU))) cs).map (λg:(aa (cD 131))×(aa (cD 139))×(aa (cD 166))×Unit=>((aN.mk g.1 g.2.1 g.2.2.1):aN))
 | .k27=>λcs=>((dU (jS 3) oU) cs).map (λg:(aa (cD 3))×Unit=>(g.1:aa Int))
 | .k29=>λcs=>((dU (jS 3) (dU PM oU)) cs).map (λg:(aa (cD 3))×Bool×Unit=>((bV.mk g.1 g.2.1):bV))
 | .k30=>λcs=>((dU (jS 34) oU) cs).map (λg:(aa (cD 34))×Unit=>(g.1:aa aH))
 | .k34=>λcs=>((dU (iw .i64) (dU (iw .i64) (dU (iw .i64) oU))) cs).map (λg:Int×Int×Int×Unit=>((aH.mk g.1 g.2.1 g.2.2.1):aH))
 | .k36=>λcs=>((dU (iw .i64) (dU (iw .i64) (dU (iw .i64) (dU (jS 34) (dU (iw .i64) (dU (iw .i64) (dU (iw .i64) (dU (jS 34) oU)))))))) cs).map (λg:Int×Int×Int×(aa (cD 34))×Int×Int×Int×(aa (cD 34))×Unit=>((bQ.mk (aH.mk g.1 g.2.1 g.2.2.1) g.2.2.2.1 (aH.mk g.2.2.2.2.1 g.2.2.2.2.2.1 g.2.2.2.2.2.2.1) g.2.2.2.2.2.2.2.1):bQ))
 | .k37=>λcs=>((dU (iw .i64) oU) cs).map (λg:Int×Unit=>(g.1:Int))
 | .k47=>λcs=>((dU (jS 3) (dU (iw .i64) oU)) cs).map (λg:(aa (cD 3))×Int×Unit=>((aD.mk g.1 g.2.1):aD))
 | .k52=>λcs=>((dU (jS 3) (dU (jS 3) (dU (jS 3) oU))) cs).map (λg:(aa (cD 3))×(aa (cD 3))×(aa (cD 3))×Unit=>((iM.mk g.1 g.2.1 g.2.2.1):iM))
 | .k56=>λcs=>((dU (jS 3) (dU (jS 3) (dU (iw .i64) oU))) cs).map (λg:(aa (cD 3))×(aa (cD 3))×Int×Unit=>((nV.mk g.1 g.2.1 g.2.2.1):nV))
 | .k84=>λcs=>((dU (jS 47) (dU (jS 117) oU)) cs).map (λg:(aa (cD 47))×(aa (cD 117))×Unit=>((bH.mk g.1 g.2.1):bH))
 | .k90=>λcs=>((dU (iw .i64) (dU (iw .i64) (dU (jS 3) (dU (jS 34) oU)))) cs).map (λg:Int×Int×(aa (cD 3))×(aa (cD 34))×Unit=>((Part.mk g.1 g.2.1 g.2.2.1 g.2.2.2.1):Part))
 | .k117=>λcs=>((dU (iw .i64) (dU (iw .i64) (dU (jS 3) (dU (jS 3) (dU (iw .i64) oU))))) cs).map (λg:Int×Int×(aa (cD 3))×(aa (cD 3))×Int×Unit=>((Cell.mk g.1 g.2.1 g.2.2.1 g.2.2.2.1 g.2.2.2.2.1):Cell))
 | .k128=>λcs=>((dU (jS 34) (dU (iw .i64) (dU (iw .i64) (dU (iw .i64) (dU (jS 34) (dU (iw .i64) (dU (iw .i64) (dU (iw .i64) oU)))))))) cs).map (λg:(aa (cD 34))×Int×Int×Int×(aa (cD 34))×Int×Int×Int×Unit=>((ax.mk g.1 (aH.mk g.2.1 g.2.2.1 g.2.2.2.1) g.2.2.2.2.1 (aH.mk g.2.2.2.2.2.1 g.2.2.2.2.2.2.1 g.2.2.2.2.2.2.2.1)):ax))
 | .k129=>λcs=>((dU (iw .i64) oU) cs).map (λg:Int×Unit=>(g.1:Int))
 | .k131=>λcs=>((dU asS (dU (iw .i64) (dU (iw .i64) (dU (iw .i64) (dU (iw .i64) oU))))) cs).map (λg:ByteArray×Int×Int×Int×Int×Unit=>((aX.mk g.1 g.2.1 g.2.2.1 g.2.2.2.1 g.2.2.2.2.1):aX))
 | .k133=>λcs=>((dU (jS 131) (dU (jS 139) (dU (jS 166) (dU (jS 34) oU)))) cs).map (λg:(aa (cD 131))×(aa (cD 139))×(aa (cD 166))×(aa (cD 34))×Unit=>((Runner.mk (aN.mk g.1 g.2.1 g.2.2.1) g.2.2.2.1):Runner))
 | .k137=>λcs=>((dU (iw .i64) (dU (iw .i64) (dU (jS 137) oU))) cs).map (λg:Int×Int×(aa (cD 137))×Unit=>((au.mk g.1 g.2.1 g.2.2.1):au))
 | .k139=>λcs=>((dU asS (dU (iw .i64) (dU (iw .i64) (dU (iw .i64) (dU (iw .i64) (dU (jS 137) oU)))))) cs).map (λg:ByteArray×Int×Int×Int×Int×(aa (cD 137))×Unit=>((dB.mk g.1 g.2.1 g.2.2.1 (au.mk g.2.2.2.1 g.2.2.2.2.1 g.2.2.2.2.2.1)):dB))
 | .k147=>λcs=>((dU (jS 34) (dU (iw .i64) (dU (iw .i64) (dU (iw .i64) (dU (jS 34) (dU (iw .i64) (dU (iw .i64) (dU (iw .i64) oU)))))))) cs).map (λg:(aa (cD 34))×Int×Int×Int×(aa (cD 34))×Int×Int×Int×Unit=>((aK.mk g.1 (aH.mk g.2.1 g.2.2.1 g.2.2.2.1) g.2.2.2.2.1 (aH.mk g.2.2.2.2.2.1 g.2.2.2.2.2.2.1 g.2.2.2.2.2.2.2.1)):aK))
 | .k166=>λcs=>((dU (iw .i64) (dU (iw .i64) (dU (iw .i64) (dU (iw .i64) (dU (iw .i64) (dU (iw .i64) (dU (jS 137) (dU (jS 166) (dU (jS 166) (dU (jS 3) oU)))))))))) cs).map (λg:Int×Int×Int×Int×Int×Int×(aa (cD 137))×(aa (cD 166))×(aa (cD 166))×(aa (cD 3))×Unit=>((ay.mk g.1 g.2.1 g.2.2.1 g.2.2.2.1 (au.mk g.2.2.2.2.1 g.2.2.2.2.2.1 g.2.2.2.2.2.2.1) g.2.2.2.2.2.2.2.1 g.2.2.2.2.2.2.2.2.1 g.2.2.2.2.2.2.2.2.2.1):ay))
 | .k172=>λcs=>((dU (jS 131) (dU (jS 139) (dU (jS 166) (dU (jS 3) (dU PM (dU (jS 174) oU)))))) cs).map (λg:(aa (cD 131))×(aa (cD 139))×(aa (cD 166))×(aa (cD 3))×Bool×(aa (cD 174))×Unit=>((Tree.mk (aN.mk g.1 g.2.1 g.2.2.1) (bV.mk g.2.2.2.1 g.2.2.2.2.1) g.2.2.2.2.2.1):Tree))
 | .k174=>λcs=>((dU (jS 34) (dU (iw .i64) (dU (iw .i64) (dU (jS 3) (dU (iw .i64) (dU PM (dU (jS 3) (dU (iw .i64) oU)))))))) cs).map (λg:(aa (cD 34))×Int×Int×(aa (cD 3))×Int×Bool×(aa (cD 3))×Int×Unit=>((eo.mk g.1 g.2.1 g.2.2.1 g.2.2.2.1 g.2.2.2.2.1 g.2.2.2.2.2.1 (aD.mk g.2.2.2.2.2.2.1 g.2.2.2.2.2.2.2.1)):eo))
 | .k256=>λcs=>((dU (iw .i64) (dU PM oU)) cs).map (λg:Int×Bool×Unit=>((bf.mk g.1 g.2.1):bf))
 | .k260=>λcs=>((dU (iw .i64) (dU (iw .i64) (dU (iw .i64) oU))) cs).map (λg:Int×Int×Int×Unit=>((qz.mk g.1 g.2.1 g.2.2.1):qz))
 | .k313=>λcs=>((dU (jS 131) (dU (jS 139) (dU (jS 166) (dU (jS 3) (dU (jS 3) (dU (jS 3) (dU (iw .i64) oU))))))) cs).map (λg:(aa (cD 131))×(aa (cD 139))×(aa (cD 166))×(aa (cD 3))×(aa (cD 3))×(aa (cD 3))×Int×Unit=>((Machine.mk (aN.mk g.1 g.2.1 g.2.2.1) g.2.2.2.1 g.2.2.2.2.1 g.2.2.2.2.2.1 g.2.2.2.2.2.2.1):Machine))
 | .k331=>λcs=>((dU (iw .i64) (dU (iw .i64) oU)) cs).map (λg:Int×Int×Unit=>((Span.mk g.1 g.2.1):Span))
 | .no=>λ_=>G
def WK:(k:Ky)->Pk (aav k) (od k)
 | .k3=>Pk.map (λg:Int×Unit=>(g.1:Int)) (.cons (.i .i64) .nil) (λ_=>rfl)
 | .k4=>Pk.map (λg:Bool×Unit=>(g.1:Bool)) (.cons .b .nil) (λ_=>rfl)
 | .k5=>Pk.map (λg:Int×Unit=>(g.1:Int)) (.cons (.i .u8) .nil) (λ_=>rfl)
 | .k24=>Pk.map (λg:(aa (cD 166))×Unit=>(g.1:aa ay)) (.cons (.l 166) .nil) (λ_=>rfl)
 | .k26=>Pk.map (λg:(aa (cD 131))×(aa (cD 139))×(aa (cD 166))×Unit=>((aN.mk g.1 g.2.1 g.2.2.1):aN)) (.cons (.l 131) (.cons (.l 139) (.cons (.l 166) .nil))) (λ_=>rfl)
 | .k27=>Pk.map (λg:(aa (cD 3))×Unit=>(g.1:aa Int)) (.cons (.l 3) .nil) (λ_=>rfl)
 | .k29=>Pk.map (λg:(aa (cD 3))×Bool×Unit=>((bV.mk g.1 g.2.1):bV)) (.cons (.l 3) (.cons .b .nil)) (λ_=>rfl)
 | .k30=>Pk.map (λg:(aa (cD 34))×Unit=>(g.1:aa aH)) (.cons (.l 34) .nil) (λ_=>rfl)
 | .k34=>Pk.map (λg:Int×Int×Int×Unit=>((aH.mk g.1 g.2.1 g.2.2.1):aH)) (.cons (.i .i64) (.cons (.i .i64) (.cons (.i .i64) .nil))) (λ_=>rfl)
 | .k36=>Pk.map (λg:Int×Int×Int×(aa (cD 34))×Int×Int×Int×(aa (cD 34))×Unit=>((bQ.mk (aH.mk g.1 g.2.1 g.2.2.1) g.2.2.2.1 (aH.mk g.2.2.2.2.1 g.2.2.2.2.2.1 g.2.2.2.2.2.2.1) g.2.2.2.2.2.2.2.1):bQ)) (.cons (.i .i64) (.cons (.i .i64) (.cons (.i .i64) (.cons (.l 34) (.cons (.i .i64) (.cons (.i .i64) (.cons (.i .i64) (.cons (.l 34) .nil)))))))) (λ_=>rfl)
 | .k37=>Pk.map (λg:Int×Unit=>(g.1:Int)) (.cons (.i .i64) .nil) (λ_=>rfl)
 | .k47=>Pk.map (λg:(aa (cD 3))×Int×Unit=>((aD.mk g.1 g.2.1):aD)) (.cons (.l 3) (.cons (.i .i64) .nil)) (λ_=>rfl)
 | .k52=>Pk.map (λg:(aa (cD 3))×(aa (cD 3))×(aa (cD 3))×Unit=>((iM.mk g.1 g.2.1 g.2.2.1):iM)) (.cons (.l 3) (.cons (.l 3) (.cons (.l 3) .nil))) (λ_=>rfl)
 | .k56=>Pk.map (λg:(aa (cD 3))×(aa (cD 3))×Int×Unit=>((nV.mk g.1 g.2.1 g.2.2.1):nV)) (.cons (.l 3) (.cons (.l 3) (.cons (.i .i64) .nil))) (λ_=>rfl)
 | .k84=>Pk.map (λg:(aa (cD 47))×(aa (cD 117))×Unit=>((bH.mk g.1 g.2.1):bH)) (.cons (.l 47) (.cons (.l 117) .nil)) (λ_=>rfl)
 | .k90=>Pk.map (λg:Int×Int×(aa (cD 3))×(aa (cD 34))×Unit=>((Part.mk g.1 g.2.1 g.2.2.1 g.2.2.2.1):Part)) (.cons (.i .i64) (.cons (.i .i64) (.cons (.l 3) (.cons (.l 34) .nil)))) (λ_=>rfl)
 | .k117=>Pk.map (λg:Int×Int×(aa (cD 3))×(aa (cD 3))×Int×Unit=>((Cell.mk g.1 g.2.1 g.2.2.1 g.2.2.2.1 g.2.2.2.2.1):Cell)) (.cons (.i .i64) (.cons (.i .i64) (.cons (.l 3) (.cons (.l 3) (.cons (.i .i64) .nil))))) (λ_=>rfl)
 | .k128=>Pk.map (λg:(aa (cD 34))×Int×Int×Int×(aa (cD 34))×Int×Int×Int×Unit=>((ax.mk g.1 (aH.mk g.2.1 g.2.2.1 g.2.2.2.1) g.2.2.2.2.1 (aH.mk g.2.2.2.2.2.1 g.2.2.2.2.2.2.1 g.2.2.2.2.2.2.2.1)):ax)) (.cons (.l 34) (.cons (.i .i64) (.cons (.i .i64) (.cons (.i .i64) (.cons (.l 34) (.cons (.i .i64) (.cons (.i .i64) (.cons (.i .i64) .nil)))))))) (λ_=>rfl)
 | .k129=>Pk.map (λg:Int×Unit=>(g.1:Int)) (.cons (.i .i64) .nil) (λ_=>rfl)
 | .k131=>Pk.map (λg:ByteArray×Int×Int×Int×Int×Unit=>((aX.mk g.1 g.2.1 g.2.2.1 g.2.2.2.1 g.2.2.2.2.1):aX)) (.cons .s (.cons (.i .i64) (.cons (.i .i64) (.cons (.i .i64) (.cons (.i .i64) .nil))))) (λ_=>rfl)
 | .k133=>Pk.map (λg:(aa (cD 131))×(aa (cD 139))×(aa (cD 166))×(aa (cD 34))×Unit=>((Runner.mk (aN.mk g.1 g.2.1 g.2.2.1) g.2.2.2.1):Runner)) (.cons (.l 131) (.cons (.l 139) (.cons (.l 166) (.cons (.l 34) .nil)))) (λ_=>rfl)
 | .k137=>Pk.map (λg:Int×Int×(aa (cD 137))×Unit=>((au.mk g.1 g.2.1 g.2.2.1):au)) (.cons (.i .i64) (.cons (.i .i64) (.cons (.l 137) .nil))) (λ_=>rfl)
 | .k139=>Pk.map (λg:ByteArray×Int×Int×Int×Int×(aa (cD 137))×Unit=>((dB.mk g.1 g.2.1 g.2.2.1 (au.mk g.2.2.2.1 g.2.2.2.2.1 g.2.2.2.2.2.1)):dB)) (.cons .s (.cons (.i .i64) (.cons (.i .i64) (.cons (.i .i64) (.cons (.i .i64) (.cons (.l 137) .nil)))))) (λ_=>rfl)
 | .k147=>Pk.map (λg:(aa (cD 34))×Int×Int×Int×(aa (cD 34))×Int×Int×Int×Unit=>((aK.mk g.1 (aH.mk g.2.1 g.2.2.1 g.2.2.2.1) g.2.2.2.2.1 (aH.mk g.2.2.2.2.2.1 g.2.2.2.2.2.2.1 g.2.2.2.2.2.2.2.1)):aK)) (.cons (.l 34) (.cons (.i .i64) (.cons (.i .i64) (.cons (.i .i64) (.cons (.l 34) (.cons (.i .i64) (.cons (.i .i64) (.cons (.i .i64) .nil)))))))) (λ_=>rfl)
 | .k166=>Pk.map (λg:Int×Int×Int×Int×Int×Int×(aa (cD 137))×(aa (cD 166))×(aa (cD 166))×(aa (cD 3))×Unit=>((ay.mk g.1 g.2.1 g.2.2.1 g.2.2.2.1 (au.mk g.2.2.2.2.1 g.2.2.2.2.2.1 g.2.2.2.2.2.2.1) g.2.2.2.2.2.2.2.1 g.2.2.2.2.2.2.2.2.1 g.2.2.2.2.2.2.2.2.2.1):ay)) (.cons (.i .i64) (.cons (.i .i64) (.cons (.i .i64) (.cons (.i .i64) (.cons (.i .i64) (.cons (.i .i64) (.cons (.l 137) (.cons (.l 166) (.cons (.l 166) (.cons (.l 3) .nil)))))))))) (λ_=>rfl)
 | .k172=>Pk.map (λg:(aa (cD 131))×(aa (cD 139))×(aa (cD 166))×(aa (cD 3))×Bool×(aa (cD 174))×Unit=>((Tree.mk (aN.mk g.1 g.2.1 g.2.2.1) (bV.mk g.2.2.2.1 g.2.2.2.2.1) g.2.2.2.2.2.1):Tree)) (.cons (.l 131) (.cons (.l 139) (.cons (.l 166) (.cons (.l 3) (.cons .b (.cons (.l 174) .nil)))))) (λ_=>rfl)
 | .k174=>Pk.map (λg:(aa (cD 34))×Int×Int×(aa (cD 3))×Int×Bool×(aa (cD 3))×Int×Unit=>((eo.mk g.1 g.2.1 g.2.2.1 g.2.2.2.1 g.2.2.2.2.1 g.2.2.2.2.2.1 (aD.mk g.2.2.2.2.2.2.1 g.2.2.2.2.2.2.2.1)):eo)) (.cons (.l 34) (.cons (.i .i64) (.cons (.i .i64) (.cons (.l 3) (.cons (.i .i64) (.cons .b (.cons (.l 3) (.cons (.i .i64) .nil)))))))) (λ_=>rfl)
 | .k256=>Pk.map (λg:Int×Bool×Unit=>((bf.mk g.1 g.2.1):bf)) (.cons (.i .i64) (.cons .b .nil)) (λ_=>rfl)
 | .k260=>Pk.map (λg:Int×Int×Int×Unit=>((qz.mk g.1 g.2.1 g.2.2.1):qz)) (.cons (.i .i64) (.cons (.i .i64) (.cons (.i .i64) .nil))) (λ_=>rfl)
 | .k313=>Pk.map (λg:(aa (cD 131))×(aa (cD 139))×(aa (cD 166))×(aa (cD 3))×(aa (cD 3))×(aa (cD 3))×Int×Unit=>((Machine.mk (aN.mk g.1 g.2.1 g.2.2.1) g.2.2.2.1 g.2.2.2.2.1 g.2.2.2.2.2.1 g.2.2.2.2.2.2.1):Machine)) (.cons (.l 131) (.cons (.l 139) (.cons (.l 166) (.cons (.l 3) (.cons (.l 3) (.cons (.l 3) (.cons (.i .i64) .nil))))))) (λ_=>rfl)
 | .k331=>Pk.map (λg:Int×Int×Unit=>((Span.mk g.1 g.2.1):Span)) (.cons (.i .i64) (.cons (.i .i64) .nil)) (λ_=>rfl)
 | .no=> .none
def amS:(k:Ky)->aa (FT k)->af (aa Int)
 | .k5,l=>V l
 |_,_=>G
def Zo(l:aa Int):l.flatMap (λx=>[cc.n (dz:=cD) .u8 x])=l.map (.n .u8):=by
 induction l with
 |nil=>rfl
 |cons a l ih=>rw[xH,ih];rfl
def X5:(k:Ky)->(l:aa (FT k))->(ns:aa Int)->amS k l=V ns->l.flatMap (od k)=ns.map (.n .u8)/\szK k=1:=by
 intro k l ns h;cases k<;>first|(cases h;done)|(cases h;exact⟨Zo _,rfl⟩)
def aD0(k:Ky)(x:FT k):(od k x).length=szK k:=by cases k<;>rfl
def aEt(k:Ky)(x:FT k):(od k x).all iC=true:=by cases k<;>rfl
def aC5(k:Ky)(x:FT k)(ρ:Gh):(od k x).map (cc.sub ρ)=od k x:=ZC _ (by cases k<;>rfl) ρ
def aF7(k:Ky)(x:FT k)(n:Nat):∀c∈od k x,cS n c:=aa4 _ (by cases k<;>rfl) n
instance uniL:mI where
 len:=λt x=>aD0 (ky t) x
 one:=λt x=>aEt (ky t) x
 clo:=λt x ρ=>aC5 (ky t) x ρ
 qT:=λt x n=>aF7 (ky t) x n
 parse:=λt=>aav (ky t)
 lF:=λt=>WK (ky t)
 af1:=λt=>amS (ky t)
 vE:=λt=>X5 (ky t)
 fz:=λf=>zf f 27||zf f 44||zf f 28||zf f 20||zf f 26||zf f 83||zf f 156||zf f 160||zf f 236||zf f 96||zf f 179||zf f 88||zf f 167||zf f 171||zf f 247||zf f 25||zf f 185||zf f 48||zf f 49||zf f 57||zf f 60||zf f 61||zf f 65||zf f 74||zf f 112||zf f 134||zf f 203
end Go.Proofs.YtnfljbehcffmcaaGreat
end
noncomputable section
namespace Go.Iv
variable [U:qO] [L:mI]
open Go Go.RowKit
def lD(f:Nat->Nat)(n:Nat):AV->AV:=Nat.rec (λd=>match d with
 | .own i=> .own (f i)
 | .ptr i o=> .ptr (f i) o
 | .ra i t m o=> .ra (f i) t m o
 |d=>d) (λ_ ih d=>match d with
 | .own i=> .own (f i)
 | .ptr i o=> .ptr (f i) o
 | .ra i t m o=> .ra (f i) t m o
 | .agg cs=> .agg (cs.map ih)
 | .iR cs=> .iR (cs.map ih)
 | .fn g cs=> .fn g (cs.map ih)
 | .fp cs=> .fp (cs.map ih)
 |d=>d) n
def jc{f:Nat->Nat}{ρ ρ':Gh}{p:Nat->Bool}(hp:∀i,p i=O->ρ'.v (f i)=ρ.v i/\ρ'.b (f i)=ρ.b i):∀(n:Nat) {d:AV},kC p n d=O->(lD f n d).sub ρ'=d.sub ρ
 |0,d,h=>by
  cases d with
  |lit v=>show cc.sub ρ' (.lit v)=_;rw[bW,bW]
  |sl t l=>show cc.sub ρ' (.sl t l)=_;rw[gI,gI]
  |rp v k=>show cc.sub ρ' (.rp v k)=_;simp only[cc.sub]
  |own i=>show cc.sub ρ' (.own (f i))=_;rw[dO,dO,(hp _ h).1]
  |ptr i o=>show cc.sub ρ' (.ptr (f i) o)=_;rw[fH,fH,(hp _ h).2]
  |ra i t m o=>show cc.sub ρ' (.ra (f i) t m o)=_;rw[jC,jC,(hp _ h).1]
  |_=>cases h
 |n+1,d,h=>by
  have hL:∀{cs:aa AV},cs.all (kC p n)=O->(cs.map (lD f n)).map (cc.sub ρ')=cs.map (cc.sub ρ):=λ{cs} h=>by
   rw[yq];exact zX λc hc=>jc hp n (zw.1 h c hc)
  cases d with
  |lit v=>show cc.sub ρ' (.lit v)=_;rw[bW,bW]
  |sl t l=>show cc.sub ρ' (.sl t l)=_;rw[gI,gI]
  |rp v k=>show cc.sub ρ' (.rp v k)=_;simp only[cc.sub]
  |own i=>show cc.sub ρ' (.own (f i))=_;rw[dO,dO,(hp _ h).1]
  |ptr i o=>show cc.sub ρ' (.ptr (f i) o)=_;rw[fH,fH,(hp _ h).2]
  |ra i t m o=>show cc.sub ρ' (.ra (f i) t m o)=_;rw[jC,jC,(hp _ h).1]
  |fp cs=>show cc.sub ρ' (.fp (List.map (lD f n) cs))=_;rw[mq,mq,hL h]
  |agg cs=>show cc.sub ρ' (.agg (List.map (lD f n) cs))=_;rw[fo,fo,hL h]
  |iR cs=>show cc.sub ρ' (.iR (List.map (lD f n) cs))=_;rw[kF,kF,hL h]
  |fn g cs=>show cc.sub ρ' (.fn g (List.map (lD f n) cs))=_;rw[tS,tS,hL h]
def kW{f:Nat->Nat}{p:Nat->Bool}{m:Nat}(hp:∀i,p i=O->f i<m):∀(n:Nat) {d:AV},kC p n d=O->cS m (lD f n d)
 |0,d,h=>by
  cases d<;>first|exact .lit _|exact .sl _ _|exact .rp _ _|exact .own _ (hp _ h)|exact .ptr _ _ (hp _ h)|exact .ra _ _ _ _ (hp _ h)|(cases h;done)
 |n+1,d,h=>by
  have hL:∀{cs:aa AV},cs.all (kC p n)=O->∀c∈cs.map (lD f n),cS m c:=λ{cs} h c hc=>by
   obtain⟨c',h1,rfl⟩:=zL.1 hc;exact kW hp n (zw.1 h c' h1)
  cases d<;>first|exact .lit _|exact .sl _ _|exact .rp _ _|exact .own _ (hp _ h)|exact .ptr _ _ (hp _ h)|exact .ra _ _ _ _ (hp _ h)|exact .agg _ (hL h)|exact .iR _ (hL h)|exact .fn _ _ (hL h)|exact .fp _ (hL h)
def Gn(f:Nat->Nat):IR->IR
 | .box T cs=> .box T (cs.map (lD f 4))
 |r=>r
def lM(l:aa Nat)(i:Nat):Nat:=List.rec 0 (λj _ ih=>match zf j i with
 |true=>0
 |false=>ih+1) l
def uP:∀{l:aa Nat} {i:Nat},i∈l->l[lM l i]? =V i
 |j::l,i,h=>by
  show (j::l)[match zf j i with
   |true=>0
   |false=>lM l i+1]? =V i
  cases hb:zf j i with
  |true=>have:=gz hb;subst this;rfl
  |false=>
   have hne:i≠j:=λe=>by subst e;rw[Nat.beq_refl]at hb;cases hb
   exact uP ((zD.1 h).resolve_left hne)
def OF(ts:aa Nat)(E:ET):Env:=ts.filterMap λt=>(cQ E t).map λd=>(t,d)
def W3{E:ET}:∀(ts:aa Nat) t d,Env.get (OF ts E) t=V d->cQ E t=V d:=λts=>by
 induction ts with
 |nil=>intro t d h;cases h
 |cons u ts ih=>
  intro t d h;unfold OF at h;rw[y6]at h;cases hu:cQ E u with
  |none=>rw[hu]at h;exact ih t d h
  |some x=>
   rw[hu]at h;by_cases hut:u=t
   ·subst hut;have h:Env.get ((u,x)::_) u=V d:=h;rw[Env.fk]at h;rw[hu,h]
   ·have h:Env.get ((u,x)::_) t=V d:=h;rw[Env.dV _ _ hut]at h;exact ih t d h
def pick(i:Nat)(R:bg):af ((Nat×IR)×bg):=List.rec G (λp R ih=>match zf p.1 i with
 |true=>V (p,R)
 |false=>match ih with
  |some x=>V (x.1,p::x.2)
  |none=>G) R
def G4{i:Nat}:∀{R:bg} {x},pick i R=V x->List.Perm R (x.1::x.2)
 |[],x,h=>by cases h
 |p::R,x,h=>by
  have h:(match zf p.1 i with
   |true=>V (p,R)
   |false=>match pick i R with
    |some x=>V (x.1,p::x.2)
    |none=>G)=V x:=h
  split at h
  ·cases h;exact .refl _
  ·split at h
   ·rename_i y hy;cases h;exact((G4 hy).cons p).trans (.swap _ _ _)
   ·cases h
def jY(ns:aa Nat):bg->bg×bg:=List.rec (λR=>([],R)) (λi _ ih R=>match pick i R with
 |some x=>(x.1::(ih x.2).1,(ih x.2).2)
 |none=>ih R) ns
def nW:∀(ns:aa Nat) (R:bg),List.Perm R ((jY ns R).1++(jY ns R).2)
 |[],R=> .refl _
 |i::ns,R=>by
  show List.Perm R ((match pick i R with
   |some x=>(x.1::(jY ns x.2).1,(jY ns x.2).2)
   |none=>jY ns R).1++(match pick i R with
   |some x=>(x.1::(jY ns x.2).1,(jY ns x.2).2)
   |none=>jY ns R).2)
  split
  ·rename_i x hx;exact(G4 hx).trans ((nW ns x.2).cons _)
  ·exact nW ns R
def upto(n:Nat):aa Nat:=Nat.rec [] (λi ih=>ih++[i]) n
def abI{n i:Nat}(h:i<n):i∈upto n:=by
 induction n with
 |zero=>omega
 |succ n ih=>
  show i∈upto n++[n];by_cases hi:i=n
  ·subst hi;simp
  ·exact yJ _ (ih (by omega))
def aaZ{n i:Nat}(h:i<n):(upto n)[i]? =V i:=by
 induction n with
 |zero=>omega
 |succ n ih=>
  show (upto n++[n])[i]? =V i;have hl:∀n,(upto n).length=n:=λn=>by
   induction n with
   |zero=>rfl
   |succ n ih=>show (upto n++[n]).length=n+1;simp[ih]
  by_cases hi:i=n
  ·subst hi;rw[wH (by rw[hl];exact zn _),hl,xS];rfl
  ·rw[wS (by rw[hl];omega)];exact ih (by omega)
def vi:∀n,(upto n).length=n:=λn=>by
 induction n with
 |zero=>rfl
 |succ n ih=>show (upto n++[n]).length=n+1;simp[ih]
def nJ(n0:Nat)(dr rest:aa Nat)(i:Nat):Nat:=match dH i dr with
 |true=>n0+lM rest i
 |false=>lM (upto n0++rest) i
def ab6(n0:Nat)(dr:aa Nat)(l:Env)(R:bg)(rest:aa Nat):af St:=match l.all (λq=>kC (λi=>dH i rest|| !dH i dr&&zG i n0) 4 q.2)&&R.all (λq=>(dH q.1 rest|| !dH q.1 dr&&zG q.1 n0)&&match q.2 with
  | .box _ cs=>cs.all (kC (λi=>dH i rest|| !dH i dr&&zG i n0) 4)
  | .row _ _=>O)with
 |true=>V ⟨arh (l.map λq=>(q.1,lD (nJ n0 dr rest) 4 q.2)),R.map λq=>(nJ n0 dr rest q.1,Gn (nJ n0 dr rest) q.2),n0+rest.length⟩
 |false=>G
def Y4(n0:Nat)(dr:aa Nat)(l:Env)(R:bg):af St:=ab6 n0 dr l R ((R.map λq=>q.1).filter λi=>dH i dr|| !zG i n0)
def canon(n0:Nat)(dr:aa Nat)(ts:aa Nat)(s:St):af St:=Y4 n0 dr (OF ts s.E) (jY ((upto n0).filter (λi=> !dH i dr)++reach s.R 3 (((OF ts s.E).flatMap λq=>ki 4 q.2)++(upto n0).filter (λi=> !dH i dr))) s.R).1
def XM{n0 n:Nat}{dr ts:aa Nat}{C:Cg}{s s':St}{a:Act}{w:World}(hC:C.n=n0)(h:canon n0 dr ts s=V s')(hm:Mt C n s a w):Mt C n s' a w:=by
 unfold canon Y4 at h;generalize hl:OF ts s.E=l at h;generalize hR:(jY ((upto n0).filter (λi=> !dH i dr)++reach s.R 3 ((l.flatMap λq=>ki 4 q.2)++(upto n0).filter (λi=> !dH i dr))) s.R)=R2 at h;have hperm:List.Perm s.R (R2.1++R2.2):=by rw[<-hR];exact nW _ _
 obtain⟨R,Rr⟩:=R2;dsimp only at h hperm;generalize hns:((R.map λq=>q.1).filter λi=>dH i dr|| !zG i n0)=rest at h;unfold ab6 at h;split at h
 case h_2=>cases h
 rename_i hb;cases h;rw[zi]at hb;obtain⟨hb1,hb2⟩:=hb;obtain⟨E,hh,hE,hR0,ρ,hag,hsim⟩:=hm
 let ρ':Gh:=⟨λj=>ρ.v ((upto n0++rest).getD j 0),λj=>ρ.b ((upto n0++rest).getD j 0)⟩
 have hget:∀i,(dH i rest|| !dH i dr&&zG i n0)=O->(upto n0++rest)[nJ n0 dr rest i]? =V i:=λi hi=>by
  unfold nJ;cases hd:dH i dr with
  |true=>
   rw[hd]at hi;have hi:dH i rest=O:=by simpa using hi
   show (upto n0++rest)[n0+lM rest i]? =V i;rw[wH (by rw[vi];omega),vi,Nat.add_sub_cancel_left];exact uP (fU.1 hi)
  |false=>
   rw[hd]at hi;show (upto n0++rest)[lM (upto n0++rest) i]? =V i;refine uP ?_;rw[yM]at hi;rcases hi with hi|hi
   ·exact yK _ (fU.1 hi)
   ·refine yJ _ (abI ?_);simpa [yC]using hi
 have hp:∀i,(dH i rest|| !dH i dr&&zG i n0)=O->ρ'.v (nJ n0 dr rest i)=ρ.v i/\ρ'.b (nJ n0 dr rest i)=ρ.b i:=λi hi=>by
  have e:(upto n0++rest).getD (nJ n0 dr rest i) 0=i:=by rw[wm,hget i hi];rfl
  exact⟨by show ρ.v ((upto n0++rest).getD (nJ n0 dr rest i) 0)=_;rw[e],by show ρ.b ((upto n0++rest).getD (nJ n0 dr rest i) 0)=_;rw[e]⟩
 have hll:(upto n0++rest).length=n0+rest.length:=by rw[zj,vi]
 have hlt:∀i,(dH i rest|| !dH i dr&&zG i n0)=O->nJ n0 dr rest i<n0+rest.length:=λi hi=>by
  rw[<-hll];exact(z7.1 (hget i hi)).1
 have hres:bg.res ρ' (R.map λq=>(nJ n0 dr rest q.1,Gn (nJ n0 dr rest) q.2))=bg.res ρ R:=by
  unfold bg.res;rw[yq];refine zX λq hq=> ?_;have hbq:=zw.1 hb2 q hq;rw[zi]at hbq;have hm:=hbq.1;have hbq:=hbq.2;obtain⟨i,r⟩:=q;cases r with
  |row t l=>show cE.row (ρ'.v (nJ n0 dr rest i)) t l= .row (ρ.v i) t l;rw[(hp i hm).1]
  |box T cs=>
   show cE.box (ρ'.b (nJ n0 dr rest i)) T ((cs.map (lD (nJ n0 dr rest) 4)).map (cc.sub ρ'))= .box (ρ.b i) T (cs.map (cc.sub ρ));rw[(hp i hm).2,yq]
   congr 1
   exact zX λc hc=>jc hp 4 (zw.1 hbq c hc)
 have hp2:List.Perm (bg.res ρ s.R) (bg.res ρ (R++Rr)):=hperm.map _;have hsim2:=hsim.perm hp2;rw[kE]at hsim2;have hless:=hsim2.less (List.sublist_append_left _ _);refine⟨l.map λq=>(q.1,lD (nJ n0 dr rest) 4 q.2),Bh _,λq hq=> ?_,λq hq=> ?_,ρ',⟨λi hi=> ?_,?_⟩,?_⟩
 ·obtain⟨q',h1,rfl⟩:=zL.1 hq;exact kW hlt 4 (zw.1 hb1 q' h1)
 ·obtain⟨q',h1,rfl⟩:=zL.1 hq;have hbq:=zw.1 hb2 q' h1;rw[zi]at hbq;have hm:=hbq.1;have hbq:=hbq.2;refine⟨hlt _ hm,?_⟩;obtain⟨i,r⟩:=q';cases r with
  |row t l=>trivial
  |box T cs=>
   intro c hc;obtain⟨c',h3,rfl⟩:=zL.1 hc;exact kW hlt 4 (zw.1 hbq c' h3)
 ·rw[hC]at hi;have e:(upto n0++rest).getD i 0=i:=by
   rw[wm,wS (by rw[vi];exact hi),aaZ hi];rfl
  have:=hag.1 i (by rw[hC];exact hi);exact⟨by show C.ρ.v i=ρ.v ((upto n0++rest).getD i 0);rw[e];exact this.1,by show C.ρ.b i=ρ.b ((upto n0++rest).getD i 0);rw[e];exact this.2⟩
 ·rw[hC];show n0<=n0+rest.length;exact Nat.le_add_right _ _
 ·rw[hres];refine⟨hless.defers,hless.size,λt av ht=> ?_,hless.good⟩;have e:∀(l:Env),(∀q∈l,kC (λi=>dH i rest|| !dH i dr&&zG i n0) 4 q.2=O)->Env.sub ρ' (l.map λq=>(q.1,lD (nJ n0 dr rest) 4 q.2))=Env.sub ρ l:=λl hl=>by
   unfold Env.sub;rw[yq];exact zX λq hq=>by
    show (q.1,(lD (nJ n0 dr rest) 4 q.2).sub ρ')=_;rw[jc hp 4 (hl q hq)]
  rw[e l (λq hq=>zw.1 hb1 q hq),Env.fh]at ht;obtain⟨d,hd,rfl⟩:=zk.1 ht;rw[<-hl]at hd;exact hless.slots t _ (by rw[Env.fh,hh t d (W3 ts t d hd)];rfl)
def rdC{γ:Type}(n0:Nat)(dr ts:aa Nat)(rd:St->af γ)(s:St):af γ:=(canon n0 dr ts s).bind rd
def arW{γ:Type}{n0 n:Nat}{dr ts:aa Nat}{rd:St->af γ}{pat:γ->St}(h:rW n0 n rd pat):rW n0 n (rdC n0 dr ts rd) pat:=λC s p a w hC hr hm=>by
 obtain⟨s',h1,h2⟩:=zq.1 hr;exact h C s' p a w hC h2 (XM hC h1 hm)
def tP{β:Type}(f:β->β)(j:Nat)(l:aa β):aa β:=List.rec (λ_=>[]) (λb l ih j=>match zf j 0 with
 |true=>f b::l
 |false=>b::ih (j-1)) l j
def vv{β γ:Type}{f:β->β}{g g':β->γ}:∀(l:aa β) (j:Nat),(∀b∈l,g (f b)=g' b)->(∀b∈l,g b=g' b)->(tP f j l).map g=l.map g'
 |[],_,_,_=>rfl
 |b::l,j,h1,h2=>by
  show (match zf j 0 with
   |true=>f b::l
   |false=>b::tP f (j-1) l).map g=_
  split
  ·rw[ye,ye,h1 b zo,zX λc hc=>h2 c (zO _ hc)]
  ·rw[ye,ye,h2 b zo,vv l (j-1) (λc hc=>h1 c (zO _ hc)) (λc hc=>h2 c (zO _ hc))]
def ua{β:Type}{f:β->β}{p:β->Prop}:∀(l:aa β) (j:Nat),(∀b∈l,p (f b))->(∀b∈l,p b)->∀b∈tP f j l,p b
 |[],_,_,_,b,hb=>by cases hb
 |c::l,j,h1,h2,b,hb=>by
  have hb:b∈(match zf j 0 with
   |true=>f c::l
   |false=>c::tP f (j-1) l):=hb
  split at hb
  ·rcases zD.1 hb with rfl|hb
   ·exact h1 c zo
   ·exact h2 b (zO _ hb)
  ·rcases zD.1 hb with rfl|hb
   ·exact h2 b zo
   ·exact ua l (j-1) (λc hc=>h1 c (zO _ hc)) (λc hc=>h2 c (zO _ hc)) b hb
def uM(nx:Nat)(p:aa Nat):AV->AV:=List.rec (λd=>match d with
 | .lit (.slice G 0 0)=> .own nx
 |d=>d) (λj _ ih d=>match d with
 | .agg cs=> .agg (tP ih j cs)
 | .iR cs=> .iR (tP ih j cs)
 |d=>d) p
def vb{ρ:Gh}{nx:Nat}:∀(p:aa Nat) (d:AV),cS nx d->(uM nx p d).sub (ρ.gu nx (.slice G 0 0))=d.sub ρ
 |[],d,h=>by
  show cc.sub _ (match d with
   | .lit (.slice G 0 0)=> .own nx
   |d=>d)=_
  split
  ·rw[dO,bW];simp[Gh.gu]
  ·exact(h.sub (.gu ρ nx _)).symm
 |j::p,d,h=>by
  show cc.sub _ (match d with
   | .agg cs=> .agg (tP (uM nx p) j cs)
   | .iR cs=> .iR (tP (uM nx p) j cs)
   |d=>d)=_
  split
  ·rw[fo,fo,vv _ j (λb hb=>vb p b (h.oN b hb)) (λb hb=>((h.oN b hb).sub (.gu ρ nx _)).symm)]
  ·rw[kF,kF,vv _ j (λb hb=>vb p b (h.Gw b hb)) (λb hb=>((h.Gw b hb).sub (.gu ρ nx _)).symm)]
  ·exact(h.sub (.gu ρ nx _)).symm
def uI{nx:Nat}:∀(p:aa Nat) (d:AV),cS nx d->cS (nx+1) (uM nx p d)
 |[],d,h=>by
  show cS (nx+1) (match d with
   | .lit (.slice G 0 0)=> .own nx
   |d=>d)
  split
  ·exact .own _ (zJ _)
  ·exact h.mono (yc _)
 |j::p,d,h=>by
  show cS (nx+1) (match d with
   | .agg cs=> .agg (tP (uM nx p) j cs)
   | .iR cs=> .iR (tP (uM nx p) j cs)
   |d=>d)
  split
  ·exact .agg _ (ua _ j (λb hb=>uI p b (h.oN b hb)) (λb hb=>(h.oN b hb).mono (yc _)))
  ·exact .iR _ (ua _ j (λb hb=>uI p b (h.Gw b hb)) (λb hb=>(h.Gw b hb).mono (yc _)))
  ·exact h.mono (yc _)
def ars(t:Nat)(p:aa Nat)(e:Nat)(s:St):St:=match cQ s.E t with
 |some d=>⟨mE t (uM s.nx p d) s.E,(s.nx, .row e [])::s.R,s.nx+1⟩
 |none=>s
def mW(id j:Nat)(p:aa Nat)(e:Nat)(s:St):St:=match gp s.R id with
 |some (.box T cs)=>⟨s.E,(s.nx, .row e [])::sY id (.box T (tP (uM s.nx p) j cs)) s.R,s.nx+1⟩
 |_=>s
def Th{ρ:Gh}{R:bg}{nx e:Nat}:bg.res (ρ.gu nx (.slice G 0 0)) ((nx,IR.row e [])::R)=cE.row (.slice G 0 0) e []::bg.res (ρ.gu nx (.slice G 0 0)) R:=by
 show cE.row ((ρ.gu nx (.slice G 0 0)).v nx) e []::_=_;simp[Gh.gu,bg.res]
def aiM{C:Cg}{n t e:Nat}{p:aa Nat}{s:St}{a:Act}{w:World}(hm:Mt C n s a w):Mt C n (ars t p e s) a w:=by
 unfold ars;split
 case h_2=>exact hm
 rename_i d hg;obtain⟨E,hh,hE,hR,ρ,hag,hsim⟩:=hm;have ht:=PC (C:=C.C) G e hsim.good;have hs:=hsim.tr ht;have hs1:E.sub ρ=E.sub (ρ.gu s.nx (.slice G 0 0)):=hE.sub (.gu ρ s.nx _);have hr1:bg.res ρ s.R=bg.res (ρ.gu s.nx (.slice G 0 0)) s.R:=hR.res (.gu ρ s.nx _);have hd:cS s.nx d:=hE _ (Env.get_mem (hh t d hg));refine⟨(t,uM s.nx p d)::E,hh.put t _,Env.um (hE.mono (yc _)) (uI p d hd),λq hq=> ?_,ρ.gu s.nx (.slice G 0 0),⟨hag.1.trans (.gu ρ s.nx _) hag.2,zK hag.2 (yc _)⟩,?_⟩
 ·rcases zD.1 hq with rfl|hq
  ·exact⟨zJ _,trivial⟩
  ·exact(hR.mono (yc _)) q hq
 ·show tV C.C n ((t,cc.sub _ (uM s.nx p d))::E.sub _) (bg.res _ ((s.nx,IR.row e [])::s.R)) a w;rw[Th,<-hr1,<-hs1,vb p d hd];refine⟨hs.defers,hs.size,λu av hu=> ?_,hs.good⟩;by_cases htu:t=u
  ·subst htu;rw[Env.fk]at hu;cases hu;exact hs.slots t _ (by rw[Env.fh,hh t _ hg,yx])
  ·rw[Env.dV _ _ htu]at hu;exact hs.slots u av hu
def aib{C:Cg}{n id j e:Nat}{p:aa Nat}{s:St}{a:Act}{w:World}(hm:Mt C n s a w):Mt C n (mW id j p e s) a w:=by
 unfold mW;split
 case h_2=>exact hm
 rename_i T cs hg;obtain⟨E,hh,hE,hR,ρ,hag,hsim⟩:=hm;have ht:=PC (C:=C.C) G e hsim.good;have hs:=hsim.tr ht;have hs1:E.sub ρ=E.sub (ρ.gu s.nx (.slice G 0 0)):=hE.sub (.gu ρ s.nx _);have hr1:bg.res ρ s.R=bg.res (ρ.gu s.nx (.slice G 0 0)) s.R:=hR.res (.gu ρ s.nx _);obtain⟨hid,hcs⟩:=Fj hg hR;have hr2:bg.res (ρ.gu s.nx (.slice G 0 0)) (sY id (.box T (tP (uM s.nx p) j cs)) s.R)=bg.res ρ s.R:=by
  obtain⟨i,h1,h2,_⟩:=eR hg;rw[h2,uA,<-hr1];have e1:IR.res (ρ.gu s.nx (.slice G 0 0)) id (.box T (tP (uM s.nx p) j cs))=IR.res ρ id (.box T cs):=by
   show cE.box ((ρ.gu s.nx (.slice G 0 0)).b id) T ((tP (uM s.nx p) j cs).map (cc.sub _))= .box (ρ.b id) T (cs.map (cc.sub ρ));rw[vv cs j (λb hb=>vb p b (hcs b hb)) (λb hb=>((hcs b hb).sub (.gu ρ s.nx _)).symm)];rfl
  rw[e1];have h3:=ia (ρ:=ρ) h1;exact List.ext_getElem? λk=>by
   by_cases hk:i=k
   ·subst hk;rw[List.getElem?_set_self (z7.1 h3).1,h3]
   ·rw[List.getElem?_set_ne hk]
 refine⟨E,hh,hE.mono (yc _),λq hq=> ?_,ρ.gu s.nx (.slice G 0 0),⟨hag.1.trans (.gu ρ s.nx _) hag.2,zK hag.2 (yc _)⟩,?_⟩
 ·rcases zD.1 hq with rfl|hq
  ·exact⟨zJ _,trivial⟩
  ·refine qy hg (hR.mono (yc _)) ?_ q hq;exact ua cs j (λb hb=>uI p b (hcs b hb)) (λb hb=>(hcs b hb).mono (yc _))
 ·show tV C.C n (E.sub _) (bg.res _ ((s.nx,IR.row e [])::sY id (.box T (tP (uM s.nx p) j cs)) s.R)) a w;rw[Th,hr2,<-hs1];exact hs
def atA(p:aa Nat):AV->af Nat:=List.rec (λd=>match d with
 | .own i=>V i
 |_=>G) (λj _ ih d=>match d with
 | .agg cs=>(cs[j]?).bind ih
 | .iR cs=>(cs[j]?).bind ih
 |_=>G) p
def axK(t:Nat)(p:aa Nat)(s:St):St:=match cQ s.E t with
 |some d=>match atA p d with
  |some i=>s.K9 i
  |none=>s
 |none=>s
def ayv(id j:Nat)(p:aa Nat)(s:St):St:=match gp s.R id with
 |some (.box _ cs)=>match (cs[j]?).bind (atA p)with
  |some i=>s.K9 i
  |none=>s
 |_=>s
def rdF{γ:Type}(f:St->St)(rd:St->af γ)(s:St):af γ:=rd (f s)
def cA(f:St->St):Prop:=∀(C:Cg) n s a w,Mt C n s a w->Mt C n (f s) a w
def cA.s(t:Nat)(p:aa Nat)(e:Nat):cA (ars t p e):=λ_ _ _ _ _ h=>aiM h
def cA.c(id j:Nat)(p:aa Nat)(e:Nat):cA (mW id j p e):=λ_ _ _ _ _ h=>aib h
def cA.fs(t:Nat)(p:aa Nat):cA (axK t p):=λ_ _ _ _ _ h=>by
 unfold axK;split
 ·split
  ·exact h.K9 _
  ·exact h
 ·exact h
def cA.fc(id j:Nat)(p:aa Nat):cA (ayv id j p):=λ_ _ _ _ _ h=>by
 unfold ayv;split
 ·split
  ·exact h.K9 _
  ·exact h
 ·exact h
def aqi{γ:Type}{n0 n:Nat}{f:St->St}{rd:St->af γ}{pat:γ->St}(hf:cA f)(h:rW n0 n rd pat):rW n0 n (rdF f rd) pat:=λC s p a w hC hr hm=>h C (f s) p a w hC hr (hf C n s a w hm)
end Go.Iv
end
noncomputable section
namespace Go.Iv
variable [U:qO] [L:mI]
open Go Go.RowKit
section
variable {P:Program} {f:FuncId} {args:aa AV} {σp σr:aa cE} {Φ:AV->aa cE->Prop}
def De{σ:aa cE}{w:World}{A:Nat->Prop}(hd:Hd A σ w)(hnd:(bD σ).Nodup):Good ⟨w,A,bD σ⟩ σ w:=
 have hal:∀b,A b->al ⟨w,A,bD σ⟩ σ b:=λb hA=>⟨.inl hA,λhx=>hd.2 b hx hA⟩
 ⟨Kp.refl _ _,λr hr=>(hd.1 r hr).mono (λb _ hA=>⟨hal b hA,rfl⟩) (λ_ _=>rfl),hnd,λb hb=> .inl hb⟩
def Mq{σ σ':aa cE}{X:aa Nat}{C:Cx}{w w':World}(h:Tr C X σ w σ' w')(hX:∀b∈X,b∈bD σ):Tr C (bD σ) σ w σ' w':=
 ⟨h.good,⟨h.kp.os,h.kp.tape,h.kp.output,h.kp.drawn,h.kp.size,λk hk hn=>h.kp.block k hk λhx=>hn (hX k hx)⟩,λb hb hA=>⟨(h.al b hb hA).1,hA.2⟩⟩
def Fn.ahT(h:Fn P f args σp Φ):Fn P f args (σp++σr) (λa s=>∃so,Φ a so/\s=so++σr):=λw A vs hrel hd0 hnd0=>by
 have hg:=De hd0 hnd0;generalize hC:(⟨w,A,bD (σp++σr)⟩:Cx)=C at hg ⊢;have hdis:=hg.GI;rw[gU]at hdis;obtain⟨d1,d2,d3⟩:=yI.1 hdis;have hlt:∀b∈bD (σp++σr),b<w.heap.size:=λb hb=>by
  obtain⟨s,h1,h2⟩:=bT.1 hb;exact(hg.res s h1).lt h2
 have hal0:∀b,A b->al C (σp++σr) b:=λb hA=>by
  subst hC;exact⟨.inl hA,λhx=>hd0.2 b hx hA⟩
 have hd:Hd (al C (σp++σr)) σp w:=⟨λr hr=>hg.res r (yJ _ hr),λb hb hA=>hA.2 (bR.2 (.inl hb))⟩;refine(h w (al C (σp++σr)) vs (hrel.mono λb _ hA=>⟨hal0 b hA,rfl⟩) hd d1).mono λe w' ⟨v,av,σo,q1,q2,q3,q4⟩=> ?_;have hown:∀b∈bD σo,b∈bD σp\/w.heap.size<=b:=q3.good.own;have hsub:∀b,al ⟨w,al C (σp++σr),bD σp⟩ σo b->al C (σo++σr) b:=λb hb=>by
  obtain⟨hb1,hb2⟩:=hb;rcases hb1 with hb1|hb1|hb1
  ·exact⟨hb1.1,λhx=>(bR.1 hx).elim hb2 (λh=>hb1.2 (bR.2 (.inr h)))⟩
  ·have hbp:b∈bD σp:=hb1;refine⟨?_,λhx=>(bR.1 hx).elim hb2 (λh=>d3 b hbp b h rfl)⟩;rcases hg.own b (bR.2 (.inl hbp))with h|h
   ·exact .inr (.inl h)
   ·exact .inr (.inr h)
  ·have hbw:w.heap.size<=b:=hb1;exact⟨.inr (.inr (zK hg.kept.size hbw)),λhx=>(bR.1 hx).elim hb2 (λh=>by have:=hlt b (bR.2 (.inr h));omega)⟩
 have ht:=BU hg (λb hA _=> .inl hA) q3 (λr hr=>(q3.good.res r hr).mono (λb hb hA=>⟨hsub b hA,rfl⟩) (λ_ _=>rfl));exact⟨v,av,σo++σr,q1,⟨σo,q2,rfl⟩,Mq ht (λb hb=>bR.2 (.inl hb)),q4.mono λb hb hA=>⟨hsub b hA,rfl⟩⟩
def Fn.aEo{args':aa AV}{σr:aa cE}(h:Fn P f args' [] Φ)(hv:∀(A:Nat->Prop) (w:World) (us:aa Value),Hd A σr w->bN A w args us->bN (λb=>A b\/b∈bD σr) w args' us)
  (hc:∀av σo,Φ av σo->Cl av/\∀r∈σo,ClR r):Fn P f args σr (λa s=>∃so,Φ a so/\s=so++σr):=λw A vs hrel hd0 hnd0=>by
 have hg:=De hd0 hnd0;generalize hC:(⟨w,A,bD σr⟩:Cx)=C at hg ⊢;have hal0:∀b,A b->al C σr b:=λb hA=>by
  subst hC;exact⟨.inl hA,λhx=>hd0.2 b hx hA⟩
 have h3:=hv (al C σr) w vs hg.hd (hrel.mono λb _ hA=>⟨hal0 b hA,rfl⟩);refine(h w _ vs h3 ⟨λr hr=>(by cases hr),λb hb=>(by cases hb)⟩ List.nodup_nil).mono λe w' ⟨v,av,σo,q1,q2,q3,q4⟩=> ?_;obtain⟨c1,c2⟩:=hc av σo q2;have ht:=BU (σp:=[]) (σr:=σr) hg (λb hA _=>hA) q3 (λr hr=>c2 r hr _ _ w' (q3.good.res r hr));exact⟨v,av,σo++σr,q1,⟨σo,q2,rfl⟩,Mq (σ:=σr) ht (λb hb=>by cases hb),c1 _ _ w' v q4⟩
end
def aEi(n:Nat):AV->Bool:=kC (λ_=>S) n
def Fq{A:Nat->Prop}{w:World}{cs:aa AV}{v:Value}(h:Rel A w (.fp cs) v):∃(b o:Nat) (us:aa Value),v= .pointer (V ⟨b,o,G⟩)/\b<w.heap.size/\A b/\(∀j v,us[j]? =V v->w.cell? ⟨b,o+j,G⟩=V v)/\bN A w cs us:=by
 generalize ha:cc.fp cs=a at h;cases h with
 |fp cs' b o us hb hA hl hc hr=>cases ha;exact⟨b,o,us,rfl,hb,hA,hc,hl,hr⟩
 |_=>cases ha
def HE(lb:Bool)(rd:Nat->af IR)(n:Nat):AV->AV:=Nat.rec (λd=>match d with
 | .own id=>match rd id with
  |some (.row t l)=> .sl t l
  |_=> .own id
 |d=>d) (λ_ ih d=>match d with
 | .own id=>match rd id with
  |some (.row t l)=> .sl t l
  |_=> .own id
 | .ptr id 0=>match lb with
  |true=>match rd id with
   |some (.box _ cs)=> .fp (cs.map ih)
   |_=> .ptr id 0
  |false=> .ptr id 0
 | .agg cs=> .agg (cs.map ih)
 | .fn f cs=> .fn f (cs.map ih)
 |d=>d) n
def abM{R:bg}{ρ:Gh}{A:Nat->Prop}{w:World}{v:Value}{id T:Nat}{cs:aa AV}(hd:Hd A (bg.res ρ R) w)(hg:gp R id=V (.box T cs))(hr:Rel A w ((cc.ptr (dz:=U.dz) id 0).sub ρ) v):
  Rel (λb=>A b\/b∈bD (bg.res ρ R)) w (.fp (cs.map (cc.sub ρ))) v:=by
 obtain⟨i,hi,_⟩:=eR hg;have hres:=ia (ρ:=ρ) hi;rw[fH]at hr;exact Vw.box i hres A w v hd hr
def WX{lb:Bool}{R:bg}{ρ:Gh}{A:Nat->Prop}{w:World}(hd:Hd A (bg.res ρ R) w):∀(n:Nat) {d:AV} {v:Value},Rel (λb=>A b\/b∈bD (bg.res ρ R)) w (d.sub ρ) v->Rel (λb=>A b\/b∈bD (bg.res ρ R)) w ((HE lb (gp R) n d).sub ρ) v:=by
 have hown:∀{id:Nat} {v:Value},Rel (λb=>A b\/b∈bD (bg.res ρ R)) w ((cc.own (dz:=U.dz) id).sub ρ) v->Rel (λb=>A b\/b∈bD (bg.res ρ R)) w ((match gp R id with
  |some (.row t l)=>cc.sl t l
  |_=> .own id).sub ρ) v:=λ{id v} h=>by
  rw[dO]at h;rw[h.cH];exact aa8 hd (by rw[dO];exact .lit _)
 intro n;induction n with
 |zero=>
  intro d v h;cases d<;>first|exact h|exact hown h
 |succ n ih=>
  have hL:∀{cs:aa AV} {us:aa Value},bN (λb=>A b\/b∈bD (bg.res ρ R)) w (cs.map (cc.sub ρ)) us->bN (λb=>A b\/b∈bD (bg.res ρ R)) w ((cs.map (HE lb (gp R) n)).map (cc.sub ρ)) us:=λ{cs us} h=>
   ⟨by simpa using h.1,λj a u q1 q2=>by
    rw[yq,yb]at q1;obtain⟨c,hc,rfl⟩:=zk.1 q1;exact ih (h.2 j _ u (by rw[yb,hc];rfl) q2)⟩
  intro d v h;cases d with
  |own id=>exact hown h
  |agg cs=>
   show Rel _ w ((cc.agg (cs.map (HE lb (gp R) n))).sub ρ) v;rw[fo]at h ⊢;obtain⟨us,rfl,h2⟩:=h.oD;exact Rel.oN (hL h2)
  |fn f cs=>
   show Rel _ w ((cc.fn f (cs.map (HE lb (gp R) n))).sub ρ) v;rw[tS]at h ⊢;obtain⟨us,rfl,h2⟩:=h.YX;have h3:=hL h2;exact .fn f _ us h3.1 h3.2
  |ptr id off=>
   cases off with
   |succ o=>exact h
   |zero=>
    cases lb with
    |false=>exact h
    |true=>
     show Rel _ w (cc.sub ρ (match gp R id with
      |some (.box _ cs)=> .fp (cs.map (HE O (gp R) n))
      |_=> .ptr id 0)) v
     split
     ·rename_i T cs hg;have h0:Rel A w ((cc.ptr (dz:=U.dz) id 0).sub ρ) v:=by
       rw[fH]at h ⊢;rw[h.cH];exact .lit _
      obtain⟨b,o,us,rfl,q1,q2,q3,q4⟩:=Fq (abM hd hg h0);rw[mq];have q5:=hL q4;exact .fp _ b o us q1 q2 q5.1 q3 q5.2
     ·exact h
  |_=>exact h
def k9(l:aa Nat)(n0 nx:Nat)(i:Nat):Nat:=match zG i n0 with
 |true=>l.getD i 0
 |false=>nx+(i-n0)
def Out.okB(n0:Nat)(x:Out):Bool:=yl n0 x.c&&kC (λi=>zG i x.c) 4 x.d&&x.R.all λq=>zG q.1 x.c&&match q.2 with
 | .box _ cs=>cs.all (kC (λi=>zG i x.c) 4)
 | .row _ _=>O
def Li{α γ β:Type}(q:aa AV->bg->af γ)(t:γ->af β)(out:β->Out)(n0:Nat)(args:aa AV)(nx:Nat)(k:AV->bg->Nat->af α)(F:af α)(Rp Rr:bg)(ns:aa Nat):af α:=
 match zf Rp.length n0&&args.all (kC (λi=>dH i ns) 4)&&Rp.all (λq=>match q.2 with
  | .box _ cs=>cs.all (kC (λi=>dH i ns) 4)
  | .row _ _=>O)with
 |true=>match q (args.map (lD (lM ns) 4)) (Rp.map λq=>(lM ns q.1,Gn (lM ns) q.2))with
  |some g=>match t g with
   |some b=>k (lD (k9 ns n0 nx) 4 (out b).d) ((out b).R.map (λq=>(k9 ns n0 nx q.1,Gn (k9 ns n0 nx) q.2))++Rr) (nx+((out b).c-n0))
   |none=>G
  |none=>F
 |false=>F
def X8{α γ β:Type}(q:aa AV->bg->af γ)(t:γ->af β)(out:β->Out)(n0:Nat)(args:aa AV)(nx:Nat)(k:AV->bg->Nat->af α)(F:af α)(R2:bg×bg):af α:=
 Li q t out n0 args nx k F R2.1 R2.2 (R2.1.map λq=>q.1)
def ZP{γ β:Type}(f0 n0:Nat)(q:aa AV->bg->af γ)(t:γ->af β)(out:β->Out)(F:aZ):aZ:=λ_ f args R nx k=>match zf f f0 with
 |true=>X8 q t out n0 args nx k (F _ f args R nx k) (jY (reach R 3 (args.flatMap (ki 4))) R)
 |false=>F _ f args R nx k
def QY{γ:Type}(q:aa AV->bg->af γ)(ca:γ->aa AV)(cr:γ->bg):Prop:=∀xs R g,q xs R=V g->(∀(ρ:Gh) A w us,bN A w (xs.map (cc.sub ρ)) us->bN A w ((ca g).map (cc.sub ρ)) us)/\Kj R (cr g)
def Fn.pre{P:Program}{f:FuncId}{args args':aa AV}{R R':bg}{ρ:Gh}{Φ:AV->aa cE->Prop}(h:Fn P f args' (bg.res ρ R') Φ)(ha:∀A w us,bN A w args us->bN A w args' us)(hr:Kj R R'):Fn P f args (bg.res ρ R) Φ:=λw A vs h1 h2 h3=>by
 have hb:bD (bg.res ρ R)=bD (bg.res ρ R'):=FW hr;rw[hb];refine(h w A vs (ha A w vs h1) ⟨Ry hr h2.1,λb hb'=>h2.2 b (by rw[hb];exact hb')⟩ (by rw[<-hb];exact h3)).mono λe w' ⟨v,av,σ',q1,q2,q3,q4⟩=>⟨v,av,σ',q1,q2,⟨q3.good,q3.kp,λb hb' hA=> ?_⟩,q4⟩;refine q3.al b hb' ⟨hA.1,?_⟩;rw[<-hb];exact hA.2
def Yd{P:Program}{F:aZ}{γ β:Type}{f0 n0:Nat}{q:aa AV->bg->af γ}{ca:γ->aa AV}{cr:γ->bg}{t:γ->af β}{out:β->Out}(hF:iD P F)(hf:th P f0)(hq:QY q ca cr)(hm:∀b,(out b).okB n0=O)
  (h:∀g b,t g=V b->K7 P f0 (ca g) (cr g) n0 (out b)):iD P (ZP f0 n0 q t out F):=λα f args R nx k r hr hargs hR=>by
 unfold ZP at hr;split at hr
 case h_2=>exact hF α f args R nx k r hr hargs hR
 rename_i hb;have hb:=gz hb;subst hb;unfold X8 at hr;generalize hR2:jY (reach R 3 (args.flatMap (ki 4))) R=R2 at hr;have hperm:List.Perm R (R2.1++R2.2):=by rw[<-hR2];exact nW _ _
 obtain⟨Rp,Rr⟩:=R2;dsimp only at hr hperm;generalize hns:(Rp.map λq=>q.1)=ns at hr;unfold Li at hr;split at hr
 case h_2=>exact hF α f args R nx k r hr hargs hR
 rename_i hchk;rw[zi,zi]at hchk;obtain⟨⟨hc0,hc1⟩,hc2⟩:=hchk;have hc0:=gz hc0;split at hr
 case h_2=>exact hF α f args R nx k r hr hargs hR
 rename_i g hg;split at hr
 case h_2=>cases hr
 rename_i b hb;have hlen:ns.length=n0:=by rw[<-hns,zx,hc0]
 have hRs:∀p∈Rp++Rr,p.1<nx/\p.2.cS nx:=λp hp=>hR p (hperm.mem_iff.2 hp);have hnsl:∀i∈ns,i<nx:=λi hi=>by
  rw[<-hns]at hi;obtain⟨p,hp,rfl⟩:=zL.1 hi;exact(hRs p (yJ _ hp)).1
 obtain⟨hqa,hqr⟩:=hq _ _ g hg;have hok:=hm b;unfold Out.okB at hok;rw[zi,zi]at hok;obtain⟨⟨ho0,ho1⟩,ho2⟩:=hok;have ho0:n0<=(out b).c:=by simpa using ho0
 refine⟨hf,λρ=> ?_⟩
 let ρ0:Gh:=⟨λj=>ρ.v (ns.getD j 0),λj=>ρ.b (ns.getD j 0)⟩
 have hp:∀i,dH i ns=O->ρ0.v (lM ns i)=ρ.v i/\ρ0.b (lM ns i)=ρ.b i:=λi hi=>by
  have:=uP (fU.1 hi);have e:ns.getD (lM ns i) 0=i:=by rw[wm,this];rfl
  exact⟨by show ρ.v (ns.getD (lM ns i) 0)=_;rw[e],by show ρ.b (ns.getD (lM ns i) 0)=_;rw[e]⟩
 have ea:(args.map (lD (lM ns) 4)).map (cc.sub ρ0)=args.map (cc.sub ρ):=by
  rw[yq];exact zX λc hc=>jc hp 4 (zw.1 hc1 c hc)
 have er:bg.res ρ0 (Rp.map λq=>(lM ns q.1,Gn (lM ns) q.2))=bg.res ρ Rp:=by
  unfold bg.res;rw[yq];refine zX λq hq=> ?_;have hm:dH q.1 ns=O:=fU.2 (by rw[<-hns];exact zL.2 ⟨q,hq,rfl⟩);have hbq:=zw.1 hc2 q hq;obtain⟨i,rr⟩:=q;cases rr with
  |row t l=>show cE.row (ρ0.v (lM ns i)) t l= .row (ρ.v i) t l;rw[(hp i hm).1]
  |box T cs=>
   show cE.box (ρ0.b (lM ns i)) T ((cs.map (lD (lM ns) 4)).map (cc.sub ρ0))= .box (ρ.b i) T (cs.map (cc.sub ρ));rw[(hp i hm).2,yq]
   congr 1
   exact zX λc hc=>jc hp 4 (zw.1 hbq c hc)
 have h1:=Fn.pre (h g b hb ρ0) (hqa ρ0) hqr;rw[ea,er]at h1;have h2:=Fn.ahT (σr:=bg.res ρ Rr) h1;rw[<-kE]at h2;have hp2:List.Perm (bg.res ρ R) (bg.res ρ (Rp++Rr)):=hperm.map _;have h3:Fn P f (args.map (cc.sub ρ)) (bg.res ρ R) (λa s=>∃so,(∃ρ':Gh,oS n0 ρ0 ρ'/\a=(out b).d.sub ρ'/\List.Perm so (bg.res ρ' (out b).R))/\s=so++bg.res ρ Rr):=λw A vs q1 q2 q3=>by
  have hbm:∀x,x∈bD (bg.res ρ (Rp++Rr))↔x∈bD (bg.res ρ R):=λx=>(hp2.symm.filterMap _).mem_iff;refine(h2 w A vs q1 ⟨λr hr=>q2.1 r (hp2.mem_iff.2 hr),λx hx=>q2.2 x ((hbm x).1 hx)⟩ ((hp2.filterMap _).nodup_iff.1 q3)).mono λe w' ⟨v,av,σ',g1,g2,g3,g4⟩=> ?_;have hal:∀s x,al ⟨w,A,bD (bg.res ρ (Rp++Rr))⟩ s x->al ⟨w,A,bD (bg.res ρ R)⟩ s x:=λs x hx=>⟨hx.1.imp id (Or.imp (λh=>(hbm x).1 h) id),hx.2⟩;refine⟨v,av,σ',g1,g2,⟨⟨⟨g3.kp.os,g3.kp.tape,g3.kp.output,g3.kp.drawn,g3.kp.size,λk hk hn=>g3.kp.block k hk λhx=>hn ((hbm k).1 hx)⟩,λrr hrr=>(g3.good.res rr hrr).mono (λx _ hA=>⟨hal _ x hA,rfl⟩) (λ_ _=>rfl),g3.good.GI,λx hx=>(g3.good.own x hx).imp (λh=>(hbm x).1 h) id⟩,⟨g3.kp.os,g3.kp.tape,g3.kp.output,g3.kp.drawn,g3.kp.size,λk hk hn=>g3.kp.block k hk λhx=>hn ((hbm k).1 hx)⟩,λx hx hA=> ?_⟩,g4.mono λx _ hA=>⟨hal _ x hA,rfl⟩⟩;have hA':al ⟨w,A,bD (bg.res ρ (Rp++Rr))⟩ (bg.res ρ (Rp++Rr)) x:=⟨hA.1.imp id (Or.imp (λh=>(hbm x).2 h) id),λh=>hA.2 ((hbm x).1 h)⟩;exact⟨hal _ x (g3.al x hx hA').1,λh=>hA.2 h⟩
 refine Fn.mono h3 λa s ⟨so,⟨ρ1,g0,g1,g2⟩,g3⟩=> ?_
 let ρ2:Gh:=⟨λi=>if i<nx then ρ.v i else ρ1.v (n0+(i-nx)),λi=>if i<nx then ρ.b i else ρ1.b (n0+(i-nx))⟩
 have hag:oS nx ρ ρ2:=λi hi=>⟨by simp only[ρ2,bE hi],by simp only[ρ2,bE hi]⟩;have hb2:∀i,zG i (out b).c=O->(ρ2.v (k9 ns n0 nx i)=ρ1.v i/\ρ2.b (k9 ns n0 nx i)=ρ1.b i)/\k9 ns n0 nx i<nx+((out b).c-n0):=λi hi=>by
  have hi:i<(out b).c:=by simpa [yC]using hi
  unfold k9;split
  ·rename_i hlt;have hlt:i<n0:=by simpa [yC]using hlt
   obtain⟨e1,e2⟩:=g0 i hlt;have hlt2:i<ns.length:=by rw[hlen];exact hlt
   have hmem:ns.getD i 0∈ns:=by rw[wm,zu hlt2];exact xM hlt2
   have h4:=hnsl _ hmem;refine⟨⟨?_,?_⟩,by omega⟩
   ·show (if ns.getD i 0<nx then ρ.v (ns.getD i 0)else _)=_;rw[bE h4];exact e1
   ·show (if ns.getD i 0<nx then ρ.b (ns.getD i 0)else _)=_;rw[bE h4];exact e2
  ·rename_i hlt;have hlt:¬i<n0:=by
    intro hx;have:zG i n0=O:=by rw[yC];exact hx
    rw[this]at hlt;cases hlt
   have h5:¬nx+(i-n0)<nx:=by omega
   have h6:n0+(nx+(i-n0)-nx)=i:=by omega
   refine⟨⟨?_,?_⟩,by omega⟩
   ·show (if nx+(i-n0)<nx then _ else ρ1.v (n0+(nx+(i-n0)-nx)))=_;rw[bO h5,h6]
   ·show (if nx+(i-n0)<nx then _ else ρ1.b (n0+(nx+(i-n0)-nx)))=_;rw[bO h5,h6]
 have hres:bg.res ρ2 ((out b).R.map λq=>(k9 ns n0 nx q.1,Gn (k9 ns n0 nx) q.2))=bg.res ρ1 (out b).R:=by
  unfold bg.res;rw[yq];refine zX λq hq=> ?_;have hbq:=zw.1 ho2 q hq;rw[zi]at hbq;obtain⟨i,rr⟩:=q;cases rr with
  |row t l=>show cE.row (ρ2.v (k9 ns n0 nx i)) t l= .row (ρ1.v i) t l;rw[(hb2 i hbq.1).1.1]
  |box T cs=>
   show cE.box (ρ2.b (k9 ns n0 nx i)) T ((cs.map (lD (k9 ns n0 nx) 4)).map (cc.sub ρ2))= .box (ρ1.b i) T (cs.map (cc.sub ρ1));rw[(hb2 i hbq.1).1.2,yq]
   congr 1
   exact zX λc hc=>jc (λi hi=>(hb2 i hi).1) 4 (zw.1 hbq.2 c hc)
 refine⟨_,_,_,hr,by omega,kW (λi hi=>(hb2 i hi).2) 4 ho1,λq hq=> ?_,ρ2,hag,?_,?_⟩
 ·rcases zW.1 hq with hq|hq
  ·obtain⟨q',h4,rfl⟩:=zL.1 hq;have hbq:=zw.1 ho2 q' h4;rw[zi]at hbq;refine⟨(hb2 _ hbq.1).2,?_⟩;obtain⟨i,rr⟩:=q';cases rr with
   |row t l=>trivial
   |box T cs=>
    intro c hc;obtain⟨c',h5,rfl⟩:=zL.1 hc;exact kW (λi hi=>(hb2 i hi).2) 4 (zw.1 hbq.2 c' h5)
  ·have:=hRs q (yK _ hq);exact⟨by omega,this.2.mono (by omega)⟩
 ·rw[g1];exact(jc (λi hi=>(hb2 i hi).1) 4 ho1).symm
 ·rw[g3,kE,hres,<-bg.cS.res (R:=Rr) (λq hq=>hRs q (yK _ hq)) hag];exact g2.append_right _
def scD(n:Nat):AV->Bool:=Nat.rec (λd=>match d with
 | .lit _=>O
 | .own _=>O
 | .ptr _ _=>O
 |_=>S) (λ_ ih d=>match d with
 | .lit _=>O
 | .own _=>O
 | .ptr _ _=>O
 | .agg cs=>cs.all ih
 | .iR cs=>cs.all ih
 |_=>S) n
def Z6{ρ:Gh}:∀(n:Nat) {d:AV},scD n d=O->Cl (d.sub ρ):=λn=>by
 induction n with
 |zero=>
  intro d h;cases d<;>first|(cases h;done)|(rw[bW];exact .lit _)|(rw[dO];exact .lit _)|(rw[fH];exact .lit _)
 |succ n ih=>
  have hL:∀{cs:aa AV},cs.all (scD n)=O->K8 (cs.map (cc.sub ρ)):=λ{cs} h=>by
   induction cs with
   |nil=>exact .nil
   |cons c cs ihc=>
    rw[List.all_cons,zi]at h;exact .cons (ih h.1) (ihc h.2)
  intro d h;cases d<;>first|(cases h;done)|(rw[bW];exact .lit _)|(rw[dO];exact .lit _)|(rw[fH];exact .lit _)|skip
  ·rw[fo];exact .agg (hL h)
  ·rw[kF];exact .iR (hL h)
def Vc{n:Nat}{ρ:Gh}:∀cs:aa AV,cs.all (scD n)=O->K8 (cs.map (cc.sub ρ))
 |[],_=> .nil
 |c::cs,h=>by
  rw[List.all_cons,zi]at h;exact .cons (Z6 n h.1) (Vc cs h.2)
def Out.scB(sc:Nat->Bool)(x:Out):Bool:=scD 4 x.d&&x.R.all λq=>match q.2 with
 | .row t _=>sc t
 | .box _ cs=>cs.all (scD 3)
def afx{sc:Nat->Bool}(hsc:∀t,sc t=O->∀x,K8 (U.cells t x)){x:Out}(h:x.scB sc=O)(ρ:Gh):Cl (x.d.sub ρ)/\∀r∈bg.res ρ x.R,ClR r:=by
 unfold Out.scB at h;rw[zi]at h;refine⟨Z6 4 h.1,λr hr=> ?_⟩;obtain⟨q,hq,rfl⟩:=zL.1 hr;have hb:=zw.1 h.2 q hq;obtain⟨i,rr⟩:=q;cases rr with
 |row t l=>exact ClR.row (hsc t hb)
 |box T cs=>
  exact ClR.box (Vc cs hb)
def T1{α γ β:Type}(q:aa AV->af γ)(t:γ->af β)(out:β->Out)(args:aa AV)(R:bg)(nx:Nat)(k:AV->bg->Nat->af α)(F:af α):af α:=
 match args.all (aEi 4)with
 |true=>match q args with
  |some g=>match t g with
   |some b=>k (lD (λi=>i+nx) 4 (out b).d) ((out b).R.map (λq=>(q.1+nx,Gn (λi=>i+nx) q.2))++R) ((out b).c+nx)
   |none=>G
  |none=>F
 |false=>F
def orL{γ β:Type}(f0:Nat)(lb:Bool)(q:aa AV->af γ)(t:γ->af β)(out:β->Out)(F:aZ):aZ:=λ_ f args R nx k=>match zf f f0 with
 |true=>T1 q t out (args.map (HE lb (gp R) 3)) R nx k (F _ f args R nx k)
 |false=>F _ f args R nx k
def aoj{P:Program}{F:aZ}{γ β:Type}{f0:Nat}{lb:Bool}{q:aa AV->af γ}{ca:γ->aa AV}{t:γ->af β}{out:β->Out}{sc:Nat->Bool}(hF:iD P F)(hsc:∀t,sc t=O->∀x,K8 (U.cells t x))(hf:th P f0)(hq:OK q ca)(hm:∀b,(out b).okB 0=O)(hs:∀b,(out b).scB sc=O)
  (h:∀g b,t g=V b->K7 P f0 (ca g) [] 0 (out b)):iD P (orL f0 lb q t out F):=λα f args R nx k r hr hargs hR=>by
 unfold orL at hr;split at hr
 case h_2=>exact hF α f args R nx k r hr hargs hR
 rename_i hb;have hb:=gz hb;subst hb;unfold T1 at hr;split at hr
 case h_2=>exact hF α f args R nx k r hr hargs hR
 rename_i hcl;split at hr
 case h_2=>exact hF α f args R nx k r hr hargs hR
 rename_i g hg;split at hr
 case h_2=>cases hr
 rename_i b hb;obtain⟨hqa,_⟩:=hq _ g hg;have hok:=hm b;unfold Out.okB at hok;rw[zi,zi]at hok;obtain⟨⟨_,ho1⟩,ho2⟩:=hok;refine⟨hf,λρ=> ?_⟩;have h1:Fn P f ((ca g).map (cc.sub ρ)) [] _:=h g b hb ρ;have h2:=Fn.aEo (args:=args.map (cc.sub ρ)) (σr:=bg.res ρ R) h1 (λA w us hd hrel=>by
  refine hqa ρ _ w us ⟨by simpa using hrel.1,λj a v q1 q2=> ?_⟩;rw[yq,yb]at q1;obtain⟨c,hc,rfl⟩:=zk.1 q1;exact WX hd 3 ((hrel.2 j _ v (by rw[yb,hc];rfl) q2).mono λb _ hA=>⟨.inl hA,rfl⟩)) (λav σo ⟨ρ',_,e1,e2⟩=>by
   obtain⟨c1,c2⟩:=afx hsc (hs b) ρ';subst e1;exact⟨c1,λr hr=>c2 r (e2.mem_iff.1 hr)⟩)
 have hlt:∀i,zG i (out b).c=O->i+nx<(out b).c+nx:=λi hi=>by rw[yC]at hi;omega
 refine Fn.mono h2 λa s ⟨s',⟨ρ1,_,g1,g2⟩,g3⟩=> ?_
 let ρ2:Gh:=⟨λi=>if i<nx then ρ.v i else ρ1.v (i-nx),λi=>if i<nx then ρ.b i else ρ1.b (i-nx)⟩
 have hag:oS nx ρ ρ2:=λi hi=>⟨by simp only[ρ2,bE hi],by simp only[ρ2,bE hi]⟩;have hp:∀i,zG i (out b).c=O->ρ2.v (i+nx)=ρ1.v i/\ρ2.b (i+nx)=ρ1.b i:=λi _=>by
  have:¬i+nx<nx:=by omega
  exact⟨by simp only[ρ2,bO this,wJ],by simp only[ρ2,bO this,wJ]⟩
 have hres:bg.res ρ2 ((out b).R.map λq=>(q.1+nx,Gn (λi=>i+nx) q.2))=bg.res ρ1 (out b).R:=by
  unfold bg.res;rw[yq];refine zX λq hq=> ?_;have hbq:=zw.1 ho2 q hq;rw[zi]at hbq;obtain⟨i,rr⟩:=q;cases rr with
  |row t l=>show cE.row (ρ2.v (i+nx)) t l= .row (ρ1.v i) t l;rw[(hp i hbq.1).1]
  |box T cs=>
   show cE.box (ρ2.b (i+nx)) T ((cs.map (lD (λi=>i+nx) 4)).map (cc.sub ρ2))= .box (ρ1.b i) T (cs.map (cc.sub ρ1));rw[(hp i hbq.1).2,yq]
   congr 1
   exact zX λc hc=>jc hp 4 (zw.1 hbq.2 c hc)
 refine⟨_,_,_,hr,Nat.le_add_left _ _,kW hlt 4 ho1,λq hq=> ?_,ρ2,hag,?_,?_⟩
 ·rcases zW.1 hq with hq|hq
  ·obtain⟨q',h4,rfl⟩:=zL.1 hq;have hbq:=zw.1 ho2 q' h4;rw[zi]at hbq;refine⟨hlt _ hbq.1,?_⟩;obtain⟨i,rr⟩:=q';cases rr with
   |row t l=>trivial
   |box T cs=>
    intro c hc;obtain⟨c',h5,rfl⟩:=zL.1 hc;exact kW hlt 4 (zw.1 hbq.2 c' h5)
  ·exact(hR.mono (Nat.le_add_left _ _)) q hq
 ·rw[g1];exact(jc hp 4 ho1).symm
 ·rw[g3,kE,hres,<-hR.res hag];exact g2.append_right _
def aR{P:Program}:aQ P cZ:=⟨asd,λ_ _ _ _ _ _ _ _=>rfl⟩
def ahw{γ δ:Type}{f0 n0:Nat}{q:aa AV->bg->af γ}{t:γ->af δ}{out:δ->Out}{F:aZ}(hN:dX F):dX (ZP f0 n0 q t out F):=λα β f args R nx k D=>by
 unfold ZP;split
 ·unfold X8 Li;split
  ·split
   ·split<;>rfl
   ·exact hN ..
  ·exact hN ..
 ·exact hN ..
def aiQ{γ δ:Type}{f0:Nat}{lb:Bool}{q:aa AV->af γ}{t:γ->af δ}{out:δ->Out}{F:aZ}(hN:dX F):dX (orL f0 lb q t out F):=λα β f args R nx k D=>by
 unfold orL;split
 ·unfold T1;split
  ·split
   ·split<;>rfl
   ·exact hN ..
  ·exact hN ..
 ·exact hN ..
def al9{P:Program}{F:aZ}{γ β:Type}{f0 n0:Nat}{q:aa AV->bg->af γ}{ca:γ->aa AV}{cr:γ->bg}{t:γ->af β}{out:β->Out}(hF:aQ P F)(hf:th P f0)(hq:QY q ca cr)(hm:∀b,(out b).okB n0=O)
 (h:∀g b,t g=V b->K7 P f0 (ca g) (cr g) n0 (out b)):aQ P (ZP f0 n0 q t out F):=⟨Yd hF.ok hf hq hm h,ahw hF.nat⟩
def axQ{P:Program}{F:aZ}{γ β:Type}{f0:Nat}{lb:Bool}{q:aa AV->af γ}{ca:γ->aa AV}{t:γ->af β}{out:β->Out}{sc:Nat->Bool}(hF:aQ P F)(hsc:∀t,sc t=O->∀x,K8 (U.cells t x))(hf:th P f0)(hq:OK q ca)(hm:∀b,(out b).okB 0=O)(hs:∀b,(out b).scB sc=O)
 (h:∀g b,t g=V b->K7 P f0 (ca g) [] 0 (out b)):aQ P (orL f0 lb q t out F):=⟨aoj hF.ok hsc hf hq hm hs h,aiQ hF.nat⟩
def bS{f:FuncId}:bw cZ f:=λ_ _ _ _ _ _ h=>by cases h
def eC{γ β:Type}{f0:Nat}{lb:Bool}{q:aa AV->af γ}{t:γ->af β}{out:β->Out}{F:aZ}{f:FuncId}(h:bw F f)(hm:∀b,(out b).R=[]):bw (orL f0 lb q t out F) f:=λargs R nx d R' nx' hr=>by
 unfold orL at hr;split at hr
 ·unfold T1 at hr;split at hr
  ·split at hr
   ·split at hr
    ·rw[hm]at hr;cases hr;rfl
    ·cases hr
   ·exact h _ _ _ _ _ _ hr
  ·exact h _ _ _ _ _ _ hr
 ·exact h _ _ _ _ _ _ hr
def XN{γ β:Type}{f0:Nat}{lb:Bool}{q:aa AV->af γ}{t:γ->af β}{out:β->Out}{F:aZ}{f:FuncId}(hne:zf f f0=S)(h:bw F f):bw (orL f0 lb q t out F) f:=λargs R nx d R' nx' hr=>by
 unfold orL at hr;rw[hne]at hr;exact h _ _ _ _ _ _ hr
def MW{γ β:Type}{f0 n0:Nat}{q:aa AV->bg->af γ}{t:γ->af β}{out:β->Out}{F:aZ}{f:FuncId}(hne:zf f f0=S)(h:bw F f):bw (ZP f0 n0 q t out F) f:=λargs R nx d R' nx' hr=>by
 unfold ZP at hr;rw[hne]at hr;exact h _ _ _ _ _ _ hr
def cM{α:Type}(b:Bool)(x y:α):(bif b then some x else some y)=some (bif b then x else y):=by cases b<;>rfl
def di{α:Type}(p:Prop)[Decidable p](x y:α):(if p then V x else V y)=V (if p then x else y):=by split<;>rfl
def iB{n0:Nat}{args:aa AV}(h:args.all (kC (λi=>zG i n0) 4)=O):∀d∈args,cS n0 d:=λd hd=>(CE 4 (zw.1 h d hd)).mono λi hi=>by rw[yC]at hi;exact hi
def ig{n0:Nat}{R:bg}(h:R.all (λq=>zG q.1 n0&&match q.2 with
  | .box _ cs=>cs.all (kC (λi=>zG i n0) 4)
  | .row _ _=>O)=O):bg.cS n0 R:=λq hq=>by
 have hb:=zw.1 h q hq;rw[zi,yC]at hb;refine⟨hb.1,?_⟩;obtain⟨i,rr⟩:=q;cases rr with
 |row t l=>trivial
 |box T cs=>exact iB hb.2
def qy0{γ:Type}(q:aa AV->af γ)(xs:aa AV)(R:bg):af γ:=match R with
 |[]=>q xs
 |_=>G
def aa5{γ:Type}{q:aa AV->af γ}{ca:γ->aa AV}(h:OK q ca):QY (qy0 q) ca (λ_=>[]):=λxs R g hg=>by
 unfold qy0 at hg;split at hg
 ·exact⟨(h xs g hg).1, .nil⟩
 ·cases hg
def qyR{γ δ:Type}(q:aa AV->af γ)(r:bg->af δ)(xs:aa AV)(R:bg):af (γ×δ):=match q xs with
 |some g=>match r R with
  |some h=>V (g,h)
  |none=>G
 |none=>G
def aoF{γ δ:Type}{q:aa AV->af γ}{ca:γ->aa AV}{r:bg->af δ}{cr:δ->bg}(hq:OK q ca)(hr:Fh r cr):QY (qyR q r) (λg=>ca g.1) (λg=>cr g.2):=λxs R g hg=>by
 unfold qyR at hg;split at hg
 ·rename_i g' h1;split at hg
  ·rename_i h' h2;cases hg;exact⟨(hq xs g' h1).1,hr R h' h2⟩
  ·cases hg
 ·cases hg
open Classical in
def lim{β:Type}(m:Nat->af β):af β:=if h:∃b N,∀n,N<=n->m n=V b then V (Classical.choose h)else G
def dR{β:Type}{m:Nat->af β}{b:β}(h:lim m=V b):∃n,m n=V b:=by
 unfold lim at h;split at h
 ·rename_i hx;cases h;obtain⟨N,hN⟩:=Classical.choose_spec hx;exact⟨N,hN N (zn _)⟩
 ·cases h
def fe{β:Type}{m:Nat->af β}{b:β}(N:Nat)(h:∀n,N<=n->m n=V b):lim m=V b:=by
 have hx:∃b N,∀n,N<=n->m n=V b:=⟨b,N,h⟩;unfold lim;rw[dif_pos hx];obtain⟨M,hM⟩:=Classical.choose_spec hx;have h1:=hM (max M N) (Nat.le_max_left _ _);rw[h (max M N) (Nat.le_max_right _ _)]at h1;exact h1.symm
def Js{P:Program}{f:FuncId}{t:Nat}{x:Out}(h1:∀c,K7 P f [.lit (.slice G 0 c)] [] 0 x)(h2:∀a c,K7 P f [.lit (.slice (V a) 0 c)] [] 0 x):K7 P f [.sl t []] [] 0 x:=λρ w A vs hr hd hn=>by
 have hr':bN A w [(cc.sl t []:AV).sub ρ] vs:=hr;obtain⟨v,us,rfl,h3,h4⟩:=hr'.head;rw[gI]at h3;obtain⟨p,c,g,hv,_⟩:=h3.uV;have hz:us=[]:=xy (by simpa using h4.1);subst hz hv;cases p with
 |none=>exact h1 c ρ w A _ (bN.cons (by rw[bW];exact .lit _) bN.nil) hd hn
 |some a=>exact h2 a c ρ w A _ (bN.cons (by rw[bW];exact .lit _) bN.nil) hd hn
def aFT:AV->Bool
 | .lit _=>O
 |_=>S
def SL:∀(cs:aa AV),cs.all aFT=O->K8 cs
 |[],_=> .nil
 |c::cs,h=>by
  rw[List.all_cons,zi]at h;refine .cons ?_ (SL cs h.2);cases c<;>first|(cases h.1;done)|exact .lit _
end Go.Iv
end
noncomputable section
set_option maxRecDepth 100000
namespace Go.Proofs.YtnfljbehcffmcaaGreat
open Go Go.Iv
open Go.IntKind (i64 u64)
def scK:Ky->Bool
 | .k3=>O
 | .k4=>O
 | .k5=>O
 | .k34=>O
 | .k37=>O
 | .k129=>O
 | .k131=>O
 | .k256=>O
 | .k260=>O
 | .k331=>O
 |_=>S
def jr(t:Nat):Bool:=scK (ky t)
def aof:(k:Ky)->scK k=O->(x:FT k)->K8 (od k x):=by
 intro k h x;cases k<;>first|(cases h;done)|exact SL _ rfl
def cg(t:Nat)(h:jr t=O)(x:uni.dz t):K8 (uni.cells t x):=aof (ky t) h x
end Go.Proofs.YtnfljbehcffmcaaGreat
end
noncomputable section
namespace Go.Iv
variable [U:qO] [L:mI]
open Go Go.RowKit
section
variable {β γ δ:Type}
structure Rq (β:Type) where
 f:AV->Option β
 c:β->AV
 ok:PN f c
structure Rl (γ:Type) where
 q:List AV->Option γ
 c:γ->List AV
 ok:OK q c
def aL:Rq Int:=⟨iw .i64,cc.n .i64, .i .i64⟩
def qi(k:IntKind):Rq Int:=⟨iw k,cc.n k, .i k⟩
def qb:Rq Bool:=⟨PM,cc.b, .b⟩
def qs:Rq ByteArray:=⟨asS,cc.s, .s⟩
def ql(t:Nat):Rq (aa (U.dz t)):=⟨jS t,cc.sl t, .l t⟩
def qg(t:Nat):Rq (U.dz t):=⟨ady t,λx=> .agg (U.cells t x), .g t⟩
def qp(i o:Nat):Rq Unit:=⟨asP i o,λ_=> .ptr i o, .p i o⟩
def qo(i:Nat):Rq Unit:=⟨asO i,λ_=> .own i, .o i⟩
def qn:Rq Unit:=⟨arq,λ_=> .lit (.slice G 0 0), .ns⟩
def qv:Rq Unit:=⟨apr,λ_=> .lit (.pointer G), .np⟩
def qf(k:Nat)(l:Rl γ):Rq γ:=⟨apu k l.q,λx=> .fn (.func k) (l.c x), .ff k l.ok⟩
def qr(l:Rl γ):Rq γ:=⟨atd l.q,λx=> .fp (l.c x), .fp l.ok⟩
def ln:Rl Unit:=⟨oU,λ_=>[], .nil⟩
def lc(a:Rq β)(l:Rl γ):Rl (β×γ):=⟨dU a.f l.q,λx=>a.c x.1::l.c x.2, .cons a.ok l.ok⟩
abbrev bk(l:Rl γ):Rl (Int×γ):=lc aL l
def lg(t:Nat):Rl (U.dz t):=⟨aoL t,λx=>U.cells t x,OK.parse t⟩
structure Re (γ:Type) where
 q:ET->Option γ
 d:γ->Env
 ok:PO q d
def en:Re Unit:=⟨slN,λ_=>[], .nil⟩
def ec(t:Nat)(a:Rq β)(l:Re γ):Re (β×γ):=⟨slC t a.f l.q,λx=>(t,a.c x.1)::l.d x.2, .cons a.ok l.ok⟩
structure Rs (γ:Type) where
 q:bg->Option γ
 d:γ->bg
 ok:Fh q d
def sn:Rs Unit:=⟨rsN,λ_=>[], .nil⟩
def sr(i t:Nat)(l:Rs γ):Rs (aa (U.dz t)×γ):=⟨rsR i t l.q,λx=>(i, .row t x.1)::l.d x.2, .row l.ok⟩
def sb(i t:Nat)(a:Rl β)(l:Rs γ):Rs (β×γ):=⟨asu i t a.q l.q,λx=>(i, .box t (a.c x.1))::l.d x.2, .aEI a.ok l.ok⟩
structure Td (n0:Nat) (γ:Type) where
 rd:St->Option γ
 pat:γ->St
 ok:∀n,rW n0 n rd pat
def Td.r(n0 m:Nat)(e:Re β)(s:Rs δ)(mk:β×δ->γ)(un:γ->β×δ)(h:∀z,un (mk z)=z:=by exact λ_=>rfl):Td n0 γ:=
 ⟨rdM mk (stR m e.q s.q),λx=>Xh m e.d s.d (un x),λ_=>(apv e.ok s.ok).m mk λz=>by rw[h]⟩
def Td.c{n0:Nat}(dr ts:aa Nat)(d:Td n0 γ):Td n0 γ:=⟨rdC n0 dr ts d.rd,d.pat,λn=>arW (d.ok n)⟩
def Td.t{n0:Nat}{f:St->St}(h:cA f)(d:Td n0 γ):Td n0 γ:=⟨rdF f d.rd,d.pat,λn=>aqi h (d.ok n)⟩
def Td.lp{n0:Nat}(d:Td n0 γ)(a:γ->af γ)(b:An):An:= .lp γ d.rd d.pat a b
end
def gC(P:Program)(f n0:Nat)(s:St):Out:=match (match DR P f s with
  |some ds=>V (Out.mk (gL ds) (FZ s.R n0 (gL ds)) s.nx)
  |none=>G)with
 |some o=>o
 |none=>⟨.iR [],[],0⟩
def aF{α:Type _}{Q:α->Prop}:∀p∈([]:aa α),Q p:=λp h=>by cases h
def az{α:Type _}{Q:α->Prop}{a:α}{l:aa α}(h:Q a)(t:∀p∈l,Q p):∀p∈a::l,Q p:=λp hp=>(zD.1 hp).elim (λe=>e▸h) (t p)
section
variable {P:Program} {F:aZ} {f n0:Nat} {γ δ β:Type}
def HY(P:Program)(f n0:Nat)(a:Rl γ)(s:Rs δ)(d:Td n0 β)(t:γ×δ->af β):Prop:=∀g b,t g=V b->K7 P f (a.c g.1) (s.d g.2) n0 (gC P f n0 (d.pat b))
def HL(P:Program)(f:Nat)(a:Rl γ)(d:Td 0 β)(t:γ->af β):Prop:=∀g b,t g=V b->K7 P f (a.c g) [] 0 (gC P f 0 (d.pat b))
def sx(hF:aQ P F){an:An}(fa:cR P F n0 300 f an){a:Rl γ}{s:Rs δ}{d:Td n0 β}{t:γ×δ->af β}(ho:∀p,(match DR P f (d.pat p)with
   |some ds=>V (Out.mk (gL ds) (FZ (d.pat p).R n0 (gL ds)) (d.pat p).nx)
   |none=>G)=V (gC P f n0 (d.pat p)))
  (h1:∀g,(a.c g).all (kC (λi=>zG i n0) 4)=O) (h2:∀g,(s.d g).all (λq=>zG q.1 n0&&match q.2 with
  | .box _ cs=>cs.all (kC (λi=>zG i n0) 4)
  | .row _ _=>O)=O) (c:∀g,bL P F 300 an f (a.c g.1) (s.d g.2) n0 d.rd=t g):HY P f n0 a s d t:=
 λg b hb=>(jK (p:=b) hF fa d.ok ho (iB (h1 g.1)) (ig (h2 g.2)) ((c g).trans hb)).2
def cF(hF:aQ P F){an:An}(fa:cR P F 0 300 f an){a:Rl γ}{d:Td 0 β}{t:γ->af β}(ho:∀p,(match DR P f (d.pat p)with
   |some ds=>V (Out.mk (gL ds) (FZ (d.pat p).R 0 (gL ds)) (d.pat p).nx)
   |none=>G)=V (gC P f 0 (d.pat p)))
  (h1:∀g,(a.c g).all (kC (λi=>zG i 0) 4)=O) (c:∀g,bL P F 300 an f (a.c g) [] 0 d.rd=t g):HL P f a d t:=
 λg b hb=>(jK (p:=b) hF fa d.ok ho (iB (h1 g)) (ig rfl) ((c g).trans hb)).2
def eY(P:Program)(f n0:Nat)(a:Rl γ)(s:Rs δ)(d:Td n0 β)(t:γ×δ->af β)(F:aZ):aZ:=ZP f n0 (qyR a.q s.q) t (λx=>gC P f n0 (d.pat x)) F
def eZ(P:Program)(f:Nat)(a:Rl γ)(d:Td 0 β)(t:γ->af β)(F:aZ):aZ:=ZP f 0 (qy0 a.q) t (λx=>gC P f 0 (d.pat x)) F
def eL(P:Program)(f:Nat)(lb:Bool)(a:Rl γ)(d:Td 0 β)(t:γ->af β)(F:aZ):aZ:=orL f lb a.q t (λx=>gC P f 0 (d.pat x)) F
def mS{a:Rl γ}{s:Rs δ}{d:Td n0 β}{t:γ×δ->af β}(h:HY P f n0 a s d t)(hf:th P f)(h3:∀b,(gC P f n0 (d.pat b)).okB n0=O)(hF:aQ P F):aQ P (eY P f n0 a s d t F):=
 al9 hF hf (aoF a.ok s.ok) h3 h
def oK{a:Rl γ}{d:Td 0 β}{t:γ->af β}(h:HL P f a d t)(hf:th P f)(h3:∀b,(gC P f 0 (d.pat b)).okB 0=O)(hF:aQ P F):aQ P (eZ P f a d t F):=
 al9 hF hf (aa5 a.ok) h3 h
def cO{lb:Bool}{sc:Nat->Bool}(hsc:∀t,sc t=O->∀x,K8 (U.cells t x)){a:Rl γ}{d:Td 0 β}{t:γ->af β}(h:HL P f a d t)(hf:th P f)(h3:∀b,(gC P f 0 (d.pat b)).okB 0=O)(h4:∀b,(gC P f 0 (d.pat b)).scB sc=O)(hF:aQ P F):aQ P (eL P f lb a d t F):=
 axQ hF hsc hf a.ok h3 h4 h
end
end Go.Iv
end
noncomputable section
namespace Go.Proofs.YtnfljbehcffmcaaGreat
def kV:ByteArray:=ByteArray.mk #[0,1,2,2,3,3,3,3,4,4,4,4,4,4,4,4,5,5,5,5,5,5,5,5,5,5,5,5,5,5,5,5,6,6,6,6,6,6,6,6,6,6,6,6,6,6,6,6,6,6,6,6,6,6,6,6,6,6,6,6,6,6,6,6,7,7,7,7,7,7,7,7,7,7,7,7,7,7,7,7,7,7,7,7,7,7,7,7,7,7,7,7,7,7,7,7,7,7,7,7,7,7,7,7,7,7,7,7,7,7,7,7,7,7,7,7,7,7,7,7,7,7,7,7,7,7,7,7,8,8,8,8,8,8,8,8,8,8,8,8,8,8,8,8,8,8,8,8,8,8,8,8,8,8,8,8,8,8,8,8,8,8,8,8,8,8,8,8,8,8,8,8,8,8,8,8,8,8,8,8,8,8,8,8,8,8,8,8,8,8,8,8,8,8,8,8,8,8,8,8,8,8,8,8,8,8,8,8,8,8,8,8,8,8,8,8,8,8,8,8,8,8,8,8,8,8,8,8,8,8,8,8,8,8,8,8,8,8,8,8,8,8,8,8,8,8,8,8,8,8,8,8,8,8,8,8]
end Go.Proofs.YtnfljbehcffmcaaGreat
end
noncomputable section
set_option maxRecDepth 100000
namespace Go.Proofs.YtnfljbehcffmcaaGreat
open Go Go.Iv
open Go.IntKind (i64 u64)
def gh{p:Prop}{_:Decidable p}(h:¬p:=by omega):decide p=S:=bX h
def nH{p:Prop}{_:Decidable p}(h:p:=by omega):decide p=O:=bY h
def gY{p:Prop}{_:Decidable p}{α:Type _}{a b:α}(h:p:=by omega):(if p then a else b)=a:=bE h
def v7{p:Prop}{_:Decidable p}{α:Type _}{a b:α}(h:¬p:=by omega):(if p then a else b)=b:=bO h
abbrev EO(e:aZ->aZ):Prop:=∀{F:aZ},aQ w9 F->aQ w9 (e F)
abbrev EP(e:aZ->aZ):Prop:=∀{F:aZ} {f:Nat},bw F f->bw (e F) f
def kP{f:Nat}{lb:Bool}{γ β:Type}{a:Rl γ}{d:Td 0 β}{t:γ->af β}{F:aZ}{g:Nat}(h:bw F g)(hm:∀b,(gC w9 f 0 (d.pat b)).R=[]:=by intro _;kernel_rfl):bw (eL w9 f lb a d t F) g:=eC h hm
def aO{F:aZ}{n0 nt:Nat}{c:Code}{β:Type}{b:An}{n:β->af (af β)}(d:Td n0 β)(h:∀p,dQ w9 F nt 300 c b (af β) (d.pat p) (rT d.rd)=n p:=by intro _;kernel_rfl):TM w9 F n0 nt 300 (c,d.lp (bJ n) b):=⟨d.ok _,dh h⟩
def kL{f:Nat}{lb:Bool}{fn:Func}{F zb:aZ}{an:An}{γ β:Type}{a:Rl γ}{d:Td 0 β}{t:γ->af β}{l:aa (Code×An)}
  (hf:w9.funcs[f]? =V fn) (hF:aQ w9 F) (h:∀p∈l,TM w9 F 0 fn.ntmps 300 p) (hG:aQ w9 zb)
  (hb:fn.body.isNone=S:=by kernel_rfl) (ho:asp (Kh fn) an=l:=by kernel_rfl)
  (h0:∀p,(match DR w9 f (d.pat p)with
   |some ds=>V (Out.mk (gL ds) (FZ (d.pat p).R 0 (gL ds)) (d.pat p).nx)
   |none=>G)=V (gC w9 f 0 (d.pat p)):=by intro _;kernel_rfl)
  (h1:∀g,(a.c g).all (kC (λi=>zG i 0) 4)=O:=by intro _;kernel_rfl)
  (c:∀g,bL w9 F 300 an f (a.c g) [] 0 d.rd=t g:=by intro _;kernel_rfl)
  (h2:(fn.name=="runtime.NumGoroutine")=S:=by kernel_rfl)
  (h3:∀b,(gC w9 f 0 (d.pat b)).okB 0=O:=by intro _;kernel_rfl) (h4:∀b,(gC w9 f 0 (d.pat b)).scB jr=O:=by intro _;kernel_rfl):aQ w9 (eL w9 f lb a d t zb):=
 cO (sc:=jr) cg (cF hF (bA hf (aV hb) ho h) (λp=>by have:=h0 p;revert this;cases DR w9 f (d.pat p)<;>exact id) h1 c) ⟨_,hf,h2,hb⟩ h3 h4 hG
abbrev atW:=Int×Int
def d352:Td 0 atW:= .c [] [4,5] (.r 0 0 (ec 4 (qi .u64) (ec 5 (qi .u64) en)) sn (λz=>(z.1.1,z.1.2.1)) (λx=>((x.1,x.2,()),(()))))
def ZJ(a0:Int)(a1:Int):atW:=
 (IntKind.u64.wrap (IntKind.u64.wrap (IntKind.u64.wrap (cL IntKind.u64 a0 (32)*cL IntKind.u64 a1 (32))+cL IntKind.u64 (IntKind.u64.wrap (IntKind.u64.wrap (cL IntKind.u64 a0 (32)*sK IntKind.u64 a1 (4294967295))+cL IntKind.u64 (IntKind.u64.wrap (sK IntKind.u64 a0 (4294967295)*sK IntKind.u64 a1 (4294967295))) (32))) (32))+cL IntKind.u64 (IntKind.u64.wrap (sK IntKind.u64 (IntKind.u64.wrap (IntKind.u64.wrap (cL IntKind.u64 a0 (32)*sK IntKind.u64 a1 (4294967295))+cL IntKind.u64 (IntKind.u64.wrap (sK IntKind.u64 a0 (4294967295)*sK IntKind.u64 a1 (4294967295))) (32))) (4294967295)+IntKind.u64.wrap (sK IntKind.u64 a0 (4294967295)*cL IntKind.u64 a1 (32)))) (32)),IntKind.u64.wrap (a0*a1))
def aC6:=eL w9 352 S (lc (qi .u64) (lc (qi .u64) ln)) d352 (λg=>V (ZJ g.1 g.2.1))
def ags:EO aC6:=λh=>kL (an:= .no) func352 aR aF h
abbrev awz:=Int
def d301:Td 0 awz:= .c [] [2] (.r 0 0 (ec 2 aL en) sn (λz=>z.1.1) (λx=>((x,()),(()))))
def ajZ(a0:Int):af awz:=
 bif J (4294967296<=a0)then bif J (65536<=cL IntKind.u64 a0 32)then bif J (256<=cL IntKind.u64 (cL IntKind.u64 a0 32) 16)then if 0<=IntKind.u8.wrap (cL IntKind.u64 (cL IntKind.u64 (cL IntKind.u64 a0 ((32:Int))) ((16:Int))) ((8:Int)))/\IntKind.u8.wrap (cL IntKind.u64 (cL IntKind.u64 (cL IntKind.u64 a0 ((32:Int))) ((16:Int))) ((8:Int)))<256then V (i64.wrap (56+i64.wrap (cz kV (IntKind.u8.wrap (cL IntKind.u64 (cL IntKind.u64 (cL IntKind.u64 a0 32) 16) 8)).toNat)))else G else if 0<=IntKind.u8.wrap (cL IntKind.u64 (cL IntKind.u64 a0 ((32:Int))) ((16:Int)))/\IntKind.u8.wrap (cL IntKind.u64 (cL IntKind.u64 a0 ((32:Int))) ((16:Int)))<256then V (i64.wrap (48+i64.wrap (cz kV (IntKind.u8.wrap (cL IntKind.u64 (cL IntKind.u64 a0 32) 16)).toNat)))else G else bif J (256<=cL IntKind.u64 a0 32)then if 0<=IntKind.u8.wrap (cL IntKind.u64 (cL IntKind.u64 a0 ((32:Int))) ((8:Int)))/\IntKind.u8.wrap (cL IntKind.u64 (cL IntKind.u64 a0 ((32:Int))) ((8:Int)))<256then V (i64.wrap (40+i64.wrap (cz kV (IntKind.u8.wrap (cL IntKind.u64 (cL IntKind.u64 a0 32) 8)).toNat)))else G else if 0<=IntKind.u8.wrap (cL IntKind.u64 a0 ((32:Int)))/\IntKind.u8.wrap (cL IntKind.u64 a0 ((32:Int)))<256then V (i64.wrap (32+i64.wrap (cz kV (IntKind.u8.wrap (cL IntKind.u64 a0 32)).toNat)))else G else bif J (65536<=a0)then bif J (256<=cL IntKind.u64 a0 16)then if 0<=IntKind.u8.wrap (cL IntKind.u64 (cL IntKind.u64 a0 ((16:Int))) ((8:Int)))/\IntKind.u8.wrap (cL IntKind.u64 (cL IntKind.u64 a0 ((16:Int))) ((8:Int)))<256then V (i64.wrap (24+i64.wrap (cz kV (IntKind.u8.wrap (cL IntKind.u64 (cL IntKind.u64 a0 16) 8)).toNat)))else G else if 0<=IntKind.u8.wrap (cL IntKind.u64 a0 ((16:Int)))/\IntKind.u8.wrap (cL IntKind.u64 a0 ((16:Int)))<256then V (i64.wrap (16+i64.wrap (cz kV (IntKind.u8.wrap (cL IntKind.u64 a0 16)).toNat)))else G else bif J (256<=a0)then if 0<=IntKind.u8.wrap (cL IntKind.u64 a0 ((8:Int)))/\IntKind.u8.wrap (cL IntKind.u64 a0 ((8:Int)))<256then V (i64.wrap (8+i64.wrap (cz kV (IntKind.u8.wrap (cL IntKind.u64 a0 8)).toNat)))else G else if 0<=IntKind.u8.wrap a0/\IntKind.u8.wrap a0<256then V (i64.wrap (0+i64.wrap (cz kV (IntKind.u8.wrap a0).toNat)))else G
def aEv:=eL w9 301 S (lc (qi .u64) ln) d301 (λg=>ajZ g.1)
def aim:EO aEv:=λh=>kL (an:= .no) func301 aR aF h
abbrev avK:=Int
def d358:Td 0 avK:= .c [] [2] (.r 0 0 (ec 2 aL en) sn (λz=>z.1.1) (λx=>((x,()),(()))))
def arE(a0:Int):af avK:=
 match ajZ a0 with|G=>G|V r1=>V (i64.wrap (64-r1))
def ay1:=eL w9 358 S (lc (qi .u64) ln) d358 (λg=>arE g.1)
def ajW:EO ay1:=λh=>kL (an:= .no) func358 (aim aR) aF h
def awr:aZ:=(ay1 cZ)
structure mH where
 (t2 t8 t9 t10 t14 t15 t16 t17 t18:Int)
def QV:Td 0 mH:= .c [] [2,8,9,10,14,15,16,17,18] (.r 0 0 (ec 2 (qi .u64) (ec 8 (qi .u64) (ec 9 (qi .u64) (ec 10 (qi .u64) (ec 14 (qi .u64) (ec 15 (qi .u64) (ec 16 (qi .u64) (ec 17 (qi .u64) (ec 18 (qi .u64) en))))))))) sn (λz=>⟨z.1.1,z.1.2.1,z.1.t.1,z.1.t.2.1,z.1.q.1,z.1.q.2.1,z.1.q.t.1,z.1.q.t.2.1,z.1.q.q.1⟩) (λx=>((x.t2,x.t8,x.t9,x.t10,x.t14,x.t15,x.t16,x.t17,x.t18,()),(()))))
def vY(p:mH):af (af mH):=
 match bif J (4294967296<=p.t18)then V (O)else V (J (IntKind.u64.wrap (IntKind.u64.wrap (4294967296*p.t16)+p.t14)<IntKind.u64.wrap (p.t18*p.t10)))with|G=>G|V r2=>bif r2 then bif J (4294967296<=IntKind.u64.wrap (p.t16+p.t9))then V (G)else V (V (mH.mk p.t2 p.t8 p.t9 p.t10 p.t14 p.t15 (IntKind.u64.wrap (p.t16+p.t9)) p.t17 (IntKind.u64.wrap (p.t18-1))))else V (G)
def aas:An:=(.two (.two (.rb [] 113) .no) .no)
def Er:=bJ (vY)
structure oE where
 (t2 t8 t9 t10 t11 t13 t14 t15 t16:Int)
def Rm:Td 0 oE:= .c [] [2,8,9,10,11,13,14,15,16] (.r 0 0 (ec 2 (qi .u64) (ec 8 (qi .u64) (ec 9 (qi .u64) (ec 10 (qi .u64) (ec 11 (qi .u64) (ec 13 (qi .u64) (ec 14 (qi .u64) (ec 15 (qi .u64) (ec 16 (qi .u64) en))))))))) sn (λz=>⟨z.1.1,z.1.2.1,z.1.t.1,z.1.t.2.1,z.1.q.1,z.1.q.2.1,z.1.q.t.1,z.1.q.t.2.1,z.1.q.q.1⟩) (λx=>((x.t2,x.t8,x.t9,x.t10,x.t11,x.t13,x.t14,x.t15,x.t16,()),(()))))
def A7(p:oE):af (af oE):=
 match bif J (4294967296<=p.t15)then V (O)else V (J (IntKind.u64.wrap (IntKind.u64.wrap (4294967296*p.t16)+p.t13)<IntKind.u64.wrap (p.t15*p.t10)))with|G=>G|V r1=>bif r1 then bif J (4294967296<=IntKind.u64.wrap (p.t16+p.t9))then V (G)else V (V (oE.mk p.t2 p.t8 p.t9 p.t10 p.t11 p.t13 p.t14 (IntKind.u64.wrap (p.t15-1)) (IntKind.u64.wrap (p.t16+p.t9))))else V (G)
def aaR:An:=(.two (.two (.rb [] 78) .no) .no)
def Jp:=bJ (A7)
abbrev auL:=Int×Int
def d357:Td 0 auL:= .c [] [6,7] (.r 0 0 (ec 6 (qi .u64) (ec 7 (qi .u64) en)) sn (λz=>(z.1.1,z.1.2.1)) (λx=>((x.1,x.2,()),(()))))
def alB:∀f∈([]:aa Nat),bw (awr) f:=aF
def aaA(a0:Int)(a1:Int)(a2:Int):af auL:=
 bif J (a2=0)then G else bif J (a2<=a0)then G else bif J (a0=0)then if¬a2=0then if¬a2=0then V ((IntKind.u64.wrap (a1.tdiv a2),a1.tmod a2))else G else G else match arE a2 with|G=>G|V r3=>if 0<=IntKind.u64.wrap r3 then if 0<=IntKind.u64.wrap r3 then if 0<=IntKind.u64.wrap ((64:Int)-IntKind.u64.wrap r3)then if 0<=IntKind.u64.wrap r3 then if¬cL IntKind.u64 (mh IntKind.u64 a2 (IntKind.u64.wrap r3)) ((32:Int))=0then match Jp (oE.mk (mh IntKind.u64 a2 (IntKind.u64.wrap r3)) (IntKind.u64.wrap r3) (cL IntKind.u64 (mh IntKind.u64 a2 (IntKind.u64.wrap r3)) 32) (sK IntKind.u64 (mh IntKind.u64 a2 (IntKind.u64.wrap r3)) 4294967295) (bOr IntKind.u64 (mh IntKind.u64 a0 (IntKind.u64.wrap r3)) (cL IntKind.u64 a1 (IntKind.u64.wrap (64-IntKind.u64.wrap r3)))) (cL IntKind.u64 (mh IntKind.u64 a1 (IntKind.u64.wrap r3)) 32) (sK IntKind.u64 (mh IntKind.u64 a1 (IntKind.u64.wrap r3)) 4294967295) (IntKind.u64.wrap ((bOr IntKind.u64 (mh IntKind.u64 a0 (IntKind.u64.wrap r3)) (cL IntKind.u64 a1 (IntKind.u64.wrap (64-IntKind.u64.wrap r3)))).tdiv (cL IntKind.u64 (mh IntKind.u64 a2 (IntKind.u64.wrap r3)) 32))) (IntKind.u64.wrap (bOr IntKind.u64 (mh IntKind.u64 a0 (IntKind.u64.wrap r3)) (cL IntKind.u64 a1 (IntKind.u64.wrap (64-IntKind.u64.wrap r3)))-IntKind.u64.wrap (IntKind.u64.wrap ((bOr IntKind.u64 (mh IntKind.u64 a0 (IntKind.u64.wrap r3)) (cL IntKind.u64 a1 (IntKind.u64.wrap (64-IntKind.u64.wrap r3)))).tdiv (cL IntKind.u64 (mh IntKind.u64 a2 (IntKind.u64.wrap r3)) 32))*cL IntKind.u64 (mh IntKind.u64 a2 (IntKind.u64.wrap r3)) 32))))with|G=>G|V r4=>match bif J (4294967296<=r4.t15)then V O else V (J (IntKind.u64.wrap (IntKind.u64.wrap (4294967296*r4.t16)+r4.t13)<IntKind.u64.wrap (r4.t15*r4.t10)))with|G=>G|V r5=>bif r5 then bif J (4294967296<=IntKind.u64.wrap (r4.t16+r4.t9))then if¬r4.t9=0then match Er (mH.mk r4.t2 r4.t8 r4.t9 r4.t10 r4.t14 (IntKind.u64.wrap (r4.t15-1)) (IntKind.u64.wrap (IntKind.u64.wrap (IntKind.u64.wrap (IntKind.u64.wrap (r4.t11*4294967296)+r4.t13)-IntKind.u64.wrap (IntKind.u64.wrap (r4.t15-1)*r4.t2))-IntKind.u64.wrap (IntKind.u64.wrap ((IntKind.u64.wrap (IntKind.u64.wrap (IntKind.u64.wrap (r4.t11*4294967296)+r4.t13)-IntKind.u64.wrap (IntKind.u64.wrap (r4.t15-1)*r4.t2))).tdiv r4.t9)*r4.t9))) (IntKind.u64.wrap (IntKind.u64.wrap (IntKind.u64.wrap (r4.t11*4294967296)+r4.t13)-IntKind.u64.wrap (IntKind.u64.wrap (r4.t15-1)*r4.t2))) (IntKind.u64.wrap ((IntKind.u64.wrap (IntKind.u64.wrap (IntKind.u64.wrap (r4.t11*4294967296)+r4.t13)-IntKind.u64.wrap (IntKind.u64.wrap (r4.t15-1)*r4.t2))).tdiv r4.t9)))with|G=>G|V r6=>match bif J (4294967296<=r6.t18)then V O else V (J (IntKind.u64.wrap (IntKind.u64.wrap (4294967296*r6.t16)+r6.t14)<IntKind.u64.wrap (r6.t18*r6.t10)))with|G=>G|V r7=>bif r7 then bif J (4294967296<=IntKind.u64.wrap (r6.t16+r6.t9))then if 0<=r6.t8 then V ((IntKind.u64.wrap (IntKind.u64.wrap (r6.t15*4294967296)+IntKind.u64.wrap (r6.t18-1)),cL IntKind.u64 (IntKind.u64.wrap (IntKind.u64.wrap (IntKind.u64.wrap (r6.t17*4294967296)+r6.t14)-IntKind.u64.wrap (IntKind.u64.wrap (r6.t18-1)*r6.t2))) r6.t8))else G else G else if 0<=r6.t8 then V ((IntKind.u64.wrap (IntKind.u64.wrap (r6.t15*4294967296)+r6.t18),cL IntKind.u64 (IntKind.u64.wrap (IntKind.u64.wrap (IntKind.u64.wrap (r6.t17*4294967296)+r6.t14)-IntKind.u64.wrap (r6.t18*r6.t2))) r6.t8))else G else G else G else if¬r4.t9=0then match Er (mH.mk r4.t2 r4.t8 r4.t9 r4.t10 r4.t14 r4.t15 (IntKind.u64.wrap (IntKind.u64.wrap (IntKind.u64.wrap (IntKind.u64.wrap (r4.t11*4294967296)+r4.t13)-IntKind.u64.wrap (r4.t15*r4.t2))-IntKind.u64.wrap (IntKind.u64.wrap ((IntKind.u64.wrap (IntKind.u64.wrap (IntKind.u64.wrap (r4.t11*4294967296)+r4.t13)-IntKind.u64.wrap (r4.t15*r4.t2))).tdiv r4.t9)*r4.t9))) (IntKind.u64.wrap (IntKind.u64.wrap (IntKind.u64.wrap (r4.t11*4294967296)+r4.t13)-IntKind.u64.wrap (r4.t15*r4.t2))) (IntKind.u64.wrap ((IntKind.u64.wrap (IntKind.u64.wrap (IntKind.u64.wrap (r4.t11*4294967296)+r4.t13)-IntKind.u64.wrap (r4.t15*r4.t2))).tdiv r4.t9)))with|G=>G|V r8=>match bif J (4294967296<=r8.t18)then V O else V (J (IntKind.u64.wrap (IntKind.u64.wrap (4294967296*r8.t16)+r8.t14)<IntKind.u64.wrap (r8.t18*r8.t10)))with|G=>G|V r9=>bif r9 then bif J (4294967296<=IntKind.u64.wrap (r8.t16+r8.t9))then if 0<=r8.t8 then V ((IntKind.u64.wrap (IntKind.u64.wrap (r8.t15*4294967296)+IntKind.u64.wrap (r8.t18-1)),cL IntKind.u64 (IntKind.u64.wrap (IntKind.u64.wrap (IntKind.u64.wrap (r8.t17*4294967296)+r8.t14)-IntKind.u64.wrap (IntKind.u64.wrap (r8.t18-1)*r8.t2))) r8.t8))else G else G else if 0<=r8.t8 then V ((IntKind.u64.wrap (IntKind.u64.wrap (r8.t15*4294967296)+r8.t18),cL IntKind.u64 (IntKind.u64.wrap (IntKind.u64.wrap (IntKind.u64.wrap (r8.t17*4294967296)+r8.t14)-IntKind.u64.wrap (r8.t18*r8.t2))) r8.t8))else G else G else G else G else G else G else G
def aEk:=eL w9 357 S (lc (qi .u64) (lc (qi .u64) (lc (qi .u64) ln))) d357 (λg=>aaA g.1 g.2.1 g.t.1)
def aha:EO aEk:=λh=>kL (F:=awr) (an:=(noTwo (noTwo (noTwo (noTwo (noTwo (noTwo (noTwo (noTwo (noTwo (noTwo (noTwo (noTwo (noTwo (noTwo (.two (Rm.lp Jp aaR) (noTwo (noTwo (noTwo (.two (QV.lp Er aas) .no)))))))))))))))))))) (l:=[(aW f357 0,(Rm.lp Jp aaR)),(.skip,(.rb [] 78)),(aW f357 1,(QV.lp Er aas)),(.skip,(.rb [] 113))]) func357 (ajW aR) (az (aO Rm) (az alB (az (aO QV) (az alB aF)))) h
abbrev avc:=Int
def d353:Td 0 avc:= .c [] [6] (.r 0 0 (ec 6 (qi .u64) en) sn (λz=>z.1.1) (λx=>((x,()),(()))))
def ao4(a0:Int)(a1:Int)(a2:Int):af avc:=
 if¬a2=0then match aaA (a0.tmod a2) a1 a2 with|G=>G|V r1=>V (r1.snd)else G
def aEZ:=eL w9 353 S (lc (qi .u64) (lc (qi .u64) (lc (qi .u64) ln))) d353 (λg=>ao4 g.1 g.2.1 g.t.1)
def aj0:EO aEZ:=λh=>kL (an:= .no) func353 (aha aR) aF h
abbrev axt:=Int
def d340:Td 0 axt:= .c [] [6] (.r 0 0 (ec 6 aL en) sn (λz=>z.1.1) (λx=>((x,()),(()))))
def adz(a0:Int)(a1:Int)(a2:Int):af axt:=
 match ao4 (ZJ (IntKind.u64.wrap a0) (IntKind.u64.wrap a1)).fst (ZJ (IntKind.u64.wrap a0) (IntKind.u64.wrap a1)).snd (IntKind.u64.wrap a2)with|G=>G|V r1=>V (i64.wrap r1)
def aAD:=eL w9 340 S (bk (bk (bk ln))) d340 (λg=>adz g.1 g.2.1 g.t.1)
def afI:EO aAD:=λh=>kL (an:= .no) func340 (aj0 (ags aR)) aF h
end Go.Proofs.YtnfljbehcffmcaaGreat
end
