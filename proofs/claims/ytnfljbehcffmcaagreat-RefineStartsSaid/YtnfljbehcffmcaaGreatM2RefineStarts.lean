/- Merged: Iw9, Iw10, Iw11, Iw12, Iw13, Iw14, Iw15, Ixa, Ix1, Ix2, Ua, Ix3, Ix4, Us, Iz, Hl, Um, Hm. -/
import Derived.Test.YtnfljbehcffmcaaGreatM1RefineStarts
import Derived.Test.YtnfljbehcffmcaaGreatProg
open Nat renaming beq → zg, blt → zy, lt_succ_self → zB, le_refl → zG, le_trans → zH, add_zero → yd, ble → ye, blt_eq → yt, zero_add → yw, le_succ → yx, eq_of_beq_eq_true → y7, zero_le → xu
open Bool renaming and_eq_true → zj, or_eq_true → yL, true → J, false → G
open Option renaming map_eq_some_iff → zk, bind_eq_some_iff → zn, some → zD, bind_assoc → zW, map_some → yo, some → I, none → S
open List renaming length_append → zl, mem_cons_self → zm, replicate → zo, getElem?_eq_getElem → zq, all_eq_true → zu, length_map → zA, mem_cons → zF, mem_singleton → zJ, mem_cons_of_mem → zK, mem_map → zL, mem_append → zU, getElem?_eq_some_iff → zY, map_congr_left → zZ, map_append → z6, map_cons → z7, mem_filter → z8, getElem?_map → ya, nil_append → yg, map_map → yh, append_nil → yp, nodup_append → yD, mem_append_left → yE, mem_append_right → yF, replicate_succ → yJ, append_assoc → yQ, eq_nil_of_length_eq_zero → yX, filter_cons → yY, getElem?_append → y8, size_toArray → y9, filterMap_cons → xm, getElem_mem → xy, flatMap_cons → xA, mem_flatMap → xT, filter_filter → xW, filter_congr → xX, getD_eq_getElem?_getD → xY, length_cons → wg, eraseIdx_sublist → wA, getElem?_replicate → wB, getElem?_append_right → wC
open Array renaming getElem?_eq_getElem → wq
open Decidable renaming decide → O
open Go.Proofs.Tryz renaming prog → wJ
open Go.Proofs.Tryz
set_option linter.unusedSectionVars false
set_option linter.unusedVariables false
set_option linter.unusedSimpArgs false
set_option linter.defProp false
noncomputable section
namespace Go.Iv
variable [U:qz] [L:mO]
open Go Go.RowKit
def lm(l:aa Nat):Nat:=List.rec 0 (λt _ ih=>Nat.lor ih (Nat.pow 2 t)) l
def Mj:∀(l:aa Nat) (t:Nat),(lm l).testBit t=J↔t∈l
 |[],t=>by simp[lm]
 |a::l,t=>by
  show ((lm l)|||2^a).testBit t=J↔_;rw[Nat.testBit_or,yL,Mj l t,Nat.testBit_two_pow];simp only[decide_eq_true_eq,zF];constructor
  ·rintro(h|h)
   ·exact .inr h
   ·exact .inl h.symm
  ·rintro(h|h)
   ·exact .inr h.symm
   ·exact .inl h
def and_zero{x y t:Nat}(h:Nat.land x y=0)(hx:x.testBit t=J)(hy:y.testBit t=J):False:=by
 have h':x&&&y=0:=h;have:=Nat.testBit_and x y t;rw[h',hx,hy]at this;simp at this
def msk(acc:aa Nat)(es:aa Edge):Nat:=List.rec 0 (λe _ ih=>match Region.binds .any e with
 |true=>Nat.lor ih (Nat.lor (Nat.pow 2 e.on) (acc.getD e.on 0))
 |false=>ih) es
def Hj{acc:aa Nat}:∀{es:aa Edge} {j:Nat},(msk acc es).testBit j=J->∃e∈es,Region.binds .any e=J/\(j=e.on\/(acc.getD e.on 0).testBit j=J)
 |[],j,h=>by simp[msk]at h
 |e::es,j,h=>by
  change (match Region.binds .any e with
   |true=>Nat.lor (msk acc es) (Nat.lor (Nat.pow 2 e.on) (acc.getD e.on 0))
   |false=>msk acc es).testBit j=J at h
  cases hb:Region.binds .any e with
  |false=>
   rw[hb]at h;obtain⟨e',h1,h2⟩:=Hj h;exact⟨e',zK _ h1,h2⟩
  |true=>
   rw[hb]at h;change ((msk acc es)|||((2^e.on)|||(acc.getD e.on 0))).testBit j=J at h;rw[Nat.testBit_or,Nat.testBit_or,yL,yL,Nat.testBit_two_pow]at h;rcases h with h|h|h
   ·obtain⟨e',h1,h2⟩:=Hj h;exact⟨e',zK _ h1,h2⟩
   ·exact⟨e,zm,hb, .inl (by simp only[decide_eq_true_eq]at h;exact h.symm)⟩
   ·exact⟨e,zm,hb, .inr h⟩
def IV(l:aa Oper):aa Nat->aa Nat:=List.rec (λacc=>acc) (λo _ ih acc=>ih (acc++[msk acc o.after.toList])) l
def Rdy(bs:aa Bool)(o:Oper):Prop:=∀e∈o.after.toList,Region.binds .any e=J->bs[e.on]? =I J
def Bf(ops:aa Oper)(bs:aa Bool):Prop:=∀(i:Nat) o,ops[i]? =I o->bs[i]? =I J->Rdy bs o
def WZ(ops:aa Oper)(acc:aa Nat):Prop:=∀(i m:Nat) o,acc[i]? =I m->ops[i]? =I o->∀bs,Bf ops bs->Rdy bs o->∀j,m.testBit j=J->bs[j]? =I J
def PX(ops:aa Oper):∀(l:aa Oper) (acc:aa Nat),(∃pre,ops=pre++l/\pre.length=acc.length)->WZ ops acc->WZ ops (IV l acc)
 |[],acc,_,h=>h
 |o::l,acc,⟨pre,hp,hl⟩,h=>by
  refine PX ops l _ ⟨pre++[o],by rw[hp];simp,by simp[hl]⟩ λi m o' hm ho bs hc hr j hj=> ?_;rw[y8]at hm;split at hm
  ·exact h i m o' hm ho bs hc hr j hj
  ·rename_i hlt;have hi:i=acc.length:=by
    have:=(zY.1 hm).1;simp at this;omega
   subst hi;rw[Nat.sub_self]at hm;cases hm;have ho':o'=o:=by
    rw[hp,<-hl,wC (zG _),Nat.sub_self]at ho;exact(zD.inj ho).symm
   subst ho';obtain⟨e,h1,h2,h3⟩:=Hj hj;have h4:=hr e h1 h2;rcases h3 with rfl|h3
   ·exact h4
   ·cases ha:acc[e.on]? with
    |none=>rw[xY,ha]at h3;simp at h3
    |some m'=>
     rw[xY,ha]at h3;have hlt':=(zY.1 ha).1;cases hoe:ops[e.on]? with
     |none=>
      rw[List.getElem?_eq_none_iff,hp,zl]at hoe;omega
     |some oe=>exact h e.on m' oe ha hoe bs hc (hc e.on oe hoe h4) j h3
def are:Operand->aa Nat
 | .tmp t=>[t]
 |_=>[]
def ahn(ops:Array Oper)(o:Oper):aa Nat:=match o.guard with
 |none=>[]
 |some (j,_)=>match (ops[j]?).bind (·.dst)with
  |some t=>[t]
  |none=>[]
def cM(ops:Array Oper)(o:Oper):aa Nat:=o.op.operands.toList.flatMap are++ahn ops o
def efk(o:Oper):Bool:=match o.op with
 | .store _ _ _=>J
 | .buildSlice _ _ _=>J
 | .makeSlice _ _ _=>J
 | .alloc _=>J
 | .box _ _=>J
 | .slice _ _ _ _ _=>J
 | .call {callee:= .builtin .len, ..}=>G
 | .call {callee:= .builtin .max, ..}=>G
 | .call {callee:= .builtin .min, ..}=>G
 | .call _=>J
 |_=>G
def dmk:af Nat->Nat
 |none=>0
 |some t=>Nat.pow 2 t
def Ao{d:af Nat}{t:Nat}(h:d=I t):(dmk d).testBit t=J:=by
 subst h;show (2^t).testBit t=J;rw[Nat.testBit_two_pow];simp
structure Sk where
 (anc sm dm:Nat)
 ef:Bool
def Sc(j:Nat)(a b:Sk):Bool:=b.anc.testBit j||(zg (Nat.land a.dm b.sm) 0&&zg (Nat.land a.dm b.dm) 0&&zg (Nat.land b.dm a.sm) 0)
def KZ(b:Sk)(i:Nat)(l:aa Sk):Nat->af (aa (Nat×Nat)):=List.rec (λ_=>I []) (λa _ ih j=>match Sc j a b with
 |true=>match !b.anc.testBit j&&(a.ef||b.ef)with
  |true=>(ih (j+1)).map λps=>(j,i)::ps
  |false=>ih (j+1)
 |false=>S) l
def Vk(l:aa Sk):aa Sk->Nat->af (aa (Nat×Nat)):=List.rec (λ_ _=>I []) (λb _ ih pre i=>(KZ b i pre 0).bind λps=>(ih (pre++[b]) (i+1)).map λqs=>ps++qs) l
def BJ{b:Sk}{i:Nat}:∀{l:aa Sk} {k:Nat} {ps:aa (Nat×Nat)},KZ b i l k=I ps->∀(j:Nat) a,l[j]? =I a->Sc (k+j) a b=J/\(b.anc.testBit (k+j)=J\/(a.ef||b.ef)=G\/(k+j,i)∈ps)
 |[],k,ps,_,j,a,h=>by cases h
 |a0::l,k,ps,hs,j,a,h=>by
  change (match Sc k a0 b with
   |true=>match !b.anc.testBit k&&(a0.ef||b.ef)with
    |true=>(KZ b i l (k+1)).map λps=>(k,i)::ps
    |false=>KZ b i l (k+1)
   |false=>S)=I ps at hs
  cases h0:Sc k a0 b with
  |false=>rw[h0]at hs;cases hs
  |true=>
   rw[h0]at hs;simp only at hs;cases h1:(!b.anc.testBit k&&(a0.ef||b.ef))with
   |true=>
    rw[h1]at hs;obtain⟨ps',h2,rfl⟩:=zk.1 hs;cases j with
    |zero=>cases h;exact⟨h0, .inr (.inr zm)⟩
    |succ j=>
     obtain⟨h3,h4⟩:=BJ h2 j a h;rw[show k+1+j=k+(j+1)from by omega]at h3 h4;exact⟨h3,h4.imp id (λh=>h.imp id λh=>zK _ h)⟩
   |false=>
    rw[h1]at hs;cases j with
    |zero=>
     cases h;refine⟨h0,?_⟩;simp only[yd];cases hb:b.anc.testBit k with
     |true=>exact .inl rfl
     |false=>rw[hb]at h1;exact .inr (.inl (by simpa using h1))
    |succ j=>
     obtain⟨h3,h4⟩:=BJ hs j a h;rw[show k+1+j=k+(j+1)from by omega]at h3 h4;exact⟨h3,h4⟩
def KO:∀{l pre:aa Sk} {k:Nat} {ps:aa (Nat×Nat)},Vk l pre k=I ps->pre.length=k->∀(i j:Nat) a b,j<i->k<=i->(pre++l)[j]? =I a->(pre++l)[i]? =I b->Sc j a b=J/\(b.anc.testBit j=J\/(a.ef||b.ef)=G\/(j,i)∈ps)
 |[],pre,k,ps,_,hk,i,j,a,b,_,hki,_,hb=>by
  rw[yp]at hb;have:=(zY.1 hb).1;omega
 |b0::l,pre,k,ps,hs,hk,i,j,a,b,hji,hki,ha,hb=>by
  change ((KZ b0 k pre 0).bind λps=>(Vk l (pre++[b0]) (k+1)).map λqs=>ps++qs)=I ps at hs;obtain⟨p1,h1,hs⟩:=zn.1 hs;obtain⟨p2,h2,rfl⟩:=zk.1 hs;by_cases hik:i=k
  ·subst hik;rw[wC (by omega),hk,Nat.sub_self]at hb;cases hb;rw[List.getElem?_append_left (by omega)]at ha;have:=BJ h1 j a ha;rw[yw]at this;exact⟨this.1,this.2.imp id λh=>h.imp id λh=>yE _ h⟩
  ·have h3:=KO h2 (by simp[hk]) i j a b hji (by omega) (by simpa using ha) (by simpa using hb);exact⟨h3.1,h3.2.imp id λh=>h.imp id λh=>yF _ h⟩
def aiu(ops:Array Oper)(l:aa Oper):aa Nat->aa Sk:=List.rec (λ_=>[]) (λo _ ih ms=>match ms with
 |m::ms=>⟨m,lm (cM ops o),dmk o.dst,efk o⟩::ih ms
 |[]=>[]) l
def plan(ops:Array Oper):af (aa (Nat×Nat)):=Vk (aiu ops ops.toList (IV ops.toList [])) [] 0
def WI(l:aa Oper):∀acc:aa Nat,(IV l acc).length=acc.length+l.length:=by
 induction l with
 |nil=>intro acc;rfl
 |cons o l ih=>intro acc;show (IV l (acc++[_])).length=_;rw[ih];simp;omega
def A5(ops:Array Oper):∀(l:aa Oper) (ms:aa Nat) (i:Nat) (o:Oper) (m:Nat),l[i]? =I o->ms[i]? =I m->(aiu ops l ms)[i]? =I ⟨m,lm (cM ops o),dmk o.dst,efk o⟩
 |[],_,_,_,_,h,_=>by cases h
 |o0::l,[],_,_,_,_,h=>by cases h
 |o0::l,m0::ms,i,o,m,h1,h2=>by
  show (_::aiu ops l ms)[i]? =_;cases i with
  |zero=>cases h1;cases h2;rfl
  |succ i=>exact A5 ops l ms i o m h1 h2
def Zf(xs:aa Nat)(Lo:aX)(ys:aa Nat):Bool:=xs.all (λi=> !dh i ys)&&Lo.all λp=> !dh p.1 ys
def cfD(c d:Rc):Bool:=(!c.ef||Zf c.wr c.Lo d.rd)&&(!d.ef||Zf d.wr d.Lo c.rd)
def U6(ps:aa (Nat×Nat))(cs:aa Rc):Bool:=ps.all λp=>match cs[p.1]?,cs[p.2]? with
 |some c,I d=>cfD c d
 |_,_=>G
def Qc{xs ys:aa Nat}{Lo:aX}(h:Zf xs Lo ys=J):(∀i∈xs,i∉ys)/\∀p∈Lo,p.1∉ys:=by
 unfold Zf at h;simp only[zj,zu,Bool.not_eq_true']at h;exact⟨λi hi=>iE.1 (h.1 i hi),λp hp=>iE.1 (h.2 p hp)⟩
def ae4{ops:Array Oper}{ps:aa (Nat×Nat)}{cs:aa Rc}(hp:plan ops=I ps)(ho:U6 ps cs=J)(hcs:∀(i:Nat) c,cs[i]? =I c->∃o,ops.toList[i]? =I o/\c.dst=o.dst/\c.sl=cM ops o/\(c.ef=J->efk o=J)/\∀i∈c.wr,i∈c.rd)
  {i j:Nat} {c d:Rc} (hji:j<i) (hc:cs[j]? =I c) (hd:cs[i]? =I d):
  CF c d\/∀bs,Bf ops.toList bs->(∀o,ops.toList[i]? =I o->Rdy bs o)->bs[j]? =I J:=by
 obtain⟨o1,h1,h2,h3,h4,h5⟩:=hcs j c hc;obtain⟨o2,g1,g2,g3,g4,g5⟩:=hcs i d hd;have hl1:=(zY.1 h1).1;have hl2:=(zY.1 g1).1;have hml:(IV ops.toList []).length=ops.toList.length:=by rw[WI];simp
 obtain⟨m1,hm1⟩:∃m,(IV ops.toList [])[j]? =I m:=⟨_,zq (by rw[hml];exact hl1)⟩;obtain⟨m2,hm2⟩:∃m,(IV ops.toList [])[i]? =I m:=⟨_,zq (by rw[hml];exact hl2)⟩;have s1:=A5 ops ops.toList _ j o1 m1 h1 hm1;have s2:=A5 ops ops.toList _ i o2 m2 g1 hm2;obtain⟨q1,q2⟩:=KO hp rfl i j _ _ hji (xu _) s1 s2;have hmsk:WZ ops.toList (IV ops.toList []):=PX ops.toList ops.toList [] ⟨[],rfl,rfl⟩ λi m o h=>by cases h
 by_cases ha:m2.testBit j=J
 ·exact .inr λbs hcl hr=>hmsk i m2 o2 hm2 g1 bs hcl (hr o2 g1) j ha
 ·refine .inl ?_;have ha':m2.testBit j=G:=by simpa using ha
  unfold Sc at q1;simp only[ha',Bool.false_or,zj]at q1;obtain⟨⟨r1,r2⟩,r3⟩:=q1;have r1:=fM r1;have r2:=fM r2;have r3:=fM r3;have hdyn:(c.ef||d.ef)=G\/cfD c d=J:=by
   rcases q2 with q2|q2|q2
   ·exact dg q2 ha
   ·simp only[Bool.or_eq_false_iff]at q2;left;have e1:c.ef=G:=by
     cases h:c.ef with
     |false=>rfl
     |true=>exact dg q2.1 (by rw[h4 h];simp)
    have e2:d.ef=G:=by
     cases h:d.ef with
     |false=>rfl
     |true=>exact dg q2.2 (by rw[g4 h];simp)
    rw[e1,e2];rfl
   ·right;have:=zu.1 ho _ q2;simp only[hc,hd]at this;exact this
  refine⟨λt ht=>⟨λhm=> ?_,λe=> ?_⟩,λt ht hm=> ?_,λhe=> ?_,λhe=> ?_⟩
  ·rw[h2]at ht;rw[g3]at hm;exact and_zero r1 (Ao ht) ((Mj _ _).2 hm)
  ·rw[h2]at ht;rw[g2]at e;exact and_zero r2 (Ao ht) (Ao e)
  ·rw[g2]at ht;rw[h3]at hm;exact and_zero r3 (Ao ht) ((Mj _ _).2 hm)
  ·rcases hdyn with h|h
   ·rw[he]at h;simp at h
   ·unfold cfD at h;simp only[he,zj,yL,Bool.not_eq_true']at h;have q:=Qc (h.1.resolve_left (by simp));exact⟨q.1,q.2,λp hp hx=>q.2 p hp (g5 _ hx)⟩
  ·rcases hdyn with h|h
   ·rw[he]at h;simp at h
   ·unfold cfD at h;simp only[he,zj,yL,Bool.not_eq_true']at h;have q:=Qc (h.2.resolve_left (by simp));exact⟨q.1,q.2,λp hp hx=>q.2 p hp (h5 _ hx)⟩
def IR.gq(p:Nat->Prop):IR->Prop
 | .box _ cs=>∀c∈cs,Iv.gq p c
 | .row _ _=>True
def aX.gq(p:Nat->Prop)(R:aX):Prop:=∀q∈R,p q.1/\q.2.gq p
def IR.gq.mono{p q:Nat->Prop}{r:IR}(h:r.gq p)(hn:∀i,p i->q i):r.gq q:=by
 cases r with
 |box T cs=>exact λc hc=>(h c hc).mono hn
 |row t l=>trivial
def aX.gq.mono{p q:Nat->Prop}{R:aX}(h:aX.gq p R)(hn:∀i,p i->q i):aX.gq q R:=λx hx=>⟨hn _ (h x hx).1,(h x hx).2.mono hn⟩
def aX.gq.res{p:Nat->Prop}{R:aX}{ρ ρ':Gh}(h:aX.gq p R)(ha:Ags p ρ ρ'):aX.res ρ R=aX.res ρ' R:=zZ λq hq=>by
 obtain⟨h1,h2⟩:=h q hq;obtain⟨i,r⟩:=q;cases r with
 |box T cs=>simp only[IR.res];rw[(ha i h1).2,Iv.gq.UI h2 ha]
 |row t l=>simp only[IR.res];rw[(ha i h1).1]
def aX.gq.perm{p:Nat->Prop}{R R':aX}(h:aX.gq p R)(hp:List.Perm R R'):aX.gq p R':=λq hq=>h q (hp.mem_iff.2 hq)
def aX.cI.lts{n:Nat}{R:aX}(h:aX.cI n R):aX.gq (λi=>i<n) R:=λq hq=>⟨(h q hq).1,by
 have:=(h q hq).2;cases hr:q.2 with
 |box T cs=>rw[hr]at this;exact this
 |row t l=>trivial⟩
def aX.gq.qd{n:Nat}{R:aX}(h:aX.gq (λi=>i<n) R):aX.cI n R:=λq hq=>⟨(h q hq).1,by
 have:=(h q hq).2;cases hr:q.2 with
 |box T cs=>rw[hr]at this;exact this
 |row t l=>trivial⟩
def tL(f:Fr)(sl:aa Nat):Env:=sl.filterMap λt=>(f t).map λd=>(t,d)
def C7{f:Fr}{t:Nat}{d:AV}:∀{sl:aa Nat},(tL f sl).get t=I d->f t=I d
 |[],h=>by cases h
 |s::sl,h=>by
  unfold tL at h;rw[xm]at h;cases hs:f s with
  |none=>
   rw[hs]at h;exact C7 (sl:=sl) h
  |some e=>
   rw[hs]at h;simp only[yo]at h;unfold Env.get at h;cases hb:zg s t with
   |true=>
    rw[hb]at h;cases h;rw[<-fM hb];exact hs
   |false=>
    rw[hb]at h;exact C7 (sl:=sl) h
def Fv{f:Fr}{t:Nat}{d:AV}:∀{sl:aa Nat},t∈sl->f t=I d->(tL f sl).get t=I d
 |[],h,_=>by cases h
 |s::sl,h,hf=>by
  unfold tL;rw[xm];by_cases hst:s=t
  ·subst hst;rw[hf];exact Env.eE _ _ _
  ·have ht:t∈sl:=(zF.1 h).resolve_left λe=>hst e.symm;cases f s with
   |none=>exact Fv ht hf
   |some e=>simp only[yo];rw[Env.dy _ _ hst];exact Fv ht hf
def LO{f g:Fr}{sl:aa Nat}(h:∀t∈sl,f t=g t):tL f sl=tL g sl:=by
 unfold tL;induction sl with
 |nil=>rfl
 |cons s sl ih=>
  rw[xm,xm,h s zm,ih λt ht=>h t (zK _ ht)]
section
variable {P:Program} {C:Cx} {n:Nat} {o:Oper}
def MtS(C:Cg)(n:Nat)(p:Nat->Prop)(f:Fr)(R:aX)(a:Act)(w:World):Prop:=∃(E:Env) (ρ:Gh),(∀t d,f t=I d->E.get t=I d)/\(∀q∈E,gq p q.2)/\aX.gq p R/\pT C.n C.ρ ρ/\rU C.C n (E.sub ρ) (aX.res ρ R) a w
def oB{ρ:Gh}{R R':aX}(h:List.Perm R R'):List.Perm (aX.res ρ R) (aX.res ρ R'):=h.map _
def jN{ρ:Gh}(R R':aX):aX.res ρ (R++R')=aX.res ρ R++aX.res ρ R':=z6 ..
def MtS.perm{C:Cg}{p:Nat->Prop}{f:Fr}{R R':aX}{a:Act}{w:World}(h:MtS C n p f R a w)(hp:List.Perm R R'):MtS C n p f R' a w:=by
 obtain⟨E,ρ,h1,h2,h3,h5,h4⟩:=h;exact⟨E,ρ,h1,h2,h3.perm hp,h5,h4.perm (oB hp)⟩
def Nlc(nx:Nat)(v:AV)(Ro:aX)(ρ:Gh):af AV->aa cG->Prop:=λa σ'=>∃ρ',pT nx ρ ρ'/\(a=I (v.sub ρ')\/a=S/\v= .lit undef)/\List.Perm σ' (aX.res ρ' Ro)
def ab4{wr rd:aa Nat}(h:∀i∈wr,i∈rd)(R:aX):List.Perm (gm wr (cj rd R)++gm rd R) (gm wr R):=by
 have e1:gm wr (cj rd R)=(gm wr R).filter λp=>dh p.1 rd:=by
  simp only[gm,cj,xW];exact xX λp _=>Bool.and_comm ..
 have e2:gm rd R=(gm wr R).filter λp=> !dh p.1 rd:=by
  simp only[gm,xW];refine xX λp _=> ?_;cases hm:dh p.1 rd with
  |true=>rfl
  |false=>
   have:dh p.1 wr=G:=iE.2 λhw=>iE.1 hm (h _ hw);rw[this];rfl
 rw[e1,e2];exact List.filter_append_perm _ _
def aj8{C:Cg}{p:Nat->Prop}{f:Fr}{R:aX}{a:Act}{w:World}{c:Rc}{nx nx':Nat}{Q:Exit->Act->World->Prop}{K':Act->World->Prop}
  (hn:C.n<=nx) (hm:MtS C n p f R a w) (hdst:c.dst=o.dst) (hd:KS n o.dst=J) (hwr:∀i∈c.wr,i∈c.rd) (hloc:∀ρ C,Ye P ((tL f c.sl).sub ρ) (aX.res ρ (cj c.rd R)) o C (Nlc nx c.v (match c.ef with|J=>c.Lo++gm c.wr (cj c.rd R)|G=>cj c.rd R) ρ))
  (hp:∀i,p i->¬(nx<=i/\i<nx')) (hv:cI nx' c.v) (hLi:aX.cI nx (cj c.rd R)) (hLo:c.ef=J->aX.cI nx' c.Lo)
  (hv':gq (λi=>p i\/(nx<=i/\i<nx')) c.v) (hLo':c.ef=J->aX.gq (λi=>p i\/(nx<=i/\i<nx')) c.Lo)
  (hK:∀a' w',a'.defers=a.defers->MtS C n (λi=>p i\/(nx<=i/\i<nx')) (c.F f) (c.R R) a' w'->K' a' w'):o.wp P a w K' Q:=by
 obtain⟨E,ρ,h1,h2,h3,h0,hsim0⟩:=hm;have hpm:List.Perm (cj c.rd R++gm c.rd R) R:=List.filter_append_perm _ _;have hsim:=hsim0.perm (oB (ρ:=ρ) hpm.symm);rw[jN]at hsim;generalize hσi:aX.res ρ (cj c.rd R)=σi at hsim;generalize hσr:aX.res ρ (gm c.rd R)=σr at hsim;have hg:=hsim.good;have hlt:∀b∈bF (σi++σr),b<w.heap.size:=λb hb=>by
  obtain⟨s,q1,q2⟩:=bS.1 hb;exact(hg.res s q1).lt q2
 have hal:∀b,al C.C (σi++σr) b->al ⟨w,al C.C (σi++σr),bF σi⟩ σi b:=λb hA=>⟨.inl hA,λhx=>hA.2 (bI.2 (.inl hx))⟩;have hgood:Good ⟨w,al C.C (σi++σr),bF σi⟩ σi w:=⟨Kp.refl _ _,λr hr=>(hg.res r (yE _ hr)).mono (λb _ hA=>⟨hal b hA,rfl⟩) (λ_ _=>rfl),by
  have:=hg.DS;rw[gv]at this;exact(yD.1 this).1,λb hb=> .inl hb⟩
 have hops:K9 (al ⟨w,al C.C (σi++σr),bF σi⟩ σi) w ((tL f c.sl).sub ρ) a.eval:=λx u hx=>by
  rw[Env.Lu]at hx;obtain⟨d,hd1,rfl⟩:=zk.1 hx;have hE:E.ev x=I d:=by
   cases x with
   |tmp t=>exact h1 t d (C7 hd1)
   |_=>exact hd1
  exact(hsim.slots.ops x (d.sub ρ) (by rw[Env.Lu,hE];rfl)).mono λb _ hA=>⟨hal b hA,rfl⟩
 have step:∀(ρ':Gh) (σo:aa cG) (w':World),pT nx ρ ρ'->List.Perm σo (aX.res ρ' (match c.ef with|J=>c.Lo++gm c.wr (cj c.rd R)|G=>cj c.rd R))->Tr ⟨w,al C.C (σi++σr),bF σi⟩ (bF σi) σi w σo w'->
   ∃ρ'':Gh,pT C.n C.ρ ρ''/\c.v.sub ρ'=c.v.sub ρ''/\rU C.C n (E.sub ρ'') (aX.res ρ'' (c.R R)) a w'/\(∀b,b<w'.heap.size->al ⟨w,al C.C (σi++σr),bF σi⟩ σo b->al C.C (aX.res ρ'' (c.R R)) b):=λρ' σo w' ha hσo ht=>by
  let ρ'':Gh:=⟨λi=>if nx<=i/\i<nx' then ρ'.v i else ρ.v i,λi=>if nx<=i/\i<nx' then ρ'.b i else ρ.b i⟩
  have hag:Ags p ρ ρ'':=λi hi=>by
   have:=hp i hi;exact⟨by simp only[ρ'',bL this],by simp only[ρ'',bL this]⟩
  have hag2:pT nx' ρ' ρ'':=λi hi=>by
   by_cases hni:nx<=i
   ·exact⟨by simp only[ρ'',bD (And.intro hni hi)],by simp only[ρ'',bD (And.intro hni hi)]⟩
   ·have h0:¬(nx<=i/\i<nx'):=λh=>hni h.1;obtain⟨a1,a2⟩:=ha i (by omega);exact⟨by simp only[ρ'',bL h0];exact a1.symm,by simp only[ρ'',bL h0];exact a2.symm⟩
  have hnx:nx<=nx'\/nx'<nx:=by omega
  have hown:∀b∈bF σo,b∈bF σi\/w.heap.size<=b:=ht.good.own;have hsub:∀b,b<w'.heap.size->al ⟨w,al C.C (σi++σr),bF σi⟩ σo b->al C.C (σo++σr) b:=λb _ hb=>by
   obtain⟨hb1,hb2⟩:=hb;rcases hb1 with hb1|hb1|hb1
   ·exact⟨hb1.1,λhx=>(bI.1 hx).elim hb2 (λh=>hb1.2 (bI.2 (.inr h)))⟩
   ·have hbp:b∈bF σi:=hb1;refine⟨?_,λhx=>(bI.1 hx).elim hb2 (λh=> ?_)⟩
    ·rcases hg.own b (bI.2 (.inl hbp))with h|h
     ·exact .inr (.inl h)
     ·exact .inr (.inr h)
    ·have hdis:=hg.DS;rw[gv]at hdis;exact(yD.1 hdis).2.2 b hbp b h rfl
   ·have hbw:w.heap.size<=b:=hb1;exact⟨.inr (.inr (zH hg.kept.size hbw)),λhx=>(bI.1 hx).elim hb2 (λh=>by have:=hlt b (bI.2 (.inr h));omega)⟩
  have ht2:Tr C.C (bF σi) (σi++σr) w (σo++σr) w':=Av hg (λb hA _=> .inl hA) ht (λr hr=>(ht.good.res r hr).mono (λb hb hA=>⟨hsub b hb hA,rfl⟩) (λ_ _=>rfl));have hs2:=hsim.tr ht2;have hout:aX.gq p (gm c.rd R):=λq hq=>h3 q (z8.1 hq).1;have hEs:E.sub ρ=E.sub ρ'':=zZ λq hq=>by rw[(h2 q hq).sub hag]
  have hrs:σr=aX.res ρ'' (gm c.rd R):=by rw[<-hσr,hout.res hag]
  have hpo:List.Perm (σo++σr) (aX.res ρ'' (c.R R)):=by
   rw[hrs];unfold Rc.R;cases hce:c.ef with
   |true=>
    rw[hce]at hσo;simp only at hσo ⊢;have hin:aX.gq p (gm c.wr (cj c.rd R)):=λq hq=>h3 q (z8.1 (z8.1 hq).1).1;have hin2:aX.cI nx (gm c.wr (cj c.rd R)):=λq hq=>hLi q (z8.1 hq).1;have e1:aX.res ρ' (gm c.wr (cj c.rd R))=aX.res ρ'' (gm c.wr (cj c.rd R)):=by rw[<-hin2.res ha,hin.res hag]
    rw[jN,e1,(hLo hce).res hag2]at hσo;refine(hσo.append_right _).trans ?_;rw[yQ,jN,<-jN (gm c.wr (cj c.rd R))];exact List.Perm.append_left _ (oB (ab4 hwr R))
   |false=>
    rw[hce]at hσo;simp only at hσo ⊢;have hin:aX.gq p (cj c.rd R):=λq hq=>h3 q (z8.1 hq).1;have e1:aX.res ρ' (cj c.rd R)=aX.res ρ'' (cj c.rd R):=by rw[<-hLi.res ha,hin.res hag]
    rw[e1]at hσo;refine(hσo.append_right _).trans ?_;rw[<-jN];exact oB hpm
  refine⟨ρ'',h0.trans (λi hi=>⟨by simp only[ρ'',bL (show ¬(nx<=i/\i<nx')by omega)],by simp only[ρ'',bL (show ¬(nx<=i/\i<nx')by omega)]⟩) (zG C.n),hv.sub hag2,by rw[<-hEs];exact hs2.perm hpo,λb hb hA=>PW hpo b (hsub b hb hA)⟩
 have fin:∀(ρ':Gh) (σo:aa cG) (w':World) (v:Value),pT nx ρ ρ'->List.Perm σo (aX.res ρ' (match c.ef with|J=>c.Lo++gm c.wr (cj c.rd R)|G=>cj c.rd R))->Tr ⟨w,al C.C (σi++σr),bF σi⟩ (bF σi) σi w σo w'->
   Rel (al ⟨w,al C.C (σi++σr),bF σi⟩ σo) w' (c.v.sub ρ') v->K' (a.put o.dst v) w':=λρ' σo w' v q1 q2 q3 q4=>by
  obtain⟨ρ'',g1,g2,g3,g4⟩:=step ρ' σo w' q1 q2 q3;have hR':aX.gq (λi=>p i\/(nx<=i/\i<nx')) (c.R R):=by
   unfold Rc.R;cases hce:c.ef with
   |false=>exact h3.mono λi hi=> .inl hi
   |true=>exact λq hq=>(zU.1 hq).elim (hLo' hce q) λhq=>⟨.inl (h3 q (z8.1 hq).1).1,(h3 q (z8.1 hq).1).2.mono λi hi=> .inl hi⟩
  refine hK _ _ (by cases o.dst<;>rfl) ?_;rw[g2]at q4;cases hdo:o.dst with
  |none=>exact⟨E,ρ'',λt d ht=>h1 t d (by unfold Rc.F at ht;rw[hdst,hdo]at ht;simpa using ht),λq hq=>(h2 q hq).mono λi hi=> .inl hi,hR',g1,g3⟩
  |some t=>
   refine⟨(t,c.v)::E,ρ'',λs d hs=> ?_,λq hq=> ?_,hR',g1,?_⟩
   ·unfold Rc.F at hs;rw[hdst,hdo]at hs;by_cases hts:t=s
    ·subst hts;rw[bD rfl]at hs;cases hs;exact Env.eE _ _ _
    ·rw[bL (λe=>hts (zD.inj e))]at hs;rw[Env.dy _ _ hts];exact h1 s d hs
   ·rcases zF.1 hq with rfl|hq
    ·exact hv'
    ·exact(h2 q hq).mono λi hi=> .inl hi
   ·rw[hdo]at hd;exact g3.put hd (q4.mono λb hb hA=>⟨g4 b hb hA,rfl⟩)
 unfold Oper.wp;subst hσi;rcases hloc ρ _ w a.eval hgood hops with ⟨v,w',av,σ',⟨ρ',q1,q2,q3⟩,r1,r2,r3⟩|⟨w',σ',⟨ρ',q1,q2,q3⟩,r1,r2⟩|⟨g,args,r1,r2⟩
 ·rw[r2];rcases q2 with q2|⟨q2,_⟩
  ·cases q2;exact fin ρ' σ' w' v q1 q3 r1 r3
  ·cases q2
 ·rw[r2];rcases q2 with q2|⟨_,q2⟩
  ·cases q2
  ·exact fin ρ' σ' w' undef q1 q3 r1 (by rw[q2,bR];exact .lit _)
 ·rw[r1];refine Calls.mono r2 λee w' ⟨v,av,σ',q0,⟨ρ',q1,q2,q3⟩,s1,s2⟩=> ?_;subst q0;rcases q2 with q2|⟨q2,_⟩
  ·cases q2;exact fin ρ' σ' w' v q1 q3 s1 s2
  ·cases q2
end
end Go.Iv
end
noncomputable section
namespace Go.Iv
variable [U:qz] [L:mO]
open Go Go.RowKit
section
variable {P:Program} {o:Oper} {C:Cx} {N:af AV->aa cG->Prop}
def Ye.SO{E:Env}{R:aX}{ρ:Gh}{id t:Nat}{l:aa (U.dc t)}(hr:fC R id=I (.row t l))
  (h:Ye P (Env.sub ρ (E.map λp=>(p.1,mZ id t l 3 p.2))) (aX.res ρ ((jP id R).map λp=>(p.1,sY id t l p.2))) o C N):Ye P (E.sub ρ) (aX.res ρ R) o C N:=λw ϱ hg hρ=>by
 obtain⟨i,hi1,_,hi3⟩:=dV hr;have hres:=gC (ρ:=ρ) hi1;have hd:Hd (al C (aX.res ρ R)) [.row (ρ.v id) t l] w:=⟨λr hr=>by
   rw[zJ]at hr;rw[hr];exact hg.res _ (List.mem_of_getElem? hres),λb hb hA=>hA.2 (by
   obtain⟨r,h1,h2⟩:=bS.1 hb;rw[zJ]at h1;rw[h1]at h2;exact bS.2 ⟨_,List.mem_of_getElem? hres,h2⟩)⟩
 have hle:=JQ (C:=C) hres hg;have hbk:bF (aX.res ρ ((jP id R).map λp=>(p.1,sY id t l p.2)))=bF ((aX.res ρ R).eraseIdx i):=by
  rw[<-uJ,<-hi3];unfold bF aX.res;rw[yh,List.filterMap_map,List.filterMap_map]
  congr 1
  funext p
  obtain⟨q,rr⟩:=p;cases rr<;>rfl
 have hal:∀b,(al C (aX.res ρ R) b\/b∈bF [cG.row (ρ.v id) t l])->al C (aX.res ρ ((jP id R).map λp=>(p.1,sY id t l p.2))) b:=λb hb=>by
  have:=hle b hb;exact⟨this.1,by rw[hbk];exact this.2⟩
 have hrel:∀{d:AV} {v:Value},Rel (al C (aX.res ρ R)) w (d.sub ρ) v->Rel (al C (aX.res ρ ((jP id R).map λp=>(p.1,sY id t l p.2)))) w ((mZ id t l 3 d).sub ρ) v:=λh=>
  (C9 hd 3 h).mono λb _ hA=>⟨hal b hA,rfl⟩
 have hsubb:∀b∈bF (aX.res ρ ((jP id R).map λp=>(p.1,sY id t l p.2))),b∈bF (aX.res ρ R):=λb hb=>by
  rw[hbk]at hb;exact oz (λr hr=>(wA _ _).subset hr) b hb
 have hg':Good C (aX.res ρ ((jP id R).map λp=>(p.1,sY id t l p.2))) w:=by
  refine⟨hg.kept,λrr hrr=> ?_,?_,λb hb=>hg.own b (hsubb b hb)⟩
  ·obtain⟨p,h1,rfl⟩:=zL.1 hrr;obtain⟨p',h2,rfl⟩:=zL.1 h1;have hm:p'.2.res ρ p'.1∈aX.res ρ R:=by
    rw[hi3]at h2;exact zL.2 ⟨p',List.mem_of_mem_eraseIdx h2,rfl⟩
   have h3:=hg.res _ hm;obtain⟨q,rr⟩:=p';cases rr with
   |row t' l'=>exact h3.mono (λb _ hA=>⟨hal b (.inl hA),rfl⟩) (λ_ _=>rfl)
   |box T cs=>
    obtain⟨us,h4,h5⟩:=h3;refine⟨us,h4,by simpa using h5.1,λj av v q1 q2=> ?_⟩;rw[yh,ya]at q1;obtain⟨c,hc,rfl⟩:=zk.1 q1;exact hrel (h5.2 j (c.sub ρ) v (by rw[ya,hc];rfl) q2)
  ·rw[hbk];exact hg.DS.sublist ((wA _ _).filterMap _)
 have hops:K9 (al C (aX.res ρ ((jP id R).map λp=>(p.1,sY id t l p.2)))) w (Env.sub ρ (E.map λp=>(p.1,mZ id t l 3 p.2))) ϱ:=λx u hx=>by
  cases x with
  |tmp k=>
   have hx':Env.get (Env.sub ρ (E.map λp=>(p.1,mZ id t l 3 p.2))) k=I u:=hx;rw[Env.eF,tF]at hx';obtain⟨d',h1,rfl⟩:=zk.1 hx';obtain⟨d,h2,rfl⟩:=zk.1 h1;exact hrel (hρ (.tmp k) (d.sub ρ) (by show Env.get (E.sub ρ) k=_;rw[Env.eF,h2];rfl))
  |const v=>exact(hρ (.const v) u hx).mono λb _ hA=>⟨hal b (.inl hA),rfl⟩
  |global g=>exact(hρ (.global g) u hx).mono λb _ hA=>⟨hal b (.inl hA),rfl⟩
  |func f=>exact(hρ (.func f) u hx).mono λb _ hA=>⟨hal b (.inl hA),rfl⟩
 have htr:∀{σ':aa cG} {w':World},Tr C (bF (aX.res ρ ((jP id R).map λp=>(p.1,sY id t l p.2)))) (aX.res ρ ((jP id R).map λp=>(p.1,sY id t l p.2))) w σ' w'->Tr C (bF (aX.res ρ R)) (aX.res ρ R) w σ' w':=λh=>
  ⟨h.good,⟨h.kp.os,h.kp.tape,h.kp.output,h.kp.size,λk hk hn=>h.kp.block k hk λhx=>hn (hsubb k hx)⟩,λb hb hA=>⟨(h.al b hb (hal b (.inl hA))).1,hA.2⟩⟩
 rcases h w ϱ hg' hops with ⟨v,w',av,σ',h1,h2,h3,h4⟩|⟨w',σ',h1,h2,h3⟩|⟨f,args,h1,h2⟩
 ·exact .inl ⟨v,w',av,σ',h1,htr h2,h3,h4⟩
 ·exact .inr (.inl ⟨w',σ',h1,htr h2,h3⟩)
 ·exact .inr (.inr ⟨f,args,h1,h2.mono λe w' ⟨v,av,σ',q1,q2,q3,q4⟩=>⟨v,av,σ',q1,q2,htr q3,q4⟩⟩)
def XD(sl:aa Nat)(T:ET)(E:Env):Prop:=∀t∈sl,∀d,cJ T t=I d->E.get t=I d
def Ye.jB{sl:aa Nat}{nx:Nat}{ρ:Gh}:∀(ids:aa Nat) (T:ET) (E:Env) (R:aX),XD sl T E->E.cI nx->aX.cI nx R->
  (∀E',XD sl (St.jB ⟨T,R,nx⟩ ids).E E'->E'.cI nx->aX.cI nx (St.jB ⟨T,R,nx⟩ ids).R->Ye P (E'.sub ρ) (aX.res ρ (St.jB ⟨T,R,nx⟩ ids).R) o C N)->Ye P (E.sub ρ) (aX.res ρ R) o C N
 |[],T,E,R,hh,hE,hR,h=>h E hh hE hR
 |i::ids,T,E,R,hh,hE,hR,h=>by
  have e0:St.jB ⟨T,R,nx⟩ (i::ids)=(St.Lb ⟨T,R,nx⟩ i).jB ids:=rfl;rw[e0]at h;have key:∀s:St,s.nx=nx->s=⟨s.E,s.R,nx⟩:=λs hs=>by obtain⟨a,b,c⟩:=s;simp only at hs;rw[hs]
  cases hr:fC R i with
  |none=>
   have e1:St.Lb ⟨T,R,nx⟩ i=⟨T,R,nx⟩:=by unfold St.Lb;simp only[hr]
   rw[e1]at h;exact Ye.jB ids T E R hh hE hR h
  |some rr=>
   cases rr with
   |box T0 cs=>
    have e1:St.Lb ⟨T,R,nx⟩ i=⟨T,R,nx⟩:=by unfold St.Lb;simp only[hr]
    rw[e1]at h;exact Ye.jB ids T E R hh hE hR h
   |row t l=>
    have e1:St.Lb ⟨T,R,nx⟩ i=⟨emap (mZ i t l 3) T,(jP i R).map λp=>(p.1,sY i t l p.2),nx⟩:=by unfold St.Lb;simp only[hr]
    rw[e1]at h;refine Ye.SO hr (Ye.jB ids _ _ _ (λk hk d hd=> ?_) (λp hp=> ?_) (λp hp=> ?_) h)
    ·rw[sq]at hd;obtain⟨d',h1,rfl⟩:=zk.1 hd;rw[tF,hh k hk d' h1];rfl
    ·obtain⟨p',h1,rfl⟩:=zL.1 hp;exact ou 3 (hE p' h1)
    ·obtain⟨p',h1,rfl⟩:=zL.1 hp;have h2:=De (id:=i) hR p' h1;refine⟨h2.1,?_⟩;obtain⟨q,rr⟩:=p';cases rr with
     |row t' l'=>trivial
     |box T0 cs=>
      intro c hc;obtain⟨c',h3,rfl⟩:=zL.1 hc;exact ou 3 (h2.2 c' h3)
end
def evL(sl:aa Nat)(T:ET):Operand->af AV
 | .tmp t=>match dh t sl with
  |true=>cJ T t
  |false=>S
 |x=>Dv T x
def lK(R1:aX)(nx:Nat)(fz:Bool)(e:fB):af (AV×Bool×aX×Nat):=I (match e.vl nx with
 |some d=>d
 |none=> .lit undef,match e with
 | .val _=>fz
 |_=>J,e.R R1 nx,e.nx nx)
def Wq(P:Program)(F:aW)(o:Oper)(sl:aa Nat)(ids:aa Nat)(s:St):af (AV×Bool×aX×Nat):=St.rec (λE1 R1 nx1=>lU o.op P F (evL sl E1) (fC R1) R1 nx1 (lK R1 nx1 (!ids.isEmpty))) (s.jB ids)
def aek(P:Program)(F:aW)(o:Oper)(sl:aa Nat)(E:ET)(Rl:aX)(nx:Nat):af (AV×Bool×aX×Nat):=Wq P F o sl (hU E o.op) ⟨E,Rl,nx⟩
def Xn{α:Type}(P:Program)(F:aW)(o:Oper)(sl:aa Nat)(ids:aa Nat)(D:AV×Bool×aX×Nat->af α)(s:St):af α:=St.rec (λE1 R1 nx1=>lU o.op P F (evL sl E1) (fC R1) R1 nx1 (λe=>D (match e.vl nx1 with
 |some d=>d
 |none=> .lit undef,match e with
 | .val _=>(!ids.isEmpty)
 |_=>J,e.R R1 nx1,e.nx nx1))) (s.jB ids)
def Ea{α:Type}(P:Program)(F:aW)(o:Oper)(sl:aa Nat)(E:ET)(Rl:aX)(nx:Nat)(D:AV×Bool×aX×Nat->af α):af α:=Xn P F o sl (hU E o.op) D ⟨E,Rl,nx⟩
def Ba{α:Type}{P:Program}{F:aW}(hN:dH F){o:Oper}{sl:aa Nat}{E:ET}{Rl:aX}{nx:Nat}(D:AV×Bool×aX×Nat->af α):(aek P F o sl E Rl nx).bind D=Ea P F o sl E Rl nx D:=by
 unfold aek Ea Wq Xn;generalize St.jB ⟨E,Rl,nx⟩ (hU E o.op)=s1;obtain⟨E1,R1,n1⟩:=s1;exact vE D hN ..
def Qs:∀(ids:aa Nat) (s:St),(s.jB ids).nx=s.nx
 |[],s=>rfl
 |i::ids,s=>by
  show ((s.Lb i).jB ids).nx=s.nx;rw[Qs ids];unfold St.Lb;split<;>rfl
def ab2{P:Program}{F:aW}{o:Oper}{sl:aa Nat}{T:ET}{E:Env}{Rl Lo:aX}{nx nx':Nat}{v:AV}{ef:Bool}(hF:gJ P F)(h:aek P F o sl T Rl nx=I (v,ef,Lo,nx'))(hh:XD sl T E)(hE:E.cI nx)(hR:aX.cI nx Rl):
  (∀ρ C,Ye P (E.sub ρ) (aX.res ρ Rl) o C (Nlc nx v Lo ρ))/\(ef=G->∀ρ C,Ye P (E.sub ρ) (aX.res ρ Rl) o C (Nlc nx v Rl ρ)):=by
 unfold aek Wq at h;generalize hs:St.jB ⟨T,Rl,nx⟩ (hU T o.op)=s1 at h;have hnx:s1.nx=nx:=by rw[<-hs,Qs]
 obtain⟨E1,R1,n1⟩:=s1;simp only at hnx;subst hnx;have h':lU o.op P F (evL sl E1) (fC R1) R1 n1 (lK R1 n1 (!(hU T o.op).isEmpty))=I (v,ef,Lo,nx'):=h;rw[Im]at h';have main:∀ρ C (Ro:aX),(∀e:fB,lK R1 n1 (!(hU T o.op).isEmpty) e=I (v,ef,Lo,nx')->e.R R1 n1=Ro)->Ye P (E.sub ρ) (aX.res ρ Rl) o C (Nlc n1 v Ro ρ):=λρ C Ro hRo=>by
  refine Ye.jB (sl:=sl) (hU T o.op) T E Rl hh hE hR λE' hh' hE' hR'=> ?_;rw[hs]at hh' hR' ⊢;have hsee:jt (evL sl E1) (fC R1) n1 E' R1:=⟨λx d hx=>by
   cases x with
   |tmp t=>
    unfold evL at hx;simp only at hx;split at hx
    ·rename_i hm;exact hh' t (fk.1 hm) d hx
    ·cases hx
   |_=>exact hx,λ_ _ h=>h,hE',hR'⟩
  have hst:=EH (o:=o) hF hsee rfl h' ρ C;intro w ϱ hg hρ;have conv:∀a σ',Nx R1 n1 (lK R1 n1 (!(hU T o.op).isEmpty)) (v,ef,Lo,nx') ρ a σ'->Nlc n1 v Ro ρ a σ':=λa σ' ⟨e,q1,q2,q3,q4,ρ',q5,q6,q7⟩=>by
   refine⟨ρ',q5,?_,by rw[<-hRo e q1];exact q7⟩;unfold lK at q1;simp only[zD.injEq,Prod.mk.injEq]at q1;cases hv:e.vl n1 with
   |some d=>
    rw[hv]at q1 q6;left;rw[q6,<-q1.1];rfl
   |none=>
    rw[hv]at q1 q6;right;exact⟨q6,q1.1.symm⟩
  rcases hst w ϱ hg hρ with ⟨v',w',av,σ',h1,h2,h3,h4⟩|⟨w',σ',h1,h2,h3⟩|⟨f,args,h1,h2⟩
  ·exact .inl ⟨v',w',av,σ',conv _ _ h1,h2,h3,h4⟩
  ·exact .inr (.inl ⟨w',σ',conv _ _ h1,h2,h3⟩)
  ·exact .inr (.inr ⟨f,args,h1,h2.mono λe w' ⟨v',av,σ',q1,q2,q3,q4⟩=>⟨v',av,σ',q1,conv _ _ q2,q3,q4⟩⟩)
 refine⟨λρ C=>main ρ C Lo λe he=> ?_,λhef ρ C=>main ρ C Rl λe he=> ?_⟩
 ·unfold lK at he;simp only[zD.injEq,Prod.mk.injEq]at he;exact he.2.2.1
 ·unfold lK at he;simp only[zD.injEq,Prod.mk.injEq]at he;cases e with
  |val d=>
   have hemp:hU T o.op=[]:=by
    have h2:(!(hU T o.op).isEmpty)=G:=by rw[<-hef];exact he.2.1
    simpa using h2
   rw[hemp]at hs;have:(⟨T,Rl,n1⟩:St)=⟨E1,R1,n1⟩:=hs;exact(St.mk.inj this).2.1.symm
  |_=>exact dg (he.2.1.trans hef) (by simp)
end Go.Iv
end
noncomputable section
namespace Go.Iv
variable [U:qz] [L:mO]
open Go Go.RowKit
def kG(p:Nat->Bool)(n:Nat):AV->Bool:=Nat.rec (λd=>match d with
 | .lit _=>J
 | .sl _ _=>J
 | .rp _ _=>J
 | .own i=>p i
 | .ptr i _=>p i
 | .ra i _ _ _=>p i
 |_=>G) (λ_ ih d=>match d with
 | .lit _=>J
 | .sl _ _=>J
 | .rp _ _=>J
 | .own i=>p i
 | .ptr i _=>p i
 | .ra i _ _ _=>p i
 | .agg cs=>cs.all ih
 | .iM cs=>cs.all ih
 | .fn _ cs=>cs.all ih
 | .fp cs=>cs.all ih) n
def AA{p:Nat->Bool}:∀(n:Nat) {d:AV},kG p n d=J->gq (λi=>p i=J) d
 |0,d,h=>by
  cases d<;>first|exact .lit _|exact .sl _ _|exact .rp _ _|exact .own _ h|exact .ptr _ _ h|exact .ra _ _ _ _ h|(cases h;done)
 |n+1,d,h=>by
  have hL:∀{cs:aa AV},cs.all (kG p n)=J->∀c∈cs,gq (λi=>p i=J) c:=λh c hc=>AA n (zu.1 h c hc);cases d<;>first|exact .lit _|exact .sl _ _|exact .rp _ _|exact .own _ h|exact .ptr _ _ h|exact .ra _ _ _ _ h|exact .agg _ (hL h)|exact .iM _ (hL h)|exact .fn _ _ (hL h)|exact .fp _ (hL h)
def GS{p:Nat->Prop}:∀(n:Nat) {d:AV},gq p d->∀i∈lR n d,p i
 |0,d,h,i,hi=>by
  cases h<;>simp only[lR,zJ,List.not_mem_nil]at hi<;>(subst hi;assumption)
 |n+1,d,h,i,hi=>by
  have hL:∀{cs:aa AV},(∀c∈cs,gq p c)->i∈cs.flatMap (lR n)->p i:=λh hi=>by
   obtain⟨c,h1,h2⟩:=xT.1 hi;exact GS n (h c h1) i h2
  cases h with
  |agg cs h=>exact hL h hi
  |iM cs h=>exact hL h hi
  |fn f cs h=>exact hL h hi
  |own id h=>simp only[lR,zJ]at hi;rw[hi];exact h
  |ptr id off h=>simp only[lR,zJ]at hi;rw[hi];exact h
  |ra id t m off h=>simp only[lR,zJ]at hi;rw[hi];exact h
  |_=>simp[lR]at hi
def Di(sl:aa Nat)(T:ET):aa Nat:=sl.flatMap λt=>match cJ T t with
 |some d=>lR 3 d
 |none=>[]
def V7(R:aX):aa Nat:=R.flatMap λq=>q.1::match q.2 with
 | .box _ cs=>cs.flatMap (lR 3)
 | .row _ _=>[]
def XS(al:aa Nat)(nx nx' i:Nat):Bool:=dh i al||(ye nx i&&zy i nx')
def okR(al:aa Nat)(nx nx':Nat)(R:aX):Bool:=R.all λq=>XS al nx nx' q.1&&match q.2 with
 | .box _ cs=>cs.all (kG (XS al nx nx') 3)
 | .row _ _=>J
def HO{al:aa Nat}{nx nx' i:Nat}(h:XS al nx nx' i=J):i∈al\/(nx<=i/\i<nx'):=by
 unfold XS at h;simp only[yL,zj,Nat.ble_eq,yt]at h;exact h.imp fk.1 id
def amG{al:aa Nat}{nx nx':Nat}{R:aX}(h:okR al nx nx' R=J):aX.gq (λi=>i∈al\/(nx<=i/\i<nx')) R:=λq hq=>by
 have:=zu.1 h q hq;simp only[zj]at this;refine⟨HO this.1,?_⟩;obtain⟨i,r⟩:=q;cases r with
 |row t l=>trivial
 |box T cs=>exact λc hc=>(AA 3 (zu.1 this.2 c hc)).mono λi hi=>HO hi
def aqJ(o:Op):Bool:=match o with
 | .move _=>G
 | .assign _=>G
 | .pick _ _ _=>G
 | .unOp _ _ _=>G
 | .nilCheck _=>G
 | .fieldAddr _ _ _=>G
 | .extract _ _=>G
 | .makeFunc _ _ _=>G
 | .alloc _=>G
 |_=>J
def W8(o:Op):Bool:=match o with
 | .call {callee:= .value _, ..}=>J
 |_=>G
def oS(ops:Array Oper)(o:Oper)(E:ET)(R:aX):aa Nat:=match aqJ o.op with
 |false=>[]
 |true=>match W8 o.op with
  |false=>Di (cM ops o) E
  |true=>reach R 3 (Di (cM ops o) E)
def inQ(rd:aa Nat)(R:aX):aX:=match rd with
 |[]=>[]
 |rd=>cj rd R
def XI(rd:aa Nat)(R:aX):inQ rd R=cj rd R:=by
 cases rd with
 |nil=>exact(List.filter_eq_nil_iff.2 λp _=>by simp[dh]).symm
 |cons a l=>rfl
def rcB(ops:Array Oper)(o:Oper)(E:ET)(Rl:aX)(nx:Nat)(v:AV)(ef:Bool)(Lo:aX)(nx':Nat):Bool:=(λal=>ye nx nx'&&(!ef||efk o)&&kG (XS al nx nx') 4 v&&(!ef||okR al nx nx' Lo)) (Di (cM ops o) E++V7 Rl)
def aa5(e:AV->AV->Bool)(l:aa AV):aa AV->Bool:=List.rec (λm=>match m with
 |[]=>J
 |_=>G) (λa _ ih m=>match m with
 |b::m=>e a b&&ih m
 |[]=>G) l
def ajb(ih:AV->AV->Bool)(a b:AV):Bool:=match a,b with
 | .own i, .own j=>zg i j
 | .ptr i o, .ptr j p=>zg i j&&zg o p
 | .fn (.func f) cs, .fn (.func g) ds=>zg f g&&aa5 ih cs ds
 |_,_=>G
def eqA(n:Nat):AV->AV->Bool:=Nat.rec (λ_ _=>G) (λ_ ih=>ajb ih) n
def ak7(a b:IR):Bool:=match a,b with
 | .box T cs, .box T' ds=>zg T T'&&aa5 (eqA 2) cs ds
 |_,_=>G
def Vf(l:aX):aX->Bool:=List.rec (λm=>match m with
 |[]=>J
 |_=>G) (λa _ ih m=>match m with
 |b::m=>zg a.1 b.1&&ak7 a.2 b.2&&ih m
 |[]=>G) l
def EW{e:AV->AV->Bool}(he:∀a b,e a b=J->a=b):∀{l m:aa AV},aa5 e l m=J->l=m
 |[],[],_=>rfl
 |[],_::_,h=>by cases h
 |_::_,[],h=>by cases h
 |a::l,b::m,h=>by
  change (e a b&&aa5 e l m)=J at h;rw[zj]at h;rw[he a b h.1,EW he h.2]
def WQ:∀(n:Nat) {a b:AV},eqA n a b=J->a=b
 |0,a,b,h=>by cases h
 |n+1,a,b,h=>by
  change ajb (eqA n) a b=J at h;unfold ajb at h;split at h
  ·rw[fM h]
  ·rw[zj]at h;rw[fM h.1,fM h.2]
  ·rw[zj]at h;rw[fM h.1,EW (λa b=>WQ n) h.2]
  ·cases h
def JW:∀{l m:aX},Vf l m=J->l=m
 |[],[],_=>rfl
 |[],_::_,h=>by cases h
 |_::_,[],h=>by cases h
 |(i,a)::l,(j,b)::m,h=>by
  change (zg i j&&ak7 a b&&Vf l m)=J at h;simp only[zj]at h;have h1:=fM h.1.1;subst h1;have h2:=h.1.2;unfold ak7 at h2;split at h2
  ·rw[zj]at h2;rw[fM h2.1,EW (λa b=>WQ 2) h2.2,JW h.2]
  ·cases h2
def trim(K rd:aa Nat)(Rl Lo:aX):aa Nat×aX:=match K.filter λi=>dh i rd with
 |[]=>(rd,Lo)
 |k::K=>match Vf (cj (k::K) Lo) (cj (k::K) Rl)with
  |true=>(rd.filter λi=> !dh i (k::K),gm (k::K) Lo)
  |false=>(rd,Lo)
def adn(K rd:aa Nat)(R Lo:aX):(∀i∈(trim K rd (cj rd R) Lo).1,i∈rd)/\(∀q∈(trim K rd (cj rd R) Lo).2,q∈Lo)/\List.Perm Lo ((trim K rd (cj rd R) Lo).2++gm (trim K rd (cj rd R) Lo).1 (cj rd R)):=by
 have h0:gm rd (cj rd R)=[]:=List.filter_eq_nil_iff.2 λp hp=>by
  have:dh p.1 rd=J:=(z8.1 hp).2;rw[this];simp
 have triv:(∀i∈rd,i∈rd)/\(∀q∈Lo,q∈Lo)/\List.Perm Lo (Lo++gm rd (cj rd R)):=⟨λ_ h=>h,λ_ h=>h,by rw[h0,yp]⟩;unfold trim;split
 ·exact triv
 ·rename_i k K' hK;split
  case h_2=>exact triv
  rename_i he;have he:=JW he;refine⟨λi hi=>(z8.1 hi).1,λq hq=>(z8.1 hq).1,?_⟩;have e1:gm (rd.filter λi=> !dh i (k::K')) (cj rd R)=cj (k::K') (cj rd R):=by
   unfold gm cj;refine xX λp hp=> ?_;have hp:dh p.1 rd=J:=(z8.1 hp).2;cases hm:dh p.1 (k::K')with
   |true=>
    rw[iE.2 λhx=> ?_];rfl;have:=(z8.1 hx).2;rw[hm]at this;cases this
   |false=>
    rw[fk.2 (z8.2 ⟨fk.1 hp,by rw[hm];rfl⟩)];rfl
  show List.Perm Lo (gm (k::K') Lo++gm (rd.filter λi=> !dh i (k::K')) (cj rd R));rw[e1,<-he];exact(List.perm_append_comm.trans (List.filter_append_perm _ _)).symm
def partner(ops:Array Oper)(ps:aa (Nat×Nat))(i:Nat):aa Nat:=ps.flatMap λp=>match zg p.1 i with
 |true=>match ops[p.2]? with
  |some o=>match W8 o.op with
   |true=>[]
   |false=>cM ops o
  |none=>[]
 |false=>match zg p.2 i with
  |true=>match ops[p.1]? with
   |some o=>match W8 o.op with
    |true=>[]
    |false=>cM ops o
   |none=>[]
  |false=>[]
def V9(ops:Array Oper)(ps:aa (Nat×Nat))(cs:aa Rc)(E:ET):aa Nat:=match ps with
 |[]=>[]
 |p::ps=>Di (partner ops (p::ps) cs.length) E
def dK2(o:Oper)(sl:aa Nat)(cs:aa Rc)(rd:aa Nat)(E:ET)(R:aX){α:Type}(ih:aa Rc->St->(aa Rc->St->af α)->af α)(k:aa Rc->St->af α)(v:AV)(ef:Bool)(nx':Nat)(t:aa Nat×aX):af α:=
 ih (cs++[⟨o.dst,v,sl,rd,t.1,ef,t.2⟩]) ⟨qx o.dst v E,match ef with
  |true=>t.2++gm t.1 R
  |false=>R,nx'⟩ k
def dK(ops:Array Oper)(ps:aa (Nat×Nat))(o:Oper)(cs:aa Rc)(rd:aa Nat)(E:ET)(R Rl:aX)(nx:Nat){α:Type}(ih:aa Rc->St->(aa Rc->St->af α)->af α)(k:aa Rc->St->af α)(x:AV×Bool×aX×Nat):af α:=
 match rcB ops o E Rl nx x.1 x.2.1 x.2.2.1 x.2.2.2 with
 |true=>dK2 o (cM ops o) cs rd E R ih k x.1 x.2.1 x.2.2.2 (trim (V9 ops ps cs E) rd Rl x.2.2.1)
 |false=>S
def atw{α:Type}(P:Program)(F:aW)(ops:Array Oper)(ps:aa (Nat×Nat))(o:Oper)(ih:aa Rc->St->(aa Rc->St->af α)->af α)(cs:aa Rc)(k:aa Rc->St->af α)(E:ET)(R:aX)(nx:Nat)(rd:aa Nat)(Rl:aX):af α:=
 Ea P F o (cM ops o) E Rl nx (dK ops ps o cs rd E R Rl nx ih k)
def awK{α:Type}(P:Program)(F:aW)(ops:Array Oper)(ps:aa (Nat×Nat))(o:Oper)(ih:aa Rc->St->(aa Rc->St->af α)->af α)(cs:aa Rc)(k:aa Rc->St->af α)(s:St):af α:=
 St.rec (λE R nx=>(λrd=>atw P F ops ps o ih cs k E R nx rd (inQ rd R)) (oS ops o E R)) s
def dNo{α:Type}(ops:Array Oper)(o:Oper)(ih:aa Rc->St->(aa Rc->St->af α)->af α)(cs:aa Rc)(k:aa Rc->St->af α)(s:St):af α:=
 ih (cs++[⟨o.dst, .lit undef,cM ops o,[],[],G,[]⟩]) ⟨qx o.dst (.lit undef) s.E,s.R,s.nx⟩ k
def Tw{α:Type}(P:Program)(F:aW)(n:Nat)(ops:Array Oper)(ps:aa (Nat×Nat))(o:Oper)(ih:aa Rc->St->(aa Rc->St->af α)->af α)(cs:aa Rc)(s:St)(k:aa Rc->St->af α):af α:=match KS n o.dst with
 |true=>gate ops o s (awK P F ops ps o ih cs k) (dNo ops o ih cs k)
 |false=>S
def Ty{α:Type}(P:Program)(F:aW)(n:Nat)(ops:Array Oper)(ps:aa (Nat×Nat))(l:aa Oper):aa Rc->St->(aa Rc->St->af α)->af α:=List.rec (λcs s k=>k cs s) (λo _ ih=>Tw P F n ops ps o ih) l
def TE(l:aa Oper):Nat->Bool:=List.rec (λ_=>J) (λo _ ih i=>(o.after.toList.all λe=> !Region.binds .any e||zy e.on i)&&ih (i+1)) l
def KJ:∀{l:aa Oper} {k:Nat},TE l k=J->∀(i:Nat) o,l[i]? =I o->∀e∈o.after.toList,Region.binds .any e=J->e.on<k+i
 |[],k,_,i,o,h,_,_,_=>by cases h
 |o0::l,k,hb,i,o,h,e,he,hbe=>by
  change ((o0.after.toList.all λe=> !Region.binds .any e||zy e.on k)&&TE l (k+1))=J at hb;simp only[zj]at hb;cases i with
  |zero=>
   cases h;have:=zu.1 hb.1 e he;rw[hbe]at this;simpa [yt]using this
  |succ i=>
   have:=KJ hb.2 i o h e he hbe;omega
def EB{α:Type}(P:Program)(F:aW)(n:Nat)(ops:Array Oper)(s:St)(k:St->af α):af α:=match P.follows .mixedOrders&&TE ops.toList 0 with
 |true=>match plan ops with
  |some ps=>Ty P F n ops ps ops.toList [] s λcs s'=>match U6 ps cs with
   |true=>k s'
   |false=>S
  |none=>S
 |false=>S
def Bl(ops:Array Oper)(o:Oper)(f:Fr)(wn:Bool):Prop:=match o.guard with
 |none=>wn=J
 |some (j,want)=>∃t,(ops[j]?).bind (·.dst)=I t/\((∃b,f t=I (.lit (.bool b))/\wn=(b==want))\/(∃vs,f t=I (.lit (.tuple vs))/\wn=G))
structure vD (P:Program) (n:Nat) (ops:Array Oper) (o:Oper) (f:Fr) (R:aX) (nx:Nat) (c:Rc) (nx':Nat):Prop where
 dst:c.dst=o.dst
 sl:c.sl=cM ops o
 ef:c.ef=J->efk o=J
 dn:KS n o.dst=J
 le:nx<=nx'
 run:(Bl ops o f G/\c.v= .lit undef/\c.ef=G)\/(Bl ops o f J/\∀ρ C,Ye P ((tL f c.sl).sub ρ) (aX.res ρ (cj c.rd R)) o C (Nlc nx c.v (match c.ef with|J=>c.Lo++gm c.wr (cj c.rd R)|G=>cj c.rd R) ρ))
 wr:∀i∈c.wr,i∈c.rd
 lin:aX.cI nx (cj c.rd R)
 lv:cI nx' c.v
 lo:c.ef=J->aX.cI nx' c.Lo
 ids:∀p:Nat->Prop,(∀t∈c.sl,∀d,f t=I d->gq p d)->aX.gq p (cj c.rd R)->gq (λi=>p i\/(nx<=i/\i<nx')) c.v/\(c.ef=J->aX.gq (λi=>p i\/(nx<=i/\i<nx')) c.Lo)
inductive Ch (P:Program) (n:Nat) (ops:Array Oper):Fr->aX->Nat->List Oper->List Rc->Fr->aX->Nat->Prop
 |nil (f:Fr) (R:aX) (nx:Nat):Ch P n ops f R nx [] [] f R nx
 |cons {f f':Fr} {R R':aX} {nx nx1 nx':Nat} {o:Oper} {os:List Oper} {c:Rc} {cs:List Rc} (h:vD P n ops o f R nx c nx1) (hs:Ch P n ops (c.F f) (c.R R) nx1 os cs f' R' nx'):Ch P n ops f R nx (o::os) (c::cs) f' R' nx'
def am4{α:Type}{r:α}{ops:Array Oper}{o:Oper}{s:St}{yes no:St->af α}(h:gate ops o s yes no=I r){f:Fr}(hf:∀t d,cJ s.E t=I d->f t=I d):∃s':St,s'.R=s.R/\s'.nx=s.nx/\(∀t d,cJ s'.E t=I d->f t=I d)/\
  ((Bl ops o f J/\yes s'=I r)\/(Bl ops o f G/\no s'=I r)):=by
 unfold gate at h;unfold Bl;split at h
 ·rename_i hg;exact⟨s,rfl,rfl,hf, .inl ⟨by first|rw[hg]|rfl,h⟩⟩
 ·rename_i j want hg;split at h
  ·cases h
  ·rename_i t hj;have hput:∀b,cJ s.E t=I (.lit (.bool b))->∀k d,cJ (s.fy t b).E k=I d->f k=I d:=λb hb k d hk=>by
    have hk':cJ (k8 t (.b b) s.E) k=I d:=hk;rcases o8 hk' with ⟨rfl,rfl⟩|⟨_,h2⟩
    ·exact hf _ _ hb
    ·exact hf k d h2
   split at h
   ·rename_i b hb;have hfb:=hf _ _ hb;split at h
    ·split at h
     ·exact⟨s.fy t J,rfl,rfl,hput _ hb, .inl ⟨by(try rw[hg]);exact⟨t,hj, .inl ⟨_,hfb,rfl⟩⟩,h⟩⟩
     ·exact⟨s.fy t J,rfl,rfl,hput _ hb, .inr ⟨by(try rw[hg]);exact⟨t,hj, .inl ⟨_,hfb,rfl⟩⟩,h⟩⟩
    ·split at h
     ·exact⟨s.fy t G,rfl,rfl,hput _ hb, .inr ⟨by(try rw[hg]);exact⟨t,hj, .inl ⟨_,hfb,rfl⟩⟩,h⟩⟩
     ·exact⟨s.fy t G,rfl,rfl,hput _ hb, .inl ⟨by(try rw[hg]);exact⟨t,hj, .inl ⟨_,hfb,rfl⟩⟩,h⟩⟩
   ·rename_i vs hb;exact⟨s,rfl,rfl,hf, .inr ⟨by(try rw[hg]);exact⟨t,hj, .inr ⟨_,hf _ _ hb,rfl⟩⟩,h⟩⟩
   ·cases h
def WO{dst:af Nat}{v:AV}{E:ET}{f:Fr}{c:Rc}(hc:c.dst=dst)(hv:c.v=v)(hf:∀t d,cJ E t=I d->f t=I d):∀t d,cJ (qx dst v E) t=I d->c.F f t=I d:=λt d h=>by
 unfold qx at h;unfold Rc.F;rw[hc,hv];cases dst with
 |none=>simpa using hf t d h
 |some s=>
  rcases o8 h with ⟨rfl,rfl⟩|⟨h1,h2⟩
  ·rw[bD rfl]
  ·rw[bL (λe=>h1 (zD.inj e))];exact hf t d h2
def Ye.mono{P:Program}{C:Cx}{E:Env}{σ:aa cG}{o:Oper}{N N':af AV->aa cG->Prop}(h:Ye P E σ o C N)(hN:∀a σ',N a σ'->N' a σ'):Ye P E σ o C N':=λw ϱ hg hρ=>by
 rcases h w ϱ hg hρ with ⟨v,w',av,σ',h1,h2,h3⟩|⟨w',σ',h1,h2,h3⟩|⟨f,args,h1,h2⟩
 ·exact .inl ⟨v,w',av,σ',hN _ _ h1,h2,h3⟩
 ·exact .inr (.inl ⟨w',σ',hN _ _ h1,h2,h3⟩)
 ·exact .inr (.inr ⟨f,args,h1,Calls.mono h2 λe w' ⟨v,av,σ',q1,q2,q3⟩=>⟨v,av,σ',q1,hN _ _ q2,q3⟩⟩)
def LJ{α:Type}{r:α}{P:Program}{F:aW}{n:Nat}{ops:Array Oper}{ps:aa (Nat×Nat)}(hF:gJ P F)(hN:dH F){k:aa Rc->St->af α}:∀(l:aa Oper) {cs:aa Rc} {s:St} {f:Fr},Ty P F n ops ps l cs s k=I r->(∀t d,cJ s.E t=I d->f t=I d)->(∀t d,f t=I d->cI s.nx d)->aX.cI s.nx s.R->
  ∃(cs':aa Rc) (s':St) (f':Fr),k (cs++cs') s'=I r/\Ch P n ops f s.R s.nx l cs' f' s'.R s'.nx/\(∀t d,cJ s'.E t=I d->f' t=I d)
 |[],cs,s,f,h,hf,_,_=>⟨[],s,f,by rw[yp];exact h, .nil f s.R s.nx,hf⟩
 |o::l,cs,s,f,h,hf,hfl,hR=>by
  change Tw P F n ops ps o (Ty P F n ops ps l) cs s k=I r at h;unfold Tw at h;split at h
  case h_2=>cases h
  rename_i hd;obtain⟨s1,e1,e2,hf1,⟨hg,h1⟩|⟨hg,h1⟩⟩:=am4 h hf
  ·obtain⟨E,R,nx⟩:=s1;obtain⟨E0,R0,nx0⟩:=s;simp only at e1 e2 hf1;subst e1 e2;change Ea P F o (cM ops o) E (inQ (oS ops o E R) R) nx (dK ops ps o cs (oS ops o E R) E R (inQ (oS ops o E R) R) nx (Ty P F n ops ps l) k)=I r at h1;rw[<-Ba hN]at h1;generalize hrd:oS ops o E R=rd at h1;obtain⟨⟨v,ef,Lo,nx'⟩,h2,h3⟩:=zn.1 h1;unfold dK at h3;split at h3
   case h_2=>cases h3
   rename_i hb;rw[XI]at h2 hb;simp only at h3 hb;unfold rcB at hb;simp only[zj,Nat.ble_eq,yL,Bool.not_eq_true']at hb;obtain⟨⟨⟨hb1,hb2⟩,hb3⟩,hb4⟩:=hb;have hin:aX.cI nx (cj rd R):=λq hq=>hR q (z8.1 hq).1;have hlE:(tL f (cM ops o)).cI nx:=λq hq=>by
    obtain⟨t,_,ht⟩:=List.mem_filterMap.1 hq;obtain⟨d,hd1,hd2⟩:=zk.1 ht;rw[<-hd2];exact hfl t d hd1
   obtain⟨y1,y2⟩:=ab2 hF h2 (E:=tL f (cM ops o)) (λt ht d hdd=>Fv ht (hf1 t d hdd)) hlE hin;have hal:∀p:Nat->Prop,(∀t∈cM ops o,∀d,f t=I d->gq p d)->aX.gq p (cj rd R)->∀i∈Di (cM ops o) E++V7 (cj rd R),p i:=λp hp1 hp2 i hi=>by
    rcases zU.1 hi with hi|hi
    ·obtain⟨t,ht,hi⟩:=xT.1 hi;split at hi
     ·rename_i d hdd;exact GS 3 (hp1 t ht d (hf1 t d hdd)) i hi
     ·cases hi
    ·obtain⟨q,hq,hi⟩:=xT.1 hi;obtain⟨g1,g2⟩:=hp2 q hq;rcases zF.1 hi with rfl|hi
     ·exact g1
     ·obtain⟨j,rr⟩:=q;cases rr with
      |row t l=>cases hi
      |box T cs=>
       obtain⟨c,hc,hi⟩:=xT.1 hi;exact GS 3 (g2 c hc) i hi
   obtain⟨t1,t2,t3⟩:=adn (V9 ops ps cs E) rd R Lo;rw[XI]at h3;generalize trim (V9 ops ps cs E) rd (cj rd R) Lo=tr at h3 t1 t2 t3;obtain⟨wr,Lo'⟩:=tr;simp only at t1 t2 t3;have hids:∀p:Nat->Prop,(∀t∈cM ops o,∀d,f t=I d->gq p d)->aX.gq p (cj rd R)->gq (λi=>p i\/(nx<=i/\i<nx')) v/\(ef=J->aX.gq (λi=>p i\/(nx<=i/\i<nx')) Lo'):=λp hp1 hp2=>
    ⟨(AA 4 hb3).mono λi hi=>(HO hi).imp (hal p hp1 hp2 i) id,λhe q hq=>((amG (hb4.resolve_left (by rw[he];simp))).mono λi hi=>hi.imp (hal p hp1 hp2 i) id) q (t2 q hq)⟩
   obtain⟨g1,g2⟩:=hids (λi=>i<nx) (λt _ d hdd=>hfl t d hdd) hin.lts;have hlt:∀i,(i<nx\/(nx<=i/\i<nx'))->i<nx':=λi hi=>by omega
   have hfact:vD P n ops o f R nx ⟨o.dst,v,cM ops o,rd,wr,ef,Lo'⟩ nx':=⟨rfl,rfl,λhe=>hb2.resolve_left (by simp only at he;rw[he];simp),hd,hb1, .inr ⟨hg,λρ C=>by
     cases ef with
     |true=>exact Ye.mono (y1 ρ C) λa σ' ⟨ρ',z1,z2,z3⟩=>⟨ρ',z1,z2,z3.trans (oB t3)⟩
     |false=>exact y2 rfl ρ C⟩,t1,hin,g1.mono hlt,λhe=>(aX.gq.mono (g2 he) hlt).qd,hids⟩
   have hR':aX.cI nx' (Rc.R ⟨o.dst,v,cM ops o,rd,wr,ef,Lo'⟩ R):=by
    unfold Rc.R;cases ef with
    |false=>exact hR.mono hb1
    |true=>exact λq hq=>(zU.1 hq).elim (λhq=>((aX.gq.mono (g2 rfl) hlt).qd) q hq) λhq=>(hR.mono hb1) q (z8.1 hq).1
   have h4:Ty P F n ops ps l (cs++[⟨o.dst,v,cM ops o,rd,wr,ef,Lo'⟩]) ⟨qx o.dst v E,Rc.R ⟨o.dst,v,cM ops o,rd,wr,ef,Lo'⟩ R,nx'⟩ k=I r:=h3;obtain⟨cs',s',f',q1,q2,q3⟩:=LJ hF hN l (f:=Rc.F ⟨o.dst,v,cM ops o,rd,wr,ef,Lo'⟩ f) h4 (WO rfl rfl hf1) (λt d hdd=>by
    unfold Rc.F at hdd;split at hdd
    ·cases hdd;exact g1.mono hlt
    ·exact cI.mono (hfl t d hdd) hb1) hR'
   exact⟨_::cs',s',f',by simpa using q1, .cons hfact q2,q3⟩
  ·obtain⟨E,R,nx⟩:=s1;obtain⟨E0,R0,nx0⟩:=s;simp only at e1 e2 hf1;subst e1 e2;have hin:aX.cI nx (cj [] R):=λq hq=>hR q (z8.1 hq).1;have hfact:vD P n ops o f R nx ⟨o.dst, .lit undef,cM ops o,[],[],false,[]⟩ nx:=⟨rfl,rfl,λh=>(by cases h),hd,zG _, .inl ⟨hg,rfl,rfl⟩,λ_ h=>(by cases h),hin, .lit _,λh=>(by cases h),λp _ _=>⟨.lit _,λh=>(by cases h)⟩⟩;have h2:Ty P F n ops ps l (cs++[⟨o.dst, .lit undef,cM ops o,[],[],G,[]⟩]) ⟨qx o.dst (.lit undef) E,R,nx⟩ k=I r:=h1;obtain⟨cs',s',f',q1,q2,q3⟩:=LJ hF hN l (f:=Rc.F ⟨o.dst, .lit undef,cM ops o,[],[],G,[]⟩ f) h2 (WO rfl rfl hf1) (λt d hdd=>by
    unfold Rc.F at hdd;split at hdd
    ·cases hdd;exact .lit _
    ·exact hfl t d hdd) hR
   exact⟨_::cs',s',f',by simpa using q1, .cons hfact q2,q3⟩
end Go.Iv
end
noncomputable section
namespace Go.Iv
variable [U:qz] [L:mO]
open Go Go.RowKit
section
variable {P:Program} {n:Nat} {ops:Array Oper}
def Ch.idx{f f':Fr}{R R':aX}{nx nx':Nat}{os:aa Oper}{cs:aa Rc}(h:Ch P n ops f R nx os cs f' R' nx'):cs.length=os.length/\f'=fW cs (zo cs.length J) f/\R'=gi cs (zo cs.length J) R/\
  ∃g:Nat->Nat,g 0=nx/\g os.length=nx'/\(∀i,i<os.length->g i<=g (i+1))/\∀(i:Nat) o c,os[i]? =I o->cs[i]? =I c->vD P n ops o (fW (cs.take i) (zo i J) f) (gi (cs.take i) (zo i J) R) (g i) c (g (i+1)):=by
 induction h with
 |nil f R nx=>exact⟨rfl,rfl,rfl,λ_=>nx,rfl,rfl,λi hi=>by simp at hi,λi o c h=>by cases h⟩
 |@cons f f' R R' nx nx1 nx' o os c cs h hs ih=>
  obtain⟨h1,h2,h3,g,g0,g1,g2,g3⟩:=ih;refine⟨by simp[h1],by rw[h2];rfl,by rw[h3];rfl,λi=>match i with|0=>nx|i+1=>g i,rfl,g1,λi hi=> ?_,λi o' c' q1 q2=> ?_⟩
  ·cases i with
   |zero=>show nx<=g 0;rw[g0];exact h.le
   |succ i=>exact g2 i (by simpa using hi)
  ·cases i with
   |zero=>cases q1;cases q2;show vD P n ops o f R nx c (g 0);rw[g0];exact h
   |succ i=>exact g3 i o' c' q1 q2
def Ww{g:Nat->Nat}{N:Nat}(h:∀i,i<N->g i<=g (i+1)):∀i j,i<=j->j<=N->g i<=g j:=λi j hij hj=>by
 induction j with
 |zero=>
  have:i=0:=by omega
  subst this;exact zG _
 |succ j ih=>
  by_cases hi:i=j+1
  ·subst hi;exact zG _
  ·exact zH (ih (by omega) (by omega)) (h j (by omega))
def oL:aa Bool->Nat
 |[]=>0
 |b::bs=>(match b with|J=>0|G=>1)+oL bs
def K5:∀{bs:aa Bool} {i:Nat},bs[i]? =I G->oL bs=oL (bs.set i J)+1
 |[],_,h=>by cases h
 |b::bs,0,h=>by
  simp only[List.getElem?_cons_zero,zD.injEq]at h;subst h;show 1+oL bs=(0+oL bs)+1;omega
 |b::bs,i+1,h=>by
  have:=K5 (bs:=bs) (i:=i) (by simpa using h);cases b with
  |true=>
   show 0+oL bs=(0+oL (bs.set i J))+1;omega
  |false=>
   show 1+oL bs=(1+oL (bs.set i J))+1;omega
def J1:∀N:Nat,oL (zo N G)=N
 |0=>rfl
 |N+1=>by rw[yJ];show 1+oL (zo N G)=N+1;rw[J1 N];omega
def EE:∀{bs:aa Bool},oL bs=0->bs=zo bs.length J
 |[],_=>rfl
 |b::bs,h=>by
  cases b with
  |true=>rw[wg,yJ,<-EE (bs:=bs) (by have:0+oL bs=0:=h;omega)]
  |false=>have:1+oL bs=0:=h;omega
def Jp:∀{bs:aa Bool},oL bs≠0->∃i:Nat,bs[i]? =I G/\∀j,j<i->bs[j]? =I J
 |[],h=>dg rfl h
 |b::bs,h=>by
  cases b with
  |false=>exact⟨0,rfl,λj hj=>by omega⟩
  |true=>
   obtain⟨i,h1,h2⟩:=Jp (bs:=bs) (λe=>h (by show 0+oL bs=0;omega));refine⟨i+1,h1,λj hj=> ?_⟩;cases j with
   |zero=>rfl
   |succ j=>exact h2 j (by omega)
def mem_ready{listed:Array Bool}{i:Nat}:i∈Region.ready .any ops listed↔i<ops.size/\listed.getD i J=G/\∃o,ops[i]? =I o/\∀e∈o.after.toList,Region.binds .any e=J->listed.getD e.on G=J:=by
 unfold Region.ready;simp only[z8,List.mem_range,zj,Bool.not_eq_true'];refine and_congr_right λhi=>and_congr_right λ_=> ?_;rw[wq hi];simp only[yo,Option.getD_some,zD.injEq,exists_eq_left'];rw[Array.all_eq_true'];constructor
 ·intro h e he hb;have:=h e (by simpa using he);rw[hb]at this;simpa using this
 ·intro h e he;cases hb:Region.binds .any e with
  |false=>rfl
  |true=>simpa using h e (by simpa using he) hb
def uH{listed:Array Bool}{i:Nat}(hi:i<listed.size):listed.getD i J=G↔listed.toList[i]? =I G:=by
 rw[Array.getD_eq_getD_getElem?,wq hi,zq (by simpa using hi)];simp
def BC{listed:Array Bool}{i:Nat}:listed.getD i G=J↔listed.toList[i]? =I J:=by
 rw[Array.getD_eq_getD_getElem?];cases h:listed[i]? with
 |none=>simp[h]
 |some b=>simp[h]
def alT{C:Cg}{cs:aa Rc}{f0:Fr}{R0:aX}{nx0:Nat}{g:Nat->Nat}{ds:aa Deferred}{Q:Exit->Act->World->Prop}
  (hlen:cs.length=ops.size) (g0:g 0=nx0) (gn:C.n<=nx0) (g2:∀i,i<ops.size->g i<=g (i+1)) (hf:∀(i:Nat) o c,ops.toList[i]? =I o->cs[i]? =I c->vD P n ops o (fW (cs.take i) (zo i J) f0) (gi (cs.take i) (zo i J) R0) (g i) c (g (i+1)))
  (hcf:∀(i j:Nat) (c d:Rc),j<i->cs[j]? =I c->cs[i]? =I d->CF c d\/∀bs,Bf ops.toList bs->(∀o,ops.toList[i]? =I o->Rdy bs o)->bs[j]? =I J)
  (hback:∀(i:Nat) o,ops.toList[i]? =I o->∀e∈o.after.toList,Region.binds .any e=J->e.on<i)
  (hQ:∀a w,a.defers=ds->MtS C n (λi=>i<g ops.size) (fW cs (zo cs.length J) f0) (gi cs (zo cs.length J) R0) a w->Q .normal a w):
  ∀(fuel:Nat) (listed:Array Bool) (a:Act) (w:World),listed.size=ops.size->oL listed.toList=fuel->Bf ops.toList listed.toList->a.defers=ds->
   MtS C n (λx=>x<nx0\/∃j:Nat,listed.toList[j]? =I J/\g j<=x/\x<g (j+1)) (fW cs listed.toList f0) (gi cs listed.toList R0) a w->wpAny P .any ops Q fuel listed a w:=by
 have hmono:=Ww (N:=ops.size) (g:=g) g2;intro fuel;induction fuel with
 |zero=>
  intro listed a w hs hc hcl hda hm;have hall:=EE hc;have hfin:Q .normal a w:=by
   refine hQ a w hda ?_;rw[hall,show listed.toList.length=cs.length from by rw[hlen,<-hs];simp]at hm;obtain⟨E,ρ,q1,q2,q3,q5,q4⟩:=hm;have hle:∀i,(i<nx0\/∃j:Nat,(zo cs.length J)[j]? =I J/\g j<=i/\i<g (j+1))->i<g ops.size:=λi hi=>by
    rcases hi with hi|⟨j,hj,_,hj3⟩
    ·have:=hmono 0 ops.size (xu _) (zG _);omega
    ·have hj':j<cs.length:=by simpa using (zY.1 hj).1
     have:=hmono (j+1) ops.size (by omega) (zG _);omega
   exact⟨E,ρ,q1,λq hq=>(q2 q hq).mono hle,q3.mono hle,q5,q4⟩
  refine⟨?_,hfin⟩;rw[List.eq_nil_iff_forall_not_mem];intro i hi;obtain⟨h1,h2,_⟩:=mem_ready.1 hi;rw[uH (by omega),hall,wB]at h2;split at h2<;>cases h2
 |succ fuel ih=>
  intro listed a w hs hc hcl hda hm;refine⟨λhr=> ?_,λi hi=> ?_⟩
  ·
   exfalso;obtain⟨i,h1,h2⟩:=Jp (bs:=listed.toList) (by omega);have hil:i<listed.size:=by simpa using (zY.1 h1).1
   have hio:i<ops.size:=by omega
   have:i∈Region.ready .any ops listed:=mem_ready.2 ⟨hio,(uH hil).2 h1,ops[i],wq hio,λe he hb=>BC.2 (h2 _ (hback i ops[i] (by simp[hio]) e he hb))⟩;rw[hr]at this;cases this
  ·obtain⟨hio,h2,o,ho,hrd⟩:=mem_ready.1 hi;have hil:i<listed.size:=by omega
   have hbi:=(uH hil).1 h2;have hol:ops.toList[i]? =I o:=by simpa using ho
   have hRdy:Rdy listed.toList o:=λe he hb=>BC.1 (hrd e he hb);obtain⟨c,hci⟩:∃c,cs[i]? =I c:=⟨_,zq (by omega)⟩;have fact:=hf i o c hol hci;obtain⟨s1,s2,s3,s4⟩:=VW (cs:=cs) (bs:=listed.toList) (i:=i) (c:=c) f0 R0 (by rw[hlen,<-hs];simp) hci hbi
    (λj d hji hd hbj=>(hcf i j d c hji hd hci).resolve_right λh=>by
     have:=h listed.toList hcl (λo' ho'=>by rw[hol]at ho';cases ho';exact hRdy);rw[hbj]at this;cases this)
    (λj d hij hd hbj=>((hcf j i c d hij hci hd).resolve_right λh=>by
     have hjo:j<ops.size:=by have:=(zY.1 hd).1;omega
     have:=h listed.toList hcl (λo' ho'=>hcl j o' ho' hbj);rw[hbi]at this;cases this).symm)
   have eset:(listed.setIfInBounds i J).toList=listed.toList.set i J:=Array.toList_setIfInBounds ..;have hcl':Bf ops.toList (listed.toList.set i J):=λj o' ho' hbj e he hb=>by
    have hmono':∀k,listed.toList[k]? =I J->(listed.toList.set i J)[k]? =I J:=λk hk=>by
     rw[List.getElem?_set];split
     ·rename_i hik;rw[bD (by simpa using hil)]
     ·exact hk
    by_cases hij:i=j
    ·subst hij;rw[hol]at ho';cases ho';exact hmono' _ (hRdy e he hb)
    ·rw[List.getElem?_set_ne hij]at hbj;exact hmono' _ (hcl j o' ho' hbj e he hb)
   have hpn:∀x,(x<nx0\/∃j:Nat,listed.toList[j]? =I J/\g j<=x/\x<g (j+1))->¬(g i<=x/\x<g (i+1)):=λx hx hr=>by
    rcases hx with hx|⟨j,hj,hj2,hj3⟩
    ·have:=hmono 0 i (xu _) (by omega);omega
    ·have hne:j≠i:=λe=>by rw[e,hbi]at hj;cases hj
     have hjl:j<ops.size:=by
      have:j<listed.toList.length:=(zY.1 hj).1;have h3:listed.toList.length=listed.size:=by simp
      omega
     by_cases hlt:j<i
     ·have:=hmono (j+1) i (by omega) (by omega);omega
     ·have:=hmono (i+1) j (by omega) (by omega);omega
   have hweak:∀x,((x<nx0\/∃j:Nat,listed.toList[j]? =I J/\g j<=x/\x<g (j+1))\/(g i<=x/\x<g (i+1)))->(x<nx0\/∃j:Nat,(listed.toList.set i J)[j]? =I J/\g j<=x/\x<g (j+1)):=λx hx=>by
    rcases hx with (hx|⟨j,hj,hj2⟩)|hx
    ·exact .inl hx
    ·refine .inr ⟨j,?_,hj2⟩;rw[List.getElem?_set];split
     ·rw[bD (by simpa using hil)]
     ·exact hj
    ·refine .inr ⟨i,?_,hx⟩;rw[List.getElem?_set_self (by simpa using hil)]
   have cont:∀a' w',a'.defers=ds->MtS C n (λx=>(x<nx0\/∃j:Nat,listed.toList[j]? =I J/\g j<=x/\x<g (j+1))\/(g i<=x/\x<g (i+1))) (c.F (fW cs listed.toList f0)) (c.R (gi cs listed.toList R0)) a' w'->wpAny P .any ops Q fuel (listed.setIfInBounds i J) a' w':=λa' w' hda' hm'=>by
    refine ih (listed.setIfInBounds i J) a' w' (by simp[hs]) ?_ (by rw[eset];exact hcl') hda' ?_
    ·rw[eset];have:=K5 hbi;omega
    ·rw[eset,<-s3];obtain⟨E,ρ,q1,q2,q3,q5,q4⟩:=hm'.perm s4;exact⟨E,ρ,q1,λq hq=>(q2 q hq).mono hweak,q3.mono hweak,q5,q4⟩
   have hgate:∀wn,Bl ops o (fW (cs.take i) (zo i J) f0) wn->Region.wanted o (yielded ops a.tmps)=wn:=λwn hg=>by
    unfold Bl at hg;cases hgd:o.guard with
    |none=>
     rw[hgd]at hg;simp only at hg;rw[hg];unfold Region.wanted;rw[hgd]
    |some jw=>
     obtain⟨j,want⟩:=jw;rw[hgd]at hg;obtain⟨t,hj,hg⟩:=hg;have hts:t∈c.sl:=by
      rw[fact.sl];unfold cM ahn;rw[hgd];simp only[hj];exact yF _ (zJ.2 rfl)
     obtain⟨E,ρ,q1,_,_,_,q4⟩:=hm;obtain⟨w1,w2⟩:=Eo (ρ:=ρ) hgd hj (E:=E);rcases hg with ⟨b,hb,hw⟩|⟨vs,hb,hw⟩
     ·rw[hw];exact nM.spec q4.slots (w1 b (q1 _ _ (by rw[s1 t hts];exact hb)))
     ·rw[hw];exact nM.spec q4.slots (w2 vs (q1 _ _ (by rw[s1 t hts];exact hb)))
   unfold wpOp;simp only[ho];rcases fact.run with ⟨hg,hv,hef⟩|⟨hg,hy⟩
   ·rw[bL (by rw[hgate _ hg];exact Bool.false_ne_true)];obtain⟨E,ρ,q1,q2,q3,q5,q4⟩:=hm;have hR:c.R (gi cs listed.toList R0)=gi cs listed.toList R0:=by unfold Rc.R;rw[hef]
    refine cont _ _ (by rw[<-hda];cases o.dst<;>rfl) ?_;rw[hR];cases hdo:o.dst with
    |none=>exact⟨E,ρ,λt d ht=>q1 t d (by unfold Rc.F at ht;rw[fact.dst,hdo]at ht;simpa using ht),λq hq=>(q2 q hq).mono λ_ h=> .inl h,q3.mono λ_ h=> .inl h,q5,q4⟩
    |some t=>
     refine⟨(t, .lit undef)::E,ρ,λs d hsd=> ?_,λq hq=> ?_,q3.mono λ_ h=> .inl h,q5,?_⟩
     ·unfold Rc.F at hsd;rw[fact.dst,hdo,hv]at hsd;by_cases hts:t=s
      ·subst hts;rw[bD rfl]at hsd;cases hsd;exact Env.eE _ _ _
      ·rw[bL (λe=>hts (zD.inj e))]at hsd;rw[Env.dy _ _ hts];exact q1 s d hsd
     ·rcases zF.1 hq with rfl|hq
      ·exact .lit _
      ·exact(q2 q hq).mono λ_ h=> .inl h
     ·have hdn:=fact.dn;rw[hdo]at hdn;have:=q4.put (av:= .lit undef) (v:=undef) hdn (.lit _);show rU C.C n ((t,cc.sub ρ (.lit undef))::E.sub ρ) _ _ _;rw[bR];exact this
   ·rw[bD (hgate _ hg)];refine .inl ?_;have hle:tL (fW cs listed.toList f0) c.sl=tL (fW (cs.take i) (zo i J) f0) c.sl:=LO s1;obtain⟨E,ρ,q1,q2,q3,q5,q4⟩:=hm;have hids:=fact.ids (λx=>x<nx0\/∃j:Nat,listed.toList[j]? =I J/\g j<=x/\x<g (j+1)) (λt ht d hd=>by
     rw[<-s1 t ht]at hd;exact q2 _ (Env.get_mem (q1 t d hd))) (by rw[<-s2];exact λq hq=>q3 q (z8.1 hq).1)
    exact aj8 (nx:=g i) (nx':=g (i+1)) (by have:=hmono 0 i (xu _) (by omega);omega) ⟨E,ρ,q1,q2,q3,q5,q4⟩ fact.dst fact.dn fact.wr (by rw[hle,s2];exact hy) hpn fact.lv (by rw[s2];exact fact.lin) fact.lo hids.1 hids.2 λa' w' hd' hm'=>cont a' w' (hd'.trans hda) hm'
def UC{α:Type}{r:α}{F:aW}{C:Cg}{s:St}{a:Act}{w:World}{id:Nat}{k:St->af α}(hF:gJ P F)(hN:dH F)(h:EB P F n ops s k=I r)(hm:Mt C n s a w):
  (Code.region id ops J).wp P (λe a' w'=>e= .normal/\a'.defers=a.defers/\∃s',k s'=I r/\Mt C n s' a' w') a w:=by
 unfold EB at h;split at h
 case h_2=>cases h
 rename_i hb;simp only[zj]at hb;split at h
 case h_2=>cases h
 rename_i ps hps;obtain⟨E,hh,hE,hR,ρ,hag,hsim⟩:=hm;obtain⟨cs,s',f',q1,q2,q3⟩:=LJ hF hN ops.toList (f:=cJ s.E) h (λt d h=>h) (λt d hd=>Env.Vs (x:= .tmp t) hE (hh t d hd)) hR;rw[yg]at q1;split at q1
 case h_2=>cases q1
 rename_i hpo;obtain⟨l1,l2,l3,g,g0,g1,g2,g3⟩:=q2.idx;have hN:ops.toList.length=ops.size:=by simp
 refine wp_region_any hb.1 ?_;refine alT (C:=C) (cs:=cs) (f0:=cJ s.E) (R0:=s.R) (nx0:=s.nx) (g:=g) (ds:=a.defers) (by rw[l1,hN]) g0 hag.2 (by rw[<-hN];exact g2) g3 (λi j c d hji hc hd=>ae4 hps hpo (λi c hc=>by
   obtain⟨o,ho⟩:∃o,ops.toList[i]? =I o:=⟨_,zq (by rw[<-l1];exact(zY.1 hc).1)⟩;have:=g3 i o c ho hc;exact⟨o,ho,this.dst,this.sl,this.ef,this.wr⟩) hji hc hd) (λi o ho e he hbe=>by have:=KJ hb.2 i o ho e he hbe;omega) (λa' w' hd' hm'=> ?_) ops.size (Array.replicate ops.size G) a _ (by simp) (by rw[Array.toList_replicate,J1]) (λi o _ hbi=> ?_) rfl ?_
 ·refine⟨rfl,hd',s',q1,?_⟩;rw[<-l2,<-l3]at hm';obtain⟨E',ρ',p1,p2,p3,p5,p4⟩:=hm';rw[hN]at g1;rw[g1]at p2 p3;exact⟨E',λt d hd=>p1 t d (q3 t d hd),p2,p3.qd,ρ',⟨p5,by have:=Ww (N:=ops.toList.length) g2 0 ops.toList.length (xu _) (zG _);rw[g0,hN,g1]at this;have h7:=hag.2;omega⟩,p4⟩
 ·rw[Array.toList_replicate,wB]at hbi;split at hbi<;>cases hbi
 ·have nF:∀(cs:aa Rc) (n:Nat) (f:Fr),fW cs (zo n G) f=f:=λcs=>by
   induction cs with
   |nil=>intro n f;rfl
   |cons d cs ih=>
    intro n f;cases n with
    |zero=>rfl
    |succ n=>rw[yJ];exact ih n f
  have nR:∀(cs:aa Rc) (n:Nat) (R:aX),gi cs (zo n G) R=R:=λcs=>by
   induction cs with
   |nil=>intro n f;rfl
   |cons d cs ih=>
    intro n f;cases n with
    |zero=>rfl
    |succ n=>rw[yJ];exact ih n f
  rw[Array.toList_replicate,nF,nR];exact⟨E,ρ,hh,λq hq=>gq.mono (hE q hq) λi hi=> .inl hi,(aX.gq.mono hR.lts λi hi=> .inl hi),hag.1,hsim.drew⟩
end
end Go.Iv
end
noncomputable section
namespace Go.Iv
variable [U:qz] [L:mO]
open Go Go.RowKit
section
variable {α:Type} {r:α} {P:Program} {F:aW} {C:Cg} {n:Nat}
def vY(P:Program)(F:aW)(n:Nat)(_:Nat)(ops:Array Oper)(draw:Bool)(s:St)(k:fL α):af α:=match draw with
 |false=>ep P F n ops ops.toList s (k .normal)
 |true=>EB P F n ops s (k .normal)
def exec(P:Program)(F:aW)(n:Nat)(fuel:Nat)(c:Code):St->fL α->af α:=
 Code.rec Ub (vY P F n) (λ_ _=>atM) (λc _ _=>aif c) (λid _=>acd id) (λ_=>UP fuel) (λ_ _ _ _ _ _=>DA) WJ (λ_ _=>DA) (λ_=>DA) (λ_=>DA) agB (λ_=>DA) c
def nL(P:Program)(F:aW)(fuel:Nat)(f:FuncId)(args:aa AV)(R:aX)(nx:Nat)(k:AV->aX->Nat->af α):af α:=match P.funcs[f]? with
 |some fn=>match fn.body with
  |some c=>match ye args.length fn.ntmps&& !(fn.name=="runtime.NumGoroutine")with
   |true=>exec (α:=α) P F fn.ntmps fuel c ⟨Jo 0 args .e,R,nx⟩ λe s=>match e with
    | .normal=>(DH P s fn.results.toList).bind λds=>k (fZ ds) (KP s.R nx (fZ ds) args) s.nx
    | .ret=>(DH P s fn.results.toList).bind λds=>k (fZ ds) (KP s.R nx (fZ ds) args) s.nx
    |_=>S
   |false=>S
  |none=>S
 |none=>S
def jX(P:Program)(F0:aW)(has:FuncId->Bool)(fuel:Nat):Nat->aW
 |0=>F0
 |m+1=>λα f args R nx k=>match has f with
  |true=>F0 α f args R nx k
  |false=>nL P (jX P F0 has fuel m) fuel f args R nx k
def Ends(P:Program)(C:Cg)(n:Nat)(c:Code)(k:fL α)(r:α)(a:Act)(w:World):Prop:=c.wp P (λe a' w'=>∃s',k e s'=I r/\Mt C n s' a' w') a w
def RT(P:Program)(C:Cg)(n:Nat)(c:Code)(x:St->fL α->af α):Prop:=∀(r:α) (s:St) (k:fL α) (a:Act) (w:World),x s k=I r->Mt C n s a w->Ends P C n c k r a w
def JO{c:Operand}{s:St}{x y:St->af α}(h:ot c s x y=I r){a:Act}{w:World}(hm:Mt C n s a w):∃(b:Bool) (s':St),a.eval c= .bool b/\Mt C n s' a w/\(match b with|J=>x s'|G=>y s')=I r:=by
 unfold ot at h;split at h
 ·rename_i t;split at h
  case h_2=>cases h
  rename_i b hb;have hev:a.eval (.tmp t)= .bool b:=by
   obtain⟨E,hh,_,_,ρ,_,hs⟩:=hm;refine Ql hs ?_;have h1:=hh t _ hb;show Env.get (E.sub ρ) t=_;rw[Env.eF,h1,yo,bR]
  refine⟨b,s.fy t b,hev,hm.fy hb,?_⟩;unfold Wo at h;cases b<;>exact h
 ·exact⟨J,s,rfl,hm,h⟩
 ·exact⟨G,s,rfl,hm,h⟩
 ·cases h
def Cy(hF:gJ P F)(hN:dH F)(id:Nat)(ops:Array Oper)(draw:Bool):RT (α:=α) P C n (.region id ops draw) (vY P F n id ops draw):=λr s k a w h hm=>by
 unfold vY at h;cases draw with
 |false=>
  refine wp_mono (wp_region_lit (AS hF _ h hm)) λe a' w' ⟨he,_,s',h1,h2⟩=> ?_;subst he;exact⟨s',h1,h2⟩
 |true=>
  refine wp_mono (UC hF hN h hm) λe a' w' ⟨he,_,s',h1,h2⟩=> ?_;subst he;exact⟨s',h1,h2⟩
def Ez{c:Code}{x:St->fL α->af α}(hx:RT P C n c x)(fuel:Nat):RT P C n (.loop c) (UP fuel x):=λr s k a w h hm=>by
 have key:∀(m:Nat) (s:St) (a:Act) (w:World),Bk x k m s=I r->Mt C n s a w->c.wp P (Exit.then (InL P c λe a' w'=>∃s',k e s'=I r/\Mt C n s' a' w') λe a' w'=>∃s',k e s'=I r/\Mt C n s' a' w') a w:=by
  intro m;induction m with
  |zero=>intro s a w h;cases h
  |succ m ih=>
   intro s a w h hm;refine wp_mono (hx r s _ a w h hm) λe a' w' ⟨s',h1,h2⟩=> ?_;cases e with
   |normal=>exact JK (ih s' a' w' h1 h2)
   |_=>exact⟨s',h1,h2⟩
 exact DM (key fuel s a w h hm)
def aej(hF:gJ P F)(hN:dH F)(fuel:Nat)(c:Code):RT (α:=α) P C n c (exec P F n fuel c):=by
 induction c with
 |skip=>exact λr s k a w h hm=>wp_skip ⟨s,h,hm⟩
 |region id ops draw=>exact Cy hF hN id ops draw
 |seq x y hx hy=>
  intro r s k a w h hm;refine wp_seq (wp_mono (hx r s _ a w h hm) λe a' w' ⟨s',h1,h2⟩=> ?_);cases e with
  |normal=>exact hy r s' k a' w' h1 h2
  |_=>exact⟨s',h1,h2⟩
 |cond c x y hx hy=>
  intro r s k a w h hm;obtain⟨b,s',he,hm',h'⟩:=JO (show ot c s _ _=I r from h) hm;cases b with
  |true=>exact wp_cond_true he (hx r s' k a w h' hm')
  |false=>exact wp_cond_false he (hy r s' k a w h' hm')
 |block id x hx=>
  intro r s k a w h hm;refine wp_block (wp_mono (hx r s _ a w h hm) λe a' w' ⟨s',h1,h2⟩=> ?_);cases e with
  |exit id'=>
   simp only[qW]at h1;simp only[Exit.inBlock];split
   ·rename_i he;subst he;have hb:zg id' id'=J:=Nat.beq_refl _;simp only[hb]at h1;exact⟨s',h1,h2⟩
   ·rename_i he;have hb:zg id' id=G:=by
     cases hb:zg id' id with
     |false=>rfl
     |true=>exact dg (y7 hb) he
    simp only[hb]at h1;exact⟨s',h1,h2⟩
  |_=>exact⟨s',h1,h2⟩
 |loop c hc=>exact Ez hc fuel
 |exit i=>exact λr s k a w h hm=>wp_exit ⟨s,h,hm⟩
 |ret=>exact λr s k a w h hm=>wp_ret ⟨s,h,hm⟩
 |_=>exact λr s k a w h hm=>by cases h
def vf(nx:Nat)(ids:aa Nat):∀R:aX,List.Sublist (Kn nx ids R) R
 |[]=> .slnil
 |p::R=>by
  have ih:=vf nx ids R;show List.Sublist (Bool.rec (Bool.rec (Kn nx ids R) (p::Kn nx ids R) (dh p.1 ids)) (p::R) (zy p.1 nx)) (p::R);cases zy p.1 nx with
  |true=>exact List.Sublist.refl _
  |false=>
   cases dh p.1 ids with
   |true=>exact ih.cons_cons p
   |false=>exact ih.cons p
def Yq{s:St}{E:Env}{ρ:Gh}{rv:ResultVar}{d:AV}(h:Vq P s rv=I d)(hh:qN s.E E):CA P (E.sub ρ) (aX.res ρ s.R) rv (d.sub ρ):=by
 unfold Vq at h;split at h
 ·rename_i t;refine .tmp ?_;rw[Env.eF,hh t d h];rfl
 ·rename_i t ty;split at h
  case h_2=>cases h
  rename_i id hp;have hp':Env.get (E.sub ρ) t=I (.lit (.pointer (I ⟨ρ.b id,0,S⟩))):=by
   rw[Env.eF,hh t _ hp,yo,cc.sub]
  split at h
  case h_2=>cases h
  rename_i T cs hr;obtain⟨i,hi,_⟩:=dV hr;have hres:=gC (ρ:=ρ) hi;split at h
  ·rename_i h1;refine .aos i hp' hres (Ah h1) ?_;rw[ya,h];rfl
  ·split at h
   case h_2=>cases h
   rename_i m hm;split at h
   case h_2=>cases h
   rename_i hl;cases h;rw[eC];refine .anR i hp' hres (Ju hm) ?_;rw[zA];exact fM hl
def V0{s:St}{nx:Nat}{rv:ResultVar}{d:AV}(h:Vq P s rv=I d){E:Env}(hh:qN s.E E)(hE:E.cI nx)(hR:aX.cI nx s.R):cI nx d:=by
 unfold Vq at h;split at h
 ·rename_i t;exact hE _ (Env.get_mem (hh t d h))
 ·split at h
  case h_2=>cases h
  split at h
  case h_2=>cases h
  rename_i id _ T cs hr;have hL:=AP hr hR;split at h
  ·exact hL.2 _ (List.mem_of_getElem? h)
  ·split at h
   case h_2=>cases h
   split at h
   case h_2=>cases h
   cases h;exact .agg _ hL.2
def Fp{s:St}{E:Env}{ρ:Gh}(hh:qN s.E E){A:Nat->Prop}{w:World}{tmps:Array Value}(hd:Hd A (aX.res ρ s.R) w)(hs:j7 A w (E.sub ρ) tmps):∀{l:aa ResultVar} {ds:aa AV},DH P s l=I ds->
  ∃us,(l.mapM (ry tmps)).run P w= .ok us w/\bJ A w (ds.map (cc.sub ρ)) us
 |[],ds,h=>by cases h;exact⟨[],rfl,bJ.nil⟩
 |x::l,ds,h=>by
  unfold DH at h;split at h
  case h_2=>cases h
  rename_i d hx;obtain⟨ds',h1,h2⟩:=zk.1 h;subst h2;obtain⟨v,q1,q2⟩:=Yq (ρ:=ρ) hx hh A w tmps hd hs;obtain⟨us,q3,q4⟩:=Fp hh hd hs h1;refine⟨v::us,?_,bJ.cons q2 q4⟩;rw[List.mapM_cons];simp[q1,q3]
def KC{s:St}{nx:Nat}{E:Env}(hh:qN s.E E)(hE:E.cI nx)(hR:aX.cI nx s.R):∀{l:aa ResultVar} {ds:aa AV},DH P s l=I ds->∀d∈ds,cI nx d
 |[],ds,h=>by cases h;simp
 |x::l,ds,h=>by
  unfold DH at h;split at h
  case h_2=>cases h
  rename_i d hx;obtain⟨ds',h1,h2⟩:=zk.1 h;subst h2;intro d' hd';rcases zF.1 hd' with rfl|hd'
  ·exact V0 hx hh hE hR
  ·exact KC hh hE hR h1 d' hd'
def VD{nx:Nat}{ds:aa AV}(h:∀d∈ds,cI nx d):cI nx (fZ ds):=by
 unfold fZ;split
 ·exact h _ (by simp)
 ·exact .iM _ h
def JR{ρ:Gh}{A:Nat->Prop}{w:World}{ds:aa AV}{us:aa Value}(h:bJ A w (ds.map (cc.sub ρ)) us):Rel A w ((fZ ds).sub ρ) (if h:us.toArray.size=1 then us.toArray[0]else .tuple us.toArray):=by
 unfold fZ;split
 ·rename_i d;obtain⟨h1,h2⟩:=h
  match us,h1,h2 with
  |[u],_,h2=>exact h2 0 _ _ rfl rfl
 ·rename_i hn;have hl:us.length=ds.length:=by have:=h.1;simpa using this
  rw[dif_neg (by
   intro e
   match ds,hn with
   |[],_=>rw[y9,hl]at e;cases e
   |[d],hn=>exact hn d rfl
   |_::_::_,_=>rw[y9,hl]at e;simp at e),jI]
  exact Rel.Dz h
def uZ:∀(l:aa AV) (i:Nat) (T:ET) (E:Env),qN T E->(∀t d,cJ T t=I d->t<i)->qN (Jo i l T) (eB i l++E)
 |[],_,_,_,h,_=>h
 |d::l,i,T,E,h,hT=>by
  have h2:∀t d',cJ (k8 i d T) t=I d'->t<i+1:=λt d' ht=>by
   rcases o8 ht with ⟨rfl,_⟩|⟨_,q⟩
   ·omega
   ·have:=hT t d' q;omega
  have:=uZ l (i+1) (k8 i d T) ((i,d)::E) (h.put i d) h2;intro t v ht;have h1:Env.get (eB (i+1) l++(i,d)::E) t=I v:=this t v ht;show Env.get ((i,d)::(eB (i+1) l++E)) t=I v;have key:∀(l:aa AV) (j:Nat),i<j->Env.get (eB j l++(i,d)::E) t=Env.get ((i,d)::(eB j l++E)) t:=λl=>by
   induction l with
   |nil=>intro j _;rfl
   |cons u l ih=>
    intro j hj;show Env.get ((j,u)::(eB (j+1) l++(i,d)::E)) t=Env.get ((i,d)::(j,u)::(eB (j+1) l++E)) t;by_cases h1:j=t
    ·subst h1;rw[Env.eE,Env.dy _ _ (by omega),Env.eE]
    ·rw[Env.dy _ _ h1,ih (j+1) (by omega)];by_cases h2:i=t
     ·subst h2;rw[Env.eE,Env.eE]
     ·rw[Env.dy _ _ h2,Env.dy _ _ h2,Env.dy _ _ h1]
  rw[<-key l (i+1) (zB i)];exact h1
def oc(ρ:Gh):∀(l:aa AV) (i:Nat),(eB i l).sub ρ=eB i (l.map (cc.sub ρ))
 |[],_=>rfl
 |d::l,i=>by show (i,d.sub ρ)::(eB (i+1) l).sub ρ=_;rw[oc ρ l];rfl
def oK:∀{l:aa AV} {i:Nat} {q:Nat×AV},q∈eB i l->q.2∈l
 |d::l,i,q,h=>by
  rcases zF.1 h with rfl|h
  ·exact zm
  ·exact zK _ (oK h)
def VR{xs:aa AV}{fn:Func}{C:Cx}{ρ:Gh}{nx:Nat}{s:St}{a:Act}{w:World}{k:AV->aX->Nat->af α}{e:Exit}(he:e= .normal\/e= .ret)(h:((DH P s fn.results.toList).bind λds=>k (fZ ds) (KP s.R nx (fZ ds) xs) s.nx)=I r)(hm:Mt ⟨C,ρ,nx⟩ n s a w):
  ∃E' σ',rU C n E' σ' a w/\acJ P C n fn (λa s=>∃d R' nx',k d R' nx'=I r/\nx<=nx'/\cI nx' d/\aX.cI nx' R'/\∃ρ',pT nx ρ ρ'/\a=d.sub ρ'/\List.Perm s (aX.res ρ' R')) e E' σ':=by
 obtain⟨E,hh,hE,hR,ρ',⟨hag,hnx⟩,hsim⟩:=hm;obtain⟨ds,h1,h2⟩:=zn.1 h;have hsub:List.Sublist (KP s.R nx (fZ ds) xs) s.R:=vf _ _ _;refine⟨_,_,hsim,UQ (σ':=aX.res ρ' (KP s.R nx (fZ ds) xs)) (av:=(fZ ds).sub ρ') he (hsub.map _) ⟨_,_,_,h2,hnx,VD (KC hh hE hR h1),λq hq=>hR q (hsub.subset hq),ρ',hag,rfl,List.Perm.refl _⟩ λA w' tmps hd hs=> ?_⟩;obtain⟨us,q1,q2⟩:=Fp hh hd hs h1;refine⟨_,?_,JR q2⟩;show (do let vs <-fn.results.mapM (ry tmps);pure (if h:vs.size=1 then vs[0]else .tuple vs):Sem Value).run P w'=_;have e1:fn.results=fn.results.toList.toArray:=by simp
 rw[e1,List.mapM_toArray];simp[q1]
section
variable {β:Type}
def Jg{ops:Array Oper}{o:Oper}{s:St}{y n:St->af α}(D:α->af β):(gate ops o s y n).bind D=gate ops o s (λs=>(y s).bind D) (λs=>(n s).bind D):=by
 unfold gate
 repeat' split
 all_goals first|rfl|simp_all
def R9{o:Op}{s:St}{f:St->af α}(D:α->af β):(wP o s f).bind D=wP o s (λs=>(f s).bind D):=by
 unfold wP
 repeat' split
 all_goals first|rfl|simp_all
def aac(hN:dH F){o:Oper}{ih:St->(St->af α)->af α}{ih':St->(St->af β)->af β}{k:St->af α}{D:α->af β}(hi:∀s k,(ih s k).bind D=ih' s (λs=>(k s).bind D))(s:St):(rDo P F o ih k s).bind D=rDo P F o ih' (λs=>(k s).bind D) s:=by
 unfold rDo;generalize s.jB (hU s.E o.op)=s1;obtain⟨E,R,nx⟩:=s1;show (lU o.op P F (Dv E) (fC R) R nx (FE o.dst E R nx ih k)).bind D=lU o.op P F (Dv E) (fC R) R nx (FE o.dst E R nx ih' λs=>(k s).bind D);rw[vE D hN]
 congr 1
 funext e
 cases e<;>exact hi ..
def qa(hN:dH F){ops:Array Oper}(D:α->af β):∀(l:aa Oper) (s:St) (k:St->af α),(ep P F n ops l s k).bind D=ep P F n ops l s (λs=>(k s).bind D)
 |[],s,k=>rfl
 |o::l,s,k=>by
  show (JX P F n ops o (ep P F n ops l) s k).bind D=JX P F n ops o (ep P F n ops l) s (λs=>(k s).bind D);unfold JX;split
  ·rw[Jg]
   congr 1
   ·funext s1
    obtain⟨E,R,nx⟩:=s1;show (opF o.op P F o.dst E R nx (ep P F n ops l) k).bind D=opF o.op P F o.dst E R nx (ep P F n ops l) (λs=>(k s).bind D);have e1:=Ie P F o ⟨E,R,nx⟩ (ep (α:=α) P F n ops l) k;have e2:=Ie P F o ⟨E,R,nx⟩ (ep (α:=β) P F n ops l) (λs=>(k s).bind D);dsimp only at e1 e2;rw[e1,e2,R9]
    congr 1
    funext s2
    exact aac hN (λs k=>qa hN D l s k) s2
   ·funext s1
    unfold rNo;split<;>exact qa hN D l _ _
  ·rfl
def GM(hN:dH F){ops:Array Oper}{ps:aa (Nat×Nat)}(D:α->af β):∀(l:aa Oper) (cs:aa Rc) (s:St) (k:aa Rc->St->af α),(Ty P F n ops ps l cs s k).bind D=Ty P F n ops ps l cs s (λcs s=>(k cs s).bind D)
 |[],cs,s,k=>rfl
 |o::l,cs,s,k=>by
  show (Tw P F n ops ps o (Ty P F n ops ps l) cs s k).bind D=Tw P F n ops ps o (Ty P F n ops ps l) cs s (λcs s=>(k cs s).bind D);unfold Tw;split
  ·rw[Jg]
   congr 1
   ·funext s1
    obtain⟨E,R,nx⟩:=s1;show (Ea P F o (cM ops o) E (inQ (oS ops o E R) R) nx (dK ops ps o cs (oS ops o E R) E R (inQ (oS ops o E R) R) nx (Ty P F n ops ps l) k)).bind D=Ea P F o (cM ops o) E (inQ (oS ops o E R) R) nx (dK ops ps o cs (oS ops o E R) E R (inQ (oS ops o E R) R) nx (Ty P F n ops ps l) (λcs s=>(k cs s).bind D));rw[<-Ba hN,<-Ba hN,zW]
    congr 1
    funext x
    unfold dK;split
    ·exact GM hN D l _ _ _
    ·rfl
   ·funext s1
    exact GM hN D l _ _ _
  ·rfl
def Tu(hN:dH F)(id:Nat)(ops:Array Oper)(draw:Bool)(D:α->af β)(s:St)(k:fL α):(vY P F n id ops draw s k).bind D=vY P F n id ops draw s (λe s=>(k e s).bind D):=by
 unfold vY;cases draw with
 |false=>exact qa hN D _ _ _
 |true=>
  show (EB P F n ops s (k .normal)).bind D=EB P F n ops s (λs=>(k .normal s).bind D);unfold EB;split
  ·split
   ·rw[GM hN D]
    congr 1
    funext cs s'
    split<;>rfl
   ·rfl
  ·rfl
def SW{c:Operand}{s:St}{x y:St->af α}(D:α->af β):(ot c s x y).bind D=ot c s (λs=>(x s).bind D) (λs=>(y s).bind D):=by
 unfold ot
 repeat' split
 all_goals first|rfl|(unfold Wo;split<;>rfl)|simp_all
def KV{x:St->fL α->af α}{x':St->fL β->af β}{D:α->af β}(hx:∀s k,(x s k).bind D=x' s (λe s=>(k e s).bind D))(k:fL α):∀(m:Nat) (s:St),(Bk x k m s).bind D=Bk x' (λe s=>(k e s).bind D) m s
 |0,s=>rfl
 |m+1,s=>by
  show (x s (JC k (Bk x k m))).bind D=x' s (JC (λe s=>(k e s).bind D) (Bk x' (λe s=>(k e s).bind D) m));rw[hx]
  congr 1
  funext e s'
  cases e<;>first|exact KV hx k m s'|rfl
def XU(hN:dH F)(fuel:Nat)(D:α->af β)(c:Code):∀(s:St) (k:fL α),(exec P F n fuel c s k).bind D=exec P F n fuel c s (λe s=>(k e s).bind D):=by
 induction c with
 |region id ops draw=>exact Tu hN id ops draw D
 |seq x y hx hy=>
  intro s k;show (exec P F n fuel x s (aem (exec P F n fuel y) k)).bind D=exec P F n fuel x s (aem (exec P F n fuel y) (λe s=>(k e s).bind D));rw[hx]
  congr 1
  funext e s'
  cases e<;>first|exact hy s' k|rfl
 |cond c x y hx hy=>
  intro s k;show (ot c s (λs=>exec P F n fuel x s k) (λs=>exec P F n fuel y s k)).bind D=ot c s (λs=>exec P F n fuel x s _) (λs=>exec P F n fuel y s _);rw[SW]
  congr 1
  ·funext s;exact hx s k
  ·funext s;exact hy s k
 |block id x hx=>
  intro s k;show (exec P F n fuel x s (qW id k)).bind D=exec P F n fuel x s (qW id (λe s=>(k e s).bind D));rw[hx]
  congr 1
  funext e s'
  cases e<;>first|rfl|(simp only[qW];split<;>rfl)
 |loop c hc=>exact λs k=>KV hc k fuel s
 |_=>exact λs k=>rfl
def Su(hN:dH F)(fuel:Nat):dH (λα=>nL (α:=α) P F fuel):=λα β f args R nx k D=>by
 show (nL P F fuel f args R nx k).bind D=nL P F fuel f args R nx _;unfold nL;split
 ·split
  ·split
   ·rw[XU hN]
    congr 1
    funext e s
    cases e<;>first|rfl|exact zW ..
   ·rfl
  ·rfl
 ·rfl
def vO{F0:aW}{has:FuncId->Bool}(hN:dH F0)(fuel:Nat):∀m:Nat,dH (jX P F0 has fuel m)
 |0=>hN
 |m+1=>λα β f args R nx k D=>by
  show (match has f with|J=>F0 α f args R nx k|G=>nL P (jX P F0 has fuel m) fuel f args R nx k).bind D=_;show _=(match has f with|J=>F0 β f args R nx _|G=>nL P (jX P F0 has fuel m) fuel f args R nx _);cases has f with
  |true=>exact hN ..
  |false=>exact Su (vO hN fuel m) fuel α β f args R nx k D
end
def Xr(hF:gJ P F)(hN:dH F)(fuel:Nat):gJ P (λα=>nL (α:=α) P F fuel):=λα f args R nx k r h hargs hR=>by
 have h:nL P F fuel f args R nx k=I r:=h;unfold nL at h;split at h
 case h_2=>cases h
 rename_i fn hf;split at h
 case h_2=>cases h
 rename_i c hb;split at h
 case h_2=>cases h
 rename_i hc;rw[zj]at hc;obtain⟨hl,hnm⟩:=hc;refine⟨⟨fn,hf,by simpa using hnm,by rw[hb];rfl⟩,λρ=>Fn.of hf hb rfl (by rw[zA];exact hl) λC a w ha=> ?_⟩;have hm:Mt ⟨C,ρ,nx⟩ fn.ntmps ⟨Jo 0 args .e,R,nx⟩ a w:=by
  refine⟨eB 0 args,?_,λq hq=>hargs _ (oK hq),hR,ρ,⟨.refl _ _,zG _⟩,?_⟩
  ·have:=uZ args 0 .e [] (λt d ht=>by cases t<;>cases ht) (λt d ht=>by cases t<;>cases ht)
   rwa [yp]at this
  ·rw[oc];exact ha
 refine wp_mono (aej hF hN fuel c r _ _ a w h hm) λe a' w' ⟨s',h1,h2⟩=> ?_;cases e with
 |normal=>exact VR (.inl rfl) h1 h2
 |ret=>exact VR (.inr rfl) h1 h2
 |_=>cases h1
def sW{F0:aW}{has:FuncId->Bool}(hF:gJ P F0)(hN:dH F0)(fuel:Nat):∀m:Nat,gJ P (jX P F0 has fuel m)
 |0=>hF
 |m+1=>λα f args R nx k r h hargs hR=>by
  change (match has f with|J=>F0 α f args R nx k|G=>nL P (jX P F0 has fuel m) fuel f args R nx k)=I r at h;split at h
  ·exact hF α f args R nx k r h hargs hR
  ·exact Xr (sW hF hN fuel m) (vO hN fuel m) fuel α f args R nx k r h hargs hR
end
end Go.Iv
end
noncomputable section
namespace Go.Iv
variable [U:qz] [L:mO]
open Go Go.RowKit
def Ya:Nat->AV->Bool
 |_, .lit _=>J
 |n+1, .agg cs=>cs.all (Ya n)
 |n+1, .iM cs=>cs.all (Ya n)
 |_,_=>G
def H7:Nat->AV->Bool
 |_, .lit _=>J
 |_, .sl _ _=>J
 |_, .rp _ _=>J
 |n+1, .agg cs=>cs.all (H7 n)
 |n+1, .iM cs=>cs.all (H7 n)
 |_,_=>G
def l7:∀(n:Nat) {d:AV} {ρ:Gh},H7 n d=J->d.sub ρ=d
 |n,d,ρ,h=>by
  have hL:∀{m:Nat} {cs:aa AV},m<n->cs.all (H7 m)=J->cs.map (cc.sub ρ)=cs:=λ{m cs} hm h=>by
   have:cs.map (cc.sub ρ)=cs.map id:=zZ λc hc=>l7 m (zu.1 h c hc);rw[this,List.map_id]
  cases n with
  |zero=>cases d<;>first|(cases h;done)|simp only[cc.sub]
  |succ n=>
   cases d<;>first|(cases h;done)|(simp only[cc.sub];done)|skip
   ·rw[eC,hL (zB n) h]
   ·rw[jI,hL (zB n) h]
def Uw{R:aX}{ρ:Gh}{A:Nat->Prop}{w:World}{v:Value}{id:Nat}(hd:Hd A (aX.res ρ R) w)(hr:Rel A w ((cc.own (dc:=U.dc) id).sub ρ) v):Rel (λb=>A b\/b∈bF (aX.res ρ R)) w ((match fC R id with
  |some (.row t l)=>cc.sl t l
  |_=> .own id).sub ρ) v:=by
 have base:Rel (λb=>A b\/b∈bF (aX.res ρ R)) w ((cc.own (dc:=U.dc) id).sub ρ) v:=hr.mono λb _ hA=>⟨.inl hA,rfl⟩;split
 ·rename_i t l hg;obtain⟨i,hi,_⟩:=dV hg;have hres:=gC (ρ:=ρ) hi;have hm:=List.mem_of_getElem? hres;rw[dF]at hr;rw[fP];have hd1:Hd A [.row (ρ.v id) t l] w:=⟨λr hr=>by
   rw[zJ]at hr;rw[hr];exact hd.1 _ hm,λb hb=>hd.2 b (by
    obtain⟨r,h1,h2⟩:=bS.1 hb;rw[zJ]at h1;rw[h1]at h2;exact bS.2 ⟨_,hm,h2⟩)⟩
  refine(Vw.row 0 rfl A w v hd1 hr).mono λb _ hA=>⟨hA.imp (λh=>h) λhx=> ?_,rfl⟩;obtain⟨r,h1,h2⟩:=bS.1 hx;rw[zJ]at h1;rw[h1]at h2;exact bS.2 ⟨_,hm,h2⟩
 ·exact base
def cZ:aW:=λ_ _ _ _ _ _=>S
def ako{P:Program}:gJ P cZ:=λ_ _ _ _ _ _ _ h=>by cases h
def BD{β:Type}(e:AV->af β)(d:AV)(R:aX)(_:Nat):af β:=match R with
 |[]=>e d
 |_=>S
def P0{β:Type}(e:AV->af β)(m:β->AV):Prop:=∀d x,e d=I x->d=m x/\H7 2 d=J
def P0.b:P0 DL cc.b:=λd x h=>by
 unfold DL at h;split at h
 ·cases h;exact⟨rfl,rfl⟩
 ·cases h
def VZ{P:Program}{F:aW}(hF:gJ P F){f:FuncId}{args:aa AV}{β:Type}{e:AV->af β}{m:β->AV}{x:β}(he:P0 e m)(hc:args.all (H7 2)=J)(hl:∀d∈args,cI 0 d)(h:F β f args [] 0 (BD e)=I x):tj P f/\Fn P f args [] (λa s=>a=m x/\s=[]):=by
 obtain⟨h1,h2⟩:=hF β f args [] 0 (BD e) x h hl (λq hq=>by cases hq);refine⟨h1,?_⟩;have:=h2 ⟨λ_=>undef,λ_=>0⟩;have ea:args.map (cc.sub ⟨λ_=>undef,λ_=>0⟩)=args:=by
  have:args.map (cc.sub ⟨λ_=>undef,λ_=>0⟩)=args.map id:=zZ λc hcm=>l7 2 (zu.1 hc c hcm);rw[this,List.map_id]
 rw[ea]at this;refine Fn.mono this λa s ⟨d,R',nx',q1,_,_,_,ρ',_,q2,q3⟩=> ?_;unfold BD at q1;split at q1
 ·obtain⟨q4,q5⟩:=he _ _ q1;rw[q2,l7 2 q5,q4];exact⟨rfl,by simpa [aX.res]using q3⟩
 ·cases q1
def rD(d:AV):∀(m:Nat) (T:ET) (k s:Nat),k<2^m-1->cJ (qK d m T k) s=if k=s then I d else cJ T s
 |0,T,k,s,h=>by simp at h
 |m+1,T,k,s,h=>by
  have hp:2^(m+1)=2*2^m:=by rw[Nat.pow_succ];omega
  rw[RB,Ij T s];by_cases hk:k=0
  ·rw[bD hk,mw];subst hk;by_cases hs:s=0
   ·rw[bD hs,bD hs.symm]
   ·have h0:¬(0=s):=λe=>hs e.symm;rw[bL h0,bL hs];split<;>simp_all
  ·rw[bL hk];by_cases hk2:(k-1)%2=0
   ·rw[bD hk2,mw];by_cases hs:s=0
    ·rw[bD hs,bD hs,bL (by omega)]
    ·rw[bL hs,bL hs];by_cases hs2:(s-1)%2=0
     ·rw[bD hs2,bD hs2,rD d m T.l _ _ (by omega)];by_cases hks:k=s
      ·rw[bD hks,bD (by omega)]
      ·rw[bL hks,bL (by omega)]
     ·rw[bL hs2,bL hs2,bL (λe=>hs2 (by rw[<-e];exact hk2))]
   ·rw[bL hk2,mw];by_cases hs:s=0
    ·rw[bD hs,bD hs,bL (by omega)]
    ·rw[bL hs,bL hs];by_cases hs2:(s-1)%2=0
     ·rw[bD hs2,bD hs2,bL (λe=>hk2 (by rw[e];exact hs2))]
     ·rw[bL hs2,bL hs2,rD d m T.r _ _ (by omega)];by_cases hks:k=s
      ·rw[bD hks,bD (by omega)]
      ·rw[bL hks,bL (by omega)]
def uq{t s:Nat}{d:AV}{T:ET}(h:t<4095):cJ (k8 t d T) s=if t=s then I d else cJ T s:=rD d 12 T t s h
def bC(F:aW)(f:FuncId):Prop:=∀args R nx d R' nx',F (AV×aX×Nat) f args R nx (λd R nx=>I (d,R,nx))=I (d,R',nx')->R'=R
def Kx(fs:aa Nat):Op->Bool
 | .move _=>J
 | .assign _=>J
 | .pick c _ _=>match c with
  | .tmp t=>zy t 4095
  |_=>J
 | .binOp _ _ _ _ _=>J
 | .unOp _ _ _=>J
 | .fieldAddr _ _ _=>J
 | .indexAddr _ _ _=>J
 | .index _ _ _=>J
 | .load _ _=>J
 | .nilCheck _=>J
 | .convert _ _ _=>J
 | .extract _ _=>J
 | .call c=>match c.callee with
  | .value (.func f)=>dh f fs&& !L.fz f
  | .builtin .len=>J
  | .builtin .max=>J
  | .builtin .min=>J
  |_=>G
 |_=>G
def Em:af Nat->Bool
 |some t=>zy t 4095
 |none=>J
section
variable {P:Program} {F:aW} {n:Nat} {fs:aa Nat}
def TS{E:ET}{o:Op}(h:Kx fs o=J):hU E o=[]:=by
 cases o<;>first|rfl|(cases h;done)|skip
 case call c=>
  unfold Kx at h;unfold hU;dsimp only at h ⊢;split at h
  ·rename_i f hf;rw[zj,Bool.not_eq_true']at h;rw[hf];dsimp only;rw[h.2]
  ·rename_i hc;rw[hc]
  ·rename_i hc;rw[hc]
  ·rename_i hc;rw[hc]
  ·cases h
def nr{g:(K:AV->af fB)->af fB}{g0:af AV}{e:fB}(hg:g (λd=>I (.val d))=g0.bind λd=>I (.val d))(h:g (dw I)=I e):∃d,e= .val d:=by
 have h:g (λd=>I (.val d))=I e:=h;rw[hg]at h;obtain⟨d,_,h2⟩:=zn.1 h;cases h2;exact⟨d,rfl⟩
def R3(hN:dH F)(hp:∀f∈fs,bC F f){o:Op}{E:ET}{rd:Nat->af IR}{R:aX}{nx:Nat}{e:fB}(ho:Kx fs o=J)(h:lU o P F (Dv E) rd R nx I=I e):∃d nx',e= .all d R nx'\/e= .val d:=by
 have fin:(∃d,e= .val d)->∃d nx',e=fB.all d R nx'\/e= .val d:=λ⟨d,h⟩=>⟨d,0, .inr h⟩;have fb:∀{x:af AV},x.bind (dw I)=I e->∃d,e= .val d:=λ{x} h=>by
  obtain⟨d,_,h2⟩:=zn.1 h;cases h2;exact⟨d,rfl⟩
 cases o<;>first|(cases ho;done)|exact fin (fb h)|skip
 case pick c a b=>
  have h:tV c a b P F (Dv E) rd R nx I=I e:=h;unfold tV at h;split at h
  ·exact fin (fb h)
  ·exact fin (fb h)
  ·cases h
 case binOp b T x y t=>exact fin (nr (II (K:=I) (λd=>I (fB.val d))).symm h)
 case unOp b T x=>exact fin (nr (Qa (K:=I) (λd=>I (fB.val d))).symm h)
 case fieldAddr T x i=>exact fin (nr (IC (K:=I) (λd=>I (fB.val d))).symm h)
 case indexAddr T x y=>exact fin (nr (K7 (K:=I) (λd=>I (fB.val d))).symm h)
 case index T x y=>exact fin (nr (JJ (K:=I) (λd=>I (fB.val d))).symm h)
 case load T x=>exact fin (nr (Pa (K:=I) (λd=>I (fB.val d))).symm h)
 case nilCheck x=>exact fin (nr (IM (K:=I) (λd=>I (fB.val d))).symm h)
 case convert T T' x=>exact fin (nr (J8 (K:=I) (λd=>I (fB.val d))).symm h)
 case extract x i=>exact fin (nr (ID (K:=I) (λd=>I (fB.val d))).symm h)
 case call c=>
  have h:AU c P F (Dv E) rd R nx I=I e:=h;unfold AU at h;unfold Kx at ho;dsimp only at ho;split at ho
  ·rename_i f hf;rw[hf]at h;rw[zj]at ho;have h:FO F (Dv E) R nx (I (.fn (.func f) [])) c.args.toList I=I e:=h;unfold FO at h;dsimp only at h;obtain⟨xs,_,h2⟩:=zn.1 h;have h3:=hN (AV×aX×Nat) fB f (xs++[]) R nx (λd R nx=>I (d,R,nx)) (λx=>I (.all x.1 x.2.1 x.2.2));have h3':(F (AV×aX×Nat) f (xs++[]) R nx (λd R nx=>I (d,R,nx))).bind (λx=>I (.all x.1 x.2.1 x.2.2))=I e:=h3.trans h2;obtain⟨⟨d,R',nx'⟩,h4,h5⟩:=zn.1 h3';have h6:=hp f (fk.1 ho.1) _ _ _ _ _ _ h4;subst h6;cases h5;exact⟨d,nx', .inl rfl⟩
  ·rename_i hc;rw[hc]at h;have h:vW .len c.args c.argTypes P (Dv E) rd R nx I=I e:=h;unfold vW at h;dsimp only at h;split at h
   ·exact fin (nr (JM (K:=I) (λd=>I (fB.val d))).symm h)
   ·cases h
  ·rename_i hc;rw[hc]at h;have h:vW .max c.args c.argTypes P (Dv E) rd R nx I=I e:=h;unfold vW at h;dsimp only at h;split at h
   ·exact fin (nr (Am (K:=I) (λd=>I (fB.val d))).symm h)
   ·cases h
  ·rename_i hc;rw[hc]at h;have h:vW .min c.args c.argTypes P (Dv E) rd R nx I=I e:=h;unfold vW at h;dsimp only at h;split at h
   ·exact fin (nr (Am (K:=I) (λd=>I (fB.val d))).symm h)
   ·cases h
  ·cases ho
def TX(l:aa Oper)(s s0:St):Prop:=s0.R=s.R/\∀u d,(∀o∈l,o.dst≠I u)->cJ s.E u=I d->cJ s0.E u=I d
def me{s:St}{t:Nat}{b:Bool}(ht:t<4095)(h:cJ s.E t=I (.lit (.bool b))){u:Nat}{d:AV}(hu:cJ s.E u=I d):cJ (s.fy t b).E u=I d:=by
 show cJ (k8 t (.b b) s.E) u=_;rw[uq ht];split
 ·rename_i e;subst e;rw[h]at hu;exact hu
 ·exact hu
def Dm(hN:dH F)(hp:∀f∈fs,bC F f){ops:Array Oper}(hops:∀o∈ops.toList,Em o.dst=J):∀(l:aa Oper) {s s0:St},(∀o∈l,Kx fs o.op=J/\Em o.dst=J)->ep P F n ops l s I=I s0->TX l s s0
 |[],s,s0,_,h=>by cases h;exact⟨rfl,λu d _ hu=>hu⟩
 |o::l,s,s0,hl,h=>by
  have ho:=hl o zm;have hl':=λo' h'=>hl o' (zK _ h');change JX P F n ops o (ep P F n ops l) s I=I s0 at h;unfold JX at h;split at h
  case h_2=>cases h
  have putG:∀{s2:St} {d:AV} {nx':Nat},ep P F n ops l ⟨qx o.dst d s2.E,s2.R,nx'⟩ I=I s0->s2.R=s.R->(∀u d,cJ s.E u=I d->cJ s2.E u=I d)->TX (o::l) s s0:=λ{s2 d nx'} h1 h2 h3=>by
   obtain⟨q1,q2⟩:=Dm hN hp hops l hl' h1;refine⟨q1.trans h2,λu d' hu hd=>q2 u d' (λo' h'=>hu o' (zK _ h')) ?_⟩;show cJ (qx o.dst d s2.E) u=I d';have hne:=hu o zm;have hod:=ho.2;unfold qx;split
   ·exact h3 u d' hd
   ·rename_i t ht;rw[ht]at hod hne;rw[uq (by simpa [Em]using hod),bL (λe=>hne (by rw[e]))];exact h3 u d' hd
  have yes:∀s1:St,at2 P F o (ep P F n ops l) I s1=I s0->s1.R=s.R->(∀u d,cJ s.E u=I d->cJ s1.E u=I d)->TX (o::l) s s0:=λs1 h1 h2 h3=>by
   obtain⟨E1,R1,nx1⟩:=s1;have h1:opF o.op P F o.dst E1 R1 nx1 (ep P F n ops l) I=I s0:=h1;have e1:=Ie P F o ⟨E1,R1,nx1⟩ (ep (α:=St) P F n ops l) I;dsimp only at e1;rw[e1]at h1;have go:∀s2:St,rDo P F o (ep P F n ops l) I s2=I s0->s2.R=s.R->(∀u d,cJ s.E u=I d->cJ s2.E u=I d)->TX (o::l) s s0:=λs2 g1 g2 g3=>by
    unfold rDo at g1;rw[TS ho.1]at g1;obtain⟨E2,R2,nx2⟩:=s2;have g1:lU o.op P F (Dv E2) (fC R2) R2 nx2 (FE o.dst E2 R2 nx2 (ep P F n ops l) I)=I s0:=g1;have g4:(lU o.op P F (Dv E2) (fC R2) R2 nx2 I).bind (FE o.dst E2 R2 nx2 (ep P F n ops l) I)=I s0:=(vE _ hN ..).trans g1;obtain⟨e,g5,g6⟩:=zn.1 g4;obtain⟨d,nx',he⟩:=R3 hN hp ho.1 g5;rcases he with he|he
    ·subst he;exact putG (s2:=⟨E2,R2,nx2⟩) g6 g2 g3
    ·subst he;exact putG (s2:=⟨E2,R2,nx2⟩) g6 g2 g3
   unfold wP at h1;split at h1
   ·rename_i t a b hop;have ht:t<4095:=by
     have:=ho.1;rw[hop]at this;simpa [Kx,yt]using this
    split at h1
    ·rename_i b hb;split at h1
     ·exact go _ h1 h2 λu d hu=>me (s:=⟨E1,R1,nx1⟩) ht hb (h3 u d hu)
     ·exact go _ h1 h2 λu d hu=>me (s:=⟨E1,R1,nx1⟩) ht hb (h3 u d hu)
    ·cases h1
   ·exact go _ h1 h2 h3
  have no:∀s1:St,rNo o.dst (ep P F n ops l) I s1=I s0->s1.R=s.R->(∀u d,cJ s.E u=I d->cJ s1.E u=I d)->TX (o::l) s s0:=λs1 h1 h2 h3=>by
   have:rNo o.dst (ep P F n ops l) I s1=ep P F n ops l ⟨qx o.dst (.lit undef) s1.E,s1.R,s1.nx⟩ I:=by
    unfold rNo qx;cases o.dst<;>rfl
   rw[this]at h1;exact putG (s2:=s1) h1 h2 h3
  unfold gate at h;split at h
  ·exact yes s h rfl λ_ _ h=>h
  ·rename_i j want hg;split at h
   ·cases h
   ·rename_i t hj;have ht:t<4095:=by
     obtain⟨o',ho',hd'⟩:=zn.1 hj;have hm:o'∈ops.toList:=Array.mem_toList_iff.2 (Array.mem_of_getElem? ho');have:=hops o' hm;rw[hd']at this;simpa [Em,yt]using this
    split at h
    ·rename_i b hb;split at h
     ·split at h
      ·exact yes _ h rfl λu d hu=>me ht hb hu
      ·exact no _ h rfl λu d hu=>me ht hb hu
     ·split at h
      ·exact no _ h rfl λu d hu=>me ht hb hu
      ·exact yes _ h rfl λu d hu=>me ht hb hu
    ·exact no _ h rfl λ_ _ h=>h
    ·cases h
def auc(fs:aa Nat)(t:Nat)(E:ET)(ops:aa Oper):Bool:=zy t 4095&&ops.all λo=>Kx fs o.op&&Em o.dst&&match o.dst with
 |some u=>zg u t||match cJ E u with
  |none=>J
  |some _=>G
 |none=>J
def rbK(t:Nat)(s:St):af Bool:=match cJ s.E t with
 |some (.lit (.bool b))=>I b
 |_=>S
def N8{α:Type}(P:Program)(F:aW)(n:Nat)(fs:aa Nat)(t:Nat)(ops:Array Oper)(s:St)(k:fL α):af α:=match auc fs t s.E ops.toList with
 |true=>match ep (α:=Bool) P F n ops ops.toList s (rbK t)with
  |some b=>k .normal ⟨k8 t (.b b) s.E,s.R,s.nx⟩
  |none=>S
 |false=>S
def Env.qX{T:ET}:∀(E:Env) (u:Nat) (d:AV),Env.get (E.filter λp=>@O (cJ T p.1=I p.2) (Classical.propDecidable _)) u=I d->cJ T u=I d
 |[],_,_,h=>by cases h
 |(k,v)::E,u,d,h=>by
  by_cases hk:cJ T k=I v
  ·rw[yY,bD (by simp[hk])]at h;by_cases hku:k=u
   ·subst hku;rw[Env.eE]at h;cases h;exact hk
   ·rw[Env.dy _ _ hku]at h;exact Env.qX E u d h
  ·rw[yY,bL (by simp[hk])]at h;exact Env.qX E u d h
def Env.oV{T:ET}:∀(E:Env) (u:Nat) (d:AV),cJ T u=I d->E.get u=I d->Env.get (E.filter λp=>@O (cJ T p.1=I p.2) (Classical.propDecidable _)) u=I d
 |[],_,_,_,h=>by cases h
 |(k,v)::E,u,d,ht,h=>by
  by_cases hku:k=u
  ·subst hku;rw[Env.eE]at h;cases h;rw[yY,bD (by simp[ht])];exact Env.eE _ _ _
  ·rw[Env.dy _ _ hku]at h;rw[yY];split
   ·rw[Env.dy _ _ hku];exact Env.oV E u d ht h
   ·exact Env.oV E u d ht h
def S9{α:Type}{C:Cg}(hF:gJ P F)(hN:dH F)(hp:∀f∈fs,bC F f)(id t:Nat)(ops:Array Oper):RT (α:=α) P C n (.region id ops G) (N8 P F n fs t ops):=λr s k a w h hm=>by
 unfold N8 at h;split at h
 case h_2=>cases h
 rename_i hrb;split at h
 case h_2=>cases h
 rename_i b hb;unfold auc at hrb;rw[zj,yt]at hrb;obtain⟨ht,hall⟩:=hrb;have hall:∀o∈ops.toList,(Kx fs o.op=J/\Em o.dst=J)/\∀u,o.dst=I u->u=t\/cJ s.E u=S:=λo ho=>by
  have h1:=zu.1 hall o ho;rw[zj,zj]at h1;refine⟨h1.1,λu hu=> ?_⟩;have h2:=h1.2;rw[hu]at h2;dsimp only at h2;rw[yL]at h2;rcases h2 with h2|h2
  ·exact .inl (fM h2)
  ·right;split at h2
   ·assumption
   ·cases h2
 have hnat:=qa hN (P:=P) (n:=n) (ops:=ops) (rbK t) ops.toList s I;have hb':(ep P F n ops ops.toList s I).bind (rbK t)=I b:=hnat.trans hb;obtain⟨s0,h1,h2⟩:=zn.1 hb';obtain⟨q1,q2⟩:=Dm hN hp (λo ho=>(hall o ho).1.2) ops.toList (λo ho=>(hall o ho).1) h1;have hend:Ends P C n (.region id ops G) (λe s'=>match e with
  | .normal=>I s'
  |_=>S) s0 a w:=by
  refine wp_mono (wp_region_lit (AS hF _ h1 hm)) λe a' w' ⟨he,_,s',h3,h4⟩=> ?_;subst he;exact⟨s',h3,h4⟩
 refine wp_mono hend λe a' w' ⟨s',h3,h4⟩=> ?_;cases e<;>first|(cases h3;done)|skip
 have h3:I s'=I s0:=h3;cases h3;refine⟨_,h,?_⟩;have hbt:cJ s0.E t=I (.b b):=by
  unfold rbK at h2;split at h2
  ·rename_i b' hb';cases h2;exact hb'
  ·cases h2
 obtain⟨E,hh,hE,hR,ρ,hag,hsim⟩:=hm;obtain⟨E0,hh0,hE0,hR0,ρ0,hag0,hsim0⟩:=h4
 let E1:Env:=(t, .b b)::E.filter λp=>@O (cJ s.E p.1=I p.2) (Classical.propDecidable _)
 have hkey:∀u d,E1.get u=I d->cJ s0.E u=I d:=λu d hu=>by
  by_cases htu:t=u
  ·subst htu;rw[Env.eE]at hu;cases hu;exact hbt
  ·rw[Env.dy _ _ htu]at hu;have h5:=Env.qX E u d hu;refine q2 u d (λo ho hd=> ?_) h5;rcases (hall o ho).2 u hd with h6|h6
   ·exact htu h6.symm
   ·rw[h5]at h6;cases h6
 refine⟨E1,λu d hu=> ?_,Env.tJ (λp hp=>hE p (z8.1 hp).1) (.lit _),hR,ρ0,⟨hag0.1,hag.2⟩,?_⟩
 ·have hu:cJ (k8 t (.b b) s.E) u=I d:=hu;rw[uq ht]at hu;split at hu
  ·rename_i e;rw[<-e,<-zD.inj hu];exact Env.eE _ _ _
  ·rename_i e;show Env.get ((t,_)::_) u=_;rw[Env.dy _ _ e];exact Env.oV E u d hu (hh u d hu)
 ·rw[q1]at hsim0;refine⟨hsim0.defers,hsim0.size,λu av hu=> ?_,hsim0.good⟩;rw[Env.eF]at hu;obtain⟨d,hd,rfl⟩:=zk.1 hu;exact hsim0.slots u _ (by rw[Env.eF,hh0 u d (hkey u d hd)];rfl)
end
inductive An:Type 1
 |no
 |two (l r:An)
 |lp (γ:Type) (rd:St->Option γ) (pat:γ->St) (Ef:γ->Option γ) (body:An)
 |jn (γ:Type) (rd:St->Option γ) (pat:γ->St) (l r:An)
 |rb (fs:List Nat) (t:Nat)
def An.l:An->An
 | .two l _=>l
 | .jn _ _ _ l _=>l
 |_=> .no
def An.r:An->An
 | .two _ r=>r
 | .jn _ _ _ _ r=>r
 |_=> .no
abbrev noTwo(a:An):An:= .two .no a
abbrev XT:=An->(α:Type)->St->fL α->af α
def axO{γ:Type}(b:Bool)(p q:γ):γ:=match b with
 |true=>p
 |false=>q
def X8{γ:Type}(rd:St->af γ):fL (af γ):=λe s=>match e with
 | .normal=>(rd s).map I
 |_=>I S
def aje{γ:Type}(rd:St->af γ):fL γ:=λe s=>match e with
 | .normal=>rd s
 |_=>S
def Vj{γ α:Type}(rd:St->af γ)(pat:γ->St)(c:Operand)(s:St)(x y:(α:Type)->St->fL α->af α)(k:fL α):af α:=match c with
 | .tmp t=>match cJ s.E t with
  |some (.lit (.bool b))=>match x γ (s.fy t J) (aje rd)with
   |some p=>match y γ (s.fy t G) (aje rd)with
    |some q=>k .normal (pat (axO b p q))
    |none=>S
   |none=>S
  |_=>S
 |_=>S
def apO(P:Program)(F:aW)(n:Nat)(id:Nat)(ops:Array Oper)(draw:Bool):XT:=λan _ s k=>match an with
 | .rb fs t=>match draw with
  |false=>N8 P F n fs t ops s k
  |true=>vY P F n id ops J s k
 |_=>vY P F n id ops draw s k
def aoE(x y:XT):XT:=λan α s k=>x an.l α s (aem (y an.r α) k)
def amV(c:Operand)(x y:XT):XT:=λan α s k=>match an with
 | .jn _ rd pat l r=>Vj rd pat c s (x l) (y r) k
 |an=>ot c s (λs=>x an.l α s k) (λs=>y an.r α s k)
def abM(id:Nat)(x:XT):XT:=λan α s k=>x an α s (qW id k)
def amR(fuel:Nat)(x:XT):XT:=λan α s k=>match an with
 | .lp _ rd pat Ef b=>match rd s with
  |some p=>match Ef p with
   |some q=>x b α (pat q) (JC k λ_=>S)
   |none=>S
  |none=>S
 |an=>Bk (x an α) k fuel s
def iO(P:Program)(F:aW)(n:Nat)(fuel:Nat)(c:Code):XT:=
 Code.rec (λ_ _ s k=>Ub s k) (apO P F n) (λ_ _=>aoE) (λc _ _=>amV c) (λid _=>abM id) (λ_=>amR fuel) (λ_ _ _ _ _ _ _ _ s k=>DA s k) (λi _ _ s k=>WJ i s k) (λ_ _ _ _ s k=>DA s k) (λ_ _ _ s k=>DA s k) (λ_ _ _ s k=>DA s k) (λ_ _ s k=>agB s k) (λ_ _ _ s k=>DA s k) c
def qk{γ:Type}(n0 n:Nat)(rd:St->af γ)(pat:γ->St):Prop:=∀(C:Cg) s p a w,C.n=n0->rd s=I p->Mt C n s a w->Mt C n (pat p) a w
def Pv{γ:Type}(x:XT)(rd:St->af γ)(pat:γ->St)(b:An):Nat->γ->γ->Prop
 |0,p,q=>p=q
 |n+1,p,q=>∃p',x b (af γ) (pat p) (X8 rd)=I (I p')/\Pv x rd pat b n p' q
def PI{γ:Type}(x:XT)(rd:St->af γ)(pat:γ->St)(Ef:γ->af γ)(b:An):Prop:=
 ∀p q,Ef p=I q->∃n,Pv x rd pat b n p q
def KH(P:Program)(F:aW)(n0 n:Nat)(fuel:Nat)(c:Code):An->Prop:=
 Code.rec (λ_=>True) (λ_ _ _ an=>match an with
  | .rb fs _=>∀f∈fs,bC F f
  |_=>True) (λ_ _ x y an=>x an.l/\y an.r) (λ_ _ _ x y an=>(∀γ rd pat l r,an= .jn γ rd pat l r->qk n0 n rd pat)/\x an.l/\y an.r) (λ_ _ x=>x)
  (λc x an=>match an with
   | .lp _ rd pat Ef b=>qk n0 n rd pat/\PI (iO P F n fuel c) rd pat Ef b/\x b
   |an=>x an) (λ_ _ _ _ _ _ _=>True) (λ_ _=>True) (λ_ _ _=>True) (λ_ _=>True) (λ_ _=>True) (λ_=>True) (λ_ _=>True) c
section
variable {P:Program} {F:aW} {C:Cg} {n0 n:Nat}
def WA(hF:gJ P F)(hN:dH F)(hC:C.n=n0)(fuel:Nat)(c:Code):∀an,KH P F n0 n fuel c an->∀(α:Type),RT (α:=α) P C n c (iO P F n fuel c an α):=by
 induction c with
 |skip=>exact λan _ α r s k a w h hm=>wp_skip ⟨s,h,hm⟩
 |region id ops draw=>
  intro an ho α;cases an with
  |rb fs t=>
   cases draw with
   |false=>exact S9 hF hN ho id t ops
   |true=>exact Cy hF hN id ops J
  |_=>exact Cy hF hN id ops draw
 |seq x y hx hy=>
  intro an ho α r s k a w h hm;obtain⟨h1,h2⟩:KH P F n0 n fuel x an.l/\KH P F n0 n fuel y an.r:=ho;refine wp_seq (wp_mono (hx an.l h1 α r s _ a w h hm) λe a' w' ⟨s',g1,g2⟩=> ?_);cases e with
  |normal=>exact hy an.r h2 α r s' k a' w' g1 g2
  |_=>exact⟨s',g1,g2⟩
 |cond c x y hx hy=>
  intro an ho α r s k a w h hm;obtain⟨h0,h1,h2⟩:(∀γ rd pat l r,an= .jn γ rd pat l r->qk n0 n rd pat)/\KH P F n0 n fuel x an.l/\KH P F n0 n fuel y an.r:=ho;have plain:ot c s (λs=>iO P F n fuel x an.l α s k) (λs=>iO P F n fuel y an.r α s k)=I r->Ends P C n (.cond c x y) k r a w:=λh=>by
   obtain⟨b,s',he,hm',h'⟩:=JO h hm;cases b with
   |true=>exact wp_cond_true he (hx an.l h1 α r s' k a w h' hm')
   |false=>exact wp_cond_false he (hy an.r h2 α r s' k a w h' hm')
  cases an with
  |jn γ rd pat l r'=>
   have hrd:=h0 γ rd pat l r' rfl;change Vj rd pat c s (iO P F n fuel x l) (iO P F n fuel y r') k=I r at h;unfold Vj at h;split at h
   case h_2=>cases h
   rename_i t;split at h
   case h_2=>cases h
   rename_i b hb;split at h
   case h_2=>cases h
   rename_i p hp;split at h
   case h_2=>cases h
   rename_i q hq;have hev:a.eval (.tmp t)= .bool b:=by
    obtain⟨E,hh,_,_,ρ,_,hs⟩:=hm;refine Ql hs ?_;have g1:=hh t _ hb;show Env.get (E.sub ρ) t=_;rw[Env.eF,g1,yo,bR]
   have fin:∀(p:γ),k .normal (pat p)=I r->∀e a' w',(∃s',aje rd e s'=I p/\Mt C n s' a' w')->∃s',k e s'=I r/\Mt C n s' a' w':=λp hk e a' w' ⟨s',g1,g2⟩=>by
    cases e with
    |normal=>exact⟨_,hk,hrd C s' p a' w' hC g1 g2⟩
    |_=>cases g1
   cases b with
   |true=>exact wp_cond_true hev (wp_mono (hx l h1 γ p _ _ a w hp (hm.fy hb)) (fin p h))
   |false=>exact wp_cond_false hev (wp_mono (hy r' h2 γ q _ _ a w hq (hm.fy hb)) (fin q h))
  |_=>exact plain h
 |block id x hx=>
  intro an ho α r s k a w h hm;refine wp_block (wp_mono (hx an ho α r s _ a w h hm) λe a' w' ⟨s',h1,h2⟩=> ?_);cases e with
  |exit id'=>
   simp only[qW]at h1;simp only[Exit.inBlock];split
   ·rename_i he;subst he;have hb:zg id' id'=J:=Nat.beq_refl _;simp only[hb]at h1;exact⟨s',h1,h2⟩
   ·rename_i he;have hb:zg id' id=G:=by
     cases hb:zg id' id with
     |false=>rfl
     |true=>exact dg (y7 hb) he
    simp only[hb]at h1;exact⟨s',h1,h2⟩
  |_=>exact⟨s',h1,h2⟩
 |loop c hc=>
  intro an ho α r s k a w h hm;cases an with
  |lp γ rd pat Ef b=>
   obtain⟨hrd,hadv,hb⟩:qk n0 n rd pat/\PI (iO P F n fuel c) rd pat Ef b/\KH P F n0 n fuel c b:=ho;change (match rd s with
    |some p=>match Ef p with
     |some q=>iO P F n fuel c b α (pat q) (JC k λ_=>S)
     |none=>S
    |none=>S)=I r at h
   split at h
   case h_2=>cases h
   rename_i p hp;split at h
   case h_2=>cases h
   rename_i q hq;obtain⟨m,hgo⟩:=hadv p q hq;have key:∀(m:Nat) (p:γ),Pv (iO P F n fuel c) rd pat b m p q->∀(a:Act) (w:World),Mt C n (pat p) a w->
     c.wp P (Exit.then (InL P c λe a' w'=>∃s',k e s'=I r/\Mt C n s' a' w') λe a' w'=>∃s',k e s'=I r/\Mt C n s' a' w') a w:=by
    intro m;induction m with
    |zero=>
     intro p hg a w hm;have hg:p=q:=hg;subst hg;refine wp_mono (hc b hb α r _ _ a w h hm) λe a' w' ⟨s',q1,q2⟩=> ?_;cases e with
     |normal=>cases q1
     |_=>exact⟨s',q1,q2⟩
    |succ m ih=>
     intro p hg a w hm;obtain⟨p',g1,g3⟩:=hg;refine wp_mono (hc b hb (af γ) (I p') _ _ a w g1 hm) λe a' w' ⟨s',q1,q2⟩=> ?_;cases e with
     |normal=>
      obtain⟨p'',q3,q4⟩:=zk.1 (show (rd s').map I=I (I p')from q1);cases q4;exact JK (ih p' g3 a' w' (hrd C s' p' a' w' hC q3 q2))
     |_=>cases q1
   exact DM (key m p hgo a w (hrd C s p a w hC hp hm))
  |_=>exact Ez (hc _ ho α) fuel r s k a w h hm
 |exit i=>exact λan _ α r s k a w h hm=>wp_exit ⟨s,h,hm⟩
 |ret=>exact λan _ α r s k a w h hm=>wp_ret ⟨s,h,hm⟩
 |_=>exact λan _ α r s k a w h hm=>by cases h
def bQ(P:Program)(F:aW)(fuel:Nat)(an:An){α:Type}(f:FuncId)(args:aa AV)(R:aX)(nx:Nat)(k:St->af α):af α:=match P.funcs[f]? with
 |some fn=>match fn.body with
  |some c=>match ye args.length fn.ntmps&& !(fn.name=="runtime.NumGoroutine")with
   |true=>iO P F fn.ntmps fuel c an α ⟨Jo 0 args .e,R,nx⟩ λe s=>match e with
    | .normal=>k s
    | .ret=>k s
    |_=>S
   |false=>S
  |none=>S
 |none=>S
def dB(P:Program)(F:aW)(n0:Nat)(fuel:Nat)(f:FuncId)(an:An):Prop:=∀fn c,P.funcs[f]? =I fn->fn.body=I c->KH P F n0 fn.ntmps fuel c an
def CX(P:Program)(f:FuncId)(s:St):af (aa AV):=match P.funcs[f]? with
 |some fn=>DH P s fn.results.toList
 |none=>S
structure Out where
 d:AV
 R:aX
 c:Nat
def Tx(P:Program)(f:FuncId)(args:aa AV)(R0:aX)(n0:Nat)(x:Out):Prop:=∀ρ:Gh,Fn P f (args.map (cc.sub ρ)) (aX.res ρ R0) (λa s=>∃ρ':Gh,pT n0 ρ ρ'/\a=x.d.sub ρ'/\List.Perm s (aX.res ρ' x.R))
def kW(hF:aV P F){n0 fuel:Nat}{f:FuncId}{an:An}(han:dB P F n0 fuel f an){args:aa AV}{R0:aX}{γ:Type}{rd:St->af γ}{pat:γ->St}{out:γ->Out}{p:γ}
  (hrd:∀n,qk n0 n rd pat) (ho:∀p,(match CX P f (pat p)with
   |some ds=>I (Out.mk (fZ ds) (B7 (pat p).R n0 (fZ ds)) (pat p).nx)
   |none=>S)=I (out p))
  (hargs:∀d∈args,cI n0 d) (hR:aX.cI n0 R0) (h:bQ P F fuel an f args R0 n0 rd=I p):tj P f/\Tx P f args R0 n0 (out p):=by
 unfold bQ at h;split at h
 case h_2=>cases h
 rename_i fn hf;split at h
 case h_2=>cases h
 rename_i c hb;split at h
 case h_2=>cases h
 rename_i hc;rw[zj]at hc;obtain⟨hl,hnm⟩:=hc;have hop:=ho p;split at hop
 case h_2=>cases hop
 rename_i ds hds;have hds:DH P (pat p) fn.results.toList=I ds:=by
  unfold CX at hds;rw[hf]at hds;exact hds
 have hop:=zD.inj hop;refine⟨⟨fn,hf,by simpa using hnm,by rw[hb];rfl⟩,λρ=>Fn.of hf hb rfl (by rw[zA];exact hl) λC a w ha=> ?_⟩;have hm:Mt ⟨C,ρ,n0⟩ fn.ntmps ⟨Jo 0 args .e,R0,n0⟩ a w:=by
  refine⟨eB 0 args,?_,λq hq=>hargs _ (oK hq),hR,ρ,⟨.refl _ _,zG _⟩,?_⟩
  ·have:=uZ args 0 .e [] (λt d ht=>by cases t<;>cases ht) (λt d ht=>by cases t<;>cases ht)
   rwa [yp]at this
  ·rw[oc];exact ha
 refine wp_mono (WA (C:=⟨C,ρ,n0⟩) hF.ok hF.nat rfl fuel c an (han fn c hf hb) γ p _ _ a w h hm) λe a' w' ⟨s',h1,h2⟩=> ?_;have fin:∀e:Exit,(e= .normal\/e= .ret)->rd s'=I p->∃E' σ',rU C fn.ntmps E' σ' a' w'/\acJ P C fn.ntmps fn (λa s=>∃ρ':Gh,pT n0 ρ ρ'/\a=(out p).d.sub ρ'/\List.Perm s (aX.res ρ' (out p).R)) e E' σ':=λe he hp=>by
  have hm':=hrd fn.ntmps ⟨C,ρ,n0⟩ s' p a' w' rfl hp h2;obtain⟨E,hh,hE,hR,ρ',⟨hag,hnx⟩,hsim⟩:=hm';have hsub:List.Sublist (B7 (pat p).R n0 (fZ ds)) (pat p).R:=vf _ _ _;refine⟨_,_,hsim,UQ (σ':=aX.res ρ' (B7 (pat p).R n0 (fZ ds))) (av:=(fZ ds).sub ρ') he (hsub.map _) ⟨ρ',hag,by rw[<-hop],by rw[<-hop]⟩ λA w' tmps hd hs=> ?_⟩;obtain⟨us,q1,q2⟩:=Fp hh hd hs hds;refine⟨_,?_,JR q2⟩;show (do let vs <-fn.results.mapM (ry tmps);pure (if h:vs.size=1 then vs[0]else .tuple vs):Sem Value).run P w'=_;have e1:fn.results=fn.results.toList.toArray:=by simp
  rw[e1,List.mapM_toArray];simp[q1]
 cases e with
 |normal=>exact fin _ (.inl rfl) h1
 |ret=>exact fin _ (.inr rfl) h1
 |_=>cases h1
end
section
variable {γ:Type} (rnd:γ->af (af γ))
def kF:Nat->γ->γ->Prop
 |0,p,q=>p=q/\∀r,rnd p≠I (I r)
 |n+1,p,q=>∃p',rnd p=I (I p')/\kF n p' q
open Classical in
def bG(p:γ):af γ:=if h:∃q n,kF rnd n p q then I (Classical.choose h)else S
variable {rnd}
def kF.det:∀{n m:Nat} {p q q':γ},kF rnd n p q->kF rnd m p q'->n=m/\q=q'
 |0,0,p,q,q',⟨h1,_⟩,⟨h2,_⟩=>⟨rfl,h1▸h2⟩
 |0,m+1,p,q,q',⟨h1,h3⟩,⟨p',h2,_⟩=>dg h2 (h3 p')
 |n+1,0,p,q,q',⟨p',h2,_⟩,⟨h1,h3⟩=>dg h2 (h3 p')
 |n+1,m+1,p,q,q',⟨p',h1,h2⟩,⟨p'',h3,h4⟩=>by
  rw[h1]at h3;cases h3;obtain⟨e1,e2⟩:=kF.det h2 h4;exact⟨by rw[e1],e2⟩
def kF.Ef{n:Nat}{p q:γ}(h:kF rnd n p q):bG rnd p=I q:=by
 have hx:∃q n,kF rnd n p q:=⟨q,n,h⟩;unfold bG;rw[dif_pos hx];obtain⟨m,hm⟩:=Classical.choose_spec hx;rw[(kF.det hm h).2]
def kF.last{n:Nat}{p q:γ}(h:kF rnd n p q):∀r,rnd q≠I (I r):=by
 induction n generalizing p with
 |zero=>obtain⟨h1,h2⟩:=h;rw[<-h1];exact h2
 |succ n ih=>obtain⟨p',_,h2⟩:=h;exact ih h2
def kF.ex(ze:γ->Prop)(m:γ->Nat)(h:∀p q,ze p->rnd p=I (I q)->ze q/\m q<m p):∀(k:Nat) (p:γ),m p<=k->ze p->∃n q,kF rnd n p q/\ze q
 |k,p,hk,hp=>by
  by_cases hq:∃q,rnd p=I (I q)
  ·obtain⟨q,hq⟩:=hq;obtain⟨h1,h2⟩:=h p q hp hq
   match k with
   |0=>omega
   |k+1=>
    obtain⟨n,r,h3,h4⟩:=kF.ex ze m h k q (by omega) h1;exact⟨n+1,r,⟨q,hq,h3⟩,h4⟩
  ·exact⟨0,p,⟨rfl,λr hr=>hq ⟨r,hr⟩⟩,hp⟩
def uy{p q:γ}(h:bG rnd p=I q):∃n,kF rnd n p q:=by
 unfold bG at h;split at h
 ·rename_i hx;cases h;exact Classical.choose_spec hx
 ·cases h
def j9(ze:γ->Prop)(m:γ->Nat)(h:∀p q,ze p->rnd p=I (I q)->ze q/\m q<m p){p:γ}(hp:ze p):∃q,bG rnd p=I q/\ze q/\∀r,rnd q≠I (I r):=by
 obtain⟨n,q,h1,h2⟩:=kF.ex ze m h (m p) p (zG _) hp;exact⟨q,h1.Ef,h2,h1.last⟩
def bP{p p':γ}(h:rnd p=I (I p')):bG rnd p=bG rnd p':=by
 cases h2:bG rnd p' with
 |some q=>
  obtain⟨n,hn⟩:=uy h2;exact(show kF rnd (n+1) p q from⟨p',h,hn⟩).Ef
 |none=>
  cases h1:bG rnd p with
  |none=>rfl
  |some q=>
   obtain⟨n,hn⟩:=uy h1;cases n with
   |zero=>exact dg h (hn.2 p')
   |succ n=>
    obtain⟨p'',h3,h4⟩:=hn;rw[h]at h3;cases h3;rw[h4.Ef]at h2;cases h2
def cu{p:γ}(h:∀r,rnd p≠I (I r)):bG rnd p=I p:=(show kF rnd 0 p p from⟨rfl,h⟩).Ef
def kF.x{x:XT}{rd:St->af γ}{pat:γ->St}{b:An}(hx:∀p,x b (af γ) (pat p) (X8 rd)=rnd p):∀{n:Nat} {p q:γ},kF rnd n p q->Pv x rd pat b n p q
 |0,_,_,h=>h.1
 |_+1,_,_,⟨p',h1,h2⟩=>⟨p',by rw[hx];exact h1,kF.x hx h2⟩
def mX{x:XT}{rd:St->af γ}{pat:γ->St}{b:An}(hx:∀p,x b (af γ) (pat p) (X8 rd)=rnd p):PI x rd pat (bG rnd) b:=λp q h=>by
 obtain⟨n,hn⟩:=uy h;exact⟨n,hn.x hx⟩
end
end Go.Iv
end
noncomputable section
namespace Go.Iv
variable [U:qz] [L:mO]
open Go Go.RowKit
section
variable {β γ δ:Type}
def PN(f:AV->af β)(c:β->AV):Prop:=∀a b,f a=I b->(∀(ρ:Gh) A w v,Rel A w (a.sub ρ) v->Rel A w ((c b).sub ρ) v)/\∀n,cI n a->cI n (c b)
def PN.of{f:AV->af β}{c:β->AV}(h:P1 f c)(hc:∀a b,f a=I b->H7 2 a=J)(hl:∀b,(∀ρ,(c b).sub ρ=c b)/\∀n,cI n (c b)):PN f c:=λa b hb=>
 ⟨λρ A w v hr=>by rw[l7 2 (hc a b hb)]at hr;rw[(hl b).1];exact h a b hb A w v hr,λn _=>(hl b).2 n⟩
def PN.i(k:IntKind):PN (gO k) (cc.n k):= .of (.i k) (λa b h=>by
 unfold gO at h;split at h
 ·rfl
 ·cases h) λb=>⟨λρ=>bR ρ _,λn=> .lit _⟩
def PN.b:PN DL cc.b:= .of .b (λa b h=>by
 unfold DL at h;split at h
 ·rfl
 ·cases h) λb=>⟨λρ=>bR ρ _,λn=> .lit _⟩
def PN.s:PN asS cc.s:= .of .s (λa b h=>by
 unfold asS at h;split at h
 ·rfl
 ·cases h) λb=>⟨λρ=>bR ρ _,λn=> .lit _⟩
def PN.l(t:Nat):PN (jf t) (cc.sl t):= .of (.l t) (λa b h=>by
 unfold jf at h;split at h
 ·rfl
 ·rfl
 ·cases h) λb=>⟨λρ=>fP ρ _ _,λn=> .sl _ _⟩
def aeZ(t:Nat):AV->af (U.dc t)
 | .agg cs=>match cs.all (H7 1)with
  |true=>L.parse t cs
  |false=>S
 |_=>S
def PN.g(t:Nat):PN (aeZ t) (λx=> .agg (U.cells t x)):= .of (λa b h A w v hr=>by
 unfold aeZ at h;split at h
 ·split at h
  ·obtain⟨us,rfl,h2⟩:=hr.mV;exact Rel.nE (L.j0 _ _ _ h A w us h2)
  ·cases h
 ·cases h) (λa b h=>by
 unfold aeZ at h;split at h
 ·split at h
  ·rename_i hc;exact hc
  ·cases h
 ·cases h) λb=>⟨λρ=>by rw[eC,L.clo],λn=> .agg _ (L.qd t b n)⟩
def asP(id off:Nat):AV->af Unit
 | .ptr i o=>match zg i id&&zg o off with
  |true=>I ()
  |false=>S
 |_=>S
def PN.p(id off:Nat):PN (asP id off) (λ_=> .ptr id off):=λa b h=>by
 unfold asP at h;split at h
 ·split at h
  ·rename_i hc;rw[zj]at hc;rw[fM hc.1,fM hc.2];exact⟨λ_ _ _ _ h=>h,λ_ h=>h⟩
  ·cases h
 ·cases h
def asO(id:Nat):AV->af Unit
 | .own i=>match zg i id with
  |true=>I ()
  |false=>S
 |_=>S
def PN.o(id:Nat):PN (asO id) (λ_=> .own id):=λa b h=>by
 unfold asO at h;split at h
 ·split at h
  ·rename_i hc;rw[fM hc];exact⟨λ_ _ _ _ h=>h,λ_ h=>h⟩
  ·cases h
 ·cases h
def La(q:aa AV->af γ)(c:γ->aa AV):Prop:=∀cs g,q cs=I g->(∀(ρ:Gh) A w us,bJ A w (cs.map (cc.sub ρ)) us->bJ A w ((c g).map (cc.sub ρ)) us)/\∀n,(∀a∈cs,cI n a)->∀a∈c g,cI n a
def La.nil:La nJ (λ_=>[]):=λcs g h=>by
 unfold nJ at h;split at h
 ·exact⟨λρ A w us hr=>hr,λn h=>h⟩
 ·cases h
def La.cons{f:AV->af β}{c:β->AV}{q:aa AV->af γ}{d:γ->aa AV}(h:PN f c)(hq:La q d):La (dx f q) (λx=>c x.1::d x.2):=λcs g hg=>by
 unfold dx at hg;split at hg
 ·obtain⟨b,h1,hg⟩:=zn.1 hg;obtain⟨g',h2,rfl⟩:=zk.1 hg;obtain⟨h3,h4⟩:=h _ _ h1;obtain⟨h5,h6⟩:=hq _ _ h2;refine⟨λρ A w us hr=> ?_,λn hn a ha=> ?_⟩
  ·rw[z7]at hr ⊢;obtain⟨v,us',rfl,h7,h8⟩:=hr.head;exact bJ.cons (h3 ρ A w v h7) (h5 ρ A w us' h8)
  ·rcases zF.1 ha with rfl|ha
   ·exact h4 n (hn _ zm)
   ·exact h6 n (λa ha=>hn a (zK _ ha)) a ha
 ·cases hg
def ai0(k:Nat)(q:aa AV->af γ):AV->af γ
 | .fn (.func i) cs=>match zg i k with
  |true=>q cs
  |false=>S
 |_=>S
def PN.ff(k:Nat){q:aa AV->af γ}{c:γ->aa AV}(h:La q c):PN (ai0 k q) (λx=> .fn (.func k) (c x)):=λa b hb=>by
 unfold ai0 at hb;split at hb
 ·rename_i i cs;split at hb
  ·rename_i hi;have hi:=fM hi;subst hi;obtain⟨h1,h2⟩:=h _ _ hb;refine⟨λρ A w v hr=> ?_,λn hn=> .fn _ _ (h2 n hn.fnL)⟩;rw[qM]at hr ⊢;generalize ha:cc.fn (Fn.func i) (cs.map (cc.sub ρ))=a at hr;cases hr with
   |fn f cs' us hl hr=>
    cases ha;obtain⟨h3,h4⟩:=h1 ρ A w us ⟨hl,hr⟩;exact .fn _ _ us h3 h4
   |_=>cases ha
  ·cases hb
 ·cases hb
def am6(q:aa AV->af γ):AV->af γ
 | .fp cs=>q cs
 |_=>S
def PN.fp{q:aa AV->af γ}{c:γ->aa AV}(h:La q c):PN (am6 q) (λx=> .fp (c x)):=λa b hb=>by
 unfold am6 at hb;split at hb
 ·rename_i cs;obtain⟨h1,h2⟩:=h _ _ hb;refine⟨λρ A w v hr=> ?_,λn hn=> ?_⟩
  ·rw[lq]at hr ⊢;generalize ha:cc.fp (cs.map (cc.sub ρ))=a at hr;cases hr with
   |fp cs' b o us hb hA hl hc hr=>
    cases ha;obtain⟨h3,h4⟩:=h1 ρ A w us ⟨hl,hr⟩;exact .fp _ b o us hb hA h3 hc h4
   |_=>cases ha
  ·generalize ha:cc.fp cs=a at hn;cases hn with
   |fp cs' h5=>cases ha;exact .fp _ (h2 n h5)
   |_=>cases ha
 ·cases hb
def akF:AV->af Unit
 | .lit (.slice S 0 0)=>I ()
 |_=>S
def PN.ns:PN akF (λ_=> .lit (.slice S 0 0)):=λa b hb=>by
 unfold akF at hb;split at hb
 ·exact⟨λ_ _ _ _ h=>h,λ_ h=>h⟩
 ·cases hb
def aiQ(t:Nat)(cs:aa AV):af (U.dc t):=match cs.all (H7 1)with
 |true=>L.parse t cs
 |false=>S
def La.parse(t:Nat):La (aiQ t) (λx=>U.cells t x):=λcs g h=>by
 unfold aiQ at h;split at h
 ·rename_i hc;have e:∀ρ,cs.map (cc.sub ρ)=cs:=λρ=>by
   have:cs.map (cc.sub ρ)=cs.map id:=zZ λa ha=>l7 1 (zu.1 hc a ha);rw[this,List.map_id]
  exact⟨λρ A w us hr=>by rw[e]at hr;rw[L.clo];exact L.j0 _ _ _ h A w us hr,λn _=>L.qd t g n⟩
 ·cases h
def slN(_:ET):af Unit:=I ()
def slC(t:Nat)(f:AV->af β)(q:ET->af γ)(T:ET):af (β×γ):=match cJ T t with
 |some a=>(f a).bind λb=>(q T).map λg=>(b,g)
 |none=>S
def NL(q:ET->af γ)(d:γ->Env):Prop:=∀T g,q T=I g->∀(E:Env),qN T E->(∀(ρ:Gh) A w tmps,j7 A w (E.sub ρ) tmps->j7 A w ((d g).sub ρ) tmps)/\∀n,E.cI n->(d g).cI n
def NL.nil:NL slN (λ_=>[]):=λT g _ E _=>⟨λρ A w tmps _ t av h=>(by cases h),λn _ p hp=>(by cases hp)⟩
def NL.cons{t:Nat}{f:AV->af β}{c:β->AV}{q:ET->af γ}{d:γ->Env}(hf:PN f c)(hq:NL q d):NL (slC t f q) (λx=>(t,c x.1)::d x.2):=λT g h E hh=>by
 unfold slC at h;split at h
 case h_2=>cases h
 rename_i a ha;obtain⟨b,hb,h⟩:=zn.1 h;obtain⟨g',hg,rfl⟩:=zk.1 h;obtain⟨h1,h2⟩:=hf a b hb;obtain⟨h3,h4⟩:=hq T g' hg E hh;refine⟨λρ A w tmps hs s av hx=> ?_,λn hn p hp=> ?_⟩
 ·have hx:Env.get ((t,(c b).sub ρ)::(d g').sub ρ) s=I av:=hx;by_cases hts:t=s
  ·subst hts;rw[Env.eE]at hx;cases hx;obtain⟨v,q1,q2⟩:=hs t (a.sub ρ) (by rw[Env.eF,hh t a ha];rfl);exact⟨v,q1,h1 ρ A w v q2⟩
  ·rw[Env.dy _ _ hts]at hx;exact h3 ρ A w tmps hs s av hx
 ·rcases zF.1 hp with rfl|hp
  ·exact h2 n (hn _ (Env.get_mem (hh t a ha)))
  ·exact h4 n hn p hp
def aip(E:Env):ET:=List.rec .e (λp _ T=>k8 p.1 p.2 T) E
def va:∀E:Env,qN (aip E) E
 |[]=>λt d h=>by cases t<;>cases h
 |p::E=>(va E).put p.1 p.2
def leR(p p':Nat×IR):Prop:=p.1=p'.1/\(∀(ρ:Gh) A w,(p.2.res ρ p.1).ok A w->(p'.2.res ρ p'.1).ok A w)/\(∀ρ:Gh,(p.2.res ρ p.1).blk=(p'.2.res ρ p'.1).blk)/\∀n,p.2.cI n->p'.2.cI n
inductive G1:aX->aX->Prop
 |nil:G1 [] []
 |cons {p p':Nat×IR} {R R':aX} (h:leR p p') (hs:G1 R R'):G1 (p::R) (p'::R')
def rsN:aX->af Unit
 |[]=>I ()
 |_=>S
def rsR(id t:Nat)(q:aX->af γ):aX->af (aa (U.dc t)×γ)
 |(i, .row t' l)::R=>match zg i id with
  |true=>(tT t' t l).bind λl=>(q R).map λg=>(l,g)
  |false=>S
 |_=>S
def Bn(q:aX->af γ)(d:γ->aX):Prop:=∀R g,q R=I g->G1 R (d g)
def Bn.nil:Bn rsN (λ_=>[]):=λR g h=>by
 cases R with
 |nil=>exact .nil
 |cons p R=>cases h
def Bn.row{id t:Nat}{q:aX->af γ}{d:γ->aX}(hq:Bn q d):Bn (rsR id t q) (λx=>(id, .row t x.1)::d x.2):=λR g h=>by
 obtain⟨i,t',l,R',rfl,hcd,h9⟩:∃i t' l R',R=(i,IR.row t' l)::R'/\zg i id=J/\((tT t' t l).bind λl=>(q R').map λg=>(l,g))=I g:=by
  unfold rsR at h;split at h
  ·split at h
   ·rename_i hcd;exact⟨_,_,_,_,rfl,hcd,h⟩
   ·cases h
  ·cases h
 have e1:=fM hcd;subst e1;obtain⟨l',hl,h9⟩:=zn.1 h9;obtain⟨g',hg,rfl⟩:=zk.1 h9;obtain⟨rfl,rfl⟩:=lC hl;exact .cons ⟨rfl,λρ A w h=>h,λρ=>rfl,λn h=>h⟩ (hq _ _ hg)
def amc(id T:Nat)(f:aa AV->af β)(q:aX->af γ):aX->af (β×γ)
 |(i, .box T' cs)::R=>match zg i id&&zg T' T with
  |true=>(f cs).bind λb=>(q R).map λg=>(b,g)
  |false=>S
 |_=>S
def Bn.axV{id T:Nat}{f:aa AV->af β}{c:β->aa AV}{q:aX->af γ}{d:γ->aX}(hf:La f c)(hq:Bn q d):Bn (amc id T f q) (λx=>(id, .box T (c x.1))::d x.2):=λR g h=>by
 obtain⟨i,T',cs,R',rfl,hcd,h9⟩:∃i T' cs R',R=(i,IR.box T' cs)::R'/\(zg i id&&zg T' T)=J/\((f cs).bind λb=>(q R').map λg=>(b,g))=I g:=by
  unfold amc at h;split at h
  ·split at h
   ·rename_i hcd;exact⟨_,_,_,_,rfl,hcd,h⟩
   ·cases h
  ·cases h
 rw[zj]at hcd;have e1:=fM hcd.1;have e2:=fM hcd.2;subst e1 e2;obtain⟨b,hb,h9⟩:=zn.1 h9;obtain⟨g',hg,rfl⟩:=zk.1 h9;obtain⟨k1,k2⟩:=hf _ _ hb;exact .cons ⟨rfl,λρ A w ⟨us,h1,h2⟩=>⟨us,h1,k1 ρ A w us h2⟩,λρ=>rfl,λn hn=>k2 n hn⟩ (hq _ _ hg)
def Bq{ρ:Gh}:∀{R R':aX},G1 R R'->bF (aX.res ρ R)=bF (aX.res ρ R')
 |_,_, .nil=>rfl
 |_,_, .cons (p:=p) (p':=p') h hs=>by
  unfold bF aX.res;rw[z7,z7,xm,xm,h.2.2.1 ρ];have:=Bq (ρ:=ρ) hs;unfold bF aX.res at this;rw[this]
def NC{ρ:Gh}{A:Nat->Prop}{w:World}:∀{R R':aX},G1 R R'->(∀r∈aX.res ρ R,r.ok A w)->∀r∈aX.res ρ R',r.ok A w
 |_,_, .nil,_=>λr hr=>by cases hr
 |_,_, .cons (p:=p) (p':=p') h hs,h0=>λr hr=>by
  rcases zF.1 hr with rfl|hr
  ·exact h.2.1 ρ A w (h0 _ zm)
  ·exact NC hs (λr hr=>h0 r (zK _ hr)) r hr
def Qr{n:Nat}:∀{R R':aX},G1 R R'->aX.cI n R->aX.cI n R'
 |_,_, .nil,h=>h
 |_,_, .cons (p:=p) (p':=p') h hs,h0=>λq hq=>by
  rcases zF.1 hq with rfl|hq
  ·exact⟨by rw[<-h.1];exact(h0 _ zm).1,h.2.2.2 n (h0 _ zm).2⟩
  ·exact Qr hs (λq hq=>h0 q (zK _ hq)) q hq
def stR(m:Nat)(q:ET->af γ)(r:aX->af δ)(s:St):af (γ×δ):=match zg s.nx m with
 |true=>(q s.E).bind λg=>(r s.R).map λh=>(g,h)
 |false=>S
def rI(m:Nat)(d:γ->Env)(e:δ->aX)(p:γ×δ):St:=⟨aip (d p.1),e p.2,m⟩
def ajw{n0 n m:Nat}{q:ET->af γ}{r:aX->af δ}{d:γ->Env}{e:δ->aX}(hq:NL q d)(hr:Bn r e):qk n0 n (stR m q r) (rI m d e):=λC s p a w _ h hm=>by
 unfold stR at h;split at h
 case h_2=>cases h
 rename_i hnx;have hnx:=fM hnx;obtain⟨g,hg,h⟩:=zn.1 h;obtain⟨g',hg',rfl⟩:=zk.1 h;obtain⟨E,hh,hE,hR,ρ,hag,hsim⟩:=hm;obtain⟨h1,h2⟩:=hq _ _ hg E hh;have h3:=hr _ _ hg';have hb:bF (aX.res ρ (e g'))=bF (aX.res ρ s.R):=(Bq h3).symm;have hal:∀b,al C.C (aX.res ρ s.R) b->al C.C (aX.res ρ (e g')) b:=λb hA=>⟨hA.1,by rw[hb];exact hA.2⟩;subst hnx;have hdis:(bF (aX.res ρ (e g'))).Nodup:=by rw[hb];exact hsim.good.DS
 refine⟨d g,va _,h2 _ hE,Qr h3 hR,ρ,hag,hsim.defers.step (λb _ hA=>⟨hal b hA,rfl⟩),hsim.size,λt av ht=> ?_,hsim.good.kept,λx hx=> ?_,hdis,λb hx=>hsim.good.own b (by rw[<-hb];exact hx)⟩
 ·obtain⟨v,q1,q2⟩:=h1 ρ _ w a.tmps hsim.slots t av ht;exact⟨v,q1,q2.mono λb _ hA=>⟨hal b hA,rfl⟩⟩
 ·exact(NC h3 hsim.good.res x hx).mono (λb _ hA=>⟨hal b hA,rfl⟩) (λ_ _=>rfl)
end
def rdM{γ γ':Type}(e:γ->γ')(rd:St->af γ)(s:St):af γ':=match rd s with
 |some p=>I (e p)
 |none=>S
def qk.m{γ γ':Type}{n0 n:Nat}{rd:St->af γ}{pat:γ->St}(h:qk n0 n rd pat)(e:γ->γ'){pat':γ'->St}(he:∀p,pat' (e p)=pat p):qk n0 n (rdM e rd) pat':=λC s p a w hC hr hm=>by
 unfold rdM at hr;split at hr
 ·rename_i p' hp;cases hr;rw[he];exact h C s p' a w hC hp hm
 ·cases hr
def ai4(c:Code):An->aa (Code×An):=
 Code.rec (λ_=>[]) (λ_ _ _ an=>match an with
   | .rb fs t=>[(.skip, .rb fs t)]
   |_=>[]) (λ_ _ x y an=>x an.l++y an.r) (λ_ _ _ x y an=>(match an with
   | .jn γ rd pat l r=>[(.skip, .jn γ rd pat l r)]
   |_=>[])++(x an.l++y an.r)) (λ_ _ x=>x)
  (λc x an=>match an with
   | .lp γ rd pat Ef b=>(c, .lp γ rd pat Ef b)::x b
   |an=>x an) (λ_ _ _ _ _ _ _=>[]) (λ_ _=>[]) (λ_ _ _=>[]) (λ_ _=>[]) (λ_ _=>[]) (λ_=>[]) (λ_ _=>[]) c
def QE(P:Program)(F:aW)(n0 n:Nat)(fuel:Nat)(p:Code×An):Prop:=match p.2 with
 | .lp _ rd pat Ef b=>qk n0 n rd pat/\PI (iO P F n fuel p.1) rd pat Ef b
 | .jn _ rd pat _ _=>qk n0 n rd pat
 | .rb fs _=>∀f∈fs,bC F f
 |_=>True
def aeF{P:Program}{F:aW}{n0 n fuel:Nat}(c:Code):∀an,(∀p∈ai4 c an,QE P F n0 n fuel p)->KH P F n0 n fuel c an:=by
 induction c with
 |region id ops draw=>
  intro an h;cases an with
  |rb fs t=>exact h (.skip, .rb fs t) (zJ.2 rfl)
  |_=>exact trivial
 |seq x y hx hy=>
  intro an h;exact⟨hx an.l λp hp=>h p (yE _ hp),hy an.r λp hp=>h p (yF _ hp)⟩
 |cond c x y hx hy=>
  intro an h;refine⟨λγ rd pat l r he=> ?_,hx an.l λp hp=>h p (yF _ (yE _ hp)),hy an.r λp hp=>h p (yF _ (yF _ hp))⟩;subst he;exact h (.skip, .jn γ rd pat l r) (yE _ (zJ.2 rfl))
 |block id x hx=>exact λan h=>hx an h
 |loop c hc=>
  intro an h;cases an with
  |lp γ rd pat Ef b=>
   have h0:=h (c, .lp γ rd pat Ef b) zm;exact⟨h0.1,h0.2,hc b λp hp=>h p (zK _ hp)⟩
  |no=>exact hc _ h
  |two l r=>exact hc _ h
  |jn γ rd pat l r=>exact hc _ h
  |rb fs t=>exact hc _ h
 |_=>exact λan h=>trivial
def bO{P:Program}{F:aW}{n0 fuel f:Nat}{fn:Func}{c:Code}{an:An}{l:aa (Code×An)}(hf:P.funcs[f]? =I fn)(hb:fn.body=I c)(ho:ai4 c an=l)(h:∀p∈l,QE P F n0 fn.ntmps fuel p):dB P F n0 fuel f an:=λfn' c' h1 h2=>by
 rw[hf]at h1;cases h1;rw[hb]at h2;cases h2;exact aeF c an (by rw[ho];exact h)
def Gz(fn:Func):Code:=match fn.body with
 |some c=>c
 |none=> .skip
def bq{fn:Func}(h:fn.body.isNone=G):fn.body=I (Gz fn):=by
 unfold Gz;cases hb:fn.body with
 |none=>rw[hb]at h;cases h
 |some c=>rfl
def ad2(c:Code):aa Code:=Code.rec [] (λ_ _ _=>[]) (λ_ _ x y=>x++y) (λ_ _ _ x y=>x++y) (λ_ _ x=>x) (λc x=>c::x) (λ_ _ _ _ _ _=>[]) (λ_=>[]) (λ_ _=>[]) (λ_=>[]) (λ_=>[]) [] (λ_=>[]) c
def bg(fn:Func)(i:Nat):Code:=(ad2 (Gz fn)).getD i .skip
end Go.Iv
end
noncomputable section
set_option maxRecDepth 100000
namespace Go.Proofs.YtnfljbehcffmcaaGreat
open Go Go.Iv
open Go.IntKind (i64 u64)
structure ax where
 (bt fN:Int)
 aq:List ax
instance:Inhabited ax:=⟨⟨0,0,[]⟩⟩
structure ay where
 (bX aR cX fN:Int)
 aB:ax
 (aK aN:List ay)
 aJ:List Int
instance:Inhabited ay:=⟨⟨0,0,0,0,⟨0,0,[]⟩,[],[],[]⟩⟩
structure aS where
 fName:ByteArray
 (bw ag ah dM:Int)
 deriving Inhabited,DecidableEq
structure cV where
 fName:ByteArray
 (ag ah:Int)
 aB:ax
 deriving Inhabited
structure aP where
 ai:List aS
 ak:List cV
 bK:List ay
 deriving Inhabited
structure cz where
 aY:List Int
 n9:Bool
 deriving Inhabited,DecidableEq
structure aH where
 (ag ah aj:Int)
 deriving Inhabited,DecidableEq
structure bE where
 aA:aH
 az:List aH
 aD:aH
 HF:List aH
 deriving Inhabited,DecidableEq
structure aZ where
 bk:List Int
 aD:Int
 deriving Inhabited,DecidableEq
structure kZ where
 (G7 aY Ib:List Int)
 deriving Inhabited,DecidableEq
structure m6 where
 (Gr bk:List Int)
 aD:Int
 deriving Inhabited,DecidableEq
structure Cell where
 (BV fAt:Int)
 (aq EK:List Int)
 LD:Int
 deriving Inhabited,DecidableEq
structure iS where
 EK:List aZ
 LW:List Cell
 deriving Inhabited,DecidableEq
structure Part where
 (BV fAt:Int)
 aq:List Int
 amK:List aH
 deriving Inhabited,DecidableEq
structure au where
 ai:List aH
 aA:aH
 az:List aH
 aD:aH
 deriving Inhabited,DecidableEq
structure Runner where
 fF:aP
 ak:List aH
 deriving Inhabited
structure aF where
 ai:List aH
 aA:aH
 az:List aH
 aD:aH
 deriving Inhabited,DecidableEq
structure vT where
 amK:List aH
 (BV fAt:Int)
 aq:List Int
 LD:Int
 ZE:Bool
 EK:aZ
 deriving Inhabited,DecidableEq
structure Tree where
 fF:aP
 fV:cz
 LW:List vT
 deriving Inhabited
structure aU where
 bA:Int
 eO:Bool
 deriving Inhabited,DecidableEq
structure nK where
 (fo bk aD:Int)
 deriving Inhabited,DecidableEq
structure Machine where
 fF:aP
 (Gr ak bk:List Int)
 aD:Int
 deriving Inhabited
structure Span where
 (ag ah:Int)
 deriving Inhabited,DecidableEq
inductive Ky
 |k3
 |k4
 |k5
 |k24
 |k26
 |k27
 |k29
 |k30
 |k34
 |k36
 |k37
 |k47
 |k52
 |k56
 |k84
 |k90
 |k117
 |k128
 |k129
 |k131
 |k133
 |k137
 |k139
 |k147
 |k166
 |k172
 |k174
 |k256
 |k260
 |k313
 |k331
 |no
def ky:Nat->Ky
 |3=> .k3
 |4=> .k4
 |5=> .k5
 |24=> .k24
 |26=> .k26
 |27=> .k27
 |29=> .k29
 |30=> .k30
 |34=> .k34
 |36=> .k36
 |37=> .k37
 |47=> .k47
 |52=> .k52
 |56=> .k56
 |84=> .k84
 |90=> .k90
 |117=> .k117
 |128=> .k128
 |129=> .k129
 |131=> .k131
 |133=> .k133
 |137=> .k137
 |139=> .k139
 |147=> .k147
 |166=> .k166
 |172=> .k172
 |174=> .k174
 |256=> .k256
 |260=> .k260
 |313=> .k313
 |331=> .k331
 |_=> .no
def Ck:Ky->Type
 | .k3=>Int
 | .k4=>Bool
 | .k5=>Int
 | .k24=>aa ay
 | .k26=>aP
 | .k27=>aa Int
 | .k29=>cz
 | .k30=>aa aH
 | .k34=>aH
 | .k36=>bE
 | .k37=>Int
 | .k47=>aZ
 | .k52=>kZ
 | .k56=>m6
 | .k84=>iS
 | .k90=>Part
 | .k117=>Cell
 | .k128=>au
 | .k129=>Int
 | .k131=>aS
 | .k133=>Runner
 | .k137=>ax
 | .k139=>cV
 | .k147=>aF
 | .k166=>ay
 | .k172=>Tree
 | .k174=>vT
 | .k256=>aU
 | .k260=>nK
 | .k313=>Machine
 | .k331=>Span
 | .no=>Unit
abbrev cn(t:Nat):Type:=Ck (ky t)
@[reducible] def inhK:(k:Ky)->Inhabited (Ck k)
 | .k3=>⟨(default:Int)⟩
 | .k4=>⟨(default:Bool)⟩
 | .k5=>⟨(default:Int)⟩
 | .k24=>⟨(default:aa ay)⟩
 | .k26=>⟨(default:aP)⟩
 | .k27=>⟨(default:aa Int)⟩
 | .k29=>⟨(default:cz)⟩
 | .k30=>⟨(default:aa aH)⟩
 | .k34=>⟨(default:aH)⟩
 | .k36=>⟨(default:bE)⟩
 | .k37=>⟨(default:Int)⟩
 | .k47=>⟨(default:aZ)⟩
 | .k52=>⟨(default:kZ)⟩
 | .k56=>⟨(default:m6)⟩
 | .k84=>⟨(default:iS)⟩
 | .k90=>⟨(default:Part)⟩
 | .k117=>⟨(default:Cell)⟩
 | .k128=>⟨(default:au)⟩
 | .k129=>⟨(default:Int)⟩
 | .k131=>⟨(default:aS)⟩
 | .k133=>⟨(default:Runner)⟩
 | .k137=>⟨(default:ax)⟩
 | .k139=>⟨(default:cV)⟩
 | .k147=>⟨(default:aF)⟩
 | .k166=>⟨(default:ay)⟩
 | .k172=>⟨(default:Tree)⟩
 | .k174=>⟨(default:vT)⟩
 | .k256=>⟨(default:aU)⟩
 | .k260=>⟨(default:nK)⟩
 | .k313=>⟨(default:Machine)⟩
 | .k331=>⟨(default:Span)⟩
 | .no=>⟨()⟩
def szK:Ky->Nat
 | .k3=>1
 | .k4=>1
 | .k5=>1
 | .k24=>1
 | .k26=>3
 | .k27=>1
 | .k29=>2
 | .k30=>1
 | .k34=>3
 | .k36=>8
 | .k37=>1
 | .k47=>2
 | .k52=>3
 | .k56=>3
 | .k84=>2
 | .k90=>4
 | .k117=>5
 | .k128=>8
 | .k129=>1
 | .k131=>5
 | .k133=>4
 | .k137=>3
 | .k139=>6
 | .k147=>8
 | .k166=>10
 | .k172=>6
 | .k174=>8
 | .k256=>2
 | .k260=>3
 | .k313=>7
 | .k331=>2
 | .no=>0
def mY:(k:Ky)->Ck k->aa (cc cn)
 | .k3,x=>(λx:Int=>[.n .i64 x]) x
 | .k4,x=>(λx:Bool=>[.b x]) x
 | .k5,x=>(λx:Int=>[.n .u8 x]) x
 | .k24,x=>(λx:aa ay=>[.sl 166 x]) x
 | .k26,x=>(λx:aP=>[.sl 131 x.ai, .sl 139 x.ak, .sl 166 x.bK]) x
 | .k27,x=>(λx:aa Int=>[.sl 3 x]) x
 | .k29,x=>(λx:cz=>[.sl 3 x.aY, .b x.n9]) x
 | .k30,x=>(λx:aa aH=>[.sl 34 x]) x
 | .k34,x=>(λx:aH=>[.n .i64 x.ag, .n .i64 x.ah, .n .i64 x.aj]) x
 | .k36,x=>(λx:bE=>[.n .i64 x.aA.ag, .n .i64 x.aA.ah, .n .i64 x.aA.aj, .sl 34 x.az, .n .i64 x.aD.ag, .n .i64 x.aD.ah, .n .i64 x.aD.aj, .sl 34 x.HF]) x
 | .k37,x=>(λx:Int=>[.n .i64 x]) x
 | .k47,x=>(λx:aZ=>[.sl 3 x.bk, .n .i64 x.aD]) x
 | .k52,x=>(λx:kZ=>[.sl 3 x.G7, .sl 3 x.aY, .sl 3 x.Ib]) x
 | .k56,x=>(λx:m6=>[.sl 3 x.Gr, .sl 3 x.bk, .n .i64 x.aD]) x
 | .k84,x=>(λx:iS=>[.sl 47 x.EK, .sl 117 x.LW]) x
 | .k90,x=>(λx:Part=>[.n .i64 x.BV, .n .i64 x.fAt, .sl 3 x.aq, .sl 34 x.amK]) x
 | .k117,x=>(λx:Cell=>[.n .i64 x.BV, .n .i64 x.fAt, .sl 3 x.aq, .sl 3 x.EK, .n .i64 x.LD]) x
 | .k128,x=>(λx:au=>[.sl 34 x.ai, .n .i64 x.aA.ag, .n .i64 x.aA.ah, .n .i64 x.aA.aj, .sl 34 x.az, .n .i64 x.aD.ag, .n .i64 x.aD.ah, .n .i64 x.aD.aj]) x
 | .k129,x=>(λx:Int=>[.n .i64 x]) x
 | .k131,x=>(λx:aS=>[.s x.fName, .n .i64 x.bw, .n .i64 x.ag, .n .i64 x.ah, .n .i64 x.dM]) x
 | .k133,x=>(λx:Runner=>[.sl 131 x.fF.ai, .sl 139 x.fF.ak, .sl 166 x.fF.bK, .sl 34 x.ak]) x
 | .k137,x=>(λx:ax=>[.n .i64 x.bt, .n .i64 x.fN, .sl 137 x.aq]) x
 | .k139,x=>(λx:cV=>[.s x.fName, .n .i64 x.ag, .n .i64 x.ah, .n .i64 x.aB.bt, .n .i64 x.aB.fN, .sl 137 x.aB.aq]) x
 | .k147,x=>(λx:aF=>[.sl 34 x.ai, .n .i64 x.aA.ag, .n .i64 x.aA.ah, .n .i64 x.aA.aj, .sl 34 x.az, .n .i64 x.aD.ag, .n .i64 x.aD.ah, .n .i64 x.aD.aj]) x
 | .k166,x=>(λx:ay=>[.n .i64 x.bX, .n .i64 x.aR, .n .i64 x.cX, .n .i64 x.fN, .n .i64 x.aB.bt, .n .i64 x.aB.fN, .sl 137 x.aB.aq, .sl 166 x.aK, .sl 166 x.aN, .sl 3 x.aJ]) x
 | .k172,x=>(λx:Tree=>[.sl 131 x.fF.ai, .sl 139 x.fF.ak, .sl 166 x.fF.bK, .sl 3 x.fV.aY, .b x.fV.n9, .sl 174 x.LW]) x
 | .k174,x=>(λx:vT=>[.sl 34 x.amK, .n .i64 x.BV, .n .i64 x.fAt, .sl 3 x.aq, .n .i64 x.LD, .b x.ZE, .sl 3 x.EK.bk, .n .i64 x.EK.aD]) x
 | .k256,x=>(λx:aU=>[.n .i64 x.bA, .b x.eO]) x
 | .k260,x=>(λx:nK=>[.n .i64 x.fo, .n .i64 x.bk, .n .i64 x.aD]) x
 | .k313,x=>(λx:Machine=>[.sl 131 x.fF.ai, .sl 139 x.fF.ak, .sl 166 x.fF.bK, .sl 3 x.Gr, .sl 3 x.ak, .sl 3 x.bk, .n .i64 x.aD]) x
 | .k331,x=>(λx:Span=>[.n .i64 x.ag, .n .i64 x.ah]) x
 | .no,_=>[]
instance uni:qz:=⟨cn,λt=>inhK (ky t),λt=>szK (ky t),λt=>mY (ky t)⟩
def W9:(k:Ky)->aa AV->af (Ck k)
 | .k3=>λcs=>((dx (gO .i64) nJ) cs).map (λg:Int×Unit=>(g.1:Int))
 | .k4=>λcs=>((dx DL nJ) cs).map (λg:Bool×Unit=>(g.1:Bool))
 | .k5=>λcs=>((dx (gO .u8) nJ) cs).map (λg:Int×Unit=>(g.1:Int))
 | .k24=>λcs=>((dx (jf 166) nJ) cs).map (λg:(aa (cn 166))×Unit=>(g.1:aa ay))
 | .k26=>λcs=>((dx (jf 131) (dx (jf 139) (dx (jf 166) nJ))) cs).map (λg:(aa (cn 131))×(aa (cn 139))×(aa (cn 166))×Unit=>((aP.mk g.1 g.2.1 g.2.2.1):aP))
 | .k27=>λcs=>((dx (jf 3) nJ) cs).map (λg:(aa (cn 3))×Unit=>(g.1:aa Int))
 | .k29=>λcs=>((dx (jf 3) (dx DL nJ)) cs).map (λg:(aa (cn 3))×Bool×Unit=>((cz.mk g.1 g.2.1):cz))
 | .k30=>λcs=>((dx (jf 34) nJ) cs).map (λg:(aa (cn 34))×Unit=>(g.1:aa aH))
 | .k34=>λcs=>((dx (gO .i64) (dx (gO .i64) (dx (gO .i64) nJ))) cs).map (λg:Int×Int×Int×Unit=>((aH.mk g.1 g.2.1 g.2.2.1):aH))
 | .k36=>λcs=>((dx (gO .i64) (dx (gO .i64) (dx (gO .i64) (dx (jf 34) (dx (gO .i64) (dx (gO .i64) (dx (gO .i64) (dx (jf 34) nJ)))))))) cs).map (λg:Int×Int×Int×(aa (cn 34))×Int×Int×Int×(aa (cn 34))×Unit=>((bE.mk (aH.mk g.1 g.2.1 g.2.2.1) g.2.2.2.1 (aH.mk g.2.2.2.2.1 g.2.2.2.2.2.1 g.2.2.2.2.2.2.1) g.2.2.2.2.2.2.2.1):bE))
 | .k37=>λcs=>((dx (gO .i64) nJ) cs).map (λg:Int×Unit=>(g.1:Int))
 | .k47=>λcs=>((dx (jf 3) (dx (gO .i64) nJ)) cs).map (λg:(aa (cn 3))×Int×Unit=>((aZ.mk g.1 g.2.1):aZ))
 | .k52=>λcs=>((dx (jf 3) (dx (jf 3) (dx (jf 3) nJ))) cs).map (λg:(aa (cn 3))×(aa (cn 3))×(aa (cn 3))×Unit=>((kZ.mk g.1 g.2.1 g.2.2.1):kZ))
 | .k56=>λcs=>((dx (jf 3) (dx (jf 3) (dx (gO .i64) nJ))) cs).map (λg:(aa (cn 3))×(aa (cn 3))×Int×Unit=>((m6.mk g.1 g.2.1 g.2.2.1):m6))
 | .k84=>λcs=>((dx (jf 47) (dx (jf 117) nJ)) cs).map (λg:(aa (cn 47))×(aa (cn 117))×Unit=>((iS.mk g.1 g.2.1):iS))
 | .k90=>λcs=>((dx (gO .i64) (dx (gO .i64) (dx (jf 3) (dx (jf 34) nJ)))) cs).map (λg:Int×Int×(aa (cn 3))×(aa (cn 34))×Unit=>((Part.mk g.1 g.2.1 g.2.2.1 g.2.2.2.1):Part))
 | .k117=>λcs=>((dx (gO .i64) (dx (gO .i64) (dx (jf 3) (dx (jf 3) (dx (gO .i64) nJ))))) cs).map (λg:Int×Int×(aa (cn 3))×(aa (cn 3))×Int×Unit=>((Cell.mk g.1 g.2.1 g.2.2.1 g.2.2.2.1 g.2.2.2.2.1):Cell))
 | .k128=>λcs=>((dx (jf 34) (dx (gO .i64) (dx (gO .i64) (dx (gO .i64) (dx (jf 34) (dx (gO .i64) (dx (gO .i64) (dx (gO .i64) nJ)))))))) cs).map (λg:(aa (cn 34))×Int×Int×Int×(aa (cn 34))×Int×Int×Int×Unit=>((au.mk g.1 (aH.mk g.2.1 g.2.2.1 g.2.2.2.1) g.2.2.2.2.1 (aH.mk g.2.2.2.2.2.1 g.2.2.2.2.2.2.1 g.2.2.2.2.2.2.2.1)):au))
 | .k129=>λcs=>((dx (gO .i64) nJ) cs).map (λg:Int×Unit=>(g.1:Int))
 | .k131=>λcs=>((dx asS (dx (gO .i64) (dx (gO .i64) (dx (gO .i64) (dx (gO .i64) nJ))))) cs).map (λg:ByteArray×Int×Int×Int×Int×Unit=>((aS.mk g.1 g.2.1 g.2.2.1 g.2.2.2.1 g.2.2.2.2.1):aS))
 | .k133=>λcs=>((dx (jf 131) (dx (jf 139) (dx (jf 166) (dx (jf 34) nJ)))) cs).map (λg:(aa (cn 131))×(aa (cn 139))×(aa (cn 166))×(aa (cn 34))×Unit=>((Runner.mk (aP.mk g.1 g.2.1 g.2.2.1) g.2.2.2.1):Runner))
 | .k137=>λcs=>((dx (gO .i64) (dx (gO .i64) (dx (jf 137) nJ))) cs).map (λg:Int×Int×(aa (cn 137))×Unit=>((ax.mk g.1 g.2.1 g.2.2.1):ax))
 | .k139=>λcs=>((dx asS (dx (gO .i64) (dx (gO .i64) (dx (gO .i64) (dx (gO .i64) (dx (jf 137) nJ)))))) cs).map (λg:ByteArray×Int×Int×Int×Int×(aa (cn 137))×Unit=>((cV.mk g.1 g.2.1 g.2.2.1 (ax.mk g.2.2.2.1 g.2.2.2.2.1 g.2.2.2.2.2.1)):cV))
 | .k147=>λcs=>((dx (jf 34) (dx (gO .i64) (dx (gO .i64) (dx (gO .i64) (dx (jf 34) (dx (gO .i64) (dx (gO .i64) (dx (gO .i64) nJ)))))))) cs).map (λg:(aa (cn 34))×Int×Int×Int×(aa (cn 34))×Int×Int×Int×Unit=>((aF.mk g.1 (aH.mk g.2.1 g.2.2.1 g.2.2.2.1) g.2.2.2.2.1 (aH.mk g.2.2.2.2.2.1 g.2.2.2.2.2.2.1 g.2.2.2.2.2.2.2.1)):aF))
 | .k166=>λcs=>((dx (gO .i64) (dx (gO .i64) (dx (gO .i64) (dx (gO .i64) (dx (gO .i64) (dx (gO .i64) (dx (jf 137) (dx (jf 166) (dx (jf 166) (dx (jf 3) nJ)))))))))) cs).map (λg:Int×Int×Int×Int×Int×Int×(aa (cn 137))×(aa (cn 166))×(aa (cn 166))×(aa (cn 3))×Unit=>((ay.mk g.1 g.2.1 g.2.2.1 g.2.2.2.1 (ax.mk g.2.2.2.2.1 g.2.2.2.2.2.1 g.2.2.2.2.2.2.1) g.2.2.2.2.2.2.2.1 g.2.2.2.2.2.2.2.2.1 g.2.2.2.2.2.2.2.2.2.1):ay))
 | .k172=>λcs=>((dx (jf 131) (dx (jf 139) (dx (jf 166) (dx (jf 3) (dx DL (dx (jf 174) nJ)))))) cs).map (λg:(aa (cn 131))×(aa (cn 139))×(aa (cn 166))×(aa (cn 3))×Bool×(aa (cn 174))×Unit=>((Tree.mk (aP.mk g.1 g.2.1 g.2.2.1) (cz.mk g.2.2.2.1 g.2.2.2.2.1) g.2.2.2.2.2.1):Tree))
 | .k174=>λcs=>((dx (jf 34) (dx (gO .i64) (dx (gO .i64) (dx (jf 3) (dx (gO .i64) (dx DL (dx (jf 3) (dx (gO .i64) nJ)))))))) cs).map (λg:(aa (cn 34))×Int×Int×(aa (cn 3))×Int×Bool×(aa (cn 3))×Int×Unit=>((vT.mk g.1 g.2.1 g.2.2.1 g.2.2.2.1 g.2.2.2.2.1 g.2.2.2.2.2.1 (aZ.mk g.2.2.2.2.2.2.1 g.2.2.2.2.2.2.2.1)):vT))
 | .k256=>λcs=>((dx (gO .i64) (dx DL nJ)) cs).map (λg:Int×Bool×Unit=>((aU.mk g.1 g.2.1):aU))
 | .k260=>λcs=>((dx (gO .i64) (dx (gO .i64) (dx (gO .i64) nJ))) cs).map (λg:Int×Int×Int×Unit=>((nK.mk g.1 g.2.1 g.2.2.1):nK))
 | .k313=>λcs=>((dx (jf 131) (dx (jf 139) (dx (jf 166) (dx (jf 3) (dx (jf 3) (dx (jf 3) (dx (gO .i64) nJ))))))) cs).map (λg:(aa (cn 131))×(aa (cn 139))×(aa (cn 166))×(aa (cn 3))×(aa (cn 3))×(aa (cn 3))×Int×Unit=>((Machine.mk (aP.mk g.1 g.2.1 g.2.2.1) g.2.2.2.1 g.2.2.2.2.1 g.2.2.2.2.2.1 g.2.2.2.2.2.2.1):Machine))
 | .k331=>λcs=>((dx (gO .i64) (dx (gO .i64) nJ)) cs).map (λg:Int×Int×Unit=>((Span.mk g.1 g.2.1):Span))
 | .no=>λ_=>S
def SP:(k:Ky)->Pk (W9 k) (mY k)
 | .k3=>Pk.map (λg:Int×Unit=>(g.1:Int)) (.cons (.i .i64) .nil) (λ_=>rfl)
 | .k4=>Pk.map (λg:Bool×Unit=>(g.1:Bool)) (.cons .b .nil) (λ_=>rfl)
 | .k5=>Pk.map (λg:Int×Unit=>(g.1:Int)) (.cons (.i .u8) .nil) (λ_=>rfl)
 | .k24=>Pk.map (λg:(aa (cn 166))×Unit=>(g.1:aa ay)) (.cons (.l 166) .nil) (λ_=>rfl)
 | .k26=>Pk.map (λg:(aa (cn 131))×(aa (cn 139))×(aa (cn 166))×Unit=>((aP.mk g.1 g.2.1 g.2.2.1):aP)) (.cons (.l 131) (.cons (.l 139) (.cons (.l 166) .nil))) (λ_=>rfl)
 | .k27=>Pk.map (λg:(aa (cn 3))×Unit=>(g.1:aa Int)) (.cons (.l 3) .nil) (λ_=>rfl)
 | .k29=>Pk.map (λg:(aa (cn 3))×Bool×Unit=>((cz.mk g.1 g.2.1):cz)) (.cons (.l 3) (.cons .b .nil)) (λ_=>rfl)
 | .k30=>Pk.map (λg:(aa (cn 34))×Unit=>(g.1:aa aH)) (.cons (.l 34) .nil) (λ_=>rfl)
 | .k34=>Pk.map (λg:Int×Int×Int×Unit=>((aH.mk g.1 g.2.1 g.2.2.1):aH)) (.cons (.i .i64) (.cons (.i .i64) (.cons (.i .i64) .nil))) (λ_=>rfl)
 | .k36=>Pk.map (λg:Int×Int×Int×(aa (cn 34))×Int×Int×Int×(aa (cn 34))×Unit=>((bE.mk (aH.mk g.1 g.2.1 g.2.2.1) g.2.2.2.1 (aH.mk g.2.2.2.2.1 g.2.2.2.2.2.1 g.2.2.2.2.2.2.1) g.2.2.2.2.2.2.2.1):bE)) (.cons (.i .i64) (.cons (.i .i64) (.cons (.i .i64) (.cons (.l 34) (.cons (.i .i64) (.cons (.i .i64) (.cons (.i .i64) (.cons (.l 34) .nil)))))))) (λ_=>rfl)
 | .k37=>Pk.map (λg:Int×Unit=>(g.1:Int)) (.cons (.i .i64) .nil) (λ_=>rfl)
 | .k47=>Pk.map (λg:(aa (cn 3))×Int×Unit=>((aZ.mk g.1 g.2.1):aZ)) (.cons (.l 3) (.cons (.i .i64) .nil)) (λ_=>rfl)
 | .k52=>Pk.map (λg:(aa (cn 3))×(aa (cn 3))×(aa (cn 3))×Unit=>((kZ.mk g.1 g.2.1 g.2.2.1):kZ)) (.cons (.l 3) (.cons (.l 3) (.cons (.l 3) .nil))) (λ_=>rfl)
 | .k56=>Pk.map (λg:(aa (cn 3))×(aa (cn 3))×Int×Unit=>((m6.mk g.1 g.2.1 g.2.2.1):m6)) (.cons (.l 3) (.cons (.l 3) (.cons (.i .i64) .nil))) (λ_=>rfl)
 | .k84=>Pk.map (λg:(aa (cn 47))×(aa (cn 117))×Unit=>((iS.mk g.1 g.2.1):iS)) (.cons (.l 47) (.cons (.l 117) .nil)) (λ_=>rfl)
 | .k90=>Pk.map (λg:Int×Int×(aa (cn 3))×(aa (cn 34))×Unit=>((Part.mk g.1 g.2.1 g.2.2.1 g.2.2.2.1):Part)) (.cons (.i .i64) (.cons (.i .i64) (.cons (.l 3) (.cons (.l 34) .nil)))) (λ_=>rfl)
 | .k117=>Pk.map (λg:Int×Int×(aa (cn 3))×(aa (cn 3))×Int×Unit=>((Cell.mk g.1 g.2.1 g.2.2.1 g.2.2.2.1 g.2.2.2.2.1):Cell)) (.cons (.i .i64) (.cons (.i .i64) (.cons (.l 3) (.cons (.l 3) (.cons (.i .i64) .nil))))) (λ_=>rfl)
 | .k128=>Pk.map (λg:(aa (cn 34))×Int×Int×Int×(aa (cn 34))×Int×Int×Int×Unit=>((au.mk g.1 (aH.mk g.2.1 g.2.2.1 g.2.2.2.1) g.2.2.2.2.1 (aH.mk g.2.2.2.2.2.1 g.2.2.2.2.2.2.1 g.2.2.2.2.2.2.2.1)):au)) (.cons (.l 34) (.cons (.i .i64) (.cons (.i .i64) (.cons (.i .i64) (.cons (.l 34) (.cons (.i .i64) (.cons (.i .i64) (.cons (.i .i64) .nil)))))))) (λ_=>rfl)
 | .k129=>Pk.map (λg:Int×Unit=>(g.1:Int)) (.cons (.i .i64) .nil) (λ_=>rfl)
 | .k131=>Pk.map (λg:ByteArray×Int×Int×Int×Int×Unit=>((aS.mk g.1 g.2.1 g.2.2.1 g.2.2.2.1 g.2.2.2.2.1):aS)) (.cons .s (.cons (.i .i64) (.cons (.i .i64) (.cons (.i .i64) (.cons (.i .i64) .nil))))) (λ_=>rfl)
 | .k133=>Pk.map (λg:(aa (cn 131))×(aa (cn 139))×(aa (cn 166))×(aa (cn 34))×Unit=>((Runner.mk (aP.mk g.1 g.2.1 g.2.2.1) g.2.2.2.1):Runner)) (.cons (.l 131) (.cons (.l 139) (.cons (.l 166) (.cons (.l 34) .nil)))) (λ_=>rfl)
 | .k137=>Pk.map (λg:Int×Int×(aa (cn 137))×Unit=>((ax.mk g.1 g.2.1 g.2.2.1):ax)) (.cons (.i .i64) (.cons (.i .i64) (.cons (.l 137) .nil))) (λ_=>rfl)
 | .k139=>Pk.map (λg:ByteArray×Int×Int×Int×Int×(aa (cn 137))×Unit=>((cV.mk g.1 g.2.1 g.2.2.1 (ax.mk g.2.2.2.1 g.2.2.2.2.1 g.2.2.2.2.2.1)):cV)) (.cons .s (.cons (.i .i64) (.cons (.i .i64) (.cons (.i .i64) (.cons (.i .i64) (.cons (.l 137) .nil)))))) (λ_=>rfl)
 | .k147=>Pk.map (λg:(aa (cn 34))×Int×Int×Int×(aa (cn 34))×Int×Int×Int×Unit=>((aF.mk g.1 (aH.mk g.2.1 g.2.2.1 g.2.2.2.1) g.2.2.2.2.1 (aH.mk g.2.2.2.2.2.1 g.2.2.2.2.2.2.1 g.2.2.2.2.2.2.2.1)):aF)) (.cons (.l 34) (.cons (.i .i64) (.cons (.i .i64) (.cons (.i .i64) (.cons (.l 34) (.cons (.i .i64) (.cons (.i .i64) (.cons (.i .i64) .nil)))))))) (λ_=>rfl)
 | .k166=>Pk.map (λg:Int×Int×Int×Int×Int×Int×(aa (cn 137))×(aa (cn 166))×(aa (cn 166))×(aa (cn 3))×Unit=>((ay.mk g.1 g.2.1 g.2.2.1 g.2.2.2.1 (ax.mk g.2.2.2.2.1 g.2.2.2.2.2.1 g.2.2.2.2.2.2.1) g.2.2.2.2.2.2.2.1 g.2.2.2.2.2.2.2.2.1 g.2.2.2.2.2.2.2.2.2.1):ay)) (.cons (.i .i64) (.cons (.i .i64) (.cons (.i .i64) (.cons (.i .i64) (.cons (.i .i64) (.cons (.i .i64) (.cons (.l 137) (.cons (.l 166) (.cons (.l 166) (.cons (.l 3) .nil)))))))))) (λ_=>rfl)
 | .k172=>Pk.map (λg:(aa (cn 131))×(aa (cn 139))×(aa (cn 166))×(aa (cn 3))×Bool×(aa (cn 174))×Unit=>((Tree.mk (aP.mk g.1 g.2.1 g.2.2.1) (cz.mk g.2.2.2.1 g.2.2.2.2.1) g.2.2.2.2.2.1):Tree)) (.cons (.l 131) (.cons (.l 139) (.cons (.l 166) (.cons (.l 3) (.cons .b (.cons (.l 174) .nil)))))) (λ_=>rfl)
 | .k174=>Pk.map (λg:(aa (cn 34))×Int×Int×(aa (cn 3))×Int×Bool×(aa (cn 3))×Int×Unit=>((vT.mk g.1 g.2.1 g.2.2.1 g.2.2.2.1 g.2.2.2.2.1 g.2.2.2.2.2.1 (aZ.mk g.2.2.2.2.2.2.1 g.2.2.2.2.2.2.2.1)):vT)) (.cons (.l 34) (.cons (.i .i64) (.cons (.i .i64) (.cons (.l 3) (.cons (.i .i64) (.cons .b (.cons (.l 3) (.cons (.i .i64) .nil)))))))) (λ_=>rfl)
 | .k256=>Pk.map (λg:Int×Bool×Unit=>((aU.mk g.1 g.2.1):aU)) (.cons (.i .i64) (.cons .b .nil)) (λ_=>rfl)
 | .k260=>Pk.map (λg:Int×Int×Int×Unit=>((nK.mk g.1 g.2.1 g.2.2.1):nK)) (.cons (.i .i64) (.cons (.i .i64) (.cons (.i .i64) .nil))) (λ_=>rfl)
 | .k313=>Pk.map (λg:(aa (cn 131))×(aa (cn 139))×(aa (cn 166))×(aa (cn 3))×(aa (cn 3))×(aa (cn 3))×Int×Unit=>((Machine.mk (aP.mk g.1 g.2.1 g.2.2.1) g.2.2.2.1 g.2.2.2.2.1 g.2.2.2.2.2.1 g.2.2.2.2.2.2.1):Machine)) (.cons (.l 131) (.cons (.l 139) (.cons (.l 166) (.cons (.l 3) (.cons (.l 3) (.cons (.l 3) (.cons (.i .i64) .nil))))))) (λ_=>rfl)
 | .k331=>Pk.map (λg:Int×Int×Unit=>((Span.mk g.1 g.2.1):Span)) (.cons (.i .i64) (.cons (.i .i64) .nil)) (λ_=>rfl)
 | .no=> .none
def agM:(k:Ky)->aa (Ck k)->af (aa Int)
 | .k5,l=>I l
 |_,_=>S
def T1(l:aa Int):l.flatMap (λx=>[cc.n (dc:=cn) .u8 x])=l.map (.n .u8):=by
 induction l with
 |nil=>rfl
 |cons a l ih=>rw[xA,ih];rfl
def Uh:(k:Ky)->(l:aa (Ck k))->(ns:aa Int)->agM k l=I ns->l.flatMap (mY k)=ns.map (.n .u8)/\szK k=1:=by
 intro k l ns h;cases k<;>first|(cases h;done)|(cases h;exact⟨T1 _,rfl⟩)
def awd(k:Ky)(x:Ck k):(mY k x).length=szK k:=by cases k<;>rfl
def ayp(k:Ky)(x:Ck k):(mY k x).all gG=true:=by cases k<;>rfl
def aw9(k:Ky)(x:Ck k)(ρ:Gh):(mY k x).map (cc.sub ρ)=mY k x:=WT _ (by cases k<;>rfl) ρ
def axb(k:Ky)(x:Ck k)(n:Nat):∀c∈mY k x,cI n c:=T8 _ (by cases k<;>rfl) n
instance uniL:mO where
 len:=λt x=>awd (ky t) x
 one:=λt x=>ayp (ky t) x
 clo:=λt x ρ=>aw9 (ky t) x ρ
 qd:=λt x n=>axb (ky t) x n
 parse:=λt=>W9 (ky t)
 j0:=λt=>SP (ky t)
 aa2:=λt=>agM (ky t)
 tB:=λt=>Uh (ky t)
 fz:=λf=>zg f 27||zg f 44||zg f 28||zg f 20||zg f 26||zg f 83||zg f 156||zg f 160||zg f 236||zg f 96||zg f 179||zg f 88||zg f 167||zg f 171||zg f 247||zg f 25||zg f 185
end Go.Proofs.YtnfljbehcffmcaaGreat
end
noncomputable section
namespace Go.Iv
variable [U:qz] [L:mO]
open Go Go.RowKit
def kH(f:Nat->Nat)(n:Nat):AV->AV:=Nat.rec (λd=>match d with
 | .own i=> .own (f i)
 | .ptr i o=> .ptr (f i) o
 | .ra i t m o=> .ra (f i) t m o
 |d=>d) (λ_ ih d=>match d with
 | .own i=> .own (f i)
 | .ptr i o=> .ptr (f i) o
 | .ra i t m o=> .ra (f i) t m o
 | .agg cs=> .agg (cs.map ih)
 | .iM cs=> .iM (cs.map ih)
 | .fn g cs=> .fn g (cs.map ih)
 | .fp cs=> .fp (cs.map ih)
 |d=>d) n
def iC{f:Nat->Nat}{ρ ρ':Gh}{p:Nat->Bool}(hp:∀i,p i=J->ρ'.v (f i)=ρ.v i/\ρ'.b (f i)=ρ.b i):∀(n:Nat) {d:AV},kG p n d=J->(kH f n d).sub ρ'=d.sub ρ
 |0,d,h=>by
  cases d with
  |lit v=>show cc.sub ρ' (.lit v)=_;rw[bR,bR]
  |sl t l=>show cc.sub ρ' (.sl t l)=_;rw[fP,fP]
  |rp v k=>show cc.sub ρ' (.rp v k)=_;simp only[cc.sub]
  |own i=>show cc.sub ρ' (.own (f i))=_;rw[dF,dF,(hp _ h).1]
  |ptr i o=>show cc.sub ρ' (.ptr (f i) o)=_;rw[eT,eT,(hp _ h).2]
  |ra i t m o=>show cc.sub ρ' (.ra (f i) t m o)=_;rw[iT,iT,(hp _ h).1]
  |_=>cases h
 |n+1,d,h=>by
  have hL:∀{cs:aa AV},cs.all (kG p n)=J->(cs.map (kH f n)).map (cc.sub ρ')=cs.map (cc.sub ρ):=λ{cs} h=>by
   rw[yh];exact zZ λc hc=>iC hp n (zu.1 h c hc)
  cases d with
  |lit v=>show cc.sub ρ' (.lit v)=_;rw[bR,bR]
  |sl t l=>show cc.sub ρ' (.sl t l)=_;rw[fP,fP]
  |rp v k=>show cc.sub ρ' (.rp v k)=_;simp only[cc.sub]
  |own i=>show cc.sub ρ' (.own (f i))=_;rw[dF,dF,(hp _ h).1]
  |ptr i o=>show cc.sub ρ' (.ptr (f i) o)=_;rw[eT,eT,(hp _ h).2]
  |ra i t m o=>show cc.sub ρ' (.ra (f i) t m o)=_;rw[iT,iT,(hp _ h).1]
  |fp cs=>show cc.sub ρ' (.fp (List.map (kH f n) cs))=_;rw[lq,lq,hL h]
  |agg cs=>show cc.sub ρ' (.agg (List.map (kH f n) cs))=_;rw[eC,eC,hL h]
  |iM cs=>show cc.sub ρ' (.iM (List.map (kH f n) cs))=_;rw[jI,jI,hL h]
  |fn g cs=>show cc.sub ρ' (.fn g (List.map (kH f n) cs))=_;rw[qM,qM,hL h]
def jW{f:Nat->Nat}{p:Nat->Bool}{m:Nat}(hp:∀i,p i=J->f i<m):∀(n:Nat) {d:AV},kG p n d=J->cI m (kH f n d)
 |0,d,h=>by
  cases d<;>first|exact .lit _|exact .sl _ _|exact .rp _ _|exact .own _ (hp _ h)|exact .ptr _ _ (hp _ h)|exact .ra _ _ _ _ (hp _ h)|(cases h;done)
 |n+1,d,h=>by
  have hL:∀{cs:aa AV},cs.all (kG p n)=J->∀c∈cs.map (kH f n),cI m c:=λ{cs} h c hc=>by
   obtain⟨c',h1,rfl⟩:=zL.1 hc;exact jW hp n (zu.1 h c' h1)
  cases d<;>first|exact .lit _|exact .sl _ _|exact .rp _ _|exact .own _ (hp _ h)|exact .ptr _ _ (hp _ h)|exact .ra _ _ _ _ (hp _ h)|exact .agg _ (hL h)|exact .iM _ (hL h)|exact .fn _ _ (hL h)|exact .fp _ (hL h)
def Hv(f:Nat->Nat):IR->IR
 | .box T cs=> .box T (cs.map (kH f 4))
 |r=>r
def lV(l:aa Nat)(i:Nat):Nat:=List.rec 0 (λj _ ih=>match zg j i with
 |true=>0
 |false=>ih+1) l
def sP:∀{l:aa Nat} {i:Nat},i∈l->l[lV l i]? =I i
 |j::l,i,h=>by
  show (j::l)[match zg j i with
   |true=>0
   |false=>lV l i+1]? =I i
  cases hb:zg j i with
  |true=>have:=fM hb;subst this;rfl
  |false=>
   have hne:i≠j:=λe=>by subst e;rw[Nat.beq_refl]at hb;cases hb
   exact sP ((zF.1 h).resolve_left hne)
def Kt(ts:aa Nat)(E:ET):Env:=ts.filterMap λt=>(cJ E t).map λd=>(t,d)
def R6{E:ET}:∀(ts:aa Nat) t d,Env.get (Kt ts E) t=I d->cJ E t=I d:=λts=>by
 induction ts with
 |nil=>intro t d h;cases h
 |cons u ts ih=>
  intro t d h;unfold Kt at h;rw[xm]at h;cases hu:cJ E u with
  |none=>rw[hu]at h;exact ih t d h
  |some x=>
   rw[hu]at h;by_cases hut:u=t
   ·subst hut;have h:Env.get ((u,x)::_) u=I d:=h;rw[Env.eE]at h;rw[hu,h]
   ·have h:Env.get ((u,x)::_) t=I d:=h;rw[Env.dy _ _ hut]at h;exact ih t d h
def pick(i:Nat)(R:aX):af ((Nat×IR)×aX):=List.rec S (λp R ih=>match zg p.1 i with
 |true=>I (p,R)
 |false=>match ih with
  |some x=>I (x.1,p::x.2)
  |none=>S) R
def DZ{i:Nat}:∀{R:aX} {x},pick i R=I x->List.Perm R (x.1::x.2)
 |[],x,h=>by cases h
 |p::R,x,h=>by
  have h:(match zg p.1 i with
   |true=>I (p,R)
   |false=>match pick i R with
    |some x=>I (x.1,p::x.2)
    |none=>S)=I x:=h
  split at h
  ·cases h;exact .refl _
  ·split at h
   ·rename_i y hy;cases h;exact((DZ hy).cons p).trans (.swap _ _ _)
   ·cases h
def ny(ns:aa Nat):aX->aX×aX:=List.rec (λR=>([],R)) (λi _ ih R=>match pick i R with
 |some x=>(x.1::(ih x.2).1,(ih x.2).2)
 |none=>ih R) ns
def mR:∀(ns:aa Nat) (R:aX),List.Perm R ((ny ns R).1++(ny ns R).2)
 |[],R=> .refl _
 |i::ns,R=>by
  show List.Perm R ((match pick i R with
   |some x=>(x.1::(ny ns x.2).1,(ny ns x.2).2)
   |none=>ny ns R).1++(match pick i R with
   |some x=>(x.1::(ny ns x.2).1,(ny ns x.2).2)
   |none=>ny ns R).2)
  split
  ·rename_i x hx;exact(DZ hx).trans ((mR ns x.2).cons _)
  ·exact mR ns R
def upto(n:Nat):aa Nat:=Nat.rec [] (λi ih=>ih++[i]) n
def TY{n i:Nat}(h:i<n):i∈upto n:=by
 induction n with
 |zero=>omega
 |succ n ih=>
  show i∈upto n++[n];by_cases hi:i=n
  ·subst hi;simp
  ·exact yE _ (ih (by omega))
def Vm{n i:Nat}(h:i<n):(upto n)[i]? =I i:=by
 induction n with
 |zero=>omega
 |succ n ih=>
  show (upto n++[n])[i]? =I i;have hl:∀n,(upto n).length=n:=λn=>by
   induction n with
   |zero=>rfl
   |succ n ih=>show (upto n++[n]).length=n+1;simp[ih]
  by_cases hi:i=n
  ·subst hi;rw[wC (by rw[hl];exact zG _),hl,Nat.sub_self];rfl
  ·rw[List.getElem?_append_left (by rw[hl];omega)];exact ih (by omega)
def sA:∀n,(upto n).length=n:=λn=>by
 induction n with
 |zero=>rfl
 |succ n ih=>show (upto n++[n]).length=n+1;simp[ih]
def mI(n0:Nat)(dr rest:aa Nat)(i:Nat):Nat:=match dh i dr with
 |true=>n0+lV rest i
 |false=>lV (upto n0++rest) i
def XQ(n0:Nat)(dr:aa Nat)(l:Env)(R:aX)(rest:aa Nat):af St:=match l.all (λq=>kG (λi=>dh i rest|| !dh i dr&&zy i n0) 4 q.2)&&R.all (λq=>(dh q.1 rest|| !dh q.1 dr&&zy q.1 n0)&&match q.2 with
  | .box _ cs=>cs.all (kG (λi=>dh i rest|| !dh i dr&&zy i n0) 4)
  | .row _ _=>J)with
 |true=>I ⟨aip (l.map λq=>(q.1,kH (mI n0 dr rest) 4 q.2)),R.map λq=>(mI n0 dr rest q.1,Hv (mI n0 dr rest) q.2),n0+rest.length⟩
 |false=>S
def T5(n0:Nat)(dr:aa Nat)(l:Env)(R:aX):af St:=XQ n0 dr l R ((R.map λq=>q.1).filter λi=>dh i dr|| !zy i n0)
def canon(n0:Nat)(dr:aa Nat)(ts:aa Nat)(s:St):af St:=T5 n0 dr (Kt ts s.E) (ny ((upto n0).filter (λi=> !dh i dr)++reach s.R 3 ((Kt ts s.E).flatMap λq=>lR 4 q.2)) s.R).1
def WX{n0 n:Nat}{dr ts:aa Nat}{C:Cg}{s s':St}{a:Act}{w:World}(hC:C.n=n0)(h:canon n0 dr ts s=I s')(hm:Mt C n s a w):Mt C n s' a w:=by
 unfold canon T5 at h;generalize hl:Kt ts s.E=l at h;generalize hR:(ny ((upto n0).filter (λi=> !dh i dr)++reach s.R 3 (l.flatMap λq=>lR 4 q.2)) s.R)=R2 at h;have hperm:List.Perm s.R (R2.1++R2.2):=by rw[<-hR];exact mR _ _
 obtain⟨R,Rr⟩:=R2;dsimp only at h hperm;generalize hns:((R.map λq=>q.1).filter λi=>dh i dr|| !zy i n0)=rest at h;unfold XQ at h;split at h
 case h_2=>cases h
 rename_i hb;cases h;rw[zj]at hb;obtain⟨hb1,hb2⟩:=hb;obtain⟨E,hh,hE,hR0,ρ,hag,hsim⟩:=hm
 let ρ':Gh:=⟨λj=>ρ.v ((upto n0++rest).getD j 0),λj=>ρ.b ((upto n0++rest).getD j 0)⟩
 have hget:∀i,(dh i rest|| !dh i dr&&zy i n0)=J->(upto n0++rest)[mI n0 dr rest i]? =I i:=λi hi=>by
  unfold mI;cases hd:dh i dr with
  |true=>
   rw[hd]at hi;have hi:dh i rest=J:=by simpa using hi
   show (upto n0++rest)[n0+lV rest i]? =I i;rw[wC (by rw[sA];omega),sA,Nat.add_sub_cancel_left];exact sP (fk.1 hi)
  |false=>
   rw[hd]at hi;show (upto n0++rest)[lV (upto n0++rest) i]? =I i;refine sP ?_;rw[yL]at hi;rcases hi with hi|hi
   ·exact yF _ (fk.1 hi)
   ·refine yE _ (TY ?_);simpa [yt]using hi
 have hp:∀i,(dh i rest|| !dh i dr&&zy i n0)=J->ρ'.v (mI n0 dr rest i)=ρ.v i/\ρ'.b (mI n0 dr rest i)=ρ.b i:=λi hi=>by
  have e:(upto n0++rest).getD (mI n0 dr rest i) 0=i:=by rw[xY,hget i hi];rfl
  exact⟨by show ρ.v ((upto n0++rest).getD (mI n0 dr rest i) 0)=_;rw[e],by show ρ.b ((upto n0++rest).getD (mI n0 dr rest i) 0)=_;rw[e]⟩
 have hll:(upto n0++rest).length=n0+rest.length:=by rw[zl,sA]
 have hlt:∀i,(dh i rest|| !dh i dr&&zy i n0)=J->mI n0 dr rest i<n0+rest.length:=λi hi=>by
  rw[<-hll];exact(zY.1 (hget i hi)).1
 have hres:aX.res ρ' (R.map λq=>(mI n0 dr rest q.1,Hv (mI n0 dr rest) q.2))=aX.res ρ R:=by
  unfold aX.res;rw[yh];refine zZ λq hq=> ?_;have hbq:=zu.1 hb2 q hq;rw[zj]at hbq;have hm:=hbq.1;have hbq:=hbq.2;obtain⟨i,r⟩:=q;cases r with
  |row t l=>show cG.row (ρ'.v (mI n0 dr rest i)) t l= .row (ρ.v i) t l;rw[(hp i hm).1]
  |box T cs=>
   show cG.box (ρ'.b (mI n0 dr rest i)) T ((cs.map (kH (mI n0 dr rest) 4)).map (cc.sub ρ'))= .box (ρ.b i) T (cs.map (cc.sub ρ));rw[(hp i hm).2,yh]
   congr 1
   exact zZ λc hc=>iC hp 4 (zu.1 hbq c hc)
 have hp2:List.Perm (aX.res ρ s.R) (aX.res ρ (R++Rr)):=hperm.map _;have hsim2:=hsim.perm hp2;rw[jN]at hsim2;have hless:=hsim2.less (List.sublist_append_left _ _);refine⟨l.map λq=>(q.1,kH (mI n0 dr rest) 4 q.2),va _,λq hq=> ?_,λq hq=> ?_,ρ',⟨λi hi=> ?_,?_⟩,?_⟩
 ·obtain⟨q',h1,rfl⟩:=zL.1 hq;exact jW hlt 4 (zu.1 hb1 q' h1)
 ·obtain⟨q',h1,rfl⟩:=zL.1 hq;have hbq:=zu.1 hb2 q' h1;rw[zj]at hbq;have hm:=hbq.1;have hbq:=hbq.2;refine⟨hlt _ hm,?_⟩;obtain⟨i,r⟩:=q';cases r with
  |row t l=>trivial
  |box T cs=>
   intro c hc;obtain⟨c',h3,rfl⟩:=zL.1 hc;exact jW hlt 4 (zu.1 hbq c' h3)
 ·rw[hC]at hi;have e:(upto n0++rest).getD i 0=i:=by
   rw[xY,List.getElem?_append_left (by rw[sA];exact hi),Vm hi];rfl
  have:=hag.1 i (by rw[hC];exact hi);exact⟨by show C.ρ.v i=ρ.v ((upto n0++rest).getD i 0);rw[e];exact this.1,by show C.ρ.b i=ρ.b ((upto n0++rest).getD i 0);rw[e];exact this.2⟩
 ·rw[hC];show n0<=n0+rest.length;exact Nat.le_add_right _ _
 ·rw[hres];refine⟨hless.defers,hless.size,λt av ht=> ?_,hless.good⟩;have e:∀(l:Env),(∀q∈l,kG (λi=>dh i rest|| !dh i dr&&zy i n0) 4 q.2=J)->Env.sub ρ' (l.map λq=>(q.1,kH (mI n0 dr rest) 4 q.2))=Env.sub ρ l:=λl hl=>by
   unfold Env.sub;rw[yh];exact zZ λq hq=>by
    show (q.1,(kH (mI n0 dr rest) 4 q.2).sub ρ')=_;rw[iC hp 4 (hl q hq)]
  rw[e l (λq hq=>zu.1 hb1 q hq),Env.eF]at ht;obtain⟨d,hd,rfl⟩:=zk.1 ht;rw[<-hl]at hd;exact hless.slots t _ (by rw[Env.eF,hh t d (R6 ts t d hd)];rfl)
def rdC{γ:Type}(n0:Nat)(dr ts:aa Nat)(rd:St->af γ)(s:St):af γ:=(canon n0 dr ts s).bind rd
def al4{γ:Type}{n0 n:Nat}{dr ts:aa Nat}{rd:St->af γ}{pat:γ->St}(h:qk n0 n rd pat):qk n0 n (rdC n0 dr ts rd) pat:=λC s p a w hC hr hm=>by
 obtain⟨s',h1,h2⟩:=zn.1 hr;exact h C s' p a w hC h2 (WX hC h1 hm)
def qT{β:Type}(f:β->β)(j:Nat)(l:aa β):aa β:=List.rec (λ_=>[]) (λb l ih j=>match zg j 0 with
 |true=>f b::l
 |false=>b::ih (j-1)) l j
def th{β γ:Type}{f:β->β}{g g':β->γ}:∀(l:aa β) (j:Nat),(∀b∈l,g (f b)=g' b)->(∀b∈l,g b=g' b)->(qT f j l).map g=l.map g'
 |[],_,_,_=>rfl
 |b::l,j,h1,h2=>by
  show (match zg j 0 with
   |true=>f b::l
   |false=>b::qT f (j-1) l).map g=_
  split
  ·rw[z7,z7,h1 b zm,zZ λc hc=>h2 c (zK _ hc)]
  ·rw[z7,z7,h2 b zm,th l (j-1) (λc hc=>h1 c (zK _ hc)) (λc hc=>h2 c (zK _ hc))]
def tq{β:Type}{f:β->β}{p:β->Prop}:∀(l:aa β) (j:Nat),(∀b∈l,p (f b))->(∀b∈l,p b)->∀b∈qT f j l,p b
 |[],_,_,_,b,hb=>by cases hb
 |c::l,j,h1,h2,b,hb=>by
  have hb:b∈(match zg j 0 with
   |true=>f c::l
   |false=>c::qT f (j-1) l):=hb
  split at hb
  ·rcases zF.1 hb with rfl|hb
   ·exact h1 c zm
   ·exact h2 b (zK _ hb)
  ·rcases zF.1 hb with rfl|hb
   ·exact h2 b zm
   ·exact tq l (j-1) (λc hc=>h1 c (zK _ hc)) (λc hc=>h2 c (zK _ hc)) b hb
def sw(nx:Nat)(p:aa Nat):AV->AV:=List.rec (λd=>match d with
 | .lit (.slice S 0 0)=> .own nx
 |d=>d) (λj _ ih d=>match d with
 | .agg cs=> .agg (qT ih j cs)
 | .iM cs=> .iM (qT ih j cs)
 |d=>d) p
def td{ρ:Gh}{nx:Nat}:∀(p:aa Nat) (d:AV),cI nx d->(sw nx p d).sub (ρ.fH nx (.slice S 0 0))=d.sub ρ
 |[],d,h=>by
  show cc.sub _ (match d with
   | .lit (.slice S 0 0)=> .own nx
   |d=>d)=_
  split
  ·rw[dF,bR];simp[Gh.fH]
  ·exact(h.sub (.fH ρ nx _)).symm
 |j::p,d,h=>by
  show cc.sub _ (match d with
   | .agg cs=> .agg (qT (sw nx p) j cs)
   | .iM cs=> .iM (qT (sw nx p) j cs)
   |d=>d)=_
  split
  ·rw[eC,eC,th _ j (λb hb=>td p b (h.nE b hb)) (λb hb=>((h.nE b hb).sub (.fH ρ nx _)).symm)]
  ·rw[jI,jI,th _ j (λb hb=>td p b (h.Dz b hb)) (λb hb=>((h.Dz b hb).sub (.fH ρ nx _)).symm)]
  ·exact(h.sub (.fH ρ nx _)).symm
def tK{nx:Nat}:∀(p:aa Nat) (d:AV),cI nx d->cI (nx+1) (sw nx p d)
 |[],d,h=>by
  show cI (nx+1) (match d with
   | .lit (.slice S 0 0)=> .own nx
   |d=>d)
  split
  ·exact .own _ (zB _)
  ·exact h.mono (yx _)
 |j::p,d,h=>by
  show cI (nx+1) (match d with
   | .agg cs=> .agg (qT (sw nx p) j cs)
   | .iM cs=> .iM (qT (sw nx p) j cs)
   |d=>d)
  split
  ·exact .agg _ (tq _ j (λb hb=>tK p b (h.nE b hb)) (λb hb=>(h.nE b hb).mono (yx _)))
  ·exact .iM _ (tq _ j (λb hb=>tK p b (h.Dz b hb)) (λb hb=>(h.Dz b hb).mono (yx _)))
  ·exact h.mono (yx _)
def alP(t:Nat)(p:aa Nat)(e:Nat)(s:St):St:=match cJ s.E t with
 |some d=>⟨k8 t (sw s.nx p d) s.E,(s.nx, .row e [])::s.R,s.nx+1⟩
 |none=>s
def lz(id j:Nat)(p:aa Nat)(e:Nat)(s:St):St:=match fC s.R id with
 |some (.box T cs)=>⟨s.E,(s.nx, .row e [])::rJ id (.box T (qT (sw s.nx p) j cs)) s.R,s.nx+1⟩
 |_=>s
def PF{ρ:Gh}{R:aX}{nx e:Nat}:aX.res (ρ.fH nx (.slice S 0 0)) ((nx,IR.row e [])::R)=cG.row (.slice S 0 0) e []::aX.res (ρ.fH nx (.slice S 0 0)) R:=by
 show cG.row ((ρ.fH nx (.slice S 0 0)).v nx) e []::_=_;simp[Gh.fH,aX.res]
def aau{C:Cg}{n t e:Nat}{p:aa Nat}{s:St}{a:Act}{w:World}(hm:Mt C n s a w):Mt C n (alP t p e s) a w:=by
 unfold alP;split
 case h_2=>exact hm
 rename_i d hg;obtain⟨E,hh,hE,hR,ρ,hag,hsim⟩:=hm;have ht:=M0 (C:=C.C) S e hsim.good;have hs:=hsim.tr ht;have hs1:E.sub ρ=E.sub (ρ.fH s.nx (.slice S 0 0)):=hE.sub (.fH ρ s.nx _);have hr1:aX.res ρ s.R=aX.res (ρ.fH s.nx (.slice S 0 0)) s.R:=hR.res (.fH ρ s.nx _);have hd:cI s.nx d:=hE _ (Env.get_mem (hh t d hg));refine⟨(t,sw s.nx p d)::E,hh.put t _,Env.tJ (hE.mono (yx _)) (tK p d hd),λq hq=> ?_,ρ.fH s.nx (.slice S 0 0),⟨hag.1.trans (.fH ρ s.nx _) hag.2,zH hag.2 (yx _)⟩,?_⟩
 ·rcases zF.1 hq with rfl|hq
  ·exact⟨zB _,trivial⟩
  ·exact(hR.mono (yx _)) q hq
 ·show rU C.C n ((t,cc.sub _ (sw s.nx p d))::E.sub _) (aX.res _ ((s.nx,IR.row e [])::s.R)) a w;rw[PF,<-hr1,<-hs1,td p d hd];refine⟨hs.defers,hs.size,λu av hu=> ?_,hs.good⟩;by_cases htu:t=u
  ·subst htu;rw[Env.eE]at hu;cases hu;exact hs.slots t _ (by rw[Env.eF,hh t _ hg,yo])
  ·rw[Env.dy _ _ htu]at hu;exact hs.slots u av hu
def aeX{C:Cg}{n id j e:Nat}{p:aa Nat}{s:St}{a:Act}{w:World}(hm:Mt C n s a w):Mt C n (lz id j p e s) a w:=by
 unfold lz;split
 case h_2=>exact hm
 rename_i T cs hg;obtain⟨E,hh,hE,hR,ρ,hag,hsim⟩:=hm;have ht:=M0 (C:=C.C) S e hsim.good;have hs:=hsim.tr ht;have hs1:E.sub ρ=E.sub (ρ.fH s.nx (.slice S 0 0)):=hE.sub (.fH ρ s.nx _);have hr1:aX.res ρ s.R=aX.res (ρ.fH s.nx (.slice S 0 0)) s.R:=hR.res (.fH ρ s.nx _);obtain⟨hid,hcs⟩:=AP hg hR;have hr2:aX.res (ρ.fH s.nx (.slice S 0 0)) (rJ id (.box T (qT (sw s.nx p) j cs)) s.R)=aX.res ρ s.R:=by
  obtain⟨i,h1,h2,_⟩:=dV hg;rw[h2,se,<-hr1];have e1:IR.res (ρ.fH s.nx (.slice S 0 0)) id (.box T (qT (sw s.nx p) j cs))=IR.res ρ id (.box T cs):=by
   show cG.box ((ρ.fH s.nx (.slice S 0 0)).b id) T ((qT (sw s.nx p) j cs).map (cc.sub _))= .box (ρ.b id) T (cs.map (cc.sub ρ));rw[th cs j (λb hb=>td p b (hcs b hb)) (λb hb=>((hcs b hb).sub (.fH ρ s.nx _)).symm)];rfl
  rw[e1];have h3:=gC (ρ:=ρ) h1;exact List.ext_getElem? λk=>by
   by_cases hk:i=k
   ·subst hk;rw[List.getElem?_set_self (zY.1 h3).1,h3]
   ·rw[List.getElem?_set_ne hk]
 refine⟨E,hh,hE.mono (yx _),λq hq=> ?_,ρ.fH s.nx (.slice S 0 0),⟨hag.1.trans (.fH ρ s.nx _) hag.2,zH hag.2 (yx _)⟩,?_⟩
 ·rcases zF.1 hq with rfl|hq
  ·exact⟨zB _,trivial⟩
  ·refine nN hg (hR.mono (yx _)) ?_ q hq;exact tq cs j (λb hb=>tK p b (hcs b hb)) (λb hb=>(hcs b hb).mono (yx _))
 ·show rU C.C n (E.sub _) (aX.res _ ((s.nx,IR.row e [])::rJ id (.box T (qT (sw s.nx p) j cs)) s.R)) a w;rw[PF,hr2,<-hs1];exact hs
def atA(p:aa Nat):AV->af Nat:=List.rec (λd=>match d with
 | .own i=>I i
 |_=>S) (λj _ ih d=>match d with
 | .agg cs=>(cs[j]?).bind ih
 | .iM cs=>(cs[j]?).bind ih
 |_=>S) p
def aui(id j:Nat)(p:aa Nat)(s:St):St:=match fC s.R id with
 |some (.box _ cs)=>match (cs[j]?).bind (atA p)with
  |some i=>s.Lb i
  |none=>s
 |_=>s
def rdF{γ:Type}(f:St->St)(rd:St->af γ)(s:St):af γ:=rd (f s)
def cE(f:St->St):Prop:=∀(C:Cg) n s a w,Mt C n s a w->Mt C n (f s) a w
def cE.s(t:Nat)(p:aa Nat)(e:Nat):cE (alP t p e):=λ_ _ _ _ _ h=>aau h
def cE.c(id j:Nat)(p:aa Nat)(e:Nat):cE (lz id j p e):=λ_ _ _ _ _ h=>aeX h
def cE.fc(id j:Nat)(p:aa Nat):cE (aui id j p):=λ_ _ _ _ _ h=>by
 unfold aui;split
 ·split
  ·exact h.Lb _
  ·exact h
 ·exact h
def aid{γ:Type}{n0 n:Nat}{f:St->St}{rd:St->af γ}{pat:γ->St}(hf:cE f)(h:qk n0 n rd pat):qk n0 n (rdF f rd) pat:=λC s p a w hC hr hm=>h C (f s) p a w hC hr (hf C n s a w hm)
end Go.Iv
end
noncomputable section
namespace Go.Iv
variable [U:qz] [L:mO]
open Go Go.RowKit
section
variable {P:Program} {f:FuncId} {args:aa AV} {σp σr:aa cG} {Φ:AV->aa cG->Prop}
def Da{σ:aa cG}{w:World}{A:Nat->Prop}(hd:Hd A σ w)(hnd:(bF σ).Nodup):Good ⟨w,A,bF σ⟩ σ w:=
 have hal:∀b,A b->al ⟨w,A,bF σ⟩ σ b:=λb hA=>⟨.inl hA,λhx=>hd.2 b hx hA⟩
 ⟨Kp.refl _ _,λr hr=>(hd.1 r hr).mono (λb _ hA=>⟨hal b hA,rfl⟩) (λ_ _=>rfl),hnd,λb hb=> .inl hb⟩
def JH{σ σ':aa cG}{X:aa Nat}{C:Cx}{w w':World}(h:Tr C X σ w σ' w')(hX:∀b∈X,b∈bF σ):Tr C (bF σ) σ w σ' w':=
 ⟨h.good,⟨h.kp.os,h.kp.tape,h.kp.output,h.kp.size,λk hk hn=>h.kp.block k hk λhx=>hn (hX k hx)⟩,λb hb hA=>⟨(h.al b hb hA).1,hA.2⟩⟩
def Fn.ZD(h:Fn P f args σp Φ):Fn P f args (σp++σr) (λa s=>∃so,Φ a so/\s=so++σr):=λw A vs hrel hd0 hnd0=>by
 have hg:=Da hd0 hnd0;generalize hC:(⟨w,A,bF (σp++σr)⟩:Cx)=C at hg ⊢;have hdis:=hg.DS;rw[gv]at hdis;obtain⟨d1,d2,d3⟩:=yD.1 hdis;have hlt:∀b∈bF (σp++σr),b<w.heap.size:=λb hb=>by
  obtain⟨s,h1,h2⟩:=bS.1 hb;exact(hg.res s h1).lt h2
 have hal0:∀b,A b->al C (σp++σr) b:=λb hA=>by
  subst hC;exact⟨.inl hA,λhx=>hd0.2 b hx hA⟩
 have hd:Hd (al C (σp++σr)) σp w:=⟨λr hr=>hg.res r (yE _ hr),λb hb hA=>hA.2 (bI.2 (.inl hb))⟩;refine(h w (al C (σp++σr)) vs (hrel.mono λb _ hA=>⟨hal0 b hA,rfl⟩) hd d1).mono λe w' ⟨v,av,σo,q1,q2,q3,q4⟩=> ?_;have hown:∀b∈bF σo,b∈bF σp\/w.heap.size<=b:=q3.good.own;have hsub:∀b,al ⟨w,al C (σp++σr),bF σp⟩ σo b->al C (σo++σr) b:=λb hb=>by
  obtain⟨hb1,hb2⟩:=hb;rcases hb1 with hb1|hb1|hb1
  ·exact⟨hb1.1,λhx=>(bI.1 hx).elim hb2 (λh=>hb1.2 (bI.2 (.inr h)))⟩
  ·have hbp:b∈bF σp:=hb1;refine⟨?_,λhx=>(bI.1 hx).elim hb2 (λh=>d3 b hbp b h rfl)⟩;rcases hg.own b (bI.2 (.inl hbp))with h|h
   ·exact .inr (.inl h)
   ·exact .inr (.inr h)
  ·have hbw:w.heap.size<=b:=hb1;exact⟨.inr (.inr (zH hg.kept.size hbw)),λhx=>(bI.1 hx).elim hb2 (λh=>by have:=hlt b (bI.2 (.inr h));omega)⟩
 have ht:=Av hg (λb hA _=> .inl hA) q3 (λr hr=>(q3.good.res r hr).mono (λb hb hA=>⟨hsub b hA,rfl⟩) (λ_ _=>rfl));exact⟨v,av,σo++σr,q1,⟨σo,q2,rfl⟩,JH ht (λb hb=>bI.2 (.inl hb)),q4.mono λb hb hA=>⟨hsub b hA,rfl⟩⟩
def Fn.av1{args':aa AV}{σr:aa cG}(h:Fn P f args' [] Φ)(hv:∀(A:Nat->Prop) (w:World) (us:aa Value),Hd A σr w->bJ A w args us->bJ (λb=>A b\/b∈bF σr) w args' us)
  (hc:∀av σo,Φ av σo->Cl av/\∀r∈σo,ClR r):Fn P f args σr (λa s=>∃so,Φ a so/\s=so++σr):=λw A vs hrel hd0 hnd0=>by
 have hg:=Da hd0 hnd0;generalize hC:(⟨w,A,bF σr⟩:Cx)=C at hg ⊢;have hal0:∀b,A b->al C σr b:=λb hA=>by
  subst hC;exact⟨.inl hA,λhx=>hd0.2 b hx hA⟩
 have h3:=hv (al C σr) w vs hg.hd (hrel.mono λb _ hA=>⟨hal0 b hA,rfl⟩);refine(h w _ vs h3 ⟨λr hr=>(by cases hr),λb hb=>(by cases hb)⟩ List.nodup_nil).mono λe w' ⟨v,av,σo,q1,q2,q3,q4⟩=> ?_;obtain⟨c1,c2⟩:=hc av σo q2;have ht:=Av (σp:=[]) (σr:=σr) hg (λb hA _=>hA) q3 (λr hr=>c2 r hr _ _ w' (q3.good.res r hr));exact⟨v,av,σo++σr,q1,⟨σo,q2,rfl⟩,JH (σ:=σr) ht (λb hb=>by cases hb),c1 _ _ w' v q4⟩
end
def amd(n:Nat):AV->Bool:=kG (λ_=>G) n
def By{A:Nat->Prop}{w:World}{cs:aa AV}{v:Value}(h:Rel A w (.fp cs) v):∃(b o:Nat) (us:aa Value),v= .pointer (I ⟨b,o,S⟩)/\b<w.heap.size/\A b/\(∀j v,us[j]? =I v->w.cell? ⟨b,o+j,S⟩=I v)/\bJ A w cs us:=by
 generalize ha:cc.fp cs=a at h;cases h with
 |fp cs' b o us hb hA hl hc hr=>cases ha;exact⟨b,o,us,rfl,hb,hA,hc,hl,hr⟩
 |_=>cases ha
def CE(lb:Bool)(rd:Nat->af IR)(n:Nat):AV->AV:=Nat.rec (λd=>match d with
 | .own id=>match rd id with
  |some (.row t l)=> .sl t l
  |_=> .own id
 |d=>d) (λ_ ih d=>match d with
 | .own id=>match rd id with
  |some (.row t l)=> .sl t l
  |_=> .own id
 | .ptr id 0=>match lb with
  |true=>match rd id with
   |some (.box _ cs)=> .fp (cs.map ih)
   |_=> .ptr id 0
  |false=> .ptr id 0
 | .agg cs=> .agg (cs.map ih)
 | .fn f cs=> .fn f (cs.map ih)
 |d=>d) n
def Uu{R:aX}{ρ:Gh}{A:Nat->Prop}{w:World}{v:Value}{id T:Nat}{cs:aa AV}(hd:Hd A (aX.res ρ R) w)(hg:fC R id=I (.box T cs))(hr:Rel A w ((cc.ptr (dc:=U.dc) id 0).sub ρ) v):
  Rel (λb=>A b\/b∈bF (aX.res ρ R)) w (.fp (cs.map (cc.sub ρ))) v:=by
 obtain⟨i,hi,_⟩:=dV hg;have hres:=gC (ρ:=ρ) hi;rw[eT]at hr;exact Vw.box i hres A w v hd hr
def RK{lb:Bool}{R:aX}{ρ:Gh}{A:Nat->Prop}{w:World}(hd:Hd A (aX.res ρ R) w):∀(n:Nat) {d:AV} {v:Value},Rel (λb=>A b\/b∈bF (aX.res ρ R)) w (d.sub ρ) v->Rel (λb=>A b\/b∈bF (aX.res ρ R)) w ((CE lb (fC R) n d).sub ρ) v:=by
 have hown:∀{id:Nat} {v:Value},Rel (λb=>A b\/b∈bF (aX.res ρ R)) w ((cc.own (dc:=U.dc) id).sub ρ) v->Rel (λb=>A b\/b∈bF (aX.res ρ R)) w ((match fC R id with
  |some (.row t l)=>cc.sl t l
  |_=> .own id).sub ρ) v:=λ{id v} h=>by
  rw[dF]at h;rw[h.cH];exact Uw hd (by rw[dF];exact .lit _)
 intro n;induction n with
 |zero=>
  intro d v h;cases d<;>first|exact h|exact hown h
 |succ n ih=>
  have hL:∀{cs:aa AV} {us:aa Value},bJ (λb=>A b\/b∈bF (aX.res ρ R)) w (cs.map (cc.sub ρ)) us->bJ (λb=>A b\/b∈bF (aX.res ρ R)) w ((cs.map (CE lb (fC R) n)).map (cc.sub ρ)) us:=λ{cs us} h=>
   ⟨by simpa using h.1,λj a u q1 q2=>by
    rw[yh,ya]at q1;obtain⟨c,hc,rfl⟩:=zk.1 q1;exact ih (h.2 j _ u (by rw[ya,hc];rfl) q2)⟩
  intro d v h;cases d with
  |own id=>exact hown h
  |agg cs=>
   show Rel _ w ((cc.agg (cs.map (CE lb (fC R) n))).sub ρ) v;rw[eC]at h ⊢;obtain⟨us,rfl,h2⟩:=h.mV;exact Rel.nE (hL h2)
  |fn f cs=>
   show Rel _ w ((cc.fn f (cs.map (CE lb (fC R) n))).sub ρ) v;rw[qM]at h ⊢;obtain⟨us,rfl,h2⟩:=h.Ux;have h3:=hL h2;exact .fn f _ us h3.1 h3.2
  |ptr id off=>
   cases off with
   |succ o=>exact h
   |zero=>
    cases lb with
    |false=>exact h
    |true=>
     show Rel _ w (cc.sub ρ (match fC R id with
      |some (.box _ cs)=> .fp (cs.map (CE J (fC R) n))
      |_=> .ptr id 0)) v
     split
     ·rename_i T cs hg;have h0:Rel A w ((cc.ptr (dc:=U.dc) id 0).sub ρ) v:=by
       rw[eT]at h ⊢;rw[h.cH];exact .lit _
      obtain⟨b,o,us,rfl,q1,q2,q3,q4⟩:=By (Uu hd hg h0);rw[lq];have q5:=hL q4;exact .fp _ b o us q1 q2 q5.1 q3 q5.2
     ·exact h
  |_=>exact h
def nv(l:aa Nat)(n0 nx:Nat)(i:Nat):Nat:=match zy i n0 with
 |true=>l.getD i 0
 |false=>nx+(i-n0)
def Out.okB(n0:Nat)(x:Out):Bool:=ye n0 x.c&&kG (λi=>zy i x.c) 4 x.d&&x.R.all λq=>zy q.1 x.c&&match q.2 with
 | .box _ cs=>cs.all (kG (λi=>zy i x.c) 4)
 | .row _ _=>J
def U0{α γ β:Type}(q:aa AV->aX->af γ)(t:γ->af β)(out:β->Out)(n0:Nat)(args:aa AV)(nx:Nat)(k:AV->aX->Nat->af α)(F:af α)(Rp Rr:aX)(ns:aa Nat):af α:=
 match zg Rp.length n0&&args.all (kG (λi=>dh i ns) 4)&&Rp.all (λq=>match q.2 with
  | .box _ cs=>cs.all (kG (λi=>dh i ns) 4)
  | .row _ _=>J)with
 |true=>match q (args.map (kH (lV ns) 4)) (Rp.map λq=>(lV ns q.1,Hv (lV ns) q.2))with
  |some g=>match t g with
   |some b=>k (kH (nv ns n0 nx) 4 (out b).d) ((out b).R.map (λq=>(nv ns n0 nx q.1,Hv (nv ns n0 nx) q.2))++Rr) (nx+((out b).c-n0))
   |none=>S
  |none=>F
 |false=>F
def WM{α γ β:Type}(q:aa AV->aX->af γ)(t:γ->af β)(out:β->Out)(n0:Nat)(args:aa AV)(nx:Nat)(k:AV->aX->Nat->af α)(F:af α)(R2:aX×aX):af α:=
 U0 q t out n0 args nx k F R2.1 R2.2 (R2.1.map λq=>q.1)
def orY{γ β:Type}(f0 n0:Nat)(q:aa AV->aX->af γ)(t:γ->af β)(out:β->Out)(F:aW):aW:=λ_ f args R nx k=>match zg f f0 with
 |true=>WM q t out n0 args nx k (F _ f args R nx k) (ny (reach R 3 (args.flatMap (lR 4))) R)
 |false=>F _ f args R nx k
def QY{γ:Type}(q:aa AV->aX->af γ)(ca:γ->aa AV)(cr:γ->aX):Prop:=∀xs R g,q xs R=I g->(∀(ρ:Gh) A w us,bJ A w (xs.map (cc.sub ρ)) us->bJ A w ((ca g).map (cc.sub ρ)) us)/\G1 R (cr g)
def Fn.pre{P:Program}{f:FuncId}{args args':aa AV}{R R':aX}{ρ:Gh}{Φ:AV->aa cG->Prop}(h:Fn P f args' (aX.res ρ R') Φ)(ha:∀A w us,bJ A w args us->bJ A w args' us)(hr:G1 R R'):Fn P f args (aX.res ρ R) Φ:=λw A vs h1 h2 h3=>by
 have hb:bF (aX.res ρ R)=bF (aX.res ρ R'):=Bq hr;rw[hb];refine(h w A vs (ha A w vs h1) ⟨NC hr h2.1,λb hb'=>h2.2 b (by rw[hb];exact hb')⟩ (by rw[<-hb];exact h3)).mono λe w' ⟨v,av,σ',q1,q2,q3,q4⟩=>⟨v,av,σ',q1,q2,⟨q3.good,q3.kp,λb hb' hA=> ?_⟩,q4⟩;refine q3.al b hb' ⟨hA.1,?_⟩;rw[<-hb];exact hA.2
def aio{P:Program}{F:aW}{γ β:Type}{f0 n0:Nat}{q:aa AV->aX->af γ}{ca:γ->aa AV}{cr:γ->aX}{t:γ->af β}{out:β->Out}(hF:gJ P F)(hf:tj P f0)(hq:QY q ca cr)(hm:∀b,(out b).okB n0=J)
  (h:∀g b,t g=I b->Tx P f0 (ca g) (cr g) n0 (out b)):gJ P (orY f0 n0 q t out F):=λα f args R nx k r hr hargs hR=>by
 unfold orY at hr;split at hr
 case h_2=>exact hF α f args R nx k r hr hargs hR
 rename_i hb;have hb:=fM hb;subst hb;unfold WM at hr;generalize hR2:ny (reach R 3 (args.flatMap (lR 4))) R=R2 at hr;have hperm:List.Perm R (R2.1++R2.2):=by rw[<-hR2];exact mR _ _
 obtain⟨Rp,Rr⟩:=R2;dsimp only at hr hperm;generalize hns:(Rp.map λq=>q.1)=ns at hr;unfold U0 at hr;split at hr
 case h_2=>exact hF α f args R nx k r hr hargs hR
 rename_i hchk;rw[zj,zj]at hchk;obtain⟨⟨hc0,hc1⟩,hc2⟩:=hchk;have hc0:=fM hc0;split at hr
 case h_2=>exact hF α f args R nx k r hr hargs hR
 rename_i g hg;split at hr
 case h_2=>cases hr
 rename_i b hb;have hlen:ns.length=n0:=by rw[<-hns,zA,hc0]
 have hRs:∀p∈Rp++Rr,p.1<nx/\p.2.cI nx:=λp hp=>hR p (hperm.mem_iff.2 hp);have hnsl:∀i∈ns,i<nx:=λi hi=>by
  rw[<-hns]at hi;obtain⟨p,hp,rfl⟩:=zL.1 hi;exact(hRs p (yE _ hp)).1
 obtain⟨hqa,hqr⟩:=hq _ _ g hg;have hok:=hm b;unfold Out.okB at hok;rw[zj,zj]at hok;obtain⟨⟨ho0,ho1⟩,ho2⟩:=hok;have ho0:n0<=(out b).c:=by simpa using ho0
 refine⟨hf,λρ=> ?_⟩
 let ρ0:Gh:=⟨λj=>ρ.v (ns.getD j 0),λj=>ρ.b (ns.getD j 0)⟩
 have hp:∀i,dh i ns=J->ρ0.v (lV ns i)=ρ.v i/\ρ0.b (lV ns i)=ρ.b i:=λi hi=>by
  have:=sP (fk.1 hi);have e:ns.getD (lV ns i) 0=i:=by rw[xY,this];rfl
  exact⟨by show ρ.v (ns.getD (lV ns i) 0)=_;rw[e],by show ρ.b (ns.getD (lV ns i) 0)=_;rw[e]⟩
 have ea:(args.map (kH (lV ns) 4)).map (cc.sub ρ0)=args.map (cc.sub ρ):=by
  rw[yh];exact zZ λc hc=>iC hp 4 (zu.1 hc1 c hc)
 have er:aX.res ρ0 (Rp.map λq=>(lV ns q.1,Hv (lV ns) q.2))=aX.res ρ Rp:=by
  unfold aX.res;rw[yh];refine zZ λq hq=> ?_;have hm:dh q.1 ns=J:=fk.2 (by rw[<-hns];exact zL.2 ⟨q,hq,rfl⟩);have hbq:=zu.1 hc2 q hq;obtain⟨i,rr⟩:=q;cases rr with
  |row t l=>show cG.row (ρ0.v (lV ns i)) t l= .row (ρ.v i) t l;rw[(hp i hm).1]
  |box T cs=>
   show cG.box (ρ0.b (lV ns i)) T ((cs.map (kH (lV ns) 4)).map (cc.sub ρ0))= .box (ρ.b i) T (cs.map (cc.sub ρ));rw[(hp i hm).2,yh]
   congr 1
   exact zZ λc hc=>iC hp 4 (zu.1 hbq c hc)
 have h1:=Fn.pre (h g b hb ρ0) (hqa ρ0) hqr;rw[ea,er]at h1;have h2:=Fn.ZD (σr:=aX.res ρ Rr) h1;rw[<-jN]at h2;have hp2:List.Perm (aX.res ρ R) (aX.res ρ (Rp++Rr)):=hperm.map _;have h3:Fn P f (args.map (cc.sub ρ)) (aX.res ρ R) (λa s=>∃so,(∃ρ':Gh,pT n0 ρ0 ρ'/\a=(out b).d.sub ρ'/\List.Perm so (aX.res ρ' (out b).R))/\s=so++aX.res ρ Rr):=λw A vs q1 q2 q3=>by
  have hbm:∀x,x∈bF (aX.res ρ (Rp++Rr))↔x∈bF (aX.res ρ R):=λx=>(hp2.symm.filterMap _).mem_iff;refine(h2 w A vs q1 ⟨λr hr=>q2.1 r (hp2.mem_iff.2 hr),λx hx=>q2.2 x ((hbm x).1 hx)⟩ ((hp2.filterMap _).nodup_iff.1 q3)).mono λe w' ⟨v,av,σ',g1,g2,g3,g4⟩=> ?_;have hal:∀s x,al ⟨w,A,bF (aX.res ρ (Rp++Rr))⟩ s x->al ⟨w,A,bF (aX.res ρ R)⟩ s x:=λs x hx=>⟨hx.1.imp id (Or.imp (λh=>(hbm x).1 h) id),hx.2⟩;refine⟨v,av,σ',g1,g2,⟨⟨⟨g3.kp.os,g3.kp.tape,g3.kp.output,g3.kp.size,λk hk hn=>g3.kp.block k hk λhx=>hn ((hbm k).1 hx)⟩,λrr hrr=>(g3.good.res rr hrr).mono (λx _ hA=>⟨hal _ x hA,rfl⟩) (λ_ _=>rfl),g3.good.DS,λx hx=>(g3.good.own x hx).imp (λh=>(hbm x).1 h) id⟩,⟨g3.kp.os,g3.kp.tape,g3.kp.output,g3.kp.size,λk hk hn=>g3.kp.block k hk λhx=>hn ((hbm k).1 hx)⟩,λx hx hA=> ?_⟩,g4.mono λx _ hA=>⟨hal _ x hA,rfl⟩⟩;have hA':al ⟨w,A,bF (aX.res ρ (Rp++Rr))⟩ (aX.res ρ (Rp++Rr)) x:=⟨hA.1.imp id (Or.imp (λh=>(hbm x).2 h) id),λh=>hA.2 ((hbm x).1 h)⟩;exact⟨hal _ x (g3.al x hx hA').1,λh=>hA.2 h⟩
 refine Fn.mono h3 λa s ⟨so,⟨ρ1,g0,g1,g2⟩,g3⟩=> ?_
 let ρ2:Gh:=⟨λi=>if i<nx then ρ.v i else ρ1.v (n0+(i-nx)),λi=>if i<nx then ρ.b i else ρ1.b (n0+(i-nx))⟩
 have hag:pT nx ρ ρ2:=λi hi=>⟨by simp only[ρ2,bD hi],by simp only[ρ2,bD hi]⟩;have hb2:∀i,zy i (out b).c=J->(ρ2.v (nv ns n0 nx i)=ρ1.v i/\ρ2.b (nv ns n0 nx i)=ρ1.b i)/\nv ns n0 nx i<nx+((out b).c-n0):=λi hi=>by
  have hi:i<(out b).c:=by simpa [yt]using hi
  unfold nv;split
  ·rename_i hlt;have hlt:i<n0:=by simpa [yt]using hlt
   obtain⟨e1,e2⟩:=g0 i hlt;have hlt2:i<ns.length:=by rw[hlen];exact hlt
   have hmem:ns.getD i 0∈ns:=by rw[xY,zq hlt2];exact xy hlt2
   have h4:=hnsl _ hmem;refine⟨⟨?_,?_⟩,by omega⟩
   ·show (if ns.getD i 0<nx then ρ.v (ns.getD i 0)else _)=_;rw[bD h4];exact e1
   ·show (if ns.getD i 0<nx then ρ.b (ns.getD i 0)else _)=_;rw[bD h4];exact e2
  ·rename_i hlt;have hlt:¬i<n0:=by
    intro hx;have:zy i n0=J:=by rw[yt];exact hx
    rw[this]at hlt;cases hlt
   have h5:¬nx+(i-n0)<nx:=by omega
   have h6:n0+(nx+(i-n0)-nx)=i:=by omega
   refine⟨⟨?_,?_⟩,by omega⟩
   ·show (if nx+(i-n0)<nx then _ else ρ1.v (n0+(nx+(i-n0)-nx)))=_;rw[bL h5,h6]
   ·show (if nx+(i-n0)<nx then _ else ρ1.b (n0+(nx+(i-n0)-nx)))=_;rw[bL h5,h6]
 have hres:aX.res ρ2 ((out b).R.map λq=>(nv ns n0 nx q.1,Hv (nv ns n0 nx) q.2))=aX.res ρ1 (out b).R:=by
  unfold aX.res;rw[yh];refine zZ λq hq=> ?_;have hbq:=zu.1 ho2 q hq;rw[zj]at hbq;obtain⟨i,rr⟩:=q;cases rr with
  |row t l=>show cG.row (ρ2.v (nv ns n0 nx i)) t l= .row (ρ1.v i) t l;rw[(hb2 i hbq.1).1.1]
  |box T cs=>
   show cG.box (ρ2.b (nv ns n0 nx i)) T ((cs.map (kH (nv ns n0 nx) 4)).map (cc.sub ρ2))= .box (ρ1.b i) T (cs.map (cc.sub ρ1));rw[(hb2 i hbq.1).1.2,yh]
   congr 1
   exact zZ λc hc=>iC (λi hi=>(hb2 i hi).1) 4 (zu.1 hbq.2 c hc)
 refine⟨_,_,_,hr,by omega,jW (λi hi=>(hb2 i hi).2) 4 ho1,λq hq=> ?_,ρ2,hag,?_,?_⟩
 ·rcases zU.1 hq with hq|hq
  ·obtain⟨q',h4,rfl⟩:=zL.1 hq;have hbq:=zu.1 ho2 q' h4;rw[zj]at hbq;refine⟨(hb2 _ hbq.1).2,?_⟩;obtain⟨i,rr⟩:=q';cases rr with
   |row t l=>trivial
   |box T cs=>
    intro c hc;obtain⟨c',h5,rfl⟩:=zL.1 hc;exact jW (λi hi=>(hb2 i hi).2) 4 (zu.1 hbq.2 c' h5)
  ·have:=hRs q (yF _ hq);exact⟨by omega,this.2.mono (by omega)⟩
 ·rw[g1];exact(iC (λi hi=>(hb2 i hi).1) 4 ho1).symm
 ·rw[g3,jN,hres,<-aX.cI.res (R:=Rr) (λq hq=>hRs q (yF _ hq)) hag];exact g2.append_right _
def scD(n:Nat):AV->Bool:=Nat.rec (λd=>match d with
 | .lit _=>J
 | .own _=>J
 | .ptr _ _=>J
 |_=>G) (λ_ ih d=>match d with
 | .lit _=>J
 | .own _=>J
 | .ptr _ _=>J
 | .agg cs=>cs.all ih
 | .iM cs=>cs.all ih
 |_=>G) n
def Vl{ρ:Gh}:∀(n:Nat) {d:AV},scD n d=J->Cl (d.sub ρ):=λn=>by
 induction n with
 |zero=>
  intro d h;cases d<;>first|(cases h;done)|(rw[bR];exact .lit _)|(rw[dF];exact .lit _)|(rw[eT];exact .lit _)
 |succ n ih=>
  have hL:∀{cs:aa AV},cs.all (scD n)=J->Ho (cs.map (cc.sub ρ)):=λ{cs} h=>by
   induction cs with
   |nil=>exact .nil
   |cons c cs ihc=>
    rw[List.all_cons,zj]at h;exact .cons (ih h.1) (ihc h.2)
  intro d h;cases d<;>first|(cases h;done)|(rw[bR];exact .lit _)|(rw[dF];exact .lit _)|(rw[eT];exact .lit _)|skip
  ·rw[eC];exact .agg (hL h)
  ·rw[jI];exact .iM (hL h)
def QO{n:Nat}{ρ:Gh}:∀cs:aa AV,cs.all (scD n)=J->Ho (cs.map (cc.sub ρ))
 |[],_=> .nil
 |c::cs,h=>by
  rw[List.all_cons,zj]at h;exact .cons (Vl n h.1) (QO cs h.2)
def Out.Ya(sc:Nat->Bool)(x:Out):Bool:=scD 4 x.d&&x.R.all λq=>match q.2 with
 | .row t _=>sc t
 | .box _ cs=>cs.all (scD 3)
def abp{sc:Nat->Bool}(hsc:∀t,sc t=J->∀x,Ho (U.cells t x)){x:Out}(h:x.Ya sc=J)(ρ:Gh):Cl (x.d.sub ρ)/\∀r∈aX.res ρ x.R,ClR r:=by
 unfold Out.Ya at h;rw[zj]at h;refine⟨Vl 4 h.1,λr hr=> ?_⟩;obtain⟨q,hq,rfl⟩:=zL.1 hr;have hb:=zu.1 h.2 q hq;obtain⟨i,rr⟩:=q;cases rr with
 |row t l=>exact ClR.row (hsc t hb)
 |box T cs=>
  exact ClR.box (QO cs hb)
def DT{α γ β:Type}(q:aa AV->af γ)(t:γ->af β)(out:β->Out)(args:aa AV)(R:aX)(nx:Nat)(k:AV->aX->Nat->af α)(F:af α):af α:=
 match args.all (amd 4)with
 |true=>match q args with
  |some g=>match t g with
   |some b=>k (kH (λi=>i+nx) 4 (out b).d) ((out b).R.map (λq=>(q.1+nx,Hv (λi=>i+nx) q.2))++R) ((out b).c+nx)
   |none=>S
  |none=>F
 |false=>F
def orL{γ β:Type}(f0:Nat)(lb:Bool)(q:aa AV->af γ)(t:γ->af β)(out:β->Out)(F:aW):aW:=λ_ f args R nx k=>match zg f f0 with
 |true=>DT q t out (args.map (CE lb (fC R) 3)) R nx k (F _ f args R nx k)
 |false=>F _ f args R nx k
def ajk{P:Program}{F:aW}{γ β:Type}{f0:Nat}{lb:Bool}{q:aa AV->af γ}{ca:γ->aa AV}{t:γ->af β}{out:β->Out}{sc:Nat->Bool}(hF:gJ P F)(hsc:∀t,sc t=J->∀x,Ho (U.cells t x))(hf:tj P f0)(hq:La q ca)(hm:∀b,(out b).okB 0=J)(hs:∀b,(out b).Ya sc=J)
  (h:∀g b,t g=I b->Tx P f0 (ca g) [] 0 (out b)):gJ P (orL f0 lb q t out F):=λα f args R nx k r hr hargs hR=>by
 unfold orL at hr;split at hr
 case h_2=>exact hF α f args R nx k r hr hargs hR
 rename_i hb;have hb:=fM hb;subst hb;unfold DT at hr;split at hr
 case h_2=>exact hF α f args R nx k r hr hargs hR
 rename_i hcl;split at hr
 case h_2=>exact hF α f args R nx k r hr hargs hR
 rename_i g hg;split at hr
 case h_2=>cases hr
 rename_i b hb;obtain⟨hqa,_⟩:=hq _ g hg;have hok:=hm b;unfold Out.okB at hok;rw[zj,zj]at hok;obtain⟨⟨_,ho1⟩,ho2⟩:=hok;refine⟨hf,λρ=> ?_⟩;have h1:Fn P f ((ca g).map (cc.sub ρ)) [] _:=h g b hb ρ;have h2:=Fn.av1 (args:=args.map (cc.sub ρ)) (σr:=aX.res ρ R) h1 (λA w us hd hrel=>by
  refine hqa ρ _ w us ⟨by simpa using hrel.1,λj a v q1 q2=> ?_⟩;rw[yh,ya]at q1;obtain⟨c,hc,rfl⟩:=zk.1 q1;exact RK hd 3 ((hrel.2 j _ v (by rw[ya,hc];rfl) q2).mono λb _ hA=>⟨.inl hA,rfl⟩)) (λav σo ⟨ρ',_,e1,e2⟩=>by
   obtain⟨c1,c2⟩:=abp hsc (hs b) ρ';subst e1;exact⟨c1,λr hr=>c2 r (e2.mem_iff.1 hr)⟩)
 have hlt:∀i,zy i (out b).c=J->i+nx<(out b).c+nx:=λi hi=>by rw[yt]at hi;omega
 refine Fn.mono h2 λa s ⟨s',⟨ρ1,_,g1,g2⟩,g3⟩=> ?_
 let ρ2:Gh:=⟨λi=>if i<nx then ρ.v i else ρ1.v (i-nx),λi=>if i<nx then ρ.b i else ρ1.b (i-nx)⟩
 have hag:pT nx ρ ρ2:=λi hi=>⟨by simp only[ρ2,bD hi],by simp only[ρ2,bD hi]⟩;have hp:∀i,zy i (out b).c=J->ρ2.v (i+nx)=ρ1.v i/\ρ2.b (i+nx)=ρ1.b i:=λi _=>by
  have:¬i+nx<nx:=by omega
  exact⟨by simp only[ρ2,bL this,Nat.add_sub_cancel],by simp only[ρ2,bL this,Nat.add_sub_cancel]⟩
 have hres:aX.res ρ2 ((out b).R.map λq=>(q.1+nx,Hv (λi=>i+nx) q.2))=aX.res ρ1 (out b).R:=by
  unfold aX.res;rw[yh];refine zZ λq hq=> ?_;have hbq:=zu.1 ho2 q hq;rw[zj]at hbq;obtain⟨i,rr⟩:=q;cases rr with
  |row t l=>show cG.row (ρ2.v (i+nx)) t l= .row (ρ1.v i) t l;rw[(hp i hbq.1).1]
  |box T cs=>
   show cG.box (ρ2.b (i+nx)) T ((cs.map (kH (λi=>i+nx) 4)).map (cc.sub ρ2))= .box (ρ1.b i) T (cs.map (cc.sub ρ1));rw[(hp i hbq.1).2,yh]
   congr 1
   exact zZ λc hc=>iC hp 4 (zu.1 hbq.2 c hc)
 refine⟨_,_,_,hr,Nat.le_add_left _ _,jW hlt 4 ho1,λq hq=> ?_,ρ2,hag,?_,?_⟩
 ·rcases zU.1 hq with hq|hq
  ·obtain⟨q',h4,rfl⟩:=zL.1 hq;have hbq:=zu.1 ho2 q' h4;rw[zj]at hbq;refine⟨hlt _ hbq.1,?_⟩;obtain⟨i,rr⟩:=q';cases rr with
   |row t l=>trivial
   |box T cs=>
    intro c hc;obtain⟨c',h5,rfl⟩:=zL.1 hc;exact jW hlt 4 (zu.1 hbq.2 c' h5)
  ·exact(hR.mono (Nat.le_add_left _ _)) q hq
 ·rw[g1];exact(iC hp 4 ho1).symm
 ·rw[g3,jN,hres,<-hR.res hag];exact g2.append_right _
def aQ{P:Program}:aV P cZ:=⟨ako,λ_ _ _ _ _ _ _ _=>rfl⟩
def acm{γ δ:Type}{f0 n0:Nat}{q:aa AV->aX->af γ}{t:γ->af δ}{out:δ->Out}{F:aW}(hN:dH F):dH (orY f0 n0 q t out F):=λα β f args R nx k D=>by
 unfold orY;split
 ·unfold WM U0;split
  ·split
   ·split<;>rfl
   ·exact hN ..
  ·exact hN ..
 ·exact hN ..
def aa0{γ δ:Type}{f0:Nat}{lb:Bool}{q:aa AV->af γ}{t:γ->af δ}{out:δ->Out}{F:aW}(hN:dH F):dH (orL f0 lb q t out F):=λα β f args R nx k D=>by
 unfold orL;split
 ·unfold DT;split
  ·split
   ·split<;>rfl
   ·exact hN ..
  ·exact hN ..
 ·exact hN ..
def ag1{P:Program}{F:aW}{γ β:Type}{f0 n0:Nat}{q:aa AV->aX->af γ}{ca:γ->aa AV}{cr:γ->aX}{t:γ->af β}{out:β->Out}(hF:aV P F)(hf:tj P f0)(hq:QY q ca cr)(hm:∀b,(out b).okB n0=J)
 (h:∀g b,t g=I b->Tx P f0 (ca g) (cr g) n0 (out b)):aV P (orY f0 n0 q t out F):=⟨aio hF.ok hf hq hm h,acm hF.nat⟩
def aoL{P:Program}{F:aW}{γ β:Type}{f0:Nat}{lb:Bool}{q:aa AV->af γ}{ca:γ->aa AV}{t:γ->af β}{out:β->Out}{sc:Nat->Bool}(hF:aV P F)(hsc:∀t,sc t=J->∀x,Ho (U.cells t x))(hf:tj P f0)(hq:La q ca)(hm:∀b,(out b).okB 0=J)(hs:∀b,(out b).Ya sc=J)
 (h:∀g b,t g=I b->Tx P f0 (ca g) [] 0 (out b)):aV P (orL f0 lb q t out F):=⟨ajk hF.ok hsc hf hq hm hs h,aa0 hF.nat⟩
def bH{f:FuncId}:bC cZ f:=λ_ _ _ _ _ _ h=>by cases h
def gM{γ β:Type}{f0:Nat}{lb:Bool}{q:aa AV->af γ}{t:γ->af β}{out:β->Out}{F:aW}{f:FuncId}(h:bC F f)(hm:∀b,(out b).R=[]):bC (orL f0 lb q t out F) f:=λargs R nx d R' nx' hr=>by
 unfold orL at hr;split at hr
 ·unfold DT at hr;split at hr
  ·split at hr
   ·split at hr
    ·rw[hm]at hr;cases hr;rfl
    ·cases hr
   ·exact h _ _ _ _ _ _ hr
  ·exact h _ _ _ _ _ _ hr
 ·exact h _ _ _ _ _ _ hr
def JS{γ β:Type}{f0 n0:Nat}{q:aa AV->aX->af γ}{t:γ->af β}{out:β->Out}{F:aW}{f:FuncId}(hne:zg f f0=G)(h:bC F f):bC (orY f0 n0 q t out F) f:=λargs R nx d R' nx' hr=>by
 unfold orY at hr;rw[hne]at hr;exact h _ _ _ _ _ _ hr
def ct{α:Type}(b:Bool)(x y:α):(bif b then some x else some y)=some (bif b then x else y):=by cases b<;>rfl
def cF{α:Type}(p:Prop)[Decidable p](x y:α):(if p then I x else I y)=I (if p then x else y):=by split<;>rfl
def jv{n0:Nat}{args:aa AV}(h:args.all (kG (λi=>zy i n0) 4)=J):∀d∈args,cI n0 d:=λd hd=>(AA 4 (zu.1 h d hd)).mono λi hi=>by rw[yt]at hi;exact hi
def jg{n0:Nat}{R:aX}(h:R.all (λq=>zy q.1 n0&&match q.2 with
  | .box _ cs=>cs.all (kG (λi=>zy i n0) 4)
  | .row _ _=>J)=J):aX.cI n0 R:=λq hq=>by
 have hb:=zu.1 h q hq;rw[zj,yt]at hb;refine⟨hb.1,?_⟩;obtain⟨i,rr⟩:=q;cases rr with
 |row t l=>trivial
 |box T cs=>exact jv hb.2
def qy0{γ:Type}(q:aa AV->af γ)(xs:aa AV)(R:aX):af γ:=match R with
 |[]=>q xs
 |_=>S
def amI{γ:Type}{q:aa AV->af γ}{ca:γ->aa AV}(h:La q ca):QY (qy0 q) ca (λ_=>[]):=λxs R g hg=>by
 unfold qy0 at hg;split at hg
 ·exact⟨(h xs g hg).1, .nil⟩
 ·cases hg
def qyR{γ δ:Type}(q:aa AV->af γ)(r:aX->af δ)(xs:aa AV)(R:aX):af (γ×δ):=match q xs with
 |some g=>match r R with
  |some h=>I (g,h)
  |none=>S
 |none=>S
def akt{γ δ:Type}{q:aa AV->af γ}{ca:γ->aa AV}{r:aX->af δ}{cr:δ->aX}(hq:La q ca)(hr:Bn r cr):QY (qyR q r) (λg=>ca g.1) (λg=>cr g.2):=λxs R g hg=>by
 unfold qyR at hg;split at hg
 ·rename_i g' h1;split at hg
  ·rename_i h' h2;cases hg;exact⟨(hq xs g' h1).1,hr R h' h2⟩
  ·cases hg
 ·cases hg
open Classical in
def lim{β:Type}(m:Nat->af β):af β:=if h:∃b N,∀n,N<=n->m n=I b then I (Classical.choose h)else S
def cT{β:Type}{m:Nat->af β}{b:β}(h:lim m=I b):∃n,m n=I b:=by
 unfold lim at h;split at h
 ·rename_i hx;cases h;obtain⟨N,hN⟩:=Classical.choose_spec hx;exact⟨N,hN N (zG _)⟩
 ·cases h
def dS{β:Type}{m:Nat->af β}{b:β}(N:Nat)(h:∀n,N<=n->m n=I b):lim m=I b:=by
 have hx:∃b N,∀n,N<=n->m n=I b:=⟨b,N,h⟩;unfold lim;rw[dif_pos hx];obtain⟨M,hM⟩:=Classical.choose_spec hx;have h1:=hM (max M N) (Nat.le_max_left _ _);rw[h (max M N) (Nat.le_max_right _ _)]at h1;exact h1.symm
def Qu{P:Program}{f:FuncId}{t:Nat}{x:Out}(h1:∀c,Tx P f [.lit (.slice S 0 c)] [] 0 x)(h2:∀a c,Tx P f [.lit (.slice (I a) 0 c)] [] 0 x):Tx P f [.sl t []] [] 0 x:=λρ w A vs hr hd hn=>by
 have hr':bJ A w [(cc.sl t []:AV).sub ρ] vs:=hr;obtain⟨v,us,rfl,h3,h4⟩:=hr'.head;rw[fP]at h3;obtain⟨p,c,g,hv,_⟩:=h3.sR;have hz:us=[]:=yX (by simpa using h4.1);subst hz hv;cases p with
 |none=>exact h1 c ρ w A _ (bJ.cons (by rw[bR];exact .lit _) bJ.nil) hd hn
 |some a=>exact h2 a c ρ w A _ (bJ.cons (by rw[bR];exact .lit _) bJ.nil) hd hn
def avi:AV->Bool
 | .lit _=>J
 |_=>G
def OZ:∀(cs:aa AV),cs.all avi=J->Ho cs
 |[],_=> .nil
 |c::cs,h=>by
  rw[List.all_cons,zj]at h;refine .cons ?_ (OZ cs h.2);cases c<;>first|(cases h.1;done)|exact .lit _
end Go.Iv
end
noncomputable section
set_option maxRecDepth 100000
namespace Go.Proofs.YtnfljbehcffmcaaGreat
open Go Go.Iv
open Go.IntKind (i64 u64)
def scK:Ky->Bool
 | .k3=>J
 | .k4=>J
 | .k5=>J
 | .k34=>J
 | .k37=>J
 | .k129=>J
 | .k131=>J
 | .k256=>J
 | .k260=>J
 | .k331=>J
 |_=>G
def jR(t:Nat):Bool:=scK (ky t)
def aj3:(k:Ky)->scK k=J->(x:Ck k)->Ho (mY k x):=by
 intro k h x;cases k<;>first|(cases h;done)|exact OZ _ rfl
def cy(t:Nat)(h:jR t=J)(x:uni.dc t):Ho (uni.cells t x):=aj3 (ky t) h x
end Go.Proofs.YtnfljbehcffmcaaGreat
end
noncomputable section
namespace Go.Iv
variable [U:qz] [L:mO]
open Go Go.RowKit
section
variable {β γ δ:Type}
structure Rq (β:Type) where
 f:AV->Option β
 c:β->AV
 ok:PN f c
structure Rl (γ:Type) where
 q:List AV->Option γ
 c:γ->List AV
 ok:La q c
def aL:Rq Int:=⟨gO .i64,cc.n .i64, .i .i64⟩
def qi(k:IntKind):Rq Int:=⟨gO k,cc.n k, .i k⟩
def qb:Rq Bool:=⟨DL,cc.b, .b⟩
def qs:Rq ByteArray:=⟨asS,cc.s, .s⟩
def ql(t:Nat):Rq (aa (U.dc t)):=⟨jf t,cc.sl t, .l t⟩
def qg(t:Nat):Rq (U.dc t):=⟨aeZ t,λx=> .agg (U.cells t x), .g t⟩
def qp(i o:Nat):Rq Unit:=⟨asP i o,λ_=> .ptr i o, .p i o⟩
def qo(i:Nat):Rq Unit:=⟨asO i,λ_=> .own i, .o i⟩
def qn:Rq Unit:=⟨akF,λ_=> .lit (.slice S 0 0), .ns⟩
def qf(k:Nat)(l:Rl γ):Rq γ:=⟨ai0 k l.q,λx=> .fn (.func k) (l.c x), .ff k l.ok⟩
def qr(l:Rl γ):Rq γ:=⟨am6 l.q,λx=> .fp (l.c x), .fp l.ok⟩
def ln:Rl Unit:=⟨nJ,λ_=>[], .nil⟩
def lc(a:Rq β)(l:Rl γ):Rl (β×γ):=⟨dx a.f l.q,λx=>a.c x.1::l.c x.2, .cons a.ok l.ok⟩
abbrev aM(l:Rl γ):Rl (Int×γ):=lc aL l
def lg(t:Nat):Rl (U.dc t):=⟨aiQ t,λx=>U.cells t x,La.parse t⟩
structure Re (γ:Type) where
 q:ET->Option γ
 d:γ->Env
 ok:NL q d
def en:Re Unit:=⟨slN,λ_=>[], .nil⟩
def ec(t:Nat)(a:Rq β)(l:Re γ):Re (β×γ):=⟨slC t a.f l.q,λx=>(t,a.c x.1)::l.d x.2, .cons a.ok l.ok⟩
structure Rs (γ:Type) where
 q:aX->Option γ
 d:γ->aX
 ok:Bn q d
def sn:Rs Unit:=⟨rsN,λ_=>[], .nil⟩
def sr(i t:Nat)(l:Rs γ):Rs (aa (U.dc t)×γ):=⟨rsR i t l.q,λx=>(i, .row t x.1)::l.d x.2, .row l.ok⟩
def sb(i t:Nat)(a:Rl β)(l:Rs γ):Rs (β×γ):=⟨amc i t a.q l.q,λx=>(i, .box t (a.c x.1))::l.d x.2, .axV a.ok l.ok⟩
structure Td (n0:Nat) (γ:Type) where
 rd:St->Option γ
 pat:γ->St
 ok:∀n,qk n0 n rd pat
def Td.r(n0 m:Nat)(e:Re β)(s:Rs δ)(mk:β×δ->γ)(un:γ->β×δ)(h:∀z,un (mk z)=z:=by exact λ_=>rfl):Td n0 γ:=
 ⟨rdM mk (stR m e.q s.q),λx=>rI m e.d s.d (un x),λ_=>(ajw e.ok s.ok).m mk λz=>by rw[h]⟩
def Td.c{n0:Nat}(dr ts:aa Nat)(d:Td n0 γ):Td n0 γ:=⟨rdC n0 dr ts d.rd,d.pat,λn=>al4 (d.ok n)⟩
def Td.t{n0:Nat}{f:St->St}(h:cE f)(d:Td n0 γ):Td n0 γ:=⟨rdF f d.rd,d.pat,λn=>aid h (d.ok n)⟩
def Td.lp{n0:Nat}(d:Td n0 γ)(a:γ->af γ)(b:An):An:= .lp γ d.rd d.pat a b
end
def iD(P:Program)(f n0:Nat)(s:St):Out:=match (match CX P f s with
  |some ds=>I (Out.mk (fZ ds) (B7 s.R n0 (fZ ds)) s.nx)
  |none=>S)with
 |some o=>o
 |none=>⟨.iM [],[],0⟩
def aG{α:Type _}{Q:α->Prop}:∀p∈([]:aa α),Q p:=λp h=>by cases h
def aC{α:Type _}{Q:α->Prop}{a:α}{l:aa α}(h:Q a)(t:∀p∈l,Q p):∀p∈a::l,Q p:=λp hp=>(zF.1 hp).elim (λe=>e▸h) (t p)
section
variable {P:Program} {F:aW} {f n0:Nat} {γ δ β:Type}
def HY(P:Program)(f n0:Nat)(a:Rl γ)(s:Rs δ)(d:Td n0 β)(t:γ×δ->af β):Prop:=∀g b,t g=I b->Tx P f (a.c g.1) (s.d g.2) n0 (iD P f n0 (d.pat b))
def HL(P:Program)(f:Nat)(a:Rl γ)(d:Td 0 β)(t:γ->af β):Prop:=∀g b,t g=I b->Tx P f (a.c g) [] 0 (iD P f 0 (d.pat b))
def Ra(hF:aV P F){an:An}(fa:dB P F n0 300 f an){a:Rl γ}{s:Rs δ}{d:Td n0 β}{t:γ×δ->af β}(ho:∀p,(match CX P f (d.pat p)with
   |some ds=>I (Out.mk (fZ ds) (B7 (d.pat p).R n0 (fZ ds)) (d.pat p).nx)
   |none=>S)=I (iD P f n0 (d.pat p)))
  (h1:∀g,(a.c g).all (kG (λi=>zy i n0) 4)=J) (h2:∀g,(s.d g).all (λq=>zy q.1 n0&&match q.2 with
  | .box _ cs=>cs.all (kG (λi=>zy i n0) 4)
  | .row _ _=>J)=J) (c:∀g,bQ P F 300 an f (a.c g.1) (s.d g.2) n0 d.rd=t g):HY P f n0 a s d t:=
 λg b hb=>(kW (p:=b) hF fa d.ok ho (jv (h1 g.1)) (jg (h2 g.2)) ((c g).trans hb)).2
def cS(hF:aV P F){an:An}(fa:dB P F 0 300 f an){a:Rl γ}{d:Td 0 β}{t:γ->af β}(ho:∀p,(match CX P f (d.pat p)with
   |some ds=>I (Out.mk (fZ ds) (B7 (d.pat p).R 0 (fZ ds)) (d.pat p).nx)
   |none=>S)=I (iD P f 0 (d.pat p)))
  (h1:∀g,(a.c g).all (kG (λi=>zy i 0) 4)=J) (c:∀g,bQ P F 300 an f (a.c g) [] 0 d.rd=t g):HL P f a d t:=
 λg b hb=>(kW (p:=b) hF fa d.ok ho (jv (h1 g)) (jg rfl) ((c g).trans hb)).2
def eY(P:Program)(f n0:Nat)(a:Rl γ)(s:Rs δ)(d:Td n0 β)(t:γ×δ->af β)(F:aW):aW:=orY f n0 (qyR a.q s.q) t (λx=>iD P f n0 (d.pat x)) F
def eZ(P:Program)(f:Nat)(a:Rl γ)(d:Td 0 β)(t:γ->af β)(F:aW):aW:=orY f 0 (qy0 a.q) t (λx=>iD P f 0 (d.pat x)) F
def eL(P:Program)(f:Nat)(lb:Bool)(a:Rl γ)(d:Td 0 β)(t:γ->af β)(F:aW):aW:=orL f lb a.q t (λx=>iD P f 0 (d.pat x)) F
def Kz{a:Rl γ}{s:Rs δ}{d:Td n0 β}{t:γ×δ->af β}(h:HY P f n0 a s d t)(hf:tj P f)(h3:∀b,(iD P f n0 (d.pat b)).okB n0=J)(hF:aV P F):aV P (eY P f n0 a s d t F):=
 ag1 hF hf (akt a.ok s.ok) h3 h
def od{a:Rl γ}{d:Td 0 β}{t:γ->af β}(h:HL P f a d t)(hf:tj P f)(h3:∀b,(iD P f 0 (d.pat b)).okB 0=J)(hF:aV P F):aV P (eZ P f a d t F):=
 ag1 hF hf (amI a.ok) h3 h
def dU{lb:Bool}{sc:Nat->Bool}(hsc:∀t,sc t=J->∀x,Ho (U.cells t x)){a:Rl γ}{d:Td 0 β}{t:γ->af β}(h:HL P f a d t)(hf:tj P f)(h3:∀b,(iD P f 0 (d.pat b)).okB 0=J)(h4:∀b,(iD P f 0 (d.pat b)).Ya sc=J)(hF:aV P F):aV P (eL P f lb a d t F):=
 aoL hF hsc hf a.ok h3 h4 h
end
end Go.Iv
end
noncomputable section
namespace Go.Proofs.YtnfljbehcffmcaaGreat
def kf:ByteArray:=ByteArray.mk #[0,1,2,2,3,3,3,3,4,4,4,4,4,4,4,4,5,5,5,5,5,5,5,5,5,5,5,5,5,5,5,5,6,6,6,6,6,6,6,6,6,6,6,6,6,6,6,6,6,6,6,6,6,6,6,6,6,6,6,6,6,6,6,6,7,7,7,7,7,7,7,7,7,7,7,7,7,7,7,7,7,7,7,7,7,7,7,7,7,7,7,7,7,7,7,7,7,7,7,7,7,7,7,7,7,7,7,7,7,7,7,7,7,7,7,7,7,7,7,7,7,7,7,7,7,7,7,7,8,8,8,8,8,8,8,8,8,8,8,8,8,8,8,8,8,8,8,8,8,8,8,8,8,8,8,8,8,8,8,8,8,8,8,8,8,8,8,8,8,8,8,8,8,8,8,8,8,8,8,8,8,8,8,8,8,8,8,8,8,8,8,8,8,8,8,8,8,8,8,8,8,8,8,8,8,8,8,8,8,8,8,8,8,8,8,8,8,8,8,8,8,8,8,8,8,8,8,8,8,8,8,8,8,8,8,8,8,8,8,8,8,8,8,8,8,8,8,8,8,8,8,8,8,8,8,8]
end Go.Proofs.YtnfljbehcffmcaaGreat
end
noncomputable section
set_option maxRecDepth 100000
namespace Go.Proofs.YtnfljbehcffmcaaGreat
open Go Go.Iv
open Go.IntKind (i64 u64)
def eH{p:Prop}{_:Decidable p}(h:¬p:=by omega):decide p=G:=bT h
def mg{p:Prop}{_:Decidable p}(h:p:=by omega):decide p=J:=bV h
def ga{p:Prop}{_:Decidable p}{α:Type _}{a b:α}(h:p:=by omega):(if p then a else b)=a:=bD h
def ux{p:Prop}{_:Decidable p}{α:Type _}{a b:α}(h:¬p:=by omega):(if p then a else b)=b:=bL h
abbrev EO(e:aW->aW):Prop:=∀{F:aW},aV wJ F->aV wJ (e F)
abbrev EP(e:aW->aW):Prop:=∀{F:aW} {f:Nat},bC F f->bC (e F) f
def kP{f:Nat}{lb:Bool}{γ β:Type}{a:Rl γ}{d:Td 0 β}{t:γ->af β}{F:aW}{g:Nat}(h:bC F g)(hm:∀b,(iD wJ f 0 (d.pat b)).R=[]:=by intro _;kernel_rfl):bC (eL wJ f lb a d t F) g:=gM h hm
def aO{F:aW}{n0 nt:Nat}{c:Code}{β:Type}{b:An}{n:β->af (af β)}(d:Td n0 β)(h:∀p,iO wJ F nt 300 c b (af β) (d.pat p) (X8 d.rd)=n p:=by intro _;kernel_rfl):QE wJ F n0 nt 300 (c,d.lp (bG n) b):=⟨d.ok _,mX h⟩
def kL{f:Nat}{lb:Bool}{fn:Func}{F zb:aW}{an:An}{γ β:Type}{a:Rl γ}{d:Td 0 β}{t:γ->af β}{l:aa (Code×An)}
  (hf:wJ.funcs[f]? =I fn) (hF:aV wJ F) (h:∀p∈l,QE wJ F 0 fn.ntmps 300 p) (hG:aV wJ zb)
  (hb:fn.body.isNone=G:=by kernel_rfl) (ho:ai4 (Gz fn) an=l:=by kernel_rfl)
  (h0:∀p,(match CX wJ f (d.pat p)with
   |some ds=>I (Out.mk (fZ ds) (B7 (d.pat p).R 0 (fZ ds)) (d.pat p).nx)
   |none=>S)=I (iD wJ f 0 (d.pat p)):=by intro _;kernel_rfl)
  (h1:∀g,(a.c g).all (kG (λi=>zy i 0) 4)=J:=by intro _;kernel_rfl)
  (c:∀g,bQ wJ F 300 an f (a.c g) [] 0 d.rd=t g:=by intro _;kernel_rfl)
  (h2:(fn.name=="runtime.NumGoroutine")=G:=by kernel_rfl)
  (h3:∀b,(iD wJ f 0 (d.pat b)).okB 0=J:=by intro _;kernel_rfl) (h4:∀b,(iD wJ f 0 (d.pat b)).Ya jR=J:=by intro _;kernel_rfl):aV wJ (eL wJ f lb a d t zb):=
 dU (sc:=jR) cy (cS hF (bO hf (bq hb) ho h) (λp=>by have:=h0 p;revert this;cases CX wJ f (d.pat p)<;>exact id) h1 c) ⟨_,hf,h2,hb⟩ h3 h4 hG
abbrev arx:=Int×Int
def d352:Td 0 arx:= .c [] [4,5] (.r 0 0 (ec 4 (qi .u64) (ec 5 (qi .u64) en)) sn (λz=>(z.1.1,z.1.2.1)) (λx=>((x.1,x.2,()),(()))))
def Ws(a0:Int)(a1:Int):arx:=
 (IntKind.u64.wrap (IntKind.u64.wrap (IntKind.u64.wrap (cP IntKind.u64 a0 (32)*cP IntKind.u64 a1 (32))+cP IntKind.u64 (IntKind.u64.wrap (IntKind.u64.wrap (cP IntKind.u64 a0 (32)*rG IntKind.u64 a1 (4294967295))+cP IntKind.u64 (IntKind.u64.wrap (rG IntKind.u64 a0 (4294967295)*rG IntKind.u64 a1 (4294967295))) (32))) (32))+cP IntKind.u64 (IntKind.u64.wrap (rG IntKind.u64 (IntKind.u64.wrap (IntKind.u64.wrap (cP IntKind.u64 a0 (32)*rG IntKind.u64 a1 (4294967295))+cP IntKind.u64 (IntKind.u64.wrap (rG IntKind.u64 a0 (4294967295)*rG IntKind.u64 a1 (4294967295))) (32))) (4294967295)+IntKind.u64.wrap (rG IntKind.u64 a0 (4294967295)*cP IntKind.u64 a1 (32)))) (32)),IntKind.u64.wrap (a0*a1))
def axn:=eL wJ 352 G (lc (qi .u64) (lc (qi .u64) ln)) d352 (λg=>I (Ws g.1 g.2.1))
def abO:EO axn:=λh=>kL (an:= .no) func352 aQ aG h
abbrev atX:=Int
def d301:Td 0 atX:= .c [] [2] (.r 0 0 (ec 2 aL en) sn (λz=>z.1.1) (λx=>((x,()),(()))))
def Yi(a0:Int):af atX:=
 bif O (4294967296<=a0)then bif O (65536<=cP IntKind.u64 a0 32)then bif O (256<=cP IntKind.u64 (cP IntKind.u64 a0 32) 16)then if 0<=IntKind.u8.wrap (cP IntKind.u64 (cP IntKind.u64 (cP IntKind.u64 a0 ((32:Int))) ((16:Int))) ((8:Int)))/\IntKind.u8.wrap (cP IntKind.u64 (cP IntKind.u64 (cP IntKind.u64 a0 ((32:Int))) ((16:Int))) ((8:Int)))<256then I (i64.wrap (56+i64.wrap (cg kf (IntKind.u8.wrap (cP IntKind.u64 (cP IntKind.u64 (cP IntKind.u64 a0 32) 16) 8)).toNat)))else S else if 0<=IntKind.u8.wrap (cP IntKind.u64 (cP IntKind.u64 a0 ((32:Int))) ((16:Int)))/\IntKind.u8.wrap (cP IntKind.u64 (cP IntKind.u64 a0 ((32:Int))) ((16:Int)))<256then I (i64.wrap (48+i64.wrap (cg kf (IntKind.u8.wrap (cP IntKind.u64 (cP IntKind.u64 a0 32) 16)).toNat)))else S else bif O (256<=cP IntKind.u64 a0 32)then if 0<=IntKind.u8.wrap (cP IntKind.u64 (cP IntKind.u64 a0 ((32:Int))) ((8:Int)))/\IntKind.u8.wrap (cP IntKind.u64 (cP IntKind.u64 a0 ((32:Int))) ((8:Int)))<256then I (i64.wrap (40+i64.wrap (cg kf (IntKind.u8.wrap (cP IntKind.u64 (cP IntKind.u64 a0 32) 8)).toNat)))else S else if 0<=IntKind.u8.wrap (cP IntKind.u64 a0 ((32:Int)))/\IntKind.u8.wrap (cP IntKind.u64 a0 ((32:Int)))<256then I (i64.wrap (32+i64.wrap (cg kf (IntKind.u8.wrap (cP IntKind.u64 a0 32)).toNat)))else S else bif O (65536<=a0)then bif O (256<=cP IntKind.u64 a0 16)then if 0<=IntKind.u8.wrap (cP IntKind.u64 (cP IntKind.u64 a0 ((16:Int))) ((8:Int)))/\IntKind.u8.wrap (cP IntKind.u64 (cP IntKind.u64 a0 ((16:Int))) ((8:Int)))<256then I (i64.wrap (24+i64.wrap (cg kf (IntKind.u8.wrap (cP IntKind.u64 (cP IntKind.u64 a0 16) 8)).toNat)))else S else if 0<=IntKind.u8.wrap (cP IntKind.u64 a0 ((16:Int)))/\IntKind.u8.wrap (cP IntKind.u64 a0 ((16:Int)))<256then I (i64.wrap (16+i64.wrap (cg kf (IntKind.u8.wrap (cP IntKind.u64 a0 16)).toNat)))else S else bif O (256<=a0)then if 0<=IntKind.u8.wrap (cP IntKind.u64 a0 ((8:Int)))/\IntKind.u8.wrap (cP IntKind.u64 a0 ((8:Int)))<256then I (i64.wrap (8+i64.wrap (cg kf (IntKind.u8.wrap (cP IntKind.u64 a0 8)).toNat)))else S else if 0<=IntKind.u8.wrap a0/\IntKind.u8.wrap a0<256then I (i64.wrap (0+i64.wrap (cg kf (IntKind.u8.wrap a0).toNat)))else S
def avC:=eL wJ 301 G (lc (qi .u64) ln) d301 (λg=>Yi g.1)
def abR:EO avC:=λh=>kL (an:= .no) func301 aQ aG h
abbrev an4:=Int
def d358:Td 0 an4:= .c [] [2] (.r 0 0 (ec 2 aL en) sn (λz=>z.1.1) (λx=>((x,()),(()))))
def aju(a0:Int):af an4:=
 match Yi a0 with|S=>S|I r1=>I (i64.wrap (64-r1))
def ape:=eL wJ 358 G (lc (qi .u64) ln) d358 (λg=>aju g.1)
def Zj:EO ape:=λh=>kL (an:= .no) func358 (abR aQ) aG h
def aoS:aW:=(ape cZ)
structure kU where
 (t2 t8 t9 t10 t14 t15 t16 t17 t18:Int)
def Nb:Td 0 kU:= .c [] [2,8,9,10,14,15,16,17,18] (.r 0 0 (ec 2 (qi .u64) (ec 8 (qi .u64) (ec 9 (qi .u64) (ec 10 (qi .u64) (ec 14 (qi .u64) (ec 15 (qi .u64) (ec 16 (qi .u64) (ec 17 (qi .u64) (ec 18 (qi .u64) en))))))))) sn (λz=>⟨z.1.1,z.1.2.1,z.1.t.1,z.1.t.2.1,z.1.q.1,z.1.q.2.1,z.1.q.t.1,z.1.q.t.2.1,z.1.q.q.1⟩) (λx=>((x.t2,x.t8,x.t9,x.t10,x.t14,x.t15,x.t16,x.t17,x.t18,()),(()))))
def vL(p:kU):af (af kU):=
 match bif O (4294967296<=p.t18)then I (J)else I (O (IntKind.u64.wrap (IntKind.u64.wrap (4294967296*p.t16)+p.t14)<IntKind.u64.wrap (p.t18*p.t10)))with|S=>S|I r2=>bif r2 then bif O (4294967296<=IntKind.u64.wrap (p.t16+p.t9))then I (S)else I (I (kU.mk p.t2 p.t8 p.t9 p.t10 p.t14 p.t15 (IntKind.u64.wrap (p.t16+p.t9)) p.t17 (IntKind.u64.wrap (p.t18-1))))else I (S)
def VS:An:=(.two (.two (.rb [] 113) .no) .no)
def Bv:=bG (vL)
structure mU where
 (t2 t8 t9 t10 t11 t13 t14 t15 t16:Int)
def Nt:Td 0 mU:= .c [] [2,8,9,10,11,13,14,15,16] (.r 0 0 (ec 2 (qi .u64) (ec 8 (qi .u64) (ec 9 (qi .u64) (ec 10 (qi .u64) (ec 11 (qi .u64) (ec 13 (qi .u64) (ec 14 (qi .u64) (ec 15 (qi .u64) (ec 16 (qi .u64) en))))))))) sn (λz=>⟨z.1.1,z.1.2.1,z.1.t.1,z.1.t.2.1,z.1.q.1,z.1.q.2.1,z.1.q.t.1,z.1.q.t.2.1,z.1.q.q.1⟩) (λx=>((x.t2,x.t8,x.t9,x.t10,x.t11,x.t13,x.t14,x.t15,x.t16,()),(()))))
def vq(p:mU):af (af mU):=
 match bif O (4294967296<=p.t15)then I (J)else I (O (IntKind.u64.wrap (IntKind.u64.wrap (4294967296*p.t16)+p.t13)<IntKind.u64.wrap (p.t15*p.t10)))with|S=>S|I r1=>bif r1 then bif O (4294967296<=IntKind.u64.wrap (p.t16+p.t9))then I (S)else I (I (mU.mk p.t2 p.t8 p.t9 p.t10 p.t11 p.t13 p.t14 (IntKind.u64.wrap (p.t15-1)) (IntKind.u64.wrap (p.t16+p.t9))))else I (S)
def UG:An:=(.two (.two (.rb [] 78) .no) .no)
def E8:=bG (vq)
abbrev arq:=Int×Int
def d357:Td 0 arq:= .c [] [6,7] (.r 0 0 (ec 6 (qi .u64) (ec 7 (qi .u64) en)) sn (λz=>(z.1.1,z.1.2.1)) (λx=>((x.1,x.2,()),(()))))
def agK:∀f∈([]:aa Nat),bC (aoS) f:=aG
def Ve(a0:Int)(a1:Int)(a2:Int):af arq:=
 bif O (a2=0)then S else bif O (a2<=a0)then S else bif O (a0=0)then if¬a2=0then if¬a2=0then I ((IntKind.u64.wrap (a1.tdiv a2),a1.tmod a2))else S else S else match aju a2 with|S=>S|I r3=>if 0<=IntKind.u64.wrap r3 then if 0<=IntKind.u64.wrap r3 then if 0<=IntKind.u64.wrap ((64:Int)-IntKind.u64.wrap r3)then if 0<=IntKind.u64.wrap r3 then if¬cP IntKind.u64 (lu IntKind.u64 a2 (IntKind.u64.wrap r3)) ((32:Int))=0then match E8 (mU.mk (lu IntKind.u64 a2 (IntKind.u64.wrap r3)) (IntKind.u64.wrap r3) (cP IntKind.u64 (lu IntKind.u64 a2 (IntKind.u64.wrap r3)) 32) (rG IntKind.u64 (lu IntKind.u64 a2 (IntKind.u64.wrap r3)) 4294967295) (X9 IntKind.u64 (lu IntKind.u64 a0 (IntKind.u64.wrap r3)) (cP IntKind.u64 a1 (IntKind.u64.wrap (64-IntKind.u64.wrap r3)))) (cP IntKind.u64 (lu IntKind.u64 a1 (IntKind.u64.wrap r3)) 32) (rG IntKind.u64 (lu IntKind.u64 a1 (IntKind.u64.wrap r3)) 4294967295) (IntKind.u64.wrap ((X9 IntKind.u64 (lu IntKind.u64 a0 (IntKind.u64.wrap r3)) (cP IntKind.u64 a1 (IntKind.u64.wrap (64-IntKind.u64.wrap r3)))).tdiv (cP IntKind.u64 (lu IntKind.u64 a2 (IntKind.u64.wrap r3)) 32))) (IntKind.u64.wrap (X9 IntKind.u64 (lu IntKind.u64 a0 (IntKind.u64.wrap r3)) (cP IntKind.u64 a1 (IntKind.u64.wrap (64-IntKind.u64.wrap r3)))-IntKind.u64.wrap (IntKind.u64.wrap ((X9 IntKind.u64 (lu IntKind.u64 a0 (IntKind.u64.wrap r3)) (cP IntKind.u64 a1 (IntKind.u64.wrap (64-IntKind.u64.wrap r3)))).tdiv (cP IntKind.u64 (lu IntKind.u64 a2 (IntKind.u64.wrap r3)) 32))*cP IntKind.u64 (lu IntKind.u64 a2 (IntKind.u64.wrap r3)) 32))))with|S=>S|I r4=>match bif O (4294967296<=r4.t15)then I J else I (O (IntKind.u64.wrap (IntKind.u64.wrap (4294967296*r4.t16)+r4.t13)<IntKind.u64.wrap (r4.t15*r4.t10)))with|S=>S|I r5=>bif r5 then bif O (4294967296<=IntKind.u64.wrap (r4.t16+r4.t9))then if¬r4.t9=0then match Bv (kU.mk r4.t2 r4.t8 r4.t9 r4.t10 r4.t14 (IntKind.u64.wrap (r4.t15-1)) (IntKind.u64.wrap (IntKind.u64.wrap (IntKind.u64.wrap (IntKind.u64.wrap (r4.t11*4294967296)+r4.t13)-IntKind.u64.wrap (IntKind.u64.wrap (r4.t15-1)*r4.t2))-IntKind.u64.wrap (IntKind.u64.wrap ((IntKind.u64.wrap (IntKind.u64.wrap (IntKind.u64.wrap (r4.t11*4294967296)+r4.t13)-IntKind.u64.wrap (IntKind.u64.wrap (r4.t15-1)*r4.t2))).tdiv r4.t9)*r4.t9))) (IntKind.u64.wrap (IntKind.u64.wrap (IntKind.u64.wrap (r4.t11*4294967296)+r4.t13)-IntKind.u64.wrap (IntKind.u64.wrap (r4.t15-1)*r4.t2))) (IntKind.u64.wrap ((IntKind.u64.wrap (IntKind.u64.wrap (IntKind.u64.wrap (r4.t11*4294967296)+r4.t13)-IntKind.u64.wrap (IntKind.u64.wrap (r4.t15-1)*r4.t2))).tdiv r4.t9)))with|S=>S|I r6=>match bif O (4294967296<=r6.t18)then I J else I (O (IntKind.u64.wrap (IntKind.u64.wrap (4294967296*r6.t16)+r6.t14)<IntKind.u64.wrap (r6.t18*r6.t10)))with|S=>S|I r7=>bif r7 then bif O (4294967296<=IntKind.u64.wrap (r6.t16+r6.t9))then if 0<=r6.t8 then I ((IntKind.u64.wrap (IntKind.u64.wrap (r6.t15*4294967296)+IntKind.u64.wrap (r6.t18-1)),cP IntKind.u64 (IntKind.u64.wrap (IntKind.u64.wrap (IntKind.u64.wrap (r6.t17*4294967296)+r6.t14)-IntKind.u64.wrap (IntKind.u64.wrap (r6.t18-1)*r6.t2))) r6.t8))else S else S else if 0<=r6.t8 then I ((IntKind.u64.wrap (IntKind.u64.wrap (r6.t15*4294967296)+r6.t18),cP IntKind.u64 (IntKind.u64.wrap (IntKind.u64.wrap (IntKind.u64.wrap (r6.t17*4294967296)+r6.t14)-IntKind.u64.wrap (r6.t18*r6.t2))) r6.t8))else S else S else S else if¬r4.t9=0then match Bv (kU.mk r4.t2 r4.t8 r4.t9 r4.t10 r4.t14 r4.t15 (IntKind.u64.wrap (IntKind.u64.wrap (IntKind.u64.wrap (IntKind.u64.wrap (r4.t11*4294967296)+r4.t13)-IntKind.u64.wrap (r4.t15*r4.t2))-IntKind.u64.wrap (IntKind.u64.wrap ((IntKind.u64.wrap (IntKind.u64.wrap (IntKind.u64.wrap (r4.t11*4294967296)+r4.t13)-IntKind.u64.wrap (r4.t15*r4.t2))).tdiv r4.t9)*r4.t9))) (IntKind.u64.wrap (IntKind.u64.wrap (IntKind.u64.wrap (r4.t11*4294967296)+r4.t13)-IntKind.u64.wrap (r4.t15*r4.t2))) (IntKind.u64.wrap ((IntKind.u64.wrap (IntKind.u64.wrap (IntKind.u64.wrap (r4.t11*4294967296)+r4.t13)-IntKind.u64.wrap (r4.t15*r4.t2))).tdiv r4.t9)))with|S=>S|I r8=>match bif O (4294967296<=r8.t18)then I J else I (O (IntKind.u64.wrap (IntKind.u64.wrap (4294967296*r8.t16)+r8.t14)<IntKind.u64.wrap (r8.t18*r8.t10)))with|S=>S|I r9=>bif r9 then bif O (4294967296<=IntKind.u64.wrap (r8.t16+r8.t9))then if 0<=r8.t8 then I ((IntKind.u64.wrap (IntKind.u64.wrap (r8.t15*4294967296)+IntKind.u64.wrap (r8.t18-1)),cP IntKind.u64 (IntKind.u64.wrap (IntKind.u64.wrap (IntKind.u64.wrap (r8.t17*4294967296)+r8.t14)-IntKind.u64.wrap (IntKind.u64.wrap (r8.t18-1)*r8.t2))) r8.t8))else S else S else if 0<=r8.t8 then I ((IntKind.u64.wrap (IntKind.u64.wrap (r8.t15*4294967296)+r8.t18),cP IntKind.u64 (IntKind.u64.wrap (IntKind.u64.wrap (IntKind.u64.wrap (r8.t17*4294967296)+r8.t14)-IntKind.u64.wrap (r8.t18*r8.t2))) r8.t8))else S else S else S else S else S else S else S
def ax6:=eL wJ 357 G (lc (qi .u64) (lc (qi .u64) (lc (qi .u64) ln))) d357 (λg=>Ve g.1 g.2.1 g.t.1)
def adf:EO ax6:=λh=>kL (F:=aoS) (an:=(noTwo (noTwo (noTwo (noTwo (noTwo (noTwo (noTwo (noTwo (noTwo (noTwo (noTwo (noTwo (noTwo (noTwo (.two (Nt.lp E8 UG) (noTwo (noTwo (noTwo (.two (Nb.lp Bv VS) .no)))))))))))))))))))) (l:=[(bg f357 0,(Nt.lp E8 UG)),(.skip,(.rb [] 78)),(bg f357 1,(Nb.lp Bv VS)),(.skip,(.rb [] 113))]) func357 (Zj aQ) (aC (aO Nt) (aC agK (aC (aO Nb) (aC agK aG)))) h
abbrev ap2:=Int
def d353:Td 0 ap2:= .c [] [6] (.r 0 0 (ec 6 (qi .u64) en) sn (λz=>z.1.1) (λx=>((x,()),(()))))
def amE(a0:Int)(a1:Int)(a2:Int):af ap2:=
 if¬a2=0then match Ve (a0.tmod a2) a1 a2 with|S=>S|I r1=>I (r1.snd)else S
def awE:=eL wJ 353 G (lc (qi .u64) (lc (qi .u64) (lc (qi .u64) ln))) d353 (λg=>amE g.1 g.2.1 g.t.1)
def aap:EO awE:=λh=>kL (an:= .no) func353 (adf aQ) aG h
abbrev aoO:=Int
def d340:Td 0 aoO:= .c [] [6] (.r 0 0 (ec 6 aL en) sn (λz=>z.1.1) (λx=>((x,()),(()))))
def aei(a0:Int)(a1:Int)(a2:Int):af aoO:=
 match amE (Ws (IntKind.u64.wrap a0) (IntKind.u64.wrap a1)).fst (Ws (IntKind.u64.wrap a0) (IntKind.u64.wrap a1)).snd (IntKind.u64.wrap a2)with|S=>S|I r1=>I (i64.wrap r1)
def anP:=eL wJ 340 G (aM (aM (aM ln))) d340 (λg=>aei g.1 g.2.1 g.t.1)
def aaF:EO anP:=λh=>kL (an:= .no) func340 (aap (abO aQ)) aG h
end Go.Proofs.YtnfljbehcffmcaaGreat
end
