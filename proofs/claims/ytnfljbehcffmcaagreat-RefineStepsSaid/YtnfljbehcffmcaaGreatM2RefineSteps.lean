/- Merged: Iw9, Iw10, Iw11, Iw12, Iw13, Iw14, Iw15, Ixa, Ix1, Ix2, Ua, Ix3, Ix4, Us, Iz, Hl, Ix5, Ix6, Um, Hm. -/
import Derived.Test.YtnfljbehcffmcaaGreatM1RefineSteps
import Derived.Test.YtnfljbehcffmcaaGreatProg
open List renaming length -> zR
open Nat renaming beq -> ze, le_refl -> zm, blt -> zB, lt_succ_self -> zC, le_trans -> zG, le_succ -> yd, zero_add -> ym, ble -> yq, zero_le -> yV, eq_of_beq_eq_true -> xw, sub_self -> xT, add_sub_cancel -> wL
open List renaming length_append -> zh, replicate -> zj, mem_cons_self -> zk, mem_singleton -> zo, getElem?_eq_getElem -> zq, length_map -> zu, all_eq_true -> zx, mem_cons -> zy, mem_cons_of_mem -> zI, mem_map -> zK, map_append -> zM, mem_append -> zP, map_congr_left -> zZ, getElem?_eq_some_iff -> z7, mem_filter -> z8, getElem?_map -> ye, map_cons -> yf, map_map -> yw, append_nil -> yy, mem_append_left -> yI, mem_append_right -> yJ, nodup_append -> yO, flatMap_cons -> yQ, replicate_succ -> yR, append_assoc -> yS, length_cons -> yT, filter_cons -> yW, size_toArray -> y6, eq_nil_of_length_eq_zero -> xh, getElem?_append -> xx, mem_flatMap -> xz, filterMap_cons -> xD, getElem_mem -> xO, filter_filter -> wk, getD_eq_getElem?_getD -> wm, filter_congr -> wK, eraseIdx_sublist -> wQ, filter_eq_nil_iff -> wR, getElem?_replicate -> wT, getElem?_append_right -> wU, getElem?_append_left -> wV
open Bool renaming and_eq_true -> zi, or_eq_true -> yK, true -> O, false -> G
open Option renaming map_eq_some_iff -> zl, bind_eq_some_iff -> zn, some -> zF, bind_assoc -> z6, map_some -> yH, some -> V, none -> I
open Array renaming getElem?_eq_getElem -> xd
open Decidable renaming decide -> J
open Go.Proofs.Tryz renaming prog -> vi
open Go.Proofs.Tryz
set_option linter.unusedSectionVars false
set_option linter.unusedVariables false
set_option linter.unusedSimpArgs false
set_option linter.defProp false
noncomputable section
namespace Go.Iv
variable [U:tf] [L:nu]
open Go Go.RowKit
def lm(l:aa Nat):Nat:=List.rec 0 (λt _ ih=>Nat.lor ih (Nat.pow 2 t)) l
def Qt:∀(l:aa Nat) (t:Nat),(lm l).testBit t=O↔t∈l
 |[],t=>by simp[lm]
 |a::l,t=>by
  show ((lm l)|||2^a).testBit t=O↔_;rw[Nat.testBit_or,yK,Qt l t,Nat.testBit_two_pow];grind
def and_zero{x y t:Nat}(h:Nat.land x y=0)(hx:x.testBit t=O)(hy:y.testBit t=O):False:=by
 have:=Nat.testBit_and x y t;simp_all
def msk(acc:aa Nat)(es:aa Edge):Nat:=List.rec 0 (λe _ ih=>match Region.binds .any e with
 |true=>Nat.lor ih (Nat.lor (Nat.pow 2 e.on) (acc.getD e.on 0))
 |false=>ih) es
def IJ{acc:aa Nat}:∀{es:aa Edge} {j:Nat},(msk acc es).testBit j=O->∃e∈es,Region.binds .any e=O/\(j=e.on\/(acc.getD e.on 0).testBit j=O)
 |[],j,h=>by simp[msk]at h
 |e::es,j,h=>by
  change (match Region.binds .any e with
   |true=>Nat.lor (msk acc es) (Nat.lor (Nat.pow 2 e.on) (acc.getD e.on 0))
   |false=>msk acc es).testBit j=O at h
  cases hb:Region.binds .any e with
  |false=>
   rw[hb]at h;obtain⟨e',h1,h2⟩:=IJ h;exact⟨e',zI _ h1,h2⟩
  |true=>
   rw[hb]at h;change ((msk acc es)|||((2^e.on)|||(acc.getD e.on 0))).testBit j=O at h;rw[Nat.testBit_or,Nat.testBit_or,yK,yK,Nat.testBit_two_pow]at h;rcases h with h|h|h
   ·obtain⟨e',h1,h2⟩:=IJ h;exact⟨e',zI _ h1,h2⟩
   ·exact⟨e,zk,hb, .inl (by simp only[decide_eq_true_eq]at h;exact h.symm)⟩
   ·exact⟨e,zk,hb, .inr h⟩
def ON(l:aa Oper):aa Nat->aa Nat:=List.rec (λacc=>acc) (λo _ ih acc=>ih (acc++[msk acc o.after.toList])) l
def Rdy(bs:aa Bool)(o:Oper):Prop:=∀e∈o.after.toList,Region.binds .any e=O->bs[e.on]? =V O
def FL(ops:aa Oper)(bs:aa Bool):Prop:=∀(i:Nat) o,ops[i]? =V o->bs[i]? =V O->Rdy bs o
def ab5(ops:aa Oper)(acc:aa Nat):Prop:=∀(i m:Nat) o,acc[i]? =V m->ops[i]? =V o->∀bs,FL ops bs->Rdy bs o->∀j,m.testBit j=O->bs[j]? =V O
def VF(ops:aa Oper):∀(l:aa Oper) (acc:aa Nat),(∃pre,ops=pre++l/\zR pre=zR acc)->ab5 ops acc->ab5 ops (ON l acc)
 |[],acc,_,h=>h
 |o::l,acc,⟨pre,hp,hl⟩,h=>by
  refine VF ops l _ ⟨pre++[o],by rw[hp];simp,by simp[hl]⟩ λi m o' hm ho bs hc hr j hj=> ?_;rw[xx]at hm;split at hm
  ·exact h i m o' hm ho bs hc hr j hj
  ·rename_i hlt;have hi:i=zR acc:=by
    have:=(z7.1 hm).1;simp at this;omega
   subst hi;rw[xT]at hm;cases hm;have ho':o'=o:=by
    simp_all
   subst ho';obtain⟨e,h1,h2,h3⟩:=IJ hj;have h4:=hr e h1 h2;rcases h3 with rfl|h3
   ·exact h4
   ·cases ha:acc[e.on]? with
    |none=>rw[wm,ha]at h3;simp at h3
    |some m'=>
     rw[wm,ha]at h3;have hlt':=(z7.1 ha).1;cases hoe:ops[e.on]? with
     |none=>
      rw[List.getElem?_eq_none_iff,hp,zh]at hoe;omega
     |some oe=>exact h e.on m' oe ha hoe bs hc (hc e.on oe hoe h4) j h3
def azx:Operand->aa Nat
 | .tmp t=>[t]
 |_=>[]
def aoW(ops:Array Oper)(o:Oper):aa Nat:=match o.guard with
 |none=>[]
 |some (j,_)=>match (ops[j]?).bind (·.dst)with
  |some t=>[t]
  |none=>[]
def dx(ops:Array Oper)(o:Oper):aa Nat:=o.op.operands.toList.flatMap azx++aoW ops o
def efk(o:Oper):Bool:=match o.op with
 | .store _ _ _=>O
 | .buildSlice _ _ _=>O
 | .makeSlice _ _ _=>O
 | .alloc _=>O
 | .box _ _=>O
 | .slice _ _ _ _ _=>O
 | .call {callee:= .builtin .len, ..}=>G
 | .call {callee:= .builtin .max, ..}=>G
 | .call {callee:= .builtin .min, ..}=>G
 | .call _=>O
 |_=>G
def dmk:af Nat->Nat
 |none=>0
 |some t=>Nat.pow 2 t
def Dk{d:af Nat}{t:Nat}(h:d=V t):(dmk d).testBit t=O:=by
 subst h;show (2^t).testBit t=O;simp
structure Sk where
 (anc sm dm:Nat)
 ef:Bool
def X9(j:Nat)(a b:Sk):Bool:=b.anc.testBit j||(ze (Nat.land a.dm b.sm) 0&&ze (Nat.land a.dm b.dm) 0&&ze (Nat.land b.dm a.sm) 0)
def UI(b:Sk)(i:Nat)(l:aa Sk):Nat->af (aa (Nat×Nat)):=List.rec (λ_=>V []) (λa _ ih j=>match X9 j a b with
 |true=>match !b.anc.testBit j&&(a.ef||b.ef)with
  |true=>(ih (j+1)).map λps=>(j,i)::ps
  |false=>ih (j+1)
 |false=>I) l
def anC(l:aa Sk):aa Sk->Nat->af (aa (Nat×Nat)):=List.rec (λ_ _=>V []) (λb _ ih pre i=>(UI b i pre 0).bind λps=>(ih (pre++[b]) (i+1)).map λqs=>ps++qs) l
def GH{b:Sk}{i:Nat}:∀{l:aa Sk} {k:Nat} {ps:aa (Nat×Nat)},UI b i l k=V ps->∀(j:Nat) a,l[j]? =V a->X9 (k+j) a b=O/\(b.anc.testBit (k+j)=O\/(a.ef||b.ef)=G\/(k+j,i)∈ps)
 |[],k,ps,_,j,a,h=>by cases h
 |a0::l,k,ps,hs,j,a,h=>by
  change (match X9 k a0 b with
   |true=>match !b.anc.testBit k&&(a0.ef||b.ef)with
    |true=>(UI b i l (k+1)).map λps=>(k,i)::ps
    |false=>UI b i l (k+1)
   |false=>I)=V ps at hs
  cases h0:X9 k a0 b with
  |false=>rw[h0]at hs;cases hs
  |true=>
   rw[h0]at hs;cases h1:(!b.anc.testBit k&&(a0.ef||b.ef))with
   |true=>
    rw[h1]at hs;obtain⟨ps',h2,rfl⟩:=zl.1 hs;cases j with
    |zero=>cases h;exact⟨h0, .inr (.inr zk)⟩
    |succ j=>
     obtain⟨h3,h4⟩:=GH h2 j a h;rw[show k+1+j=k+(j+1)from aq]at h3 h4;exact⟨h3,h4.imp id (λh=>h.imp id λh=>zI _ h)⟩
   |false=>
    rw[h1]at hs;cases j with
    |zero=>
     cases h;refine⟨h0,?_⟩;cases hb:b.anc.testBit k with
     |true=>exact .inl rfl
     |false=>rw[hb]at h1;exact .inr (.inl (by simpa using h1))
    |succ j=>
     obtain⟨h3,h4⟩:=GH hs j a h;rw[show k+1+j=k+(j+1)from aq]at h3 h4;exact⟨h3,h4⟩
def N5:∀{l pre:aa Sk} {k:Nat} {ps:aa (Nat×Nat)},anC l pre k=V ps->zR pre=k->∀(i j:Nat) a b,j<i->k<=i->(pre++l)[j]? =V a->(pre++l)[i]? =V b->X9 j a b=O/\(b.anc.testBit j=O\/(a.ef||b.ef)=G\/(j,i)∈ps)
 |[],pre,k,ps,_,hk,i,j,a,b,_,hki,_,hb=>by
  rw[yy]at hb;have:=(z7.1 hb).1;omega
 |b0::l,pre,k,ps,hs,hk,i,j,a,b,hji,hki,ha,hb=>by
  obtain⟨p1,h1,hs⟩:=zn.1 hs;obtain⟨p2,h2,rfl⟩:=zl.1 hs;by_cases hik:i=k
  ·subst hik;rw[wU aq,hk,xT]at hb;cases hb;rw[wV aq]at ha;have:=GH h1 j a ha;rw[ym]at this;exact⟨this.1,this.2.imp id λh=>h.imp id λh=>yI _ h⟩
  ·have h3:=N5 h2 (by simp[hk]) i j a b hji aq (by simpa using ha) (by simpa using hb);exact⟨h3.1,h3.2.imp id λh=>h.imp id λh=>yJ _ h⟩
def awW(ops:Array Oper)(l:aa Oper):aa Nat->aa Sk:=List.rec (λ_=>[]) (λo _ ih ms=>match ms with
 |m::ms=>⟨m,lm (dx ops o),dmk o.dst,efk o⟩::ih ms
 |[]=>[]) l
def plan(ops:Array Oper):af (aa (Nat×Nat)):=anC (awW ops ops.toList (ON ops.toList [])) [] 0
def aeC(l:aa Oper):∀acc:aa Nat,zR (ON l acc)=zR acc+zR l:=by
 induction l with
 |nil=>intro acc;rfl
 |cons o l ih=>intro acc;show zR (ON l (acc++[_]))=_;rw[ih];simp;omega
def EE(ops:Array Oper):∀(l:aa Oper) (ms:aa Nat) (i:Nat) (o:Oper) (m:Nat),l[i]? =V o->ms[i]? =V m->(awW ops l ms)[i]? =V ⟨m,lm (dx ops o),dmk o.dst,efk o⟩
 |[],_,_,_,_,h,_=>by cases h
 |o0::l,[],_,_,_,_,h=>by cases h
 |o0::l,m0::ms,i,o,m,h1,h2=>by
  cases i with
  |zero=>cases h1;cases h2;rfl
  |succ i=>exact EE ops l ms i o m h1 h2
def aj0(xs:aa Nat)(Lo:bt)(ys:aa Nat):Bool:=xs.all (λi=> !dG i ys)&&Lo.all λp=> !dG p.1 ys
def cfD(c d:Rc):Bool:=(!c.ef||aj0 c.wr c.Lo d.rd)&&(!d.ef||aj0 d.wr d.Lo c.rd)
def abW(ps:aa (Nat×Nat))(cs:aa Rc):Bool:=ps.all λp=>match cs[p.1]?,cs[p.2]? with
 |some c,V d=>cfD c d
 |_,_=>G
def Xp{xs ys:aa Nat}{Lo:bt}(h:aj0 xs Lo ys=O):(∀i∈xs,i∉ys)/\∀p∈Lo,p.1∉ys:=by
 unfold aj0 at h;simp only[zi,zx,Bool.not_eq_true']at h;exact⟨λi hi=>jj.1 (h.1 i hi),λp hp=>jj.1 (h.2 p hp)⟩
def ag1{ops:Array Oper}{ps:aa (Nat×Nat)}{cs:aa Rc}(hp:plan ops=V ps)(ho:abW ps cs=O)(hcs:∀(i:Nat) c,cs[i]? =V c->∃o,ops.toList[i]? =V o/\c.dst=o.dst/\c.sl=dx ops o/\(c.ef=O->efk o=O)/\∀i∈c.wr,i∈c.rd)
  {i j:Nat} {c d:Rc} (hji:j<i) (hc:cs[j]? =V c) (hd:cs[i]? =V d):
  CF c d\/∀bs,FL ops.toList bs->(∀o,ops.toList[i]? =V o->Rdy bs o)->bs[j]? =V O:=by
 obtain⟨o1,h1,h2,h3,h4,h5⟩:=hcs j c hc;obtain⟨o2,g1,g2,g3,g4,g5⟩:=hcs i d hd;have hl1:=(z7.1 h1).1;have hl2:=(z7.1 g1).1;have hml:zR (ON ops.toList [])=zR ops.toList:=by rw[aeC];simp
 obtain⟨m1,hm1⟩:∃m,(ON ops.toList [])[j]? =V m:=⟨_,zq (by rw[hml];exact hl1)⟩;obtain⟨m2,hm2⟩:∃m,(ON ops.toList [])[i]? =V m:=⟨_,zq (by rw[hml];exact hl2)⟩;have s1:=EE ops ops.toList _ j o1 m1 h1 hm1;have s2:=EE ops ops.toList _ i o2 m2 g1 hm2;obtain⟨q1,q2⟩:=N5 hp rfl i j _ _ hji (yV _) s1 s2;have hmsk:ab5 ops.toList (ON ops.toList []):=VF ops.toList ops.toList [] ⟨[],rfl,rfl⟩ λi m o h=>by cases h
 by_cases ha:m2.testBit j=O
 ·exact .inr λbs hcl hr=>hmsk i m2 o2 hm2 g1 bs hcl (hr o2 g1) j ha
 ·refine .inl ?_;have ha':m2.testBit j=G:=by simpa using ha
  unfold X9 at q1;simp only[ha',Bool.false_or,zi]at q1;obtain⟨⟨r1,r2⟩,r3⟩:=q1;have r1:=gU r1;have r2:=gU r2;have r3:=gU r3;have hdyn:(c.ef||d.ef)=G\/cfD c d=O:=by
   rcases q2 with q2|q2|q2
   ·exact ep q2 ha
   ·simp only[Bool.or_eq_false_iff]at q2;left;have e1:c.ef=G:=by
     simp_all
    have e2:d.ef=G:=by
     simp_all
    rw[e1,e2];rfl
   ·right;have:=zx.1 ho _ q2;simp only[hc,hd]at this;omega
  refine⟨λt ht=>⟨λhm=> ?_,λe=> ?_⟩,λt ht hm=> ?_,λhe=> ?_,λhe=> ?_⟩
  ·rw[h2]at ht;rw[g3]at hm;exact and_zero r1 (Dk ht) ((Qt _ _).2 hm)
  ·rw[h2]at ht;rw[g2]at e;exact and_zero r2 (Dk ht) (Dk e)
  ·rw[g2]at ht;rw[h3]at hm;exact and_zero r3 (Dk ht) ((Qt _ _).2 hm)
  ·rcases hdyn with h|h
   ·rw[he]at h;simp at h
   ·unfold cfD at h;simp only[he,zi,yK,Bool.not_eq_true']at h;have q:=Xp (h.1.resolve_left (by simp));exact⟨q.1,q.2,λp hp hx=>q.2 p hp (g5 _ hx)⟩
  ·rcases hdyn with h|h
   ·rw[he]at h;simp at h
   ·unfold cfD at h;simp only[he,zi,yK,Bool.not_eq_true']at h;have q:=Xp (h.2.resolve_left (by simp));exact⟨q.1,q.2,λp hp hx=>q.2 p hp (h5 _ hx)⟩
def IR.gY(p:Nat->Prop):IR->Prop
 | .box _ cs=>∀c∈cs,Iv.gY p c
 | .row _ _=>True
def bt.gY(p:Nat->Prop)(R:bt):Prop:=∀q∈R,p q.1/\q.2.gY p
def IR.gY.mono{p q:Nat->Prop}{r:IR}(h:r.gY p)(hn:∀i,p i->q i):r.gY q:=by
 cases r with
 |box T cs=>exact λc hc=>(h c hc).mono hn
 |row t l=>trivial
def bt.gY.mono{p q:Nat->Prop}{R:bt}(h:bt.gY p R)(hn:∀i,p i->q i):bt.gY q R:=λx hx=>⟨hn _ (h x hx).1,(h x hx).2.mono hn⟩
def bt.gY.res{p:Nat->Prop}{R:bt}{S S':Gh}(h:bt.gY p R)(ha:Ags p S S'):bt.res S R=bt.res S' R:=zZ λq hq=>by
 obtain⟨h1,h2⟩:=h q hq;obtain⟨i,r⟩:=q;cases r with
 |box T cs=>simp only[IR.res];rw[(ha i h1).2,Iv.gY.aeJ h2 ha]
 |row t l=>simp only[IR.res];rw[(ha i h1).1]
def bt.gY.perm{p:Nat->Prop}{R R':bt}(h:bt.gY p R)(hp:List.Perm R R'):bt.gY p R':=λq hq=>h q (hp.mem_iff.2 hq)
def bt.cW.lts{n:Nat}{R:bt}(h:bt.cW n R):bt.gY (λi=>i<n) R:=λq hq=>⟨(h q hq).1,by
 have:=(h q hq).2;cases hr:q.2 with
 |box T cs=>rw[hr]at this;exact this
 |row t l=>trivial⟩
def bt.gY.sq{n:Nat}{R:bt}(h:bt.gY (λi=>i<n) R):bt.cW n R:=λq hq=>⟨(h q hq).1,by
 have:=(h q hq).2;cases hr:q.2 with
 |box T cs=>rw[hr]at this;exact this
 |row t l=>trivial⟩
def uN(f:Fr)(sl:aa Nat):Env:=sl.filterMap λt=>(f t).map λd=>(t,d)
def EF{f:Fr}{t:Nat}{d:AV}:∀{sl:aa Nat},(uN f sl).get t=V d->f t=V d
 |[],h=>by cases h
 |s::sl,h=>by
  unfold uN at h;rw[xD]at h;cases hs:f s with
  |none=>
   rw[hs]at h;exact EF (sl:=sl) h
  |some e=>
   rw[hs]at h;simp only[yH]at h;unfold Env.get at h;cases hb:ze s t with
   |true=>
    simp_all
   |false=>
    rw[hb]at h;exact EF (sl:=sl) h
def Jk{f:Fr}{t:Nat}{d:AV}:∀{sl:aa Nat},t∈sl->f t=V d->(uN f sl).get t=V d
 |[],h,_=>by cases h
 |s::sl,h,hf=>by
  unfold uN;rw[xD];by_cases hst:s=t
  ·subst hst;rw[hf];exact Env.fB _ _ _
  ·have ht:t∈sl:=(zy.1 h).resolve_left λe=>hst e.symm;cases f s with
   |none=>exact Jk ht hf
   |some e=>simp only[yH];rw[Env.dY _ _ hst];exact Jk ht hf
def QF{f g:Fr}{sl:aa Nat}(h:∀t∈sl,f t=g t):uN f sl=uN g sl:=by
 unfold uN;induction sl with
 |nil=>rfl
 |cons s sl ih=>
  rw[xD,xD,h s zk,ih λt ht=>h t (zI _ ht)]
section
variable {P:Program} {C:Cx} {n:Nat} {o:Oper}
def MtS(C:Cg)(n:Nat)(p:Nat->Prop)(f:Fr)(R:bt)(a:Act)(w:World):Prop:=∃(E:Env) (S:Gh),(∀t d,f t=V d->E.get t=V d)/\(∀q∈E,gY p q.2)/\bt.gY p R/\pU C.n C.S S/\uI C.C n (E.sub S) (bt.res S R) a w
def qA{S:Gh}{R R':bt}(h:List.Perm R R'):List.Perm (bt.res S R) (bt.res S R'):=h.map _
def k9{S:Gh}(R R':bt):bt.res S (R++R')=bt.res S R++bt.res S R':=zM ..
def MtS.perm{C:Cg}{p:Nat->Prop}{f:Fr}{R R':bt}{a:Act}{w:World}(h:MtS C n p f R a w)(hp:List.Perm R R'):MtS C n p f R' a w:=by
 obtain⟨E,S,h1,h2,h3,h5,h4⟩:=h;exact⟨E,S,h1,h2,h3.perm hp,h5,h4.perm (qA hp)⟩
def Nlc(nx:Nat)(v:AV)(Ro:bt)(S:Gh):af AV->aa cn->Prop:=λa B'=>∃S',pU nx S S'/\(a=V (v.sub S')\/a=I/\v= .lit undef)/\List.Perm B' (bt.res S' Ro)
def agq{wr rd:aa Nat}(h:∀i∈wr,i∈rd)(R:bt):List.Perm (iP wr (cC rd R)++iP rd R) (iP wr R):=by
 have e1:iP wr (cC rd R)=(iP wr R).filter λp=>dG p.1 rd:=by
  simp only[iP,cC,wk];grind
 have e2:iP rd R=(iP wr R).filter λp=> !dG p.1 rd:=by
  simp only[iP,wk];refine wK λp _=> ?_;cases hm:dG p.1 rd with
  |true=>rfl
  |false=>
   have:dG p.1 wr=G:=jj.2 λhw=>jj.1 hm (h _ hw);rw[this];rfl
 rw[e1,e2];exact List.filter_append_perm _ _
def at1{C:Cg}{p:Nat->Prop}{f:Fr}{R:bt}{a:Act}{w:World}{c:Rc}{nx nx':Nat}{ae:Exit->Act->World->Prop}{K':Act->World->Prop}
  (hn:C.n<=nx) (hm:MtS C n p f R a w) (hdst:c.dst=o.dst) (hd:MU n o.dst=O) (hwr:∀i∈c.wr,i∈c.rd) (hloc:∀S C,Ye P ((uN f c.sl).sub S) (bt.res S (cC c.rd R)) o C (Nlc nx c.v (match c.ef with|O=>c.Lo++iP c.wr (cC c.rd R)|G=>cC c.rd R) S))
  (hp:∀i,p i->¬(nx<=i/\i<nx')) (hv:cW nx' c.v) (hLi:bt.cW nx (cC c.rd R)) (hLo:c.ef=O->bt.cW nx' c.Lo)
  (hv':gY (λi=>p i\/(nx<=i/\i<nx')) c.v) (hLo':c.ef=O->bt.gY (λi=>p i\/(nx<=i/\i<nx')) c.Lo)
  (hK:∀a' w',a'.defers=a.defers->MtS C n (λi=>p i\/(nx<=i/\i<nx')) (c.F f) (c.R R) a' w'->K' a' w'):o.wp P a w K' ae:=by
 obtain⟨E,S,h1,h2,h3,h0,hsim0⟩:=hm;have hpm:List.Perm (cC c.rd R++iP c.rd R) R:=List.filter_append_perm _ _;have hsim:=hsim0.perm (qA (S:=S) hpm.symm);rw[k9]at hsim;generalize ba:bt.res S (cC c.rd R)=σi at hsim;generalize bc:bt.res S (iP c.rd R)=σr at hsim;have hg:=hsim.good;have hlt:∀b∈bC (σi++σr),b<w.heap.size:=λb hb=>by
  obtain⟨s,q1,q2⟩:=bS.1 hb;exact(hg.res s q1).lt q2
 have hal:∀b,al C.C (σi++σr) b->al ⟨w,al C.C (σi++σr),bC σi⟩ σi b:=λb hA=>⟨.inl hA,λhx=>hA.2 (bQ.2 (.inl hx))⟩;have hgood:Good ⟨w,al C.C (σi++σr),bC σi⟩ σi w:=⟨Kp.refl _ _,λr hr=>(hg.res r (yI _ hr)).mono (λb _ hA=>⟨hal b hA,rfl⟩) (λ_ _=>rfl),by
  have:=hg.Il;rw[ia]at this;exact(yO.1 this).1,λb hb=> .inl hb⟩
 have hops:P9 (al ⟨w,al C.C (σi++σr),bC σi⟩ σi) w ((uN f c.sl).sub S) a.eval:=λx u hx=>by
  rw[Env.TO]at hx;obtain⟨d,hd1,rfl⟩:=zl.1 hx;have hE:E.ev x=V d:=by
   cases x with
   |tmp t=>exact h1 t d (EF hd1)
   |_=>exact hd1
  exact(hsim.slots.ops x (d.sub S) (by rw[Env.TO,hE];rfl)).mono λb _ hA=>⟨hal b hA,rfl⟩
 have step:∀(S':Gh) (σo:aa cn) (w':World),pU nx S S'->List.Perm σo (bt.res S' (match c.ef with|O=>c.Lo++iP c.wr (cC c.rd R)|G=>cC c.rd R))->Tr ⟨w,al C.C (σi++σr),bC σi⟩ (bC σi) σi w σo w'->
   ∃S'':Gh,pU C.n C.S S''/\c.v.sub S'=c.v.sub S''/\uI C.C n (E.sub S'') (bt.res S'' (c.R R)) a w'/\(∀b,b<w'.heap.size->al ⟨w,al C.C (σi++σr),bC σi⟩ σo b->al C.C (bt.res S'' (c.R R)) b):=λS' σo w' ha be ht=>by
  let S'':Gh:=⟨λi=>if nx<=i/\i<nx' then S'.v i else S.v i,λi=>if nx<=i/\i<nx' then S'.b i else S.b i⟩
  have hag:Ags p S S'':=λi hi=>by
   have:=hp i hi;exact⟨by simp only[S'',bN this],by simp only[S'',bN this]⟩
  have hag2:pU nx' S' S'':=λi hi=>by
   by_cases hni:nx<=i
   ·exact⟨by simp only[S'',bJ (And.intro hni hi)],by simp only[S'',bJ (And.intro hni hi)]⟩
   ·have h0:¬(nx<=i/\i<nx'):=λh=>hni h.1;obtain⟨a1,a2⟩:=ha i aq;exact⟨by simp only[S'',bN h0];exact a1.symm,by simp only[S'',bN h0];exact a2.symm⟩
  have hnx:nx<=nx'\/nx'<nx:=aq;have hown:∀b∈bC σo,b∈bC σi\/w.heap.size<=b:=ht.good.own;have hsub:∀b,b<w'.heap.size->al ⟨w,al C.C (σi++σr),bC σi⟩ σo b->al C.C (σo++σr) b:=λb _ hb=>by
   obtain⟨hb1,hb2⟩:=hb;rcases hb1 with hb1|hb1|hb1
   ·exact⟨hb1.1,λhx=>(bQ.1 hx).elim hb2 (λh=>hb1.2 (bQ.2 (.inr h)))⟩
   ·have hbp:b∈bC σi:=hb1;refine⟨?_,λhx=>(bQ.1 hx).elim hb2 (λh=> ?_)⟩
    ·rcases hg.own b (bQ.2 (.inl hbp))with h|h
     ·simp_all
     ·omega
    ·have hdis:=hg.Il;rw[ia]at hdis;exact(yO.1 hdis).2.2 b hbp b h rfl
   ·have hbw:w.heap.size<=b:=hb1;exact⟨.inr (.inr (zG hg.kept.size hbw)),λhx=>(bQ.1 hx).elim hb2 (λh=>by have:=hlt b (bQ.2 (.inr h));omega)⟩
  have ht2:Tr C.C (bC σi) (σi++σr) w (σo++σr) w':=Dr hg (λb hA _=> .inl hA) ht (λr hr=>(ht.good.res r hr).mono (λb hb hA=>⟨hsub b hb hA,rfl⟩) (λ_ _=>rfl));have hs2:=hsim.tr ht2;have hout:bt.gY p (iP c.rd R):=λq hq=>h3 q (z8.1 hq).1;have hEs:E.sub S=E.sub S'':=zZ λq hq=>by rw[(h2 q hq).sub hag]
  have hrs:σr=bt.res S'' (iP c.rd R):=by rw[<-bc,hout.res hag]
  have hpo:List.Perm (σo++σr) (bt.res S'' (c.R R)):=by
   rw[hrs];unfold Rc.R;cases hce:c.ef with
   |true=>
    rw[hce]at be;simp only at be ⊢;have hin:bt.gY p (iP c.wr (cC c.rd R)):=λq hq=>h3 q (z8.1 (z8.1 hq).1).1;have hin2:bt.cW nx (iP c.wr (cC c.rd R)):=λq hq=>hLi q (z8.1 hq).1;have e1:bt.res S' (iP c.wr (cC c.rd R))=bt.res S'' (iP c.wr (cC c.rd R)):=by rw[<-hin2.res ha,hin.res hag]
    rw[k9,e1,(hLo hce).res hag2]at be;refine(be.append_right _).trans ?_;rw[yS,k9,<-k9 (iP c.wr (cC c.rd R))];exact List.Perm.append_left _ (qA (agq hwr R))
   |false=>
    rw[hce]at be;have hin:bt.gY p (cC c.rd R):=λq hq=>h3 q (z8.1 hq).1;have e1:bt.res S' (cC c.rd R)=bt.res S'' (cC c.rd R):=by rw[<-hLi.res ha,hin.res hag]
    rw[e1]at be;refine(be.append_right _).trans ?_;rw[<-k9];exact qA hpm
  refine⟨S'',h0.trans (λi hi=>⟨by simp only[S'',bN (show ¬(nx<=i/\i<nx')by omega)],by simp only[S'',bN (show ¬(nx<=i/\i<nx')by omega)]⟩) (zm C.n),hv.sub hag2,by rw[<-hEs];exact hs2.perm hpo,λb hb hA=>V4 hpo b (hsub b hb hA)⟩
 have fin:∀(S':Gh) (σo:aa cn) (w':World) (v:Value),pU nx S S'->List.Perm σo (bt.res S' (match c.ef with|O=>c.Lo++iP c.wr (cC c.rd R)|G=>cC c.rd R))->Tr ⟨w,al C.C (σi++σr),bC σi⟩ (bC σi) σi w σo w'->
   Rel (al ⟨w,al C.C (σi++σr),bC σi⟩ σo) w' (c.v.sub S') v->K' (a.put o.dst v) w':=λS' σo w' v q1 q2 q3 q4=>by
  obtain⟨S'',g1,g2,g3,g4⟩:=step S' σo w' q1 q2 q3;have hR':bt.gY (λi=>p i\/(nx<=i/\i<nx')) (c.R R):=by
   unfold Rc.R;cases hce:c.ef with
   |false=>exact h3.mono λi hi=> .inl hi
   |true=>exact λq hq=>(zP.1 hq).elim (hLo' hce q) λhq=>⟨.inl (h3 q (z8.1 hq).1).1,(h3 q (z8.1 hq).1).2.mono λi hi=> .inl hi⟩
  refine hK _ _ (by cases o.dst<;>rfl) ?_;rw[g2]at q4;cases hdo:o.dst with
  |none=>exact⟨E,S'',λt d ht=>h1 t d (by unfold Rc.F at ht;rw[hdst,hdo]at ht;simpa using ht),λq hq=>(h2 q hq).mono λi hi=> .inl hi,hR',g1,g3⟩
  |some t=>
   refine⟨(t,c.v)::E,S'',λs d hs=> ?_,λq hq=> ?_,hR',g1,?_⟩
   ·unfold Rc.F at hs;rw[hdst,hdo]at hs;by_cases hts:t=s
    ·subst hts;rw[bJ rfl]at hs;cases hs;exact Env.fB _ _ _
    ·rw[bN (λe=>hts (zF.inj e))]at hs;rw[Env.dY _ _ hts];exact h1 s d hs
   ·rcases zy.1 hq with rfl|hq
    ·exact hv'
    ·exact(h2 q hq).mono λi hi=> .inl hi
   ·rw[hdo]at hd;exact g3.put hd (q4.mono λb hb hA=>⟨g4 b hb hA,rfl⟩)
 unfold Oper.wp;subst ba;rcases hloc S _ w a.eval hgood hops with ⟨v,w',av,B',⟨S',q1,q2,q3⟩,r1,r2,r3⟩|⟨w',B',⟨S',q1,q2,q3⟩,r1,r2⟩|⟨g,args,r1,r2⟩
 ·rw[r2];rcases q2 with q2|⟨q2,_⟩
  ·cases q2;exact fin S' B' w' v q1 q3 r1 r3
  ·cases q2
 ·rw[r2];rcases q2 with q2|⟨_,q2⟩
  ·cases q2
  ·exact fin S' B' w' undef q1 q3 r1 (by rw[q2,bW];exact .lit _)
 ·rw[r1];refine Calls.mono r2 λee w' ⟨v,av,B',q0,⟨S',q1,q2,q3⟩,s1,s2⟩=> ?_;subst q0;rcases q2 with q2|⟨q2,_⟩
  ·cases q2;exact fin S' B' w' v q1 q3 s1 s2
  ·cases q2
end
end Go.Iv
end
noncomputable section
namespace Go.Iv
variable [U:tf] [L:nu]
open Go Go.RowKit
section
variable {P:Program} {o:Oper} {C:Cx} {N:af AV->aa cn->Prop}
def Ye.Zh{E:Env}{R:bt}{S:Gh}{id t:Nat}{l:aa (U.dh t)}(hr:gJ R id=V (.row t l))
  (h:Ye P (Env.sub S (E.map λp=>(p.1,oN id t l 3 p.2))) (bt.res S ((lz id R).map λp=>(p.1,Ah id t l p.2))) o C N):Ye P (E.sub S) (bt.res S R) o C N:=λw y hg ar=>by
 obtain⟨i,hi1,_,hi3⟩:=eT hr;have hres:=iD (S:=S) hi1;have hd:Hd (al C (bt.res S R)) [.row (S.v id) t l] w:=⟨λr hr=>by
   rw[zo]at hr;rw[hr];exact hg.res _ (List.mem_of_getElem? hres),λb hb hA=>hA.2 (by
   obtain⟨r,h1,h2⟩:=bS.1 hb;rw[zo]at h1;rw[h1]at h2;exact bS.2 ⟨_,List.mem_of_getElem? hres,h2⟩)⟩
 have hle:=Nd (C:=C) hres hg;have hbk:bC (bt.res S ((lz id R).map λp=>(p.1,Ah id t l p.2)))=bC ((bt.res S R).eraseIdx i):=by
  rw[<-Cb,<-hi3];unfold bC bt.res;rw[yw,List.filterMap_map,List.filterMap_map]
  congr 1
  funext p
  obtain⟨q,rr⟩:=p;cases rr<;>rfl
 have hal:∀b,(al C (bt.res S R) b\/b∈bC [cn.row (S.v id) t l])->al C (bt.res S ((lz id R).map λp=>(p.1,Ah id t l p.2))) b:=λb hb=>by
  have:=hle b hb;exact⟨this.1,by rw[hbk];exact this.2⟩
 have hrel:∀{d:AV} {v:Value},Rel (al C (bt.res S R)) w (d.sub S) v->Rel (al C (bt.res S ((lz id R).map λp=>(p.1,Ah id t l p.2)))) w ((oN id t l 3 d).sub S) v:=λh=>
  (DT hd 3 h).mono λb _ hA=>⟨hal b hA,rfl⟩
 have hsubb:∀b∈bC (bt.res S ((lz id R).map λp=>(p.1,Ah id t l p.2))),b∈bC (bt.res S R):=λb hb=>by
  rw[hbk]at hb;exact qF (λr hr=>(wQ _ _).subset hr) b hb
 have hg':Good C (bt.res S ((lz id R).map λp=>(p.1,Ah id t l p.2))) w:=by
  refine⟨hg.kept,λrr hrr=> ?_,?_,λb hb=>hg.own b (hsubb b hb)⟩
  ·obtain⟨p,h1,rfl⟩:=zK.1 hrr;obtain⟨p',h2,rfl⟩:=zK.1 h1;have hm:p'.2.res S p'.1∈bt.res S R:=by
    rw[hi3]at h2;exact zK.2 ⟨p',List.mem_of_mem_eraseIdx h2,rfl⟩
   have h3:=hg.res _ hm;obtain⟨q,rr⟩:=p';cases rr with
   |row t' l'=>exact h3.mono (λb _ hA=>⟨hal b (.inl hA),rfl⟩) (λ_ _=>rfl)
   |box T cs=>
    obtain⟨us,h4,h5⟩:=h3;refine⟨us,h4,by simpa using h5.1,λj av v q1 q2=> ?_⟩;rw[yw,ye]at q1;obtain⟨c,hc,rfl⟩:=zl.1 q1;exact hrel (h5.2 j (c.sub S) v (by rw[ye,hc];rfl) q2)
  ·rw[hbk];exact hg.Il.sublist ((wQ _ _).filterMap _)
 have hops:P9 (al C (bt.res S ((lz id R).map λp=>(p.1,Ah id t l p.2)))) w (Env.sub S (E.map λp=>(p.1,oN id t l 3 p.2))) y:=λx u hx=>by
  cases x with
  |tmp k=>
   have hx':Env.get (Env.sub S (E.map λp=>(p.1,oN id t l 3 p.2))) k=V u:=hx;rw[Env.fA,dV]at hx';obtain⟨d',h1,rfl⟩:=zl.1 hx';obtain⟨d,h2,rfl⟩:=zl.1 h1;exact hrel (ar (.tmp k) (d.sub S) (by show Env.get (E.sub S) k=_;rw[Env.fA,h2];rfl))
  |const v=>exact(ar (.const v) u hx).mono λb _ hA=>⟨hal b (.inl hA),rfl⟩
  |global g=>exact(ar (.global g) u hx).mono λb _ hA=>⟨hal b (.inl hA),rfl⟩
  |func f=>exact(ar (.func f) u hx).mono λb _ hA=>⟨hal b (.inl hA),rfl⟩
 have htr:∀{B':aa cn} {w':World},Tr C (bC (bt.res S ((lz id R).map λp=>(p.1,Ah id t l p.2)))) (bt.res S ((lz id R).map λp=>(p.1,Ah id t l p.2))) w B' w'->Tr C (bC (bt.res S R)) (bt.res S R) w B' w':=λh=>
  ⟨h.good,⟨h.kp.os,h.kp.tape,h.kp.output,h.kp.drawn,h.kp.size,λk hk hn=>h.kp.block k hk λhx=>hn (hsubb k hx)⟩,λb hb hA=>⟨(h.al b hb (hal b (.inl hA))).1,hA.2⟩⟩
 rcases h w y hg' hops with ⟨v,w',av,B',h1,h2,h3,h4⟩|⟨w',B',h1,h2,h3⟩|⟨f,args,h1,h2⟩
 ·exact .inl ⟨v,w',av,B',h1,htr h2,h3,h4⟩
 ·exact .inr (.inl ⟨w',B',h1,htr h2,h3⟩)
 ·exact .inr (.inr ⟨f,args,h1,h2.mono λe w' ⟨v,av,B',q1,q2,q3,q4⟩=>⟨v,av,B',q1,q2,htr q3,q4⟩⟩)
def aco(sl:aa Nat)(T:ET)(E:Env):Prop:=∀t∈sl,∀d,cV T t=V d->E.get t=V d
def Ye.kK{sl:aa Nat}{nx:Nat}{S:Gh}:∀(ids:aa Nat) (T:ET) (E:Env) (R:bt),aco sl T E->E.cW nx->bt.cW nx R->
  (∀E',aco sl (St.kK ⟨T,R,nx⟩ ids).E E'->E'.cW nx->bt.cW nx (St.kK ⟨T,R,nx⟩ ids).R->Ye P (E'.sub S) (bt.res S (St.kK ⟨T,R,nx⟩ ids).R) o C N)->Ye P (E.sub S) (bt.res S R) o C N
 |[],T,E,R,hh,hE,hR,h=>h E hh hE hR
 |i::ids,T,E,R,hh,hE,hR,h=>by
  have e0:St.kK ⟨T,R,nx⟩ (i::ids)=(St.Mp ⟨T,R,nx⟩ i).kK ids:=rfl;rw[e0]at h;have key:∀s:St,s.nx=nx->s=⟨s.E,s.R,nx⟩:=λs hs=>by obtain⟨a,b,c⟩:=s;simp only at hs;rw[hs]
  cases hr:gJ R i with
  |none=>
   have e1:St.Mp ⟨T,R,nx⟩ i=⟨T,R,nx⟩:=by unfold St.Mp;simp only[hr]
   rw[e1]at h;exact Ye.kK ids T E R hh hE hR h
  |some rr=>
   cases rr with
   |box T0 cs=>
    have e1:St.Mp ⟨T,R,nx⟩ i=⟨T,R,nx⟩:=by unfold St.Mp;simp only[hr]
    rw[e1]at h;exact Ye.kK ids T E R hh hE hR h
   |row t l=>
    have e1:St.Mp ⟨T,R,nx⟩ i=⟨emap (oN i t l 3) T,(lz i R).map λp=>(p.1,Ah i t l p.2),nx⟩:=by unfold St.Mp;simp only[hr]
    rw[e1]at h;refine Ye.Zh hr (Ye.kK ids _ _ _ (λk hk d hd=> ?_) (λp hp=> ?_) (λp hp=> ?_) h)
    ·rw[Ai]at hd;obtain⟨d',h1,rfl⟩:=zl.1 hd;rw[dV,hh k hk d' h1];rfl
    ·obtain⟨p',h1,rfl⟩:=zK.1 hp;exact qC 3 (hE p' h1)
    ·obtain⟨p',h1,rfl⟩:=zK.1 hp;have h2:=FP (id:=i) hR p' h1;refine⟨h2.1,?_⟩;obtain⟨q,rr⟩:=p';cases rr with
     |row t' l'=>trivial
     |box T0 cs=>
      intro c hc;obtain⟨c',h3,rfl⟩:=zK.1 hc;exact qC 3 (h2.2 c' h3)
end
def evL(sl:aa Nat)(T:ET):Operand->af AV
 | .tmp t=>match dG t sl with
  |true=>cV T t
  |false=>I
 |x=>IQ T x
def lK(R1:bt)(nx:Nat)(fz:Bool)(e:gA):af (AV×Bool×bt×Nat):=V (match e.vl nx with
 |some d=>d
 |none=> .lit undef,match e with
 | .val _=>fz
 |_=>O,e.R R1 nx,e.nx nx)
def ae6(P:Program)(F:bq)(o:Oper)(sl:aa Nat)(ids:aa Nat)(s:St):af (AV×Bool×bt×Nat):=St.rec (λE1 R1 nx1=>pJ o.op P F (evL sl E1) (gJ R1) R1 nx1 (lK R1 nx1 (!ids.isEmpty))) (s.kK ids)
def agl(P:Program)(F:bq)(o:Oper)(sl:aa Nat)(E:ET)(Rl:bt)(nx:Nat):af (AV×Bool×bt×Nat):=ae6 P F o sl (jc E o.op) ⟨E,Rl,nx⟩
def aem{α:Type}(P:Program)(F:bq)(o:Oper)(sl:aa Nat)(ids:aa Nat)(D:AV×Bool×bt×Nat->af α)(s:St):af α:=St.rec (λE1 R1 nx1=>pJ o.op P F (evL sl E1) (gJ R1) R1 nx1 (λe=>D (match e.vl nx1 with
 |some d=>d
 |none=> .lit undef,match e with
 | .val _=>(!ids.isEmpty)
 |_=>O,e.R R1 nx1,e.nx nx1))) (s.kK ids)
def He{α:Type}(P:Program)(F:bq)(o:Oper)(sl:aa Nat)(E:ET)(Rl:bt)(nx:Nat)(D:AV×Bool×bt×Nat->af α):af α:=aem P F o sl (jc E o.op) D ⟨E,Rl,nx⟩
def Gm{α:Type}{P:Program}{F:bq}(hN:dX F){o:Oper}{sl:aa Nat}{E:ET}{Rl:bt}{nx:Nat}(D:AV×Bool×bt×Nat->af α):(agl P F o sl E Rl nx).bind D=He P F o sl E Rl nx D:=by
 unfold agl He ae6 aem;generalize St.kK ⟨E,Rl,nx⟩ (jc E o.op)=s1;obtain⟨E1,R1,n1⟩:=s1;exact AO D hN ..
def Wm:∀(ids:aa Nat) (s:St),(s.kK ids).nx=s.nx
 |[],s=>rfl
 |i::ids,s=>by
  show ((s.Mp i).kK ids).nx=s.nx;rw[Wm ids];unfold St.Mp;split<;>rfl
def amv{P:Program}{F:bq}{o:Oper}{sl:aa Nat}{T:ET}{E:Env}{Rl Lo:bt}{nx nx':Nat}{v:AV}{ef:Bool}(hF:iN P F)(h:agl P F o sl T Rl nx=V (v,ef,Lo,nx'))(hh:aco sl T E)(hE:E.cW nx)(hR:bt.cW nx Rl):
  (∀S C,Ye P (E.sub S) (bt.res S Rl) o C (Nlc nx v Lo S))/\(ef=G->∀S C,Ye P (E.sub S) (bt.res S Rl) o C (Nlc nx v Rl S)):=by
 unfold agl ae6 at h;generalize hs:St.kK ⟨T,Rl,nx⟩ (jc T o.op)=s1 at h;have hnx:s1.nx=nx:=by rw[<-hs,Wm]
 obtain⟨E1,R1,n1⟩:=s1;simp only at hnx;subst hnx;have h':pJ o.op P F (evL sl E1) (gJ R1) R1 n1 (lK R1 n1 (!(jc T o.op).isEmpty))=V (v,ef,Lo,nx'):=h;rw[NJ]at h';have main:∀S C (Ro:bt),(∀e:gA,lK R1 n1 (!(jc T o.op).isEmpty) e=V (v,ef,Lo,nx')->e.R R1 n1=Ro)->Ye P (E.sub S) (bt.res S Rl) o C (Nlc n1 v Ro S):=λS C Ro hRo=>by
  refine Ye.kK (sl:=sl) (jc T o.op) T E Rl hh hE hR λE' hh' hE' hR'=> ?_;rw[hs]at hh' hR' ⊢;have hsee:kI (evL sl E1) (gJ R1) n1 E' R1:=⟨λx d hx=>by
   cases x with
   |tmp t=>
    unfold evL at hx;simp only at hx;split at hx
    ·rename_i hm;exact hh' t (gi.1 hm) d hx
    ·cases hx
   |_=>exact hx,λ_ _ h=>h,hE',hR'⟩
  have hst:=Hs (o:=o) hF hsee rfl h' S C;intro w u hg ar;have conv:∀a B',Nx R1 n1 (lK R1 n1 (!(jc T o.op).isEmpty)) (v,ef,Lo,nx') S a B'->Nlc n1 v Ro S a B':=λa B' ⟨e,q1,q2,q3,q4,S',q5,q6,q7⟩=>by
   refine⟨S',q5,?_,by rw[<-hRo e q1];exact q7⟩;unfold lK at q1;simp only[zF.injEq,Prod.mk.injEq]at q1;cases hv:e.vl n1 with
   |some d=>
    rw[hv]at q1 q6;left;rw[q6,<-q1.1];rfl
   |none=>
    rw[hv]at q1 q6;right;exact⟨q6,q1.1.symm⟩
  rcases hst w u hg ar with ⟨v',w',av,B',h1,h2,h3,h4⟩|⟨w',B',h1,h2,h3⟩|⟨f,args,h1,h2⟩
  ·exact .inl ⟨v',w',av,B',conv _ _ h1,h2,h3,h4⟩
  ·exact .inr (.inl ⟨w',B',conv _ _ h1,h2,h3⟩)
  ·exact .inr (.inr ⟨f,args,h1,h2.mono λe w' ⟨v',av,B',q1,q2,q3,q4⟩=>⟨v',av,B',q1,conv _ _ q2,q3,q4⟩⟩)
 refine⟨λS C=>main S C Lo λe he=> ?_,λhef S C=>main S C Rl λe he=> ?_⟩
 ·unfold lK at he;simp only[zF.injEq,Prod.mk.injEq]at he;exact he.2.2.1
 ·unfold lK at he;simp only[zF.injEq,Prod.mk.injEq]at he;cases e with
  |val d=>
   have hemp:jc T o.op=[]:=by
    have h2:(!(jc T o.op).isEmpty)=G:=by rw[<-hef];exact he.2.1
    simpa using h2
   rw[hemp]at hs;have:(⟨T,Rl,n1⟩:St)=⟨E1,R1,n1⟩:=hs;exact(St.mk.inj this).2.1.symm
  |_=>exact ep (he.2.1.trans hef) (by simp)
end Go.Iv
end
noncomputable section
namespace Go.Iv
variable [U:tf] [L:nu]
open Go Go.RowKit
def jI(p:Nat->Bool)(n:Nat):AV->Bool:=Nat.rec (λd=>match d with
 | .lit _=>O
 | .sl _ _=>O
 | .rp _ _=>O
 | .own i=>p i
 | .ptr i _=>p i
 | .ra i _ _ _=>p i
 |_=>G) (λ_ ih d=>match d with
 | .lit _=>O
 | .sl _ _=>O
 | .rp _ _=>O
 | .own i=>p i
 | .ptr i _=>p i
 | .ra i _ _ _=>p i
 | .agg cs=>cs.all ih
 | .jf cs=>cs.all ih
 | .fn _ cs=>cs.all ih
 | .fp cs=>cs.all ih) n
def Di{p:Nat->Bool}:∀(n:Nat) {d:AV},jI p n d=O->gY (λi=>p i=O) d
 |0,d,h=>by
  cases d<;>first|exact .lit _|exact .sl _ _|exact .rp _ _|exact .own _ h|exact .ptr _ _ h|exact .ra _ _ _ _ h|(cases h;done)
 |n+1,d,h=>by
  have hL:∀{cs:aa AV},cs.all (jI p n)=O->∀c∈cs,gY (λi=>p i=O) c:=λh c hc=>Di n (zx.1 h c hc);cases d<;>first|exact .lit _|exact .sl _ _|exact .rp _ _|exact .own _ h|exact .ptr _ _ h|exact .ra _ _ _ _ h|exact .agg _ (hL h)|exact .jf _ (hL h)|exact .fn _ _ (hL h)|exact .fp _ (hL h)
def J3{p:Nat->Prop}:∀(n:Nat) {d:AV},gY p d->∀i∈kJ n d,p i
 |0,d,h,i,hi=>by
  cases h<;>simp only[kJ,zo,List.not_mem_nil]at hi<;>(subst hi;assumption)
 |n+1,d,h,i,hi=>by
  have hL:∀{cs:aa AV},(∀c∈cs,gY p c)->i∈cs.flatMap (kJ n)->p i:=λh hi=>by
   obtain⟨c,h1,h2⟩:=xz.1 hi;exact J3 n (h c h1) i h2
  cases h with
  |agg cs h=>exact hL h hi
  |jf cs h=>exact hL h hi
  |fn f cs h=>exact hL h hi
  |own id h=>simp only[kJ,zo]at hi;rw[hi];exact h
  |ptr id off h=>simp only[kJ,zo]at hi;rw[hi];exact h
  |ra id t m off h=>simp only[kJ,zo]at hi;rw[hi];exact h
  |_=>simp[kJ]at hi
def EL(sl:aa Nat)(T:ET):aa Nat:=sl.flatMap λt=>match cV T t with
 |some d=>kJ 3 d
 |none=>[]
def aeH(R:bt):aa Nat:=R.flatMap λq=>q.1::match q.2 with
 | .box _ cs=>cs.flatMap (kJ 3)
 | .row _ _=>[]
def abm(al:aa Nat)(nx nx' i:Nat):Bool:=dG i al||(yq nx i&&zB i nx')
def okR(al:aa Nat)(nx nx':Nat)(R:bt):Bool:=R.all λq=>abm al nx nx' q.1&&match q.2 with
 | .box _ cs=>cs.all (jI (abm al nx nx') 3)
 | .row _ _=>O
def KW{al:aa Nat}{nx nx' i:Nat}(h:abm al nx nx' i=O):i∈al\/(nx<=i/\i<nx'):=by
 unfold abm at h;simp only[yK,zi,Nat.ble_eq,Nat.blt_eq]at h;exact h.imp gi.1 id
def atl{al:aa Nat}{nx nx':Nat}{R:bt}(h:okR al nx nx' R=O):bt.gY (λi=>i∈al\/(nx<=i/\i<nx')) R:=λq hq=>by
 have:=zx.1 h q hq;simp only[zi]at this;refine⟨KW this.1,?_⟩;obtain⟨i,r⟩:=q;cases r with
 |row t l=>trivial
 |box T cs=>exact λc hc=>(Di 3 (zx.1 this.2 c hc)).mono λi hi=>KW hi
def aBD(o:Op):Bool:=match o with
 | .move _=>G
 | .assign _=>G
 | .pick _ _ _=>G
 | .unOp _ _ _=>G
 | .nilCheck _=>G
 | .fieldAddr _ _ _=>G
 | .extract _ _=>G
 | .makeFunc _ _ _=>G
 | .alloc _=>G
 |_=>O
def ad0(o:Op):Bool:=match o with
 | .call {callee:= .value _, ..}=>O
 |_=>G
def rz(ops:Array Oper)(o:Oper)(E:ET)(R:bt):aa Nat:=match aBD o.op with
 |false=>[]
 |true=>match ad0 o.op with
  |false=>EL (dx ops o) E
  |true=>reach R 3 (EL (dx ops o) E)
def inQ(rd:aa Nat)(R:bt):bt:=match rd with
 |[]=>[]
 |rd=>cC rd R
def acs(rd:aa Nat)(R:bt):inQ rd R=cC rd R:=by
 cases rd with
 |nil=>exact(wR.2 λp _=>by simp[dG]).symm
 |cons a l=>rfl
def rcB(ops:Array Oper)(o:Oper)(E:ET)(Rl:bt)(nx:Nat)(v:AV)(ef:Bool)(Lo:bt)(nx':Nat):Bool:=(λal=>yq nx nx'&&(!ef||efk o)&&jI (abm al nx nx') 4 v&&(!ef||okR al nx nx' Lo)) (EL (dx ops o) E++aeH Rl)
def agj(e:AV->AV->Bool)(l:aa AV):aa AV->Bool:=List.rec (λm=>match m with
 |[]=>O
 |_=>G) (λa _ ih m=>match m with
 |b::m=>e a b&&ih m
 |[]=>G) l
def avv(ih:AV->AV->Bool)(a b:AV):Bool:=match a,b with
 | .own i, .own j=>ze i j
 | .ptr i o, .ptr j p=>ze i j&&ze o p
 | .fn (.func f) cs, .fn (.func g) ds=>ze f g&&agj ih cs ds
 |_,_=>G
def eqA(n:Nat):AV->AV->Bool:=Nat.rec (λ_ _=>G) (λ_ ih=>avv ih) n
def atP(a b:IR):Bool:=match a,b with
 | .box T cs, .box T' ds=>ze T T'&&agj (eqA 2) cs ds
 |_,_=>G
def acL(l:bt):bt->Bool:=List.rec (λm=>match m with
 |[]=>O
 |_=>G) (λa _ ih m=>match m with
 |b::m=>ze a.1 b.1&&atP a.2 b.2&&ih m
 |[]=>G) l
def Lm{e:AV->AV->Bool}(he:∀a b,e a b=O->a=b):∀{l m:aa AV},agj e l m=O->l=m
 |[],[],_=>rfl
 |[],_::_,h=>by cases h
 |_::_,[],h=>by cases h
 |a::l,b::m,h=>by
  change (e a b&&agj e l m)=O at h;rw[zi]at h;rw[he a b h.1,Lm he h.2]
def ZU:∀(n:Nat) {a b:AV},eqA n a b=O->a=b
 |0,a,b,h=>by cases h
 |n+1,a,b,h=>by
  change avv (eqA n) a b=O at h;unfold avv at h;split at h
  ·rw[gU h]
  ·rw[zi]at h;rw[gU h.1,gU h.2]
  ·rw[zi]at h;rw[gU h.1,Lm (λa b=>ZU n) h.2]
  ·cases h
def N2:∀{l m:bt},acL l m=O->l=m
 |[],[],_=>rfl
 |[],_::_,h=>by cases h
 |_::_,[],h=>by cases h
 |(i,a)::l,(j,b)::m,h=>by
  change (ze i j&&atP a b&&acL l m)=O at h;simp only[zi]at h;have h1:=gU h.1.1;subst h1;have h2:=h.1.2;unfold atP at h2;split at h2
  ·rw[zi]at h2;rw[gU h2.1,Lm (λa b=>ZU 2) h2.2,N2 h.2]
  ·cases h2
def trim(K rd:aa Nat)(Rl Lo:bt):aa Nat×bt:=match K.filter λi=>dG i rd with
 |[]=>(rd,Lo)
 |k::K=>match acL (cC (k::K) Lo) (cC (k::K) Rl)with
  |true=>(rd.filter λi=> !dG i (k::K),iP (k::K) Lo)
  |false=>(rd,Lo)
def ajs(K rd:aa Nat)(R Lo:bt):(∀i∈(trim K rd (cC rd R) Lo).1,i∈rd)/\(∀q∈(trim K rd (cC rd R) Lo).2,q∈Lo)/\List.Perm Lo ((trim K rd (cC rd R) Lo).2++iP (trim K rd (cC rd R) Lo).1 (cC rd R)):=by
 have h0:iP rd (cC rd R)=[]:=wR.2 λp hp=>by
  have:dG p.1 rd=O:=(z8.1 hp).2;rw[this];simp
 have triv:(∀i∈rd,i∈rd)/\(∀q∈Lo,q∈Lo)/\List.Perm Lo (Lo++iP rd (cC rd R)):=⟨λ_ h=>h,λ_ h=>h,by rw[h0,yy]⟩;unfold trim;split
 ·omega
 ·rename_i k K' hK;split
  case h_2=>exact triv
  rename_i he;have he:=N2 he;refine⟨λi hi=>(z8.1 hi).1,λq hq=>(z8.1 hq).1,?_⟩;have e1:iP (rd.filter λi=> !dG i (k::K')) (cC rd R)=cC (k::K') (cC rd R):=by
   refine wK λp hp=> ?_;have hp:dG p.1 rd=O:=(z8.1 hp).2;cases hm:dG p.1 (k::K')with
   |true=>
    rw[jj.2 λhx=> ?_];rfl;simp_all
   |false=>
    rw[gi.2 (z8.2 ⟨gi.1 hp,by rw[hm];rfl⟩)];rfl
  rw[e1,<-he];exact(List.perm_append_comm.trans (List.filter_append_perm _ _)).symm
def partner(ops:Array Oper)(ps:aa (Nat×Nat))(i:Nat):aa Nat:=ps.flatMap λp=>match ze p.1 i with
 |true=>match ops[p.2]? with
  |some o=>match ad0 o.op with
   |true=>[]
   |false=>dx ops o
  |none=>[]
 |false=>match ze p.2 i with
  |true=>match ops[p.1]? with
   |some o=>match ad0 o.op with
    |true=>[]
    |false=>dx ops o
   |none=>[]
  |false=>[]
def adJ(ops:Array Oper)(ps:aa (Nat×Nat))(cs:aa Rc)(E:ET):aa Nat:=match ps with
 |[]=>[]
 |p::ps=>EL (partner ops (p::ps) (zR cs)) E
def dK2(o:Oper)(sl:aa Nat)(cs:aa Rc)(rd:aa Nat)(E:ET)(R:bt){α:Type}(ih:aa Rc->St->(aa Rc->St->af α)->af α)(k:aa Rc->St->af α)(v:AV)(ef:Bool)(nx':Nat)(t:aa Nat×bt):af α:=
 ih (cs++[⟨o.dst,v,sl,rd,t.1,ef,t.2⟩]) ⟨uQ o.dst v E,match ef with
  |true=>t.2++iP t.1 R
  |false=>R,nx'⟩ k
def dK(ops:Array Oper)(ps:aa (Nat×Nat))(o:Oper)(cs:aa Rc)(rd:aa Nat)(E:ET)(R Rl:bt)(nx:Nat){α:Type}(ih:aa Rc->St->(aa Rc->St->af α)->af α)(k:aa Rc->St->af α)(x:AV×Bool×bt×Nat):af α:=
 match rcB ops o E Rl nx x.1 x.2.1 x.2.2.1 x.2.2.2 with
 |true=>dK2 o (dx ops o) cs rd E R ih k x.1 x.2.1 x.2.2.2 (trim (adJ ops ps cs E) rd Rl x.2.2.1)
 |false=>I
def azV{α:Type}(P:Program)(F:bq)(ops:Array Oper)(ps:aa (Nat×Nat))(o:Oper)(ih:aa Rc->St->(aa Rc->St->af α)->af α)(cs:aa Rc)(k:aa Rc->St->af α)(E:ET)(R:bt)(nx:Nat)(rd:aa Nat)(Rl:bt):af α:=
 He P F o (dx ops o) E Rl nx (dK ops ps o cs rd E R Rl nx ih k)
def aHh{α:Type}(P:Program)(F:bq)(ops:Array Oper)(ps:aa (Nat×Nat))(o:Oper)(ih:aa Rc->St->(aa Rc->St->af α)->af α)(cs:aa Rc)(k:aa Rc->St->af α)(s:St):af α:=
 St.rec (λE R nx=>(λrd=>azV P F ops ps o ih cs k E R nx rd (inQ rd R)) (rz ops o E R)) s
def dNo{α:Type}(ops:Array Oper)(o:Oper)(ih:aa Rc->St->(aa Rc->St->af α)->af α)(cs:aa Rc)(k:aa Rc->St->af α)(s:St):af α:=
 ih (cs++[⟨o.dst, .lit undef,dx ops o,[],[],G,[]⟩]) ⟨uQ o.dst (.lit undef) s.E,s.R,s.nx⟩ k
def X6{α:Type}(P:Program)(F:bq)(n:Nat)(ops:Array Oper)(ps:aa (Nat×Nat))(o:Oper)(ih:aa Rc->St->(aa Rc->St->af α)->af α)(cs:aa Rc)(s:St)(k:aa Rc->St->af α):af α:=match MU n o.dst with
 |true=>gate ops o s (aHh P F ops ps o ih cs k) (dNo ops o ih cs k)
 |false=>I
def ZE{α:Type}(P:Program)(F:bq)(n:Nat)(ops:Array Oper)(ps:aa (Nat×Nat))(l:aa Oper):aa Rc->St->(aa Rc->St->af α)->af α:=List.rec (λcs s k=>k cs s) (λo _ ih=>X6 P F n ops ps o ih) l
def afb(l:aa Oper):Nat->Bool:=List.rec (λ_=>O) (λo _ ih i=>(o.after.toList.all λe=> !Region.binds .any e||zB e.on i)&&ih (i+1)) l
def PR:∀{l:aa Oper} {k:Nat},afb l k=O->∀(i:Nat) o,l[i]? =V o->∀e∈o.after.toList,Region.binds .any e=O->e.on<k+i
 |[],k,_,i,o,h,_,_,_=>by cases h
 |o0::l,k,hb,i,o,h,e,he,hbe=>by
  change ((o0.after.toList.all λe=> !Region.binds .any e||zB e.on k)&&afb l (k+1))=O at hb;simp only[zi]at hb;cases i with
  |zero=>
   cases h;have:=zx.1 hb.1 e he;rw[hbe]at this;simpa using this
  |succ i=>
   have:=PR hb.2 i o h e he hbe;omega
def HF{α:Type}(P:Program)(F:bq)(n:Nat)(ops:Array Oper)(s:St)(k:St->af α):af α:=match P.follows .mixedOrders&&afb ops.toList 0 with
 |true=>match plan ops with
  |some ps=>ZE P F n ops ps ops.toList [] s λcs s'=>match abW ps cs with
   |true=>k s'
   |false=>I
  |none=>I
 |false=>I
def GD(ops:Array Oper)(o:Oper)(f:Fr)(wn:Bool):Prop:=match o.guard with
 |none=>wn=O
 |some (j,want)=>∃t,(ops[j]?).bind (·.dst)=V t/\((∃b,f t=V (.lit (.bool b))/\wn=(b==want))\/(∃vs,f t=V (.lit (.tuple vs))/\wn=G))
structure AT (P:Program) (n:Nat) (ops:Array Oper) (o:Oper) (f:Fr) (R:bt) (nx:Nat) (c:Rc) (nx':Nat):Prop where
 dst:c.dst=o.dst
 sl:c.sl=dx ops o
 ef:c.ef=O->efk o=O
 dn:MU n o.dst=O
 le:nx<=nx'
 run:(GD ops o f G/\c.v= .lit undef/\c.ef=G)\/(GD ops o f O/\∀S C,Ye P ((uN f c.sl).sub S) (bt.res S (cC c.rd R)) o C (Nlc nx c.v (match c.ef with|O=>c.Lo++iP c.wr (cC c.rd R)|G=>cC c.rd R) S))
 wr:∀i∈c.wr,i∈c.rd
 lin:bt.cW nx (cC c.rd R)
 lv:cW nx' c.v
 lo:c.ef=O->bt.cW nx' c.Lo
 ids:∀p:Nat->Prop,(∀t∈c.sl,∀d,f t=V d->gY p d)->bt.gY p (cC c.rd R)->gY (λi=>p i\/(nx<=i/\i<nx')) c.v/\(c.ef=O->bt.gY (λi=>p i\/(nx<=i/\i<nx')) c.Lo)
inductive Ch (P:Program) (n:Nat) (ops:Array Oper):Fr->bt->Nat->List Oper->List Rc->Fr->bt->Nat->Prop
 |nil (f:Fr) (R:bt) (nx:Nat):Ch P n ops f R nx [] [] f R nx
 |cons {f f':Fr} {R R':bt} {nx nx1 nx':Nat} {o:Oper} {os:List Oper} {c:Rc} {cs:List Rc} (h:AT P n ops o f R nx c nx1) (hs:Ch P n ops (c.F f) (c.R R) nx1 os cs f' R' nx'):Ch P n ops f R nx (o::os) (c::cs) f' R' nx'
def atU{α:Type}{r:α}{ops:Array Oper}{o:Oper}{s:St}{yes no:St->af α}(h:gate ops o s yes no=V r){f:Fr}(hf:∀t d,cV s.E t=V d->f t=V d):∃s':St,s'.R=s.R/\s'.nx=s.nx/\(∀t d,cV s'.E t=V d->f t=V d)/\
  ((GD ops o f O/\yes s'=V r)\/(GD ops o f G/\no s'=V r)):=by
 unfold gate at h;unfold GD;split at h
 ·rename_i hg;exact⟨s,rfl,rfl,hf, .inl ⟨by first|rw[hg]|rfl,h⟩⟩
 ·rename_i j want hg;split at h
  ·cases h
  ·rename_i t hj;have hput:∀b,cV s.E t=V (.lit (.bool b))->∀k d,cV (s.gq t b).E k=V d->f k=V d:=λb hb k d hk=>by
    have hk':cV (nj t (.b b) s.E) k=V d:=hk;rcases qw hk' with ⟨rfl,rfl⟩|⟨_,h2⟩
    ·simp_all
    ·simp_all
   split at h
   ·rename_i b hb;have hfb:=hf _ _ hb;split at h
    ·split at h
     ·exact⟨s.gq t O,rfl,rfl,hput _ hb, .inl ⟨by(try rw[hg]);exact⟨t,hj, .inl ⟨_,hfb,rfl⟩⟩,h⟩⟩
     ·exact⟨s.gq t O,rfl,rfl,hput _ hb, .inr ⟨by(try rw[hg]);exact⟨t,hj, .inl ⟨_,hfb,rfl⟩⟩,h⟩⟩
    ·split at h
     ·exact⟨s.gq t G,rfl,rfl,hput _ hb, .inr ⟨by(try rw[hg]);exact⟨t,hj, .inl ⟨_,hfb,rfl⟩⟩,h⟩⟩
     ·exact⟨s.gq t G,rfl,rfl,hput _ hb, .inl ⟨by(try rw[hg]);exact⟨t,hj, .inl ⟨_,hfb,rfl⟩⟩,h⟩⟩
   ·rename_i vs hb;exact⟨s,rfl,rfl,hf, .inr ⟨by(try rw[hg]);exact⟨t,hj, .inr ⟨_,hf _ _ hb,rfl⟩⟩,h⟩⟩
   ·cases h
def abR{dst:af Nat}{v:AV}{E:ET}{f:Fr}{c:Rc}(hc:c.dst=dst)(hv:c.v=v)(hf:∀t d,cV E t=V d->f t=V d):∀t d,cV (uQ dst v E) t=V d->c.F f t=V d:=λt d h=>by
 unfold Rc.F;rw[hc,hv];cases dst with
 |none=>simpa using hf t d h
 |some s=>
  rcases qw h with ⟨rfl,rfl⟩|⟨h1,h2⟩
  ·simp
  ·rw[bN (λe=>h1 (zF.inj e))];simp_all
def Ye.mono{P:Program}{C:Cx}{E:Env}{B:aa cn}{o:Oper}{N N':af AV->aa cn->Prop}(h:Ye P E B o C N)(hN:∀a B',N a B'->N' a B'):Ye P E B o C N':=λw u hg ar=>by
 rcases h w u hg ar with ⟨v,w',av,B',h1,h2,h3⟩|⟨w',B',h1,h2,h3⟩|⟨f,args,h1,h2⟩
 ·exact .inl ⟨v,w',av,B',hN _ _ h1,h2,h3⟩
 ·exact .inr (.inl ⟨w',B',hN _ _ h1,h2,h3⟩)
 ·exact .inr (.inr ⟨f,args,h1,Calls.mono h2 λe w' ⟨v,av,B',q1,q2,q3⟩=>⟨v,av,B',q1,hN _ _ q2,q3⟩⟩)
def RX{α:Type}{r:α}{P:Program}{F:bq}{n:Nat}{ops:Array Oper}{ps:aa (Nat×Nat)}(hF:iN P F)(hN:dX F){k:aa Rc->St->af α}:∀(l:aa Oper) {cs:aa Rc} {s:St} {f:Fr},ZE P F n ops ps l cs s k=V r->(∀t d,cV s.E t=V d->f t=V d)->(∀t d,f t=V d->cW s.nx d)->bt.cW s.nx s.R->
  ∃(cs':aa Rc) (s':St) (f':Fr),k (cs++cs') s'=V r/\Ch P n ops f s.R s.nx l cs' f' s'.R s'.nx/\(∀t d,cV s'.E t=V d->f' t=V d)
 |[],cs,s,f,h,hf,_,_=>⟨[],s,f,by rw[yy];exact h, .nil f s.R s.nx,hf⟩
 |o::l,cs,s,f,h,hf,hfl,hR=>by
  change X6 P F n ops ps o (ZE P F n ops ps l) cs s k=V r at h;unfold X6 at h;split at h
  case h_2=>cases h
  rename_i hd;obtain⟨s1,e1,e2,hf1,⟨hg,h1⟩|⟨hg,h1⟩⟩:=atU h hf
  ·obtain⟨E,R,nx⟩:=s1;obtain⟨E0,R0,nx0⟩:=s;simp only at e1 e2 hf1;subst e1 e2;change He P F o (dx ops o) E (inQ (rz ops o E R) R) nx (dK ops ps o cs (rz ops o E R) E R (inQ (rz ops o E R) R) nx (ZE P F n ops ps l) k)=V r at h1;rw[<-Gm hN]at h1;generalize hrd:rz ops o E R=rd at h1;obtain⟨⟨v,ef,Lo,nx'⟩,h2,h3⟩:=zn.1 h1;unfold dK at h3;split at h3
   case h_2=>cases h3
   rename_i hb;rw[acs]at h2 hb;simp only at h3 hb;unfold rcB at hb;simp only[zi,Nat.ble_eq,yK]at hb;obtain⟨⟨⟨hb1,hb2⟩,hb3⟩,hb4⟩:=hb;have hin:bt.cW nx (cC rd R):=λq hq=>hR q (z8.1 hq).1;have hlE:(uN f (dx ops o)).cW nx:=λq hq=>by
    obtain⟨t,_,ht⟩:=List.mem_filterMap.1 hq;obtain⟨d,hd1,hd2⟩:=zl.1 ht;rw[<-hd2];exact hfl t d hd1
   obtain⟨y1,y2⟩:=amv hF h2 (E:=uN f (dx ops o)) (λt ht d hdd=>Jk ht (hf1 t d hdd)) hlE hin;have hal:∀p:Nat->Prop,(∀t∈dx ops o,∀d,f t=V d->gY p d)->bt.gY p (cC rd R)->∀i∈EL (dx ops o) E++aeH (cC rd R),p i:=λp hp1 hp2 i hi=>by
    rcases zP.1 hi with hi|hi
    ·obtain⟨t,ht,hi⟩:=xz.1 hi;split at hi
     ·rename_i d hdd;exact J3 3 (hp1 t ht d (hf1 t d hdd)) i hi
     ·cases hi
    ·obtain⟨q,hq,hi⟩:=xz.1 hi;obtain⟨g1,g2⟩:=hp2 q hq;rcases zy.1 hi with rfl|hi
     ·exact g1
     ·obtain⟨j,rr⟩:=q;cases rr with
      |row t l=>cases hi
      |box T cs=>
       obtain⟨c,hc,hi⟩:=xz.1 hi;exact J3 3 (g2 c hc) i hi
   obtain⟨t1,t2,t3⟩:=ajs (adJ ops ps cs E) rd R Lo;rw[acs]at h3;generalize trim (adJ ops ps cs E) rd (cC rd R) Lo=tr at h3 t1 t2 t3;obtain⟨wr,Lo'⟩:=tr;have hids:∀p:Nat->Prop,(∀t∈dx ops o,∀d,f t=V d->gY p d)->bt.gY p (cC rd R)->gY (λi=>p i\/(nx<=i/\i<nx')) v/\(ef=O->bt.gY (λi=>p i\/(nx<=i/\i<nx')) Lo'):=λp hp1 hp2=>
    ⟨(Di 4 hb3).mono λi hi=>(KW hi).imp (hal p hp1 hp2 i) id,λhe q hq=>((atl (hb4.resolve_left (by rw[he];simp))).mono λi hi=>hi.imp (hal p hp1 hp2 i) id) q (t2 q hq)⟩
   obtain⟨g1,g2⟩:=hids (λi=>i<nx) (λt _ d hdd=>hfl t d hdd) hin.lts;have hlt:∀i,(i<nx\/(nx<=i/\i<nx'))->i<nx':=λi hi=>aq;have hfact:AT P n ops o f R nx ⟨o.dst,v,dx ops o,rd,wr,ef,Lo'⟩ nx':=⟨rfl,rfl,λhe=>hb2.resolve_left (by simp only at he;rw[he];simp),hd,hb1, .inr ⟨hg,λS C=>by
     cases ef with
     |true=>exact Ye.mono (y1 S C) λa B' ⟨S',z1,z2,z3⟩=>⟨S',z1,z2,z3.trans (qA t3)⟩
     |false=>exact y2 rfl S C⟩,t1,hin,g1.mono hlt,λhe=>(bt.gY.mono (g2 he) hlt).sq,hids⟩
   have hR':bt.cW nx' (Rc.R ⟨o.dst,v,dx ops o,rd,wr,ef,Lo'⟩ R):=by
    cases ef with
    |false=>exact hR.mono hb1
    |true=>exact λq hq=>(zP.1 hq).elim (λhq=>((bt.gY.mono (g2 rfl) hlt).sq) q hq) λhq=>(hR.mono hb1) q (z8.1 hq).1
   have h4:ZE P F n ops ps l (cs++[⟨o.dst,v,dx ops o,rd,wr,ef,Lo'⟩]) ⟨uQ o.dst v E,Rc.R ⟨o.dst,v,dx ops o,rd,wr,ef,Lo'⟩ R,nx'⟩ k=V r:=h3;obtain⟨cs',s',f',q1,q2,q3⟩:=RX hF hN l (f:=Rc.F ⟨o.dst,v,dx ops o,rd,wr,ef,Lo'⟩ f) h4 (abR rfl rfl hf1) (λt d hdd=>by
    unfold Rc.F at hdd;split at hdd
    ·cases hdd;exact g1.mono hlt
    ·exact cW.mono (hfl t d hdd) hb1) hR'
   exact⟨_::cs',s',f',by simpa using q1, .cons hfact q2,q3⟩
  ·obtain⟨E,R,nx⟩:=s1;obtain⟨E0,R0,nx0⟩:=s;subst e1 e2;have hin:bt.cW nx (cC [] R):=λq hq=>hR q (z8.1 hq).1;have hfact:AT P n ops o f R nx ⟨o.dst, .lit undef,dx ops o,[],[],false,[]⟩ nx:=⟨rfl,rfl,λh=>(by cases h),hd,zm _, .inl ⟨hg,rfl,rfl⟩,λ_ h=>(by cases h),hin, .lit _,λh=>(by cases h),λp _ _=>⟨.lit _,λh=>(by cases h)⟩⟩;have h2:ZE P F n ops ps l (cs++[⟨o.dst, .lit undef,dx ops o,[],[],G,[]⟩]) ⟨uQ o.dst (.lit undef) E,R,nx⟩ k=V r:=h1;obtain⟨cs',s',f',q1,q2,q3⟩:=RX hF hN l (f:=Rc.F ⟨o.dst, .lit undef,dx ops o,[],[],G,[]⟩ f) h2 (abR rfl rfl hf1) (λt d hdd=>by
    unfold Rc.F at hdd;split at hdd
    ·cases hdd;exact .lit _
    ·exact hfl t d hdd) hR
   exact⟨_::cs',s',f',by simpa using q1, .cons hfact q2,q3⟩
end Go.Iv
end
noncomputable section
namespace Go.Iv
variable [U:tf] [L:nu]
open Go Go.RowKit
section
variable {P:Program} {n:Nat} {ops:Array Oper}
def Ch.idx{f f':Fr}{R R':bt}{nx nx':Nat}{os:aa Oper}{cs:aa Rc}(h:Ch P n ops f R nx os cs f' R' nx'):zR cs=zR os/\f'=gW cs (zj (zR cs) O) f/\R'=hU cs (zj (zR cs) O) R/\
  ∃g:Nat->Nat,g 0=nx/\g os.length=nx'/\(∀i,i<zR os->g i<=g (i+1))/\∀(i:Nat) o c,os[i]? =V o->cs[i]? =V c->AT P n ops o (gW (cs.take i) (zj i O) f) (hU (cs.take i) (zj i O) R) (g i) c (g (i+1)):=by
 induction h with
 |nil f R nx=>exact⟨rfl,rfl,rfl,λ_=>nx,rfl,rfl,λi hi=>by simp at hi,λi o c h=>by cases h⟩
 |@cons f f' R R' nx nx1 nx' o os c cs h hs ih=>
  obtain⟨h1,h2,h3,g,g0,g1,g2,g3⟩:=ih;refine⟨by simp[h1],by rw[h2];rfl,by rw[h3];rfl,λi=>match i with|0=>nx|i+1=>g i,rfl,g1,λi hi=> ?_,λi o' c' q1 q2=> ?_⟩
  ·cases i with
   |zero=>show nx<=g 0;rw[g0];exact h.le
   |succ i=>exact g2 i (by simpa using hi)
  ·cases i with
   |zero=>cases q1;cases q2;show AT P n ops o f R nx c (g 0);rw[g0];exact h
   |succ i=>exact g3 i o' c' q1 q2
def adB{g:Nat->Nat}{N:Nat}(h:∀i,i<N->g i<=g (i+1)):∀i j,i<=j->j<=N->g i<=g j:=λi j hij hj=>by
 induction j with
 |zero=>
  have:i=0:=aq;subst this;exact zm _
 |succ j ih=>
  grind
def rG:aa Bool->Nat
 |[]=>0
 |b::bs=>(match b with|O=>0|G=>1)+rG bs
def NY:∀{bs:aa Bool} {i:Nat},bs[i]? =V G->rG bs=rG (bs.set i O)+1
 |[],_,h=>by cases h
 |b::bs,0,h=>by
  simp only[List.getElem?_cons_zero,zF.injEq]at h;subst h;show 1+rG bs=(0+rG bs)+1;omega
 |b::bs,i+1,h=>by
  have:=NY (bs:=bs) (i:=i) (by simpa using h);cases b with
  |true=>
   show 0+rG bs=(0+rG (bs.set i O))+1;omega
  |false=>
   show 1+rG bs=(1+rG (bs.set i O))+1;omega
def N4:∀N:Nat,rG (zj N G)=N
 |0=>rfl
 |N+1=>by rw[yR];show 1+rG (zj N G)=N+1;rw[N4 N];omega
def IB:∀{bs:aa Bool},rG bs=0->bs=zj (zR bs) O
 |[],_=>rfl
 |b::bs,h=>by
  cases b with
  |true=>rw[yT,yR,<-IB (bs:=bs) (by have:0+rG bs=0:=h;omega)]
  |false=>have:1+rG bs=0:=h;omega
def N7:∀{bs:aa Bool},rG bs≠0->∃i:Nat,bs[i]? =V G/\∀j,j<i->bs[j]? =V O
 |[],h=>ep rfl h
 |b::bs,h=>by
  cases b with
  |false=>exact⟨0,rfl,λj hj=>aq⟩
  |true=>
   obtain⟨i,h1,h2⟩:=N7 (bs:=bs) (λe=>h (by show 0+rG bs=0;omega));refine⟨i+1,h1,λj hj=> ?_⟩;cases j with
   |zero=>rfl
   |succ j=>exact h2 j aq
def mem_ready{listed:Array Bool}{i:Nat}:i∈Region.ready .any ops listed↔i<ops.size/\listed.getD i O=G/\∃o,ops[i]? =V o/\∀e∈o.after.toList,Region.binds .any e=O->listed.getD e.on G=O:=by
 unfold Region.ready;simp only[z8,List.mem_range,zi,Bool.not_eq_true'];refine and_congr_right λhi=>and_congr_right λ_=> ?_;rw[xd hi];simp only[yH,Option.getD_some,zF.injEq,exists_eq_left'];rw[Array.all_eq_true'];constructor
 ·intro h e he hb;have:=h e (by simpa using he);rw[hb]at this
  assumption
 ·intro h e he;cases hb:Region.binds .any e with
  |false=>rfl
  |true=>simpa using h e (by simpa using he) hb
def Cp{listed:Array Bool}{i:Nat}(hi:i<listed.size):listed.getD i O=G↔listed.toList[i]? =V G:=by
 rw[Array.getD_eq_getD_getElem?,xd hi,zq (by simpa using hi)];simp
def E9{listed:Array Bool}{i:Nat}:listed.getD i G=O↔listed.toList[i]? =V O:=by
 cases h:listed[i]? with
 |none=>simp[h]
 |some b=>simp[h]
def arV{C:Cg}{cs:aa Rc}{f0:Fr}{R0:bt}{nx0:Nat}{g:Nat->Nat}{ds:aa Deferred}{ae:Exit->Act->World->Prop}
  (hlen:zR cs=ops.size) (g0:g 0=nx0) (gn:C.n<=nx0) (g2:∀i,i<ops.size->g i<=g (i+1)) (hf:∀(i:Nat) o c,ops.toList[i]? =V o->cs[i]? =V c->AT P n ops o (gW (cs.take i) (zj i O) f0) (hU (cs.take i) (zj i O) R0) (g i) c (g (i+1)))
  (hcf:∀(i j:Nat) (c d:Rc),j<i->cs[j]? =V c->cs[i]? =V d->CF c d\/∀bs,FL ops.toList bs->(∀o,ops.toList[i]? =V o->Rdy bs o)->bs[j]? =V O)
  (hback:∀(i:Nat) o,ops.toList[i]? =V o->∀e∈o.after.toList,Region.binds .any e=O->e.on<i)
  (hQ:∀a w,a.defers=ds->MtS C n (λi=>i<g ops.size) (gW cs (zj (zR cs) O) f0) (hU cs (zj (zR cs) O) R0) a w->ae .normal a w):
  ∀(fuel:Nat) (listed:Array Bool) (a:Act) (w:World),listed.size=ops.size->rG listed.toList=fuel->FL ops.toList listed.toList->a.defers=ds->
   MtS C n (λx=>x<nx0\/∃j:Nat,listed.toList[j]? =V O/\g j<=x/\x<g (j+1)) (gW cs listed.toList f0) (hU cs listed.toList R0) a w->wpAny P .any ops ae fuel listed a w:=by
 have hmono:=adB (N:=ops.size) (g:=g) g2;intro fuel;induction fuel with
 |zero=>
  intro listed a w hs hc hcl hda hm;have hall:=IB hc;have hfin:ae .normal a w:=by
   refine hQ a w hda ?_;rw[hall,show zR listed.toList=zR cs from by rw[hlen,<-hs];simp]at hm;obtain⟨E,S,q1,q2,q3,q5,q4⟩:=hm;have hle:∀i,(i<nx0\/∃j:Nat,(zj (zR cs) O)[j]? =V O/\g j<=i/\i<g (j+1))->i<g ops.size:=λi hi=>by
    rcases hi with hi|⟨j,hj,_,hj3⟩
    ·have:=hmono 0 ops.size (yV _) (zm _);omega
    ·have hj':j<zR cs:=by simpa using (z7.1 hj).1
     have:=hmono (j+1) ops.size aq (zm _);omega
   exact⟨E,S,q1,λq hq=>(q2 q hq).mono hle,q3.mono hle,q5,q4⟩
  refine⟨?_,hfin⟩;rw[List.eq_nil_iff_forall_not_mem];intro i hi;obtain⟨h1,h2,_⟩:=mem_ready.1 hi;rw[Cp aq,hall,wT]at h2;split at h2<;>cases h2
 |succ fuel ih=>
  intro listed a w hs hc hcl hda hm;refine⟨λhr=> ?_,λi hi=> ?_⟩
  ·
   exfalso;obtain⟨i,h1,h2⟩:=N7 (bs:=listed.toList) aq;have hil:i<listed.size:=by simpa using (z7.1 h1).1
   have hio:i<ops.size:=aq;have:i∈Region.ready .any ops listed:=mem_ready.2 ⟨hio,(Cp hil).2 h1,ops[i],xd hio,λe he hb=>E9.2 (h2 _ (hback i ops[i] (by simp[hio]) e he hb))⟩;simp_all
  ·obtain⟨hio,h2,o,ho,hrd⟩:=mem_ready.1 hi;have hil:i<listed.size:=aq;have hbi:=(Cp hil).1 h2;have hol:ops.toList[i]? =V o:=by simpa using ho
   have hRdy:Rdy listed.toList o:=λe he hb=>E9.1 (hrd e he hb);obtain⟨c,hci⟩:∃c,cs[i]? =V c:=⟨_,zq aq⟩;have fact:=hf i o c hol hci;obtain⟨s1,s2,s3,s4⟩:=abq (cs:=cs) (bs:=listed.toList) (i:=i) (c:=c) f0 R0 (by rw[hlen,<-hs];simp) hci hbi
    (λj d hji hd hbj=>(hcf i j d c hji hd hci).resolve_right λh=>by
     have:=h listed.toList hcl (λo' ho'=>by rw[hol]at ho';cases ho';exact hRdy);rw[hbj]at this;cases this)
    (λj d hij hd hbj=>((hcf j i c d hij hci hd).resolve_right λh=>by
     have hjo:j<ops.size:=by have:=(z7.1 hd).1;omega
     have:=h listed.toList hcl (λo' ho'=>hcl j o' ho' hbj);rw[hbi]at this;cases this).symm)
   have eset:(listed.setIfInBounds i O).toList=listed.toList.set i O:=Array.toList_setIfInBounds ..;have hcl':FL ops.toList (listed.toList.set i O):=λj o' ho' hbj e he hb=>by
    have hmono':∀k,listed.toList[k]? =V O->(listed.toList.set i O)[k]? =V O:=λk hk=>by
     rw[List.getElem?_set];split
     ·rename_i hik;rw[bJ (by simpa using hil)]
     ·exact hk
    by_cases hij:i=j
    ·subst hij;rw[hol]at ho';cases ho';exact hmono' _ (hRdy e he hb)
    ·rw[List.getElem?_set_ne hij]at hbj;exact hmono' _ (hcl j o' ho' hbj e he hb)
   have hpn:∀x,(x<nx0\/∃j:Nat,listed.toList[j]? =V O/\g j<=x/\x<g (j+1))->¬(g i<=x/\x<g (i+1)):=λx hx hr=>by
    rcases hx with hx|⟨j,hj,hj2,hj3⟩
    ·have:=hmono 0 i (yV _) aq;omega
    ·have hne:j≠i:=λe=>by rw[e,hbi]at hj;cases hj
     have hjl:j<ops.size:=by
      have:j<zR listed.toList:=(z7.1 hj).1;have h3:zR listed.toList=listed.size:=by simp
      omega
     by_cases hlt:j<i
     ·have:=hmono (j+1) i aq aq;omega
     ·have:=hmono (i+1) j aq aq;omega
   have hweak:∀x,((x<nx0\/∃j:Nat,listed.toList[j]? =V O/\g j<=x/\x<g (j+1))\/(g i<=x/\x<g (i+1)))->(x<nx0\/∃j:Nat,(listed.toList.set i O)[j]? =V O/\g j<=x/\x<g (j+1)):=λx hx=>by
    rcases hx with (hx|⟨j,hj,hj2⟩)|hx
    ·exact .inl hx
    ·refine .inr ⟨j,?_,hj2⟩;rw[List.getElem?_set];split
     ·rw[bJ (by simpa using hil)]
     ·exact hj
    ·refine .inr ⟨i,?_,hx⟩;rw[List.getElem?_set_self (by simpa using hil)]
   have cont:∀a' w',a'.defers=ds->MtS C n (λx=>(x<nx0\/∃j:Nat,listed.toList[j]? =V O/\g j<=x/\x<g (j+1))\/(g i<=x/\x<g (i+1))) (c.F (gW cs listed.toList f0)) (c.R (hU cs listed.toList R0)) a' w'->wpAny P .any ops ae fuel (listed.setIfInBounds i O) a' w':=λa' w' hda' hm'=>by
    refine ih (listed.setIfInBounds i O) a' w' (by simp[hs]) ?_ (by rw[eset];exact hcl') hda' ?_
    ·rw[eset];have:=NY hbi;omega
    ·rw[eset,<-s3];obtain⟨E,S,q1,q2,q3,q5,q4⟩:=hm'.perm s4;exact⟨E,S,q1,λq hq=>(q2 q hq).mono hweak,q3.mono hweak,q5,q4⟩
   have hgate:∀wn,GD ops o (gW (cs.take i) (zj i O) f0) wn->Region.wanted o (yielded ops a.tmps)=wn:=λwn hg=>by
    unfold GD at hg;cases hgd:o.guard with
    |none=>
     rw[hgd]at hg;simp only at hg;rw[hg];unfold Region.wanted;rw[hgd]
    |some jw=>
     obtain⟨j,want⟩:=jw;rw[hgd]at hg;obtain⟨t,hj,hg⟩:=hg;have hts:t∈c.sl:=by
      rw[fact.sl];unfold dx aoW;rw[hgd];simp only[hj];exact yJ _ (zo.2 rfl)
     obtain⟨E,S,q1,_,_,_,q4⟩:=hm;obtain⟨w1,w2⟩:=HX (S:=S) hgd hj (E:=E);rcases hg with ⟨b,hb,hw⟩|⟨vs,hb,hw⟩
     ·rw[hw];exact ri.spec q4.slots (w1 b (q1 _ _ (by rw[s1 t hts];exact hb)))
     ·rw[hw];exact ri.spec q4.slots (w2 vs (q1 _ _ (by rw[s1 t hts];exact hb)))
   unfold wpOp;simp only[ho];rcases fact.run with ⟨hg,hv,hef⟩|⟨hg,hy⟩
   ·rw[bN (by rw[hgate _ hg];exact Bool.false_ne_true)];obtain⟨E,S,q1,q2,q3,q5,q4⟩:=hm;have hR:c.R (hU cs listed.toList R0)=hU cs listed.toList R0:=by unfold Rc.R;rw[hef]
    refine cont _ _ (by rw[<-hda];cases o.dst<;>rfl) ?_;rw[hR];cases hdo:o.dst with
    |none=>exact⟨E,S,λt d ht=>q1 t d (by unfold Rc.F at ht;rw[fact.dst,hdo]at ht;simpa using ht),λq hq=>(q2 q hq).mono λ_ h=> .inl h,q3.mono λ_ h=> .inl h,q5,q4⟩
    |some t=>
     refine⟨(t, .lit undef)::E,S,λs d hsd=> ?_,λq hq=> ?_,q3.mono λ_ h=> .inl h,q5,?_⟩
     ·unfold Rc.F at hsd;rw[fact.dst,hdo,hv]at hsd;by_cases hts:t=s
      ·subst hts;rw[bJ rfl]at hsd;cases hsd;exact Env.fB _ _ _
      ·rw[bN (λe=>hts (zF.inj e))]at hsd;rw[Env.dY _ _ hts];exact q1 s d hsd
     ·rcases zy.1 hq with rfl|hq
      ·exact .lit _
      ·exact(q2 q hq).mono λ_ h=> .inl h
     ·have hdn:=fact.dn;rw[hdo]at hdn;have:=q4.put (av:= .lit undef) (v:=undef) hdn (.lit _);show uI C.C n ((t,b9.sub S (.lit undef))::E.sub S) _ _ _;rw[bW];exact this
   ·rw[bJ (hgate _ hg)];refine .inl ?_;have hle:uN (gW cs listed.toList f0) c.sl=uN (gW (cs.take i) (zj i O) f0) c.sl:=QF s1;obtain⟨E,S,q1,q2,q3,q5,q4⟩:=hm;have hids:=fact.ids (λx=>x<nx0\/∃j:Nat,listed.toList[j]? =V O/\g j<=x/\x<g (j+1)) (λt ht d hd=>by
     rw[<-s1 t ht]at hd;exact q2 _ (Env.get_mem (q1 t d hd))) (by rw[<-s2];exact λq hq=>q3 q (z8.1 hq).1)
    exact at1 (nx:=g i) (nx':=g (i+1)) (by have:=hmono 0 i (yV _) aq;omega) ⟨E,S,q1,q2,q3,q5,q4⟩ fact.dst fact.dn fact.wr (by rw[hle,s2];exact hy) hpn fact.lv (by rw[s2];exact fact.lin) fact.lo hids.1 hids.2 λa' w' hd' hm'=>cont a' w' (hd'.trans hda) hm'
def aeg{α:Type}{r:α}{F:bq}{C:Cg}{s:St}{a:Act}{w:World}{id:Nat}{k:St->af α}(hF:iN P F)(hN:dX F)(h:HF P F n ops s k=V r)(hm:Mt C n s a w):
  (Code.region id ops O).wp P (λe a' w'=>e= .normal/\a'.defers=a.defers/\∃s',k s'=V r/\Mt C n s' a' w') a w:=by
 unfold HF at h;split at h
 case h_2=>cases h
 rename_i hb;simp only[zi]at hb;split at h
 case h_2=>cases h
 rename_i ps hps;obtain⟨E,hh,hE,hR,S,hag,hsim⟩:=hm;obtain⟨cs,s',f',q1,q2,q3⟩:=RX hF hN ops.toList (f:=cV s.E) h (λt d h=>h) (λt d hd=>Env.afd (x:= .tmp t) hE (hh t d hd)) hR;split at q1
 case h_2=>cases q1
 rename_i hpo;obtain⟨l1,l2,l3,g,g0,g1,g2,g3⟩:=q2.idx;have hN:zR ops.toList=ops.size:=by simp
 refine wp_region_any hb.1 ?_;refine arV (C:=C) (cs:=cs) (f0:=cV s.E) (R0:=s.R) (nx0:=s.nx) (g:=g) (ds:=a.defers) (by rw[l1,hN]) g0 hag.2 (by rw[<-hN];exact g2) g3 (λi j c d hji hc hd=>ag1 hps hpo (λi c hc=>by
   obtain⟨o,ho⟩:∃o,ops.toList[i]? =V o:=⟨_,zq (by rw[<-l1];exact(z7.1 hc).1)⟩;have:=g3 i o c ho hc;exact⟨o,ho,this.dst,this.sl,this.ef,this.wr⟩) hji hc hd) (λi o ho e he hbe=>by have:=PR hb.2 i o ho e he hbe;omega) (λa' w' hd' hm'=> ?_) ops.size (Array.replicate ops.size G) a _ (by simp) (by rw[Array.toList_replicate,N4]) (λi o _ hbi=> ?_) rfl ?_
 ·refine⟨rfl,hd',s',q1,?_⟩;rw[<-l2,<-l3]at hm';obtain⟨E',S',p1,p2,p3,p5,p4⟩:=hm';rw[hN]at g1;rw[g1]at p2 p3;exact⟨E',λt d hd=>p1 t d (q3 t d hd),p2,p3.sq,S',⟨p5,by have:=adB (N:=zR ops.toList) g2 0 (zR ops.toList) (yV _) (zm _);rw[g0,hN,g1]at this;have h7:=hag.2;omega⟩,p4⟩
 ·rw[Array.toList_replicate,wT]at hbi;split at hbi<;>cases hbi
 ·have nF:∀(cs:aa Rc) (n:Nat) (f:Fr),gW cs (zj n G) f=f:=λcs=>by
   induction cs with
   |nil=>intro n f;rfl
   |cons d cs ih=>
    intro n f;cases n with
    |zero=>rfl
    |succ n=>rw[yR];exact ih n f
  have nR:∀(cs:aa Rc) (n:Nat) (R:bt),hU cs (zj n G) R=R:=λcs=>by
   induction cs with
   |nil=>intro n f;rfl
   |cons d cs ih=>
    intro n f;cases n with
    |zero=>rfl
    |succ n=>rw[yR];exact ih n f
  rw[Array.toList_replicate,nF,nR];exact⟨E,S,hh,λq hq=>gY.mono (hE q hq) λi hi=> .inl hi,(bt.gY.mono hR.lts λi hi=> .inl hi),hag.1,hsim.drew⟩
end
end Go.Iv
end
noncomputable section
namespace Go.Iv
variable [U:tf] [L:nu]
open Go Go.RowKit
section
variable {α:Type} {r:α} {P:Program} {F:bq} {C:Cg} {n:Nat}
def CN(P:Program)(F:bq)(n:Nat)(_:Nat)(ops:Array Oper)(draw:Bool)(s:St)(k:gI α):af α:=match draw with
 |false=>fE P F n ops ops.toList s (k .normal)
 |true=>HF P F n ops s (k .normal)
def exec(P:Program)(F:bq)(n:Nat)(fuel:Nat)(c:Code):St->gI α->af α:=
 Code.rec acR (CN P F n) (λ_ _=>aB2) (λc _ _=>aqk c) (λid _=>agF id) (λ_=>ady fuel) (λ_ _ _ _ _ _=>G4) afa (λ_ _=>G4) (λ_=>G4) (λ_=>G4) apq (λ_=>G4) c
def rq(P:Program)(F:bq)(fuel:Nat)(f:FuncId)(args:aa AV)(R:bt)(nx:Nat)(k:AV->bt->Nat->af α):af α:=match P.funcs[f]? with
 |some fn=>match fn.body with
  |some c=>match yq (zR args) fn.ntmps&& !(fn.name=="runtime.NumGoroutine")with
   |true=>exec (α:=α) P F fn.ntmps fuel c ⟨O1 0 args .e,R,nx⟩ λe s=>match e with
    | .normal=>(GP P s fn.results.toList).bind λds=>k (fD ds) (Nn s.R nx (fD ds) args) s.nx
    | .ret=>(GP P s fn.results.toList).bind λds=>k (fD ds) (Nn s.R nx (fD ds) args) s.nx
    |_=>I
   |false=>I
  |none=>I
 |none=>I
def tF(P:Program)(F0:bq)(has:FuncId->Bool)(fuel:Nat):Nat->bq
 |0=>F0
 |m+1=>λα f args R nx k=>match has f with
  |true=>F0 α f args R nx k
  |false=>rq P (tF P F0 has fuel m) fuel f args R nx k
def Ends(P:Program)(C:Cg)(n:Nat)(c:Code)(k:gI α)(r:α)(a:Act)(w:World):Prop:=c.wp P (λe a' w'=>∃s',k e s'=V r/\Mt C n s' a' w') a w
def YJ(P:Program)(C:Cg)(n:Nat)(c:Code)(x:St->gI α->af α):Prop:=∀(r:α) (s:St) (k:gI α) (a:Act) (w:World),x s k=V r->Mt C n s a w->Ends P C n c k r a w
def Mx{c:Operand}{s:St}{x y:St->af α}(h:qL c s x y=V r){a:Act}{w:World}(hm:Mt C n s a w):∃(b:Bool) (s':St),a.eval c= .bool b/\Mt C n s' a w/\(match b with|O=>x s'|G=>y s')=V r:=by
 unfold qL at h;split at h
 ·rename_i t;split at h
  case h_2=>cases h
  rename_i b hb;have hev:a.eval (.tmp t)= .bool b:=by
   obtain⟨E,hh,_,_,S,_,hs⟩:=hm;refine Xi hs ?_;have h1:=hh t _ hb;show Env.get (E.sub S) t=_;rw[Env.fA,h1,yH,bW]
  refine⟨b,s.gq t b,hev,hm.gq hb,?_⟩;unfold abn at h;cases b<;>exact h
 ·exact⟨O,s,rfl,hm,h⟩
 ·exact⟨G,s,rfl,hm,h⟩
 ·cases h
def DO(hF:iN P F)(hN:dX F)(id:Nat)(ops:Array Oper)(draw:Bool):YJ (α:=α) P C n (.region id ops draw) (CN P F n id ops draw):=λr s k a w h hm=>by
 unfold CN at h;cases draw with
 |false=>
  refine wp_mono (wp_region_lit (Eo hF _ h hm)) λe a' w' ⟨he,_,s',h1,h2⟩=> ?_;subst he;exact⟨s',h1,h2⟩
 |true=>
  refine wp_mono (aeg hF hN h hm) λe a' w' ⟨he,_,s',h1,h2⟩=> ?_;subst he;exact⟨s',h1,h2⟩
def HH{c:Code}{x:St->gI α->af α}(hx:YJ P C n c x)(fuel:Nat):YJ P C n (.loop c) (ady fuel x):=λr s k a w h hm=>by
 have key:∀(m:Nat) (s:St) (a:Act) (w:World),Ff x k m s=V r->Mt C n s a w->c.wp P (Exit.then (InL P c λe a' w'=>∃s',k e s'=V r/\Mt C n s' a' w') λe a' w'=>∃s',k e s'=V r/\Mt C n s' a' w') a w:=by
  intro m;induction m with
  |zero=>intro s a w h;cases h
  |succ m ih=>
   intro s a w h hm;refine wp_mono (hx r s _ a w h hm) λe a' w' ⟨s',h1,h2⟩=> ?_;cases e with
   |normal=>exact OM (ih s' a' w' h1 h2)
   |_=>exact⟨s',h1,h2⟩
 exact Ik (key fuel s a w h hm)
def ajN(hF:iN P F)(hN:dX F)(fuel:Nat)(c:Code):YJ (α:=α) P C n c (exec P F n fuel c):=by
 induction c with
 |skip=>exact λr s k a w h hm=>wp_skip ⟨s,h,hm⟩
 |region id ops draw=>exact DO hF hN id ops draw
 |seq x y hx hy=>
  intro r s k a w h hm;refine wp_seq (wp_mono (hx r s _ a w h hm) λe a' w' ⟨s',h1,h2⟩=> ?_);cases e with
  |normal=>exact hy r s' k a' w' h1 h2
  |_=>exact⟨s',h1,h2⟩
 |cond c x y hx hy=>
  intro r s k a w h hm;obtain⟨b,s',he,hm',h'⟩:=Mx (show qL c s _ _=V r from h) hm;cases b with
  |true=>exact wp_cond_true he (hx r s' k a w h' hm')
  |false=>exact wp_cond_false he (hy r s' k a w h' hm')
 |block id x hx=>
  intro r s k a w h hm;refine wp_block (wp_mono (hx r s _ a w h hm) λe a' w' ⟨s',h1,h2⟩=> ?_);cases e with
  |exit id'=>
   simp only[tP]at h1;simp only[Exit.inBlock];split
   ·rename_i he;subst he;have hb:ze id' id'=O:=Nat.beq_refl _;simp only[hb]at h1;exact⟨s',h1,h2⟩
   ·rename_i he;have hb:ze id' id=G:=by
     cases hb:ze id' id with
     |false=>rfl
     |true=>exact ep (xw hb) he
    simp only[hb]at h1;exact⟨s',h1,h2⟩
  |_=>exact⟨s',h1,h2⟩
 |loop c hc=>exact HH hc fuel
 |exit i=>exact λr s k a w h hm=>wp_exit ⟨s,h,hm⟩
 |ret=>exact λr s k a w h hm=>wp_ret ⟨s,h,hm⟩
 |_=>exact λr s k a w h hm=>by cases h
def Cn(nx:Nat)(ids:aa Nat):∀R:bt,List.Sublist (OB nx ids R) R
 |[]=> .slnil
 |p::R=>by
  have ih:=Cn nx ids R;show List.Sublist (Bool.rec (Bool.rec (OB nx ids R) (p::OB nx ids R) (dG p.1 ids)) (p::R) (zB p.1 nx)) (p::R);cases zB p.1 nx with
  |true=>exact List.Sublist.refl _
  |false=>
   cases dG p.1 ids with
   |true=>exact ih.cons_cons p
   |false=>exact ih.cons p
def age{s:St}{E:Env}{S:Gh}{rv:ResultVar}{d:AV}(h:ab0 P s rv=V d)(hh:uB s.E E):Gg P (E.sub S) (bt.res S s.R) rv (d.sub S):=by
 unfold ab0 at h;split at h
 ·rename_i t;refine .tmp ?_;rw[Env.fA,hh t d h];rfl
 ·rename_i t ty;split at h
  case h_2=>cases h
  rename_i id hp;have hp':Env.get (E.sub S) t=V (.lit (.pointer (V ⟨S.b id,0,I⟩))):=by
   rw[Env.fA,hh t _ hp,yH,b9.sub]
  split at h
  case h_2=>cases h
  rename_i T cs hr;obtain⟨i,hi,_⟩:=eT hr;have hres:=iD (S:=S) hi;split at h
  ·rename_i h1;refine .axi i hp' hres (Db h1) ?_;rw[ye,h];rfl
  ·split at h
   case h_2=>cases h
   rename_i m hm;split at h
   case h_2=>cases h
   rename_i hl;cases h;rw[fq];refine .azB i hp' hres (PF hm) ?_;rw[zu];exact gU hl
def aed{s:St}{nx:Nat}{rv:ResultVar}{d:AV}(h:ab0 P s rv=V d){E:Env}(hh:uB s.E E)(hE:E.cW nx)(hR:bt.cW nx s.R):cW nx d:=by
 unfold ab0 at h;split at h
 ·rename_i t;exact hE _ (Env.get_mem (hh t d h))
 ·split at h
  case h_2=>cases h
  split at h
  case h_2=>cases h
  rename_i id _ T cs hr;have hL:=FB hr hR;split at h
  ·exact hL.2 _ (List.mem_of_getElem? h)
  ·split at h
   case h_2=>cases h
   split at h
   case h_2=>cases h
   cases h;exact .agg _ hL.2
def Kl{s:St}{E:Env}{S:Gh}(hh:uB s.E E){A:Nat->Prop}{w:World}{tmps:Array Value}(hd:Hd A (bt.res S s.R) w)(hs:mh A w (E.sub S) tmps):∀{l:aa ResultVar} {ds:aa AV},GP P s l=V ds->
  ∃us,(l.mapM (uw tmps)).run P w= .ok us w/\bO A w (ds.map (b9.sub S)) us
 |[],ds,h=>by cases h;exact⟨[],rfl,bO.nil⟩
 |x::l,ds,h=>by
  unfold GP at h;split at h
  case h_2=>cases h
  rename_i d hx;obtain⟨ds',h1,h2⟩:=zl.1 h;subst h2;obtain⟨v,q1,q2⟩:=age (S:=S) hx hh A w tmps hd hs;obtain⟨us,q3,q4⟩:=Kl hh hd hs h1;refine⟨v::us,?_,bO.cons q2 q4⟩;rw[List.mapM_cons];simp[q1,q3]
def P5{s:St}{nx:Nat}{E:Env}(hh:uB s.E E)(hE:E.cW nx)(hR:bt.cW nx s.R):∀{l:aa ResultVar} {ds:aa AV},GP P s l=V ds->∀d∈ds,cW nx d
 |[],ds,h=>by cases h;simp
 |x::l,ds,h=>by
  unfold GP at h;split at h
  case h_2=>cases h
  rename_i d hx;obtain⟨ds',h1,h2⟩:=zl.1 h;subst h2;intro d' hd';rcases zy.1 hd' with rfl|hd'
  ·exact aed hx hh hE hR
  ·exact P5 hh hE hR h1 d' hd'
def aeO{nx:Nat}{ds:aa AV}(h:∀d∈ds,cW nx d):cW nx (fD ds):=by
 unfold fD;split
 ·exact h _ (by simp)
 ·exact .jf _ h
def P4{S:Gh}{A:Nat->Prop}{w:World}{ds:aa AV}{us:aa Value}(h:bO A w (ds.map (b9.sub S)) us):Rel A w ((fD ds).sub S) (if h:us.toArray.size=1 then us.toArray[0]else .tuple us.toArray):=by
 unfold fD;split
 ·rename_i d;obtain⟨h1,h2⟩:=h
  match us,h1,h2 with
  |[u],_,h2=>exact h2 0 _ _ rfl rfl
 ·rename_i hn;have hl:zR us=zR ds:=by have:=h.1;simpa using this
  rw[dif_neg (by
   intro e
   match ds,hn with
   |[],_=>rw[y6,hl]at e;cases e
   |[d],hn=>exact hn d rfl
   |_::_::_,_=>rw[y6,hl]at e;simp at e),lB]
  exact Rel.G2 h
def A6:∀(l:aa AV) (i:Nat) (T:ET) (E:Env),uB T E->(∀t d,cV T t=V d->t<i)->uB (O1 i l T) (fu i l++E)
 |[],_,_,_,h,_=>h
 |d::l,i,T,E,h,hT=>by
  have h2:∀t d',cV (nj i d T) t=V d'->t<i+1:=λt d' ht=>by
   rcases qw ht with ⟨rfl,_⟩|⟨_,q⟩
   ·omega
   ·have:=hT t d' q;omega
  have:=A6 l (i+1) (nj i d T) ((i,d)::E) (h.put i d) h2;intro t v ht;have h1:Env.get (fu (i+1) l++(i,d)::E) t=V v:=this t v ht;show Env.get ((i,d)::(fu (i+1) l++E)) t=V v;have key:∀(l:aa AV) (j:Nat),i<j->Env.get (fu j l++(i,d)::E) t=Env.get ((i,d)::(fu j l++E)) t:=λl=>by
   induction l with
   |nil=>intro j _;rfl
   |cons u l ih=>
    intro j hj;show Env.get ((j,u)::(fu (j+1) l++(i,d)::E)) t=Env.get ((i,d)::(j,u)::(fu (j+1) l++E)) t;by_cases h1:j=t
    ·subst h1;rw[Env.fB,Env.dY _ _ aq,Env.fB]
    ·rw[Env.dY _ _ h1,ih (j+1) aq];by_cases h2:i=t
     ·subst h2;rw[Env.fB,Env.fB]
     ·rw[Env.dY _ _ h2,Env.dY _ _ h2,Env.dY _ _ h1]
  rw[<-key l (i+1) (zC i)];exact h1
def qD(S:Gh):∀(l:aa AV) (i:Nat),(fu i l).sub S=fu i (l.map (b9.sub S))
 |[],_=>rfl
 |d::l,i=>by show (i,d.sub S)::(fu (i+1) l).sub S=_;rw[qD S l];rfl
def ru:∀{l:aa AV} {i:Nat} {q:Nat×AV},q∈fu i l->q.2∈l
 |d::l,i,q,h=>by
  rcases zy.1 h with rfl|h
  ·exact zk
  ·exact zI _ (ru h)
def ae2{xs:aa AV}{fn:Func}{C:Cx}{S:Gh}{nx:Nat}{s:St}{a:Act}{w:World}{k:AV->bt->Nat->af α}{e:Exit}(he:e= .normal\/e= .ret)(h:((GP P s fn.results.toList).bind λds=>k (fD ds) (Nn s.R nx (fD ds) xs) s.nx)=V r)(hm:Mt ⟨C,S,nx⟩ n s a w):
  ∃E' B',uI C n E' B' a w/\alJ P C n fn (λa s=>∃d R' nx',k d R' nx'=V r/\nx<=nx'/\cW nx' d/\bt.cW nx' R'/\∃S',pU nx S S'/\a=d.sub S'/\List.Perm s (bt.res S' R')) e E' B':=by
 obtain⟨E,hh,hE,hR,S',⟨hag,hnx⟩,hsim⟩:=hm;obtain⟨ds,h1,h2⟩:=zn.1 h;have hsub:List.Sublist (Nn s.R nx (fD ds) xs) s.R:=Cn _ _ _;refine⟨_,_,hsim,acw (B':=bt.res S' (Nn s.R nx (fD ds) xs)) (av:=(fD ds).sub S') he (hsub.map _) ⟨_,_,_,h2,hnx,aeO (P5 hh hE hR h1),λq hq=>hR q (hsub.subset hq),S',hag,rfl,List.Perm.refl _⟩ λA w' tmps hd hs=> ?_⟩;obtain⟨us,q1,q2⟩:=Kl hh hd hs h1;refine⟨_,?_,P4 q2⟩;show (do let vs <-fn.results.mapM (uw tmps);pure (if h:vs.size=1 then vs[0]else .tuple vs):Sem Value).run P w'=_;have e1:fn.results=fn.results.toList.toArray:=by simp
 rw[e1,List.mapM_toArray];simp[q1]
section
variable {W:Type}
def MY{ops:Array Oper}{o:Oper}{s:St}{y n:St->af α}(D:α->af W):(gate ops o s y n).bind D=gate ops o s (λs=>(y s).bind D) (λs=>(n s).bind D):=by
 unfold gate
 repeat' split
 all_goals first|rfl|simp_all
def YA{o:Op}{s:St}{f:St->af α}(D:α->af W):(Cw o s f).bind D=Cw o s (λs=>(f s).bind D):=by
 unfold Cw
 repeat' split
 all_goals first|rfl|simp_all
def ahL(hN:dX F){o:Oper}{ih:St->(St->af α)->af α}{ih':St->(St->af W)->af W}{k:St->af α}{D:α->af W}(hi:∀s k,(ih s k).bind D=ih' s (λs=>(k s).bind D))(s:St):(rDo P F o ih k s).bind D=rDo P F o ih' (λs=>(k s).bind D) s:=by
 unfold rDo;generalize s.kK (jc s.E o.op)=s1;obtain⟨E,R,nx⟩:=s1;show (pJ o.op P F (IQ E) (gJ R) R nx (MQ o.dst E R nx ih k)).bind D=pJ o.op P F (IQ E) (gJ R) R nx (MQ o.dst E R nx ih' λs=>(k s).bind D);rw[AO D hN]
 congr 1
 funext e
 cases e<;>exact hi ..
def sk(hN:dX F){ops:Array Oper}(D:α->af W):∀(l:aa Oper) (s:St) (k:St->af α),(fE P F n ops l s k).bind D=fE P F n ops l s (λs=>(k s).bind D)
 |[],s,k=>rfl
 |o::l,s,k=>by
  show (OZ P F n ops o (fE P F n ops l) s k).bind D=OZ P F n ops o (fE P F n ops l) s (λs=>(k s).bind D);unfold OZ;split
  ·rw[MY]
   congr 1
   ·funext s1
    obtain⟨E,R,nx⟩:=s1;show (opF o.op P F o.dst E R nx (fE P F n ops l) k).bind D=opF o.op P F o.dst E R nx (fE P F n ops l) (λs=>(k s).bind D);have e1:=Kc P F o ⟨E,R,nx⟩ (fE (α:=α) P F n ops l) k;have e2:=Kc P F o ⟨E,R,nx⟩ (fE (α:=W) P F n ops l) (λs=>(k s).bind D);dsimp only at e1 e2;rw[e1,e2,YA]
    congr 1
    funext s2
    exact ahL hN (λs k=>sk hN D l s k) s2
   ·funext s1
    unfold rNo;split<;>exact sk hN D l _ _
  ·rfl
def Ll(hN:dX F){ops:Array Oper}{ps:aa (Nat×Nat)}(D:α->af W):∀(l:aa Oper) (cs:aa Rc) (s:St) (k:aa Rc->St->af α),(ZE P F n ops ps l cs s k).bind D=ZE P F n ops ps l cs s (λcs s=>(k cs s).bind D)
 |[],cs,s,k=>rfl
 |o::l,cs,s,k=>by
  show (X6 P F n ops ps o (ZE P F n ops ps l) cs s k).bind D=X6 P F n ops ps o (ZE P F n ops ps l) cs s (λcs s=>(k cs s).bind D);unfold X6;split
  ·rw[MY]
   congr 1
   ·funext s1
    obtain⟨E,R,nx⟩:=s1;show (He P F o (dx ops o) E (inQ (rz ops o E R) R) nx (dK ops ps o cs (rz ops o E R) E R (inQ (rz ops o E R) R) nx (ZE P F n ops ps l) k)).bind D=He P F o (dx ops o) E (inQ (rz ops o E R) R) nx (dK ops ps o cs (rz ops o E R) E R (inQ (rz ops o E R) R) nx (ZE P F n ops ps l) (λcs s=>(k cs s).bind D));rw[<-Gm hN,<-Gm hN,z6]
    congr 1
    funext x
    unfold dK;split
    ·exact Ll hN D l _ _ _
    ·rfl
   ·funext s1
    exact Ll hN D l _ _ _
  ·rfl
def Zr(hN:dX F)(id:Nat)(ops:Array Oper)(draw:Bool)(D:α->af W)(s:St)(k:gI α):(CN P F n id ops draw s k).bind D=CN P F n id ops draw s (λe s=>(k e s).bind D):=by
 unfold CN;cases draw with
 |false=>exact sk hN D _ _ _
 |true=>
  show (HF P F n ops s (k .normal)).bind D=HF P F n ops s (λs=>(k .normal s).bind D);unfold HF;split
  ·split
   ·rw[Ll hN D]
    congr 1
    funext cs s'
    split<;>rfl
   ·rfl
  ·rfl
def XI{c:Operand}{s:St}{x y:St->af α}(D:α->af W):(qL c s x y).bind D=qL c s (λs=>(x s).bind D) (λs=>(y s).bind D):=by
 unfold qL
 repeat' split
 all_goals first|rfl|(unfold abn;split<;>rfl)|simp_all
def Px{x:St->gI α->af α}{x':St->gI W->af W}{D:α->af W}(hx:∀s k,(x s k).bind D=x' s (λe s=>(k e s).bind D))(k:gI α):∀(m:Nat) (s:St),(Ff x k m s).bind D=Ff x' (λe s=>(k e s).bind D) m s
 |0,s=>rfl
 |m+1,s=>by
  show (x s (Nt k (Ff x k m))).bind D=x' s (Nt (λe s=>(k e s).bind D) (Ff x' (λe s=>(k e s).bind D) m));rw[hx]
  congr 1
  funext e s'
  cases e<;>first|exact Px hx k m s'|rfl
def ZV(hN:dX F)(fuel:Nat)(D:α->af W)(c:Code):∀(s:St) (k:gI α),(exec P F n fuel c s k).bind D=exec P F n fuel c s (λe s=>(k e s).bind D):=by
 induction c with
 |region id ops draw=>exact Zr hN id ops draw D
 |seq x y hx hy=>
  intro s k;show (exec P F n fuel x s (ain (exec P F n fuel y) k)).bind D=exec P F n fuel x s (ain (exec P F n fuel y) (λe s=>(k e s).bind D));rw[hx]
  congr 1
  funext e s'
  cases e<;>first|exact hy s' k|rfl
 |cond c x y hx hy=>
  intro s k;show (qL c s (λs=>exec P F n fuel x s k) (λs=>exec P F n fuel y s k)).bind D=qL c s (λs=>exec P F n fuel x s _) (λs=>exec P F n fuel y s _);rw[XI]
  congr 1
  ·funext s;exact hx s k
  ·funext s;exact hy s k
 |block id x hx=>
  intro s k;show (exec P F n fuel x s (tP id k)).bind D=exec P F n fuel x s (tP id (λe s=>(k e s).bind D));rw[hx]
  congr 1
  funext e s'
  cases e<;>first|rfl|(simp only[tP];split<;>rfl)
 |loop c hc=>exact λs k=>Px hc k fuel s
 |_=>exact λs k=>rfl
def YC(hN:dX F)(fuel:Nat):dX (λα=>rq (α:=α) P F fuel):=λα W f args R nx k D=>by
 show (rq P F fuel f args R nx k).bind D=rq P F fuel f args R nx _;unfold rq;split
 ·split
  ·split
   ·rw[ZV hN]
    congr 1
    funext e s
    cases e<;>first|rfl|exact z6 ..
   ·rfl
  ·rfl
 ·rfl
def se{F0:bq}{has:FuncId->Bool}(hN:dX F0)(fuel:Nat):∀m:Nat,dX (tF P F0 has fuel m)
 |0=>hN
 |m+1=>λα W f args R nx k D=>by
  show (match has f with|O=>F0 α f args R nx k|G=>rq P (tF P F0 has fuel m) fuel f args R nx k).bind D=_;show _=(match has f with|O=>F0 W f args R nx _|G=>rq P (tF P F0 has fuel m) fuel f args R nx _);cases has f with
  |true=>exact hN ..
  |false=>exact YC (se hN fuel m) fuel α W f args R nx k D
end
def aer(hF:iN P F)(hN:dX F)(fuel:Nat):iN P (λα=>rq (α:=α) P F fuel):=λα f args R nx k r h hargs hR=>by
 have h:rq P F fuel f args R nx k=V r:=h;unfold rq at h;split at h
 case h_2=>cases h
 rename_i fn hf;split at h
 case h_2=>cases h
 rename_i c hb;split at h
 case h_2=>cases h
 rename_i hc;rw[zi]at hc;obtain⟨hl,hnm⟩:=hc;refine⟨⟨fn,hf,by simpa using hnm,by rw[hb];rfl⟩,λS=>Fn.of hf hb rfl (by rw[zu];exact hl) λC a w ha=> ?_⟩;have hm:Mt ⟨C,S,nx⟩ fn.ntmps ⟨O1 0 args .e,R,nx⟩ a w:=by
  refine⟨fu 0 args,?_,λq hq=>hargs _ (ru hq),hR,S,⟨.refl _ _,zm _⟩,?_⟩
  ·have:=A6 args 0 .e [] (λt d ht=>by cases t<;>cases ht) (λt d ht=>by cases t<;>cases ht)
   rwa [yy]at this
  ·rw[qD];exact ha
 refine wp_mono (ajN hF hN fuel c r _ _ a w h hm) λe a' w' ⟨s',h1,h2⟩=> ?_;cases e with
 |normal=>exact ae2 (.inl rfl) h1 h2
 |ret=>exact ae2 (.inr rfl) h1 h2
 |_=>cases h1
def Ar{F0:bq}{has:FuncId->Bool}(hF:iN P F0)(hN:dX F0)(fuel:Nat):∀m:Nat,iN P (tF P F0 has fuel m)
 |0=>hF
 |m+1=>λα f args R nx k r h hargs hR=>by
  change (match has f with|O=>F0 α f args R nx k|G=>rq P (tF P F0 has fuel m) fuel f args R nx k)=V r at h;split at h
  ·exact hF α f args R nx k r h hargs hR
  ·exact aer (Ar hF hN fuel m) (se hN fuel m) fuel α f args R nx k r h hargs hR
end
end Go.Iv
end
noncomputable section
namespace Go.Iv
variable [U:tf] [L:nu]
open Go Go.RowKit
def scB:Nat->AV->Bool
 |_, .lit _=>O
 |n+1, .agg cs=>cs.all (scB n)
 |n+1, .jf cs=>cs.all (scB n)
 |_,_=>G
def G6:Nat->AV->Bool
 |_, .lit _=>O
 |_, .sl _ _=>O
 |_, .rp _ _=>O
 |n+1, .agg cs=>cs.all (G6 n)
 |n+1, .jf cs=>cs.all (G6 n)
 |_,_=>G
def ku:∀(n:Nat) {d:AV} {S:Gh},G6 n d=O->d.sub S=d
 |n,d,S,h=>by
  have hL:∀{m:Nat} {cs:aa AV},m<n->cs.all (G6 m)=O->cs.map (b9.sub S)=cs:=λ{m cs} hm h=>by
   have:cs.map (b9.sub S)=cs.map id:=zZ λc hc=>ku m (zx.1 h c hc);rw[this,List.map_id]
  cases n with
  |zero=>cases d<;>first|(cases h;done)|simp only[b9.sub]
  |succ n=>
   cases d<;>first|(cases h;done)|(simp only[b9.sub];done)|skip
   ·rw[fq,hL (zC n) h]
   ·rw[lB,hL (zC n) h]
def ae0{R:bt}{S:Gh}{A:Nat->Prop}{w:World}{v:Value}{id:Nat}(hd:Hd A (bt.res S R) w)(hr:Rel A w ((b9.own (dh:=U.dh) id).sub S) v):Rel (λb=>A b\/b∈bC (bt.res S R)) w ((match gJ R id with
  |some (.row t l)=>b9.sl t l
  |_=> .own id).sub S) v:=by
 have base:Rel (λb=>A b\/b∈bC (bt.res S R)) w ((b9.own (dh:=U.dh) id).sub S) v:=hr.mono λb _ hA=>⟨.inl hA,rfl⟩;split
 ·rename_i t l hg;obtain⟨i,hi,_⟩:=eT hg;have hres:=iD (S:=S) hi;have hm:=List.mem_of_getElem? hres;rw[dz]at hr;rw[gO];have hd1:Hd A [.row (S.v id) t l] w:=⟨λr hr=>by
   rw[zo]at hr;rw[hr];exact hd.1 _ hm,λb hb=>hd.2 b (by
    obtain⟨r,h1,h2⟩:=bS.1 hb;rw[zo]at h1;rw[h1]at h2;exact bS.2 ⟨_,hm,h2⟩)⟩
  refine(Vw.row 0 rfl A w v hd1 hr).mono λb _ hA=>⟨hA.imp (λh=>h) λhx=> ?_,rfl⟩;obtain⟨r,h1,h2⟩:=bS.1 hx;rw[zo]at h1;rw[h1]at h2;exact bS.2 ⟨_,hm,h2⟩
 ·exact base
def dw:bq:=λ_ _ _ _ _ _=>I
def are{P:Program}:iN P dw:=λ_ _ _ _ _ _ _ h=>by cases h
def RV{W:Type}(e:AV->af W)(d:AV)(R:bt)(_:Nat):af W:=match R with
 |[]=>e d
 |_=>I
def P0{W:Type}(e:AV->af W)(m:W->AV):Prop:=∀d x,e d=V x->d=m x/\G6 2 d=O
def P0.b:P0 Sf b9.b:=λd x h=>by
 unfold Sf at h;split at h
 ·cases h;exact⟨rfl,rfl⟩
 ·cases h
def P0.i(k:IntKind):P0 (iF k) (b9.n k):=λd x h=>by
 unfold iF at h;split at h
 ·split at h
  ·rename_i hk;subst hk;cases h;exact⟨rfl,rfl⟩
  ·cases h
 ·cases h
def TM{P:Program}{F:bq}(hF:iN P F){f:FuncId}{args:aa AV}{W:Type}{e:AV->af W}{m:W->AV}{x:W}(he:P0 e m)(hc:args.all (G6 2)=O)(hl:∀d∈args,cW 0 d)(h:F W f args [] 0 (RV e)=V x):tO P f/\Fn P f args [] (λa s=>a=m x/\s=[]):=by
 obtain⟨h1,h2⟩:=hF W f args [] 0 (RV e) x h hl (λq hq=>by cases hq);refine⟨h1,?_⟩;have:=h2 ⟨λ_=>undef,λ_=>0⟩;have ea:args.map (b9.sub ⟨λ_=>undef,λ_=>0⟩)=args:=by
  have:args.map (b9.sub ⟨λ_=>undef,λ_=>0⟩)=args.map id:=zZ λc hcm=>ku 2 (zx.1 hc c hcm);rw[this,List.map_id]
 rw[ea]at this;refine Fn.mono this λa s ⟨d,R',nx',q1,_,_,_,S',_,q2,q3⟩=> ?_;unfold RV at q1;split at q1
 ·obtain⟨q4,q5⟩:=he _ _ q1;rw[q2,ku 2 q5,q4];exact⟨rfl,by simpa [bt.res]using q3⟩
 ·cases q1
def uu(d:AV):∀(m:Nat) (T:ET) (k s:Nat),k<2^m-1->cV (tg d m T k) s=if k=s then V d else cV T s
 |0,T,k,s,h=>by simp at h
 |m+1,T,k,s,h=>by
  rw[V9,MR T s];by_cases hk:k=0
  ·rw[bJ hk,oP];by_cases hs:s=0
   ·simp_all
   ·have h0:¬(0=s):=λe=>hs e.symm;simp_all
  ·rw[bN hk];by_cases hk2:(k-1)%2=0
   ·rw[bJ hk2,oP];by_cases hs:s=0
    ·rw[bJ hs,bJ hs,bN aq]
    ·rw[bN hs,bN hs];by_cases hs2:(s-1)%2=0
     ·rw[bJ hs2,bJ hs2,uu d m T.l _ _ aq];by_cases hks:k=s
      ·rw[bJ hks,bJ aq]
      ·rw[bN hks,bN aq]
     ·rw[bN hs2,bN hs2,bN (λe=>hs2 (by rw[<-e];exact hk2))]
   ·rw[bN hk2,oP];by_cases hs:s=0
    ·grind
    ·rw[bN hs,bN hs];by_cases hs2:(s-1)%2=0
     ·rw[bJ hs2,bJ hs2,bN (λe=>hk2 (by rw[e];exact hs2))]
     ·rw[bN hs2,bN hs2,uu d m T.r _ _ aq];by_cases hks:k=s
      ·rw[bJ hks,bJ aq]
      ·rw[bN hks,bN aq]
def BQ{t s:Nat}{d:AV}{T:ET}(h:t<4095):cV (nj t d T) s=if t=s then V d else cV T s:=uu d 12 T t s h
def bz(F:bq)(f:FuncId):Prop:=∀args R nx d R' nx',F (AV×bt×Nat) f args R nx (λd R nx=>V (d,R,nx))=V (d,R',nx')->R'=R
def NW(fs:aa Nat):Op->Bool
 | .move _=>O
 | .assign _=>O
 | .pick c _ _=>match c with
  | .tmp t=>zB t 4095
  |_=>O
 | .binOp _ _ _ _ _=>O
 | .unOp _ _ _=>O
 | .fieldAddr _ _ _=>O
 | .indexAddr _ _ _=>O
 | .index _ _ _=>O
 | .load _ _=>O
 | .nilCheck _=>O
 | .convert _ _ _=>O
 | .extract _ _=>O
 | .call c=>match c.callee with
  | .value (.func f)=>dG f fs&& !L.fz f
  | .builtin .len=>O
  | .builtin .max=>O
  | .builtin .min=>O
  |_=>G
 |_=>G
def G7:af Nat->Bool
 |some t=>zB t 4095
 |none=>O
section
variable {P:Program} {F:bq} {n:Nat} {fs:aa Nat}
def aaT{E:ET}{o:Op}(h:NW fs o=O):jc E o=[]:=by
 cases o<;>first|rfl|(cases h;done)|skip
 case call c=>
  unfold NW at h;unfold jc;grind
def pO{g:(K:AV->af gA)->af gA}{g0:af AV}{e:gA}(hg:g (λd=>V (.val d))=g0.bind λd=>V (.val d))(h:g (dP V)=V e):∃d,e= .val d:=by
 have h:g (λd=>V (.val d))=V e:=h;rw[hg]at h;obtain⟨d,_,h2⟩:=zn.1 h;cases h2;simp
def XG(hN:dX F)(hp:∀f∈fs,bz F f){o:Op}{E:ET}{rd:Nat->af IR}{R:bt}{nx:Nat}{e:gA}(ho:NW fs o=O)(h:pJ o P F (IQ E) rd R nx V=V e):∃d nx',e= .all d R nx'\/e= .val d:=by
 have fin:(∃d,e= .val d)->∃d nx',e=gA.all d R nx'\/e= .val d:=λ⟨d,h⟩=>⟨d,0, .inr h⟩;have fb:∀{x:af AV},x.bind (dP V)=V e->∃d,e= .val d:=λ{x} h=>by
  obtain⟨d,_,h2⟩:=zn.1 h;cases h2;simp
 cases o<;>first|(cases ho;done)|exact fin (fb h)|skip
 case pick c a b=>
  have h:Ao c a b P F (IQ E) rd R nx V=V e:=h;unfold Ao at h;split at h
  ·exact fin (fb h)
  ·exact fin (fb h)
  ·cases h
 case binOp b T x y t=>exact fin (pO (NH (K:=V) (λd=>V (gA.val d))).symm h)
 case unOp b T x=>exact fin (pO (UL (K:=V) (λd=>V (gA.val d))).symm h)
 case fieldAddr T x i=>exact fin (pO (MW (K:=V) (λd=>V (gA.val d))).symm h)
 case indexAddr T x y=>exact fin (pO (Oh (K:=V) (λd=>V (gA.val d))).symm h)
 case index T x y=>exact fin (pO (NL (K:=V) (λd=>V (gA.val d))).symm h)
 case load T x=>exact fin (pO (UG (K:=V) (λd=>V (gA.val d))).symm h)
 case nilCheck x=>exact fin (pO (Ns (K:=V) (λd=>V (gA.val d))).symm h)
 case convert T T' x=>exact fin (pO (Np (K:=V) (λd=>V (gA.val d))).symm h)
 case extract x i=>exact fin (pO (OP (K:=V) (λd=>V (gA.val d))).symm h)
 case call c=>
  have h:Gv c P F (IQ E) rd R nx V=V e:=h;unfold Gv at h;unfold NW at ho;dsimp only at ho;split at ho
  ·rename_i f hf;rw[hf]at h;rw[zi]at ho;obtain⟨xs,_,h2⟩:=zn.1 h;have h3:=hN (AV×bt×Nat) gA f (xs++[]) R nx (λd R nx=>V (d,R,nx)) (λx=>V (.all x.1 x.2.1 x.2.2));have h3':(F (AV×bt×Nat) f (xs++[]) R nx (λd R nx=>V (d,R,nx))).bind (λx=>V (.all x.1 x.2.1 x.2.2))=V e:=h3.trans h2;obtain⟨⟨d,R',nx'⟩,h4,h5⟩:=zn.1 h3';have h6:=hp f (gi.1 ho.1) _ _ _ _ _ _ h4;subst h6;cases h5;exact⟨d,nx', .inl rfl⟩
  ·rename_i hc;rw[hc]at h;unfold FW at h;dsimp only at h;split at h
   ·exact fin (pO (NZ (K:=V) (λd=>V (gA.val d))).symm h)
   ·cases h
  ·rename_i hc;rw[hc]at h;have h:FW .max c.args c.argTypes P (IQ E) rd R nx V=V e:=h;unfold FW at h;dsimp only at h;split at h
   ·exact fin (pO (Dp (K:=V) (λd=>V (gA.val d))).symm h)
   ·cases h
  ·rename_i hc;rw[hc]at h;have h:FW .min c.args c.argTypes P (IQ E) rd R nx V=V e:=h;unfold FW at h;dsimp only at h;split at h
   ·exact fin (pO (Dp (K:=V) (λd=>V (gA.val d))).symm h)
   ·cases h
  ·cases ho
def acj(l:aa Oper)(s s0:St):Prop:=s0.R=s.R/\∀u d,(∀o∈l,o.dst≠V u)->cV s.E u=V d->cV s0.E u=V d
def nP{s:St}{t:Nat}{b:Bool}(ht:t<4095)(h:cV s.E t=V (.lit (.bool b))){u:Nat}{d:AV}(hu:cV s.E u=V d):cV (s.gq t b).E u=V d:=by
 show cV (nj t (.b b) s.E) u=_;rw[BQ ht];split
 ·rename_i e;subst e;rw[h]at hu;exact hu
 ·exact hu
def Ga(hN:dX F)(hp:∀f∈fs,bz F f){ops:Array Oper}(hops:∀o∈ops.toList,G7 o.dst=O):∀(l:aa Oper) {s s0:St},(∀o∈l,NW fs o.op=O/\G7 o.dst=O)->fE P F n ops l s V=V s0->acj l s s0
 |[],s,s0,_,h=>by cases h;exact⟨rfl,λu d _ hu=>hu⟩
 |o::l,s,s0,hl,h=>by
  have ho:=hl o zk;have hl':=λo' h'=>hl o' (zI _ h');change OZ P F n ops o (fE P F n ops l) s V=V s0 at h;unfold OZ at h;split at h
  case h_2=>cases h
  have putG:∀{s2:St} {d:AV} {nx':Nat},fE P F n ops l ⟨uQ o.dst d s2.E,s2.R,nx'⟩ V=V s0->s2.R=s.R->(∀u d,cV s.E u=V d->cV s2.E u=V d)->acj (o::l) s s0:=λ{s2 d nx'} h1 h2 h3=>by
   obtain⟨q1,q2⟩:=Ga hN hp hops l hl' h1;refine⟨q1.trans h2,λu d' hu hd=>q2 u d' (λo' h'=>hu o' (zI _ h')) ?_⟩;show cV (uQ o.dst d s2.E) u=V d';have hne:=hu o zk;have hod:=ho.2;unfold uQ;split
   ·simp_all
   ·rename_i t ht;rw[ht]at hod hne;rw[BQ (by simpa [G7]using hod),bN (λe=>hne (by rw[e]))];simp_all
  have yes:∀s1:St,aCO P F o (fE P F n ops l) V s1=V s0->s1.R=s.R->(∀u d,cV s.E u=V d->cV s1.E u=V d)->acj (o::l) s s0:=λs1 h1 h2 h3=>by
   obtain⟨E1,R1,nx1⟩:=s1;have h1:opF o.op P F o.dst E1 R1 nx1 (fE P F n ops l) V=V s0:=h1;have e1:=Kc P F o ⟨E1,R1,nx1⟩ (fE (α:=St) P F n ops l) V;rw[e1]at h1;have go:∀s2:St,rDo P F o (fE P F n ops l) V s2=V s0->s2.R=s.R->(∀u d,cV s.E u=V d->cV s2.E u=V d)->acj (o::l) s s0:=λs2 g1 g2 g3=>by
    unfold rDo at g1;rw[aaT ho.1]at g1;obtain⟨E2,R2,nx2⟩:=s2;have g4:(pJ o.op P F (IQ E2) (gJ R2) R2 nx2 V).bind (MQ o.dst E2 R2 nx2 (fE P F n ops l) V)=V s0:=(AO _ hN ..).trans g1;obtain⟨e,g5,g6⟩:=zn.1 g4;obtain⟨d,nx',he⟩:=XG hN hp ho.1 g5;rcases he with he|he
    ·subst he;exact putG (s2:=⟨E2,R2,nx2⟩) g6 g2 g3
    ·subst he;exact putG (s2:=⟨E2,R2,nx2⟩) g6 g2 g3
   unfold Cw at h1;split at h1
   ·rename_i t a b hop;have ht:t<4095:=by
     have:=ho.1;rw[hop]at this;simpa [NW]using this
    split at h1
    ·rename_i b hb;split at h1
     ·exact go _ h1 h2 λu d hu=>nP (s:=⟨E1,R1,nx1⟩) ht hb (h3 u d hu)
     ·exact go _ h1 h2 λu d hu=>nP (s:=⟨E1,R1,nx1⟩) ht hb (h3 u d hu)
    ·cases h1
   ·exact go _ h1 h2 h3
  have no:∀s1:St,rNo o.dst (fE P F n ops l) V s1=V s0->s1.R=s.R->(∀u d,cV s.E u=V d->cV s1.E u=V d)->acj (o::l) s s0:=λs1 h1 h2 h3=>by
   have:rNo o.dst (fE P F n ops l) V s1=fE P F n ops l ⟨uQ o.dst (.lit undef) s1.E,s1.R,s1.nx⟩ V:=by
    cases o.dst<;>rfl
   rw[this]at h1;exact putG (s2:=s1) h1 h2 h3
  unfold gate at h;split at h
  ·exact yes s h rfl λ_ _ h=>h
  ·rename_i j want hg;split at h
   ·cases h
   ·rename_i t hj;have ht:t<4095:=by
     obtain⟨o',ho',hd'⟩:=zn.1 hj;have hm:o'∈ops.toList:=Array.mem_toList_iff.2 (Array.mem_of_getElem? ho');have:=hops o' hm;rw[hd']at this;simpa [G7]using this
    split at h
    ·rename_i b hb;split at h
     ·split at h
      ·exact yes _ h rfl λu d hu=>nP ht hb hu
      ·exact no _ h rfl λu d hu=>nP ht hb hu
     ·split at h
      ·exact no _ h rfl λu d hu=>nP ht hb hu
      ·exact yes _ h rfl λu d hu=>nP ht hb hu
    ·exact no _ h rfl λ_ _ h=>h
    ·cases h
def axc(fs:aa Nat)(t:Nat)(E:ET)(ops:aa Oper):Bool:=zB t 4095&&ops.all λo=>NW fs o.op&&G7 o.dst&&match o.dst with
 |some u=>ze u t||match cV E u with
  |none=>O
  |some _=>G
 |none=>O
def rbK(t:Nat)(s:St):af Bool:=match cV s.E t with
 |some (.lit (.bool b))=>V b
 |_=>I
def Sl{α:Type}(P:Program)(F:bq)(n:Nat)(fs:aa Nat)(t:Nat)(ops:Array Oper)(s:St)(k:gI α):af α:=match axc fs t s.E ops.toList with
 |true=>match fE (α:=Bool) P F n ops ops.toList s (rbK t)with
  |some b=>k .normal ⟨nj t (.b b) s.E,s.R,s.nx⟩
  |none=>I
 |false=>I
def Env.tI{T:ET}:∀(E:Env) (u:Nat) (d:AV),Env.get (E.filter λp=>@J (cV T p.1=V p.2) (Classical.propDecidable _)) u=V d->cV T u=V d
 |[],_,_,h=>by cases h
 |(k,v)::E,u,d,h=>by
  by_cases hk:cV T k=V v
  ·rw[yW,bJ (by simp[hk])]at h;by_cases hku:k=u
   ·subst hku;rw[Env.fB]at h;simp_all
   ·rw[Env.dY _ _ hku]at h;exact Env.tI E u d h
  ·rw[yW,bN (by simp[hk])]at h;exact Env.tI E u d h
def Env.qm{T:ET}:∀(E:Env) (u:Nat) (d:AV),cV T u=V d->E.get u=V d->Env.get (E.filter λp=>@J (cV T p.1=V p.2) (Classical.propDecidable _)) u=V d
 |[],_,_,_,h=>by cases h
 |(k,v)::E,u,d,ht,h=>by
  by_cases hku:k=u
  ·subst hku;rw[Env.fB]at h;cases h;rw[yW,bJ (by simp[ht])];exact Env.fB _ _ _
  ·rw[Env.dY _ _ hku]at h;rw[yW];split
   ·rw[Env.dY _ _ hku];exact Env.qm E u d ht h
   ·exact Env.qm E u d ht h
def Zz{α:Type}{C:Cg}(hF:iN P F)(hN:dX F)(hp:∀f∈fs,bz F f)(id t:Nat)(ops:Array Oper):YJ (α:=α) P C n (.region id ops G) (Sl P F n fs t ops):=λr s k a w h hm=>by
 unfold Sl at h;split at h
 case h_2=>cases h
 rename_i hrb;split at h
 case h_2=>cases h
 rename_i b hb;unfold axc at hrb;rw[zi,Nat.blt_eq]at hrb;obtain⟨ht,hall⟩:=hrb;have hall:∀o∈ops.toList,(NW fs o.op=O/\G7 o.dst=O)/\∀u,o.dst=V u->u=t\/cV s.E u=I:=λo ho=>by
  have h1:=zx.1 hall o ho;rw[zi,zi]at h1;refine⟨h1.1,λu hu=> ?_⟩;have h2:=h1.2;rw[hu]at h2;dsimp only at h2;rw[yK]at h2;rcases h2 with h2|h2
  ·simp_all
  ·right;split at h2
   ·assumption
   ·cases h2
 have hnat:=sk hN (P:=P) (n:=n) (ops:=ops) (rbK t) ops.toList s V;have hb':(fE P F n ops ops.toList s V).bind (rbK t)=V b:=hnat.trans hb;obtain⟨s0,h1,h2⟩:=zn.1 hb';obtain⟨q1,q2⟩:=Ga hN hp (λo ho=>(hall o ho).1.2) ops.toList (λo ho=>(hall o ho).1) h1;have hend:Ends P C n (.region id ops G) (λe s'=>match e with
  | .normal=>V s'
  |_=>I) s0 a w:=by
  refine wp_mono (wp_region_lit (Eo hF _ h1 hm)) λe a' w' ⟨he,_,s',h3,h4⟩=> ?_;subst he;exact⟨s',h3,h4⟩
 refine wp_mono hend λe a' w' ⟨s',h3,h4⟩=> ?_;cases e<;>first|(cases h3;done)|skip
 cases h3;refine⟨_,h,?_⟩;have hbt:cV s0.E t=V (.b b):=by
  unfold rbK at h2;split at h2
  ·simp_all
  ·cases h2
 obtain⟨E,hh,hE,hR,S,hag,hsim⟩:=hm;obtain⟨E0,hh0,hE0,hR0,ρ0,hag0,hsim0⟩:=h4
 let E1:Env:=(t, .b b)::E.filter λp=>@J (cV s.E p.1=V p.2) (Classical.propDecidable _)
 have hkey:∀u d,E1.get u=V d->cV s0.E u=V d:=λu d hu=>by
  by_cases htu:t=u
  ·subst htu;rw[Env.fB]at hu;cases hu;exact hbt
  ·rw[Env.dY _ _ htu]at hu;have h5:=Env.tI E u d hu;refine q2 u d (λo ho hd=> ?_) h5;rcases (hall o ho).2 u hd with h6|h6
   ·exact htu h6.symm
   ·simp_all
 refine⟨E1,λu d hu=> ?_,Env.u5 (λp hp=>hE p (z8.1 hp).1) (.lit _),hR,ρ0,⟨hag0.1,hag.2⟩,?_⟩
 ·have hu:cV (nj t (.b b) s.E) u=V d:=hu;rw[BQ ht]at hu;split at hu
  ·rename_i e;rw[<-e,<-zF.inj hu];exact Env.fB _ _ _
  ·rename_i e;rw[Env.dY _ _ e];exact Env.qm E u d hu (hh u d hu)
 ·rw[q1]at hsim0;refine⟨hsim0.defers,hsim0.size,λu av hu=> ?_,hsim0.good⟩;rw[Env.fA]at hu;obtain⟨d,hd,rfl⟩:=zl.1 hu;exact hsim0.slots u _ (by rw[Env.fA,hh0 u d (hkey u d hd)];rfl)
end
inductive An:Type 1
 |no
 |two (l r:An)
 |lp (Q:Type) (rd:St->Option Q) (pat:Q->St) (Is:Q->Option Q) (body:An)
 |jn (Q:Type) (rd:St->Option Q) (pat:Q->St) (l r:An)
 |rb (fs:List Nat) (t:Nat)
def An.l:An->An
 | .two l _=>l
 | .jn _ _ _ l _=>l
 |_=> .no
def An.r:An->An
 | .two _ r=>r
 | .jn _ _ _ _ r=>r
 |_=> .no
abbrev noTwo(a:An):An:= .two .no a
abbrev XT:=An->(α:Type)->St->gI α->af α
def aHY{Q:Type}(b:Bool)(p q:Q):Q:=match b with
 |true=>p
 |false=>q
def kOn{Q:Type}(rd:St->af Q):gI (af Q):=λe s=>match e with
 | .normal=>(rd s).map V
 |_=>V I
def arT{Q:Type}(rd:St->af Q):gI Q:=λe s=>match e with
 | .normal=>rd s
 |_=>I
def abU{Q α:Type}(rd:St->af Q)(pat:Q->St)(c:Operand)(s:St)(x y:(α:Type)->St->gI α->af α)(k:gI α):af α:=match c with
 | .tmp t=>match cV s.E t with
  |some (.lit (.bool b))=>match x Q (s.gq t O) (arT rd)with
   |some p=>match y Q (s.gq t G) (arT rd)with
    |some q=>k .normal (pat (aHY b p q))
    |none=>I
   |none=>I
  |_=>I
 |_=>I
def ayK(P:Program)(F:bq)(n:Nat)(id:Nat)(ops:Array Oper)(draw:Bool):XT:=λan _ s k=>match an with
 | .rb fs t=>match draw with
  |false=>Sl P F n fs t ops s k
  |true=>CN P F n id ops O s k
 |_=>CN P F n id ops draw s k
def ayb(x y:XT):XT:=λan α s k=>x an.l α s (ain (y an.r α) k)
def avB(c:Operand)(x y:XT):XT:=λan α s k=>match an with
 | .jn _ rd pat l r=>abU rd pat c s (x l) (y r) k
 |an=>qL c s (λs=>x an.l α s k) (λs=>y an.r α s k)
def aip(id:Nat)(x:XT):XT:=λan α s k=>x an α s (tP id k)
def ava(fuel:Nat)(x:XT):XT:=λan α s k=>match an with
 | .lp _ rd pat Is b=>match rd s with
  |some p=>match Is p with
   |some q=>x b α (pat q) (Nt k λ_=>I)
   |none=>I
  |none=>I
 |an=>Ff (x an α) k fuel s
def jM(P:Program)(F:bq)(n:Nat)(fuel:Nat)(c:Code):XT:=
 Code.rec (λ_ _ s k=>acR s k) (ayK P F n) (λ_ _=>ayb) (λc _ _=>avB c) (λid _=>aip id) (λ_=>ava fuel) (λ_ _ _ _ _ _ _ _ s k=>G4 s k) (λi _ _ s k=>afa i s k) (λ_ _ _ _ s k=>G4 s k) (λ_ _ _ s k=>G4 s k) (λ_ _ _ s k=>G4 s k) (λ_ _ s k=>apq s k) (λ_ _ _ s k=>G4 s k) c
def sV{Q:Type}(n0 n:Nat)(rd:St->af Q)(pat:Q->St):Prop:=∀(C:Cg) s p a w,C.n=n0->rd s=V p->Mt C n s a w->Mt C n (pat p) a w
def VQ{Q:Type}(x:XT)(rd:St->af Q)(pat:Q->St)(b:An):Nat->Q->Q->Prop
 |0,p,q=>p=q
 |n+1,p,q=>∃p',x b (af Q) (pat p) (kOn rd)=V (V p')/\VQ x rd pat b n p' q
def W9{Q:Type}(x:XT)(rd:St->af Q)(pat:Q->St)(Is:Q->af Q)(b:An):Prop:=
 ∀p q,Is p=V q->∃n,VQ x rd pat b n p q
def O2(P:Program)(F:bq)(n0 n:Nat)(fuel:Nat)(c:Code):An->Prop:=
 Code.rec (λ_=>True) (λ_ _ _ an=>match an with
  | .rb fs _=>∀f∈fs,bz F f
  |_=>True) (λ_ _ x y an=>x an.l/\y an.r) (λ_ _ _ x y an=>(∀Q rd pat l r,an= .jn Q rd pat l r->sV n0 n rd pat)/\x an.l/\y an.r) (λ_ _ x=>x)
  (λc x an=>match an with
   | .lp _ rd pat Is b=>sV n0 n rd pat/\W9 (jM P F n fuel c) rd pat Is b/\x b
   |an=>x an) (λ_ _ _ _ _ _ _=>True) (λ_ _=>True) (λ_ _ _=>True) (λ_ _=>True) (λ_ _=>True) (λ_=>True) (λ_ _=>True) c
section
variable {P:Program} {F:bq} {C:Cg} {n0 n:Nat}
def abv(hF:iN P F)(hN:dX F)(hC:C.n=n0)(fuel:Nat)(c:Code):∀an,O2 P F n0 n fuel c an->∀(α:Type),YJ (α:=α) P C n c (jM P F n fuel c an α):=by
 induction c with
 |skip=>exact λan _ α r s k a w h hm=>wp_skip ⟨s,h,hm⟩
 |region id ops draw=>
  intro an ho α;cases an with
  |rb fs t=>
   cases draw with
   |false=>exact Zz hF hN ho id t ops
   |true=>exact DO hF hN id ops O
  |_=>exact DO hF hN id ops draw
 |seq x y hx hy=>
  intro an ho α r s k a w h hm;obtain⟨h1,h2⟩:O2 P F n0 n fuel x an.l/\O2 P F n0 n fuel y an.r:=ho;refine wp_seq (wp_mono (hx an.l h1 α r s _ a w h hm) λe a' w' ⟨s',g1,g2⟩=> ?_);cases e with
  |normal=>exact hy an.r h2 α r s' k a' w' g1 g2
  |_=>exact⟨s',g1,g2⟩
 |cond c x y hx hy=>
  intro an ho α r s k a w h hm;obtain⟨h0,h1,h2⟩:(∀Q rd pat l r,an= .jn Q rd pat l r->sV n0 n rd pat)/\O2 P F n0 n fuel x an.l/\O2 P F n0 n fuel y an.r:=ho;have plain:qL c s (λs=>jM P F n fuel x an.l α s k) (λs=>jM P F n fuel y an.r α s k)=V r->Ends P C n (.cond c x y) k r a w:=λh=>by
   obtain⟨b,s',he,hm',h'⟩:=Mx h hm;cases b with
   |true=>exact wp_cond_true he (hx an.l h1 α r s' k a w h' hm')
   |false=>exact wp_cond_false he (hy an.r h2 α r s' k a w h' hm')
  cases an with
  |jn Q rd pat l r'=>
   have hrd:=h0 Q rd pat l r' rfl;change abU rd pat c s (jM P F n fuel x l) (jM P F n fuel y r') k=V r at h;unfold abU at h;split at h
   case h_2=>cases h
   rename_i t;split at h
   case h_2=>cases h
   rename_i b hb;split at h
   case h_2=>cases h
   rename_i p hp;split at h
   case h_2=>cases h
   rename_i q hq;have hev:a.eval (.tmp t)= .bool b:=by
    obtain⟨E,hh,_,_,S,_,hs⟩:=hm;refine Xi hs ?_;have g1:=hh t _ hb;show Env.get (E.sub S) t=_;rw[Env.fA,g1,yH,bW]
   have fin:∀(p:Q),k .normal (pat p)=V r->∀e a' w',(∃s',arT rd e s'=V p/\Mt C n s' a' w')->∃s',k e s'=V r/\Mt C n s' a' w':=λp hk e a' w' ⟨s',g1,g2⟩=>by
    cases e with
    |normal=>exact⟨_,hk,hrd C s' p a' w' hC g1 g2⟩
    |_=>cases g1
   cases b with
   |true=>exact wp_cond_true hev (wp_mono (hx l h1 Q p _ _ a w hp (hm.gq hb)) (fin p h))
   |false=>exact wp_cond_false hev (wp_mono (hy r' h2 Q q _ _ a w hq (hm.gq hb)) (fin q h))
  |_=>exact plain h
 |block id x hx=>
  intro an ho α r s k a w h hm;refine wp_block (wp_mono (hx an ho α r s _ a w h hm) λe a' w' ⟨s',h1,h2⟩=> ?_);cases e with
  |exit id'=>
   simp only[tP]at h1;simp only[Exit.inBlock];split
   ·rename_i he;subst he;have hb:ze id' id'=O:=Nat.beq_refl _;simp only[hb]at h1;exact⟨s',h1,h2⟩
   ·rename_i he;have hb:ze id' id=G:=by
     cases hb:ze id' id with
     |false=>rfl
     |true=>exact ep (xw hb) he
    simp only[hb]at h1;exact⟨s',h1,h2⟩
  |_=>exact⟨s',h1,h2⟩
 |loop c hc=>
  intro an ho α r s k a w h hm;cases an with
  |lp Q rd pat Is b=>
   obtain⟨hrd,hadv,hb⟩:sV n0 n rd pat/\W9 (jM P F n fuel c) rd pat Is b/\O2 P F n0 n fuel c b:=ho;change (match rd s with
    |some p=>match Is p with
     |some q=>jM P F n fuel c b α (pat q) (Nt k λ_=>I)
     |none=>I
    |none=>I)=V r at h
   split at h
   case h_2=>cases h
   rename_i p hp;split at h
   case h_2=>cases h
   rename_i q hq;obtain⟨m,hgo⟩:=hadv p q hq;have key:∀(m:Nat) (p:Q),VQ (jM P F n fuel c) rd pat b m p q->∀(a:Act) (w:World),Mt C n (pat p) a w->
     c.wp P (Exit.then (InL P c λe a' w'=>∃s',k e s'=V r/\Mt C n s' a' w') λe a' w'=>∃s',k e s'=V r/\Mt C n s' a' w') a w:=by
    intro m;induction m with
    |zero=>
     intro p hg a w hm;have hg:p=q:=hg;subst hg;refine wp_mono (hc b hb α r _ _ a w h hm) λe a' w' ⟨s',q1,q2⟩=> ?_;cases e with
     |normal=>cases q1
     |_=>exact⟨s',q1,q2⟩
    |succ m ih=>
     intro p hg a w hm;obtain⟨p',g1,g3⟩:=hg;refine wp_mono (hc b hb (af Q) (V p') _ _ a w g1 hm) λe a' w' ⟨s',q1,q2⟩=> ?_;cases e with
     |normal=>
      obtain⟨p'',q3,q4⟩:=zl.1 (show (rd s').map V=V (V p')from q1);cases q4;exact OM (ih p' g3 a' w' (hrd C s' p' a' w' hC q3 q2))
     |_=>cases q1
   exact Ik (key m p hgo a w (hrd C s p a w hC hp hm))
  |_=>exact HH (hc _ ho α) fuel r s k a w h hm
 |exit i=>exact λan _ α r s k a w h hm=>wp_exit ⟨s,h,hm⟩
 |ret=>exact λan _ α r s k a w h hm=>wp_ret ⟨s,h,hm⟩
 |_=>exact λan _ α r s k a w h hm=>by cases h
def bV(P:Program)(F:bq)(fuel:Nat)(an:An){α:Type}(f:FuncId)(args:aa AV)(R:bt)(nx:Nat)(k:St->af α):af α:=match P.funcs[f]? with
 |some fn=>match fn.body with
  |some c=>match yq (zR args) fn.ntmps&& !(fn.name=="runtime.NumGoroutine")with
   |true=>jM P F fn.ntmps fuel c an α ⟨O1 0 args .e,R,nx⟩ λe s=>match e with
    | .normal=>k s
    | .ret=>k s
    |_=>I
   |false=>I
  |none=>I
 |none=>I
def fe(P:Program)(F:bq)(n0:Nat)(fuel:Nat)(f:FuncId)(an:An):Prop:=∀fn c,P.funcs[f]? =V fn->fn.body=V c->O2 P F n0 fn.ntmps fuel c an
def nG(P:Program)(f:FuncId)(s:St):af (aa AV):=match P.funcs[f]? with
 |some fn=>GP P s fn.results.toList
 |none=>I
structure Out where
 d:AV
 R:bt
 c:Nat
def Mo(P:Program)(f:FuncId)(args:aa AV)(R0:bt)(n0:Nat)(x:Out):Prop:=∀S:Gh,Fn P f (args.map (b9.sub S)) (bt.res S R0) (λa s=>∃S':Gh,pU n0 S S'/\a=x.d.sub S'/\List.Perm s (bt.res S' x.R))
def jQ(hF:bA P F){n0 fuel:Nat}{f:FuncId}{an:An}(han:fe P F n0 fuel f an){args:aa AV}{R0:bt}{Q:Type}{rd:St->af Q}{pat:Q->St}{out:Q->Out}{p:Q}
  (hrd:∀n,sV n0 n rd pat) (ho:∀p,(match nG P f (pat p)with
   |some ds=>V (Out.mk (fD ds) (tD (pat p).R n0 (fD ds)) (pat p).nx)
   |none=>I)=V (out p))
  (hargs:∀d∈args,cW n0 d) (hR:bt.cW n0 R0) (h:bV P F fuel an f args R0 n0 rd=V p):tO P f/\Mo P f args R0 n0 (out p):=by
 unfold bV at h;split at h
 case h_2=>cases h
 rename_i fn hf;split at h
 case h_2=>cases h
 rename_i c hb;split at h
 case h_2=>cases h
 rename_i hc;rw[zi]at hc;obtain⟨hl,hnm⟩:=hc;have hop:=ho p;split at hop
 case h_2=>cases hop
 rename_i ds hds;have hds:GP P (pat p) fn.results.toList=V ds:=by
  unfold nG at hds;rw[hf]at hds;exact hds
 have hop:=zF.inj hop;refine⟨⟨fn,hf,by simpa using hnm,by rw[hb];rfl⟩,λS=>Fn.of hf hb rfl (by rw[zu];exact hl) λC a w ha=> ?_⟩;have hm:Mt ⟨C,S,n0⟩ fn.ntmps ⟨O1 0 args .e,R0,n0⟩ a w:=by
  refine⟨fu 0 args,?_,λq hq=>hargs _ (ru hq),hR,S,⟨.refl _ _,zm _⟩,?_⟩
  ·have:=A6 args 0 .e [] (λt d ht=>by cases t<;>cases ht) (λt d ht=>by cases t<;>cases ht)
   rwa [yy]at this
  ·rw[qD];exact ha
 refine wp_mono (abv (C:=⟨C,S,n0⟩) hF.ok hF.nat rfl fuel c an (han fn c hf hb) Q p _ _ a w h hm) λe a' w' ⟨s',h1,h2⟩=> ?_;have fin:∀e:Exit,(e= .normal\/e= .ret)->rd s'=V p->∃E' B',uI C fn.ntmps E' B' a' w'/\alJ P C fn.ntmps fn (λa s=>∃S':Gh,pU n0 S S'/\a=(out p).d.sub S'/\List.Perm s (bt.res S' (out p).R)) e E' B':=λe he hp=>by
  have hm':=hrd fn.ntmps ⟨C,S,n0⟩ s' p a' w' rfl hp h2;obtain⟨E,hh,hE,hR,S',⟨hag,hnx⟩,hsim⟩:=hm';have hsub:List.Sublist (tD (pat p).R n0 (fD ds)) (pat p).R:=Cn _ _ _;refine⟨_,_,hsim,acw (B':=bt.res S' (tD (pat p).R n0 (fD ds))) (av:=(fD ds).sub S') he (hsub.map _) ⟨S',hag,by rw[<-hop],by rw[<-hop]⟩ λA w' tmps hd hs=> ?_⟩;obtain⟨us,q1,q2⟩:=Kl hh hd hs hds;refine⟨_,?_,P4 q2⟩;show (do let vs <-fn.results.mapM (uw tmps);pure (if h:vs.size=1 then vs[0]else .tuple vs):Sem Value).run P w'=_;have e1:fn.results=fn.results.toList.toArray:=by simp
  rw[e1,List.mapM_toArray];simp[q1]
 cases e with
 |normal=>exact fin _ (.inl rfl) h1
 |ret=>exact fin _ (.inr rfl) h1
 |_=>cases h1
end
section
variable {Q:Type} (rnd:Q->af (af Q))
def mI:Nat->Q->Q->Prop
 |0,p,q=>p=q/\∀r,rnd p≠V (V r)
 |n+1,p,q=>∃p',rnd p=V (V p')/\mI n p' q
open Classical in
def bI(p:Q):af Q:=if h:∃q n,mI rnd n p q then V (Classical.choose h)else I
variable {rnd}
def mI.det:∀{n m:Nat} {p q q':Q},mI rnd n p q->mI rnd m p q'->n=m/\q=q'
 |0,0,p,q,q',⟨h1,_⟩,⟨h2,_⟩=>⟨rfl,h1▸h2⟩
 |0,m+1,p,q,q',⟨h1,h3⟩,⟨p',h2,_⟩=>ep h2 (h3 p')
 |n+1,0,p,q,q',⟨p',h2,_⟩,⟨h1,h3⟩=>ep h2 (h3 p')
 |n+1,m+1,p,q,q',⟨p',h1,h2⟩,⟨p'',h3,h4⟩=>by
  rw[h1]at h3;cases h3;obtain⟨e1,e2⟩:=mI.det h2 h4;exact⟨by rw[e1],e2⟩
def mI.Is{n:Nat}{p q:Q}(h:mI rnd n p q):bI rnd p=V q:=by
 have hx:∃q n,mI rnd n p q:=⟨q,n,h⟩;unfold bI;rw[dif_pos hx];obtain⟨m,hm⟩:=Classical.choose_spec hx;rw[(mI.det hm h).2]
def mI.last{n:Nat}{p q:Q}(h:mI rnd n p q):∀r,rnd q≠V (V r):=by
 induction n generalizing p with
 |zero=>obtain⟨h1,h2⟩:=h;rw[<-h1];exact h2
 |succ n ih=>obtain⟨p',_,h2⟩:=h;exact ih h2
def mI.ex(zb:Q->Prop)(m:Q->Nat)(h:∀p q,zb p->rnd p=V (V q)->zb q/\m q<m p):∀(k:Nat) (p:Q),m p<=k->zb p->∃n q,mI rnd n p q/\zb q
 |k,p,hk,hp=>by
  by_cases hq:∃q,rnd p=V (V q)
  ·obtain⟨q,hq⟩:=hq;obtain⟨h1,h2⟩:=h p q hp hq
   match k with
   |0=>omega
   |k+1=>
    obtain⟨n,r,h3,h4⟩:=mI.ex zb m h k q aq h1;exact⟨n+1,r,⟨q,hq,h3⟩,h4⟩
  ·exact⟨0,p,⟨rfl,λr hr=>hq ⟨r,hr⟩⟩,hp⟩
def BC{p q:Q}(h:bI rnd p=V q):∃n,mI rnd n p q:=by
 unfold bI at h;split at h
 ·rename_i hx;cases h;exact Classical.choose_spec hx
 ·cases h
def mq(zb:Q->Prop)(m:Q->Nat)(h:∀p q,zb p->rnd p=V (V q)->zb q/\m q<m p){p:Q}(hp:zb p):∃q,bI rnd p=V q/\zb q/\∀r,rnd q≠V (V r):=by
 obtain⟨n,q,h1,h2⟩:=mI.ex zb m h (m p) p (zm _) hp;exact⟨q,h1.Is,h2,h1.last⟩
def bR{p p':Q}(h:rnd p=V (V p')):bI rnd p=bI rnd p':=by
 cases h2:bI rnd p' with
 |some q=>
  obtain⟨n,hn⟩:=BC h2;exact(show mI rnd (n+1) p q from⟨p',h,hn⟩).Is
 |none=>
  cases h1:bI rnd p with
  |none=>rfl
  |some q=>
   obtain⟨n,hn⟩:=BC h1;cases n with
   |zero=>exact ep h (hn.2 p')
   |succ n=>
    obtain⟨p'',h3,h4⟩:=hn;rw[h]at h3;cases h3;rw[h4.Is]at h2;cases h2
def ct{p:Q}(h:∀r,rnd p≠V (V r)):bI rnd p=V p:=(show mI rnd 0 p p from⟨rfl,h⟩).Is
def mI.x{x:XT}{rd:St->af Q}{pat:Q->St}{b:An}(hx:∀p,x b (af Q) (pat p) (kOn rd)=rnd p):∀{n:Nat} {p q:Q},mI rnd n p q->VQ x rd pat b n p q
 |0,_,_,h=>h.1
 |_+1,_,_,⟨p',h1,h2⟩=>⟨p',by rw[hx];exact h1,mI.x hx h2⟩
def pE{x:XT}{rd:St->af Q}{pat:Q->St}{b:An}(hx:∀p,x b (af Q) (pat p) (kOn rd)=rnd p):W9 x rd pat (bI rnd) b:=λp q h=>by
 obtain⟨n,hn⟩:=BC h;exact⟨n,hn.x hx⟩
end
end Go.Iv
end
noncomputable section
namespace Go.Iv
variable [U:tf] [L:nu]
open Go Go.RowKit
section
variable {W Q δ:Type}
def PN(f:AV->af W)(c:W->AV):Prop:=∀a b,f a=V b->(∀(S:Gh) A w v,Rel A w (a.sub S) v->Rel A w ((c b).sub S) v)/\∀n,cW n a->cW n (c b)
def PN.of{f:AV->af W}{c:W->AV}(h:P1 f c)(hc:∀a b,f a=V b->G6 2 a=O)(hl:∀b,(∀S,(c b).sub S=c b)/\∀n,cW n (c b)):PN f c:=λa b hb=>
 ⟨λS A w v hr=>by rw[ku 2 (hc a b hb)]at hr;rw[(hl b).1];exact h a b hb A w v hr,λn _=>(hl b).2 n⟩
def PN.i(k:IntKind):PN (iF k) (b9.n k):= .of (.i k) (λa b h=>by
 unfold iF at h;split at h
 ·rfl
 ·cases h) λb=>⟨λS=>bW S _,λn=> .lit _⟩
def PN.b:PN Sf b9.b:= .of .b (λa b h=>by
 unfold Sf at h;split at h
 ·rfl
 ·cases h) λb=>⟨λS=>bW S _,λn=> .lit _⟩
def PN.s:PN asS b9.s:= .of .s (λa b h=>by
 unfold asS at h;split at h
 ·rfl
 ·cases h) λb=>⟨λS=>bW S _,λn=> .lit _⟩
def PN.l(t:Nat):PN (kj t) (b9.sl t):= .of (.l t) (λa b h=>by
 unfold kj at h;split at h
 ·rfl
 ·rfl
 ·cases h) λb=>⟨λS=>gO S _ _,λn=> .sl _ _⟩
def anq(t:Nat):AV->af (U.dh t)
 | .agg cs=>match cs.all (G6 1)with
  |true=>L.parse t cs
  |false=>I
 |_=>I
def PN.g(t:Nat):PN (anq t) (λx=> .agg (U.cells t x)):= .of (λa b h A w v hr=>by
 unfold anq at h;split at h
 ·split at h
  ·obtain⟨us,rfl,h2⟩:=hr.oI;exact Rel.pS (L.l9 _ _ _ h A w us h2)
  ·cases h
 ·cases h) (λa b h=>by
 unfold anq at h;split at h
 ·split at h
  ·rename_i hc;exact hc
  ·cases h
 ·cases h) λb=>⟨λS=>by rw[fq,L.clo],λn=> .agg _ (L.sq t b n)⟩
def asP(id off:Nat):AV->af Unit
 | .ptr i o=>match ze i id&&ze o off with
  |true=>V ()
  |false=>I
 |_=>I
def PN.p(id off:Nat):PN (asP id off) (λ_=> .ptr id off):=λa b h=>by
 unfold asP at h;split at h
 ·split at h
  ·rename_i hc;rw[zi]at hc;rw[gU hc.1,gU hc.2];exact⟨λ_ _ _ _ h=>h,λ_ h=>h⟩
  ·cases h
 ·cases h
def asO(id:Nat):AV->af Unit
 | .own i=>match ze i id with
  |true=>V ()
  |false=>I
 |_=>I
def PN.o(id:Nat):PN (asO id) (λ_=> .own id):=λa b h=>by
 unfold asO at h;split at h
 ·split at h
  ·rename_i hc;rw[gU hc];exact⟨λ_ _ _ _ h=>h,λ_ h=>h⟩
  ·cases h
 ·cases h
def P8(q:aa AV->af Q)(c:Q->aa AV):Prop:=∀cs g,q cs=V g->(∀(S:Gh) A w us,bO A w (cs.map (b9.sub S)) us->bO A w ((c g).map (b9.sub S)) us)/\∀n,(∀a∈cs,cW n a)->∀a∈c g,cW n a
def P8.nil:P8 pX (λ_=>[]):=λcs g h=>by
 unfold pX at h;split at h
 ·exact⟨λS A w us hr=>hr,λn h=>h⟩
 ·cases h
def P8.cons{f:AV->af W}{c:W->AV}{q:aa AV->af Q}{d:Q->aa AV}(h:PN f c)(hq:P8 q d):P8 (dU f q) (λx=>c x.1::d x.2):=λcs g hg=>by
 unfold dU at hg;split at hg
 ·obtain⟨b,h1,hg⟩:=zn.1 hg;obtain⟨g',h2,rfl⟩:=zl.1 hg;obtain⟨h3,h4⟩:=h _ _ h1;obtain⟨h5,h6⟩:=hq _ _ h2;refine⟨λS A w us hr=> ?_,λn hn a ha=> ?_⟩
  ·rw[yf]at hr ⊢;obtain⟨v,us',rfl,h7,h8⟩:=hr.head;exact bO.cons (h3 S A w v h7) (h5 S A w us' h8)
  ·rcases zy.1 ha with rfl|ha
   ·exact h4 n (hn _ zk)
   ·exact h6 n (λa ha=>hn a (zI _ ha)) a ha
 ·cases hg
def auM(k:Nat)(q:aa AV->af Q):AV->af Q
 | .fn (.func i) cs=>match ze i k with
  |true=>q cs
  |false=>I
 |_=>I
def PN.ff(k:Nat){q:aa AV->af Q}{c:Q->aa AV}(h:P8 q c):PN (auM k q) (λx=> .fn (.func k) (c x)):=λa b hb=>by
 unfold auM at hb;split at hb
 ·rename_i i cs;split at hb
  ·rename_i hi;have hi:=gU hi;subst hi;obtain⟨h1,h2⟩:=h _ _ hb;refine⟨λS A w v hr=> ?_,λn hn=> .fn _ _ (h2 n hn.fnL)⟩;rw[tZ]at hr ⊢;generalize ha:b9.fn (Fn.func i) (cs.map (b9.sub S))=a at hr;cases hr with
   |fn f cs' us hl hr=>
    cases ha;obtain⟨h3,h4⟩:=h1 S A w us ⟨hl,hr⟩;exact .fn _ _ us h3 h4
   |_=>cases ha
  ·cases hb
 ·cases hb
def asv(q:aa AV->af Q):AV->af Q
 | .fp cs=>q cs
 |_=>I
def PN.fp{q:aa AV->af Q}{c:Q->aa AV}(h:P8 q c):PN (asv q) (λx=> .fp (c x)):=λa b hb=>by
 unfold asv at hb;split at hb
 ·rename_i cs;obtain⟨h1,h2⟩:=h _ _ hb;refine⟨λS A w v hr=> ?_,λn hn=> ?_⟩
  ·rw[mV]at hr ⊢;generalize ha:b9.fp (cs.map (b9.sub S))=a at hr;cases hr with
   |fp cs' b o us hb hA hl hc hr=>
    cases ha;obtain⟨h3,h4⟩:=h1 S A w us ⟨hl,hr⟩;exact .fp _ b o us hb hA h3 hc h4
   |_=>cases ha
  ·generalize ha:b9.fp cs=a at hn;cases hn with
   |fp cs' h5=>cases ha;exact .fp _ (h2 n h5)
   |_=>cases ha
 ·cases hb
def arY:AV->af Unit
 | .lit (.slice I 0 0)=>V ()
 |_=>I
def PN.ns:PN arY (λ_=> .lit (.slice I 0 0)):=λa b hb=>by
 unfold arY at hb;split at hb
 ·exact⟨λ_ _ _ _ h=>h,λ_ h=>h⟩
 ·cases hb
def arh:AV->af Unit
 | .lit (.pointer I)=>V ()
 |_=>I
def PN.np:PN arh (λ_=> .lit (.pointer I)):=λa b hb=>by
 unfold arh at hb;split at hb
 ·exact⟨λ_ _ _ _ h=>h,λ_ h=>h⟩
 ·cases hb
def atj(t:Nat)(cs:aa AV):af (U.dh t):=match cs.all (G6 1)with
 |true=>L.parse t cs
 |false=>I
def P8.parse(t:Nat):P8 (atj t) (λx=>U.cells t x):=λcs g h=>by
 unfold atj at h;split at h
 ·rename_i hc;have e:∀S,cs.map (b9.sub S)=cs:=λS=>by
   have:cs.map (b9.sub S)=cs.map id:=zZ λa ha=>ku 1 (zx.1 hc a ha);rw[this,List.map_id]
  exact⟨λS A w us hr=>by rw[e]at hr;rw[L.clo];exact L.l9 _ _ _ h A w us hr,λn _=>L.sq t g n⟩
 ·cases h
def slN(_:ET):af Unit:=V ()
def slC(t:Nat)(f:AV->af W)(q:ET->af Q)(T:ET):af (W×Q):=match cV T t with
 |some a=>(f a).bind λb=>(q T).map λg=>(b,g)
 |none=>I
def Ql(q:ET->af Q)(d:Q->Env):Prop:=∀T g,q T=V g->∀(E:Env),uB T E->(∀(S:Gh) A w tmps,mh A w (E.sub S) tmps->mh A w ((d g).sub S) tmps)/\∀n,E.cW n->(d g).cW n
def Ql.nil:Ql slN (λ_=>[]):=λT g _ E _=>⟨λS A w tmps _ t av h=>(by cases h),λn _ p hp=>(by cases hp)⟩
def Ql.cons{t:Nat}{f:AV->af W}{c:W->AV}{q:ET->af Q}{d:Q->Env}(hf:PN f c)(hq:Ql q d):Ql (slC t f q) (λx=>(t,c x.1)::d x.2):=λT g h E hh=>by
 unfold slC at h;split at h
 case h_2=>cases h
 rename_i a ha;obtain⟨b,hb,h⟩:=zn.1 h;obtain⟨g',hg,rfl⟩:=zl.1 h;obtain⟨h1,h2⟩:=hf a b hb;obtain⟨h3,h4⟩:=hq T g' hg E hh;refine⟨λS A w tmps hs s av hx=> ?_,λn hn p hp=> ?_⟩
 ·have hx:Env.get ((t,(c b).sub S)::(d g').sub S) s=V av:=hx;by_cases hts:t=s
  ·subst hts;rw[Env.fB]at hx;cases hx;obtain⟨v,q1,q2⟩:=hs t (a.sub S) (by rw[Env.fA,hh t a ha];rfl);exact⟨v,q1,h1 S A w v q2⟩
  ·rw[Env.dY _ _ hts]at hx;exact h3 S A w tmps hs s av hx
 ·rcases zy.1 hp with rfl|hp
  ·exact h2 n (hn _ (Env.get_mem (hh t a ha)))
  ·exact h4 n hn p hp
def ar3(E:Env):ET:=List.rec .e (λp _ T=>nj p.1 p.2 T) E
def Cf:∀E:Env,uB (ar3 E) E
 |[]=>λt d h=>by cases t<;>cases h
 |p::E=>(Cf E).put p.1 p.2
def leR(p p':Nat×IR):Prop:=p.1=p'.1/\(∀(S:Gh) A w,(p.2.res S p.1).ok A w->(p'.2.res S p'.1).ok A w)/\(∀S:Gh,(p.2.res S p.1).blk=(p'.2.res S p'.1).blk)/\∀n,p.2.cW n->p'.2.cW n
inductive Kq:bt->bt->Prop
 |nil:Kq [] []
 |cons {p p':Nat×IR} {R R':bt} (h:leR p p') (hs:Kq R R'):Kq (p::R) (p'::R')
def rsN:bt->af Unit
 |[]=>V ()
 |_=>I
def rsR(id t:Nat)(q:bt->af Q):bt->af (aa (U.dh t)×Q)
 |(i, .row t' l)::R=>match ze i id with
  |true=>(vQ t' t l).bind λl=>(q R).map λg=>(l,g)
  |false=>I
 |_=>I
def FV(q:bt->af Q)(d:Q->bt):Prop:=∀R g,q R=V g->Kq R (d g)
def FV.nil:FV rsN (λ_=>[]):=λR g h=>by
 cases R with
 |nil=>exact .nil
 |cons p R=>cases h
def FV.row{id t:Nat}{q:bt->af Q}{d:Q->bt}(hq:FV q d):FV (rsR id t q) (λx=>(id, .row t x.1)::d x.2):=λR g h=>by
 obtain⟨i,t',l,R',rfl,hcd,h9⟩:∃i t' l R',R=(i,IR.row t' l)::R'/\ze i id=O/\((vQ t' t l).bind λl=>(q R').map λg=>(l,g))=V g:=by
  unfold rsR at h;split at h
  ·split at h
   ·rename_i hcd;exact⟨_,_,_,_,rfl,hcd,h⟩
   ·cases h
  ·cases h
 have e1:=gU hcd;subst e1;obtain⟨l',hl,h9⟩:=zn.1 h9;obtain⟨g',hg,rfl⟩:=zl.1 h9;obtain⟨rfl,rfl⟩:=nZ hl;exact .cons ⟨rfl,λS A w h=>h,λS=>rfl,λn h=>h⟩ (hq _ _ hg)
def avb(id T:Nat)(f:aa AV->af W)(q:bt->af Q):bt->af (W×Q)
 |(i, .box T' cs)::R=>match ze i id&&ze T' T with
  |true=>(f cs).bind λb=>(q R).map λg=>(b,g)
  |false=>I
 |_=>I
def FV.aEB{id T:Nat}{f:aa AV->af W}{c:W->aa AV}{q:bt->af Q}{d:Q->bt}(hf:P8 f c)(hq:FV q d):FV (avb id T f q) (λx=>(id, .box T (c x.1))::d x.2):=λR g h=>by
 obtain⟨i,T',cs,R',rfl,hcd,h9⟩:∃i T' cs R',R=(i,IR.box T' cs)::R'/\(ze i id&&ze T' T)=O/\((f cs).bind λb=>(q R').map λg=>(b,g))=V g:=by
  unfold avb at h;split at h
  ·split at h
   ·rename_i hcd;exact⟨_,_,_,_,rfl,hcd,h⟩
   ·cases h
  ·cases h
 rw[zi]at hcd;have e1:=gU hcd.1;have e2:=gU hcd.2;subst e1 e2;obtain⟨b,hb,h9⟩:=zn.1 h9;obtain⟨g',hg,rfl⟩:=zl.1 h9;obtain⟨k1,k2⟩:=hf _ _ hb;exact .cons ⟨rfl,λS A w ⟨us,h1,h2⟩=>⟨us,h1,k1 S A w us h2⟩,λS=>rfl,λn hn=>k2 n hn⟩ (hq _ _ hg)
def Eg{S:Gh}:∀{R R':bt},Kq R R'->bC (bt.res S R)=bC (bt.res S R')
 |_,_, .nil=>rfl
 |_,_, .cons (p:=p) (p':=p') h hs=>by
  unfold bC bt.res;rw[yf,yf,xD,xD,h.2.2.1 S];have:=Eg (S:=S) hs;unfold bC bt.res at this;rw[this]
def Tj{S:Gh}{A:Nat->Prop}{w:World}:∀{R R':bt},Kq R R'->(∀r∈bt.res S R,r.ok A w)->∀r∈bt.res S R',r.ok A w
 |_,_, .nil,_=>λr hr=>by cases hr
 |_,_, .cons (p:=p) (p':=p') h hs,h0=>λr hr=>by
  rcases zy.1 hr with rfl|hr
  ·exact h.2.1 S A w (h0 _ zk)
  ·exact Tj hs (λr hr=>h0 r (zI _ hr)) r hr
def WZ{n:Nat}:∀{R R':bt},Kq R R'->bt.cW n R->bt.cW n R'
 |_,_, .nil,h=>h
 |_,_, .cons (p:=p) (p':=p') h hs,h0=>λq hq=>by
  rcases zy.1 hq with rfl|hq
  ·exact⟨by rw[<-h.1];exact(h0 _ zk).1,h.2.2.2 n (h0 _ zk).2⟩
  ·exact WZ hs (λq hq=>h0 q (zI _ hq)) q hq
def stR(m:Nat)(q:ET->af Q)(r:bt->af δ)(s:St):af (Q×δ):=match ze s.nx m with
 |true=>(q s.E).bind λg=>(r s.R).map λh=>(g,h)
 |false=>I
def tY(m:Nat)(d:Q->Env)(e:δ->bt)(p:Q×δ):St:=⟨ar3 (d p.1),e p.2,m⟩
def avF{n0 n m:Nat}{q:ET->af Q}{r:bt->af δ}{d:Q->Env}{e:δ->bt}(hq:Ql q d)(hr:FV r e):sV n0 n (stR m q r) (tY m d e):=λC s p a w _ h hm=>by
 unfold stR at h;split at h
 case h_2=>cases h
 rename_i hnx;have hnx:=gU hnx;obtain⟨g,hg,h⟩:=zn.1 h;obtain⟨g',hg',rfl⟩:=zl.1 h;obtain⟨E,hh,hE,hR,S,hag,hsim⟩:=hm;obtain⟨h1,h2⟩:=hq _ _ hg E hh;have h3:=hr _ _ hg';have hb:bC (bt.res S (e g'))=bC (bt.res S s.R):=(Eg h3).symm;have hal:∀b,al C.C (bt.res S s.R) b->al C.C (bt.res S (e g')) b:=λb hA=>⟨hA.1,by rw[hb];exact hA.2⟩;subst hnx;have hdis:(bC (bt.res S (e g'))).Nodup:=by rw[hb];exact hsim.good.Il
 refine⟨d g,Cf _,h2 _ hE,WZ h3 hR,S,hag,hsim.defers.step (λb _ hA=>⟨hal b hA,rfl⟩),hsim.size,λt av ht=> ?_,hsim.good.kept,λx hx=> ?_,hdis,λb hx=>hsim.good.own b (by rw[<-hb];exact hx)⟩
 ·obtain⟨v,q1,q2⟩:=h1 S _ w a.tmps hsim.slots t av ht;exact⟨v,q1,q2.mono λb _ hA=>⟨hal b hA,rfl⟩⟩
 ·exact(Tj h3 hsim.good.res x hx).mono (λb _ hA=>⟨hal b hA,rfl⟩) (λ_ _=>rfl)
end
def rdM{Q γ':Type}(e:Q->γ')(rd:St->af Q)(s:St):af γ':=match rd s with
 |some p=>V (e p)
 |none=>I
def sV.m{Q γ':Type}{n0 n:Nat}{rd:St->af Q}{pat:Q->St}(h:sV n0 n rd pat)(e:Q->γ'){pat':γ'->St}(he:∀p,pat' (e p)=pat p):sV n0 n (rdM e rd) pat':=λC s p a w hC hr hm=>by
 unfold rdM at hr;split at hr
 ·rename_i p' hp;cases hr;rw[he];exact h C s p' a w hC hp hm
 ·cases hr
def Y0(c:Code):An->aa (Code×An):=
 Code.rec (λ_=>[]) (λ_ _ _ an=>match an with
   | .rb fs t=>[(.skip, .rb fs t)]
   |_=>[]) (λ_ _ x y an=>x an.l++y an.r) (λ_ _ _ x y an=>(match an with
   | .jn Q rd pat l r=>[(.skip, .jn Q rd pat l r)]
   |_=>[])++(x an.l++y an.r)) (λ_ _ x=>x)
  (λc x an=>match an with
   | .lp Q rd pat Is b=>(c, .lp Q rd pat Is b)::x b
   |an=>x an) (λ_ _ _ _ _ _ _=>[]) (λ_ _=>[]) (λ_ _ _=>[]) (λ_ _=>[]) (λ_ _=>[]) (λ_=>[]) (λ_ _=>[]) c
def ES(P:Program)(F:bq)(n0 n:Nat)(fuel:Nat)(p:Code×An):Prop:=match p.2 with
 | .lp _ rd pat Is b=>sV n0 n rd pat/\W9 (jM P F n fuel p.1) rd pat Is b
 | .jn _ rd pat _ _=>sV n0 n rd pat
 | .rb fs _=>∀f∈fs,bz F f
 |_=>True
def akQ{P:Program}{F:bq}{n0 n fuel:Nat}(c:Code):∀an,(∀p∈Y0 c an,ES P F n0 n fuel p)->O2 P F n0 n fuel c an:=by
 induction c with
 |region id ops draw=>
  intro an h;cases an with
  |rb fs t=>exact h (.skip, .rb fs t) (zo.2 rfl)
  |_=>exact trivial
 |seq x y hx hy=>
  intro an h;exact⟨hx an.l λp hp=>h p (yI _ hp),hy an.r λp hp=>h p (yJ _ hp)⟩
 |cond c x y hx hy=>
  intro an h;refine⟨λQ rd pat l r he=> ?_,hx an.l λp hp=>h p (yJ _ (yI _ hp)),hy an.r λp hp=>h p (yJ _ (yJ _ hp))⟩;subst he;exact h (.skip, .jn Q rd pat l r) (yI _ (zo.2 rfl))
 |block id x hx=>exact λan h=>hx an h
 |loop c hc=>
  intro an h;cases an with
  |lp Q rd pat Is b=>
   have h0:=h (c, .lp Q rd pat Is b) zk;exact⟨h0.1,h0.2,hc b λp hp=>h p (zI _ hp)⟩
  |no=>exact hc _ h
  |two l r=>exact hc _ h
  |jn Q rd pat l r=>exact hc _ h
  |rb fs t=>exact hc _ h
 |_=>exact λan h=>trivial
def b6{P:Program}{F:bq}{n0 fuel f:Nat}{fn:Func}{c:Code}{an:An}{l:aa (Code×An)}(hf:P.funcs[f]? =V fn)(hb:fn.body=V c)(ho:Y0 c an=l)(h:∀p∈l,ES P F n0 fn.ntmps fuel p):fe P F n0 fuel f an:=λfn' c' h1 h2=>by
 rw[hf]at h1;cases h1;rw[hb]at h2;cases h2;exact akQ c an (by rw[ho];exact h)
def uH(fn:Func):Code:=match fn.body with
 |some c=>c
 |none=> .skip
def bM{fn:Func}(h:fn.body.isNone=G):fn.body=V (uH fn):=by
 unfold uH;cases hb:fn.body with
 |none=>rw[hb]at h;cases h
 |some c=>rfl
def agv(c:Code):aa Code:=Code.rec [] (λ_ _ _=>[]) (λ_ _ x y=>x++y) (λ_ _ _ x y=>x++y) (λ_ _ x=>x) (λc x=>c::x) (λ_ _ _ _ _ _=>[]) (λ_=>[]) (λ_ _=>[]) (λ_=>[]) (λ_=>[]) [] (λ_=>[]) c
def aZ(fn:Func)(i:Nat):Code:=(agv (uH fn)).getD i .skip
end Go.Iv
end
noncomputable section
set_option maxRecDepth 100000
namespace Go.Proofs.YtnfljbehcffmcaaGreat
open Go Go.Iv
open Go.IntKind (i64 u64)
structure az where
 (bD fN:Int)
 ax:List az
instance:Inhabited az:=⟨⟨0,0,[]⟩⟩
structure aC where
 (cg bh dM fN:Int)
 aG:az
 (aQ aX:List aC)
 aR:List Int
instance:Inhabited aC:=⟨⟨0,0,0,0,⟨0,0,[]⟩,[],[],[]⟩⟩
structure bg where
 fName:ByteArray
 (bB ah ag eH:Int)
 deriving Inhabited,DecidableEq
structure dF where
 fName:ByteArray
 (ah ag:Int)
 aG:az
 deriving Inhabited
structure aS where
 ai:List bg
 au:List dF
 bK:List aC
 deriving Inhabited
structure bT where
 bf:List Int
 fm:Bool
 deriving Inhabited,DecidableEq
structure aL where
 (ah ag ak:Int)
 deriving Inhabited,DecidableEq
structure bL where
 aD:aL
 aF:List aL
 aI:aL
 IM:List aL
 deriving Inhabited,DecidableEq
structure aB where
 aK:List Int
 aI:Int
 deriving Inhabited,DecidableEq
structure nr where
 (LN bf Mj:List Int)
 deriving Inhabited,DecidableEq
structure oM where
 (K3 aK:List Int)
 aI:Int
 deriving Inhabited,DecidableEq
structure Cell where
 (b8 iU:Int)
 (ax cG:List Int)
 cO:Int
 deriving Inhabited,DecidableEq
structure aY where
 cG:List aB
 aP:List Cell
 deriving Inhabited,DecidableEq
structure Part where
 (b8 iU:Int)
 ax:List Int
 bP:List aL
 deriving Inhabited,DecidableEq
structure ay where
 ai:List aL
 aD:aL
 aF:List aL
 aI:aL
 deriving Inhabited,DecidableEq
structure Runner where
 fF:aS
 au:List aL
 deriving Inhabited
structure aJ where
 ai:List aL
 aD:aL
 aF:List aL
 aI:aL
 deriving Inhabited,DecidableEq
structure dI where
 bP:List aL
 (b8 iU:Int)
 ax:List Int
 cO:Int
 dW:Bool
 cG:aB
 deriving Inhabited,DecidableEq
structure Tree where
 fF:aS
 fV:bT
 aP:List dI
 deriving Inhabited
structure bk where
 bH:Int
 fQ:Bool
 deriving Inhabited,DecidableEq
structure qe where
 (gy aK aI:Int)
 deriving Inhabited,DecidableEq
structure Machine where
 fF:aS
 (K3 au aK:List Int)
 aI:Int
 deriving Inhabited
structure Span where
 (ah ag:Int)
 deriving Inhabited,DecidableEq
inductive Ky
 |k3
 |k4
 |k5
 |k24
 |k26
 |k27
 |k29
 |k30
 |k34
 |k36
 |k37
 |k47
 |k52
 |k56
 |k84
 |k90
 |k117
 |k128
 |k129
 |k131
 |k133
 |k137
 |k139
 |k147
 |k166
 |k172
 |k174
 |k256
 |k260
 |k313
 |k331
 |no
def ky:Nat->Ky
 |3=> .k3
 |4=> .k4
 |5=> .k5
 |24=> .k24
 |26=> .k26
 |27=> .k27
 |29=> .k29
 |30=> .k30
 |34=> .k34
 |36=> .k36
 |37=> .k37
 |47=> .k47
 |52=> .k52
 |56=> .k56
 |84=> .k84
 |90=> .k90
 |117=> .k117
 |128=> .k128
 |129=> .k129
 |131=> .k131
 |133=> .k133
 |137=> .k137
 |139=> .k139
 |147=> .k147
 |166=> .k166
 |172=> .k172
 |174=> .k174
 |256=> .k256
 |260=> .k260
 |313=> .k313
 |331=> .k331
 |_=> .no
def GC:Ky->Type
 | .k3=>Int
 | .k4=>Bool
 | .k5=>Int
 | .k24=>aa aC
 | .k26=>aS
 | .k27=>aa Int
 | .k29=>bT
 | .k30=>aa aL
 | .k34=>aL
 | .k36=>bL
 | .k37=>Int
 | .k47=>aB
 | .k52=>nr
 | .k56=>oM
 | .k84=>aY
 | .k90=>Part
 | .k117=>Cell
 | .k128=>ay
 | .k129=>Int
 | .k131=>bg
 | .k133=>Runner
 | .k137=>az
 | .k139=>dF
 | .k147=>aJ
 | .k166=>aC
 | .k172=>Tree
 | .k174=>dI
 | .k256=>bk
 | .k260=>qe
 | .k313=>Machine
 | .k331=>Span
 | .no=>Unit
abbrev cE(t:Nat):Type:=GC (ky t)
@[reducible] def inhK:(k:Ky)->Inhabited (GC k)
 | .k3=>⟨(default:Int)⟩
 | .k4=>⟨(default:Bool)⟩
 | .k5=>⟨(default:Int)⟩
 | .k24=>⟨(default:aa aC)⟩
 | .k26=>⟨(default:aS)⟩
 | .k27=>⟨(default:aa Int)⟩
 | .k29=>⟨(default:bT)⟩
 | .k30=>⟨(default:aa aL)⟩
 | .k34=>⟨(default:aL)⟩
 | .k36=>⟨(default:bL)⟩
 | .k37=>⟨(default:Int)⟩
 | .k47=>⟨(default:aB)⟩
 | .k52=>⟨(default:nr)⟩
 | .k56=>⟨(default:oM)⟩
 | .k84=>⟨(default:aY)⟩
 | .k90=>⟨(default:Part)⟩
 | .k117=>⟨(default:Cell)⟩
 | .k128=>⟨(default:ay)⟩
 | .k129=>⟨(default:Int)⟩
 | .k131=>⟨(default:bg)⟩
 | .k133=>⟨(default:Runner)⟩
 | .k137=>⟨(default:az)⟩
 | .k139=>⟨(default:dF)⟩
 | .k147=>⟨(default:aJ)⟩
 | .k166=>⟨(default:aC)⟩
 | .k172=>⟨(default:Tree)⟩
 | .k174=>⟨(default:dI)⟩
 | .k256=>⟨(default:bk)⟩
 | .k260=>⟨(default:qe)⟩
 | .k313=>⟨(default:Machine)⟩
 | .k331=>⟨(default:Span)⟩
 | .no=>⟨()⟩
def szK:Ky->Nat
 | .k3=>1
 | .k4=>1
 | .k5=>1
 | .k24=>1
 | .k26=>3
 | .k27=>1
 | .k29=>2
 | .k30=>1
 | .k34=>3
 | .k36=>8
 | .k37=>1
 | .k47=>2
 | .k52=>3
 | .k56=>3
 | .k84=>2
 | .k90=>4
 | .k117=>5
 | .k128=>8
 | .k129=>1
 | .k131=>5
 | .k133=>4
 | .k137=>3
 | .k139=>6
 | .k147=>8
 | .k166=>10
 | .k172=>6
 | .k174=>8
 | .k256=>2
 | .k260=>3
 | .k313=>7
 | .k331=>2
 | .no=>0
def ox:(k:Ky)->GC k->aa (b9 cE)
 | .k3,x=>(λx:Int=>[.n .i64 x]) x
 | .k4,x=>(λx:Bool=>[.b x]) x
 | .k5,x=>(λx:Int=>[.n .u8 x]) x
 | .k24,x=>(λx:aa aC=>[.sl 166 x]) x
 | .k26,x=>(λx:aS=>[.sl 131 x.ai, .sl 139 x.au, .sl 166 x.bK]) x
 | .k27,x=>(λx:aa Int=>[.sl 3 x]) x
 | .k29,x=>(λx:bT=>[.sl 3 x.bf, .b x.fm]) x
 | .k30,x=>(λx:aa aL=>[.sl 34 x]) x
 | .k34,x=>(λx:aL=>[.n .i64 x.ah, .n .i64 x.ag, .n .i64 x.ak]) x
 | .k36,x=>(λx:bL=>[.n .i64 x.aD.ah, .n .i64 x.aD.ag, .n .i64 x.aD.ak, .sl 34 x.aF, .n .i64 x.aI.ah, .n .i64 x.aI.ag, .n .i64 x.aI.ak, .sl 34 x.IM]) x
 | .k37,x=>(λx:Int=>[.n .i64 x]) x
 | .k47,x=>(λx:aB=>[.sl 3 x.aK, .n .i64 x.aI]) x
 | .k52,x=>(λx:nr=>[.sl 3 x.LN, .sl 3 x.bf, .sl 3 x.Mj]) x
 | .k56,x=>(λx:oM=>[.sl 3 x.K3, .sl 3 x.aK, .n .i64 x.aI]) x
 | .k84,x=>(λx:aY=>[.sl 47 x.cG, .sl 117 x.aP]) x
 | .k90,x=>(λx:Part=>[.n .i64 x.b8, .n .i64 x.iU, .sl 3 x.ax, .sl 34 x.bP]) x
 | .k117,x=>(λx:Cell=>[.n .i64 x.b8, .n .i64 x.iU, .sl 3 x.ax, .sl 3 x.cG, .n .i64 x.cO]) x
 | .k128,x=>(λx:ay=>[.sl 34 x.ai, .n .i64 x.aD.ah, .n .i64 x.aD.ag, .n .i64 x.aD.ak, .sl 34 x.aF, .n .i64 x.aI.ah, .n .i64 x.aI.ag, .n .i64 x.aI.ak]) x
 | .k129,x=>(λx:Int=>[.n .i64 x]) x
 | .k131,x=>(λx:bg=>[.s x.fName, .n .i64 x.bB, .n .i64 x.ah, .n .i64 x.ag, .n .i64 x.eH]) x
 | .k133,x=>(λx:Runner=>[.sl 131 x.fF.ai, .sl 139 x.fF.au, .sl 166 x.fF.bK, .sl 34 x.au]) x
 | .k137,x=>(λx:az=>[.n .i64 x.bD, .n .i64 x.fN, .sl 137 x.ax]) x
 | .k139,x=>(λx:dF=>[.s x.fName, .n .i64 x.ah, .n .i64 x.ag, .n .i64 x.aG.bD, .n .i64 x.aG.fN, .sl 137 x.aG.ax]) x
 | .k147,x=>(λx:aJ=>[.sl 34 x.ai, .n .i64 x.aD.ah, .n .i64 x.aD.ag, .n .i64 x.aD.ak, .sl 34 x.aF, .n .i64 x.aI.ah, .n .i64 x.aI.ag, .n .i64 x.aI.ak]) x
 | .k166,x=>(λx:aC=>[.n .i64 x.cg, .n .i64 x.bh, .n .i64 x.dM, .n .i64 x.fN, .n .i64 x.aG.bD, .n .i64 x.aG.fN, .sl 137 x.aG.ax, .sl 166 x.aQ, .sl 166 x.aX, .sl 3 x.aR]) x
 | .k172,x=>(λx:Tree=>[.sl 131 x.fF.ai, .sl 139 x.fF.au, .sl 166 x.fF.bK, .sl 3 x.fV.bf, .b x.fV.fm, .sl 174 x.aP]) x
 | .k174,x=>(λx:dI=>[.sl 34 x.bP, .n .i64 x.b8, .n .i64 x.iU, .sl 3 x.ax, .n .i64 x.cO, .b x.dW, .sl 3 x.cG.aK, .n .i64 x.cG.aI]) x
 | .k256,x=>(λx:bk=>[.n .i64 x.bH, .b x.fQ]) x
 | .k260,x=>(λx:qe=>[.n .i64 x.gy, .n .i64 x.aK, .n .i64 x.aI]) x
 | .k313,x=>(λx:Machine=>[.sl 131 x.fF.ai, .sl 139 x.fF.au, .sl 166 x.fF.bK, .sl 3 x.K3, .sl 3 x.au, .sl 3 x.aK, .n .i64 x.aI]) x
 | .k331,x=>(λx:Span=>[.n .i64 x.ah, .n .i64 x.ag]) x
 | .no,_=>[]
instance uni:tf:=⟨cE,λt=>inhK (ky t),λt=>szK (ky t),λt=>ox (ky t)⟩
def ab4:(k:Ky)->aa AV->af (GC k)
 | .k3=>λcs=>((dU (iF .i64) pX) cs).map (λg:Int×Unit=>(g.1:Int))
 | .k4=>λcs=>((dU Sf pX) cs).map (λg:Bool×Unit=>(g.1:Bool))
 | .k5=>λcs=>((dU (iF .u8) pX) cs).map (λg:Int×Unit=>(g.1:Int))
 | .k24=>λcs=>((dU (kj 166) pX) cs).map (λg:(aa (cE 166))×Unit=>(g.1:aa aC))
 | .k26=>λcs=>((dU (kj 131) (dU (kj 139) (dU (kj 166) pX))) cs).map (λg:(aa (cE 131))×(aa (cE 139))×(aa (cE 166))×Unit=>((aS.mk g.1 g.2.1 g.2.2.1):aS))
 | .k27=>λcs=>((dU (kj 3) pX) cs).map (λg:(aa (cE 3))×Unit=>(g.1:aa Int))
 | .k29=>λcs=>((dU (kj 3) (dU Sf pX)) cs).map (λg:(aa (cE 3))×Bool×Unit=>((bT.mk g.1 g.2.1):bT))
 | .k30=>λcs=>((dU (kj 34) pX) cs).map (λg:(aa (cE 34))×Unit=>(g.1:aa aL))
 | .k34=>λcs=>((dU (iF .i64) (dU (iF .i64) (dU (iF .i64) pX))) cs).map (λg:Int×Int×Int×Unit=>((aL.mk g.1 g.2.1 g.2.2.1):aL))
 | .k36=>λcs=>((dU (iF .i64) (dU (iF .i64) (dU (iF .i64) (dU (kj 34) (dU (iF .i64) (dU (iF .i64) (dU (iF .i64) (dU (kj 34) pX)))))))) cs).map (λg:Int×Int×Int×(aa (cE 34))×Int×Int×Int×(aa (cE 34))×Unit=>((bL.mk (aL.mk g.1 g.2.1 g.2.2.1) g.2.2.2.1 (aL.mk g.2.2.2.2.1 g.2.2.2.2.2.1 g.2.2.2.2.2.2.1) g.2.2.2.2.2.2.2.1):bL))
 | .k37=>λcs=>((dU (iF .i64) pX) cs).map (λg:Int×Unit=>(g.1:Int))
 | .k47=>λcs=>((dU (kj 3) (dU (iF .i64) pX)) cs).map (λg:(aa (cE 3))×Int×Unit=>((aB.mk g.1 g.2.1):aB))
 | .k52=>λcs=>((dU (kj 3) (dU (kj 3) (dU (kj 3) pX))) cs).map (λg:(aa (cE 3))×(aa (cE 3))×(aa (cE 3))×Unit=>((nr.mk g.1 g.2.1 g.2.2.1):nr))
 | .k56=>λcs=>((dU (kj 3) (dU (kj 3) (dU (iF .i64) pX))) cs).map (λg:(aa (cE 3))×(aa (cE 3))×Int×Unit=>((oM.mk g.1 g.2.1 g.2.2.1):oM))
 | .k84=>λcs=>((dU (kj 47) (dU (kj 117) pX)) cs).map (λg:(aa (cE 47))×(aa (cE 117))×Unit=>((aY.mk g.1 g.2.1):aY))
 | .k90=>λcs=>((dU (iF .i64) (dU (iF .i64) (dU (kj 3) (dU (kj 34) pX)))) cs).map (λg:Int×Int×(aa (cE 3))×(aa (cE 34))×Unit=>((Part.mk g.1 g.2.1 g.2.2.1 g.2.2.2.1):Part))
 | .k117=>λcs=>((dU (iF .i64) (dU (iF .i64) (dU (kj 3) (dU (kj 3) (dU (iF .i64) pX))))) cs).map (λg:Int×Int×(aa (cE 3))×(aa (cE 3))×Int×Unit=>((Cell.mk g.1 g.2.1 g.2.2.1 g.2.2.2.1 g.2.2.2.2.1):Cell))
 | .k128=>λcs=>((dU (kj 34) (dU (iF .i64) (dU (iF .i64) (dU (iF .i64) (dU (kj 34) (dU (iF .i64) (dU (iF .i64) (dU (iF .i64) pX)))))))) cs).map (λg:(aa (cE 34))×Int×Int×Int×(aa (cE 34))×Int×Int×Int×Unit=>((ay.mk g.1 (aL.mk g.2.1 g.2.2.1 g.2.2.2.1) g.2.2.2.2.1 (aL.mk g.2.2.2.2.2.1 g.2.2.2.2.2.2.1 g.2.2.2.2.2.2.2.1)):ay))
 | .k129=>λcs=>((dU (iF .i64) pX) cs).map (λg:Int×Unit=>(g.1:Int))
 | .k131=>λcs=>((dU asS (dU (iF .i64) (dU (iF .i64) (dU (iF .i64) (dU (iF .i64) pX))))) cs).map (λg:ByteArray×Int×Int×Int×Int×Unit=>((bg.mk g.1 g.2.1 g.2.2.1 g.2.2.2.1 g.2.2.2.2.1):bg))
 | .k133=>λcs=>((dU (kj 131) (dU (kj 139) (dU (kj 166) (dU (kj 34) pX)))) cs).map (λg:(aa (cE 131))×(aa (cE 139))×(aa (cE 166))×(aa (cE 34))×Unit=>((Runner.mk (aS.mk g.1 g.2.1 g.2.2.1) g.2.2.2.1):Runner))
 | .k137=>λcs=>((dU (iF .i64) (dU (iF .i64) (dU (kj 137) pX))) cs).map (λg:Int×Int×(aa (cE 137))×Unit=>((az.mk g.1 g.2.1 g.2.2.1):az))
 | .k139=>λcs=>((dU asS (dU (iF .i64) (dU (iF .i64) (dU (iF .i64) (dU (iF .i64) (dU (kj 137) pX)))))) cs).map (λg:ByteArray×Int×Int×Int×Int×(aa (cE 137))×Unit=>((dF.mk g.1 g.2.1 g.2.2.1 (az.mk g.2.2.2.1 g.2.2.2.2.1 g.2.2.2.2.2.1)):dF))
 | .k147=>λcs=>((dU (kj 34) (dU (iF .i64) (dU (iF .i64) (dU (iF .i64) (dU (kj 34) (dU (iF .i64) (dU (iF .i64) (dU (iF .i64) pX)))))))) cs).map (λg:(aa (cE 34))×Int×Int×Int×(aa (cE 34))×Int×Int×Int×Unit=>((aJ.mk g.1 (aL.mk g.2.1 g.2.2.1 g.2.2.2.1) g.2.2.2.2.1 (aL.mk g.2.2.2.2.2.1 g.2.2.2.2.2.2.1 g.2.2.2.2.2.2.2.1)):aJ))
 | .k166=>λcs=>((dU (iF .i64) (dU (iF .i64) (dU (iF .i64) (dU (iF .i64) (dU (iF .i64) (dU (iF .i64) (dU (kj 137) (dU (kj 166) (dU (kj 166) (dU (kj 3) pX)))))))))) cs).map (λg:Int×Int×Int×Int×Int×Int×(aa (cE 137))×(aa (cE 166))×(aa (cE 166))×(aa (cE 3))×Unit=>((aC.mk g.1 g.2.1 g.2.2.1 g.2.2.2.1 (az.mk g.2.2.2.2.1 g.2.2.2.2.2.1 g.2.2.2.2.2.2.1) g.2.2.2.2.2.2.2.1 g.2.2.2.2.2.2.2.2.1 g.2.2.2.2.2.2.2.2.2.1):aC))
 | .k172=>λcs=>((dU (kj 131) (dU (kj 139) (dU (kj 166) (dU (kj 3) (dU Sf (dU (kj 174) pX)))))) cs).map (λg:(aa (cE 131))×(aa (cE 139))×(aa (cE 166))×(aa (cE 3))×Bool×(aa (cE 174))×Unit=>((Tree.mk (aS.mk g.1 g.2.1 g.2.2.1) (bT.mk g.2.2.2.1 g.2.2.2.2.1) g.2.2.2.2.2.1):Tree))
 | .k174=>λcs=>((dU (kj 34) (dU (iF .i64) (dU (iF .i64) (dU (kj 3) (dU (iF .i64) (dU Sf (dU (kj 3) (dU (iF .i64) pX)))))))) cs).map (λg:(aa (cE 34))×Int×Int×(aa (cE 3))×Int×Bool×(aa (cE 3))×Int×Unit=>((dI.mk g.1 g.2.1 g.2.2.1 g.2.2.2.1 g.2.2.2.2.1 g.2.2.2.2.2.1 (aB.mk g.2.2.2.2.2.2.1 g.2.2.2.2.2.2.2.1)):dI))
 | .k256=>λcs=>((dU (iF .i64) (dU Sf pX)) cs).map (λg:Int×Bool×Unit=>((bk.mk g.1 g.2.1):bk))
 | .k260=>λcs=>((dU (iF .i64) (dU (iF .i64) (dU (iF .i64) pX))) cs).map (λg:Int×Int×Int×Unit=>((qe.mk g.1 g.2.1 g.2.2.1):qe))
 | .k313=>λcs=>((dU (kj 131) (dU (kj 139) (dU (kj 166) (dU (kj 3) (dU (kj 3) (dU (kj 3) (dU (iF .i64) pX))))))) cs).map (λg:(aa (cE 131))×(aa (cE 139))×(aa (cE 166))×(aa (cE 3))×(aa (cE 3))×(aa (cE 3))×Int×Unit=>((Machine.mk (aS.mk g.1 g.2.1 g.2.2.1) g.2.2.2.1 g.2.2.2.2.1 g.2.2.2.2.2.1 g.2.2.2.2.2.2.1):Machine))
 | .k331=>λcs=>((dU (iF .i64) (dU (iF .i64) pX)) cs).map (λg:Int×Int×Unit=>((Span.mk g.1 g.2.1):Span))
 | .no=>λ_=>I
def YM:(k:Ky)->Pk (ab4 k) (ox k)
 | .k3=>Pk.map (λg:Int×Unit=>(g.1:Int)) (.cons (.i .i64) .nil) (λ_=>rfl)
 | .k4=>Pk.map (λg:Bool×Unit=>(g.1:Bool)) (.cons .b .nil) (λ_=>rfl)
 | .k5=>Pk.map (λg:Int×Unit=>(g.1:Int)) (.cons (.i .u8) .nil) (λ_=>rfl)
 | .k24=>Pk.map (λg:(aa (cE 166))×Unit=>(g.1:aa aC)) (.cons (.l 166) .nil) (λ_=>rfl)
 | .k26=>Pk.map (λg:(aa (cE 131))×(aa (cE 139))×(aa (cE 166))×Unit=>((aS.mk g.1 g.2.1 g.2.2.1):aS)) (.cons (.l 131) (.cons (.l 139) (.cons (.l 166) .nil))) (λ_=>rfl)
 | .k27=>Pk.map (λg:(aa (cE 3))×Unit=>(g.1:aa Int)) (.cons (.l 3) .nil) (λ_=>rfl)
 | .k29=>Pk.map (λg:(aa (cE 3))×Bool×Unit=>((bT.mk g.1 g.2.1):bT)) (.cons (.l 3) (.cons .b .nil)) (λ_=>rfl)
 | .k30=>Pk.map (λg:(aa (cE 34))×Unit=>(g.1:aa aL)) (.cons (.l 34) .nil) (λ_=>rfl)
 | .k34=>Pk.map (λg:Int×Int×Int×Unit=>((aL.mk g.1 g.2.1 g.2.2.1):aL)) (.cons (.i .i64) (.cons (.i .i64) (.cons (.i .i64) .nil))) (λ_=>rfl)
 | .k36=>Pk.map (λg:Int×Int×Int×(aa (cE 34))×Int×Int×Int×(aa (cE 34))×Unit=>((bL.mk (aL.mk g.1 g.2.1 g.2.2.1) g.2.2.2.1 (aL.mk g.2.2.2.2.1 g.2.2.2.2.2.1 g.2.2.2.2.2.2.1) g.2.2.2.2.2.2.2.1):bL)) (.cons (.i .i64) (.cons (.i .i64) (.cons (.i .i64) (.cons (.l 34) (.cons (.i .i64) (.cons (.i .i64) (.cons (.i .i64) (.cons (.l 34) .nil)))))))) (λ_=>rfl)
 | .k37=>Pk.map (λg:Int×Unit=>(g.1:Int)) (.cons (.i .i64) .nil) (λ_=>rfl)
 | .k47=>Pk.map (λg:(aa (cE 3))×Int×Unit=>((aB.mk g.1 g.2.1):aB)) (.cons (.l 3) (.cons (.i .i64) .nil)) (λ_=>rfl)
 | .k52=>Pk.map (λg:(aa (cE 3))×(aa (cE 3))×(aa (cE 3))×Unit=>((nr.mk g.1 g.2.1 g.2.2.1):nr)) (.cons (.l 3) (.cons (.l 3) (.cons (.l 3) .nil))) (λ_=>rfl)
 | .k56=>Pk.map (λg:(aa (cE 3))×(aa (cE 3))×Int×Unit=>((oM.mk g.1 g.2.1 g.2.2.1):oM)) (.cons (.l 3) (.cons (.l 3) (.cons (.i .i64) .nil))) (λ_=>rfl)
 | .k84=>Pk.map (λg:(aa (cE 47))×(aa (cE 117))×Unit=>((aY.mk g.1 g.2.1):aY)) (.cons (.l 47) (.cons (.l 117) .nil)) (λ_=>rfl)
 | .k90=>Pk.map (λg:Int×Int×(aa (cE 3))×(aa (cE 34))×Unit=>((Part.mk g.1 g.2.1 g.2.2.1 g.2.2.2.1):Part)) (.cons (.i .i64) (.cons (.i .i64) (.cons (.l 3) (.cons (.l 34) .nil)))) (λ_=>rfl)
 | .k117=>Pk.map (λg:Int×Int×(aa (cE 3))×(aa (cE 3))×Int×Unit=>((Cell.mk g.1 g.2.1 g.2.2.1 g.2.2.2.1 g.2.2.2.2.1):Cell)) (.cons (.i .i64) (.cons (.i .i64) (.cons (.l 3) (.cons (.l 3) (.cons (.i .i64) .nil))))) (λ_=>rfl)
 | .k128=>Pk.map (λg:(aa (cE 34))×Int×Int×Int×(aa (cE 34))×Int×Int×Int×Unit=>((ay.mk g.1 (aL.mk g.2.1 g.2.2.1 g.2.2.2.1) g.2.2.2.2.1 (aL.mk g.2.2.2.2.2.1 g.2.2.2.2.2.2.1 g.2.2.2.2.2.2.2.1)):ay)) (.cons (.l 34) (.cons (.i .i64) (.cons (.i .i64) (.cons (.i .i64) (.cons (.l 34) (.cons (.i .i64) (.cons (.i .i64) (.cons (.i .i64) .nil)))))))) (λ_=>rfl)
 | .k129=>Pk.map (λg:Int×Unit=>(g.1:Int)) (.cons (.i .i64) .nil) (λ_=>rfl)
 | .k131=>Pk.map (λg:ByteArray×Int×Int×Int×Int×Unit=>((bg.mk g.1 g.2.1 g.2.2.1 g.2.2.2.1 g.2.2.2.2.1):bg)) (.cons .s (.cons (.i .i64) (.cons (.i .i64) (.cons (.i .i64) (.cons (.i .i64) .nil))))) (λ_=>rfl)
 | .k133=>Pk.map (λg:(aa (cE 131))×(aa (cE 139))×(aa (cE 166))×(aa (cE 34))×Unit=>((Runner.mk (aS.mk g.1 g.2.1 g.2.2.1) g.2.2.2.1):Runner)) (.cons (.l 131) (.cons (.l 139) (.cons (.l 166) (.cons (.l 34) .nil)))) (λ_=>rfl)
 | .k137=>Pk.map (λg:Int×Int×(aa (cE 137))×Unit=>((az.mk g.1 g.2.1 g.2.2.1):az)) (.cons (.i .i64) (.cons (.i .i64) (.cons (.l 137) .nil))) (λ_=>rfl)
 | .k139=>Pk.map (λg:ByteArray×Int×Int×Int×Int×(aa (cE 137))×Unit=>((dF.mk g.1 g.2.1 g.2.2.1 (az.mk g.2.2.2.1 g.2.2.2.2.1 g.2.2.2.2.2.1)):dF)) (.cons .s (.cons (.i .i64) (.cons (.i .i64) (.cons (.i .i64) (.cons (.i .i64) (.cons (.l 137) .nil)))))) (λ_=>rfl)
 | .k147=>Pk.map (λg:(aa (cE 34))×Int×Int×Int×(aa (cE 34))×Int×Int×Int×Unit=>((aJ.mk g.1 (aL.mk g.2.1 g.2.2.1 g.2.2.2.1) g.2.2.2.2.1 (aL.mk g.2.2.2.2.2.1 g.2.2.2.2.2.2.1 g.2.2.2.2.2.2.2.1)):aJ)) (.cons (.l 34) (.cons (.i .i64) (.cons (.i .i64) (.cons (.i .i64) (.cons (.l 34) (.cons (.i .i64) (.cons (.i .i64) (.cons (.i .i64) .nil)))))))) (λ_=>rfl)
 | .k166=>Pk.map (λg:Int×Int×Int×Int×Int×Int×(aa (cE 137))×(aa (cE 166))×(aa (cE 166))×(aa (cE 3))×Unit=>((aC.mk g.1 g.2.1 g.2.2.1 g.2.2.2.1 (az.mk g.2.2.2.2.1 g.2.2.2.2.2.1 g.2.2.2.2.2.2.1) g.2.2.2.2.2.2.2.1 g.2.2.2.2.2.2.2.2.1 g.2.2.2.2.2.2.2.2.2.1):aC)) (.cons (.i .i64) (.cons (.i .i64) (.cons (.i .i64) (.cons (.i .i64) (.cons (.i .i64) (.cons (.i .i64) (.cons (.l 137) (.cons (.l 166) (.cons (.l 166) (.cons (.l 3) .nil)))))))))) (λ_=>rfl)
 | .k172=>Pk.map (λg:(aa (cE 131))×(aa (cE 139))×(aa (cE 166))×(aa (cE 3))×Bool×(aa (cE 174))×Unit=>((Tree.mk (aS.mk g.1 g.2.1 g.2.2.1) (bT.mk g.2.2.2.1 g.2.2.2.2.1) g.2.2.2.2.2.1):Tree)) (.cons (.l 131) (.cons (.l 139) (.cons (.l 166) (.cons (.l 3) (.cons .b (.cons (.l 174) .nil)))))) (λ_=>rfl)
 | .k174=>Pk.map (λg:(aa (cE 34))×Int×Int×(aa (cE 3))×Int×Bool×(aa (cE 3))×Int×Unit=>((dI.mk g.1 g.2.1 g.2.2.1 g.2.2.2.1 g.2.2.2.2.1 g.2.2.2.2.2.1 (aB.mk g.2.2.2.2.2.2.1 g.2.2.2.2.2.2.2.1)):dI)) (.cons (.l 34) (.cons (.i .i64) (.cons (.i .i64) (.cons (.l 3) (.cons (.i .i64) (.cons .b (.cons (.l 3) (.cons (.i .i64) .nil)))))))) (λ_=>rfl)
 | .k256=>Pk.map (λg:Int×Bool×Unit=>((bk.mk g.1 g.2.1):bk)) (.cons (.i .i64) (.cons .b .nil)) (λ_=>rfl)
 | .k260=>Pk.map (λg:Int×Int×Int×Unit=>((qe.mk g.1 g.2.1 g.2.2.1):qe)) (.cons (.i .i64) (.cons (.i .i64) (.cons (.i .i64) .nil))) (λ_=>rfl)
 | .k313=>Pk.map (λg:(aa (cE 131))×(aa (cE 139))×(aa (cE 166))×(aa (cE 3))×(aa (cE 3))×(aa (cE 3))×Int×Unit=>((Machine.mk (aS.mk g.1 g.2.1 g.2.2.1) g.2.2.2.1 g.2.2.2.2.1 g.2.2.2.2.2.1 g.2.2.2.2.2.2.1):Machine)) (.cons (.l 131) (.cons (.l 139) (.cons (.l 166) (.cons (.l 3) (.cons (.l 3) (.cons (.l 3) (.cons (.i .i64) .nil))))))) (λ_=>rfl)
 | .k331=>Pk.map (λg:Int×Int×Unit=>((Span.mk g.1 g.2.1):Span)) (.cons (.i .i64) (.cons (.i .i64) .nil)) (λ_=>rfl)
 | .no=> .none
def anZ:(k:Ky)->aa (GC k)->af (aa Int)
 | .k5,l=>V l
 |_,_=>I
def aeA(l:aa Int):l.flatMap (λx=>[b9.n (dh:=cE) .u8 x])=l.map (.n .u8):=by
 induction l with
 |nil=>rfl
 |cons a l ih=>rw[yQ,ih];rfl
def aby:(k:Ky)->(l:aa (GC k))->(ns:aa Int)->anZ k l=V ns->l.flatMap (ox k)=ns.map (.n .u8)/\szK k=1:=by
 intro k l ns h;cases k<;>first|(cases h;done)|(cases h;exact⟨aeA _,rfl⟩)
def aH6(k:Ky)(x:GC k):zR (ox k x)=szK k:=by cases k<;>rfl
def aFJ(k:Ky)(x:GC k):(ox k x).all iZ=true:=by cases k<;>rfl
def aHu(k:Ky)(x:GC k)(S:Gh):(ox k x).map (b9.sub S)=ox k x:=aa0 _ (by cases k<;>rfl) S
def aFR(k:Ky)(x:GC k)(n:Nat):∀c∈ox k x,cW n c:=abf _ (by cases k<;>rfl) n
instance uniL:nu where
 len:=λt x=>aH6 (ky t) x
 one:=λt x=>aFJ (ky t) x
 clo:=λt x S=>aHu (ky t) x S
 sq:=λt x n=>aFR (ky t) x n
 parse:=λt=>ab4 (ky t)
 l9:=λt=>YM (ky t)
 nums:=λt=>anZ (ky t)
 uW:=λt=>aby (ky t)
 fz:=λf=>ze f 27||ze f 44||ze f 28||ze f 20||ze f 26||ze f 83||ze f 156||ze f 160||ze f 236||ze f 96||ze f 179||ze f 88||ze f 167||ze f 171||ze f 247||ze f 25||ze f 185||ze f 48||ze f 49||ze f 57||ze f 60||ze f 61||ze f 65||ze f 74||ze f 112||ze f 134||ze f 203
end Go.Proofs.YtnfljbehcffmcaaGreat
end
noncomputable section
namespace Go.Iv
variable [U:tf] [L:nu]
open Go Go.RowKit
def lT(f:Nat->Nat)(n:Nat):AV->AV:=Nat.rec (λd=>match d with
 | .own i=> .own (f i)
 | .ptr i o=> .ptr (f i) o
 | .ra i t m o=> .ra (f i) t m o
 |d=>d) (λ_ ih d=>match d with
 | .own i=> .own (f i)
 | .ptr i o=> .ptr (f i) o
 | .ra i t m o=> .ra (f i) t m o
 | .agg cs=> .agg (cs.map ih)
 | .jf cs=> .jf (cs.map ih)
 | .fn g cs=> .fn g (cs.map ih)
 | .fp cs=> .fp (cs.map ih)
 |d=>d) n
def jx{f:Nat->Nat}{S S':Gh}{p:Nat->Bool}(hp:∀i,p i=O->S'.v (f i)=S.v i/\S'.b (f i)=S.b i):∀(n:Nat) {d:AV},jI p n d=O->(lT f n d).sub S'=d.sub S
 |0,d,h=>by
  cases d with
  |lit v=>show b9.sub S' (.lit v)=_;rw[bW,bW]
  |sl t l=>show b9.sub S' (.sl t l)=_;rw[gO,gO]
  |rp v k=>show b9.sub S' (.rp v k)=_;simp only[b9.sub]
  |own i=>show b9.sub S' (.own (f i))=_;rw[dz,dz,(hp _ h).1]
  |ptr i o=>show b9.sub S' (.ptr (f i) o)=_;rw[fM,fM,(hp _ h).2]
  |ra i t m o=>show b9.sub S' (.ra (f i) t m o)=_;rw[jO,jO,(hp _ h).1]
  |_=>cases h
 |n+1,d,h=>by
  have hL:∀{cs:aa AV},cs.all (jI p n)=O->(cs.map (lT f n)).map (b9.sub S')=cs.map (b9.sub S):=λ{cs} h=>by
   rw[yw];exact zZ λc hc=>jx hp n (zx.1 h c hc)
  cases d with
  |lit v=>show b9.sub S' (.lit v)=_;rw[bW,bW]
  |sl t l=>show b9.sub S' (.sl t l)=_;rw[gO,gO]
  |rp v k=>show b9.sub S' (.rp v k)=_;simp only[b9.sub]
  |own i=>show b9.sub S' (.own (f i))=_;rw[dz,dz,(hp _ h).1]
  |ptr i o=>show b9.sub S' (.ptr (f i) o)=_;rw[fM,fM,(hp _ h).2]
  |ra i t m o=>show b9.sub S' (.ra (f i) t m o)=_;rw[jO,jO,(hp _ h).1]
  |fp cs=>show b9.sub S' (.fp (List.map (lT f n) cs))=_;rw[mV,mV,hL h]
  |agg cs=>show b9.sub S' (.agg (List.map (lT f n) cs))=_;rw[fq,fq,hL h]
  |jf cs=>show b9.sub S' (.jf (List.map (lT f n) cs))=_;rw[lB,lB,hL h]
  |fn g cs=>show b9.sub S' (.fn g (List.map (lT f n) cs))=_;rw[tZ,tZ,hL h]
def l6{f:Nat->Nat}{p:Nat->Bool}{m:Nat}(hp:∀i,p i=O->f i<m):∀(n:Nat) {d:AV},jI p n d=O->cW m (lT f n d)
 |0,d,h=>by
  cases d<;>first|exact .lit _|exact .sl _ _|exact .rp _ _|exact .own _ (hp _ h)|exact .ptr _ _ (hp _ h)|exact .ra _ _ _ _ (hp _ h)|(cases h;done)
 |n+1,d,h=>by
  have hL:∀{cs:aa AV},cs.all (jI p n)=O->∀c∈cs.map (lT f n),cW m c:=λ{cs} h c hc=>by
   obtain⟨c',h1,rfl⟩:=zK.1 hc;exact l6 hp n (zx.1 h c' h1)
  cases d<;>first|exact .lit _|exact .sl _ _|exact .rp _ _|exact .own _ (hp _ h)|exact .ptr _ _ (hp _ h)|exact .ra _ _ _ _ (hp _ h)|exact .agg _ (hL h)|exact .jf _ (hL h)|exact .fn _ _ (hL h)|exact .fp _ (hL h)
def GN(f:Nat->Nat):IR->IR
 | .box T cs=> .box T (cs.map (lT f 4))
 |r=>r
def mz(l:aa Nat)(i:Nat):Nat:=List.rec 0 (λj _ ih=>match ze j i with
 |true=>0
 |false=>ih+1) l
def vC:∀{l:aa Nat} {i:Nat},i∈l->l[mz l i]? =V i
 |j::l,i,h=>by
  show (j::l)[match ze j i with
   |true=>0
   |false=>mz l i+1]? =V i
  cases hb:ze j i with
  |true=>have:=gU hb;subst this;rfl
  |false=>
   have hne:i≠j:=λe=>by subst e;rw[Nat.beq_refl]at hb;cases hb
   exact vC ((zy.1 h).resolve_left hne)
def PE(ts:aa Nat)(E:ET):Env:=ts.filterMap λt=>(cV E t).map λd=>(t,d)
def Yb{E:ET}:∀(ts:aa Nat) t d,Env.get (PE ts E) t=V d->cV E t=V d:=λts=>by
 induction ts with
 |nil=>intro t d h;cases h
 |cons u ts ih=>
  intro t d h;unfold PE at h;rw[xD]at h;cases hu:cV E u with
  |none=>rw[hu]at h;exact ih t d h
  |some x=>
   rw[hu]at h;by_cases hut:u=t
   ·subst hut;have h:Env.get ((u,x)::_) u=V d:=h;rw[Env.fB]at h;rw[hu,h]
   ·have h:Env.get ((u,x)::_) t=V d:=h;rw[Env.dY _ _ hut]at h;exact ih t d h
def pick(i:Nat)(R:bt):af ((Nat×IR)×bt):=List.rec I (λp R ih=>match ze p.1 i with
 |true=>V (p,R)
 |false=>match ih with
  |some x=>V (x.1,p::x.2)
  |none=>I) R
def G8{i:Nat}:∀{R:bt} {x},pick i R=V x->List.Perm R (x.1::x.2)
 |[],x,h=>by cases h
 |p::R,x,h=>by
  have h:(match ze p.1 i with
   |true=>V (p,R)
   |false=>match pick i R with
    |some x=>V (x.1,p::x.2)
    |none=>I)=V x:=h
  split at h
  ·cases h;exact .refl _
  ·split at h
   ·rename_i y hy;cases h;exact((G8 hy).cons p).trans (.swap _ _ _)
   ·cases h
def kF(ns:aa Nat):bt->bt×bt:=List.rec (λR=>([],R)) (λi _ ih R=>match pick i R with
 |some x=>(x.1::(ih x.2).1,(ih x.2).2)
 |none=>ih R) ns
def oz:∀(ns:aa Nat) (R:bt),List.Perm R ((kF ns R).1++(kF ns R).2)
 |[],R=> .refl _
 |i::ns,R=>by
  show List.Perm R ((match pick i R with
   |some x=>(x.1::(kF ns x.2).1,(kF ns x.2).2)
   |none=>kF ns R).1++(match pick i R with
   |some x=>(x.1::(kF ns x.2).1,(kF ns x.2).2)
   |none=>kF ns R).2)
  split
  ·rename_i x hx;exact(G8 hx).trans ((oz ns x.2).cons _)
  ·exact oz ns R
def upto(n:Nat):aa Nat:=Nat.rec [] (λi ih=>ih++[i]) n
def aan{n i:Nat}(h:i<n):i∈upto n:=by
 induction n with
 |zero=>omega
 |succ n ih=>
  show i∈upto n++[n];by_cases hi:i=n
  ·subst hi;simp
  ·exact yI _ (ih aq)
def acd{n i:Nat}(h:i<n):(upto n)[i]? =V i:=by
 induction n with
 |zero=>omega
 |succ n ih=>
  show (upto n++[n])[i]? =V i;have hl:∀n,zR (upto n)=n:=λn=>by
   induction n with
   |zero=>rfl
   |succ n ih=>show zR (upto n++[n])=n+1;simp[ih]
  by_cases hi:i=n
  ·subst hi;rw[wU (by rw[hl];exact zm _),hl,xT];rfl
  ·rw[wV (by rw[hl];omega)];exact ih aq
def Aj:∀n,zR (upto n)=n:=λn=>by
 induction n with
 |zero=>rfl
 |succ n ih=>show zR (upto n++[n])=n+1;simp[ih]
def oR(n0:Nat)(dr rest:aa Nat)(i:Nat):Nat:=match dG i dr with
 |true=>n0+mz rest i
 |false=>mz (upto n0++rest) i
def adl(n0:Nat)(dr:aa Nat)(l:Env)(R:bt)(rest:aa Nat):af St:=match l.all (λq=>jI (λi=>dG i rest|| !dG i dr&&zB i n0) 4 q.2)&&R.all (λq=>(dG q.1 rest|| !dG q.1 dr&&zB q.1 n0)&&match q.2 with
  | .box _ cs=>cs.all (jI (λi=>dG i rest|| !dG i dr&&zB i n0) 4)
  | .row _ _=>O)with
 |true=>V ⟨ar3 (l.map λq=>(q.1,lT (oR n0 dr rest) 4 q.2)),R.map λq=>(oR n0 dr rest q.1,GN (oR n0 dr rest) q.2),n0+zR rest⟩
 |false=>I
def adb(n0:Nat)(dr:aa Nat)(l:Env)(R:bt):af St:=adl n0 dr l R ((R.map λq=>q.1).filter λi=>dG i dr|| !zB i n0)
def canon(n0:Nat)(dr:aa Nat)(ts:aa Nat)(s:St):af St:=adb n0 dr (PE ts s.E) (kF ((upto n0).filter (λi=> !dG i dr)++reach s.R 3 (((PE ts s.E).flatMap λq=>kJ 4 q.2)++(upto n0).filter (λi=> !dG i dr))) s.R).1
def acF{n0 n:Nat}{dr ts:aa Nat}{C:Cg}{s s':St}{a:Act}{w:World}(hC:C.n=n0)(h:canon n0 dr ts s=V s')(hm:Mt C n s a w):Mt C n s' a w:=by
 unfold canon adb at h;generalize hl:PE ts s.E=l at h;generalize hR:(kF ((upto n0).filter (λi=> !dG i dr)++reach s.R 3 ((l.flatMap λq=>kJ 4 q.2)++(upto n0).filter (λi=> !dG i dr))) s.R)=R2 at h;have hperm:List.Perm s.R (R2.1++R2.2):=by rw[<-hR];exact oz _ _
 obtain⟨R,Rr⟩:=R2;dsimp only at h hperm;generalize hns:((R.map λq=>q.1).filter λi=>dG i dr|| !zB i n0)=rest at h;unfold adl at h;split at h
 case h_2=>cases h
 rename_i hb;cases h;rw[zi]at hb;obtain⟨hb1,hb2⟩:=hb;obtain⟨E,hh,hE,hR0,S,hag,hsim⟩:=hm
 let S':Gh:=⟨λj=>S.v ((upto n0++rest).getD j 0),λj=>S.b ((upto n0++rest).getD j 0)⟩
 have hget:∀i,(dG i rest|| !dG i dr&&zB i n0)=O->(upto n0++rest)[oR n0 dr rest i]? =V i:=λi hi=>by
  unfold oR;cases hd:dG i dr with
  |true=>
   rw[hd]at hi;have hi:dG i rest=O:=by simpa using hi
   show (upto n0++rest)[n0+mz rest i]? =V i;rw[wU (by rw[Aj];omega),Aj,Nat.add_sub_cancel_left];exact vC (gi.1 hi)
  |false=>
   rw[hd]at hi;show (upto n0++rest)[mz (upto n0++rest) i]? =V i;refine vC ?_;rw[yK]at hi;rcases hi with hi|hi
   ·exact yJ _ (gi.1 hi)
   ·refine yI _ (aan ?_);simpa [Nat.blt_eq]using hi
 have hp:∀i,(dG i rest|| !dG i dr&&zB i n0)=O->S'.v (oR n0 dr rest i)=S.v i/\S'.b (oR n0 dr rest i)=S.b i:=λi hi=>by
  have e:(upto n0++rest).getD (oR n0 dr rest i) 0=i:=by rw[wm,hget i hi];rfl
  exact⟨by show S.v ((upto n0++rest).getD (oR n0 dr rest i) 0)=_;rw[e],by show S.b ((upto n0++rest).getD (oR n0 dr rest i) 0)=_;rw[e]⟩
 have hll:zR (upto n0++rest)=n0+zR rest:=by rw[zh,Aj]
 have hlt:∀i,(dG i rest|| !dG i dr&&zB i n0)=O->oR n0 dr rest i<n0+zR rest:=λi hi=>by
  rw[<-hll];exact(z7.1 (hget i hi)).1
 have hres:bt.res S' (R.map λq=>(oR n0 dr rest q.1,GN (oR n0 dr rest) q.2))=bt.res S R:=by
  unfold bt.res;rw[yw];refine zZ λq hq=> ?_;have hbq:=zx.1 hb2 q hq;rw[zi]at hbq;have hm:=hbq.1;have hbq:=hbq.2;obtain⟨i,r⟩:=q;cases r with
  |row t l=>show cn.row (S'.v (oR n0 dr rest i)) t l= .row (S.v i) t l;rw[(hp i hm).1]
  |box T cs=>
   show cn.box (S'.b (oR n0 dr rest i)) T ((cs.map (lT (oR n0 dr rest) 4)).map (b9.sub S'))= .box (S.b i) T (cs.map (b9.sub S));rw[(hp i hm).2,yw]
   congr 1
   exact zZ λc hc=>jx hp 4 (zx.1 hbq c hc)
 have hp2:List.Perm (bt.res S s.R) (bt.res S (R++Rr)):=hperm.map _;have hsim2:=hsim.perm hp2;rw[k9]at hsim2;have hless:=hsim2.less (List.sublist_append_left _ _);refine⟨l.map λq=>(q.1,lT (oR n0 dr rest) 4 q.2),Cf _,λq hq=> ?_,λq hq=> ?_,S',⟨λi hi=> ?_,?_⟩,?_⟩
 ·obtain⟨q',h1,rfl⟩:=zK.1 hq;exact l6 hlt 4 (zx.1 hb1 q' h1)
 ·obtain⟨q',h1,rfl⟩:=zK.1 hq;have hbq:=zx.1 hb2 q' h1;rw[zi]at hbq;have hm:=hbq.1;have hbq:=hbq.2;refine⟨hlt _ hm,?_⟩;obtain⟨i,r⟩:=q';cases r with
  |row t l=>trivial
  |box T cs=>
   intro c hc;obtain⟨c',h3,rfl⟩:=zK.1 hc;exact l6 hlt 4 (zx.1 hbq c' h3)
 ·rw[hC]at hi;have e:(upto n0++rest).getD i 0=i:=by
   rw[wm,wV (by rw[Aj];exact hi),acd hi];rfl
  have:=hag.1 i (by rw[hC];exact hi);exact⟨by show C.S.v i=S.v ((upto n0++rest).getD i 0);rw[e];exact this.1,by show C.S.b i=S.b ((upto n0++rest).getD i 0);rw[e];exact this.2⟩
 ·rw[hC];show n0<=n0+zR rest;exact Nat.le_add_right _ _
 ·rw[hres];refine⟨hless.defers,hless.size,λt av ht=> ?_,hless.good⟩;have e:∀(l:Env),(∀q∈l,jI (λi=>dG i rest|| !dG i dr&&zB i n0) 4 q.2=O)->Env.sub S' (l.map λq=>(q.1,lT (oR n0 dr rest) 4 q.2))=Env.sub S l:=λl hl=>by
   unfold Env.sub;rw[yw];exact zZ λq hq=>by
    show (q.1,(lT (oR n0 dr rest) 4 q.2).sub S')=_;rw[jx hp 4 (hl q hq)]
  rw[e l (λq hq=>zx.1 hb1 q hq),Env.fA]at ht;obtain⟨d,hd,rfl⟩:=zl.1 ht;rw[<-hl]at hd;exact hless.slots t _ (by rw[Env.fA,hh t d (Yb ts t d hd)];rfl)
def rdC{Q:Type}(n0:Nat)(dr ts:aa Nat)(rd:St->af Q)(s:St):af Q:=(canon n0 dr ts s).bind rd
def asj{Q:Type}{n0 n:Nat}{dr ts:aa Nat}{rd:St->af Q}{pat:Q->St}(h:sV n0 n rd pat):sV n0 n (rdC n0 dr ts rd) pat:=λC s p a w hC hr hm=>by
 obtain⟨s',h1,h2⟩:=zn.1 hr;exact h C s' p a w hC h2 (acF hC h1 hm)
def uD{W:Type}(f:W->W)(j:Nat)(l:aa W):aa W:=List.rec (λ_=>[]) (λb l ih j=>match ze j 0 with
 |true=>f b::l
 |false=>b::ih (j-1)) l j
def vH{W Q:Type}{f:W->W}{g g':W->Q}:∀(l:aa W) (j:Nat),(∀b∈l,g (f b)=g' b)->(∀b∈l,g b=g' b)->(uD f j l).map g=l.map g'
 |[],_,_,_=>rfl
 |b::l,j,h1,h2=>by
  show (match ze j 0 with
   |true=>f b::l
   |false=>b::uD f (j-1) l).map g=_
  split
  ·rw[yf,yf,h1 b zk,zZ λc hc=>h2 c (zI _ hc)]
  ·rw[yf,yf,h2 b zk,vH l (j-1) (λc hc=>h1 c (zI _ hc)) (λc hc=>h2 c (zI _ hc))]
def AA{W:Type}{f:W->W}{p:W->Prop}:∀(l:aa W) (j:Nat),(∀b∈l,p (f b))->(∀b∈l,p b)->∀b∈uD f j l,p b
 |[],_,_,_,b,hb=>by cases hb
 |c::l,j,h1,h2,b,hb=>by
  have hb:b∈(match ze j 0 with
   |true=>f c::l
   |false=>c::uD f (j-1) l):=hb
  split at hb
  ·rcases zy.1 hb with rfl|hb
   ·exact h1 c zk
   ·exact h2 b (zI _ hb)
  ·rcases zy.1 hb with rfl|hb
   ·exact h2 b zk
   ·exact AA l (j-1) (λc hc=>h1 c (zI _ hc)) (λc hc=>h2 c (zI _ hc)) b hb
def v7(nx:Nat)(p:aa Nat):AV->AV:=List.rec (λd=>match d with
 | .lit (.slice I 0 0)=> .own nx
 |d=>d) (λj _ ih d=>match d with
 | .agg cs=> .agg (uD ih j cs)
 | .jf cs=> .jf (uD ih j cs)
 |d=>d) p
def Ac{S:Gh}{nx:Nat}:∀(p:aa Nat) (d:AV),cW nx d->(v7 nx p d).sub (S.gE nx (.slice I 0 0))=d.sub S
 |[],d,h=>by
  show b9.sub _ (match d with
   | .lit (.slice I 0 0)=> .own nx
   |d=>d)=_
  split
  ·rw[dz,bW];simp[Gh.gE]
  ·exact(h.sub (.gE S nx _)).symm
 |j::p,d,h=>by
  show b9.sub _ (match d with
   | .agg cs=> .agg (uD (v7 nx p) j cs)
   | .jf cs=> .jf (uD (v7 nx p) j cs)
   |d=>d)=_
  split
  ·rw[fq,fq,vH _ j (λb hb=>Ac p b (h.pS b hb)) (λb hb=>((h.pS b hb).sub (.gE S nx _)).symm)]
  ·rw[lB,lB,vH _ j (λb hb=>Ac p b (h.G2 b hb)) (λb hb=>((h.G2 b hb).sub (.gE S nx _)).symm)]
  ·exact(h.sub (.gE S nx _)).symm
def AI{nx:Nat}:∀(p:aa Nat) (d:AV),cW nx d->cW (nx+1) (v7 nx p d)
 |[],d,h=>by
  show cW (nx+1) (match d with
   | .lit (.slice I 0 0)=> .own nx
   |d=>d)
  split
  ·exact .own _ (zC _)
  ·exact h.mono (yd _)
 |j::p,d,h=>by
  show cW (nx+1) (match d with
   | .agg cs=> .agg (uD (v7 nx p) j cs)
   | .jf cs=> .jf (uD (v7 nx p) j cs)
   |d=>d)
  split
  ·exact .agg _ (AA _ j (λb hb=>AI p b (h.pS b hb)) (λb hb=>(h.pS b hb).mono (yd _)))
  ·exact .jf _ (AA _ j (λb hb=>AI p b (h.G2 b hb)) (λb hb=>(h.G2 b hb).mono (yd _)))
  ·exact h.mono (yd _)
def au9(t:Nat)(p:aa Nat)(e:Nat)(s:St):St:=match cV s.E t with
 |some d=>⟨nj t (v7 s.nx p d) s.E,(s.nx, .row e [])::s.R,s.nx+1⟩
 |none=>s
def o6(id j:Nat)(p:aa Nat)(e:Nat)(s:St):St:=match gJ s.R id with
 |some (.box T cs)=>⟨s.E,(s.nx, .row e [])::uv id (.box T (uD (v7 s.nx p) j cs)) s.R,s.nx+1⟩
 |_=>s
def Ud{S:Gh}{R:bt}{nx e:Nat}:bt.res (S.gE nx (.slice I 0 0)) ((nx,IR.row e [])::R)=cn.row (.slice I 0 0) e []::bt.res (S.gE nx (.slice I 0 0)) R:=by
 show cn.row ((S.gE nx (.slice I 0 0)).v nx) e []::_=_;simp[Gh.gE,bt.res]
def agN{C:Cg}{n t e:Nat}{p:aa Nat}{s:St}{a:Act}{w:World}(hm:Mt C n s a w):Mt C n (au9 t p e s) a w:=by
 unfold au9;split
 case h_2=>exact hm
 rename_i d hg;obtain⟨E,hh,hE,hR,S,hag,hsim⟩:=hm;have ht:=QV (C:=C.C) I e hsim.good;have hs:=hsim.tr ht;have hs1:E.sub S=E.sub (S.gE s.nx (.slice I 0 0)):=hE.sub (.gE S s.nx _);have hr1:bt.res S s.R=bt.res (S.gE s.nx (.slice I 0 0)) s.R:=hR.res (.gE S s.nx _);have hd:cW s.nx d:=hE _ (Env.get_mem (hh t d hg));refine⟨(t,v7 s.nx p d)::E,hh.put t _,Env.u5 (hE.mono (yd _)) (AI p d hd),λq hq=> ?_,S.gE s.nx (.slice I 0 0),⟨hag.1.trans (.gE S s.nx _) hag.2,zG hag.2 (yd _)⟩,?_⟩
 ·rcases zy.1 hq with rfl|hq
  ·exact⟨zC _,trivial⟩
  ·exact(hR.mono (yd _)) q hq
 ·show uI C.C n ((t,b9.sub _ (v7 s.nx p d))::E.sub _) (bt.res _ ((s.nx,IR.row e [])::s.R)) a w;rw[Ud,<-hr1,<-hs1,Ac p d hd];refine⟨hs.defers,hs.size,λu av hu=> ?_,hs.good⟩;by_cases htu:t=u
  ·subst htu;rw[Env.fB]at hu;cases hu;exact hs.slots t _ (by rw[Env.fA,hh t _ hg,yH])
  ·rw[Env.dY _ _ htu]at hu;exact hs.slots u av hu
def am9{C:Cg}{n id j e:Nat}{p:aa Nat}{s:St}{a:Act}{w:World}(hm:Mt C n s a w):Mt C n (o6 id j p e s) a w:=by
 unfold o6;split
 case h_2=>exact hm
 rename_i T cs hg;obtain⟨E,hh,hE,hR,S,hag,hsim⟩:=hm;have ht:=QV (C:=C.C) I e hsim.good;have hs:=hsim.tr ht;have hs1:E.sub S=E.sub (S.gE s.nx (.slice I 0 0)):=hE.sub (.gE S s.nx _);have hr1:bt.res S s.R=bt.res (S.gE s.nx (.slice I 0 0)) s.R:=hR.res (.gE S s.nx _);obtain⟨hid,hcs⟩:=FB hg hR;have hr2:bt.res (S.gE s.nx (.slice I 0 0)) (uv id (.box T (uD (v7 s.nx p) j cs)) s.R)=bt.res S s.R:=by
  obtain⟨i,h1,h2,_⟩:=eT hg;rw[h2,vF,<-hr1];have e1:IR.res (S.gE s.nx (.slice I 0 0)) id (.box T (uD (v7 s.nx p) j cs))=IR.res S id (.box T cs):=by
   show cn.box ((S.gE s.nx (.slice I 0 0)).b id) T ((uD (v7 s.nx p) j cs).map (b9.sub _))= .box (S.b id) T (cs.map (b9.sub S));rw[vH cs j (λb hb=>Ac p b (hcs b hb)) (λb hb=>((hcs b hb).sub (.gE S s.nx _)).symm)];rfl
  rw[e1];have h3:=iD (S:=S) h1;exact List.ext_getElem? λk=>by
   by_cases hk:i=k
   ·subst hk;rw[List.getElem?_set_self (z7.1 h3).1,h3]
   ·rw[List.getElem?_set_ne hk]
 refine⟨E,hh,hE.mono (yd _),λq hq=> ?_,S.gE s.nx (.slice I 0 0),⟨hag.1.trans (.gE S s.nx _) hag.2,zG hag.2 (yd _)⟩,?_⟩
 ·rcases zy.1 hq with rfl|hq
  ·exact⟨zC _,trivial⟩
  ·refine p7 hg (hR.mono (yd _)) ?_ q hq;exact AA cs j (λb hb=>AI p b (hcs b hb)) (λb hb=>(hcs b hb).mono (yd _))
 ·show uI C.C n (E.sub _) (bt.res _ ((s.nx,IR.row e [])::uv id (.box T (uD (v7 s.nx p) j cs)) s.R)) a w;rw[Ud,hr2,<-hs1];exact hs
def atA(p:aa Nat):AV->af Nat:=List.rec (λd=>match d with
 | .own i=>V i
 |_=>I) (λj _ ih d=>match d with
 | .agg cs=>(cs[j]?).bind ih
 | .jf cs=>(cs[j]?).bind ih
 |_=>I) p
def aCM(t:Nat)(p:aa Nat)(s:St):St:=match cV s.E t with
 |some d=>match atA p d with
  |some i=>s.Mp i
  |none=>s
 |none=>s
def aB9(id j:Nat)(p:aa Nat)(s:St):St:=match gJ s.R id with
 |some (.box _ cs)=>match (cs[j]?).bind (atA p)with
  |some i=>s.Mp i
  |none=>s
 |_=>s
def rdF{Q:Type}(f:St->St)(rd:St->af Q)(s:St):af Q:=rd (f s)
def bX(f:St->St):Prop:=∀(C:Cg) n s a w,Mt C n s a w->Mt C n (f s) a w
def bX.s(t:Nat)(p:aa Nat)(e:Nat):bX (au9 t p e):=λ_ _ _ _ _ h=>agN h
def bX.c(id j:Nat)(p:aa Nat)(e:Nat):bX (o6 id j p e):=λ_ _ _ _ _ h=>am9 h
def bX.fs(t:Nat)(p:aa Nat):bX (aCM t p):=λ_ _ _ _ _ h=>by
 unfold aCM;split
 ·split
  ·exact h.Mp _
  ·exact h
 ·exact h
def bX.fc(id j:Nat)(p:aa Nat):bX (aB9 id j p):=λ_ _ _ _ _ h=>by
 unfold aB9;split
 ·split
  ·exact h.Mp _
  ·exact h
 ·exact h
def aqh{Q:Type}{n0 n:Nat}{f:St->St}{rd:St->af Q}{pat:Q->St}(hf:bX f)(h:sV n0 n rd pat):sV n0 n (rdF f rd) pat:=λC s p a w hC hr hm=>h C (f s) p a w hC hr (hf C n s a w hm)
end Go.Iv
end
noncomputable section
namespace Go.Iv
variable [U:tf] [L:nu]
open Go Go.RowKit
section
variable {P:Program} {f:FuncId} {args:aa AV} {σp σr:aa cn} {Φ:AV->aa cn->Prop}
def FI{B:aa cn}{w:World}{A:Nat->Prop}(hd:Hd A B w)(hnd:(bC B).Nodup):Good ⟨w,A,bC B⟩ B w:=
 have hal:∀b,A b->al ⟨w,A,bC B⟩ B b:=λb hA=>⟨.inl hA,λhx=>hd.2 b hx hA⟩
 ⟨Kp.refl _ _,λr hr=>(hd.1 r hr).mono (λb _ hA=>⟨hal b hA,rfl⟩) (λ_ _=>rfl),hnd,λb hb=> .inl hb⟩
def PX{B B':aa cn}{X:aa Nat}{C:Cx}{w w':World}(h:Tr C X B w B' w')(hX:∀b∈X,b∈bC B):Tr C (bC B) B w B' w':=
 ⟨h.good,⟨h.kp.os,h.kp.tape,h.kp.output,h.kp.drawn,h.kp.size,λk hk hn=>h.kp.block k hk λhx=>hn (hX k hx)⟩,λb hb hA=>⟨(h.al b hb hA).1,hA.2⟩⟩
def Fn.afO(h:Fn P f args σp Φ):Fn P f args (σp++σr) (λa s=>∃so,Φ a so/\s=so++σr):=λw A vs hrel hd0 hnd0=>by
 have hg:=FI hd0 hnd0;generalize hC:(⟨w,A,bC (σp++σr)⟩:Cx)=C at hg ⊢;have hdis:=hg.Il;rw[ia]at hdis;obtain⟨d1,d2,d3⟩:=yO.1 hdis;have hlt:∀b∈bC (σp++σr),b<w.heap.size:=λb hb=>by
  obtain⟨s,h1,h2⟩:=bS.1 hb;exact(hg.res s h1).lt h2
 have hal0:∀b,A b->al C (σp++σr) b:=λb hA=>by
  subst hC;exact⟨.inl hA,λhx=>hd0.2 b hx hA⟩
 have hd:Hd (al C (σp++σr)) σp w:=⟨λr hr=>hg.res r (yI _ hr),λb hb hA=>hA.2 (bQ.2 (.inl hb))⟩;refine(h w (al C (σp++σr)) vs (hrel.mono λb _ hA=>⟨hal0 b hA,rfl⟩) hd d1).mono λe w' ⟨v,av,σo,q1,q2,q3,q4⟩=> ?_;have hsub:∀b,al ⟨w,al C (σp++σr),bC σp⟩ σo b->al C (σo++σr) b:=λb hb=>by
  obtain⟨hb1,hb2⟩:=hb;rcases hb1 with hb1|hb1|hb1
  ·exact⟨hb1.1,λhx=>(bQ.1 hx).elim hb2 (λh=>hb1.2 (bQ.2 (.inr h)))⟩
  ·have hbp:b∈bC σp:=hb1;refine⟨?_,λhx=>(bQ.1 hx).elim hb2 (λh=>d3 b hbp b h rfl)⟩;rcases hg.own b (bQ.2 (.inl hbp))with h|h
   ·simp_all
   ·omega
  ·have hbw:w.heap.size<=b:=hb1;exact⟨.inr (.inr (zG hg.kept.size hbw)),λhx=>(bQ.1 hx).elim hb2 (λh=>by have:=hlt b (bQ.2 (.inr h));omega)⟩
 have ht:=Dr hg (λb hA _=> .inl hA) q3 (λr hr=>(q3.good.res r hr).mono (λb hb hA=>⟨hsub b hA,rfl⟩) (λ_ _=>rfl));exact⟨v,av,σo++σr,q1,⟨σo,q2,rfl⟩,PX ht (λb hb=>bQ.2 (.inl hb)),q4.mono λb hb hA=>⟨hsub b hA,rfl⟩⟩
def Fn.aGw{args':aa AV}{σr:aa cn}(h:Fn P f args' [] Φ)(hv:∀(A:Nat->Prop) (w:World) (us:aa Value),Hd A σr w->bO A w args us->bO (λb=>A b\/b∈bC σr) w args' us)
  (hc:∀av σo,Φ av σo->Cl av/\∀r∈σo,ClR r):Fn P f args σr (λa s=>∃so,Φ a so/\s=so++σr):=λw A vs hrel hd0 hnd0=>by
 have hg:=FI hd0 hnd0;generalize hC:(⟨w,A,bC σr⟩:Cx)=C at hg ⊢;have hal0:∀b,A b->al C σr b:=λb hA=>by
  subst hC;exact⟨.inl hA,λhx=>hd0.2 b hx hA⟩
 have h3:=hv (al C σr) w vs hg.hd (hrel.mono λb _ hA=>⟨hal0 b hA,rfl⟩);refine(h w _ vs h3 ⟨λr hr=>(by cases hr),λb hb=>(by cases hb)⟩ List.nodup_nil).mono λe w' ⟨v,av,σo,q1,q2,q3,q4⟩=> ?_;obtain⟨c1,c2⟩:=hc av σo q2;have ht:=Dr (σp:=[]) (σr:=σr) hg (λb hA _=>hA) q3 (λr hr=>c2 r hr _ _ w' (q3.good.res r hr));exact⟨v,av,σo++σr,q1,⟨σo,q2,rfl⟩,PX (B:=σr) ht (λb hb=>by cases hb),c1 _ _ w' v q4⟩
end
def aFb(n:Nat):AV->Bool:=jI (λ_=>G) n
def Ea{A:Nat->Prop}{w:World}{cs:aa AV}{v:Value}(h:Rel A w (.fp cs) v):∃(b o:Nat) (us:aa Value),v= .pointer (V ⟨b,o,I⟩)/\b<w.heap.size/\A b/\(∀j v,us[j]? =V v->w.cell? ⟨b,o+j,I⟩=V v)/\bO A w cs us:=by
 generalize ha:b9.fp cs=a at h;cases h with
 |fp cs' b o us hb hA hl hc hr=>cases ha;exact⟨b,o,us,rfl,hb,hA,hc,hl,hr⟩
 |_=>cases ha
def It(lb:Bool)(rd:Nat->af IR)(n:Nat):AV->AV:=Nat.rec (λd=>match d with
 | .own id=>match rd id with
  |some (.row t l)=> .sl t l
  |_=> .own id
 |d=>d) (λ_ ih d=>match d with
 | .own id=>match rd id with
  |some (.row t l)=> .sl t l
  |_=> .own id
 | .ptr id 0=>match lb with
  |true=>match rd id with
   |some (.box _ cs)=> .fp (cs.map ih)
   |_=> .ptr id 0
  |false=> .ptr id 0
 | .agg cs=> .agg (cs.map ih)
 | .fn f cs=> .fn f (cs.map ih)
 |d=>d) n
def abr{R:bt}{S:Gh}{A:Nat->Prop}{w:World}{v:Value}{id T:Nat}{cs:aa AV}(hd:Hd A (bt.res S R) w)(hg:gJ R id=V (.box T cs))(hr:Rel A w ((b9.ptr (dh:=U.dh) id 0).sub S) v):
  Rel (λb=>A b\/b∈bC (bt.res S R)) w (.fp (cs.map (b9.sub S))) v:=by
 obtain⟨i,hi,_⟩:=eT hg;have hres:=iD (S:=S) hi;rw[fM]at hr;exact Vw.box i hres A w v hd hr
def XP{lb:Bool}{R:bt}{S:Gh}{A:Nat->Prop}{w:World}(hd:Hd A (bt.res S R) w):∀(n:Nat) {d:AV} {v:Value},Rel (λb=>A b\/b∈bC (bt.res S R)) w (d.sub S) v->Rel (λb=>A b\/b∈bC (bt.res S R)) w ((It lb (gJ R) n d).sub S) v:=by
 have hown:∀{id:Nat} {v:Value},Rel (λb=>A b\/b∈bC (bt.res S R)) w ((b9.own (dh:=U.dh) id).sub S) v->Rel (λb=>A b\/b∈bC (bt.res S R)) w ((match gJ R id with
  |some (.row t l)=>b9.sl t l
  |_=> .own id).sub S) v:=λ{id v} h=>by
  rw[dz]at h;rw[h.cM];exact ae0 hd (by rw[dz];exact .lit _)
 intro n;induction n with
 |zero=>
  intro d v h;cases d<;>first|exact h|exact hown h
 |succ n ih=>
  have hL:∀{cs:aa AV} {us:aa Value},bO (λb=>A b\/b∈bC (bt.res S R)) w (cs.map (b9.sub S)) us->bO (λb=>A b\/b∈bC (bt.res S R)) w ((cs.map (It lb (gJ R) n)).map (b9.sub S)) us:=λ{cs us} h=>
   ⟨by simpa using h.1,λj a u q1 q2=>by
    rw[yw,ye]at q1;obtain⟨c,hc,rfl⟩:=zl.1 q1;exact ih (h.2 j _ u (by rw[ye,hc];rfl) q2)⟩
  intro d v h;cases d with
  |own id=>exact hown h
  |agg cs=>
   show Rel _ w ((b9.agg (cs.map (It lb (gJ R) n))).sub S) v;rw[fq]at h ⊢;obtain⟨us,rfl,h2⟩:=h.oI;exact Rel.pS (hL h2)
  |fn f cs=>
   show Rel _ w ((b9.fn f (cs.map (It lb (gJ R) n))).sub S) v;rw[tZ]at h ⊢;obtain⟨us,rfl,h2⟩:=h.abD;have h3:=hL h2;exact .fn f _ us h3.1 h3.2
  |ptr id off=>
   cases off with
   |succ o=>exact h
   |zero=>
    cases lb with
    |false=>exact h
    |true=>
     show Rel _ w (b9.sub S (match gJ R id with
      |some (.box _ cs)=> .fp (cs.map (It O (gJ R) n))
      |_=> .ptr id 0)) v
     split
     ·rename_i T cs hg;have h0:Rel A w ((b9.ptr (dh:=U.dh) id 0).sub S) v:=by
       rw[fM]at h ⊢;rw[h.cM];exact .lit _
      obtain⟨b,o,us,rfl,q1,q2,q3,q4⟩:=Ea (abr hd hg h0);rw[mV];have q5:=hL q4;exact .fp _ b o us q1 q2 q5.1 q3 q5.2
     ·exact h
  |_=>exact h
def lS(l:aa Nat)(n0 nx:Nat)(i:Nat):Nat:=match zB i n0 with
 |true=>l.getD i 0
 |false=>nx+(i-n0)
def Out.okB(n0:Nat)(x:Out):Bool:=yq n0 x.c&&jI (λi=>zB i x.c) 4 x.d&&x.R.all λq=>zB q.1 x.c&&match q.2 with
 | .box _ cs=>cs.all (jI (λi=>zB i x.c) 4)
 | .row _ _=>O
def M0{α Q W:Type}(q:aa AV->bt->af Q)(t:Q->af W)(out:W->Out)(n0:Nat)(args:aa AV)(nx:Nat)(k:AV->bt->Nat->af α)(F:af α)(Rp Rr:bt)(ns:aa Nat):af α:=
 match ze (zR Rp) n0&&args.all (jI (λi=>dG i ns) 4)&&Rp.all (λq=>match q.2 with
  | .box _ cs=>cs.all (jI (λi=>dG i ns) 4)
  | .row _ _=>O)with
 |true=>match q (args.map (lT (mz ns) 4)) (Rp.map λq=>(mz ns q.1,GN (mz ns) q.2))with
  |some g=>match t g with
   |some b=>k (lT (lS ns n0 nx) 4 (out b).d) ((out b).R.map (λq=>(lS ns n0 nx q.1,GN (lS ns n0 nx) q.2))++Rr) (nx+((out b).c-n0))
   |none=>I
  |none=>F
 |false=>F
def ZT{α Q W:Type}(q:aa AV->bt->af Q)(t:Q->af W)(out:W->Out)(n0:Nat)(args:aa AV)(nx:Nat)(k:AV->bt->Nat->af α)(F:af α)(R2:bt×bt):af α:=
 M0 q t out n0 args nx k F R2.1 R2.2 (R2.1.map λq=>q.1)
def orY{Q W:Type}(f0 n0:Nat)(q:aa AV->bt->af Q)(t:Q->af W)(out:W->Out)(F:bq):bq:=λ_ f args R nx k=>match ze f f0 with
 |true=>ZT q t out n0 args nx k (F _ f args R nx k) (kF (reach R 3 (args.flatMap (kJ 4))) R)
 |false=>F _ f args R nx k
def QY{Q:Type}(q:aa AV->bt->af Q)(ca:Q->aa AV)(cr:Q->bt):Prop:=∀xs R g,q xs R=V g->(∀(S:Gh) A w us,bO A w (xs.map (b9.sub S)) us->bO A w ((ca g).map (b9.sub S)) us)/\Kq R (cr g)
def Fn.pre{P:Program}{f:FuncId}{args args':aa AV}{R R':bt}{S:Gh}{Φ:AV->aa cn->Prop}(h:Fn P f args' (bt.res S R') Φ)(ha:∀A w us,bO A w args us->bO A w args' us)(hr:Kq R R'):Fn P f args (bt.res S R) Φ:=λw A vs h1 h2 h3=>by
 have hb:bC (bt.res S R)=bC (bt.res S R'):=Eg hr;rw[hb];refine(h w A vs (ha A w vs h1) ⟨Tj hr h2.1,λb hb'=>h2.2 b (by rw[hb];exact hb')⟩ (by rw[<-hb];exact h3)).mono λe w' ⟨v,av,B',q1,q2,q3,q4⟩=>⟨v,av,B',q1,q2,⟨q3.good,q3.kp,λb hb' hA=> ?_⟩,q4⟩;refine q3.al b hb' ⟨hA.1,?_⟩;rw[<-hb];exact hA.2
def acp{P:Program}{F:bq}{Q W:Type}{f0 n0:Nat}{q:aa AV->bt->af Q}{ca:Q->aa AV}{cr:Q->bt}{t:Q->af W}{out:W->Out}(hF:iN P F)(hf:tO P f0)(hq:QY q ca cr)(hm:∀b,(out b).okB n0=O)
  (h:∀g b,t g=V b->Mo P f0 (ca g) (cr g) n0 (out b)):iN P (orY f0 n0 q t out F):=λα f args R nx k r hr hargs hR=>by
 unfold orY at hr;split at hr
 case h_2=>exact hF α f args R nx k r hr hargs hR
 rename_i hb;have hb:=gU hb;subst hb;unfold ZT at hr;generalize hR2:kF (reach R 3 (args.flatMap (kJ 4))) R=R2 at hr;have hperm:List.Perm R (R2.1++R2.2):=by rw[<-hR2];exact oz _ _
 obtain⟨Rp,Rr⟩:=R2;dsimp only at hr hperm;generalize hns:(Rp.map λq=>q.1)=ns at hr;unfold M0 at hr;split at hr
 case h_2=>exact hF α f args R nx k r hr hargs hR
 rename_i hchk;rw[zi,zi]at hchk;obtain⟨⟨hc0,hc1⟩,hc2⟩:=hchk;have hc0:=gU hc0;split at hr
 case h_2=>exact hF α f args R nx k r hr hargs hR
 rename_i g hg;split at hr
 case h_2=>cases hr
 rename_i b hb;have hlen:zR ns=n0:=by rw[<-hns,zu,hc0]
 have hRs:∀p∈Rp++Rr,p.1<nx/\p.2.cW nx:=λp hp=>hR p (hperm.mem_iff.2 hp);have hnsl:∀i∈ns,i<nx:=λi hi=>by
  rw[<-hns]at hi;obtain⟨p,hp,rfl⟩:=zK.1 hi;exact(hRs p (yI _ hp)).1
 obtain⟨hqa,hqr⟩:=hq _ _ g hg;have hok:=hm b;unfold Out.okB at hok;rw[zi,zi]at hok;obtain⟨⟨ho0,ho1⟩,ho2⟩:=hok;have ho0:n0<=(out b).c:=by simpa using ho0
 refine⟨hf,λS=> ?_⟩
 let ρ0:Gh:=⟨λj=>S.v (ns.getD j 0),λj=>S.b (ns.getD j 0)⟩
 have hp:∀i,dG i ns=O->ρ0.v (mz ns i)=S.v i/\ρ0.b (mz ns i)=S.b i:=λi hi=>by
  have:=vC (gi.1 hi);have e:ns.getD (mz ns i) 0=i:=by rw[wm,this];rfl
  exact⟨by show S.v (ns.getD (mz ns i) 0)=_;rw[e],by show S.b (ns.getD (mz ns i) 0)=_;rw[e]⟩
 have ea:(args.map (lT (mz ns) 4)).map (b9.sub ρ0)=args.map (b9.sub S):=by
  rw[yw];exact zZ λc hc=>jx hp 4 (zx.1 hc1 c hc)
 have er:bt.res ρ0 (Rp.map λq=>(mz ns q.1,GN (mz ns) q.2))=bt.res S Rp:=by
  unfold bt.res;rw[yw];refine zZ λq hq=> ?_;have hm:dG q.1 ns=O:=gi.2 (by rw[<-hns];exact zK.2 ⟨q,hq,rfl⟩);have hbq:=zx.1 hc2 q hq;obtain⟨i,rr⟩:=q;cases rr with
  |row t l=>show cn.row (ρ0.v (mz ns i)) t l= .row (S.v i) t l;rw[(hp i hm).1]
  |box T cs=>
   show cn.box (ρ0.b (mz ns i)) T ((cs.map (lT (mz ns) 4)).map (b9.sub ρ0))= .box (S.b i) T (cs.map (b9.sub S));rw[(hp i hm).2,yw]
   congr 1
   exact zZ λc hc=>jx hp 4 (zx.1 hbq c hc)
 have h1:=Fn.pre (h g b hb ρ0) (hqa ρ0) hqr;rw[ea,er]at h1;have h2:=Fn.afO (σr:=bt.res S Rr) h1;rw[<-k9]at h2;have hp2:List.Perm (bt.res S R) (bt.res S (Rp++Rr)):=hperm.map _;have h3:Fn P f (args.map (b9.sub S)) (bt.res S R) (λa s=>∃so,(∃S':Gh,pU n0 ρ0 S'/\a=(out b).d.sub S'/\List.Perm so (bt.res S' (out b).R))/\s=so++bt.res S Rr):=λw A vs q1 q2 q3=>by
  have hbm:∀x,x∈bC (bt.res S (Rp++Rr))↔x∈bC (bt.res S R):=λx=>(hp2.symm.filterMap _).mem_iff;refine(h2 w A vs q1 ⟨λr hr=>q2.1 r (hp2.mem_iff.2 hr),λx hx=>q2.2 x ((hbm x).1 hx)⟩ ((hp2.filterMap _).nodup_iff.1 q3)).mono λe w' ⟨v,av,B',g1,g2,g3,g4⟩=> ?_;have hal:∀s x,al ⟨w,A,bC (bt.res S (Rp++Rr))⟩ s x->al ⟨w,A,bC (bt.res S R)⟩ s x:=λs x hx=>⟨hx.1.imp id (Or.imp (λh=>(hbm x).1 h) id),hx.2⟩;refine⟨v,av,B',g1,g2,⟨⟨⟨g3.kp.os,g3.kp.tape,g3.kp.output,g3.kp.drawn,g3.kp.size,λk hk hn=>g3.kp.block k hk λhx=>hn ((hbm k).1 hx)⟩,λrr hrr=>(g3.good.res rr hrr).mono (λx _ hA=>⟨hal _ x hA,rfl⟩) (λ_ _=>rfl),g3.good.Il,λx hx=>(g3.good.own x hx).imp (λh=>(hbm x).1 h) id⟩,⟨g3.kp.os,g3.kp.tape,g3.kp.output,g3.kp.drawn,g3.kp.size,λk hk hn=>g3.kp.block k hk λhx=>hn ((hbm k).1 hx)⟩,λx hx hA=> ?_⟩,g4.mono λx _ hA=>⟨hal _ x hA,rfl⟩⟩;have hA':al ⟨w,A,bC (bt.res S (Rp++Rr))⟩ (bt.res S (Rp++Rr)) x:=⟨hA.1.imp id (Or.imp (λh=>(hbm x).2 h) id),λh=>hA.2 ((hbm x).1 h)⟩;exact⟨hal _ x (g3.al x hx hA').1,λh=>hA.2 h⟩
 refine Fn.mono h3 λa s ⟨so,⟨ρ1,g0,g1,g2⟩,g3⟩=> ?_
 let ρ2:Gh:=⟨λi=>if i<nx then S.v i else ρ1.v (n0+(i-nx)),λi=>if i<nx then S.b i else ρ1.b (n0+(i-nx))⟩
 have hag:pU nx S ρ2:=λi hi=>⟨by simp only[ρ2,bJ hi],by simp only[ρ2,bJ hi]⟩;have hb2:∀i,zB i (out b).c=O->(ρ2.v (lS ns n0 nx i)=ρ1.v i/\ρ2.b (lS ns n0 nx i)=ρ1.b i)/\lS ns n0 nx i<nx+((out b).c-n0):=λi hi=>by
  have hi:i<(out b).c:=by simpa using hi
  unfold lS;split
  ·rename_i hlt;have hlt:i<n0:=by simpa using hlt
   obtain⟨e1,e2⟩:=g0 i hlt;have hlt2:i<zR ns:=by rw[hlen];exact hlt
   have hmem:ns.getD i 0∈ns:=by rw[wm,zq hlt2];exact xO hlt2
   have h4:=hnsl _ hmem;refine⟨⟨?_,?_⟩,aq⟩
   ·show (if ns.getD i 0<nx then S.v (ns.getD i 0)else _)=_;rw[bJ h4];exact e1
   ·show (if ns.getD i 0<nx then S.b (ns.getD i 0)else _)=_;rw[bJ h4];exact e2
  ·rename_i hlt;have hlt:¬i<n0:=by
    intro hx;have:zB i n0=O:=by rw[Nat.blt_eq];exact hx
    rw[this]at hlt;cases hlt
   have h5:¬nx+(i-n0)<nx:=aq;have h6:n0+(nx+(i-n0)-nx)=i:=aq;refine⟨⟨?_,?_⟩,aq⟩
   ·show (if nx+(i-n0)<nx then _ else ρ1.v (n0+(nx+(i-n0)-nx)))=_;rw[bN h5,h6]
   ·show (if nx+(i-n0)<nx then _ else ρ1.b (n0+(nx+(i-n0)-nx)))=_;rw[bN h5,h6]
 have hres:bt.res ρ2 ((out b).R.map λq=>(lS ns n0 nx q.1,GN (lS ns n0 nx) q.2))=bt.res ρ1 (out b).R:=by
  unfold bt.res;rw[yw];refine zZ λq hq=> ?_;have hbq:=zx.1 ho2 q hq;rw[zi]at hbq;obtain⟨i,rr⟩:=q;cases rr with
  |row t l=>show cn.row (ρ2.v (lS ns n0 nx i)) t l= .row (ρ1.v i) t l;rw[(hb2 i hbq.1).1.1]
  |box T cs=>
   show cn.box (ρ2.b (lS ns n0 nx i)) T ((cs.map (lT (lS ns n0 nx) 4)).map (b9.sub ρ2))= .box (ρ1.b i) T (cs.map (b9.sub ρ1));rw[(hb2 i hbq.1).1.2,yw]
   congr 1
   exact zZ λc hc=>jx (λi hi=>(hb2 i hi).1) 4 (zx.1 hbq.2 c hc)
 refine⟨_,_,_,hr,aq,l6 (λi hi=>(hb2 i hi).2) 4 ho1,λq hq=> ?_,ρ2,hag,?_,?_⟩
 ·rcases zP.1 hq with hq|hq
  ·obtain⟨q',h4,rfl⟩:=zK.1 hq;have hbq:=zx.1 ho2 q' h4;rw[zi]at hbq;refine⟨(hb2 _ hbq.1).2,?_⟩;obtain⟨i,rr⟩:=q';cases rr with
   |row t l=>trivial
   |box T cs=>
    intro c hc;obtain⟨c',h5,rfl⟩:=zK.1 hc;exact l6 (λi hi=>(hb2 i hi).2) 4 (zx.1 hbq.2 c' h5)
  ·have:=hRs q (yJ _ hq);exact⟨aq,this.2.mono aq⟩
 ·rw[g1];exact(jx (λi hi=>(hb2 i hi).1) 4 ho1).symm
 ·rw[g3,k9,hres,<-bt.cW.res (R:=Rr) (λq hq=>hRs q (yJ _ hq)) hag];exact g2.append_right _
def scD(n:Nat):AV->Bool:=Nat.rec (λd=>match d with
 | .lit _=>O
 | .own _=>O
 | .ptr _ _=>O
 |_=>G) (λ_ ih d=>match d with
 | .lit _=>O
 | .own _=>O
 | .ptr _ _=>O
 | .agg cs=>cs.all ih
 | .jf cs=>cs.all ih
 |_=>G) n
def aaG{S:Gh}:∀(n:Nat) {d:AV},scD n d=O->Cl (d.sub S):=λn=>by
 induction n with
 |zero=>
  intro d h;cases d<;>first|(cases h;done)|(rw[bW];exact .lit _)|(rw[dz];exact .lit _)|(rw[fM];exact .lit _)
 |succ n ih=>
  have hL:∀{cs:aa AV},cs.all (scD n)=O->Mm (cs.map (b9.sub S)):=λ{cs} h=>by
   induction cs with
   |nil=>exact .nil
   |cons c cs ihc=>
    rw[List.all_cons,zi]at h;exact .cons (ih h.1) (ihc h.2)
  intro d h;cases d<;>first|(cases h;done)|(rw[bW];exact .lit _)|(rw[dz];exact .lit _)|(rw[fM];exact .lit _)|skip
  ·rw[fq];exact .agg (hL h)
  ·rw[lB];exact .jf (hL h)
def Xm{n:Nat}{S:Gh}:∀cs:aa AV,cs.all (scD n)=O->Mm (cs.map (b9.sub S))
 |[],_=> .nil
 |c::cs,h=>by
  rw[List.all_cons,zi]at h;exact .cons (aaG n h.1) (Xm cs h.2)
def Out.scB(sc:Nat->Bool)(x:Out):Bool:=scD 4 x.d&&x.R.all λq=>match q.2 with
 | .row t _=>sc t
 | .box _ cs=>cs.all (scD 3)
def ag7{sc:Nat->Bool}(hsc:∀t,sc t=O->∀x,Mm (U.cells t x)){x:Out}(h:x.scB sc=O)(S:Gh):Cl (x.d.sub S)/\∀r∈bt.res S x.R,ClR r:=by
 unfold Out.scB at h;rw[zi]at h;refine⟨aaG 4 h.1,λr hr=> ?_⟩;obtain⟨q,hq,rfl⟩:=zK.1 hr;have hb:=zx.1 h.2 q hq;obtain⟨i,rr⟩:=q;cases rr with
 |row t l=>exact ClR.row (hsc t hb)
 |box T cs=>
  exact ClR.box (Xm cs hb)
def V1{α Q W:Type}(q:aa AV->af Q)(t:Q->af W)(out:W->Out)(args:aa AV)(R:bt)(nx:Nat)(k:AV->bt->Nat->af α)(F:af α):af α:=
 match args.all (aFb 4)with
 |true=>match q args with
  |some g=>match t g with
   |some b=>k (lT (λi=>i+nx) 4 (out b).d) ((out b).R.map (λq=>(q.1+nx,GN (λi=>i+nx) q.2))++R) ((out b).c+nx)
   |none=>I
  |none=>F
 |false=>F
def orL{Q W:Type}(f0:Nat)(lb:Bool)(q:aa AV->af Q)(t:Q->af W)(out:W->Out)(F:bq):bq:=λ_ f args R nx k=>match ze f f0 with
 |true=>V1 q t out (args.map (It lb (gJ R) 3)) R nx k (F _ f args R nx k)
 |false=>F _ f args R nx k
def as3{P:Program}{F:bq}{Q W:Type}{f0:Nat}{lb:Bool}{q:aa AV->af Q}{ca:Q->aa AV}{t:Q->af W}{out:W->Out}{sc:Nat->Bool}(hF:iN P F)(hsc:∀t,sc t=O->∀x,Mm (U.cells t x))(hf:tO P f0)(hq:P8 q ca)(hm:∀b,(out b).okB 0=O)(hs:∀b,(out b).scB sc=O)
  (h:∀g b,t g=V b->Mo P f0 (ca g) [] 0 (out b)):iN P (orL f0 lb q t out F):=λα f args R nx k r hr hargs hR=>by
 unfold orL at hr;split at hr
 case h_2=>exact hF α f args R nx k r hr hargs hR
 rename_i hb;have hb:=gU hb;subst hb;unfold V1 at hr;split at hr
 case h_2=>exact hF α f args R nx k r hr hargs hR
 split at hr
 case h_2=>exact hF α f args R nx k r hr hargs hR
 rename_i g hg;split at hr
 case h_2=>cases hr
 rename_i b hb;obtain⟨hqa,_⟩:=hq _ g hg;have hok:=hm b;unfold Out.okB at hok;rw[zi,zi]at hok;obtain⟨⟨_,ho1⟩,ho2⟩:=hok;refine⟨hf,λS=> ?_⟩;have h1:Fn P f ((ca g).map (b9.sub S)) [] _:=h g b hb S;have h2:=Fn.aGw (args:=args.map (b9.sub S)) (σr:=bt.res S R) h1 (λA w us hd hrel=>by
  refine hqa S _ w us ⟨by simpa using hrel.1,λj a v q1 q2=> ?_⟩;rw[yw,ye]at q1;obtain⟨c,hc,rfl⟩:=zl.1 q1;exact XP hd 3 ((hrel.2 j _ v (by rw[ye,hc];rfl) q2).mono λb _ hA=>⟨.inl hA,rfl⟩)) (λav σo ⟨S',_,e1,e2⟩=>by
   obtain⟨c1,c2⟩:=ag7 hsc (hs b) S';subst e1;exact⟨c1,λr hr=>c2 r (e2.mem_iff.1 hr)⟩)
 have hlt:∀i,zB i (out b).c=O->i+nx<(out b).c+nx:=λi hi=>by rw[Nat.blt_eq]at hi;omega
 refine Fn.mono h2 λa s ⟨s',⟨ρ1,_,g1,g2⟩,g3⟩=> ?_
 let ρ2:Gh:=⟨λi=>if i<nx then S.v i else ρ1.v (i-nx),λi=>if i<nx then S.b i else ρ1.b (i-nx)⟩
 have hag:pU nx S ρ2:=λi hi=>⟨by simp only[ρ2,bJ hi],by simp only[ρ2,bJ hi]⟩;have hp:∀i,zB i (out b).c=O->ρ2.v (i+nx)=ρ1.v i/\ρ2.b (i+nx)=ρ1.b i:=λi _=>by
  have:¬i+nx<nx:=aq;exact⟨by simp only[ρ2,bN this,wL],by simp only[ρ2,bN this,wL]⟩
 have hres:bt.res ρ2 ((out b).R.map λq=>(q.1+nx,GN (λi=>i+nx) q.2))=bt.res ρ1 (out b).R:=by
  unfold bt.res;rw[yw];refine zZ λq hq=> ?_;have hbq:=zx.1 ho2 q hq;rw[zi]at hbq;obtain⟨i,rr⟩:=q;cases rr with
  |row t l=>show cn.row (ρ2.v (i+nx)) t l= .row (ρ1.v i) t l;rw[(hp i hbq.1).1]
  |box T cs=>
   show cn.box (ρ2.b (i+nx)) T ((cs.map (lT (λi=>i+nx) 4)).map (b9.sub ρ2))= .box (ρ1.b i) T (cs.map (b9.sub ρ1));rw[(hp i hbq.1).2,yw]
   congr 1
   exact zZ λc hc=>jx hp 4 (zx.1 hbq.2 c hc)
 refine⟨_,_,_,hr,Nat.le_add_left _ _,l6 hlt 4 ho1,λq hq=> ?_,ρ2,hag,?_,?_⟩
 ·rcases zP.1 hq with hq|hq
  ·obtain⟨q',h4,rfl⟩:=zK.1 hq;have hbq:=zx.1 ho2 q' h4;rw[zi]at hbq;refine⟨hlt _ hbq.1,?_⟩;obtain⟨i,rr⟩:=q';cases rr with
   |row t l=>trivial
   |box T cs=>
    intro c hc;obtain⟨c',h5,rfl⟩:=zK.1 hc;exact l6 hlt 4 (zx.1 hbq.2 c' h5)
  ·exact(hR.mono (Nat.le_add_left _ _)) q hq
 ·rw[g1];exact(jx hp 4 ho1).symm
 ·rw[g3,k9,hres,<-hR.res hag];exact g2.append_right _
def aV{P:Program}:bA P dw:=⟨are,λ_ _ _ _ _ _ _ _=>rfl⟩
def ajI{Q δ:Type}{f0 n0:Nat}{q:aa AV->bt->af Q}{t:Q->af δ}{out:δ->Out}{F:bq}(hN:dX F):dX (orY f0 n0 q t out F):=λα W f args R nx k D=>by
 unfold orY;split
 ·unfold ZT M0;split
  ·split
   ·split<;>rfl
   ·exact hN ..
  ·exact hN ..
 ·exact hN ..
def aj4{Q δ:Type}{f0:Nat}{lb:Bool}{q:aa AV->af Q}{t:Q->af δ}{out:δ->Out}{F:bq}(hN:dX F):dX (orL f0 lb q t out F):=λα W f args R nx k D=>by
 unfold orL;split
 ·unfold V1;split
  ·split
   ·split<;>rfl
   ·exact hN ..
  ·exact hN ..
 ·exact hN ..
def ap5{P:Program}{F:bq}{Q W:Type}{f0 n0:Nat}{q:aa AV->bt->af Q}{ca:Q->aa AV}{cr:Q->bt}{t:Q->af W}{out:W->Out}(hF:bA P F)(hf:tO P f0)(hq:QY q ca cr)(hm:∀b,(out b).okB n0=O)
 (h:∀g b,t g=V b->Mo P f0 (ca g) (cr g) n0 (out b)):bA P (orY f0 n0 q t out F):=⟨acp hF.ok hf hq hm h,ajI hF.nat⟩
def aBC{P:Program}{F:bq}{Q W:Type}{f0:Nat}{lb:Bool}{q:aa AV->af Q}{ca:Q->aa AV}{t:Q->af W}{out:W->Out}{sc:Nat->Bool}(hF:bA P F)(hsc:∀t,sc t=O->∀x,Mm (U.cells t x))(hf:tO P f0)(hq:P8 q ca)(hm:∀b,(out b).okB 0=O)(hs:∀b,(out b).scB sc=O)
 (h:∀g b,t g=V b->Mo P f0 (ca g) [] 0 (out b)):bA P (orL f0 lb q t out F):=⟨as3 hF.ok hsc hf hq hm hs h,aj4 hF.nat⟩
def bF{f:FuncId}:bz dw f:=λ_ _ _ _ _ _ h=>by cases h
def gu{Q W:Type}{f0:Nat}{lb:Bool}{q:aa AV->af Q}{t:Q->af W}{out:W->Out}{F:bq}{f:FuncId}(h:bz F f)(hm:∀b,(out b).R=[]):bz (orL f0 lb q t out F) f:=λargs R nx d R' nx' hr=>by
 unfold orL at hr;split at hr
 ·unfold V1 at hr;split at hr
  ·split at hr
   ·split at hr
    ·simp_all
    ·cases hr
   ·exact h _ _ _ _ _ _ hr
  ·exact h _ _ _ _ _ _ hr
 ·exact h _ _ _ _ _ _ hr
def l8{Q W:Type}{f0 n0:Nat}{q:aa AV->bt->af Q}{t:Q->af W}{out:W->Out}{F:bq}{f:FuncId}(hne:ze f f0=G)(h:bz F f):bz (orY f0 n0 q t out F) f:=λargs R nx d R' nx' hr=>by
 unfold orY at hr;rw[hne]at hr;exact h _ _ _ _ _ _ hr
def cu{α:Type}(b:Bool)(x y:α):(bif b then some x else some y)=some (bif b then x else y):=by cases b<;>rfl
def cQ{α:Type}(p:Prop)[Decidable p](x y:α):(if p then V x else V y)=V (if p then x else y):=by split<;>rfl
def iG{n0:Nat}{args:aa AV}(h:args.all (jI (λi=>zB i n0) 4)=O):∀d∈args,cW n0 d:=λd hd=>(Di 4 (zx.1 h d hd)).mono λi hi=>by rw[Nat.blt_eq]at hi;exact hi
def ij{n0:Nat}{R:bt}(h:R.all (λq=>zB q.1 n0&&match q.2 with
  | .box _ cs=>cs.all (jI (λi=>zB i n0) 4)
  | .row _ _=>O)=O):bt.cW n0 R:=λq hq=>by
 have hb:=zx.1 h q hq;rw[zi,Nat.blt_eq]at hb;refine⟨hb.1,?_⟩;obtain⟨i,rr⟩:=q;cases rr with
 |row t l=>trivial
 |box T cs=>exact iG hb.2
def qy0{Q:Type}(q:aa AV->af Q)(xs:aa AV)(R:bt):af Q:=match R with
 |[]=>q xs
 |_=>I
def aax{Q:Type}{q:aa AV->af Q}{ca:Q->aa AV}(h:P8 q ca):QY (qy0 q) ca (λ_=>[]):=λxs R g hg=>by
 unfold qy0 at hg;split at hg
 ·exact⟨(h xs g hg).1, .nil⟩
 ·cases hg
def qyR{Q δ:Type}(q:aa AV->af Q)(r:bt->af δ)(xs:aa AV)(R:bt):af (Q×δ):=match q xs with
 |some g=>match r R with
  |some h=>V (g,h)
  |none=>I
 |none=>I
def att{Q δ:Type}{q:aa AV->af Q}{ca:Q->aa AV}{r:bt->af δ}{cr:δ->bt}(hq:P8 q ca)(hr:FV r cr):QY (qyR q r) (λg=>ca g.1) (λg=>cr g.2):=λxs R g hg=>by
 unfold qyR at hg;split at hg
 ·rename_i g' h1;split at hg
  ·rename_i h' h2;cases hg;exact⟨(hq xs g' h1).1,hr R h' h2⟩
  ·cases hg
 ·cases hg
open Classical in
def lim{W:Type}(m:Nat->af W):af W:=if h:∃b N,∀n,N<=n->m n=V b then V (Classical.choose h)else I
def dD{W:Type}{m:Nat->af W}{b:W}(h:lim m=V b):∃n,m n=V b:=by
 unfold lim at h;split at h
 ·rename_i hx;cases h;obtain⟨N,hN⟩:=Classical.choose_spec hx;exact⟨N,hN N (zm _)⟩
 ·cases h
def eO{W:Type}{m:Nat->af W}{b:W}(N:Nat)(h:∀n,N<=n->m n=V b):lim m=V b:=by
 have hx:∃b N,∀n,N<=n->m n=V b:=⟨b,N,h⟩;unfold lim;rw[dif_pos hx];obtain⟨M,hM⟩:=Classical.choose_spec hx;have h1:=hM (max M N) (Nat.le_max_left _ _);rw[h (max M N) (Nat.le_max_right _ _)]at h1;exact h1.symm
def J7{P:Program}{f:FuncId}{t:Nat}{x:Out}(h1:∀c,Mo P f [.lit (.slice I 0 c)] [] 0 x)(h2:∀a c,Mo P f [.lit (.slice (V a) 0 c)] [] 0 x):Mo P f [.sl t []] [] 0 x:=λS w A vs hr hd hn=>by
 have hr':bO A w [(b9.sl t []:AV).sub S] vs:=hr;obtain⟨v,us,rfl,h3,h4⟩:=hr'.head;rw[gO]at h3;obtain⟨p,c,g,hv,_⟩:=h3.vK;have hz:us=[]:=xh (by simpa using h4.1);subst hz hv;cases p with
 |none=>exact h1 c S w A _ (bO.cons (by rw[bW];exact .lit _) bO.nil) hd hn
 |some a=>exact h2 a c S w A _ (bO.cons (by rw[bW];exact .lit _) bO.nil) hd hn
def aHk:AV->Bool
 | .lit _=>O
 |_=>G
def WN:∀(cs:aa AV),cs.all aHk=O->Mm cs
 |[],_=> .nil
 |c::cs,h=>by
  rw[List.all_cons,zi]at h;refine .cons ?_ (WN cs h.2);cases c<;>first|(cases h.1;done)|exact .lit _
end Go.Iv
end
noncomputable section
set_option maxRecDepth 100000
namespace Go.Proofs.YtnfljbehcffmcaaGreat
open Go Go.Iv
open Go.IntKind (i64 u64)
def scK:Ky->Bool
 | .k3=>O
 | .k4=>O
 | .k5=>O
 | .k34=>O
 | .k37=>O
 | .k129=>O
 | .k131=>O
 | .k256=>O
 | .k260=>O
 | .k331=>O
 |_=>G
def oF(t:Nat):Bool:=scK (ky t)
def avw:(k:Ky)->scK k=O->(x:GC k)->Mm (ox k x):=by
 intro k h x;cases k<;>first|(cases h;done)|exact WN _ rfl
def di(t:Nat)(h:oF t=O)(x:uni.dh t):Mm (uni.cells t x):=avw (ky t) h x
end Go.Proofs.YtnfljbehcffmcaaGreat
end
noncomputable section
namespace Go.Iv
variable [U:tf] [L:nu]
open Go Go.RowKit
section
variable {W Q δ:Type}
structure Rq (W:Type) where
 f:AV->Option W
 c:W->AV
 ok:PN f c
structure Rl (Q:Type) where
 q:List AV->Option Q
 c:Q->List AV
 ok:P8 q c
def aN:Rq Int:=⟨iF .i64,b9.n .i64, .i .i64⟩
def qi(k:IntKind):Rq Int:=⟨iF k,b9.n k, .i k⟩
def qb:Rq Bool:=⟨Sf,b9.b, .b⟩
def qs:Rq ByteArray:=⟨asS,b9.s, .s⟩
def ql(t:Nat):Rq (aa (U.dh t)):=⟨kj t,b9.sl t, .l t⟩
def qg(t:Nat):Rq (U.dh t):=⟨anq t,λx=> .agg (U.cells t x), .g t⟩
def qp(i o:Nat):Rq Unit:=⟨asP i o,λ_=> .ptr i o, .p i o⟩
def qo(i:Nat):Rq Unit:=⟨asO i,λ_=> .own i, .o i⟩
def qn:Rq Unit:=⟨arY,λ_=> .lit (.slice I 0 0), .ns⟩
def qv:Rq Unit:=⟨arh,λ_=> .lit (.pointer I), .np⟩
def qf(k:Nat)(l:Rl Q):Rq Q:=⟨auM k l.q,λx=> .fn (.func k) (l.c x), .ff k l.ok⟩
def qr(l:Rl Q):Rq Q:=⟨asv l.q,λx=> .fp (l.c x), .fp l.ok⟩
def ln:Rl Unit:=⟨pX,λ_=>[], .nil⟩
def lc(a:Rq W)(l:Rl Q):Rl (W×Q):=⟨dU a.f l.q,λx=>a.c x.1::l.c x.2, .cons a.ok l.ok⟩
abbrev aU(l:Rl Q):Rl (Int×Q):=lc aN l
def lg(t:Nat):Rl (U.dh t):=⟨atj t,λx=>U.cells t x,P8.parse t⟩
structure Re (Q:Type) where
 q:ET->Option Q
 d:Q->Env
 ok:Ql q d
def en:Re Unit:=⟨slN,λ_=>[], .nil⟩
def ec(t:Nat)(a:Rq W)(l:Re Q):Re (W×Q):=⟨slC t a.f l.q,λx=>(t,a.c x.1)::l.d x.2, .cons a.ok l.ok⟩
structure Rs (Q:Type) where
 q:bt->Option Q
 d:Q->bt
 ok:FV q d
def sn:Rs Unit:=⟨rsN,λ_=>[], .nil⟩
def sr(i t:Nat)(l:Rs Q):Rs (aa (U.dh t)×Q):=⟨rsR i t l.q,λx=>(i, .row t x.1)::l.d x.2, .row l.ok⟩
def sb(i t:Nat)(a:Rl W)(l:Rs Q):Rs (W×Q):=⟨avb i t a.q l.q,λx=>(i, .box t (a.c x.1))::l.d x.2, .aEB a.ok l.ok⟩
structure Td (n0:Nat) (Q:Type) where
 rd:St->Option Q
 pat:Q->St
 ok:∀n,sV n0 n rd pat
def Td.r(n0 m:Nat)(e:Re W)(s:Rs δ)(mk:W×δ->Q)(un:Q->W×δ)(h:∀z,un (mk z)=z:=by exact λ_=>rfl):Td n0 Q:=
 ⟨rdM mk (stR m e.q s.q),λx=>tY m e.d s.d (un x),λ_=>(avF e.ok s.ok).m mk λz=>by rw[h]⟩
def Td.c{n0:Nat}(dr ts:aa Nat)(d:Td n0 Q):Td n0 Q:=⟨rdC n0 dr ts d.rd,d.pat,λn=>asj (d.ok n)⟩
def Td.t{n0:Nat}{f:St->St}(h:bX f)(d:Td n0 Q):Td n0 Q:=⟨rdF f d.rd,d.pat,λn=>aqh h (d.ok n)⟩
def Td.lp{n0:Nat}(d:Td n0 Q)(a:Q->af Q)(b:An):An:= .lp Q d.rd d.pat a b
end
def fK(P:Program)(f n0:Nat)(s:St):Out:=match (match nG P f s with
  |some ds=>V (Out.mk (fD ds) (tD s.R n0 (fD ds)) s.nx)
  |none=>I)with
 |some o=>o
 |none=>⟨.jf [],[],0⟩
def aH{α:Type _}{ae:α->Prop}:∀p∈([]:aa α),ae p:=λp h=>by cases h
def aA{α:Type _}{ae:α->Prop}{a:α}{l:aa α}(h:ae a)(t:∀p∈l,ae p):∀p∈a::l,ae p:=λp hp=>(zy.1 hp).elim (λe=>e▸h) (t p)
section
variable {P:Program} {F:bq} {f n0:Nat} {Q δ W:Type}
def HY(P:Program)(f n0:Nat)(a:Rl Q)(s:Rs δ)(d:Td n0 W)(t:Q×δ->af W):Prop:=∀g b,t g=V b->Mo P f (a.c g.1) (s.d g.2) n0 (fK P f n0 (d.pat b))
def HL(P:Program)(f:Nat)(a:Rl Q)(d:Td 0 W)(t:Q->af W):Prop:=∀g b,t g=V b->Mo P f (a.c g) [] 0 (fK P f 0 (d.pat b))
def WX(hF:bA P F){an:An}(fa:fe P F n0 300 f an){a:Rl Q}{s:Rs δ}{d:Td n0 W}{t:Q×δ->af W}(ho:∀p,(match nG P f (d.pat p)with
   |some ds=>V (Out.mk (fD ds) (tD (d.pat p).R n0 (fD ds)) (d.pat p).nx)
   |none=>I)=V (fK P f n0 (d.pat p)))
  (h1:∀g,(a.c g).all (jI (λi=>zB i n0) 4)=O) (h2:∀g,(s.d g).all (λq=>zB q.1 n0&&match q.2 with
  | .box _ cs=>cs.all (jI (λi=>zB i n0) 4)
  | .row _ _=>O)=O) (c:∀g,bV P F 300 an f (a.c g.1) (s.d g.2) n0 d.rd=t g):HY P f n0 a s d t:=
 λg b hb=>(jQ (p:=b) hF fa d.ok ho (iG (h1 g.1)) (ij (h2 g.2)) ((c g).trans hb)).2
def dR(hF:bA P F){an:An}(fa:fe P F 0 300 f an){a:Rl Q}{d:Td 0 W}{t:Q->af W}(ho:∀p,(match nG P f (d.pat p)with
   |some ds=>V (Out.mk (fD ds) (tD (d.pat p).R 0 (fD ds)) (d.pat p).nx)
   |none=>I)=V (fK P f 0 (d.pat p)))
  (h1:∀g,(a.c g).all (jI (λi=>zB i 0) 4)=O) (c:∀g,bV P F 300 an f (a.c g) [] 0 d.rd=t g):HL P f a d t:=
 λg b hb=>(jQ (p:=b) hF fa d.ok ho (iG (h1 g)) (ij rfl) ((c g).trans hb)).2
def eY(P:Program)(f n0:Nat)(a:Rl Q)(s:Rs δ)(d:Td n0 W)(t:Q×δ->af W)(F:bq):bq:=orY f n0 (qyR a.q s.q) t (λx=>fK P f n0 (d.pat x)) F
def eZ(P:Program)(f:Nat)(a:Rl Q)(d:Td 0 W)(t:Q->af W)(F:bq):bq:=orY f 0 (qy0 a.q) t (λx=>fK P f 0 (d.pat x)) F
def eL(P:Program)(f:Nat)(lb:Bool)(a:Rl Q)(d:Td 0 W)(t:Q->af W)(F:bq):bq:=orL f lb a.q t (λx=>fK P f 0 (d.pat x)) F
def CO{a:Rl Q}{s:Rs δ}{d:Td n0 W}{t:Q×δ->af W}(h:HY P f n0 a s d t)(hf:tO P f)(h3:∀b,(fK P f n0 (d.pat b)).okB n0=O)(hF:bA P F):bA P (eY P f n0 a s d t F):=
 ap5 hF hf (att a.ok s.ok) h3 h
def F7{a:Rl Q}{d:Td 0 W}{t:Q->af W}(h:HL P f a d t)(hf:tO P f)(h3:∀b,(fK P f 0 (d.pat b)).okB 0=O)(hF:bA P F):bA P (eZ P f a d t F):=
 ap5 hF hf (aax a.ok) h3 h
def ew{lb:Bool}{sc:Nat->Bool}(hsc:∀t,sc t=O->∀x,Mm (U.cells t x)){a:Rl Q}{d:Td 0 W}{t:Q->af W}(h:HL P f a d t)(hf:tO P f)(h3:∀b,(fK P f 0 (d.pat b)).okB 0=O)(h4:∀b,(fK P f 0 (d.pat b)).scB sc=O)(hF:bA P F):bA P (eL P f lb a d t F):=
 aBC hF hsc hf a.ok h3 h4 h
end
end Go.Iv
end
noncomputable section
namespace Go.Proofs.YtnfljbehcffmcaaGreat
def lV:ByteArray:=ByteArray.mk #[0,1,2,2,3,3,3,3,4,4,4,4,4,4,4,4,5,5,5,5,5,5,5,5,5,5,5,5,5,5,5,5,6,6,6,6,6,6,6,6,6,6,6,6,6,6,6,6,6,6,6,6,6,6,6,6,6,6,6,6,6,6,6,6,7,7,7,7,7,7,7,7,7,7,7,7,7,7,7,7,7,7,7,7,7,7,7,7,7,7,7,7,7,7,7,7,7,7,7,7,7,7,7,7,7,7,7,7,7,7,7,7,7,7,7,7,7,7,7,7,7,7,7,7,7,7,7,7,8,8,8,8,8,8,8,8,8,8,8,8,8,8,8,8,8,8,8,8,8,8,8,8,8,8,8,8,8,8,8,8,8,8,8,8,8,8,8,8,8,8,8,8,8,8,8,8,8,8,8,8,8,8,8,8,8,8,8,8,8,8,8,8,8,8,8,8,8,8,8,8,8,8,8,8,8,8,8,8,8,8,8,8,8,8,8,8,8,8,8,8,8,8,8,8,8,8,8,8,8,8,8,8,8,8,8,8,8,8,8,8,8,8,8,8,8,8,8,8,8,8,8,8,8,8,8,8]
end Go.Proofs.YtnfljbehcffmcaaGreat
end
noncomputable section
namespace Go.Iv
variable [U:tf] [L:nu]
open Go Go.RowKit
def cnY(n0:Nat)(args:aa AV)(Rp:bt)(ns:aa Nat):Bool:=ze (zR Rp) n0&&args.all (jI (λi=>dG i ns) 4)&&Rp.all (λq=>match q.2 with
 | .box _ cs=>cs.all (jI (λi=>dG i ns) 4)
 | .row _ _=>O)
def Yd{Q W α:Type}(t:Q->af W)(K:W->af α)(F za:af α)(o:af Q):af α:=match o with
 |some g=>match t g with
  |some b=>K b
  |none=>za
 |none=>F
def onT{α:Type}(c:Bool)(x y:af α):af α:=match c with
 |true=>x
 |false=>y
def A9{α Q W:Type}(q:aa AV->bt->af Q)(t:Q->af W)(out:W->Out)(n0:Nat)(args:aa AV)(nx:Nat)(k:AV->bt->Nat->af α)(F za:af α)(Rp Rr:bt)(ns:aa Nat):af α:=
 onT (cnY n0 args Rp ns) (Yd t (λb=>k (lT (lS ns n0 nx) 4 (out b).d) ((out b).R.map (λq=>(lS ns n0 nx q.1,GN (lS ns n0 nx) q.2))++Rr) (nx+((out b).c-n0))) F za (q (args.map (lT (mz ns) 4)) (Rp.map λq=>(mz ns q.1,GN (mz ns) q.2)))) F
def ad9{α Q W:Type}(q:aa AV->bt->af Q)(t:Q->af W)(out:W->Out)(n0:Nat)(args:aa AV)(nx:Nat)(k:AV->bt->Nat->af α)(F:af α)(Rp Rr:bt)(ns:aa Nat):M0 q t out n0 args nx k F Rp Rr ns=A9 q t out n0 args nx k F I Rp Rr ns:=rfl
def ahs{Q W α:Type}(t:Q->af W)(K:W->af α)(F:af α)(o:af Q):Yd t K F F o=Yd t K F I o\/Yd t K F F o=F:=by
 unfold Yd;cases o with
 |none=>exact .inr rfl
 |some g=>
  cases h:t g with
  |none=>exact .inr (by simp only[h])
  |some b=>exact .inl (by simp only[h])
def Zm{α Q W:Type}(q:aa AV->bt->af Q)(t:Q->af W)(out:W->Out)(n0:Nat)(args:aa AV)(nx:Nat)(k:AV->bt->Nat->af α)(F:af α)(Rp Rr:bt)(ns:aa Nat):
  A9 q t out n0 args nx k F F Rp Rr ns=M0 q t out n0 args nx k F Rp Rr ns\/A9 q t out n0 args nx k F F Rp Rr ns=F:=by
 rw[ad9];unfold A9;cases cnY n0 args Rp ns with
 |false=>exact .inr rfl
 |true=>exact ahs ..
def Su{Q W:Type}(f0 n0:Nat)(q:aa AV->bt->af Q)(t:Q->af W)(out:W->Out)(F:bq):bq:=λ_ f args R nx k=>match ze f f0 with
 |true=>A9 q t out n0 args nx k (F _ f args R nx k) (F _ f args R nx k) (kF (reach R 3 (args.flatMap (kJ 4))) R).1 (kF (reach R 3 (args.flatMap (kJ 4))) R).2 ((kF (reach R 3 (args.flatMap (kJ 4))) R).1.map λq=>q.1)
 |false=>F _ f args R nx k
def agG{Q W α:Type}(f0 n0:Nat)(q:aa AV->bt->af Q)(t:Q->af W)(out:W->Out)(F:bq)(f:FuncId)(args:aa AV)(R:bt)(nx:Nat)(k:AV->bt->Nat->af α):
  Su f0 n0 q t out F α f args R nx k=orY f0 n0 q t out F α f args R nx k\/Su f0 n0 q t out F α f args R nx k=F α f args R nx k:=by
 unfold Su orY;cases ze f f0 with
 |true=>exact Zm ..
 |false=>exact .inr rfl
def ZQ{Q δ:Type}{f0 n0:Nat}{q:aa AV->bt->af Q}{t:Q->af δ}{out:δ->Out}{F:bq}(hN:dX F):dX (Su f0 n0 q t out F):=λα W f args R nx k D=>by
 have hF:=hN α W f args R nx k D;unfold Su A9 onT Yd;cases ze f f0 with
 |false=>exact hF
 |true=>
  cases cnY n0 args (kF (reach R 3 (args.flatMap (kJ 4))) R).1 ((kF (reach R 3 (args.flatMap (kJ 4))) R).1.map λq=>q.1)with
  |false=>exact hF
  |true=>
   simp only;split
   ·split
    ·rfl
    ·exact hF
   ·exact hF
def aqJ{P:Program}{F:bq}{Q W:Type}{f0 n0:Nat}{q:aa AV->bt->af Q}{ca:Q->aa AV}{cr:Q->bt}{t:Q->af W}{out:W->Out}(hF:bA P F)(hf:tO P f0)(hq:QY q ca cr)(hm:∀b,(out b).okB n0=O)
  (h:∀g b,t g=V b->Mo P f0 (ca g) (cr g) n0 (out b)):bA P (Su f0 n0 q t out F):=⟨λα f args R nx k r hr hargs hR=>by
 rcases agG f0 n0 q t out F f args R nx k with e|e
 ·exact acp hF.ok hf hq hm h α f args R nx k r (e▸hr) hargs hR
 ·exact hF.ok α f args R nx k r (e▸hr) hargs hR,ZQ hF.nat⟩
def eZf{Q W:Type}(P:Program)(f:Nat)(a:Rl Q)(d:Td 0 W)(t:Q->af W)(F:bq):bq:=Su f 0 (qy0 a.q) t (λx=>fK P f 0 (d.pat x)) F
def atV{Q W:Type}{P:Program}{f:Nat}{F:bq}{a:Rl Q}{d:Td 0 W}{t:Q->af W}(h:HL P f a d t)(hf:tO P f)(h3:∀b,(fK P f 0 (d.pat b)).okB 0=O)(hF:bA P F):bA P (eZf P f a d t F):=
 aqJ hF hf (aax a.ok) h3 h
end Go.Iv
end
noncomputable section
set_option maxRecDepth 100000
namespace Go.Proofs.YtnfljbehcffmcaaGreat
open Go Go.Iv
open Go.IntKind (i64 u64)
def fO{p:Prop}{_:Decidable p}(h:¬p:=by omega):decide p=G:=bY h
def om{p:Prop}{_:Decidable p}(h:p:=by omega):decide p=O:=b7 h
def gV{p:Prop}{_:Decidable p}{α:Type _}{a b:α}(h:p:=by omega):(if p then a else b)=a:=bJ h
def AJ{p:Prop}{_:Decidable p}{α:Type _}{a b:α}(h:¬p:=by omega):(if p then a else b)=b:=bN h
abbrev EO(e:bq->bq):Prop:=∀{F:bq},bA vi F->bA vi (e F)
abbrev EP(e:bq->bq):Prop:=∀{F:bq} {f:Nat},bz F f->bz (e F) f
def kP{f:Nat}{lb:Bool}{Q W:Type}{a:Rl Q}{d:Td 0 W}{t:Q->af W}{F:bq}{g:Nat}(h:bz F g)(hm:∀b,(fK vi f 0 (d.pat b)).R=[]:=by intro _;kernel_rfl):bz (eL vi f lb a d t F) g:=gu h hm
def aO{F:bq}{n0 nt:Nat}{c:Code}{W:Type}{b:An}{n:W->af (af W)}(d:Td n0 W)(h:∀p,jM vi F nt 300 c b (af W) (d.pat p) (kOn d.rd)=n p:=by intro _;kernel_rfl):ES vi F n0 nt 300 (c,d.lp (bI n) b):=⟨d.ok _,pE h⟩
def kL{f:Nat}{lb:Bool}{fn:Func}{F za:bq}{an:An}{Q W:Type}{a:Rl Q}{d:Td 0 W}{t:Q->af W}{l:aa (Code×An)}
  (hf:vi.funcs[f]? =V fn) (hF:bA vi F) (h:∀p∈l,ES vi F 0 fn.ntmps 300 p) (hG:bA vi za)
  (hb:fn.body.isNone=G:=by kernel_rfl) (ho:Y0 (uH fn) an=l:=by kernel_rfl)
  (h0:∀p,(match nG vi f (d.pat p)with
   |some ds=>V (Out.mk (fD ds) (tD (d.pat p).R 0 (fD ds)) (d.pat p).nx)
   |none=>I)=V (fK vi f 0 (d.pat p)):=by intro _;kernel_rfl)
  (h1:∀g,(a.c g).all (jI (λi=>zB i 0) 4)=O:=by intro _;kernel_rfl)
  (c:∀g,bV vi F 300 an f (a.c g) [] 0 d.rd=t g:=by intro _;kernel_rfl)
  (h2:(fn.name=="runtime.NumGoroutine")=G:=by kernel_rfl)
  (h3:∀b,(fK vi f 0 (d.pat b)).okB 0=O:=by intro _;kernel_rfl) (h4:∀b,(fK vi f 0 (d.pat b)).scB oF=O:=by intro _;kernel_rfl):bA vi (eL vi f lb a d t za):=
 ew (sc:=oF) di (dR hF (b6 hf (bM hb) ho h) (λp=>by have:=h0 p;revert this;cases nG vi f (d.pat p)<;>exact id) h1 c) ⟨_,hf,h2,hb⟩ h3 h4 hG
def kZ{f:Nat}{fn:Func}{F za:bq}{an:An}{Q W:Type}{a:Rl Q}{d:Td 0 W}{t:Q->af W}{l:aa (Code×An)}
  (hf:vi.funcs[f]? =V fn) (hF:bA vi F) (h:∀p∈l,ES vi F 0 fn.ntmps 300 p) (hG:bA vi za)
  (hb:fn.body.isNone=G:=by kernel_rfl) (ho:Y0 (uH fn) an=l:=by kernel_rfl)
  (h0:∀p,(match nG vi f (d.pat p)with
   |some ds=>V (Out.mk (fD ds) (tD (d.pat p).R 0 (fD ds)) (d.pat p).nx)
   |none=>I)=V (fK vi f 0 (d.pat p)):=by intro _;kernel_rfl)
  (h1:∀g,(a.c g).all (jI (λi=>zB i 0) 4)=O:=by intro _;kernel_rfl)
  (c:∀g,bV vi F 300 an f (a.c g) [] 0 d.rd=t g:=by intro _;kernel_rfl)
  (h2:(fn.name=="runtime.NumGoroutine")=G:=by kernel_rfl)
  (h3:∀b,(fK vi f 0 (d.pat b)).okB 0=O:=by intro _;kernel_rfl):bA vi (eZ vi f a d t za):=
 F7 (dR hF (b6 hf (bM hb) ho h) (λp=>by have:=h0 p;revert this;cases nG vi f (d.pat p)<;>exact id) h1 c) ⟨_,hf,h2,hb⟩ h3 hG
def kZf{f:Nat}{fn:Func}{F za:bq}{an:An}{Q W:Type}{a:Rl Q}{d:Td 0 W}{t:Q->af W}{l:aa (Code×An)}
  (hf:vi.funcs[f]? =V fn) (hF:bA vi F) (h:∀p∈l,ES vi F 0 fn.ntmps 300 p) (hG:bA vi za)
  (hb:fn.body.isNone=G:=by kernel_rfl) (ho:Y0 (uH fn) an=l:=by kernel_rfl)
  (h0:∀p,(match nG vi f (d.pat p)with
   |some ds=>V (Out.mk (fD ds) (tD (d.pat p).R 0 (fD ds)) (d.pat p).nx)
   |none=>I)=V (fK vi f 0 (d.pat p)):=by intro _;kernel_rfl)
  (h1:∀g,(a.c g).all (jI (λi=>zB i 0) 4)=O:=by intro _;kernel_rfl)
  (c:∀g,bV vi F 300 an f (a.c g) [] 0 d.rd=t g:=by intro _;kernel_rfl)
  (h2:(fn.name=="runtime.NumGoroutine")=G:=by kernel_rfl)
  (h3:∀b,(fK vi f 0 (d.pat b)).okB 0=O:=by intro _;kernel_rfl):bA vi (eZf vi f a d t za):=
 atV (dR hF (b6 hf (bM hb) ho h) (λp=>by have:=h0 p;revert this;cases nG vi f (d.pat p)<;>exact id) h1 c) ⟨_,hf,h2,hb⟩ h3 hG
def kY{f n0:Nat}{fn:Func}{F za:bq}{an:An}{Q δ W:Type}{a:Rl Q}{s:Rs δ}{d:Td n0 W}{t:Q×δ->af W}{l:aa (Code×An)}
  (hf:vi.funcs[f]? =V fn) (hF:bA vi F) (h:∀p∈l,ES vi F n0 fn.ntmps 300 p) (hG:bA vi za)
  (hb:fn.body.isNone=G:=by kernel_rfl) (ho:Y0 (uH fn) an=l:=by kernel_rfl)
  (h0:∀p,(match nG vi f (d.pat p)with
   |some ds=>V (Out.mk (fD ds) (tD (d.pat p).R n0 (fD ds)) (d.pat p).nx)
   |none=>I)=V (fK vi f n0 (d.pat p)):=by intro _;kernel_rfl)
  (h1:∀g,(a.c g).all (jI (λi=>zB i n0) 4)=O:=by intro _;kernel_rfl)
  (h1':∀g,(s.d g).all (λq=>zB q.1 n0&&match q.2 with
  | .box _ cs=>cs.all (jI (λi=>zB i n0) 4)
  | .row _ _=>O)=O:=by intro _;kernel_rfl)
  (c:∀g,bV vi F 300 an f (a.c g.1) (s.d g.2) n0 d.rd=t g:=by intro _;kernel_rfl)
  (h2:(fn.name=="runtime.NumGoroutine")=G:=by kernel_rfl)
  (h3:∀b,(fK vi f n0 (d.pat b)).okB n0=O:=by intro _;kernel_rfl):bA vi (eY vi f n0 a s d t za):=
 CO (WX hF (b6 hf (bM hb) ho h) (λp=>by have:=h0 p;revert this;cases nG vi f (d.pat p)<;>exact id) h1 (λg=>Eq.trans (by congr 1;funext q;obtain⟨i,r⟩:=q;cases r<;>rfl) (h1' g)) c) ⟨_,hf,h2,hb⟩ h3 hG
def LP{F:bq}{p:Nat->Bool}(h:bA vi F):bA vi (tF vi F p 300 10):=⟨Ar h.ok h.nat 300 10,se h.nat 300 10⟩
abbrev azq:=Int×Int
def d352:Td 0 azq:= .c [] [4,5] (.r 0 0 (ec 4 (qi .u64) (ec 5 (qi .u64) en)) sn (λz=>(z.1.1,z.1.2.1)) (λx=>((x.1,x.2,()),(()))))
def afe(a0:Int)(a1:Int):azq:=
 (bE (bE (bE (cT u64 a0 (32)*cT u64 a1 (32))+cT u64 (bE (bE (cT u64 a0 (32)*ur u64 a1 (4294967295))+cT u64 (bE (ur u64 a0 (4294967295)*ur u64 a1 (4294967295))) (32))) (32))+cT u64 (bE (ur u64 (bE (bE (cT u64 a0 (32)*ur u64 a1 (4294967295))+cT u64 (bE (ur u64 a0 (4294967295)*ur u64 a1 (4294967295))) (32))) (4294967295)+bE (ur u64 a0 (4294967295)*cT u64 a1 (32)))) (32)),bE (a0*a1))
def aEM:=eL vi 352 G (lc (qi .u64) (lc (qi .u64) ln)) d352 (λg=>V (afe g.1 g.2.1))
def air:EO aEM:=λh=>kL (an:= .no) func352 aV aH h
abbrev aC7:=Int
def d301:Td 0 aC7:= .c [] [2] (.r 0 0 (ec 2 aN en) sn (λz=>z.1.1) (λx=>((x,()),(()))))
def alq(a0:Int):af aC7:=
 bif J (4294967296<=a0)then bif J (65536<=cT u64 a0 32)then bif J (256<=cT u64 (cT u64 a0 32) 16)then if 0<=IntKind.u8.wrap (cT u64 (cT u64 (cT u64 a0 ((32:Int))) ((16:Int))) ((8:Int)))/\IntKind.u8.wrap (cT u64 (cT u64 (cT u64 a0 ((32:Int))) ((16:Int))) ((8:Int)))<256then V (aj (56+aj (cw lV (IntKind.u8.wrap (cT u64 (cT u64 (cT u64 a0 32) 16) 8)).toNat)))else I else if 0<=IntKind.u8.wrap (cT u64 (cT u64 a0 ((32:Int))) ((16:Int)))/\IntKind.u8.wrap (cT u64 (cT u64 a0 ((32:Int))) ((16:Int)))<256then V (aj (48+aj (cw lV (IntKind.u8.wrap (cT u64 (cT u64 a0 32) 16)).toNat)))else I else bif J (256<=cT u64 a0 32)then if 0<=IntKind.u8.wrap (cT u64 (cT u64 a0 ((32:Int))) ((8:Int)))/\IntKind.u8.wrap (cT u64 (cT u64 a0 ((32:Int))) ((8:Int)))<256then V (aj (40+aj (cw lV (IntKind.u8.wrap (cT u64 (cT u64 a0 32) 8)).toNat)))else I else if 0<=IntKind.u8.wrap (cT u64 a0 ((32:Int)))/\IntKind.u8.wrap (cT u64 a0 ((32:Int)))<256then V (aj (32+aj (cw lV (IntKind.u8.wrap (cT u64 a0 32)).toNat)))else I else bif J (65536<=a0)then bif J (256<=cT u64 a0 16)then if 0<=IntKind.u8.wrap (cT u64 (cT u64 a0 ((16:Int))) ((8:Int)))/\IntKind.u8.wrap (cT u64 (cT u64 a0 ((16:Int))) ((8:Int)))<256then V (aj (24+aj (cw lV (IntKind.u8.wrap (cT u64 (cT u64 a0 16) 8)).toNat)))else I else if 0<=IntKind.u8.wrap (cT u64 a0 ((16:Int)))/\IntKind.u8.wrap (cT u64 a0 ((16:Int)))<256then V (aj (16+aj (cw lV (IntKind.u8.wrap (cT u64 a0 16)).toNat)))else I else bif J (256<=a0)then if 0<=IntKind.u8.wrap (cT u64 a0 ((8:Int)))/\IntKind.u8.wrap (cT u64 a0 ((8:Int)))<256then V (aj (8+aj (cw lV (IntKind.u8.wrap (cT u64 a0 8)).toNat)))else I else if 0<=IntKind.u8.wrap a0/\IntKind.u8.wrap a0<256then V (aj (0+aj (cw lV (IntKind.u8.wrap a0).toNat)))else I
def aGT:=eL vi 301 G (lc (qi .u64) ln) d301 (λg=>alq g.1)
def amg:EO aGT:=λh=>kL (an:= .no) func301 aV aH h
abbrev ayH:=Int
def d358:Td 0 ayH:= .c [] [2] (.r 0 0 (ec 2 aN en) sn (λz=>z.1.1) (λx=>((x,()),(()))))
def arW(a0:Int):af ayH:=
 match alq a0 with|I=>I|V r1=>V (aj (64-r1))
def ayN:=eL vi 358 G (lc (qi .u64) ln) d358 (λg=>arW g.1)
def ajA:EO ayN:=λh=>kL (an:= .no) func358 (amg aV) aH h
def aA9:bq:=(ayN dw)
structure mU where
 (t2 t8 t9 t10 t14 t15 t16 t17 t18:Int)
def SY:Td 0 mU:= .c [] [2,8,9,10,14,15,16,17,18] (.r 0 0 (ec 2 (qi .u64) (ec 8 (qi .u64) (ec 9 (qi .u64) (ec 10 (qi .u64) (ec 14 (qi .u64) (ec 15 (qi .u64) (ec 16 (qi .u64) (ec 17 (qi .u64) (ec 18 (qi .u64) en))))))))) sn (λz=>⟨z.1.1,z.1.2.1,z.1.t.1,z.1.t.2.1,z.1.q.1,z.1.q.2.1,z.1.q.t.1,z.1.q.t.2.1,z.1.q.q.1⟩) (λx=>((x.t2,x.t8,x.t9,x.t10,x.t14,x.t15,x.t16,x.t17,x.t18,()),(()))))
def Bq(p:mU):af (af mU):=
 match bif J (4294967296<=p.t18)then V (O)else V (J (bE (bE (4294967296*p.t16)+p.t14)<bE (p.t18*p.t10)))with|I=>I|V r2=>bif r2 then bif J (4294967296<=bE (p.t16+p.t9))then V (I)else V (V (mU.mk p.t2 p.t8 p.t9 p.t10 p.t14 p.t15 (bE (p.t16+p.t9)) p.t17 (bE (p.t18-1))))else V (I)
def adN:An:=(.two (.two (.rb [] 113) .no) .no)
def Ef:=bI (Bq)
structure oE where
 (t2 t8 t9 t10 t11 t13 t14 t15 t16:Int)
def SQ:Td 0 oE:= .c [] [2,8,9,10,11,13,14,15,16] (.r 0 0 (ec 2 (qi .u64) (ec 8 (qi .u64) (ec 9 (qi .u64) (ec 10 (qi .u64) (ec 11 (qi .u64) (ec 13 (qi .u64) (ec 14 (qi .u64) (ec 15 (qi .u64) (ec 16 (qi .u64) en))))))))) sn (λz=>⟨z.1.1,z.1.2.1,z.1.t.1,z.1.t.2.1,z.1.q.1,z.1.q.2.1,z.1.q.t.1,z.1.q.t.2.1,z.1.q.q.1⟩) (λx=>((x.t2,x.t8,x.t9,x.t10,x.t11,x.t13,x.t14,x.t15,x.t16,()),(()))))
def AN(p:oE):af (af oE):=
 match bif J (4294967296<=p.t15)then V (O)else V (J (bE (bE (4294967296*p.t16)+p.t13)<bE (p.t15*p.t10)))with|I=>I|V r1=>bif r1 then bif J (4294967296<=bE (p.t16+p.t9))then V (I)else V (V (oE.mk p.t2 p.t8 p.t9 p.t10 p.t11 p.t13 p.t14 (bE (p.t15-1)) (bE (p.t16+p.t9))))else V (I)
def aek:An:=(.two (.two (.rb [] 78) .no) .no)
def IN:=bI (AN)
abbrev aAc:=Int×Int
def d357:Td 0 aAc:= .c [] [6,7] (.r 0 0 (ec 6 (qi .u64) (ec 7 (qi .u64) en)) sn (λz=>(z.1.1,z.1.2.1)) (λx=>((x.1,x.2,()),(()))))
def aou:∀f∈([]:aa Nat),bz (aA9) f:=aH
def acT(a0:Int)(a1:Int)(a2:Int):af aAc:=
 bif J (a2=0)then I else bif J (a2<=a0)then I else bif J (a0=0)then if¬a2=0then if¬a2=0then V ((bE (a1.tdiv a2),a1.tmod a2))else I else I else match arW a2 with|I=>I|V r3=>if 0<=bE r3 then if 0<=bE r3 then if 0<=bE ((64:Int)-bE r3)then if 0<=bE r3 then if¬cT u64 (nh u64 a2 (bE r3)) ((32:Int))=0then match IN (oE.mk (nh u64 a2 (bE r3)) (bE r3) (cT u64 (nh u64 a2 (bE r3)) 32) (ur u64 (nh u64 a2 (bE r3)) 4294967295) (bOr u64 (nh u64 a0 (bE r3)) (cT u64 a1 (bE (64-bE r3)))) (cT u64 (nh u64 a1 (bE r3)) 32) (ur u64 (nh u64 a1 (bE r3)) 4294967295) (bE ((bOr u64 (nh u64 a0 (bE r3)) (cT u64 a1 (bE (64-bE r3)))).tdiv (cT u64 (nh u64 a2 (bE r3)) 32))) (bE (bOr u64 (nh u64 a0 (bE r3)) (cT u64 a1 (bE (64-bE r3)))-bE (bE ((bOr u64 (nh u64 a0 (bE r3)) (cT u64 a1 (bE (64-bE r3)))).tdiv (cT u64 (nh u64 a2 (bE r3)) 32))*cT u64 (nh u64 a2 (bE r3)) 32))))with|I=>I|V r4=>match bif J (4294967296<=r4.t15)then V O else V (J (bE (bE (4294967296*r4.t16)+r4.t13)<bE (r4.t15*r4.t10)))with|I=>I|V r5=>bif r5 then bif J (4294967296<=bE (r4.t16+r4.t9))then if¬r4.t9=0then match Ef (mU.mk r4.t2 r4.t8 r4.t9 r4.t10 r4.t14 (bE (r4.t15-1)) (bE (bE (bE (bE (r4.t11*4294967296)+r4.t13)-bE (bE (r4.t15-1)*r4.t2))-bE (bE ((bE (bE (bE (r4.t11*4294967296)+r4.t13)-bE (bE (r4.t15-1)*r4.t2))).tdiv r4.t9)*r4.t9))) (bE (bE (bE (r4.t11*4294967296)+r4.t13)-bE (bE (r4.t15-1)*r4.t2))) (bE ((bE (bE (bE (r4.t11*4294967296)+r4.t13)-bE (bE (r4.t15-1)*r4.t2))).tdiv r4.t9)))with|I=>I|V r6=>match bif J (4294967296<=r6.t18)then V O else V (J (bE (bE (4294967296*r6.t16)+r6.t14)<bE (r6.t18*r6.t10)))with|I=>I|V r7=>bif r7 then bif J (4294967296<=bE (r6.t16+r6.t9))then if 0<=r6.t8 then V ((bE (bE (r6.t15*4294967296)+bE (r6.t18-1)),cT u64 (bE (bE (bE (r6.t17*4294967296)+r6.t14)-bE (bE (r6.t18-1)*r6.t2))) r6.t8))else I else I else if 0<=r6.t8 then V ((bE (bE (r6.t15*4294967296)+r6.t18),cT u64 (bE (bE (bE (r6.t17*4294967296)+r6.t14)-bE (r6.t18*r6.t2))) r6.t8))else I else I else I else if¬r4.t9=0then match Ef (mU.mk r4.t2 r4.t8 r4.t9 r4.t10 r4.t14 r4.t15 (bE (bE (bE (bE (r4.t11*4294967296)+r4.t13)-bE (r4.t15*r4.t2))-bE (bE ((bE (bE (bE (r4.t11*4294967296)+r4.t13)-bE (r4.t15*r4.t2))).tdiv r4.t9)*r4.t9))) (bE (bE (bE (r4.t11*4294967296)+r4.t13)-bE (r4.t15*r4.t2))) (bE ((bE (bE (bE (r4.t11*4294967296)+r4.t13)-bE (r4.t15*r4.t2))).tdiv r4.t9)))with|I=>I|V r8=>match bif J (4294967296<=r8.t18)then V O else V (J (bE (bE (4294967296*r8.t16)+r8.t14)<bE (r8.t18*r8.t10)))with|I=>I|V r9=>bif r9 then bif J (4294967296<=bE (r8.t16+r8.t9))then if 0<=r8.t8 then V ((bE (bE (r8.t15*4294967296)+bE (r8.t18-1)),cT u64 (bE (bE (bE (r8.t17*4294967296)+r8.t14)-bE (bE (r8.t18-1)*r8.t2))) r8.t8))else I else I else if 0<=r8.t8 then V ((bE (bE (r8.t15*4294967296)+r8.t18),cT u64 (bE (bE (bE (r8.t17*4294967296)+r8.t14)-bE (r8.t18*r8.t2))) r8.t8))else I else I else I else I else I else I else I
def aE0:=eL vi 357 G (lc (qi .u64) (lc (qi .u64) (lc (qi .u64) ln))) d357 (λg=>acT g.1 g.2.1 g.t.1)
def akG:EO aE0:=λh=>kL (F:=aA9) (an:=(noTwo (noTwo (noTwo (noTwo (noTwo (noTwo (noTwo (noTwo (noTwo (noTwo (noTwo (noTwo (noTwo (noTwo (.two (SQ.lp IN aek) (noTwo (noTwo (noTwo (.two (SY.lp Ef adN) .no)))))))))))))))))))) (l:=[(aZ f357 0,(SQ.lp IN aek)),(.skip,(.rb [] 78)),(aZ f357 1,(SY.lp Ef adN)),(.skip,(.rb [] 113))]) func357 (ajA aV) (aA (aO SQ) (aA aou (aA (aO SY) (aA aou aH)))) h
abbrev ayn:=Int
def d353:Td 0 ayn:= .c [] [6] (.r 0 0 (ec 6 (qi .u64) en) sn (λz=>z.1.1) (λx=>((x,()),(()))))
def asU(a0:Int)(a1:Int)(a2:Int):af ayn:=
 if¬a2=0then match acT (a0.tmod a2) a1 a2 with|I=>I|V r1=>V (r1.snd)else I
def aGk:=eL vi 353 G (lc (qi .u64) (lc (qi .u64) (lc (qi .u64) ln))) d353 (λg=>asU g.1 g.2.1 g.t.1)
def afC:EO aGk:=λh=>kL (an:= .no) func353 (akG aV) aH h
abbrev aDn:=Int
def d340:Td 0 aDn:= .c [] [6] (.r 0 0 (ec 6 aN en) sn (λz=>z.1.1) (λx=>((x,()),(()))))
def ahF(a0:Int)(a1:Int)(a2:Int):af aDn:=
 match asU (afe (bE a0) (bE a1)).fst (afe (bE a0) (bE a1)).snd (bE a2)with|I=>I|V r1=>V (aj r1)
def aDk:=eL vi 340 G (aU (aU (aU ln))) d340 (λg=>ahF g.1 g.2.1 g.t.1)
def ahA:EO aDk:=λh=>kL (an:= .no) func340 (afC (air aV)) aH h
end Go.Proofs.YtnfljbehcffmcaaGreat
end
