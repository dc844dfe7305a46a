/- Merged: Iw9, Iw10, Iw11, Iw12, Iw13, Iw14, Iw15, Ixa, Ix1, Ix2, Ua, Ix3, Ix4, Us, Iz, Hl, Ix5, Ix6, Um, Hm. -/
import Derived.Test.YtnfljbehcffmcaaGreatM1RefineSplits
import Derived.Test.YtnfljbehcffmcaaGreatProg
open List renaming length -> zR
open Nat renaming beq -> ze, le_refl -> zm, blt -> zB, lt_succ_self -> zC, le_trans -> zH, le_succ -> ye, zero_add -> yj, ble -> yq, zero_le -> yW, eq_of_beq_eq_true -> xx, sub_self -> xS, add_sub_cancel -> wJ
open List renaming length_append -> zg, replicate -> zj, mem_cons_self -> zk, length_map -> zn, mem_singleton -> zq, getElem?_eq_getElem -> zu, all_eq_true -> zx, mem_cons -> zy, mem_cons_of_mem -> zJ, map_append -> zK, mem_map -> zL, mem_append -> zP, map_congr_left -> zZ, mem_filter -> z7, getElem?_eq_some_iff -> z8, map_cons -> yc, getElem?_map -> yf, map_map -> yx, append_nil -> yy, mem_append_left -> yH, mem_append_right -> yI, length_cons -> yM, nodup_append -> yO, flatMap_cons -> yQ, replicate_succ -> yR, append_assoc -> yS, filter_cons -> yX, size_toArray -> y7, eq_nil_of_length_eq_zero -> xh, getElem?_append -> xy, mem_flatMap -> xA, filterMap_cons -> xE, getElem_mem -> xN, filter_filter -> wk, getD_eq_getElem?_getD -> wm, filter_congr -> wH, eraseIdx_sublist -> wT, filter_eq_nil_iff -> wU, getElem?_replicate -> wW, getElem?_append_right -> wX, getElem?_append_left -> wY
open Bool renaming and_eq_true -> zh, or_eq_true -> yJ, true -> O, false -> G
open Option renaming map_eq_some_iff -> zl, bind_eq_some_iff -> zo, some -> zF, bind_assoc -> z6, map_some -> yG, some -> V, none -> I
open Array renaming getElem?_eq_getElem -> xe
open Decidable renaming decide -> J
open Go.Proofs.Tryz renaming prog -> vn
open Go.Proofs.Tryz
set_option linter.unusedSectionVars false
set_option linter.unusedVariables false
set_option linter.unusedSimpArgs false
set_option linter.defProp false
noncomputable section
namespace Go.Iv
variable [U:sV] [L:nj]
open Go Go.RowKit
def lm(l:aa Nat):Nat:=List.rec 0 (λt _ ih=>Nat.lor ih (Nat.pow 2 t)) l
def Q6:∀(l:aa Nat) (t:Nat),(lm l).testBit t=O↔t∈l
 |[],t=>by simp[lm]
 |a::l,t=>by
  show ((lm l)|||2^a).testBit t=O↔_;rw[Nat.testBit_or,yJ,Q6 l t,Nat.testBit_two_pow];grind
def and_zero{x y t:Nat}(h:Nat.land x y=0)(hx:x.testBit t=O)(hy:y.testBit t=O):False:=by
 have:=Nat.testBit_and x y t;simp_all
def msk(acc:aa Nat)(es:aa Edge):Nat:=List.rec 0 (λe _ ih=>match Region.binds .any e with
 |true=>Nat.lor ih (Nat.lor (Nat.pow 2 e.on) (acc.getD e.on 0))
 |false=>ih) es
def Jt{acc:aa Nat}:∀{es:aa Edge} {j:Nat},(msk acc es).testBit j=O->∃e∈es,Region.binds .any e=O/\(j=e.on\/(acc.getD e.on 0).testBit j=O)
 |[],j,h=>by simp[msk]at h
 |e::es,j,h=>by
  change (match Region.binds .any e with
   |true=>Nat.lor (msk acc es) (Nat.lor (Nat.pow 2 e.on) (acc.getD e.on 0))
   |false=>msk acc es).testBit j=O at h
  cases hb:Region.binds .any e with
  |false=>
   rw[hb]at h;obtain⟨e',h1,h2⟩:=Jt h;exact⟨e',zJ _ h1,h2⟩
  |true=>
   rw[hb]at h;change ((msk acc es)|||((2^e.on)|||(acc.getD e.on 0))).testBit j=O at h;rw[Nat.testBit_or,Nat.testBit_or,yJ,yJ,Nat.testBit_two_pow]at h;rcases h with h|h|h
   ·obtain⟨e',h1,h2⟩:=Jt h;exact⟨e',zJ _ h1,h2⟩
   ·exact⟨e,zk,hb, .inl (by simp only[decide_eq_true_eq]at h;exact h.symm)⟩
   ·exact⟨e,zk,hb, .inr h⟩
def MR(l:aa Oper):aa Nat->aa Nat:=List.rec (λacc=>acc) (λo _ ih acc=>ih (acc++[msk acc o.after.toList])) l
def Rdy(bs:aa Bool)(o:Oper):Prop:=∀e∈o.after.toList,Region.binds .any e=O->bs[e.on]? =V O
def Fz(ops:aa Oper)(bs:aa Bool):Prop:=∀(i:Nat) o,ops[i]? =V o->bs[i]? =V O->Rdy bs o
def adj(ops:aa Oper)(acc:aa Nat):Prop:=∀(i m:Nat) o,acc[i]? =V m->ops[i]? =V o->∀bs,Fz ops bs->Rdy bs o->∀j,m.testBit j=O->bs[j]? =V O
def Xu(ops:aa Oper):∀(l:aa Oper) (acc:aa Nat),(∃pre,ops=pre++l/\zR pre=zR acc)->adj ops acc->adj ops (MR l acc)
 |[],acc,_,h=>h
 |o::l,acc,⟨pre,hp,hl⟩,h=>by
  refine Xu ops l _ ⟨pre++[o],by rw[hp];simp,by simp[hl]⟩ λi m o' hm ho bs hc hr j hj=> ?_;rw[xy]at hm;split at hm
  ·exact h i m o' hm ho bs hc hr j hj
  ·rename_i hlt;have hi:i=zR acc:=by
    have:=(z8.1 hm).1;simp at this;omega
   subst hi;rw[xS]at hm;cases hm;have ho':o'=o:=by
    simp_all
   subst ho';obtain⟨e,h1,h2,h3⟩:=Jt hj;have h4:=hr e h1 h2;rcases h3 with rfl|h3
   ·exact h4
   ·cases ha:acc[e.on]? with
    |none=>rw[wm,ha]at h3;simp at h3
    |some m'=>
     rw[wm,ha]at h3;have hlt':=(z8.1 ha).1;cases hoe:ops[e.on]? with
     |none=>
      rw[List.getElem?_eq_none_iff,hp,zg]at hoe;omega
     |some oe=>exact h e.on m' oe ha hoe bs hc (hc e.on oe hoe h4) j h3
def aAB:Operand->aa Nat
 | .tmp t=>[t]
 |_=>[]
def apJ(ops:Array Oper)(o:Oper):aa Nat:=match o.guard with
 |none=>[]
 |some (j,_)=>match (ops[j]?).bind (·.dst)with
  |some t=>[t]
  |none=>[]
def dw(ops:Array Oper)(o:Oper):aa Nat:=o.op.operands.toList.flatMap aAB++apJ ops o
def efk(o:Oper):Bool:=match o.op with
 | .store _ _ _=>O
 | .buildSlice _ _ _=>O
 | .makeSlice _ _ _=>O
 | .alloc _=>O
 | .box _ _=>O
 | .slice _ _ _ _ _=>O
 | .call {callee:= .builtin .len, ..}=>G
 | .call {callee:= .builtin .max, ..}=>G
 | .call {callee:= .builtin .min, ..}=>G
 | .call _=>O
 |_=>G
def dmk:af Nat->Nat
 |none=>0
 |some t=>Nat.pow 2 t
def Dv{d:af Nat}{t:Nat}(h:d=V t):(dmk d).testBit t=O:=by
 subst h;show (2^t).testBit t=O;simp
structure Sk where
 (anc sm dm:Nat)
 ef:Bool
def ZG(j:Nat)(a b:Sk):Bool:=b.anc.testBit j||(ze (Nat.land a.dm b.sm) 0&&ze (Nat.land a.dm b.dm) 0&&ze (Nat.land b.dm a.sm) 0)
def Wo(b:Sk)(i:Nat)(l:aa Sk):Nat->af (aa (Nat×Nat)):=List.rec (λ_=>V []) (λa _ ih j=>match ZG j a b with
 |true=>match !b.anc.testBit j&&(a.ef||b.ef)with
  |true=>(ih (j+1)).map λps=>(j,i)::ps
  |false=>ih (j+1)
 |false=>I) l
def aoB(l:aa Sk):aa Sk->Nat->af (aa (Nat×Nat)):=List.rec (λ_ _=>V []) (λb _ ih pre i=>(Wo b i pre 0).bind λps=>(ih (pre++[b]) (i+1)).map λqs=>ps++qs) l
def FT{b:Sk}{i:Nat}:∀{l:aa Sk} {k:Nat} {ps:aa (Nat×Nat)},Wo b i l k=V ps->∀(j:Nat) a,l[j]? =V a->ZG (k+j) a b=O/\(b.anc.testBit (k+j)=O\/(a.ef||b.ef)=G\/(k+j,i)∈ps)
 |[],k,ps,_,j,a,h=>by cases h
 |a0::l,k,ps,hs,j,a,h=>by
  change (match ZG k a0 b with
   |true=>match !b.anc.testBit k&&(a0.ef||b.ef)with
    |true=>(Wo b i l (k+1)).map λps=>(k,i)::ps
    |false=>Wo b i l (k+1)
   |false=>I)=V ps at hs
  cases h0:ZG k a0 b with
  |false=>rw[h0]at hs;cases hs
  |true=>
   rw[h0]at hs;cases h1:(!b.anc.testBit k&&(a0.ef||b.ef))with
   |true=>
    rw[h1]at hs;obtain⟨ps',h2,rfl⟩:=zl.1 hs;cases j with
    |zero=>cases h;exact⟨h0, .inr (.inr zk)⟩
    |succ j=>
     obtain⟨h3,h4⟩:=FT h2 j a h;rw[show k+1+j=k+(j+1)from aq]at h3 h4;exact⟨h3,h4.imp id (λh=>h.imp id λh=>zJ _ h)⟩
   |false=>
    rw[h1]at hs;cases j with
    |zero=>
     cases h;refine⟨h0,?_⟩;cases hb:b.anc.testBit k with
     |true=>exact .inl rfl
     |false=>rw[hb]at h1;exact .inr (.inl (by simpa using h1))
    |succ j=>
     obtain⟨h3,h4⟩:=FT hs j a h;rw[show k+1+j=k+(j+1)from aq]at h3 h4;exact⟨h3,h4⟩
def NM:∀{l pre:aa Sk} {k:Nat} {ps:aa (Nat×Nat)},aoB l pre k=V ps->zR pre=k->∀(i j:Nat) a b,j<i->k<=i->(pre++l)[j]? =V a->(pre++l)[i]? =V b->ZG j a b=O/\(b.anc.testBit j=O\/(a.ef||b.ef)=G\/(j,i)∈ps)
 |[],pre,k,ps,_,hk,i,j,a,b,_,hki,_,hb=>by
  rw[yy]at hb;have:=(z8.1 hb).1;omega
 |b0::l,pre,k,ps,hs,hk,i,j,a,b,hji,hki,ha,hb=>by
  obtain⟨p1,h1,hs⟩:=zo.1 hs;obtain⟨p2,h2,rfl⟩:=zl.1 hs;by_cases hik:i=k
  ·subst hik;rw[wX aq,hk,xS]at hb;cases hb;rw[wY aq]at ha;have:=FT h1 j a ha;rw[yj]at this;exact⟨this.1,this.2.imp id λh=>h.imp id λh=>yH _ h⟩
  ·have h3:=NM h2 (by simp[hk]) i j a b hji aq (by simpa using ha) (by simpa using hb);exact⟨h3.1,h3.2.imp id λh=>h.imp id λh=>yI _ h⟩
def aAd(ops:Array Oper)(l:aa Oper):aa Nat->aa Sk:=List.rec (λ_=>[]) (λo _ ih ms=>match ms with
 |m::ms=>⟨m,lm (dw ops o),dmk o.dst,efk o⟩::ih ms
 |[]=>[]) l
def plan(ops:Array Oper):af (aa (Nat×Nat)):=aoB (aAd ops ops.toList (MR ops.toList [])) [] 0
def aeE(l:aa Oper):∀acc:aa Nat,zR (MR l acc)=zR acc+zR l:=by
 induction l with
 |nil=>intro acc;rfl
 |cons o l ih=>intro acc;show zR (MR l (acc++[_]))=_;rw[ih];simp;omega
def EB(ops:Array Oper):∀(l:aa Oper) (ms:aa Nat) (i:Nat) (o:Oper) (m:Nat),l[i]? =V o->ms[i]? =V m->(aAd ops l ms)[i]? =V ⟨m,lm (dw ops o),dmk o.dst,efk o⟩
 |[],_,_,_,_,h,_=>by cases h
 |o0::l,[],_,_,_,_,h=>by cases h
 |o0::l,m0::ms,i,o,m,h1,h2=>by
  cases i with
  |zero=>cases h1;cases h2;rfl
  |succ i=>exact EB ops l ms i o m h1 h2
def ahv(xs:aa Nat)(Lo:bt)(ys:aa Nat):Bool:=xs.all (λi=> !dF i ys)&&Lo.all λp=> !dF p.1 ys
def cfD(c d:Rc):Bool:=(!c.ef||ahv c.wr c.Lo d.rd)&&(!d.ef||ahv d.wr d.Lo c.rd)
def aec(ps:aa (Nat×Nat))(cs:aa Rc):Bool:=ps.all λp=>match cs[p.1]?,cs[p.2]? with
 |some c,V d=>cfD c d
 |_,_=>G
def VW{xs ys:aa Nat}{Lo:bt}(h:ahv xs Lo ys=O):(∀i∈xs,i∉ys)/\∀p∈Lo,p.1∉ys:=by
 unfold ahv at h;simp only[zh,zx,Bool.not_eq_true']at h;exact⟨λi hi=>jv.1 (h.1 i hi),λp hp=>jv.1 (h.2 p hp)⟩
def aiF{ops:Array Oper}{ps:aa (Nat×Nat)}{cs:aa Rc}(hp:plan ops=V ps)(ho:aec ps cs=O)(hcs:∀(i:Nat) c,cs[i]? =V c->∃o,ops.toList[i]? =V o/\c.dst=o.dst/\c.sl=dw ops o/\(c.ef=O->efk o=O)/\∀i∈c.wr,i∈c.rd)
  {i j:Nat} {c d:Rc} (hji:j<i) (hc:cs[j]? =V c) (hd:cs[i]? =V d):
  CF c d\/∀bs,Fz ops.toList bs->(∀o,ops.toList[i]? =V o->Rdy bs o)->bs[j]? =V O:=by
 obtain⟨o1,h1,h2,h3,h4,h5⟩:=hcs j c hc;obtain⟨o2,g1,g2,g3,g4,g5⟩:=hcs i d hd;have hl1:=(z8.1 h1).1;have hl2:=(z8.1 g1).1;have hml:zR (MR ops.toList [])=zR ops.toList:=by rw[aeE];simp
 obtain⟨m1,hm1⟩:∃m,(MR ops.toList [])[j]? =V m:=⟨_,zu (by rw[hml];exact hl1)⟩;obtain⟨m2,hm2⟩:∃m,(MR ops.toList [])[i]? =V m:=⟨_,zu (by rw[hml];exact hl2)⟩;have s1:=EB ops ops.toList _ j o1 m1 h1 hm1;have s2:=EB ops ops.toList _ i o2 m2 g1 hm2;obtain⟨q1,q2⟩:=NM hp rfl i j _ _ hji (yW _) s1 s2;have hmsk:adj ops.toList (MR ops.toList []):=Xu ops.toList ops.toList [] ⟨[],rfl,rfl⟩ λi m o h=>by cases h
 by_cases ha:m2.testBit j=O
 ·exact .inr λbs hcl hr=>hmsk i m2 o2 hm2 g1 bs hcl (hr o2 g1) j ha
 ·refine .inl ?_;have ha':m2.testBit j=G:=by simpa using ha
  unfold ZG at q1;simp only[ha',Bool.false_or,zh]at q1;obtain⟨⟨r1,r2⟩,r3⟩:=q1;have r1:=gU r1;have r2:=gU r2;have r3:=gU r3;have hdyn:(c.ef||d.ef)=G\/cfD c d=O:=by
   rcases q2 with q2|q2|q2
   ·exact ei q2 ha
   ·simp only[Bool.or_eq_false_iff]at q2;left;have e1:c.ef=G:=by
     simp_all
    have e2:d.ef=G:=by
     simp_all
    rw[e1,e2];rfl
   ·right;have:=zx.1 ho _ q2;simp only[hc,hd]at this;omega
  refine⟨λt ht=>⟨λhm=> ?_,λe=> ?_⟩,λt ht hm=> ?_,λhe=> ?_,λhe=> ?_⟩
  ·rw[h2]at ht;rw[g3]at hm;exact and_zero r1 (Dv ht) ((Q6 _ _).2 hm)
  ·rw[h2]at ht;rw[g2]at e;exact and_zero r2 (Dv ht) (Dv e)
  ·rw[g2]at ht;rw[h3]at hm;exact and_zero r3 (Dv ht) ((Q6 _ _).2 hm)
  ·rcases hdyn with h|h
   ·rw[he]at h;simp at h
   ·unfold cfD at h;simp only[he,zh,yJ,Bool.not_eq_true']at h;have q:=VW (h.1.resolve_left (by simp));exact⟨q.1,q.2,λp hp hx=>q.2 p hp (g5 _ hx)⟩
  ·rcases hdyn with h|h
   ·rw[he]at h;simp at h
   ·unfold cfD at h;simp only[he,zh,yJ,Bool.not_eq_true']at h;have q:=VW (h.2.resolve_left (by simp));exact⟨q.1,q.2,λp hp hx=>q.2 p hp (h5 _ hx)⟩
def IR.gY(p:Nat->Prop):IR->Prop
 | .box _ cs=>∀c∈cs,Iv.gY p c
 | .row _ _=>True
def bt.gY(p:Nat->Prop)(R:bt):Prop:=∀q∈R,p q.1/\q.2.gY p
def IR.gY.mono{p q:Nat->Prop}{r:IR}(h:r.gY p)(hn:∀i,p i->q i):r.gY q:=by
 cases r with
 |box T cs=>exact λc hc=>(h c hc).mono hn
 |row t l=>trivial
def bt.gY.mono{p q:Nat->Prop}{R:bt}(h:bt.gY p R)(hn:∀i,p i->q i):bt.gY q R:=λx hx=>⟨hn _ (h x hx).1,(h x hx).2.mono hn⟩
def bt.gY.res{p:Nat->Prop}{R:bt}{ρ ρ':Gh}(h:bt.gY p R)(ha:Ags p ρ ρ'):bt.res ρ R=bt.res ρ' R:=zZ λq hq=>by
 obtain⟨h1,h2⟩:=h q hq;obtain⟨i,r⟩:=q;cases r with
 |box T cs=>simp only[IR.res];rw[(ha i h1).2,Iv.gY.adw h2 ha]
 |row t l=>simp only[IR.res];rw[(ha i h1).1]
def bt.gY.perm{p:Nat->Prop}{R R':bt}(h:bt.gY p R)(hp:List.Perm R R'):bt.gY p R':=λq hq=>h q (hp.mem_iff.2 hq)
def bt.cW.lts{n:Nat}{R:bt}(h:bt.cW n R):bt.gY (λi=>i<n) R:=λq hq=>⟨(h q hq).1,by
 have:=(h q hq).2;cases hr:q.2 with
 |box T cs=>rw[hr]at this;exact this
 |row t l=>trivial⟩
def bt.gY.sE{n:Nat}{R:bt}(h:bt.gY (λi=>i<n) R):bt.cW n R:=λq hq=>⟨(h q hq).1,by
 have:=(h q hq).2;cases hr:q.2 with
 |box T cs=>rw[hr]at this;exact this
 |row t l=>trivial⟩
def uI(f:Fr)(sl:aa Nat):Env:=sl.filterMap λt=>(f t).map λd=>(t,d)
def Eg{f:Fr}{t:Nat}{d:AV}:∀{sl:aa Nat},(uI f sl).get t=V d->f t=V d
 |[],h=>by cases h
 |s::sl,h=>by
  unfold uI at h;rw[xE]at h;cases hs:f s with
  |none=>
   rw[hs]at h;exact Eg (sl:=sl) h
  |some e=>
   rw[hs]at h;simp only[yG]at h;unfold Env.get at h;cases hb:ze s t with
   |true=>
    simp_all
   |false=>
    rw[hb]at h;exact Eg (sl:=sl) h
def Kz{f:Fr}{t:Nat}{d:AV}:∀{sl:aa Nat},t∈sl->f t=V d->(uI f sl).get t=V d
 |[],h,_=>by cases h
 |s::sl,h,hf=>by
  unfold uI;rw[xE];by_cases hst:s=t
  ·subst hst;rw[hf];exact Env.fq _ _ _
  ·have ht:t∈sl:=(zy.1 h).resolve_left λe=>hst e.symm;cases f s with
   |none=>exact Kz ht hf
   |some e=>simp only[yG];rw[Env.dV _ _ hst];exact Kz ht hf
def Tk{f g:Fr}{sl:aa Nat}(h:∀t∈sl,f t=g t):uI f sl=uI g sl:=by
 unfold uI;induction sl with
 |nil=>rfl
 |cons s sl ih=>
  rw[xE,xE,h s zk,ih λt ht=>h t (zJ _ ht)]
section
variable {P:Program} {C:Cx} {n:Nat} {o:Oper}
def MtS(C:Cg)(n:Nat)(p:Nat->Prop)(f:Fr)(R:bt)(a:Act)(w:World):Prop:=∃(E:Env) (ρ:Gh),(∀t d,f t=V d->E.get t=V d)/\(∀q∈E,gY p q.2)/\bt.gY p R/\pU C.n C.ρ ρ/\uD C.C n (E.sub ρ) (bt.res ρ R) a w
def qx{ρ:Gh}{R R':bt}(h:List.Perm R R'):List.Perm (bt.res ρ R) (bt.res ρ R'):=h.map _
def lB{ρ:Gh}(R R':bt):bt.res ρ (R++R')=bt.res ρ R++bt.res ρ R':=zK ..
def MtS.perm{C:Cg}{p:Nat->Prop}{f:Fr}{R R':bt}{a:Act}{w:World}(h:MtS C n p f R a w)(hp:List.Perm R R'):MtS C n p f R' a w:=by
 obtain⟨E,ρ,h1,h2,h3,h5,h4⟩:=h;exact⟨E,ρ,h1,h2,h3.perm hp,h5,h4.perm (qx hp)⟩
def Nlc(nx:Nat)(v:AV)(Ro:bt)(ρ:Gh):af AV->aa cn->Prop:=λa σ'=>∃ρ',pU nx ρ ρ'/\(a=V (v.sub ρ')\/a=I/\v= .lit undef)/\List.Perm σ' (bt.res ρ' Ro)
def anp{wr rd:aa Nat}(h:∀i∈wr,i∈rd)(R:bt):List.Perm (iP wr (cC rd R)++iP rd R) (iP wr R):=by
 have e1:iP wr (cC rd R)=(iP wr R).filter λp=>dF p.1 rd:=by
  simp only[iP,cC,wk];grind
 have e2:iP rd R=(iP wr R).filter λp=> !dF p.1 rd:=by
  simp only[iP,wk];refine wH λp _=> ?_;cases hm:dF p.1 rd with
  |true=>rfl
  |false=>
   have:dF p.1 wr=G:=jv.2 λhw=>jv.1 hm (h _ hw);rw[this];rfl
 rw[e1,e2];exact List.filter_append_perm _ _
def arj{C:Cg}{p:Nat->Prop}{f:Fr}{R:bt}{a:Act}{w:World}{c:Rc}{nx nx':Nat}{Q:Exit->Act->World->Prop}{K':Act->World->Prop}
  (hn:C.n<=nx) (hm:MtS C n p f R a w) (hdst:c.dst=o.dst) (hd:NR n o.dst=O) (hwr:∀i∈c.wr,i∈c.rd) (hloc:∀ρ C,Ye P ((uI f c.sl).sub ρ) (bt.res ρ (cC c.rd R)) o C (Nlc nx c.v (match c.ef with|O=>c.Lo++iP c.wr (cC c.rd R)|G=>cC c.rd R) ρ))
  (hp:∀i,p i->¬(nx<=i/\i<nx')) (hv:cW nx' c.v) (hLi:bt.cW nx (cC c.rd R)) (hLo:c.ef=O->bt.cW nx' c.Lo)
  (hv':gY (λi=>p i\/(nx<=i/\i<nx')) c.v) (hLo':c.ef=O->bt.gY (λi=>p i\/(nx<=i/\i<nx')) c.Lo)
  (hK:∀a' w',a'.defers=a.defers->MtS C n (λi=>p i\/(nx<=i/\i<nx')) (c.F f) (c.R R) a' w'->K' a' w'):o.wp P a w K' Q:=by
 obtain⟨E,ρ,h1,h2,h3,h0,hsim0⟩:=hm;have hpm:List.Perm (cC c.rd R++iP c.rd R) R:=List.filter_append_perm _ _;have hsim:=hsim0.perm (qx (ρ:=ρ) hpm.symm);rw[lB]at hsim;generalize hσi:bt.res ρ (cC c.rd R)=σi at hsim;generalize hσr:bt.res ρ (iP c.rd R)=σr at hsim;have hg:=hsim.good;have hlt:∀b∈bD (σi++σr),b<w.heap.size:=λb hb=>by
  obtain⟨s,q1,q2⟩:=bS.1 hb;exact(hg.res s q1).lt q2
 have hal:∀b,al C.C (σi++σr) b->al ⟨w,al C.C (σi++σr),bD σi⟩ σi b:=λb hA=>⟨.inl hA,λhx=>hA.2 (bQ.2 (.inl hx))⟩;have hgood:Good ⟨w,al C.C (σi++σr),bD σi⟩ σi w:=⟨Kp.refl _ _,λr hr=>(hg.res r (yH _ hr)).mono (λb _ hA=>⟨hal b hA,rfl⟩) (λ_ _=>rfl),by
  have:=hg.Hv;rw[ic]at this;exact(yO.1 this).1,λb hb=> .inl hb⟩
 have hops:Qd (al ⟨w,al C.C (σi++σr),bD σi⟩ σi) w ((uI f c.sl).sub ρ) a.eval:=λx u hx=>by
  rw[Env.R7]at hx;obtain⟨d,hd1,rfl⟩:=zl.1 hx;have hE:E.ev x=V d:=by
   cases x with
   |tmp t=>exact h1 t d (Eg hd1)
   |_=>exact hd1
  exact(hsim.slots.ops x (d.sub ρ) (by rw[Env.R7,hE];rfl)).mono λb _ hA=>⟨hal b hA,rfl⟩
 have step:∀(ρ':Gh) (σo:aa cn) (w':World),pU nx ρ ρ'->List.Perm σo (bt.res ρ' (match c.ef with|O=>c.Lo++iP c.wr (cC c.rd R)|G=>cC c.rd R))->Tr ⟨w,al C.C (σi++σr),bD σi⟩ (bD σi) σi w σo w'->
   ∃ρ'':Gh,pU C.n C.ρ ρ''/\c.v.sub ρ'=c.v.sub ρ''/\uD C.C n (E.sub ρ'') (bt.res ρ'' (c.R R)) a w'/\(∀b,b<w'.heap.size->al ⟨w,al C.C (σi++σr),bD σi⟩ σo b->al C.C (bt.res ρ'' (c.R R)) b):=λρ' σo w' ha hσo ht=>by
  let ρ'':Gh:=⟨λi=>if nx<=i/\i<nx' then ρ'.v i else ρ.v i,λi=>if nx<=i/\i<nx' then ρ'.b i else ρ.b i⟩
  have hag:Ags p ρ ρ'':=λi hi=>by
   have:=hp i hi;exact⟨by simp only[ρ'',bO this],by simp only[ρ'',bO this]⟩
  have hag2:pU nx' ρ' ρ'':=λi hi=>by
   by_cases hni:nx<=i
   ·exact⟨by simp only[ρ'',bI (And.intro hni hi)],by simp only[ρ'',bI (And.intro hni hi)]⟩
   ·have h0:¬(nx<=i/\i<nx'):=λh=>hni h.1;obtain⟨a1,a2⟩:=ha i aq;exact⟨by simp only[ρ'',bO h0];exact a1.symm,by simp only[ρ'',bO h0];exact a2.symm⟩
  have hnx:nx<=nx'\/nx'<nx:=aq;have hown:∀b∈bD σo,b∈bD σi\/w.heap.size<=b:=ht.good.own;have hsub:∀b,b<w'.heap.size->al ⟨w,al C.C (σi++σr),bD σi⟩ σo b->al C.C (σo++σr) b:=λb _ hb=>by
   obtain⟨hb1,hb2⟩:=hb;rcases hb1 with hb1|hb1|hb1
   ·exact⟨hb1.1,λhx=>(bQ.1 hx).elim hb2 (λh=>hb1.2 (bQ.2 (.inr h)))⟩
   ·have hbp:b∈bD σi:=hb1;refine⟨?_,λhx=>(bQ.1 hx).elim hb2 (λh=> ?_)⟩
    ·rcases hg.own b (bQ.2 (.inl hbp))with h|h
     ·simp_all
     ·omega
    ·have hdis:=hg.Hv;rw[ic]at hdis;exact(yO.1 hdis).2.2 b hbp b h rfl
   ·have hbw:w.heap.size<=b:=hb1;exact⟨.inr (.inr (zH hg.kept.size hbw)),λhx=>(bQ.1 hx).elim hb2 (λh=>by have:=hlt b (bQ.2 (.inr h));omega)⟩
  have ht2:Tr C.C (bD σi) (σi++σr) w (σo++σr) w':=Dj hg (λb hA _=> .inl hA) ht (λr hr=>(ht.good.res r hr).mono (λb hb hA=>⟨hsub b hb hA,rfl⟩) (λ_ _=>rfl));have hs2:=hsim.tr ht2;have hout:bt.gY p (iP c.rd R):=λq hq=>h3 q (z7.1 hq).1;have hEs:E.sub ρ=E.sub ρ'':=zZ λq hq=>by rw[(h2 q hq).sub hag]
  have hrs:σr=bt.res ρ'' (iP c.rd R):=by rw[<-hσr,hout.res hag]
  have hpo:List.Perm (σo++σr) (bt.res ρ'' (c.R R)):=by
   rw[hrs];unfold Rc.R;cases hce:c.ef with
   |true=>
    rw[hce]at hσo;simp only at hσo ⊢;have hin:bt.gY p (iP c.wr (cC c.rd R)):=λq hq=>h3 q (z7.1 (z7.1 hq).1).1;have hin2:bt.cW nx (iP c.wr (cC c.rd R)):=λq hq=>hLi q (z7.1 hq).1;have e1:bt.res ρ' (iP c.wr (cC c.rd R))=bt.res ρ'' (iP c.wr (cC c.rd R)):=by rw[<-hin2.res ha,hin.res hag]
    rw[lB,e1,(hLo hce).res hag2]at hσo;refine(hσo.append_right _).trans ?_;rw[yS,lB,<-lB (iP c.wr (cC c.rd R))];exact List.Perm.append_left _ (qx (anp hwr R))
   |false=>
    rw[hce]at hσo;have hin:bt.gY p (cC c.rd R):=λq hq=>h3 q (z7.1 hq).1;have e1:bt.res ρ' (cC c.rd R)=bt.res ρ'' (cC c.rd R):=by rw[<-hLi.res ha,hin.res hag]
    rw[e1]at hσo;refine(hσo.append_right _).trans ?_;rw[<-lB];exact qx hpm
  refine⟨ρ'',h0.trans (λi hi=>⟨by simp only[ρ'',bO (show ¬(nx<=i/\i<nx')by omega)],by simp only[ρ'',bO (show ¬(nx<=i/\i<nx')by omega)]⟩) (zm C.n),hv.sub hag2,by rw[<-hEs];exact hs2.perm hpo,λb hb hA=>Vd hpo b (hsub b hb hA)⟩
 have fin:∀(ρ':Gh) (σo:aa cn) (w':World) (v:Value),pU nx ρ ρ'->List.Perm σo (bt.res ρ' (match c.ef with|O=>c.Lo++iP c.wr (cC c.rd R)|G=>cC c.rd R))->Tr ⟨w,al C.C (σi++σr),bD σi⟩ (bD σi) σi w σo w'->
   Rel (al ⟨w,al C.C (σi++σr),bD σi⟩ σo) w' (c.v.sub ρ') v->K' (a.put o.dst v) w':=λρ' σo w' v q1 q2 q3 q4=>by
  obtain⟨ρ'',g1,g2,g3,g4⟩:=step ρ' σo w' q1 q2 q3;have hR':bt.gY (λi=>p i\/(nx<=i/\i<nx')) (c.R R):=by
   unfold Rc.R;cases hce:c.ef with
   |false=>exact h3.mono λi hi=> .inl hi
   |true=>exact λq hq=>(zP.1 hq).elim (hLo' hce q) λhq=>⟨.inl (h3 q (z7.1 hq).1).1,(h3 q (z7.1 hq).1).2.mono λi hi=> .inl hi⟩
  refine hK _ _ (by cases o.dst<;>rfl) ?_;rw[g2]at q4;cases hdo:o.dst with
  |none=>exact⟨E,ρ'',λt d ht=>h1 t d (by unfold Rc.F at ht;rw[hdst,hdo]at ht;simpa using ht),λq hq=>(h2 q hq).mono λi hi=> .inl hi,hR',g1,g3⟩
  |some t=>
   refine⟨(t,c.v)::E,ρ'',λs d hs=> ?_,λq hq=> ?_,hR',g1,?_⟩
   ·unfold Rc.F at hs;rw[hdst,hdo]at hs;by_cases hts:t=s
    ·subst hts;rw[bI rfl]at hs;cases hs;exact Env.fq _ _ _
    ·rw[bO (λe=>hts (zF.inj e))]at hs;rw[Env.dV _ _ hts];exact h1 s d hs
   ·rcases zy.1 hq with rfl|hq
    ·exact hv'
    ·exact(h2 q hq).mono λi hi=> .inl hi
   ·rw[hdo]at hd;exact g3.put hd (q4.mono λb hb hA=>⟨g4 b hb hA,rfl⟩)
 unfold Oper.wp;subst hσi;rcases hloc ρ _ w a.eval hgood hops with ⟨v,w',av,σ',⟨ρ',q1,q2,q3⟩,r1,r2,r3⟩|⟨w',σ',⟨ρ',q1,q2,q3⟩,r1,r2⟩|⟨g,args,r1,r2⟩
 ·rw[r2];rcases q2 with q2|⟨q2,_⟩
  ·cases q2;exact fin ρ' σ' w' v q1 q3 r1 r3
  ·cases q2
 ·rw[r2];rcases q2 with q2|⟨_,q2⟩
  ·cases q2
  ·exact fin ρ' σ' w' undef q1 q3 r1 (by rw[q2,bV];exact .lit _)
 ·rw[r1];refine Calls.mono r2 λee w' ⟨v,av,σ',q0,⟨ρ',q1,q2,q3⟩,s1,s2⟩=> ?_;subst q0;rcases q2 with q2|⟨q2,_⟩
  ·cases q2;exact fin ρ' σ' w' v q1 q3 s1 s2
  ·cases q2
end
end Go.Iv
end
noncomputable section
namespace Go.Iv
variable [U:sV] [L:nj]
open Go Go.RowKit
section
variable {P:Program} {o:Oper} {C:Cx} {N:af AV->aa cn->Prop}
def Ye.YT{E:Env}{R:bt}{ρ:Gh}{id t:Nat}{l:aa (U.dg t)}(hr:gF R id=V (.row t l))
  (h:Ye P (Env.sub ρ (E.map λp=>(p.1,oA id t l 3 p.2))) (bt.res ρ ((k9 id R).map λp=>(p.1,uJ id t l p.2))) o C N):Ye P (E.sub ρ) (bt.res ρ R) o C N:=λw y hg hρ=>by
 obtain⟨i,hi1,_,hi3⟩:=eT hr;have hres:=iD (ρ:=ρ) hi1;have hd:Hd (al C (bt.res ρ R)) [.row (ρ.v id) t l] w:=⟨λr hr=>by
   rw[zq]at hr;rw[hr];exact hg.res _ (List.mem_of_getElem? hres),λb hb hA=>hA.2 (by
   obtain⟨r,h1,h2⟩:=bS.1 hb;rw[zq]at h1;rw[h1]at h2;exact bS.2 ⟨_,List.mem_of_getElem? hres,h2⟩)⟩
 have hle:=Px (C:=C) hres hg;have hbk:bD (bt.res ρ ((k9 id R).map λp=>(p.1,uJ id t l p.2)))=bD ((bt.res ρ R).eraseIdx i):=by
  rw[<-AT,<-hi3];unfold bD bt.res;rw[yx,List.filterMap_map,List.filterMap_map]
  congr 1
  funext p
  obtain⟨q,rr⟩:=p;cases rr<;>rfl
 have hal:∀b,(al C (bt.res ρ R) b\/b∈bD [cn.row (ρ.v id) t l])->al C (bt.res ρ ((k9 id R).map λp=>(p.1,uJ id t l p.2))) b:=λb hb=>by
  have:=hle b hb;exact⟨this.1,by rw[hbk];exact this.2⟩
 have hrel:∀{d:AV} {v:Value},Rel (al C (bt.res ρ R)) w (d.sub ρ) v->Rel (al C (bt.res ρ ((k9 id R).map λp=>(p.1,uJ id t l p.2)))) w ((oA id t l 3 d).sub ρ) v:=λh=>
  (D7 hd 3 h).mono λb _ hA=>⟨hal b hA,rfl⟩
 have hsubb:∀b∈bD (bt.res ρ ((k9 id R).map λp=>(p.1,uJ id t l p.2))),b∈bD (bt.res ρ R):=λb hb=>by
  rw[hbk]at hb;exact qX (λr hr=>(wT _ _).subset hr) b hb
 have hg':Good C (bt.res ρ ((k9 id R).map λp=>(p.1,uJ id t l p.2))) w:=by
  refine⟨hg.kept,λrr hrr=> ?_,?_,λb hb=>hg.own b (hsubb b hb)⟩
  ·obtain⟨p,h1,rfl⟩:=zL.1 hrr;obtain⟨p',h2,rfl⟩:=zL.1 h1;have hm:p'.2.res ρ p'.1∈bt.res ρ R:=by
    rw[hi3]at h2;exact zL.2 ⟨p',List.mem_of_mem_eraseIdx h2,rfl⟩
   have h3:=hg.res _ hm;obtain⟨q,rr⟩:=p';cases rr with
   |row t' l'=>exact h3.mono (λb _ hA=>⟨hal b (.inl hA),rfl⟩) (λ_ _=>rfl)
   |box T cs=>
    obtain⟨us,h4,h5⟩:=h3;refine⟨us,h4,by simpa using h5.1,λj av v q1 q2=> ?_⟩;rw[yx,yf]at q1;obtain⟨c,hc,rfl⟩:=zl.1 q1;exact hrel (h5.2 j (c.sub ρ) v (by rw[yf,hc];rfl) q2)
  ·rw[hbk];exact hg.Hv.sublist ((wT _ _).filterMap _)
 have hops:Qd (al C (bt.res ρ ((k9 id R).map λp=>(p.1,uJ id t l p.2)))) w (Env.sub ρ (E.map λp=>(p.1,oA id t l 3 p.2))) y:=λx u hx=>by
  cases x with
  |tmp k=>
   have hx':Env.get (Env.sub ρ (E.map λp=>(p.1,oA id t l 3 p.2))) k=V u:=hx;rw[Env.fo,eo]at hx';obtain⟨d',h1,rfl⟩:=zl.1 hx';obtain⟨d,h2,rfl⟩:=zl.1 h1;exact hrel (hρ (.tmp k) (d.sub ρ) (by show Env.get (E.sub ρ) k=_;rw[Env.fo,h2];rfl))
  |const v=>exact(hρ (.const v) u hx).mono λb _ hA=>⟨hal b (.inl hA),rfl⟩
  |global g=>exact(hρ (.global g) u hx).mono λb _ hA=>⟨hal b (.inl hA),rfl⟩
  |func f=>exact(hρ (.func f) u hx).mono λb _ hA=>⟨hal b (.inl hA),rfl⟩
 have htr:∀{σ':aa cn} {w':World},Tr C (bD (bt.res ρ ((k9 id R).map λp=>(p.1,uJ id t l p.2)))) (bt.res ρ ((k9 id R).map λp=>(p.1,uJ id t l p.2))) w σ' w'->Tr C (bD (bt.res ρ R)) (bt.res ρ R) w σ' w':=λh=>
  ⟨h.good,⟨h.kp.os,h.kp.tape,h.kp.output,h.kp.drawn,h.kp.size,λk hk hn=>h.kp.block k hk λhx=>hn (hsubb k hx)⟩,λb hb hA=>⟨(h.al b hb (hal b (.inl hA))).1,hA.2⟩⟩
 rcases h w y hg' hops with ⟨v,w',av,σ',h1,h2,h3,h4⟩|⟨w',σ',h1,h2,h3⟩|⟨f,args,h1,h2⟩
 ·exact .inl ⟨v,w',av,σ',h1,htr h2,h3,h4⟩
 ·exact .inr (.inl ⟨w',σ',h1,htr h2,h3⟩)
 ·exact .inr (.inr ⟨f,args,h1,h2.mono λe w' ⟨v,av,σ',q1,q2,q3,q4⟩=>⟨v,av,σ',q1,q2,htr q3,q4⟩⟩)
def aaK(sl:aa Nat)(T:ET)(E:Env):Prop:=∀t∈sl,∀d,cU T t=V d->E.get t=V d
def Ye.kR{sl:aa Nat}{nx:Nat}{ρ:Gh}:∀(ids:aa Nat) (T:ET) (E:Env) (R:bt),aaK sl T E->E.cW nx->bt.cW nx R->
  (∀E',aaK sl (St.kR ⟨T,R,nx⟩ ids).E E'->E'.cW nx->bt.cW nx (St.kR ⟨T,R,nx⟩ ids).R->Ye P (E'.sub ρ) (bt.res ρ (St.kR ⟨T,R,nx⟩ ids).R) o C N)->Ye P (E.sub ρ) (bt.res ρ R) o C N
 |[],T,E,R,hh,hE,hR,h=>h E hh hE hR
 |i::ids,T,E,R,hh,hE,hR,h=>by
  have e0:St.kR ⟨T,R,nx⟩ (i::ids)=(St.Mk ⟨T,R,nx⟩ i).kR ids:=rfl;rw[e0]at h;have key:∀s:St,s.nx=nx->s=⟨s.E,s.R,nx⟩:=λs hs=>by obtain⟨a,b,c⟩:=s;simp only at hs;rw[hs]
  cases hr:gF R i with
  |none=>
   have e1:St.Mk ⟨T,R,nx⟩ i=⟨T,R,nx⟩:=by unfold St.Mk;simp only[hr]
   rw[e1]at h;exact Ye.kR ids T E R hh hE hR h
  |some rr=>
   cases rr with
   |box T0 cs=>
    have e1:St.Mk ⟨T,R,nx⟩ i=⟨T,R,nx⟩:=by unfold St.Mk;simp only[hr]
    rw[e1]at h;exact Ye.kR ids T E R hh hE hR h
   |row t l=>
    have e1:St.Mk ⟨T,R,nx⟩ i=⟨emap (oA i t l 3) T,(k9 i R).map λp=>(p.1,uJ i t l p.2),nx⟩:=by unfold St.Mk;simp only[hr]
    rw[e1]at h;refine Ye.YT hr (Ye.kR ids _ _ _ (λk hk d hd=> ?_) (λp hp=> ?_) (λp hp=> ?_) h)
    ·rw[Ao]at hd;obtain⟨d',h1,rfl⟩:=zl.1 hd;rw[eo,hh k hk d' h1];rfl
    ·obtain⟨p',h1,rfl⟩:=zL.1 hp;exact qT 3 (hE p' h1)
    ·obtain⟨p',h1,rfl⟩:=zL.1 hp;have h2:=Gw (id:=i) hR p' h1;refine⟨h2.1,?_⟩;obtain⟨q,rr⟩:=p';cases rr with
     |row t' l'=>trivial
     |box T0 cs=>
      intro c hc;obtain⟨c',h3,rfl⟩:=zL.1 hc;exact qT 3 (h2.2 c' h3)
end
def evL(sl:aa Nat)(T:ET):Operand->af AV
 | .tmp t=>match dF t sl with
  |true=>cU T t
  |false=>I
 |x=>Jj T x
def lK(R1:bt)(nx:Nat)(fz:Bool)(e:gy):af (AV×Bool×bt×Nat):=V (match e.vl nx with
 |some d=>d
 |none=> .lit undef,match e with
 | .val _=>fz
 |_=>O,e.R R1 nx,e.nx nx)
def adN(P:Program)(F:bu)(o:Oper)(sl:aa Nat)(ids:aa Nat)(s:St):af (AV×Bool×bt×Nat):=St.rec (λE1 R1 nx1=>pI o.op P F (evL sl E1) (gF R1) R1 nx1 (lK R1 nx1 (!ids.isEmpty))) (s.kR ids)
def al3(P:Program)(F:bu)(o:Oper)(sl:aa Nat)(E:ET)(Rl:bt)(nx:Nat):af (AV×Bool×bt×Nat):=adN P F o sl (jb E o.op) ⟨E,Rl,nx⟩
def adZ{α:Type}(P:Program)(F:bu)(o:Oper)(sl:aa Nat)(ids:aa Nat)(D:AV×Bool×bt×Nat->af α)(s:St):af α:=St.rec (λE1 R1 nx1=>pI o.op P F (evL sl E1) (gF R1) R1 nx1 (λe=>D (match e.vl nx1 with
 |some d=>d
 |none=> .lit undef,match e with
 | .val _=>(!ids.isEmpty)
 |_=>O,e.R R1 nx1,e.nx nx1))) (s.kR ids)
def IB{α:Type}(P:Program)(F:bu)(o:Oper)(sl:aa Nat)(E:ET)(Rl:bt)(nx:Nat)(D:AV×Bool×bt×Nat->af α):af α:=adZ P F o sl (jb E o.op) D ⟨E,Rl,nx⟩
def Fh{α:Type}{P:Program}{F:bu}(hN:dU F){o:Oper}{sl:aa Nat}{E:ET}{Rl:bt}{nx:Nat}(D:AV×Bool×bt×Nat->af α):(al3 P F o sl E Rl nx).bind D=IB P F o sl E Rl nx D:=by
 unfold al3 IB adN adZ;generalize St.kR ⟨E,Rl,nx⟩ (jb E o.op)=s1;obtain⟨E1,R1,n1⟩:=s1;exact BG D hN ..
def Wi:∀(ids:aa Nat) (s:St),(s.kR ids).nx=s.nx
 |[],s=>rfl
 |i::ids,s=>by
  show ((s.Mk i).kR ids).nx=s.nx;rw[Wi ids];unfold St.Mk;split<;>rfl
def ah0{P:Program}{F:bu}{o:Oper}{sl:aa Nat}{T:ET}{E:Env}{Rl Lo:bt}{nx nx':Nat}{v:AV}{ef:Bool}(hF:iO P F)(h:al3 P F o sl T Rl nx=V (v,ef,Lo,nx'))(hh:aaK sl T E)(hE:E.cW nx)(hR:bt.cW nx Rl):
  (∀ρ C,Ye P (E.sub ρ) (bt.res ρ Rl) o C (Nlc nx v Lo ρ))/\(ef=G->∀ρ C,Ye P (E.sub ρ) (bt.res ρ Rl) o C (Nlc nx v Rl ρ)):=by
 unfold al3 adN at h;generalize hs:St.kR ⟨T,Rl,nx⟩ (jb T o.op)=s1 at h;have hnx:s1.nx=nx:=by rw[<-hs,Wi]
 obtain⟨E1,R1,n1⟩:=s1;simp only at hnx;subst hnx;have h':pI o.op P F (evL sl E1) (gF R1) R1 n1 (lK R1 n1 (!(jb T o.op).isEmpty))=V (v,ef,Lo,nx'):=h;rw[PE]at h';have main:∀ρ C (Ro:bt),(∀e:gy,lK R1 n1 (!(jb T o.op).isEmpty) e=V (v,ef,Lo,nx')->e.R R1 n1=Ro)->Ye P (E.sub ρ) (bt.res ρ Rl) o C (Nlc n1 v Ro ρ):=λρ C Ro hRo=>by
  refine Ye.kR (sl:=sl) (jb T o.op) T E Rl hh hE hR λE' hh' hE' hR'=> ?_;rw[hs]at hh' hR' ⊢;have hsee:kG (evL sl E1) (gF R1) n1 E' R1:=⟨λx d hx=>by
   cases x with
   |tmp t=>
    unfold evL at hx;simp only at hx;split at hx
    ·rename_i hm;exact hh' t (gd.1 hm) d hx
    ·cases hx
   |_=>exact hx,λ_ _ h=>h,hE',hR'⟩
  have hst:=Is (o:=o) hF hsee rfl h' ρ C;intro w u hg hρ;have conv:∀a σ',Nx R1 n1 (lK R1 n1 (!(jb T o.op).isEmpty)) (v,ef,Lo,nx') ρ a σ'->Nlc n1 v Ro ρ a σ':=λa σ' ⟨e,q1,q2,q3,q4,ρ',q5,q6,q7⟩=>by
   refine⟨ρ',q5,?_,by rw[<-hRo e q1];exact q7⟩;unfold lK at q1;simp only[zF.injEq,Prod.mk.injEq]at q1;cases hv:e.vl n1 with
   |some d=>
    rw[hv]at q1 q6;left;rw[q6,<-q1.1];rfl
   |none=>
    rw[hv]at q1 q6;right;exact⟨q6,q1.1.symm⟩
  rcases hst w u hg hρ with ⟨v',w',av,σ',h1,h2,h3,h4⟩|⟨w',σ',h1,h2,h3⟩|⟨f,args,h1,h2⟩
  ·exact .inl ⟨v',w',av,σ',conv _ _ h1,h2,h3,h4⟩
  ·exact .inr (.inl ⟨w',σ',conv _ _ h1,h2,h3⟩)
  ·exact .inr (.inr ⟨f,args,h1,h2.mono λe w' ⟨v',av,σ',q1,q2,q3,q4⟩=>⟨v',av,σ',q1,conv _ _ q2,q3,q4⟩⟩)
 refine⟨λρ C=>main ρ C Lo λe he=> ?_,λhef ρ C=>main ρ C Rl λe he=> ?_⟩
 ·unfold lK at he;simp only[zF.injEq,Prod.mk.injEq]at he;exact he.2.2.1
 ·unfold lK at he;simp only[zF.injEq,Prod.mk.injEq]at he;cases e with
  |val d=>
   have hemp:jb T o.op=[]:=by
    have h2:(!(jb T o.op).isEmpty)=G:=by rw[<-hef];exact he.2.1
    simpa using h2
   rw[hemp]at hs;have:(⟨T,Rl,n1⟩:St)=⟨E1,R1,n1⟩:=hs;exact(St.mk.inj this).2.1.symm
  |_=>exact ei (he.2.1.trans hef) (by simp)
end Go.Iv
end
noncomputable section
namespace Go.Iv
variable [U:sV] [L:nj]
open Go Go.RowKit
def jF(p:Nat->Bool)(n:Nat):AV->Bool:=Nat.rec (λd=>match d with
 | .lit _=>O
 | .sl _ _=>O
 | .rp _ _=>O
 | .own i=>p i
 | .ptr i _=>p i
 | .ra i _ _ _=>p i
 |_=>G) (λ_ ih d=>match d with
 | .lit _=>O
 | .sl _ _=>O
 | .rp _ _=>O
 | .own i=>p i
 | .ptr i _=>p i
 | .ra i _ _ _=>p i
 | .agg cs=>cs.all ih
 | .jc cs=>cs.all ih
 | .fn _ cs=>cs.all ih
 | .fp cs=>cs.all ih) n
def DB{p:Nat->Bool}:∀(n:Nat) {d:AV},jF p n d=O->gY (λi=>p i=O) d
 |0,d,h=>by
  cases d<;>first|exact .lit _|exact .sl _ _|exact .rp _ _|exact .own _ h|exact .ptr _ _ h|exact .ra _ _ _ _ h|(cases h;done)
 |n+1,d,h=>by
  have hL:∀{cs:aa AV},cs.all (jF p n)=O->∀c∈cs,gY (λi=>p i=O) c:=λh c hc=>DB n (zx.1 h c hc);cases d<;>first|exact .lit _|exact .sl _ _|exact .rp _ _|exact .own _ h|exact .ptr _ _ h|exact .ra _ _ _ _ h|exact .agg _ (hL h)|exact .jc _ (hL h)|exact .fn _ _ (hL h)|exact .fp _ (hL h)
def LV{p:Nat->Prop}:∀(n:Nat) {d:AV},gY p d->∀i∈kT n d,p i
 |0,d,h,i,hi=>by
  cases h<;>simp only[kT,zq,List.not_mem_nil]at hi<;>(subst hi;assumption)
 |n+1,d,h,i,hi=>by
  have hL:∀{cs:aa AV},(∀c∈cs,gY p c)->i∈cs.flatMap (kT n)->p i:=λh hi=>by
   obtain⟨c,h1,h2⟩:=xA.1 hi;exact LV n (h c h1) i h2
  cases h with
  |agg cs h=>exact hL h hi
  |jc cs h=>exact hL h hi
  |fn f cs h=>exact hL h hi
  |own id h=>simp only[kT,zq]at hi;rw[hi];exact h
  |ptr id off h=>simp only[kT,zq]at hi;rw[hi];exact h
  |ra id t m off h=>simp only[kT,zq]at hi;rw[hi];exact h
  |_=>simp[kT]at hi
def Gb(sl:aa Nat)(T:ET):aa Nat:=sl.flatMap λt=>match cU T t with
 |some d=>kT 3 d
 |none=>[]
def abU(R:bt):aa Nat:=R.flatMap λq=>q.1::match q.2 with
 | .box _ cs=>cs.flatMap (kT 3)
 | .row _ _=>[]
def abw(al:aa Nat)(nx nx' i:Nat):Bool:=dF i al||(yq nx i&&zB i nx')
def okR(al:aa Nat)(nx nx':Nat)(R:bt):Bool:=R.all λq=>abw al nx nx' q.1&&match q.2 with
 | .box _ cs=>cs.all (jF (abw al nx nx') 3)
 | .row _ _=>O
def KC{al:aa Nat}{nx nx' i:Nat}(h:abw al nx nx' i=O):i∈al\/(nx<=i/\i<nx'):=by
 unfold abw at h;simp only[yJ,zh,Nat.ble_eq,Nat.blt_eq]at h;exact h.imp gd.1 id
def ar5{al:aa Nat}{nx nx':Nat}{R:bt}(h:okR al nx nx' R=O):bt.gY (λi=>i∈al\/(nx<=i/\i<nx')) R:=λq hq=>by
 have:=zx.1 h q hq;simp only[zh]at this;refine⟨KC this.1,?_⟩;obtain⟨i,r⟩:=q;cases r with
 |row t l=>trivial
 |box T cs=>exact λc hc=>(DB 3 (zx.1 this.2 c hc)).mono λi hi=>KC hi
def aCb(o:Op):Bool:=match o with
 | .move _=>G
 | .assign _=>G
 | .pick _ _ _=>G
 | .unOp _ _ _=>G
 | .nilCheck _=>G
 | .fieldAddr _ _ _=>G
 | .extract _ _=>G
 | .makeFunc _ _ _=>G
 | .alloc _=>G
 |_=>O
def adM(o:Op):Bool:=match o with
 | .call {callee:= .value _, ..}=>O
 |_=>G
def rI(ops:Array Oper)(o:Oper)(E:ET)(R:bt):aa Nat:=match aCb o.op with
 |false=>[]
 |true=>match adM o.op with
  |false=>Gb (dw ops o) E
  |true=>reach R 3 (Gb (dw ops o) E)
def inQ(rd:aa Nat)(R:bt):bt:=match rd with
 |[]=>[]
 |rd=>cC rd R
def acS(rd:aa Nat)(R:bt):inQ rd R=cC rd R:=by
 cases rd with
 |nil=>exact(wU.2 λp _=>by simp[dF]).symm
 |cons a l=>rfl
def rcB(ops:Array Oper)(o:Oper)(E:ET)(Rl:bt)(nx:Nat)(v:AV)(ef:Bool)(Lo:bt)(nx':Nat):Bool:=(λal=>yq nx nx'&&(!ef||efk o)&&jF (abw al nx nx') 4 v&&(!ef||okR al nx nx' Lo)) (Gb (dw ops o) E++abU Rl)
def afF(e:AV->AV->Bool)(l:aa AV):aa AV->Bool:=List.rec (λm=>match m with
 |[]=>O
 |_=>G) (λa _ ih m=>match m with
 |b::m=>e a b&&ih m
 |[]=>G) l
def auf(ih:AV->AV->Bool)(a b:AV):Bool:=match a,b with
 | .own i, .own j=>ze i j
 | .ptr i o, .ptr j p=>ze i j&&ze o p
 | .fn (.func f) cs, .fn (.func g) ds=>ze f g&&afF ih cs ds
 |_,_=>G
def eqA(n:Nat):AV->AV->Bool:=Nat.rec (λ_ _=>G) (λ_ ih=>auf ih) n
def at9(a b:IR):Bool:=match a,b with
 | .box T cs, .box T' ds=>ze T T'&&afF (eqA 2) cs ds
 |_,_=>G
def abb(l:bt):bt->Bool:=List.rec (λm=>match m with
 |[]=>O
 |_=>G) (λa _ ih m=>match m with
 |b::m=>ze a.1 b.1&&at9 a.2 b.2&&ih m
 |[]=>G) l
def Kf{e:AV->AV->Bool}(he:∀a b,e a b=O->a=b):∀{l m:aa AV},afF e l m=O->l=m
 |[],[],_=>rfl
 |[],_::_,h=>by cases h
 |_::_,[],h=>by cases h
 |a::l,b::m,h=>by
  change (e a b&&afF e l m)=O at h;rw[zh]at h;rw[he a b h.1,Kf he h.2]
def aa0:∀(n:Nat) {a b:AV},eqA n a b=O->a=b
 |0,a,b,h=>by cases h
 |n+1,a,b,h=>by
  change auf (eqA n) a b=O at h;unfold auf at h;split at h
  ·rw[gU h]
  ·rw[zh]at h;rw[gU h.1,gU h.2]
  ·rw[zh]at h;rw[gU h.1,Kf (λa b=>aa0 n) h.2]
  ·cases h
def PR:∀{l m:bt},abb l m=O->l=m
 |[],[],_=>rfl
 |[],_::_,h=>by cases h
 |_::_,[],h=>by cases h
 |(i,a)::l,(j,b)::m,h=>by
  change (ze i j&&at9 a b&&abb l m)=O at h;simp only[zh]at h;have h1:=gU h.1.1;subst h1;have h2:=h.1.2;unfold at9 at h2;split at h2
  ·rw[zh]at h2;rw[gU h2.1,Kf (λa b=>aa0 2) h2.2,PR h.2]
  ·cases h2
def trim(K rd:aa Nat)(Rl Lo:bt):aa Nat×bt:=match K.filter λi=>dF i rd with
 |[]=>(rd,Lo)
 |k::K=>match abb (cC (k::K) Lo) (cC (k::K) Rl)with
  |true=>(rd.filter λi=> !dF i (k::K),iP (k::K) Lo)
  |false=>(rd,Lo)
def amI(K rd:aa Nat)(R Lo:bt):(∀i∈(trim K rd (cC rd R) Lo).1,i∈rd)/\(∀q∈(trim K rd (cC rd R) Lo).2,q∈Lo)/\List.Perm Lo ((trim K rd (cC rd R) Lo).2++iP (trim K rd (cC rd R) Lo).1 (cC rd R)):=by
 have h0:iP rd (cC rd R)=[]:=wU.2 λp hp=>by
  have:dF p.1 rd=O:=(z7.1 hp).2;rw[this];simp
 have triv:(∀i∈rd,i∈rd)/\(∀q∈Lo,q∈Lo)/\List.Perm Lo (Lo++iP rd (cC rd R)):=⟨λ_ h=>h,λ_ h=>h,by rw[h0,yy]⟩;unfold trim;split
 ·omega
 ·rename_i k K' hK;split
  case h_2=>exact triv
  rename_i he;have he:=PR he;refine⟨λi hi=>(z7.1 hi).1,λq hq=>(z7.1 hq).1,?_⟩;have e1:iP (rd.filter λi=> !dF i (k::K')) (cC rd R)=cC (k::K') (cC rd R):=by
   refine wH λp hp=> ?_;have hp:dF p.1 rd=O:=(z7.1 hp).2;cases hm:dF p.1 (k::K')with
   |true=>
    rw[jv.2 λhx=> ?_];rfl;simp_all
   |false=>
    rw[gd.2 (z7.2 ⟨gd.1 hp,by rw[hm];rfl⟩)];rfl
  rw[e1,<-he];exact(List.perm_append_comm.trans (List.filter_append_perm _ _)).symm
def partner(ops:Array Oper)(ps:aa (Nat×Nat))(i:Nat):aa Nat:=ps.flatMap λp=>match ze p.1 i with
 |true=>match ops[p.2]? with
  |some o=>match adM o.op with
   |true=>[]
   |false=>dw ops o
  |none=>[]
 |false=>match ze p.2 i with
  |true=>match ops[p.1]? with
   |some o=>match adM o.op with
    |true=>[]
    |false=>dw ops o
   |none=>[]
  |false=>[]
def ae7(ops:Array Oper)(ps:aa (Nat×Nat))(cs:aa Rc)(E:ET):aa Nat:=match ps with
 |[]=>[]
 |p::ps=>Gb (partner ops (p::ps) cs.length) E
def dK2(o:Oper)(sl:aa Nat)(cs:aa Rc)(rd:aa Nat)(E:ET)(R:bt){α:Type}(ih:aa Rc->St->(aa Rc->St->af α)->af α)(k:aa Rc->St->af α)(v:AV)(ef:Bool)(nx':Nat)(t:aa Nat×bt):af α:=
 ih (cs++[⟨o.dst,v,sl,rd,t.1,ef,t.2⟩]) ⟨u6 o.dst v E,match ef with
  |true=>t.2++iP t.1 R
  |false=>R,nx'⟩ k
def dK(ops:Array Oper)(ps:aa (Nat×Nat))(o:Oper)(cs:aa Rc)(rd:aa Nat)(E:ET)(R Rl:bt)(nx:Nat){α:Type}(ih:aa Rc->St->(aa Rc->St->af α)->af α)(k:aa Rc->St->af α)(x:AV×Bool×bt×Nat):af α:=
 match rcB ops o E Rl nx x.1 x.2.1 x.2.2.1 x.2.2.2 with
 |true=>dK2 o (dw ops o) cs rd E R ih k x.1 x.2.1 x.2.2.2 (trim (ae7 ops ps cs E) rd Rl x.2.2.1)
 |false=>I
def awu{α:Type}(P:Program)(F:bu)(ops:Array Oper)(ps:aa (Nat×Nat))(o:Oper)(ih:aa Rc->St->(aa Rc->St->af α)->af α)(cs:aa Rc)(k:aa Rc->St->af α)(E:ET)(R:bt)(nx:Nat)(rd:aa Nat)(Rl:bt):af α:=
 IB P F o (dw ops o) E Rl nx (dK ops ps o cs rd E R Rl nx ih k)
def aGo{α:Type}(P:Program)(F:bu)(ops:Array Oper)(ps:aa (Nat×Nat))(o:Oper)(ih:aa Rc->St->(aa Rc->St->af α)->af α)(cs:aa Rc)(k:aa Rc->St->af α)(s:St):af α:=
 St.rec (λE R nx=>(λrd=>awu P F ops ps o ih cs k E R nx rd (inQ rd R)) (rI ops o E R)) s
def dNo{α:Type}(ops:Array Oper)(o:Oper)(ih:aa Rc->St->(aa Rc->St->af α)->af α)(cs:aa Rc)(k:aa Rc->St->af α)(s:St):af α:=
 ih (cs++[⟨o.dst, .lit undef,dw ops o,[],[],G,[]⟩]) ⟨u6 o.dst (.lit undef) s.E,s.R,s.nx⟩ k
def Zk{α:Type}(P:Program)(F:bu)(n:Nat)(ops:Array Oper)(ps:aa (Nat×Nat))(o:Oper)(ih:aa Rc->St->(aa Rc->St->af α)->af α)(cs:aa Rc)(s:St)(k:aa Rc->St->af α):af α:=match NR n o.dst with
 |true=>gate ops o s (aGo P F ops ps o ih cs k) (dNo ops o ih cs k)
 |false=>I
def ZJ{α:Type}(P:Program)(F:bu)(n:Nat)(ops:Array Oper)(ps:aa (Nat×Nat))(l:aa Oper):aa Rc->St->(aa Rc->St->af α)->af α:=List.rec (λcs s k=>k cs s) (λo _ ih=>Zk P F n ops ps o ih) l
def ade(l:aa Oper):Nat->Bool:=List.rec (λ_=>O) (λo _ ih i=>(o.after.toList.all λe=> !Region.binds .any e||zB e.on i)&&ih (i+1)) l
def O4:∀{l:aa Oper} {k:Nat},ade l k=O->∀(i:Nat) o,l[i]? =V o->∀e∈o.after.toList,Region.binds .any e=O->e.on<k+i
 |[],k,_,i,o,h,_,_,_=>by cases h
 |o0::l,k,hb,i,o,h,e,he,hbe=>by
  change ((o0.after.toList.all λe=> !Region.binds .any e||zB e.on k)&&ade l (k+1))=O at hb;simp only[zh]at hb;cases i with
  |zero=>
   cases h;have:=zx.1 hb.1 e he;rw[hbe]at this;simpa using this
  |succ i=>
   have:=O4 hb.2 i o h e he hbe;omega
def Iy{α:Type}(P:Program)(F:bu)(n:Nat)(ops:Array Oper)(s:St)(k:St->af α):af α:=match P.follows .mixedOrders&&ade ops.toList 0 with
 |true=>match plan ops with
  |some ps=>ZJ P F n ops ps ops.toList [] s λcs s'=>match aec ps cs with
   |true=>k s'
   |false=>I
  |none=>I
 |false=>I
def Gj(ops:Array Oper)(o:Oper)(f:Fr)(wn:Bool):Prop:=match o.guard with
 |none=>wn=O
 |some (j,want)=>∃t,(ops[j]?).bind (·.dst)=V t/\((∃b,f t=V (.lit (.bool b))/\wn=(b==want))\/(∃vs,f t=V (.lit (.tuple vs))/\wn=G))
structure BD (P:Program) (n:Nat) (ops:Array Oper) (o:Oper) (f:Fr) (R:bt) (nx:Nat) (c:Rc) (nx':Nat):Prop where
 dst:c.dst=o.dst
 sl:c.sl=dw ops o
 ef:c.ef=O->efk o=O
 dn:NR n o.dst=O
 le:nx<=nx'
 run:(Gj ops o f G/\c.v= .lit undef/\c.ef=G)\/(Gj ops o f O/\∀ρ C,Ye P ((uI f c.sl).sub ρ) (bt.res ρ (cC c.rd R)) o C (Nlc nx c.v (match c.ef with|O=>c.Lo++iP c.wr (cC c.rd R)|G=>cC c.rd R) ρ))
 wr:∀i∈c.wr,i∈c.rd
 lin:bt.cW nx (cC c.rd R)
 lv:cW nx' c.v
 lo:c.ef=O->bt.cW nx' c.Lo
 ids:∀p:Nat->Prop,(∀t∈c.sl,∀d,f t=V d->gY p d)->bt.gY p (cC c.rd R)->gY (λi=>p i\/(nx<=i/\i<nx')) c.v/\(c.ef=O->bt.gY (λi=>p i\/(nx<=i/\i<nx')) c.Lo)
inductive Ch (P:Program) (n:Nat) (ops:Array Oper):Fr->bt->Nat->List Oper->List Rc->Fr->bt->Nat->Prop
 |nil (f:Fr) (R:bt) (nx:Nat):Ch P n ops f R nx [] [] f R nx
 |cons {f f':Fr} {R R':bt} {nx nx1 nx':Nat} {o:Oper} {os:List Oper} {c:Rc} {cs:List Rc} (h:BD P n ops o f R nx c nx1) (hs:Ch P n ops (c.F f) (c.R R) nx1 os cs f' R' nx'):Ch P n ops f R nx (o::os) (c::cs) f' R' nx'
def asg{α:Type}{r:α}{ops:Array Oper}{o:Oper}{s:St}{yes no:St->af α}(h:gate ops o s yes no=V r){f:Fr}(hf:∀t d,cU s.E t=V d->f t=V d):∃s':St,s'.R=s.R/\s'.nx=s.nx/\(∀t d,cU s'.E t=V d->f t=V d)/\
  ((Gj ops o f O/\yes s'=V r)\/(Gj ops o f G/\no s'=V r)):=by
 unfold gate at h;unfold Gj;split at h
 ·rename_i hg;exact⟨s,rfl,rfl,hf, .inl ⟨by first|rw[hg]|rfl,h⟩⟩
 ·rename_i j want hg;split at h
  ·cases h
  ·rename_i t hj;have hput:∀b,cU s.E t=V (.lit (.bool b))->∀k d,cU (s.gm t b).E k=V d->f k=V d:=λb hb k d hk=>by
    have hk':cU (mX t (.b b) s.E) k=V d:=hk;rcases rJ hk' with ⟨rfl,rfl⟩|⟨_,h2⟩
    ·simp_all
    ·simp_all
   split at h
   ·rename_i b hb;have hfb:=hf _ _ hb;split at h
    ·split at h
     ·exact⟨s.gm t O,rfl,rfl,hput _ hb, .inl ⟨by(try rw[hg]);exact⟨t,hj, .inl ⟨_,hfb,rfl⟩⟩,h⟩⟩
     ·exact⟨s.gm t O,rfl,rfl,hput _ hb, .inr ⟨by(try rw[hg]);exact⟨t,hj, .inl ⟨_,hfb,rfl⟩⟩,h⟩⟩
    ·split at h
     ·exact⟨s.gm t G,rfl,rfl,hput _ hb, .inr ⟨by(try rw[hg]);exact⟨t,hj, .inl ⟨_,hfb,rfl⟩⟩,h⟩⟩
     ·exact⟨s.gm t G,rfl,rfl,hput _ hb, .inl ⟨by(try rw[hg]);exact⟨t,hj, .inl ⟨_,hfb,rfl⟩⟩,h⟩⟩
   ·rename_i vs hb;exact⟨s,rfl,rfl,hf, .inr ⟨by(try rw[hg]);exact⟨t,hj, .inr ⟨_,hf _ _ hb,rfl⟩⟩,h⟩⟩
   ·cases h
def aeG{dst:af Nat}{v:AV}{E:ET}{f:Fr}{c:Rc}(hc:c.dst=dst)(hv:c.v=v)(hf:∀t d,cU E t=V d->f t=V d):∀t d,cU (u6 dst v E) t=V d->c.F f t=V d:=λt d h=>by
 unfold Rc.F;rw[hc,hv];cases dst with
 |none=>simpa using hf t d h
 |some s=>
  rcases rJ h with ⟨rfl,rfl⟩|⟨h1,h2⟩
  ·simp
  ·rw[bO (λe=>h1 (zF.inj e))];simp_all
def Ye.mono{P:Program}{C:Cx}{E:Env}{σ:aa cn}{o:Oper}{N N':af AV->aa cn->Prop}(h:Ye P E σ o C N)(hN:∀a σ',N a σ'->N' a σ'):Ye P E σ o C N':=λw u hg hρ=>by
 rcases h w u hg hρ with ⟨v,w',av,σ',h1,h2,h3⟩|⟨w',σ',h1,h2,h3⟩|⟨f,args,h1,h2⟩
 ·exact .inl ⟨v,w',av,σ',hN _ _ h1,h2,h3⟩
 ·exact .inr (.inl ⟨w',σ',hN _ _ h1,h2,h3⟩)
 ·exact .inr (.inr ⟨f,args,h1,Calls.mono h2 λe w' ⟨v,av,σ',q1,q2,q3⟩=>⟨v,av,σ',q1,hN _ _ q2,q3⟩⟩)
def TJ{α:Type}{r:α}{P:Program}{F:bu}{n:Nat}{ops:Array Oper}{ps:aa (Nat×Nat)}(hF:iO P F)(hN:dU F){k:aa Rc->St->af α}:∀(l:aa Oper) {cs:aa Rc} {s:St} {f:Fr},ZJ P F n ops ps l cs s k=V r->(∀t d,cU s.E t=V d->f t=V d)->(∀t d,f t=V d->cW s.nx d)->bt.cW s.nx s.R->
  ∃(cs':aa Rc) (s':St) (f':Fr),k (cs++cs') s'=V r/\Ch P n ops f s.R s.nx l cs' f' s'.R s'.nx/\(∀t d,cU s'.E t=V d->f' t=V d)
 |[],cs,s,f,h,hf,_,_=>⟨[],s,f,by rw[yy];exact h, .nil f s.R s.nx,hf⟩
 |o::l,cs,s,f,h,hf,hfl,hR=>by
  change Zk P F n ops ps o (ZJ P F n ops ps l) cs s k=V r at h;unfold Zk at h;split at h
  case h_2=>cases h
  rename_i hd;obtain⟨s1,e1,e2,hf1,⟨hg,h1⟩|⟨hg,h1⟩⟩:=asg h hf
  ·obtain⟨E,R,nx⟩:=s1;obtain⟨E0,R0,nx0⟩:=s;simp only at e1 e2 hf1;subst e1 e2;change IB P F o (dw ops o) E (inQ (rI ops o E R) R) nx (dK ops ps o cs (rI ops o E R) E R (inQ (rI ops o E R) R) nx (ZJ P F n ops ps l) k)=V r at h1;rw[<-Fh hN]at h1;generalize hrd:rI ops o E R=rd at h1;obtain⟨⟨v,ef,Lo,nx'⟩,h2,h3⟩:=zo.1 h1;unfold dK at h3;split at h3
   case h_2=>cases h3
   rename_i hb;rw[acS]at h2 hb;simp only at h3 hb;unfold rcB at hb;simp only[zh,Nat.ble_eq,yJ]at hb;obtain⟨⟨⟨hb1,hb2⟩,hb3⟩,hb4⟩:=hb;have hin:bt.cW nx (cC rd R):=λq hq=>hR q (z7.1 hq).1;have hlE:(uI f (dw ops o)).cW nx:=λq hq=>by
    obtain⟨t,_,ht⟩:=List.mem_filterMap.1 hq;obtain⟨d,hd1,hd2⟩:=zl.1 ht;rw[<-hd2];exact hfl t d hd1
   obtain⟨y1,y2⟩:=ah0 hF h2 (E:=uI f (dw ops o)) (λt ht d hdd=>Kz ht (hf1 t d hdd)) hlE hin;have hal:∀p:Nat->Prop,(∀t∈dw ops o,∀d,f t=V d->gY p d)->bt.gY p (cC rd R)->∀i∈Gb (dw ops o) E++abU (cC rd R),p i:=λp hp1 hp2 i hi=>by
    rcases zP.1 hi with hi|hi
    ·obtain⟨t,ht,hi⟩:=xA.1 hi;split at hi
     ·rename_i d hdd;exact LV 3 (hp1 t ht d (hf1 t d hdd)) i hi
     ·cases hi
    ·obtain⟨q,hq,hi⟩:=xA.1 hi;obtain⟨g1,g2⟩:=hp2 q hq;rcases zy.1 hi with rfl|hi
     ·exact g1
     ·obtain⟨j,rr⟩:=q;cases rr with
      |row t l=>cases hi
      |box T cs=>
       obtain⟨c,hc,hi⟩:=xA.1 hi;exact LV 3 (g2 c hc) i hi
   obtain⟨t1,t2,t3⟩:=amI (ae7 ops ps cs E) rd R Lo;rw[acS]at h3;generalize trim (ae7 ops ps cs E) rd (cC rd R) Lo=tr at h3 t1 t2 t3;obtain⟨wr,Lo'⟩:=tr;have hids:∀p:Nat->Prop,(∀t∈dw ops o,∀d,f t=V d->gY p d)->bt.gY p (cC rd R)->gY (λi=>p i\/(nx<=i/\i<nx')) v/\(ef=O->bt.gY (λi=>p i\/(nx<=i/\i<nx')) Lo'):=λp hp1 hp2=>
    ⟨(DB 4 hb3).mono λi hi=>(KC hi).imp (hal p hp1 hp2 i) id,λhe q hq=>((ar5 (hb4.resolve_left (by rw[he];simp))).mono λi hi=>hi.imp (hal p hp1 hp2 i) id) q (t2 q hq)⟩
   obtain⟨g1,g2⟩:=hids (λi=>i<nx) (λt _ d hdd=>hfl t d hdd) hin.lts;have hlt:∀i,(i<nx\/(nx<=i/\i<nx'))->i<nx':=λi hi=>aq;have hfact:BD P n ops o f R nx ⟨o.dst,v,dw ops o,rd,wr,ef,Lo'⟩ nx':=⟨rfl,rfl,λhe=>hb2.resolve_left (by simp only at he;rw[he];simp),hd,hb1, .inr ⟨hg,λρ C=>by
     cases ef with
     |true=>exact Ye.mono (y1 ρ C) λa σ' ⟨ρ',z1,z2,z3⟩=>⟨ρ',z1,z2,z3.trans (qx t3)⟩
     |false=>exact y2 rfl ρ C⟩,t1,hin,g1.mono hlt,λhe=>(bt.gY.mono (g2 he) hlt).sE,hids⟩
   have hR':bt.cW nx' (Rc.R ⟨o.dst,v,dw ops o,rd,wr,ef,Lo'⟩ R):=by
    cases ef with
    |false=>exact hR.mono hb1
    |true=>exact λq hq=>(zP.1 hq).elim (λhq=>((bt.gY.mono (g2 rfl) hlt).sE) q hq) λhq=>(hR.mono hb1) q (z7.1 hq).1
   have h4:ZJ P F n ops ps l (cs++[⟨o.dst,v,dw ops o,rd,wr,ef,Lo'⟩]) ⟨u6 o.dst v E,Rc.R ⟨o.dst,v,dw ops o,rd,wr,ef,Lo'⟩ R,nx'⟩ k=V r:=h3;obtain⟨cs',s',f',q1,q2,q3⟩:=TJ hF hN l (f:=Rc.F ⟨o.dst,v,dw ops o,rd,wr,ef,Lo'⟩ f) h4 (aeG rfl rfl hf1) (λt d hdd=>by
    unfold Rc.F at hdd;split at hdd
    ·cases hdd;exact g1.mono hlt
    ·exact cW.mono (hfl t d hdd) hb1) hR'
   exact⟨_::cs',s',f',by simpa using q1, .cons hfact q2,q3⟩
  ·obtain⟨E,R,nx⟩:=s1;obtain⟨E0,R0,nx0⟩:=s;subst e1 e2;have hin:bt.cW nx (cC [] R):=λq hq=>hR q (z7.1 hq).1;have hfact:BD P n ops o f R nx ⟨o.dst, .lit undef,dw ops o,[],[],false,[]⟩ nx:=⟨rfl,rfl,λh=>(by cases h),hd,zm _, .inl ⟨hg,rfl,rfl⟩,λ_ h=>(by cases h),hin, .lit _,λh=>(by cases h),λp _ _=>⟨.lit _,λh=>(by cases h)⟩⟩;have h2:ZJ P F n ops ps l (cs++[⟨o.dst, .lit undef,dw ops o,[],[],G,[]⟩]) ⟨u6 o.dst (.lit undef) E,R,nx⟩ k=V r:=h1;obtain⟨cs',s',f',q1,q2,q3⟩:=TJ hF hN l (f:=Rc.F ⟨o.dst, .lit undef,dw ops o,[],[],G,[]⟩ f) h2 (aeG rfl rfl hf1) (λt d hdd=>by
    unfold Rc.F at hdd;split at hdd
    ·cases hdd;exact .lit _
    ·exact hfl t d hdd) hR
   exact⟨_::cs',s',f',by simpa using q1, .cons hfact q2,q3⟩
end Go.Iv
end
noncomputable section
namespace Go.Iv
variable [U:sV] [L:nj]
open Go Go.RowKit
section
variable {P:Program} {n:Nat} {ops:Array Oper}
def Ch.idx{f f':Fr}{R R':bt}{nx nx':Nat}{os:aa Oper}{cs:aa Rc}(h:Ch P n ops f R nx os cs f' R' nx'):zR cs=zR os/\f'=gV cs (zj cs.length O) f/\R'=ia cs (zj cs.length O) R/\
  ∃g:Nat->Nat,g 0=nx/\g os.length=nx'/\(∀i,i<zR os->g i<=g (i+1))/\∀(i:Nat) o c,os[i]? =V o->cs[i]? =V c->BD P n ops o (gV (cs.take i) (zj i O) f) (ia (cs.take i) (zj i O) R) (g i) c (g (i+1)):=by
 induction h with
 |nil f R nx=>exact⟨rfl,rfl,rfl,λ_=>nx,rfl,rfl,λi hi=>by simp at hi,λi o c h=>by cases h⟩
 |@cons f f' R R' nx nx1 nx' o os c cs h hs ih=>
  obtain⟨h1,h2,h3,g,g0,g1,g2,g3⟩:=ih;refine⟨by simp[h1],by rw[h2];rfl,by rw[h3];rfl,λi=>match i with|0=>nx|i+1=>g i,rfl,g1,λi hi=> ?_,λi o' c' q1 q2=> ?_⟩
  ·cases i with
   |zero=>show nx<=g 0;rw[g0];exact h.le
   |succ i=>exact g2 i (by simpa using hi)
  ·cases i with
   |zero=>cases q1;cases q2;show BD P n ops o f R nx c (g 0);rw[g0];exact h
   |succ i=>exact g3 i o' c' q1 q2
def aeH{g:Nat->Nat}{N:Nat}(h:∀i,i<N->g i<=g (i+1)):∀i j,i<=j->j<=N->g i<=g j:=λi j hij hj=>by
 induction j with
 |zero=>
  have:i=0:=aq;subst this;exact zm _
 |succ j ih=>
  grind
def p6:aa Bool->Nat
 |[]=>0
 |b::bs=>(match b with|O=>0|G=>1)+p6 bs
def Pj:∀{bs:aa Bool} {i:Nat},bs[i]? =V G->p6 bs=p6 (bs.set i O)+1
 |[],_,h=>by cases h
 |b::bs,0,h=>by
  simp only[List.getElem?_cons_zero,zF.injEq]at h;subst h;show 1+p6 bs=(0+p6 bs)+1;omega
 |b::bs,i+1,h=>by
  have:=Pj (bs:=bs) (i:=i) (by simpa using h);cases b with
  |true=>
   show 0+p6 bs=(0+p6 (bs.set i O))+1;omega
  |false=>
   show 1+p6 bs=(1+p6 (bs.set i O))+1;omega
def Nw:∀N:Nat,p6 (zj N G)=N
 |0=>rfl
 |N+1=>by rw[yR];show 1+p6 (zj N G)=N+1;rw[Nw N];omega
def Ik:∀{bs:aa Bool},p6 bs=0->bs=zj bs.length O
 |[],_=>rfl
 |b::bs,h=>by
  cases b with
  |true=>rw[yM,yR,<-Ik (bs:=bs) (by have:0+p6 bs=0:=h;omega)]
  |false=>have:1+p6 bs=0:=h;omega
def PW:∀{bs:aa Bool},p6 bs≠0->∃i:Nat,bs[i]? =V G/\∀j,j<i->bs[j]? =V O
 |[],h=>ei rfl h
 |b::bs,h=>by
  cases b with
  |false=>exact⟨0,rfl,λj hj=>aq⟩
  |true=>
   obtain⟨i,h1,h2⟩:=PW (bs:=bs) (λe=>h (by show 0+p6 bs=0;omega));refine⟨i+1,h1,λj hj=> ?_⟩;cases j with
   |zero=>rfl
   |succ j=>exact h2 j aq
def mem_ready{listed:Array Bool}{i:Nat}:i∈Region.ready .any ops listed↔i<ops.size/\listed.getD i O=G/\∃o,ops[i]? =V o/\∀e∈o.after.toList,Region.binds .any e=O->listed.getD e.on G=O:=by
 unfold Region.ready;simp only[z7,List.mem_range,zh,Bool.not_eq_true'];refine and_congr_right λhi=>and_congr_right λ_=> ?_;rw[xe hi];simp only[yG,Option.getD_some,zF.injEq,exists_eq_left'];rw[Array.all_eq_true'];constructor
 ·intro h e he hb;have:=h e (by simpa using he);rw[hb]at this
  assumption
 ·intro h e he;cases hb:Region.binds .any e with
  |false=>rfl
  |true=>simpa using h e (by simpa using he) hb
def AZ{listed:Array Bool}{i:Nat}(hi:i<listed.size):listed.getD i O=G↔listed.toList[i]? =V G:=by
 rw[Array.getD_eq_getD_getElem?,xe hi,zu (by simpa using hi)];simp
def Gq{listed:Array Bool}{i:Nat}:listed.getD i G=O↔listed.toList[i]? =V O:=by
 cases h:listed[i]? with
 |none=>simp[h]
 |some b=>simp[h]
def as8{C:Cg}{cs:aa Rc}{f0:Fr}{R0:bt}{nx0:Nat}{g:Nat->Nat}{ds:aa Deferred}{Q:Exit->Act->World->Prop}
  (hlen:zR cs=ops.size) (g0:g 0=nx0) (gn:C.n<=nx0) (g2:∀i,i<ops.size->g i<=g (i+1)) (hf:∀(i:Nat) o c,ops.toList[i]? =V o->cs[i]? =V c->BD P n ops o (gV (cs.take i) (zj i O) f0) (ia (cs.take i) (zj i O) R0) (g i) c (g (i+1)))
  (hcf:∀(i j:Nat) (c d:Rc),j<i->cs[j]? =V c->cs[i]? =V d->CF c d\/∀bs,Fz ops.toList bs->(∀o,ops.toList[i]? =V o->Rdy bs o)->bs[j]? =V O)
  (hback:∀(i:Nat) o,ops.toList[i]? =V o->∀e∈o.after.toList,Region.binds .any e=O->e.on<i)
  (hQ:∀a w,a.defers=ds->MtS C n (λi=>i<g ops.size) (gV cs (zj cs.length O) f0) (ia cs (zj cs.length O) R0) a w->Q .normal a w):
  ∀(fuel:Nat) (listed:Array Bool) (a:Act) (w:World),listed.size=ops.size->p6 listed.toList=fuel->Fz ops.toList listed.toList->a.defers=ds->
   MtS C n (λx=>x<nx0\/∃j:Nat,listed.toList[j]? =V O/\g j<=x/\x<g (j+1)) (gV cs listed.toList f0) (ia cs listed.toList R0) a w->wpAny P .any ops Q fuel listed a w:=by
 have hmono:=aeH (N:=ops.size) (g:=g) g2;intro fuel;induction fuel with
 |zero=>
  intro listed a w hs hc hcl hda hm;have hall:=Ik hc;have hfin:Q .normal a w:=by
   refine hQ a w hda ?_;rw[hall,show zR listed.toList=zR cs from by rw[hlen,<-hs];simp]at hm;obtain⟨E,ρ,q1,q2,q3,q5,q4⟩:=hm;have hle:∀i,(i<nx0\/∃j:Nat,(zj cs.length O)[j]? =V O/\g j<=i/\i<g (j+1))->i<g ops.size:=λi hi=>by
    rcases hi with hi|⟨j,hj,_,hj3⟩
    ·have:=hmono 0 ops.size (yW _) (zm _);omega
    ·have hj':j<zR cs:=by simpa using (z8.1 hj).1
     have:=hmono (j+1) ops.size aq (zm _);omega
   exact⟨E,ρ,q1,λq hq=>(q2 q hq).mono hle,q3.mono hle,q5,q4⟩
  refine⟨?_,hfin⟩;rw[List.eq_nil_iff_forall_not_mem];intro i hi;obtain⟨h1,h2,_⟩:=mem_ready.1 hi;rw[AZ aq,hall,wW]at h2;split at h2<;>cases h2
 |succ fuel ih=>
  intro listed a w hs hc hcl hda hm;refine⟨λhr=> ?_,λi hi=> ?_⟩
  ·
   exfalso;obtain⟨i,h1,h2⟩:=PW (bs:=listed.toList) aq;have hil:i<listed.size:=by simpa using (z8.1 h1).1
   have hio:i<ops.size:=aq;have:i∈Region.ready .any ops listed:=mem_ready.2 ⟨hio,(AZ hil).2 h1,ops[i],xe hio,λe he hb=>Gq.2 (h2 _ (hback i ops[i] (by simp[hio]) e he hb))⟩;simp_all
  ·obtain⟨hio,h2,o,ho,hrd⟩:=mem_ready.1 hi;have hil:i<listed.size:=aq;have hbi:=(AZ hil).1 h2;have hol:ops.toList[i]? =V o:=by simpa using ho
   have hRdy:Rdy listed.toList o:=λe he hb=>Gq.1 (hrd e he hb);obtain⟨c,hci⟩:∃c,cs[i]? =V c:=⟨_,zu aq⟩;have fact:=hf i o c hol hci;obtain⟨s1,s2,s3,s4⟩:=adC (cs:=cs) (bs:=listed.toList) (i:=i) (c:=c) f0 R0 (by rw[hlen,<-hs];simp) hci hbi
    (λj d hji hd hbj=>(hcf i j d c hji hd hci).resolve_right λh=>by
     have:=h listed.toList hcl (λo' ho'=>by rw[hol]at ho';cases ho';exact hRdy);rw[hbj]at this;cases this)
    (λj d hij hd hbj=>((hcf j i c d hij hci hd).resolve_right λh=>by
     have hjo:j<ops.size:=by have:=(z8.1 hd).1;omega
     have:=h listed.toList hcl (λo' ho'=>hcl j o' ho' hbj);rw[hbi]at this;cases this).symm)
   have eset:(listed.setIfInBounds i O).toList=listed.toList.set i O:=Array.toList_setIfInBounds ..;have hcl':Fz ops.toList (listed.toList.set i O):=λj o' ho' hbj e he hb=>by
    have hmono':∀k,listed.toList[k]? =V O->(listed.toList.set i O)[k]? =V O:=λk hk=>by
     rw[List.getElem?_set];split
     ·rename_i hik;rw[bI (by simpa using hil)]
     ·exact hk
    by_cases hij:i=j
    ·subst hij;rw[hol]at ho';cases ho';exact hmono' _ (hRdy e he hb)
    ·rw[List.getElem?_set_ne hij]at hbj;exact hmono' _ (hcl j o' ho' hbj e he hb)
   have hpn:∀x,(x<nx0\/∃j:Nat,listed.toList[j]? =V O/\g j<=x/\x<g (j+1))->¬(g i<=x/\x<g (i+1)):=λx hx hr=>by
    rcases hx with hx|⟨j,hj,hj2,hj3⟩
    ·have:=hmono 0 i (yW _) aq;omega
    ·have hne:j≠i:=λe=>by rw[e,hbi]at hj;cases hj
     have hjl:j<ops.size:=by
      have:j<zR listed.toList:=(z8.1 hj).1;have h3:zR listed.toList=listed.size:=by simp
      omega
     by_cases hlt:j<i
     ·have:=hmono (j+1) i aq aq;omega
     ·have:=hmono (i+1) j aq aq;omega
   have hweak:∀x,((x<nx0\/∃j:Nat,listed.toList[j]? =V O/\g j<=x/\x<g (j+1))\/(g i<=x/\x<g (i+1)))->(x<nx0\/∃j:Nat,(listed.toList.set i O)[j]? =V O/\g j<=x/\x<g (j+1)):=λx hx=>by
    rcases hx with (hx|⟨j,hj,hj2⟩)|hx
    ·exact .inl hx
    ·refine .inr ⟨j,?_,hj2⟩;rw[List.getElem?_set];split
     ·rw[bI (by simpa using hil)]
     ·exact hj
    ·refine .inr ⟨i,?_,hx⟩;rw[List.getElem?_set_self (by simpa using hil)]
   have cont:∀a' w',a'.defers=ds->MtS C n (λx=>(x<nx0\/∃j:Nat,listed.toList[j]? =V O/\g j<=x/\x<g (j+1))\/(g i<=x/\x<g (i+1))) (c.F (gV cs listed.toList f0)) (c.R (ia cs listed.toList R0)) a' w'->wpAny P .any ops Q fuel (listed.setIfInBounds i O) a' w':=λa' w' hda' hm'=>by
    refine ih (listed.setIfInBounds i O) a' w' (by simp[hs]) ?_ (by rw[eset];exact hcl') hda' ?_
    ·rw[eset];have:=Pj hbi;omega
    ·rw[eset,<-s3];obtain⟨E,ρ,q1,q2,q3,q5,q4⟩:=hm'.perm s4;exact⟨E,ρ,q1,λq hq=>(q2 q hq).mono hweak,q3.mono hweak,q5,q4⟩
   have hgate:∀wn,Gj ops o (gV (cs.take i) (zj i O) f0) wn->Region.wanted o (yielded ops a.tmps)=wn:=λwn hg=>by
    unfold Gj at hg;cases hgd:o.guard with
    |none=>
     rw[hgd]at hg;simp only at hg;rw[hg];unfold Region.wanted;rw[hgd]
    |some jw=>
     obtain⟨j,want⟩:=jw;rw[hgd]at hg;obtain⟨t,hj,hg⟩:=hg;have hts:t∈c.sl:=by
      rw[fact.sl];unfold dw apJ;rw[hgd];simp only[hj];exact yI _ (zq.2 rfl)
     obtain⟨E,ρ,q1,_,_,_,q4⟩:=hm;obtain⟨w1,w2⟩:=Iq (ρ:=ρ) hgd hj (E:=E);rcases hg with ⟨b,hb,hw⟩|⟨vs,hb,hw⟩
     ·rw[hw];exact p9.spec q4.slots (w1 b (q1 _ _ (by rw[s1 t hts];exact hb)))
     ·rw[hw];exact p9.spec q4.slots (w2 vs (q1 _ _ (by rw[s1 t hts];exact hb)))
   unfold wpOp;simp only[ho];rcases fact.run with ⟨hg,hv,hef⟩|⟨hg,hy⟩
   ·rw[bO (by rw[hgate _ hg];exact Bool.false_ne_true)];obtain⟨E,ρ,q1,q2,q3,q5,q4⟩:=hm;have hR:c.R (ia cs listed.toList R0)=ia cs listed.toList R0:=by unfold Rc.R;rw[hef]
    refine cont _ _ (by rw[<-hda];cases o.dst<;>rfl) ?_;rw[hR];cases hdo:o.dst with
    |none=>exact⟨E,ρ,λt d ht=>q1 t d (by unfold Rc.F at ht;rw[fact.dst,hdo]at ht;simpa using ht),λq hq=>(q2 q hq).mono λ_ h=> .inl h,q3.mono λ_ h=> .inl h,q5,q4⟩
    |some t=>
     refine⟨(t, .lit undef)::E,ρ,λs d hsd=> ?_,λq hq=> ?_,q3.mono λ_ h=> .inl h,q5,?_⟩
     ·unfold Rc.F at hsd;rw[fact.dst,hdo,hv]at hsd;by_cases hts:t=s
      ·subst hts;rw[bI rfl]at hsd;cases hsd;exact Env.fq _ _ _
      ·rw[bO (λe=>hts (zF.inj e))]at hsd;rw[Env.dV _ _ hts];exact q1 s d hsd
     ·rcases zy.1 hq with rfl|hq
      ·exact .lit _
      ·exact(q2 q hq).mono λ_ h=> .inl h
     ·have hdn:=fact.dn;rw[hdo]at hdn;have:=q4.put (av:= .lit undef) (v:=undef) hdn (.lit _);show uD C.C n ((t,b9.sub ρ (.lit undef))::E.sub ρ) _ _ _;rw[bV];exact this
   ·rw[bI (hgate _ hg)];refine .inl ?_;have hle:uI (gV cs listed.toList f0) c.sl=uI (gV (cs.take i) (zj i O) f0) c.sl:=Tk s1;obtain⟨E,ρ,q1,q2,q3,q5,q4⟩:=hm;have hids:=fact.ids (λx=>x<nx0\/∃j:Nat,listed.toList[j]? =V O/\g j<=x/\x<g (j+1)) (λt ht d hd=>by
     rw[<-s1 t ht]at hd;exact q2 _ (Env.get_mem (q1 t d hd))) (by rw[<-s2];exact λq hq=>q3 q (z7.1 hq).1)
    exact arj (nx:=g i) (nx':=g (i+1)) (by have:=hmono 0 i (yW _) aq;omega) ⟨E,ρ,q1,q2,q3,q5,q4⟩ fact.dst fact.dn fact.wr (by rw[hle,s2];exact hy) hpn fact.lv (by rw[s2];exact fact.lin) fact.lo hids.1 hids.2 λa' w' hd' hm'=>cont a' w' (hd'.trans hda) hm'
def adF{α:Type}{r:α}{F:bu}{C:Cg}{s:St}{a:Act}{w:World}{id:Nat}{k:St->af α}(hF:iO P F)(hN:dU F)(h:Iy P F n ops s k=V r)(hm:Mt C n s a w):
  (Code.region id ops O).wp P (λe a' w'=>e= .normal/\a'.defers=a.defers/\∃s',k s'=V r/\Mt C n s' a' w') a w:=by
 unfold Iy at h;split at h
 case h_2=>cases h
 rename_i hb;simp only[zh]at hb;split at h
 case h_2=>cases h
 rename_i ps hps;obtain⟨E,hh,hE,hR,ρ,hag,hsim⟩:=hm;obtain⟨cs,s',f',q1,q2,q3⟩:=TJ hF hN ops.toList (f:=cU s.E) h (λt d h=>h) (λt d hd=>Env.ZU (x:= .tmp t) hE (hh t d hd)) hR;split at q1
 case h_2=>cases q1
 rename_i hpo;obtain⟨l1,l2,l3,g,g0,g1,g2,g3⟩:=q2.idx;have hN:zR ops.toList=ops.size:=by simp
 refine wp_region_any hb.1 ?_;refine as8 (C:=C) (cs:=cs) (f0:=cU s.E) (R0:=s.R) (nx0:=s.nx) (g:=g) (ds:=a.defers) (by rw[l1,hN]) g0 hag.2 (by rw[<-hN];exact g2) g3 (λi j c d hji hc hd=>aiF hps hpo (λi c hc=>by
   obtain⟨o,ho⟩:∃o,ops.toList[i]? =V o:=⟨_,zu (by rw[<-l1];exact(z8.1 hc).1)⟩;have:=g3 i o c ho hc;exact⟨o,ho,this.dst,this.sl,this.ef,this.wr⟩) hji hc hd) (λi o ho e he hbe=>by have:=O4 hb.2 i o ho e he hbe;omega) (λa' w' hd' hm'=> ?_) ops.size (Array.replicate ops.size G) a _ (by simp) (by rw[Array.toList_replicate,Nw]) (λi o _ hbi=> ?_) rfl ?_
 ·refine⟨rfl,hd',s',q1,?_⟩;rw[<-l2,<-l3]at hm';obtain⟨E',ρ',p1,p2,p3,p5,p4⟩:=hm';rw[hN]at g1;rw[g1]at p2 p3;exact⟨E',λt d hd=>p1 t d (q3 t d hd),p2,p3.sE,ρ',⟨p5,by have:=aeH (N:=zR ops.toList) g2 0 ops.toList.length (yW _) (zm _);rw[g0,hN,g1]at this;have h7:=hag.2;omega⟩,p4⟩
 ·rw[Array.toList_replicate,wW]at hbi;split at hbi<;>cases hbi
 ·have nF:∀(cs:aa Rc) (n:Nat) (f:Fr),gV cs (zj n G) f=f:=λcs=>by
   induction cs with
   |nil=>intro n f;rfl
   |cons d cs ih=>
    intro n f;cases n with
    |zero=>rfl
    |succ n=>rw[yR];exact ih n f
  have nR:∀(cs:aa Rc) (n:Nat) (R:bt),ia cs (zj n G) R=R:=λcs=>by
   induction cs with
   |nil=>intro n f;rfl
   |cons d cs ih=>
    intro n f;cases n with
    |zero=>rfl
    |succ n=>rw[yR];exact ih n f
  rw[Array.toList_replicate,nF,nR];exact⟨E,ρ,hh,λq hq=>gY.mono (hE q hq) λi hi=> .inl hi,(bt.gY.mono hR.lts λi hi=> .inl hi),hag.1,hsim.drew⟩
end
end Go.Iv
end
noncomputable section
namespace Go.Iv
variable [U:sV] [L:nj]
open Go Go.RowKit
section
variable {α:Type} {r:α} {P:Program} {F:bu} {C:Cg} {n:Nat}
def CE(P:Program)(F:bu)(n:Nat)(_:Nat)(ops:Array Oper)(draw:Bool)(s:St)(k:gG α):af α:=match draw with
 |false=>fB P F n ops ops.toList s (k .normal)
 |true=>Iy P F n ops s (k .normal)
def exec(P:Program)(F:bu)(n:Nat)(fuel:Nat)(c:Code):St->gG α->af α:=
 Code.rec adx (CE P F n) (λ_ _=>aw4) (λc _ _=>auE c) (λid _=>amQ id) (λ_=>abv fuel) (λ_ _ _ _ _ _=>GO) acR (λ_ _=>GO) (λ_=>GO) (λ_=>GO) apo (λ_=>GO) c
def pZ(P:Program)(F:bu)(fuel:Nat)(f:FuncId)(args:aa AV)(R:bt)(nx:Nat)(k:AV->bt->Nat->af α):af α:=match P.funcs[f]? with
 |some fn=>match fn.body with
  |some c=>match yq args.length fn.ntmps&& !(fn.name=="runtime.NumGoroutine")with
   |true=>exec (α:=α) P F fn.ntmps fuel c ⟨NY 0 args .e,R,nx⟩ λe s=>match e with
    | .normal=>(GW P s fn.results.toList).bind λds=>k (fC ds) (PZ s.R nx (fC ds) args) s.nx
    | .ret=>(GW P s fn.results.toList).bind λds=>k (fC ds) (PZ s.R nx (fC ds) args) s.nx
    |_=>I
   |false=>I
  |none=>I
 |none=>I
def td(P:Program)(F0:bu)(has:FuncId->Bool)(fuel:Nat):Nat->bu
 |0=>F0
 |m+1=>λα f args R nx k=>match has f with
  |true=>F0 α f args R nx k
  |false=>pZ P (td P F0 has fuel m) fuel f args R nx k
def Ends(P:Program)(C:Cg)(n:Nat)(c:Code)(k:gG α)(r:α)(a:Act)(w:World):Prop:=c.wp P (λe a' w'=>∃s',k e s'=V r/\Mt C n s' a' w') a w
def XH(P:Program)(C:Cg)(n:Nat)(c:Code)(x:St->gG α->af α):Prop:=∀(r:α) (s:St) (k:gG α) (a:Act) (w:World),x s k=V r->Mt C n s a w->Ends P C n c k r a w
def Og{c:Operand}{s:St}{x y:St->af α}(h:rE c s x y=V r){a:Act}{w:World}(hm:Mt C n s a w):∃(b:Bool) (s':St),a.eval c= .bool b/\Mt C n s' a w/\(match b with|O=>x s'|G=>y s')=V r:=by
 unfold rE at h;split at h
 ·rename_i t;split at h
  case h_2=>cases h
  rename_i b hb;have hev:a.eval (.tmp t)= .bool b:=by
   obtain⟨E,hh,_,_,ρ,_,hs⟩:=hm;refine UH hs ?_;have h1:=hh t _ hb;show Env.get (E.sub ρ) t=_;rw[Env.fo,h1,yG,bV]
  refine⟨b,s.gm t b,hev,hm.gm hb,?_⟩;unfold ab7 at h;cases b<;>exact h
 ·exact⟨O,s,rfl,hm,h⟩
 ·exact⟨G,s,rfl,hm,h⟩
 ·cases h
def DW(hF:iO P F)(hN:dU F)(id:Nat)(ops:Array Oper)(draw:Bool):XH (α:=α) P C n (.region id ops draw) (CE P F n id ops draw):=λr s k a w h hm=>by
 unfold CE at h;cases draw with
 |false=>
  refine wp_mono (wp_region_lit (Ej hF _ h hm)) λe a' w' ⟨he,_,s',h1,h2⟩=> ?_;subst he;exact⟨s',h1,h2⟩
 |true=>
  refine wp_mono (adF hF hN h hm) λe a' w' ⟨he,_,s',h1,h2⟩=> ?_;subst he;exact⟨s',h1,h2⟩
def Hz{c:Code}{x:St->gG α->af α}(hx:XH P C n c x)(fuel:Nat):XH P C n (.loop c) (abv fuel x):=λr s k a w h hm=>by
 have key:∀(m:Nat) (s:St) (a:Act) (w:World),GF x k m s=V r->Mt C n s a w->c.wp P (Exit.then (InL P c λe a' w'=>∃s',k e s'=V r/\Mt C n s' a' w') λe a' w'=>∃s',k e s'=V r/\Mt C n s' a' w') a w:=by
  intro m;induction m with
  |zero=>intro s a w h;cases h
  |succ m ih=>
   intro s a w h hm;refine wp_mono (hx r s _ a w h hm) λe a' w' ⟨s',h1,h2⟩=> ?_;cases e with
   |normal=>exact Ox (ih s' a' w' h1 h2)
   |_=>exact⟨s',h1,h2⟩
 exact Ih (key fuel s a w h hm)
def ane(hF:iO P F)(hN:dU F)(fuel:Nat)(c:Code):XH (α:=α) P C n c (exec P F n fuel c):=by
 induction c with
 |skip=>exact λr s k a w h hm=>wp_skip ⟨s,h,hm⟩
 |region id ops draw=>exact DW hF hN id ops draw
 |seq x y hx hy=>
  intro r s k a w h hm;refine wp_seq (wp_mono (hx r s _ a w h hm) λe a' w' ⟨s',h1,h2⟩=> ?_);cases e with
  |normal=>exact hy r s' k a' w' h1 h2
  |_=>exact⟨s',h1,h2⟩
 |cond c x y hx hy=>
  intro r s k a w h hm;obtain⟨b,s',he,hm',h'⟩:=Og (show rE c s _ _=V r from h) hm;cases b with
  |true=>exact wp_cond_true he (hx r s' k a w h' hm')
  |false=>exact wp_cond_false he (hy r s' k a w h' hm')
 |block id x hx=>
  intro r s k a w h hm;refine wp_block (wp_mono (hx r s _ a w h hm) λe a' w' ⟨s',h1,h2⟩=> ?_);cases e with
  |exit id'=>
   simp only[tC]at h1;simp only[Exit.inBlock];split
   ·rename_i he;subst he;have hb:ze id' id'=O:=Nat.beq_refl _;simp only[hb]at h1;exact⟨s',h1,h2⟩
   ·rename_i he;have hb:ze id' id=G:=by
     cases hb:ze id' id with
     |false=>rfl
     |true=>exact ei (xx hb) he
    simp only[hb]at h1;exact⟨s',h1,h2⟩
  |_=>exact⟨s',h1,h2⟩
 |loop c hc=>exact Hz hc fuel
 |exit i=>exact λr s k a w h hm=>wp_exit ⟨s,h,hm⟩
 |ret=>exact λr s k a w h hm=>wp_ret ⟨s,h,hm⟩
 |_=>exact λr s k a w h hm=>by cases h
def Bp(nx:Nat)(ids:aa Nat):∀R:bt,List.Sublist (MQ nx ids R) R
 |[]=> .slnil
 |p::R=>by
  have ih:=Bp nx ids R;show List.Sublist (Bool.rec (Bool.rec (MQ nx ids R) (p::MQ nx ids R) (dF p.1 ids)) (p::R) (zB p.1 nx)) (p::R);cases zB p.1 nx with
  |true=>exact List.Sublist.refl _
  |false=>
   cases dF p.1 ids with
   |true=>exact ih.cons_cons p
   |false=>exact ih.cons p
def aiv{s:St}{E:Env}{ρ:Gh}{rv:ResultVar}{d:AV}(h:aea P s rv=V d)(hh:uB s.E E):E5 P (E.sub ρ) (bt.res ρ s.R) rv (d.sub ρ):=by
 unfold aea at h;split at h
 ·rename_i t;refine .tmp ?_;rw[Env.fo,hh t d h];rfl
 ·rename_i t ty;split at h
  case h_2=>cases h
  rename_i id hp;have hp':Env.get (E.sub ρ) t=V (.lit (.pointer (V ⟨ρ.b id,0,I⟩))):=by
   rw[Env.fo,hh t _ hp,yG,b9.sub]
  split at h
  case h_2=>cases h
  rename_i T cs hr;obtain⟨i,hi,_⟩:=eT hr;have hres:=iD (ρ:=ρ) hi;split at h
  ·rename_i h1;refine .az3 i hp' hres (Da h1) ?_;rw[yf,h];rfl
  ·split at h
   case h_2=>cases h
   rename_i m hm;split at h
   case h_2=>cases h
   rename_i hl;cases h;rw[fk];refine .awa i hp' hres (MV hm) ?_;rw[zn];exact gU hl
def aa4{s:St}{nx:Nat}{rv:ResultVar}{d:AV}(h:aea P s rv=V d){E:Env}(hh:uB s.E E)(hE:E.cW nx)(hR:bt.cW nx s.R):cW nx d:=by
 unfold aea at h;split at h
 ·rename_i t;exact hE _ (Env.get_mem (hh t d h))
 ·split at h
  case h_2=>cases h
  split at h
  case h_2=>cases h
  rename_i id _ T cs hr;have hL:=Gz hr hR;split at h
  ·exact hL.2 _ (List.mem_of_getElem? h)
  ·split at h
   case h_2=>cases h
   split at h
   case h_2=>cases h
   cases h;exact .agg _ hL.2
def Me{s:St}{E:Env}{ρ:Gh}(hh:uB s.E E){A:Nat->Prop}{w:World}{tmps:Array Value}(hd:Hd A (bt.res ρ s.R) w)(hs:mz A w (E.sub ρ) tmps):∀{l:aa ResultVar} {ds:aa AV},GW P s l=V ds->
  ∃us,(l.mapM (uc tmps)).run P w= .ok us w/\bP A w (ds.map (b9.sub ρ)) us
 |[],ds,h=>by cases h;exact⟨[],rfl,bP.nil⟩
 |x::l,ds,h=>by
  unfold GW at h;split at h
  case h_2=>cases h
  rename_i d hx;obtain⟨ds',h1,h2⟩:=zl.1 h;subst h2;obtain⟨v,q1,q2⟩:=aiv (ρ:=ρ) hx hh A w tmps hd hs;obtain⟨us,q3,q4⟩:=Me hh hd hs h1;refine⟨v::us,?_,bP.cons q2 q4⟩;rw[List.mapM_cons];simp[q1,q3]
def No{s:St}{nx:Nat}{E:Env}(hh:uB s.E E)(hE:E.cW nx)(hR:bt.cW nx s.R):∀{l:aa ResultVar} {ds:aa AV},GW P s l=V ds->∀d∈ds,cW nx d
 |[],ds,h=>by cases h;simp
 |x::l,ds,h=>by
  unfold GW at h;split at h
  case h_2=>cases h
  rename_i d hx;obtain⟨ds',h1,h2⟩:=zl.1 h;subst h2;intro d' hd';rcases zy.1 hd' with rfl|hd'
  ·exact aa4 hx hh hE hR
  ·exact No hh hE hR h1 d' hd'
def aam{nx:Nat}{ds:aa AV}(h:∀d∈ds,cW nx d):cW nx (fC ds):=by
 unfold fC;split
 ·exact h _ (by simp)
 ·exact .jc _ h
def N1{ρ:Gh}{A:Nat->Prop}{w:World}{ds:aa AV}{us:aa Value}(h:bP A w (ds.map (b9.sub ρ)) us):Rel A w ((fC ds).sub ρ) (if h:us.toArray.size=1 then us.toArray[0]else .tuple us.toArray):=by
 unfold fC;split
 ·rename_i d;obtain⟨h1,h2⟩:=h
  match us,h1,h2 with
  |[u],_,h2=>exact h2 0 _ _ rfl rfl
 ·rename_i hn;have hl:zR us=zR ds:=by have:=h.1;simpa using this
  rw[dif_neg (by
   intro e
   match ds,hn with
   |[],_=>rw[y7,hl]at e;cases e
   |[d],hn=>exact hn d rfl
   |_::_::_,_=>rw[y7,hl]at e;simp at e),k8]
  exact Rel.GM h
def Cb:∀(l:aa AV) (i:Nat) (T:ET) (E:Env),uB T E->(∀t d,cU T t=V d->t<i)->uB (NY i l T) (fm i l++E)
 |[],_,_,_,h,_=>h
 |d::l,i,T,E,h,hT=>by
  have h2:∀t d',cU (mX i d T) t=V d'->t<i+1:=λt d' ht=>by
   rcases rJ ht with ⟨rfl,_⟩|⟨_,q⟩
   ·omega
   ·have:=hT t d' q;omega
  have:=Cb l (i+1) (mX i d T) ((i,d)::E) (h.put i d) h2;intro t v ht;have h1:Env.get (fm (i+1) l++(i,d)::E) t=V v:=this t v ht;show Env.get ((i,d)::(fm (i+1) l++E)) t=V v;have key:∀(l:aa AV) (j:Nat),i<j->Env.get (fm j l++(i,d)::E) t=Env.get ((i,d)::(fm j l++E)) t:=λl=>by
   induction l with
   |nil=>intro j _;rfl
   |cons u l ih=>
    intro j hj;show Env.get ((j,u)::(fm (j+1) l++(i,d)::E)) t=Env.get ((i,d)::(j,u)::(fm (j+1) l++E)) t;by_cases h1:j=t
    ·subst h1;rw[Env.fq,Env.dV _ _ aq,Env.fq]
    ·rw[Env.dV _ _ h1,ih (j+1) aq];by_cases h2:i=t
     ·subst h2;rw[Env.fq,Env.fq]
     ·rw[Env.dV _ _ h2,Env.dV _ _ h2,Env.dV _ _ h1]
  rw[<-key l (i+1) (zC i)];exact h1
def pY(ρ:Gh):∀(l:aa AV) (i:Nat),(fm i l).sub ρ=fm i (l.map (b9.sub ρ))
 |[],_=>rfl
 |d::l,i=>by show (i,d.sub ρ)::(fm (i+1) l).sub ρ=_;rw[pY ρ l];rfl
def rf:∀{l:aa AV} {i:Nat} {q:Nat×AV},q∈fm i l->q.2∈l
 |d::l,i,q,h=>by
  rcases zy.1 h with rfl|h
  ·exact zk
  ·exact zJ _ (rf h)
def acK{xs:aa AV}{fn:Func}{C:Cx}{ρ:Gh}{nx:Nat}{s:St}{a:Act}{w:World}{k:AV->bt->Nat->af α}{e:Exit}(he:e= .normal\/e= .ret)(h:((GW P s fn.results.toList).bind λds=>k (fC ds) (PZ s.R nx (fC ds) xs) s.nx)=V r)(hm:Mt ⟨C,ρ,nx⟩ n s a w):
  ∃E' σ',uD C n E' σ' a w/\aj8 P C n fn (λa s=>∃d R' nx',k d R' nx'=V r/\nx<=nx'/\cW nx' d/\bt.cW nx' R'/\∃ρ',pU nx ρ ρ'/\a=d.sub ρ'/\List.Perm s (bt.res ρ' R')) e E' σ':=by
 obtain⟨E,hh,hE,hR,ρ',⟨hag,hnx⟩,hsim⟩:=hm;obtain⟨ds,h1,h2⟩:=zo.1 h;have hsub:List.Sublist (PZ s.R nx (fC ds) xs) s.R:=Bp _ _ _;refine⟨_,_,hsim,ac0 (σ':=bt.res ρ' (PZ s.R nx (fC ds) xs)) (av:=(fC ds).sub ρ') he (hsub.map _) ⟨_,_,_,h2,hnx,aam (No hh hE hR h1),λq hq=>hR q (hsub.subset hq),ρ',hag,rfl,List.Perm.refl _⟩ λA w' tmps hd hs=> ?_⟩;obtain⟨us,q1,q2⟩:=Me hh hd hs h1;refine⟨_,?_,N1 q2⟩;show (do let vs <-fn.results.mapM (uc tmps);pure (if h:vs.size=1 then vs[0]else .tuple vs):Sem Value).run P w'=_;have e1:fn.results=fn.results.toList.toArray:=by simp
 rw[e1,List.mapM_toArray];simp[q1]
section
variable {β:Type}
def O3{ops:Array Oper}{o:Oper}{s:St}{y n:St->af α}(D:α->af β):(gate ops o s y n).bind D=gate ops o s (λs=>(y s).bind D) (λs=>(n s).bind D):=by
 unfold gate
 repeat' split
 all_goals first|rfl|simp_all
def Yt{o:Op}{s:St}{f:St->af α}(D:α->af β):(CJ o s f).bind D=CJ o s (λs=>(f s).bind D):=by
 unfold CJ
 repeat' split
 all_goals first|rfl|simp_all
def alX(hN:dU F){o:Oper}{ih:St->(St->af α)->af α}{ih':St->(St->af β)->af β}{k:St->af α}{D:α->af β}(hi:∀s k,(ih s k).bind D=ih' s (λs=>(k s).bind D))(s:St):(rDo P F o ih k s).bind D=rDo P F o ih' (λs=>(k s).bind D) s:=by
 unfold rDo;generalize s.kR (jb s.E o.op)=s1;obtain⟨E,R,nx⟩:=s1;show (pI o.op P F (Jj E) (gF R) R nx (NC o.dst E R nx ih k)).bind D=pI o.op P F (Jj E) (gF R) R nx (NC o.dst E R nx ih' λs=>(k s).bind D);rw[BG D hN]
 congr 1
 funext e
 cases e<;>exact hi ..
def sC(hN:dU F){ops:Array Oper}(D:α->af β):∀(l:aa Oper) (s:St) (k:St->af α),(fB P F n ops l s k).bind D=fB P F n ops l s (λs=>(k s).bind D)
 |[],s,k=>rfl
 |o::l,s,k=>by
  show (Py P F n ops o (fB P F n ops l) s k).bind D=Py P F n ops o (fB P F n ops l) s (λs=>(k s).bind D);unfold Py;split
  ·rw[O3]
   congr 1
   ·funext s1
    obtain⟨E,R,nx⟩:=s1;show (opF o.op P F o.dst E R nx (fB P F n ops l) k).bind D=opF o.op P F o.dst E R nx (fB P F n ops l) (λs=>(k s).bind D);have e1:=Lw P F o ⟨E,R,nx⟩ (fB (α:=α) P F n ops l) k;have e2:=Lw P F o ⟨E,R,nx⟩ (fB (α:=β) P F n ops l) (λs=>(k s).bind D);dsimp only at e1 e2;rw[e1,e2,Yt]
    congr 1
    funext s2
    exact alX hN (λs k=>sC hN D l s k) s2
   ·funext s1
    unfold rNo;split<;>exact sC hN D l _ _
  ·rfl
def JJ(hN:dU F){ops:Array Oper}{ps:aa (Nat×Nat)}(D:α->af β):∀(l:aa Oper) (cs:aa Rc) (s:St) (k:aa Rc->St->af α),(ZJ P F n ops ps l cs s k).bind D=ZJ P F n ops ps l cs s (λcs s=>(k cs s).bind D)
 |[],cs,s,k=>rfl
 |o::l,cs,s,k=>by
  show (Zk P F n ops ps o (ZJ P F n ops ps l) cs s k).bind D=Zk P F n ops ps o (ZJ P F n ops ps l) cs s (λcs s=>(k cs s).bind D);unfold Zk;split
  ·rw[O3]
   congr 1
   ·funext s1
    obtain⟨E,R,nx⟩:=s1;show (IB P F o (dw ops o) E (inQ (rI ops o E R) R) nx (dK ops ps o cs (rI ops o E R) E R (inQ (rI ops o E R) R) nx (ZJ P F n ops ps l) k)).bind D=IB P F o (dw ops o) E (inQ (rI ops o E R) R) nx (dK ops ps o cs (rI ops o E R) E R (inQ (rI ops o E R) R) nx (ZJ P F n ops ps l) (λcs s=>(k cs s).bind D));rw[<-Fh hN,<-Fh hN,z6]
    congr 1
    funext x
    unfold dK;split
    ·exact JJ hN D l _ _ _
    ·rfl
   ·funext s1
    exact JJ hN D l _ _ _
  ·rfl
def XB(hN:dU F)(id:Nat)(ops:Array Oper)(draw:Bool)(D:α->af β)(s:St)(k:gG α):(CE P F n id ops draw s k).bind D=CE P F n id ops draw s (λe s=>(k e s).bind D):=by
 unfold CE;cases draw with
 |false=>exact sC hN D _ _ _
 |true=>
  show (Iy P F n ops s (k .normal)).bind D=Iy P F n ops s (λs=>(k .normal s).bind D);unfold Iy;split
  ·split
   ·rw[JJ hN D]
    congr 1
    funext cs s'
    split<;>rfl
   ·rfl
  ·rfl
def Zz{c:Operand}{s:St}{x y:St->af α}(D:α->af β):(rE c s x y).bind D=rE c s (λs=>(x s).bind D) (λs=>(y s).bind D):=by
 unfold rE
 repeat' split
 all_goals first|rfl|(unfold ab7;split<;>rfl)|simp_all
def My{x:St->gG α->af α}{x':St->gG β->af β}{D:α->af β}(hx:∀s k,(x s k).bind D=x' s (λe s=>(k e s).bind D))(k:gG α):∀(m:Nat) (s:St),(GF x k m s).bind D=GF x' (λe s=>(k e s).bind D) m s
 |0,s=>rfl
 |m+1,s=>by
  show (x s (PK k (GF x k m))).bind D=x' s (PK (λe s=>(k e s).bind D) (GF x' (λe s=>(k e s).bind D) m));rw[hx]
  congr 1
  funext e s'
  cases e<;>first|exact My hx k m s'|rfl
def aab(hN:dU F)(fuel:Nat)(D:α->af β)(c:Code):∀(s:St) (k:gG α),(exec P F n fuel c s k).bind D=exec P F n fuel c s (λe s=>(k e s).bind D):=by
 induction c with
 |region id ops draw=>exact XB hN id ops draw D
 |seq x y hx hy=>
  intro s k;show (exec P F n fuel x s (amu (exec P F n fuel y) k)).bind D=exec P F n fuel x s (amu (exec P F n fuel y) (λe s=>(k e s).bind D));rw[hx]
  congr 1
  funext e s'
  cases e<;>first|exact hy s' k|rfl
 |cond c x y hx hy=>
  intro s k;show (rE c s (λs=>exec P F n fuel x s k) (λs=>exec P F n fuel y s k)).bind D=rE c s (λs=>exec P F n fuel x s _) (λs=>exec P F n fuel y s _);rw[Zz]
  congr 1
  ·funext s;exact hx s k
  ·funext s;exact hy s k
 |block id x hx=>
  intro s k;show (exec P F n fuel x s (tC id k)).bind D=exec P F n fuel x s (tC id (λe s=>(k e s).bind D));rw[hx]
  congr 1
  funext e s'
  cases e<;>first|rfl|(simp only[tC];split<;>rfl)
 |loop c hc=>exact λs k=>My hc k fuel s
 |_=>exact λs k=>rfl
def Zx(hN:dU F)(fuel:Nat):dU (λα=>pZ (α:=α) P F fuel):=λα β f args R nx k D=>by
 show (pZ P F fuel f args R nx k).bind D=pZ P F fuel f args R nx _;unfold pZ;split
 ·split
  ·split
   ·rw[aab hN]
    congr 1
    funext e s
    cases e<;>first|rfl|exact z6 ..
   ·rfl
  ·rfl
 ·rfl
def rN{F0:bu}{has:FuncId->Bool}(hN:dU F0)(fuel:Nat):∀m:Nat,dU (td P F0 has fuel m)
 |0=>hN
 |m+1=>λα β f args R nx k D=>by
  show (match has f with|O=>F0 α f args R nx k|G=>pZ P (td P F0 has fuel m) fuel f args R nx k).bind D=_;show _=(match has f with|O=>F0 β f args R nx _|G=>pZ P (td P F0 has fuel m) fuel f args R nx _);cases has f with
  |true=>exact hN ..
  |false=>exact Zx (rN hN fuel m) fuel α β f args R nx k D
end
def ac7(hF:iO P F)(hN:dU F)(fuel:Nat):iO P (λα=>pZ (α:=α) P F fuel):=λα f args R nx k r h hargs hR=>by
 have h:pZ P F fuel f args R nx k=V r:=h;unfold pZ at h;split at h
 case h_2=>cases h
 rename_i fn hf;split at h
 case h_2=>cases h
 rename_i c hb;split at h
 case h_2=>cases h
 rename_i hc;rw[zh]at hc;obtain⟨hl,hnm⟩:=hc;refine⟨⟨fn,hf,by simpa using hnm,by rw[hb];rfl⟩,λρ=>Fn.of hf hb rfl (by rw[zn];exact hl) λC a w ha=> ?_⟩;have hm:Mt ⟨C,ρ,nx⟩ fn.ntmps ⟨NY 0 args .e,R,nx⟩ a w:=by
  refine⟨fm 0 args,?_,λq hq=>hargs _ (rf hq),hR,ρ,⟨.refl _ _,zm _⟩,?_⟩
  ·have:=Cb args 0 .e [] (λt d ht=>by cases t<;>cases ht) (λt d ht=>by cases t<;>cases ht)
   rwa [yy]at this
  ·rw[pY];exact ha
 refine wp_mono (ane hF hN fuel c r _ _ a w h hm) λe a' w' ⟨s',h1,h2⟩=> ?_;cases e with
 |normal=>exact acK (.inl rfl) h1 h2
 |ret=>exact acK (.inr rfl) h1 h2
 |_=>cases h1
def uM{F0:bu}{has:FuncId->Bool}(hF:iO P F0)(hN:dU F0)(fuel:Nat):∀m:Nat,iO P (td P F0 has fuel m)
 |0=>hF
 |m+1=>λα f args R nx k r h hargs hR=>by
  change (match has f with|O=>F0 α f args R nx k|G=>pZ P (td P F0 has fuel m) fuel f args R nx k)=V r at h;split at h
  ·exact hF α f args R nx k r h hargs hR
  ·exact ac7 (uM hF hN fuel m) (rN hN fuel m) fuel α f args R nx k r h hargs hR
end
end Go.Iv
end
noncomputable section
namespace Go.Iv
variable [U:sV] [L:nj]
open Go Go.RowKit
def scB:Nat->AV->Bool
 |_, .lit _=>O
 |n+1, .agg cs=>cs.all (scB n)
 |n+1, .jc cs=>cs.all (scB n)
 |_,_=>G
def G4:Nat->AV->Bool
 |_, .lit _=>O
 |_, .sl _ _=>O
 |_, .rp _ _=>O
 |n+1, .agg cs=>cs.all (G4 n)
 |n+1, .jc cs=>cs.all (G4 n)
 |_,_=>G
def kE:∀(n:Nat) {d:AV} {ρ:Gh},G4 n d=O->d.sub ρ=d
 |n,d,ρ,h=>by
  have hL:∀{m:Nat} {cs:aa AV},m<n->cs.all (G4 m)=O->cs.map (b9.sub ρ)=cs:=λ{m cs} hm h=>by
   have:cs.map (b9.sub ρ)=cs.map id:=zZ λc hc=>kE m (zx.1 h c hc);rw[this,List.map_id]
  cases n with
  |zero=>cases d<;>first|(cases h;done)|simp only[b9.sub]
  |succ n=>
   cases d<;>first|(cases h;done)|(simp only[b9.sub];done)|skip
   ·rw[fk,hL (zC n) h]
   ·rw[k8,hL (zC n) h]
def aaQ{R:bt}{ρ:Gh}{A:Nat->Prop}{w:World}{v:Value}{id:Nat}(hd:Hd A (bt.res ρ R) w)(hr:Rel A w ((b9.own (dg:=U.dg) id).sub ρ) v):Rel (λb=>A b\/b∈bD (bt.res ρ R)) w ((match gF R id with
  |some (.row t l)=>b9.sl t l
  |_=> .own id).sub ρ) v:=by
 have base:Rel (λb=>A b\/b∈bD (bt.res ρ R)) w ((b9.own (dg:=U.dg) id).sub ρ) v:=hr.mono λb _ hA=>⟨.inl hA,rfl⟩;split
 ·rename_i t l hg;obtain⟨i,hi,_⟩:=eT hg;have hres:=iD (ρ:=ρ) hi;have hm:=List.mem_of_getElem? hres;rw[dy]at hr;rw[gM];have hd1:Hd A [.row (ρ.v id) t l] w:=⟨λr hr=>by
   rw[zq]at hr;rw[hr];exact hd.1 _ hm,λb hb=>hd.2 b (by
    obtain⟨r,h1,h2⟩:=bS.1 hb;rw[zq]at h1;rw[h1]at h2;exact bS.2 ⟨_,hm,h2⟩)⟩
  refine(Vw.row 0 rfl A w v hd1 hr).mono λb _ hA=>⟨hA.imp (λh=>h) λhx=> ?_,rfl⟩;obtain⟨r,h1,h2⟩:=bS.1 hx;rw[zq]at h1;rw[h1]at h2;exact bS.2 ⟨_,hm,h2⟩
 ·exact base
def di:bu:=λ_ _ _ _ _ _=>I
def aru{P:Program}:iO P di:=λ_ _ _ _ _ _ _ h=>by cases h
def TB{β:Type}(e:AV->af β)(d:AV)(R:bt)(_:Nat):af β:=match R with
 |[]=>e d
 |_=>I
def P0{β:Type}(e:AV->af β)(m:β->AV):Prop:=∀d x,e d=V x->d=m x/\G4 2 d=O
def P0.b:P0 S8 b9.b:=λd x h=>by
 unfold S8 at h;split at h
 ·cases h;exact⟨rfl,rfl⟩
 ·cases h
def P0.i(k:IntKind):P0 (iE k) (b9.n k):=λd x h=>by
 unfold iE at h;split at h
 ·split at h
  ·rename_i hk;subst hk;cases h;exact⟨rfl,rfl⟩
  ·cases h
 ·cases h
def SQ{P:Program}{F:bu}(hF:iO P F){f:FuncId}{args:aa AV}{β:Type}{e:AV->af β}{m:β->AV}{x:β}(he:P0 e m)(hc:args.all (G4 2)=O)(hl:∀d∈args,cW 0 d)(h:F β f args [] 0 (TB e)=V x):tQ P f/\Fn P f args [] (λa s=>a=m x/\s=[]):=by
 obtain⟨h1,h2⟩:=hF β f args [] 0 (TB e) x h hl (λq hq=>by cases hq);refine⟨h1,?_⟩;have:=h2 ⟨λ_=>undef,λ_=>0⟩;have ea:args.map (b9.sub ⟨λ_=>undef,λ_=>0⟩)=args:=by
  have:args.map (b9.sub ⟨λ_=>undef,λ_=>0⟩)=args.map id:=zZ λc hcm=>kE 2 (zx.1 hc c hcm);rw[this,List.map_id]
 rw[ea]at this;refine Fn.mono this λa s ⟨d,R',nx',q1,_,_,_,ρ',_,q2,q3⟩=> ?_;unfold TB at q1;split at q1
 ·obtain⟨q4,q5⟩:=he _ _ q1;rw[q2,kE 2 q5,q4];exact⟨rfl,by simpa [bt.res]using q3⟩
 ·cases q1
def ua(d:AV):∀(m:Nat) (T:ET) (k s:Nat),k<2^m-1->cU (tf d m T k) s=if k=s then V d else cU T s
 |0,T,k,s,h=>by simp at h
 |m+1,T,k,s,h=>by
  rw[Uu,PA T s];by_cases hk:k=0
  ·rw[bI hk,pg];by_cases hs:s=0
   ·simp_all
   ·have h0:¬(0=s):=λe=>hs e.symm;simp_all
  ·rw[bO hk];by_cases hk2:(k-1)%2=0
   ·rw[bI hk2,pg];by_cases hs:s=0
    ·rw[bI hs,bI hs,bO aq]
    ·rw[bO hs,bO hs];by_cases hs2:(s-1)%2=0
     ·rw[bI hs2,bI hs2,ua d m T.l _ _ aq];by_cases hks:k=s
      ·rw[bI hks,bI aq]
      ·rw[bO hks,bO aq]
     ·rw[bO hs2,bO hs2,bO (λe=>hs2 (by rw[<-e];exact hk2))]
   ·rw[bO hk2,pg];by_cases hs:s=0
    ·grind
    ·rw[bO hs,bO hs];by_cases hs2:(s-1)%2=0
     ·rw[bI hs2,bI hs2,bO (λe=>hk2 (by rw[e];exact hs2))]
     ·rw[bO hs2,bO hs2,ua d m T.r _ _ aq];by_cases hks:k=s
      ·rw[bI hks,bI aq]
      ·rw[bO hks,bO aq]
def Bq{t s:Nat}{d:AV}{T:ET}(h:t<4095):cU (mX t d T) s=if t=s then V d else cU T s:=ua d 12 T t s h
def bA(F:bu)(f:FuncId):Prop:=∀args R nx d R' nx',F (AV×bt×Nat) f args R nx (λd R nx=>V (d,R,nx))=V (d,R',nx')->R'=R
def NX(fs:aa Nat):Op->Bool
 | .move _=>O
 | .assign _=>O
 | .pick c _ _=>match c with
  | .tmp t=>zB t 4095
  |_=>O
 | .binOp _ _ _ _ _=>O
 | .unOp _ _ _=>O
 | .fieldAddr _ _ _=>O
 | .indexAddr _ _ _=>O
 | .index _ _ _=>O
 | .load _ _=>O
 | .nilCheck _=>O
 | .convert _ _ _=>O
 | .extract _ _=>O
 | .call c=>match c.callee with
  | .value (.func f)=>dF f fs&& !L.fz f
  | .builtin .len=>O
  | .builtin .max=>O
  | .builtin .min=>O
  |_=>G
 |_=>G
def IA:af Nat->Bool
 |some t=>zB t 4095
 |none=>O
section
variable {P:Program} {F:bu} {n:Nat} {fs:aa Nat}
def adp{E:ET}{o:Op}(h:NX fs o=O):jb E o=[]:=by
 cases o<;>first|rfl|(cases h;done)|skip
 case call c=>
  unfold NX at h;unfold jb;grind
def pM{g:(K:AV->af gy)->af gy}{g0:af AV}{e:gy}(hg:g (λd=>V (.val d))=g0.bind λd=>V (.val d))(h:g (dQ V)=V e):∃d,e= .val d:=by
 have h:g (λd=>V (.val d))=V e:=h;rw[hg]at h;obtain⟨d,_,h2⟩:=zo.1 h;cases h2;simp
def ZH(hN:dU F)(hp:∀f∈fs,bA F f){o:Op}{E:ET}{rd:Nat->af IR}{R:bt}{nx:Nat}{e:gy}(ho:NX fs o=O)(h:pI o P F (Jj E) rd R nx V=V e):∃d nx',e= .all d R nx'\/e= .val d:=by
 have fin:(∃d,e= .val d)->∃d nx',e=gy.all d R nx'\/e= .val d:=λ⟨d,h⟩=>⟨d,0, .inr h⟩;have fb:∀{x:af AV},x.bind (dQ V)=V e->∃d,e= .val d:=λ{x} h=>by
  obtain⟨d,_,h2⟩:=zo.1 h;cases h2;simp
 cases o<;>first|(cases ho;done)|exact fin (fb h)|skip
 case pick c a b=>
  have h:u9 c a b P F (Jj E) rd R nx V=V e:=h;unfold u9 at h;split at h
  ·exact fin (fb h)
  ·exact fin (fb h)
  ·cases h
 case binOp b T x y t=>exact fin (pM (NI (K:=V) (λd=>V (gy.val d))).symm h)
 case unOp b T x=>exact fin (pM (V1 (K:=V) (λd=>V (gy.val d))).symm h)
 case fieldAddr T x i=>exact fin (pM (MF (K:=V) (λd=>V (gy.val d))).symm h)
 case indexAddr T x y=>exact fin (pM (OY (K:=V) (λd=>V (gy.val d))).symm h)
 case index T x y=>exact fin (pM (Mz (K:=V) (λd=>V (gy.val d))).symm h)
 case load T x=>exact fin (pM (Uw (K:=V) (λd=>V (gy.val d))).symm h)
 case nilCheck x=>exact fin (pM (M4 (K:=V) (λd=>V (gy.val d))).symm h)
 case convert T T' x=>exact fin (pM (Mn (K:=V) (λd=>V (gy.val d))).symm h)
 case extract x i=>exact fin (pM (P9 (K:=V) (λd=>V (gy.val d))).symm h)
 case call c=>
  have h:Ec c P F (Jj E) rd R nx V=V e:=h;unfold Ec at h;unfold NX at ho;dsimp only at ho;split at ho
  ·rename_i f hf;rw[hf]at h;rw[zh]at ho;obtain⟨xs,_,h2⟩:=zo.1 h;have h3:=hN (AV×bt×Nat) gy f (xs++[]) R nx (λd R nx=>V (d,R,nx)) (λx=>V (.all x.1 x.2.1 x.2.2));have h3':(F (AV×bt×Nat) f (xs++[]) R nx (λd R nx=>V (d,R,nx))).bind (λx=>V (.all x.1 x.2.1 x.2.2))=V e:=h3.trans h2;obtain⟨⟨d,R',nx'⟩,h4,h5⟩:=zo.1 h3';have h6:=hp f (gd.1 ho.1) _ _ _ _ _ _ h4;subst h6;cases h5;exact⟨d,nx', .inl rfl⟩
  ·rename_i hc;rw[hc]at h;unfold Fp at h;dsimp only at h;split at h
   ·exact fin (pM (Mo (K:=V) (λd=>V (gy.val d))).symm h)
   ·cases h
  ·rename_i hc;rw[hc]at h;have h:Fp .max c.args c.argTypes P (Jj E) rd R nx V=V e:=h;unfold Fp at h;dsimp only at h;split at h
   ·exact fin (pM (DL (K:=V) (λd=>V (gy.val d))).symm h)
   ·cases h
  ·rename_i hc;rw[hc]at h;have h:Fp .min c.args c.argTypes P (Jj E) rd R nx V=V e:=h;unfold Fp at h;dsimp only at h;split at h
   ·exact fin (pM (DL (K:=V) (λd=>V (gy.val d))).symm h)
   ·cases h
  ·cases ho
def abu(l:aa Oper)(s s0:St):Prop:=s0.R=s.R/\∀u d,(∀o∈l,o.dst≠V u)->cU s.E u=V d->cU s0.E u=V d
def og{s:St}{t:Nat}{b:Bool}(ht:t<4095)(h:cU s.E t=V (.lit (.bool b))){u:Nat}{d:AV}(hu:cU s.E u=V d):cU (s.gm t b).E u=V d:=by
 show cU (mX t (.b b) s.E) u=_;rw[Bq ht];split
 ·rename_i e;subst e;rw[h]at hu;exact hu
 ·exact hu
def E7(hN:dU F)(hp:∀f∈fs,bA F f){ops:Array Oper}(hops:∀o∈ops.toList,IA o.dst=O):∀(l:aa Oper) {s s0:St},(∀o∈l,NX fs o.op=O/\IA o.dst=O)->fB P F n ops l s V=V s0->abu l s s0
 |[],s,s0,_,h=>by cases h;exact⟨rfl,λu d _ hu=>hu⟩
 |o::l,s,s0,hl,h=>by
  have ho:=hl o zk;have hl':=λo' h'=>hl o' (zJ _ h');change Py P F n ops o (fB P F n ops l) s V=V s0 at h;unfold Py at h;split at h
  case h_2=>cases h
  have putG:∀{s2:St} {d:AV} {nx':Nat},fB P F n ops l ⟨u6 o.dst d s2.E,s2.R,nx'⟩ V=V s0->s2.R=s.R->(∀u d,cU s.E u=V d->cU s2.E u=V d)->abu (o::l) s s0:=λ{s2 d nx'} h1 h2 h3=>by
   obtain⟨q1,q2⟩:=E7 hN hp hops l hl' h1;refine⟨q1.trans h2,λu d' hu hd=>q2 u d' (λo' h'=>hu o' (zJ _ h')) ?_⟩;show cU (u6 o.dst d s2.E) u=V d';have hne:=hu o zk;have hod:=ho.2;unfold u6;split
   ·simp_all
   ·rename_i t ht;rw[ht]at hod hne;rw[Bq (by simpa [IA]using hod),bO (λe=>hne (by rw[e]))];simp_all
  have yes:∀s1:St,aw7 P F o (fB P F n ops l) V s1=V s0->s1.R=s.R->(∀u d,cU s.E u=V d->cU s1.E u=V d)->abu (o::l) s s0:=λs1 h1 h2 h3=>by
   obtain⟨E1,R1,nx1⟩:=s1;have h1:opF o.op P F o.dst E1 R1 nx1 (fB P F n ops l) V=V s0:=h1;have e1:=Lw P F o ⟨E1,R1,nx1⟩ (fB (α:=St) P F n ops l) V;rw[e1]at h1;have go:∀s2:St,rDo P F o (fB P F n ops l) V s2=V s0->s2.R=s.R->(∀u d,cU s.E u=V d->cU s2.E u=V d)->abu (o::l) s s0:=λs2 g1 g2 g3=>by
    unfold rDo at g1;rw[adp ho.1]at g1;obtain⟨E2,R2,nx2⟩:=s2;have g4:(pI o.op P F (Jj E2) (gF R2) R2 nx2 V).bind (NC o.dst E2 R2 nx2 (fB P F n ops l) V)=V s0:=(BG _ hN ..).trans g1;obtain⟨e,g5,g6⟩:=zo.1 g4;obtain⟨d,nx',he⟩:=ZH hN hp ho.1 g5;rcases he with he|he
    ·subst he;exact putG (s2:=⟨E2,R2,nx2⟩) g6 g2 g3
    ·subst he;exact putG (s2:=⟨E2,R2,nx2⟩) g6 g2 g3
   unfold CJ at h1;split at h1
   ·rename_i t a b hop;have ht:t<4095:=by
     have:=ho.1;rw[hop]at this;simpa [NX]using this
    split at h1
    ·rename_i b hb;split at h1
     ·exact go _ h1 h2 λu d hu=>og (s:=⟨E1,R1,nx1⟩) ht hb (h3 u d hu)
     ·exact go _ h1 h2 λu d hu=>og (s:=⟨E1,R1,nx1⟩) ht hb (h3 u d hu)
    ·cases h1
   ·exact go _ h1 h2 h3
  have no:∀s1:St,rNo o.dst (fB P F n ops l) V s1=V s0->s1.R=s.R->(∀u d,cU s.E u=V d->cU s1.E u=V d)->abu (o::l) s s0:=λs1 h1 h2 h3=>by
   have:rNo o.dst (fB P F n ops l) V s1=fB P F n ops l ⟨u6 o.dst (.lit undef) s1.E,s1.R,s1.nx⟩ V:=by
    cases o.dst<;>rfl
   rw[this]at h1;exact putG (s2:=s1) h1 h2 h3
  unfold gate at h;split at h
  ·exact yes s h rfl λ_ _ h=>h
  ·rename_i j want hg;split at h
   ·cases h
   ·rename_i t hj;have ht:t<4095:=by
     obtain⟨o',ho',hd'⟩:=zo.1 hj;have hm:o'∈ops.toList:=Array.mem_toList_iff.2 (Array.mem_of_getElem? ho');have:=hops o' hm;rw[hd']at this;simpa [IA]using this
    split at h
    ·rename_i b hb;split at h
     ·split at h
      ·exact yes _ h rfl λu d hu=>og ht hb hu
      ·exact no _ h rfl λu d hu=>og ht hb hu
     ·split at h
      ·exact no _ h rfl λu d hu=>og ht hb hu
      ·exact yes _ h rfl λu d hu=>og ht hb hu
    ·exact no _ h rfl λ_ _ h=>h
    ·cases h
def aBn(fs:aa Nat)(t:Nat)(E:ET)(ops:aa Oper):Bool:=zB t 4095&&ops.all λo=>NX fs o.op&&IA o.dst&&match o.dst with
 |some u=>ze u t||match cU E u with
  |none=>O
  |some _=>G
 |none=>O
def rbK(t:Nat)(s:St):af Bool:=match cU s.E t with
 |some (.lit (.bool b))=>V b
 |_=>I
def SU{α:Type}(P:Program)(F:bu)(n:Nat)(fs:aa Nat)(t:Nat)(ops:Array Oper)(s:St)(k:gG α):af α:=match aBn fs t s.E ops.toList with
 |true=>match fB (α:=Bool) P F n ops ops.toList s (rbK t)with
  |some b=>k .normal ⟨mX t (.b b) s.E,s.R,s.nx⟩
  |none=>I
 |false=>I
def Env.um{T:ET}:∀(E:Env) (u:Nat) (d:AV),Env.get (E.filter λp=>@J (cU T p.1=V p.2) (Classical.propDecidable _)) u=V d->cU T u=V d
 |[],_,_,h=>by cases h
 |(k,v)::E,u,d,h=>by
  by_cases hk:cU T k=V v
  ·rw[yX,bI (by simp[hk])]at h;by_cases hku:k=u
   ·subst hku;rw[Env.fq]at h;simp_all
   ·rw[Env.dV _ _ hku]at h;exact Env.um E u d h
  ·rw[yX,bO (by simp[hk])]at h;exact Env.um E u d h
def Env.qP{T:ET}:∀(E:Env) (u:Nat) (d:AV),cU T u=V d->E.get u=V d->Env.get (E.filter λp=>@J (cU T p.1=V p.2) (Classical.propDecidable _)) u=V d
 |[],_,_,_,h=>by cases h
 |(k,v)::E,u,d,ht,h=>by
  by_cases hku:k=u
  ·subst hku;rw[Env.fq]at h;cases h;rw[yX,bI (by simp[ht])];exact Env.fq _ _ _
  ·rw[Env.dV _ _ hku]at h;rw[yX];split
   ·rw[Env.dV _ _ hku];exact Env.qP E u d ht h
   ·exact Env.qP E u d ht h
def XX{α:Type}{C:Cg}(hF:iO P F)(hN:dU F)(hp:∀f∈fs,bA F f)(id t:Nat)(ops:Array Oper):XH (α:=α) P C n (.region id ops G) (SU P F n fs t ops):=λr s k a w h hm=>by
 unfold SU at h;split at h
 case h_2=>cases h
 rename_i hrb;split at h
 case h_2=>cases h
 rename_i b hb;unfold aBn at hrb;rw[zh,Nat.blt_eq]at hrb;obtain⟨ht,hall⟩:=hrb;have hall:∀o∈ops.toList,(NX fs o.op=O/\IA o.dst=O)/\∀u,o.dst=V u->u=t\/cU s.E u=I:=λo ho=>by
  have h1:=zx.1 hall o ho;rw[zh,zh]at h1;refine⟨h1.1,λu hu=> ?_⟩;have h2:=h1.2;rw[hu]at h2;dsimp only at h2;rw[yJ]at h2;rcases h2 with h2|h2
  ·simp_all
  ·right;split at h2
   ·assumption
   ·cases h2
 have hnat:=sC hN (P:=P) (n:=n) (ops:=ops) (rbK t) ops.toList s V;have hb':(fB P F n ops ops.toList s V).bind (rbK t)=V b:=hnat.trans hb;obtain⟨s0,h1,h2⟩:=zo.1 hb';obtain⟨q1,q2⟩:=E7 hN hp (λo ho=>(hall o ho).1.2) ops.toList (λo ho=>(hall o ho).1) h1;have hend:Ends P C n (.region id ops G) (λe s'=>match e with
  | .normal=>V s'
  |_=>I) s0 a w:=by
  refine wp_mono (wp_region_lit (Ej hF _ h1 hm)) λe a' w' ⟨he,_,s',h3,h4⟩=> ?_;subst he;exact⟨s',h3,h4⟩
 refine wp_mono hend λe a' w' ⟨s',h3,h4⟩=> ?_;cases e<;>first|(cases h3;done)|skip
 cases h3;refine⟨_,h,?_⟩;have hbt:cU s0.E t=V (.b b):=by
  unfold rbK at h2;split at h2
  ·simp_all
  ·cases h2
 obtain⟨E,hh,hE,hR,ρ,hag,hsim⟩:=hm;obtain⟨E0,hh0,hE0,hR0,ρ0,hag0,hsim0⟩:=h4
 let E1:Env:=(t, .b b)::E.filter λp=>@J (cU s.E p.1=V p.2) (Classical.propDecidable _)
 have hkey:∀u d,E1.get u=V d->cU s0.E u=V d:=λu d hu=>by
  by_cases htu:t=u
  ·subst htu;rw[Env.fq]at hu;cases hu;exact hbt
  ·rw[Env.dV _ _ htu]at hu;have h5:=Env.um E u d hu;refine q2 u d (λo ho hd=> ?_) h5;rcases (hall o ho).2 u hd with h6|h6
   ·exact htu h6.symm
   ·simp_all
 refine⟨E1,λu d hu=> ?_,Env.Aq (λp hp=>hE p (z7.1 hp).1) (.lit _),hR,ρ0,⟨hag0.1,hag.2⟩,?_⟩
 ·have hu:cU (mX t (.b b) s.E) u=V d:=hu;rw[Bq ht]at hu;split at hu
  ·rename_i e;rw[<-e,<-zF.inj hu];exact Env.fq _ _ _
  ·rename_i e;rw[Env.dV _ _ e];exact Env.qP E u d hu (hh u d hu)
 ·rw[q1]at hsim0;refine⟨hsim0.defers,hsim0.size,λu av hu=> ?_,hsim0.good⟩;rw[Env.fo]at hu;obtain⟨d,hd,rfl⟩:=zl.1 hu;exact hsim0.slots u _ (by rw[Env.fo,hh0 u d (hkey u d hd)];rfl)
end
inductive An:Type 1
 |no
 |two (l r:An)
 |lp (γ:Type) (rd:St->Option γ) (pat:γ->St) (H8:γ->Option γ) (body:An)
 |jn (γ:Type) (rd:St->Option γ) (pat:γ->St) (l r:An)
 |rb (fs:List Nat) (t:Nat)
def An.l:An->An
 | .two l _=>l
 | .jn _ _ _ l _=>l
 |_=> .no
def An.r:An->An
 | .two _ r=>r
 | .jn _ _ _ _ r=>r
 |_=> .no
abbrev noTwo(a:An):An:= .two .no a
abbrev XT:=An->(α:Type)->St->gG α->af α
def aGh{γ:Type}(b:Bool)(p q:γ):γ:=match b with
 |true=>p
 |false=>q
def kOn{γ:Type}(rd:St->af γ):gG (af γ):=λe s=>match e with
 | .normal=>(rd s).map V
 |_=>V I
def aqc{γ:Type}(rd:St->af γ):gG γ:=λe s=>match e with
 | .normal=>rd s
 |_=>I
def adK{γ α:Type}(rd:St->af γ)(pat:γ->St)(c:Operand)(s:St)(x y:(α:Type)->St->gG α->af α)(k:gG α):af α:=match c with
 | .tmp t=>match cU s.E t with
  |some (.lit (.bool b))=>match x γ (s.gm t O) (aqc rd)with
   |some p=>match y γ (s.gm t G) (aqc rd)with
    |some q=>k .normal (pat (aGh b p q))
    |none=>I
   |none=>I
  |_=>I
 |_=>I
def aze(P:Program)(F:bu)(n:Nat)(id:Nat)(ops:Array Oper)(draw:Bool):XT:=λan _ s k=>match an with
 | .rb fs t=>match draw with
  |false=>SU P F n fs t ops s k
  |true=>CE P F n id ops O s k
 |_=>CE P F n id ops draw s k
def awA(x y:XT):XT:=λan α s k=>x an.l α s (amu (y an.r α) k)
def aqy(c:Operand)(x y:XT):XT:=λan α s k=>match an with
 | .jn _ rd pat l r=>adK rd pat c s (x l) (y r) k
 |an=>rE c s (λs=>x an.l α s k) (λs=>y an.r α s k)
def ahE(id:Nat)(x:XT):XT:=λan α s k=>x an α s (tC id k)
def aqY(fuel:Nat)(x:XT):XT:=λan α s k=>match an with
 | .lp _ rd pat H8 b=>match rd s with
  |some p=>match H8 p with
   |some q=>x b α (pat q) (PK k λ_=>I)
   |none=>I
  |none=>I
 |an=>GF (x an α) k fuel s
def jH(P:Program)(F:bu)(n:Nat)(fuel:Nat)(c:Code):XT:=
 Code.rec (λ_ _ s k=>adx s k) (aze P F n) (λ_ _=>awA) (λc _ _=>aqy c) (λid _=>ahE id) (λ_=>aqY fuel) (λ_ _ _ _ _ _ _ _ s k=>GO s k) (λi _ _ s k=>acR i s k) (λ_ _ _ _ s k=>GO s k) (λ_ _ _ s k=>GO s k) (λ_ _ _ s k=>GO s k) (λ_ _ s k=>apo s k) (λ_ _ _ s k=>GO s k) c
def sY{γ:Type}(n0 n:Nat)(rd:St->af γ)(pat:γ->St):Prop:=∀(C:Cg) s p a w,C.n=n0->rd s=V p->Mt C n s a w->Mt C n (pat p) a w
def Xp{γ:Type}(x:XT)(rd:St->af γ)(pat:γ->St)(b:An):Nat->γ->γ->Prop
 |0,p,q=>p=q
 |n+1,p,q=>∃p',x b (af γ) (pat p) (kOn rd)=V (V p')/\Xp x rd pat b n p' q
def VU{γ:Type}(x:XT)(rd:St->af γ)(pat:γ->St)(H8:γ->af γ)(b:An):Prop:=
 ∀p q,H8 p=V q->∃n,Xp x rd pat b n p q
def MU(P:Program)(F:bu)(n0 n:Nat)(fuel:Nat)(c:Code):An->Prop:=
 Code.rec (λ_=>True) (λ_ _ _ an=>match an with
  | .rb fs _=>∀f∈fs,bA F f
  |_=>True) (λ_ _ x y an=>x an.l/\y an.r) (λ_ _ _ x y an=>(∀γ rd pat l r,an= .jn γ rd pat l r->sY n0 n rd pat)/\x an.l/\y an.r) (λ_ _ x=>x)
  (λc x an=>match an with
   | .lp _ rd pat H8 b=>sY n0 n rd pat/\VU (jH P F n fuel c) rd pat H8 b/\x b
   |an=>x an) (λ_ _ _ _ _ _ _=>True) (λ_ _=>True) (λ_ _ _=>True) (λ_ _=>True) (λ_ _=>True) (λ_=>True) (λ_ _=>True) c
section
variable {P:Program} {F:bu} {C:Cg} {n0 n:Nat}
def aee(hF:iO P F)(hN:dU F)(hC:C.n=n0)(fuel:Nat)(c:Code):∀an,MU P F n0 n fuel c an->∀(α:Type),XH (α:=α) P C n c (jH P F n fuel c an α):=by
 induction c with
 |skip=>exact λan _ α r s k a w h hm=>wp_skip ⟨s,h,hm⟩
 |region id ops draw=>
  intro an ho α;cases an with
  |rb fs t=>
   cases draw with
   |false=>exact XX hF hN ho id t ops
   |true=>exact DW hF hN id ops O
  |_=>exact DW hF hN id ops draw
 |seq x y hx hy=>
  intro an ho α r s k a w h hm;obtain⟨h1,h2⟩:MU P F n0 n fuel x an.l/\MU P F n0 n fuel y an.r:=ho;refine wp_seq (wp_mono (hx an.l h1 α r s _ a w h hm) λe a' w' ⟨s',g1,g2⟩=> ?_);cases e with
  |normal=>exact hy an.r h2 α r s' k a' w' g1 g2
  |_=>exact⟨s',g1,g2⟩
 |cond c x y hx hy=>
  intro an ho α r s k a w h hm;obtain⟨h0,h1,h2⟩:(∀γ rd pat l r,an= .jn γ rd pat l r->sY n0 n rd pat)/\MU P F n0 n fuel x an.l/\MU P F n0 n fuel y an.r:=ho;have plain:rE c s (λs=>jH P F n fuel x an.l α s k) (λs=>jH P F n fuel y an.r α s k)=V r->Ends P C n (.cond c x y) k r a w:=λh=>by
   obtain⟨b,s',he,hm',h'⟩:=Og h hm;cases b with
   |true=>exact wp_cond_true he (hx an.l h1 α r s' k a w h' hm')
   |false=>exact wp_cond_false he (hy an.r h2 α r s' k a w h' hm')
  cases an with
  |jn γ rd pat l r'=>
   have hrd:=h0 γ rd pat l r' rfl;change adK rd pat c s (jH P F n fuel x l) (jH P F n fuel y r') k=V r at h;unfold adK at h;split at h
   case h_2=>cases h
   rename_i t;split at h
   case h_2=>cases h
   rename_i b hb;split at h
   case h_2=>cases h
   rename_i p hp;split at h
   case h_2=>cases h
   rename_i q hq;have hev:a.eval (.tmp t)= .bool b:=by
    obtain⟨E,hh,_,_,ρ,_,hs⟩:=hm;refine UH hs ?_;have g1:=hh t _ hb;show Env.get (E.sub ρ) t=_;rw[Env.fo,g1,yG,bV]
   have fin:∀(p:γ),k .normal (pat p)=V r->∀e a' w',(∃s',aqc rd e s'=V p/\Mt C n s' a' w')->∃s',k e s'=V r/\Mt C n s' a' w':=λp hk e a' w' ⟨s',g1,g2⟩=>by
    cases e with
    |normal=>exact⟨_,hk,hrd C s' p a' w' hC g1 g2⟩
    |_=>cases g1
   cases b with
   |true=>exact wp_cond_true hev (wp_mono (hx l h1 γ p _ _ a w hp (hm.gm hb)) (fin p h))
   |false=>exact wp_cond_false hev (wp_mono (hy r' h2 γ q _ _ a w hq (hm.gm hb)) (fin q h))
  |_=>exact plain h
 |block id x hx=>
  intro an ho α r s k a w h hm;refine wp_block (wp_mono (hx an ho α r s _ a w h hm) λe a' w' ⟨s',h1,h2⟩=> ?_);cases e with
  |exit id'=>
   simp only[tC]at h1;simp only[Exit.inBlock];split
   ·rename_i he;subst he;have hb:ze id' id'=O:=Nat.beq_refl _;simp only[hb]at h1;exact⟨s',h1,h2⟩
   ·rename_i he;have hb:ze id' id=G:=by
     cases hb:ze id' id with
     |false=>rfl
     |true=>exact ei (xx hb) he
    simp only[hb]at h1;exact⟨s',h1,h2⟩
  |_=>exact⟨s',h1,h2⟩
 |loop c hc=>
  intro an ho α r s k a w h hm;cases an with
  |lp γ rd pat H8 b=>
   obtain⟨hrd,hadv,hb⟩:sY n0 n rd pat/\VU (jH P F n fuel c) rd pat H8 b/\MU P F n0 n fuel c b:=ho;change (match rd s with
    |some p=>match H8 p with
     |some q=>jH P F n fuel c b α (pat q) (PK k λ_=>I)
     |none=>I
    |none=>I)=V r at h
   split at h
   case h_2=>cases h
   rename_i p hp;split at h
   case h_2=>cases h
   rename_i q hq;obtain⟨m,hgo⟩:=hadv p q hq;have key:∀(m:Nat) (p:γ),Xp (jH P F n fuel c) rd pat b m p q->∀(a:Act) (w:World),Mt C n (pat p) a w->
     c.wp P (Exit.then (InL P c λe a' w'=>∃s',k e s'=V r/\Mt C n s' a' w') λe a' w'=>∃s',k e s'=V r/\Mt C n s' a' w') a w:=by
    intro m;induction m with
    |zero=>
     intro p hg a w hm;have hg:p=q:=hg;subst hg;refine wp_mono (hc b hb α r _ _ a w h hm) λe a' w' ⟨s',q1,q2⟩=> ?_;cases e with
     |normal=>cases q1
     |_=>exact⟨s',q1,q2⟩
    |succ m ih=>
     intro p hg a w hm;obtain⟨p',g1,g3⟩:=hg;refine wp_mono (hc b hb (af γ) (V p') _ _ a w g1 hm) λe a' w' ⟨s',q1,q2⟩=> ?_;cases e with
     |normal=>
      obtain⟨p'',q3,q4⟩:=zl.1 (show (rd s').map V=V (V p')from q1);cases q4;exact Ox (ih p' g3 a' w' (hrd C s' p' a' w' hC q3 q2))
     |_=>cases q1
   exact Ih (key m p hgo a w (hrd C s p a w hC hp hm))
  |_=>exact Hz (hc _ ho α) fuel r s k a w h hm
 |exit i=>exact λan _ α r s k a w h hm=>wp_exit ⟨s,h,hm⟩
 |ret=>exact λan _ α r s k a w h hm=>wp_ret ⟨s,h,hm⟩
 |_=>exact λan _ α r s k a w h hm=>by cases h
def bU(P:Program)(F:bu)(fuel:Nat)(an:An){α:Type}(f:FuncId)(args:aa AV)(R:bt)(nx:Nat)(k:St->af α):af α:=match P.funcs[f]? with
 |some fn=>match fn.body with
  |some c=>match yq args.length fn.ntmps&& !(fn.name=="runtime.NumGoroutine")with
   |true=>jH P F fn.ntmps fuel c an α ⟨NY 0 args .e,R,nx⟩ λe s=>match e with
    | .normal=>k s
    | .ret=>k s
    |_=>I
   |false=>I
  |none=>I
 |none=>I
def eX(P:Program)(F:bu)(n0:Nat)(fuel:Nat)(f:FuncId)(an:An):Prop:=∀fn c,P.funcs[f]? =V fn->fn.body=V c->MU P F n0 fn.ntmps fuel c an
def nL(P:Program)(f:FuncId)(s:St):af (aa AV):=match P.funcs[f]? with
 |some fn=>GW P s fn.results.toList
 |none=>I
structure Out where
 d:AV
 R:bt
 c:Nat
def Mm(P:Program)(f:FuncId)(args:aa AV)(R0:bt)(n0:Nat)(x:Out):Prop:=∀ρ:Gh,Fn P f (args.map (b9.sub ρ)) (bt.res ρ R0) (λa s=>∃ρ':Gh,pU n0 ρ ρ'/\a=x.d.sub ρ'/\List.Perm s (bt.res ρ' x.R))
def jT(hF:bz P F){n0 fuel:Nat}{f:FuncId}{an:An}(han:eX P F n0 fuel f an){args:aa AV}{R0:bt}{γ:Type}{rd:St->af γ}{pat:γ->St}{out:γ->Out}{p:γ}
  (hrd:∀n,sY n0 n rd pat) (ho:∀p,(match nL P f (pat p)with
   |some ds=>V (Out.mk (fC ds) (tg (pat p).R n0 (fC ds)) (pat p).nx)
   |none=>I)=V (out p))
  (hargs:∀d∈args,cW n0 d) (hR:bt.cW n0 R0) (h:bU P F fuel an f args R0 n0 rd=V p):tQ P f/\Mm P f args R0 n0 (out p):=by
 unfold bU at h;split at h
 case h_2=>cases h
 rename_i fn hf;split at h
 case h_2=>cases h
 rename_i c hb;split at h
 case h_2=>cases h
 rename_i hc;rw[zh]at hc;obtain⟨hl,hnm⟩:=hc;have hop:=ho p;split at hop
 case h_2=>cases hop
 rename_i ds hds;have hds:GW P (pat p) fn.results.toList=V ds:=by
  unfold nL at hds;rw[hf]at hds;exact hds
 have hop:=zF.inj hop;refine⟨⟨fn,hf,by simpa using hnm,by rw[hb];rfl⟩,λρ=>Fn.of hf hb rfl (by rw[zn];exact hl) λC a w ha=> ?_⟩;have hm:Mt ⟨C,ρ,n0⟩ fn.ntmps ⟨NY 0 args .e,R0,n0⟩ a w:=by
  refine⟨fm 0 args,?_,λq hq=>hargs _ (rf hq),hR,ρ,⟨.refl _ _,zm _⟩,?_⟩
  ·have:=Cb args 0 .e [] (λt d ht=>by cases t<;>cases ht) (λt d ht=>by cases t<;>cases ht)
   rwa [yy]at this
  ·rw[pY];exact ha
 refine wp_mono (aee (C:=⟨C,ρ,n0⟩) hF.ok hF.nat rfl fuel c an (han fn c hf hb) γ p _ _ a w h hm) λe a' w' ⟨s',h1,h2⟩=> ?_;have fin:∀e:Exit,(e= .normal\/e= .ret)->rd s'=V p->∃E' σ',uD C fn.ntmps E' σ' a' w'/\aj8 P C fn.ntmps fn (λa s=>∃ρ':Gh,pU n0 ρ ρ'/\a=(out p).d.sub ρ'/\List.Perm s (bt.res ρ' (out p).R)) e E' σ':=λe he hp=>by
  have hm':=hrd fn.ntmps ⟨C,ρ,n0⟩ s' p a' w' rfl hp h2;obtain⟨E,hh,hE,hR,ρ',⟨hag,hnx⟩,hsim⟩:=hm';have hsub:List.Sublist (tg (pat p).R n0 (fC ds)) (pat p).R:=Bp _ _ _;refine⟨_,_,hsim,ac0 (σ':=bt.res ρ' (tg (pat p).R n0 (fC ds))) (av:=(fC ds).sub ρ') he (hsub.map _) ⟨ρ',hag,by rw[<-hop],by rw[<-hop]⟩ λA w' tmps hd hs=> ?_⟩;obtain⟨us,q1,q2⟩:=Me hh hd hs hds;refine⟨_,?_,N1 q2⟩;show (do let vs <-fn.results.mapM (uc tmps);pure (if h:vs.size=1 then vs[0]else .tuple vs):Sem Value).run P w'=_;have e1:fn.results=fn.results.toList.toArray:=by simp
  rw[e1,List.mapM_toArray];simp[q1]
 cases e with
 |normal=>exact fin _ (.inl rfl) h1
 |ret=>exact fin _ (.inr rfl) h1
 |_=>cases h1
end
section
variable {γ:Type} (rnd:γ->af (af γ))
def mF:Nat->γ->γ->Prop
 |0,p,q=>p=q/\∀r,rnd p≠V (V r)
 |n+1,p,q=>∃p',rnd p=V (V p')/\mF n p' q
open Classical in
def bJ(p:γ):af γ:=if h:∃q n,mF rnd n p q then V (Classical.choose h)else I
variable {rnd}
def mF.det:∀{n m:Nat} {p q q':γ},mF rnd n p q->mF rnd m p q'->n=m/\q=q'
 |0,0,p,q,q',⟨h1,_⟩,⟨h2,_⟩=>⟨rfl,h1▸h2⟩
 |0,m+1,p,q,q',⟨h1,h3⟩,⟨p',h2,_⟩=>ei h2 (h3 p')
 |n+1,0,p,q,q',⟨p',h2,_⟩,⟨h1,h3⟩=>ei h2 (h3 p')
 |n+1,m+1,p,q,q',⟨p',h1,h2⟩,⟨p'',h3,h4⟩=>by
  rw[h1]at h3;cases h3;obtain⟨e1,e2⟩:=mF.det h2 h4;exact⟨by rw[e1],e2⟩
def mF.H8{n:Nat}{p q:γ}(h:mF rnd n p q):bJ rnd p=V q:=by
 have hx:∃q n,mF rnd n p q:=⟨q,n,h⟩;unfold bJ;rw[dif_pos hx];obtain⟨m,hm⟩:=Classical.choose_spec hx;rw[(mF.det hm h).2]
def mF.last{n:Nat}{p q:γ}(h:mF rnd n p q):∀r,rnd q≠V (V r):=by
 induction n generalizing p with
 |zero=>obtain⟨h1,h2⟩:=h;rw[<-h1];exact h2
 |succ n ih=>obtain⟨p',_,h2⟩:=h;exact ih h2
def mF.ex(zb:γ->Prop)(m:γ->Nat)(h:∀p q,zb p->rnd p=V (V q)->zb q/\m q<m p):∀(k:Nat) (p:γ),m p<=k->zb p->∃n q,mF rnd n p q/\zb q
 |k,p,hk,hp=>by
  by_cases hq:∃q,rnd p=V (V q)
  ·obtain⟨q,hq⟩:=hq;obtain⟨h1,h2⟩:=h p q hp hq
   match k with
   |0=>omega
   |k+1=>
    obtain⟨n,r,h3,h4⟩:=mF.ex zb m h k q aq h1;exact⟨n+1,r,⟨q,hq,h3⟩,h4⟩
  ·exact⟨0,p,⟨rfl,λr hr=>hq ⟨r,hr⟩⟩,hp⟩
def BN{p q:γ}(h:bJ rnd p=V q):∃n,mF rnd n p q:=by
 unfold bJ at h;split at h
 ·rename_i hx;cases h;exact Classical.choose_spec hx
 ·cases h
def mh(zb:γ->Prop)(m:γ->Nat)(h:∀p q,zb p->rnd p=V (V q)->zb q/\m q<m p){p:γ}(hp:zb p):∃q,bJ rnd p=V q/\zb q/\∀r,rnd q≠V (V r):=by
 obtain⟨n,q,h1,h2⟩:=mF.ex zb m h (m p) p (zm _) hp;exact⟨q,h1.H8,h2,h1.last⟩
def bR{p p':γ}(h:rnd p=V (V p')):bJ rnd p=bJ rnd p':=by
 cases h2:bJ rnd p' with
 |some q=>
  obtain⟨n,hn⟩:=BN h2;exact(show mF rnd (n+1) p q from⟨p',h,hn⟩).H8
 |none=>
  cases h1:bJ rnd p with
  |none=>rfl
  |some q=>
   obtain⟨n,hn⟩:=BN h1;cases n with
   |zero=>exact ei h (hn.2 p')
   |succ n=>
    obtain⟨p'',h3,h4⟩:=hn;rw[h]at h3;cases h3;rw[h4.H8]at h2;cases h2
def ct{p:γ}(h:∀r,rnd p≠V (V r)):bJ rnd p=V p:=(show mF rnd 0 p p from⟨rfl,h⟩).H8
def mF.x{x:XT}{rd:St->af γ}{pat:γ->St}{b:An}(hx:∀p,x b (af γ) (pat p) (kOn rd)=rnd p):∀{n:Nat} {p q:γ},mF rnd n p q->Xp x rd pat b n p q
 |0,_,_,h=>h.1
 |_+1,_,_,⟨p',h1,h2⟩=>⟨p',by rw[hx];exact h1,mF.x hx h2⟩
def ou{x:XT}{rd:St->af γ}{pat:γ->St}{b:An}(hx:∀p,x b (af γ) (pat p) (kOn rd)=rnd p):VU x rd pat (bJ rnd) b:=λp q h=>by
 obtain⟨n,hn⟩:=BN h;exact⟨n,hn.x hx⟩
end
end Go.Iv
end
noncomputable section
namespace Go.Iv
variable [U:sV] [L:nj]
open Go Go.RowKit
section
variable {β γ δ:Type}
def PN(f:AV->af β)(c:β->AV):Prop:=∀a b,f a=V b->(∀(ρ:Gh) A w v,Rel A w (a.sub ρ) v->Rel A w ((c b).sub ρ) v)/\∀n,cW n a->cW n (c b)
def PN.of{f:AV->af β}{c:β->AV}(h:P1 f c)(hc:∀a b,f a=V b->G4 2 a=O)(hl:∀b,(∀ρ,(c b).sub ρ=c b)/\∀n,cW n (c b)):PN f c:=λa b hb=>
 ⟨λρ A w v hr=>by rw[kE 2 (hc a b hb)]at hr;rw[(hl b).1];exact h a b hb A w v hr,λn _=>(hl b).2 n⟩
def PN.i(k:IntKind):PN (iE k) (b9.n k):= .of (.i k) (λa b h=>by
 unfold iE at h;split at h
 ·rfl
 ·cases h) λb=>⟨λρ=>bV ρ _,λn=> .lit _⟩
def PN.b:PN S8 b9.b:= .of .b (λa b h=>by
 unfold S8 at h;split at h
 ·rfl
 ·cases h) λb=>⟨λρ=>bV ρ _,λn=> .lit _⟩
def PN.s:PN asS b9.s:= .of .s (λa b h=>by
 unfold asS at h;split at h
 ·rfl
 ·cases h) λb=>⟨λρ=>bV ρ _,λn=> .lit _⟩
def PN.l(t:Nat):PN (j8 t) (b9.sl t):= .of (.l t) (λa b h=>by
 unfold j8 at h;split at h
 ·rfl
 ·rfl
 ·cases h) λb=>⟨λρ=>gM ρ _ _,λn=> .sl _ _⟩
def afI(t:Nat):AV->af (U.dg t)
 | .agg cs=>match cs.all (G4 1)with
  |true=>L.parse t cs
  |false=>I
 |_=>I
def PN.g(t:Nat):PN (afI t) (λx=> .agg (U.cells t x)):= .of (λa b h A w v hr=>by
 unfold afI at h;split at h
 ·split at h
  ·obtain⟨us,rfl,h2⟩:=hr.oU;exact Rel.pN (L.mb _ _ _ h A w us h2)
  ·cases h
 ·cases h) (λa b h=>by
 unfold afI at h;split at h
 ·split at h
  ·rename_i hc;exact hc
  ·cases h
 ·cases h) λb=>⟨λρ=>by rw[fk,L.clo],λn=> .agg _ (L.sE t b n)⟩
def asP(id off:Nat):AV->af Unit
 | .ptr i o=>match ze i id&&ze o off with
  |true=>V ()
  |false=>I
 |_=>I
def PN.p(id off:Nat):PN (asP id off) (λ_=> .ptr id off):=λa b h=>by
 unfold asP at h;split at h
 ·split at h
  ·rename_i hc;rw[zh]at hc;rw[gU hc.1,gU hc.2];exact⟨λ_ _ _ _ h=>h,λ_ h=>h⟩
  ·cases h
 ·cases h
def asO(id:Nat):AV->af Unit
 | .own i=>match ze i id with
  |true=>V ()
  |false=>I
 |_=>I
def PN.o(id:Nat):PN (asO id) (λ_=> .own id):=λa b h=>by
 unfold asO at h;split at h
 ·split at h
  ·rename_i hc;rw[gU hc];exact⟨λ_ _ _ _ h=>h,λ_ h=>h⟩
  ·cases h
 ·cases h
def Qf(q:aa AV->af γ)(c:γ->aa AV):Prop:=∀cs g,q cs=V g->(∀(ρ:Gh) A w us,bP A w (cs.map (b9.sub ρ)) us->bP A w ((c g).map (b9.sub ρ)) us)/\∀n,(∀a∈cs,cW n a)->∀a∈c g,cW n a
def Qf.nil:Qf pV (λ_=>[]):=λcs g h=>by
 unfold pV at h;split at h
 ·exact⟨λρ A w us hr=>hr,λn h=>h⟩
 ·cases h
def Qf.cons{f:AV->af β}{c:β->AV}{q:aa AV->af γ}{d:γ->aa AV}(h:PN f c)(hq:Qf q d):Qf (dS f q) (λx=>c x.1::d x.2):=λcs g hg=>by
 unfold dS at hg;split at hg
 ·obtain⟨b,h1,hg⟩:=zo.1 hg;obtain⟨g',h2,rfl⟩:=zl.1 hg;obtain⟨h3,h4⟩:=h _ _ h1;obtain⟨h5,h6⟩:=hq _ _ h2;refine⟨λρ A w us hr=> ?_,λn hn a ha=> ?_⟩
  ·rw[yc]at hr ⊢;obtain⟨v,us',rfl,h7,h8⟩:=hr.head;exact bP.cons (h3 ρ A w v h7) (h5 ρ A w us' h8)
  ·rcases zy.1 ha with rfl|ha
   ·exact h4 n (hn _ zk)
   ·exact h6 n (λa ha=>hn a (zJ _ ha)) a ha
 ·cases hg
def auH(k:Nat)(q:aa AV->af γ):AV->af γ
 | .fn (.func i) cs=>match ze i k with
  |true=>q cs
  |false=>I
 |_=>I
def PN.ff(k:Nat){q:aa AV->af γ}{c:γ->aa AV}(h:Qf q c):PN (auH k q) (λx=> .fn (.func k) (c x)):=λa b hb=>by
 unfold auH at hb;split at hb
 ·rename_i i cs;split at hb
  ·rename_i hi;have hi:=gU hi;subst hi;obtain⟨h1,h2⟩:=h _ _ hb;refine⟨λρ A w v hr=> ?_,λn hn=> .fn _ _ (h2 n hn.fnL)⟩;rw[uq]at hr ⊢;generalize ha:b9.fn (Fn.func i) (cs.map (b9.sub ρ))=a at hr;cases hr with
   |fn f cs' us hl hr=>
    cases ha;obtain⟨h3,h4⟩:=h1 ρ A w us ⟨hl,hr⟩;exact .fn _ _ us h3 h4
   |_=>cases ha
  ·cases hb
 ·cases hb
def aqV(q:aa AV->af γ):AV->af γ
 | .fp cs=>q cs
 |_=>I
def PN.fp{q:aa AV->af γ}{c:γ->aa AV}(h:Qf q c):PN (aqV q) (λx=> .fp (c x)):=λa b hb=>by
 unfold aqV at hb;split at hb
 ·rename_i cs;obtain⟨h1,h2⟩:=h _ _ hb;refine⟨λρ A w v hr=> ?_,λn hn=> ?_⟩
  ·rw[mU]at hr ⊢;generalize ha:b9.fp (cs.map (b9.sub ρ))=a at hr;cases hr with
   |fp cs' b o us hb hA hl hc hr=>
    cases ha;obtain⟨h3,h4⟩:=h1 ρ A w us ⟨hl,hr⟩;exact .fp _ b o us hb hA h3 hc h4
   |_=>cases ha
  ·generalize ha:b9.fp cs=a at hn;cases hn with
   |fp cs' h5=>cases ha;exact .fp _ (h2 n h5)
   |_=>cases ha
 ·cases hb
def avG:AV->af Unit
 | .lit (.slice I 0 0)=>V ()
 |_=>I
def PN.ns:PN avG (λ_=> .lit (.slice I 0 0)):=λa b hb=>by
 unfold avG at hb;split at hb
 ·exact⟨λ_ _ _ _ h=>h,λ_ h=>h⟩
 ·cases hb
def ar9:AV->af Unit
 | .lit (.pointer I)=>V ()
 |_=>I
def PN.np:PN ar9 (λ_=> .lit (.pointer I)):=λa b hb=>by
 unfold ar9 at hb;split at hb
 ·exact⟨λ_ _ _ _ h=>h,λ_ h=>h⟩
 ·cases hb
def arw(t:Nat)(cs:aa AV):af (U.dg t):=match cs.all (G4 1)with
 |true=>L.parse t cs
 |false=>I
def Qf.parse(t:Nat):Qf (arw t) (λx=>U.cells t x):=λcs g h=>by
 unfold arw at h;split at h
 ·rename_i hc;have e:∀ρ,cs.map (b9.sub ρ)=cs:=λρ=>by
   have:cs.map (b9.sub ρ)=cs.map id:=zZ λa ha=>kE 1 (zx.1 hc a ha);rw[this,List.map_id]
  exact⟨λρ A w us hr=>by rw[e]at hr;rw[L.clo];exact L.mb _ _ _ h A w us hr,λn _=>L.sE t g n⟩
 ·cases h
def slN(_:ET):af Unit:=V ()
def slC(t:Nat)(f:AV->af β)(q:ET->af γ)(T:ET):af (β×γ):=match cU T t with
 |some a=>(f a).bind λb=>(q T).map λg=>(b,g)
 |none=>I
def RT(q:ET->af γ)(d:γ->Env):Prop:=∀T g,q T=V g->∀(E:Env),uB T E->(∀(ρ:Gh) A w tmps,mz A w (E.sub ρ) tmps->mz A w ((d g).sub ρ) tmps)/\∀n,E.cW n->(d g).cW n
def RT.nil:RT slN (λ_=>[]):=λT g _ E _=>⟨λρ A w tmps _ t av h=>(by cases h),λn _ p hp=>(by cases hp)⟩
def RT.cons{t:Nat}{f:AV->af β}{c:β->AV}{q:ET->af γ}{d:γ->Env}(hf:PN f c)(hq:RT q d):RT (slC t f q) (λx=>(t,c x.1)::d x.2):=λT g h E hh=>by
 unfold slC at h;split at h
 case h_2=>cases h
 rename_i a ha;obtain⟨b,hb,h⟩:=zo.1 h;obtain⟨g',hg,rfl⟩:=zl.1 h;obtain⟨h1,h2⟩:=hf a b hb;obtain⟨h3,h4⟩:=hq T g' hg E hh;refine⟨λρ A w tmps hs s av hx=> ?_,λn hn p hp=> ?_⟩
 ·have hx:Env.get ((t,(c b).sub ρ)::(d g').sub ρ) s=V av:=hx;by_cases hts:t=s
  ·subst hts;rw[Env.fq]at hx;cases hx;obtain⟨v,q1,q2⟩:=hs t (a.sub ρ) (by rw[Env.fo,hh t a ha];rfl);exact⟨v,q1,h1 ρ A w v q2⟩
  ·rw[Env.dV _ _ hts]at hx;exact h3 ρ A w tmps hs s av hx
 ·rcases zy.1 hp with rfl|hp
  ·exact h2 n (hn _ (Env.get_mem (hh t a ha)))
  ·exact h4 n hn p hp
def arS(E:Env):ET:=List.rec .e (λp _ T=>mX p.1 p.2 T) E
def AL:∀E:Env,uB (arS E) E
 |[]=>λt d h=>by cases t<;>cases h
 |p::E=>(AL E).put p.1 p.2
def leR(p p':Nat×IR):Prop:=p.1=p'.1/\(∀(ρ:Gh) A w,(p.2.res ρ p.1).ok A w->(p'.2.res ρ p'.1).ok A w)/\(∀ρ:Gh,(p.2.res ρ p.1).blk=(p'.2.res ρ p'.1).blk)/\∀n,p.2.cW n->p'.2.cW n
inductive Mf:bt->bt->Prop
 |nil:Mf [] []
 |cons {p p':Nat×IR} {R R':bt} (h:leR p p') (hs:Mf R R'):Mf (p::R) (p'::R')
def rsN:bt->af Unit
 |[]=>V ()
 |_=>I
def rsR(id t:Nat)(q:bt->af γ):bt->af (aa (U.dg t)×γ)
 |(i, .row t' l)::R=>match ze i id with
  |true=>(Am t' t l).bind λl=>(q R).map λg=>(l,g)
  |false=>I
 |_=>I
def EC(q:bt->af γ)(d:γ->bt):Prop:=∀R g,q R=V g->Mf R (d g)
def EC.nil:EC rsN (λ_=>[]):=λR g h=>by
 cases R with
 |nil=>exact .nil
 |cons p R=>cases h
def EC.row{id t:Nat}{q:bt->af γ}{d:γ->bt}(hq:EC q d):EC (rsR id t q) (λx=>(id, .row t x.1)::d x.2):=λR g h=>by
 obtain⟨i,t',l,R',rfl,hcd,h9⟩:∃i t' l R',R=(i,IR.row t' l)::R'/\ze i id=O/\((Am t' t l).bind λl=>(q R').map λg=>(l,g))=V g:=by
  unfold rsR at h;split at h
  ·split at h
   ·rename_i hcd;exact⟨_,_,_,_,rfl,hcd,h⟩
   ·cases h
  ·cases h
 have e1:=gU hcd;subst e1;obtain⟨l',hl,h9⟩:=zo.1 h9;obtain⟨g',hg,rfl⟩:=zl.1 h9;obtain⟨rfl,rfl⟩:=nW hl;exact .cons ⟨rfl,λρ A w h=>h,λρ=>rfl,λn h=>h⟩ (hq _ _ hg)
def avn(id T:Nat)(f:aa AV->af β)(q:bt->af γ):bt->af (β×γ)
 |(i, .box T' cs)::R=>match ze i id&&ze T' T with
  |true=>(f cs).bind λb=>(q R).map λg=>(b,g)
  |false=>I
 |_=>I
def EC.aFT{id T:Nat}{f:aa AV->af β}{c:β->aa AV}{q:bt->af γ}{d:γ->bt}(hf:Qf f c)(hq:EC q d):EC (avn id T f q) (λx=>(id, .box T (c x.1))::d x.2):=λR g h=>by
 obtain⟨i,T',cs,R',rfl,hcd,h9⟩:∃i T' cs R',R=(i,IR.box T' cs)::R'/\(ze i id&&ze T' T)=O/\((f cs).bind λb=>(q R').map λg=>(b,g))=V g:=by
  unfold avn at h;split at h
  ·split at h
   ·rename_i hcd;exact⟨_,_,_,_,rfl,hcd,h⟩
   ·cases h
  ·cases h
 rw[zh]at hcd;have e1:=gU hcd.1;have e2:=gU hcd.2;subst e1 e2;obtain⟨b,hb,h9⟩:=zo.1 h9;obtain⟨g',hg,rfl⟩:=zl.1 h9;obtain⟨k1,k2⟩:=hf _ _ hb;exact .cons ⟨rfl,λρ A w ⟨us,h1,h2⟩=>⟨us,h1,k1 ρ A w us h2⟩,λρ=>rfl,λn hn=>k2 n hn⟩ (hq _ _ hg)
def Ga{ρ:Gh}:∀{R R':bt},Mf R R'->bD (bt.res ρ R)=bD (bt.res ρ R')
 |_,_, .nil=>rfl
 |_,_, .cons (p:=p) (p':=p') h hs=>by
  unfold bD bt.res;rw[yc,yc,xE,xE,h.2.2.1 ρ];have:=Ga (ρ:=ρ) hs;unfold bD bt.res at this;rw[this]
def SL{ρ:Gh}{A:Nat->Prop}{w:World}:∀{R R':bt},Mf R R'->(∀r∈bt.res ρ R,r.ok A w)->∀r∈bt.res ρ R',r.ok A w
 |_,_, .nil,_=>λr hr=>by cases hr
 |_,_, .cons (p:=p) (p':=p') h hs,h0=>λr hr=>by
  rcases zy.1 hr with rfl|hr
  ·exact h.2.1 ρ A w (h0 _ zk)
  ·exact SL hs (λr hr=>h0 r (zJ _ hr)) r hr
def VI{n:Nat}:∀{R R':bt},Mf R R'->bt.cW n R->bt.cW n R'
 |_,_, .nil,h=>h
 |_,_, .cons (p:=p) (p':=p') h hs,h0=>λq hq=>by
  rcases zy.1 hq with rfl|hq
  ·exact⟨by rw[<-h.1];exact(h0 _ zk).1,h.2.2.2 n (h0 _ zk).2⟩
  ·exact VI hs (λq hq=>h0 q (zJ _ hq)) q hq
def stR(m:Nat)(q:ET->af γ)(r:bt->af δ)(s:St):af (γ×δ):=match ze s.nx m with
 |true=>(q s.E).bind λg=>(r s.R).map λh=>(g,h)
 |false=>I
def tK(m:Nat)(d:γ->Env)(e:δ->bt)(p:γ×δ):St:=⟨arS (d p.1),e p.2,m⟩
def au5{n0 n m:Nat}{q:ET->af γ}{r:bt->af δ}{d:γ->Env}{e:δ->bt}(hq:RT q d)(hr:EC r e):sY n0 n (stR m q r) (tK m d e):=λC s p a w _ h hm=>by
 unfold stR at h;split at h
 case h_2=>cases h
 rename_i hnx;have hnx:=gU hnx;obtain⟨g,hg,h⟩:=zo.1 h;obtain⟨g',hg',rfl⟩:=zl.1 h;obtain⟨E,hh,hE,hR,ρ,hag,hsim⟩:=hm;obtain⟨h1,h2⟩:=hq _ _ hg E hh;have h3:=hr _ _ hg';have hb:bD (bt.res ρ (e g'))=bD (bt.res ρ s.R):=(Ga h3).symm;have hal:∀b,al C.C (bt.res ρ s.R) b->al C.C (bt.res ρ (e g')) b:=λb hA=>⟨hA.1,by rw[hb];exact hA.2⟩;subst hnx;have hdis:(bD (bt.res ρ (e g'))).Nodup:=by rw[hb];exact hsim.good.Hv
 refine⟨d g,AL _,h2 _ hE,VI h3 hR,ρ,hag,hsim.defers.step (λb _ hA=>⟨hal b hA,rfl⟩),hsim.size,λt av ht=> ?_,hsim.good.kept,λx hx=> ?_,hdis,λb hx=>hsim.good.own b (by rw[<-hb];exact hx)⟩
 ·obtain⟨v,q1,q2⟩:=h1 ρ _ w a.tmps hsim.slots t av ht;exact⟨v,q1,q2.mono λb _ hA=>⟨hal b hA,rfl⟩⟩
 ·exact(SL h3 hsim.good.res x hx).mono (λb _ hA=>⟨hal b hA,rfl⟩) (λ_ _=>rfl)
end
def rdM{γ γ':Type}(e:γ->γ')(rd:St->af γ)(s:St):af γ':=match rd s with
 |some p=>V (e p)
 |none=>I
def sY.m{γ γ':Type}{n0 n:Nat}{rd:St->af γ}{pat:γ->St}(h:sY n0 n rd pat)(e:γ->γ'){pat':γ'->St}(he:∀p,pat' (e p)=pat p):sY n0 n (rdM e rd) pat':=λC s p a w hC hr hm=>by
 unfold rdM at hr;split at hr
 ·rename_i p' hp;cases hr;rw[he];exact h C s p' a w hC hp hm
 ·cases hr
def Yi(c:Code):An->aa (Code×An):=
 Code.rec (λ_=>[]) (λ_ _ _ an=>match an with
   | .rb fs t=>[(.skip, .rb fs t)]
   |_=>[]) (λ_ _ x y an=>x an.l++y an.r) (λ_ _ _ x y an=>(match an with
   | .jn γ rd pat l r=>[(.skip, .jn γ rd pat l r)]
   |_=>[])++(x an.l++y an.r)) (λ_ _ x=>x)
  (λc x an=>match an with
   | .lp γ rd pat H8 b=>(c, .lp γ rd pat H8 b)::x b
   |an=>x an) (λ_ _ _ _ _ _ _=>[]) (λ_ _=>[]) (λ_ _ _=>[]) (λ_ _=>[]) (λ_ _=>[]) (λ_=>[]) (λ_ _=>[]) c
def E8(P:Program)(F:bu)(n0 n:Nat)(fuel:Nat)(p:Code×An):Prop:=match p.2 with
 | .lp _ rd pat H8 b=>sY n0 n rd pat/\VU (jH P F n fuel p.1) rd pat H8 b
 | .jn _ rd pat _ _=>sY n0 n rd pat
 | .rb fs _=>∀f∈fs,bA F f
 |_=>True
def akj{P:Program}{F:bu}{n0 n fuel:Nat}(c:Code):∀an,(∀p∈Yi c an,E8 P F n0 n fuel p)->MU P F n0 n fuel c an:=by
 induction c with
 |region id ops draw=>
  intro an h;cases an with
  |rb fs t=>exact h (.skip, .rb fs t) (zq.2 rfl)
  |_=>exact trivial
 |seq x y hx hy=>
  intro an h;exact⟨hx an.l λp hp=>h p (yH _ hp),hy an.r λp hp=>h p (yI _ hp)⟩
 |cond c x y hx hy=>
  intro an h;refine⟨λγ rd pat l r he=> ?_,hx an.l λp hp=>h p (yI _ (yH _ hp)),hy an.r λp hp=>h p (yI _ (yI _ hp))⟩;subst he;exact h (.skip, .jn γ rd pat l r) (yH _ (zq.2 rfl))
 |block id x hx=>exact λan h=>hx an h
 |loop c hc=>
  intro an h;cases an with
  |lp γ rd pat H8 b=>
   have h0:=h (c, .lp γ rd pat H8 b) zk;exact⟨h0.1,h0.2,hc b λp hp=>h p (zJ _ hp)⟩
  |no=>exact hc _ h
  |two l r=>exact hc _ h
  |jn γ rd pat l r=>exact hc _ h
  |rb fs t=>exact hc _ h
 |_=>exact λan h=>trivial
def b6{P:Program}{F:bu}{n0 fuel f:Nat}{fn:Func}{c:Code}{an:An}{l:aa (Code×An)}(hf:P.funcs[f]? =V fn)(hb:fn.body=V c)(ho:Yi c an=l)(h:∀p∈l,E8 P F n0 fn.ntmps fuel p):eX P F n0 fuel f an:=λfn' c' h1 h2=>by
 rw[hf]at h1;cases h1;rw[hb]at h2;cases h2;exact akj c an (by rw[ho];exact h)
def tT(fn:Func):Code:=match fn.body with
 |some c=>c
 |none=> .skip
def bN{fn:Func}(h:fn.body.isNone=G):fn.body=V (tT fn):=by
 unfold tT;cases hb:fn.body with
 |none=>rw[hb]at h;cases h
 |some c=>rfl
def ajH(c:Code):aa Code:=Code.rec [] (λ_ _ _=>[]) (λ_ _ x y=>x++y) (λ_ _ _ x y=>x++y) (λ_ _ x=>x) (λc x=>c::x) (λ_ _ _ _ _ _=>[]) (λ_=>[]) (λ_ _=>[]) (λ_=>[]) (λ_=>[]) [] (λ_=>[]) c
def aY(fn:Func)(i:Nat):Code:=(ajH (tT fn)).getD i .skip
end Go.Iv
end
noncomputable section
set_option maxRecDepth 100000
namespace Go.Proofs.YtnfljbehcffmcaaGreat
open Go Go.Iv
open Go.IntKind (i64 u64)
structure az where
 (bE fN:Int)
 ax:List az
instance:Inhabited az:=⟨⟨0,0,[]⟩⟩
structure aB where
 (cg bg dJ fN:Int)
 aG:az
 (aQ aW:List aB)
 aR:List Int
instance:Inhabited aB:=⟨⟨0,0,0,0,⟨0,0,[]⟩,[],[],[]⟩⟩
structure bf where
 fName:ByteArray
 (bB ah ag eG:Int)
 deriving Inhabited,DecidableEq
structure dD where
 fName:ByteArray
 (ah ag:Int)
 aG:az
 deriving Inhabited
structure aU where
 ai:List bf
 au:List dD
 bM:List aB
 deriving Inhabited
structure bW where
 aZ:List Int
 fZ:Bool
 deriving Inhabited,DecidableEq
structure aL where
 (ah ag aj:Int)
 deriving Inhabited,DecidableEq
structure bL where
 aD:aL
 aF:List aL
 aI:aL
 LP:List aL
 deriving Inhabited,DecidableEq
structure aC where
 aK:List Int
 aI:Int
 deriving Inhabited,DecidableEq
structure nc where
 (L0 aZ Jr:List Int)
 deriving Inhabited,DecidableEq
structure oF where
 (LY aK:List Int)
 aI:Int
 deriving Inhabited,DecidableEq
structure Cell where
 (b8 iQ:Int)
 (ax cE:List Int)
 gv:Int
 deriving Inhabited,DecidableEq
structure bk where
 cE:List aC
 aX:List Cell
 deriving Inhabited,DecidableEq
structure Part where
 (b8 iQ:Int)
 ax:List Int
 bK:List aL
 deriving Inhabited,DecidableEq
structure ay where
 ai:List aL
 aD:aL
 aF:List aL
 aI:aL
 deriving Inhabited,DecidableEq
structure Runner where
 fF:aU
 au:List aL
 deriving Inhabited
structure aJ where
 ai:List aL
 aD:aL
 aF:List aL
 aI:aL
 deriving Inhabited,DecidableEq
structure dP where
 bK:List aL
 (b8 iQ:Int)
 ax:List Int
 gv:Int
 dX:Bool
 cE:aC
 deriving Inhabited,DecidableEq
structure Tree where
 fF:aU
 fV:bW
 aX:List dP
 deriving Inhabited
structure bh where
 bH:Int
 fQ:Bool
 deriving Inhabited,DecidableEq
structure qa where
 (gh aK aI:Int)
 deriving Inhabited,DecidableEq
structure Machine where
 fF:aU
 (LY au aK:List Int)
 aI:Int
 deriving Inhabited
structure Span where
 (ah ag:Int)
 deriving Inhabited,DecidableEq
inductive Ky
 |k3
 |k4
 |k5
 |k24
 |k26
 |k27
 |k29
 |k30
 |k34
 |k36
 |k37
 |k47
 |k52
 |k56
 |k84
 |k90
 |k117
 |k128
 |k129
 |k131
 |k133
 |k137
 |k139
 |k147
 |k166
 |k172
 |k174
 |k256
 |k260
 |k313
 |k331
 |no
def ky:Nat->Ky
 |3=> .k3
 |4=> .k4
 |5=> .k5
 |24=> .k24
 |26=> .k26
 |27=> .k27
 |29=> .k29
 |30=> .k30
 |34=> .k34
 |36=> .k36
 |37=> .k37
 |47=> .k47
 |52=> .k52
 |56=> .k56
 |84=> .k84
 |90=> .k90
 |117=> .k117
 |128=> .k128
 |129=> .k129
 |131=> .k131
 |133=> .k133
 |137=> .k137
 |139=> .k139
 |147=> .k147
 |166=> .k166
 |172=> .k172
 |174=> .k174
 |256=> .k256
 |260=> .k260
 |313=> .k313
 |331=> .k331
 |_=> .no
def ER:Ky->Type
 | .k3=>Int
 | .k4=>Bool
 | .k5=>Int
 | .k24=>aa aB
 | .k26=>aU
 | .k27=>aa Int
 | .k29=>bW
 | .k30=>aa aL
 | .k34=>aL
 | .k36=>bL
 | .k37=>Int
 | .k47=>aC
 | .k52=>nc
 | .k56=>oF
 | .k84=>bk
 | .k90=>Part
 | .k117=>Cell
 | .k128=>ay
 | .k129=>Int
 | .k131=>bf
 | .k133=>Runner
 | .k137=>az
 | .k139=>dD
 | .k147=>aJ
 | .k166=>aB
 | .k172=>Tree
 | .k174=>dP
 | .k256=>bh
 | .k260=>qa
 | .k313=>Machine
 | .k331=>Span
 | .no=>Unit
abbrev cF(t:Nat):Type:=ER (ky t)
@[reducible] def inhK:(k:Ky)->Inhabited (ER k)
 | .k3=>⟨(default:Int)⟩
 | .k4=>⟨(default:Bool)⟩
 | .k5=>⟨(default:Int)⟩
 | .k24=>⟨(default:aa aB)⟩
 | .k26=>⟨(default:aU)⟩
 | .k27=>⟨(default:aa Int)⟩
 | .k29=>⟨(default:bW)⟩
 | .k30=>⟨(default:aa aL)⟩
 | .k34=>⟨(default:aL)⟩
 | .k36=>⟨(default:bL)⟩
 | .k37=>⟨(default:Int)⟩
 | .k47=>⟨(default:aC)⟩
 | .k52=>⟨(default:nc)⟩
 | .k56=>⟨(default:oF)⟩
 | .k84=>⟨(default:bk)⟩
 | .k90=>⟨(default:Part)⟩
 | .k117=>⟨(default:Cell)⟩
 | .k128=>⟨(default:ay)⟩
 | .k129=>⟨(default:Int)⟩
 | .k131=>⟨(default:bf)⟩
 | .k133=>⟨(default:Runner)⟩
 | .k137=>⟨(default:az)⟩
 | .k139=>⟨(default:dD)⟩
 | .k147=>⟨(default:aJ)⟩
 | .k166=>⟨(default:aB)⟩
 | .k172=>⟨(default:Tree)⟩
 | .k174=>⟨(default:dP)⟩
 | .k256=>⟨(default:bh)⟩
 | .k260=>⟨(default:qa)⟩
 | .k313=>⟨(default:Machine)⟩
 | .k331=>⟨(default:Span)⟩
 | .no=>⟨()⟩
def szK:Ky->Nat
 | .k3=>1
 | .k4=>1
 | .k5=>1
 | .k24=>1
 | .k26=>3
 | .k27=>1
 | .k29=>2
 | .k30=>1
 | .k34=>3
 | .k36=>8
 | .k37=>1
 | .k47=>2
 | .k52=>3
 | .k56=>3
 | .k84=>2
 | .k90=>4
 | .k117=>5
 | .k128=>8
 | .k129=>1
 | .k131=>5
 | .k133=>4
 | .k137=>3
 | .k139=>6
 | .k147=>8
 | .k166=>10
 | .k172=>6
 | .k174=>8
 | .k256=>2
 | .k260=>3
 | .k313=>7
 | .k331=>2
 | .no=>0
def o9:(k:Ky)->ER k->aa (b9 cF)
 | .k3,x=>(λx:Int=>[.n .i64 x]) x
 | .k4,x=>(λx:Bool=>[.b x]) x
 | .k5,x=>(λx:Int=>[.n .u8 x]) x
 | .k24,x=>(λx:aa aB=>[.sl 166 x]) x
 | .k26,x=>(λx:aU=>[.sl 131 x.ai, .sl 139 x.au, .sl 166 x.bM]) x
 | .k27,x=>(λx:aa Int=>[.sl 3 x]) x
 | .k29,x=>(λx:bW=>[.sl 3 x.aZ, .b x.fZ]) x
 | .k30,x=>(λx:aa aL=>[.sl 34 x]) x
 | .k34,x=>(λx:aL=>[.n .i64 x.ah, .n .i64 x.ag, .n .i64 x.aj]) x
 | .k36,x=>(λx:bL=>[.n .i64 x.aD.ah, .n .i64 x.aD.ag, .n .i64 x.aD.aj, .sl 34 x.aF, .n .i64 x.aI.ah, .n .i64 x.aI.ag, .n .i64 x.aI.aj, .sl 34 x.LP]) x
 | .k37,x=>(λx:Int=>[.n .i64 x]) x
 | .k47,x=>(λx:aC=>[.sl 3 x.aK, .n .i64 x.aI]) x
 | .k52,x=>(λx:nc=>[.sl 3 x.L0, .sl 3 x.aZ, .sl 3 x.Jr]) x
 | .k56,x=>(λx:oF=>[.sl 3 x.LY, .sl 3 x.aK, .n .i64 x.aI]) x
 | .k84,x=>(λx:bk=>[.sl 47 x.cE, .sl 117 x.aX]) x
 | .k90,x=>(λx:Part=>[.n .i64 x.b8, .n .i64 x.iQ, .sl 3 x.ax, .sl 34 x.bK]) x
 | .k117,x=>(λx:Cell=>[.n .i64 x.b8, .n .i64 x.iQ, .sl 3 x.ax, .sl 3 x.cE, .n .i64 x.gv]) x
 | .k128,x=>(λx:ay=>[.sl 34 x.ai, .n .i64 x.aD.ah, .n .i64 x.aD.ag, .n .i64 x.aD.aj, .sl 34 x.aF, .n .i64 x.aI.ah, .n .i64 x.aI.ag, .n .i64 x.aI.aj]) x
 | .k129,x=>(λx:Int=>[.n .i64 x]) x
 | .k131,x=>(λx:bf=>[.s x.fName, .n .i64 x.bB, .n .i64 x.ah, .n .i64 x.ag, .n .i64 x.eG]) x
 | .k133,x=>(λx:Runner=>[.sl 131 x.fF.ai, .sl 139 x.fF.au, .sl 166 x.fF.bM, .sl 34 x.au]) x
 | .k137,x=>(λx:az=>[.n .i64 x.bE, .n .i64 x.fN, .sl 137 x.ax]) x
 | .k139,x=>(λx:dD=>[.s x.fName, .n .i64 x.ah, .n .i64 x.ag, .n .i64 x.aG.bE, .n .i64 x.aG.fN, .sl 137 x.aG.ax]) x
 | .k147,x=>(λx:aJ=>[.sl 34 x.ai, .n .i64 x.aD.ah, .n .i64 x.aD.ag, .n .i64 x.aD.aj, .sl 34 x.aF, .n .i64 x.aI.ah, .n .i64 x.aI.ag, .n .i64 x.aI.aj]) x
 | .k166,x=>(λx:aB=>[.n .i64 x.cg, .n .i64 x.bg, .n .i64 x.dJ, .n .i64 x.fN, .n .i64 x.aG.bE, .n .i64 x.aG.fN, .sl 137 x.aG.ax, .sl 166 x.aQ, .sl 166 x.aW, .sl 3 x.aR]) x
 | .k172,x=>(λx:Tree=>[.sl 131 x.fF.ai, .sl 139 x.fF.au, .sl 166 x.fF.bM, .sl 3 x.fV.aZ, .b x.fV.fZ, .sl 174 x.aX]) x
 | .k174,x=>(λx:dP=>[.sl 34 x.bK, .n .i64 x.b8, .n .i64 x.iQ, .sl 3 x.ax, .n .i64 x.gv, .b x.dX, .sl 3 x.cE.aK, .n .i64 x.cE.aI]) x
 | .k256,x=>(λx:bh=>[.n .i64 x.bH, .b x.fQ]) x
 | .k260,x=>(λx:qa=>[.n .i64 x.gh, .n .i64 x.aK, .n .i64 x.aI]) x
 | .k313,x=>(λx:Machine=>[.sl 131 x.fF.ai, .sl 139 x.fF.au, .sl 166 x.fF.bM, .sl 3 x.LY, .sl 3 x.au, .sl 3 x.aK, .n .i64 x.aI]) x
 | .k331,x=>(λx:Span=>[.n .i64 x.ah, .n .i64 x.ag]) x
 | .no,_=>[]
instance uni:sV:=⟨cF,λt=>inhK (ky t),λt=>szK (ky t),λt=>o9 (ky t)⟩
def acn:(k:Ky)->aa AV->af (ER k)
 | .k3=>λcs=>((dS (iE .i64) pV) cs).map (λg:Int×Unit=>(g.1:Int))
 | .k4=>λcs=>((dS S8 pV) cs).map (λg:Bool×Unit=>(g.1:Bool))
 | .k5=>λcs=>((dS (iE .u8) pV) cs).map (λg:Int×Unit=>(g.1:Int))
 | .k24=>λcs=>((dS (j8 166) pV) cs).map (λg:(aa (cF 166))×Unit=>(g.1:aa aB))
 | .k26=>λcs=>((dS (j8 131) (dS (j8 139) (dS (j8 166) pV))) cs).map (λg:(aa (cF 131))×(aa (cF 139))×(aa (cF 166))×Unit=>((aU.mk g.1 g.2.1 g.2.2.1):aU))
 | .k27=>λcs=>((dS (j8 3) pV) cs).map (λg:(aa (cF 3))×Unit=>(g.1:aa Int))
 | .k29=>λcs=>((dS (j8 3) (dS S8 pV)) cs).map (λg:(aa (cF 3))×Bool×Unit=>((bW.mk g.1 g.2.1):bW))
 | .k30=>λcs=>((dS (j8 34) pV) cs).map (λg:(aa (cF 34))×Unit=>(g.1:aa aL))
 | .k34=>λcs=>((dS (iE .i64) (dS (iE .i64) (dS (iE .i64) pV))) cs).map (λg:Int×Int×Int×Unit=>((aL.mk g.1 g.2.1 g.2.2.1):aL))
 | .k36=>λcs=>((dS (iE .i64) (dS (iE .i64) (dS (iE .i64) (dS (j8 34) (dS (iE .i64) (dS (iE .i64) (dS (iE .i64) (dS (j8 34) pV)))))))) cs).map (λg:Int×Int×Int×(aa (cF 34))×Int×Int×Int×(aa (cF 34))×Unit=>((bL.mk (aL.mk g.1 g.2.1 g.2.2.1) g.2.2.2.1 (aL.mk g.2.2.2.2.1 g.2.2.2.2.2.1 g.2.2.2.2.2.2.1) g.2.2.2.2.2.2.2.1):bL))
 | .k37=>λcs=>((dS (iE .i64) pV) cs).map (λg:Int×Unit=>(g.1:Int))
 | .k47=>λcs=>((dS (j8 3) (dS (iE .i64) pV)) cs).map (λg:(aa (cF 3))×Int×Unit=>((aC.mk g.1 g.2.1):aC))
 | .k52=>λcs=>((dS (j8 3) (dS (j8 3) (dS (j8 3) pV))) cs).map (λg:(aa (cF 3))×(aa (cF 3))×(aa (cF 3))×Unit=>((nc.mk g.1 g.2.1 g.2.2.1):nc))
 | .k56=>λcs=>((dS (j8 3) (dS (j8 3) (dS (iE .i64) pV))) cs).map (λg:(aa (cF 3))×(aa (cF 3))×Int×Unit=>((oF.mk g.1 g.2.1 g.2.2.1):oF))
 | .k84=>λcs=>((dS (j8 47) (dS (j8 117) pV)) cs).map (λg:(aa (cF 47))×(aa (cF 117))×Unit=>((bk.mk g.1 g.2.1):bk))
 | .k90=>λcs=>((dS (iE .i64) (dS (iE .i64) (dS (j8 3) (dS (j8 34) pV)))) cs).map (λg:Int×Int×(aa (cF 3))×(aa (cF 34))×Unit=>((Part.mk g.1 g.2.1 g.2.2.1 g.2.2.2.1):Part))
 | .k117=>λcs=>((dS (iE .i64) (dS (iE .i64) (dS (j8 3) (dS (j8 3) (dS (iE .i64) pV))))) cs).map (λg:Int×Int×(aa (cF 3))×(aa (cF 3))×Int×Unit=>((Cell.mk g.1 g.2.1 g.2.2.1 g.2.2.2.1 g.2.2.2.2.1):Cell))
 | .k128=>λcs=>((dS (j8 34) (dS (iE .i64) (dS (iE .i64) (dS (iE .i64) (dS (j8 34) (dS (iE .i64) (dS (iE .i64) (dS (iE .i64) pV)))))))) cs).map (λg:(aa (cF 34))×Int×Int×Int×(aa (cF 34))×Int×Int×Int×Unit=>((ay.mk g.1 (aL.mk g.2.1 g.2.2.1 g.2.2.2.1) g.2.2.2.2.1 (aL.mk g.2.2.2.2.2.1 g.2.2.2.2.2.2.1 g.2.2.2.2.2.2.2.1)):ay))
 | .k129=>λcs=>((dS (iE .i64) pV) cs).map (λg:Int×Unit=>(g.1:Int))
 | .k131=>λcs=>((dS asS (dS (iE .i64) (dS (iE .i64) (dS (iE .i64) (dS (iE .i64) pV))))) cs).map (λg:ByteArray×Int×Int×Int×Int×Unit=>((bf.mk g.1 g.2.1 g.2.2.1 g.2.2.2.1 g.2.2.2.2.1):bf))
 | .k133=>λcs=>((dS (j8 131) (dS (j8 139) (dS (j8 166) (dS (j8 34) pV)))) cs).map (λg:(aa (cF 131))×(aa (cF 139))×(aa (cF 166))×(aa (cF 34))×Unit=>((Runner.mk (aU.mk g.1 g.2.1 g.2.2.1) g.2.2.2.1):Runner))
 | .k137=>λcs=>((dS (iE .i64) (dS (iE .i64) (dS (j8 137) pV))) cs).map (λg:Int×Int×(aa (cF 137))×Unit=>((az.mk g.1 g.2.1 g.2.2.1):az))
 | .k139=>λcs=>((dS asS (dS (iE .i64) (dS (iE .i64) (dS (iE .i64) (dS (iE .i64) (dS (j8 137) pV)))))) cs).map (λg:ByteArray×Int×Int×Int×Int×(aa (cF 137))×Unit=>((dD.mk g.1 g.2.1 g.2.2.1 (az.mk g.2.2.2.1 g.2.2.2.2.1 g.2.2.2.2.2.1)):dD))
 | .k147=>λcs=>((dS (j8 34) (dS (iE .i64) (dS (iE .i64) (dS (iE .i64) (dS (j8 34) (dS (iE .i64) (dS (iE .i64) (dS (iE .i64) pV)))))))) cs).map (λg:(aa (cF 34))×Int×Int×Int×(aa (cF 34))×Int×Int×Int×Unit=>((aJ.mk g.1 (aL.mk g.2.1 g.2.2.1 g.2.2.2.1) g.2.2.2.2.1 (aL.mk g.2.2.2.2.2.1 g.2.2.2.2.2.2.1 g.2.2.2.2.2.2.2.1)):aJ))
 | .k166=>λcs=>((dS (iE .i64) (dS (iE .i64) (dS (iE .i64) (dS (iE .i64) (dS (iE .i64) (dS (iE .i64) (dS (j8 137) (dS (j8 166) (dS (j8 166) (dS (j8 3) pV)))))))))) cs).map (λg:Int×Int×Int×Int×Int×Int×(aa (cF 137))×(aa (cF 166))×(aa (cF 166))×(aa (cF 3))×Unit=>((aB.mk g.1 g.2.1 g.2.2.1 g.2.2.2.1 (az.mk g.2.2.2.2.1 g.2.2.2.2.2.1 g.2.2.2.2.2.2.1) g.2.2.2.2.2.2.2.1 g.2.2.2.2.2.2.2.2.1 g.2.2.2.2.2.2.2.2.2.1):aB))
 | .k172=>λcs=>((dS (j8 131) (dS (j8 139) (dS (j8 166) (dS (j8 3) (dS S8 (dS (j8 174) pV)))))) cs).map (λg:(aa (cF 131))×(aa (cF 139))×(aa (cF 166))×(aa (cF 3))×Bool×(aa (cF 174))×Unit=>((Tree.mk (aU.mk g.1 g.2.1 g.2.2.1) (bW.mk g.2.2.2.1 g.2.2.2.2.1) g.2.2.2.2.2.1):Tree))
 | .k174=>λcs=>((dS (j8 34) (dS (iE .i64) (dS (iE .i64) (dS (j8 3) (dS (iE .i64) (dS S8 (dS (j8 3) (dS (iE .i64) pV)))))))) cs).map (λg:(aa (cF 34))×Int×Int×(aa (cF 3))×Int×Bool×(aa (cF 3))×Int×Unit=>((dP.mk g.1 g.2.1 g.2.2.1 g.2.2.2.1 g.2.2.2.2.1 g.2.2.2.2.2.1 (aC.mk g.2.2.2.2.2.2.1 g.2.2.2.2.2.2.2.1)):dP))
 | .k256=>λcs=>((dS (iE .i64) (dS S8 pV)) cs).map (λg:Int×Bool×Unit=>((bh.mk g.1 g.2.1):bh))
 | .k260=>λcs=>((dS (iE .i64) (dS (iE .i64) (dS (iE .i64) pV))) cs).map (λg:Int×Int×Int×Unit=>((qa.mk g.1 g.2.1 g.2.2.1):qa))
 | .k313=>λcs=>((dS (j8 131) (dS (j8 139) (dS (j8 166) (dS (j8 3) (dS (j8 3) (dS (j8 3) (dS (iE .i64) pV))))))) cs).map (λg:(aa (cF 131))×(aa (cF 139))×(aa (cF 166))×(aa (cF 3))×(aa (cF 3))×(aa (cF 3))×Int×Unit=>((Machine.mk (aU.mk g.1 g.2.1 g.2.2.1) g.2.2.2.1 g.2.2.2.2.1 g.2.2.2.2.2.1 g.2.2.2.2.2.2.1):Machine))
 | .k331=>λcs=>((dS (iE .i64) (dS (iE .i64) pV)) cs).map (λg:Int×Int×Unit=>((Span.mk g.1 g.2.1):Span))
 | .no=>λ_=>I
def Y8:(k:Ky)->Pk (acn k) (o9 k)
 | .k3=>Pk.map (λg:Int×Unit=>(g.1:Int)) (.cons (.i .i64) .nil) (λ_=>rfl)
 | .k4=>Pk.map (λg:Bool×Unit=>(g.1:Bool)) (.cons .b .nil) (λ_=>rfl)
 | .k5=>Pk.map (λg:Int×Unit=>(g.1:Int)) (.cons (.i .u8) .nil) (λ_=>rfl)
 | .k24=>Pk.map (λg:(aa (cF 166))×Unit=>(g.1:aa aB)) (.cons (.l 166) .nil) (λ_=>rfl)
 | .k26=>Pk.map (λg:(aa (cF 131))×(aa (cF 139))×(aa (cF 166))×Unit=>((aU.mk g.1 g.2.1 g.2.2.1):aU)) (.cons (.l 131) (.cons (.l 139) (.cons (.l 166) .nil))) (λ_=>rfl)
 | .k27=>Pk.map (λg:(aa (cF 3))×Unit=>(g.1:aa Int)) (.cons (.l 3) .nil) (λ_=>rfl)
 | .k29=>Pk.map (λg:(aa (cF 3))×Bool×Unit=>((bW.mk g.1 g.2.1):bW)) (.cons (.l 3) (.cons .b .nil)) (λ_=>rfl)
 | .k30=>Pk.map (λg:(aa (cF 34))×Unit=>(g.1:aa aL)) (.cons (.l 34) .nil) (λ_=>rfl)
 | .k34=>Pk.map (λg:Int×Int×Int×Unit=>((aL.mk g.1 g.2.1 g.2.2.1):aL)) (.cons (.i .i64) (.cons (.i .i64) (.cons (.i .i64) .nil))) (λ_=>rfl)
 | .k36=>Pk.map (λg:Int×Int×Int×(aa (cF 34))×Int×Int×Int×(aa (cF 34))×Unit=>((bL.mk (aL.mk g.1 g.2.1 g.2.2.1) g.2.2.2.1 (aL.mk g.2.2.2.2.1 g.2.2.2.2.2.1 g.2.2.2.2.2.2.1) g.2.2.2.2.2.2.2.1):bL)) (.cons (.i .i64) (.cons (.i .i64) (.cons (.i .i64) (.cons (.l 34) (.cons (.i .i64) (.cons (.i .i64) (.cons (.i .i64) (.cons (.l 34) .nil)))))))) (λ_=>rfl)
 | .k37=>Pk.map (λg:Int×Unit=>(g.1:Int)) (.cons (.i .i64) .nil) (λ_=>rfl)
 | .k47=>Pk.map (λg:(aa (cF 3))×Int×Unit=>((aC.mk g.1 g.2.1):aC)) (.cons (.l 3) (.cons (.i .i64) .nil)) (λ_=>rfl)
 | .k52=>Pk.map (λg:(aa (cF 3))×(aa (cF 3))×(aa (cF 3))×Unit=>((nc.mk g.1 g.2.1 g.2.2.1):nc)) (.cons (.l 3) (.cons (.l 3) (.cons (.l 3) .nil))) (λ_=>rfl)
 | .k56=>Pk.map (λg:(aa (cF 3))×(aa (cF 3))×Int×Unit=>((oF.mk g.1 g.2.1 g.2.2.1):oF)) (.cons (.l 3) (.cons (.l 3) (.cons (.i .i64) .nil))) (λ_=>rfl)
 | .k84=>Pk.map (λg:(aa (cF 47))×(aa (cF 117))×Unit=>((bk.mk g.1 g.2.1):bk)) (.cons (.l 47) (.cons (.l 117) .nil)) (λ_=>rfl)
 | .k90=>Pk.map (λg:Int×Int×(aa (cF 3))×(aa (cF 34))×Unit=>((Part.mk g.1 g.2.1 g.2.2.1 g.2.2.2.1):Part)) (.cons (.i .i64) (.cons (.i .i64) (.cons (.l 3) (.cons (.l 34) .nil)))) (λ_=>rfl)
 | .k117=>Pk.map (λg:Int×Int×(aa (cF 3))×(aa (cF 3))×Int×Unit=>((Cell.mk g.1 g.2.1 g.2.2.1 g.2.2.2.1 g.2.2.2.2.1):Cell)) (.cons (.i .i64) (.cons (.i .i64) (.cons (.l 3) (.cons (.l 3) (.cons (.i .i64) .nil))))) (λ_=>rfl)
 | .k128=>Pk.map (λg:(aa (cF 34))×Int×Int×Int×(aa (cF 34))×Int×Int×Int×Unit=>((ay.mk g.1 (aL.mk g.2.1 g.2.2.1 g.2.2.2.1) g.2.2.2.2.1 (aL.mk g.2.2.2.2.2.1 g.2.2.2.2.2.2.1 g.2.2.2.2.2.2.2.1)):ay)) (.cons (.l 34) (.cons (.i .i64) (.cons (.i .i64) (.cons (.i .i64) (.cons (.l 34) (.cons (.i .i64) (.cons (.i .i64) (.cons (.i .i64) .nil)))))))) (λ_=>rfl)
 | .k129=>Pk.map (λg:Int×Unit=>(g.1:Int)) (.cons (.i .i64) .nil) (λ_=>rfl)
 | .k131=>Pk.map (λg:ByteArray×Int×Int×Int×Int×Unit=>((bf.mk g.1 g.2.1 g.2.2.1 g.2.2.2.1 g.2.2.2.2.1):bf)) (.cons .s (.cons (.i .i64) (.cons (.i .i64) (.cons (.i .i64) (.cons (.i .i64) .nil))))) (λ_=>rfl)
 | .k133=>Pk.map (λg:(aa (cF 131))×(aa (cF 139))×(aa (cF 166))×(aa (cF 34))×Unit=>((Runner.mk (aU.mk g.1 g.2.1 g.2.2.1) g.2.2.2.1):Runner)) (.cons (.l 131) (.cons (.l 139) (.cons (.l 166) (.cons (.l 34) .nil)))) (λ_=>rfl)
 | .k137=>Pk.map (λg:Int×Int×(aa (cF 137))×Unit=>((az.mk g.1 g.2.1 g.2.2.1):az)) (.cons (.i .i64) (.cons (.i .i64) (.cons (.l 137) .nil))) (λ_=>rfl)
 | .k139=>Pk.map (λg:ByteArray×Int×Int×Int×Int×(aa (cF 137))×Unit=>((dD.mk g.1 g.2.1 g.2.2.1 (az.mk g.2.2.2.1 g.2.2.2.2.1 g.2.2.2.2.2.1)):dD)) (.cons .s (.cons (.i .i64) (.cons (.i .i64) (.cons (.i .i64) (.cons (.i .i64) (.cons (.l 137) .nil)))))) (λ_=>rfl)
 | .k147=>Pk.map (λg:(aa (cF 34))×Int×Int×Int×(aa (cF 34))×Int×Int×Int×Unit=>((aJ.mk g.1 (aL.mk g.2.1 g.2.2.1 g.2.2.2.1) g.2.2.2.2.1 (aL.mk g.2.2.2.2.2.1 g.2.2.2.2.2.2.1 g.2.2.2.2.2.2.2.1)):aJ)) (.cons (.l 34) (.cons (.i .i64) (.cons (.i .i64) (.cons (.i .i64) (.cons (.l 34) (.cons (.i .i64) (.cons (.i .i64) (.cons (.i .i64) .nil)))))))) (λ_=>rfl)
 | .k166=>Pk.map (λg:Int×Int×Int×Int×Int×Int×(aa (cF 137))×(aa (cF 166))×(aa (cF 166))×(aa (cF 3))×Unit=>((aB.mk g.1 g.2.1 g.2.2.1 g.2.2.2.1 (az.mk g.2.2.2.2.1 g.2.2.2.2.2.1 g.2.2.2.2.2.2.1) g.2.2.2.2.2.2.2.1 g.2.2.2.2.2.2.2.2.1 g.2.2.2.2.2.2.2.2.2.1):aB)) (.cons (.i .i64) (.cons (.i .i64) (.cons (.i .i64) (.cons (.i .i64) (.cons (.i .i64) (.cons (.i .i64) (.cons (.l 137) (.cons (.l 166) (.cons (.l 166) (.cons (.l 3) .nil)))))))))) (λ_=>rfl)
 | .k172=>Pk.map (λg:(aa (cF 131))×(aa (cF 139))×(aa (cF 166))×(aa (cF 3))×Bool×(aa (cF 174))×Unit=>((Tree.mk (aU.mk g.1 g.2.1 g.2.2.1) (bW.mk g.2.2.2.1 g.2.2.2.2.1) g.2.2.2.2.2.1):Tree)) (.cons (.l 131) (.cons (.l 139) (.cons (.l 166) (.cons (.l 3) (.cons .b (.cons (.l 174) .nil)))))) (λ_=>rfl)
 | .k174=>Pk.map (λg:(aa (cF 34))×Int×Int×(aa (cF 3))×Int×Bool×(aa (cF 3))×Int×Unit=>((dP.mk g.1 g.2.1 g.2.2.1 g.2.2.2.1 g.2.2.2.2.1 g.2.2.2.2.2.1 (aC.mk g.2.2.2.2.2.2.1 g.2.2.2.2.2.2.2.1)):dP)) (.cons (.l 34) (.cons (.i .i64) (.cons (.i .i64) (.cons (.l 3) (.cons (.i .i64) (.cons .b (.cons (.l 3) (.cons (.i .i64) .nil)))))))) (λ_=>rfl)
 | .k256=>Pk.map (λg:Int×Bool×Unit=>((bh.mk g.1 g.2.1):bh)) (.cons (.i .i64) (.cons .b .nil)) (λ_=>rfl)
 | .k260=>Pk.map (λg:Int×Int×Int×Unit=>((qa.mk g.1 g.2.1 g.2.2.1):qa)) (.cons (.i .i64) (.cons (.i .i64) (.cons (.i .i64) .nil))) (λ_=>rfl)
 | .k313=>Pk.map (λg:(aa (cF 131))×(aa (cF 139))×(aa (cF 166))×(aa (cF 3))×(aa (cF 3))×(aa (cF 3))×Int×Unit=>((Machine.mk (aU.mk g.1 g.2.1 g.2.2.1) g.2.2.2.1 g.2.2.2.2.1 g.2.2.2.2.2.1 g.2.2.2.2.2.2.1):Machine)) (.cons (.l 131) (.cons (.l 139) (.cons (.l 166) (.cons (.l 3) (.cons (.l 3) (.cons (.l 3) (.cons (.i .i64) .nil))))))) (λ_=>rfl)
 | .k331=>Pk.map (λg:Int×Int×Unit=>((Span.mk g.1 g.2.1):Span)) (.cons (.i .i64) (.cons (.i .i64) .nil)) (λ_=>rfl)
 | .no=> .none
def ap5:(k:Ky)->aa (ER k)->af (aa Int)
 | .k5,l=>V l
 |_,_=>I
def acv(l:aa Int):l.flatMap (λx=>[b9.n (dg:=cF) .u8 x])=l.map (.n .u8):=by
 induction l with
 |nil=>rfl
 |cons a l ih=>rw[yQ,ih];rfl
def abE:(k:Ky)->(l:aa (ER k))->(ns:aa Int)->ap5 k l=V ns->l.flatMap (o9 k)=ns.map (.n .u8)/\szK k=1:=by
 intro k l ns h;cases k<;>first|(cases h;done)|(cases h;exact⟨acv _,rfl⟩)
def aEI(k:Ky)(x:ER k):zR (o9 k x)=szK k:=by cases k<;>rfl
def aFN(k:Ky)(x:ER k):(o9 k x).all iW=true:=by cases k<;>rfl
def aEy(k:Ky)(x:ER k)(ρ:Gh):(o9 k x).map (b9.sub ρ)=o9 k x:=adq _ (by cases k<;>rfl) ρ
def aG1(k:Ky)(x:ER k)(n:Nat):∀c∈o9 k x,cW n c:=adY _ (by cases k<;>rfl) n
instance uniL:nj where
 len:=λt x=>aEI (ky t) x
 one:=λt x=>aFN (ky t) x
 clo:=λt x ρ=>aEy (ky t) x ρ
 sE:=λt x n=>aG1 (ky t) x n
 parse:=λt=>acn (ky t)
 mb:=λt=>Y8 (ky t)
 nums:=λt=>ap5 (ky t)
 Av:=λt=>abE (ky t)
 fz:=λf=>ze f 27||ze f 44||ze f 28||ze f 20||ze f 26||ze f 83||ze f 156||ze f 160||ze f 236||ze f 96||ze f 179||ze f 88||ze f 167||ze f 171||ze f 247||ze f 25||ze f 185||ze f 48||ze f 49||ze f 57||ze f 60||ze f 61||ze f 65||ze f 74||ze f 112||ze f 134||ze f 203
end Go.Proofs.YtnfljbehcffmcaaGreat
end
noncomputable section
namespace Go.Iv
variable [U:sV] [L:nj]
open Go Go.RowKit
def lP(f:Nat->Nat)(n:Nat):AV->AV:=Nat.rec (λd=>match d with
 | .own i=> .own (f i)
 | .ptr i o=> .ptr (f i) o
 | .ra i t m o=> .ra (f i) t m o
 |d=>d) (λ_ ih d=>match d with
 | .own i=> .own (f i)
 | .ptr i o=> .ptr (f i) o
 | .ra i t m o=> .ra (f i) t m o
 | .agg cs=> .agg (cs.map ih)
 | .jc cs=> .jc (cs.map ih)
 | .fn g cs=> .fn g (cs.map ih)
 | .fp cs=> .fp (cs.map ih)
 |d=>d) n
def jE{f:Nat->Nat}{ρ ρ':Gh}{p:Nat->Bool}(hp:∀i,p i=O->ρ'.v (f i)=ρ.v i/\ρ'.b (f i)=ρ.b i):∀(n:Nat) {d:AV},jF p n d=O->(lP f n d).sub ρ'=d.sub ρ
 |0,d,h=>by
  cases d with
  |lit v=>show b9.sub ρ' (.lit v)=_;rw[bV,bV]
  |sl t l=>show b9.sub ρ' (.sl t l)=_;rw[gM,gM]
  |rp v k=>show b9.sub ρ' (.rp v k)=_;simp only[b9.sub]
  |own i=>show b9.sub ρ' (.own (f i))=_;rw[dy,dy,(hp _ h).1]
  |ptr i o=>show b9.sub ρ' (.ptr (f i) o)=_;rw[fJ,fJ,(hp _ h).2]
  |ra i t m o=>show b9.sub ρ' (.ra (f i) t m o)=_;rw[jS,jS,(hp _ h).1]
  |_=>cases h
 |n+1,d,h=>by
  have hL:∀{cs:aa AV},cs.all (jF p n)=O->(cs.map (lP f n)).map (b9.sub ρ')=cs.map (b9.sub ρ):=λ{cs} h=>by
   rw[yx];exact zZ λc hc=>jE hp n (zx.1 h c hc)
  cases d with
  |lit v=>show b9.sub ρ' (.lit v)=_;rw[bV,bV]
  |sl t l=>show b9.sub ρ' (.sl t l)=_;rw[gM,gM]
  |rp v k=>show b9.sub ρ' (.rp v k)=_;simp only[b9.sub]
  |own i=>show b9.sub ρ' (.own (f i))=_;rw[dy,dy,(hp _ h).1]
  |ptr i o=>show b9.sub ρ' (.ptr (f i) o)=_;rw[fJ,fJ,(hp _ h).2]
  |ra i t m o=>show b9.sub ρ' (.ra (f i) t m o)=_;rw[jS,jS,(hp _ h).1]
  |fp cs=>show b9.sub ρ' (.fp (List.map (lP f n) cs))=_;rw[mU,mU,hL h]
  |agg cs=>show b9.sub ρ' (.agg (List.map (lP f n) cs))=_;rw[fk,fk,hL h]
  |jc cs=>show b9.sub ρ' (.jc (List.map (lP f n) cs))=_;rw[k8,k8,hL h]
  |fn g cs=>show b9.sub ρ' (.fn g (List.map (lP f n) cs))=_;rw[uq,uq,hL h]
def lT{f:Nat->Nat}{p:Nat->Bool}{m:Nat}(hp:∀i,p i=O->f i<m):∀(n:Nat) {d:AV},jF p n d=O->cW m (lP f n d)
 |0,d,h=>by
  cases d<;>first|exact .lit _|exact .sl _ _|exact .rp _ _|exact .own _ (hp _ h)|exact .ptr _ _ (hp _ h)|exact .ra _ _ _ _ (hp _ h)|(cases h;done)
 |n+1,d,h=>by
  have hL:∀{cs:aa AV},cs.all (jF p n)=O->∀c∈cs.map (lP f n),cW m c:=λ{cs} h c hc=>by
   obtain⟨c',h1,rfl⟩:=zL.1 hc;exact lT hp n (zx.1 h c' h1)
  cases d<;>first|exact .lit _|exact .sl _ _|exact .rp _ _|exact .own _ (hp _ h)|exact .ptr _ _ (hp _ h)|exact .ra _ _ _ _ (hp _ h)|exact .agg _ (hL h)|exact .jc _ (hL h)|exact .fn _ _ (hL h)|exact .fp _ (hL h)
def GZ(f:Nat->Nat):IR->IR
 | .box T cs=> .box T (cs.map (lP f 4))
 |r=>r
def l9(l:aa Nat)(i:Nat):Nat:=List.rec 0 (λj _ ih=>match ze j i with
 |true=>0
 |false=>ih+1) l
def uL:∀{l:aa Nat} {i:Nat},i∈l->l[l9 l i]? =V i
 |j::l,i,h=>by
  show (j::l)[match ze j i with
   |true=>0
   |false=>l9 l i+1]? =V i
  cases hb:ze j i with
  |true=>have:=gU hb;subst this;rfl
  |false=>
   have hne:i≠j:=λe=>by subst e;rw[Nat.beq_refl]at hb;cases hb
   exact uL ((zy.1 h).resolve_left hne)
def OO(ts:aa Nat)(E:ET):Env:=ts.filterMap λt=>(cU E t).map λd=>(t,d)
def XQ{E:ET}:∀(ts:aa Nat) t d,Env.get (OO ts E) t=V d->cU E t=V d:=λts=>by
 induction ts with
 |nil=>intro t d h;cases h
 |cons u ts ih=>
  intro t d h;unfold OO at h;rw[xE]at h;cases hu:cU E u with
  |none=>rw[hu]at h;exact ih t d h
  |some x=>
   rw[hu]at h;by_cases hut:u=t
   ·subst hut;have h:Env.get ((u,x)::_) u=V d:=h;rw[Env.fq]at h;rw[hu,h]
   ·have h:Env.get ((u,x)::_) t=V d:=h;rw[Env.dV _ _ hut]at h;exact ih t d h
def pick(i:Nat)(R:bt):af ((Nat×IR)×bt):=List.rec I (λp R ih=>match ze p.1 i with
 |true=>V (p,R)
 |false=>match ih with
  |some x=>V (x.1,p::x.2)
  |none=>I) R
def Hj{i:Nat}:∀{R:bt} {x},pick i R=V x->List.Perm R (x.1::x.2)
 |[],x,h=>by cases h
 |p::R,x,h=>by
  have h:(match ze p.1 i with
   |true=>V (p,R)
   |false=>match pick i R with
    |some x=>V (x.1,p::x.2)
    |none=>I)=V x:=h
  split at h
  ·cases h;exact .refl _
  ·split at h
   ·rename_i y hy;cases h;exact((Hj hy).cons p).trans (.swap _ _ _)
   ·cases h
def ku(ns:aa Nat):bt->bt×bt:=List.rec (λR=>([],R)) (λi _ ih R=>match pick i R with
 |some x=>(x.1::(ih x.2).1,(ih x.2).2)
 |none=>ih R) ns
def oZ:∀(ns:aa Nat) (R:bt),List.Perm R ((ku ns R).1++(ku ns R).2)
 |[],R=> .refl _
 |i::ns,R=>by
  show List.Perm R ((match pick i R with
   |some x=>(x.1::(ku ns x.2).1,(ku ns x.2).2)
   |none=>ku ns R).1++(match pick i R with
   |some x=>(x.1::(ku ns x.2).1,(ku ns x.2).2)
   |none=>ku ns R).2)
  split
  ·rename_i x hx;exact(Hj hx).trans ((oZ ns x.2).cons _)
  ·exact oZ ns R
def upto(n:Nat):aa Nat:=Nat.rec [] (λi ih=>ih++[i]) n
def aer{n i:Nat}(h:i<n):i∈upto n:=by
 induction n with
 |zero=>omega
 |succ n ih=>
  show i∈upto n++[n];by_cases hi:i=n
  ·subst hi;simp
  ·exact yH _ (ih aq)
def adE{n i:Nat}(h:i<n):(upto n)[i]? =V i:=by
 induction n with
 |zero=>omega
 |succ n ih=>
  show (upto n++[n])[i]? =V i;have hl:∀n,zR (upto n)=n:=λn=>by
   induction n with
   |zero=>rfl
   |succ n ih=>show zR (upto n++[n])=n+1;simp[ih]
  by_cases hi:i=n
  ·subst hi;rw[wX (by rw[hl];exact zm _),hl,xS];rfl
  ·rw[wY (by rw[hl];omega)];exact ih aq
def vD:∀n,zR (upto n)=n:=λn=>by
 induction n with
 |zero=>rfl
 |succ n ih=>show zR (upto n++[n])=n+1;simp[ih]
def oJ(n0:Nat)(dr rest:aa Nat)(i:Nat):Nat:=match dF i dr with
 |true=>n0+l9 rest i
 |false=>l9 (upto n0++rest) i
def ado(n0:Nat)(dr:aa Nat)(l:Env)(R:bt)(rest:aa Nat):af St:=match l.all (λq=>jF (λi=>dF i rest|| !dF i dr&&zB i n0) 4 q.2)&&R.all (λq=>(dF q.1 rest|| !dF q.1 dr&&zB q.1 n0)&&match q.2 with
  | .box _ cs=>cs.all (jF (λi=>dF i rest|| !dF i dr&&zB i n0) 4)
  | .row _ _=>O)with
 |true=>V ⟨arS (l.map λq=>(q.1,lP (oJ n0 dr rest) 4 q.2)),R.map λq=>(oJ n0 dr rest q.1,GZ (oJ n0 dr rest) q.2),n0+zR rest⟩
 |false=>I
def aax(n0:Nat)(dr:aa Nat)(l:Env)(R:bt):af St:=ado n0 dr l R ((R.map λq=>q.1).filter λi=>dF i dr|| !zB i n0)
def canon(n0:Nat)(dr:aa Nat)(ts:aa Nat)(s:St):af St:=aax n0 dr (OO ts s.E) (ku ((upto n0).filter (λi=> !dF i dr)++reach s.R 3 (((OO ts s.E).flatMap λq=>kT 4 q.2)++(upto n0).filter (λi=> !dF i dr))) s.R).1
def aes{n0 n:Nat}{dr ts:aa Nat}{C:Cg}{s s':St}{a:Act}{w:World}(hC:C.n=n0)(h:canon n0 dr ts s=V s')(hm:Mt C n s a w):Mt C n s' a w:=by
 unfold canon aax at h;generalize hl:OO ts s.E=l at h;generalize hR:(ku ((upto n0).filter (λi=> !dF i dr)++reach s.R 3 ((l.flatMap λq=>kT 4 q.2)++(upto n0).filter (λi=> !dF i dr))) s.R)=R2 at h;have hperm:List.Perm s.R (R2.1++R2.2):=by rw[<-hR];exact oZ _ _
 obtain⟨R,Rr⟩:=R2;dsimp only at h hperm;generalize hns:((R.map λq=>q.1).filter λi=>dF i dr|| !zB i n0)=rest at h;unfold ado at h;split at h
 case h_2=>cases h
 rename_i hb;cases h;rw[zh]at hb;obtain⟨hb1,hb2⟩:=hb;obtain⟨E,hh,hE,hR0,ρ,hag,hsim⟩:=hm
 let ρ':Gh:=⟨λj=>ρ.v ((upto n0++rest).getD j 0),λj=>ρ.b ((upto n0++rest).getD j 0)⟩
 have hget:∀i,(dF i rest|| !dF i dr&&zB i n0)=O->(upto n0++rest)[oJ n0 dr rest i]? =V i:=λi hi=>by
  unfold oJ;cases hd:dF i dr with
  |true=>
   rw[hd]at hi;have hi:dF i rest=O:=by simpa using hi
   show (upto n0++rest)[n0+l9 rest i]? =V i;rw[wX (by rw[vD];omega),vD,Nat.add_sub_cancel_left];exact uL (gd.1 hi)
  |false=>
   rw[hd]at hi;show (upto n0++rest)[l9 (upto n0++rest) i]? =V i;refine uL ?_;rw[yJ]at hi;rcases hi with hi|hi
   ·exact yI _ (gd.1 hi)
   ·refine yH _ (aer ?_);simpa [Nat.blt_eq]using hi
 have hp:∀i,(dF i rest|| !dF i dr&&zB i n0)=O->ρ'.v (oJ n0 dr rest i)=ρ.v i/\ρ'.b (oJ n0 dr rest i)=ρ.b i:=λi hi=>by
  have e:(upto n0++rest).getD (oJ n0 dr rest i) 0=i:=by rw[wm,hget i hi];rfl
  exact⟨by show ρ.v ((upto n0++rest).getD (oJ n0 dr rest i) 0)=_;rw[e],by show ρ.b ((upto n0++rest).getD (oJ n0 dr rest i) 0)=_;rw[e]⟩
 have hll:zR (upto n0++rest)=n0+zR rest:=by rw[zg,vD]
 have hlt:∀i,(dF i rest|| !dF i dr&&zB i n0)=O->oJ n0 dr rest i<n0+zR rest:=λi hi=>by
  rw[<-hll];exact(z8.1 (hget i hi)).1
 have hres:bt.res ρ' (R.map λq=>(oJ n0 dr rest q.1,GZ (oJ n0 dr rest) q.2))=bt.res ρ R:=by
  unfold bt.res;rw[yx];refine zZ λq hq=> ?_;have hbq:=zx.1 hb2 q hq;rw[zh]at hbq;have hm:=hbq.1;have hbq:=hbq.2;obtain⟨i,r⟩:=q;cases r with
  |row t l=>show cn.row (ρ'.v (oJ n0 dr rest i)) t l= .row (ρ.v i) t l;rw[(hp i hm).1]
  |box T cs=>
   show cn.box (ρ'.b (oJ n0 dr rest i)) T ((cs.map (lP (oJ n0 dr rest) 4)).map (b9.sub ρ'))= .box (ρ.b i) T (cs.map (b9.sub ρ));rw[(hp i hm).2,yx]
   congr 1
   exact zZ λc hc=>jE hp 4 (zx.1 hbq c hc)
 have hp2:List.Perm (bt.res ρ s.R) (bt.res ρ (R++Rr)):=hperm.map _;have hsim2:=hsim.perm hp2;rw[lB]at hsim2;have hless:=hsim2.less (List.sublist_append_left _ _);refine⟨l.map λq=>(q.1,lP (oJ n0 dr rest) 4 q.2),AL _,λq hq=> ?_,λq hq=> ?_,ρ',⟨λi hi=> ?_,?_⟩,?_⟩
 ·obtain⟨q',h1,rfl⟩:=zL.1 hq;exact lT hlt 4 (zx.1 hb1 q' h1)
 ·obtain⟨q',h1,rfl⟩:=zL.1 hq;have hbq:=zx.1 hb2 q' h1;rw[zh]at hbq;have hm:=hbq.1;have hbq:=hbq.2;refine⟨hlt _ hm,?_⟩;obtain⟨i,r⟩:=q';cases r with
  |row t l=>trivial
  |box T cs=>
   intro c hc;obtain⟨c',h3,rfl⟩:=zL.1 hc;exact lT hlt 4 (zx.1 hbq c' h3)
 ·rw[hC]at hi;have e:(upto n0++rest).getD i 0=i:=by
   rw[wm,wY (by rw[vD];exact hi),adE hi];rfl
  have:=hag.1 i (by rw[hC];exact hi);exact⟨by show C.ρ.v i=ρ.v ((upto n0++rest).getD i 0);rw[e];exact this.1,by show C.ρ.b i=ρ.b ((upto n0++rest).getD i 0);rw[e];exact this.2⟩
 ·rw[hC];show n0<=n0+zR rest;exact Nat.le_add_right _ _
 ·rw[hres];refine⟨hless.defers,hless.size,λt av ht=> ?_,hless.good⟩;have e:∀(l:Env),(∀q∈l,jF (λi=>dF i rest|| !dF i dr&&zB i n0) 4 q.2=O)->Env.sub ρ' (l.map λq=>(q.1,lP (oJ n0 dr rest) 4 q.2))=Env.sub ρ l:=λl hl=>by
   unfold Env.sub;rw[yx];exact zZ λq hq=>by
    show (q.1,(lP (oJ n0 dr rest) 4 q.2).sub ρ')=_;rw[jE hp 4 (hl q hq)]
  rw[e l (λq hq=>zx.1 hb1 q hq),Env.fo]at ht;obtain⟨d,hd,rfl⟩:=zl.1 ht;rw[<-hl]at hd;exact hless.slots t _ (by rw[Env.fo,hh t d (XQ ts t d hd)];rfl)
def rdC{γ:Type}(n0:Nat)(dr ts:aa Nat)(rd:St->af γ)(s:St):af γ:=(canon n0 dr ts s).bind rd
def at8{γ:Type}{n0 n:Nat}{dr ts:aa Nat}{rd:St->af γ}{pat:γ->St}(h:sY n0 n rd pat):sY n0 n (rdC n0 dr ts rd) pat:=λC s p a w hC hr hm=>by
 obtain⟨s',h1,h2⟩:=zo.1 hr;exact h C s' p a w hC h2 (aes hC h1 hm)
def uA{β:Type}(f:β->β)(j:Nat)(l:aa β):aa β:=List.rec (λ_=>[]) (λb l ih j=>match ze j 0 with
 |true=>f b::l
 |false=>b::ih (j-1)) l j
def vX{β γ:Type}{f:β->β}{g g':β->γ}:∀(l:aa β) (j:Nat),(∀b∈l,g (f b)=g' b)->(∀b∈l,g b=g' b)->(uA f j l).map g=l.map g'
 |[],_,_,_=>rfl
 |b::l,j,h1,h2=>by
  show (match ze j 0 with
   |true=>f b::l
   |false=>b::uA f (j-1) l).map g=_
  split
  ·rw[yc,yc,h1 b zk,zZ λc hc=>h2 c (zJ _ hc)]
  ·rw[yc,yc,h2 b zk,vX l (j-1) (λc hc=>h1 c (zJ _ hc)) (λc hc=>h2 c (zJ _ hc))]
def uP{β:Type}{f:β->β}{p:β->Prop}:∀(l:aa β) (j:Nat),(∀b∈l,p (f b))->(∀b∈l,p b)->∀b∈uA f j l,p b
 |[],_,_,_,b,hb=>by cases hb
 |c::l,j,h1,h2,b,hb=>by
  have hb:b∈(match ze j 0 with
   |true=>f c::l
   |false=>c::uA f (j-1) l):=hb
  split at hb
  ·rcases zy.1 hb with rfl|hb
   ·exact h1 c zk
   ·exact h2 b (zJ _ hb)
  ·rcases zy.1 hb with rfl|hb
   ·exact h2 b zk
   ·exact uP l (j-1) (λc hc=>h1 c (zJ _ hc)) (λc hc=>h2 c (zJ _ hc)) b hb
def u5(nx:Nat)(p:aa Nat):AV->AV:=List.rec (λd=>match d with
 | .lit (.slice I 0 0)=> .own nx
 |d=>d) (λj _ ih d=>match d with
 | .agg cs=> .agg (uA ih j cs)
 | .jc cs=> .jc (uA ih j cs)
 |d=>d) p
def Ak{ρ:Gh}{nx:Nat}:∀(p:aa Nat) (d:AV),cW nx d->(u5 nx p d).sub (ρ.gE nx (.slice I 0 0))=d.sub ρ
 |[],d,h=>by
  show b9.sub _ (match d with
   | .lit (.slice I 0 0)=> .own nx
   |d=>d)=_
  split
  ·rw[dy,bV];simp[Gh.gE]
  ·exact(h.sub (.gE ρ nx _)).symm
 |j::p,d,h=>by
  show b9.sub _ (match d with
   | .agg cs=> .agg (uA (u5 nx p) j cs)
   | .jc cs=> .jc (uA (u5 nx p) j cs)
   |d=>d)=_
  split
  ·rw[fk,fk,vX _ j (λb hb=>Ak p b (h.pN b hb)) (λb hb=>((h.pN b hb).sub (.gE ρ nx _)).symm)]
  ·rw[k8,k8,vX _ j (λb hb=>Ak p b (h.GM b hb)) (λb hb=>((h.GM b hb).sub (.gE ρ nx _)).symm)]
  ·exact(h.sub (.gE ρ nx _)).symm
def vW{nx:Nat}:∀(p:aa Nat) (d:AV),cW nx d->cW (nx+1) (u5 nx p d)
 |[],d,h=>by
  show cW (nx+1) (match d with
   | .lit (.slice I 0 0)=> .own nx
   |d=>d)
  split
  ·exact .own _ (zC _)
  ·exact h.mono (ye _)
 |j::p,d,h=>by
  show cW (nx+1) (match d with
   | .agg cs=> .agg (uA (u5 nx p) j cs)
   | .jc cs=> .jc (uA (u5 nx p) j cs)
   |d=>d)
  split
  ·exact .agg _ (uP _ j (λb hb=>vW p b (h.pN b hb)) (λb hb=>(h.pN b hb).mono (ye _)))
  ·exact .jc _ (uP _ j (λb hb=>vW p b (h.GM b hb)) (λb hb=>(h.GM b hb).mono (ye _)))
  ·exact h.mono (ye _)
def ap9(t:Nat)(p:aa Nat)(e:Nat)(s:St):St:=match cU s.E t with
 |some d=>⟨mX t (u5 s.nx p d) s.E,(s.nx, .row e [])::s.R,s.nx+1⟩
 |none=>s
def ox(id j:Nat)(p:aa Nat)(e:Nat)(s:St):St:=match gF s.R id with
 |some (.box T cs)=>⟨s.E,(s.nx, .row e [])::tF id (.box T (uA (u5 s.nx p) j cs)) s.R,s.nx+1⟩
 |_=>s
def UO{ρ:Gh}{R:bt}{nx e:Nat}:bt.res (ρ.gE nx (.slice I 0 0)) ((nx,IR.row e [])::R)=cn.row (.slice I 0 0) e []::bt.res (ρ.gE nx (.slice I 0 0)) R:=by
 show cn.row ((ρ.gE nx (.slice I 0 0)).v nx) e []::_=_;simp[Gh.gE,bt.res]
def al7{C:Cg}{n t e:Nat}{p:aa Nat}{s:St}{a:Act}{w:World}(hm:Mt C n s a w):Mt C n (ap9 t p e s) a w:=by
 unfold ap9;split
 case h_2=>exact hm
 rename_i d hg;obtain⟨E,hh,hE,hR,ρ,hag,hsim⟩:=hm;have ht:=Qt (C:=C.C) I e hsim.good;have hs:=hsim.tr ht;have hs1:E.sub ρ=E.sub (ρ.gE s.nx (.slice I 0 0)):=hE.sub (.gE ρ s.nx _);have hr1:bt.res ρ s.R=bt.res (ρ.gE s.nx (.slice I 0 0)) s.R:=hR.res (.gE ρ s.nx _);have hd:cW s.nx d:=hE _ (Env.get_mem (hh t d hg));refine⟨(t,u5 s.nx p d)::E,hh.put t _,Env.Aq (hE.mono (ye _)) (vW p d hd),λq hq=> ?_,ρ.gE s.nx (.slice I 0 0),⟨hag.1.trans (.gE ρ s.nx _) hag.2,zH hag.2 (ye _)⟩,?_⟩
 ·rcases zy.1 hq with rfl|hq
  ·exact⟨zC _,trivial⟩
  ·exact(hR.mono (ye _)) q hq
 ·show uD C.C n ((t,b9.sub _ (u5 s.nx p d))::E.sub _) (bt.res _ ((s.nx,IR.row e [])::s.R)) a w;rw[UO,<-hr1,<-hs1,Ak p d hd];refine⟨hs.defers,hs.size,λu av hu=> ?_,hs.good⟩;by_cases htu:t=u
  ·subst htu;rw[Env.fq]at hu;cases hu;exact hs.slots t _ (by rw[Env.fo,hh t _ hg,yG])
  ·rw[Env.dV _ _ htu]at hu;exact hs.slots u av hu
def ahT{C:Cg}{n id j e:Nat}{p:aa Nat}{s:St}{a:Act}{w:World}(hm:Mt C n s a w):Mt C n (ox id j p e s) a w:=by
 unfold ox;split
 case h_2=>exact hm
 rename_i T cs hg;obtain⟨E,hh,hE,hR,ρ,hag,hsim⟩:=hm;have ht:=Qt (C:=C.C) I e hsim.good;have hs:=hsim.tr ht;have hs1:E.sub ρ=E.sub (ρ.gE s.nx (.slice I 0 0)):=hE.sub (.gE ρ s.nx _);have hr1:bt.res ρ s.R=bt.res (ρ.gE s.nx (.slice I 0 0)) s.R:=hR.res (.gE ρ s.nx _);obtain⟨hid,hcs⟩:=Gz hg hR;have hr2:bt.res (ρ.gE s.nx (.slice I 0 0)) (tF id (.box T (uA (u5 s.nx p) j cs)) s.R)=bt.res ρ s.R:=by
  obtain⟨i,h1,h2,_⟩:=eT hg;rw[h2,uU,<-hr1];have e1:IR.res (ρ.gE s.nx (.slice I 0 0)) id (.box T (uA (u5 s.nx p) j cs))=IR.res ρ id (.box T cs):=by
   show cn.box ((ρ.gE s.nx (.slice I 0 0)).b id) T ((uA (u5 s.nx p) j cs).map (b9.sub _))= .box (ρ.b id) T (cs.map (b9.sub ρ));rw[vX cs j (λb hb=>Ak p b (hcs b hb)) (λb hb=>((hcs b hb).sub (.gE ρ s.nx _)).symm)];rfl
  rw[e1];have h3:=iD (ρ:=ρ) h1;exact List.ext_getElem? λk=>by
   by_cases hk:i=k
   ·subst hk;rw[List.getElem?_set_self (z8.1 h3).1,h3]
   ·rw[List.getElem?_set_ne hk]
 refine⟨E,hh,hE.mono (ye _),λq hq=> ?_,ρ.gE s.nx (.slice I 0 0),⟨hag.1.trans (.gE ρ s.nx _) hag.2,zH hag.2 (ye _)⟩,?_⟩
 ·rcases zy.1 hq with rfl|hq
  ·exact⟨zC _,trivial⟩
  ·refine qU hg (hR.mono (ye _)) ?_ q hq;exact uP cs j (λb hb=>vW p b (hcs b hb)) (λb hb=>(hcs b hb).mono (ye _))
 ·show uD C.C n (E.sub _) (bt.res _ ((s.nx,IR.row e [])::tF id (.box T (uA (u5 s.nx p) j cs)) s.R)) a w;rw[UO,hr2,<-hs1];exact hs
def atA(p:aa Nat):AV->af Nat:=List.rec (λd=>match d with
 | .own i=>V i
 |_=>I) (λj _ ih d=>match d with
 | .agg cs=>(cs[j]?).bind ih
 | .jc cs=>(cs[j]?).bind ih
 |_=>I) p
def aBk(t:Nat)(p:aa Nat)(s:St):St:=match cU s.E t with
 |some d=>match atA p d with
  |some i=>s.Mk i
  |none=>s
 |none=>s
def ax1(id j:Nat)(p:aa Nat)(s:St):St:=match gF s.R id with
 |some (.box _ cs)=>match (cs[j]?).bind (atA p)with
  |some i=>s.Mk i
  |none=>s
 |_=>s
def rdF{γ:Type}(f:St->St)(rd:St->af γ)(s:St):af γ:=rd (f s)
def bX(f:St->St):Prop:=∀(C:Cg) n s a w,Mt C n s a w->Mt C n (f s) a w
def bX.s(t:Nat)(p:aa Nat)(e:Nat):bX (ap9 t p e):=λ_ _ _ _ _ h=>al7 h
def bX.c(id j:Nat)(p:aa Nat)(e:Nat):bX (ox id j p e):=λ_ _ _ _ _ h=>ahT h
def bX.fs(t:Nat)(p:aa Nat):bX (aBk t p):=λ_ _ _ _ _ h=>by
 unfold aBk;split
 ·split
  ·exact h.Mk _
  ·exact h
 ·exact h
def bX.fc(id j:Nat)(p:aa Nat):bX (ax1 id j p):=λ_ _ _ _ _ h=>by
 unfold ax1;split
 ·split
  ·exact h.Mk _
  ·exact h
 ·exact h
def atJ{γ:Type}{n0 n:Nat}{f:St->St}{rd:St->af γ}{pat:γ->St}(hf:bX f)(h:sY n0 n rd pat):sY n0 n (rdF f rd) pat:=λC s p a w hC hr hm=>h C (f s) p a w hC hr (hf C n s a w hm)
end Go.Iv
end
noncomputable section
namespace Go.Iv
variable [U:sV] [L:nj]
open Go Go.RowKit
section
variable {P:Program} {f:FuncId} {args:aa AV} {σp σr:aa cn} {Φ:AV->aa cn->Prop}
def EU{σ:aa cn}{w:World}{A:Nat->Prop}(hd:Hd A σ w)(hnd:(bD σ).Nodup):Good ⟨w,A,bD σ⟩ σ w:=
 have hal:∀b,A b->al ⟨w,A,bD σ⟩ σ b:=λb hA=>⟨.inl hA,λhx=>hd.2 b hx hA⟩
 ⟨Kp.refl _ _,λr hr=>(hd.1 r hr).mono (λb _ hA=>⟨hal b hA,rfl⟩) (λ_ _=>rfl),hnd,λb hb=> .inl hb⟩
def PG{σ σ':aa cn}{X:aa Nat}{C:Cx}{w w':World}(h:Tr C X σ w σ' w')(hX:∀b∈X,b∈bD σ):Tr C (bD σ) σ w σ' w':=
 ⟨h.good,⟨h.kp.os,h.kp.tape,h.kp.output,h.kp.drawn,h.kp.size,λk hk hn=>h.kp.block k hk λhx=>hn (hX k hx)⟩,λb hb hA=>⟨(h.al b hb hA).1,hA.2⟩⟩
def Fn.agL(h:Fn P f args σp Φ):Fn P f args (σp++σr) (λa s=>∃so,Φ a so/\s=so++σr):=λw A vs hrel hd0 hnd0=>by
 have hg:=EU hd0 hnd0;generalize hC:(⟨w,A,bD (σp++σr)⟩:Cx)=C at hg ⊢;have hdis:=hg.Hv;rw[ic]at hdis;obtain⟨d1,d2,d3⟩:=yO.1 hdis;have hlt:∀b∈bD (σp++σr),b<w.heap.size:=λb hb=>by
  obtain⟨s,h1,h2⟩:=bS.1 hb;exact(hg.res s h1).lt h2
 have hal0:∀b,A b->al C (σp++σr) b:=λb hA=>by
  subst hC;exact⟨.inl hA,λhx=>hd0.2 b hx hA⟩
 have hd:Hd (al C (σp++σr)) σp w:=⟨λr hr=>hg.res r (yH _ hr),λb hb hA=>hA.2 (bQ.2 (.inl hb))⟩;refine(h w (al C (σp++σr)) vs (hrel.mono λb _ hA=>⟨hal0 b hA,rfl⟩) hd d1).mono λe w' ⟨v,av,σo,q1,q2,q3,q4⟩=> ?_;have hsub:∀b,al ⟨w,al C (σp++σr),bD σp⟩ σo b->al C (σo++σr) b:=λb hb=>by
  obtain⟨hb1,hb2⟩:=hb;rcases hb1 with hb1|hb1|hb1
  ·exact⟨hb1.1,λhx=>(bQ.1 hx).elim hb2 (λh=>hb1.2 (bQ.2 (.inr h)))⟩
  ·have hbp:b∈bD σp:=hb1;refine⟨?_,λhx=>(bQ.1 hx).elim hb2 (λh=>d3 b hbp b h rfl)⟩;rcases hg.own b (bQ.2 (.inl hbp))with h|h
   ·simp_all
   ·omega
  ·have hbw:w.heap.size<=b:=hb1;exact⟨.inr (.inr (zH hg.kept.size hbw)),λhx=>(bQ.1 hx).elim hb2 (λh=>by have:=hlt b (bQ.2 (.inr h));omega)⟩
 have ht:=Dj hg (λb hA _=> .inl hA) q3 (λr hr=>(q3.good.res r hr).mono (λb hb hA=>⟨hsub b hA,rfl⟩) (λ_ _=>rfl));exact⟨v,av,σo++σr,q1,⟨σo,q2,rfl⟩,PG ht (λb hb=>bQ.2 (.inl hb)),q4.mono λb hb hA=>⟨hsub b hA,rfl⟩⟩
def Fn.aGc{args':aa AV}{σr:aa cn}(h:Fn P f args' [] Φ)(hv:∀(A:Nat->Prop) (w:World) (us:aa Value),Hd A σr w->bP A w args us->bP (λb=>A b\/b∈bD σr) w args' us)
  (hc:∀av σo,Φ av σo->Cl av/\∀r∈σo,ClR r):Fn P f args σr (λa s=>∃so,Φ a so/\s=so++σr):=λw A vs hrel hd0 hnd0=>by
 have hg:=EU hd0 hnd0;generalize hC:(⟨w,A,bD σr⟩:Cx)=C at hg ⊢;have hal0:∀b,A b->al C σr b:=λb hA=>by
  subst hC;exact⟨.inl hA,λhx=>hd0.2 b hx hA⟩
 have h3:=hv (al C σr) w vs hg.hd (hrel.mono λb _ hA=>⟨hal0 b hA,rfl⟩);refine(h w _ vs h3 ⟨λr hr=>(by cases hr),λb hb=>(by cases hb)⟩ List.nodup_nil).mono λe w' ⟨v,av,σo,q1,q2,q3,q4⟩=> ?_;obtain⟨c1,c2⟩:=hc av σo q2;have ht:=Dj (σp:=[]) (σr:=σr) hg (λb hA _=>hA) q3 (λr hr=>c2 r hr _ _ w' (q3.good.res r hr));exact⟨v,av,σo++σr,q1,⟨σo,q2,rfl⟩,PG (σ:=σr) ht (λb hb=>by cases hb),c1 _ _ w' v q4⟩
end
def aG2(n:Nat):AV->Bool:=jF (λ_=>G) n
def EN{A:Nat->Prop}{w:World}{cs:aa AV}{v:Value}(h:Rel A w (.fp cs) v):∃(b o:Nat) (us:aa Value),v= .pointer (V ⟨b,o,I⟩)/\b<w.heap.size/\A b/\(∀j v,us[j]? =V v->w.cell? ⟨b,o+j,I⟩=V v)/\bP A w cs us:=by
 generalize ha:b9.fp cs=a at h;cases h with
 |fp cs' b o us hb hA hl hc hr=>cases ha;exact⟨b,o,us,rfl,hb,hA,hc,hl,hr⟩
 |_=>cases ha
def Hh(lb:Bool)(rd:Nat->af IR)(n:Nat):AV->AV:=Nat.rec (λd=>match d with
 | .own id=>match rd id with
  |some (.row t l)=> .sl t l
  |_=> .own id
 |d=>d) (λ_ ih d=>match d with
 | .own id=>match rd id with
  |some (.row t l)=> .sl t l
  |_=> .own id
 | .ptr id 0=>match lb with
  |true=>match rd id with
   |some (.box _ cs)=> .fp (cs.map ih)
   |_=> .ptr id 0
  |false=> .ptr id 0
 | .agg cs=> .agg (cs.map ih)
 | .fn f cs=> .fn f (cs.map ih)
 |d=>d) n
def acW{R:bt}{ρ:Gh}{A:Nat->Prop}{w:World}{v:Value}{id T:Nat}{cs:aa AV}(hd:Hd A (bt.res ρ R) w)(hg:gF R id=V (.box T cs))(hr:Rel A w ((b9.ptr (dg:=U.dg) id 0).sub ρ) v):
  Rel (λb=>A b\/b∈bD (bt.res ρ R)) w (.fp (cs.map (b9.sub ρ))) v:=by
 obtain⟨i,hi,_⟩:=eT hg;have hres:=iD (ρ:=ρ) hi;rw[fJ]at hr;exact Vw.box i hres A w v hd hr
def XM{lb:Bool}{R:bt}{ρ:Gh}{A:Nat->Prop}{w:World}(hd:Hd A (bt.res ρ R) w):∀(n:Nat) {d:AV} {v:Value},Rel (λb=>A b\/b∈bD (bt.res ρ R)) w (d.sub ρ) v->Rel (λb=>A b\/b∈bD (bt.res ρ R)) w ((Hh lb (gF R) n d).sub ρ) v:=by
 have hown:∀{id:Nat} {v:Value},Rel (λb=>A b\/b∈bD (bt.res ρ R)) w ((b9.own (dg:=U.dg) id).sub ρ) v->Rel (λb=>A b\/b∈bD (bt.res ρ R)) w ((match gF R id with
  |some (.row t l)=>b9.sl t l
  |_=> .own id).sub ρ) v:=λ{id v} h=>by
  rw[dy]at h;rw[h.cL];exact aaQ hd (by rw[dy];exact .lit _)
 intro n;induction n with
 |zero=>
  intro d v h;cases d<;>first|exact h|exact hown h
 |succ n ih=>
  have hL:∀{cs:aa AV} {us:aa Value},bP (λb=>A b\/b∈bD (bt.res ρ R)) w (cs.map (b9.sub ρ)) us->bP (λb=>A b\/b∈bD (bt.res ρ R)) w ((cs.map (Hh lb (gF R) n)).map (b9.sub ρ)) us:=λ{cs us} h=>
   ⟨by simpa using h.1,λj a u q1 q2=>by
    rw[yx,yf]at q1;obtain⟨c,hc,rfl⟩:=zl.1 q1;exact ih (h.2 j _ u (by rw[yf,hc];rfl) q2)⟩
  intro d v h;cases d with
  |own id=>exact hown h
  |agg cs=>
   show Rel _ w ((b9.agg (cs.map (Hh lb (gF R) n))).sub ρ) v;rw[fk]at h ⊢;obtain⟨us,rfl,h2⟩:=h.oU;exact Rel.pN (hL h2)
  |fn f cs=>
   show Rel _ w ((b9.fn f (cs.map (Hh lb (gF R) n))).sub ρ) v;rw[uq]at h ⊢;obtain⟨us,rfl,h2⟩:=h.acj;have h3:=hL h2;exact .fn f _ us h3.1 h3.2
  |ptr id off=>
   cases off with
   |succ o=>exact h
   |zero=>
    cases lb with
    |false=>exact h
    |true=>
     show Rel _ w (b9.sub ρ (match gF R id with
      |some (.box _ cs)=> .fp (cs.map (Hh O (gF R) n))
      |_=> .ptr id 0)) v
     split
     ·rename_i T cs hg;have h0:Rel A w ((b9.ptr (dg:=U.dg) id 0).sub ρ) v:=by
       rw[fJ]at h ⊢;rw[h.cL];exact .lit _
      obtain⟨b,o,us,rfl,q1,q2,q3,q4⟩:=EN (acW hd hg h0);rw[mU];have q5:=hL q4;exact .fp _ b o us q1 q2 q5.1 q3 q5.2
     ·exact h
  |_=>exact h
def l7(l:aa Nat)(n0 nx:Nat)(i:Nat):Nat:=match zB i n0 with
 |true=>l.getD i 0
 |false=>nx+(i-n0)
def Out.okB(n0:Nat)(x:Out):Bool:=yq n0 x.c&&jF (λi=>zB i x.c) 4 x.d&&x.R.all λq=>zB q.1 x.c&&match q.2 with
 | .box _ cs=>cs.all (jF (λi=>zB i x.c) 4)
 | .row _ _=>O
def OW{α γ β:Type}(q:aa AV->bt->af γ)(t:γ->af β)(out:β->Out)(n0:Nat)(args:aa AV)(nx:Nat)(k:AV->bt->Nat->af α)(F:af α)(Rp Rr:bt)(ns:aa Nat):af α:=
 match ze Rp.length n0&&args.all (jF (λi=>dF i ns) 4)&&Rp.all (λq=>match q.2 with
  | .box _ cs=>cs.all (jF (λi=>dF i ns) 4)
  | .row _ _=>O)with
 |true=>match q (args.map (lP (l9 ns) 4)) (Rp.map λq=>(l9 ns q.1,GZ (l9 ns) q.2))with
  |some g=>match t g with
   |some b=>k (lP (l7 ns n0 nx) 4 (out b).d) ((out b).R.map (λq=>(l7 ns n0 nx q.1,GZ (l7 ns n0 nx) q.2))++Rr) (nx+((out b).c-n0))
   |none=>I
  |none=>F
 |false=>F
def aeK{α γ β:Type}(q:aa AV->bt->af γ)(t:γ->af β)(out:β->Out)(n0:Nat)(args:aa AV)(nx:Nat)(k:AV->bt->Nat->af α)(F:af α)(R2:bt×bt):af α:=
 OW q t out n0 args nx k F R2.1 R2.2 (R2.1.map λq=>q.1)
def orY{γ β:Type}(f0 n0:Nat)(q:aa AV->bt->af γ)(t:γ->af β)(out:β->Out)(F:bu):bu:=λ_ f args R nx k=>match ze f f0 with
 |true=>aeK q t out n0 args nx k (F _ f args R nx k) (ku (reach R 3 (args.flatMap (kT 4))) R)
 |false=>F _ f args R nx k
def QY{γ:Type}(q:aa AV->bt->af γ)(ca:γ->aa AV)(cr:γ->bt):Prop:=∀xs R g,q xs R=V g->(∀(ρ:Gh) A w us,bP A w (xs.map (b9.sub ρ)) us->bP A w ((ca g).map (b9.sub ρ)) us)/\Mf R (cr g)
def Fn.pre{P:Program}{f:FuncId}{args args':aa AV}{R R':bt}{ρ:Gh}{Φ:AV->aa cn->Prop}(h:Fn P f args' (bt.res ρ R') Φ)(ha:∀A w us,bP A w args us->bP A w args' us)(hr:Mf R R'):Fn P f args (bt.res ρ R) Φ:=λw A vs h1 h2 h3=>by
 have hb:bD (bt.res ρ R)=bD (bt.res ρ R'):=Ga hr;rw[hb];refine(h w A vs (ha A w vs h1) ⟨SL hr h2.1,λb hb'=>h2.2 b (by rw[hb];exact hb')⟩ (by rw[<-hb];exact h3)).mono λe w' ⟨v,av,σ',q1,q2,q3,q4⟩=>⟨v,av,σ',q1,q2,⟨q3.good,q3.kp,λb hb' hA=> ?_⟩,q4⟩;refine q3.al b hb' ⟨hA.1,?_⟩;rw[<-hb];exact hA.2
def aaw{P:Program}{F:bu}{γ β:Type}{f0 n0:Nat}{q:aa AV->bt->af γ}{ca:γ->aa AV}{cr:γ->bt}{t:γ->af β}{out:β->Out}(hF:iO P F)(hf:tQ P f0)(hq:QY q ca cr)(hm:∀b,(out b).okB n0=O)
  (h:∀g b,t g=V b->Mm P f0 (ca g) (cr g) n0 (out b)):iO P (orY f0 n0 q t out F):=λα f args R nx k r hr hargs hR=>by
 unfold orY at hr;split at hr
 case h_2=>exact hF α f args R nx k r hr hargs hR
 rename_i hb;have hb:=gU hb;subst hb;unfold aeK at hr;generalize hR2:ku (reach R 3 (args.flatMap (kT 4))) R=R2 at hr;have hperm:List.Perm R (R2.1++R2.2):=by rw[<-hR2];exact oZ _ _
 obtain⟨Rp,Rr⟩:=R2;dsimp only at hr hperm;generalize hns:(Rp.map λq=>q.1)=ns at hr;unfold OW at hr;split at hr
 case h_2=>exact hF α f args R nx k r hr hargs hR
 rename_i hchk;rw[zh,zh]at hchk;obtain⟨⟨hc0,hc1⟩,hc2⟩:=hchk;have hc0:=gU hc0;split at hr
 case h_2=>exact hF α f args R nx k r hr hargs hR
 rename_i g hg;split at hr
 case h_2=>cases hr
 rename_i b hb;have hlen:zR ns=n0:=by rw[<-hns,zn,hc0]
 have hRs:∀p∈Rp++Rr,p.1<nx/\p.2.cW nx:=λp hp=>hR p (hperm.mem_iff.2 hp);have hnsl:∀i∈ns,i<nx:=λi hi=>by
  rw[<-hns]at hi;obtain⟨p,hp,rfl⟩:=zL.1 hi;exact(hRs p (yH _ hp)).1
 obtain⟨hqa,hqr⟩:=hq _ _ g hg;have hok:=hm b;unfold Out.okB at hok;rw[zh,zh]at hok;obtain⟨⟨ho0,ho1⟩,ho2⟩:=hok;have ho0:n0<=(out b).c:=by simpa using ho0
 refine⟨hf,λρ=> ?_⟩
 let ρ0:Gh:=⟨λj=>ρ.v (ns.getD j 0),λj=>ρ.b (ns.getD j 0)⟩
 have hp:∀i,dF i ns=O->ρ0.v (l9 ns i)=ρ.v i/\ρ0.b (l9 ns i)=ρ.b i:=λi hi=>by
  have:=uL (gd.1 hi);have e:ns.getD (l9 ns i) 0=i:=by rw[wm,this];rfl
  exact⟨by show ρ.v (ns.getD (l9 ns i) 0)=_;rw[e],by show ρ.b (ns.getD (l9 ns i) 0)=_;rw[e]⟩
 have ea:(args.map (lP (l9 ns) 4)).map (b9.sub ρ0)=args.map (b9.sub ρ):=by
  rw[yx];exact zZ λc hc=>jE hp 4 (zx.1 hc1 c hc)
 have er:bt.res ρ0 (Rp.map λq=>(l9 ns q.1,GZ (l9 ns) q.2))=bt.res ρ Rp:=by
  unfold bt.res;rw[yx];refine zZ λq hq=> ?_;have hm:dF q.1 ns=O:=gd.2 (by rw[<-hns];exact zL.2 ⟨q,hq,rfl⟩);have hbq:=zx.1 hc2 q hq;obtain⟨i,rr⟩:=q;cases rr with
  |row t l=>show cn.row (ρ0.v (l9 ns i)) t l= .row (ρ.v i) t l;rw[(hp i hm).1]
  |box T cs=>
   show cn.box (ρ0.b (l9 ns i)) T ((cs.map (lP (l9 ns) 4)).map (b9.sub ρ0))= .box (ρ.b i) T (cs.map (b9.sub ρ));rw[(hp i hm).2,yx]
   congr 1
   exact zZ λc hc=>jE hp 4 (zx.1 hbq c hc)
 have h1:=Fn.pre (h g b hb ρ0) (hqa ρ0) hqr;rw[ea,er]at h1;have h2:=Fn.agL (σr:=bt.res ρ Rr) h1;rw[<-lB]at h2;have hp2:List.Perm (bt.res ρ R) (bt.res ρ (Rp++Rr)):=hperm.map _;have h3:Fn P f (args.map (b9.sub ρ)) (bt.res ρ R) (λa s=>∃so,(∃ρ':Gh,pU n0 ρ0 ρ'/\a=(out b).d.sub ρ'/\List.Perm so (bt.res ρ' (out b).R))/\s=so++bt.res ρ Rr):=λw A vs q1 q2 q3=>by
  have hbm:∀x,x∈bD (bt.res ρ (Rp++Rr))↔x∈bD (bt.res ρ R):=λx=>(hp2.symm.filterMap _).mem_iff;refine(h2 w A vs q1 ⟨λr hr=>q2.1 r (hp2.mem_iff.2 hr),λx hx=>q2.2 x ((hbm x).1 hx)⟩ ((hp2.filterMap _).nodup_iff.1 q3)).mono λe w' ⟨v,av,σ',g1,g2,g3,g4⟩=> ?_;have hal:∀s x,al ⟨w,A,bD (bt.res ρ (Rp++Rr))⟩ s x->al ⟨w,A,bD (bt.res ρ R)⟩ s x:=λs x hx=>⟨hx.1.imp id (Or.imp (λh=>(hbm x).1 h) id),hx.2⟩;refine⟨v,av,σ',g1,g2,⟨⟨⟨g3.kp.os,g3.kp.tape,g3.kp.output,g3.kp.drawn,g3.kp.size,λk hk hn=>g3.kp.block k hk λhx=>hn ((hbm k).1 hx)⟩,λrr hrr=>(g3.good.res rr hrr).mono (λx _ hA=>⟨hal _ x hA,rfl⟩) (λ_ _=>rfl),g3.good.Hv,λx hx=>(g3.good.own x hx).imp (λh=>(hbm x).1 h) id⟩,⟨g3.kp.os,g3.kp.tape,g3.kp.output,g3.kp.drawn,g3.kp.size,λk hk hn=>g3.kp.block k hk λhx=>hn ((hbm k).1 hx)⟩,λx hx hA=> ?_⟩,g4.mono λx _ hA=>⟨hal _ x hA,rfl⟩⟩;have hA':al ⟨w,A,bD (bt.res ρ (Rp++Rr))⟩ (bt.res ρ (Rp++Rr)) x:=⟨hA.1.imp id (Or.imp (λh=>(hbm x).2 h) id),λh=>hA.2 ((hbm x).1 h)⟩;exact⟨hal _ x (g3.al x hx hA').1,λh=>hA.2 h⟩
 refine Fn.mono h3 λa s ⟨so,⟨ρ1,g0,g1,g2⟩,g3⟩=> ?_
 let ρ2:Gh:=⟨λi=>if i<nx then ρ.v i else ρ1.v (n0+(i-nx)),λi=>if i<nx then ρ.b i else ρ1.b (n0+(i-nx))⟩
 have hag:pU nx ρ ρ2:=λi hi=>⟨by simp only[ρ2,bI hi],by simp only[ρ2,bI hi]⟩;have hb2:∀i,zB i (out b).c=O->(ρ2.v (l7 ns n0 nx i)=ρ1.v i/\ρ2.b (l7 ns n0 nx i)=ρ1.b i)/\l7 ns n0 nx i<nx+((out b).c-n0):=λi hi=>by
  have hi:i<(out b).c:=by simpa using hi
  unfold l7;split
  ·rename_i hlt;have hlt:i<n0:=by simpa using hlt
   obtain⟨e1,e2⟩:=g0 i hlt;have hlt2:i<zR ns:=by rw[hlen];exact hlt
   have hmem:ns.getD i 0∈ns:=by rw[wm,zu hlt2];exact xN hlt2
   have h4:=hnsl _ hmem;refine⟨⟨?_,?_⟩,aq⟩
   ·show (if ns.getD i 0<nx then ρ.v (ns.getD i 0)else _)=_;rw[bI h4];exact e1
   ·show (if ns.getD i 0<nx then ρ.b (ns.getD i 0)else _)=_;rw[bI h4];exact e2
  ·rename_i hlt;have hlt:¬i<n0:=by
    intro hx;have:zB i n0=O:=by rw[Nat.blt_eq];exact hx
    rw[this]at hlt;cases hlt
   have h5:¬nx+(i-n0)<nx:=aq;have h6:n0+(nx+(i-n0)-nx)=i:=aq;refine⟨⟨?_,?_⟩,aq⟩
   ·show (if nx+(i-n0)<nx then _ else ρ1.v (n0+(nx+(i-n0)-nx)))=_;rw[bO h5,h6]
   ·show (if nx+(i-n0)<nx then _ else ρ1.b (n0+(nx+(i-n0)-nx)))=_;rw[bO h5,h6]
 have hres:bt.res ρ2 ((out b).R.map λq=>(l7 ns n0 nx q.1,GZ (l7 ns n0 nx) q.2))=bt.res ρ1 (out b).R:=by
  unfold bt.res;rw[yx];refine zZ λq hq=> ?_;have hbq:=zx.1 ho2 q hq;rw[zh]at hbq;obtain⟨i,rr⟩:=q;cases rr with
  |row t l=>show cn.row (ρ2.v (l7 ns n0 nx i)) t l= .row (ρ1.v i) t l;rw[(hb2 i hbq.1).1.1]
  |box T cs=>
   show cn.box (ρ2.b (l7 ns n0 nx i)) T ((cs.map (lP (l7 ns n0 nx) 4)).map (b9.sub ρ2))= .box (ρ1.b i) T (cs.map (b9.sub ρ1));rw[(hb2 i hbq.1).1.2,yx]
   congr 1
   exact zZ λc hc=>jE (λi hi=>(hb2 i hi).1) 4 (zx.1 hbq.2 c hc)
 refine⟨_,_,_,hr,aq,lT (λi hi=>(hb2 i hi).2) 4 ho1,λq hq=> ?_,ρ2,hag,?_,?_⟩
 ·rcases zP.1 hq with hq|hq
  ·obtain⟨q',h4,rfl⟩:=zL.1 hq;have hbq:=zx.1 ho2 q' h4;rw[zh]at hbq;refine⟨(hb2 _ hbq.1).2,?_⟩;obtain⟨i,rr⟩:=q';cases rr with
   |row t l=>trivial
   |box T cs=>
    intro c hc;obtain⟨c',h5,rfl⟩:=zL.1 hc;exact lT (λi hi=>(hb2 i hi).2) 4 (zx.1 hbq.2 c' h5)
  ·have:=hRs q (yI _ hq);exact⟨aq,this.2.mono aq⟩
 ·rw[g1];exact(jE (λi hi=>(hb2 i hi).1) 4 ho1).symm
 ·rw[g3,lB,hres,<-bt.cW.res (R:=Rr) (λq hq=>hRs q (yI _ hq)) hag];exact g2.append_right _
def scD(n:Nat):AV->Bool:=Nat.rec (λd=>match d with
 | .lit _=>O
 | .own _=>O
 | .ptr _ _=>O
 |_=>G) (λ_ ih d=>match d with
 | .lit _=>O
 | .own _=>O
 | .ptr _ _=>O
 | .agg cs=>cs.all ih
 | .jc cs=>cs.all ih
 |_=>G) n
def abn{ρ:Gh}:∀(n:Nat) {d:AV},scD n d=O->Cl (d.sub ρ):=λn=>by
 induction n with
 |zero=>
  intro d h;cases d<;>first|(cases h;done)|(rw[bV];exact .lit _)|(rw[dy];exact .lit _)|(rw[fJ];exact .lit _)
 |succ n ih=>
  have hL:∀{cs:aa AV},cs.all (scD n)=O->Ml (cs.map (b9.sub ρ)):=λ{cs} h=>by
   induction cs with
   |nil=>exact .nil
   |cons c cs ihc=>
    rw[List.all_cons,zh]at h;exact .cons (ih h.1) (ihc h.2)
  intro d h;cases d<;>first|(cases h;done)|(rw[bV];exact .lit _)|(rw[dy];exact .lit _)|(rw[fJ];exact .lit _)|skip
  ·rw[fk];exact .agg (hL h)
  ·rw[k8];exact .jc (hL h)
def WW{n:Nat}{ρ:Gh}:∀cs:aa AV,cs.all (scD n)=O->Ml (cs.map (b9.sub ρ))
 |[],_=> .nil
 |c::cs,h=>by
  rw[List.all_cons,zh]at h;exact .cons (abn n h.1) (WW cs h.2)
def Out.scB(sc:Nat->Bool)(x:Out):Bool:=scD 4 x.d&&x.R.all λq=>match q.2 with
 | .row t _=>sc t
 | .box _ cs=>cs.all (scD 3)
def amk{sc:Nat->Bool}(hsc:∀t,sc t=O->∀x,Ml (U.cells t x)){x:Out}(h:x.scB sc=O)(ρ:Gh):Cl (x.d.sub ρ)/\∀r∈bt.res ρ x.R,ClR r:=by
 unfold Out.scB at h;rw[zh]at h;refine⟨abn 4 h.1,λr hr=> ?_⟩;obtain⟨q,hq,rfl⟩:=zL.1 hr;have hb:=zx.1 h.2 q hq;obtain⟨i,rr⟩:=q;cases rr with
 |row t l=>exact ClR.row (hsc t hb)
 |box T cs=>
  exact ClR.box (WW cs hb)
def VL{α γ β:Type}(q:aa AV->af γ)(t:γ->af β)(out:β->Out)(args:aa AV)(R:bt)(nx:Nat)(k:AV->bt->Nat->af α)(F:af α):af α:=
 match args.all (aG2 4)with
 |true=>match q args with
  |some g=>match t g with
   |some b=>k (lP (λi=>i+nx) 4 (out b).d) ((out b).R.map (λq=>(q.1+nx,GZ (λi=>i+nx) q.2))++R) ((out b).c+nx)
   |none=>I
  |none=>F
 |false=>F
def orL{γ β:Type}(f0:Nat)(lb:Bool)(q:aa AV->af γ)(t:γ->af β)(out:β->Out)(F:bu):bu:=λ_ f args R nx k=>match ze f f0 with
 |true=>VL q t out (args.map (Hh lb (gF R) 3)) R nx k (F _ f args R nx k)
 |false=>F _ f args R nx k
def ar8{P:Program}{F:bu}{γ β:Type}{f0:Nat}{lb:Bool}{q:aa AV->af γ}{ca:γ->aa AV}{t:γ->af β}{out:β->Out}{sc:Nat->Bool}(hF:iO P F)(hsc:∀t,sc t=O->∀x,Ml (U.cells t x))(hf:tQ P f0)(hq:Qf q ca)(hm:∀b,(out b).okB 0=O)(hs:∀b,(out b).scB sc=O)
  (h:∀g b,t g=V b->Mm P f0 (ca g) [] 0 (out b)):iO P (orL f0 lb q t out F):=λα f args R nx k r hr hargs hR=>by
 unfold orL at hr;split at hr
 case h_2=>exact hF α f args R nx k r hr hargs hR
 rename_i hb;have hb:=gU hb;subst hb;unfold VL at hr;split at hr
 case h_2=>exact hF α f args R nx k r hr hargs hR
 split at hr
 case h_2=>exact hF α f args R nx k r hr hargs hR
 rename_i g hg;split at hr
 case h_2=>cases hr
 rename_i b hb;obtain⟨hqa,_⟩:=hq _ g hg;have hok:=hm b;unfold Out.okB at hok;rw[zh,zh]at hok;obtain⟨⟨_,ho1⟩,ho2⟩:=hok;refine⟨hf,λρ=> ?_⟩;have h1:Fn P f ((ca g).map (b9.sub ρ)) [] _:=h g b hb ρ;have h2:=Fn.aGc (args:=args.map (b9.sub ρ)) (σr:=bt.res ρ R) h1 (λA w us hd hrel=>by
  refine hqa ρ _ w us ⟨by simpa using hrel.1,λj a v q1 q2=> ?_⟩;rw[yx,yf]at q1;obtain⟨c,hc,rfl⟩:=zl.1 q1;exact XM hd 3 ((hrel.2 j _ v (by rw[yf,hc];rfl) q2).mono λb _ hA=>⟨.inl hA,rfl⟩)) (λav σo ⟨ρ',_,e1,e2⟩=>by
   obtain⟨c1,c2⟩:=amk hsc (hs b) ρ';subst e1;exact⟨c1,λr hr=>c2 r (e2.mem_iff.1 hr)⟩)
 have hlt:∀i,zB i (out b).c=O->i+nx<(out b).c+nx:=λi hi=>by rw[Nat.blt_eq]at hi;omega
 refine Fn.mono h2 λa s ⟨s',⟨ρ1,_,g1,g2⟩,g3⟩=> ?_
 let ρ2:Gh:=⟨λi=>if i<nx then ρ.v i else ρ1.v (i-nx),λi=>if i<nx then ρ.b i else ρ1.b (i-nx)⟩
 have hag:pU nx ρ ρ2:=λi hi=>⟨by simp only[ρ2,bI hi],by simp only[ρ2,bI hi]⟩;have hp:∀i,zB i (out b).c=O->ρ2.v (i+nx)=ρ1.v i/\ρ2.b (i+nx)=ρ1.b i:=λi _=>by
  have:¬i+nx<nx:=aq;exact⟨by simp only[ρ2,bO this,wJ],by simp only[ρ2,bO this,wJ]⟩
 have hres:bt.res ρ2 ((out b).R.map λq=>(q.1+nx,GZ (λi=>i+nx) q.2))=bt.res ρ1 (out b).R:=by
  unfold bt.res;rw[yx];refine zZ λq hq=> ?_;have hbq:=zx.1 ho2 q hq;rw[zh]at hbq;obtain⟨i,rr⟩:=q;cases rr with
  |row t l=>show cn.row (ρ2.v (i+nx)) t l= .row (ρ1.v i) t l;rw[(hp i hbq.1).1]
  |box T cs=>
   show cn.box (ρ2.b (i+nx)) T ((cs.map (lP (λi=>i+nx) 4)).map (b9.sub ρ2))= .box (ρ1.b i) T (cs.map (b9.sub ρ1));rw[(hp i hbq.1).2,yx]
   congr 1
   exact zZ λc hc=>jE hp 4 (zx.1 hbq.2 c hc)
 refine⟨_,_,_,hr,Nat.le_add_left _ _,lT hlt 4 ho1,λq hq=> ?_,ρ2,hag,?_,?_⟩
 ·rcases zP.1 hq with hq|hq
  ·obtain⟨q',h4,rfl⟩:=zL.1 hq;have hbq:=zx.1 ho2 q' h4;rw[zh]at hbq;refine⟨hlt _ hbq.1,?_⟩;obtain⟨i,rr⟩:=q';cases rr with
   |row t l=>trivial
   |box T cs=>
    intro c hc;obtain⟨c',h5,rfl⟩:=zL.1 hc;exact lT hlt 4 (zx.1 hbq.2 c' h5)
  ·exact(hR.mono (Nat.le_add_left _ _)) q hq
 ·rw[g1];exact(jE hp 4 ho1).symm
 ·rw[g3,lB,hres,<-hR.res hag];exact g2.append_right _
def aP{P:Program}:bz P di:=⟨aru,λ_ _ _ _ _ _ _ _=>rfl⟩
def amY{γ δ:Type}{f0 n0:Nat}{q:aa AV->bt->af γ}{t:γ->af δ}{out:δ->Out}{F:bu}(hN:dU F):dU (orY f0 n0 q t out F):=λα β f args R nx k D=>by
 unfold orY;split
 ·unfold aeK OW;split
  ·split
   ·split<;>rfl
   ·exact hN ..
  ·exact hN ..
 ·exact hN ..
def al4{γ δ:Type}{f0:Nat}{lb:Bool}{q:aa AV->af γ}{t:γ->af δ}{out:δ->Out}{F:bu}(hN:dU F):dU (orL f0 lb q t out F):=λα β f args R nx k D=>by
 unfold orL;split
 ·unfold VL;split
  ·split
   ·split<;>rfl
   ·exact hN ..
  ·exact hN ..
 ·exact hN ..
def aoH{P:Program}{F:bu}{γ β:Type}{f0 n0:Nat}{q:aa AV->bt->af γ}{ca:γ->aa AV}{cr:γ->bt}{t:γ->af β}{out:β->Out}(hF:bz P F)(hf:tQ P f0)(hq:QY q ca cr)(hm:∀b,(out b).okB n0=O)
 (h:∀g b,t g=V b->Mm P f0 (ca g) (cr g) n0 (out b)):bz P (orY f0 n0 q t out F):=⟨aaw hF.ok hf hq hm h,amY hF.nat⟩
def ayA{P:Program}{F:bu}{γ β:Type}{f0:Nat}{lb:Bool}{q:aa AV->af γ}{ca:γ->aa AV}{t:γ->af β}{out:β->Out}{sc:Nat->Bool}(hF:bz P F)(hsc:∀t,sc t=O->∀x,Ml (U.cells t x))(hf:tQ P f0)(hq:Qf q ca)(hm:∀b,(out b).okB 0=O)(hs:∀b,(out b).scB sc=O)
 (h:∀g b,t g=V b->Mm P f0 (ca g) [] 0 (out b)):bz P (orL f0 lb q t out F):=⟨ar8 hF.ok hsc hf hq hm hs h,al4 hF.nat⟩
def bF{f:FuncId}:bA di f:=λ_ _ _ _ _ _ h=>by cases h
def gi{γ β:Type}{f0:Nat}{lb:Bool}{q:aa AV->af γ}{t:γ->af β}{out:β->Out}{F:bu}{f:FuncId}(h:bA F f)(hm:∀b,(out b).R=[]):bA (orL f0 lb q t out F) f:=λargs R nx d R' nx' hr=>by
 unfold orL at hr;split at hr
 ·unfold VL at hr;split at hr
  ·split at hr
   ·split at hr
    ·simp_all
    ·cases hr
   ·exact h _ _ _ _ _ _ hr
  ·exact h _ _ _ _ _ _ hr
 ·exact h _ _ _ _ _ _ hr
def ri{γ β:Type}{f0 n0:Nat}{q:aa AV->bt->af γ}{t:γ->af β}{out:β->Out}{F:bu}{f:FuncId}(hne:ze f f0=G)(h:bA F f):bA (orY f0 n0 q t out F) f:=λargs R nx d R' nx' hr=>by
 unfold orY at hr;rw[hne]at hr;exact h _ _ _ _ _ _ hr
def cu{α:Type}(b:Bool)(x y:α):(bif b then some x else some y)=some (bif b then x else y):=by cases b<;>rfl
def cO{α:Type}(p:Prop)[Decidable p](x y:α):(if p then V x else V y)=V (if p then x else y):=by split<;>rfl
def iK{n0:Nat}{args:aa AV}(h:args.all (jF (λi=>zB i n0) 4)=O):∀d∈args,cW n0 d:=λd hd=>(DB 4 (zx.1 h d hd)).mono λi hi=>by rw[Nat.blt_eq]at hi;exact hi
def iA{n0:Nat}{R:bt}(h:R.all (λq=>zB q.1 n0&&match q.2 with
  | .box _ cs=>cs.all (jF (λi=>zB i n0) 4)
  | .row _ _=>O)=O):bt.cW n0 R:=λq hq=>by
 have hb:=zx.1 h q hq;rw[zh,Nat.blt_eq]at hb;refine⟨hb.1,?_⟩;obtain⟨i,rr⟩:=q;cases rr with
 |row t l=>trivial
 |box T cs=>exact iK hb.2
def qy0{γ:Type}(q:aa AV->af γ)(xs:aa AV)(R:bt):af γ:=match R with
 |[]=>q xs
 |_=>I
def ab4{γ:Type}{q:aa AV->af γ}{ca:γ->aa AV}(h:Qf q ca):QY (qy0 q) ca (λ_=>[]):=λxs R g hg=>by
 unfold qy0 at hg;split at hg
 ·exact⟨(h xs g hg).1, .nil⟩
 ·cases hg
def qyR{γ δ:Type}(q:aa AV->af γ)(r:bt->af δ)(xs:aa AV)(R:bt):af (γ×δ):=match q xs with
 |some g=>match r R with
  |some h=>V (g,h)
  |none=>I
 |none=>I
def arF{γ δ:Type}{q:aa AV->af γ}{ca:γ->aa AV}{r:bt->af δ}{cr:δ->bt}(hq:Qf q ca)(hr:EC r cr):QY (qyR q r) (λg=>ca g.1) (λg=>cr g.2):=λxs R g hg=>by
 unfold qyR at hg;split at hg
 ·rename_i g' h1;split at hg
  ·rename_i h' h2;cases hg;exact⟨(hq xs g' h1).1,hr R h' h2⟩
  ·cases hg
 ·cases hg
open Classical in
def lim{β:Type}(m:Nat->af β):af β:=if h:∃b N,∀n,N<=n->m n=V b then V (Classical.choose h)else I
def dA{β:Type}{m:Nat->af β}{b:β}(h:lim m=V b):∃n,m n=V b:=by
 unfold lim at h;split at h
 ·rename_i hx;cases h;obtain⟨N,hN⟩:=Classical.choose_spec hx;exact⟨N,hN N (zm _)⟩
 ·cases h
def eM{β:Type}{m:Nat->af β}{b:β}(N:Nat)(h:∀n,N<=n->m n=V b):lim m=V b:=by
 have hx:∃b N,∀n,N<=n->m n=V b:=⟨b,N,h⟩;unfold lim;rw[dif_pos hx];obtain⟨M,hM⟩:=Classical.choose_spec hx;have h1:=hM (max M N) (Nat.le_max_left _ _);rw[h (max M N) (Nat.le_max_right _ _)]at h1;exact h1.symm
def Jc{P:Program}{f:FuncId}{t:Nat}{x:Out}(h1:∀c,Mm P f [.lit (.slice I 0 c)] [] 0 x)(h2:∀a c,Mm P f [.lit (.slice (V a) 0 c)] [] 0 x):Mm P f [.sl t []] [] 0 x:=λρ w A vs hr hd hn=>by
 have hr':bP A w [(b9.sl t []:AV).sub ρ] vs:=hr;obtain⟨v,us,rfl,h3,h4⟩:=hr'.head;rw[gM]at h3;obtain⟨p,c,g,hv,_⟩:=h3.vt;have hz:us=[]:=xh (by simpa using h4.1);subst hz hv;cases p with
 |none=>exact h1 c ρ w A _ (bP.cons (by rw[bV];exact .lit _) bP.nil) hd hn
 |some a=>exact h2 a c ρ w A _ (bP.cons (by rw[bV];exact .lit _) bP.nil) hd hn
def aFq:AV->Bool
 | .lit _=>O
 |_=>G
def WH:∀(cs:aa AV),cs.all aFq=O->Ml cs
 |[],_=> .nil
 |c::cs,h=>by
  rw[List.all_cons,zh]at h;refine .cons ?_ (WH cs h.2);cases c<;>first|(cases h.1;done)|exact .lit _
end Go.Iv
end
noncomputable section
set_option maxRecDepth 100000
namespace Go.Proofs.YtnfljbehcffmcaaGreat
open Go Go.Iv
open Go.IntKind (i64 u64)
def scK:Ky->Bool
 | .k3=>O
 | .k4=>O
 | .k5=>O
 | .k34=>O
 | .k37=>O
 | .k129=>O
 | .k131=>O
 | .k256=>O
 | .k260=>O
 | .k331=>O
 |_=>G
def pF(t:Nat):Bool:=scK (ky t)
def asr:(k:Ky)->scK k=O->(x:ER k)->Ml (o9 k x):=by
 intro k h x;cases k<;>first|(cases h;done)|exact WH _ rfl
def dh(t:Nat)(h:pF t=O)(x:uni.dg t):Ml (uni.cells t x):=asr (ky t) h x
end Go.Proofs.YtnfljbehcffmcaaGreat
end
noncomputable section
namespace Go.Iv
variable [U:sV] [L:nj]
open Go Go.RowKit
section
variable {β γ δ:Type}
structure Rq (β:Type) where
 f:AV->Option β
 c:β->AV
 ok:PN f c
structure Rl (γ:Type) where
 q:List AV->Option γ
 c:γ->List AV
 ok:Qf q c
def aN:Rq Int:=⟨iE .i64,b9.n .i64, .i .i64⟩
def qi(k:IntKind):Rq Int:=⟨iE k,b9.n k, .i k⟩
def qb:Rq Bool:=⟨S8,b9.b, .b⟩
def qs:Rq ByteArray:=⟨asS,b9.s, .s⟩
def ql(t:Nat):Rq (aa (U.dg t)):=⟨j8 t,b9.sl t, .l t⟩
def qg(t:Nat):Rq (U.dg t):=⟨afI t,λx=> .agg (U.cells t x), .g t⟩
def qp(i o:Nat):Rq Unit:=⟨asP i o,λ_=> .ptr i o, .p i o⟩
def qo(i:Nat):Rq Unit:=⟨asO i,λ_=> .own i, .o i⟩
def qn:Rq Unit:=⟨avG,λ_=> .lit (.slice I 0 0), .ns⟩
def qv:Rq Unit:=⟨ar9,λ_=> .lit (.pointer I), .np⟩
def qf(k:Nat)(l:Rl γ):Rq γ:=⟨auH k l.q,λx=> .fn (.func k) (l.c x), .ff k l.ok⟩
def qr(l:Rl γ):Rq γ:=⟨aqV l.q,λx=> .fp (l.c x), .fp l.ok⟩
def ln:Rl Unit:=⟨pV,λ_=>[], .nil⟩
def lc(a:Rq β)(l:Rl γ):Rl (β×γ):=⟨dS a.f l.q,λx=>a.c x.1::l.c x.2, .cons a.ok l.ok⟩
abbrev aS(l:Rl γ):Rl (Int×γ):=lc aN l
def lg(t:Nat):Rl (U.dg t):=⟨arw t,λx=>U.cells t x,Qf.parse t⟩
structure Re (γ:Type) where
 q:ET->Option γ
 d:γ->Env
 ok:RT q d
def en:Re Unit:=⟨slN,λ_=>[], .nil⟩
def ec(t:Nat)(a:Rq β)(l:Re γ):Re (β×γ):=⟨slC t a.f l.q,λx=>(t,a.c x.1)::l.d x.2, .cons a.ok l.ok⟩
structure Rs (γ:Type) where
 q:bt->Option γ
 d:γ->bt
 ok:EC q d
def sn:Rs Unit:=⟨rsN,λ_=>[], .nil⟩
def sr(i t:Nat)(l:Rs γ):Rs (aa (U.dg t)×γ):=⟨rsR i t l.q,λx=>(i, .row t x.1)::l.d x.2, .row l.ok⟩
def sb(i t:Nat)(a:Rl β)(l:Rs γ):Rs (β×γ):=⟨avn i t a.q l.q,λx=>(i, .box t (a.c x.1))::l.d x.2, .aFT a.ok l.ok⟩
structure Td (n0:Nat) (γ:Type) where
 rd:St->Option γ
 pat:γ->St
 ok:∀n,sY n0 n rd pat
def Td.r(n0 m:Nat)(e:Re β)(s:Rs δ)(mk:β×δ->γ)(un:γ->β×δ)(h:∀z,un (mk z)=z:=by exact λ_=>rfl):Td n0 γ:=
 ⟨rdM mk (stR m e.q s.q),λx=>tK m e.d s.d (un x),λ_=>(au5 e.ok s.ok).m mk λz=>by rw[h]⟩
def Td.c{n0:Nat}(dr ts:aa Nat)(d:Td n0 γ):Td n0 γ:=⟨rdC n0 dr ts d.rd,d.pat,λn=>at8 (d.ok n)⟩
def Td.t{n0:Nat}{f:St->St}(h:bX f)(d:Td n0 γ):Td n0 γ:=⟨rdF f d.rd,d.pat,λn=>atJ h (d.ok n)⟩
def Td.lp{n0:Nat}(d:Td n0 γ)(a:γ->af γ)(b:An):An:= .lp γ d.rd d.pat a b
end
def fG(P:Program)(f n0:Nat)(s:St):Out:=match (match nL P f s with
  |some ds=>V (Out.mk (fC ds) (tg s.R n0 (fC ds)) s.nx)
  |none=>I)with
 |some o=>o
 |none=>⟨.jc [],[],0⟩
def aH{α:Type _}{Q:α->Prop}:∀p∈([]:aa α),Q p:=λp h=>by cases h
def aA{α:Type _}{Q:α->Prop}{a:α}{l:aa α}(h:Q a)(t:∀p∈l,Q p):∀p∈a::l,Q p:=λp hp=>(zy.1 hp).elim (λe=>e▸h) (t p)
section
variable {P:Program} {F:bu} {f n0:Nat} {γ δ β:Type}
def HY(P:Program)(f n0:Nat)(a:Rl γ)(s:Rs δ)(d:Td n0 β)(t:γ×δ->af β):Prop:=∀g b,t g=V b->Mm P f (a.c g.1) (s.d g.2) n0 (fG P f n0 (d.pat b))
def HL(P:Program)(f:Nat)(a:Rl γ)(d:Td 0 β)(t:γ->af β):Prop:=∀g b,t g=V b->Mm P f (a.c g) [] 0 (fG P f 0 (d.pat b))
def VX(hF:bz P F){an:An}(fa:eX P F n0 300 f an){a:Rl γ}{s:Rs δ}{d:Td n0 β}{t:γ×δ->af β}(ho:∀p,(match nL P f (d.pat p)with
   |some ds=>V (Out.mk (fC ds) (tg (d.pat p).R n0 (fC ds)) (d.pat p).nx)
   |none=>I)=V (fG P f n0 (d.pat p)))
  (h1:∀g,(a.c g).all (jF (λi=>zB i n0) 4)=O) (h2:∀g,(s.d g).all (λq=>zB q.1 n0&&match q.2 with
  | .box _ cs=>cs.all (jF (λi=>zB i n0) 4)
  | .row _ _=>O)=O) (c:∀g,bU P F 300 an f (a.c g.1) (s.d g.2) n0 d.rd=t g):HY P f n0 a s d t:=
 λg b hb=>(jT (p:=b) hF fa d.ok ho (iK (h1 g.1)) (iA (h2 g.2)) ((c g).trans hb)).2
def dR(hF:bz P F){an:An}(fa:eX P F 0 300 f an){a:Rl γ}{d:Td 0 β}{t:γ->af β}(ho:∀p,(match nL P f (d.pat p)with
   |some ds=>V (Out.mk (fC ds) (tg (d.pat p).R 0 (fC ds)) (d.pat p).nx)
   |none=>I)=V (fG P f 0 (d.pat p)))
  (h1:∀g,(a.c g).all (jF (λi=>zB i 0) 4)=O) (c:∀g,bU P F 300 an f (a.c g) [] 0 d.rd=t g):HL P f a d t:=
 λg b hb=>(jT (p:=b) hF fa d.ok ho (iK (h1 g)) (iA rfl) ((c g).trans hb)).2
def eY(P:Program)(f n0:Nat)(a:Rl γ)(s:Rs δ)(d:Td n0 β)(t:γ×δ->af β)(F:bu):bu:=orY f n0 (qyR a.q s.q) t (λx=>fG P f n0 (d.pat x)) F
def eZ(P:Program)(f:Nat)(a:Rl γ)(d:Td 0 β)(t:γ->af β)(F:bu):bu:=orY f 0 (qy0 a.q) t (λx=>fG P f 0 (d.pat x)) F
def eL(P:Program)(f:Nat)(lb:Bool)(a:Rl γ)(d:Td 0 β)(t:γ->af β)(F:bu):bu:=orL f lb a.q t (λx=>fG P f 0 (d.pat x)) F
def CB{a:Rl γ}{s:Rs δ}{d:Td n0 β}{t:γ×δ->af β}(h:HY P f n0 a s d t)(hf:tQ P f)(h3:∀b,(fG P f n0 (d.pat b)).okB n0=O)(hF:bz P F):bz P (eY P f n0 a s d t F):=
 aoH hF hf (arF a.ok s.ok) h3 h
def Eh{a:Rl γ}{d:Td 0 β}{t:γ->af β}(h:HL P f a d t)(hf:tQ P f)(h3:∀b,(fG P f 0 (d.pat b)).okB 0=O)(hF:bz P F):bz P (eZ P f a d t F):=
 aoH hF hf (ab4 a.ok) h3 h
def ep{lb:Bool}{sc:Nat->Bool}(hsc:∀t,sc t=O->∀x,Ml (U.cells t x)){a:Rl γ}{d:Td 0 β}{t:γ->af β}(h:HL P f a d t)(hf:tQ P f)(h3:∀b,(fG P f 0 (d.pat b)).okB 0=O)(h4:∀b,(fG P f 0 (d.pat b)).scB sc=O)(hF:bz P F):bz P (eL P f lb a d t F):=
 ayA hF hsc hf a.ok h3 h4 h
end
end Go.Iv
end
noncomputable section
namespace Go.Proofs.YtnfljbehcffmcaaGreat
def l5:ByteArray:=ByteArray.mk #[0,1,2,2,3,3,3,3,4,4,4,4,4,4,4,4,5,5,5,5,5,5,5,5,5,5,5,5,5,5,5,5,6,6,6,6,6,6,6,6,6,6,6,6,6,6,6,6,6,6,6,6,6,6,6,6,6,6,6,6,6,6,6,6,7,7,7,7,7,7,7,7,7,7,7,7,7,7,7,7,7,7,7,7,7,7,7,7,7,7,7,7,7,7,7,7,7,7,7,7,7,7,7,7,7,7,7,7,7,7,7,7,7,7,7,7,7,7,7,7,7,7,7,7,7,7,7,7,8,8,8,8,8,8,8,8,8,8,8,8,8,8,8,8,8,8,8,8,8,8,8,8,8,8,8,8,8,8,8,8,8,8,8,8,8,8,8,8,8,8,8,8,8,8,8,8,8,8,8,8,8,8,8,8,8,8,8,8,8,8,8,8,8,8,8,8,8,8,8,8,8,8,8,8,8,8,8,8,8,8,8,8,8,8,8,8,8,8,8,8,8,8,8,8,8,8,8,8,8,8,8,8,8,8,8,8,8,8,8,8,8,8,8,8,8,8,8,8,8,8,8,8,8,8,8,8]
end Go.Proofs.YtnfljbehcffmcaaGreat
end
noncomputable section
namespace Go.Iv
variable [U:sV] [L:nj]
open Go Go.RowKit
def cnY(n0:Nat)(args:aa AV)(Rp:bt)(ns:aa Nat):Bool:=ze Rp.length n0&&args.all (jF (λi=>dF i ns) 4)&&Rp.all (λq=>match q.2 with
 | .box _ cs=>cs.all (jF (λi=>dF i ns) 4)
 | .row _ _=>O)
def XK{γ β α:Type}(t:γ->af β)(K:β->af α)(F za:af α)(o:af γ):af α:=match o with
 |some g=>match t g with
  |some b=>K b
  |none=>za
 |none=>F
def onT{α:Type}(c:Bool)(x y:af α):af α:=match c with
 |true=>x
 |false=>y
def AJ{α γ β:Type}(q:aa AV->bt->af γ)(t:γ->af β)(out:β->Out)(n0:Nat)(args:aa AV)(nx:Nat)(k:AV->bt->Nat->af α)(F za:af α)(Rp Rr:bt)(ns:aa Nat):af α:=
 onT (cnY n0 args Rp ns) (XK t (λb=>k (lP (l7 ns n0 nx) 4 (out b).d) ((out b).R.map (λq=>(l7 ns n0 nx q.1,GZ (l7 ns n0 nx) q.2))++Rr) (nx+((out b).c-n0))) F za (q (args.map (lP (l9 ns) 4)) (Rp.map λq=>(l9 ns q.1,GZ (l9 ns) q.2)))) F
def afa{α γ β:Type}(q:aa AV->bt->af γ)(t:γ->af β)(out:β->Out)(n0:Nat)(args:aa AV)(nx:Nat)(k:AV->bt->Nat->af α)(F:af α)(Rp Rr:bt)(ns:aa Nat):OW q t out n0 args nx k F Rp Rr ns=AJ q t out n0 args nx k F I Rp Rr ns:=rfl
def alf{γ β α:Type}(t:γ->af β)(K:β->af α)(F:af α)(o:af γ):XK t K F F o=XK t K F I o\/XK t K F F o=F:=by
 unfold XK;cases o with
 |none=>exact .inr rfl
 |some g=>
  cases h:t g with
  |none=>exact .inr (by simp only[h])
  |some b=>exact .inl (by simp only[h])
def X5{α γ β:Type}(q:aa AV->bt->af γ)(t:γ->af β)(out:β->Out)(n0:Nat)(args:aa AV)(nx:Nat)(k:AV->bt->Nat->af α)(F:af α)(Rp Rr:bt)(ns:aa Nat):
  AJ q t out n0 args nx k F F Rp Rr ns=OW q t out n0 args nx k F Rp Rr ns\/AJ q t out n0 args nx k F F Rp Rr ns=F:=by
 rw[afa];unfold AJ;cases cnY n0 args Rp ns with
 |false=>exact .inr rfl
 |true=>exact alf ..
def TQ{γ β:Type}(f0 n0:Nat)(q:aa AV->bt->af γ)(t:γ->af β)(out:β->Out)(F:bu):bu:=λ_ f args R nx k=>match ze f f0 with
 |true=>AJ q t out n0 args nx k (F _ f args R nx k) (F _ f args R nx k) (ku (reach R 3 (args.flatMap (kT 4))) R).1 (ku (reach R 3 (args.flatMap (kT 4))) R).2 ((ku (reach R 3 (args.flatMap (kT 4))) R).1.map λq=>q.1)
 |false=>F _ f args R nx k
def akv{γ β α:Type}(f0 n0:Nat)(q:aa AV->bt->af γ)(t:γ->af β)(out:β->Out)(F:bu)(f:FuncId)(args:aa AV)(R:bt)(nx:Nat)(k:AV->bt->Nat->af α):
  TQ f0 n0 q t out F α f args R nx k=orY f0 n0 q t out F α f args R nx k\/TQ f0 n0 q t out F α f args R nx k=F α f args R nx k:=by
 unfold TQ orY;cases ze f f0 with
 |true=>exact X5 ..
 |false=>exact .inr rfl
def ac8{γ δ:Type}{f0 n0:Nat}{q:aa AV->bt->af γ}{t:γ->af δ}{out:δ->Out}{F:bu}(hN:dU F):dU (TQ f0 n0 q t out F):=λα β f args R nx k D=>by
 have hF:=hN α β f args R nx k D;unfold TQ AJ onT XK;cases ze f f0 with
 |false=>exact hF
 |true=>
  cases cnY n0 args (ku (reach R 3 (args.flatMap (kT 4))) R).1 ((ku (reach R 3 (args.flatMap (kT 4))) R).1.map λq=>q.1)with
  |false=>exact hF
  |true=>
   simp only;split
   ·split
    ·rfl
    ·exact hF
   ·exact hF
def arb{P:Program}{F:bu}{γ β:Type}{f0 n0:Nat}{q:aa AV->bt->af γ}{ca:γ->aa AV}{cr:γ->bt}{t:γ->af β}{out:β->Out}(hF:bz P F)(hf:tQ P f0)(hq:QY q ca cr)(hm:∀b,(out b).okB n0=O)
  (h:∀g b,t g=V b->Mm P f0 (ca g) (cr g) n0 (out b)):bz P (TQ f0 n0 q t out F):=⟨λα f args R nx k r hr hargs hR=>by
 rcases akv f0 n0 q t out F f args R nx k with e|e
 ·exact aaw hF.ok hf hq hm h α f args R nx k r (e▸hr) hargs hR
 ·exact hF.ok α f args R nx k r (e▸hr) hargs hR,ac8 hF.nat⟩
def eZf{γ β:Type}(P:Program)(f:Nat)(a:Rl γ)(d:Td 0 β)(t:γ->af β)(F:bu):bu:=TQ f 0 (qy0 a.q) t (λx=>fG P f 0 (d.pat x)) F
def aqp{γ β:Type}{P:Program}{f:Nat}{F:bu}{a:Rl γ}{d:Td 0 β}{t:γ->af β}(h:HL P f a d t)(hf:tQ P f)(h3:∀b,(fG P f 0 (d.pat b)).okB 0=O)(hF:bz P F):bz P (eZf P f a d t F):=
 arb hF hf (ab4 a.ok) h3 h
end Go.Iv
end
noncomputable section
set_option maxRecDepth 100000
namespace Go.Proofs.YtnfljbehcffmcaaGreat
open Go Go.Iv
open Go.IntKind (i64 u64)
def fK{p:Prop}{_:Decidable p}(h:¬p:=by omega):decide p=G:=bY h
def oo{p:Prop}{_:Decidable p}(h:p:=by omega):decide p=O:=bZ h
def gW{p:Prop}{_:Decidable p}{α:Type _}{a b:α}(h:p:=by omega):(if p then a else b)=a:=bI h
def AS{p:Prop}{_:Decidable p}{α:Type _}{a b:α}(h:¬p:=by omega):(if p then a else b)=b:=bO h
abbrev EO(e:bu->bu):Prop:=∀{F:bu},bz vn F->bz vn (e F)
abbrev EP(e:bu->bu):Prop:=∀{F:bu} {f:Nat},bA F f->bA (e F) f
def kP{f:Nat}{lb:Bool}{γ β:Type}{a:Rl γ}{d:Td 0 β}{t:γ->af β}{F:bu}{g:Nat}(h:bA F g)(hm:∀b,(fG vn f 0 (d.pat b)).R=[]:=by intro _;kernel_rfl):bA (eL vn f lb a d t F) g:=gi h hm
def aO{F:bu}{n0 nt:Nat}{c:Code}{β:Type}{b:An}{n:β->af (af β)}(d:Td n0 β)(h:∀p,jH vn F nt 300 c b (af β) (d.pat p) (kOn d.rd)=n p:=by intro _;kernel_rfl):E8 vn F n0 nt 300 (c,d.lp (bJ n) b):=⟨d.ok _,ou h⟩
def kL{f:Nat}{lb:Bool}{fn:Func}{F za:bu}{an:An}{γ β:Type}{a:Rl γ}{d:Td 0 β}{t:γ->af β}{l:aa (Code×An)}
  (hf:vn.funcs[f]? =V fn) (hF:bz vn F) (h:∀p∈l,E8 vn F 0 fn.ntmps 300 p) (hG:bz vn za)
  (hb:fn.body.isNone=G:=by kernel_rfl) (ho:Yi (tT fn) an=l:=by kernel_rfl)
  (h0:∀p,(match nL vn f (d.pat p)with
   |some ds=>V (Out.mk (fC ds) (tg (d.pat p).R 0 (fC ds)) (d.pat p).nx)
   |none=>I)=V (fG vn f 0 (d.pat p)):=by intro _;kernel_rfl)
  (h1:∀g,(a.c g).all (jF (λi=>zB i 0) 4)=O:=by intro _;kernel_rfl)
  (c:∀g,bU vn F 300 an f (a.c g) [] 0 d.rd=t g:=by intro _;kernel_rfl)
  (h2:(fn.name=="runtime.NumGoroutine")=G:=by kernel_rfl)
  (h3:∀b,(fG vn f 0 (d.pat b)).okB 0=O:=by intro _;kernel_rfl) (h4:∀b,(fG vn f 0 (d.pat b)).scB pF=O:=by intro _;kernel_rfl):bz vn (eL vn f lb a d t za):=
 ep (sc:=pF) dh (dR hF (b6 hf (bN hb) ho h) (λp=>by have:=h0 p;revert this;cases nL vn f (d.pat p)<;>exact id) h1 c) ⟨_,hf,h2,hb⟩ h3 h4 hG
def kZ{f:Nat}{fn:Func}{F za:bu}{an:An}{γ β:Type}{a:Rl γ}{d:Td 0 β}{t:γ->af β}{l:aa (Code×An)}
  (hf:vn.funcs[f]? =V fn) (hF:bz vn F) (h:∀p∈l,E8 vn F 0 fn.ntmps 300 p) (hG:bz vn za)
  (hb:fn.body.isNone=G:=by kernel_rfl) (ho:Yi (tT fn) an=l:=by kernel_rfl)
  (h0:∀p,(match nL vn f (d.pat p)with
   |some ds=>V (Out.mk (fC ds) (tg (d.pat p).R 0 (fC ds)) (d.pat p).nx)
   |none=>I)=V (fG vn f 0 (d.pat p)):=by intro _;kernel_rfl)
  (h1:∀g,(a.c g).all (jF (λi=>zB i 0) 4)=O:=by intro _;kernel_rfl)
  (c:∀g,bU vn F 300 an f (a.c g) [] 0 d.rd=t g:=by intro _;kernel_rfl)
  (h2:(fn.name=="runtime.NumGoroutine")=G:=by kernel_rfl)
  (h3:∀b,(fG vn f 0 (d.pat b)).okB 0=O:=by intro _;kernel_rfl):bz vn (eZ vn f a d t za):=
 Eh (dR hF (b6 hf (bN hb) ho h) (λp=>by have:=h0 p;revert this;cases nL vn f (d.pat p)<;>exact id) h1 c) ⟨_,hf,h2,hb⟩ h3 hG
def kZf{f:Nat}{fn:Func}{F za:bu}{an:An}{γ β:Type}{a:Rl γ}{d:Td 0 β}{t:γ->af β}{l:aa (Code×An)}
  (hf:vn.funcs[f]? =V fn) (hF:bz vn F) (h:∀p∈l,E8 vn F 0 fn.ntmps 300 p) (hG:bz vn za)
  (hb:fn.body.isNone=G:=by kernel_rfl) (ho:Yi (tT fn) an=l:=by kernel_rfl)
  (h0:∀p,(match nL vn f (d.pat p)with
   |some ds=>V (Out.mk (fC ds) (tg (d.pat p).R 0 (fC ds)) (d.pat p).nx)
   |none=>I)=V (fG vn f 0 (d.pat p)):=by intro _;kernel_rfl)
  (h1:∀g,(a.c g).all (jF (λi=>zB i 0) 4)=O:=by intro _;kernel_rfl)
  (c:∀g,bU vn F 300 an f (a.c g) [] 0 d.rd=t g:=by intro _;kernel_rfl)
  (h2:(fn.name=="runtime.NumGoroutine")=G:=by kernel_rfl)
  (h3:∀b,(fG vn f 0 (d.pat b)).okB 0=O:=by intro _;kernel_rfl):bz vn (eZf vn f a d t za):=
 aqp (dR hF (b6 hf (bN hb) ho h) (λp=>by have:=h0 p;revert this;cases nL vn f (d.pat p)<;>exact id) h1 c) ⟨_,hf,h2,hb⟩ h3 hG
def kY{f n0:Nat}{fn:Func}{F za:bu}{an:An}{γ δ β:Type}{a:Rl γ}{s:Rs δ}{d:Td n0 β}{t:γ×δ->af β}{l:aa (Code×An)}
  (hf:vn.funcs[f]? =V fn) (hF:bz vn F) (h:∀p∈l,E8 vn F n0 fn.ntmps 300 p) (hG:bz vn za)
  (hb:fn.body.isNone=G:=by kernel_rfl) (ho:Yi (tT fn) an=l:=by kernel_rfl)
  (h0:∀p,(match nL vn f (d.pat p)with
   |some ds=>V (Out.mk (fC ds) (tg (d.pat p).R n0 (fC ds)) (d.pat p).nx)
   |none=>I)=V (fG vn f n0 (d.pat p)):=by intro _;kernel_rfl)
  (h1:∀g,(a.c g).all (jF (λi=>zB i n0) 4)=O:=by intro _;kernel_rfl)
  (h1':∀g,(s.d g).all (λq=>zB q.1 n0&&match q.2 with
  | .box _ cs=>cs.all (jF (λi=>zB i n0) 4)
  | .row _ _=>O)=O:=by intro _;kernel_rfl)
  (c:∀g,bU vn F 300 an f (a.c g.1) (s.d g.2) n0 d.rd=t g:=by intro _;kernel_rfl)
  (h2:(fn.name=="runtime.NumGoroutine")=G:=by kernel_rfl)
  (h3:∀b,(fG vn f n0 (d.pat b)).okB n0=O:=by intro _;kernel_rfl):bz vn (eY vn f n0 a s d t za):=
 CB (VX hF (b6 hf (bN hb) ho h) (λp=>by have:=h0 p;revert this;cases nL vn f (d.pat p)<;>exact id) h1 (λg=>Eq.trans (by congr 1;funext q;obtain⟨i,r⟩:=q;cases r<;>rfl) (h1' g)) c) ⟨_,hf,h2,hb⟩ h3 hG
def Lq{F:bu}{p:Nat->Bool}(h:bz vn F):bz vn (td vn F p 300 10):=⟨uM h.ok h.nat 300 10,rN h.nat 300 10⟩
abbrev aAI:=Int×Int
def d352:Td 0 aAI:= .c [] [4,5] (.r 0 0 (ec 4 (qi .u64) (ec 5 (qi .u64) en)) sn (λz=>(z.1.1,z.1.2.1)) (λx=>((x.1,x.2,()),(()))))
def aa2(a0:Int)(a1:Int):aAI:=
 (bG (bG (bG (cS u64 a0 (32)*cS u64 a1 (32))+cS u64 (bG (bG (cS u64 a0 (32)*tX u64 a1 (4294967295))+cS u64 (bG (tX u64 a0 (4294967295)*tX u64 a1 (4294967295))) (32))) (32))+cS u64 (bG (tX u64 (bG (bG (cS u64 a0 (32)*tX u64 a1 (4294967295))+cS u64 (bG (tX u64 a0 (4294967295)*tX u64 a1 (4294967295))) (32))) (4294967295)+bG (tX u64 a0 (4294967295)*cS u64 a1 (32)))) (32)),bG (a0*a1))
def aFX:=eL vn 352 G (lc (qi .u64) (lc (qi .u64) ln)) d352 (λg=>V (aa2 g.1 g.2.1))
def ajc:EO aFX:=λh=>kL (an:= .no) func352 aP aH h
abbrev ay9:=Int
def d301:Td 0 ay9:= .c [] [2] (.r 0 0 (ec 2 aN en) sn (λz=>z.1.1) (λx=>((x,()),(()))))
def agP(a0:Int):af ay9:=
 bif J (4294967296<=a0)then bif J (65536<=cS u64 a0 32)then bif J (256<=cS u64 (cS u64 a0 32) 16)then if 0<=IntKind.u8.wrap (cS u64 (cS u64 (cS u64 a0 ((32:Int))) ((16:Int))) ((8:Int)))/\IntKind.u8.wrap (cS u64 (cS u64 (cS u64 a0 ((32:Int))) ((16:Int))) ((8:Int)))<256then V (ak (56+ak (cv l5 (IntKind.u8.wrap (cS u64 (cS u64 (cS u64 a0 32) 16) 8)).toNat)))else I else if 0<=IntKind.u8.wrap (cS u64 (cS u64 a0 ((32:Int))) ((16:Int)))/\IntKind.u8.wrap (cS u64 (cS u64 a0 ((32:Int))) ((16:Int)))<256then V (ak (48+ak (cv l5 (IntKind.u8.wrap (cS u64 (cS u64 a0 32) 16)).toNat)))else I else bif J (256<=cS u64 a0 32)then if 0<=IntKind.u8.wrap (cS u64 (cS u64 a0 ((32:Int))) ((8:Int)))/\IntKind.u8.wrap (cS u64 (cS u64 a0 ((32:Int))) ((8:Int)))<256then V (ak (40+ak (cv l5 (IntKind.u8.wrap (cS u64 (cS u64 a0 32) 8)).toNat)))else I else if 0<=IntKind.u8.wrap (cS u64 a0 ((32:Int)))/\IntKind.u8.wrap (cS u64 a0 ((32:Int)))<256then V (ak (32+ak (cv l5 (IntKind.u8.wrap (cS u64 a0 32)).toNat)))else I else bif J (65536<=a0)then bif J (256<=cS u64 a0 16)then if 0<=IntKind.u8.wrap (cS u64 (cS u64 a0 ((16:Int))) ((8:Int)))/\IntKind.u8.wrap (cS u64 (cS u64 a0 ((16:Int))) ((8:Int)))<256then V (ak (24+ak (cv l5 (IntKind.u8.wrap (cS u64 (cS u64 a0 16) 8)).toNat)))else I else if 0<=IntKind.u8.wrap (cS u64 a0 ((16:Int)))/\IntKind.u8.wrap (cS u64 a0 ((16:Int)))<256then V (ak (16+ak (cv l5 (IntKind.u8.wrap (cS u64 a0 16)).toNat)))else I else bif J (256<=a0)then if 0<=IntKind.u8.wrap (cS u64 a0 ((8:Int)))/\IntKind.u8.wrap (cS u64 a0 ((8:Int)))<256then V (ak (8+ak (cv l5 (IntKind.u8.wrap (cS u64 a0 8)).toNat)))else I else if 0<=IntKind.u8.wrap a0/\IntKind.u8.wrap a0<256then V (ak (0+ak (cv l5 (IntKind.u8.wrap a0).toNat)))else I
def aFk:=eL vn 301 G (lc (qi .u64) ln) d301 (λg=>agP g.1)
def aiR:EO aFk:=λh=>kL (an:= .no) func301 aP aH h
abbrev aCc:=Int
def d358:Td 0 aCc:= .c [] [2] (.r 0 0 (ec 2 aN en) sn (λz=>z.1.1) (λx=>((x,()),(()))))
def atz(a0:Int):af aCc:=
 match agP a0 with|I=>I|V r1=>V (ak (64-r1))
def aC6:=eL vn 358 G (lc (qi .u64) ln) d358 (λg=>atz g.1)
def anq:EO aC6:=λh=>kL (an:= .no) func358 (aiR aP) aH h
def awh:bu:=(aC6 di)
structure mS where
 (t2 t8 t9 t10 t14 t15 t16 t17 t18:Int)
def T7:Td 0 mS:= .c [] [2,8,9,10,14,15,16,17,18] (.r 0 0 (ec 2 (qi .u64) (ec 8 (qi .u64) (ec 9 (qi .u64) (ec 10 (qi .u64) (ec 14 (qi .u64) (ec 15 (qi .u64) (ec 16 (qi .u64) (ec 17 (qi .u64) (ec 18 (qi .u64) en))))))))) sn (λz=>⟨z.1.1,z.1.2.1,z.1.t.1,z.1.t.2.1,z.1.q.1,z.1.q.2.1,z.1.q.t.1,z.1.q.t.2.1,z.1.q.q.1⟩) (λx=>((x.t2,x.t8,x.t9,x.t10,x.t14,x.t15,x.t16,x.t17,x.t18,()),(()))))
def Ce(p:mS):af (af mS):=
 match bif J (4294967296<=p.t18)then V (O)else V (J (bG (bG (4294967296*p.t16)+p.t14)<bG (p.t18*p.t10)))with|I=>I|V r2=>bif r2 then bif J (4294967296<=bG (p.t16+p.t9))then V (I)else V (V (mS.mk p.t2 p.t8 p.t9 p.t10 p.t14 p.t15 (bG (p.t16+p.t9)) p.t17 (bG (p.t18-1))))else V (I)
def adQ:An:=(.two (.two (.rb [] 113) .no) .no)
def GH:=bJ (Ce)
structure pn where
 (t2 t8 t9 t10 t11 t13 t14 t15 t16:Int)
def Tw:Td 0 pn:= .c [] [2,8,9,10,11,13,14,15,16] (.r 0 0 (ec 2 (qi .u64) (ec 8 (qi .u64) (ec 9 (qi .u64) (ec 10 (qi .u64) (ec 11 (qi .u64) (ec 13 (qi .u64) (ec 14 (qi .u64) (ec 15 (qi .u64) (ec 16 (qi .u64) en))))))))) sn (λz=>⟨z.1.1,z.1.2.1,z.1.t.1,z.1.t.2.1,z.1.q.1,z.1.q.2.1,z.1.q.t.1,z.1.q.t.2.1,z.1.q.q.1⟩) (λx=>((x.t2,x.t8,x.t9,x.t10,x.t11,x.t13,x.t14,x.t15,x.t16,()),(()))))
def Ck(p:pn):af (af pn):=
 match bif J (4294967296<=p.t15)then V (O)else V (J (bG (bG (4294967296*p.t16)+p.t13)<bG (p.t15*p.t10)))with|I=>I|V r1=>bif r1 then bif J (4294967296<=bG (p.t16+p.t9))then V (I)else V (V (pn.mk p.t2 p.t8 p.t9 p.t10 p.t11 p.t13 p.t14 (bG (p.t15-1)) (bG (p.t16+p.t9))))else V (I)
def aaD:An:=(.two (.two (.rb [] 78) .no) .no)
def IY:=bJ (Ck)
abbrev azZ:=Int×Int
def d357:Td 0 azZ:= .c [] [6,7] (.r 0 0 (ec 6 (qi .u64) (ec 7 (qi .u64) en)) sn (λz=>(z.1.1,z.1.2.1)) (λx=>((x.1,x.2,()),(()))))
def aoT:∀f∈([]:aa Nat),bA (awh) f:=aH
def acz(a0:Int)(a1:Int)(a2:Int):af azZ:=
 bif J (a2=0)then I else bif J (a2<=a0)then I else bif J (a0=0)then if¬a2=0then if¬a2=0then V ((bG (a1.tdiv a2),a1.tmod a2))else I else I else match atz a2 with|I=>I|V r3=>if 0<=bG r3 then if 0<=bG r3 then if 0<=bG ((64:Int)-bG r3)then if 0<=bG r3 then if¬cS u64 (mZ u64 a2 (bG r3)) ((32:Int))=0then match IY (pn.mk (mZ u64 a2 (bG r3)) (bG r3) (cS u64 (mZ u64 a2 (bG r3)) 32) (tX u64 (mZ u64 a2 (bG r3)) 4294967295) (bOr u64 (mZ u64 a0 (bG r3)) (cS u64 a1 (bG (64-bG r3)))) (cS u64 (mZ u64 a1 (bG r3)) 32) (tX u64 (mZ u64 a1 (bG r3)) 4294967295) (bG ((bOr u64 (mZ u64 a0 (bG r3)) (cS u64 a1 (bG (64-bG r3)))).tdiv (cS u64 (mZ u64 a2 (bG r3)) 32))) (bG (bOr u64 (mZ u64 a0 (bG r3)) (cS u64 a1 (bG (64-bG r3)))-bG (bG ((bOr u64 (mZ u64 a0 (bG r3)) (cS u64 a1 (bG (64-bG r3)))).tdiv (cS u64 (mZ u64 a2 (bG r3)) 32))*cS u64 (mZ u64 a2 (bG r3)) 32))))with|I=>I|V r4=>match bif J (4294967296<=r4.t15)then V O else V (J (bG (bG (4294967296*r4.t16)+r4.t13)<bG (r4.t15*r4.t10)))with|I=>I|V r5=>bif r5 then bif J (4294967296<=bG (r4.t16+r4.t9))then if¬r4.t9=0then match GH (mS.mk r4.t2 r4.t8 r4.t9 r4.t10 r4.t14 (bG (r4.t15-1)) (bG (bG (bG (bG (r4.t11*4294967296)+r4.t13)-bG (bG (r4.t15-1)*r4.t2))-bG (bG ((bG (bG (bG (r4.t11*4294967296)+r4.t13)-bG (bG (r4.t15-1)*r4.t2))).tdiv r4.t9)*r4.t9))) (bG (bG (bG (r4.t11*4294967296)+r4.t13)-bG (bG (r4.t15-1)*r4.t2))) (bG ((bG (bG (bG (r4.t11*4294967296)+r4.t13)-bG (bG (r4.t15-1)*r4.t2))).tdiv r4.t9)))with|I=>I|V r6=>match bif J (4294967296<=r6.t18)then V O else V (J (bG (bG (4294967296*r6.t16)+r6.t14)<bG (r6.t18*r6.t10)))with|I=>I|V r7=>bif r7 then bif J (4294967296<=bG (r6.t16+r6.t9))then if 0<=r6.t8 then V ((bG (bG (r6.t15*4294967296)+bG (r6.t18-1)),cS u64 (bG (bG (bG (r6.t17*4294967296)+r6.t14)-bG (bG (r6.t18-1)*r6.t2))) r6.t8))else I else I else if 0<=r6.t8 then V ((bG (bG (r6.t15*4294967296)+r6.t18),cS u64 (bG (bG (bG (r6.t17*4294967296)+r6.t14)-bG (r6.t18*r6.t2))) r6.t8))else I else I else I else if¬r4.t9=0then match GH (mS.mk r4.t2 r4.t8 r4.t9 r4.t10 r4.t14 r4.t15 (bG (bG (bG (bG (r4.t11*4294967296)+r4.t13)-bG (r4.t15*r4.t2))-bG (bG ((bG (bG (bG (r4.t11*4294967296)+r4.t13)-bG (r4.t15*r4.t2))).tdiv r4.t9)*r4.t9))) (bG (bG (bG (r4.t11*4294967296)+r4.t13)-bG (r4.t15*r4.t2))) (bG ((bG (bG (bG (r4.t11*4294967296)+r4.t13)-bG (r4.t15*r4.t2))).tdiv r4.t9)))with|I=>I|V r8=>match bif J (4294967296<=r8.t18)then V O else V (J (bG (bG (4294967296*r8.t16)+r8.t14)<bG (r8.t18*r8.t10)))with|I=>I|V r9=>bif r9 then bif J (4294967296<=bG (r8.t16+r8.t9))then if 0<=r8.t8 then V ((bG (bG (r8.t15*4294967296)+bG (r8.t18-1)),cS u64 (bG (bG (bG (r8.t17*4294967296)+r8.t14)-bG (bG (r8.t18-1)*r8.t2))) r8.t8))else I else I else if 0<=r8.t8 then V ((bG (bG (r8.t15*4294967296)+r8.t18),cS u64 (bG (bG (bG (r8.t17*4294967296)+r8.t14)-bG (r8.t18*r8.t2))) r8.t8))else I else I else I else I else I else I else I
def aHe:=eL vn 357 G (lc (qi .u64) (lc (qi .u64) (lc (qi .u64) ln))) d357 (λg=>acz g.1 g.2.1 g.t.1)
def ahI:EO aHe:=λh=>kL (F:=awh) (an:=(noTwo (noTwo (noTwo (noTwo (noTwo (noTwo (noTwo (noTwo (noTwo (noTwo (noTwo (noTwo (noTwo (noTwo (.two (Tw.lp IY aaD) (noTwo (noTwo (noTwo (.two (T7.lp GH adQ) .no)))))))))))))))))))) (l:=[(aY f357 0,(Tw.lp IY aaD)),(.skip,(.rb [] 78)),(aY f357 1,(T7.lp GH adQ)),(.skip,(.rb [] 113))]) func357 (anq aP) (aA (aO Tw) (aA aoT (aA (aO T7) (aA aoT aH)))) h
abbrev aDl:=Int
def d353:Td 0 aDl:= .c [] [6] (.r 0 0 (ec 6 (qi .u64) en) sn (λz=>z.1.1) (λx=>((x,()),(()))))
def auD(a0:Int)(a1:Int)(a2:Int):af aDl:=
 if¬a2=0then match acz (a0.tmod a2) a1 a2 with|I=>I|V r1=>V (r1.snd)else I
def aEO:=eL vn 353 G (lc (qi .u64) (lc (qi .u64) (lc (qi .u64) ln))) d353 (λg=>auD g.1 g.2.1 g.t.1)
def akA:EO aEO:=λh=>kL (an:= .no) func353 (ahI aP) aH h
abbrev aAW:=Int
def d340:Td 0 aAW:= .c [] [6] (.r 0 0 (ec 6 aN en) sn (λz=>z.1.1) (λx=>((x,()),(()))))
def ajY(a0:Int)(a1:Int)(a2:Int):af aAW:=
 match auD (aa2 (bG a0) (bG a1)).fst (aa2 (bG a0) (bG a1)).snd (bG a2)with|I=>I|V r1=>V (ak r1)
def aB4:=eL vn 340 G (aS (aS (aS ln))) d340 (λg=>ajY g.1 g.2.1 g.t.1)
def al9:EO aB4:=λh=>kL (an:= .no) func340 (akA (ajc aP)) aH h
end Go.Proofs.YtnfljbehcffmcaaGreat
end
