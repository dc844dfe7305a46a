/- Merged: Iw9, Iw10, Iw11, Iw12, Iw13, Iw14, Iw15, Ixa, Ix1, Ix2, Ua, Ix3, Ix4, Us, Iz, Hl, Ix5, Ix6, Um, Hm. -/
import Derived.Test.YtnfljbehcffmcaaGreatM1RefineChecks
import Derived.Test.YtnfljbehcffmcaaGreatProg
open List renaming length -> zY
open Nat renaming beq -> zc, le_refl -> zl, blt -> zA, lt_succ_self -> zC, le_trans -> zG, le_succ -> yd, zero_add -> yj, ble -> yp, zero_le -> yU, eq_of_beq_eq_true -> xx, sub_self -> xT, add_sub_cancel -> wM
open List renaming replicate -> zf, length_append -> zh, mem_cons_self -> zk, getElem?_eq_getElem -> zm, mem_singleton -> zo, all_eq_true -> zw, mem_cons -> zx, length_map -> zB, mem_cons_of_mem -> zL, mem_map -> zM, map_append -> zO, mem_append -> zP, map_congr_left -> zX, getElem?_eq_some_iff -> z7, mem_filter -> z8, getElem?_map -> ye, map_cons -> yf, map_map -> yt, append_nil -> yu, length_cons -> yw, mem_append_left -> yJ, mem_append_right -> yK, nodup_append -> yN, replicate_succ -> yP, flatMap_cons -> yR, append_assoc -> yS, filter_cons -> yV, size_toArray -> y4, eq_nil_of_length_eq_zero -> xg, getElem?_append -> xy, filterMap_cons -> xE, mem_flatMap -> xJ, getElem_mem -> xP, filter_filter -> wj, getD_eq_getElem?_getD -> wk, filter_congr -> wL, eraseIdx_sublist -> wT, filter_eq_nil_iff -> wU, getElem?_replicate -> wW, getElem?_append_right -> wX, getElem?_append_left -> wY
open Bool renaming and_eq_true -> zi, or_eq_true -> yC, true -> J, false -> O
open Option renaming map_eq_some_iff -> zn, bind_eq_some_iff -> zu, some -> zF, bind_assoc -> z6, map_some -> yI, some -> V, none -> G
open Array renaming getElem?_eq_getElem -> y9
open Decidable renaming decide -> vn
open Go.Proofs.Tryz renaming prog -> vp
open Go.Proofs.Tryz
set_option linter.unusedSectionVars false
set_option linter.unusedVariables false
set_option linter.unusedSimpArgs false
set_option linter.defProp false
noncomputable section
namespace Go.Iv
variable [U:EU] [L:Ec]
open Go Go.RowKit
def lm(l:af Nat):Nat:=List.rec 0 (λt _ ih=>Nat.lor ih (Nat.pow 2 t)) l
def TK:∀(l:af Nat) (t:Nat),(lm l).testBit t=J↔t∈l
 |[],t=>by simp[lm]
 |a::l,t=>by
  show ((lm l)|||2^a).testBit t=J↔_;rw[Nat.testBit_or,yC,TK l t,Nat.testBit_two_pow];grind
def and_zero{x y t:Nat}(h:Nat.land x y=0)(hx:x.testBit t=J)(hy:y.testBit t=J):False:=by
 have:=Nat.testBit_and x y t;simp_all
def msk(acc:af Nat)(es:af Edge):Nat:=List.rec 0 (λe _ ih=>match Region.binds .any e with
 |true=>Nat.lor ih (Nat.lor (Nat.pow 2 e.on) (acc.getD e.on 0))
 |false=>ih) es
def MS{acc:af Nat}:∀{es:af Edge} {j:Nat},(msk acc es).testBit j=J->∃e∈es,Region.binds .any e=J/\(j=e.on\/(acc.getD e.on 0).testBit j=J)
 |[],j,h=>by simp[msk]at h
 |e::es,j,h=>by
  change (match Region.binds .any e with
   |true=>Nat.lor (msk acc es) (Nat.lor (Nat.pow 2 e.on) (acc.getD e.on 0))
   |false=>msk acc es).testBit j=J at h
  cases hb:Region.binds .any e with
  |false=>
   rw[hb]at h;obtain⟨e',h1,h2⟩:=MS h;exact⟨e',zL _ h1,h2⟩
  |true=>
   rw[hb]at h;change ((msk acc es)|||((2^e.on)|||(acc.getD e.on 0))).testBit j=J at h;rw[Nat.testBit_or,Nat.testBit_or,yC,yC,Nat.testBit_two_pow]at h;rcases h with h|h|h
   ·obtain⟨e',h1,h2⟩:=MS h;exact⟨e',zL _ h1,h2⟩
   ·exact⟨e,zk,hb, .inl (by simp only[decide_eq_true_eq]at h;exact h.symm)⟩
   ·exact⟨e,zk,hb, .inr h⟩
def Oe(l:af Oper):af Nat->af Nat:=List.rec (λacc=>acc) (λo _ ih acc=>ih (acc++[msk acc o.after.toList])) l
def Rdy(bs:af Bool)(o:Oper):Prop:=∀e∈o.after.toList,Region.binds .any e=J->bs[e.on]? =V J
def GY(ops:af Oper)(bs:af Bool):Prop:=∀(i:Nat) o,ops[i]? =V o->bs[i]? =V J->Rdy bs o
def aeg(ops:af Oper)(acc:af Nat):Prop:=∀(i m:Nat) o,acc[i]? =V m->ops[i]? =V o->∀bs,GY ops bs->Rdy bs o->∀j,m.testBit j=J->bs[j]? =V J
def WT(ops:af Oper):∀(l:af Oper) (acc:af Nat),(∃pre,ops=pre++l/\zY pre=zY acc)->aeg ops acc->aeg ops (Oe l acc)
 |[],acc,_,h=>h
 |o::l,acc,⟨pre,hp,hl⟩,h=>by
  refine WT ops l _ ⟨pre++[o],by rw[hp];simp,by simp[hl]⟩ λi m o' hm ho bs hc hr j hj=> ?_;rw[xy]at hm;split at hm
  ·exact h i m o' hm ho bs hc hr j hj
  ·rename_i hlt;have hi:i=zY acc:=by
    have:=(z7.1 hm).1;simp at this;omega
   subst hi;rw[xT]at hm;cases hm;have ho':o'=o:=by
    simp_all
   subst ho';obtain⟨e,h1,h2,h3⟩:=MS hj;have h4:=hr e h1 h2;rcases h3 with rfl|h3
   ·exact h4
   ·cases ha:acc[e.on]? with
    |none=>rw[wk,ha]at h3;simp at h3
    |some m'=>
     rw[wk,ha]at h3;have hlt':=(z7.1 ha).1;cases hoe:ops[e.on]? with
     |none=>
      rw[List.getElem?_eq_none_iff,hp,zh]at hoe;omega
     |some oe=>exact h e.on m' oe ha hoe bs hc (hc e.on oe hoe h4) j h3
def aCw:Operand->af Nat
 | .tmp t=>[t]
 |_=>[]
def ao4(ops:Array Oper)(o:Oper):af Nat:=match o.guard with
 |none=>[]
 |some (j,_)=>match (ops[j]?).bind (·.dst)with
  |some t=>[t]
  |none=>[]
def dg(ops:Array Oper)(o:Oper):af Nat:=o.op.operands.toList.flatMap aCw++ao4 ops o
def efk(o:Oper):Bool:=match o.op with
 | .store _ _ _=>J
 | .buildSlice _ _ _=>J
 | .makeSlice _ _ _=>J
 | .alloc _=>J
 | .box _ _=>J
 | .slice _ _ _ _ _=>J
 | .call {callee:= .builtin .len, ..}=>O
 | .call {callee:= .builtin .max, ..}=>O
 | .call {callee:= .builtin .min, ..}=>O
 | .call _=>J
 |_=>O
def dmk:aa Nat->Nat
 |none=>0
 |some t=>Nat.pow 2 t
def Fb{d:aa Nat}{t:Nat}(h:d=V t):(dmk d).testBit t=J:=by
 subst h;show (2^t).testBit t=J;simp
structure Sk where
 (anc sm dm:Nat)
 ef:Bool
def ZD(j:Nat)(a b:Sk):Bool:=b.anc.testBit j||(zc (Nat.land a.dm b.sm) 0&&zc (Nat.land a.dm b.dm) 0&&zc (Nat.land b.dm a.sm) 0)
def WX(b:Sk)(i:Nat)(l:af Sk):Nat->aa (af (Nat×Nat)):=List.rec (λ_=>V []) (λa _ ih j=>match ZD j a b with
 |true=>match !b.anc.testBit j&&(a.ef||b.ef)with
  |true=>(ih (j+1)).map λps=>(j,i)::ps
  |false=>ih (j+1)
 |false=>G) l
def aqY(l:af Sk):af Sk->Nat->aa (af (Nat×Nat)):=List.rec (λ_ _=>V []) (λb _ ih pre i=>(WX b i pre 0).bind λps=>(ih (pre++[b]) (i+1)).map λqs=>ps++qs) l
def GK{b:Sk}{i:Nat}:∀{l:af Sk} {k:Nat} {ps:af (Nat×Nat)},WX b i l k=V ps->∀(j:Nat) a,l[j]? =V a->ZD (k+j) a b=J/\(b.anc.testBit (k+j)=J\/(a.ef||b.ef)=O\/(k+j,i)∈ps)
 |[],k,ps,_,j,a,h=>by cases h
 |a0::l,k,ps,hs,j,a,h=>by
  change (match ZD k a0 b with
   |true=>match !b.anc.testBit k&&(a0.ef||b.ef)with
    |true=>(WX b i l (k+1)).map λps=>(k,i)::ps
    |false=>WX b i l (k+1)
   |false=>G)=V ps at hs
  cases h0:ZD k a0 b with
  |false=>rw[h0]at hs;cases hs
  |true=>
   rw[h0]at hs;cases h1:(!b.anc.testBit k&&(a0.ef||b.ef))with
   |true=>
    rw[h1]at hs;obtain⟨ps',h2,rfl⟩:=zn.1 hs;cases j with
    |zero=>cases h;exact⟨h0, .inr (.inr zk)⟩
    |succ j=>
     obtain⟨h3,h4⟩:=GK h2 j a h;rw[show k+1+j=k+(j+1)from au]at h3 h4;exact⟨h3,h4.imp id (λh=>h.imp id λh=>zL _ h)⟩
   |false=>
    rw[h1]at hs;cases j with
    |zero=>
     cases h;refine⟨h0,?_⟩;cases hb:b.anc.testBit k with
     |true=>exact .inl rfl
     |false=>rw[hb]at h1;exact .inr (.inl (by simpa using h1))
    |succ j=>
     obtain⟨h3,h4⟩:=GK hs j a h;rw[show k+1+j=k+(j+1)from au]at h3 h4;exact⟨h3,h4⟩
def OT:∀{l pre:af Sk} {k:Nat} {ps:af (Nat×Nat)},aqY l pre k=V ps->zY pre=k->∀(i j:Nat) a b,j<i->k<=i->(pre++l)[j]? =V a->(pre++l)[i]? =V b->ZD j a b=J/\(b.anc.testBit j=J\/(a.ef||b.ef)=O\/(j,i)∈ps)
 |[],pre,k,ps,_,hk,i,j,a,b,_,hki,_,hb=>by
  rw[yu]at hb;have:=(z7.1 hb).1;omega
 |b0::l,pre,k,ps,hs,hk,i,j,a,b,hji,hki,ha,hb=>by
  obtain⟨p1,h1,hs⟩:=zu.1 hs;obtain⟨p2,h2,rfl⟩:=zn.1 hs;by_cases hik:i=k
  ·subst hik;rw[wX au,hk,xT]at hb;cases hb;rw[wY au]at ha;have:=GK h1 j a ha;rw[yj]at this;exact⟨this.1,this.2.imp id λh=>h.imp id λh=>yJ _ h⟩
  ·have h3:=OT h2 (by simp[hk]) i j a b hji au (by simpa using ha) (by simpa using hb);exact⟨h3.1,h3.2.imp id λh=>h.imp id λh=>yK _ h⟩
def aCi(ops:Array Oper)(l:af Oper):af Nat->af Sk:=List.rec (λ_=>[]) (λo _ ih ms=>match ms with
 |m::ms=>⟨m,lm (dg ops o),dmk o.dst,efk o⟩::ih ms
 |[]=>[]) l
def plan(ops:Array Oper):aa (af (Nat×Nat)):=aqY (aCi ops ops.toList (Oe ops.toList [])) [] 0
def aei(l:af Oper):∀acc:af Nat,zY (Oe l acc)=zY acc+zY l:=by
 induction l with
 |nil=>intro acc;rfl
 |cons o l ih=>intro acc;show zY (Oe l (acc++[_]))=_;rw[ih];simp;omega
def Fh(ops:Array Oper):∀(l:af Oper) (ms:af Nat) (i:Nat) (o:Oper) (m:Nat),l[i]? =V o->ms[i]? =V m->(aCi ops l ms)[i]? =V ⟨m,lm (dg ops o),dmk o.dst,efk o⟩
 |[],_,_,_,_,h,_=>by cases h
 |o0::l,[],_,_,_,_,h=>by cases h
 |o0::l,m0::ms,i,o,m,h1,h2=>by
  cases i with
  |zero=>cases h1;cases h2;rfl
  |succ i=>exact Fh ops l ms i o m h1 h2
def aiD(xs:af Nat)(Lo:bt)(ys:af Nat):Bool:=xs.all (λi=> !dG i ys)&&Lo.all λp=> !dG p.1 ys
def cfD(c d:Rc):Bool:=(!c.ef||aiD c.wr c.Lo d.rd)&&(!d.ef||aiD d.wr d.Lo c.rd)
def afD(ps:af (Nat×Nat))(cs:af Rc):Bool:=ps.all λp=>match cs[p.1]?,cs[p.2]? with
 |some c,V d=>cfD c d
 |_,_=>O
def VJ{xs ys:af Nat}{Lo:bt}(h:aiD xs Lo ys=J):(∀i∈xs,i∉ys)/\∀p∈Lo,p.1∉ys:=by
 unfold aiD at h;simp only[zi,zw,Bool.not_eq_true']at h;exact⟨λi hi=>jM.1 (h.1 i hi),λp hp=>jM.1 (h.2 p hp)⟩
def anv{ops:Array Oper}{ps:af (Nat×Nat)}{cs:af Rc}(hp:plan ops=V ps)(ho:afD ps cs=J)(hcs:∀(i:Nat) c,cs[i]? =V c->∃o,ops.toList[i]? =V o/\c.dst=o.dst/\c.sl=dg ops o/\(c.ef=J->efk o=J)/\∀i∈c.wr,i∈c.rd)
  {i j:Nat} {c d:Rc} (hji:j<i) (hc:cs[j]? =V c) (hd:cs[i]? =V d):
  CF c d\/∀bs,GY ops.toList bs->(∀o,ops.toList[i]? =V o->Rdy bs o)->bs[j]? =V J:=by
 obtain⟨o1,h1,h2,h3,h4,h5⟩:=hcs j c hc;obtain⟨o2,g1,g2,g3,g4,g5⟩:=hcs i d hd;have hl1:=(z7.1 h1).1;have hl2:=(z7.1 g1).1;have hml:zY (Oe ops.toList [])=zY ops.toList:=by rw[aei];simp
 obtain⟨m1,hm1⟩:∃m,(Oe ops.toList [])[j]? =V m:=⟨_,zm (by rw[hml];exact hl1)⟩;obtain⟨m2,hm2⟩:∃m,(Oe ops.toList [])[i]? =V m:=⟨_,zm (by rw[hml];exact hl2)⟩;have s1:=Fh ops ops.toList _ j o1 m1 h1 hm1;have s2:=Fh ops ops.toList _ i o2 m2 g1 hm2;obtain⟨q1,q2⟩:=OT hp rfl i j _ _ hji (yU _) s1 s2;have hmsk:aeg ops.toList (Oe ops.toList []):=WT ops.toList ops.toList [] ⟨[],rfl,rfl⟩ λi m o h=>by cases h
 by_cases ha:m2.testBit j=J
 ·exact .inr λbs hcl hr=>hmsk i m2 o2 hm2 g1 bs hcl (hr o2 g1) j ha
 ·refine .inl ?_;have ha':m2.testBit j=O:=by simpa using ha
  unfold ZD at q1;simp only[ha',Bool.false_or,zi]at q1;obtain⟨⟨r1,r2⟩,r3⟩:=q1;have r1:=gZ r1;have r2:=gZ r2;have r3:=gZ r3;have hdyn:(c.ef||d.ef)=O\/cfD c d=J:=by
   rcases q2 with q2|q2|q2
   ·exact dS q2 ha
   ·simp only[Bool.or_eq_false_iff]at q2;left;have e1:c.ef=O:=by
     simp_all
    have e2:d.ef=O:=by
     simp_all
    rw[e1,e2];rfl
   ·right;have:=zw.1 ho _ q2;simp only[hc,hd]at this;omega
  refine⟨λt ht=>⟨λhm=> ?_,λe=> ?_⟩,λt ht hm=> ?_,λhe=> ?_,λhe=> ?_⟩
  ·rw[h2]at ht;rw[g3]at hm;exact and_zero r1 (Fb ht) ((TK _ _).2 hm)
  ·rw[h2]at ht;rw[g2]at e;exact and_zero r2 (Fb ht) (Fb e)
  ·rw[g2]at ht;rw[h3]at hm;exact and_zero r3 (Fb ht) ((TK _ _).2 hm)
  ·rcases hdyn with h|h
   ·rw[he]at h;simp at h
   ·unfold cfD at h;simp only[he,zi,yC,Bool.not_eq_true']at h;have q:=VJ (h.1.resolve_left (by simp));exact⟨q.1,q.2,λp hp hx=>q.2 p hp (g5 _ hx)⟩
  ·rcases hdyn with h|h
   ·rw[he]at h;simp at h
   ·unfold cfD at h;simp only[he,zi,yC,Bool.not_eq_true']at h;have q:=VJ (h.2.resolve_left (by simp));exact⟨q.1,q.2,λp hp hx=>q.2 p hp (h5 _ hx)⟩
def IR.ic(p:Nat->Prop):IR->Prop
 | .box _ cs=>∀c∈cs,Iv.ic p c
 | .row _ _=>True
def bt.ic(p:Nat->Prop)(R:bt):Prop:=∀q∈R,p q.1/\q.2.ic p
def IR.ic.mono{p q:Nat->Prop}{r:IR}(h:r.ic p)(hn:∀i,p i->q i):r.ic q:=by
 cases r with
 |box T cs=>exact λc hc=>(h c hc).mono hn
 |row t l=>trivial
def bt.ic.mono{p q:Nat->Prop}{R:bt}(h:bt.ic p R)(hn:∀i,p i->q i):bt.ic q R:=λx hx=>⟨hn _ (h x hx).1,(h x hx).2.mono hn⟩
def bt.ic.res{p:Nat->Prop}{R:bt}{ρ ρ':Gh}(h:bt.ic p R)(ha:Ags p ρ ρ'):bt.res ρ R=bt.res ρ' R:=zX λq hq=>by
 obtain⟨h1,h2⟩:=h q hq;obtain⟨i,r⟩:=q;cases r with
 |box T cs=>simp only[IR.res];rw[(ha i h1).2,Iv.ic.abF h2 ha]
 |row t l=>simp only[IR.res];rw[(ha i h1).1]
def bt.ic.perm{p:Nat->Prop}{R R':bt}(h:bt.ic p R)(hp:List.Perm R R'):bt.ic p R':=λq hq=>h q (hp.mem_iff.2 hq)
def bt.cV.lts{n:Nat}{R:bt}(h:bt.cV n R):bt.ic (λi=>i<n) R:=λq hq=>⟨(h q hq).1,by
 have:=(h q hq).2;cases hr:q.2 with
 |box T cs=>rw[hr]at this;exact this
 |row t l=>trivial⟩
def bt.ic.sU{n:Nat}{R:bt}(h:bt.ic (λi=>i<n) R):bt.cV n R:=λq hq=>⟨(h q hq).1,by
 have:=(h q hq).2;cases hr:q.2 with
 |box T cs=>rw[hr]at this;exact this
 |row t l=>trivial⟩
def A8(f:Fr)(sl:af Nat):Env:=sl.filterMap λt=>(f t).map λd=>(t,d)
def Ia{f:Fr}{t:Nat}{d:AV}:∀{sl:af Nat},(A8 f sl).get t=V d->f t=V d
 |[],h=>by cases h
 |s::sl,h=>by
  unfold A8 at h;rw[xE]at h;cases hs:f s with
  |none=>
   rw[hs]at h;exact Ia (sl:=sl) h
  |some e=>
   rw[hs]at h;simp only[yI]at h;unfold Env.get at h;cases hb:zc s t with
   |true=>
    simp_all
   |false=>
    rw[hb]at h;exact Ia (sl:=sl) h
def Mf{f:Fr}{t:Nat}{d:AV}:∀{sl:af Nat},t∈sl->f t=V d->(A8 f sl).get t=V d
 |[],h,_=>by cases h
 |s::sl,h,hf=>by
  unfold A8;rw[xE];by_cases hst:s=t
  ·subst hst;rw[hf];exact Env.fh _ _ _
  ·have ht:t∈sl:=(zx.1 h).resolve_left λe=>hst e.symm;cases f s with
   |none=>exact Mf ht hf
   |some e=>simp only[yI];rw[Env.dV _ _ hst];exact Mf ht hf
def Ty{f g:Fr}{sl:af Nat}(h:∀t∈sl,f t=g t):A8 f sl=A8 g sl:=by
 unfold A8;induction sl with
 |nil=>rfl
 |cons s sl ih=>
  rw[xE,xE,h s zk,ih λt ht=>h t (zL _ ht)]
section
variable {P:Program} {C:Cx} {n:Nat} {o:Oper}
def MtS(C:Cg)(n:Nat)(p:Nat->Prop)(f:Fr)(R:bt)(a:Act)(w:World):Prop:=∃(E:Env) (ρ:Gh),(∀t d,f t=V d->E.get t=V d)/\(∀q∈E,ic p q.2)/\bt.ic p R/\qC C.n C.ρ ρ/\Ah C.C n (E.sub ρ) (bt.res ρ R) a w
def rF{ρ:Gh}{R R':bt}(h:List.Perm R R'):List.Perm (bt.res ρ R) (bt.res ρ R'):=h.map _
def lP{ρ:Gh}(R R':bt):bt.res ρ (R++R')=bt.res ρ R++bt.res ρ R':=zO ..
def MtS.perm{C:Cg}{p:Nat->Prop}{f:Fr}{R R':bt}{a:Act}{w:World}(h:MtS C n p f R a w)(hp:List.Perm R R'):MtS C n p f R' a w:=by
 obtain⟨E,ρ,h1,h2,h3,h5,h4⟩:=h;exact⟨E,ρ,h1,h2,h3.perm hp,h5,h4.perm (rF hp)⟩
def Nlc(nx:Nat)(v:AV)(Ro:bt)(ρ:Gh):aa AV->af cc->Prop:=λa σ'=>∃ρ',qC nx ρ ρ'/\(a=V (v.sub ρ')\/a=G/\v= .lit undef)/\List.Perm σ' (bt.res ρ' Ro)
def amt{wr rd:af Nat}(h:∀i∈wr,i∈rd)(R:bt):List.Perm (iO wr (cC rd R)++iO rd R) (iO wr R):=by
 have e1:iO wr (cC rd R)=(iO wr R).filter λp=>dG p.1 rd:=by
  simp only[iO,cC,wj];grind
 have e2:iO rd R=(iO wr R).filter λp=> !dG p.1 rd:=by
  simp only[iO,wj];refine wL λp _=> ?_;cases hm:dG p.1 rd with
  |true=>rfl
  |false=>
   have:dG p.1 wr=O:=jM.2 λhw=>jM.1 hm (h _ hw);rw[this];rfl
 rw[e1,e2];exact List.filter_append_perm _ _
def at6{C:Cg}{p:Nat->Prop}{f:Fr}{R:bt}{a:Act}{w:World}{c:Rc}{nx nx':Nat}{Q:Exit->Act->World->Prop}{K':Act->World->Prop}
  (hn:C.n<=nx) (hm:MtS C n p f R a w) (hdst:c.dst=o.dst) (hd:Qp n o.dst=J) (hwr:∀i∈c.wr,i∈c.rd) (hloc:∀ρ C,Ye P ((A8 f c.sl).sub ρ) (bt.res ρ (cC c.rd R)) o C (Nlc nx c.v (match c.ef with|J=>c.Lo++iO c.wr (cC c.rd R)|O=>cC c.rd R) ρ))
  (hp:∀i,p i->¬(nx<=i/\i<nx')) (hv:cV nx' c.v) (hLi:bt.cV nx (cC c.rd R)) (hLo:c.ef=J->bt.cV nx' c.Lo)
  (hv':ic (λi=>p i\/(nx<=i/\i<nx')) c.v) (hLo':c.ef=J->bt.ic (λi=>p i\/(nx<=i/\i<nx')) c.Lo)
  (hK:∀a' w',a'.defers=a.defers->MtS C n (λi=>p i\/(nx<=i/\i<nx')) (c.F f) (c.R R) a' w'->K' a' w'):o.wp P a w K' Q:=by
 obtain⟨E,ρ,h1,h2,h3,h0,hsim0⟩:=hm;have hpm:List.Perm (cC c.rd R++iO c.rd R) R:=List.filter_append_perm _ _;have hsim:=hsim0.perm (rF (ρ:=ρ) hpm.symm);rw[lP]at hsim;generalize hσi:bt.res ρ (cC c.rd R)=σi at hsim;generalize hσr:bt.res ρ (iO c.rd R)=σr at hsim;have hg:=hsim.good;have hlt:∀b∈bC (σi++σr),b<w.heap.size:=λb hb=>by
  obtain⟨s,q1,q2⟩:=bQ.1 hb;exact(hg.res s q1).lt q2
 have hal:∀b,al C.C (σi++σr) b->al ⟨w,al C.C (σi++σr),bC σi⟩ σi b:=λb hA=>⟨.inl hA,λhx=>hA.2 (bO.2 (.inl hx))⟩;have hgood:Good ⟨w,al C.C (σi++σr),bC σi⟩ σi w:=⟨Kp.refl _ _,λr hr=>(hg.res r (yJ _ hr)).mono (λb _ hA=>⟨hal b hA,rfl⟩) (λ_ _=>rfl),by
  have:=hg.Ju;rw[ia]at this;exact(yN.1 this).1,λb hb=> .inl hb⟩
 have hops:RU (al ⟨w,al C.C (σi++σr),bC σi⟩ σi) w ((A8 f c.sl).sub ρ) a.eval:=λx u hx=>by
  rw[Env.UF]at hx;obtain⟨d,hd1,rfl⟩:=zn.1 hx;have hE:E.ev x=V d:=by
   cases x with
   |tmp t=>exact h1 t d (Ia hd1)
   |_=>exact hd1
  exact(hsim.slots.ops x (d.sub ρ) (by rw[Env.UF,hE];rfl)).mono λb _ hA=>⟨hal b hA,rfl⟩
 have step:∀(ρ':Gh) (σo:af cc) (w':World),qC nx ρ ρ'->List.Perm σo (bt.res ρ' (match c.ef with|J=>c.Lo++iO c.wr (cC c.rd R)|O=>cC c.rd R))->Tr ⟨w,al C.C (σi++σr),bC σi⟩ (bC σi) σi w σo w'->
   ∃ρ'':Gh,qC C.n C.ρ ρ''/\c.v.sub ρ'=c.v.sub ρ''/\Ah C.C n (E.sub ρ'') (bt.res ρ'' (c.R R)) a w'/\(∀b,b<w'.heap.size->al ⟨w,al C.C (σi++σr),bC σi⟩ σo b->al C.C (bt.res ρ'' (c.R R)) b):=λρ' σo w' ha hσo ht=>by
  let ρ'':Gh:=⟨λi=>if nx<=i/\i<nx' then ρ'.v i else ρ.v i,λi=>if nx<=i/\i<nx' then ρ'.b i else ρ.b i⟩
  have hag:Ags p ρ ρ'':=λi hi=>by
   have:=hp i hi;exact⟨by simp only[ρ'',bL this],by simp only[ρ'',bL this]⟩
  have hag2:qC nx' ρ' ρ'':=λi hi=>by
   by_cases hni:nx<=i
   ·exact⟨by simp only[ρ'',bB (And.intro hni hi)],by simp only[ρ'',bB (And.intro hni hi)]⟩
   ·have h0:¬(nx<=i/\i<nx'):=λh=>hni h.1;obtain⟨a1,a2⟩:=ha i au;exact⟨by simp only[ρ'',bL h0];exact a1.symm,by simp only[ρ'',bL h0];exact a2.symm⟩
  have hnx:nx<=nx'\/nx'<nx:=au;have hown:∀b∈bC σo,b∈bC σi\/w.heap.size<=b:=ht.good.own;have hsub:∀b,b<w'.heap.size->al ⟨w,al C.C (σi++σr),bC σi⟩ σo b->al C.C (σo++σr) b:=λb _ hb=>by
   obtain⟨hb1,hb2⟩:=hb;rcases hb1 with hb1|hb1|hb1
   ·exact⟨hb1.1,λhx=>(bO.1 hx).elim hb2 (λh=>hb1.2 (bO.2 (.inr h)))⟩
   ·have hbp:b∈bC σi:=hb1;refine⟨?_,λhx=>(bO.1 hx).elim hb2 (λh=> ?_)⟩
    ·rcases hg.own b (bO.2 (.inl hbp))with h|h
     ·simp_all
     ·omega
    ·have hdis:=hg.Ju;rw[ia]at hdis;exact(yN.1 hdis).2.2 b hbp b h rfl
   ·have hbw:w.heap.size<=b:=hb1;exact⟨.inr (.inr (zG hg.kept.size hbw)),λhx=>(bO.1 hx).elim hb2 (λh=>by have:=hlt b (bO.2 (.inr h));omega)⟩
  have ht2:Tr C.C (bC σi) (σi++σr) w (σo++σr) w':=Ev hg (λb hA _=> .inl hA) ht (λr hr=>(ht.good.res r hr).mono (λb hb hA=>⟨hsub b hb hA,rfl⟩) (λ_ _=>rfl));have hs2:=hsim.tr ht2;have hout:bt.ic p (iO c.rd R):=λq hq=>h3 q (z8.1 hq).1;have hEs:E.sub ρ=E.sub ρ'':=zX λq hq=>by rw[(h2 q hq).sub hag]
  have hrs:σr=bt.res ρ'' (iO c.rd R):=by rw[<-hσr,hout.res hag]
  have hpo:List.Perm (σo++σr) (bt.res ρ'' (c.R R)):=by
   rw[hrs];unfold Rc.R;cases hce:c.ef with
   |true=>
    rw[hce]at hσo;simp only at hσo ⊢;have hin:bt.ic p (iO c.wr (cC c.rd R)):=λq hq=>h3 q (z8.1 (z8.1 hq).1).1;have hin2:bt.cV nx (iO c.wr (cC c.rd R)):=λq hq=>hLi q (z8.1 hq).1;have e1:bt.res ρ' (iO c.wr (cC c.rd R))=bt.res ρ'' (iO c.wr (cC c.rd R)):=by rw[<-hin2.res ha,hin.res hag]
    rw[lP,e1,(hLo hce).res hag2]at hσo;refine(hσo.append_right _).trans ?_;rw[yS,lP,<-lP (iO c.wr (cC c.rd R))];exact List.Perm.append_left _ (rF (amt hwr R))
   |false=>
    rw[hce]at hσo;have hin:bt.ic p (cC c.rd R):=λq hq=>h3 q (z8.1 hq).1;have e1:bt.res ρ' (cC c.rd R)=bt.res ρ'' (cC c.rd R):=by rw[<-hLi.res ha,hin.res hag]
    rw[e1]at hσo;refine(hσo.append_right _).trans ?_;rw[<-lP];exact rF hpm
  refine⟨ρ'',h0.trans (λi hi=>⟨by simp only[ρ'',bL (show ¬(nx<=i/\i<nx')by omega)],by simp only[ρ'',bL (show ¬(nx<=i/\i<nx')by omega)]⟩) (zl C.n),hv.sub hag2,by rw[<-hEs];exact hs2.perm hpo,λb hb hA=>Xv hpo b (hsub b hb hA)⟩
 have fin:∀(ρ':Gh) (σo:af cc) (w':World) (v:Value),qC nx ρ ρ'->List.Perm σo (bt.res ρ' (match c.ef with|J=>c.Lo++iO c.wr (cC c.rd R)|O=>cC c.rd R))->Tr ⟨w,al C.C (σi++σr),bC σi⟩ (bC σi) σi w σo w'->
   Rel (al ⟨w,al C.C (σi++σr),bC σi⟩ σo) w' (c.v.sub ρ') v->K' (a.put o.dst v) w':=λρ' σo w' v q1 q2 q3 q4=>by
  obtain⟨ρ'',g1,g2,g3,g4⟩:=step ρ' σo w' q1 q2 q3;have hR':bt.ic (λi=>p i\/(nx<=i/\i<nx')) (c.R R):=by
   unfold Rc.R;cases hce:c.ef with
   |false=>exact h3.mono λi hi=> .inl hi
   |true=>exact λq hq=>(zP.1 hq).elim (hLo' hce q) λhq=>⟨.inl (h3 q (z8.1 hq).1).1,(h3 q (z8.1 hq).1).2.mono λi hi=> .inl hi⟩
  refine hK _ _ (by cases o.dst<;>rfl) ?_;rw[g2]at q4;cases hdo:o.dst with
  |none=>exact⟨E,ρ'',λt d ht=>h1 t d (by unfold Rc.F at ht;rw[hdst,hdo]at ht;simpa using ht),λq hq=>(h2 q hq).mono λi hi=> .inl hi,hR',g1,g3⟩
  |some t=>
   refine⟨(t,c.v)::E,ρ'',λs d hs=> ?_,λq hq=> ?_,hR',g1,?_⟩
   ·unfold Rc.F at hs;rw[hdst,hdo]at hs;by_cases hts:t=s
    ·subst hts;rw[bB rfl]at hs;cases hs;exact Env.fh _ _ _
    ·rw[bL (λe=>hts (zF.inj e))]at hs;rw[Env.dV _ _ hts];exact h1 s d hs
   ·rcases zx.1 hq with rfl|hq
    ·exact hv'
    ·exact(h2 q hq).mono λi hi=> .inl hi
   ·rw[hdo]at hd;exact g3.put hd (q4.mono λb hb hA=>⟨g4 b hb hA,rfl⟩)
 unfold Oper.wp;subst hσi;rcases hloc ρ _ w a.eval hgood hops with ⟨v,w',av,σ',⟨ρ',q1,q2,q3⟩,r1,r2,r3⟩|⟨w',σ',⟨ρ',q1,q2,q3⟩,r1,r2⟩|⟨g,args,r1,r2⟩
 ·rw[r2];rcases q2 with q2|⟨q2,_⟩
  ·cases q2;exact fin ρ' σ' w' v q1 q3 r1 r3
  ·cases q2
 ·rw[r2];rcases q2 with q2|⟨_,q2⟩
  ·cases q2
  ·exact fin ρ' σ' w' undef q1 q3 r1 (by rw[q2,bV];exact .lit _)
 ·rw[r1];refine Calls.mono r2 λee w' ⟨v,av,σ',q0,⟨ρ',q1,q2,q3⟩,s1,s2⟩=> ?_;subst q0;rcases q2 with q2|⟨q2,_⟩
  ·cases q2;exact fin ρ' σ' w' v q1 q3 s1 s2
  ·cases q2
end
section
variable {P:Program} {o:Oper} {C:Cx} {N:aa AV->af cc->Prop}
def Ye.Zq{E:Env}{R:bt}{ρ:Gh}{id t:Nat}{l:af (U.de t)}(hr:gH R id=V (.row t l))
  (h:Ye P (Env.sub ρ (E.map λp=>(p.1,p7 id t l 3 p.2))) (bt.res ρ ((lH id R).map λp=>(p.1,Ao id t l p.2))) o C N):Ye P (E.sub ρ) (bt.res ρ R) o C N:=λw y hg hρ=>by
 obtain⟨i,hi1,_,hi3⟩:=eR hr;have hres:=iG (ρ:=ρ) hi1;have hd:Hd (al C (bt.res ρ R)) [.row (ρ.v id) t l] w:=⟨λr hr=>by
   rw[zo]at hr;rw[hr];exact hg.res _ (List.mem_of_getElem? hres),λb hb hA=>hA.2 (by
   obtain⟨r,h1,h2⟩:=bQ.1 hb;rw[zo]at h1;rw[h1]at h2;exact bQ.2 ⟨_,List.mem_of_getElem? hres,h2⟩)⟩
 have hle:=Ri (C:=C) hres hg;have hbk:bC (bt.res ρ ((lH id R).map λp=>(p.1,Ao id t l p.2)))=bC ((bt.res ρ R).eraseIdx i):=by
  rw[<-CV,<-hi3];unfold bC bt.res;rw[yt,List.filterMap_map,List.filterMap_map]
  congr 1
  funext p
  obtain⟨q,rr⟩:=p;cases rr<;>rfl
 have hal:∀b,(al C (bt.res ρ R) b\/b∈bC [cc.row (ρ.v id) t l])->al C (bt.res ρ ((lH id R).map λp=>(p.1,Ao id t l p.2))) b:=λb hb=>by
  have:=hle b hb;exact⟨this.1,by rw[hbk];exact this.2⟩
 have hrel:∀{d:AV} {v:Value},Rel (al C (bt.res ρ R)) w (d.sub ρ) v->Rel (al C (bt.res ρ ((lH id R).map λp=>(p.1,Ao id t l p.2)))) w ((p7 id t l 3 d).sub ρ) v:=λh=>
  (IK hd 3 h).mono λb _ hA=>⟨hal b hA,rfl⟩
 have hsubb:∀b∈bC (bt.res ρ ((lH id R).map λp=>(p.1,Ao id t l p.2))),b∈bC (bt.res ρ R):=λb hb=>by
  rw[hbk]at hb;exact rO (λr hr=>(wT _ _).subset hr) b hb
 have hg':Good C (bt.res ρ ((lH id R).map λp=>(p.1,Ao id t l p.2))) w:=by
  refine⟨hg.kept,λrr hrr=> ?_,?_,λb hb=>hg.own b (hsubb b hb)⟩
  ·obtain⟨p,h1,rfl⟩:=zM.1 hrr;obtain⟨p',h2,rfl⟩:=zM.1 h1;have hm:p'.2.res ρ p'.1∈bt.res ρ R:=by
    rw[hi3]at h2;exact zM.2 ⟨p',List.mem_of_mem_eraseIdx h2,rfl⟩
   have h3:=hg.res _ hm;obtain⟨q,rr⟩:=p';cases rr with
   |row t' l'=>exact h3.mono (λb _ hA=>⟨hal b (.inl hA),rfl⟩) (λ_ _=>rfl)
   |box T cs=>
    obtain⟨us,h4,h5⟩:=h3;refine⟨us,h4,by simpa using h5.1,λj av v q1 q2=> ?_⟩;rw[yt,ye]at q1;obtain⟨c,hc,rfl⟩:=zn.1 q1;exact hrel (h5.2 j (c.sub ρ) v (by rw[ye,hc];rfl) q2)
  ·rw[hbk];exact hg.Ju.sublist ((wT _ _).filterMap _)
 have hops:RU (al C (bt.res ρ ((lH id R).map λp=>(p.1,Ao id t l p.2)))) w (Env.sub ρ (E.map λp=>(p.1,p7 id t l 3 p.2))) y:=λx u hx=>by
  cases x with
  |tmp k=>
   have hx':Env.get (Env.sub ρ (E.map λp=>(p.1,p7 id t l 3 p.2))) k=V u:=hx;rw[Env.fo,gX]at hx';obtain⟨d',h1,rfl⟩:=zn.1 hx';obtain⟨d,h2,rfl⟩:=zn.1 h1;exact hrel (hρ (.tmp k) (d.sub ρ) (by show Env.get (E.sub ρ) k=_;rw[Env.fo,h2];rfl))
  |const v=>exact(hρ (.const v) u hx).mono λb _ hA=>⟨hal b (.inl hA),rfl⟩
  |global g=>exact(hρ (.global g) u hx).mono λb _ hA=>⟨hal b (.inl hA),rfl⟩
  |func f=>exact(hρ (.func f) u hx).mono λb _ hA=>⟨hal b (.inl hA),rfl⟩
 have htr:∀{σ':af cc} {w':World},Tr C (bC (bt.res ρ ((lH id R).map λp=>(p.1,Ao id t l p.2)))) (bt.res ρ ((lH id R).map λp=>(p.1,Ao id t l p.2))) w σ' w'->Tr C (bC (bt.res ρ R)) (bt.res ρ R) w σ' w':=λh=>
  ⟨h.good,⟨h.kp.os,h.kp.tape,h.kp.output,h.kp.drawn,h.kp.size,λk hk hn=>h.kp.block k hk λhx=>hn (hsubb k hx)⟩,λb hb hA=>⟨(h.al b hb (hal b (.inl hA))).1,hA.2⟩⟩
 rcases h w y hg' hops with ⟨v,w',av,σ',h1,h2,h3,h4⟩|⟨w',σ',h1,h2,h3⟩|⟨f,args,h1,h2⟩
 ·exact .inl ⟨v,w',av,σ',h1,htr h2,h3,h4⟩
 ·exact .inr (.inl ⟨w',σ',h1,htr h2,h3⟩)
 ·exact .inr (.inr ⟨f,args,h1,h2.mono λe w' ⟨v,av,σ',q1,q2,q3,q4⟩=>⟨v,av,σ',q1,q2,htr q3,q4⟩⟩)
def acz(sl:af Nat)(T:ET)(E:Env):Prop:=∀t∈sl,∀d,cU T t=V d->E.get t=V d
def Ye.kW{sl:af Nat}{nx:Nat}{ρ:Gh}:∀(ids:af Nat) (T:ET) (E:Env) (R:bt),acz sl T E->E.cV nx->bt.cV nx R->
  (∀E',acz sl (St.kW ⟨T,R,nx⟩ ids).E E'->E'.cV nx->bt.cV nx (St.kW ⟨T,R,nx⟩ ids).R->Ye P (E'.sub ρ) (bt.res ρ (St.kW ⟨T,R,nx⟩ ids).R) o C N)->Ye P (E.sub ρ) (bt.res ρ R) o C N
 |[],T,E,R,hh,hE,hR,h=>h E hh hE hR
 |i::ids,T,E,R,hh,hE,hR,h=>by
  have e0:St.kW ⟨T,R,nx⟩ (i::ids)=(St.N6 ⟨T,R,nx⟩ i).kW ids:=rfl;rw[e0]at h;have key:∀s:St,s.nx=nx->s=⟨s.E,s.R,nx⟩:=λs hs=>by obtain⟨a,b,c⟩:=s;simp only at hs;rw[hs]
  cases hr:gH R i with
  |none=>
   have e1:St.N6 ⟨T,R,nx⟩ i=⟨T,R,nx⟩:=by unfold St.N6;simp only[hr]
   rw[e1]at h;exact Ye.kW ids T E R hh hE hR h
  |some rr=>
   cases rr with
   |box T0 cs=>
    have e1:St.N6 ⟨T,R,nx⟩ i=⟨T,R,nx⟩:=by unfold St.N6;simp only[hr]
    rw[e1]at h;exact Ye.kW ids T E R hh hE hR h
   |row t l=>
    have e1:St.N6 ⟨T,R,nx⟩ i=⟨emap (p7 i t l 3) T,(lH i R).map λp=>(p.1,Ao i t l p.2),nx⟩:=by unfold St.N6;simp only[hr]
    rw[e1]at h;refine Ye.Zq hr (Ye.kW ids _ _ _ (λk hk d hd=> ?_) (λp hp=> ?_) (λp hp=> ?_) h)
    ·rw[BI]at hd;obtain⟨d',h1,rfl⟩:=zn.1 hd;rw[gX,hh k hk d' h1];rfl
    ·obtain⟨p',h1,rfl⟩:=zM.1 hp;exact rB 3 (hE p' h1)
    ·obtain⟨p',h1,rfl⟩:=zM.1 hp;have h2:=H7 (id:=i) hR p' h1;refine⟨h2.1,?_⟩;obtain⟨q,rr⟩:=p';cases rr with
     |row t' l'=>trivial
     |box T0 cs=>
      intro c hc;obtain⟨c',h3,rfl⟩:=zM.1 hc;exact rB 3 (h2.2 c' h3)
end
def evL(sl:af Nat)(T:ET):Operand->aa AV
 | .tmp t=>match dG t sl with
  |true=>cU T t
  |false=>G
 |x=>LQ T x
def lK(R1:bt)(nx:Nat)(fz:Bool)(e:gq):aa (AV×Bool×bt×Nat):=V (match e.vl nx with
 |some d=>d
 |none=> .lit undef,match e with
 | .val _=>fz
 |_=>J,e.R R1 nx,e.nx nx)
def aeE(P:Program)(F:bu)(o:Oper)(sl:af Nat)(ids:af Nat)(s:St):aa (AV×Bool×bt×Nat):=St.rec (λE1 R1 nx1=>qk o.op P F (evL sl E1) (gH R1) R1 nx1 (lK R1 nx1 (!ids.isEmpty))) (s.kW ids)
def anl(P:Program)(F:bu)(o:Oper)(sl:af Nat)(E:ET)(Rl:bt)(nx:Nat):aa (AV×Bool×bt×Nat):=aeE P F o sl (jm E o.op) ⟨E,Rl,nx⟩
def acZ{α:Type}(P:Program)(F:bu)(o:Oper)(sl:af Nat)(ids:af Nat)(D:AV×Bool×bt×Nat->aa α)(s:St):aa α:=St.rec (λE1 R1 nx1=>qk o.op P F (evL sl E1) (gH R1) R1 nx1 (λe=>D (match e.vl nx1 with
 |some d=>d
 |none=> .lit undef,match e with
 | .val _=>(!ids.isEmpty)
 |_=>J,e.R R1 nx1,e.nx nx1))) (s.kW ids)
def Jw{α:Type}(P:Program)(F:bu)(o:Oper)(sl:af Nat)(E:ET)(Rl:bt)(nx:Nat)(D:AV×Bool×bt×Nat->aa α):aa α:=acZ P F o sl (jm E o.op) D ⟨E,Rl,nx⟩
def HU{α:Type}{P:Program}{F:bu}(hN:dX F){o:Oper}{sl:af Nat}{E:ET}{Rl:bt}{nx:Nat}(D:AV×Bool×bt×Nat->aa α):(anl P F o sl E Rl nx).bind D=Jw P F o sl E Rl nx D:=by
 unfold anl Jw aeE acZ;generalize St.kW ⟨E,Rl,nx⟩ (jm E o.op)=s1;obtain⟨E1,R1,n1⟩:=s1;exact CM D hN ..
def WA:∀(ids:af Nat) (s:St),(s.kW ids).nx=s.nx
 |[],s=>rfl
 |i::ids,s=>by
  show ((s.N6 i).kW ids).nx=s.nx;rw[WA ids];unfold St.N6;split<;>rfl
def amL{P:Program}{F:bu}{o:Oper}{sl:af Nat}{T:ET}{E:Env}{Rl Lo:bt}{nx nx':Nat}{v:AV}{ef:Bool}(hF:iQ P F)(h:anl P F o sl T Rl nx=V (v,ef,Lo,nx'))(hh:acz sl T E)(hE:E.cV nx)(hR:bt.cV nx Rl):
  (∀ρ C,Ye P (E.sub ρ) (bt.res ρ Rl) o C (Nlc nx v Lo ρ))/\(ef=O->∀ρ C,Ye P (E.sub ρ) (bt.res ρ Rl) o C (Nlc nx v Rl ρ)):=by
 unfold anl aeE at h;generalize hs:St.kW ⟨T,Rl,nx⟩ (jm T o.op)=s1 at h;have hnx:s1.nx=nx:=by rw[<-hs,WA]
 obtain⟨E1,R1,n1⟩:=s1;simp only at hnx;subst hnx;have h':qk o.op P F (evL sl E1) (gH R1) R1 n1 (lK R1 n1 (!(jm T o.op).isEmpty))=V (v,ef,Lo,nx'):=h;rw[Q3]at h';have main:∀ρ C (Ro:bt),(∀e:gq,lK R1 n1 (!(jm T o.op).isEmpty) e=V (v,ef,Lo,nx')->e.R R1 n1=Ro)->Ye P (E.sub ρ) (bt.res ρ Rl) o C (Nlc n1 v Ro ρ):=λρ C Ro hRo=>by
  refine Ye.kW (sl:=sl) (jm T o.op) T E Rl hh hE hR λE' hh' hE' hR'=> ?_;rw[hs]at hh' hR' ⊢;have hsee:kR (evL sl E1) (gH R1) n1 E' R1:=⟨λx d hx=>by
   cases x with
   |tmp t=>
    unfold evL at hx;simp only at hx;split at hx
    ·rename_i hm;exact hh' t (fT.1 hm) d hx
    ·cases hx
   |_=>exact hx,λ_ _ h=>h,hE',hR'⟩
  have hst:=KA (o:=o) hF hsee rfl h' ρ C;intro w u hg hρ;have conv:∀a σ',Nx R1 n1 (lK R1 n1 (!(jm T o.op).isEmpty)) (v,ef,Lo,nx') ρ a σ'->Nlc n1 v Ro ρ a σ':=λa σ' ⟨e,q1,q2,q3,q4,ρ',q5,q6,q7⟩=>by
   refine⟨ρ',q5,?_,by rw[<-hRo e q1];exact q7⟩;unfold lK at q1;simp only[zF.injEq,Prod.mk.injEq]at q1;cases hv:e.vl n1 with
   |some d=>
    rw[hv]at q1 q6;left;rw[q6,<-q1.1];rfl
   |none=>
    rw[hv]at q1 q6;right;exact⟨q6,q1.1.symm⟩
  rcases hst w u hg hρ with ⟨v',w',av,σ',h1,h2,h3,h4⟩|⟨w',σ',h1,h2,h3⟩|⟨f,args,h1,h2⟩
  ·exact .inl ⟨v',w',av,σ',conv _ _ h1,h2,h3,h4⟩
  ·exact .inr (.inl ⟨w',σ',conv _ _ h1,h2,h3⟩)
  ·exact .inr (.inr ⟨f,args,h1,h2.mono λe w' ⟨v',av,σ',q1,q2,q3,q4⟩=>⟨v',av,σ',q1,conv _ _ q2,q3,q4⟩⟩)
 refine⟨λρ C=>main ρ C Lo λe he=> ?_,λhef ρ C=>main ρ C Rl λe he=> ?_⟩
 ·unfold lK at he;simp only[zF.injEq,Prod.mk.injEq]at he;exact he.2.2.1
 ·unfold lK at he;simp only[zF.injEq,Prod.mk.injEq]at he;cases e with
  |val d=>
   have hemp:jm T o.op=[]:=by
    have h2:(!(jm T o.op).isEmpty)=O:=by rw[<-hef];exact he.2.1
    simpa using h2
   rw[hemp]at hs;have:(⟨T,Rl,n1⟩:St)=⟨E1,R1,n1⟩:=hs;exact(St.mk.inj this).2.1.symm
  |_=>exact dS (he.2.1.trans hef) (by simp)
def jN(p:Nat->Bool)(n:Nat):AV->Bool:=Nat.rec (λd=>match d with
 | .lit _=>J
 | .sl _ _=>J
 | .rp _ _=>J
 | .own i=>p i
 | .ptr i _=>p i
 | .ra i _ _ _=>p i
 |_=>O) (λ_ ih d=>match d with
 | .lit _=>J
 | .sl _ _=>J
 | .rp _ _=>J
 | .own i=>p i
 | .ptr i _=>p i
 | .ra i _ _ _=>p i
 | .agg cs=>cs.all ih
 | .jo cs=>cs.all ih
 | .fn _ cs=>cs.all ih
 | .fp cs=>cs.all ih) n
def Ey{p:Nat->Bool}:∀(n:Nat) {d:AV},jN p n d=J->ic (λi=>p i=J) d
 |0,d,h=>by
  cases d<;>first|exact .lit _|exact .sl _ _|exact .rp _ _|exact .own _ h|exact .ptr _ _ h|exact .ra _ _ _ _ h|(cases h;done)
 |n+1,d,h=>by
  have hL:∀{cs:af AV},cs.all (jN p n)=J->∀c∈cs,ic (λi=>p i=J) c:=λh c hc=>Ey n (zw.1 h c hc);cases d<;>first|exact .lit _|exact .sl _ _|exact .rp _ _|exact .own _ h|exact .ptr _ _ h|exact .ra _ _ _ _ h|exact .agg _ (hL h)|exact .jo _ (hL h)|exact .fn _ _ (hL h)|exact .fp _ (hL h)
def NC{p:Nat->Prop}:∀(n:Nat) {d:AV},ic p d->∀i∈kV n d,p i
 |0,d,h,i,hi=>by
  cases h<;>simp only[kV,zo,List.not_mem_nil]at hi<;>(subst hi;assumption)
 |n+1,d,h,i,hi=>by
  have hL:∀{cs:af AV},(∀c∈cs,ic p c)->i∈cs.flatMap (kV n)->p i:=λh hi=>by
   obtain⟨c,h1,h2⟩:=xJ.1 hi;exact NC n (h c h1) i h2
  cases h with
  |agg cs h=>exact hL h hi
  |jo cs h=>exact hL h hi
  |fn f cs h=>exact hL h hi
  |own id h=>simp only[kV,zo]at hi;rw[hi];exact h
  |ptr id off h=>simp only[kV,zo]at hi;rw[hi];exact h
  |ra id t m off h=>simp only[kV,zo]at hi;rw[hi];exact h
  |_=>simp[kV]at hi
def GU(sl:af Nat)(T:ET):af Nat:=sl.flatMap λt=>match cU T t with
 |some d=>kV 3 d
 |none=>[]
def acK(R:bt):af Nat:=R.flatMap λq=>q.1::match q.2 with
 | .box _ cs=>cs.flatMap (kV 3)
 | .row _ _=>[]
def ags(al:af Nat)(nx nx' i:Nat):Bool:=dG i al||(yp nx i&&zA i nx')
def okR(al:af Nat)(nx nx':Nat)(R:bt):Bool:=R.all λq=>ags al nx nx' q.1&&match q.2 with
 | .box _ cs=>cs.all (jN (ags al nx nx') 3)
 | .row _ _=>J
def NM{al:af Nat}{nx nx' i:Nat}(h:ags al nx nx' i=J):i∈al\/(nx<=i/\i<nx'):=by
 unfold ags at h;simp only[yC,zi,Nat.ble_eq,Nat.blt_eq]at h;exact h.imp fT.1 id
def asg{al:af Nat}{nx nx':Nat}{R:bt}(h:okR al nx nx' R=J):bt.ic (λi=>i∈al\/(nx<=i/\i<nx')) R:=λq hq=>by
 have:=zw.1 h q hq;simp only[zi]at this;refine⟨NM this.1,?_⟩;obtain⟨i,r⟩:=q;cases r with
 |row t l=>trivial
 |box T cs=>exact λc hc=>(Ey 3 (zw.1 this.2 c hc)).mono λi hi=>NM hi
def aBo(o:Op):Bool:=match o with
 | .move _=>O
 | .assign _=>O
 | .pick _ _ _=>O
 | .unOp _ _ _=>O
 | .nilCheck _=>O
 | .fieldAddr _ _ _=>O
 | .extract _ _=>O
 | .makeFunc _ _ _=>O
 | .alloc _=>O
 |_=>J
def afM(o:Op):Bool:=match o with
 | .call {callee:= .value _, ..}=>J
 |_=>O
def sP(ops:Array Oper)(o:Oper)(E:ET)(R:bt):af Nat:=match aBo o.op with
 |false=>[]
 |true=>match afM o.op with
  |false=>GU (dg ops o) E
  |true=>reach R 3 (GU (dg ops o) E)
def inQ(rd:af Nat)(R:bt):bt:=match rd with
 |[]=>[]
 |rd=>cC rd R
def ach(rd:af Nat)(R:bt):inQ rd R=cC rd R:=by
 cases rd with
 |nil=>exact(wU.2 λp _=>by simp[dG]).symm
 |cons a l=>rfl
def rcB(ops:Array Oper)(o:Oper)(E:ET)(Rl:bt)(nx:Nat)(v:AV)(ef:Bool)(Lo:bt)(nx':Nat):Bool:=(λal=>yp nx nx'&&(!ef||efk o)&&jN (ags al nx nx') 4 v&&(!ef||okR al nx nx' Lo)) (GU (dg ops o) E++acK Rl)
def akI(e:AV->AV->Bool)(l:af AV):af AV->Bool:=List.rec (λm=>match m with
 |[]=>J
 |_=>O) (λa _ ih m=>match m with
 |b::m=>e a b&&ih m
 |[]=>O) l
def atZ(ih:AV->AV->Bool)(a b:AV):Bool:=match a,b with
 | .own i, .own j=>zc i j
 | .ptr i o, .ptr j p=>zc i j&&zc o p
 | .fn (.func f) cs, .fn (.func g) ds=>zc f g&&akI ih cs ds
 |_,_=>O
def eqA(n:Nat):AV->AV->Bool:=Nat.rec (λ_ _=>O) (λ_ ih=>atZ ih) n
def auV(a b:IR):Bool:=match a,b with
 | .box T cs, .box T' ds=>zc T T'&&akI (eqA 2) cs ds
 |_,_=>O
def aga(l:bt):bt->Bool:=List.rec (λm=>match m with
 |[]=>J
 |_=>O) (λa _ ih m=>match m with
 |b::m=>zc a.1 b.1&&auV a.2 b.2&&ih m
 |[]=>O) l
def Mo{e:AV->AV->Bool}(he:∀a b,e a b=J->a=b):∀{l m:af AV},akI e l m=J->l=m
 |[],[],_=>rfl
 |[],_::_,h=>by cases h
 |_::_,[],h=>by cases h
 |a::l,b::m,h=>by
  change (e a b&&akI e l m)=J at h;rw[zi]at h;rw[he a b h.1,Mo he h.2]
def ac4:∀(n:Nat) {a b:AV},eqA n a b=J->a=b
 |0,a,b,h=>by cases h
 |n+1,a,b,h=>by
  change atZ (eqA n) a b=J at h;unfold atZ at h;split at h
  ·rw[gZ h]
  ·rw[zi]at h;rw[gZ h.1,gZ h.2]
  ·rw[zi]at h;rw[gZ h.1,Mo (λa b=>ac4 n) h.2]
  ·cases h
def PM:∀{l m:bt},aga l m=J->l=m
 |[],[],_=>rfl
 |[],_::_,h=>by cases h
 |_::_,[],h=>by cases h
 |(i,a)::l,(j,b)::m,h=>by
  change (zc i j&&auV a b&&aga l m)=J at h;simp only[zi]at h;have h1:=gZ h.1.1;subst h1;have h2:=h.1.2;unfold auV at h2;split at h2
  ·rw[zi]at h2;rw[gZ h2.1,Mo (λa b=>ac4 2) h2.2,PM h.2]
  ·cases h2
def trim(K rd:af Nat)(Rl Lo:bt):af Nat×bt:=match K.filter λi=>dG i rd with
 |[]=>(rd,Lo)
 |k::K=>match aga (cC (k::K) Lo) (cC (k::K) Rl)with
  |true=>(rd.filter λi=> !dG i (k::K),iO (k::K) Lo)
  |false=>(rd,Lo)
def amZ(K rd:af Nat)(R Lo:bt):(∀i∈(trim K rd (cC rd R) Lo).1,i∈rd)/\(∀q∈(trim K rd (cC rd R) Lo).2,q∈Lo)/\List.Perm Lo ((trim K rd (cC rd R) Lo).2++iO (trim K rd (cC rd R) Lo).1 (cC rd R)):=by
 have h0:iO rd (cC rd R)=[]:=wU.2 λp hp=>by
  have:dG p.1 rd=J:=(z8.1 hp).2;rw[this];simp
 have triv:(∀i∈rd,i∈rd)/\(∀q∈Lo,q∈Lo)/\List.Perm Lo (Lo++iO rd (cC rd R)):=⟨λ_ h=>h,λ_ h=>h,by rw[h0,yu]⟩;unfold trim;split
 ·omega
 ·rename_i k K' hK;split
  case h_2=>exact triv
  rename_i he;have he:=PM he;refine⟨λi hi=>(z8.1 hi).1,λq hq=>(z8.1 hq).1,?_⟩;have e1:iO (rd.filter λi=> !dG i (k::K')) (cC rd R)=cC (k::K') (cC rd R):=by
   refine wL λp hp=> ?_;have hp:dG p.1 rd=J:=(z8.1 hp).2;cases hm:dG p.1 (k::K')with
   |true=>
    rw[jM.2 λhx=> ?_];rfl;simp_all
   |false=>
    rw[fT.2 (z8.2 ⟨fT.1 hp,by rw[hm];rfl⟩)];rfl
  rw[e1,<-he];exact(List.perm_append_comm.trans (List.filter_append_perm _ _)).symm
def partner(ops:Array Oper)(ps:af (Nat×Nat))(i:Nat):af Nat:=ps.flatMap λp=>match zc p.1 i with
 |true=>match ops[p.2]? with
  |some o=>match afM o.op with
   |true=>[]
   |false=>dg ops o
  |none=>[]
 |false=>match zc p.2 i with
  |true=>match ops[p.1]? with
   |some o=>match afM o.op with
    |true=>[]
    |false=>dg ops o
   |none=>[]
  |false=>[]
def adV(ops:Array Oper)(ps:af (Nat×Nat))(cs:af Rc)(E:ET):af Nat:=match ps with
 |[]=>[]
 |p::ps=>GU (partner ops (p::ps) (zY cs)) E
def dK2(o:Oper)(sl:af Nat)(cs:af Rc)(rd:af Nat)(E:ET)(R:bt){α:Type}(ih:af Rc->St->(af Rc->St->aa α)->aa α)(k:af Rc->St->aa α)(v:AV)(ef:Bool)(nx':Nat)(t:af Nat×bt):aa α:=
 ih (cs++[⟨o.dst,v,sl,rd,t.1,ef,t.2⟩]) ⟨Ak o.dst v E,match ef with
  |true=>t.2++iO t.1 R
  |false=>R,nx'⟩ k
def dK(ops:Array Oper)(ps:af (Nat×Nat))(o:Oper)(cs:af Rc)(rd:af Nat)(E:ET)(R Rl:bt)(nx:Nat){α:Type}(ih:af Rc->St->(af Rc->St->aa α)->aa α)(k:af Rc->St->aa α)(x:AV×Bool×bt×Nat):aa α:=
 match rcB ops o E Rl nx x.1 x.2.1 x.2.2.1 x.2.2.2 with
 |true=>dK2 o (dg ops o) cs rd E R ih k x.1 x.2.1 x.2.2.2 (trim (adV ops ps cs E) rd Rl x.2.2.1)
 |false=>G
def ayi{α:Type}(P:Program)(F:bu)(ops:Array Oper)(ps:af (Nat×Nat))(o:Oper)(ih:af Rc->St->(af Rc->St->aa α)->aa α)(cs:af Rc)(k:af Rc->St->aa α)(E:ET)(R:bt)(nx:Nat)(rd:af Nat)(Rl:bt):aa α:=
 Jw P F o (dg ops o) E Rl nx (dK ops ps o cs rd E R Rl nx ih k)
def aHj{α:Type}(P:Program)(F:bu)(ops:Array Oper)(ps:af (Nat×Nat))(o:Oper)(ih:af Rc->St->(af Rc->St->aa α)->aa α)(cs:af Rc)(k:af Rc->St->aa α)(s:St):aa α:=
 St.rec (λE R nx=>(λrd=>ayi P F ops ps o ih cs k E R nx rd (inQ rd R)) (sP ops o E R)) s
def dNo{α:Type}(ops:Array Oper)(o:Oper)(ih:af Rc->St->(af Rc->St->aa α)->aa α)(cs:af Rc)(k:af Rc->St->aa α)(s:St):aa α:=
 ih (cs++[⟨o.dst, .lit undef,dg ops o,[],[],O,[]⟩]) ⟨Ak o.dst (.lit undef) s.E,s.R,s.nx⟩ k
def Y8{α:Type}(P:Program)(F:bu)(n:Nat)(ops:Array Oper)(ps:af (Nat×Nat))(o:Oper)(ih:af Rc->St->(af Rc->St->aa α)->aa α)(cs:af Rc)(s:St)(k:af Rc->St->aa α):aa α:=match Qp n o.dst with
 |true=>gate ops o s (aHj P F ops ps o ih cs k) (dNo ops o ih cs k)
 |false=>G
def dgo{α:Type}(P:Program)(F:bu)(n:Nat)(ops:Array Oper)(ps:af (Nat×Nat))(l:af Oper):af Rc->St->(af Rc->St->aa α)->aa α:=List.rec (λcs s k=>k cs s) (λo _ ih=>Y8 P F n ops ps o ih) l
def aef(l:af Oper):Nat->Bool:=List.rec (λ_=>J) (λo _ ih i=>(o.after.toList.all λe=> !Region.binds .any e||zA e.on i)&&ih (i+1)) l
def On:∀{l:af Oper} {k:Nat},aef l k=J->∀(i:Nat) o,l[i]? =V o->∀e∈o.after.toList,Region.binds .any e=J->e.on<k+i
 |[],k,_,i,o,h,_,_,_=>by cases h
 |o0::l,k,hb,i,o,h,e,he,hbe=>by
  change ((o0.after.toList.all λe=> !Region.binds .any e||zA e.on k)&&aef l (k+1))=J at hb;simp only[zi]at hb;cases i with
  |zero=>
   cases h;have:=zw.1 hb.1 e he;rw[hbe]at this;simpa using this
  |succ i=>
   have:=On hb.2 i o h e he hbe;omega
def Kg{α:Type}(P:Program)(F:bu)(n:Nat)(ops:Array Oper)(s:St)(k:St->aa α):aa α:=match P.follows .mixedOrders&&aef ops.toList 0 with
 |true=>match plan ops with
  |some ps=>dgo P F n ops ps ops.toList [] s λcs s'=>match afD ps cs with
   |true=>k s'
   |false=>G
  |none=>G
 |false=>G
def Il(ops:Array Oper)(o:Oper)(f:Fr)(wn:Bool):Prop:=match o.guard with
 |none=>wn=J
 |some (j,want)=>∃t,(ops[j]?).bind (·.dst)=V t/\((∃b,f t=V (.lit (.bool b))/\wn=(b==want))\/(∃vs,f t=V (.lit (.tuple vs))/\wn=O))
structure Cu (P:Program) (n:Nat) (ops:Array Oper) (o:Oper) (f:Fr) (R:bt) (nx:Nat) (c:Rc) (nx':Nat):Prop where
 dst:c.dst=o.dst
 sl:c.sl=dg ops o
 ef:c.ef=J->efk o=J
 dn:Qp n o.dst=J
 le:nx<=nx'
 run:(Il ops o f O/\c.v= .lit undef/\c.ef=O)\/(Il ops o f J/\∀ρ C,Ye P ((A8 f c.sl).sub ρ) (bt.res ρ (cC c.rd R)) o C (Nlc nx c.v (match c.ef with|J=>c.Lo++iO c.wr (cC c.rd R)|O=>cC c.rd R) ρ))
 wr:∀i∈c.wr,i∈c.rd
 lin:bt.cV nx (cC c.rd R)
 lv:cV nx' c.v
 lo:c.ef=J->bt.cV nx' c.Lo
 ids:∀p:Nat->Prop,(∀t∈c.sl,∀d,f t=V d->ic p d)->bt.ic p (cC c.rd R)->ic (λi=>p i\/(nx<=i/\i<nx')) c.v/\(c.ef=J->bt.ic (λi=>p i\/(nx<=i/\i<nx')) c.Lo)
inductive Ch (P:Program) (n:Nat) (ops:Array Oper):Fr->bt->Nat->List Oper->List Rc->Fr->bt->Nat->Prop
 |nil (f:Fr) (R:bt) (nx:Nat):Ch P n ops f R nx [] [] f R nx
 |cons {f f':Fr} {R R':bt} {nx nx1 nx':Nat} {o:Oper} {os:List Oper} {c:Rc} {cs:List Rc} (h:Cu P n ops o f R nx c nx1) (hs:Ch P n ops (c.F f) (c.R R) nx1 os cs f' R' nx'):Ch P n ops f R nx (o::os) (c::cs) f' R' nx'
def as5{α:Type}{r:α}{ops:Array Oper}{o:Oper}{s:St}{yes no:St->aa α}(h:gate ops o s yes no=V r){f:Fr}(hf:∀t d,cU s.E t=V d->f t=V d):∃s':St,s'.R=s.R/\s'.nx=s.nx/\(∀t d,cU s'.E t=V d->f t=V d)/\
  ((Il ops o f J/\yes s'=V r)\/(Il ops o f O/\no s'=V r)):=by
 unfold gate at h;unfold Il;split at h
 ·rename_i hg;exact⟨s,rfl,rfl,hf, .inl ⟨by first|rw[hg]|rfl,h⟩⟩
 ·rename_i j want hg;split at h
  ·cases h
  ·rename_i t hj;have hput:∀b,cU s.E t=V (.lit (.bool b))->∀k d,cU (s.gi t b).E k=V d->f k=V d:=λb hb k d hk=>by
    have hk':cU (nI t (.b b) s.E) k=V d:=hk;rcases sL hk' with ⟨rfl,rfl⟩|⟨_,h2⟩
    ·simp_all
    ·simp_all
   split at h
   ·rename_i b hb;have hfb:=hf _ _ hb;split at h
    ·split at h
     ·exact⟨s.gi t J,rfl,rfl,hput _ hb, .inl ⟨by(try rw[hg]);exact⟨t,hj, .inl ⟨_,hfb,rfl⟩⟩,h⟩⟩
     ·exact⟨s.gi t J,rfl,rfl,hput _ hb, .inr ⟨by(try rw[hg]);exact⟨t,hj, .inl ⟨_,hfb,rfl⟩⟩,h⟩⟩
    ·split at h
     ·exact⟨s.gi t O,rfl,rfl,hput _ hb, .inr ⟨by(try rw[hg]);exact⟨t,hj, .inl ⟨_,hfb,rfl⟩⟩,h⟩⟩
     ·exact⟨s.gi t O,rfl,rfl,hput _ hb, .inl ⟨by(try rw[hg]);exact⟨t,hj, .inl ⟨_,hfb,rfl⟩⟩,h⟩⟩
   ·rename_i vs hb;exact⟨s,rfl,rfl,hf, .inr ⟨by(try rw[hg]);exact⟨t,hj, .inr ⟨_,hf _ _ hb,rfl⟩⟩,h⟩⟩
   ·cases h
def ac3{dst:aa Nat}{v:AV}{E:ET}{f:Fr}{c:Rc}(hc:c.dst=dst)(hv:c.v=v)(hf:∀t d,cU E t=V d->f t=V d):∀t d,cU (Ak dst v E) t=V d->c.F f t=V d:=λt d h=>by
 unfold Rc.F;rw[hc,hv];cases dst with
 |none=>simpa using hf t d h
 |some s=>
  rcases sL h with ⟨rfl,rfl⟩|⟨h1,h2⟩
  ·simp
  ·rw[bL (λe=>h1 (zF.inj e))];simp_all
def Ye.mono{P:Program}{C:Cx}{E:Env}{σ:af cc}{o:Oper}{N N':aa AV->af cc->Prop}(h:Ye P E σ o C N)(hN:∀a σ',N a σ'->N' a σ'):Ye P E σ o C N':=λw u hg hρ=>by
 rcases h w u hg hρ with ⟨v,w',av,σ',h1,h2,h3⟩|⟨w',σ',h1,h2,h3⟩|⟨f,args,h1,h2⟩
 ·exact .inl ⟨v,w',av,σ',hN _ _ h1,h2,h3⟩
 ·exact .inr (.inl ⟨w',σ',hN _ _ h1,h2,h3⟩)
 ·exact .inr (.inr ⟨f,args,h1,Calls.mono h2 λe w' ⟨v,av,σ',q1,q2,q3⟩=>⟨v,av,σ',q1,hN _ _ q2,q3⟩⟩)
def Tv{α:Type}{r:α}{P:Program}{F:bu}{n:Nat}{ops:Array Oper}{ps:af (Nat×Nat)}(hF:iQ P F)(hN:dX F){k:af Rc->St->aa α}:∀(l:af Oper) {cs:af Rc} {s:St} {f:Fr},dgo P F n ops ps l cs s k=V r->(∀t d,cU s.E t=V d->f t=V d)->(∀t d,f t=V d->cV s.nx d)->bt.cV s.nx s.R->
  ∃(cs':af Rc) (s':St) (f':Fr),k (cs++cs') s'=V r/\Ch P n ops f s.R s.nx l cs' f' s'.R s'.nx/\(∀t d,cU s'.E t=V d->f' t=V d)
 |[],cs,s,f,h,hf,_,_=>⟨[],s,f,by rw[yu];exact h, .nil f s.R s.nx,hf⟩
 |o::l,cs,s,f,h,hf,hfl,hR=>by
  change Y8 P F n ops ps o (dgo P F n ops ps l) cs s k=V r at h;unfold Y8 at h;split at h
  case h_2=>cases h
  rename_i hd;obtain⟨s1,e1,e2,hf1,⟨hg,h1⟩|⟨hg,h1⟩⟩:=as5 h hf
  ·obtain⟨E,R,nx⟩:=s1;obtain⟨E0,R0,nx0⟩:=s;simp only at e1 e2 hf1;subst e1 e2;change Jw P F o (dg ops o) E (inQ (sP ops o E R) R) nx (dK ops ps o cs (sP ops o E R) E R (inQ (sP ops o E R) R) nx (dgo P F n ops ps l) k)=V r at h1;rw[<-HU hN]at h1;generalize hrd:sP ops o E R=rd at h1;obtain⟨⟨v,ef,Lo,nx'⟩,h2,h3⟩:=zu.1 h1;unfold dK at h3;split at h3
   case h_2=>cases h3
   rename_i hb;rw[ach]at h2 hb;simp only at h3 hb;unfold rcB at hb;simp only[zi,Nat.ble_eq,yC]at hb;obtain⟨⟨⟨hb1,hb2⟩,hb3⟩,hb4⟩:=hb;have hin:bt.cV nx (cC rd R):=λq hq=>hR q (z8.1 hq).1;have hlE:(A8 f (dg ops o)).cV nx:=λq hq=>by
    obtain⟨t,_,ht⟩:=List.mem_filterMap.1 hq;obtain⟨d,hd1,hd2⟩:=zn.1 ht;rw[<-hd2];exact hfl t d hd1
   obtain⟨y1,y2⟩:=amL hF h2 (E:=A8 f (dg ops o)) (λt ht d hdd=>Mf ht (hf1 t d hdd)) hlE hin;have hal:∀p:Nat->Prop,(∀t∈dg ops o,∀d,f t=V d->ic p d)->bt.ic p (cC rd R)->∀i∈GU (dg ops o) E++acK (cC rd R),p i:=λp hp1 hp2 i hi=>by
    rcases zP.1 hi with hi|hi
    ·obtain⟨t,ht,hi⟩:=xJ.1 hi;split at hi
     ·rename_i d hdd;exact NC 3 (hp1 t ht d (hf1 t d hdd)) i hi
     ·cases hi
    ·obtain⟨q,hq,hi⟩:=xJ.1 hi;obtain⟨g1,g2⟩:=hp2 q hq;rcases zx.1 hi with rfl|hi
     ·exact g1
     ·obtain⟨j,rr⟩:=q;cases rr with
      |row t l=>cases hi
      |box T cs=>
       obtain⟨c,hc,hi⟩:=xJ.1 hi;exact NC 3 (g2 c hc) i hi
   obtain⟨t1,t2,t3⟩:=amZ (adV ops ps cs E) rd R Lo;rw[ach]at h3;generalize trim (adV ops ps cs E) rd (cC rd R) Lo=tr at h3 t1 t2 t3;obtain⟨wr,Lo'⟩:=tr;have hids:∀p:Nat->Prop,(∀t∈dg ops o,∀d,f t=V d->ic p d)->bt.ic p (cC rd R)->ic (λi=>p i\/(nx<=i/\i<nx')) v/\(ef=J->bt.ic (λi=>p i\/(nx<=i/\i<nx')) Lo'):=λp hp1 hp2=>
    ⟨(Ey 4 hb3).mono λi hi=>(NM hi).imp (hal p hp1 hp2 i) id,λhe q hq=>((asg (hb4.resolve_left (by rw[he];simp))).mono λi hi=>hi.imp (hal p hp1 hp2 i) id) q (t2 q hq)⟩
   obtain⟨g1,g2⟩:=hids (λi=>i<nx) (λt _ d hdd=>hfl t d hdd) hin.lts;have hlt:∀i,(i<nx\/(nx<=i/\i<nx'))->i<nx':=λi hi=>au;have hfact:Cu P n ops o f R nx ⟨o.dst,v,dg ops o,rd,wr,ef,Lo'⟩ nx':=⟨rfl,rfl,λhe=>hb2.resolve_left (by simp only at he;rw[he];simp),hd,hb1, .inr ⟨hg,λρ C=>by
     cases ef with
     |true=>exact Ye.mono (y1 ρ C) λa σ' ⟨ρ',z1,z2,z3⟩=>⟨ρ',z1,z2,z3.trans (rF t3)⟩
     |false=>exact y2 rfl ρ C⟩,t1,hin,g1.mono hlt,λhe=>(bt.ic.mono (g2 he) hlt).sU,hids⟩
   have hR':bt.cV nx' (Rc.R ⟨o.dst,v,dg ops o,rd,wr,ef,Lo'⟩ R):=by
    cases ef with
    |false=>exact hR.mono hb1
    |true=>exact λq hq=>(zP.1 hq).elim (λhq=>((bt.ic.mono (g2 rfl) hlt).sU) q hq) λhq=>(hR.mono hb1) q (z8.1 hq).1
   have h4:dgo P F n ops ps l (cs++[⟨o.dst,v,dg ops o,rd,wr,ef,Lo'⟩]) ⟨Ak o.dst v E,Rc.R ⟨o.dst,v,dg ops o,rd,wr,ef,Lo'⟩ R,nx'⟩ k=V r:=h3;obtain⟨cs',s',f',q1,q2,q3⟩:=Tv hF hN l (f:=Rc.F ⟨o.dst,v,dg ops o,rd,wr,ef,Lo'⟩ f) h4 (ac3 rfl rfl hf1) (λt d hdd=>by
    unfold Rc.F at hdd;split at hdd
    ·cases hdd;exact g1.mono hlt
    ·exact cV.mono (hfl t d hdd) hb1) hR'
   exact⟨_::cs',s',f',by simpa using q1, .cons hfact q2,q3⟩
  ·obtain⟨E,R,nx⟩:=s1;obtain⟨E0,R0,nx0⟩:=s;subst e1 e2;have hin:bt.cV nx (cC [] R):=λq hq=>hR q (z8.1 hq).1;have hfact:Cu P n ops o f R nx ⟨o.dst, .lit undef,dg ops o,[],[],false,[]⟩ nx:=⟨rfl,rfl,λh=>(by cases h),hd,zl _, .inl ⟨hg,rfl,rfl⟩,λ_ h=>(by cases h),hin, .lit _,λh=>(by cases h),λp _ _=>⟨.lit _,λh=>(by cases h)⟩⟩;have h2:dgo P F n ops ps l (cs++[⟨o.dst, .lit undef,dg ops o,[],[],O,[]⟩]) ⟨Ak o.dst (.lit undef) E,R,nx⟩ k=V r:=h1;obtain⟨cs',s',f',q1,q2,q3⟩:=Tv hF hN l (f:=Rc.F ⟨o.dst, .lit undef,dg ops o,[],[],O,[]⟩ f) h2 (ac3 rfl rfl hf1) (λt d hdd=>by
    unfold Rc.F at hdd;split at hdd
    ·cases hdd;exact .lit _
    ·exact hfl t d hdd) hR
   exact⟨_::cs',s',f',by simpa using q1, .cons hfact q2,q3⟩
section
variable {P:Program} {n:Nat} {ops:Array Oper}
def Ch.idx{f f':Fr}{R R':bt}{nx nx':Nat}{os:af Oper}{cs:af Rc}(h:Ch P n ops f R nx os cs f' R' nx'):zY cs=zY os/\f'=hU cs (zf (zY cs) J) f/\R'=iq cs (zf (zY cs) J) R/\
  ∃g:Nat->Nat,g 0=nx/\g os.length=nx'/\(∀i,i<zY os->g i<=g (i+1))/\∀(i:Nat) o c,os[i]? =V o->cs[i]? =V c->Cu P n ops o (hU (cs.take i) (zf i J) f) (iq (cs.take i) (zf i J) R) (g i) c (g (i+1)):=by
 induction h with
 |nil f R nx=>exact⟨rfl,rfl,rfl,λ_=>nx,rfl,rfl,λi hi=>by simp at hi,λi o c h=>by cases h⟩
 |@cons f f' R R' nx nx1 nx' o os c cs h hs ih=>
  obtain⟨h1,h2,h3,g,g0,g1,g2,g3⟩:=ih;refine⟨by simp[h1],by rw[h2];rfl,by rw[h3];rfl,λi=>match i with|0=>nx|i+1=>g i,rfl,g1,λi hi=> ?_,λi o' c' q1 q2=> ?_⟩
  ·cases i with
   |zero=>show nx<=g 0;rw[g0];exact h.le
   |succ i=>exact g2 i (by simpa using hi)
  ·cases i with
   |zero=>cases q1;cases q2;show Cu P n ops o f R nx c (g 0);rw[g0];exact h
   |succ i=>exact g3 i o' c' q1 q2
def ado{g:Nat->Nat}{N:Nat}(h:∀i,i<N->g i<=g (i+1)):∀i j,i<=j->j<=N->g i<=g j:=λi j hij hj=>by
 induction j with
 |zero=>
  have:i=0:=au;subst this;exact zl _
 |succ j ih=>
  grind
def sg:af Bool->Nat
 |[]=>0
 |b::bs=>(match b with|J=>0|O=>1)+sg bs
def Rf:∀{bs:af Bool} {i:Nat},bs[i]? =V O->sg bs=sg (bs.set i J)+1
 |[],_,h=>by cases h
 |b::bs,0,h=>by
  simp only[List.getElem?_cons_zero,zF.injEq]at h;subst h;show 1+sg bs=(0+sg bs)+1;omega
 |b::bs,i+1,h=>by
  have:=Rf (bs:=bs) (i:=i) (by simpa using h);cases b with
  |true=>
   show 0+sg bs=(0+sg (bs.set i J))+1;omega
  |false=>
   show 1+sg bs=(1+sg (bs.set i J))+1;omega
def Py:∀N:Nat,sg (zf N O)=N
 |0=>rfl
 |N+1=>by rw[yP];show 1+sg (zf N O)=N+1;rw[Py N];omega
def JY:∀{bs:af Bool},sg bs=0->bs=zf (zY bs) J
 |[],_=>rfl
 |b::bs,h=>by
  cases b with
  |true=>rw[yw,yP,<-JY (bs:=bs) (by have:0+sg bs=0:=h;omega)]
  |false=>have:1+sg bs=0:=h;omega
def O6:∀{bs:af Bool},sg bs≠0->∃i:Nat,bs[i]? =V O/\∀j,j<i->bs[j]? =V J
 |[],h=>dS rfl h
 |b::bs,h=>by
  cases b with
  |false=>exact⟨0,rfl,λj hj=>au⟩
  |true=>
   obtain⟨i,h1,h2⟩:=O6 (bs:=bs) (λe=>h (by show 0+sg bs=0;omega));refine⟨i+1,h1,λj hj=> ?_⟩;cases j with
   |zero=>rfl
   |succ j=>exact h2 j au
def mem_ready{listed:Array Bool}{i:Nat}:i∈Region.ready .any ops listed↔i<ops.size/\listed.getD i J=O/\∃o,ops[i]? =V o/\∀e∈o.after.toList,Region.binds .any e=J->listed.getD e.on O=J:=by
 unfold Region.ready;simp only[z8,List.mem_range,zi,Bool.not_eq_true'];refine and_congr_right λhi=>and_congr_right λ_=> ?_;rw[y9 hi];simp only[yI,Option.getD_some,zF.injEq,exists_eq_left'];rw[Array.all_eq_true'];constructor
 ·intro h e he hb;have:=h e (by simpa using he);rw[hb]at this
  assumption
 ·intro h e he;cases hb:Region.binds .any e with
  |false=>rfl
  |true=>simpa using h e (by simpa using he) hb
def BX{listed:Array Bool}{i:Nat}(hi:i<listed.size):listed.getD i J=O↔listed.toList[i]? =V O:=by
 rw[Array.getD_eq_getD_getElem?,y9 hi,zm (by simpa using hi)];simp
def HN{listed:Array Bool}{i:Nat}:listed.getD i O=J↔listed.toList[i]? =V J:=by
 cases h:listed[i]? with
 |none=>simp[h]
 |some b=>simp[h]
def auS{C:Cg}{cs:af Rc}{f0:Fr}{R0:bt}{nx0:Nat}{g:Nat->Nat}{ds:af Deferred}{Q:Exit->Act->World->Prop}
  (hlen:zY cs=ops.size) (g0:g 0=nx0) (gn:C.n<=nx0) (g2:∀i,i<ops.size->g i<=g (i+1)) (hf:∀(i:Nat) o c,ops.toList[i]? =V o->cs[i]? =V c->Cu P n ops o (hU (cs.take i) (zf i J) f0) (iq (cs.take i) (zf i J) R0) (g i) c (g (i+1)))
  (hcf:∀(i j:Nat) (c d:Rc),j<i->cs[j]? =V c->cs[i]? =V d->CF c d\/∀bs,GY ops.toList bs->(∀o,ops.toList[i]? =V o->Rdy bs o)->bs[j]? =V J)
  (hback:∀(i:Nat) o,ops.toList[i]? =V o->∀e∈o.after.toList,Region.binds .any e=J->e.on<i)
  (hQ:∀a w,a.defers=ds->MtS C n (λi=>i<g ops.size) (hU cs (zf (zY cs) J) f0) (iq cs (zf (zY cs) J) R0) a w->Q .normal a w):
  ∀(fuel:Nat) (listed:Array Bool) (a:Act) (w:World),listed.size=ops.size->sg listed.toList=fuel->GY ops.toList listed.toList->a.defers=ds->
   MtS C n (λx=>x<nx0\/∃j:Nat,listed.toList[j]? =V J/\g j<=x/\x<g (j+1)) (hU cs listed.toList f0) (iq cs listed.toList R0) a w->wpAny P .any ops Q fuel listed a w:=by
 have hmono:=ado (N:=ops.size) (g:=g) g2;intro fuel;induction fuel with
 |zero=>
  intro listed a w hs hc hcl hda hm;have hall:=JY hc;have hfin:Q .normal a w:=by
   refine hQ a w hda ?_;rw[hall,show zY listed.toList=zY cs from by rw[hlen,<-hs];simp]at hm;obtain⟨E,ρ,q1,q2,q3,q5,q4⟩:=hm;have hle:∀i,(i<nx0\/∃j:Nat,(zf (zY cs) J)[j]? =V J/\g j<=i/\i<g (j+1))->i<g ops.size:=λi hi=>by
    rcases hi with hi|⟨j,hj,_,hj3⟩
    ·have:=hmono 0 ops.size (yU _) (zl _);omega
    ·have hj':j<zY cs:=by simpa using (z7.1 hj).1
     have:=hmono (j+1) ops.size au (zl _);omega
   exact⟨E,ρ,q1,λq hq=>(q2 q hq).mono hle,q3.mono hle,q5,q4⟩
  refine⟨?_,hfin⟩;rw[List.eq_nil_iff_forall_not_mem];intro i hi;obtain⟨h1,h2,_⟩:=mem_ready.1 hi;rw[BX au,hall,wW]at h2;split at h2<;>cases h2
 |succ fuel ih=>
  intro listed a w hs hc hcl hda hm;refine⟨λhr=> ?_,λi hi=> ?_⟩
  ·
   exfalso;obtain⟨i,h1,h2⟩:=O6 (bs:=listed.toList) au;have hil:i<listed.size:=by simpa using (z7.1 h1).1
   have hio:i<ops.size:=au;have:i∈Region.ready .any ops listed:=mem_ready.2 ⟨hio,(BX hil).2 h1,ops[i],y9 hio,λe he hb=>HN.2 (h2 _ (hback i ops[i] (by simp[hio]) e he hb))⟩;simp_all
  ·obtain⟨hio,h2,o,ho,hrd⟩:=mem_ready.1 hi;have hil:i<listed.size:=au;have hbi:=(BX hil).1 h2;have hol:ops.toList[i]? =V o:=by simpa using ho
   have hRdy:Rdy listed.toList o:=λe he hb=>HN.1 (hrd e he hb);obtain⟨c,hci⟩:∃c,cs[i]? =V c:=⟨_,zm au⟩;have fact:=hf i o c hol hci;obtain⟨s1,s2,s3,s4⟩:=ae4 (cs:=cs) (bs:=listed.toList) (i:=i) (c:=c) f0 R0 (by rw[hlen,<-hs];simp) hci hbi
    (λj d hji hd hbj=>(hcf i j d c hji hd hci).resolve_right λh=>by
     have:=h listed.toList hcl (λo' ho'=>by rw[hol]at ho';cases ho';exact hRdy);rw[hbj]at this;cases this)
    (λj d hij hd hbj=>((hcf j i c d hij hci hd).resolve_right λh=>by
     have hjo:j<ops.size:=by have:=(z7.1 hd).1;omega
     have:=h listed.toList hcl (λo' ho'=>hcl j o' ho' hbj);rw[hbi]at this;cases this).symm)
   have eset:(listed.setIfInBounds i J).toList=listed.toList.set i J:=Array.toList_setIfInBounds ..;have hcl':GY ops.toList (listed.toList.set i J):=λj o' ho' hbj e he hb=>by
    have hmono':∀k,listed.toList[k]? =V J->(listed.toList.set i J)[k]? =V J:=λk hk=>by
     rw[List.getElem?_set];split
     ·rename_i hik;rw[bB (by simpa using hil)]
     ·exact hk
    by_cases hij:i=j
    ·subst hij;rw[hol]at ho';cases ho';exact hmono' _ (hRdy e he hb)
    ·rw[List.getElem?_set_ne hij]at hbj;exact hmono' _ (hcl j o' ho' hbj e he hb)
   have hpn:∀x,(x<nx0\/∃j:Nat,listed.toList[j]? =V J/\g j<=x/\x<g (j+1))->¬(g i<=x/\x<g (i+1)):=λx hx hr=>by
    rcases hx with hx|⟨j,hj,hj2,hj3⟩
    ·have:=hmono 0 i (yU _) au;omega
    ·have hne:j≠i:=λe=>by rw[e,hbi]at hj;cases hj
     have hjl:j<ops.size:=by
      have:j<zY listed.toList:=(z7.1 hj).1;have h3:zY listed.toList=listed.size:=by simp
      omega
     by_cases hlt:j<i
     ·have:=hmono (j+1) i au au;omega
     ·have:=hmono (i+1) j au au;omega
   have hweak:∀x,((x<nx0\/∃j:Nat,listed.toList[j]? =V J/\g j<=x/\x<g (j+1))\/(g i<=x/\x<g (i+1)))->(x<nx0\/∃j:Nat,(listed.toList.set i J)[j]? =V J/\g j<=x/\x<g (j+1)):=λx hx=>by
    rcases hx with (hx|⟨j,hj,hj2⟩)|hx
    ·exact .inl hx
    ·refine .inr ⟨j,?_,hj2⟩;rw[List.getElem?_set];split
     ·rw[bB (by simpa using hil)]
     ·exact hj
    ·refine .inr ⟨i,?_,hx⟩;rw[List.getElem?_set_self (by simpa using hil)]
   have cont:∀a' w',a'.defers=ds->MtS C n (λx=>(x<nx0\/∃j:Nat,listed.toList[j]? =V J/\g j<=x/\x<g (j+1))\/(g i<=x/\x<g (i+1))) (c.F (hU cs listed.toList f0)) (c.R (iq cs listed.toList R0)) a' w'->wpAny P .any ops Q fuel (listed.setIfInBounds i J) a' w':=λa' w' hda' hm'=>by
    refine ih (listed.setIfInBounds i J) a' w' (by simp[hs]) ?_ (by rw[eset];exact hcl') hda' ?_
    ·rw[eset];have:=Rf hbi;omega
    ·rw[eset,<-s3];obtain⟨E,ρ,q1,q2,q3,q5,q4⟩:=hm'.perm s4;exact⟨E,ρ,q1,λq hq=>(q2 q hq).mono hweak,q3.mono hweak,q5,q4⟩
   have hgate:∀wn,Il ops o (hU (cs.take i) (zf i J) f0) wn->Region.wanted o (yielded ops a.tmps)=wn:=λwn hg=>by
    unfold Il at hg;cases hgd:o.guard with
    |none=>
     rw[hgd]at hg;simp only at hg;rw[hg];unfold Region.wanted;rw[hgd]
    |some jw=>
     obtain⟨j,want⟩:=jw;rw[hgd]at hg;obtain⟨t,hj,hg⟩:=hg;have hts:t∈c.sl:=by
      rw[fact.sl];unfold dg ao4;rw[hgd];simp only[hj];exact yK _ (zo.2 rfl)
     obtain⟨E,ρ,q1,_,_,_,q4⟩:=hm;obtain⟨w1,w2⟩:=Jz (ρ:=ρ) hgd hj (E:=E);rcases hg with ⟨b,hb,hw⟩|⟨vs,hb,hw⟩
     ·rw[hw];exact qK.spec q4.slots (w1 b (q1 _ _ (by rw[s1 t hts];exact hb)))
     ·rw[hw];exact qK.spec q4.slots (w2 vs (q1 _ _ (by rw[s1 t hts];exact hb)))
   unfold wpOp;simp only[ho];rcases fact.run with ⟨hg,hv,hef⟩|⟨hg,hy⟩
   ·rw[bL (by rw[hgate _ hg];exact Bool.false_ne_true)];obtain⟨E,ρ,q1,q2,q3,q5,q4⟩:=hm;have hR:c.R (iq cs listed.toList R0)=iq cs listed.toList R0:=by unfold Rc.R;rw[hef]
    refine cont _ _ (by rw[<-hda];cases o.dst<;>rfl) ?_;rw[hR];cases hdo:o.dst with
    |none=>exact⟨E,ρ,λt d ht=>q1 t d (by unfold Rc.F at ht;rw[fact.dst,hdo]at ht;simpa using ht),λq hq=>(q2 q hq).mono λ_ h=> .inl h,q3.mono λ_ h=> .inl h,q5,q4⟩
    |some t=>
     refine⟨(t, .lit undef)::E,ρ,λs d hsd=> ?_,λq hq=> ?_,q3.mono λ_ h=> .inl h,q5,?_⟩
     ·unfold Rc.F at hsd;rw[fact.dst,hdo,hv]at hsd;by_cases hts:t=s
      ·subst hts;rw[bB rfl]at hsd;cases hsd;exact Env.fh _ _ _
      ·rw[bL (λe=>hts (zF.inj e))]at hsd;rw[Env.dV _ _ hts];exact q1 s d hsd
     ·rcases zx.1 hq with rfl|hq
      ·exact .lit _
      ·exact(q2 q hq).mono λ_ h=> .inl h
     ·have hdn:=fact.dn;rw[hdo]at hdn;have:=q4.put (av:= .lit undef) (v:=undef) hdn (.lit _);show Ah C.C n ((t,b7.sub ρ (.lit undef))::E.sub ρ) _ _ _;rw[bV];exact this
   ·rw[bB (hgate _ hg)];refine .inl ?_;have hle:A8 (hU cs listed.toList f0) c.sl=A8 (hU (cs.take i) (zf i J) f0) c.sl:=Ty s1;obtain⟨E,ρ,q1,q2,q3,q5,q4⟩:=hm;have hids:=fact.ids (λx=>x<nx0\/∃j:Nat,listed.toList[j]? =V J/\g j<=x/\x<g (j+1)) (λt ht d hd=>by
     rw[<-s1 t ht]at hd;exact q2 _ (Env.get_mem (q1 t d hd))) (by rw[<-s2];exact λq hq=>q3 q (z8.1 hq).1)
    exact at6 (nx:=g i) (nx':=g (i+1)) (by have:=hmono 0 i (yU _) au;omega) ⟨E,ρ,q1,q2,q3,q5,q4⟩ fact.dst fact.dn fact.wr (by rw[hle,s2];exact hy) hpn fact.lv (by rw[s2];exact fact.lin) fact.lo hids.1 hids.2 λa' w' hd' hm'=>cont a' w' (hd'.trans hda) hm'
def aeC{α:Type}{r:α}{F:bu}{C:Cg}{s:St}{a:Act}{w:World}{id:Nat}{k:St->aa α}(hF:iQ P F)(hN:dX F)(h:Kg P F n ops s k=V r)(hm:Mt C n s a w):
  (Code.region id ops J).wp P (λe a' w'=>e= .normal/\a'.defers=a.defers/\∃s',k s'=V r/\Mt C n s' a' w') a w:=by
 unfold Kg at h;split at h
 case h_2=>cases h
 rename_i hb;simp only[zi]at hb;split at h
 case h_2=>cases h
 rename_i ps hps;obtain⟨E,hh,hE,hR,ρ,hag,hsim⟩:=hm;obtain⟨cs,s',f',q1,q2,q3⟩:=Tv hF hN ops.toList (f:=cU s.E) h (λt d h=>h) (λt d hd=>Env.abT (x:= .tmp t) hE (hh t d hd)) hR;split at q1
 case h_2=>cases q1
 rename_i hpo;obtain⟨l1,l2,l3,g,g0,g1,g2,g3⟩:=q2.idx;have hN:zY ops.toList=ops.size:=by simp
 refine wp_region_any hb.1 ?_;refine auS (C:=C) (cs:=cs) (f0:=cU s.E) (R0:=s.R) (nx0:=s.nx) (g:=g) (ds:=a.defers) (by rw[l1,hN]) g0 hag.2 (by rw[<-hN];exact g2) g3 (λi j c d hji hc hd=>anv hps hpo (λi c hc=>by
   obtain⟨o,ho⟩:∃o,ops.toList[i]? =V o:=⟨_,zm (by rw[<-l1];exact(z7.1 hc).1)⟩;have:=g3 i o c ho hc;exact⟨o,ho,this.dst,this.sl,this.ef,this.wr⟩) hji hc hd) (λi o ho e he hbe=>by have:=On hb.2 i o ho e he hbe;omega) (λa' w' hd' hm'=> ?_) ops.size (Array.replicate ops.size O) a _ (by simp) (by rw[Array.toList_replicate,Py]) (λi o _ hbi=> ?_) rfl ?_
 ·refine⟨rfl,hd',s',q1,?_⟩;rw[<-l2,<-l3]at hm';obtain⟨E',ρ',p1,p2,p3,p5,p4⟩:=hm';rw[hN]at g1;rw[g1]at p2 p3;exact⟨E',λt d hd=>p1 t d (q3 t d hd),p2,p3.sU,ρ',⟨p5,by have:=ado (N:=zY ops.toList) g2 0 (zY ops.toList) (yU _) (zl _);rw[g0,hN,g1]at this;have h7:=hag.2;omega⟩,p4⟩
 ·rw[Array.toList_replicate,wW]at hbi;split at hbi<;>cases hbi
 ·have nF:∀(cs:af Rc) (n:Nat) (f:Fr),hU cs (zf n O) f=f:=λcs=>by
   induction cs with
   |nil=>intro n f;rfl
   |cons d cs ih=>
    intro n f;cases n with
    |zero=>rfl
    |succ n=>rw[yP];exact ih n f
  have nR:∀(cs:af Rc) (n:Nat) (R:bt),iq cs (zf n O) R=R:=λcs=>by
   induction cs with
   |nil=>intro n f;rfl
   |cons d cs ih=>
    intro n f;cases n with
    |zero=>rfl
    |succ n=>rw[yP];exact ih n f
  rw[Array.toList_replicate,nF,nR];exact⟨E,ρ,hh,λq hq=>ic.mono (hE q hq) λi hi=> .inl hi,(bt.ic.mono hR.lts λi hi=> .inl hi),hag.1,hsim.drew⟩
end
section
variable {α:Type} {r:α} {P:Program} {F:bu} {C:Cg} {n:Nat}
def DR(P:Program)(F:bu)(n:Nat)(_:Nat)(ops:Array Oper)(draw:Bool)(s:St)(k:gI α):aa α:=match draw with
 |false=>fu P F n ops ops.toList s (k .normal)
 |true=>Kg P F n ops s (k .normal)
def exec(P:Program)(F:bu)(n:Nat)(fuel:Nat)(c:Code):St->gI α->aa α:=
 Code.rec aeV (DR P F n) (λ_ _=>aCZ) (λc _ _=>atw c) (λid _=>alW id) (λ_=>adK fuel) (λ_ _ _ _ _ _=>IT) adN (λ_ _=>IT) (λ_=>IT) (λ_=>IT) aoE (λ_=>IT) c
def sH(P:Program)(F:bu)(fuel:Nat)(f:FuncId)(args:af AV)(R:bt)(nx:Nat)(k:AV->bt->Nat->aa α):aa α:=match P.funcs[f]? with
 |some fn=>match fn.body with
  |some c=>match yp (zY args) fn.ntmps&& !(fn.name=="runtime.NumGoroutine")with
   |true=>exec (α:=α) P F fn.ntmps fuel c ⟨Pp 0 args .e,R,nx⟩ λe s=>match e with
    | .normal=>(I9 P s fn.results.toList).bind λds=>k (fA ds) (RJ s.R nx (fA ds) args) s.nx
    | .ret=>(I9 P s fn.results.toList).bind λds=>k (fA ds) (RJ s.R nx (fA ds) args) s.nx
    |_=>G
   |false=>G
  |none=>G
 |none=>G
def rC(P:Program)(F0:bu)(has:FuncId->Bool)(fuel:Nat):Nat->bu
 |0=>F0
 |m+1=>λα f args R nx k=>match has f with
  |true=>F0 α f args R nx k
  |false=>sH P (rC P F0 has fuel m) fuel f args R nx k
def Ends(P:Program)(C:Cg)(n:Nat)(c:Code)(k:gI α)(r:α)(a:Act)(w:World):Prop:=c.wp P (λe a' w'=>∃s',k e s'=V r/\Mt C n s' a' w') a w
def aaa(P:Program)(C:Cg)(n:Nat)(c:Code)(x:St->gI α->aa α):Prop:=∀(r:α) (s:St) (k:gI α) (a:Act) (w:World),x s k=V r->Mt C n s a w->Ends P C n c k r a w
def OG{c:Operand}{s:St}{x y:St->aa α}(h:sA c s x y=V r){a:Act}{w:World}(hm:Mt C n s a w):∃(b:Bool) (s':St),a.eval c= .bool b/\Mt C n s' a w/\(match b with|J=>x s'|O=>y s')=V r:=by
 unfold sA at h;split at h
 ·rename_i t;split at h
  case h_2=>cases h
  rename_i b hb;have hev:a.eval (.tmp t)= .bool b:=by
   obtain⟨E,hh,_,_,ρ,_,hs⟩:=hm;refine X6 hs ?_;have h1:=hh t _ hb;show Env.get (E.sub ρ) t=_;rw[Env.fo,h1,yI,bV]
  refine⟨b,s.gi t b,hev,hm.gi hb,?_⟩;unfold agc at h;cases b<;>exact h
 ·exact⟨J,s,rfl,hm,h⟩
 ·exact⟨O,s,rfl,hm,h⟩
 ·cases h
def G3(hF:iQ P F)(hN:dX F)(id:Nat)(ops:Array Oper)(draw:Bool):aaa (α:=α) P C n (.region id ops draw) (DR P F n id ops draw):=λr s k a w h hm=>by
 unfold DR at h;cases draw with
 |false=>
  refine wp_mono (wp_region_lit (Ii hF _ h hm)) λe a' w' ⟨he,_,s',h1,h2⟩=> ?_;subst he;exact⟨s',h1,h2⟩
 |true=>
  refine wp_mono (aeC hF hN h hm) λe a' w' ⟨he,_,s',h1,h2⟩=> ?_;subst he;exact⟨s',h1,h2⟩
def JL{c:Code}{x:St->gI α->aa α}(hx:aaa P C n c x)(fuel:Nat):aaa P C n (.loop c) (adK fuel x):=λr s k a w h hm=>by
 have key:∀(m:Nat) (s:St) (a:Act) (w:World),Gk x k m s=V r->Mt C n s a w->c.wp P (Exit.then (InL P c λe a' w'=>∃s',k e s'=V r/\Mt C n s' a' w') λe a' w'=>∃s',k e s'=V r/\Mt C n s' a' w') a w:=by
  intro m;induction m with
  |zero=>intro s a w h;cases h
  |succ m ih=>
   intro s a w h hm;refine wp_mono (hx r s _ a w h hm) λe a' w' ⟨s',h1,h2⟩=> ?_;cases e with
   |normal=>exact Od (ih s' a' w' h1 h2)
   |_=>exact⟨s',h1,h2⟩
 exact JH (key fuel s a w h hm)
def ag7(hF:iQ P F)(hN:dX F)(fuel:Nat)(c:Code):aaa (α:=α) P C n c (exec P F n fuel c):=by
 induction c with
 |skip=>exact λr s k a w h hm=>wp_skip ⟨s,h,hm⟩
 |region id ops draw=>exact G3 hF hN id ops draw
 |seq x y hx hy=>
  intro r s k a w h hm;refine wp_seq (wp_mono (hx r s _ a w h hm) λe a' w' ⟨s',h1,h2⟩=> ?_);cases e with
  |normal=>exact hy r s' k a' w' h1 h2
  |_=>exact⟨s',h1,h2⟩
 |cond c x y hx hy=>
  intro r s k a w h hm;obtain⟨b,s',he,hm',h'⟩:=OG (show sA c s _ _=V r from h) hm;cases b with
  |true=>exact wp_cond_true he (hx r s' k a w h' hm')
  |false=>exact wp_cond_false he (hy r s' k a w h' hm')
 |block id x hx=>
  intro r s k a w h hm;refine wp_block (wp_mono (hx r s _ a w h hm) λe a' w' ⟨s',h1,h2⟩=> ?_);cases e with
  |exit id'=>
   simp only[vT]at h1;simp only[Exit.inBlock];split
   ·rename_i he;subst he;have hb:zc id' id'=J:=Nat.beq_refl _;simp only[hb]at h1;exact⟨s',h1,h2⟩
   ·rename_i he;have hb:zc id' id=O:=by
     cases hb:zc id' id with
     |false=>rfl
     |true=>exact dS (xx hb) he
    simp only[hb]at h1;exact⟨s',h1,h2⟩
  |_=>exact⟨s',h1,h2⟩
 |loop c hc=>exact JL hc fuel
 |exit i=>exact λr s k a w h hm=>wp_exit ⟨s,h,hm⟩
 |ret=>exact λr s k a w h hm=>wp_ret ⟨s,h,hm⟩
 |_=>exact λr s k a w h hm=>by cases h
def CP(nx:Nat)(ids:af Nat):∀R:bt,List.Sublist (Qm nx ids R) R
 |[]=> .slnil
 |p::R=>by
  have ih:=CP nx ids R;show List.Sublist (Bool.rec (Bool.rec (Qm nx ids R) (p::Qm nx ids R) (dG p.1 ids)) (p::R) (zA p.1 nx)) (p::R);cases zA p.1 nx with
  |true=>exact List.Sublist.refl _
  |false=>
   cases dG p.1 ids with
   |true=>exact ih.cons_cons p
   |false=>exact ih.cons p
def akO{s:St}{E:Env}{ρ:Gh}{rv:ResultVar}{d:AV}(h:ae6 P s rv=V d)(hh:Ad s.E E):Ic P (E.sub ρ) (bt.res ρ s.R) rv (d.sub ρ):=by
 unfold ae6 at h;split at h
 ·rename_i t;refine .tmp ?_;rw[Env.fo,hh t d h];rfl
 ·rename_i t ty;split at h
  case h_2=>cases h
  rename_i id hp;have hp':Env.get (E.sub ρ) t=V (.lit (.pointer (V ⟨ρ.b id,0,G⟩))):=by
   rw[Env.fo,hh t _ hp,yI,b7.sub]
  split at h
  case h_2=>cases h
  rename_i T cs hr;obtain⟨i,hi,_⟩:=eR hr;have hres:=iG (ρ:=ρ) hi;split at h
  ·rename_i h1;refine .aBV i hp' hres (En h1) ?_;rw[ye,h];rfl
  ·split at h
   case h_2=>cases h
   rename_i m hm;split at h
   case h_2=>cases h
   rename_i hl;cases h;rw[fm];refine .aAm i hp' hres (Qa hm) ?_;rw[zB];exact gZ hl
def adA{s:St}{nx:Nat}{rv:ResultVar}{d:AV}(h:ae6 P s rv=V d){E:Env}(hh:Ad s.E E)(hE:E.cV nx)(hR:bt.cV nx s.R):cV nx d:=by
 unfold ae6 at h;split at h
 ·rename_i t;exact hE _ (Env.get_mem (hh t d h))
 ·split at h
  case h_2=>cases h
  split at h
  case h_2=>cases h
  rename_i id _ T cs hr;have hL:=Hg hr hR;split at h
  ·exact hL.2 _ (List.mem_of_getElem? h)
  ·split at h
   case h_2=>cases h
   split at h
   case h_2=>cases h
   cases h;exact .agg _ hL.2
def KR{s:St}{E:Env}{ρ:Gh}(hh:Ad s.E E){A:Nat->Prop}{w:World}{tmps:Array Value}(hd:Hd A (bt.res ρ s.R) w)(hs:mU A w (E.sub ρ) tmps):∀{l:af ResultVar} {ds:af AV},I9 P s l=V ds->
  ∃us,(l.mapM (Ab tmps)).run P w= .ok us w/\bN A w (ds.map (b7.sub ρ)) us
 |[],ds,h=>by cases h;exact⟨[],rfl,bN.nil⟩
 |x::l,ds,h=>by
  unfold I9 at h;split at h
  case h_2=>cases h
  rename_i d hx;obtain⟨ds',h1,h2⟩:=zn.1 h;subst h2;obtain⟨v,q1,q2⟩:=akO (ρ:=ρ) hx hh A w tmps hd hs;obtain⟨us,q3,q4⟩:=KR hh hd hs h1;refine⟨v::us,?_,bN.cons q2 q4⟩;rw[List.mapM_cons];simp[q1,q3]
def Px{s:St}{nx:Nat}{E:Env}(hh:Ad s.E E)(hE:E.cV nx)(hR:bt.cV nx s.R):∀{l:af ResultVar} {ds:af AV},I9 P s l=V ds->∀d∈ds,cV nx d
 |[],ds,h=>by cases h;simp
 |x::l,ds,h=>by
  unfold I9 at h;split at h
  case h_2=>cases h
  rename_i d hx;obtain⟨ds',h1,h2⟩:=zn.1 h;subst h2;intro d' hd';rcases zx.1 hd' with rfl|hd'
  ·exact adA hx hh hE hR
  ·exact Px hh hE hR h1 d' hd'
def afN{nx:Nat}{ds:af AV}(h:∀d∈ds,cV nx d):cV nx (fA ds):=by
 unfold fA;split
 ·exact h _ (by simp)
 ·exact .jo _ h
def RH{ρ:Gh}{A:Nat->Prop}{w:World}{ds:af AV}{us:af Value}(h:bN A w (ds.map (b7.sub ρ)) us):Rel A w ((fA ds).sub ρ) (if h:us.toArray.size=1 then us.toArray[0]else .tuple us.toArray):=by
 unfold fA;split
 ·rename_i d;obtain⟨h1,h2⟩:=h
  match us,h1,h2 with
  |[u],_,h2=>exact h2 0 _ _ rfl rfl
 ·rename_i hn;have hl:zY us=zY ds:=by have:=h.1;simpa using this
  rw[dif_neg (by
   intro e
   match ds,hn with
   |[],_=>rw[y4,hl]at e;cases e
   |[d],hn=>exact hn d rfl
   |_::_::_,_=>rw[y4,hl]at e;simp at e),lQ]
  exact Rel.Jg h
def B7:∀(l:af AV) (i:Nat) (T:ET) (E:Env),Ad T E->(∀t d,cU T t=V d->t<i)->Ad (Pp i l T) (fk i l++E)
 |[],_,_,_,h,_=>h
 |d::l,i,T,E,h,hT=>by
  have h2:∀t d',cU (nI i d T) t=V d'->t<i+1:=λt d' ht=>by
   rcases sL ht with ⟨rfl,_⟩|⟨_,q⟩
   ·omega
   ·have:=hT t d' q;omega
  have:=B7 l (i+1) (nI i d T) ((i,d)::E) (h.put i d) h2;intro t v ht;have h1:Env.get (fk (i+1) l++(i,d)::E) t=V v:=this t v ht;show Env.get ((i,d)::(fk (i+1) l++E)) t=V v;have key:∀(l:af AV) (j:Nat),i<j->Env.get (fk j l++(i,d)::E) t=Env.get ((i,d)::(fk j l++E)) t:=λl=>by
   induction l with
   |nil=>intro j _;rfl
   |cons u l ih=>
    intro j hj;show Env.get ((j,u)::(fk (j+1) l++(i,d)::E)) t=Env.get ((i,d)::(j,u)::(fk (j+1) l++E)) t;by_cases h1:j=t
    ·subst h1;rw[Env.fh,Env.dV _ _ au,Env.fh]
    ·rw[Env.dV _ _ h1,ih (j+1) au];by_cases h2:i=t
     ·subst h2;rw[Env.fh,Env.fh]
     ·rw[Env.dV _ _ h2,Env.dV _ _ h2,Env.dV _ _ h1]
  rw[<-key l (i+1) (zC i)];exact h1
def qN(ρ:Gh):∀(l:af AV) (i:Nat),(fk i l).sub ρ=fk i (l.map (b7.sub ρ))
 |[],_=>rfl
 |d::l,i=>by show (i,d.sub ρ)::(fk (i+1) l).sub ρ=_;rw[qN ρ l];rfl
def rX:∀{l:af AV} {i:Nat} {q:Nat×AV},q∈fk i l->q.2∈l
 |d::l,i,q,h=>by
  rcases zx.1 h with rfl|h
  ·exact zk
  ·exact zL _ (rX h)
def adh{xs:af AV}{fn:Func}{C:Cx}{ρ:Gh}{nx:Nat}{s:St}{a:Act}{w:World}{k:AV->bt->Nat->aa α}{e:Exit}(he:e= .normal\/e= .ret)(h:((I9 P s fn.results.toList).bind λds=>k (fA ds) (RJ s.R nx (fA ds) xs) s.nx)=V r)(hm:Mt ⟨C,ρ,nx⟩ n s a w):
  ∃E' σ',Ah C n E' σ' a w/\ahc P C n fn (λa s=>∃d R' nx',k d R' nx'=V r/\nx<=nx'/\cV nx' d/\bt.cV nx' R'/\∃ρ',qC nx ρ ρ'/\a=d.sub ρ'/\List.Perm s (bt.res ρ' R')) e E' σ':=by
 obtain⟨E,hh,hE,hR,ρ',⟨hag,hnx⟩,hsim⟩:=hm;obtain⟨ds,h1,h2⟩:=zu.1 h;have hsub:List.Sublist (RJ s.R nx (fA ds) xs) s.R:=CP _ _ _;refine⟨_,_,hsim,aa3 (σ':=bt.res ρ' (RJ s.R nx (fA ds) xs)) (av:=(fA ds).sub ρ') he (hsub.map _) ⟨_,_,_,h2,hnx,afN (Px hh hE hR h1),λq hq=>hR q (hsub.subset hq),ρ',hag,rfl,List.Perm.refl _⟩ λA w' tmps hd hs=> ?_⟩;obtain⟨us,q1,q2⟩:=KR hh hd hs h1;refine⟨_,?_,RH q2⟩;show (do let vs <-fn.results.mapM (Ab tmps);pure (if h:vs.size=1 then vs[0]else .tuple vs):Sem Value).run P w'=_;have e1:fn.results=fn.results.toList.toArray:=by simp
 rw[e1,List.mapM_toArray];simp[q1]
section
variable {β:Type}
def QN{ops:Array Oper}{o:Oper}{s:St}{y n:St->aa α}(D:α->aa β):(gate ops o s y n).bind D=gate ops o s (λs=>(y s).bind D) (λs=>(n s).bind D):=by
 unfold gate
 repeat' split
 all_goals first|rfl|simp_all
def Z6{o:Op}{s:St}{f:St->aa α}(D:α->aa β):(Dz o s f).bind D=Dz o s (λs=>(f s).bind D):=by
 unfold Dz
 repeat' split
 all_goals first|rfl|simp_all
def ant(hN:dX F){o:Oper}{ih:St->(St->aa α)->aa α}{ih':St->(St->aa β)->aa β}{k:St->aa α}{D:α->aa β}(hi:∀s k,(ih s k).bind D=ih' s (λs=>(k s).bind D))(s:St):(rDo P F o ih k s).bind D=rDo P F o ih' (λs=>(k s).bind D) s:=by
 unfold rDo;generalize s.kW (jm s.E o.op)=s1;obtain⟨E,R,nx⟩:=s1;show (qk o.op P F (LQ E) (gH R) R nx (RF o.dst E R nx ih k)).bind D=qk o.op P F (LQ E) (gH R) R nx (RF o.dst E R nx ih' λs=>(k s).bind D);rw[CM D hN]
 congr 1
 funext e
 cases e<;>exact hi ..
def sS(hN:dX F){ops:Array Oper}(D:α->aa β):∀(l:af Oper) (s:St) (k:St->aa α),(fu P F n ops l s k).bind D=fu P F n ops l s (λs=>(k s).bind D)
 |[],s,k=>rfl
 |o::l,s,k=>by
  show (Oo P F n ops o (fu P F n ops l) s k).bind D=Oo P F n ops o (fu P F n ops l) s (λs=>(k s).bind D);unfold Oo;split
  ·rw[QN]
   congr 1
   ·funext s1
    obtain⟨E,R,nx⟩:=s1;show (opF o.op P F o.dst E R nx (fu P F n ops l) k).bind D=opF o.op P F o.dst E R nx (fu P F n ops l) (λs=>(k s).bind D);have e1:=MR P F o ⟨E,R,nx⟩ (fu (α:=α) P F n ops l) k;have e2:=MR P F o ⟨E,R,nx⟩ (fu (α:=β) P F n ops l) (λs=>(k s).bind D);dsimp only at e1 e2;rw[e1,e2,Z6]
    congr 1
    funext s2
    exact ant hN (λs k=>sS hN D l s k) s2
   ·funext s1
    unfold rNo;split<;>exact sS hN D l _ _
  ·rfl
def Lj(hN:dX F){ops:Array Oper}{ps:af (Nat×Nat)}(D:α->aa β):∀(l:af Oper) (cs:af Rc) (s:St) (k:af Rc->St->aa α),(dgo P F n ops ps l cs s k).bind D=dgo P F n ops ps l cs s (λcs s=>(k cs s).bind D)
 |[],cs,s,k=>rfl
 |o::l,cs,s,k=>by
  show (Y8 P F n ops ps o (dgo P F n ops ps l) cs s k).bind D=Y8 P F n ops ps o (dgo P F n ops ps l) cs s (λcs s=>(k cs s).bind D);unfold Y8;split
  ·rw[QN]
   congr 1
   ·funext s1
    obtain⟨E,R,nx⟩:=s1;show (Jw P F o (dg ops o) E (inQ (sP ops o E R) R) nx (dK ops ps o cs (sP ops o E R) E R (inQ (sP ops o E R) R) nx (dgo P F n ops ps l) k)).bind D=Jw P F o (dg ops o) E (inQ (sP ops o E R) R) nx (dK ops ps o cs (sP ops o E R) E R (inQ (sP ops o E R) R) nx (dgo P F n ops ps l) (λcs s=>(k cs s).bind D));rw[<-HU hN,<-HU hN,z6]
    congr 1
    funext x
    unfold dK;split
    ·exact Lj hN D l _ _ _
    ·rfl
   ·funext s1
    exact Lj hN D l _ _ _
  ·rfl
def aad(hN:dX F)(id:Nat)(ops:Array Oper)(draw:Bool)(D:α->aa β)(s:St)(k:gI α):(DR P F n id ops draw s k).bind D=DR P F n id ops draw s (λe s=>(k e s).bind D):=by
 unfold DR;cases draw with
 |false=>exact sS hN D _ _ _
 |true=>
  show (Kg P F n ops s (k .normal)).bind D=Kg P F n ops s (λs=>(k .normal s).bind D);unfold Kg;split
  ·split
   ·rw[Lj hN D]
    congr 1
    funext cs s'
    split<;>rfl
   ·rfl
  ·rfl
def ZR{c:Operand}{s:St}{x y:St->aa α}(D:α->aa β):(sA c s x y).bind D=sA c s (λs=>(x s).bind D) (λs=>(y s).bind D):=by
 unfold sA
 repeat' split
 all_goals first|rfl|(unfold agc;split<;>rfl)|simp_all
def Qo{x:St->gI α->aa α}{x':St->gI β->aa β}{D:α->aa β}(hx:∀s k,(x s k).bind D=x' s (λe s=>(k e s).bind D))(k:gI α):∀(m:Nat) (s:St),(Gk x k m s).bind D=Gk x' (λe s=>(k e s).bind D) m s
 |0,s=>rfl
 |m+1,s=>by
  show (x s (RI k (Gk x k m))).bind D=x' s (RI (λe s=>(k e s).bind D) (Gk x' (λe s=>(k e s).bind D) m));rw[hx]
  congr 1
  funext e s'
  cases e<;>first|exact Qo hx k m s'|rfl
def aeq(hN:dX F)(fuel:Nat)(D:α->aa β)(c:Code):∀(s:St) (k:gI α),(exec P F n fuel c s k).bind D=exec P F n fuel c s (λe s=>(k e s).bind D):=by
 induction c with
 |region id ops draw=>exact aad hN id ops draw D
 |seq x y hx hy=>
  intro s k;show (exec P F n fuel x s (alS (exec P F n fuel y) k)).bind D=exec P F n fuel x s (alS (exec P F n fuel y) (λe s=>(k e s).bind D));rw[hx]
  congr 1
  funext e s'
  cases e<;>first|exact hy s' k|rfl
 |cond c x y hx hy=>
  intro s k;show (sA c s (λs=>exec P F n fuel x s k) (λs=>exec P F n fuel y s k)).bind D=sA c s (λs=>exec P F n fuel x s _) (λs=>exec P F n fuel y s _);rw[ZR]
  congr 1
  ·funext s;exact hx s k
  ·funext s;exact hy s k
 |block id x hx=>
  intro s k;show (exec P F n fuel x s (vT id k)).bind D=exec P F n fuel x s (vT id (λe s=>(k e s).bind D));rw[hx]
  congr 1
  funext e s'
  cases e<;>first|rfl|(simp only[vT];split<;>rfl)
 |loop c hc=>exact λs k=>Qo hc k fuel s
 |_=>exact λs k=>rfl
def ZL(hN:dX F)(fuel:Nat):dX (λα=>sH (α:=α) P F fuel):=λα β f args R nx k D=>by
 show (sH P F fuel f args R nx k).bind D=sH P F fuel f args R nx _;unfold sH;split
 ·split
  ·split
   ·rw[aeq hN]
    congr 1
    funext e s
    cases e<;>first|rfl|exact z6 ..
   ·rfl
  ·rfl
 ·rfl
def oh{F0:bu}{has:FuncId->Bool}(hN:dX F0)(fuel:Nat):∀m:Nat,dX (rC P F0 has fuel m)
 |0=>hN
 |m+1=>λα β f args R nx k D=>by
  show (match has f with|J=>F0 α f args R nx k|O=>sH P (rC P F0 has fuel m) fuel f args R nx k).bind D=_;show _=(match has f with|J=>F0 β f args R nx _|O=>sH P (rC P F0 has fuel m) fuel f args R nx _);cases has f with
  |true=>exact hN ..
  |false=>exact ZL (oh hN fuel m) fuel α β f args R nx k D
end
def abS(hF:iQ P F)(hN:dX F)(fuel:Nat):iQ P (λα=>sH (α:=α) P F fuel):=λα f args R nx k r h hargs hR=>by
 have h:sH P F fuel f args R nx k=V r:=h;unfold sH at h;split at h
 case h_2=>cases h
 rename_i fn hf;split at h
 case h_2=>cases h
 rename_i c hb;split at h
 case h_2=>cases h
 rename_i hc;rw[zi]at hc;obtain⟨hl,hnm⟩:=hc;refine⟨⟨fn,hf,by simpa using hnm,by rw[hb];rfl⟩,λρ=>Fn.of hf hb rfl (by rw[zB];exact hl) λC a w ha=> ?_⟩;have hm:Mt ⟨C,ρ,nx⟩ fn.ntmps ⟨Pp 0 args .e,R,nx⟩ a w:=by
  refine⟨fk 0 args,?_,λq hq=>hargs _ (rX hq),hR,ρ,⟨.refl _ _,zl _⟩,?_⟩
  ·have:=B7 args 0 .e [] (λt d ht=>by cases t<;>cases ht) (λt d ht=>by cases t<;>cases ht)
   rwa [yu]at this
  ·rw[qN];exact ha
 refine wp_mono (ag7 hF hN fuel c r _ _ a w h hm) λe a' w' ⟨s',h1,h2⟩=> ?_;cases e with
 |normal=>exact adh (.inl rfl) h1 h2
 |ret=>exact adh (.inr rfl) h1 h2
 |_=>cases h1
def qX{F0:bu}{has:FuncId->Bool}(hF:iQ P F0)(hN:dX F0)(fuel:Nat):∀m:Nat,iQ P (rC P F0 has fuel m)
 |0=>hF
 |m+1=>λα f args R nx k r h hargs hR=>by
  change (match has f with|J=>F0 α f args R nx k|O=>sH P (rC P F0 has fuel m) fuel f args R nx k)=V r at h;split at h
  ·exact hF α f args R nx k r h hargs hR
  ·exact abS (qX hF hN fuel m) (oh hN fuel m) fuel α f args R nx k r h hargs hR
end
def scB:Nat->AV->Bool
 |_, .lit _=>J
 |n+1, .agg cs=>cs.all (scB n)
 |n+1, .jo cs=>cs.all (scB n)
 |_,_=>O
def Ja:Nat->AV->Bool
 |_, .lit _=>J
 |_, .sl _ _=>J
 |_, .rp _ _=>J
 |n+1, .agg cs=>cs.all (Ja n)
 |n+1, .jo cs=>cs.all (Ja n)
 |_,_=>O
def kO:∀(n:Nat) {d:AV} {ρ:Gh},Ja n d=J->d.sub ρ=d
 |n,d,ρ,h=>by
  have hL:∀{m:Nat} {cs:af AV},m<n->cs.all (Ja m)=J->cs.map (b7.sub ρ)=cs:=λ{m cs} hm h=>by
   have:cs.map (b7.sub ρ)=cs.map id:=zX λc hc=>kO m (zw.1 h c hc);rw[this,List.map_id]
  cases n with
  |zero=>cases d<;>first|(cases h;done)|simp only[b7.sub]
  |succ n=>
   cases d<;>first|(cases h;done)|(simp only[b7.sub];done)|skip
   ·rw[fm,hL (zC n) h]
   ·rw[lQ,hL (zC n) h]
def abC{R:bt}{ρ:Gh}{A:Nat->Prop}{w:World}{v:Value}{id:Nat}(hd:Hd A (bt.res ρ R) w)(hr:Rel A w ((b7.own (de:=U.de) id).sub ρ) v):Rel (λb=>A b\/b∈bC (bt.res ρ R)) w ((match gH R id with
  |some (.row t l)=>b7.sl t l
  |_=> .own id).sub ρ) v:=by
 have base:Rel (λb=>A b\/b∈bC (bt.res ρ R)) w ((b7.own (de:=U.de) id).sub ρ) v:=hr.mono λb _ hA=>⟨.inl hA,rfl⟩;split
 ·rename_i t l hg;obtain⟨i,hi,_⟩:=eR hg;have hres:=iG (ρ:=ρ) hi;have hm:=List.mem_of_getElem? hres;rw[dx]at hr;rw[gP];have hd1:Hd A [.row (ρ.v id) t l] w:=⟨λr hr=>by
   rw[zo]at hr;rw[hr];exact hd.1 _ hm,λb hb=>hd.2 b (by
    obtain⟨r,h1,h2⟩:=bQ.1 hb;rw[zo]at h1;rw[h1]at h2;exact bQ.2 ⟨_,hm,h2⟩)⟩
  refine(Vw.row 0 rfl A w v hd1 hr).mono λb _ hA=>⟨hA.imp (λh=>h) λhx=> ?_,rfl⟩;obtain⟨r,h1,h2⟩:=bQ.1 hx;rw[zo]at h1;rw[h1]at h2;exact bQ.2 ⟨_,hm,h2⟩
 ·exact base
def dA:bu:=λ_ _ _ _ _ _=>G
def arG{P:Program}:iQ P dA:=λ_ _ _ _ _ _ _ h=>by cases h
def UA{β:Type}(e:AV->aa β)(d:AV)(R:bt)(_:Nat):aa β:=match R with
 |[]=>e d
 |_=>G
def P0{β:Type}(e:AV->aa β)(m:β->AV):Prop:=∀d x,e d=V x->d=m x/\Ja 2 d=J
def P0.b:P0 Sq b7.b:=λd x h=>by
 unfold Sq at h;split at h
 ·cases h;exact⟨rfl,rfl⟩
 ·cases h
def P0.i(k:IntKind):P0 (iI k) (b7.n k):=λd x h=>by
 unfold iI at h;split at h
 ·split at h
  ·rename_i hk;subst hk;cases h;exact⟨rfl,rfl⟩
  ·cases h
 ·cases h
def Sz{P:Program}{F:bu}(hF:iQ P F){f:FuncId}{args:af AV}{β:Type}{e:AV->aa β}{m:β->AV}{x:β}(he:P0 e m)(hc:args.all (Ja 2)=J)(hl:∀d∈args,cV 0 d)(h:F β f args [] 0 (UA e)=V x):vQ P f/\Fn P f args [] (λa s=>a=m x/\s=[]):=by
 obtain⟨h1,h2⟩:=hF β f args [] 0 (UA e) x h hl (λq hq=>by cases hq);refine⟨h1,?_⟩;have:=h2 ⟨λ_=>undef,λ_=>0⟩;have ea:args.map (b7.sub ⟨λ_=>undef,λ_=>0⟩)=args:=by
  have:args.map (b7.sub ⟨λ_=>undef,λ_=>0⟩)=args.map id:=zX λc hcm=>kO 2 (zw.1 hc c hcm);rw[this,List.map_id]
 rw[ea]at this;refine Fn.mono this λa s ⟨d,R',nx',q1,_,_,_,ρ',_,q2,q3⟩=> ?_;unfold UA at q1;split at q1
 ·obtain⟨q4,q5⟩:=he _ _ q1;rw[q2,kO 2 q5,q4];exact⟨rfl,by simpa [bt.res]using q3⟩
 ·cases q1
def uX(d:AV):∀(m:Nat) (T:ET) (k s:Nat),k<2^m-1->cU (ug d m T k) s=if k=s then V d else cU T s
 |0,T,k,s,h=>by simp at h
 |m+1,T,k,s,h=>by
  rw[YY,QK T s];by_cases hk:k=0
  ·rw[bB hk,o7];by_cases hs:s=0
   ·simp_all
   ·have h0:¬(0=s):=λe=>hs e.symm;simp_all
  ·rw[bL hk];by_cases hk2:(k-1)%2=0
   ·rw[bB hk2,o7];by_cases hs:s=0
    ·rw[bB hs,bB hs,bL au]
    ·rw[bL hs,bL hs];by_cases hs2:(s-1)%2=0
     ·rw[bB hs2,bB hs2,uX d m T.l _ _ au];by_cases hks:k=s
      ·rw[bB hks,bB au]
      ·rw[bL hks,bL au]
     ·rw[bL hs2,bL hs2,bL (λe=>hs2 (by rw[<-e];exact hk2))]
   ·rw[bL hk2,o7];by_cases hs:s=0
    ·grind
    ·rw[bL hs,bL hs];by_cases hs2:(s-1)%2=0
     ·rw[bB hs2,bB hs2,bL (λe=>hk2 (by rw[e];exact hs2))]
     ·rw[bL hs2,bL hs2,uX d m T.r _ _ au];by_cases hks:k=s
      ·rw[bB hks,bB au]
      ·rw[bL hks,bL au]
def Ce{t s:Nat}{d:AV}{T:ET}(h:t<4095):cU (nI t d T) s=if t=s then V d else cU T s:=uX d 12 T t s h
def bA(F:bu)(f:FuncId):Prop:=∀args R nx d R' nx',F (AV×bt×Nat) f args R nx (λd R nx=>V (d,R,nx))=V (d,R',nx')->R'=R
def Ra(fs:af Nat):Op->Bool
 | .move _=>J
 | .assign _=>J
 | .pick c _ _=>match c with
  | .tmp t=>zA t 4095
  |_=>J
 | .binOp _ _ _ _ _=>J
 | .unOp _ _ _=>J
 | .fieldAddr _ _ _=>J
 | .indexAddr _ _ _=>J
 | .index _ _ _=>J
 | .load _ _=>J
 | .nilCheck _=>J
 | .convert _ _ _=>J
 | .extract _ _=>J
 | .call c=>match c.callee with
  | .value (.func f)=>dG f fs&& !L.fz f
  | .builtin .len=>J
  | .builtin .max=>J
  | .builtin .min=>J
  |_=>O
 |_=>O
def J8:aa Nat->Bool
 |some t=>zA t 4095
 |none=>J
section
variable {P:Program} {F:bu} {n:Nat} {fs:af Nat}
def afx{E:ET}{o:Op}(h:Ra fs o=J):jm E o=[]:=by
 cases o<;>first|rfl|(cases h;done)|skip
 case call c=>
  unfold Ra at h;unfold jm;grind
def qe{g:(K:AV->aa gq)->aa gq}{g0:aa AV}{e:gq}(hg:g (λd=>V (.val d))=g0.bind λd=>V (.val d))(h:g (dQ V)=V e):∃d,e= .val d:=by
 have h:g (λd=>V (.val d))=V e:=h;rw[hg]at h;obtain⟨d,_,h2⟩:=zu.1 h;cases h2;simp
def ZM(hN:dX F)(hp:∀f∈fs,bA F f){o:Op}{E:ET}{rd:Nat->aa IR}{R:bt}{nx:Nat}{e:gq}(ho:Ra fs o=J)(h:qk o P F (LQ E) rd R nx V=V e):∃d nx',e= .all d R nx'\/e= .val d:=by
 have fin:(∃d,e= .val d)->∃d nx',e=gq.all d R nx'\/e= .val d:=λ⟨d,h⟩=>⟨d,0, .inr h⟩;have fb:∀{x:aa AV},x.bind (dQ V)=V e->∃d,e= .val d:=λ{x} h=>by
  obtain⟨d,_,h2⟩:=zu.1 h;cases h2;simp
 cases o<;>first|(cases ho;done)|exact fin (fb h)|skip
 case pick c a b=>
  have h:BG c a b P F (LQ E) rd R nx V=V e:=h;unfold BG at h;split at h
  ·exact fin (fb h)
  ·exact fin (fb h)
  ·cases h
 case binOp b T x y t=>exact fin (qe (QC (K:=V) (λd=>V (gq.val d))).symm h)
 case unOp b T x=>exact fin (qe (Wa (K:=V) (λd=>V (gq.val d))).symm h)
 case fieldAddr T x i=>exact fin (qe (Q9 (K:=V) (λd=>V (gq.val d))).symm h)
 case indexAddr T x y=>exact fin (qe (PA (K:=V) (λd=>V (gq.val d))).symm h)
 case index T x y=>exact fin (qe (OV (K:=V) (λd=>V (gq.val d))).symm h)
 case load T x=>exact fin (qe (XK (K:=V) (λd=>V (gq.val d))).symm h)
 case nilCheck x=>exact fin (qe (P3 (K:=V) (λd=>V (gq.val d))).symm h)
 case convert T T' x=>exact fin (qe (Qh (K:=V) (λd=>V (gq.val d))).symm h)
 case extract x i=>exact fin (qe (OW (K:=V) (λd=>V (gq.val d))).symm h)
 case call c=>
  have h:Gw c P F (LQ E) rd R nx V=V e:=h;unfold Gw at h;unfold Ra at ho;dsimp only at ho;split at ho
  ·rename_i f hf;rw[hf]at h;rw[zi]at ho;obtain⟨xs,_,h2⟩:=zu.1 h;have h3:=hN (AV×bt×Nat) gq f (xs++[]) R nx (λd R nx=>V (d,R,nx)) (λx=>V (.all x.1 x.2.1 x.2.2));have h3':(F (AV×bt×Nat) f (xs++[]) R nx (λd R nx=>V (d,R,nx))).bind (λx=>V (.all x.1 x.2.1 x.2.2))=V e:=h3.trans h2;obtain⟨⟨d,R',nx'⟩,h4,h5⟩:=zu.1 h3';have h6:=hp f (fT.1 ho.1) _ _ _ _ _ _ h4;subst h6;cases h5;exact⟨d,nx', .inl rfl⟩
  ·rename_i hc;rw[hc]at h;unfold Gb at h;dsimp only at h;split at h
   ·exact fin (qe (OH (K:=V) (λd=>V (gq.val d))).symm h)
   ·cases h
  ·rename_i hc;rw[hc]at h;have h:Gb .max c.args c.argTypes P (LQ E) rd R nx V=V e:=h;unfold Gb at h;dsimp only at h;split at h
   ·exact fin (qe (Fc (K:=V) (λd=>V (gq.val d))).symm h)
   ·cases h
  ·rename_i hc;rw[hc]at h;have h:Gb .min c.args c.argTypes P (LQ E) rd R nx V=V e:=h;unfold Gb at h;dsimp only at h;split at h
   ·exact fin (qe (Fc (K:=V) (λd=>V (gq.val d))).symm h)
   ·cases h
  ·cases ho
def afG(l:af Oper)(s s0:St):Prop:=s0.R=s.R/\∀u d,(∀o∈l,o.dst≠V u)->cU s.E u=V d->cU s0.E u=V d
def oq{s:St}{t:Nat}{b:Bool}(ht:t<4095)(h:cU s.E t=V (.lit (.bool b))){u:Nat}{d:AV}(hu:cU s.E u=V d):cU (s.gi t b).E u=V d:=by
 show cU (nI t (.b b) s.E) u=_;rw[Ce ht];split
 ·rename_i e;subst e;rw[h]at hu;exact hu
 ·exact hu
def Fi(hN:dX F)(hp:∀f∈fs,bA F f){ops:Array Oper}(hops:∀o∈ops.toList,J8 o.dst=J):∀(l:af Oper) {s s0:St},(∀o∈l,Ra fs o.op=J/\J8 o.dst=J)->fu P F n ops l s V=V s0->afG l s s0
 |[],s,s0,_,h=>by cases h;exact⟨rfl,λu d _ hu=>hu⟩
 |o::l,s,s0,hl,h=>by
  have ho:=hl o zk;have hl':=λo' h'=>hl o' (zL _ h');change Oo P F n ops o (fu P F n ops l) s V=V s0 at h;unfold Oo at h;split at h
  case h_2=>cases h
  have putG:∀{s2:St} {d:AV} {nx':Nat},fu P F n ops l ⟨Ak o.dst d s2.E,s2.R,nx'⟩ V=V s0->s2.R=s.R->(∀u d,cU s.E u=V d->cU s2.E u=V d)->afG (o::l) s s0:=λ{s2 d nx'} h1 h2 h3=>by
   obtain⟨q1,q2⟩:=Fi hN hp hops l hl' h1;refine⟨q1.trans h2,λu d' hu hd=>q2 u d' (λo' h'=>hu o' (zL _ h')) ?_⟩;show cU (Ak o.dst d s2.E) u=V d';have hne:=hu o zk;have hod:=ho.2;unfold Ak;split
   ·simp_all
   ·rename_i t ht;rw[ht]at hod hne;rw[Ce (by simpa [J8]using hod),bL (λe=>hne (by rw[e]))];simp_all
  have yes:∀s1:St,aDH P F o (fu P F n ops l) V s1=V s0->s1.R=s.R->(∀u d,cU s.E u=V d->cU s1.E u=V d)->afG (o::l) s s0:=λs1 h1 h2 h3=>by
   obtain⟨E1,R1,nx1⟩:=s1;have h1:opF o.op P F o.dst E1 R1 nx1 (fu P F n ops l) V=V s0:=h1;have e1:=MR P F o ⟨E1,R1,nx1⟩ (fu (α:=St) P F n ops l) V;rw[e1]at h1;have go:∀s2:St,rDo P F o (fu P F n ops l) V s2=V s0->s2.R=s.R->(∀u d,cU s.E u=V d->cU s2.E u=V d)->afG (o::l) s s0:=λs2 g1 g2 g3=>by
    unfold rDo at g1;rw[afx ho.1]at g1;obtain⟨E2,R2,nx2⟩:=s2;have g4:(qk o.op P F (LQ E2) (gH R2) R2 nx2 V).bind (RF o.dst E2 R2 nx2 (fu P F n ops l) V)=V s0:=(CM _ hN ..).trans g1;obtain⟨e,g5,g6⟩:=zu.1 g4;obtain⟨d,nx',he⟩:=ZM hN hp ho.1 g5;rcases he with he|he
    ·subst he;exact putG (s2:=⟨E2,R2,nx2⟩) g6 g2 g3
    ·subst he;exact putG (s2:=⟨E2,R2,nx2⟩) g6 g2 g3
   unfold Dz at h1;split at h1
   ·rename_i t a b hop;have ht:t<4095:=by
     have:=ho.1;rw[hop]at this;simpa [Ra]using this
    split at h1
    ·rename_i b hb;split at h1
     ·exact go _ h1 h2 λu d hu=>oq (s:=⟨E1,R1,nx1⟩) ht hb (h3 u d hu)
     ·exact go _ h1 h2 λu d hu=>oq (s:=⟨E1,R1,nx1⟩) ht hb (h3 u d hu)
    ·cases h1
   ·exact go _ h1 h2 h3
  have no:∀s1:St,rNo o.dst (fu P F n ops l) V s1=V s0->s1.R=s.R->(∀u d,cU s.E u=V d->cU s1.E u=V d)->afG (o::l) s s0:=λs1 h1 h2 h3=>by
   have:rNo o.dst (fu P F n ops l) V s1=fu P F n ops l ⟨Ak o.dst (.lit undef) s1.E,s1.R,s1.nx⟩ V:=by
    cases o.dst<;>rfl
   rw[this]at h1;exact putG (s2:=s1) h1 h2 h3
  unfold gate at h;split at h
  ·exact yes s h rfl λ_ _ h=>h
  ·rename_i j want hg;split at h
   ·cases h
   ·rename_i t hj;have ht:t<4095:=by
     obtain⟨o',ho',hd'⟩:=zu.1 hj;have hm:o'∈ops.toList:=Array.mem_toList_iff.2 (Array.mem_of_getElem? ho');have:=hops o' hm;rw[hd']at this;simpa [J8]using this
    split at h
    ·rename_i b hb;split at h
     ·split at h
      ·exact yes _ h rfl λu d hu=>oq ht hb hu
      ·exact no _ h rfl λu d hu=>oq ht hb hu
     ·split at h
      ·exact no _ h rfl λu d hu=>oq ht hb hu
      ·exact yes _ h rfl λu d hu=>oq ht hb hu
    ·exact no _ h rfl λ_ _ h=>h
    ·cases h
def az3(fs:af Nat)(t:Nat)(E:ET)(ops:af Oper):Bool:=zA t 4095&&ops.all λo=>Ra fs o.op&&J8 o.dst&&match o.dst with
 |some u=>zc u t||match cU E u with
  |none=>J
  |some _=>O
 |none=>J
def rbK(t:Nat)(s:St):aa Bool:=match cU s.E t with
 |some (.lit (.bool b))=>V b
 |_=>G
def Sn{α:Type}(P:Program)(F:bu)(n:Nat)(fs:af Nat)(t:Nat)(ops:Array Oper)(s:St)(k:gI α):aa α:=match az3 fs t s.E ops.toList with
 |true=>match fu (α:=Bool) P F n ops ops.toList s (rbK t)with
  |some b=>k .normal ⟨nI t (.b b) s.E,s.R,s.nx⟩
  |none=>G
 |false=>G
def Env.vX{T:ET}:∀(E:Env) (u:Nat) (d:AV),Env.get (E.filter λp=>@vn (cU T p.1=V p.2) (Classical.propDecidable _)) u=V d->cU T u=V d
 |[],_,_,h=>by cases h
 |(k,v)::E,u,d,h=>by
  by_cases hk:cU T k=V v
  ·rw[yV,bB (by simp[hk])]at h;by_cases hku:k=u
   ·subst hku;rw[Env.fh]at h;simp_all
   ·rw[Env.dV _ _ hku]at h;exact Env.vX E u d h
  ·rw[yV,bL (by simp[hk])]at h;exact Env.vX E u d h
def Env.sw{T:ET}:∀(E:Env) (u:Nat) (d:AV),cU T u=V d->E.get u=V d->Env.get (E.filter λp=>@vn (cU T p.1=V p.2) (Classical.propDecidable _)) u=V d
 |[],_,_,_,h=>by cases h
 |(k,v)::E,u,d,ht,h=>by
  by_cases hku:k=u
  ·subst hku;rw[Env.fh]at h;cases h;rw[yV,bB (by simp[ht])];exact Env.fh _ _ _
  ·rw[Env.dV _ _ hku]at h;rw[yV];split
   ·rw[Env.dV _ _ hku];exact Env.sw E u d ht h
   ·exact Env.sw E u d ht h
def aaK{α:Type}{C:Cg}(hF:iQ P F)(hN:dX F)(hp:∀f∈fs,bA F f)(id t:Nat)(ops:Array Oper):aaa (α:=α) P C n (.region id ops O) (Sn P F n fs t ops):=λr s k a w h hm=>by
 unfold Sn at h;split at h
 case h_2=>cases h
 rename_i hrb;split at h
 case h_2=>cases h
 rename_i b hb;unfold az3 at hrb;rw[zi,Nat.blt_eq]at hrb;obtain⟨ht,hall⟩:=hrb;have hall:∀o∈ops.toList,(Ra fs o.op=J/\J8 o.dst=J)/\∀u,o.dst=V u->u=t\/cU s.E u=G:=λo ho=>by
  have h1:=zw.1 hall o ho;rw[zi,zi]at h1;refine⟨h1.1,λu hu=> ?_⟩;have h2:=h1.2;rw[hu]at h2;dsimp only at h2;rw[yC]at h2;rcases h2 with h2|h2
  ·simp_all
  ·right;split at h2
   ·assumption
   ·cases h2
 have hnat:=sS hN (P:=P) (n:=n) (ops:=ops) (rbK t) ops.toList s V;have hb':(fu P F n ops ops.toList s V).bind (rbK t)=V b:=hnat.trans hb;obtain⟨s0,h1,h2⟩:=zu.1 hb';obtain⟨q1,q2⟩:=Fi hN hp (λo ho=>(hall o ho).1.2) ops.toList (λo ho=>(hall o ho).1) h1;have hend:Ends P C n (.region id ops O) (λe s'=>match e with
  | .normal=>V s'
  |_=>G) s0 a w:=by
  refine wp_mono (wp_region_lit (Ii hF _ h1 hm)) λe a' w' ⟨he,_,s',h3,h4⟩=> ?_;subst he;exact⟨s',h3,h4⟩
 refine wp_mono hend λe a' w' ⟨s',h3,h4⟩=> ?_;cases e<;>first|(cases h3;done)|skip
 cases h3;refine⟨_,h,?_⟩;have hbt:cU s0.E t=V (.b b):=by
  unfold rbK at h2;split at h2
  ·simp_all
  ·cases h2
 obtain⟨E,hh,hE,hR,ρ,hag,hsim⟩:=hm;obtain⟨E0,hh0,hE0,hR0,ρ0,hag0,hsim0⟩:=h4
 let E1:Env:=(t, .b b)::E.filter λp=>@vn (cU s.E p.1=V p.2) (Classical.propDecidable _)
 have hkey:∀u d,E1.get u=V d->cU s0.E u=V d:=λu d hu=>by
  by_cases htu:t=u
  ·subst htu;rw[Env.fh]at hu;cases hu;exact hbt
  ·rw[Env.dV _ _ htu]at hu;have h5:=Env.vX E u d hu;refine q2 u d (λo ho hd=> ?_) h5;rcases (hall o ho).2 u hd with h6|h6
   ·exact htu h6.symm
   ·simp_all
 refine⟨E1,λu d hu=> ?_,Env.AO (λp hp=>hE p (z8.1 hp).1) (.lit _),hR,ρ0,⟨hag0.1,hag.2⟩,?_⟩
 ·have hu:cU (nI t (.b b) s.E) u=V d:=hu;rw[Ce ht]at hu;split at hu
  ·rename_i e;rw[<-e,<-zF.inj hu];exact Env.fh _ _ _
  ·rename_i e;rw[Env.dV _ _ e];exact Env.sw E u d hu (hh u d hu)
 ·rw[q1]at hsim0;refine⟨hsim0.defers,hsim0.size,λu av hu=> ?_,hsim0.good⟩;rw[Env.fo]at hu;obtain⟨d,hd,rfl⟩:=zn.1 hu;exact hsim0.slots u _ (by rw[Env.fo,hh0 u d (hkey u d hd)];rfl)
end
inductive An:Type 1
 |no
 |two (l r:An)
 |lp (γ:Type) (rd:St->Option γ) (pat:γ->St) (Jj:γ->Option γ) (body:An)
 |jn (γ:Type) (rd:St->Option γ) (pat:γ->St) (l r:An)
 |rb (fs:List Nat) (t:Nat)
def An.l:An->An
 | .two l _=>l
 | .jn _ _ _ l _=>l
 |_=> .no
def An.r:An->An
 | .two _ r=>r
 | .jn _ _ _ _ r=>r
 |_=> .no
abbrev noTwo(a:An):An:= .two .no a
abbrev XT:=An->(α:Type)->St->gI α->aa α
def aGQ{γ:Type}(b:Bool)(p q:γ):γ:=match b with
 |true=>p
 |false=>q
def kOn{γ:Type}(rd:St->aa γ):gI (aa γ):=λe s=>match e with
 | .normal=>(rd s).map V
 |_=>V G
def auo{γ:Type}(rd:St->aa γ):gI γ:=λe s=>match e with
 | .normal=>rd s
 |_=>G
def afT{γ α:Type}(rd:St->aa γ)(pat:γ->St)(c:Operand)(s:St)(x y:(α:Type)->St->gI α->aa α)(k:gI α):aa α:=match c with
 | .tmp t=>match cU s.E t with
  |some (.lit (.bool b))=>match x γ (s.gi t J) (auo rd)with
   |some p=>match y γ (s.gi t O) (auo rd)with
    |some q=>k .normal (pat (aGQ b p q))
    |none=>G
   |none=>G
  |_=>G
 |_=>G
def ays(P:Program)(F:bu)(n:Nat)(id:Nat)(ops:Array Oper)(draw:Bool):XT:=λan _ s k=>match an with
 | .rb fs t=>match draw with
  |false=>Sn P F n fs t ops s k
  |true=>DR P F n id ops J s k
 |_=>DR P F n id ops draw s k
def aAa(x y:XT):XT:=λan α s k=>x an.l α s (alS (y an.r α) k)
def auZ(c:Operand)(x y:XT):XT:=λan α s k=>match an with
 | .jn _ rd pat l r=>afT rd pat c s (x l) (y r) k
 |an=>sA c s (λs=>x an.l α s k) (λs=>y an.r α s k)
def aoh(id:Nat)(x:XT):XT:=λan α s k=>x an α s (vT id k)
def asn(fuel:Nat)(x:XT):XT:=λan α s k=>match an with
 | .lp _ rd pat Jj b=>match rd s with
  |some p=>match Jj p with
   |some q=>x b α (pat q) (RI k λ_=>G)
   |none=>G
  |none=>G
 |an=>Gk (x an α) k fuel s
def oC(P:Program)(F:bu)(n:Nat)(fuel:Nat)(c:Code):XT:=
 Code.rec (λ_ _ s k=>aeV s k) (ays P F n) (λ_ _=>aAa) (λc _ _=>auZ c) (λid _=>aoh id) (λ_=>asn fuel) (λ_ _ _ _ _ _ _ _ s k=>IT s k) (λi _ _ s k=>adN i s k) (λ_ _ _ _ s k=>IT s k) (λ_ _ _ s k=>IT s k) (λ_ _ _ s k=>IT s k) (λ_ _ s k=>aoE s k) (λ_ _ _ s k=>IT s k) c
def tY{γ:Type}(n0 n:Nat)(rd:St->aa γ)(pat:γ->St):Prop:=∀(C:Cg) s p a w,C.n=n0->rd s=V p->Mt C n s a w->Mt C n (pat p) a w
def Wu{γ:Type}(x:XT)(rd:St->aa γ)(pat:γ->St)(b:An):Nat->γ->γ->Prop
 |0,p,q=>p=q
 |n+1,p,q=>∃p',x b (aa γ) (pat p) (kOn rd)=V (V p')/\Wu x rd pat b n p' q
def VD{γ:Type}(x:XT)(rd:St->aa γ)(pat:γ->St)(Jj:γ->aa γ)(b:An):Prop:=
 ∀p q,Jj p=V q->∃n,Wu x rd pat b n p q
def QM(P:Program)(F:bu)(n0 n:Nat)(fuel:Nat)(c:Code):An->Prop:=
 Code.rec (λ_=>True) (λ_ _ _ an=>match an with
  | .rb fs _=>∀f∈fs,bA F f
  |_=>True) (λ_ _ x y an=>x an.l/\y an.r) (λ_ _ _ x y an=>(∀γ rd pat l r,an= .jn γ rd pat l r->tY n0 n rd pat)/\x an.l/\y an.r) (λ_ _ x=>x)
  (λc x an=>match an with
   | .lp _ rd pat Jj b=>tY n0 n rd pat/\VD (oC P F n fuel c) rd pat Jj b/\x b
   |an=>x an) (λ_ _ _ _ _ _ _=>True) (λ_ _=>True) (λ_ _ _=>True) (λ_ _=>True) (λ_ _=>True) (λ_=>True) (λ_ _=>True) c
section
variable {P:Program} {F:bu} {C:Cg} {n0 n:Nat}
def afn(hF:iQ P F)(hN:dX F)(hC:C.n=n0)(fuel:Nat)(c:Code):∀an,QM P F n0 n fuel c an->∀(α:Type),aaa (α:=α) P C n c (oC P F n fuel c an α):=by
 induction c with
 |skip=>exact λan _ α r s k a w h hm=>wp_skip ⟨s,h,hm⟩
 |region id ops draw=>
  intro an ho α;cases an with
  |rb fs t=>
   cases draw with
   |false=>exact aaK hF hN ho id t ops
   |true=>exact G3 hF hN id ops J
  |_=>exact G3 hF hN id ops draw
 |seq x y hx hy=>
  intro an ho α r s k a w h hm;obtain⟨h1,h2⟩:QM P F n0 n fuel x an.l/\QM P F n0 n fuel y an.r:=ho;refine wp_seq (wp_mono (hx an.l h1 α r s _ a w h hm) λe a' w' ⟨s',g1,g2⟩=> ?_);cases e with
  |normal=>exact hy an.r h2 α r s' k a' w' g1 g2
  |_=>exact⟨s',g1,g2⟩
 |cond c x y hx hy=>
  intro an ho α r s k a w h hm;obtain⟨h0,h1,h2⟩:(∀γ rd pat l r,an= .jn γ rd pat l r->tY n0 n rd pat)/\QM P F n0 n fuel x an.l/\QM P F n0 n fuel y an.r:=ho;have plain:sA c s (λs=>oC P F n fuel x an.l α s k) (λs=>oC P F n fuel y an.r α s k)=V r->Ends P C n (.cond c x y) k r a w:=λh=>by
   obtain⟨b,s',he,hm',h'⟩:=OG h hm;cases b with
   |true=>exact wp_cond_true he (hx an.l h1 α r s' k a w h' hm')
   |false=>exact wp_cond_false he (hy an.r h2 α r s' k a w h' hm')
  cases an with
  |jn γ rd pat l r'=>
   have hrd:=h0 γ rd pat l r' rfl;change afT rd pat c s (oC P F n fuel x l) (oC P F n fuel y r') k=V r at h;unfold afT at h;split at h
   case h_2=>cases h
   rename_i t;split at h
   case h_2=>cases h
   rename_i b hb;split at h
   case h_2=>cases h
   rename_i p hp;split at h
   case h_2=>cases h
   rename_i q hq;have hev:a.eval (.tmp t)= .bool b:=by
    obtain⟨E,hh,_,_,ρ,_,hs⟩:=hm;refine X6 hs ?_;have g1:=hh t _ hb;show Env.get (E.sub ρ) t=_;rw[Env.fo,g1,yI,bV]
   have fin:∀(p:γ),k .normal (pat p)=V r->∀e a' w',(∃s',auo rd e s'=V p/\Mt C n s' a' w')->∃s',k e s'=V r/\Mt C n s' a' w':=λp hk e a' w' ⟨s',g1,g2⟩=>by
    cases e with
    |normal=>exact⟨_,hk,hrd C s' p a' w' hC g1 g2⟩
    |_=>cases g1
   cases b with
   |true=>exact wp_cond_true hev (wp_mono (hx l h1 γ p _ _ a w hp (hm.gi hb)) (fin p h))
   |false=>exact wp_cond_false hev (wp_mono (hy r' h2 γ q _ _ a w hq (hm.gi hb)) (fin q h))
  |_=>exact plain h
 |block id x hx=>
  intro an ho α r s k a w h hm;refine wp_block (wp_mono (hx an ho α r s _ a w h hm) λe a' w' ⟨s',h1,h2⟩=> ?_);cases e with
  |exit id'=>
   simp only[vT]at h1;simp only[Exit.inBlock];split
   ·rename_i he;subst he;have hb:zc id' id'=J:=Nat.beq_refl _;simp only[hb]at h1;exact⟨s',h1,h2⟩
   ·rename_i he;have hb:zc id' id=O:=by
     cases hb:zc id' id with
     |false=>rfl
     |true=>exact dS (xx hb) he
    simp only[hb]at h1;exact⟨s',h1,h2⟩
  |_=>exact⟨s',h1,h2⟩
 |loop c hc=>
  intro an ho α r s k a w h hm;cases an with
  |lp γ rd pat Jj b=>
   obtain⟨hrd,hadv,hb⟩:tY n0 n rd pat/\VD (oC P F n fuel c) rd pat Jj b/\QM P F n0 n fuel c b:=ho;change (match rd s with
    |some p=>match Jj p with
     |some q=>oC P F n fuel c b α (pat q) (RI k λ_=>G)
     |none=>G
    |none=>G)=V r at h
   split at h
   case h_2=>cases h
   rename_i p hp;split at h
   case h_2=>cases h
   rename_i q hq;obtain⟨m,hgo⟩:=hadv p q hq;have key:∀(m:Nat) (p:γ),Wu (oC P F n fuel c) rd pat b m p q->∀(a:Act) (w:World),Mt C n (pat p) a w->
     c.wp P (Exit.then (InL P c λe a' w'=>∃s',k e s'=V r/\Mt C n s' a' w') λe a' w'=>∃s',k e s'=V r/\Mt C n s' a' w') a w:=by
    intro m;induction m with
    |zero=>
     intro p hg a w hm;have hg:p=q:=hg;subst hg;refine wp_mono (hc b hb α r _ _ a w h hm) λe a' w' ⟨s',q1,q2⟩=> ?_;cases e with
     |normal=>cases q1
     |_=>exact⟨s',q1,q2⟩
    |succ m ih=>
     intro p hg a w hm;obtain⟨p',g1,g3⟩:=hg;refine wp_mono (hc b hb (aa γ) (V p') _ _ a w g1 hm) λe a' w' ⟨s',q1,q2⟩=> ?_;cases e with
     |normal=>
      obtain⟨p'',q3,q4⟩:=zn.1 (show (rd s').map V=V (V p')from q1);cases q4;exact Od (ih p' g3 a' w' (hrd C s' p' a' w' hC q3 q2))
     |_=>cases q1
   exact JH (key m p hgo a w (hrd C s p a w hC hp hm))
  |_=>exact JL (hc _ ho α) fuel r s k a w h hm
 |exit i=>exact λan _ α r s k a w h hm=>wp_exit ⟨s,h,hm⟩
 |ret=>exact λan _ α r s k a w h hm=>wp_ret ⟨s,h,hm⟩
 |_=>exact λan _ α r s k a w h hm=>by cases h
def bZ(P:Program)(F:bu)(fuel:Nat)(an:An){α:Type}(f:FuncId)(args:af AV)(R:bt)(nx:Nat)(k:St->aa α):aa α:=match P.funcs[f]? with
 |some fn=>match fn.body with
  |some c=>match yp (zY args) fn.ntmps&& !(fn.name=="runtime.NumGoroutine")with
   |true=>oC P F fn.ntmps fuel c an α ⟨Pp 0 args .e,R,nx⟩ λe s=>match e with
    | .normal=>k s
    | .ret=>k s
    |_=>G
   |false=>G
  |none=>G
 |none=>G
def gu(P:Program)(F:bu)(n0:Nat)(fuel:Nat)(f:FuncId)(an:An):Prop:=∀fn c,P.funcs[f]? =V fn->fn.body=V c->QM P F n0 fn.ntmps fuel c an
def oK(P:Program)(f:FuncId)(s:St):aa (af AV):=match P.funcs[f]? with
 |some fn=>I9 P s fn.results.toList
 |none=>G
structure Out where
 d:AV
 R:bt
 c:Nat
def N4(P:Program)(f:FuncId)(args:af AV)(R0:bt)(n0:Nat)(x:Out):Prop:=∀ρ:Gh,Fn P f (args.map (b7.sub ρ)) (bt.res ρ R0) (λa s=>∃ρ':Gh,qC n0 ρ ρ'/\a=x.d.sub ρ'/\List.Perm s (bt.res ρ' x.R))
def nP(hF:bD P F){n0 fuel:Nat}{f:FuncId}{an:An}(han:gu P F n0 fuel f an){args:af AV}{R0:bt}{γ:Type}{rd:St->aa γ}{pat:γ->St}{out:γ->Out}{p:γ}
  (hrd:∀n,tY n0 n rd pat) (ho:∀p,(match oK P f (pat p)with
   |some ds=>V (Out.mk (fA ds) (uh (pat p).R n0 (fA ds)) (pat p).nx)
   |none=>G)=V (out p))
  (hargs:∀d∈args,cV n0 d) (hR:bt.cV n0 R0) (h:bZ P F fuel an f args R0 n0 rd=V p):vQ P f/\N4 P f args R0 n0 (out p):=by
 unfold bZ at h;split at h
 case h_2=>cases h
 rename_i fn hf;split at h
 case h_2=>cases h
 rename_i c hb;split at h
 case h_2=>cases h
 rename_i hc;rw[zi]at hc;obtain⟨hl,hnm⟩:=hc;have hop:=ho p;split at hop
 case h_2=>cases hop
 rename_i ds hds;have hds:I9 P (pat p) fn.results.toList=V ds:=by
  unfold oK at hds;rw[hf]at hds;exact hds
 have hop:=zF.inj hop;refine⟨⟨fn,hf,by simpa using hnm,by rw[hb];rfl⟩,λρ=>Fn.of hf hb rfl (by rw[zB];exact hl) λC a w ha=> ?_⟩;have hm:Mt ⟨C,ρ,n0⟩ fn.ntmps ⟨Pp 0 args .e,R0,n0⟩ a w:=by
  refine⟨fk 0 args,?_,λq hq=>hargs _ (rX hq),hR,ρ,⟨.refl _ _,zl _⟩,?_⟩
  ·have:=B7 args 0 .e [] (λt d ht=>by cases t<;>cases ht) (λt d ht=>by cases t<;>cases ht)
   rwa [yu]at this
  ·rw[qN];exact ha
 refine wp_mono (afn (C:=⟨C,ρ,n0⟩) hF.ok hF.nat rfl fuel c an (han fn c hf hb) γ p _ _ a w h hm) λe a' w' ⟨s',h1,h2⟩=> ?_;have fin:∀e:Exit,(e= .normal\/e= .ret)->rd s'=V p->∃E' σ',Ah C fn.ntmps E' σ' a' w'/\ahc P C fn.ntmps fn (λa s=>∃ρ':Gh,qC n0 ρ ρ'/\a=(out p).d.sub ρ'/\List.Perm s (bt.res ρ' (out p).R)) e E' σ':=λe he hp=>by
  have hm':=hrd fn.ntmps ⟨C,ρ,n0⟩ s' p a' w' rfl hp h2;obtain⟨E,hh,hE,hR,ρ',⟨hag,hnx⟩,hsim⟩:=hm';have hsub:List.Sublist (uh (pat p).R n0 (fA ds)) (pat p).R:=CP _ _ _;refine⟨_,_,hsim,aa3 (σ':=bt.res ρ' (uh (pat p).R n0 (fA ds))) (av:=(fA ds).sub ρ') he (hsub.map _) ⟨ρ',hag,by rw[<-hop],by rw[<-hop]⟩ λA w' tmps hd hs=> ?_⟩;obtain⟨us,q1,q2⟩:=KR hh hd hs hds;refine⟨_,?_,RH q2⟩;show (do let vs <-fn.results.mapM (Ab tmps);pure (if h:vs.size=1 then vs[0]else .tuple vs):Sem Value).run P w'=_;have e1:fn.results=fn.results.toList.toArray:=by simp
  rw[e1,List.mapM_toArray];simp[q1]
 cases e with
 |normal=>exact fin _ (.inl rfl) h1
 |ret=>exact fin _ (.inr rfl) h1
 |_=>cases h1
end
section
variable {γ:Type} (rnd:γ->aa (aa γ))
def mY:Nat->γ->γ->Prop
 |0,p,q=>p=q/\∀r,rnd p≠V (V r)
 |n+1,p,q=>∃p',rnd p=V (V p')/\mY n p' q
open Classical in
def bI(p:γ):aa γ:=if h:∃q n,mY rnd n p q then V (Classical.choose h)else G
variable {rnd}
def mY.det:∀{n m:Nat} {p q q':γ},mY rnd n p q->mY rnd m p q'->n=m/\q=q'
 |0,0,p,q,q',⟨h1,_⟩,⟨h2,_⟩=>⟨rfl,h1▸h2⟩
 |0,m+1,p,q,q',⟨h1,h3⟩,⟨p',h2,_⟩=>dS h2 (h3 p')
 |n+1,0,p,q,q',⟨p',h2,_⟩,⟨h1,h3⟩=>dS h2 (h3 p')
 |n+1,m+1,p,q,q',⟨p',h1,h2⟩,⟨p'',h3,h4⟩=>by
  rw[h1]at h3;cases h3;obtain⟨e1,e2⟩:=mY.det h2 h4;exact⟨by rw[e1],e2⟩
def mY.Jj{n:Nat}{p q:γ}(h:mY rnd n p q):bI rnd p=V q:=by
 have hx:∃q n,mY rnd n p q:=⟨q,n,h⟩;unfold bI;rw[dif_pos hx];obtain⟨m,hm⟩:=Classical.choose_spec hx;rw[(mY.det hm h).2]
def mY.last{n:Nat}{p q:γ}(h:mY rnd n p q):∀r,rnd q≠V (V r):=by
 induction n generalizing p with
 |zero=>obtain⟨h1,h2⟩:=h;rw[<-h1];exact h2
 |succ n ih=>obtain⟨p',_,h2⟩:=h;exact ih h2
def mY.ex(I:γ->Prop)(m:γ->Nat)(h:∀p q,I p->rnd p=V (V q)->I q/\m q<m p):∀(k:Nat) (p:γ),m p<=k->I p->∃n q,mY rnd n p q/\I q
 |k,p,hk,hp=>by
  by_cases hq:∃q,rnd p=V (V q)
  ·obtain⟨q,hq⟩:=hq;obtain⟨h1,h2⟩:=h p q hp hq
   match k with
   |0=>omega
   |k+1=>
    obtain⟨n,r,h3,h4⟩:=mY.ex I m h k q au h1;exact⟨n+1,r,⟨q,hq,h3⟩,h4⟩
  ·exact⟨0,p,⟨rfl,λr hr=>hq ⟨r,hr⟩⟩,hp⟩
def Dl{p q:γ}(h:bI rnd p=V q):∃n,mY rnd n p q:=by
 unfold bI at h;split at h
 ·rename_i hx;cases h;exact Classical.choose_spec hx
 ·cases h
def mG(I:γ->Prop)(m:γ->Nat)(h:∀p q,I p->rnd p=V (V q)->I q/\m q<m p){p:γ}(hp:I p):∃q,bI rnd p=V q/\I q/\∀r,rnd q≠V (V r):=by
 obtain⟨n,q,h1,h2⟩:=mY.ex I m h (m p) p (zl _) hp;exact⟨q,h1.Jj,h2,h1.last⟩
def bP{p p':γ}(h:rnd p=V (V p')):bI rnd p=bI rnd p':=by
 cases h2:bI rnd p' with
 |some q=>
  obtain⟨n,hn⟩:=Dl h2;exact(show mY rnd (n+1) p q from⟨p',h,hn⟩).Jj
 |none=>
  cases h1:bI rnd p with
  |none=>rfl
  |some q=>
   obtain⟨n,hn⟩:=Dl h1;cases n with
   |zero=>exact dS h (hn.2 p')
   |succ n=>
    obtain⟨p'',h3,h4⟩:=hn;rw[h]at h3;cases h3;rw[h4.Jj]at h2;cases h2
def cn{p:γ}(h:∀r,rnd p≠V (V r)):bI rnd p=V p:=(show mY rnd 0 p p from⟨rfl,h⟩).Jj
def mY.x{x:XT}{rd:St->aa γ}{pat:γ->St}{b:An}(hx:∀p,x b (aa γ) (pat p) (kOn rd)=rnd p):∀{n:Nat} {p q:γ},mY rnd n p q->Wu x rd pat b n p q
 |0,_,_,h=>h.1
 |_+1,_,_,⟨p',h1,h2⟩=>⟨p',by rw[hx];exact h1,mY.x hx h2⟩
def N2{x:XT}{rd:St->aa γ}{pat:γ->St}{b:An}(hx:∀p,x b (aa γ) (pat p) (kOn rd)=rnd p):VD x rd pat (bI rnd) b:=λp q h=>by
 obtain⟨n,hn⟩:=Dl h;exact⟨n,hn.x hx⟩
end
section
variable {β γ δ:Type}
def PN(f:AV->aa β)(c:β->AV):Prop:=∀a b,f a=V b->(∀(ρ:Gh) A w v,Rel A w (a.sub ρ) v->Rel A w ((c b).sub ρ) v)/\∀n,cV n a->cV n (c b)
def PN.of{f:AV->aa β}{c:β->AV}(h:P1 f c)(hc:∀a b,f a=V b->Ja 2 a=J)(hl:∀b,(∀ρ,(c b).sub ρ=c b)/\∀n,cV n (c b)):PN f c:=λa b hb=>
 ⟨λρ A w v hr=>by rw[kO 2 (hc a b hb)]at hr;rw[(hl b).1];exact h a b hb A w v hr,λn _=>(hl b).2 n⟩
def PN.i(k:IntKind):PN (iI k) (b7.n k):= .of (.i k) (λa b h=>by
 unfold iI at h;split at h
 ·rfl
 ·cases h) λb=>⟨λρ=>bV ρ _,λn=> .lit _⟩
def PN.b:PN Sq b7.b:= .of .b (λa b h=>by
 unfold Sq at h;split at h
 ·rfl
 ·cases h) λb=>⟨λρ=>bV ρ _,λn=> .lit _⟩
def PN.s:PN asS b7.s:= .of .s (λa b h=>by
 unfold asS at h;split at h
 ·rfl
 ·cases h) λb=>⟨λρ=>bV ρ _,λn=> .lit _⟩
def PN.l(t:Nat):PN (kj t) (b7.sl t):= .of (.l t) (λa b h=>by
 unfold kj at h;split at h
 ·rfl
 ·rfl
 ·cases h) λb=>⟨λρ=>gP ρ _ _,λn=> .sl _ _⟩
def ajH(t:Nat):AV->aa (U.de t)
 | .agg cs=>match cs.all (Ja 1)with
  |true=>L.parse t cs
  |false=>G
 |_=>G
def PN.g(t:Nat):PN (ajH t) (λx=> .agg (U.cells t x)):= .of (λa b h A w v hr=>by
 unfold ajH at h;split at h
 ·split at h
  ·obtain⟨us,rfl,h2⟩:=hr.pY;exact Rel.qA (L.mD _ _ _ h A w us h2)
  ·cases h
 ·cases h) (λa b h=>by
 unfold ajH at h;split at h
 ·split at h
  ·rename_i hc;exact hc
  ·cases h
 ·cases h) λb=>⟨λρ=>by rw[fm,L.clo],λn=> .agg _ (L.sU t b n)⟩
def asP(id off:Nat):AV->aa Unit
 | .ptr i o=>match zc i id&&zc o off with
  |true=>V ()
  |false=>G
 |_=>G
def PN.p(id off:Nat):PN (asP id off) (λ_=> .ptr id off):=λa b h=>by
 unfold asP at h;split at h
 ·split at h
  ·rename_i hc;rw[zi]at hc;rw[gZ hc.1,gZ hc.2];exact⟨λ_ _ _ _ h=>h,λ_ h=>h⟩
  ·cases h
 ·cases h
def asO(id:Nat):AV->aa Unit
 | .own i=>match zc i id with
  |true=>V ()
  |false=>G
 |_=>G
def PN.o(id:Nat):PN (asO id) (λ_=> .own id):=λa b h=>by
 unfold asO at h;split at h
 ·split at h
  ·rename_i hc;rw[gZ hc];exact⟨λ_ _ _ _ h=>h,λ_ h=>h⟩
  ·cases h
 ·cases h
def RT(q:af AV->aa γ)(c:γ->af AV):Prop:=∀cs g,q cs=V g->(∀(ρ:Gh) A w us,bN A w (cs.map (b7.sub ρ)) us->bN A w ((c g).map (b7.sub ρ)) us)/\∀n,(∀a∈cs,cV n a)->∀a∈c g,cV n a
def RT.nil:RT qD (λ_=>[]):=λcs g h=>by
 unfold qD at h;split at h
 ·exact⟨λρ A w us hr=>hr,λn h=>h⟩
 ·cases h
def RT.cons{f:AV->aa β}{c:β->AV}{q:af AV->aa γ}{d:γ->af AV}(h:PN f c)(hq:RT q d):RT (dR f q) (λx=>c x.1::d x.2):=λcs g hg=>by
 unfold dR at hg;split at hg
 ·obtain⟨b,h1,hg⟩:=zu.1 hg;obtain⟨g',h2,rfl⟩:=zn.1 hg;obtain⟨h3,h4⟩:=h _ _ h1;obtain⟨h5,h6⟩:=hq _ _ h2;refine⟨λρ A w us hr=> ?_,λn hn a ha=> ?_⟩
  ·rw[yf]at hr ⊢;obtain⟨v,us',rfl,h7,h8⟩:=hr.head;exact bN.cons (h3 ρ A w v h7) (h5 ρ A w us' h8)
  ·rcases zx.1 ha with rfl|ha
   ·exact h4 n (hn _ zk)
   ·exact h6 n (λa ha=>hn a (zL _ ha)) a ha
 ·cases hg
def aur(k:Nat)(q:af AV->aa γ):AV->aa γ
 | .fn (.func i) cs=>match zc i k with
  |true=>q cs
  |false=>G
 |_=>G
def PN.ff(k:Nat){q:af AV->aa γ}{c:γ->af AV}(h:RT q c):PN (aur k q) (λx=> .fn (.func k) (c x)):=λa b hb=>by
 unfold aur at hb;split at hb
 ·rename_i i cs;split at hb
  ·rename_i hi;have hi:=gZ hi;subst hi;obtain⟨h1,h2⟩:=h _ _ hb;refine⟨λρ A w v hr=> ?_,λn hn=> .fn _ _ (h2 n hn.fnL)⟩;rw[uF]at hr ⊢;generalize ha:b7.fn (Fn.func i) (cs.map (b7.sub ρ))=a at hr;cases hr with
   |fn f cs' us hl hr=>
    cases ha;obtain⟨h3,h4⟩:=h1 ρ A w us ⟨hl,hr⟩;exact .fn _ _ us h3 h4
   |_=>cases ha
  ·cases hb
 ·cases hb
def arV(q:af AV->aa γ):AV->aa γ
 | .fp cs=>q cs
 |_=>G
def PN.fp{q:af AV->aa γ}{c:γ->af AV}(h:RT q c):PN (arV q) (λx=> .fp (c x)):=λa b hb=>by
 unfold arV at hb;split at hb
 ·rename_i cs;obtain⟨h1,h2⟩:=h _ _ hb;refine⟨λρ A w v hr=> ?_,λn hn=> ?_⟩
  ·rw[n9]at hr ⊢;generalize ha:b7.fp (cs.map (b7.sub ρ))=a at hr;cases hr with
   |fp cs' b o us hb hA hl hc hr=>
    cases ha;obtain⟨h3,h4⟩:=h1 ρ A w us ⟨hl,hr⟩;exact .fp _ b o us hb hA h3 hc h4
   |_=>cases ha
  ·generalize ha:b7.fp cs=a at hn;cases hn with
   |fp cs' h5=>cases ha;exact .fp _ (h2 n h5)
   |_=>cases ha
 ·cases hb
def arD:AV->aa Unit
 | .lit (.slice G 0 0)=>V ()
 |_=>G
def PN.ns:PN arD (λ_=> .lit (.slice G 0 0)):=λa b hb=>by
 unfold arD at hb;split at hb
 ·exact⟨λ_ _ _ _ h=>h,λ_ h=>h⟩
 ·cases hb
def avo:AV->aa Unit
 | .lit (.pointer G)=>V ()
 |_=>G
def PN.np:PN avo (λ_=> .lit (.pointer G)):=λa b hb=>by
 unfold avo at hb;split at hb
 ·exact⟨λ_ _ _ _ h=>h,λ_ h=>h⟩
 ·cases hb
def atT(t:Nat)(cs:af AV):aa (U.de t):=match cs.all (Ja 1)with
 |true=>L.parse t cs
 |false=>G
def RT.parse(t:Nat):RT (atT t) (λx=>U.cells t x):=λcs g h=>by
 unfold atT at h;split at h
 ·rename_i hc;have e:∀ρ,cs.map (b7.sub ρ)=cs:=λρ=>by
   have:cs.map (b7.sub ρ)=cs.map id:=zX λa ha=>kO 1 (zw.1 hc a ha);rw[this,List.map_id]
  exact⟨λρ A w us hr=>by rw[e]at hr;rw[L.clo];exact L.mD _ _ _ h A w us hr,λn _=>L.sU t g n⟩
 ·cases h
def slN(_:ET):aa Unit:=V ()
def slC(t:Nat)(f:AV->aa β)(q:ET->aa γ)(T:ET):aa (β×γ):=match cU T t with
 |some a=>(f a).bind λb=>(q T).map λg=>(b,g)
 |none=>G
def S9(q:ET->aa γ)(d:γ->Env):Prop:=∀T g,q T=V g->∀(E:Env),Ad T E->(∀(ρ:Gh) A w tmps,mU A w (E.sub ρ) tmps->mU A w ((d g).sub ρ) tmps)/\∀n,E.cV n->(d g).cV n
def S9.nil:S9 slN (λ_=>[]):=λT g _ E _=>⟨λρ A w tmps _ t av h=>(by cases h),λn _ p hp=>(by cases hp)⟩
def S9.cons{t:Nat}{f:AV->aa β}{c:β->AV}{q:ET->aa γ}{d:γ->Env}(hf:PN f c)(hq:S9 q d):S9 (slC t f q) (λx=>(t,c x.1)::d x.2):=λT g h E hh=>by
 unfold slC at h;split at h
 case h_2=>cases h
 rename_i a ha;obtain⟨b,hb,h⟩:=zu.1 h;obtain⟨g',hg,rfl⟩:=zn.1 h;obtain⟨h1,h2⟩:=hf a b hb;obtain⟨h3,h4⟩:=hq T g' hg E hh;refine⟨λρ A w tmps hs s av hx=> ?_,λn hn p hp=> ?_⟩
 ·have hx:Env.get ((t,(c b).sub ρ)::(d g').sub ρ) s=V av:=hx;by_cases hts:t=s
  ·subst hts;rw[Env.fh]at hx;cases hx;obtain⟨v,q1,q2⟩:=hs t (a.sub ρ) (by rw[Env.fo,hh t a ha];rfl);exact⟨v,q1,h1 ρ A w v q2⟩
  ·rw[Env.dV _ _ hts]at hx;exact h3 ρ A w tmps hs s av hx
 ·rcases zx.1 hp with rfl|hp
  ·exact h2 n (hn _ (Env.get_mem (hh t a ha)))
  ·exact h4 n hn p hp
def arO(E:Env):ET:=List.rec .e (λp _ T=>nI p.1 p.2 T) E
def Df:∀E:Env,Ad (arO E) E
 |[]=>λt d h=>by cases t<;>cases h
 |p::E=>(Df E).put p.1 p.2
def leR(p p':Nat×IR):Prop:=p.1=p'.1/\(∀(ρ:Gh) A w,(p.2.res ρ p.1).ok A w->(p'.2.res ρ p'.1).ok A w)/\(∀ρ:Gh,(p.2.res ρ p.1).blk=(p'.2.res ρ p'.1).blk)/\∀n,p.2.cV n->p'.2.cV n
inductive NW:bt->bt->Prop
 |nil:NW [] []
 |cons {p p':Nat×IR} {R R':bt} (h:leR p p') (hs:NW R R'):NW (p::R) (p'::R')
def rsN:bt->aa Unit
 |[]=>V ()
 |_=>G
def rsR(id t:Nat)(q:bt->aa γ):bt->aa (af (U.de t)×γ)
 |(i, .row t' l)::R=>match zc i id with
  |true=>(Bc t' t l).bind λl=>(q R).map λg=>(l,g)
  |false=>G
 |_=>G
def IC(q:bt->aa γ)(d:γ->bt):Prop:=∀R g,q R=V g->NW R (d g)
def IC.nil:IC rsN (λ_=>[]):=λR g h=>by
 cases R with
 |nil=>exact .nil
 |cons p R=>cases h
def IC.row{id t:Nat}{q:bt->aa γ}{d:γ->bt}(hq:IC q d):IC (rsR id t q) (λx=>(id, .row t x.1)::d x.2):=λR g h=>by
 obtain⟨i,t',l,R',rfl,hcd,h9⟩:∃i t' l R',R=(i,IR.row t' l)::R'/\zc i id=J/\((Bc t' t l).bind λl=>(q R').map λg=>(l,g))=V g:=by
  unfold rsR at h;split at h
  ·split at h
   ·rename_i hcd;exact⟨_,_,_,_,rfl,hcd,h⟩
   ·cases h
  ·cases h
 have e1:=gZ hcd;subst e1;obtain⟨l',hl,h9⟩:=zu.1 h9;obtain⟨g',hg,rfl⟩:=zn.1 h9;obtain⟨rfl,rfl⟩:=oH hl;exact .cons ⟨rfl,λρ A w h=>h,λρ=>rfl,λn h=>h⟩ (hq _ _ hg)
def aue(id T:Nat)(f:af AV->aa β)(q:bt->aa γ):bt->aa (β×γ)
 |(i, .box T' cs)::R=>match zc i id&&zc T' T with
  |true=>(f cs).bind λb=>(q R).map λg=>(b,g)
  |false=>G
 |_=>G
def IC.aHC{id T:Nat}{f:af AV->aa β}{c:β->af AV}{q:bt->aa γ}{d:γ->bt}(hf:RT f c)(hq:IC q d):IC (aue id T f q) (λx=>(id, .box T (c x.1))::d x.2):=λR g h=>by
 obtain⟨i,T',cs,R',rfl,hcd,h9⟩:∃i T' cs R',R=(i,IR.box T' cs)::R'/\(zc i id&&zc T' T)=J/\((f cs).bind λb=>(q R').map λg=>(b,g))=V g:=by
  unfold aue at h;split at h
  ·split at h
   ·rename_i hcd;exact⟨_,_,_,_,rfl,hcd,h⟩
   ·cases h
  ·cases h
 rw[zi]at hcd;have e1:=gZ hcd.1;have e2:=gZ hcd.2;subst e1 e2;obtain⟨b,hb,h9⟩:=zu.1 h9;obtain⟨g',hg,rfl⟩:=zn.1 h9;obtain⟨k1,k2⟩:=hf _ _ hb;exact .cons ⟨rfl,λρ A w ⟨us,h1,h2⟩=>⟨us,h1,k1 ρ A w us h2⟩,λρ=>rfl,λn hn=>k2 n hn⟩ (hq _ _ hg)
def Fo{ρ:Gh}:∀{R R':bt},NW R R'->bC (bt.res ρ R)=bC (bt.res ρ R')
 |_,_, .nil=>rfl
 |_,_, .cons (p:=p) (p':=p') h hs=>by
  unfold bC bt.res;rw[yf,yf,xE,xE,h.2.2.1 ρ];have:=Fo (ρ:=ρ) hs;unfold bC bt.res at this;rw[this]
def Sl{ρ:Gh}{A:Nat->Prop}{w:World}:∀{R R':bt},NW R R'->(∀r∈bt.res ρ R,r.ok A w)->∀r∈bt.res ρ R',r.ok A w
 |_,_, .nil,_=>λr hr=>by cases hr
 |_,_, .cons (p:=p) (p':=p') h hs,h0=>λr hr=>by
  rcases zx.1 hr with rfl|hr
  ·exact h.2.1 ρ A w (h0 _ zk)
  ·exact Sl hs (λr hr=>h0 r (zL _ hr)) r hr
def Ws{n:Nat}:∀{R R':bt},NW R R'->bt.cV n R->bt.cV n R'
 |_,_, .nil,h=>h
 |_,_, .cons (p:=p) (p':=p') h hs,h0=>λq hq=>by
  rcases zx.1 hq with rfl|hq
  ·exact⟨by rw[<-h.1];exact(h0 _ zk).1,h.2.2.2 n (h0 _ zk).2⟩
  ·exact Ws hs (λq hq=>h0 q (zL _ hq)) q hq
def stR(m:Nat)(q:ET->aa γ)(r:bt->aa δ)(s:St):aa (γ×δ):=match zc s.nx m with
 |true=>(q s.E).bind λg=>(r s.R).map λh=>(g,h)
 |false=>G
def vF(m:Nat)(d:γ->Env)(e:δ->bt)(p:γ×δ):St:=⟨arO (d p.1),e p.2,m⟩
def auz{n0 n m:Nat}{q:ET->aa γ}{r:bt->aa δ}{d:γ->Env}{e:δ->bt}(hq:S9 q d)(hr:IC r e):tY n0 n (stR m q r) (vF m d e):=λC s p a w _ h hm=>by
 unfold stR at h;split at h
 case h_2=>cases h
 rename_i hnx;have hnx:=gZ hnx;obtain⟨g,hg,h⟩:=zu.1 h;obtain⟨g',hg',rfl⟩:=zn.1 h;obtain⟨E,hh,hE,hR,ρ,hag,hsim⟩:=hm;obtain⟨h1,h2⟩:=hq _ _ hg E hh;have h3:=hr _ _ hg';have hb:bC (bt.res ρ (e g'))=bC (bt.res ρ s.R):=(Fo h3).symm;have hal:∀b,al C.C (bt.res ρ s.R) b->al C.C (bt.res ρ (e g')) b:=λb hA=>⟨hA.1,by rw[hb];exact hA.2⟩;subst hnx;have hdis:(bC (bt.res ρ (e g'))).Nodup:=by rw[hb];exact hsim.good.Ju
 refine⟨d g,Df _,h2 _ hE,Ws h3 hR,ρ,hag,hsim.defers.step (λb _ hA=>⟨hal b hA,rfl⟩),hsim.size,λt av ht=> ?_,hsim.good.kept,λx hx=> ?_,hdis,λb hx=>hsim.good.own b (by rw[<-hb];exact hx)⟩
 ·obtain⟨v,q1,q2⟩:=h1 ρ _ w a.tmps hsim.slots t av ht;exact⟨v,q1,q2.mono λb _ hA=>⟨hal b hA,rfl⟩⟩
 ·exact(Sl h3 hsim.good.res x hx).mono (λb _ hA=>⟨hal b hA,rfl⟩) (λ_ _=>rfl)
end
def rdM{γ γ':Type}(e:γ->γ')(rd:St->aa γ)(s:St):aa γ':=match rd s with
 |some p=>V (e p)
 |none=>G
def tY.m{γ γ':Type}{n0 n:Nat}{rd:St->aa γ}{pat:γ->St}(h:tY n0 n rd pat)(e:γ->γ'){pat':γ'->St}(he:∀p,pat' (e p)=pat p):tY n0 n (rdM e rd) pat':=λC s p a w hC hr hm=>by
 unfold rdM at hr;split at hr
 ·rename_i p' hp;cases hr;rw[he];exact h C s p' a w hC hp hm
 ·cases hr
def aax(c:Code):An->af (Code×An):=
 Code.rec (λ_=>[]) (λ_ _ _ an=>match an with
   | .rb fs t=>[(.skip, .rb fs t)]
   |_=>[]) (λ_ _ x y an=>x an.l++y an.r) (λ_ _ _ x y an=>(match an with
   | .jn γ rd pat l r=>[(.skip, .jn γ rd pat l r)]
   |_=>[])++(x an.l++y an.r)) (λ_ _ x=>x)
  (λc x an=>match an with
   | .lp γ rd pat Jj b=>(c, .lp γ rd pat Jj b)::x b
   |an=>x an) (λ_ _ _ _ _ _ _=>[]) (λ_ _=>[]) (λ_ _ _=>[]) (λ_ _=>[]) (λ_ _=>[]) (λ_=>[]) (λ_ _=>[]) c
def Ip(P:Program)(F:bu)(n0 n:Nat)(fuel:Nat)(p:Code×An):Prop:=match p.2 with
 | .lp _ rd pat Jj b=>tY n0 n rd pat/\VD (oC P F n fuel p.1) rd pat Jj b
 | .jn _ rd pat _ _=>tY n0 n rd pat
 | .rb fs _=>∀f∈fs,bA F f
 |_=>True
def akA{P:Program}{F:bu}{n0 n fuel:Nat}(c:Code):∀an,(∀p∈aax c an,Ip P F n0 n fuel p)->QM P F n0 n fuel c an:=by
 induction c with
 |region id ops draw=>
  intro an h;cases an with
  |rb fs t=>exact h (.skip, .rb fs t) (zo.2 rfl)
  |_=>exact trivial
 |seq x y hx hy=>
  intro an h;exact⟨hx an.l λp hp=>h p (yJ _ hp),hy an.r λp hp=>h p (yK _ hp)⟩
 |cond c x y hx hy=>
  intro an h;refine⟨λγ rd pat l r he=> ?_,hx an.l λp hp=>h p (yK _ (yJ _ hp)),hy an.r λp hp=>h p (yK _ (yK _ hp))⟩;subst he;exact h (.skip, .jn γ rd pat l r) (yJ _ (zo.2 rfl))
 |block id x hx=>exact λan h=>hx an h
 |loop c hc=>
  intro an h;cases an with
  |lp γ rd pat Jj b=>
   have h0:=h (c, .lp γ rd pat Jj b) zk;exact⟨h0.1,h0.2,hc b λp hp=>h p (zL _ hp)⟩
  |no=>exact hc _ h
  |two l r=>exact hc _ h
  |jn γ rd pat l r=>exact hc _ h
  |rb fs t=>exact hc _ h
 |_=>exact λan h=>trivial
def cH{P:Program}{F:bu}{n0 fuel f:Nat}{fn:Func}{c:Code}{an:An}{l:af (Code×An)}(hf:P.funcs[f]? =V fn)(hb:fn.body=V c)(ho:aax c an=l)(h:∀p∈l,Ip P F n0 fn.ntmps fuel p):gu P F n0 fuel f an:=λfn' c' h1 h2=>by
 rw[hf]at h1;cases h1;rw[hb]at h2;cases h2;exact akA c an (by rw[ho];exact h)
def vC(fn:Func):Code:=match fn.body with
 |some c=>c
 |none=> .skip
def bT{fn:Func}(h:fn.body.isNone=O):fn.body=V (vC fn):=by
 unfold vC;cases hb:fn.body with
 |none=>rw[hb]at h;cases h
 |some c=>rfl
def amf(c:Code):af Code:=Code.rec [] (λ_ _ _=>[]) (λ_ _ x y=>x++y) (λ_ _ _ x y=>x++y) (λ_ _ x=>x) (λc x=>c::x) (λ_ _ _ _ _ _=>[]) (λ_=>[]) (λ_ _=>[]) (λ_=>[]) (λ_=>[]) [] (λ_=>[]) c
def bk(fn:Func)(i:Nat):Code:=(amf (vC fn)).getD i .skip
end Go.Iv
end
noncomputable section
set_option maxRecDepth 100000
namespace Go.Proofs.YtnfljbehcffmcaaGreat
open Go Go.Iv
open Go.IntKind (i64 u64)
structure az where
 (bF fN:Int)
 aq:List az
instance:Inhabited az:=⟨⟨0,0,[]⟩⟩
structure aB where
 (b9 bg dJ fN:Int)
 aF:az
 (aQ aX:List aB)
 aR:List Int
instance:Inhabited aB:=⟨⟨0,0,0,0,⟨0,0,[]⟩,[],[],[]⟩⟩
structure bh where
 fName:ByteArray
 (bS ah ag gJ:Int)
 deriving Inhabited,DecidableEq
structure dN where
 fName:ByteArray
 (ah ag:Int)
 aF:az
 deriving Inhabited
structure aS where
 ai:List bh
 ax:List dN
 bM:List aB
 deriving Inhabited
structure bU where
 bz:List Int
 iJ:Bool
 deriving Inhabited,DecidableEq
structure aK where
 (ah ag aj:Int)
 deriving Inhabited,DecidableEq
structure bK where
 aD:aK
 aG:List aK
 aI:aK
 LA:List aK
 deriving Inhabited,DecidableEq
structure aC where
 aM:List Int
 aI:Int
 deriving Inhabited,DecidableEq
structure nO where
 (LR bz NK:List Int)
 deriving Inhabited,DecidableEq
structure pO where
 (Nj aM:List Int)
 aI:Int
 deriving Inhabited,DecidableEq
structure Cell where
 (aZ eN:Int)
 (aq cv:List Int)
 fU:Int
 deriving Inhabited,DecidableEq
structure aW where
 cv:List aC
 aN:List Cell
 deriving Inhabited,DecidableEq
structure Part where
 (aZ eN:Int)
 aq:List Int
 dw:List aK
 deriving Inhabited,DecidableEq
structure ay where
 ai:List aK
 aD:aK
 aG:List aK
 aI:aK
 deriving Inhabited,DecidableEq
structure Runner where
 fF:aS
 ax:List aK
 deriving Inhabited
structure aJ where
 ai:List aK
 aD:aK
 aG:List aK
 aI:aK
 deriving Inhabited,DecidableEq
structure dW where
 dw:List aK
 (aZ eN:Int)
 aq:List Int
 fU:Int
 ep:Bool
 cv:aC
 deriving Inhabited,DecidableEq
structure Tree where
 fF:aS
 fV:bU
 aN:List dW
 deriving Inhabited
structure bq where
 bH:Int
 fM:Bool
 deriving Inhabited,DecidableEq
structure qH where
 (gp aM aI:Int)
 deriving Inhabited,DecidableEq
structure Machine where
 fF:aS
 (Nj ax aM:List Int)
 aI:Int
 deriving Inhabited
structure Span where
 (ah ag:Int)
 deriving Inhabited,DecidableEq
inductive Ky
 |k3
 |k4
 |k5
 |k24
 |k26
 |k27
 |k29
 |k30
 |k34
 |k36
 |k37
 |k47
 |k52
 |k56
 |k84
 |k90
 |k117
 |k128
 |k129
 |k131
 |k133
 |k137
 |k139
 |k147
 |k166
 |k172
 |k174
 |k256
 |k260
 |k313
 |k331
 |no
def ky:Nat->Ky
 |3=> .k3
 |4=> .k4
 |5=> .k5
 |24=> .k24
 |26=> .k26
 |27=> .k27
 |29=> .k29
 |30=> .k30
 |34=> .k34
 |36=> .k36
 |37=> .k37
 |47=> .k47
 |52=> .k52
 |56=> .k56
 |84=> .k84
 |90=> .k90
 |117=> .k117
 |128=> .k128
 |129=> .k129
 |131=> .k131
 |133=> .k133
 |137=> .k137
 |139=> .k139
 |147=> .k147
 |166=> .k166
 |172=> .k172
 |174=> .k174
 |256=> .k256
 |260=> .k260
 |313=> .k313
 |331=> .k331
 |_=> .no
def Hu:Ky->Type
 | .k3=>Int
 | .k4=>Bool
 | .k5=>Int
 | .k24=>af aB
 | .k26=>aS
 | .k27=>af Int
 | .k29=>bU
 | .k30=>af aK
 | .k34=>aK
 | .k36=>bK
 | .k37=>Int
 | .k47=>aC
 | .k52=>nO
 | .k56=>pO
 | .k84=>aW
 | .k90=>Part
 | .k117=>Cell
 | .k128=>ay
 | .k129=>Int
 | .k131=>bh
 | .k133=>Runner
 | .k137=>az
 | .k139=>dN
 | .k147=>aJ
 | .k166=>aB
 | .k172=>Tree
 | .k174=>dW
 | .k256=>bq
 | .k260=>qH
 | .k313=>Machine
 | .k331=>Span
 | .no=>Unit
abbrev cE(t:Nat):Type:=Hu (ky t)
@[reducible] def inhK:(k:Ky)->Inhabited (Hu k)
 | .k3=>⟨(default:Int)⟩
 | .k4=>⟨(default:Bool)⟩
 | .k5=>⟨(default:Int)⟩
 | .k24=>⟨(default:af aB)⟩
 | .k26=>⟨(default:aS)⟩
 | .k27=>⟨(default:af Int)⟩
 | .k29=>⟨(default:bU)⟩
 | .k30=>⟨(default:af aK)⟩
 | .k34=>⟨(default:aK)⟩
 | .k36=>⟨(default:bK)⟩
 | .k37=>⟨(default:Int)⟩
 | .k47=>⟨(default:aC)⟩
 | .k52=>⟨(default:nO)⟩
 | .k56=>⟨(default:pO)⟩
 | .k84=>⟨(default:aW)⟩
 | .k90=>⟨(default:Part)⟩
 | .k117=>⟨(default:Cell)⟩
 | .k128=>⟨(default:ay)⟩
 | .k129=>⟨(default:Int)⟩
 | .k131=>⟨(default:bh)⟩
 | .k133=>⟨(default:Runner)⟩
 | .k137=>⟨(default:az)⟩
 | .k139=>⟨(default:dN)⟩
 | .k147=>⟨(default:aJ)⟩
 | .k166=>⟨(default:aB)⟩
 | .k172=>⟨(default:Tree)⟩
 | .k174=>⟨(default:dW)⟩
 | .k256=>⟨(default:bq)⟩
 | .k260=>⟨(default:qH)⟩
 | .k313=>⟨(default:Machine)⟩
 | .k331=>⟨(default:Span)⟩
 | .no=>⟨()⟩
def szK:Ky->Nat
 | .k3=>1
 | .k4=>1
 | .k5=>1
 | .k24=>1
 | .k26=>3
 | .k27=>1
 | .k29=>2
 | .k30=>1
 | .k34=>3
 | .k36=>8
 | .k37=>1
 | .k47=>2
 | .k52=>3
 | .k56=>3
 | .k84=>2
 | .k90=>4
 | .k117=>5
 | .k128=>8
 | .k129=>1
 | .k131=>5
 | .k133=>4
 | .k137=>3
 | .k139=>6
 | .k147=>8
 | .k166=>10
 | .k172=>6
 | .k174=>8
 | .k256=>2
 | .k260=>3
 | .k313=>7
 | .k331=>2
 | .no=>0
def pg:(k:Ky)->Hu k->af (b7 cE)
 | .k3,x=>(λx:Int=>[.n .i64 x]) x
 | .k4,x=>(λx:Bool=>[.b x]) x
 | .k5,x=>(λx:Int=>[.n .u8 x]) x
 | .k24,x=>(λx:af aB=>[.sl 166 x]) x
 | .k26,x=>(λx:aS=>[.sl 131 x.ai, .sl 139 x.ax, .sl 166 x.bM]) x
 | .k27,x=>(λx:af Int=>[.sl 3 x]) x
 | .k29,x=>(λx:bU=>[.sl 3 x.bz, .b x.iJ]) x
 | .k30,x=>(λx:af aK=>[.sl 34 x]) x
 | .k34,x=>(λx:aK=>[.n .i64 x.ah, .n .i64 x.ag, .n .i64 x.aj]) x
 | .k36,x=>(λx:bK=>[.n .i64 x.aD.ah, .n .i64 x.aD.ag, .n .i64 x.aD.aj, .sl 34 x.aG, .n .i64 x.aI.ah, .n .i64 x.aI.ag, .n .i64 x.aI.aj, .sl 34 x.LA]) x
 | .k37,x=>(λx:Int=>[.n .i64 x]) x
 | .k47,x=>(λx:aC=>[.sl 3 x.aM, .n .i64 x.aI]) x
 | .k52,x=>(λx:nO=>[.sl 3 x.LR, .sl 3 x.bz, .sl 3 x.NK]) x
 | .k56,x=>(λx:pO=>[.sl 3 x.Nj, .sl 3 x.aM, .n .i64 x.aI]) x
 | .k84,x=>(λx:aW=>[.sl 47 x.cv, .sl 117 x.aN]) x
 | .k90,x=>(λx:Part=>[.n .i64 x.aZ, .n .i64 x.eN, .sl 3 x.aq, .sl 34 x.dw]) x
 | .k117,x=>(λx:Cell=>[.n .i64 x.aZ, .n .i64 x.eN, .sl 3 x.aq, .sl 3 x.cv, .n .i64 x.fU]) x
 | .k128,x=>(λx:ay=>[.sl 34 x.ai, .n .i64 x.aD.ah, .n .i64 x.aD.ag, .n .i64 x.aD.aj, .sl 34 x.aG, .n .i64 x.aI.ah, .n .i64 x.aI.ag, .n .i64 x.aI.aj]) x
 | .k129,x=>(λx:Int=>[.n .i64 x]) x
 | .k131,x=>(λx:bh=>[.s x.fName, .n .i64 x.bS, .n .i64 x.ah, .n .i64 x.ag, .n .i64 x.gJ]) x
 | .k133,x=>(λx:Runner=>[.sl 131 x.fF.ai, .sl 139 x.fF.ax, .sl 166 x.fF.bM, .sl 34 x.ax]) x
 | .k137,x=>(λx:az=>[.n .i64 x.bF, .n .i64 x.fN, .sl 137 x.aq]) x
 | .k139,x=>(λx:dN=>[.s x.fName, .n .i64 x.ah, .n .i64 x.ag, .n .i64 x.aF.bF, .n .i64 x.aF.fN, .sl 137 x.aF.aq]) x
 | .k147,x=>(λx:aJ=>[.sl 34 x.ai, .n .i64 x.aD.ah, .n .i64 x.aD.ag, .n .i64 x.aD.aj, .sl 34 x.aG, .n .i64 x.aI.ah, .n .i64 x.aI.ag, .n .i64 x.aI.aj]) x
 | .k166,x=>(λx:aB=>[.n .i64 x.b9, .n .i64 x.bg, .n .i64 x.dJ, .n .i64 x.fN, .n .i64 x.aF.bF, .n .i64 x.aF.fN, .sl 137 x.aF.aq, .sl 166 x.aQ, .sl 166 x.aX, .sl 3 x.aR]) x
 | .k172,x=>(λx:Tree=>[.sl 131 x.fF.ai, .sl 139 x.fF.ax, .sl 166 x.fF.bM, .sl 3 x.fV.bz, .b x.fV.iJ, .sl 174 x.aN]) x
 | .k174,x=>(λx:dW=>[.sl 34 x.dw, .n .i64 x.aZ, .n .i64 x.eN, .sl 3 x.aq, .n .i64 x.fU, .b x.ep, .sl 3 x.cv.aM, .n .i64 x.cv.aI]) x
 | .k256,x=>(λx:bq=>[.n .i64 x.bH, .b x.fM]) x
 | .k260,x=>(λx:qH=>[.n .i64 x.gp, .n .i64 x.aM, .n .i64 x.aI]) x
 | .k313,x=>(λx:Machine=>[.sl 131 x.fF.ai, .sl 139 x.fF.ax, .sl 166 x.fF.bM, .sl 3 x.Nj, .sl 3 x.ax, .sl 3 x.aM, .n .i64 x.aI]) x
 | .k331,x=>(λx:Span=>[.n .i64 x.ah, .n .i64 x.ag]) x
 | .no,_=>[]
instance uni:EU:=⟨cE,λt=>inhK (ky t),λt=>szK (ky t),λt=>pg (ky t)⟩
def ae0:(k:Ky)->af AV->aa (Hu k)
 | .k3=>λcs=>((dR (iI .i64) qD) cs).map (λg:Int×Unit=>(g.1:Int))
 | .k4=>λcs=>((dR Sq qD) cs).map (λg:Bool×Unit=>(g.1:Bool))
 | .k5=>λcs=>((dR (iI .u8) qD) cs).map (λg:Int×Unit=>(g.1:Int))
 | .k24=>λcs=>((dR (kj 166) qD) cs).map (λg:(af (cE 166))×Unit=>(g.1:af aB))
 | .k26=>λcs=>((dR (kj 131) (dR (kj 139) (dR (kj 166) qD))) cs).map (λg:(af (cE 131))×(af (cE 139))×(af (cE 166))×Unit=>((aS.mk g.1 g.2.1 g.2.2.1):aS))
 | .k27=>λcs=>((dR (kj 3) qD) cs).map (λg:(af (cE 3))×Unit=>(g.1:af Int))
 | .k29=>λcs=>((dR (kj 3) (dR Sq qD)) cs).map (λg:(af (cE 3))×Bool×Unit=>((bU.mk g.1 g.2.1):bU))
 | .k30=>λcs=>((dR (kj 34) qD) cs).map (λg:(af (cE 34))×Unit=>(g.1:af aK))
 | .k34=>λcs=>((dR (iI .i64) (dR (iI .i64) (dR (iI .i64) qD))) cs).map (λg:Int×Int×Int×Unit=>((aK.mk g.1 g.2.1 g.2.2.1):aK))
 | .k36=>λcs=>((dR (iI .i64) (dR (iI .i64) (dR (iI .i64) (dR (kj 34) (dR (iI .i64) (dR (iI .i64) (dR (iI .i64) (dR (kj 34) qD)))))))) cs).map (λg:Int×Int×Int×(af (cE 34))×Int×Int×Int×(af (cE 34))×Unit=>((bK.mk (aK.mk g.1 g.2.1 g.2.2.1) g.2.2.2.1 (aK.mk g.2.2.2.2.1 g.2.2.2.2.2.1 g.2.2.2.2.2.2.1) g.2.2.2.2.2.2.2.1):bK))
 | .k37=>λcs=>((dR (iI .i64) qD) cs).map (λg:Int×Unit=>(g.1:Int))
 | .k47=>λcs=>((dR (kj 3) (dR (iI .i64) qD)) cs).map (λg:(af (cE 3))×Int×Unit=>((aC.mk g.1 g.2.1):aC))
 | .k52=>λcs=>((dR (kj 3) (dR (kj 3) (dR (kj 3) qD))) cs).map (λg:(af (cE 3))×(af (cE 3))×(af (cE 3))×Unit=>((nO.mk g.1 g.2.1 g.2.2.1):nO))
 | .k56=>λcs=>((dR (kj 3) (dR (kj 3) (dR (iI .i64) qD))) cs).map (λg:(af (cE 3))×(af (cE 3))×Int×Unit=>((pO.mk g.1 g.2.1 g.2.2.1):pO))
 | .k84=>λcs=>((dR (kj 47) (dR (kj 117) qD)) cs).map (λg:(af (cE 47))×(af (cE 117))×Unit=>((aW.mk g.1 g.2.1):aW))
 | .k90=>λcs=>((dR (iI .i64) (dR (iI .i64) (dR (kj 3) (dR (kj 34) qD)))) cs).map (λg:Int×Int×(af (cE 3))×(af (cE 34))×Unit=>((Part.mk g.1 g.2.1 g.2.2.1 g.2.2.2.1):Part))
 | .k117=>λcs=>((dR (iI .i64) (dR (iI .i64) (dR (kj 3) (dR (kj 3) (dR (iI .i64) qD))))) cs).map (λg:Int×Int×(af (cE 3))×(af (cE 3))×Int×Unit=>((Cell.mk g.1 g.2.1 g.2.2.1 g.2.2.2.1 g.2.2.2.2.1):Cell))
 | .k128=>λcs=>((dR (kj 34) (dR (iI .i64) (dR (iI .i64) (dR (iI .i64) (dR (kj 34) (dR (iI .i64) (dR (iI .i64) (dR (iI .i64) qD)))))))) cs).map (λg:(af (cE 34))×Int×Int×Int×(af (cE 34))×Int×Int×Int×Unit=>((ay.mk g.1 (aK.mk g.2.1 g.2.2.1 g.2.2.2.1) g.2.2.2.2.1 (aK.mk g.2.2.2.2.2.1 g.2.2.2.2.2.2.1 g.2.2.2.2.2.2.2.1)):ay))
 | .k129=>λcs=>((dR (iI .i64) qD) cs).map (λg:Int×Unit=>(g.1:Int))
 | .k131=>λcs=>((dR asS (dR (iI .i64) (dR (iI .i64) (dR (iI .i64) (dR (iI .i64) qD))))) cs).map (λg:ByteArray×Int×Int×Int×Int×Unit=>((bh.mk g.1 g.2.1 g.2.2.1 g.2.2.2.1 g.2.2.2.2.1):bh))
 | .k133=>λcs=>((dR (kj 131) (dR (kj 139) (dR (kj 166) (dR (kj 34) qD)))) cs).map (λg:(af (cE 131))×(af (cE 139))×(af (cE 166))×(af (cE 34))×Unit=>((Runner.mk (aS.mk g.1 g.2.1 g.2.2.1) g.2.2.2.1):Runner))
 | .k137=>λcs=>((dR (iI .i64) (dR (iI .i64) (dR (kj 137) qD))) cs).map (λg:Int×Int×(af (cE 137))×Unit=>((az.mk g.1 g.2.1 g.2.2.1):az))
 | .k139=>λcs=>((dR asS (dR (iI .i64) (dR (iI .i64) (dR (iI .i64) (dR (iI .i64) (dR (kj 137) qD)))))) cs).map (λg:ByteArray×Int×Int×Int×Int×(af (cE 137))×Unit=>((dN.mk g.1 g.2.1 g.2.2.1 (az.mk g.2.2.2.1 g.2.2.2.2.1 g.2.2.2.2.2.1)):dN))
 | .k147=>λcs=>((dR (kj 34) (dR (iI .i64) (dR (iI .i64) (dR (iI .i64) (dR (kj 34) (dR (iI .i64) (dR (iI .i64) (dR (iI .i64) qD)))))))) cs).map (λg:(af (cE 34))×Int×Int×Int×(af (cE 34))×Int×Int×Int×Unit=>((aJ.mk g.1 (aK.mk g.2.1 g.2.2.1 g.2.2.2.1) g.2.2.2.2.1 (aK.mk g.2.2.2.2.2.1 g.2.2.2.2.2.2.1 g.2.2.2.2.2.2.2.1)):aJ))
 | .k166=>λcs=>((dR (iI .i64) (dR (iI .i64) (dR (iI .i64) (dR (iI .i64) (dR (iI .i64) (dR (iI .i64) (dR (kj 137) (dR (kj 166) (dR (kj 166) (dR (kj 3) qD)))))))))) cs).map (λg:Int×Int×Int×Int×Int×Int×(af (cE 137))×(af (cE 166))×(af (cE 166))×(af (cE 3))×Unit=>((aB.mk g.1 g.2.1 g.2.2.1 g.2.2.2.1 (az.mk g.2.2.2.2.1 g.2.2.2.2.2.1 g.2.2.2.2.2.2.1) g.2.2.2.2.2.2.2.1 g.2.2.2.2.2.2.2.2.1 g.2.2.2.2.2.2.2.2.2.1):aB))
 | .k172=>λcs=>((dR (kj 131) (dR (kj 139) (dR (kj 166) (dR (kj 3) (dR Sq (dR (kj 174) qD)))))) cs).map (λg:(af (cE 131))×(af (cE 139))×(af (cE 166))×(af (cE 3))×Bool×(af (cE 174))×Unit=>((Tree.mk (aS.mk g.1 g.2.1 g.2.2.1) (bU.mk g.2.2.2.1 g.2.2.2.2.1) g.2.2.2.2.2.1):Tree))
 | .k174=>λcs=>((dR (kj 34) (dR (iI .i64) (dR (iI .i64) (dR (kj 3) (dR (iI .i64) (dR Sq (dR (kj 3) (dR (iI .i64) qD)))))))) cs).map (λg:(af (cE 34))×Int×Int×(af (cE 3))×Int×Bool×(af (cE 3))×Int×Unit=>((dW.mk g.1 g.2.1 g.2.2.1 g.2.2.2.1 g.2.2.2.2.1 g.2.2.2.2.2.1 (aC.mk g.2.2.2.2.2.2.1 g.2.2.2.2.2.2.2.1)):dW))
 | .k256=>λcs=>((dR (iI .i64) (dR Sq qD)) cs).map (λg:Int×Bool×Unit=>((bq.mk g.1 g.2.1):bq))
 | .k260=>λcs=>((dR (iI .i64) (dR (iI .i64) (dR (iI .i64) qD))) cs).map (λg:Int×Int×Int×Unit=>((qH.mk g.1 g.2.1 g.2.2.1):qH))
 | .k313=>λcs=>((dR (kj 131) (dR (kj 139) (dR (kj 166) (dR (kj 3) (dR (kj 3) (dR (kj 3) (dR (iI .i64) qD))))))) cs).map (λg:(af (cE 131))×(af (cE 139))×(af (cE 166))×(af (cE 3))×(af (cE 3))×(af (cE 3))×Int×Unit=>((Machine.mk (aS.mk g.1 g.2.1 g.2.2.1) g.2.2.2.1 g.2.2.2.2.1 g.2.2.2.2.2.1 g.2.2.2.2.2.2.1):Machine))
 | .k331=>λcs=>((dR (iI .i64) (dR (iI .i64) qD)) cs).map (λg:Int×Int×Unit=>((Span.mk g.1 g.2.1):Span))
 | .no=>λ_=>G
def ZG:(k:Ky)->Pk (ae0 k) (pg k)
 | .k3=>Pk.map (λg:Int×Unit=>(g.1:Int)) (.cons (.i .i64) .nil) (λ_=>rfl)
 | .k4=>Pk.map (λg:Bool×Unit=>(g.1:Bool)) (.cons .b .nil) (λ_=>rfl)
 | .k5=>Pk.map (λg:Int×Unit=>(g.1:Int)) (.cons (.i .u8) .nil) (λ_=>rfl)
 | .k24=>Pk.map (λg:(af (cE 166))×Unit=>(g.1:af aB)) (.cons (.l 166) .nil) (λ_=>rfl)
 | .k26=>Pk.map (λg:(af (cE 131))×(af (cE 139))×(af (cE 166))×Unit=>((aS.mk g.1 g.2.1 g.2.2.1):aS)) (.cons (.l 131) (.cons (.l 139) (.cons (.l 166) .nil))) (λ_=>rfl)
 | .k27=>Pk.map (λg:(af (cE 3))×Unit=>(g.1:af Int)) (.cons (.l 3) .nil) (λ_=>rfl)
 | .k29=>Pk.map (λg:(af (cE 3))×Bool×Unit=>((bU.mk g.1 g.2.1):bU)) (.cons (.l 3) (.cons .b .nil)) (λ_=>rfl)
 | .k30=>Pk.map (λg:(af (cE 34))×Unit=>(g.1:af aK)) (.cons (.l 34) .nil) (λ_=>rfl)
 | .k34=>Pk.map (λg:Int×Int×Int×Unit=>((aK.mk g.1 g.2.1 g.2.2.1):aK)) (.cons (.i .i64) (.cons (.i .i64) (.cons (.i .i64) .nil))) (λ_=>rfl)
 | .k36=>Pk.map (λg:Int×Int×Int×(af (cE 34))×Int×Int×Int×(af (cE 34))×Unit=>((bK.mk (aK.mk g.1 g.2.1 g.2.2.1) g.2.2.2.1 (aK.mk g.2.2.2.2.1 g.2.2.2.2.2.1 g.2.2.2.2.2.2.1) g.2.2.2.2.2.2.2.1):bK)) (.cons (.i .i64) (.cons (.i .i64) (.cons (.i .i64) (.cons (.l 34) (.cons (.i .i64) (.cons (.i .i64) (.cons (.i .i64) (.cons (.l 34) .nil)))))))) (λ_=>rfl)
 | .k37=>Pk.map (λg:Int×Unit=>(g.1:Int)) (.cons (.i .i64) .nil) (λ_=>rfl)
 | .k47=>Pk.map (λg:(af (cE 3))×Int×Unit=>((aC.mk g.1 g.2.1):aC)) (.cons (.l 3) (.cons (.i .i64) .nil)) (λ_=>rfl)
 | .k52=>Pk.map (λg:(af (cE 3))×(af (cE 3))×(af (cE 3))×Unit=>((nO.mk g.1 g.2.1 g.2.2.1):nO)) (.cons (.l 3) (.cons (.l 3) (.cons (.l 3) .nil))) (λ_=>rfl)
 | .k56=>Pk.map (λg:(af (cE 3))×(af (cE 3))×Int×Unit=>((pO.mk g.1 g.2.1 g.2.2.1):pO)) (.cons (.l 3) (.cons (.l 3) (.cons (.i .i64) .nil))) (λ_=>rfl)
 | .k84=>Pk.map (λg:(af (cE 47))×(af (cE 117))×Unit=>((aW.mk g.1 g.2.1):aW)) (.cons (.l 47) (.cons (.l 117) .nil)) (λ_=>rfl)
 | .k90=>Pk.map (λg:Int×Int×(af (cE 3))×(af (cE 34))×Unit=>((Part.mk g.1 g.2.1 g.2.2.1 g.2.2.2.1):Part)) (.cons (.i .i64) (.cons (.i .i64) (.cons (.l 3) (.cons (.l 34) .nil)))) (λ_=>rfl)
 | .k117=>Pk.map (λg:Int×Int×(af (cE 3))×(af (cE 3))×Int×Unit=>((Cell.mk g.1 g.2.1 g.2.2.1 g.2.2.2.1 g.2.2.2.2.1):Cell)) (.cons (.i .i64) (.cons (.i .i64) (.cons (.l 3) (.cons (.l 3) (.cons (.i .i64) .nil))))) (λ_=>rfl)
 | .k128=>Pk.map (λg:(af (cE 34))×Int×Int×Int×(af (cE 34))×Int×Int×Int×Unit=>((ay.mk g.1 (aK.mk g.2.1 g.2.2.1 g.2.2.2.1) g.2.2.2.2.1 (aK.mk g.2.2.2.2.2.1 g.2.2.2.2.2.2.1 g.2.2.2.2.2.2.2.1)):ay)) (.cons (.l 34) (.cons (.i .i64) (.cons (.i .i64) (.cons (.i .i64) (.cons (.l 34) (.cons (.i .i64) (.cons (.i .i64) (.cons (.i .i64) .nil)))))))) (λ_=>rfl)
 | .k129=>Pk.map (λg:Int×Unit=>(g.1:Int)) (.cons (.i .i64) .nil) (λ_=>rfl)
 | .k131=>Pk.map (λg:ByteArray×Int×Int×Int×Int×Unit=>((bh.mk g.1 g.2.1 g.2.2.1 g.2.2.2.1 g.2.2.2.2.1):bh)) (.cons .s (.cons (.i .i64) (.cons (.i .i64) (.cons (.i .i64) (.cons (.i .i64) .nil))))) (λ_=>rfl)
 | .k133=>Pk.map (λg:(af (cE 131))×(af (cE 139))×(af (cE 166))×(af (cE 34))×Unit=>((Runner.mk (aS.mk g.1 g.2.1 g.2.2.1) g.2.2.2.1):Runner)) (.cons (.l 131) (.cons (.l 139) (.cons (.l 166) (.cons (.l 34) .nil)))) (λ_=>rfl)
 | .k137=>Pk.map (λg:Int×Int×(af (cE 137))×Unit=>((az.mk g.1 g.2.1 g.2.2.1):az)) (.cons (.i .i64) (.cons (.i .i64) (.cons (.l 137) .nil))) (λ_=>rfl)
 | .k139=>Pk.map (λg:ByteArray×Int×Int×Int×Int×(af (cE 137))×Unit=>((dN.mk g.1 g.2.1 g.2.2.1 (az.mk g.2.2.2.1 g.2.2.2.2.1 g.2.2.2.2.2.1)):dN)) (.cons .s (.cons (.i .i64) (.cons (.i .i64) (.cons (.i .i64) (.cons (.i .i64) (.cons (.l 137) .nil)))))) (λ_=>rfl)
 | .k147=>Pk.map (λg:(af (cE 34))×Int×Int×Int×(af (cE 34))×Int×Int×Int×Unit=>((aJ.mk g.1 (aK.mk g.2.1 g.2.2.1 g.2.2.2.1) g.2.2.2.2.1 (aK.mk g.2.2.2.2.2.1 g.2.2.2.2.2.2.1 g.2.2.2.2.2.2.2.1)):aJ)) (.cons (.l 34) (.cons (.i .i64) (.cons (.i .i64) (.cons (.i .i64) (.cons (.l 34) (.cons (.i .i64) (.cons (.i .i64) (.cons (.i .i64) .nil)))))))) (λ_=>rfl)
 | .k166=>Pk.map (λg:Int×Int×Int×Int×Int×Int×(af (cE 137))×(af (cE 166))×(af (cE 166))×(af (cE 3))×Unit=>((aB.mk g.1 g.2.1 g.2.2.1 g.2.2.2.1 (az.mk g.2.2.2.2.1 g.2.2.2.2.2.1 g.2.2.2.2.2.2.1) g.2.2.2.2.2.2.2.1 g.2.2.2.2.2.2.2.2.1 g.2.2.2.2.2.2.2.2.2.1):aB)) (.cons (.i .i64) (.cons (.i .i64) (.cons (.i .i64) (.cons (.i .i64) (.cons (.i .i64) (.cons (.i .i64) (.cons (.l 137) (.cons (.l 166) (.cons (.l 166) (.cons (.l 3) .nil)))))))))) (λ_=>rfl)
 | .k172=>Pk.map (λg:(af (cE 131))×(af (cE 139))×(af (cE 166))×(af (cE 3))×Bool×(af (cE 174))×Unit=>((Tree.mk (aS.mk g.1 g.2.1 g.2.2.1) (bU.mk g.2.2.2.1 g.2.2.2.2.1) g.2.2.2.2.2.1):Tree)) (.cons (.l 131) (.cons (.l 139) (.cons (.l 166) (.cons (.l 3) (.cons .b (.cons (.l 174) .nil)))))) (λ_=>rfl)
 | .k174=>Pk.map (λg:(af (cE 34))×Int×Int×(af (cE 3))×Int×Bool×(af (cE 3))×Int×Unit=>((dW.mk g.1 g.2.1 g.2.2.1 g.2.2.2.1 g.2.2.2.2.1 g.2.2.2.2.2.1 (aC.mk g.2.2.2.2.2.2.1 g.2.2.2.2.2.2.2.1)):dW)) (.cons (.l 34) (.cons (.i .i64) (.cons (.i .i64) (.cons (.l 3) (.cons (.i .i64) (.cons .b (.cons (.l 3) (.cons (.i .i64) .nil)))))))) (λ_=>rfl)
 | .k256=>Pk.map (λg:Int×Bool×Unit=>((bq.mk g.1 g.2.1):bq)) (.cons (.i .i64) (.cons .b .nil)) (λ_=>rfl)
 | .k260=>Pk.map (λg:Int×Int×Int×Unit=>((qH.mk g.1 g.2.1 g.2.2.1):qH)) (.cons (.i .i64) (.cons (.i .i64) (.cons (.i .i64) .nil))) (λ_=>rfl)
 | .k313=>Pk.map (λg:(af (cE 131))×(af (cE 139))×(af (cE 166))×(af (cE 3))×(af (cE 3))×(af (cE 3))×Int×Unit=>((Machine.mk (aS.mk g.1 g.2.1 g.2.2.1) g.2.2.2.1 g.2.2.2.2.1 g.2.2.2.2.2.1 g.2.2.2.2.2.2.1):Machine)) (.cons (.l 131) (.cons (.l 139) (.cons (.l 166) (.cons (.l 3) (.cons (.l 3) (.cons (.l 3) (.cons (.i .i64) .nil))))))) (λ_=>rfl)
 | .k331=>Pk.map (λg:Int×Int×Unit=>((Span.mk g.1 g.2.1):Span)) (.cons (.i .i64) (.cons (.i .i64) .nil)) (λ_=>rfl)
 | .no=> .none
def aq0:(k:Ky)->af (Hu k)->aa (af Int)
 | .k5,l=>V l
 |_,_=>G
def ac7(l:af Int):l.flatMap (λx=>[b7.n (de:=cE) .u8 x])=l.map (.n .u8):=by
 induction l with
 |nil=>rfl
 |cons a l ih=>rw[yR,ih];rfl
def aeO:(k:Ky)->(l:af (Hu k))->(ns:af Int)->aq0 k l=V ns->l.flatMap (pg k)=ns.map (.n .u8)/\szK k=1:=by
 intro k l ns h;cases k<;>first|(cases h;done)|(cases h;exact⟨ac7 _,rfl⟩)
def aFJ(k:Ky)(x:Hu k):zY (pg k x)=szK k:=by cases k<;>rfl
def aH7(k:Ky)(x:Hu k):(pg k x).all jc=true:=by cases k<;>rfl
def aFV(k:Ky)(x:Hu k)(ρ:Gh):(pg k x).map (b7.sub ρ)=pg k x:=ae3 _ (by cases k<;>rfl) ρ
def aGg(k:Ky)(x:Hu k)(n:Nat):∀c∈pg k x,cV n c:=ad2 _ (by cases k<;>rfl) n
instance uniL:Ec where
 len:=λt x=>aFJ (ky t) x
 one:=λt x=>aH7 (ky t) x
 clo:=λt x ρ=>aFV (ky t) x ρ
 sU:=λt x n=>aGg (ky t) x n
 parse:=λt=>ae0 (ky t)
 mD:=λt=>ZG (ky t)
 nums:=λt=>aq0 (ky t)
 Bp:=λt=>aeO (ky t)
 fz:=λf=>zc f 27||zc f 44||zc f 28||zc f 20||zc f 26||zc f 83||zc f 156||zc f 160||zc f 236||zc f 96||zc f 179||zc f 88||zc f 167||zc f 171||zc f 247||zc f 25||zc f 185||zc f 48||zc f 49||zc f 57||zc f 60||zc f 61||zc f 65||zc f 74||zc f 112||zc f 134||zc f 203
end Go.Proofs.YtnfljbehcffmcaaGreat
end
noncomputable section
namespace Go.Iv
variable [U:EU] [L:Ec]
open Go Go.RowKit
def mV(f:Nat->Nat)(n:Nat):AV->AV:=Nat.rec (λd=>match d with
 | .own i=> .own (f i)
 | .ptr i o=> .ptr (f i) o
 | .ra i t m o=> .ra (f i) t m o
 |d=>d) (λ_ ih d=>match d with
 | .own i=> .own (f i)
 | .ptr i o=> .ptr (f i) o
 | .ra i t m o=> .ra (f i) t m o
 | .agg cs=> .agg (cs.map ih)
 | .jo cs=> .jo (cs.map ih)
 | .fn g cs=> .fn g (cs.map ih)
 | .fp cs=> .fp (cs.map ih)
 |d=>d) n
def jK{f:Nat->Nat}{ρ ρ':Gh}{p:Nat->Bool}(hp:∀i,p i=J->ρ'.v (f i)=ρ.v i/\ρ'.b (f i)=ρ.b i):∀(n:Nat) {d:AV},jN p n d=J->(mV f n d).sub ρ'=d.sub ρ
 |0,d,h=>by
  cases d with
  |lit v=>show b7.sub ρ' (.lit v)=_;rw[bV,bV]
  |sl t l=>show b7.sub ρ' (.sl t l)=_;rw[gP,gP]
  |rp v k=>show b7.sub ρ' (.rp v k)=_;simp only[b7.sub]
  |own i=>show b7.sub ρ' (.own (f i))=_;rw[dx,dx,(hp _ h).1]
  |ptr i o=>show b7.sub ρ' (.ptr (f i) o)=_;rw[fG,fG,(hp _ h).2]
  |ra i t m o=>show b7.sub ρ' (.ra (f i) t m o)=_;rw[jU,jU,(hp _ h).1]
  |_=>cases h
 |n+1,d,h=>by
  have hL:∀{cs:af AV},cs.all (jN p n)=J->(cs.map (mV f n)).map (b7.sub ρ')=cs.map (b7.sub ρ):=λ{cs} h=>by
   rw[yt];exact zX λc hc=>jK hp n (zw.1 h c hc)
  cases d with
  |lit v=>show b7.sub ρ' (.lit v)=_;rw[bV,bV]
  |sl t l=>show b7.sub ρ' (.sl t l)=_;rw[gP,gP]
  |rp v k=>show b7.sub ρ' (.rp v k)=_;simp only[b7.sub]
  |own i=>show b7.sub ρ' (.own (f i))=_;rw[dx,dx,(hp _ h).1]
  |ptr i o=>show b7.sub ρ' (.ptr (f i) o)=_;rw[fG,fG,(hp _ h).2]
  |ra i t m o=>show b7.sub ρ' (.ra (f i) t m o)=_;rw[jU,jU,(hp _ h).1]
  |fp cs=>show b7.sub ρ' (.fp (List.map (mV f n) cs))=_;rw[n9,n9,hL h]
  |agg cs=>show b7.sub ρ' (.agg (List.map (mV f n) cs))=_;rw[fm,fm,hL h]
  |jo cs=>show b7.sub ρ' (.jo (List.map (mV f n) cs))=_;rw[lQ,lQ,hL h]
  |fn g cs=>show b7.sub ρ' (.fn g (List.map (mV f n) cs))=_;rw[uF,uF,hL h]
def mj{f:Nat->Nat}{p:Nat->Bool}{m:Nat}(hp:∀i,p i=J->f i<m):∀(n:Nat) {d:AV},jN p n d=J->cV m (mV f n d)
 |0,d,h=>by
  cases d<;>first|exact .lit _|exact .sl _ _|exact .rp _ _|exact .own _ (hp _ h)|exact .ptr _ _ (hp _ h)|exact .ra _ _ _ _ (hp _ h)|(cases h;done)
 |n+1,d,h=>by
  have hL:∀{cs:af AV},cs.all (jN p n)=J->∀c∈cs.map (mV f n),cV m c:=λ{cs} h c hc=>by
   obtain⟨c',h1,rfl⟩:=zM.1 hc;exact mj hp n (zw.1 h c' h1)
  cases d<;>first|exact .lit _|exact .sl _ _|exact .rp _ _|exact .own _ (hp _ h)|exact .ptr _ _ (hp _ h)|exact .ra _ _ _ _ (hp _ h)|exact .agg _ (hL h)|exact .jo _ (hL h)|exact .fn _ _ (hL h)|exact .fp _ (hL h)
def Jf(f:Nat->Nat):IR->IR
 | .box T cs=> .box T (cs.map (mV f 4))
 |r=>r
def mC(l:af Nat)(i:Nat):Nat:=List.rec 0 (λj _ ih=>match zc j i with
 |true=>0
 |false=>ih+1) l
def AP:∀{l:af Nat} {i:Nat},i∈l->l[mC l i]? =V i
 |j::l,i,h=>by
  show (j::l)[match zc j i with
   |true=>0
   |false=>mC l i+1]? =V i
  cases hb:zc j i with
  |true=>have:=gZ hb;subst this;rfl
  |false=>
   have hne:i≠j:=λe=>by subst e;rw[Nat.beq_refl]at hb;cases hb
   exact AP ((zx.1 h).resolve_left hne)
def Pv(ts:af Nat)(E:ET):Env:=ts.filterMap λt=>(cU E t).map λd=>(t,d)
def aam{E:ET}:∀(ts:af Nat) t d,Env.get (Pv ts E) t=V d->cU E t=V d:=λts=>by
 induction ts with
 |nil=>intro t d h;cases h
 |cons u ts ih=>
  intro t d h;unfold Pv at h;rw[xE]at h;cases hu:cU E u with
  |none=>rw[hu]at h;exact ih t d h
  |some x=>
   rw[hu]at h;by_cases hut:u=t
   ·subst hut;have h:Env.get ((u,x)::_) u=V d:=h;rw[Env.fh]at h;rw[hu,h]
   ·have h:Env.get ((u,x)::_) t=V d:=h;rw[Env.dV _ _ hut]at h;exact ih t d h
def pick(i:Nat)(R:bt):aa ((Nat×IR)×bt):=List.rec G (λp R ih=>match zc p.1 i with
 |true=>V (p,R)
 |false=>match ih with
  |some x=>V (x.1,p::x.2)
  |none=>G) R
def Jm{i:Nat}:∀{R:bt} {x},pick i R=V x->List.Perm R (x.1::x.2)
 |[],x,h=>by cases h
 |p::R,x,h=>by
  have h:(match zc p.1 i with
   |true=>V (p,R)
   |false=>match pick i R with
    |some x=>V (x.1,p::x.2)
    |none=>G)=V x:=h
  split at h
  ·cases h;exact .refl _
  ·split at h
   ·rename_i y hy;cases h;exact((Jm hy).cons p).trans (.swap _ _ _)
   ·cases h
def kQ(ns:af Nat):bt->bt×bt:=List.rec (λR=>([],R)) (λi _ ih R=>match pick i R with
 |some x=>(x.1::(ih x.2).1,(ih x.2).2)
 |none=>ih R) ns
def pJ:∀(ns:af Nat) (R:bt),List.Perm R ((kQ ns R).1++(kQ ns R).2)
 |[],R=> .refl _
 |i::ns,R=>by
  show List.Perm R ((match pick i R with
   |some x=>(x.1::(kQ ns x.2).1,(kQ ns x.2).2)
   |none=>kQ ns R).1++(match pick i R with
   |some x=>(x.1::(kQ ns x.2).1,(kQ ns x.2).2)
   |none=>kQ ns R).2)
  split
  ·rename_i x hx;exact(Jm hx).trans ((pJ ns x.2).cons _)
  ·exact pJ ns R
def upto(n:Nat):af Nat:=Nat.rec [] (λi ih=>ih++[i]) n
def acp{n i:Nat}(h:i<n):i∈upto n:=by
 induction n with
 |zero=>omega
 |succ n ih=>
  show i∈upto n++[n];by_cases hi:i=n
  ·subst hi;simp
  ·exact yJ _ (ih au)
def abm{n i:Nat}(h:i<n):(upto n)[i]? =V i:=by
 induction n with
 |zero=>omega
 |succ n ih=>
  show (upto n++[n])[i]? =V i;have hl:∀n,zY (upto n)=n:=λn=>by
   induction n with
   |zero=>rfl
   |succ n ih=>show zY (upto n++[n])=n+1;simp[ih]
  by_cases hi:i=n
  ·subst hi;rw[wX (by rw[hl];exact zl _),hl,xT];rfl
  ·rw[wY (by rw[hl];omega)];exact ih au
def Bx:∀n,zY (upto n)=n:=λn=>by
 induction n with
 |zero=>rfl
 |succ n ih=>show zY (upto n++[n])=n+1;simp[ih]
def pI(n0:Nat)(dr rest:af Nat)(i:Nat):Nat:=match dG i dr with
 |true=>n0+mC rest i
 |false=>mC (upto n0++rest) i
def ady(n0:Nat)(dr:af Nat)(l:Env)(R:bt)(rest:af Nat):aa St:=match l.all (λq=>jN (λi=>dG i rest|| !dG i dr&&zA i n0) 4 q.2)&&R.all (λq=>(dG q.1 rest|| !dG q.1 dr&&zA q.1 n0)&&match q.2 with
  | .box _ cs=>cs.all (jN (λi=>dG i rest|| !dG i dr&&zA i n0) 4)
  | .row _ _=>J)with
 |true=>V ⟨arO (l.map λq=>(q.1,mV (pI n0 dr rest) 4 q.2)),R.map λq=>(pI n0 dr rest q.1,Jf (pI n0 dr rest) q.2),n0+zY rest⟩
 |false=>G
def aeG(n0:Nat)(dr:af Nat)(l:Env)(R:bt):aa St:=ady n0 dr l R ((R.map λq=>q.1).filter λi=>dG i dr|| !zA i n0)
def canon(n0:Nat)(dr:af Nat)(ts:af Nat)(s:St):aa St:=aeG n0 dr (Pv ts s.E) (kQ ((upto n0).filter (λi=> !dG i dr)++reach s.R 3 (((Pv ts s.E).flatMap λq=>kV 4 q.2)++(upto n0).filter (λi=> !dG i dr))) s.R).1
def acI{n0 n:Nat}{dr ts:af Nat}{C:Cg}{s s':St}{a:Act}{w:World}(hC:C.n=n0)(h:canon n0 dr ts s=V s')(hm:Mt C n s a w):Mt C n s' a w:=by
 unfold canon aeG at h;generalize hl:Pv ts s.E=l at h;generalize hR:(kQ ((upto n0).filter (λi=> !dG i dr)++reach s.R 3 ((l.flatMap λq=>kV 4 q.2)++(upto n0).filter (λi=> !dG i dr))) s.R)=R2 at h;have hperm:List.Perm s.R (R2.1++R2.2):=by rw[<-hR];exact pJ _ _
 obtain⟨R,Rr⟩:=R2;dsimp only at h hperm;generalize hns:((R.map λq=>q.1).filter λi=>dG i dr|| !zA i n0)=rest at h;unfold ady at h;split at h
 case h_2=>cases h
 rename_i hb;cases h;rw[zi]at hb;obtain⟨hb1,hb2⟩:=hb;obtain⟨E,hh,hE,hR0,ρ,hag,hsim⟩:=hm
 let ρ':Gh:=⟨λj=>ρ.v ((upto n0++rest).getD j 0),λj=>ρ.b ((upto n0++rest).getD j 0)⟩
 have hget:∀i,(dG i rest|| !dG i dr&&zA i n0)=J->(upto n0++rest)[pI n0 dr rest i]? =V i:=λi hi=>by
  unfold pI;cases hd:dG i dr with
  |true=>
   rw[hd]at hi;have hi:dG i rest=J:=by simpa using hi
   show (upto n0++rest)[n0+mC rest i]? =V i;rw[wX (by rw[Bx];omega),Bx,Nat.add_sub_cancel_left];exact AP (fT.1 hi)
  |false=>
   rw[hd]at hi;show (upto n0++rest)[mC (upto n0++rest) i]? =V i;refine AP ?_;rw[yC]at hi;rcases hi with hi|hi
   ·exact yK _ (fT.1 hi)
   ·refine yJ _ (acp ?_);simpa [Nat.blt_eq]using hi
 have hp:∀i,(dG i rest|| !dG i dr&&zA i n0)=J->ρ'.v (pI n0 dr rest i)=ρ.v i/\ρ'.b (pI n0 dr rest i)=ρ.b i:=λi hi=>by
  have e:(upto n0++rest).getD (pI n0 dr rest i) 0=i:=by rw[wk,hget i hi];rfl
  exact⟨by show ρ.v ((upto n0++rest).getD (pI n0 dr rest i) 0)=_;rw[e],by show ρ.b ((upto n0++rest).getD (pI n0 dr rest i) 0)=_;rw[e]⟩
 have hll:zY (upto n0++rest)=n0+zY rest:=by rw[zh,Bx]
 have hlt:∀i,(dG i rest|| !dG i dr&&zA i n0)=J->pI n0 dr rest i<n0+zY rest:=λi hi=>by
  rw[<-hll];exact(z7.1 (hget i hi)).1
 have hres:bt.res ρ' (R.map λq=>(pI n0 dr rest q.1,Jf (pI n0 dr rest) q.2))=bt.res ρ R:=by
  unfold bt.res;rw[yt];refine zX λq hq=> ?_;have hbq:=zw.1 hb2 q hq;rw[zi]at hbq;have hm:=hbq.1;have hbq:=hbq.2;obtain⟨i,r⟩:=q;cases r with
  |row t l=>show cc.row (ρ'.v (pI n0 dr rest i)) t l= .row (ρ.v i) t l;rw[(hp i hm).1]
  |box T cs=>
   show cc.box (ρ'.b (pI n0 dr rest i)) T ((cs.map (mV (pI n0 dr rest) 4)).map (b7.sub ρ'))= .box (ρ.b i) T (cs.map (b7.sub ρ));rw[(hp i hm).2,yt]
   congr 1
   exact zX λc hc=>jK hp 4 (zw.1 hbq c hc)
 have hp2:List.Perm (bt.res ρ s.R) (bt.res ρ (R++Rr)):=hperm.map _;have hsim2:=hsim.perm hp2;rw[lP]at hsim2;have hless:=hsim2.less (List.sublist_append_left _ _);refine⟨l.map λq=>(q.1,mV (pI n0 dr rest) 4 q.2),Df _,λq hq=> ?_,λq hq=> ?_,ρ',⟨λi hi=> ?_,?_⟩,?_⟩
 ·obtain⟨q',h1,rfl⟩:=zM.1 hq;exact mj hlt 4 (zw.1 hb1 q' h1)
 ·obtain⟨q',h1,rfl⟩:=zM.1 hq;have hbq:=zw.1 hb2 q' h1;rw[zi]at hbq;have hm:=hbq.1;have hbq:=hbq.2;refine⟨hlt _ hm,?_⟩;obtain⟨i,r⟩:=q';cases r with
  |row t l=>trivial
  |box T cs=>
   intro c hc;obtain⟨c',h3,rfl⟩:=zM.1 hc;exact mj hlt 4 (zw.1 hbq c' h3)
 ·rw[hC]at hi;have e:(upto n0++rest).getD i 0=i:=by
   rw[wk,wY (by rw[Bx];exact hi),abm hi];rfl
  have:=hag.1 i (by rw[hC];exact hi);exact⟨by show C.ρ.v i=ρ.v ((upto n0++rest).getD i 0);rw[e];exact this.1,by show C.ρ.b i=ρ.b ((upto n0++rest).getD i 0);rw[e];exact this.2⟩
 ·rw[hC];show n0<=n0+zY rest;exact Nat.le_add_right _ _
 ·rw[hres];refine⟨hless.defers,hless.size,λt av ht=> ?_,hless.good⟩;have e:∀(l:Env),(∀q∈l,jN (λi=>dG i rest|| !dG i dr&&zA i n0) 4 q.2=J)->Env.sub ρ' (l.map λq=>(q.1,mV (pI n0 dr rest) 4 q.2))=Env.sub ρ l:=λl hl=>by
   unfold Env.sub;rw[yt];exact zX λq hq=>by
    show (q.1,(mV (pI n0 dr rest) 4 q.2).sub ρ')=_;rw[jK hp 4 (hl q hq)]
  rw[e l (λq hq=>zw.1 hb1 q hq),Env.fo]at ht;obtain⟨d,hd,rfl⟩:=zn.1 ht;rw[<-hl]at hd;exact hless.slots t _ (by rw[Env.fo,hh t d (aam ts t d hd)];rfl)
def rdC{γ:Type}(n0:Nat)(dr ts:af Nat)(rd:St->aa γ)(s:St):aa γ:=(canon n0 dr ts s).bind rd
def as6{γ:Type}{n0 n:Nat}{dr ts:af Nat}{rd:St->aa γ}{pat:γ->St}(h:tY n0 n rd pat):tY n0 n (rdC n0 dr ts rd) pat:=λC s p a w hC hr hm=>by
 obtain⟨s',h1,h2⟩:=zu.1 hr;exact h C s' p a w hC h2 (acI hC h1 hm)
def uB{β:Type}(f:β->β)(j:Nat)(l:af β):af β:=List.rec (λ_=>[]) (λb l ih j=>match zc j 0 with
 |true=>f b::l
 |false=>b::ih (j-1)) l j
def BE{β γ:Type}{f:β->β}{g g':β->γ}:∀(l:af β) (j:Nat),(∀b∈l,g (f b)=g' b)->(∀b∈l,g b=g' b)->(uB f j l).map g=l.map g'
 |[],_,_,_=>rfl
 |b::l,j,h1,h2=>by
  show (match zc j 0 with
   |true=>f b::l
   |false=>b::uB f (j-1) l).map g=_
  split
  ·rw[yf,yf,h1 b zk,zX λc hc=>h2 c (zL _ hc)]
  ·rw[yf,yf,h2 b zk,BE l (j-1) (λc hc=>h1 c (zL _ hc)) (λc hc=>h2 c (zL _ hc))]
def AY{β:Type}{f:β->β}{p:β->Prop}:∀(l:af β) (j:Nat),(∀b∈l,p (f b))->(∀b∈l,p b)->∀b∈uB f j l,p b
 |[],_,_,_,b,hb=>by cases hb
 |c::l,j,h1,h2,b,hb=>by
  have hb:b∈(match zc j 0 with
   |true=>f c::l
   |false=>c::uB f (j-1) l):=hb
  split at hb
  ·rcases zx.1 hb with rfl|hb
   ·exact h1 c zk
   ·exact h2 b (zL _ hb)
  ·rcases zx.1 hb with rfl|hb
   ·exact h2 b zk
   ·exact AY l (j-1) (λc hc=>h1 c (zL _ hc)) (λc hc=>h2 c (zL _ hc)) b hb
def A4(nx:Nat)(p:af Nat):AV->AV:=List.rec (λd=>match d with
 | .lit (.slice G 0 0)=> .own nx
 |d=>d) (λj _ ih d=>match d with
 | .agg cs=> .agg (uB ih j cs)
 | .jo cs=> .jo (uB ih j cs)
 |d=>d) p
def AN{ρ:Gh}{nx:Nat}:∀(p:af Nat) (d:AV),cV nx d->(A4 nx p d).sub (ρ.gC nx (.slice G 0 0))=d.sub ρ
 |[],d,h=>by
  show b7.sub _ (match d with
   | .lit (.slice G 0 0)=> .own nx
   |d=>d)=_
  split
  ·rw[dx,bV];simp[Gh.gC]
  ·exact(h.sub (.gC ρ nx _)).symm
 |j::p,d,h=>by
  show b7.sub _ (match d with
   | .agg cs=> .agg (uB (A4 nx p) j cs)
   | .jo cs=> .jo (uB (A4 nx p) j cs)
   |d=>d)=_
  split
  ·rw[fm,fm,BE _ j (λb hb=>AN p b (h.qA b hb)) (λb hb=>((h.qA b hb).sub (.gC ρ nx _)).symm)]
  ·rw[lQ,lQ,BE _ j (λb hb=>AN p b (h.Jg b hb)) (λb hb=>((h.Jg b hb).sub (.gC ρ nx _)).symm)]
  ·exact(h.sub (.gC ρ nx _)).symm
def Bz{nx:Nat}:∀(p:af Nat) (d:AV),cV nx d->cV (nx+1) (A4 nx p d)
 |[],d,h=>by
  show cV (nx+1) (match d with
   | .lit (.slice G 0 0)=> .own nx
   |d=>d)
  split
  ·exact .own _ (zC _)
  ·exact h.mono (yd _)
 |j::p,d,h=>by
  show cV (nx+1) (match d with
   | .agg cs=> .agg (uB (A4 nx p) j cs)
   | .jo cs=> .jo (uB (A4 nx p) j cs)
   |d=>d)
  split
  ·exact .agg _ (AY _ j (λb hb=>Bz p b (h.qA b hb)) (λb hb=>(h.qA b hb).mono (yd _)))
  ·exact .jo _ (AY _ j (λb hb=>Bz p b (h.Jg b hb)) (λb hb=>(h.Jg b hb).mono (yd _)))
  ·exact h.mono (yd _)
def as1(t:Nat)(p:af Nat)(e:Nat)(s:St):St:=match cU s.E t with
 |some d=>⟨nI t (A4 s.nx p d) s.E,(s.nx, .row e [])::s.R,s.nx+1⟩
 |none=>s
def pz(id j:Nat)(p:af Nat)(e:Nat)(s:St):St:=match gH s.R id with
 |some (.box T cs)=>⟨s.E,(s.nx, .row e [])::vP id (.box T (uB (A4 s.nx p) j cs)) s.R,s.nx+1⟩
 |_=>s
def Xi{ρ:Gh}{R:bt}{nx e:Nat}:bt.res (ρ.gC nx (.slice G 0 0)) ((nx,IR.row e [])::R)=cc.row (.slice G 0 0) e []::bt.res (ρ.gC nx (.slice G 0 0)) R:=by
 show cc.row ((ρ.gC nx (.slice G 0 0)).v nx) e []::_=_;simp[Gh.gC,bt.res]
def ajO{C:Cg}{n t e:Nat}{p:af Nat}{s:St}{a:Act}{w:World}(hm:Mt C n s a w):Mt C n (as1 t p e s) a w:=by
 unfold as1;split
 case h_2=>exact hm
 rename_i d hg;obtain⟨E,hh,hE,hR,ρ,hag,hsim⟩:=hm;have ht:=Us (C:=C.C) G e hsim.good;have hs:=hsim.tr ht;have hs1:E.sub ρ=E.sub (ρ.gC s.nx (.slice G 0 0)):=hE.sub (.gC ρ s.nx _);have hr1:bt.res ρ s.R=bt.res (ρ.gC s.nx (.slice G 0 0)) s.R:=hR.res (.gC ρ s.nx _);have hd:cV s.nx d:=hE _ (Env.get_mem (hh t d hg));refine⟨(t,A4 s.nx p d)::E,hh.put t _,Env.AO (hE.mono (yd _)) (Bz p d hd),λq hq=> ?_,ρ.gC s.nx (.slice G 0 0),⟨hag.1.trans (.gC ρ s.nx _) hag.2,zG hag.2 (yd _)⟩,?_⟩
 ·rcases zx.1 hq with rfl|hq
  ·exact⟨zC _,trivial⟩
  ·exact(hR.mono (yd _)) q hq
 ·show Ah C.C n ((t,b7.sub _ (A4 s.nx p d))::E.sub _) (bt.res _ ((s.nx,IR.row e [])::s.R)) a w;rw[Xi,<-hr1,<-hs1,AN p d hd];refine⟨hs.defers,hs.size,λu av hu=> ?_,hs.good⟩;by_cases htu:t=u
  ·subst htu;rw[Env.fh]at hu;cases hu;exact hs.slots t _ (by rw[Env.fo,hh t _ hg,yI])
  ·rw[Env.dV _ _ htu]at hu;exact hs.slots u av hu
def alJ{C:Cg}{n id j e:Nat}{p:af Nat}{s:St}{a:Act}{w:World}(hm:Mt C n s a w):Mt C n (pz id j p e s) a w:=by
 unfold pz;split
 case h_2=>exact hm
 rename_i T cs hg;obtain⟨E,hh,hE,hR,ρ,hag,hsim⟩:=hm;have ht:=Us (C:=C.C) G e hsim.good;have hs:=hsim.tr ht;have hs1:E.sub ρ=E.sub (ρ.gC s.nx (.slice G 0 0)):=hE.sub (.gC ρ s.nx _);have hr1:bt.res ρ s.R=bt.res (ρ.gC s.nx (.slice G 0 0)) s.R:=hR.res (.gC ρ s.nx _);obtain⟨hid,hcs⟩:=Hg hg hR;have hr2:bt.res (ρ.gC s.nx (.slice G 0 0)) (vP id (.box T (uB (A4 s.nx p) j cs)) s.R)=bt.res ρ s.R:=by
  obtain⟨i,h1,h2,_⟩:=eR hg;rw[h2,BN,<-hr1];have e1:IR.res (ρ.gC s.nx (.slice G 0 0)) id (.box T (uB (A4 s.nx p) j cs))=IR.res ρ id (.box T cs):=by
   show cc.box ((ρ.gC s.nx (.slice G 0 0)).b id) T ((uB (A4 s.nx p) j cs).map (b7.sub _))= .box (ρ.b id) T (cs.map (b7.sub ρ));rw[BE cs j (λb hb=>AN p b (hcs b hb)) (λb hb=>((hcs b hb).sub (.gC ρ s.nx _)).symm)];rfl
  rw[e1];have h3:=iG (ρ:=ρ) h1;exact List.ext_getElem? λk=>by
   by_cases hk:i=k
   ·subst hk;rw[List.getElem?_set_self (z7.1 h3).1,h3]
   ·rw[List.getElem?_set_ne hk]
 refine⟨E,hh,hE.mono (yd _),λq hq=> ?_,ρ.gC s.nx (.slice G 0 0),⟨hag.1.trans (.gC ρ s.nx _) hag.2,zG hag.2 (yd _)⟩,?_⟩
 ·rcases zx.1 hq with rfl|hq
  ·exact⟨zC _,trivial⟩
  ·refine qR hg (hR.mono (yd _)) ?_ q hq;exact AY cs j (λb hb=>Bz p b (hcs b hb)) (λb hb=>(hcs b hb).mono (yd _))
 ·show Ah C.C n (E.sub _) (bt.res _ ((s.nx,IR.row e [])::vP id (.box T (uB (A4 s.nx p) j cs)) s.R)) a w;rw[Xi,hr2,<-hs1];exact hs
def atA(p:af Nat):AV->aa Nat:=List.rec (λd=>match d with
 | .own i=>V i
 |_=>G) (λj _ ih d=>match d with
 | .agg cs=>(cs[j]?).bind ih
 | .jo cs=>(cs[j]?).bind ih
 |_=>G) p
def axA(t:Nat)(p:af Nat)(s:St):St:=match cU s.E t with
 |some d=>match atA p d with
  |some i=>s.N6 i
  |none=>s
 |none=>s
def ax3(id j:Nat)(p:af Nat)(s:St):St:=match gH s.R id with
 |some (.box _ cs)=>match (cs[j]?).bind (atA p)with
  |some i=>s.N6 i
  |none=>s
 |_=>s
def rdF{γ:Type}(f:St->St)(rd:St->aa γ)(s:St):aa γ:=rd (f s)
def b6(f:St->St):Prop:=∀(C:Cg) n s a w,Mt C n s a w->Mt C n (f s) a w
def b6.s(t:Nat)(p:af Nat)(e:Nat):b6 (as1 t p e):=λ_ _ _ _ _ h=>ajO h
def b6.c(id j:Nat)(p:af Nat)(e:Nat):b6 (pz id j p e):=λ_ _ _ _ _ h=>alJ h
def b6.fs(t:Nat)(p:af Nat):b6 (axA t p):=λ_ _ _ _ _ h=>by
 unfold axA;split
 ·split
  ·exact h.N6 _
  ·exact h
 ·exact h
def b6.fc(id j:Nat)(p:af Nat):b6 (ax3 id j p):=λ_ _ _ _ _ h=>by
 unfold ax3;split
 ·split
  ·exact h.N6 _
  ·exact h
 ·exact h
def atX{γ:Type}{n0 n:Nat}{f:St->St}{rd:St->aa γ}{pat:γ->St}(hf:b6 f)(h:tY n0 n rd pat):tY n0 n (rdF f rd) pat:=λC s p a w hC hr hm=>h C (f s) p a w hC hr (hf C n s a w hm)
section
variable {P:Program} {f:FuncId} {args:af AV} {σp σr:af cc} {Φ:AV->af cc->Prop}
def Hl{σ:af cc}{w:World}{A:Nat->Prop}(hd:Hd A σ w)(hnd:(bC σ).Nodup):Good ⟨w,A,bC σ⟩ σ w:=
 have hal:∀b,A b->al ⟨w,A,bC σ⟩ σ b:=λb hA=>⟨.inl hA,λhx=>hd.2 b hx hA⟩
 ⟨Kp.refl _ _,λr hr=>(hd.1 r hr).mono (λb _ hA=>⟨hal b hA,rfl⟩) (λ_ _=>rfl),hnd,λb hb=> .inl hb⟩
def RB{σ σ':af cc}{X:af Nat}{C:Cx}{w w':World}(h:Tr C X σ w σ' w')(hX:∀b∈X,b∈bC σ):Tr C (bC σ) σ w σ' w':=
 ⟨h.good,⟨h.kp.os,h.kp.tape,h.kp.output,h.kp.drawn,h.kp.size,λk hk hn=>h.kp.block k hk λhx=>hn (hX k hx)⟩,λb hb hA=>⟨(h.al b hb hA).1,hA.2⟩⟩
def Fn.akw(h:Fn P f args σp Φ):Fn P f args (σp++σr) (λa s=>∃so,Φ a so/\s=so++σr):=λw A vs hrel hd0 hnd0=>by
 have hg:=Hl hd0 hnd0;generalize hC:(⟨w,A,bC (σp++σr)⟩:Cx)=C at hg ⊢;have hdis:=hg.Ju;rw[ia]at hdis;obtain⟨d1,d2,d3⟩:=yN.1 hdis;have hlt:∀b∈bC (σp++σr),b<w.heap.size:=λb hb=>by
  obtain⟨s,h1,h2⟩:=bQ.1 hb;exact(hg.res s h1).lt h2
 have hal0:∀b,A b->al C (σp++σr) b:=λb hA=>by
  subst hC;exact⟨.inl hA,λhx=>hd0.2 b hx hA⟩
 have hd:Hd (al C (σp++σr)) σp w:=⟨λr hr=>hg.res r (yJ _ hr),λb hb hA=>hA.2 (bO.2 (.inl hb))⟩;refine(h w (al C (σp++σr)) vs (hrel.mono λb _ hA=>⟨hal0 b hA,rfl⟩) hd d1).mono λe w' ⟨v,av,σo,q1,q2,q3,q4⟩=> ?_;have hsub:∀b,al ⟨w,al C (σp++σr),bC σp⟩ σo b->al C (σo++σr) b:=λb hb=>by
  obtain⟨hb1,hb2⟩:=hb;rcases hb1 with hb1|hb1|hb1
  ·exact⟨hb1.1,λhx=>(bO.1 hx).elim hb2 (λh=>hb1.2 (bO.2 (.inr h)))⟩
  ·have hbp:b∈bC σp:=hb1;refine⟨?_,λhx=>(bO.1 hx).elim hb2 (λh=>d3 b hbp b h rfl)⟩;rcases hg.own b (bO.2 (.inl hbp))with h|h
   ·simp_all
   ·omega
  ·have hbw:w.heap.size<=b:=hb1;exact⟨.inr (.inr (zG hg.kept.size hbw)),λhx=>(bO.1 hx).elim hb2 (λh=>by have:=hlt b (bO.2 (.inr h));omega)⟩
 have ht:=Ev hg (λb hA _=> .inl hA) q3 (λr hr=>(q3.good.res r hr).mono (λb hb hA=>⟨hsub b hA,rfl⟩) (λ_ _=>rfl));exact⟨v,av,σo++σr,q1,⟨σo,q2,rfl⟩,RB ht (λb hb=>bO.2 (.inl hb)),q4.mono λb hb hA=>⟨hsub b hA,rfl⟩⟩
def Fn.aFm{args':af AV}{σr:af cc}(h:Fn P f args' [] Φ)(hv:∀(A:Nat->Prop) (w:World) (us:af Value),Hd A σr w->bN A w args us->bN (λb=>A b\/b∈bC σr) w args' us)
  (hc:∀av σo,Φ av σo->Cl av/\∀r∈σo,ClR r):Fn P f args σr (λa s=>∃so,Φ a so/\s=so++σr):=λw A vs hrel hd0 hnd0=>by
 have hg:=Hl hd0 hnd0;generalize hC:(⟨w,A,bC σr⟩:Cx)=C at hg ⊢;have hal0:∀b,A b->al C σr b:=λb hA=>by
  subst hC;exact⟨.inl hA,λhx=>hd0.2 b hx hA⟩
 have h3:=hv (al C σr) w vs hg.hd (hrel.mono λb _ hA=>⟨hal0 b hA,rfl⟩);refine(h w _ vs h3 ⟨λr hr=>(by cases hr),λb hb=>(by cases hb)⟩ List.nodup_nil).mono λe w' ⟨v,av,σo,q1,q2,q3,q4⟩=> ?_;obtain⟨c1,c2⟩:=hc av σo q2;have ht:=Ev (σp:=[]) (σr:=σr) hg (λb hA _=>hA) q3 (λr hr=>c2 r hr _ _ w' (q3.good.res r hr));exact⟨v,av,σo++σr,q1,⟨σo,q2,rfl⟩,RB (σ:=σr) ht (λb hb=>by cases hb),c1 _ _ w' v q4⟩
end
def aHt(n:Nat):AV->Bool:=jN (λ_=>O) n
def Iu{A:Nat->Prop}{w:World}{cs:af AV}{v:Value}(h:Rel A w (.fp cs) v):∃(b o:Nat) (us:af Value),v= .pointer (V ⟨b,o,G⟩)/\b<w.heap.size/\A b/\(∀j v,us[j]? =V v->w.cell? ⟨b,o+j,G⟩=V v)/\bN A w cs us:=by
 generalize ha:b7.fp cs=a at h;cases h with
 |fp cs' b o us hb hA hl hc hr=>cases ha;exact⟨b,o,us,rfl,hb,hA,hc,hl,hr⟩
 |_=>cases ha
def Kz(lb:Bool)(rd:Nat->aa IR)(n:Nat):AV->AV:=Nat.rec (λd=>match d with
 | .own id=>match rd id with
  |some (.row t l)=> .sl t l
  |_=> .own id
 |d=>d) (λ_ ih d=>match d with
 | .own id=>match rd id with
  |some (.row t l)=> .sl t l
  |_=> .own id
 | .ptr id 0=>match lb with
  |true=>match rd id with
   |some (.box _ cs)=> .fp (cs.map ih)
   |_=> .ptr id 0
  |false=> .ptr id 0
 | .agg cs=> .agg (cs.map ih)
 | .fn f cs=> .fn f (cs.map ih)
 |d=>d) n
def aer{R:bt}{ρ:Gh}{A:Nat->Prop}{w:World}{v:Value}{id T:Nat}{cs:af AV}(hd:Hd A (bt.res ρ R) w)(hg:gH R id=V (.box T cs))(hr:Rel A w ((b7.ptr (de:=U.de) id 0).sub ρ) v):
  Rel (λb=>A b\/b∈bC (bt.res ρ R)) w (.fp (cs.map (b7.sub ρ))) v:=by
 obtain⟨i,hi,_⟩:=eR hg;have hres:=iG (ρ:=ρ) hi;rw[fG]at hr;exact Vw.box i hres A w v hd hr
def ZW{lb:Bool}{R:bt}{ρ:Gh}{A:Nat->Prop}{w:World}(hd:Hd A (bt.res ρ R) w):∀(n:Nat) {d:AV} {v:Value},Rel (λb=>A b\/b∈bC (bt.res ρ R)) w (d.sub ρ) v->Rel (λb=>A b\/b∈bC (bt.res ρ R)) w ((Kz lb (gH R) n d).sub ρ) v:=by
 have hown:∀{id:Nat} {v:Value},Rel (λb=>A b\/b∈bC (bt.res ρ R)) w ((b7.own (de:=U.de) id).sub ρ) v->Rel (λb=>A b\/b∈bC (bt.res ρ R)) w ((match gH R id with
  |some (.row t l)=>b7.sl t l
  |_=> .own id).sub ρ) v:=λ{id v} h=>by
  rw[dx]at h;rw[h.cL];exact abC hd (by rw[dx];exact .lit _)
 intro n;induction n with
 |zero=>
  intro d v h;cases d<;>first|exact h|exact hown h
 |succ n ih=>
  have hL:∀{cs:af AV} {us:af Value},bN (λb=>A b\/b∈bC (bt.res ρ R)) w (cs.map (b7.sub ρ)) us->bN (λb=>A b\/b∈bC (bt.res ρ R)) w ((cs.map (Kz lb (gH R) n)).map (b7.sub ρ)) us:=λ{cs us} h=>
   ⟨by simpa using h.1,λj a u q1 q2=>by
    rw[yt,ye]at q1;obtain⟨c,hc,rfl⟩:=zn.1 q1;exact ih (h.2 j _ u (by rw[ye,hc];rfl) q2)⟩
  intro d v h;cases d with
  |own id=>exact hown h
  |agg cs=>
   show Rel _ w ((b7.agg (cs.map (Kz lb (gH R) n))).sub ρ) v;rw[fm]at h ⊢;obtain⟨us,rfl,h2⟩:=h.pY;exact Rel.qA (hL h2)
  |fn f cs=>
   show Rel _ w ((b7.fn f (cs.map (Kz lb (gH R) n))).sub ρ) v;rw[uF]at h ⊢;obtain⟨us,rfl,h2⟩:=h.ab5;have h3:=hL h2;exact .fn f _ us h3.1 h3.2
  |ptr id off=>
   cases off with
   |succ o=>exact h
   |zero=>
    cases lb with
    |false=>exact h
    |true=>
     show Rel _ w (b7.sub ρ (match gH R id with
      |some (.box _ cs)=> .fp (cs.map (Kz J (gH R) n))
      |_=> .ptr id 0)) v
     split
     ·rename_i T cs hg;have h0:Rel A w ((b7.ptr (de:=U.de) id 0).sub ρ) v:=by
       rw[fG]at h ⊢;rw[h.cL];exact .lit _
      obtain⟨b,o,us,rfl,q1,q2,q3,q4⟩:=Iu (aer hd hg h0);rw[n9];have q5:=hL q4;exact .fp _ b o us q1 q2 q5.1 q3 q5.2
     ·exact h
  |_=>exact h
def mI(l:af Nat)(n0 nx:Nat)(i:Nat):Nat:=match zA i n0 with
 |true=>l.getD i 0
 |false=>nx+(i-n0)
def Out.okB(n0:Nat)(x:Out):Bool:=yp n0 x.c&&jN (λi=>zA i x.c) 4 x.d&&x.R.all λq=>zA q.1 x.c&&match q.2 with
 | .box _ cs=>cs.all (jN (λi=>zA i x.c) 4)
 | .row _ _=>J
def Ou{α γ β:Type}(q:af AV->bt->aa γ)(t:γ->aa β)(out:β->Out)(n0:Nat)(args:af AV)(nx:Nat)(k:AV->bt->Nat->aa α)(F:aa α)(Rp Rr:bt)(ns:af Nat):aa α:=
 match zc (zY Rp) n0&&args.all (jN (λi=>dG i ns) 4)&&Rp.all (λq=>match q.2 with
  | .box _ cs=>cs.all (jN (λi=>dG i ns) 4)
  | .row _ _=>J)with
 |true=>match q (args.map (mV (mC ns) 4)) (Rp.map λq=>(mC ns q.1,Jf (mC ns) q.2))with
  |some g=>match t g with
   |some b=>k (mV (mI ns n0 nx) 4 (out b).d) ((out b).R.map (λq=>(mI ns n0 nx q.1,Jf (mI ns n0 nx) q.2))++Rr) (nx+((out b).c-n0))
   |none=>G
  |none=>F
 |false=>F
def abd{α γ β:Type}(q:af AV->bt->aa γ)(t:γ->aa β)(out:β->Out)(n0:Nat)(args:af AV)(nx:Nat)(k:AV->bt->Nat->aa α)(F:aa α)(R2:bt×bt):aa α:=
 Ou q t out n0 args nx k F R2.1 R2.2 (R2.1.map λq=>q.1)
def orY{γ β:Type}(f0 n0:Nat)(q:af AV->bt->aa γ)(t:γ->aa β)(out:β->Out)(F:bu):bu:=λ_ f args R nx k=>match zc f f0 with
 |true=>abd q t out n0 args nx k (F _ f args R nx k) (kQ (reach R 3 (args.flatMap (kV 4))) R)
 |false=>F _ f args R nx k
def QY{γ:Type}(q:af AV->bt->aa γ)(ca:γ->af AV)(cr:γ->bt):Prop:=∀xs R g,q xs R=V g->(∀(ρ:Gh) A w us,bN A w (xs.map (b7.sub ρ)) us->bN A w ((ca g).map (b7.sub ρ)) us)/\NW R (cr g)
def Fn.pre{P:Program}{f:FuncId}{args args':af AV}{R R':bt}{ρ:Gh}{Φ:AV->af cc->Prop}(h:Fn P f args' (bt.res ρ R') Φ)(ha:∀A w us,bN A w args us->bN A w args' us)(hr:NW R R'):Fn P f args (bt.res ρ R) Φ:=λw A vs h1 h2 h3=>by
 have hb:bC (bt.res ρ R)=bC (bt.res ρ R'):=Fo hr;rw[hb];refine(h w A vs (ha A w vs h1) ⟨Sl hr h2.1,λb hb'=>h2.2 b (by rw[hb];exact hb')⟩ (by rw[<-hb];exact h3)).mono λe w' ⟨v,av,σ',q1,q2,q3,q4⟩=>⟨v,av,σ',q1,q2,⟨q3.good,q3.kp,λb hb' hA=> ?_⟩,q4⟩;refine q3.al b hb' ⟨hA.1,?_⟩;rw[<-hb];exact hA.2
def aeS{P:Program}{F:bu}{γ β:Type}{f0 n0:Nat}{q:af AV->bt->aa γ}{ca:γ->af AV}{cr:γ->bt}{t:γ->aa β}{out:β->Out}(hF:iQ P F)(hf:vQ P f0)(hq:QY q ca cr)(hm:∀b,(out b).okB n0=J)
  (h:∀g b,t g=V b->N4 P f0 (ca g) (cr g) n0 (out b)):iQ P (orY f0 n0 q t out F):=λα f args R nx k r hr hargs hR=>by
 unfold orY at hr;split at hr
 case h_2=>exact hF α f args R nx k r hr hargs hR
 rename_i hb;have hb:=gZ hb;subst hb;unfold abd at hr;generalize hR2:kQ (reach R 3 (args.flatMap (kV 4))) R=R2 at hr;have hperm:List.Perm R (R2.1++R2.2):=by rw[<-hR2];exact pJ _ _
 obtain⟨Rp,Rr⟩:=R2;dsimp only at hr hperm;generalize hns:(Rp.map λq=>q.1)=ns at hr;unfold Ou at hr;split at hr
 case h_2=>exact hF α f args R nx k r hr hargs hR
 rename_i hchk;rw[zi,zi]at hchk;obtain⟨⟨hc0,hc1⟩,hc2⟩:=hchk;have hc0:=gZ hc0;split at hr
 case h_2=>exact hF α f args R nx k r hr hargs hR
 rename_i g hg;split at hr
 case h_2=>cases hr
 rename_i b hb;have hlen:zY ns=n0:=by rw[<-hns,zB,hc0]
 have hRs:∀p∈Rp++Rr,p.1<nx/\p.2.cV nx:=λp hp=>hR p (hperm.mem_iff.2 hp);have hnsl:∀i∈ns,i<nx:=λi hi=>by
  rw[<-hns]at hi;obtain⟨p,hp,rfl⟩:=zM.1 hi;exact(hRs p (yJ _ hp)).1
 obtain⟨hqa,hqr⟩:=hq _ _ g hg;have hok:=hm b;unfold Out.okB at hok;rw[zi,zi]at hok;obtain⟨⟨ho0,ho1⟩,ho2⟩:=hok;have ho0:n0<=(out b).c:=by simpa using ho0
 refine⟨hf,λρ=> ?_⟩
 let ρ0:Gh:=⟨λj=>ρ.v (ns.getD j 0),λj=>ρ.b (ns.getD j 0)⟩
 have hp:∀i,dG i ns=J->ρ0.v (mC ns i)=ρ.v i/\ρ0.b (mC ns i)=ρ.b i:=λi hi=>by
  have:=AP (fT.1 hi);have e:ns.getD (mC ns i) 0=i:=by rw[wk,this];rfl
  exact⟨by show ρ.v (ns.getD (mC ns i) 0)=_;rw[e],by show ρ.b (ns.getD (mC ns i) 0)=_;rw[e]⟩
 have ea:(args.map (mV (mC ns) 4)).map (b7.sub ρ0)=args.map (b7.sub ρ):=by
  rw[yt];exact zX λc hc=>jK hp 4 (zw.1 hc1 c hc)
 have er:bt.res ρ0 (Rp.map λq=>(mC ns q.1,Jf (mC ns) q.2))=bt.res ρ Rp:=by
  unfold bt.res;rw[yt];refine zX λq hq=> ?_;have hm:dG q.1 ns=J:=fT.2 (by rw[<-hns];exact zM.2 ⟨q,hq,rfl⟩);have hbq:=zw.1 hc2 q hq;obtain⟨i,rr⟩:=q;cases rr with
  |row t l=>show cc.row (ρ0.v (mC ns i)) t l= .row (ρ.v i) t l;rw[(hp i hm).1]
  |box T cs=>
   show cc.box (ρ0.b (mC ns i)) T ((cs.map (mV (mC ns) 4)).map (b7.sub ρ0))= .box (ρ.b i) T (cs.map (b7.sub ρ));rw[(hp i hm).2,yt]
   congr 1
   exact zX λc hc=>jK hp 4 (zw.1 hbq c hc)
 have h1:=Fn.pre (h g b hb ρ0) (hqa ρ0) hqr;rw[ea,er]at h1;have h2:=Fn.akw (σr:=bt.res ρ Rr) h1;rw[<-lP]at h2;have hp2:List.Perm (bt.res ρ R) (bt.res ρ (Rp++Rr)):=hperm.map _;have h3:Fn P f (args.map (b7.sub ρ)) (bt.res ρ R) (λa s=>∃so,(∃ρ':Gh,qC n0 ρ0 ρ'/\a=(out b).d.sub ρ'/\List.Perm so (bt.res ρ' (out b).R))/\s=so++bt.res ρ Rr):=λw A vs q1 q2 q3=>by
  have hbm:∀x,x∈bC (bt.res ρ (Rp++Rr))↔x∈bC (bt.res ρ R):=λx=>(hp2.symm.filterMap _).mem_iff;refine(h2 w A vs q1 ⟨λr hr=>q2.1 r (hp2.mem_iff.2 hr),λx hx=>q2.2 x ((hbm x).1 hx)⟩ ((hp2.filterMap _).nodup_iff.1 q3)).mono λe w' ⟨v,av,σ',g1,g2,g3,g4⟩=> ?_;have hal:∀s x,al ⟨w,A,bC (bt.res ρ (Rp++Rr))⟩ s x->al ⟨w,A,bC (bt.res ρ R)⟩ s x:=λs x hx=>⟨hx.1.imp id (Or.imp (λh=>(hbm x).1 h) id),hx.2⟩;refine⟨v,av,σ',g1,g2,⟨⟨⟨g3.kp.os,g3.kp.tape,g3.kp.output,g3.kp.drawn,g3.kp.size,λk hk hn=>g3.kp.block k hk λhx=>hn ((hbm k).1 hx)⟩,λrr hrr=>(g3.good.res rr hrr).mono (λx _ hA=>⟨hal _ x hA,rfl⟩) (λ_ _=>rfl),g3.good.Ju,λx hx=>(g3.good.own x hx).imp (λh=>(hbm x).1 h) id⟩,⟨g3.kp.os,g3.kp.tape,g3.kp.output,g3.kp.drawn,g3.kp.size,λk hk hn=>g3.kp.block k hk λhx=>hn ((hbm k).1 hx)⟩,λx hx hA=> ?_⟩,g4.mono λx _ hA=>⟨hal _ x hA,rfl⟩⟩;have hA':al ⟨w,A,bC (bt.res ρ (Rp++Rr))⟩ (bt.res ρ (Rp++Rr)) x:=⟨hA.1.imp id (Or.imp (λh=>(hbm x).2 h) id),λh=>hA.2 ((hbm x).1 h)⟩;exact⟨hal _ x (g3.al x hx hA').1,λh=>hA.2 h⟩
 refine Fn.mono h3 λa s ⟨so,⟨ρ1,g0,g1,g2⟩,g3⟩=> ?_
 let ρ2:Gh:=⟨λi=>if i<nx then ρ.v i else ρ1.v (n0+(i-nx)),λi=>if i<nx then ρ.b i else ρ1.b (n0+(i-nx))⟩
 have hag:qC nx ρ ρ2:=λi hi=>⟨by simp only[ρ2,bB hi],by simp only[ρ2,bB hi]⟩;have hb2:∀i,zA i (out b).c=J->(ρ2.v (mI ns n0 nx i)=ρ1.v i/\ρ2.b (mI ns n0 nx i)=ρ1.b i)/\mI ns n0 nx i<nx+((out b).c-n0):=λi hi=>by
  have hi:i<(out b).c:=by simpa using hi
  unfold mI;split
  ·rename_i hlt;have hlt:i<n0:=by simpa using hlt
   obtain⟨e1,e2⟩:=g0 i hlt;have hlt2:i<zY ns:=by rw[hlen];exact hlt
   have hmem:ns.getD i 0∈ns:=by rw[wk,zm hlt2];exact xP hlt2
   have h4:=hnsl _ hmem;refine⟨⟨?_,?_⟩,au⟩
   ·show (if ns.getD i 0<nx then ρ.v (ns.getD i 0)else _)=_;rw[bB h4];exact e1
   ·show (if ns.getD i 0<nx then ρ.b (ns.getD i 0)else _)=_;rw[bB h4];exact e2
  ·rename_i hlt;have hlt:¬i<n0:=by
    intro hx;have:zA i n0=J:=by rw[Nat.blt_eq];exact hx
    rw[this]at hlt;cases hlt
   have h5:¬nx+(i-n0)<nx:=au;have h6:n0+(nx+(i-n0)-nx)=i:=au;refine⟨⟨?_,?_⟩,au⟩
   ·show (if nx+(i-n0)<nx then _ else ρ1.v (n0+(nx+(i-n0)-nx)))=_;rw[bL h5,h6]
   ·show (if nx+(i-n0)<nx then _ else ρ1.b (n0+(nx+(i-n0)-nx)))=_;rw[bL h5,h6]
 have hres:bt.res ρ2 ((out b).R.map λq=>(mI ns n0 nx q.1,Jf (mI ns n0 nx) q.2))=bt.res ρ1 (out b).R:=by
  unfold bt.res;rw[yt];refine zX λq hq=> ?_;have hbq:=zw.1 ho2 q hq;rw[zi]at hbq;obtain⟨i,rr⟩:=q;cases rr with
  |row t l=>show cc.row (ρ2.v (mI ns n0 nx i)) t l= .row (ρ1.v i) t l;rw[(hb2 i hbq.1).1.1]
  |box T cs=>
   show cc.box (ρ2.b (mI ns n0 nx i)) T ((cs.map (mV (mI ns n0 nx) 4)).map (b7.sub ρ2))= .box (ρ1.b i) T (cs.map (b7.sub ρ1));rw[(hb2 i hbq.1).1.2,yt]
   congr 1
   exact zX λc hc=>jK (λi hi=>(hb2 i hi).1) 4 (zw.1 hbq.2 c hc)
 refine⟨_,_,_,hr,au,mj (λi hi=>(hb2 i hi).2) 4 ho1,λq hq=> ?_,ρ2,hag,?_,?_⟩
 ·rcases zP.1 hq with hq|hq
  ·obtain⟨q',h4,rfl⟩:=zM.1 hq;have hbq:=zw.1 ho2 q' h4;rw[zi]at hbq;refine⟨(hb2 _ hbq.1).2,?_⟩;obtain⟨i,rr⟩:=q';cases rr with
   |row t l=>trivial
   |box T cs=>
    intro c hc;obtain⟨c',h5,rfl⟩:=zM.1 hc;exact mj (λi hi=>(hb2 i hi).2) 4 (zw.1 hbq.2 c' h5)
  ·have:=hRs q (yK _ hq);exact⟨au,this.2.mono au⟩
 ·rw[g1];exact(jK (λi hi=>(hb2 i hi).1) 4 ho1).symm
 ·rw[g3,lP,hres,<-bt.cV.res (R:=Rr) (λq hq=>hRs q (yK _ hq)) hag];exact g2.append_right _
def scD(n:Nat):AV->Bool:=Nat.rec (λd=>match d with
 | .lit _=>J
 | .own _=>J
 | .ptr _ _=>J
 |_=>O) (λ_ ih d=>match d with
 | .lit _=>J
 | .own _=>J
 | .ptr _ _=>J
 | .agg cs=>cs.all ih
 | .jo cs=>cs.all ih
 |_=>O) n
def ac0{ρ:Gh}:∀(n:Nat) {d:AV},scD n d=J->Cl (d.sub ρ):=λn=>by
 induction n with
 |zero=>
  intro d h;cases d<;>first|(cases h;done)|(rw[bV];exact .lit _)|(rw[dx];exact .lit _)|(rw[fG];exact .lit _)
 |succ n ih=>
  have hL:∀{cs:af AV},cs.all (scD n)=J->N5 (cs.map (b7.sub ρ)):=λ{cs} h=>by
   induction cs with
   |nil=>exact .nil
   |cons c cs ihc=>
    rw[List.all_cons,zi]at h;exact .cons (ih h.1) (ihc h.2)
  intro d h;cases d<;>first|(cases h;done)|(rw[bV];exact .lit _)|(rw[dx];exact .lit _)|(rw[fG];exact .lit _)|skip
  ·rw[fm];exact .agg (hL h)
  ·rw[lQ];exact .jo (hL h)
def X7{n:Nat}{ρ:Gh}:∀cs:af AV,cs.all (scD n)=J->N5 (cs.map (b7.sub ρ))
 |[],_=> .nil
 |c::cs,h=>by
  rw[List.all_cons,zi]at h;exact .cons (ac0 n h.1) (X7 cs h.2)
def Out.scB(sc:Nat->Bool)(x:Out):Bool:=scD 4 x.d&&x.R.all λq=>match q.2 with
 | .row t _=>sc t
 | .box _ cs=>cs.all (scD 3)
def akQ{sc:Nat->Bool}(hsc:∀t,sc t=J->∀x,N5 (U.cells t x)){x:Out}(h:x.scB sc=J)(ρ:Gh):Cl (x.d.sub ρ)/\∀r∈bt.res ρ x.R,ClR r:=by
 unfold Out.scB at h;rw[zi]at h;refine⟨ac0 4 h.1,λr hr=> ?_⟩;obtain⟨q,hq,rfl⟩:=zM.1 hr;have hb:=zw.1 h.2 q hq;obtain⟨i,rr⟩:=q;cases rr with
 |row t l=>exact ClR.row (hsc t hb)
 |box T cs=>
  exact ClR.box (X7 cs hb)
def Wr{α γ β:Type}(q:af AV->aa γ)(t:γ->aa β)(out:β->Out)(args:af AV)(R:bt)(nx:Nat)(k:AV->bt->Nat->aa α)(F:aa α):aa α:=
 match args.all (aHt 4)with
 |true=>match q args with
  |some g=>match t g with
   |some b=>k (mV (λi=>i+nx) 4 (out b).d) ((out b).R.map (λq=>(q.1+nx,Jf (λi=>i+nx) q.2))++R) ((out b).c+nx)
   |none=>G
  |none=>F
 |false=>F
def orL{γ β:Type}(f0:Nat)(lb:Bool)(q:af AV->aa γ)(t:γ->aa β)(out:β->Out)(F:bu):bu:=λ_ f args R nx k=>match zc f f0 with
 |true=>Wr q t out (args.map (Kz lb (gH R) 3)) R nx k (F _ f args R nx k)
 |false=>F _ f args R nx k
def awk{P:Program}{F:bu}{γ β:Type}{f0:Nat}{lb:Bool}{q:af AV->aa γ}{ca:γ->af AV}{t:γ->aa β}{out:β->Out}{sc:Nat->Bool}(hF:iQ P F)(hsc:∀t,sc t=J->∀x,N5 (U.cells t x))(hf:vQ P f0)(hq:RT q ca)(hm:∀b,(out b).okB 0=J)(hs:∀b,(out b).scB sc=J)
  (h:∀g b,t g=V b->N4 P f0 (ca g) [] 0 (out b)):iQ P (orL f0 lb q t out F):=λα f args R nx k r hr hargs hR=>by
 unfold orL at hr;split at hr
 case h_2=>exact hF α f args R nx k r hr hargs hR
 rename_i hb;have hb:=gZ hb;subst hb;unfold Wr at hr;split at hr
 case h_2=>exact hF α f args R nx k r hr hargs hR
 split at hr
 case h_2=>exact hF α f args R nx k r hr hargs hR
 rename_i g hg;split at hr
 case h_2=>cases hr
 rename_i b hb;obtain⟨hqa,_⟩:=hq _ g hg;have hok:=hm b;unfold Out.okB at hok;rw[zi,zi]at hok;obtain⟨⟨_,ho1⟩,ho2⟩:=hok;refine⟨hf,λρ=> ?_⟩;have h1:Fn P f ((ca g).map (b7.sub ρ)) [] _:=h g b hb ρ;have h2:=Fn.aFm (args:=args.map (b7.sub ρ)) (σr:=bt.res ρ R) h1 (λA w us hd hrel=>by
  refine hqa ρ _ w us ⟨by simpa using hrel.1,λj a v q1 q2=> ?_⟩;rw[yt,ye]at q1;obtain⟨c,hc,rfl⟩:=zn.1 q1;exact ZW hd 3 ((hrel.2 j _ v (by rw[ye,hc];rfl) q2).mono λb _ hA=>⟨.inl hA,rfl⟩)) (λav σo ⟨ρ',_,e1,e2⟩=>by
   obtain⟨c1,c2⟩:=akQ hsc (hs b) ρ';subst e1;exact⟨c1,λr hr=>c2 r (e2.mem_iff.1 hr)⟩)
 have hlt:∀i,zA i (out b).c=J->i+nx<(out b).c+nx:=λi hi=>by rw[Nat.blt_eq]at hi;omega
 refine Fn.mono h2 λa s ⟨s',⟨ρ1,_,g1,g2⟩,g3⟩=> ?_
 let ρ2:Gh:=⟨λi=>if i<nx then ρ.v i else ρ1.v (i-nx),λi=>if i<nx then ρ.b i else ρ1.b (i-nx)⟩
 have hag:qC nx ρ ρ2:=λi hi=>⟨by simp only[ρ2,bB hi],by simp only[ρ2,bB hi]⟩;have hp:∀i,zA i (out b).c=J->ρ2.v (i+nx)=ρ1.v i/\ρ2.b (i+nx)=ρ1.b i:=λi _=>by
  have:¬i+nx<nx:=au;exact⟨by simp only[ρ2,bL this,wM],by simp only[ρ2,bL this,wM]⟩
 have hres:bt.res ρ2 ((out b).R.map λq=>(q.1+nx,Jf (λi=>i+nx) q.2))=bt.res ρ1 (out b).R:=by
  unfold bt.res;rw[yt];refine zX λq hq=> ?_;have hbq:=zw.1 ho2 q hq;rw[zi]at hbq;obtain⟨i,rr⟩:=q;cases rr with
  |row t l=>show cc.row (ρ2.v (i+nx)) t l= .row (ρ1.v i) t l;rw[(hp i hbq.1).1]
  |box T cs=>
   show cc.box (ρ2.b (i+nx)) T ((cs.map (mV (λi=>i+nx) 4)).map (b7.sub ρ2))= .box (ρ1.b i) T (cs.map (b7.sub ρ1));rw[(hp i hbq.1).2,yt]
   congr 1
   exact zX λc hc=>jK hp 4 (zw.1 hbq.2 c hc)
 refine⟨_,_,_,hr,Nat.le_add_left _ _,mj hlt 4 ho1,λq hq=> ?_,ρ2,hag,?_,?_⟩
 ·rcases zP.1 hq with hq|hq
  ·obtain⟨q',h4,rfl⟩:=zM.1 hq;have hbq:=zw.1 ho2 q' h4;rw[zi]at hbq;refine⟨hlt _ hbq.1,?_⟩;obtain⟨i,rr⟩:=q';cases rr with
   |row t l=>trivial
   |box T cs=>
    intro c hc;obtain⟨c',h5,rfl⟩:=zM.1 hc;exact mj hlt 4 (zw.1 hbq.2 c' h5)
  ·exact(hR.mono (Nat.le_add_left _ _)) q hq
 ·rw[g1];exact(jK hp 4 ho1).symm
 ·rw[g3,lP,hres,<-hR.res hag];exact g2.append_right _
def aV{P:Program}:bD P dA:=⟨arG,λ_ _ _ _ _ _ _ _=>rfl⟩
def anF{γ δ:Type}{f0 n0:Nat}{q:af AV->bt->aa γ}{t:γ->aa δ}{out:δ->Out}{F:bu}(hN:dX F):dX (orY f0 n0 q t out F):=λα β f args R nx k D=>by
 unfold orY;split
 ·unfold abd Ou;split
  ·split
   ·split<;>rfl
   ·exact hN ..
  ·exact hN ..
 ·exact hN ..
def ak4{γ δ:Type}{f0:Nat}{lb:Bool}{q:af AV->aa γ}{t:γ->aa δ}{out:δ->Out}{F:bu}(hN:dX F):dX (orL f0 lb q t out F):=λα β f args R nx k D=>by
 unfold orL;split
 ·unfold Wr;split
  ·split
   ·split<;>rfl
   ·exact hN ..
  ·exact hN ..
 ·exact hN ..
def aq1{P:Program}{F:bu}{γ β:Type}{f0 n0:Nat}{q:af AV->bt->aa γ}{ca:γ->af AV}{cr:γ->bt}{t:γ->aa β}{out:β->Out}(hF:bD P F)(hf:vQ P f0)(hq:QY q ca cr)(hm:∀b,(out b).okB n0=J)
 (h:∀g b,t g=V b->N4 P f0 (ca g) (cr g) n0 (out b)):bD P (orY f0 n0 q t out F):=⟨aeS hF.ok hf hq hm h,anF hF.nat⟩
def aCe{P:Program}{F:bu}{γ β:Type}{f0:Nat}{lb:Bool}{q:af AV->aa γ}{ca:γ->af AV}{t:γ->aa β}{out:β->Out}{sc:Nat->Bool}(hF:bD P F)(hsc:∀t,sc t=J->∀x,N5 (U.cells t x))(hf:vQ P f0)(hq:RT q ca)(hm:∀b,(out b).okB 0=J)(hs:∀b,(out b).scB sc=J)
 (h:∀g b,t g=V b->N4 P f0 (ca g) [] 0 (out b)):bD P (orL f0 lb q t out F):=⟨awk hF.ok hsc hf hq hm hs h,ak4 hF.nat⟩
def bG{f:FuncId}:bA dA f:=λ_ _ _ _ _ _ h=>by cases h
def gF{γ β:Type}{f0:Nat}{lb:Bool}{q:af AV->aa γ}{t:γ->aa β}{out:β->Out}{F:bu}{f:FuncId}(h:bA F f)(hm:∀b,(out b).R=[]):bA (orL f0 lb q t out F) f:=λargs R nx d R' nx' hr=>by
 unfold orL at hr;split at hr
 ·unfold Wr at hr;split at hr
  ·split at hr
   ·split at hr
    ·simp_all
    ·cases hr
   ·exact h _ _ _ _ _ _ hr
  ·exact h _ _ _ _ _ _ hr
 ·exact h _ _ _ _ _ _ hr
def AM{γ β:Type}{f0 n0:Nat}{q:af AV->bt->aa γ}{t:γ->aa β}{out:β->Out}{F:bu}{f:FuncId}(hne:zc f f0=O)(h:bA F f):bA (orY f0 n0 q t out F) f:=λargs R nx d R' nx' hr=>by
 unfold orY at hr;rw[hne]at hr;exact h _ _ _ _ _ _ hr
def cq{α:Type}(b:Bool)(x y:α):(bif b then some x else some y)=some (bif b then x else y):=by cases b<;>rfl
def cO{α:Type}(p:Prop)[Decidable p](x y:α):(if p then V x else V y)=V (if p then x else y):=by split<;>rfl
def jY{n0:Nat}{args:af AV}(h:args.all (jN (λi=>zA i n0) 4)=J):∀d∈args,cV n0 d:=λd hd=>(Ey 4 (zw.1 h d hd)).mono λi hi=>by rw[Nat.blt_eq]at hi;exact hi
def ki{n0:Nat}{R:bt}(h:R.all (λq=>zA q.1 n0&&match q.2 with
  | .box _ cs=>cs.all (jN (λi=>zA i n0) 4)
  | .row _ _=>J)=J):bt.cV n0 R:=λq hq=>by
 have hb:=zw.1 h q hq;rw[zi,Nat.blt_eq]at hb;refine⟨hb.1,?_⟩;obtain⟨i,rr⟩:=q;cases rr with
 |row t l=>trivial
 |box T cs=>exact jY hb.2
def qy0{γ:Type}(q:af AV->aa γ)(xs:af AV)(R:bt):aa γ:=match R with
 |[]=>q xs
 |_=>G
def af6{γ:Type}{q:af AV->aa γ}{ca:γ->af AV}(h:RT q ca):QY (qy0 q) ca (λ_=>[]):=λxs R g hg=>by
 unfold qy0 at hg;split at hg
 ·exact⟨(h xs g hg).1, .nil⟩
 ·cases hg
def qyR{γ δ:Type}(q:af AV->aa γ)(r:bt->aa δ)(xs:af AV)(R:bt):aa (γ×δ):=match q xs with
 |some g=>match r R with
  |some h=>V (g,h)
  |none=>G
 |none=>G
def asi{γ δ:Type}{q:af AV->aa γ}{ca:γ->af AV}{r:bt->aa δ}{cr:δ->bt}(hq:RT q ca)(hr:IC r cr):QY (qyR q r) (λg=>ca g.1) (λg=>cr g.2):=λxs R g hg=>by
 unfold qyR at hg;split at hg
 ·rename_i g' h1;split at hg
  ·rename_i h' h2;cases hg;exact⟨(hq xs g' h1).1,hr R h' h2⟩
  ·cases hg
 ·cases hg
open Classical in
def lim{β:Type}(m:Nat->aa β):aa β:=if h:∃b N,∀n,N<=n->m n=V b then V (Classical.choose h)else G
def dy{β:Type}{m:Nat->aa β}{b:β}(h:lim m=V b):∃n,m n=V b:=by
 unfold lim at h;split at h
 ·rename_i hx;cases h;obtain⟨N,hN⟩:=Classical.choose_spec hx;exact⟨N,hN N (zl _)⟩
 ·cases h
def eG{β:Type}{m:Nat->aa β}{b:β}(N:Nat)(h:∀n,N<=n->m n=V b):lim m=V b:=by
 have hx:∃b N,∀n,N<=n->m n=V b:=⟨b,N,h⟩;unfold lim;rw[dif_pos hx];obtain⟨M,hM⟩:=Classical.choose_spec hx;have h1:=hM (max M N) (Nat.le_max_left _ _);rw[h (max M N) (Nat.le_max_right _ _)]at h1;exact h1.symm
def XM{P:Program}{f:FuncId}{t:Nat}{x:Out}(h1:∀c,N4 P f [.lit (.slice G 0 c)] [] 0 x)(h2:∀a c,N4 P f [.lit (.slice (V a) 0 c)] [] 0 x):N4 P f [.sl t []] [] 0 x:=λρ w A vs hr hd hn=>by
 have hr':bN A w [(b7.sl t []:AV).sub ρ] vs:=hr;obtain⟨v,us,rfl,h3,h4⟩:=hr'.head;rw[gP]at h3;obtain⟨p,c,g,hv,_⟩:=h3.Bu;have hz:us=[]:=xg (by simpa using h4.1);subst hz hv;cases p with
 |none=>exact h1 c ρ w A _ (bN.cons (by rw[bV];exact .lit _) bN.nil) hd hn
 |some a=>exact h2 a c ρ w A _ (bN.cons (by rw[bV];exact .lit _) bN.nil) hd hn
def aH6:AV->Bool
 | .lit _=>J
 |_=>O
def Yi:∀(cs:af AV),cs.all aH6=J->N5 cs
 |[],_=> .nil
 |c::cs,h=>by
  rw[List.all_cons,zi]at h;refine .cons ?_ (Yi cs h.2);cases c<;>first|(cases h.1;done)|exact .lit _
end Go.Iv
end
noncomputable section
set_option maxRecDepth 100000
namespace Go.Proofs.YtnfljbehcffmcaaGreat
open Go Go.Iv
open Go.IntKind (i64 u64)
def scK:Ky->Bool
 | .k3=>J
 | .k4=>J
 | .k5=>J
 | .k34=>J
 | .k37=>J
 | .k129=>J
 | .k131=>J
 | .k256=>J
 | .k260=>J
 | .k331=>J
 |_=>O
def Bf(t:Nat):Bool:=scK (ky t)
def aun:(k:Ky)->scK k=J->(x:Hu k)->N5 (pg k x):=by
 intro k h x;cases k<;>first|(cases h;done)|exact Yi _ rfl
def eo(t:Nat)(h:Bf t=J)(x:uni.de t):N5 (uni.cells t x):=aun (ky t) h x
end Go.Proofs.YtnfljbehcffmcaaGreat
end
noncomputable section
namespace Go.Iv
variable [U:EU] [L:Ec]
open Go Go.RowKit
section
variable {β γ δ:Type}
structure Rq (β:Type) where
 f:AV->Option β
 c:β->AV
 ok:PN f c
structure Rl (γ:Type) where
 q:List AV->Option γ
 c:γ->List AV
 ok:RT q c
def aP:Rq Int:=⟨iI .i64,b7.n .i64, .i .i64⟩
def qi(k:IntKind):Rq Int:=⟨iI k,b7.n k, .i k⟩
def qb:Rq Bool:=⟨Sq,b7.b, .b⟩
def qs:Rq ByteArray:=⟨asS,b7.s, .s⟩
def ql(t:Nat):Rq (af (U.de t)):=⟨kj t,b7.sl t, .l t⟩
def qg(t:Nat):Rq (U.de t):=⟨ajH t,λx=> .agg (U.cells t x), .g t⟩
def qp(i o:Nat):Rq Unit:=⟨asP i o,λ_=> .ptr i o, .p i o⟩
def qo(i:Nat):Rq Unit:=⟨asO i,λ_=> .own i, .o i⟩
def qn:Rq Unit:=⟨arD,λ_=> .lit (.slice G 0 0), .ns⟩
def qv:Rq Unit:=⟨avo,λ_=> .lit (.pointer G), .np⟩
def qf(k:Nat)(l:Rl γ):Rq γ:=⟨aur k l.q,λx=> .fn (.func k) (l.c x), .ff k l.ok⟩
def qr(l:Rl γ):Rq γ:=⟨arV l.q,λx=> .fp (l.c x), .fp l.ok⟩
def ln:Rl Unit:=⟨qD,λ_=>[], .nil⟩
def lc(a:Rq β)(l:Rl γ):Rl (β×γ):=⟨dR a.f l.q,λx=>a.c x.1::l.c x.2, .cons a.ok l.ok⟩
abbrev aU(l:Rl γ):Rl (Int×γ):=lc aP l
def lg(t:Nat):Rl (U.de t):=⟨atT t,λx=>U.cells t x,RT.parse t⟩
structure Re (γ:Type) where
 q:ET->Option γ
 d:γ->Env
 ok:S9 q d
def en:Re Unit:=⟨slN,λ_=>[], .nil⟩
def ec(t:Nat)(a:Rq β)(l:Re γ):Re (β×γ):=⟨slC t a.f l.q,λx=>(t,a.c x.1)::l.d x.2, .cons a.ok l.ok⟩
structure Rs (γ:Type) where
 q:bt->Option γ
 d:γ->bt
 ok:IC q d
def sn:Rs Unit:=⟨rsN,λ_=>[], .nil⟩
def sr(i t:Nat)(l:Rs γ):Rs (af (U.de t)×γ):=⟨rsR i t l.q,λx=>(i, .row t x.1)::l.d x.2, .row l.ok⟩
def sb(i t:Nat)(a:Rl β)(l:Rs γ):Rs (β×γ):=⟨aue i t a.q l.q,λx=>(i, .box t (a.c x.1))::l.d x.2, .aHC a.ok l.ok⟩
structure Td (n0:Nat) (γ:Type) where
 rd:St->Option γ
 pat:γ->St
 ok:∀n,tY n0 n rd pat
def Td.r(n0 m:Nat)(e:Re β)(s:Rs δ)(mk:β×δ->γ)(un:γ->β×δ)(h:∀z,un (mk z)=z:=by exact λ_=>rfl):Td n0 γ:=
 ⟨rdM mk (stR m e.q s.q),λx=>vF m e.d s.d (un x),λ_=>(auz e.ok s.ok).m mk λz=>by rw[h]⟩
def Td.c{n0:Nat}(dr ts:af Nat)(d:Td n0 γ):Td n0 γ:=⟨rdC n0 dr ts d.rd,d.pat,λn=>as6 (d.ok n)⟩
def Td.t{n0:Nat}{f:St->St}(h:b6 f)(d:Td n0 γ):Td n0 γ:=⟨rdF f d.rd,d.pat,λn=>atX h (d.ok n)⟩
def Td.lp{n0:Nat}(d:Td n0 γ)(a:γ->aa γ)(b:An):An:= .lp γ d.rd d.pat a b
end
def fZ(P:Program)(f n0:Nat)(s:St):Out:=match (match oK P f s with
  |some ds=>V (Out.mk (fA ds) (uh s.R n0 (fA ds)) s.nx)
  |none=>G)with
 |some o=>o
 |none=>⟨.jo [],[],0⟩
def aH{α:Type _}{Q:α->Prop}:∀p∈([]:af α),Q p:=λp h=>by cases h
def aA{α:Type _}{Q:α->Prop}{a:α}{l:af α}(h:Q a)(t:∀p∈l,Q p):∀p∈a::l,Q p:=λp hp=>(zx.1 hp).elim (λe=>e▸h) (t p)
section
variable {P:Program} {F:bu} {f n0:Nat} {γ δ β:Type}
def HY(P:Program)(f n0:Nat)(a:Rl γ)(s:Rs δ)(d:Td n0 β)(t:γ×δ->aa β):Prop:=∀g b,t g=V b->N4 P f (a.c g.1) (s.d g.2) n0 (fZ P f n0 (d.pat b))
def HL(P:Program)(f:Nat)(a:Rl γ)(d:Td 0 β)(t:γ->aa β):Prop:=∀g b,t g=V b->N4 P f (a.c g) [] 0 (fZ P f 0 (d.pat b))
def Wv(hF:bD P F){an:An}(fa:gu P F n0 300 f an){a:Rl γ}{s:Rs δ}{d:Td n0 β}{t:γ×δ->aa β}(ho:∀p,(match oK P f (d.pat p)with
   |some ds=>V (Out.mk (fA ds) (uh (d.pat p).R n0 (fA ds)) (d.pat p).nx)
   |none=>G)=V (fZ P f n0 (d.pat p)))
  (h1:∀g,(a.c g).all (jN (λi=>zA i n0) 4)=J) (h2:∀g,(s.d g).all (λq=>zA q.1 n0&&match q.2 with
  | .box _ cs=>cs.all (jN (λi=>zA i n0) 4)
  | .row _ _=>J)=J) (c:∀g,bZ P F 300 an f (a.c g.1) (s.d g.2) n0 d.rd=t g):HY P f n0 a s d t:=
 λg b hb=>(nP (p:=b) hF fa d.ok ho (jY (h1 g.1)) (ki (h2 g.2)) ((c g).trans hb)).2
def fe(hF:bD P F){an:An}(fa:gu P F 0 300 f an){a:Rl γ}{d:Td 0 β}{t:γ->aa β}(ho:∀p,(match oK P f (d.pat p)with
   |some ds=>V (Out.mk (fA ds) (uh (d.pat p).R 0 (fA ds)) (d.pat p).nx)
   |none=>G)=V (fZ P f 0 (d.pat p)))
  (h1:∀g,(a.c g).all (jN (λi=>zA i 0) 4)=J) (c:∀g,bZ P F 300 an f (a.c g) [] 0 d.rd=t g):HL P f a d t:=
 λg b hb=>(nP (p:=b) hF fa d.ok ho (jY (h1 g)) (ki rfl) ((c g).trans hb)).2
def eY(P:Program)(f n0:Nat)(a:Rl γ)(s:Rs δ)(d:Td n0 β)(t:γ×δ->aa β)(F:bu):bu:=orY f n0 (qyR a.q s.q) t (λx=>fZ P f n0 (d.pat x)) F
def eZ(P:Program)(f:Nat)(a:Rl γ)(d:Td 0 β)(t:γ->aa β)(F:bu):bu:=orY f 0 (qy0 a.q) t (λx=>fZ P f 0 (d.pat x)) F
def eL(P:Program)(f:Nat)(lb:Bool)(a:Rl γ)(d:Td 0 β)(t:γ->aa β)(F:bu):bu:=orL f lb a.q t (λx=>fZ P f 0 (d.pat x)) F
def Dy{a:Rl γ}{s:Rs δ}{d:Td n0 β}{t:γ×δ->aa β}(h:HY P f n0 a s d t)(hf:vQ P f)(h3:∀b,(fZ P f n0 (d.pat b)).okB n0=J)(hF:bD P F):bD P (eY P f n0 a s d t F):=
 aq1 hF hf (asi a.ok s.ok) h3 h
def Kt{a:Rl γ}{d:Td 0 β}{t:γ->aa β}(h:HL P f a d t)(hf:vQ P f)(h3:∀b,(fZ P f 0 (d.pat b)).okB 0=J)(hF:bD P F):bD P (eZ P f a d t F):=
 aq1 hF hf (af6 a.ok) h3 h
def gm{lb:Bool}{sc:Nat->Bool}(hsc:∀t,sc t=J->∀x,N5 (U.cells t x)){a:Rl γ}{d:Td 0 β}{t:γ->aa β}(h:HL P f a d t)(hf:vQ P f)(h3:∀b,(fZ P f 0 (d.pat b)).okB 0=J)(h4:∀b,(fZ P f 0 (d.pat b)).scB sc=J)(hF:bD P F):bD P (eL P f lb a d t F):=
 aCe hF hsc hf a.ok h3 h4 h
end
end Go.Iv
end
noncomputable section
namespace Go.Proofs.YtnfljbehcffmcaaGreat
def mb:ByteArray:=ByteArray.mk #[0,1,2,2,3,3,3,3,4,4,4,4,4,4,4,4,5,5,5,5,5,5,5,5,5,5,5,5,5,5,5,5,6,6,6,6,6,6,6,6,6,6,6,6,6,6,6,6,6,6,6,6,6,6,6,6,6,6,6,6,6,6,6,6,7,7,7,7,7,7,7,7,7,7,7,7,7,7,7,7,7,7,7,7,7,7,7,7,7,7,7,7,7,7,7,7,7,7,7,7,7,7,7,7,7,7,7,7,7,7,7,7,7,7,7,7,7,7,7,7,7,7,7,7,7,7,7,7,8,8,8,8,8,8,8,8,8,8,8,8,8,8,8,8,8,8,8,8,8,8,8,8,8,8,8,8,8,8,8,8,8,8,8,8,8,8,8,8,8,8,8,8,8,8,8,8,8,8,8,8,8,8,8,8,8,8,8,8,8,8,8,8,8,8,8,8,8,8,8,8,8,8,8,8,8,8,8,8,8,8,8,8,8,8,8,8,8,8,8,8,8,8,8,8,8,8,8,8,8,8,8,8,8,8,8,8,8,8,8,8,8,8,8,8,8,8,8,8,8,8,8,8,8,8,8,8]
end Go.Proofs.YtnfljbehcffmcaaGreat
end
noncomputable section
namespace Go.Iv
variable [U:EU] [L:Ec]
open Go Go.RowKit
def cnY(n0:Nat)(args:af AV)(Rp:bt)(ns:af Nat):Bool:=zc (zY Rp) n0&&args.all (jN (λi=>dG i ns) 4)&&Rp.all (λq=>match q.2 with
 | .box _ cs=>cs.all (jN (λi=>dG i ns) 4)
 | .row _ _=>J)
def Y7{γ β α:Type}(t:γ->aa β)(K:β->aa α)(F za:aa α)(o:aa γ):aa α:=match o with
 |some g=>match t g with
  |some b=>K b
  |none=>za
 |none=>F
def onT{α:Type}(c:Bool)(x y:aa α):aa α:=match c with
 |true=>x
 |false=>y
def Cn{α γ β:Type}(q:af AV->bt->aa γ)(t:γ->aa β)(out:β->Out)(n0:Nat)(args:af AV)(nx:Nat)(k:AV->bt->Nat->aa α)(F za:aa α)(Rp Rr:bt)(ns:af Nat):aa α:=
 onT (cnY n0 args Rp ns) (Y7 t (λb=>k (mV (mI ns n0 nx) 4 (out b).d) ((out b).R.map (λq=>(mI ns n0 nx q.1,Jf (mI ns n0 nx) q.2))++Rr) (nx+((out b).c-n0))) F za (q (args.map (mV (mC ns) 4)) (Rp.map λq=>(mC ns q.1,Jf (mC ns) q.2)))) F
def aeN{α γ β:Type}(q:af AV->bt->aa γ)(t:γ->aa β)(out:β->Out)(n0:Nat)(args:af AV)(nx:Nat)(k:AV->bt->Nat->aa α)(F:aa α)(Rp Rr:bt)(ns:af Nat):Ou q t out n0 args nx k F Rp Rr ns=Cn q t out n0 args nx k F G Rp Rr ns:=rfl
def amn{γ β α:Type}(t:γ->aa β)(K:β->aa α)(F:aa α)(o:aa γ):Y7 t K F F o=Y7 t K F G o\/Y7 t K F F o=F:=by
 unfold Y7;cases o with
 |none=>exact .inr rfl
 |some g=>
  cases h:t g with
  |none=>exact .inr (by simp only[h])
  |some b=>exact .inl (by simp only[h])
def aag{α γ β:Type}(q:af AV->bt->aa γ)(t:γ->aa β)(out:β->Out)(n0:Nat)(args:af AV)(nx:Nat)(k:AV->bt->Nat->aa α)(F:aa α)(Rp Rr:bt)(ns:af Nat):
  Cn q t out n0 args nx k F F Rp Rr ns=Ou q t out n0 args nx k F Rp Rr ns\/Cn q t out n0 args nx k F F Rp Rr ns=F:=by
 rw[aeN];unfold Cn;cases cnY n0 args Rp ns with
 |false=>exact .inr rfl
 |true=>exact amn ..
def Sf{γ β:Type}(f0 n0:Nat)(q:af AV->bt->aa γ)(t:γ->aa β)(out:β->Out)(F:bu):bu:=λ_ f args R nx k=>match zc f f0 with
 |true=>Cn q t out n0 args nx k (F _ f args R nx k) (F _ f args R nx k) (kQ (reach R 3 (args.flatMap (kV 4))) R).1 (kQ (reach R 3 (args.flatMap (kV 4))) R).2 ((kQ (reach R 3 (args.flatMap (kV 4))) R).1.map λq=>q.1)
 |false=>F _ f args R nx k
def alH{γ β α:Type}(f0 n0:Nat)(q:af AV->bt->aa γ)(t:γ->aa β)(out:β->Out)(F:bu)(f:FuncId)(args:af AV)(R:bt)(nx:Nat)(k:AV->bt->Nat->aa α):
  Sf f0 n0 q t out F α f args R nx k=orY f0 n0 q t out F α f args R nx k\/Sf f0 n0 q t out F α f args R nx k=F α f args R nx k:=by
 unfold Sf orY;cases zc f f0 with
 |true=>exact aag ..
 |false=>exact .inr rfl
def abn{γ δ:Type}{f0 n0:Nat}{q:af AV->bt->aa γ}{t:γ->aa δ}{out:δ->Out}{F:bu}(hN:dX F):dX (Sf f0 n0 q t out F):=λα β f args R nx k D=>by
 have hF:=hN α β f args R nx k D;unfold Sf Cn onT Y7;cases zc f f0 with
 |false=>exact hF
 |true=>
  cases cnY n0 args (kQ (reach R 3 (args.flatMap (kV 4))) R).1 ((kQ (reach R 3 (args.flatMap (kV 4))) R).1.map λq=>q.1)with
  |false=>exact hF
  |true=>
   simp only;split
   ·split
    ·rfl
    ·exact hF
   ·exact hF
def arC{P:Program}{F:bu}{γ β:Type}{f0 n0:Nat}{q:af AV->bt->aa γ}{ca:γ->af AV}{cr:γ->bt}{t:γ->aa β}{out:β->Out}(hF:bD P F)(hf:vQ P f0)(hq:QY q ca cr)(hm:∀b,(out b).okB n0=J)
  (h:∀g b,t g=V b->N4 P f0 (ca g) (cr g) n0 (out b)):bD P (Sf f0 n0 q t out F):=⟨λα f args R nx k r hr hargs hR=>by
 rcases alH f0 n0 q t out F f args R nx k with e|e
 ·exact aeS hF.ok hf hq hm h α f args R nx k r (e▸hr) hargs hR
 ·exact hF.ok α f args R nx k r (e▸hr) hargs hR,abn hF.nat⟩
def eZf{γ β:Type}(P:Program)(f:Nat)(a:Rl γ)(d:Td 0 β)(t:γ->aa β)(F:bu):bu:=Sf f 0 (qy0 a.q) t (λx=>fZ P f 0 (d.pat x)) F
def afi{γ β:Type}{P:Program}{f:Nat}{F:bu}{a:Rl γ}{d:Td 0 β}{t:γ->aa β}(h:HL P f a d t)(hf:vQ P f)(h3:∀b,(fZ P f 0 (d.pat b)).okB 0=J)(hF:bD P F):bD P (eZf P f a d t F):=
 arC hF hf (af6 a.ok) h3 h
end Go.Iv
end
noncomputable section
set_option maxRecDepth 100000
namespace Go.Proofs.YtnfljbehcffmcaaGreat
open Go Go.Iv
open Go.IntKind (i64 u64)
def fD{p:Prop}{_:Decidable p}(h:¬p:=by omega):decide p=O:=bW h
def oV{p:Prop}{_:Decidable p}(h:p:=by omega):decide p=J:=bX h
def gM{p:Prop}{_:Decidable p}{α:Type _}{a b:α}(h:p:=by omega):(if p then a else b)=a:=bB h
def qZ{p:Prop}{_:Decidable p}{α:Type _}{a b:α}(h:¬p:=by omega):(if p then a else b)=b:=bL h
abbrev EO(e:bu->bu):Prop:=∀{F:bu},bD vp F->bD vp (e F)
abbrev EP(e:bu->bu):Prop:=∀{F:bu} {f:Nat},bA F f->bA (e F) f
def kP{f:Nat}{lb:Bool}{γ β:Type}{a:Rl γ}{d:Td 0 β}{t:γ->aa β}{F:bu}{g:Nat}(h:bA F g)(hm:∀b,(fZ vp f 0 (d.pat b)).R=[]:=by intro _;kernel_rfl):bA (eL vp f lb a d t F) g:=gF h hm
def aO{F:bu}{n0 nt:Nat}{c:Code}{β:Type}{b:An}{n:β->aa (aa β)}(d:Td n0 β)(h:∀p,oC vp F nt 300 c b (aa β) (d.pat p) (kOn d.rd)=n p:=by intro _;kernel_rfl):Ip vp F n0 nt 300 (c,d.lp (bI n) b):=⟨d.ok _,N2 h⟩
def kL{f:Nat}{lb:Bool}{fn:Func}{F za:bu}{an:An}{γ β:Type}{a:Rl γ}{d:Td 0 β}{t:γ->aa β}{l:af (Code×An)}
  (hf:vp.funcs[f]? =V fn) (hF:bD vp F) (h:∀p∈l,Ip vp F 0 fn.ntmps 300 p) (hG:bD vp za)
  (hb:fn.body.isNone=O:=by kernel_rfl) (ho:aax (vC fn) an=l:=by kernel_rfl)
  (h0:∀p,(match oK vp f (d.pat p)with
   |some ds=>V (Out.mk (fA ds) (uh (d.pat p).R 0 (fA ds)) (d.pat p).nx)
   |none=>G)=V (fZ vp f 0 (d.pat p)):=by intro _;kernel_rfl)
  (h1:∀g,(a.c g).all (jN (λi=>zA i 0) 4)=J:=by intro _;kernel_rfl)
  (c:∀g,bZ vp F 300 an f (a.c g) [] 0 d.rd=t g:=by intro _;kernel_rfl)
  (h2:(fn.name=="runtime.NumGoroutine")=O:=by kernel_rfl)
  (h3:∀b,(fZ vp f 0 (d.pat b)).okB 0=J:=by intro _;kernel_rfl) (h4:∀b,(fZ vp f 0 (d.pat b)).scB Bf=J:=by intro _;kernel_rfl):bD vp (eL vp f lb a d t za):=
 gm (sc:=Bf) eo (fe hF (cH hf (bT hb) ho h) (λp=>by have:=h0 p;revert this;cases oK vp f (d.pat p)<;>exact id) h1 c) ⟨_,hf,h2,hb⟩ h3 h4 hG
def kZ{f:Nat}{fn:Func}{F za:bu}{an:An}{γ β:Type}{a:Rl γ}{d:Td 0 β}{t:γ->aa β}{l:af (Code×An)}
  (hf:vp.funcs[f]? =V fn) (hF:bD vp F) (h:∀p∈l,Ip vp F 0 fn.ntmps 300 p) (hG:bD vp za)
  (hb:fn.body.isNone=O:=by kernel_rfl) (ho:aax (vC fn) an=l:=by kernel_rfl)
  (h0:∀p,(match oK vp f (d.pat p)with
   |some ds=>V (Out.mk (fA ds) (uh (d.pat p).R 0 (fA ds)) (d.pat p).nx)
   |none=>G)=V (fZ vp f 0 (d.pat p)):=by intro _;kernel_rfl)
  (h1:∀g,(a.c g).all (jN (λi=>zA i 0) 4)=J:=by intro _;kernel_rfl)
  (c:∀g,bZ vp F 300 an f (a.c g) [] 0 d.rd=t g:=by intro _;kernel_rfl)
  (h2:(fn.name=="runtime.NumGoroutine")=O:=by kernel_rfl)
  (h3:∀b,(fZ vp f 0 (d.pat b)).okB 0=J:=by intro _;kernel_rfl):bD vp (eZ vp f a d t za):=
 Kt (fe hF (cH hf (bT hb) ho h) (λp=>by have:=h0 p;revert this;cases oK vp f (d.pat p)<;>exact id) h1 c) ⟨_,hf,h2,hb⟩ h3 hG
def kZf{f:Nat}{fn:Func}{F za:bu}{an:An}{γ β:Type}{a:Rl γ}{d:Td 0 β}{t:γ->aa β}{l:af (Code×An)}
  (hf:vp.funcs[f]? =V fn) (hF:bD vp F) (h:∀p∈l,Ip vp F 0 fn.ntmps 300 p) (hG:bD vp za)
  (hb:fn.body.isNone=O:=by kernel_rfl) (ho:aax (vC fn) an=l:=by kernel_rfl)
  (h0:∀p,(match oK vp f (d.pat p)with
   |some ds=>V (Out.mk (fA ds) (uh (d.pat p).R 0 (fA ds)) (d.pat p).nx)
   |none=>G)=V (fZ vp f 0 (d.pat p)):=by intro _;kernel_rfl)
  (h1:∀g,(a.c g).all (jN (λi=>zA i 0) 4)=J:=by intro _;kernel_rfl)
  (c:∀g,bZ vp F 300 an f (a.c g) [] 0 d.rd=t g:=by intro _;kernel_rfl)
  (h2:(fn.name=="runtime.NumGoroutine")=O:=by kernel_rfl)
  (h3:∀b,(fZ vp f 0 (d.pat b)).okB 0=J:=by intro _;kernel_rfl):bD vp (eZf vp f a d t za):=
 afi (fe hF (cH hf (bT hb) ho h) (λp=>by have:=h0 p;revert this;cases oK vp f (d.pat p)<;>exact id) h1 c) ⟨_,hf,h2,hb⟩ h3 hG
def kY{f n0:Nat}{fn:Func}{F za:bu}{an:An}{γ δ β:Type}{a:Rl γ}{s:Rs δ}{d:Td n0 β}{t:γ×δ->aa β}{l:af (Code×An)}
  (hf:vp.funcs[f]? =V fn) (hF:bD vp F) (h:∀p∈l,Ip vp F n0 fn.ntmps 300 p) (hG:bD vp za)
  (hb:fn.body.isNone=O:=by kernel_rfl) (ho:aax (vC fn) an=l:=by kernel_rfl)
  (h0:∀p,(match oK vp f (d.pat p)with
   |some ds=>V (Out.mk (fA ds) (uh (d.pat p).R n0 (fA ds)) (d.pat p).nx)
   |none=>G)=V (fZ vp f n0 (d.pat p)):=by intro _;kernel_rfl)
  (h1:∀g,(a.c g).all (jN (λi=>zA i n0) 4)=J:=by intro _;kernel_rfl)
  (h1':∀g,(s.d g).all (λq=>zA q.1 n0&&match q.2 with
  | .box _ cs=>cs.all (jN (λi=>zA i n0) 4)
  | .row _ _=>J)=J:=by intro _;kernel_rfl)
  (c:∀g,bZ vp F 300 an f (a.c g.1) (s.d g.2) n0 d.rd=t g:=by intro _;kernel_rfl)
  (h2:(fn.name=="runtime.NumGoroutine")=O:=by kernel_rfl)
  (h3:∀b,(fZ vp f n0 (d.pat b)).okB n0=J:=by intro _;kernel_rfl):bD vp (eY vp f n0 a s d t za):=
 Dy (Wv hF (cH hf (bT hb) ho h) (λp=>by have:=h0 p;revert this;cases oK vp f (d.pat p)<;>exact id) h1 (λg=>Eq.trans (by congr 1;funext q;obtain⟨i,r⟩:=q;cases r<;>rfl) (h1' g)) c) ⟨_,hf,h2,hb⟩ h3 hG
def Lv{F:bu}{p:Nat->Bool}(h:bD vp F):bD vp (rC vp F p 300 10):=⟨qX h.ok h.nat 300 10,oh h.nat 300 10⟩
abbrev aCQ:=Int×Int
def d352:Td 0 aCQ:= .c [] [4,5] (.r 0 0 (ec 4 (qi .u64) (ec 5 (qi .u64) en)) sn (λz=>(z.1.1,z.1.2.1)) (λx=>((x.1,x.2,()),(()))))
def acQ(a0:Int)(a1:Int):aCQ:=
 (bJ (bJ (bJ (cT u64 a0 (32)*cT u64 a1 (32))+cT u64 (bJ (bJ (cT u64 a0 (32)*uR u64 a1 (4294967295))+cT u64 (bJ (uR u64 a0 (4294967295)*uR u64 a1 (4294967295))) (32))) (32))+cT u64 (bJ (uR u64 (bJ (bJ (cT u64 a0 (32)*uR u64 a1 (4294967295))+cT u64 (bJ (uR u64 a0 (4294967295)*uR u64 a1 (4294967295))) (32))) (4294967295)+bJ (uR u64 a0 (4294967295)*cT u64 a1 (32)))) (32)),bJ (a0*a1))
def aFO:=eL vp 352 O (lc (qi .u64) (lc (qi .u64) ln)) d352 (λg=>V (acQ g.1 g.2.1))
def aiq:EO aFO:=λh=>kL (an:= .no) func352 aV aH h
abbrev axc:=Int
def d301:Td 0 axc:= .c [] [2] (.r 0 0 (ec 2 aP en) sn (λz=>z.1.1) (λx=>((x,()),(()))))
def anC(a0:Int):aa axc:=
 bif vn (4294967296<=a0)then bif vn (65536<=cT u64 a0 32)then bif vn (256<=cT u64 (cT u64 a0 32) 16)then if 0<=IntKind.u8.wrap (cT u64 (cT u64 (cT u64 a0 ((32:Int))) ((16:Int))) ((8:Int)))/\IntKind.u8.wrap (cT u64 (cT u64 (cT u64 a0 ((32:Int))) ((16:Int))) ((8:Int)))<256then V (ak (56+ak (dh mb (IntKind.u8.wrap (cT u64 (cT u64 (cT u64 a0 32) 16) 8)).toNat)))else G else if 0<=IntKind.u8.wrap (cT u64 (cT u64 a0 ((32:Int))) ((16:Int)))/\IntKind.u8.wrap (cT u64 (cT u64 a0 ((32:Int))) ((16:Int)))<256then V (ak (48+ak (dh mb (IntKind.u8.wrap (cT u64 (cT u64 a0 32) 16)).toNat)))else G else bif vn (256<=cT u64 a0 32)then if 0<=IntKind.u8.wrap (cT u64 (cT u64 a0 ((32:Int))) ((8:Int)))/\IntKind.u8.wrap (cT u64 (cT u64 a0 ((32:Int))) ((8:Int)))<256then V (ak (40+ak (dh mb (IntKind.u8.wrap (cT u64 (cT u64 a0 32) 8)).toNat)))else G else if 0<=IntKind.u8.wrap (cT u64 a0 ((32:Int)))/\IntKind.u8.wrap (cT u64 a0 ((32:Int)))<256then V (ak (32+ak (dh mb (IntKind.u8.wrap (cT u64 a0 32)).toNat)))else G else bif vn (65536<=a0)then bif vn (256<=cT u64 a0 16)then if 0<=IntKind.u8.wrap (cT u64 (cT u64 a0 ((16:Int))) ((8:Int)))/\IntKind.u8.wrap (cT u64 (cT u64 a0 ((16:Int))) ((8:Int)))<256then V (ak (24+ak (dh mb (IntKind.u8.wrap (cT u64 (cT u64 a0 16) 8)).toNat)))else G else if 0<=IntKind.u8.wrap (cT u64 a0 ((16:Int)))/\IntKind.u8.wrap (cT u64 a0 ((16:Int)))<256then V (ak (16+ak (dh mb (IntKind.u8.wrap (cT u64 a0 16)).toNat)))else G else bif vn (256<=a0)then if 0<=IntKind.u8.wrap (cT u64 a0 ((8:Int)))/\IntKind.u8.wrap (cT u64 a0 ((8:Int)))<256then V (ak (8+ak (dh mb (IntKind.u8.wrap (cT u64 a0 8)).toNat)))else G else if 0<=IntKind.u8.wrap a0/\IntKind.u8.wrap a0<256then V (ak (0+ak (dh mb (IntKind.u8.wrap a0).toNat)))else G
def aFi:=eL vp 301 O (lc (qi .u64) ln) d301 (λg=>anC g.1)
def ahj:EO aFi:=λh=>kL (an:= .no) func301 aV aH h
abbrev axO:=Int
def d358:Td 0 axO:= .c [] [2] (.r 0 0 (ec 2 aP en) sn (λz=>z.1.1) (λx=>((x,()),(()))))
def au7(a0:Int):aa axO:=
 match anC a0 with|G=>G|V r1=>V (ak (64-r1))
def aw8:=eL vp 358 O (lc (qi .u64) ln) d358 (λg=>au7 g.1)
def agN:EO aw8:=λh=>kL (an:= .no) func358 (ahj aV) aH h
def ayx:bu:=(aw8 dA)
structure lC where
 (t2 t8 t9 t10 t14 t15 t16 t17 t18:Int)
def UW:Td 0 lC:= .c [] [2,8,9,10,14,15,16,17,18] (.r 0 0 (ec 2 (qi .u64) (ec 8 (qi .u64) (ec 9 (qi .u64) (ec 10 (qi .u64) (ec 14 (qi .u64) (ec 15 (qi .u64) (ec 16 (qi .u64) (ec 17 (qi .u64) (ec 18 (qi .u64) en))))))))) sn (λz=>⟨z.1.1,z.1.2.1,z.1.t.1,z.1.t.2.1,z.1.q.1,z.1.q.2.1,z.1.q.t.1,z.1.q.t.2.1,z.1.q.q.1⟩) (λx=>((x.t2,x.t8,x.t9,x.t10,x.t14,x.t15,x.t16,x.t17,x.t18,()),(()))))
def uU{α:Type}(p:lC)(go:lC->aa α)(e1 e2:aa α):aa α:=
 match (bif vn (4294967296<=p.t18)then V (J)else V (vn (bJ (bJ (4294967296*p.t16)+p.t14)<bJ (p.t18*p.t10))))with|G=>G|V r2=>bif r2 then bif vn (4294967296<=bJ (p.t16+p.t9))then e1 else go (lC.mk p.t2 p.t8 p.t9 p.t10 p.t14 p.t15 (bJ (p.t16+p.t9)) p.t17 (bJ (p.t18-1)))else e2
def B4(p:lC):aa (aa lC):=
 uU p (λs=>V (V s)) (V G) (V G)
def ad3:An:=(.two (.two (.rb [] 113) .no) .no)
def G7:=bI (B4)
structure mc where
 (t2 t8 t9 t10 t11 t13 t14 t15 t16:Int)
def Vk:Td 0 mc:= .c [] [2,8,9,10,11,13,14,15,16] (.r 0 0 (ec 2 (qi .u64) (ec 8 (qi .u64) (ec 9 (qi .u64) (ec 10 (qi .u64) (ec 11 (qi .u64) (ec 13 (qi .u64) (ec 14 (qi .u64) (ec 15 (qi .u64) (ec 16 (qi .u64) en))))))))) sn (λz=>⟨z.1.1,z.1.2.1,z.1.t.1,z.1.t.2.1,z.1.q.1,z.1.q.2.1,z.1.q.t.1,z.1.q.t.2.1,z.1.q.q.1⟩) (λx=>((x.t2,x.t8,x.t9,x.t10,x.t11,x.t13,x.t14,x.t15,x.t16,()),(()))))
def CC{α:Type}(p:mc)(go:mc->aa α)(e1 e2:aa α):aa α:=
 match (bif vn (4294967296<=p.t15)then V (J)else V (vn (bJ (bJ (4294967296*p.t16)+p.t13)<bJ (p.t15*p.t10))))with|G=>G|V r1=>bif r1 then bif vn (4294967296<=bJ (p.t16+p.t9))then e1 else go (mc.mk p.t2 p.t8 p.t9 p.t10 p.t11 p.t13 p.t14 (bJ (p.t15-1)) (bJ (p.t16+p.t9)))else e2
def Da(p:mc):aa (aa mc):=
 CC p (λs=>V (V s)) (V G) (V G)
def afm:An:=(.two (.two (.rb [] 78) .no) .no)
def LG:=bI (Da)
abbrev aC9:=Int×Int
def d357:Td 0 aC9:= .c [] [6,7] (.r 0 0 (ec 6 (qi .u64) (ec 7 (qi .u64) en)) sn (λz=>(z.1.1,z.1.2.1)) (λx=>((x.1,x.2,()),(()))))
def aqI:∀f∈([]:af Nat),bA (ayx) f:=aH
def abX(a0:Int)(a1:Int)(a2:Int):aa aC9:=
 bif vn (a2=0)then G else bif vn (a2<=a0)then G else bif vn (a0=0)then if¬a2=0then if¬a2=0then V ((bJ (a1.tdiv a2),a1.tmod a2))else G else G else match au7 a2 with|G=>G|V r3=>if 0<=bJ r3 then if 0<=bJ r3 then if 0<=bJ ((64:Int)-bJ r3)then if 0<=bJ r3 then if¬cT u64 (nW u64 a2 (bJ r3)) ((32:Int))=0then match LG (mc.mk (nW u64 a2 (bJ r3)) (bJ r3) (cT u64 (nW u64 a2 (bJ r3)) 32) (uR u64 (nW u64 a2 (bJ r3)) 4294967295) (bOr u64 (nW u64 a0 (bJ r3)) (cT u64 a1 (bJ (64-bJ r3)))) (cT u64 (nW u64 a1 (bJ r3)) 32) (uR u64 (nW u64 a1 (bJ r3)) 4294967295) (bJ ((bOr u64 (nW u64 a0 (bJ r3)) (cT u64 a1 (bJ (64-bJ r3)))).tdiv (cT u64 (nW u64 a2 (bJ r3)) 32))) (bJ (bOr u64 (nW u64 a0 (bJ r3)) (cT u64 a1 (bJ (64-bJ r3)))-bJ (bJ ((bOr u64 (nW u64 a0 (bJ r3)) (cT u64 a1 (bJ (64-bJ r3)))).tdiv (cT u64 (nW u64 a2 (bJ r3)) 32))*cT u64 (nW u64 a2 (bJ r3)) 32))))with|G=>G|V r4=>CC r4 (λ_=>G) (if¬r4.t9=0then match G7 (lC.mk r4.t2 r4.t8 r4.t9 r4.t10 r4.t14 (bJ (r4.t15-1)) (bJ (bJ (bJ (bJ (r4.t11*4294967296)+r4.t13)-bJ (bJ (r4.t15-1)*r4.t2))-bJ (bJ ((bJ (bJ (bJ (r4.t11*4294967296)+r4.t13)-bJ (bJ (r4.t15-1)*r4.t2))).tdiv r4.t9)*r4.t9))) (bJ (bJ (bJ (r4.t11*4294967296)+r4.t13)-bJ (bJ (r4.t15-1)*r4.t2))) (bJ ((bJ (bJ (bJ (r4.t11*4294967296)+r4.t13)-bJ (bJ (r4.t15-1)*r4.t2))).tdiv r4.t9)))with|G=>G|V r6=>uU r6 (λ_=>G) (if 0<=r6.t8 then V ((bJ (bJ (r6.t15*4294967296)+bJ (r6.t18-1)),cT u64 (bJ (bJ (bJ (r6.t17*4294967296)+r6.t14)-bJ (bJ (r6.t18-1)*r6.t2))) r6.t8))else G) (if 0<=r6.t8 then V ((bJ (bJ (r6.t15*4294967296)+r6.t18),cT u64 (bJ (bJ (bJ (r6.t17*4294967296)+r6.t14)-bJ (r6.t18*r6.t2))) r6.t8))else G)else G) (if¬r4.t9=0then match G7 (lC.mk r4.t2 r4.t8 r4.t9 r4.t10 r4.t14 r4.t15 (bJ (bJ (bJ (bJ (r4.t11*4294967296)+r4.t13)-bJ (r4.t15*r4.t2))-bJ (bJ ((bJ (bJ (bJ (r4.t11*4294967296)+r4.t13)-bJ (r4.t15*r4.t2))).tdiv r4.t9)*r4.t9))) (bJ (bJ (bJ (r4.t11*4294967296)+r4.t13)-bJ (r4.t15*r4.t2))) (bJ ((bJ (bJ (bJ (r4.t11*4294967296)+r4.t13)-bJ (r4.t15*r4.t2))).tdiv r4.t9)))with|G=>G|V r8=>uU r8 (λ_=>G) (if 0<=r8.t8 then V ((bJ (bJ (r8.t15*4294967296)+bJ (r8.t18-1)),cT u64 (bJ (bJ (bJ (r8.t17*4294967296)+r8.t14)-bJ (bJ (r8.t18-1)*r8.t2))) r8.t8))else G) (if 0<=r8.t8 then V ((bJ (bJ (r8.t15*4294967296)+r8.t18),cT u64 (bJ (bJ (bJ (r8.t17*4294967296)+r8.t14)-bJ (r8.t18*r8.t2))) r8.t8))else G)else G)else G else G else G else G else G
def aFG:=eL vp 357 O (lc (qi .u64) (lc (qi .u64) (lc (qi .u64) ln))) d357 (λg=>abX g.1 g.2.1 g.t.1)
def agQ:EO aFG:=λh=>kL (F:=ayx) (an:=(noTwo (noTwo (noTwo (noTwo (noTwo (noTwo (noTwo (noTwo (noTwo (noTwo (noTwo (noTwo (noTwo (noTwo (.two (Vk.lp LG afm) (noTwo (noTwo (noTwo (.two (UW.lp G7 ad3) .no)))))))))))))))))))) (l:=[(bk f357 0,(Vk.lp LG afm)),(.skip,(.rb [] 78)),(bk f357 1,(UW.lp G7 ad3)),(.skip,(.rb [] 113))]) func357 (agN aV) (aA (aO Vk) (aA aqI (aA (aO UW) (aA aqI aH)))) h
abbrev aB3:=Int
def d353:Td 0 aB3:= .c [] [6] (.r 0 0 (ec 6 (qi .u64) en) sn (λz=>z.1.1) (λx=>((x,()),(()))))
def atF(a0:Int)(a1:Int)(a2:Int):aa aB3:=
 if¬a2=0then match abX (a0.tmod a2) a1 a2 with|G=>G|V r1=>V (r1.snd)else G
def aGH:=eL vp 353 O (lc (qi .u64) (lc (qi .u64) (lc (qi .u64) ln))) d353 (λg=>atF g.1 g.2.1 g.t.1)
def aiJ:EO aGH:=λh=>kL (an:= .no) func353 (agQ aV) aH h
abbrev aDJ:=Int
def d340:Td 0 aDJ:= .c [] [6] (.r 0 0 (ec 6 aP en) sn (λz=>z.1.1) (λx=>((x,()),(()))))
def am2(a0:Int)(a1:Int)(a2:Int):aa aDJ:=
 match atF (acQ (bJ a0) (bJ a1)).fst (acQ (bJ a0) (bJ a1)).snd (bJ a2)with|G=>G|V r1=>V (ak r1)
def aA5:=eL vp 340 O (aU (aU (aU ln))) d340 (λg=>am2 g.1 g.2.1 g.t.1)
def anY:EO aA5:=λh=>kL (an:= .no) func340 (aiJ (aiq aV)) aH h
end Go.Proofs.YtnfljbehcffmcaaGreat
end
