/- Merged: Iw9, Iw10, Iw11, Iw12, Iw13, Iw14, Iw15, Ixa, Ix1, Ix2, Ua, Ix3, Ix4, Us, Iz, Hl, Um, Hm. -/
import Derived.Test.YtnfljbehcffmcaaGreatM1AbstractSound
import Derived.Test.YtnfljbehcffmcaaGreatProg
open Nat renaming beq → zj, lt_succ_self → zC, le_refl → zI, le_trans → zJ, blt → zK, ble → yj, add_zero → yq, blt_eq → yz, le_succ → yB, zero_add → yJ, eq_of_beq_eq_true → xe, zero_le → xx, sub_self → xU
open Bool renaming and_eq_true → zn, or_eq_true → yQ, true → G, false → I
open List renaming mem_cons_self → zo, length_append → zq, getElem?_eq_getElem → zw, replicate → zy, all_eq_true → zA, mem_singleton → zD, mem_cons → zF, mem_cons_of_mem → zH, length_map → zL, mem_map → zN, mem_append → zV, mem_filter → zY, map_congr_left → z7, getElem?_eq_some_iff → ya, getElem?_map → yb, map_cons → yl, nil_append → ym, map_append → yo, map_map → yp, append_nil → yy, nodup_append → yG, mem_append_left → yH, mem_append_right → yI, filter_cons → yO, replicate_succ → yP, getElem?_append → xg, length_cons → xh, size_toArray → xk, eq_nil_of_length_eq_zero → xp, append_assoc → xq, filterMap_cons → xD, flatMap_cons → xF, getElem_mem → xO, mem_flatMap → xQ, filter_filter → wv, filter_congr → wz, getD_eq_getElem?_getD → wA, filter_eq_nil_iff → wM, eraseIdx_sublist → wV, getElem?_replicate → wW, getElem?_append_right → wX
open Option renaming map_eq_some_iff → zu, bind_eq_some_iff → zx, some → zO, bind_assoc → z8, map_some → yx, some → Q, none → V
open Array renaming getElem?_eq_getElem → wS
open Decidable renaming decide → O
open Go.Proofs.Tryz renaming prog → vi
open Go.Proofs.Tryz
set_option linter.unusedSectionVars false
set_option linter.unusedVariables false
set_option linter.unusedSimpArgs false
set_option linter.defProp false
noncomputable section
namespace Go.Iv
variable [U:sF] [L:n7]
open Go Go.RowKit
def lm(l:aa Nat):Nat:=List.rec 0 (λt _ ih=>Nat.lor ih (Nat.pow 2 t)) l
def N7:∀(l:aa Nat) (t:Nat),(lm l).testBit t=G↔t∈l
 |[],t=>by simp[lm]
 |a::l,t=>by
  show ((lm l)|||2^a).testBit t=G↔_;rw[Nat.testBit_or,yQ,N7 l t,Nat.testBit_two_pow];simp only[decide_eq_true_eq,zF];constructor
  ·rintro(h|h)
   ·exact .inr h
   ·exact .inl h.symm
  ·rintro(h|h)
   ·exact .inr h.symm
   ·exact .inl h
def and_zero{x y t:Nat}(h:Nat.land x y=0)(hx:x.testBit t=G)(hy:y.testBit t=G):False:=by
 have h':x&&&y=0:=h;have:=Nat.testBit_and x y t;rw[h',hx,hy]at this;simp at this
def msk(acc:aa Nat)(es:aa Edge):Nat:=List.rec 0 (λe _ ih=>match Region.binds .any e with
 |true=>Nat.lor ih (Nat.lor (Nat.pow 2 e.on) (acc.getD e.on 0))
 |false=>ih) es
def IP{acc:aa Nat}:∀{es:aa Edge} {j:Nat},(msk acc es).testBit j=G->∃e∈es,Region.binds .any e=G/\(j=e.on\/(acc.getD e.on 0).testBit j=G)
 |[],j,h=>by simp[msk]at h
 |e::es,j,h=>by
  change (match Region.binds .any e with
   |true=>Nat.lor (msk acc es) (Nat.lor (Nat.pow 2 e.on) (acc.getD e.on 0))
   |false=>msk acc es).testBit j=G at h
  cases hb:Region.binds .any e with
  |false=>
   rw[hb]at h;obtain⟨e',h1,h2⟩:=IP h;exact⟨e',zH _ h1,h2⟩
  |true=>
   rw[hb]at h;change ((msk acc es)|||((2^e.on)|||(acc.getD e.on 0))).testBit j=G at h;rw[Nat.testBit_or,Nat.testBit_or,yQ,yQ,Nat.testBit_two_pow]at h;rcases h with h|h|h
   ·obtain⟨e',h1,h2⟩:=IP h;exact⟨e',zH _ h1,h2⟩
   ·exact⟨e,zo,hb, .inl (by simp only[decide_eq_true_eq]at h;exact h.symm)⟩
   ·exact⟨e,zo,hb, .inr h⟩
def My(l:aa Oper):aa Nat->aa Nat:=List.rec (λacc=>acc) (λo _ ih acc=>ih (acc++[msk acc o.after.toList])) l
def Rdy(bs:aa Bool)(o:Oper):Prop:=∀e∈o.after.toList,Region.binds .any e=G->bs[e.on]? =Q G
def Eg(ops:aa Oper)(bs:aa Bool):Prop:=∀(i:Nat) o,ops[i]? =Q o->bs[i]? =Q G->Rdy bs o
def V3(ops:aa Oper)(acc:aa Nat):Prop:=∀(i m:Nat) o,acc[i]? =Q m->ops[i]? =Q o->∀bs,Eg ops bs->Rdy bs o->∀j,m.testBit j=G->bs[j]? =Q G
def SH(ops:aa Oper):∀(l:aa Oper) (acc:aa Nat),(∃pre,ops=pre++l/\pre.length=acc.length)->V3 ops acc->V3 ops (My l acc)
 |[],acc,_,h=>h
 |o::l,acc,⟨pre,hp,hl⟩,h=>by
  refine SH ops l _ ⟨pre++[o],by rw[hp];simp,by simp[hl]⟩ λi m o' hm ho bs hc hr j hj=> ?_;rw[xg]at hm;split at hm
  ·exact h i m o' hm ho bs hc hr j hj
  ·rename_i hlt;have hi:i=acc.length:=by
    have:=(ya.1 hm).1;simp at this;omega
   subst hi;rw[xU]at hm;cases hm;have ho':o'=o:=by
    rw[hp,<-hl,wX (zI _),xU]at ho;exact(zO.inj ho).symm
   subst ho';obtain⟨e,h1,h2,h3⟩:=IP hj;have h4:=hr e h1 h2;rcases h3 with rfl|h3
   ·exact h4
   ·cases ha:acc[e.on]? with
    |none=>rw[wA,ha]at h3;simp at h3
    |some m'=>
     rw[wA,ha]at h3;have hlt':=(ya.1 ha).1;cases hoe:ops[e.on]? with
     |none=>
      rw[List.getElem?_eq_none_iff,hp,zq]at hoe;omega
     |some oe=>exact h e.on m' oe ha hoe bs hc (hc e.on oe hoe h4) j h3
def arq:Operand->aa Nat
 | .tmp t=>[t]
 |_=>[]
def ail(ops:Array Oper)(o:Oper):aa Nat:=match o.guard with
 |none=>[]
 |some (j,_)=>match (ops[j]?).bind (·.dst)with
  |some t=>[t]
  |none=>[]
def dg(ops:Array Oper)(o:Oper):aa Nat:=o.op.operands.toList.flatMap arq++ail ops o
def efk(o:Oper):Bool:=match o.op with
 | .store _ _ _=>G
 | .buildSlice _ _ _=>G
 | .makeSlice _ _ _=>G
 | .alloc _=>G
 | .box _ _=>G
 | .slice _ _ _ _ _=>G
 | .call {callee:= .builtin .len, ..}=>I
 | .call {callee:= .builtin .max, ..}=>I
 | .call {callee:= .builtin .min, ..}=>I
 | .call _=>G
 |_=>I
def dmk:ah Nat->Nat
 |none=>0
 |some t=>Nat.pow 2 t
def B7{d:ah Nat}{t:Nat}(h:d=Q t):(dmk d).testBit t=G:=by
 subst h;show (2^t).testBit t=G;rw[Nat.testBit_two_pow];simp
structure Sk where
 (anc sm dm:Nat)
 ef:Bool
def Uc(j:Nat)(a b:Sk):Bool:=b.anc.testBit j||(zj (Nat.land a.dm b.sm) 0&&zj (Nat.land a.dm b.dm) 0&&zj (Nat.land b.dm a.sm) 0)
def LG(b:Sk)(i:Nat)(l:aa Sk):Nat->ah (aa (Nat×Nat)):=List.rec (λ_=>Q []) (λa _ ih j=>match Uc j a b with
 |true=>match !b.anc.testBit j&&(a.ef||b.ef)with
  |true=>(ih (j+1)).map λps=>(j,i)::ps
  |false=>ih (j+1)
 |false=>V) l
def Yf(l:aa Sk):aa Sk->Nat->ah (aa (Nat×Nat)):=List.rec (λ_ _=>Q []) (λb _ ih pre i=>(LG b i pre 0).bind λps=>(ih (pre++[b]) (i+1)).map λqs=>ps++qs) l
def Di{b:Sk}{i:Nat}:∀{l:aa Sk} {k:Nat} {ps:aa (Nat×Nat)},LG b i l k=Q ps->∀(j:Nat) a,l[j]? =Q a->Uc (k+j) a b=G/\(b.anc.testBit (k+j)=G\/(a.ef||b.ef)=I\/(k+j,i)∈ps)
 |[],k,ps,_,j,a,h=>by cases h
 |a0::l,k,ps,hs,j,a,h=>by
  change (match Uc k a0 b with
   |true=>match !b.anc.testBit k&&(a0.ef||b.ef)with
    |true=>(LG b i l (k+1)).map λps=>(k,i)::ps
    |false=>LG b i l (k+1)
   |false=>V)=Q ps at hs
  cases h0:Uc k a0 b with
  |false=>rw[h0]at hs;cases hs
  |true=>
   rw[h0]at hs;simp only at hs;cases h1:(!b.anc.testBit k&&(a0.ef||b.ef))with
   |true=>
    rw[h1]at hs;obtain⟨ps',h2,rfl⟩:=zu.1 hs;cases j with
    |zero=>cases h;exact⟨h0, .inr (.inr zo)⟩
    |succ j=>
     obtain⟨h3,h4⟩:=Di h2 j a h;rw[show k+1+j=k+(j+1)from by omega]at h3 h4;exact⟨h3,h4.imp id (λh=>h.imp id λh=>zH _ h)⟩
   |false=>
    rw[h1]at hs;cases j with
    |zero=>
     cases h;refine⟨h0,?_⟩;simp only[yq];cases hb:b.anc.testBit k with
     |true=>exact .inl rfl
     |false=>rw[hb]at h1;exact .inr (.inl (by simpa using h1))
    |succ j=>
     obtain⟨h3,h4⟩:=Di hs j a h;rw[show k+1+j=k+(j+1)from by omega]at h3 h4;exact⟨h3,h4⟩
def MH:∀{l pre:aa Sk} {k:Nat} {ps:aa (Nat×Nat)},Yf l pre k=Q ps->pre.length=k->∀(i j:Nat) a b,j<i->k<=i->(pre++l)[j]? =Q a->(pre++l)[i]? =Q b->Uc j a b=G/\(b.anc.testBit j=G\/(a.ef||b.ef)=I\/(j,i)∈ps)
 |[],pre,k,ps,_,hk,i,j,a,b,_,hki,_,hb=>by
  rw[yy]at hb;have:=(ya.1 hb).1;omega
 |b0::l,pre,k,ps,hs,hk,i,j,a,b,hji,hki,ha,hb=>by
  change ((LG b0 k pre 0).bind λps=>(Yf l (pre++[b0]) (k+1)).map λqs=>ps++qs)=Q ps at hs;obtain⟨p1,h1,hs⟩:=zx.1 hs;obtain⟨p2,h2,rfl⟩:=zu.1 hs;by_cases hik:i=k
  ·subst hik;rw[wX (by omega),hk,xU]at hb;cases hb;rw[List.getElem?_append_left (by omega)]at ha;have:=Di h1 j a ha;rw[yJ]at this;exact⟨this.1,this.2.imp id λh=>h.imp id λh=>yH _ h⟩
  ·have h3:=MH h2 (by simp[hk]) i j a b hji (by omega) (by simpa using ha) (by simpa using hb);exact⟨h3.1,h3.2.imp id λh=>h.imp id λh=>yI _ h⟩
def alm(ops:Array Oper)(l:aa Oper):aa Nat->aa Sk:=List.rec (λ_=>[]) (λo _ ih ms=>match ms with
 |m::ms=>⟨m,lm (dg ops o),dmk o.dst,efk o⟩::ih ms
 |[]=>[]) l
def plan(ops:Array Oper):ah (aa (Nat×Nat)):=Yf (alm ops ops.toList (My ops.toList [])) [] 0
def U8(l:aa Oper):∀acc:aa Nat,(My l acc).length=acc.length+l.length:=by
 induction l with
 |nil=>intro acc;rfl
 |cons o l ih=>intro acc;show (My l (acc++[_])).length=_;rw[ih];simp;omega
def DA(ops:Array Oper):∀(l:aa Oper) (ms:aa Nat) (i:Nat) (o:Oper) (m:Nat),l[i]? =Q o->ms[i]? =Q m->(alm ops l ms)[i]? =Q ⟨m,lm (dg ops o),dmk o.dst,efk o⟩
 |[],_,_,_,_,h,_=>by cases h
 |o0::l,[],_,_,_,_,h=>by cases h
 |o0::l,m0::ms,i,o,m,h1,h2=>by
  show (_::alm ops l ms)[i]? =_;cases i with
  |zero=>cases h1;cases h2;rfl
  |succ i=>exact DA ops l ms i o m h1 h2
def adQ(xs:aa Nat)(Lo:aZ)(ys:aa Nat):Bool:=xs.all (λi=> !dJ i ys)&&Lo.all λp=> !dJ p.1 ys
def cfD(c d:Rc):Bool:=(!c.ef||adQ c.wr c.Lo d.rd)&&(!d.ef||adQ d.wr d.Lo c.rd)
def WV(ps:aa (Nat×Nat))(cs:aa Rc):Bool:=ps.all λp=>match cs[p.1]?,cs[p.2]? with
 |some c,Q d=>cfD c d
 |_,_=>I
def R9{xs ys:aa Nat}{Lo:aZ}(h:adQ xs Lo ys=G):(∀i∈xs,i∉ys)/\∀p∈Lo,p.1∉ys:=by
 unfold adQ at h;simp only[zn,zA,Bool.not_eq_true']at h;exact⟨λi hi=>jt.1 (h.1 i hi),λp hp=>jt.1 (h.2 p hp)⟩
def afc{ops:Array Oper}{ps:aa (Nat×Nat)}{cs:aa Rc}(hp:plan ops=Q ps)(ho:WV ps cs=G)(hcs:∀(i:Nat) c,cs[i]? =Q c->∃o,ops.toList[i]? =Q o/\c.dst=o.dst/\c.sl=dg ops o/\(c.ef=G->efk o=G)/\∀i∈c.wr,i∈c.rd)
  {i j:Nat} {c d:Rc} (hji:j<i) (hc:cs[j]? =Q c) (hd:cs[i]? =Q d):
  CF c d\/∀bs,Eg ops.toList bs->(∀o,ops.toList[i]? =Q o->Rdy bs o)->bs[j]? =Q G:=by
 obtain⟨o1,h1,h2,h3,h4,h5⟩:=hcs j c hc;obtain⟨o2,g1,g2,g3,g4,g5⟩:=hcs i d hd;have hl1:=(ya.1 h1).1;have hl2:=(ya.1 g1).1;have hml:(My ops.toList []).length=ops.toList.length:=by rw[U8];simp
 obtain⟨m1,hm1⟩:∃m,(My ops.toList [])[j]? =Q m:=⟨_,zw (by rw[hml];exact hl1)⟩;obtain⟨m2,hm2⟩:∃m,(My ops.toList [])[i]? =Q m:=⟨_,zw (by rw[hml];exact hl2)⟩;have s1:=DA ops ops.toList _ j o1 m1 h1 hm1;have s2:=DA ops ops.toList _ i o2 m2 g1 hm2;obtain⟨q1,q2⟩:=MH hp rfl i j _ _ hji (xx _) s1 s2;have hmsk:V3 ops.toList (My ops.toList []):=SH ops.toList ops.toList [] ⟨[],rfl,rfl⟩ λi m o h=>by cases h
 by_cases ha:m2.testBit j=G
 ·exact .inr λbs hcl hr=>hmsk i m2 o2 hm2 g1 bs hcl (hr o2 g1) j ha
 ·refine .inl ?_;have ha':m2.testBit j=I:=by simpa using ha
  unfold Uc at q1;simp only[ha',Bool.false_or,zn]at q1;obtain⟨⟨r1,r2⟩,r3⟩:=q1;have r1:=gI r1;have r2:=gI r2;have r3:=gI r3;have hdyn:(c.ef||d.ef)=I\/cfD c d=G:=by
   rcases q2 with q2|q2|q2
   ·exact cR q2 ha
   ·simp only[Bool.or_eq_false_iff]at q2;left;have e1:c.ef=I:=by
     cases h:c.ef with
     |false=>rfl
     |true=>exact cR q2.1 (by rw[h4 h];simp)
    have e2:d.ef=I:=by
     cases h:d.ef with
     |false=>rfl
     |true=>exact cR q2.2 (by rw[g4 h];simp)
    rw[e1,e2];rfl
   ·right;have:=zA.1 ho _ q2;simp only[hc,hd]at this;exact this
  refine⟨λt ht=>⟨λhm=> ?_,λe=> ?_⟩,λt ht hm=> ?_,λhe=> ?_,λhe=> ?_⟩
  ·rw[h2]at ht;rw[g3]at hm;exact and_zero r1 (B7 ht) ((N7 _ _).2 hm)
  ·rw[h2]at ht;rw[g2]at e;exact and_zero r2 (B7 ht) (B7 e)
  ·rw[g2]at ht;rw[h3]at hm;exact and_zero r3 (B7 ht) ((N7 _ _).2 hm)
  ·rcases hdyn with h|h
   ·rw[he]at h;simp at h
   ·unfold cfD at h;simp only[he,zn,yQ,Bool.not_eq_true']at h;have q:=R9 (h.1.resolve_left (by simp));exact⟨q.1,q.2,λp hp hx=>q.2 p hp (g5 _ hx)⟩
  ·rcases hdyn with h|h
   ·rw[he]at h;simp at h
   ·unfold cfD at h;simp only[he,zn,yQ,Bool.not_eq_true']at h;have q:=R9 (h.2.resolve_left (by simp));exact⟨q.1,q.2,λp hp hx=>q.2 p hp (h5 _ hx)⟩
def IR.hU(p:Nat->Prop):IR->Prop
 | .box _ cs=>∀c∈cs,Iv.hU p c
 | .row _ _=>True
def aZ.hU(p:Nat->Prop)(R:aZ):Prop:=∀q∈R,p q.1/\q.2.hU p
def IR.hU.mono{p q:Nat->Prop}{r:IR}(h:r.hU p)(hn:∀i,p i->q i):r.hU q:=by
 cases r with
 |box T cs=>exact λc hc=>(h c hc).mono hn
 |row t l=>trivial
def aZ.hU.mono{p q:Nat->Prop}{R:aZ}(h:aZ.hU p R)(hn:∀i,p i->q i):aZ.hU q R:=λx hx=>⟨hn _ (h x hx).1,(h x hx).2.mono hn⟩
def aZ.hU.res{p:Nat->Prop}{R:aZ}{ρ ρ':Gh}(h:aZ.hU p R)(ha:Ags p ρ ρ'):aZ.res ρ R=aZ.res ρ' R:=z7 λq hq=>by
 obtain⟨h1,h2⟩:=h q hq;obtain⟨i,r⟩:=q;cases r with
 |box T cs=>simp only[IR.res];rw[(ha i h1).2,Iv.hU.Zr h2 ha]
 |row t l=>simp only[IR.res];rw[(ha i h1).1]
def aZ.hU.perm{p:Nat->Prop}{R R':aZ}(h:aZ.hU p R)(hp:List.Perm R R'):aZ.hU p R':=λq hq=>h q (hp.mem_iff.2 hq)
def aZ.cQ.lts{n:Nat}{R:aZ}(h:aZ.cQ n R):aZ.hU (λi=>i<n) R:=λq hq=>⟨(h q hq).1,by
 have:=(h q hq).2;cases hr:q.2 with
 |box T cs=>rw[hr]at this;exact this
 |row t l=>trivial⟩
def aZ.hU.rH{n:Nat}{R:aZ}(h:aZ.hU (λi=>i<n) R):aZ.cQ n R:=λq hq=>⟨(h q hq).1,by
 have:=(h q hq).2;cases hr:q.2 with
 |box T cs=>rw[hr]at this;exact this
 |row t l=>trivial⟩
def vw(f:Fr)(sl:aa Nat):Env:=sl.filterMap λt=>(f t).map λd=>(t,d)
def C7{f:Fr}{t:Nat}{d:AV}:∀{sl:aa Nat},(vw f sl).get t=Q d->f t=Q d
 |[],h=>by cases h
 |s::sl,h=>by
  unfold vw at h;rw[xD]at h;cases hs:f s with
  |none=>
   rw[hs]at h;exact C7 (sl:=sl) h
  |some e=>
   rw[hs]at h;simp only[yx]at h;unfold Env.get at h;cases hb:zj s t with
   |true=>
    rw[hb]at h;cases h;rw[<-gI hb];exact hs
   |false=>
    rw[hb]at h;exact C7 (sl:=sl) h
def H7{f:Fr}{t:Nat}{d:AV}:∀{sl:aa Nat},t∈sl->f t=Q d->(vw f sl).get t=Q d
 |[],h,_=>by cases h
 |s::sl,h,hf=>by
  unfold vw;rw[xD];by_cases hst:s=t
  ·subst hst;rw[hf];exact Env.fq _ _ _
  ·have ht:t∈sl:=(zF.1 h).resolve_left λe=>hst e.symm;cases f s with
   |none=>exact H7 ht hf
   |some e=>simp only[yx];rw[Env.dX _ _ hst];exact H7 ht hf
def NY{f g:Fr}{sl:aa Nat}(h:∀t∈sl,f t=g t):vw f sl=vw g sl:=by
 unfold vw;induction sl with
 |nil=>rfl
 |cons s sl ih=>
  rw[xD,xD,h s zo,ih λt ht=>h t (zH _ ht)]
section
variable {P:Program} {C:Cx} {n:Nat} {o:Oper}
def MtS(C:Cg)(n:Nat)(p:Nat->Prop)(f:Fr)(R:aZ)(a:Act)(w:World):Prop:=∃(E:Env) (ρ:Gh),(∀t d,f t=Q d->E.get t=Q d)/\(∀q∈E,hU p q.2)/\aZ.hU p R/\rq C.n C.ρ ρ/\tM C.C n (E.sub ρ) (aZ.res ρ R) a w
def pK{ρ:Gh}{R R':aZ}(h:List.Perm R R'):List.Perm (aZ.res ρ R) (aZ.res ρ R'):=h.map _
def kM{ρ:Gh}(R R':aZ):aZ.res ρ (R++R')=aZ.res ρ R++aZ.res ρ R':=yo ..
def MtS.perm{C:Cg}{p:Nat->Prop}{f:Fr}{R R':aZ}{a:Act}{w:World}(h:MtS C n p f R a w)(hp:List.Perm R R'):MtS C n p f R' a w:=by
 obtain⟨E,ρ,h1,h2,h3,h5,h4⟩:=h;exact⟨E,ρ,h1,h2,h3.perm hp,h5,h4.perm (pK hp)⟩
def Nlc(nx:Nat)(v:AV)(Ro:aZ)(ρ:Gh):ah AV->aa cK->Prop:=λa σ'=>∃ρ',rq nx ρ ρ'/\(a=Q (v.sub ρ')\/a=V/\v= .lit undef)/\List.Perm σ' (aZ.res ρ' Ro)
def af3{wr rd:aa Nat}(h:∀i∈wr,i∈rd)(R:aZ):List.Perm (hO wr (bX rd R)++hO rd R) (hO wr R):=by
 have e1:hO wr (bX rd R)=(hO wr R).filter λp=>dJ p.1 rd:=by
  simp only[hO,bX,wv];exact wz λp _=>Bool.and_comm ..
 have e2:hO rd R=(hO wr R).filter λp=> !dJ p.1 rd:=by
  simp only[hO,wv];refine wz λp _=> ?_;cases hm:dJ p.1 rd with
  |true=>rfl
  |false=>
   have:dJ p.1 wr=I:=jt.2 λhw=>jt.1 hm (h _ hw);rw[this];rfl
 rw[e1,e2];exact List.filter_append_perm _ _
def ajP{C:Cg}{p:Nat->Prop}{f:Fr}{R:aZ}{a:Act}{w:World}{c:Rc}{nx nx':Nat}{zh:Exit->Act->World->Prop}{K':Act->World->Prop}
  (hn:C.n<=nx) (hm:MtS C n p f R a w) (hdst:c.dst=o.dst) (hd:LB n o.dst=G) (hwr:∀i∈c.wr,i∈c.rd) (hloc:∀ρ C,Ye P ((vw f c.sl).sub ρ) (aZ.res ρ (bX c.rd R)) o C (Nlc nx c.v (match c.ef with|G=>c.Lo++hO c.wr (bX c.rd R)|I=>bX c.rd R) ρ))
  (hp:∀i,p i->¬(nx<=i/\i<nx')) (hv:cQ nx' c.v) (hLi:aZ.cQ nx (bX c.rd R)) (hLo:c.ef=G->aZ.cQ nx' c.Lo)
  (hv':hU (λi=>p i\/(nx<=i/\i<nx')) c.v) (hLo':c.ef=G->aZ.hU (λi=>p i\/(nx<=i/\i<nx')) c.Lo)
  (hK:∀a' w',a'.defers=a.defers->MtS C n (λi=>p i\/(nx<=i/\i<nx')) (c.F f) (c.R R) a' w'->K' a' w'):o.wp P a w K' zh:=by
 obtain⟨E,ρ,h1,h2,h3,h0,hsim0⟩:=hm;have hpm:List.Perm (bX c.rd R++hO c.rd R) R:=List.filter_append_perm _ _;have hsim:=hsim0.perm (pK (ρ:=ρ) hpm.symm);rw[kM]at hsim;generalize hσi:aZ.res ρ (bX c.rd R)=σi at hsim;generalize hσr:aZ.res ρ (hO c.rd R)=σr at hsim;have hg:=hsim.good;have hlt:∀b∈bH (σi++σr),b<w.heap.size:=λb hb=>by
  obtain⟨s,q1,q2⟩:=bS.1 hb;exact(hg.res s q1).lt q2
 have hal:∀b,al C.C (σi++σr) b->al ⟨w,al C.C (σi++σr),bH σi⟩ σi b:=λb hA=>⟨.inl hA,λhx=>hA.2 (bM.2 (.inl hx))⟩;have hgood:Good ⟨w,al C.C (σi++σr),bH σi⟩ σi w:=⟨Kp.refl _ _,λr hr=>(hg.res r (yH _ hr)).mono (λb _ hA=>⟨hal b hA,rfl⟩) (λ_ _=>rfl),by
  have:=hg.F9;rw[gT]at this;exact(yG.1 this).1,λb hb=> .inl hb⟩
 have hops:MO (al ⟨w,al C.C (σi++σr),bH σi⟩ σi) w ((vw f c.sl).sub ρ) a.eval:=λx u hx=>by
  rw[Env.NS]at hx;obtain⟨d,hd1,rfl⟩:=zu.1 hx;have hE:E.ev x=Q d:=by
   cases x with
   |tmp t=>exact h1 t d (C7 hd1)
   |_=>exact hd1
  exact(hsim.slots.ops x (d.sub ρ) (by rw[Env.NS,hE];rfl)).mono λb _ hA=>⟨hal b hA,rfl⟩
 have step:∀(ρ':Gh) (σo:aa cK) (w':World),rq nx ρ ρ'->List.Perm σo (aZ.res ρ' (match c.ef with|G=>c.Lo++hO c.wr (bX c.rd R)|I=>bX c.rd R))->Tr ⟨w,al C.C (σi++σr),bH σi⟩ (bH σi) σi w σo w'->
   ∃ρ'':Gh,rq C.n C.ρ ρ''/\c.v.sub ρ'=c.v.sub ρ''/\tM C.C n (E.sub ρ'') (aZ.res ρ'' (c.R R)) a w'/\(∀b,b<w'.heap.size->al ⟨w,al C.C (σi++σr),bH σi⟩ σo b->al C.C (aZ.res ρ'' (c.R R)) b):=λρ' σo w' ha hσo ht=>by
  let ρ'':Gh:=⟨λi=>if nx<=i/\i<nx' then ρ'.v i else ρ.v i,λi=>if nx<=i/\i<nx' then ρ'.b i else ρ.b i⟩
  have hag:Ags p ρ ρ'':=λi hi=>by
   have:=hp i hi;exact⟨by simp only[ρ'',bF this],by simp only[ρ'',bF this]⟩
  have hag2:rq nx' ρ' ρ'':=λi hi=>by
   by_cases hni:nx<=i
   ·exact⟨by simp only[ρ'',bt (And.intro hni hi)],by simp only[ρ'',bt (And.intro hni hi)]⟩
   ·have h0:¬(nx<=i/\i<nx'):=λh=>hni h.1;obtain⟨a1,a2⟩:=ha i (by omega);exact⟨by simp only[ρ'',bF h0];exact a1.symm,by simp only[ρ'',bF h0];exact a2.symm⟩
  have hnx:nx<=nx'\/nx'<nx:=by omega
  have hown:∀b∈bH σo,b∈bH σi\/w.heap.size<=b:=ht.good.own;have hsub:∀b,b<w'.heap.size->al ⟨w,al C.C (σi++σr),bH σi⟩ σo b->al C.C (σo++σr) b:=λb _ hb=>by
   obtain⟨hb1,hb2⟩:=hb;rcases hb1 with hb1|hb1|hb1
   ·exact⟨hb1.1,λhx=>(bM.1 hx).elim hb2 (λh=>hb1.2 (bM.2 (.inr h)))⟩
   ·have hbp:b∈bH σi:=hb1;refine⟨?_,λhx=>(bM.1 hx).elim hb2 (λh=> ?_)⟩
    ·rcases hg.own b (bM.2 (.inl hbp))with h|h
     ·exact .inr (.inl h)
     ·exact .inr (.inr h)
    ·have hdis:=hg.F9;rw[gT]at hdis;exact(yG.1 hdis).2.2 b hbp b h rfl
   ·have hbw:w.heap.size<=b:=hb1;exact⟨.inr (.inr (zJ hg.kept.size hbw)),λhx=>(bM.1 hx).elim hb2 (λh=>by have:=hlt b (bM.2 (.inr h));omega)⟩
  have ht2:Tr C.C (bH σi) (σi++σr) w (σo++σr) w':=Cy hg (λb hA _=> .inl hA) ht (λr hr=>(ht.good.res r hr).mono (λb hb hA=>⟨hsub b hb hA,rfl⟩) (λ_ _=>rfl));have hs2:=hsim.tr ht2;have hout:aZ.hU p (hO c.rd R):=λq hq=>h3 q (zY.1 hq).1;have hEs:E.sub ρ=E.sub ρ'':=z7 λq hq=>by rw[(h2 q hq).sub hag]
  have hrs:σr=aZ.res ρ'' (hO c.rd R):=by rw[<-hσr,hout.res hag]
  have hpo:List.Perm (σo++σr) (aZ.res ρ'' (c.R R)):=by
   rw[hrs];unfold Rc.R;cases hce:c.ef with
   |true=>
    rw[hce]at hσo;simp only at hσo ⊢;have hin:aZ.hU p (hO c.wr (bX c.rd R)):=λq hq=>h3 q (zY.1 (zY.1 hq).1).1;have hin2:aZ.cQ nx (hO c.wr (bX c.rd R)):=λq hq=>hLi q (zY.1 hq).1;have e1:aZ.res ρ' (hO c.wr (bX c.rd R))=aZ.res ρ'' (hO c.wr (bX c.rd R)):=by rw[<-hin2.res ha,hin.res hag]
    rw[kM,e1,(hLo hce).res hag2]at hσo;refine(hσo.append_right _).trans ?_;rw[xq,kM,<-kM (hO c.wr (bX c.rd R))];exact List.Perm.append_left _ (pK (af3 hwr R))
   |false=>
    rw[hce]at hσo;simp only at hσo ⊢;have hin:aZ.hU p (bX c.rd R):=λq hq=>h3 q (zY.1 hq).1;have e1:aZ.res ρ' (bX c.rd R)=aZ.res ρ'' (bX c.rd R):=by rw[<-hLi.res ha,hin.res hag]
    rw[e1]at hσo;refine(hσo.append_right _).trans ?_;rw[<-kM];exact pK hpm
  refine⟨ρ'',h0.trans (λi hi=>⟨by simp only[ρ'',bF (show ¬(nx<=i/\i<nx')by omega)],by simp only[ρ'',bF (show ¬(nx<=i/\i<nx')by omega)]⟩) (zI C.n),hv.sub hag2,by rw[<-hEs];exact hs2.perm hpo,λb hb hA=>S8 hpo b (hsub b hb hA)⟩
 have fin:∀(ρ':Gh) (σo:aa cK) (w':World) (v:Value),rq nx ρ ρ'->List.Perm σo (aZ.res ρ' (match c.ef with|G=>c.Lo++hO c.wr (bX c.rd R)|I=>bX c.rd R))->Tr ⟨w,al C.C (σi++σr),bH σi⟩ (bH σi) σi w σo w'->
   Rel (al ⟨w,al C.C (σi++σr),bH σi⟩ σo) w' (c.v.sub ρ') v->K' (a.put o.dst v) w':=λρ' σo w' v q1 q2 q3 q4=>by
  obtain⟨ρ'',g1,g2,g3,g4⟩:=step ρ' σo w' q1 q2 q3;have hR':aZ.hU (λi=>p i\/(nx<=i/\i<nx')) (c.R R):=by
   unfold Rc.R;cases hce:c.ef with
   |false=>exact h3.mono λi hi=> .inl hi
   |true=>exact λq hq=>(zV.1 hq).elim (hLo' hce q) λhq=>⟨.inl (h3 q (zY.1 hq).1).1,(h3 q (zY.1 hq).1).2.mono λi hi=> .inl hi⟩
  refine hK _ _ (by cases o.dst<;>rfl) ?_;rw[g2]at q4;cases hdo:o.dst with
  |none=>exact⟨E,ρ'',λt d ht=>h1 t d (by unfold Rc.F at ht;rw[hdst,hdo]at ht;simpa using ht),λq hq=>(h2 q hq).mono λi hi=> .inl hi,hR',g1,g3⟩
  |some t=>
   refine⟨(t,c.v)::E,ρ'',λs d hs=> ?_,λq hq=> ?_,hR',g1,?_⟩
   ·unfold Rc.F at hs;rw[hdst,hdo]at hs;by_cases hts:t=s
    ·subst hts;rw[bt rfl]at hs;cases hs;exact Env.fq _ _ _
    ·rw[bF (λe=>hts (zO.inj e))]at hs;rw[Env.dX _ _ hts];exact h1 s d hs
   ·rcases zF.1 hq with rfl|hq
    ·exact hv'
    ·exact(h2 q hq).mono λi hi=> .inl hi
   ·rw[hdo]at hd;exact g3.put hd (q4.mono λb hb hA=>⟨g4 b hb hA,rfl⟩)
 unfold Oper.wp;subst hσi;rcases hloc ρ _ w a.eval hgood hops with ⟨v,w',av,σ',⟨ρ',q1,q2,q3⟩,r1,r2,r3⟩|⟨w',σ',⟨ρ',q1,q2,q3⟩,r1,r2⟩|⟨g,args,r1,r2⟩
 ·rw[r2];rcases q2 with q2|⟨q2,_⟩
  ·cases q2;exact fin ρ' σ' w' v q1 q3 r1 r3
  ·cases q2
 ·rw[r2];rcases q2 with q2|⟨_,q2⟩
  ·cases q2
  ·exact fin ρ' σ' w' undef q1 q3 r1 (by rw[q2,bT];exact .lit _)
 ·rw[r1];refine Calls.mono r2 λee w' ⟨v,av,σ',q0,⟨ρ',q1,q2,q3⟩,s1,s2⟩=> ?_;subst q0;rcases q2 with q2|⟨q2,_⟩
  ·cases q2;exact fin ρ' σ' w' v q1 q3 s1 s2
  ·cases q2
end
end Go.Iv
end
noncomputable section
namespace Go.Iv
variable [U:sF] [L:n7]
open Go Go.RowKit
section
variable {P:Program} {o:Oper} {C:Cx} {N:ah AV->aa cK->Prop}
def Ye.Ut{E:Env}{R:aZ}{ρ:Gh}{id t:Nat}{l:aa (U.dF t)}(hr:gz R id=Q (.row t l))
  (h:Ye P (Env.sub ρ (E.map λp=>(p.1,nJ id t l 3 p.2))) (aZ.res ρ ((kR id R).map λp=>(p.1,uK id t l p.2))) o C N):Ye P (E.sub ρ) (aZ.res ρ R) o C N:=λw ϱ hg hρ=>by
 obtain⟨i,hi1,_,hi3⟩:=eV hr;have hres:=ic (ρ:=ρ) hi1;have hd:Hd (al C (aZ.res ρ R)) [.row (ρ.v id) t l] w:=⟨λr hr=>by
   rw[zD]at hr;rw[hr];exact hg.res _ (List.mem_of_getElem? hres),λb hb hA=>hA.2 (by
   obtain⟨r,h1,h2⟩:=bS.1 hb;rw[zD]at h1;rw[h1]at h2;exact bS.2 ⟨_,List.mem_of_getElem? hres,h2⟩)⟩
 have hle:=KQ (C:=C) hres hg;have hbk:bH (aZ.res ρ ((kR id R).map λp=>(p.1,uK id t l p.2)))=bH ((aZ.res ρ R).eraseIdx i):=by
  rw[<-As,<-hi3];unfold bH aZ.res;rw[yp,List.filterMap_map,List.filterMap_map]
  congr 1
  funext p
  obtain⟨q,rr⟩:=p;cases rr<;>rfl
 have hal:∀b,(al C (aZ.res ρ R) b\/b∈bH [cK.row (ρ.v id) t l])->al C (aZ.res ρ ((kR id R).map λp=>(p.1,uK id t l p.2))) b:=λb hb=>by
  have:=hle b hb;exact⟨this.1,by rw[hbk];exact this.2⟩
 have hrel:∀{d:AV} {v:Value},Rel (al C (aZ.res ρ R)) w (d.sub ρ) v->Rel (al C (aZ.res ρ ((kR id R).map λp=>(p.1,uK id t l p.2)))) w ((nJ id t l 3 d).sub ρ) v:=λh=>
  (CM hd 3 h).mono λb _ hA=>⟨hal b hA,rfl⟩
 have hsubb:∀b∈bH (aZ.res ρ ((kR id R).map λp=>(p.1,uK id t l p.2))),b∈bH (aZ.res ρ R):=λb hb=>by
  rw[hbk]at hb;exact qR (λr hr=>(wV _ _).subset hr) b hb
 have hg':Good C (aZ.res ρ ((kR id R).map λp=>(p.1,uK id t l p.2))) w:=by
  refine⟨hg.kept,λrr hrr=> ?_,?_,λb hb=>hg.own b (hsubb b hb)⟩
  ·obtain⟨p,h1,rfl⟩:=zN.1 hrr;obtain⟨p',h2,rfl⟩:=zN.1 h1;have hm:p'.2.res ρ p'.1∈aZ.res ρ R:=by
    rw[hi3]at h2;exact zN.2 ⟨p',List.mem_of_mem_eraseIdx h2,rfl⟩
   have h3:=hg.res _ hm;obtain⟨q,rr⟩:=p';cases rr with
   |row t' l'=>exact h3.mono (λb _ hA=>⟨hal b (.inl hA),rfl⟩) (λ_ _=>rfl)
   |box T cs=>
    obtain⟨us,h4,h5⟩:=h3;refine⟨us,h4,by simpa using h5.1,λj av v q1 q2=> ?_⟩;rw[yp,yb]at q1;obtain⟨c,hc,rfl⟩:=zu.1 q1;exact hrel (h5.2 j (c.sub ρ) v (by rw[yb,hc];rfl) q2)
  ·rw[hbk];exact hg.F9.sublist ((wV _ _).filterMap _)
 have hops:MO (al C (aZ.res ρ ((kR id R).map λp=>(p.1,uK id t l p.2)))) w (Env.sub ρ (E.map λp=>(p.1,nJ id t l 3 p.2))) ϱ:=λx u hx=>by
  cases x with
  |tmp k=>
   have hx':Env.get (Env.sub ρ (E.map λp=>(p.1,nJ id t l 3 p.2))) k=Q u:=hx;rw[Env.fo,uh]at hx';obtain⟨d',h1,rfl⟩:=zu.1 hx';obtain⟨d,h2,rfl⟩:=zu.1 h1;exact hrel (hρ (.tmp k) (d.sub ρ) (by show Env.get (E.sub ρ) k=_;rw[Env.fo,h2];rfl))
  |const v=>exact(hρ (.const v) u hx).mono λb _ hA=>⟨hal b (.inl hA),rfl⟩
  |global g=>exact(hρ (.global g) u hx).mono λb _ hA=>⟨hal b (.inl hA),rfl⟩
  |func f=>exact(hρ (.func f) u hx).mono λb _ hA=>⟨hal b (.inl hA),rfl⟩
 have htr:∀{σ':aa cK} {w':World},Tr C (bH (aZ.res ρ ((kR id R).map λp=>(p.1,uK id t l p.2)))) (aZ.res ρ ((kR id R).map λp=>(p.1,uK id t l p.2))) w σ' w'->Tr C (bH (aZ.res ρ R)) (aZ.res ρ R) w σ' w':=λh=>
  ⟨h.good,⟨h.kp.os,h.kp.tape,h.kp.output,h.kp.size,λk hk hn=>h.kp.block k hk λhx=>hn (hsubb k hx)⟩,λb hb hA=>⟨(h.al b hb (hal b (.inl hA))).1,hA.2⟩⟩
 rcases h w ϱ hg' hops with ⟨v,w',av,σ',h1,h2,h3,h4⟩|⟨w',σ',h1,h2,h3⟩|⟨f,args,h1,h2⟩
 ·exact .inl ⟨v,w',av,σ',h1,htr h2,h3,h4⟩
 ·exact .inr (.inl ⟨w',σ',h1,htr h2,h3⟩)
 ·exact .inr (.inr ⟨f,args,h1,h2.mono λe w' ⟨v,av,σ',q1,q2,q3,q4⟩=>⟨v,av,σ',q1,q2,htr q3,q4⟩⟩)
def Yl(sl:aa Nat)(T:ET)(E:Env):Prop:=∀t∈sl,∀d,cP T t=Q d->E.get t=Q d
def Ye.kr{sl:aa Nat}{nx:Nat}{ρ:Gh}:∀(ids:aa Nat) (T:ET) (E:Env) (R:aZ),Yl sl T E->E.cQ nx->aZ.cQ nx R->
  (∀E',Yl sl (St.kr ⟨T,R,nx⟩ ids).E E'->E'.cQ nx->aZ.cQ nx (St.kr ⟨T,R,nx⟩ ids).R->Ye P (E'.sub ρ) (aZ.res ρ (St.kr ⟨T,R,nx⟩ ids).R) o C N)->Ye P (E.sub ρ) (aZ.res ρ R) o C N
 |[],T,E,R,hh,hE,hR,h=>h E hh hE hR
 |i::ids,T,E,R,hh,hE,hR,h=>by
  have e0:St.kr ⟨T,R,nx⟩ (i::ids)=(St.JO ⟨T,R,nx⟩ i).kr ids:=rfl;rw[e0]at h;have key:∀s:St,s.nx=nx->s=⟨s.E,s.R,nx⟩:=λs hs=>by obtain⟨a,b,c⟩:=s;simp only at hs;rw[hs]
  cases hr:gz R i with
  |none=>
   have e1:St.JO ⟨T,R,nx⟩ i=⟨T,R,nx⟩:=by unfold St.JO;simp only[hr]
   rw[e1]at h;exact Ye.kr ids T E R hh hE hR h
  |some rr=>
   cases rr with
   |box T0 cs=>
    have e1:St.JO ⟨T,R,nx⟩ i=⟨T,R,nx⟩:=by unfold St.JO;simp only[hr]
    rw[e1]at h;exact Ye.kr ids T E R hh hE hR h
   |row t l=>
    have e1:St.JO ⟨T,R,nx⟩ i=⟨emap (nJ i t l 3) T,(kR i R).map λp=>(p.1,uK i t l p.2),nx⟩:=by unfold St.JO;simp only[hr]
    rw[e1]at h;refine Ye.Ut hr (Ye.kr ids _ _ _ (λk hk d hd=> ?_) (λp hp=> ?_) (λp hp=> ?_) h)
    ·rw[vD]at hd;obtain⟨d',h1,rfl⟩:=zu.1 hd;rw[uh,hh k hk d' h1];rfl
    ·obtain⟨p',h1,rfl⟩:=zN.1 hp;exact pW 3 (hE p' h1)
    ·obtain⟨p',h1,rfl⟩:=zN.1 hp;have h2:=E8 (id:=i) hR p' h1;refine⟨h2.1,?_⟩;obtain⟨q,rr⟩:=p';cases rr with
     |row t' l'=>trivial
     |box T0 cs=>
      intro c hc;obtain⟨c',h3,rfl⟩:=zN.1 hc;exact pW 3 (h2.2 c' h3)
end
def evL(sl:aa Nat)(T:ET):Operand->ah AV
 | .tmp t=>match dJ t sl with
  |true=>cP T t
  |false=>V
 |x=>Fj T x
def lK(R1:aZ)(nx:Nat)(fz:Bool)(e:gu):ah (AV×Bool×aZ×Nat):=Q (match e.vl nx with
 |some d=>d
 |none=> .lit undef,match e with
 | .val _=>fz
 |_=>G,e.R R1 nx,e.nx nx)
def Xk(P:Program)(F:bw)(o:Oper)(sl:aa Nat)(ids:aa Nat)(s:St):ah (AV×Bool×aZ×Nat):=St.rec (λE1 R1 nx1=>m5 o.op P F (evL sl E1) (gz R1) R1 nx1 (lK R1 nx1 (!ids.isEmpty))) (s.kr ids)
def Z2(P:Program)(F:bw)(o:Oper)(sl:aa Nat)(E:ET)(Rl:aZ)(nx:Nat):ah (AV×Bool×aZ×Nat):=Xk P F o sl (jf E o.op) ⟨E,Rl,nx⟩
def VX{α:Type}(P:Program)(F:bw)(o:Oper)(sl:aa Nat)(ids:aa Nat)(D:AV×Bool×aZ×Nat->ah α)(s:St):ah α:=St.rec (λE1 R1 nx1=>m5 o.op P F (evL sl E1) (gz R1) R1 nx1 (λe=>D (match e.vl nx1 with
 |some d=>d
 |none=> .lit undef,match e with
 | .val _=>(!ids.isEmpty)
 |_=>G,e.R R1 nx1,e.nx nx1))) (s.kr ids)
def FI{α:Type}(P:Program)(F:bw)(o:Oper)(sl:aa Nat)(E:ET)(Rl:aZ)(nx:Nat)(D:AV×Bool×aZ×Nat->ah α):ah α:=VX P F o sl (jf E o.op) D ⟨E,Rl,nx⟩
def C2{α:Type}{P:Program}{F:bw}(hN:eF F){o:Oper}{sl:aa Nat}{E:ET}{Rl:aZ}{nx:Nat}(D:AV×Bool×aZ×Nat->ah α):(Z2 P F o sl E Rl nx).bind D=FI P F o sl E Rl nx D:=by
 unfold Z2 FI Xk VX;generalize St.kr ⟨E,Rl,nx⟩ (jf E o.op)=s1;obtain⟨E1,R1,n1⟩:=s1;exact Aw D hN ..
def PZ:∀(ids:aa Nat) (s:St),(s.kr ids).nx=s.nx
 |[],s=>rfl
 |i::ids,s=>by
  show ((s.JO i).kr ids).nx=s.nx;rw[PZ ids];unfold St.JO;split<;>rfl
def aeO{P:Program}{F:bw}{o:Oper}{sl:aa Nat}{T:ET}{E:Env}{Rl Lo:aZ}{nx nx':Nat}{v:AV}{ef:Bool}(hF:iO P F)(h:Z2 P F o sl T Rl nx=Q (v,ef,Lo,nx'))(hh:Yl sl T E)(hE:E.cQ nx)(hR:aZ.cQ nx Rl):
  (∀ρ C,Ye P (E.sub ρ) (aZ.res ρ Rl) o C (Nlc nx v Lo ρ))/\(ef=I->∀ρ C,Ye P (E.sub ρ) (aZ.res ρ Rl) o C (Nlc nx v Rl ρ)):=by
 unfold Z2 Xk at h;generalize hs:St.kr ⟨T,Rl,nx⟩ (jf T o.op)=s1 at h;have hnx:s1.nx=nx:=by rw[<-hs,PZ]
 obtain⟨E1,R1,n1⟩:=s1;simp only at hnx;subst hnx;have h':m5 o.op P F (evL sl E1) (gz R1) R1 n1 (lK R1 n1 (!(jf T o.op).isEmpty))=Q (v,ef,Lo,nx'):=h;rw[Kf]at h';have main:∀ρ C (Ro:aZ),(∀e:gu,lK R1 n1 (!(jf T o.op).isEmpty) e=Q (v,ef,Lo,nx')->e.R R1 n1=Ro)->Ye P (E.sub ρ) (aZ.res ρ Rl) o C (Nlc n1 v Ro ρ):=λρ C Ro hRo=>by
  refine Ye.kr (sl:=sl) (jf T o.op) T E Rl hh hE hR λE' hh' hE' hR'=> ?_;rw[hs]at hh' hR' ⊢;have hsee:kj (evL sl E1) (gz R1) n1 E' R1:=⟨λx d hx=>by
   cases x with
   |tmp t=>
    unfold evL at hx;simp only at hx;split at hx
    ·rename_i hm;exact hh' t (gp.1 hm) d hx
    ·cases hx
   |_=>exact hx,λ_ _ h=>h,hE',hR'⟩
  have hst:=F3 (o:=o) hF hsee rfl h' ρ C;intro w ϱ hg hρ;have conv:∀a σ',Nx R1 n1 (lK R1 n1 (!(jf T o.op).isEmpty)) (v,ef,Lo,nx') ρ a σ'->Nlc n1 v Ro ρ a σ':=λa σ' ⟨e,q1,q2,q3,q4,ρ',q5,q6,q7⟩=>by
   refine⟨ρ',q5,?_,by rw[<-hRo e q1];exact q7⟩;unfold lK at q1;simp only[zO.injEq,Prod.mk.injEq]at q1;cases hv:e.vl n1 with
   |some d=>
    rw[hv]at q1 q6;left;rw[q6,<-q1.1];rfl
   |none=>
    rw[hv]at q1 q6;right;exact⟨q6,q1.1.symm⟩
  rcases hst w ϱ hg hρ with ⟨v',w',av,σ',h1,h2,h3,h4⟩|⟨w',σ',h1,h2,h3⟩|⟨f,args,h1,h2⟩
  ·exact .inl ⟨v',w',av,σ',conv _ _ h1,h2,h3,h4⟩
  ·exact .inr (.inl ⟨w',σ',conv _ _ h1,h2,h3⟩)
  ·exact .inr (.inr ⟨f,args,h1,h2.mono λe w' ⟨v',av,σ',q1,q2,q3,q4⟩=>⟨v',av,σ',q1,conv _ _ q2,q3,q4⟩⟩)
 refine⟨λρ C=>main ρ C Lo λe he=> ?_,λhef ρ C=>main ρ C Rl λe he=> ?_⟩
 ·unfold lK at he;simp only[zO.injEq,Prod.mk.injEq]at he;exact he.2.2.1
 ·unfold lK at he;simp only[zO.injEq,Prod.mk.injEq]at he;cases e with
  |val d=>
   have hemp:jf T o.op=[]:=by
    have h2:(!(jf T o.op).isEmpty)=I:=by rw[<-hef];exact he.2.1
    simpa using h2
   rw[hemp]at hs;have:(⟨T,Rl,n1⟩:St)=⟨E1,R1,n1⟩:=hs;exact(St.mk.inj this).2.1.symm
  |_=>exact cR (he.2.1.trans hef) (by simp)
end Go.Iv
end
noncomputable section
namespace Go.Iv
variable [U:sF] [L:n7]
open Go Go.RowKit
def lX(p:Nat->Bool)(n:Nat):AV->Bool:=Nat.rec (λd=>match d with
 | .lit _=>G
 | .sl _ _=>G
 | .rp _ _=>G
 | .own i=>p i
 | .ptr i _=>p i
 | .ra i _ _ _=>p i
 |_=>I) (λ_ ih d=>match d with
 | .lit _=>G
 | .sl _ _=>G
 | .rp _ _=>G
 | .own i=>p i
 | .ptr i _=>p i
 | .ra i _ _ _=>p i
 | .agg cs=>cs.all ih
 | .jE cs=>cs.all ih
 | .fn _ cs=>cs.all ih
 | .fp cs=>cs.all ih) n
def CB{p:Nat->Bool}:∀(n:Nat) {d:AV},lX p n d=G->hU (λi=>p i=G) d
 |0,d,h=>by
  cases d<;>first|exact .lit _|exact .sl _ _|exact .rp _ _|exact .own _ h|exact .ptr _ _ h|exact .ra _ _ _ _ h|(cases h;done)
 |n+1,d,h=>by
  have hL:∀{cs:aa AV},cs.all (lX p n)=G->∀c∈cs,hU (λi=>p i=G) c:=λh c hc=>CB n (zA.1 h c hc);cases d<;>first|exact .lit _|exact .sl _ _|exact .rp _ _|exact .own _ h|exact .ptr _ _ h|exact .ra _ _ _ _ h|exact .agg _ (hL h)|exact .jE _ (hL h)|exact .fn _ _ (hL h)|exact .fp _ (hL h)
def HK{p:Nat->Prop}:∀(n:Nat) {d:AV},hU p d->∀i∈oP n d,p i
 |0,d,h,i,hi=>by
  cases h<;>simp only[oP,zD,List.not_mem_nil]at hi<;>(subst hi;assumption)
 |n+1,d,h,i,hi=>by
  have hL:∀{cs:aa AV},(∀c∈cs,hU p c)->i∈cs.flatMap (oP n)->p i:=λh hi=>by
   obtain⟨c,h1,h2⟩:=xQ.1 hi;exact HK n (h c h1) i h2
  cases h with
  |agg cs h=>exact hL h hi
  |jE cs h=>exact hL h hi
  |fn f cs h=>exact hL h hi
  |own id h=>simp only[oP,zD]at hi;rw[hi];exact h
  |ptr id off h=>simp only[oP,zD]at hi;rw[hi];exact h
  |ra id t m off h=>simp only[oP,zD]at hi;rw[hi];exact h
  |_=>simp[oP]at hi
def CO(sl:aa Nat)(T:ET):aa Nat:=sl.flatMap λt=>match cP T t with
 |some d=>oP 3 d
 |none=>[]
def YP(R:aZ):aa Nat:=R.flatMap λq=>q.1::match q.2 with
 | .box _ cs=>cs.flatMap (oP 3)
 | .row _ _=>[]
def Wu(al:aa Nat)(nx nx' i:Nat):Bool:=dJ i al||(yj nx i&&zK i nx')
def okR(al:aa Nat)(nx nx':Nat)(R:aZ):Bool:=R.all λq=>Wu al nx nx' q.1&&match q.2 with
 | .box _ cs=>cs.all (lX (Wu al nx nx') 3)
 | .row _ _=>G
def IM{al:aa Nat}{nx nx' i:Nat}(h:Wu al nx nx' i=G):i∈al\/(nx<=i/\i<nx'):=by
 unfold Wu at h;simp only[yQ,zn,Nat.ble_eq,yz]at h;exact h.imp gp.1 id
def anM{al:aa Nat}{nx nx':Nat}{R:aZ}(h:okR al nx nx' R=G):aZ.hU (λi=>i∈al\/(nx<=i/\i<nx')) R:=λq hq=>by
 have:=zA.1 h q hq;simp only[zn]at this;refine⟨IM this.1,?_⟩;obtain⟨i,r⟩:=q;cases r with
 |row t l=>trivial
 |box T cs=>exact λc hc=>(CB 3 (zA.1 this.2 c hc)).mono λi hi=>IM hi
def ap6(o:Op):Bool:=match o with
 | .move _=>I
 | .assign _=>I
 | .pick _ _ _=>I
 | .unOp _ _ _=>I
 | .nilCheck _=>I
 | .fieldAddr _ _ _=>I
 | .extract _ _=>I
 | .makeFunc _ _ _=>I
 | .alloc _=>I
 |_=>G
def VB(o:Op):Bool:=match o with
 | .call {callee:= .value _, ..}=>G
 |_=>I
def pN(ops:Array Oper)(o:Oper)(E:ET)(R:aZ):aa Nat:=match ap6 o.op with
 |false=>[]
 |true=>match VB o.op with
  |false=>CO (dg ops o) E
  |true=>reach R 3 (CO (dg ops o) E)
def inQ(rd:aa Nat)(R:aZ):aZ:=match rd with
 |[]=>[]
 |rd=>bX rd R
def Yg(rd:aa Nat)(R:aZ):inQ rd R=bX rd R:=by
 cases rd with
 |nil=>exact(wM.2 λp _=>by simp[dJ]).symm
 |cons a l=>rfl
def rcB(ops:Array Oper)(o:Oper)(E:ET)(Rl:aZ)(nx:Nat)(v:AV)(ef:Bool)(Lo:aZ)(nx':Nat):Bool:=(λal=>yj nx nx'&&(!ef||efk o)&&lX (Wu al nx nx') 4 v&&(!ef||okR al nx nx' Lo)) (CO (dg ops o) E++YP Rl)
def aef(e:AV->AV->Bool)(l:aa AV):aa AV->Bool:=List.rec (λm=>match m with
 |[]=>G
 |_=>I) (λa _ ih m=>match m with
 |b::m=>e a b&&ih m
 |[]=>I) l
def amI(ih:AV->AV->Bool)(a b:AV):Bool:=match a,b with
 | .own i, .own j=>zj i j
 | .ptr i o, .ptr j p=>zj i j&&zj o p
 | .fn (.func f) cs, .fn (.func g) ds=>zj f g&&aef ih cs ds
 |_,_=>I
def eqA(n:Nat):AV->AV->Bool:=Nat.rec (λ_ _=>I) (λ_ ih=>amI ih) n
def ami(a b:IR):Bool:=match a,b with
 | .box T cs, .box T' ds=>zj T T'&&aef (eqA 2) cs ds
 |_,_=>I
def WM(l:aZ):aZ->Bool:=List.rec (λm=>match m with
 |[]=>G
 |_=>I) (λa _ ih m=>match m with
 |b::m=>zj a.1 b.1&&ami a.2 b.2&&ih m
 |[]=>I) l
def HU{e:AV->AV->Bool}(he:∀a b,e a b=G->a=b):∀{l m:aa AV},aef e l m=G->l=m
 |[],[],_=>rfl
 |[],_::_,h=>by cases h
 |_::_,[],h=>by cases h
 |a::l,b::m,h=>by
  change (e a b&&aef e l m)=G at h;rw[zn]at h;rw[he a b h.1,HU he h.2]
def W7:∀(n:Nat) {a b:AV},eqA n a b=G->a=b
 |0,a,b,h=>by cases h
 |n+1,a,b,h=>by
  change amI (eqA n) a b=G at h;unfold amI at h;split at h
  ·rw[gI h]
  ·rw[zn]at h;rw[gI h.1,gI h.2]
  ·rw[zn]at h;rw[gI h.1,HU (λa b=>W7 n) h.2]
  ·cases h
def JW:∀{l m:aZ},WM l m=G->l=m
 |[],[],_=>rfl
 |[],_::_,h=>by cases h
 |_::_,[],h=>by cases h
 |(i,a)::l,(j,b)::m,h=>by
  change (zj i j&&ami a b&&WM l m)=G at h;simp only[zn]at h;have h1:=gI h.1.1;subst h1;have h2:=h.1.2;unfold ami at h2;split at h2
  ·rw[zn]at h2;rw[gI h2.1,HU (λa b=>W7 2) h2.2,JW h.2]
  ·cases h2
def trim(K rd:aa Nat)(Rl Lo:aZ):aa Nat×aZ:=match K.filter λi=>dJ i rd with
 |[]=>(rd,Lo)
 |k::K=>match WM (bX (k::K) Lo) (bX (k::K) Rl)with
  |true=>(rd.filter λi=> !dJ i (k::K),hO (k::K) Lo)
  |false=>(rd,Lo)
def abu(K rd:aa Nat)(R Lo:aZ):(∀i∈(trim K rd (bX rd R) Lo).1,i∈rd)/\(∀q∈(trim K rd (bX rd R) Lo).2,q∈Lo)/\List.Perm Lo ((trim K rd (bX rd R) Lo).2++hO (trim K rd (bX rd R) Lo).1 (bX rd R)):=by
 have h0:hO rd (bX rd R)=[]:=wM.2 λp hp=>by
  have:dJ p.1 rd=G:=(zY.1 hp).2;rw[this];simp
 have triv:(∀i∈rd,i∈rd)/\(∀q∈Lo,q∈Lo)/\List.Perm Lo (Lo++hO rd (bX rd R)):=⟨λ_ h=>h,λ_ h=>h,by rw[h0,yy]⟩;unfold trim;split
 ·exact triv
 ·rename_i k K' hK;split
  case h_2=>exact triv
  rename_i he;have he:=JW he;refine⟨λi hi=>(zY.1 hi).1,λq hq=>(zY.1 hq).1,?_⟩;have e1:hO (rd.filter λi=> !dJ i (k::K')) (bX rd R)=bX (k::K') (bX rd R):=by
   unfold hO bX;refine wz λp hp=> ?_;have hp:dJ p.1 rd=G:=(zY.1 hp).2;cases hm:dJ p.1 (k::K')with
   |true=>
    rw[jt.2 λhx=> ?_];rfl;have:=(zY.1 hx).2;rw[hm]at this;cases this
   |false=>
    rw[gp.2 (zY.2 ⟨gp.1 hp,by rw[hm];rfl⟩)];rfl
  show List.Perm Lo (hO (k::K') Lo++hO (rd.filter λi=> !dJ i (k::K')) (bX rd R));rw[e1,<-he];exact(List.perm_append_comm.trans (List.filter_append_perm _ _)).symm
def partner(ops:Array Oper)(ps:aa (Nat×Nat))(i:Nat):aa Nat:=ps.flatMap λp=>match zj p.1 i with
 |true=>match ops[p.2]? with
  |some o=>match VB o.op with
   |true=>[]
   |false=>dg ops o
  |none=>[]
 |false=>match zj p.2 i with
  |true=>match ops[p.1]? with
   |some o=>match VB o.op with
    |true=>[]
    |false=>dg ops o
   |none=>[]
  |false=>[]
def ZA(ops:Array Oper)(ps:aa (Nat×Nat))(cs:aa Rc)(E:ET):aa Nat:=match ps with
 |[]=>[]
 |p::ps=>CO (partner ops (p::ps) cs.length) E
def dK2(o:Oper)(sl:aa Nat)(cs:aa Rc)(rd:aa Nat)(E:ET)(R:aZ){α:Type}(ih:aa Rc->St->(aa Rc->St->ah α)->ah α)(k:aa Rc->St->ah α)(v:AV)(ef:Bool)(nx':Nat)(t:aa Nat×aZ):ah α:=
 ih (cs++[⟨o.dst,v,sl,rd,t.1,ef,t.2⟩]) ⟨rS o.dst v E,match ef with
  |true=>t.2++hO t.1 R
  |false=>R,nx'⟩ k
def dK(ops:Array Oper)(ps:aa (Nat×Nat))(o:Oper)(cs:aa Rc)(rd:aa Nat)(E:ET)(R Rl:aZ)(nx:Nat){α:Type}(ih:aa Rc->St->(aa Rc->St->ah α)->ah α)(k:aa Rc->St->ah α)(x:AV×Bool×aZ×Nat):ah α:=
 match rcB ops o E Rl nx x.1 x.2.1 x.2.2.1 x.2.2.2 with
 |true=>dK2 o (dg ops o) cs rd E R ih k x.1 x.2.1 x.2.2.2 (trim (ZA ops ps cs E) rd Rl x.2.2.1)
 |false=>V
def aoP{α:Type}(P:Program)(F:bw)(ops:Array Oper)(ps:aa (Nat×Nat))(o:Oper)(ih:aa Rc->St->(aa Rc->St->ah α)->ah α)(cs:aa Rc)(k:aa Rc->St->ah α)(E:ET)(R:aZ)(nx:Nat)(rd:aa Nat)(Rl:aZ):ah α:=
 FI P F o (dg ops o) E Rl nx (dK ops ps o cs rd E R Rl nx ih k)
def au1{α:Type}(P:Program)(F:bw)(ops:Array Oper)(ps:aa (Nat×Nat))(o:Oper)(ih:aa Rc->St->(aa Rc->St->ah α)->ah α)(cs:aa Rc)(k:aa Rc->St->ah α)(s:St):ah α:=
 St.rec (λE R nx=>(λrd=>aoP P F ops ps o ih cs k E R nx rd (inQ rd R)) (pN ops o E R)) s
def dNo{α:Type}(ops:Array Oper)(o:Oper)(ih:aa Rc->St->(aa Rc->St->ah α)->ah α)(cs:aa Rc)(k:aa Rc->St->ah α)(s:St):ah α:=
 ih (cs++[⟨o.dst, .lit undef,dg ops o,[],[],I,[]⟩]) ⟨rS o.dst (.lit undef) s.E,s.R,s.nx⟩ k
def Ts{α:Type}(P:Program)(F:bw)(n:Nat)(ops:Array Oper)(ps:aa (Nat×Nat))(o:Oper)(ih:aa Rc->St->(aa Rc->St->ah α)->ah α)(cs:aa Rc)(s:St)(k:aa Rc->St->ah α):ah α:=match LB n o.dst with
 |true=>gate ops o s (au1 P F ops ps o ih cs k) (dNo ops o ih cs k)
 |false=>V
def U7{α:Type}(P:Program)(F:bw)(n:Nat)(ops:Array Oper)(ps:aa (Nat×Nat))(l:aa Oper):aa Rc->St->(aa Rc->St->ah α)->ah α:=List.rec (λcs s k=>k cs s) (λo _ ih=>Ts P F n ops ps o ih) l
def W5(l:aa Oper):Nat->Bool:=List.rec (λ_=>G) (λo _ ih i=>(o.after.toList.all λe=> !Region.binds .any e||zK e.on i)&&ih (i+1)) l
def Lk:∀{l:aa Oper} {k:Nat},W5 l k=G->∀(i:Nat) o,l[i]? =Q o->∀e∈o.after.toList,Region.binds .any e=G->e.on<k+i
 |[],k,_,i,o,h,_,_,_=>by cases h
 |o0::l,k,hb,i,o,h,e,he,hbe=>by
  change ((o0.after.toList.all λe=> !Region.binds .any e||zK e.on k)&&W5 l (k+1))=G at hb;simp only[zn]at hb;cases i with
  |zero=>
   cases h;have:=zA.1 hb.1 e he;rw[hbe]at this;simpa [yz]using this
  |succ i=>
   have:=Lk hb.2 i o h e he hbe;omega
def F7{α:Type}(P:Program)(F:bw)(n:Nat)(ops:Array Oper)(s:St)(k:St->ah α):ah α:=match P.follows .mixedOrders&&W5 ops.toList 0 with
 |true=>match plan ops with
  |some ps=>U7 P F n ops ps ops.toList [] s λcs s'=>match WV ps cs with
   |true=>k s'
   |false=>V
  |none=>V
 |false=>V
def ED(ops:Array Oper)(o:Oper)(f:Fr)(wn:Bool):Prop:=match o.guard with
 |none=>wn=G
 |some (j,want)=>∃t,(ops[j]?).bind (·.dst)=Q t/\((∃b,f t=Q (.lit (.bool b))/\wn=(b==want))\/(∃vs,f t=Q (.lit (.tuple vs))/\wn=I))
structure AB (P:Program) (n:Nat) (ops:Array Oper) (o:Oper) (f:Fr) (R:aZ) (nx:Nat) (c:Rc) (nx':Nat):Prop where
 dst:c.dst=o.dst
 sl:c.sl=dg ops o
 ef:c.ef=G->efk o=G
 dn:LB n o.dst=G
 le:nx<=nx'
 run:(ED ops o f I/\c.v= .lit undef/\c.ef=I)\/(ED ops o f G/\∀ρ C,Ye P ((vw f c.sl).sub ρ) (aZ.res ρ (bX c.rd R)) o C (Nlc nx c.v (match c.ef with|G=>c.Lo++hO c.wr (bX c.rd R)|I=>bX c.rd R) ρ))
 wr:∀i∈c.wr,i∈c.rd
 lin:aZ.cQ nx (bX c.rd R)
 lv:cQ nx' c.v
 lo:c.ef=G->aZ.cQ nx' c.Lo
 ids:∀p:Nat->Prop,(∀t∈c.sl,∀d,f t=Q d->hU p d)->aZ.hU p (bX c.rd R)->hU (λi=>p i\/(nx<=i/\i<nx')) c.v/\(c.ef=G->aZ.hU (λi=>p i\/(nx<=i/\i<nx')) c.Lo)
inductive Ch (P:Program) (n:Nat) (ops:Array Oper):Fr->aZ->Nat->List Oper->List Rc->Fr->aZ->Nat->Prop
 |nil (f:Fr) (R:aZ) (nx:Nat):Ch P n ops f R nx [] [] f R nx
 |cons {f f':Fr} {R R':aZ} {nx nx1 nx':Nat} {o:Oper} {os:List Oper} {c:Rc} {cs:List Rc} (h:AB P n ops o f R nx c nx1) (hs:Ch P n ops (c.F f) (c.R R) nx1 os cs f' R' nx'):Ch P n ops f R nx (o::os) (c::cs) f' R' nx'
def amf{α:Type}{r:α}{ops:Array Oper}{o:Oper}{s:St}{yes no:St->ah α}(h:gate ops o s yes no=Q r){f:Fr}(hf:∀t d,cP s.E t=Q d->f t=Q d):∃s':St,s'.R=s.R/\s'.nx=s.nx/\(∀t d,cP s'.E t=Q d->f t=Q d)/\
  ((ED ops o f G/\yes s'=Q r)\/(ED ops o f I/\no s'=Q r)):=by
 unfold gate at h;unfold ED;split at h
 ·rename_i hg;exact⟨s,rfl,rfl,hf, .inl ⟨by first|rw[hg]|rfl,h⟩⟩
 ·rename_i j want hg;split at h
  ·cases h
  ·rename_i t hj;have hput:∀b,cP s.E t=Q (.lit (.bool b))->∀k d,cP (s.gj t b).E k=Q d->f k=Q d:=λb hb k d hk=>by
    have hk':cP (mj t (.b b) s.E) k=Q d:=hk;rcases qD hk' with ⟨rfl,rfl⟩|⟨_,h2⟩
    ·exact hf _ _ hb
    ·exact hf k d h2
   split at h
   ·rename_i b hb;have hfb:=hf _ _ hb;split at h
    ·split at h
     ·exact⟨s.gj t G,rfl,rfl,hput _ hb, .inl ⟨by(try rw[hg]);exact⟨t,hj, .inl ⟨_,hfb,rfl⟩⟩,h⟩⟩
     ·exact⟨s.gj t G,rfl,rfl,hput _ hb, .inr ⟨by(try rw[hg]);exact⟨t,hj, .inl ⟨_,hfb,rfl⟩⟩,h⟩⟩
    ·split at h
     ·exact⟨s.gj t I,rfl,rfl,hput _ hb, .inr ⟨by(try rw[hg]);exact⟨t,hj, .inl ⟨_,hfb,rfl⟩⟩,h⟩⟩
     ·exact⟨s.gj t I,rfl,rfl,hput _ hb, .inl ⟨by(try rw[hg]);exact⟨t,hj, .inl ⟨_,hfb,rfl⟩⟩,h⟩⟩
   ·rename_i vs hb;exact⟨s,rfl,rfl,hf, .inr ⟨by(try rw[hg]);exact⟨t,hj, .inr ⟨_,hf _ _ hb,rfl⟩⟩,h⟩⟩
   ·cases h
def Zg{dst:ah Nat}{v:AV}{E:ET}{f:Fr}{c:Rc}(hc:c.dst=dst)(hv:c.v=v)(hf:∀t d,cP E t=Q d->f t=Q d):∀t d,cP (rS dst v E) t=Q d->c.F f t=Q d:=λt d h=>by
 unfold rS at h;unfold Rc.F;rw[hc,hv];cases dst with
 |none=>simpa using hf t d h
 |some s=>
  rcases qD h with ⟨rfl,rfl⟩|⟨h1,h2⟩
  ·rw[bt rfl]
  ·rw[bF (λe=>h1 (zO.inj e))];exact hf t d h2
def Ye.mono{P:Program}{C:Cx}{E:Env}{σ:aa cK}{o:Oper}{N N':ah AV->aa cK->Prop}(h:Ye P E σ o C N)(hN:∀a σ',N a σ'->N' a σ'):Ye P E σ o C N':=λw ϱ hg hρ=>by
 rcases h w ϱ hg hρ with ⟨v,w',av,σ',h1,h2,h3⟩|⟨w',σ',h1,h2,h3⟩|⟨f,args,h1,h2⟩
 ·exact .inl ⟨v,w',av,σ',hN _ _ h1,h2,h3⟩
 ·exact .inr (.inl ⟨w',σ',hN _ _ h1,h2,h3⟩)
 ·exact .inr (.inr ⟨f,args,h1,Calls.mono h2 λe w' ⟨v,av,σ',q1,q2,q3⟩=>⟨v,av,σ',q1,hN _ _ q2,q3⟩⟩)
def Py{α:Type}{r:α}{P:Program}{F:bw}{n:Nat}{ops:Array Oper}{ps:aa (Nat×Nat)}(hF:iO P F)(hN:eF F){k:aa Rc->St->ah α}:∀(l:aa Oper) {cs:aa Rc} {s:St} {f:Fr},U7 P F n ops ps l cs s k=Q r->(∀t d,cP s.E t=Q d->f t=Q d)->(∀t d,f t=Q d->cQ s.nx d)->aZ.cQ s.nx s.R->
  ∃(cs':aa Rc) (s':St) (f':Fr),k (cs++cs') s'=Q r/\Ch P n ops f s.R s.nx l cs' f' s'.R s'.nx/\(∀t d,cP s'.E t=Q d->f' t=Q d)
 |[],cs,s,f,h,hf,_,_=>⟨[],s,f,by rw[yy];exact h, .nil f s.R s.nx,hf⟩
 |o::l,cs,s,f,h,hf,hfl,hR=>by
  change Ts P F n ops ps o (U7 P F n ops ps l) cs s k=Q r at h;unfold Ts at h;split at h
  case h_2=>cases h
  rename_i hd;obtain⟨s1,e1,e2,hf1,⟨hg,h1⟩|⟨hg,h1⟩⟩:=amf h hf
  ·obtain⟨E,R,nx⟩:=s1;obtain⟨E0,R0,nx0⟩:=s;simp only at e1 e2 hf1;subst e1 e2;change FI P F o (dg ops o) E (inQ (pN ops o E R) R) nx (dK ops ps o cs (pN ops o E R) E R (inQ (pN ops o E R) R) nx (U7 P F n ops ps l) k)=Q r at h1;rw[<-C2 hN]at h1;generalize hrd:pN ops o E R=rd at h1;obtain⟨⟨v,ef,Lo,nx'⟩,h2,h3⟩:=zx.1 h1;unfold dK at h3;split at h3
   case h_2=>cases h3
   rename_i hb;rw[Yg]at h2 hb;simp only at h3 hb;unfold rcB at hb;simp only[zn,Nat.ble_eq,yQ,Bool.not_eq_true']at hb;obtain⟨⟨⟨hb1,hb2⟩,hb3⟩,hb4⟩:=hb;have hin:aZ.cQ nx (bX rd R):=λq hq=>hR q (zY.1 hq).1;have hlE:(vw f (dg ops o)).cQ nx:=λq hq=>by
    obtain⟨t,_,ht⟩:=List.mem_filterMap.1 hq;obtain⟨d,hd1,hd2⟩:=zu.1 ht;rw[<-hd2];exact hfl t d hd1
   obtain⟨y1,y2⟩:=aeO hF h2 (E:=vw f (dg ops o)) (λt ht d hdd=>H7 ht (hf1 t d hdd)) hlE hin;have hal:∀p:Nat->Prop,(∀t∈dg ops o,∀d,f t=Q d->hU p d)->aZ.hU p (bX rd R)->∀i∈CO (dg ops o) E++YP (bX rd R),p i:=λp hp1 hp2 i hi=>by
    rcases zV.1 hi with hi|hi
    ·obtain⟨t,ht,hi⟩:=xQ.1 hi;split at hi
     ·rename_i d hdd;exact HK 3 (hp1 t ht d (hf1 t d hdd)) i hi
     ·cases hi
    ·obtain⟨q,hq,hi⟩:=xQ.1 hi;obtain⟨g1,g2⟩:=hp2 q hq;rcases zF.1 hi with rfl|hi
     ·exact g1
     ·obtain⟨j,rr⟩:=q;cases rr with
      |row t l=>cases hi
      |box T cs=>
       obtain⟨c,hc,hi⟩:=xQ.1 hi;exact HK 3 (g2 c hc) i hi
   obtain⟨t1,t2,t3⟩:=abu (ZA ops ps cs E) rd R Lo;rw[Yg]at h3;generalize trim (ZA ops ps cs E) rd (bX rd R) Lo=tr at h3 t1 t2 t3;obtain⟨wr,Lo'⟩:=tr;simp only at t1 t2 t3;have hids:∀p:Nat->Prop,(∀t∈dg ops o,∀d,f t=Q d->hU p d)->aZ.hU p (bX rd R)->hU (λi=>p i\/(nx<=i/\i<nx')) v/\(ef=G->aZ.hU (λi=>p i\/(nx<=i/\i<nx')) Lo'):=λp hp1 hp2=>
    ⟨(CB 4 hb3).mono λi hi=>(IM hi).imp (hal p hp1 hp2 i) id,λhe q hq=>((anM (hb4.resolve_left (by rw[he];simp))).mono λi hi=>hi.imp (hal p hp1 hp2 i) id) q (t2 q hq)⟩
   obtain⟨g1,g2⟩:=hids (λi=>i<nx) (λt _ d hdd=>hfl t d hdd) hin.lts;have hlt:∀i,(i<nx\/(nx<=i/\i<nx'))->i<nx':=λi hi=>by omega
   have hfact:AB P n ops o f R nx ⟨o.dst,v,dg ops o,rd,wr,ef,Lo'⟩ nx':=⟨rfl,rfl,λhe=>hb2.resolve_left (by simp only at he;rw[he];simp),hd,hb1, .inr ⟨hg,λρ C=>by
     cases ef with
     |true=>exact Ye.mono (y1 ρ C) λa σ' ⟨ρ',z1,z2,z3⟩=>⟨ρ',z1,z2,z3.trans (pK t3)⟩
     |false=>exact y2 rfl ρ C⟩,t1,hin,g1.mono hlt,λhe=>(aZ.hU.mono (g2 he) hlt).rH,hids⟩
   have hR':aZ.cQ nx' (Rc.R ⟨o.dst,v,dg ops o,rd,wr,ef,Lo'⟩ R):=by
    unfold Rc.R;cases ef with
    |false=>exact hR.mono hb1
    |true=>exact λq hq=>(zV.1 hq).elim (λhq=>((aZ.hU.mono (g2 rfl) hlt).rH) q hq) λhq=>(hR.mono hb1) q (zY.1 hq).1
   have h4:U7 P F n ops ps l (cs++[⟨o.dst,v,dg ops o,rd,wr,ef,Lo'⟩]) ⟨rS o.dst v E,Rc.R ⟨o.dst,v,dg ops o,rd,wr,ef,Lo'⟩ R,nx'⟩ k=Q r:=h3;obtain⟨cs',s',f',q1,q2,q3⟩:=Py hF hN l (f:=Rc.F ⟨o.dst,v,dg ops o,rd,wr,ef,Lo'⟩ f) h4 (Zg rfl rfl hf1) (λt d hdd=>by
    unfold Rc.F at hdd;split at hdd
    ·cases hdd;exact g1.mono hlt
    ·exact cQ.mono (hfl t d hdd) hb1) hR'
   exact⟨_::cs',s',f',by simpa using q1, .cons hfact q2,q3⟩
  ·obtain⟨E,R,nx⟩:=s1;obtain⟨E0,R0,nx0⟩:=s;simp only at e1 e2 hf1;subst e1 e2;have hin:aZ.cQ nx (bX [] R):=λq hq=>hR q (zY.1 hq).1;have hfact:AB P n ops o f R nx ⟨o.dst, .lit undef,dg ops o,[],[],false,[]⟩ nx:=⟨rfl,rfl,λh=>(by cases h),hd,zI _, .inl ⟨hg,rfl,rfl⟩,λ_ h=>(by cases h),hin, .lit _,λh=>(by cases h),λp _ _=>⟨.lit _,λh=>(by cases h)⟩⟩;have h2:U7 P F n ops ps l (cs++[⟨o.dst, .lit undef,dg ops o,[],[],I,[]⟩]) ⟨rS o.dst (.lit undef) E,R,nx⟩ k=Q r:=h1;obtain⟨cs',s',f',q1,q2,q3⟩:=Py hF hN l (f:=Rc.F ⟨o.dst, .lit undef,dg ops o,[],[],I,[]⟩ f) h2 (Zg rfl rfl hf1) (λt d hdd=>by
    unfold Rc.F at hdd;split at hdd
    ·cases hdd;exact .lit _
    ·exact hfl t d hdd) hR
   exact⟨_::cs',s',f',by simpa using q1, .cons hfact q2,q3⟩
end Go.Iv
end
noncomputable section
namespace Go.Iv
variable [U:sF] [L:n7]
open Go Go.RowKit
section
variable {P:Program} {n:Nat} {ops:Array Oper}
def Ch.idx{f f':Fr}{R R':aZ}{nx nx':Nat}{os:aa Oper}{cs:aa Rc}(h:Ch P n ops f R nx os cs f' R' nx'):cs.length=os.length/\f'=gS cs (zy cs.length G) f/\R'=gZ cs (zy cs.length G) R/\
  ∃g:Nat->Nat,g 0=nx/\g os.length=nx'/\(∀i,i<os.length->g i<=g (i+1))/\∀(i:Nat) o c,os[i]? =Q o->cs[i]? =Q c->AB P n ops o (gS (cs.take i) (zy i G) f) (gZ (cs.take i) (zy i G) R) (g i) c (g (i+1)):=by
 induction h with
 |nil f R nx=>exact⟨rfl,rfl,rfl,λ_=>nx,rfl,rfl,λi hi=>by simp at hi,λi o c h=>by cases h⟩
 |@cons f f' R R' nx nx1 nx' o os c cs h hs ih=>
  obtain⟨h1,h2,h3,g,g0,g1,g2,g3⟩:=ih;refine⟨by simp[h1],by rw[h2];rfl,by rw[h3];rfl,λi=>match i with|0=>nx|i+1=>g i,rfl,g1,λi hi=> ?_,λi o' c' q1 q2=> ?_⟩
  ·cases i with
   |zero=>show nx<=g 0;rw[g0];exact h.le
   |succ i=>exact g2 i (by simpa using hi)
  ·cases i with
   |zero=>cases q1;cases q2;show AB P n ops o f R nx c (g 0);rw[g0];exact h
   |succ i=>exact g3 i o' c' q1 q2
def WB{g:Nat->Nat}{N:Nat}(h:∀i,i<N->g i<=g (i+1)):∀i j,i<=j->j<=N->g i<=g j:=λi j hij hj=>by
 induction j with
 |zero=>
  have:i=0:=by omega
  subst this;exact zI _
 |succ j ih=>
  by_cases hi:i=j+1
  ·subst hi;exact zI _
  ·exact zJ (ih (by omega) (by omega)) (h j (by omega))
def pT:aa Bool->Nat
 |[]=>0
 |b::bs=>(match b with|G=>0|I=>1)+pT bs
def Mj:∀{bs:aa Bool} {i:Nat},bs[i]? =Q I->pT bs=pT (bs.set i G)+1
 |[],_,h=>by cases h
 |b::bs,0,h=>by
  simp only[List.getElem?_cons_zero,zO.injEq]at h;subst h;show 1+pT bs=(0+pT bs)+1;omega
 |b::bs,i+1,h=>by
  have:=Mj (bs:=bs) (i:=i) (by simpa using h);cases b with
  |true=>
   show 0+pT bs=(0+pT (bs.set i G))+1;omega
  |false=>
   show 1+pT bs=(1+pT (bs.set i G))+1;omega
def LI:∀N:Nat,pT (zy N I)=N
 |0=>rfl
 |N+1=>by rw[yP];show 1+pT (zy N I)=N+1;rw[LI N];omega
def FZ:∀{bs:aa Bool},pT bs=0->bs=zy bs.length G
 |[],_=>rfl
 |b::bs,h=>by
  cases b with
  |true=>rw[xh,yP,<-FZ (bs:=bs) (by have:0+pT bs=0:=h;omega)]
  |false=>have:1+pT bs=0:=h;omega
def LY:∀{bs:aa Bool},pT bs≠0->∃i:Nat,bs[i]? =Q I/\∀j,j<i->bs[j]? =Q G
 |[],h=>cR rfl h
 |b::bs,h=>by
  cases b with
  |false=>exact⟨0,rfl,λj hj=>by omega⟩
  |true=>
   obtain⟨i,h1,h2⟩:=LY (bs:=bs) (λe=>h (by show 0+pT bs=0;omega));refine⟨i+1,h1,λj hj=> ?_⟩;cases j with
   |zero=>rfl
   |succ j=>exact h2 j (by omega)
def mem_ready{listed:Array Bool}{i:Nat}:i∈Region.ready .any ops listed↔i<ops.size/\listed.getD i G=I/\∃o,ops[i]? =Q o/\∀e∈o.after.toList,Region.binds .any e=G->listed.getD e.on I=G:=by
 unfold Region.ready;simp only[zY,List.mem_range,zn,Bool.not_eq_true'];refine and_congr_right λhi=>and_congr_right λ_=> ?_;rw[wS hi];simp only[yx,Option.getD_some,zO.injEq,exists_eq_left'];rw[Array.all_eq_true'];constructor
 ·intro h e he hb;have:=h e (by simpa using he);rw[hb]at this;simpa using this
 ·intro h e he;cases hb:Region.binds .any e with
  |false=>rfl
  |true=>simpa using h e (by simpa using he) hb
def vN{listed:Array Bool}{i:Nat}(hi:i<listed.size):listed.getD i G=I↔listed.toList[i]? =Q I:=by
 rw[Array.getD_eq_getD_getElem?,wS hi,zw (by simpa using hi)];simp
def Dc{listed:Array Bool}{i:Nat}:listed.getD i I=G↔listed.toList[i]? =Q G:=by
 rw[Array.getD_eq_getD_getElem?];cases h:listed[i]? with
 |none=>simp[h]
 |some b=>simp[h]
def akP{C:Cg}{cs:aa Rc}{f0:Fr}{R0:aZ}{nx0:Nat}{g:Nat->Nat}{ds:aa Deferred}{zh:Exit->Act->World->Prop}
  (hlen:cs.length=ops.size) (g0:g 0=nx0) (gn:C.n<=nx0) (g2:∀i,i<ops.size->g i<=g (i+1)) (hf:∀(i:Nat) o c,ops.toList[i]? =Q o->cs[i]? =Q c->AB P n ops o (gS (cs.take i) (zy i G) f0) (gZ (cs.take i) (zy i G) R0) (g i) c (g (i+1)))
  (hcf:∀(i j:Nat) (c d:Rc),j<i->cs[j]? =Q c->cs[i]? =Q d->CF c d\/∀bs,Eg ops.toList bs->(∀o,ops.toList[i]? =Q o->Rdy bs o)->bs[j]? =Q G)
  (hback:∀(i:Nat) o,ops.toList[i]? =Q o->∀e∈o.after.toList,Region.binds .any e=G->e.on<i)
  (hQ:∀a w,a.defers=ds->MtS C n (λi=>i<g ops.size) (gS cs (zy cs.length G) f0) (gZ cs (zy cs.length G) R0) a w->zh .normal a w):
  ∀(fuel:Nat) (listed:Array Bool) (a:Act) (w:World),listed.size=ops.size->pT listed.toList=fuel->Eg ops.toList listed.toList->a.defers=ds->
   MtS C n (λx=>x<nx0\/∃j:Nat,listed.toList[j]? =Q G/\g j<=x/\x<g (j+1)) (gS cs listed.toList f0) (gZ cs listed.toList R0) a w->wpAny P .any ops zh fuel listed a w:=by
 have hmono:=WB (N:=ops.size) (g:=g) g2;intro fuel;induction fuel with
 |zero=>
  intro listed a w hs hc hcl hda hm;have hall:=FZ hc;have hfin:zh .normal a w:=by
   refine hQ a w hda ?_;rw[hall,show listed.toList.length=cs.length from by rw[hlen,<-hs];simp]at hm;obtain⟨E,ρ,q1,q2,q3,q5,q4⟩:=hm;have hle:∀i,(i<nx0\/∃j:Nat,(zy cs.length G)[j]? =Q G/\g j<=i/\i<g (j+1))->i<g ops.size:=λi hi=>by
    rcases hi with hi|⟨j,hj,_,hj3⟩
    ·have:=hmono 0 ops.size (xx _) (zI _);omega
    ·have hj':j<cs.length:=by simpa using (ya.1 hj).1
     have:=hmono (j+1) ops.size (by omega) (zI _);omega
   exact⟨E,ρ,q1,λq hq=>(q2 q hq).mono hle,q3.mono hle,q5,q4⟩
  refine⟨?_,hfin⟩;rw[List.eq_nil_iff_forall_not_mem];intro i hi;obtain⟨h1,h2,_⟩:=mem_ready.1 hi;rw[vN (by omega),hall,wW]at h2;split at h2<;>cases h2
 |succ fuel ih=>
  intro listed a w hs hc hcl hda hm;refine⟨λhr=> ?_,λi hi=> ?_⟩
  ·
   exfalso;obtain⟨i,h1,h2⟩:=LY (bs:=listed.toList) (by omega);have hil:i<listed.size:=by simpa using (ya.1 h1).1
   have hio:i<ops.size:=by omega
   have:i∈Region.ready .any ops listed:=mem_ready.2 ⟨hio,(vN hil).2 h1,ops[i],wS hio,λe he hb=>Dc.2 (h2 _ (hback i ops[i] (by simp[hio]) e he hb))⟩;rw[hr]at this;cases this
  ·obtain⟨hio,h2,o,ho,hrd⟩:=mem_ready.1 hi;have hil:i<listed.size:=by omega
   have hbi:=(vN hil).1 h2;have hol:ops.toList[i]? =Q o:=by simpa using ho
   have hRdy:Rdy listed.toList o:=λe he hb=>Dc.1 (hrd e he hb);obtain⟨c,hci⟩:∃c,cs[i]? =Q c:=⟨_,zw (by omega)⟩;have fact:=hf i o c hol hci;obtain⟨s1,s2,s3,s4⟩:=Wh (cs:=cs) (bs:=listed.toList) (i:=i) (c:=c) f0 R0 (by rw[hlen,<-hs];simp) hci hbi
    (λj d hji hd hbj=>(hcf i j d c hji hd hci).resolve_right λh=>by
     have:=h listed.toList hcl (λo' ho'=>by rw[hol]at ho';cases ho';exact hRdy);rw[hbj]at this;cases this)
    (λj d hij hd hbj=>((hcf j i c d hij hci hd).resolve_right λh=>by
     have hjo:j<ops.size:=by have:=(ya.1 hd).1;omega
     have:=h listed.toList hcl (λo' ho'=>hcl j o' ho' hbj);rw[hbi]at this;cases this).symm)
   have eset:(listed.setIfInBounds i G).toList=listed.toList.set i G:=Array.toList_setIfInBounds ..;have hcl':Eg ops.toList (listed.toList.set i G):=λj o' ho' hbj e he hb=>by
    have hmono':∀k,listed.toList[k]? =Q G->(listed.toList.set i G)[k]? =Q G:=λk hk=>by
     rw[List.getElem?_set];split
     ·rename_i hik;rw[bt (by simpa using hil)]
     ·exact hk
    by_cases hij:i=j
    ·subst hij;rw[hol]at ho';cases ho';exact hmono' _ (hRdy e he hb)
    ·rw[List.getElem?_set_ne hij]at hbj;exact hmono' _ (hcl j o' ho' hbj e he hb)
   have hpn:∀x,(x<nx0\/∃j:Nat,listed.toList[j]? =Q G/\g j<=x/\x<g (j+1))->¬(g i<=x/\x<g (i+1)):=λx hx hr=>by
    rcases hx with hx|⟨j,hj,hj2,hj3⟩
    ·have:=hmono 0 i (xx _) (by omega);omega
    ·have hne:j≠i:=λe=>by rw[e,hbi]at hj;cases hj
     have hjl:j<ops.size:=by
      have:j<listed.toList.length:=(ya.1 hj).1;have h3:listed.toList.length=listed.size:=by simp
      omega
     by_cases hlt:j<i
     ·have:=hmono (j+1) i (by omega) (by omega);omega
     ·have:=hmono (i+1) j (by omega) (by omega);omega
   have hweak:∀x,((x<nx0\/∃j:Nat,listed.toList[j]? =Q G/\g j<=x/\x<g (j+1))\/(g i<=x/\x<g (i+1)))->(x<nx0\/∃j:Nat,(listed.toList.set i G)[j]? =Q G/\g j<=x/\x<g (j+1)):=λx hx=>by
    rcases hx with (hx|⟨j,hj,hj2⟩)|hx
    ·exact .inl hx
    ·refine .inr ⟨j,?_,hj2⟩;rw[List.getElem?_set];split
     ·rw[bt (by simpa using hil)]
     ·exact hj
    ·refine .inr ⟨i,?_,hx⟩;rw[List.getElem?_set_self (by simpa using hil)]
   have cont:∀a' w',a'.defers=ds->MtS C n (λx=>(x<nx0\/∃j:Nat,listed.toList[j]? =Q G/\g j<=x/\x<g (j+1))\/(g i<=x/\x<g (i+1))) (c.F (gS cs listed.toList f0)) (c.R (gZ cs listed.toList R0)) a' w'->wpAny P .any ops zh fuel (listed.setIfInBounds i G) a' w':=λa' w' hda' hm'=>by
    refine ih (listed.setIfInBounds i G) a' w' (by simp[hs]) ?_ (by rw[eset];exact hcl') hda' ?_
    ·rw[eset];have:=Mj hbi;omega
    ·rw[eset,<-s3];obtain⟨E,ρ,q1,q2,q3,q5,q4⟩:=hm'.perm s4;exact⟨E,ρ,q1,λq hq=>(q2 q hq).mono hweak,q3.mono hweak,q5,q4⟩
   have hgate:∀wn,ED ops o (gS (cs.take i) (zy i G) f0) wn->Region.wanted o (yielded ops a.tmps)=wn:=λwn hg=>by
    unfold ED at hg;cases hgd:o.guard with
    |none=>
     rw[hgd]at hg;simp only at hg;rw[hg];unfold Region.wanted;rw[hgd]
    |some jw=>
     obtain⟨j,want⟩:=jw;rw[hgd]at hg;obtain⟨t,hj,hg⟩:=hg;have hts:t∈c.sl:=by
      rw[fact.sl];unfold dg ail;rw[hgd];simp only[hj];exact yI _ (zD.2 rfl)
     obtain⟨E,ρ,q1,_,_,_,q4⟩:=hm;obtain⟨w1,w2⟩:=FP (ρ:=ρ) hgd hj (E:=E);rcases hg with ⟨b,hb,hw⟩|⟨vs,hb,hw⟩
     ·rw[hw];exact oY.spec q4.slots (w1 b (q1 _ _ (by rw[s1 t hts];exact hb)))
     ·rw[hw];exact oY.spec q4.slots (w2 vs (q1 _ _ (by rw[s1 t hts];exact hb)))
   unfold wpOp;simp only[ho];rcases fact.run with ⟨hg,hv,hef⟩|⟨hg,hy⟩
   ·rw[bF (by rw[hgate _ hg];exact Bool.false_ne_true)];obtain⟨E,ρ,q1,q2,q3,q5,q4⟩:=hm;have hR:c.R (gZ cs listed.toList R0)=gZ cs listed.toList R0:=by unfold Rc.R;rw[hef]
    refine cont _ _ (by rw[<-hda];cases o.dst<;>rfl) ?_;rw[hR];cases hdo:o.dst with
    |none=>exact⟨E,ρ,λt d ht=>q1 t d (by unfold Rc.F at ht;rw[fact.dst,hdo]at ht;simpa using ht),λq hq=>(q2 q hq).mono λ_ h=> .inl h,q3.mono λ_ h=> .inl h,q5,q4⟩
    |some t=>
     refine⟨(t, .lit undef)::E,ρ,λs d hsd=> ?_,λq hq=> ?_,q3.mono λ_ h=> .inl h,q5,?_⟩
     ·unfold Rc.F at hsd;rw[fact.dst,hdo,hv]at hsd;by_cases hts:t=s
      ·subst hts;rw[bt rfl]at hsd;cases hsd;exact Env.fq _ _ _
      ·rw[bF (λe=>hts (zO.inj e))]at hsd;rw[Env.dX _ _ hts];exact q1 s d hsd
     ·rcases zF.1 hq with rfl|hq
      ·exact .lit _
      ·exact(q2 q hq).mono λ_ h=> .inl h
     ·have hdn:=fact.dn;rw[hdo]at hdn;have:=q4.put (av:= .lit undef) (v:=undef) hdn (.lit _);show tM C.C n ((t,cn.sub ρ (.lit undef))::E.sub ρ) _ _ _;rw[bT];exact this
   ·rw[bt (hgate _ hg)];refine .inl ?_;have hle:vw (gS cs listed.toList f0) c.sl=vw (gS (cs.take i) (zy i G) f0) c.sl:=NY s1;obtain⟨E,ρ,q1,q2,q3,q5,q4⟩:=hm;have hids:=fact.ids (λx=>x<nx0\/∃j:Nat,listed.toList[j]? =Q G/\g j<=x/\x<g (j+1)) (λt ht d hd=>by
     rw[<-s1 t ht]at hd;exact q2 _ (Env.get_mem (q1 t d hd))) (by rw[<-s2];exact λq hq=>q3 q (zY.1 hq).1)
    exact ajP (nx:=g i) (nx':=g (i+1)) (by have:=hmono 0 i (xx _) (by omega);omega) ⟨E,ρ,q1,q2,q3,q5,q4⟩ fact.dst fact.dn fact.wr (by rw[hle,s2];exact hy) hpn fact.lv (by rw[s2];exact fact.lin) fact.lo hids.1 hids.2 λa' w' hd' hm'=>cont a' w' (hd'.trans hda) hm'
def Yo{α:Type}{r:α}{F:bw}{C:Cg}{s:St}{a:Act}{w:World}{id:Nat}{k:St->ah α}(hF:iO P F)(hN:eF F)(h:F7 P F n ops s k=Q r)(hm:Mt C n s a w):
  (Code.region id ops G).wp P (λe a' w'=>e= .normal/\a'.defers=a.defers/\∃s',k s'=Q r/\Mt C n s' a' w') a w:=by
 unfold F7 at h;split at h
 case h_2=>cases h
 rename_i hb;simp only[zn]at hb;split at h
 case h_2=>cases h
 rename_i ps hps;obtain⟨E,hh,hE,hR,ρ,hag,hsim⟩:=hm;obtain⟨cs,s',f',q1,q2,q3⟩:=Py hF hN ops.toList (f:=cP s.E) h (λt d h=>h) (λt d hd=>Env.Wr (x:= .tmp t) hE (hh t d hd)) hR;rw[ym]at q1;split at q1
 case h_2=>cases q1
 rename_i hpo;obtain⟨l1,l2,l3,g,g0,g1,g2,g3⟩:=q2.idx;have hN:ops.toList.length=ops.size:=by simp
 refine wp_region_any hb.1 ?_;refine akP (C:=C) (cs:=cs) (f0:=cP s.E) (R0:=s.R) (nx0:=s.nx) (g:=g) (ds:=a.defers) (by rw[l1,hN]) g0 hag.2 (by rw[<-hN];exact g2) g3 (λi j c d hji hc hd=>afc hps hpo (λi c hc=>by
   obtain⟨o,ho⟩:∃o,ops.toList[i]? =Q o:=⟨_,zw (by rw[<-l1];exact(ya.1 hc).1)⟩;have:=g3 i o c ho hc;exact⟨o,ho,this.dst,this.sl,this.ef,this.wr⟩) hji hc hd) (λi o ho e he hbe=>by have:=Lk hb.2 i o ho e he hbe;omega) (λa' w' hd' hm'=> ?_) ops.size (Array.replicate ops.size I) a _ (by simp) (by rw[Array.toList_replicate,LI]) (λi o _ hbi=> ?_) rfl ?_
 ·refine⟨rfl,hd',s',q1,?_⟩;rw[<-l2,<-l3]at hm';obtain⟨E',ρ',p1,p2,p3,p5,p4⟩:=hm';rw[hN]at g1;rw[g1]at p2 p3;exact⟨E',λt d hd=>p1 t d (q3 t d hd),p2,p3.rH,ρ',⟨p5,by have:=WB (N:=ops.toList.length) g2 0 ops.toList.length (xx _) (zI _);rw[g0,hN,g1]at this;have h7:=hag.2;omega⟩,p4⟩
 ·rw[Array.toList_replicate,wW]at hbi;split at hbi<;>cases hbi
 ·have nF:∀(cs:aa Rc) (n:Nat) (f:Fr),gS cs (zy n I) f=f:=λcs=>by
   induction cs with
   |nil=>intro n f;rfl
   |cons d cs ih=>
    intro n f;cases n with
    |zero=>rfl
    |succ n=>rw[yP];exact ih n f
  have nR:∀(cs:aa Rc) (n:Nat) (R:aZ),gZ cs (zy n I) R=R:=λcs=>by
   induction cs with
   |nil=>intro n f;rfl
   |cons d cs ih=>
    intro n f;cases n with
    |zero=>rfl
    |succ n=>rw[yP];exact ih n f
  rw[Array.toList_replicate,nF,nR];exact⟨E,ρ,hh,λq hq=>hU.mono (hE q hq) λi hi=> .inl hi,(aZ.hU.mono hR.lts λi hi=> .inl hi),hag.1,hsim.drew⟩
end
end Go.Iv
end
noncomputable section
namespace Go.Iv
variable [U:sF] [L:n7]
open Go Go.RowKit
section
variable {α:Type} {r:α} {P:Program} {F:bw} {C:Cg} {n:Nat}
def Bp(P:Program)(F:bw)(n:Nat)(_:Nat)(ops:Array Oper)(draw:Bool)(s:St)(k:gM α):ah α:=match draw with
 |false=>fh P F n ops ops.toList s (k .normal)
 |true=>F7 P F n ops s (k .normal)
def exec(P:Program)(F:bw)(n:Nat)(fuel:Nat)(c:Code):St->gM α->ah α:=
 Code.rec Xv (Bp P F n) (λ_ _=>aqz) (λc _ _=>amm c) (λid _=>acy id) (λ_=>Y5 fuel) (λ_ _ _ _ _ _=>Fw) Vg (λ_ _=>Fw) (λ_=>Fw) (λ_=>Fw) aio (λ_=>Fw) c
def qe(P:Program)(F:bw)(fuel:Nat)(f:FuncId)(args:aa AV)(R:aZ)(nx:Nat)(k:AV->aZ->Nat->ah α):ah α:=match P.funcs[f]? with
 |some fn=>match fn.body with
  |some c=>match yj args.length fn.ntmps&& !(fn.name=="runtime.NumGoroutine")with
   |true=>exec (α:=α) P F fn.ntmps fuel c ⟨LX 0 args .e,R,nx⟩ λe s=>match e with
    | .normal=>(Ft P s fn.results.toList).bind λds=>k (dP ds) (oF s.R nx (dP ds)) s.nx
    | .ret=>(Ft P s fn.results.toList).bind λds=>k (dP ds) (oF s.R nx (dP ds)) s.nx
    |_=>V
   |false=>V
  |none=>V
 |none=>V
def Dr(P:Program)(F0:bw)(has:FuncId->Bool)(fuel:Nat):Nat->bw
 |0=>F0
 |m+1=>λα f args R nx k=>match has f with
  |true=>F0 α f args R nx k
  |false=>qe P (Dr P F0 has fuel m) fuel f args R nx k
def Ends(P:Program)(C:Cg)(n:Nat)(c:Code)(k:gM α)(r:α)(a:Act)(w:World):Prop:=c.wp P (λe a' w'=>∃s',k e s'=Q r/\Mt C n s' a' w') a w
def TF(P:Program)(C:Cg)(n:Nat)(c:Code)(x:St->gM α->ah α):Prop:=∀(r:α) (s:St) (k:gM α) (a:Act) (w:World),x s k=Q r->Mt C n s a w->Ends P C n c k r a w
def Lp{c:Operand}{s:St}{x y:St->ah α}(h:oX c s x y=Q r){a:Act}{w:World}(hm:Mt C n s a w):∃(b:Bool) (s':St),a.eval c= .bool b/\Mt C n s' a w/\(match b with|G=>x s'|I=>y s')=Q r:=by
 unfold oX at h;split at h
 ·rename_i t;split at h
  case h_2=>cases h
  rename_i b hb;have hev:a.eval (.tmp t)= .bool b:=by
   obtain⟨E,hh,_,_,ρ,_,hs⟩:=hm;refine SP hs ?_;have h1:=hh t _ hb;show Env.get (E.sub ρ) t=_;rw[Env.fo,h1,yx,bT]
  refine⟨b,s.gj t b,hev,hm.gj hb,?_⟩;unfold XL at h;cases b<;>exact h
 ·exact⟨G,s,rfl,hm,h⟩
 ·exact⟨I,s,rfl,hm,h⟩
 ·cases h
def Ej(hF:iO P F)(hN:eF F)(id:Nat)(ops:Array Oper)(draw:Bool):TF (α:=α) P C n (.region id ops draw) (Bp P F n id ops draw):=λr s k a w h hm=>by
 unfold Bp at h;cases draw with
 |false=>
  refine wp_mono (wp_region_lit (DD hF _ h hm)) λe a' w' ⟨he,_,s',h1,h2⟩=> ?_;subst he;exact⟨s',h1,h2⟩
 |true=>
  refine wp_mono (Yo hF hN h hm) λe a' w' ⟨he,_,s',h1,h2⟩=> ?_;subst he;exact⟨s',h1,h2⟩
def FN{c:Code}{x:St->gM α->ah α}(hx:TF P C n c x)(fuel:Nat):TF P C n (.loop c) (Y5 fuel x):=λr s k a w h hm=>by
 have key:∀(m:Nat) (s:St) (a:Act) (w:World),D5 x k m s=Q r->Mt C n s a w->c.wp P (Exit.then (InL P c λe a' w'=>∃s',k e s'=Q r/\Mt C n s' a' w') λe a' w'=>∃s',k e s'=Q r/\Mt C n s' a' w') a w:=by
  intro m;induction m with
  |zero=>intro s a w h;cases h
  |succ m ih=>
   intro s a w h hm;refine wp_mono (hx r s _ a w h hm) λe a' w' ⟨s',h1,h2⟩=> ?_;cases e with
   |normal=>exact L4 (ih s' a' w' h1 h2)
   |_=>exact⟨s',h1,h2⟩
 exact FV (key fuel s a w h hm)
def afQ(hF:iO P F)(hN:eF F)(fuel:Nat)(c:Code):TF (α:=α) P C n c (exec P F n fuel c):=by
 induction c with
 |skip=>exact λr s k a w h hm=>wp_skip ⟨s,h,hm⟩
 |region id ops draw=>exact Ej hF hN id ops draw
 |seq x y hx hy=>
  intro r s k a w h hm;refine wp_seq (wp_mono (hx r s _ a w h hm) λe a' w' ⟨s',h1,h2⟩=> ?_);cases e with
  |normal=>exact hy r s' k a' w' h1 h2
  |_=>exact⟨s',h1,h2⟩
 |cond c x y hx hy=>
  intro r s k a w h hm;obtain⟨b,s',he,hm',h'⟩:=Lp (show oX c s _ _=Q r from h) hm;cases b with
  |true=>exact wp_cond_true he (hx r s' k a w h' hm')
  |false=>exact wp_cond_false he (hy r s' k a w h' hm')
 |block id x hx=>
  intro r s k a w h hm;refine wp_block (wp_mono (hx r s _ a w h hm) λe a' w' ⟨s',h1,h2⟩=> ?_);cases e with
  |exit id'=>
   simp only[th]at h1;simp only[Exit.inBlock];split
   ·rename_i he;subst he;have hb:zj id' id'=G:=Nat.beq_refl _;simp only[hb]at h1;exact⟨s',h1,h2⟩
   ·rename_i he;have hb:zj id' id=I:=by
     cases hb:zj id' id with
     |false=>rfl
     |true=>exact cR (xe hb) he
    simp only[hb]at h1;exact⟨s',h1,h2⟩
  |_=>exact⟨s',h1,h2⟩
 |loop c hc=>exact FN hc fuel
 |exit i=>exact λr s k a w h hm=>wp_exit ⟨s,h,hm⟩
 |ret=>exact λr s k a w h hm=>wp_ret ⟨s,h,hm⟩
 |_=>exact λr s k a w h hm=>by cases h
def Ah(nx:Nat)(ids:aa Nat):∀R:aZ,List.Sublist (Qe nx ids R) R
 |[]=> .slnil
 |p::R=>by
  have ih:=Ah nx ids R;show List.Sublist (Bool.rec (Bool.rec (Qe nx ids R) (p::Qe nx ids R) (dJ p.1 ids)) (p::R) (zK p.1 nx)) (p::R);cases zK p.1 nx with
  |true=>exact List.Sublist.refl _
  |false=>
   cases dJ p.1 ids with
   |true=>exact ih.cons_cons p
   |false=>exact ih.cons p
def adb{s:St}{E:Env}{ρ:Gh}{rv:ResultVar}{d:AV}(h:XY P s rv=Q d)(hh:tq s.E E):Dt P (E.sub ρ) (aZ.res ρ s.R) rv (d.sub ρ):=by
 unfold XY at h;split at h
 ·rename_i t;refine .tmp ?_;rw[Env.fo,hh t d h];rfl
 ·rename_i t ty;split at h
  case h_2=>cases h
  rename_i id hp;have hp':Env.get (E.sub ρ) t=Q (.lit (.pointer (Q ⟨ρ.b id,0,V⟩))):=by
   rw[Env.fo,hh t _ hp,yx,cn.sub]
  split at h
  case h_2=>cases h
  rename_i T cs hr;obtain⟨i,hi,_⟩:=eV hr;have hres:=ic (ρ:=ρ) hi;split at h
  ·rename_i h1;refine .arw i hp' hres (Cv h1) ?_;rw[yb,h];rfl
  ·split at h
   case h_2=>cases h
   rename_i m hm;split at h
   case h_2=>cases h
   rename_i hl;cases h;rw[fy];refine .ap1 i hp' hres (Mm hm) ?_;rw[zL];exact gI hl
def WL{s:St}{nx:Nat}{rv:ResultVar}{d:AV}(h:XY P s rv=Q d){E:Env}(hh:tq s.E E)(hE:E.cQ nx)(hR:aZ.cQ nx s.R):cQ nx d:=by
 unfold XY at h;split at h
 ·rename_i t;exact hE _ (Env.get_mem (hh t d h))
 ·split at h
  case h_2=>cases h
  split at h
  case h_2=>cases h
  rename_i id _ T cs hr;have hL:=EU hr hR;split at h
  ·exact hL.2 _ (List.mem_of_getElem? h)
  ·split at h
   case h_2=>cases h
   split at h
   case h_2=>cases h
   cases h;exact .agg _ hL.2
def JI{s:St}{E:Env}{ρ:Gh}(hh:tq s.E E){A:Nat->Prop}{w:World}{tmps:Array Value}(hd:Hd A (aZ.res ρ s.R) w)(hs:lu A w (E.sub ρ) tmps):∀{l:aa ResultVar} {ds:aa AV},Ft P s l=Q ds->
  ∃us,(l.mapM (tD tmps)).run P w= .ok us w/\bL A w (ds.map (cn.sub ρ)) us
 |[],ds,h=>by cases h;exact⟨[],rfl,bL.nil⟩
 |x::l,ds,h=>by
  unfold Ft at h;split at h
  case h_2=>cases h
  rename_i d hx;obtain⟨ds',h1,h2⟩:=zu.1 h;subst h2;obtain⟨v,q1,q2⟩:=adb (ρ:=ρ) hx hh A w tmps hd hs;obtain⟨us,q3,q4⟩:=JI hh hd hs h1;refine⟨v::us,?_,bL.cons q2 q4⟩;rw[List.mapM_cons];simp[q1,q3]
def L9{s:St}{nx:Nat}{E:Env}(hh:tq s.E E)(hE:E.cQ nx)(hR:aZ.cQ nx s.R):∀{l:aa ResultVar} {ds:aa AV},Ft P s l=Q ds->∀d∈ds,cQ nx d
 |[],ds,h=>by cases h;simp
 |x::l,ds,h=>by
  unfold Ft at h;split at h
  case h_2=>cases h
  rename_i d hx;obtain⟨ds',h1,h2⟩:=zu.1 h;subst h2;intro d' hd';rcases zF.1 hd' with rfl|hd'
  ·exact WL hx hh hE hR
  ·exact L9 hh hE hR h1 d' hd'
def XN{nx:Nat}{ds:aa AV}(h:∀d∈ds,cQ nx d):cQ nx (dP ds):=by
 unfold dP;split
 ·exact h _ (by simp)
 ·exact .jE _ h
def MG{ρ:Gh}{A:Nat->Prop}{w:World}{ds:aa AV}{us:aa Value}(h:bL A w (ds.map (cn.sub ρ)) us):Rel A w ((dP ds).sub ρ) (if h:us.toArray.size=1 then us.toArray[0]else .tuple us.toArray):=by
 unfold dP;split
 ·rename_i d;obtain⟨h1,h2⟩:=h
  match us,h1,h2 with
  |[u],_,h2=>exact h2 0 _ _ rfl rfl
 ·rename_i hn;have hl:us.length=ds.length:=by have:=h.1;simpa using this
  rw[dif_neg (by
   intro e
   match ds,hn with
   |[],_=>rw[xk,hl]at e;cases e
   |[d],hn=>exact hn d rfl
   |_::_::_,_=>rw[xk,hl]at e;simp at e),kI]
  exact Rel.Fy h
def Ap:∀(l:aa AV) (i:Nat) (T:ET) (E:Env),tq T E->(∀t d,cP T t=Q d->t<i)->tq (LX i l T) (fA i l++E)
 |[],_,_,_,h,_=>h
 |d::l,i,T,E,h,hT=>by
  have h2:∀t d',cP (mj i d T) t=Q d'->t<i+1:=λt d' ht=>by
   rcases qD ht with ⟨rfl,_⟩|⟨_,q⟩
   ·omega
   ·have:=hT t d' q;omega
  have:=Ap l (i+1) (mj i d T) ((i,d)::E) (h.put i d) h2;intro t v ht;have h1:Env.get (fA (i+1) l++(i,d)::E) t=Q v:=this t v ht;show Env.get ((i,d)::(fA (i+1) l++E)) t=Q v;have key:∀(l:aa AV) (j:Nat),i<j->Env.get (fA j l++(i,d)::E) t=Env.get ((i,d)::(fA j l++E)) t:=λl=>by
   induction l with
   |nil=>intro j _;rfl
   |cons u l ih=>
    intro j hj;show Env.get ((j,u)::(fA (j+1) l++(i,d)::E)) t=Env.get ((i,d)::(j,u)::(fA (j+1) l++E)) t;by_cases h1:j=t
    ·subst h1;rw[Env.fq,Env.dX _ _ (by omega),Env.fq]
    ·rw[Env.dX _ _ h1,ih (j+1) (by omega)];by_cases h2:i=t
     ·subst h2;rw[Env.fq,Env.fq]
     ·rw[Env.dX _ _ h2,Env.dX _ _ h2,Env.dX _ _ h1]
  rw[<-key l (i+1) (zC i)];exact h1
def qI(ρ:Gh):∀(l:aa AV) (i:Nat),(fA i l).sub ρ=fA i (l.map (cn.sub ρ))
 |[],_=>rfl
 |d::l,i=>by show (i,d.sub ρ)::(fA (i+1) l).sub ρ=_;rw[qI ρ l];rfl
def p9:∀{l:aa AV} {i:Nat} {q:Nat×AV},q∈fA i l->q.2∈l
 |d::l,i,q,h=>by
  rcases zF.1 h with rfl|h
  ·exact zo
  ·exact zH _ (p9 h)
def Vr{fn:Func}{C:Cx}{ρ:Gh}{nx:Nat}{s:St}{a:Act}{w:World}{k:AV->aZ->Nat->ah α}{e:Exit}(he:e= .normal\/e= .ret)(h:((Ft P s fn.results.toList).bind λds=>k (dP ds) (oF s.R nx (dP ds)) s.nx)=Q r)(hm:Mt ⟨C,ρ,nx⟩ n s a w):
  ∃E' σ',tM C n E' σ' a w/\acB P C n fn (λa s=>∃d R' nx',k d R' nx'=Q r/\nx<=nx'/\cQ nx' d/\aZ.cQ nx' R'/\∃ρ',rq nx ρ ρ'/\a=d.sub ρ'/\List.Perm s (aZ.res ρ' R')) e E' σ':=by
 obtain⟨E,hh,hE,hR,ρ',⟨hag,hnx⟩,hsim⟩:=hm;obtain⟨ds,h1,h2⟩:=zx.1 h;have hsub:List.Sublist (oF s.R nx (dP ds)) s.R:=Ah _ _ _;refine⟨_,_,hsim,Xy (σ':=aZ.res ρ' (oF s.R nx (dP ds))) (av:=(dP ds).sub ρ') he (hsub.map _) ⟨_,_,_,h2,hnx,XN (L9 hh hE hR h1),λq hq=>hR q (hsub.subset hq),ρ',hag,rfl,List.Perm.refl _⟩ λA w' tmps hd hs=> ?_⟩;obtain⟨us,q1,q2⟩:=JI hh hd hs h1;refine⟨_,?_,MG q2⟩;show (do let vs <-fn.results.mapM (tD tmps);pure (if h:vs.size=1 then vs[0]else .tuple vs):Sem Value).run P w'=_;have e1:fn.results=fn.results.toList.toArray:=by simp
 rw[e1,List.mapM_toArray];simp[q1]
section
variable {β:Type}
def LR{ops:Array Oper}{o:Oper}{s:St}{y n:St->ah α}(D:α->ah β):(gate ops o s y n).bind D=gate ops o s (λs=>(y s).bind D) (λs=>(n s).bind D):=by
 unfold gate
 repeat' split
 all_goals first|rfl|simp_all
def Uv{o:Op}{s:St}{f:St->ah α}(D:α->ah β):(BA o s f).bind D=BA o s (λs=>(f s).bind D):=by
 unfold BA
 repeat' split
 all_goals first|rfl|simp_all
def ac7(hN:eF F){o:Oper}{ih:St->(St->ah α)->ah α}{ih':St->(St->ah β)->ah β}{k:St->ah α}{D:α->ah β}(hi:∀s k,(ih s k).bind D=ih' s (λs=>(k s).bind D))(s:St):(rDo P F o ih k s).bind D=rDo P F o ih' (λs=>(k s).bind D) s:=by
 unfold rDo;generalize s.kr (jf s.E o.op)=s1;obtain⟨E,R,nx⟩:=s1;show (m5 o.op P F (Fj E) (gz R) R nx (Il o.dst E R nx ih k)).bind D=m5 o.op P F (Fj E) (gz R) R nx (Il o.dst E R nx ih' λs=>(k s).bind D);rw[Aw D hN]
 congr 1
 funext e
 cases e<;>exact hi ..
def rO(hN:eF F){ops:Array Oper}(D:α->ah β):∀(l:aa Oper) (s:St) (k:St->ah α),(fh P F n ops l s k).bind D=fh P F n ops l s (λs=>(k s).bind D)
 |[],s,k=>rfl
 |o::l,s,k=>by
  show (KA P F n ops o (fh P F n ops l) s k).bind D=KA P F n ops o (fh P F n ops l) s (λs=>(k s).bind D);unfold KA;split
  ·rw[LR]
   congr 1
   ·funext s1
    obtain⟨E,R,nx⟩:=s1;show (opF o.op P F o.dst E R nx (fh P F n ops l) k).bind D=opF o.op P F o.dst E R nx (fh P F n ops l) (λs=>(k s).bind D);have e1:=HA P F o ⟨E,R,nx⟩ (fh (α:=α) P F n ops l) k;have e2:=HA P F o ⟨E,R,nx⟩ (fh (α:=β) P F n ops l) (λs=>(k s).bind D);dsimp only at e1 e2;rw[e1,e2,Uv]
    congr 1
    funext s2
    exact ac7 hN (λs k=>rO hN D l s k) s2
   ·funext s1
    unfold rNo;split<;>exact rO hN D l _ _
  ·rfl
def IE(hN:eF F){ops:Array Oper}{ps:aa (Nat×Nat)}(D:α->ah β):∀(l:aa Oper) (cs:aa Rc) (s:St) (k:aa Rc->St->ah α),(U7 P F n ops ps l cs s k).bind D=U7 P F n ops ps l cs s (λcs s=>(k cs s).bind D)
 |[],cs,s,k=>rfl
 |o::l,cs,s,k=>by
  show (Ts P F n ops ps o (U7 P F n ops ps l) cs s k).bind D=Ts P F n ops ps o (U7 P F n ops ps l) cs s (λcs s=>(k cs s).bind D);unfold Ts;split
  ·rw[LR]
   congr 1
   ·funext s1
    obtain⟨E,R,nx⟩:=s1;show (FI P F o (dg ops o) E (inQ (pN ops o E R) R) nx (dK ops ps o cs (pN ops o E R) E R (inQ (pN ops o E R) R) nx (U7 P F n ops ps l) k)).bind D=FI P F o (dg ops o) E (inQ (pN ops o E R) R) nx (dK ops ps o cs (pN ops o E R) E R (inQ (pN ops o E R) R) nx (U7 P F n ops ps l) (λcs s=>(k cs s).bind D));rw[<-C2 hN,<-C2 hN,z8]
    congr 1
    funext x
    unfold dK;split
    ·exact IE hN D l _ _ _
    ·rfl
   ·funext s1
    exact IE hN D l _ _ _
  ·rfl
def Ug(hN:eF F)(id:Nat)(ops:Array Oper)(draw:Bool)(D:α->ah β)(s:St)(k:gM α):(Bp P F n id ops draw s k).bind D=Bp P F n id ops draw s (λe s=>(k e s).bind D):=by
 unfold Bp;cases draw with
 |false=>exact rO hN D _ _ _
 |true=>
  show (F7 P F n ops s (k .normal)).bind D=F7 P F n ops s (λs=>(k .normal s).bind D);unfold F7;split
  ·split
   ·rw[IE hN D]
    congr 1
    funext cs s'
    split<;>rfl
   ·rfl
  ·rfl
def UO{c:Operand}{s:St}{x y:St->ah α}(D:α->ah β):(oX c s x y).bind D=oX c s (λs=>(x s).bind D) (λs=>(y s).bind D):=by
 unfold oX
 repeat' split
 all_goals first|rfl|(unfold XL;split<;>rfl)|simp_all
def Li{x:St->gM α->ah α}{x':St->gM β->ah β}{D:α->ah β}(hx:∀s k,(x s k).bind D=x' s (λe s=>(k e s).bind D))(k:gM α):∀(m:Nat) (s:St),(D5 x k m s).bind D=D5 x' (λe s=>(k e s).bind D) m s
 |0,s=>rfl
 |m+1,s=>by
  show (x s (K8 k (D5 x k m))).bind D=x' s (K8 (λe s=>(k e s).bind D) (D5 x' (λe s=>(k e s).bind D) m));rw[hx]
  congr 1
  funext e s'
  cases e<;>first|exact Li hx k m s'|rfl
def VW(hN:eF F)(fuel:Nat)(D:α->ah β)(c:Code):∀(s:St) (k:gM α),(exec P F n fuel c s k).bind D=exec P F n fuel c s (λe s=>(k e s).bind D):=by
 induction c with
 |region id ops draw=>exact Ug hN id ops draw D
 |seq x y hx hy=>
  intro s k;show (exec P F n fuel x s (aa8 (exec P F n fuel y) k)).bind D=exec P F n fuel x s (aa8 (exec P F n fuel y) (λe s=>(k e s).bind D));rw[hx]
  congr 1
  funext e s'
  cases e<;>first|exact hy s' k|rfl
 |cond c x y hx hy=>
  intro s k;show (oX c s (λs=>exec P F n fuel x s k) (λs=>exec P F n fuel y s k)).bind D=oX c s (λs=>exec P F n fuel x s _) (λs=>exec P F n fuel y s _);rw[UO]
  congr 1
  ·funext s;exact hx s k
  ·funext s;exact hy s k
 |block id x hx=>
  intro s k;show (exec P F n fuel x s (th id k)).bind D=exec P F n fuel x s (th id (λe s=>(k e s).bind D));rw[hx]
  congr 1
  funext e s'
  cases e<;>first|rfl|(simp only[th];split<;>rfl)
 |loop c hc=>exact λs k=>Li hc k fuel s
 |_=>exact λs k=>rfl
def UT(hN:eF F)(fuel:Nat):eF (λα=>qe (α:=α) P F fuel):=λα β f args R nx k D=>by
 show (qe P F fuel f args R nx k).bind D=qe P F fuel f args R nx _;unfold qe;split
 ·split
  ·split
   ·rw[VW hN]
    congr 1
    funext e s
    cases e<;>first|rfl|exact z8 ..
   ·rfl
  ·rfl
 ·rfl
def GH{F0:bw}{has:FuncId->Bool}(hN:eF F0)(fuel:Nat):∀m:Nat,eF (Dr P F0 has fuel m)
 |0=>hN
 |m+1=>λα β f args R nx k D=>by
  show (match has f with|G=>F0 α f args R nx k|I=>qe P (Dr P F0 has fuel m) fuel f args R nx k).bind D=_;show _=(match has f with|G=>F0 β f args R nx _|I=>qe P (Dr P F0 has fuel m) fuel f args R nx _);cases has f with
  |true=>exact hN ..
  |false=>exact UT (GH hN fuel m) fuel α β f args R nx k D
end
def W1(hF:iO P F)(hN:eF F)(fuel:Nat):iO P (λα=>qe (α:=α) P F fuel):=λα f args R nx k r h hargs hR=>by
 have h:qe P F fuel f args R nx k=Q r:=h;unfold qe at h;split at h
 case h_2=>cases h
 rename_i fn hf;split at h
 case h_2=>cases h
 rename_i c hb;split at h
 case h_2=>cases h
 rename_i hc;rw[zn]at hc;obtain⟨hl,hnm⟩:=hc;refine⟨⟨fn,hf,by simpa using hnm,by rw[hb];rfl⟩,λρ=>Fn.of hf hb rfl (by rw[zL];exact hl) λC a w ha=> ?_⟩;have hm:Mt ⟨C,ρ,nx⟩ fn.ntmps ⟨LX 0 args .e,R,nx⟩ a w:=by
  refine⟨fA 0 args,?_,λq hq=>hargs _ (p9 hq),hR,ρ,⟨.refl _ _,zI _⟩,?_⟩
  ·have:=Ap args 0 .e [] (λt d ht=>by cases t<;>cases ht) (λt d ht=>by cases t<;>cases ht)
   rwa [yy]at this
  ·rw[qI];exact ha
 refine wp_mono (afQ hF hN fuel c r _ _ a w h hm) λe a' w' ⟨s',h1,h2⟩=> ?_;cases e with
 |normal=>exact Vr (.inl rfl) h1 h2
 |ret=>exact Vr (.inr rfl) h1 h2
 |_=>cases h1
def LH{F0:bw}{has:FuncId->Bool}(hF:iO P F0)(hN:eF F0)(fuel:Nat):∀m:Nat,iO P (Dr P F0 has fuel m)
 |0=>hF
 |m+1=>λα f args R nx k r h hargs hR=>by
  change (match has f with|G=>F0 α f args R nx k|I=>qe P (Dr P F0 has fuel m) fuel f args R nx k)=Q r at h;split at h
  ·exact hF α f args R nx k r h hargs hR
  ·exact W1 (LH hF hN fuel m) (GH hN fuel m) fuel α f args R nx k r h hargs hR
end
end Go.Iv
end
noncomputable section
namespace Go.Iv
variable [U:sF] [L:n7]
open Go Go.RowKit
def scB:Nat->AV->Bool
 |_, .lit _=>G
 |n+1, .agg cs=>cs.all (scB n)
 |n+1, .jE cs=>cs.all (scB n)
 |_,_=>I
def Fq:Nat->AV->Bool
 |_, .lit _=>G
 |_, .sl _ _=>G
 |_, .rp _ _=>G
 |n+1, .agg cs=>cs.all (Fq n)
 |n+1, .jE cs=>cs.all (Fq n)
 |_,_=>I
def j8:∀(n:Nat) {d:AV} {ρ:Gh},Fq n d=G->d.sub ρ=d
 |n,d,ρ,h=>by
  have hL:∀{m:Nat} {cs:aa AV},m<n->cs.all (Fq m)=G->cs.map (cn.sub ρ)=cs:=λ{m cs} hm h=>by
   have:cs.map (cn.sub ρ)=cs.map id:=z7 λc hc=>j8 m (zA.1 h c hc);rw[this,List.map_id]
  cases n with
  |zero=>cases d<;>first|(cases h;done)|simp only[cn.sub]
  |succ n=>
   cases d<;>first|(cases h;done)|(simp only[cn.sub];done)|skip
   ·rw[fy,hL (zC n) h]
   ·rw[kI,hL (zC n) h]
def Yw{R:aZ}{ρ:Gh}{A:Nat->Prop}{w:World}{v:Value}{id:Nat}(hd:Hd A (aZ.res ρ R) w)(hr:Rel A w ((cn.own (dF:=U.dF) id).sub ρ) v):Rel (λb=>A b\/b∈bH (aZ.res ρ R)) w ((match gz R id with
  |some (.row t l)=>cn.sl t l
  |_=> .own id).sub ρ) v:=by
 have base:Rel (λb=>A b\/b∈bH (aZ.res ρ R)) w ((cn.own (dF:=U.dF) id).sub ρ) v:=hr.mono λb _ hA=>⟨.inl hA,rfl⟩;split
 ·rename_i t l hg;obtain⟨i,hi,_⟩:=eV hg;have hres:=ic (ρ:=ρ) hi;have hm:=List.mem_of_getElem? hres;rw[eC]at hr;rw[gO];have hd1:Hd A [.row (ρ.v id) t l] w:=⟨λr hr=>by
   rw[zD]at hr;rw[hr];exact hd.1 _ hm,λb hb=>hd.2 b (by
    obtain⟨r,h1,h2⟩:=bS.1 hb;rw[zD]at h1;rw[h1]at h2;exact bS.2 ⟨_,hm,h2⟩)⟩
  refine(Vw.row 0 rfl A w v hd1 hr).mono λb _ hA=>⟨hA.imp (λh=>h) λhx=> ?_,rfl⟩;obtain⟨r,h1,h2⟩:=bS.1 hx;rw[zD]at h1;rw[h1]at h2;exact bS.2 ⟨_,hm,h2⟩
 ·exact base
def eB:bw:=λ_ _ _ _ _ _=>V
def al8{P:Program}:iO P eB:=λ_ _ _ _ _ _ _ h=>by cases h
def agE{β:Type}(e:AV->ah β)(d:AV)(R:aZ)(_:Nat):ah β:=match R with
 |[]=>e d
 |_=>V
def P0{β:Type}(e:AV->ah β)(m:β->AV):Prop:=∀d x,e d=Q x->d=m x/\Fq 2 d=G
def P0.b:P0 Uj cn.b:=λd x h=>by
 unfold Uj at h;split at h
 ·cases h;exact⟨rfl,rfl⟩
 ·cases h
def amG{P:Program}{F:bw}(hF:iO P F){f:FuncId}{args:aa AV}{β:Type}{e:AV->ah β}{m:β->AV}{x:β}(he:P0 e m)(hc:args.all (Fq 2)=G)(hl:∀d∈args,cQ 0 d)(h:F β f args [] 0 (agE e)=Q x):v7 P f/\Fn P f args [] (λa s=>a=m x/\s=[]):=by
 obtain⟨h1,h2⟩:=hF β f args [] 0 (agE e) x h hl (λq hq=>by cases hq);refine⟨h1,?_⟩;have:=h2 ⟨λ_=>undef,λ_=>0⟩;have ea:args.map (cn.sub ⟨λ_=>undef,λ_=>0⟩)=args:=by
  have:args.map (cn.sub ⟨λ_=>undef,λ_=>0⟩)=args.map id:=z7 λc hcm=>j8 2 (zA.1 hc c hcm);rw[this,List.map_id]
 rw[ea]at this;refine Fn.mono this λa s ⟨d,R',nx',q1,_,_,_,ρ',_,q2,q3⟩=> ?_;unfold agE at q1;split at q1
 ·obtain⟨q4,q5⟩:=he _ _ q1;rw[q2,j8 2 q5,q4];exact⟨rfl,by simpa [aZ.res]using q3⟩
 ·cases q1
def sU(d:AV):∀(m:Nat) (T:ET) (k s:Nat),k<2^m-1->cP (sB d m T k) s=if k=s then Q d else cP T s
 |0,T,k,s,h=>by simp at h
 |m+1,T,k,s,h=>by
  have hp:2^(m+1)=2*2^m:=by rw[Nat.pow_succ];omega
  rw[QW,LD T s];by_cases hk:k=0
  ·rw[bt hk,nO];subst hk;by_cases hs:s=0
   ·rw[bt hs,bt hs.symm]
   ·have h0:¬(0=s):=λe=>hs e.symm;rw[bF h0,bF hs];split<;>simp_all
  ·rw[bF hk];by_cases hk2:(k-1)%2=0
   ·rw[bt hk2,nO];by_cases hs:s=0
    ·rw[bt hs,bt hs,bF (by omega)]
    ·rw[bF hs,bF hs];by_cases hs2:(s-1)%2=0
     ·rw[bt hs2,bt hs2,sU d m T.l _ _ (by omega)];by_cases hks:k=s
      ·rw[bt hks,bt (by omega)]
      ·rw[bF hks,bF (by omega)]
     ·rw[bF hs2,bF hs2,bF (λe=>hs2 (by rw[<-e];exact hk2))]
   ·rw[bF hk2,nO];by_cases hs:s=0
    ·rw[bt hs,bt hs,bF (by omega)]
    ·rw[bF hs,bF hs];by_cases hs2:(s-1)%2=0
     ·rw[bt hs2,bt hs2,bF (λe=>hk2 (by rw[e];exact hs2))]
     ·rw[bF hs2,bF hs2,sU d m T.r _ _ (by omega)];by_cases hks:k=s
      ·rw[bt hks,bt (by omega)]
      ·rw[bF hks,bF (by omega)]
def Bm{t s:Nat}{d:AV}{T:ET}(h:t<4095):cP (mj t d T) s=if t=s then Q d else cP T s:=sU d 12 T t s h
def bA(F:bw)(f:FuncId):Prop:=∀args R nx d R' nx',F (AV×aZ×Nat) f args R nx (λd R nx=>Q (d,R,nx))=Q (d,R',nx')->R'=R
def Mp(fs:aa Nat):Op->Bool
 | .move _=>G
 | .assign _=>G
 | .pick c _ _=>match c with
  | .tmp t=>zK t 4095
  |_=>G
 | .binOp _ _ _ _ _=>G
 | .unOp _ _ _=>G
 | .fieldAddr _ _ _=>G
 | .indexAddr _ _ _=>G
 | .index _ _ _=>G
 | .load _ _=>G
 | .nilCheck _=>G
 | .convert _ _ _=>G
 | .extract _ _=>G
 | .call c=>match c.callee with
  | .value (.func f)=>dJ f fs&& !L.fz f
  | .builtin .len=>G
  | .builtin .max=>G
  | .builtin .min=>G
  |_=>I
 |_=>I
def GL:ah Nat->Bool
 |some t=>zK t 4095
 |none=>G
section
variable {P:Program} {F:bw} {n:Nat} {fs:aa Nat}
def Vq{E:ET}{o:Op}(h:Mp fs o=G):jf E o=[]:=by
 cases o<;>first|rfl|(cases h;done)|skip
 case call c=>
  unfold Mp at h;unfold jf;dsimp only at h ⊢;split at h
  ·rename_i f hf;rw[zn,Bool.not_eq_true']at h;rw[hf];dsimp only;rw[h.2]
  ·rename_i hc;rw[hc]
  ·rename_i hc;rw[hc]
  ·rename_i hc;rw[hc]
  ·cases h
def ot{g:(K:AV->ah gu)->ah gu}{g0:ah AV}{e:gu}(hg:g (λd=>Q (.val d))=g0.bind λd=>Q (.val d))(h:g (dO Q)=Q e):∃d,e= .val d:=by
 have h:g (λd=>Q (.val d))=Q e:=h;rw[hg]at h;obtain⟨d,_,h2⟩:=zx.1 h;cases h2;exact⟨d,rfl⟩
def Tx(hN:eF F)(hp:∀f∈fs,bA F f){o:Op}{E:ET}{rd:Nat->ah IR}{R:aZ}{nx:Nat}{e:gu}(ho:Mp fs o=G)(h:m5 o P F (Fj E) rd R nx Q=Q e):∃d nx',e= .all d R nx'\/e= .val d:=by
 have fin:(∃d,e= .val d)->∃d nx',e=gu.all d R nx'\/e= .val d:=λ⟨d,h⟩=>⟨d,0, .inr h⟩;have fb:∀{x:ah AV},x.bind (dO Q)=Q e->∃d,e= .val d:=λ{x} h=>by
  obtain⟨d,_,h2⟩:=zx.1 h;cases h2;exact⟨d,rfl⟩
 cases o<;>first|(cases ho;done)|exact fin (fb h)|skip
 case pick c a b=>
  have h:ur c a b P F (Fj E) rd R nx Q=Q e:=h;unfold ur at h;split at h
  ·exact fin (fb h)
  ·exact fin (fb h)
  ·cases h
 case binOp b T x y t=>exact fin (ot (KS (K:=Q) (λd=>Q (gu.val d))).symm h)
 case unOp b T x=>exact fin (ot (Qt (K:=Q) (λd=>Q (gu.val d))).symm h)
 case fieldAddr T x i=>exact fin (ot (Km (K:=Q) (λd=>Q (gu.val d))).symm h)
 case indexAddr T x y=>exact fin (ot (Kk (K:=Q) (λd=>Q (gu.val d))).symm h)
 case index T x y=>exact fin (ot (KV (K:=Q) (λd=>Q (gu.val d))).symm h)
 case load T x=>exact fin (ot (Ry (K:=Q) (λd=>Q (gu.val d))).symm h)
 case nilCheck x=>exact fin (ot (Mz (K:=Q) (λd=>Q (gu.val d))).symm h)
 case convert T T' x=>exact fin (ot (Mk (K:=Q) (λd=>Q (gu.val d))).symm h)
 case extract x i=>exact fin (ot (KL (K:=Q) (λd=>Q (gu.val d))).symm h)
 case call c=>
  have h:Fg c P F (Fj E) rd R nx Q=Q e:=h;unfold Fg at h;unfold Mp at ho;dsimp only at ho;split at ho
  ·rename_i f hf;rw[hf]at h;rw[zn]at ho;have h:HJ F (Fj E) R nx (Q (.fn (.func f) [])) c.args.toList Q=Q e:=h;unfold HJ at h;dsimp only at h;obtain⟨xs,_,h2⟩:=zx.1 h;have h3:=hN (AV×aZ×Nat) gu f (xs++[]) R nx (λd R nx=>Q (d,R,nx)) (λx=>Q (.all x.1 x.2.1 x.2.2));have h3':(F (AV×aZ×Nat) f (xs++[]) R nx (λd R nx=>Q (d,R,nx))).bind (λx=>Q (.all x.1 x.2.1 x.2.2))=Q e:=h3.trans h2;obtain⟨⟨d,R',nx'⟩,h4,h5⟩:=zx.1 h3';have h6:=hp f (gp.1 ho.1) _ _ _ _ _ _ h4;subst h6;cases h5;exact⟨d,nx', .inl rfl⟩
  ·rename_i hc;rw[hc]at h;have h:Bv .len c.args c.argTypes P (Fj E) rd R nx Q=Q e:=h;unfold Bv at h;dsimp only at h;split at h
   ·exact fin (ot (KY (K:=Q) (λd=>Q (gu.val d))).symm h)
   ·cases h
  ·rename_i hc;rw[hc]at h;have h:Bv .max c.args c.argTypes P (Fj E) rd R nx Q=Q e:=h;unfold Bv at h;dsimp only at h;split at h
   ·exact fin (ot (BQ (K:=Q) (λd=>Q (gu.val d))).symm h)
   ·cases h
  ·rename_i hc;rw[hc]at h;have h:Bv .min c.args c.argTypes P (Fj E) rd R nx Q=Q e:=h;unfold Bv at h;dsimp only at h;split at h
   ·exact fin (ot (BQ (K:=Q) (λd=>Q (gu.val d))).symm h)
   ·cases h
  ·cases ho
def VS(l:aa Oper)(s s0:St):Prop:=s0.R=s.R/\∀u d,(∀o∈l,o.dst≠Q u)->cP s.E u=Q d->cP s0.E u=Q d
def nh{s:St}{t:Nat}{b:Bool}(ht:t<4095)(h:cP s.E t=Q (.lit (.bool b))){u:Nat}{d:AV}(hu:cP s.E u=Q d):cP (s.gj t b).E u=Q d:=by
 show cP (mj t (.b b) s.E) u=_;rw[Bm ht];split
 ·rename_i e;subst e;rw[h]at hu;exact hu
 ·exact hu
def Dv(hN:eF F)(hp:∀f∈fs,bA F f){ops:Array Oper}(hops:∀o∈ops.toList,GL o.dst=G):∀(l:aa Oper) {s s0:St},(∀o∈l,Mp fs o.op=G/\GL o.dst=G)->fh P F n ops l s Q=Q s0->VS l s s0
 |[],s,s0,_,h=>by cases h;exact⟨rfl,λu d _ hu=>hu⟩
 |o::l,s,s0,hl,h=>by
  have ho:=hl o zo;have hl':=λo' h'=>hl o' (zH _ h');change KA P F n ops o (fh P F n ops l) s Q=Q s0 at h;unfold KA at h;split at h
  case h_2=>cases h
  have putG:∀{s2:St} {d:AV} {nx':Nat},fh P F n ops l ⟨rS o.dst d s2.E,s2.R,nx'⟩ Q=Q s0->s2.R=s.R->(∀u d,cP s.E u=Q d->cP s2.E u=Q d)->VS (o::l) s s0:=λ{s2 d nx'} h1 h2 h3=>by
   obtain⟨q1,q2⟩:=Dv hN hp hops l hl' h1;refine⟨q1.trans h2,λu d' hu hd=>q2 u d' (λo' h'=>hu o' (zH _ h')) ?_⟩;show cP (rS o.dst d s2.E) u=Q d';have hne:=hu o zo;have hod:=ho.2;unfold rS;split
   ·exact h3 u d' hd
   ·rename_i t ht;rw[ht]at hod hne;rw[Bm (by simpa [GL]using hod),bF (λe=>hne (by rw[e]))];exact h3 u d' hd
  have yes:∀s1:St,as7 P F o (fh P F n ops l) Q s1=Q s0->s1.R=s.R->(∀u d,cP s.E u=Q d->cP s1.E u=Q d)->VS (o::l) s s0:=λs1 h1 h2 h3=>by
   obtain⟨E1,R1,nx1⟩:=s1;have h1:opF o.op P F o.dst E1 R1 nx1 (fh P F n ops l) Q=Q s0:=h1;have e1:=HA P F o ⟨E1,R1,nx1⟩ (fh (α:=St) P F n ops l) Q;dsimp only at e1;rw[e1]at h1;have go:∀s2:St,rDo P F o (fh P F n ops l) Q s2=Q s0->s2.R=s.R->(∀u d,cP s.E u=Q d->cP s2.E u=Q d)->VS (o::l) s s0:=λs2 g1 g2 g3=>by
    unfold rDo at g1;rw[Vq ho.1]at g1;obtain⟨E2,R2,nx2⟩:=s2;have g1:m5 o.op P F (Fj E2) (gz R2) R2 nx2 (Il o.dst E2 R2 nx2 (fh P F n ops l) Q)=Q s0:=g1;have g4:(m5 o.op P F (Fj E2) (gz R2) R2 nx2 Q).bind (Il o.dst E2 R2 nx2 (fh P F n ops l) Q)=Q s0:=(Aw _ hN ..).trans g1;obtain⟨e,g5,g6⟩:=zx.1 g4;obtain⟨d,nx',he⟩:=Tx hN hp ho.1 g5;rcases he with he|he
    ·subst he;exact putG (s2:=⟨E2,R2,nx2⟩) g6 g2 g3
    ·subst he;exact putG (s2:=⟨E2,R2,nx2⟩) g6 g2 g3
   unfold BA at h1;split at h1
   ·rename_i t a b hop;have ht:t<4095:=by
     have:=ho.1;rw[hop]at this;simpa [Mp,yz]using this
    split at h1
    ·rename_i b hb;split at h1
     ·exact go _ h1 h2 λu d hu=>nh (s:=⟨E1,R1,nx1⟩) ht hb (h3 u d hu)
     ·exact go _ h1 h2 λu d hu=>nh (s:=⟨E1,R1,nx1⟩) ht hb (h3 u d hu)
    ·cases h1
   ·exact go _ h1 h2 h3
  have no:∀s1:St,rNo o.dst (fh P F n ops l) Q s1=Q s0->s1.R=s.R->(∀u d,cP s.E u=Q d->cP s1.E u=Q d)->VS (o::l) s s0:=λs1 h1 h2 h3=>by
   have:rNo o.dst (fh P F n ops l) Q s1=fh P F n ops l ⟨rS o.dst (.lit undef) s1.E,s1.R,s1.nx⟩ Q:=by
    unfold rNo rS;cases o.dst<;>rfl
   rw[this]at h1;exact putG (s2:=s1) h1 h2 h3
  unfold gate at h;split at h
  ·exact yes s h rfl λ_ _ h=>h
  ·rename_i j want hg;split at h
   ·cases h
   ·rename_i t hj;have ht:t<4095:=by
     obtain⟨o',ho',hd'⟩:=zx.1 hj;have hm:o'∈ops.toList:=Array.mem_toList_iff.2 (Array.mem_of_getElem? ho');have:=hops o' hm;rw[hd']at this;simpa [GL,yz]using this
    split at h
    ·rename_i b hb;split at h
     ·split at h
      ·exact yes _ h rfl λu d hu=>nh ht hb hu
      ·exact no _ h rfl λu d hu=>nh ht hb hu
     ·split at h
      ·exact no _ h rfl λu d hu=>nh ht hb hu
      ·exact yes _ h rfl λu d hu=>nh ht hb hu
    ·exact no _ h rfl λ_ _ h=>h
    ·cases h
def aqD(fs:aa Nat)(t:Nat)(E:ET)(ops:aa Oper):Bool:=zK t 4095&&ops.all λo=>Mp fs o.op&&GL o.dst&&match o.dst with
 |some u=>zj u t||match cP E u with
  |none=>G
  |some _=>I
 |none=>G
def rbK(t:Nat)(s:St):ah Bool:=match cP s.E t with
 |some (.lit (.bool b))=>Q b
 |_=>V
def MZ{α:Type}(P:Program)(F:bw)(n:Nat)(fs:aa Nat)(t:Nat)(ops:Array Oper)(s:St)(k:gM α):ah α:=match aqD fs t s.E ops.toList with
 |true=>match fh (α:=Bool) P F n ops ops.toList s (rbK t)with
  |some b=>k .normal ⟨mj t (.b b) s.E,s.R,s.nx⟩
  |none=>V
 |false=>V
def Env.tw{T:ET}:∀(E:Env) (u:Nat) (d:AV),Env.get (E.filter λp=>@O (cP T p.1=Q p.2) (Classical.propDecidable _)) u=Q d->cP T u=Q d
 |[],_,_,h=>by cases h
 |(k,v)::E,u,d,h=>by
  by_cases hk:cP T k=Q v
  ·rw[yO,bt (by simp[hk])]at h;by_cases hku:k=u
   ·subst hku;rw[Env.fq]at h;cases h;exact hk
   ·rw[Env.dX _ _ hku]at h;exact Env.tw E u d h
  ·rw[yO,bF (by simp[hk])]at h;exact Env.tw E u d h
def Env.p7{T:ET}:∀(E:Env) (u:Nat) (d:AV),cP T u=Q d->E.get u=Q d->Env.get (E.filter λp=>@O (cP T p.1=Q p.2) (Classical.propDecidable _)) u=Q d
 |[],_,_,_,h=>by cases h
 |(k,v)::E,u,d,ht,h=>by
  by_cases hku:k=u
  ·subst hku;rw[Env.fq]at h;cases h;rw[yO,bt (by simp[ht])];exact Env.fq _ _ _
  ·rw[Env.dX _ _ hku]at h;rw[yO];split
   ·rw[Env.dX _ _ hku];exact Env.p7 E u d ht h
   ·exact Env.p7 E u d ht h
def Ue{α:Type}{C:Cg}(hF:iO P F)(hN:eF F)(hp:∀f∈fs,bA F f)(id t:Nat)(ops:Array Oper):TF (α:=α) P C n (.region id ops I) (MZ P F n fs t ops):=λr s k a w h hm=>by
 unfold MZ at h;split at h
 case h_2=>cases h
 rename_i hrb;split at h
 case h_2=>cases h
 rename_i b hb;unfold aqD at hrb;rw[zn,yz]at hrb;obtain⟨ht,hall⟩:=hrb;have hall:∀o∈ops.toList,(Mp fs o.op=G/\GL o.dst=G)/\∀u,o.dst=Q u->u=t\/cP s.E u=V:=λo ho=>by
  have h1:=zA.1 hall o ho;rw[zn,zn]at h1;refine⟨h1.1,λu hu=> ?_⟩;have h2:=h1.2;rw[hu]at h2;dsimp only at h2;rw[yQ]at h2;rcases h2 with h2|h2
  ·exact .inl (gI h2)
  ·right;split at h2
   ·assumption
   ·cases h2
 have hnat:=rO hN (P:=P) (n:=n) (ops:=ops) (rbK t) ops.toList s Q;have hb':(fh P F n ops ops.toList s Q).bind (rbK t)=Q b:=hnat.trans hb;obtain⟨s0,h1,h2⟩:=zx.1 hb';obtain⟨q1,q2⟩:=Dv hN hp (λo ho=>(hall o ho).1.2) ops.toList (λo ho=>(hall o ho).1) h1;have hend:Ends P C n (.region id ops I) (λe s'=>match e with
  | .normal=>Q s'
  |_=>V) s0 a w:=by
  refine wp_mono (wp_region_lit (DD hF _ h1 hm)) λe a' w' ⟨he,_,s',h3,h4⟩=> ?_;subst he;exact⟨s',h3,h4⟩
 refine wp_mono hend λe a' w' ⟨s',h3,h4⟩=> ?_;cases e<;>first|(cases h3;done)|skip
 have h3:Q s'=Q s0:=h3;cases h3;refine⟨_,h,?_⟩;have hbt:cP s0.E t=Q (.b b):=by
  unfold rbK at h2;split at h2
  ·rename_i b' hb';cases h2;exact hb'
  ·cases h2
 obtain⟨E,hh,hE,hR,ρ,hag,hsim⟩:=hm;obtain⟨E0,hh0,hE0,hR0,ρ0,hag0,hsim0⟩:=h4
 let E1:Env:=(t, .b b)::E.filter λp=>@O (cP s.E p.1=Q p.2) (Classical.propDecidable _)
 have hkey:∀u d,E1.get u=Q d->cP s0.E u=Q d:=λu d hu=>by
  by_cases htu:t=u
  ·subst htu;rw[Env.fq]at hu;cases hu;exact hbt
  ·rw[Env.dX _ _ htu]at hu;have h5:=Env.tw E u d hu;refine q2 u d (λo ho hd=> ?_) h5;rcases (hall o ho).2 u hd with h6|h6
   ·exact htu h6.symm
   ·rw[h5]at h6;cases h6
 refine⟨E1,λu d hu=> ?_,Env.uT (λp hp=>hE p (zY.1 hp).1) (.lit _),hR,ρ0,⟨hag0.1,hag.2⟩,?_⟩
 ·have hu:cP (mj t (.b b) s.E) u=Q d:=hu;rw[Bm ht]at hu;split at hu
  ·rename_i e;rw[<-e,<-zO.inj hu];exact Env.fq _ _ _
  ·rename_i e;show Env.get ((t,_)::_) u=_;rw[Env.dX _ _ e];exact Env.p7 E u d hu (hh u d hu)
 ·rw[q1]at hsim0;refine⟨hsim0.defers,hsim0.size,λu av hu=> ?_,hsim0.good⟩;rw[Env.fo]at hu;obtain⟨d,hd,rfl⟩:=zu.1 hu;exact hsim0.slots u _ (by rw[Env.fo,hh0 u d (hkey u d hd)];rfl)
end
inductive An:Type 1
 |no
 |two (l r:An)
 |lp (γ:Type) (rd:St->Option γ) (pat:γ->St) (FG:γ->Option γ) (body:An)
 |jn (γ:Type) (rd:St->Option γ) (pat:γ->St) (l r:An)
 |rb (fs:List Nat) (t:Nat)
def An.l:An->An
 | .two l _=>l
 | .jn _ _ _ l _=>l
 |_=> .no
def An.r:An->An
 | .two _ r=>r
 | .jn _ _ _ _ r=>r
 |_=> .no
abbrev noTwo(a:An):An:= .two .no a
abbrev XT:=An->(α:Type)->St->gM α->ah α
def avh{γ:Type}(b:Bool)(p q:γ):γ:=match b with
 |true=>p
 |false=>q
def kOn{γ:Type}(rd:St->ah γ):gM (ah γ):=λe s=>match e with
 | .normal=>(rd s).map Q
 |_=>Q V
def ajb{γ:Type}(rd:St->ah γ):gM γ:=λe s=>match e with
 | .normal=>rd s
 |_=>V
def Ve{γ α:Type}(rd:St->ah γ)(pat:γ->St)(c:Operand)(s:St)(x y:(α:Type)->St->gM α->ah α)(k:gM α):ah α:=match c with
 | .tmp t=>match cP s.E t with
  |some (.lit (.bool b))=>match x γ (s.gj t G) (ajb rd)with
   |some p=>match y γ (s.gj t I) (ajb rd)with
    |some q=>k .normal (pat (avh b p q))
    |none=>V
   |none=>V
  |_=>V
 |_=>V
def apx(P:Program)(F:bw)(n:Nat)(id:Nat)(ops:Array Oper)(draw:Bool):XT:=λan _ s k=>match an with
 | .rb fs t=>match draw with
  |false=>MZ P F n fs t ops s k
  |true=>Bp P F n id ops G s k
 |_=>Bp P F n id ops draw s k
def atL(x y:XT):XT:=λan α s k=>x an.l α s (aa8 (y an.r α) k)
def ajh(c:Operand)(x y:XT):XT:=λan α s k=>match an with
 | .jn _ rd pat l r=>Ve rd pat c s (x l) (y r) k
 |an=>oX c s (λs=>x an.l α s k) (λs=>y an.r α s k)
def acW(id:Nat)(x:XT):XT:=λan α s k=>x an α s (th id k)
def al1(fuel:Nat)(x:XT):XT:=λan α s k=>match an with
 | .lp _ rd pat FG b=>match rd s with
  |some p=>match FG p with
   |some q=>x b α (pat q) (K8 k λ_=>V)
   |none=>V
  |none=>V
 |an=>D5 (x an α) k fuel s
def ox(P:Program)(F:bw)(n:Nat)(fuel:Nat)(c:Code):XT:=
 Code.rec (λ_ _ s k=>Xv s k) (apx P F n) (λ_ _=>atL) (λc _ _=>ajh c) (λid _=>acW id) (λ_=>al1 fuel) (λ_ _ _ _ _ _ _ _ s k=>Fw s k) (λi _ _ s k=>Vg i s k) (λ_ _ _ _ s k=>Fw s k) (λ_ _ _ s k=>Fw s k) (λ_ _ _ s k=>Fw s k) (λ_ _ s k=>aio s k) (λ_ _ _ s k=>Fw s k) c
def rT{γ:Type}(n0 n:Nat)(rd:St->ah γ)(pat:γ->St):Prop:=∀(C:Cg) s p a w,C.n=n0->rd s=Q p->Mt C n s a w->Mt C n (pat p) a w
def Q4{γ:Type}(x:XT)(rd:St->ah γ)(pat:γ->St)(b:An):Nat->γ->γ->Prop
 |0,p,q=>p=q
 |n+1,p,q=>∃p',x b (ah γ) (pat p) (kOn rd)=Q (Q p')/\Q4 x rd pat b n p' q
def Qd{γ:Type}(x:XT)(rd:St->ah γ)(pat:γ->St)(FG:γ->ah γ)(b:An):Prop:=
 ∀p q,FG p=Q q->∃n,Q4 x rd pat b n p q
def L7(P:Program)(F:bw)(n0 n:Nat)(fuel:Nat)(c:Code):An->Prop:=
 Code.rec (λ_=>True) (λ_ _ _ an=>match an with
  | .rb fs _=>∀f∈fs,bA F f
  |_=>True) (λ_ _ x y an=>x an.l/\y an.r) (λ_ _ _ x y an=>(∀γ rd pat l r,an= .jn γ rd pat l r->rT n0 n rd pat)/\x an.l/\y an.r) (λ_ _ x=>x)
  (λc x an=>match an with
   | .lp _ rd pat FG b=>rT n0 n rd pat/\Qd (ox P F n fuel c) rd pat FG b/\x b
   |an=>x an) (λ_ _ _ _ _ _ _=>True) (λ_ _=>True) (λ_ _ _=>True) (λ_ _=>True) (λ_ _=>True) (λ_=>True) (λ_ _=>True) c
section
variable {P:Program} {F:bw} {C:Cg} {n0 n:Nat}
def XA(hF:iO P F)(hN:eF F)(hC:C.n=n0)(fuel:Nat)(c:Code):∀an,L7 P F n0 n fuel c an->∀(α:Type),TF (α:=α) P C n c (ox P F n fuel c an α):=by
 induction c with
 |skip=>exact λan _ α r s k a w h hm=>wp_skip ⟨s,h,hm⟩
 |region id ops draw=>
  intro an ho α;cases an with
  |rb fs t=>
   cases draw with
   |false=>exact Ue hF hN ho id t ops
   |true=>exact Ej hF hN id ops G
  |_=>exact Ej hF hN id ops draw
 |seq x y hx hy=>
  intro an ho α r s k a w h hm;obtain⟨h1,h2⟩:L7 P F n0 n fuel x an.l/\L7 P F n0 n fuel y an.r:=ho;refine wp_seq (wp_mono (hx an.l h1 α r s _ a w h hm) λe a' w' ⟨s',g1,g2⟩=> ?_);cases e with
  |normal=>exact hy an.r h2 α r s' k a' w' g1 g2
  |_=>exact⟨s',g1,g2⟩
 |cond c x y hx hy=>
  intro an ho α r s k a w h hm;obtain⟨h0,h1,h2⟩:(∀γ rd pat l r,an= .jn γ rd pat l r->rT n0 n rd pat)/\L7 P F n0 n fuel x an.l/\L7 P F n0 n fuel y an.r:=ho;have plain:oX c s (λs=>ox P F n fuel x an.l α s k) (λs=>ox P F n fuel y an.r α s k)=Q r->Ends P C n (.cond c x y) k r a w:=λh=>by
   obtain⟨b,s',he,hm',h'⟩:=Lp h hm;cases b with
   |true=>exact wp_cond_true he (hx an.l h1 α r s' k a w h' hm')
   |false=>exact wp_cond_false he (hy an.r h2 α r s' k a w h' hm')
  cases an with
  |jn γ rd pat l r'=>
   have hrd:=h0 γ rd pat l r' rfl;change Ve rd pat c s (ox P F n fuel x l) (ox P F n fuel y r') k=Q r at h;unfold Ve at h;split at h
   case h_2=>cases h
   rename_i t;split at h
   case h_2=>cases h
   rename_i b hb;split at h
   case h_2=>cases h
   rename_i p hp;split at h
   case h_2=>cases h
   rename_i q hq;have hev:a.eval (.tmp t)= .bool b:=by
    obtain⟨E,hh,_,_,ρ,_,hs⟩:=hm;refine SP hs ?_;have g1:=hh t _ hb;show Env.get (E.sub ρ) t=_;rw[Env.fo,g1,yx,bT]
   have fin:∀(p:γ),k .normal (pat p)=Q r->∀e a' w',(∃s',ajb rd e s'=Q p/\Mt C n s' a' w')->∃s',k e s'=Q r/\Mt C n s' a' w':=λp hk e a' w' ⟨s',g1,g2⟩=>by
    cases e with
    |normal=>exact⟨_,hk,hrd C s' p a' w' hC g1 g2⟩
    |_=>cases g1
   cases b with
   |true=>exact wp_cond_true hev (wp_mono (hx l h1 γ p _ _ a w hp (hm.gj hb)) (fin p h))
   |false=>exact wp_cond_false hev (wp_mono (hy r' h2 γ q _ _ a w hq (hm.gj hb)) (fin q h))
  |_=>exact plain h
 |block id x hx=>
  intro an ho α r s k a w h hm;refine wp_block (wp_mono (hx an ho α r s _ a w h hm) λe a' w' ⟨s',h1,h2⟩=> ?_);cases e with
  |exit id'=>
   simp only[th]at h1;simp only[Exit.inBlock];split
   ·rename_i he;subst he;have hb:zj id' id'=G:=Nat.beq_refl _;simp only[hb]at h1;exact⟨s',h1,h2⟩
   ·rename_i he;have hb:zj id' id=I:=by
     cases hb:zj id' id with
     |false=>rfl
     |true=>exact cR (xe hb) he
    simp only[hb]at h1;exact⟨s',h1,h2⟩
  |_=>exact⟨s',h1,h2⟩
 |loop c hc=>
  intro an ho α r s k a w h hm;cases an with
  |lp γ rd pat FG b=>
   obtain⟨hrd,hadv,hb⟩:rT n0 n rd pat/\Qd (ox P F n fuel c) rd pat FG b/\L7 P F n0 n fuel c b:=ho;change (match rd s with
    |some p=>match FG p with
     |some q=>ox P F n fuel c b α (pat q) (K8 k λ_=>V)
     |none=>V
    |none=>V)=Q r at h
   split at h
   case h_2=>cases h
   rename_i p hp;split at h
   case h_2=>cases h
   rename_i q hq;obtain⟨m,hgo⟩:=hadv p q hq;have key:∀(m:Nat) (p:γ),Q4 (ox P F n fuel c) rd pat b m p q->∀(a:Act) (w:World),Mt C n (pat p) a w->
     c.wp P (Exit.then (InL P c λe a' w'=>∃s',k e s'=Q r/\Mt C n s' a' w') λe a' w'=>∃s',k e s'=Q r/\Mt C n s' a' w') a w:=by
    intro m;induction m with
    |zero=>
     intro p hg a w hm;have hg:p=q:=hg;subst hg;refine wp_mono (hc b hb α r _ _ a w h hm) λe a' w' ⟨s',q1,q2⟩=> ?_;cases e with
     |normal=>cases q1
     |_=>exact⟨s',q1,q2⟩
    |succ m ih=>
     intro p hg a w hm;obtain⟨p',g1,g3⟩:=hg;refine wp_mono (hc b hb (ah γ) (Q p') _ _ a w g1 hm) λe a' w' ⟨s',q1,q2⟩=> ?_;cases e with
     |normal=>
      obtain⟨p'',q3,q4⟩:=zu.1 (show (rd s').map Q=Q (Q p')from q1);cases q4;exact L4 (ih p' g3 a' w' (hrd C s' p' a' w' hC q3 q2))
     |_=>cases q1
   exact FV (key m p hgo a w (hrd C s p a w hC hp hm))
  |_=>exact FN (hc _ ho α) fuel r s k a w h hm
 |exit i=>exact λan _ α r s k a w h hm=>wp_exit ⟨s,h,hm⟩
 |ret=>exact λan _ α r s k a w h hm=>wp_ret ⟨s,h,hm⟩
 |_=>exact λan _ α r s k a w h hm=>by cases h
def ct(P:Program)(F:bw)(fuel:Nat)(an:An){α:Type}(f:FuncId)(args:aa AV)(R:aZ)(nx:Nat)(k:St->ah α):ah α:=match P.funcs[f]? with
 |some fn=>match fn.body with
  |some c=>match yj args.length fn.ntmps&& !(fn.name=="runtime.NumGoroutine")with
   |true=>ox P F fn.ntmps fuel c an α ⟨LX 0 args .e,R,nx⟩ λe s=>match e with
    | .normal=>k s
    | .ret=>k s
    |_=>V
   |false=>V
  |none=>V
 |none=>V
def gv(P:Program)(F:bw)(n0:Nat)(fuel:Nat)(f:FuncId)(an:An):Prop:=∀fn c,P.funcs[f]? =Q fn->fn.body=Q c->L7 P F n0 fn.ntmps fuel c an
def DY(P:Program)(f:FuncId)(s:St):ah (aa AV):=match P.funcs[f]? with
 |some fn=>Ft P s fn.results.toList
 |none=>V
structure Out where
 d:AV
 R:aZ
 c:Nat
def Tg(P:Program)(f:FuncId)(args:aa AV)(R0:aZ)(n0:Nat)(x:Out):Prop:=∀ρ:Gh,Fn P f (args.map (cn.sub ρ)) (aZ.res ρ R0) (λa s=>∃ρ':Gh,rq n0 ρ ρ'/\a=x.d.sub ρ'/\List.Perm s (aZ.res ρ' x.R))
def o5(hF:bG P F){n0 fuel:Nat}{f:FuncId}{an:An}(han:gv P F n0 fuel f an){args:aa AV}{R0:aZ}{γ:Type}{rd:St->ah γ}{pat:γ->St}{out:γ->Out}{p:γ}
  (hrd:∀n,rT n0 n rd pat) (ho:∀p,(match DY P f (pat p)with
   |some ds=>Q (Out.mk (dP ds) (oF (pat p).R n0 (dP ds)) (pat p).nx)
   |none=>V)=Q (out p))
  (hargs:∀d∈args,cQ n0 d) (hR:aZ.cQ n0 R0) (h:ct P F fuel an f args R0 n0 rd=Q p):v7 P f/\Tg P f args R0 n0 (out p):=by
 unfold ct at h;split at h
 case h_2=>cases h
 rename_i fn hf;split at h
 case h_2=>cases h
 rename_i c hb;split at h
 case h_2=>cases h
 rename_i hc;rw[zn]at hc;obtain⟨hl,hnm⟩:=hc;have hop:=ho p;split at hop
 case h_2=>cases hop
 rename_i ds hds;have hds:Ft P (pat p) fn.results.toList=Q ds:=by
  unfold DY at hds;rw[hf]at hds;exact hds
 have hop:=zO.inj hop;refine⟨⟨fn,hf,by simpa using hnm,by rw[hb];rfl⟩,λρ=>Fn.of hf hb rfl (by rw[zL];exact hl) λC a w ha=> ?_⟩;have hm:Mt ⟨C,ρ,n0⟩ fn.ntmps ⟨LX 0 args .e,R0,n0⟩ a w:=by
  refine⟨fA 0 args,?_,λq hq=>hargs _ (p9 hq),hR,ρ,⟨.refl _ _,zI _⟩,?_⟩
  ·have:=Ap args 0 .e [] (λt d ht=>by cases t<;>cases ht) (λt d ht=>by cases t<;>cases ht)
   rwa [yy]at this
  ·rw[qI];exact ha
 refine wp_mono (XA (C:=⟨C,ρ,n0⟩) hF.ok hF.nat rfl fuel c an (han fn c hf hb) γ p _ _ a w h hm) λe a' w' ⟨s',h1,h2⟩=> ?_;have fin:∀e:Exit,(e= .normal\/e= .ret)->rd s'=Q p->∃E' σ',tM C fn.ntmps E' σ' a' w'/\acB P C fn.ntmps fn (λa s=>∃ρ':Gh,rq n0 ρ ρ'/\a=(out p).d.sub ρ'/\List.Perm s (aZ.res ρ' (out p).R)) e E' σ':=λe he hp=>by
  have hm':=hrd fn.ntmps ⟨C,ρ,n0⟩ s' p a' w' rfl hp h2;obtain⟨E,hh,hE,hR,ρ',⟨hag,hnx⟩,hsim⟩:=hm';have hsub:List.Sublist (oF (pat p).R n0 (dP ds)) (pat p).R:=Ah _ _ _;refine⟨_,_,hsim,Xy (σ':=aZ.res ρ' (oF (pat p).R n0 (dP ds))) (av:=(dP ds).sub ρ') he (hsub.map _) ⟨ρ',hag,by rw[<-hop],by rw[<-hop]⟩ λA w' tmps hd hs=> ?_⟩;obtain⟨us,q1,q2⟩:=JI hh hd hs hds;refine⟨_,?_,MG q2⟩;show (do let vs <-fn.results.mapM (tD tmps);pure (if h:vs.size=1 then vs[0]else .tuple vs):Sem Value).run P w'=_;have e1:fn.results=fn.results.toList.toArray:=by simp
  rw[e1,List.mapM_toArray];simp[q1]
 cases e with
 |normal=>exact fin _ (.inl rfl) h1
 |ret=>exact fin _ (.inr rfl) h1
 |_=>cases h1
end
section
variable {γ:Type} (cL:γ->ah (ah γ))
def l6:Nat->γ->γ->Prop
 |0,p,q=>p=q/\∀r,cL p≠Q (Q r)
 |n+1,p,q=>∃p',cL p=Q (Q p')/\l6 n p' q
open Classical in
def bJ(p:γ):ah γ:=if h:∃q n,l6 cL n p q then Q (Classical.choose h)else V
variable {cL}
def l6.det:∀{n m:Nat} {p q q':γ},l6 cL n p q->l6 cL m p q'->n=m/\q=q'
 |0,0,p,q,q',⟨h1,_⟩,⟨h2,_⟩=>⟨rfl,h1▸h2⟩
 |0,m+1,p,q,q',⟨h1,h3⟩,⟨p',h2,_⟩=>cR h2 (h3 p')
 |n+1,0,p,q,q',⟨p',h2,_⟩,⟨h1,h3⟩=>cR h2 (h3 p')
 |n+1,m+1,p,q,q',⟨p',h1,h2⟩,⟨p'',h3,h4⟩=>by
  rw[h1]at h3;cases h3;obtain⟨e1,e2⟩:=l6.det h2 h4;exact⟨by rw[e1],e2⟩
def l6.FG{n:Nat}{p q:γ}(h:l6 cL n p q):bJ cL p=Q q:=by
 have hx:∃q n,l6 cL n p q:=⟨q,n,h⟩;unfold bJ;rw[dif_pos hx];obtain⟨m,hm⟩:=Classical.choose_spec hx;rw[(l6.det hm h).2]
def l6.last{n:Nat}{p q:γ}(h:l6 cL n p q):∀r,cL q≠Q (Q r):=by
 induction n generalizing p with
 |zero=>obtain⟨h1,h2⟩:=h;rw[<-h1];exact h2
 |succ n ih=>obtain⟨p',_,h2⟩:=h;exact ih h2
def l6.ex(zf:γ->Prop)(m:γ->Nat)(h:∀p q,zf p->cL p=Q (Q q)->zf q/\m q<m p):∀(k:Nat) (p:γ),m p<=k->zf p->∃n q,l6 cL n p q/\zf q
 |k,p,hk,hp=>by
  by_cases hq:∃q,cL p=Q (Q q)
  ·obtain⟨q,hq⟩:=hq;obtain⟨h1,h2⟩:=h p q hp hq
   match k with
   |0=>omega
   |k+1=>
    obtain⟨n,r,h3,h4⟩:=l6.ex zf m h k q (by omega) h1;exact⟨n+1,r,⟨q,hq,h3⟩,h4⟩
  ·exact⟨0,p,⟨rfl,λr hr=>hq ⟨r,hr⟩⟩,hp⟩
def AA{p q:γ}(h:bJ cL p=Q q):∃n,l6 cL n p q:=by
 unfold bJ at h;split at h
 ·rename_i hx;cases h;exact Classical.choose_spec hx
 ·cases h
def lS(zf:γ->Prop)(m:γ->Nat)(h:∀p q,zf p->cL p=Q (Q q)->zf q/\m q<m p){p:γ}(hp:zf p):∃q,bJ cL p=Q q/\zf q/\∀r,cL q≠Q (Q r):=by
 obtain⟨n,q,h1,h2⟩:=l6.ex zf m h (m p) p (zI _) hp;exact⟨q,h1.FG,h2,h1.last⟩
def bU{p p':γ}(h:cL p=Q (Q p')):bJ cL p=bJ cL p':=by
 cases h2:bJ cL p' with
 |some q=>
  obtain⟨n,hn⟩:=AA h2;exact(show l6 cL (n+1) p q from⟨p',h,hn⟩).FG
 |none=>
  cases h1:bJ cL p with
  |none=>rfl
  |some q=>
   obtain⟨n,hn⟩:=AA h1;cases n with
   |zero=>exact cR h (hn.2 p')
   |succ n=>
    obtain⟨p'',h3,h4⟩:=hn;rw[h]at h3;cases h3;rw[h4.FG]at h2;cases h2
def cF{p:γ}(h:∀r,cL p≠Q (Q r)):bJ cL p=Q p:=(show l6 cL 0 p p from⟨rfl,h⟩).FG
def l6.x{x:XT}{rd:St->ah γ}{pat:γ->St}{b:An}(hx:∀p,x b (ah γ) (pat p) (kOn rd)=cL p):∀{n:Nat} {p q:γ},l6 cL n p q->Q4 x rd pat b n p q
 |0,_,_,h=>h.1
 |_+1,_,_,⟨p',h1,h2⟩=>⟨p',by rw[hx];exact h1,l6.x hx h2⟩
def afT{x:XT}{rd:St->ah γ}{pat:γ->St}{b:An}(hx:∀p,x b (ah γ) (pat p) (kOn rd)=cL p):Qd x rd pat (bJ cL) b:=λp q h=>by
 obtain⟨n,hn⟩:=AA h;exact⟨n,hn.x hx⟩
end
end Go.Iv
end
noncomputable section
namespace Go.Iv
variable [U:sF] [L:n7]
open Go Go.RowKit
section
variable {β γ δ:Type}
def PN(f:AV->ah β)(c:β->AV):Prop:=∀a b,f a=Q b->(∀(ρ:Gh) A w v,Rel A w (a.sub ρ) v->Rel A w ((c b).sub ρ) v)/\∀n,cQ n a->cQ n (c b)
def PN.of{f:AV->ah β}{c:β->AV}(h:P1 f c)(hc:∀a b,f a=Q b->Fq 2 a=G)(hl:∀b,(∀ρ,(c b).sub ρ=c b)/\∀n,cQ n (c b)):PN f c:=λa b hb=>
 ⟨λρ A w v hr=>by rw[j8 2 (hc a b hb)]at hr;rw[(hl b).1];exact h a b hb A w v hr,λn _=>(hl b).2 n⟩
def PN.i(k:IntKind):PN (iQ k) (cn.n k):= .of (.i k) (λa b h=>by
 unfold iQ at h;split at h
 ·rfl
 ·cases h) λb=>⟨λρ=>bT ρ _,λn=> .lit _⟩
def PN.b:PN Uj cn.b:= .of .b (λa b h=>by
 unfold Uj at h;split at h
 ·rfl
 ·cases h) λb=>⟨λρ=>bT ρ _,λn=> .lit _⟩
def PN.s:PN asS cn.s:= .of .s (λa b h=>by
 unfold asS at h;split at h
 ·rfl
 ·cases h) λb=>⟨λρ=>bT ρ _,λn=> .lit _⟩
def PN.l(t:Nat):PN (jX t) (cn.sl t):= .of (.l t) (λa b h=>by
 unfold jX at h;split at h
 ·rfl
 ·rfl
 ·cases h) λb=>⟨λρ=>gO ρ _ _,λn=> .sl _ _⟩
def aew(t:Nat):AV->ah (U.dF t)
 | .agg cs=>match cs.all (Fq 1)with
  |true=>L.parse t cs
  |false=>V
 |_=>V
def PN.g(t:Nat):PN (aew t) (λx=> .agg (U.cells t x)):= .of (λa b h A w v hr=>by
 unfold aew at h;split at h
 ·split at h
  ·obtain⟨us,rfl,h2⟩:=hr.nZ;exact Rel.oO (L.lP _ _ _ h A w us h2)
  ·cases h
 ·cases h) (λa b h=>by
 unfold aew at h;split at h
 ·split at h
  ·rename_i hc;exact hc
  ·cases h
 ·cases h) λb=>⟨λρ=>by rw[fy,L.clo],λn=> .agg _ (L.rH t b n)⟩
def asP(id off:Nat):AV->ah Unit
 | .ptr i o=>match zj i id&&zj o off with
  |true=>Q ()
  |false=>V
 |_=>V
def PN.p(id off:Nat):PN (asP id off) (λ_=> .ptr id off):=λa b h=>by
 unfold asP at h;split at h
 ·split at h
  ·rename_i hc;rw[zn]at hc;rw[gI hc.1,gI hc.2];exact⟨λ_ _ _ _ h=>h,λ_ h=>h⟩
  ·cases h
 ·cases h
def asO(id:Nat):AV->ah Unit
 | .own i=>match zj i id with
  |true=>Q ()
  |false=>V
 |_=>V
def PN.o(id:Nat):PN (asO id) (λ_=> .own id):=λa b h=>by
 unfold asO at h;split at h
 ·split at h
  ·rename_i hc;rw[gI hc];exact⟨λ_ _ _ _ h=>h,λ_ h=>h⟩
  ·cases h
 ·cases h
def MN(q:aa AV->ah γ)(c:γ->aa AV):Prop:=∀cs g,q cs=Q g->(∀(ρ:Gh) A w us,bL A w (cs.map (cn.sub ρ)) us->bL A w ((c g).map (cn.sub ρ)) us)/\∀n,(∀a∈cs,cQ n a)->∀a∈c g,cQ n a
def MN.nil:MN oU (λ_=>[]):=λcs g h=>by
 unfold oU at h;split at h
 ·exact⟨λρ A w us hr=>hr,λn h=>h⟩
 ·cases h
def MN.cons{f:AV->ah β}{c:β->AV}{q:aa AV->ah γ}{d:γ->aa AV}(h:PN f c)(hq:MN q d):MN (dQ f q) (λx=>c x.1::d x.2):=λcs g hg=>by
 unfold dQ at hg;split at hg
 ·obtain⟨b,h1,hg⟩:=zx.1 hg;obtain⟨g',h2,rfl⟩:=zu.1 hg;obtain⟨h3,h4⟩:=h _ _ h1;obtain⟨h5,h6⟩:=hq _ _ h2;refine⟨λρ A w us hr=> ?_,λn hn a ha=> ?_⟩
  ·rw[yl]at hr ⊢;obtain⟨v,us',rfl,h7,h8⟩:=hr.head;exact bL.cons (h3 ρ A w v h7) (h5 ρ A w us' h8)
  ·rcases zF.1 ha with rfl|ha
   ·exact h4 n (hn _ zo)
   ·exact h6 n (λa ha=>hn a (zH _ ha)) a ha
 ·cases hg
def ajr(k:Nat)(q:aa AV->ah γ):AV->ah γ
 | .fn (.func i) cs=>match zj i k with
  |true=>q cs
  |false=>V
 |_=>V
def PN.ff(k:Nat){q:aa AV->ah γ}{c:γ->aa AV}(h:MN q c):PN (ajr k q) (λx=> .fn (.func k) (c x)):=λa b hb=>by
 unfold ajr at hb;split at hb
 ·rename_i i cs;split at hb
  ·rename_i hi;have hi:=gI hi;subst hi;obtain⟨h1,h2⟩:=h _ _ hb;refine⟨λρ A w v hr=> ?_,λn hn=> .fn _ _ (h2 n hn.fnL)⟩;rw[tc]at hr ⊢;generalize ha:cn.fn (Fn.func i) (cs.map (cn.sub ρ))=a at hr;cases hr with
   |fn f cs' us hl hr=>
    cases ha;obtain⟨h3,h4⟩:=h1 ρ A w us ⟨hl,hr⟩;exact .fn _ _ us h3 h4
   |_=>cases ha
  ·cases hb
 ·cases hb
def alA(q:aa AV->ah γ):AV->ah γ
 | .fp cs=>q cs
 |_=>V
def PN.fp{q:aa AV->ah γ}{c:γ->aa AV}(h:MN q c):PN (alA q) (λx=> .fp (c x)):=λa b hb=>by
 unfold alA at hb;split at hb
 ·rename_i cs;obtain⟨h1,h2⟩:=h _ _ hb;refine⟨λρ A w v hr=> ?_,λn hn=> ?_⟩
  ·rw[mB]at hr ⊢;generalize ha:cn.fp (cs.map (cn.sub ρ))=a at hr;cases hr with
   |fp cs' b o us hb hA hl hc hr=>
    cases ha;obtain⟨h3,h4⟩:=h1 ρ A w us ⟨hl,hr⟩;exact .fp _ b o us hb hA h3 hc h4
   |_=>cases ha
  ·generalize ha:cn.fp cs=a at hn;cases hn with
   |fp cs' h5=>cases ha;exact .fp _ (h2 n h5)
   |_=>cases ha
 ·cases hb
def amc:AV->ah Unit
 | .lit (.slice V 0 0)=>Q ()
 |_=>V
def PN.ns:PN amc (λ_=> .lit (.slice V 0 0)):=λa b hb=>by
 unfold amc at hb;split at hb
 ·exact⟨λ_ _ _ _ h=>h,λ_ h=>h⟩
 ·cases hb
def amv(t:Nat)(cs:aa AV):ah (U.dF t):=match cs.all (Fq 1)with
 |true=>L.parse t cs
 |false=>V
def MN.parse(t:Nat):MN (amv t) (λx=>U.cells t x):=λcs g h=>by
 unfold amv at h;split at h
 ·rename_i hc;have e:∀ρ,cs.map (cn.sub ρ)=cs:=λρ=>by
   have:cs.map (cn.sub ρ)=cs.map id:=z7 λa ha=>j8 1 (zA.1 hc a ha);rw[this,List.map_id]
  exact⟨λρ A w us hr=>by rw[e]at hr;rw[L.clo];exact L.lP _ _ _ h A w us hr,λn _=>L.rH t g n⟩
 ·cases h
def slN(_:ET):ah Unit:=Q ()
def slC(t:Nat)(f:AV->ah β)(q:ET->ah γ)(T:ET):ah (β×γ):=match cP T t with
 |some a=>(f a).bind λb=>(q T).map λg=>(b,g)
 |none=>V
def NK(q:ET->ah γ)(d:γ->Env):Prop:=∀T g,q T=Q g->∀(E:Env),tq T E->(∀(ρ:Gh) A w tmps,lu A w (E.sub ρ) tmps->lu A w ((d g).sub ρ) tmps)/\∀n,E.cQ n->(d g).cQ n
def NK.nil:NK slN (λ_=>[]):=λT g _ E _=>⟨λρ A w tmps _ t av h=>(by cases h),λn _ p hp=>(by cases hp)⟩
def NK.cons{t:Nat}{f:AV->ah β}{c:β->AV}{q:ET->ah γ}{d:γ->Env}(hf:PN f c)(hq:NK q d):NK (slC t f q) (λx=>(t,c x.1)::d x.2):=λT g h E hh=>by
 unfold slC at h;split at h
 case h_2=>cases h
 rename_i a ha;obtain⟨b,hb,h⟩:=zx.1 h;obtain⟨g',hg,rfl⟩:=zu.1 h;obtain⟨h1,h2⟩:=hf a b hb;obtain⟨h3,h4⟩:=hq T g' hg E hh;refine⟨λρ A w tmps hs s av hx=> ?_,λn hn p hp=> ?_⟩
 ·have hx:Env.get ((t,(c b).sub ρ)::(d g').sub ρ) s=Q av:=hx;by_cases hts:t=s
  ·subst hts;rw[Env.fq]at hx;cases hx;obtain⟨v,q1,q2⟩:=hs t (a.sub ρ) (by rw[Env.fo,hh t a ha];rfl);exact⟨v,q1,h1 ρ A w v q2⟩
  ·rw[Env.dX _ _ hts]at hx;exact h3 ρ A w tmps hs s av hx
 ·rcases zF.1 hp with rfl|hp
  ·exact h2 n (hn _ (Env.get_mem (hh t a ha)))
  ·exact h4 n hn p hp
def am1(E:Env):ET:=List.rec .e (λp _ T=>mj p.1 p.2 T) E
def vR:∀E:Env,tq (am1 E) E
 |[]=>λt d h=>by cases t<;>cases h
 |p::E=>(vR E).put p.1 p.2
def leR(p p':Nat×IR):Prop:=p.1=p'.1/\(∀(ρ:Gh) A w,(p.2.res ρ p.1).ok A w->(p'.2.res ρ p'.1).ok A w)/\(∀ρ:Gh,(p.2.res ρ p.1).blk=(p'.2.res ρ p'.1).blk)/\∀n,p.2.cQ n->p'.2.cQ n
inductive IV:aZ->aZ->Prop
 |nil:IV [] []
 |cons {p p':Nat×IR} {R R':aZ} (h:leR p p') (hs:IV R R'):IV (p::R) (p'::R')
def rsN:aZ->ah Unit
 |[]=>Q ()
 |_=>V
def rsR(id t:Nat)(q:aZ->ah γ):aZ->ah (aa (U.dF t)×γ)
 |(i, .row t' l)::R=>match zj i id with
  |true=>(vG t' t l).bind λl=>(q R).map λg=>(l,g)
  |false=>V
 |_=>V
def C9(q:aZ->ah γ)(d:γ->aZ):Prop:=∀R g,q R=Q g->IV R (d g)
def C9.nil:C9 rsN (λ_=>[]):=λR g h=>by
 cases R with
 |nil=>exact .nil
 |cons p R=>cases h
def C9.row{id t:Nat}{q:aZ->ah γ}{d:γ->aZ}(hq:C9 q d):C9 (rsR id t q) (λx=>(id, .row t x.1)::d x.2):=λR g h=>by
 obtain⟨i,t',l,R',rfl,hcd,h9⟩:∃i t' l R',R=(i,IR.row t' l)::R'/\zj i id=G/\((vG t' t l).bind λl=>(q R').map λg=>(l,g))=Q g:=by
  unfold rsR at h;split at h
  ·split at h
   ·rename_i hcd;exact⟨_,_,_,_,rfl,hcd,h⟩
   ·cases h
  ·cases h
 have e1:=gI hcd;subst e1;obtain⟨l',hl,h9⟩:=zx.1 h9;obtain⟨g',hg,rfl⟩:=zu.1 h9;obtain⟨rfl,rfl⟩:=nc hl;exact .cons ⟨rfl,λρ A w h=>h,λρ=>rfl,λn h=>h⟩ (hq _ _ hg)
def aly(id T:Nat)(f:aa AV->ah β)(q:aZ->ah γ):aZ->ah (β×γ)
 |(i, .box T' cs)::R=>match zj i id&&zj T' T with
  |true=>(f cs).bind λb=>(q R).map λg=>(b,g)
  |false=>V
 |_=>V
def C9.auI{id T:Nat}{f:aa AV->ah β}{c:β->aa AV}{q:aZ->ah γ}{d:γ->aZ}(hf:MN f c)(hq:C9 q d):C9 (aly id T f q) (λx=>(id, .box T (c x.1))::d x.2):=λR g h=>by
 obtain⟨i,T',cs,R',rfl,hcd,h9⟩:∃i T' cs R',R=(i,IR.box T' cs)::R'/\(zj i id&&zj T' T)=G/\((f cs).bind λb=>(q R').map λg=>(b,g))=Q g:=by
  unfold aly at h;split at h
  ·split at h
   ·rename_i hcd;exact⟨_,_,_,_,rfl,hcd,h⟩
   ·cases h
  ·cases h
 rw[zn]at hcd;have e1:=gI hcd.1;have e2:=gI hcd.2;subst e1 e2;obtain⟨b,hb,h9⟩:=zx.1 h9;obtain⟨g',hg,rfl⟩:=zu.1 h9;obtain⟨k1,k2⟩:=hf _ _ hb;exact .cons ⟨rfl,λρ A w ⟨us,h1,h2⟩=>⟨us,h1,k1 ρ A w us h2⟩,λρ=>rfl,λn hn=>k2 n hn⟩ (hq _ _ hg)
def EN{ρ:Gh}:∀{R R':aZ},IV R R'->bH (aZ.res ρ R)=bH (aZ.res ρ R')
 |_,_, .nil=>rfl
 |_,_, .cons (p:=p) (p':=p') h hs=>by
  unfold bH aZ.res;rw[yl,yl,xD,xD,h.2.2.1 ρ];have:=EN (ρ:=ρ) hs;unfold bH aZ.res at this;rw[this]
def Na{ρ:Gh}{A:Nat->Prop}{w:World}:∀{R R':aZ},IV R R'->(∀r∈aZ.res ρ R,r.ok A w)->∀r∈aZ.res ρ R',r.ok A w
 |_,_, .nil,_=>λr hr=>by cases hr
 |_,_, .cons (p:=p) (p':=p') h hs,h0=>λr hr=>by
  rcases zF.1 hr with rfl|hr
  ·exact h.2.1 ρ A w (h0 _ zo)
  ·exact Na hs (λr hr=>h0 r (zH _ hr)) r hr
def Ti{n:Nat}:∀{R R':aZ},IV R R'->aZ.cQ n R->aZ.cQ n R'
 |_,_, .nil,h=>h
 |_,_, .cons (p:=p) (p':=p') h hs,h0=>λq hq=>by
  rcases zF.1 hq with rfl|hq
  ·exact⟨by rw[<-h.1];exact(h0 _ zo).1,h.2.2.2 n (h0 _ zo).2⟩
  ·exact Ti hs (λq hq=>h0 q (zH _ hq)) q hq
def stR(m:Nat)(q:ET->ah γ)(r:aZ->ah δ)(s:St):ah (γ×δ):=match zj s.nx m with
 |true=>(q s.E).bind λg=>(r s.R).map λh=>(g,h)
 |false=>V
def lB(m:Nat)(d:γ->Env)(e:δ->aZ)(p:γ×δ):St:=⟨am1 (d p.1),e p.2,m⟩
def amg{n0 n m:Nat}{q:ET->ah γ}{r:aZ->ah δ}{d:γ->Env}{e:δ->aZ}(hq:NK q d)(hr:C9 r e):rT n0 n (stR m q r) (lB m d e):=λC s p a w _ h hm=>by
 unfold stR at h;split at h
 case h_2=>cases h
 rename_i hnx;have hnx:=gI hnx;obtain⟨g,hg,h⟩:=zx.1 h;obtain⟨g',hg',rfl⟩:=zu.1 h;obtain⟨E,hh,hE,hR,ρ,hag,hsim⟩:=hm;obtain⟨h1,h2⟩:=hq _ _ hg E hh;have h3:=hr _ _ hg';have hb:bH (aZ.res ρ (e g'))=bH (aZ.res ρ s.R):=(EN h3).symm;have hal:∀b,al C.C (aZ.res ρ s.R) b->al C.C (aZ.res ρ (e g')) b:=λb hA=>⟨hA.1,by rw[hb];exact hA.2⟩;subst hnx;have hdis:(bH (aZ.res ρ (e g'))).Nodup:=by rw[hb];exact hsim.good.F9
 refine⟨d g,vR _,h2 _ hE,Ti h3 hR,ρ,hag,hsim.defers.step (λb _ hA=>⟨hal b hA,rfl⟩),hsim.size,λt av ht=> ?_,hsim.good.kept,λx hx=> ?_,hdis,λb hx=>hsim.good.own b (by rw[<-hb];exact hx)⟩
 ·obtain⟨v,q1,q2⟩:=h1 ρ _ w a.tmps hsim.slots t av ht;exact⟨v,q1,q2.mono λb _ hA=>⟨hal b hA,rfl⟩⟩
 ·exact(Na h3 hsim.good.res x hx).mono (λb _ hA=>⟨hal b hA,rfl⟩) (λ_ _=>rfl)
end
def rdM{γ γ':Type}(e:γ->γ')(rd:St->ah γ)(s:St):ah γ':=match rd s with
 |some p=>Q (e p)
 |none=>V
def rT.m{γ γ':Type}{n0 n:Nat}{rd:St->ah γ}{pat:γ->St}(h:rT n0 n rd pat)(e:γ->γ'){pat':γ'->St}(he:∀p,pat' (e p)=pat p):rT n0 n (rdM e rd) pat':=λC s p a w hC hr hm=>by
 unfold rdM at hr;split at hr
 ·rename_i p' hp;cases hr;rw[he];exact h C s p' a w hC hp hm
 ·cases hr
def amj(c:Code):An->aa (Code×An):=
 Code.rec (λ_=>[]) (λ_ _ _ an=>match an with
   | .rb fs t=>[(.skip, .rb fs t)]
   |_=>[]) (λ_ _ x y an=>x an.l++y an.r) (λ_ _ _ x y an=>(match an with
   | .jn γ rd pat l r=>[(.skip, .jn γ rd pat l r)]
   |_=>[])++(x an.l++y an.r)) (λ_ _ x=>x)
  (λc x an=>match an with
   | .lp γ rd pat FG b=>(c, .lp γ rd pat FG b)::x b
   |an=>x an) (λ_ _ _ _ _ _ _=>[]) (λ_ _=>[]) (λ_ _ _=>[]) (λ_ _=>[]) (λ_ _=>[]) (λ_=>[]) (λ_ _=>[]) c
def QE(P:Program)(F:bw)(n0 n:Nat)(fuel:Nat)(p:Code×An):Prop:=match p.2 with
 | .lp _ rd pat FG b=>rT n0 n rd pat/\Qd (ox P F n fuel p.1) rd pat FG b
 | .jn _ rd pat _ _=>rT n0 n rd pat
 | .rb fs _=>∀f∈fs,bA F f
 |_=>True
def adf{P:Program}{F:bw}{n0 n fuel:Nat}(c:Code):∀an,(∀p∈amj c an,QE P F n0 n fuel p)->L7 P F n0 n fuel c an:=by
 induction c with
 |region id ops draw=>
  intro an h;cases an with
  |rb fs t=>exact h (.skip, .rb fs t) (zD.2 rfl)
  |_=>exact trivial
 |seq x y hx hy=>
  intro an h;exact⟨hx an.l λp hp=>h p (yH _ hp),hy an.r λp hp=>h p (yI _ hp)⟩
 |cond c x y hx hy=>
  intro an h;refine⟨λγ rd pat l r he=> ?_,hx an.l λp hp=>h p (yI _ (yH _ hp)),hy an.r λp hp=>h p (yI _ (yI _ hp))⟩;subst he;exact h (.skip, .jn γ rd pat l r) (yH _ (zD.2 rfl))
 |block id x hx=>exact λan h=>hx an h
 |loop c hc=>
  intro an h;cases an with
  |lp γ rd pat FG b=>
   have h0:=h (c, .lp γ rd pat FG b) zo;exact⟨h0.1,h0.2,hc b λp hp=>h p (zH _ hp)⟩
  |no=>exact hc _ h
  |two l r=>exact hc _ h
  |jn γ rd pat l r=>exact hc _ h
  |rb fs t=>exact hc _ h
 |_=>exact λan h=>trivial
def cD{P:Program}{F:bw}{n0 fuel f:Nat}{fn:Func}{c:Code}{an:An}{l:aa (Code×An)}(hf:P.funcs[f]? =Q fn)(hb:fn.body=Q c)(ho:amj c an=l)(h:∀p∈l,QE P F n0 fn.ntmps fuel p):gv P F n0 fuel f an:=λfn' c' h1 h2=>by
 rw[hf]at h1;cases h1;rw[hb]at h2;cases h2;exact adf c an (by rw[ho];exact h)
def It(fn:Func):Code:=match fn.body with
 |some c=>c
 |none=> .skip
def bR{fn:Func}(h:fn.body.isNone=I):fn.body=Q (It fn):=by
 unfold It;cases hb:fn.body with
 |none=>rw[hb]at h;cases h
 |some c=>rfl
def abc(c:Code):aa Code:=Code.rec [] (λ_ _ _=>[]) (λ_ _ x y=>x++y) (λ_ _ _ x y=>x++y) (λ_ _ x=>x) (λc x=>c::x) (λ_ _ _ _ _ _=>[]) (λ_=>[]) (λ_ _=>[]) (λ_=>[]) (λ_=>[]) [] (λ_=>[]) c
def bE(fn:Func)(i:Nat):Code:=(abc (It fn)).getD i .skip
end Go.Iv
end
noncomputable section
set_option maxRecDepth 100000
namespace Go.Proofs.YtnfljbehcffmcaaGreat
open Go Go.Iv
open Go.IntKind (i64 u64)
structure ax where
 (bf fN:Int)
 aq:List ax
instance:Inhabited ax:=⟨⟨0,0,[]⟩⟩
structure ay where
 (bN aN cV fN:Int)
 az:ax
 (aD aJ:List ay)
 aK:List Int
instance:Inhabited ay:=⟨⟨0,0,0,0,⟨0,0,[]⟩,[],[],[]⟩⟩
structure aS where
 fName:ByteArray
 (bq ag af dB:Int)
 deriving Inhabited,DecidableEq
structure dz where
 fName:ByteArray
 (ag af:Int)
 az:ax
 deriving Inhabited
structure aQ where
 ai:List aS
 ak:List dz
 bI:List ay
 deriving Inhabited
structure cz where
 aR:List Int
 eE:Bool
 deriving Inhabited,DecidableEq
structure aH where
 (ag af aj:Int)
 deriving Inhabited,DecidableEq
structure bh where
 aC:aH
 aA:List aH
 aF:aH
 jq:List aH
 deriving Inhabited,DecidableEq
structure aL where
 aP:List Int
 aF:Int
 deriving Inhabited,DecidableEq
structure cY where
 (fe aR fu:List Int)
 deriving Inhabited,DecidableEq
structure bD where
 (cW aP:List Int)
 aF:Int
 deriving Inhabited,DecidableEq
structure Cell where
 (CK fAt:Int)
 (aq FO:List Int)
 Ow:Int
 deriving Inhabited,DecidableEq
structure jS where
 FO:List aL
 OH:List Cell
 deriving Inhabited,DecidableEq
structure Part where
 (CK fAt:Int)
 aq:List Int
 ajS:List aH
 deriving Inhabited,DecidableEq
structure au where
 ai:List aH
 aC:aH
 aA:List aH
 aF:aH
 deriving Inhabited,DecidableEq
structure Runner where
 fF:aQ
 ak:List aH
 deriving Inhabited
structure aM where
 ai:List aH
 aC:aH
 aA:List aH
 aF:aH
 deriving Inhabited,DecidableEq
structure Bu where
 ajS:List aH
 (CK fAt:Int)
 aq:List Int
 Ow:Int
 aae:Bool
 FO:aL
 deriving Inhabited,DecidableEq
structure Tree where
 fF:aQ
 fV:cz
 OH:List Bu
 deriving Inhabited
structure aW where
 bB:Int
 fL:Bool
 deriving Inhabited,DecidableEq
structure qv where
 (fY aP aF:Int)
 deriving Inhabited,DecidableEq
structure Machine where
 fF:aQ
 (cW ak aP:List Int)
 aF:Int
 deriving Inhabited
structure Span where
 (ag af:Int)
 deriving Inhabited,DecidableEq
inductive Ky
 |k3
 |k4
 |k5
 |k24
 |k26
 |k27
 |k29
 |k30
 |k34
 |k36
 |k37
 |k47
 |k52
 |k56
 |k84
 |k90
 |k117
 |k128
 |k129
 |k131
 |k133
 |k137
 |k139
 |k147
 |k166
 |k172
 |k174
 |k256
 |k260
 |k313
 |k331
 |no
def ky:Nat->Ky
 |3=> .k3
 |4=> .k4
 |5=> .k5
 |24=> .k24
 |26=> .k26
 |27=> .k27
 |29=> .k29
 |30=> .k30
 |34=> .k34
 |36=> .k36
 |37=> .k37
 |47=> .k47
 |52=> .k52
 |56=> .k56
 |84=> .k84
 |90=> .k90
 |117=> .k117
 |128=> .k128
 |129=> .k129
 |131=> .k131
 |133=> .k133
 |137=> .k137
 |139=> .k139
 |147=> .k147
 |166=> .k166
 |172=> .k172
 |174=> .k174
 |256=> .k256
 |260=> .k260
 |313=> .k313
 |331=> .k331
 |_=> .no
def C3:Ky->Type
 | .k3=>Int
 | .k4=>Bool
 | .k5=>Int
 | .k24=>aa ay
 | .k26=>aQ
 | .k27=>aa Int
 | .k29=>cz
 | .k30=>aa aH
 | .k34=>aH
 | .k36=>bh
 | .k37=>Int
 | .k47=>aL
 | .k52=>cY
 | .k56=>bD
 | .k84=>jS
 | .k90=>Part
 | .k117=>Cell
 | .k128=>au
 | .k129=>Int
 | .k131=>aS
 | .k133=>Runner
 | .k137=>ax
 | .k139=>dz
 | .k147=>aM
 | .k166=>ay
 | .k172=>Tree
 | .k174=>Bu
 | .k256=>aW
 | .k260=>qv
 | .k313=>Machine
 | .k331=>Span
 | .no=>Unit
abbrev cw(t:Nat):Type:=C3 (ky t)
@[reducible] def inhK:(k:Ky)->Inhabited (C3 k)
 | .k3=>⟨(default:Int)⟩
 | .k4=>⟨(default:Bool)⟩
 | .k5=>⟨(default:Int)⟩
 | .k24=>⟨(default:aa ay)⟩
 | .k26=>⟨(default:aQ)⟩
 | .k27=>⟨(default:aa Int)⟩
 | .k29=>⟨(default:cz)⟩
 | .k30=>⟨(default:aa aH)⟩
 | .k34=>⟨(default:aH)⟩
 | .k36=>⟨(default:bh)⟩
 | .k37=>⟨(default:Int)⟩
 | .k47=>⟨(default:aL)⟩
 | .k52=>⟨(default:cY)⟩
 | .k56=>⟨(default:bD)⟩
 | .k84=>⟨(default:jS)⟩
 | .k90=>⟨(default:Part)⟩
 | .k117=>⟨(default:Cell)⟩
 | .k128=>⟨(default:au)⟩
 | .k129=>⟨(default:Int)⟩
 | .k131=>⟨(default:aS)⟩
 | .k133=>⟨(default:Runner)⟩
 | .k137=>⟨(default:ax)⟩
 | .k139=>⟨(default:dz)⟩
 | .k147=>⟨(default:aM)⟩
 | .k166=>⟨(default:ay)⟩
 | .k172=>⟨(default:Tree)⟩
 | .k174=>⟨(default:Bu)⟩
 | .k256=>⟨(default:aW)⟩
 | .k260=>⟨(default:qv)⟩
 | .k313=>⟨(default:Machine)⟩
 | .k331=>⟨(default:Span)⟩
 | .no=>⟨()⟩
def szK:Ky->Nat
 | .k3=>1
 | .k4=>1
 | .k5=>1
 | .k24=>1
 | .k26=>3
 | .k27=>1
 | .k29=>2
 | .k30=>1
 | .k34=>3
 | .k36=>8
 | .k37=>1
 | .k47=>2
 | .k52=>3
 | .k56=>3
 | .k84=>2
 | .k90=>4
 | .k117=>5
 | .k128=>8
 | .k129=>1
 | .k131=>5
 | .k133=>4
 | .k137=>3
 | .k139=>6
 | .k147=>8
 | .k166=>10
 | .k172=>6
 | .k174=>8
 | .k256=>2
 | .k260=>3
 | .k313=>7
 | .k331=>2
 | .no=>0
def nQ:(k:Ky)->C3 k->aa (cn cw)
 | .k3,x=>(λx:Int=>[.n .i64 x]) x
 | .k4,x=>(λx:Bool=>[.b x]) x
 | .k5,x=>(λx:Int=>[.n .u8 x]) x
 | .k24,x=>(λx:aa ay=>[.sl 166 x]) x
 | .k26,x=>(λx:aQ=>[.sl 131 x.ai, .sl 139 x.ak, .sl 166 x.bI]) x
 | .k27,x=>(λx:aa Int=>[.sl 3 x]) x
 | .k29,x=>(λx:cz=>[.sl 3 x.aR, .b x.eE]) x
 | .k30,x=>(λx:aa aH=>[.sl 34 x]) x
 | .k34,x=>(λx:aH=>[.n .i64 x.ag, .n .i64 x.af, .n .i64 x.aj]) x
 | .k36,x=>(λx:bh=>[.n .i64 x.aC.ag, .n .i64 x.aC.af, .n .i64 x.aC.aj, .sl 34 x.aA, .n .i64 x.aF.ag, .n .i64 x.aF.af, .n .i64 x.aF.aj, .sl 34 x.jq]) x
 | .k37,x=>(λx:Int=>[.n .i64 x]) x
 | .k47,x=>(λx:aL=>[.sl 3 x.aP, .n .i64 x.aF]) x
 | .k52,x=>(λx:cY=>[.sl 3 x.fe, .sl 3 x.aR, .sl 3 x.fu]) x
 | .k56,x=>(λx:bD=>[.sl 3 x.cW, .sl 3 x.aP, .n .i64 x.aF]) x
 | .k84,x=>(λx:jS=>[.sl 47 x.FO, .sl 117 x.OH]) x
 | .k90,x=>(λx:Part=>[.n .i64 x.CK, .n .i64 x.fAt, .sl 3 x.aq, .sl 34 x.ajS]) x
 | .k117,x=>(λx:Cell=>[.n .i64 x.CK, .n .i64 x.fAt, .sl 3 x.aq, .sl 3 x.FO, .n .i64 x.Ow]) x
 | .k128,x=>(λx:au=>[.sl 34 x.ai, .n .i64 x.aC.ag, .n .i64 x.aC.af, .n .i64 x.aC.aj, .sl 34 x.aA, .n .i64 x.aF.ag, .n .i64 x.aF.af, .n .i64 x.aF.aj]) x
 | .k129,x=>(λx:Int=>[.n .i64 x]) x
 | .k131,x=>(λx:aS=>[.s x.fName, .n .i64 x.bq, .n .i64 x.ag, .n .i64 x.af, .n .i64 x.dB]) x
 | .k133,x=>(λx:Runner=>[.sl 131 x.fF.ai, .sl 139 x.fF.ak, .sl 166 x.fF.bI, .sl 34 x.ak]) x
 | .k137,x=>(λx:ax=>[.n .i64 x.bf, .n .i64 x.fN, .sl 137 x.aq]) x
 | .k139,x=>(λx:dz=>[.s x.fName, .n .i64 x.ag, .n .i64 x.af, .n .i64 x.az.bf, .n .i64 x.az.fN, .sl 137 x.az.aq]) x
 | .k147,x=>(λx:aM=>[.sl 34 x.ai, .n .i64 x.aC.ag, .n .i64 x.aC.af, .n .i64 x.aC.aj, .sl 34 x.aA, .n .i64 x.aF.ag, .n .i64 x.aF.af, .n .i64 x.aF.aj]) x
 | .k166,x=>(λx:ay=>[.n .i64 x.bN, .n .i64 x.aN, .n .i64 x.cV, .n .i64 x.fN, .n .i64 x.az.bf, .n .i64 x.az.fN, .sl 137 x.az.aq, .sl 166 x.aD, .sl 166 x.aJ, .sl 3 x.aK]) x
 | .k172,x=>(λx:Tree=>[.sl 131 x.fF.ai, .sl 139 x.fF.ak, .sl 166 x.fF.bI, .sl 3 x.fV.aR, .b x.fV.eE, .sl 174 x.OH]) x
 | .k174,x=>(λx:Bu=>[.sl 34 x.ajS, .n .i64 x.CK, .n .i64 x.fAt, .sl 3 x.aq, .n .i64 x.Ow, .b x.aae, .sl 3 x.FO.aP, .n .i64 x.FO.aF]) x
 | .k256,x=>(λx:aW=>[.n .i64 x.bB, .b x.fL]) x
 | .k260,x=>(λx:qv=>[.n .i64 x.fY, .n .i64 x.aP, .n .i64 x.aF]) x
 | .k313,x=>(λx:Machine=>[.sl 131 x.fF.ai, .sl 139 x.fF.ak, .sl 166 x.fF.bI, .sl 3 x.cW, .sl 3 x.ak, .sl 3 x.aP, .n .i64 x.aF]) x
 | .k331,x=>(λx:Span=>[.n .i64 x.ag, .n .i64 x.af]) x
 | .no,_=>[]
instance uni:sF:=⟨cw,λt=>inhK (ky t),λt=>szK (ky t),λt=>nQ (ky t)⟩
def Yd:(k:Ky)->aa AV->ah (C3 k)
 | .k3=>λcs=>((dQ (iQ .i64) oU) cs).map (λg:Int×Unit=>(g.1:Int))
 | .k4=>λcs=>((dQ Uj oU) cs).map (λg:Bool×Unit=>(g.1:Bool))
 | .k5=>λcs=>((dQ (iQ .u8) oU) cs).map (λg:Int×Unit=>(g.1:Int))
 | .k24=>λcs=>((dQ (jX 166) oU) cs).map (λg:(aa (cw 166))×Unit=>(g.1:aa ay))
 | .k26=>λcs=>((dQ (jX 131) (dQ (jX 139) (dQ (jX 166) oU))) cs).map (λg:(aa (cw 131))×(aa (cw 139))×(aa (cw 166))×Unit=>((aQ.mk g.1 g.2.1 g.2.2.1):aQ))
 | .k27=>λcs=>((dQ (jX 3) oU) cs).map (λg:(aa (cw 3))×Unit=>(g.1:aa Int))
 | .k29=>λcs=>((dQ (jX 3) (dQ Uj oU)) cs).map (λg:(aa (cw 3))×Bool×Unit=>((cz.mk g.1 g.2.1):cz))
 | .k30=>λcs=>((dQ (jX 34) oU) cs).map (λg:(aa (cw 34))×Unit=>(g.1:aa aH))
 | .k34=>λcs=>((dQ (iQ .i64) (dQ (iQ .i64) (dQ (iQ .i64) oU))) cs).map (λg:Int×Int×Int×Unit=>((aH.mk g.1 g.2.1 g.2.2.1):aH))
 | .k36=>λcs=>((dQ (iQ .i64) (dQ (iQ .i64) (dQ (iQ .i64) (dQ (jX 34) (dQ (iQ .i64) (dQ (iQ .i64) (dQ (iQ .i64) (dQ (jX 34) oU)))))))) cs).map (λg:Int×Int×Int×(aa (cw 34))×Int×Int×Int×(aa (cw 34))×Unit=>((bh.mk (aH.mk g.1 g.2.1 g.2.2.1) g.2.2.2.1 (aH.mk g.2.2.2.2.1 g.2.2.2.2.2.1 g.2.2.2.2.2.2.1) g.2.2.2.2.2.2.2.1):bh))
 | .k37=>λcs=>((dQ (iQ .i64) oU) cs).map (λg:Int×Unit=>(g.1:Int))
 | .k47=>λcs=>((dQ (jX 3) (dQ (iQ .i64) oU)) cs).map (λg:(aa (cw 3))×Int×Unit=>((aL.mk g.1 g.2.1):aL))
 | .k52=>λcs=>((dQ (jX 3) (dQ (jX 3) (dQ (jX 3) oU))) cs).map (λg:(aa (cw 3))×(aa (cw 3))×(aa (cw 3))×Unit=>((cY.mk g.1 g.2.1 g.2.2.1):cY))
 | .k56=>λcs=>((dQ (jX 3) (dQ (jX 3) (dQ (iQ .i64) oU))) cs).map (λg:(aa (cw 3))×(aa (cw 3))×Int×Unit=>((bD.mk g.1 g.2.1 g.2.2.1):bD))
 | .k84=>λcs=>((dQ (jX 47) (dQ (jX 117) oU)) cs).map (λg:(aa (cw 47))×(aa (cw 117))×Unit=>((jS.mk g.1 g.2.1):jS))
 | .k90=>λcs=>((dQ (iQ .i64) (dQ (iQ .i64) (dQ (jX 3) (dQ (jX 34) oU)))) cs).map (λg:Int×Int×(aa (cw 3))×(aa (cw 34))×Unit=>((Part.mk g.1 g.2.1 g.2.2.1 g.2.2.2.1):Part))
 | .k117=>λcs=>((dQ (iQ .i64) (dQ (iQ .i64) (dQ (jX 3) (dQ (jX 3) (dQ (iQ .i64) oU))))) cs).map (λg:Int×Int×(aa (cw 3))×(aa (cw 3))×Int×Unit=>((Cell.mk g.1 g.2.1 g.2.2.1 g.2.2.2.1 g.2.2.2.2.1):Cell))
 | .k128=>λcs=>((dQ (jX 34) (dQ (iQ .i64) (dQ (iQ .i64) (dQ (iQ .i64) (dQ (jX 34) (dQ (iQ .i64) (dQ (iQ .i64) (dQ (iQ .i64) oU)))))))) cs).map (λg:(aa (cw 34))×Int×Int×Int×(aa (cw 34))×Int×Int×Int×Unit=>((au.mk g.1 (aH.mk g.2.1 g.2.2.1 g.2.2.2.1) g.2.2.2.2.1 (aH.mk g.2.2.2.2.2.1 g.2.2.2.2.2.2.1 g.2.2.2.2.2.2.2.1)):au))
 | .k129=>λcs=>((dQ (iQ .i64) oU) cs).map (λg:Int×Unit=>(g.1:Int))
 | .k131=>λcs=>((dQ asS (dQ (iQ .i64) (dQ (iQ .i64) (dQ (iQ .i64) (dQ (iQ .i64) oU))))) cs).map (λg:ByteArray×Int×Int×Int×Int×Unit=>((aS.mk g.1 g.2.1 g.2.2.1 g.2.2.2.1 g.2.2.2.2.1):aS))
 | .k133=>λcs=>((dQ (jX 131) (dQ (jX 139) (dQ (jX 166) (dQ (jX 34) oU)))) cs).map (λg:(aa (cw 131))×(aa (cw 139))×(aa (cw 166))×(aa (cw 34))×Unit=>((Runner.mk (aQ.mk g.1 g.2.1 g.2.2.1) g.2.2.2.1):Runner))
 | .k137=>λcs=>((dQ (iQ .i64) (dQ (iQ .i64) (dQ (jX 137) oU))) cs).map (λg:Int×Int×(aa (cw 137))×Unit=>((ax.mk g.1 g.2.1 g.2.2.1):ax))
 | .k139=>λcs=>((dQ asS (dQ (iQ .i64) (dQ (iQ .i64) (dQ (iQ .i64) (dQ (iQ .i64) (dQ (jX 137) oU)))))) cs).map (λg:ByteArray×Int×Int×Int×Int×(aa (cw 137))×Unit=>((dz.mk g.1 g.2.1 g.2.2.1 (ax.mk g.2.2.2.1 g.2.2.2.2.1 g.2.2.2.2.2.1)):dz))
 | .k147=>λcs=>((dQ (jX 34) (dQ (iQ .i64) (dQ (iQ .i64) (dQ (iQ .i64) (dQ (jX 34) (dQ (iQ .i64) (dQ (iQ .i64) (dQ (iQ .i64) oU)))))))) cs).map (λg:(aa (cw 34))×Int×Int×Int×(aa (cw 34))×Int×Int×Int×Unit=>((aM.mk g.1 (aH.mk g.2.1 g.2.2.1 g.2.2.2.1) g.2.2.2.2.1 (aH.mk g.2.2.2.2.2.1 g.2.2.2.2.2.2.1 g.2.2.2.2.2.2.2.1)):aM))
 | .k166=>λcs=>((dQ (iQ .i64) (dQ (iQ .i64) (dQ (iQ .i64) (dQ (iQ .i64) (dQ (iQ .i64) (dQ (iQ .i64) (dQ (jX 137) (dQ (jX 166) (dQ (jX 166) (dQ (jX 3) oU)))))))))) cs).map (λg:Int×Int×Int×Int×Int×Int×(aa (cw 137))×(aa (cw 166))×(aa (cw 166))×(aa (cw 3))×Unit=>((ay.mk g.1 g.2.1 g.2.2.1 g.2.2.2.1 (ax.mk g.2.2.2.2.1 g.2.2.2.2.2.1 g.2.2.2.2.2.2.1) g.2.2.2.2.2.2.2.1 g.2.2.2.2.2.2.2.2.1 g.2.2.2.2.2.2.2.2.2.1):ay))
 | .k172=>λcs=>((dQ (jX 131) (dQ (jX 139) (dQ (jX 166) (dQ (jX 3) (dQ Uj (dQ (jX 174) oU)))))) cs).map (λg:(aa (cw 131))×(aa (cw 139))×(aa (cw 166))×(aa (cw 3))×Bool×(aa (cw 174))×Unit=>((Tree.mk (aQ.mk g.1 g.2.1 g.2.2.1) (cz.mk g.2.2.2.1 g.2.2.2.2.1) g.2.2.2.2.2.1):Tree))
 | .k174=>λcs=>((dQ (jX 34) (dQ (iQ .i64) (dQ (iQ .i64) (dQ (jX 3) (dQ (iQ .i64) (dQ Uj (dQ (jX 3) (dQ (iQ .i64) oU)))))))) cs).map (λg:(aa (cw 34))×Int×Int×(aa (cw 3))×Int×Bool×(aa (cw 3))×Int×Unit=>((Bu.mk g.1 g.2.1 g.2.2.1 g.2.2.2.1 g.2.2.2.2.1 g.2.2.2.2.2.1 (aL.mk g.2.2.2.2.2.2.1 g.2.2.2.2.2.2.2.1)):Bu))
 | .k256=>λcs=>((dQ (iQ .i64) (dQ Uj oU)) cs).map (λg:Int×Bool×Unit=>((aW.mk g.1 g.2.1):aW))
 | .k260=>λcs=>((dQ (iQ .i64) (dQ (iQ .i64) (dQ (iQ .i64) oU))) cs).map (λg:Int×Int×Int×Unit=>((qv.mk g.1 g.2.1 g.2.2.1):qv))
 | .k313=>λcs=>((dQ (jX 131) (dQ (jX 139) (dQ (jX 166) (dQ (jX 3) (dQ (jX 3) (dQ (jX 3) (dQ (iQ .i64) oU))))))) cs).map (λg:(aa (cw 131))×(aa (cw 139))×(aa (cw 166))×(aa (cw 3))×(aa (cw 3))×(aa (cw 3))×Int×Unit=>((Machine.mk (aQ.mk g.1 g.2.1 g.2.2.1) g.2.2.2.1 g.2.2.2.2.1 g.2.2.2.2.2.1 g.2.2.2.2.2.2.1):Machine))
 | .k331=>λcs=>((dQ (iQ .i64) (dQ (iQ .i64) oU)) cs).map (λg:Int×Int×Unit=>((Span.mk g.1 g.2.1):Span))
 | .no=>λ_=>V
def UL:(k:Ky)->Pk (Yd k) (nQ k)
 | .k3=>Pk.map (λg:Int×Unit=>(g.1:Int)) (.cons (.i .i64) .nil) (λ_=>rfl)
 | .k4=>Pk.map (λg:Bool×Unit=>(g.1:Bool)) (.cons .b .nil) (λ_=>rfl)
 | .k5=>Pk.map (λg:Int×Unit=>(g.1:Int)) (.cons (.i .u8) .nil) (λ_=>rfl)
 | .k24=>Pk.map (λg:(aa (cw 166))×Unit=>(g.1:aa ay)) (.cons (.l 166) .nil) (λ_=>rfl)
 | .k26=>Pk.map (λg:(aa (cw 131))×(aa (cw 139))×(aa (cw 166))×Unit=>((aQ.mk g.1 g.2.1 g.2.2.1):aQ)) (.cons (.l 131) (.cons (.l 139) (.cons (.l 166) .nil))) (λ_=>rfl)
 | .k27=>Pk.map (λg:(aa (cw 3))×Unit=>(g.1:aa Int)) (.cons (.l 3) .nil) (λ_=>rfl)
 | .k29=>Pk.map (λg:(aa (cw 3))×Bool×Unit=>((cz.mk g.1 g.2.1):cz)) (.cons (.l 3) (.cons .b .nil)) (λ_=>rfl)
 | .k30=>Pk.map (λg:(aa (cw 34))×Unit=>(g.1:aa aH)) (.cons (.l 34) .nil) (λ_=>rfl)
 | .k34=>Pk.map (λg:Int×Int×Int×Unit=>((aH.mk g.1 g.2.1 g.2.2.1):aH)) (.cons (.i .i64) (.cons (.i .i64) (.cons (.i .i64) .nil))) (λ_=>rfl)
 | .k36=>Pk.map (λg:Int×Int×Int×(aa (cw 34))×Int×Int×Int×(aa (cw 34))×Unit=>((bh.mk (aH.mk g.1 g.2.1 g.2.2.1) g.2.2.2.1 (aH.mk g.2.2.2.2.1 g.2.2.2.2.2.1 g.2.2.2.2.2.2.1) g.2.2.2.2.2.2.2.1):bh)) (.cons (.i .i64) (.cons (.i .i64) (.cons (.i .i64) (.cons (.l 34) (.cons (.i .i64) (.cons (.i .i64) (.cons (.i .i64) (.cons (.l 34) .nil)))))))) (λ_=>rfl)
 | .k37=>Pk.map (λg:Int×Unit=>(g.1:Int)) (.cons (.i .i64) .nil) (λ_=>rfl)
 | .k47=>Pk.map (λg:(aa (cw 3))×Int×Unit=>((aL.mk g.1 g.2.1):aL)) (.cons (.l 3) (.cons (.i .i64) .nil)) (λ_=>rfl)
 | .k52=>Pk.map (λg:(aa (cw 3))×(aa (cw 3))×(aa (cw 3))×Unit=>((cY.mk g.1 g.2.1 g.2.2.1):cY)) (.cons (.l 3) (.cons (.l 3) (.cons (.l 3) .nil))) (λ_=>rfl)
 | .k56=>Pk.map (λg:(aa (cw 3))×(aa (cw 3))×Int×Unit=>((bD.mk g.1 g.2.1 g.2.2.1):bD)) (.cons (.l 3) (.cons (.l 3) (.cons (.i .i64) .nil))) (λ_=>rfl)
 | .k84=>Pk.map (λg:(aa (cw 47))×(aa (cw 117))×Unit=>((jS.mk g.1 g.2.1):jS)) (.cons (.l 47) (.cons (.l 117) .nil)) (λ_=>rfl)
 | .k90=>Pk.map (λg:Int×Int×(aa (cw 3))×(aa (cw 34))×Unit=>((Part.mk g.1 g.2.1 g.2.2.1 g.2.2.2.1):Part)) (.cons (.i .i64) (.cons (.i .i64) (.cons (.l 3) (.cons (.l 34) .nil)))) (λ_=>rfl)
 | .k117=>Pk.map (λg:Int×Int×(aa (cw 3))×(aa (cw 3))×Int×Unit=>((Cell.mk g.1 g.2.1 g.2.2.1 g.2.2.2.1 g.2.2.2.2.1):Cell)) (.cons (.i .i64) (.cons (.i .i64) (.cons (.l 3) (.cons (.l 3) (.cons (.i .i64) .nil))))) (λ_=>rfl)
 | .k128=>Pk.map (λg:(aa (cw 34))×Int×Int×Int×(aa (cw 34))×Int×Int×Int×Unit=>((au.mk g.1 (aH.mk g.2.1 g.2.2.1 g.2.2.2.1) g.2.2.2.2.1 (aH.mk g.2.2.2.2.2.1 g.2.2.2.2.2.2.1 g.2.2.2.2.2.2.2.1)):au)) (.cons (.l 34) (.cons (.i .i64) (.cons (.i .i64) (.cons (.i .i64) (.cons (.l 34) (.cons (.i .i64) (.cons (.i .i64) (.cons (.i .i64) .nil)))))))) (λ_=>rfl)
 | .k129=>Pk.map (λg:Int×Unit=>(g.1:Int)) (.cons (.i .i64) .nil) (λ_=>rfl)
 | .k131=>Pk.map (λg:ByteArray×Int×Int×Int×Int×Unit=>((aS.mk g.1 g.2.1 g.2.2.1 g.2.2.2.1 g.2.2.2.2.1):aS)) (.cons .s (.cons (.i .i64) (.cons (.i .i64) (.cons (.i .i64) (.cons (.i .i64) .nil))))) (λ_=>rfl)
 | .k133=>Pk.map (λg:(aa (cw 131))×(aa (cw 139))×(aa (cw 166))×(aa (cw 34))×Unit=>((Runner.mk (aQ.mk g.1 g.2.1 g.2.2.1) g.2.2.2.1):Runner)) (.cons (.l 131) (.cons (.l 139) (.cons (.l 166) (.cons (.l 34) .nil)))) (λ_=>rfl)
 | .k137=>Pk.map (λg:Int×Int×(aa (cw 137))×Unit=>((ax.mk g.1 g.2.1 g.2.2.1):ax)) (.cons (.i .i64) (.cons (.i .i64) (.cons (.l 137) .nil))) (λ_=>rfl)
 | .k139=>Pk.map (λg:ByteArray×Int×Int×Int×Int×(aa (cw 137))×Unit=>((dz.mk g.1 g.2.1 g.2.2.1 (ax.mk g.2.2.2.1 g.2.2.2.2.1 g.2.2.2.2.2.1)):dz)) (.cons .s (.cons (.i .i64) (.cons (.i .i64) (.cons (.i .i64) (.cons (.i .i64) (.cons (.l 137) .nil)))))) (λ_=>rfl)
 | .k147=>Pk.map (λg:(aa (cw 34))×Int×Int×Int×(aa (cw 34))×Int×Int×Int×Unit=>((aM.mk g.1 (aH.mk g.2.1 g.2.2.1 g.2.2.2.1) g.2.2.2.2.1 (aH.mk g.2.2.2.2.2.1 g.2.2.2.2.2.2.1 g.2.2.2.2.2.2.2.1)):aM)) (.cons (.l 34) (.cons (.i .i64) (.cons (.i .i64) (.cons (.i .i64) (.cons (.l 34) (.cons (.i .i64) (.cons (.i .i64) (.cons (.i .i64) .nil)))))))) (λ_=>rfl)
 | .k166=>Pk.map (λg:Int×Int×Int×Int×Int×Int×(aa (cw 137))×(aa (cw 166))×(aa (cw 166))×(aa (cw 3))×Unit=>((ay.mk g.1 g.2.1 g.2.2.1 g.2.2.2.1 (ax.mk g.2.2.2.2.1 g.2.2.2.2.2.1 g.2.2.2.2.2.2.1) g.2.2.2.2.2.2.2.1 g.2.2.2.2.2.2.2.2.1 g.2.2.2.2.2.2.2.2.2.1):ay)) (.cons (.i .i64) (.cons (.i .i64) (.cons (.i .i64) (.cons (.i .i64) (.cons (.i .i64) (.cons (.i .i64) (.cons (.l 137) (.cons (.l 166) (.cons (.l 166) (.cons (.l 3) .nil)))))))))) (λ_=>rfl)
 | .k172=>Pk.map (λg:(aa (cw 131))×(aa (cw 139))×(aa (cw 166))×(aa (cw 3))×Bool×(aa (cw 174))×Unit=>((Tree.mk (aQ.mk g.1 g.2.1 g.2.2.1) (cz.mk g.2.2.2.1 g.2.2.2.2.1) g.2.2.2.2.2.1):Tree)) (.cons (.l 131) (.cons (.l 139) (.cons (.l 166) (.cons (.l 3) (.cons .b (.cons (.l 174) .nil)))))) (λ_=>rfl)
 | .k174=>Pk.map (λg:(aa (cw 34))×Int×Int×(aa (cw 3))×Int×Bool×(aa (cw 3))×Int×Unit=>((Bu.mk g.1 g.2.1 g.2.2.1 g.2.2.2.1 g.2.2.2.2.1 g.2.2.2.2.2.1 (aL.mk g.2.2.2.2.2.2.1 g.2.2.2.2.2.2.2.1)):Bu)) (.cons (.l 34) (.cons (.i .i64) (.cons (.i .i64) (.cons (.l 3) (.cons (.i .i64) (.cons .b (.cons (.l 3) (.cons (.i .i64) .nil)))))))) (λ_=>rfl)
 | .k256=>Pk.map (λg:Int×Bool×Unit=>((aW.mk g.1 g.2.1):aW)) (.cons (.i .i64) (.cons .b .nil)) (λ_=>rfl)
 | .k260=>Pk.map (λg:Int×Int×Int×Unit=>((qv.mk g.1 g.2.1 g.2.2.1):qv)) (.cons (.i .i64) (.cons (.i .i64) (.cons (.i .i64) .nil))) (λ_=>rfl)
 | .k313=>Pk.map (λg:(aa (cw 131))×(aa (cw 139))×(aa (cw 166))×(aa (cw 3))×(aa (cw 3))×(aa (cw 3))×Int×Unit=>((Machine.mk (aQ.mk g.1 g.2.1 g.2.2.1) g.2.2.2.1 g.2.2.2.2.1 g.2.2.2.2.2.1 g.2.2.2.2.2.2.1):Machine)) (.cons (.l 131) (.cons (.l 139) (.cons (.l 166) (.cons (.l 3) (.cons (.l 3) (.cons (.l 3) (.cons (.i .i64) .nil))))))) (λ_=>rfl)
 | .k331=>Pk.map (λg:Int×Int×Unit=>((Span.mk g.1 g.2.1):Span)) (.cons (.i .i64) (.cons (.i .i64) .nil)) (λ_=>rfl)
 | .no=> .none
def ahR:(k:Ky)->aa (C3 k)->ah (aa Int)
 | .k5,l=>Q l
 |_,_=>V
def Xj(l:aa Int):l.flatMap (λx=>[cn.n (dF:=cw) .u8 x])=l.map (.n .u8):=by
 induction l with
 |nil=>rfl
 |cons a l ih=>rw[xF,ih];rfl
def YX:(k:Ky)->(l:aa (C3 k))->(ns:aa Int)->ahR k l=Q ns->l.flatMap (nQ k)=ns.map (.n .u8)/\szK k=1:=by
 intro k l ns h;cases k<;>first|(cases h;done)|(cases h;exact⟨Xj _,rfl⟩)
def avc(k:Ky)(x:C3 k):(nQ k x).length=szK k:=by cases k<;>rfl
def av3(k:Ky)(x:C3 k):(nQ k x).all iF=true:=by cases k<;>rfl
def avB(k:Ky)(x:C3 k)(ρ:Gh):(nQ k x).map (cn.sub ρ)=nQ k x:=XP _ (by cases k<;>rfl) ρ
def avW(k:Ky)(x:C3 k)(n:Nat):∀c∈nQ k x,cQ n c:=YY _ (by cases k<;>rfl) n
instance uniL:n7 where
 len:=λt x=>avc (ky t) x
 one:=λt x=>av3 (ky t) x
 clo:=λt x ρ=>avB (ky t) x ρ
 rH:=λt x n=>avW (ky t) x n
 parse:=λt=>Yd (ky t)
 lP:=λt=>UL (ky t)
 afn:=λt=>ahR (ky t)
 u9:=λt=>YX (ky t)
 fz:=λf=>zj f 27||zj f 44||zj f 28||zj f 20||zj f 26||zj f 83||zj f 156||zj f 160||zj f 236||zj f 96||zj f 179||zj f 88||zj f 167||zj f 171||zj f 247
end Go.Proofs.YtnfljbehcffmcaaGreat
end
noncomputable section
namespace Go.Iv
variable [U:sF] [L:n7]
open Go Go.RowKit
def mq(f:Nat->Nat)(n:Nat):AV->AV:=Nat.rec (λd=>match d with
 | .own i=> .own (f i)
 | .ptr i o=> .ptr (f i) o
 | .ra i t m o=> .ra (f i) t m o
 |d=>d) (λ_ ih d=>match d with
 | .own i=> .own (f i)
 | .ptr i o=> .ptr (f i) o
 | .ra i t m o=> .ra (f i) t m o
 | .agg cs=> .agg (cs.map ih)
 | .jE cs=> .jE (cs.map ih)
 | .fn g cs=> .fn g (cs.map ih)
 | .fp cs=> .fp (cs.map ih)
 |d=>d) n
def ji{f:Nat->Nat}{ρ ρ':Gh}{p:Nat->Bool}(hp:∀i,p i=G->ρ'.v (f i)=ρ.v i/\ρ'.b (f i)=ρ.b i):∀(n:Nat) {d:AV},lX p n d=G->(mq f n d).sub ρ'=d.sub ρ
 |0,d,h=>by
  cases d with
  |lit v=>show cn.sub ρ' (.lit v)=_;rw[bT,bT]
  |sl t l=>show cn.sub ρ' (.sl t l)=_;rw[gO,gO]
  |rp v k=>show cn.sub ρ' (.rp v k)=_;simp only[cn.sub]
  |own i=>show cn.sub ρ' (.own (f i))=_;rw[eC,eC,(hp _ h).1]
  |ptr i o=>show cn.sub ρ' (.ptr (f i) o)=_;rw[fM,fM,(hp _ h).2]
  |ra i t m o=>show cn.sub ρ' (.ra (f i) t m o)=_;rw[jK,jK,(hp _ h).1]
  |_=>cases h
 |n+1,d,h=>by
  have hL:∀{cs:aa AV},cs.all (lX p n)=G->(cs.map (mq f n)).map (cn.sub ρ')=cs.map (cn.sub ρ):=λ{cs} h=>by
   rw[yp];exact z7 λc hc=>ji hp n (zA.1 h c hc)
  cases d with
  |lit v=>show cn.sub ρ' (.lit v)=_;rw[bT,bT]
  |sl t l=>show cn.sub ρ' (.sl t l)=_;rw[gO,gO]
  |rp v k=>show cn.sub ρ' (.rp v k)=_;simp only[cn.sub]
  |own i=>show cn.sub ρ' (.own (f i))=_;rw[eC,eC,(hp _ h).1]
  |ptr i o=>show cn.sub ρ' (.ptr (f i) o)=_;rw[fM,fM,(hp _ h).2]
  |ra i t m o=>show cn.sub ρ' (.ra (f i) t m o)=_;rw[jK,jK,(hp _ h).1]
  |fp cs=>show cn.sub ρ' (.fp (List.map (mq f n) cs))=_;rw[mB,mB,hL h]
  |agg cs=>show cn.sub ρ' (.agg (List.map (mq f n) cs))=_;rw[fy,fy,hL h]
  |jE cs=>show cn.sub ρ' (.jE (List.map (mq f n) cs))=_;rw[kI,kI,hL h]
  |fn g cs=>show cn.sub ρ' (.fn g (List.map (mq f n) cs))=_;rw[tc,tc,hL h]
def lQ{f:Nat->Nat}{p:Nat->Bool}{m:Nat}(hp:∀i,p i=G->f i<m):∀(n:Nat) {d:AV},lX p n d=G->cQ m (mq f n d)
 |0,d,h=>by
  cases d<;>first|exact .lit _|exact .sl _ _|exact .rp _ _|exact .own _ (hp _ h)|exact .ptr _ _ (hp _ h)|exact .ra _ _ _ _ (hp _ h)|(cases h;done)
 |n+1,d,h=>by
  have hL:∀{cs:aa AV},cs.all (lX p n)=G->∀c∈cs.map (mq f n),cQ m c:=λ{cs} h c hc=>by
   obtain⟨c',h1,rfl⟩:=zN.1 hc;exact lQ hp n (zA.1 h c' h1)
  cases d<;>first|exact .lit _|exact .sl _ _|exact .rp _ _|exact .own _ (hp _ h)|exact .ptr _ _ (hp _ h)|exact .ra _ _ _ _ (hp _ h)|exact .agg _ (hL h)|exact .jE _ (hL h)|exact .fn _ _ (hL h)|exact .fp _ (hL h)
def Mn(f:Nat->Nat):IR->IR
 | .box T cs=> .box T (cs.map (mq f 4))
 |r=>r
def nq(l:aa Nat)(i:Nat):Nat:=List.rec 0 (λj _ ih=>match zj j i with
 |true=>0
 |false=>ih+1) l
def uL:∀{l:aa Nat} {i:Nat},i∈l->l[nq l i]? =Q i
 |j::l,i,h=>by
  show (j::l)[match zj j i with
   |true=>0
   |false=>nq l i+1]? =Q i
  cases hb:zj j i with
  |true=>have:=gI hb;subst this;rfl
  |false=>
   have hne:i≠j:=λe=>by subst e;rw[Nat.beq_refl]at hb;cases hb
   exact uL ((zF.1 h).resolve_left hne)
def Mh(ts:aa Nat)(E:ET):Env:=ts.filterMap λt=>(cP E t).map λd=>(t,d)
def TQ{E:ET}:∀(ts:aa Nat) t d,Env.get (Mh ts E) t=Q d->cP E t=Q d:=λts=>by
 induction ts with
 |nil=>intro t d h;cases h
 |cons u ts ih=>
  intro t d h;unfold Mh at h;rw[xD]at h;cases hu:cP E u with
  |none=>rw[hu]at h;exact ih t d h
  |some x=>
   rw[hu]at h;by_cases hut:u=t
   ·subst hut;have h:Env.get ((u,x)::_) u=Q d:=h;rw[Env.fq]at h;rw[hu,h]
   ·have h:Env.get ((u,x)::_) t=Q d:=h;rw[Env.dX _ _ hut]at h;exact ih t d h
def pick(i:Nat)(R:aZ):ah ((Nat×IR)×aZ):=List.rec V (λp R ih=>match zj p.1 i with
 |true=>Q (p,R)
 |false=>match ih with
  |some x=>Q (x.1,p::x.2)
  |none=>V) R
def GA{i:Nat}:∀{R:aZ} {x},pick i R=Q x->List.Perm R (x.1::x.2)
 |[],x,h=>by cases h
 |p::R,x,h=>by
  have h:(match zj p.1 i with
   |true=>Q (p,R)
   |false=>match pick i R with
    |some x=>Q (x.1,p::x.2)
    |none=>V)=Q x:=h
  split at h
  ·cases h;exact .refl _
  ·split at h
   ·rename_i y hy;cases h;exact((GA hy).cons p).trans (.swap _ _ _)
   ·cases h
def ow(ns:aa Nat):aZ->aZ×aZ:=List.rec (λR=>([],R)) (λi _ ih R=>match pick i R with
 |some x=>(x.1::(ih x.2).1,(ih x.2).2)
 |none=>ih R) ns
def nM:∀(ns:aa Nat) (R:aZ),List.Perm R ((ow ns R).1++(ow ns R).2)
 |[],R=> .refl _
 |i::ns,R=>by
  show List.Perm R ((match pick i R with
   |some x=>(x.1::(ow ns x.2).1,(ow ns x.2).2)
   |none=>ow ns R).1++(match pick i R with
   |some x=>(x.1::(ow ns x.2).1,(ow ns x.2).2)
   |none=>ow ns R).2)
  split
  ·rename_i x hx;exact(GA hx).trans ((nM ns x.2).cons _)
  ·exact nM ns R
def upto(n:Nat):aa Nat:=Nat.rec [] (λi ih=>ih++[i]) n
def Za{n i:Nat}(h:i<n):i∈upto n:=by
 induction n with
 |zero=>omega
 |succ n ih=>
  show i∈upto n++[n];by_cases hi:i=n
  ·subst hi;simp
  ·exact yH _ (ih (by omega))
def Wv{n i:Nat}(h:i<n):(upto n)[i]? =Q i:=by
 induction n with
 |zero=>omega
 |succ n ih=>
  show (upto n++[n])[i]? =Q i;have hl:∀n,(upto n).length=n:=λn=>by
   induction n with
   |zero=>rfl
   |succ n ih=>show (upto n++[n]).length=n+1;simp[ih]
  by_cases hi:i=n
  ·subst hi;rw[wX (by rw[hl];exact zI _),hl,xU];rfl
  ·rw[List.getElem?_append_left (by rw[hl];omega)];exact ih (by omega)
def uz:∀n,(upto n).length=n:=λn=>by
 induction n with
 |zero=>rfl
 |succ n ih=>show (upto n++[n]).length=n+1;simp[ih]
def nU(n0:Nat)(dr rest:aa Nat)(i:Nat):Nat:=match dJ i dr with
 |true=>n0+nq rest i
 |false=>nq (upto n0++rest) i
def WO(n0:Nat)(dr:aa Nat)(l:Env)(R:aZ)(rest:aa Nat):ah St:=match l.all (λq=>lX (λi=>dJ i rest|| !dJ i dr&&zK i n0) 4 q.2)&&R.all (λq=>(dJ q.1 rest|| !dJ q.1 dr&&zK q.1 n0)&&match q.2 with
  | .box _ cs=>cs.all (lX (λi=>dJ i rest|| !dJ i dr&&zK i n0) 4)
  | .row _ _=>G)with
 |true=>Q ⟨am1 (l.map λq=>(q.1,mq (nU n0 dr rest) 4 q.2)),R.map λq=>(nU n0 dr rest q.1,Mn (nU n0 dr rest) q.2),n0+rest.length⟩
 |false=>V
def Zx(n0:Nat)(dr:aa Nat)(l:Env)(R:aZ):ah St:=WO n0 dr l R ((R.map λq=>q.1).filter λi=>dJ i dr|| !zK i n0)
def canon(n0:Nat)(dr:aa Nat)(ts:aa Nat)(s:St):ah St:=Zx n0 dr (Mh ts s.E) (ow ((upto n0).filter (λi=> !dJ i dr)++reach s.R 3 ((Mh ts s.E).flatMap λq=>oP 4 q.2)) s.R).1
def Wx{n0 n:Nat}{dr ts:aa Nat}{C:Cg}{s s':St}{a:Act}{w:World}(hC:C.n=n0)(h:canon n0 dr ts s=Q s')(hm:Mt C n s a w):Mt C n s' a w:=by
 unfold canon Zx at h;generalize hl:Mh ts s.E=l at h;generalize hR:(ow ((upto n0).filter (λi=> !dJ i dr)++reach s.R 3 (l.flatMap λq=>oP 4 q.2)) s.R)=R2 at h;have hperm:List.Perm s.R (R2.1++R2.2):=by rw[<-hR];exact nM _ _
 obtain⟨R,Rr⟩:=R2;dsimp only at h hperm;generalize hns:((R.map λq=>q.1).filter λi=>dJ i dr|| !zK i n0)=rest at h;unfold WO at h;split at h
 case h_2=>cases h
 rename_i hb;cases h;rw[zn]at hb;obtain⟨hb1,hb2⟩:=hb;obtain⟨E,hh,hE,hR0,ρ,hag,hsim⟩:=hm
 let ρ':Gh:=⟨λj=>ρ.v ((upto n0++rest).getD j 0),λj=>ρ.b ((upto n0++rest).getD j 0)⟩
 have hget:∀i,(dJ i rest|| !dJ i dr&&zK i n0)=G->(upto n0++rest)[nU n0 dr rest i]? =Q i:=λi hi=>by
  unfold nU;cases hd:dJ i dr with
  |true=>
   rw[hd]at hi;have hi:dJ i rest=G:=by simpa using hi
   show (upto n0++rest)[n0+nq rest i]? =Q i;rw[wX (by rw[uz];omega),uz,Nat.add_sub_cancel_left];exact uL (gp.1 hi)
  |false=>
   rw[hd]at hi;show (upto n0++rest)[nq (upto n0++rest) i]? =Q i;refine uL ?_;rw[yQ]at hi;rcases hi with hi|hi
   ·exact yI _ (gp.1 hi)
   ·refine yH _ (Za ?_);simpa [yz]using hi
 have hp:∀i,(dJ i rest|| !dJ i dr&&zK i n0)=G->ρ'.v (nU n0 dr rest i)=ρ.v i/\ρ'.b (nU n0 dr rest i)=ρ.b i:=λi hi=>by
  have e:(upto n0++rest).getD (nU n0 dr rest i) 0=i:=by rw[wA,hget i hi];rfl
  exact⟨by show ρ.v ((upto n0++rest).getD (nU n0 dr rest i) 0)=_;rw[e],by show ρ.b ((upto n0++rest).getD (nU n0 dr rest i) 0)=_;rw[e]⟩
 have hll:(upto n0++rest).length=n0+rest.length:=by rw[zq,uz]
 have hlt:∀i,(dJ i rest|| !dJ i dr&&zK i n0)=G->nU n0 dr rest i<n0+rest.length:=λi hi=>by
  rw[<-hll];exact(ya.1 (hget i hi)).1
 have hres:aZ.res ρ' (R.map λq=>(nU n0 dr rest q.1,Mn (nU n0 dr rest) q.2))=aZ.res ρ R:=by
  unfold aZ.res;rw[yp];refine z7 λq hq=> ?_;have hbq:=zA.1 hb2 q hq;rw[zn]at hbq;have hm:=hbq.1;have hbq:=hbq.2;obtain⟨i,r⟩:=q;cases r with
  |row t l=>show cK.row (ρ'.v (nU n0 dr rest i)) t l= .row (ρ.v i) t l;rw[(hp i hm).1]
  |box T cs=>
   show cK.box (ρ'.b (nU n0 dr rest i)) T ((cs.map (mq (nU n0 dr rest) 4)).map (cn.sub ρ'))= .box (ρ.b i) T (cs.map (cn.sub ρ));rw[(hp i hm).2,yp]
   congr 1
   exact z7 λc hc=>ji hp 4 (zA.1 hbq c hc)
 have hp2:List.Perm (aZ.res ρ s.R) (aZ.res ρ (R++Rr)):=hperm.map _;have hsim2:=hsim.perm hp2;rw[kM]at hsim2;have hless:=hsim2.less (List.sublist_append_left _ _);refine⟨l.map λq=>(q.1,mq (nU n0 dr rest) 4 q.2),vR _,λq hq=> ?_,λq hq=> ?_,ρ',⟨λi hi=> ?_,?_⟩,?_⟩
 ·obtain⟨q',h1,rfl⟩:=zN.1 hq;exact lQ hlt 4 (zA.1 hb1 q' h1)
 ·obtain⟨q',h1,rfl⟩:=zN.1 hq;have hbq:=zA.1 hb2 q' h1;rw[zn]at hbq;have hm:=hbq.1;have hbq:=hbq.2;refine⟨hlt _ hm,?_⟩;obtain⟨i,r⟩:=q';cases r with
  |row t l=>trivial
  |box T cs=>
   intro c hc;obtain⟨c',h3,rfl⟩:=zN.1 hc;exact lQ hlt 4 (zA.1 hbq c' h3)
 ·rw[hC]at hi;have e:(upto n0++rest).getD i 0=i:=by
   rw[wA,List.getElem?_append_left (by rw[uz];exact hi),Wv hi];rfl
  have:=hag.1 i (by rw[hC];exact hi);exact⟨by show C.ρ.v i=ρ.v ((upto n0++rest).getD i 0);rw[e];exact this.1,by show C.ρ.b i=ρ.b ((upto n0++rest).getD i 0);rw[e];exact this.2⟩
 ·rw[hC];show n0<=n0+rest.length;exact Nat.le_add_right _ _
 ·rw[hres];refine⟨hless.defers,hless.size,λt av ht=> ?_,hless.good⟩;have e:∀(l:Env),(∀q∈l,lX (λi=>dJ i rest|| !dJ i dr&&zK i n0) 4 q.2=G)->Env.sub ρ' (l.map λq=>(q.1,mq (nU n0 dr rest) 4 q.2))=Env.sub ρ l:=λl hl=>by
   unfold Env.sub;rw[yp];exact z7 λq hq=>by
    show (q.1,(mq (nU n0 dr rest) 4 q.2).sub ρ')=_;rw[ji hp 4 (hl q hq)]
  rw[e l (λq hq=>zA.1 hb1 q hq),Env.fo]at ht;obtain⟨d,hd,rfl⟩:=zu.1 ht;rw[<-hl]at hd;exact hless.slots t _ (by rw[Env.fo,hh t d (TQ ts t d hd)];rfl)
def rdC{γ:Type}(n0:Nat)(dr ts:aa Nat)(rd:St->ah γ)(s:St):ah γ:=(canon n0 dr ts s).bind rd
def al9{γ:Type}{n0 n:Nat}{dr ts:aa Nat}{rd:St->ah γ}{pat:γ->St}(h:rT n0 n rd pat):rT n0 n (rdC n0 dr ts rd) pat:=λC s p a w hC hr hm=>by
 obtain⟨s',h1,h2⟩:=zx.1 hr;exact h C s' p a w hC h2 (Wx hC h1 hm)
def sL{β:Type}(f:β->β)(j:Nat)(l:aa β):aa β:=List.rec (λ_=>[]) (λb l ih j=>match zj j 0 with
 |true=>f b::l
 |false=>b::ih (j-1)) l j
def vH{β γ:Type}{f:β->β}{g g':β->γ}:∀(l:aa β) (j:Nat),(∀b∈l,g (f b)=g' b)->(∀b∈l,g b=g' b)->(sL f j l).map g=l.map g'
 |[],_,_,_=>rfl
 |b::l,j,h1,h2=>by
  show (match zj j 0 with
   |true=>f b::l
   |false=>b::sL f (j-1) l).map g=_
  split
  ·rw[yl,yl,h1 b zo,z7 λc hc=>h2 c (zH _ hc)]
  ·rw[yl,yl,h2 b zo,vH l (j-1) (λc hc=>h1 c (zH _ hc)) (λc hc=>h2 c (zH _ hc))]
def ua{β:Type}{f:β->β}{p:β->Prop}:∀(l:aa β) (j:Nat),(∀b∈l,p (f b))->(∀b∈l,p b)->∀b∈sL f j l,p b
 |[],_,_,_,b,hb=>by cases hb
 |c::l,j,h1,h2,b,hb=>by
  have hb:b∈(match zj j 0 with
   |true=>f c::l
   |false=>c::sL f (j-1) l):=hb
  split at hb
  ·rcases zF.1 hb with rfl|hb
   ·exact h1 c zo
   ·exact h2 b (zH _ hb)
  ·rcases zF.1 hb with rfl|hb
   ·exact h2 b zo
   ·exact ua l (j-1) (λc hc=>h1 c (zH _ hc)) (λc hc=>h2 c (zH _ hc)) b hb
def tV(nx:Nat)(p:aa Nat):AV->AV:=List.rec (λd=>match d with
 | .lit (.slice V 0 0)=> .own nx
 |d=>d) (λj _ ih d=>match d with
 | .agg cs=> .agg (sL ih j cs)
 | .jE cs=> .jE (sL ih j cs)
 |d=>d) p
def uU{ρ:Gh}{nx:Nat}:∀(p:aa Nat) (d:AV),cQ nx d->(tV nx p d).sub (ρ.gD nx (.slice V 0 0))=d.sub ρ
 |[],d,h=>by
  show cn.sub _ (match d with
   | .lit (.slice V 0 0)=> .own nx
   |d=>d)=_
  split
  ·rw[eC,bT];simp[Gh.gD]
  ·exact(h.sub (.gD ρ nx _)).symm
 |j::p,d,h=>by
  show cn.sub _ (match d with
   | .agg cs=> .agg (sL (tV nx p) j cs)
   | .jE cs=> .jE (sL (tV nx p) j cs)
   |d=>d)=_
  split
  ·rw[fy,fy,vH _ j (λb hb=>uU p b (h.oO b hb)) (λb hb=>((h.oO b hb).sub (.gD ρ nx _)).symm)]
  ·rw[kI,kI,vH _ j (λb hb=>uU p b (h.Fy b hb)) (λb hb=>((h.Fy b hb).sub (.gD ρ nx _)).symm)]
  ·exact(h.sub (.gD ρ nx _)).symm
def vB{nx:Nat}:∀(p:aa Nat) (d:AV),cQ nx d->cQ (nx+1) (tV nx p d)
 |[],d,h=>by
  show cQ (nx+1) (match d with
   | .lit (.slice V 0 0)=> .own nx
   |d=>d)
  split
  ·exact .own _ (zC _)
  ·exact h.mono (yB _)
 |j::p,d,h=>by
  show cQ (nx+1) (match d with
   | .agg cs=> .agg (sL (tV nx p) j cs)
   | .jE cs=> .jE (sL (tV nx p) j cs)
   |d=>d)
  split
  ·exact .agg _ (ua _ j (λb hb=>vB p b (h.oO b hb)) (λb hb=>(h.oO b hb).mono (yB _)))
  ·exact .jE _ (ua _ j (λb hb=>vB p b (h.Fy b hb)) (λb hb=>(h.Fy b hb).mono (yB _)))
  ·exact h.mono (yB _)
def ajQ(t:Nat)(p:aa Nat)(e:Nat)(s:St):St:=match cP s.E t with
 |some d=>⟨mj t (tV s.nx p d) s.E,(s.nx, .row e [])::s.R,s.nx+1⟩
 |none=>s
def oR(id j:Nat)(p:aa Nat)(e:Nat)(s:St):St:=match gz s.R id with
 |some (.box T cs)=>⟨s.E,(s.nx, .row e [])::tK id (.box T (sL (tV s.nx p) j cs)) s.R,s.nx+1⟩
 |_=>s
def R4{ρ:Gh}{R:aZ}{nx e:Nat}:aZ.res (ρ.gD nx (.slice V 0 0)) ((nx,IR.row e [])::R)=cK.row (.slice V 0 0) e []::aZ.res (ρ.gD nx (.slice V 0 0)) R:=by
 show cK.row ((ρ.gD nx (.slice V 0 0)).v nx) e []::_=_;simp[Gh.gD,aZ.res]
def abq{C:Cg}{n t e:Nat}{p:aa Nat}{s:St}{a:Act}{w:World}(hm:Mt C n s a w):Mt C n (ajQ t p e s) a w:=by
 unfold ajQ;split
 case h_2=>exact hm
 rename_i d hg;obtain⟨E,hh,hE,hR,ρ,hag,hsim⟩:=hm;have ht:=Pm (C:=C.C) V e hsim.good;have hs:=hsim.tr ht;have hs1:E.sub ρ=E.sub (ρ.gD s.nx (.slice V 0 0)):=hE.sub (.gD ρ s.nx _);have hr1:aZ.res ρ s.R=aZ.res (ρ.gD s.nx (.slice V 0 0)) s.R:=hR.res (.gD ρ s.nx _);have hd:cQ s.nx d:=hE _ (Env.get_mem (hh t d hg));refine⟨(t,tV s.nx p d)::E,hh.put t _,Env.uT (hE.mono (yB _)) (vB p d hd),λq hq=> ?_,ρ.gD s.nx (.slice V 0 0),⟨hag.1.trans (.gD ρ s.nx _) hag.2,zJ hag.2 (yB _)⟩,?_⟩
 ·rcases zF.1 hq with rfl|hq
  ·exact⟨zC _,trivial⟩
  ·exact(hR.mono (yB _)) q hq
 ·show tM C.C n ((t,cn.sub _ (tV s.nx p d))::E.sub _) (aZ.res _ ((s.nx,IR.row e [])::s.R)) a w;rw[R4,<-hr1,<-hs1,uU p d hd];refine⟨hs.defers,hs.size,λu av hu=> ?_,hs.good⟩;by_cases htu:t=u
  ·subst htu;rw[Env.fq]at hu;cases hu;exact hs.slots t _ (by rw[Env.fo,hh t _ hg,yx])
  ·rw[Env.dX _ _ htu]at hu;exact hs.slots u av hu
def adX{C:Cg}{n id j e:Nat}{p:aa Nat}{s:St}{a:Act}{w:World}(hm:Mt C n s a w):Mt C n (oR id j p e s) a w:=by
 unfold oR;split
 case h_2=>exact hm
 rename_i T cs hg;obtain⟨E,hh,hE,hR,ρ,hag,hsim⟩:=hm;have ht:=Pm (C:=C.C) V e hsim.good;have hs:=hsim.tr ht;have hs1:E.sub ρ=E.sub (ρ.gD s.nx (.slice V 0 0)):=hE.sub (.gD ρ s.nx _);have hr1:aZ.res ρ s.R=aZ.res (ρ.gD s.nx (.slice V 0 0)) s.R:=hR.res (.gD ρ s.nx _);obtain⟨hid,hcs⟩:=EU hg hR;have hr2:aZ.res (ρ.gD s.nx (.slice V 0 0)) (tK id (.box T (sL (tV s.nx p) j cs)) s.R)=aZ.res ρ s.R:=by
  obtain⟨i,h1,h2,_⟩:=eV hg;rw[h2,vk,<-hr1];have e1:IR.res (ρ.gD s.nx (.slice V 0 0)) id (.box T (sL (tV s.nx p) j cs))=IR.res ρ id (.box T cs):=by
   show cK.box ((ρ.gD s.nx (.slice V 0 0)).b id) T ((sL (tV s.nx p) j cs).map (cn.sub _))= .box (ρ.b id) T (cs.map (cn.sub ρ));rw[vH cs j (λb hb=>uU p b (hcs b hb)) (λb hb=>((hcs b hb).sub (.gD ρ s.nx _)).symm)];rfl
  rw[e1];have h3:=ic (ρ:=ρ) h1;exact List.ext_getElem? λk=>by
   by_cases hk:i=k
   ·subst hk;rw[List.getElem?_set_self (ya.1 h3).1,h3]
   ·rw[List.getElem?_set_ne hk]
 refine⟨E,hh,hE.mono (yB _),λq hq=> ?_,ρ.gD s.nx (.slice V 0 0),⟨hag.1.trans (.gD ρ s.nx _) hag.2,zJ hag.2 (yB _)⟩,?_⟩
 ·rcases zF.1 hq with rfl|hq
  ·exact⟨zC _,trivial⟩
  ·refine qC hg (hR.mono (yB _)) ?_ q hq;exact ua cs j (λb hb=>vB p b (hcs b hb)) (λb hb=>(hcs b hb).mono (yB _))
 ·show tM C.C n (E.sub _) (aZ.res _ ((s.nx,IR.row e [])::tK id (.box T (sL (tV s.nx p) j cs)) s.R)) a w;rw[R4,hr2,<-hs1];exact hs
def atA(p:aa Nat):AV->ah Nat:=List.rec (λd=>match d with
 | .own i=>Q i
 |_=>V) (λj _ ih d=>match d with
 | .agg cs=>(cs[j]?).bind ih
 | .jE cs=>(cs[j]?).bind ih
 |_=>V) p
def asj(t:Nat)(p:aa Nat)(s:St):St:=match cP s.E t with
 |some d=>match atA p d with
  |some i=>s.JO i
  |none=>s
 |none=>s
def apP(id j:Nat)(p:aa Nat)(s:St):St:=match gz s.R id with
 |some (.box _ cs)=>match (cs[j]?).bind (atA p)with
  |some i=>s.JO i
  |none=>s
 |_=>s
def rdF{γ:Type}(f:St->St)(rd:St->ah γ)(s:St):ah γ:=rd (f s)
def cU(f:St->St):Prop:=∀(C:Cg) n s a w,Mt C n s a w->Mt C n (f s) a w
def cU.s(t:Nat)(p:aa Nat)(e:Nat):cU (ajQ t p e):=λ_ _ _ _ _ h=>abq h
def cU.c(id j:Nat)(p:aa Nat)(e:Nat):cU (oR id j p e):=λ_ _ _ _ _ h=>adX h
def cU.fs(t:Nat)(p:aa Nat):cU (asj t p):=λ_ _ _ _ _ h=>by
 unfold asj;split
 ·split
  ·exact h.JO _
  ·exact h
 ·exact h
def cU.fc(id j:Nat)(p:aa Nat):cU (apP id j p):=λ_ _ _ _ _ h=>by
 unfold apP;split
 ·split
  ·exact h.JO _
  ·exact h
 ·exact h
def aje{γ:Type}{n0 n:Nat}{f:St->St}{rd:St->ah γ}{pat:γ->St}(hf:cU f)(h:rT n0 n rd pat):rT n0 n (rdF f rd) pat:=λC s p a w hC hr hm=>h C (f s) p a w hC hr (hf C n s a w hm)
end Go.Iv
end
noncomputable section
namespace Go.Iv
variable [U:sF] [L:n7]
open Go Go.RowKit
section
variable {P:Program} {f:FuncId} {args:aa AV} {σp σr:aa cK} {Φ:AV->aa cK->Prop}
def DB{σ:aa cK}{w:World}{A:Nat->Prop}(hd:Hd A σ w)(hnd:(bH σ).Nodup):Good ⟨w,A,bH σ⟩ σ w:=
 have hal:∀b,A b->al ⟨w,A,bH σ⟩ σ b:=λb hA=>⟨.inl hA,λhx=>hd.2 b hx hA⟩
 ⟨Kp.refl _ _,λr hr=>(hd.1 r hr).mono (λb _ hA=>⟨hal b hA,rfl⟩) (λ_ _=>rfl),hnd,λb hb=> .inl hb⟩
def Kz{σ σ':aa cK}{X:aa Nat}{C:Cx}{w w':World}(h:Tr C X σ w σ' w')(hX:∀b∈X,b∈bH σ):Tr C (bH σ) σ w σ' w':=
 ⟨h.good,⟨h.kp.os,h.kp.tape,h.kp.output,h.kp.size,λk hk hn=>h.kp.block k hk λhx=>hn (hX k hx)⟩,λb hb hA=>⟨(h.al b hb hA).1,hA.2⟩⟩
def Fn.aee(h:Fn P f args σp Φ):Fn P f args (σp++σr) (λa s=>∃so,Φ a so/\s=so++σr):=λw A vs hrel hd0 hnd0=>by
 have hg:=DB hd0 hnd0;generalize hC:(⟨w,A,bH (σp++σr)⟩:Cx)=C at hg ⊢;have hdis:=hg.F9;rw[gT]at hdis;obtain⟨d1,d2,d3⟩:=yG.1 hdis;have hlt:∀b∈bH (σp++σr),b<w.heap.size:=λb hb=>by
  obtain⟨s,h1,h2⟩:=bS.1 hb;exact(hg.res s h1).lt h2
 have hal0:∀b,A b->al C (σp++σr) b:=λb hA=>by
  subst hC;exact⟨.inl hA,λhx=>hd0.2 b hx hA⟩
 have hd:Hd (al C (σp++σr)) σp w:=⟨λr hr=>hg.res r (yH _ hr),λb hb hA=>hA.2 (bM.2 (.inl hb))⟩;refine(h w (al C (σp++σr)) vs (hrel.mono λb _ hA=>⟨hal0 b hA,rfl⟩) hd d1).mono λe w' ⟨v,av,σo,q1,q2,q3,q4⟩=> ?_;have hown:∀b∈bH σo,b∈bH σp\/w.heap.size<=b:=q3.good.own;have hsub:∀b,al ⟨w,al C (σp++σr),bH σp⟩ σo b->al C (σo++σr) b:=λb hb=>by
  obtain⟨hb1,hb2⟩:=hb;rcases hb1 with hb1|hb1|hb1
  ·exact⟨hb1.1,λhx=>(bM.1 hx).elim hb2 (λh=>hb1.2 (bM.2 (.inr h)))⟩
  ·have hbp:b∈bH σp:=hb1;refine⟨?_,λhx=>(bM.1 hx).elim hb2 (λh=>d3 b hbp b h rfl)⟩;rcases hg.own b (bM.2 (.inl hbp))with h|h
   ·exact .inr (.inl h)
   ·exact .inr (.inr h)
  ·have hbw:w.heap.size<=b:=hb1;exact⟨.inr (.inr (zJ hg.kept.size hbw)),λhx=>(bM.1 hx).elim hb2 (λh=>by have:=hlt b (bM.2 (.inr h));omega)⟩
 have ht:=Cy hg (λb hA _=> .inl hA) q3 (λr hr=>(q3.good.res r hr).mono (λb hb hA=>⟨hsub b hA,rfl⟩) (λ_ _=>rfl));exact⟨v,av,σo++σr,q1,⟨σo,q2,rfl⟩,Kz ht (λb hb=>bM.2 (.inl hb)),q4.mono λb hb hA=>⟨hsub b hA,rfl⟩⟩
def Fn.awP{args':aa AV}{σr:aa cK}(h:Fn P f args' [] Φ)(hv:∀(A:Nat->Prop) (w:World) (us:aa Value),Hd A σr w->bL A w args us->bL (λb=>A b\/b∈bH σr) w args' us)
  (hc:∀av σo,Φ av σo->Cl av/\∀r∈σo,ClR r):Fn P f args σr (λa s=>∃so,Φ a so/\s=so++σr):=λw A vs hrel hd0 hnd0=>by
 have hg:=DB hd0 hnd0;generalize hC:(⟨w,A,bH σr⟩:Cx)=C at hg ⊢;have hal0:∀b,A b->al C σr b:=λb hA=>by
  subst hC;exact⟨.inl hA,λhx=>hd0.2 b hx hA⟩
 have h3:=hv (al C σr) w vs hg.hd (hrel.mono λb _ hA=>⟨hal0 b hA,rfl⟩);refine(h w _ vs h3 ⟨λr hr=>(by cases hr),λb hb=>(by cases hb)⟩ List.nodup_nil).mono λe w' ⟨v,av,σo,q1,q2,q3,q4⟩=> ?_;obtain⟨c1,c2⟩:=hc av σo q2;have ht:=Cy (σp:=[]) (σr:=σr) hg (λb hA _=>hA) q3 (λr hr=>c2 r hr _ _ w' (q3.good.res r hr));exact⟨v,av,σo++σr,q1,⟨σo,q2,rfl⟩,Kz (σ:=σr) ht (λb hb=>by cases hb),c1 _ _ w' v q4⟩
end
def awk(n:Nat):AV->Bool:=lX (λ_=>I) n
def En{A:Nat->Prop}{w:World}{cs:aa AV}{v:Value}(h:Rel A w (.fp cs) v):∃(b o:Nat) (us:aa Value),v= .pointer (Q ⟨b,o,V⟩)/\b<w.heap.size/\A b/\(∀j v,us[j]? =Q v->w.cell? ⟨b,o+j,V⟩=Q v)/\bL A w cs us:=by
 generalize ha:cn.fp cs=a at h;cases h with
 |fp cs' b o us hb hA hl hc hr=>cases ha;exact⟨b,o,us,rfl,hb,hA,hc,hl,hr⟩
 |_=>cases ha
def Gx(lb:Bool)(rd:Nat->ah IR)(n:Nat):AV->AV:=Nat.rec (λd=>match d with
 | .own id=>match rd id with
  |some (.row t l)=> .sl t l
  |_=> .own id
 |d=>d) (λ_ ih d=>match d with
 | .own id=>match rd id with
  |some (.row t l)=> .sl t l
  |_=> .own id
 | .ptr id 0=>match lb with
  |true=>match rd id with
   |some (.box _ cs)=> .fp (cs.map ih)
   |_=> .ptr id 0
  |false=> .ptr id 0
 | .agg cs=> .agg (cs.map ih)
 | .fn f cs=> .fn f (cs.map ih)
 |d=>d) n
def X8{R:aZ}{ρ:Gh}{A:Nat->Prop}{w:World}{v:Value}{id T:Nat}{cs:aa AV}(hd:Hd A (aZ.res ρ R) w)(hg:gz R id=Q (.box T cs))(hr:Rel A w ((cn.ptr (dF:=U.dF) id 0).sub ρ) v):
  Rel (λb=>A b\/b∈bH (aZ.res ρ R)) w (.fp (cs.map (cn.sub ρ))) v:=by
 obtain⟨i,hi,_⟩:=eV hg;have hres:=ic (ρ:=ρ) hi;rw[fM]at hr;exact Vw.box i hres A w v hd hr
def UZ{lb:Bool}{R:aZ}{ρ:Gh}{A:Nat->Prop}{w:World}(hd:Hd A (aZ.res ρ R) w):∀(n:Nat) {d:AV} {v:Value},Rel (λb=>A b\/b∈bH (aZ.res ρ R)) w (d.sub ρ) v->Rel (λb=>A b\/b∈bH (aZ.res ρ R)) w ((Gx lb (gz R) n d).sub ρ) v:=by
 have hown:∀{id:Nat} {v:Value},Rel (λb=>A b\/b∈bH (aZ.res ρ R)) w ((cn.own (dF:=U.dF) id).sub ρ) v->Rel (λb=>A b\/b∈bH (aZ.res ρ R)) w ((match gz R id with
  |some (.row t l)=>cn.sl t l
  |_=> .own id).sub ρ) v:=λ{id v} h=>by
  rw[eC]at h;rw[h.cM];exact Yw hd (by rw[eC];exact .lit _)
 intro n;induction n with
 |zero=>
  intro d v h;cases d<;>first|exact h|exact hown h
 |succ n ih=>
  have hL:∀{cs:aa AV} {us:aa Value},bL (λb=>A b\/b∈bH (aZ.res ρ R)) w (cs.map (cn.sub ρ)) us->bL (λb=>A b\/b∈bH (aZ.res ρ R)) w ((cs.map (Gx lb (gz R) n)).map (cn.sub ρ)) us:=λ{cs us} h=>
   ⟨by simpa using h.1,λj a u q1 q2=>by
    rw[yp,yb]at q1;obtain⟨c,hc,rfl⟩:=zu.1 q1;exact ih (h.2 j _ u (by rw[yb,hc];rfl) q2)⟩
  intro d v h;cases d with
  |own id=>exact hown h
  |agg cs=>
   show Rel _ w ((cn.agg (cs.map (Gx lb (gz R) n))).sub ρ) v;rw[fy]at h ⊢;obtain⟨us,rfl,h2⟩:=h.nZ;exact Rel.oO (hL h2)
  |fn f cs=>
   show Rel _ w ((cn.fn f (cs.map (Gx lb (gz R) n))).sub ρ) v;rw[tc]at h ⊢;obtain⟨us,rfl,h2⟩:=h.Yz;have h3:=hL h2;exact .fn f _ us h3.1 h3.2
  |ptr id off=>
   cases off with
   |succ o=>exact h
   |zero=>
    cases lb with
    |false=>exact h
    |true=>
     show Rel _ w (cn.sub ρ (match gz R id with
      |some (.box _ cs)=> .fp (cs.map (Gx G (gz R) n))
      |_=> .ptr id 0)) v
     split
     ·rename_i T cs hg;have h0:Rel A w ((cn.ptr (dF:=U.dF) id 0).sub ρ) v:=by
       rw[fM]at h ⊢;rw[h.cM];exact .lit _
      obtain⟨b,o,us,rfl,q1,q2,q3,q4⟩:=En (X8 hd hg h0);rw[mB];have q5:=hL q4;exact .fp _ b o us q1 q2 q5.1 q3 q5.2
     ·exact h
  |_=>exact h
def oA(l:aa Nat)(n0 nx:Nat)(i:Nat):Nat:=match zK i n0 with
 |true=>l.getD i 0
 |false=>nx+(i-n0)
def Out.okB(n0:Nat)(x:Out):Bool:=yj n0 x.c&&lX (λi=>zK i x.c) 4 x.d&&x.R.all λq=>zK q.1 x.c&&match q.2 with
 | .box _ cs=>cs.all (lX (λi=>zK i x.c) 4)
 | .row _ _=>G
def YU{α γ β:Type}(q:aa AV->aZ->ah γ)(t:γ->ah β)(out:β->Out)(n0:Nat)(args:aa AV)(nx:Nat)(k:AV->aZ->Nat->ah α)(F:ah α)(Rp Rr:aZ)(ns:aa Nat):ah α:=
 match zj Rp.length n0&&args.all (lX (λi=>dJ i ns) 4)&&Rp.all (λq=>match q.2 with
  | .box _ cs=>cs.all (lX (λi=>dJ i ns) 4)
  | .row _ _=>G)with
 |true=>match q (args.map (mq (nq ns) 4)) (Rp.map λq=>(nq ns q.1,Mn (nq ns) q.2))with
  |some g=>match t g with
   |some b=>k (mq (oA ns n0 nx) 4 (out b).d) ((out b).R.map (λq=>(oA ns n0 nx q.1,Mn (oA ns n0 nx) q.2))++Rr) (nx+((out b).c-n0))
   |none=>V
  |none=>F
 |false=>F
def Wf{α γ β:Type}(q:aa AV->aZ->ah γ)(t:γ->ah β)(out:β->Out)(n0:Nat)(args:aa AV)(nx:Nat)(k:AV->aZ->Nat->ah α)(F:ah α)(R2:aZ×aZ):ah α:=
 YU q t out n0 args nx k F R2.1 R2.2 (R2.1.map λq=>q.1)
def orY{γ β:Type}(f0 n0:Nat)(q:aa AV->aZ->ah γ)(t:γ->ah β)(out:β->Out)(F:bw):bw:=λ_ f args R nx k=>match zj f f0 with
 |true=>Wf q t out n0 args nx k (F _ f args R nx k) (ow (reach R 3 (args.flatMap (oP 4))) R)
 |false=>F _ f args R nx k
def QY{γ:Type}(q:aa AV->aZ->ah γ)(ca:γ->aa AV)(cr:γ->aZ):Prop:=∀xs R g,q xs R=Q g->(∀(ρ:Gh) A w us,bL A w (xs.map (cn.sub ρ)) us->bL A w ((ca g).map (cn.sub ρ)) us)/\IV R (cr g)
def Fn.pre{P:Program}{f:FuncId}{args args':aa AV}{R R':aZ}{ρ:Gh}{Φ:AV->aa cK->Prop}(h:Fn P f args' (aZ.res ρ R') Φ)(ha:∀A w us,bL A w args us->bL A w args' us)(hr:IV R R'):Fn P f args (aZ.res ρ R) Φ:=λw A vs h1 h2 h3=>by
 have hb:bH (aZ.res ρ R)=bH (aZ.res ρ R'):=EN hr;rw[hb];refine(h w A vs (ha A w vs h1) ⟨Na hr h2.1,λb hb'=>h2.2 b (by rw[hb];exact hb')⟩ (by rw[<-hb];exact h3)).mono λe w' ⟨v,av,σ',q1,q2,q3,q4⟩=>⟨v,av,σ',q1,q2,⟨q3.good,q3.kp,λb hb' hA=> ?_⟩,q4⟩;refine q3.al b hb' ⟨hA.1,?_⟩;rw[<-hb];exact hA.2
def ajG{P:Program}{F:bw}{γ β:Type}{f0 n0:Nat}{q:aa AV->aZ->ah γ}{ca:γ->aa AV}{cr:γ->aZ}{t:γ->ah β}{out:β->Out}(hF:iO P F)(hf:v7 P f0)(hq:QY q ca cr)(hm:∀b,(out b).okB n0=G)
  (h:∀g b,t g=Q b->Tg P f0 (ca g) (cr g) n0 (out b)):iO P (orY f0 n0 q t out F):=λα f args R nx k r hr hargs hR=>by
 unfold orY at hr;split at hr
 case h_2=>exact hF α f args R nx k r hr hargs hR
 rename_i hb;have hb:=gI hb;subst hb;unfold Wf at hr;generalize hR2:ow (reach R 3 (args.flatMap (oP 4))) R=R2 at hr;have hperm:List.Perm R (R2.1++R2.2):=by rw[<-hR2];exact nM _ _
 obtain⟨Rp,Rr⟩:=R2;dsimp only at hr hperm;generalize hns:(Rp.map λq=>q.1)=ns at hr;unfold YU at hr;split at hr
 case h_2=>exact hF α f args R nx k r hr hargs hR
 rename_i hchk;rw[zn,zn]at hchk;obtain⟨⟨hc0,hc1⟩,hc2⟩:=hchk;have hc0:=gI hc0;split at hr
 case h_2=>exact hF α f args R nx k r hr hargs hR
 rename_i g hg;split at hr
 case h_2=>cases hr
 rename_i b hb;have hlen:ns.length=n0:=by rw[<-hns,zL,hc0]
 have hRs:∀p∈Rp++Rr,p.1<nx/\p.2.cQ nx:=λp hp=>hR p (hperm.mem_iff.2 hp);have hnsl:∀i∈ns,i<nx:=λi hi=>by
  rw[<-hns]at hi;obtain⟨p,hp,rfl⟩:=zN.1 hi;exact(hRs p (yH _ hp)).1
 obtain⟨hqa,hqr⟩:=hq _ _ g hg;have hok:=hm b;unfold Out.okB at hok;rw[zn,zn]at hok;obtain⟨⟨ho0,ho1⟩,ho2⟩:=hok;have ho0:n0<=(out b).c:=by simpa using ho0
 refine⟨hf,λρ=> ?_⟩
 let ρ0:Gh:=⟨λj=>ρ.v (ns.getD j 0),λj=>ρ.b (ns.getD j 0)⟩
 have hp:∀i,dJ i ns=G->ρ0.v (nq ns i)=ρ.v i/\ρ0.b (nq ns i)=ρ.b i:=λi hi=>by
  have:=uL (gp.1 hi);have e:ns.getD (nq ns i) 0=i:=by rw[wA,this];rfl
  exact⟨by show ρ.v (ns.getD (nq ns i) 0)=_;rw[e],by show ρ.b (ns.getD (nq ns i) 0)=_;rw[e]⟩
 have ea:(args.map (mq (nq ns) 4)).map (cn.sub ρ0)=args.map (cn.sub ρ):=by
  rw[yp];exact z7 λc hc=>ji hp 4 (zA.1 hc1 c hc)
 have er:aZ.res ρ0 (Rp.map λq=>(nq ns q.1,Mn (nq ns) q.2))=aZ.res ρ Rp:=by
  unfold aZ.res;rw[yp];refine z7 λq hq=> ?_;have hm:dJ q.1 ns=G:=gp.2 (by rw[<-hns];exact zN.2 ⟨q,hq,rfl⟩);have hbq:=zA.1 hc2 q hq;obtain⟨i,rr⟩:=q;cases rr with
  |row t l=>show cK.row (ρ0.v (nq ns i)) t l= .row (ρ.v i) t l;rw[(hp i hm).1]
  |box T cs=>
   show cK.box (ρ0.b (nq ns i)) T ((cs.map (mq (nq ns) 4)).map (cn.sub ρ0))= .box (ρ.b i) T (cs.map (cn.sub ρ));rw[(hp i hm).2,yp]
   congr 1
   exact z7 λc hc=>ji hp 4 (zA.1 hbq c hc)
 have h1:=Fn.pre (h g b hb ρ0) (hqa ρ0) hqr;rw[ea,er]at h1;have h2:=Fn.aee (σr:=aZ.res ρ Rr) h1;rw[<-kM]at h2;have hp2:List.Perm (aZ.res ρ R) (aZ.res ρ (Rp++Rr)):=hperm.map _;have h3:Fn P f (args.map (cn.sub ρ)) (aZ.res ρ R) (λa s=>∃so,(∃ρ':Gh,rq n0 ρ0 ρ'/\a=(out b).d.sub ρ'/\List.Perm so (aZ.res ρ' (out b).R))/\s=so++aZ.res ρ Rr):=λw A vs q1 q2 q3=>by
  have hbm:∀x,x∈bH (aZ.res ρ (Rp++Rr))↔x∈bH (aZ.res ρ R):=λx=>(hp2.symm.filterMap _).mem_iff;refine(h2 w A vs q1 ⟨λr hr=>q2.1 r (hp2.mem_iff.2 hr),λx hx=>q2.2 x ((hbm x).1 hx)⟩ ((hp2.filterMap _).nodup_iff.1 q3)).mono λe w' ⟨v,av,σ',g1,g2,g3,g4⟩=> ?_;have hal:∀s x,al ⟨w,A,bH (aZ.res ρ (Rp++Rr))⟩ s x->al ⟨w,A,bH (aZ.res ρ R)⟩ s x:=λs x hx=>⟨hx.1.imp id (Or.imp (λh=>(hbm x).1 h) id),hx.2⟩;refine⟨v,av,σ',g1,g2,⟨⟨⟨g3.kp.os,g3.kp.tape,g3.kp.output,g3.kp.size,λk hk hn=>g3.kp.block k hk λhx=>hn ((hbm k).1 hx)⟩,λrr hrr=>(g3.good.res rr hrr).mono (λx _ hA=>⟨hal _ x hA,rfl⟩) (λ_ _=>rfl),g3.good.F9,λx hx=>(g3.good.own x hx).imp (λh=>(hbm x).1 h) id⟩,⟨g3.kp.os,g3.kp.tape,g3.kp.output,g3.kp.size,λk hk hn=>g3.kp.block k hk λhx=>hn ((hbm k).1 hx)⟩,λx hx hA=> ?_⟩,g4.mono λx _ hA=>⟨hal _ x hA,rfl⟩⟩;have hA':al ⟨w,A,bH (aZ.res ρ (Rp++Rr))⟩ (aZ.res ρ (Rp++Rr)) x:=⟨hA.1.imp id (Or.imp (λh=>(hbm x).2 h) id),λh=>hA.2 ((hbm x).1 h)⟩;exact⟨hal _ x (g3.al x hx hA').1,λh=>hA.2 h⟩
 refine Fn.mono h3 λa s ⟨so,⟨ρ1,g0,g1,g2⟩,g3⟩=> ?_
 let ρ2:Gh:=⟨λi=>if i<nx then ρ.v i else ρ1.v (n0+(i-nx)),λi=>if i<nx then ρ.b i else ρ1.b (n0+(i-nx))⟩
 have hag:rq nx ρ ρ2:=λi hi=>⟨by simp only[ρ2,bt hi],by simp only[ρ2,bt hi]⟩;have hb2:∀i,zK i (out b).c=G->(ρ2.v (oA ns n0 nx i)=ρ1.v i/\ρ2.b (oA ns n0 nx i)=ρ1.b i)/\oA ns n0 nx i<nx+((out b).c-n0):=λi hi=>by
  have hi:i<(out b).c:=by simpa [yz]using hi
  unfold oA;split
  ·rename_i hlt;have hlt:i<n0:=by simpa [yz]using hlt
   obtain⟨e1,e2⟩:=g0 i hlt;have hlt2:i<ns.length:=by rw[hlen];exact hlt
   have hmem:ns.getD i 0∈ns:=by rw[wA,zw hlt2];exact xO hlt2
   have h4:=hnsl _ hmem;refine⟨⟨?_,?_⟩,by omega⟩
   ·show (if ns.getD i 0<nx then ρ.v (ns.getD i 0)else _)=_;rw[bt h4];exact e1
   ·show (if ns.getD i 0<nx then ρ.b (ns.getD i 0)else _)=_;rw[bt h4];exact e2
  ·rename_i hlt;have hlt:¬i<n0:=by
    intro hx;have:zK i n0=G:=by rw[yz];exact hx
    rw[this]at hlt;cases hlt
   have h5:¬nx+(i-n0)<nx:=by omega
   have h6:n0+(nx+(i-n0)-nx)=i:=by omega
   refine⟨⟨?_,?_⟩,by omega⟩
   ·show (if nx+(i-n0)<nx then _ else ρ1.v (n0+(nx+(i-n0)-nx)))=_;rw[bF h5,h6]
   ·show (if nx+(i-n0)<nx then _ else ρ1.b (n0+(nx+(i-n0)-nx)))=_;rw[bF h5,h6]
 have hres:aZ.res ρ2 ((out b).R.map λq=>(oA ns n0 nx q.1,Mn (oA ns n0 nx) q.2))=aZ.res ρ1 (out b).R:=by
  unfold aZ.res;rw[yp];refine z7 λq hq=> ?_;have hbq:=zA.1 ho2 q hq;rw[zn]at hbq;obtain⟨i,rr⟩:=q;cases rr with
  |row t l=>show cK.row (ρ2.v (oA ns n0 nx i)) t l= .row (ρ1.v i) t l;rw[(hb2 i hbq.1).1.1]
  |box T cs=>
   show cK.box (ρ2.b (oA ns n0 nx i)) T ((cs.map (mq (oA ns n0 nx) 4)).map (cn.sub ρ2))= .box (ρ1.b i) T (cs.map (cn.sub ρ1));rw[(hb2 i hbq.1).1.2,yp]
   congr 1
   exact z7 λc hc=>ji (λi hi=>(hb2 i hi).1) 4 (zA.1 hbq.2 c hc)
 refine⟨_,_,_,hr,by omega,lQ (λi hi=>(hb2 i hi).2) 4 ho1,λq hq=> ?_,ρ2,hag,?_,?_⟩
 ·rcases zV.1 hq with hq|hq
  ·obtain⟨q',h4,rfl⟩:=zN.1 hq;have hbq:=zA.1 ho2 q' h4;rw[zn]at hbq;refine⟨(hb2 _ hbq.1).2,?_⟩;obtain⟨i,rr⟩:=q';cases rr with
   |row t l=>trivial
   |box T cs=>
    intro c hc;obtain⟨c',h5,rfl⟩:=zN.1 hc;exact lQ (λi hi=>(hb2 i hi).2) 4 (zA.1 hbq.2 c' h5)
  ·have:=hRs q (yI _ hq);exact⟨by omega,this.2.mono (by omega)⟩
 ·rw[g1];exact(ji (λi hi=>(hb2 i hi).1) 4 ho1).symm
 ·rw[g3,kM,hres,<-aZ.cQ.res (R:=Rr) (λq hq=>hRs q (yI _ hq)) hag];exact g2.append_right _
def scD(n:Nat):AV->Bool:=Nat.rec (λd=>match d with
 | .lit _=>G
 | .own _=>G
 | .ptr _ _=>G
 |_=>I) (λ_ ih d=>match d with
 | .lit _=>G
 | .own _=>G
 | .ptr _ _=>G
 | .agg cs=>cs.all ih
 | .jE cs=>cs.all ih
 |_=>I) n
def Vx{ρ:Gh}:∀(n:Nat) {d:AV},scD n d=G->Cl (d.sub ρ):=λn=>by
 induction n with
 |zero=>
  intro d h;cases d<;>first|(cases h;done)|(rw[bT];exact .lit _)|(rw[eC];exact .lit _)|(rw[fM];exact .lit _)
 |succ n ih=>
  have hL:∀{cs:aa AV},cs.all (scD n)=G->JP (cs.map (cn.sub ρ)):=λ{cs} h=>by
   induction cs with
   |nil=>exact .nil
   |cons c cs ihc=>
    rw[List.all_cons,zn]at h;exact .cons (ih h.1) (ihc h.2)
  intro d h;cases d<;>first|(cases h;done)|(rw[bT];exact .lit _)|(rw[eC];exact .lit _)|(rw[fM];exact .lit _)|skip
  ·rw[fy];exact .agg (hL h)
  ·rw[kI];exact .jE (hL h)
def Q7{n:Nat}{ρ:Gh}:∀cs:aa AV,cs.all (scD n)=G->JP (cs.map (cn.sub ρ))
 |[],_=> .nil
 |c::cs,h=>by
  rw[List.all_cons,zn]at h;exact .cons (Vx n h.1) (Q7 cs h.2)
def Out.scB(sc:Nat->Bool)(x:Out):Bool:=scD 4 x.d&&x.R.all λq=>match q.2 with
 | .row t _=>sc t
 | .box _ cs=>cs.all (scD 3)
def adS{sc:Nat->Bool}(hsc:∀t,sc t=G->∀x,JP (U.cells t x)){x:Out}(h:x.scB sc=G)(ρ:Gh):Cl (x.d.sub ρ)/\∀r∈aZ.res ρ x.R,ClR r:=by
 unfold Out.scB at h;rw[zn]at h;refine⟨Vx 4 h.1,λr hr=> ?_⟩;obtain⟨q,hq,rfl⟩:=zN.1 hr;have hb:=zA.1 h.2 q hq;obtain⟨i,rr⟩:=q;cases rr with
 |row t l=>exact ClR.row (hsc t hb)
 |box T cs=>
  exact ClR.box (Q7 cs hb)
def Ra{α γ β:Type}(q:aa AV->ah γ)(t:γ->ah β)(out:β->Out)(args:aa AV)(R:aZ)(nx:Nat)(k:AV->aZ->Nat->ah α)(F:ah α):ah α:=
 match args.all (awk 4)with
 |true=>match q args with
  |some g=>match t g with
   |some b=>k (mq (λi=>i+nx) 4 (out b).d) ((out b).R.map (λq=>(q.1+nx,Mn (λi=>i+nx) q.2))++R) ((out b).c+nx)
   |none=>V
  |none=>F
 |false=>F
def ZK{γ β:Type}(f0:Nat)(lb:Bool)(q:aa AV->ah γ)(t:γ->ah β)(out:β->Out)(F:bw):bw:=λ_ f args R nx k=>match zj f f0 with
 |true=>Ra q t out (args.map (Gx lb (gz R) 3)) R nx k (F _ f args R nx k)
 |false=>F _ f args R nx k
def alK{P:Program}{F:bw}{γ β:Type}{f0:Nat}{lb:Bool}{q:aa AV->ah γ}{ca:γ->aa AV}{t:γ->ah β}{out:β->Out}{sc:Nat->Bool}(hF:iO P F)(hsc:∀t,sc t=G->∀x,JP (U.cells t x))(hf:v7 P f0)(hq:MN q ca)(hm:∀b,(out b).okB 0=G)(hs:∀b,(out b).scB sc=G)
  (h:∀g b,t g=Q b->Tg P f0 (ca g) [] 0 (out b)):iO P (ZK f0 lb q t out F):=λα f args R nx k r hr hargs hR=>by
 unfold ZK at hr;split at hr
 case h_2=>exact hF α f args R nx k r hr hargs hR
 rename_i hb;have hb:=gI hb;subst hb;unfold Ra at hr;split at hr
 case h_2=>exact hF α f args R nx k r hr hargs hR
 rename_i hcl;split at hr
 case h_2=>exact hF α f args R nx k r hr hargs hR
 rename_i g hg;split at hr
 case h_2=>cases hr
 rename_i b hb;obtain⟨hqa,_⟩:=hq _ g hg;have hok:=hm b;unfold Out.okB at hok;rw[zn,zn]at hok;obtain⟨⟨_,ho1⟩,ho2⟩:=hok;refine⟨hf,λρ=> ?_⟩;have h1:Fn P f ((ca g).map (cn.sub ρ)) [] _:=h g b hb ρ;have h2:=Fn.awP (args:=args.map (cn.sub ρ)) (σr:=aZ.res ρ R) h1 (λA w us hd hrel=>by
  refine hqa ρ _ w us ⟨by simpa using hrel.1,λj a v q1 q2=> ?_⟩;rw[yp,yb]at q1;obtain⟨c,hc,rfl⟩:=zu.1 q1;exact UZ hd 3 ((hrel.2 j _ v (by rw[yb,hc];rfl) q2).mono λb _ hA=>⟨.inl hA,rfl⟩)) (λav σo ⟨ρ',_,e1,e2⟩=>by
   obtain⟨c1,c2⟩:=adS hsc (hs b) ρ';subst e1;exact⟨c1,λr hr=>c2 r (e2.mem_iff.1 hr)⟩)
 have hlt:∀i,zK i (out b).c=G->i+nx<(out b).c+nx:=λi hi=>by rw[yz]at hi;omega
 refine Fn.mono h2 λa s ⟨s',⟨ρ1,_,g1,g2⟩,g3⟩=> ?_
 let ρ2:Gh:=⟨λi=>if i<nx then ρ.v i else ρ1.v (i-nx),λi=>if i<nx then ρ.b i else ρ1.b (i-nx)⟩
 have hag:rq nx ρ ρ2:=λi hi=>⟨by simp only[ρ2,bt hi],by simp only[ρ2,bt hi]⟩;have hp:∀i,zK i (out b).c=G->ρ2.v (i+nx)=ρ1.v i/\ρ2.b (i+nx)=ρ1.b i:=λi _=>by
  have:¬i+nx<nx:=by omega
  exact⟨by simp only[ρ2,bF this,Nat.add_sub_cancel],by simp only[ρ2,bF this,Nat.add_sub_cancel]⟩
 have hres:aZ.res ρ2 ((out b).R.map λq=>(q.1+nx,Mn (λi=>i+nx) q.2))=aZ.res ρ1 (out b).R:=by
  unfold aZ.res;rw[yp];refine z7 λq hq=> ?_;have hbq:=zA.1 ho2 q hq;rw[zn]at hbq;obtain⟨i,rr⟩:=q;cases rr with
  |row t l=>show cK.row (ρ2.v (i+nx)) t l= .row (ρ1.v i) t l;rw[(hp i hbq.1).1]
  |box T cs=>
   show cK.box (ρ2.b (i+nx)) T ((cs.map (mq (λi=>i+nx) 4)).map (cn.sub ρ2))= .box (ρ1.b i) T (cs.map (cn.sub ρ1));rw[(hp i hbq.1).2,yp]
   congr 1
   exact z7 λc hc=>ji hp 4 (zA.1 hbq.2 c hc)
 refine⟨_,_,_,hr,Nat.le_add_left _ _,lQ hlt 4 ho1,λq hq=> ?_,ρ2,hag,?_,?_⟩
 ·rcases zV.1 hq with hq|hq
  ·obtain⟨q',h4,rfl⟩:=zN.1 hq;have hbq:=zA.1 ho2 q' h4;rw[zn]at hbq;refine⟨hlt _ hbq.1,?_⟩;obtain⟨i,rr⟩:=q';cases rr with
   |row t l=>trivial
   |box T cs=>
    intro c hc;obtain⟨c',h5,rfl⟩:=zN.1 hc;exact lQ hlt 4 (zA.1 hbq.2 c' h5)
  ·exact(hR.mono (Nat.le_add_left _ _)) q hq
 ·rw[g1];exact(ji hp 4 ho1).symm
 ·rw[g3,kM,hres,<-hR.res hag];exact g2.append_right _
def aY{P:Program}:bG P eB:=⟨al8,λ_ _ _ _ _ _ _ _=>rfl⟩
def aaO{γ δ:Type}{f0 n0:Nat}{q:aa AV->aZ->ah γ}{t:γ->ah δ}{out:δ->Out}{F:bw}(hN:eF F):eF (orY f0 n0 q t out F):=λα β f args R nx k D=>by
 unfold orY;split
 ·unfold Wf YU;split
  ·split
   ·split<;>rfl
   ·exact hN ..
  ·exact hN ..
 ·exact hN ..
def afG{γ δ:Type}{f0:Nat}{lb:Bool}{q:aa AV->ah γ}{t:γ->ah δ}{out:δ->Out}{F:bw}(hN:eF F):eF (ZK f0 lb q t out F):=λα β f args R nx k D=>by
 unfold ZK;split
 ·unfold Ra;split
  ·split
   ·split<;>rfl
   ·exact hN ..
  ·exact hN ..
 ·exact hN ..
def ahz{P:Program}{F:bw}{γ β:Type}{f0 n0:Nat}{q:aa AV->aZ->ah γ}{ca:γ->aa AV}{cr:γ->aZ}{t:γ->ah β}{out:β->Out}(hF:bG P F)(hf:v7 P f0)(hq:QY q ca cr)(hm:∀b,(out b).okB n0=G)
 (h:∀g b,t g=Q b->Tg P f0 (ca g) (cr g) n0 (out b)):bG P (orY f0 n0 q t out F):=⟨ajG hF.ok hf hq hm h,aaO hF.nat⟩
def aqV{P:Program}{F:bw}{γ β:Type}{f0:Nat}{lb:Bool}{q:aa AV->ah γ}{ca:γ->aa AV}{t:γ->ah β}{out:β->Out}{sc:Nat->Bool}(hF:bG P F)(hsc:∀t,sc t=G->∀x,JP (U.cells t x))(hf:v7 P f0)(hq:MN q ca)(hm:∀b,(out b).okB 0=G)(hs:∀b,(out b).scB sc=G)
 (h:∀g b,t g=Q b->Tg P f0 (ca g) [] 0 (out b)):bG P (ZK f0 lb q t out F):=⟨alK hF.ok hsc hf hq hm hs h,afG hF.nat⟩
def bK{f:FuncId}:bA eB f:=λ_ _ _ _ _ _ h=>by cases h
def iL{γ β:Type}{f0:Nat}{lb:Bool}{q:aa AV->ah γ}{t:γ->ah β}{out:β->Out}{F:bw}{f:FuncId}(h:bA F f)(hm:∀b,(out b).R=[]):bA (ZK f0 lb q t out F) f:=λargs R nx d R' nx' hr=>by
 unfold ZK at hr;split at hr
 ·unfold Ra at hr;split at hr
  ·split at hr
   ·split at hr
    ·rw[hm]at hr;cases hr;rfl
    ·cases hr
   ·exact h _ _ _ _ _ _ hr
  ·exact h _ _ _ _ _ _ hr
 ·exact h _ _ _ _ _ _ hr
def WA{γ β:Type}{f0:Nat}{lb:Bool}{q:aa AV->ah γ}{t:γ->ah β}{out:β->Out}{F:bw}{f:FuncId}(hne:zj f f0=I)(h:bA F f):bA (ZK f0 lb q t out F) f:=λargs R nx d R' nx' hr=>by
 unfold ZK at hr;rw[hne]at hr;exact h _ _ _ _ _ _ hr
def uC{γ β:Type}{f0 n0:Nat}{q:aa AV->aZ->ah γ}{t:γ->ah β}{out:β->Out}{F:bw}{f:FuncId}(hne:zj f f0=I)(h:bA F f):bA (orY f0 n0 q t out F) f:=λargs R nx d R' nx' hr=>by
 unfold orY at hr;rw[hne]at hr;exact h _ _ _ _ _ _ hr
def cO{α:Type}(b:Bool)(x y:α):(bif b then some x else some y)=some (bif b then x else y):=by cases b<;>rfl
def de{α:Type}(p:Prop)[Decidable p](x y:α):(if p then Q x else Q y)=Q (if p then x else y):=by split<;>rfl
def oq{n0:Nat}{args:aa AV}(h:args.all (lX (λi=>zK i n0) 4)=G):∀d∈args,cQ n0 d:=λd hd=>(CB 4 (zA.1 h d hd)).mono λi hi=>by rw[yz]at hi;exact hi
def l7{n0:Nat}{R:aZ}(h:R.all (λq=>zK q.1 n0&&match q.2 with
  | .box _ cs=>cs.all (lX (λi=>zK i n0) 4)
  | .row _ _=>G)=G):aZ.cQ n0 R:=λq hq=>by
 have hb:=zA.1 h q hq;rw[zn,yz]at hb;refine⟨hb.1,?_⟩;obtain⟨i,rr⟩:=q;cases rr with
 |row t l=>trivial
 |box T cs=>exact oq hb.2
def qy0{γ:Type}(q:aa AV->ah γ)(xs:aa AV)(R:aZ):ah γ:=match R with
 |[]=>q xs
 |_=>V
def amC{γ:Type}{q:aa AV->ah γ}{ca:γ->aa AV}(h:MN q ca):QY (qy0 q) ca (λ_=>[]):=λxs R g hg=>by
 unfold qy0 at hg;split at hg
 ·exact⟨(h xs g hg).1, .nil⟩
 ·cases hg
def qyR{γ δ:Type}(q:aa AV->ah γ)(r:aZ->ah δ)(xs:aa AV)(R:aZ):ah (γ×δ):=match q xs with
 |some g=>match r R with
  |some h=>Q (g,h)
  |none=>V
 |none=>V
def anu{γ δ:Type}{q:aa AV->ah γ}{ca:γ->aa AV}{r:aZ->ah δ}{cr:δ->aZ}(hq:MN q ca)(hr:C9 r cr):QY (qyR q r) (λg=>ca g.1) (λg=>cr g.2):=λxs R g hg=>by
 unfold qyR at hg;split at hg
 ·rename_i g' h1;split at hg
  ·rename_i h' h2;cases hg;exact⟨(hq xs g' h1).1,hr R h' h2⟩
  ·cases hg
 ·cases hg
open Classical in
def lim{β:Type}(m:Nat->ah β):ah β:=if h:∃b N,∀n,N<=n->m n=Q b then Q (Classical.choose h)else V
def dG{β:Type}{m:Nat->ah β}{b:β}(h:lim m=Q b):∃n,m n=Q b:=by
 unfold lim at h;split at h
 ·rename_i hx;cases h;obtain⟨N,hN⟩:=Classical.choose_spec hx;exact⟨N,hN N (zI _)⟩
 ·cases h
def eT{β:Type}{m:Nat->ah β}{b:β}(N:Nat)(h:∀n,N<=n->m n=Q b):lim m=Q b:=by
 have hx:∃b N,∀n,N<=n->m n=Q b:=⟨b,N,h⟩;unfold lim;rw[dif_pos hx];obtain⟨M,hM⟩:=Classical.choose_spec hx;have h1:=hM (max M N) (Nat.le_max_left _ _);rw[h (max M N) (Nat.le_max_right _ _)]at h1;exact h1.symm
def SD{P:Program}{f:FuncId}{t:Nat}{x:Out}(h1:∀c,Tg P f [.lit (.slice V 0 c)] [] 0 x)(h2:∀a c,Tg P f [.lit (.slice (Q a) 0 c)] [] 0 x):Tg P f [.sl t []] [] 0 x:=λρ w A vs hr hd hn=>by
 have hr':bL A w [(cn.sl t []:AV).sub ρ] vs:=hr;obtain⟨v,us,rfl,h3,h4⟩:=hr'.head;rw[gO]at h3;obtain⟨p,c,g,hv,_⟩:=h3.tY;have hz:us=[]:=xp (by simpa using h4.1);subst hz hv;cases p with
 |none=>exact h1 c ρ w A _ (bL.cons (by rw[bT];exact .lit _) bL.nil) hd hn
 |some a=>exact h2 a c ρ w A _ (bL.cons (by rw[bT];exact .lit _) bL.nil) hd hn
def axz:AV->Bool
 | .lit _=>G
 |_=>I
def R8:∀(cs:aa AV),cs.all axz=G->JP cs
 |[],_=> .nil
 |c::cs,h=>by
  rw[List.all_cons,zn]at h;refine .cons ?_ (R8 cs h.2);cases c<;>first|(cases h.1;done)|exact .lit _
end Go.Iv
end
noncomputable section
set_option maxRecDepth 100000
namespace Go.Proofs.YtnfljbehcffmcaaGreat
open Go Go.Iv
open Go.IntKind (i64 u64)
def scK:Ky->Bool
 | .k3=>G
 | .k4=>G
 | .k5=>G
 | .k34=>G
 | .k37=>G
 | .k129=>G
 | .k131=>G
 | .k256=>G
 | .k260=>G
 | .k331=>G
 |_=>I
def Ec(t:Nat):Bool:=scK (ky t)
def am0:(k:Ky)->scK k=G->(x:C3 k)->JP (nQ k x):=by
 intro k h x;cases k<;>first|(cases h;done)|exact R8 _ rfl
def fS(t:Nat)(h:Ec t=G)(x:uni.dF t):JP (uni.cells t x):=am0 (ky t) h x
end Go.Proofs.YtnfljbehcffmcaaGreat
end
noncomputable section
namespace Go.Iv
variable [U:sF] [L:n7]
open Go Go.RowKit
section
variable {β γ δ:Type}
structure Rq (β:Type) where
 f:AV->Option β
 c:β->AV
 ok:PN f c
structure Rl (γ:Type) where
 q:List AV->Option γ
 c:γ->List AV
 ok:MN q c
def aU:Rq Int:=⟨iQ .i64,cn.n .i64, .i .i64⟩
def qi(k:IntKind):Rq Int:=⟨iQ k,cn.n k, .i k⟩
def qb:Rq Bool:=⟨Uj,cn.b, .b⟩
def qs:Rq ByteArray:=⟨asS,cn.s, .s⟩
def ql(t:Nat):Rq (aa (U.dF t)):=⟨jX t,cn.sl t, .l t⟩
def qg(t:Nat):Rq (U.dF t):=⟨aew t,λx=> .agg (U.cells t x), .g t⟩
def qp(i o:Nat):Rq Unit:=⟨asP i o,λ_=> .ptr i o, .p i o⟩
def qo(i:Nat):Rq Unit:=⟨asO i,λ_=> .own i, .o i⟩
def qn:Rq Unit:=⟨amc,λ_=> .lit (.slice V 0 0), .ns⟩
def qf(k:Nat)(l:Rl γ):Rq γ:=⟨ajr k l.q,λx=> .fn (.func k) (l.c x), .ff k l.ok⟩
def qr(l:Rl γ):Rq γ:=⟨alA l.q,λx=> .fp (l.c x), .fp l.ok⟩
def ln:Rl Unit:=⟨oU,λ_=>[], .nil⟩
def lc(a:Rq β)(l:Rl γ):Rl (β×γ):=⟨dQ a.f l.q,λx=>a.c x.1::l.c x.2, .cons a.ok l.ok⟩
abbrev bg(l:Rl γ):Rl (Int×γ):=lc aU l
def lg(t:Nat):Rl (U.dF t):=⟨amv t,λx=>U.cells t x,MN.parse t⟩
structure Re (γ:Type) where
 q:ET->Option γ
 d:γ->Env
 ok:NK q d
def en:Re Unit:=⟨slN,λ_=>[], .nil⟩
def ec(t:Nat)(a:Rq β)(l:Re γ):Re (β×γ):=⟨slC t a.f l.q,λx=>(t,a.c x.1)::l.d x.2, .cons a.ok l.ok⟩
structure Rs (γ:Type) where
 q:aZ->Option γ
 d:γ->aZ
 ok:C9 q d
def sn:Rs Unit:=⟨rsN,λ_=>[], .nil⟩
def sr(i t:Nat)(l:Rs γ):Rs (aa (U.dF t)×γ):=⟨rsR i t l.q,λx=>(i, .row t x.1)::l.d x.2, .row l.ok⟩
def sb(i t:Nat)(a:Rl β)(l:Rs γ):Rs (β×γ):=⟨aly i t a.q l.q,λx=>(i, .box t (a.c x.1))::l.d x.2, .auI a.ok l.ok⟩
structure Td (n0:Nat) (γ:Type) where
 rd:St->Option γ
 pat:γ->St
 ok:∀n,rT n0 n rd pat
def Td.r(n0 m:Nat)(e:Re β)(s:Rs δ)(mk:β×δ->γ)(un:γ->β×δ)(h:∀z,un (mk z)=z:=by exact λ_=>rfl):Td n0 γ:=
 ⟨rdM mk (stR m e.q s.q),λx=>lB m e.d s.d (un x),λ_=>(amg e.ok s.ok).m mk λz=>by rw[h]⟩
def Td.c{n0:Nat}(dr ts:aa Nat)(d:Td n0 γ):Td n0 γ:=⟨rdC n0 dr ts d.rd,d.pat,λn=>al9 (d.ok n)⟩
def Td.t{n0:Nat}{f:St->St}(h:cU f)(d:Td n0 γ):Td n0 γ:=⟨rdF f d.rd,d.pat,λn=>aje h (d.ok n)⟩
def Td.lp{n0:Nat}(d:Td n0 γ)(a:γ->ah γ)(b:An):An:= .lp γ d.rd d.pat a b
end
def ku(P:Program)(f n0:Nat)(s:St):Out:=match (match DY P f s with
  |some ds=>Q (Out.mk (dP ds) (oF s.R n0 (dP ds)) s.nx)
  |none=>V)with
 |some o=>o
 |none=>⟨.jE [],[],0⟩
def aI{α:Type _}{zh:α->Prop}:∀p∈([]:aa α),zh p:=λp h=>by cases h
def aB{α:Type _}{zh:α->Prop}{a:α}{l:aa α}(h:zh a)(t:∀p∈l,zh p):∀p∈a::l,zh p:=λp hp=>(zF.1 hp).elim (λe=>e▸h) (t p)
section
variable {P:Program} {F:bw} {f n0:Nat} {γ δ β:Type}
def HY(P:Program)(f n0:Nat)(a:Rl γ)(s:Rs δ)(d:Td n0 β)(t:γ×δ->ah β):Prop:=∀g b,t g=Q b->Tg P f (a.c g.1) (s.d g.2) n0 (ku P f n0 (d.pat b))
def HL(P:Program)(f:Nat)(a:Rl γ)(d:Td 0 β)(t:γ->ah β):Prop:=∀g b,t g=Q b->Tg P f (a.c g) [] 0 (ku P f 0 (d.pat b))
def RY(hF:bG P F){an:An}(fa:gv P F n0 300 f an){a:Rl γ}{s:Rs δ}{d:Td n0 β}{t:γ×δ->ah β}(ho:∀p,(match DY P f (d.pat p)with
   |some ds=>Q (Out.mk (dP ds) (oF (d.pat p).R n0 (dP ds)) (d.pat p).nx)
   |none=>V)=Q (ku P f n0 (d.pat p)))
  (h1:∀g,(a.c g).all (lX (λi=>zK i n0) 4)=G) (h2:∀g,(s.d g).all (λq=>zK q.1 n0&&match q.2 with
  | .box _ cs=>cs.all (lX (λi=>zK i n0) 4)
  | .row _ _=>G)=G) (c:∀g,ct P F 300 an f (a.c g.1) (s.d g.2) n0 d.rd=t g):HY P f n0 a s d t:=
 λg b hb=>(o5 (p:=b) hF fa d.ok ho (oq (h1 g.1)) (l7 (h2 g.2)) ((c g).trans hb)).2
def fm(hF:bG P F){an:An}(fa:gv P F 0 300 f an){a:Rl γ}{d:Td 0 β}{t:γ->ah β}(ho:∀p,(match DY P f (d.pat p)with
   |some ds=>Q (Out.mk (dP ds) (oF (d.pat p).R 0 (dP ds)) (d.pat p).nx)
   |none=>V)=Q (ku P f 0 (d.pat p)))
  (h1:∀g,(a.c g).all (lX (λi=>zK i 0) 4)=G) (c:∀g,ct P F 300 an f (a.c g) [] 0 d.rd=t g):HL P f a d t:=
 λg b hb=>(o5 (p:=b) hF fa d.ok ho (oq (h1 g)) (l7 rfl) ((c g).trans hb)).2
def eY(P:Program)(f n0:Nat)(a:Rl γ)(s:Rs δ)(d:Td n0 β)(t:γ×δ->ah β)(F:bw):bw:=orY f n0 (qyR a.q s.q) t (λx=>ku P f n0 (d.pat x)) F
def eZ(P:Program)(f:Nat)(a:Rl γ)(d:Td 0 β)(t:γ->ah β)(F:bw):bw:=orY f 0 (qy0 a.q) t (λx=>ku P f 0 (d.pat x)) F
def eL(P:Program)(f:Nat)(lb:Bool)(a:Rl γ)(d:Td 0 β)(t:γ->ah β)(F:bw):bw:=ZK f lb a.q t (λx=>ku P f 0 (d.pat x)) F
def LF{a:Rl γ}{s:Rs δ}{d:Td n0 β}{t:γ×δ->ah β}(h:HY P f n0 a s d t)(hf:v7 P f)(h3:∀b,(ku P f n0 (d.pat b)).okB n0=G)(hF:bG P F):bG P (eY P f n0 a s d t F):=
 ahz hF hf (anu a.ok s.ok) h3 h
def oE{a:Rl γ}{d:Td 0 β}{t:γ->ah β}(h:HL P f a d t)(hf:v7 P f)(h3:∀b,(ku P f 0 (d.pat b)).okB 0=G)(hF:bG P F):bG P (eZ P f a d t F):=
 ahz hF hf (amC a.ok) h3 h
def iJ{lb:Bool}{sc:Nat->Bool}(hsc:∀t,sc t=G->∀x,JP (U.cells t x)){a:Rl γ}{d:Td 0 β}{t:γ->ah β}(h:HL P f a d t)(hf:v7 P f)(h3:∀b,(ku P f 0 (d.pat b)).okB 0=G)(h4:∀b,(ku P f 0 (d.pat b)).scB sc=G)(hF:bG P F):bG P (eL P f lb a d t F):=
 aqV hF hsc hf a.ok h3 h4 h
end
end Go.Iv
end
noncomputable section
namespace Go.Proofs.YtnfljbehcffmcaaGreat
def lE:ByteArray:=ByteArray.mk #[0,1,2,2,3,3,3,3,4,4,4,4,4,4,4,4,5,5,5,5,5,5,5,5,5,5,5,5,5,5,5,5,6,6,6,6,6,6,6,6,6,6,6,6,6,6,6,6,6,6,6,6,6,6,6,6,6,6,6,6,6,6,6,6,7,7,7,7,7,7,7,7,7,7,7,7,7,7,7,7,7,7,7,7,7,7,7,7,7,7,7,7,7,7,7,7,7,7,7,7,7,7,7,7,7,7,7,7,7,7,7,7,7,7,7,7,7,7,7,7,7,7,7,7,7,7,7,7,8,8,8,8,8,8,8,8,8,8,8,8,8,8,8,8,8,8,8,8,8,8,8,8,8,8,8,8,8,8,8,8,8,8,8,8,8,8,8,8,8,8,8,8,8,8,8,8,8,8,8,8,8,8,8,8,8,8,8,8,8,8,8,8,8,8,8,8,8,8,8,8,8,8,8,8,8,8,8,8,8,8,8,8,8,8,8,8,8,8,8,8,8,8,8,8,8,8,8,8,8,8,8,8,8,8,8,8,8,8,8,8,8,8,8,8,8,8,8,8,8,8,8,8,8,8,8,8]
end Go.Proofs.YtnfljbehcffmcaaGreat
end
noncomputable section
set_option maxRecDepth 100000
namespace Go.Proofs.YtnfljbehcffmcaaGreat
open Go Go.Iv
open Go.IntKind (i64 u64)
def fO{p:Prop}{_:Decidable p}(h:¬p:=by omega):decide p=I:=bP h
def rZ{p:Prop}{_:Decidable p}(h:p:=by omega):decide p=G:=bQ h
def gG{p:Prop}{_:Decidable p}{α:Type _}{a b:α}(h:p:=by omega):(if p then a else b)=a:=bt h
def iB{p:Prop}{_:Decidable p}{α:Type _}{a b:α}(h:¬p:=by omega):(if p then a else b)=b:=bF h
abbrev EO(e:bw->bw):Prop:=∀{F:bw},bG vi F->bG vi (e F)
abbrev EP(e:bw->bw):Prop:=∀{F:bw} {f:Nat},bA F f->bA (e F) f
def kP{f:Nat}{lb:Bool}{γ β:Type}{a:Rl γ}{d:Td 0 β}{t:γ->ah β}{F:bw}{g:Nat}(h:bA F g)(hm:∀b,(ku vi f 0 (d.pat b)).R=[]:=by intro _;kernel_rfl):bA (eL vi f lb a d t F) g:=iL h hm
def aO{F:bw}{n0 nt:Nat}{c:Code}{β:Type}{b:An}{n:β->ah (ah β)}(d:Td n0 β)(h:∀p,ox vi F nt 300 c b (ah β) (d.pat p) (kOn d.rd)=n p:=by intro _;kernel_rfl):QE vi F n0 nt 300 (c,d.lp (bJ n) b):=⟨d.ok _,afT h⟩
def kL{f:Nat}{lb:Bool}{fn:Func}{F ze:bw}{an:An}{γ β:Type}{a:Rl γ}{d:Td 0 β}{t:γ->ah β}{l:aa (Code×An)}
  (hf:vi.funcs[f]? =Q fn) (hF:bG vi F) (h:∀p∈l,QE vi F 0 fn.ntmps 300 p) (hG:bG vi ze)
  (hb:fn.body.isNone=I:=by kernel_rfl) (ho:amj (It fn) an=l:=by kernel_rfl)
  (h0:∀p,(match DY vi f (d.pat p)with
   |some ds=>Q (Out.mk (dP ds) (oF (d.pat p).R 0 (dP ds)) (d.pat p).nx)
   |none=>V)=Q (ku vi f 0 (d.pat p)):=by intro _;kernel_rfl)
  (h1:∀g,(a.c g).all (lX (λi=>zK i 0) 4)=G:=by intro _;kernel_rfl)
  (c:∀g,ct vi F 300 an f (a.c g) [] 0 d.rd=t g:=by intro _;kernel_rfl)
  (h2:(fn.name=="runtime.NumGoroutine")=I:=by kernel_rfl)
  (h3:∀b,(ku vi f 0 (d.pat b)).okB 0=G:=by intro _;kernel_rfl) (h4:∀b,(ku vi f 0 (d.pat b)).scB Ec=G:=by intro _;kernel_rfl):bG vi (eL vi f lb a d t ze):=
 iJ (sc:=Ec) fS (fm hF (cD hf (bR hb) ho h) (λp=>by have:=h0 p;revert this;cases DY vi f (d.pat p)<;>exact id) h1 c) ⟨_,hf,h2,hb⟩ h3 h4 hG
abbrev aqQ:=Int×Int
def d352:Td 0 aqQ:= .c [] [4,5] (.r 0 0 (ec 4 (qi .u64) (ec 5 (qi .u64) en)) sn (λz=>(z.1.1,z.1.2.1)) (λx=>((x.1,x.2,()),(()))))
def Vh(a0:Int)(a1:Int):aqQ:=
 (IntKind.u64.wrap (IntKind.u64.wrap (IntKind.u64.wrap (dh IntKind.u64 a0 (32)*dh IntKind.u64 a1 (32))+dh IntKind.u64 (IntKind.u64.wrap (IntKind.u64.wrap (dh IntKind.u64 a0 (32)*tA IntKind.u64 a1 (4294967295))+dh IntKind.u64 (IntKind.u64.wrap (tA IntKind.u64 a0 (4294967295)*tA IntKind.u64 a1 (4294967295))) (32))) (32))+dh IntKind.u64 (IntKind.u64.wrap (tA IntKind.u64 (IntKind.u64.wrap (IntKind.u64.wrap (dh IntKind.u64 a0 (32)*tA IntKind.u64 a1 (4294967295))+dh IntKind.u64 (IntKind.u64.wrap (tA IntKind.u64 a0 (4294967295)*tA IntKind.u64 a1 (4294967295))) (32))) (4294967295)+IntKind.u64.wrap (tA IntKind.u64 a0 (4294967295)*dh IntKind.u64 a1 (32)))) (32)),IntKind.u64.wrap (a0*a1))
def awn:=eL vi 352 I (lc (qi .u64) (lc (qi .u64) ln)) d352 (λg=>Q (Vh g.1 g.2.1))
def adE:EO awn:=λh=>kL (an:= .no) func352 aY aI h
abbrev apk:=Int
def d301:Td 0 apk:= .c [] [2] (.r 0 0 (ec 2 aU en) sn (λz=>z.1.1) (λx=>((x,()),(()))))
def aeP(a0:Int):ah apk:=
 bif O (4294967296<=a0)then bif O (65536<=dh IntKind.u64 a0 32)then bif O (256<=dh IntKind.u64 (dh IntKind.u64 a0 32) 16)then if 0<=IntKind.u8.wrap (dh IntKind.u64 (dh IntKind.u64 (dh IntKind.u64 a0 ((32:Int))) ((16:Int))) ((8:Int)))/\IntKind.u8.wrap (dh IntKind.u64 (dh IntKind.u64 (dh IntKind.u64 a0 ((32:Int))) ((16:Int))) ((8:Int)))<256then Q (i64.wrap (56+i64.wrap (cq lE (IntKind.u8.wrap (dh IntKind.u64 (dh IntKind.u64 (dh IntKind.u64 a0 32) 16) 8)).toNat)))else V else if 0<=IntKind.u8.wrap (dh IntKind.u64 (dh IntKind.u64 a0 ((32:Int))) ((16:Int)))/\IntKind.u8.wrap (dh IntKind.u64 (dh IntKind.u64 a0 ((32:Int))) ((16:Int)))<256then Q (i64.wrap (48+i64.wrap (cq lE (IntKind.u8.wrap (dh IntKind.u64 (dh IntKind.u64 a0 32) 16)).toNat)))else V else bif O (256<=dh IntKind.u64 a0 32)then if 0<=IntKind.u8.wrap (dh IntKind.u64 (dh IntKind.u64 a0 ((32:Int))) ((8:Int)))/\IntKind.u8.wrap (dh IntKind.u64 (dh IntKind.u64 a0 ((32:Int))) ((8:Int)))<256then Q (i64.wrap (40+i64.wrap (cq lE (IntKind.u8.wrap (dh IntKind.u64 (dh IntKind.u64 a0 32) 8)).toNat)))else V else if 0<=IntKind.u8.wrap (dh IntKind.u64 a0 ((32:Int)))/\IntKind.u8.wrap (dh IntKind.u64 a0 ((32:Int)))<256then Q (i64.wrap (32+i64.wrap (cq lE (IntKind.u8.wrap (dh IntKind.u64 a0 32)).toNat)))else V else bif O (65536<=a0)then bif O (256<=dh IntKind.u64 a0 16)then if 0<=IntKind.u8.wrap (dh IntKind.u64 (dh IntKind.u64 a0 ((16:Int))) ((8:Int)))/\IntKind.u8.wrap (dh IntKind.u64 (dh IntKind.u64 a0 ((16:Int))) ((8:Int)))<256then Q (i64.wrap (24+i64.wrap (cq lE (IntKind.u8.wrap (dh IntKind.u64 (dh IntKind.u64 a0 16) 8)).toNat)))else V else if 0<=IntKind.u8.wrap (dh IntKind.u64 a0 ((16:Int)))/\IntKind.u8.wrap (dh IntKind.u64 a0 ((16:Int)))<256then Q (i64.wrap (16+i64.wrap (cq lE (IntKind.u8.wrap (dh IntKind.u64 a0 16)).toNat)))else V else bif O (256<=a0)then if 0<=IntKind.u8.wrap (dh IntKind.u64 a0 ((8:Int)))/\IntKind.u8.wrap (dh IntKind.u64 a0 ((8:Int)))<256then Q (i64.wrap (8+i64.wrap (cq lE (IntKind.u8.wrap (dh IntKind.u64 a0 8)).toNat)))else V else if 0<=IntKind.u8.wrap a0/\IntKind.u8.wrap a0<256then Q (i64.wrap (0+i64.wrap (cq lE (IntKind.u8.wrap a0).toNat)))else V
def auW:=eL vi 301 I (lc (qi .u64) ln) d301 (λg=>aeP g.1)
def adO:EO auW:=λh=>kL (an:= .no) func301 aY aI h
abbrev ard:=Int
def d358:Td 0 ard:= .c [] [2] (.r 0 0 (ec 2 aU en) sn (λz=>z.1.1) (λx=>((x,()),(()))))
def alF(a0:Int):ah ard:=
 match aeP a0 with|V=>V|Q r1=>Q (i64.wrap (64-r1))
def are:=eL vi 358 I (lc (qi .u64) ln) d358 (λg=>alF g.1)
def adH:EO are:=λh=>kL (an:= .no) func358 (adO aY) aI h
def atD:bw:=(are eB)
structure mI where
 (t2 t8 t9 t10 t14 t15 t16 t17 t18:Int)
def NU:Td 0 mI:= .c [] [2,8,9,10,14,15,16,17,18] (.r 0 0 (ec 2 (qi .u64) (ec 8 (qi .u64) (ec 9 (qi .u64) (ec 10 (qi .u64) (ec 14 (qi .u64) (ec 15 (qi .u64) (ec 16 (qi .u64) (ec 17 (qi .u64) (ec 18 (qi .u64) en))))))))) sn (λz=>⟨z.1.1,z.1.2.1,z.1.t.1,z.1.t.2.1,z.1.q.1,z.1.q.2.1,z.1.q.t.1,z.1.q.t.2.1,z.1.q.q.1⟩) (λx=>((x.t2,x.t8,x.t9,x.t10,x.t14,x.t15,x.t16,x.t17,x.t18,()),(()))))
def AY(p:mI):ah (ah mI):=
 match bif O (4294967296<=p.t18)then Q (G)else Q (O (IntKind.u64.wrap (IntKind.u64.wrap (4294967296*p.t16)+p.t14)<IntKind.u64.wrap (p.t18*p.t10)))with|V=>V|Q r2=>bif r2 then bif O (4294967296<=IntKind.u64.wrap (p.t16+p.t9))then Q (V)else Q (Q (mI.mk p.t2 p.t8 p.t9 p.t10 p.t14 p.t15 (IntKind.u64.wrap (p.t16+p.t9)) p.t17 (IntKind.u64.wrap (p.t18-1))))else Q (V)
def YO:An:=(.two (.two (.rb [] 113) .no) .no)
def C5:=bJ (AY)
structure nL where
 (t2 t8 t9 t10 t11 t13 t14 t15 t16:Int)
def Ni:Td 0 nL:= .c [] [2,8,9,10,11,13,14,15,16] (.r 0 0 (ec 2 (qi .u64) (ec 8 (qi .u64) (ec 9 (qi .u64) (ec 10 (qi .u64) (ec 11 (qi .u64) (ec 13 (qi .u64) (ec 14 (qi .u64) (ec 15 (qi .u64) (ec 16 (qi .u64) en))))))))) sn (λz=>⟨z.1.1,z.1.2.1,z.1.t.1,z.1.t.2.1,z.1.q.1,z.1.q.2.1,z.1.q.t.1,z.1.q.t.2.1,z.1.q.q.1⟩) (λx=>((x.t2,x.t8,x.t9,x.t10,x.t11,x.t13,x.t14,x.t15,x.t16,()),(()))))
def A9(p:nL):ah (ah nL):=
 match bif O (4294967296<=p.t15)then Q (G)else Q (O (IntKind.u64.wrap (IntKind.u64.wrap (4294967296*p.t16)+p.t13)<IntKind.u64.wrap (p.t15*p.t10)))with|V=>V|Q r1=>bif r1 then bif O (4294967296<=IntKind.u64.wrap (p.t16+p.t9))then Q (V)else Q (Q (nL.mk p.t2 p.t8 p.t9 p.t10 p.t11 p.t13 p.t14 (IntKind.u64.wrap (p.t15-1)) (IntKind.u64.wrap (p.t16+p.t9))))else Q (V)
def Vd:An:=(.two (.two (.rb [] 78) .no) .no)
def HI:=bJ (A9)
abbrev ap9:=Int×Int
def d357:Td 0 ap9:= .c [] [6,7] (.r 0 0 (ec 6 (qi .u64) (ec 7 (qi .u64) en)) sn (λz=>(z.1.1,z.1.2.1)) (λx=>((x.1,x.2,()),(()))))
def ahU:∀f∈([]:aa Nat),bA (atD) f:=aI
def Xt(a0:Int)(a1:Int)(a2:Int):ah ap9:=
 bif O (a2=0)then V else bif O (a2<=a0)then V else bif O (a0=0)then if¬a2=0then if¬a2=0then Q ((IntKind.u64.wrap (a1.tdiv a2),a1.tmod a2))else V else V else match alF a2 with|V=>V|Q r3=>if 0<=IntKind.u64.wrap r3 then if 0<=IntKind.u64.wrap r3 then if 0<=IntKind.u64.wrap ((64:Int)-IntKind.u64.wrap r3)then if 0<=IntKind.u64.wrap r3 then if¬dh IntKind.u64 (mD IntKind.u64 a2 (IntKind.u64.wrap r3)) ((32:Int))=0then match HI (nL.mk (mD IntKind.u64 a2 (IntKind.u64.wrap r3)) (IntKind.u64.wrap r3) (dh IntKind.u64 (mD IntKind.u64 a2 (IntKind.u64.wrap r3)) 32) (tA IntKind.u64 (mD IntKind.u64 a2 (IntKind.u64.wrap r3)) 4294967295) (ZR IntKind.u64 (mD IntKind.u64 a0 (IntKind.u64.wrap r3)) (dh IntKind.u64 a1 (IntKind.u64.wrap (64-IntKind.u64.wrap r3)))) (dh IntKind.u64 (mD IntKind.u64 a1 (IntKind.u64.wrap r3)) 32) (tA IntKind.u64 (mD IntKind.u64 a1 (IntKind.u64.wrap r3)) 4294967295) (IntKind.u64.wrap ((ZR IntKind.u64 (mD IntKind.u64 a0 (IntKind.u64.wrap r3)) (dh IntKind.u64 a1 (IntKind.u64.wrap (64-IntKind.u64.wrap r3)))).tdiv (dh IntKind.u64 (mD IntKind.u64 a2 (IntKind.u64.wrap r3)) 32))) (IntKind.u64.wrap (ZR IntKind.u64 (mD IntKind.u64 a0 (IntKind.u64.wrap r3)) (dh IntKind.u64 a1 (IntKind.u64.wrap (64-IntKind.u64.wrap r3)))-IntKind.u64.wrap (IntKind.u64.wrap ((ZR IntKind.u64 (mD IntKind.u64 a0 (IntKind.u64.wrap r3)) (dh IntKind.u64 a1 (IntKind.u64.wrap (64-IntKind.u64.wrap r3)))).tdiv (dh IntKind.u64 (mD IntKind.u64 a2 (IntKind.u64.wrap r3)) 32))*dh IntKind.u64 (mD IntKind.u64 a2 (IntKind.u64.wrap r3)) 32))))with|V=>V|Q r4=>match bif O (4294967296<=r4.t15)then Q G else Q (O (IntKind.u64.wrap (IntKind.u64.wrap (4294967296*r4.t16)+r4.t13)<IntKind.u64.wrap (r4.t15*r4.t10)))with|V=>V|Q r5=>bif r5 then bif O (4294967296<=IntKind.u64.wrap (r4.t16+r4.t9))then if¬r4.t9=0then match C5 (mI.mk r4.t2 r4.t8 r4.t9 r4.t10 r4.t14 (IntKind.u64.wrap (r4.t15-1)) (IntKind.u64.wrap (IntKind.u64.wrap (IntKind.u64.wrap (IntKind.u64.wrap (r4.t11*4294967296)+r4.t13)-IntKind.u64.wrap (IntKind.u64.wrap (r4.t15-1)*r4.t2))-IntKind.u64.wrap (IntKind.u64.wrap ((IntKind.u64.wrap (IntKind.u64.wrap (IntKind.u64.wrap (r4.t11*4294967296)+r4.t13)-IntKind.u64.wrap (IntKind.u64.wrap (r4.t15-1)*r4.t2))).tdiv r4.t9)*r4.t9))) (IntKind.u64.wrap (IntKind.u64.wrap (IntKind.u64.wrap (r4.t11*4294967296)+r4.t13)-IntKind.u64.wrap (IntKind.u64.wrap (r4.t15-1)*r4.t2))) (IntKind.u64.wrap ((IntKind.u64.wrap (IntKind.u64.wrap (IntKind.u64.wrap (r4.t11*4294967296)+r4.t13)-IntKind.u64.wrap (IntKind.u64.wrap (r4.t15-1)*r4.t2))).tdiv r4.t9)))with|V=>V|Q r6=>match bif O (4294967296<=r6.t18)then Q G else Q (O (IntKind.u64.wrap (IntKind.u64.wrap (4294967296*r6.t16)+r6.t14)<IntKind.u64.wrap (r6.t18*r6.t10)))with|V=>V|Q r7=>bif r7 then bif O (4294967296<=IntKind.u64.wrap (r6.t16+r6.t9))then if 0<=r6.t8 then Q ((IntKind.u64.wrap (IntKind.u64.wrap (r6.t15*4294967296)+IntKind.u64.wrap (r6.t18-1)),dh IntKind.u64 (IntKind.u64.wrap (IntKind.u64.wrap (IntKind.u64.wrap (r6.t17*4294967296)+r6.t14)-IntKind.u64.wrap (IntKind.u64.wrap (r6.t18-1)*r6.t2))) r6.t8))else V else V else if 0<=r6.t8 then Q ((IntKind.u64.wrap (IntKind.u64.wrap (r6.t15*4294967296)+r6.t18),dh IntKind.u64 (IntKind.u64.wrap (IntKind.u64.wrap (IntKind.u64.wrap (r6.t17*4294967296)+r6.t14)-IntKind.u64.wrap (r6.t18*r6.t2))) r6.t8))else V else V else V else if¬r4.t9=0then match C5 (mI.mk r4.t2 r4.t8 r4.t9 r4.t10 r4.t14 r4.t15 (IntKind.u64.wrap (IntKind.u64.wrap (IntKind.u64.wrap (IntKind.u64.wrap (r4.t11*4294967296)+r4.t13)-IntKind.u64.wrap (r4.t15*r4.t2))-IntKind.u64.wrap (IntKind.u64.wrap ((IntKind.u64.wrap (IntKind.u64.wrap (IntKind.u64.wrap (r4.t11*4294967296)+r4.t13)-IntKind.u64.wrap (r4.t15*r4.t2))).tdiv r4.t9)*r4.t9))) (IntKind.u64.wrap (IntKind.u64.wrap (IntKind.u64.wrap (r4.t11*4294967296)+r4.t13)-IntKind.u64.wrap (r4.t15*r4.t2))) (IntKind.u64.wrap ((IntKind.u64.wrap (IntKind.u64.wrap (IntKind.u64.wrap (r4.t11*4294967296)+r4.t13)-IntKind.u64.wrap (r4.t15*r4.t2))).tdiv r4.t9)))with|V=>V|Q r8=>match bif O (4294967296<=r8.t18)then Q G else Q (O (IntKind.u64.wrap (IntKind.u64.wrap (4294967296*r8.t16)+r8.t14)<IntKind.u64.wrap (r8.t18*r8.t10)))with|V=>V|Q r9=>bif r9 then bif O (4294967296<=IntKind.u64.wrap (r8.t16+r8.t9))then if 0<=r8.t8 then Q ((IntKind.u64.wrap (IntKind.u64.wrap (r8.t15*4294967296)+IntKind.u64.wrap (r8.t18-1)),dh IntKind.u64 (IntKind.u64.wrap (IntKind.u64.wrap (IntKind.u64.wrap (r8.t17*4294967296)+r8.t14)-IntKind.u64.wrap (IntKind.u64.wrap (r8.t18-1)*r8.t2))) r8.t8))else V else V else if 0<=r8.t8 then Q ((IntKind.u64.wrap (IntKind.u64.wrap (r8.t15*4294967296)+r8.t18),dh IntKind.u64 (IntKind.u64.wrap (IntKind.u64.wrap (IntKind.u64.wrap (r8.t17*4294967296)+r8.t14)-IntKind.u64.wrap (r8.t18*r8.t2))) r8.t8))else V else V else V else V else V else V else V
def axN:=eL vi 357 I (lc (qi .u64) (lc (qi .u64) (lc (qi .u64) ln))) d357 (λg=>Xt g.1 g.2.1 g.t.1)
def acK:EO axN:=λh=>kL (F:=atD) (an:=(noTwo (noTwo (noTwo (noTwo (noTwo (noTwo (noTwo (noTwo (noTwo (noTwo (noTwo (noTwo (noTwo (noTwo (.two (Ni.lp HI Vd) (noTwo (noTwo (noTwo (.two (NU.lp C5 YO) .no)))))))))))))))))))) (l:=[(bE f357 0,(Ni.lp HI Vd)),(.skip,(.rb [] 78)),(bE f357 1,(NU.lp C5 YO)),(.skip,(.rb [] 113))]) func357 (adH aY) (aB (aO Ni) (aB ahU (aB (aO NU) (aB ahU aI)))) h
abbrev apF:=Int
def d353:Td 0 apF:= .c [] [6] (.r 0 0 (ec 6 (qi .u64) en) sn (λz=>z.1.1) (λx=>((x,()),(()))))
def alN(a0:Int)(a1:Int)(a2:Int):ah apF:=
 if¬a2=0then match Xt (a0.tmod a2) a1 a2 with|V=>V|Q r1=>Q (r1.snd)else V
def av0:=eL vi 353 I (lc (qi .u64) (lc (qi .u64) (lc (qi .u64) ln))) d353 (λg=>alN g.1 g.2.1 g.t.1)
def ae7:EO av0:=λh=>kL (an:= .no) func353 (acK aY) aI h
abbrev atl:=Int
def d340:Td 0 atl:= .c [] [6] (.r 0 0 (ec 6 aU en) sn (λz=>z.1.1) (λx=>((x,()),(()))))
def abz(a0:Int)(a1:Int)(a2:Int):ah atl:=
 match alN (Vh (IntKind.u64.wrap a0) (IntKind.u64.wrap a1)).fst (Vh (IntKind.u64.wrap a0) (IntKind.u64.wrap a1)).snd (IntKind.u64.wrap a2)with|V=>V|Q r1=>Q (i64.wrap r1)
def aqN:=eL vi 340 I (bg (bg (bg ln))) d340 (λg=>abz g.1 g.2.1 g.t.1)
def aa3:EO aqN:=λh=>kL (an:= .no) func340 (ae7 (adE aY)) aI h
end Go.Proofs.YtnfljbehcffmcaaGreat
end
