/- Merged: Iw9, Iw10, Iw11, Iw12, Iw13, Iw14, Iw15, Ixa, Ix1, Ix2, Ua, Ix3, Ix4, Us, Iz, Hl, Um, Hm. -/
import Derived.Test.YtnfljbehcffmcaaGreatM1AbstractCovers
import Derived.Test.YtnfljbehcffmcaaGreatProg
open Nat renaming beq → zb, lt_succ_self → zw, le_trans → zx, blt → zB, le_refl → zD, ble → ya, add_zero → yf, zero_add → yq, blt_eq → yu, le_succ → yx, eq_of_beq_eq_true → yW, zero_le → xm, sub_self → xF
open List renaming length_append → zh, mem_cons_self → zi, getElem?_eq_getElem → zk, replicate → zn, all_eq_true → zo, mem_cons → zy, mem_singleton → zC, mem_cons_of_mem → zJ, length_map → zK, mem_map → zL, mem_append → zU, map_congr_left → zV, getElem?_eq_some_iff → zX, getElem?_map → zY, mem_filter → z6, map_append → yc, map_map → yd, nil_append → yg, map_cons → yh, append_nil → yj, mem_append_left → yA, mem_append_right → yB, nodup_append → yE, replicate_succ → yI, filter_cons → yK, append_assoc → yQ, getElem?_append → yX, size_toArray → yY, eq_nil_of_length_eq_zero → yZ, filterMap_cons → xd, getElem_mem → xx, flatMap_cons → xA, mem_flatMap → xV, filter_filter → xY, filter_congr → xZ, getD_eq_getElem?_getD → x8, length_cons → wj, eraseIdx_sublist → wC, getElem?_replicate → wD, getElem?_append_right → wE
open Bool renaming and_eq_true → zf, or_eq_true → yJ, true → wO, false → wN
open Option renaming map_eq_some_iff → zj, bind_eq_some_iff → zm, some → zF, bind_assoc → zW, map_some → yt, some → V, none → O
open Decidable renaming decide → wP
open Go.Proofs.Tryz renaming prog → wQ
open Go.Proofs.Tryz
set_option linter.unusedSectionVars false
set_option linter.unusedVariables false
set_option linter.unusedSimpArgs false
set_option linter.defProp false
noncomputable section
namespace Go.Iv
variable [U:sX] [L:nQ]
open Go Go.RowKit
def lm(l:List Nat):Nat:=List.rec 0 (fun t _ ih=>Nat.lor ih (Nat.pow 2 t)) l
def Qj:∀(l:List Nat) (t:Nat),(lm l).testBit t=wO↔t∈l
 |[],t=>by simp[lm]
 |a::l,t=>by
  show ((lm l)|||2^a).testBit t=wO↔_
  rw[Nat.testBit_or,yJ,Qj l t,Nat.testBit_two_pow]
  simp only[decide_eq_true_eq,zy]
  constructor
  ·rintro(h|h)
   ·exact .inr h
   ·exact .inl h.symm
  ·rintro(h|h)
   ·exact .inr h.symm
   ·exact .inl h
def and_zero{x y t:Nat}(h:Nat.land x y=0)(hx:x.testBit t=wO)(hy:y.testBit t=wO):False:=by
 have h':x&&&y=0:=h
 have:=Nat.testBit_and x y t
 rw[h',hx,hy]at this
 simp at this
def msk(acc:List Nat)(es:List Edge):Nat:=List.rec 0 (fun e _ ih=>match Region.binds .any e with
 |true=>Nat.lor ih (Nat.lor (Nat.pow 2 e.on) (acc.getD e.on 0))
 |false=>ih) es
def IN{acc:List Nat}:∀{es:List Edge} {j:Nat},(msk acc es).testBit j=wO->∃e∈es,Region.binds .any e=wO/\(j=e.on\/(acc.getD e.on 0).testBit j=wO)
 |[],j,h=>by simp[msk]at h
 |e::es,j,h=>by
  change (match Region.binds .any e with
   |true=>Nat.lor (msk acc es) (Nat.lor (Nat.pow 2 e.on) (acc.getD e.on 0))
   |false=>msk acc es).testBit j=wO at h
  cases hb:Region.binds .any e with
  |false=>
   rw[hb]at h
   obtain⟨e',h1,h2⟩:=IN h
   exact⟨e',zJ _ h1,h2⟩
  |true=>
   rw[hb]at h
   change ((msk acc es)|||((2^e.on)|||(acc.getD e.on 0))).testBit j=wO at h
   rw[Nat.testBit_or,Nat.testBit_or,yJ,yJ,Nat.testBit_two_pow]at h
   rcases h with h|h|h
   ·obtain⟨e',h1,h2⟩:=IN h
    exact⟨e',zJ _ h1,h2⟩
   ·exact⟨e,zi,hb, .inl (by simp only[decide_eq_true_eq]at h;exact h.symm)⟩
   ·exact⟨e,zi,hb, .inr h⟩
def Mk(l:List Oper):List Nat->List Nat:=List.rec (fun acc=>acc) (fun o _ ih acc=>ih (acc++[msk acc o.after.toList])) l
def Rdy(bs:List Bool)(o:Oper):Prop:=∀e∈o.after.toList,Region.binds .any e=wO->bs[e.on]? =V wO
def Fm(ops:List Oper)(bs:List Bool):Prop:=∀(i:Nat) o,ops[i]? =V o->bs[i]? =V wO->Rdy bs o
def X9(ops:List Oper)(acc:List Nat):Prop:=∀(i m:Nat) o,acc[i]? =V m->ops[i]? =V o->∀bs,Fm ops bs->Rdy bs o->∀j,m.testBit j=wO->bs[j]? =V wO
def Sn(ops:List Oper):∀(l:List Oper) (acc:List Nat),(∃pre,ops=pre++l/\pre.length=acc.length)->X9 ops acc->X9 ops (Mk l acc)
 |[],acc,_,h=>h
 |o::l,acc,⟨pre,hp,hl⟩,h=>by
  refine Sn ops l _ ⟨pre++[o],by rw[hp];simp,by simp[hl]⟩ fun i m o' hm ho bs hc hr j hj=> ?_
  rw[yX]at hm
  split at hm
  ·exact h i m o' hm ho bs hc hr j hj
  ·rename_i hlt
   have hi:i=acc.length:=by
    have:=(zX.1 hm).1
    simp at this
    omega
   subst hi
   rw[xF]at hm
   cases hm
   have ho':o'=o:=by
    rw[hp,<-hl,wE (zD _),xF]at ho
    exact(zF.inj ho).symm
   subst ho'
   obtain⟨e,h1,h2,h3⟩:=IN hj
   have h4:=hr e h1 h2
   rcases h3 with rfl|h3
   ·exact h4
   ·cases ha:acc[e.on]? with
    |none=>rw[x8,ha]at h3;simp at h3
    |some m'=>
     rw[x8,ha]at h3
     have hlt':=(zX.1 ha).1
     cases hoe:ops[e.on]? with
     |none=>
      rw[List.getElem?_eq_none_iff,hp,zh]at hoe
      omega
     |some oe=>exact h e.on m' oe ha hoe bs hc (hc e.on oe hoe h4) j h3
def aqR:Operand->List Nat
 | .tmp t=>[t]
 |_=>[]
def ahT(ops:Array Oper)(o:Oper):List Nat:=match o.guard with
 |none=>[]
 |some (j,_)=>match (ops[j]?).bind (·.dst)with
  |some t=>[t]
  |none=>[]
def cX(ops:Array Oper)(o:Oper):List Nat:=o.op.operands.toList.flatMap aqR++ahT ops o
def efk(o:Oper):Bool:=match o.op with
 | .store _ _ _=>wO
 | .buildSlice _ _ _=>wO
 | .makeSlice _ _ _=>wO
 | .alloc _=>wO
 | .box _ _=>wO
 | .slice _ _ _ _ _=>wO
 | .call {callee:= .builtin .len, ..}=>wN
 | .call {callee:= .builtin .max, ..}=>wN
 | .call {callee:= .builtin .min, ..}=>wN
 | .call _=>wO
 |_=>wN
def dmk:Option Nat->Nat
 |none=>0
 |some t=>Nat.pow 2 t
def CN{d:Option Nat}{t:Nat}(h:d=V t):(dmk d).testBit t=wO:=by
 subst h
 show (2^t).testBit t=wO
 rw[Nat.testBit_two_pow];simp
structure Sk where
 anc:Nat
 sm:Nat
 dm:Nat
 ef:Bool
def UI(j:Nat)(a b:Sk):Bool:=b.anc.testBit j||(zb (Nat.land a.dm b.sm) 0&&zb (Nat.land a.dm b.dm) 0&&zb (Nat.land b.dm a.sm) 0)
def MH(b:Sk)(i:Nat)(l:List Sk):Nat->Option (List (Nat×Nat)):=List.rec (fun _=>V []) (fun a _ ih j=>match UI j a b with
 |true=>match !b.anc.testBit j&&(a.ef||b.ef)with
  |true=>(ih (j+1)).map fun ps=>(j,i)::ps
  |false=>ih (j+1)
 |false=>O) l
def Z1(l:List Sk):List Sk->Nat->Option (List (Nat×Nat)):=List.rec (fun _ _=>V []) (fun b _ ih pre i=>(MH b i pre 0).bind fun ps=>(ih (pre++[b]) (i+1)).map fun qs=>ps++qs) l
def Ei{b:Sk}{i:Nat}:∀{l:List Sk} {k:Nat} {ps:List (Nat×Nat)},MH b i l k=V ps->∀(j:Nat) a,l[j]? =V a->UI (k+j) a b=wO/\(b.anc.testBit (k+j)=wO\/(a.ef||b.ef)=wN\/(k+j,i)∈ps)
 |[],k,ps,_,j,a,h=>by cases h
 |a0::l,k,ps,hs,j,a,h=>by
  change (match UI k a0 b with
   |true=>match !b.anc.testBit k&&(a0.ef||b.ef)with
    |true=>(MH b i l (k+1)).map fun ps=>(k,i)::ps
    |false=>MH b i l (k+1)
   |false=>O)=V ps at hs
  cases h0:UI k a0 b with
  |false=>rw[h0]at hs;cases hs
  |true=>
   rw[h0]at hs
   simp only at hs
   cases h1:(!b.anc.testBit k&&(a0.ef||b.ef))with
   |true=>
    rw[h1]at hs
    obtain⟨ps',h2,rfl⟩:=zj.1 hs
    cases j with
    |zero=>cases h;exact⟨h0, .inr (.inr zi)⟩
    |succ j=>
     obtain⟨h3,h4⟩:=Ei h2 j a h
     rw[show k+1+j=k+(j+1)from by omega]at h3 h4
     exact⟨h3,h4.imp id (fun h=>h.imp id fun h=>zJ _ h)⟩
   |false=>
    rw[h1]at hs
    cases j with
    |zero=>
     cases h
     refine⟨h0,?_⟩
     simp only[yf]
     cases hb:b.anc.testBit k with
     |true=>exact .inl rfl
     |false=>rw[hb]at h1;exact .inr (.inl (by simpa using h1))
    |succ j=>
     obtain⟨h3,h4⟩:=Ei hs j a h
     rw[show k+1+j=k+(j+1)from by omega]at h3 h4
     exact⟨h3,h4⟩
def KE:∀{l pre:List Sk} {k:Nat} {ps:List (Nat×Nat)},Z1 l pre k=V ps->pre.length=k->∀(i j:Nat) a b,j<i->k<=i->(pre++l)[j]? =V a->(pre++l)[i]? =V b->UI j a b=wO/\(b.anc.testBit j=wO\/(a.ef||b.ef)=wN\/(j,i)∈ps)
 |[],pre,k,ps,_,hk,i,j,a,b,_,hki,_,hb=>by
  rw[yj]at hb
  have:=(zX.1 hb).1
  omega
 |b0::l,pre,k,ps,hs,hk,i,j,a,b,hji,hki,ha,hb=>by
  change ((MH b0 k pre 0).bind fun ps=>(Z1 l (pre++[b0]) (k+1)).map fun qs=>ps++qs)=V ps at hs
  obtain⟨p1,h1,hs⟩:=zm.1 hs
  obtain⟨p2,h2,rfl⟩:=zj.1 hs
  by_cases hik:i=k
  ·subst hik
   rw[wE (by omega),hk,xF]at hb
   cases hb
   rw[List.getElem?_append_left (by omega)]at ha
   have:=Ei h1 j a ha
   rw[yq]at this
   exact⟨this.1,this.2.imp id fun h=>h.imp id fun h=>yA _ h⟩
  ·have h3:=KE h2 (by simp[hk]) i j a b hji (by omega) (by simpa using ha) (by simpa using hb)
   exact⟨h3.1,h3.2.imp id fun h=>h.imp id fun h=>yB _ h⟩
def akc(ops:Array Oper)(l:List Oper):List Nat->List Sk:=List.rec (fun _=>[]) (fun o _ ih ms=>match ms with
 |m::ms=>⟨m,lm (cX ops o),dmk o.dst,efk o⟩::ih ms
 |[]=>[]) l
def plan(ops:Array Oper):Option (List (Nat×Nat)):=Z1 (akc ops ops.toList (Mk ops.toList [])) [] 0
def Vr(l:List Oper):∀acc:List Nat,(Mk l acc).length=acc.length+l.length:=by
 induction l with
 |nil=>intro acc;rfl
 |cons o l ih=>intro acc;show (Mk l (acc++[_])).length=_;rw[ih];simp;omega
def Dt(ops:Array Oper):∀(l:List Oper) (ms:List Nat) (i:Nat) (o:Oper) (m:Nat),l[i]? =V o->ms[i]? =V m->(akc ops l ms)[i]? =V ⟨m,lm (cX ops o),dmk o.dst,efk o⟩
 |[],_,_,_,_,h,_=>by cases h
 |o0::l,[],_,_,_,_,h=>by cases h
 |o0::l,m0::ms,i,o,m,h1,h2=>by
  show (_::akc ops l ms)[i]? =_
  cases i with
  |zero=>cases h1;cases h2;rfl
  |succ i=>exact Dt ops l ms i o m h1 h2
def ahh(xs:List Nat)(Lo:aY)(ys:List Nat):Bool:=xs.all (fun i=> !dB i ys)&&Lo.all fun p=> !dB p.1 ys
def cfD(c d:Rc):Bool:=(!c.ef||ahh c.wr c.Lo d.rd)&&(!d.ef||ahh d.wr d.Lo c.rd)
def VE(ps:List (Nat×Nat))(cs:List Rc):Bool:=ps.all fun p=>match cs[p.1]?,cs[p.2]? with
 |some c,V d=>cfD c d
 |_,_=>wN
def SL{xs ys:List Nat}{Lo:aY}(h:ahh xs Lo ys=wO):(∀i∈xs,i∉ys)/\∀p∈Lo,p.1∉ys:=by
 unfold ahh at h
 simp only[zf,zo,Bool.not_eq_true']at h
 exact⟨fun i hi=>jy.1 (h.1 i hi),fun p hp=>jy.1 (h.2 p hp)⟩
def agq{ops:Array Oper}{ps:List (Nat×Nat)}{cs:List Rc}(hp:plan ops=V ps)(ho:VE ps cs=wO)(hcs:∀(i:Nat) c,cs[i]? =V c->∃o,ops.toList[i]? =V o/\c.dst=o.dst/\c.sl=cX ops o/\(c.ef=wO->efk o=wO)/\∀i∈c.wr,i∈c.rd)
  {i j:Nat} {c d:Rc} (hji:j<i) (hc:cs[j]? =V c) (hd:cs[i]? =V d):
  CF c d\/∀bs,Fm ops.toList bs->(∀o,ops.toList[i]? =V o->Rdy bs o)->bs[j]? =V wO:=by
 obtain⟨o1,h1,h2,h3,h4,h5⟩:=hcs j c hc
 obtain⟨o2,g1,g2,g3,g4,g5⟩:=hcs i d hd
 have hl1:=(zX.1 h1).1
 have hl2:=(zX.1 g1).1
 have hml:(Mk ops.toList []).length=ops.toList.length:=by rw[Vr];simp
 obtain⟨m1,hm1⟩:∃m,(Mk ops.toList [])[j]? =V m:=⟨_,zk (by rw[hml];exact hl1)⟩
 obtain⟨m2,hm2⟩:∃m,(Mk ops.toList [])[i]? =V m:=⟨_,zk (by rw[hml];exact hl2)⟩
 have s1:=Dt ops ops.toList _ j o1 m1 h1 hm1
 have s2:=Dt ops ops.toList _ i o2 m2 g1 hm2
 obtain⟨q1,q2⟩:=KE hp rfl i j _ _ hji (xm _) s1 s2
 have hmsk:X9 ops.toList (Mk ops.toList []):=Sn ops.toList ops.toList [] ⟨[],rfl,rfl⟩ fun i m o h=>by cases h
 by_cases ha:m2.testBit j=wO
 ·exact .inr fun bs hcl hr=>hmsk i m2 o2 hm2 g1 bs hcl (hr o2 g1) j ha
 ·refine .inl ?_
  have ha':m2.testBit j=wN:=by simpa using ha
  unfold UI at q1
  simp only[ha',Bool.false_or,zf]at q1
  obtain⟨⟨r1,r2⟩,r3⟩:=q1
  have r1:=gA r1
  have r2:=gA r2
  have r3:=gA r3
  have hdyn:(c.ef||d.ef)=wN\/cfD c d=wO:=by
   rcases q2 with q2|q2|q2
   ·exact cQ q2 ha
   ·simp only[Bool.or_eq_false_iff]at q2
    left
    have e1:c.ef=wN:=by
     cases h:c.ef with
     |false=>rfl
     |true=>exact cQ q2.1 (by rw[h4 h];simp)
    have e2:d.ef=wN:=by
     cases h:d.ef with
     |false=>rfl
     |true=>exact cQ q2.2 (by rw[g4 h];simp)
    rw[e1,e2];rfl
   ·right
    have:=zo.1 ho _ q2
    simp only[hc,hd]at this
    exact this
  refine⟨fun t ht=>⟨fun hm=> ?_,fun e=> ?_⟩,fun t ht hm=> ?_,fun he=> ?_,fun he=> ?_⟩
  ·rw[h2]at ht
   rw[g3]at hm
   exact and_zero r1 (CN ht) ((Qj _ _).2 hm)
  ·rw[h2]at ht
   rw[g2]at e
   exact and_zero r2 (CN ht) (CN e)
  ·rw[g2]at ht
   rw[h3]at hm
   exact and_zero r3 (CN ht) ((Qj _ _).2 hm)
  ·rcases hdyn with h|h
   ·rw[he]at h;simp at h
   ·unfold cfD at h
    simp only[he,zf,yJ,Bool.not_eq_true']at h
    have q:=SL (h.1.resolve_left (by simp))
    exact⟨q.1,q.2,fun p hp hx=>q.2 p hp (g5 _ hx)⟩
  ·rcases hdyn with h|h
   ·rw[he]at h;simp at h
   ·unfold cfD at h
    simp only[he,zf,yJ,Bool.not_eq_true']at h
    have q:=SL (h.2.resolve_left (by simp))
    exact⟨q.1,q.2,fun p hp hx=>q.2 p hp (h5 _ hx)⟩
def IR.gX(p:Nat->Prop):IR->Prop
 | .box _ cs=>∀c∈cs,Iv.gX p c
 | .row _ _=>True
def aY.gX(p:Nat->Prop)(R:aY):Prop:=∀q∈R,p q.1/\q.2.gX p
def IR.gX.mono{p q:Nat->Prop}{r:IR}(h:r.gX p)(hn:∀i,p i->q i):r.gX q:=by
 cases r with
 |box T cs=>exact fun c hc=>(h c hc).mono hn
 |row t l=>trivial
def aY.gX.mono{p q:Nat->Prop}{R:aY}(h:aY.gX p R)(hn:∀i,p i->q i):aY.gX q R:=fun x hx=>⟨hn _ (h x hx).1,(h x hx).2.mono hn⟩
def aY.gX.res{p:Nat->Prop}{R:aY}{ρ ρ':Gh}(h:aY.gX p R)(ha:Ags p ρ ρ'):aY.res ρ R=aY.res ρ' R:=zV fun q hq=>by
 obtain⟨h1,h2⟩:=h q hq
 obtain⟨i,r⟩:=q
 cases r with
 |box T cs=>simp only[IR.res];rw[(ha i h1).2,Iv.gX.Wb h2 ha]
 |row t l=>simp only[IR.res];rw[(ha i h1).1]
def aY.gX.perm{p:Nat->Prop}{R R':aY}(h:aY.gX p R)(hp:List.Perm R R'):aY.gX p R':=fun q hq=>h q (hp.mem_iff.2 hq)
def aY.cM.lts{n:Nat}{R:aY}(h:aY.cM n R):aY.gX (fun i=>i<n) R:=fun q hq=>⟨(h q hq).1,by
 have:=(h q hq).2
 cases hr:q.2 with
 |box T cs=>rw[hr]at this;exact this
 |row t l=>trivial⟩
def aY.gX.rN{n:Nat}{R:aY}(h:aY.gX (fun i=>i<n) R):aY.cM n R:=fun q hq=>⟨(h q hq).1,by
 have:=(h q hq).2
 cases hr:q.2 with
 |box T cs=>rw[hr]at this;exact this
 |row t l=>trivial⟩
def Ag(f:Fr)(sl:List Nat):Env:=sl.filterMap fun t=>(f t).map fun d=>(t,d)
def Fh{f:Fr}{t:Nat}{d:AV}:∀{sl:List Nat},(Ag f sl).get t=V d->f t=V d
 |[],h=>by cases h
 |s::sl,h=>by
  unfold Ag at h
  rw[xd]at h
  cases hs:f s with
  |none=>
   rw[hs]at h
   exact Fh (sl:=sl) h
  |some e=>
   rw[hs]at h
   simp only[yt]at h
   unfold Env.get at h
   cases hb:zb s t with
   |true=>
    rw[hb]at h
    cases h
    rw[<-gA hb]
    exact hs
   |false=>
    rw[hb]at h
    exact Fh (sl:=sl) h
def Jy{f:Fr}{t:Nat}{d:AV}:∀{sl:List Nat},t∈sl->f t=V d->(Ag f sl).get t=V d
 |[],h,_=>by cases h
 |s::sl,h,hf=>by
  unfold Ag
  rw[xd]
  by_cases hst:s=t
  ·subst hst
   rw[hf]
   exact Env.e9 _ _ _
  ·have ht:t∈sl:=(zy.1 h).resolve_left fun e=>hst e.symm
   cases f s with
   |none=>exact Jy ht hf
   |some e=>simp only[yt];rw[Env.dO _ _ hst];exact Jy ht hf
def NI{f g:Fr}{sl:List Nat}(h:∀t∈sl,f t=g t):Ag f sl=Ag g sl:=by
 unfold Ag
 induction sl with
 |nil=>rfl
 |cons s sl ih=>
  rw[xd,xd,h s zi,ih fun t ht=>h t (zJ _ ht)]
section
variable {P:Program} {C:Cx} {n:Nat} {o:Oper}
def MtS(C:Cg)(n:Nat)(p:Nat->Prop)(f:Fr)(R:aY)(a:Act)(w:World):Prop:=∃(E:Env) (ρ:Gh),(∀t d,f t=V d->E.get t=V d)/\(∀q∈E,gX p q.2)/\aY.gX p R/\sk C.n C.ρ ρ/\uK C.C n (E.sub ρ) (aY.res ρ R) a w
def pn{ρ:Gh}{R R':aY}(h:List.Perm R R'):List.Perm (aY.res ρ R) (aY.res ρ R'):=h.map _
def kK{ρ:Gh}(R R':aY):aY.res ρ (R++R')=aY.res ρ R++aY.res ρ R':=yc ..
def MtS.perm{C:Cg}{p:Nat->Prop}{f:Fr}{R R':aY}{a:Act}{w:World}(h:MtS C n p f R a w)(hp:List.Perm R R'):MtS C n p f R' a w:=by
 obtain⟨E,ρ,h1,h2,h3,h5,h4⟩:=h
 exact⟨E,ρ,h1,h2,h3.perm hp,h5,h4.perm (pn hp)⟩
def Nlc(nx:Nat)(v:AV)(Ro:aY)(ρ:Gh):Option AV->List cH->Prop:=fun a σ'=>∃ρ',sk nx ρ ρ'/\(a=V (v.sub ρ')\/a=O/\v= .lit undef)/\List.Perm σ' (aY.res ρ' Ro)
def adO{wr rd:List Nat}(h:∀i∈wr,i∈rd)(R:aY):List.Perm (gT wr (bY rd R)++gT rd R) (gT wr R):=by
 have e1:gT wr (bY rd R)=(gT wr R).filter fun p=>dB p.1 rd:=by
  simp only[gT,bY,xY]
  exact xZ fun p _=>Bool.and_comm ..
 have e2:gT rd R=(gT wr R).filter fun p=> !dB p.1 rd:=by
  simp only[gT,xY]
  refine xZ fun p _=> ?_
  cases hm:dB p.1 rd with
  |true=>rfl
  |false=>
   have:dB p.1 wr=wN:=jy.2 fun hw=>jy.1 hm (h _ hw)
   rw[this];rfl
 rw[e1,e2]
 exact List.filter_append_perm _ _
def alT{C:Cg}{p:Nat->Prop}{f:Fr}{R:aY}{a:Act}{w:World}{c:Rc}{nx nx':Nat}{Q:Exit->Act->World->Prop}{K':Act->World->Prop}
  (hn:C.n<=nx) (hm:MtS C n p f R a w) (hdst:c.dst=o.dst) (hd:LM n o.dst=wO) (hwr:∀i∈c.wr,i∈c.rd) (hloc:∀ρ C,Ye P ((Ag f c.sl).sub ρ) (aY.res ρ (bY c.rd R)) o C (Nlc nx c.v (match c.ef with|wO=>c.Lo++gT c.wr (bY c.rd R)|wN=>bY c.rd R) ρ))
  (hp:∀i,p i->¬(nx<=i/\i<nx')) (hv:cM nx' c.v) (hLi:aY.cM nx (bY c.rd R)) (hLo:c.ef=wO->aY.cM nx' c.Lo)
  (hv':gX (fun i=>p i\/(nx<=i/\i<nx')) c.v) (hLo':c.ef=wO->aY.gX (fun i=>p i\/(nx<=i/\i<nx')) c.Lo)
  (hK:∀a' w',a'.defers=a.defers->MtS C n (fun i=>p i\/(nx<=i/\i<nx')) (c.F f) (c.R R) a' w'->K' a' w'):o.wp P a w K' Q:=by
 obtain⟨E,ρ,h1,h2,h3,h0,hsim0⟩:=hm
 have hpm:List.Perm (bY c.rd R++gT c.rd R) R:=List.filter_append_perm _ _
 have hsim:=hsim0.perm (pn (ρ:=ρ) hpm.symm)
 rw[kK]at hsim
 generalize hσi:aY.res ρ (bY c.rd R)=σi at hsim
 generalize hσr:aY.res ρ (gT c.rd R)=σr at hsim
 have hg:=hsim.good
 have hlt:∀b∈bH (σi++σr),b<w.heap.size:=fun b hb=>by
  obtain⟨s,q1,q2⟩:=bR.1 hb
  exact(hg.res s q1).lt q2
 have hal:∀b,al C.C (σi++σr) b->al ⟨w,al C.C (σi++σr),bH σi⟩ σi b:=fun b hA=>⟨.inl hA,fun hx=>hA.2 (bL.2 (.inl hx))⟩
 have hgood:Good ⟨w,al C.C (σi++σr),bH σi⟩ σi w:=⟨Kp.refl _ _,fun r hr=>(hg.res r (yA _ hr)).mono (fun b _ hA=>⟨hal b hA,rfl⟩) (fun _ _=>rfl),by
  have:=hg.F8;rw[gK]at this;exact(yE.1 this).1,fun b hb=> .inl hb⟩
 have hops:MP (al ⟨w,al C.C (σi++σr),bH σi⟩ σi) w ((Ag f c.sl).sub ρ) a.eval:=fun x u hx=>by
  rw[Env.Qh]at hx
  obtain⟨d,hd1,rfl⟩:=zj.1 hx
  have hE:E.ev x=V d:=by
   cases x with
   |tmp t=>exact h1 t d (Fh hd1)
   |_=>exact hd1
  exact(hsim.slots.ops x (d.sub ρ) (by rw[Env.Qh,hE];rfl)).mono fun b _ hA=>⟨hal b hA,rfl⟩
 have step:∀(ρ':Gh) (σo:List cH) (w':World),sk nx ρ ρ'->List.Perm σo (aY.res ρ' (match c.ef with|wO=>c.Lo++gT c.wr (bY c.rd R)|wN=>bY c.rd R))->Tr ⟨w,al C.C (σi++σr),bH σi⟩ (bH σi) σi w σo w'->
   ∃ρ'':Gh,sk C.n C.ρ ρ''/\c.v.sub ρ'=c.v.sub ρ''/\uK C.C n (E.sub ρ'') (aY.res ρ'' (c.R R)) a w'/\(∀b,b<w'.heap.size->al ⟨w,al C.C (σi++σr),bH σi⟩ σo b->al C.C (aY.res ρ'' (c.R R)) b):=fun ρ' σo w' ha hσo ht=>by
  let ρ'':Gh:=⟨fun i=>if nx<=i/\i<nx' then ρ'.v i else ρ.v i,fun i=>if nx<=i/\i<nx' then ρ'.b i else ρ.b i⟩
  have hag:Ags p ρ ρ'':=fun i hi=>by
   have:=hp i hi
   exact⟨by simp only[ρ'',bF this],by simp only[ρ'',bF this]⟩
  have hag2:sk nx' ρ' ρ'':=fun i hi=>by
   by_cases hni:nx<=i
   ·exact⟨by simp only[ρ'',bw (And.intro hni hi)],by simp only[ρ'',bw (And.intro hni hi)]⟩
   ·have h0:¬(nx<=i/\i<nx'):=fun h=>hni h.1
    obtain⟨a1,a2⟩:=ha i (by omega)
    exact⟨by simp only[ρ'',bF h0];exact a1.symm,by simp only[ρ'',bF h0];exact a2.symm⟩
  have hnx:nx<=nx'\/nx'<nx:=by omega
  have hown:∀b∈bH σo,b∈bH σi\/w.heap.size<=b:=ht.good.own
  have hsub:∀b,b<w'.heap.size->al ⟨w,al C.C (σi++σr),bH σi⟩ σo b->al C.C (σo++σr) b:=fun b _ hb=>by
   obtain⟨hb1,hb2⟩:=hb
   rcases hb1 with hb1|hb1|hb1
   ·exact⟨hb1.1,fun hx=>(bL.1 hx).elim hb2 (fun h=>hb1.2 (bL.2 (.inr h)))⟩
   ·have hbp:b∈bH σi:=hb1
    refine⟨?_,fun hx=>(bL.1 hx).elim hb2 (fun h=> ?_)⟩
    ·rcases hg.own b (bL.2 (.inl hbp))with h|h
     ·exact .inr (.inl h)
     ·exact .inr (.inr h)
    ·have hdis:=hg.F8
     rw[gK]at hdis
     exact(yE.1 hdis).2.2 b hbp b h rfl
   ·have hbw:w.heap.size<=b:=hb1
    exact⟨.inr (.inr (zx hg.kept.size hbw)),fun hx=>(bL.1 hx).elim hb2 (fun h=>by have:=hlt b (bL.2 (.inr h));omega)⟩
  have ht2:Tr C.C (bH σi) (σi++σr) w (σo++σr) w':=Cn hg (fun b hA _=> .inl hA) ht (fun r hr=>(ht.good.res r hr).mono (fun b hb hA=>⟨hsub b hb hA,rfl⟩) (fun _ _=>rfl))
  have hs2:=hsim.tr ht2
  have hout:aY.gX p (gT c.rd R):=fun q hq=>h3 q (z6.1 hq).1
  have hEs:E.sub ρ=E.sub ρ'':=zV fun q hq=>by rw[(h2 q hq).sub hag]
  have hrs:σr=aY.res ρ'' (gT c.rd R):=by rw[<-hσr,hout.res hag]
  have hpo:List.Perm (σo++σr) (aY.res ρ'' (c.R R)):=by
   rw[hrs]
   unfold Rc.R
   cases hce:c.ef with
   |true=>
    rw[hce]at hσo
    simp only at hσo ⊢
    have hin:aY.gX p (gT c.wr (bY c.rd R)):=fun q hq=>h3 q (z6.1 (z6.1 hq).1).1
    have hin2:aY.cM nx (gT c.wr (bY c.rd R)):=fun q hq=>hLi q (z6.1 hq).1
    have e1:aY.res ρ' (gT c.wr (bY c.rd R))=aY.res ρ'' (gT c.wr (bY c.rd R)):=by rw[<-hin2.res ha,hin.res hag]
    rw[kK,e1,(hLo hce).res hag2]at hσo
    refine(hσo.append_right _).trans ?_
    rw[yQ,kK,<-kK (gT c.wr (bY c.rd R))]
    exact List.Perm.append_left _ (pn (adO hwr R))
   |false=>
    rw[hce]at hσo
    simp only at hσo ⊢
    have hin:aY.gX p (bY c.rd R):=fun q hq=>h3 q (z6.1 hq).1
    have e1:aY.res ρ' (bY c.rd R)=aY.res ρ'' (bY c.rd R):=by rw[<-hLi.res ha,hin.res hag]
    rw[e1]at hσo
    refine(hσo.append_right _).trans ?_
    rw[<-kK]
    exact pn hpm
  refine⟨ρ'',h0.trans (fun i hi=>⟨by simp only[ρ'',bF (show ¬(nx<=i/\i<nx')by omega)],by simp only[ρ'',bF (show ¬(nx<=i/\i<nx')by omega)]⟩) (zD C.n),hv.sub hag2,by rw[<-hEs];exact hs2.perm hpo,fun b hb hA=>S2 hpo b (hsub b hb hA)⟩
 have fin:∀(ρ':Gh) (σo:List cH) (w':World) (v:Value),sk nx ρ ρ'->List.Perm σo (aY.res ρ' (match c.ef with|wO=>c.Lo++gT c.wr (bY c.rd R)|wN=>bY c.rd R))->Tr ⟨w,al C.C (σi++σr),bH σi⟩ (bH σi) σi w σo w'->
   Rel (al ⟨w,al C.C (σi++σr),bH σi⟩ σo) w' (c.v.sub ρ') v->K' (a.put o.dst v) w':=fun ρ' σo w' v q1 q2 q3 q4=>by
  obtain⟨ρ'',g1,g2,g3,g4⟩:=step ρ' σo w' q1 q2 q3
  have hR':aY.gX (fun i=>p i\/(nx<=i/\i<nx')) (c.R R):=by
   unfold Rc.R
   cases hce:c.ef with
   |false=>exact h3.mono fun i hi=> .inl hi
   |true=>exact fun q hq=>(zU.1 hq).elim (hLo' hce q) fun hq=>⟨.inl (h3 q (z6.1 hq).1).1,(h3 q (z6.1 hq).1).2.mono fun i hi=> .inl hi⟩
  refine hK _ _ (by cases o.dst<;>rfl) ?_
  rw[g2]at q4
  cases hdo:o.dst with
  |none=>exact⟨E,ρ'',fun t d ht=>h1 t d (by unfold Rc.F at ht;rw[hdst,hdo]at ht;simpa using ht),fun q hq=>(h2 q hq).mono fun i hi=> .inl hi,hR',g1,g3⟩
  |some t=>
   refine⟨(t,c.v)::E,ρ'',fun s d hs=> ?_,fun q hq=> ?_,hR',g1,?_⟩
   ·unfold Rc.F at hs
    rw[hdst,hdo]at hs
    by_cases hts:t=s
    ·subst hts
     rw[bw rfl]at hs
     cases hs
     exact Env.e9 _ _ _
    ·rw[bF (fun e=>hts (zF.inj e))]at hs
     rw[Env.dO _ _ hts]
     exact h1 s d hs
   ·rcases zy.1 hq with rfl|hq
    ·exact hv'
    ·exact(h2 q hq).mono fun i hi=> .inl hi
   ·rw[hdo]at hd
    exact g3.put hd (q4.mono fun b hb hA=>⟨g4 b hb hA,rfl⟩)
 unfold Oper.wp
 subst hσi
 rcases hloc ρ _ w a.eval hgood hops with ⟨v,w',av,σ',⟨ρ',q1,q2,q3⟩,r1,r2,r3⟩|⟨w',σ',⟨ρ',q1,q2,q3⟩,r1,r2⟩|⟨g,args,r1,r2⟩
 ·rw[r2]
  rcases q2 with q2|⟨q2,_⟩
  ·cases q2;exact fin ρ' σ' w' v q1 q3 r1 r3
  ·cases q2
 ·rw[r2]
  rcases q2 with q2|⟨_,q2⟩
  ·cases q2
  ·exact fin ρ' σ' w' undef q1 q3 r1 (by rw[q2,bT];exact .lit _)
 ·rw[r1]
  refine Calls.mono r2 fun ee w' ⟨v,av,σ',q0,⟨ρ',q1,q2,q3⟩,s1,s2⟩=> ?_
  subst q0
  rcases q2 with q2|⟨q2,_⟩
  ·cases q2;exact fin ρ' σ' w' v q1 q3 s1 s2
  ·cases q2
end
end Go.Iv
end
noncomputable section
namespace Go.Iv
variable [U:sX] [L:nQ]
open Go Go.RowKit
section
variable {P:Program} {o:Oper} {C:Cx} {N:Option AV->List cH->Prop}
def Ye.TJ{E:Env}{R:aY}{ρ:Gh}{id t:Nat}{l:List (U.dw t)}(hr:gx R id=V (.row t l))
  (h:Ye P (Env.sub ρ (E.map fun p=>(p.1,oC id t l 3 p.2))) (aY.res ρ ((kM id R).map fun p=>(p.1,vK id t l p.2))) o C N):Ye P (E.sub ρ) (aY.res ρ R) o C N:=fun w ϱ hg hρ=>by
 obtain⟨i,hi1,_,hi3⟩:=eM hr
 have hres:=gY (ρ:=ρ) hi1
 have hd:Hd (al C (aY.res ρ R)) [.row (ρ.v id) t l] w:=⟨fun r hr=>by
   rw[zC]at hr
   rw[hr]
   exact hg.res _ (List.mem_of_getElem? hres),fun b hb hA=>hA.2 (by
   obtain⟨r,h1,h2⟩:=bR.1 hb
   rw[zC]at h1
   rw[h1]at h2
   exact bR.2 ⟨_,List.mem_of_getElem? hres,h2⟩)⟩
 have hle:=KS (C:=C) hres hg
 have hbk:bH (aY.res ρ ((kM id R).map fun p=>(p.1,vK id t l p.2)))=bH ((aY.res ρ R).eraseIdx i):=by
  rw[<-A4,<-hi3]
  unfold bH aY.res
  rw[yd,List.filterMap_map,List.filterMap_map]
  congr 1
  funext p
  obtain⟨q,rr⟩:=p
  cases rr<;>rfl
 have hal:∀b,(al C (aY.res ρ R) b\/b∈bH [cH.row (ρ.v id) t l])->al C (aY.res ρ ((kM id R).map fun p=>(p.1,vK id t l p.2))) b:=fun b hb=>by
  have:=hle b hb
  exact⟨this.1,by rw[hbk];exact this.2⟩
 have hrel:∀{d:AV} {v:Value},Rel (al C (aY.res ρ R)) w (d.sub ρ) v->Rel (al C (aY.res ρ ((kM id R).map fun p=>(p.1,vK id t l p.2)))) w ((oC id t l 3 d).sub ρ) v:=fun h=>
  (Dl hd 3 h).mono fun b _ hA=>⟨hal b hA,rfl⟩
 have hsubb:∀b∈bH (aY.res ρ ((kM id R).map fun p=>(p.1,vK id t l p.2))),b∈bH (aY.res ρ R):=fun b hb=>by
  rw[hbk]at hb
  exact ry (fun r hr=>(wC _ _).subset hr) b hb
 have hg':Good C (aY.res ρ ((kM id R).map fun p=>(p.1,vK id t l p.2))) w:=by
  refine⟨hg.kept,fun rr hrr=> ?_,?_,fun b hb=>hg.own b (hsubb b hb)⟩
  ·obtain⟨p,h1,rfl⟩:=zL.1 hrr
   obtain⟨p',h2,rfl⟩:=zL.1 h1
   have hm:p'.2.res ρ p'.1∈aY.res ρ R:=by
    rw[hi3]at h2
    exact zL.2 ⟨p',List.mem_of_mem_eraseIdx h2,rfl⟩
   have h3:=hg.res _ hm
   obtain⟨q,rr⟩:=p'
   cases rr with
   |row t' l'=>exact h3.mono (fun b _ hA=>⟨hal b (.inl hA),rfl⟩) (fun _ _=>rfl)
   |box T cs=>
    obtain⟨us,h4,h5⟩:=h3
    refine⟨us,h4,by simpa using h5.1,fun j av v q1 q2=> ?_⟩
    rw[yd,zY]at q1
    obtain⟨c,hc,rfl⟩:=zj.1 q1
    exact hrel (h5.2 j (c.sub ρ) v (by rw[zY,hc];rfl) q2)
  ·rw[hbk]
   exact hg.F8.sublist ((wC _ _).filterMap _)
 have hops:MP (al C (aY.res ρ ((kM id R).map fun p=>(p.1,vK id t l p.2)))) w (Env.sub ρ (E.map fun p=>(p.1,oC id t l 3 p.2))) ϱ:=fun x u hx=>by
  cases x with
  |tmp k=>
   have hx':Env.get (Env.sub ρ (E.map fun p=>(p.1,oC id t l 3 p.2))) k=V u:=hx
   rw[Env.fe,v7]at hx'
   obtain⟨d',h1,rfl⟩:=zj.1 hx'
   obtain⟨d,h2,rfl⟩:=zj.1 h1
   exact hrel (hρ (.tmp k) (d.sub ρ) (by show Env.get (E.sub ρ) k=_;rw[Env.fe,h2];rfl))
  |const v=>exact(hρ (.const v) u hx).mono fun b _ hA=>⟨hal b (.inl hA),rfl⟩
  |global g=>exact(hρ (.global g) u hx).mono fun b _ hA=>⟨hal b (.inl hA),rfl⟩
  |func f=>exact(hρ (.func f) u hx).mono fun b _ hA=>⟨hal b (.inl hA),rfl⟩
 have htr:∀{σ':List cH} {w':World},Tr C (bH (aY.res ρ ((kM id R).map fun p=>(p.1,vK id t l p.2)))) (aY.res ρ ((kM id R).map fun p=>(p.1,vK id t l p.2))) w σ' w'->Tr C (bH (aY.res ρ R)) (aY.res ρ R) w σ' w':=fun h=>
  ⟨h.good,⟨h.kp.os,h.kp.tape,h.kp.output,h.kp.size,fun k hk hn=>h.kp.block k hk fun hx=>hn (hsubb k hx)⟩,fun b hb hA=>⟨(h.al b hb (hal b (.inl hA))).1,hA.2⟩⟩
 rcases h w ϱ hg' hops with ⟨v,w',av,σ',h1,h2,h3,h4⟩|⟨w',σ',h1,h2,h3⟩|⟨f,args,h1,h2⟩
 ·exact .inl ⟨v,w',av,σ',h1,htr h2,h3,h4⟩
 ·exact .inr (.inl ⟨w',σ',h1,htr h2,h3⟩)
 ·exact .inr (.inr ⟨f,args,h1,h2.mono fun e w' ⟨v,av,σ',q1,q2,q3,q4⟩=>⟨v,av,σ',q1,q2,htr q3,q4⟩⟩)
def YP(sl:List Nat)(T:ET)(E:Env):Prop:=∀t∈sl,∀d,cL T t=V d->E.get t=V d
def Ye.kr{sl:List Nat}{nx:Nat}{ρ:Gh}:∀(ids:List Nat) (T:ET) (E:Env) (R:aY),YP sl T E->E.cM nx->aY.cM nx R->
  (∀E',YP sl (St.kr ⟨T,R,nx⟩ ids).E E'->E'.cM nx->aY.cM nx (St.kr ⟨T,R,nx⟩ ids).R->Ye P (E'.sub ρ) (aY.res ρ (St.kr ⟨T,R,nx⟩ ids).R) o C N)->Ye P (E.sub ρ) (aY.res ρ R) o C N
 |[],T,E,R,hh,hE,hR,h=>h E hh hE hR
 |i::ids,T,E,R,hh,hE,hR,h=>by
  have e0:St.kr ⟨T,R,nx⟩ (i::ids)=(St.Ka ⟨T,R,nx⟩ i).kr ids:=rfl
  rw[e0]at h
  have key:∀s:St,s.nx=nx->s=⟨s.E,s.R,nx⟩:=fun s hs=>by obtain⟨a,b,c⟩:=s;simp only at hs;rw[hs]
  cases hr:gx R i with
  |none=>
   have e1:St.Ka ⟨T,R,nx⟩ i=⟨T,R,nx⟩:=by unfold St.Ka;simp only[hr]
   rw[e1]at h
   exact Ye.kr ids T E R hh hE hR h
  |some rr=>
   cases rr with
   |box T0 cs=>
    have e1:St.Ka ⟨T,R,nx⟩ i=⟨T,R,nx⟩:=by unfold St.Ka;simp only[hr]
    rw[e1]at h
    exact Ye.kr ids T E R hh hE hR h
   |row t l=>
    have e1:St.Ka ⟨T,R,nx⟩ i=⟨emap (oC i t l 3) T,(kM i R).map fun p=>(p.1,vK i t l p.2),nx⟩:=by unfold St.Ka;simp only[hr]
    rw[e1]at h
    refine Ye.TJ hr (Ye.kr ids _ _ _ (fun k hk d hd=> ?_) (fun p hp=> ?_) (fun p hp=> ?_) h)
    ·rw[uU]at hd
     obtain⟨d',h1,rfl⟩:=zj.1 hd
     rw[v7,hh k hk d' h1]
     rfl
    ·obtain⟨p',h1,rfl⟩:=zL.1 hp
     exact pg 3 (hE p' h1)
    ·obtain⟨p',h1,rfl⟩:=zL.1 hp
     have h2:=Dn (id:=i) hR p' h1
     refine⟨h2.1,?_⟩
     obtain⟨q,rr⟩:=p'
     cases rr with
     |row t' l'=>trivial
     |box T0 cs=>
      intro c hc
      obtain⟨c',h3,rfl⟩:=zL.1 hc
      exact pg 3 (h2.2 c' h3)
end
def evL(sl:List Nat)(T:ET):Operand->Option AV
 | .tmp t=>match dB t sl with
  |true=>cL T t
  |false=>O
 |x=>Fy T x
def lK(R1:aY)(nx:Nat)(fz:Bool)(e:fZ):Option (AV×Bool×aY×Nat):=V (match e.vl nx with
 |some d=>d
 |none=> .lit undef,match e with
 | .val _=>fz
 |_=>wO,e.R R1 nx,e.nx nx)
def W4(P:Program)(F:aK)(o:Oper)(sl:List Nat)(ids:List Nat)(s:St):Option (AV×Bool×aY×Nat):=St.rec (fun E1 R1 nx1=>nh o.op P F (evL sl E1) (gx R1) R1 nx1 (lK R1 nx1 (!ids.isEmpty))) (s.kr ids)
def adU(P:Program)(F:aK)(o:Oper)(sl:List Nat)(E:ET)(Rl:aY)(nx:Nat):Option (AV×Bool×aY×Nat):=W4 P F o sl (jd E o.op) ⟨E,Rl,nx⟩
def YH{α:Type}(P:Program)(F:aK)(o:Oper)(sl:List Nat)(ids:List Nat)(D:AV×Bool×aY×Nat->Option α)(s:St):Option α:=St.rec (fun E1 R1 nx1=>nh o.op P F (evL sl E1) (gx R1) R1 nx1 (fun e=>D (match e.vl nx1 with
 |some d=>d
 |none=> .lit undef,match e with
 | .val _=>(!ids.isEmpty)
 |_=>wO,e.R R1 nx1,e.nx nx1))) (s.kr ids)
def GA{α:Type}(P:Program)(F:aK)(o:Oper)(sl:List Nat)(E:ET)(Rl:aY)(nx:Nat)(D:AV×Bool×aY×Nat->Option α):Option α:=YH P F o sl (jd E o.op) D ⟨E,Rl,nx⟩
def DJ{α:Type}{P:Program}{F:aK}(hN:dY F){o:Oper}{sl:List Nat}{E:ET}{Rl:aY}{nx:Nat}(D:AV×Bool×aY×Nat->Option α):(adU P F o sl E Rl nx).bind D=GA P F o sl E Rl nx D:=by
 unfold adU GA W4 YH
 generalize St.kr ⟨E,Rl,nx⟩ (jd E o.op)=s1
 obtain⟨E1,R1,n1⟩:=s1
 exact AW D hN ..
def Q9:∀(ids:List Nat) (s:St),(s.kr ids).nx=s.nx
 |[],s=>rfl
 |i::ids,s=>by
  show ((s.Ka i).kr ids).nx=s.nx
  rw[Q9 ids]
  unfold St.Ka
  split<;>rfl
def aeA{P:Program}{F:aK}{o:Oper}{sl:List Nat}{T:ET}{E:Env}{Rl Lo:aY}{nx nx':Nat}{v:AV}{ef:Bool}(hF:iJ P F)(h:adU P F o sl T Rl nx=V (v,ef,Lo,nx'))(hh:YP sl T E)(hE:E.cM nx)(hR:aY.cM nx Rl):
  (∀ρ C,Ye P (E.sub ρ) (aY.res ρ Rl) o C (Nlc nx v Lo ρ))/\(ef=wN->∀ρ C,Ye P (E.sub ρ) (aY.res ρ Rl) o C (Nlc nx v Rl ρ)):=by
 unfold adU W4 at h
 generalize hs:St.kr ⟨T,Rl,nx⟩ (jd T o.op)=s1 at h
 have hnx:s1.nx=nx:=by rw[<-hs,Q9]
 obtain⟨E1,R1,n1⟩:=s1
 simp only at hnx
 subst hnx
 have h':nh o.op P F (evL sl E1) (gx R1) R1 n1 (lK R1 n1 (!(jd T o.op).isEmpty))=V (v,ef,Lo,nx'):=h
 rw[Kh]at h'
 have main:∀ρ C (Ro:aY),(∀e:fZ,lK R1 n1 (!(jd T o.op).isEmpty) e=V (v,ef,Lo,nx')->e.R R1 n1=Ro)->Ye P (E.sub ρ) (aY.res ρ Rl) o C (Nlc n1 v Ro ρ):=fun ρ C Ro hRo=>by
  refine Ye.kr (sl:=sl) (jd T o.op) T E Rl hh hE hR fun E' hh' hE' hR'=> ?_
  rw[hs]at hh' hR' ⊢
  have hsee:j8 (evL sl E1) (gx R1) n1 E' R1:=⟨fun x d hx=>by
   cases x with
   |tmp t=>
    unfold evL at hx
    simp only at hx
    split at hx
    ·rename_i hm;exact hh' t (fX.1 hm) d hx
    ·cases hx
   |_=>exact hx,fun _ _ h=>h,hE',hR'⟩
  have hst:=Gq (o:=o) hF hsee rfl h' ρ C
  intro w ϱ hg hρ
  have conv:∀a σ',Nx R1 n1 (lK R1 n1 (!(jd T o.op).isEmpty)) (v,ef,Lo,nx') ρ a σ'->Nlc n1 v Ro ρ a σ':=fun a σ' ⟨e,q1,q2,q3,q4,ρ',q5,q6,q7⟩=>by
   refine⟨ρ',q5,?_,by rw[<-hRo e q1];exact q7⟩
   unfold lK at q1
   simp only[zF.injEq,Prod.mk.injEq]at q1
   cases hv:e.vl n1 with
   |some d=>
    rw[hv]at q1 q6
    left
    rw[q6,<-q1.1]
    rfl
   |none=>
    rw[hv]at q1 q6
    right
    exact⟨q6,q1.1.symm⟩
  rcases hst w ϱ hg hρ with ⟨v',w',av,σ',h1,h2,h3,h4⟩|⟨w',σ',h1,h2,h3⟩|⟨f,args,h1,h2⟩
  ·exact .inl ⟨v',w',av,σ',conv _ _ h1,h2,h3,h4⟩
  ·exact .inr (.inl ⟨w',σ',conv _ _ h1,h2,h3⟩)
  ·exact .inr (.inr ⟨f,args,h1,h2.mono fun e w' ⟨v',av,σ',q1,q2,q3,q4⟩=>⟨v',av,σ',q1,conv _ _ q2,q3,q4⟩⟩)
 refine⟨fun ρ C=>main ρ C Lo fun e he=> ?_,fun hef ρ C=>main ρ C Rl fun e he=> ?_⟩
 ·unfold lK at he
  simp only[zF.injEq,Prod.mk.injEq]at he
  exact he.2.2.1
 ·unfold lK at he
  simp only[zF.injEq,Prod.mk.injEq]at he
  cases e with
  |val d=>
   have hemp:jd T o.op=[]:=by
    have h2:(!(jd T o.op).isEmpty)=wN:=by rw[<-hef];exact he.2.1
    simpa using h2
   rw[hemp]at hs
   have:(⟨T,Rl,n1⟩:St)=⟨E1,R1,n1⟩:=hs
   exact(St.mk.inj this).2.1.symm
  |_=>exact cQ (he.2.1.trans hef) (by simp)
end Go.Iv
end
noncomputable section
namespace Go.Iv
variable [U:sX] [L:nQ]
open Go Go.RowKit
def l7(p:Nat->Bool)(n:Nat):AV->Bool:=Nat.rec (fun d=>match d with
 | .lit _=>wO
 | .sl _ _=>wO
 | .rp _ _=>wO
 | .own i=>p i
 | .ptr i _=>p i
 | .ra i _ _ _=>p i
 |_=>wN) (fun _ ih d=>match d with
 | .lit _=>wO
 | .sl _ _=>wO
 | .rp _ _=>wO
 | .own i=>p i
 | .ptr i _=>p i
 | .ra i _ _ _=>p i
 | .agg cs=>cs.all ih
 | .jB cs=>cs.all ih
 | .fn _ cs=>cs.all ih
 | .fp cs=>cs.all ih) n
def Cr{p:Nat->Bool}:∀(n:Nat) {d:AV},l7 p n d=wO->gX (fun i=>p i=wO) d
 |0,d,h=>by
  cases d<;>first|exact .lit _|exact .sl _ _|exact .rp _ _|exact .own _ h|exact .ptr _ _ h|exact .ra _ _ _ _ h|(cases h;done)
 |n+1,d,h=>by
  have hL:∀{cs:List AV},cs.all (l7 p n)=wO->∀c∈cs,gX (fun i=>p i=wO) c:=fun h c hc=>Cr n (zo.1 h c hc)
  cases d<;>first|exact .lit _|exact .sl _ _|exact .rp _ _|exact .own _ h|exact .ptr _ _ h|exact .ra _ _ _ _ h|exact .agg _ (hL h)|exact .jB _ (hL h)|exact .fn _ _ (hL h)|exact .fp _ (hL h)
def Jp{p:Nat->Prop}:∀(n:Nat) {d:AV},gX p d->∀i∈oX n d,p i
 |0,d,h,i,hi=>by
  cases h<;>simp only[oX,zC,List.not_mem_nil]at hi<;>(subst hi;assumption)
 |n+1,d,h,i,hi=>by
  have hL:∀{cs:List AV},(∀c∈cs,gX p c)->i∈cs.flatMap (oX n)->p i:=fun h hi=>by
   obtain⟨c,h1,h2⟩:=xV.1 hi
   exact Jp n (h c h1) i h2
  cases h with
  |agg cs h=>exact hL h hi
  |jB cs h=>exact hL h hi
  |fn f cs h=>exact hL h hi
  |own id h=>simp only[oX,zC]at hi;rw[hi];exact h
  |ptr id off h=>simp only[oX,zC]at hi;rw[hi];exact h
  |ra id t m off h=>simp only[oX,zC]at hi;rw[hi];exact h
  |_=>simp[oX]at hi
def EC(sl:List Nat)(T:ET):List Nat:=sl.flatMap fun t=>match cL T t with
 |some d=>oX 3 d
 |none=>[]
def WH(R:aY):List Nat:=R.flatMap fun q=>q.1::match q.2 with
 | .box _ cs=>cs.flatMap (oX 3)
 | .row _ _=>[]
def VF(al:List Nat)(nx nx' i:Nat):Bool:=dB i al||(ya nx i&&zB i nx')
def okR(al:List Nat)(nx nx':Nat)(R:aY):Bool:=R.all fun q=>VF al nx nx' q.1&&match q.2 with
 | .box _ cs=>cs.all (l7 (VF al nx nx') 3)
 | .row _ _=>wO
def HE{al:List Nat}{nx nx' i:Nat}(h:VF al nx nx' i=wO):i∈al\/(nx<=i/\i<nx'):=by
 unfold VF at h
 simp only[yJ,zf,Nat.ble_eq,yu]at h
 exact h.imp fX.1 id
def ak1{al:List Nat}{nx nx':Nat}{R:aY}(h:okR al nx nx' R=wO):aY.gX (fun i=>i∈al\/(nx<=i/\i<nx')) R:=fun q hq=>by
 have:=zo.1 h q hq
 simp only[zf]at this
 refine⟨HE this.1,?_⟩
 obtain⟨i,r⟩:=q
 cases r with
 |row t l=>trivial
 |box T cs=>exact fun c hc=>(Cr 3 (zo.1 this.2 c hc)).mono fun i hi=>HE hi
def apY(o:Op):Bool:=match o with
 | .move _=>wN
 | .assign _=>wN
 | .pick _ _ _=>wN
 | .unOp _ _ _=>wN
 | .nilCheck _=>wN
 | .fieldAddr _ _ _=>wN
 | .extract _ _=>wN
 | .makeFunc _ _ _=>wN
 | .alloc _=>wN
 |_=>wO
def Z6(o:Op):Bool:=match o with
 | .call {callee:= .value _, ..}=>wO
 |_=>wN
def pO(ops:Array Oper)(o:Oper)(E:ET)(R:aY):List Nat:=match apY o.op with
 |false=>[]
 |true=>match Z6 o.op with
  |false=>EC (cX ops o) E
  |true=>reach R 3 (EC (cX ops o) E)
def inQ(rd:List Nat)(R:aY):aY:=match rd with
 |[]=>[]
 |rd=>bY rd R
def V8(rd:List Nat)(R:aY):inQ rd R=bY rd R:=by
 cases rd with
 |nil=>exact(List.filter_eq_nil_iff.2 fun p _=>by simp[dB]).symm
 |cons a l=>rfl
def rcB(ops:Array Oper)(o:Oper)(E:ET)(Rl:aY)(nx:Nat)(v:AV)(ef:Bool)(Lo:aY)(nx':Nat):Bool:=(fun al=>ya nx nx'&&(!ef||efk o)&&l7 (VF al nx nx') 4 v&&(!ef||okR al nx nx' Lo)) (EC (cX ops o) E++WH Rl)
def afT(e:AV->AV->Bool)(l:List AV):List AV->Bool:=List.rec (fun m=>match m with
 |[]=>wO
 |_=>wN) (fun a _ ih m=>match m with
 |b::m=>e a b&&ih m
 |[]=>wN) l
def al3(ih:AV->AV->Bool)(a b:AV):Bool:=match a,b with
 | .own i, .own j=>zb i j
 | .ptr i o, .ptr j p=>zb i j&&zb o p
 | .fn (.func f) cs, .fn (.func g) ds=>zb f g&&afT ih cs ds
 |_,_=>wN
def eqA(n:Nat):AV->AV->Bool:=Nat.rec (fun _ _=>wN) (fun _ ih=>al3 ih) n
def aj9(a b:IR):Bool:=match a,b with
 | .box T cs, .box T' ds=>zb T T'&&afT (eqA 2) cs ds
 |_,_=>wN
def WK(l:aY):aY->Bool:=List.rec (fun m=>match m with
 |[]=>wO
 |_=>wN) (fun a _ ih m=>match m with
 |b::m=>zb a.1 b.1&&aj9 a.2 b.2&&ih m
 |[]=>wN) l
def It{e:AV->AV->Bool}(he:∀a b,e a b=wO->a=b):∀{l m:List AV},afT e l m=wO->l=m
 |[],[],_=>rfl
 |[],_::_,h=>by cases h
 |_::_,[],h=>by cases h
 |a::l,b::m,h=>by
  change (e a b&&afT e l m)=wO at h
  rw[zf]at h
  rw[he a b h.1,It he h.2]
def YU:∀(n:Nat) {a b:AV},eqA n a b=wO->a=b
 |0,a,b,h=>by cases h
 |n+1,a,b,h=>by
  change al3 (eqA n) a b=wO at h
  unfold al3 at h
  split at h
  ·rw[gA h]
  ·rw[zf]at h;rw[gA h.1,gA h.2]
  ·rw[zf]at h;rw[gA h.1,It (fun a b=>YU n) h.2]
  ·cases h
def K4:∀{l m:aY},WK l m=wO->l=m
 |[],[],_=>rfl
 |[],_::_,h=>by cases h
 |_::_,[],h=>by cases h
 |(i,a)::l,(j,b)::m,h=>by
  change (zb i j&&aj9 a b&&WK l m)=wO at h
  simp only[zf]at h
  have h1:=gA h.1.1
  subst h1
  have h2:=h.1.2
  unfold aj9 at h2
  split at h2
  ·rw[zf]at h2
   rw[gA h2.1,It (fun a b=>YU 2) h2.2,K4 h.2]
  ·cases h2
def trim(K rd:List Nat)(Rl Lo:aY):List Nat×aY:=match K.filter fun i=>dB i rd with
 |[]=>(rd,Lo)
 |k::K=>match WK (bY (k::K) Lo) (bY (k::K) Rl)with
  |true=>(rd.filter fun i=> !dB i (k::K),gT (k::K) Lo)
  |false=>(rd,Lo)
def age(K rd:List Nat)(R Lo:aY):(∀i∈(trim K rd (bY rd R) Lo).1,i∈rd)/\(∀q∈(trim K rd (bY rd R) Lo).2,q∈Lo)/\List.Perm Lo ((trim K rd (bY rd R) Lo).2++gT (trim K rd (bY rd R) Lo).1 (bY rd R)):=by
 have h0:gT rd (bY rd R)=[]:=List.filter_eq_nil_iff.2 fun p hp=>by
  have:dB p.1 rd=wO:=(z6.1 hp).2
  rw[this];simp
 have triv:(∀i∈rd,i∈rd)/\(∀q∈Lo,q∈Lo)/\List.Perm Lo (Lo++gT rd (bY rd R)):=⟨fun _ h=>h,fun _ h=>h,by rw[h0,yj]⟩
 unfold trim
 split
 ·exact triv
 ·rename_i k K' hK
  split
  case h_2=>exact triv
  rename_i he
  have he:=K4 he
  refine⟨fun i hi=>(z6.1 hi).1,fun q hq=>(z6.1 hq).1,?_⟩
  have e1:gT (rd.filter fun i=> !dB i (k::K')) (bY rd R)=bY (k::K') (bY rd R):=by
   unfold gT bY
   refine xZ fun p hp=> ?_
   have hp:dB p.1 rd=wO:=(z6.1 hp).2
   cases hm:dB p.1 (k::K')with
   |true=>
    rw[jy.2 fun hx=> ?_];rfl
    have:=(z6.1 hx).2
    rw[hm]at this;cases this
   |false=>
    rw[fX.2 (z6.2 ⟨fX.1 hp,by rw[hm];rfl⟩)];rfl
  show List.Perm Lo (gT (k::K') Lo++gT (rd.filter fun i=> !dB i (k::K')) (bY rd R))
  rw[e1,<-he]
  exact(List.perm_append_comm.trans (List.filter_append_perm _ _)).symm
def partner(ops:Array Oper)(ps:List (Nat×Nat))(i:Nat):List Nat:=ps.flatMap fun p=>match zb p.1 i with
 |true=>match ops[p.2]? with
  |some o=>match Z6 o.op with
   |true=>[]
   |false=>cX ops o
  |none=>[]
 |false=>match zb p.2 i with
  |true=>match ops[p.1]? with
   |some o=>match Z6 o.op with
    |true=>[]
    |false=>cX ops o
   |none=>[]
  |false=>[]
def aae(ops:Array Oper)(ps:List (Nat×Nat))(cs:List Rc)(E:ET):List Nat:=match ps with
 |[]=>[]
 |p::ps=>EC (partner ops (p::ps) cs.length) E
def dK2(o:Oper)(sl:List Nat)(cs:List Rc)(rd:List Nat)(E:ET)(R:aY){α:Type}(ih:List Rc->St->(List Rc->St->Option α)->Option α)(k:List Rc->St->Option α)(v:AV)(ef:Bool)(nx':Nat)(t:List Nat×aY):Option α:=
 ih (cs++[⟨o.dst,v,sl,rd,t.1,ef,t.2⟩]) ⟨sH o.dst v E,match ef with
  |true=>t.2++gT t.1 R
  |false=>R,nx'⟩ k
def dK(ops:Array Oper)(ps:List (Nat×Nat))(o:Oper)(cs:List Rc)(rd:List Nat)(E:ET)(R Rl:aY)(nx:Nat){α:Type}(ih:List Rc->St->(List Rc->St->Option α)->Option α)(k:List Rc->St->Option α)(x:AV×Bool×aY×Nat):Option α:=
 match rcB ops o E Rl nx x.1 x.2.1 x.2.2.1 x.2.2.2 with
 |true=>dK2 o (cX ops o) cs rd E R ih k x.1 x.2.1 x.2.2.2 (trim (aae ops ps cs E) rd Rl x.2.2.1)
 |false=>O
def aru{α:Type}(P:Program)(F:aK)(ops:Array Oper)(ps:List (Nat×Nat))(o:Oper)(ih:List Rc->St->(List Rc->St->Option α)->Option α)(cs:List Rc)(k:List Rc->St->Option α)(E:ET)(R:aY)(nx:Nat)(rd:List Nat)(Rl:aY):Option α:=
 GA P F o (cX ops o) E Rl nx (dK ops ps o cs rd E R Rl nx ih k)
def awP{α:Type}(P:Program)(F:aK)(ops:Array Oper)(ps:List (Nat×Nat))(o:Oper)(ih:List Rc->St->(List Rc->St->Option α)->Option α)(cs:List Rc)(k:List Rc->St->Option α)(s:St):Option α:=
 St.rec (fun E R nx=>(fun rd=>aru P F ops ps o ih cs k E R nx rd (inQ rd R)) (pO ops o E R)) s
def dNo{α:Type}(ops:Array Oper)(o:Oper)(ih:List Rc->St->(List Rc->St->Option α)->Option α)(cs:List Rc)(k:List Rc->St->Option α)(s:St):Option α:=
 ih (cs++[⟨o.dst, .lit undef,cX ops o,[],[],wN,[]⟩]) ⟨sH o.dst (.lit undef) s.E,s.R,s.nx⟩ k
def Ut{α:Type}(P:Program)(F:aK)(n:Nat)(ops:Array Oper)(ps:List (Nat×Nat))(o:Oper)(ih:List Rc->St->(List Rc->St->Option α)->Option α)(cs:List Rc)(s:St)(k:List Rc->St->Option α):Option α:=match LM n o.dst with
 |true=>gate ops o s (awP P F ops ps o ih cs k) (dNo ops o ih cs k)
 |false=>O
def Vo{α:Type}(P:Program)(F:aK)(n:Nat)(ops:Array Oper)(ps:List (Nat×Nat))(l:List Oper):List Rc->St->(List Rc->St->Option α)->Option α:=List.rec (fun cs s k=>k cs s) (fun o _ ih=>Ut P F n ops ps o ih) l
def XD(l:List Oper):Nat->Bool:=List.rec (fun _=>wO) (fun o _ ih i=>(o.after.toList.all fun e=> !Region.binds .any e||zB e.on i)&&ih (i+1)) l
def K7:∀{l:List Oper} {k:Nat},XD l k=wO->∀(i:Nat) o,l[i]? =V o->∀e∈o.after.toList,Region.binds .any e=wO->e.on<k+i
 |[],k,_,i,o,h,_,_,_=>by cases h
 |o0::l,k,hb,i,o,h,e,he,hbe=>by
  change ((o0.after.toList.all fun e=> !Region.binds .any e||zB e.on k)&&XD l (k+1))=wO at hb
  simp only[zf]at hb
  cases i with
  |zero=>
   cases h
   have:=zo.1 hb.1 e he
   rw[hbe]at this
   simpa [yu]using this
  |succ i=>
   have:=K7 hb.2 i o h e he hbe
   omega
def GO{α:Type}(P:Program)(F:aK)(n:Nat)(ops:Array Oper)(s:St)(k:St->Option α):Option α:=match P.follows .mixedOrders&&XD ops.toList 0 with
 |true=>match plan ops with
  |some ps=>Vo P F n ops ps ops.toList [] s fun cs s'=>match VE ps cs with
   |true=>k s'
   |false=>O
  |none=>O
 |false=>O
def Dw(ops:Array Oper)(o:Oper)(f:Fr)(wn:Bool):Prop:=match o.guard with
 |none=>wn=wO
 |some (j,want)=>∃t,(ops[j]?).bind (·.dst)=V t/\((∃b,f t=V (.lit (.bool b))/\wn=(b==want))\/(∃vs,f t=V (.lit (.tuple vs))/\wn=wN))
structure AI (P:Program) (n:Nat) (ops:Array Oper) (o:Oper) (f:Fr) (R:aY) (nx:Nat) (c:Rc) (nx':Nat):Prop where
 dst:c.dst=o.dst
 sl:c.sl=cX ops o
 ef:c.ef=wO->efk o=wO
 dn:LM n o.dst=wO
 le:nx<=nx'
 run:(Dw ops o f wN/\c.v= .lit undef/\c.ef=wN)\/(Dw ops o f wO/\∀ρ C,Ye P ((Ag f c.sl).sub ρ) (aY.res ρ (bY c.rd R)) o C (Nlc nx c.v (match c.ef with|wO=>c.Lo++gT c.wr (bY c.rd R)|wN=>bY c.rd R) ρ))
 wr:∀i∈c.wr,i∈c.rd
 lin:aY.cM nx (bY c.rd R)
 lv:cM nx' c.v
 lo:c.ef=wO->aY.cM nx' c.Lo
 ids:∀p:Nat->Prop,(∀t∈c.sl,∀d,f t=V d->gX p d)->aY.gX p (bY c.rd R)->gX (fun i=>p i\/(nx<=i/\i<nx')) c.v/\(c.ef=wO->aY.gX (fun i=>p i\/(nx<=i/\i<nx')) c.Lo)
inductive Ch (P:Program) (n:Nat) (ops:Array Oper):Fr->aY->Nat->List Oper->List Rc->Fr->aY->Nat->Prop
 |nil (f:Fr) (R:aY) (nx:Nat):Ch P n ops f R nx [] [] f R nx
 |cons {f f':Fr} {R R':aY} {nx nx1 nx':Nat} {o:Oper} {os:List Oper} {c:Rc} {cs:List Rc} (h:AI P n ops o f R nx c nx1) (hs:Ch P n ops (c.F f) (c.R R) nx1 os cs f' R' nx'):Ch P n ops f R nx (o::os) (c::cs) f' R' nx'
def ank{α:Type}{r:α}{ops:Array Oper}{o:Oper}{s:St}{yes no:St->Option α}(h:gate ops o s yes no=V r){f:Fr}(hf:∀t d,cL s.E t=V d->f t=V d):∃s':St,s'.R=s.R/\s'.nx=s.nx/\(∀t d,cL s'.E t=V d->f t=V d)/\
  ((Dw ops o f wO/\yes s'=V r)\/(Dw ops o f wN/\no s'=V r)):=by
 unfold gate at h
 unfold Dw
 split at h
 ·rename_i hg
  exact⟨s,rfl,rfl,hf, .inl ⟨by first|rw[hg]|rfl,h⟩⟩
 ·rename_i j want hg
  split at h
  ·cases h
  ·rename_i t hj
   have hput:∀b,cL s.E t=V (.lit (.bool b))->∀k d,cL (s.fW t b).E k=V d->f k=V d:=fun b hb k d hk=>by
    have hk':cL (mC t (.b b) s.E) k=V d:=hk
    rcases qm hk' with ⟨rfl,rfl⟩|⟨_,h2⟩
    ·exact hf _ _ hb
    ·exact hf k d h2
   split at h
   ·rename_i b hb
    have hfb:=hf _ _ hb
    split at h
    ·split at h
     ·exact⟨s.fW t wO,rfl,rfl,hput _ hb, .inl ⟨by(try rw[hg]);exact⟨t,hj, .inl ⟨_,hfb,rfl⟩⟩,h⟩⟩
     ·exact⟨s.fW t wO,rfl,rfl,hput _ hb, .inr ⟨by(try rw[hg]);exact⟨t,hj, .inl ⟨_,hfb,rfl⟩⟩,h⟩⟩
    ·split at h
     ·exact⟨s.fW t wN,rfl,rfl,hput _ hb, .inr ⟨by(try rw[hg]);exact⟨t,hj, .inl ⟨_,hfb,rfl⟩⟩,h⟩⟩
     ·exact⟨s.fW t wN,rfl,rfl,hput _ hb, .inl ⟨by(try rw[hg]);exact⟨t,hj, .inl ⟨_,hfb,rfl⟩⟩,h⟩⟩
   ·rename_i vs hb
    exact⟨s,rfl,rfl,hf, .inr ⟨by(try rw[hg]);exact⟨t,hj, .inr ⟨_,hf _ _ hb,rfl⟩⟩,h⟩⟩
   ·cases h
def Yy{dst:Option Nat}{v:AV}{E:ET}{f:Fr}{c:Rc}(hc:c.dst=dst)(hv:c.v=v)(hf:∀t d,cL E t=V d->f t=V d):∀t d,cL (sH dst v E) t=V d->c.F f t=V d:=fun t d h=>by
 unfold sH at h
 unfold Rc.F
 rw[hc,hv]
 cases dst with
 |none=>simpa using hf t d h
 |some s=>
  rcases qm h with ⟨rfl,rfl⟩|⟨h1,h2⟩
  ·rw[bw rfl]
  ·rw[bF (fun e=>h1 (zF.inj e))]
   exact hf t d h2
def Ye.mono{P:Program}{C:Cx}{E:Env}{σ:List cH}{o:Oper}{N N':Option AV->List cH->Prop}(h:Ye P E σ o C N)(hN:∀a σ',N a σ'->N' a σ'):Ye P E σ o C N':=fun w ϱ hg hρ=>by
 rcases h w ϱ hg hρ with ⟨v,w',av,σ',h1,h2,h3⟩|⟨w',σ',h1,h2,h3⟩|⟨f,args,h1,h2⟩
 ·exact .inl ⟨v,w',av,σ',hN _ _ h1,h2,h3⟩
 ·exact .inr (.inl ⟨w',σ',hN _ _ h1,h2,h3⟩)
 ·exact .inr (.inr ⟨f,args,h1,Calls.mono h2 fun e w' ⟨v,av,σ',q1,q2,q3⟩=>⟨v,av,σ',q1,hN _ _ q2,q3⟩⟩)
def OH{α:Type}{r:α}{P:Program}{F:aK}{n:Nat}{ops:Array Oper}{ps:List (Nat×Nat)}(hF:iJ P F)(hN:dY F){k:List Rc->St->Option α}:∀(l:List Oper) {cs:List Rc} {s:St} {f:Fr},Vo P F n ops ps l cs s k=V r->(∀t d,cL s.E t=V d->f t=V d)->(∀t d,f t=V d->cM s.nx d)->aY.cM s.nx s.R->
  ∃(cs':List Rc) (s':St) (f':Fr),k (cs++cs') s'=V r/\Ch P n ops f s.R s.nx l cs' f' s'.R s'.nx/\(∀t d,cL s'.E t=V d->f' t=V d)
 |[],cs,s,f,h,hf,_,_=>⟨[],s,f,by rw[yj];exact h, .nil f s.R s.nx,hf⟩
 |o::l,cs,s,f,h,hf,hfl,hR=>by
  change Ut P F n ops ps o (Vo P F n ops ps l) cs s k=V r at h
  unfold Ut at h
  split at h
  case h_2=>cases h
  rename_i hd
  obtain⟨s1,e1,e2,hf1,⟨hg,h1⟩|⟨hg,h1⟩⟩:=ank h hf
  ·obtain⟨E,R,nx⟩:=s1
   obtain⟨E0,R0,nx0⟩:=s
   simp only at e1 e2 hf1
   subst e1 e2
   change GA P F o (cX ops o) E (inQ (pO ops o E R) R) nx (dK ops ps o cs (pO ops o E R) E R (inQ (pO ops o E R) R) nx (Vo P F n ops ps l) k)=V r at h1
   rw[<-DJ hN]at h1
   generalize hrd:pO ops o E R=rd at h1
   obtain⟨⟨v,ef,Lo,nx'⟩,h2,h3⟩:=zm.1 h1
   unfold dK at h3
   split at h3
   case h_2=>cases h3
   rename_i hb
   rw[V8]at h2 hb
   simp only at h3 hb
   unfold rcB at hb
   simp only[zf,Nat.ble_eq,yJ,Bool.not_eq_true']at hb
   obtain⟨⟨⟨hb1,hb2⟩,hb3⟩,hb4⟩:=hb
   have hin:aY.cM nx (bY rd R):=fun q hq=>hR q (z6.1 hq).1
   have hlE:(Ag f (cX ops o)).cM nx:=fun q hq=>by
    obtain⟨t,_,ht⟩:=List.mem_filterMap.1 hq
    obtain⟨d,hd1,hd2⟩:=zj.1 ht
    rw[<-hd2]
    exact hfl t d hd1
   obtain⟨y1,y2⟩:=aeA hF h2 (E:=Ag f (cX ops o)) (fun t ht d hdd=>Jy ht (hf1 t d hdd)) hlE hin
   have hal:∀p:Nat->Prop,(∀t∈cX ops o,∀d,f t=V d->gX p d)->aY.gX p (bY rd R)->∀i∈EC (cX ops o) E++WH (bY rd R),p i:=fun p hp1 hp2 i hi=>by
    rcases zU.1 hi with hi|hi
    ·obtain⟨t,ht,hi⟩:=xV.1 hi
     split at hi
     ·rename_i d hdd;exact Jp 3 (hp1 t ht d (hf1 t d hdd)) i hi
     ·cases hi
    ·obtain⟨q,hq,hi⟩:=xV.1 hi
     obtain⟨g1,g2⟩:=hp2 q hq
     rcases zy.1 hi with rfl|hi
     ·exact g1
     ·obtain⟨j,rr⟩:=q
      cases rr with
      |row t l=>cases hi
      |box T cs=>
       obtain⟨c,hc,hi⟩:=xV.1 hi
       exact Jp 3 (g2 c hc) i hi
   obtain⟨t1,t2,t3⟩:=age (aae ops ps cs E) rd R Lo
   rw[V8]at h3
   generalize trim (aae ops ps cs E) rd (bY rd R) Lo=tr at h3 t1 t2 t3
   obtain⟨wr,Lo'⟩:=tr
   simp only at t1 t2 t3
   have hids:∀p:Nat->Prop,(∀t∈cX ops o,∀d,f t=V d->gX p d)->aY.gX p (bY rd R)->gX (fun i=>p i\/(nx<=i/\i<nx')) v/\(ef=wO->aY.gX (fun i=>p i\/(nx<=i/\i<nx')) Lo'):=fun p hp1 hp2=>
    ⟨(Cr 4 hb3).mono fun i hi=>(HE hi).imp (hal p hp1 hp2 i) id,fun he q hq=>((ak1 (hb4.resolve_left (by rw[he];simp))).mono fun i hi=>hi.imp (hal p hp1 hp2 i) id) q (t2 q hq)⟩
   obtain⟨g1,g2⟩:=hids (fun i=>i<nx) (fun t _ d hdd=>hfl t d hdd) hin.lts
   have hlt:∀i,(i<nx\/(nx<=i/\i<nx'))->i<nx':=fun i hi=>by omega
   have hfact:AI P n ops o f R nx ⟨o.dst,v,cX ops o,rd,wr,ef,Lo'⟩ nx':=⟨rfl,rfl,fun he=>hb2.resolve_left (by simp only at he;rw[he];simp),hd,hb1, .inr ⟨hg,fun ρ C=>by
     cases ef with
     |true=>exact Ye.mono (y1 ρ C) fun a σ' ⟨ρ',z1,z2,z3⟩=>⟨ρ',z1,z2,z3.trans (pn t3)⟩
     |false=>exact y2 rfl ρ C⟩,t1,hin,g1.mono hlt,fun he=>(aY.gX.mono (g2 he) hlt).rN,hids⟩
   have hR':aY.cM nx' (Rc.R ⟨o.dst,v,cX ops o,rd,wr,ef,Lo'⟩ R):=by
    unfold Rc.R
    cases ef with
    |false=>exact hR.mono hb1
    |true=>exact fun q hq=>(zU.1 hq).elim (fun hq=>((aY.gX.mono (g2 rfl) hlt).rN) q hq) fun hq=>(hR.mono hb1) q (z6.1 hq).1
   have h4:Vo P F n ops ps l (cs++[⟨o.dst,v,cX ops o,rd,wr,ef,Lo'⟩]) ⟨sH o.dst v E,Rc.R ⟨o.dst,v,cX ops o,rd,wr,ef,Lo'⟩ R,nx'⟩ k=V r:=h3
   obtain⟨cs',s',f',q1,q2,q3⟩:=OH hF hN l (f:=Rc.F ⟨o.dst,v,cX ops o,rd,wr,ef,Lo'⟩ f) h4 (Yy rfl rfl hf1) (fun t d hdd=>by
    unfold Rc.F at hdd
    split at hdd
    ·cases hdd;exact g1.mono hlt
    ·exact cM.mono (hfl t d hdd) hb1) hR'
   exact⟨_::cs',s',f',by simpa using q1, .cons hfact q2,q3⟩
  ·obtain⟨E,R,nx⟩:=s1
   obtain⟨E0,R0,nx0⟩:=s
   simp only at e1 e2 hf1
   subst e1 e2
   have hin:aY.cM nx (bY [] R):=fun q hq=>hR q (z6.1 hq).1
   have hfact:AI P n ops o f R nx ⟨o.dst, .lit undef,cX ops o,[],[],false,[]⟩ nx:=⟨rfl,rfl,fun h=>(by cases h),hd,zD _, .inl ⟨hg,rfl,rfl⟩,fun _ h=>(by cases h),hin, .lit _,fun h=>(by cases h),fun p _ _=>⟨.lit _,fun h=>(by cases h)⟩⟩
   have h2:Vo P F n ops ps l (cs++[⟨o.dst, .lit undef,cX ops o,[],[],wN,[]⟩]) ⟨sH o.dst (.lit undef) E,R,nx⟩ k=V r:=h1
   obtain⟨cs',s',f',q1,q2,q3⟩:=OH hF hN l (f:=Rc.F ⟨o.dst, .lit undef,cX ops o,[],[],wN,[]⟩ f) h2 (Yy rfl rfl hf1) (fun t d hdd=>by
    unfold Rc.F at hdd
    split at hdd
    ·cases hdd;exact .lit _
    ·exact hfl t d hdd) hR
   exact⟨_::cs',s',f',by simpa using q1, .cons hfact q2,q3⟩
end Go.Iv
end
noncomputable section
namespace Go.Iv
variable [U:sX] [L:nQ]
open Go Go.RowKit
section
variable {P:Program} {n:Nat} {ops:Array Oper}
def Ch.idx{f f':Fr}{R R':aY}{nx nx':Nat}{os:List Oper}{cs:List Rc}(h:Ch P n ops f R nx os cs f' R' nx'):cs.length=os.length/\f'=gH cs (zn cs.length wO) f/\R'=gW cs (zn cs.length wO) R/\
  ∃g:Nat->Nat,g 0=nx/\g os.length=nx'/\(∀i,i<os.length->g i<=g (i+1))/\∀(i:Nat) o c,os[i]? =V o->cs[i]? =V c->AI P n ops o (gH (cs.take i) (zn i wO) f) (gW (cs.take i) (zn i wO) R) (g i) c (g (i+1)):=by
 induction h with
 |nil f R nx=>exact⟨rfl,rfl,rfl,fun _=>nx,rfl,rfl,fun i hi=>by simp at hi,fun i o c h=>by cases h⟩
 |@cons f f' R R' nx nx1 nx' o os c cs h hs ih=>
  obtain⟨h1,h2,h3,g,g0,g1,g2,g3⟩:=ih
  refine⟨by simp[h1],by rw[h2];rfl,by rw[h3];rfl,fun i=>match i with|0=>nx|i+1=>g i,rfl,g1,fun i hi=> ?_,fun i o' c' q1 q2=> ?_⟩
  ·cases i with
   |zero=>show nx<=g 0;rw[g0];exact h.le
   |succ i=>exact g2 i (by simpa using hi)
  ·cases i with
   |zero=>cases q1;cases q2;show AI P n ops o f R nx c (g 0);rw[g0];exact h
   |succ i=>exact g3 i o' c' q1 q2
def Xx{g:Nat->Nat}{N:Nat}(h:∀i,i<N->g i<=g (i+1)):∀i j,i<=j->j<=N->g i<=g j:=fun i j hij hj=>by
 induction j with
 |zero=>
  have:i=0:=by omega
  subst this;exact zD _
 |succ j ih=>
  by_cases hi:i=j+1
  ·subst hi;exact zD _
  ·exact zx (ih (by omega) (by omega)) (h j (by omega))
def qP:List Bool->Nat
 |[]=>0
 |b::bs=>(match b with|wO=>0|wN=>1)+qP bs
def Kv:∀{bs:List Bool} {i:Nat},bs[i]? =V wN->qP bs=qP (bs.set i wO)+1
 |[],_,h=>by cases h
 |b::bs,0,h=>by
  simp only[List.getElem?_cons_zero,zF.injEq]at h
  subst h
  show 1+qP bs=(0+qP bs)+1
  omega
 |b::bs,i+1,h=>by
  have:=Kv (bs:=bs) (i:=i) (by simpa using h)
  cases b with
  |true=>
   show 0+qP bs=(0+qP (bs.set i wO))+1
   omega
  |false=>
   show 1+qP bs=(1+qP (bs.set i wO))+1
   omega
def Lk:∀N:Nat,qP (zn N wN)=N
 |0=>rfl
 |N+1=>by rw[yI];show 1+qP (zn N wN)=N+1;rw[Lk N];omega
def G1:∀{bs:List Bool},qP bs=0->bs=zn bs.length wO
 |[],_=>rfl
 |b::bs,h=>by
  cases b with
  |true=>rw[wj,yI,<-G1 (bs:=bs) (by have:0+qP bs=0:=h;omega)]
  |false=>have:1+qP bs=0:=h;omega
def K0:∀{bs:List Bool},qP bs≠0->∃i:Nat,bs[i]? =V wN/\∀j,j<i->bs[j]? =V wO
 |[],h=>cQ rfl h
 |b::bs,h=>by
  cases b with
  |false=>exact⟨0,rfl,fun j hj=>by omega⟩
  |true=>
   obtain⟨i,h1,h2⟩:=K0 (bs:=bs) (fun e=>h (by show 0+qP bs=0;omega))
   refine⟨i+1,h1,fun j hj=> ?_⟩
   cases j with
   |zero=>rfl
   |succ j=>exact h2 j (by omega)
def mem_ready{listed:Array Bool}{i:Nat}:i∈Region.ready .any ops listed↔i<ops.size/\listed.getD i wO=wN/\∃o,ops[i]? =V o/\∀e∈o.after.toList,Region.binds .any e=wO->listed.getD e.on wN=wO:=by
 unfold Region.ready
 simp only[z6,List.mem_range,zf,Bool.not_eq_true']
 refine and_congr_right fun hi=>and_congr_right fun _=> ?_
 rw[Array.getElem?_eq_getElem hi]
 simp only[yt,Option.getD_some,zF.injEq,exists_eq_left']
 rw[Array.all_eq_true']
 constructor
 ·intro h e he hb
  have:=h e (by simpa using he)
  rw[hb]at this
  simpa using this
 ·intro h e he
  cases hb:Region.binds .any e with
  |false=>rfl
  |true=>simpa using h e (by simpa using he) hb
def AR{listed:Array Bool}{i:Nat}(hi:i<listed.size):listed.getD i wO=wN↔listed.toList[i]? =V wN:=by
 rw[Array.getD_eq_getD_getElem?,Array.getElem?_eq_getElem hi,zk (by simpa using hi)]
 simp
def EA{listed:Array Bool}{i:Nat}:listed.getD i wN=wO↔listed.toList[i]? =V wO:=by
 rw[Array.getD_eq_getD_getElem?]
 cases h:listed[i]? with
 |none=>simp[h]
 |some b=>simp[h]
def aoY{C:Cg}{cs:List Rc}{f0:Fr}{R0:aY}{nx0:Nat}{g:Nat->Nat}{ds:List Deferred}{Q:Exit->Act->World->Prop}
  (hlen:cs.length=ops.size) (g0:g 0=nx0) (gn:C.n<=nx0) (g2:∀i,i<ops.size->g i<=g (i+1)) (hf:∀(i:Nat) o c,ops.toList[i]? =V o->cs[i]? =V c->AI P n ops o (gH (cs.take i) (zn i wO) f0) (gW (cs.take i) (zn i wO) R0) (g i) c (g (i+1)))
  (hcf:∀(i j:Nat) (c d:Rc),j<i->cs[j]? =V c->cs[i]? =V d->CF c d\/∀bs,Fm ops.toList bs->(∀o,ops.toList[i]? =V o->Rdy bs o)->bs[j]? =V wO)
  (hback:∀(i:Nat) o,ops.toList[i]? =V o->∀e∈o.after.toList,Region.binds .any e=wO->e.on<i)
  (hQ:∀a w,a.defers=ds->MtS C n (fun i=>i<g ops.size) (gH cs (zn cs.length wO) f0) (gW cs (zn cs.length wO) R0) a w->Q .normal a w):
  ∀(fuel:Nat) (listed:Array Bool) (a:Act) (w:World),listed.size=ops.size->qP listed.toList=fuel->Fm ops.toList listed.toList->a.defers=ds->
   MtS C n (fun x=>x<nx0\/∃j:Nat,listed.toList[j]? =V wO/\g j<=x/\x<g (j+1)) (gH cs listed.toList f0) (gW cs listed.toList R0) a w->wpAny P .any ops Q fuel listed a w:=by
 have hmono:=Xx (N:=ops.size) (g:=g) g2
 intro fuel
 induction fuel with
 |zero=>
  intro listed a w hs hc hcl hda hm
  have hall:=G1 hc
  have hfin:Q .normal a w:=by
   refine hQ a w hda ?_
   rw[hall,show listed.toList.length=cs.length from by rw[hlen,<-hs];simp]at hm
   obtain⟨E,ρ,q1,q2,q3,q5,q4⟩:=hm
   have hle:∀i,(i<nx0\/∃j:Nat,(zn cs.length wO)[j]? =V wO/\g j<=i/\i<g (j+1))->i<g ops.size:=fun i hi=>by
    rcases hi with hi|⟨j,hj,_,hj3⟩
    ·have:=hmono 0 ops.size (xm _) (zD _);omega
    ·have hj':j<cs.length:=by simpa using (zX.1 hj).1
     have:=hmono (j+1) ops.size (by omega) (zD _);omega
   exact⟨E,ρ,q1,fun q hq=>(q2 q hq).mono hle,q3.mono hle,q5,q4⟩
  refine⟨?_,hfin⟩
  rw[List.eq_nil_iff_forall_not_mem]
  intro i hi
  obtain⟨h1,h2,_⟩:=mem_ready.1 hi
  rw[AR (by omega),hall,wD]at h2
  split at h2<;>cases h2
 |succ fuel ih=>
  intro listed a w hs hc hcl hda hm
  refine⟨fun hr=> ?_,fun i hi=> ?_⟩
  ·
   exfalso
   obtain⟨i,h1,h2⟩:=K0 (bs:=listed.toList) (by omega)
   have hil:i<listed.size:=by simpa using (zX.1 h1).1
   have hio:i<ops.size:=by omega
   have:i∈Region.ready .any ops listed:=mem_ready.2 ⟨hio,(AR hil).2 h1,ops[i],Array.getElem?_eq_getElem hio,fun e he hb=>EA.2 (h2 _ (hback i ops[i] (by simp[hio]) e he hb))⟩
   rw[hr]at this
   cases this
  ·obtain⟨hio,h2,o,ho,hrd⟩:=mem_ready.1 hi
   have hil:i<listed.size:=by omega
   have hbi:=(AR hil).1 h2
   have hol:ops.toList[i]? =V o:=by simpa using ho
   have hRdy:Rdy listed.toList o:=fun e he hb=>EA.1 (hrd e he hb)
   obtain⟨c,hci⟩:∃c,cs[i]? =V c:=⟨_,zk (by omega)⟩
   have fact:=hf i o c hol hci
   obtain⟨s1,s2,s3,s4⟩:=XJ (cs:=cs) (bs:=listed.toList) (i:=i) (c:=c) f0 R0 (by rw[hlen,<-hs];simp) hci hbi
    (fun j d hji hd hbj=>(hcf i j d c hji hd hci).resolve_right fun h=>by
     have:=h listed.toList hcl (fun o' ho'=>by rw[hol]at ho';cases ho';exact hRdy)
     rw[hbj]at this;cases this)
    (fun j d hij hd hbj=>((hcf j i c d hij hci hd).resolve_right fun h=>by
     have hjo:j<ops.size:=by have:=(zX.1 hd).1;omega
     have:=h listed.toList hcl (fun o' ho'=>hcl j o' ho' hbj)
     rw[hbi]at this;cases this).symm)
   have eset:(listed.setIfInBounds i wO).toList=listed.toList.set i wO:=Array.toList_setIfInBounds ..
   have hcl':Fm ops.toList (listed.toList.set i wO):=fun j o' ho' hbj e he hb=>by
    have hmono':∀k,listed.toList[k]? =V wO->(listed.toList.set i wO)[k]? =V wO:=fun k hk=>by
     rw[List.getElem?_set]
     split
     ·rename_i hik;rw[bw (by simpa using hil)]
     ·exact hk
    by_cases hij:i=j
    ·subst hij
     rw[hol]at ho'
     cases ho'
     exact hmono' _ (hRdy e he hb)
    ·rw[List.getElem?_set_ne hij]at hbj
     exact hmono' _ (hcl j o' ho' hbj e he hb)
   have hpn:∀x,(x<nx0\/∃j:Nat,listed.toList[j]? =V wO/\g j<=x/\x<g (j+1))->¬(g i<=x/\x<g (i+1)):=fun x hx hr=>by
    rcases hx with hx|⟨j,hj,hj2,hj3⟩
    ·have:=hmono 0 i (xm _) (by omega);omega
    ·have hne:j≠i:=fun e=>by rw[e,hbi]at hj;cases hj
     have hjl:j<ops.size:=by
      have:j<listed.toList.length:=(zX.1 hj).1
      have h3:listed.toList.length=listed.size:=by simp
      omega
     by_cases hlt:j<i
     ·have:=hmono (j+1) i (by omega) (by omega);omega
     ·have:=hmono (i+1) j (by omega) (by omega);omega
   have hweak:∀x,((x<nx0\/∃j:Nat,listed.toList[j]? =V wO/\g j<=x/\x<g (j+1))\/(g i<=x/\x<g (i+1)))->(x<nx0\/∃j:Nat,(listed.toList.set i wO)[j]? =V wO/\g j<=x/\x<g (j+1)):=fun x hx=>by
    rcases hx with (hx|⟨j,hj,hj2⟩)|hx
    ·exact .inl hx
    ·refine .inr ⟨j,?_,hj2⟩
     rw[List.getElem?_set]
     split
     ·rw[bw (by simpa using hil)]
     ·exact hj
    ·refine .inr ⟨i,?_,hx⟩
     rw[List.getElem?_set_self (by simpa using hil)]
   have cont:∀a' w',a'.defers=ds->MtS C n (fun x=>(x<nx0\/∃j:Nat,listed.toList[j]? =V wO/\g j<=x/\x<g (j+1))\/(g i<=x/\x<g (i+1))) (c.F (gH cs listed.toList f0)) (c.R (gW cs listed.toList R0)) a' w'->wpAny P .any ops Q fuel (listed.setIfInBounds i wO) a' w':=fun a' w' hda' hm'=>by
    refine ih (listed.setIfInBounds i wO) a' w' (by simp[hs]) ?_ (by rw[eset];exact hcl') hda' ?_
    ·rw[eset]
     have:=Kv hbi
     omega
    ·rw[eset,<-s3]
     obtain⟨E,ρ,q1,q2,q3,q5,q4⟩:=hm'.perm s4
     exact⟨E,ρ,q1,fun q hq=>(q2 q hq).mono hweak,q3.mono hweak,q5,q4⟩
   have hgate:∀wn,Dw ops o (gH (cs.take i) (zn i wO) f0) wn->Region.wanted o (yielded ops a.tmps)=wn:=fun wn hg=>by
    unfold Dw at hg
    cases hgd:o.guard with
    |none=>
     rw[hgd]at hg
     simp only at hg
     rw[hg]
     unfold Region.wanted
     rw[hgd]
    |some jw=>
     obtain⟨j,want⟩:=jw
     rw[hgd]at hg
     obtain⟨t,hj,hg⟩:=hg
     have hts:t∈c.sl:=by
      rw[fact.sl]
      unfold cX ahT
      rw[hgd]
      simp only[hj]
      exact yB _ (zC.2 rfl)
     obtain⟨E,ρ,q1,_,_,_,q4⟩:=hm
     obtain⟨w1,w2⟩:=Gc (ρ:=ρ) hgd hj (E:=E)
     rcases hg with ⟨b,hb,hw⟩|⟨vs,hb,hw⟩
     ·rw[hw]
      exact qL.spec q4.slots (w1 b (q1 _ _ (by rw[s1 t hts];exact hb)))
     ·rw[hw]
      exact qL.spec q4.slots (w2 vs (q1 _ _ (by rw[s1 t hts];exact hb)))
   unfold wpOp
   simp only[ho]
   rcases fact.run with ⟨hg,hv,hef⟩|⟨hg,hy⟩
   ·rw[bF (by rw[hgate _ hg];exact Bool.false_ne_true)]
    obtain⟨E,ρ,q1,q2,q3,q5,q4⟩:=hm
    have hR:c.R (gW cs listed.toList R0)=gW cs listed.toList R0:=by unfold Rc.R;rw[hef]
    refine cont _ _ (by rw[<-hda];cases o.dst<;>rfl) ?_
    rw[hR]
    cases hdo:o.dst with
    |none=>exact⟨E,ρ,fun t d ht=>q1 t d (by unfold Rc.F at ht;rw[fact.dst,hdo]at ht;simpa using ht),fun q hq=>(q2 q hq).mono fun _ h=> .inl h,q3.mono fun _ h=> .inl h,q5,q4⟩
    |some t=>
     refine⟨(t, .lit undef)::E,ρ,fun s d hsd=> ?_,fun q hq=> ?_,q3.mono fun _ h=> .inl h,q5,?_⟩
     ·unfold Rc.F at hsd
      rw[fact.dst,hdo,hv]at hsd
      by_cases hts:t=s
      ·subst hts
       rw[bw rfl]at hsd
       cases hsd
       exact Env.e9 _ _ _
      ·rw[bF (fun e=>hts (zF.inj e))]at hsd
       rw[Env.dO _ _ hts]
       exact q1 s d hsd
     ·rcases zy.1 hq with rfl|hq
      ·exact .lit _
      ·exact(q2 q hq).mono fun _ h=> .inl h
     ·have hdn:=fact.dn
      rw[hdo]at hdn
      have:=q4.put (av:= .lit undef) (v:=undef) hdn (.lit _)
      show uK C.C n ((t,cc.sub ρ (.lit undef))::E.sub ρ) _ _ _
      rw[bT]
      exact this
   ·rw[bw (hgate _ hg)]
    refine .inl ?_
    have hle:Ag (gH cs listed.toList f0) c.sl=Ag (gH (cs.take i) (zn i wO) f0) c.sl:=NI s1
    obtain⟨E,ρ,q1,q2,q3,q5,q4⟩:=hm
    have hids:=fact.ids (fun x=>x<nx0\/∃j:Nat,listed.toList[j]? =V wO/\g j<=x/\x<g (j+1)) (fun t ht d hd=>by
     rw[<-s1 t ht]at hd
     exact q2 _ (Env.get_mem (q1 t d hd))) (by rw[<-s2];exact fun q hq=>q3 q (z6.1 hq).1)
    exact alT (nx:=g i) (nx':=g (i+1)) (by have:=hmono 0 i (xm _) (by omega);omega) ⟨E,ρ,q1,q2,q3,q5,q4⟩ fact.dst fact.dn fact.wr (by rw[hle,s2];exact hy) hpn fact.lv (by rw[s2];exact fact.lin) fact.lo hids.1 hids.2 fun a' w' hd' hm'=>cont a' w' (hd'.trans hda) hm'
def Zg{α:Type}{r:α}{F:aK}{C:Cg}{s:St}{a:Act}{w:World}{id:Nat}{k:St->Option α}(hF:iJ P F)(hN:dY F)(h:GO P F n ops s k=V r)(hm:Mt C n s a w):
  (Code.region id ops wO).wp P (fun e a' w'=>e= .normal/\a'.defers=a.defers/\∃s',k s'=V r/\Mt C n s' a' w') a w:=by
 unfold GO at h
 split at h
 case h_2=>cases h
 rename_i hb
 simp only[zf]at hb
 split at h
 case h_2=>cases h
 rename_i ps hps
 obtain⟨E,hh,hE,hR,ρ,hag,hsim⟩:=hm
 obtain⟨cs,s',f',q1,q2,q3⟩:=OH hF hN ops.toList (f:=cL s.E) h (fun t d h=>h) (fun t d hd=>Env.Vx (x:= .tmp t) hE (hh t d hd)) hR
 rw[yg]at q1
 split at q1
 case h_2=>cases q1
 rename_i hpo
 obtain⟨l1,l2,l3,g,g0,g1,g2,g3⟩:=q2.idx
 have hN:ops.toList.length=ops.size:=by simp
 refine wp_region_any hb.1 ?_
 refine aoY (C:=C) (cs:=cs) (f0:=cL s.E) (R0:=s.R) (nx0:=s.nx) (g:=g) (ds:=a.defers) (by rw[l1,hN]) g0 hag.2 (by rw[<-hN];exact g2) g3 (fun i j c d hji hc hd=>agq hps hpo (fun i c hc=>by
   obtain⟨o,ho⟩:∃o,ops.toList[i]? =V o:=⟨_,zk (by rw[<-l1];exact(zX.1 hc).1)⟩
   have:=g3 i o c ho hc
   exact⟨o,ho,this.dst,this.sl,this.ef,this.wr⟩) hji hc hd) (fun i o ho e he hbe=>by have:=K7 hb.2 i o ho e he hbe;omega) (fun a' w' hd' hm'=> ?_) ops.size (Array.replicate ops.size wN) a _ (by simp) (by rw[Array.toList_replicate,Lk]) (fun i o _ hbi=> ?_) rfl ?_
 ·refine⟨rfl,hd',s',q1,?_⟩
  rw[<-l2,<-l3]at hm'
  obtain⟨E',ρ',p1,p2,p3,p5,p4⟩:=hm'
  rw[hN]at g1
  rw[g1]at p2 p3
  exact⟨E',fun t d hd=>p1 t d (q3 t d hd),p2,p3.rN,ρ',⟨p5,by have:=Xx (N:=ops.toList.length) g2 0 ops.toList.length (xm _) (zD _);rw[g0,hN,g1]at this;have h7:=hag.2;omega⟩,p4⟩
 ·rw[Array.toList_replicate,wD]at hbi
  split at hbi<;>cases hbi
 ·have nF:∀(cs:List Rc) (n:Nat) (f:Fr),gH cs (zn n wN) f=f:=fun cs=>by
   induction cs with
   |nil=>intro n f;rfl
   |cons d cs ih=>
    intro n f
    cases n with
    |zero=>rfl
    |succ n=>rw[yI];exact ih n f
  have nR:∀(cs:List Rc) (n:Nat) (R:aY),gW cs (zn n wN) R=R:=fun cs=>by
   induction cs with
   |nil=>intro n f;rfl
   |cons d cs ih=>
    intro n f
    cases n with
    |zero=>rfl
    |succ n=>rw[yI];exact ih n f
  rw[Array.toList_replicate,nF,nR]
  exact⟨E,ρ,hh,fun q hq=>gX.mono (hE q hq) fun i hi=> .inl hi,(aY.gX.mono hR.lts fun i hi=> .inl hi),hag.1,hsim.drew⟩
end
end Go.Iv
end
noncomputable section
namespace Go.Iv
variable [U:sX] [L:nQ]
open Go Go.RowKit
section
variable {α:Type} {r:α} {P:Program} {F:aK} {C:Cg} {n:Nat}
def BU(P:Program)(F:aK)(n:Nat)(_:Nat)(ops:Array Oper)(draw:Bool)(s:St)(k:gy α):Option α:=match draw with
 |false=>eS P F n ops ops.toList s (k .normal)
 |true=>GO P F n ops s (k .normal)
def exec(P:Program)(F:aK)(n:Nat)(fuel:Nat)(c:Code):St->gy α->Option α:=
 Code.rec XO (BU P F n) (fun _ _=>avD) (fun c _ _=>amf c) (fun id _=>acE id) (fun _=>Ze fuel) (fun _ _ _ _ _ _=>FG) YD (fun _ _=>FG) (fun _=>FG) (fun _=>FG) aiT (fun _=>FG) c
def pR(P:Program)(F:aK)(fuel:Nat)(f:FuncId)(args:List AV)(R:aY)(nx:Nat)(k:AV->aY->Nat->Option α):Option α:=match P.funcs[f]? with
 |some fn=>match fn.body with
  |some c=>match ya args.length fn.ntmps&& !(fn.name=="runtime.NumGoroutine")with
   |true=>exec (α:=α) P F fn.ntmps fuel c ⟨KR 0 args .e,R,nx⟩ fun e s=>match e with
    | .normal=>(FK P s fn.results.toList).bind fun ds=>k (eT ds) (oF s.R nx (eT ds)) s.nx
    | .ret=>(FK P s fn.results.toList).bind fun ds=>k (eT ds) (oF s.R nx (eT ds)) s.nx
    |_=>O
   |false=>O
  |none=>O
 |none=>O
def EH(P:Program)(F0:aK)(has:FuncId->Bool)(fuel:Nat):Nat->aK
 |0=>F0
 |m+1=>fun α f args R nx k=>match has f with
  |true=>F0 α f args R nx k
  |false=>pR P (EH P F0 has fuel m) fuel f args R nx k
def Ends(P:Program)(C:Cg)(n:Nat)(c:Code)(k:gy α)(r:α)(a:Act)(w:World):Prop:=c.wp P (fun e a' w'=>∃s',k e s'=V r/\Mt C n s' a' w') a w
def UK(P:Program)(C:Cg)(n:Nat)(c:Code)(x:St->gy α->Option α):Prop:=∀(r:α) (s:St) (k:gy α) (a:Act) (w:World),x s k=V r->Mt C n s a w->Ends P C n c k r a w
def L7{c:Operand}{s:St}{x y:St->Option α}(h:ru c s x y=V r){a:Act}{w:World}(hm:Mt C n s a w):∃(b:Bool) (s':St),a.eval c= .bool b/\Mt C n s' a w/\(match b with|wO=>x s'|wN=>y s')=V r:=by
 unfold ru at h
 split at h
 ·rename_i t
  split at h
  case h_2=>cases h
  rename_i b hb
  have hev:a.eval (.tmp t)= .bool b:=by
   obtain⟨E,hh,_,_,ρ,_,hs⟩:=hm
   refine RN hs ?_
   have h1:=hh t _ hb
   show Env.get (E.sub ρ) t=_
   rw[Env.fe,h1,yt,bT]
  refine⟨b,s.fW t b,hev,hm.fW hb,?_⟩
  unfold XY at h
  cases b<;>exact h
 ·exact⟨wO,s,rfl,hm,h⟩
 ·exact⟨wN,s,rfl,hm,h⟩
 ·cases h
def DY(hF:iJ P F)(hN:dY F)(id:Nat)(ops:Array Oper)(draw:Bool):UK (α:=α) P C n (.region id ops draw) (BU P F n id ops draw):=fun r s k a w h hm=>by
 unfold BU at h
 cases draw with
 |false=>
  refine wp_mono (wp_region_lit (EV hF _ h hm)) fun e a' w' ⟨he,_,s',h1,h2⟩=> ?_
  subst he
  exact⟨s',h1,h2⟩
 |true=>
  refine wp_mono (Zg hF hN h hm) fun e a' w' ⟨he,_,s',h1,h2⟩=> ?_
  subst he
  exact⟨s',h1,h2⟩
def GG{c:Code}{x:St->gy α->Option α}(hx:UK P C n c x)(fuel:Nat):UK P C n (.loop c) (Ze fuel x):=fun r s k a w h hm=>by
 have key:∀(m:Nat) (s:St) (a:Act) (w:World),Es x k m s=V r->Mt C n s a w->c.wp P (Exit.then (InL P c fun e a' w'=>∃s',k e s'=V r/\Mt C n s' a' w') fun e a' w'=>∃s',k e s'=V r/\Mt C n s' a' w') a w:=by
  intro m
  induction m with
  |zero=>intro s a w h;cases h
  |succ m ih=>
   intro s a w h hm
   refine wp_mono (hx r s _ a w h hm) fun e a' w' ⟨s',h1,h2⟩=> ?_
   cases e with
   |normal=>exact K6 (ih s' a' w' h1 h2)
   |_=>exact⟨s',h1,h2⟩
 exact GR (key fuel s a w h hm)
def aa4(hF:iJ P F)(hN:dY F)(fuel:Nat)(c:Code):UK (α:=α) P C n c (exec P F n fuel c):=by
 induction c with
 |skip=>exact fun r s k a w h hm=>wp_skip ⟨s,h,hm⟩
 |region id ops draw=>exact DY hF hN id ops draw
 |seq x y hx hy=>
  intro r s k a w h hm
  refine wp_seq (wp_mono (hx r s _ a w h hm) fun e a' w' ⟨s',h1,h2⟩=> ?_)
  cases e with
  |normal=>exact hy r s' k a' w' h1 h2
  |_=>exact⟨s',h1,h2⟩
 |cond c x y hx hy=>
  intro r s k a w h hm
  obtain⟨b,s',he,hm',h'⟩:=L7 (show ru c s _ _=V r from h) hm
  cases b with
  |true=>exact wp_cond_true he (hx r s' k a w h' hm')
  |false=>exact wp_cond_false he (hy r s' k a w h' hm')
 |block id x hx=>
  intro r s k a w h hm
  refine wp_block (wp_mono (hx r s _ a w h hm) fun e a' w' ⟨s',h1,h2⟩=> ?_)
  cases e with
  |exit id'=>
   simp only[tT]at h1
   simp only[Exit.inBlock]
   split
   ·rename_i he
    subst he
    have hb:zb id' id'=wO:=Nat.beq_refl _
    simp only[hb]at h1
    exact⟨s',h1,h2⟩
   ·rename_i he
    have hb:zb id' id=wN:=by
     cases hb:zb id' id with
     |false=>rfl
     |true=>exact cQ (yW hb) he
    simp only[hb]at h1
    exact⟨s',h1,h2⟩
  |_=>exact⟨s',h1,h2⟩
 |loop c hc=>exact GG hc fuel
 |exit i=>exact fun r s k a w h hm=>wp_exit ⟨s,h,hm⟩
 |ret=>exact fun r s k a w h hm=>wp_ret ⟨s,h,hm⟩
 |_=>exact fun r s k a w h hm=>by cases h
def Bb(nx:Nat)(ids:List Nat):∀R:aY,List.Sublist (SP nx ids R) R
 |[]=> .slnil
 |p::R=>by
  have ih:=Bb nx ids R
  show List.Sublist (Bool.rec (Bool.rec (SP nx ids R) (p::SP nx ids R) (dB p.1 ids)) (p::R) (zB p.1 nx)) (p::R)
  cases zB p.1 nx with
  |true=>exact List.Sublist.refl _
  |false=>
   cases dB p.1 ids with
   |true=>exact ih.cons_cons p
   |false=>exact ih.cons p
def afo{s:St}{E:Env}{ρ:Gh}{rv:ResultVar}{d:AV}(h:Xi P s rv=V d)(hh:uk s.E E):Fo P (E.sub ρ) (aY.res ρ s.R) rv (d.sub ρ):=by
 unfold Xi at h
 split at h
 ·rename_i t
  refine .tmp ?_
  rw[Env.fe,hh t d h];rfl
 ·rename_i t ty
  split at h
  case h_2=>cases h
  rename_i id hp
  have hp':Env.get (E.sub ρ) t=V (.lit (.pointer (V ⟨ρ.b id,0,O⟩))):=by
   rw[Env.fe,hh t _ hp,yt,cc.sub]
  split at h
  case h_2=>cases h
  rename_i T cs hr
  obtain⟨i,hi,_⟩:=eM hr
  have hres:=gY (ρ:=ρ) hi
  split at h
  ·rename_i h1
   refine .apt i hp' hres (CL h1) ?_
   rw[zY,h];rfl
  ·split at h
   case h_2=>cases h
   rename_i m hm
   split at h
   case h_2=>cases h
   rename_i hl
   cases h
   rw[eN]
   refine .aqw i hp' hres (KU hm) ?_
   rw[zK];exact gA hl
def W7{s:St}{nx:Nat}{rv:ResultVar}{d:AV}(h:Xi P s rv=V d){E:Env}(hh:uk s.E E)(hE:E.cM nx)(hR:aY.cM nx s.R):cM nx d:=by
 unfold Xi at h
 split at h
 ·rename_i t
  exact hE _ (Env.get_mem (hh t d h))
 ·split at h
  case h_2=>cases h
  split at h
  case h_2=>cases h
  rename_i id _ T cs hr
  have hL:=EU hr hR
  split at h
  ·exact hL.2 _ (List.mem_of_getElem? h)
  ·split at h
   case h_2=>cases h
   split at h
   case h_2=>cases h
   cases h
   exact .agg _ hL.2
def IY{s:St}{E:Env}{ρ:Gh}(hh:uk s.E E){A:Nat->Prop}{w:World}{tmps:Array Value}(hd:Hd A (aY.res ρ s.R) w)(hs:lM A w (E.sub ρ) tmps):∀{l:List ResultVar} {ds:List AV},FK P s l=V ds->
  ∃us,(l.mapM (tC tmps)).run P w= .ok us w/\bK A w (ds.map (cc.sub ρ)) us
 |[],ds,h=>by cases h;exact⟨[],rfl,bK.nil⟩
 |x::l,ds,h=>by
  unfold FK at h
  split at h
  case h_2=>cases h
  rename_i d hx
  obtain⟨ds',h1,h2⟩:=zj.1 h
  subst h2
  obtain⟨v,q1,q2⟩:=afo (ρ:=ρ) hx hh A w tmps hd hs
  obtain⟨us,q3,q4⟩:=IY hh hd hs h1
  refine⟨v::us,?_,bK.cons q2 q4⟩
  rw[List.mapM_cons]
  simp[q1,q3]
def MJ{s:St}{nx:Nat}{E:Env}(hh:uk s.E E)(hE:E.cM nx)(hR:aY.cM nx s.R):∀{l:List ResultVar} {ds:List AV},FK P s l=V ds->∀d∈ds,cM nx d
 |[],ds,h=>by cases h;simp
 |x::l,ds,h=>by
  unfold FK at h
  split at h
  case h_2=>cases h
  rename_i d hx
  obtain⟨ds',h1,h2⟩:=zj.1 h
  subst h2
  intro d' hd'
  rcases zy.1 hd' with rfl|hd'
  ·exact W7 hx hh hE hR
  ·exact MJ hh hE hR h1 d' hd'
def WS{nx:Nat}{ds:List AV}(h:∀d∈ds,cM nx d):cM nx (eT ds):=by
 unfold eT
 split
 ·exact h _ (by simp)
 ·exact .jB _ h
def Km{ρ:Gh}{A:Nat->Prop}{w:World}{ds:List AV}{us:List Value}(h:bK A w (ds.map (cc.sub ρ)) us):Rel A w ((eT ds).sub ρ) (if h:us.toArray.size=1 then us.toArray[0]else .tuple us.toArray):=by
 unfold eT
 split
 ·rename_i d
  obtain⟨h1,h2⟩:=h
  match us,h1,h2 with
  |[u],_,h2=>exact h2 0 _ _ rfl rfl
 ·rename_i hn
  have hl:us.length=ds.length:=by have:=h.1;simpa using this
  rw[dif_neg (by
   intro e
   match ds,hn with
   |[],_=>rw[yY,hl]at e;cases e
   |[d],hn=>exact hn d rfl
   |_::_::_,_=>rw[yY,hl]at e;simp at e),kO]
  exact Rel.FL h
def AX:∀(l:List AV) (i:Nat) (T:ET) (E:Env),uk T E->(∀t d,cL T t=V d->t<i)->uk (KR i l T) (fh i l++E)
 |[],_,_,_,h,_=>h
 |d::l,i,T,E,h,hT=>by
  have h2:∀t d',cL (mC i d T) t=V d'->t<i+1:=fun t d' ht=>by
   rcases qm ht with ⟨rfl,_⟩|⟨_,q⟩
   ·omega
   ·have:=hT t d' q;omega
  have:=AX l (i+1) (mC i d T) ((i,d)::E) (h.put i d) h2
  intro t v ht
  have h1:Env.get (fh (i+1) l++(i,d)::E) t=V v:=this t v ht
  show Env.get ((i,d)::(fh (i+1) l++E)) t=V v
  have key:∀(l:List AV) (j:Nat),i<j->Env.get (fh j l++(i,d)::E) t=Env.get ((i,d)::(fh j l++E)) t:=fun l=>by
   induction l with
   |nil=>intro j _;rfl
   |cons u l ih=>
    intro j hj
    show Env.get ((j,u)::(fh (j+1) l++(i,d)::E)) t=Env.get ((i,d)::(j,u)::(fh (j+1) l++E)) t
    by_cases h1:j=t
    ·subst h1
     rw[Env.e9,Env.dO _ _ (by omega),Env.e9]
    ·rw[Env.dO _ _ h1,ih (j+1) (by omega)]
     by_cases h2:i=t
     ·subst h2;rw[Env.e9,Env.e9]
     ·rw[Env.dO _ _ h2,Env.dO _ _ h2,Env.dO _ _ h1]
  rw[<-key l (i+1) (zw i)]
  exact h1
def pZ(ρ:Gh):∀(l:List AV) (i:Nat),(fh i l).sub ρ=fh i (l.map (cc.sub ρ))
 |[],_=>rfl
 |d::l,i=>by show (i,d.sub ρ)::(fh (i+1) l).sub ρ=_;rw[pZ ρ l];rfl
def qN:∀{l:List AV} {i:Nat} {q:Nat×AV},q∈fh i l->q.2∈l
 |d::l,i,q,h=>by
  rcases zy.1 h with rfl|h
  ·exact zi
  ·exact zJ _ (qN h)
def Ym{fn:Func}{C:Cx}{ρ:Gh}{nx:Nat}{s:St}{a:Act}{w:World}{k:AV->aY->Nat->Option α}{e:Exit}(he:e= .normal\/e= .ret)(h:((FK P s fn.results.toList).bind fun ds=>k (eT ds) (oF s.R nx (eT ds)) s.nx)=V r)(hm:Mt ⟨C,ρ,nx⟩ n s a w):
  ∃E' σ',uK C n E' σ' a w/\aba P C n fn (fun a s=>∃d R' nx',k d R' nx'=V r/\nx<=nx'/\cM nx' d/\aY.cM nx' R'/\∃ρ',sk nx ρ ρ'/\a=d.sub ρ'/\List.Perm s (aY.res ρ' R')) e E' σ':=by
 obtain⟨E,hh,hE,hR,ρ',⟨hag,hnx⟩,hsim⟩:=hm
 obtain⟨ds,h1,h2⟩:=zm.1 h
 have hsub:List.Sublist (oF s.R nx (eT ds)) s.R:=Bb _ _ _
 refine⟨_,_,hsim,ZB (σ':=aY.res ρ' (oF s.R nx (eT ds))) (av:=(eT ds).sub ρ') he (hsub.map _) ⟨_,_,_,h2,hnx,WS (MJ hh hE hR h1),fun q hq=>hR q (hsub.subset hq),ρ',hag,rfl,List.Perm.refl _⟩ fun A w' tmps hd hs=> ?_⟩
 obtain⟨us,q1,q2⟩:=IY hh hd hs h1
 refine⟨_,?_,Km q2⟩
 show (do let vs <-fn.results.mapM (tC tmps);pure (if h:vs.size=1 then vs[0]else .tuple vs):Sem Value).run P w'=_
 have e1:fn.results=fn.results.toList.toArray:=by simp
 rw[e1,List.mapM_toArray]
 simp[q1]
section
variable {β:Type}
def KP{ops:Array Oper}{o:Oper}{s:St}{y n:St->Option α}(D:α->Option β):(gate ops o s y n).bind D=gate ops o s (fun s=>(y s).bind D) (fun s=>(n s).bind D):=by
 unfold gate
 repeat' split
 all_goals first|rfl|simp_all
def UM{o:Op}{s:St}{f:St->Option α}(D:α->Option β):(BL o s f).bind D=BL o s (fun s=>(f s).bind D):=by
 unfold BL
 repeat' split
 all_goals first|rfl|simp_all
def adx(hN:dY F){o:Oper}{ih:St->(St->Option α)->Option α}{ih':St->(St->Option β)->Option β}{k:St->Option α}{D:α->Option β}(hi:∀s k,(ih s k).bind D=ih' s (fun s=>(k s).bind D))(s:St):(rDo P F o ih k s).bind D=rDo P F o ih' (fun s=>(k s).bind D) s:=by
 unfold rDo
 generalize s.kr (jd s.E o.op)=s1
 obtain⟨E,R,nx⟩:=s1
 show (nh o.op P F (Fy E) (gx R) R nx (IP o.dst E R nx ih k)).bind D=nh o.op P F (Fy E) (gx R) R nx (IP o.dst E R nx ih' fun s=>(k s).bind D)
 rw[AW D hN]
 congr 1
 funext e
 cases e<;>exact hi ..
def rE(hN:dY F){ops:Array Oper}(D:α->Option β):∀(l:List Oper) (s:St) (k:St->Option α),(eS P F n ops l s k).bind D=eS P F n ops l s (fun s=>(k s).bind D)
 |[],s,k=>rfl
 |o::l,s,k=>by
  show (K5 P F n ops o (eS P F n ops l) s k).bind D=K5 P F n ops o (eS P F n ops l) s (fun s=>(k s).bind D)
  unfold K5
  split
  ·rw[KP]
   congr 1
   ·funext s1
    obtain⟨E,R,nx⟩:=s1
    show (opF o.op P F o.dst E R nx (eS P F n ops l) k).bind D=opF o.op P F o.dst E R nx (eS P F n ops l) (fun s=>(k s).bind D)
    have e1:=Ig P F o ⟨E,R,nx⟩ (eS (α:=α) P F n ops l) k
    have e2:=Ig P F o ⟨E,R,nx⟩ (eS (α:=β) P F n ops l) (fun s=>(k s).bind D)
    dsimp only at e1 e2
    rw[e1,e2,UM]
    congr 1
    funext s2
    exact adx hN (fun s k=>rE hN D l s k) s2
   ·funext s1
    unfold rNo
    split<;>exact rE hN D l _ _
  ·rfl
def HR(hN:dY F){ops:Array Oper}{ps:List (Nat×Nat)}(D:α->Option β):∀(l:List Oper) (cs:List Rc) (s:St) (k:List Rc->St->Option α),(Vo P F n ops ps l cs s k).bind D=Vo P F n ops ps l cs s (fun cs s=>(k cs s).bind D)
 |[],cs,s,k=>rfl
 |o::l,cs,s,k=>by
  show (Ut P F n ops ps o (Vo P F n ops ps l) cs s k).bind D=Ut P F n ops ps o (Vo P F n ops ps l) cs s (fun cs s=>(k cs s).bind D)
  unfold Ut
  split
  ·rw[KP]
   congr 1
   ·funext s1
    obtain⟨E,R,nx⟩:=s1
    show (GA P F o (cX ops o) E (inQ (pO ops o E R) R) nx (dK ops ps o cs (pO ops o E R) E R (inQ (pO ops o E R) R) nx (Vo P F n ops ps l) k)).bind D=GA P F o (cX ops o) E (inQ (pO ops o E R) R) nx (dK ops ps o cs (pO ops o E R) E R (inQ (pO ops o E R) R) nx (Vo P F n ops ps l) (fun cs s=>(k cs s).bind D))
    rw[<-DJ hN,<-DJ hN,zW]
    congr 1
    funext x
    unfold dK
    split
    ·exact HR hN D l _ _ _
    ·rfl
   ·funext s1
    exact HR hN D l _ _ _
  ·rfl
def TY(hN:dY F)(id:Nat)(ops:Array Oper)(draw:Bool)(D:α->Option β)(s:St)(k:gy α):(BU P F n id ops draw s k).bind D=BU P F n id ops draw s (fun e s=>(k e s).bind D):=by
 unfold BU
 cases draw with
 |false=>exact rE hN D _ _ _
 |true=>
  show (GO P F n ops s (k .normal)).bind D=GO P F n ops s (fun s=>(k .normal s).bind D)
  unfold GO
  split
  ·split
   ·rw[HR hN D]
    congr 1
    funext cs s'
    split<;>rfl
   ·rfl
  ·rfl
def U7{c:Operand}{s:St}{x y:St->Option α}(D:α->Option β):(ru c s x y).bind D=ru c s (fun s=>(x s).bind D) (fun s=>(y s).bind D):=by
 unfold ru
 repeat' split
 all_goals first|rfl|(unfold XY;split<;>rfl)|simp_all
def K3{x:St->gy α->Option α}{x':St->gy β->Option β}{D:α->Option β}(hx:∀s k,(x s k).bind D=x' s (fun e s=>(k e s).bind D))(k:gy α):∀(m:Nat) (s:St),(Es x k m s).bind D=Es x' (fun e s=>(k e s).bind D) m s
 |0,s=>rfl
 |m+1,s=>by
  show (x s (LL k (Es x k m))).bind D=x' s (LL (fun e s=>(k e s).bind D) (Es x' (fun e s=>(k e s).bind D) m))
  rw[hx]
  congr 1
  funext e s'
  cases e<;>first|exact K3 hx k m s'|rfl
def Y5(hN:dY F)(fuel:Nat)(D:α->Option β)(c:Code):∀(s:St) (k:gy α),(exec P F n fuel c s k).bind D=exec P F n fuel c s (fun e s=>(k e s).bind D):=by
 induction c with
 |region id ops draw=>exact TY hN id ops draw D
 |seq x y hx hy=>
  intro s k
  show (exec P F n fuel x s (agc (exec P F n fuel y) k)).bind D=exec P F n fuel x s (agc (exec P F n fuel y) (fun e s=>(k e s).bind D))
  rw[hx]
  congr 1
  funext e s'
  cases e<;>first|exact hy s' k|rfl
 |cond c x y hx hy=>
  intro s k
  show (ru c s (fun s=>exec P F n fuel x s k) (fun s=>exec P F n fuel y s k)).bind D=ru c s (fun s=>exec P F n fuel x s _) (fun s=>exec P F n fuel y s _)
  rw[U7]
  congr 1
  ·funext s;exact hx s k
  ·funext s;exact hy s k
 |block id x hx=>
  intro s k
  show (exec P F n fuel x s (tT id k)).bind D=exec P F n fuel x s (tT id (fun e s=>(k e s).bind D))
  rw[hx]
  congr 1
  funext e s'
  cases e<;>first|rfl|(simp only[tT];split<;>rfl)
 |loop c hc=>exact fun s k=>K3 hc k fuel s
 |_=>exact fun s k=>rfl
def UG(hN:dY F)(fuel:Nat):dY (fun α=>pR (α:=α) P F fuel):=fun α β f args R nx k D=>by
 show (pR P F fuel f args R nx k).bind D=pR P F fuel f args R nx _
 unfold pR
 split
 ·split
  ·split
   ·rw[Y5 hN]
    congr 1
    funext e s
    cases e<;>first|rfl|exact zW ..
   ·rfl
  ·rfl
 ·rfl
def FX{F0:aK}{has:FuncId->Bool}(hN:dY F0)(fuel:Nat):∀m:Nat,dY (EH P F0 has fuel m)
 |0=>hN
 |m+1=>fun α β f args R nx k D=>by
  show (match has f with|wO=>F0 α f args R nx k|wN=>pR P (EH P F0 has fuel m) fuel f args R nx k).bind D=_
  show _=(match has f with|wO=>F0 β f args R nx _|wN=>pR P (EH P F0 has fuel m) fuel f args R nx _)
  cases has f with
  |true=>exact hN ..
  |false=>exact UG (FX hN fuel m) fuel α β f args R nx k D
end
def ZH(hF:iJ P F)(hN:dY F)(fuel:Nat):iJ P (fun α=>pR (α:=α) P F fuel):=fun α f args R nx k r h hargs hR=>by
 have h:pR P F fuel f args R nx k=V r:=h
 unfold pR at h
 split at h
 case h_2=>cases h
 rename_i fn hf
 split at h
 case h_2=>cases h
 rename_i c hb
 split at h
 case h_2=>cases h
 rename_i hc
 rw[zf]at hc
 obtain⟨hl,hnm⟩:=hc
 refine⟨⟨fn,hf,by simpa using hnm,by rw[hb];rfl⟩,fun ρ=>Fn.of hf hb rfl (by rw[zK];exact hl) fun C a w ha=> ?_⟩
 have hm:Mt ⟨C,ρ,nx⟩ fn.ntmps ⟨KR 0 args .e,R,nx⟩ a w:=by
  refine⟨fh 0 args,?_,fun q hq=>hargs _ (qN hq),hR,ρ,⟨.refl _ _,zD _⟩,?_⟩
  ·have:=AX args 0 .e [] (fun t d ht=>by cases t<;>cases ht) (fun t d ht=>by cases t<;>cases ht)
   rwa [yj]at this
  ·rw[pZ];exact ha
 refine wp_mono (aa4 hF hN fuel c r _ _ a w h hm) fun e a' w' ⟨s',h1,h2⟩=> ?_
 cases e with
 |normal=>exact Ym (.inl rfl) h1 h2
 |ret=>exact Ym (.inr rfl) h1 h2
 |_=>cases h1
def Lp{F0:aK}{has:FuncId->Bool}(hF:iJ P F0)(hN:dY F0)(fuel:Nat):∀m:Nat,iJ P (EH P F0 has fuel m)
 |0=>hF
 |m+1=>fun α f args R nx k r h hargs hR=>by
  change (match has f with|wO=>F0 α f args R nx k|wN=>pR P (EH P F0 has fuel m) fuel f args R nx k)=V r at h
  split at h
  ·exact hF α f args R nx k r h hargs hR
  ·exact ZH (Lp hF hN fuel m) (FX hN fuel m) fuel α f args R nx k r h hargs hR
end
end Go.Iv
end
noncomputable section
namespace Go.Iv
variable [U:sX] [L:nQ]
open Go Go.RowKit
def scB:Nat->AV->Bool
 |_, .lit _=>wO
 |n+1, .agg cs=>cs.all (scB n)
 |n+1, .jB cs=>cs.all (scB n)
 |_,_=>wN
def FA:Nat->AV->Bool
 |_, .lit _=>wO
 |_, .sl _ _=>wO
 |_, .rp _ _=>wO
 |n+1, .agg cs=>cs.all (FA n)
 |n+1, .jB cs=>cs.all (FA n)
 |_,_=>wN
def jX:∀(n:Nat) {d:AV} {ρ:Gh},FA n d=wO->d.sub ρ=d
 |n,d,ρ,h=>by
  have hL:∀{m:Nat} {cs:List AV},m<n->cs.all (FA m)=wO->cs.map (cc.sub ρ)=cs:=fun{m cs} hm h=>by
   have:cs.map (cc.sub ρ)=cs.map id:=zV fun c hc=>jX m (zo.1 h c hc)
   rw[this,List.map_id]
  cases n with
  |zero=>cases d<;>first|(cases h;done)|simp only[cc.sub]
  |succ n=>
   cases d<;>first|(cases h;done)|(simp only[cc.sub];done)|skip
   ·rw[eN,hL (zw n) h]
   ·rw[kO,hL (zw n) h]
def W8{R:aY}{ρ:Gh}{A:Nat->Prop}{w:World}{v:Value}{id:Nat}(hd:Hd A (aY.res ρ R) w)(hr:Rel A w ((cc.own (dw:=U.dw) id).sub ρ) v):Rel (fun b=>A b\/b∈bH (aY.res ρ R)) w ((match gx R id with
  |some (.row t l)=>cc.sl t l
  |_=> .own id).sub ρ) v:=by
 have base:Rel (fun b=>A b\/b∈bH (aY.res ρ R)) w ((cc.own (dw:=U.dw) id).sub ρ) v:=hr.mono fun b _ hA=>⟨.inl hA,rfl⟩
 split
 ·rename_i t l hg
  obtain⟨i,hi,_⟩:=eM hg
  have hres:=gY (ρ:=ρ) hi
  have hm:=List.mem_of_getElem? hres
  rw[dW]at hr
  rw[gE]
  have hd1:Hd A [.row (ρ.v id) t l] w:=⟨fun r hr=>by
   rw[zC]at hr
   rw[hr]
   exact hd.1 _ hm,fun b hb=>hd.2 b (by
    obtain⟨r,h1,h2⟩:=bR.1 hb
    rw[zC]at h1
    rw[h1]at h2
    exact bR.2 ⟨_,hm,h2⟩)⟩
  refine(Vw.row 0 rfl A w v hd1 hr).mono fun b _ hA=>⟨hA.imp (fun h=>h) fun hx=> ?_,rfl⟩
  obtain⟨r,h1,h2⟩:=bR.1 hx
  rw[zC]at h1
  rw[h1]at h2
  exact bR.2 ⟨_,hm,h2⟩
 ·exact base
def dg:aK:=fun _ _ _ _ _ _=>O
def anH{P:Program}:iJ P dg:=fun _ _ _ _ _ _ _ h=>by cases h
def acg{β:Type}(e:AV->Option β)(d:AV)(R:aY)(_:Nat):Option β:=match R with
 |[]=>e d
 |_=>O
def P0{β:Type}(e:AV->Option β)(m:β->AV):Prop:=∀d x,e d=V x->d=m x/\FA 2 d=wO
def P0.b:P0 UA cc.b:=fun d x h=>by
 unfold UA at h
 split at h
 ·cases h;exact⟨rfl,rfl⟩
 ·cases h
def akY{P:Program}{F:aK}(hF:iJ P F){f:FuncId}{args:List AV}{β:Type}{e:AV->Option β}{m:β->AV}{x:β}(he:P0 e m)(hc:args.all (FA 2)=wO)(hl:∀d∈args,cM 0 d)(h:F β f args [] 0 (acg e)=V x):AZ P f/\Fn P f args [] (fun a s=>a=m x/\s=[]):=by
 obtain⟨h1,h2⟩:=hF β f args [] 0 (acg e) x h hl (fun q hq=>by cases hq)
 refine⟨h1,?_⟩
 have:=h2 ⟨fun _=>undef,fun _=>0⟩
 have ea:args.map (cc.sub ⟨fun _=>undef,fun _=>0⟩)=args:=by
  have:args.map (cc.sub ⟨fun _=>undef,fun _=>0⟩)=args.map id:=zV fun c hcm=>jX 2 (zo.1 hc c hcm)
  rw[this,List.map_id]
 rw[ea]at this
 refine Fn.mono this fun a s ⟨d,R',nx',q1,_,_,_,ρ',_,q2,q3⟩=> ?_
 unfold acg at q1
 split at q1
 ·obtain⟨q4,q5⟩:=he _ _ q1
  rw[q2,jX 2 q5,q4]
  exact⟨rfl,by simpa [aY.res]using q3⟩
 ·cases q1
def ue(d:AV):∀(m:Nat) (T:ET) (k s:Nat),k<2^m-1->cL (sW d m T k) s=if k=s then V d else cL T s
 |0,T,k,s,h=>by simp at h
 |m+1,T,k,s,h=>by
  have hp:2^(m+1)=2*2^m:=by rw[Nat.pow_succ];omega
  rw[QE,Md T s]
  by_cases hk:k=0
  ·rw[bw hk,n8]
   subst hk
   by_cases hs:s=0
   ·rw[bw hs,bw hs.symm]
   ·have h0:¬(0=s):=fun e=>hs e.symm
    rw[bF h0,bF hs]
    split<;>simp_all
  ·rw[bF hk]
   by_cases hk2:(k-1)%2=0
   ·rw[bw hk2,n8]
    by_cases hs:s=0
    ·rw[bw hs,bw hs,bF (by omega)]
    ·rw[bF hs,bF hs]
     by_cases hs2:(s-1)%2=0
     ·rw[bw hs2,bw hs2,ue d m T.l _ _ (by omega)]
      by_cases hks:k=s
      ·rw[bw hks,bw (by omega)]
      ·rw[bF hks,bF (by omega)]
     ·rw[bF hs2,bF hs2,bF (fun e=>hs2 (by rw[<-e];exact hk2))]
   ·rw[bF hk2,n8]
    by_cases hs:s=0
    ·rw[bw hs,bw hs,bF (by omega)]
    ·rw[bF hs,bF hs]
     by_cases hs2:(s-1)%2=0
     ·rw[bw hs2,bw hs2,bF (fun e=>hk2 (by rw[e];exact hs2))]
     ·rw[bF hs2,bF hs2,ue d m T.r _ _ (by omega)]
      by_cases hks:k=s
      ·rw[bw hks,bw (by omega)]
      ·rw[bF hks,bF (by omega)]
def Bi{t s:Nat}{d:AV}{T:ET}(h:t<4095):cL (mC t d T) s=if t=s then V d else cL T s:=ue d 12 T t s h
def bh(F:aK)(f:FuncId):Prop:=∀args R nx d R' nx',F (AV×aY×Nat) f args R nx (fun d R nx=>V (d,R,nx))=V (d,R',nx')->R'=R
def KC(fs:List Nat):Op->Bool
 | .move _=>wO
 | .assign _=>wO
 | .pick c _ _=>match c with
  | .tmp t=>zB t 4095
  |_=>wO
 | .binOp _ _ _ _ _=>wO
 | .unOp _ _ _=>wO
 | .fieldAddr _ _ _=>wO
 | .indexAddr _ _ _=>wO
 | .index _ _ _=>wO
 | .load _ _=>wO
 | .nilCheck _=>wO
 | .convert _ _ _=>wO
 | .extract _ _=>wO
 | .call c=>match c.callee with
  | .value (.func f)=>dB f fs&& !L.fz f
  | .builtin .len=>wO
  | .builtin .max=>wO
  | .builtin .min=>wO
  |_=>wN
 |_=>wN
def GD:Option Nat->Bool
 |some t=>zB t 4095
 |none=>wO
section
variable {P:Program} {F:aK} {n:Nat} {fs:List Nat}
def W1{E:ET}{o:Op}(h:KC fs o=wO):jd E o=[]:=by
 cases o<;>first|rfl|(cases h;done)|skip
 case call c=>
  unfold KC at h
  unfold jd
  dsimp only at h ⊢
  split at h
  ·rename_i f hf
   rw[zf,Bool.not_eq_true']at h
   rw[hf]
   dsimp only
   rw[h.2]
  ·rename_i hc;rw[hc]
  ·rename_i hc;rw[hc]
  ·rename_i hc;rw[hc]
  ·cases h
def oG{g:(K:AV->Option fZ)->Option fZ}{g0:Option AV}{e:fZ}(hg:g (fun d=>V (.val d))=g0.bind fun d=>V (.val d))(h:g (dI V)=V e):∃d,e= .val d:=by
 have h:g (fun d=>V (.val d))=V e:=h
 rw[hg]at h
 obtain⟨d,_,h2⟩:=zm.1 h
 cases h2
 exact⟨d,rfl⟩
def Ue(hN:dY F)(hp:∀f∈fs,bh F f){o:Op}{E:ET}{rd:Nat->Option IR}{R:aY}{nx:Nat}{e:fZ}(ho:KC fs o=wO)(h:nh o P F (Fy E) rd R nx V=V e):∃d nx',e= .all d R nx'\/e= .val d:=by
 have fin:(∃d,e= .val d)->∃d nx',e=fZ.all d R nx'\/e= .val d:=fun⟨d,h⟩=>⟨d,0, .inr h⟩
 have fb:∀{x:Option AV},x.bind (dI V)=V e->∃d,e= .val d:=fun{x} h=>by
  obtain⟨d,_,h2⟩:=zm.1 h
  cases h2
  exact⟨d,rfl⟩
 cases o<;>first|(cases ho;done)|exact fin (fb h)|skip
 case pick c a b=>
  have h:Ad c a b P F (Fy E) rd R nx V=V e:=h
  unfold Ad at h
  split at h
  ·exact fin (fb h)
  ·exact fin (fb h)
  ·cases h
 case binOp b T x y t=>exact fin (oG (Lt (K:=V) (fun d=>V (fZ.val d))).symm h)
 case unOp b T x=>exact fin (oG (SS (K:=V) (fun d=>V (fZ.val d))).symm h)
 case fieldAddr T x i=>exact fin (oG (Mj (K:=V) (fun d=>V (fZ.val d))).symm h)
 case indexAddr T x y=>exact fin (oG (LQ (K:=V) (fun d=>V (fZ.val d))).symm h)
 case index T x y=>exact fin (oG (Ks (K:=V) (fun d=>V (fZ.val d))).symm h)
 case load T x=>exact fin (oG (Q4 (K:=V) (fun d=>V (fZ.val d))).symm h)
 case nilCheck x=>exact fin (oG (Lc (K:=V) (fun d=>V (fZ.val d))).symm h)
 case convert T T' x=>exact fin (oG (Lg (K:=V) (fun d=>V (fZ.val d))).symm h)
 case extract x i=>exact fin (oG (Lh (K:=V) (fun d=>V (fZ.val d))).symm h)
 case call c=>
  have h:DS c P F (Fy E) rd R nx V=V e:=h
  unfold DS at h
  unfold KC at ho
  dsimp only at ho
  split at ho
  ·rename_i f hf
   rw[hf]at h
   rw[zf]at ho
   have h:Ji F (Fy E) R nx (V (.fn (.func f) [])) c.args.toList V=V e:=h
   unfold Ji at h
   dsimp only at h
   obtain⟨xs,_,h2⟩:=zm.1 h
   have h3:=hN (AV×aY×Nat) fZ f (xs++[]) R nx (fun d R nx=>V (d,R,nx)) (fun x=>V (.all x.1 x.2.1 x.2.2))
   have h3':(F (AV×aY×Nat) f (xs++[]) R nx (fun d R nx=>V (d,R,nx))).bind (fun x=>V (.all x.1 x.2.1 x.2.2))=V e:=h3.trans h2
   obtain⟨⟨d,R',nx'⟩,h4,h5⟩:=zm.1 h3'
   have h6:=hp f (fX.1 ho.1) _ _ _ _ _ _ h4
   subst h6
   cases h5
   exact⟨d,nx', .inl rfl⟩
  ·rename_i hc
   rw[hc]at h
   have h:BN .len c.args c.argTypes P (Fy E) rd R nx V=V e:=h
   unfold BN at h
   dsimp only at h
   split at h
   ·exact fin (oG (Lz (K:=V) (fun d=>V (fZ.val d))).symm h)
   ·cases h
  ·rename_i hc
   rw[hc]at h
   have h:BN .max c.args c.argTypes P (Fy E) rd R nx V=V e:=h
   unfold BN at h
   dsimp only at h
   split at h
   ·exact fin (oG (Cy (K:=V) (fun d=>V (fZ.val d))).symm h)
   ·cases h
  ·rename_i hc
   rw[hc]at h
   have h:BN .min c.args c.argTypes P (Fy E) rd R nx V=V e:=h
   unfold BN at h
   dsimp only at h
   split at h
   ·exact fin (oG (Cy (K:=V) (fun d=>V (fZ.val d))).symm h)
   ·cases h
  ·cases ho
def Xq(l:List Oper)(s s0:St):Prop:=s0.R=s.R/\∀u d,(∀o∈l,o.dst≠V u)->cL s.E u=V d->cL s0.E u=V d
def mX{s:St}{t:Nat}{b:Bool}(ht:t<4095)(h:cL s.E t=V (.lit (.bool b))){u:Nat}{d:AV}(hu:cL s.E u=V d):cL (s.fW t b).E u=V d:=by
 show cL (mC t (.b b) s.E) u=_
 rw[Bi ht]
 split
 ·rename_i e;subst e;rw[h]at hu;exact hu
 ·exact hu
def Dk(hN:dY F)(hp:∀f∈fs,bh F f){ops:Array Oper}(hops:∀o∈ops.toList,GD o.dst=wO):∀(l:List Oper) {s s0:St},(∀o∈l,KC fs o.op=wO/\GD o.dst=wO)->eS P F n ops l s V=V s0->Xq l s s0
 |[],s,s0,_,h=>by cases h;exact⟨rfl,fun u d _ hu=>hu⟩
 |o::l,s,s0,hl,h=>by
  have ho:=hl o zi
  have hl':=fun o' h'=>hl o' (zJ _ h')
  change K5 P F n ops o (eS P F n ops l) s V=V s0 at h
  unfold K5 at h
  split at h
  case h_2=>cases h
  have putG:∀{s2:St} {d:AV} {nx':Nat},eS P F n ops l ⟨sH o.dst d s2.E,s2.R,nx'⟩ V=V s0->s2.R=s.R->(∀u d,cL s.E u=V d->cL s2.E u=V d)->Xq (o::l) s s0:=fun{s2 d nx'} h1 h2 h3=>by
   obtain⟨q1,q2⟩:=Dk hN hp hops l hl' h1
   refine⟨q1.trans h2,fun u d' hu hd=>q2 u d' (fun o' h'=>hu o' (zJ _ h')) ?_⟩
   show cL (sH o.dst d s2.E) u=V d'
   have hne:=hu o zi
   have hod:=ho.2
   unfold sH
   split
   ·exact h3 u d' hd
   ·rename_i t ht
    rw[ht]at hod hne
    rw[Bi (by simpa [GD]using hod),bF (fun e=>hne (by rw[e]))]
    exact h3 u d' hd
  have yes:∀s1:St,avE P F o (eS P F n ops l) V s1=V s0->s1.R=s.R->(∀u d,cL s.E u=V d->cL s1.E u=V d)->Xq (o::l) s s0:=fun s1 h1 h2 h3=>by
   obtain⟨E1,R1,nx1⟩:=s1
   have h1:opF o.op P F o.dst E1 R1 nx1 (eS P F n ops l) V=V s0:=h1
   have e1:=Ig P F o ⟨E1,R1,nx1⟩ (eS (α:=St) P F n ops l) V
   dsimp only at e1
   rw[e1]at h1
   have go:∀s2:St,rDo P F o (eS P F n ops l) V s2=V s0->s2.R=s.R->(∀u d,cL s.E u=V d->cL s2.E u=V d)->Xq (o::l) s s0:=fun s2 g1 g2 g3=>by
    unfold rDo at g1
    rw[W1 ho.1]at g1
    obtain⟨E2,R2,nx2⟩:=s2
    have g1:nh o.op P F (Fy E2) (gx R2) R2 nx2 (IP o.dst E2 R2 nx2 (eS P F n ops l) V)=V s0:=g1
    have g4:(nh o.op P F (Fy E2) (gx R2) R2 nx2 V).bind (IP o.dst E2 R2 nx2 (eS P F n ops l) V)=V s0:=(AW _ hN ..).trans g1
    obtain⟨e,g5,g6⟩:=zm.1 g4
    obtain⟨d,nx',he⟩:=Ue hN hp ho.1 g5
    rcases he with he|he
    ·subst he;exact putG (s2:=⟨E2,R2,nx2⟩) g6 g2 g3
    ·subst he;exact putG (s2:=⟨E2,R2,nx2⟩) g6 g2 g3
   unfold BL at h1
   split at h1
   ·rename_i t a b hop
    have ht:t<4095:=by
     have:=ho.1
     rw[hop]at this
     simpa [KC,yu]using this
    split at h1
    ·rename_i b hb
     split at h1
     ·exact go _ h1 h2 fun u d hu=>mX (s:=⟨E1,R1,nx1⟩) ht hb (h3 u d hu)
     ·exact go _ h1 h2 fun u d hu=>mX (s:=⟨E1,R1,nx1⟩) ht hb (h3 u d hu)
    ·cases h1
   ·exact go _ h1 h2 h3
  have no:∀s1:St,rNo o.dst (eS P F n ops l) V s1=V s0->s1.R=s.R->(∀u d,cL s.E u=V d->cL s1.E u=V d)->Xq (o::l) s s0:=fun s1 h1 h2 h3=>by
   have:rNo o.dst (eS P F n ops l) V s1=eS P F n ops l ⟨sH o.dst (.lit undef) s1.E,s1.R,s1.nx⟩ V:=by
    unfold rNo sH
    cases o.dst<;>rfl
   rw[this]at h1
   exact putG (s2:=s1) h1 h2 h3
  unfold gate at h
  split at h
  ·exact yes s h rfl fun _ _ h=>h
  ·rename_i j want hg
   split at h
   ·cases h
   ·rename_i t hj
    have ht:t<4095:=by
     obtain⟨o',ho',hd'⟩:=zm.1 hj
     have hm:o'∈ops.toList:=Array.mem_toList_iff.2 (Array.mem_of_getElem? ho')
     have:=hops o' hm
     rw[hd']at this
     simpa [GD,yu]using this
    split at h
    ·rename_i b hb
     split at h
     ·split at h
      ·exact yes _ h rfl fun u d hu=>mX ht hb hu
      ·exact no _ h rfl fun u d hu=>mX ht hb hu
     ·split at h
      ·exact no _ h rfl fun u d hu=>mX ht hb hu
      ·exact yes _ h rfl fun u d hu=>mX ht hb hu
    ·exact no _ h rfl fun _ _ h=>h
    ·cases h
def auG(fs:List Nat)(t:Nat)(E:ET)(ops:List Oper):Bool:=zB t 4095&&ops.all fun o=>KC fs o.op&&GD o.dst&&match o.dst with
 |some u=>zb u t||match cL E u with
  |none=>wO
  |some _=>wN
 |none=>wO
def rbK(t:Nat)(s:St):Option Bool:=match cL s.E t with
 |some (.lit (.bool b))=>V b
 |_=>O
def NB{α:Type}(P:Program)(F:aK)(n:Nat)(fs:List Nat)(t:Nat)(ops:Array Oper)(s:St)(k:gy α):Option α:=match auG fs t s.E ops.toList with
 |true=>match eS (α:=Bool) P F n ops ops.toList s (rbK t)with
  |some b=>k .normal ⟨mC t (.b b) s.E,s.R,s.nx⟩
  |none=>O
 |false=>O
def Env.uF{T:ET}:∀(E:Env) (u:Nat) (d:AV),Env.get (E.filter fun p=>@wP (cL T p.1=V p.2) (Classical.propDecidable _)) u=V d->cL T u=V d
 |[],_,_,h=>by cases h
 |(k,v)::E,u,d,h=>by
  by_cases hk:cL T k=V v
  ·rw[yK,bw (by simp[hk])]at h
   by_cases hku:k=u
   ·subst hku
    rw[Env.e9]at h
    cases h
    exact hk
   ·rw[Env.dO _ _ hku]at h
    exact Env.uF E u d h
  ·rw[yK,bF (by simp[hk])]at h
   exact Env.uF E u d h
def Env.pN{T:ET}:∀(E:Env) (u:Nat) (d:AV),cL T u=V d->E.get u=V d->Env.get (E.filter fun p=>@wP (cL T p.1=V p.2) (Classical.propDecidable _)) u=V d
 |[],_,_,_,h=>by cases h
 |(k,v)::E,u,d,ht,h=>by
  by_cases hku:k=u
  ·subst hku
   rw[Env.e9]at h
   cases h
   rw[yK,bw (by simp[ht])]
   exact Env.e9 _ _ _
  ·rw[Env.dO _ _ hku]at h
   rw[yK]
   split
   ·rw[Env.dO _ _ hku];exact Env.pN E u d ht h
   ·exact Env.pN E u d ht h
def TH{α:Type}{C:Cg}(hF:iJ P F)(hN:dY F)(hp:∀f∈fs,bh F f)(id t:Nat)(ops:Array Oper):UK (α:=α) P C n (.region id ops wN) (NB P F n fs t ops):=fun r s k a w h hm=>by
 unfold NB at h
 split at h
 case h_2=>cases h
 rename_i hrb
 split at h
 case h_2=>cases h
 rename_i b hb
 unfold auG at hrb
 rw[zf,yu]at hrb
 obtain⟨ht,hall⟩:=hrb
 have hall:∀o∈ops.toList,(KC fs o.op=wO/\GD o.dst=wO)/\∀u,o.dst=V u->u=t\/cL s.E u=O:=fun o ho=>by
  have h1:=zo.1 hall o ho
  rw[zf,zf]at h1
  refine⟨h1.1,fun u hu=> ?_⟩
  have h2:=h1.2
  rw[hu]at h2
  dsimp only at h2
  rw[yJ]at h2
  rcases h2 with h2|h2
  ·exact .inl (gA h2)
  ·right
   split at h2
   ·assumption
   ·cases h2
 have hnat:=rE hN (P:=P) (n:=n) (ops:=ops) (rbK t) ops.toList s V
 have hb':(eS P F n ops ops.toList s V).bind (rbK t)=V b:=hnat.trans hb
 obtain⟨s0,h1,h2⟩:=zm.1 hb'
 obtain⟨q1,q2⟩:=Dk hN hp (fun o ho=>(hall o ho).1.2) ops.toList (fun o ho=>(hall o ho).1) h1
 have hend:Ends P C n (.region id ops wN) (fun e s'=>match e with
  | .normal=>V s'
  |_=>O) s0 a w:=by
  refine wp_mono (wp_region_lit (EV hF _ h1 hm)) fun e a' w' ⟨he,_,s',h3,h4⟩=> ?_
  subst he
  exact⟨s',h3,h4⟩
 refine wp_mono hend fun e a' w' ⟨s',h3,h4⟩=> ?_
 cases e<;>first|(cases h3;done)|skip
 have h3:V s'=V s0:=h3
 cases h3
 refine⟨_,h,?_⟩
 have hbt:cL s0.E t=V (.b b):=by
  unfold rbK at h2
  split at h2
  ·rename_i b' hb';cases h2;exact hb'
  ·cases h2
 obtain⟨E,hh,hE,hR,ρ,hag,hsim⟩:=hm
 obtain⟨E0,hh0,hE0,hR0,ρ0,hag0,hsim0⟩:=h4
 let E1:Env:=(t, .b b)::E.filter fun p=>@wP (cL s.E p.1=V p.2) (Classical.propDecidable _)
 have hkey:∀u d,E1.get u=V d->cL s0.E u=V d:=fun u d hu=>by
  by_cases htu:t=u
  ·subst htu
   rw[Env.e9]at hu
   cases hu
   exact hbt
  ·rw[Env.dO _ _ htu]at hu
   have h5:=Env.uF E u d hu
   refine q2 u d (fun o ho hd=> ?_) h5
   rcases (hall o ho).2 u hd with h6|h6
   ·exact htu h6.symm
   ·rw[h5]at h6;cases h6
 refine⟨E1,fun u d hu=> ?_,Env.vY (fun p hp=>hE p (z6.1 hp).1) (.lit _),hR,ρ0,⟨hag0.1,hag.2⟩,?_⟩
 ·have hu:cL (mC t (.b b) s.E) u=V d:=hu
  rw[Bi ht]at hu
  split at hu
  ·rename_i e;rw[<-e,<-zF.inj hu];exact Env.e9 _ _ _
  ·rename_i e
   show Env.get ((t,_)::_) u=_
   rw[Env.dO _ _ e]
   exact Env.pN E u d hu (hh u d hu)
 ·rw[q1]at hsim0
  refine⟨hsim0.defers,hsim0.size,fun u av hu=> ?_,hsim0.good⟩
  rw[Env.fe]at hu
  obtain⟨d,hd,rfl⟩:=zj.1 hu
  exact hsim0.slots u _ (by rw[Env.fe,hh0 u d (hkey u d hd)];rfl)
end
inductive An:Type 1
 |no
 |two (l r:An)
 |lp (γ:Type) (rd:St->Option γ) (pat:γ->St) (GP:γ->Option γ) (body:An)
 |jn (γ:Type) (rd:St->Option γ) (pat:γ->St) (l r:An)
 |rb (fs:List Nat) (t:Nat)
def An.l:An->An
 | .two l _=>l
 | .jn _ _ _ l _=>l
 |_=> .no
def An.r:An->An
 | .two _ r=>r
 | .jn _ _ _ _ r=>r
 |_=> .no
abbrev noTwo(a:An):An:= .two .no a
abbrev XT:=An->(α:Type)->St->gy α->Option α
def ayb{γ:Type}(b:Bool)(p q:γ):γ:=match b with
 |true=>p
 |false=>q
def kOn{γ:Type}(rd:St->Option γ):gy (Option γ):=fun e s=>match e with
 | .normal=>(rd s).map V
 |_=>V O
def amO{γ:Type}(rd:St->Option γ):gy γ:=fun e s=>match e with
 | .normal=>rd s
 |_=>O
def ZU{γ α:Type}(rd:St->Option γ)(pat:γ->St)(c:Operand)(s:St)(x y:(α:Type)->St->gy α->Option α)(k:gy α):Option α:=match c with
 | .tmp t=>match cL s.E t with
  |some (.lit (.bool b))=>match x γ (s.fW t wO) (amO rd)with
   |some p=>match y γ (s.fW t wN) (amO rd)with
    |some q=>k .normal (pat (ayb b p q))
    |none=>O
   |none=>O
  |_=>O
 |_=>O
def ar2(P:Program)(F:aK)(n:Nat)(id:Nat)(ops:Array Oper)(draw:Bool):XT:=fun an _ s k=>match an with
 | .rb fs t=>match draw with
  |false=>NB P F n fs t ops s k
  |true=>BU P F n id ops wO s k
 |_=>BU P F n id ops draw s k
def avS(x y:XT):XT:=fun an α s k=>x an.l α s (agc (y an.r α) k)
def akn(c:Operand)(x y:XT):XT:=fun an α s k=>match an with
 | .jn _ rd pat l r=>ZU rd pat c s (x l) (y r) k
 |an=>ru c s (fun s=>x an.l α s k) (fun s=>y an.r α s k)
def afg(id:Nat)(x:XT):XT:=fun an α s k=>x an α s (tT id k)
def alf(fuel:Nat)(x:XT):XT:=fun an α s k=>match an with
 | .lp _ rd pat GP b=>match rd s with
  |some p=>match GP p with
   |some q=>x b α (pat q) (LL k fun _=>O)
   |none=>O
  |none=>O
 |an=>Es (x an α) k fuel s
def oN(P:Program)(F:aK)(n:Nat)(fuel:Nat)(c:Code):XT:=
 Code.rec (fun _ _ s k=>XO s k) (ar2 P F n) (fun _ _=>avS) (fun c _ _=>akn c) (fun id _=>afg id) (fun _=>alf fuel) (fun _ _ _ _ _ _ _ _ s k=>FG s k) (fun i _ _ s k=>YD i s k) (fun _ _ _ _ s k=>FG s k) (fun _ _ _ s k=>FG s k) (fun _ _ _ s k=>FG s k) (fun _ _ s k=>aiT s k) (fun _ _ _ s k=>FG s k) c
def sJ{γ:Type}(n0 n:Nat)(rd:St->Option γ)(pat:γ->St):Prop:=∀(C:Cg) s p a w,C.n=n0->rd s=V p->Mt C n s a w->Mt C n (pat p) a w
def TE{γ:Type}(x:XT)(rd:St->Option γ)(pat:γ->St)(b:An):Nat->γ->γ->Prop
 |0,p,q=>p=q
 |n+1,p,q=>∃p',x b (Option γ) (pat p) (kOn rd)=V (V p')/\TE x rd pat b n p' q
def RI{γ:Type}(x:XT)(rd:St->Option γ)(pat:γ->St)(GP:γ->Option γ)(b:An):Prop:=
 ∀p q,GP p=V q->∃n,TE x rd pat b n p q
def Lj(P:Program)(F:aK)(n0 n:Nat)(fuel:Nat)(c:Code):An->Prop:=
 Code.rec (fun _=>True) (fun _ _ _ an=>match an with
  | .rb fs _=>∀f∈fs,bh F f
  |_=>True) (fun _ _ x y an=>x an.l/\y an.r) (fun _ _ _ x y an=>(∀γ rd pat l r,an= .jn γ rd pat l r->sJ n0 n rd pat)/\x an.l/\y an.r) (fun _ _ x=>x)
  (fun c x an=>match an with
   | .lp _ rd pat GP b=>sJ n0 n rd pat/\RI (oN P F n fuel c) rd pat GP b/\x b
   |an=>x an) (fun _ _ _ _ _ _ _=>True) (fun _ _=>True) (fun _ _ _=>True) (fun _ _=>True) (fun _ _=>True) (fun _=>True) (fun _ _=>True) c
section
variable {P:Program} {F:aK} {C:Cg} {n0 n:Nat}
def W6(hF:iJ P F)(hN:dY F)(hC:C.n=n0)(fuel:Nat)(c:Code):∀an,Lj P F n0 n fuel c an->∀(α:Type),UK (α:=α) P C n c (oN P F n fuel c an α):=by
 induction c with
 |skip=>exact fun an _ α r s k a w h hm=>wp_skip ⟨s,h,hm⟩
 |region id ops draw=>
  intro an ho α
  cases an with
  |rb fs t=>
   cases draw with
   |false=>exact TH hF hN ho id t ops
   |true=>exact DY hF hN id ops wO
  |_=>exact DY hF hN id ops draw
 |seq x y hx hy=>
  intro an ho α r s k a w h hm
  obtain⟨h1,h2⟩:Lj P F n0 n fuel x an.l/\Lj P F n0 n fuel y an.r:=ho
  refine wp_seq (wp_mono (hx an.l h1 α r s _ a w h hm) fun e a' w' ⟨s',g1,g2⟩=> ?_)
  cases e with
  |normal=>exact hy an.r h2 α r s' k a' w' g1 g2
  |_=>exact⟨s',g1,g2⟩
 |cond c x y hx hy=>
  intro an ho α r s k a w h hm
  obtain⟨h0,h1,h2⟩:(∀γ rd pat l r,an= .jn γ rd pat l r->sJ n0 n rd pat)/\Lj P F n0 n fuel x an.l/\Lj P F n0 n fuel y an.r:=ho
  have plain:ru c s (fun s=>oN P F n fuel x an.l α s k) (fun s=>oN P F n fuel y an.r α s k)=V r->Ends P C n (.cond c x y) k r a w:=fun h=>by
   obtain⟨b,s',he,hm',h'⟩:=L7 h hm
   cases b with
   |true=>exact wp_cond_true he (hx an.l h1 α r s' k a w h' hm')
   |false=>exact wp_cond_false he (hy an.r h2 α r s' k a w h' hm')
  cases an with
  |jn γ rd pat l r'=>
   have hrd:=h0 γ rd pat l r' rfl
   change ZU rd pat c s (oN P F n fuel x l) (oN P F n fuel y r') k=V r at h
   unfold ZU at h
   split at h
   case h_2=>cases h
   rename_i t
   split at h
   case h_2=>cases h
   rename_i b hb
   split at h
   case h_2=>cases h
   rename_i p hp
   split at h
   case h_2=>cases h
   rename_i q hq
   have hev:a.eval (.tmp t)= .bool b:=by
    obtain⟨E,hh,_,_,ρ,_,hs⟩:=hm
    refine RN hs ?_
    have g1:=hh t _ hb
    show Env.get (E.sub ρ) t=_
    rw[Env.fe,g1,yt,bT]
   have fin:∀(p:γ),k .normal (pat p)=V r->∀e a' w',(∃s',amO rd e s'=V p/\Mt C n s' a' w')->∃s',k e s'=V r/\Mt C n s' a' w':=fun p hk e a' w' ⟨s',g1,g2⟩=>by
    cases e with
    |normal=>exact⟨_,hk,hrd C s' p a' w' hC g1 g2⟩
    |_=>cases g1
   cases b with
   |true=>exact wp_cond_true hev (wp_mono (hx l h1 γ p _ _ a w hp (hm.fW hb)) (fin p h))
   |false=>exact wp_cond_false hev (wp_mono (hy r' h2 γ q _ _ a w hq (hm.fW hb)) (fin q h))
  |_=>exact plain h
 |block id x hx=>
  intro an ho α r s k a w h hm
  refine wp_block (wp_mono (hx an ho α r s _ a w h hm) fun e a' w' ⟨s',h1,h2⟩=> ?_)
  cases e with
  |exit id'=>
   simp only[tT]at h1
   simp only[Exit.inBlock]
   split
   ·rename_i he
    subst he
    have hb:zb id' id'=wO:=Nat.beq_refl _
    simp only[hb]at h1
    exact⟨s',h1,h2⟩
   ·rename_i he
    have hb:zb id' id=wN:=by
     cases hb:zb id' id with
     |false=>rfl
     |true=>exact cQ (yW hb) he
    simp only[hb]at h1
    exact⟨s',h1,h2⟩
  |_=>exact⟨s',h1,h2⟩
 |loop c hc=>
  intro an ho α r s k a w h hm
  cases an with
  |lp γ rd pat GP b=>
   obtain⟨hrd,hadv,hb⟩:sJ n0 n rd pat/\RI (oN P F n fuel c) rd pat GP b/\Lj P F n0 n fuel c b:=ho
   change (match rd s with
    |some p=>match GP p with
     |some q=>oN P F n fuel c b α (pat q) (LL k fun _=>O)
     |none=>O
    |none=>O)=V r at h
   split at h
   case h_2=>cases h
   rename_i p hp
   split at h
   case h_2=>cases h
   rename_i q hq
   obtain⟨m,hgo⟩:=hadv p q hq
   have key:∀(m:Nat) (p:γ),TE (oN P F n fuel c) rd pat b m p q->∀(a:Act) (w:World),Mt C n (pat p) a w->
     c.wp P (Exit.then (InL P c fun e a' w'=>∃s',k e s'=V r/\Mt C n s' a' w') fun e a' w'=>∃s',k e s'=V r/\Mt C n s' a' w') a w:=by
    intro m
    induction m with
    |zero=>
     intro p hg a w hm
     have hg:p=q:=hg
     subst hg
     refine wp_mono (hc b hb α r _ _ a w h hm) fun e a' w' ⟨s',q1,q2⟩=> ?_
     cases e with
     |normal=>cases q1
     |_=>exact⟨s',q1,q2⟩
    |succ m ih=>
     intro p hg a w hm
     obtain⟨p',g1,g3⟩:=hg
     refine wp_mono (hc b hb (Option γ) (V p') _ _ a w g1 hm) fun e a' w' ⟨s',q1,q2⟩=> ?_
     cases e with
     |normal=>
      obtain⟨p'',q3,q4⟩:=zj.1 (show (rd s').map V=V (V p')from q1)
      cases q4
      exact K6 (ih p' g3 a' w' (hrd C s' p' a' w' hC q3 q2))
     |_=>cases q1
   exact GR (key m p hgo a w (hrd C s p a w hC hp hm))
  |_=>exact GG (hc _ ho α) fuel r s k a w h hm
 |exit i=>exact fun an _ α r s k a w h hm=>wp_exit ⟨s,h,hm⟩
 |ret=>exact fun an _ α r s k a w h hm=>wp_ret ⟨s,h,hm⟩
 |_=>exact fun an _ α r s k a w h hm=>by cases h
def bU(P:Program)(F:aK)(fuel:Nat)(an:An){α:Type}(f:FuncId)(args:List AV)(R:aY)(nx:Nat)(k:St->Option α):Option α:=match P.funcs[f]? with
 |some fn=>match fn.body with
  |some c=>match ya args.length fn.ntmps&& !(fn.name=="runtime.NumGoroutine")with
   |true=>oN P F fn.ntmps fuel c an α ⟨KR 0 args .e,R,nx⟩ fun e s=>match e with
    | .normal=>k s
    | .ret=>k s
    |_=>O
   |false=>O
  |none=>O
 |none=>O
def eG(P:Program)(F:aK)(n0:Nat)(fuel:Nat)(f:FuncId)(an:An):Prop:=∀fn c,P.funcs[f]? =V fn->fn.body=V c->Lj P F n0 fn.ntmps fuel c an
def E8(P:Program)(f:FuncId)(s:St):Option (List AV):=match P.funcs[f]? with
 |some fn=>FK P s fn.results.toList
 |none=>O
structure Out where
 d:AV
 R:aY
 c:Nat
def Tv(P:Program)(f:FuncId)(args:List AV)(R0:aY)(n0:Nat)(x:Out):Prop:=∀ρ:Gh,Fn P f (args.map (cc.sub ρ)) (aY.res ρ R0) (fun a s=>∃ρ':Gh,sk n0 ρ ρ'/\a=x.d.sub ρ'/\List.Perm s (aY.res ρ' x.R))
def pH(hF:bq P F){n0 fuel:Nat}{f:FuncId}{an:An}(han:eG P F n0 fuel f an){args:List AV}{R0:aY}{γ:Type}{rd:St->Option γ}{pat:γ->St}{out:γ->Out}{p:γ}
  (hrd:∀n,sJ n0 n rd pat) (ho:∀p,(match E8 P f (pat p)with
   |some ds=>V (Out.mk (eT ds) (oF (pat p).R n0 (eT ds)) (pat p).nx)
   |none=>O)=V (out p))
  (hargs:∀d∈args,cM n0 d) (hR:aY.cM n0 R0) (h:bU P F fuel an f args R0 n0 rd=V p):AZ P f/\Tv P f args R0 n0 (out p):=by
 unfold bU at h
 split at h
 case h_2=>cases h
 rename_i fn hf
 split at h
 case h_2=>cases h
 rename_i c hb
 split at h
 case h_2=>cases h
 rename_i hc
 rw[zf]at hc
 obtain⟨hl,hnm⟩:=hc
 have hop:=ho p
 split at hop
 case h_2=>cases hop
 rename_i ds hds
 have hds:FK P (pat p) fn.results.toList=V ds:=by
  unfold E8 at hds
  rw[hf]at hds
  exact hds
 have hop:=zF.inj hop
 refine⟨⟨fn,hf,by simpa using hnm,by rw[hb];rfl⟩,fun ρ=>Fn.of hf hb rfl (by rw[zK];exact hl) fun C a w ha=> ?_⟩
 have hm:Mt ⟨C,ρ,n0⟩ fn.ntmps ⟨KR 0 args .e,R0,n0⟩ a w:=by
  refine⟨fh 0 args,?_,fun q hq=>hargs _ (qN hq),hR,ρ,⟨.refl _ _,zD _⟩,?_⟩
  ·have:=AX args 0 .e [] (fun t d ht=>by cases t<;>cases ht) (fun t d ht=>by cases t<;>cases ht)
   rwa [yj]at this
  ·rw[pZ];exact ha
 refine wp_mono (W6 (C:=⟨C,ρ,n0⟩) hF.ok hF.nat rfl fuel c an (han fn c hf hb) γ p _ _ a w h hm) fun e a' w' ⟨s',h1,h2⟩=> ?_
 have fin:∀e:Exit,(e= .normal\/e= .ret)->rd s'=V p->∃E' σ',uK C fn.ntmps E' σ' a' w'/\aba P C fn.ntmps fn (fun a s=>∃ρ':Gh,sk n0 ρ ρ'/\a=(out p).d.sub ρ'/\List.Perm s (aY.res ρ' (out p).R)) e E' σ':=fun e he hp=>by
  have hm':=hrd fn.ntmps ⟨C,ρ,n0⟩ s' p a' w' rfl hp h2
  obtain⟨E,hh,hE,hR,ρ',⟨hag,hnx⟩,hsim⟩:=hm'
  have hsub:List.Sublist (oF (pat p).R n0 (eT ds)) (pat p).R:=Bb _ _ _
  refine⟨_,_,hsim,ZB (σ':=aY.res ρ' (oF (pat p).R n0 (eT ds))) (av:=(eT ds).sub ρ') he (hsub.map _) ⟨ρ',hag,by rw[<-hop],by rw[<-hop]⟩ fun A w' tmps hd hs=> ?_⟩
  obtain⟨us,q1,q2⟩:=IY hh hd hs hds
  refine⟨_,?_,Km q2⟩
  show (do let vs <-fn.results.mapM (tC tmps);pure (if h:vs.size=1 then vs[0]else .tuple vs):Sem Value).run P w'=_
  have e1:fn.results=fn.results.toList.toArray:=by simp
  rw[e1,List.mapM_toArray]
  simp[q1]
 cases e with
 |normal=>exact fin _ (.inl rfl) h1
 |ret=>exact fin _ (.inr rfl) h1
 |_=>cases h1
end
section
variable {γ:Type} (cO:γ->Option (Option γ))
def l6:Nat->γ->γ->Prop
 |0,p,q=>p=q/\∀r,cO p≠V (V r)
 |n+1,p,q=>∃p',cO p=V (V p')/\l6 n p' q
open Classical in
def bI(p:γ):Option γ:=if h:∃q n,l6 cO n p q then V (Classical.choose h)else O
variable {cO}
def l6.det:∀{n m:Nat} {p q q':γ},l6 cO n p q->l6 cO m p q'->n=m/\q=q'
 |0,0,p,q,q',⟨h1,_⟩,⟨h2,_⟩=>⟨rfl,h1▸h2⟩
 |0,m+1,p,q,q',⟨h1,h3⟩,⟨p',h2,_⟩=>cQ h2 (h3 p')
 |n+1,0,p,q,q',⟨p',h2,_⟩,⟨h1,h3⟩=>cQ h2 (h3 p')
 |n+1,m+1,p,q,q',⟨p',h1,h2⟩,⟨p'',h3,h4⟩=>by
  rw[h1]at h3
  cases h3
  obtain⟨e1,e2⟩:=l6.det h2 h4
  exact⟨by rw[e1],e2⟩
def l6.GP{n:Nat}{p q:γ}(h:l6 cO n p q):bI cO p=V q:=by
 have hx:∃q n,l6 cO n p q:=⟨q,n,h⟩
 unfold bI
 rw[dif_pos hx]
 obtain⟨m,hm⟩:=Classical.choose_spec hx
 rw[(l6.det hm h).2]
def l6.last{n:Nat}{p q:γ}(h:l6 cO n p q):∀r,cO q≠V (V r):=by
 induction n generalizing p with
 |zero=>obtain⟨h1,h2⟩:=h;rw[<-h1];exact h2
 |succ n ih=>obtain⟨p',_,h2⟩:=h;exact ih h2
def l6.ex(I:γ->Prop)(m:γ->Nat)(h:∀p q,I p->cO p=V (V q)->I q/\m q<m p):∀(k:Nat) (p:γ),m p<=k->I p->∃n q,l6 cO n p q/\I q
 |k,p,hk,hp=>by
  by_cases hq:∃q,cO p=V (V q)
  ·obtain⟨q,hq⟩:=hq
   obtain⟨h1,h2⟩:=h p q hp hq
   match k with
   |0=>omega
   |k+1=>
    obtain⟨n,r,h3,h4⟩:=l6.ex I m h k q (by omega) h1
    exact⟨n+1,r,⟨q,hq,h3⟩,h4⟩
  ·exact⟨0,p,⟨rfl,fun r hr=>hq ⟨r,hr⟩⟩,hp⟩
def AU{p q:γ}(h:bI cO p=V q):∃n,l6 cO n p q:=by
 unfold bI at h
 split at h
 ·rename_i hx
  cases h
  exact Classical.choose_spec hx
 ·cases h
def lH(I:γ->Prop)(m:γ->Nat)(h:∀p q,I p->cO p=V (V q)->I q/\m q<m p){p:γ}(hp:I p):∃q,bI cO p=V q/\I q/\∀r,cO q≠V (V r):=by
 obtain⟨n,q,h1,h2⟩:=l6.ex I m h (m p) p (zD _) hp
 exact⟨q,h1.GP,h2,h1.last⟩
def bQ{p p':γ}(h:cO p=V (V p')):bI cO p=bI cO p':=by
 cases h2:bI cO p' with
 |some q=>
  obtain⟨n,hn⟩:=AU h2
  exact(show l6 cO (n+1) p q from⟨p',h,hn⟩).GP
 |none=>
  cases h1:bI cO p with
  |none=>rfl
  |some q=>
   obtain⟨n,hn⟩:=AU h1
   cases n with
   |zero=>exact cQ h (hn.2 p')
   |succ n=>
    obtain⟨p'',h3,h4⟩:=hn
    rw[h]at h3
    cases h3
    rw[h4.GP]at h2
    cases h2
def cu{p:γ}(h:∀r,cO p≠V (V r)):bI cO p=V p:=(show l6 cO 0 p p from⟨rfl,h⟩).GP
def l6.x{x:XT}{rd:St->Option γ}{pat:γ->St}{b:An}(hx:∀p,x b (Option γ) (pat p) (kOn rd)=cO p):∀{n:Nat} {p q:γ},l6 cO n p q->TE x rd pat b n p q
 |0,_,_,h=>h.1
 |_+1,_,_,⟨p',h1,h2⟩=>⟨p',by rw[hx];exact h1,l6.x hx h2⟩
def afd{x:XT}{rd:St->Option γ}{pat:γ->St}{b:An}(hx:∀p,x b (Option γ) (pat p) (kOn rd)=cO p):RI x rd pat (bI cO) b:=fun p q h=>by
 obtain⟨n,hn⟩:=AU h
 exact⟨n,hn.x hx⟩
end
end Go.Iv
end
noncomputable section
namespace Go.Iv
variable [U:sX] [L:nQ]
open Go Go.RowKit
section
variable {β γ δ:Type}
def PN(f:AV->Option β)(c:β->AV):Prop:=∀a b,f a=V b->(∀(ρ:Gh) A w v,Rel A w (a.sub ρ) v->Rel A w ((c b).sub ρ) v)/\∀n,cM n a->cM n (c b)
def PN.of{f:AV->Option β}{c:β->AV}(h:P1 f c)(hc:∀a b,f a=V b->FA 2 a=wO)(hl:∀b,(∀ρ,(c b).sub ρ=c b)/\∀n,cM n (c b)):PN f c:=fun a b hb=>
 ⟨fun ρ A w v hr=>by rw[jX 2 (hc a b hb)]at hr;rw[(hl b).1];exact h a b hb A w v hr,fun n _=>(hl b).2 n⟩
def PN.i(k:IntKind):PN (iK k) (cc.n k):= .of (.i k) (fun a b h=>by
 unfold iK at h
 split at h
 ·rfl
 ·cases h) fun b=>⟨fun ρ=>bT ρ _,fun n=> .lit _⟩
def PN.b:PN UA cc.b:= .of .b (fun a b h=>by
 unfold UA at h
 split at h
 ·rfl
 ·cases h) fun b=>⟨fun ρ=>bT ρ _,fun n=> .lit _⟩
def PN.s:PN asS cc.s:= .of .s (fun a b h=>by
 unfold asS at h
 split at h
 ·rfl
 ·cases h) fun b=>⟨fun ρ=>bT ρ _,fun n=> .lit _⟩
def PN.l(t:Nat):PN (jS t) (cc.sl t):= .of (.l t) (fun a b h=>by
 unfold jS at h
 split at h
 ·rfl
 ·rfl
 ·cases h) fun b=>⟨fun ρ=>gE ρ _ _,fun n=> .sl _ _⟩
def afD(t:Nat):AV->Option (U.dw t)
 | .agg cs=>match cs.all (FA 1)with
  |true=>L.parse t cs
  |false=>O
 |_=>O
def PN.g(t:Nat):PN (afD t) (fun x=> .agg (U.cells t x)):= .of (fun a b h A w v hr=>by
 unfold afD at h
 split at h
 ·split at h
  ·obtain⟨us,rfl,h2⟩:=hr.mN
   exact Rel.ny (L.lW _ _ _ h A w us h2)
  ·cases h
 ·cases h) (fun a b h=>by
 unfold afD at h
 split at h
 ·split at h
  ·rename_i hc;exact hc
  ·cases h
 ·cases h) fun b=>⟨fun ρ=>by rw[eN,L.clo],fun n=> .agg _ (L.rN t b n)⟩
def asP(id off:Nat):AV->Option Unit
 | .ptr i o=>match zb i id&&zb o off with
  |true=>V ()
  |false=>O
 |_=>O
def PN.p(id off:Nat):PN (asP id off) (fun _=> .ptr id off):=fun a b h=>by
 unfold asP at h
 split at h
 ·split at h
  ·rename_i hc
   rw[zf]at hc
   rw[gA hc.1,gA hc.2]
   exact⟨fun _ _ _ _ h=>h,fun _ h=>h⟩
  ·cases h
 ·cases h
def asO(id:Nat):AV->Option Unit
 | .own i=>match zb i id with
  |true=>V ()
  |false=>O
 |_=>O
def PN.o(id:Nat):PN (asO id) (fun _=> .own id):=fun a b h=>by
 unfold asO at h
 split at h
 ·split at h
  ·rename_i hc
   rw[gA hc]
   exact⟨fun _ _ _ _ h=>h,fun _ h=>h⟩
  ·cases h
 ·cases h
def Ko(q:List AV->Option γ)(c:γ->List AV):Prop:=∀cs g,q cs=V g->(∀(ρ:Gh) A w us,bK A w (cs.map (cc.sub ρ)) us->bK A w ((c g).map (cc.sub ρ)) us)/\∀n,(∀a∈cs,cM n a)->∀a∈c g,cM n a
def Ko.nil:Ko oY (fun _=>[]):=fun cs g h=>by
 unfold oY at h
 split at h
 ·exact⟨fun ρ A w us hr=>hr,fun n h=>h⟩
 ·cases h
def Ko.cons{f:AV->Option β}{c:β->AV}{q:List AV->Option γ}{d:γ->List AV}(h:PN f c)(hq:Ko q d):Ko (dM f q) (fun x=>c x.1::d x.2):=fun cs g hg=>by
 unfold dM at hg
 split at hg
 ·obtain⟨b,h1,hg⟩:=zm.1 hg
  obtain⟨g',h2,rfl⟩:=zj.1 hg
  obtain⟨h3,h4⟩:=h _ _ h1
  obtain⟨h5,h6⟩:=hq _ _ h2
  refine⟨fun ρ A w us hr=> ?_,fun n hn a ha=> ?_⟩
  ·rw[yh]at hr ⊢
   obtain⟨v,us',rfl,h7,h8⟩:=hr.head
   exact bK.cons (h3 ρ A w v h7) (h5 ρ A w us' h8)
  ·rcases zy.1 ha with rfl|ha
   ·exact h4 n (hn _ zi)
   ·exact h6 n (fun a ha=>hn a (zJ _ ha)) a ha
 ·cases hg
def amn(q:List AV->Option γ):AV->Option γ
 | .agg cs=>q cs
 |_=>O
def PN.ag{q:List AV->Option γ}{c:γ->List AV}(h:Ko q c):PN (amn q) (fun x=> .agg (c x)):=fun a b hb=>by
 unfold amn at hb
 split at hb
 ·rename_i cs
  obtain⟨h1,h2⟩:=h _ _ hb
  refine⟨fun ρ A w v hr=> ?_,fun n hn=> .agg _ (h2 n hn.ny)⟩
  rw[eN]at hr ⊢
  obtain⟨us,rfl,h3⟩:=hr.mN
  exact Rel.ny (h1 ρ A w us h3)
 ·cases hb
def aj1(k:Nat)(q:List AV->Option γ):AV->Option γ
 | .fn (.func i) cs=>match zb i k with
  |true=>q cs
  |false=>O
 |_=>O
def PN.ff(k:Nat){q:List AV->Option γ}{c:γ->List AV}(h:Ko q c):PN (aj1 k q) (fun x=> .fn (.func k) (c x)):=fun a b hb=>by
 unfold aj1 at hb
 split at hb
 ·rename_i i cs
  split at hb
  ·rename_i hi
   have hi:=gA hi
   subst hi
   obtain⟨h1,h2⟩:=h _ _ hb
   refine⟨fun ρ A w v hr=> ?_,fun n hn=> .fn _ _ (h2 n hn.fnL)⟩
   rw[tH]at hr ⊢
   generalize ha:cc.fn (Fn.func i) (cs.map (cc.sub ρ))=a at hr
   cases hr with
   |fn f cs' us hl hr=>
    cases ha
    obtain⟨h3,h4⟩:=h1 ρ A w us ⟨hl,hr⟩
    exact .fn _ _ us h3 h4
   |_=>cases ha
  ·cases hb
 ·cases hb
def ana(q:List AV->Option γ):AV->Option γ
 | .fp cs=>q cs
 |_=>O
def PN.fp{q:List AV->Option γ}{c:γ->List AV}(h:Ko q c):PN (ana q) (fun x=> .fp (c x)):=fun a b hb=>by
 unfold ana at hb
 split at hb
 ·rename_i cs
  obtain⟨h1,h2⟩:=h _ _ hb
  refine⟨fun ρ A w v hr=> ?_,fun n hn=> ?_⟩
  ·rw[mq]at hr ⊢
   generalize ha:cc.fp (cs.map (cc.sub ρ))=a at hr
   cases hr with
   |fp cs' b o us hb hA hl hc hr=>
    cases ha
    obtain⟨h3,h4⟩:=h1 ρ A w us ⟨hl,hr⟩
    exact .fp _ b o us hb hA h3 hc h4
   |_=>cases ha
  ·generalize ha:cc.fp cs=a at hn
   cases hn with
   |fp cs' h5=>cases ha;exact .fp _ (h2 n h5)
   |_=>cases ha
 ·cases hb
def akA:AV->Option Unit
 | .lit (.slice O 0 0)=>V ()
 |_=>O
def PN.ns:PN akA (fun _=> .lit (.slice O 0 0)):=fun a b hb=>by
 unfold akA at hb
 split at hb
 ·exact⟨fun _ _ _ _ h=>h,fun _ h=>h⟩
 ·cases hb
def alX(t:Nat)(cs:List AV):Option (U.dw t):=match cs.all (FA 1)with
 |true=>L.parse t cs
 |false=>O
def Ko.parse(t:Nat):Ko (alX t) (fun x=>U.cells t x):=fun cs g h=>by
 unfold alX at h
 split at h
 ·rename_i hc
  have e:∀ρ,cs.map (cc.sub ρ)=cs:=fun ρ=>by
   have:cs.map (cc.sub ρ)=cs.map id:=zV fun a ha=>jX 1 (zo.1 hc a ha)
   rw[this,List.map_id]
  exact⟨fun ρ A w us hr=>by rw[e]at hr;rw[L.clo];exact L.lW _ _ _ h A w us hr,fun n _=>L.rN t g n⟩
 ·cases h
def slN(_:ET):Option Unit:=V ()
def slC(t:Nat)(f:AV->Option β)(q:ET->Option γ)(T:ET):Option (β×γ):=match cL T t with
 |some a=>(f a).bind fun b=>(q T).map fun g=>(b,g)
 |none=>O
def Og(q:ET->Option γ)(d:γ->Env):Prop:=∀T g,q T=V g->∀(E:Env),uk T E->(∀(ρ:Gh) A w tmps,lM A w (E.sub ρ) tmps->lM A w ((d g).sub ρ) tmps)/\∀n,E.cM n->(d g).cM n
def Og.nil:Og slN (fun _=>[]):=fun T g _ E _=>⟨fun ρ A w tmps _ t av h=>(by cases h),fun n _ p hp=>(by cases hp)⟩
def Og.cons{t:Nat}{f:AV->Option β}{c:β->AV}{q:ET->Option γ}{d:γ->Env}(hf:PN f c)(hq:Og q d):Og (slC t f q) (fun x=>(t,c x.1)::d x.2):=fun T g h E hh=>by
 unfold slC at h
 split at h
 case h_2=>cases h
 rename_i a ha
 obtain⟨b,hb,h⟩:=zm.1 h
 obtain⟨g',hg,rfl⟩:=zj.1 h
 obtain⟨h1,h2⟩:=hf a b hb
 obtain⟨h3,h4⟩:=hq T g' hg E hh
 refine⟨fun ρ A w tmps hs s av hx=> ?_,fun n hn p hp=> ?_⟩
 ·have hx:Env.get ((t,(c b).sub ρ)::(d g').sub ρ) s=V av:=hx
  by_cases hts:t=s
  ·subst hts
   rw[Env.e9]at hx
   cases hx
   obtain⟨v,q1,q2⟩:=hs t (a.sub ρ) (by rw[Env.fe,hh t a ha];rfl)
   exact⟨v,q1,h1 ρ A w v q2⟩
  ·rw[Env.dO _ _ hts]at hx
   exact h3 ρ A w tmps hs s av hx
 ·rcases zy.1 hp with rfl|hp
  ·exact h2 n (hn _ (Env.get_mem (hh t a ha)))
  ·exact h4 n hn p hp
def aml(E:Env):ET:=List.rec .e (fun p _ T=>mC p.1 p.2 T) E
def AY:∀E:Env,uk (aml E) E
 |[]=>fun t d h=>by cases t<;>cases h
 |p::E=>(AY E).put p.1 p.2
def leR(p p':Nat×IR):Prop:=p.1=p'.1/\(∀(ρ:Gh) A w,(p.2.res ρ p.1).ok A w->(p'.2.res ρ p'.1).ok A w)/\(∀ρ:Gh,(p.2.res ρ p.1).blk=(p'.2.res ρ p'.1).blk)/\∀n,p.2.cM n->p'.2.cM n
inductive I3:aY->aY->Prop
 |nil:I3 [] []
 |cons {p p':Nat×IR} {R R':aY} (h:leR p p') (hs:I3 R R'):I3 (p::R) (p'::R')
def rsN:aY->Option Unit
 |[]=>V ()
 |_=>O
def rsR(id t:Nat)(q:aY->Option γ):aY->Option (List (U.dw t)×γ)
 |(i, .row t' l)::R=>match zb i id with
  |true=>(vw t' t l).bind fun l=>(q R).map fun g=>(l,g)
  |false=>O
 |_=>O
def Fj(q:aY->Option γ)(d:γ->aY):Prop:=∀R g,q R=V g->I3 R (d g)
def Fj.nil:Fj rsN (fun _=>[]):=fun R g h=>by
 cases R with
 |nil=>exact .nil
 |cons p R=>cases h
def Fj.row{id t:Nat}{q:aY->Option γ}{d:γ->aY}(hq:Fj q d):Fj (rsR id t q) (fun x=>(id, .row t x.1)::d x.2):=fun R g h=>by
 obtain⟨i,t',l,R',rfl,hcd,h9⟩:∃i t' l R',R=(i,IR.row t' l)::R'/\zb i id=wO/\((vw t' t l).bind fun l=>(q R').map fun g=>(l,g))=V g:=by
  unfold rsR at h
  split at h
  ·split at h
   ·rename_i hcd;exact⟨_,_,_,_,rfl,hcd,h⟩
   ·cases h
  ·cases h
 have e1:=gA hcd
 subst e1
 obtain⟨l',hl,h9⟩:=zm.1 h9
 obtain⟨g',hg,rfl⟩:=zj.1 h9
 obtain⟨rfl,rfl⟩:=nD hl
 exact .cons ⟨rfl,fun ρ A w h=>h,fun ρ=>rfl,fun n h=>h⟩ (hq _ _ hg)
def amg(id T:Nat)(f:List AV->Option β)(q:aY->Option γ):aY->Option (β×γ)
 |(i, .box T' cs)::R=>match zb i id&&zb T' T with
  |true=>(f cs).bind fun b=>(q R).map fun g=>(b,g)
  |false=>O
 |_=>O
def Fj.ayA{id T:Nat}{f:List AV->Option β}{c:β->List AV}{q:aY->Option γ}{d:γ->aY}(hf:Ko f c)(hq:Fj q d):Fj (amg id T f q) (fun x=>(id, .box T (c x.1))::d x.2):=fun R g h=>by
 obtain⟨i,T',cs,R',rfl,hcd,h9⟩:∃i T' cs R',R=(i,IR.box T' cs)::R'/\(zb i id&&zb T' T)=wO/\((f cs).bind fun b=>(q R').map fun g=>(b,g))=V g:=by
  unfold amg at h
  split at h
  ·split at h
   ·rename_i hcd;exact⟨_,_,_,_,rfl,hcd,h⟩
   ·cases h
  ·cases h
 rw[zf]at hcd
 have e1:=gA hcd.1
 have e2:=gA hcd.2
 subst e1 e2
 obtain⟨b,hb,h9⟩:=zm.1 h9
 obtain⟨g',hg,rfl⟩:=zj.1 h9
 obtain⟨k1,k2⟩:=hf _ _ hb
 exact .cons ⟨rfl,fun ρ A w ⟨us,h1,h2⟩=>⟨us,h1,k1 ρ A w us h2⟩,fun ρ=>rfl,fun n hn=>k2 n hn⟩ (hq _ _ hg)
def EE{ρ:Gh}:∀{R R':aY},I3 R R'->bH (aY.res ρ R)=bH (aY.res ρ R')
 |_,_, .nil=>rfl
 |_,_, .cons (p:=p) (p':=p') h hs=>by
  unfold bH aY.res
  rw[yh,yh,xd,xd,h.2.2.1 ρ]
  have:=EE (ρ:=ρ) hs
  unfold bH aY.res at this
  rw[this]
def NH{ρ:Gh}{A:Nat->Prop}{w:World}:∀{R R':aY},I3 R R'->(∀r∈aY.res ρ R,r.ok A w)->∀r∈aY.res ρ R',r.ok A w
 |_,_, .nil,_=>fun r hr=>by cases hr
 |_,_, .cons (p:=p) (p':=p') h hs,h0=>fun r hr=>by
  rcases zy.1 hr with rfl|hr
  ·exact h.2.1 ρ A w (h0 _ zi)
  ·exact NH hs (fun r hr=>h0 r (zJ _ hr)) r hr
def SK{n:Nat}:∀{R R':aY},I3 R R'->aY.cM n R->aY.cM n R'
 |_,_, .nil,h=>h
 |_,_, .cons (p:=p) (p':=p') h hs,h0=>fun q hq=>by
  rcases zy.1 hq with rfl|hq
  ·exact⟨by rw[<-h.1];exact(h0 _ zi).1,h.2.2.2 n (h0 _ zi).2⟩
  ·exact SK hs (fun q hq=>h0 q (zJ _ hq)) q hq
def stR(m:Nat)(q:ET->Option γ)(r:aY->Option δ)(s:St):Option (γ×δ):=match zb s.nx m with
 |true=>(q s.E).bind fun g=>(r s.R).map fun h=>(g,h)
 |false=>O
def stP(m:Nat)(d:γ->Env)(e:δ->aY)(p:γ×δ):St:=⟨aml (d p.1),e p.2,m⟩
def amX{n0 n m:Nat}{q:ET->Option γ}{r:aY->Option δ}{d:γ->Env}{e:δ->aY}(hq:Og q d)(hr:Fj r e):sJ n0 n (stR m q r) (stP m d e):=fun C s p a w _ h hm=>by
 unfold stR at h
 split at h
 case h_2=>cases h
 rename_i hnx
 have hnx:=gA hnx
 obtain⟨g,hg,h⟩:=zm.1 h
 obtain⟨g',hg',rfl⟩:=zj.1 h
 obtain⟨E,hh,hE,hR,ρ,hag,hsim⟩:=hm
 obtain⟨h1,h2⟩:=hq _ _ hg E hh
 have h3:=hr _ _ hg'
 have hb:bH (aY.res ρ (e g'))=bH (aY.res ρ s.R):=(EE h3).symm
 have hal:∀b,al C.C (aY.res ρ s.R) b->al C.C (aY.res ρ (e g')) b:=fun b hA=>⟨hA.1,by rw[hb];exact hA.2⟩
 subst hnx
 have hdis:(bH (aY.res ρ (e g'))).Nodup:=by rw[hb];exact hsim.good.F8
 refine⟨d g,AY _,h2 _ hE,SK h3 hR,ρ,hag,hsim.defers.step (fun b _ hA=>⟨hal b hA,rfl⟩),hsim.size,fun t av ht=> ?_,hsim.good.kept,fun x hx=> ?_,hdis,fun b hx=>hsim.good.own b (by rw[<-hb];exact hx)⟩
 ·obtain⟨v,q1,q2⟩:=h1 ρ _ w a.tmps hsim.slots t av ht
  exact⟨v,q1,q2.mono fun b _ hA=>⟨hal b hA,rfl⟩⟩
 ·exact(NH h3 hsim.good.res x hx).mono (fun b _ hA=>⟨hal b hA,rfl⟩) (fun _ _=>rfl)
end
def rdM{γ γ':Type}(e:γ->γ')(rd:St->Option γ)(s:St):Option γ':=match rd s with
 |some p=>V (e p)
 |none=>O
def sJ.m{γ γ':Type}{n0 n:Nat}{rd:St->Option γ}{pat:γ->St}(h:sJ n0 n rd pat)(e:γ->γ'){pat':γ'->St}(he:∀p,pat' (e p)=pat p):sJ n0 n (rdM e rd) pat':=fun C s p a w hC hr hm=>by
 unfold rdM at hr
 split at hr
 ·rename_i p' hp
  cases hr
  rw[he]
  exact h C s p' a w hC hp hm
 ·cases hr
def akT(c:Code):An->List (Code×An):=
 Code.rec (fun _=>[]) (fun _ _ _ an=>match an with
   | .rb fs t=>[(.skip, .rb fs t)]
   |_=>[]) (fun _ _ x y an=>x an.l++y an.r) (fun _ _ _ x y an=>(match an with
   | .jn γ rd pat l r=>[(.skip, .jn γ rd pat l r)]
   |_=>[])++(x an.l++y an.r)) (fun _ _ x=>x)
  (fun c x an=>match an with
   | .lp γ rd pat GP b=>(c, .lp γ rd pat GP b)::x b
   |an=>x an) (fun _ _ _ _ _ _ _=>[]) (fun _ _=>[]) (fun _ _ _=>[]) (fun _ _=>[]) (fun _ _=>[]) (fun _=>[]) (fun _ _=>[]) c
def S5(P:Program)(F:aK)(n0 n:Nat)(fuel:Nat)(p:Code×An):Prop:=match p.2 with
 | .lp _ rd pat GP b=>sJ n0 n rd pat/\RI (oN P F n fuel p.1) rd pat GP b
 | .jn _ rd pat _ _=>sJ n0 n rd pat
 | .rb fs _=>∀f∈fs,bh F f
 |_=>True
def ab4{P:Program}{F:aK}{n0 n fuel:Nat}(c:Code):∀an,(∀p∈akT c an,S5 P F n0 n fuel p)->Lj P F n0 n fuel c an:=by
 induction c with
 |region id ops draw=>
  intro an h
  cases an with
  |rb fs t=>exact h (.skip, .rb fs t) (zC.2 rfl)
  |_=>exact trivial
 |seq x y hx hy=>
  intro an h
  exact⟨hx an.l fun p hp=>h p (yA _ hp),hy an.r fun p hp=>h p (yB _ hp)⟩
 |cond c x y hx hy=>
  intro an h
  refine⟨fun γ rd pat l r he=> ?_,hx an.l fun p hp=>h p (yB _ (yA _ hp)),hy an.r fun p hp=>h p (yB _ (yB _ hp))⟩
  subst he
  exact h (.skip, .jn γ rd pat l r) (yA _ (zC.2 rfl))
 |block id x hx=>exact fun an h=>hx an h
 |loop c hc=>
  intro an h
  cases an with
  |lp γ rd pat GP b=>
   have h0:=h (c, .lp γ rd pat GP b) zi
   exact⟨h0.1,h0.2,hc b fun p hp=>h p (zJ _ hp)⟩
  |no=>exact hc _ h
  |two l r=>exact hc _ h
  |jn γ rd pat l r=>exact hc _ h
  |rb fs t=>exact hc _ h
 |_=>exact fun an h=>trivial
def bV{P:Program}{F:aK}{n0 fuel f:Nat}{fn:Func}{c:Code}{an:An}{l:List (Code×An)}(hf:P.funcs[f]? =V fn)(hb:fn.body=V c)(ho:akT c an=l)(h:∀p∈l,S5 P F n0 fn.ntmps fuel p):eG P F n0 fuel f an:=fun fn' c' h1 h2=>by
 rw[hf]at h1
 cases h1
 rw[hb]at h2
 cases h2
 exact ab4 c an (by rw[ho];exact h)
def IX(fn:Func):Code:=match fn.body with
 |some c=>c
 |none=> .skip
def bG{fn:Func}(h:fn.body.isNone=wN):fn.body=V (IX fn):=by
 unfold IX
 cases hb:fn.body with
 |none=>rw[hb]at h;cases h
 |some c=>rfl
def agf(c:Code):List Code:=Code.rec [] (fun _ _ _=>[]) (fun _ _ x y=>x++y) (fun _ _ _ x y=>x++y) (fun _ _ x=>x) (fun c x=>c::x) (fun _ _ _ _ _ _=>[]) (fun _=>[]) (fun _ _=>[]) (fun _=>[]) (fun _=>[]) [] (fun _=>[]) c
def bg(fn:Func)(i:Nat):Code:=(agf (IX fn)).getD i .skip
end Go.Iv
end
noncomputable section
set_option maxRecDepth 100000
namespace Go.Proofs.YtnfljbehcffmcaaGreat
open Go Go.Iv
open Go.IntKind (i64 u64)
structure aq where
 bf:Int
 fN:Int
 ak:List aq
instance:Inhabited aq:=⟨⟨0,0,[]⟩⟩
structure au where
 bN:Int
 aQ:Int
 cP:Int
 fN:Int
 az:aq
 aH:List au
 aL:List au
 aJ:List Int
instance:Inhabited au:=⟨⟨0,0,0,0,⟨0,0,[]⟩,[],[],[]⟩⟩
structure aS where
 fName:ByteArray
 bk:Int
 af:Int
 aa:Int
 dz:Int
 deriving Inhabited,DecidableEq
structure dc where
 fName:ByteArray
 af:Int
 aa:Int
 az:aq
 deriving Inhabited
structure aP where
 ah:List aS
 aj:List dc
 bJ:List au
 deriving Inhabited
structure cD where
 aW:List Int
 fK:Bool
 deriving Inhabited,DecidableEq
structure aI where
 af:Int
 aa:Int
 ai:Int
 deriving Inhabited,DecidableEq
structure bM where
 aA:aI
 aC:List aI
 aD:aI
 Ow:List aI
 deriving Inhabited,DecidableEq
structure bt where
 aZ:List Int
 aD:Int
 deriving Inhabited,DecidableEq
structure cR where
 eO:List Int
 aW:List Int
 fk:List Int
 deriving Inhabited,DecidableEq
structure bD where
 dF:List Int
 aZ:List Int
 aD:Int
 deriving Inhabited,DecidableEq
structure Cell where
 Ee:Int
 fAt:Int
 ak:List Int
 Gi:List Int
 M7:Int
 deriving Inhabited,DecidableEq
structure jN where
 Gi:List bt
 NU:List Cell
 deriving Inhabited,DecidableEq
structure Part where
 Ee:Int
 fAt:Int
 ak:List Int
 amY:List aI
 deriving Inhabited,DecidableEq
structure ax where
 ah:List aI
 aA:aI
 aC:List aI
 aD:aI
 deriving Inhabited,DecidableEq
structure Runner where
 fF:aP
 aj:List aI
 deriving Inhabited
structure aG where
 ah:List aI
 aA:aI
 aC:List aI
 aD:aI
 deriving Inhabited,DecidableEq
structure BJ where
 amY:List aI
 Ee:Int
 fAt:Int
 ak:List Int
 M7:Int
 afe:Bool
 Gi:bt
 deriving Inhabited,DecidableEq
structure Tree where
 fF:aP
 fV:cD
 NU:List BJ
 deriving Inhabited
structure aU where
 bC:Int
 fG:Bool
 deriving Inhabited,DecidableEq
structure qC where
 fY:Int
 aZ:Int
 aD:Int
 deriving Inhabited,DecidableEq
structure Machine where
 fF:aP
 dF:List Int
 aj:List Int
 aZ:List Int
 aD:Int
 deriving Inhabited
structure Span where
 af:Int
 aa:Int
 deriving Inhabited,DecidableEq
inductive Ky
 |k3
 |k4
 |k5
 |k24
 |k26
 |k27
 |k29
 |k30
 |k34
 |k36
 |k37
 |k47
 |k52
 |k56
 |k84
 |k90
 |k117
 |k128
 |k129
 |k131
 |k133
 |k137
 |k139
 |k147
 |k166
 |k172
 |k174
 |k256
 |k260
 |k313
 |k331
 |no
def ky:Nat->Ky
 |3=> .k3
 |4=> .k4
 |5=> .k5
 |24=> .k24
 |26=> .k26
 |27=> .k27
 |29=> .k29
 |30=> .k30
 |34=> .k34
 |36=> .k36
 |37=> .k37
 |47=> .k47
 |52=> .k52
 |56=> .k56
 |84=> .k84
 |90=> .k90
 |117=> .k117
 |128=> .k128
 |129=> .k129
 |131=> .k131
 |133=> .k133
 |137=> .k137
 |139=> .k139
 |147=> .k147
 |166=> .k166
 |172=> .k172
 |174=> .k174
 |256=> .k256
 |260=> .k260
 |313=> .k313
 |331=> .k331
 |_=> .no
def DV:Ky->Type
 | .k3=>Int
 | .k4=>Bool
 | .k5=>Int
 | .k24=>List au
 | .k26=>aP
 | .k27=>List Int
 | .k29=>cD
 | .k30=>List aI
 | .k34=>aI
 | .k36=>bM
 | .k37=>Int
 | .k47=>bt
 | .k52=>cR
 | .k56=>bD
 | .k84=>jN
 | .k90=>Part
 | .k117=>Cell
 | .k128=>ax
 | .k129=>Int
 | .k131=>aS
 | .k133=>Runner
 | .k137=>aq
 | .k139=>dc
 | .k147=>aG
 | .k166=>au
 | .k172=>Tree
 | .k174=>BJ
 | .k256=>aU
 | .k260=>qC
 | .k313=>Machine
 | .k331=>Span
 | .no=>Unit
abbrev ct(t:Nat):Type:=DV (ky t)
@[reducible] def inhK:(k:Ky)->Inhabited (DV k)
 | .k3=>⟨(default:Int)⟩
 | .k4=>⟨(default:Bool)⟩
 | .k5=>⟨(default:Int)⟩
 | .k24=>⟨(default:List au)⟩
 | .k26=>⟨(default:aP)⟩
 | .k27=>⟨(default:List Int)⟩
 | .k29=>⟨(default:cD)⟩
 | .k30=>⟨(default:List aI)⟩
 | .k34=>⟨(default:aI)⟩
 | .k36=>⟨(default:bM)⟩
 | .k37=>⟨(default:Int)⟩
 | .k47=>⟨(default:bt)⟩
 | .k52=>⟨(default:cR)⟩
 | .k56=>⟨(default:bD)⟩
 | .k84=>⟨(default:jN)⟩
 | .k90=>⟨(default:Part)⟩
 | .k117=>⟨(default:Cell)⟩
 | .k128=>⟨(default:ax)⟩
 | .k129=>⟨(default:Int)⟩
 | .k131=>⟨(default:aS)⟩
 | .k133=>⟨(default:Runner)⟩
 | .k137=>⟨(default:aq)⟩
 | .k139=>⟨(default:dc)⟩
 | .k147=>⟨(default:aG)⟩
 | .k166=>⟨(default:au)⟩
 | .k172=>⟨(default:Tree)⟩
 | .k174=>⟨(default:BJ)⟩
 | .k256=>⟨(default:aU)⟩
 | .k260=>⟨(default:qC)⟩
 | .k313=>⟨(default:Machine)⟩
 | .k331=>⟨(default:Span)⟩
 | .no=>⟨()⟩
def szK:Ky->Nat
 | .k3=>1
 | .k4=>1
 | .k5=>1
 | .k24=>1
 | .k26=>3
 | .k27=>1
 | .k29=>2
 | .k30=>1
 | .k34=>3
 | .k36=>8
 | .k37=>1
 | .k47=>2
 | .k52=>3
 | .k56=>3
 | .k84=>2
 | .k90=>4
 | .k117=>5
 | .k128=>8
 | .k129=>1
 | .k131=>5
 | .k133=>4
 | .k137=>3
 | .k139=>6
 | .k147=>8
 | .k166=>10
 | .k172=>6
 | .k174=>8
 | .k256=>2
 | .k260=>3
 | .k313=>7
 | .k331=>2
 | .no=>0
def ob:(k:Ky)->DV k->List (cc ct)
 | .k3,x=>(fun x:Int=>[.n .i64 x]) x
 | .k4,x=>(fun x:Bool=>[.b x]) x
 | .k5,x=>(fun x:Int=>[.n .u8 x]) x
 | .k24,x=>(fun x:List au=>[.sl 166 x]) x
 | .k26,x=>(fun x:aP=>[.sl 131 x.ah, .sl 139 x.aj, .sl 166 x.bJ]) x
 | .k27,x=>(fun x:List Int=>[.sl 3 x]) x
 | .k29,x=>(fun x:cD=>[.sl 3 x.aW, .b x.fK]) x
 | .k30,x=>(fun x:List aI=>[.sl 34 x]) x
 | .k34,x=>(fun x:aI=>[.n .i64 x.af, .n .i64 x.aa, .n .i64 x.ai]) x
 | .k36,x=>(fun x:bM=>[.n .i64 x.aA.af, .n .i64 x.aA.aa, .n .i64 x.aA.ai, .sl 34 x.aC, .n .i64 x.aD.af, .n .i64 x.aD.aa, .n .i64 x.aD.ai, .sl 34 x.Ow]) x
 | .k37,x=>(fun x:Int=>[.n .i64 x]) x
 | .k47,x=>(fun x:bt=>[.sl 3 x.aZ, .n .i64 x.aD]) x
 | .k52,x=>(fun x:cR=>[.sl 3 x.eO, .sl 3 x.aW, .sl 3 x.fk]) x
 | .k56,x=>(fun x:bD=>[.sl 3 x.dF, .sl 3 x.aZ, .n .i64 x.aD]) x
 | .k84,x=>(fun x:jN=>[.sl 47 x.Gi, .sl 117 x.NU]) x
 | .k90,x=>(fun x:Part=>[.n .i64 x.Ee, .n .i64 x.fAt, .sl 3 x.ak, .sl 34 x.amY]) x
 | .k117,x=>(fun x:Cell=>[.n .i64 x.Ee, .n .i64 x.fAt, .sl 3 x.ak, .sl 3 x.Gi, .n .i64 x.M7]) x
 | .k128,x=>(fun x:ax=>[.sl 34 x.ah, .n .i64 x.aA.af, .n .i64 x.aA.aa, .n .i64 x.aA.ai, .sl 34 x.aC, .n .i64 x.aD.af, .n .i64 x.aD.aa, .n .i64 x.aD.ai]) x
 | .k129,x=>(fun x:Int=>[.n .i64 x]) x
 | .k131,x=>(fun x:aS=>[.s x.fName, .n .i64 x.bk, .n .i64 x.af, .n .i64 x.aa, .n .i64 x.dz]) x
 | .k133,x=>(fun x:Runner=>[.sl 131 x.fF.ah, .sl 139 x.fF.aj, .sl 166 x.fF.bJ, .sl 34 x.aj]) x
 | .k137,x=>(fun x:aq=>[.n .i64 x.bf, .n .i64 x.fN, .sl 137 x.ak]) x
 | .k139,x=>(fun x:dc=>[.s x.fName, .n .i64 x.af, .n .i64 x.aa, .n .i64 x.az.bf, .n .i64 x.az.fN, .sl 137 x.az.ak]) x
 | .k147,x=>(fun x:aG=>[.sl 34 x.ah, .n .i64 x.aA.af, .n .i64 x.aA.aa, .n .i64 x.aA.ai, .sl 34 x.aC, .n .i64 x.aD.af, .n .i64 x.aD.aa, .n .i64 x.aD.ai]) x
 | .k166,x=>(fun x:au=>[.n .i64 x.bN, .n .i64 x.aQ, .n .i64 x.cP, .n .i64 x.fN, .n .i64 x.az.bf, .n .i64 x.az.fN, .sl 137 x.az.ak, .sl 166 x.aH, .sl 166 x.aL, .sl 3 x.aJ]) x
 | .k172,x=>(fun x:Tree=>[.sl 131 x.fF.ah, .sl 139 x.fF.aj, .sl 166 x.fF.bJ, .sl 3 x.fV.aW, .b x.fV.fK, .sl 174 x.NU]) x
 | .k174,x=>(fun x:BJ=>[.sl 34 x.amY, .n .i64 x.Ee, .n .i64 x.fAt, .sl 3 x.ak, .n .i64 x.M7, .b x.afe, .sl 3 x.Gi.aZ, .n .i64 x.Gi.aD]) x
 | .k256,x=>(fun x:aU=>[.n .i64 x.bC, .b x.fG]) x
 | .k260,x=>(fun x:qC=>[.n .i64 x.fY, .n .i64 x.aZ, .n .i64 x.aD]) x
 | .k313,x=>(fun x:Machine=>[.sl 131 x.fF.ah, .sl 139 x.fF.aj, .sl 166 x.fF.bJ, .sl 3 x.dF, .sl 3 x.aj, .sl 3 x.aZ, .n .i64 x.aD]) x
 | .k331,x=>(fun x:Span=>[.n .i64 x.af, .n .i64 x.aa]) x
 | .no,_=>[]
instance uni:sX:=⟨ct,fun t=>inhK (ky t),fun t=>szK (ky t),fun t=>ob (ky t)⟩
def Xj:(k:Ky)->List AV->Option (DV k)
 | .k3=>fun cs=>((dM (iK .i64) oY) cs).map (fun g:Int×Unit=>(g.1:Int))
 | .k4=>fun cs=>((dM UA oY) cs).map (fun g:Bool×Unit=>(g.1:Bool))
 | .k5=>fun cs=>((dM (iK .u8) oY) cs).map (fun g:Int×Unit=>(g.1:Int))
 | .k24=>fun cs=>((dM (jS 166) oY) cs).map (fun g:(List (ct 166))×Unit=>(g.1:List au))
 | .k26=>fun cs=>((dM (jS 131) (dM (jS 139) (dM (jS 166) oY))) cs).map (fun g:(List (ct 131))×(List (ct 139))×(List (ct 166))×Unit=>((aP.mk g.1 g.2.1 g.2.2.1):aP))
 | .k27=>fun cs=>((dM (jS 3) oY) cs).map (fun g:(List (ct 3))×Unit=>(g.1:List Int))
 | .k29=>fun cs=>((dM (jS 3) (dM UA oY)) cs).map (fun g:(List (ct 3))×Bool×Unit=>((cD.mk g.1 g.2.1):cD))
 | .k30=>fun cs=>((dM (jS 34) oY) cs).map (fun g:(List (ct 34))×Unit=>(g.1:List aI))
 | .k34=>fun cs=>((dM (iK .i64) (dM (iK .i64) (dM (iK .i64) oY))) cs).map (fun g:Int×Int×Int×Unit=>((aI.mk g.1 g.2.1 g.2.2.1):aI))
 | .k36=>fun cs=>((dM (iK .i64) (dM (iK .i64) (dM (iK .i64) (dM (jS 34) (dM (iK .i64) (dM (iK .i64) (dM (iK .i64) (dM (jS 34) oY)))))))) cs).map (fun g:Int×Int×Int×(List (ct 34))×Int×Int×Int×(List (ct 34))×Unit=>((bM.mk (aI.mk g.1 g.2.1 g.2.2.1) g.2.2.2.1 (aI.mk g.2.2.2.2.1 g.2.2.2.2.2.1 g.2.2.2.2.2.2.1) g.2.2.2.2.2.2.2.1):bM))
 | .k37=>fun cs=>((dM (iK .i64) oY) cs).map (fun g:Int×Unit=>(g.1:Int))
 | .k47=>fun cs=>((dM (jS 3) (dM (iK .i64) oY)) cs).map (fun g:(List (ct 3))×Int×Unit=>((bt.mk g.1 g.2.1):bt))
 | .k52=>fun cs=>((dM (jS 3) (dM (jS 3) (dM (jS 3) oY))) cs).map (fun g:(List (ct 3))×(List (ct 3))×(List (ct 3))×Unit=>((cR.mk g.1 g.2.1 g.2.2.1):cR))
 | .k56=>fun cs=>((dM (jS 3) (dM (jS 3) (dM (iK .i64) oY))) cs).map (fun g:(List (ct 3))×(List (ct 3))×Int×Unit=>((bD.mk g.1 g.2.1 g.2.2.1):bD))
 | .k84=>fun cs=>((dM (jS 47) (dM (jS 117) oY)) cs).map (fun g:(List (ct 47))×(List (ct 117))×Unit=>((jN.mk g.1 g.2.1):jN))
 | .k90=>fun cs=>((dM (iK .i64) (dM (iK .i64) (dM (jS 3) (dM (jS 34) oY)))) cs).map (fun g:Int×Int×(List (ct 3))×(List (ct 34))×Unit=>((Part.mk g.1 g.2.1 g.2.2.1 g.2.2.2.1):Part))
 | .k117=>fun cs=>((dM (iK .i64) (dM (iK .i64) (dM (jS 3) (dM (jS 3) (dM (iK .i64) oY))))) cs).map (fun g:Int×Int×(List (ct 3))×(List (ct 3))×Int×Unit=>((Cell.mk g.1 g.2.1 g.2.2.1 g.2.2.2.1 g.2.2.2.2.1):Cell))
 | .k128=>fun cs=>((dM (jS 34) (dM (iK .i64) (dM (iK .i64) (dM (iK .i64) (dM (jS 34) (dM (iK .i64) (dM (iK .i64) (dM (iK .i64) oY)))))))) cs).map (fun g:(List (ct 34))×Int×Int×Int×(List (ct 34))×Int×Int×Int×Unit=>((ax.mk g.1 (aI.mk g.2.1 g.2.2.1 g.2.2.2.1) g.2.2.2.2.1 (aI.mk g.2.2.2.2.2.1 g.2.2.2.2.2.2.1 g.2.2.2.2.2.2.2.1)):ax))
 | .k129=>fun cs=>((dM (iK .i64) oY) cs).map (fun g:Int×Unit=>(g.1:Int))
 | .k131=>fun cs=>((dM asS (dM (iK .i64) (dM (iK .i64) (dM (iK .i64) (dM (iK .i64) oY))))) cs).map (fun g:ByteArray×Int×Int×Int×Int×Unit=>((aS.mk g.1 g.2.1 g.2.2.1 g.2.2.2.1 g.2.2.2.2.1):aS))
 | .k133=>fun cs=>((dM (jS 131) (dM (jS 139) (dM (jS 166) (dM (jS 34) oY)))) cs).map (fun g:(List (ct 131))×(List (ct 139))×(List (ct 166))×(List (ct 34))×Unit=>((Runner.mk (aP.mk g.1 g.2.1 g.2.2.1) g.2.2.2.1):Runner))
 | .k137=>fun cs=>((dM (iK .i64) (dM (iK .i64) (dM (jS 137) oY))) cs).map (fun g:Int×Int×(List (ct 137))×Unit=>((aq.mk g.1 g.2.1 g.2.2.1):aq))
 | .k139=>fun cs=>((dM asS (dM (iK .i64) (dM (iK .i64) (dM (iK .i64) (dM (iK .i64) (dM (jS 137) oY)))))) cs).map (fun g:ByteArray×Int×Int×Int×Int×(List (ct 137))×Unit=>((dc.mk g.1 g.2.1 g.2.2.1 (aq.mk g.2.2.2.1 g.2.2.2.2.1 g.2.2.2.2.2.1)):dc))
 | .k147=>fun cs=>((dM (jS 34) (dM (iK .i64) (dM (iK .i64) (dM (iK .i64) (dM (jS 34) (dM (iK .i64) (dM (iK .i64) (dM (iK .i64) oY)))))))) cs).map (fun g:(List (ct 34))×Int×Int×Int×(List (ct 34))×Int×Int×Int×Unit=>((aG.mk g.1 (aI.mk g.2.1 g.2.2.1 g.2.2.2.1) g.2.2.2.2.1 (aI.mk g.2.2.2.2.2.1 g.2.2.2.2.2.2.1 g.2.2.2.2.2.2.2.1)):aG))
 | .k166=>fun cs=>((dM (iK .i64) (dM (iK .i64) (dM (iK .i64) (dM (iK .i64) (dM (iK .i64) (dM (iK .i64) (dM (jS 137) (dM (jS 166) (dM (jS 166) (dM (jS 3) oY)))))))))) cs).map (fun g:Int×Int×Int×Int×Int×Int×(List (ct 137))×(List (ct 166))×(List (ct 166))×(List (ct 3))×Unit=>((au.mk g.1 g.2.1 g.2.2.1 g.2.2.2.1 (aq.mk g.2.2.2.2.1 g.2.2.2.2.2.1 g.2.2.2.2.2.2.1) g.2.2.2.2.2.2.2.1 g.2.2.2.2.2.2.2.2.1 g.2.2.2.2.2.2.2.2.2.1):au))
 | .k172=>fun cs=>((dM (jS 131) (dM (jS 139) (dM (jS 166) (dM (jS 3) (dM UA (dM (jS 174) oY)))))) cs).map (fun g:(List (ct 131))×(List (ct 139))×(List (ct 166))×(List (ct 3))×Bool×(List (ct 174))×Unit=>((Tree.mk (aP.mk g.1 g.2.1 g.2.2.1) (cD.mk g.2.2.2.1 g.2.2.2.2.1) g.2.2.2.2.2.1):Tree))
 | .k174=>fun cs=>((dM (jS 34) (dM (iK .i64) (dM (iK .i64) (dM (jS 3) (dM (iK .i64) (dM UA (dM (jS 3) (dM (iK .i64) oY)))))))) cs).map (fun g:(List (ct 34))×Int×Int×(List (ct 3))×Int×Bool×(List (ct 3))×Int×Unit=>((BJ.mk g.1 g.2.1 g.2.2.1 g.2.2.2.1 g.2.2.2.2.1 g.2.2.2.2.2.1 (bt.mk g.2.2.2.2.2.2.1 g.2.2.2.2.2.2.2.1)):BJ))
 | .k256=>fun cs=>((dM (iK .i64) (dM UA oY)) cs).map (fun g:Int×Bool×Unit=>((aU.mk g.1 g.2.1):aU))
 | .k260=>fun cs=>((dM (iK .i64) (dM (iK .i64) (dM (iK .i64) oY))) cs).map (fun g:Int×Int×Int×Unit=>((qC.mk g.1 g.2.1 g.2.2.1):qC))
 | .k313=>fun cs=>((dM (jS 131) (dM (jS 139) (dM (jS 166) (dM (jS 3) (dM (jS 3) (dM (jS 3) (dM (iK .i64) oY))))))) cs).map (fun g:(List (ct 131))×(List (ct 139))×(List (ct 166))×(List (ct 3))×(List (ct 3))×(List (ct 3))×Int×Unit=>((Machine.mk (aP.mk g.1 g.2.1 g.2.2.1) g.2.2.2.1 g.2.2.2.2.1 g.2.2.2.2.2.1 g.2.2.2.2.2.2.1):Machine))
 | .k331=>fun cs=>((dM (iK .i64) (dM (iK .i64) oY)) cs).map (fun g:Int×Int×Unit=>((Span.mk g.1 g.2.1):Span))
 | .no=>fun _=>O
def UW:(k:Ky)->Pk (Xj k) (ob k)
 | .k3=>Pk.map (fun g:Int×Unit=>(g.1:Int)) (.cons (.i .i64) .nil) (fun _=>rfl)
 | .k4=>Pk.map (fun g:Bool×Unit=>(g.1:Bool)) (.cons .b .nil) (fun _=>rfl)
 | .k5=>Pk.map (fun g:Int×Unit=>(g.1:Int)) (.cons (.i .u8) .nil) (fun _=>rfl)
 | .k24=>Pk.map (fun g:(List (ct 166))×Unit=>(g.1:List au)) (.cons (.l 166) .nil) (fun _=>rfl)
 | .k26=>Pk.map (fun g:(List (ct 131))×(List (ct 139))×(List (ct 166))×Unit=>((aP.mk g.1 g.2.1 g.2.2.1):aP)) (.cons (.l 131) (.cons (.l 139) (.cons (.l 166) .nil))) (fun _=>rfl)
 | .k27=>Pk.map (fun g:(List (ct 3))×Unit=>(g.1:List Int)) (.cons (.l 3) .nil) (fun _=>rfl)
 | .k29=>Pk.map (fun g:(List (ct 3))×Bool×Unit=>((cD.mk g.1 g.2.1):cD)) (.cons (.l 3) (.cons .b .nil)) (fun _=>rfl)
 | .k30=>Pk.map (fun g:(List (ct 34))×Unit=>(g.1:List aI)) (.cons (.l 34) .nil) (fun _=>rfl)
 | .k34=>Pk.map (fun g:Int×Int×Int×Unit=>((aI.mk g.1 g.2.1 g.2.2.1):aI)) (.cons (.i .i64) (.cons (.i .i64) (.cons (.i .i64) .nil))) (fun _=>rfl)
 | .k36=>Pk.map (fun g:Int×Int×Int×(List (ct 34))×Int×Int×Int×(List (ct 34))×Unit=>((bM.mk (aI.mk g.1 g.2.1 g.2.2.1) g.2.2.2.1 (aI.mk g.2.2.2.2.1 g.2.2.2.2.2.1 g.2.2.2.2.2.2.1) g.2.2.2.2.2.2.2.1):bM)) (.cons (.i .i64) (.cons (.i .i64) (.cons (.i .i64) (.cons (.l 34) (.cons (.i .i64) (.cons (.i .i64) (.cons (.i .i64) (.cons (.l 34) .nil)))))))) (fun _=>rfl)
 | .k37=>Pk.map (fun g:Int×Unit=>(g.1:Int)) (.cons (.i .i64) .nil) (fun _=>rfl)
 | .k47=>Pk.map (fun g:(List (ct 3))×Int×Unit=>((bt.mk g.1 g.2.1):bt)) (.cons (.l 3) (.cons (.i .i64) .nil)) (fun _=>rfl)
 | .k52=>Pk.map (fun g:(List (ct 3))×(List (ct 3))×(List (ct 3))×Unit=>((cR.mk g.1 g.2.1 g.2.2.1):cR)) (.cons (.l 3) (.cons (.l 3) (.cons (.l 3) .nil))) (fun _=>rfl)
 | .k56=>Pk.map (fun g:(List (ct 3))×(List (ct 3))×Int×Unit=>((bD.mk g.1 g.2.1 g.2.2.1):bD)) (.cons (.l 3) (.cons (.l 3) (.cons (.i .i64) .nil))) (fun _=>rfl)
 | .k84=>Pk.map (fun g:(List (ct 47))×(List (ct 117))×Unit=>((jN.mk g.1 g.2.1):jN)) (.cons (.l 47) (.cons (.l 117) .nil)) (fun _=>rfl)
 | .k90=>Pk.map (fun g:Int×Int×(List (ct 3))×(List (ct 34))×Unit=>((Part.mk g.1 g.2.1 g.2.2.1 g.2.2.2.1):Part)) (.cons (.i .i64) (.cons (.i .i64) (.cons (.l 3) (.cons (.l 34) .nil)))) (fun _=>rfl)
 | .k117=>Pk.map (fun g:Int×Int×(List (ct 3))×(List (ct 3))×Int×Unit=>((Cell.mk g.1 g.2.1 g.2.2.1 g.2.2.2.1 g.2.2.2.2.1):Cell)) (.cons (.i .i64) (.cons (.i .i64) (.cons (.l 3) (.cons (.l 3) (.cons (.i .i64) .nil))))) (fun _=>rfl)
 | .k128=>Pk.map (fun g:(List (ct 34))×Int×Int×Int×(List (ct 34))×Int×Int×Int×Unit=>((ax.mk g.1 (aI.mk g.2.1 g.2.2.1 g.2.2.2.1) g.2.2.2.2.1 (aI.mk g.2.2.2.2.2.1 g.2.2.2.2.2.2.1 g.2.2.2.2.2.2.2.1)):ax)) (.cons (.l 34) (.cons (.i .i64) (.cons (.i .i64) (.cons (.i .i64) (.cons (.l 34) (.cons (.i .i64) (.cons (.i .i64) (.cons (.i .i64) .nil)))))))) (fun _=>rfl)
 | .k129=>Pk.map (fun g:Int×Unit=>(g.1:Int)) (.cons (.i .i64) .nil) (fun _=>rfl)
 | .k131=>Pk.map (fun g:ByteArray×Int×Int×Int×Int×Unit=>((aS.mk g.1 g.2.1 g.2.2.1 g.2.2.2.1 g.2.2.2.2.1):aS)) (.cons .s (.cons (.i .i64) (.cons (.i .i64) (.cons (.i .i64) (.cons (.i .i64) .nil))))) (fun _=>rfl)
 | .k133=>Pk.map (fun g:(List (ct 131))×(List (ct 139))×(List (ct 166))×(List (ct 34))×Unit=>((Runner.mk (aP.mk g.1 g.2.1 g.2.2.1) g.2.2.2.1):Runner)) (.cons (.l 131) (.cons (.l 139) (.cons (.l 166) (.cons (.l 34) .nil)))) (fun _=>rfl)
 | .k137=>Pk.map (fun g:Int×Int×(List (ct 137))×Unit=>((aq.mk g.1 g.2.1 g.2.2.1):aq)) (.cons (.i .i64) (.cons (.i .i64) (.cons (.l 137) .nil))) (fun _=>rfl)
 | .k139=>Pk.map (fun g:ByteArray×Int×Int×Int×Int×(List (ct 137))×Unit=>((dc.mk g.1 g.2.1 g.2.2.1 (aq.mk g.2.2.2.1 g.2.2.2.2.1 g.2.2.2.2.2.1)):dc)) (.cons .s (.cons (.i .i64) (.cons (.i .i64) (.cons (.i .i64) (.cons (.i .i64) (.cons (.l 137) .nil)))))) (fun _=>rfl)
 | .k147=>Pk.map (fun g:(List (ct 34))×Int×Int×Int×(List (ct 34))×Int×Int×Int×Unit=>((aG.mk g.1 (aI.mk g.2.1 g.2.2.1 g.2.2.2.1) g.2.2.2.2.1 (aI.mk g.2.2.2.2.2.1 g.2.2.2.2.2.2.1 g.2.2.2.2.2.2.2.1)):aG)) (.cons (.l 34) (.cons (.i .i64) (.cons (.i .i64) (.cons (.i .i64) (.cons (.l 34) (.cons (.i .i64) (.cons (.i .i64) (.cons (.i .i64) .nil)))))))) (fun _=>rfl)
 | .k166=>Pk.map (fun g:Int×Int×Int×Int×Int×Int×(List (ct 137))×(List (ct 166))×(List (ct 166))×(List (ct 3))×Unit=>((au.mk g.1 g.2.1 g.2.2.1 g.2.2.2.1 (aq.mk g.2.2.2.2.1 g.2.2.2.2.2.1 g.2.2.2.2.2.2.1) g.2.2.2.2.2.2.2.1 g.2.2.2.2.2.2.2.2.1 g.2.2.2.2.2.2.2.2.2.1):au)) (.cons (.i .i64) (.cons (.i .i64) (.cons (.i .i64) (.cons (.i .i64) (.cons (.i .i64) (.cons (.i .i64) (.cons (.l 137) (.cons (.l 166) (.cons (.l 166) (.cons (.l 3) .nil)))))))))) (fun _=>rfl)
 | .k172=>Pk.map (fun g:(List (ct 131))×(List (ct 139))×(List (ct 166))×(List (ct 3))×Bool×(List (ct 174))×Unit=>((Tree.mk (aP.mk g.1 g.2.1 g.2.2.1) (cD.mk g.2.2.2.1 g.2.2.2.2.1) g.2.2.2.2.2.1):Tree)) (.cons (.l 131) (.cons (.l 139) (.cons (.l 166) (.cons (.l 3) (.cons .b (.cons (.l 174) .nil)))))) (fun _=>rfl)
 | .k174=>Pk.map (fun g:(List (ct 34))×Int×Int×(List (ct 3))×Int×Bool×(List (ct 3))×Int×Unit=>((BJ.mk g.1 g.2.1 g.2.2.1 g.2.2.2.1 g.2.2.2.2.1 g.2.2.2.2.2.1 (bt.mk g.2.2.2.2.2.2.1 g.2.2.2.2.2.2.2.1)):BJ)) (.cons (.l 34) (.cons (.i .i64) (.cons (.i .i64) (.cons (.l 3) (.cons (.i .i64) (.cons .b (.cons (.l 3) (.cons (.i .i64) .nil)))))))) (fun _=>rfl)
 | .k256=>Pk.map (fun g:Int×Bool×Unit=>((aU.mk g.1 g.2.1):aU)) (.cons (.i .i64) (.cons .b .nil)) (fun _=>rfl)
 | .k260=>Pk.map (fun g:Int×Int×Int×Unit=>((qC.mk g.1 g.2.1 g.2.2.1):qC)) (.cons (.i .i64) (.cons (.i .i64) (.cons (.i .i64) .nil))) (fun _=>rfl)
 | .k313=>Pk.map (fun g:(List (ct 131))×(List (ct 139))×(List (ct 166))×(List (ct 3))×(List (ct 3))×(List (ct 3))×Int×Unit=>((Machine.mk (aP.mk g.1 g.2.1 g.2.2.1) g.2.2.2.1 g.2.2.2.2.1 g.2.2.2.2.2.1 g.2.2.2.2.2.2.1):Machine)) (.cons (.l 131) (.cons (.l 139) (.cons (.l 166) (.cons (.l 3) (.cons (.l 3) (.cons (.l 3) (.cons (.i .i64) .nil))))))) (fun _=>rfl)
 | .k331=>Pk.map (fun g:Int×Int×Unit=>((Span.mk g.1 g.2.1):Span)) (.cons (.i .i64) (.cons (.i .i64) .nil)) (fun _=>rfl)
 | .no=> .none
def ajL:(k:Ky)->List (DV k)->Option (List Int)
 | .k5,l=>V l
 |_,_=>O
def VS(l:List Int):l.flatMap (fun x=>[cc.n (dw:=ct) .u8 x])=l.map (.n .u8):=by
 induction l with
 |nil=>rfl
 |cons a l ih=>rw[xA,ih];rfl
def Yw:(k:Ky)->(l:List (DV k))->(ns:List Int)->ajL k l=V ns->l.flatMap (ob k)=ns.map (.n .u8)/\szK k=1:=by
 intro k l ns h
 cases k<;>first|(cases h;done)|(cases h;exact⟨VS _,rfl⟩)
def azS(k:Ky)(x:DV k):(ob k x).length=szK k:=by cases k<;>rfl
def az7(k:Ky)(x:DV k):(ob k x).all iA=true:=by cases k<;>rfl
def ayH(k:Ky)(x:DV k)(ρ:Gh):(ob k x).map (cc.sub ρ)=ob k x:=ZL _ (by cases k<;>rfl) ρ
def axW(k:Ky)(x:DV k)(n:Nat):∀c∈ob k x,cM n c:=aaa _ (by cases k<;>rfl) n
instance uniL:nQ where
 len:=fun t x=>azS (ky t) x
 one:=fun t x=>az7 (ky t) x
 clo:=fun t x ρ=>ayH (ky t) x ρ
 rN:=fun t x n=>axW (ky t) x n
 parse:=fun t=>Xj (ky t)
 lW:=fun t=>UW (ky t)
 acu:=fun t=>ajL (ky t)
 Ae:=fun t=>Yw (ky t)
 fz:=fun f=>zb f 27||zb f 44||zb f 28||zb f 20||zb f 26||zb f 83||zb f 156||zb f 160||zb f 236||zb f 96||zb f 179||zb f 88||zb f 167||zb f 171||zb f 247
end Go.Proofs.YtnfljbehcffmcaaGreat
end
noncomputable section
namespace Go.Iv
variable [U:sX] [L:nQ]
open Go Go.RowKit
def mz(f:Nat->Nat)(n:Nat):AV->AV:=Nat.rec (fun d=>match d with
 | .own i=> .own (f i)
 | .ptr i o=> .ptr (f i) o
 | .ra i t m o=> .ra (f i) t m o
 |d=>d) (fun _ ih d=>match d with
 | .own i=> .own (f i)
 | .ptr i o=> .ptr (f i) o
 | .ra i t m o=> .ra (f i) t m o
 | .agg cs=> .agg (cs.map ih)
 | .jB cs=> .jB (cs.map ih)
 | .fn g cs=> .fn g (cs.map ih)
 | .fp cs=> .fp (cs.map ih)
 |d=>d) n
def jm{f:Nat->Nat}{ρ ρ':Gh}{p:Nat->Bool}(hp:∀i,p i=wO->ρ'.v (f i)=ρ.v i/\ρ'.b (f i)=ρ.b i):∀(n:Nat) {d:AV},l7 p n d=wO->(mz f n d).sub ρ'=d.sub ρ
 |0,d,h=>by
  cases d with
  |lit v=>show cc.sub ρ' (.lit v)=_;rw[bT,bT]
  |sl t l=>show cc.sub ρ' (.sl t l)=_;rw[gE,gE]
  |rp v k=>show cc.sub ρ' (.rp v k)=_;simp only[cc.sub]
  |own i=>show cc.sub ρ' (.own (f i))=_;rw[dW,dW,(hp _ h).1]
  |ptr i o=>show cc.sub ρ' (.ptr (f i) o)=_;rw[fE,fE,(hp _ h).2]
  |ra i t m o=>show cc.sub ρ' (.ra (f i) t m o)=_;rw[jM,jM,(hp _ h).1]
  |_=>cases h
 |n+1,d,h=>by
  have hL:∀{cs:List AV},cs.all (l7 p n)=wO->(cs.map (mz f n)).map (cc.sub ρ')=cs.map (cc.sub ρ):=fun{cs} h=>by
   rw[yd]
   exact zV fun c hc=>jm hp n (zo.1 h c hc)
  cases d with
  |lit v=>show cc.sub ρ' (.lit v)=_;rw[bT,bT]
  |sl t l=>show cc.sub ρ' (.sl t l)=_;rw[gE,gE]
  |rp v k=>show cc.sub ρ' (.rp v k)=_;simp only[cc.sub]
  |own i=>show cc.sub ρ' (.own (f i))=_;rw[dW,dW,(hp _ h).1]
  |ptr i o=>show cc.sub ρ' (.ptr (f i) o)=_;rw[fE,fE,(hp _ h).2]
  |ra i t m o=>show cc.sub ρ' (.ra (f i) t m o)=_;rw[jM,jM,(hp _ h).1]
  |fp cs=>show cc.sub ρ' (.fp (List.map (mz f n) cs))=_;rw[mq,mq,hL h]
  |agg cs=>show cc.sub ρ' (.agg (List.map (mz f n) cs))=_;rw[eN,eN,hL h]
  |jB cs=>show cc.sub ρ' (.jB (List.map (mz f n) cs))=_;rw[kO,kO,hL h]
  |fn g cs=>show cc.sub ρ' (.fn g (List.map (mz f n) cs))=_;rw[tH,tH,hL h]
def lu{f:Nat->Nat}{p:Nat->Bool}{m:Nat}(hp:∀i,p i=wO->f i<m):∀(n:Nat) {d:AV},l7 p n d=wO->cM m (mz f n d)
 |0,d,h=>by
  cases d<;>first|exact .lit _|exact .sl _ _|exact .rp _ _|exact .own _ (hp _ h)|exact .ptr _ _ (hp _ h)|exact .ra _ _ _ _ (hp _ h)|(cases h;done)
 |n+1,d,h=>by
  have hL:∀{cs:List AV},cs.all (l7 p n)=wO->∀c∈cs.map (mz f n),cM m c:=fun{cs} h c hc=>by
   obtain⟨c',h1,rfl⟩:=zL.1 hc
   exact lu hp n (zo.1 h c' h1)
  cases d<;>first|exact .lit _|exact .sl _ _|exact .rp _ _|exact .own _ (hp _ h)|exact .ptr _ _ (hp _ h)|exact .ra _ _ _ _ (hp _ h)|exact .agg _ (hL h)|exact .jB _ (hL h)|exact .fn _ _ (hL h)|exact .fp _ (hL h)
def Mr(f:Nat->Nat):IR->IR
 | .box T cs=> .box T (cs.map (mz f 4))
 |r=>r
def ng(l:List Nat)(i:Nat):Nat:=List.rec 0 (fun j _ ih=>match zb j i with
 |true=>0
 |false=>ih+1) l
def vL:∀{l:List Nat} {i:Nat},i∈l->l[ng l i]? =V i
 |j::l,i,h=>by
  show (j::l)[match zb j i with
   |true=>0
   |false=>ng l i+1]? =V i
  cases hb:zb j i with
  |true=>have:=gA hb;subst this;rfl
  |false=>
   have hne:i≠j:=fun e=>by subst e;rw[Nat.beq_refl]at hb;cases hb
   exact vL ((zy.1 h).resolve_left hne)
def L8(ts:List Nat)(E:ET):Env:=ts.filterMap fun t=>(cL E t).map fun d=>(t,d)
def Us{E:ET}:∀(ts:List Nat) t d,Env.get (L8 ts E) t=V d->cL E t=V d:=fun ts=>by
 induction ts with
 |nil=>intro t d h;cases h
 |cons u ts ih=>
  intro t d h
  unfold L8 at h
  rw[xd]at h
  cases hu:cL E u with
  |none=>rw[hu]at h;exact ih t d h
  |some x=>
   rw[hu]at h
   by_cases hut:u=t
   ·subst hut
    have h:Env.get ((u,x)::_) u=V d:=h
    rw[Env.e9]at h
    rw[hu,h]
   ·have h:Env.get ((u,x)::_) t=V d:=h
    rw[Env.dO _ _ hut]at h
    exact ih t d h
def pick(i:Nat)(R:aY):Option ((Nat×IR)×aY):=List.rec O (fun p R ih=>match zb p.1 i with
 |true=>V (p,R)
 |false=>match ih with
  |some x=>V (x.1,p::x.2)
  |none=>O) R
def GN{i:Nat}:∀{R:aY} {x},pick i R=V x->List.Perm R (x.1::x.2)
 |[],x,h=>by cases h
 |p::R,x,h=>by
  have h:(match zb p.1 i with
   |true=>V (p,R)
   |false=>match pick i R with
    |some x=>V (x.1,p::x.2)
    |none=>O)=V x:=h
  split at h
  ·cases h;exact .refl _
  ·split at h
   ·rename_i y hy
    cases h
    exact((GN hy).cons p).trans (.swap _ _ _)
   ·cases h
def oL(ns:List Nat):aY->aY×aY:=List.rec (fun R=>([],R)) (fun i _ ih R=>match pick i R with
 |some x=>(x.1::(ih x.2).1,(ih x.2).2)
 |none=>ih R) ns
def ou:∀(ns:List Nat) (R:aY),List.Perm R ((oL ns R).1++(oL ns R).2)
 |[],R=> .refl _
 |i::ns,R=>by
  show List.Perm R ((match pick i R with
   |some x=>(x.1::(oL ns x.2).1,(oL ns x.2).2)
   |none=>oL ns R).1++(match pick i R with
   |some x=>(x.1::(oL ns x.2).1,(oL ns x.2).2)
   |none=>oL ns R).2)
  split
  ·rename_i x hx
   exact(GN hx).trans ((ou ns x.2).cons _)
  ·exact ou ns R
def upto(n:Nat):List Nat:=Nat.rec [] (fun i ih=>ih++[i]) n
def VI{n i:Nat}(h:i<n):i∈upto n:=by
 induction n with
 |zero=>omega
 |succ n ih=>
  show i∈upto n++[n]
  by_cases hi:i=n
  ·subst hi;simp
  ·exact yA _ (ih (by omega))
def V2{n i:Nat}(h:i<n):(upto n)[i]? =V i:=by
 induction n with
 |zero=>omega
 |succ n ih=>
  show (upto n++[n])[i]? =V i
  have hl:∀n,(upto n).length=n:=fun n=>by
   induction n with
   |zero=>rfl
   |succ n ih=>show (upto n++[n]).length=n+1;simp[ih]
  by_cases hi:i=n
  ·subst hi;rw[wE (by rw[hl];exact zD _),hl,xF];rfl
  ·rw[List.getElem?_append_left (by rw[hl];omega)];exact ih (by omega)
def vC:∀n,(upto n).length=n:=fun n=>by
 induction n with
 |zero=>rfl
 |succ n ih=>show (upto n++[n]).length=n+1;simp[ih]
def oy(n0:Nat)(dr rest:List Nat)(i:Nat):Nat:=match dB i dr with
 |true=>n0+ng rest i
 |false=>ng (upto n0++rest) i
def ZT(n0:Nat)(dr:List Nat)(l:Env)(R:aY)(rest:List Nat):Option St:=match l.all (fun q=>l7 (fun i=>dB i rest|| !dB i dr&&zB i n0) 4 q.2)&&R.all (fun q=>(dB q.1 rest|| !dB q.1 dr&&zB q.1 n0)&&match q.2 with
  | .box _ cs=>cs.all (l7 (fun i=>dB i rest|| !dB i dr&&zB i n0) 4)
  | .row _ _=>wO)with
 |true=>V ⟨aml (l.map fun q=>(q.1,mz (oy n0 dr rest) 4 q.2)),R.map fun q=>(oy n0 dr rest q.1,Mr (oy n0 dr rest) q.2),n0+rest.length⟩
 |false=>O
def Xo(n0:Nat)(dr:List Nat)(l:Env)(R:aY):Option St:=ZT n0 dr l R ((R.map fun q=>q.1).filter fun i=>dB i dr|| !zB i n0)
def canon(n0:Nat)(dr:List Nat)(ts:List Nat)(s:St):Option St:=Xo n0 dr (L8 ts s.E) (oL ((upto n0).filter (fun i=> !dB i dr)++reach s.R 3 ((L8 ts s.E).flatMap fun q=>oX 4 q.2)) s.R).1
def YV{n0 n:Nat}{dr ts:List Nat}{C:Cg}{s s':St}{a:Act}{w:World}(hC:C.n=n0)(h:canon n0 dr ts s=V s')(hm:Mt C n s a w):Mt C n s' a w:=by
 unfold canon Xo at h
 generalize hl:L8 ts s.E=l at h
 generalize hR:(oL ((upto n0).filter (fun i=> !dB i dr)++reach s.R 3 (l.flatMap fun q=>oX 4 q.2)) s.R)=R2 at h
 have hperm:List.Perm s.R (R2.1++R2.2):=by rw[<-hR];exact ou _ _
 obtain⟨R,Rr⟩:=R2
 dsimp only at h hperm
 generalize hns:((R.map fun q=>q.1).filter fun i=>dB i dr|| !zB i n0)=rest at h
 unfold ZT at h
 split at h
 case h_2=>cases h
 rename_i hb
 cases h
 rw[zf]at hb
 obtain⟨hb1,hb2⟩:=hb
 obtain⟨E,hh,hE,hR0,ρ,hag,hsim⟩:=hm
 let ρ':Gh:=⟨fun j=>ρ.v ((upto n0++rest).getD j 0),fun j=>ρ.b ((upto n0++rest).getD j 0)⟩
 have hget:∀i,(dB i rest|| !dB i dr&&zB i n0)=wO->(upto n0++rest)[oy n0 dr rest i]? =V i:=fun i hi=>by
  unfold oy
  cases hd:dB i dr with
  |true=>
   rw[hd]at hi
   have hi:dB i rest=wO:=by simpa using hi
   show (upto n0++rest)[n0+ng rest i]? =V i
   rw[wE (by rw[vC];omega),vC,Nat.add_sub_cancel_left]
   exact vL (fX.1 hi)
  |false=>
   rw[hd]at hi
   show (upto n0++rest)[ng (upto n0++rest) i]? =V i
   refine vL ?_
   rw[yJ]at hi
   rcases hi with hi|hi
   ·exact yB _ (fX.1 hi)
   ·refine yA _ (VI ?_)
    simpa [yu]using hi
 have hp:∀i,(dB i rest|| !dB i dr&&zB i n0)=wO->ρ'.v (oy n0 dr rest i)=ρ.v i/\ρ'.b (oy n0 dr rest i)=ρ.b i:=fun i hi=>by
  have e:(upto n0++rest).getD (oy n0 dr rest i) 0=i:=by rw[x8,hget i hi];rfl
  exact⟨by show ρ.v ((upto n0++rest).getD (oy n0 dr rest i) 0)=_;rw[e],by show ρ.b ((upto n0++rest).getD (oy n0 dr rest i) 0)=_;rw[e]⟩
 have hll:(upto n0++rest).length=n0+rest.length:=by rw[zh,vC]
 have hlt:∀i,(dB i rest|| !dB i dr&&zB i n0)=wO->oy n0 dr rest i<n0+rest.length:=fun i hi=>by
  rw[<-hll];exact(zX.1 (hget i hi)).1
 have hres:aY.res ρ' (R.map fun q=>(oy n0 dr rest q.1,Mr (oy n0 dr rest) q.2))=aY.res ρ R:=by
  unfold aY.res
  rw[yd]
  refine zV fun q hq=> ?_
  have hbq:=zo.1 hb2 q hq
  rw[zf]at hbq
  have hm:=hbq.1
  have hbq:=hbq.2
  obtain⟨i,r⟩:=q
  cases r with
  |row t l=>show cH.row (ρ'.v (oy n0 dr rest i)) t l= .row (ρ.v i) t l;rw[(hp i hm).1]
  |box T cs=>
   show cH.box (ρ'.b (oy n0 dr rest i)) T ((cs.map (mz (oy n0 dr rest) 4)).map (cc.sub ρ'))= .box (ρ.b i) T (cs.map (cc.sub ρ))
   rw[(hp i hm).2,yd]
   congr 1
   exact zV fun c hc=>jm hp 4 (zo.1 hbq c hc)
 have hp2:List.Perm (aY.res ρ s.R) (aY.res ρ (R++Rr)):=hperm.map _
 have hsim2:=hsim.perm hp2
 rw[kK]at hsim2
 have hless:=hsim2.less (List.sublist_append_left _ _)
 refine⟨l.map fun q=>(q.1,mz (oy n0 dr rest) 4 q.2),AY _,fun q hq=> ?_,fun q hq=> ?_,ρ',⟨fun i hi=> ?_,?_⟩,?_⟩
 ·obtain⟨q',h1,rfl⟩:=zL.1 hq
  exact lu hlt 4 (zo.1 hb1 q' h1)
 ·obtain⟨q',h1,rfl⟩:=zL.1 hq
  have hbq:=zo.1 hb2 q' h1
  rw[zf]at hbq
  have hm:=hbq.1
  have hbq:=hbq.2
  refine⟨hlt _ hm,?_⟩
  obtain⟨i,r⟩:=q'
  cases r with
  |row t l=>trivial
  |box T cs=>
   intro c hc
   obtain⟨c',h3,rfl⟩:=zL.1 hc
   exact lu hlt 4 (zo.1 hbq c' h3)
 ·rw[hC]at hi
  have e:(upto n0++rest).getD i 0=i:=by
   rw[x8,List.getElem?_append_left (by rw[vC];exact hi),V2 hi];rfl
  have:=hag.1 i (by rw[hC];exact hi)
  exact⟨by show C.ρ.v i=ρ.v ((upto n0++rest).getD i 0);rw[e];exact this.1,by show C.ρ.b i=ρ.b ((upto n0++rest).getD i 0);rw[e];exact this.2⟩
 ·rw[hC]
  show n0<=n0+rest.length
  exact Nat.le_add_right _ _
 ·rw[hres]
  refine⟨hless.defers,hless.size,fun t av ht=> ?_,hless.good⟩
  have e:∀(l:Env),(∀q∈l,l7 (fun i=>dB i rest|| !dB i dr&&zB i n0) 4 q.2=wO)->Env.sub ρ' (l.map fun q=>(q.1,mz (oy n0 dr rest) 4 q.2))=Env.sub ρ l:=fun l hl=>by
   unfold Env.sub
   rw[yd]
   exact zV fun q hq=>by
    show (q.1,(mz (oy n0 dr rest) 4 q.2).sub ρ')=_
    rw[jm hp 4 (hl q hq)]
  rw[e l (fun q hq=>zo.1 hb1 q hq),Env.fe]at ht
  obtain⟨d,hd,rfl⟩:=zj.1 ht
  rw[<-hl]at hd
  exact hless.slots t _ (by rw[Env.fe,hh t d (Us ts t d hd)];rfl)
def rdC{γ:Type}(n0:Nat)(dr ts:List Nat)(rd:St->Option γ)(s:St):Option γ:=(canon n0 dr ts s).bind rd
def ajY{γ:Type}{n0 n:Nat}{dr ts:List Nat}{rd:St->Option γ}{pat:γ->St}(h:sJ n0 n rd pat):sJ n0 n (rdC n0 dr ts rd) pat:=fun C s p a w hC hr hm=>by
 obtain⟨s',h1,h2⟩:=zm.1 hr
 exact h C s' p a w hC h2 (YV hC h1 hm)
def tF{β:Type}(f:β->β)(j:Nat)(l:List β):List β:=List.rec (fun _=>[]) (fun b l ih j=>match zb j 0 with
 |true=>f b::l
 |false=>b::ih (j-1)) l j
def vJ{β γ:Type}{f:β->β}{g g':β->γ}:∀(l:List β) (j:Nat),(∀b∈l,g (f b)=g' b)->(∀b∈l,g b=g' b)->(tF f j l).map g=l.map g'
 |[],_,_,_=>rfl
 |b::l,j,h1,h2=>by
  show (match zb j 0 with
   |true=>f b::l
   |false=>b::tF f (j-1) l).map g=_
  split
  ·rw[yh,yh,h1 b zi,zV fun c hc=>h2 c (zJ _ hc)]
  ·rw[yh,yh,h2 b zi,vJ l (j-1) (fun c hc=>h1 c (zJ _ hc)) (fun c hc=>h2 c (zJ _ hc))]
def wW{β:Type}{f:β->β}{p:β->Prop}:∀(l:List β) (j:Nat),(∀b∈l,p (f b))->(∀b∈l,p b)->∀b∈tF f j l,p b
 |[],_,_,_,b,hb=>by cases hb
 |c::l,j,h1,h2,b,hb=>by
  have hb:b∈(match zb j 0 with
   |true=>f c::l
   |false=>c::tF f (j-1) l):=hb
  split at hb
  ·rcases zy.1 hb with rfl|hb
   ·exact h1 c zi
   ·exact h2 b (zJ _ hb)
  ·rcases zy.1 hb with rfl|hb
   ·exact h2 b zi
   ·exact wW l (j-1) (fun c hc=>h1 c (zJ _ hc)) (fun c hc=>h2 c (zJ _ hc)) b hb
def uR(nx:Nat)(p:List Nat):AV->AV:=List.rec (fun d=>match d with
 | .lit (.slice O 0 0)=> .own nx
 |d=>d) (fun j _ ih d=>match d with
 | .agg cs=> .agg (tF ih j cs)
 | .jB cs=> .jB (tF ih j cs)
 |d=>d) p
def vB{ρ:Gh}{nx:Nat}:∀(p:List Nat) (d:AV),cM nx d->(uR nx p d).sub (ρ.gm nx (.slice O 0 0))=d.sub ρ
 |[],d,h=>by
  show cc.sub _ (match d with
   | .lit (.slice O 0 0)=> .own nx
   |d=>d)=_
  split
  ·rw[dW,bT];simp[Gh.gm]
  ·exact(h.sub (.gm ρ nx _)).symm
 |j::p,d,h=>by
  show cc.sub _ (match d with
   | .agg cs=> .agg (tF (uR nx p) j cs)
   | .jB cs=> .jB (tF (uR nx p) j cs)
   |d=>d)=_
  split
  ·rw[eN,eN,vJ _ j (fun b hb=>vB p b (h.ny b hb)) (fun b hb=>((h.ny b hb).sub (.gm ρ nx _)).symm)]
  ·rw[kO,kO,vJ _ j (fun b hb=>vB p b (h.FL b hb)) (fun b hb=>((h.FL b hb).sub (.gm ρ nx _)).symm)]
  ·exact(h.sub (.gm ρ nx _)).symm
def uT{nx:Nat}:∀(p:List Nat) (d:AV),cM nx d->cM (nx+1) (uR nx p d)
 |[],d,h=>by
  show cM (nx+1) (match d with
   | .lit (.slice O 0 0)=> .own nx
   |d=>d)
  split
  ·exact .own _ (zw _)
  ·exact h.mono (yx _)
 |j::p,d,h=>by
  show cM (nx+1) (match d with
   | .agg cs=> .agg (tF (uR nx p) j cs)
   | .jB cs=> .jB (tF (uR nx p) j cs)
   |d=>d)
  split
  ·exact .agg _ (wW _ j (fun b hb=>uT p b (h.ny b hb)) (fun b hb=>(h.ny b hb).mono (yx _)))
  ·exact .jB _ (wW _ j (fun b hb=>uT p b (h.FL b hb)) (fun b hb=>(h.FL b hb).mono (yx _)))
  ·exact h.mono (yx _)
def alv(t:Nat)(p:List Nat)(e:Nat)(s:St):St:=match cL s.E t with
 |some d=>⟨mC t (uR s.nx p d) s.E,(s.nx, .row e [])::s.R,s.nx+1⟩
 |none=>s
def oT(id j:Nat)(p:List Nat)(e:Nat)(s:St):St:=match gx s.R id with
 |some (.box T cs)=>⟨s.E,(s.nx, .row e [])::uv id (.box T (tF (uR s.nx p) j cs)) s.R,s.nx+1⟩
 |_=>s
def Th{ρ:Gh}{R:aY}{nx e:Nat}:aY.res (ρ.gm nx (.slice O 0 0)) ((nx,IR.row e [])::R)=cH.row (.slice O 0 0) e []::aY.res (ρ.gm nx (.slice O 0 0)) R:=by
 show cH.row ((ρ.gm nx (.slice O 0 0)).v nx) e []::_=_
 simp[Gh.gm,aY.res]
def afK{C:Cg}{n t e:Nat}{p:List Nat}{s:St}{a:Act}{w:World}(hm:Mt C n s a w):Mt C n (alv t p e s) a w:=by
 unfold alv
 split
 case h_2=>exact hm
 rename_i d hg
 obtain⟨E,hh,hE,hR,ρ,hag,hsim⟩:=hm
 have ht:=PL (C:=C.C) O e hsim.good
 have hs:=hsim.tr ht
 have hs1:E.sub ρ=E.sub (ρ.gm s.nx (.slice O 0 0)):=hE.sub (.gm ρ s.nx _)
 have hr1:aY.res ρ s.R=aY.res (ρ.gm s.nx (.slice O 0 0)) s.R:=hR.res (.gm ρ s.nx _)
 have hd:cM s.nx d:=hE _ (Env.get_mem (hh t d hg))
 refine⟨(t,uR s.nx p d)::E,hh.put t _,Env.vY (hE.mono (yx _)) (uT p d hd),fun q hq=> ?_,ρ.gm s.nx (.slice O 0 0),⟨hag.1.trans (.gm ρ s.nx _) hag.2,zx hag.2 (yx _)⟩,?_⟩
 ·rcases zy.1 hq with rfl|hq
  ·exact⟨zw _,trivial⟩
  ·exact(hR.mono (yx _)) q hq
 ·show uK C.C n ((t,cc.sub _ (uR s.nx p d))::E.sub _) (aY.res _ ((s.nx,IR.row e [])::s.R)) a w
  rw[Th,<-hr1,<-hs1,vB p d hd]
  refine⟨hs.defers,hs.size,fun u av hu=> ?_,hs.good⟩
  by_cases htu:t=u
  ·subst htu
   rw[Env.e9]at hu
   cases hu
   exact hs.slots t _ (by rw[Env.fe,hh t _ hg,yt])
  ·rw[Env.dO _ _ htu]at hu
   exact hs.slots u av hu
def afI{C:Cg}{n id j e:Nat}{p:List Nat}{s:St}{a:Act}{w:World}(hm:Mt C n s a w):Mt C n (oT id j p e s) a w:=by
 unfold oT
 split
 case h_2=>exact hm
 rename_i T cs hg
 obtain⟨E,hh,hE,hR,ρ,hag,hsim⟩:=hm
 have ht:=PL (C:=C.C) O e hsim.good
 have hs:=hsim.tr ht
 have hs1:E.sub ρ=E.sub (ρ.gm s.nx (.slice O 0 0)):=hE.sub (.gm ρ s.nx _)
 have hr1:aY.res ρ s.R=aY.res (ρ.gm s.nx (.slice O 0 0)) s.R:=hR.res (.gm ρ s.nx _)
 obtain⟨hid,hcs⟩:=EU hg hR
 have hr2:aY.res (ρ.gm s.nx (.slice O 0 0)) (uv id (.box T (tF (uR s.nx p) j cs)) s.R)=aY.res ρ s.R:=by
  obtain⟨i,h1,h2,_⟩:=eM hg
  rw[h2,vk,<-hr1]
  have e1:IR.res (ρ.gm s.nx (.slice O 0 0)) id (.box T (tF (uR s.nx p) j cs))=IR.res ρ id (.box T cs):=by
   show cH.box ((ρ.gm s.nx (.slice O 0 0)).b id) T ((tF (uR s.nx p) j cs).map (cc.sub _))= .box (ρ.b id) T (cs.map (cc.sub ρ))
   rw[vJ cs j (fun b hb=>vB p b (hcs b hb)) (fun b hb=>((hcs b hb).sub (.gm ρ s.nx _)).symm)]
   rfl
  rw[e1]
  have h3:=gY (ρ:=ρ) h1
  exact List.ext_getElem? fun k=>by
   by_cases hk:i=k
   ·subst hk
    rw[List.getElem?_set_self (zX.1 h3).1,h3]
   ·rw[List.getElem?_set_ne hk]
 refine⟨E,hh,hE.mono (yx _),fun q hq=> ?_,ρ.gm s.nx (.slice O 0 0),⟨hag.1.trans (.gm ρ s.nx _) hag.2,zx hag.2 (yx _)⟩,?_⟩
 ·rcases zy.1 hq with rfl|hq
  ·exact⟨zw _,trivial⟩
  ·refine qX hg (hR.mono (yx _)) ?_ q hq
   exact wW cs j (fun b hb=>uT p b (hcs b hb)) (fun b hb=>(hcs b hb).mono (yx _))
 ·show uK C.C n (E.sub _) (aY.res _ ((s.nx,IR.row e [])::uv id (.box T (tF (uR s.nx p) j cs)) s.R)) a w
  rw[Th,hr2,<-hs1]
  exact hs
def atA(p:List Nat):AV->Option Nat:=List.rec (fun d=>match d with
 | .own i=>V i
 |_=>O) (fun j _ ih d=>match d with
 | .agg cs=>(cs[j]?).bind ih
 | .jB cs=>(cs[j]?).bind ih
 |_=>O) p
def au6(t:Nat)(p:List Nat)(s:St):St:=match cL s.E t with
 |some d=>match atA p d with
  |some i=>s.Ka i
  |none=>s
 |none=>s
def arJ(id j:Nat)(p:List Nat)(s:St):St:=match gx s.R id with
 |some (.box _ cs)=>match (cs[j]?).bind (atA p)with
  |some i=>s.Ka i
  |none=>s
 |_=>s
def rdF{γ:Type}(f:St->St)(rd:St->Option γ)(s:St):Option γ:=rd (f s)
def cj(f:St->St):Prop:=∀(C:Cg) n s a w,Mt C n s a w->Mt C n (f s) a w
def cj.s(t:Nat)(p:List Nat)(e:Nat):cj (alv t p e):=fun _ _ _ _ _ h=>afK h
def cj.c(id j:Nat)(p:List Nat)(e:Nat):cj (oT id j p e):=fun _ _ _ _ _ h=>afI h
def cj.fs(t:Nat)(p:List Nat):cj (au6 t p):=fun _ _ _ _ _ h=>by
 unfold au6
 split
 ·split
  ·exact h.Ka _
  ·exact h
 ·exact h
def cj.fc(id j:Nat)(p:List Nat):cj (arJ id j p):=fun _ _ _ _ _ h=>by
 unfold arJ
 split
 ·split
  ·exact h.Ka _
  ·exact h
 ·exact h
def alw{γ:Type}{n0 n:Nat}{f:St->St}{rd:St->Option γ}{pat:γ->St}(hf:cj f)(h:sJ n0 n rd pat):sJ n0 n (rdF f rd) pat:=fun C s p a w hC hr hm=>h C (f s) p a w hC hr (hf C n s a w hm)
end Go.Iv
end
noncomputable section
namespace Go.Iv
variable [U:sX] [L:nQ]
open Go Go.RowKit
section
variable {P:Program} {f:FuncId} {args:List AV} {σp σr:List cH} {Φ:AV->List cH->Prop}
def DD{σ:List cH}{w:World}{A:Nat->Prop}(hd:Hd A σ w)(hnd:(bH σ).Nodup):Good ⟨w,A,bH σ⟩ σ w:=
 have hal:∀b,A b->al ⟨w,A,bH σ⟩ σ b:=fun b hA=>⟨.inl hA,fun hx=>hd.2 b hx hA⟩
 ⟨Kp.refl _ _,fun r hr=>(hd.1 r hr).mono (fun b _ hA=>⟨hal b hA,rfl⟩) (fun _ _=>rfl),hnd,fun b hb=> .inl hb⟩
def L5{σ σ':List cH}{X:List Nat}{C:Cx}{w w':World}(h:Tr C X σ w σ' w')(hX:∀b∈X,b∈bH σ):Tr C (bH σ) σ w σ' w':=
 ⟨h.good,⟨h.kp.os,h.kp.tape,h.kp.output,h.kp.size,fun k hk hn=>h.kp.block k hk fun hx=>hn (hX k hx)⟩,fun b hb hA=>⟨(h.al b hb hA).1,hA.2⟩⟩
def Fn.abe(h:Fn P f args σp Φ):Fn P f args (σp++σr) (fun a s=>∃so,Φ a so/\s=so++σr):=fun w A vs hrel hd0 hnd0=>by
 have hg:=DD hd0 hnd0
 generalize hC:(⟨w,A,bH (σp++σr)⟩:Cx)=C at hg ⊢
 have hdis:=hg.F8
 rw[gK]at hdis
 obtain⟨d1,d2,d3⟩:=yE.1 hdis
 have hlt:∀b∈bH (σp++σr),b<w.heap.size:=fun b hb=>by
  obtain⟨s,h1,h2⟩:=bR.1 hb
  exact(hg.res s h1).lt h2
 have hal0:∀b,A b->al C (σp++σr) b:=fun b hA=>by
  subst hC;exact⟨.inl hA,fun hx=>hd0.2 b hx hA⟩
 have hd:Hd (al C (σp++σr)) σp w:=⟨fun r hr=>hg.res r (yA _ hr),fun b hb hA=>hA.2 (bL.2 (.inl hb))⟩
 refine(h w (al C (σp++σr)) vs (hrel.mono fun b _ hA=>⟨hal0 b hA,rfl⟩) hd d1).mono fun e w' ⟨v,av,σo,q1,q2,q3,q4⟩=> ?_
 have hown:∀b∈bH σo,b∈bH σp\/w.heap.size<=b:=q3.good.own
 have hsub:∀b,al ⟨w,al C (σp++σr),bH σp⟩ σo b->al C (σo++σr) b:=fun b hb=>by
  obtain⟨hb1,hb2⟩:=hb
  rcases hb1 with hb1|hb1|hb1
  ·exact⟨hb1.1,fun hx=>(bL.1 hx).elim hb2 (fun h=>hb1.2 (bL.2 (.inr h)))⟩
  ·have hbp:b∈bH σp:=hb1
   refine⟨?_,fun hx=>(bL.1 hx).elim hb2 (fun h=>d3 b hbp b h rfl)⟩
   rcases hg.own b (bL.2 (.inl hbp))with h|h
   ·exact .inr (.inl h)
   ·exact .inr (.inr h)
  ·have hbw:w.heap.size<=b:=hb1
   exact⟨.inr (.inr (zx hg.kept.size hbw)),fun hx=>(bL.1 hx).elim hb2 (fun h=>by have:=hlt b (bL.2 (.inr h));omega)⟩
 have ht:=Cn hg (fun b hA _=> .inl hA) q3 (fun r hr=>(q3.good.res r hr).mono (fun b hb hA=>⟨hsub b hA,rfl⟩) (fun _ _=>rfl))
 exact⟨v,av,σo++σr,q1,⟨σo,q2,rfl⟩,L5 ht (fun b hb=>bL.2 (.inl hb)),q4.mono fun b hb hA=>⟨hsub b hA,rfl⟩⟩
def Fn.awS{args':List AV}{σr:List cH}(h:Fn P f args' [] Φ)(hv:∀(A:Nat->Prop) (w:World) (us:List Value),Hd A σr w->bK A w args us->bK (fun b=>A b\/b∈bH σr) w args' us)
  (hc:∀av σo,Φ av σo->Cl av/\∀r∈σo,ClR r):Fn P f args σr (fun a s=>∃so,Φ a so/\s=so++σr):=fun w A vs hrel hd0 hnd0=>by
 have hg:=DD hd0 hnd0
 generalize hC:(⟨w,A,bH σr⟩:Cx)=C at hg ⊢
 have hal0:∀b,A b->al C σr b:=fun b hA=>by
  subst hC;exact⟨.inl hA,fun hx=>hd0.2 b hx hA⟩
 have h3:=hv (al C σr) w vs hg.hd (hrel.mono fun b _ hA=>⟨hal0 b hA,rfl⟩)
 refine(h w _ vs h3 ⟨fun r hr=>(by cases hr),fun b hb=>(by cases hb)⟩ List.nodup_nil).mono fun e w' ⟨v,av,σo,q1,q2,q3,q4⟩=> ?_
 obtain⟨c1,c2⟩:=hc av σo q2
 have ht:=Cn (σp:=[]) (σr:=σr) hg (fun b hA _=>hA) q3 (fun r hr=>c2 r hr _ _ w' (q3.good.res r hr))
 exact⟨v,av,σo++σr,q1,⟨σo,q2,rfl⟩,L5 (σ:=σr) ht (fun b hb=>by cases hb),c1 _ _ w' v q4⟩
end
def ayc(n:Nat):AV->Bool:=l7 (fun _=>wN) n
def EY{A:Nat->Prop}{w:World}{cs:List AV}{v:Value}(h:Rel A w (.fp cs) v):∃(b o:Nat) (us:List Value),v= .pointer (V ⟨b,o,O⟩)/\b<w.heap.size/\A b/\(∀j v,us[j]? =V v->w.cell? ⟨b,o+j,O⟩=V v)/\bK A w cs us:=by
 generalize ha:cc.fp cs=a at h
 cases h with
 |fp cs' b o us hb hA hl hc hr=>cases ha;exact⟨b,o,us,rfl,hb,hA,hc,hl,hr⟩
 |_=>cases ha
def Gz(lb:Bool)(rd:Nat->Option IR)(n:Nat):AV->AV:=Nat.rec (fun d=>match d with
 | .own id=>match rd id with
  |some (.row t l)=> .sl t l
  |_=> .own id
 |d=>d) (fun _ ih d=>match d with
 | .own id=>match rd id with
  |some (.row t l)=> .sl t l
  |_=> .own id
 | .ptr id 0=>match lb with
  |true=>match rd id with
   |some (.box _ cs)=> .fp (cs.map ih)
   |_=> .ptr id 0
  |false=> .ptr id 0
 | .agg cs=> .agg (cs.map ih)
 | .fn f cs=> .fn f (cs.map ih)
 |d=>d) n
def YG{R:aY}{ρ:Gh}{A:Nat->Prop}{w:World}{v:Value}{id T:Nat}{cs:List AV}(hd:Hd A (aY.res ρ R) w)(hg:gx R id=V (.box T cs))(hr:Rel A w ((cc.ptr (dw:=U.dw) id 0).sub ρ) v):
  Rel (fun b=>A b\/b∈bH (aY.res ρ R)) w (.fp (cs.map (cc.sub ρ))) v:=by
 obtain⟨i,hi,_⟩:=eM hg
 have hres:=gY (ρ:=ρ) hi
 rw[fE]at hr
 exact Vw.box i hres A w v hd hr
def Uo{lb:Bool}{R:aY}{ρ:Gh}{A:Nat->Prop}{w:World}(hd:Hd A (aY.res ρ R) w):∀(n:Nat) {d:AV} {v:Value},Rel (fun b=>A b\/b∈bH (aY.res ρ R)) w (d.sub ρ) v->Rel (fun b=>A b\/b∈bH (aY.res ρ R)) w ((Gz lb (gx R) n d).sub ρ) v:=by
 have hown:∀{id:Nat} {v:Value},Rel (fun b=>A b\/b∈bH (aY.res ρ R)) w ((cc.own (dw:=U.dw) id).sub ρ) v->Rel (fun b=>A b\/b∈bH (aY.res ρ R)) w ((match gx R id with
  |some (.row t l)=>cc.sl t l
  |_=> .own id).sub ρ) v:=fun{id v} h=>by
  rw[dW]at h
  rw[h.cK]
  exact W8 hd (by rw[dW];exact .lit _)
 intro n
 induction n with
 |zero=>
  intro d v h
  cases d<;>first|exact h|exact hown h
 |succ n ih=>
  have hL:∀{cs:List AV} {us:List Value},bK (fun b=>A b\/b∈bH (aY.res ρ R)) w (cs.map (cc.sub ρ)) us->bK (fun b=>A b\/b∈bH (aY.res ρ R)) w ((cs.map (Gz lb (gx R) n)).map (cc.sub ρ)) us:=fun{cs us} h=>
   ⟨by simpa using h.1,fun j a u q1 q2=>by
    rw[yd,zY]at q1
    obtain⟨c,hc,rfl⟩:=zj.1 q1
    exact ih (h.2 j _ u (by rw[zY,hc];rfl) q2)⟩
  intro d v h
  cases d with
  |own id=>exact hown h
  |agg cs=>
   show Rel _ w ((cc.agg (cs.map (Gz lb (gx R) n))).sub ρ) v
   rw[eN]at h ⊢
   obtain⟨us,rfl,h2⟩:=h.mN
   exact Rel.ny (hL h2)
  |fn f cs=>
   show Rel _ w ((cc.fn f (cs.map (Gz lb (gx R) n))).sub ρ) v
   rw[tH]at h ⊢
   obtain⟨us,rfl,h2⟩:=h.ZY
   have h3:=hL h2
   exact .fn f _ us h3.1 h3.2
  |ptr id off=>
   cases off with
   |succ o=>exact h
   |zero=>
    cases lb with
    |false=>exact h
    |true=>
     show Rel _ w (cc.sub ρ (match gx R id with
      |some (.box _ cs)=> .fp (cs.map (Gz wO (gx R) n))
      |_=> .ptr id 0)) v
     split
     ·rename_i T cs hg
      have h0:Rel A w ((cc.ptr (dw:=U.dw) id 0).sub ρ) v:=by
       rw[fE]at h ⊢
       rw[h.cK];exact .lit _
      obtain⟨b,o,us,rfl,q1,q2,q3,q4⟩:=EY (YG hd hg h0)
      rw[mq]
      have q5:=hL q4
      exact .fp _ b o us q1 q2 q5.1 q3 q5.2
     ·exact h
  |_=>exact h
def oJ(l:List Nat)(n0 nx:Nat)(i:Nat):Nat:=match zB i n0 with
 |true=>l.getD i 0
 |false=>nx+(i-n0)
def Out.okB(n0:Nat)(x:Out):Bool:=ya n0 x.c&&l7 (fun i=>zB i x.c) 4 x.d&&x.R.all fun q=>zB q.1 x.c&&match q.2 with
 | .box _ cs=>cs.all (l7 (fun i=>zB i x.c) 4)
 | .row _ _=>wO
def Yf{α γ β:Type}(q:List AV->aY->Option γ)(t:γ->Option β)(out:β->Out)(n0:Nat)(args:List AV)(nx:Nat)(k:AV->aY->Nat->Option α)(F:Option α)(Rp Rr:aY)(ns:List Nat):Option α:=
 match zb Rp.length n0&&args.all (l7 (fun i=>dB i ns) 4)&&Rp.all (fun q=>match q.2 with
  | .box _ cs=>cs.all (l7 (fun i=>dB i ns) 4)
  | .row _ _=>wO)with
 |true=>match q (args.map (mz (ng ns) 4)) (Rp.map fun q=>(ng ns q.1,Mr (ng ns) q.2))with
  |some g=>match t g with
   |some b=>k (mz (oJ ns n0 nx) 4 (out b).d) ((out b).R.map (fun q=>(oJ ns n0 nx q.1,Mr (oJ ns n0 nx) q.2))++Rr) (nx+((out b).c-n0))
   |none=>O
  |none=>F
 |false=>F
def Zh{α γ β:Type}(q:List AV->aY->Option γ)(t:γ->Option β)(out:β->Out)(n0:Nat)(args:List AV)(nx:Nat)(k:AV->aY->Nat->Option α)(F:Option α)(R2:aY×aY):Option α:=
 Yf q t out n0 args nx k F R2.1 R2.2 (R2.1.map fun q=>q.1)
def orY{γ β:Type}(f0 n0:Nat)(q:List AV->aY->Option γ)(t:γ->Option β)(out:β->Out)(F:aK):aK:=fun _ f args R nx k=>match zb f f0 with
 |true=>Zh q t out n0 args nx k (F _ f args R nx k) (oL (reach R 3 (args.flatMap (oX 4))) R)
 |false=>F _ f args R nx k
def QY{γ:Type}(q:List AV->aY->Option γ)(ca:γ->List AV)(cr:γ->aY):Prop:=∀xs R g,q xs R=V g->(∀(ρ:Gh) A w us,bK A w (xs.map (cc.sub ρ)) us->bK A w ((ca g).map (cc.sub ρ)) us)/\I3 R (cr g)
def Fn.pre{P:Program}{f:FuncId}{args args':List AV}{R R':aY}{ρ:Gh}{Φ:AV->List cH->Prop}(h:Fn P f args' (aY.res ρ R') Φ)(ha:∀A w us,bK A w args us->bK A w args' us)(hr:I3 R R'):Fn P f args (aY.res ρ R) Φ:=fun w A vs h1 h2 h3=>by
 have hb:bH (aY.res ρ R)=bH (aY.res ρ R'):=EE hr
 rw[hb]
 refine(h w A vs (ha A w vs h1) ⟨NH hr h2.1,fun b hb'=>h2.2 b (by rw[hb];exact hb')⟩ (by rw[<-hb];exact h3)).mono fun e w' ⟨v,av,σ',q1,q2,q3,q4⟩=>⟨v,av,σ',q1,q2,⟨q3.good,q3.kp,fun b hb' hA=> ?_⟩,q4⟩
 refine q3.al b hb' ⟨hA.1,?_⟩
 rw[<-hb];exact hA.2
def aoV{P:Program}{F:aK}{γ β:Type}{f0 n0:Nat}{q:List AV->aY->Option γ}{ca:γ->List AV}{cr:γ->aY}{t:γ->Option β}{out:β->Out}(hF:iJ P F)(hf:AZ P f0)(hq:QY q ca cr)(hm:∀b,(out b).okB n0=wO)
  (h:∀g b,t g=V b->Tv P f0 (ca g) (cr g) n0 (out b)):iJ P (orY f0 n0 q t out F):=fun α f args R nx k r hr hargs hR=>by
 unfold orY at hr
 split at hr
 case h_2=>exact hF α f args R nx k r hr hargs hR
 rename_i hb
 have hb:=gA hb
 subst hb
 unfold Zh at hr
 generalize hR2:oL (reach R 3 (args.flatMap (oX 4))) R=R2 at hr
 have hperm:List.Perm R (R2.1++R2.2):=by rw[<-hR2];exact ou _ _
 obtain⟨Rp,Rr⟩:=R2
 dsimp only at hr hperm
 generalize hns:(Rp.map fun q=>q.1)=ns at hr
 unfold Yf at hr
 split at hr
 case h_2=>exact hF α f args R nx k r hr hargs hR
 rename_i hchk
 rw[zf,zf]at hchk
 obtain⟨⟨hc0,hc1⟩,hc2⟩:=hchk
 have hc0:=gA hc0
 split at hr
 case h_2=>exact hF α f args R nx k r hr hargs hR
 rename_i g hg
 split at hr
 case h_2=>cases hr
 rename_i b hb
 have hlen:ns.length=n0:=by rw[<-hns,zK,hc0]
 have hRs:∀p∈Rp++Rr,p.1<nx/\p.2.cM nx:=fun p hp=>hR p (hperm.mem_iff.2 hp)
 have hnsl:∀i∈ns,i<nx:=fun i hi=>by
  rw[<-hns]at hi
  obtain⟨p,hp,rfl⟩:=zL.1 hi
  exact(hRs p (yA _ hp)).1
 obtain⟨hqa,hqr⟩:=hq _ _ g hg
 have hok:=hm b
 unfold Out.okB at hok
 rw[zf,zf]at hok
 obtain⟨⟨ho0,ho1⟩,ho2⟩:=hok
 have ho0:n0<=(out b).c:=by simpa using ho0
 refine⟨hf,fun ρ=> ?_⟩
 let ρ0:Gh:=⟨fun j=>ρ.v (ns.getD j 0),fun j=>ρ.b (ns.getD j 0)⟩
 have hp:∀i,dB i ns=wO->ρ0.v (ng ns i)=ρ.v i/\ρ0.b (ng ns i)=ρ.b i:=fun i hi=>by
  have:=vL (fX.1 hi)
  have e:ns.getD (ng ns i) 0=i:=by rw[x8,this];rfl
  exact⟨by show ρ.v (ns.getD (ng ns i) 0)=_;rw[e],by show ρ.b (ns.getD (ng ns i) 0)=_;rw[e]⟩
 have ea:(args.map (mz (ng ns) 4)).map (cc.sub ρ0)=args.map (cc.sub ρ):=by
  rw[yd]
  exact zV fun c hc=>jm hp 4 (zo.1 hc1 c hc)
 have er:aY.res ρ0 (Rp.map fun q=>(ng ns q.1,Mr (ng ns) q.2))=aY.res ρ Rp:=by
  unfold aY.res
  rw[yd]
  refine zV fun q hq=> ?_
  have hm:dB q.1 ns=wO:=fX.2 (by rw[<-hns];exact zL.2 ⟨q,hq,rfl⟩)
  have hbq:=zo.1 hc2 q hq
  obtain⟨i,rr⟩:=q
  cases rr with
  |row t l=>show cH.row (ρ0.v (ng ns i)) t l= .row (ρ.v i) t l;rw[(hp i hm).1]
  |box T cs=>
   show cH.box (ρ0.b (ng ns i)) T ((cs.map (mz (ng ns) 4)).map (cc.sub ρ0))= .box (ρ.b i) T (cs.map (cc.sub ρ))
   rw[(hp i hm).2,yd]
   congr 1
   exact zV fun c hc=>jm hp 4 (zo.1 hbq c hc)
 have h1:=Fn.pre (h g b hb ρ0) (hqa ρ0) hqr
 rw[ea,er]at h1
 have h2:=Fn.abe (σr:=aY.res ρ Rr) h1
 rw[<-kK]at h2
 have hp2:List.Perm (aY.res ρ R) (aY.res ρ (Rp++Rr)):=hperm.map _
 have h3:Fn P f (args.map (cc.sub ρ)) (aY.res ρ R) (fun a s=>∃so,(∃ρ':Gh,sk n0 ρ0 ρ'/\a=(out b).d.sub ρ'/\List.Perm so (aY.res ρ' (out b).R))/\s=so++aY.res ρ Rr):=fun w A vs q1 q2 q3=>by
  have hbm:∀x,x∈bH (aY.res ρ (Rp++Rr))↔x∈bH (aY.res ρ R):=fun x=>(hp2.symm.filterMap _).mem_iff
  refine(h2 w A vs q1 ⟨fun r hr=>q2.1 r (hp2.mem_iff.2 hr),fun x hx=>q2.2 x ((hbm x).1 hx)⟩ ((hp2.filterMap _).nodup_iff.1 q3)).mono fun e w' ⟨v,av,σ',g1,g2,g3,g4⟩=> ?_
  have hal:∀s x,al ⟨w,A,bH (aY.res ρ (Rp++Rr))⟩ s x->al ⟨w,A,bH (aY.res ρ R)⟩ s x:=fun s x hx=>⟨hx.1.imp id (Or.imp (fun h=>(hbm x).1 h) id),hx.2⟩
  refine⟨v,av,σ',g1,g2,⟨⟨⟨g3.kp.os,g3.kp.tape,g3.kp.output,g3.kp.size,fun k hk hn=>g3.kp.block k hk fun hx=>hn ((hbm k).1 hx)⟩,fun rr hrr=>(g3.good.res rr hrr).mono (fun x _ hA=>⟨hal _ x hA,rfl⟩) (fun _ _=>rfl),g3.good.F8,fun x hx=>(g3.good.own x hx).imp (fun h=>(hbm x).1 h) id⟩,⟨g3.kp.os,g3.kp.tape,g3.kp.output,g3.kp.size,fun k hk hn=>g3.kp.block k hk fun hx=>hn ((hbm k).1 hx)⟩,fun x hx hA=> ?_⟩,g4.mono fun x _ hA=>⟨hal _ x hA,rfl⟩⟩
  have hA':al ⟨w,A,bH (aY.res ρ (Rp++Rr))⟩ (aY.res ρ (Rp++Rr)) x:=⟨hA.1.imp id (Or.imp (fun h=>(hbm x).2 h) id),fun h=>hA.2 ((hbm x).1 h)⟩
  exact⟨hal _ x (g3.al x hx hA').1,fun h=>hA.2 h⟩
 refine Fn.mono h3 fun a s ⟨so,⟨ρ1,g0,g1,g2⟩,g3⟩=> ?_
 let ρ2:Gh:=⟨fun i=>if i<nx then ρ.v i else ρ1.v (n0+(i-nx)),fun i=>if i<nx then ρ.b i else ρ1.b (n0+(i-nx))⟩
 have hag:sk nx ρ ρ2:=fun i hi=>⟨by simp only[ρ2,bw hi],by simp only[ρ2,bw hi]⟩
 have hb2:∀i,zB i (out b).c=wO->(ρ2.v (oJ ns n0 nx i)=ρ1.v i/\ρ2.b (oJ ns n0 nx i)=ρ1.b i)/\oJ ns n0 nx i<nx+((out b).c-n0):=fun i hi=>by
  have hi:i<(out b).c:=by simpa [yu]using hi
  unfold oJ
  split
  ·rename_i hlt
   have hlt:i<n0:=by simpa [yu]using hlt
   obtain⟨e1,e2⟩:=g0 i hlt
   have hlt2:i<ns.length:=by rw[hlen];exact hlt
   have hmem:ns.getD i 0∈ns:=by rw[x8,zk hlt2];exact xx hlt2
   have h4:=hnsl _ hmem
   refine⟨⟨?_,?_⟩,by omega⟩
   ·show (if ns.getD i 0<nx then ρ.v (ns.getD i 0)else _)=_
    rw[bw h4];exact e1
   ·show (if ns.getD i 0<nx then ρ.b (ns.getD i 0)else _)=_
    rw[bw h4];exact e2
  ·rename_i hlt
   have hlt:¬i<n0:=by
    intro hx
    have:zB i n0=wO:=by rw[yu];exact hx
    rw[this]at hlt;cases hlt
   have h5:¬nx+(i-n0)<nx:=by omega
   have h6:n0+(nx+(i-n0)-nx)=i:=by omega
   refine⟨⟨?_,?_⟩,by omega⟩
   ·show (if nx+(i-n0)<nx then _ else ρ1.v (n0+(nx+(i-n0)-nx)))=_
    rw[bF h5,h6]
   ·show (if nx+(i-n0)<nx then _ else ρ1.b (n0+(nx+(i-n0)-nx)))=_
    rw[bF h5,h6]
 have hres:aY.res ρ2 ((out b).R.map fun q=>(oJ ns n0 nx q.1,Mr (oJ ns n0 nx) q.2))=aY.res ρ1 (out b).R:=by
  unfold aY.res
  rw[yd]
  refine zV fun q hq=> ?_
  have hbq:=zo.1 ho2 q hq
  rw[zf]at hbq
  obtain⟨i,rr⟩:=q
  cases rr with
  |row t l=>show cH.row (ρ2.v (oJ ns n0 nx i)) t l= .row (ρ1.v i) t l;rw[(hb2 i hbq.1).1.1]
  |box T cs=>
   show cH.box (ρ2.b (oJ ns n0 nx i)) T ((cs.map (mz (oJ ns n0 nx) 4)).map (cc.sub ρ2))= .box (ρ1.b i) T (cs.map (cc.sub ρ1))
   rw[(hb2 i hbq.1).1.2,yd]
   congr 1
   exact zV fun c hc=>jm (fun i hi=>(hb2 i hi).1) 4 (zo.1 hbq.2 c hc)
 refine⟨_,_,_,hr,by omega,lu (fun i hi=>(hb2 i hi).2) 4 ho1,fun q hq=> ?_,ρ2,hag,?_,?_⟩
 ·rcases zU.1 hq with hq|hq
  ·obtain⟨q',h4,rfl⟩:=zL.1 hq
   have hbq:=zo.1 ho2 q' h4
   rw[zf]at hbq
   refine⟨(hb2 _ hbq.1).2,?_⟩
   obtain⟨i,rr⟩:=q'
   cases rr with
   |row t l=>trivial
   |box T cs=>
    intro c hc
    obtain⟨c',h5,rfl⟩:=zL.1 hc
    exact lu (fun i hi=>(hb2 i hi).2) 4 (zo.1 hbq.2 c' h5)
  ·have:=hRs q (yB _ hq)
   exact⟨by omega,this.2.mono (by omega)⟩
 ·rw[g1];exact(jm (fun i hi=>(hb2 i hi).1) 4 ho1).symm
 ·rw[g3,kK,hres,<-aY.cM.res (R:=Rr) (fun q hq=>hRs q (yB _ hq)) hag]
  exact g2.append_right _
def scD(n:Nat):AV->Bool:=Nat.rec (fun d=>match d with
 | .lit _=>wO
 | .own _=>wO
 | .ptr _ _=>wO
 |_=>wN) (fun _ ih d=>match d with
 | .lit _=>wO
 | .own _=>wO
 | .ptr _ _=>wO
 | .agg cs=>cs.all ih
 | .jB cs=>cs.all ih
 |_=>wN) n
def Wd{ρ:Gh}:∀(n:Nat) {d:AV},scD n d=wO->Cl (d.sub ρ):=fun n=>by
 induction n with
 |zero=>
  intro d h
  cases d<;>first|(cases h;done)|(rw[bT];exact .lit _)|(rw[dW];exact .lit _)|(rw[fE];exact .lit _)
 |succ n ih=>
  have hL:∀{cs:List AV},cs.all (scD n)=wO->Kb (cs.map (cc.sub ρ)):=fun{cs} h=>by
   induction cs with
   |nil=>exact .nil
   |cons c cs ihc=>
    rw[List.all_cons,zf]at h
    exact .cons (ih h.1) (ihc h.2)
  intro d h
  cases d<;>first|(cases h;done)|(rw[bT];exact .lit _)|(rw[dW];exact .lit _)|(rw[fE];exact .lit _)|skip
  ·rw[eN];exact .agg (hL h)
  ·rw[kO];exact .jB (hL h)
def Qo{n:Nat}{ρ:Gh}:∀cs:List AV,cs.all (scD n)=wO->Kb (cs.map (cc.sub ρ))
 |[],_=> .nil
 |c::cs,h=>by
  rw[List.all_cons,zf]at h
  exact .cons (Wd n h.1) (Qo cs h.2)
def Out.scB(sc:Nat->Bool)(x:Out):Bool:=scD 4 x.d&&x.R.all fun q=>match q.2 with
 | .row t _=>sc t
 | .box _ cs=>cs.all (scD 3)
def aax{sc:Nat->Bool}(hsc:∀t,sc t=wO->∀x,Kb (U.cells t x)){x:Out}(h:x.scB sc=wO)(ρ:Gh):Cl (x.d.sub ρ)/\∀r∈aY.res ρ x.R,ClR r:=by
 unfold Out.scB at h
 rw[zf]at h
 refine⟨Wd 4 h.1,fun r hr=> ?_⟩
 obtain⟨q,hq,rfl⟩:=zL.1 hr
 have hb:=zo.1 h.2 q hq
 obtain⟨i,rr⟩:=q
 cases rr with
 |row t l=>exact ClR.row (hsc t hb)
 |box T cs=>
  exact ClR.box (Qo cs hb)
def Ru{α γ β:Type}(q:List AV->Option γ)(t:γ->Option β)(out:β->Out)(args:List AV)(R:aY)(nx:Nat)(k:AV->aY->Nat->Option α)(F:Option α):Option α:=
 match args.all (ayc 4)with
 |true=>match q args with
  |some g=>match t g with
   |some b=>k (mz (fun i=>i+nx) 4 (out b).d) ((out b).R.map (fun q=>(q.1+nx,Mr (fun i=>i+nx) q.2))++R) ((out b).c+nx)
   |none=>O
  |none=>F
 |false=>F
def orL{γ β:Type}(f0:Nat)(lb:Bool)(q:List AV->Option γ)(t:γ->Option β)(out:β->Out)(F:aK):aK:=fun _ f args R nx k=>match zb f f0 with
 |true=>Ru q t out (args.map (Gz lb (gx R) 3)) R nx k (F _ f args R nx k)
 |false=>F _ f args R nx k
def akG{P:Program}{F:aK}{γ β:Type}{f0:Nat}{lb:Bool}{q:List AV->Option γ}{ca:γ->List AV}{t:γ->Option β}{out:β->Out}{sc:Nat->Bool}(hF:iJ P F)(hsc:∀t,sc t=wO->∀x,Kb (U.cells t x))(hf:AZ P f0)(hq:Ko q ca)(hm:∀b,(out b).okB 0=wO)(hs:∀b,(out b).scB sc=wO)
  (h:∀g b,t g=V b->Tv P f0 (ca g) [] 0 (out b)):iJ P (orL f0 lb q t out F):=fun α f args R nx k r hr hargs hR=>by
 unfold orL at hr
 split at hr
 case h_2=>exact hF α f args R nx k r hr hargs hR
 rename_i hb
 have hb:=gA hb
 subst hb
 unfold Ru at hr
 split at hr
 case h_2=>exact hF α f args R nx k r hr hargs hR
 rename_i hcl
 split at hr
 case h_2=>exact hF α f args R nx k r hr hargs hR
 rename_i g hg
 split at hr
 case h_2=>cases hr
 rename_i b hb
 obtain⟨hqa,_⟩:=hq _ g hg
 have hok:=hm b
 unfold Out.okB at hok
 rw[zf,zf]at hok
 obtain⟨⟨_,ho1⟩,ho2⟩:=hok
 refine⟨hf,fun ρ=> ?_⟩
 have h1:Fn P f ((ca g).map (cc.sub ρ)) [] _:=h g b hb ρ
 have h2:=Fn.awS (args:=args.map (cc.sub ρ)) (σr:=aY.res ρ R) h1 (fun A w us hd hrel=>by
  refine hqa ρ _ w us ⟨by simpa using hrel.1,fun j a v q1 q2=> ?_⟩
  rw[yd,zY]at q1
  obtain⟨c,hc,rfl⟩:=zj.1 q1
  exact Uo hd 3 ((hrel.2 j _ v (by rw[zY,hc];rfl) q2).mono fun b _ hA=>⟨.inl hA,rfl⟩)) (fun av σo ⟨ρ',_,e1,e2⟩=>by
   obtain⟨c1,c2⟩:=aax hsc (hs b) ρ'
   subst e1
   exact⟨c1,fun r hr=>c2 r (e2.mem_iff.1 hr)⟩)
 have hlt:∀i,zB i (out b).c=wO->i+nx<(out b).c+nx:=fun i hi=>by rw[yu]at hi;omega
 refine Fn.mono h2 fun a s ⟨s',⟨ρ1,_,g1,g2⟩,g3⟩=> ?_
 let ρ2:Gh:=⟨fun i=>if i<nx then ρ.v i else ρ1.v (i-nx),fun i=>if i<nx then ρ.b i else ρ1.b (i-nx)⟩
 have hag:sk nx ρ ρ2:=fun i hi=>⟨by simp only[ρ2,bw hi],by simp only[ρ2,bw hi]⟩
 have hp:∀i,zB i (out b).c=wO->ρ2.v (i+nx)=ρ1.v i/\ρ2.b (i+nx)=ρ1.b i:=fun i _=>by
  have:¬i+nx<nx:=by omega
  exact⟨by simp only[ρ2,bF this,Nat.add_sub_cancel],by simp only[ρ2,bF this,Nat.add_sub_cancel]⟩
 have hres:aY.res ρ2 ((out b).R.map fun q=>(q.1+nx,Mr (fun i=>i+nx) q.2))=aY.res ρ1 (out b).R:=by
  unfold aY.res
  rw[yd]
  refine zV fun q hq=> ?_
  have hbq:=zo.1 ho2 q hq
  rw[zf]at hbq
  obtain⟨i,rr⟩:=q
  cases rr with
  |row t l=>show cH.row (ρ2.v (i+nx)) t l= .row (ρ1.v i) t l;rw[(hp i hbq.1).1]
  |box T cs=>
   show cH.box (ρ2.b (i+nx)) T ((cs.map (mz (fun i=>i+nx) 4)).map (cc.sub ρ2))= .box (ρ1.b i) T (cs.map (cc.sub ρ1))
   rw[(hp i hbq.1).2,yd]
   congr 1
   exact zV fun c hc=>jm hp 4 (zo.1 hbq.2 c hc)
 refine⟨_,_,_,hr,Nat.le_add_left _ _,lu hlt 4 ho1,fun q hq=> ?_,ρ2,hag,?_,?_⟩
 ·rcases zU.1 hq with hq|hq
  ·obtain⟨q',h4,rfl⟩:=zL.1 hq
   have hbq:=zo.1 ho2 q' h4
   rw[zf]at hbq
   refine⟨hlt _ hbq.1,?_⟩
   obtain⟨i,rr⟩:=q'
   cases rr with
   |row t l=>trivial
   |box T cs=>
    intro c hc
    obtain⟨c',h5,rfl⟩:=zL.1 hc
    exact lu hlt 4 (zo.1 hbq.2 c' h5)
  ·exact(hR.mono (Nat.le_add_left _ _)) q hq
 ·rw[g1];exact(jm hp 4 ho1).symm
 ·rw[g3,kK,hres,<-hR.res hag]
  exact g2.append_right _
def aR{P:Program}:bq P dg:=⟨anH,fun _ _ _ _ _ _ _ _=>rfl⟩
def abR{γ δ:Type}{f0 n0:Nat}{q:List AV->aY->Option γ}{t:γ->Option δ}{out:δ->Out}{F:aK}(hN:dY F):dY (orY f0 n0 q t out F):=fun α β f args R nx k D=>by
 unfold orY
 split
 ·unfold Zh Yf
  split
  ·split
   ·split<;>rfl
   ·exact hN ..
  ·exact hN ..
 ·exact hN ..
def abp{γ δ:Type}{f0:Nat}{lb:Bool}{q:List AV->Option γ}{t:γ->Option δ}{out:δ->Out}{F:aK}(hN:dY F):dY (orL f0 lb q t out F):=fun α β f args R nx k D=>by
 unfold orL
 split
 ·unfold Ru
  split
  ·split
   ·split<;>rfl
   ·exact hN ..
  ·exact hN ..
 ·exact hN ..
def ahV{P:Program}{F:aK}{γ β:Type}{f0 n0:Nat}{q:List AV->aY->Option γ}{ca:γ->List AV}{cr:γ->aY}{t:γ->Option β}{out:β->Out}(hF:bq P F)(hf:AZ P f0)(hq:QY q ca cr)(hm:∀b,(out b).okB n0=wO)
 (h:∀g b,t g=V b->Tv P f0 (ca g) (cr g) n0 (out b)):bq P (orY f0 n0 q t out F):=⟨aoV hF.ok hf hq hm h,abR hF.nat⟩
def apJ{P:Program}{F:aK}{γ β:Type}{f0:Nat}{lb:Bool}{q:List AV->Option γ}{ca:γ->List AV}{t:γ->Option β}{out:β->Out}{sc:Nat->Bool}(hF:bq P F)(hsc:∀t,sc t=wO->∀x,Kb (U.cells t x))(hf:AZ P f0)(hq:Ko q ca)(hm:∀b,(out b).okB 0=wO)(hs:∀b,(out b).scB sc=wO)
 (h:∀g b,t g=V b->Tv P f0 (ca g) [] 0 (out b)):bq P (orL f0 lb q t out F):=⟨akG hF.ok hsc hf hq hm hs h,abp hF.nat⟩
def bB{f:FuncId}:bh dg f:=fun _ _ _ _ _ _ h=>by cases h
def gP{γ β:Type}{f0:Nat}{lb:Bool}{q:List AV->Option γ}{t:γ->Option β}{out:β->Out}{F:aK}{f:FuncId}(h:bh F f)(hm:∀b,(out b).R=[]):bh (orL f0 lb q t out F) f:=fun args R nx d R' nx' hr=>by
 unfold orL at hr
 split at hr
 ·unfold Ru at hr
  split at hr
  ·split at hr
   ·split at hr
    ·rw[hm]at hr
     cases hr
     rfl
    ·cases hr
   ·exact h _ _ _ _ _ _ hr
  ·exact h _ _ _ _ _ _ hr
 ·exact h _ _ _ _ _ _ hr
def vq{γ β:Type}{f0:Nat}{lb:Bool}{q:List AV->Option γ}{t:γ->Option β}{out:β->Out}{F:aK}{f:FuncId}(hne:zb f f0=wN)(h:bh F f):bh (orL f0 lb q t out F) f:=fun args R nx d R' nx' hr=>by
 unfold orL at hr
 rw[hne]at hr
 exact h _ _ _ _ _ _ hr
def qF{γ β:Type}{f0 n0:Nat}{q:List AV->aY->Option γ}{t:γ->Option β}{out:β->Out}{F:aK}{f:FuncId}(hne:zb f f0=wN)(h:bh F f):bh (orY f0 n0 q t out F) f:=fun args R nx d R' nx' hr=>by
 unfold orY at hr
 rw[hne]at hr
 exact h _ _ _ _ _ _ hr
def cv{α:Type}(b:Bool)(x y:α):(bif b then some x else some y)=some (bif b then x else y):=by cases b<;>rfl
def cF{α:Type}(p:Prop)[Decidable p](x y:α):(if p then V x else V y)=V (if p then x else y):=by split<;>rfl
def nY{n0:Nat}{args:List AV}(h:args.all (l7 (fun i=>zB i n0) 4)=wO):∀d∈args,cM n0 d:=fun d hd=>(Cr 4 (zo.1 h d hd)).mono fun i hi=>by rw[yu]at hi;exact hi
def mc{n0:Nat}{R:aY}(h:R.all (fun q=>zB q.1 n0&&match q.2 with
  | .box _ cs=>cs.all (l7 (fun i=>zB i n0) 4)
  | .row _ _=>wO)=wO):aY.cM n0 R:=fun q hq=>by
 have hb:=zo.1 h q hq
 rw[zf,yu]at hb
 refine⟨hb.1,?_⟩
 obtain⟨i,rr⟩:=q
 cases rr with
 |row t l=>trivial
 |box T cs=>exact nY hb.2
def qy0{γ:Type}(q:List AV->Option γ)(xs:List AV)(R:aY):Option γ:=match R with
 |[]=>q xs
 |_=>O
def akK{γ:Type}{q:List AV->Option γ}{ca:γ->List AV}(h:Ko q ca):QY (qy0 q) ca (fun _=>[]):=fun xs R g hg=>by
 unfold qy0 at hg
 split at hg
 ·exact⟨(h xs g hg).1, .nil⟩
 ·cases hg
def qyR{γ δ:Type}(q:List AV->Option γ)(r:aY->Option δ)(xs:List AV)(R:aY):Option (γ×δ):=match q xs with
 |some g=>match r R with
  |some h=>V (g,h)
  |none=>O
 |none=>O
def alx{γ δ:Type}{q:List AV->Option γ}{ca:γ->List AV}{r:aY->Option δ}{cr:δ->aY}(hq:Ko q ca)(hr:Fj r cr):QY (qyR q r) (fun g=>ca g.1) (fun g=>cr g.2):=fun xs R g hg=>by
 unfold qyR at hg
 split at hg
 ·rename_i g' h1
  split at hg
  ·rename_i h' h2
   cases hg
   exact⟨(hq xs g' h1).1,hr R h' h2⟩
  ·cases hg
 ·cases hg
open Classical in
def lim{β:Type}(m:Nat->Option β):Option β:=if h:∃b N,∀n,N<=n->m n=V b then V (Classical.choose h)else O
def cT{β:Type}{m:Nat->Option β}{b:β}(h:lim m=V b):∃n,m n=V b:=by
 unfold lim at h
 split at h
 ·rename_i hx
  cases h
  obtain⟨N,hN⟩:=Classical.choose_spec hx
  exact⟨N,hN N (zD _)⟩
 ·cases h
def eE{β:Type}{m:Nat->Option β}{b:β}(N:Nat)(h:∀n,N<=n->m n=V b):lim m=V b:=by
 have hx:∃b N,∀n,N<=n->m n=V b:=⟨b,N,h⟩
 unfold lim
 rw[dif_pos hx]
 obtain⟨M,hM⟩:=Classical.choose_spec hx
 have h1:=hM (max M N) (Nat.le_max_left _ _)
 rw[h (max M N) (Nat.le_max_right _ _)]at h1
 exact h1.symm
def RX{P:Program}{f:FuncId}{t:Nat}{x:Out}(h1:∀c,Tv P f [.lit (.slice O 0 c)] [] 0 x)(h2:∀a c,Tv P f [.lit (.slice (V a) 0 c)] [] 0 x):Tv P f [.sl t []] [] 0 x:=fun ρ w A vs hr hd hn=>by
 have hr':bK A w [(cc.sl t []:AV).sub ρ] vs:=hr
 obtain⟨v,us,rfl,h3,h4⟩:=hr'.head
 rw[gE]at h3
 obtain⟨p,c,g,hv,_⟩:=h3.vP
 have hz:us=[]:=yZ (by simpa using h4.1)
 subst hz hv
 cases p with
 |none=>exact h1 c ρ w A _ (bK.cons (by rw[bT];exact .lit _) bK.nil) hd hn
 |some a=>exact h2 a c ρ w A _ (bK.cons (by rw[bT];exact .lit _) bK.nil) hd hn
def azk:AV->Bool
 | .lit _=>wO
 |_=>wN
def Qv:∀(cs:List AV),cs.all azk=wO->Kb cs
 |[],_=> .nil
 |c::cs,h=>by
  rw[List.all_cons,zf]at h
  refine .cons ?_ (Qv cs h.2)
  cases c<;>first|(cases h.1;done)|exact .lit _
end Go.Iv
end
noncomputable section
set_option maxRecDepth 100000
namespace Go.Proofs.YtnfljbehcffmcaaGreat
open Go Go.Iv
open Go.IntKind (i64 u64)
def scK:Ky->Bool
 | .k3=>wO
 | .k4=>wO
 | .k5=>wO
 | .k34=>wO
 | .k37=>wO
 | .k129=>wO
 | .k131=>wO
 | .k256=>wO
 | .k260=>wO
 | .k331=>wO
 |_=>wN
def Cc(t:Nat):Bool:=scK (ky t)
def alz:(k:Ky)->scK k=wO->(x:DV k)->Kb (ob k x):=by
 intro k h x
 cases k<;>first|(cases h;done)|exact Qv _ rfl
def eW(t:Nat)(h:Cc t=wO)(x:uni.dw t):Kb (uni.cells t x):=alz (ky t) h x
end Go.Proofs.YtnfljbehcffmcaaGreat
end
noncomputable section
namespace Go.Iv
variable [U:sX] [L:nQ]
open Go Go.RowKit
section
variable {β γ δ:Type}
structure Rq (β:Type) where
 f:AV->Option β
 c:β->AV
 ok:PN f c
structure Rl (γ:Type) where
 q:List AV->Option γ
 c:γ->List AV
 ok:Ko q c
def aM:Rq Int:=⟨iK .i64,cc.n .i64, .i .i64⟩
def qi(k:IntKind):Rq Int:=⟨iK k,cc.n k, .i k⟩
def qb:Rq Bool:=⟨UA,cc.b, .b⟩
def qs:Rq ByteArray:=⟨asS,cc.s, .s⟩
def ql(t:Nat):Rq (List (U.dw t)):=⟨jS t,cc.sl t, .l t⟩
def qg(t:Nat):Rq (U.dw t):=⟨afD t,fun x=> .agg (U.cells t x), .g t⟩
def qp(i o:Nat):Rq Unit:=⟨asP i o,fun _=> .ptr i o, .p i o⟩
def qo(i:Nat):Rq Unit:=⟨asO i,fun _=> .own i, .o i⟩
def qn:Rq Unit:=⟨akA,fun _=> .lit (.slice O 0 0), .ns⟩
def qa(l:Rl γ):Rq γ:=⟨amn l.q,fun x=> .agg (l.c x), .ag l.ok⟩
def qf(k:Nat)(l:Rl γ):Rq γ:=⟨aj1 k l.q,fun x=> .fn (.func k) (l.c x), .ff k l.ok⟩
def qr(l:Rl γ):Rq γ:=⟨ana l.q,fun x=> .fp (l.c x), .fp l.ok⟩
def ln:Rl Unit:=⟨oY,fun _=>[], .nil⟩
def lc(a:Rq β)(l:Rl γ):Rl (β×γ):=⟨dM a.f l.q,fun x=>a.c x.1::l.c x.2, .cons a.ok l.ok⟩
abbrev aN(l:Rl γ):Rl (Int×γ):=lc aM l
def lg(t:Nat):Rl (U.dw t):=⟨alX t,fun x=>U.cells t x,Ko.parse t⟩
structure Re (γ:Type) where
 q:ET->Option γ
 d:γ->Env
 ok:Og q d
def en:Re Unit:=⟨slN,fun _=>[], .nil⟩
def ec(t:Nat)(a:Rq β)(l:Re γ):Re (β×γ):=⟨slC t a.f l.q,fun x=>(t,a.c x.1)::l.d x.2, .cons a.ok l.ok⟩
structure Rs (γ:Type) where
 q:aY->Option γ
 d:γ->aY
 ok:Fj q d
def sn:Rs Unit:=⟨rsN,fun _=>[], .nil⟩
def sr(i t:Nat)(l:Rs γ):Rs (List (U.dw t)×γ):=⟨rsR i t l.q,fun x=>(i, .row t x.1)::l.d x.2, .row l.ok⟩
def sb(i t:Nat)(a:Rl β)(l:Rs γ):Rs (β×γ):=⟨amg i t a.q l.q,fun x=>(i, .box t (a.c x.1))::l.d x.2, .ayA a.ok l.ok⟩
structure Td (n0:Nat) (γ:Type) where
 rd:St->Option γ
 pat:γ->St
 ok:∀n,sJ n0 n rd pat
def Td.r(n0 m:Nat)(e:Re β)(s:Rs δ)(mk:β×δ->γ)(un:γ->β×δ)(h:∀z,un (mk z)=z:=by exact fun _=>rfl):Td n0 γ:=
 ⟨rdM mk (stR m e.q s.q),fun x=>stP m e.d s.d (un x),fun _=>(amX e.ok s.ok).m mk fun z=>by rw[h]⟩
def Td.c{n0:Nat}(dr ts:List Nat)(d:Td n0 γ):Td n0 γ:=⟨rdC n0 dr ts d.rd,d.pat,fun n=>ajY (d.ok n)⟩
def Td.t{n0:Nat}{f:St->St}(h:cj f)(d:Td n0 γ):Td n0 γ:=⟨rdF f d.rd,d.pat,fun n=>alw h (d.ok n)⟩
def Td.lp{n0:Nat}(d:Td n0 γ)(a:γ->Option γ)(b:An):An:= .lp γ d.rd d.pat a b
end
def kz(P:Program)(f n0:Nat)(s:St):Out:=match (match E8 P f s with
  |some ds=>V (Out.mk (eT ds) (oF s.R n0 (eT ds)) s.nx)
  |none=>O)with
 |some o=>o
 |none=>⟨.jB [],[],0⟩
def aB{α:Type _}{Q:α->Prop}:∀p∈([]:List α),Q p:=fun p h=>by cases h
def ay{α:Type _}{Q:α->Prop}{a:α}{l:List α}(h:Q a)(t:∀p∈l,Q p):∀p∈a::l,Q p:=fun p hp=>(zy.1 hp).elim (fun e=>e▸h) (t p)
section
variable {P:Program} {F:aK} {f n0:Nat} {γ δ β:Type}
def HY(P:Program)(f n0:Nat)(a:Rl γ)(s:Rs δ)(d:Td n0 β)(t:γ×δ->Option β):Prop:=∀g b,t g=V b->Tv P f (a.c g.1) (s.d g.2) n0 (kz P f n0 (d.pat b))
def HL(P:Program)(f:Nat)(a:Rl γ)(d:Td 0 β)(t:γ->Option β):Prop:=∀g b,t g=V b->Tv P f (a.c g) [] 0 (kz P f 0 (d.pat b))
def R6(hF:bq P F){an:An}(fa:eG P F n0 300 f an){a:Rl γ}{s:Rs δ}{d:Td n0 β}{t:γ×δ->Option β}(ho:∀p,(match E8 P f (d.pat p)with
   |some ds=>V (Out.mk (eT ds) (oF (d.pat p).R n0 (eT ds)) (d.pat p).nx)
   |none=>O)=V (kz P f n0 (d.pat p)))
  (h1:∀g,(a.c g).all (l7 (fun i=>zB i n0) 4)=wO) (h2:∀g,(s.d g).all (fun q=>zB q.1 n0&&match q.2 with
  | .box _ cs=>cs.all (l7 (fun i=>zB i n0) 4)
  | .row _ _=>wO)=wO) (c:∀g,bU P F 300 an f (a.c g.1) (s.d g.2) n0 d.rd=t g):HY P f n0 a s d t:=
 fun g b hb=>(pH (p:=b) hF fa d.ok ho (nY (h1 g.1)) (mc (h2 g.2)) ((c g).trans hb)).2
def dG(hF:bq P F){an:An}(fa:eG P F 0 300 f an){a:Rl γ}{d:Td 0 β}{t:γ->Option β}(ho:∀p,(match E8 P f (d.pat p)with
   |some ds=>V (Out.mk (eT ds) (oF (d.pat p).R 0 (eT ds)) (d.pat p).nx)
   |none=>O)=V (kz P f 0 (d.pat p)))
  (h1:∀g,(a.c g).all (l7 (fun i=>zB i 0) 4)=wO) (c:∀g,bU P F 300 an f (a.c g) [] 0 d.rd=t g):HL P f a d t:=
 fun g b hb=>(pH (p:=b) hF fa d.ok ho (nY (h1 g)) (mc rfl) ((c g).trans hb)).2
def eY(P:Program)(f n0:Nat)(a:Rl γ)(s:Rs δ)(d:Td n0 β)(t:γ×δ->Option β)(F:aK):aK:=orY f n0 (qyR a.q s.q) t (fun x=>kz P f n0 (d.pat x)) F
def eZ(P:Program)(f:Nat)(a:Rl γ)(d:Td 0 β)(t:γ->Option β)(F:aK):aK:=orY f 0 (qy0 a.q) t (fun x=>kz P f 0 (d.pat x)) F
def eL(P:Program)(f:Nat)(lb:Bool)(a:Rl γ)(d:Td 0 β)(t:γ->Option β)(F:aK):aK:=orL f lb a.q t (fun x=>kz P f 0 (d.pat x)) F
def LK{a:Rl γ}{s:Rs δ}{d:Td n0 β}{t:γ×δ->Option β}(h:HY P f n0 a s d t)(hf:AZ P f)(h3:∀b,(kz P f n0 (d.pat b)).okB n0=wO)(hF:bq P F):bq P (eY P f n0 a s d t F):=
 ahV hF hf (alx a.ok s.ok) h3 h
def jj{a:Rl γ}{d:Td 0 β}{t:γ->Option β}(h:HL P f a d t)(hf:AZ P f)(h3:∀b,(kz P f 0 (d.pat b)).okB 0=wO)(hF:bq P F):bq P (eZ P f a d t F):=
 ahV hF hf (akK a.ok) h3 h
def gI{lb:Bool}{sc:Nat->Bool}(hsc:∀t,sc t=wO->∀x,Kb (U.cells t x)){a:Rl γ}{d:Td 0 β}{t:γ->Option β}(h:HL P f a d t)(hf:AZ P f)(h3:∀b,(kz P f 0 (d.pat b)).okB 0=wO)(h4:∀b,(kz P f 0 (d.pat b)).scB sc=wO)(hF:bq P F):bq P (eL P f lb a d t F):=
 apJ hF hsc hf a.ok h3 h4 h
end
end Go.Iv
end
noncomputable section
namespace Go.Proofs.YtnfljbehcffmcaaGreat
def lS:ByteArray:=ByteArray.mk #[0,1,2,2,3,3,3,3,4,4,4,4,4,4,4,4,5,5,5,5,5,5,5,5,5,5,5,5,5,5,5,5,6,6,6,6,6,6,6,6,6,6,6,6,6,6,6,6,6,6,6,6,6,6,6,6,6,6,6,6,6,6,6,6,7,7,7,7,7,7,7,7,7,7,7,7,7,7,7,7,7,7,7,7,7,7,7,7,7,7,7,7,7,7,7,7,7,7,7,7,7,7,7,7,7,7,7,7,7,7,7,7,7,7,7,7,7,7,7,7,7,7,7,7,7,7,7,7,8,8,8,8,8,8,8,8,8,8,8,8,8,8,8,8,8,8,8,8,8,8,8,8,8,8,8,8,8,8,8,8,8,8,8,8,8,8,8,8,8,8,8,8,8,8,8,8,8,8,8,8,8,8,8,8,8,8,8,8,8,8,8,8,8,8,8,8,8,8,8,8,8,8,8,8,8,8,8,8,8,8,8,8,8,8,8,8,8,8,8,8,8,8,8,8,8,8,8,8,8,8,8,8,8,8,8,8,8,8,8,8,8,8,8,8,8,8,8,8,8,8,8,8,8,8,8,8]
end Go.Proofs.YtnfljbehcffmcaaGreat
end
noncomputable section
set_option maxRecDepth 100000
namespace Go.Proofs.YtnfljbehcffmcaaGreat
open Go Go.Iv
open Go.IntKind (i64 u64)
def fy{p:Prop}{_:Decidable p}(h:¬p:=by omega):decide p=wN:=bO h
def sw{p:Prop}{_:Decidable p}(h:p:=by omega):decide p=wO:=bP h
def gC{p:Prop}{_:Decidable p}{α:Type _}{a b:α}(h:p:=by omega):(if p then a else b)=a:=bw h
def jC{p:Prop}{_:Decidable p}{α:Type _}{a b:α}(h:¬p:=by omega):(if p then a else b)=b:=bF h
abbrev EO(e:aK->aK):Prop:=∀{F:aK},bq wQ F->bq wQ (e F)
abbrev EP(e:aK->aK):Prop:=∀{F:aK} {f:Nat},bh F f->bh (e F) f
def kP{f:Nat}{lb:Bool}{γ β:Type}{a:Rl γ}{d:Td 0 β}{t:γ->Option β}{F:aK}{g:Nat}(h:bh F g)(hm:∀b,(kz wQ f 0 (d.pat b)).R=[]:=by intro _;kernel_rfl):bh (eL wQ f lb a d t F) g:=gP h hm
def aO{F:aK}{n0 nt:Nat}{c:Code}{β:Type}{b:An}{n:β->Option (Option β)}(d:Td n0 β)(h:∀p,oN wQ F nt 300 c b (Option β) (d.pat p) (kOn d.rd)=n p:=by intro _;kernel_rfl):S5 wQ F n0 nt 300 (c,d.lp (bI n) b):=⟨d.ok _,afd h⟩
def kL{f:Nat}{lb:Bool}{fn:Func}{F G:aK}{an:An}{γ β:Type}{a:Rl γ}{d:Td 0 β}{t:γ->Option β}{l:List (Code×An)}
  (hf:wQ.funcs[f]? =V fn) (hF:bq wQ F) (h:∀p∈l,S5 wQ F 0 fn.ntmps 300 p) (hG:bq wQ G)
  (hb:fn.body.isNone=wN:=by kernel_rfl) (ho:akT (IX fn) an=l:=by kernel_rfl)
  (h0:∀p,(match E8 wQ f (d.pat p)with
   |some ds=>V (Out.mk (eT ds) (oF (d.pat p).R 0 (eT ds)) (d.pat p).nx)
   |none=>O)=V (kz wQ f 0 (d.pat p)):=by intro _;kernel_rfl)
  (h1:∀g,(a.c g).all (l7 (fun i=>zB i 0) 4)=wO:=by intro _;kernel_rfl)
  (c:∀g,bU wQ F 300 an f (a.c g) [] 0 d.rd=t g:=by intro _;kernel_rfl)
  (h2:(fn.name=="runtime.NumGoroutine")=wN:=by kernel_rfl)
  (h3:∀b,(kz wQ f 0 (d.pat b)).okB 0=wO:=by intro _;kernel_rfl) (h4:∀b,(kz wQ f 0 (d.pat b)).scB Cc=wO:=by intro _;kernel_rfl):bq wQ (eL wQ f lb a d t G):=
 gI (sc:=Cc) eW (dG hF (bV hf (bG hb) ho h) (fun p=>by have:=h0 p;revert this;cases E8 wQ f (d.pat p)<;>exact id) h1 c) ⟨_,hf,h2,hb⟩ h3 h4 hG
abbrev asa:Type:=Int×Int
def d352:Td 0 asa:= .c [] [4,5] (.r 0 0 (ec 4 (qi .u64) (ec 5 (qi .u64) en)) sn (fun z=>(z.1.1,z.1.2.1)) (fun x=>((x.1,x.2,()),(()))))
def YI(a0:Int)(a1:Int):asa:=
 (IntKind.u64.wrap (IntKind.u64.wrap (IntKind.u64.wrap (cW IntKind.u64 a0 (32)*cW IntKind.u64 a1 (32))+cW IntKind.u64 (IntKind.u64.wrap (IntKind.u64.wrap (cW IntKind.u64 a0 (32)*uA IntKind.u64 a1 (4294967295))+cW IntKind.u64 (IntKind.u64.wrap (uA IntKind.u64 a0 (4294967295)*uA IntKind.u64 a1 (4294967295))) (32))) (32))+cW IntKind.u64 (IntKind.u64.wrap (uA IntKind.u64 (IntKind.u64.wrap (IntKind.u64.wrap (cW IntKind.u64 a0 (32)*uA IntKind.u64 a1 (4294967295))+cW IntKind.u64 (IntKind.u64.wrap (uA IntKind.u64 a0 (4294967295)*uA IntKind.u64 a1 (4294967295))) (32))) (4294967295)+IntKind.u64.wrap (uA IntKind.u64 a0 (4294967295)*cW IntKind.u64 a1 (32)))) (32)),IntKind.u64.wrap (a0*a1))
def awV:aK->aK:=eL wQ 352 wN (lc (qi .u64) (lc (qi .u64) ln)) d352 (fun g=>V (YI g.1 g.2.1))
def af8:EO awV:=fun h=>kL (an:= .no) func352 aR aB h
abbrev avj:Type:=Int
def d301:Td 0 avj:= .c [] [2] (.r 0 0 (ec 2 aM en) sn (fun z=>z.1.1) (fun x=>((x,()),(()))))
def ag2(a0:Int):Option avj:=
 bif wP (4294967296<=a0)then bif wP (65536<=cW IntKind.u64 a0 32)then bif wP (256<=cW IntKind.u64 (cW IntKind.u64 a0 32) 16)then if 0<=IntKind.u8.wrap (cW IntKind.u64 (cW IntKind.u64 (cW IntKind.u64 a0 ((32:Int))) ((16:Int))) ((8:Int)))/\IntKind.u8.wrap (cW IntKind.u64 (cW IntKind.u64 (cW IntKind.u64 a0 ((32:Int))) ((16:Int))) ((8:Int)))<256then V (i64.wrap (56+i64.wrap (cl lS (IntKind.u8.wrap (cW IntKind.u64 (cW IntKind.u64 (cW IntKind.u64 a0 32) 16) 8)).toNat)))else O else if 0<=IntKind.u8.wrap (cW IntKind.u64 (cW IntKind.u64 a0 ((32:Int))) ((16:Int)))/\IntKind.u8.wrap (cW IntKind.u64 (cW IntKind.u64 a0 ((32:Int))) ((16:Int)))<256then V (i64.wrap (48+i64.wrap (cl lS (IntKind.u8.wrap (cW IntKind.u64 (cW IntKind.u64 a0 32) 16)).toNat)))else O else bif wP (256<=cW IntKind.u64 a0 32)then if 0<=IntKind.u8.wrap (cW IntKind.u64 (cW IntKind.u64 a0 ((32:Int))) ((8:Int)))/\IntKind.u8.wrap (cW IntKind.u64 (cW IntKind.u64 a0 ((32:Int))) ((8:Int)))<256then V (i64.wrap (40+i64.wrap (cl lS (IntKind.u8.wrap (cW IntKind.u64 (cW IntKind.u64 a0 32) 8)).toNat)))else O else if 0<=IntKind.u8.wrap (cW IntKind.u64 a0 ((32:Int)))/\IntKind.u8.wrap (cW IntKind.u64 a0 ((32:Int)))<256then V (i64.wrap (32+i64.wrap (cl lS (IntKind.u8.wrap (cW IntKind.u64 a0 32)).toNat)))else O else bif wP (65536<=a0)then bif wP (256<=cW IntKind.u64 a0 16)then if 0<=IntKind.u8.wrap (cW IntKind.u64 (cW IntKind.u64 a0 ((16:Int))) ((8:Int)))/\IntKind.u8.wrap (cW IntKind.u64 (cW IntKind.u64 a0 ((16:Int))) ((8:Int)))<256then V (i64.wrap (24+i64.wrap (cl lS (IntKind.u8.wrap (cW IntKind.u64 (cW IntKind.u64 a0 16) 8)).toNat)))else O else if 0<=IntKind.u8.wrap (cW IntKind.u64 a0 ((16:Int)))/\IntKind.u8.wrap (cW IntKind.u64 a0 ((16:Int)))<256then V (i64.wrap (16+i64.wrap (cl lS (IntKind.u8.wrap (cW IntKind.u64 a0 16)).toNat)))else O else bif wP (256<=a0)then if 0<=IntKind.u8.wrap (cW IntKind.u64 a0 ((8:Int)))/\IntKind.u8.wrap (cW IntKind.u64 a0 ((8:Int)))<256then V (i64.wrap (8+i64.wrap (cl lS (IntKind.u8.wrap (cW IntKind.u64 a0 8)).toNat)))else O else if 0<=IntKind.u8.wrap a0/\IntKind.u8.wrap a0<256then V (i64.wrap (0+i64.wrap (cl lS (IntKind.u8.wrap a0).toNat)))else O
def ax6:aK->aK:=eL wQ 301 wN (lc (qi .u64) ln) d301 (fun g=>ag2 g.1)
def agi:EO ax6:=fun h=>kL (an:= .no) func301 aR aB h
abbrev aso:Type:=Int
def d358:Td 0 aso:= .c [] [2] (.r 0 0 (ec 2 aM en) sn (fun z=>z.1.1) (fun x=>((x,()),(()))))
def am2(a0:Int):Option aso:=
 match ag2 a0 with|O=>O|V r1=>V (i64.wrap (64-r1))
def asx:aK->aK:=eL wQ 358 wN (lc (qi .u64) ln) d358 (fun g=>am2 g.1)
def ad6:EO asx:=fun h=>kL (an:= .no) func358 (agi aR) aB h
def ar1:aK:=(asx dg)
structure kA where
 (t2 t8 t9 t10 t14 t15 t16 t17 t18:Int)
def O4:Td 0 kA:= .c [] [2,8,9,10,14,15,16,17,18] (.r 0 0 (ec 2 (qi .u64) (ec 8 (qi .u64) (ec 9 (qi .u64) (ec 10 (qi .u64) (ec 14 (qi .u64) (ec 15 (qi .u64) (ec 16 (qi .u64) (ec 17 (qi .u64) (ec 18 (qi .u64) en))))))))) sn (fun z=>⟨z.1.1,z.1.2.1,z.1.2.2.1,z.1.2.2.2.1,z.1.2.2.2.2.1,z.1.2.2.2.2.2.1,z.1.2.2.2.2.2.2.1,z.1.2.2.2.2.2.2.2.1,z.1.2.2.2.2.2.2.2.2.1⟩) (fun x=>((x.t2,x.t8,x.t9,x.t10,x.t14,x.t15,x.t16,x.t17,x.t18,()),(()))))
def AH(p:kA):Option (Option kA):=
 match bif wP (4294967296<=p.t18)then V (wO)else V (wP (IntKind.u64.wrap (IntKind.u64.wrap (4294967296*p.t16)+p.t14)<IntKind.u64.wrap (p.t18*p.t10)))with|O=>O|V r2=>bif r2 then bif wP (4294967296<=IntKind.u64.wrap (p.t16+p.t9))then V (O)else V (V (kA.mk p.t2 p.t8 p.t9 p.t10 p.t14 p.t15 (IntKind.u64.wrap (p.t16+p.t9)) p.t17 (IntKind.u64.wrap (p.t18-1))))else V (O)
def aaf:An:=(.two (.two (.rb [] 113) .no) .no)
def Ec:kA->Option kA:=bI (AH)
structure lF where
 (t2 t8 t9 t10 t11 t13 t14 t15 t16:Int)
def OT:Td 0 lF:= .c [] [2,8,9,10,11,13,14,15,16] (.r 0 0 (ec 2 (qi .u64) (ec 8 (qi .u64) (ec 9 (qi .u64) (ec 10 (qi .u64) (ec 11 (qi .u64) (ec 13 (qi .u64) (ec 14 (qi .u64) (ec 15 (qi .u64) (ec 16 (qi .u64) en))))))))) sn (fun z=>⟨z.1.1,z.1.2.1,z.1.2.2.1,z.1.2.2.2.1,z.1.2.2.2.2.1,z.1.2.2.2.2.2.1,z.1.2.2.2.2.2.2.1,z.1.2.2.2.2.2.2.2.1,z.1.2.2.2.2.2.2.2.2.1⟩) (fun x=>((x.t2,x.t8,x.t9,x.t10,x.t11,x.t13,x.t14,x.t15,x.t16,()),(()))))
def AM(p:lF):Option (Option lF):=
 match bif wP (4294967296<=p.t15)then V (wO)else V (wP (IntKind.u64.wrap (IntKind.u64.wrap (4294967296*p.t16)+p.t13)<IntKind.u64.wrap (p.t15*p.t10)))with|O=>O|V r1=>bif r1 then bif wP (4294967296<=IntKind.u64.wrap (p.t16+p.t9))then V (O)else V (V (lF.mk p.t2 p.t8 p.t9 p.t10 p.t11 p.t13 p.t14 (IntKind.u64.wrap (p.t15-1)) (IntKind.u64.wrap (p.t16+p.t9))))else V (O)
def Wx:An:=(.two (.two (.rb [] 78) .no) .no)
def ID:lF->Option lF:=bI (AM)
abbrev aug:Type:=Int×Int
def d357:Td 0 aug:= .c [] [6,7] (.r 0 0 (ec 6 (qi .u64) (ec 7 (qi .u64) en)) sn (fun z=>(z.1.1,z.1.2.1)) (fun x=>((x.1,x.2,()),(()))))
def aiM:∀f∈([]:List Nat),bh (ar1) f:=aB
def Y0(a0:Int)(a1:Int)(a2:Int):Option aug:=
 bif wP (a2=0)then O else bif wP (a2<=a0)then O else bif wP (a0=0)then if¬a2=0then if¬a2=0then V ((IntKind.u64.wrap (a1.tdiv a2),a1.tmod a2))else O else O else match am2 a2 with|O=>O|V r3=>if 0<=IntKind.u64.wrap r3 then if 0<=IntKind.u64.wrap r3 then if 0<=IntKind.u64.wrap ((64:Int)-IntKind.u64.wrap r3)then if 0<=IntKind.u64.wrap r3 then if¬cW IntKind.u64 (mO IntKind.u64 a2 (IntKind.u64.wrap r3)) ((32:Int))=0then match ID (lF.mk (mO IntKind.u64 a2 (IntKind.u64.wrap r3)) (IntKind.u64.wrap r3) (cW IntKind.u64 (mO IntKind.u64 a2 (IntKind.u64.wrap r3)) 32) (uA IntKind.u64 (mO IntKind.u64 a2 (IntKind.u64.wrap r3)) 4294967295) (bOr IntKind.u64 (mO IntKind.u64 a0 (IntKind.u64.wrap r3)) (cW IntKind.u64 a1 (IntKind.u64.wrap (64-IntKind.u64.wrap r3)))) (cW IntKind.u64 (mO IntKind.u64 a1 (IntKind.u64.wrap r3)) 32) (uA IntKind.u64 (mO IntKind.u64 a1 (IntKind.u64.wrap r3)) 4294967295) (IntKind.u64.wrap ((bOr IntKind.u64 (mO IntKind.u64 a0 (IntKind.u64.wrap r3)) (cW IntKind.u64 a1 (IntKind.u64.wrap (64-IntKind.u64.wrap r3)))).tdiv (cW IntKind.u64 (mO IntKind.u64 a2 (IntKind.u64.wrap r3)) 32))) (IntKind.u64.wrap (bOr IntKind.u64 (mO IntKind.u64 a0 (IntKind.u64.wrap r3)) (cW IntKind.u64 a1 (IntKind.u64.wrap (64-IntKind.u64.wrap r3)))-IntKind.u64.wrap (IntKind.u64.wrap ((bOr IntKind.u64 (mO IntKind.u64 a0 (IntKind.u64.wrap r3)) (cW IntKind.u64 a1 (IntKind.u64.wrap (64-IntKind.u64.wrap r3)))).tdiv (cW IntKind.u64 (mO IntKind.u64 a2 (IntKind.u64.wrap r3)) 32))*cW IntKind.u64 (mO IntKind.u64 a2 (IntKind.u64.wrap r3)) 32))))with|O=>O|V r4=>match bif wP (4294967296<=r4.t15)then V wO else V (wP (IntKind.u64.wrap (IntKind.u64.wrap (4294967296*r4.t16)+r4.t13)<IntKind.u64.wrap (r4.t15*r4.t10)))with|O=>O|V r5=>bif r5 then bif wP (4294967296<=IntKind.u64.wrap (r4.t16+r4.t9))then if¬r4.t9=0then match Ec (kA.mk r4.t2 r4.t8 r4.t9 r4.t10 r4.t14 (IntKind.u64.wrap (r4.t15-1)) (IntKind.u64.wrap (IntKind.u64.wrap (IntKind.u64.wrap (IntKind.u64.wrap (r4.t11*4294967296)+r4.t13)-IntKind.u64.wrap (IntKind.u64.wrap (r4.t15-1)*r4.t2))-IntKind.u64.wrap (IntKind.u64.wrap ((IntKind.u64.wrap (IntKind.u64.wrap (IntKind.u64.wrap (r4.t11*4294967296)+r4.t13)-IntKind.u64.wrap (IntKind.u64.wrap (r4.t15-1)*r4.t2))).tdiv r4.t9)*r4.t9))) (IntKind.u64.wrap (IntKind.u64.wrap (IntKind.u64.wrap (r4.t11*4294967296)+r4.t13)-IntKind.u64.wrap (IntKind.u64.wrap (r4.t15-1)*r4.t2))) (IntKind.u64.wrap ((IntKind.u64.wrap (IntKind.u64.wrap (IntKind.u64.wrap (r4.t11*4294967296)+r4.t13)-IntKind.u64.wrap (IntKind.u64.wrap (r4.t15-1)*r4.t2))).tdiv r4.t9)))with|O=>O|V r6=>match bif wP (4294967296<=r6.t18)then V wO else V (wP (IntKind.u64.wrap (IntKind.u64.wrap (4294967296*r6.t16)+r6.t14)<IntKind.u64.wrap (r6.t18*r6.t10)))with|O=>O|V r7=>bif r7 then bif wP (4294967296<=IntKind.u64.wrap (r6.t16+r6.t9))then if 0<=r6.t8 then V ((IntKind.u64.wrap (IntKind.u64.wrap (r6.t15*4294967296)+IntKind.u64.wrap (r6.t18-1)),cW IntKind.u64 (IntKind.u64.wrap (IntKind.u64.wrap (IntKind.u64.wrap (r6.t17*4294967296)+r6.t14)-IntKind.u64.wrap (IntKind.u64.wrap (r6.t18-1)*r6.t2))) r6.t8))else O else O else if 0<=r6.t8 then V ((IntKind.u64.wrap (IntKind.u64.wrap (r6.t15*4294967296)+r6.t18),cW IntKind.u64 (IntKind.u64.wrap (IntKind.u64.wrap (IntKind.u64.wrap (r6.t17*4294967296)+r6.t14)-IntKind.u64.wrap (r6.t18*r6.t2))) r6.t8))else O else O else O else if¬r4.t9=0then match Ec (kA.mk r4.t2 r4.t8 r4.t9 r4.t10 r4.t14 r4.t15 (IntKind.u64.wrap (IntKind.u64.wrap (IntKind.u64.wrap (IntKind.u64.wrap (r4.t11*4294967296)+r4.t13)-IntKind.u64.wrap (r4.t15*r4.t2))-IntKind.u64.wrap (IntKind.u64.wrap ((IntKind.u64.wrap (IntKind.u64.wrap (IntKind.u64.wrap (r4.t11*4294967296)+r4.t13)-IntKind.u64.wrap (r4.t15*r4.t2))).tdiv r4.t9)*r4.t9))) (IntKind.u64.wrap (IntKind.u64.wrap (IntKind.u64.wrap (r4.t11*4294967296)+r4.t13)-IntKind.u64.wrap (r4.t15*r4.t2))) (IntKind.u64.wrap ((IntKind.u64.wrap (IntKind.u64.wrap (IntKind.u64.wrap (r4.t11*4294967296)+r4.t13)-IntKind.u64.wrap (r4.t15*r4.t2))).tdiv r4.t9)))with|O=>O|V r8=>match bif wP (4294967296<=r8.t18)then V wO else V (wP (IntKind.u64.wrap (IntKind.u64.wrap (4294967296*r8.t16)+r8.t14)<IntKind.u64.wrap (r8.t18*r8.t10)))with|O=>O|V r9=>bif r9 then bif wP (4294967296<=IntKind.u64.wrap (r8.t16+r8.t9))then if 0<=r8.t8 then V ((IntKind.u64.wrap (IntKind.u64.wrap (r8.t15*4294967296)+IntKind.u64.wrap (r8.t18-1)),cW IntKind.u64 (IntKind.u64.wrap (IntKind.u64.wrap (IntKind.u64.wrap (r8.t17*4294967296)+r8.t14)-IntKind.u64.wrap (IntKind.u64.wrap (r8.t18-1)*r8.t2))) r8.t8))else O else O else if 0<=r8.t8 then V ((IntKind.u64.wrap (IntKind.u64.wrap (r8.t15*4294967296)+r8.t18),cW IntKind.u64 (IntKind.u64.wrap (IntKind.u64.wrap (IntKind.u64.wrap (r8.t17*4294967296)+r8.t14)-IntKind.u64.wrap (r8.t18*r8.t2))) r8.t8))else O else O else O else O else O else O else O
def ayy:aK->aK:=eL wQ 357 wN (lc (qi .u64) (lc (qi .u64) (lc (qi .u64) ln))) d357 (fun g=>Y0 g.1 g.2.1 g.2.2.1)
def afR:EO ayy:=fun h=>kL (F:=ar1) (an:=(noTwo (noTwo (noTwo (noTwo (noTwo (noTwo (noTwo (noTwo (noTwo (noTwo (noTwo (noTwo (noTwo (noTwo (.two (OT.lp ID Wx) (noTwo (noTwo (noTwo (.two (O4.lp Ec aaf) .no)))))))))))))))))))) (l:=[(bg f357 0,(OT.lp ID Wx)),(.skip,(.rb [] 78)),(bg f357 1,(O4.lp Ec aaf)),(.skip,(.rb [] 113))]) func357 (ad6 aR) (ay (aO OT) (ay aiM (ay (aO O4) (ay aiM aB)))) h
abbrev auH:Type:=Int
def d353:Td 0 auH:= .c [] [6] (.r 0 0 (ec 6 (qi .u64) en) sn (fun z=>z.1.1) (fun x=>((x,()),(()))))
def alu(a0:Int)(a1:Int)(a2:Int):Option auH:=
 if¬a2=0then match Y0 (a0.tmod a2) a1 a2 with|O=>O|V r1=>V (r1.snd)else O
def axD:aK->aK:=eL wQ 353 wN (lc (qi .u64) (lc (qi .u64) (lc (qi .u64) ln))) d353 (fun g=>alu g.1 g.2.1 g.2.2.1)
def afF:EO axD:=fun h=>kL (an:= .no) func353 (afR aR) aB h
abbrev atS:Type:=Int
def d340:Td 0 atS:= .c [] [6] (.r 0 0 (ec 6 aM en) sn (fun z=>z.1.1) (fun x=>((x,()),(()))))
def ac0(a0:Int)(a1:Int)(a2:Int):Option atS:=
 match alu (YI (IntKind.u64.wrap a0) (IntKind.u64.wrap a1)).fst (YI (IntKind.u64.wrap a0) (IntKind.u64.wrap a1)).snd (IntKind.u64.wrap a2)with|O=>O|V r1=>V (i64.wrap r1)
def avI:aK->aK:=eL wQ 340 wN (aN (aN (aN ln))) d340 (fun g=>ac0 g.1 g.2.1 g.2.2.1)
def ahA:EO avI:=fun h=>kL (an:= .no) func340 (afF (af8 aR)) aB h
end Go.Proofs.YtnfljbehcffmcaaGreat
end
