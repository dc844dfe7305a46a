/- Merged: Iv1, Iv2, Iv3, Iv4, Iv5, Iw1, Iw0, Iv6, Iw2, Iw3, Iv10, Ivc, Iw4, Iw5. -/
import Derived.OrdersHeld
import Derived.WalkKit
import Derived.KernelRfl
import Derived.Maps.AppendAt
import Derived.WalkLawsBesides
import Derived.Laws.Tables
import Derived.Laws.PanicsMore
import Derived.Great.BuildSlice
import Derived.Laws.MakeOwn
import Derived.Lib.SliceRun
import Derived.RangeFuncLeaves
import Derived.RangeFuncNested
import Derived.Laws.BytesArg
import Derived.Laws.StructEq
import Derived.Lib.AppendZerosOnto
open Int renaming toNat_natCast → za, natCast_mul → xh
open Nat renaming beq → zb, lt_succ_self → zn, blt → zq, le_refl → zx, le_trans → zy, add_mul → zZ, ble → ya, add_zero → yb, blt_eq → yl, le_succ → yo, mul_le_mul_right → yt, zero_add → yu, succ_mul → yE, eq_of_beq_eq_true → yX, mod_lt → y4, mul_one → y6, lt_of_lt_of_le → xH, add_assoc → xI, le_of_ble_eq_true → xO
open Bool renaming and_eq_true → ze, true → wE, false → wD
open Option renaming map_eq_some_iff → zf, bind_eq_some_iff → zi, some → zB, map_some → yg, toList_some → xm, toList → xp, some → O, none → wC
open List renaming mem_cons_self → zg, length_append → zh, replicate → zj, getElem?_eq_getElem → zl, all_eq_true → zm, mem_cons → zu, length_map → zA, mem_cons_of_mem → zC, mem_singleton → zD, take_length → zG, mem_map → zH, range → zJ, drop_drop → zK, mem_append → zP, map_congr_left → zQ, getElem?_eq_some_iff → zS, length_take → zU, map_cons → zV, getElem?_map → zX, map_append → zY, nil_append → z8, map_map → yc, append_nil → yd, length_drop → ye, getElem?_drop → ym, getElem?_take → yq, nodup_append → yy, mem_append_left → yz, mem_append_right → yA, length_set → yB, replicate_succ → yF, map_nil → yG, eq_nil_of_length_eq_zero → yR, append_assoc → yS, getElem?_append → yY, size_toArray → yZ, map_drop → y5, length_range → xb, filterMap_cons → xd, cons_append → xe, take_append_drop → xg, getElem_mem → xo, flatMap_cons → xq, drop_zero → xu, map_take → xw, take_zero → xx, drop_eq_getElem_cons → xJ, getElem_of_mem → xK, length_replicate → xL, mem_flatMap → xM, mem_of_mem_drop → xN, getElem?_eq_none → xW, length_cons → xX, flatten_cons → xY, getElem_drop → xZ, set_eq_take_append_cons_drop → wh, eraseIdx_eq_take_drop_succ → wj, mem_of_mem_take → wk
open Decidable renaming decide → wF
set_option linter.unusedSectionVars false
set_option linter.unusedVariables false
set_option linter.unusedSimpArgs false
noncomputable section
namespace Go.Iv
open Go Go.RowKit
inductive bP (cH:Nat->Type):Type
 |lit (v:Value)
 |sl (t:Nat) (l:List (cH t))
 |fp (cs:List (bP cH))
 |rp (v:Value) (k:Nat)
 |agg (cs:List (bP cH))
 |iA (vs:List (bP cH))
 |fn (f:Fn) (caps:List (bP cH))
 |own (id:Nat)
 |ptr (id off:Nat)
 |ra (id t m off:Nat)
class qT where
 cH:Nat->Type
 inh:(t:Nat)->Inhabited (cH t)
 sz:Nat->Nat
 cells:(t:Nat)->cH t->List (bP cH)
instance [U:qT] (t:Nat):Inhabited (U.cH t):=U.inh t
abbrev AV[U:qT]:Type:=bP U.cH
variable [U:qT]
def gd:Value->Option Nat
 | .slice (O a) _ (_+1)=>O a.block
 |_=>wC
def gy(w:World)(v:Value)(T:TypeId)(sz n:Nat)(us:List Value):Prop:=
 us.length=n*sz/\((∃p,v= .slice p 0 0/\n=0)\/
  ∃g cap cur,v= .slice (O ⟨g,0,wC⟩) n (cap+1)/\w.heap[g]? =O (.cells cur T (0,0))/\n<=cap+1/\cap+1<=maxLen/\cur.size=(cap+1)*sz/\cur.toList.take (n*sz)=us)
theorem gy.lt{w:World}{v:Value}{T:TypeId}{sz n:Nat}{us:List Value}(h:gy w v T sz n us){b:Nat}(hb:gd v=O b):b<w.heap.size:=by
 rcases h.2 with ⟨p,rfl,_⟩|⟨g,cap,cur,rfl,hg,_⟩
 ·cases p<;>cases hb
 ·cases hb
  exact(Array.getElem?_eq_some_iff.1 hg).1
theorem gy.kept{w w':World}{v:Value}{T:TypeId}{sz n:Nat}{us:List Value}(h:gy w v T sz n us)(hb:∀b,gd v=O b->w'.heap[b]? =w.heap[b]?):gy w' v T sz n us:=by
 refine⟨h.1,?_⟩
 rcases h.2 with h1|⟨g,cap,cur,rfl,q1,q2⟩
 ·exact .inl h1
 ·exact .inr ⟨g,cap,cur,rfl,(hb g rfl).trans q1,q2⟩
inductive Rel (A:Nat->Prop) (w:World):AV->Value->Prop
 |lit (v:Value):Rel A w (.lit v) v
 |sl (t:Nat) (l:List (U.cH t)) (p:Option Addr) (cap:Nat) (u:Nat->Nat->Value)
   (hl:l.length<=9223372036854775807) (hcap:l.length<=cap) (hz:∀i,i<l.length->(U.cells t l[i]!).length=U.sz t)
   (hc:∀i,i<l.length->∃b off,p=O ⟨b,off,wC⟩/\b<w.heap.size/\A b/\∀j,j<U.sz t->w.cell? ⟨b,off+i*U.sz t+j,wC⟩=O (u i j))
   (hr:∀i j a,i<l.length->(U.cells t l[i]!)[j]? =O a->Rel A w a (u i j)):Rel A w (.sl t l) (.slice p l.length cap)
 |fp (cs:List AV) (b o:Nat) (us:List Value) (hb:b<w.heap.size) (hA:A b) (hl:us.length=cs.length)
   (hc:∀j v,us[j]? =O v->w.cell? ⟨b,o+j,wC⟩=O v) (hr:∀(j:Nat) a v,cs[j]? =O a->us[j]? =O v->Rel A w a v):Rel A w (.fp cs) (.pointer (O ⟨b,o,wC⟩))
 |rp (v:Value) (k g:Nat) (h:gd v=O g):Rel A w (.rp v k) (.pointer (O ⟨g,k,wC⟩))
 |agg (cs:List AV) (us:List Value) (hl:us.length=cs.length) (hr:∀(j:Nat) a v,cs[j]? =O a->us[j]? =O v->Rel A w a v):Rel A w (.agg cs) (.agg us.toArray)
 |iA (cs:List AV) (us:List Value) (hl:us.length=cs.length) (hr:∀(j:Nat) a v,cs[j]? =O a->us[j]? =O v->Rel A w a v):Rel A w (.iA cs) (.tuple us.toArray)
 |fn (f:Fn) (cs:List AV) (us:List Value) (hl:us.length=cs.length) (hr:∀(j:Nat) a v,cs[j]? =O a->us[j]? =O v->Rel A w a v):Rel A w (.fn f cs) (.func f #[] us.toArray)
theorem Rel.mono{A A':Nat->Prop}{w w':World}{a:AV}{v:Value}(h:Rel A w a v)(hk:∀b,b<w.heap.size->A b->A' b/\w'.heap[b]? =w.heap[b]?):Rel A' w' a v:=by
 have hsz:∀b,b<w.heap.size->A b->b<w'.heap.size:=fun b hb hA=>by
  have h1:=(hk b hb hA).2
  rw[Array.getElem?_eq_getElem hb]at h1
  exact(Array.getElem?_eq_some_iff.1 h1).1
 have hcell:∀b o,b<w.heap.size->A b->w'.cell? ⟨b,o,wC⟩=w.cell? ⟨b,o,wC⟩:=fun b o hb hA=>by
  simp[World.cell?,(hk b hb hA).2]
 induction h with
 |lit v=>exact .lit v
 |sl t l p cap u hl hcap hz hc hr ih=>
  refine .sl t l p cap u hl hcap hz (fun i hi=> ?_) ih
  obtain⟨b,off,h1,h2,h3,h4⟩:=hc i hi
  exact⟨b,off,h1,hsz b h2 h3,(hk b h2 h3).1,fun j hj=>by rw[hcell b _ h2 h3];exact h4 j hj⟩
 |fp cs b o us hb hA hl hc hr ih=>exact .fp cs b o us (hsz b hb hA) (hk b hb hA).1 hl (fun j v hj=>by rw[hcell b _ hb hA];exact hc j v hj) ih
 |rp v k g h=>exact .rp v k g h
 |agg cs us hl hr ih=>exact .agg cs us hl ih
 |iA cs us hl hr ih=>exact .iA cs us hl ih
 |fn f cs us hl hr ih=>exact .fn f cs us hl ih
def bq(A:Nat->Prop)(w:World)(as0:List AV)(us:List Value):Prop:=us.length=as0.length/\∀(j:Nat) a v,as0[j]? =O a->us[j]? =O v->Rel A w a v
theorem bq.mono{A A':Nat->Prop}{w w':World}{as0:List AV}{us:List Value}(h:bq A w as0 us)(hk:∀b,b<w.heap.size->A b->A' b/\w'.heap[b]? =w.heap[b]?):bq A' w' as0 us:=⟨h.1,fun j a v h1 h2=>(h.2 j a v h1 h2).mono hk⟩
theorem Rel.cg{A:Nat->Prop}{w:World}{u v:Value}(h:Rel A w (.lit u) v):v=u:=by
 generalize ha:bP.lit u=a at h
 cases h with
 |lit v=>cases ha;rfl
 |_=>cases ha
def Blk(w:World)(b:Nat)(cs:Array Value)(T:TypeId):Prop:=w.heap[b]? =O (.cells cs T (0,0))
theorem Blk.lt{w:World}{b:Nat}{cs:Array Value}{T:TypeId}(h:Blk w b cs T):b<w.heap.size:=(Array.getElem?_eq_some_iff.1 h).1
theorem Blk.cell{w:World}{b:Nat}{cs:Array Value}{T:TypeId}(h:Blk w b cs T){i:Nat}{v:Value}(hv:cs[i]? =O v):w.cell? ⟨b,i,wC⟩=O v:=by
 unfold Blk at h
 simp[World.cell?,h,hv]
inductive cc:Type
 |box (b:Nat) (T:TypeId) (cs:List AV)
 |row (v:Value) (t:Nat) (l:List (U.cH t))
def cc.blk:cc->Option Nat
 | .box b _ _=>O b
 | .row v _ _=>gd v
def cc.ok(A:Nat->Prop)(w:World):cc->Prop
 | .box b T cs=>∃us:List Value,Blk w b us.toArray T/\bq A w cs us
 | .row v t l=>∃us:List Value,gy w v t (U.sz t) l.length us/\(∀i,i<l.length->(U.cells t l[i]!).length=U.sz t)/\∀i,i<l.length->bq A w (U.cells t l[i]!) ((us.drop (i*U.sz t)).take (U.sz t))
def bh(σ:List cc):List Nat:=σ.filterMap cc.blk
theorem bD{σ:List cc}{b:Nat}:b∈bh σ↔∃r∈σ,r.blk=O b:=by simp[bh]
theorem cc.ok.lt{A:Nat->Prop}{w:World}{r:cc}(h:r.ok A w){b:Nat}(hb:r.blk=O b):b<w.heap.size:=by
 cases r with
 |box b' T cs=>obtain⟨us,h1,_⟩:=h;cases hb;exact h1.lt
 |row v t l=>obtain⟨us,h1,_⟩:=h;exact h1.lt hb
theorem cc.ok.mono{A A':Nat->Prop}{w w':World}{r:cc}(h:r.ok A w)(hk:∀b,b<w.heap.size->A b->A' b/\w'.heap[b]? =w.heap[b]?)(hb:∀b,r.blk=O b->w'.heap[b]? =w.heap[b]?):r.ok A' w':=by
 cases r with
 |box b T cs=>
  obtain⟨us,h1,h2⟩:=h
  exact⟨us,(hb b rfl).trans h1,h2.mono hk⟩
 |row v t l=>
  obtain⟨us,h1,h2,h3⟩:=h
  exact⟨us,h1.kept hb,h2,fun i h4=>(h3 i h4).mono hk⟩
structure Kp (X:List Nat) (w w':World):Prop where
 os:w'.os=w.os
 tape:w'.tape=w.tape
 output:w'.output=w.output
 size:w.heap.size<=w'.heap.size
 block:∀k,k<w.heap.size->k∉X->w'.heap[k]? =w.heap[k]?
theorem Kp.refl(X:List Nat)(w:World):Kp X w w:=⟨rfl,rfl,rfl,zx _,fun _ _ _=>rfl⟩
theorem Kp.trans{X Y:List Nat}{w w1 w2:World}(h:Kp X w w1)(h':Kp Y w1 w2)(hY:∀b,b∈Y->b<w.heap.size->b∈X):Kp X w w2:=
 ⟨h'.os.trans h.os,h'.tape.trans h.tape,h'.output.trans h.output,zy h.size h'.size,fun k hk hX=>
  (h'.block k (xH hk h.size) (fun hy=>hX (hY k hy hk))).trans (h.block k hk hX)⟩
theorem Kp.drew(w:World):Kp [] w w.drew:=⟨rfl,rfl,rfl,zx _,fun _ _ _=>rfl⟩
theorem Kp.below{w w':World}(h:Kp [] w w'):Below w.heap.size w w':=⟨h.os,h.tape,h.output,h.size,fun k hk=>h.block k hk (by simp)⟩
structure Cx where
 w0:World
 A0:Nat->Prop
 O0:List Nat
def al(C:Cx)(σ:List cc)(b:Nat):Prop:=(C.A0 b\/b∈C.O0\/C.w0.heap.size<=b)/\b∉bh σ
structure Good (C:Cx) (σ:List cc) (w:World):Prop where
 kept:Kp C.O0 C.w0 w
 res:∀r∈σ,r.ok (al C σ) w
 DW:(bh σ).Nodup
 own:∀b∈bh σ,b∈C.O0\/C.w0.heap.size<=b
structure Tr (C:Cx) (X:List Nat) (σ:List cc) (w:World) (σ':List cc) (w':World):Prop where
 good:Good C σ' w'
 kp:Kp X w w'
 al:∀b,b<w.heap.size->al C σ b->al C σ' b/\b∉X
theorem Tr.keep{C:Cx}{X:List Nat}{σ σ':List cc}{w w':World}(t:Tr C X σ w σ' w'):∀b,b<w.heap.size->Iv.al C σ b->Iv.al C σ' b/\w'.heap[b]? =w.heap[b]? :=
 fun b hb h=>⟨(t.al b hb h).1,t.kp.block b hb (t.al b hb h).2⟩
abbrev Env:=List (Nat×AV)
def Env.get:Env->Nat->Option AV
 |[],_=>wC
 |(k,v)::E,t=>match zb k t with
  |true=>O v
  |false=>Env.get E t
def Env.ev(E:Env):Operand->Option AV
 | .tmp t=>Env.get E t
 | .const v=>O (.lit v)
 | .global g=>O (.lit (.pointer (O ⟨g,0,wC⟩)))
 | .func f=>O (.fn (.func f) [])
theorem Env.dN(E:Env)(d:Nat)(v:AV):Env.get ((d,v)::E) d=O v:=by
 have h:zb d d=wE:=Nat.beq_refl d
 simp only[Env.get,h]
theorem Env.cV(E:Env){d t:Nat}(v:AV)(h:d≠t):Env.get ((d,v)::E) t=Env.get E t:=by
 have h':zb d t=wD:=by
  cases hb:zb d t with
  |false=>rfl
  |true=>exact absurd (yX hb) h
 simp only[Env.get,h']
def kj(A:Nat->Prop)(w:World)(E:Env)(tmps:Array Value):Prop:=∀t av,Env.get E t=O av->∃v,tmps[t]? =O v/\Rel A w av v
def Dq(C:Cx)(σ:List cc)(a:Act)(w:World):Prop:=∃Ds:List Nat,a.defers=Ds.map (fun D=>{target:= .collected D,args:=#[]})/\Ds.Nodup/\
 ∀D∈Ds,D<w.heap.size/\C.w0.heap.size<=D/\D∉bh σ/\w.heap[D]? =O (.deferred (O []))
theorem Dq.nil{C:Cx}{σ:List cc}{a:Act}{w:World}(h:a.defers=[]):Dq C σ a w:=⟨[],h,List.nodup_nil,fun _ h=>by cases h⟩
theorem Dq.step{C:Cx}{σ σ':List cc}{a:Act}{w w':World}(h:Dq C σ a w)(hk:∀b,b<w.heap.size->al C σ b->al C σ' b/\w'.heap[b]? =w.heap[b]?):Dq C σ' a w':=by
 obtain⟨Ds,h1,h2,h3⟩:=h
 refine⟨Ds,h1,h2,fun D hD=> ?_⟩
 obtain⟨q1,q2,q3,q4⟩:=h3 D hD
 obtain⟨p1,p2⟩:=hk D q1 ⟨.inr (.inr q2),q3⟩
 have p3:=p2.trans q4
 exact⟨(Array.getElem?_eq_some_iff.1 p3).1,q2,p1.2,p3⟩
structure sM (C:Cx) (n:Nat) (E:Env) (σ:List cc) (a:Act) (w:World):Prop where
 defers:Dq C σ a w
 size:a.tmps.size=n
 slots:kj (al C σ) w E a.tmps
 good:Good C σ w
def KQ(A:Nat->Prop)(w:World)(E:Env)(ρ:Operand->Value):Prop:=∀x u,E.ev x=O u->Rel A w u (ρ x)
section
variable {C:Cx} {n:Nat} {E E':Env} {σ σ':List cc} {a:Act} {w w':World} {x:Operand} {v:Value} {av:AV} {d:Nat} {A:Nat->Prop}
theorem kj.ops(h:kj A w E a.tmps):KQ A w E a.eval:=fun x u hx=>by
 cases x with
 |tmp t=>
  obtain⟨v,h1,h2⟩:=h t u hx
  simpa [Act.eval,h1]using h2
 |const u=>
  simp only[Env.ev,zB.injEq]at hx
  subst hx
  exact .lit _
 |global g=>
  simp only[Env.ev,zB.injEq]at hx
  subst hx
  exact .lit _
 |func f=>
  simp only[Env.ev,zB.injEq]at hx
  subst hx
  exact .fn _ [] [] rfl (fun j a v h=>by cases h)
theorem kj.put(h:kj A w E a.tmps)(hd:d<a.tmps.size)(hv:Rel A w av v):kj A w ((d,av)::E) (a.put (O d) v).tmps:=fun t u ht=>by
 by_cases hdt:d=t
 ·subst hdt
  rw[Env.dN]at ht
  cases ht
  exact⟨v,by simp[Act.put,hd],hv⟩
 ·rw[Env.cV _ _ hdt]at ht
  obtain⟨v',h1,h2⟩:=h t u ht
  exact⟨v',by simp[Act.put,Array.getElem?_setIfInBounds_ne hdt,h1],h2⟩
theorem sM.put(h:sM C n E σ a w)(hd:zq d n=wE)(hv:Rel (al C σ) w av v):sM C n ((d,av)::E) σ (a.put (O d) v) w:=
 ⟨h.defers,by simpa [Act.put]using h.size,h.slots.put (by rw[h.size];simpa [yl]using hd) hv,h.good⟩
theorem sM.tr{X:List Nat}(h:sM C n E σ a w)(t:Tr C X σ w σ' w'):sM C n E σ' a w':=
 ⟨h.defers.step t.keep,h.size,fun i u hi=>let ⟨v,h1,h2⟩:=h.slots i u hi;⟨v,h1,h2.mono t.keep⟩,t.good⟩
end
def Hd(A:Nat->Prop)(σ:List cc)(w:World):Prop:=(∀r∈σ,r.ok A w)/\∀b∈bh σ,¬A b
theorem Good.hd{C:Cx}{σ:List cc}{w:World}(h:Good C σ w):Hd (al C σ) σ w:=⟨h.res,fun _ hb hA=>hA.2 hb⟩
section
variable (P:Program) (E:Env) (σ:List cc) (o:Oper)
def Yp(av:AV):Prop:=∀(A:Nat->Prop) (w:World) (ρ:Operand->Value),Hd A σ w->KQ A w E ρ->
 ∃v,Rel A w av v/\∀w':World,(∀b,b<w.heap.size->(A b\/b∈bh σ)->w'.heap[b]? =w.heap[b]?)->(execOp ρ o).run P w'= .ok (.value v) w'
def Yv(C:Cx)(X:List Nat)(N:AV->List cc->Prop):Prop:=∀(w:World) (ρ:Operand->Value),Good C σ w->KQ (al C σ) w E ρ->
 ∃v w' av σ',N av σ'/\Tr C X σ w σ' w'/\(execOp ρ o).run P w= .ok (.value v) w'/\Rel (al C σ') w' av v
def Yu(C:Cx)(X:List Nat)(σ':List cc):Prop:=∀(w:World) (ρ:Operand->Value),Good C σ w->KQ (al C σ) w E ρ->
 ∃w',Tr C X σ w σ' w'/\(execOp ρ o).run P w= .ok .skip w'
def Yc(C:Cx)(X:List Nat)(N:AV->List cc->Prop):Prop:=∀(w:World) (ρ:Operand->Value),Good C σ w->KQ (al C σ) w E ρ->
 ∃f args,(execOp ρ o).run P w= .ok (.enter f args) w/\Calls P f args w fun e w'=>∃v av σ',e= .returned v/\N av σ'/\Tr C X σ w σ' w'/\Rel (al C σ') w' av v
def oE(ops:Array Oper):Option Bool:=
 match o.guard with
 |none=>O wE
 |some (j,want)=>match (ops[j]?).bind (·.dst)with
  |none=>wC
  |some t=>match Env.get E t with
   |some (.lit (.bool b))=>O (b==want)
   |some (.lit (.tuple _))=>O wD
   |_=>wC
end
theorem oE.spec{A:Nat->Prop}{w:World}{E:Env}{o:Oper}{ops:Array Oper}{tmps:Array Value}{b:Bool}(h:kj A w E tmps)(hw:oE E o ops=O b):Region.wanted o (yielded ops tmps)=b:=by
 unfold oE at hw
 unfold Region.wanted
 cases hg:o.guard with
 |none=>rw[hg]at hw;simpa using hw
 |some gw=>
  obtain⟨j,want⟩:=gw
  rw[hg]at hw
  simp only at hw ⊢
  cases ht:(ops[j]?).bind (·.dst)with
  |none=>rw[ht]at hw;cases hw
  |some t=>
   rw[ht]at hw
   simp only at hw
   cases he:Env.get E t with
   |none=>rw[he]at hw;cases hw
   |some u=>
    obtain⟨v,hv,hr⟩:=h t u he
    rw[he]at hw
    have hy:yielded ops tmps j=match v with| .bool b=>O b|_=>wC:=by
     unfold yielded
     rw[ht]
     simp only[Option.bind_some,hv]
     cases v<;>rfl
    cases u with
    |lit u=>
     have hvu:=hr.cg
     subst hvu
     cases v<;>simp only at hw hy<;>first|(cases hw;done)|skip
     ·rw[hy];simpa using hw
     ·rw[hy];simp at hw;simp[<-hw]
    |_=>cases hw
def Q1(C:Cx)(n:Nat)(K:Env->List cc->Prop)(ds:List Deferred):Exit->Act->World->Prop:=fun e a w=>e= .normal/\a.defers=ds/\∃E σ,sM C n E σ a w/\K E σ
section
variable {P:Program} {C:Cx} {n:Nat} {ops:Array Oper} {K:Env->List cc->Prop} {rest:List Oper} {E E':Env} {σ σ':List cc} {o:Oper} {av:AV} {d:Nat} {X:List Nat} {N:AV->List cc->Prop}
end
structure Bs (X:List Nat) (A1:Nat->Prop) (w1:World) (σS:List cc):Prop where
 hd:Hd A1 σS w1
 nA:∀b,A1 b->b∉X
 nS:∀b∈bh σS,b∉X
section
variable {P:Program} {C:Cx} {n:Nat} {ops:Array Oper} {X X':List Nat} {A1:Nat->Prop} {w1:World} {σS:List cc} {K:Env->List cc->Prop} {fuel:Nat} {listed:Array Bool} {i:Nat} {Eb E:Env} {σ σ':List cc} {o:Oper} {av:AV} {d:Nat} {N:AV->List cc->Prop}
end
def CW(P:Program)(C:Cx)(n:Nat)(c:Code)(Q:Exit->Env->List cc->Prop)(E:Env)(σ:List cc):Prop:=
 ∀a w,sM C n E σ a w->c.wp P (fun e a' w'=>∃E' σ',sM C n E' σ' a' w'/\Q e E' σ') a w
section
variable {P:Program} {C:Cx} {n:Nat} {c x y:Code} {Q Q':Exit->Env->List cc->Prop} {E E':Env} {σ σ':List cc}
theorem PJ{a:Act}{w:World}{Xv:Operand}{b:Bool}(ha:sM C n E σ a w)(hc:E.ev Xv=O (.lit (.bool b))):a.eval Xv= .bool b:=by
 exact(ha.slots.ops _ _ hc).cg
theorem Good.drew{w:World}(h:Good C σ w):Good C σ w.drew:=
 ⟨h.kept.trans (Kp.drew w) (by simp),fun r hr=>(h.res r hr).mono (fun b _ hA=>⟨hA,rfl⟩) (fun _ _=>rfl),h.DW,h.own⟩
theorem sM.drew{a:Act}{w:World}(h:sM C n E σ a w):sM C n E σ a w.drew:=
 ⟨h.defers,h.size,fun i u hi=>let ⟨v,h1,h2⟩:=h.slots i u hi;⟨v,h1,h2.mono fun _ _ hA=>⟨hA,rfl⟩⟩,h.good.drew⟩
theorem nZ{σ σ':List cc}(h:∀r∈σ',r∈σ):∀b∈bh σ',b∈bh σ:=fun b hb=>by
 obtain⟨r,h1,h2⟩:=bD.1 hb
 exact bD.2 ⟨r,h r h1,h2⟩
theorem sM.less{a:Act}{w:World}(h:sM C n E σ a w)(hs:List.Sublist σ' σ):sM C n E σ' a w:=by
 have hm:∀r∈σ',r∈σ:=fun r hr=>hs.subset hr
 have hal:∀b,al C σ b->al C σ' b:=fun b hb=>⟨hb.1,fun hx=>hb.2 (nZ hm b hx)⟩
 exact⟨h.defers.step (fun b _ hA=>⟨hal b hA,rfl⟩),h.size,fun i u hi=>let ⟨v,h1,h2⟩:=h.slots i u hi;⟨v,h1,h2.mono fun b _ hA=>⟨hal b hA,rfl⟩⟩,
  ⟨h.good.kept,fun r hr=>(h.good.res r (hm r hr)).mono (fun b _ hA=>⟨hal b hA,rfl⟩) (fun _ _=>rfl),h.good.DW.sublist (hs.filterMap _),fun b hb=>h.good.own b (nZ hm b hb)⟩⟩
theorem sM.perm{a:Act}{w:World}(h:sM C n E σ a w)(hp:List.Perm σ σ'):sM C n E σ' a w:=by
 have hb:∀b,b∈bh σ'↔b∈bh σ:=fun b=>(hp.filterMap _).symm.mem_iff
 have hal:∀b,al C σ b->al C σ' b:=fun b hA=>⟨hA.1,fun hx=>hA.2 ((hb b).1 hx)⟩
 exact⟨h.defers.step (fun b _ hA=>⟨hal b hA,rfl⟩),h.size,fun i u hi=>let ⟨v,h1,h2⟩:=h.slots i u hi;⟨v,h1,h2.mono fun b _ hA=>⟨hal b hA,rfl⟩⟩,
  ⟨h.good.kept,fun r hr=>(h.good.res r (hp.mem_iff.2 hr)).mono (fun b _ hA=>⟨hal b hA,rfl⟩) (fun _ _=>rfl),(hp.filterMap _).nodup_iff.1 h.good.DW,fun b hx=>h.good.own b ((hb b).1 hx)⟩⟩
end
end Go.Iv
end
noncomputable section
namespace Go.Iv
variable [U:qT]
open Go Go.RowKit
def sE(k:IntKind)(x y:Int):Int:=k.wrap ((BitVec.ofInt k.bits x&&&BitVec.ofInt k.bits y).toNat)
def Xz(k:IntKind)(x y:Int):Int:=k.wrap ((BitVec.ofInt k.bits x|||BitVec.ofInt k.bits y).toNat)
def ajs(k:IntKind)(x y:Int):Int:=k.wrap ((BitVec.ofInt k.bits x^^^BitVec.ofInt k.bits y).toNat)
def ahM(k:IntKind)(x y:Int):Int:=k.wrap ((BitVec.ofInt k.bits x&&& ~~~ BitVec.ofInt k.bits y).toNat)
def kQ(k:IntKind)(x y:Int):Int:=k.wrap (x*2^(min y.toNat k.bits))
def cw(k:IntKind)(x y:Int):Int:=x.fdiv (2^(min y.toNat k.bits))
abbrev bP.i{cH:Nat->Type}(n:Int):bP cH:= .lit (.int .i64 n)
abbrev bP.n{cH:Nat->Type}(k:IntKind)(n:Int):bP cH:= .lit (.int k n)
abbrev bP.b{cH:Nat->Type}(b:Bool):bP cH:= .lit (.bool b)
abbrev bP.s{cH:Nat->Type}(s:ByteArray):bP cH:= .lit (.string s)
section
variable {A:Nat->Prop} {w:World} {as0 bs:List AV} {us vs:List Value} {a:AV} {v:Value}
theorem bq.nil:bq A w [] []:=⟨rfl,fun j a v h=>by cases h⟩
theorem bq.cons(h:Rel A w a v)(hs:bq A w as0 us):bq A w (a::as0) (v::us):=by
 refine⟨by simp[hs.1],fun j x y h1 h2=> ?_⟩
 cases j with
 |zero=>simp at h1 h2;subst h1 h2;exact h
 |succ j=>exact hs.2 j x y (by simpa using h1) (by simpa using h2)
theorem bq.head(h:bq A w (a::as0) us):∃v us',us=v::us'/\Rel A w a v/\bq A w as0 us':=by
 match us,h with
 |[],h=>exact absurd h.1 (by simp)
 |v::us',h=>exact⟨v,us',rfl,h.2 0 a v rfl rfl,by simpa using h.1,fun j x y h1 h2=>h.2 (j+1) x y (by simpa using h1) (by simpa using h2)⟩
theorem bq.app(h:bq A w as0 us)(h':bq A w bs vs):bq A w (as0++bs) (us++vs):=by
 refine⟨by simp[h.1,h'.1],fun j x y h1 h2=> ?_⟩
 rw[yY]at h1 h2
 rw[h.1]at h2
 split at h1
 ·rw[if_pos (by assumption)]at h2;exact h.2 j x y h1 h2
 ·rw[if_neg (by assumption)]at h2;exact h'.2 _ x y h1 h2
theorem bq.take(n:Nat)(h:bq A w as0 us):bq A w (as0.take n) (us.take n):=by
 refine⟨by simp[h.1],fun j x y h1 h2=> ?_⟩
 rw[yq]at h1 h2
 split at h1
 ·rw[if_pos (by assumption)]at h2;exact h.2 j x y h1 h2
 ·cases h1
theorem bq.drop(n:Nat)(h:bq A w as0 us):bq A w (as0.drop n) (us.drop n):=by
 refine⟨by simp[h.1],fun j x y h1 h2=> ?_⟩
 rw[ym]at h1 h2
 exact h.2 _ x y h1 h2
theorem bq.get(h:bq A w as0 us){j:Nat}(hj:as0[j]? =O a):∃v,us[j]? =O v/\Rel A w a v:=by
 have hlt:j<us.length:=by rw[h.1];exact(zS.1 hj).1
 exact⟨us[j],zl hlt,h.2 j a _ hj (zl hlt)⟩
theorem bq.lits(us:List Value):bq A w (us.map .lit) us:=⟨by simp,fun j a v h1 h2=>by
 rw[zX,h2]at h1
 cases h1
 exact .lit v⟩
theorem Rel.nO{cs:List AV}(h:bq A w cs us):Rel A w (.agg cs) (.agg us.toArray):= .agg cs us h.1 h.2
theorem Rel.DJ{cs:List AV}(h:bq A w cs us):Rel A w (.iA cs) (.tuple us.toArray):= .iA cs us h.1 h.2
end
section
variable {A:Nat->Prop} {w:World} {v:Value} {cs:List AV}
theorem Rel.mX(h:Rel A w (.agg cs) v):∃us:List Value,v= .agg us.toArray/\bq A w cs us:=by
 generalize ha:bP.agg cs=a at h
 cases h with
 |agg cs us hl hr=>cases ha;exact⟨us,rfl,hl,hr⟩
 |_=>cases ha
theorem Rel.Nc(h:Rel A w (.iA cs) v):∃us:List Value,v= .tuple us.toArray/\bq A w cs us:=by
 generalize ha:bP.iA cs=a at h
 cases h with
 |iA cs us hl hr=>cases ha;exact⟨us,rfl,hl,hr⟩
 |_=>cases ha
theorem Rel.Vp{f:Fn}(h:Rel A w (.fn f cs) v):∃us:List Value,v= .func f #[] us.toArray/\bq A w cs us:=by
 generalize ha:bP.fn f cs=a at h
 cases h with
 |fn f cs us hl hr=>cases ha;exact⟨us,rfl,hl,hr⟩
 |_=>cases ha
theorem Rel.Cv(h:Rel A w (.fp cs) v):∃b o us,v= .pointer (O ⟨b,o,wC⟩)/\b<w.heap.size/\A b/\(∀(j:Nat) u,us[j]? =O u->w.cell? ⟨b,o+j,wC⟩=O u)/\bq A w cs us:=by
 generalize ha:bP.fp cs=a at h
 cases h with
 |fp cs b o us hb hA hl hc hr=>cases ha;exact⟨b,o,us,rfl,hb,hA,hc,hl,hr⟩
 |_=>cases ha
theorem Rel.Es{u:Value}{k:Nat}(h:Rel A w (.rp u k) v):∃g,gd u=O g/\v= .pointer (O ⟨g,k,wC⟩):=by
 generalize ha:bP.rp u k=a at h
 cases h with
 |rp u k g h=>cases ha;exact⟨g,h,rfl⟩
 |_=>cases ha
theorem Rel.tX{q:Nat}{l:List (U.cH q)}(h:Rel A w (.sl q l) v):∃p cap,∃u:Nat->Nat->Value,v= .slice p l.length cap/\l.length<=9223372036854775807/\l.length<=cap/\(∀i,i<l.length->(U.cells q l[i]!).length=(U.sz q))/\
  (∀i,i<l.length->∃b off,p=O ⟨b,off,wC⟩/\b<w.heap.size/\A b/\∀j,j<(U.sz q)->w.cell? ⟨b,off+i*(U.sz q)+j,wC⟩=O (u i j))/\∀i j a,i<l.length->(U.cells q l[i]!)[j]? =O a->Rel A w a (u i j):=by
 generalize ha:bP.sl q l=a at h
 cases h with
 |sl q l p cap u hl hcap hz hc hr=>
  cases ha
  exact⟨p,cap,u,rfl,hl,hcap,hz,hc,hr⟩
 |_=>cases ha
theorem Rel.auQ{q:Nat}{l:List (U.cH q)}{p:Option Addr}{n cap:Nat}(h:Rel A w (.sl q l) (.slice p n cap)){i:Nat}(hi:i<l.length):
  ∃b off us,p=O ⟨b,off,wC⟩/\b<w.heap.size/\A b/\us.length=(U.sz q)/\(∀(j:Nat) u,us[j]? =O u->w.cell? ⟨b,off+i*(U.sz q)+j,wC⟩=O u)/\bq A w (U.cells q l[i]!) us:=by
 obtain⟨p',cap',u,hv,_,_,h1,h2,h3⟩:=h.tX
 cases hv
 obtain⟨b,off,hp,hb,hA,hc⟩:=h2 i hi
 refine⟨b,off,(zJ (U.sz q)).map (u i),hp,hb,hA,by simp,fun j v hj=> ?_,by rw[zA,xb,h1 i hi],fun j a v ha hv=> ?_⟩
 ·rw[zX]at hj
  by_cases hlt:j<(U.sz q)
  ·rw[List.getElem?_range hlt]at hj
   cases hj
   exact hc j hlt
  ·rw[xW (by simpa using hlt)]at hj
   cases hj
 ·have hlt:j<(U.sz q):=by rw[<-h1 i hi];exact(zS.1 ha).1
  rw[zX,List.getElem?_range hlt]at hv
  cases hv
  exact h3 i j a hi ha
end
theorem gy.len{w:World}{v:Value}{T:TypeId}{sz n:Nat}{us:List Value}(h:gy w v T sz n us):∃p cap,v= .slice p n cap/\n<=cap:=by
 rcases h.2 with ⟨p,rfl,rfl⟩|⟨g,cap,cur,rfl,hg,h1,_⟩
 ·exact⟨p,0,rfl,zx _⟩
 ·exact⟨_,_,rfl,h1⟩
theorem gy.at{w:World}{v:Value}{T:TypeId}{sz n:Nat}{us:List Value}(h:gy w v T sz n us)(hn:0<n):∃g cap cur,v= .slice (O ⟨g,0,wC⟩) n (cap+1)/\gd v=O g/\Blk w g cur T/\n<=cap+1/\cap+1<=maxLen/\cur.size=(cap+1)*sz/\cur.toList.take (n*sz)=us:=by
 rcases h.2 with ⟨p,rfl,rfl⟩|⟨g,cap,cur,rfl,hg,h1⟩
 ·cases hn
 ·exact⟨g,cap,cur,rfl,rfl,hg,h1⟩
theorem gy.cells{w:World}{v:Value}{T:TypeId}{sz n:Nat}{us:List Value}(h:gy w v T sz n us){g:Nat}(hg:gd v=O g):∀(j:Nat) u,us[j]? =O u->w.cell? ⟨g,j,wC⟩=O u:=fun j u hj=>by
 rcases h.2 with ⟨p,rfl,rfl⟩|⟨g',cap,cur,rfl,q1,_,_,_,q2⟩
 ·cases p<;>cases hg
 ·cases hg
  rw[<-q2,yq]at hj
  split at hj
  ·exact Blk.cell q1 (by simpa using hj)
  ·cases hj
def Env.KJ(E:Env):List Operand->Option (List AV)
 |[]=>O []
 |x::xs=>match E.ev x,Env.KJ E xs with
  |some a,O as0=>O (a::as0)
  |_,_=>wC
theorem Env.Hq{A:Nat->Prop}{w:World}{E:Env}{ρ:Operand->Value}(h:KQ A w E ρ):∀{xs:List Operand} {as0:List AV},E.KJ xs=O as0->bq A w as0 (xs.map ρ)
 |[],as0,he=>by cases he;exact bq.nil
 |x::xs,as0,he=>by
  unfold Env.KJ at he
  cases h1:E.ev x with
  |none=>rw[h1]at he;cases he
  |some a=>
   cases h2:E.KJ xs with
   |none=>rw[h1,h2]at he;cases he
   |some as'=>
    rw[h1,h2]at he
    cases he
    exact bq.cons (h x a h1) (Env.Hq h h2)
section
variable {P:Program} {E:Env} {σ:List cc} {o:Oper} {T T' e:TypeId} {x y z:Operand} {av bv:AV} {v u:Value} {m n:Int} {b:Bool} {k:IntKind}
theorem Yp.lits(h:∀ρ:Operand->Value,(∀x u,E.ev x=O (.lit u)->ρ x=u)->∀w,(execOp ρ o).run P w= .ok (.value v) w):Yp P E σ o (.lit v):=fun A w ρ _ hρ=>
 ⟨v, .lit v,fun w' _=>h ρ (fun x u hx=>(hρ x _ hx).cg) w'⟩
theorem Yp.move(ho:o.op= .move x)(hx:E.ev x=O av):Yp P E σ o av:=fun A w ρ _ hρ=>
 ⟨ρ x,hρ _ _ hx,fun w' _=>by simp[execOp,ho]⟩
theorem Yp.assign(ho:o.op= .assign x)(hx:E.ev x=O av):Yp P E σ o av:=fun A w ρ _ hρ=>
 ⟨ρ x,hρ _ _ hx,fun w' _=>by simp[execOp,ho]⟩
theorem Yp.ao4(ho:o.op= .pick z x y)(hc:E.ev z=O (.b wE))(hx:E.ev x=O av):Yp P E σ o av:=fun A w ρ _ hρ=>
 ⟨ρ x,hρ _ _ hx,fun w' _=>by simp[execOp,ho,(hρ _ _ hc).cg,asBool]⟩
theorem Yp.aqu(ho:o.op= .pick z x y)(hc:E.ev z=O (.b wD))(hx:E.ev y=O av):Yp P E σ o av:=fun A w ρ _ hρ=>
 ⟨ρ y,hρ _ _ hx,fun w' _=>by simp[execOp,ho,(hρ _ _ hc).cg,asBool]⟩
theorem Yp.add(ho:o.op= .binOp .add T x y T')(hx:E.ev x=O (.n k m))(hy:E.ev y=O (.n k n)):Yp P E σ o (.n k (k.wrap (m+n))):=Yp.lits fun ρ hρ w=>by
 simp[execOp,ho,hρ _ _ hx,hρ _ _ hy,eqGuard,binOp,Op.intArith]
theorem Yp.sub(ho:o.op= .binOp .sub T x y T')(hx:E.ev x=O (.n k m))(hy:E.ev y=O (.n k n)):Yp P E σ o (.n k (k.wrap (m-n))):=Yp.lits fun ρ hρ w=>by
 simp[execOp,ho,hρ _ _ hx,hρ _ _ hy,eqGuard,binOp,Op.intArith]
theorem Yp.mul(ho:o.op= .binOp .mul T x y T')(hx:E.ev x=O (.n k m))(hy:E.ev y=O (.n k n)):Yp P E σ o (.n k (k.wrap (m*n))):=Yp.lits fun ρ hρ w=>by
 simp[execOp,ho,hρ _ _ hx,hρ _ _ hy,eqGuard,binOp,Op.intArith]
theorem Yp.quo(ho:o.op= .binOp .quo T x y T')(hx:E.ev x=O (.n k m))(hy:E.ev y=O (.n k n))(h:n≠0):Yp P E σ o (.n k (k.wrap (m.tdiv n))):=Yp.lits fun ρ hρ w=>by
 simp[execOp,ho,hρ _ _ hx,hρ _ _ hy,eqGuard,binOp,Op.intDiv,h]
theorem Yp.rem(ho:o.op= .binOp .rem T x y T')(hx:E.ev x=O (.n k m))(hy:E.ev y=O (.n k n))(h:n≠0):Yp P E σ o (.n k (m.tmod n)):=Yp.lits fun ρ hρ w=>by
 simp[execOp,ho,hρ _ _ hx,hρ _ _ hy,eqGuard,binOp,Op.intDiv,h]
theorem Yp.and(ho:o.op= .binOp .and T x y T')(hx:E.ev x=O (.n k m))(hy:E.ev y=O (.n k n)):Yp P E σ o (.n k (sE k m n)):=Yp.lits fun ρ hρ w=>by
 simp[execOp,ho,hρ _ _ hx,hρ _ _ hy,eqGuard,binOp,Op.intBits,sE]
theorem Yp.or(ho:o.op= .binOp .or T x y T')(hx:E.ev x=O (.n k m))(hy:E.ev y=O (.n k n)):Yp P E σ o (.n k (Xz k m n)):=Yp.lits fun ρ hρ w=>by
 simp[execOp,ho,hρ _ _ hx,hρ _ _ hy,eqGuard,binOp,Op.intBits,Xz]
theorem Yp.xor(ho:o.op= .binOp .xor T x y T')(hx:E.ev x=O (.n k m))(hy:E.ev y=O (.n k n)):Yp P E σ o (.n k (ajs k m n)):=Yp.lits fun ρ hρ w=>by
 simp[execOp,ho,hρ _ _ hx,hρ _ _ hy,eqGuard,binOp,Op.intBits,ajs]
theorem Yp.andNot(ho:o.op= .binOp .andNot T x y T')(hx:E.ev x=O (.n k m))(hy:E.ev y=O (.n k n)):Yp P E σ o (.n k (ahM k m n)):=Yp.lits fun ρ hρ w=>by
 simp[execOp,ho,hρ _ _ hx,hρ _ _ hy,eqGuard,binOp,Op.intBits,ahM]
theorem Yp.shl{k':IntKind}(ho:o.op= .binOp .shl T x y T')(hx:E.ev x=O (.n k m))(hy:E.ev y=O (.n k' n))(h:0<=n):Yp P E σ o (.n k (kQ k m n)):=Yp.lits fun ρ hρ w=>by
 have:¬n<0:=by omega
 simp[execOp,ho,hρ _ _ hx,hρ _ _ hy,eqGuard,binOp,Op.shift,kQ,this]
theorem Yp.shr{k':IntKind}(ho:o.op= .binOp .shr T x y T')(hx:E.ev x=O (.n k m))(hy:E.ev y=O (.n k' n))(h:0<=n):Yp P E σ o (.n k (cw k m n)):=Yp.lits fun ρ hρ w=>by
 have:¬n<0:=by omega
 simp[execOp,ho,hρ _ _ hx,hρ _ _ hy,eqGuard,binOp,Op.shift,cw,this]
theorem Yp.lss(ho:o.op= .binOp .lss T x y T')(hx:E.ev x=O (.n k m))(hy:E.ev y=O (.n k n)):Yp P E σ o (.b (wF (m<n))):=Yp.lits fun ρ hρ w=>by
 simp[execOp,ho,hρ _ _ hx,hρ _ _ hy,eqGuard,binOp,Op.intCmp]
theorem Yp.leq(ho:o.op= .binOp .leq T x y T')(hx:E.ev x=O (.n k m))(hy:E.ev y=O (.n k n)):Yp P E σ o (.b (wF (m<=n))):=Yp.lits fun ρ hρ w=>by
 simp[execOp,ho,hρ _ _ hx,hρ _ _ hy,eqGuard,binOp,Op.intCmp]
theorem Yp.gtr(ho:o.op= .binOp .gtr T x y T')(hx:E.ev x=O (.n k m))(hy:E.ev y=O (.n k n)):Yp P E σ o (.b (wF (n<m))):=Yp.lits fun ρ hρ w=>by
 simp[execOp,ho,hρ _ _ hx,hρ _ _ hy,eqGuard,binOp,Op.intCmp]
theorem Yp.geq(ho:o.op= .binOp .geq T x y T')(hx:E.ev x=O (.n k m))(hy:E.ev y=O (.n k n)):Yp P E σ o (.b (wF (n<=m))):=Yp.lits fun ρ hρ w=>by
 simp[execOp,ho,hρ _ _ hx,hρ _ _ hy,eqGuard,binOp,Op.intCmp]
theorem Yp.eql(ho:o.op= .binOp .eql T x y T')(hx:E.ev x=O (.n k m))(hy:E.ev y=O (.n k n)):Yp P E σ o (.b (wF (m=n))):=Yp.lits fun ρ hρ w=>by
 have:(m==n)=wF (m=n):=rfl
 simp[execOp,ho,hρ _ _ hx,hρ _ _ hy,eqGuard,binOp,Op.intCmp,this]
theorem Yp.neq(ho:o.op= .binOp .neq T x y T')(hx:E.ev x=O (.n k m))(hy:E.ev y=O (.n k n)):Yp P E σ o (.b (!wF (m=n))):=Yp.lits fun ρ hρ w=>by
 have:(m !=n)= !wF (m=n):=rfl
 simp[execOp,ho,hρ _ _ hx,hρ _ _ hy,eqGuard,binOp,Op.intCmp,this]
theorem Yp.not(ho:o.op= .unOp .not T x)(hx:E.ev x=O (.b b)):Yp P E σ o (.b (!b)):=Yp.lits fun ρ hρ w=>by
 simp[execOp,ho,hρ _ _ hx,Op.unary]
theorem Yp.neg(ho:o.op= .unOp .neg T x)(hx:E.ev x=O (.n k n)):Yp P E σ o (.n k (k.wrap (0-n))):=Yp.lits fun ρ hρ w=>by
 simp[execOp,ho,hρ _ _ hx,Op.unary,Op.intArith]
theorem Yp.max(ho:o.op= .call {callee:= .builtin .max,args:=#[x,y],argTypes:=#[T,T']})(hx:E.ev x=O (.n k m))(hy:E.ev y=O (.n k n)):Yp P E σ o (.n k (if m<n then n else m)):=Yp.lits fun ρ hρ w=>by
 simp[execOp,ho,resolve,invoke,builtin,Builtin.max_,Builtin.max2,hρ _ _ hx,hρ _ _ hy]
theorem Yp.min(ho:o.op= .call {callee:= .builtin .min,args:=#[x,y],argTypes:=#[T,T']})(hx:E.ev x=O (.n k m))(hy:E.ev y=O (.n k n)):Yp P E σ o (.n k (if n<m then n else m)):=Yp.lits fun ρ hρ w=>by
 simp[execOp,ho,resolve,invoke,builtin,Builtin.min_,Builtin.min2,hρ _ _ hx,hρ _ _ hy]
theorem Yp.aiE(ho:o.op= .call {callee:= .builtin .len,args:=#[x],argTypes:=#[T]})(hx:E.ev x=O (.lit (.slice wC 0 0)))(hT:P.underlying T=O (.slice e)):Yp P E σ o (.i 0):=Yp.lits fun ρ hρ w=>by
 simp[execOp,ho,resolve,invoke,builtin,Builtin.len_,hρ _ _ hx,run_underlying hT,goInt]
theorem Yp.amH{q:Nat}{l:List (U.cH q)}(ho:o.op= .call {callee:= .builtin .len,args:=#[x],argTypes:=#[T]})(hx:E.ev x=O (.sl q l))(hT:P.underlying T=O (.slice e)):Yp P E σ o (.i (l.length:Int)):=fun A w ρ _ hρ=>by
 obtain⟨p,cap,u,hv,_⟩:=(hρ _ _ hx).tX
 exact⟨_, .lit _,fun w' _=>by simp[execOp,ho,resolve,invoke,builtin,Builtin.len_,hv,run_underlying hT,goInt]⟩
theorem Yp.aje{q:Nat}{l:List (U.cH q)}(i:Nat)(ho:o.op= .call {callee:= .builtin .len,args:=#[x],argTypes:=#[T]})(hx:E.ev x=O (.lit v))(hσ:σ[i]? =O (.row v q l))(hT:P.underlying T=O (.slice e)):Yp P E σ o (.i (l.length:Int)):=fun A w ρ hd hρ=>by
 obtain⟨us,h1,_⟩:=hd.1 _ (List.mem_of_getElem? hσ)
 obtain⟨p,cap,hv,_⟩:=h1.len
 have hx':=(hρ _ _ hx).cg
 exact⟨_, .lit _,fun w' _=>by simp[execOp,ho,resolve,invoke,builtin,Builtin.len_,hx',hv,run_underlying hT,goInt]⟩
theorem Yp.aia{s:ByteArray}(ho:o.op= .call {callee:= .builtin .len,args:=#[x],argTypes:=#[T]})(hx:E.ev x=O (.s s))(hT:P.underlying T=O .string):Yp P E σ o (.i (s.size:Int)):=Yp.lits fun ρ hρ w=>by
 simp[execOp,ho,resolve,invoke,builtin,Builtin.len_,hρ _ _ hx,goInt,run_underlying hT]
theorem Yp.func{fn:Fn}{fs cs:Array Operand}{as0:List AV}(ho:o.op= .makeFunc fn fs cs)(h0:fs=#[])(hc:E.KJ cs.toList=O as0):Yp P E σ o (.fn fn as0):=fun A w ρ _ hρ=>by
 have h:=Env.Hq hρ hc
 exact⟨_, .fn fn as0 _ h.1 h.2,fun w' _=>by
  have:cs.map ρ=(cs.toList.map ρ).toArray:=by apply Array.ext';simp
  simp[execOp,ho,Instr.makeFunc,h0,this]⟩
theorem Yp.extract{i:Nat}{cs:List AV}(ho:o.op= .extract x i)(hx:E.ev x=O (.iA cs))(hv:cs[i]? =O av):Yp P E σ o av:=fun A w ρ _ hρ=>by
 obtain⟨us,h1,h2⟩:=(hρ _ _ hx).Nc
 obtain⟨v,h3,h4⟩:=h2.get hv
 exact⟨v,h4,fun w' _=>by simp[execOp,ho,Instr.extract,h1,h3]⟩
theorem Yp.Sj{a:Addr}(ho:o.op= .nilCheck x)(hx:E.ev x=O (.lit (.pointer (O a)))):Yp P E σ o (.lit (.pointer (O a))):=Yp.lits fun ρ hρ w=>by
 simp[execOp,ho,hρ _ _ hx]
theorem Yp.Sa{cs:List AV}(ho:o.op= .nilCheck x)(hx:E.ev x=O (.fp cs)):Yp P E σ o (.fp cs):=fun A w ρ _ hρ=>by
 obtain⟨b,of,us,h1,_⟩:=(hρ _ _ hx).Cv
 exact⟨ρ x,hρ _ _ hx,fun w' _=>by simp[execOp,ho,h1]⟩
theorem Yp.RX{k:Nat}(ho:o.op= .nilCheck x)(hx:E.ev x=O (.rp v k)):Yp P E σ o (.rp v k):=fun A w ρ _ hρ=>by
 obtain⟨g,_,h1⟩:=(hρ _ _ hx).Es
 exact⟨ρ x,hρ _ _ hx,fun w' _=>by simp[execOp,ho,h1]⟩
theorem nW(b of k:Nat):(⟨b,of,wC⟩:Addr).add k=⟨b,of+k,wC⟩:=by unfold Addr.add;split<;>simp_all
theorem Yp.ak2{fs:Array Field}{f:Field}{i b' of sz:Nat}(ho:o.op= .fieldAddr T x i)(hx:E.ev x=O (.lit (.pointer (O ⟨b',of,wC⟩))))(hT:P.underlying T=O (.struct fs))(hf:fs[i]? =O f)(hs:(P.info? f.type).map (·.size)=O (sz+1)):
  Yp P E σ o (.lit (.pointer (O ⟨b',of+f.offset,wC⟩))):=Yp.lits fun ρ hρ w=>by
 obtain⟨j,hj,hj'⟩:=zf.1 hs
 simp[execOp,ho,Instr.fieldAt,hρ _ _ hx,run_underlying hT,hf,Instr.sureAddr,fieldPlace,sizeOf,typeInfo,hj,hj',nW]
theorem Yp.akV{fs:Array Field}{f:Field}{i sz:Nat}{cs:List AV}(ho:o.op= .fieldAddr T x i)(hx:E.ev x=O (.fp cs))(hT:P.underlying T=O (.struct fs))(hf:fs[i]? =O f)(hs:(P.info? f.type).map (·.size)=O (sz+1)):
  Yp P E σ o (.fp (cs.drop f.offset)):=fun A w ρ _ hρ=>by
 obtain⟨j,hj,hj'⟩:=zf.1 hs
 obtain⟨b,of,us,h1,hb,hA,hc,hr⟩:=(hρ _ _ hx).Cv
 refine⟨_, .fp _ b (of+f.offset) (us.drop f.offset) hb hA (hr.drop _).1 (fun j v hj=> ?_) (hr.drop _).2,fun w' _=>by simp[execOp,ho,Instr.fieldAt,h1,run_underlying hT,hf,Instr.sureAddr,fieldPlace,sizeOf,typeInfo,hj,hj',nW]⟩
 rw[ym]at hj
 rw[xI]
 exact hc _ v hj
theorem Yp.ai9{fs:Array Field}{f:Field}{i sz k:Nat}(ho:o.op= .fieldAddr T x i)(hx:E.ev x=O (.rp v k))(hT:P.underlying T=O (.struct fs))(hf:fs[i]? =O f)(hs:(P.info? f.type).map (·.size)=O (sz+1)):
  Yp P E σ o (.rp v (k+f.offset)):=fun A w ρ _ hρ=>by
 obtain⟨j,hj,hj'⟩:=zf.1 hs
 obtain⟨g,h1,h2⟩:=(hρ _ _ hx).Es
 exact⟨_, .rp v _ g h1,fun w' _=>by simp[execOp,ho,Instr.fieldAt,h2,run_underlying hT,hf,Instr.sureAddr,fieldPlace,sizeOf,typeInfo,hj,hj',nW]⟩
theorem Yp.Z5{q:Nat}{l:List (U.cH q)}(ho:o.op= .indexAddr T x y)(hx:E.ev x=O (.sl q l))(hy:E.ev y=O (.n k m))(hT:P.underlying T=O (.slice e))(hs:(P.info? e).map (·.size)=O (U.sz q))
  (hm:0<=m/\m<l.length):Yp P E σ o (.fp (U.cells q l[m.toNat]!)):=fun A w ρ _ hρ=>by
 obtain⟨j,hj,hj'⟩:=zf.1 hs
 have hr:=hρ _ _ hx
 obtain⟨p,cap,_,hv,_⟩:=hr.tX
 rw[hv]at hr
 obtain⟨b,off,us,hp,hb,hA,hl,hc,hL⟩:=hr.auQ (i:=m.toNat) (by omega)
 refine⟨_, .fp _ b (off+m.toNat*(U.sz q)) us hb hA hL.1 hc hL.2,fun w' _=> ?_⟩
 have hy':=(hρ _ _ hy).cg
 simp[execOp,ho,Instr.indexAt,hv,hp,hy',run_underlying hT,sizeOf,typeInfo,hj,hj',nW,asIntOf,hm]
theorem Yp.W4{q:Nat}{l:List (U.cH q)}(i:Nat)(ho:o.op= .indexAddr T x y)(hx:E.ev x=O (.lit v))(hσ:σ[i]? =O (.row v q l))(hy:E.ev y=O (.n k m))(hT:P.underlying T=O (.slice e))(hs:(P.info? e).map (·.size)=O (U.sz q))
  (hm:0<=m/\m<l.length):Yp P E σ o (.rp v (m.toNat*(U.sz q))):=fun A w ρ hd hρ=>by
 obtain⟨j,hj,hj'⟩:=zf.1 hs
 obtain⟨us,h1,_⟩:=hd.1 _ (List.mem_of_getElem? hσ)
 obtain⟨g,cap,cur,hv,hg,_⟩:=h1.at (by omega)
 have hx':=(hρ _ _ hx).cg
 have hy':=(hρ _ _ hy).cg
 refine⟨_, .rp v _ g hg,fun w' _=> ?_⟩
 simp[execOp,ho,Instr.indexAt,hx',hv,hy',run_underlying hT,sizeOf,typeInfo,hj,hj',nW,asIntOf,hm]
theorem Yp.ahN{b' of sz n':Nat}(ho:o.op= .indexAddr T x y)(hx:E.ev x=O (.lit (.pointer (O ⟨b',of,wC⟩))))(hy:E.ev y=O (.n k m))(hT:P.underlying T=O (.array n' e))(hs:(P.info? e).map (·.size)=O sz)
  (hm:0<=m/\m<n'):Yp P E σ o (.lit (.pointer (O ⟨b',of+m.toNat*sz,wC⟩))):=Yp.lits fun ρ hρ w=>by
 obtain⟨j,hj,hj'⟩:=zf.1 hs
 simp[execOp,ho,Instr.indexAt,hρ _ _ hx,hρ _ _ hy,run_underlying hT,sizeOf,typeInfo,hj,hj',nW,asIntOf,hm,Instr.sureAddr]
theorem Yp.akg{k' sz n':Nat}(ho:o.op= .indexAddr T x y)(hx:E.ev x=O (.rp v k'))(hy:E.ev y=O (.n k m))(hT:P.underlying T=O (.array n' e))(hs:(P.info? e).map (·.size)=O sz)
  (hm:0<=m/\m<n'):Yp P E σ o (.rp v (k'+m.toNat*sz)):=fun A w ρ _ hρ=>by
 obtain⟨j,hj,hj'⟩:=zf.1 hs
 obtain⟨g,h1,h2⟩:=(hρ _ _ hx).Es
 have hy':=(hρ _ _ hy).cg
 exact⟨_, .rp v _ g h1,fun w' _=>by simp[execOp,ho,Instr.indexAt,h2,hy',run_underlying hT,sizeOf,typeInfo,hj,hj',nW,asIntOf,hm,Instr.sureAddr]⟩
theorem Yp.ag0{sz n':Nat}{cs:List AV}(ho:o.op= .indexAddr T x y)(hx:E.ev x=O (.fp cs))(hy:E.ev y=O (.n k m))(hT:P.underlying T=O (.array n' e))(hs:(P.info? e).map (·.size)=O sz)
  (hm:0<=m/\m<n'):Yp P E σ o (.fp (cs.drop (m.toNat*sz))):=fun A w ρ _ hρ=>by
 obtain⟨j,hj,hj'⟩:=zf.1 hs
 obtain⟨b,of,us,h1,hb,hA,hc,hr⟩:=(hρ _ _ hx).Cv
 have hy':=(hρ _ _ hy).cg
 refine⟨_, .fp _ b (of+m.toNat*sz) (us.drop (m.toNat*sz)) hb hA (hr.drop _).1 (fun j v hj=> ?_) (hr.drop _).2,fun w' _=>by simp[execOp,ho,Instr.indexAt,h1,hy',run_underlying hT,sizeOf,typeInfo,hj,hj',nW,asIntOf,hm,Instr.sureAddr]⟩
 rw[ym]at hj
 rw[xI]
 exact hc _ v hj
def qO(P:Program)(T:TypeId):Prop:=∃d,P.underlying T=O d/\match d with| .struct _| .array _ _=>False|_=>True
theorem lC(h:qO P T)(w:World):(isAgg T).run P w= .ok wD w:=by
 obtain⟨d,hd,hm⟩:=h
 unfold isAgg
 cases d<;>first|exact hm.elim|simp[run_underlying hd]
theorem gK{w:World}{a:Addr}(h:qO P T)(hc:w.cell? a=O v):(loadVar T a).run P w= .ok v w:=by
 unfold loadVar
 simp[lC h,load,Sem.run,hc]
def rW(P:Program)(T:TypeId)(k:Nat):Prop:=(∃d,P.underlying T=O d/\match d with| .struct _| .array _ _=>True|_=>False)/\(P.info? T).map (·.size)=O k
theorem BA{k:Nat}(h:rW P T k)(w:World):(isAgg T).run P w= .ok wE w:=by
 obtain⟨⟨d,hd,hm⟩,_⟩:=h
 unfold isAgg
 cases d<;>first|exact hm.elim|simp[run_underlying hd]
theorem run_loadCellsFrom{w:World}(a:Addr):∀(cs:List Value) (i:Nat) (acc:Array Value),(∀j u,cs[j]? =O u->w.cell? (a.add (i+j))=O u)->(loadCellsFrom a i cs.length acc).run P w= .ok (acc++cs.toArray) w
 |[],i,acc,_=>by simp[loadCellsFrom]
 |c::cs,i,acc,h=>by
  have h0:=h 0 c rfl
  rw[yb]at h0
  simp only[xX,loadCellsFrom]
  have ih:=run_loadCellsFrom a cs (i+1) (acc.push c) fun j u hj=>by
   have:=h (j+1) u (by simpa using hj)
   rwa [show i+(j+1)=i+1+j from by omega]at this
  simp[load,Sem.run,h0,ih]
theorem gu{w:World}{a:Addr}{cs:List Value}(h:rW P T cs.length)(hc:∀j u,cs[j]? =O u->w.cell? (a.add j)=O u):(loadVar T a).run P w= .ok (.agg cs.toArray) w:=by
 obtain⟨i,hi,hi'⟩:=zf.1 h.2
 have:=run_loadCellsFrom (P:=P) (w:=w) a cs 0 #[] (by simpa using hc)
 unfold loadVar
 simp[BA h,sizeOf,typeInfo,hi,hi',loadCells,this]
theorem jR{w w':World}{b o:Nat}(h:w'.heap[b]? =w.heap[b]?):w'.cell? ⟨b,o,wC⟩=w.cell? ⟨b,o,wC⟩:=by simp[World.cell?,h]
theorem Yp.ahF{cs:List AV}(ho:o.op= .load T x)(hx:E.ev x=O (.fp cs))(hT:qO P T)(ha:cs[0]? =O av):Yp P E σ o av:=fun A w ρ _ hρ=>by
 obtain⟨b,of,us,h1,hb,hA,hc,hr⟩:=(hρ _ _ hx).Cv
 obtain⟨v,h2,h3⟩:=hr.get ha
 refine⟨v,h3,fun w' hw=> ?_⟩
 have hcell:w'.cell? ⟨b,of,wC⟩=O v:=by rw[jR (hw b hb (.inl hA))];exact hc 0 v h2
 simp[execOp,ho,Instr.loadAt,h1,Instr.sureAddr,gK hT hcell]
theorem Yp.aiM{cs:List AV}{n:Nat}(ho:o.op= .load T x)(hx:E.ev x=O (.fp cs))(hT:rW P T n)(hn:n<=cs.length):Yp P E σ o (.agg (cs.take n)):=fun A w ρ _ hρ=>by
 obtain⟨b,of,us,h1,hb,hA,hc,hr⟩:=(hρ _ _ hx).Cv
 refine⟨_,Rel.nO (hr.take n),fun w' hw=> ?_⟩
 have hcell:∀j u,(us.take n)[j]? =O u->w'.cell? ((⟨b,of,wC⟩:Addr).add j)=O u:=fun j u hj=>by
  rw[nW,jR (hw b hb (.inl hA))]
  rw[yq]at hj
  split at hj
  ·exact hc j u hj
  ·cases hj
 have hl:(us.take n).length=n:=by rw[zU,hr.1];omega
 simp[execOp,ho,Instr.loadAt,h1,Instr.sureAddr,gu (by rw[hl];exact hT) hcell]
theorem Yp.aiv{b' of:Nat}{cs:List AV}{t:TypeId}(i:Nat)(ho:o.op= .load T x)(hx:E.ev x=O (.lit (.pointer (O ⟨b',of,wC⟩))))(hσ:σ[i]? =O (.box b' t cs))(hT:qO P T)(ha:cs[of]? =O av):Yp P E σ o av:=fun A w ρ hd hρ=>by
 have hm:=List.mem_of_getElem? hσ
 obtain⟨us,h1,hr⟩:=hd.1 _ hm
 obtain⟨v,h2,h3⟩:=bq.get hr ha
 have hx':=(hρ _ _ hx).cg
 refine⟨v,h3,fun w' hw=> ?_⟩
 have hcell:w'.cell? ⟨b',of,wC⟩=O v:=by rw[jR (hw b' h1.lt (.inr (bD.2 ⟨_,hm,rfl⟩)))];exact h1.cell (by simpa using h2)
 simp[execOp,ho,Instr.loadAt,hx',Instr.sureAddr,gK hT hcell]
theorem Yp.ak4{b' of n:Nat}{cs:List AV}{t:TypeId}(i:Nat)(ho:o.op= .load T x)(hx:E.ev x=O (.lit (.pointer (O ⟨b',of,wC⟩))))(hσ:σ[i]? =O (.box b' t cs))(hT:rW P T n)(hn:of+n<=cs.length):Yp P E σ o (.agg ((cs.drop of).take n)):=fun A w ρ hd hρ=>by
 have hm:=List.mem_of_getElem? hσ
 obtain⟨us,h1,hr⟩:=hd.1 _ hm
 have hx':=(hρ _ _ hx).cg
 refine⟨_,Rel.nO ((bq.drop of hr).take n),fun w' hw=> ?_⟩
 have hcell:∀j u,((us.drop of).take n)[j]? =O u->w'.cell? ((⟨b',of,wC⟩:Addr).add j)=O u:=fun j u hj=>by
  rw[nW,jR (hw b' h1.lt (.inr (bD.2 ⟨_,hm,rfl⟩)))]
  rw[yq]at hj
  split at hj
  ·rw[ym]at hj
   exact h1.cell (by simpa using hj)
  ·cases hj
 have hl:((us.drop of).take n).length=n:=by rw[zU,ye,hr.1];omega
 simp[execOp,ho,Instr.loadAt,hx',Instr.sureAddr,gu (by rw[hl];exact hT) hcell]
theorem Yp.Wj{k of:Nat}{q:Nat}{l:List (U.cH q)}(i m:Nat)(ho:o.op= .load T x)(hx:E.ev x=O (.rp v k))(hσ:σ[i]? =O (.row v q l))(hT:qO P T)(hk:k=m*(U.sz q)+of)(hm:m<l.length)(ha:(U.cells q l[m]!)[of]? =O av):Yp P E σ o av:=fun A w ρ hd hρ=>by
 have hmem:=List.mem_of_getElem? hσ
 obtain⟨us,h1,h2,h3⟩:=hd.1 _ hmem
 obtain⟨g,hg,hv⟩:=(hρ _ _ hx).Es
 obtain⟨u,h4,h5⟩:=(h3 m hm).get ha
 refine⟨u,h5,fun w' hw=> ?_⟩
 rw[yq]at h4
 split at h4
 ·rw[ym]at h4
  have hcell:w'.cell? ⟨g,k,wC⟩=O u:=by rw[jR (hw g (h1.lt hg) (.inr (bD.2 ⟨_,hmem,hg⟩))),hk];exact h1.cells hg _ u h4
  simp[execOp,ho,Instr.loadAt,hv,Instr.sureAddr,gK hT hcell]
 ·cases h4
theorem Yp.ahu{k of n:Nat}{q:Nat}{l:List (U.cH q)}(i m:Nat)(ho:o.op= .load T x)(hx:E.ev x=O (.rp v k))(hσ:σ[i]? =O (.row v q l))(hT:rW P T n)(hk:k=m*(U.sz q)+of)(hm:m<l.length)(hn:of+n<=(U.sz q)):Yp P E σ o (.agg (((U.cells q l[m]!).drop of).take n)):=fun A w ρ hd hρ=>by
 have hmem:=List.mem_of_getElem? hσ
 obtain⟨us,h1,h2,h3⟩:=hd.1 _ hmem
 obtain⟨g,hg,hv⟩:=(hρ _ _ hx).Es
 have hL:=h3 m hm
 refine⟨_,Rel.nO ((hL.drop of).take n),fun w' hw=> ?_⟩
 have hcell:∀j u,((((us.drop (m*(U.sz q))).take (U.sz q)).drop of).take n)[j]? =O u->w'.cell? ((⟨g,k,wC⟩:Addr).add j)=O u:=fun j u hj=>by
  rw[nW,jR (hw g (h1.lt hg) (.inr (bD.2 ⟨_,hmem,hg⟩))),hk]
  rw[yq]at hj
  split at hj
  ·rw[ym,yq]at hj
   split at hj
   ·rw[ym]at hj
    exact h1.cells hg _ u (by rw[xI];exact hj)
   ·cases hj
  ·cases hj
 have hl:((((us.drop (m*(U.sz q))).take (U.sz q)).drop of).take n).length=n:=by rw[zU,ye,hL.1,h2 m hm];omega
 simp[execOp,ho,Instr.loadAt,hv,Instr.sureAddr,gu (by rw[hl];exact hT) hcell]
end
theorem dV(r:cc)(σ:List cc):bh (r::σ)=r.blk.toList++bh σ:=by
 unfold bh
 rw[xd]
 cases r.blk<;>simp
theorem fZ(σ τ:List cc):bh (σ++τ)=bh σ++bh τ:=by simp[bh]
theorem oI{C:Cx}{σ:List cc}{w w':World}{r:cc}(h:Good C σ w)(hk:Kp [] w w')(hr:r.blk=wC\/r.blk=O w.heap.size)(hok:r.ok (al C (r::σ)) w'):Tr C [] σ w (r::σ) w':=by
 have hlt:∀b∈bh σ,b<w.heap.size:=fun b hb=>by
  obtain⟨s,h1,h2⟩:=bD.1 hb
  exact(h.res s h1).lt h2
 have hal:∀b,b<w.heap.size->al C σ b->al C (r::σ) b:=fun b hb hA=>⟨hA.1,fun hx=>by
  rw[dV]at hx
  rcases zP.1 hx with hx|hx
  ·rcases hr with hr|hr<;>rw[hr]at hx<;>simp at hx
   omega
  ·exact hA.2 hx⟩
 have hsame:∀b,b<w.heap.size->w'.heap[b]? =w.heap[b]? :=fun b hb=>hk.block b hb (by simp)
 refine⟨⟨h.kept.trans hk (by simp),fun s hs=> ?_,?_,fun b hb=> ?_⟩,hk,fun b hb hA=>⟨hal b hb hA,by simp⟩⟩
 ·rcases zu.1 hs with rfl|hs
  ·exact hok
  ·exact(h.res s hs).mono (fun b hb hA=>⟨hal b hb hA,hsame b hb⟩) (fun b hb=>hsame b ((h.res s hs).lt hb))
 ·rw[dV]
  rcases hr with hr|hr
  ·rw[hr];simpa using h.DW
  ·rw[hr]
   simp only[xm,xe,z8,List.nodup_cons]
   exact⟨fun hx=>by have:=hlt _ hx;omega,h.DW⟩
 ·rw[dV]at hb
  rcases zP.1 hb with hx|hx
  ·rcases hr with hr|hr<;>rw[hr]at hx<;>simp at hx
   exact .inr (by rw[hx];exact h.kept.size)
  ·exact h.own b hx
theorem vG{σ:List cc}{i:Nat}{r r':cc}(h:σ[i]? =O r):σ=σ.take i++r::σ.drop (i+1)/\σ.set i r'=σ.take i++r'::σ.drop (i+1):=by
 obtain⟨hi,hr⟩:=zS.1 h
 refine⟨?_,wh .. |>.trans (by rw[if_pos hi])⟩
 rw[<-hr,<-xJ hi,xg]
theorem Cq{σ:List cc}{i:Nat}{r r':cc}(h:σ[i]? =O r)(hb:r'.blk=r.blk):bh (σ.set i r')=bh σ:=by
 obtain⟨q1,q2⟩:=vG (r':=r') h
 have e:bh σ=bh (σ.take i++r::σ.drop (i+1)):=congrArg bh q1
 rw[q2,e]
 simp[fZ,dV,hb]
theorem Cm{C:Cx}{σ:List cc}{w w':World}{r r':cc}{i:Nat}(h:Good C σ w)(hi:σ[i]? =O r)(hk:Kp r.blk.toList w w')(hr:r'.blk=r.blk\/r'.blk=O w.heap.size)(hok:r'.ok (al C (σ.set i r')) w'):Tr C r.blk.toList σ w (σ.set i r') w':=by
 obtain⟨h1,h2⟩:=vG (r':=r') hi
 generalize σ.take i=σ1 at h1 h2
 generalize σ.drop (i+1)=σ2 at h1 h2
 rw[h2]at hok ⊢
 clear h2 hi
 subst h1
 have hlt:∀b∈bh (σ1++r::σ2),b<w.heap.size:=fun b hb=>by
  obtain⟨s,h1,h2⟩:=bD.1 hb
  exact(h.res s h1).lt h2
 have hb0:bh (σ1++r::σ2)=bh σ1++(r.blk.toList++bh σ2):=by rw[fZ,dV]
 have hb1:bh (σ1++r'::σ2)=bh σ1++(r'.blk.toList++bh σ2):=by rw[fZ,dV]
 have hmem:∀b,b∈bh (σ1++r'::σ2)->b∈bh (σ1++r::σ2)\/b=w.heap.size:=fun b hb=>by
  rw[hb1]at hb
  rw[hb0]
  simp only[zP]at hb ⊢
  rcases hb with hb|hb|hb
  ·exact .inl (.inl hb)
  ·rcases hr with hr|hr<;>rw[hr]at hb
   ·exact .inl (.inr (.inl hb))
   ·simp at hb;exact .inr hb
  ·exact .inl (.inr (.inr hb))
 have hal:∀b,b<w.heap.size->al C (σ1++r::σ2) b->al C (σ1++r'::σ2) b:=fun b hb hA=>⟨hA.1,fun hx=>by
  rcases hmem b hx with h|h
  ·exact hA.2 h
  ·omega⟩
 have hnr:∀b,al C (σ1++r::σ2) b->b∉r.blk.toList:=fun b hA hx=>hA.2 (by rw[hb0];simp[zP,hx])
 have hother:∀s,s∈σ1\/s∈σ2->∀b,s.blk=O b->b∉r.blk.toList:=fun s hs b hb hx=>by
  have hd:=h.DW
  rw[hb0]at hd
  rcases hs with hs|hs
  ·exact(yy.1 hd).2.2 b (bD.2 ⟨s,hs,hb⟩) b (yz _ hx) rfl
  ·exact(yy.1 (yy.1 hd).2.1).2.2 b hx b (bD.2 ⟨s,hs,hb⟩) rfl
 refine⟨⟨h.kept.trans hk (fun b hb hlt0=> ?_),fun s hs=> ?_,?_,fun b hb=> ?_⟩,hk,fun b hb hA=>⟨hal b hb hA,hnr b hA⟩⟩
 ·have:b∈bh (σ1++r::σ2):=by rw[hb0];simp[zP,hb]
  rcases h.own b this with h|h
  ·exact h
  ·omega
 ·have hs':s=r'\/s∈σ1\/s∈σ2:=by
   simp only[zP,zu]at hs
   rcases hs with h|h|h
   ·exact .inr (.inl h)
   ·exact .inl h
   ·exact .inr (.inr h)
  rcases hs' with rfl|hs'
  ·exact hok
  ·have hm:s∈σ1++r::σ2:=by rcases hs' with h|h<;>simp[h]
   exact(h.res s hm).mono (fun b hb hA=>⟨hal b hb hA,hk.block b hb (hnr b hA)⟩) (fun b hb=>hk.block b ((h.res s hm).lt hb) (hother s hs' b hb))
 ·have hd:=h.DW
  rcases hr with hr|hr
  ·rw[hb1,hr,<-hb0];exact hd
  ·rw[hb1,hr]
   rw[hb0]at hd
   have hn1:w.heap.size∉bh σ1:=fun hx=>by have:=hlt w.heap.size (by rw[hb0];simp[zP,hx]);omega
   have hn2:w.heap.size∉bh σ2:=fun hx=>by have:=hlt w.heap.size (by rw[hb0];simp[zP,hx]);omega
   obtain⟨d1,d2,d3⟩:=yy.1 hd
   obtain⟨d4,d5,d6⟩:=yy.1 d2
   refine yy.2 ⟨d1,?_,fun a ha b hb hab=> ?_⟩
   ·simp only[xm,xe,z8,List.nodup_cons]
    exact⟨hn2,d5⟩
   ·subst hab
    simp only[xm,xe,z8,zu]at hb
    rcases hb with rfl|hb
    ·exact hn1 ha
    ·exact d3 a ha a (yA _ hb) rfl
 ·rcases hmem b hb with h1|h1
  ·exact h.own b h1
  ·exact .inr (by rw[h1];exact h.kept.size)
theorem akO{C:Cx}{σ:List cc}{w:World}{r:cc}(h:r.blk=wC\/r.blk=O w.heap.size):∀b,b<w.heap.size->al C σ b->al C (r::σ) b:=fun b hb hA=>⟨hA.1,fun hx=>by
 rw[dV]at hx
 rcases zP.1 hx with hx|hx
 ·rcases h with h|h<;>rw[h]at hx<;>simp at hx
  omega
 ·exact hA.2 hx⟩
theorem je(w:World)(x:Obj):Kp [] w (w.alloc x):=⟨rfl,rfl,rfl,by simp,fun k hk _=>heap_alloc_old w x hk⟩
theorem Ev(w:World)(x:Obj):Kp [] w (w.drew.alloc x):=⟨rfl,rfl,rfl,by simp,fun k hk _=>heap_alloc_old w.drew x hk⟩
theorem Km{C:Cx}{σ:List cc}{w w':World}{r:cc}{as0:List AV}{us:List Value}(hr:bq (al C σ) w as0 us)(h:r.blk=wC\/r.blk=O w.heap.size)(hk:Kp [] w w'):bq (al C (r::σ)) w' as0 us:=
 hr.mono fun b hb hA=>⟨akO h b hb hA,hk.block b hb (by simp)⟩
def cW:AV->List AV
 | .agg cs=>cs
 |a=>[a]
def gz:AV->Bool
 | .lit v=>v.oneCell'
 | .iA _=>wD
 | .agg _=>wD
 |_=>wE
def Bk:AV->Bool
 | .agg cs=>cs.all gz
 |a=>gz a
theorem qW{v:Value}(h:v.oneCell'=true):v.cells=#[v]:=by cases v<;>first|rfl|cases h
theorem Rel.one{A:Nat->Prop}{w:World}{a:AV}{v:Value}(h:Rel A w a v)(h1:gz a=wE):v.oneCell'=wE:=by
 cases h with
 |lit v=>exact h1
 |agg=>cases h1
 |iA=>cases h1
 |_=>rfl
theorem bq.one{A:Nat->Prop}{w:World}{as0:List AV}{us:List Value}(h:bq A w as0 us)(h1:as0.all gz=wE):∀v∈us,v.oneCell'=wE:=fun v hv=>by
 obtain⟨j,hj,rfl⟩:=xK hv
 have hlt:j<as0.length:=by rw[<-h.1];exact hj
 exact(h.2 j as0[j] us[j] (zl hlt) (zl hj)).one (zm.1 h1 _ (xo hlt))
theorem Rel.cells{A:Nat->Prop}{w:World}{a:AV}{v:Value}(h:Rel A w a v)(h1:Bk a=wE):bq A w (cW a) v.cells.toList/\∀u∈v.cells.toList,u.oneCell'=wE:=by
 by_cases ha:∃cs,a= .agg cs
 ·obtain⟨cs,rfl⟩:=ha
  obtain⟨us,rfl,h2⟩:=h.mX
  exact⟨by simpa [Value.cells,cW]using h2,by simpa [Value.cells]using h2.one h1⟩
 ·have hc:gz a=wE:=by
   cases a<;>first|exact h1|(exact absurd ⟨_,rfl⟩ ha)
  have hac:cW a=[a]:=by
   cases a<;>first|rfl|(exact absurd ⟨_,rfl⟩ ha)
  have h2:=h.one hc
  rw[hac,qW h2]
  refine⟨⟨rfl,fun j x y hx hy=> ?_⟩,fun u hu=>by simp at hu;rw[hu];exact h2⟩
  cases j with
  |zero=>simp at hx hy;subst hx hy;exact h
  |succ j=>simp at hx
def Pw(σ:List cc)(a:AV):Prop:=∀(A:Nat->Prop) (w:World) (v:Value),Hd A σ w->Rel A w a v->bq A w (cW a) v.cells.toList/\∀u∈v.cells.toList,u.oneCell'=wE
theorem Ym{σ:List cc}{A:Nat->Prop}{w:World}{v:Value}{q:Nat}{l:List (U.cH q)}(i:Nat)(hσ:σ[i]? =O (.row v q l))(hd:Hd A σ w):v.oneCell'=wE:=by
 obtain⟨us,h1,_⟩:=hd.1 _ (List.mem_of_getElem? hσ)
 obtain⟨p,cap,rfl,_⟩:=h1.len
 rfl
section
variable {P:Program} {E:Env} {σ:List cc} {o:Oper} {T T' e:TypeId} {x y z:Operand} {av bv:AV} {v u:Value} {m n:Int} {b:Bool} {k:IntKind} {C:Cx} {X:List Nat}
theorem Yv.alloc{zs:List Value}(ho:o.op= .alloc T)(hz:(P.info? T).bind (fun i=>i.zero.map (·.cells))=O zs.toArray):Yv P E σ o C [] (fun a σ'=>∃b,a= .lit (.pointer (O ⟨b,0,wC⟩))/\σ'= .box b T (zs.map .lit)::σ):=fun w ρ hg _=>by
 obtain⟨i,h1,h2⟩:=zi.1 hz
 obtain⟨zv,h3,h4⟩:=zf.1 h2
 refine⟨_,w.alloc (.cells zs.toArray T),_,_,⟨w.heap.size,rfl,rfl⟩,oI hg (je w _) (.inr rfl) ⟨zs,heap_alloc_new w _,bq.lits _⟩,?_, .lit _⟩
 simp[execOp,ho,Instr.alloc,zeroValue,typeInfo,h1,h3,newVar,newRow,h4]
theorem Yv.box(ho:o.op= .box T x)(hx:E.ev x=O av)(h1:Pw σ av):Yv P E σ o C [] (fun a σ'=>∃b,a= .lit (.pointer (O ⟨b,0,wC⟩))/\σ'= .box b T (cW av)::σ):=fun w ρ hg hρ=>by
 have hr:=(h1 _ _ _ hg.hd (hρ _ _ hx)).1
 refine⟨_,w.alloc (.cells (ρ x).cells T),_,_,⟨w.heap.size,rfl,rfl⟩,oI hg (je w _) (.inr rfl) ⟨(ρ x).cells.toList,heap_alloc_new w _,Km hr (.inr rfl) (je w _)⟩,?_, .lit _⟩
 simp[execOp,ho,Instr.box,newVar,newRow]
theorem run_store{w:World}{g of:Nat}{cur:Array Value}{t:TypeId}{a:Value}{sz:Nat}(hs:(P.info? T).map (·.size)=O sz)(hb:Blk w g cur t)(hsz:a.cells.size=sz)(h1:∀u∈a.cells.toList,u.oneCell'=wE)(hlt:of+sz<=cur.size):
  (Instr.storeAt T (.pointer (O ⟨g,of,wC⟩)) a).run P w= .ok () (w.setRow g (cur.toList.take of++a.cells.toList++cur.toList.drop (of+sz)).toArray):=by
 obtain⟨j,hj,hj'⟩:=zf.1 hs
 have:=run_storeCells_at P g of t a.cells.toList 0 cur w hb (by rw[Array.length_toList,hsz];omega) h1
 rw[Array.length_toList,hsz,yb]at this
 simp only[Instr.storeAt,Instr.sureAddr,storeVar,Sem.run_bind,sizeOf,typeInfo]
 simp[hj,hj',hsz,this]
theorem me(w:World)(g:Nat)(cs:Array Value):Kp [g] w (w.setRow g cs):=⟨rfl,rfl,rfl,by simp,fun k _ hk=>setRow_other w g k _ (fun e=>hk (by simp[e]))⟩
theorem Yu.ald{g of sz:Nat}{cs:List AV}{t:TypeId}(i:Nat)(ho:o.op= .store T x y)(hx:E.ev x=O (.lit (.pointer (O ⟨g,of,wC⟩))))(hy:E.ev y=O av)(hσ:σ[i]? =O (.box g t cs))(hs:(P.info? T).map (·.size)=O sz)(hp:Pw σ av)(hsz:(cW av).length=sz)(hlt:of+sz<=cs.length):
  Yu P E σ o C [g] (σ.set i (.box g t (cs.take of++cW av++cs.drop (of+sz)))):=fun w ρ hg hρ=>by
 obtain⟨us,h1,h2⟩:=hg.res _ (List.mem_of_getElem? hσ)
 obtain⟨h3,h4⟩:=hp _ _ _ hg.hd (hρ _ _ hy)
 have hx':=(hρ _ _ hx).cg
 have h5:(ρ y).cells.size=sz:=by rw[<-Array.length_toList,h3.1,hsz]
 have hrun:=run_store (P:=P) (T:=T) (of:=of) (a:=ρ y) hs h1 h5 h4 (by simp;rw[h2.1];exact hlt)
 refine⟨w.setRow g (us.take of++(ρ y).cells.toList++us.drop (of+sz)).toArray,Cm hg hσ (me w g _) (.inl rfl) ⟨us.take of++(ρ y).cells.toList++us.drop (of+sz),?_,?_⟩,?_⟩
 ·have:=setRow_heap w g us.toArray (us.take of++(ρ y).cells.toList++us.drop (of+sz)).toArray t (0,0) h1
  exact this
 ·have hal:∀b,b<w.heap.size->al C σ b->al C (σ.set i (.box g t (cs.take of++cW av++cs.drop (of+sz)))) b/\(w.setRow g (us.take of++(ρ y).cells.toList++us.drop (of+sz)).toArray).heap[b]? =w.heap[b]? :=fun b hb hA=>by
   have hbk:=Cq (r':=cc.box g t (cs.take of++cW av++cs.drop (of+sz))) hσ rfl
   refine⟨⟨hA.1,by rw[hbk];exact hA.2⟩,setRow_other w g b _ (fun e=>hA.2 (bD.2 ⟨_,List.mem_of_getElem? hσ,by rw[<-e];rfl⟩))⟩
  exact(((h2.take of).app h3).app (h2.drop (of+sz))).mono hal
 ·simp[execOp,ho,hx',hrun]
theorem Yu.Vl{kk of n m:Nat}{q:Nat}{l:List (U.cH q)}(i:Nat)(qq:U.cH q)(ho:o.op= .store T x y)(hx:E.ev x=O (.rp v kk))(hy:E.ev y=O av)(hσ:σ[i]? =O (.row v q l))(hs:(P.info? T).map (·.size)=O n)(hp:Bk av=wE)(hn:(cW av).length=n)
  (hk:kk=m*(U.sz q)+of) (hm:m<l.length) (hlt:of+n<=(U.sz q)) (hql:(U.cells q qq).length=U.sz q) (hq:∀A w us,bq A w ((U.cells q l[m]!).take of++cW av++(U.cells q l[m]!).drop (of+n)) us->bq A w (U.cells q qq) us):
  Yu P E σ o C (xp (gd v)) (σ.set i (.row v q (l.set m qq))):=fun w ρ hg hρ=>by
 obtain⟨us,h1,h2,h3⟩:=hg.res _ (List.mem_of_getElem? hσ)
 obtain⟨h4,h5⟩:=(hρ _ _ hy).cells hp
 obtain⟨g,hgb,hv⟩:=(hρ _ _ hx).Es
 obtain⟨g',cap,cur,hv',hgb',hB,q1,q2,q3,q4⟩:=h1.at (by omega)
 have hgg:g'=g:=by rw[hgb']at hgb;exact zB.inj hgb
 subst hgg
 have h6':(ρ y).cells.toList.length=n:=by rw[h4.1,hn]
 have h6:(ρ y).cells.size=n:=by rw[<-Array.length_toList,h6']
 have hmz:m*(U.sz q)+(U.sz q)<=l.length*(U.sz q):=by rw[<-yE];exact yt _ hm
 have hcz:l.length*(U.sz q)<=(cap+1)*(U.sz q):=yt _ q1
 have hul:=h1.1
 have hrun:=run_store (P:=P) (T:=T) (of:=kk) (a:=ρ y) hs hB h6 h5 (by rw[q3,hk];omega)
 have hlen:us.length=l.length*(U.sz q):=h1.1
 have hmz2:∀j,j<l.length->j*(U.sz q)+(U.sz q)<=us.length:=fun j hj=>by rw[hlen,<-yE];exact yt _ hj
 have hpart:∀b,al C (σ.set i (.row v q (l.set m qq))) b↔al C σ b:=fun b=>by
  have hbk:=Cq (r':=cc.row v q (l.set m qq)) hσ rfl
  unfold al
  rw[hbk]
 have hal:∀b,b<w.heap.size->al C σ b->al C (σ.set i (.row v q (l.set m qq))) b/\(w.setRow g' (cur.toList.take kk++(ρ y).cells.toList++cur.toList.drop (kk+n)).toArray).heap[b]? =w.heap[b]? :=fun b hb hA=>
  ⟨(hpart b).2 hA,setRow_other w g' b _ (fun e=>hA.2 (bD.2 ⟨_,List.mem_of_getElem? hσ,by rw[e];exact hgb⟩))⟩
 refine⟨w.setRow g' (cur.toList.take kk++(ρ y).cells.toList++cur.toList.drop (kk+n)).toArray,Cm (r:= .row v q l) hg hσ (by show Kp (xp (gd v)) _ _;rw[hgb];exact me w g' _) (.inl rfl) ⟨us.take kk++(ρ y).cells.toList++us.drop (kk+n),⟨?_, .inr ⟨g',cap,(cur.toList.take kk++(ρ y).cells.toList++cur.toList.drop (kk+n)).toArray,?_,?_,?_,q2,?_,?_⟩⟩,?_,?_⟩,by simp[execOp,ho,hv,hrun]⟩
 ·have:=hmz2 m hm
  rw[zh,zh,zU,ye,yB,h6',hlen]
  omega
 ·rw[yB];exact hv'
 ·exact setRow_heap w g' cur _ q (0,0) hB
 ·rw[yB];exact q1
 ·have:=hmz2 m hm
  rw[yZ,zh,zh,zU,ye,h6',Array.length_toList,q3]
  omega
 ·have hk':kk+n<=l.length*(U.sz q):=by omega
  have hc2:l.length*(U.sz q)<=cur.toList.length:=by rw[show cur.toList.length=cur.size from Array.length_toList,q3];exact hcz
  rw[<-q4,yB]
  apply List.ext_getElem?
  intro j
  simp only[yq,yY,zh,zU,ym,h6',Array.length_toList]
  have hcl:cur.size=(cap+1)*(U.sz q):=q3
  by_cases e1:j<l.length*(U.sz q)
  ·rw[if_pos e1]
   by_cases e2:j<kk
   ·rw[if_pos (by omega),if_pos (by omega),if_pos (by omega),if_pos (by omega),if_pos (by omega),if_pos (by omega)]
    rw[if_pos (by omega)]
   ·by_cases e3:j<kk+n
    ·rw[if_pos (by omega),if_neg (by omega),if_pos (by omega),if_neg (by omega)]
     congr 1
     omega
    ·rw[if_neg (by omega),if_neg (by omega),if_pos (by omega)]
     congr 1
     omega
  ·rw[if_neg e1]
   rw[if_neg (by omega),if_neg (by omega)]
 ·intro j hj
  rw[yB]at hj
  by_cases hjm:j=m
  ·subst hjm
   rw[getElem!_pos _ j (by rw[yB];exact hj),List.getElem_set_self]
   exact hql
  ·rw[getElem!_pos _ j (by rw[yB];exact hj),List.getElem_set_ne (Ne.symm hjm),<-getElem!_pos l j hj]
   exact h2 j hj
 ·intro j hj
  rw[yB]at hj
  have hb:=hmz2 j hj
  have hbm:=hmz2 m hm
  by_cases hjm:j=m
  ·subst hjm
   rw[getElem!_pos _ j (by rw[yB];exact hj),List.getElem_set_self]
   refine hq _ _ _ ?_
   have hL:=h3 j hj
   have hz:=h2 j hj
   have hR:=(((hL.take of).app h4).app (hL.drop (of+n))).mono hal
   have e:((us.take kk++(ρ y).cells.toList++us.drop (kk+n)).drop (j*(U.sz q))).take (U.sz q)=((us.drop (j*(U.sz q))).take (U.sz q)).take of++(ρ y).cells.toList++((us.drop (j*(U.sz q))).take (U.sz q)).drop (of+n):=by
    apply List.ext_getElem?
    intro a
    simp only[yq,yY,zh,zU,ym,h6',ye]
    by_cases e1:a<(U.sz q)
    ·rw[if_pos e1]
     by_cases e2:a<of
     ·rw[if_pos (by omega),if_pos (by omega),if_pos (by omega),if_pos (by omega),if_pos (by omega),if_pos (by omega)]
      rw[if_pos (by omega)]
     ·by_cases e3:a<of+n
      ·rw[if_pos (by omega),if_neg (by omega),if_pos (by omega),if_neg (by omega)]
       congr 1
       omega
      ·rw[if_neg (by omega),if_neg (by omega),if_pos (by omega)]
       congr 1
       omega
    ·rw[if_neg e1,if_neg (by omega),if_neg (by omega)]
   rw[e]
   exact hR
  ·rw[getElem!_pos _ j (by rw[yB];exact hj),List.getElem_set_ne (Ne.symm hjm),<-getElem!_pos l j hj]
   have e:((us.take kk++(ρ y).cells.toList++us.drop (kk+n)).drop (j*(U.sz q))).take (U.sz q)=(us.drop (j*(U.sz q))).take (U.sz q):=by
    have hcase:j*(U.sz q)+(U.sz q)<=m*(U.sz q)\/m*(U.sz q)+(U.sz q)<=j*(U.sz q):=by
     rcases Nat.lt_or_gt_of_ne hjm with h|h
     ·left;rw[<-yE];exact yt _ h
     ·right;rw[<-yE];exact yt _ h
    apply List.ext_getElem?
    intro a
    simp only[yq,yY,zh,zU,ym,h6',Array.length_toList]
    by_cases e1:a<(U.sz q)
    ·rw[if_pos e1,if_pos e1]
     rcases hcase with hc|hc
     ·rw[if_pos (by omega),if_pos (by omega),if_pos (by omega)]
     ·rw[if_neg (by omega)]
      congr 1
      omega
    ·rw[if_neg e1,if_neg e1]
   rw[e]
   exact(h3 j hj).mono hal
end
inductive F2 {α:Type} {β:Type} (R:α->β->Prop):List α->List β->Prop
 |nil:F2 R [] []
 |cons {a:α} {b:β} {as0:List α} {bs:List β} (h:R a b) (hs:F2 R as0 bs):F2 R (a::as0) (b::bs)
theorem SM(us:List Value):∀(k off:Nat) (init:Array Value),off+k+us.length<=init.size->
  ((us.zipIdx k).foldl (fun cs (p:Value×Nat)=>cs.setIfInBounds (off+p.2) p.1) init).toList=init.toList.take (off+k)++us++init.toList.drop (off+k+us.length):=by
 induction us with
 |nil=>intro k off init h;simp
 |cons u us ih=>
  intro k off init h
  simp only[xX]at h
  rw[List.zipIdx_cons,List.foldl_cons,ih (k+1) off _ (by simp;omega)]
  have h1:off+k<init.toList.length:=by simp;omega
  rw[Array.toList_setIfInBounds]
  have e1:(init.toList.set (off+k) u).take (off+(k+1))=init.toList.take (off+k)++[u]:=by
   rw[wh,if_pos h1]
   have e:off+(k+1)=(init.toList.take (off+k)).length+1:=by rw[zU];omega
   rw[e,List.take_length_add_append]
   simp
  have e2:(init.toList.set (off+k) u).drop (off+(k+1)+us.length)=init.toList.drop (off+k+(us.length+1)):=by
   rw[List.drop_set_of_lt (by omega)]
   congr 1
   omega
  rw[e1,e2]
  simp
def placesOf(P:Program)(T:TypeId):Option (List (Nat×Nat)):=match P.underlying T with
 |some (.struct fields)=>fields.toList.mapM fun f=>(P.info? f.type).map fun i=>(f.offset,i.size)
 |_=>wC
def iT(P:Program)(T:TypeId):Option (List Value):=(P.info? T).bind fun i=>i.zero.map (·.cells.toList)
section
variable {P:Program} {E:Env} {σ:List cc} {o:Oper} {T T' e:TypeId} {x y z:Operand} {av bv:AV} {v u:Value} {m n:Int} {b:Bool} {k:IntKind} {C:Cx} {X:List Nat}
theorem Kq{ps:Array (Nat×Operand)}{ρ:Operand->Value}:(ps.map fun(i,x)=>(i,ρ x)).toList=ps.toList.map fun p=>(p.1,ρ p.2):=by
 rw[Array.toList_map]
theorem jZ{q:Nat}:∀(l:List (U.cH q)),(∀i,i<l.length->(U.cells q l[i]!).length=(U.sz q))->(l.flatMap (U.cells q)).length=l.length*(U.sz q)/\∀i,i<l.length->((l.flatMap (U.cells q)).drop (i*(U.sz q))).take (U.sz q)=U.cells q l[i]!
 |[],_=>⟨by simp,fun i hi=>by cases hi⟩
 |x::l,h=>by
  have h0:(U.cells q x).length=(U.sz q):=h 0 (by simp)
  obtain⟨h1,h2⟩:=jZ l fun i hi=>by
   have:=h (i+1) (by simpa using hi)
   rwa [show (x::l)[i+1]! =l[i]! from by rw[getElem!_pos _ (i+1) (by simpa using hi),getElem!_pos l i hi];rfl]at this
  refine⟨by rw[xq,zh,h0,h1,xX,yE];omega,fun i hi=> ?_⟩
  rw[xq]
  cases i with
  |zero=>
   rw[Nat.zero_mul,xu,<-h0,List.take_left']
   ·rfl
   ·rfl
  |succ i=>
   have hi':i<l.length:=by simpa using hi
   rw[show (x::l)[i+1]! =l[i]! from by rw[getElem!_pos _ (i+1) (by simpa using hi'),getElem!_pos l i hi'];rfl,<-h2 i hi']
   rw[show (i+1)*(U.sz q)=(U.cells q x).length+i*(U.sz q)from by rw[h0,yE];omega,<-zK,List.drop_left']
   rfl
theorem Bc{A:Nat->Prop}{w:World}{q:Nat}{l:List (U.cH q)}{us:List Value}(hr:gy w v q (U.sz q) l.length us)(hz:∀i,i<l.length->(U.cells q l[i]!).length=(U.sz q))(h:bq A w (l.flatMap (U.cells q)) us):cc.ok A w (.row v q l):=
 ⟨us,hr,hz,fun i hi=>by rw[<-(jZ l hz).2 i hi];exact(h.drop _).take _⟩
theorem CE{A:Nat->Prop}{w:World}{q:Nat}{l:List (U.cH q)}(h:cc.ok A w (.row v q l)):∃us,gy w v q (U.sz q) l.length us/\(∀i,i<l.length->(U.cells q l[i]!).length=(U.sz q))/\bq A w (l.flatMap (U.cells q)) us:=by
 obtain⟨us,h1,h2,h3⟩:=h
 refine⟨us,h1,h2,?_⟩
 obtain⟨f1,f2⟩:=jZ l h2
 refine⟨by rw[f1,h1.1],fun j a u ha hu=> ?_⟩
 have hj:j<l.length*(U.sz q):=by rw[<-f1];exact(zS.1 ha).1
 have hsz:0<(U.sz q):=by
  rcases Nat.eq_zero_or_pos (U.sz q)with h|h
  ·rw[h]at hj;omega
  ·exact h
 have hi:j/(U.sz q)<l.length:=by rw[Nat.div_lt_iff_lt_mul hsz];exact hj
 have hm:j%(U.sz q)<(U.sz q):=y4 _ hsz
 have he:j/(U.sz q)*(U.sz q)+j%(U.sz q)=j:=by rw[Nat.mul_comm];exact Nat.div_add_mod j (U.sz q)
 refine(h3 _ hi).2 (j%(U.sz q)) a u ?_ ?_
 ·rw[<-f2 _ hi,yq,if_pos hm,ym,he];exact ha
 ·rw[yq,if_pos hm,ym,he];exact hu
theorem get_append_left!{q:Nat}(l l2:List (U.cH q))(i:Nat)(h:i<l.length):(l++l2)[i]! =l[i]! :=by
 rw[getElem!_pos _ i (by rw[zh];omega),List.getElem_append_left h,<-getElem!_pos l i h]
theorem get_append_right!{q:Nat}(l l2:List (U.cH q))(i:Nat)(h:l.length<=i)(h2:i<l.length+l2.length):(l++l2)[i]! =l2[i-l.length]! :=by
 rw[getElem!_pos _ i (by rw[zh];exact h2),List.getElem_append_right h,<-getElem!_pos l2 (i-l.length) (by omega)]
theorem Kn{q:Nat}{l l2:List (U.cH q)}(h:∀i,i<l.length->(U.cells q l[i]!).length=(U.sz q))(h2:∀i,i<l2.length->(U.cells q l2[i]!).length=(U.sz q)):∀i,i<(l++l2).length->(U.cells q (l++l2)[i]!).length=(U.sz q):=fun i hi=>by
 rw[zh]at hi
 by_cases hlt:i<l.length
 ·rw[get_append_left! _ _ _ hlt];exact h i hlt
 ·rw[get_append_right! _ _ _ (by omega) hi];exact h2 _ (by omega)
theorem Lv{zs:List Value}{sz n:Nat}(hsz:zs.length=sz)(hpos:0<sz):((Array.range (n*sz)).map (zs.toArray[· %zs.toArray.size]!)).toList=(zj n zs).flatten:=by
 apply List.ext_getElem?
 intro j
 have hfl:(zj n zs).flatten.length=n*sz:=by simp[hsz]
 have hq:∀(q:Nat) (j:Nat),j<q*sz->(zj q zs).flatten[j]? =zs[j%sz]? :=by
  intro q
  induction q with
  |zero=>intro j hj;simp at hj
  |succ q ih=>
   intro j hj
   rw[yF,xY,yY]
   split
   ·rename_i h;rw[hsz]at h;rw[Nat.mod_eq_of_lt h]
   ·rename_i h
    rw[hsz]at h
    rw[hsz,ih _ (by rw[yE]at hj;omega),Nat.mod_eq_sub_mod (by omega:sz<=j)]
 by_cases hj:j<n*sz
 ·rw[hq n j hj]
  have hmod:j%sz<sz:=y4 _ hpos
  simp[hj,hsz,hmod]
 ·rw[xW (l:=(zj n zs).flatten) (by rw[hfl];omega)]
  simp[hj]
theorem Yv.lit{len:Nat}{ps:Array (Nat×Operand)}{zs:List Value}(l:List (U.cH e))(ho:o.op= .buildSlice T len ps)(hT:P.underlying T=O (.slice e))(hs:(P.info? e).map (·.size)=O (U.sz e))(hz:iT P e=O zs)
  (hzl:zs.length=(U.sz e)) (hf:∀A w ρ,Hd A σ w->KQ A w E ρ->∃us:Array Value,Instr.fill (fun i=>O (i*(U.sz e),(U.sz e))) (zj len zs).flatten.toArray (ps.toList.map fun p=>(p.1,ρ p.2))=O us/\bq A w (l.flatMap (U.cells e)) us.toList) (hl:l.length=len) (hu:∀i,i<l.length->(U.cells e l[i]!).length=(U.sz e)) (hpos:0<len*(U.sz e)) (hsm:len*(U.sz e)<=2^24):
  Yv P E σ o C [] (fun a σ'=>∃v,a= .lit v/\σ'= .row v e l::σ):=fun w ρ hg hρ=>by
 obtain⟨it,hit,hz1⟩:=zi.1 hz
 obtain⟨zv,hz2,hz3⟩:=zf.1 hz1
 obtain⟨ie,hie,hse⟩:=zf.1 hs
 have hee:it=ie:=by rw[hit]at hie;exact zB.inj hie
 subst hee
 have hzc:zv.cells=zs.toArray:=by rw[<-hz3]
 obtain⟨us,h1,h2⟩:=hf _ w ρ hg.hd hρ
 have hrun:=run_buildSlice (P:=P) w T e len (ps.map fun(i,x)=>(i,ρ x)) us it zv hT hit hz2 (by rw[hse];omega) (by rw[hse];omega) (by
  rw[hse,hzc,Kq,<-h1]
  congr 1
  apply Array.ext'
  exact Lv hzl (Nat.pos_of_mul_pos_left hpos))
 have hlp:0<len:=Nat.pos_of_mul_pos_right hpos
 have hlen:us.toList.length=len*(U.sz e):=by rw[h2.1,(jZ l hu).1,hl]
 refine⟨_,w.alloc (.cells us e),_,_,⟨.slice (O ⟨w.heap.size,0,wC⟩) len len,rfl,rfl⟩,?_,by simp[execOp,ho,hrun], .lit _⟩
 obtain⟨ln,rfl⟩:∃ln,len=ln+1:=⟨len-1,by omega⟩
 refine oI (r:= .row (.slice (O ⟨w.heap.size,0,wC⟩) (ln+1) (ln+1)) e l) hg (je w _) (.inr rfl) (Bc (us:=us.toList) ?_ hu ?_)
 ·rw[hl]
  refine⟨hlen, .inr ⟨w.heap.size,ln,us,rfl,heap_alloc_new w _,zx _,?_,by rw[<-Array.length_toList,hlen],by rw[<-hlen,zG]⟩⟩
  have:ln+1<=(ln+1)*(U.sz e):=Nat.le_mul_of_pos_right _ (Nat.pos_of_mul_pos_left hpos)
  unfold maxLen
  omega
 ·exact Km (r:= .row (.slice (O ⟨w.heap.size,0,wC⟩) (ln+1) (ln+1)) e l) h2 (.inr rfl) (je w _)
theorem Yv.asF{s:Nat}(ho:o.op= .buildSlice T 0 #[])(hT:P.underlying T=O (.slice e))(hs:(P.info? e).map (·.size)=O s):Yv P E σ o C [] (fun a σ'=>∃v,a= .lit v/\σ'= .row v e ([]:List (U.cH e))::σ):=fun w ρ hg hρ=>by
 obtain⟨j,hj,hj'⟩:=zf.1 hs
 refine⟨_,w.alloc (.cells #[] e),_,_,⟨.slice (O ⟨w.heap.size,0,wC⟩) 0 0,rfl,rfl⟩,oI hg (je w _) (.inl rfl) ⟨[],⟨by simp, .inl ⟨_,rfl,rfl⟩⟩,fun i hi=>by simp at hi,fun i hi=>by simp at hi⟩,?_, .lit _⟩
 simp[execOp,ho,Instr.buildSlice,run_underlying hT,sizeOf,typeInfo,hj,Instr.fill,newRow]
 rw[show Array.range 0=#[]from rfl,Array.map_empty]
theorem Yv.make{by':Nat}{zs:List Value}(d:U.cH e)(ho:o.op= .makeSlice T x y)(hx:E.ev x=O (.i m))(hy:E.ev y=O (.i n))(hT:P.underlying T=O (.slice e))(hs:(P.info? e).map (fun i=>(i.size,i.bytes))=O ((U.sz e),by'))(hz:iT P e=O zs)(hb:ya by' 4096=wE)(hsz:zs.length=(U.sz e))(hd:∀A w,bq A w (U.cells e d) zs)(hpos:0<(U.sz e))
  (hm:0<=m/\m<=n/\n<=1073741824):Yv P E σ o C [] (fun a σ'=>∃v,a= .lit v/\σ'= .row v e (zj m.toNat d)::σ):=fun w ρ hg hρ=>by
 obtain⟨it,hit,hz1⟩:=zi.1 hz
 obtain⟨zv,hz2,hz3⟩:=zf.1 hz1
 obtain⟨ie,hie,hse⟩:=zf.1 hs
 have hee:it=ie:=by rw[hit]at hie;exact zB.inj hie
 subst hee
 simp only[Prod.mk.injEq]at hse
 obtain⟨s1,s2⟩:=hse
 have hzc:zv.cells=zs.toArray:=by rw[<-hz3]
 have hby:by'<=4096:=by simpa using hb
 obtain⟨mm,rfl⟩:∃mm:Nat,m=mm:=⟨m.toNat,by omega⟩
 obtain⟨nn,rfl⟩:∃nn:Nat,n=nn:=⟨n.toNat,by omega⟩
 have hbb:(it.bytes:Int)*(nn:Int)<=281474976710656:=by
  have h1:it.bytes*nn<=4096*1073741824:=Nat.mul_le_mul (by omega) (by omega)
  have h':((it.bytes*nn:Nat):Int)<=281474976710656:=by omega
  rwa [xh]at h'
 have hrun:=run_make (P:=P) w T e it zv hT hit hz2 .i64 .i64 mm nn (by omega) (by omega) hbb (by omega)
 rw[za,za]at hrun
 have hx':=(hρ _ _ hx).cg
 have hy':=(hρ _ _ hy).cg
 refine⟨.slice (O ⟨w.heap.size,0,wC⟩) mm nn,w.alloc (.cells (madeCells zv.cells (nn*it.size)) e),_,_,⟨.slice (O ⟨w.heap.size,0,wC⟩) mm nn,rfl,rfl⟩,?_,?_, .lit _⟩
 ·rw[za]
  have hcells:(madeCells zv.cells (nn*it.size)).toList=(zj nn zs).flatten:=by
   rw[hzc,s1]
   unfold madeCells
   apply List.ext_getElem?
   intro j
   have hfl:(zj nn zs).flatten.length=nn*(U.sz e):=by simp[hsz]
   have hq:∀(q:Nat) (j:Nat),j<q*(U.sz e)->(zj q zs).flatten[j]? =zs[j%(U.sz e)]? :=by
    intro q
    induction q with
    |zero=>intro j hj;simp at hj
    |succ q ih=>
     intro j hj
     rw[yF,xY,yY]
     split
     ·rename_i h;rw[hsz]at h;rw[Nat.mod_eq_of_lt h]
     ·rename_i h
      rw[hsz]at h
      rw[hsz,ih _ (by rw[yE]at hj;omega),Nat.mod_eq_sub_mod (by omega:(U.sz e)<=j)]
   by_cases hj:j<nn*(U.sz e)
   ·rw[hq nn j hj]
    have hmod:j%(U.sz e)<(U.sz e):=y4 _ hpos
    simp[hj,hsz,hmod]
   ·rw[xW (l:=(zj nn zs).flatten) (by rw[hfl];omega)]
    simp[hj]
  by_cases hn0:nn=0
  ·have hm0:mm=0:=by omega
   subst hn0 hm0
   exact oI hg (je w _) (.inl rfl) ⟨[],⟨by simp, .inl ⟨_,rfl,rfl⟩⟩,fun i hi=>by simp at hi,fun i hi=>by simp at hi⟩
  ·obtain⟨nk,rfl⟩:∃nk,nn=nk+1:=⟨nn-1,by omega⟩
   have hu:∀i,i<(zj mm d).length->(U.cells e (zj mm d)[i]!).length=(U.sz e):=fun i hi=>by
    rw[getElem!_pos _ i hi,List.getElem_replicate,<-(hd (fun _=>True) w).1,hsz]
   have hfl:∀q,(zj q zs).flatten.length=q*(U.sz e):=fun q=>by simp[hsz]
   have hfl2:∀(A:Nat->Prop) (w:World) (q:Nat),bq A w ((zj q d).flatMap (U.cells e)) (zj q zs).flatten:=fun A w q=>by
    induction q with
    |zero=>exact bq.nil
    |succ q ih=>rw[yF,yF,xq,xY];exact(hd A w).app ih
   have htk:∀q q':Nat,q<=q'->((zj q' zs).flatten).take (q*(U.sz e))=(zj q zs).flatten:=fun q q' h=>by
    obtain⟨r,rfl⟩:∃r,q'=q+r:=⟨q'-q,by omega⟩
    rw[<-List.replicate_append_replicate,List.flatten_append,<-hfl q]
    exact List.take_left
   refine oI (r:= .row (.slice (O ⟨w.heap.size,0,wC⟩) mm (nk+1)) e (zj mm d)) hg (je w _) (.inr rfl) (Bc (us:=(zj mm zs).flatten) ?_ hu ?_)
   ·rw[xL]
    refine⟨hfl mm, .inr ⟨w.heap.size,nk,_,rfl,heap_alloc_new w _,by omega,by unfold maxLen;omega,?_,by rw[hcells];exact htk _ _ (by omega)⟩⟩
    rw[<-Array.length_toList,hcells,hfl]
   ·exact hfl2 _ _ _
 ·simp[execOp,ho,hx',hy',hrun]
theorem CB{w:World}{ty:TypeId}{i:TypeInfo}{zz:Value}{sz by' nn mm:Nat}{us news:List Value}{xs:Value}(ht:P.underlying T=O (.slice e))(hi:P.info? e=O i)(hz:i.zero=O zz)(hs:i.size=sz)(hby:i.bytes=by')(hzs:zz.cells.size=sz)
  (hrow:gy w v e sz nn us) (hx:∃p c,xs= .slice p mm c/\(mm=0\/∃a,p=O a/\∀j u,news[j]? =O u->w.cell? (a.add j)=O u)) (hl:news.length=mm*sz) (h1:∀u∈news,u.oneCell'=wE) (h63:nn+mm<=maxLen) (hb:(nn+mm)*by'<=140737488355328):
  ∃v' w',(Builtin.append_ #[T,T] ty #[v,xs]).run P w= .ok v' w'/\gy w' v' e sz (nn+mm) (us++news)/\Kp (gd v).toList w w'/\(gd v'=gd v\/gd v'=O w.heap.size):=by
 subst hs hby
 obtain⟨p,cx,rfl,hx⟩:=hx
 by_cases hm:mm=0
 ·subst hm
  have hn:news=[]:=yR (by simpa using hl)
  subst hn
  obtain⟨q,cap,rfl,hcap⟩:=hrow.len
  have hf:∀w,(Builtin.firstCells i.size 0 (.slice p 0 cx)).run P w= .ok #[] w:=fun w=>by
   cases p<;>simp[Builtin.firstCells,loadCells,loadCellsFrom]
  have hrun:(Builtin.append_ #[T,T] ty #[.slice q nn cap, .slice p 0 cx]).run P w= .ok (.slice q nn cap) w:=by
   cases q<;>simp[Builtin.append_,run_underlying ht,sizeOf,typeInfo,hi,Builtin.lenOf,hf,hcap,storeCells]
  exact⟨_,w,hrun,by simpa using hrow,Kp.refl _ _, .inl rfl⟩
 ·obtain⟨a,rfl,hc⟩:=hx.resolve_left hm
  have grown:∀(olds:List Value) (old:Nat),olds.length=nn*i.size->old<nn+mm->us=olds->
    gy (w.drew.alloc (.cells (olds.toArray++news.toArray++Builtin.zeroCells zz.cells (grownCap w (nn+mm) old e-(nn+mm))) e)) (.slice (O ⟨w.heap.size,0,wC⟩) (nn+mm) (grownCap w (nn+mm) old e)) e i.size (nn+mm) (us++news):=by
   intro olds old hol hlt hus
   subst hus
   have hge:=grownCap_ge w (nn+mm) old e
   have hcm:=grownCap_le_maxLen w (nn+mm) old e h63
   obtain⟨ck,hck⟩:∃ck,grownCap w (nn+mm) old e=ck+1:=⟨grownCap w (nn+mm) old e-1,by omega⟩
   refine⟨by rw[zh,hol,hl,zZ], .inr ⟨w.heap.size,ck,_,by rw[hck],heap_alloc_new w.drew _,by omega,by omega,?_,?_⟩⟩
   ·rw[<-hck]
    simp only[Array.size_append,yZ,size_zeroCells,hzs,hol,hl,<-zZ]
    congr 1
    omega
   ·simp only[Array.toList_append,yS]
    rw[<-yS,show (nn+mm)*i.size=(us++news).length from by rw[zh,hol,hl,zZ]]
    exact List.take_left
  rcases hrow.2 with ⟨q,rfl,rfl⟩|⟨g,cap,cur,rfl,hg,hnc,hcm,hcs,htake⟩
  ·have hu:us=[]:=yR (by simpa using hrow.1)
   have hgr:=grown [] 0 (by simp) (by omega) hu
   rw[yu]at hgr hb h63
   have hgc:=grownCap_ge w mm 0 e
   have hrb:gd (.slice (O ⟨w.heap.size,0,wC⟩) mm (grownCap w mm 0 e))=O w.heap.size:=by
    obtain⟨ck,hck⟩:∃ck,grownCap w mm 0 e=ck+1:=⟨grownCap w mm 0 e-1,by omega⟩
    rw[hck];rfl
   have h63':(mm:Int)<=9223372036854775807:=by unfold maxLen at h63;omega
   cases q with
   |none=>
    have hr:=run_append_nil (P:=P) w T ty e i zz ht hi hz a mm cx news hl hc (by omega) h63' (by omega)
    refine⟨_,_,hr,?_,Ev w _, .inr hrb⟩
    rw[yu]
    simpa using hgr
   |some b=>
    have hr:=run_append_grow (P:=P) w T ty e i zz ht hi hz b 0 0 [] (by simp) (fun j v hj=>by cases hj) a mm cx news hl hc (by omega) (by simpa using h63') (growslice_fits (by omega) (by rw[yu];exact hb))
    refine⟨_,_,hr,?_,Ev w _, .inr (by rw[yu];exact hrb)⟩
    rw[yu]
    exact hgr
  ·by_cases hroom:nn+mm<=cap+1
   ·have hfit:nn*i.size+news.length<=cur.size:=by rw[hl,hcs,<-zZ];exact yt _ hroom
    have hr:=run_append_room (P:=P) w T ty e i ht hi g nn (cap+1) cur hg a mm cx news hl hc h1 hroom hfit
    refine⟨_,_,hr,⟨by rw[zh,hrow.1,hl,zZ], .inr ⟨g,cap,_,rfl,setRow_heap w g cur _ e _ hg,hroom,hcm,?_,?_⟩⟩,me w g _, .inl rfl⟩
    ·simp only[yZ,zh,zU,ye,Array.length_toList]
     omega
    ·rw[htake,show (nn+mm)*i.size=(us++news).length from by rw[zh,hrow.1,hl,zZ]]
     exact List.take_left
   ·have holds:∀j v,us[j]? =O v->w.cell? ((⟨g,0,wC⟩:Addr).add j)=O v:=fun j v hj=>by
     rw[nW,yu];exact hrow.cells rfl j v hj
    have h63':((nn+mm:Nat):Int)<=9223372036854775807:=by unfold maxLen at h63;omega
    have hr:=run_append_grow (P:=P) w T ty e i zz ht hi hz ⟨g,0,wC⟩ nn (cap+1) us hrow.1 holds a mm cx news hl hc (by omega) h63' (growslice_fits (by omega) hb)
    have hgr:=grown us (cap+1) hrow.1 (by omega) rfl
    have hgc:=grownCap_ge w (nn+mm) (cap+1) e
    refine⟨_,_,hr,hgr,⟨rfl,rfl,rfl,by simp,fun k hk _=>heap_alloc_old w.drew _ hk⟩, .inr ?_⟩
    obtain⟨ck,hck⟩:∃ck,grownCap w (nn+mm) (cap+1) e=ck+1:=⟨grownCap w (nn+mm) (cap+1) e-1,by omega⟩
    rw[hck];rfl
def Src(σ:List cc)(E:Env)(x:Operand)(e:TypeId)(l:List (U.cH e)):Prop:=
 (∃p c,E.ev x=O (.lit (.slice p 0 c))/\l=[])\/E.ev x=O (.sl e l)\/∃(i:Nat) (v:Value),E.ev x=O (.lit v)/\σ[i]? =O (.row v e l)
theorem Src.spec{q:Nat}{l:List (U.cH q)}{A:Nat->Prop}{w:World}{ρ:Operand->Value}(h:Src σ E x q l)(hd:Hd A σ w)(hρ:KQ A w E ρ):∃p cap news,ρ x= .slice p l.length cap/\(l.length=0\/∃a,p=O a/\∀j u,news[j]? =O u->w.cell? (a.add j)=O u)/\news.length=l.length*(U.sz q)/\(∀i,i<l.length->(U.cells q l[i]!).length=(U.sz q))/\bq A w (l.flatMap (U.cells q)) news/\l.length<=9223372036854775807:=by
 rcases h with ⟨p,c,h,rfl⟩|h|⟨i,v,h,hσ⟩
 ·exact⟨p,c,[],(hρ _ _ h).cg, .inl rfl,by simp,fun i hi=>by simp at hi,bq.nil,by simp⟩
 ·have hr:=hρ _ _ h
  obtain⟨p,cap,u,hv,hl,_,hz,hc,hcr⟩:=hr.tX
  rw[hv]at hr
  let news:List Value:=(zJ l.length).flatMap fun i=>(zJ (U.sz q)).map fun j=>u i j
  have hnl:∀(z:List Nat),(z.flatMap fun i=>(zJ (U.sz q)).map fun j=>u i j).length=z.length*(U.sz q):=fun z=>by
   induction z with
   |nil=>simp
   |cons a z ih=>rw[xq,zh,ih,zA,xb,xX,yE];omega
  have hnews:news.length=l.length*(U.sz q):=by rw[hnl,xb]
  have hget:∀n i j,i<n->j<(U.sz q)->((zJ n).flatMap fun i=>(zJ (U.sz q)).map fun j=>u i j)[i*(U.sz q)+j]? =O (u i j):=by
   intro n
   induction n with
   |zero=>intro i j hi _;omega
   |succ n ih=>
    intro i j hi hj
    rw[List.range_succ,List.flatMap_append,yY,hnl,xb]
    by_cases hin:i<n
    ·have:i*(U.sz q)+(U.sz q)<=n*(U.sz q):=by rw[<-yE];exact yt _ hin
     rw[if_pos (by omega)]
     exact ih i j hin hj
    ·have:i=n:=by omega
     subst this
     rw[if_neg (by omega)]
     simp[hj]
  refine⟨p,cap,news,hv,?_,hnews,hz,?_,hl⟩
  ·by_cases h0:l.length=0
   ·exact .inl h0
   ·obtain⟨b,off,hp,hb,hA,hcc⟩:=hc 0 (by omega)
    refine .inr ⟨⟨b,off,wC⟩,hp,fun j v hj=> ?_⟩
    have hjl:j<l.length*(U.sz q):=by rw[<-hnews];exact(zS.1 hj).1
    have hsz:0<(U.sz q):=by
     rcases Nat.eq_zero_or_pos (U.sz q)with h|h
     ·rw[h]at hjl;omega
     ·exact h
    have hi:j/(U.sz q)<l.length:=by rw[Nat.div_lt_iff_lt_mul hsz];exact hjl
    have hm:j%(U.sz q)<(U.sz q):=y4 _ hsz
    have he:j/(U.sz q)*(U.sz q)+j%(U.sz q)=j:=by rw[Nat.mul_comm];exact Nat.div_add_mod j (U.sz q)
    have h2:=hget l.length (j/(U.sz q)) (j%(U.sz q)) hi hm
    rw[he]at h2
    have h3:O v=O (u (j/(U.sz q)) (j%(U.sz q))):=by rw[<-hj,<-h2]
    cases h3
    obtain⟨b',off',hp',_,_,hcc'⟩:=hc (j/(U.sz q)) hi
    rw[hp]at hp'
    cases hp'
    have h4:=hcc' (j%(U.sz q)) hm
    rw[nW,show off+j=off+j/(U.sz q)*(U.sz q)+j%(U.sz q)from by omega]
    exact h4
  ·obtain⟨f1,f2⟩:=jZ l hz
   refine⟨by rw[f1,hnews],fun j a w' ha hw'=> ?_⟩
   have hjl:j<l.length*(U.sz q):=by rw[<-hnews];exact(zS.1 hw').1
   have hsz:0<(U.sz q):=by
    rcases Nat.eq_zero_or_pos (U.sz q)with h|h
    ·rw[h]at hjl;omega
    ·exact h
   have hi:j/(U.sz q)<l.length:=by rw[Nat.div_lt_iff_lt_mul hsz];exact hjl
   have hm:j%(U.sz q)<(U.sz q):=y4 _ hsz
   have he:j/(U.sz q)*(U.sz q)+j%(U.sz q)=j:=by rw[Nat.mul_comm];exact Nat.div_add_mod j (U.sz q)
   have h2:=hget l.length (j/(U.sz q)) (j%(U.sz q)) hi hm
   rw[he]at h2
   have h3:O w'=O (u (j/(U.sz q)) (j%(U.sz q))):=by rw[<-hw',<-h2]
   cases h3
   refine hcr (j/(U.sz q)) (j%(U.sz q)) a hi ?_
   rw[<-f2 _ hi,yq,if_pos hm,ym,he]
   exact ha
 ·obtain⟨us,h1,h2,h3⟩:=CE (hd.1 _ (List.mem_of_getElem? hσ))
  obtain⟨p,cap,hv,_⟩:=h1.len
  have hx':=(hρ _ _ h).cg
  have hlm:l.length<=9223372036854775807:=by
   rcases h1.2 with ⟨_,_,h⟩|⟨_,_,_,_,_,q1,q2,_⟩
   ·omega
   ·unfold maxLen at q2;omega
  refine⟨p,cap,us,by rw[hx',hv],?_,h1.1,h2,h3,hlm⟩
  by_cases h0:l.length=0
  ·exact .inl h0
  ·obtain⟨g,ck,cur,hv2,hgb,_⟩:=h1.at (by omega)
   rw[hv2]at hv
   cases hv
   refine .inr ⟨_,rfl,fun j u hj=> ?_⟩
   rw[nW,yu]
   exact h1.cells hgb j u hj
theorem Yv.app{by':Nat}{l l2:List (U.cH e)}{zs:List Value}(i:Nat)(ho:o.op= .call {callee:= .builtin .append,args:=#[x,y],argTypes:=#[T,T]})(hx:E.ev x=O (.lit v))(hσ:σ[i]? =O (.row v e l))(hy:Src σ E y e l2)(hT:P.underlying T=O (.slice e))(hs:(P.info? e).map (fun i=>(i.size,i.bytes))=O ((U.sz e),by'))(hz:iT P e=O zs)(hzl:zs.length=(U.sz e))(hb:ya by' 4096=wE)
  (h1:∀x:U.cH e,(U.cells e x).all gz=wE) (hlen:(l++l2).length<=1073741824):Yv P E σ o C (xp (gd v)) (fun a σ'=>∃v',a= .lit v'/\σ'=σ.set i (.row v' e (l++l2))):=fun w ρ hg hρ=>by
 obtain⟨it,hit,hz1⟩:=zi.1 hz
 obtain⟨zv,hz2,hz3⟩:=zf.1 hz1
 obtain⟨ie,hie,hse⟩:=zf.1 hs
 have hee:it=ie:=by rw[hit]at hie;exact zB.inj hie
 subst hee
 simp only[Prod.mk.injEq]at hse
 obtain⟨s1,s2⟩:=hse
 have hby:by'<=4096:=by simpa using hb
 obtain⟨us,g1,g2,g3⟩:=CE (hg.res _ (List.mem_of_getElem? hσ))
 obtain⟨p,cap,news,q1,q2,q3,q4,q5,q6⟩:=hy.spec hg.hd hρ
 have hx':=(hρ _ _ hx).cg
 have hone:∀u∈news,u.oneCell'=wE:=q5.one (by
  rw[zm]
  intro a ha
  obtain⟨x,_,hx⟩:=xM.1 ha
  exact zm.1 (h1 x) a hx)
 rw[zh]at hlen
 have hbytes:(l.length+l2.length)*by'<=140737488355328:=by
  have:(l.length+l2.length)*by'<=1073741824*4096:=Nat.mul_le_mul hlen hby
  omega
 obtain⟨v',w',r1,r2,r3,r4⟩:=CB (P:=P) (T:=T) (ty:=o.type) (xs:=ρ y) hT hit hz2 s1 s2 (by rw[<-Array.length_toList,hz3,hzl]) g1 ⟨p,cap,q1,q2⟩ q3 hone (by unfold maxLen;omega) hbytes
 refine⟨v',w',_,_,⟨v',rfl,rfl⟩,Cm (r:= .row v e l) hg hσ r3 r4 (Bc (by rw[zh];exact r2) (Kn g2 q4) ?_),?_, .lit _⟩
 ·rw[List.flatMap_append]
  refine(g3.app q5).mono fun b hb hA=>⟨⟨hA.1,fun hx=> ?_⟩,r3.block b hb (fun hx=>hA.2 (bD.2 ⟨_,List.mem_of_getElem? hσ,by simpa [cc.blk]using hx⟩))⟩
  obtain⟨s,hs1,hs2⟩:=bD.1 hx
  rcases List.mem_or_eq_of_mem_set hs1 with h|h
  ·exact hA.2 (bD.2 ⟨s,h,hs2⟩)
  ·rw[h]at hs2
   rcases r4 with r4|r4
   ·exact hA.2 (bD.2 ⟨_,List.mem_of_getElem? hσ,r4.symm.trans hs2⟩)
   ·have:O w.heap.size=O b:=r4.symm.trans hs2
    cases this
    omega
 ·simp[execOp,ho,resolve,invoke,builtin,hx',r1]
end
theorem Rel.ai0{A:Nat->Prop}{w:World}{qt:Nat}{l:List (U.cH qt)}{p:Option Addr}{cap:Nat}(h:Rel A w (.sl qt l) (.slice p l.length cap)){lo hi cap':Nat}(h1:lo<=hi)(h2:hi<=l.length)(hc':hi-lo<=cap')(q:Option Addr)(hq:hi-lo=0\/q=p.map (·.add (lo*(U.sz qt)))):
  Rel A w (.sl qt ((l.take hi).drop lo)) (.slice q (hi-lo) cap'):=by
 obtain⟨p',cp,u,hv,hl,hcap,hz,hc,hr⟩:=h.tX
 cases hv
 have hln:((l.take hi).drop lo).length=hi-lo:=by rw[ye,zU];omega
 have hget:∀i,i<hi-lo->((l.take hi).drop lo)[i]! =l[lo+i]! :=fun i hi'=>by
  rw[getElem!_pos _ i (by rw[hln];exact hi'),getElem!_pos l (lo+i) (by omega),xZ,List.getElem_take]
 have hgoal:Rel A w (.sl qt ((l.take hi).drop lo)) (.slice q ((l.take hi).drop lo).length cap'):=by
  refine .sl qt _ q cap' (fun i j=>u (lo+i) j) (by omega) (by omega) (fun i hi'=> ?_) (fun i hi'=> ?_) (fun i j a hi' ha=> ?_)
  ·rw[hln]at hi'
   rw[hget i hi'];exact hz _ (by omega)
  ·rw[hln]at hi'
   obtain⟨b,off,hp,hb,hA,hcc⟩:=hc (lo+i) (by omega)
   refine⟨b,off+lo*(U.sz qt),?_,hb,hA,fun j hj=> ?_⟩
   ·rcases hq with hq|hq
    ·omega
    ·rw[hq,hp,yg,nW]
   ·have:=hcc j hj
    rwa [zZ,<-xI]at this
  ·rw[hln]at hi'
   rw[hget i hi']at ha
   exact hr _ j a (by omega) ha
 rwa [hln]at hgoal
section
variable {P:Program} {E E':Env} {σ σ':List cc} {o:Oper} {T T' e:TypeId} {x y z:Operand} {av bv:AV} {v u:Value} {m n:Int} {b:Bool} {k k':IntKind} {C:Cx} {X:List Nat}
theorem RD{w:World}{a:Option Addr}{len cap lo hi:Nat}{s:Nat}{L H:Option Value}(hT:P.underlying T=O (.slice e))(hs:(P.info? e).map (·.size)=O s)
  (hb:(Instr.sliceBounds wE len cap L H wC).run P w= .ok (lo,hi,cap) w):(Instr.slice T (.slice a len cap) L H wC).run P w= .ok (.slice (if cap=lo then a else a.map (·.add (lo*s))) (hi-lo) (cap-lo)) w:=by
 obtain⟨j,hj,hj'⟩:=zf.1 hs
 simp[Instr.slice,run_underlying hT,hb,sizeOf,typeInfo,hj,hj']
theorem Ir{w:World}{len cap:Nat}(hh:0<=m/\m<=n/\n<=(len:Int))(hc:len<=cap):(Instr.sliceBounds wE len cap (O (.int k m)) (O (.int k' n)) wC).run P w= .ok (m.toNat,n.toNat,cap) w:=by
 have h1:0<=n/\n<=(cap:Int):=by omega
 have h2:0<=m/\m<=((n.toNat:Nat):Int):=by omega
 simp[Instr.sliceBounds,Instr.sliceBound,asIntOf,h1]
 intro hc
 exfalso
 have:=hc (by omega)
 omega
theorem RP{w:World}{len cap:Nat}(hh:0<=n/\n<=(len:Int))(hc:len<=cap):(Instr.sliceBounds wE len cap wC (O (.int k' n)) wC).run P w= .ok (0,n.toNat,cap) w:=by
 have h1:0<=n/\n<=(cap:Int):=by omega
 simp[Instr.sliceBounds,Instr.sliceBound,asIntOf,h1]
theorem Rn{w:World}{len cap:Nat}(hh:0<=m/\m<=(len:Int)):(Instr.sliceBounds wE len cap (O (.int k m)) wC wC).run P w= .ok (m.toNat,len,cap) w:=by
 simp[Instr.sliceBounds,Instr.sliceBound,asIntOf,hh]
theorem vp{A:Nat->Prop}{w:World}{ρ:Operand->Value}{q:Nat}{l:List (U.cH q)}{L H:Option Operand}{lo hi:Nat}(ho:o.op= .slice T x L H wC)(hx:Rel A w (.sl q l) (ρ x))(hT:P.underlying T=O (.slice e))(hs:(P.info? e).map (·.size)=O (U.sz q))(h1:lo<=hi)(h2:hi<=l.length)
  (hb:∀cap,l.length<=cap->∀w',(Instr.sliceBounds wE l.length cap (L.map ρ) (H.map ρ) wC).run P w'= .ok (lo,hi,cap) w'):∃v,Rel A w (.sl q ((l.take hi).drop lo)) v/\∀w':World,(execOp ρ o).run P w'= .ok (.value v) w':=by
 obtain⟨p,cap,u,hv,hl,hcap,_⟩:=hx.tX
 rw[hv]at hx
 refine⟨.slice (if cap=lo then p else p.map (·.add (lo*(U.sz q)))) (hi-lo) (cap-lo),hx.ai0 h1 h2 (by omega) _ ?_,fun w'=> ?_⟩
 ·by_cases h:cap=lo
  ·left;omega
  ·right;rw[if_neg h]
 ·have:=RD (P:=P) (T:=T) (w:=w') (a:=p) (len:=l.length) hT hs (hb cap hcap w')
  simp[execOp,ho,hv,Instr.sliceAt,run_underlying hT,this]
theorem Yp.ajG{q:Nat}{l:List (U.cH q)}(ho:o.op= .slice T x (O y) (O z) wC)(hx:E.ev x=O (.sl q l))(hy:E.ev y=O (.n k m))(hz:E.ev z=O (.n k' n))(hT:P.underlying T=O (.slice e))(hs:(P.info? e).map (·.size)=O (U.sz q))
  (hm:0<=m/\m<=n/\n<=(l.length:Int)):Yp P E σ o (.sl q ((l.take n.toNat).drop m.toNat)):=fun A w ρ _ hρ=>by
 obtain⟨v,h1,h2⟩:=vp (P:=P) (lo:=m.toNat) (hi:=n.toNat) ho (hρ _ _ hx) hT hs (by omega) (by omega) (fun cap hc w'=>by
  simp only[yg,(hρ _ _ hy).cg,(hρ _ _ hz).cg]
  exact Ir hm hc)
 exact⟨v,h1,fun w' _=>h2 w'⟩
theorem Yp.ZT{q:Nat}{l:List (U.cH q)}(ho:o.op= .slice T x wC (O z) wC)(hx:E.ev x=O (.sl q l))(hz:E.ev z=O (.n k' n))(hT:P.underlying T=O (.slice e))(hs:(P.info? e).map (·.size)=O (U.sz q))
  (hm:0<=n/\n<=(l.length:Int)):Yp P E σ o (.sl q (l.take n.toNat)):=fun A w ρ _ hρ=>by
 obtain⟨v,h1,h2⟩:=vp (P:=P) (lo:=0) (hi:=n.toNat) ho (hρ _ _ hx) hT hs (by omega) (by omega) (fun cap hc w'=>by
  simp only[yg,Option.map_none,(hρ _ _ hz).cg]
  exact RP hm hc)
 exact⟨v,h1,fun w' _=>h2 w'⟩
theorem Yp.abY{q:Nat}{l:List (U.cH q)}(ho:o.op= .slice T x (O y) wC wC)(hx:E.ev x=O (.sl q l))(hy:E.ev y=O (.n k m))(hT:P.underlying T=O (.slice e))(hs:(P.info? e).map (·.size)=O (U.sz q))
  (hm:0<=m/\m<=(l.length:Int)):Yp P E σ o (.sl q (l.drop m.toNat)):=fun A w ρ _ hρ=>by
 obtain⟨v,h1,h2⟩:=vp (P:=P) (lo:=m.toNat) (hi:=l.length) ho (hρ _ _ hx) hT hs (by omega) (by omega) (fun cap hc w'=>by
  simp only[yg,Option.map_none,(hρ _ _ hy).cg]
  exact Rn hm)
 rw[zG]at h1
 exact⟨v,h1,fun w' _=>h2 w'⟩
theorem Yv.O6{sz':Nat}{q:Nat}{l:List (U.cH q)}(ho:o.op= .slice T x wC (O (.const (.int k 0))) (O (.const (.int k' 0))))(hx:E.ev x=O (.sl q l)\/E.ev x=O (.lit (.slice wC 0 0)))(hT:P.underlying T=O (.slice e))(hs:(P.info? e).map (·.size)=O sz'):
  Yv P E σ o C [] (fun a σ'=>∃v,a= .lit v/\σ'= .row v e ([]:List (U.cH e))::σ):=fun w ρ hg hρ=>by
 obtain⟨j,hj,hj'⟩:=zf.1 hs
 obtain⟨p,n,cap,hv⟩:∃p n cap,ρ x= .slice p n cap:=by
  rcases hx with hx|hx
  ·obtain⟨p,cap,u,hv,_⟩:=(hρ _ _ hx).tX
   exact⟨p,_,cap,hv⟩
  ·exact⟨wC,0,0,(hρ _ _ hx).cg⟩
 have h0:ρ (.const (.int k 0))= .int k 0:=(hρ (.const (.int k 0)) _ rfl).cg
 have h0':ρ (.const (.int k' 0))= .int k' 0:=(hρ (.const (.int k' 0)) _ rfl).cg
 refine⟨.slice p 0 0,w,_,_,⟨_,rfl,rfl⟩,oI hg (Kp.refl [] w) (.inl (by cases p<;>rfl)) ⟨[],⟨by simp, .inl ⟨_,rfl,rfl⟩⟩,fun i hi=>by simp at hi,fun i hi=>by simp at hi⟩,?_, .lit _⟩
 simp[execOp,ho,hv,h0,h0',Instr.sliceAt,Instr.slice,Instr.sliceBounds,Instr.sliceBound,run_underlying hT,sizeOf,typeInfo,hj,asIntOf]
theorem Yp.ahD{p:Option Addr}{l c:Nat}(ho:o.op= .binOp .eql T x y T')(hx:E.ev x=O (.lit (.slice p l c)))(hy:E.ev y=O (.lit (.slice wC 0 0)))(hT:P.underlying T=O (.slice e)):Yp P E σ o (.b p.isNone):=Yp.lits fun ρ hρ w=>by
 have:=Lib.run_eql_slice_nil (P:=P) w T e p l c 0 0 hT
 simp[execOp,ho,hρ _ _ hx,hρ _ _ hy,eqGuard,this]
theorem NU{w:World}(p:Option Addr)(q:Nat)(h:Good C σ w):Tr C [] σ w (.row (.slice p 0 0) q ([]:List (U.cH q))::σ) w:=
 oI h (Kp.refl [] w) (.inl (by cases p<;>rfl)) ⟨[],⟨by simp, .inl ⟨_,rfl,rfl⟩⟩,fun i hi=>by simp at hi,fun i hi=>by simp at hi⟩
def Vw(σ:List cc)(a a':AV):Prop:=∀(A:Nat->Prop) (w:World) (v:Value),Hd A σ w->Rel A w a v->Rel (fun b=>A b\/b∈bh σ) w a' v
theorem Vw.row{q:Nat}{l:List (U.cH q)}(i:Nat)(hσ:σ[i]? =O (.row v q l)):Vw σ (.lit v) (.sl q l):=fun A w u hd h=>by
 have hu:=h.cg
 subst hu
 have hm:=List.mem_of_getElem? hσ
 obtain⟨us,h1,h2,h3⟩:=hd.1 _ hm
 have hlm:l.length<=9223372036854775807:=by
  rcases h1.2 with ⟨_,_,h⟩|⟨_,_,_,_,_,q1,q2,_⟩
  ·omega
  ·unfold maxLen at q2;omega
 obtain⟨p,cap,hv,hcap⟩:=h1.len
 by_cases h0:l.length=0
 ·rw[hv]
  exact .sl q l p cap (fun _ _=>undef) hlm hcap (fun i hi=>by omega) (fun i hi=>by omega) (fun i j a hi=>by omega)
 ·obtain⟨g,ck,cur,hv2,hgb,hB,_⟩:=h1.at (by omega)
  rw[hv2]at hv
  cases hv
  rw[hv2]
  refine .sl q l _ (ck+1) (fun i j=>(us[i*(U.sz q)+j]?).getD undef) hlm hcap h2 (fun i hi=>⟨g,0,rfl,hB.lt, .inr (bD.2 ⟨_,hm,hgb⟩),fun j hj=> ?_⟩) (fun i j a hi ha=> ?_)
  ·have hlt:i*(U.sz q)+j<us.length:=by
    have:i*(U.sz q)+(U.sz q)<=l.length*(U.sz q):=by rw[<-yE];exact yt _ hi
    rw[h1.1];omega
   rw[yu,zl hlt]
   exact h1.cells hgb _ _ (zl hlt)
  ·obtain⟨u,q1,q2⟩:=(h3 i hi).get ha
   rw[yq]at q1
   split at q1
   ·rw[ym]at q1
    rw[q1]
    exact q2.mono fun b _ hA=>⟨.inl hA,rfl⟩
   ·cases q1
theorem Vw.nil(q:Nat):Vw σ (.lit (.slice wC 0 0)) (.sl q ([]:List (U.cH q))):=fun A w u _ h=>by
 have hu:=h.cg
 subst hu
 exact .sl q [] none 0 (fun _ _=>undef) (by simp) (by simp) (fun i hi=>by cases hi) (fun i hi=>by cases hi) (fun i j a hi=>by cases hi)
theorem M4{r:cc}{i:Nat}(hσ:σ[i]? =O r):List.Perm (bh σ) (bh (r::σ.eraseIdx i)):=by
 obtain⟨h1,_⟩:=vG (r':=r) hσ
 have h2:σ.eraseIdx i=σ.take i++σ.drop (i+1):=wj ..
 rw[h2]
 have hp:List.Perm (σ.take i++r::σ.drop (i+1)) (r::(σ.take i++σ.drop (i+1))):=List.perm_middle
 rw[<-h1]at hp
 exact hp.filterMap _
theorem Is{r:cc}{i:Nat}{w:World}(hσ:σ[i]? =O r)(hg:Good C σ w):∀b,(al C σ b\/b∈bh [r])->al C (σ.eraseIdx i) b:=fun b hb=>by
 have hp:=M4 hσ
 have hnd:=hp.nodup_iff.1 hg.DW
 rcases hb with hb|hb
 ·exact⟨hb.1,fun hx=>hb.2 (hp.mem_iff.2 (by rw[dV];exact yA _ hx))⟩
 ·have hbs:b∈r.blk.toList:=by rw[dV]at hb;simpa [bh]using hb
  refine⟨?_,fun hx=> ?_⟩
  ·rcases hg.own b (hp.mem_iff.2 (by rw[dV];exact yz _ hbs))with h|h
   ·exact .inr (.inl h)
   ·exact .inr (.inr h)
  ·rw[dV]at hnd
   exact(yy.1 hnd).2.2 b hbs b hx rfl
end
def Fn(P:Program)(f:FuncId)(args:List AV)(σ:List cc)(Φ:AV->List cc->Prop):Prop:=
 ∀(w:World) (A:Nat->Prop) (vs:List Value),bq A w args vs->Hd A σ w->(bh σ).Nodup->
  Calls P f vs.toArray w fun e w'=>∃v av σ',e= .returned v/\Φ av σ'/\Tr ⟨w,A,bh σ⟩ (bh σ) σ w σ' w'/\Rel (al ⟨w,A,bh σ⟩ σ') w' av v
theorem Fn.mono{P:Program}{f:FuncId}{args:List AV}{σ:List cc}{Φ Ψ:AV->List cc->Prop}(h:Fn P f args σ Φ)(hp:∀a s,Φ a s->Ψ a s):Fn P f args σ Ψ:=fun w A vs h1 h2 h3=>
 (h w A vs h1 h2 h3).mono fun _ _ ⟨v,av,σ',q1,q2,q3⟩=>⟨v,av,σ',q1,hp _ _ q2,q3⟩
def dM:Nat->List AV->Env
 |_,[]=>[]
 |i,v::l=>(i,v)::dM (i+1) l
theorem wS:∀(l:List AV) (i t:Nat) (v:AV),Env.get (dM i l) t=O v->i<=t/\l[t-i]? =O v
 |[],_,_,_,h=>by cases h
 |u::l,i,t,v,h=>by
  by_cases hit:i=t
  ·subst hit
   rw[dM,Env.dN]at h
   cases h
   simp
  ·rw[dM,Env.cV _ _ hit]at h
   obtain⟨h1,h2⟩:=wS l (i+1) t v h
   refine⟨by omega,?_⟩
   rw[show t-i=(t-(i+1))+1 from by omega]
   simpa using h2
def YL(P:Program)(C:Cx)(n:Nat)(fn:Func)(Φ:AV->List cc->Prop):Exit->Env->List cc->Prop:=fun e E σ=>
 (e= .normal\/e= .ret)/\∀a w,sM C n E σ a w->∃v av σ',Φ av σ'/\(results fn a.tmps).run P w= .ok v w/\Good C σ' w/\(∀b,al C σ b->al C σ' b)/\Rel (al C σ') w av v
structure Tn (C:Cx) (w w':World):Prop where
 os:w'.os=w.os
 tape:w'.tape=w.tape
 output:w'.output=w.output
 size:w.heap.size<=w'.heap.size
 old:∀k,k<C.w0.heap.size->w'.heap[k]? =w.heap[k]?
 same:∀(b:Nat) cs T m,w.heap[b]? =O (Obj.cells cs T m)->w'.heap[b]? =w.heap[b]?
theorem Rel.Hi{C:Cx}{A:Nat->Prop}{w w':World}{av:AV}{v:Value}(h:Rel A w av v)(ht:Tn C w w'):Rel A w' av v:=by
 have hcell:∀b i u,w.cell? ⟨b,i,wC⟩=O u->w'.cell? ⟨b,i,wC⟩=O u:=fun b i u hc=>by
  rw[<-hc]
  cases hb:w.heap[b]? with
  |none=>simp[World.cell?,hb]at hc
  |some o=>
   cases o with
   |cells cs T m=>exact World.cell?_of_block (ht.same b cs T m hb)
   |_=>simp[World.cell?,hb]at hc
 induction h with
 |lit v=>exact .lit v
 |sl q l p cap u hl hcap hz hc hr ih=>
  refine .sl q l p cap u hl hcap hz (fun i hi=> ?_) ih
  obtain⟨b,off,h1,h2,h3,h4⟩:=hc i hi
  exact⟨b,off,h1,xH h2 ht.size,h3,fun j hj=>hcell _ _ _ (h4 j hj)⟩
 |fp cs b o us hb hA hl hc hr ih=>exact .fp cs b o us (xH hb ht.size) hA hl (fun j v hj=>hcell _ _ _ (hc j v hj)) ih
 |rp v k g h=>exact .rp v k g h
 |agg cs us hl hr ih=>exact .agg cs us hl ih
 |iA cs us hl hr ih=>exact .iA cs us hl ih
 |fn f cs us hl hr ih=>exact .fn f cs us hl ih
theorem cc.ok.Hi{C:Cx}{A:Nat->Prop}{w w':World}{r:cc}(h:r.ok A w)(ht:Tn C w w'):r.ok A w':=by
 cases r with
 |box b T cs=>
  obtain⟨us,h1,h2⟩:=h
  exact⟨us,(ht.same _ _ _ _ h1).trans h1,h2.1,fun j a v q1 q2=>(h2.2 j a v q1 q2).Hi ht⟩
 |row v q l=>
  obtain⟨us,h1,h2,h3⟩:=h
  refine⟨us,⟨h1.1,?_⟩,h2,fun i hi=>⟨(h3 i hi).1,fun j a v q1 q2=>((h3 i hi).2 j a v q1 q2).Hi ht⟩⟩
  rcases h1.2 with q|⟨g,cap,cur,rfl,q1,q2⟩
  ·exact .inl q
  ·exact .inr ⟨g,cap,cur,rfl,(ht.same _ _ _ _ q1).trans q1,q2⟩
theorem Good.Hi{C:Cx}{σ:List cc}{w w':World}(h:Good C σ w)(ht:Tn C w w'):Good C σ w':=
 ⟨⟨ht.os.trans h.kept.os,ht.tape.trans h.kept.tape,ht.output.trans h.kept.output,zy h.kept.size ht.size,fun k hk hX=>(ht.old k hk).trans (h.kept.block k hk hX)⟩,
  fun r hr=>(h.res r hr).Hi ht,h.DW,h.own⟩
theorem Tn.putObj{C:Cx}{w:World}{D:Nat}{o:Obj}(o':Obj)(hw:C.w0.heap.size<=D)(hD:w.heap[D]? =O o)(ho:o.isCells=wD):Tn C w (w.putObj D o'):=
 ⟨rfl,rfl,rfl,by simp[World.putObj],fun k hk=>World.putObj_heap_other (by omega),fun b cs T m hx=>World.putObj_heap_other fun e=>by
  subst e
  rw[hD]at hx
  cases hx
  cases ho⟩
theorem kj.Hi{C:Cx}{A:Nat->Prop}{w w':World}{E:Env}{tmps:Array Value}(h:kj A w E tmps)(ht:Tn C w w'):kj A w' E tmps:=fun t av q=>let ⟨v,h1,h2⟩:=h t av q;⟨v,h1,h2.Hi ht⟩
theorem Fn.of{P:Program}{f:FuncId}{fn:Func}{c:Code}{n:Nat}{args:List AV}{σ:List cc}{Φ:AV->List cc->Prop}(hf:P.funcs[f]? =O fn)(hb:fn.body=O c)(hn:fn.ntmps=n)(hl:ya args.length n=wE)
  (h:∀C,CW P C n c (YL P C n fn Φ) (dM 0 args) σ):Fn P f args σ Φ:=fun w A vs hr hd hnd=>by
 have hl':args.length<=n:=by simpa using hl
 have hvl:=hr.1
 have hal:∀b,b<w.heap.size->A b->al ⟨w,A,bh σ⟩ σ b:=fun b _ hA=>⟨.inl hA,fun hx=>hd.2 b hx hA⟩
 have hgood:Good ⟨w,A,bh σ⟩ σ w:=⟨Kp.refl _ _,fun r hr=>(hd.1 r hr).mono (fun b hb hA=>⟨hal b hb hA,rfl⟩) (fun _ _=>rfl),hnd,fun b hb=> .inl hb⟩
 refine callsIn_wide.1 (callsIn_of_wp_marks (n:=0) hf hb trivial (wpIn_wide.2 (wp_mono (h ⟨w,A,bh σ⟩ _ w ⟨.nil rfl,?_,fun t v ht=> ?_,hgood⟩) ?_)))
 ·simp[hn,hvl];omega
 ·obtain⟨_,h2⟩:=wS args 0 t v ht
  rw[Nat.sub_zero]at h2
  obtain⟨u,h3,h4⟩:=hr.get h2
  have hlt:t<vs.length:=(zS.1 h3).1
  refine⟨u,?_,h4.mono fun b hb hA=>⟨hal b hb hA,rfl⟩⟩
  rw[Array.getElem?_append_left (by simpa using hlt)]
  simpa using h3
 ·rintro e a' w' ⟨E',σ',h1,he,h2⟩
  have fin:∀(w'':World),sM ⟨w,A,bh σ⟩ n E' σ' {a' with defers:=[]} w''->∃v,(results fn a'.tmps).run P w''= .ok v w''/\∃v' av σ'',Ending.returned v= .returned v'/\Φ av σ''/\Tr ⟨w,A,bh σ⟩ (bh σ) σ w σ'' w''/\Rel (al ⟨w,A,bh σ⟩ σ'') w'' av v':=fun w'' hs=>by
   obtain⟨v,av,σ'',h3,h4,h5,h6,h7⟩:=h2 _ w'' hs
   have hex:Tr ⟨w,A,bh σ⟩ (bh σ) σ w σ'' w'':=⟨h5,h5.kept,fun b hb hA=>⟨⟨hA.1,fun hx=>by
    rcases h5.own b hx with h|h
    ·exact hA.2 h
    ·exact absurd hb (by have:w.heap.size<=b:=h;omega)⟩,hA.2⟩⟩
   exact⟨v,h4,v,av,σ'',rfl,h3,hex,h7⟩
  have lv:LeavesInM Fence.wide 0 P fn a'.tmps (fun e w'=>∃v av σ',e= .returned v/\Φ av σ'/\Tr ⟨w,A,bh σ⟩ (bh σ) σ w σ' w'/\Rel (al ⟨w,A,bh σ⟩ σ') w' av v) a'.defers .returning w':=by
   obtain⟨Ds,hd1,hd2,hd3⟩:=h1.defers
   rw[hd1]
   have hsl:=h1.slots
   have hgd:=h1.good
   have hsz:=h1.size
   clear hd1 h1
   induction Ds generalizing w' with
   |nil=>exact fin w' ⟨.nil rfl,hsz,hsl,hgd⟩
   |cons D Ds ih=>
    obtain⟨q1,q2,q3,q4⟩:=hd3 D zg
    rw[List.nodup_cons]at hd2
    refine⟨by simp, .inl ⟨D,_,rfl,run_takeDeferred q4,?_⟩⟩
    have ht:Tn ⟨w,A,bh σ⟩ w' (w'.putObj D (.deferred wC)):= .putObj _ q2 q4 rfl
    refine ih _ hd2.2 (fun D' hD'=> ?_) (hsl.Hi ht) (hgd.Hi ht)
    obtain⟨p1,p2,p3,p4⟩:=hd3 D' (zC _ hD')
    have hne:D'≠D:=fun e=>hd2.1 (e▸hD')
    exact⟨xH p1 ht.size,p2,p3,(World.putObj_heap_other hne).trans p4⟩
  rcases he with rfl|rfl
  ·exact lv
  ·exact lv
def sD(tmps:Array Value):ResultVar->Sem Value
 | .tmp t=>pure (tmps.getD t undef)
 | .cell a t=>do loadVar t (<-asAddr (tmps.getD a undef))
def Bn(P:Program)(E:Env)(σ:List cc)(rv:ResultVar)(av:AV):Prop:=∀(A:Nat->Prop) (w:World) (tmps:Array Value),Hd A σ w->kj A w E tmps->∃v,(sD tmps rv).run P w= .ok v w/\Rel A w av v
section
variable {P:Program} {C:Cx} {n:Nat} {fn:Func} {E:Env} {σ σ':List cc} {t u:Nat} {av:AV} {e:Exit} {Φ:AV->List cc->Prop}
theorem Bn.tmp(h:E.get t=O av):Bn P E σ (.tmp t) av:=fun A w tmps _ hs=>by
 obtain⟨v,h1,h2⟩:=hs t av h
 exact⟨v,by simp[sD,h1],h2⟩
theorem Bn.aqP{g:Nat}{ty T:TypeId}{cs:List AV}(i:Nat)(h:E.get t=O (.lit (.pointer (O ⟨g,0,wC⟩))))(hσ:σ[i]? =O (.box g T cs))(hT:qO P ty)(ha:cs[0]? =O av):Bn P E σ (.cell t ty) av:=fun A w tmps hd hs=>by
 obtain⟨v,h1,h2⟩:=hs t _ h
 have h2:=h2.cg
 subst h2
 obtain⟨us,h3,h4⟩:=hd.1 _ (List.mem_of_getElem? hσ)
 obtain⟨v,h5,h6⟩:=h4.get ha
 exact⟨v,by simp[sD,h1,asAddr,gK hT (h3.cell (by simpa using h5))],h6⟩
theorem Bn.aoN{g k:Nat}{ty T:TypeId}{cs:List AV}(i:Nat)(h:E.get t=O (.lit (.pointer (O ⟨g,0,wC⟩))))(hσ:σ[i]? =O (.box g T cs))(hT:rW P ty k)(hk:cs.length=k):Bn P E σ (.cell t ty) (.agg cs):=fun A w tmps hd hs=>by
 obtain⟨v,h1,h2⟩:=hs t _ h
 have h2:=h2.cg
 subst h2
 obtain⟨us,h3,h4⟩:=hd.1 _ (List.mem_of_getElem? hσ)
 refine⟨_,?_,Rel.nO h4⟩
 have:=gu (P:=P) (T:=ty) (w:=w) (a:=⟨g,0,wC⟩) (cs:=us) (by rw[h4.1,hk];exact hT) (fun j u hj=>by rw[nW,yu];exact h3.cell (by simpa using hj))
 simp[sD,h1,asAddr,this]
theorem Vk(he:e= .normal\/e= .ret)(hs:List.Sublist σ' σ)(hΦ:Φ av σ')(h:∀A w tmps,Hd A σ w->kj A w E tmps->∃v,(results fn tmps).run P w= .ok v w/\Rel A w av v):YL P C n fn Φ e E σ:=
 ⟨he,fun a w ha=>by
  obtain⟨v,h1,h2⟩:=h _ w a.tmps ha.good.hd ha.slots
  have hl:=ha.less hs
  have hal:∀b,al C σ b->al C σ' b:=fun b hb=>⟨hb.1,fun hx=>hb.2 (nZ (fun r hr=>hs.subset hr) b hx)⟩
  exact⟨v,av,σ',hΦ,h1,hl.good,hal,h2.mono fun b _ hA=>⟨hal b hA,rfl⟩⟩⟩
end
def vq(P:Program)(f:FuncId):Prop:=∃fn,P.funcs[f]? =O fn/\(fn.name=="runtime.NumGoroutine")=wD/\fn.body.isNone=wD
theorem Ai{P:Program}{f:FuncId}{w:World}(hf:vq P f)(args:Array Value):(callFunc f args).run P w= .ok (.enter f args) w:=by
 obtain⟨fn,h1,h2,h3⟩:=hf
 have h2':¬fn.name="runtime.NumGoroutine":=by simpa using h2
 have h3':¬fn.body=wC:=by
  intro h
  rw[h]at h3
  cases h3
 simp[callFunc,program,Sem.run,h1,h2',h3']
def Cl(a:AV):Prop:=∀A A' w v,Rel A w a v->Rel A' w a v
theorem Cl.lit(v:Value):Cl (.lit v):=fun A A' w u h=>by rw[h.cg];exact .lit v
def HX(as0:List AV):Prop:=∀A A' w us,bq A w as0 us->bq A' w as0 us
theorem HX.nil:HX []:=fun A A' w us h=>by
 have:us=[]:=yR (by simpa using h.1)
 rw[this];exact bq.nil
theorem HX.cons{a:AV}{as0:List AV}(h:Cl a)(hs:HX as0):HX (a::as0):=fun A A' w us hr=>by
 obtain⟨v,us',rfl,h1,h2⟩:=hr.head
 exact bq.cons (h A A' w v h1) (hs A A' w us' h2)
theorem Cl.agg{as0:List AV}(h:HX as0):Cl (.agg as0):=fun A A' w v hr=>by
 obtain⟨us,rfl,h1⟩:=hr.mX
 exact Rel.nO (h A A' w us h1)
theorem Cl.iA{as0:List AV}(h:HX as0):Cl (.iA as0):=fun A A' w v hr=>by
 obtain⟨us,rfl,h1⟩:=hr.Nc
 exact Rel.DJ (h A A' w us h1)
def ClR(r:cc):Prop:=∀A A' w,r.ok A w->r.ok A' w
theorem ClR.box{b:Nat}{T:TypeId}{cs:List AV}(h:HX cs):ClR (.box b T cs):=fun A A' w ⟨us,h1,h2⟩=>⟨us,h1,h A A' w us h2⟩
theorem ClR.row{v:Value}{q:Nat}{l:List (U.cH q)}(h:∀x,HX (U.cells q x)):ClR (.row v q l):=fun A A' w ⟨us,h1,h2,h3⟩=>⟨us,h1,h2,fun i hi=>h _ A A' w _ (h3 i hi)⟩
section
variable {P:Program} {C:Cx} {E:Env} {σ σp σr:List cc} {o:Oper} {x:Operand} {f:FuncId} {xs:Array Operand} {ts:Array TypeId} {as0 caps args:List AV} {Φ:AV->List cc->Prop}
theorem Wa{A:Nat->Prop}{w:World}{ρ:Operand->Value}(ho:o.op= .call {callee:= .value x,args:=xs,argTypes:=ts})(hx:E.ev x=O (.fn (.func f) caps))(hf:vq P f)(he:E.KJ xs.toList=O as0)(ha:as0++caps=args)(hρ:KQ A w E ρ):∃us:List Value,bq A w args us/\(execOp ρ o).run P w= .ok (.enter f us.toArray) w:=by
 obtain⟨us,h1,h2⟩:=(hρ _ _ hx).Vp
 have h3:=Env.Hq hρ he
 refine⟨xs.toList.map ρ++us,ha▸h3.app h2,?_⟩
 have h4:xs.map ρ=(xs.toList.map ρ).toArray:=by apply Array.ext';simp
 simp[execOp,ho,resolve,h1,Deferred.ofValue,invoke,Ai hf,h4]
theorem bt{σp σr:List cc}{b:Nat}:b∈bh (σp++σr)↔b∈bh σp\/b∈bh σr:=by rw[fZ,zP]
theorem Av{w w':World}{A:Nat->Prop}{σo:List cc}(hg:Good C (σp++σr) w)(hA:∀b,A b->b<w.heap.size->al C (σp++σr) b\/b∈bh σr)(ht:Tr ⟨w,A,bh σp⟩ (bh σp) σp w σo w')
  (hok:∀r∈σo,r.ok (al C (σo++σr)) w'):Tr C (bh σp) (σp++σr) w (σo++σr) w':=by
 have hlt:∀b∈bh (σp++σr),b<w.heap.size:=fun b hb=>by
  obtain⟨s,h1,h2⟩:=bD.1 hb
  exact(hg.res s h1).lt h2
 have hdis:=hg.DW
 rw[fZ]at hdis
 obtain⟨d1,d2,d3⟩:=yy.1 hdis
 have hown:∀b∈bh σo,b∈bh σp\/w.heap.size<=b:=ht.good.own
 have hal:∀b,b<w.heap.size->al C (σp++σr) b->al C (σo++σr) b/\b∉bh σp:=fun b hb hA=>by
  have h2:b∉bh σp/\b∉bh σr:=by
   have:=hA.2
   rw[bt]at this
   exact⟨fun h=>this (.inl h),fun h=>this (.inr h)⟩
  refine⟨⟨hA.1,fun hx=> ?_⟩,h2.1⟩
  rcases bt.1 hx with h|h
  ·rcases hown b h with h|h
   ·exact h2.1 h
   ·omega
  ·exact h2.2 h
 refine⟨⟨hg.kept.trans ht.kp (fun b hb hlt0=> ?_),fun r hr=> ?_,?_,fun b hb=> ?_⟩,ht.kp,hal⟩
 ·rcases hg.own b (bt.2 (.inl hb))with h|h
  ·exact h
  ·exact absurd hlt0 (by omega)
 ·rcases zP.1 hr with h|h
  ·exact hok r h
  ·refine(hg.res r (yA _ h)).mono (fun b hb hA=>⟨(hal b hb hA).1,ht.kp.block b hb (hal b hb hA).2⟩) (fun b hb=> ?_)
   have hbr:b∈bh σr:=bD.2 ⟨r,h,hb⟩
   exact ht.kp.block b (hlt b (bt.2 (.inr hbr))) (fun hp=>d3 b hp b hbr rfl)
 ·rw[fZ]
  refine yy.2 ⟨ht.good.DW,d2,fun a ha b hb hab=> ?_⟩
  subst hab
  rcases hown a ha with h|h
  ·exact d3 a h a hb rfl
  ·have:=hlt a (bt.2 (.inr hb));omega
 ·rcases bt.1 hb with h|h
  ·rcases hown b h with h|h
   ·exact hg.own b (bt.2 (.inl h))
   ·exact .inr (zy hg.kept.size h)
  ·exact hg.own b (bt.2 (.inr h))
theorem Yc.fn(ho:o.op= .call {callee:= .value x,args:=xs,argTypes:=ts})(hx:E.ev x=O (.fn (.func f) caps))(hf:vq P f)(he:E.KJ xs.toList=O as0)(ha:as0++caps=args)(hσ:σ=σp++σr)(h:Fn P f args σp Φ):
  Yc P E σ o C (bh σp) (fun av σ'=>∃σo,Φ av σo/\σ'=σo++σr):=fun w ρ hg hρ=>by
 subst hσ
 obtain⟨us,h1,h2⟩:=Wa ho hx hf he ha hρ
 have hlt:∀b∈bh (σp++σr),b<w.heap.size:=fun b hb=>by
  obtain⟨s,h1,h2⟩:=bD.1 hb
  exact(hg.res s h1).lt h2
 have hd:Hd (al C (σp++σr)) σp w:=⟨fun r hr=>hg.res r (yz _ hr),fun b hb hA=>hA.2 (bt.2 (.inl hb))⟩
 have hnd:(bh σp).Nodup:=by have:=hg.DW;rw[fZ]at this;exact(yy.1 this).1
 refine⟨f,us.toArray,h2,(h w (al C (σp++σr)) us h1 hd hnd).mono fun e w' ⟨v,av,σo,q1,q2,q3,q4⟩=> ?_⟩
 have hown:∀b∈bh σo,b∈bh σp\/w.heap.size<=b:=q3.good.own
 have hsub:∀b,b<w'.heap.size->al ⟨w,al C (σp++σr),bh σp⟩ σo b->al C (σo++σr) b:=fun b _ hb=>by
  obtain⟨hb1,hb2⟩:=hb
  rcases hb1 with hb1|hb1|hb1
  ·exact⟨hb1.1,fun hx=>(bt.1 hx).elim hb2 (fun h=>hb1.2 (bt.2 (.inr h)))⟩
  ·have hbp:b∈bh σp:=hb1
   refine⟨?_,fun hx=>(bt.1 hx).elim hb2 (fun h=> ?_)⟩
   ·rcases hg.own b (bt.2 (.inl hbp))with h|h
    ·exact .inr (.inl h)
    ·exact .inr (.inr h)
   ·have hdis:=hg.DW
    rw[fZ]at hdis
    exact(yy.1 hdis).2.2 b hbp b h rfl
  ·have hbw:w.heap.size<=b:=hb1
   exact⟨.inr (.inr (zy hg.kept.size hbw)),fun hx=>(bt.1 hx).elim hb2 (fun h=>by have:=hlt b (bt.2 (.inr h));omega)⟩
 exact⟨v,av,σo++σr,q1,⟨σo,q2,rfl⟩,Av hg (fun b hA _=> .inl hA) q3 (fun r hr=>(q3.good.res r hr).mono (fun b hb hA=>⟨hsub b hb hA,rfl⟩) (fun _ _=>rfl)),q4.mono fun b hb hA=>⟨hsub b hb hA,rfl⟩⟩
end
end Go.Iv
namespace Go.Iv
variable [U:qT]
open Go Go.RowKit
section
variable {P:Program} {E E':Env} {σ σ':List cc} {o:Oper} {x:Operand} {av bv:AV} {C:Cx} {X:List Nat} {n:Nat}
end
theorem wW{α:Type}{c:Prop}[Decidable c]{a:Option α}{r:α}(h:(if c then a else wC)=O r):c/\a=O r:=by
 split at h
 ·exact⟨by assumption,h⟩
 ·cases h
abbrev cN(k:IntKind)(n:Int):List AV:=[.n k n]
abbrev cB(b:Bool):List AV:=[.b b]
instance:Inhabited ByteArray:=⟨.empty⟩
end Go.Iv
namespace Go.Iv
variable [U:qT]
open Go Go.RowKit
section
variable {P:Program} {E E':Env} {σ σ':List cc} {o:Oper} {x:Operand} {av bv:AV} {C:Cx} {X:List Nat} {n:Nat}
theorem Yp.conv{T T':TypeId}{k k':IntKind}{m:Int}(hT:P.underlying T=O (.int k))(hT':P.underlying T'=O (.int k'))(ho:o.op= .convert T T' x)(hx:E.ev x=O (.n k m)):Yp P E σ o (.n k' (k'.wrap m)):=Yp.lits fun ρ hρ w=>by
 simp[execOp,ho,hρ _ _ hx,convert,run_underlying hT,run_underlying hT',Conv.intToInt]
end
structure Gh where
 v:Nat->Value
 b:Nat->Nat
def bP.sub(ρ:Gh):AV->AV
 | .lit v=> .lit v
 | .sl t l=> .sl t l
 | .fp cs=> .fp (cs.map (bP.sub ρ))
 | .rp v k=> .rp v k
 | .agg cs=> .agg (cs.map (bP.sub ρ))
 | .iA cs=> .iA (cs.map (bP.sub ρ))
 | .fn f cs=> .fn f (cs.map (bP.sub ρ))
 | .own id=> .lit (ρ.v id)
 | .ptr id off=> .lit (.pointer (O ⟨ρ.b id,off,wC⟩))
 | .ra id t m off=> .rp (ρ.v id) (m*U.sz t+off)
inductive fR (p:Nat->Prop):AV->Prop
 |lit (v:Value):fR p (.lit v)
 |sl (t:Nat) (l:List (U.cH t)):fR p (.sl t l)
 |fp (cs:List AV) (h:∀c∈cs,fR p c):fR p (.fp cs)
 |rp (v:Value) (k:Nat):fR p (.rp v k)
 |agg (cs:List AV) (h:∀c∈cs,fR p c):fR p (.agg cs)
 |iA (cs:List AV) (h:∀c∈cs,fR p c):fR p (.iA cs)
 |fn (f:Go.Fn) (cs:List AV) (h:∀c∈cs,fR p c):fR p (.fn f cs)
 |own (id:Nat) (h:p id):fR p (.own id)
 |ptr (id off:Nat) (h:p id):fR p (.ptr id off)
 |ra (id t m off:Nat) (h:p id):fR p (.ra id t m off)
abbrev cj(n:Nat):AV->Prop:=fR (fun i=>i<n)
def Ags(p:Nat->Prop)(ρ ρ':Gh):Prop:=∀i,p i->ρ.v i=ρ'.v i/\ρ.b i=ρ'.b i
theorem fR.mono{p q:Nat->Prop}{d:AV}(h:fR p d)(hn:∀i,p i->q i):fR q d:=by
 induction h with
 |lit v=>exact .lit v
 |sl t l=>exact .sl t l
 |fp cs _ ih=>exact .fp cs ih
 |rp v k=>exact .rp v k
 |agg cs _ ih=>exact .agg cs ih
 |iA cs _ ih=>exact .iA cs ih
 |fn f cs _ ih=>exact .fn f cs ih
 |own id h=>exact .own id (hn _ h)
 |ptr id off h=>exact .ptr id off (hn _ h)
 |ra id t m off h=>exact .ra id t m off (hn _ h)
theorem fR.sub{p:Nat->Prop}{d:AV}{ρ ρ':Gh}(h:fR p d)(ha:Ags p ρ ρ'):d.sub ρ=d.sub ρ':=by
 have key:∀cs:List AV,(∀c∈cs,c.sub ρ=c.sub ρ')->cs.map (bP.sub ρ)=cs.map (bP.sub ρ'):=fun cs h=>zQ h
 induction h with
 |lit v=>simp only[bP.sub]
 |sl t l=>simp only[bP.sub]
 |fp cs _ ih=>simp only[bP.sub];rw[key cs ih]
 |rp v k=>simp only[bP.sub]
 |agg cs _ ih=>simp only[bP.sub];rw[key cs ih]
 |iA cs _ ih=>simp only[bP.sub];rw[key cs ih]
 |fn f cs _ ih=>simp only[bP.sub];rw[key cs ih]
 |own id h=>simp only[bP.sub];rw[(ha id h).1]
 |ptr id off h=>simp only[bP.sub];rw[(ha id h).2]
 |ra id t m off h=>simp only[bP.sub];rw[(ha id h).1]
theorem fR.VK{p:Nat->Prop}{cs:List AV}{ρ ρ':Gh}(h:∀c∈cs,fR p c)(ha:Ags p ρ ρ'):cs.map (bP.sub ρ)=cs.map (bP.sub ρ'):=zQ fun c hc=>(h c hc).sub ha
def p6(n:Nat)(ρ ρ':Gh):Prop:=∀i,i<n->ρ.v i=ρ'.v i/\ρ.b i=ρ'.b i
theorem p6.refl(n:Nat)(ρ:Gh):p6 n ρ ρ:=fun _ _=>⟨rfl,rfl⟩
theorem p6.trans{n m:Nat}{ρ ρ' ρ'':Gh}(h:p6 n ρ ρ')(h':p6 m ρ' ρ'')(hn:n<=m):p6 n ρ ρ'':=fun i hi=>
 ⟨(h i hi).1.trans (h' i (by omega)).1,(h i hi).2.trans (h' i (by omega)).2⟩
theorem cj.mono{n m:Nat}{d:AV}(h:cj n d)(hn:n<=m):cj m d:=fR.mono h fun _ hi=>xH hi hn
theorem cj.sub{n:Nat}{d:AV}{ρ ρ':Gh}(h:cj n d)(ha:p6 n ρ ρ'):d.sub ρ=d.sub ρ':=fR.sub h ha
theorem cj.VK{n:Nat}{cs:List AV}{ρ ρ':Gh}(h:∀c∈cs,cj n c)(ha:p6 n ρ ρ'):cs.map (bP.sub ρ)=cs.map (bP.sub ρ'):=fR.VK h ha
inductive IR:Type
 |box (T:Nat) (cs:List AV)
 |row (t:Nat) (l:List (U.cH t))
def IR.res(ρ:Gh)(id:Nat):IR->cc
 | .box T cs=> .box (ρ.b id) T (cs.map (bP.sub ρ))
 | .row t l=> .row (ρ.v id) t l
abbrev aP:Type:=List (Nat×IR)
def aP.res(ρ:Gh)(R:aP):List cc:=R.map fun p=>p.2.res ρ p.1
def IR.cj(n:Nat):IR->Prop
 | .box _ cs=>∀c∈cs,Iv.cj n c
 | .row _ _=>True
def aP.cj(n:Nat)(R:aP):Prop:=∀p∈R,p.1<n/\p.2.cj n
theorem IR.cj.mono{n m:Nat}{r:IR}(h:r.cj n)(hn:n<=m):r.cj m:=by
 cases r with
 |box T cs=>exact fun c hc=>(h c hc).mono hn
 |row t l=>trivial
theorem aP.cj.mono{n m:Nat}{R:aP}(h:aP.cj n R)(hn:n<=m):aP.cj m R:=fun p hp=>⟨xH (h p hp).1 hn,(h p hp).2.mono hn⟩
theorem IR.cj.res{n id:Nat}{r:IR}{ρ ρ':Gh}(h:r.cj n)(hi:id<n)(ha:p6 n ρ ρ'):r.res ρ id=r.res ρ' id:=by
 cases r with
 |box T cs=>simp only[IR.res];rw[(ha id hi).2,Iv.cj.VK h ha]
 |row t l=>simp only[IR.res];rw[(ha id hi).1]
theorem aP.cj.res{n:Nat}{R:aP}{ρ ρ':Gh}(h:aP.cj n R)(ha:p6 n ρ ρ'):aP.res ρ R=aP.res ρ' R:=zQ fun p hp=>(h p hp).2.res (h p hp).1 ha
def fh(R:aP)(id:Nat):Option IR:=List.rec wC (fun p _ ih=>Bool.rec ih (O p.2) (zb p.1 id)) R
def rM(id:Nat)(r':IR)(R:aP):aP:=List.rec [] (fun p R ih=>Bool.rec (p::ih) ((p.1,r')::R) (zb p.1 id)) R
def jL(id:Nat)(R:aP):aP:=List.rec [] (fun p R ih=>Bool.rec (p::ih) R (zb p.1 id)) R
theorem SV{i:Nat}{r:IR}{R:aP}{id:Nat}:fh ((i,r)::R) id=match zb i id with
  |true=>O r
  |false=>fh R id:=by
 show Bool.rec (motive:=fun _=>_) (fh R id) (O r) (zb i id)=_
 cases zb i id<;>rfl
theorem EF{i:Nat}{r r':IR}{R:aP}{id:Nat}:rM id r' ((i,r)::R)=match zb i id with
  |true=>(i,r')::R
  |false=>(i,r)::rM id r' R:=by
 show Bool.rec (motive:=fun _=>_) ((i,r)::rM id r' R) ((i,r')::R) (zb i id)=_
 cases zb i id<;>rfl
theorem vL{i:Nat}{r:IR}{R:aP}{id:Nat}:jL id ((i,r)::R)=match zb i id with
  |true=>R
  |false=>(i,r)::jL id R:=by
 show Bool.rec (motive:=fun _=>_) ((i,r)::jL id R) R (zb i id)=_
 cases zb i id<;>rfl
theorem fB{a b:Nat}(h:zb a b=wE):a=b:=yX h
theorem dA:∀{R:aP} {id:Nat} {r:IR},fh R id=O r->∃i:Nat,R[i]? =O (id,r)/\(∀r',rM id r' R=R.set i (id,r'))/\jL id R=R.eraseIdx i
 |[],_,_,h=>by cases h
 |(i,r)::R,id,r0,h=>by
  rw[SV]at h
  cases hb:zb i id with
  |true=>
   rw[hb]at h
   cases h
   cases fB hb
   exact⟨0,rfl,fun r'=>by rw[EF,hb];rfl,by rw[vL,hb];rfl⟩
  |false=>
   rw[hb]at h
   obtain⟨j,h1,h2,h3⟩:=dA h
   exact⟨j+1,h1,fun r'=>by rw[EF,hb];simp[h2],by rw[vL,hb];simp[h3]⟩
theorem gv{R:aP}{ρ:Gh}{i id:Nat}{r:IR}(h:R[i]? =O (id,r)):(aP.res ρ R)[i]? =O (r.res ρ id):=by
 unfold aP.res
 rw[zX,h]
 rfl
theorem tj{R:aP}{ρ:Gh}{i id:Nat}{r:IR}:aP.res ρ (R.set i (id,r))=(aP.res ρ R).set i (r.res ρ id):=by
 unfold aP.res
 rw[List.map_set]
theorem vT{R:aP}{ρ:Gh}{i:Nat}:aP.res ρ (R.eraseIdx i)=(aP.res ρ R).eraseIdx i:=by
 unfold aP.res
 rw[wj,wj,zY,xw,y5]
theorem Ck{R:aP}{id n:Nat}{r:IR}(h:fh R id=O r)(hR:aP.cj n R):id<n/\r.cj n:=by
 obtain⟨i,h1,_⟩:=dA h
 exact hR _ (List.mem_of_getElem? h1)
theorem oh{R:aP}{id n:Nat}{r r':IR}(h:fh R id=O r)(hR:aP.cj n R)(hr:r'.cj n):aP.cj n (rM id r' R):=by
 obtain⟨i,h1,h2,_⟩:=dA h
 rw[h2]
 intro p hp
 rcases List.mem_or_eq_of_mem_set hp with hp|rfl
 ·exact hR p hp
 ·exact⟨(hR _ (List.mem_of_getElem? h1)).1,hr⟩
theorem Dj{R:aP}{id n:Nat}(hR:aP.cj n R):aP.cj n (jL id R):=by
 induction R with
 |nil=>exact hR
 |cons p R ih=>
  obtain⟨i,r⟩:=p
  have h2:aP.cj n R:=fun p hp=>hR p (zC _ hp)
  rw[vL]
  split
  ·exact h2
  ·intro q hq
   rcases zu.1 hq with rfl|hq
   ·exact hR _ zg
   ·exact ih h2 q hq
def Env.sub(ρ:Gh)(E:Env):Env:=E.map fun p=>(p.1,p.2.sub ρ)
def Env.cj(n:Nat)(E:Env):Prop:=∀p∈E,Iv.cj n p.2
theorem Env.dP{ρ:Gh}(t:Nat):∀(E:Env),(E.sub ρ).get t=(E.get t).map (bP.sub ρ)
 |[]=>rfl
 |(k,v)::E=>by
  show Env.get ((k,v.sub ρ)::Env.sub ρ E) t=_
  unfold Env.get
  cases hb:zb k t with
  |true=>rfl
  |false=>exact Env.dP t E
theorem Env.LN{ρ:Gh}{E:Env}(x:Operand):(E.sub ρ).ev x=(E.ev x).map (bP.sub ρ):=by
 cases x with
 |tmp t=>exact Env.dP t E
 |const v=>simp[Env.ev,bP.sub]
 |global g=>simp[Env.ev,bP.sub]
 |func f=>simp[Env.ev,bP.sub]
theorem Env.get_mem:∀{E:Env} {t:Nat} {d:AV},E.get t=O d->(t,d)∈E
 |[],_,_,h=>by cases h
 |(k,v)::E,t,d,h=>by
  unfold Env.get at h
  cases hb:zb k t with
  |true=>
   rw[hb]at h
   cases h
   cases fB hb
   exact zg
  |false=>
   rw[hb]at h
   exact zC _ (Env.get_mem h)
theorem Env.Te{E:Env}{n:Nat}{x:Operand}{d:AV}(hE:E.cj n)(h:E.ev x=O d):Iv.cj n d:=by
 cases x with
 |tmp t=>exact hE _ (Env.get_mem h)
 |const v=>cases h;exact .lit _
 |global g=>cases h;exact .lit _
 |func f=>cases h;exact .fn _ [] (by simp)
theorem Env.cj.mono{n m:Nat}{E:Env}(h:E.cj n)(hn:n<=m):E.cj m:=fun p hp=>(h p hp).mono hn
theorem Env.cj.sub{n:Nat}{E:Env}{ρ ρ':Gh}(h:E.cj n)(ha:p6 n ρ ρ'):E.sub ρ=E.sub ρ':=zQ fun p hp=>by rw[(h p hp).sub ha]
inductive Vj (cH:Nat->Type):Type
 |e
 |n (v:Option (bP cH)) (l r:Vj cH)
abbrev ET:Type:=Vj U.cH
def cn(T:ET):Nat->Option AV:=Vj.rec (fun _=>wC) (fun v _ _ il ir k=>Bool.rec (Bool.rec (ir (Nat.div (Nat.sub k 1) 2)) (il (Nat.div (Nat.sub k 1) 2)) (zb (Nat.mod (Nat.sub k 1) 2) 0)) v (zb k 0)) T
def Vj.v:ET->Option AV
 | .e=>wC
 | .n v _ _=>v
def Vj.l:ET->ET
 | .e=> .e
 | .n _ l _=>l
def Vj.r:ET->ET
 | .e=> .e
 | .n _ _ r=>r
def V2(d:AV)(ih:ET->Nat->ET)(v:Option AV)(l r:ET)(k:Nat):ET:=Bool.rec (Bool.rec (.n v l (ih r (Nat.div (Nat.sub k 1) 2))) (.n v (ih l (Nat.div (Nat.sub k 1) 2)) r) (zb (Nat.mod (Nat.sub k 1) 2) 0)) (.n (O d) l r) (zb k 0)
def q9(d:AV)(m:Nat):ET->Nat->ET:=Nat.rec (fun _ _=> .e) (fun _ ih T k=>Vj.rec (V2 d ih wC .e .e k) (fun v l r _ _=>V2 d ih v l r k) T) m
def kW(t:Nat)(d:AV)(T:ET):ET:=q9 d 12 T t
def emap(f:AV->AV)(T:ET):ET:=Vj.rec .e (fun v _ _ il ir=> .n (v.map f) il ir) T
theorem mH(v:Option AV)(l r:ET)(k:Nat):cn (.n v l r) k=if k=0 then v else if(k-1)%2=0 then cn l ((k-1)/2)else cn r ((k-1)/2):=by
 show Bool.rec (motive:=fun _=>Option AV) (Bool.rec (motive:=fun _=>Option AV) (cn r ((k-1)/2)) (cn l ((k-1)/2)) (zb ((k-1)%2) 0)) v (zb k 0)=_
 by_cases hk:k=0
 ·subst hk;rfl
 ·have h1:zb k 0=wD:=by
   cases h:zb k 0 with
   |false=>rfl
   |true=>exact absurd (yX h) hk
  rw[h1,if_neg hk]
  by_cases h2:(k-1)%2=0
  ·rw[h2];rfl
  ·have h3:zb ((k-1)%2) 0=wD:=by
    cases h:zb ((k-1)%2) 0 with
    |false=>rfl
    |true=>exact absurd (yX h) h2
   rw[h3,if_neg h2]
theorem ai2(k:Nat):cn (.e:ET) k=wC:=rfl
theorem Jx(T:ET)(k:Nat):cn T k=if k=0 then T.v else if(k-1)%2=0 then cn T.l ((k-1)/2)else cn T.r ((k-1)/2):=by
 cases T with
 |e=>simp only[Vj.v,Vj.l,Vj.r,ai2,ite_self]
 |n v l r=>exact mH v l r k
theorem QV(d:AV)(m:Nat)(T:ET)(k:Nat):q9 d (m+1) T k=if k=0 then .n (O d) T.l T.r else if(k-1)%2=0 then .n T.v (q9 d m T.l ((k-1)/2)) T.r else .n T.v T.l (q9 d m T.r ((k-1)/2)):=by
 have e:q9 d (m+1) T k=V2 d (q9 d m) T.v T.l T.r k:=by cases T<;>rfl
 rw[e]
 show Bool.rec (motive:=fun _=>ET) (Bool.rec (motive:=fun _=>ET) (.n T.v T.l (q9 d m T.r ((k-1)/2))) (.n T.v (q9 d m T.l ((k-1)/2)) T.r) (zb ((k-1)%2) 0)) (.n (O d) T.l T.r) (zb k 0)=_
 by_cases hk:k=0
 ·subst hk;rfl
 ·have h1:zb k 0=wD:=by
   cases h:zb k 0 with
   |false=>rfl
   |true=>exact absurd (yX h) hk
  rw[h1,if_neg hk]
  by_cases h2:(k-1)%2=0
  ·rw[h2];rfl
  ·have h3:zb ((k-1)%2) 0=wD:=by
    cases h:zb ((k-1)%2) 0 with
    |false=>rfl
    |true=>exact absurd (yX h) h2
   rw[h3,if_neg h2]
theorem uM(d:AV):∀(m:Nat) (T:ET) (k s:Nat) (av:AV),cn (q9 d m T k) s=O av->(k=s/\av=d)\/(k≠s/\cn T s=O av)
 |0,T,k,s,av,h=>by cases h
 |m+1,T,k,s,av,h=>by
  rw[QV]at h
  rw[Jx T s]
  split at h
  ·rename_i hk
   subst hk
   rw[mH]at h
   split at h
   ·rename_i hs;subst hs;cases h;exact .inl ⟨rfl,rfl⟩
   ·rename_i hs
    rw[if_neg hs]
    exact .inr ⟨fun e=>hs e.symm,h⟩
  ·rename_i hk
   split at h
   ·rename_i hk2
    rw[mH]at h
    split at h
    ·rename_i hs;subst hs;exact .inr ⟨hk,by rw[if_pos rfl];exact h⟩
    ·rename_i hs
     rw[if_neg hs]
     split at h
     ·rename_i hs2
      rw[if_pos hs2]
      rcases uM d m T.l _ _ av h with ⟨h1,h2⟩|⟨h1,h2⟩
      ·exact .inl ⟨by omega,h2⟩
      ·exact .inr ⟨fun e=>h1 (by rw[e]),h2⟩
     ·rename_i hs2
      rw[if_neg hs2]
      exact .inr ⟨fun e=>hs2 (by rw[<-e];exact hk2),h⟩
   ·rename_i hk2
    rw[mH]at h
    split at h
    ·rename_i hs;subst hs;exact .inr ⟨hk,by rw[if_pos rfl];exact h⟩
    ·rename_i hs
     rw[if_neg hs]
     split at h
     ·rename_i hs2
      rw[if_pos hs2]
      exact .inr ⟨fun e=>hk2 (by rw[e];exact hs2),h⟩
     ·rename_i hs2
      rw[if_neg hs2]
      rcases uM d m T.r _ _ av h with ⟨h1,h2⟩|⟨h1,h2⟩
      ·exact .inl ⟨by omega,h2⟩
      ·exact .inr ⟨fun e=>h1 (by rw[e]),h2⟩
theorem ou{t s:Nat}{d av:AV}{T:ET}(h:cn (kW t d T) s=O av):(t=s/\av=d)\/(t≠s/\cn T s=O av):=uM d 12 T t s av h
theorem tF(f:AV->AV):∀(T:ET) (s:Nat),cn (emap f T) s=(cn T s).map f
 | .e,s=>rfl
 | .n v l r,s=>by
  show cn (.n (v.map f) (emap f l) (emap f r)) s=_
  rw[mH,mH,tF f l,tF f r]
  split
  ·rfl
  ·split<;>rfl
def rY(T:ET)(E:Env):Prop:=∀t d,cn T t=O d->E.get t=O d
theorem rY.put{T:ET}{E:Env}(h:rY T E)(t:Nat)(d:AV):rY (kW t d T) ((t,d)::E):=fun s av hs=>by
 rcases ou hs with ⟨rfl,rfl⟩|⟨h1,h2⟩
 ·exact Env.dN _ _ _
 ·rw[Env.cV _ _ h1];exact h s av h2
def Du(T:ET):Operand->Option AV
 | .tmp t=>cn T t
 | .const v=>O (.lit v)
 | .global g=>O (.lit (.pointer (O ⟨g,0,wC⟩)))
 | .func f=>O (.fn (.func f) [])
theorem rY.ev{T:ET}{E:Env}(h:rY T E)(x:Operand)(d:AV)(hx:Du T x=O d):E.ev x=O d:=by
 cases x with
 |tmp t=>exact h t d hx
 |_=>exact hx
structure St where
 E:ET
 R:aP
 nx:Nat
structure Cg where
 C:Cx
 ρ:Gh
 n:Nat
def Mt(C:Cg)(n:Nat)(s:St)(a:Act)(w:World):Prop:=∃E:Env,rY s.E E/\E.cj s.nx/\aP.cj s.nx s.R/\∃ρ,(p6 C.n C.ρ ρ/\C.n<=s.nx)/\sM C.C n (E.sub ρ) (aP.res ρ s.R) a w
theorem Env.uC{E:Env}{n t:Nat}{d:AV}(hE:E.cj n)(hd:Iv.cj n d):Env.cj n ((t,d)::E):=fun p hp=>by
 rcases zu.1 hp with rfl|hp
 ·exact hd
 ·exact hE p hp
theorem Rf{C:Cx}{σ σ':List cc}(hp:List.Perm σ σ')(b:Nat):al C σ b->al C σ' b:=fun hA=>⟨hA.1,fun hx=>hA.2 ((hp.filterMap _).symm.mem_iff.1 hx)⟩
end Go.Iv
end
noncomputable section
namespace Go.Iv
open Go Go.RowKit
section
variable [U:qT] {β γ δ:Type}
def tK(t e:Nat)(l:List (U.cH t)):Option (List (U.cH e)):=if h:t=e then O (h▸l)else wC
theorem l8{t e:Nat}{l:List (U.cH t)}{l':List (U.cH e)}(h:tK t e l=O l'):∃he:t=e,he▸l=l':=by
 unfold tK at h
 split at h
 ·rename_i he;exact⟨he,zB.inj h⟩
 ·cases h
def gH(k:IntKind):AV->Option Int
 | .lit (.int k' n)=>if k=k' then O n else wC
 |_=>wC
def RO:AV->Option Bool
 | .lit (.bool b)=>O b
 |_=>wC
def asS:AV->Option ByteArray
 | .lit (.string s)=>O s
 |_=>wC
def iW(t:Nat):AV->Option (List (U.cH t))
 | .sl t' l=>tK t' t l
 | .lit (.slice wC 0 0)=>O []
 |_=>wC
def P1(f:AV->Option β)(c:β->AV):Prop:=∀a b,f a=O b->∀A w v,Rel A w a v->Rel A w (c b) v
theorem P1.i(k:IntKind):P1 (gH k) (bP.n k):=fun a b h A w v hr=>by
 unfold gH at h
 split at h
 ·split at h
  ·rename_i hk
   subst hk
   cases h
   exact hr
  ·cases h
 ·cases h
theorem P1.b:P1 RO bP.b:=fun a b h A w v hr=>by
 unfold RO at h
 split at h
 ·cases h;exact hr
 ·cases h
theorem P1.s:P1 asS bP.s:=fun a b h A w v hr=>by
 unfold asS at h
 split at h
 ·cases h;exact hr
 ·cases h
theorem P1.l(t:Nat):P1 (iW t) (bP.sl t):=fun a b h A w v hr=>by
 unfold iW at h
 split at h
 ·obtain⟨rfl,rfl⟩:=l8 h
  exact hr
 ·cases h
  exact(Vw.nil (σ:=[]) t A w v ⟨fun r h=>(by cases h),fun b h=>(by cases h)⟩ hr).mono fun b _ hA=>⟨hA.elim id (fun h=>(by cases h)),rfl⟩
 ·cases h
def nU:List AV->Option Unit
 |[]=>O ()
 |_=>wC
def cS(f:AV->Option β)(q:List AV->Option γ):List AV->Option (β×γ)
 |a::cs=>(f a).bind fun b=>(q cs).map fun g=>(b,g)
 |[]=>wC
def Pk(q:List AV->Option γ)(c:γ->List AV):Prop:=∀cs g,q cs=O g->∀A w us,bq A w cs us->bq A w (c g) us
theorem Pk.nil:Pk nU (fun _=>[]):=fun cs g h A w us hr=>by
 unfold nU at h
 split at h
 ·exact hr
 ·cases h
theorem Pk.cons{f:AV->Option β}{c:β->AV}{q:List AV->Option γ}{d:γ->List AV}(h:P1 f c)(hq:Pk q d):Pk (cS f q) (fun x=>c x.1::d x.2):=fun cs g hg A w us hr=>by
 unfold cS at hg
 split at hg
 ·obtain⟨b,h1,hg⟩:=zi.1 hg
  obtain⟨g',h2,rfl⟩:=zf.1 hg
  obtain⟨v,us',rfl,h3,h4⟩:=hr.head
  exact bq.cons (h _ _ h1 A w v h3) (hq _ _ h2 A w us' h4)
 ·cases hg
theorem Pk.map{q:List AV->Option γ}{d:γ->List AV}{c:δ->List AV}(e:γ->δ)(hq:Pk q d)(hc:∀g,c (e g)=d g):Pk (fun cs=>(q cs).map e) c:=fun cs g hg A w us hr=>by
 obtain⟨g',h1,rfl⟩:=zf.1 hg
 rw[hc]
 exact hq _ _ h1 A w us hr
def afV:AV->Bool
 | .lit _=>wE
 | .sl _ _=>wE
 |_=>wD
theorem Vx(cs:List AV)(h:cs.all afV=wE)(n:Nat):∀c∈cs,cj n c:=fun c hc=>by
 have:=zm.1 h c hc
 cases c<;>first|(cases this;done)|exact .lit _|exact .sl _ _
theorem Tf(cs:List AV)(h:cs.all afV=wE)(ρ:Gh):cs.map (bP.sub ρ)=cs:=by
 have:cs.map (bP.sub ρ)=cs.map id:=zQ fun c hc=>by
  have:=zm.1 h c hc
  cases c<;>first|(cases this;done)|simp only[bP.sub,id]
 rw[this,List.map_id]
theorem Pk.none{c:γ->List AV}:Pk (fun _=>Option.none) c:=fun cs g hg=>by cases hg
end
end Go.Iv
end
noncomputable section
namespace Go.Iv
variable [U:qT]
open Go Go.RowKit
section
variable {P:Program} {E E':Env} {σ σ':List cc} {o:Oper} {x y:Operand} {av bv:AV} {C:Cx} {X:List Nat} {n:Nat} {T T' e:TypeId}
theorem Hd.keep{A:Nat->Prop}{w w':World}(h:Hd A σ w)(hw:∀b,b<w.heap.size->(A b\/b∈bh σ)->w'.heap[b]? =w.heap[b]?):Hd A σ w':=
 ⟨fun r hr=>(h.1 r hr).mono (fun b hb hA=>⟨hA,hw b hb (.inl hA)⟩) (fun b hb=>hw b ((h.1 r hr).lt hb) (.inr (bD.2 ⟨r,hr,hb⟩))),h.2⟩
theorem KQ.keep{A:Nat->Prop}{w w':World}{ρ:Operand->Value}(h:KQ A w E ρ)(hw:∀b,b<w.heap.size->A b->w'.heap[b]? =w.heap[b]?):KQ A w' E ρ:=fun x u hx=>(h x u hx).mono fun b hb hA=>⟨hA,hw b hb hA⟩
theorem pU{A:Nat->Prop}{w:World}{k:IntKind}:∀{l:List Int} {us:List Value},bq A w (l.map (bP.n k)) us->us=l.map (Value.int k)
 |[],us,h=>yR (by simpa using h.1)
 |x::l,us,h=>by
  obtain⟨v,us',rfl,h1,h2⟩:=bq.head (show bq A w (bP.n k x::l.map (bP.n k)) us from h)
  rw[h1.cg,pU h2]
  rfl
theorem Yp.b2s{q:Nat}{l:List Int}{l0:List (U.cH q)}(ho:o.op= .convert T T' x)(hx:Src σ E x q l0)(hn:l0.flatMap (U.cells q)=l.map (bP.n .u8))(hz:U.sz q=1)(hs:P.underlying T=O (.slice e))(he:P.underlying e=O (.int .u8))(hd:P.underlying T'=O .string):Yp P E σ o (.s (strOfNums l)):=fun A w ρ h hρ=>
 ⟨_, .lit _,fun w' hw=>by
  obtain⟨p,cap,news,h1,h2,h3,_,h5,_⟩:=hx.spec (h.keep hw) (hρ.keep fun b hb hA=>hw b hb (.inl hA))
  have h6:=pU (by rw[hn]at h5;exact h5)
  have hl0:l0.length=l.length:=by rw[hz,y6]at h3;rw[<-h3,h6,zA]
  rw[hl0]at h1 h2
  have hconv:(convert T T' (.slice p l.length cap)).run P w'= .ok (.string (strOfNums l)) w':=by
   cases p with
   |none=>
    have:l=[]:=by
     rcases h2 with h2|⟨a,h2,_⟩
     ·exact yR h2
     ·cases h2
    subst this
    have hc:=run_convert_bytes_nil (P:=P) w' T e hs he 0 cap T' hd
    have:strOfNums []=ByteArray.empty:=rfl
    rw[this]
    simpa using hc
   |some a=>
    have hl:(loadCells a l.length).run P w'= .ok (l.map (Value.int .u8)).toArray w':=by
     rcases h2 with h2|⟨a',h2,h4⟩
     ·have:l=[]:=yR h2
      subst this
      simp[loadCells,loadCellsFrom]
     ·cases h2
      have:=run_loadCells_list (P:=P) w' a (l.map (Value.int .u8)) (fun j v hj=>h4 j v (by rw[h6];exact hj))
      simpa using this
    rw[run_convert_bytes_string w' T T' e _ l.length cap hs he hd,run_bytesToString w' _ l.length cap l hl,foldl_push_bytes]
    simp[strOfNums,ByteArray.empty,ByteArray.emptyWithCapacity]
    rfl
  simp[execOp,ho,h1,hconv]⟩
theorem Yp.atc{s t:ByteArray}(ho:o.op= .binOp .eql T x y T')(hx:E.ev x=O (.s s))(hy:E.ev y=O (.s t)):Yp P E σ o (.b (s.toList==t.toList)):=Yp.lits fun ρ hρ w=>by
 simp[execOp,ho,hρ _ _ hx,hρ _ _ hy,eqGuard,binOp,Op.stringOp]
theorem Yp.au8{s t:ByteArray}(ho:o.op= .binOp .neq T x y T')(hx:E.ev x=O (.s s))(hy:E.ev y=O (.s t)):Yp P E σ o (.b (!(s.toList==t.toList))):=Yp.lits fun ρ hρ w=>by
 simp[execOp,ho,hρ _ _ hx,hρ _ _ hy,eqGuard,binOp,Op.stringOp]
theorem run_equal_bool{w:World}{b c:Bool}(hT:P.underlying T=O .bool):(Op.equal T (.bool b) (.bool c)).run P w= .ok (b==c) w:=by
 obtain⟨d,hd⟩:∃d,Op.maxDepth=d+1:=⟨Op.maxDepth-1,by decide⟩
 unfold Op.equal
 rw[hd]
 unfold Op.equalIn
 simp only[Sem.run_bind,run_underlying hT,Result.andThen_ok]
 rfl
theorem Yp.att{b c:Bool}(ho:o.op= .binOp .eql T x y T')(hT:P.underlying T=O .bool)(hx:E.ev x=O (.b b))(hy:E.ev y=O (.b c)):Yp P E σ o (.b (b==c)):=Yp.lits fun ρ hρ w=>by
 have hbin:binOp .eql T (.bool b) (.bool c)=(do pure (.bool (<-Op.equal T (.bool b) (.bool c)))):=rfl
 have h1:=run_equal_bool (P:=P) (T:=T) (w:=w) (b:=b) (c:=c) hT
 simp only[execOp,ho,hρ _ _ hx,hρ _ _ hy,eqGuard,hbin]
 simp[h1]
theorem Yp.auX{b c:Bool}(ho:o.op= .binOp .neq T x y T')(hT:P.underlying T=O .bool)(hx:E.ev x=O (.b b))(hy:E.ev y=O (.b c)):Yp P E σ o (.b (!(b==c))):=Yp.lits fun ρ hρ w=>by
 have hbin:binOp .neq T (.bool b) (.bool c)=(do pure (.bool (!(<-Op.equal T (.bool b) (.bool c))))):=rfl
 have h1:=run_equal_bool (P:=P) (T:=T) (w:=w) (b:=b) (c:=c) hT
 simp only[execOp,ho,hρ _ _ hx,hρ _ _ hy,eqGuard,hbin]
 simp[h1]
end
end Go.Iv
end
noncomputable section
namespace Go.Iv
variable [U:qT]
open Go Go.RowKit
class mQ [U:qT] where
 len:∀t x,(U.cells t x).length=U.sz t
 one:∀t x,(U.cells t x).all gz=wE
 clo:∀t x ρ,(U.cells t x).map (bP.sub ρ)=U.cells t x
 p9:∀t x n,∀c∈U.cells t x,cj n c
 parse:(t:Nat)->List AV->Option (U.cH t)
 kB:∀t cs x,parse t cs=O x->∀A w us,bq A w cs us->bq A w (U.cells t x) us
 acI:(t:Nat)->List (U.cH t)->Option (List Int)
 tP:∀t l ns,acI t l=O ns->l.flatMap (U.cells t)=ns.map (.n .u8)/\U.sz t=1
 fz:Nat->Bool:=fun _=>wD
 arr:Nat->Bool:=fun _=>wD
 gtB:(t:Nat)->U.cH t->Nat->Bool:=fun _ _ _=>wD
 stB:(t:Nat)->U.cH t->Nat->Bool->U.cH t:=fun _ x _ _=>x
 aea:∀t,arr t=wE->∀x i,i<U.sz t->(U.cells t x)[i]? =O (.lit (.bool (gtB t x i))):=by intro t h;exact Bool.noConfusion h
 aaT:∀t,arr t=wE->∀x i b,i<U.sz t->U.cells t (stB t x i b)=(U.cells t x).take i++[.lit (.bool b)]++(U.cells t x).drop (i+1):=by intro t h;exact Bool.noConfusion h
variable [L:mQ]
def Kh(P:Program)(t n:Nat):Bool:=match P.info? t with
 |some i=>zb i.size n
 |none=>wD
theorem qd{P:Program}{t n:Nat}(h:Kh P t n=wE):(P.info? t).map (·.size)=O n:=by
 unfold Kh at h
 cases hi:P.info? t with
 |none=>rw[hi]at h;cases h
 |some i=>
  rw[hi]at h
  simp only[yg,zB.injEq]
  exact fB h
def SE(P:Program)(t:Nat):Bool:=match P.underlying t with
 |some (.struct _)=>wD
 |some (.array _ _)=>wD
 |some _=>wE
 |none=>wD
theorem AN{P:Program}{t:Nat}(h:SE P t=wE):qO P t:=by
 unfold SE at h
 unfold qO
 split at h
 ·cases h
 ·cases h
 ·rename_i d hd
  refine⟨_,hd,?_⟩
  split
  ·simp_all
  ·simp_all
  ·trivial
 ·cases h
def Ra(P:Program)(t:Nat):Option Nat:=match P.underlying t with
 |some (.struct _)=>(P.info? t).map (·.size)
 |some (.array _ _)=>(P.info? t).map (·.size)
 |_=>wC
theorem Ku{P:Program}{t n:Nat}(h:Ra P t=O n):rW P t n:=by
 unfold Ra at h
 split at h
 ·rename_i hd;exact⟨⟨_,hd,trivial⟩,h⟩
 ·rename_i hd;exact⟨⟨_,hd,trivial⟩,h⟩
 ·cases h
def B7(rd:Nat->Option IR):AV->Bool
 | .own id=>match rd id with
  |some (.row _ _)=>wE
  |_=>wD
 | .ptr _ _=>wE
 | .ra _ _ _ _=>wD
 |d=>gz d
def Be(rd:Nat->Option IR):AV->Bool
 | .agg cs=>cs.all (B7 rd)
 |d=>B7 rd d
section
variable {α:Type} {r:α} {P:Program} {o:Oper} {E:Env} {R:aP} {nx:Nat} {ev:Operand->Option AV} {rd:Nat->Option IR} {x y z:Operand} {d:AV}
structure jf (ev:Operand->Option AV) (rd:Nat->Option IR) (nx:Nat) (E:Env) (R:aP):Prop where
 e:∀x d,ev x=O d->E.ev x=O d
 r:∀id r,rd id=O r->fh R id=O r
 le:E.cj nx
 lr:aP.cj nx R
theorem jf.eR(h:jf ev rd nx E R)(hx:ev x=O d)(ρ:Gh):(E.sub ρ).ev x=O (d.sub ρ):=by
 rw[Env.LN,h.e _ _ hx];rfl
theorem jf.p9(h:jf ev rd nx E R)(hx:ev x=O d):cj nx d:=Env.Te h.le (h.e _ _ hx)
theorem jf.row(h:jf ev rd nx E R){id t:Nat}{l:List (U.cH t)}(hr:rd id=O (.row t l))(ρ:Gh):∃i:Nat,(aP.res ρ R)[i]? =O (.row (ρ.v id) t l):=by
 obtain⟨i,h1,_⟩:=dA (h.r _ _ hr)
 exact⟨i,gv h1⟩
theorem jf.box(h:jf ev rd nx E R){id t:Nat}{cs:List AV}(hr:rd id=O (.box t cs))(ρ:Gh):∃i:Nat,(aP.res ρ R)[i]? =O (.box (ρ.b id) t (cs.map (bP.sub ρ))):=by
 obtain⟨i,h1,_⟩:=dA (h.r _ _ hr)
 exact⟨i,gv h1⟩
theorem jf.aaH(h:jf ev rd nx E R){id t:Nat}{cs:List AV}(hr:rd id=O (.box t cs)):∀c∈cs,cj nx c:=(Ck (h.r _ _ hr) h.lr).2
def Pu(P:Program)(o:Oper)(E:Env)(R:aP)(nx:Nat)(d:AV):Prop:=cj nx d/\∀ρ,Yp P (E.sub ρ) (aP.res ρ R) o (d.sub ρ)
theorem bE(ρ:Gh)(v:Value):bP.sub ρ (.lit v)= .lit v:=by simp only[bP.sub]
theorem fG(ρ:Gh)(t:Nat)(l:List (U.cH t)):bP.sub ρ (.sl t l)= .sl t l:=by simp only[bP.sub]
theorem cX(ρ:Gh)(id:Nat):bP.sub ρ (.own id)= .lit (ρ.v id):=by simp only[bP.sub]
theorem ep(ρ:Gh)(id off:Nat):bP.sub ρ (.ptr id off)= .lit (.pointer (O ⟨ρ.b id,off,wC⟩)):=by simp only[bP.sub]
theorem iH(ρ:Gh)(id t m off:Nat):bP.sub ρ (.ra id t m off)= .rp (ρ.v id) (m*U.sz t+off):=by simp only[bP.sub]
theorem lu(ρ:Gh)(cs:List AV):bP.sub ρ (.fp cs)= .fp (cs.map (bP.sub ρ)):=by simp only[bP.sub]
theorem dQ(ρ:Gh)(cs:List AV):bP.sub ρ (.agg cs)= .agg (cs.map (bP.sub ρ)):=by simp only[bP.sub]
theorem jC(ρ:Gh)(cs:List AV):bP.sub ρ (.iA cs)= .iA (cs.map (bP.sub ρ)):=by simp only[bP.sub]
theorem sH(ρ:Gh)(f:Go.Fn)(cs:List AV):bP.sub ρ (.fn f cs)= .fn f (cs.map (bP.sub ρ)):=by simp only[bP.sub]
theorem Pu.lit{v:Value}(h:∀ρ,Yp P (E.sub ρ) (aP.res ρ R) o (.lit v)):Pu P o E R nx (.lit v):=⟨.lit v,fun ρ=>by rw[bE];exact h ρ⟩
def U9(b:BinOp)(k:IntKind)(m n:Int)(K:AV->Option α):Option α:=match b with
 | .add=>K (.n k (k.wrap (m+n)))
 | .sub=>K (.n k (k.wrap (m-n)))
 | .mul=>K (.n k (k.wrap (m*n)))
 | .quo=>if n≠0 then K (.n k (k.wrap (Int.tdiv m n)))else wC
 | .rem=>if n≠0 then K (.n k (Int.tmod m n))else wC
 | .and=>K (.n k (sE k m n))
 | .or=>K (.n k (Xz k m n))
 | .xor=>K (.n k (ajs k m n))
 | .andNot=>K (.n k (ahM k m n))
 | .lss=>K (.b (wF (m<n)))
 | .leq=>K (.b (wF (m<=n)))
 | .gtr=>K (.b (wF (n<m)))
 | .geq=>K (.b (wF (n<=m)))
 | .eql=>K (.b (wF (m=n)))
 | .neq=>K (.b (!wF (m=n)))
 |_=>wC
theorem Yp.ai6{T T' e q:Nat}{E:Env}{σ:List cc}{l:List (U.cH q)}(ho:o.op= .binOp .eql T x y T')(hx:E.ev x=O (.sl q l))(hy:E.ev y=O (.lit (.slice wC 0 0)))(hT:P.underlying T=O (.slice e))(hl:l≠[]):Yp P E σ o (.b wD):=fun A w ρ _ hρ=>by
 obtain⟨p,cap,u,hv,_,_,_,hc,_⟩:=(hρ _ _ hx).tX
 have h2:=(hρ _ _ hy).cg
 obtain⟨b,off,hp,_⟩:=hc 0 (List.length_pos_iff.2 hl)
 subst hp
 refine⟨_, .lit _,fun w' _=> ?_⟩
 have h1:=Lib.run_eql_slice_nil (P:=P) w' T e (O ⟨b,off,wC⟩) l.length cap 0 0 hT
 simp[execOp,ho,hv,h2,eqGuard,h1]
theorem Yp.ag7{T T' e q i:Nat}{v:Value}{E:Env}{σ:List cc}{l:List (U.cH q)}(ho:o.op= .binOp .eql T x y T')(hx:E.ev x=O (.lit v))(hσ:σ[i]? =O (.row v q l))(hy:E.ev y=O (.lit (.slice wC 0 0)))(hT:P.underlying T=O (.slice e))(hl:l≠[]):Yp P E σ o (.b wD):=fun A w ρ hd hρ=>by
 obtain⟨us,h1,_⟩:=hd.1 _ (List.mem_of_getElem? hσ)
 obtain⟨g,cap,cur,hv,_⟩:=h1.at (List.length_pos_iff.2 hl)
 have hx':=(hρ _ _ hx).cg
 have h2:=(hρ _ _ hy).cg
 refine⟨_, .lit _,fun w' _=> ?_⟩
 have h1:=Lib.run_eql_slice_nil (P:=P) w' T e (O ⟨g,0,wC⟩) l.length (cap+1) 0 0 hT
 simp[execOp,ho,hx',hv,h2,eqGuard,h1]
def Lq(P:Program)(t:TypeId)(a b:AV):Option Bool:=match P.underlying t with
 |some (.int _)=>match a,b with
  | .lit (.int k m), .lit (.int k' n)=>if k=k' then O (wF (m=n))else wC
  |_,_=>wC
 |some .bool=>match a,b with
  | .lit (.bool p), .lit (.bool q)=>O (p==q)
  |_,_=>wC
 |some .string=>match a,b with
  | .lit (.string p), .lit (.string q)=>O (p.toList==q.toList)
  |_,_=>wC
 |_=>wC
def Sd(P:Program)(xs ys:List AV):List Field->Option Bool
 |[]=>O wE
 |f::fs=>match (f.name !="_")&&SE P f.type with
  |true=>match xs[f.offset]?,ys[f.offset]? with
   |some a,O b=>(Lq P f.type a b).bind fun r=>(Sd P xs ys fs).map fun q=>r&&q
   |_,_=>wC
  |false=>wC
theorem uj{P:Program}{t:TypeId}(h:qO P t){us:List Value}{i:Nat}{v:Value}(hv:us[i]? =O v)(w:World):(part t us.toArray i).run P w= .ok v w:=by
 unfold part
 rw[Sem.run_bind,lC h]
 simp[hv]
theorem Nd{P:Program}{t:TypeId}{a b:AV}{q:Bool}(h:Lq P t a b=O q){A A':Nat->Prop}{w w' w'':World}{u v:Value}{ρ ρ':Gh}(ha:Rel A w (a.sub ρ) u)(hb:Rel A' w' (b.sub ρ') v)(d:Nat):(Op.equalIn (d+1) t u v).run P w''= .ok q w'':=by
 unfold Lq at h
 split at h
 ·rename_i k0 ht
  split at h
  ·split at h
   ·rename_i hk
    subst hk
    cases h
    simp only[bP.sub]at ha hb
    rw[ha.cg,hb.cg]
    exact run_equalIn_int _ d t _ k0 _ _ ht
   ·cases h
  ·cases h
 ·rename_i ht
  split at h
  ·cases h
   simp only[bP.sub]at ha hb
   rw[ha.cg,hb.cg]
   exact run_equalIn_bool' _ d t _ _ ht
  ·cases h
 ·rename_i ht
  split at h
  ·cases h
   simp only[bP.sub]at ha hb
   rw[ha.cg,hb.cg]
   exact run_equalIn_string _ d t _ _ ht
  ·cases h
 ·cases h
theorem J3{P:Program}{xs ys:List AV}{A A':Nat->Prop}{w w' w'':World}{us vs:List Value}{ρ ρ':Gh}(ha:bq A w (xs.map (bP.sub ρ)) us)(hb:bq A' w' (ys.map (bP.sub ρ')) vs)(d:Nat):∀{fs:List Field} {q:Bool},Sd P xs ys fs=O q->(Op.eqFields (d+1) us.toArray vs.toArray fs).run P w''= .ok q w''
 |[],q,h=>by cases h;simp[Op.eqFields]
 |f::fs,q,h=>by
  unfold Sd at h
  split at h
  case h_2=>cases h
  rename_i hf
  simp only[ze,bne_iff_ne,ne_eq]at hf
  split at h
  case h_2=>cases h
  rename_i a b hx hy
  obtain⟨r1,h1,h⟩:=zi.1 h
  obtain⟨q1,h2,rfl⟩:=zf.1 h
  obtain⟨u,hu,hu'⟩:=ha.get (a:=a.sub ρ) (j:=f.offset) (by rw[zX,hx];rfl)
  obtain⟨v,hv,hv'⟩:=hb.get (a:=b.sub ρ') (j:=f.offset) (by rw[zX,hy];rfl)
  have ih:=J3 (w'':=w'') ha hb d h2
  have hone:=AN hf.2
  unfold Op.eqFields
  rw[if_pos hf.1]
  simp only[Sem.run_bind,uj hone hu,uj hone hv,Result.andThen_ok,Nd (w'':=w'') h1 hu' hv' d]
  cases r1 with
  |true=>simpa using ih
  |false=>simp
theorem Yp.seq'{T T':TypeId}{E:Env}{σ:List cc}{b:BinOp}{cs ds:List AV}{fs:Array Field}{q:Bool}{ρ ρ':Gh}(ho:o.op= .binOp b T x y T')(hx:E.ev x=O (.agg (cs.map (bP.sub ρ))))(hy:E.ev y=O (.agg (ds.map (bP.sub ρ'))))(hT:P.underlying T=O (.struct fs))(hp:P.stoodInHeld T=wD)(hg:P.eqGuardType P.depth T=wD)(hq:Sd P cs ds fs.toList=O q)(hb:b= .eql\/b= .neq):
  Yp P E σ o (.b (match b with| .neq=> !q|_=>q)):=fun A w ϱ _ hρ=>by
 obtain⟨us,h1,h2⟩:=(hρ _ _ hx).mX
 obtain⟨vs,h3,h4⟩:=(hρ _ _ hy).mX
 refine⟨_, .lit _,fun w' _=> ?_⟩
 have hT':P.underlying T=O (.struct (P.fieldsOf T)):=by unfold Program.fieldsOf;rw[hT]
 have hfs:P.fieldsOf T=fs:=by unfold Program.fieldsOf;rw[hT]
 have he:=run_equalIn_struct (P:=P) w' 9999 T us.toArray vs.toArray hT' hp
 rw[hfs,J3 (w'':=w') h2 h4 9998 hq]at he
 have hgr:=run_eqGuard_agg (P:=P) w' b T x y us.toArray vs.toArray hg
 rcases hb with rfl|rfl
 ·have h5:=run_eql_struct (P:=P) w' T us.toArray vs.toArray
  rw[he]at h5
  simp[execOp,ho,h1,h3,hgr,h5]
 ·have h5:=run_neq_struct (P:=P) w' T us.toArray vs.toArray
  rw[he]at h5
  simp[execOp,ho,h1,h3,hgr,h5]
def eqS(P:Program)(b:BinOp)(T:TypeId)(cs ds:List AV)(K:AV->Option α):Option α:=match P.underlying T with
 |some (.struct fs)=>match !P.stoodInHeld T&& !P.eqGuardType P.depth T with
  |true=>match b with
   | .eql=>(Sd P cs ds fs.toList).bind fun q=>K (.b q)
   | .neq=>(Sd P cs ds fs.toList).bind fun q=>K (.b (!q))
   |_=>wC
  |false=>wC
 |_=>wC
theorem aif{b:BinOp}{T T':TypeId}{cs ds:List AV}(hs:jf ev rd nx E R)(ho:o.op= .binOp b T x y T')(hx:ev x=O (.agg cs))(hy:ev y=O (.agg ds)){K:AV->Option α}(h:eqS P b T cs ds K=O r):∃d,K d=O r/\Pu P o E R nx d:=by
 unfold eqS at h
 split at h
 case h_2=>cases h
 rename_i fs hT
 split at h
 case h_2=>cases h
 rename_i hg
 simp only[ze,Bool.not_eq_true']at hg
 have ex:=fun ρ=>hs.eR hx ρ
 have ey:=fun ρ=>hs.eR hy ρ
 simp only[dQ]at ex ey
 split at h
 ·obtain⟨q,hq,h⟩:=zi.1 h
  exact⟨_,h, .lit fun ρ=> .seq' ho (ex ρ) (ey ρ) hT hg.1 hg.2 hq (.inl rfl)⟩
 ·obtain⟨q,hq,h⟩:=zi.1 h
  exact⟨_,h, .lit fun ρ=> .seq' ho (ex ρ) (ey ρ) hT hg.1 hg.2 hq (.inr rfl)⟩
 ·cases h
def Kr(P:Program)(rd:Nat->Option IR)(b:BinOp)(T:TypeId)(x y:Option AV)(K:AV->Option α):Option α:=match x,y with
 |some (.lit (.int k m)),O (.lit (.int k' n))=>match b with
  | .shl=>if 0<=n then K (.n k (kQ k m n))else wC
  | .shr=>if 0<=n then K (.n k (cw k m n))else wC
  |_=>if k=k' then U9 b k m n K else wC
 |some (.lit (.bool p)),O (.lit (.bool q))=>match P.underlying T with
  |some .bool=>match b with
   | .eql=>K (.b (p==q))
   | .neq=>K (.b (!(p==q)))
   |_=>wC
  |_=>wC
 |some (.lit (.string s)),O (.lit (.string t))=>match b with
  | .eql=>K (.b (s.toList==t.toList))
  | .neq=>K (.b (!(s.toList==t.toList)))
  |_=>wC
 |some (.lit (.slice p _ _)),O (.lit (.slice wC 0 0))=>match b,P.underlying T with
  | .eql,O (.slice _)=>K (.b p.isNone)
  |_,_=>wC
 |some (.sl _ l),O (.lit (.slice wC 0 0))=>match b,P.underlying T with
  | .eql,O (.slice _)=>match l with
   |[]=>wC
   |_::_=>K (.b wD)
  |_,_=>wC
 |some (.own id),O (.lit (.slice wC 0 0))=>match b,P.underlying T with
  | .eql,O (.slice _)=>match rd id with
   |some (.row _ (_::_))=>K (.b wD)
   |_=>wC
  |_,_=>wC
 |some (.agg cs),O (.agg ds)=>eqS P b T cs ds K
 |_,_=>wC
theorem Z1{b:BinOp}{T T':TypeId}(hs:jf ev rd nx E R)(ho:o.op= .binOp b T x y T'){K:AV->Option α}(h:Kr P rd b T (ev x) (ev y) K=O r):∃d,K d=O r/\Pu P o E R nx d:=by
 unfold Kr at h
 split at h
 ·rename_i k m k' n hx hy
  have ex:=fun ρ=>hs.eR hx ρ
  have ey:=fun ρ=>hs.eR hy ρ
  simp only[bE]at ex ey
  split at h
  ·split at h
   ·rename_i h0;exact⟨_,h, .lit fun ρ=> .shl ho (ex ρ) (ey ρ) h0⟩
   ·cases h
  ·split at h
   ·rename_i h0;exact⟨_,h, .lit fun ρ=> .shr ho (ex ρ) (ey ρ) h0⟩
   ·cases h
  ·split at h
   ·rename_i hk
    subst hk
    unfold U9 at h
    split at h
    ·exact⟨_,h, .lit fun ρ=> .add ho (ex ρ) (ey ρ)⟩
    ·exact⟨_,h, .lit fun ρ=> .sub ho (ex ρ) (ey ρ)⟩
    ·exact⟨_,h, .lit fun ρ=> .mul ho (ex ρ) (ey ρ)⟩
    ·split at h
     ·rename_i h0;exact⟨_,h, .lit fun ρ=> .quo ho (ex ρ) (ey ρ) h0⟩
     ·cases h
    ·split at h
     ·rename_i h0;exact⟨_,h, .lit fun ρ=> .rem ho (ex ρ) (ey ρ) h0⟩
     ·cases h
    ·exact⟨_,h, .lit fun ρ=> .and ho (ex ρ) (ey ρ)⟩
    ·exact⟨_,h, .lit fun ρ=> .or ho (ex ρ) (ey ρ)⟩
    ·exact⟨_,h, .lit fun ρ=> .xor ho (ex ρ) (ey ρ)⟩
    ·exact⟨_,h, .lit fun ρ=> .andNot ho (ex ρ) (ey ρ)⟩
    ·exact⟨_,h, .lit fun ρ=> .lss ho (ex ρ) (ey ρ)⟩
    ·exact⟨_,h, .lit fun ρ=> .leq ho (ex ρ) (ey ρ)⟩
    ·exact⟨_,h, .lit fun ρ=> .gtr ho (ex ρ) (ey ρ)⟩
    ·exact⟨_,h, .lit fun ρ=> .geq ho (ex ρ) (ey ρ)⟩
    ·exact⟨_,h, .lit fun ρ=> .eql ho (ex ρ) (ey ρ)⟩
    ·exact⟨_,h, .lit fun ρ=> .neq ho (ex ρ) (ey ρ)⟩
    ·cases h
   ·cases h
 ·rename_i p q hx hy
  have ex:=fun ρ=>hs.eR hx ρ
  have ey:=fun ρ=>hs.eR hy ρ
  simp only[bE]at ex ey
  split at h
  ·rename_i hT
   split at h
   ·exact⟨_,h, .lit fun ρ=> .att ho hT (ex ρ) (ey ρ)⟩
   ·exact⟨_,h, .lit fun ρ=> .auX ho hT (ex ρ) (ey ρ)⟩
   ·cases h
  ·cases h
 ·rename_i s t hx hy
  have ex:=fun ρ=>hs.eR hx ρ
  have ey:=fun ρ=>hs.eR hy ρ
  simp only[bE]at ex ey
  split at h
  ·exact⟨_,h, .lit fun ρ=> .atc ho (ex ρ) (ey ρ)⟩
  ·exact⟨_,h, .lit fun ρ=> .au8 ho (ex ρ) (ey ρ)⟩
  ·cases h
 ·rename_i p l c hx hy
  have ex:=fun ρ=>hs.eR hx ρ
  have ey:=fun ρ=>hs.eR hy ρ
  simp only[bE]at ex ey
  split at h
  ·rename_i hT
   exact⟨_,h, .lit fun ρ=> .ahD ho (ex ρ) (ey ρ) hT⟩
  ·cases h
 ·rename_i t l hx hy
  have ex:=fun ρ=>hs.eR hx ρ
  have ey:=fun ρ=>hs.eR hy ρ
  simp only[bE]at ey
  simp only[fG]at ex
  split at h
  ·rename_i hT
   split at h
   ·cases h
   ·exact⟨_,h, .lit fun ρ=> .ai6 ho (ex ρ) (ey ρ) hT (by simp)⟩
  ·cases h
 ·rename_i id hx hy
  have ex:=fun ρ=>hs.eR hx ρ
  have ey:=fun ρ=>hs.eR hy ρ
  simp only[bE]at ey
  simp only[cX]at ex
  split at h
  ·rename_i hT
   split at h
   ·rename_i hr
    exact⟨_,h, .lit fun ρ=>by
     obtain⟨i,hi⟩:=hs.row hr ρ
     exact .ag7 ho (ex ρ) hi (ey ρ) hT (by simp)⟩
   ·cases h
  ·cases h
 ·rename_i cs ds hx hy
  exact aif hs ho hx hy h
 ·cases h
def unV(b:UnOp)(x:Option AV)(K:AV->Option α):Option α:=match b,x with
 | .not,O (.lit (.bool p))=>K (.b (!p))
 | .neg,O (.lit (.int k n))=>K (.n k (k.wrap (0-n)))
 |_,_=>wC
theorem ale{b:UnOp}{T:TypeId}(hs:jf ev rd nx E R)(ho:o.op= .unOp b T x){K:AV->Option α}(h:unV b (ev x) K=O r):∃d,K d=O r/\Pu P o E R nx d:=by
 unfold unV at h
 split at h
 ·rename_i p hx
  have ex:=fun ρ=>hs.eR hx ρ
  simp only[bE]at ex
  exact⟨_,h, .lit fun ρ=> .not ho (ex ρ)⟩
 ·rename_i p hx
  have ex:=fun ρ=>hs.eR hx ρ
  simp only[bE]at ex
  exact⟨_,h, .lit fun ρ=> .neg ho (ex ρ)⟩
 ·cases h
def KW(x:Option AV)(K:AV->Option α):Option α:=match x with
 |some (.ptr id off)=>K (.ptr id off)
 |some (.fp cs)=>K (.fp cs)
 |some (.ra id t m off)=>K (.ra id t m off)
 |_=>wC
theorem Zv(hs:jf ev rd nx E R)(ho:o.op= .nilCheck x){K:AV->Option α}(h:KW (ev x) K=O r):∃d,K d=O r/\Pu P o E R nx d:=by
 unfold KW at h
 split at h
 ·rename_i hx
  exact⟨_,h,hs.p9 hx,fun ρ=>by have ex:=hs.eR hx ρ;rw[ep]at ex ⊢;exact .Sj ho ex⟩
 ·rename_i hx
  exact⟨_,h,hs.p9 hx,fun ρ=>by have ex:=hs.eR hx ρ;rw[lu]at ex ⊢;exact .Sa ho ex⟩
 ·rename_i hx
  exact⟨_,h,hs.p9 hx,fun ρ=>by have ex:=hs.eR hx ρ;rw[iH]at ex ⊢;exact .RX ho ex⟩
 ·cases h
theorem lD{n:Nat}{cs:List AV}(h:∀c∈cs,cj n c)(k:Nat):∀c∈cs.drop k,cj n c:=fun c hc=>h c (xN hc)
theorem pE{n:Nat}{cs:List AV}(h:∀c∈cs,cj n c)(k:Nat):∀c∈cs.take k,cj n c:=fun c hc=>h c (wk hc)
theorem cj.fpL{n:Nat}{cs:List AV}(h:cj n (.fp cs)):∀c∈cs,cj n c:=by cases h;assumption
theorem cj.nO{n:Nat}{cs:List AV}(h:cj n (.agg cs)):∀c∈cs,cj n c:=by cases h;assumption
theorem cj.DJ{n:Nat}{cs:List AV}(h:cj n (.iA cs)):∀c∈cs,cj n c:=by cases h;assumption
theorem cj.fnL{n:Nat}{f:Go.Fn}{cs:List AV}(h:cj n (.fn f cs)):∀c∈cs,cj n c:=by cases h;assumption
theorem cj.aqi{n id off:Nat}(h:cj n (.ptr id off)):id<n:=by cases h;assumption
theorem cj.raL{n id t m off:Nat}(h:cj n (.ra id t m off)):id<n:=by cases h;assumption
theorem cj.asq{n id:Nat}(h:cj n (.own id)):id<n:=by cases h;assumption
theorem ug{n:Nat}{cs:List AV}(h:∀c∈cs,cj n c){k:Nat}(hk:cs[k]? =O d):cj n d:=h d (List.mem_of_getElem? hk)
theorem tY{n:Nat}{cs ds:List AV}(h:∀c∈cs,cj n c)(h':∀c∈ds,cj n c):∀c∈cs++ds,cj n c:=fun c hc=>(zP.1 hc).elim (h c) (h' c)
theorem vO{n:Nat}(h:cj n d):∀c∈cW d,cj n c:=by
 cases d<;>first|exact h.nO|(intro c hc;simp only[cW,zD]at hc;rw[hc];exact h)
theorem JR(n:Nat)(zs:List Value):∀c∈zs.map (bP.lit (cH:=U.cH)),cj n c:=fun c hc=>by
 obtain⟨v,_,rfl⟩:=zH.1 hc
 exact .lit v
def LK(P:Program)(T:TypeId)(i:Nat)(x:Option AV)(K:AV->Option α):Option α:=match P.underlying T with
 |some (.struct fs)=>match fs[i]? with
  |some f=>match (P.info? f.type).map (·.size)with
   |some (_+1)=>match x with
    |some (.ptr id off)=>K (.ptr id (off+f.offset))
    |some (.fp cs)=>K (.fp (cs.drop f.offset))
    |some (.ra id t m off)=>K (.ra id t m (off+f.offset))
    |_=>wC
   |_=>wC
  |none=>wC
 |_=>wC
theorem adM{T:TypeId}{i:Nat}(hs:jf ev rd nx E R)(ho:o.op= .fieldAddr T x i){K:AV->Option α}(h:LK P T i (ev x) K=O r):∃d,K d=O r/\Pu P o E R nx d:=by
 unfold LK at h
 split at h
 case h_2=>cases h
 rename_i fs hT
 split at h
 case h_2=>cases h
 rename_i f hf
 split at h
 case h_2=>cases h
 rename_i sz hsz
 split at h
 ·rename_i id off hx
  exact⟨_,h, .ptr _ _ (hs.p9 hx).aqi,fun ρ=>by have ex:=hs.eR hx ρ;rw[ep]at ex ⊢;exact .ak2 ho ex hT hf hsz⟩
 ·rename_i cs hx
  exact⟨_,h, .fp _ (lD (hs.p9 hx).fpL _),fun ρ=>by have ex:=hs.eR hx ρ;rw[lu]at ex ⊢;rw[y5];exact .akV ho ex hT hf hsz⟩
 ·rename_i id t m off hx
  exact⟨_,h, .ra _ _ _ _ (hs.p9 hx).raL,fun ρ=>by have ex:=hs.eR hx ρ;rw[iH]at ex ⊢;rw[<-xI];exact .ai9 ho ex hT hf hsz⟩
 ·cases h
def L4(P:Program)(rd:Nat->Option IR)(T:TypeId)(x y:Option AV)(K:AV->Option α):Option α:=match y with
 |some (.lit (.int _ m))=>match P.underlying T with
  |some (.slice e)=>match x with
   |some (.sl t l)=>match Kh P e (U.sz t)with
    |true=>if 0<=m/\m<(l.length:Int)then K (.fp (U.cells t l[m.toNat]!))else wC
    |false=>wC
   |some (.own id)=>match rd id with
    |some (.row t l)=>match Kh P e (U.sz t)with
     |true=>if 0<=m/\m<(l.length:Int)then K (.ra id t m.toNat 0)else wC
     |false=>wC
    |_=>wC
   |_=>wC
  |some (.array n e)=>match (P.info? e).map (·.size)with
   |some sz=>if 0<=m/\m<(n:Int)then(match x with
    |some (.ptr id off)=>K (.ptr id (off+m.toNat*sz))
    |some (.fp cs)=>K (.fp (cs.drop (m.toNat*sz)))
    |some (.ra id t j off)=>K (.ra id t j (off+m.toNat*sz))
    |_=>wC)else wC
   |none=>wC
  |_=>wC
 |_=>wC
theorem adG{T:TypeId}(hs:jf ev rd nx E R)(ho:o.op= .indexAddr T x y){K:AV->Option α}(h:L4 P rd T (ev x) (ev y) K=O r):∃d,K d=O r/\Pu P o E R nx d:=by
 unfold L4 at h
 split at h
 case h_2=>cases h
 rename_i k m hy
 have ey:=fun ρ=>hs.eR hy ρ
 simp only[bE]at ey
 split at h
 ·rename_i e hT
  split at h
  ·rename_i t l hx
   split at h
   case h_2=>cases h
   rename_i hsz
   split at h
   ·rename_i hm
    exact⟨_,h, .fp _ (L.p9 t _ nx),fun ρ=>by have ex:=hs.eR hx ρ;rw[fG]at ex;rw[lu,L.clo];exact .Z5 ho ex (ey ρ) hT (qd hsz) hm⟩
   ·cases h
  ·rename_i id hx
   split at h
   case h_2=>cases h
   rename_i t l hr
   split at h
   case h_2=>cases h
   rename_i hsz
   split at h
   ·rename_i hm
    refine⟨_,h, .ra _ _ _ _ (hs.p9 hx).asq,fun ρ=> ?_⟩
    have ex:=hs.eR hx ρ
    rw[cX]at ex
    obtain⟨i,hi⟩:=hs.row hr ρ
    rw[iH,yb]
    exact .W4 i ho ex hi (ey ρ) hT (qd hsz) hm
   ·cases h
  ·cases h
 ·rename_i n e hT
  split at h
  case h_2=>cases h
  rename_i sz hsz
  split at h
  case isFalse=>cases h
  rename_i hm
  split at h
  ·rename_i id off hx
   exact⟨_,h, .ptr _ _ (hs.p9 hx).aqi,fun ρ=>by have ex:=hs.eR hx ρ;rw[ep]at ex ⊢;exact .ahN ho ex (ey ρ) hT hsz hm⟩
  ·rename_i cs hx
   exact⟨_,h, .fp _ (lD (hs.p9 hx).fpL _),fun ρ=>by have ex:=hs.eR hx ρ;rw[lu]at ex ⊢;rw[y5];exact .ag0 ho ex (ey ρ) hT hsz hm⟩
  ·rename_i id t j off hx
   exact⟨_,h, .ra _ _ _ _ (hs.p9 hx).raL,fun ρ=>by have ex:=hs.eR hx ρ;rw[iH]at ex ⊢;rw[<-xI];exact .akg ho ex (ey ρ) hT hsz hm⟩
  ·cases h
 ·cases h
def ldV(P:Program)(rd:Nat->Option IR)(T:TypeId)(x:Option AV)(K:AV->Option α):Option α:=match SE P T with
 |true=>match x with
  |some (.fp cs)=>(cs[0]?).bind K
  |some (.ptr id off)=>match rd id with
   |some (.box _ cs)=>(cs[off]?).bind K
   |_=>wC
  |some (.ra id t m off)=>match rd id with
   |some (.row t' l)=>match L.arr t' with
    |true=>if t=t'/\m<l.length/\off<U.sz t' then K (.lit (.bool (L.gtB t' l[m]! off)))else wC
    |false=>if t=t'/\m<l.length then((U.cells t' l[m]!)[off]?).bind K else wC
   |_=>wC
  |_=>wC
 |false=>match Ra P T with
  |some n=>match x with
   |some (.fp cs)=>match ya n cs.length with
    |true=>K (.agg (cs.take n))
    |false=>wC
   |some (.ptr id off)=>match rd id with
    |some (.box _ cs)=>match ya (off+n) cs.length with
     |true=>K (.agg ((cs.drop off).take n))
     |false=>wC
    |_=>wC
   |some (.ra id t m off)=>match rd id with
    |some (.row t' l)=>match ya (off+n) (U.sz t')with
     |true=>if t=t'/\m<l.length then K (.agg (((U.cells t' l[m]!).drop off).take n))else wC
     |false=>wC
    |_=>wC
   |_=>wC
  |none=>wC
theorem ahl{T:TypeId}(hs:jf ev rd nx E R)(ho:o.op= .load T x){K:AV->Option α}(h:ldV P rd T (ev x) K=O r):∃d,K d=O r/\Pu P o E R nx d:=by
 unfold ldV at h
 split at h
 ·rename_i hT
  have hT:=AN hT
  split at h
  ·rename_i cs hx
   obtain⟨d,hd,h⟩:=zi.1 h
   exact⟨d,h,ug (hs.p9 hx).fpL hd,fun ρ=>by have ex:=hs.eR hx ρ;rw[lu]at ex;exact .ahF ho ex hT (by rw[zX,hd];rfl)⟩
  ·rename_i id off hx
   split at h
   case h_2=>cases h
   rename_i t cs hr
   obtain⟨d,hd,h⟩:=zi.1 h
   refine⟨d,h,ug (hs.aaH hr) hd,fun ρ=> ?_⟩
   have ex:=hs.eR hx ρ
   rw[ep]at ex
   obtain⟨i,hi⟩:=hs.box hr ρ
   exact .aiv i ho ex hi hT (by rw[zX,hd];rfl)
  ·rename_i id t m off hx
   split at h
   case h_2=>cases h
   rename_i t' l hr
   split at h
   ·rename_i har
    split at h
    case isFalse=>cases h
    rename_i hm
    obtain⟨rfl,hm,hoff⟩:=hm
    refine⟨_,h, .lit _,fun ρ=> ?_⟩
    have ex:=hs.eR hx ρ
    rw[iH]at ex
    obtain⟨i,hi⟩:=hs.row hr ρ
    rw[show (bP.lit (.bool (L.gtB t l[m]! off)):AV).sub ρ= .lit (.bool (L.gtB t l[m]! off))by simp only[bP.sub]]
    exact .Wj i m ho ex hi hT rfl hm (L.aea t har l[m]! off hoff)
   split at h
   case isFalse=>cases h
   rename_i hm
   obtain⟨rfl,hm⟩:=hm
   obtain⟨d,hd,h⟩:=zi.1 h
   refine⟨d,h,ug (L.p9 t _ nx) hd,fun ρ=> ?_⟩
   have ex:=hs.eR hx ρ
   rw[iH]at ex
   obtain⟨i,hi⟩:=hs.row hr ρ
   have hc:d.sub ρ=d:=by
    have:=L.clo t l[m]! ρ
    have h2:((U.cells t l[m]!).map (bP.sub ρ))[off]? =O (d.sub ρ):=by rw[zX,hd];rfl
    rw[this,hd]at h2
    exact(zB.inj h2).symm
   rw[hc]
   exact .Wj i m ho ex hi hT rfl hm hd
  ·cases h
 ·split at h
  case h_2=>cases h
  rename_i n hT
  have hT:=Ku hT
  split at h
  ·rename_i cs hx
   split at h
   case h_2=>cases h
   rename_i hn
   exact⟨_,h, .agg _ (pE (hs.p9 hx).fpL _),fun ρ=>by have ex:=hs.eR hx ρ;rw[lu]at ex;rw[dQ,xw];exact .aiM ho ex hT (by rw[zA];exact xO hn)⟩
  ·rename_i id off hx
   split at h
   case h_2=>cases h
   rename_i t cs hr
   split at h
   case h_2=>cases h
   rename_i hn
   refine⟨_,h, .agg _ (pE (lD (hs.aaH hr) _) _),fun ρ=> ?_⟩
   have ex:=hs.eR hx ρ
   rw[ep]at ex
   obtain⟨i,hi⟩:=hs.box hr ρ
   rw[dQ,xw,y5]
   exact .ak4 i ho ex hi hT (by rw[zA];exact xO hn)
  ·rename_i id t m off hx
   split at h
   case h_2=>cases h
   rename_i t' l hr
   split at h
   case h_2=>cases h
   rename_i hn
   split at h
   case isFalse=>cases h
   rename_i hm
   obtain⟨rfl,hm⟩:=hm
   refine⟨_,h, .agg _ (pE (lD (L.p9 t _ nx) _) _),fun ρ=> ?_⟩
   have ex:=hs.eR hx ρ
   rw[iH]at ex
   obtain⟨i,hi⟩:=hs.row hr ρ
   rw[dQ,xw,y5,L.clo]
   exact .ahu i m ho ex hi hT rfl hm (xO hn)
  ·cases h
end
end Go.Iv
end
noncomputable section
namespace Go.Iv
variable [U:qT] [L:mQ]
open Go Go.RowKit
section
variable {P:Program} {E:Env} {σ:List cc} {o:Oper} {T T' e:TypeId} {x y z:Operand} {av:AV} {m:Int} {k:IntKind}
theorem Yp.ahw{n':Nat}{cs:List AV}(ho:o.op= .index T x y)(hx:E.ev x=O (.agg cs))(hy:E.ev y=O (.n k m))(hT:P.underlying T=O (.array n' e))(h1:qO P e)(hs:(P.info? e).map (·.size)=O 1)(hm:0<=m/\m<n')(ha:cs[m.toNat]? =O av):Yp P E σ o av:=fun A w ρ _ hρ=>by
 obtain⟨j,hj,hj'⟩:=zf.1 hs
 obtain⟨us,q1,q2⟩:=(hρ _ _ hx).mX
 have hy':=(hρ _ _ hy).cg
 obtain⟨v,q3,q4⟩:=q2.get ha
 refine⟨v,q4,fun w' _=> ?_⟩
 have hp:(part e us.toArray m.toNat).run P w'= .ok v w':=by
  unfold part
  rw[Sem.run_bind,lC h1]
  simp[q3]
 simp[execOp,ho,Instr.index,q1,hy',run_underlying hT,sizeOf,typeInfo,hj,hj',asIntOf,hm,hp]
end
section
variable {α:Type} {r:α} {P:Program} {o:Oper} {E:Env} {R:aP} {nx:Nat} {ev:Operand->Option AV} {rd:Nat->Option IR} {x y z:Operand} {d:AV} {A:Nat->Prop} {w:World} {ρ:Gh} {v:Value}
theorem j6(ρ:Gh)(d:AV):cW (d.sub ρ)=(cW d).map (bP.sub ρ):=by
 cases d<;>simp only[bP.sub,cW,zV,yG]
theorem Me{d:AV}(h:gz d=wE)(hn:∀id,d≠ .own id):gz (d.sub ρ)=wE:=by
 cases d<;>first|(exact absurd rfl (hn _))|(cases h;done)|(simp only[bP.sub,gz]at h ⊢;done)|(simp only[bP.sub,gz]at h ⊢;first|exact h|rfl)
theorem BE(hs:jf ev rd nx E R)(h:B7 rd d=wE)(hd:Hd A (aP.res ρ R) w)(hr:Rel A w (d.sub ρ) v):v.oneCell'=wE:=by
 unfold B7 at h
 split at h
 ·rename_i id
  split at h
  ·rename_i t l hrd
   obtain⟨i,hi⟩:=hs.row hrd ρ
   rw[cX]at hr
   rw[hr.cg]
   exact Ym i hi hd
  ·cases h
 ·rw[ep]at hr;rw[hr.cg];rfl
 ·cases h
 ·rename_i h1 _ _
  exact hr.one (Me h (fun id e=>h1 id e))
theorem tV(hs:jf ev rd nx E R)(h:Be rd d=wE)(hd:Hd A (aP.res ρ R) w)(hr:Rel A w (d.sub ρ) v):bq A w ((cW d).map (bP.sub ρ)) v.cells.toList/\∀u∈v.cells.toList,u.oneCell'=wE:=by
 by_cases ha:∃cs,d= .agg cs
 ·obtain⟨cs,rfl⟩:=ha
  rw[dQ]at hr
  obtain⟨us,rfl,h2⟩:=hr.mX
  refine⟨by simpa [Value.cells,cW]using h2,fun u hu=> ?_⟩
  simp only[Value.cells,List.toList_toArray]at hu
  obtain⟨j,hj,rfl⟩:=xK hu
  have hlt:j<cs.length:=by have:=h2.1;rw[zA]at this;omega
  have h3:=h2.2 j _ us[j] (by rw[zX,zl hlt];rfl) (zl hj)
  exact BE hs (zm.1 h _ (xo hlt)) hd h3
 ·have hc:B7 rd d=wE:=by
   cases d<;>first|exact h|(exact absurd ⟨_,rfl⟩ ha)
  have hac:cW d=[d]:=by
   cases d<;>first|rfl|(exact absurd ⟨_,rfl⟩ ha)
  have h2:=BE hs hc hd hr
  rw[hac,qW h2]
  exact⟨bq.cons hr bq.nil,fun u hu=>by simp at hu;rw[hu];exact h2⟩
theorem Et(hs:jf ev rd nx E R)(h:Be rd d=wE):Pw (aP.res ρ R) (d.sub ρ):=fun A w v hd hr=>by
 rw[j6]
 exact tV hs h hd hr
def sQ(rd:Nat->Option IR)(place:Nat->Option (Nat×Nat))(cells:List AV):List (Nat×AV)->Option (List AV)
 |[]=>O cells
 |(i,a)::rest=>
  match place i with
  |none=>wC
  |some (off,size)=>
   match zb (cW a).length size&&ya (off+size) cells.length&&Be rd a with
   |true=>sQ rd place (cells.take off++cW a++cells.drop (off+size)) rest
   |false=>wC
theorem EB{place:Nat->Option (Nat×Nat)}:∀{ps:List (Nat×AV)} {cs cs':List AV},(∀c∈cs,cj nx c)->(∀p∈ps,cj nx p.2)->sQ rd place cs ps=O cs'->∀c∈cs',cj nx c
 |[],cs,cs',h1,_,hf=>by cases hf;exact h1
 |(i,a)::ps,cs,cs',h1,h2,hf=>by
  unfold sQ at hf
  split at hf
  ·cases hf
  ·split at hf
   ·exact EB (tY (tY (pE h1 _) (vO (h2 _ zg))) (lD h1 _)) (fun p hp=>h2 p (zC _ hp)) hf
   ·cases hf
theorem vC(hs:jf ev rd nx E R)(hd:Hd A (aP.res ρ R) w){place:Nat->Option (Nat×Nat)}:∀{ps:List (Nat×AV)} {qs:List (Nat×Value)} {cs cs':List AV} {init:Array Value},bq A w (cs.map (bP.sub ρ)) init.toList->
  F2 (fun(p:Nat×AV) (q:Nat×Value)=>p.1=q.1/\Rel A w (p.2.sub ρ) q.2) ps qs->sQ rd place cs ps=O cs'->∃us:Array Value,Instr.fill place init qs=O us/\bq A w (cs'.map (bP.sub ρ)) us.toList
 |[],_,cs,cs',init,hi,hp,hf=>by
  cases hp
  cases hf
  exact⟨init,rfl,hi⟩
 |(i,a)::ps,_,cs,cs',init,hi,hp,hf=>by
  cases hp with
  |@cons _ q _ qs h1 h2=>
   obtain⟨j,v⟩:=q
   obtain⟨h3,h4⟩:=h1
   simp only at h3 h4
   subst h3
   unfold sQ at hf
   unfold Instr.fill
   cases hpl:place i with
   |none=>rw[hpl]at hf;cases hf
   |some os=>
    obtain⟨off,size⟩:=os
    rw[hpl]at hf
    simp only at hf ⊢
    split at hf
    ·rename_i hc
     simp only[ze,Nat.ble_eq]at hc
     obtain⟨⟨hc1,hc2⟩,hc3⟩:=hc
     have hc1:=yX hc1
     obtain⟨h5,h6⟩:=tV hs hc3 hd h4
     have hvs:v.cells.size=size:=by rw[<-Array.length_toList,h5.1,zA,hc1]
     have his:init.size=cs.length:=by rw[<-Array.length_toList,hi.1,zA]
     rw[if_neg (by simp[hvs];omega)]
     refine vC hs hd (cs:=cs.take off++cW a++cs.drop (off+size)) ?_ h2 hf
     have hvl:v.cells.toList.length=size:=by rw[Array.length_toList,hvs]
     have e:(v.cells.zipIdx.foldl (fun cs (x:Value×Nat)=>match x with|(c,j)=>cs.setIfInBounds (off+j) c) init).toList=init.toList.take off++v.cells.toList++init.toList.drop (off+size):=by
      have:=SM v.cells.toList 0 off init (by rw[hvl];omega)
      rw[hvl,yb]at this
      rw[<-this,<-Array.foldl_toList,Array.toList_zipIdx]
     show bq A w _ (v.cells.zipIdx.foldl _ init).toList
     rw[e,zY,zY,xw,y5]
     exact((hi.take off).app h5).app (hi.drop (off+size))
    ·cases hf
def evp(ev:Operand->Option AV):List (Nat×Operand)->Option (List (Nat×AV))
 |[]=>O []
 |(i,x)::xs=>match ev x with
  |some a=>(evp ev xs).map fun as0=>(i,a)::as0
  |none=>wC
theorem NZ(hs:jf ev rd nx E R):∀{xs:List (Nat×Operand)} {as0:List (Nat×AV)},evp ev xs=O as0->∀p∈as0,cj nx p.2
 |[],as0,h=>by cases h;simp
 |(i,x)::xs,as0,h=>by
  unfold evp at h
  split at h
  ·rename_i a ha
   obtain⟨as',h1,rfl⟩:=zf.1 h
   intro p hp
   rcases zu.1 hp with rfl|hp
   ·exact hs.p9 ha
   ·exact NZ hs h1 p hp
  ·cases h
theorem GN(hs:jf ev rd nx E R){ϱ:Operand->Value}(h:KQ A w (E.sub ρ) ϱ):∀{xs:List (Nat×Operand)} {as0:List (Nat×AV)},evp ev xs=O as0->
  F2 (fun(p:Nat×AV) (q:Nat×Value)=>p.1=q.1/\Rel A w (p.2.sub ρ) q.2) as0 (xs.map fun p=>(p.1,ϱ p.2))
 |[],as0,he=>by cases he;exact .nil
 |(i,x)::xs,as0,he=>by
  unfold evp at he
  split at he
  ·rename_i a ha
   obtain⟨as',h1,rfl⟩:=zf.1 he
   exact .cons ⟨rfl,h x _ (hs.eR ha ρ)⟩ (GN hs h h1)
  ·cases he
def KJ(ev:Operand->Option AV):List Operand->Option (List AV)
 |[]=>O []
 |x::xs=>match ev x with
  |some a=>(KJ ev xs).map fun as0=>a::as0
  |none=>wC
theorem EX(hs:jf ev rd nx E R):∀{xs:List Operand} {as0:List AV},KJ ev xs=O as0->∀d∈as0,cj nx d
 |[],as0,h=>by cases h;simp
 |x::xs,as0,h=>by
  unfold KJ at h
  split at h
  ·rename_i a ha
   obtain⟨as',h1,rfl⟩:=zf.1 h
   intro p hp
   rcases zu.1 hp with rfl|hp
   ·exact hs.p9 ha
   ·exact EX hs h1 p hp
  ·cases h
theorem HW(hs:jf ev rd nx E R)(ρ:Gh):∀{xs:List Operand} {as0:List AV},KJ ev xs=O as0->(E.sub ρ).KJ xs=O (as0.map (bP.sub ρ))
 |[],as0,he=>by cases he;rfl
 |x::xs,as0,he=>by
  unfold KJ at he
  split at he
  ·rename_i a ha
   obtain⟨as',h1,rfl⟩:=zf.1 he
   unfold Env.KJ
   rw[hs.eR ha ρ,HW hs ρ h1]
   rfl
  ·cases he
def LZ(P:Program)(ev:Operand->Option AV)(rd:Nat->Option IR)(T:TypeId)(ps:List (Nat×Operand))(K:AV->Option α):Option α:=
 match evp ev ps,iT P T with
 |some as0,O zs=>match P.underlying T with
  |some (.struct _)=>match placesOf P T with
   |some places=>(sQ rd (places[·]?) (zs.map .lit) as0).bind fun cs=>K (.agg cs)
   |none=>wC
  |some (.array _ e)=>match (P.info? e).map (·.size)with
   |some sz=>(sQ rd (fun i=>O (i*sz,sz)) (zs.map .lit) as0).bind fun cs=>K (.agg cs)
   |none=>wC
  |_=>wC
 |_,_=>wC
theorem CC(ρ:Gh)(zs:List Value):(zs.map (bP.lit (cH:=U.cH))).map (bP.sub ρ)=zs.map .lit:=by
 rw[yc]
 exact zQ fun v _=>bE ρ v
theorem XN{T:TypeId}{ps:Array (Nat×Operand)}(hs:jf ev rd nx E R)(ho:o.op= .build T ps){K:AV->Option α}(h:LZ P ev rd T ps.toList K=O r):∃d,K d=O r/\Pu P o E R nx d:=by
 unfold LZ at h
 split at h
 case h_2=>cases h
 rename_i as0 zs he hz
 have main:∀(place:Nat->Option (Nat×Nat)) (cs:List AV),sQ rd place (zs.map .lit) as0=O cs->(∀(vs:List (Nat×Value)) (us:Array Value),Instr.fill place zs.toArray vs=O us->P.built T vs=O us)->Pu P o E R nx (.agg cs):=fun place cs hf hb=>by
  refine⟨.agg _ (EB (JR nx zs) (NZ hs he) hf),fun ρ A w ϱ hd hρ=> ?_⟩
  obtain⟨it,hit,hz1⟩:=zi.1 hz
  obtain⟨zv,hz2,hz3⟩:=zf.1 hz1
  have hzr:bq A w ((zs.map bP.lit).map (bP.sub ρ)) zs:=by rw[CC];exact bq.lits _
  obtain⟨us,h1,h2⟩:=vC (init:=zs.toArray) hs hd hzr (GN hs hρ he) hf
  rw[dQ]
  refine⟨.agg us,by simpa using Rel.nO h2,fun w' _=> ?_⟩
  have:=run_build (P:=P) w' T _ us (hb _ us h1)
  rw[<-Kq]at this
  simp[execOp,ho,this]
 split at h
 ·rename_i fs hT
  split at h
  case h_2=>cases h
  rename_i places hp
  obtain⟨cs,hf,h⟩:=zi.1 h
  refine⟨_,h,main _ cs hf fun vs us hu=> ?_⟩
  obtain⟨it,hit,hz1⟩:=zi.1 hz
  obtain⟨zv,hz2,hz3⟩:=zf.1 hz1
  unfold Program.built
  unfold placesOf at hp
  rw[hit,hT]at*
  simp only at hp
  simp only[hz2,hp]
  have:zv.cells=zs.toArray:=by rw[<-hz3]
  rw[this]
  simpa using hu
 ·rename_i n e hT
  split at h
  case h_2=>cases h
  rename_i sz hsz
  obtain⟨cs,hf,h⟩:=zi.1 h
  refine⟨_,h,main _ cs hf fun vs us hu=> ?_⟩
  obtain⟨it,hit,hz1⟩:=zi.1 hz
  obtain⟨zv,hz2,hz3⟩:=zf.1 hz1
  obtain⟨ie,hie,hse⟩:=zf.1 hsz
  unfold Program.built
  rw[hit,hT]
  simp only[hz2,hie,hse]
  have:zv.cells=zs.toArray:=by rw[<-hz3]
  rw[this]
  exact hu
 ·cases h
def K6(P:Program)(rd:Nat->Option IR)(T T':TypeId)(x:Option AV)(K:AV->Option α):Option α:=match P.underlying T,P.underlying T' with
 |some (.int _),O (.int k')=>match x with
  |some (.lit (.int k n))=>match P.underlying T with
   |some (.int k0)=>if k0=k then K (.n k' (k'.wrap n))else wC
   |_=>wC
  |_=>wC
 |some (.slice e),O .string=>match P.underlying e with
  |some (.int .u8)=>match x with
   |some (.sl t l)=>(L.acI t l).bind fun ns=>K (.s (strOfNums ns))
   |some (.own id)=>match rd id with
    |some (.row t l)=>(L.acI t l).bind fun ns=>K (.s (strOfNums ns))
    |_=>wC
   |_=>wC
  |_=>wC
 |_,_=>wC
theorem Zm{T T':TypeId}(hs:jf ev rd nx E R)(ho:o.op= .convert T T' x){K:AV->Option α}(h:K6 P rd T T' (ev x) K=O r):∃d,K d=O r/\Pu P o E R nx d:=by
 unfold K6 at h
 split at h
 ·rename_i k0 k' hT hT'
  split at h
  case h_2=>cases h
  rename_i k n hx
  have ex:=fun ρ=>hs.eR hx ρ
  simp only[bE]at ex
  split at h
  case h_2=>cases h
  rename_i k1 hk1
  split at h
  case isFalse=>cases h
  rename_i hk
  subst hk
  exact⟨_,h, .lit fun ρ=> .conv hk1 hT' ho (ex ρ)⟩
 ·rename_i e hT hT'
  split at h
  case h_2=>cases h
  rename_i he
  split at h
  ·rename_i t l hx
   obtain⟨ns,hn,h⟩:=zi.1 h
   exact⟨_,h, .lit fun ρ=> .b2s ho (.inr (.inl (by have ex:=hs.eR hx ρ;rw[fG]at ex;exact ex))) (L.tP t l ns hn).1 (L.tP t l ns hn).2 hT he hT'⟩
  ·rename_i id hx
   split at h
   case h_2=>cases h
   rename_i t l hr
   obtain⟨ns,hn,h⟩:=zi.1 h
   refine⟨_,h, .lit fun ρ=> ?_⟩
   have ex:=hs.eR hx ρ
   rw[cX]at ex
   obtain⟨i,hi⟩:=hs.row hr ρ
   exact .b2s ho (.inr (.inr ⟨i,_,ex,hi⟩)) (L.tP t l ns hn).1 (L.tP t l ns hn).2 hT he hT'
  ·cases h
 ·cases h
def M8(i:Nat)(x:Option AV)(K:AV->Option α):Option α:=match x with
 |some (.iA cs)=>(cs[i]?).bind K
 |_=>wC
theorem Zb{i:Nat}(hs:jf ev rd nx E R)(ho:o.op= .extract x i){K:AV->Option α}(h:M8 i (ev x) K=O r):∃d,K d=O r/\Pu P o E R nx d:=by
 unfold M8 at h
 split at h
 ·rename_i cs hx
  obtain⟨d,hd,h⟩:=zi.1 h
  exact⟨d,h,ug (hs.p9 hx).DJ hd,fun ρ=>by have ex:=hs.eR hx ρ;rw[jC]at ex;exact .extract ho ex (by rw[zX,hd];rfl)⟩
 ·cases h
def L0(ev:Operand->Option AV)(f:Go.Fn)(fs cs:List Operand)(K:AV->Option α):Option α:=match fs with
 |[]=>(KJ ev cs).bind fun as0=>K (.fn f as0)
 |_=>wC
theorem XY{f:Go.Fn}{fs cs:Array Operand}(hs:jf ev rd nx E R)(ho:o.op= .makeFunc f fs cs){K:AV->Option α}(h:L0 ev f fs.toList cs.toList K=O r):∃d,K d=O r/\Pu P o E R nx d:=by
 unfold L0 at h
 split at h
 ·rename_i h0
  obtain⟨as0,ha,h⟩:=zi.1 h
  refine⟨_,h, .fn _ _ (EX hs ha),fun ρ=> ?_⟩
  rw[sH]
  exact .func ho (by rw[<-Array.toList_eq_nil_iff];exact h0) (HW hs ρ ha)
 ·cases h
def bR(s:ByteArray)(i:Nat):Int:=((s.data[i]!).toNat:Int)
theorem Yp.akP{T:TypeId}{E:Env}{σ:List cc}{s:ByteArray}{k:IntKind}{m:Int}(ho:o.op= .index T x y)(hx:E.ev x=O (.s s))(hy:E.ev y=O (.n k m))(hT:P.underlying T=O .string)(hm:0<=m/\m<(s.size:Int)):Yp P E σ o (.n .u8 (bR s m.toNat)):=fun A w ρ _ hρ=>by
 refine⟨_, .lit _,fun w' _=> ?_⟩
 have hx':=(hρ _ _ hx).cg
 have hy':=(hρ _ _ hy).cg
 have h:=run_index_string (P:=P) w' T s k m hT
 rw[dif_pos hm]at h
 have e:bR s m.toNat=((s[m.toNat]'(by omega)).toNat:Int):=by
  unfold bR
  have hlt:m.toNat<s.data.size:=by have:s.data.size=s.size:=rfl;omega
  rw[getElem!_pos s.data m.toNat hlt]
  rfl
 rw[<-e]at h
 simp[execOp,ho,hx',hy',h]
def LG(P:Program)(T:TypeId)(x y:Option AV)(K:AV->Option α):Option α:=match P.underlying T with
 |some (.array n e)=>match SE P e&&Kh P e 1 with
  |true=>match x,y with
   |some (.agg cs),O (.lit (.int _ m))=>if 0<=m/\m<(n:Int)then(cs[m.toNat]?).bind K else wC
   |_,_=>wC
  |false=>wC
 |some .string=>match x,y with
  |some (.lit (.string s)),O (.lit (.int _ m))=>if 0<=m/\m<(s.size:Int)then K (.n .u8 (bR s m.toNat))else wC
  |_,_=>wC
 |_=>wC
theorem abP{T:TypeId}(hs:jf ev rd nx E R)(ho:o.op= .index T x y){K:AV->Option α}(h:LG P T (ev x) (ev y) K=O r):∃d,K d=O r/\Pu P o E R nx d:=by
 unfold LG at h
 split at h
 case h_3=>cases h
 case h_2=>
  rename_i hT
  split at h
  case h_2=>cases h
  rename_i s k m hx hy
  split at h
  case isFalse=>cases h
  rename_i hm
  have ex:=fun ρ=>hs.eR hx ρ
  have ey:=fun ρ=>hs.eR hy ρ
  simp only[bE]at ex ey
  exact⟨_,h, .lit fun ρ=> .akP ho (ex ρ) (ey ρ) hT hm⟩
 rename_i n e hT
 split at h
 case h_2=>cases h
 rename_i he
 simp only[ze]at he
 split at h
 case h_2=>cases h
 rename_i cs k m hx hy
 split at h
 case isFalse=>cases h
 rename_i hm
 obtain⟨d,hd,h⟩:=zi.1 h
 refine⟨d,h,ug (hs.p9 hx).nO hd,fun ρ=> ?_⟩
 have ex:=hs.eR hx ρ
 have ey:=hs.eR hy ρ
 rw[dQ]at ex
 rw[bE]at ey
 exact .ahw ho ex ey hT (AN he.1) (qd he.2) hm (by rw[zX,hd];rfl)
def LV(P:Program)(T:TypeId)(x:Option AV)(lo hi:Option (Option AV))(K:AV->Option α):Option α:=match P.underlying T with
 |some (.slice e)=>match x with
  |some (.sl t l)=>match Kh P e (U.sz t)with
   |true=>match lo,hi with
    |some (O (.lit (.int _ a))),O (O (.lit (.int _ b)))=>if 0<=a/\a<=b/\b<=(l.length:Int)then K (.sl t ((l.take b.toNat).drop a.toNat))else wC
    |none,O (O (.lit (.int _ b)))=>if 0<=b/\b<=(l.length:Int)then K (.sl t (l.take b.toNat))else wC
    |some (O (.lit (.int _ a))),wC=>if 0<=a/\a<=(l.length:Int)then K (.sl t (l.drop a.toNat))else wC
    |_,_=>wC
   |false=>wC
  |_=>wC
 |_=>wC
theorem aa7{T:TypeId}{lo hi:Option Operand}(hs:jf ev rd nx E R)(ho:o.op= .slice T x lo hi wC){K:AV->Option α}(h:LV P T (ev x) (lo.map ev) (hi.map ev) K=O r):∃d,K d=O r/\Pu P o E R nx d:=by
 unfold LV at h
 split at h
 case h_2=>cases h
 rename_i e hT
 split at h
 case h_2=>cases h
 rename_i t l hx
 split at h
 case h_2=>cases h
 rename_i hsz
 have hsz:=qd hsz
 have ex:=fun ρ=>hs.eR hx ρ
 simp only[fG]at ex
 split at h
 ·rename_i k a k' b hlo hhi
  split at h
  case isFalse=>cases h
  rename_i hc
  cases lo with
  |none=>cases hlo
  |some lo=>
   cases hi with
   |none=>cases hhi
   |some hi=>
    have e1:=fun ρ=>hs.eR (zB.inj hlo) ρ
    have e2:=fun ρ=>hs.eR (zB.inj hhi) ρ
    simp only[bE]at e1 e2
    exact⟨_,h, .sl _ _,fun ρ=>by rw[fG];exact .ajG ho (ex ρ) (e1 ρ) (e2 ρ) hT hsz hc⟩
 ·rename_i k' b hlo hhi
  split at h
  case isFalse=>cases h
  rename_i hc
  cases lo with
  |some lo=>cases hlo
  |none=>
   cases hi with
   |none=>cases hhi
   |some hi=>
    have e2:=fun ρ=>hs.eR (zB.inj hhi) ρ
    simp only[bE]at e2
    exact⟨_,h, .sl _ _,fun ρ=>by rw[fG];exact .ZT ho (ex ρ) (e2 ρ) hT hsz hc⟩
 ·rename_i k a hlo hhi
  split at h
  case isFalse=>cases h
  rename_i hc
  cases lo with
  |none=>cases hlo
  |some lo=>
   cases hi with
   |some hi=>cases hhi
   |none=>
    have e1:=fun ρ=>hs.eR (zB.inj hlo) ρ
    simp only[bE]at e1
    exact⟨_,h, .sl _ _,fun ρ=>by rw[fG];exact .abY ho (ex ρ) (e1 ρ) hT hsz hc⟩
 ·cases h
def K9(P:Program)(rd:Nat->Option IR)(T:TypeId)(x:Option AV)(K:AV->Option α):Option α:=match P.underlying T with
 |some (.slice _)=>match x with
  |some (.sl _ l)=>K (.i (l.length:Int))
  |some (.own id)=>match rd id with
   |some (.row _ l)=>K (.i (l.length:Int))
   |_=>wC
  |some (.lit (.slice wC 0 0))=>K (.i 0)
  |_=>wC
 |some .string=>match x with
  |some (.lit (.string s))=>K (.i (s.size:Int))
  |_=>wC
 |_=>wC
theorem XL{T:TypeId}(hs:jf ev rd nx E R)(ho:o.op= .call {callee:= .builtin .len,args:=#[x],argTypes:=#[T]}){K:AV->Option α}(h:K9 P rd T (ev x) K=O r):∃d,K d=O r/\Pu P o E R nx d:=by
 unfold K9 at h
 split at h
 ·rename_i e hT
  split at h
  ·rename_i t l hx
   exact⟨_,h, .lit fun ρ=> .amH ho (by have ex:=hs.eR hx ρ;rw[fG]at ex;exact ex) hT⟩
  ·rename_i id hx
   split at h
   case h_2=>cases h
   rename_i t l hr
   refine⟨_,h, .lit fun ρ=> ?_⟩
   have ex:=hs.eR hx ρ
   rw[cX]at ex
   obtain⟨i,hi⟩:=hs.row hr ρ
   exact .aje i ho ex hi hT
  ·rename_i hx
   exact⟨_,h, .lit fun ρ=> .aiE ho (by have ex:=hs.eR hx ρ;rw[bE]at ex;exact ex) hT⟩
  ·cases h
 ·rename_i hT
  split at h
  ·rename_i s hx
   exact⟨_,h, .lit fun ρ=> .aia ho (by have ex:=hs.eR hx ρ;rw[bE]at ex;exact ex) hT⟩
  ·cases h
 ·cases h
end
end Go.Iv
end
noncomputable section
namespace Go.Iv
variable [U:qT]
open Go Go.RowKit
theorem BG{zs:List Value}{sz:Nat}(hsz:zs.length=sz)(nn:Nat):(Builtin.zeroCells zs.toArray nn).toList=(zj nn zs).flatten:=by
 apply List.ext_getElem?
 intro j
 have hfl:(zj nn zs).flatten.length=nn*sz:=by simp[hsz]
 have hq:∀(q:Nat) (j:Nat),j<q*sz->(zj q zs).flatten[j]? =zs[j%sz]? :=by
  intro q
  induction q with
  |zero=>intro j hj;simp at hj
  |succ q ih=>
   intro j hj
   rw[yF,xY,yY]
   split
   ·rename_i h;rw[hsz]at h;rw[Nat.mod_eq_of_lt h]
   ·rename_i h
    rw[hsz]at h
    rw[hsz,ih _ (by rw[yE]at hj;omega),Nat.mod_eq_sub_mod (by omega:sz<=j)]
 by_cases hj:j<nn*sz
 ·rw[hq nn j hj]
  have h0:0<sz:=by
   rcases Nat.eq_zero_or_pos sz with h|h
   ·rw[h]at hj;omega
   ·exact h
  have hlt:j%sz<zs.length:=by rw[hsz];exact y4 _ h0
  rw[zl hlt]
  simp[Builtin.zeroCells,hsz,hj,zl hlt]
 ·rw[xW (l:=(zj nn zs).flatten) (by rw[hfl];omega),xW]
  simp[Builtin.zeroCells,hsz];omega
theorem Ah{P:Program}{w:World}{T tn ty e:TypeId}{kn:IntKind}{i:TypeInfo}{zz v:Value}{sz by' nn mm:Nat}{us:List Value}(ht:P.underlying T=O (.slice e))(htn:P.underlying tn=O (.int kn))(hi:P.info? e=O i)(hz:i.zero=O zz)(hs:i.size=sz)(hby:i.bytes=by')(hzs:zz.cells.size=sz)(hpos:0<sz)
  (hrow:gy w v e sz nn us) (h1:∀u∈(Builtin.zeroCells zz.cells mm).toList,u.oneCell'=wE) (h63:nn+mm<=maxLen) (hb:(nn+mm)*by'<=140737488355328):
  ∃v' w',(Builtin.append_ #[T,tn] ty #[v, .int .i64 mm]).run P w= .ok v' w'/\gy w' v' e sz (nn+mm) (us++(Builtin.zeroCells zz.cells mm).toList)/\Kp (gd v).toList w w'/\(gd v'=gd v\/gd v'=O w.heap.size):=by
 subst hs hby
 have h63':((nn+mm:Nat):Int)<=9223372036854775807:=by unfold maxLen at h63;omega
 have hw:IntKind.i64.wrap (mm:Int)=mm:=by rw[IntKind.wrap_i64];omega
 have hneg:¬((mm:Int)<0):=by omega
 have hmb:mm*i.bytes<=140737488355328:=zy (yt _ (by omega)) hb
 have h48i:¬(281474976710656<(mm:Int)*(i.bytes:Int)):=by rw[<-xh];omega
 have hzl:(Builtin.zeroCells zz.cells mm).toList.length=mm*i.size:=by rw[Array.length_toList,size_zeroCells,hzs]
 by_cases hm:mm=0
 ·subst hm
  obtain⟨q,cap,rfl,hcap⟩:=hrow.len
  have hrun:(Builtin.append_ #[T,tn] ty #[.slice q nn cap, .int .i64 (0:Nat)]).run P w= .ok (.slice q nn cap) w:=by
   cases q<;>simp[Builtin.append_,run_underlying ht,run_underlying htn,sizeOf,typeInfo,hi,asInt,asIntOf,hw,hcap,storeCells,IntKind.wrap_i64]
  exact⟨_,w,hrun,by simpa [Builtin.zeroCells]using hrow,Kp.refl _ _, .inl rfl⟩
 ·have hfit:∀old,Builtin.nextslicecap (nn+mm) old*i.bytes<=281474976710656\/¬old<nn+mm:=fun old=>by
   by_cases h:old<nn+mm
   ·exact .inl (growslice_fits (by omega) hb)
   ·exact .inr h
  have grown:∀(olds:List Value) (old:Nat),olds.length=nn*i.size->old<nn+mm->us=olds->
    gy (w.drew.alloc (.cells (olds.toArray++Builtin.zeroCells zz.cells mm++Builtin.zeroCells zz.cells (grownCap w (nn+mm) old e-(nn+mm))) e)) (.slice (O ⟨w.heap.size,0,wC⟩) (nn+mm) (grownCap w (nn+mm) old e)) e i.size (nn+mm) (us++(Builtin.zeroCells zz.cells mm).toList):=by
   intro olds old hol hlt hus
   subst hus
   have hge:=grownCap_ge w (nn+mm) old e
   have hcm:=grownCap_le_maxLen w (nn+mm) old e h63
   obtain⟨ck,hck⟩:∃ck,grownCap w (nn+mm) old e=ck+1:=⟨grownCap w (nn+mm) old e-1,by omega⟩
   refine⟨by rw[zh,hol,hzl,zZ], .inr ⟨w.heap.size,ck,_,by rw[hck],heap_alloc_new w.drew _,by omega,by omega,?_,?_⟩⟩
   ·rw[<-hck]
    simp only[Array.size_append,yZ,size_zeroCells,hzs,hol,<-zZ]
    congr 1
    omega
   ·simp only[Array.toList_append]
    rw[show (nn+mm)*i.size=(us++(Builtin.zeroCells zz.cells mm).toList).length from by rw[zh,hol,hzl,zZ]]
    exact List.take_left
  have grow:∀(base:Option Addr) (old:Nat),(Builtin.firstCells i.size nn (.slice base nn old)).run P w.drew= .ok us.toArray w.drew->us.length=nn*i.size->old<nn+mm->
    ∃v' w',(Builtin.append_ #[T,tn] ty #[.slice base nn old, .int .i64 mm]).run P w= .ok v' w'/\gy w' v' e i.size (nn+mm) (us++(Builtin.zeroCells zz.cells mm).toList)/\Kp [] w w'/\gd v'=O w.heap.size:=fun base old hf hul hlt=>by
   have hr:=Lib.run_append_grow_zeros (P:=P) w T tn ty e i zz .i64 kn ht htn hi hz base nn old us hf mm (by omega) hpos hlt h63' (by omega) ((hfit old).resolve_right (by omega))
   refine⟨_,_,hr,grown us old hul hlt rfl,⟨rfl,rfl,rfl,by simp,fun k hk _=>heap_alloc_old w.drew _ hk⟩,?_⟩
   have hge:=grownCap_ge w (nn+mm) old e
   obtain⟨ck,hck⟩:∃ck,grownCap w (nn+mm) old e=ck+1:=⟨grownCap w (nn+mm) old e-1,by omega⟩
   rw[hck];rfl
  rcases hrow.2 with ⟨q,rfl,rfl⟩|⟨g,cap,cur,rfl,hg,hnc,hcm,hcs,htake⟩
  ·have hu:us=[]:=yR (by simpa using hrow.1)
   subst hu
   obtain⟨v',w',r1,r2,r3,r4⟩:=grow q 0 (by cases q<;>simp[Builtin.firstCells,loadCells,loadCellsFrom]) (by simp) (by omega)
   exact⟨v',w',r1,r2,⟨r3.os,r3.tape,r3.output,r3.size,fun k hk _=>r3.block k hk (by simp)⟩, .inr r4⟩
  ·by_cases hroom:nn+mm<=cap+1
   ·have hcl:nn*i.size+(Builtin.zeroCells zz.cells mm).toList.length<=cur.size:=by rw[hzl,hcs,<-zZ];exact yt _ hroom
    have hst:=run_storeCells_at P g (nn*i.size) e (Builtin.zeroCells zz.cells mm).toList 0 cur w hg (by simpa using hcl) h1
    simp only[yb]at hst
    have hns:¬(mm*i.size=0):=Nat.mul_ne_zero hm (by omega)
    have hr:(Builtin.append_ #[T,tn] ty #[.slice (O ⟨g,0,wC⟩) nn (cap+1), .int .i64 mm]).run P w= .ok (.slice (O ⟨g,0,wC⟩) (nn+mm) (cap+1)) (w.setRow g (cur.toList.take (nn*i.size)++(Builtin.zeroCells zz.cells mm).toList++cur.toList.drop (nn*i.size+(Builtin.zeroCells zz.cells mm).toList.length)).toArray):=by
     simp[Builtin.append_,run_underlying ht,run_underlying htn,sizeOf,typeInfo,zeroValue,hi,hz,asInt,asIntOf,hw,hneg,hns,h48i,hroom,Addr.add_lit,hst]
    refine⟨_,_,hr,⟨by rw[zh,hrow.1,hzl,zZ], .inr ⟨g,cap,_,rfl,setRow_heap w g cur _ e _ hg,hroom,hcm,?_,?_⟩⟩,me w g _, .inl rfl⟩
    ·simp only[yZ,zh,zU,ye,Array.length_toList]at hcl ⊢
     omega
    ·rw[htake,show (nn+mm)*i.size=(us++(Builtin.zeroCells zz.cells mm).toList).length from by rw[zh,hrow.1,hzl,zZ]]
     exact List.take_left
   ·have holds:∀j v,us[j]? =O v->w.cell? ((⟨g,0,wC⟩:Addr).add j)=O v:=fun j v hj=>by
     rw[nW,yu];exact hrow.cells rfl j v hj
    obtain⟨v',w',r1,r2,r3,r4⟩:=grow (O ⟨g,0,wC⟩) (cap+1) (run_firstCells_some (P:=P) w.drew i.size nn ⟨g,0,wC⟩ nn (cap+1) us hrow.1 (by simpa using holds)) hrow.1 (by omega)
    exact⟨v',w',r1,r2,⟨r3.os,r3.tape,r3.output,r3.size,fun k hk _=>r3.block k hk (by simp)⟩, .inr r4⟩
theorem CU{A:Nat->Prop}{w:World}{q:Nat}{d:U.cH q}{zs:List Value}(hd:∀A w,bq A w (U.cells q d) zs):∀n,bq A w ((zj n d).flatMap (U.cells q)) (zj n zs).flatten
 |0=>bq.nil
 |n+1=>by
  rw[yF,yF,xq,xY]
  exact(hd A w).app (CU hd n)
section
variable {P:Program} {C:Cx} {E:Env} {σ:List cc} {o:Oper} {x y:Operand} {T tn e:TypeId} {v:Value}
theorem Yv.ar9{by':Nat}{kn:IntKind}{l:List (U.cH e)}{zs:List Value}{m:Int}(i:Nat)(d:U.cH e)(ho:o.op= .call {callee:= .builtin .append,args:=#[x,y],argTypes:=#[T,tn]})(hx:E.ev x=O (.lit v))(hσ:σ[i]? =O (.row v e l))(hy:E.ev y=O (.i m))(hT:P.underlying T=O (.slice e))(htn:P.underlying tn=O (.int kn))(hs:(P.info? e).map (fun i=>(i.size,i.bytes))=O ((U.sz e),by'))(hz:iT P e=O zs)(hzl:zs.length=(U.sz e))(hpos:0<(U.sz e))(hb:ya by' 4096=wE)
  (hd:∀A w,bq A w (U.cells e d) zs) (hone:zs.all Value.oneCell'=wE) (hlen:0<=m/\(l++zj m.toNat d).length<=1073741824):Yv P E σ o C (xp (gd v)) (fun a σ'=>∃v',a= .lit v'/\σ'=σ.set i (.row v' e (l++zj m.toNat d))):=fun w ρ hg hρ=>by
 obtain⟨it,hit,hz1⟩:=zi.1 hz
 obtain⟨zv,hz2,hz3⟩:=zf.1 hz1
 obtain⟨ie,hie,hse⟩:=zf.1 hs
 have hee:it=ie:=by rw[hit]at hie;exact zB.inj hie
 subst hee
 simp only[Prod.mk.injEq]at hse
 obtain⟨s1,s2⟩:=hse
 have hby:by'<=4096:=by simpa using hb
 obtain⟨us,g1,g2,g3⟩:=CE (hg.res _ (List.mem_of_getElem? hσ))
 have hx':=(hρ _ _ hx).cg
 have hy':=(hρ _ _ hy).cg
 obtain⟨mm,rfl⟩:∃mm:Nat,m=mm:=⟨m.toNat,by omega⟩
 rw[za]at hlen ⊢
 obtain⟨_,hlen⟩:=hlen
 rw[zh,xL]at hlen
 have hbytes:(l.length+mm)*by'<=140737488355328:=by
  have:(l.length+mm)*by'<=1073741824*4096:=Nat.mul_le_mul hlen hby
  omega
 have hzc:zv.cells=zs.toArray:=by rw[<-hz3]
 have hzt:(Builtin.zeroCells zv.cells mm).toList=(zj mm zs).flatten:=by rw[hzc];exact BG hzl mm
 obtain⟨v',w',r1,r2,r3,r4⟩:=Ah (P:=P) (T:=T) (tn:=tn) (ty:=o.type) hT htn hit hz2 s1 s2 (by rw[hzc,yZ,hzl]) hpos g1 (mm:=mm) (by
  rw[hzt]
  intro u hu
  obtain⟨q,hq,hu⟩:=List.mem_flatten.1 hu
  rw[List.eq_of_mem_replicate hq]at hu
  exact zm.1 hone u hu) (by unfold maxLen;omega) hbytes
 rw[hzt]at r2
 refine⟨v',w',_,_,⟨v',rfl,rfl⟩,Cm (r:= .row v e l) hg hσ r3 r4 (Bc (by rw[zh,xL];exact r2) (Kn g2 (fun j hj=> ?_)) ?_),?_, .lit _⟩
 ·rw[xL]at hj
  rw[getElem!_pos _ j (by simpa using hj),List.getElem_replicate,<-(hd (fun _=>True) w).1,hzl]
 ·rw[List.flatMap_append]
  refine bq.app (g3.mono fun b hb hA=>⟨⟨hA.1,fun hx=> ?_⟩,r3.block b hb (fun hx=>hA.2 (bD.2 ⟨_,List.mem_of_getElem? hσ,by simpa [cc.blk]using hx⟩))⟩) (CU hd mm)
  obtain⟨s,hs1,hs2⟩:=bD.1 hx
  rcases List.mem_or_eq_of_mem_set hs1 with h|h
  ·exact hA.2 (bD.2 ⟨s,h,hs2⟩)
  ·rw[h]at hs2
   rcases r4 with r4|r4
   ·exact hA.2 (bD.2 ⟨_,List.mem_of_getElem? hσ,by rw[<-hs2];exact r4.symm⟩)
   ·have hs2':gd v'=O b:=hs2
    rw[r4]at hs2'
    cases hs2'
    omega
 ·simp[execOp,ho,resolve,invoke,builtin,hx',hy',r1]
end
end Go.Iv
end
noncomputable section
namespace Go.Iv
open Go Go.RowKit
variable [U:qT] {P:Program} {C:Cx} {E:Env} {σ:List cc} {o:Oper} {T T':TypeId} {x y:Operand} {v:Value}
theorem Yv.aoy{q:Nat}{l l2:List (U.cH q)}(i:Nat)(ho:o.op= .call {callee:= .builtin .copy,args:=#[x,y],argTypes:=#[T,T']})(hx:E.ev x=O (.lit v))(hσ:σ[i]? =O (.row v q l))(hs:Src σ E y q l2)
  (hT:P.underlying T=O (.slice q)) (hz:(P.info? q).map (·.size)=O 1) (hsz:U.sz q=1) (hlen:l2.length=l.length) (h0:0<l.length) (hone:∀a,(U.cells q a).all gz=wE):
  Yv P E σ o C (xp (gd v)) (fun a σ'=>a= .i (l.length:Int)/\σ'=σ.set i (.row v q l2)):=fun w ρ hg hρ=>by
 obtain⟨j,hj,hj'⟩:=zf.1 hz
 obtain⟨us,h1,h2,h3⟩:=hg.res _ (List.mem_of_getElem? hσ)
 obtain⟨g,cap,cur,hv,hgb,hB,q1,q2,q3,q4⟩:=h1.at h0
 obtain⟨p,cap2,news,r1,r2,r3,r4,r5,r6⟩:=Src.spec hs hg.hd hρ
 have hx':=(hρ _ _ hx).cg
 rcases r2 with r2|⟨a,rfl,r2⟩
 ·omega
 rw[hsz,y6]at r3 q3
 have hone':(l2.flatMap (U.cells q)).all gz=wE:=zm.2 fun c hc=>by
  obtain⟨z,_,hz⟩:=xM.1 hc
  exact zm.1 (hone z) c hz
 have hl:=run_loadCells_list (P:=P) w a news r2
 have hst:=run_storeCells_at P g 0 q news 0 cur w hB (by rw[r3,q3];omega) (r5.one hone')
 simp only[yb,yu,xx,z8]at hst
 have hpart:∀b,al C (σ.set i (.row v q l2)) b↔al C σ b:=fun b=>by
  have hbk:=Cq (r':=cc.row v q l2) hσ rfl
  unfold al
  rw[hbk]
 have hal:∀b,b<w.heap.size->al C σ b->al C (σ.set i (.row v q l2)) b/\(w.setRow g (news++cur.toList.drop news.length).toArray).heap[b]? =w.heap[b]? :=fun b hb hA=>
  ⟨(hpart b).2 hA,setRow_other w g b _ (fun e=>hA.2 (bD.2 ⟨_,List.mem_of_getElem? hσ,by rw[e];exact hgb⟩))⟩
 refine⟨.int .i64 l.length,w.setRow g (news++cur.toList.drop news.length).toArray,_,_,⟨rfl,rfl⟩,Cm (r:= .row v q l) hg hσ (by show Kp (xp (gd v)) _ _;rw[hgb];exact me w g _) (.inl rfl) (Bc (us:=news) ⟨by rw[hsz,y6,r3], .inr ⟨g,cap,_,by rw[hlen];exact hv,setRow_heap w g cur _ q (0,0) hB,by rw[hlen];exact q1,q2,?_,?_⟩⟩ r4 (r5.mono hal)),?_, .lit _⟩
 ·have hc:cur.toList.length=cap+1:=by rw[Array.length_toList];exact q3
  simp only[yZ,zh,ye,hc,hsz,y6,r3,hlen]
  omega
 ·rw[hsz,y6,<-r3]
  simp
 ·have hmin:min l2.length l.length=news.length:=by rw[r3];omega
  have hmin':Nat.min l2.length l.length=news.length:=hmin
  have hnl:news.length=l.length:=by rw[r3,hlen]
  rw[<-hnl]
  simp[execOp,ho,resolve,invoke,builtin,hx',hv,r1,Builtin.copy_,run_underlying hT,Builtin.lenOf,Builtin.firstCells,sizeOf,typeInfo,hj,hj',hmin',hl,hst,goInt]
end Go.Iv
end
noncomputable section
namespace Go.Iv
variable [U:qT] [L:mQ]
open Go Go.RowKit
inductive eX:Type
 |val (d:AV)
 |new (d:AV) (r:IR)
 |set (id:Nat) (r:IR)
 |grow (id:Nat) (r:IR)
 |all (d:AV) (R:aP) (nx:Nat)
def eX.R(R:aP)(nx:Nat):eX->aP
 | .val _=>R
 | .new _ r=>(nx,r)::R
 | .set id r=>rM id r R
 | .grow id r=>(nx,r)::jL id R
 | .all _ R' _=>R'
def eX.nx(nx:Nat):eX->Nat
 | .val _=>nx
 | .new _ _=>nx+1
 | .set _ _=>nx
 | .grow _ _=>nx+1
 | .all _ _ m=>m
def eX.vl(nx:Nat):eX->Option AV
 | .val d=>O d
 | .new d _=>O d
 | .set _ _=>wC
 | .grow _ _=>O (.own nx)
 | .all d _ _=>O d
section
variable {P:Program} {C:Cx} {E:Env} {σ σ':List cc} {o:Oper} {N:Option AV->List cc->Prop} {X:List Nat} {N0:AV->List cc->Prop} {av:AV}
def Ye(P:Program)(E:Env)(σ:List cc)(o:Oper)(C:Cx)(N:Option AV->List cc->Prop):Prop:=∀(w:World) (ϱ:Operand->Value),Good C σ w->KQ (al C σ) w E ϱ->
 (∃v w' av σ',N (O av) σ'/\Tr C (bh σ) σ w σ' w'/\(execOp ϱ o).run P w= .ok (.value v) w'/\Rel (al C σ') w' av v)\/
 (∃w' σ',N wC σ'/\Tr C (bh σ) σ w σ' w'/\(execOp ϱ o).run P w= .ok .skip w')\/
 (∃f args,(execOp ϱ o).run P w= .ok (.enter f args) w/\Calls P f args w fun e w'=>∃v av σ',e= .returned v/\N (O av) σ'/\Tr C (bh σ) σ w σ' w'/\Rel (al C σ') w' av v)
theorem Tr.wide{w w':World}(h:Tr C X σ w σ' w')(hX:∀b∈X,b∈bh σ):Tr C (bh σ) σ w σ' w':=
 ⟨h.good,⟨h.kp.os,h.kp.tape,h.kp.output,h.kp.size,fun k hk hn=>h.kp.block k hk fun hx=>hn (hX k hx)⟩,fun b hb hA=>⟨(h.al b hb hA).1,hA.2⟩⟩
theorem Tr.none{w:World}(h:Good C σ w):Tr C (bh σ) σ w σ w:=⟨h,Kp.refl _ _,fun _ _ hA=>⟨hA,hA.2⟩⟩
theorem Ye.ofP(h:Yp P E σ o av)(hN:N (O av) σ):Ye P E σ o C N:=fun w ϱ hg hρ=>by
 obtain⟨v,h1,h2⟩:=h _ w ϱ hg.hd hρ
 exact .inl ⟨v,w,av,σ,hN, .none hg,h2 w (fun _ _ _=>rfl),h1⟩
theorem Ye.ofV(h:Yv P E σ o C X N0)(hX:∀b∈X,b∈bh σ)(hN:∀a σ',N0 a σ'->N (O a) σ'):Ye P E σ o C N:=fun w ϱ hg hρ=>by
 obtain⟨v,w',av,σ',h1,h2,h3,h4⟩:=h w ϱ hg hρ
 exact .inl ⟨v,w',av,σ',hN _ _ h1,h2.wide hX,h3,h4⟩
theorem Ye.ofU(h:Yu P E σ o C X σ')(hX:∀b∈X,b∈bh σ)(hN:N wC σ'):Ye P E σ o C N:=fun w ϱ hg hρ=>by
 obtain⟨w',h2,h3⟩:=h w ϱ hg hρ
 exact .inr (.inl ⟨w',σ',hN,h2.wide hX,h3⟩)
theorem Ye.ofC(h:Yc P E σ o C X N0)(hX:∀b∈X,b∈bh σ)(hN:∀a σ',N0 a σ'->N (O a) σ'):Ye P E σ o C N:=fun w ϱ hg hρ=>by
 obtain⟨f,args,h1,h2⟩:=h w ϱ hg hρ
 exact .inr (.inr ⟨f,args,h1,h2.mono fun e w' ⟨v,av,σ',q1,q2,q3,q4⟩=>⟨v,av,σ',q1,hN _ _ q2,q3.wide hX,q4⟩⟩)
end
def Nx{α:Type}(R:aP)(nx:Nat)(K:eX->Option α)(r:α)(ρ:Gh):Option AV->List cc->Prop:=fun a σ'=>∃eff:eX,K eff=O r/\nx<=eff.nx nx/\aP.cj (eff.nx nx) (eff.R R nx)/\(∀d,eff.vl nx=O d->cj (eff.nx nx) d)/\
 ∃ρ',p6 nx ρ ρ'/\a=(eff.vl nx).map (bP.sub ρ')/\List.Perm σ' (aP.res ρ' (eff.R R nx))
def R8{α:Type}(P:Program)(o:Oper)(E:Env)(R:aP)(nx:Nat)(K:eX->Option α)(r:α):Prop:=∀ρ C,Ye P (E.sub ρ) (aP.res ρ R) o C (Nx R nx K r ρ)
def Gh.fm(ρ:Gh)(n:Nat)(v:Value):Gh:=⟨fun i=>if i=n then v else ρ.v i,ρ.b⟩
def Gh.eM(ρ:Gh)(n b:Nat):Gh:=⟨ρ.v,fun i=>if i=n then b else ρ.b i⟩
theorem p6.fm(ρ:Gh)(n:Nat)(v:Value):p6 n ρ (ρ.fm n v):=fun i hi=>⟨by simp[Gh.fm,Nat.ne_of_lt hi],rfl⟩
theorem p6.eM(ρ:Gh)(n b:Nat):p6 n ρ (ρ.eM n b):=fun i hi=>⟨rfl,by simp[Gh.eM,Nat.ne_of_lt hi]⟩
section
variable {α:Type} {r:α} {P:Program} {o:Oper} {E:Env} {R:aP} {nx:Nat} {ev:Operand->Option AV} {rd:Nat->Option IR} {x y z:Operand} {d:AV} {K:eX->Option α}
theorem R8.pu(hs:jf ev rd nx E R)(h:∃d,K (.val d)=O r/\Pu P o E R nx d):R8 P o E R nx K r:=fun ρ C=>by
 obtain⟨d,h1,h2,h3⟩:=h
 exact .ofP (h3 ρ) ⟨.val d,h1,zx _,hs.lr,fun d' hd=>by cases hd;exact h2,ρ, .refl _ _,rfl, .refl _⟩
theorem Xa(hs:jf ev rd nx E R){d:AV}{rr:IR}{ρ ρ':Gh}{σ':List cc}{a:AV}(hK:K (.new d rr)=O r)(hd:cj (nx+1) d)(hr:rr.cj (nx+1))(hρ:p6 nx ρ ρ')(ha:a=d.sub ρ')(hσ:σ'=rr.res ρ' nx::aP.res ρ R):Nx R nx K r ρ (O a) σ':=by
 refine⟨.new d rr,hK,yo nx,fun p hp=> ?_,fun d' h=>by cases h;exact hd,ρ',hρ,by rw[ha];rfl,?_⟩
 ·rcases zu.1 hp with rfl|hp
  ·exact⟨zn _,hr⟩
  ·exact(hs.lr.mono (yo nx)) p hp
 ·rw[hσ,hs.lr.res hρ]
  exact .refl _
def SH(P:Program)(nx:Nat)(T:TypeId)(K:eX->Option α):Option α:=((P.info? T).bind fun i=>i.zero).bind fun z=>K (.new (.ptr nx 0) (.box T (z.cells.toList.map .lit)))
theorem aae{T:TypeId}(hs:jf ev rd nx E R)(ho:o.op= .alloc T)(h:SH P nx T K=O r):R8 P o E R nx K r:=fun ρ C=>by
 obtain⟨z,h1,h⟩:=zi.1 h
 obtain⟨i,h2,h3⟩:=zi.1 h1
 refine .ofV (.alloc (zs:=z.cells.toList) ho (by rw[h2];simp[h3])) (by simp) fun a σ' ⟨b,ha,hσ⟩=> ?_
 refine Xa hs (ρ':=ρ.eM nx b) h (.ptr _ _ (zn _)) (fun c hc=>JR _ _ c hc) (.eM ρ nx b) ?_ ?_
 ·rw[ha,ep];simp[Gh.eM]
 ·rw[hσ];simp only[IR.res,CC];simp[Gh.eM]
def Mi(rd:Nat->Option IR)(nx:Nat)(T:TypeId)(x:Option AV)(K:eX->Option α):Option α:=match x with
 |some d=>match Be rd d with
  |true=>K (.new (.ptr nx 0) (.box T (cW d)))
  |false=>wC
 |none=>wC
theorem adb{T:TypeId}(hs:jf ev rd nx E R)(ho:o.op= .box T x)(h:Mi rd nx T (ev x) K=O r):R8 P o E R nx K r:=fun ρ C=>by
 unfold Mi at h
 split at h
 case h_2=>cases h
 rename_i d hx
 split at h
 case h_2=>cases h
 rename_i hp
 refine .ofV (.box ho (hs.eR hx ρ) (Et hs hp)) (by simp) fun a σ' ⟨b,ha,hσ⟩=> ?_
 have hl:=vO (hs.p9 hx)
 refine Xa hs (ρ':=ρ.eM nx b) h (.ptr _ _ (zn _)) (fun c hc=>(hl c hc).mono (yo nx)) (.eM ρ nx b) ?_ ?_
 ·rw[ha,ep];simp[Gh.eM]
 ·rw[hσ,j6,cj.VK hl (.eM ρ nx b)];simp[IR.res,Gh.eM]
def RF:AV->Bool
 | .lit v=>v.oneCell'
 | .sl _ _=>wE
 |_=>wD
def W5:AV->Bool
 | .agg cs=>cs.all RF
 |d=>RF d
theorem Jg{d:AV}(h:RF d=wE)(ρ:Gh):d.sub ρ=d:=by
 cases d<;>first|(cases h;done)|simp only[bP.sub]
theorem KL{cs:List AV}(h:cs.all RF=wE)(ρ:Gh):cs.map (bP.sub ρ)=cs:=by
 have:cs.map (bP.sub ρ)=cs.map id:=zQ fun c hc=>Jg (zm.1 h c hc) ρ
 rw[this,List.map_id]
theorem J1{d:AV}(h:W5 d=wE)(ρ:Gh):d.sub ρ=d:=by
 by_cases ha:∃cs,d= .agg cs
 ·obtain⟨cs,rfl⟩:=ha
  rw[dQ,KL h]
 ·exact Jg (by cases d<;>first|exact h|(exact absurd ⟨_,rfl⟩ ha)) ρ
theorem Kb{d:AV}(h:RF d=wE):gz d=wE:=by
 cases d<;>first|(cases h;done)|exact h|rfl
theorem Cf{d:AV}(h:W5 d=wE):Bk d=wE:=by
 by_cases ha:∃cs,d= .agg cs
 ·obtain⟨cs,rfl⟩:=ha
  exact zm.2 fun c hc=>Kb (zm.1 h c hc)
 ·have:=Kb (d:=d) (by cases d<;>first|exact h|(exact absurd ⟨_,rfl⟩ ha))
  cases d<;>first|exact this|(exact absurd ⟨_,rfl⟩ ha)
def M7(d:AV):Option Bool:=match cW d with
 |[.lit (.bool b)]=>O b
 |_=>wC
theorem SZ{d:AV}{b:Bool}(h:M7 d=O b):cW d=[.lit (.bool b)]:=by
 unfold M7 at h
 split at h
 ·rename_i b' e;cases h;exact e
 ·cases h
def MD(P:Program)(rd:Nat->Option IR)(T:TypeId)(x y:Option AV)(K:eX->Option α):Option α:=match y with
  |some d=>match (P.info? T).map (·.size)with
    |some n=>match zb (cW d).length n&&Be rd d with
      |true=>match x with
        |some (.ptr id off)=>match rd id with
          |some (.box T' cs)=>match ya (off+n) cs.length with
            |true=>K (.set id (.box T' (cs.take off++cW d++cs.drop (off+n))))
            |false=>wC
          |_=>wC
        |some (.ra id t m off)=>match rd id with
          |some (.row t' l)=>match bif L.arr t'&&W5 d then M7 d else wC with
           |some b=>if t=t'/\m<l.length/\off<U.sz t' then K (.set id (.row t' (l.set m (L.stB t' l[m]! off b))))else wC
           |none=>match ya (off+n) (U.sz t')&&W5 d with
            |true=>if t=t'/\m<l.length then(L.parse t' ((U.cells t' l[m]!).take off++cW d++(U.cells t' l[m]!).drop (off+n))).bind fun q=>K (.set id (.row t' (l.set m q)))else wC
            |false=>wC
          |_=>wC
        |_=>wC
      |false=>wC
    |none=>wC
  |none=>wC
theorem acY{T:TypeId}(hs:jf ev rd nx E R)(ho:o.op= .store T x y)(h:MD P rd T (ev x) (ev y) K=O r):R8 P o E R nx K r:=fun ρ C=>by
 unfold MD at h
 split at h
 case h_2=>cases h
 rename_i d hy
 split at h
 case h_2=>cases h
 rename_i n hn
 split at h
 case h_2=>cases h
 rename_i hdn
 simp only[ze]at hdn
 obtain⟨hlen,hp⟩:=hdn
 have hlen:=fB hlen
 split at h
 ·rename_i id off hx
  split at h
  case h_2=>cases h
  rename_i T' cs hr
  split at h
  case h_2=>cases h
  rename_i hle
  have hle:=xO hle
  have ex:=hs.eR hx ρ
  rw[ep]at ex
  obtain⟨i,hi1,hi2,_⟩:=dA (hs.r _ _ hr)
  have hres:=gv (ρ:=ρ) hi1
  have hl:∀c∈cs.take off++cW d++cs.drop (off+n),cj nx c:=tY (tY (pE (hs.aaH hr) _) (vO (hs.p9 hy))) (lD (hs.aaH hr) _)
  refine .ofU (.ald (cs:=cs.map (bP.sub ρ)) i ho ex (hs.eR hy ρ) hres hn (Et hs hp) (by rw[j6,zA,hlen]) (by rw[zA];exact hle)) (fun b hb=> ?_) ⟨_,h,zx _,oh (hs.r _ _ hr) hs.lr hl,fun d' hd=>(by cases hd),ρ, .refl _ _,rfl,?_⟩
  ·rw[zD]at hb
   exact bD.2 ⟨_,List.mem_of_getElem? hres,by rw[hb];rfl⟩
  ·show List.Perm _ (aP.res ρ (rM id _ R))
   rw[hi2,tj]
   simp only[IR.res,zY,xw,y5,j6]
   exact .refl _
 ·rename_i id t m off hx
  split at h
  case h_2=>cases h
  rename_i t' l hr
  split at h
  ·rename_i b hbb
   cases har:L.arr t'&&W5 d with
   |false=>rw[har]at hbb;cases hbb
   |true=>
    rw[har]at hbb
    simp only[ze]at har
    obtain⟨har,hap⟩:=har
    have hab:=SZ hbb
    rw[hab]at hlen
    have hn1:n=1:=by simpa using hlen.symm
    split at h
    case isFalse=>cases h
    rename_i hm
    obtain⟨rfl,hm,hoff⟩:=hm
    have ex:=hs.eR hx ρ
    rw[iH]at ex
    obtain⟨i,hi1,hi2,_⟩:=dA (hs.r _ _ hr)
    have hres:=gv (ρ:=ρ) hi1
    have hds:=J1 hap ρ
    have hpl:Bk (d.sub ρ)=wE:=by rw[hds];exact Cf hap
    refine .ofU (.Vl (of:=off) i (L.stB t l[m]! off b) ho ex (hs.eR hy ρ) hres hn hpl (by rw[hds,hab,hn1];rfl) rfl hm (by omega) (L.len _ _) (fun A w us hr=> ?_)) (fun b hb=> ?_) ⟨_,h,zx _,oh (hs.r _ _ hr) hs.lr trivial,fun d' hd=>(by cases hd),ρ, .refl _ _,rfl,?_⟩
    ·rw[hds,hab,hn1]at hr
     rw[L.aaT t har _ off b hoff]
     exact hr
    ·obtain⟨g,hg⟩:∃g,gd (ρ.v id)=O g:=by
      cases hb':gd (ρ.v id)with
      |none=>rw[hb']at hb;simp at hb
      |some g=>exact⟨g,rfl⟩
     rw[hg]at hb
     simp only[xm,zD]at hb
     exact bD.2 ⟨_,List.mem_of_getElem? hres,by rw[hb];exact hg⟩
    ·show List.Perm _ (aP.res ρ (rM id _ R))
     rw[hi2,tj]
     exact .refl _
  split at h
  case h_2=>cases h
  rename_i hle
  simp only[ze]at hle
  obtain⟨hle,hap⟩:=hle
  have hle:=xO hle
  split at h
  case isFalse=>cases h
  rename_i hm
  obtain⟨rfl,hm⟩:=hm
  obtain⟨q,hq,h⟩:=zi.1 h
  have ex:=hs.eR hx ρ
  rw[iH]at ex
  obtain⟨i,hi1,hi2,_⟩:=dA (hs.r _ _ hr)
  have hres:=gv (ρ:=ρ) hi1
  have hds:=J1 hap ρ
  have hpl:Bk (d.sub ρ)=wE:=by rw[hds];exact Cf hap
  refine .ofU (.Vl (of:=off) i q ho ex (hs.eR hy ρ) hres hn hpl (by rw[j6,zA,hlen]) rfl hm hle (L.len _ _) (fun A w us hr=> ?_)) (fun b hb=> ?_) ⟨_,h,zx _,oh (hs.r _ _ hr) hs.lr trivial,fun d' hd=>(by cases hd),ρ, .refl _ _,rfl,?_⟩
  ·refine L.kB _ _ _ hq A w us ?_
   rw[hds]at hr
   exact hr
  ·obtain⟨g,hg⟩:∃g,gd (ρ.v id)=O g:=by
    cases hb':gd (ρ.v id)with
    |none=>rw[hb']at hb;simp at hb
    |some g=>exact⟨g,rfl⟩
   rw[hg]at hb
   simp only[xm,zD]at hb
   exact bD.2 ⟨_,List.mem_of_getElem? hres,by rw[hb];exact hg⟩
  ·show List.Perm _ (aP.res ρ (rM id _ R))
   rw[hi2,tj]
   exact .refl _
 ·cases h
def prs(t:Nat):Nat->List AV->Option (List (U.cH t))
 |0,[]=>O []
 |0,_=>wC
 |n+1,cs=>(L.parse t (cs.take (U.sz t))).bind fun x=>(prs t n (cs.drop (U.sz t))).map fun l=>x::l
theorem Tt{t:Nat}:∀{n:Nat} {cs:List AV} {l:List (U.cH t)},prs t n cs=O l->cs.length=n*U.sz t->l.length=n/\∀A w us,bq A w cs us->bq A w (l.flatMap (U.cells t)) us
 |0,[],l,h,_=>by
  cases h
  exact⟨rfl,fun A w us h=>h⟩
 |0,_::_,l,h,_=>by cases h
 |n+1,cs,l,h,hl=>by
  unfold prs at h
  obtain⟨x,h1,h⟩:=zi.1 h
  obtain⟨l',h2,rfl⟩:=zf.1 h
  rw[yE]at hl
  obtain⟨h3,h4⟩:=Tt h2 (by rw[ye];omega)
  refine⟨by simp[h3],fun A w us hr=> ?_⟩
  rw[xq,<-xg (U.sz t) us]
  exact(L.kB _ _ _ h1 A w _ (hr.take _)).app (h4 A w _ (hr.drop _))
def Ma(P:Program)(ev:Operand->Option AV)(rd:Nat->Option IR)(nx:Nat)(T:TypeId)(n:Nat)(ps:List (Nat×Operand))(K:eX->Option α):Option α:=match P.underlying T with
 |some (.slice e)=>match Kh P e (U.sz e)with
  |true=>match n with
   |0=>match ps with
    |[]=>K (.new (.own nx) (.row e []))
    |_=>wC
   |n+1=>match evp ev ps,iT P e with
    |some as0,O zs=>match zb zs.length (U.sz e)&&zq 0 (U.sz e)&&ya ((n+1)*U.sz e) 16777216 with
     |true=>(sQ rd (fun i=>O (i*U.sz e,U.sz e)) ((zj (n+1) zs).flatten.map .lit) as0).bind fun cs=>match cs.all RF&&zb cs.length ((n+1)*U.sz e)with
      |true=>(prs e (n+1) cs).bind fun l=>K (.new (.own nx) (.row e l))
      |false=>wC
     |false=>wC
    |_,_=>wC
  |false=>wC
 |_=>wC
theorem En(hs:jf ev rd nx E R){t:Nat}{l:List (U.cH t)}{ρ:Gh}{σ':List cc}{a:AV}(hK:K (.new (.own nx) (.row t l))=O r)(h:∃v,a= .lit v/\σ'= .row v t l::aP.res ρ R):Nx R nx K r ρ (O a) σ':=by
 obtain⟨v,ha,hσ⟩:=h
 refine Xa hs (ρ':=ρ.fm nx v) hK (.own _ (zn _)) trivial (.fm ρ nx v) ?_ ?_
 ·rw[ha,cX];simp[Gh.fm]
 ·rw[hσ];simp[IR.res,Gh.fm]
theorem adZ{T:TypeId}{n:Nat}{ps:Array (Nat×Operand)}(hs:jf ev rd nx E R)(ho:o.op= .buildSlice T n ps)(h:Ma P ev rd nx T n ps.toList K=O r):R8 P o E R nx K r:=fun ρ C=>by
 unfold Ma at h
 split at h
 case h_2=>cases h
 rename_i e hT
 split at h
 case h_2=>cases h
 rename_i hsz
 have hsz:=qd hsz
 split at h
 ·split at h
  case h_2=>cases h
  rename_i h0
  have h0:ps=#[]:=by rw[<-Array.toList_eq_nil_iff];exact h0
  subst h0
  exact .ofV (.asF ho hT hsz) (by simp) fun a σ' hN=>En hs h hN
 ·rename_i n
  split at h
  case h_2=>cases h
  rename_i as0 zs he hz
  split at h
  case h_2=>cases h
  rename_i hc
  simp only[ze]at hc
  obtain⟨⟨hc1,hc2⟩,hc3⟩:=hc
  have hc1:=fB hc1
  have hc2:0<U.sz e:=by simpa [yl]using hc2
  have hc3:=xO hc3
  obtain⟨cs,hf,h⟩:=zi.1 h
  split at h
  case h_2=>cases h
  rename_i hd
  simp only[ze]at hd
  obtain⟨hd1,hd2⟩:=hd
  have hd2:=fB hd2
  obtain⟨l,hl,h⟩:=zi.1 h
  obtain⟨hl1,hl2⟩:=Tt hl hd2
  refine .ofV (.lit l ho hT hsz hz hc1 (fun A w ϱ hd hρ=> ?_) hl1 (fun i hi=>L.len _ _) (Nat.mul_pos (Nat.succ_pos _) hc2) hc3) (by simp) fun a σ' hN=>En hs h hN
  obtain⟨us,h1,h2⟩:=vC (init:=(zj (n+1) zs).flatten.toArray) hs hd (by rw[CC];exact bq.lits _) (GN hs hρ he) hf
  rw[KL hd1]at h2
  exact⟨us,h1,hl2 _ _ _ h2⟩
def mkE(P:Program)(nx:Nat)(T:TypeId)(x y:Option AV)(K:eX->Option α):Option α:=match P.underlying T,x,y with
 |some (.slice e),O (.lit (.int .i64 m)),O (.lit (.int .i64 n))=>match (P.info? e).map (fun i=>(i.size,i.bytes)),iT P e with
  |some (sz,by'),O zs=>match zb sz (U.sz e)&&ya by' 4096&&zb zs.length (U.sz e)&&zq 0 (U.sz e)with
   |true=>(L.parse e (zs.map .lit)).bind fun d=>if 0<=m/\m<=n/\n<=1073741824 then K (.new (.own nx) (.row e (zj m.toNat d)))else wC
   |false=>wC
  |_,_=>wC
 |_,_,_=>wC
theorem ala{T:TypeId}(hs:jf ev rd nx E R)(ho:o.op= .makeSlice T x y)(h:mkE P nx T (ev x) (ev y) K=O r):R8 P o E R nx K r:=fun ρ C=>by
 unfold mkE at h
 split at h
 case h_2=>cases h
 rename_i e m n hT hx hy
 split at h
 case h_2=>cases h
 rename_i sz by' zs hb hz
 split at h
 case h_2=>cases h
 rename_i hc
 simp only[ze]at hc
 obtain⟨⟨⟨hc1,hc2⟩,hc3⟩,hc4⟩:=hc
 have hc1:=fB hc1
 have hc3:=fB hc3
 have hc4:0<U.sz e:=by simpa [yl]using hc4
 subst hc1
 obtain⟨d,hd,h⟩:=zi.1 h
 split at h
 case isFalse=>cases h
 rename_i hm
 have ex:=hs.eR hx ρ
 have ey:=hs.eR hy ρ
 rw[bE]at ex ey
 exact .ofV (.make d ho ex ey hT hb hz hc2 hc3 (fun A w=>L.kB _ _ _ hd A w _ (bq.lits _)) hc4 hm) (by simp) fun a σ' hN=>En hs h hN
def emE(P:Program)(nx:Nat)(T:TypeId)(x:Option AV)(K:eX->Option α):Option α:=match P.underlying T with
 |some (.slice e)=>match P.info? e with
  |some _=>match x with
   |some (.sl _ _)=>K (.new (.own nx) (.row e []))
   |some (.lit (.slice wC 0 0))=>K (.new (.own nx) (.row e []))
   |_=>wC
  |none=>wC
 |_=>wC
theorem aj3{T:TypeId}{k k':IntKind}(hs:jf ev rd nx E R)(ho:o.op= .slice T x wC (O (.const (.int k 0))) (O (.const (.int k' 0))))(h:emE P nx T (ev x) K=O r):R8 P o E R nx K r:=fun ρ C=>by
 unfold emE at h
 split at h
 case h_2=>cases h
 rename_i e hT
 split at h
 case h_2=>cases h
 rename_i i hi
 split at h
 ·rename_i t l hx
  have ex:=hs.eR hx ρ
  rw[fG]at ex
  exact .ofV (.O6 ho (.inl ex) hT (by rw[hi];rfl)) (by simp) fun a σ' hN=>En hs h hN
 ·rename_i hx
  have ex:=hs.eR hx ρ
  rw[bE]at ex
  exact .ofV (.O6 (q:=0) (l:=[]) ho (.inr ex) hT (by rw[hi];rfl)) (by simp) fun a σ' hN=>En hs h hN
 ·cases h
def acH(rd:Nat->Option IR)(e:Nat)(x:Option AV):Option (List (U.cH e)):=match x with
 |some (.lit (.slice _ 0 _))=>O []
 |some (.sl t l)=>tK t e l
 |some (.own id)=>match rd id with
  |some (.row t l)=>tK t e l
  |_=>wC
 |_=>wC
theorem Fe{e:Nat}{l:List (U.cH e)}(hs:jf ev rd nx E R)(h:acH rd e (ev x)=O l)(ρ:Gh):Src (aP.res ρ R) (E.sub ρ) x e l:=by
 unfold acH at h
 split at h
 ·rename_i hx
  cases h
  have ex:=hs.eR hx ρ
  rw[bE]at ex
  exact .inl ⟨_,_,ex,rfl⟩
 ·rename_i t l' hx
  obtain⟨rfl,rfl⟩:=l8 h
  have ex:=hs.eR hx ρ
  rw[fG]at ex
  exact .inr (.inl ex)
 ·rename_i id hx
  split at h
  case h_2=>cases h
  rename_i t l' hr
  obtain⟨rfl,rfl⟩:=l8 h
  have ex:=hs.eR hx ρ
  rw[cX]at ex
  obtain⟨i,hi⟩:=hs.row hr ρ
  exact .inr (.inr ⟨i,_,ex,hi⟩)
 ·cases h
theorem Src.cons{P:Program}{σ:List cc}{E:Env}{rr:cc}{q:Nat}{l:List (U.cH q)}(h:Src σ E x q l):Src (rr::σ) E x q l:=by
 rcases h with h|h|⟨i,v,h1,h2⟩
 ·exact .inl h
 ·exact .inr (.inl h)
 ·exact .inr (.inr ⟨i+1,v,h1,h2⟩)
def SK(P:Program)(T:TypeId)(K:Nat->List Value->Option α):Option α:=match P.underlying T with
 |some (.slice e)=>match (P.info? e).map (fun i=>(i.size,i.bytes)),iT P e with
  |some (sz,by'),O zs=>match zb sz (U.sz e)&&ya by' 4096&&zb zs.length (U.sz e)with
   |true=>K e zs
   |false=>wC
  |_,_=>wC
 |_=>wC
theorem ade{T:TypeId}{K:Nat->List Value->Option α}(h:SK P T K=O r):∃e zs by',K e zs=O r/\P.underlying T=O (.slice e)/\(P.info? e).map (fun i=>(i.size,i.bytes))=O (U.sz e,by')/\iT P e=O zs/\ya by' 4096=wE/\zs.length=U.sz e:=by
 unfold SK at h
 split at h
 case h_2=>cases h
 rename_i e hT
 split at h
 case h_2=>cases h
 rename_i sz by' zs hb hz
 split at h
 case h_2=>cases h
 rename_i hc
 simp only[ze]at hc
 obtain⟨⟨hc1,hc2⟩,hc3⟩:=hc
 have hc1:=fB hc1
 subst hc1
 exact⟨e,zs,by',h,hT,hb,hz,hc2,fB hc3⟩
def K2(P:Program)(rd:Nat->Option IR)(e:Nat)(zs:List Value)(T':TypeId)(T:TypeId)(y:Option AV)(K:List (U.cH e)->Option α):Option α:=match zb T T' with
 |true=>(acH rd e y).bind K
 |false=>match P.underlying T',y with
  |some (.int _),O (.lit (.int .i64 m))=>match zq 0 (U.sz e)&&zs.all Value.oneCell' with
   |true=>(L.parse e (zs.map .lit)).bind fun d=>if 0<=m then K (zj m.toNat d)else wC
   |false=>wC
  |_,_=>wC
def SD(P:Program)(rd:Nat->Option IR)(nx:Nat)(T T':TypeId)(x y:Option AV)(K:eX->Option α):Option α:=SK P T fun e zs=>match x with
 |some (.lit (.slice wC 0 0))=>K2 P rd e zs T' T y fun l2=>if l2.length<=1073741824 then K (.new (.own nx) (.row e l2))else wC
 |some (.own id)=>match rd id with
  |some (.row t l)=>(tK t e l).bind fun l=>K2 P rd e zs T' T y fun l2=>if(l++l2).length<=1073741824 then K (.grow id (.row e (l++l2)))else wC
  |_=>wC
 |_=>wC
def Lk(P:Program)(rd:Nat->Option IR)(R:aP)(nx:Nat)(T:TypeId)(x y:Option AV)(K:eX->Option α):Option α:=match P.underlying T with
 |some (.slice e)=>match Kh P e 1&&zb (U.sz e) 1 with
  |true=>match x with
   |some (.own id)=>match rd id with
    |some (.row t l)=>(tK t e l).bind fun l=>(acH rd e y).bind fun l2=>if 0<l.length/\l2.length=l.length then K (.all (.i (l.length:Int)) (rM id (.row e l2) R) nx)else wC
    |_=>wC
   |_=>wC
  |false=>wC
 |_=>wC
theorem XH{T T':TypeId}(hs:jf ev rd nx E R)(ho:o.op= .call {callee:= .builtin .copy,args:=#[x,y],argTypes:=#[T,T']})(h:Lk P rd R nx T (ev x) (ev y) K=O r):R8 P o E R nx K r:=fun ρ C=>by
 unfold Lk at h
 split at h
 case h_2=>cases h
 rename_i e hT
 split at h
 case h_2=>cases h
 rename_i hc
 rw[ze]at hc
 split at h
 case h_2=>cases h
 rename_i id hx
 split at h
 case h_2=>cases h
 rename_i t l hr
 obtain⟨l',h1,h⟩:=zi.1 h
 obtain⟨rfl,rfl⟩:=l8 h1
 obtain⟨l2,h2,h⟩:=zi.1 h
 split at h
 case isFalse=>cases h
 rename_i hl
 have ex:=hs.eR hx ρ
 rw[cX]at ex
 obtain⟨i,hi1,hi2,_⟩:=dA (hs.r _ _ hr)
 have hres:=gv (ρ:=ρ) hi1
 refine .ofV (.aoy i ho ex hres (Fe hs h2 ρ) hT (qd hc.1) (fB hc.2) hl.2 hl.1 (L.one _)) (fun b hb=> ?_) fun a σ' ⟨ha,hσ⟩=>⟨_,h,zx _,oh (hs.r _ _ hr) hs.lr trivial,fun d' hd=>(by cases hd;exact .lit _),ρ, .refl _ _,by rw[ha];simp only[eX.vl,yg,bP.sub],?_⟩
 ·obtain⟨g,hg⟩:∃g,gd (ρ.v id)=O g:=by
   cases hb':gd (ρ.v id)with
   |none=>rw[hb']at hb;simp at hb
   |some g=>exact⟨g,rfl⟩
  rw[hg]at hb
  simp only[xm,zD]at hb
  exact bD.2 ⟨_,List.mem_of_getElem? hres,by rw[hb];exact hg⟩
 ·show List.Perm _ (aP.res ρ (rM id _ R))
  rw[hσ,hi2,tj]
  exact .refl _
theorem set_perm{β:Type}{l:List β}{i:Nat}{a b:β}(h:l[i]? =O b):List.Perm (l.set i a) (a::l.eraseIdx i):=by
 have hi:=(zS.1 h).1
 rw[wj,wh,if_pos hi]
 exact List.perm_middle
theorem Pm{T T':TypeId}{e by':Nat}{zs:List Value}{K':List (U.cH e)->Option α}{rs:List cc}{ρ:Gh}{C:Cx}(hs:jf ev rd nx E R)(ho:o.op= .call {callee:= .builtin .append,args:=#[x,y],argTypes:=#[T,T']})(h:K2 P rd e zs T' T (ev y) K'=O r)
  (hT:P.underlying T=O (.slice e)) (hb:(P.info? e).map (fun i=>(i.size,i.bytes))=O (U.sz e,by')) (hz:iT P e=O zs) (hb4:ya by' 4096=wE) (hzl:zs.length=U.sz e):
  ∃l2,K' l2=O r/\∀(σ:List cc) (v:Value) (i:Nat) (l:List (U.cH e)),(σ=aP.res ρ R\/∃rr,σ=rr::aP.res ρ R)->(E.sub ρ).ev x=O (.lit v)->σ[i]? =O (.row v e l)->(l++l2).length<=1073741824->
   Yv P (E.sub ρ) σ o C (xp (gd v)) (fun a σ'=>∃v',a= .lit v'/\σ'=σ.set i (.row v' e (l++l2))):=by
 unfold K2 at h
 split at h
 ·rename_i hTT
  have:=fB hTT
  subst this
  obtain⟨l2,h1,h⟩:=zi.1 h
  refine⟨l2,h,fun σ v i l hσ hx hi hlen=> ?_⟩
  have hsrc:Src σ (E.sub ρ) y e l2:=by
   rcases hσ with rfl|⟨rr,rfl⟩
   ·exact Fe hs h1 ρ
   ·exact Src.cons (P:=P) (Fe hs h1 ρ)
  exact .app i ho hx hi hsrc hT hb hz hzl hb4 (L.one e) hlen
 ·split at h
  case h_2=>cases h
  rename_i kn m hT' hy
  split at h
  case h_2=>cases h
  rename_i hc
  simp only[ze]at hc
  obtain⟨hc1,hc2⟩:=hc
  obtain⟨d,hd,h⟩:=zi.1 h
  split at h
  case isFalse=>cases h
  rename_i hm
  refine⟨_,h,fun σ v i l hσ hx hi hlen=> ?_⟩
  have ey:=hs.eR hy ρ
  rw[bE]at ey
  exact .ar9 i d ho hx hi ey hT hT' hb hz hzl (by simpa [yl]using hc1) hb4 (fun A w=>L.kB _ _ _ hd A w _ (bq.lits _)) hc2 ⟨hm,hlen⟩
theorem Yt{T T':TypeId}(hs:jf ev rd nx E R)(ho:o.op= .call {callee:= .builtin .append,args:=#[x,y],argTypes:=#[T,T']})(h:SD P rd nx T T' (ev x) (ev y) K=O r):R8 P o E R nx K r:=fun ρ C=>by
 obtain⟨e,zs,by',h,hT,hb,hz,hb4,hzl⟩:=ade h
 split at h
 ·rename_i hx
  obtain⟨l2,h,hY⟩:=Pm (rs:=[]) (ρ:=ρ) (C:=C) hs ho h hT hb hz hb4 hzl
  split at h
  case isFalse=>cases h
  rename_i hlen
  have ex:=hs.eR hx ρ
  rw[bE]at ex
  intro w ϱ hg hρ
  have ht:Tr C [] (aP.res ρ R) w (.row (.slice wC 0 0) e []::aP.res ρ R) w:=NU wC e hg
  have hal:∀b,al C (aP.res ρ R) b->al C (.row (.slice wC 0 0) e []::aP.res ρ R) b:=fun b hA=>⟨hA.1,fun hx=>hA.2 (by
   rw[dV]at hx
   simpa [cc.blk,gd]using hx)⟩
  obtain⟨v,w',av,σ',⟨v',ha,hσ⟩,h2,h3,h4⟩:=hY _ (.slice wC 0 0) 0 [] (.inr ⟨_,rfl⟩) ex rfl (by simpa using hlen) w ϱ ht.good (fun u d hu=>(hρ u d hu).mono fun b _ hA=>⟨hal b hA,rfl⟩)
  refine .inl ⟨v,w',av,σ',En hs h ⟨v',ha,by rw[hσ];rfl⟩,⟨h2.good,⟨h2.kp.os,h2.kp.tape,h2.kp.output,h2.kp.size,fun k hk _=>h2.kp.block k hk (by simp[gd])⟩,fun b hb hA=>⟨(h2.al b hb (hal b hA)).1,hA.2⟩⟩,h3,h4⟩
 ·rename_i id hx
  split at h
  case h_2=>cases h
  rename_i t l0 hr
  obtain⟨l,hl,h⟩:=zi.1 h
  obtain⟨rfl,rfl⟩:=l8 hl
  obtain⟨l2,h,hY⟩:=Pm (rs:=[]) (ρ:=ρ) (C:=C) hs ho h hT hb hz hb4 hzl
  split at h
  case isFalse=>cases h
  rename_i hlen
  have ex:=hs.eR hx ρ
  rw[cX]at ex
  obtain⟨i,hi1,_,hi3⟩:=dA (hs.r _ _ hr)
  have hres:=gv (ρ:=ρ) hi1
  refine .ofV (hY _ _ i _ (.inl rfl) ex hres hlen) (fun b hb=> ?_) fun a σ' ⟨v',ha,hσ⟩=> ?_
  ·obtain⟨g,hg⟩:∃g,gd (ρ.v id)=O g:=by
    cases hb':gd (ρ.v id)with
    |none=>rw[hb']at hb;simp at hb
    |some g=>exact⟨g,rfl⟩
   rw[hg]at hb
   simp only[xm,zD]at hb
   exact bD.2 ⟨_,List.mem_of_getElem? hres,by rw[hb];exact hg⟩
  ·have hdl:=Dj (id:=id) hs.lr
   refine⟨_,h,yo nx,fun p hp=> ?_,fun d' hd=>by cases hd;exact .own _ (zn _),ρ.fm nx v', .fm ρ nx v',?_,?_⟩
   ·rcases zu.1 hp with rfl|hp
    ·exact⟨zn _,trivial⟩
    ·exact(hdl.mono (yo nx)) p hp
   ·rw[ha];simp[eX.vl,cX,Gh.fm]
   ·rw[hσ]
    show List.Perm _ (aP.res _ ((nx,_)::jL id R))
    have e1:aP.res (ρ.fm nx v') ((nx,IR.row t (l0++l2))::jL id R)=cc.row v' t (l0++l2)::(aP.res ρ R).eraseIdx i:=by
     show _::aP.res _ (jL id R)=_
     rw[<-hdl.res (.fm ρ nx v'),hi3,vT]
     simp[IR.res,Gh.fm]
    rw[e1]
    exact set_perm hres
 ·cases h
def mnV(mx:Bool)(xs:List (Option AV))(K:AV->Option α):Option α:=match xs with
 |[O (.lit (.int k m)),O (.lit (.int k' n))]=>if k=k' then(match mx with
  |true=>K (.n k (if m<n then n else m))
  |false=>K (.n k (if n<m then n else m)))else wC
 |_=>wC
abbrev aI:=(α:Type)->FuncId->List AV->aP->Nat->(AV->aP->Nat->Option α)->Option α
def gF(P:Program)(F:aI):Prop:=∀(α:Type) f args R nx (k:AV->aP->Nat->Option α) r,F α f args R nx k=O r->(∀d∈args,cj nx d)->aP.cj nx R->vq P f/\
 ∀ρ,Fn P f (args.map (bP.sub ρ)) (aP.res ρ R) fun a s=>∃d R' nx',k d R' nx'=O r/\nx<=nx'/\cj nx' d/\aP.cj nx' R'/\∃ρ',p6 nx ρ ρ'/\a=d.sub ρ'/\List.Perm s (aP.res ρ' R')
def HV(F:aI)(ev:Operand->Option AV)(R:aP)(nx:Nat)(x:Option AV)(xs:List Operand)(K:eX->Option α):Option α:=match x with
 |some (.fn (.func f) caps)=>(KJ ev xs).bind fun as0=>F α f (as0++caps) R nx fun d R' nx'=>K (.all d R' nx')
 |_=>wC
theorem acz{F:aI}{xs:Array Operand}{ts:Array TypeId}(hF:gF P F)(hs:jf ev rd nx E R)(ho:o.op= .call {callee:= .value x,args:=xs,argTypes:=ts})(h:HV F ev R nx (ev x) xs.toList K=O r):R8 P o E R nx K r:=fun ρ C=>by
 unfold HV at h
 split at h
 case h_2=>cases h
 rename_i f caps hx
 obtain⟨as0,ha,h⟩:=zi.1 h
 have ex:=hs.eR hx ρ
 rw[sH]at ex
 obtain⟨hf,hfn⟩:=hF _ _ _ _ _ _ _ h (tY (EX hs ha) (hs.p9 hx).fnL) hs.lr
 refine .ofC (.fn (σr:=[]) ho ex hf (HW hs ρ ha) (by rw[zY]) (yd _).symm (hfn ρ)) (fun b hb=>hb) fun a σ' ⟨σo,hN,hσ⟩=> ?_
 obtain⟨d,R',nx',h1,h2,h3,h4,ρ',h5,h6,h7⟩:=hN
 rw[yd]at hσ
 exact⟨.all d R' nx',h1,h2,h4,fun d' hd=>by cases hd;exact h3,ρ',h5,by rw[h6];rfl,by rw[hσ];exact h7⟩
end
def cO{α:Type}(K:eX->Option α)(d:AV):Option α:=K (.val d)
def Fk{α:Type}(P:Program)(F:aI)(ev:Operand->Option AV)(rd:Nat->Option IR)(R:aP)(nx:Nat)(o:Op)(K:eX->Option α):Option α:=match o with
 | .move x=>(ev x).bind (cO K)
 | .assign x=>(ev x).bind (cO K)
 | .pick c a b=>match ev c with
  |some (.lit (.bool wE))=>(ev a).bind (cO K)
  |some (.lit (.bool wD))=>(ev b).bind (cO K)
  |_=>wC
 | .binOp b T x y _=>Kr P rd b T (ev x) (ev y) (cO K)
 | .unOp b _ x=>unV b (ev x) (cO K)
 | .convert T T' x=>K6 P rd T T' (ev x) (cO K)
 | .nilCheck x=>KW (ev x) (cO K)
 | .fieldAddr T x i=>LK P T i (ev x) (cO K)
 | .indexAddr T x y=>L4 P rd T (ev x) (ev y) (cO K)
 | .index T x y=>LG P T (ev x) (ev y) (cO K)
 | .load T x=>ldV P rd T (ev x) (cO K)
 | .store T x y=>MD P rd T (ev x) (ev y) K
 | .makeFunc f fs cs=>L0 ev f fs.toList cs.toList (cO K)
 | .extract x i=>M8 i (ev x) (cO K)
 | .build T ps=>LZ P ev rd T ps.toList (cO K)
 | .buildSlice T n ps=>Ma P ev rd nx T n ps.toList K
 | .makeSlice T x y=>mkE P nx T (ev x) (ev y) K
 | .alloc T=>SH P nx T K
 | .box T x=>Mi rd nx T (ev x) K
 | .slice T x lo hi mx=>match mx with
  |none=>LV P T (ev x) (lo.map ev) (hi.map ev) (cO K)
  |some (.const (.int _ 0))=>match lo,hi with
   |none,O (.const (.int _ 0))=>emE P nx T (ev x) K
   |_,_=>wC
  |_=>wC
 | .call {callee:= .builtin .len,args:=as0,argTypes:=ts}=>match as0.toList,ts.toList with
  |[x],[T]=>K9 P rd T (ev x) (cO K)
  |_,_=>wC
 | .call {callee:= .builtin .max,args:=as0,argTypes:=ts}=>match as0.toList,ts.toList with
  |[x,y],[_,_]=>mnV wE [ev x,ev y] (cO K)
  |_,_=>wC
 | .call {callee:= .builtin .min,args:=as0,argTypes:=ts}=>match as0.toList,ts.toList with
  |[x,y],[_,_]=>mnV wD [ev x,ev y] (cO K)
  |_,_=>wC
 | .call {callee:= .builtin .append,args:=as0,argTypes:=ts}=>match as0.toList,ts.toList with
  |[x,y],[T,T']=>SD P rd nx T T' (ev x) (ev y) K
  |_,_=>wC
 | .call {callee:= .builtin .copy,args:=as0,argTypes:=ts}=>match as0.toList,ts.toList with
  |[x,y],[T,_]=>Lk P rd R nx T (ev x) (ev y) K
  |_,_=>wC
 | .call {callee:= .value x,args:=as0,argTypes:=_}=>HV F ev R nx (ev x) as0.toList K
 |_=>wC
section
variable {α:Type}
def Qz(x:Operand)(_:Program)(_:aI)(ev:Operand->Option AV)(_:Nat->Option IR)(_:aP)(_:Nat)(K:eX->Option α):Option α:=(ev x).bind (cO K)
def tZ(c a b:Operand)(_:Program)(_:aI)(ev:Operand->Option AV)(_:Nat->Option IR)(_:aP)(_:Nat)(K:eX->Option α):Option α:=match ev c with
 |some (.lit (.bool wE))=>(ev a).bind (cO K)
 |some (.lit (.bool wD))=>(ev b).bind (cO K)
 |_=>wC
def agB(b:BinOp)(T:TypeId)(x y:Operand)(P:Program)(_:aI)(ev:Operand->Option AV)(rd:Nat->Option IR)(_:aP)(_:Nat)(K:eX->Option α):Option α:=Kr P rd b T (ev x) (ev y) (cO K)
def al8(b:UnOp)(x:Operand)(_:Program)(_:aI)(ev:Operand->Option AV)(_:Nat->Option IR)(_:aP)(_:Nat)(K:eX->Option α):Option α:=unV b (ev x) (cO K)
def agf(T T':TypeId)(x:Operand)(P:Program)(_:aI)(ev:Operand->Option AV)(rd:Nat->Option IR)(_:aP)(_:Nat)(K:eX->Option α):Option α:=K6 P rd T T' (ev x) (cO K)
def af6(x:Operand)(_:Program)(_:aI)(ev:Operand->Option AV)(_:Nat->Option IR)(_:aP)(_:Nat)(K:eX->Option α):Option α:=KW (ev x) (cO K)
def afY(T:TypeId)(x:Operand)(i:Nat)(P:Program)(_:aI)(ev:Operand->Option AV)(_:Nat->Option IR)(_:aP)(_:Nat)(K:eX->Option α):Option α:=LK P T i (ev x) (cO K)
def agD(T:TypeId)(x y:Operand)(P:Program)(_:aI)(ev:Operand->Option AV)(rd:Nat->Option IR)(_:aP)(_:Nat)(K:eX->Option α):Option α:=L4 P rd T (ev x) (ev y) (cO K)
def aeL(T:TypeId)(x y:Operand)(P:Program)(_:aI)(ev:Operand->Option AV)(_:Nat->Option IR)(_:aP)(_:Nat)(K:eX->Option α):Option α:=LG P T (ev x) (ev y) (cO K)
def anV(T:TypeId)(x:Operand)(P:Program)(_:aI)(ev:Operand->Option AV)(rd:Nat->Option IR)(_:aP)(_:Nat)(K:eX->Option α):Option α:=ldV P rd T (ev x) (cO K)
def agx(T:TypeId)(x y:Operand)(P:Program)(_:aI)(ev:Operand->Option AV)(rd:Nat->Option IR)(_:aP)(_:Nat)(K:eX->Option α):Option α:=MD P rd T (ev x) (ev y) K
def agn(f:Go.Fn)(fs cs:Array Operand)(_:Program)(_:aI)(ev:Operand->Option AV)(_:Nat->Option IR)(_:aP)(_:Nat)(K:eX->Option α):Option α:=L0 ev f fs.toList cs.toList (cO K)
def afB(x:Operand)(i:Nat)(_:Program)(_:aI)(ev:Operand->Option AV)(_:Nat->Option IR)(_:aP)(_:Nat)(K:eX->Option α):Option α:=M8 i (ev x) (cO K)
def agG(T:TypeId)(ps:Array (Nat×Operand))(P:Program)(_:aI)(ev:Operand->Option AV)(rd:Nat->Option IR)(_:aP)(_:Nat)(K:eX->Option α):Option α:=LZ P ev rd T ps.toList (cO K)
def afQ(T:TypeId)(n:Nat)(ps:Array (Nat×Operand))(P:Program)(_:aI)(ev:Operand->Option AV)(rd:Nat->Option IR)(_:aP)(nx:Nat)(K:eX->Option α):Option α:=Ma P ev rd nx T n ps.toList K
def ann(T:TypeId)(x y:Operand)(P:Program)(_:aI)(ev:Operand->Option AV)(_:Nat->Option IR)(_:aP)(nx:Nat)(K:eX->Option α):Option α:=mkE P nx T (ev x) (ev y) K
def agz(T:TypeId)(P:Program)(_:aI)(_:Operand->Option AV)(_:Nat->Option IR)(_:aP)(nx:Nat)(K:eX->Option α):Option α:=SH P nx T K
def afA(T:TypeId)(x:Operand)(_:Program)(_:aI)(ev:Operand->Option AV)(rd:Nat->Option IR)(_:aP)(nx:Nat)(K:eX->Option α):Option α:=Mi rd nx T (ev x) K
def Jr(T:TypeId)(x:Operand)(lo hi mx:Option Operand)(P:Program)(_:aI)(ev:Operand->Option AV)(_:Nat->Option IR)(_:aP)(nx:Nat)(K:eX->Option α):Option α:=match mx with
 |none=>LV P T (ev x) (lo.map ev) (hi.map ev) (cO K)
 |some (.const (.int _ 0))=>match lo,hi with
  |none,O (.const (.int _ 0))=>emE P nx T (ev x) K
  |_,_=>wC
 |_=>wC
def wK(b:Builtin)(as0:Array Operand)(ts:Array TypeId)(P:Program)(ev:Operand->Option AV)(rd:Nat->Option IR)(R:aP)(nx:Nat)(K:eX->Option α):Option α:=match b with
 | .len=>match as0.toList,ts.toList with
  |[x],[T]=>K9 P rd T (ev x) (cO K)
  |_,_=>wC
 | .max=>match as0.toList,ts.toList with
  |[x,y],[_,_]=>mnV wE [ev x,ev y] (cO K)
  |_,_=>wC
 | .min=>match as0.toList,ts.toList with
  |[x,y],[_,_]=>mnV wD [ev x,ev y] (cO K)
  |_,_=>wC
 | .append=>match as0.toList,ts.toList with
  |[x,y],[T,T']=>SD P rd nx T T' (ev x) (ev y) K
  |_,_=>wC
 | .copy=>match as0.toList,ts.toList with
  |[x,y],[T,_]=>Lk P rd R nx T (ev x) (ev y) K
  |_,_=>wC
 |_=>wC
def Df(c:Call)(P:Program)(F:aI)(ev:Operand->Option AV)(rd:Nat->Option IR)(R:aP)(nx:Nat)(K:eX->Option α):Option α:=match c.callee with
 | .value x=>HV F ev R nx (ev x) c.args.toList K
 | .builtin b=>wK b c.args c.argTypes P ev rd R nx K
 |_=>wC
def ank(_:Program)(_:aI)(_:Operand->Option AV)(_:Nat->Option IR)(_:aP)(_:Nat)(_:eX->Option α):Option α:=wC
def l6(o:Op):Program->aI->(Operand->Option AV)->(Nat->Option IR)->aP->Nat->(eX->Option α)->Option α:=match o with
 | .move x=>Qz x
 | .assign x=>Qz x
 | .pick c a b=>tZ c a b
 | .binOp b T x y _=>agB b T x y
 | .unOp b _ x=>al8 b x
 | .convert T T' x=>agf T T' x
 | .nilCheck x=>af6 x
 | .fieldAddr T x i=>afY T x i
 | .indexAddr T x y=>agD T x y
 | .index T x y=>aeL T x y
 | .load T x=>anV T x
 | .store T x y=>agx T x y
 | .makeFunc f fs cs=>agn f fs cs
 | .extract x i=>afB x i
 | .build T ps=>agG T ps
 | .buildSlice T n ps=>afQ T n ps
 | .makeSlice T x y=>ann T x y
 | .alloc T=>agz T
 | .box T x=>afA T x
 | .slice T x lo hi mx=>Jr T x lo hi mx
 | .call c=>Df c
 |_=>ank
theorem Ka(P:Program)(F:aI)(ev:Operand->Option AV)(rd:Nat->Option IR)(R:aP)(nx:Nat)(o:Op)(K:eX->Option α):l6 o P F ev rd R nx K=Fk P F ev rd R nx o K:=by
 cases o<;>first|rfl|skip
 case call c=>
  obtain⟨cal,as0,ts⟩:=c
  cases cal with
  |builtin b=>cases b<;>rfl
  |_=>rfl
end
section
variable {α:Type} {r:α} {P:Program} {F:aI} {o:Oper} {E:Env} {R:aP} {nx:Nat} {ev:Operand->Option AV} {rd:Nat->Option IR} {K:eX->Option α} {C:Cx} {n:Nat}
theorem an1{β:Type}{a:Array β}{x:β}(h:a.toList=[x]):a=#[x]:=by rw[<-Array.toArray_toList (xs:=a),h]
theorem H9{β:Type}{a:Array β}{x y:β}(h:a.toList=[x,y]):a=#[x,y]:=by rw[<-Array.toArray_toList (xs:=a),h]
theorem Em(hF:gF P F)(hs:jf ev rd nx E R){op:Op}(ho:o.op=op)(h:Fk P F ev rd R nx op K=O r):R8 P o E R nx K r:=by
 unfold Fk at h
 split at h
 ·obtain⟨d,hd,h⟩:=zi.1 h
  exact .pu hs ⟨d,h,hs.p9 hd,fun ρ=> .move ho (hs.eR hd ρ)⟩
 ·obtain⟨d,hd,h⟩:=zi.1 h
  exact .pu hs ⟨d,h,hs.p9 hd,fun ρ=> .assign ho (hs.eR hd ρ)⟩
 ·split at h
  ·rename_i hc
   obtain⟨d,hd,h⟩:=zi.1 h
   exact .pu hs ⟨d,h,hs.p9 hd,fun ρ=> .ao4 ho (by have:=hs.eR hc ρ;rw[bE]at this;exact this) (hs.eR hd ρ)⟩
  ·rename_i hc
   obtain⟨d,hd,h⟩:=zi.1 h
   exact .pu hs ⟨d,h,hs.p9 hd,fun ρ=> .aqu ho (by have:=hs.eR hc ρ;rw[bE]at this;exact this) (hs.eR hd ρ)⟩
  ·cases h
 ·exact .pu hs (Z1 hs ho h)
 ·exact .pu hs (ale hs ho h)
 ·exact .pu hs (Zm hs ho h)
 ·exact .pu hs (Zv hs ho h)
 ·exact .pu hs (adM hs ho h)
 ·exact .pu hs (adG hs ho h)
 ·exact .pu hs (abP hs ho h)
 ·exact .pu hs (ahl hs ho h)
 ·exact acY hs ho h
 ·exact .pu hs (XY hs ho h)
 ·exact .pu hs (Zb hs ho h)
 ·exact .pu hs (XN hs ho h)
 ·exact adZ hs ho h
 ·exact ala hs ho h
 ·exact aae hs ho h
 ·exact adb hs ho h
 ·split at h
  ·exact .pu hs (aa7 hs ho h)
  ·split at h
   ·exact aj3 hs ho h
   ·cases h
  ·cases h
 ·split at h
  ·rename_i h1 h2
   rw[an1 h1,an1 h2]at ho
   exact .pu hs (XL hs ho h)
  ·cases h
 ·split at h
  ·rename_i h1 h2
   rw[H9 h1,H9 h2]at ho
   unfold mnV at h
   split at h
   ·rename_i q1
    split at h
    ·rename_i hk
     subst hk
     simp only[List.cons.injEq,and_true]at q1
     obtain⟨q1,q2⟩:=q1
     exact .pu hs ⟨_,h, .lit fun ρ=> .max ho (by have:=hs.eR q1 ρ;rw[bE]at this;exact this) (by have:=hs.eR q2 ρ;rw[bE]at this;exact this)⟩
    ·cases h
   ·cases h
  ·cases h
 ·split at h
  ·rename_i h1 h2
   rw[H9 h1,H9 h2]at ho
   unfold mnV at h
   split at h
   ·rename_i q1
    split at h
    ·rename_i hk
     subst hk
     simp only[List.cons.injEq,and_true]at q1
     obtain⟨q1,q2⟩:=q1
     exact .pu hs ⟨_,h, .lit fun ρ=> .min ho (by have:=hs.eR q1 ρ;rw[bE]at this;exact this) (by have:=hs.eR q2 ρ;rw[bE]at this;exact this)⟩
    ·cases h
   ·cases h
  ·cases h
 ·split at h
  ·rename_i h1 h2
   rw[H9 h1,H9 h2]at ho
   exact Yt hs ho h
  ·cases h
 ·split at h
  ·rename_i h1 h2
   rw[H9 h1,H9 h2]at ho
   exact XH hs ho h
  ·cases h
 ·exact acz hF hs ho h
 ·cases h
def St.app(s:St)(dst:Option Nat)(e:eX):St:=
 {E:=match dst with
   |none=>s.E
   |some t=>match e.vl s.nx with
    |some d=>kW t d s.E
    |none=>kW t (.lit undef) s.E
  R:=e.R s.R s.nx
  nx:=e.nx s.nx}
def J7(n:Nat):Option Nat->Bool
 |none=>wE
 |some t=>zq t n
theorem jf.of{s:St}(hh:rY s.E E)(hE:E.cj s.nx)(hR:aP.cj s.nx s.R):jf (Du s.E) (fh s.R) s.nx E s.R:=⟨fun x d h=>hh.ev x d h,fun _ _ h=>h,hE,hR⟩
theorem akp{C:Cg}{s:St}{a:Act}{w:World}{Q:Exit->Act->World->Prop}(hm:Mt C n s a w)(hd:J7 n o.dst=wE)(h:∀E,jf (Du s.E) (fh s.R) s.nx E s.R->R8 P o E s.R s.nx K r){K':Act->World->Prop}
  (hK:∀a' w' e,a'.defers=a.defers->K e=O r->s.nx<=e.nx s.nx->Mt C n (s.app o.dst e) a' w'->K' a' w'):o.wp P a w K' Q:=by
 obtain⟨E,hh,hE,hR,ρ,hag,hsim⟩:=hm
 have h:=h E (jf.of hh hE hR)
 unfold Oper.wp
 have fin:∀(e:eX) (ρ':Gh) (σ':List cc) (w':World) (v:Value),s.nx<=e.nx s.nx->aP.cj (e.nx s.nx) (e.R s.R s.nx)->(∀d,e.vl s.nx=O d->cj (e.nx s.nx) d)->p6 s.nx ρ ρ'->List.Perm σ' (aP.res ρ' (e.R s.R s.nx))->
   Tr C.C (bh (aP.res ρ s.R)) (aP.res ρ s.R) w σ' w'->(∀d,e.vl s.nx=O d->Rel (al C.C σ') w' (d.sub ρ') v)->(e.vl s.nx=wC->v=undef)->Mt C n (s.app o.dst e) (a.put o.dst v) w':=fun e ρ' σ' w' v h1 h2 h3 h4 h5 h6 h7 h8=>by
  have hs1:=(hsim.tr h6).perm h5
  rw[hE.sub h4]at hs1
  have hE':E.cj (e.nx s.nx):=hE.mono h1
  have hag':p6 C.n C.ρ ρ'/\C.n<=e.nx s.nx:=⟨hag.1.trans h4 hag.2,zy hag.2 h1⟩
  have hput:∀(t:Nat) (d:AV),o.dst=O t->cj (e.nx s.nx) d->Rel (al C.C (aP.res ρ' (e.R s.R s.nx))) w' (d.sub ρ') v->Mt C n {E:=kW t d s.E,R:=e.R s.R s.nx,nx:=e.nx s.nx} (a.put (O t) v) w':=fun t d ht hd' hr=>
   ⟨(t,d)::E,hh.put t d,Env.uC hE' hd',h2,ρ',hag',hs1.put (by rw[ht]at hd;exact hd) hr⟩
  have hsub:∀d,e.vl s.nx=O d->Rel (al C.C (aP.res ρ' (e.R s.R s.nx))) w' (d.sub ρ') v:=fun d hd'=>(h7 d hd').mono fun b _ hA=>⟨Rf h5 b hA,rfl⟩
  unfold St.app
  cases hdst:o.dst with
  |none=>exact⟨E,hh,hE',h2,ρ',hag',hs1⟩
  |some t=>
   cases hv:e.vl s.nx with
   |some d=>exact hput t d hdst (h3 d hv) (hsub d hv)
   |none=>
    refine hput t (.lit undef) hdst (.lit _) ?_
    rw[h8 hv,bE]
    exact .lit _
 rcases h ρ C.C w a.eval hsim.good hsim.slots.ops with ⟨v,w',av,σ',⟨e,q1,q2,q3,q4,ρ',q5,q6,q7⟩,h2,h3,h4⟩|⟨w',σ',⟨e,q1,q2,q3,q4,ρ',q5,q6,q7⟩,h2,h3⟩|⟨f,args,h1,h2⟩
 ·rw[h3]
  refine hK _ _ e (by cases o.dst<;>rfl) q1 q2 (fin e ρ' σ' w' v q2 q3 q4 q5 q7 h2 (fun d hd'=> ?_) (fun hn=> ?_))
  ·rw[hd',yg,zB.injEq]at q6;rw[<-q6];exact h4
  ·rw[hn]at q6;cases q6
 ·rw[h3]
  refine hK _ _ e (by cases o.dst<;>rfl) q1 q2 (fin e ρ' σ' w' undef q2 q3 q4 q5 q7 h2 (fun d hd'=> ?_) (fun hn=>rfl))
  rw[hd']at q6;cases q6
 ·rw[h1]
  refine Calls.mono h2 fun ee w' ⟨v,av,σ',q0,⟨e,q1,q2,q3,q4,ρ',q5,q6,q7⟩,h2,h4⟩=> ?_
  subst q0
  refine hK _ _ e (by cases o.dst<;>rfl) q1 q2 (fin e ρ' σ' w' v q2 q3 q4 q5 q7 h2 (fun d hd'=> ?_) (fun hn=> ?_))
  ·rw[hd',yg,zB.injEq]at q6;rw[<-q6];exact h4
  ·rw[hn]at q6;cases q6
end
def Sc(id t:Nat)(l:List (U.cH t)):AV->AV
 | .own i=>match zb i id with
  |true=> .sl t l
  |false=> .own i
 |d=>d
def mB(id t:Nat)(l:List (U.cH t)):Nat->AV->AV
 |0,d=>d
 |n+1, .agg cs=> .agg (cs.map (mB id t l n))
 |n+1, .iA cs=> .iA (cs.map (mB id t l n))
 |n+1, .fn f cs=> .fn f (cs.map (mB id t l n))
 |_+1,d=>Sc id t l d
def tG(id t:Nat)(l:List (U.cH t)):IR->IR
 | .box T cs=> .box T (cs.map (mB id t l 3))
 |r=>r
def St.KP(s:St)(id:Nat):St:=match fh s.R id with
 |some (.row t l)=>{E:=emap (mB id t l 3) s.E,R:=(jL id s.R).map fun p=>(p.1,tG id t l p.2),nx:=s.nx}
 |_=>s
theorem T6{A:Nat->Prop}{w:World}{id t:Nat}{l:List (U.cH t)}{ρ:Gh}(hd:Hd A [.row (ρ.v id) t l] w){d:AV}{v:Value}(h:Rel A w (d.sub ρ) v):Rel (fun b=>A b\/b∈bh [.row (ρ.v id) t l]) w ((Sc id t l d).sub ρ) v:=by
 unfold Sc
 split
 ·rename_i i
  split
  ·rename_i hi
   have:=fB hi
   subst this
   rw[cX]at h
   rw[fG]
   exact Vw.row 0 rfl A w v hd h
  ·exact h.mono fun b _ hA=>⟨.inl hA,rfl⟩
 ·exact h.mono fun b _ hA=>⟨.inl hA,rfl⟩
theorem CO{A:Nat->Prop}{w:World}{id t:Nat}{l:List (U.cH t)}{ρ:Gh}(hd:Hd A [.row (ρ.v id) t l] w):∀(n:Nat) {d:AV} {v:Value},Rel A w (d.sub ρ) v->Rel (fun b=>A b\/b∈bh [.row (ρ.v id) t l]) w ((mB id t l n d).sub ρ) v
 |0,d,v,h=>h.mono fun b _ hA=>⟨.inl hA,rfl⟩
 |n+1,d,v,h=>by
  have hL:∀{cs:List AV} {us:List Value},bq A w (cs.map (bP.sub ρ)) us->bq (fun b=>A b\/b∈bh [.row (ρ.v id) t l]) w ((cs.map (mB id t l n)).map (bP.sub ρ)) us:=fun{cs us} h=>by
   refine⟨by simpa using h.1,fun j a v h1 h2=> ?_⟩
   rw[yc,zX]at h1
   obtain⟨c,hc,rfl⟩:=zf.1 h1
   exact CO hd n (h.2 j _ v (by rw[zX,hc];rfl) h2)
  unfold mB
  split
  ·rename_i h0;cases h0
  ·rename_i cs h0
   cases h0
   rw[dQ]at h ⊢
   obtain⟨us,rfl,h2⟩:=h.mX
   exact Rel.nO (hL h2)
  ·rename_i cs h0
   cases h0
   rw[jC]at h ⊢
   obtain⟨us,rfl,h2⟩:=h.Nc
   exact Rel.DJ (hL h2)
  ·rename_i f cs h0
   cases h0
   rw[sH]at h ⊢
   obtain⟨us,rfl,h2⟩:=h.Vp
   exact .fn f _ us (hL h2).1 (hL h2).2
  ·rename_i h0 _ _ _
   exact T6 hd h
end Go.Iv
end
