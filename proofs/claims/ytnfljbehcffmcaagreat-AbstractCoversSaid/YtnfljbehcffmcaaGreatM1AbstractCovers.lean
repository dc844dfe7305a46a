/- Merged: Iv1, Iv2, Iv3, Iv4, Iv5, Iw1, Iw0, Iv6, Iw2, Iw3, Iv10, Ivc, Iw4, Iw5, Iwn, Iv8, Iw6, Iw7, Iw8. -/
import Derived.OrdersHeld
import Derived.WalkKit
import Derived.KernelRfl
import Derived.Maps.AppendAt
import Derived.WalkLawsBesides
import Derived.Laws.Tables
import Derived.Laws.PanicsMore
import Derived.Great.BuildSlice
import Derived.Laws.MakeOwn
import Derived.Lib.SliceRun
import Derived.RangeFuncLeaves
import Derived.RangeFuncNested
import Derived.Laws.BytesArg
import Derived.Laws.StructEq
import Derived.Lib.AppendZerosOnto
import Derived.RangeFuncBound
import Derived.Shelf.Abstract
import Derived.TacticsIn
import Derived.OwnWalkIn
open Int renaming toNat_natCast → za, natCast_mul → xh
open Nat renaming beq → zb, lt_succ_self → zw, le_trans → zx, blt → zB, le_refl → zD, ble → ya, add_mul → yb, add_zero → yf, zero_add → yq, blt_eq → yu, le_succ → yx, mul_le_mul_right → yF, succ_mul → yH, mod_lt → yP, eq_of_beq_eq_true → yW, mul_one → y4, lt_of_lt_of_le → xP, add_assoc → xQ, le_of_ble_eq_true → xX, div_add_mod → wk
open List renaming length_append → zh, mem_cons_self → zi, getElem?_eq_getElem → zk, replicate → zn, all_eq_true → zo, mem_cons → zy, mem_singleton → zC, range → zH, mem_cons_of_mem → zJ, length_map → zK, mem_map → zL, take_length → zM, length_set → zO, drop_drop → zP, mem_append → zU, map_congr_left → zV, getElem?_eq_some_iff → zX, getElem?_map → zY, length_take → zZ, length_drop → z8, map_append → yc, map_map → yd, nil_append → yg, map_cons → yh, append_nil → yj, getElem?_drop → yw, getElem?_take → yz, mem_append_left → yA, mem_append_right → yB, nodup_append → yE, replicate_succ → yI, append_assoc → yQ, getElem?_append → yX, size_toArray → yY, eq_nil_of_length_eq_zero → yZ, map_nil → y5, length_range → xb, filterMap_cons → xd, take_append_drop → xe, getElem_append_right → xg, map_drop → xj, filter_append → xk, cons_append → xw, getElem_mem → xx, flatMap_cons → xA, getElem_append_left → xB, getElem_drop → xC, map_take → xD, take_zero → xE, drop_eq_getElem_cons → xR, getElem_of_mem → xS, drop_zero → xT, length_replicate → xU, mem_flatMap → xV, mem_of_mem_drop → xW, filter_filter → xY, filter_congr → xZ, getElem?_eq_none → wh, length_cons → wj, flatten_cons → wm, set_eq_take_append_cons_drop → wA, eraseIdx_eq_take_drop_succ → wB, eraseIdx_sublist → wC, getElem?_replicate → wD
open Bool renaming and_eq_true → zf, true → wO, false → wN
open Option renaming map_eq_some_iff → zj, bind_eq_some_iff → zm, some → zF, bind_assoc → zW, map_some → yt, toList_some → xu, toList → xz, some → V, none → O
open Decidable renaming decide → wP
set_option linter.unusedSectionVars false
set_option linter.unusedVariables false
set_option linter.unusedSimpArgs false
set_option linter.defProp false
namespace Go
theorem bO:∀ {p:Prop} [inst:Decidable p],¬p→decide p=wN:=@decide_eq_false
theorem bP:∀ {p:Prop} [inst:Decidable p],p→decide p=wO:=@decide_eq_true
theorem bA{α:Sort _}(a b:α):cond wN a b=b:=rfl
theorem bE{α:Sort _}(a b:α):cond wO a b=a:=rfl
theorem bw{c:Prop}{h:Decidable c}(hc:c){α:Sort _}{t e:α}:(ite c t e)=t:=if_pos hc
theorem bF{c:Prop}{h:Decidable c}(hnc:¬c){α:Sort _}{t e:α}:(ite c t e)=e:=if_neg hnc
theorem dx(h:Decidable True):@decide True h=wO:=decide_true h
theorem gh(h:Decidable False):@decide False h=wN:=decide_false h
theorem cz{α:Sort _}{_:Decidable True}(t e:α):ite True t e=t:=if_true t e
theorem dS{α:Sort _}{_:Decidable False}(t e:α):ite False t e=e:=if_false t e
theorem ew(p:Prop):(p∧p)=p:=and_self p
def cQ{a:Prop}{b:Sort _}(h1:a)(h2:¬a):b:=absurd h1 h2
end Go
noncomputable section
namespace Go.Iv
open Go Go.RowKit
inductive cc (dw:Nat->Type):Type
 |lit (v:Value)
 |sl (t:Nat) (l:List (dw t))
 |fp (cs:List (cc dw))
 |rp (v:Value) (k:Nat)
 |agg (cs:List (cc dw))
 |jB (vs:List (cc dw))
 |fn (f:Fn) (caps:List (cc dw))
 |own (id:Nat)
 |ptr (id off:Nat)
 |ra (id t m off:Nat)
class sX where
 dw:Nat->Type
 inh:(t:Nat)->Inhabited (dw t)
 sz:Nat->Nat
 cells:(t:Nat)->dw t->List (cc dw)
instance [U:sX] (t:Nat):Inhabited (U.dw t):=U.inh t
abbrev AV[U:sX]:Type:=cc U.dw
variable [U:sX]
def gO:Value->Option Nat
 | .slice (V a) _ (_+1)=>V a.block
 |_=>O
def iq(w:World)(v:Value)(T:TypeId)(sz n:Nat)(us:List Value):Prop:=
 us.length=n*sz/\((∃p,v= .slice p 0 0/\n=0)\/
  ∃g cap cur,v= .slice (V ⟨g,0,O⟩) n (cap+1)/\w.heap[g]? =V (.cells cur T (0,0))/\n<=cap+1/\cap+1<=maxLen/\cur.size=(cap+1)*sz/\cur.toList.take (n*sz)=us)
def iq.lt{w:World}{v:Value}{T:TypeId}{sz n:Nat}{us:List Value}(h:iq w v T sz n us){b:Nat}(hb:gO v=V b):b<w.heap.size:=by
 rcases h.2 with ⟨p,rfl,_⟩|⟨g,cap,cur,rfl,hg,_⟩
 ·cases p<;>cases hb
 ·cases hb
  exact(Array.getElem?_eq_some_iff.1 hg).1
def iq.kept{w w':World}{v:Value}{T:TypeId}{sz n:Nat}{us:List Value}(h:iq w v T sz n us)(hb:∀b,gO v=V b->w'.heap[b]? =w.heap[b]?):iq w' v T sz n us:=by
 refine⟨h.1,?_⟩
 rcases h.2 with h1|⟨g,cap,cur,rfl,q1,q2⟩
 ·exact .inl h1
 ·exact .inr ⟨g,cap,cur,rfl,(hb g rfl).trans q1,q2⟩
inductive Rel (A:Nat->Prop) (w:World):AV->Value->Prop
 |lit (v:Value):Rel A w (.lit v) v
 |sl (t:Nat) (l:List (U.dw t)) (p:Option Addr) (cap:Nat) (u:Nat->Nat->Value)
   (hl:l.length<=9223372036854775807) (hcap:l.length<=cap) (hz:∀i,i<l.length->(U.cells t l[i]!).length=U.sz t)
   (hc:∀i,i<l.length->∃b off,p=V ⟨b,off,O⟩/\b<w.heap.size/\A b/\∀j,j<U.sz t->w.cell? ⟨b,off+i*U.sz t+j,O⟩=V (u i j))
   (hr:∀i j a,i<l.length->(U.cells t l[i]!)[j]? =V a->Rel A w a (u i j)):Rel A w (.sl t l) (.slice p l.length cap)
 |fp (cs:List AV) (b o:Nat) (us:List Value) (hb:b<w.heap.size) (hA:A b) (hl:us.length=cs.length)
   (hc:∀j v,us[j]? =V v->w.cell? ⟨b,o+j,O⟩=V v) (hr:∀(j:Nat) a v,cs[j]? =V a->us[j]? =V v->Rel A w a v):Rel A w (.fp cs) (.pointer (V ⟨b,o,O⟩))
 |rp (v:Value) (k g:Nat) (h:gO v=V g):Rel A w (.rp v k) (.pointer (V ⟨g,k,O⟩))
 |agg (cs:List AV) (us:List Value) (hl:us.length=cs.length) (hr:∀(j:Nat) a v,cs[j]? =V a->us[j]? =V v->Rel A w a v):Rel A w (.agg cs) (.agg us.toArray)
 |jB (cs:List AV) (us:List Value) (hl:us.length=cs.length) (hr:∀(j:Nat) a v,cs[j]? =V a->us[j]? =V v->Rel A w a v):Rel A w (.jB cs) (.tuple us.toArray)
 |fn (f:Fn) (cs:List AV) (us:List Value) (hl:us.length=cs.length) (hr:∀(j:Nat) a v,cs[j]? =V a->us[j]? =V v->Rel A w a v):Rel A w (.fn f cs) (.func f #[] us.toArray)
def Rel.mono{A A':Nat->Prop}{w w':World}{a:AV}{v:Value}(h:Rel A w a v)(hk:∀b,b<w.heap.size->A b->A' b/\w'.heap[b]? =w.heap[b]?):Rel A' w' a v:=by
 have hsz:∀b,b<w.heap.size->A b->b<w'.heap.size:=fun b hb hA=>by
  have h1:=(hk b hb hA).2
  rw[Array.getElem?_eq_getElem hb]at h1
  exact(Array.getElem?_eq_some_iff.1 h1).1
 have hcell:∀b o,b<w.heap.size->A b->w'.cell? ⟨b,o,O⟩=w.cell? ⟨b,o,O⟩:=fun b o hb hA=>by
  simp[World.cell?,(hk b hb hA).2]
 induction h with
 |lit v=>exact .lit v
 |sl t l p cap u hl hcap hz hc hr ih=>
  refine .sl t l p cap u hl hcap hz (fun i hi=> ?_) ih
  obtain⟨b,off,h1,h2,h3,h4⟩:=hc i hi
  exact⟨b,off,h1,hsz b h2 h3,(hk b h2 h3).1,fun j hj=>by rw[hcell b _ h2 h3];exact h4 j hj⟩
 |fp cs b o us hb hA hl hc hr ih=>exact .fp cs b o us (hsz b hb hA) (hk b hb hA).1 hl (fun j v hj=>by rw[hcell b _ hb hA];exact hc j v hj) ih
 |rp v k g h=>exact .rp v k g h
 |agg cs us hl hr ih=>exact .agg cs us hl ih
 |jB cs us hl hr ih=>exact .jB cs us hl ih
 |fn f cs us hl hr ih=>exact .fn f cs us hl ih
def bK(A:Nat->Prop)(w:World)(as0:List AV)(us:List Value):Prop:=us.length=as0.length/\∀(j:Nat) a v,as0[j]? =V a->us[j]? =V v->Rel A w a v
def bK.mono{A A':Nat->Prop}{w w':World}{as0:List AV}{us:List Value}(h:bK A w as0 us)(hk:∀b,b<w.heap.size->A b->A' b/\w'.heap[b]? =w.heap[b]?):bK A' w' as0 us:=⟨h.1,fun j a v h1 h2=>(h.2 j a v h1 h2).mono hk⟩
def Rel.cK{A:Nat->Prop}{w:World}{u v:Value}(h:Rel A w (.lit u) v):v=u:=by
 generalize ha:cc.lit u=a at h
 cases h with
 |lit v=>cases ha;rfl
 |_=>cases ha
def Blk(w:World)(b:Nat)(cs:Array Value)(T:TypeId):Prop:=w.heap[b]? =V (.cells cs T (0,0))
def Blk.lt{w:World}{b:Nat}{cs:Array Value}{T:TypeId}(h:Blk w b cs T):b<w.heap.size:=(Array.getElem?_eq_some_iff.1 h).1
def Blk.cell{w:World}{b:Nat}{cs:Array Value}{T:TypeId}(h:Blk w b cs T){i:Nat}{v:Value}(hv:cs[i]? =V v):w.cell? ⟨b,i,O⟩=V v:=by
 unfold Blk at h
 simp[World.cell?,h,hv]
inductive cH:Type
 |box (b:Nat) (T:TypeId) (cs:List AV)
 |row (v:Value) (t:Nat) (l:List (U.dw t))
def cH.blk:cH->Option Nat
 | .box b _ _=>V b
 | .row v _ _=>gO v
def cH.ok(A:Nat->Prop)(w:World):cH->Prop
 | .box b T cs=>∃us:List Value,Blk w b us.toArray T/\bK A w cs us
 | .row v t l=>∃us:List Value,iq w v t (U.sz t) l.length us/\(∀i,i<l.length->(U.cells t l[i]!).length=U.sz t)/\∀i,i<l.length->bK A w (U.cells t l[i]!) ((us.drop (i*U.sz t)).take (U.sz t))
def bH(σ:List cH):List Nat:=σ.filterMap cH.blk
def bR{σ:List cH}{b:Nat}:b∈bH σ↔∃r∈σ,r.blk=V b:=by simp[bH]
def cH.ok.lt{A:Nat->Prop}{w:World}{r:cH}(h:r.ok A w){b:Nat}(hb:r.blk=V b):b<w.heap.size:=by
 cases r with
 |box b' T cs=>obtain⟨us,h1,_⟩:=h;cases hb;exact h1.lt
 |row v t l=>obtain⟨us,h1,_⟩:=h;exact h1.lt hb
def cH.ok.mono{A A':Nat->Prop}{w w':World}{r:cH}(h:r.ok A w)(hk:∀b,b<w.heap.size->A b->A' b/\w'.heap[b]? =w.heap[b]?)(hb:∀b,r.blk=V b->w'.heap[b]? =w.heap[b]?):r.ok A' w':=by
 cases r with
 |box b T cs=>
  obtain⟨us,h1,h2⟩:=h
  exact⟨us,(hb b rfl).trans h1,h2.mono hk⟩
 |row v t l=>
  obtain⟨us,h1,h2,h3⟩:=h
  exact⟨us,h1.kept hb,h2,fun i h4=>(h3 i h4).mono hk⟩
structure Kp (X:List Nat) (w w':World):Prop where
 os:w'.os=w.os
 tape:w'.tape=w.tape
 output:w'.output=w.output
 size:w.heap.size<=w'.heap.size
 block:∀k,k<w.heap.size->k∉X->w'.heap[k]? =w.heap[k]?
def Kp.refl(X:List Nat)(w:World):Kp X w w:=⟨rfl,rfl,rfl,zD _,fun _ _ _=>rfl⟩
def Kp.trans{X Y:List Nat}{w w1 w2:World}(h:Kp X w w1)(h':Kp Y w1 w2)(hY:∀b,b∈Y->b<w.heap.size->b∈X):Kp X w w2:=
 ⟨h'.os.trans h.os,h'.tape.trans h.tape,h'.output.trans h.output,zx h.size h'.size,fun k hk hX=>
  (h'.block k (xP hk h.size) (fun hy=>hX (hY k hy hk))).trans (h.block k hk hX)⟩
def Kp.drew(w:World):Kp [] w w.drew:=⟨rfl,rfl,rfl,zD _,fun _ _ _=>rfl⟩
def Kp.below{w w':World}(h:Kp [] w w'):Below w.heap.size w w':=⟨h.os,h.tape,h.output,h.size,fun k hk=>h.block k hk (by simp)⟩
structure Cx where
 w0:World
 A0:Nat->Prop
 O0:List Nat
def al(C:Cx)(σ:List cH)(b:Nat):Prop:=(C.A0 b\/b∈C.O0\/C.w0.heap.size<=b)/\b∉bH σ
structure Good (C:Cx) (σ:List cH) (w:World):Prop where
 kept:Kp C.O0 C.w0 w
 res:∀r∈σ,r.ok (al C σ) w
 F8:(bH σ).Nodup
 own:∀b∈bH σ,b∈C.O0\/C.w0.heap.size<=b
structure Tr (C:Cx) (X:List Nat) (σ:List cH) (w:World) (σ':List cH) (w':World):Prop where
 good:Good C σ' w'
 kp:Kp X w w'
 al:∀b,b<w.heap.size->al C σ b->al C σ' b/\b∉X
def Tr.keep{C:Cx}{X:List Nat}{σ σ':List cH}{w w':World}(t:Tr C X σ w σ' w'):∀b,b<w.heap.size->Iv.al C σ b->Iv.al C σ' b/\w'.heap[b]? =w.heap[b]? :=
 fun b hb h=>⟨(t.al b hb h).1,t.kp.block b hb (t.al b hb h).2⟩
abbrev Env:=List (Nat×AV)
def Env.get:Env->Nat->Option AV
 |[],_=>O
 |(k,v)::E,t=>match zb k t with
  |true=>V v
  |false=>Env.get E t
def Env.ev(E:Env):Operand->Option AV
 | .tmp t=>Env.get E t
 | .const v=>V (.lit v)
 | .global g=>V (.lit (.pointer (V ⟨g,0,O⟩)))
 | .func f=>V (.fn (.func f) [])
def Env.e9(E:Env)(d:Nat)(v:AV):Env.get ((d,v)::E) d=V v:=by
 have h:zb d d=wO:=Nat.beq_refl d
 simp only[Env.get,h]
def Env.dO(E:Env){d t:Nat}(v:AV)(h:d≠t):Env.get ((d,v)::E) t=Env.get E t:=by
 have h':zb d t=wN:=by
  cases hb:zb d t with
  |false=>rfl
  |true=>exact cQ (yW hb) h
 simp only[Env.get,h']
def lM(A:Nat->Prop)(w:World)(E:Env)(tmps:Array Value):Prop:=∀t av,Env.get E t=V av->∃v,tmps[t]? =V v/\Rel A w av v
def Dq(C:Cx)(σ:List cH)(a:Act)(w:World):Prop:=∃Ds:List Nat,a.defers=Ds.map (fun D=>{target:= .collected D,args:=#[]})/\Ds.Nodup/\
 ∀D∈Ds,D<w.heap.size/\C.w0.heap.size<=D/\D∉bH σ/\w.heap[D]? =V (.deferred (V []))
def Dq.nil{C:Cx}{σ:List cH}{a:Act}{w:World}(h:a.defers=[]):Dq C σ a w:=⟨[],h,List.nodup_nil,fun _ h=>by cases h⟩
def Dq.step{C:Cx}{σ σ':List cH}{a:Act}{w w':World}(h:Dq C σ a w)(hk:∀b,b<w.heap.size->al C σ b->al C σ' b/\w'.heap[b]? =w.heap[b]?):Dq C σ' a w':=by
 obtain⟨Ds,h1,h2,h3⟩:=h
 refine⟨Ds,h1,h2,fun D hD=> ?_⟩
 obtain⟨q1,q2,q3,q4⟩:=h3 D hD
 obtain⟨p1,p2⟩:=hk D q1 ⟨.inr (.inr q2),q3⟩
 have p3:=p2.trans q4
 exact⟨(Array.getElem?_eq_some_iff.1 p3).1,q2,p1.2,p3⟩
structure uK (C:Cx) (n:Nat) (E:Env) (σ:List cH) (a:Act) (w:World):Prop where
 defers:Dq C σ a w
 size:a.tmps.size=n
 slots:lM (al C σ) w E a.tmps
 good:Good C σ w
def MP(A:Nat->Prop)(w:World)(E:Env)(ρ:Operand->Value):Prop:=∀x u,E.ev x=V u->Rel A w u (ρ x)
section
variable {C:Cx} {n:Nat} {E E':Env} {σ σ':List cH} {a:Act} {w w':World} {x:Operand} {v:Value} {av:AV} {d:Nat} {A:Nat->Prop}
def lM.ops(h:lM A w E a.tmps):MP A w E a.eval:=fun x u hx=>by
 cases x with
 |tmp t=>
  obtain⟨v,h1,h2⟩:=h t u hx
  simpa [Act.eval,h1]using h2
 |const u=>
  simp only[Env.ev,zF.injEq]at hx
  subst hx
  exact .lit _
 |global g=>
  simp only[Env.ev,zF.injEq]at hx
  subst hx
  exact .lit _
 |func f=>
  simp only[Env.ev,zF.injEq]at hx
  subst hx
  exact .fn _ [] [] rfl (fun j a v h=>by cases h)
def lM.put(h:lM A w E a.tmps)(hd:d<a.tmps.size)(hv:Rel A w av v):lM A w ((d,av)::E) (a.put (V d) v).tmps:=fun t u ht=>by
 by_cases hdt:d=t
 ·subst hdt
  rw[Env.e9]at ht
  cases ht
  exact⟨v,by simp[Act.put,hd],hv⟩
 ·rw[Env.dO _ _ hdt]at ht
  obtain⟨v',h1,h2⟩:=h t u ht
  exact⟨v',by simp[Act.put,Array.getElem?_setIfInBounds_ne hdt,h1],h2⟩
def uK.put(h:uK C n E σ a w)(hd:zB d n=wO)(hv:Rel (al C σ) w av v):uK C n ((d,av)::E) σ (a.put (V d) v) w:=
 ⟨h.defers,by simpa [Act.put]using h.size,h.slots.put (by rw[h.size];simpa [yu]using hd) hv,h.good⟩
def uK.tr{X:List Nat}(h:uK C n E σ a w)(t:Tr C X σ w σ' w'):uK C n E σ' a w':=
 ⟨h.defers.step t.keep,h.size,fun i u hi=>let ⟨v,h1,h2⟩:=h.slots i u hi;⟨v,h1,h2.mono t.keep⟩,t.good⟩
end
def Hd(A:Nat->Prop)(σ:List cH)(w:World):Prop:=(∀r∈σ,r.ok A w)/\∀b∈bH σ,¬A b
def Good.hd{C:Cx}{σ:List cH}{w:World}(h:Good C σ w):Hd (al C σ) σ w:=⟨h.res,fun _ hb hA=>hA.2 hb⟩
section
variable (P:Program) (E:Env) (σ:List cH) (o:Oper)
def Yp(av:AV):Prop:=∀(A:Nat->Prop) (w:World) (ρ:Operand->Value),Hd A σ w->MP A w E ρ->
 ∃v,Rel A w av v/\∀w':World,(∀b,b<w.heap.size->(A b\/b∈bH σ)->w'.heap[b]? =w.heap[b]?)->(execOp ρ o).run P w'= .ok (.value v) w'
def Yv(C:Cx)(X:List Nat)(N:AV->List cH->Prop):Prop:=∀(w:World) (ρ:Operand->Value),Good C σ w->MP (al C σ) w E ρ->
 ∃v w' av σ',N av σ'/\Tr C X σ w σ' w'/\(execOp ρ o).run P w= .ok (.value v) w'/\Rel (al C σ') w' av v
def Yu(C:Cx)(X:List Nat)(σ':List cH):Prop:=∀(w:World) (ρ:Operand->Value),Good C σ w->MP (al C σ) w E ρ->
 ∃w',Tr C X σ w σ' w'/\(execOp ρ o).run P w= .ok .skip w'
def Yc(C:Cx)(X:List Nat)(N:AV->List cH->Prop):Prop:=∀(w:World) (ρ:Operand->Value),Good C σ w->MP (al C σ) w E ρ->
 ∃f args,(execOp ρ o).run P w= .ok (.enter f args) w/\Calls P f args w fun e w'=>∃v av σ',e= .returned v/\N av σ'/\Tr C X σ w σ' w'/\Rel (al C σ') w' av v
def qL(ops:Array Oper):Option Bool:=
 match o.guard with
 |none=>V wO
 |some (j,want)=>match (ops[j]?).bind (·.dst)with
  |none=>O
  |some t=>match Env.get E t with
   |some (.lit (.bool b))=>V (b==want)
   |some (.lit (.tuple _))=>V wN
   |_=>O
end
def qL.spec{A:Nat->Prop}{w:World}{E:Env}{o:Oper}{ops:Array Oper}{tmps:Array Value}{b:Bool}(h:lM A w E tmps)(hw:qL E o ops=V b):Region.wanted o (yielded ops tmps)=b:=by
 unfold qL at hw
 unfold Region.wanted
 cases hg:o.guard with
 |none=>rw[hg]at hw;simpa using hw
 |some gw=>
  obtain⟨j,want⟩:=gw
  rw[hg]at hw
  simp only at hw ⊢
  cases ht:(ops[j]?).bind (·.dst)with
  |none=>rw[ht]at hw;cases hw
  |some t=>
   rw[ht]at hw
   simp only at hw
   cases he:Env.get E t with
   |none=>rw[he]at hw;cases hw
   |some u=>
    obtain⟨v,hv,hr⟩:=h t u he
    rw[he]at hw
    have hy:yielded ops tmps j=match v with| .bool b=>V b|_=>O:=by
     unfold yielded
     rw[ht]
     simp only[Option.bind_some,hv]
     cases v<;>rfl
    cases u with
    |lit u=>
     have hvu:=hr.cK
     subst hvu
     cases v<;>simp only at hw hy<;>first|(cases hw;done)|skip
     ·rw[hy];simpa using hw
     ·rw[hy];simp at hw;simp[<-hw]
    |_=>cases hw
def Q1(C:Cx)(n:Nat)(K:Env->List cH->Prop)(ds:List Deferred):Exit->Act->World->Prop:=fun e a w=>e= .normal/\a.defers=ds/\∃E σ,uK C n E σ a w/\K E σ
section
variable {P:Program} {C:Cx} {n:Nat} {ops:Array Oper} {K:Env->List cH->Prop} {rest:List Oper} {E E':Env} {σ σ':List cH} {o:Oper} {av:AV} {d:Nat} {X:List Nat} {N:AV->List cH->Prop}
end
structure Bs (X:List Nat) (A1:Nat->Prop) (w1:World) (σS:List cH):Prop where
 hd:Hd A1 σS w1
 nA:∀b,A1 b->b∉X
 nS:∀b∈bH σS,b∉X
section
variable {P:Program} {C:Cx} {n:Nat} {ops:Array Oper} {X X':List Nat} {A1:Nat->Prop} {w1:World} {σS:List cH} {K:Env->List cH->Prop} {fuel:Nat} {listed:Array Bool} {i:Nat} {Eb E:Env} {σ σ':List cH} {o:Oper} {av:AV} {d:Nat} {N:AV->List cH->Prop}
end
def CW(P:Program)(C:Cx)(n:Nat)(c:Code)(Q:Exit->Env->List cH->Prop)(E:Env)(σ:List cH):Prop:=
 ∀a w,uK C n E σ a w->c.wp P (fun e a' w'=>∃E' σ',uK C n E' σ' a' w'/\Q e E' σ') a w
section
variable {P:Program} {C:Cx} {n:Nat} {c x y:Code} {Q Q':Exit->Env->List cH->Prop} {E E':Env} {σ σ':List cH}
def RN{a:Act}{w:World}{cnd:Operand}{b:Bool}(ha:uK C n E σ a w)(hc:E.ev cnd=V (.lit (.bool b))):a.eval cnd= .bool b:=by
 exact(ha.slots.ops _ _ hc).cK
def Good.drew{w:World}(h:Good C σ w):Good C σ w.drew:=
 ⟨h.kept.trans (Kp.drew w) (by simp),fun r hr=>(h.res r hr).mono (fun b _ hA=>⟨hA,rfl⟩) (fun _ _=>rfl),h.F8,h.own⟩
def uK.drew{a:Act}{w:World}(h:uK C n E σ a w):uK C n E σ a w.drew:=
 ⟨h.defers,h.size,fun i u hi=>let ⟨v,h1,h2⟩:=h.slots i u hi;⟨v,h1,h2.mono fun _ _ hA=>⟨hA,rfl⟩⟩,h.good.drew⟩
def ry{σ σ':List cH}(h:∀r∈σ',r∈σ):∀b∈bH σ',b∈bH σ:=fun b hb=>by
 obtain⟨r,h1,h2⟩:=bR.1 hb
 exact bR.2 ⟨r,h r h1,h2⟩
def uK.less{a:Act}{w:World}(h:uK C n E σ a w)(hs:List.Sublist σ' σ):uK C n E σ' a w:=by
 have hm:∀r∈σ',r∈σ:=fun r hr=>hs.subset hr
 have hal:∀b,al C σ b->al C σ' b:=fun b hb=>⟨hb.1,fun hx=>hb.2 (ry hm b hx)⟩
 exact⟨h.defers.step (fun b _ hA=>⟨hal b hA,rfl⟩),h.size,fun i u hi=>let ⟨v,h1,h2⟩:=h.slots i u hi;⟨v,h1,h2.mono fun b _ hA=>⟨hal b hA,rfl⟩⟩,
  ⟨h.good.kept,fun r hr=>(h.good.res r (hm r hr)).mono (fun b _ hA=>⟨hal b hA,rfl⟩) (fun _ _=>rfl),h.good.F8.sublist (hs.filterMap _),fun b hb=>h.good.own b (ry hm b hb)⟩⟩
def uK.perm{a:Act}{w:World}(h:uK C n E σ a w)(hp:List.Perm σ σ'):uK C n E σ' a w:=by
 have hb:∀b,b∈bH σ'↔b∈bH σ:=fun b=>(hp.filterMap _).symm.mem_iff
 have hal:∀b,al C σ b->al C σ' b:=fun b hA=>⟨hA.1,fun hx=>hA.2 ((hb b).1 hx)⟩
 exact⟨h.defers.step (fun b _ hA=>⟨hal b hA,rfl⟩),h.size,fun i u hi=>let ⟨v,h1,h2⟩:=h.slots i u hi;⟨v,h1,h2.mono fun b _ hA=>⟨hal b hA,rfl⟩⟩,
  ⟨h.good.kept,fun r hr=>(h.good.res r (hp.mem_iff.2 hr)).mono (fun b _ hA=>⟨hal b hA,rfl⟩) (fun _ _=>rfl),(hp.filterMap _).nodup_iff.1 h.good.F8,fun b hx=>h.good.own b ((hb b).1 hx)⟩⟩
end
end Go.Iv
end
noncomputable section
namespace Go.Iv
variable [U:sX]
open Go Go.RowKit
def uA(k:IntKind)(x y:Int):Int:=k.wrap ((BitVec.ofInt k.bits x&&&BitVec.ofInt k.bits y).toNat)
def bOr(k:IntKind)(x y:Int):Int:=k.wrap ((BitVec.ofInt k.bits x|||BitVec.ofInt k.bits y).toNat)
def aoN(k:IntKind)(x y:Int):Int:=k.wrap ((BitVec.ofInt k.bits x^^^BitVec.ofInt k.bits y).toNat)
def amd(k:IntKind)(x y:Int):Int:=k.wrap ((BitVec.ofInt k.bits x&&& ~~~ BitVec.ofInt k.bits y).toNat)
def mO(k:IntKind)(x y:Int):Int:=k.wrap (x*2^(min y.toNat k.bits))
def cW(k:IntKind)(x y:Int):Int:=x.fdiv (2^(min y.toNat k.bits))
abbrev cc.i{dw:Nat->Type}(n:Int):cc dw:= .lit (.int .i64 n)
abbrev cc.n{dw:Nat->Type}(k:IntKind)(n:Int):cc dw:= .lit (.int k n)
abbrev cc.b{dw:Nat->Type}(b:Bool):cc dw:= .lit (.bool b)
abbrev cc.s{dw:Nat->Type}(s:ByteArray):cc dw:= .lit (.string s)
section
variable {A:Nat->Prop} {w:World} {as0 bs:List AV} {us vs:List Value} {a:AV} {v:Value}
def bK.nil:bK A w [] []:=⟨rfl,fun j a v h=>by cases h⟩
def bK.cons(h:Rel A w a v)(hs:bK A w as0 us):bK A w (a::as0) (v::us):=by
 refine⟨by simp[hs.1],fun j x y h1 h2=> ?_⟩
 cases j with
 |zero=>simp at h1 h2;subst h1 h2;exact h
 |succ j=>exact hs.2 j x y (by simpa using h1) (by simpa using h2)
def bK.head(h:bK A w (a::as0) us):∃v us',us=v::us'/\Rel A w a v/\bK A w as0 us':=by
 match us,h with
 |[],h=>exact cQ h.1 (by simp)
 |v::us',h=>exact⟨v,us',rfl,h.2 0 a v rfl rfl,by simpa using h.1,fun j x y h1 h2=>h.2 (j+1) x y (by simpa using h1) (by simpa using h2)⟩
def bK.app(h:bK A w as0 us)(h':bK A w bs vs):bK A w (as0++bs) (us++vs):=by
 refine⟨by simp[h.1,h'.1],fun j x y h1 h2=> ?_⟩
 rw[yX]at h1 h2
 rw[h.1]at h2
 split at h1
 ·rw[bw (by assumption)]at h2;exact h.2 j x y h1 h2
 ·rw[bF (by assumption)]at h2;exact h'.2 _ x y h1 h2
def bK.take(n:Nat)(h:bK A w as0 us):bK A w (as0.take n) (us.take n):=by
 refine⟨by simp[h.1],fun j x y h1 h2=> ?_⟩
 rw[yz]at h1 h2
 split at h1
 ·rw[bw (by assumption)]at h2;exact h.2 j x y h1 h2
 ·cases h1
def bK.drop(n:Nat)(h:bK A w as0 us):bK A w (as0.drop n) (us.drop n):=by
 refine⟨by simp[h.1],fun j x y h1 h2=> ?_⟩
 rw[yw]at h1 h2
 exact h.2 _ x y h1 h2
def bK.get(h:bK A w as0 us){j:Nat}(hj:as0[j]? =V a):∃v,us[j]? =V v/\Rel A w a v:=by
 have hlt:j<us.length:=by rw[h.1];exact(zX.1 hj).1
 exact⟨us[j],zk hlt,h.2 j a _ hj (zk hlt)⟩
def bK.lits(us:List Value):bK A w (us.map .lit) us:=⟨by simp,fun j a v h1 h2=>by
 rw[zY,h2]at h1
 cases h1
 exact .lit v⟩
def Rel.ny{cs:List AV}(h:bK A w cs us):Rel A w (.agg cs) (.agg us.toArray):= .agg cs us h.1 h.2
def Rel.FL{cs:List AV}(h:bK A w cs us):Rel A w (.jB cs) (.tuple us.toArray):= .jB cs us h.1 h.2
end
section
variable {A:Nat->Prop} {w:World} {v:Value} {cs:List AV}
def Rel.mN(h:Rel A w (.agg cs) v):∃us:List Value,v= .agg us.toArray/\bK A w cs us:=by
 generalize ha:cc.agg cs=a at h
 cases h with
 |agg cs us hl hr=>cases ha;exact⟨us,rfl,hl,hr⟩
 |_=>cases ha
def Rel.P9(h:Rel A w (.jB cs) v):∃us:List Value,v= .tuple us.toArray/\bK A w cs us:=by
 generalize ha:cc.jB cs=a at h
 cases h with
 |jB cs us hl hr=>cases ha;exact⟨us,rfl,hl,hr⟩
 |_=>cases ha
def Rel.ZY{f:Fn}(h:Rel A w (.fn f cs) v):∃us:List Value,v= .func f #[] us.toArray/\bK A w cs us:=by
 generalize ha:cc.fn f cs=a at h
 cases h with
 |fn f cs us hl hr=>cases ha;exact⟨us,rfl,hl,hr⟩
 |_=>cases ha
def Rel.EY(h:Rel A w (.fp cs) v):∃b o us,v= .pointer (V ⟨b,o,O⟩)/\b<w.heap.size/\A b/\(∀(j:Nat) u,us[j]? =V u->w.cell? ⟨b,o+j,O⟩=V u)/\bK A w cs us:=by
 generalize ha:cc.fp cs=a at h
 cases h with
 |fp cs b o us hb hA hl hc hr=>cases ha;exact⟨b,o,us,rfl,hb,hA,hc,hl,hr⟩
 |_=>cases ha
def Rel.Gy{u:Value}{k:Nat}(h:Rel A w (.rp u k) v):∃g,gO u=V g/\v= .pointer (V ⟨g,k,O⟩):=by
 generalize ha:cc.rp u k=a at h
 cases h with
 |rp u k g h=>cases ha;exact⟨g,h,rfl⟩
 |_=>cases ha
def Rel.vP{q:Nat}{l:List (U.dw q)}(h:Rel A w (.sl q l) v):∃p cap,∃u:Nat->Nat->Value,v= .slice p l.length cap/\l.length<=9223372036854775807/\l.length<=cap/\(∀i,i<l.length->(U.cells q l[i]!).length=(U.sz q))/\
  (∀i,i<l.length->∃b off,p=V ⟨b,off,O⟩/\b<w.heap.size/\A b/\∀j,j<(U.sz q)->w.cell? ⟨b,off+i*(U.sz q)+j,O⟩=V (u i j))/\∀i j a,i<l.length->(U.cells q l[i]!)[j]? =V a->Rel A w a (u i j):=by
 generalize ha:cc.sl q l=a at h
 cases h with
 |sl q l p cap u hl hcap hz hc hr=>
  cases ha
  exact⟨p,cap,u,rfl,hl,hcap,hz,hc,hr⟩
 |_=>cases ha
def Rel.aw1{q:Nat}{l:List (U.dw q)}{p:Option Addr}{n cap:Nat}(h:Rel A w (.sl q l) (.slice p n cap)){i:Nat}(hi:i<l.length):
  ∃b off us,p=V ⟨b,off,O⟩/\b<w.heap.size/\A b/\us.length=(U.sz q)/\(∀(j:Nat) u,us[j]? =V u->w.cell? ⟨b,off+i*(U.sz q)+j,O⟩=V u)/\bK A w (U.cells q l[i]!) us:=by
 obtain⟨p',cap',u,hv,_,_,h1,h2,h3⟩:=h.vP
 cases hv
 obtain⟨b,off,hp,hb,hA,hc⟩:=h2 i hi
 refine⟨b,off,(zH (U.sz q)).map (u i),hp,hb,hA,by simp,fun j v hj=> ?_,by rw[zK,xb,h1 i hi],fun j a v ha hv=> ?_⟩
 ·rw[zY]at hj
  by_cases hlt:j<(U.sz q)
  ·rw[List.getElem?_range hlt]at hj
   cases hj
   exact hc j hlt
  ·rw[wh (by simpa using hlt)]at hj
   cases hj
 ·have hlt:j<(U.sz q):=by rw[<-h1 i hi];exact(zX.1 ha).1
  rw[zY,List.getElem?_range hlt]at hv
  cases hv
  exact h3 i j a hi ha
end
def iq.len{w:World}{v:Value}{T:TypeId}{sz n:Nat}{us:List Value}(h:iq w v T sz n us):∃p cap,v= .slice p n cap/\n<=cap:=by
 rcases h.2 with ⟨p,rfl,rfl⟩|⟨g,cap,cur,rfl,hg,h1,_⟩
 ·exact⟨p,0,rfl,zD _⟩
 ·exact⟨_,_,rfl,h1⟩
def iq.at{w:World}{v:Value}{T:TypeId}{sz n:Nat}{us:List Value}(h:iq w v T sz n us)(hn:0<n):∃g cap cur,v= .slice (V ⟨g,0,O⟩) n (cap+1)/\gO v=V g/\Blk w g cur T/\n<=cap+1/\cap+1<=maxLen/\cur.size=(cap+1)*sz/\cur.toList.take (n*sz)=us:=by
 rcases h.2 with ⟨p,rfl,rfl⟩|⟨g,cap,cur,rfl,hg,h1⟩
 ·cases hn
 ·exact⟨g,cap,cur,rfl,rfl,hg,h1⟩
def iq.cells{w:World}{v:Value}{T:TypeId}{sz n:Nat}{us:List Value}(h:iq w v T sz n us){g:Nat}(hg:gO v=V g):∀(j:Nat) u,us[j]? =V u->w.cell? ⟨g,j,O⟩=V u:=fun j u hj=>by
 rcases h.2 with ⟨p,rfl,rfl⟩|⟨g',cap,cur,rfl,q1,_,_,_,q2⟩
 ·cases p<;>cases hg
 ·cases hg
  rw[<-q2,yz]at hj
  split at hj
  ·exact Blk.cell q1 (by simpa using hj)
  ·cases hj
def Env.Ls(E:Env):List Operand->Option (List AV)
 |[]=>V []
 |x::xs=>match E.ev x,Env.Ls E xs with
  |some a,V as0=>V (a::as0)
  |_,_=>O
def Env.Hv{A:Nat->Prop}{w:World}{E:Env}{ρ:Operand->Value}(h:MP A w E ρ):∀{xs:List Operand} {as0:List AV},E.Ls xs=V as0->bK A w as0 (xs.map ρ)
 |[],as0,he=>by cases he;exact bK.nil
 |x::xs,as0,he=>by
  unfold Env.Ls at he
  cases h1:E.ev x with
  |none=>rw[h1]at he;cases he
  |some a=>
   cases h2:E.Ls xs with
   |none=>rw[h1,h2]at he;cases he
   |some as'=>
    rw[h1,h2]at he
    cases he
    exact bK.cons (h x a h1) (Env.Hv h h2)
section
variable {P:Program} {E:Env} {σ:List cH} {o:Oper} {T T' e:TypeId} {x y z:Operand} {av bv:AV} {v u:Value} {m n:Int} {b:Bool} {k:IntKind}
def Yp.lits(h:∀ρ:Operand->Value,(∀x u,E.ev x=V (.lit u)->ρ x=u)->∀w,(execOp ρ o).run P w= .ok (.value v) w):Yp P E σ o (.lit v):=fun A w ρ _ hρ=>
 ⟨v, .lit v,fun w' _=>h ρ (fun x u hx=>(hρ x _ hx).cK) w'⟩
def Yp.move(ho:o.op= .move x)(hx:E.ev x=V av):Yp P E σ o av:=fun A w ρ _ hρ=>
 ⟨ρ x,hρ _ _ hx,fun w' _=>by simp[execOp,ho]⟩
def Yp.assign(ho:o.op= .assign x)(hx:E.ev x=V av):Yp P E σ o av:=fun A w ρ _ hρ=>
 ⟨ρ x,hρ _ _ hx,fun w' _=>by simp[execOp,ho]⟩
def Yp.auY(ho:o.op= .pick z x y)(hc:E.ev z=V (.b wO))(hx:E.ev x=V av):Yp P E σ o av:=fun A w ρ _ hρ=>
 ⟨ρ x,hρ _ _ hx,fun w' _=>by simp[execOp,ho,(hρ _ _ hc).cK,asBool]⟩
def Yp.arT(ho:o.op= .pick z x y)(hc:E.ev z=V (.b wN))(hx:E.ev y=V av):Yp P E σ o av:=fun A w ρ _ hρ=>
 ⟨ρ y,hρ _ _ hx,fun w' _=>by simp[execOp,ho,(hρ _ _ hc).cK,asBool]⟩
def Yp.add(ho:o.op= .binOp .add T x y T')(hx:E.ev x=V (.n k m))(hy:E.ev y=V (.n k n)):Yp P E σ o (.n k (k.wrap (m+n))):=Yp.lits fun ρ hρ w=>by
 simp[execOp,ho,hρ _ _ hx,hρ _ _ hy,eqGuard,binOp,Op.intArith]
def Yp.sub(ho:o.op= .binOp .sub T x y T')(hx:E.ev x=V (.n k m))(hy:E.ev y=V (.n k n)):Yp P E σ o (.n k (k.wrap (m-n))):=Yp.lits fun ρ hρ w=>by
 simp[execOp,ho,hρ _ _ hx,hρ _ _ hy,eqGuard,binOp,Op.intArith]
def Yp.mul(ho:o.op= .binOp .mul T x y T')(hx:E.ev x=V (.n k m))(hy:E.ev y=V (.n k n)):Yp P E σ o (.n k (k.wrap (m*n))):=Yp.lits fun ρ hρ w=>by
 simp[execOp,ho,hρ _ _ hx,hρ _ _ hy,eqGuard,binOp,Op.intArith]
def Yp.quo(ho:o.op= .binOp .quo T x y T')(hx:E.ev x=V (.n k m))(hy:E.ev y=V (.n k n))(h:n≠0):Yp P E σ o (.n k (k.wrap (m.tdiv n))):=Yp.lits fun ρ hρ w=>by
 simp[execOp,ho,hρ _ _ hx,hρ _ _ hy,eqGuard,binOp,Op.intDiv,h]
def Yp.rem(ho:o.op= .binOp .rem T x y T')(hx:E.ev x=V (.n k m))(hy:E.ev y=V (.n k n))(h:n≠0):Yp P E σ o (.n k (m.tmod n)):=Yp.lits fun ρ hρ w=>by
 simp[execOp,ho,hρ _ _ hx,hρ _ _ hy,eqGuard,binOp,Op.intDiv,h]
def Yp.and(ho:o.op= .binOp .and T x y T')(hx:E.ev x=V (.n k m))(hy:E.ev y=V (.n k n)):Yp P E σ o (.n k (uA k m n)):=Yp.lits fun ρ hρ w=>by
 simp[execOp,ho,hρ _ _ hx,hρ _ _ hy,eqGuard,binOp,Op.intBits,uA]
def Yp.or(ho:o.op= .binOp .or T x y T')(hx:E.ev x=V (.n k m))(hy:E.ev y=V (.n k n)):Yp P E σ o (.n k (bOr k m n)):=Yp.lits fun ρ hρ w=>by
 simp[execOp,ho,hρ _ _ hx,hρ _ _ hy,eqGuard,binOp,Op.intBits,bOr]
def Yp.xor(ho:o.op= .binOp .xor T x y T')(hx:E.ev x=V (.n k m))(hy:E.ev y=V (.n k n)):Yp P E σ o (.n k (aoN k m n)):=Yp.lits fun ρ hρ w=>by
 simp[execOp,ho,hρ _ _ hx,hρ _ _ hy,eqGuard,binOp,Op.intBits,aoN]
def Yp.andNot(ho:o.op= .binOp .andNot T x y T')(hx:E.ev x=V (.n k m))(hy:E.ev y=V (.n k n)):Yp P E σ o (.n k (amd k m n)):=Yp.lits fun ρ hρ w=>by
 simp[execOp,ho,hρ _ _ hx,hρ _ _ hy,eqGuard,binOp,Op.intBits,amd]
def Yp.shl{k':IntKind}(ho:o.op= .binOp .shl T x y T')(hx:E.ev x=V (.n k m))(hy:E.ev y=V (.n k' n))(h:0<=n):Yp P E σ o (.n k (mO k m n)):=Yp.lits fun ρ hρ w=>by
 have:¬n<0:=by omega
 simp[execOp,ho,hρ _ _ hx,hρ _ _ hy,eqGuard,binOp,Op.shift,mO,this]
def Yp.shr{k':IntKind}(ho:o.op= .binOp .shr T x y T')(hx:E.ev x=V (.n k m))(hy:E.ev y=V (.n k' n))(h:0<=n):Yp P E σ o (.n k (cW k m n)):=Yp.lits fun ρ hρ w=>by
 have:¬n<0:=by omega
 simp[execOp,ho,hρ _ _ hx,hρ _ _ hy,eqGuard,binOp,Op.shift,cW,this]
def Yp.lss(ho:o.op= .binOp .lss T x y T')(hx:E.ev x=V (.n k m))(hy:E.ev y=V (.n k n)):Yp P E σ o (.b (wP (m<n))):=Yp.lits fun ρ hρ w=>by
 simp[execOp,ho,hρ _ _ hx,hρ _ _ hy,eqGuard,binOp,Op.intCmp]
def Yp.leq(ho:o.op= .binOp .leq T x y T')(hx:E.ev x=V (.n k m))(hy:E.ev y=V (.n k n)):Yp P E σ o (.b (wP (m<=n))):=Yp.lits fun ρ hρ w=>by
 simp[execOp,ho,hρ _ _ hx,hρ _ _ hy,eqGuard,binOp,Op.intCmp]
def Yp.gtr(ho:o.op= .binOp .gtr T x y T')(hx:E.ev x=V (.n k m))(hy:E.ev y=V (.n k n)):Yp P E σ o (.b (wP (n<m))):=Yp.lits fun ρ hρ w=>by
 simp[execOp,ho,hρ _ _ hx,hρ _ _ hy,eqGuard,binOp,Op.intCmp]
def Yp.geq(ho:o.op= .binOp .geq T x y T')(hx:E.ev x=V (.n k m))(hy:E.ev y=V (.n k n)):Yp P E σ o (.b (wP (n<=m))):=Yp.lits fun ρ hρ w=>by
 simp[execOp,ho,hρ _ _ hx,hρ _ _ hy,eqGuard,binOp,Op.intCmp]
def Yp.eql(ho:o.op= .binOp .eql T x y T')(hx:E.ev x=V (.n k m))(hy:E.ev y=V (.n k n)):Yp P E σ o (.b (wP (m=n))):=Yp.lits fun ρ hρ w=>by
 have:(m==n)=wP (m=n):=rfl
 simp[execOp,ho,hρ _ _ hx,hρ _ _ hy,eqGuard,binOp,Op.intCmp,this]
def Yp.neq(ho:o.op= .binOp .neq T x y T')(hx:E.ev x=V (.n k m))(hy:E.ev y=V (.n k n)):Yp P E σ o (.b (!wP (m=n))):=Yp.lits fun ρ hρ w=>by
 have:(m !=n)= !wP (m=n):=rfl
 simp[execOp,ho,hρ _ _ hx,hρ _ _ hy,eqGuard,binOp,Op.intCmp,this]
def Yp.not(ho:o.op= .unOp .not T x)(hx:E.ev x=V (.b b)):Yp P E σ o (.b (!b)):=Yp.lits fun ρ hρ w=>by
 simp[execOp,ho,hρ _ _ hx,Op.unary]
def Yp.neg(ho:o.op= .unOp .neg T x)(hx:E.ev x=V (.n k n)):Yp P E σ o (.n k (k.wrap (0-n))):=Yp.lits fun ρ hρ w=>by
 simp[execOp,ho,hρ _ _ hx,Op.unary,Op.intArith]
def Yp.max(ho:o.op= .call {callee:= .builtin .max,args:=#[x,y],argTypes:=#[T,T']})(hx:E.ev x=V (.n k m))(hy:E.ev y=V (.n k n)):Yp P E σ o (.n k (if m<n then n else m)):=Yp.lits fun ρ hρ w=>by
 simp[execOp,ho,resolve,invoke,builtin,Builtin.max_,Builtin.max2,hρ _ _ hx,hρ _ _ hy]
def Yp.min(ho:o.op= .call {callee:= .builtin .min,args:=#[x,y],argTypes:=#[T,T']})(hx:E.ev x=V (.n k m))(hy:E.ev y=V (.n k n)):Yp P E σ o (.n k (if n<m then n else m)):=Yp.lits fun ρ hρ w=>by
 simp[execOp,ho,resolve,invoke,builtin,Builtin.min_,Builtin.min2,hρ _ _ hx,hρ _ _ hy]
def Yp.anM(ho:o.op= .call {callee:= .builtin .len,args:=#[x],argTypes:=#[T]})(hx:E.ev x=V (.lit (.slice O 0 0)))(hT:P.underlying T=V (.slice e)):Yp P E σ o (.i 0):=Yp.lits fun ρ hρ w=>by
 simp[execOp,ho,resolve,invoke,builtin,Builtin.len_,hρ _ _ hx,run_underlying hT,goInt]
def Yp.avw{q:Nat}{l:List (U.dw q)}(ho:o.op= .call {callee:= .builtin .len,args:=#[x],argTypes:=#[T]})(hx:E.ev x=V (.sl q l))(hT:P.underlying T=V (.slice e)):Yp P E σ o (.i (l.length:Int)):=fun A w ρ _ hρ=>by
 obtain⟨p,cap,u,hv,_⟩:=(hρ _ _ hx).vP
 exact⟨_, .lit _,fun w' _=>by simp[execOp,ho,resolve,invoke,builtin,Builtin.len_,hv,run_underlying hT,goInt]⟩
def Yp.anJ{q:Nat}{l:List (U.dw q)}(i:Nat)(ho:o.op= .call {callee:= .builtin .len,args:=#[x],argTypes:=#[T]})(hx:E.ev x=V (.lit v))(hσ:σ[i]? =V (.row v q l))(hT:P.underlying T=V (.slice e)):Yp P E σ o (.i (l.length:Int)):=fun A w ρ hd hρ=>by
 obtain⟨us,h1,_⟩:=hd.1 _ (List.mem_of_getElem? hσ)
 obtain⟨p,cap,hv,_⟩:=h1.len
 have hx':=(hρ _ _ hx).cK
 exact⟨_, .lit _,fun w' _=>by simp[execOp,ho,resolve,invoke,builtin,Builtin.len_,hx',hv,run_underlying hT,goInt]⟩
def Yp.aoG{s:ByteArray}(ho:o.op= .call {callee:= .builtin .len,args:=#[x],argTypes:=#[T]})(hx:E.ev x=V (.s s))(hT:P.underlying T=V .string):Yp P E σ o (.i (s.size:Int)):=Yp.lits fun ρ hρ w=>by
 simp[execOp,ho,resolve,invoke,builtin,Builtin.len_,hρ _ _ hx,goInt,run_underlying hT]
def Yp.func{fn:Fn}{fs cs:Array Operand}{as0:List AV}(ho:o.op= .makeFunc fn fs cs)(h0:fs=#[])(hc:E.Ls cs.toList=V as0):Yp P E σ o (.fn fn as0):=fun A w ρ _ hρ=>by
 have h:=Env.Hv hρ hc
 exact⟨_, .fn fn as0 _ h.1 h.2,fun w' _=>by
  have:cs.map ρ=(cs.toList.map ρ).toArray:=by apply Array.ext';simp
  simp[execOp,ho,Instr.makeFunc,h0,this]⟩
def Yp.extract{i:Nat}{cs:List AV}(ho:o.op= .extract x i)(hx:E.ev x=V (.jB cs))(hv:cs[i]? =V av):Yp P E σ o av:=fun A w ρ _ hρ=>by
 obtain⟨us,h1,h2⟩:=(hρ _ _ hx).P9
 obtain⟨v,h3,h4⟩:=h2.get hv
 exact⟨v,h4,fun w' _=>by simp[execOp,ho,Instr.extract,h1,h3]⟩
def Yp.UE{a:Addr}(ho:o.op= .nilCheck x)(hx:E.ev x=V (.lit (.pointer (V a)))):Yp P E σ o (.lit (.pointer (V a))):=Yp.lits fun ρ hρ w=>by
 simp[execOp,ho,hρ _ _ hx]
def Yp.Vc{cs:List AV}(ho:o.op= .nilCheck x)(hx:E.ev x=V (.fp cs)):Yp P E σ o (.fp cs):=fun A w ρ _ hρ=>by
 obtain⟨b,of,us,h1,_⟩:=(hρ _ _ hx).EY
 exact⟨ρ x,hρ _ _ hx,fun w' _=>by simp[execOp,ho,h1]⟩
def Yp.TW{k:Nat}(ho:o.op= .nilCheck x)(hx:E.ev x=V (.rp v k)):Yp P E σ o (.rp v k):=fun A w ρ _ hρ=>by
 obtain⟨g,_,h1⟩:=(hρ _ _ hx).Gy
 exact⟨ρ x,hρ _ _ hx,fun w' _=>by simp[execOp,ho,h1]⟩
def rf(b of k:Nat):(⟨b,of,O⟩:Addr).add k=⟨b,of+k,O⟩:=by unfold Addr.add;split<;>simp_all
def Yp.aoi{fs:Array Field}{f:Field}{i b' of sz:Nat}(ho:o.op= .fieldAddr T x i)(hx:E.ev x=V (.lit (.pointer (V ⟨b',of,O⟩))))(hT:P.underlying T=V (.struct fs))(hf:fs[i]? =V f)(hs:(P.info? f.type).map (·.size)=V (sz+1)):
  Yp P E σ o (.lit (.pointer (V ⟨b',of+f.offset,O⟩))):=Yp.lits fun ρ hρ w=>by
 obtain⟨j,hj,hj'⟩:=zj.1 hs
 simp[execOp,ho,Instr.fieldAt,hρ _ _ hx,run_underlying hT,hf,Instr.sureAddr,fieldPlace,sizeOf,typeInfo,hj,hj',rf]
def Yp.ant{fs:Array Field}{f:Field}{i sz:Nat}{cs:List AV}(ho:o.op= .fieldAddr T x i)(hx:E.ev x=V (.fp cs))(hT:P.underlying T=V (.struct fs))(hf:fs[i]? =V f)(hs:(P.info? f.type).map (·.size)=V (sz+1)):
  Yp P E σ o (.fp (cs.drop f.offset)):=fun A w ρ _ hρ=>by
 obtain⟨j,hj,hj'⟩:=zj.1 hs
 obtain⟨b,of,us,h1,hb,hA,hc,hr⟩:=(hρ _ _ hx).EY
 refine⟨_, .fp _ b (of+f.offset) (us.drop f.offset) hb hA (hr.drop _).1 (fun j v hj=> ?_) (hr.drop _).2,fun w' _=>by simp[execOp,ho,Instr.fieldAt,h1,run_underlying hT,hf,Instr.sureAddr,fieldPlace,sizeOf,typeInfo,hj,hj',rf]⟩
 rw[yw]at hj
 rw[xQ]
 exact hc _ v hj
def Yp.anq{fs:Array Field}{f:Field}{i sz k:Nat}(ho:o.op= .fieldAddr T x i)(hx:E.ev x=V (.rp v k))(hT:P.underlying T=V (.struct fs))(hf:fs[i]? =V f)(hs:(P.info? f.type).map (·.size)=V (sz+1)):
  Yp P E σ o (.rp v (k+f.offset)):=fun A w ρ _ hρ=>by
 obtain⟨j,hj,hj'⟩:=zj.1 hs
 obtain⟨g,h1,h2⟩:=(hρ _ _ hx).Gy
 exact⟨_, .rp v _ g h1,fun w' _=>by simp[execOp,ho,Instr.fieldAt,h2,run_underlying hT,hf,Instr.sureAddr,fieldPlace,sizeOf,typeInfo,hj,hj',rf]⟩
def Yp.afq{q:Nat}{l:List (U.dw q)}(ho:o.op= .indexAddr T x y)(hx:E.ev x=V (.sl q l))(hy:E.ev y=V (.n k m))(hT:P.underlying T=V (.slice e))(hs:(P.info? e).map (·.size)=V (U.sz q))
  (hm:0<=m/\m<l.length):Yp P E σ o (.fp (U.cells q l[m.toNat]!)):=fun A w ρ _ hρ=>by
 obtain⟨j,hj,hj'⟩:=zj.1 hs
 have hr:=hρ _ _ hx
 obtain⟨p,cap,_,hv,_⟩:=hr.vP
 rw[hv]at hr
 obtain⟨b,off,us,hp,hb,hA,hl,hc,hL⟩:=hr.aw1 (i:=m.toNat) (by omega)
 refine⟨_, .fp _ b (off+m.toNat*(U.sz q)) us hb hA hL.1 hc hL.2,fun w' _=> ?_⟩
 have hy':=(hρ _ _ hy).cK
 simp[execOp,ho,Instr.indexAt,hv,hp,hy',run_underlying hT,sizeOf,typeInfo,hj,hj',rf,asIntOf,hm]
def Yp.Zd{q:Nat}{l:List (U.dw q)}(i:Nat)(ho:o.op= .indexAddr T x y)(hx:E.ev x=V (.lit v))(hσ:σ[i]? =V (.row v q l))(hy:E.ev y=V (.n k m))(hT:P.underlying T=V (.slice e))(hs:(P.info? e).map (·.size)=V (U.sz q))
  (hm:0<=m/\m<l.length):Yp P E σ o (.rp v (m.toNat*(U.sz q))):=fun A w ρ hd hρ=>by
 obtain⟨j,hj,hj'⟩:=zj.1 hs
 obtain⟨us,h1,_⟩:=hd.1 _ (List.mem_of_getElem? hσ)
 obtain⟨g,cap,cur,hv,hg,_⟩:=h1.at (by omega)
 have hx':=(hρ _ _ hx).cK
 have hy':=(hρ _ _ hy).cK
 refine⟨_, .rp v _ g hg,fun w' _=> ?_⟩
 simp[execOp,ho,Instr.indexAt,hx',hv,hy',run_underlying hT,sizeOf,typeInfo,hj,hj',rf,asIntOf,hm]
def Yp.aop{b' of sz n':Nat}(ho:o.op= .indexAddr T x y)(hx:E.ev x=V (.lit (.pointer (V ⟨b',of,O⟩))))(hy:E.ev y=V (.n k m))(hT:P.underlying T=V (.array n' e))(hs:(P.info? e).map (·.size)=V sz)
  (hm:0<=m/\m<n'):Yp P E σ o (.lit (.pointer (V ⟨b',of+m.toNat*sz,O⟩))):=Yp.lits fun ρ hρ w=>by
 obtain⟨j,hj,hj'⟩:=zj.1 hs
 simp[execOp,ho,Instr.indexAt,hρ _ _ hx,hρ _ _ hy,run_underlying hT,sizeOf,typeInfo,hj,hj',rf,asIntOf,hm,Instr.sureAddr]
def Yp.an5{k' sz n':Nat}(ho:o.op= .indexAddr T x y)(hx:E.ev x=V (.rp v k'))(hy:E.ev y=V (.n k m))(hT:P.underlying T=V (.array n' e))(hs:(P.info? e).map (·.size)=V sz)
  (hm:0<=m/\m<n'):Yp P E σ o (.rp v (k'+m.toNat*sz)):=fun A w ρ _ hρ=>by
 obtain⟨j,hj,hj'⟩:=zj.1 hs
 obtain⟨g,h1,h2⟩:=(hρ _ _ hx).Gy
 have hy':=(hρ _ _ hy).cK
 exact⟨_, .rp v _ g h1,fun w' _=>by simp[execOp,ho,Instr.indexAt,h2,hy',run_underlying hT,sizeOf,typeInfo,hj,hj',rf,asIntOf,hm,Instr.sureAddr]⟩
def Yp.aj4{sz n':Nat}{cs:List AV}(ho:o.op= .indexAddr T x y)(hx:E.ev x=V (.fp cs))(hy:E.ev y=V (.n k m))(hT:P.underlying T=V (.array n' e))(hs:(P.info? e).map (·.size)=V sz)
  (hm:0<=m/\m<n'):Yp P E σ o (.fp (cs.drop (m.toNat*sz))):=fun A w ρ _ hρ=>by
 obtain⟨j,hj,hj'⟩:=zj.1 hs
 obtain⟨b,of,us,h1,hb,hA,hc,hr⟩:=(hρ _ _ hx).EY
 have hy':=(hρ _ _ hy).cK
 refine⟨_, .fp _ b (of+m.toNat*sz) (us.drop (m.toNat*sz)) hb hA (hr.drop _).1 (fun j v hj=> ?_) (hr.drop _).2,fun w' _=>by simp[execOp,ho,Instr.indexAt,h1,hy',run_underlying hT,sizeOf,typeInfo,hj,hj',rf,asIntOf,hm,Instr.sureAddr]⟩
 rw[yw]at hj
 rw[xQ]
 exact hc _ v hj
def tc(P:Program)(T:TypeId):Prop:=∃d,P.underlying T=V d/\match d with| .struct _| .array _ _=>False|_=>True
def mL(h:tc P T)(w:World):(isAgg T).run P w= .ok wN w:=by
 obtain⟨d,hd,hm⟩:=h
 unfold isAgg
 cases d<;>first|exact hm.elim|simp[run_underlying hd]
def iN{w:World}{a:Addr}(h:tc P T)(hc:w.cell? a=V v):(loadVar T a).run P w= .ok v w:=by
 unfold loadVar
 simp[mL h,load,Sem.run,hc]
def tQ(P:Program)(T:TypeId)(k:Nat):Prop:=(∃d,P.underlying T=V d/\match d with| .struct _| .array _ _=>True|_=>False)/\(P.info? T).map (·.size)=V k
def En{k:Nat}(h:tQ P T k)(w:World):(isAgg T).run P w= .ok wO w:=by
 obtain⟨⟨d,hd,hm⟩,_⟩:=h
 unfold isAgg
 cases d<;>first|exact hm.elim|simp[run_underlying hd]
def run_loadCellsFrom{w:World}(a:Addr):∀(cs:List Value) (i:Nat) (acc:Array Value),(∀j u,cs[j]? =V u->w.cell? (a.add (i+j))=V u)->(loadCellsFrom a i cs.length acc).run P w= .ok (acc++cs.toArray) w
 |[],i,acc,_=>by simp[loadCellsFrom]
 |c::cs,i,acc,h=>by
  have h0:=h 0 c rfl
  rw[yf]at h0
  simp only[wj,loadCellsFrom]
  have ih:=run_loadCellsFrom a cs (i+1) (acc.push c) fun j u hj=>by
   have:=h (j+1) u (by simpa using hj)
   rwa [show i+(j+1)=i+1+j from by omega]at this
  simp[load,Sem.run,h0,ih]
def ig{w:World}{a:Addr}{cs:List Value}(h:tQ P T cs.length)(hc:∀j u,cs[j]? =V u->w.cell? (a.add j)=V u):(loadVar T a).run P w= .ok (.agg cs.toArray) w:=by
 obtain⟨i,hi,hi'⟩:=zj.1 h.2
 have:=run_loadCellsFrom (P:=P) (w:=w) a cs 0 #[] (by simpa using hc)
 unfold loadVar
 simp[En h,sizeOf,typeInfo,hi,hi',loadCells,this]
def kY{w w':World}{b o:Nat}(h:w'.heap[b]? =w.heap[b]?):w'.cell? ⟨b,o,O⟩=w.cell? ⟨b,o,O⟩:=by simp[World.cell?,h]
def Yp.an0{cs:List AV}(ho:o.op= .load T x)(hx:E.ev x=V (.fp cs))(hT:tc P T)(ha:cs[0]? =V av):Yp P E σ o av:=fun A w ρ _ hρ=>by
 obtain⟨b,of,us,h1,hb,hA,hc,hr⟩:=(hρ _ _ hx).EY
 obtain⟨v,h2,h3⟩:=hr.get ha
 refine⟨v,h3,fun w' hw=> ?_⟩
 have hcell:w'.cell? ⟨b,of,O⟩=V v:=by rw[kY (hw b hb (.inl hA))];exact hc 0 v h2
 simp[execOp,ho,Instr.loadAt,h1,Instr.sureAddr,iN hT hcell]
def Yp.ao3{cs:List AV}{n:Nat}(ho:o.op= .load T x)(hx:E.ev x=V (.fp cs))(hT:tQ P T n)(hn:n<=cs.length):Yp P E σ o (.agg (cs.take n)):=fun A w ρ _ hρ=>by
 obtain⟨b,of,us,h1,hb,hA,hc,hr⟩:=(hρ _ _ hx).EY
 refine⟨_,Rel.ny (hr.take n),fun w' hw=> ?_⟩
 have hcell:∀j u,(us.take n)[j]? =V u->w'.cell? ((⟨b,of,O⟩:Addr).add j)=V u:=fun j u hj=>by
  rw[rf,kY (hw b hb (.inl hA))]
  rw[yz]at hj
  split at hj
  ·exact hc j u hj
  ·cases hj
 have hl:(us.take n).length=n:=by rw[zZ,hr.1];omega
 simp[execOp,ho,Instr.loadAt,h1,Instr.sureAddr,ig (by rw[hl];exact hT) hcell]
def Yp.ao6{b' of:Nat}{cs:List AV}{t:TypeId}(i:Nat)(ho:o.op= .load T x)(hx:E.ev x=V (.lit (.pointer (V ⟨b',of,O⟩))))(hσ:σ[i]? =V (.box b' t cs))(hT:tc P T)(ha:cs[of]? =V av):Yp P E σ o av:=fun A w ρ hd hρ=>by
 have hm:=List.mem_of_getElem? hσ
 obtain⟨us,h1,hr⟩:=hd.1 _ hm
 obtain⟨v,h2,h3⟩:=bK.get hr ha
 have hx':=(hρ _ _ hx).cK
 refine⟨v,h3,fun w' hw=> ?_⟩
 have hcell:w'.cell? ⟨b',of,O⟩=V v:=by rw[kY (hw b' h1.lt (.inr (bR.2 ⟨_,hm,rfl⟩)))];exact h1.cell (by simpa using h2)
 simp[execOp,ho,Instr.loadAt,hx',Instr.sureAddr,iN hT hcell]
def Yp.anI{b' of n:Nat}{cs:List AV}{t:TypeId}(i:Nat)(ho:o.op= .load T x)(hx:E.ev x=V (.lit (.pointer (V ⟨b',of,O⟩))))(hσ:σ[i]? =V (.box b' t cs))(hT:tQ P T n)(hn:of+n<=cs.length):Yp P E σ o (.agg ((cs.drop of).take n)):=fun A w ρ hd hρ=>by
 have hm:=List.mem_of_getElem? hσ
 obtain⟨us,h1,hr⟩:=hd.1 _ hm
 have hx':=(hρ _ _ hx).cK
 refine⟨_,Rel.ny ((bK.drop of hr).take n),fun w' hw=> ?_⟩
 have hcell:∀j u,((us.drop of).take n)[j]? =V u->w'.cell? ((⟨b',of,O⟩:Addr).add j)=V u:=fun j u hj=>by
  rw[rf,kY (hw b' h1.lt (.inr (bR.2 ⟨_,hm,rfl⟩)))]
  rw[yz]at hj
  split at hj
  ·rw[yw]at hj
   exact h1.cell (by simpa using hj)
  ·cases hj
 have hl:((us.drop of).take n).length=n:=by rw[zZ,z8,hr.1];omega
 simp[execOp,ho,Instr.loadAt,hx',Instr.sureAddr,ig (by rw[hl];exact hT) hcell]
def Yp.Zr{k of:Nat}{q:Nat}{l:List (U.dw q)}(i m:Nat)(ho:o.op= .load T x)(hx:E.ev x=V (.rp v k))(hσ:σ[i]? =V (.row v q l))(hT:tc P T)(hk:k=m*(U.sz q)+of)(hm:m<l.length)(ha:(U.cells q l[m]!)[of]? =V av):Yp P E σ o av:=fun A w ρ hd hρ=>by
 have hmem:=List.mem_of_getElem? hσ
 obtain⟨us,h1,h2,h3⟩:=hd.1 _ hmem
 obtain⟨g,hg,hv⟩:=(hρ _ _ hx).Gy
 obtain⟨u,h4,h5⟩:=(h3 m hm).get ha
 refine⟨u,h5,fun w' hw=> ?_⟩
 rw[yz]at h4
 split at h4
 ·rw[yw]at h4
  have hcell:w'.cell? ⟨g,k,O⟩=V u:=by rw[kY (hw g (h1.lt hg) (.inr (bR.2 ⟨_,hmem,hg⟩))),hk];exact h1.cells hg _ u h4
  simp[execOp,ho,Instr.loadAt,hv,Instr.sureAddr,iN hT hcell]
 ·cases h4
def Yp.akj{k of n:Nat}{q:Nat}{l:List (U.dw q)}(i m:Nat)(ho:o.op= .load T x)(hx:E.ev x=V (.rp v k))(hσ:σ[i]? =V (.row v q l))(hT:tQ P T n)(hk:k=m*(U.sz q)+of)(hm:m<l.length)(hn:of+n<=(U.sz q)):Yp P E σ o (.agg (((U.cells q l[m]!).drop of).take n)):=fun A w ρ hd hρ=>by
 have hmem:=List.mem_of_getElem? hσ
 obtain⟨us,h1,h2,h3⟩:=hd.1 _ hmem
 obtain⟨g,hg,hv⟩:=(hρ _ _ hx).Gy
 have hL:=h3 m hm
 refine⟨_,Rel.ny ((hL.drop of).take n),fun w' hw=> ?_⟩
 have hcell:∀j u,((((us.drop (m*(U.sz q))).take (U.sz q)).drop of).take n)[j]? =V u->w'.cell? ((⟨g,k,O⟩:Addr).add j)=V u:=fun j u hj=>by
  rw[rf,kY (hw g (h1.lt hg) (.inr (bR.2 ⟨_,hmem,hg⟩))),hk]
  rw[yz]at hj
  split at hj
  ·rw[yw,yz]at hj
   split at hj
   ·rw[yw]at hj
    exact h1.cells hg _ u (by rw[xQ];exact hj)
   ·cases hj
  ·cases hj
 have hl:((((us.drop (m*(U.sz q))).take (U.sz q)).drop of).take n).length=n:=by rw[zZ,z8,hL.1,h2 m hm];omega
 simp[execOp,ho,Instr.loadAt,hv,Instr.sureAddr,ig (by rw[hl];exact hT) hcell]
end
def fB(r:cH)(σ:List cH):bH (r::σ)=r.blk.toList++bH σ:=by
 unfold bH
 rw[xd]
 cases r.blk<;>simp
def gK(σ τ:List cH):bH (σ++τ)=bH σ++bH τ:=by simp[bH]
def qj{C:Cx}{σ:List cH}{w w':World}{r:cH}(h:Good C σ w)(hk:Kp [] w w')(hr:r.blk=O\/r.blk=V w.heap.size)(hok:r.ok (al C (r::σ)) w'):Tr C [] σ w (r::σ) w':=by
 have hlt:∀b∈bH σ,b<w.heap.size:=fun b hb=>by
  obtain⟨s,h1,h2⟩:=bR.1 hb
  exact(h.res s h1).lt h2
 have hal:∀b,b<w.heap.size->al C σ b->al C (r::σ) b:=fun b hb hA=>⟨hA.1,fun hx=>by
  rw[fB]at hx
  rcases zU.1 hx with hx|hx
  ·rcases hr with hr|hr<;>rw[hr]at hx<;>simp at hx
   omega
  ·exact hA.2 hx⟩
 have hsame:∀b,b<w.heap.size->w'.heap[b]? =w.heap[b]? :=fun b hb=>hk.block b hb (by simp)
 refine⟨⟨h.kept.trans hk (by simp),fun s hs=> ?_,?_,fun b hb=> ?_⟩,hk,fun b hb hA=>⟨hal b hb hA,by simp⟩⟩
 ·rcases zy.1 hs with rfl|hs
  ·exact hok
  ·exact(h.res s hs).mono (fun b hb hA=>⟨hal b hb hA,hsame b hb⟩) (fun b hb=>hsame b ((h.res s hs).lt hb))
 ·rw[fB]
  rcases hr with hr|hr
  ·rw[hr];simpa using h.F8
  ·rw[hr]
   simp only[xu,xw,yg,List.nodup_cons]
   exact⟨fun hx=>by have:=hlt _ hx;omega,h.F8⟩
 ·rw[fB]at hb
  rcases zU.1 hb with hx|hx
  ·rcases hr with hr|hr<;>rw[hr]at hx<;>simp at hx
   exact .inr (by rw[hx];exact h.kept.size)
  ·exact h.own b hx
def A9{σ:List cH}{i:Nat}{r r':cH}(h:σ[i]? =V r):σ=σ.take i++r::σ.drop (i+1)/\σ.set i r'=σ.take i++r'::σ.drop (i+1):=by
 obtain⟨hi,hr⟩:=zX.1 h
 refine⟨?_,wA .. |>.trans (by rw[bw hi])⟩
 rw[<-hr,<-xR hi,xe]
def Fq{σ:List cH}{i:Nat}{r r':cH}(h:σ[i]? =V r)(hb:r'.blk=r.blk):bH (σ.set i r')=bH σ:=by
 obtain⟨q1,q2⟩:=A9 (r':=r') h
 have e:bH σ=bH (σ.take i++r::σ.drop (i+1)):=congrArg bH q1
 rw[q2,e]
 simp[gK,fB,hb]
def Fl{C:Cx}{σ:List cH}{w w':World}{r r':cH}{i:Nat}(h:Good C σ w)(hi:σ[i]? =V r)(hk:Kp r.blk.toList w w')(hr:r'.blk=r.blk\/r'.blk=V w.heap.size)(hok:r'.ok (al C (σ.set i r')) w'):Tr C r.blk.toList σ w (σ.set i r') w':=by
 obtain⟨h1,h2⟩:=A9 (r':=r') hi
 generalize σ.take i=σ1 at h1 h2
 generalize σ.drop (i+1)=σ2 at h1 h2
 rw[h2]at hok ⊢
 clear h2 hi
 subst h1
 have hlt:∀b∈bH (σ1++r::σ2),b<w.heap.size:=fun b hb=>by
  obtain⟨s,h1,h2⟩:=bR.1 hb
  exact(h.res s h1).lt h2
 have hb0:bH (σ1++r::σ2)=bH σ1++(r.blk.toList++bH σ2):=by rw[gK,fB]
 have hb1:bH (σ1++r'::σ2)=bH σ1++(r'.blk.toList++bH σ2):=by rw[gK,fB]
 have hmem:∀b,b∈bH (σ1++r'::σ2)->b∈bH (σ1++r::σ2)\/b=w.heap.size:=fun b hb=>by
  rw[hb1]at hb
  rw[hb0]
  simp only[zU]at hb ⊢
  rcases hb with hb|hb|hb
  ·exact .inl (.inl hb)
  ·rcases hr with hr|hr<;>rw[hr]at hb
   ·exact .inl (.inr (.inl hb))
   ·simp at hb;exact .inr hb
  ·exact .inl (.inr (.inr hb))
 have hal:∀b,b<w.heap.size->al C (σ1++r::σ2) b->al C (σ1++r'::σ2) b:=fun b hb hA=>⟨hA.1,fun hx=>by
  rcases hmem b hx with h|h
  ·exact hA.2 h
  ·omega⟩
 have hnr:∀b,al C (σ1++r::σ2) b->b∉r.blk.toList:=fun b hA hx=>hA.2 (by rw[hb0];simp[zU,hx])
 have hother:∀s,s∈σ1\/s∈σ2->∀b,s.blk=V b->b∉r.blk.toList:=fun s hs b hb hx=>by
  have hd:=h.F8
  rw[hb0]at hd
  rcases hs with hs|hs
  ·exact(yE.1 hd).2.2 b (bR.2 ⟨s,hs,hb⟩) b (yA _ hx) rfl
  ·exact(yE.1 (yE.1 hd).2.1).2.2 b hx b (bR.2 ⟨s,hs,hb⟩) rfl
 refine⟨⟨h.kept.trans hk (fun b hb hlt0=> ?_),fun s hs=> ?_,?_,fun b hb=> ?_⟩,hk,fun b hb hA=>⟨hal b hb hA,hnr b hA⟩⟩
 ·have:b∈bH (σ1++r::σ2):=by rw[hb0];simp[zU,hb]
  rcases h.own b this with h|h
  ·exact h
  ·omega
 ·have hs':s=r'\/s∈σ1\/s∈σ2:=by
   simp only[zU,zy]at hs
   rcases hs with h|h|h
   ·exact .inr (.inl h)
   ·exact .inl h
   ·exact .inr (.inr h)
  rcases hs' with rfl|hs'
  ·exact hok
  ·have hm:s∈σ1++r::σ2:=by rcases hs' with h|h<;>simp[h]
   exact(h.res s hm).mono (fun b hb hA=>⟨hal b hb hA,hk.block b hb (hnr b hA)⟩) (fun b hb=>hk.block b ((h.res s hm).lt hb) (hother s hs' b hb))
 ·have hd:=h.F8
  rcases hr with hr|hr
  ·rw[hb1,hr,<-hb0];exact hd
  ·rw[hb1,hr]
   rw[hb0]at hd
   have hn1:w.heap.size∉bH σ1:=fun hx=>by have:=hlt w.heap.size (by rw[hb0];simp[zU,hx]);omega
   have hn2:w.heap.size∉bH σ2:=fun hx=>by have:=hlt w.heap.size (by rw[hb0];simp[zU,hx]);omega
   obtain⟨d1,d2,d3⟩:=yE.1 hd
   obtain⟨d4,d5,d6⟩:=yE.1 d2
   refine yE.2 ⟨d1,?_,fun a ha b hb hab=> ?_⟩
   ·simp only[xu,xw,yg,List.nodup_cons]
    exact⟨hn2,d5⟩
   ·subst hab
    simp only[xu,xw,yg,zy]at hb
    rcases hb with rfl|hb
    ·exact hn1 ha
    ·exact d3 a ha a (yB _ hb) rfl
 ·rcases hmem b hb with h1|h1
  ·exact h.own b h1
  ·exact .inr (by rw[h1];exact h.kept.size)
def anx{C:Cx}{σ:List cH}{w:World}{r:cH}(h:r.blk=O\/r.blk=V w.heap.size):∀b,b<w.heap.size->al C σ b->al C (r::σ) b:=fun b hb hA=>⟨hA.1,fun hx=>by
 rw[fB]at hx
 rcases zU.1 hx with hx|hx
 ·rcases h with h|h<;>rw[h]at hx<;>simp at hx
  omega
 ·exact hA.2 hx⟩
def j4(w:World)(x:Obj):Kp [] w (w.alloc x):=⟨rfl,rfl,rfl,by simp,fun k hk _=>heap_alloc_old w x hk⟩
def Gs(w:World)(x:Obj):Kp [] w (w.drew.alloc x):=⟨rfl,rfl,rfl,by simp,fun k hk _=>heap_alloc_old w.drew x hk⟩
def LV{C:Cx}{σ:List cH}{w w':World}{r:cH}{as0:List AV}{us:List Value}(hr:bK (al C σ) w as0 us)(h:r.blk=O\/r.blk=V w.heap.size)(hk:Kp [] w w'):bK (al C (r::σ)) w' as0 us:=
 hr.mono fun b hb hA=>⟨anx h b hb hA,hk.block b hb (by simp)⟩
def dQ:AV->List AV
 | .agg cs=>cs
 |a=>[a]
def iA:AV->Bool
 | .lit v=>v.oneCell'
 | .jB _=>wN
 | .agg _=>wN
 |_=>wO
def EB:AV->Bool
 | .agg cs=>cs.all iA
 |a=>iA a
def sV{v:Value}(h:v.oneCell'=true):v.cells=#[v]:=by cases v<;>first|rfl|cases h
def Rel.one{A:Nat->Prop}{w:World}{a:AV}{v:Value}(h:Rel A w a v)(h1:iA a=wO):v.oneCell'=wO:=by
 cases h with
 |lit v=>exact h1
 |agg=>cases h1
 |jB=>cases h1
 |_=>rfl
def bK.one{A:Nat->Prop}{w:World}{as0:List AV}{us:List Value}(h:bK A w as0 us)(h1:as0.all iA=wO):∀v∈us,v.oneCell'=wO:=fun v hv=>by
 obtain⟨j,hj,rfl⟩:=xS hv
 have hlt:j<as0.length:=by rw[<-h.1];exact hj
 exact(h.2 j as0[j] us[j] (zk hlt) (zk hj)).one (zo.1 h1 _ (xx hlt))
def Rel.cells{A:Nat->Prop}{w:World}{a:AV}{v:Value}(h:Rel A w a v)(h1:EB a=wO):bK A w (dQ a) v.cells.toList/\∀u∈v.cells.toList,u.oneCell'=wO:=by
 by_cases ha:∃cs,a= .agg cs
 ·obtain⟨cs,rfl⟩:=ha
  obtain⟨us,rfl,h2⟩:=h.mN
  exact⟨by simpa [Value.cells,dQ]using h2,by simpa [Value.cells]using h2.one h1⟩
 ·have hc:iA a=wO:=by
   cases a<;>first|exact h1|(exact cQ ⟨_,rfl⟩ ha)
  have hac:dQ a=[a]:=by
   cases a<;>first|rfl|(exact cQ ⟨_,rfl⟩ ha)
  have h2:=h.one hc
  rw[hac,sV h2]
  refine⟨⟨rfl,fun j x y hx hy=> ?_⟩,fun u hu=>by simp at hu;rw[hu];exact h2⟩
  cases j with
  |zero=>simp at hx hy;subst hx hy;exact h
  |succ j=>simp at hx
def Pw(σ:List cH)(a:AV):Prop:=∀(A:Nat->Prop) (w:World) (v:Value),Hd A σ w->Rel A w a v->bK A w (dQ a) v.cells.toList/\∀u∈v.cells.toList,u.oneCell'=wO
def agu{σ:List cH}{A:Nat->Prop}{w:World}{v:Value}{q:Nat}{l:List (U.dw q)}(i:Nat)(hσ:σ[i]? =V (.row v q l))(hd:Hd A σ w):v.oneCell'=wO:=by
 obtain⟨us,h1,_⟩:=hd.1 _ (List.mem_of_getElem? hσ)
 obtain⟨p,cap,rfl,_⟩:=h1.len
 rfl
section
variable {P:Program} {E:Env} {σ:List cH} {o:Oper} {T T' e:TypeId} {x y z:Operand} {av bv:AV} {v u:Value} {m n:Int} {b:Bool} {k:IntKind} {C:Cx} {X:List Nat}
def Yv.alloc{zs:List Value}(ho:o.op= .alloc T)(hz:(P.info? T).bind (fun i=>i.zero.map (·.cells))=V zs.toArray):Yv P E σ o C [] (fun a σ'=>∃b,a= .lit (.pointer (V ⟨b,0,O⟩))/\σ'= .box b T (zs.map .lit)::σ):=fun w ρ hg _=>by
 obtain⟨i,h1,h2⟩:=zm.1 hz
 obtain⟨zv,h3,h4⟩:=zj.1 h2
 refine⟨_,w.alloc (.cells zs.toArray T),_,_,⟨w.heap.size,rfl,rfl⟩,qj hg (j4 w _) (.inr rfl) ⟨zs,heap_alloc_new w _,bK.lits _⟩,?_, .lit _⟩
 simp[execOp,ho,Instr.alloc,zeroValue,typeInfo,h1,h3,newVar,newRow,h4]
def Yv.box(ho:o.op= .box T x)(hx:E.ev x=V av)(h1:Pw σ av):Yv P E σ o C [] (fun a σ'=>∃b,a= .lit (.pointer (V ⟨b,0,O⟩))/\σ'= .box b T (dQ av)::σ):=fun w ρ hg hρ=>by
 have hr:=(h1 _ _ _ hg.hd (hρ _ _ hx)).1
 refine⟨_,w.alloc (.cells (ρ x).cells T),_,_,⟨w.heap.size,rfl,rfl⟩,qj hg (j4 w _) (.inr rfl) ⟨(ρ x).cells.toList,heap_alloc_new w _,LV hr (.inr rfl) (j4 w _)⟩,?_, .lit _⟩
 simp[execOp,ho,Instr.box,newVar,newRow]
def run_store{w:World}{g of:Nat}{cur:Array Value}{t:TypeId}{a:Value}{sz:Nat}(hs:(P.info? T).map (·.size)=V sz)(hb:Blk w g cur t)(hsz:a.cells.size=sz)(h1:∀u∈a.cells.toList,u.oneCell'=wO)(hlt:of+sz<=cur.size):
  (Instr.storeAt T (.pointer (V ⟨g,of,O⟩)) a).run P w= .ok () (w.setRow g (cur.toList.take of++a.cells.toList++cur.toList.drop (of+sz)).toArray):=by
 obtain⟨j,hj,hj'⟩:=zj.1 hs
 have:=run_storeCells_at P g of t a.cells.toList 0 cur w hb (by rw[Array.length_toList,hsz];omega) h1
 rw[Array.length_toList,hsz,yf]at this
 simp only[Instr.storeAt,Instr.sureAddr,storeVar,Sem.run_bind,sizeOf,typeInfo]
 simp[hj,hj',hsz,this]
def mW(w:World)(g:Nat)(cs:Array Value):Kp [g] w (w.setRow g cs):=⟨rfl,rfl,rfl,by simp,fun k _ hk=>setRow_other w g k _ (fun e=>hk (by simp[e]))⟩
def Yu.an4{g of sz:Nat}{cs:List AV}{t:TypeId}(i:Nat)(ho:o.op= .store T x y)(hx:E.ev x=V (.lit (.pointer (V ⟨g,of,O⟩))))(hy:E.ev y=V av)(hσ:σ[i]? =V (.box g t cs))(hs:(P.info? T).map (·.size)=V sz)(hp:Pw σ av)(hsz:(dQ av).length=sz)(hlt:of+sz<=cs.length):
  Yu P E σ o C [g] (σ.set i (.box g t (cs.take of++dQ av++cs.drop (of+sz)))):=fun w ρ hg hρ=>by
 obtain⟨us,h1,h2⟩:=hg.res _ (List.mem_of_getElem? hσ)
 obtain⟨h3,h4⟩:=hp _ _ _ hg.hd (hρ _ _ hy)
 have hx':=(hρ _ _ hx).cK
 have h5:(ρ y).cells.size=sz:=by rw[<-Array.length_toList,h3.1,hsz]
 have hrun:=run_store (P:=P) (T:=T) (of:=of) (a:=ρ y) hs h1 h5 h4 (by simp;rw[h2.1];exact hlt)
 refine⟨w.setRow g (us.take of++(ρ y).cells.toList++us.drop (of+sz)).toArray,Fl hg hσ (mW w g _) (.inl rfl) ⟨us.take of++(ρ y).cells.toList++us.drop (of+sz),?_,?_⟩,?_⟩
 ·have:=setRow_heap w g us.toArray (us.take of++(ρ y).cells.toList++us.drop (of+sz)).toArray t (0,0) h1
  exact this
 ·have hal:∀b,b<w.heap.size->al C σ b->al C (σ.set i (.box g t (cs.take of++dQ av++cs.drop (of+sz)))) b/\(w.setRow g (us.take of++(ρ y).cells.toList++us.drop (of+sz)).toArray).heap[b]? =w.heap[b]? :=fun b hb hA=>by
   have hbk:=Fq (r':=cH.box g t (cs.take of++dQ av++cs.drop (of+sz))) hσ rfl
   refine⟨⟨hA.1,by rw[hbk];exact hA.2⟩,setRow_other w g b _ (fun e=>hA.2 (bR.2 ⟨_,List.mem_of_getElem? hσ,by rw[<-e];rfl⟩))⟩
  exact(((h2.take of).app h3).app (h2.drop (of+sz))).mono hal
 ·simp[execOp,ho,hx',hrun]
def Yu.ZM{kk of n m:Nat}{q:Nat}{l:List (U.dw q)}(i:Nat)(qq:U.dw q)(ho:o.op= .store T x y)(hx:E.ev x=V (.rp v kk))(hy:E.ev y=V av)(hσ:σ[i]? =V (.row v q l))(hs:(P.info? T).map (·.size)=V n)(hp:EB av=wO)(hn:(dQ av).length=n)
  (hk:kk=m*(U.sz q)+of) (hm:m<l.length) (hlt:of+n<=(U.sz q)) (hql:(U.cells q qq).length=U.sz q) (hq:∀A w us,bK A w ((U.cells q l[m]!).take of++dQ av++(U.cells q l[m]!).drop (of+n)) us->bK A w (U.cells q qq) us):
  Yu P E σ o C (xz (gO v)) (σ.set i (.row v q (l.set m qq))):=fun w ρ hg hρ=>by
 obtain⟨us,h1,h2,h3⟩:=hg.res _ (List.mem_of_getElem? hσ)
 obtain⟨h4,h5⟩:=(hρ _ _ hy).cells hp
 obtain⟨g,hgb,hv⟩:=(hρ _ _ hx).Gy
 obtain⟨g',cap,cur,hv',hgb',hB,q1,q2,q3,q4⟩:=h1.at (by omega)
 have hgg:g'=g:=by rw[hgb']at hgb;exact zF.inj hgb
 subst hgg
 have h6':(ρ y).cells.toList.length=n:=by rw[h4.1,hn]
 have h6:(ρ y).cells.size=n:=by rw[<-Array.length_toList,h6']
 have hmz:m*(U.sz q)+(U.sz q)<=l.length*(U.sz q):=by rw[<-yH];exact yF _ hm
 have hcz:l.length*(U.sz q)<=(cap+1)*(U.sz q):=yF _ q1
 have hul:=h1.1
 have hrun:=run_store (P:=P) (T:=T) (of:=kk) (a:=ρ y) hs hB h6 h5 (by rw[q3,hk];omega)
 have hlen:us.length=l.length*(U.sz q):=h1.1
 have hmz2:∀j,j<l.length->j*(U.sz q)+(U.sz q)<=us.length:=fun j hj=>by rw[hlen,<-yH];exact yF _ hj
 have hpart:∀b,al C (σ.set i (.row v q (l.set m qq))) b↔al C σ b:=fun b=>by
  have hbk:=Fq (r':=cH.row v q (l.set m qq)) hσ rfl
  unfold al
  rw[hbk]
 have hal:∀b,b<w.heap.size->al C σ b->al C (σ.set i (.row v q (l.set m qq))) b/\(w.setRow g' (cur.toList.take kk++(ρ y).cells.toList++cur.toList.drop (kk+n)).toArray).heap[b]? =w.heap[b]? :=fun b hb hA=>
  ⟨(hpart b).2 hA,setRow_other w g' b _ (fun e=>hA.2 (bR.2 ⟨_,List.mem_of_getElem? hσ,by rw[e];exact hgb⟩))⟩
 refine⟨w.setRow g' (cur.toList.take kk++(ρ y).cells.toList++cur.toList.drop (kk+n)).toArray,Fl (r:= .row v q l) hg hσ (by show Kp (xz (gO v)) _ _;rw[hgb];exact mW w g' _) (.inl rfl) ⟨us.take kk++(ρ y).cells.toList++us.drop (kk+n),⟨?_, .inr ⟨g',cap,(cur.toList.take kk++(ρ y).cells.toList++cur.toList.drop (kk+n)).toArray,?_,?_,?_,q2,?_,?_⟩⟩,?_,?_⟩,by simp[execOp,ho,hv,hrun]⟩
 ·have:=hmz2 m hm
  rw[zh,zh,zZ,z8,zO,h6',hlen]
  omega
 ·rw[zO];exact hv'
 ·exact setRow_heap w g' cur _ q (0,0) hB
 ·rw[zO];exact q1
 ·have:=hmz2 m hm
  rw[yY,zh,zh,zZ,z8,h6',Array.length_toList,q3]
  omega
 ·have hk':kk+n<=l.length*(U.sz q):=by omega
  have hc2:l.length*(U.sz q)<=cur.toList.length:=by rw[show cur.toList.length=cur.size from Array.length_toList,q3];exact hcz
  rw[<-q4,zO]
  apply List.ext_getElem?
  intro j
  simp only[yz,yX,zh,zZ,yw,h6',Array.length_toList]
  have hcl:cur.size=(cap+1)*(U.sz q):=q3
  by_cases e1:j<l.length*(U.sz q)
  ·rw[bw e1]
   by_cases e2:j<kk
   ·rw[bw (by omega),bw (by omega),bw (by omega),bw (by omega),bw (by omega),bw (by omega)]
    rw[bw (by omega)]
   ·by_cases e3:j<kk+n
    ·rw[bw (by omega),bF (by omega),bw (by omega),bF (by omega)]
     congr 1
     omega
    ·rw[bF (by omega),bF (by omega),bw (by omega)]
     congr 1
     omega
  ·rw[bF e1]
   rw[bF (by omega),bF (by omega)]
 ·intro j hj
  rw[zO]at hj
  by_cases hjm:j=m
  ·subst hjm
   rw[getElem!_pos _ j (by rw[zO];exact hj),List.getElem_set_self]
   exact hql
  ·rw[getElem!_pos _ j (by rw[zO];exact hj),List.getElem_set_ne (Ne.symm hjm),<-getElem!_pos l j hj]
   exact h2 j hj
 ·intro j hj
  rw[zO]at hj
  have hb:=hmz2 j hj
  have hbm:=hmz2 m hm
  by_cases hjm:j=m
  ·subst hjm
   rw[getElem!_pos _ j (by rw[zO];exact hj),List.getElem_set_self]
   refine hq _ _ _ ?_
   have hL:=h3 j hj
   have hz:=h2 j hj
   have hR:=(((hL.take of).app h4).app (hL.drop (of+n))).mono hal
   have e:((us.take kk++(ρ y).cells.toList++us.drop (kk+n)).drop (j*(U.sz q))).take (U.sz q)=((us.drop (j*(U.sz q))).take (U.sz q)).take of++(ρ y).cells.toList++((us.drop (j*(U.sz q))).take (U.sz q)).drop (of+n):=by
    apply List.ext_getElem?
    intro a
    simp only[yz,yX,zh,zZ,yw,h6',z8]
    by_cases e1:a<(U.sz q)
    ·rw[bw e1]
     by_cases e2:a<of
     ·rw[bw (by omega),bw (by omega),bw (by omega),bw (by omega),bw (by omega),bw (by omega)]
      rw[bw (by omega)]
     ·by_cases e3:a<of+n
      ·rw[bw (by omega),bF (by omega),bw (by omega),bF (by omega)]
       congr 1
       omega
      ·rw[bF (by omega),bF (by omega),bw (by omega)]
       congr 1
       omega
    ·rw[bF e1,bF (by omega),bF (by omega)]
   rw[e]
   exact hR
  ·rw[getElem!_pos _ j (by rw[zO];exact hj),List.getElem_set_ne (Ne.symm hjm),<-getElem!_pos l j hj]
   have e:((us.take kk++(ρ y).cells.toList++us.drop (kk+n)).drop (j*(U.sz q))).take (U.sz q)=(us.drop (j*(U.sz q))).take (U.sz q):=by
    have hcase:j*(U.sz q)+(U.sz q)<=m*(U.sz q)\/m*(U.sz q)+(U.sz q)<=j*(U.sz q):=by
     rcases Nat.lt_or_gt_of_ne hjm with h|h
     ·left;rw[<-yH];exact yF _ h
     ·right;rw[<-yH];exact yF _ h
    apply List.ext_getElem?
    intro a
    simp only[yz,yX,zh,zZ,yw,h6',Array.length_toList]
    by_cases e1:a<(U.sz q)
    ·rw[bw e1,bw e1]
     rcases hcase with hc|hc
     ·rw[bw (by omega),bw (by omega),bw (by omega)]
     ·rw[bF (by omega)]
      congr 1
      omega
    ·rw[bF e1,bF e1]
   rw[e]
   exact(h3 j hj).mono hal
end
inductive F2 {α:Type} {β:Type} (R:α->β->Prop):List α->List β->Prop
 |nil:F2 R [] []
 |cons {a:α} {b:β} {as0:List α} {bs:List β} (h:R a b) (hs:F2 R as0 bs):F2 R (a::as0) (b::bs)
def Uj(us:List Value):∀(k off:Nat) (init:Array Value),off+k+us.length<=init.size->
  ((us.zipIdx k).foldl (fun cs (p:Value×Nat)=>cs.setIfInBounds (off+p.2) p.1) init).toList=init.toList.take (off+k)++us++init.toList.drop (off+k+us.length):=by
 induction us with
 |nil=>intro k off init h;simp
 |cons u us ih=>
  intro k off init h
  simp only[wj]at h
  rw[List.zipIdx_cons,List.foldl_cons,ih (k+1) off _ (by simp;omega)]
  have h1:off+k<init.toList.length:=by simp;omega
  rw[Array.toList_setIfInBounds]
  have e1:(init.toList.set (off+k) u).take (off+(k+1))=init.toList.take (off+k)++[u]:=by
   rw[wA,bw h1]
   have e:off+(k+1)=(init.toList.take (off+k)).length+1:=by rw[zZ];omega
   rw[e,List.take_length_add_append]
   simp
  have e2:(init.toList.set (off+k) u).drop (off+(k+1)+us.length)=init.toList.drop (off+k+(us.length+1)):=by
   rw[List.drop_set_of_lt (by omega)]
   congr 1
   omega
  rw[e1,e2]
  simp
def placesOf(P:Program)(T:TypeId):Option (List (Nat×Nat)):=match P.underlying T with
 |some (.struct fields)=>fields.toList.mapM fun f=>(P.info? f.type).map fun i=>(f.offset,i.size)
 |_=>O
def jT(P:Program)(T:TypeId):Option (List Value):=(P.info? T).bind fun i=>i.zero.map (·.cells.toList)
section
variable {P:Program} {E:Env} {σ:List cH} {o:Oper} {T T' e:TypeId} {x y z:Operand} {av bv:AV} {v u:Value} {m n:Int} {b:Bool} {k:IntKind} {C:Cx} {X:List Nat}
def KV{ps:Array (Nat×Operand)}{ρ:Operand->Value}:(ps.map fun(i,x)=>(i,ρ x)).toList=ps.toList.map fun p=>(p.1,ρ p.2):=by
 rw[Array.toList_map]
def lI{q:Nat}:∀(l:List (U.dw q)),(∀i,i<l.length->(U.cells q l[i]!).length=(U.sz q))->(l.flatMap (U.cells q)).length=l.length*(U.sz q)/\∀i,i<l.length->((l.flatMap (U.cells q)).drop (i*(U.sz q))).take (U.sz q)=U.cells q l[i]!
 |[],_=>⟨by simp,fun i hi=>by cases hi⟩
 |x::l,h=>by
  have h0:(U.cells q x).length=(U.sz q):=h 0 (by simp)
  obtain⟨h1,h2⟩:=lI l fun i hi=>by
   have:=h (i+1) (by simpa using hi)
   rwa [show (x::l)[i+1]! =l[i]! from by rw[getElem!_pos _ (i+1) (by simpa using hi),getElem!_pos l i hi];rfl]at this
  refine⟨by rw[xA,zh,h0,h1,wj,yH];omega,fun i hi=> ?_⟩
  rw[xA]
  cases i with
  |zero=>
   rw[Nat.zero_mul,xT,<-h0,List.take_left']
   ·rfl
   ·rfl
  |succ i=>
   have hi':i<l.length:=by simpa using hi
   rw[show (x::l)[i+1]! =l[i]! from by rw[getElem!_pos _ (i+1) (by simpa using hi'),getElem!_pos l i hi'];rfl,<-h2 i hi']
   rw[show (i+1)*(U.sz q)=(U.cells q x).length+i*(U.sz q)from by rw[h0,yH];omega,<-zP,List.drop_left']
   rfl
def EM{A:Nat->Prop}{w:World}{q:Nat}{l:List (U.dw q)}{us:List Value}(hr:iq w v q (U.sz q) l.length us)(hz:∀i,i<l.length->(U.cells q l[i]!).length=(U.sz q))(h:bK A w (l.flatMap (U.cells q)) us):cH.ok A w (.row v q l):=
 ⟨us,hr,hz,fun i hi=>by rw[<-(lI l hz).2 i hi];exact(h.drop _).take _⟩
def Di{A:Nat->Prop}{w:World}{q:Nat}{l:List (U.dw q)}(h:cH.ok A w (.row v q l)):∃us,iq w v q (U.sz q) l.length us/\(∀i,i<l.length->(U.cells q l[i]!).length=(U.sz q))/\bK A w (l.flatMap (U.cells q)) us:=by
 obtain⟨us,h1,h2,h3⟩:=h
 refine⟨us,h1,h2,?_⟩
 obtain⟨f1,f2⟩:=lI l h2
 refine⟨by rw[f1,h1.1],fun j a u ha hu=> ?_⟩
 have hj:j<l.length*(U.sz q):=by rw[<-f1];exact(zX.1 ha).1
 have hsz:0<(U.sz q):=by
  rcases Nat.eq_zero_or_pos (U.sz q)with h|h
  ·rw[h]at hj;omega
  ·exact h
 have hi:j/(U.sz q)<l.length:=by rw[Nat.div_lt_iff_lt_mul hsz];exact hj
 have hm:j%(U.sz q)<(U.sz q):=yP _ hsz
 have he:j/(U.sz q)*(U.sz q)+j%(U.sz q)=j:=by rw[Nat.mul_comm];exact wk j (U.sz q)
 refine(h3 _ hi).2 (j%(U.sz q)) a u ?_ ?_
 ·rw[<-f2 _ hi,yz,bw hm,yw,he];exact ha
 ·rw[yz,bw hm,yw,he];exact hu
def get_append_left!{q:Nat}(l l2:List (U.dw q))(i:Nat)(h:i<l.length):(l++l2)[i]! =l[i]! :=by
 rw[getElem!_pos _ i (by rw[zh];omega),xB h,<-getElem!_pos l i h]
def get_append_right!{q:Nat}(l l2:List (U.dw q))(i:Nat)(h:l.length<=i)(h2:i<l.length+l2.length):(l++l2)[i]! =l2[i-l.length]! :=by
 rw[getElem!_pos _ i (by rw[zh];exact h2),xg h,<-getElem!_pos l2 (i-l.length) (by omega)]
def KW{q:Nat}{l l2:List (U.dw q)}(h:∀i,i<l.length->(U.cells q l[i]!).length=(U.sz q))(h2:∀i,i<l2.length->(U.cells q l2[i]!).length=(U.sz q)):∀i,i<(l++l2).length->(U.cells q (l++l2)[i]!).length=(U.sz q):=fun i hi=>by
 rw[zh]at hi
 by_cases hlt:i<l.length
 ·rw[get_append_left! _ _ _ hlt];exact h i hlt
 ·rw[get_append_right! _ _ _ (by omega) hi];exact h2 _ (by omega)
def Om{zs:List Value}{sz n:Nat}(hsz:zs.length=sz)(hpos:0<sz):((Array.range (n*sz)).map (zs.toArray[· %zs.toArray.size]!)).toList=(zn n zs).flatten:=by
 apply List.ext_getElem?
 intro j
 have hfl:(zn n zs).flatten.length=n*sz:=by simp[hsz]
 have hq:∀(q:Nat) (j:Nat),j<q*sz->(zn q zs).flatten[j]? =zs[j%sz]? :=by
  intro q
  induction q with
  |zero=>intro j hj;simp at hj
  |succ q ih=>
   intro j hj
   rw[yI,wm,yX]
   split
   ·rename_i h;rw[hsz]at h;rw[Nat.mod_eq_of_lt h]
   ·rename_i h
    rw[hsz]at h
    rw[hsz,ih _ (by rw[yH]at hj;omega),Nat.mod_eq_sub_mod (by omega:sz<=j)]
 by_cases hj:j<n*sz
 ·rw[hq n j hj]
  have hmod:j%sz<sz:=yP _ hpos
  simp[hj,hsz,hmod]
 ·rw[wh (l:=(zn n zs).flatten) (by rw[hfl];omega)]
  simp[hj]
def Yv.lit{len:Nat}{ps:Array (Nat×Operand)}{zs:List Value}(l:List (U.dw e))(ho:o.op= .buildSlice T len ps)(hT:P.underlying T=V (.slice e))(hs:(P.info? e).map (·.size)=V (U.sz e))(hz:jT P e=V zs)
  (hzl:zs.length=(U.sz e)) (hf:∀A w ρ,Hd A σ w->MP A w E ρ->∃us:Array Value,Instr.fill (fun i=>V (i*(U.sz e),(U.sz e))) (zn len zs).flatten.toArray (ps.toList.map fun p=>(p.1,ρ p.2))=V us/\bK A w (l.flatMap (U.cells e)) us.toList) (hl:l.length=len) (hu:∀i,i<l.length->(U.cells e l[i]!).length=(U.sz e)) (hpos:0<len*(U.sz e)) (hsm:len*(U.sz e)<=2^24):
  Yv P E σ o C [] (fun a σ'=>∃v,a= .lit v/\σ'= .row v e l::σ):=fun w ρ hg hρ=>by
 obtain⟨it,hit,hz1⟩:=zm.1 hz
 obtain⟨zv,hz2,hz3⟩:=zj.1 hz1
 obtain⟨ie,hie,hse⟩:=zj.1 hs
 have hee:it=ie:=by rw[hit]at hie;exact zF.inj hie
 subst hee
 have hzc:zv.cells=zs.toArray:=by rw[<-hz3]
 obtain⟨us,h1,h2⟩:=hf _ w ρ hg.hd hρ
 have hrun:=run_buildSlice (P:=P) w T e len (ps.map fun(i,x)=>(i,ρ x)) us it zv hT hit hz2 (by rw[hse];omega) (by rw[hse];omega) (by
  rw[hse,hzc,KV,<-h1]
  congr 1
  apply Array.ext'
  exact Om hzl (Nat.pos_of_mul_pos_left hpos))
 have hlp:0<len:=Nat.pos_of_mul_pos_right hpos
 have hlen:us.toList.length=len*(U.sz e):=by rw[h2.1,(lI l hu).1,hl]
 refine⟨_,w.alloc (.cells us e),_,_,⟨.slice (V ⟨w.heap.size,0,O⟩) len len,rfl,rfl⟩,?_,by simp[execOp,ho,hrun], .lit _⟩
 obtain⟨ln,rfl⟩:∃ln,len=ln+1:=⟨len-1,by omega⟩
 refine qj (r:= .row (.slice (V ⟨w.heap.size,0,O⟩) (ln+1) (ln+1)) e l) hg (j4 w _) (.inr rfl) (EM (us:=us.toList) ?_ hu ?_)
 ·rw[hl]
  refine⟨hlen, .inr ⟨w.heap.size,ln,us,rfl,heap_alloc_new w _,zD _,?_,by rw[<-Array.length_toList,hlen],by rw[<-hlen,zM]⟩⟩
  have:ln+1<=(ln+1)*(U.sz e):=Nat.le_mul_of_pos_right _ (Nat.pos_of_mul_pos_left hpos)
  unfold maxLen
  omega
 ·exact LV (r:= .row (.slice (V ⟨w.heap.size,0,O⟩) (ln+1) (ln+1)) e l) h2 (.inr rfl) (j4 w _)
def Yv.axt{s:Nat}(ho:o.op= .buildSlice T 0 #[])(hT:P.underlying T=V (.slice e))(hs:(P.info? e).map (·.size)=V s):Yv P E σ o C [] (fun a σ'=>∃v,a= .lit v/\σ'= .row v e ([]:List (U.dw e))::σ):=fun w ρ hg hρ=>by
 obtain⟨j,hj,hj'⟩:=zj.1 hs
 refine⟨_,w.alloc (.cells #[] e),_,_,⟨.slice (V ⟨w.heap.size,0,O⟩) 0 0,rfl,rfl⟩,qj hg (j4 w _) (.inl rfl) ⟨[],⟨by simp, .inl ⟨_,rfl,rfl⟩⟩,fun i hi=>by simp at hi,fun i hi=>by simp at hi⟩,?_, .lit _⟩
 simp[execOp,ho,Instr.buildSlice,run_underlying hT,sizeOf,typeInfo,hj,Instr.fill,newRow]
 rw[show Array.range 0=#[]from rfl,Array.map_empty]
def Yv.make{by':Nat}{zs:List Value}(d:U.dw e)(ho:o.op= .makeSlice T x y)(hx:E.ev x=V (.i m))(hy:E.ev y=V (.i n))(hT:P.underlying T=V (.slice e))(hs:(P.info? e).map (fun i=>(i.size,i.bytes))=V ((U.sz e),by'))(hz:jT P e=V zs)(hb:ya by' 4096=wO)(hsz:zs.length=(U.sz e))(hd:∀A w,bK A w (U.cells e d) zs)(hpos:0<(U.sz e))
  (hm:0<=m/\m<=n/\n<=1073741824):Yv P E σ o C [] (fun a σ'=>∃v,a= .lit v/\σ'= .row v e (zn m.toNat d)::σ):=fun w ρ hg hρ=>by
 obtain⟨it,hit,hz1⟩:=zm.1 hz
 obtain⟨zv,hz2,hz3⟩:=zj.1 hz1
 obtain⟨ie,hie,hse⟩:=zj.1 hs
 have hee:it=ie:=by rw[hit]at hie;exact zF.inj hie
 subst hee
 simp only[Prod.mk.injEq]at hse
 obtain⟨s1,s2⟩:=hse
 have hzc:zv.cells=zs.toArray:=by rw[<-hz3]
 have hby:by'<=4096:=by simpa using hb
 obtain⟨mm,rfl⟩:∃mm:Nat,m=mm:=⟨m.toNat,by omega⟩
 obtain⟨nn,rfl⟩:∃nn:Nat,n=nn:=⟨n.toNat,by omega⟩
 have hbb:(it.bytes:Int)*(nn:Int)<=281474976710656:=by
  have h1:it.bytes*nn<=4096*1073741824:=Nat.mul_le_mul (by omega) (by omega)
  have h':((it.bytes*nn:Nat):Int)<=281474976710656:=by omega
  rwa [xh]at h'
 have hrun:=run_make (P:=P) w T e it zv hT hit hz2 .i64 .i64 mm nn (by omega) (by omega) hbb (by omega)
 rw[za,za]at hrun
 have hx':=(hρ _ _ hx).cK
 have hy':=(hρ _ _ hy).cK
 refine⟨.slice (V ⟨w.heap.size,0,O⟩) mm nn,w.alloc (.cells (madeCells zv.cells (nn*it.size)) e),_,_,⟨.slice (V ⟨w.heap.size,0,O⟩) mm nn,rfl,rfl⟩,?_,?_, .lit _⟩
 ·rw[za]
  have hcells:(madeCells zv.cells (nn*it.size)).toList=(zn nn zs).flatten:=by
   rw[hzc,s1]
   unfold madeCells
   apply List.ext_getElem?
   intro j
   have hfl:(zn nn zs).flatten.length=nn*(U.sz e):=by simp[hsz]
   have hq:∀(q:Nat) (j:Nat),j<q*(U.sz e)->(zn q zs).flatten[j]? =zs[j%(U.sz e)]? :=by
    intro q
    induction q with
    |zero=>intro j hj;simp at hj
    |succ q ih=>
     intro j hj
     rw[yI,wm,yX]
     split
     ·rename_i h;rw[hsz]at h;rw[Nat.mod_eq_of_lt h]
     ·rename_i h
      rw[hsz]at h
      rw[hsz,ih _ (by rw[yH]at hj;omega),Nat.mod_eq_sub_mod (by omega:(U.sz e)<=j)]
   by_cases hj:j<nn*(U.sz e)
   ·rw[hq nn j hj]
    have hmod:j%(U.sz e)<(U.sz e):=yP _ hpos
    simp[hj,hsz,hmod]
   ·rw[wh (l:=(zn nn zs).flatten) (by rw[hfl];omega)]
    simp[hj]
  by_cases hn0:nn=0
  ·have hm0:mm=0:=by omega
   subst hn0 hm0
   exact qj hg (j4 w _) (.inl rfl) ⟨[],⟨by simp, .inl ⟨_,rfl,rfl⟩⟩,fun i hi=>by simp at hi,fun i hi=>by simp at hi⟩
  ·obtain⟨nk,rfl⟩:∃nk,nn=nk+1:=⟨nn-1,by omega⟩
   have hu:∀i,i<(zn mm d).length->(U.cells e (zn mm d)[i]!).length=(U.sz e):=fun i hi=>by
    rw[getElem!_pos _ i hi,List.getElem_replicate,<-(hd (fun _=>True) w).1,hsz]
   have hfl:∀q,(zn q zs).flatten.length=q*(U.sz e):=fun q=>by simp[hsz]
   have hfl2:∀(A:Nat->Prop) (w:World) (q:Nat),bK A w ((zn q d).flatMap (U.cells e)) (zn q zs).flatten:=fun A w q=>by
    induction q with
    |zero=>exact bK.nil
    |succ q ih=>rw[yI,yI,xA,wm];exact(hd A w).app ih
   have htk:∀q q':Nat,q<=q'->((zn q' zs).flatten).take (q*(U.sz e))=(zn q zs).flatten:=fun q q' h=>by
    obtain⟨r,rfl⟩:∃r,q'=q+r:=⟨q'-q,by omega⟩
    rw[<-List.replicate_append_replicate,List.flatten_append,<-hfl q]
    exact List.take_left
   refine qj (r:= .row (.slice (V ⟨w.heap.size,0,O⟩) mm (nk+1)) e (zn mm d)) hg (j4 w _) (.inr rfl) (EM (us:=(zn mm zs).flatten) ?_ hu ?_)
   ·rw[xU]
    refine⟨hfl mm, .inr ⟨w.heap.size,nk,_,rfl,heap_alloc_new w _,by omega,by unfold maxLen;omega,?_,by rw[hcells];exact htk _ _ (by omega)⟩⟩
    rw[<-Array.length_toList,hcells,hfl]
   ·exact hfl2 _ _ _
 ·simp[execOp,ho,hx',hy',hrun]
def EI{w:World}{ty:TypeId}{i:TypeInfo}{zz:Value}{sz by' nn mm:Nat}{us news:List Value}{xs:Value}(ht:P.underlying T=V (.slice e))(hi:P.info? e=V i)(hz:i.zero=V zz)(hs:i.size=sz)(hby:i.bytes=by')(hzs:zz.cells.size=sz)
  (hrow:iq w v e sz nn us) (hx:∃p c,xs= .slice p mm c/\(mm=0\/∃a,p=V a/\∀j u,news[j]? =V u->w.cell? (a.add j)=V u)) (hl:news.length=mm*sz) (h1:∀u∈news,u.oneCell'=wO) (h63:nn+mm<=maxLen) (hb:(nn+mm)*by'<=140737488355328):
  ∃v' w',(Builtin.append_ #[T,T] ty #[v,xs]).run P w= .ok v' w'/\iq w' v' e sz (nn+mm) (us++news)/\Kp (gO v).toList w w'/\(gO v'=gO v\/gO v'=V w.heap.size):=by
 subst hs hby
 obtain⟨p,cx,rfl,hx⟩:=hx
 by_cases hm:mm=0
 ·subst hm
  have hn:news=[]:=yZ (by simpa using hl)
  subst hn
  obtain⟨q,cap,rfl,hcap⟩:=hrow.len
  have hf:∀w,(Builtin.firstCells i.size 0 (.slice p 0 cx)).run P w= .ok #[] w:=fun w=>by
   cases p<;>simp[Builtin.firstCells,loadCells,loadCellsFrom]
  have hrun:(Builtin.append_ #[T,T] ty #[.slice q nn cap, .slice p 0 cx]).run P w= .ok (.slice q nn cap) w:=by
   cases q<;>simp[Builtin.append_,run_underlying ht,sizeOf,typeInfo,hi,Builtin.lenOf,hf,hcap,storeCells]
  exact⟨_,w,hrun,by simpa using hrow,Kp.refl _ _, .inl rfl⟩
 ·obtain⟨a,rfl,hc⟩:=hx.resolve_left hm
  have grown:∀(olds:List Value) (old:Nat),olds.length=nn*i.size->old<nn+mm->us=olds->
    iq (w.drew.alloc (.cells (olds.toArray++news.toArray++Builtin.zeroCells zz.cells (grownCap w (nn+mm) old e-(nn+mm))) e)) (.slice (V ⟨w.heap.size,0,O⟩) (nn+mm) (grownCap w (nn+mm) old e)) e i.size (nn+mm) (us++news):=by
   intro olds old hol hlt hus
   subst hus
   have hge:=grownCap_ge w (nn+mm) old e
   have hcm:=grownCap_le_maxLen w (nn+mm) old e h63
   obtain⟨ck,hck⟩:∃ck,grownCap w (nn+mm) old e=ck+1:=⟨grownCap w (nn+mm) old e-1,by omega⟩
   refine⟨by rw[zh,hol,hl,yb], .inr ⟨w.heap.size,ck,_,by rw[hck],heap_alloc_new w.drew _,by omega,by omega,?_,?_⟩⟩
   ·rw[<-hck]
    simp only[Array.size_append,yY,size_zeroCells,hzs,hol,hl,<-yb]
    congr 1
    omega
   ·simp only[Array.toList_append,yQ]
    rw[<-yQ,show (nn+mm)*i.size=(us++news).length from by rw[zh,hol,hl,yb]]
    exact List.take_left
  rcases hrow.2 with ⟨q,rfl,rfl⟩|⟨g,cap,cur,rfl,hg,hnc,hcm,hcs,htake⟩
  ·have hu:us=[]:=yZ (by simpa using hrow.1)
   have hgr:=grown [] 0 (by simp) (by omega) hu
   rw[yq]at hgr hb h63
   have hgc:=grownCap_ge w mm 0 e
   have hrb:gO (.slice (V ⟨w.heap.size,0,O⟩) mm (grownCap w mm 0 e))=V w.heap.size:=by
    obtain⟨ck,hck⟩:∃ck,grownCap w mm 0 e=ck+1:=⟨grownCap w mm 0 e-1,by omega⟩
    rw[hck];rfl
   have h63':(mm:Int)<=9223372036854775807:=by unfold maxLen at h63;omega
   cases q with
   |none=>
    have hr:=run_append_nil (P:=P) w T ty e i zz ht hi hz a mm cx news hl hc (by omega) h63' (by omega)
    refine⟨_,_,hr,?_,Gs w _, .inr hrb⟩
    rw[yq]
    simpa using hgr
   |some b=>
    have hr:=run_append_grow (P:=P) w T ty e i zz ht hi hz b 0 0 [] (by simp) (fun j v hj=>by cases hj) a mm cx news hl hc (by omega) (by simpa using h63') (growslice_fits (by omega) (by rw[yq];exact hb))
    refine⟨_,_,hr,?_,Gs w _, .inr (by rw[yq];exact hrb)⟩
    rw[yq]
    exact hgr
  ·by_cases hroom:nn+mm<=cap+1
   ·have hfit:nn*i.size+news.length<=cur.size:=by rw[hl,hcs,<-yb];exact yF _ hroom
    have hr:=run_append_room (P:=P) w T ty e i ht hi g nn (cap+1) cur hg a mm cx news hl hc h1 hroom hfit
    refine⟨_,_,hr,⟨by rw[zh,hrow.1,hl,yb], .inr ⟨g,cap,_,rfl,setRow_heap w g cur _ e _ hg,hroom,hcm,?_,?_⟩⟩,mW w g _, .inl rfl⟩
    ·simp only[yY,zh,zZ,z8,Array.length_toList]
     omega
    ·rw[htake,show (nn+mm)*i.size=(us++news).length from by rw[zh,hrow.1,hl,yb]]
     exact List.take_left
   ·have holds:∀j v,us[j]? =V v->w.cell? ((⟨g,0,O⟩:Addr).add j)=V v:=fun j v hj=>by
     rw[rf,yq];exact hrow.cells rfl j v hj
    have h63':((nn+mm:Nat):Int)<=9223372036854775807:=by unfold maxLen at h63;omega
    have hr:=run_append_grow (P:=P) w T ty e i zz ht hi hz ⟨g,0,O⟩ nn (cap+1) us hrow.1 holds a mm cx news hl hc (by omega) h63' (growslice_fits (by omega) hb)
    have hgr:=grown us (cap+1) hrow.1 (by omega) rfl
    have hgc:=grownCap_ge w (nn+mm) (cap+1) e
    refine⟨_,_,hr,hgr,⟨rfl,rfl,rfl,by simp,fun k hk _=>heap_alloc_old w.drew _ hk⟩, .inr ?_⟩
    obtain⟨ck,hck⟩:∃ck,grownCap w (nn+mm) (cap+1) e=ck+1:=⟨grownCap w (nn+mm) (cap+1) e-1,by omega⟩
    rw[hck];rfl
def Src(σ:List cH)(E:Env)(x:Operand)(e:TypeId)(l:List (U.dw e)):Prop:=
 (∃p c,E.ev x=V (.lit (.slice p 0 c))/\l=[])\/E.ev x=V (.sl e l)\/∃(i:Nat) (v:Value),E.ev x=V (.lit v)/\σ[i]? =V (.row v e l)
def Src.spec{q:Nat}{l:List (U.dw q)}{A:Nat->Prop}{w:World}{ρ:Operand->Value}(h:Src σ E x q l)(hd:Hd A σ w)(hρ:MP A w E ρ):∃p cap news,ρ x= .slice p l.length cap/\(l.length=0\/∃a,p=V a/\∀j u,news[j]? =V u->w.cell? (a.add j)=V u)/\news.length=l.length*(U.sz q)/\(∀i,i<l.length->(U.cells q l[i]!).length=(U.sz q))/\bK A w (l.flatMap (U.cells q)) news/\l.length<=9223372036854775807:=by
 rcases h with ⟨p,c,h,rfl⟩|h|⟨i,v,h,hσ⟩
 ·exact⟨p,c,[],(hρ _ _ h).cK, .inl rfl,by simp,fun i hi=>by simp at hi,bK.nil,by simp⟩
 ·have hr:=hρ _ _ h
  obtain⟨p,cap,u,hv,hl,_,hz,hc,hcr⟩:=hr.vP
  rw[hv]at hr
  let news:List Value:=(zH l.length).flatMap fun i=>(zH (U.sz q)).map fun j=>u i j
  have hnl:∀(z:List Nat),(z.flatMap fun i=>(zH (U.sz q)).map fun j=>u i j).length=z.length*(U.sz q):=fun z=>by
   induction z with
   |nil=>simp
   |cons a z ih=>rw[xA,zh,ih,zK,xb,wj,yH];omega
  have hnews:news.length=l.length*(U.sz q):=by rw[hnl,xb]
  have hget:∀n i j,i<n->j<(U.sz q)->((zH n).flatMap fun i=>(zH (U.sz q)).map fun j=>u i j)[i*(U.sz q)+j]? =V (u i j):=by
   intro n
   induction n with
   |zero=>intro i j hi _;omega
   |succ n ih=>
    intro i j hi hj
    rw[List.range_succ,List.flatMap_append,yX,hnl,xb]
    by_cases hin:i<n
    ·have:i*(U.sz q)+(U.sz q)<=n*(U.sz q):=by rw[<-yH];exact yF _ hin
     rw[bw (by omega)]
     exact ih i j hin hj
    ·have:i=n:=by omega
     subst this
     rw[bF (by omega)]
     simp[hj]
  refine⟨p,cap,news,hv,?_,hnews,hz,?_,hl⟩
  ·by_cases h0:l.length=0
   ·exact .inl h0
   ·obtain⟨b,off,hp,hb,hA,hcc⟩:=hc 0 (by omega)
    refine .inr ⟨⟨b,off,O⟩,hp,fun j v hj=> ?_⟩
    have hjl:j<l.length*(U.sz q):=by rw[<-hnews];exact(zX.1 hj).1
    have hsz:0<(U.sz q):=by
     rcases Nat.eq_zero_or_pos (U.sz q)with h|h
     ·rw[h]at hjl;omega
     ·exact h
    have hi:j/(U.sz q)<l.length:=by rw[Nat.div_lt_iff_lt_mul hsz];exact hjl
    have hm:j%(U.sz q)<(U.sz q):=yP _ hsz
    have he:j/(U.sz q)*(U.sz q)+j%(U.sz q)=j:=by rw[Nat.mul_comm];exact wk j (U.sz q)
    have h2:=hget l.length (j/(U.sz q)) (j%(U.sz q)) hi hm
    rw[he]at h2
    have h3:V v=V (u (j/(U.sz q)) (j%(U.sz q))):=by rw[<-hj,<-h2]
    cases h3
    obtain⟨b',off',hp',_,_,hcc'⟩:=hc (j/(U.sz q)) hi
    rw[hp]at hp'
    cases hp'
    have h4:=hcc' (j%(U.sz q)) hm
    rw[rf,show off+j=off+j/(U.sz q)*(U.sz q)+j%(U.sz q)from by omega]
    exact h4
  ·obtain⟨f1,f2⟩:=lI l hz
   refine⟨by rw[f1,hnews],fun j a w' ha hw'=> ?_⟩
   have hjl:j<l.length*(U.sz q):=by rw[<-hnews];exact(zX.1 hw').1
   have hsz:0<(U.sz q):=by
    rcases Nat.eq_zero_or_pos (U.sz q)with h|h
    ·rw[h]at hjl;omega
    ·exact h
   have hi:j/(U.sz q)<l.length:=by rw[Nat.div_lt_iff_lt_mul hsz];exact hjl
   have hm:j%(U.sz q)<(U.sz q):=yP _ hsz
   have he:j/(U.sz q)*(U.sz q)+j%(U.sz q)=j:=by rw[Nat.mul_comm];exact wk j (U.sz q)
   have h2:=hget l.length (j/(U.sz q)) (j%(U.sz q)) hi hm
   rw[he]at h2
   have h3:V w'=V (u (j/(U.sz q)) (j%(U.sz q))):=by rw[<-hw',<-h2]
   cases h3
   refine hcr (j/(U.sz q)) (j%(U.sz q)) a hi ?_
   rw[<-f2 _ hi,yz,bw hm,yw,he]
   exact ha
 ·obtain⟨us,h1,h2,h3⟩:=Di (hd.1 _ (List.mem_of_getElem? hσ))
  obtain⟨p,cap,hv,_⟩:=h1.len
  have hx':=(hρ _ _ h).cK
  have hlm:l.length<=9223372036854775807:=by
   rcases h1.2 with ⟨_,_,h⟩|⟨_,_,_,_,_,q1,q2,_⟩
   ·omega
   ·unfold maxLen at q2;omega
  refine⟨p,cap,us,by rw[hx',hv],?_,h1.1,h2,h3,hlm⟩
  by_cases h0:l.length=0
  ·exact .inl h0
  ·obtain⟨g,ck,cur,hv2,hgb,_⟩:=h1.at (by omega)
   rw[hv2]at hv
   cases hv
   refine .inr ⟨_,rfl,fun j u hj=> ?_⟩
   rw[rf,yq]
   exact h1.cells hgb j u hj
def Yv.app{by':Nat}{l l2:List (U.dw e)}{zs:List Value}(i:Nat)(ho:o.op= .call {callee:= .builtin .append,args:=#[x,y],argTypes:=#[T,T]})(hx:E.ev x=V (.lit v))(hσ:σ[i]? =V (.row v e l))(hy:Src σ E y e l2)(hT:P.underlying T=V (.slice e))(hs:(P.info? e).map (fun i=>(i.size,i.bytes))=V ((U.sz e),by'))(hz:jT P e=V zs)(hzl:zs.length=(U.sz e))(hb:ya by' 4096=wO)
  (h1:∀x:U.dw e,(U.cells e x).all iA=wO) (hlen:(l++l2).length<=1073741824):Yv P E σ o C (xz (gO v)) (fun a σ'=>∃v',a= .lit v'/\σ'=σ.set i (.row v' e (l++l2))):=fun w ρ hg hρ=>by
 obtain⟨it,hit,hz1⟩:=zm.1 hz
 obtain⟨zv,hz2,hz3⟩:=zj.1 hz1
 obtain⟨ie,hie,hse⟩:=zj.1 hs
 have hee:it=ie:=by rw[hit]at hie;exact zF.inj hie
 subst hee
 simp only[Prod.mk.injEq]at hse
 obtain⟨s1,s2⟩:=hse
 have hby:by'<=4096:=by simpa using hb
 obtain⟨us,g1,g2,g3⟩:=Di (hg.res _ (List.mem_of_getElem? hσ))
 obtain⟨p,cap,news,q1,q2,q3,q4,q5,q6⟩:=hy.spec hg.hd hρ
 have hx':=(hρ _ _ hx).cK
 have hone:∀u∈news,u.oneCell'=wO:=q5.one (by
  rw[zo]
  intro a ha
  obtain⟨x,_,hx⟩:=xV.1 ha
  exact zo.1 (h1 x) a hx)
 rw[zh]at hlen
 have hbytes:(l.length+l2.length)*by'<=140737488355328:=by
  have:(l.length+l2.length)*by'<=1073741824*4096:=Nat.mul_le_mul hlen hby
  omega
 obtain⟨v',w',r1,r2,r3,r4⟩:=EI (P:=P) (T:=T) (ty:=o.type) (xs:=ρ y) hT hit hz2 s1 s2 (by rw[<-Array.length_toList,hz3,hzl]) g1 ⟨p,cap,q1,q2⟩ q3 hone (by unfold maxLen;omega) hbytes
 refine⟨v',w',_,_,⟨v',rfl,rfl⟩,Fl (r:= .row v e l) hg hσ r3 r4 (EM (by rw[zh];exact r2) (KW g2 q4) ?_),?_, .lit _⟩
 ·rw[List.flatMap_append]
  refine(g3.app q5).mono fun b hb hA=>⟨⟨hA.1,fun hx=> ?_⟩,r3.block b hb (fun hx=>hA.2 (bR.2 ⟨_,List.mem_of_getElem? hσ,by simpa [cH.blk]using hx⟩))⟩
  obtain⟨s,hs1,hs2⟩:=bR.1 hx
  rcases List.mem_or_eq_of_mem_set hs1 with h|h
  ·exact hA.2 (bR.2 ⟨s,h,hs2⟩)
  ·rw[h]at hs2
   rcases r4 with r4|r4
   ·exact hA.2 (bR.2 ⟨_,List.mem_of_getElem? hσ,r4.symm.trans hs2⟩)
   ·have:V w.heap.size=V b:=r4.symm.trans hs2
    cases this
    omega
 ·simp[execOp,ho,resolve,invoke,builtin,hx',r1]
end
def Rel.am3{A:Nat->Prop}{w:World}{qt:Nat}{l:List (U.dw qt)}{p:Option Addr}{cap:Nat}(h:Rel A w (.sl qt l) (.slice p l.length cap)){lo hi cap':Nat}(h1:lo<=hi)(h2:hi<=l.length)(hc':hi-lo<=cap')(q:Option Addr)(hq:hi-lo=0\/q=p.map (·.add (lo*(U.sz qt)))):
  Rel A w (.sl qt ((l.take hi).drop lo)) (.slice q (hi-lo) cap'):=by
 obtain⟨p',cp,u,hv,hl,hcap,hz,hc,hr⟩:=h.vP
 cases hv
 have hln:((l.take hi).drop lo).length=hi-lo:=by rw[z8,zZ];omega
 have hget:∀i,i<hi-lo->((l.take hi).drop lo)[i]! =l[lo+i]! :=fun i hi'=>by
  rw[getElem!_pos _ i (by rw[hln];exact hi'),getElem!_pos l (lo+i) (by omega),xC,List.getElem_take]
 have hgoal:Rel A w (.sl qt ((l.take hi).drop lo)) (.slice q ((l.take hi).drop lo).length cap'):=by
  refine .sl qt _ q cap' (fun i j=>u (lo+i) j) (by omega) (by omega) (fun i hi'=> ?_) (fun i hi'=> ?_) (fun i j a hi' ha=> ?_)
  ·rw[hln]at hi'
   rw[hget i hi'];exact hz _ (by omega)
  ·rw[hln]at hi'
   obtain⟨b,off,hp,hb,hA,hcc⟩:=hc (lo+i) (by omega)
   refine⟨b,off+lo*(U.sz qt),?_,hb,hA,fun j hj=> ?_⟩
   ·rcases hq with hq|hq
    ·omega
    ·rw[hq,hp,yt,rf]
   ·have:=hcc j hj
    rwa [yb,<-xQ]at this
  ·rw[hln]at hi'
   rw[hget i hi']at ha
   exact hr _ j a (by omega) ha
 rwa [hln]at hgoal
section
variable {P:Program} {E E':Env} {σ σ':List cH} {o:Oper} {T T' e:TypeId} {x y z:Operand} {av bv:AV} {v u:Value} {m n:Int} {b:Bool} {k k':IntKind} {C:Cx} {X:List Nat}
def Uv{w:World}{a:Option Addr}{len cap lo hi:Nat}{s:Nat}{L H:Option Value}(hT:P.underlying T=V (.slice e))(hs:(P.info? e).map (·.size)=V s)
  (hb:(Instr.sliceBounds wO len cap L H O).run P w= .ok (lo,hi,cap) w):(Instr.slice T (.slice a len cap) L H O).run P w= .ok (.slice (if cap=lo then a else a.map (·.add (lo*s))) (hi-lo) (cap-lo)) w:=by
 obtain⟨j,hj,hj'⟩:=zj.1 hs
 simp[Instr.slice,run_underlying hT,hb,sizeOf,typeInfo,hj,hj']
def Ku{w:World}{len cap:Nat}(hh:0<=m/\m<=n/\n<=(len:Int))(hc:len<=cap):(Instr.sliceBounds wO len cap (V (.int k m)) (V (.int k' n)) O).run P w= .ok (m.toNat,n.toNat,cap) w:=by
 have h1:0<=n/\n<=(cap:Int):=by omega
 have h2:0<=m/\m<=((n.toNat:Nat):Int):=by omega
 simp[Instr.sliceBounds,Instr.sliceBound,asIntOf,h1]
 intro hc
 exfalso
 have:=hc (by omega)
 omega
def U9{w:World}{len cap:Nat}(hh:0<=n/\n<=(len:Int))(hc:len<=cap):(Instr.sliceBounds wO len cap O (V (.int k' n)) O).run P w= .ok (0,n.toNat,cap) w:=by
 have h1:0<=n/\n<=(cap:Int):=by omega
 simp[Instr.sliceBounds,Instr.sliceBound,asIntOf,h1]
def T3{w:World}{len cap:Nat}(hh:0<=m/\m<=(len:Int)):(Instr.sliceBounds wO len cap (V (.int k m)) O O).run P w= .ok (m.toNat,len,cap) w:=by
 simp[Instr.sliceBounds,Instr.sliceBound,asIntOf,hh]
def Bk{A:Nat->Prop}{w:World}{ρ:Operand->Value}{q:Nat}{l:List (U.dw q)}{L H:Option Operand}{lo hi:Nat}(ho:o.op= .slice T x L H O)(hx:Rel A w (.sl q l) (ρ x))(hT:P.underlying T=V (.slice e))(hs:(P.info? e).map (·.size)=V (U.sz q))(h1:lo<=hi)(h2:hi<=l.length)
  (hb:∀cap,l.length<=cap->∀w',(Instr.sliceBounds wO l.length cap (L.map ρ) (H.map ρ) O).run P w'= .ok (lo,hi,cap) w'):∃v,Rel A w (.sl q ((l.take hi).drop lo)) v/\∀w':World,(execOp ρ o).run P w'= .ok (.value v) w':=by
 obtain⟨p,cap,u,hv,hl,hcap,_⟩:=hx.vP
 rw[hv]at hx
 refine⟨.slice (if cap=lo then p else p.map (·.add (lo*(U.sz q)))) (hi-lo) (cap-lo),hx.am3 h1 h2 (by omega) _ ?_,fun w'=> ?_⟩
 ·by_cases h:cap=lo
  ·left;omega
  ·right;rw[bF h]
 ·have:=Uv (P:=P) (T:=T) (w:=w') (a:=p) (len:=l.length) hT hs (hb cap hcap w')
  simp[execOp,ho,hv,Instr.sliceAt,run_underlying hT,this]
def Yp.amj{q:Nat}{l:List (U.dw q)}(ho:o.op= .slice T x (V y) (V z) O)(hx:E.ev x=V (.sl q l))(hy:E.ev y=V (.n k m))(hz:E.ev z=V (.n k' n))(hT:P.underlying T=V (.slice e))(hs:(P.info? e).map (·.size)=V (U.sz q))
  (hm:0<=m/\m<=n/\n<=(l.length:Int)):Yp P E σ o (.sl q ((l.take n.toNat).drop m.toNat)):=fun A w ρ _ hρ=>by
 obtain⟨v,h1,h2⟩:=Bk (P:=P) (lo:=m.toNat) (hi:=n.toNat) ho (hρ _ _ hx) hT hs (by omega) (by omega) (fun cap hc w'=>by
  simp only[yt,(hρ _ _ hy).cK,(hρ _ _ hz).cK]
  exact Ku hm hc)
 exact⟨v,h1,fun w' _=>h2 w'⟩
def Yp.aer{q:Nat}{l:List (U.dw q)}(ho:o.op= .slice T x O (V z) O)(hx:E.ev x=V (.sl q l))(hz:E.ev z=V (.n k' n))(hT:P.underlying T=V (.slice e))(hs:(P.info? e).map (·.size)=V (U.sz q))
  (hm:0<=n/\n<=(l.length:Int)):Yp P E σ o (.sl q (l.take n.toNat)):=fun A w ρ _ hρ=>by
 obtain⟨v,h1,h2⟩:=Bk (P:=P) (lo:=0) (hi:=n.toNat) ho (hρ _ _ hx) hT hs (by omega) (by omega) (fun cap hc w'=>by
  simp only[yt,Option.map_none,(hρ _ _ hz).cK]
  exact U9 hm hc)
 exact⟨v,h1,fun w' _=>h2 w'⟩
def Yp.aen{q:Nat}{l:List (U.dw q)}(ho:o.op= .slice T x (V y) O O)(hx:E.ev x=V (.sl q l))(hy:E.ev y=V (.n k m))(hT:P.underlying T=V (.slice e))(hs:(P.info? e).map (·.size)=V (U.sz q))
  (hm:0<=m/\m<=(l.length:Int)):Yp P E σ o (.sl q (l.drop m.toNat)):=fun A w ρ _ hρ=>by
 obtain⟨v,h1,h2⟩:=Bk (P:=P) (lo:=m.toNat) (hi:=l.length) ho (hρ _ _ hx) hT hs (by omega) (by omega) (fun cap hc w'=>by
  simp only[yt,Option.map_none,(hρ _ _ hy).cK]
  exact T3 hm)
 rw[zM]at h1
 exact⟨v,h1,fun w' _=>h2 w'⟩
def Yv.TB{sz':Nat}{q:Nat}{l:List (U.dw q)}(ho:o.op= .slice T x O (V (.const (.int k 0))) (V (.const (.int k' 0))))(hx:E.ev x=V (.sl q l)\/E.ev x=V (.lit (.slice O 0 0)))(hT:P.underlying T=V (.slice e))(hs:(P.info? e).map (·.size)=V sz'):
  Yv P E σ o C [] (fun a σ'=>∃v,a= .lit v/\σ'= .row v e ([]:List (U.dw e))::σ):=fun w ρ hg hρ=>by
 obtain⟨j,hj,hj'⟩:=zj.1 hs
 obtain⟨p,n,cap,hv⟩:∃p n cap,ρ x= .slice p n cap:=by
  rcases hx with hx|hx
  ·obtain⟨p,cap,u,hv,_⟩:=(hρ _ _ hx).vP
   exact⟨p,_,cap,hv⟩
  ·exact⟨O,0,0,(hρ _ _ hx).cK⟩
 have h0:ρ (.const (.int k 0))= .int k 0:=(hρ (.const (.int k 0)) _ rfl).cK
 have h0':ρ (.const (.int k' 0))= .int k' 0:=(hρ (.const (.int k' 0)) _ rfl).cK
 refine⟨.slice p 0 0,w,_,_,⟨_,rfl,rfl⟩,qj hg (Kp.refl [] w) (.inl (by cases p<;>rfl)) ⟨[],⟨by simp, .inl ⟨_,rfl,rfl⟩⟩,fun i hi=>by simp at hi,fun i hi=>by simp at hi⟩,?_, .lit _⟩
 simp[execOp,ho,hv,h0,h0',Instr.sliceAt,Instr.slice,Instr.sliceBounds,Instr.sliceBound,run_underlying hT,sizeOf,typeInfo,hj,asIntOf]
def Yp.akF{p:Option Addr}{l c:Nat}(ho:o.op= .binOp .eql T x y T')(hx:E.ev x=V (.lit (.slice p l c)))(hy:E.ev y=V (.lit (.slice O 0 0)))(hT:P.underlying T=V (.slice e)):Yp P E σ o (.b p.isNone):=Yp.lits fun ρ hρ w=>by
 have:=Lib.run_eql_slice_nil (P:=P) w T e p l c 0 0 hT
 simp[execOp,ho,hρ _ _ hx,hρ _ _ hy,eqGuard,this]
def PL{w:World}(p:Option Addr)(q:Nat)(h:Good C σ w):Tr C [] σ w (.row (.slice p 0 0) q ([]:List (U.dw q))::σ) w:=
 qj h (Kp.refl [] w) (.inl (by cases p<;>rfl)) ⟨[],⟨by simp, .inl ⟨_,rfl,rfl⟩⟩,fun i hi=>by simp at hi,fun i hi=>by simp at hi⟩
def Vw(σ:List cH)(a a':AV):Prop:=∀(A:Nat->Prop) (w:World) (v:Value),Hd A σ w->Rel A w a v->Rel (fun b=>A b\/b∈bH σ) w a' v
def Vw.row{q:Nat}{l:List (U.dw q)}(i:Nat)(hσ:σ[i]? =V (.row v q l)):Vw σ (.lit v) (.sl q l):=fun A w u hd h=>by
 have hu:=h.cK
 subst hu
 have hm:=List.mem_of_getElem? hσ
 obtain⟨us,h1,h2,h3⟩:=hd.1 _ hm
 have hlm:l.length<=9223372036854775807:=by
  rcases h1.2 with ⟨_,_,h⟩|⟨_,_,_,_,_,q1,q2,_⟩
  ·omega
  ·unfold maxLen at q2;omega
 obtain⟨p,cap,hv,hcap⟩:=h1.len
 by_cases h0:l.length=0
 ·rw[hv]
  exact .sl q l p cap (fun _ _=>undef) hlm hcap (fun i hi=>by omega) (fun i hi=>by omega) (fun i j a hi=>by omega)
 ·obtain⟨g,ck,cur,hv2,hgb,hB,_⟩:=h1.at (by omega)
  rw[hv2]at hv
  cases hv
  rw[hv2]
  refine .sl q l _ (ck+1) (fun i j=>(us[i*(U.sz q)+j]?).getD undef) hlm hcap h2 (fun i hi=>⟨g,0,rfl,hB.lt, .inr (bR.2 ⟨_,hm,hgb⟩),fun j hj=> ?_⟩) (fun i j a hi ha=> ?_)
  ·have hlt:i*(U.sz q)+j<us.length:=by
    have:i*(U.sz q)+(U.sz q)<=l.length*(U.sz q):=by rw[<-yH];exact yF _ hi
    rw[h1.1];omega
   rw[yq,zk hlt]
   exact h1.cells hgb _ _ (zk hlt)
  ·obtain⟨u,q1,q2⟩:=(h3 i hi).get ha
   rw[yz]at q1
   split at q1
   ·rw[yw]at q1
    rw[q1]
    exact q2.mono fun b _ hA=>⟨.inl hA,rfl⟩
   ·cases q1
def Vw.nil(q:Nat):Vw σ (.lit (.slice O 0 0)) (.sl q ([]:List (U.dw q))):=fun A w u _ h=>by
 have hu:=h.cK
 subst hu
 exact .sl q [] none 0 (fun _ _=>undef) (by simp) (by simp) (fun i hi=>by cases hi) (fun i hi=>by cases hi) (fun i j a hi=>by cases hi)
def Nl{r:cH}{i:Nat}(hσ:σ[i]? =V r):List.Perm (bH σ) (bH (r::σ.eraseIdx i)):=by
 obtain⟨h1,_⟩:=A9 (r':=r) hσ
 have h2:σ.eraseIdx i=σ.take i++σ.drop (i+1):=wB ..
 rw[h2]
 have hp:List.Perm (σ.take i++r::σ.drop (i+1)) (r::(σ.take i++σ.drop (i+1))):=List.perm_middle
 rw[<-h1]at hp
 exact hp.filterMap _
def KS{r:cH}{i:Nat}{w:World}(hσ:σ[i]? =V r)(hg:Good C σ w):∀b,(al C σ b\/b∈bH [r])->al C (σ.eraseIdx i) b:=fun b hb=>by
 have hp:=Nl hσ
 have hnd:=hp.nodup_iff.1 hg.F8
 rcases hb with hb|hb
 ·exact⟨hb.1,fun hx=>hb.2 (hp.mem_iff.2 (by rw[fB];exact yB _ hx))⟩
 ·have hbs:b∈r.blk.toList:=by rw[fB]at hb;simpa [bH]using hb
  refine⟨?_,fun hx=> ?_⟩
  ·rcases hg.own b (hp.mem_iff.2 (by rw[fB];exact yA _ hbs))with h|h
   ·exact .inr (.inl h)
   ·exact .inr (.inr h)
  ·rw[fB]at hnd
   exact(yE.1 hnd).2.2 b hbs b hx rfl
end
def Fn(P:Program)(f:FuncId)(args:List AV)(σ:List cH)(Φ:AV->List cH->Prop):Prop:=
 ∀(w:World) (A:Nat->Prop) (vs:List Value),bK A w args vs->Hd A σ w->(bH σ).Nodup->
  Calls P f vs.toArray w fun e w'=>∃v av σ',e= .returned v/\Φ av σ'/\Tr ⟨w,A,bH σ⟩ (bH σ) σ w σ' w'/\Rel (al ⟨w,A,bH σ⟩ σ') w' av v
def Fn.mono{P:Program}{f:FuncId}{args:List AV}{σ:List cH}{Φ Ψ:AV->List cH->Prop}(h:Fn P f args σ Φ)(hp:∀a s,Φ a s->Ψ a s):Fn P f args σ Ψ:=fun w A vs h1 h2 h3=>
 (h w A vs h1 h2 h3).mono fun _ _ ⟨v,av,σ',q1,q2,q3⟩=>⟨v,av,σ',q1,hp _ _ q2,q3⟩
def fh:Nat->List AV->Env
 |_,[]=>[]
 |i,v::l=>(i,v)::fh (i+1) l
def BQ:∀(l:List AV) (i t:Nat) (v:AV),Env.get (fh i l) t=V v->i<=t/\l[t-i]? =V v
 |[],_,_,_,h=>by cases h
 |u::l,i,t,v,h=>by
  by_cases hit:i=t
  ·subst hit
   rw[fh,Env.e9]at h
   cases h
   simp
  ·rw[fh,Env.dO _ _ hit]at h
   obtain⟨h1,h2⟩:=BQ l (i+1) t v h
   refine⟨by omega,?_⟩
   rw[show t-i=(t-(i+1))+1 from by omega]
   simpa using h2
def aba(P:Program)(C:Cx)(n:Nat)(fn:Func)(Φ:AV->List cH->Prop):Exit->Env->List cH->Prop:=fun e E σ=>
 (e= .normal\/e= .ret)/\∀a w,uK C n E σ a w->∃v av σ',Φ av σ'/\(results fn a.tmps).run P w= .ok v w/\Good C σ' w/\(∀b,al C σ b->al C σ' b)/\Rel (al C σ') w av v
structure Tn (C:Cx) (w w':World):Prop where
 os:w'.os=w.os
 tape:w'.tape=w.tape
 output:w'.output=w.output
 size:w.heap.size<=w'.heap.size
 old:∀k,k<C.w0.heap.size->w'.heap[k]? =w.heap[k]?
 same:∀(b:Nat) cs T m,w.heap[b]? =V (Obj.cells cs T m)->w'.heap[b]? =w.heap[b]?
def Rel.Js{C:Cx}{A:Nat->Prop}{w w':World}{av:AV}{v:Value}(h:Rel A w av v)(ht:Tn C w w'):Rel A w' av v:=by
 have hcell:∀b i u,w.cell? ⟨b,i,O⟩=V u->w'.cell? ⟨b,i,O⟩=V u:=fun b i u hc=>by
  rw[<-hc]
  cases hb:w.heap[b]? with
  |none=>simp[World.cell?,hb]at hc
  |some o=>
   cases o with
   |cells cs T m=>exact World.cell?_of_block (ht.same b cs T m hb)
   |_=>simp[World.cell?,hb]at hc
 induction h with
 |lit v=>exact .lit v
 |sl q l p cap u hl hcap hz hc hr ih=>
  refine .sl q l p cap u hl hcap hz (fun i hi=> ?_) ih
  obtain⟨b,off,h1,h2,h3,h4⟩:=hc i hi
  exact⟨b,off,h1,xP h2 ht.size,h3,fun j hj=>hcell _ _ _ (h4 j hj)⟩
 |fp cs b o us hb hA hl hc hr ih=>exact .fp cs b o us (xP hb ht.size) hA hl (fun j v hj=>hcell _ _ _ (hc j v hj)) ih
 |rp v k g h=>exact .rp v k g h
 |agg cs us hl hr ih=>exact .agg cs us hl ih
 |jB cs us hl hr ih=>exact .jB cs us hl ih
 |fn f cs us hl hr ih=>exact .fn f cs us hl ih
def cH.ok.Js{C:Cx}{A:Nat->Prop}{w w':World}{r:cH}(h:r.ok A w)(ht:Tn C w w'):r.ok A w':=by
 cases r with
 |box b T cs=>
  obtain⟨us,h1,h2⟩:=h
  exact⟨us,(ht.same _ _ _ _ h1).trans h1,h2.1,fun j a v q1 q2=>(h2.2 j a v q1 q2).Js ht⟩
 |row v q l=>
  obtain⟨us,h1,h2,h3⟩:=h
  refine⟨us,⟨h1.1,?_⟩,h2,fun i hi=>⟨(h3 i hi).1,fun j a v q1 q2=>((h3 i hi).2 j a v q1 q2).Js ht⟩⟩
  rcases h1.2 with q|⟨g,cap,cur,rfl,q1,q2⟩
  ·exact .inl q
  ·exact .inr ⟨g,cap,cur,rfl,(ht.same _ _ _ _ q1).trans q1,q2⟩
def Good.Js{C:Cx}{σ:List cH}{w w':World}(h:Good C σ w)(ht:Tn C w w'):Good C σ w':=
 ⟨⟨ht.os.trans h.kept.os,ht.tape.trans h.kept.tape,ht.output.trans h.kept.output,zx h.kept.size ht.size,fun k hk hX=>(ht.old k hk).trans (h.kept.block k hk hX)⟩,
  fun r hr=>(h.res r hr).Js ht,h.F8,h.own⟩
def Tn.putObj{C:Cx}{w:World}{D:Nat}{o:Obj}(o':Obj)(hw:C.w0.heap.size<=D)(hD:w.heap[D]? =V o)(ho:o.isCells=wN):Tn C w (w.putObj D o'):=
 ⟨rfl,rfl,rfl,by simp[World.putObj],fun k hk=>World.putObj_heap_other (by omega),fun b cs T m hx=>World.putObj_heap_other fun e=>by
  subst e
  rw[hD]at hx
  cases hx
  cases ho⟩
def lM.Js{C:Cx}{A:Nat->Prop}{w w':World}{E:Env}{tmps:Array Value}(h:lM A w E tmps)(ht:Tn C w w'):lM A w' E tmps:=fun t av q=>let ⟨v,h1,h2⟩:=h t av q;⟨v,h1,h2.Js ht⟩
def Fn.of{P:Program}{f:FuncId}{fn:Func}{c:Code}{n:Nat}{args:List AV}{σ:List cH}{Φ:AV->List cH->Prop}(hf:P.funcs[f]? =V fn)(hb:fn.body=V c)(hn:fn.ntmps=n)(hl:ya args.length n=wO)
  (h:∀C,CW P C n c (aba P C n fn Φ) (fh 0 args) σ):Fn P f args σ Φ:=fun w A vs hr hd hnd=>by
 have hl':args.length<=n:=by simpa using hl
 have hvl:=hr.1
 have hal:∀b,b<w.heap.size->A b->al ⟨w,A,bH σ⟩ σ b:=fun b _ hA=>⟨.inl hA,fun hx=>hd.2 b hx hA⟩
 have hgood:Good ⟨w,A,bH σ⟩ σ w:=⟨Kp.refl _ _,fun r hr=>(hd.1 r hr).mono (fun b hb hA=>⟨hal b hb hA,rfl⟩) (fun _ _=>rfl),hnd,fun b hb=> .inl hb⟩
 refine callsIn_wide.1 (callsIn_of_wp_marks (n:=0) hf hb trivial (wpIn_wide.2 (wp_mono (h ⟨w,A,bH σ⟩ _ w ⟨.nil rfl,?_,fun t v ht=> ?_,hgood⟩) ?_)))
 ·simp[hn,hvl];omega
 ·obtain⟨_,h2⟩:=BQ args 0 t v ht
  rw[Nat.sub_zero]at h2
  obtain⟨u,h3,h4⟩:=hr.get h2
  have hlt:t<vs.length:=(zX.1 h3).1
  refine⟨u,?_,h4.mono fun b hb hA=>⟨hal b hb hA,rfl⟩⟩
  rw[Array.getElem?_append_left (by simpa using hlt)]
  simpa using h3
 ·rintro e a' w' ⟨E',σ',h1,he,h2⟩
  have fin:∀(w'':World),uK ⟨w,A,bH σ⟩ n E' σ' {a' with defers:=[]} w''->∃v,(results fn a'.tmps).run P w''= .ok v w''/\∃v' av σ'',Ending.returned v= .returned v'/\Φ av σ''/\Tr ⟨w,A,bH σ⟩ (bH σ) σ w σ'' w''/\Rel (al ⟨w,A,bH σ⟩ σ'') w'' av v':=fun w'' hs=>by
   obtain⟨v,av,σ'',h3,h4,h5,h6,h7⟩:=h2 _ w'' hs
   have hex:Tr ⟨w,A,bH σ⟩ (bH σ) σ w σ'' w'':=⟨h5,h5.kept,fun b hb hA=>⟨⟨hA.1,fun hx=>by
    rcases h5.own b hx with h|h
    ·exact hA.2 h
    ·exact cQ hb (by have:w.heap.size<=b:=h;omega)⟩,hA.2⟩⟩
   exact⟨v,h4,v,av,σ'',rfl,h3,hex,h7⟩
  have lv:LeavesInM Fence.wide 0 P fn a'.tmps (fun e w'=>∃v av σ',e= .returned v/\Φ av σ'/\Tr ⟨w,A,bH σ⟩ (bH σ) σ w σ' w'/\Rel (al ⟨w,A,bH σ⟩ σ') w' av v) a'.defers .returning w':=by
   obtain⟨Ds,hd1,hd2,hd3⟩:=h1.defers
   rw[hd1]
   have hsl:=h1.slots
   have hgd:=h1.good
   have hsz:=h1.size
   clear hd1 h1
   induction Ds generalizing w' with
   |nil=>exact fin w' ⟨.nil rfl,hsz,hsl,hgd⟩
   |cons D Ds ih=>
    obtain⟨q1,q2,q3,q4⟩:=hd3 D zi
    rw[List.nodup_cons]at hd2
    refine⟨by simp, .inl ⟨D,_,rfl,run_takeDeferred q4,?_⟩⟩
    have ht:Tn ⟨w,A,bH σ⟩ w' (w'.putObj D (.deferred O)):= .putObj _ q2 q4 rfl
    refine ih _ hd2.2 (fun D' hD'=> ?_) (hsl.Js ht) (hgd.Js ht)
    obtain⟨p1,p2,p3,p4⟩:=hd3 D' (zJ _ hD')
    have hne:D'≠D:=fun e=>hd2.1 (e▸hD')
    exact⟨xP p1 ht.size,p2,p3,(World.putObj_heap_other hne).trans p4⟩
  rcases he with rfl|rfl
  ·exact lv
  ·exact lv
def tC(tmps:Array Value):ResultVar->Sem Value
 | .tmp t=>pure (tmps.getD t undef)
 | .cell a t=>do loadVar t (<-asAddr (tmps.getD a undef))
def Fo(P:Program)(E:Env)(σ:List cH)(rv:ResultVar)(av:AV):Prop:=∀(A:Nat->Prop) (w:World) (tmps:Array Value),Hd A σ w->lM A w E tmps->∃v,(tC tmps rv).run P w= .ok v w/\Rel A w av v
section
variable {P:Program} {C:Cx} {n:Nat} {fn:Func} {E:Env} {σ σ':List cH} {t u:Nat} {av:AV} {e:Exit} {Φ:AV->List cH->Prop}
def Fo.tmp(h:E.get t=V av):Fo P E σ (.tmp t) av:=fun A w tmps _ hs=>by
 obtain⟨v,h1,h2⟩:=hs t av h
 exact⟨v,by simp[tC,h1],h2⟩
def Fo.apt{g:Nat}{ty T:TypeId}{cs:List AV}(i:Nat)(h:E.get t=V (.lit (.pointer (V ⟨g,0,O⟩))))(hσ:σ[i]? =V (.box g T cs))(hT:tc P ty)(ha:cs[0]? =V av):Fo P E σ (.cell t ty) av:=fun A w tmps hd hs=>by
 obtain⟨v,h1,h2⟩:=hs t _ h
 have h2:=h2.cK
 subst h2
 obtain⟨us,h3,h4⟩:=hd.1 _ (List.mem_of_getElem? hσ)
 obtain⟨v,h5,h6⟩:=h4.get ha
 exact⟨v,by simp[tC,h1,asAddr,iN hT (h3.cell (by simpa using h5))],h6⟩
def Fo.aqw{g k:Nat}{ty T:TypeId}{cs:List AV}(i:Nat)(h:E.get t=V (.lit (.pointer (V ⟨g,0,O⟩))))(hσ:σ[i]? =V (.box g T cs))(hT:tQ P ty k)(hk:cs.length=k):Fo P E σ (.cell t ty) (.agg cs):=fun A w tmps hd hs=>by
 obtain⟨v,h1,h2⟩:=hs t _ h
 have h2:=h2.cK
 subst h2
 obtain⟨us,h3,h4⟩:=hd.1 _ (List.mem_of_getElem? hσ)
 refine⟨_,?_,Rel.ny h4⟩
 have:=ig (P:=P) (T:=ty) (w:=w) (a:=⟨g,0,O⟩) (cs:=us) (by rw[h4.1,hk];exact hT) (fun j u hj=>by rw[rf,yq];exact h3.cell (by simpa using hj))
 simp[tC,h1,asAddr,this]
def ZB(he:e= .normal\/e= .ret)(hs:List.Sublist σ' σ)(hΦ:Φ av σ')(h:∀A w tmps,Hd A σ w->lM A w E tmps->∃v,(results fn tmps).run P w= .ok v w/\Rel A w av v):aba P C n fn Φ e E σ:=
 ⟨he,fun a w ha=>by
  obtain⟨v,h1,h2⟩:=h _ w a.tmps ha.good.hd ha.slots
  have hl:=ha.less hs
  have hal:∀b,al C σ b->al C σ' b:=fun b hb=>⟨hb.1,fun hx=>hb.2 (ry (fun r hr=>hs.subset hr) b hx)⟩
  exact⟨v,av,σ',hΦ,h1,hl.good,hal,h2.mono fun b _ hA=>⟨hal b hA,rfl⟩⟩⟩
end
def AZ(P:Program)(f:FuncId):Prop:=∃fn,P.funcs[f]? =V fn/\(fn.name=="runtime.NumGoroutine")=wN/\fn.body.isNone=wN
def B9{P:Program}{f:FuncId}{w:World}(hf:AZ P f)(args:Array Value):(callFunc f args).run P w= .ok (.enter f args) w:=by
 obtain⟨fn,h1,h2,h3⟩:=hf
 have h2':¬fn.name="runtime.NumGoroutine":=by simpa using h2
 have h3':¬fn.body=O:=by
  intro h
  rw[h]at h3
  cases h3
 simp[callFunc,program,Sem.run,h1,h2',h3']
def Cl(a:AV):Prop:=∀A A' w v,Rel A w a v->Rel A' w a v
def Cl.lit(v:Value):Cl (.lit v):=fun A A' w u h=>by rw[h.cK];exact .lit v
def Kb(as0:List AV):Prop:=∀A A' w us,bK A w as0 us->bK A' w as0 us
def Kb.nil:Kb []:=fun A A' w us h=>by
 have:us=[]:=yZ (by simpa using h.1)
 rw[this];exact bK.nil
def Kb.cons{a:AV}{as0:List AV}(h:Cl a)(hs:Kb as0):Kb (a::as0):=fun A A' w us hr=>by
 obtain⟨v,us',rfl,h1,h2⟩:=hr.head
 exact bK.cons (h A A' w v h1) (hs A A' w us' h2)
def Cl.agg{as0:List AV}(h:Kb as0):Cl (.agg as0):=fun A A' w v hr=>by
 obtain⟨us,rfl,h1⟩:=hr.mN
 exact Rel.ny (h A A' w us h1)
def Cl.jB{as0:List AV}(h:Kb as0):Cl (.jB as0):=fun A A' w v hr=>by
 obtain⟨us,rfl,h1⟩:=hr.P9
 exact Rel.FL (h A A' w us h1)
def ClR(r:cH):Prop:=∀A A' w,r.ok A w->r.ok A' w
def ClR.box{b:Nat}{T:TypeId}{cs:List AV}(h:Kb cs):ClR (.box b T cs):=fun A A' w ⟨us,h1,h2⟩=>⟨us,h1,h A A' w us h2⟩
def ClR.row{v:Value}{q:Nat}{l:List (U.dw q)}(h:∀x,Kb (U.cells q x)):ClR (.row v q l):=fun A A' w ⟨us,h1,h2,h3⟩=>⟨us,h1,h2,fun i hi=>h _ A A' w _ (h3 i hi)⟩
section
variable {P:Program} {C:Cx} {E:Env} {σ σp σr:List cH} {o:Oper} {x:Operand} {f:FuncId} {xs:Array Operand} {ts:Array TypeId} {as0 caps args:List AV} {Φ:AV->List cH->Prop}
def Z5{A:Nat->Prop}{w:World}{ρ:Operand->Value}(ho:o.op= .call {callee:= .value x,args:=xs,argTypes:=ts})(hx:E.ev x=V (.fn (.func f) caps))(hf:AZ P f)(he:E.Ls xs.toList=V as0)(ha:as0++caps=args)(hρ:MP A w E ρ):∃us:List Value,bK A w args us/\(execOp ρ o).run P w= .ok (.enter f us.toArray) w:=by
 obtain⟨us,h1,h2⟩:=(hρ _ _ hx).ZY
 have h3:=Env.Hv hρ he
 refine⟨xs.toList.map ρ++us,ha▸h3.app h2,?_⟩
 have h4:xs.map ρ=(xs.toList.map ρ).toArray:=by apply Array.ext';simp
 simp[execOp,ho,resolve,h1,Deferred.ofValue,invoke,B9 hf,h4]
def bL{σp σr:List cH}{b:Nat}:b∈bH (σp++σr)↔b∈bH σp\/b∈bH σr:=by rw[gK,zU]
def Cn{w w':World}{A:Nat->Prop}{σo:List cH}(hg:Good C (σp++σr) w)(hA:∀b,A b->b<w.heap.size->al C (σp++σr) b\/b∈bH σr)(ht:Tr ⟨w,A,bH σp⟩ (bH σp) σp w σo w')
  (hok:∀r∈σo,r.ok (al C (σo++σr)) w'):Tr C (bH σp) (σp++σr) w (σo++σr) w':=by
 have hlt:∀b∈bH (σp++σr),b<w.heap.size:=fun b hb=>by
  obtain⟨s,h1,h2⟩:=bR.1 hb
  exact(hg.res s h1).lt h2
 have hdis:=hg.F8
 rw[gK]at hdis
 obtain⟨d1,d2,d3⟩:=yE.1 hdis
 have hown:∀b∈bH σo,b∈bH σp\/w.heap.size<=b:=ht.good.own
 have hal:∀b,b<w.heap.size->al C (σp++σr) b->al C (σo++σr) b/\b∉bH σp:=fun b hb hA=>by
  have h2:b∉bH σp/\b∉bH σr:=by
   have:=hA.2
   rw[bL]at this
   exact⟨fun h=>this (.inl h),fun h=>this (.inr h)⟩
  refine⟨⟨hA.1,fun hx=> ?_⟩,h2.1⟩
  rcases bL.1 hx with h|h
  ·rcases hown b h with h|h
   ·exact h2.1 h
   ·omega
  ·exact h2.2 h
 refine⟨⟨hg.kept.trans ht.kp (fun b hb hlt0=> ?_),fun r hr=> ?_,?_,fun b hb=> ?_⟩,ht.kp,hal⟩
 ·rcases hg.own b (bL.2 (.inl hb))with h|h
  ·exact h
  ·exact cQ hlt0 (by omega)
 ·rcases zU.1 hr with h|h
  ·exact hok r h
  ·refine(hg.res r (yB _ h)).mono (fun b hb hA=>⟨(hal b hb hA).1,ht.kp.block b hb (hal b hb hA).2⟩) (fun b hb=> ?_)
   have hbr:b∈bH σr:=bR.2 ⟨r,h,hb⟩
   exact ht.kp.block b (hlt b (bL.2 (.inr hbr))) (fun hp=>d3 b hp b hbr rfl)
 ·rw[gK]
  refine yE.2 ⟨ht.good.F8,d2,fun a ha b hb hab=> ?_⟩
  subst hab
  rcases hown a ha with h|h
  ·exact d3 a h a hb rfl
  ·have:=hlt a (bL.2 (.inr hb));omega
 ·rcases bL.1 hb with h|h
  ·rcases hown b h with h|h
   ·exact hg.own b (bL.2 (.inl h))
   ·exact .inr (zx hg.kept.size h)
  ·exact hg.own b (bL.2 (.inr h))
def Yc.fn(ho:o.op= .call {callee:= .value x,args:=xs,argTypes:=ts})(hx:E.ev x=V (.fn (.func f) caps))(hf:AZ P f)(he:E.Ls xs.toList=V as0)(ha:as0++caps=args)(hσ:σ=σp++σr)(h:Fn P f args σp Φ):
  Yc P E σ o C (bH σp) (fun av σ'=>∃σo,Φ av σo/\σ'=σo++σr):=fun w ρ hg hρ=>by
 subst hσ
 obtain⟨us,h1,h2⟩:=Z5 ho hx hf he ha hρ
 have hlt:∀b∈bH (σp++σr),b<w.heap.size:=fun b hb=>by
  obtain⟨s,h1,h2⟩:=bR.1 hb
  exact(hg.res s h1).lt h2
 have hd:Hd (al C (σp++σr)) σp w:=⟨fun r hr=>hg.res r (yA _ hr),fun b hb hA=>hA.2 (bL.2 (.inl hb))⟩
 have hnd:(bH σp).Nodup:=by have:=hg.F8;rw[gK]at this;exact(yE.1 this).1
 refine⟨f,us.toArray,h2,(h w (al C (σp++σr)) us h1 hd hnd).mono fun e w' ⟨v,av,σo,q1,q2,q3,q4⟩=> ?_⟩
 have hown:∀b∈bH σo,b∈bH σp\/w.heap.size<=b:=q3.good.own
 have hsub:∀b,b<w'.heap.size->al ⟨w,al C (σp++σr),bH σp⟩ σo b->al C (σo++σr) b:=fun b _ hb=>by
  obtain⟨hb1,hb2⟩:=hb
  rcases hb1 with hb1|hb1|hb1
  ·exact⟨hb1.1,fun hx=>(bL.1 hx).elim hb2 (fun h=>hb1.2 (bL.2 (.inr h)))⟩
  ·have hbp:b∈bH σp:=hb1
   refine⟨?_,fun hx=>(bL.1 hx).elim hb2 (fun h=> ?_)⟩
   ·rcases hg.own b (bL.2 (.inl hbp))with h|h
    ·exact .inr (.inl h)
    ·exact .inr (.inr h)
   ·have hdis:=hg.F8
    rw[gK]at hdis
    exact(yE.1 hdis).2.2 b hbp b h rfl
  ·have hbw:w.heap.size<=b:=hb1
   exact⟨.inr (.inr (zx hg.kept.size hbw)),fun hx=>(bL.1 hx).elim hb2 (fun h=>by have:=hlt b (bL.2 (.inr h));omega)⟩
 exact⟨v,av,σo++σr,q1,⟨σo,q2,rfl⟩,Cn hg (fun b hA _=> .inl hA) q3 (fun r hr=>(q3.good.res r hr).mono (fun b hb hA=>⟨hsub b hb hA,rfl⟩) (fun _ _=>rfl)),q4.mono fun b hb hA=>⟨hsub b hb hA,rfl⟩⟩
end
end Go.Iv
namespace Go.Iv
variable [U:sX]
open Go Go.RowKit
section
variable {P:Program} {E E':Env} {σ σ':List cH} {o:Oper} {x:Operand} {av bv:AV} {C:Cx} {X:List Nat} {n:Nat}
def sel:List cH->List Nat->Option (List cH)
 |_,[]=>V []
 |σ,i::is=>match σ[i]?,sel (σ.eraseIdx i) is with
  |some r,V rs=>V (r::rs)
  |_,_=>O
end
def B7{α:Type}{c:Prop}[Decidable c]{a:Option α}{r:α}(h:(if c then a else O)=V r):c/\a=V r:=by
 split at h
 ·exact⟨by assumption,h⟩
 ·cases h
abbrev cN(k:IntKind)(n:Int):List AV:=[.n k n]
abbrev cB(b:Bool):List AV:=[.b b]
instance:Inhabited ByteArray:=⟨.empty⟩
end Go.Iv
namespace Go.Iv
variable [U:sX]
open Go Go.RowKit
section
variable {P:Program} {E E':Env} {σ σ':List cH} {o:Oper} {x:Operand} {av bv:AV} {C:Cx} {X:List Nat} {n:Nat}
def Yp.conv{T T':TypeId}{k k':IntKind}{m:Int}(hT:P.underlying T=V (.int k))(hT':P.underlying T'=V (.int k'))(ho:o.op= .convert T T' x)(hx:E.ev x=V (.n k m)):Yp P E σ o (.n k' (k'.wrap m)):=Yp.lits fun ρ hρ w=>by
 simp[execOp,ho,hρ _ _ hx,convert,run_underlying hT,run_underlying hT',Conv.intToInt]
end
structure Gh where
 v:Nat->Value
 b:Nat->Nat
def cc.sub(ρ:Gh):AV->AV
 | .lit v=> .lit v
 | .sl t l=> .sl t l
 | .fp cs=> .fp (cs.map (cc.sub ρ))
 | .rp v k=> .rp v k
 | .agg cs=> .agg (cs.map (cc.sub ρ))
 | .jB cs=> .jB (cs.map (cc.sub ρ))
 | .fn f cs=> .fn f (cs.map (cc.sub ρ))
 | .own id=> .lit (ρ.v id)
 | .ptr id off=> .lit (.pointer (V ⟨ρ.b id,off,O⟩))
 | .ra id t m off=> .rp (ρ.v id) (m*U.sz t+off)
inductive gX (p:Nat->Prop):AV->Prop
 |lit (v:Value):gX p (.lit v)
 |sl (t:Nat) (l:List (U.dw t)):gX p (.sl t l)
 |fp (cs:List AV) (h:∀c∈cs,gX p c):gX p (.fp cs)
 |rp (v:Value) (k:Nat):gX p (.rp v k)
 |agg (cs:List AV) (h:∀c∈cs,gX p c):gX p (.agg cs)
 |jB (cs:List AV) (h:∀c∈cs,gX p c):gX p (.jB cs)
 |fn (f:Go.Fn) (cs:List AV) (h:∀c∈cs,gX p c):gX p (.fn f cs)
 |own (id:Nat) (h:p id):gX p (.own id)
 |ptr (id off:Nat) (h:p id):gX p (.ptr id off)
 |ra (id t m off:Nat) (h:p id):gX p (.ra id t m off)
abbrev cM(n:Nat):AV->Prop:=gX (fun i=>i<n)
def Ags(p:Nat->Prop)(ρ ρ':Gh):Prop:=∀i,p i->ρ.v i=ρ'.v i/\ρ.b i=ρ'.b i
def gX.mono{p q:Nat->Prop}{d:AV}(h:gX p d)(hn:∀i,p i->q i):gX q d:=by
 induction h with
 |lit v=>exact .lit v
 |sl t l=>exact .sl t l
 |fp cs _ ih=>exact .fp cs ih
 |rp v k=>exact .rp v k
 |agg cs _ ih=>exact .agg cs ih
 |jB cs _ ih=>exact .jB cs ih
 |fn f cs _ ih=>exact .fn f cs ih
 |own id h=>exact .own id (hn _ h)
 |ptr id off h=>exact .ptr id off (hn _ h)
 |ra id t m off h=>exact .ra id t m off (hn _ h)
def gX.sub{p:Nat->Prop}{d:AV}{ρ ρ':Gh}(h:gX p d)(ha:Ags p ρ ρ'):d.sub ρ=d.sub ρ':=by
 have key:∀cs:List AV,(∀c∈cs,c.sub ρ=c.sub ρ')->cs.map (cc.sub ρ)=cs.map (cc.sub ρ'):=fun cs h=>zV h
 induction h with
 |lit v=>simp only[cc.sub]
 |sl t l=>simp only[cc.sub]
 |fp cs _ ih=>simp only[cc.sub];rw[key cs ih]
 |rp v k=>simp only[cc.sub]
 |agg cs _ ih=>simp only[cc.sub];rw[key cs ih]
 |jB cs _ ih=>simp only[cc.sub];rw[key cs ih]
 |fn f cs _ ih=>simp only[cc.sub];rw[key cs ih]
 |own id h=>simp only[cc.sub];rw[(ha id h).1]
 |ptr id off h=>simp only[cc.sub];rw[(ha id h).2]
 |ra id t m off h=>simp only[cc.sub];rw[(ha id h).1]
def gX.Wb{p:Nat->Prop}{cs:List AV}{ρ ρ':Gh}(h:∀c∈cs,gX p c)(ha:Ags p ρ ρ'):cs.map (cc.sub ρ)=cs.map (cc.sub ρ'):=zV fun c hc=>(h c hc).sub ha
def sk(n:Nat)(ρ ρ':Gh):Prop:=∀i,i<n->ρ.v i=ρ'.v i/\ρ.b i=ρ'.b i
def sk.refl(n:Nat)(ρ:Gh):sk n ρ ρ:=fun _ _=>⟨rfl,rfl⟩
def sk.trans{n m:Nat}{ρ ρ' ρ'':Gh}(h:sk n ρ ρ')(h':sk m ρ' ρ'')(hn:n<=m):sk n ρ ρ'':=fun i hi=>
 ⟨(h i hi).1.trans (h' i (by omega)).1,(h i hi).2.trans (h' i (by omega)).2⟩
def cM.mono{n m:Nat}{d:AV}(h:cM n d)(hn:n<=m):cM m d:=gX.mono h fun _ hi=>xP hi hn
def cM.sub{n:Nat}{d:AV}{ρ ρ':Gh}(h:cM n d)(ha:sk n ρ ρ'):d.sub ρ=d.sub ρ':=gX.sub h ha
def cM.Wb{n:Nat}{cs:List AV}{ρ ρ':Gh}(h:∀c∈cs,cM n c)(ha:sk n ρ ρ'):cs.map (cc.sub ρ)=cs.map (cc.sub ρ'):=gX.Wb h ha
inductive IR:Type
 |box (T:Nat) (cs:List AV)
 |row (t:Nat) (l:List (U.dw t))
def IR.res(ρ:Gh)(id:Nat):IR->cH
 | .box T cs=> .box (ρ.b id) T (cs.map (cc.sub ρ))
 | .row t l=> .row (ρ.v id) t l
abbrev aY:Type:=List (Nat×IR)
def aY.res(ρ:Gh)(R:aY):List cH:=R.map fun p=>p.2.res ρ p.1
def IR.cM(n:Nat):IR->Prop
 | .box _ cs=>∀c∈cs,Iv.cM n c
 | .row _ _=>True
def aY.cM(n:Nat)(R:aY):Prop:=∀p∈R,p.1<n/\p.2.cM n
def IR.cM.mono{n m:Nat}{r:IR}(h:r.cM n)(hn:n<=m):r.cM m:=by
 cases r with
 |box T cs=>exact fun c hc=>(h c hc).mono hn
 |row t l=>trivial
def aY.cM.mono{n m:Nat}{R:aY}(h:aY.cM n R)(hn:n<=m):aY.cM m R:=fun p hp=>⟨xP (h p hp).1 hn,(h p hp).2.mono hn⟩
def IR.cM.res{n id:Nat}{r:IR}{ρ ρ':Gh}(h:r.cM n)(hi:id<n)(ha:sk n ρ ρ'):r.res ρ id=r.res ρ' id:=by
 cases r with
 |box T cs=>simp only[IR.res];rw[(ha id hi).2,Iv.cM.Wb h ha]
 |row t l=>simp only[IR.res];rw[(ha id hi).1]
def aY.cM.res{n:Nat}{R:aY}{ρ ρ':Gh}(h:aY.cM n R)(ha:sk n ρ ρ'):aY.res ρ R=aY.res ρ' R:=zV fun p hp=>(h p hp).2.res (h p hp).1 ha
def gx(R:aY)(id:Nat):Option IR:=List.rec O (fun p _ ih=>Bool.rec ih (V p.2) (zb p.1 id)) R
def uv(id:Nat)(r':IR)(R:aY):aY:=List.rec [] (fun p R ih=>Bool.rec (p::ih) ((p.1,r')::R) (zb p.1 id)) R
def kM(id:Nat)(R:aY):aY:=List.rec [] (fun p R ih=>Bool.rec (p::ih) R (zb p.1 id)) R
def Uq{i:Nat}{r:IR}{R:aY}{id:Nat}:gx ((i,r)::R) id=match zb i id with
  |true=>V r
  |false=>gx R id:=by
 show Bool.rec (motive:=fun _=>_) (gx R id) (V r) (zb i id)=_
 cases zb i id<;>rfl
def GL{i:Nat}{r r':IR}{R:aY}{id:Nat}:uv id r' ((i,r)::R)=match zb i id with
  |true=>(i,r')::R
  |false=>(i,r)::uv id r' R:=by
 show Bool.rec (motive:=fun _=>_) ((i,r)::uv id r' R) ((i,r')::R) (zb i id)=_
 cases zb i id<;>rfl
def Bm{i:Nat}{r:IR}{R:aY}{id:Nat}:kM id ((i,r)::R)=match zb i id with
  |true=>R
  |false=>(i,r)::kM id R:=by
 show Bool.rec (motive:=fun _=>_) ((i,r)::kM id R) R (zb i id)=_
 cases zb i id<;>rfl
def gA{a b:Nat}(h:zb a b=wO):a=b:=yW h
def eM:∀{R:aY} {id:Nat} {r:IR},gx R id=V r->∃i:Nat,R[i]? =V (id,r)/\(∀r',uv id r' R=R.set i (id,r'))/\kM id R=R.eraseIdx i
 |[],_,_,h=>by cases h
 |(i,r)::R,id,r0,h=>by
  rw[Uq]at h
  cases hb:zb i id with
  |true=>
   rw[hb]at h
   cases h
   cases gA hb
   exact⟨0,rfl,fun r'=>by rw[GL,hb];rfl,by rw[Bm,hb];rfl⟩
  |false=>
   rw[hb]at h
   obtain⟨j,h1,h2,h3⟩:=eM h
   exact⟨j+1,h1,fun r'=>by rw[GL,hb];simp[h2],by rw[Bm,hb];simp[h3]⟩
def gY{R:aY}{ρ:Gh}{i id:Nat}{r:IR}(h:R[i]? =V (id,r)):(aY.res ρ R)[i]? =V (r.res ρ id):=by
 unfold aY.res
 rw[zY,h]
 rfl
def vk{R:aY}{ρ:Gh}{i id:Nat}{r:IR}:aY.res ρ (R.set i (id,r))=(aY.res ρ R).set i (r.res ρ id):=by
 unfold aY.res
 rw[List.map_set]
def A4{R:aY}{ρ:Gh}{i:Nat}:aY.res ρ (R.eraseIdx i)=(aY.res ρ R).eraseIdx i:=by
 unfold aY.res
 rw[wB,wB,yc,xD,xj]
def EU{R:aY}{id n:Nat}{r:IR}(h:gx R id=V r)(hR:aY.cM n R):id<n/\r.cM n:=by
 obtain⟨i,h1,_⟩:=eM h
 exact hR _ (List.mem_of_getElem? h1)
def qX{R:aY}{id n:Nat}{r r':IR}(h:gx R id=V r)(hR:aY.cM n R)(hr:r'.cM n):aY.cM n (uv id r' R):=by
 obtain⟨i,h1,h2,_⟩:=eM h
 rw[h2]
 intro p hp
 rcases List.mem_or_eq_of_mem_set hp with hp|rfl
 ·exact hR p hp
 ·exact⟨(hR _ (List.mem_of_getElem? h1)).1,hr⟩
def Dn{R:aY}{id n:Nat}(hR:aY.cM n R):aY.cM n (kM id R):=by
 induction R with
 |nil=>exact hR
 |cons p R ih=>
  obtain⟨i,r⟩:=p
  have h2:aY.cM n R:=fun p hp=>hR p (zJ _ hp)
  rw[Bm]
  split
  ·exact h2
  ·intro q hq
   rcases zy.1 hq with rfl|hq
   ·exact hR _ zi
   ·exact ih h2 q hq
def Env.sub(ρ:Gh)(E:Env):Env:=E.map fun p=>(p.1,p.2.sub ρ)
def Env.cM(n:Nat)(E:Env):Prop:=∀p∈E,Iv.cM n p.2
def Env.fe{ρ:Gh}(t:Nat):∀(E:Env),(E.sub ρ).get t=(E.get t).map (cc.sub ρ)
 |[]=>rfl
 |(k,v)::E=>by
  show Env.get ((k,v.sub ρ)::Env.sub ρ E) t=_
  unfold Env.get
  cases hb:zb k t with
  |true=>rfl
  |false=>exact Env.fe t E
def Env.Qh{ρ:Gh}{E:Env}(x:Operand):(E.sub ρ).ev x=(E.ev x).map (cc.sub ρ):=by
 cases x with
 |tmp t=>exact Env.fe t E
 |const v=>simp[Env.ev,cc.sub]
 |global g=>simp[Env.ev,cc.sub]
 |func f=>simp[Env.ev,cc.sub]
def Env.get_mem:∀{E:Env} {t:Nat} {d:AV},E.get t=V d->(t,d)∈E
 |[],_,_,h=>by cases h
 |(k,v)::E,t,d,h=>by
  unfold Env.get at h
  cases hb:zb k t with
  |true=>
   rw[hb]at h
   cases h
   cases gA hb
   exact zi
  |false=>
   rw[hb]at h
   exact zJ _ (Env.get_mem h)
def Env.Vx{E:Env}{n:Nat}{x:Operand}{d:AV}(hE:E.cM n)(h:E.ev x=V d):Iv.cM n d:=by
 cases x with
 |tmp t=>exact hE _ (Env.get_mem h)
 |const v=>cases h;exact .lit _
 |global g=>cases h;exact .lit _
 |func f=>cases h;exact .fn _ [] (by simp)
def Env.cM.mono{n m:Nat}{E:Env}(h:E.cM n)(hn:n<=m):E.cM m:=fun p hp=>(h p hp).mono hn
def Env.cM.sub{n:Nat}{E:Env}{ρ ρ':Gh}(h:E.cM n)(ha:sk n ρ ρ'):E.sub ρ=E.sub ρ':=zV fun p hp=>by rw[(h p hp).sub ha]
inductive ETq (dw:Nat->Type):Type
 |e
 |n (v:Option (cc dw)) (l r:ETq dw)
abbrev ET:Type:=ETq U.dw
def cL(T:ET):Nat->Option AV:=ETq.rec (fun _=>O) (fun v _ _ il ir k=>Bool.rec (Bool.rec (ir (Nat.div (Nat.sub k 1) 2)) (il (Nat.div (Nat.sub k 1) 2)) (zb (Nat.mod (Nat.sub k 1) 2) 0)) v (zb k 0)) T
def ETq.v:ET->Option AV
 | .e=>O
 | .n v _ _=>v
def ETq.l:ET->ET
 | .e=> .e
 | .n _ l _=>l
def ETq.r:ET->ET
 | .e=> .e
 | .n _ _ r=>r
def YS(d:AV)(ih:ET->Nat->ET)(v:Option AV)(l r:ET)(k:Nat):ET:=Bool.rec (Bool.rec (.n v l (ih r (Nat.div (Nat.sub k 1) 2))) (.n v (ih l (Nat.div (Nat.sub k 1) 2)) r) (zb (Nat.mod (Nat.sub k 1) 2) 0)) (.n (V d) l r) (zb k 0)
def sW(d:AV)(m:Nat):ET->Nat->ET:=Nat.rec (fun _ _=> .e) (fun _ ih T k=>ETq.rec (YS d ih O .e .e k) (fun v l r _ _=>YS d ih v l r k) T) m
def mC(t:Nat)(d:AV)(T:ET):ET:=sW d 12 T t
def emap(f:AV->AV)(T:ET):ET:=ETq.rec .e (fun v _ _ il ir=> .n (v.map f) il ir) T
def n8(v:Option AV)(l r:ET)(k:Nat):cL (.n v l r) k=if k=0 then v else if(k-1)%2=0 then cL l ((k-1)/2)else cL r ((k-1)/2):=by
 show Bool.rec (motive:=fun _=>Option AV) (Bool.rec (motive:=fun _=>Option AV) (cL r ((k-1)/2)) (cL l ((k-1)/2)) (zb ((k-1)%2) 0)) v (zb k 0)=_
 by_cases hk:k=0
 ·subst hk;rfl
 ·have h1:zb k 0=wN:=by
   cases h:zb k 0 with
   |false=>rfl
   |true=>exact cQ (yW h) hk
  rw[h1,bF hk]
  by_cases h2:(k-1)%2=0
  ·rw[h2];rfl
  ·have h3:zb ((k-1)%2) 0=wN:=by
    cases h:zb ((k-1)%2) 0 with
    |false=>rfl
    |true=>exact cQ (yW h) h2
   rw[h3,bF h2]
def akQ(k:Nat):cL (.e:ET) k=O:=rfl
def Md(T:ET)(k:Nat):cL T k=if k=0 then T.v else if(k-1)%2=0 then cL T.l ((k-1)/2)else cL T.r ((k-1)/2):=by
 cases T with
 |e=>simp only[ETq.v,ETq.l,ETq.r,akQ,ite_self]
 |n v l r=>exact n8 v l r k
def QE(d:AV)(m:Nat)(T:ET)(k:Nat):sW d (m+1) T k=if k=0 then .n (V d) T.l T.r else if(k-1)%2=0 then .n T.v (sW d m T.l ((k-1)/2)) T.r else .n T.v T.l (sW d m T.r ((k-1)/2)):=by
 have e:sW d (m+1) T k=YS d (sW d m) T.v T.l T.r k:=by cases T<;>rfl
 rw[e]
 show Bool.rec (motive:=fun _=>ET) (Bool.rec (motive:=fun _=>ET) (.n T.v T.l (sW d m T.r ((k-1)/2))) (.n T.v (sW d m T.l ((k-1)/2)) T.r) (zb ((k-1)%2) 0)) (.n (V d) T.l T.r) (zb k 0)=_
 by_cases hk:k=0
 ·subst hk;rfl
 ·have h1:zb k 0=wN:=by
   cases h:zb k 0 with
   |false=>rfl
   |true=>exact cQ (yW h) hk
  rw[h1,bF hk]
  by_cases h2:(k-1)%2=0
  ·rw[h2];rfl
  ·have h3:zb ((k-1)%2) 0=wN:=by
    cases h:zb ((k-1)%2) 0 with
    |false=>rfl
    |true=>exact cQ (yW h) h2
   rw[h3,bF h2]
def Bf(d:AV):∀(m:Nat) (T:ET) (k s:Nat) (av:AV),cL (sW d m T k) s=V av->(k=s/\av=d)\/(k≠s/\cL T s=V av)
 |0,T,k,s,av,h=>by cases h
 |m+1,T,k,s,av,h=>by
  rw[QE]at h
  rw[Md T s]
  split at h
  ·rename_i hk
   subst hk
   rw[n8]at h
   split at h
   ·rename_i hs;subst hs;cases h;exact .inl ⟨rfl,rfl⟩
   ·rename_i hs
    rw[bF hs]
    exact .inr ⟨fun e=>hs e.symm,h⟩
  ·rename_i hk
   split at h
   ·rename_i hk2
    rw[n8]at h
    split at h
    ·rename_i hs;subst hs;exact .inr ⟨hk,by rw[bw rfl];exact h⟩
    ·rename_i hs
     rw[bF hs]
     split at h
     ·rename_i hs2
      rw[bw hs2]
      rcases Bf d m T.l _ _ av h with ⟨h1,h2⟩|⟨h1,h2⟩
      ·exact .inl ⟨by omega,h2⟩
      ·exact .inr ⟨fun e=>h1 (by rw[e]),h2⟩
     ·rename_i hs2
      rw[bF hs2]
      exact .inr ⟨fun e=>hs2 (by rw[<-e];exact hk2),h⟩
   ·rename_i hk2
    rw[n8]at h
    split at h
    ·rename_i hs;subst hs;exact .inr ⟨hk,by rw[bw rfl];exact h⟩
    ·rename_i hs
     rw[bF hs]
     split at h
     ·rename_i hs2
      rw[bw hs2]
      exact .inr ⟨fun e=>hk2 (by rw[e];exact hs2),h⟩
     ·rename_i hs2
      rw[bF hs2]
      rcases Bf d m T.r _ _ av h with ⟨h1,h2⟩|⟨h1,h2⟩
      ·exact .inl ⟨by omega,h2⟩
      ·exact .inr ⟨fun e=>h1 (by rw[e]),h2⟩
def qm{t s:Nat}{d av:AV}{T:ET}(h:cL (mC t d T) s=V av):(t=s/\av=d)\/(t≠s/\cL T s=V av):=Bf d 12 T t s av h
def uU(f:AV->AV):∀(T:ET) (s:Nat),cL (emap f T) s=(cL T s).map f
 | .e,s=>rfl
 | .n v l r,s=>by
  show cL (.n (v.map f) (emap f l) (emap f r)) s=_
  rw[n8,n8,uU f l,uU f r]
  split
  ·rfl
  ·split<;>rfl
def uk(T:ET)(E:Env):Prop:=∀t d,cL T t=V d->E.get t=V d
def uk.put{T:ET}{E:Env}(h:uk T E)(t:Nat)(d:AV):uk (mC t d T) ((t,d)::E):=fun s av hs=>by
 rcases qm hs with ⟨rfl,rfl⟩|⟨h1,h2⟩
 ·exact Env.e9 _ _ _
 ·rw[Env.dO _ _ h1];exact h s av h2
def Fy(T:ET):Operand->Option AV
 | .tmp t=>cL T t
 | .const v=>V (.lit v)
 | .global g=>V (.lit (.pointer (V ⟨g,0,O⟩)))
 | .func f=>V (.fn (.func f) [])
def uk.ev{T:ET}{E:Env}(h:uk T E)(x:Operand)(d:AV)(hx:Fy T x=V d):E.ev x=V d:=by
 cases x with
 |tmp t=>exact h t d hx
 |_=>exact hx
structure St where
 E:ET
 R:aY
 nx:Nat
structure Cg where
 C:Cx
 ρ:Gh
 n:Nat
def Mt(C:Cg)(n:Nat)(s:St)(a:Act)(w:World):Prop:=∃E:Env,uk s.E E/\E.cM s.nx/\aY.cM s.nx s.R/\∃ρ,(sk C.n C.ρ ρ/\C.n<=s.nx)/\uK C.C n (E.sub ρ) (aY.res ρ s.R) a w
def Env.vY{E:Env}{n t:Nat}{d:AV}(hE:E.cM n)(hd:Iv.cM n d):Env.cM n ((t,d)::E):=fun p hp=>by
 rcases zy.1 hp with rfl|hp
 ·exact hd
 ·exact hE p hp
def S2{C:Cx}{σ σ':List cH}(hp:List.Perm σ σ')(b:Nat):al C σ b->al C σ' b:=fun hA=>⟨hA.1,fun hx=>hA.2 ((hp.filterMap _).symm.mem_iff.1 hx)⟩
end Go.Iv
end
noncomputable section
namespace Go.Iv
open Go Go.RowKit
section
variable [U:sX] {β γ δ:Type}
def vw(t e:Nat)(l:List (U.dw t)):Option (List (U.dw e)):=if h:t=e then V (h▸l)else O
def nD{t e:Nat}{l:List (U.dw t)}{l':List (U.dw e)}(h:vw t e l=V l'):∃he:t=e,he▸l=l':=by
 unfold vw at h
 split at h
 ·rename_i he;exact⟨he,zF.inj h⟩
 ·cases h
def iK(k:IntKind):AV->Option Int
 | .lit (.int k' n)=>if k=k' then V n else O
 |_=>O
def UA:AV->Option Bool
 | .lit (.bool b)=>V b
 |_=>O
def asS:AV->Option ByteArray
 | .lit (.string s)=>V s
 |_=>O
def jS(t:Nat):AV->Option (List (U.dw t))
 | .sl t' l=>vw t' t l
 | .lit (.slice O 0 0)=>V []
 |_=>O
def P1(f:AV->Option β)(c:β->AV):Prop:=∀a b,f a=V b->∀A w v,Rel A w a v->Rel A w (c b) v
def P1.i(k:IntKind):P1 (iK k) (cc.n k):=fun a b h A w v hr=>by
 unfold iK at h
 split at h
 ·split at h
  ·rename_i hk
   subst hk
   cases h
   exact hr
  ·cases h
 ·cases h
def P1.b:P1 UA cc.b:=fun a b h A w v hr=>by
 unfold UA at h
 split at h
 ·cases h;exact hr
 ·cases h
def P1.s:P1 asS cc.s:=fun a b h A w v hr=>by
 unfold asS at h
 split at h
 ·cases h;exact hr
 ·cases h
def P1.l(t:Nat):P1 (jS t) (cc.sl t):=fun a b h A w v hr=>by
 unfold jS at h
 split at h
 ·obtain⟨rfl,rfl⟩:=nD h
  exact hr
 ·cases h
  exact(Vw.nil (σ:=[]) t A w v ⟨fun r h=>(by cases h),fun b h=>(by cases h)⟩ hr).mono fun b _ hA=>⟨hA.elim id (fun h=>(by cases h)),rfl⟩
 ·cases h
def oY:List AV->Option Unit
 |[]=>V ()
 |_=>O
def dM(f:AV->Option β)(q:List AV->Option γ):List AV->Option (β×γ)
 |a::cs=>(f a).bind fun b=>(q cs).map fun g=>(b,g)
 |[]=>O
def Pk(q:List AV->Option γ)(c:γ->List AV):Prop:=∀cs g,q cs=V g->∀A w us,bK A w cs us->bK A w (c g) us
def Pk.nil:Pk oY (fun _=>[]):=fun cs g h A w us hr=>by
 unfold oY at h
 split at h
 ·exact hr
 ·cases h
def Pk.cons{f:AV->Option β}{c:β->AV}{q:List AV->Option γ}{d:γ->List AV}(h:P1 f c)(hq:Pk q d):Pk (dM f q) (fun x=>c x.1::d x.2):=fun cs g hg A w us hr=>by
 unfold dM at hg
 split at hg
 ·obtain⟨b,h1,hg⟩:=zm.1 hg
  obtain⟨g',h2,rfl⟩:=zj.1 hg
  obtain⟨v,us',rfl,h3,h4⟩:=hr.head
  exact bK.cons (h _ _ h1 A w v h3) (hq _ _ h2 A w us' h4)
 ·cases hg
def Pk.map{q:List AV->Option γ}{d:γ->List AV}{c:δ->List AV}(e:γ->δ)(hq:Pk q d)(hc:∀g,c (e g)=d g):Pk (fun cs=>(q cs).map e) c:=fun cs g hg A w us hr=>by
 obtain⟨g',h1,rfl⟩:=zj.1 hg
 rw[hc]
 exact hq _ _ h1 A w us hr
def aiG:AV->Bool
 | .lit _=>wO
 | .sl _ _=>wO
 |_=>wN
def aaa(cs:List AV)(h:cs.all aiG=wO)(n:Nat):∀c∈cs,cM n c:=fun c hc=>by
 have:=zo.1 h c hc
 cases c<;>first|(cases this;done)|exact .lit _|exact .sl _ _
def ZL(cs:List AV)(h:cs.all aiG=wO)(ρ:Gh):cs.map (cc.sub ρ)=cs:=by
 have:cs.map (cc.sub ρ)=cs.map id:=zV fun c hc=>by
  have:=zo.1 h c hc
  cases c<;>first|(cases this;done)|simp only[cc.sub,id]
 rw[this,List.map_id]
def Pk.none{c:γ->List AV}:Pk (fun _=>Option.none) c:=fun cs g hg=>by cases hg
end
end Go.Iv
end
noncomputable section
namespace Go.Iv
variable [U:sX]
open Go Go.RowKit
section
variable {P:Program} {E E':Env} {σ σ':List cH} {o:Oper} {x y:Operand} {av bv:AV} {C:Cx} {X:List Nat} {n:Nat} {T T' e:TypeId}
def Hd.keep{A:Nat->Prop}{w w':World}(h:Hd A σ w)(hw:∀b,b<w.heap.size->(A b\/b∈bH σ)->w'.heap[b]? =w.heap[b]?):Hd A σ w':=
 ⟨fun r hr=>(h.1 r hr).mono (fun b hb hA=>⟨hA,hw b hb (.inl hA)⟩) (fun b hb=>hw b ((h.1 r hr).lt hb) (.inr (bR.2 ⟨r,hr,hb⟩))),h.2⟩
def MP.keep{A:Nat->Prop}{w w':World}{ρ:Operand->Value}(h:MP A w E ρ)(hw:∀b,b<w.heap.size->A b->w'.heap[b]? =w.heap[b]?):MP A w' E ρ:=fun x u hx=>(h x u hx).mono fun b hb hA=>⟨hA,hw b hb hA⟩
def rJ{A:Nat->Prop}{w:World}{k:IntKind}:∀{l:List Int} {us:List Value},bK A w (l.map (cc.n k)) us->us=l.map (Value.int k)
 |[],us,h=>yZ (by simpa using h.1)
 |x::l,us,h=>by
  obtain⟨v,us',rfl,h1,h2⟩:=bK.head (show bK A w (cc.n k x::l.map (cc.n k)) us from h)
  rw[h1.cK,rJ h2]
  rfl
def Yp.b2s{q:Nat}{l:List Int}{l0:List (U.dw q)}(ho:o.op= .convert T T' x)(hx:Src σ E x q l0)(hn:l0.flatMap (U.cells q)=l.map (cc.n .u8))(hz:U.sz q=1)(hs:P.underlying T=V (.slice e))(he:P.underlying e=V (.int .u8))(hd:P.underlying T'=V .string):Yp P E σ o (.s (strOfNums l)):=fun A w ρ h hρ=>
 ⟨_, .lit _,fun w' hw=>by
  obtain⟨p,cap,news,h1,h2,h3,_,h5,_⟩:=hx.spec (h.keep hw) (hρ.keep fun b hb hA=>hw b hb (.inl hA))
  have h6:=rJ (by rw[hn]at h5;exact h5)
  have hl0:l0.length=l.length:=by rw[hz,y4]at h3;rw[<-h3,h6,zK]
  rw[hl0]at h1 h2
  have hconv:(convert T T' (.slice p l.length cap)).run P w'= .ok (.string (strOfNums l)) w':=by
   cases p with
   |none=>
    have:l=[]:=by
     rcases h2 with h2|⟨a,h2,_⟩
     ·exact yZ h2
     ·cases h2
    subst this
    have hc:=run_convert_bytes_nil (P:=P) w' T e hs he 0 cap T' hd
    have:strOfNums []=ByteArray.empty:=rfl
    rw[this]
    simpa using hc
   |some a=>
    have hl:(loadCells a l.length).run P w'= .ok (l.map (Value.int .u8)).toArray w':=by
     rcases h2 with h2|⟨a',h2,h4⟩
     ·have:l=[]:=yZ h2
      subst this
      simp[loadCells,loadCellsFrom]
     ·cases h2
      have:=run_loadCells_list (P:=P) w' a (l.map (Value.int .u8)) (fun j v hj=>h4 j v (by rw[h6];exact hj))
      simpa using this
    rw[run_convert_bytes_string w' T T' e _ l.length cap hs he hd,run_bytesToString w' _ l.length cap l hl,foldl_push_bytes]
    simp[strOfNums,ByteArray.empty,ByteArray.emptyWithCapacity]
    rfl
  simp[execOp,ho,h1,hconv]⟩
def Yp.axY{s t:ByteArray}(ho:o.op= .binOp .eql T x y T')(hx:E.ev x=V (.s s))(hy:E.ev y=V (.s t)):Yp P E σ o (.b (s.toList==t.toList)):=Yp.lits fun ρ hρ w=>by
 simp[execOp,ho,hρ _ _ hx,hρ _ _ hy,eqGuard,binOp,Op.stringOp]
def Yp.awE{s t:ByteArray}(ho:o.op= .binOp .neq T x y T')(hx:E.ev x=V (.s s))(hy:E.ev y=V (.s t)):Yp P E σ o (.b (!(s.toList==t.toList))):=Yp.lits fun ρ hρ w=>by
 simp[execOp,ho,hρ _ _ hx,hρ _ _ hy,eqGuard,binOp,Op.stringOp]
def run_equal_bool{w:World}{b c:Bool}(hT:P.underlying T=V .bool):(Op.equal T (.bool b) (.bool c)).run P w= .ok (b==c) w:=by
 obtain⟨d,hd⟩:∃d,Op.maxDepth=d+1:=⟨Op.maxDepth-1,by decide⟩
 unfold Op.equal
 rw[hd]
 unfold Op.equalIn
 simp only[Sem.run_bind,run_underlying hT,Result.andThen_ok]
 rfl
def Yp.ays{b c:Bool}(ho:o.op= .binOp .eql T x y T')(hT:P.underlying T=V .bool)(hx:E.ev x=V (.b b))(hy:E.ev y=V (.b c)):Yp P E σ o (.b (b==c)):=Yp.lits fun ρ hρ w=>by
 have hbin:binOp .eql T (.bool b) (.bool c)=(do pure (.bool (<-Op.equal T (.bool b) (.bool c)))):=rfl
 have h1:=run_equal_bool (P:=P) (T:=T) (w:=w) (b:=b) (c:=c) hT
 simp only[execOp,ho,hρ _ _ hx,hρ _ _ hy,eqGuard,hbin]
 simp[h1]
def Yp.axw{b c:Bool}(ho:o.op= .binOp .neq T x y T')(hT:P.underlying T=V .bool)(hx:E.ev x=V (.b b))(hy:E.ev y=V (.b c)):Yp P E σ o (.b (!(b==c))):=Yp.lits fun ρ hρ w=>by
 have hbin:binOp .neq T (.bool b) (.bool c)=(do pure (.bool (!(<-Op.equal T (.bool b) (.bool c))))):=rfl
 have h1:=run_equal_bool (P:=P) (T:=T) (w:=w) (b:=b) (c:=c) hT
 simp only[execOp,ho,hρ _ _ hx,hρ _ _ hy,eqGuard,hbin]
 simp[h1]
end
end Go.Iv
end
noncomputable section
namespace Go.Iv
variable [U:sX]
open Go Go.RowKit
class nQ [U:sX] where
 len:∀t x,(U.cells t x).length=U.sz t
 one:∀t x,(U.cells t x).all iA=wO
 clo:∀t x ρ,(U.cells t x).map (cc.sub ρ)=U.cells t x
 rN:∀t x n,∀c∈U.cells t x,cM n c
 parse:(t:Nat)->List AV->Option (U.dw t)
 lW:∀t cs x,parse t cs=V x->∀A w us,bK A w cs us->bK A w (U.cells t x) us
 acu:(t:Nat)->List (U.dw t)->Option (List Int)
 Ae:∀t l ns,acu t l=V ns->l.flatMap (U.cells t)=ns.map (.n .u8)/\U.sz t=1
 fz:Nat->Bool:=fun _=>wN
 arr:Nat->Bool:=fun _=>wN
 gtB:(t:Nat)->U.dw t->Nat->Bool:=fun _ _ _=>wN
 stB:(t:Nat)->U.dw t->Nat->Bool->U.dw t:=fun _ x _ _=>x
 aeS:∀t,arr t=wO->∀x i,i<U.sz t->(U.cells t x)[i]? =V (.lit (.bool (gtB t x i))):=by intro t h;exact Bool.noConfusion h
 abk:∀t,arr t=wO->∀x i b,i<U.sz t->U.cells t (stB t x i b)=(U.cells t x).take i++[.lit (.bool b)]++(U.cells t x).drop (i+1):=by intro t h;exact Bool.noConfusion h
variable [L:nQ]
def Mu(P:Program)(t n:Nat):Bool:=match P.info? t with
 |some i=>zb i.size n
 |none=>wN
def se{P:Program}{t n:Nat}(h:Mu P t n=wO):(P.info? t).map (·.size)=V n:=by
 unfold Mu at h
 cases hi:P.info? t with
 |none=>rw[hi]at h;cases h
 |some i=>
  rw[hi]at h
  simp only[yt,zF.injEq]
  exact gA h
def TG(P:Program)(t:Nat):Bool:=match P.underlying t with
 |some (.struct _)=>wN
 |some (.array _ _)=>wN
 |some _=>wO
 |none=>wN
def CL{P:Program}{t:Nat}(h:TG P t=wO):tc P t:=by
 unfold TG at h
 unfold tc
 split at h
 ·cases h
 ·cases h
 ·rename_i d hd
  refine⟨_,hd,?_⟩
  split
  ·simp_all
  ·simp_all
  ·trivial
 ·cases h
def RK(P:Program)(t:Nat):Option Nat:=match P.underlying t with
 |some (.struct _)=>(P.info? t).map (·.size)
 |some (.array _ _)=>(P.info? t).map (·.size)
 |_=>O
def KU{P:Program}{t n:Nat}(h:RK P t=V n):tQ P t n:=by
 unfold RK at h
 split at h
 ·rename_i hd;exact⟨⟨_,hd,trivial⟩,h⟩
 ·rename_i hd;exact⟨⟨_,hd,trivial⟩,h⟩
 ·cases h
def Fv(rd:Nat->Option IR):AV->Bool
 | .own id=>match rd id with
  |some (.row _ _)=>wO
  |_=>wN
 | .ptr _ _=>wO
 | .ra _ _ _ _=>wN
 |d=>iA d
def Ft(rd:Nat->Option IR):AV->Bool
 | .agg cs=>cs.all (Fv rd)
 |d=>Fv rd d
section
variable {α:Type} {r:α} {P:Program} {o:Oper} {E:Env} {R:aY} {nx:Nat} {ev:Operand->Option AV} {rd:Nat->Option IR} {x y z:Operand} {d:AV}
structure j8 (ev:Operand->Option AV) (rd:Nat->Option IR) (nx:Nat) (E:Env) (R:aY):Prop where
 e:∀x d,ev x=V d->E.ev x=V d
 r:∀id r,rd id=V r->gx R id=V r
 le:E.cM nx
 lr:aY.cM nx R
def j8.fT(h:j8 ev rd nx E R)(hx:ev x=V d)(ρ:Gh):(E.sub ρ).ev x=V (d.sub ρ):=by
 rw[Env.Qh,h.e _ _ hx];rfl
def j8.rN(h:j8 ev rd nx E R)(hx:ev x=V d):cM nx d:=Env.Vx h.le (h.e _ _ hx)
def j8.row(h:j8 ev rd nx E R){id t:Nat}{l:List (U.dw t)}(hr:rd id=V (.row t l))(ρ:Gh):∃i:Nat,(aY.res ρ R)[i]? =V (.row (ρ.v id) t l):=by
 obtain⟨i,h1,_⟩:=eM (h.r _ _ hr)
 exact⟨i,gY h1⟩
def j8.box(h:j8 ev rd nx E R){id t:Nat}{cs:List AV}(hr:rd id=V (.box t cs))(ρ:Gh):∃i:Nat,(aY.res ρ R)[i]? =V (.box (ρ.b id) t (cs.map (cc.sub ρ))):=by
 obtain⟨i,h1,_⟩:=eM (h.r _ _ hr)
 exact⟨i,gY h1⟩
def j8.adA(h:j8 ev rd nx E R){id t:Nat}{cs:List AV}(hr:rd id=V (.box t cs)):∀c∈cs,cM nx c:=(EU (h.r _ _ hr) h.lr).2
def Pu(P:Program)(o:Oper)(E:Env)(R:aY)(nx:Nat)(d:AV):Prop:=cM nx d/\∀ρ,Yp P (E.sub ρ) (aY.res ρ R) o (d.sub ρ)
def bT(ρ:Gh)(v:Value):cc.sub ρ (.lit v)= .lit v:=by simp only[cc.sub]
def gE(ρ:Gh)(t:Nat)(l:List (U.dw t)):cc.sub ρ (.sl t l)= .sl t l:=by simp only[cc.sub]
def dW(ρ:Gh)(id:Nat):cc.sub ρ (.own id)= .lit (ρ.v id):=by simp only[cc.sub]
def fE(ρ:Gh)(id off:Nat):cc.sub ρ (.ptr id off)= .lit (.pointer (V ⟨ρ.b id,off,O⟩)):=by simp only[cc.sub]
def jM(ρ:Gh)(id t m off:Nat):cc.sub ρ (.ra id t m off)= .rp (ρ.v id) (m*U.sz t+off):=by simp only[cc.sub]
def mq(ρ:Gh)(cs:List AV):cc.sub ρ (.fp cs)= .fp (cs.map (cc.sub ρ)):=by simp only[cc.sub]
def eN(ρ:Gh)(cs:List AV):cc.sub ρ (.agg cs)= .agg (cs.map (cc.sub ρ)):=by simp only[cc.sub]
def kO(ρ:Gh)(cs:List AV):cc.sub ρ (.jB cs)= .jB (cs.map (cc.sub ρ)):=by simp only[cc.sub]
def tH(ρ:Gh)(f:Go.Fn)(cs:List AV):cc.sub ρ (.fn f cs)= .fn f (cs.map (cc.sub ρ)):=by simp only[cc.sub]
def Pu.lit{v:Value}(h:∀ρ,Yp P (E.sub ρ) (aY.res ρ R) o (.lit v)):Pu P o E R nx (.lit v):=⟨.lit v,fun ρ=>by rw[bT];exact h ρ⟩
def Xg(b:BinOp)(k:IntKind)(m n:Int)(K:AV->Option α):Option α:=match b with
 | .add=>K (.n k (k.wrap (m+n)))
 | .sub=>K (.n k (k.wrap (m-n)))
 | .mul=>K (.n k (k.wrap (m*n)))
 | .quo=>if n≠0 then K (.n k (k.wrap (Int.tdiv m n)))else O
 | .rem=>if n≠0 then K (.n k (Int.tmod m n))else O
 | .and=>K (.n k (uA k m n))
 | .or=>K (.n k (bOr k m n))
 | .xor=>K (.n k (aoN k m n))
 | .andNot=>K (.n k (amd k m n))
 | .lss=>K (.b (wP (m<n)))
 | .leq=>K (.b (wP (m<=n)))
 | .gtr=>K (.b (wP (n<m)))
 | .geq=>K (.b (wP (n<=m)))
 | .eql=>K (.b (wP (m=n)))
 | .neq=>K (.b (!wP (m=n)))
 |_=>O
def Yp.alB{T T' e q:Nat}{E:Env}{σ:List cH}{l:List (U.dw q)}(ho:o.op= .binOp .eql T x y T')(hx:E.ev x=V (.sl q l))(hy:E.ev y=V (.lit (.slice O 0 0)))(hT:P.underlying T=V (.slice e))(hl:l≠[]):Yp P E σ o (.b wN):=fun A w ρ _ hρ=>by
 obtain⟨p,cap,u,hv,_,_,_,hc,_⟩:=(hρ _ _ hx).vP
 have h2:=(hρ _ _ hy).cK
 obtain⟨b,off,hp,_⟩:=hc 0 (List.length_pos_iff.2 hl)
 subst hp
 refine⟨_, .lit _,fun w' _=> ?_⟩
 have h1:=Lib.run_eql_slice_nil (P:=P) w' T e (V ⟨b,off,O⟩) l.length cap 0 0 hT
 simp[execOp,ho,hv,h2,eqGuard,h1]
def Yp.ans{T T' e q i:Nat}{v:Value}{E:Env}{σ:List cH}{l:List (U.dw q)}(ho:o.op= .binOp .eql T x y T')(hx:E.ev x=V (.lit v))(hσ:σ[i]? =V (.row v q l))(hy:E.ev y=V (.lit (.slice O 0 0)))(hT:P.underlying T=V (.slice e))(hl:l≠[]):Yp P E σ o (.b wN):=fun A w ρ hd hρ=>by
 obtain⟨us,h1,_⟩:=hd.1 _ (List.mem_of_getElem? hσ)
 obtain⟨g,cap,cur,hv,_⟩:=h1.at (List.length_pos_iff.2 hl)
 have hx':=(hρ _ _ hx).cK
 have h2:=(hρ _ _ hy).cK
 refine⟨_, .lit _,fun w' _=> ?_⟩
 have h1:=Lib.run_eql_slice_nil (P:=P) w' T e (V ⟨g,0,O⟩) l.length (cap+1) 0 0 hT
 simp[execOp,ho,hx',hv,h2,eqGuard,h1]
def Po(P:Program)(t:TypeId)(a b:AV):Option Bool:=match P.underlying t with
 |some (.int _)=>match a,b with
  | .lit (.int k m), .lit (.int k' n)=>if k=k' then V (wP (m=n))else O
  |_,_=>O
 |some .bool=>match a,b with
  | .lit (.bool p), .lit (.bool q)=>V (p==q)
  |_,_=>O
 |some .string=>match a,b with
  | .lit (.string p), .lit (.string q)=>V (p.toList==q.toList)
  |_,_=>O
 |_=>O
def UD(P:Program)(xs ys:List AV):List Field->Option Bool
 |[]=>V wO
 |f::fs=>match (f.name !="_")&&TG P f.type with
  |true=>match xs[f.offset]?,ys[f.offset]? with
   |some a,V b=>(Po P f.type a b).bind fun r=>(UD P xs ys fs).map fun q=>r&&q
   |_,_=>O
  |false=>O
def vN{P:Program}{t:TypeId}(h:tc P t){us:List Value}{i:Nat}{v:Value}(hv:us[i]? =V v)(w:World):(part t us.toArray i).run P w= .ok v w:=by
 unfold part
 rw[Sem.run_bind,mL h]
 simp[hv]
def Qm{P:Program}{t:TypeId}{a b:AV}{q:Bool}(h:Po P t a b=V q){A A':Nat->Prop}{w w' w'':World}{u v:Value}{ρ ρ':Gh}(ha:Rel A w (a.sub ρ) u)(hb:Rel A' w' (b.sub ρ') v)(d:Nat):(Op.equalIn (d+1) t u v).run P w''= .ok q w'':=by
 unfold Po at h
 split at h
 ·rename_i k0 ht
  split at h
  ·split at h
   ·rename_i hk
    subst hk
    cases h
    simp only[cc.sub]at ha hb
    rw[ha.cK,hb.cK]
    exact run_equalIn_int _ d t _ k0 _ _ ht
   ·cases h
  ·cases h
 ·rename_i ht
  split at h
  ·cases h
   simp only[cc.sub]at ha hb
   rw[ha.cK,hb.cK]
   exact run_equalIn_bool' _ d t _ _ ht
  ·cases h
 ·rename_i ht
  split at h
  ·cases h
   simp only[cc.sub]at ha hb
   rw[ha.cK,hb.cK]
   exact run_equalIn_string _ d t _ _ ht
  ·cases h
 ·cases h
def KL{P:Program}{xs ys:List AV}{A A':Nat->Prop}{w w' w'':World}{us vs:List Value}{ρ ρ':Gh}(ha:bK A w (xs.map (cc.sub ρ)) us)(hb:bK A' w' (ys.map (cc.sub ρ')) vs)(d:Nat):∀{fs:List Field} {q:Bool},UD P xs ys fs=V q->(Op.eqFields (d+1) us.toArray vs.toArray fs).run P w''= .ok q w''
 |[],q,h=>by cases h;simp[Op.eqFields]
 |f::fs,q,h=>by
  unfold UD at h
  split at h
  case h_2=>cases h
  rename_i hf
  simp only[zf,bne_iff_ne,ne_eq]at hf
  split at h
  case h_2=>cases h
  rename_i a b hx hy
  obtain⟨r1,h1,h⟩:=zm.1 h
  obtain⟨q1,h2,rfl⟩:=zj.1 h
  obtain⟨u,hu,hu'⟩:=ha.get (a:=a.sub ρ) (j:=f.offset) (by rw[zY,hx];rfl)
  obtain⟨v,hv,hv'⟩:=hb.get (a:=b.sub ρ') (j:=f.offset) (by rw[zY,hy];rfl)
  have ih:=KL (w'':=w'') ha hb d h2
  have hone:=CL hf.2
  unfold Op.eqFields
  rw[bw hf.1]
  simp only[Sem.run_bind,vN hone hu,vN hone hv,Result.andThen_ok,Qm (w'':=w'') h1 hu' hv' d]
  cases r1 with
  |true=>simpa using ih
  |false=>simp
def Yp.seq'{T T':TypeId}{E:Env}{σ:List cH}{b:BinOp}{cs ds:List AV}{fs:Array Field}{q:Bool}{ρ ρ':Gh}(ho:o.op= .binOp b T x y T')(hx:E.ev x=V (.agg (cs.map (cc.sub ρ))))(hy:E.ev y=V (.agg (ds.map (cc.sub ρ'))))(hT:P.underlying T=V (.struct fs))(hp:P.stoodInHeld T=wN)(hg:P.eqGuardType P.depth T=wN)(hq:UD P cs ds fs.toList=V q)(hb:b= .eql\/b= .neq):
  Yp P E σ o (.b (match b with| .neq=> !q|_=>q)):=fun A w ϱ _ hρ=>by
 obtain⟨us,h1,h2⟩:=(hρ _ _ hx).mN
 obtain⟨vs,h3,h4⟩:=(hρ _ _ hy).mN
 refine⟨_, .lit _,fun w' _=> ?_⟩
 have hT':P.underlying T=V (.struct (P.fieldsOf T)):=by unfold Program.fieldsOf;rw[hT]
 have hfs:P.fieldsOf T=fs:=by unfold Program.fieldsOf;rw[hT]
 have he:=run_equalIn_struct (P:=P) w' 9999 T us.toArray vs.toArray hT' hp
 rw[hfs,KL (w'':=w') h2 h4 9998 hq]at he
 have hgr:=run_eqGuard_agg (P:=P) w' b T x y us.toArray vs.toArray hg
 rcases hb with rfl|rfl
 ·have h5:=run_eql_struct (P:=P) w' T us.toArray vs.toArray
  rw[he]at h5
  simp[execOp,ho,h1,h3,hgr,h5]
 ·have h5:=run_neq_struct (P:=P) w' T us.toArray vs.toArray
  rw[he]at h5
  simp[execOp,ho,h1,h3,hgr,h5]
def eqS(P:Program)(b:BinOp)(T:TypeId)(cs ds:List AV)(K:AV->Option α):Option α:=match P.underlying T with
 |some (.struct fs)=>match !P.stoodInHeld T&& !P.eqGuardType P.depth T with
  |true=>match b with
   | .eql=>(UD P cs ds fs.toList).bind fun q=>K (.b q)
   | .neq=>(UD P cs ds fs.toList).bind fun q=>K (.b (!q))
   |_=>O
  |false=>O
 |_=>O
def akp{b:BinOp}{T T':TypeId}{cs ds:List AV}(hs:j8 ev rd nx E R)(ho:o.op= .binOp b T x y T')(hx:ev x=V (.agg cs))(hy:ev y=V (.agg ds)){K:AV->Option α}(h:eqS P b T cs ds K=V r):∃d,K d=V r/\Pu P o E R nx d:=by
 unfold eqS at h
 split at h
 case h_2=>cases h
 rename_i fs hT
 split at h
 case h_2=>cases h
 rename_i hg
 simp only[zf,Bool.not_eq_true']at hg
 have ex:=fun ρ=>hs.fT hx ρ
 have ey:=fun ρ=>hs.fT hy ρ
 simp only[eN]at ex ey
 split at h
 ·obtain⟨q,hq,h⟩:=zm.1 h
  exact⟨_,h, .lit fun ρ=> .seq' ho (ex ρ) (ey ρ) hT hg.1 hg.2 hq (.inl rfl)⟩
 ·obtain⟨q,hq,h⟩:=zm.1 h
  exact⟨_,h, .lit fun ρ=> .seq' ho (ex ρ) (ey ρ) hT hg.1 hg.2 hq (.inr rfl)⟩
 ·cases h
def uC(P:Program)(rd:Nat->Option IR)(b:BinOp)(T:TypeId)(x y:Option AV)(K:AV->Option α):Option α:=match x,y with
 |some (.lit (.int k m)),V (.lit (.int k' n))=>match b with
  | .shl=>if 0<=n then K (.n k (mO k m n))else O
  | .shr=>if 0<=n then K (.n k (cW k m n))else O
  |_=>if k=k' then Xg b k m n K else O
 |some (.lit (.bool p)),V (.lit (.bool q))=>match P.underlying T with
  |some .bool=>match b with
   | .eql=>K (.b (p==q))
   | .neq=>K (.b (!(p==q)))
   |_=>O
  |_=>O
 |some (.lit (.string s)),V (.lit (.string t))=>match b with
  | .eql=>K (.b (s.toList==t.toList))
  | .neq=>K (.b (!(s.toList==t.toList)))
  |_=>O
 |some (.lit (.slice p _ _)),V (.lit (.slice O 0 0))=>match b,P.underlying T with
  | .eql,V (.slice _)=>K (.b p.isNone)
  |_,_=>O
 |some (.sl _ l),V (.lit (.slice O 0 0))=>match b,P.underlying T with
  | .eql,V (.slice _)=>match l with
   |[]=>O
   |_::_=>K (.b wN)
  |_,_=>O
 |some (.own id),V (.lit (.slice O 0 0))=>match b,P.underlying T with
  | .eql,V (.slice _)=>match rd id with
   |some (.row _ (_::_))=>K (.b wN)
   |_=>O
  |_,_=>O
 |some (.agg cs),V (.agg ds)=>eqS P b T cs ds K
 |_,_=>O
def adE{b:BinOp}{T T':TypeId}(hs:j8 ev rd nx E R)(ho:o.op= .binOp b T x y T'){K:AV->Option α}(h:uC P rd b T (ev x) (ev y) K=V r):∃d,K d=V r/\Pu P o E R nx d:=by
 unfold uC at h
 split at h
 ·rename_i k m k' n hx hy
  have ex:=fun ρ=>hs.fT hx ρ
  have ey:=fun ρ=>hs.fT hy ρ
  simp only[bT]at ex ey
  split at h
  ·split at h
   ·rename_i h0;exact⟨_,h, .lit fun ρ=> .shl ho (ex ρ) (ey ρ) h0⟩
   ·cases h
  ·split at h
   ·rename_i h0;exact⟨_,h, .lit fun ρ=> .shr ho (ex ρ) (ey ρ) h0⟩
   ·cases h
  ·split at h
   ·rename_i hk
    subst hk
    unfold Xg at h
    split at h
    ·exact⟨_,h, .lit fun ρ=> .add ho (ex ρ) (ey ρ)⟩
    ·exact⟨_,h, .lit fun ρ=> .sub ho (ex ρ) (ey ρ)⟩
    ·exact⟨_,h, .lit fun ρ=> .mul ho (ex ρ) (ey ρ)⟩
    ·split at h
     ·rename_i h0;exact⟨_,h, .lit fun ρ=> .quo ho (ex ρ) (ey ρ) h0⟩
     ·cases h
    ·split at h
     ·rename_i h0;exact⟨_,h, .lit fun ρ=> .rem ho (ex ρ) (ey ρ) h0⟩
     ·cases h
    ·exact⟨_,h, .lit fun ρ=> .and ho (ex ρ) (ey ρ)⟩
    ·exact⟨_,h, .lit fun ρ=> .or ho (ex ρ) (ey ρ)⟩
    ·exact⟨_,h, .lit fun ρ=> .xor ho (ex ρ) (ey ρ)⟩
    ·exact⟨_,h, .lit fun ρ=> .andNot ho (ex ρ) (ey ρ)⟩
    ·exact⟨_,h, .lit fun ρ=> .lss ho (ex ρ) (ey ρ)⟩
    ·exact⟨_,h, .lit fun ρ=> .leq ho (ex ρ) (ey ρ)⟩
    ·exact⟨_,h, .lit fun ρ=> .gtr ho (ex ρ) (ey ρ)⟩
    ·exact⟨_,h, .lit fun ρ=> .geq ho (ex ρ) (ey ρ)⟩
    ·exact⟨_,h, .lit fun ρ=> .eql ho (ex ρ) (ey ρ)⟩
    ·exact⟨_,h, .lit fun ρ=> .neq ho (ex ρ) (ey ρ)⟩
    ·cases h
   ·cases h
 ·rename_i p q hx hy
  have ex:=fun ρ=>hs.fT hx ρ
  have ey:=fun ρ=>hs.fT hy ρ
  simp only[bT]at ex ey
  split at h
  ·rename_i hT
   split at h
   ·exact⟨_,h, .lit fun ρ=> .ays ho hT (ex ρ) (ey ρ)⟩
   ·exact⟨_,h, .lit fun ρ=> .axw ho hT (ex ρ) (ey ρ)⟩
   ·cases h
  ·cases h
 ·rename_i s t hx hy
  have ex:=fun ρ=>hs.fT hx ρ
  have ey:=fun ρ=>hs.fT hy ρ
  simp only[bT]at ex ey
  split at h
  ·exact⟨_,h, .lit fun ρ=> .axY ho (ex ρ) (ey ρ)⟩
  ·exact⟨_,h, .lit fun ρ=> .awE ho (ex ρ) (ey ρ)⟩
  ·cases h
 ·rename_i p l c hx hy
  have ex:=fun ρ=>hs.fT hx ρ
  have ey:=fun ρ=>hs.fT hy ρ
  simp only[bT]at ex ey
  split at h
  ·rename_i hT
   exact⟨_,h, .lit fun ρ=> .akF ho (ex ρ) (ey ρ) hT⟩
  ·cases h
 ·rename_i t l hx hy
  have ex:=fun ρ=>hs.fT hx ρ
  have ey:=fun ρ=>hs.fT hy ρ
  simp only[bT]at ey
  simp only[gE]at ex
  split at h
  ·rename_i hT
   split at h
   ·cases h
   ·exact⟨_,h, .lit fun ρ=> .alB ho (ex ρ) (ey ρ) hT (by simp)⟩
  ·cases h
 ·rename_i id hx hy
  have ex:=fun ρ=>hs.fT hx ρ
  have ey:=fun ρ=>hs.fT hy ρ
  simp only[bT]at ey
  simp only[dW]at ex
  split at h
  ·rename_i hT
   split at h
   ·rename_i hr
    exact⟨_,h, .lit fun ρ=>by
     obtain⟨i,hi⟩:=hs.row hr ρ
     exact .ans ho (ex ρ) hi (ey ρ) hT (by simp)⟩
   ·cases h
  ·cases h
 ·rename_i cs ds hx hy
  exact akp hs ho hx hy h
 ·cases h
def unV(b:UnOp)(x:Option AV)(K:AV->Option α):Option α:=match b,x with
 | .not,V (.lit (.bool p))=>K (.b (!p))
 | .neg,V (.lit (.int k n))=>K (.n k (k.wrap (0-n)))
 |_,_=>O
def ald{b:UnOp}{T:TypeId}(hs:j8 ev rd nx E R)(ho:o.op= .unOp b T x){K:AV->Option α}(h:unV b (ev x) K=V r):∃d,K d=V r/\Pu P o E R nx d:=by
 unfold unV at h
 split at h
 ·rename_i p hx
  have ex:=fun ρ=>hs.fT hx ρ
  simp only[bT]at ex
  exact⟨_,h, .lit fun ρ=> .not ho (ex ρ)⟩
 ·rename_i p hx
  have ex:=fun ρ=>hs.fT hx ρ
  simp only[bT]at ex
  exact⟨_,h, .lit fun ρ=> .neg ho (ex ρ)⟩
 ·cases h
def PZ(x:Option AV)(K:AV->Option α):Option α:=match x with
 |some (.ptr id off)=>K (.ptr id off)
 |some (.fp cs)=>K (.fp cs)
 |some (.ra id t m off)=>K (.ra id t m off)
 |_=>O
def acw(hs:j8 ev rd nx E R)(ho:o.op= .nilCheck x){K:AV->Option α}(h:PZ (ev x) K=V r):∃d,K d=V r/\Pu P o E R nx d:=by
 unfold PZ at h
 split at h
 ·rename_i hx
  exact⟨_,h,hs.rN hx,fun ρ=>by have ex:=hs.fT hx ρ;rw[fE]at ex ⊢;exact .UE ho ex⟩
 ·rename_i hx
  exact⟨_,h,hs.rN hx,fun ρ=>by have ex:=hs.fT hx ρ;rw[mq]at ex ⊢;exact .Vc ho ex⟩
 ·rename_i hx
  exact⟨_,h,hs.rN hx,fun ρ=>by have ex:=hs.fT hx ρ;rw[jM]at ex ⊢;exact .TW ho ex⟩
 ·cases h
def nr{n:Nat}{cs:List AV}(h:∀c∈cs,cM n c)(k:Nat):∀c∈cs.drop k,cM n c:=fun c hc=>h c (xW hc)
def pE{n:Nat}{cs:List AV}(h:∀c∈cs,cM n c)(k:Nat):∀c∈cs.take k,cM n c:=fun c hc=>h c (List.mem_of_mem_take hc)
def cM.fpL{n:Nat}{cs:List AV}(h:cM n (.fp cs)):∀c∈cs,cM n c:=by cases h;assumption
def cM.ny{n:Nat}{cs:List AV}(h:cM n (.agg cs)):∀c∈cs,cM n c:=by cases h;assumption
def cM.FL{n:Nat}{cs:List AV}(h:cM n (.jB cs)):∀c∈cs,cM n c:=by cases h;assumption
def cM.fnL{n:Nat}{f:Go.Fn}{cs:List AV}(h:cM n (.fn f cs)):∀c∈cs,cM n c:=by cases h;assumption
def cM.apv{n id off:Nat}(h:cM n (.ptr id off)):id<n:=by cases h;assumption
def cM.raL{n id t m off:Nat}(h:cM n (.ra id t m off)):id<n:=by cases h;assumption
def cM.awR{n id:Nat}(h:cM n (.own id)):id<n:=by cases h;assumption
def wV{n:Nat}{cs:List AV}(h:∀c∈cs,cM n c){k:Nat}(hk:cs[k]? =V d):cM n d:=h d (List.mem_of_getElem? hk)
def Aj{n:Nat}{cs ds:List AV}(h:∀c∈cs,cM n c)(h':∀c∈ds,cM n c):∀c∈cs++ds,cM n c:=fun c hc=>(zU.1 hc).elim (h c) (h' c)
def AJ{n:Nat}(h:cM n d):∀c∈dQ d,cM n c:=by
 cases d<;>first|exact h.ny|(intro c hc;simp only[dQ,zC]at hc;rw[hc];exact h)
def Le(n:Nat)(zs:List Value):∀c∈zs.map (cc.lit (dw:=U.dw)),cM n c:=fun c hc=>by
 obtain⟨v,_,rfl⟩:=zL.1 hc
 exact .lit v
def MU(P:Program)(T:TypeId)(i:Nat)(x:Option AV)(K:AV->Option α):Option α:=match P.underlying T with
 |some (.struct fs)=>match fs[i]? with
  |some f=>match (P.info? f.type).map (·.size)with
   |some (_+1)=>match x with
    |some (.ptr id off)=>K (.ptr id (off+f.offset))
    |some (.fp cs)=>K (.fp (cs.drop f.offset))
    |some (.ra id t m off)=>K (.ra id t m (off+f.offset))
    |_=>O
   |_=>O
  |none=>O
 |_=>O
def aeo{T:TypeId}{i:Nat}(hs:j8 ev rd nx E R)(ho:o.op= .fieldAddr T x i){K:AV->Option α}(h:MU P T i (ev x) K=V r):∃d,K d=V r/\Pu P o E R nx d:=by
 unfold MU at h
 split at h
 case h_2=>cases h
 rename_i fs hT
 split at h
 case h_2=>cases h
 rename_i f hf
 split at h
 case h_2=>cases h
 rename_i sz hsz
 split at h
 ·rename_i id off hx
  exact⟨_,h, .ptr _ _ (hs.rN hx).apv,fun ρ=>by have ex:=hs.fT hx ρ;rw[fE]at ex ⊢;exact .aoi ho ex hT hf hsz⟩
 ·rename_i cs hx
  exact⟨_,h, .fp _ (nr (hs.rN hx).fpL _),fun ρ=>by have ex:=hs.fT hx ρ;rw[mq]at ex ⊢;rw[xj];exact .ant ho ex hT hf hsz⟩
 ·rename_i id t m off hx
  exact⟨_,h, .ra _ _ _ _ (hs.rN hx).raL,fun ρ=>by have ex:=hs.fT hx ρ;rw[jM]at ex ⊢;rw[<-xQ];exact .anq ho ex hT hf hsz⟩
 ·cases h
def Qb(P:Program)(rd:Nat->Option IR)(T:TypeId)(x y:Option AV)(K:AV->Option α):Option α:=match y with
 |some (.lit (.int _ m))=>match P.underlying T with
  |some (.slice e)=>match x with
   |some (.sl t l)=>match Mu P e (U.sz t)with
    |true=>if 0<=m/\m<(l.length:Int)then K (.fp (U.cells t l[m.toNat]!))else O
    |false=>O
   |some (.own id)=>match rd id with
    |some (.row t l)=>match Mu P e (U.sz t)with
     |true=>if 0<=m/\m<(l.length:Int)then K (.ra id t m.toNat 0)else O
     |false=>O
    |_=>O
   |_=>O
  |some (.array n e)=>match (P.info? e).map (·.size)with
   |some sz=>if 0<=m/\m<(n:Int)then(match x with
    |some (.ptr id off)=>K (.ptr id (off+m.toNat*sz))
    |some (.fp cs)=>K (.fp (cs.drop (m.toNat*sz)))
    |some (.ra id t j off)=>K (.ra id t j (off+m.toNat*sz))
    |_=>O)else O
   |none=>O
  |_=>O
 |_=>O
def ag6{T:TypeId}(hs:j8 ev rd nx E R)(ho:o.op= .indexAddr T x y){K:AV->Option α}(h:Qb P rd T (ev x) (ev y) K=V r):∃d,K d=V r/\Pu P o E R nx d:=by
 unfold Qb at h
 split at h
 case h_2=>cases h
 rename_i k m hy
 have ey:=fun ρ=>hs.fT hy ρ
 simp only[bT]at ey
 split at h
 ·rename_i e hT
  split at h
  ·rename_i t l hx
   split at h
   case h_2=>cases h
   rename_i hsz
   split at h
   ·rename_i hm
    exact⟨_,h, .fp _ (L.rN t _ nx),fun ρ=>by have ex:=hs.fT hx ρ;rw[gE]at ex;rw[mq,L.clo];exact .afq ho ex (ey ρ) hT (se hsz) hm⟩
   ·cases h
  ·rename_i id hx
   split at h
   case h_2=>cases h
   rename_i t l hr
   split at h
   case h_2=>cases h
   rename_i hsz
   split at h
   ·rename_i hm
    refine⟨_,h, .ra _ _ _ _ (hs.rN hx).awR,fun ρ=> ?_⟩
    have ex:=hs.fT hx ρ
    rw[dW]at ex
    obtain⟨i,hi⟩:=hs.row hr ρ
    rw[jM,yf]
    exact .Zd i ho ex hi (ey ρ) hT (se hsz) hm
   ·cases h
  ·cases h
 ·rename_i n e hT
  split at h
  case h_2=>cases h
  rename_i sz hsz
  split at h
  case isFalse=>cases h
  rename_i hm
  split at h
  ·rename_i id off hx
   exact⟨_,h, .ptr _ _ (hs.rN hx).apv,fun ρ=>by have ex:=hs.fT hx ρ;rw[fE]at ex ⊢;exact .aop ho ex (ey ρ) hT hsz hm⟩
  ·rename_i cs hx
   exact⟨_,h, .fp _ (nr (hs.rN hx).fpL _),fun ρ=>by have ex:=hs.fT hx ρ;rw[mq]at ex ⊢;rw[xj];exact .aj4 ho ex (ey ρ) hT hsz hm⟩
  ·rename_i id t j off hx
   exact⟨_,h, .ra _ _ _ _ (hs.rN hx).raL,fun ρ=>by have ex:=hs.fT hx ρ;rw[jM]at ex ⊢;rw[<-xQ];exact .an5 ho ex (ey ρ) hT hsz hm⟩
  ·cases h
 ·cases h
def ldV(P:Program)(rd:Nat->Option IR)(T:TypeId)(x:Option AV)(K:AV->Option α):Option α:=match TG P T with
 |true=>match x with
  |some (.fp cs)=>(cs[0]?).bind K
  |some (.ptr id off)=>match rd id with
   |some (.box _ cs)=>(cs[off]?).bind K
   |_=>O
  |some (.ra id t m off)=>match rd id with
   |some (.row t' l)=>match L.arr t' with
    |true=>if t=t'/\m<l.length/\off<U.sz t' then K (.lit (.bool (L.gtB t' l[m]! off)))else O
    |false=>if t=t'/\m<l.length then((U.cells t' l[m]!)[off]?).bind K else O
   |_=>O
  |_=>O
 |false=>match RK P T with
  |some n=>match x with
   |some (.fp cs)=>match ya n cs.length with
    |true=>K (.agg (cs.take n))
    |false=>O
   |some (.ptr id off)=>match rd id with
    |some (.box _ cs)=>match ya (off+n) cs.length with
     |true=>K (.agg ((cs.drop off).take n))
     |false=>O
    |_=>O
   |some (.ra id t m off)=>match rd id with
    |some (.row t' l)=>match ya (off+n) (U.sz t')with
     |true=>if t=t'/\m<l.length then K (.agg (((U.cells t' l[m]!).drop off).take n))else O
     |false=>O
    |_=>O
   |_=>O
  |none=>O
def ao2{T:TypeId}(hs:j8 ev rd nx E R)(ho:o.op= .load T x){K:AV->Option α}(h:ldV P rd T (ev x) K=V r):∃d,K d=V r/\Pu P o E R nx d:=by
 unfold ldV at h
 split at h
 ·rename_i hT
  have hT:=CL hT
  split at h
  ·rename_i cs hx
   obtain⟨d,hd,h⟩:=zm.1 h
   exact⟨d,h,wV (hs.rN hx).fpL hd,fun ρ=>by have ex:=hs.fT hx ρ;rw[mq]at ex;exact .an0 ho ex hT (by rw[zY,hd];rfl)⟩
  ·rename_i id off hx
   split at h
   case h_2=>cases h
   rename_i t cs hr
   obtain⟨d,hd,h⟩:=zm.1 h
   refine⟨d,h,wV (hs.adA hr) hd,fun ρ=> ?_⟩
   have ex:=hs.fT hx ρ
   rw[fE]at ex
   obtain⟨i,hi⟩:=hs.box hr ρ
   exact .ao6 i ho ex hi hT (by rw[zY,hd];rfl)
  ·rename_i id t m off hx
   split at h
   case h_2=>cases h
   rename_i t' l hr
   split at h
   ·rename_i har
    split at h
    case isFalse=>cases h
    rename_i hm
    obtain⟨rfl,hm,hoff⟩:=hm
    refine⟨_,h, .lit _,fun ρ=> ?_⟩
    have ex:=hs.fT hx ρ
    rw[jM]at ex
    obtain⟨i,hi⟩:=hs.row hr ρ
    rw[show (cc.lit (.bool (L.gtB t l[m]! off)):AV).sub ρ= .lit (.bool (L.gtB t l[m]! off))by simp only[cc.sub]]
    exact .Zr i m ho ex hi hT rfl hm (L.aeS t har l[m]! off hoff)
   split at h
   case isFalse=>cases h
   rename_i hm
   obtain⟨rfl,hm⟩:=hm
   obtain⟨d,hd,h⟩:=zm.1 h
   refine⟨d,h,wV (L.rN t _ nx) hd,fun ρ=> ?_⟩
   have ex:=hs.fT hx ρ
   rw[jM]at ex
   obtain⟨i,hi⟩:=hs.row hr ρ
   have hc:d.sub ρ=d:=by
    have:=L.clo t l[m]! ρ
    have h2:((U.cells t l[m]!).map (cc.sub ρ))[off]? =V (d.sub ρ):=by rw[zY,hd];rfl
    rw[this,hd]at h2
    exact(zF.inj h2).symm
   rw[hc]
   exact .Zr i m ho ex hi hT rfl hm hd
  ·cases h
 ·split at h
  case h_2=>cases h
  rename_i n hT
  have hT:=KU hT
  split at h
  ·rename_i cs hx
   split at h
   case h_2=>cases h
   rename_i hn
   exact⟨_,h, .agg _ (pE (hs.rN hx).fpL _),fun ρ=>by have ex:=hs.fT hx ρ;rw[mq]at ex;rw[eN,xD];exact .ao3 ho ex hT (by rw[zK];exact xX hn)⟩
  ·rename_i id off hx
   split at h
   case h_2=>cases h
   rename_i t cs hr
   split at h
   case h_2=>cases h
   rename_i hn
   refine⟨_,h, .agg _ (pE (nr (hs.adA hr) _) _),fun ρ=> ?_⟩
   have ex:=hs.fT hx ρ
   rw[fE]at ex
   obtain⟨i,hi⟩:=hs.box hr ρ
   rw[eN,xD,xj]
   exact .anI i ho ex hi hT (by rw[zK];exact xX hn)
  ·rename_i id t m off hx
   split at h
   case h_2=>cases h
   rename_i t' l hr
   split at h
   case h_2=>cases h
   rename_i hn
   split at h
   case isFalse=>cases h
   rename_i hm
   obtain⟨rfl,hm⟩:=hm
   refine⟨_,h, .agg _ (pE (nr (L.rN t _ nx) _) _),fun ρ=> ?_⟩
   have ex:=hs.fT hx ρ
   rw[jM]at ex
   obtain⟨i,hi⟩:=hs.row hr ρ
   rw[eN,xD,xj,L.clo]
   exact .akj i m ho ex hi hT rfl hm (xX hn)
  ·cases h
end
end Go.Iv
end
noncomputable section
namespace Go.Iv
variable [U:sX] [L:nQ]
open Go Go.RowKit
section
variable {P:Program} {E:Env} {σ:List cH} {o:Oper} {T T' e:TypeId} {x y z:Operand} {av:AV} {m:Int} {k:IntKind}
def Yp.anY{n':Nat}{cs:List AV}(ho:o.op= .index T x y)(hx:E.ev x=V (.agg cs))(hy:E.ev y=V (.n k m))(hT:P.underlying T=V (.array n' e))(h1:tc P e)(hs:(P.info? e).map (·.size)=V 1)(hm:0<=m/\m<n')(ha:cs[m.toNat]? =V av):Yp P E σ o av:=fun A w ρ _ hρ=>by
 obtain⟨j,hj,hj'⟩:=zj.1 hs
 obtain⟨us,q1,q2⟩:=(hρ _ _ hx).mN
 have hy':=(hρ _ _ hy).cK
 obtain⟨v,q3,q4⟩:=q2.get ha
 refine⟨v,q4,fun w' _=> ?_⟩
 have hp:(part e us.toArray m.toNat).run P w'= .ok v w':=by
  unfold part
  rw[Sem.run_bind,mL h1]
  simp[q3]
 simp[execOp,ho,Instr.index,q1,hy',run_underlying hT,sizeOf,typeInfo,hj,hj',asIntOf,hm,hp]
end
section
variable {α:Type} {r:α} {P:Program} {o:Oper} {E:Env} {R:aY} {nx:Nat} {ev:Operand->Option AV} {rd:Nat->Option IR} {x y z:Operand} {d:AV} {A:Nat->Prop} {w:World} {ρ:Gh} {v:Value}
def lQ(ρ:Gh)(d:AV):dQ (d.sub ρ)=(dQ d).map (cc.sub ρ):=by
 cases d<;>simp only[cc.sub,dQ,yh,y5]
def Oz{d:AV}(h:iA d=wO)(hn:∀id,d≠ .own id):iA (d.sub ρ)=wO:=by
 cases d<;>first|(exact cQ rfl (hn _))|(cases h;done)|(simp only[cc.sub,iA]at h ⊢;done)|(simp only[cc.sub,iA]at h ⊢;first|exact h|rfl)
def Ef(hs:j8 ev rd nx E R)(h:Fv rd d=wO)(hd:Hd A (aY.res ρ R) w)(hr:Rel A w (d.sub ρ) v):v.oneCell'=wO:=by
 unfold Fv at h
 split at h
 ·rename_i id
  split at h
  ·rename_i t l hrd
   obtain⟨i,hi⟩:=hs.row hrd ρ
   rw[dW]at hr
   rw[hr.cK]
   exact agu i hi hd
  ·cases h
 ·rw[fE]at hr;rw[hr.cK];rfl
 ·cases h
 ·rename_i h1 _ _
  exact hr.one (Oz h (fun id e=>h1 id e))
def vV(hs:j8 ev rd nx E R)(h:Ft rd d=wO)(hd:Hd A (aY.res ρ R) w)(hr:Rel A w (d.sub ρ) v):bK A w ((dQ d).map (cc.sub ρ)) v.cells.toList/\∀u∈v.cells.toList,u.oneCell'=wO:=by
 by_cases ha:∃cs,d= .agg cs
 ·obtain⟨cs,rfl⟩:=ha
  rw[eN]at hr
  obtain⟨us,rfl,h2⟩:=hr.mN
  refine⟨by simpa [Value.cells,dQ]using h2,fun u hu=> ?_⟩
  simp only[Value.cells,List.toList_toArray]at hu
  obtain⟨j,hj,rfl⟩:=xS hu
  have hlt:j<cs.length:=by have:=h2.1;rw[zK]at this;omega
  have h3:=h2.2 j _ us[j] (by rw[zY,zk hlt];rfl) (zk hj)
  exact Ef hs (zo.1 h _ (xx hlt)) hd h3
 ·have hc:Fv rd d=wO:=by
   cases d<;>first|exact h|(exact cQ ⟨_,rfl⟩ ha)
  have hac:dQ d=[d]:=by
   cases d<;>first|rfl|(exact cQ ⟨_,rfl⟩ ha)
  have h2:=Ef hs hc hd hr
  rw[hac,sV h2]
  exact⟨bK.cons hr bK.nil,fun u hu=>by simp at hu;rw[hu];exact h2⟩
def Gm(hs:j8 ev rd nx E R)(h:Ft rd d=wO):Pw (aY.res ρ R) (d.sub ρ):=fun A w v hd hr=>by
 rw[lQ]
 exact vV hs h hd hr
def Af(rd:Nat->Option IR)(place:Nat->Option (Nat×Nat))(cells:List AV):List (Nat×AV)->Option (List AV)
 |[]=>V cells
 |(i,a)::rest=>
  match place i with
  |none=>O
  |some (off,size)=>
   match zb (dQ a).length size&&ya (off+size) cells.length&&Ft rd a with
   |true=>Af rd place (cells.take off++dQ a++cells.drop (off+size)) rest
   |false=>O
def GC{place:Nat->Option (Nat×Nat)}:∀{ps:List (Nat×AV)} {cs cs':List AV},(∀c∈cs,cM nx c)->(∀p∈ps,cM nx p.2)->Af rd place cs ps=V cs'->∀c∈cs',cM nx c
 |[],cs,cs',h1,_,hf=>by cases hf;exact h1
 |(i,a)::ps,cs,cs',h1,h2,hf=>by
  unfold Af at hf
  split at hf
  ·cases hf
  ·split at hf
   ·exact GC (Aj (Aj (pE h1 _) (AJ (h2 _ zi))) (nr h1 _)) (fun p hp=>h2 p (zJ _ hp)) hf
   ·cases hf
def Ba(hs:j8 ev rd nx E R)(hd:Hd A (aY.res ρ R) w){place:Nat->Option (Nat×Nat)}:∀{ps:List (Nat×AV)} {qs:List (Nat×Value)} {cs cs':List AV} {init:Array Value},bK A w (cs.map (cc.sub ρ)) init.toList->
  F2 (fun(p:Nat×AV) (q:Nat×Value)=>p.1=q.1/\Rel A w (p.2.sub ρ) q.2) ps qs->Af rd place cs ps=V cs'->∃us:Array Value,Instr.fill place init qs=V us/\bK A w (cs'.map (cc.sub ρ)) us.toList
 |[],_,cs,cs',init,hi,hp,hf=>by
  cases hp
  cases hf
  exact⟨init,rfl,hi⟩
 |(i,a)::ps,_,cs,cs',init,hi,hp,hf=>by
  cases hp with
  |@cons _ q _ qs h1 h2=>
   obtain⟨j,v⟩:=q
   obtain⟨h3,h4⟩:=h1
   simp only at h3 h4
   subst h3
   unfold Af at hf
   unfold Instr.fill
   cases hpl:place i with
   |none=>rw[hpl]at hf;cases hf
   |some os=>
    obtain⟨off,size⟩:=os
    rw[hpl]at hf
    simp only at hf ⊢
    split at hf
    ·rename_i hc
     simp only[zf,Nat.ble_eq]at hc
     obtain⟨⟨hc1,hc2⟩,hc3⟩:=hc
     have hc1:=yW hc1
     obtain⟨h5,h6⟩:=vV hs hc3 hd h4
     have hvs:v.cells.size=size:=by rw[<-Array.length_toList,h5.1,zK,hc1]
     have his:init.size=cs.length:=by rw[<-Array.length_toList,hi.1,zK]
     rw[bF (by simp[hvs];omega)]
     refine Ba hs hd (cs:=cs.take off++dQ a++cs.drop (off+size)) ?_ h2 hf
     have hvl:v.cells.toList.length=size:=by rw[Array.length_toList,hvs]
     have e:(v.cells.zipIdx.foldl (fun cs (x:Value×Nat)=>match x with|(c,j)=>cs.setIfInBounds (off+j) c) init).toList=init.toList.take off++v.cells.toList++init.toList.drop (off+size):=by
      have:=Uj v.cells.toList 0 off init (by rw[hvl];omega)
      rw[hvl,yf]at this
      rw[<-this,<-Array.foldl_toList,Array.toList_zipIdx]
     show bK A w _ (v.cells.zipIdx.foldl _ init).toList
     rw[e,yc,yc,xD,xj]
     exact((hi.take off).app h5).app (hi.drop (off+size))
    ·cases hf
def evp(ev:Operand->Option AV):List (Nat×Operand)->Option (List (Nat×AV))
 |[]=>V []
 |(i,x)::xs=>match ev x with
  |some a=>(evp ev xs).map fun as0=>(i,a)::as0
  |none=>O
def Si(hs:j8 ev rd nx E R):∀{xs:List (Nat×Operand)} {as0:List (Nat×AV)},evp ev xs=V as0->∀p∈as0,cM nx p.2
 |[],as0,h=>by cases h;simp
 |(i,x)::xs,as0,h=>by
  unfold evp at h
  split at h
  ·rename_i a ha
   obtain⟨as',h1,rfl⟩:=zj.1 h
   intro p hp
   rcases zy.1 hp with rfl|hp
   ·exact hs.rN ha
   ·exact Si hs h1 p hp
  ·cases h
def HT(hs:j8 ev rd nx E R){ϱ:Operand->Value}(h:MP A w (E.sub ρ) ϱ):∀{xs:List (Nat×Operand)} {as0:List (Nat×AV)},evp ev xs=V as0->
  F2 (fun(p:Nat×AV) (q:Nat×Value)=>p.1=q.1/\Rel A w (p.2.sub ρ) q.2) as0 (xs.map fun p=>(p.1,ϱ p.2))
 |[],as0,he=>by cases he;exact .nil
 |(i,x)::xs,as0,he=>by
  unfold evp at he
  split at he
  ·rename_i a ha
   obtain⟨as',h1,rfl⟩:=zj.1 he
   exact .cons ⟨rfl,h x _ (hs.fT ha ρ)⟩ (HT hs h h1)
  ·cases he
def Ls(ev:Operand->Option AV):List Operand->Option (List AV)
 |[]=>V []
 |x::xs=>match ev x with
  |some a=>(Ls ev xs).map fun as0=>a::as0
  |none=>O
def HN(hs:j8 ev rd nx E R):∀{xs:List Operand} {as0:List AV},Ls ev xs=V as0->∀d∈as0,cM nx d
 |[],as0,h=>by cases h;simp
 |x::xs,as0,h=>by
  unfold Ls at h
  split at h
  ·rename_i a ha
   obtain⟨as',h1,rfl⟩:=zj.1 h
   intro p hp
   rcases zy.1 hp with rfl|hp
   ·exact hs.rN ha
   ·exact HN hs h1 p hp
  ·cases h
def JT(hs:j8 ev rd nx E R)(ρ:Gh):∀{xs:List Operand} {as0:List AV},Ls ev xs=V as0->(E.sub ρ).Ls xs=V (as0.map (cc.sub ρ))
 |[],as0,he=>by cases he;rfl
 |x::xs,as0,he=>by
  unfold Ls at he
  split at he
  ·rename_i a ha
   obtain⟨as',h1,rfl⟩:=zj.1 he
   unfold Env.Ls
   rw[hs.fT ha ρ,JT hs ρ h1]
   rfl
  ·cases he
def Pt(P:Program)(ev:Operand->Option AV)(rd:Nat->Option IR)(T:TypeId)(ps:List (Nat×Operand))(K:AV->Option α):Option α:=
 match evp ev ps,jT P T with
 |some as0,V zs=>match P.underlying T with
  |some (.struct _)=>match placesOf P T with
   |some places=>(Af rd (places[·]?) (zs.map .lit) as0).bind fun cs=>K (.agg cs)
   |none=>O
  |some (.array _ e)=>match (P.info? e).map (·.size)with
   |some sz=>(Af rd (fun i=>V (i*sz,sz)) (zs.map .lit) as0).bind fun cs=>K (.agg cs)
   |none=>O
  |_=>O
 |_,_=>O
def Df(ρ:Gh)(zs:List Value):(zs.map (cc.lit (dw:=U.dw))).map (cc.sub ρ)=zs.map .lit:=by
 rw[yd]
 exact zV fun v _=>bT ρ v
def aat{T:TypeId}{ps:Array (Nat×Operand)}(hs:j8 ev rd nx E R)(ho:o.op= .build T ps){K:AV->Option α}(h:Pt P ev rd T ps.toList K=V r):∃d,K d=V r/\Pu P o E R nx d:=by
 unfold Pt at h
 split at h
 case h_2=>cases h
 rename_i as0 zs he hz
 have main:∀(place:Nat->Option (Nat×Nat)) (cs:List AV),Af rd place (zs.map .lit) as0=V cs->(∀(vs:List (Nat×Value)) (us:Array Value),Instr.fill place zs.toArray vs=V us->P.built T vs=V us)->Pu P o E R nx (.agg cs):=fun place cs hf hb=>by
  refine⟨.agg _ (GC (Le nx zs) (Si hs he) hf),fun ρ A w ϱ hd hρ=> ?_⟩
  obtain⟨it,hit,hz1⟩:=zm.1 hz
  obtain⟨zv,hz2,hz3⟩:=zj.1 hz1
  have hzr:bK A w ((zs.map cc.lit).map (cc.sub ρ)) zs:=by rw[Df];exact bK.lits _
  obtain⟨us,h1,h2⟩:=Ba (init:=zs.toArray) hs hd hzr (HT hs hρ he) hf
  rw[eN]
  refine⟨.agg us,by simpa using Rel.ny h2,fun w' _=> ?_⟩
  have:=run_build (P:=P) w' T _ us (hb _ us h1)
  rw[<-KV]at this
  simp[execOp,ho,this]
 split at h
 ·rename_i fs hT
  split at h
  case h_2=>cases h
  rename_i places hp
  obtain⟨cs,hf,h⟩:=zm.1 h
  refine⟨_,h,main _ cs hf fun vs us hu=> ?_⟩
  obtain⟨it,hit,hz1⟩:=zm.1 hz
  obtain⟨zv,hz2,hz3⟩:=zj.1 hz1
  unfold Program.built
  unfold placesOf at hp
  rw[hit,hT]at*
  simp only at hp
  simp only[hz2,hp]
  have:zv.cells=zs.toArray:=by rw[<-hz3]
  rw[this]
  simpa using hu
 ·rename_i n e hT
  split at h
  case h_2=>cases h
  rename_i sz hsz
  obtain⟨cs,hf,h⟩:=zm.1 h
  refine⟨_,h,main _ cs hf fun vs us hu=> ?_⟩
  obtain⟨it,hit,hz1⟩:=zm.1 hz
  obtain⟨zv,hz2,hz3⟩:=zj.1 hz1
  obtain⟨ie,hie,hse⟩:=zj.1 hsz
  unfold Program.built
  rw[hit,hT]
  simp only[hz2,hie,hse]
  have:zv.cells=zs.toArray:=by rw[<-hz3]
  rw[this]
  exact hu
 ·cases h
def Nh(P:Program)(rd:Nat->Option IR)(T T':TypeId)(x:Option AV)(K:AV->Option α):Option α:=match P.underlying T,P.underlying T' with
 |some (.int _),V (.int k')=>match x with
  |some (.lit (.int k n))=>match P.underlying T with
   |some (.int k0)=>if k0=k then K (.n k' (k'.wrap n))else O
   |_=>O
  |_=>O
 |some (.slice e),V .string=>match P.underlying e with
  |some (.int .u8)=>match x with
   |some (.sl t l)=>(L.acu t l).bind fun ns=>K (.s (strOfNums ns))
   |some (.own id)=>match rd id with
    |some (.row t l)=>(L.acu t l).bind fun ns=>K (.s (strOfNums ns))
    |_=>O
   |_=>O
  |_=>O
 |_,_=>O
def aeQ{T T':TypeId}(hs:j8 ev rd nx E R)(ho:o.op= .convert T T' x){K:AV->Option α}(h:Nh P rd T T' (ev x) K=V r):∃d,K d=V r/\Pu P o E R nx d:=by
 unfold Nh at h
 split at h
 ·rename_i k0 k' hT hT'
  split at h
  case h_2=>cases h
  rename_i k n hx
  have ex:=fun ρ=>hs.fT hx ρ
  simp only[bT]at ex
  split at h
  case h_2=>cases h
  rename_i k1 hk1
  split at h
  case isFalse=>cases h
  rename_i hk
  subst hk
  exact⟨_,h, .lit fun ρ=> .conv hk1 hT' ho (ex ρ)⟩
 ·rename_i e hT hT'
  split at h
  case h_2=>cases h
  rename_i he
  split at h
  ·rename_i t l hx
   obtain⟨ns,hn,h⟩:=zm.1 h
   exact⟨_,h, .lit fun ρ=> .b2s ho (.inr (.inl (by have ex:=hs.fT hx ρ;rw[gE]at ex;exact ex))) (L.Ae t l ns hn).1 (L.Ae t l ns hn).2 hT he hT'⟩
  ·rename_i id hx
   split at h
   case h_2=>cases h
   rename_i t l hr
   obtain⟨ns,hn,h⟩:=zm.1 h
   refine⟨_,h, .lit fun ρ=> ?_⟩
   have ex:=hs.fT hx ρ
   rw[dW]at ex
   obtain⟨i,hi⟩:=hs.row hr ρ
   exact .b2s ho (.inr (.inr ⟨i,_,ex,hi⟩)) (L.Ae t l ns hn).1 (L.Ae t l ns hn).2 hT he hT'
  ·cases h
 ·cases h
def Nn(i:Nat)(x:Option AV)(K:AV->Option α):Option α:=match x with
 |some (.jB cs)=>(cs[i]?).bind K
 |_=>O
def af3{i:Nat}(hs:j8 ev rd nx E R)(ho:o.op= .extract x i){K:AV->Option α}(h:Nn i (ev x) K=V r):∃d,K d=V r/\Pu P o E R nx d:=by
 unfold Nn at h
 split at h
 ·rename_i cs hx
  obtain⟨d,hd,h⟩:=zm.1 h
  exact⟨d,h,wV (hs.rN hx).FL hd,fun ρ=>by have ex:=hs.fT hx ρ;rw[kO]at ex;exact .extract ho ex (by rw[zY,hd];rfl)⟩
 ·cases h
def Ny(ev:Operand->Option AV)(f:Go.Fn)(fs cs:List Operand)(K:AV->Option α):Option α:=match fs with
 |[]=>(Ls ev cs).bind fun as0=>K (.fn f as0)
 |_=>O
def agF{f:Go.Fn}{fs cs:Array Operand}(hs:j8 ev rd nx E R)(ho:o.op= .makeFunc f fs cs){K:AV->Option α}(h:Ny ev f fs.toList cs.toList K=V r):∃d,K d=V r/\Pu P o E R nx d:=by
 unfold Ny at h
 split at h
 ·rename_i h0
  obtain⟨as0,ha,h⟩:=zm.1 h
  refine⟨_,h, .fn _ _ (HN hs ha),fun ρ=> ?_⟩
  rw[tH]
  exact .func ho (by rw[<-Array.toList_eq_nil_iff];exact h0) (JT hs ρ ha)
 ·cases h
def cl(s:ByteArray)(i:Nat):Int:=((s.data[i]!).toNat:Int)
def Yp.alc{T:TypeId}{E:Env}{σ:List cH}{s:ByteArray}{k:IntKind}{m:Int}(ho:o.op= .index T x y)(hx:E.ev x=V (.s s))(hy:E.ev y=V (.n k m))(hT:P.underlying T=V .string)(hm:0<=m/\m<(s.size:Int)):Yp P E σ o (.n .u8 (cl s m.toNat)):=fun A w ρ _ hρ=>by
 refine⟨_, .lit _,fun w' _=> ?_⟩
 have hx':=(hρ _ _ hx).cK
 have hy':=(hρ _ _ hy).cK
 have h:=run_index_string (P:=P) w' T s k m hT
 rw[dif_pos hm]at h
 have e:cl s m.toNat=((s[m.toNat]'(by omega)).toNat:Int):=by
  unfold cl
  have hlt:m.toNat<s.data.size:=by have:s.data.size=s.size:=rfl;omega
  rw[getElem!_pos s.data m.toNat hlt]
  rfl
 rw[<-e]at h
 simp[execOp,ho,hx',hy',h]
def NF(P:Program)(T:TypeId)(x y:Option AV)(K:AV->Option α):Option α:=match P.underlying T with
 |some (.array n e)=>match TG P e&&Mu P e 1 with
  |true=>match x,y with
   |some (.agg cs),V (.lit (.int _ m))=>if 0<=m/\m<(n:Int)then(cs[m.toNat]?).bind K else O
   |_,_=>O
  |false=>O
 |some .string=>match x,y with
  |some (.lit (.string s)),V (.lit (.int _ m))=>if 0<=m/\m<(s.size:Int)then K (.n .u8 (cl s m.toNat))else O
  |_,_=>O
 |_=>O
def agj{T:TypeId}(hs:j8 ev rd nx E R)(ho:o.op= .index T x y){K:AV->Option α}(h:NF P T (ev x) (ev y) K=V r):∃d,K d=V r/\Pu P o E R nx d:=by
 unfold NF at h
 split at h
 case h_3=>cases h
 case h_2=>
  rename_i hT
  split at h
  case h_2=>cases h
  rename_i s k m hx hy
  split at h
  case isFalse=>cases h
  rename_i hm
  have ex:=fun ρ=>hs.fT hx ρ
  have ey:=fun ρ=>hs.fT hy ρ
  simp only[bT]at ex ey
  exact⟨_,h, .lit fun ρ=> .alc ho (ex ρ) (ey ρ) hT hm⟩
 rename_i n e hT
 split at h
 case h_2=>cases h
 rename_i he
 simp only[zf]at he
 split at h
 case h_2=>cases h
 rename_i cs k m hx hy
 split at h
 case isFalse=>cases h
 rename_i hm
 obtain⟨d,hd,h⟩:=zm.1 h
 refine⟨d,h,wV (hs.rN hx).ny hd,fun ρ=> ?_⟩
 have ex:=hs.fT hx ρ
 have ey:=hs.fT hy ρ
 rw[eN]at ex
 rw[bT]at ey
 exact .anY ho ex ey hT (CL he.1) (se he.2) hm (by rw[zY,hd];rfl)
def Qi(P:Program)(T:TypeId)(x:Option AV)(lo hi:Option (Option AV))(K:AV->Option α):Option α:=match P.underlying T with
 |some (.slice e)=>match x with
  |some (.sl t l)=>match Mu P e (U.sz t)with
   |true=>match lo,hi with
    |some (V (.lit (.int _ a))),V (V (.lit (.int _ b)))=>if 0<=a/\a<=b/\b<=(l.length:Int)then K (.sl t ((l.take b.toNat).drop a.toNat))else O
    |none,V (V (.lit (.int _ b)))=>if 0<=b/\b<=(l.length:Int)then K (.sl t (l.take b.toNat))else O
    |some (V (.lit (.int _ a))),O=>if 0<=a/\a<=(l.length:Int)then K (.sl t (l.drop a.toNat))else O
    |_,_=>O
   |false=>O
  |_=>O
 |_=>O
def afY{T:TypeId}{lo hi:Option Operand}(hs:j8 ev rd nx E R)(ho:o.op= .slice T x lo hi O){K:AV->Option α}(h:Qi P T (ev x) (lo.map ev) (hi.map ev) K=V r):∃d,K d=V r/\Pu P o E R nx d:=by
 unfold Qi at h
 split at h
 case h_2=>cases h
 rename_i e hT
 split at h
 case h_2=>cases h
 rename_i t l hx
 split at h
 case h_2=>cases h
 rename_i hsz
 have hsz:=se hsz
 have ex:=fun ρ=>hs.fT hx ρ
 simp only[gE]at ex
 split at h
 ·rename_i k a k' b hlo hhi
  split at h
  case isFalse=>cases h
  rename_i hc
  cases lo with
  |none=>cases hlo
  |some lo=>
   cases hi with
   |none=>cases hhi
   |some hi=>
    have e1:=fun ρ=>hs.fT (zF.inj hlo) ρ
    have e2:=fun ρ=>hs.fT (zF.inj hhi) ρ
    simp only[bT]at e1 e2
    exact⟨_,h, .sl _ _,fun ρ=>by rw[gE];exact .amj ho (ex ρ) (e1 ρ) (e2 ρ) hT hsz hc⟩
 ·rename_i k' b hlo hhi
  split at h
  case isFalse=>cases h
  rename_i hc
  cases lo with
  |some lo=>cases hlo
  |none=>
   cases hi with
   |none=>cases hhi
   |some hi=>
    have e2:=fun ρ=>hs.fT (zF.inj hhi) ρ
    simp only[bT]at e2
    exact⟨_,h, .sl _ _,fun ρ=>by rw[gE];exact .aer ho (ex ρ) (e2 ρ) hT hsz hc⟩
 ·rename_i k a hlo hhi
  split at h
  case isFalse=>cases h
  rename_i hc
  cases lo with
  |none=>cases hlo
  |some lo=>
   cases hi with
   |some hi=>cases hhi
   |none=>
    have e1:=fun ρ=>hs.fT (zF.inj hlo) ρ
    simp only[bT]at e1
    exact⟨_,h, .sl _ _,fun ρ=>by rw[gE];exact .aen ho (ex ρ) (e1 ρ) hT hsz hc⟩
 ·cases h
def OO(P:Program)(rd:Nat->Option IR)(T:TypeId)(x:Option AV)(K:AV->Option α):Option α:=match P.underlying T with
 |some (.slice _)=>match x with
  |some (.sl _ l)=>K (.i (l.length:Int))
  |some (.own id)=>match rd id with
   |some (.row _ l)=>K (.i (l.length:Int))
   |_=>O
  |some (.lit (.slice O 0 0))=>K (.i 0)
  |_=>O
 |some .string=>match x with
  |some (.lit (.string s))=>K (.i (s.size:Int))
  |_=>O
 |_=>O
def aav{T:TypeId}(hs:j8 ev rd nx E R)(ho:o.op= .call {callee:= .builtin .len,args:=#[x],argTypes:=#[T]}){K:AV->Option α}(h:OO P rd T (ev x) K=V r):∃d,K d=V r/\Pu P o E R nx d:=by
 unfold OO at h
 split at h
 ·rename_i e hT
  split at h
  ·rename_i t l hx
   exact⟨_,h, .lit fun ρ=> .avw ho (by have ex:=hs.fT hx ρ;rw[gE]at ex;exact ex) hT⟩
  ·rename_i id hx
   split at h
   case h_2=>cases h
   rename_i t l hr
   refine⟨_,h, .lit fun ρ=> ?_⟩
   have ex:=hs.fT hx ρ
   rw[dW]at ex
   obtain⟨i,hi⟩:=hs.row hr ρ
   exact .anJ i ho ex hi hT
  ·rename_i hx
   exact⟨_,h, .lit fun ρ=> .anM ho (by have ex:=hs.fT hx ρ;rw[bT]at ex;exact ex) hT⟩
  ·cases h
 ·rename_i hT
  split at h
  ·rename_i s hx
   exact⟨_,h, .lit fun ρ=> .aoG ho (by have ex:=hs.fT hx ρ;rw[bT]at ex;exact ex) hT⟩
  ·cases h
 ·cases h
end
end Go.Iv
end
noncomputable section
namespace Go.Iv
variable [U:sX]
open Go Go.RowKit
def Dx{zs:List Value}{sz:Nat}(hsz:zs.length=sz)(nn:Nat):(Builtin.zeroCells zs.toArray nn).toList=(zn nn zs).flatten:=by
 apply List.ext_getElem?
 intro j
 have hfl:(zn nn zs).flatten.length=nn*sz:=by simp[hsz]
 have hq:∀(q:Nat) (j:Nat),j<q*sz->(zn q zs).flatten[j]? =zs[j%sz]? :=by
  intro q
  induction q with
  |zero=>intro j hj;simp at hj
  |succ q ih=>
   intro j hj
   rw[yI,wm,yX]
   split
   ·rename_i h;rw[hsz]at h;rw[Nat.mod_eq_of_lt h]
   ·rename_i h
    rw[hsz]at h
    rw[hsz,ih _ (by rw[yH]at hj;omega),Nat.mod_eq_sub_mod (by omega:sz<=j)]
 by_cases hj:j<nn*sz
 ·rw[hq nn j hj]
  have h0:0<sz:=by
   rcases Nat.eq_zero_or_pos sz with h|h
   ·rw[h]at hj;omega
   ·exact h
  have hlt:j%sz<zs.length:=by rw[hsz];exact yP _ h0
  rw[zk hlt]
  simp[Builtin.zeroCells,hsz,hj,zk hlt]
 ·rw[wh (l:=(zn nn zs).flatten) (by rw[hfl];omega),wh]
  simp[Builtin.zeroCells,hsz];omega
def Cb{P:Program}{w:World}{T tn ty e:TypeId}{kn:IntKind}{i:TypeInfo}{zz v:Value}{sz by' nn mm:Nat}{us:List Value}(ht:P.underlying T=V (.slice e))(htn:P.underlying tn=V (.int kn))(hi:P.info? e=V i)(hz:i.zero=V zz)(hs:i.size=sz)(hby:i.bytes=by')(hzs:zz.cells.size=sz)(hpos:0<sz)
  (hrow:iq w v e sz nn us) (h1:∀u∈(Builtin.zeroCells zz.cells mm).toList,u.oneCell'=wO) (h63:nn+mm<=maxLen) (hb:(nn+mm)*by'<=140737488355328):
  ∃v' w',(Builtin.append_ #[T,tn] ty #[v, .int .i64 mm]).run P w= .ok v' w'/\iq w' v' e sz (nn+mm) (us++(Builtin.zeroCells zz.cells mm).toList)/\Kp (gO v).toList w w'/\(gO v'=gO v\/gO v'=V w.heap.size):=by
 subst hs hby
 have h63':((nn+mm:Nat):Int)<=9223372036854775807:=by unfold maxLen at h63;omega
 have hw:IntKind.i64.wrap (mm:Int)=mm:=by rw[IntKind.wrap_i64];omega
 have hneg:¬((mm:Int)<0):=by omega
 have hmb:mm*i.bytes<=140737488355328:=zx (yF _ (by omega)) hb
 have h48i:¬(281474976710656<(mm:Int)*(i.bytes:Int)):=by rw[<-xh];omega
 have hzl:(Builtin.zeroCells zz.cells mm).toList.length=mm*i.size:=by rw[Array.length_toList,size_zeroCells,hzs]
 by_cases hm:mm=0
 ·subst hm
  obtain⟨q,cap,rfl,hcap⟩:=hrow.len
  have hrun:(Builtin.append_ #[T,tn] ty #[.slice q nn cap, .int .i64 (0:Nat)]).run P w= .ok (.slice q nn cap) w:=by
   cases q<;>simp[Builtin.append_,run_underlying ht,run_underlying htn,sizeOf,typeInfo,hi,asInt,asIntOf,hw,hcap,storeCells,IntKind.wrap_i64]
  exact⟨_,w,hrun,by simpa [Builtin.zeroCells]using hrow,Kp.refl _ _, .inl rfl⟩
 ·have hfit:∀old,Builtin.nextslicecap (nn+mm) old*i.bytes<=281474976710656\/¬old<nn+mm:=fun old=>by
   by_cases h:old<nn+mm
   ·exact .inl (growslice_fits (by omega) hb)
   ·exact .inr h
  have grown:∀(olds:List Value) (old:Nat),olds.length=nn*i.size->old<nn+mm->us=olds->
    iq (w.drew.alloc (.cells (olds.toArray++Builtin.zeroCells zz.cells mm++Builtin.zeroCells zz.cells (grownCap w (nn+mm) old e-(nn+mm))) e)) (.slice (V ⟨w.heap.size,0,O⟩) (nn+mm) (grownCap w (nn+mm) old e)) e i.size (nn+mm) (us++(Builtin.zeroCells zz.cells mm).toList):=by
   intro olds old hol hlt hus
   subst hus
   have hge:=grownCap_ge w (nn+mm) old e
   have hcm:=grownCap_le_maxLen w (nn+mm) old e h63
   obtain⟨ck,hck⟩:∃ck,grownCap w (nn+mm) old e=ck+1:=⟨grownCap w (nn+mm) old e-1,by omega⟩
   refine⟨by rw[zh,hol,hzl,yb], .inr ⟨w.heap.size,ck,_,by rw[hck],heap_alloc_new w.drew _,by omega,by omega,?_,?_⟩⟩
   ·rw[<-hck]
    simp only[Array.size_append,yY,size_zeroCells,hzs,hol,<-yb]
    congr 1
    omega
   ·simp only[Array.toList_append]
    rw[show (nn+mm)*i.size=(us++(Builtin.zeroCells zz.cells mm).toList).length from by rw[zh,hol,hzl,yb]]
    exact List.take_left
  have grow:∀(base:Option Addr) (old:Nat),(Builtin.firstCells i.size nn (.slice base nn old)).run P w.drew= .ok us.toArray w.drew->us.length=nn*i.size->old<nn+mm->
    ∃v' w',(Builtin.append_ #[T,tn] ty #[.slice base nn old, .int .i64 mm]).run P w= .ok v' w'/\iq w' v' e i.size (nn+mm) (us++(Builtin.zeroCells zz.cells mm).toList)/\Kp [] w w'/\gO v'=V w.heap.size:=fun base old hf hul hlt=>by
   have hr:=Lib.run_append_grow_zeros (P:=P) w T tn ty e i zz .i64 kn ht htn hi hz base nn old us hf mm (by omega) hpos hlt h63' (by omega) ((hfit old).resolve_right (by omega))
   refine⟨_,_,hr,grown us old hul hlt rfl,⟨rfl,rfl,rfl,by simp,fun k hk _=>heap_alloc_old w.drew _ hk⟩,?_⟩
   have hge:=grownCap_ge w (nn+mm) old e
   obtain⟨ck,hck⟩:∃ck,grownCap w (nn+mm) old e=ck+1:=⟨grownCap w (nn+mm) old e-1,by omega⟩
   rw[hck];rfl
  rcases hrow.2 with ⟨q,rfl,rfl⟩|⟨g,cap,cur,rfl,hg,hnc,hcm,hcs,htake⟩
  ·have hu:us=[]:=yZ (by simpa using hrow.1)
   subst hu
   obtain⟨v',w',r1,r2,r3,r4⟩:=grow q 0 (by cases q<;>simp[Builtin.firstCells,loadCells,loadCellsFrom]) (by simp) (by omega)
   exact⟨v',w',r1,r2,⟨r3.os,r3.tape,r3.output,r3.size,fun k hk _=>r3.block k hk (by simp)⟩, .inr r4⟩
  ·by_cases hroom:nn+mm<=cap+1
   ·have hcl:nn*i.size+(Builtin.zeroCells zz.cells mm).toList.length<=cur.size:=by rw[hzl,hcs,<-yb];exact yF _ hroom
    have hst:=run_storeCells_at P g (nn*i.size) e (Builtin.zeroCells zz.cells mm).toList 0 cur w hg (by simpa using hcl) h1
    simp only[yf]at hst
    have hns:¬(mm*i.size=0):=Nat.mul_ne_zero hm (by omega)
    have hr:(Builtin.append_ #[T,tn] ty #[.slice (V ⟨g,0,O⟩) nn (cap+1), .int .i64 mm]).run P w= .ok (.slice (V ⟨g,0,O⟩) (nn+mm) (cap+1)) (w.setRow g (cur.toList.take (nn*i.size)++(Builtin.zeroCells zz.cells mm).toList++cur.toList.drop (nn*i.size+(Builtin.zeroCells zz.cells mm).toList.length)).toArray):=by
     simp[Builtin.append_,run_underlying ht,run_underlying htn,sizeOf,typeInfo,zeroValue,hi,hz,asInt,asIntOf,hw,hneg,hns,h48i,hroom,Addr.add_lit,hst]
    refine⟨_,_,hr,⟨by rw[zh,hrow.1,hzl,yb], .inr ⟨g,cap,_,rfl,setRow_heap w g cur _ e _ hg,hroom,hcm,?_,?_⟩⟩,mW w g _, .inl rfl⟩
    ·simp only[yY,zh,zZ,z8,Array.length_toList]at hcl ⊢
     omega
    ·rw[htake,show (nn+mm)*i.size=(us++(Builtin.zeroCells zz.cells mm).toList).length from by rw[zh,hrow.1,hzl,yb]]
     exact List.take_left
   ·have holds:∀j v,us[j]? =V v->w.cell? ((⟨g,0,O⟩:Addr).add j)=V v:=fun j v hj=>by
     rw[rf,yq];exact hrow.cells rfl j v hj
    obtain⟨v',w',r1,r2,r3,r4⟩:=grow (V ⟨g,0,O⟩) (cap+1) (run_firstCells_some (P:=P) w.drew i.size nn ⟨g,0,O⟩ nn (cap+1) us hrow.1 (by simpa using holds)) hrow.1 (by omega)
    exact⟨v',w',r1,r2,⟨r3.os,r3.tape,r3.output,r3.size,fun k hk _=>r3.block k hk (by simp)⟩, .inr r4⟩
def Eg{A:Nat->Prop}{w:World}{q:Nat}{d:U.dw q}{zs:List Value}(hd:∀A w,bK A w (U.cells q d) zs):∀n,bK A w ((zn n d).flatMap (U.cells q)) (zn n zs).flatten
 |0=>bK.nil
 |n+1=>by
  rw[yI,yI,xA,wm]
  exact(hd A w).app (Eg hd n)
section
variable {P:Program} {C:Cx} {E:Env} {σ:List cH} {o:Oper} {x y:Operand} {T tn e:TypeId} {v:Value}
def Yv.ayV{by':Nat}{kn:IntKind}{l:List (U.dw e)}{zs:List Value}{m:Int}(i:Nat)(d:U.dw e)(ho:o.op= .call {callee:= .builtin .append,args:=#[x,y],argTypes:=#[T,tn]})(hx:E.ev x=V (.lit v))(hσ:σ[i]? =V (.row v e l))(hy:E.ev y=V (.i m))(hT:P.underlying T=V (.slice e))(htn:P.underlying tn=V (.int kn))(hs:(P.info? e).map (fun i=>(i.size,i.bytes))=V ((U.sz e),by'))(hz:jT P e=V zs)(hzl:zs.length=(U.sz e))(hpos:0<(U.sz e))(hb:ya by' 4096=wO)
  (hd:∀A w,bK A w (U.cells e d) zs) (hone:zs.all Value.oneCell'=wO) (hlen:0<=m/\(l++zn m.toNat d).length<=1073741824):Yv P E σ o C (xz (gO v)) (fun a σ'=>∃v',a= .lit v'/\σ'=σ.set i (.row v' e (l++zn m.toNat d))):=fun w ρ hg hρ=>by
 obtain⟨it,hit,hz1⟩:=zm.1 hz
 obtain⟨zv,hz2,hz3⟩:=zj.1 hz1
 obtain⟨ie,hie,hse⟩:=zj.1 hs
 have hee:it=ie:=by rw[hit]at hie;exact zF.inj hie
 subst hee
 simp only[Prod.mk.injEq]at hse
 obtain⟨s1,s2⟩:=hse
 have hby:by'<=4096:=by simpa using hb
 obtain⟨us,g1,g2,g3⟩:=Di (hg.res _ (List.mem_of_getElem? hσ))
 have hx':=(hρ _ _ hx).cK
 have hy':=(hρ _ _ hy).cK
 obtain⟨mm,rfl⟩:∃mm:Nat,m=mm:=⟨m.toNat,by omega⟩
 rw[za]at hlen ⊢
 obtain⟨_,hlen⟩:=hlen
 rw[zh,xU]at hlen
 have hbytes:(l.length+mm)*by'<=140737488355328:=by
  have:(l.length+mm)*by'<=1073741824*4096:=Nat.mul_le_mul hlen hby
  omega
 have hzc:zv.cells=zs.toArray:=by rw[<-hz3]
 have hzt:(Builtin.zeroCells zv.cells mm).toList=(zn mm zs).flatten:=by rw[hzc];exact Dx hzl mm
 obtain⟨v',w',r1,r2,r3,r4⟩:=Cb (P:=P) (T:=T) (tn:=tn) (ty:=o.type) hT htn hit hz2 s1 s2 (by rw[hzc,yY,hzl]) hpos g1 (mm:=mm) (by
  rw[hzt]
  intro u hu
  obtain⟨q,hq,hu⟩:=List.mem_flatten.1 hu
  rw[List.eq_of_mem_replicate hq]at hu
  exact zo.1 hone u hu) (by unfold maxLen;omega) hbytes
 rw[hzt]at r2
 refine⟨v',w',_,_,⟨v',rfl,rfl⟩,Fl (r:= .row v e l) hg hσ r3 r4 (EM (by rw[zh,xU];exact r2) (KW g2 (fun j hj=> ?_)) ?_),?_, .lit _⟩
 ·rw[xU]at hj
  rw[getElem!_pos _ j (by simpa using hj),List.getElem_replicate,<-(hd (fun _=>True) w).1,hzl]
 ·rw[List.flatMap_append]
  refine bK.app (g3.mono fun b hb hA=>⟨⟨hA.1,fun hx=> ?_⟩,r3.block b hb (fun hx=>hA.2 (bR.2 ⟨_,List.mem_of_getElem? hσ,by simpa [cH.blk]using hx⟩))⟩) (Eg hd mm)
  obtain⟨s,hs1,hs2⟩:=bR.1 hx
  rcases List.mem_or_eq_of_mem_set hs1 with h|h
  ·exact hA.2 (bR.2 ⟨s,h,hs2⟩)
  ·rw[h]at hs2
   rcases r4 with r4|r4
   ·exact hA.2 (bR.2 ⟨_,List.mem_of_getElem? hσ,by rw[<-hs2];exact r4.symm⟩)
   ·have hs2':gO v'=V b:=hs2
    rw[r4]at hs2'
    cases hs2'
    omega
 ·simp[execOp,ho,resolve,invoke,builtin,hx',hy',r1]
end
end Go.Iv
end
noncomputable section
namespace Go.Iv
open Go Go.RowKit
variable [U:sX] {P:Program} {C:Cx} {E:Env} {σ:List cH} {o:Oper} {T T':TypeId} {x y:Operand} {v:Value}
def Yv.asZ{q:Nat}{l l2:List (U.dw q)}(i:Nat)(ho:o.op= .call {callee:= .builtin .copy,args:=#[x,y],argTypes:=#[T,T']})(hx:E.ev x=V (.lit v))(hσ:σ[i]? =V (.row v q l))(hs:Src σ E y q l2)
  (hT:P.underlying T=V (.slice q)) (hz:(P.info? q).map (·.size)=V 1) (hsz:U.sz q=1) (hlen:l2.length=l.length) (h0:0<l.length) (hone:∀a,(U.cells q a).all iA=wO):
  Yv P E σ o C (xz (gO v)) (fun a σ'=>a= .i (l.length:Int)/\σ'=σ.set i (.row v q l2)):=fun w ρ hg hρ=>by
 obtain⟨j,hj,hj'⟩:=zj.1 hz
 obtain⟨us,h1,h2,h3⟩:=hg.res _ (List.mem_of_getElem? hσ)
 obtain⟨g,cap,cur,hv,hgb,hB,q1,q2,q3,q4⟩:=h1.at h0
 obtain⟨p,cap2,news,r1,r2,r3,r4,r5,r6⟩:=Src.spec hs hg.hd hρ
 have hx':=(hρ _ _ hx).cK
 rcases r2 with r2|⟨a,rfl,r2⟩
 ·omega
 rw[hsz,y4]at r3 q3
 have hone':(l2.flatMap (U.cells q)).all iA=wO:=zo.2 fun c hc=>by
  obtain⟨z,_,hz⟩:=xV.1 hc
  exact zo.1 (hone z) c hz
 have hl:=run_loadCells_list (P:=P) w a news r2
 have hst:=run_storeCells_at P g 0 q news 0 cur w hB (by rw[r3,q3];omega) (r5.one hone')
 simp only[yf,yq,xE,yg]at hst
 have hpart:∀b,al C (σ.set i (.row v q l2)) b↔al C σ b:=fun b=>by
  have hbk:=Fq (r':=cH.row v q l2) hσ rfl
  unfold al
  rw[hbk]
 have hal:∀b,b<w.heap.size->al C σ b->al C (σ.set i (.row v q l2)) b/\(w.setRow g (news++cur.toList.drop news.length).toArray).heap[b]? =w.heap[b]? :=fun b hb hA=>
  ⟨(hpart b).2 hA,setRow_other w g b _ (fun e=>hA.2 (bR.2 ⟨_,List.mem_of_getElem? hσ,by rw[e];exact hgb⟩))⟩
 refine⟨.int .i64 l.length,w.setRow g (news++cur.toList.drop news.length).toArray,_,_,⟨rfl,rfl⟩,Fl (r:= .row v q l) hg hσ (by show Kp (xz (gO v)) _ _;rw[hgb];exact mW w g _) (.inl rfl) (EM (us:=news) ⟨by rw[hsz,y4,r3], .inr ⟨g,cap,_,by rw[hlen];exact hv,setRow_heap w g cur _ q (0,0) hB,by rw[hlen];exact q1,q2,?_,?_⟩⟩ r4 (r5.mono hal)),?_, .lit _⟩
 ·have hc:cur.toList.length=cap+1:=by rw[Array.length_toList];exact q3
  simp only[yY,zh,z8,hc,hsz,y4,r3,hlen]
  omega
 ·rw[hsz,y4,<-r3]
  simp
 ·have hmin:min l2.length l.length=news.length:=by rw[r3];omega
  have hmin':Nat.min l2.length l.length=news.length:=hmin
  have hnl:news.length=l.length:=by rw[r3,hlen]
  rw[<-hnl]
  simp[execOp,ho,resolve,invoke,builtin,hx',hv,r1,Builtin.copy_,run_underlying hT,Builtin.lenOf,Builtin.firstCells,sizeOf,typeInfo,hj,hj',hmin',hl,hst,goInt]
end Go.Iv
end
noncomputable section
namespace Go.Iv
variable [U:sX] [L:nQ]
open Go Go.RowKit
inductive fZ:Type
 |val (d:AV)
 |new (d:AV) (r:IR)
 |set (id:Nat) (r:IR)
 |grow (id:Nat) (r:IR)
 |all (d:AV) (R:aY) (nx:Nat)
def fZ.R(R:aY)(nx:Nat):fZ->aY
 | .val _=>R
 | .new _ r=>(nx,r)::R
 | .set id r=>uv id r R
 | .grow id r=>(nx,r)::kM id R
 | .all _ R' _=>R'
def fZ.nx(nx:Nat):fZ->Nat
 | .val _=>nx
 | .new _ _=>nx+1
 | .set _ _=>nx
 | .grow _ _=>nx+1
 | .all _ _ m=>m
def fZ.vl(nx:Nat):fZ->Option AV
 | .val d=>V d
 | .new d _=>V d
 | .set _ _=>O
 | .grow _ _=>V (.own nx)
 | .all d _ _=>V d
section
variable {P:Program} {C:Cx} {E:Env} {σ σ':List cH} {o:Oper} {N:Option AV->List cH->Prop} {X:List Nat} {N0:AV->List cH->Prop} {av:AV}
def Ye(P:Program)(E:Env)(σ:List cH)(o:Oper)(C:Cx)(N:Option AV->List cH->Prop):Prop:=∀(w:World) (ϱ:Operand->Value),Good C σ w->MP (al C σ) w E ϱ->
 (∃v w' av σ',N (V av) σ'/\Tr C (bH σ) σ w σ' w'/\(execOp ϱ o).run P w= .ok (.value v) w'/\Rel (al C σ') w' av v)\/
 (∃w' σ',N O σ'/\Tr C (bH σ) σ w σ' w'/\(execOp ϱ o).run P w= .ok .skip w')\/
 (∃f args,(execOp ϱ o).run P w= .ok (.enter f args) w/\Calls P f args w fun e w'=>∃v av σ',e= .returned v/\N (V av) σ'/\Tr C (bH σ) σ w σ' w'/\Rel (al C σ') w' av v)
def Tr.wide{w w':World}(h:Tr C X σ w σ' w')(hX:∀b∈X,b∈bH σ):Tr C (bH σ) σ w σ' w':=
 ⟨h.good,⟨h.kp.os,h.kp.tape,h.kp.output,h.kp.size,fun k hk hn=>h.kp.block k hk fun hx=>hn (hX k hx)⟩,fun b hb hA=>⟨(h.al b hb hA).1,hA.2⟩⟩
def Tr.none{w:World}(h:Good C σ w):Tr C (bH σ) σ w σ w:=⟨h,Kp.refl _ _,fun _ _ hA=>⟨hA,hA.2⟩⟩
def Ye.ofP(h:Yp P E σ o av)(hN:N (V av) σ):Ye P E σ o C N:=fun w ϱ hg hρ=>by
 obtain⟨v,h1,h2⟩:=h _ w ϱ hg.hd hρ
 exact .inl ⟨v,w,av,σ,hN, .none hg,h2 w (fun _ _ _=>rfl),h1⟩
def Ye.ofV(h:Yv P E σ o C X N0)(hX:∀b∈X,b∈bH σ)(hN:∀a σ',N0 a σ'->N (V a) σ'):Ye P E σ o C N:=fun w ϱ hg hρ=>by
 obtain⟨v,w',av,σ',h1,h2,h3,h4⟩:=h w ϱ hg hρ
 exact .inl ⟨v,w',av,σ',hN _ _ h1,h2.wide hX,h3,h4⟩
def Ye.ofU(h:Yu P E σ o C X σ')(hX:∀b∈X,b∈bH σ)(hN:N O σ'):Ye P E σ o C N:=fun w ϱ hg hρ=>by
 obtain⟨w',h2,h3⟩:=h w ϱ hg hρ
 exact .inr (.inl ⟨w',σ',hN,h2.wide hX,h3⟩)
def Ye.ofC(h:Yc P E σ o C X N0)(hX:∀b∈X,b∈bH σ)(hN:∀a σ',N0 a σ'->N (V a) σ'):Ye P E σ o C N:=fun w ϱ hg hρ=>by
 obtain⟨f,args,h1,h2⟩:=h w ϱ hg hρ
 exact .inr (.inr ⟨f,args,h1,h2.mono fun e w' ⟨v,av,σ',q1,q2,q3,q4⟩=>⟨v,av,σ',q1,hN _ _ q2,q3.wide hX,q4⟩⟩)
end
def Nx{α:Type}(R:aY)(nx:Nat)(K:fZ->Option α)(r:α)(ρ:Gh):Option AV->List cH->Prop:=fun a σ'=>∃eff:fZ,K eff=V r/\nx<=eff.nx nx/\aY.cM (eff.nx nx) (eff.R R nx)/\(∀d,eff.vl nx=V d->cM (eff.nx nx) d)/\
 ∃ρ',sk nx ρ ρ'/\a=(eff.vl nx).map (cc.sub ρ')/\List.Perm σ' (aY.res ρ' (eff.R R nx))
def Uk{α:Type}(P:Program)(o:Oper)(E:Env)(R:aY)(nx:Nat)(K:fZ->Option α)(r:α):Prop:=∀ρ C,Ye P (E.sub ρ) (aY.res ρ R) o C (Nx R nx K r ρ)
def Gh.gm(ρ:Gh)(n:Nat)(v:Value):Gh:=⟨fun i=>if i=n then v else ρ.v i,ρ.b⟩
def Gh.fW(ρ:Gh)(n b:Nat):Gh:=⟨ρ.v,fun i=>if i=n then b else ρ.b i⟩
def sk.gm(ρ:Gh)(n:Nat)(v:Value):sk n ρ (ρ.gm n v):=fun i hi=>⟨by simp[Gh.gm,Nat.ne_of_lt hi],rfl⟩
def sk.fW(ρ:Gh)(n b:Nat):sk n ρ (ρ.fW n b):=fun i hi=>⟨rfl,by simp[Gh.fW,Nat.ne_of_lt hi]⟩
section
variable {α:Type} {r:α} {P:Program} {o:Oper} {E:Env} {R:aY} {nx:Nat} {ev:Operand->Option AV} {rd:Nat->Option IR} {x y z:Operand} {d:AV} {K:fZ->Option α}
def Uk.pu(hs:j8 ev rd nx E R)(h:∃d,K (.val d)=V r/\Pu P o E R nx d):Uk P o E R nx K r:=fun ρ C=>by
 obtain⟨d,h1,h2,h3⟩:=h
 exact .ofP (h3 ρ) ⟨.val d,h1,zD _,hs.lr,fun d' hd=>by cases hd;exact h2,ρ, .refl _ _,rfl, .refl _⟩
def YA(hs:j8 ev rd nx E R){d:AV}{rr:IR}{ρ ρ':Gh}{σ':List cH}{a:AV}(hK:K (.new d rr)=V r)(hd:cM (nx+1) d)(hr:rr.cM (nx+1))(hρ:sk nx ρ ρ')(ha:a=d.sub ρ')(hσ:σ'=rr.res ρ' nx::aY.res ρ R):Nx R nx K r ρ (V a) σ':=by
 refine⟨.new d rr,hK,yx nx,fun p hp=> ?_,fun d' h=>by cases h;exact hd,ρ',hρ,by rw[ha];rfl,?_⟩
 ·rcases zy.1 hp with rfl|hp
  ·exact⟨zw _,hr⟩
  ·exact(hs.lr.mono (yx nx)) p hp
 ·rw[hσ,hs.lr.res hρ]
  exact .refl _
def TQ(P:Program)(nx:Nat)(T:TypeId)(K:fZ->Option α):Option α:=((P.info? T).bind fun i=>i.zero).bind fun z=>K (.new (.ptr nx 0) (.box T (z.cells.toList.map .lit)))
def abz{T:TypeId}(hs:j8 ev rd nx E R)(ho:o.op= .alloc T)(h:TQ P nx T K=V r):Uk P o E R nx K r:=fun ρ C=>by
 obtain⟨z,h1,h⟩:=zm.1 h
 obtain⟨i,h2,h3⟩:=zm.1 h1
 refine .ofV (.alloc (zs:=z.cells.toList) ho (by rw[h2];simp[h3])) (by simp) fun a σ' ⟨b,ha,hσ⟩=> ?_
 refine YA hs (ρ':=ρ.fW nx b) h (.ptr _ _ (zw _)) (fun c hc=>Le _ _ c hc) (.fW ρ nx b) ?_ ?_
 ·rw[ha,fE];simp[Gh.fW]
 ·rw[hσ];simp only[IR.res,Df];simp[Gh.fW]
def Nk(rd:Nat->Option IR)(nx:Nat)(T:TypeId)(x:Option AV)(K:fZ->Option α):Option α:=match x with
 |some d=>match Ft rd d with
  |true=>K (.new (.ptr nx 0) (.box T (dQ d)))
  |false=>O
 |none=>O
def ads{T:TypeId}(hs:j8 ev rd nx E R)(ho:o.op= .box T x)(h:Nk rd nx T (ev x) K=V r):Uk P o E R nx K r:=fun ρ C=>by
 unfold Nk at h
 split at h
 case h_2=>cases h
 rename_i d hx
 split at h
 case h_2=>cases h
 rename_i hp
 refine .ofV (.box ho (hs.fT hx ρ) (Gm hs hp)) (by simp) fun a σ' ⟨b,ha,hσ⟩=> ?_
 have hl:=AJ (hs.rN hx)
 refine YA hs (ρ':=ρ.fW nx b) h (.ptr _ _ (zw _)) (fun c hc=>(hl c hc).mono (yx nx)) (.fW ρ nx b) ?_ ?_
 ·rw[ha,fE];simp[Gh.fW]
 ·rw[hσ,lQ,cM.Wb hl (.fW ρ nx b)];simp[IR.res,Gh.fW]
def UJ:AV->Bool
 | .lit v=>v.oneCell'
 | .sl _ _=>wO
 |_=>wN
def V5:AV->Bool
 | .agg cs=>cs.all UJ
 |d=>UJ d
def Mw{d:AV}(h:UJ d=wO)(ρ:Gh):d.sub ρ=d:=by
 cases d<;>first|(cases h;done)|simp only[cc.sub]
def Ll{cs:List AV}(h:cs.all UJ=wO)(ρ:Gh):cs.map (cc.sub ρ)=cs:=by
 have:cs.map (cc.sub ρ)=cs.map id:=zV fun c hc=>Mw (zo.1 h c hc) ρ
 rw[this,List.map_id]
def Kk{d:AV}(h:V5 d=wO)(ρ:Gh):d.sub ρ=d:=by
 by_cases ha:∃cs,d= .agg cs
 ·obtain⟨cs,rfl⟩:=ha
  rw[eN,Ll h]
 ·exact Mw (by cases d<;>first|exact h|(exact cQ ⟨_,rfl⟩ ha)) ρ
def MB{d:AV}(h:UJ d=wO):iA d=wO:=by
 cases d<;>first|(cases h;done)|exact h|rfl
def D4{d:AV}(h:V5 d=wO):EB d=wO:=by
 by_cases ha:∃cs,d= .agg cs
 ·obtain⟨cs,rfl⟩:=ha
  exact zo.2 fun c hc=>MB (zo.1 h c hc)
 ·have:=MB (d:=d) (by cases d<;>first|exact h|(exact cQ ⟨_,rfl⟩ ha))
  cases d<;>first|exact this|(exact cQ ⟨_,rfl⟩ ha)
def M6(d:AV):Option Bool:=match dQ d with
 |[.lit (.bool b)]=>V b
 |_=>O
def Uh{d:AV}{b:Bool}(h:M6 d=V b):dQ d=[.lit (.bool b)]:=by
 unfold M6 at h
 split at h
 ·rename_i b' e;cases h;exact e
 ·cases h
def OV(P:Program)(rd:Nat->Option IR)(T:TypeId)(x y:Option AV)(K:fZ->Option α):Option α:=match y with
  |some d=>match (P.info? T).map (·.size)with
    |some n=>match zb (dQ d).length n&&Ft rd d with
      |true=>match x with
        |some (.ptr id off)=>match rd id with
          |some (.box T' cs)=>match ya (off+n) cs.length with
            |true=>K (.set id (.box T' (cs.take off++dQ d++cs.drop (off+n))))
            |false=>O
          |_=>O
        |some (.ra id t m off)=>match rd id with
          |some (.row t' l)=>match bif L.arr t'&&V5 d then M6 d else O with
           |some b=>if t=t'/\m<l.length/\off<U.sz t' then K (.set id (.row t' (l.set m (L.stB t' l[m]! off b))))else O
           |none=>match ya (off+n) (U.sz t')&&V5 d with
            |true=>if t=t'/\m<l.length then(L.parse t' ((U.cells t' l[m]!).take off++dQ d++(U.cells t' l[m]!).drop (off+n))).bind fun q=>K (.set id (.row t' (l.set m q)))else O
            |false=>O
          |_=>O
        |_=>O
      |false=>O
    |none=>O
  |none=>O
def acC{T:TypeId}(hs:j8 ev rd nx E R)(ho:o.op= .store T x y)(h:OV P rd T (ev x) (ev y) K=V r):Uk P o E R nx K r:=fun ρ C=>by
 unfold OV at h
 split at h
 case h_2=>cases h
 rename_i d hy
 split at h
 case h_2=>cases h
 rename_i n hn
 split at h
 case h_2=>cases h
 rename_i hdn
 simp only[zf]at hdn
 obtain⟨hlen,hp⟩:=hdn
 have hlen:=gA hlen
 split at h
 ·rename_i id off hx
  split at h
  case h_2=>cases h
  rename_i T' cs hr
  split at h
  case h_2=>cases h
  rename_i hle
  have hle:=xX hle
  have ex:=hs.fT hx ρ
  rw[fE]at ex
  obtain⟨i,hi1,hi2,_⟩:=eM (hs.r _ _ hr)
  have hres:=gY (ρ:=ρ) hi1
  have hl:∀c∈cs.take off++dQ d++cs.drop (off+n),cM nx c:=Aj (Aj (pE (hs.adA hr) _) (AJ (hs.rN hy))) (nr (hs.adA hr) _)
  refine .ofU (.an4 (cs:=cs.map (cc.sub ρ)) i ho ex (hs.fT hy ρ) hres hn (Gm hs hp) (by rw[lQ,zK,hlen]) (by rw[zK];exact hle)) (fun b hb=> ?_) ⟨_,h,zD _,qX (hs.r _ _ hr) hs.lr hl,fun d' hd=>(by cases hd),ρ, .refl _ _,rfl,?_⟩
  ·rw[zC]at hb
   exact bR.2 ⟨_,List.mem_of_getElem? hres,by rw[hb];rfl⟩
  ·show List.Perm _ (aY.res ρ (uv id _ R))
   rw[hi2,vk]
   simp only[IR.res,yc,xD,xj,lQ]
   exact .refl _
 ·rename_i id t m off hx
  split at h
  case h_2=>cases h
  rename_i t' l hr
  split at h
  ·rename_i b hbb
   cases har:L.arr t'&&V5 d with
   |false=>rw[har]at hbb;cases hbb
   |true=>
    rw[har]at hbb
    simp only[zf]at har
    obtain⟨har,hap⟩:=har
    have hab:=Uh hbb
    rw[hab]at hlen
    have hn1:n=1:=by simpa using hlen.symm
    split at h
    case isFalse=>cases h
    rename_i hm
    obtain⟨rfl,hm,hoff⟩:=hm
    have ex:=hs.fT hx ρ
    rw[jM]at ex
    obtain⟨i,hi1,hi2,_⟩:=eM (hs.r _ _ hr)
    have hres:=gY (ρ:=ρ) hi1
    have hds:=Kk hap ρ
    have hpl:EB (d.sub ρ)=wO:=by rw[hds];exact D4 hap
    refine .ofU (.ZM (of:=off) i (L.stB t l[m]! off b) ho ex (hs.fT hy ρ) hres hn hpl (by rw[hds,hab,hn1];rfl) rfl hm (by omega) (L.len _ _) (fun A w us hr=> ?_)) (fun b hb=> ?_) ⟨_,h,zD _,qX (hs.r _ _ hr) hs.lr trivial,fun d' hd=>(by cases hd),ρ, .refl _ _,rfl,?_⟩
    ·rw[hds,hab,hn1]at hr
     rw[L.abk t har _ off b hoff]
     exact hr
    ·obtain⟨g,hg⟩:∃g,gO (ρ.v id)=V g:=by
      cases hb':gO (ρ.v id)with
      |none=>rw[hb']at hb;simp at hb
      |some g=>exact⟨g,rfl⟩
     rw[hg]at hb
     simp only[xu,zC]at hb
     exact bR.2 ⟨_,List.mem_of_getElem? hres,by rw[hb];exact hg⟩
    ·show List.Perm _ (aY.res ρ (uv id _ R))
     rw[hi2,vk]
     exact .refl _
  split at h
  case h_2=>cases h
  rename_i hle
  simp only[zf]at hle
  obtain⟨hle,hap⟩:=hle
  have hle:=xX hle
  split at h
  case isFalse=>cases h
  rename_i hm
  obtain⟨rfl,hm⟩:=hm
  obtain⟨q,hq,h⟩:=zm.1 h
  have ex:=hs.fT hx ρ
  rw[jM]at ex
  obtain⟨i,hi1,hi2,_⟩:=eM (hs.r _ _ hr)
  have hres:=gY (ρ:=ρ) hi1
  have hds:=Kk hap ρ
  have hpl:EB (d.sub ρ)=wO:=by rw[hds];exact D4 hap
  refine .ofU (.ZM (of:=off) i q ho ex (hs.fT hy ρ) hres hn hpl (by rw[lQ,zK,hlen]) rfl hm hle (L.len _ _) (fun A w us hr=> ?_)) (fun b hb=> ?_) ⟨_,h,zD _,qX (hs.r _ _ hr) hs.lr trivial,fun d' hd=>(by cases hd),ρ, .refl _ _,rfl,?_⟩
  ·refine L.lW _ _ _ hq A w us ?_
   rw[hds]at hr
   exact hr
  ·obtain⟨g,hg⟩:∃g,gO (ρ.v id)=V g:=by
    cases hb':gO (ρ.v id)with
    |none=>rw[hb']at hb;simp at hb
    |some g=>exact⟨g,rfl⟩
   rw[hg]at hb
   simp only[xu,zC]at hb
   exact bR.2 ⟨_,List.mem_of_getElem? hres,by rw[hb];exact hg⟩
  ·show List.Perm _ (aY.res ρ (uv id _ R))
   rw[hi2,vk]
   exact .refl _
 ·cases h
def prs(t:Nat):Nat->List AV->Option (List (U.dw t))
 |0,[]=>V []
 |0,_=>O
 |n+1,cs=>(L.parse t (cs.take (U.sz t))).bind fun x=>(prs t n (cs.drop (U.sz t))).map fun l=>x::l
def Wl{t:Nat}:∀{n:Nat} {cs:List AV} {l:List (U.dw t)},prs t n cs=V l->cs.length=n*U.sz t->l.length=n/\∀A w us,bK A w cs us->bK A w (l.flatMap (U.cells t)) us
 |0,[],l,h,_=>by
  cases h
  exact⟨rfl,fun A w us h=>h⟩
 |0,_::_,l,h,_=>by cases h
 |n+1,cs,l,h,hl=>by
  unfold prs at h
  obtain⟨x,h1,h⟩:=zm.1 h
  obtain⟨l',h2,rfl⟩:=zj.1 h
  rw[yH]at hl
  obtain⟨h3,h4⟩:=Wl h2 (by rw[z8];omega)
  refine⟨by simp[h3],fun A w us hr=> ?_⟩
  rw[xA,<-xe (U.sz t) us]
  exact(L.lW _ _ _ h1 A w _ (hr.take _)).app (h4 A w _ (hr.drop _))
def PM(P:Program)(ev:Operand->Option AV)(rd:Nat->Option IR)(nx:Nat)(T:TypeId)(n:Nat)(ps:List (Nat×Operand))(K:fZ->Option α):Option α:=match P.underlying T with
 |some (.slice e)=>match Mu P e (U.sz e)with
  |true=>match n with
   |0=>match ps with
    |[]=>K (.new (.own nx) (.row e []))
    |_=>O
   |n+1=>match evp ev ps,jT P e with
    |some as0,V zs=>match zb zs.length (U.sz e)&&zB 0 (U.sz e)&&ya ((n+1)*U.sz e) 16777216 with
     |true=>(Af rd (fun i=>V (i*U.sz e,U.sz e)) ((zn (n+1) zs).flatten.map .lit) as0).bind fun cs=>match cs.all UJ&&zb cs.length ((n+1)*U.sz e)with
      |true=>(prs e (n+1) cs).bind fun l=>K (.new (.own nx) (.row e l))
      |false=>O
     |false=>O
    |_,_=>O
  |false=>O
 |_=>O
def GW(hs:j8 ev rd nx E R){t:Nat}{l:List (U.dw t)}{ρ:Gh}{σ':List cH}{a:AV}(hK:K (.new (.own nx) (.row t l))=V r)(h:∃v,a= .lit v/\σ'= .row v t l::aY.res ρ R):Nx R nx K r ρ (V a) σ':=by
 obtain⟨v,ha,hσ⟩:=h
 refine YA hs (ρ':=ρ.gm nx v) hK (.own _ (zw _)) trivial (.gm ρ nx v) ?_ ?_
 ·rw[ha,dW];simp[Gh.gm]
 ·rw[hσ];simp[IR.res,Gh.gm]
def acG{T:TypeId}{n:Nat}{ps:Array (Nat×Operand)}(hs:j8 ev rd nx E R)(ho:o.op= .buildSlice T n ps)(h:PM P ev rd nx T n ps.toList K=V r):Uk P o E R nx K r:=fun ρ C=>by
 unfold PM at h
 split at h
 case h_2=>cases h
 rename_i e hT
 split at h
 case h_2=>cases h
 rename_i hsz
 have hsz:=se hsz
 split at h
 ·split at h
  case h_2=>cases h
  rename_i h0
  have h0:ps=#[]:=by rw[<-Array.toList_eq_nil_iff];exact h0
  subst h0
  exact .ofV (.axt ho hT hsz) (by simp) fun a σ' hN=>GW hs h hN
 ·rename_i n
  split at h
  case h_2=>cases h
  rename_i as0 zs he hz
  split at h
  case h_2=>cases h
  rename_i hc
  simp only[zf]at hc
  obtain⟨⟨hc1,hc2⟩,hc3⟩:=hc
  have hc1:=gA hc1
  have hc2:0<U.sz e:=by simpa [yu]using hc2
  have hc3:=xX hc3
  obtain⟨cs,hf,h⟩:=zm.1 h
  split at h
  case h_2=>cases h
  rename_i hd
  simp only[zf]at hd
  obtain⟨hd1,hd2⟩:=hd
  have hd2:=gA hd2
  obtain⟨l,hl,h⟩:=zm.1 h
  obtain⟨hl1,hl2⟩:=Wl hl hd2
  refine .ofV (.lit l ho hT hsz hz hc1 (fun A w ϱ hd hρ=> ?_) hl1 (fun i hi=>L.len _ _) (Nat.mul_pos (Nat.succ_pos _) hc2) hc3) (by simp) fun a σ' hN=>GW hs h hN
  obtain⟨us,h1,h2⟩:=Ba (init:=(zn (n+1) zs).flatten.toArray) hs hd (by rw[Df];exact bK.lits _) (HT hs hρ he) hf
  rw[Ll hd1]at h2
  exact⟨us,h1,hl2 _ _ _ h2⟩
def mkE(P:Program)(nx:Nat)(T:TypeId)(x y:Option AV)(K:fZ->Option α):Option α:=match P.underlying T,x,y with
 |some (.slice e),V (.lit (.int .i64 m)),V (.lit (.int .i64 n))=>match (P.info? e).map (fun i=>(i.size,i.bytes)),jT P e with
  |some (sz,by'),V zs=>match zb sz (U.sz e)&&ya by' 4096&&zb zs.length (U.sz e)&&zB 0 (U.sz e)with
   |true=>(L.parse e (zs.map .lit)).bind fun d=>if 0<=m/\m<=n/\n<=1073741824 then K (.new (.own nx) (.row e (zn m.toNat d)))else O
   |false=>O
  |_,_=>O
 |_,_,_=>O
def ak7{T:TypeId}(hs:j8 ev rd nx E R)(ho:o.op= .makeSlice T x y)(h:mkE P nx T (ev x) (ev y) K=V r):Uk P o E R nx K r:=fun ρ C=>by
 unfold mkE at h
 split at h
 case h_2=>cases h
 rename_i e m n hT hx hy
 split at h
 case h_2=>cases h
 rename_i sz by' zs hb hz
 split at h
 case h_2=>cases h
 rename_i hc
 simp only[zf]at hc
 obtain⟨⟨⟨hc1,hc2⟩,hc3⟩,hc4⟩:=hc
 have hc1:=gA hc1
 have hc3:=gA hc3
 have hc4:0<U.sz e:=by simpa [yu]using hc4
 subst hc1
 obtain⟨d,hd,h⟩:=zm.1 h
 split at h
 case isFalse=>cases h
 rename_i hm
 have ex:=hs.fT hx ρ
 have ey:=hs.fT hy ρ
 rw[bT]at ex ey
 exact .ofV (.make d ho ex ey hT hb hz hc2 hc3 (fun A w=>L.lW _ _ _ hd A w _ (bK.lits _)) hc4 hm) (by simp) fun a σ' hN=>GW hs h hN
def emE(P:Program)(nx:Nat)(T:TypeId)(x:Option AV)(K:fZ->Option α):Option α:=match P.underlying T with
 |some (.slice e)=>match P.info? e with
  |some _=>match x with
   |some (.sl _ _)=>K (.new (.own nx) (.row e []))
   |some (.lit (.slice O 0 0))=>K (.new (.own nx) (.row e []))
   |_=>O
  |none=>O
 |_=>O
def aoo{T:TypeId}{k k':IntKind}(hs:j8 ev rd nx E R)(ho:o.op= .slice T x O (V (.const (.int k 0))) (V (.const (.int k' 0))))(h:emE P nx T (ev x) K=V r):Uk P o E R nx K r:=fun ρ C=>by
 unfold emE at h
 split at h
 case h_2=>cases h
 rename_i e hT
 split at h
 case h_2=>cases h
 rename_i i hi
 split at h
 ·rename_i t l hx
  have ex:=hs.fT hx ρ
  rw[gE]at ex
  exact .ofV (.TB ho (.inl ex) hT (by rw[hi];rfl)) (by simp) fun a σ' hN=>GW hs h hN
 ·rename_i hx
  have ex:=hs.fT hx ρ
  rw[bT]at ex
  exact .ofV (.TB (q:=0) (l:=[]) ho (.inr ex) hT (by rw[hi];rfl)) (by simp) fun a σ' hN=>GW hs h hN
 ·cases h
def adW(rd:Nat->Option IR)(e:Nat)(x:Option AV):Option (List (U.dw e)):=match x with
 |some (.lit (.slice _ 0 _))=>V []
 |some (.sl t l)=>vw t e l
 |some (.own id)=>match rd id with
  |some (.row t l)=>vw t e l
  |_=>O
 |_=>O
def Hy{e:Nat}{l:List (U.dw e)}(hs:j8 ev rd nx E R)(h:adW rd e (ev x)=V l)(ρ:Gh):Src (aY.res ρ R) (E.sub ρ) x e l:=by
 unfold adW at h
 split at h
 ·rename_i hx
  cases h
  have ex:=hs.fT hx ρ
  rw[bT]at ex
  exact .inl ⟨_,_,ex,rfl⟩
 ·rename_i t l' hx
  obtain⟨rfl,rfl⟩:=nD h
  have ex:=hs.fT hx ρ
  rw[gE]at ex
  exact .inr (.inl ex)
 ·rename_i id hx
  split at h
  case h_2=>cases h
  rename_i t l' hr
  obtain⟨rfl,rfl⟩:=nD h
  have ex:=hs.fT hx ρ
  rw[dW]at ex
  obtain⟨i,hi⟩:=hs.row hr ρ
  exact .inr (.inr ⟨i,_,ex,hi⟩)
 ·cases h
def Src.cons{P:Program}{σ:List cH}{E:Env}{rr:cH}{q:Nat}{l:List (U.dw q)}(h:Src σ E x q l):Src (rr::σ) E x q l:=by
 rcases h with h|h|⟨i,v,h1,h2⟩
 ·exact .inl h
 ·exact .inr (.inl h)
 ·exact .inr (.inr ⟨i+1,v,h1,h2⟩)
def Uf(P:Program)(T:TypeId)(K:Nat->List Value->Option α):Option α:=match P.underlying T with
 |some (.slice e)=>match (P.info? e).map (fun i=>(i.size,i.bytes)),jT P e with
  |some (sz,by'),V zs=>match zb sz (U.sz e)&&ya by' 4096&&zb zs.length (U.sz e)with
   |true=>K e zs
   |false=>O
  |_,_=>O
 |_=>O
def afV{T:TypeId}{K:Nat->List Value->Option α}(h:Uf P T K=V r):∃e zs by',K e zs=V r/\P.underlying T=V (.slice e)/\(P.info? e).map (fun i=>(i.size,i.bytes))=V (U.sz e,by')/\jT P e=V zs/\ya by' 4096=wO/\zs.length=U.sz e:=by
 unfold Uf at h
 split at h
 case h_2=>cases h
 rename_i e hT
 split at h
 case h_2=>cases h
 rename_i sz by' zs hb hz
 split at h
 case h_2=>cases h
 rename_i hc
 simp only[zf]at hc
 obtain⟨⟨hc1,hc2⟩,hc3⟩:=hc
 have hc1:=gA hc1
 subst hc1
 exact⟨e,zs,by',h,hT,hb,hz,hc2,gA hc3⟩
def NM(P:Program)(rd:Nat->Option IR)(e:Nat)(zs:List Value)(T':TypeId)(T:TypeId)(y:Option AV)(K:List (U.dw e)->Option α):Option α:=match zb T T' with
 |true=>(adW rd e y).bind K
 |false=>match P.underlying T',y with
  |some (.int _),V (.lit (.int .i64 m))=>match zB 0 (U.sz e)&&zs.all Value.oneCell' with
   |true=>(L.parse e (zs.map .lit)).bind fun d=>if 0<=m then K (zn m.toNat d)else O
   |false=>O
  |_,_=>O
def Ua(P:Program)(rd:Nat->Option IR)(nx:Nat)(T T':TypeId)(x y:Option AV)(K:fZ->Option α):Option α:=Uf P T fun e zs=>match x with
 |some (.lit (.slice O 0 0))=>NM P rd e zs T' T y fun l2=>if l2.length<=1073741824 then K (.new (.own nx) (.row e l2))else O
 |some (.own id)=>match rd id with
  |some (.row t l)=>(vw t e l).bind fun l=>NM P rd e zs T' T y fun l2=>if(l++l2).length<=1073741824 then K (.grow id (.row e (l++l2)))else O
  |_=>O
 |_=>O
def Ph(P:Program)(rd:Nat->Option IR)(R:aY)(nx:Nat)(T:TypeId)(x y:Option AV)(K:fZ->Option α):Option α:=match P.underlying T with
 |some (.slice e)=>match Mu P e 1&&zb (U.sz e) 1 with
  |true=>match x with
   |some (.own id)=>match rd id with
    |some (.row t l)=>(vw t e l).bind fun l=>(adW rd e y).bind fun l2=>if 0<l.length/\l2.length=l.length then K (.all (.i (l.length:Int)) (uv id (.row e l2) R) nx)else O
    |_=>O
   |_=>O
  |false=>O
 |_=>O
def abj{T T':TypeId}(hs:j8 ev rd nx E R)(ho:o.op= .call {callee:= .builtin .copy,args:=#[x,y],argTypes:=#[T,T']})(h:Ph P rd R nx T (ev x) (ev y) K=V r):Uk P o E R nx K r:=fun ρ C=>by
 unfold Ph at h
 split at h
 case h_2=>cases h
 rename_i e hT
 split at h
 case h_2=>cases h
 rename_i hc
 rw[zf]at hc
 split at h
 case h_2=>cases h
 rename_i id hx
 split at h
 case h_2=>cases h
 rename_i t l hr
 obtain⟨l',h1,h⟩:=zm.1 h
 obtain⟨rfl,rfl⟩:=nD h1
 obtain⟨l2,h2,h⟩:=zm.1 h
 split at h
 case isFalse=>cases h
 rename_i hl
 have ex:=hs.fT hx ρ
 rw[dW]at ex
 obtain⟨i,hi1,hi2,_⟩:=eM (hs.r _ _ hr)
 have hres:=gY (ρ:=ρ) hi1
 refine .ofV (.asZ i ho ex hres (Hy hs h2 ρ) hT (se hc.1) (gA hc.2) hl.2 hl.1 (L.one _)) (fun b hb=> ?_) fun a σ' ⟨ha,hσ⟩=>⟨_,h,zD _,qX (hs.r _ _ hr) hs.lr trivial,fun d' hd=>(by cases hd;exact .lit _),ρ, .refl _ _,by rw[ha];simp only[fZ.vl,yt,cc.sub],?_⟩
 ·obtain⟨g,hg⟩:∃g,gO (ρ.v id)=V g:=by
   cases hb':gO (ρ.v id)with
   |none=>rw[hb']at hb;simp at hb
   |some g=>exact⟨g,rfl⟩
  rw[hg]at hb
  simp only[xu,zC]at hb
  exact bR.2 ⟨_,List.mem_of_getElem? hres,by rw[hb];exact hg⟩
 ·show List.Perm _ (aY.res ρ (uv id _ R))
  rw[hσ,hi2,vk]
  exact .refl _
def set_perm{β:Type}{l:List β}{i:Nat}{a b:β}(h:l[i]? =V b):List.Perm (l.set i a) (a::l.eraseIdx i):=by
 have hi:=(zX.1 h).1
 rw[wB,wA,bw hi]
 exact List.perm_middle
def QB{T T':TypeId}{e by':Nat}{zs:List Value}{K':List (U.dw e)->Option α}{rs:List cH}{ρ:Gh}{C:Cx}(hs:j8 ev rd nx E R)(ho:o.op= .call {callee:= .builtin .append,args:=#[x,y],argTypes:=#[T,T']})(h:NM P rd e zs T' T (ev y) K'=V r)
  (hT:P.underlying T=V (.slice e)) (hb:(P.info? e).map (fun i=>(i.size,i.bytes))=V (U.sz e,by')) (hz:jT P e=V zs) (hb4:ya by' 4096=wO) (hzl:zs.length=U.sz e):
  ∃l2,K' l2=V r/\∀(σ:List cH) (v:Value) (i:Nat) (l:List (U.dw e)),(σ=aY.res ρ R\/∃rr,σ=rr::aY.res ρ R)->(E.sub ρ).ev x=V (.lit v)->σ[i]? =V (.row v e l)->(l++l2).length<=1073741824->
   Yv P (E.sub ρ) σ o C (xz (gO v)) (fun a σ'=>∃v',a= .lit v'/\σ'=σ.set i (.row v' e (l++l2))):=by
 unfold NM at h
 split at h
 ·rename_i hTT
  have:=gA hTT
  subst this
  obtain⟨l2,h1,h⟩:=zm.1 h
  refine⟨l2,h,fun σ v i l hσ hx hi hlen=> ?_⟩
  have hsrc:Src σ (E.sub ρ) y e l2:=by
   rcases hσ with rfl|⟨rr,rfl⟩
   ·exact Hy hs h1 ρ
   ·exact Src.cons (P:=P) (Hy hs h1 ρ)
  exact .app i ho hx hi hsrc hT hb hz hzl hb4 (L.one e) hlen
 ·split at h
  case h_2=>cases h
  rename_i kn m hT' hy
  split at h
  case h_2=>cases h
  rename_i hc
  simp only[zf]at hc
  obtain⟨hc1,hc2⟩:=hc
  obtain⟨d,hd,h⟩:=zm.1 h
  split at h
  case isFalse=>cases h
  rename_i hm
  refine⟨_,h,fun σ v i l hσ hx hi hlen=> ?_⟩
  have ey:=hs.fT hy ρ
  rw[bT]at ey
  exact .ayV i d ho hx hi ey hT hT' hb hz hzl (by simpa [yu]using hc1) hb4 (fun A w=>L.lW _ _ _ hd A w _ (bK.lits _)) hc2 ⟨hm,hlen⟩
def acA{T T':TypeId}(hs:j8 ev rd nx E R)(ho:o.op= .call {callee:= .builtin .append,args:=#[x,y],argTypes:=#[T,T']})(h:Ua P rd nx T T' (ev x) (ev y) K=V r):Uk P o E R nx K r:=fun ρ C=>by
 obtain⟨e,zs,by',h,hT,hb,hz,hb4,hzl⟩:=afV h
 split at h
 ·rename_i hx
  obtain⟨l2,h,hY⟩:=QB (rs:=[]) (ρ:=ρ) (C:=C) hs ho h hT hb hz hb4 hzl
  split at h
  case isFalse=>cases h
  rename_i hlen
  have ex:=hs.fT hx ρ
  rw[bT]at ex
  intro w ϱ hg hρ
  have ht:Tr C [] (aY.res ρ R) w (.row (.slice O 0 0) e []::aY.res ρ R) w:=PL O e hg
  have hal:∀b,al C (aY.res ρ R) b->al C (.row (.slice O 0 0) e []::aY.res ρ R) b:=fun b hA=>⟨hA.1,fun hx=>hA.2 (by
   rw[fB]at hx
   simpa [cH.blk,gO]using hx)⟩
  obtain⟨v,w',av,σ',⟨v',ha,hσ⟩,h2,h3,h4⟩:=hY _ (.slice O 0 0) 0 [] (.inr ⟨_,rfl⟩) ex rfl (by simpa using hlen) w ϱ ht.good (fun u d hu=>(hρ u d hu).mono fun b _ hA=>⟨hal b hA,rfl⟩)
  refine .inl ⟨v,w',av,σ',GW hs h ⟨v',ha,by rw[hσ];rfl⟩,⟨h2.good,⟨h2.kp.os,h2.kp.tape,h2.kp.output,h2.kp.size,fun k hk _=>h2.kp.block k hk (by simp[gO])⟩,fun b hb hA=>⟨(h2.al b hb (hal b hA)).1,hA.2⟩⟩,h3,h4⟩
 ·rename_i id hx
  split at h
  case h_2=>cases h
  rename_i t l0 hr
  obtain⟨l,hl,h⟩:=zm.1 h
  obtain⟨rfl,rfl⟩:=nD hl
  obtain⟨l2,h,hY⟩:=QB (rs:=[]) (ρ:=ρ) (C:=C) hs ho h hT hb hz hb4 hzl
  split at h
  case isFalse=>cases h
  rename_i hlen
  have ex:=hs.fT hx ρ
  rw[dW]at ex
  obtain⟨i,hi1,_,hi3⟩:=eM (hs.r _ _ hr)
  have hres:=gY (ρ:=ρ) hi1
  refine .ofV (hY _ _ i _ (.inl rfl) ex hres hlen) (fun b hb=> ?_) fun a σ' ⟨v',ha,hσ⟩=> ?_
  ·obtain⟨g,hg⟩:∃g,gO (ρ.v id)=V g:=by
    cases hb':gO (ρ.v id)with
    |none=>rw[hb']at hb;simp at hb
    |some g=>exact⟨g,rfl⟩
   rw[hg]at hb
   simp only[xu,zC]at hb
   exact bR.2 ⟨_,List.mem_of_getElem? hres,by rw[hb];exact hg⟩
  ·have hdl:=Dn (id:=id) hs.lr
   refine⟨_,h,yx nx,fun p hp=> ?_,fun d' hd=>by cases hd;exact .own _ (zw _),ρ.gm nx v', .gm ρ nx v',?_,?_⟩
   ·rcases zy.1 hp with rfl|hp
    ·exact⟨zw _,trivial⟩
    ·exact(hdl.mono (yx nx)) p hp
   ·rw[ha];simp[fZ.vl,dW,Gh.gm]
   ·rw[hσ]
    show List.Perm _ (aY.res _ ((nx,_)::kM id R))
    have e1:aY.res (ρ.gm nx v') ((nx,IR.row t (l0++l2))::kM id R)=cH.row v' t (l0++l2)::(aY.res ρ R).eraseIdx i:=by
     show _::aY.res _ (kM id R)=_
     rw[<-hdl.res (.gm ρ nx v'),hi3,A4]
     simp[IR.res,Gh.gm]
    rw[e1]
    exact set_perm hres
 ·cases h
def mnV(mx:Bool)(xs:List (Option AV))(K:AV->Option α):Option α:=match xs with
 |[V (.lit (.int k m)),V (.lit (.int k' n))]=>if k=k' then(match mx with
  |true=>K (.n k (if m<n then n else m))
  |false=>K (.n k (if n<m then n else m)))else O
 |_=>O
abbrev aK:=(α:Type)->FuncId->List AV->aY->Nat->(AV->aY->Nat->Option α)->Option α
def iJ(P:Program)(F:aK):Prop:=∀(α:Type) f args R nx (k:AV->aY->Nat->Option α) r,F α f args R nx k=V r->(∀d∈args,cM nx d)->aY.cM nx R->AZ P f/\
 ∀ρ,Fn P f (args.map (cc.sub ρ)) (aY.res ρ R) fun a s=>∃d R' nx',k d R' nx'=V r/\nx<=nx'/\cM nx' d/\aY.cM nx' R'/\∃ρ',sk nx ρ ρ'/\a=d.sub ρ'/\List.Perm s (aY.res ρ' R')
def Ji(F:aK)(ev:Operand->Option AV)(R:aY)(nx:Nat)(x:Option AV)(xs:List Operand)(K:fZ->Option α):Option α:=match x with
 |some (.fn (.func f) caps)=>(Ls ev xs).bind fun as0=>F α f (as0++caps) R nx fun d R' nx'=>K (.all d R' nx')
 |_=>O
def adt{F:aK}{xs:Array Operand}{ts:Array TypeId}(hF:iJ P F)(hs:j8 ev rd nx E R)(ho:o.op= .call {callee:= .value x,args:=xs,argTypes:=ts})(h:Ji F ev R nx (ev x) xs.toList K=V r):Uk P o E R nx K r:=fun ρ C=>by
 unfold Ji at h
 split at h
 case h_2=>cases h
 rename_i f caps hx
 obtain⟨as0,ha,h⟩:=zm.1 h
 have ex:=hs.fT hx ρ
 rw[tH]at ex
 obtain⟨hf,hfn⟩:=hF _ _ _ _ _ _ _ h (Aj (HN hs ha) (hs.rN hx).fnL) hs.lr
 refine .ofC (.fn (σr:=[]) ho ex hf (JT hs ρ ha) (by rw[yc]) (yj _).symm (hfn ρ)) (fun b hb=>hb) fun a σ' ⟨σo,hN,hσ⟩=> ?_
 obtain⟨d,R',nx',h1,h2,h3,h4,ρ',h5,h6,h7⟩:=hN
 rw[yj]at hσ
 exact⟨.all d R' nx',h1,h2,h4,fun d' hd=>by cases hd;exact h3,ρ',h5,by rw[h6];rfl,by rw[hσ];exact h7⟩
end
def dI{α:Type}(K:fZ->Option α)(d:AV):Option α:=K (.val d)
def Hr{α:Type}(P:Program)(F:aK)(ev:Operand->Option AV)(rd:Nat->Option IR)(R:aY)(nx:Nat)(o:Op)(K:fZ->Option α):Option α:=match o with
 | .move x=>(ev x).bind (dI K)
 | .assign x=>(ev x).bind (dI K)
 | .pick c a b=>match ev c with
  |some (.lit (.bool wO))=>(ev a).bind (dI K)
  |some (.lit (.bool wN))=>(ev b).bind (dI K)
  |_=>O
 | .binOp b T x y _=>uC P rd b T (ev x) (ev y) (dI K)
 | .unOp b _ x=>unV b (ev x) (dI K)
 | .convert T T' x=>Nh P rd T T' (ev x) (dI K)
 | .nilCheck x=>PZ (ev x) (dI K)
 | .fieldAddr T x i=>MU P T i (ev x) (dI K)
 | .indexAddr T x y=>Qb P rd T (ev x) (ev y) (dI K)
 | .index T x y=>NF P T (ev x) (ev y) (dI K)
 | .load T x=>ldV P rd T (ev x) (dI K)
 | .store T x y=>OV P rd T (ev x) (ev y) K
 | .makeFunc f fs cs=>Ny ev f fs.toList cs.toList (dI K)
 | .extract x i=>Nn i (ev x) (dI K)
 | .build T ps=>Pt P ev rd T ps.toList (dI K)
 | .buildSlice T n ps=>PM P ev rd nx T n ps.toList K
 | .makeSlice T x y=>mkE P nx T (ev x) (ev y) K
 | .alloc T=>TQ P nx T K
 | .box T x=>Nk rd nx T (ev x) K
 | .slice T x lo hi mx=>match mx with
  |none=>Qi P T (ev x) (lo.map ev) (hi.map ev) (dI K)
  |some (.const (.int _ 0))=>match lo,hi with
   |none,V (.const (.int _ 0))=>emE P nx T (ev x) K
   |_,_=>O
  |_=>O
 | .call {callee:= .builtin .len,args:=as0,argTypes:=ts}=>match as0.toList,ts.toList with
  |[x],[T]=>OO P rd T (ev x) (dI K)
  |_,_=>O
 | .call {callee:= .builtin .max,args:=as0,argTypes:=ts}=>match as0.toList,ts.toList with
  |[x,y],[_,_]=>mnV wO [ev x,ev y] (dI K)
  |_,_=>O
 | .call {callee:= .builtin .min,args:=as0,argTypes:=ts}=>match as0.toList,ts.toList with
  |[x,y],[_,_]=>mnV wN [ev x,ev y] (dI K)
  |_,_=>O
 | .call {callee:= .builtin .append,args:=as0,argTypes:=ts}=>match as0.toList,ts.toList with
  |[x,y],[T,T']=>Ua P rd nx T T' (ev x) (ev y) K
  |_,_=>O
 | .call {callee:= .builtin .copy,args:=as0,argTypes:=ts}=>match as0.toList,ts.toList with
  |[x,y],[T,_]=>Ph P rd R nx T (ev x) (ev y) K
  |_,_=>O
 | .call {callee:= .value x,args:=as0,argTypes:=_}=>Ji F ev R nx (ev x) as0.toList K
 |_=>O
section
variable {α:Type}
def QC(x:Operand)(_:Program)(_:aK)(ev:Operand->Option AV)(_:Nat->Option IR)(_:aY)(_:Nat)(K:fZ->Option α):Option α:=(ev x).bind (dI K)
def Ad(c a b:Operand)(_:Program)(_:aK)(ev:Operand->Option AV)(_:Nat->Option IR)(_:aY)(_:Nat)(K:fZ->Option α):Option α:=match ev c with
 |some (.lit (.bool wO))=>(ev a).bind (dI K)
 |some (.lit (.bool wN))=>(ev b).bind (dI K)
 |_=>O
def aii(b:BinOp)(T:TypeId)(x y:Operand)(P:Program)(_:aK)(ev:Operand->Option AV)(rd:Nat->Option IR)(_:aY)(_:Nat)(K:fZ->Option α):Option α:=uC P rd b T (ev x) (ev y) (dI K)
def auN(b:UnOp)(x:Operand)(_:Program)(_:aK)(ev:Operand->Option AV)(_:Nat->Option IR)(_:aY)(_:Nat)(K:fZ->Option α):Option α:=unV b (ev x) (dI K)
def ai8(T T':TypeId)(x:Operand)(P:Program)(_:aK)(ev:Operand->Option AV)(rd:Nat->Option IR)(_:aY)(_:Nat)(K:fZ->Option α):Option α:=Nh P rd T T' (ev x) (dI K)
def aiK(x:Operand)(_:Program)(_:aK)(ev:Operand->Option AV)(_:Nat->Option IR)(_:aY)(_:Nat)(K:fZ->Option α):Option α:=PZ (ev x) (dI K)
def ajm(T:TypeId)(x:Operand)(i:Nat)(P:Program)(_:aK)(ev:Operand->Option AV)(_:Nat->Option IR)(_:aY)(_:Nat)(K:fZ->Option α):Option α:=MU P T i (ev x) (dI K)
def ahL(T:TypeId)(x y:Operand)(P:Program)(_:aK)(ev:Operand->Option AV)(rd:Nat->Option IR)(_:aY)(_:Nat)(K:fZ->Option α):Option α:=Qb P rd T (ev x) (ev y) (dI K)
def aiL(T:TypeId)(x y:Operand)(P:Program)(_:aK)(ev:Operand->Option AV)(_:Nat->Option IR)(_:aY)(_:Nat)(K:fZ->Option α):Option α:=NF P T (ev x) (ev y) (dI K)
def apS(T:TypeId)(x:Operand)(P:Program)(_:aK)(ev:Operand->Option AV)(rd:Nat->Option IR)(_:aY)(_:Nat)(K:fZ->Option α):Option α:=ldV P rd T (ev x) (dI K)
def aif(T:TypeId)(x y:Operand)(P:Program)(_:aK)(ev:Operand->Option AV)(rd:Nat->Option IR)(_:aY)(_:Nat)(K:fZ->Option α):Option α:=OV P rd T (ev x) (ev y) K
def ai3(f:Go.Fn)(fs cs:Array Operand)(_:Program)(_:aK)(ev:Operand->Option AV)(_:Nat->Option IR)(_:aY)(_:Nat)(K:fZ->Option α):Option α:=Ny ev f fs.toList cs.toList (dI K)
def ai9(x:Operand)(i:Nat)(_:Program)(_:aK)(ev:Operand->Option AV)(_:Nat->Option IR)(_:aY)(_:Nat)(K:fZ->Option α):Option α:=Nn i (ev x) (dI K)
def aiy(T:TypeId)(ps:Array (Nat×Operand))(P:Program)(_:aK)(ev:Operand->Option AV)(rd:Nat->Option IR)(_:aY)(_:Nat)(K:fZ->Option α):Option α:=Pt P ev rd T ps.toList (dI K)
def ajn(T:TypeId)(n:Nat)(ps:Array (Nat×Operand))(P:Program)(_:aK)(ev:Operand->Option AV)(rd:Nat->Option IR)(_:aY)(nx:Nat)(K:fZ->Option α):Option α:=PM P ev rd nx T n ps.toList K
def ata(T:TypeId)(x y:Operand)(P:Program)(_:aK)(ev:Operand->Option AV)(_:Nat->Option IR)(_:aY)(nx:Nat)(K:fZ->Option α):Option α:=mkE P nx T (ev x) (ev y) K
def aio(T:TypeId)(P:Program)(_:aK)(_:Operand->Option AV)(_:Nat->Option IR)(_:aY)(nx:Nat)(K:fZ->Option α):Option α:=TQ P nx T K
def ah4(T:TypeId)(x:Operand)(_:Program)(_:aK)(ev:Operand->Option AV)(rd:Nat->Option IR)(_:aY)(nx:Nat)(K:fZ->Option α):Option α:=Nk rd nx T (ev x) K
def MI(T:TypeId)(x:Operand)(lo hi mx:Option Operand)(P:Program)(_:aK)(ev:Operand->Option AV)(_:Nat->Option IR)(_:aY)(nx:Nat)(K:fZ->Option α):Option α:=match mx with
 |none=>Qi P T (ev x) (lo.map ev) (hi.map ev) (dI K)
 |some (.const (.int _ 0))=>match lo,hi with
  |none,V (.const (.int _ 0))=>emE P nx T (ev x) K
  |_,_=>O
 |_=>O
def BN(b:Builtin)(as0:Array Operand)(ts:Array TypeId)(P:Program)(ev:Operand->Option AV)(rd:Nat->Option IR)(R:aY)(nx:Nat)(K:fZ->Option α):Option α:=match b with
 | .len=>match as0.toList,ts.toList with
  |[x],[T]=>OO P rd T (ev x) (dI K)
  |_,_=>O
 | .max=>match as0.toList,ts.toList with
  |[x,y],[_,_]=>mnV wO [ev x,ev y] (dI K)
  |_,_=>O
 | .min=>match as0.toList,ts.toList with
  |[x,y],[_,_]=>mnV wN [ev x,ev y] (dI K)
  |_,_=>O
 | .append=>match as0.toList,ts.toList with
  |[x,y],[T,T']=>Ua P rd nx T T' (ev x) (ev y) K
  |_,_=>O
 | .copy=>match as0.toList,ts.toList with
  |[x,y],[T,_]=>Ph P rd R nx T (ev x) (ev y) K
  |_,_=>O
 |_=>O
def DS(c:Call)(P:Program)(F:aK)(ev:Operand->Option AV)(rd:Nat->Option IR)(R:aY)(nx:Nat)(K:fZ->Option α):Option α:=match c.callee with
 | .value x=>Ji F ev R nx (ev x) c.args.toList K
 | .builtin b=>BN b c.args c.argTypes P ev rd R nx K
 |_=>O
def avV(_:Program)(_:aK)(_:Operand->Option AV)(_:Nat->Option IR)(_:aY)(_:Nat)(_:fZ->Option α):Option α:=O
def nh(o:Op):Program->aK->(Operand->Option AV)->(Nat->Option IR)->aY->Nat->(fZ->Option α)->Option α:=match o with
 | .move x=>QC x
 | .assign x=>QC x
 | .pick c a b=>Ad c a b
 | .binOp b T x y _=>aii b T x y
 | .unOp b _ x=>auN b x
 | .convert T T' x=>ai8 T T' x
 | .nilCheck x=>aiK x
 | .fieldAddr T x i=>ajm T x i
 | .indexAddr T x y=>ahL T x y
 | .index T x y=>aiL T x y
 | .load T x=>apS T x
 | .store T x y=>aif T x y
 | .makeFunc f fs cs=>ai3 f fs cs
 | .extract x i=>ai9 x i
 | .build T ps=>aiy T ps
 | .buildSlice T n ps=>ajn T n ps
 | .makeSlice T x y=>ata T x y
 | .alloc T=>aio T
 | .box T x=>ah4 T x
 | .slice T x lo hi mx=>MI T x lo hi mx
 | .call c=>DS c
 |_=>avV
def Kh(P:Program)(F:aK)(ev:Operand->Option AV)(rd:Nat->Option IR)(R:aY)(nx:Nat)(o:Op)(K:fZ->Option α):nh o P F ev rd R nx K=Hr P F ev rd R nx o K:=by
 cases o<;>first|rfl|skip
 case call c=>
  obtain⟨cal,as0,ts⟩:=c
  cases cal with
  |builtin b=>cases b<;>rfl
  |_=>rfl
end
section
variable {α:Type} {r:α} {P:Program} {F:aK} {o:Oper} {E:Env} {R:aY} {nx:Nat} {ev:Operand->Option AV} {rd:Nat->Option IR} {K:fZ->Option α} {C:Cx} {n:Nat}
def au9{β:Type}{a:Array β}{x:β}(h:a.toList=[x]):a=#[x]:=by rw[<-Array.toArray_toList (xs:=a),h]
def Mc{β:Type}{a:Array β}{x y:β}(h:a.toList=[x,y]):a=#[x,y]:=by rw[<-Array.toArray_toList (xs:=a),h]
def Gq(hF:iJ P F)(hs:j8 ev rd nx E R){op:Op}(ho:o.op=op)(h:Hr P F ev rd R nx op K=V r):Uk P o E R nx K r:=by
 unfold Hr at h
 split at h
 ·obtain⟨d,hd,h⟩:=zm.1 h
  exact .pu hs ⟨d,h,hs.rN hd,fun ρ=> .move ho (hs.fT hd ρ)⟩
 ·obtain⟨d,hd,h⟩:=zm.1 h
  exact .pu hs ⟨d,h,hs.rN hd,fun ρ=> .assign ho (hs.fT hd ρ)⟩
 ·split at h
  ·rename_i hc
   obtain⟨d,hd,h⟩:=zm.1 h
   exact .pu hs ⟨d,h,hs.rN hd,fun ρ=> .auY ho (by have:=hs.fT hc ρ;rw[bT]at this;exact this) (hs.fT hd ρ)⟩
  ·rename_i hc
   obtain⟨d,hd,h⟩:=zm.1 h
   exact .pu hs ⟨d,h,hs.rN hd,fun ρ=> .arT ho (by have:=hs.fT hc ρ;rw[bT]at this;exact this) (hs.fT hd ρ)⟩
  ·cases h
 ·exact .pu hs (adE hs ho h)
 ·exact .pu hs (ald hs ho h)
 ·exact .pu hs (aeQ hs ho h)
 ·exact .pu hs (acw hs ho h)
 ·exact .pu hs (aeo hs ho h)
 ·exact .pu hs (ag6 hs ho h)
 ·exact .pu hs (agj hs ho h)
 ·exact .pu hs (ao2 hs ho h)
 ·exact acC hs ho h
 ·exact .pu hs (agF hs ho h)
 ·exact .pu hs (af3 hs ho h)
 ·exact .pu hs (aat hs ho h)
 ·exact acG hs ho h
 ·exact ak7 hs ho h
 ·exact abz hs ho h
 ·exact ads hs ho h
 ·split at h
  ·exact .pu hs (afY hs ho h)
  ·split at h
   ·exact aoo hs ho h
   ·cases h
  ·cases h
 ·split at h
  ·rename_i h1 h2
   rw[au9 h1,au9 h2]at ho
   exact .pu hs (aav hs ho h)
  ·cases h
 ·split at h
  ·rename_i h1 h2
   rw[Mc h1,Mc h2]at ho
   unfold mnV at h
   split at h
   ·rename_i q1
    split at h
    ·rename_i hk
     subst hk
     simp only[List.cons.injEq,and_true]at q1
     obtain⟨q1,q2⟩:=q1
     exact .pu hs ⟨_,h, .lit fun ρ=> .max ho (by have:=hs.fT q1 ρ;rw[bT]at this;exact this) (by have:=hs.fT q2 ρ;rw[bT]at this;exact this)⟩
    ·cases h
   ·cases h
  ·cases h
 ·split at h
  ·rename_i h1 h2
   rw[Mc h1,Mc h2]at ho
   unfold mnV at h
   split at h
   ·rename_i q1
    split at h
    ·rename_i hk
     subst hk
     simp only[List.cons.injEq,and_true]at q1
     obtain⟨q1,q2⟩:=q1
     exact .pu hs ⟨_,h, .lit fun ρ=> .min ho (by have:=hs.fT q1 ρ;rw[bT]at this;exact this) (by have:=hs.fT q2 ρ;rw[bT]at this;exact this)⟩
    ·cases h
   ·cases h
  ·cases h
 ·split at h
  ·rename_i h1 h2
   rw[Mc h1,Mc h2]at ho
   exact acA hs ho h
  ·cases h
 ·split at h
  ·rename_i h1 h2
   rw[Mc h1,Mc h2]at ho
   exact abj hs ho h
  ·cases h
 ·exact adt hF hs ho h
 ·cases h
def St.app(s:St)(dst:Option Nat)(e:fZ):St:=
 {E:=match dst with
   |none=>s.E
   |some t=>match e.vl s.nx with
    |some d=>mC t d s.E
    |none=>mC t (.lit undef) s.E
  R:=e.R s.R s.nx
  nx:=e.nx s.nx}
def LM(n:Nat):Option Nat->Bool
 |none=>wO
 |some t=>zB t n
def j8.of{s:St}(hh:uk s.E E)(hE:E.cM s.nx)(hR:aY.cM s.nx s.R):j8 (Fy s.E) (gx s.R) s.nx E s.R:=⟨fun x d h=>hh.ev x d h,fun _ _ h=>h,hE,hR⟩
def anE{C:Cg}{s:St}{a:Act}{w:World}{Q:Exit->Act->World->Prop}(hm:Mt C n s a w)(hd:LM n o.dst=wO)(h:∀E,j8 (Fy s.E) (gx s.R) s.nx E s.R->Uk P o E s.R s.nx K r){K':Act->World->Prop}
  (hK:∀a' w' e,a'.defers=a.defers->K e=V r->s.nx<=e.nx s.nx->Mt C n (s.app o.dst e) a' w'->K' a' w'):o.wp P a w K' Q:=by
 obtain⟨E,hh,hE,hR,ρ,hag,hsim⟩:=hm
 have h:=h E (j8.of hh hE hR)
 unfold Oper.wp
 have fin:∀(e:fZ) (ρ':Gh) (σ':List cH) (w':World) (v:Value),s.nx<=e.nx s.nx->aY.cM (e.nx s.nx) (e.R s.R s.nx)->(∀d,e.vl s.nx=V d->cM (e.nx s.nx) d)->sk s.nx ρ ρ'->List.Perm σ' (aY.res ρ' (e.R s.R s.nx))->
   Tr C.C (bH (aY.res ρ s.R)) (aY.res ρ s.R) w σ' w'->(∀d,e.vl s.nx=V d->Rel (al C.C σ') w' (d.sub ρ') v)->(e.vl s.nx=O->v=undef)->Mt C n (s.app o.dst e) (a.put o.dst v) w':=fun e ρ' σ' w' v h1 h2 h3 h4 h5 h6 h7 h8=>by
  have hs1:=(hsim.tr h6).perm h5
  rw[hE.sub h4]at hs1
  have hE':E.cM (e.nx s.nx):=hE.mono h1
  have hag':sk C.n C.ρ ρ'/\C.n<=e.nx s.nx:=⟨hag.1.trans h4 hag.2,zx hag.2 h1⟩
  have hput:∀(t:Nat) (d:AV),o.dst=V t->cM (e.nx s.nx) d->Rel (al C.C (aY.res ρ' (e.R s.R s.nx))) w' (d.sub ρ') v->Mt C n {E:=mC t d s.E,R:=e.R s.R s.nx,nx:=e.nx s.nx} (a.put (V t) v) w':=fun t d ht hd' hr=>
   ⟨(t,d)::E,hh.put t d,Env.vY hE' hd',h2,ρ',hag',hs1.put (by rw[ht]at hd;exact hd) hr⟩
  have hsub:∀d,e.vl s.nx=V d->Rel (al C.C (aY.res ρ' (e.R s.R s.nx))) w' (d.sub ρ') v:=fun d hd'=>(h7 d hd').mono fun b _ hA=>⟨S2 h5 b hA,rfl⟩
  unfold St.app
  cases hdst:o.dst with
  |none=>exact⟨E,hh,hE',h2,ρ',hag',hs1⟩
  |some t=>
   cases hv:e.vl s.nx with
   |some d=>exact hput t d hdst (h3 d hv) (hsub d hv)
   |none=>
    refine hput t (.lit undef) hdst (.lit _) ?_
    rw[h8 hv,bT]
    exact .lit _
 rcases h ρ C.C w a.eval hsim.good hsim.slots.ops with ⟨v,w',av,σ',⟨e,q1,q2,q3,q4,ρ',q5,q6,q7⟩,h2,h3,h4⟩|⟨w',σ',⟨e,q1,q2,q3,q4,ρ',q5,q6,q7⟩,h2,h3⟩|⟨f,args,h1,h2⟩
 ·rw[h3]
  refine hK _ _ e (by cases o.dst<;>rfl) q1 q2 (fin e ρ' σ' w' v q2 q3 q4 q5 q7 h2 (fun d hd'=> ?_) (fun hn=> ?_))
  ·rw[hd',yt,zF.injEq]at q6;rw[<-q6];exact h4
  ·rw[hn]at q6;cases q6
 ·rw[h3]
  refine hK _ _ e (by cases o.dst<;>rfl) q1 q2 (fin e ρ' σ' w' undef q2 q3 q4 q5 q7 h2 (fun d hd'=> ?_) (fun hn=>rfl))
  rw[hd']at q6;cases q6
 ·rw[h1]
  refine Calls.mono h2 fun ee w' ⟨v,av,σ',q0,⟨e,q1,q2,q3,q4,ρ',q5,q6,q7⟩,h2,h4⟩=> ?_
  subst q0
  refine hK _ _ e (by cases o.dst<;>rfl) q1 q2 (fin e ρ' σ' w' v q2 q3 q4 q5 q7 h2 (fun d hd'=> ?_) (fun hn=> ?_))
  ·rw[hd',yt,zF.injEq]at q6;rw[<-q6];exact h4
  ·rw[hn]at q6;cases q6
end
def TJ(id t:Nat)(l:List (U.dw t)):AV->AV
 | .own i=>match zb i id with
  |true=> .sl t l
  |false=> .own i
 |d=>d
def oC(id t:Nat)(l:List (U.dw t)):Nat->AV->AV
 |0,d=>d
 |n+1, .agg cs=> .agg (cs.map (oC id t l n))
 |n+1, .jB cs=> .jB (cs.map (oC id t l n))
 |n+1, .fn f cs=> .fn f (cs.map (oC id t l n))
 |_+1,d=>TJ id t l d
def vK(id t:Nat)(l:List (U.dw t)):IR->IR
 | .box T cs=> .box T (cs.map (oC id t l 3))
 |r=>r
def St.Ka(s:St)(id:Nat):St:=match gx s.R id with
 |some (.row t l)=>{E:=emap (oC id t l 3) s.E,R:=(kM id s.R).map fun p=>(p.1,vK id t l p.2),nx:=s.nx}
 |_=>s
def aac{A:Nat->Prop}{w:World}{id t:Nat}{l:List (U.dw t)}{ρ:Gh}(hd:Hd A [.row (ρ.v id) t l] w){d:AV}{v:Value}(h:Rel A w (d.sub ρ) v):Rel (fun b=>A b\/b∈bH [.row (ρ.v id) t l]) w ((TJ id t l d).sub ρ) v:=by
 unfold TJ
 split
 ·rename_i i
  split
  ·rename_i hi
   have:=gA hi
   subst this
   rw[dW]at h
   rw[gE]
   exact Vw.row 0 rfl A w v hd h
  ·exact h.mono fun b _ hA=>⟨.inl hA,rfl⟩
 ·exact h.mono fun b _ hA=>⟨.inl hA,rfl⟩
def Dl{A:Nat->Prop}{w:World}{id t:Nat}{l:List (U.dw t)}{ρ:Gh}(hd:Hd A [.row (ρ.v id) t l] w):∀(n:Nat) {d:AV} {v:Value},Rel A w (d.sub ρ) v->Rel (fun b=>A b\/b∈bH [.row (ρ.v id) t l]) w ((oC id t l n d).sub ρ) v
 |0,d,v,h=>h.mono fun b _ hA=>⟨.inl hA,rfl⟩
 |n+1,d,v,h=>by
  have hL:∀{cs:List AV} {us:List Value},bK A w (cs.map (cc.sub ρ)) us->bK (fun b=>A b\/b∈bH [.row (ρ.v id) t l]) w ((cs.map (oC id t l n)).map (cc.sub ρ)) us:=fun{cs us} h=>by
   refine⟨by simpa using h.1,fun j a v h1 h2=> ?_⟩
   rw[yd,zY]at h1
   obtain⟨c,hc,rfl⟩:=zj.1 h1
   exact Dl hd n (h.2 j _ v (by rw[zY,hc];rfl) h2)
  unfold oC
  split
  ·rename_i h0;cases h0
  ·rename_i cs h0
   cases h0
   rw[eN]at h ⊢
   obtain⟨us,rfl,h2⟩:=h.mN
   exact Rel.ny (hL h2)
  ·rename_i cs h0
   cases h0
   rw[kO]at h ⊢
   obtain⟨us,rfl,h2⟩:=h.P9
   exact Rel.FL (hL h2)
  ·rename_i f cs h0
   cases h0
   rw[tH]at h ⊢
   obtain⟨us,rfl,h2⟩:=h.ZY
   exact .fn f _ us (hL h2).1 (hL h2).2
  ·rename_i h0 _ _ _
   exact aac hd h
end Go.Iv
end
noncomputable section
namespace Go.Iv
variable [U:sX] [L:nQ]
open Go Go.RowKit
section
variable {α β:Type} (D:α->Option β)
def ZQ{b:BinOp}{k:IntKind}{m n:Int}{K:AV->Option α}:(Xg b k m n K).bind D=Xg b k m n (fun d=>(K d).bind D):=by
 unfold Xg
 cases b<;>first|rfl|(dsimp only;split<;>rfl)
def adR{P:Program}{b:BinOp}{T:TypeId}{cs ds:List AV}{K:AV->Option α}:(eqS P b T cs ds K).bind D=eqS P b T cs ds (fun d=>(K d).bind D):=by
 unfold eqS
 split
 ·split
  ·cases b<;>first|rfl|exact zW ..
  ·rfl
 ·rfl
def Lt{P:Program}{rd:Nat->Option IR}{b:BinOp}{T:TypeId}{x y:Option AV}{K:AV->Option α}:(uC P rd b T x y K).bind D=uC P rd b T x y (fun d=>(K d).bind D):=by
 unfold uC
 repeat' split
 all_goals first|rfl|exact ZQ D|exact adR D|simp_all
def SS{b:UnOp}{x:Option AV}{K:AV->Option α}:(unV b x K).bind D=unV b x (fun d=>(K d).bind D):=by
 unfold unV
 repeat' split
 all_goals first|rfl|simp_all
def Lc{x:Option AV}{K:AV->Option α}:(PZ x K).bind D=PZ x (fun d=>(K d).bind D):=by
 unfold PZ
 repeat' split
 all_goals first|rfl|simp_all
def Mj{P:Program}{T:TypeId}{i:Nat}{x:Option AV}{K:AV->Option α}:(MU P T i x K).bind D=MU P T i x (fun d=>(K d).bind D):=by
 unfold MU
 repeat' split
 all_goals first|rfl|simp_all
def LQ{P:Program}{rd:Nat->Option IR}{T:TypeId}{x y:Option AV}{K:AV->Option α}:(Qb P rd T x y K).bind D=Qb P rd T x y (fun d=>(K d).bind D):=by
 unfold Qb
 repeat' split
 all_goals first|rfl|simp_all
def Q4{P:Program}{rd:Nat->Option IR}{T:TypeId}{x:Option AV}{K:AV->Option α}:(ldV P rd T x K).bind D=ldV P rd T x (fun d=>(K d).bind D):=by
 unfold ldV
 repeat' split
 all_goals first|rfl|exact zW .. |simp_all
def Xy{P:Program}{ev:Operand->Option AV}{rd:Nat->Option IR}{T:TypeId}{ps:List (Nat×Operand)}{K:AV->Option α}:(Pt P ev rd T ps K).bind D=Pt P ev rd T ps (fun d=>(K d).bind D):=by
 unfold Pt
 repeat' split
 all_goals first|rfl|exact zW .. |simp_all
def Lg{P:Program}{rd:Nat->Option IR}{T T':TypeId}{x:Option AV}{K:AV->Option α}:(Nh P rd T T' x K).bind D=Nh P rd T T' x (fun d=>(K d).bind D):=by
 unfold Nh
 repeat' split
 all_goals first|rfl|exact zW .. |simp_all
def Lh{i:Nat}{x:Option AV}{K:AV->Option α}:(Nn i x K).bind D=Nn i x (fun d=>(K d).bind D):=by
 unfold Nn
 repeat' split
 all_goals first|rfl|exact zW .. |simp_all
def ZP{ev:Operand->Option AV}{f:Go.Fn}{fs cs:List Operand}{K:AV->Option α}:(Ny ev f fs cs K).bind D=Ny ev f fs cs (fun d=>(K d).bind D):=by
 unfold Ny
 repeat' split
 all_goals first|rfl|exact zW .. |simp_all
def Ks{P:Program}{T:TypeId}{x y:Option AV}{K:AV->Option α}:(NF P T x y K).bind D=NF P T x y (fun d=>(K d).bind D):=by
 unfold NF
 repeat' split
 all_goals first|rfl|exact zW .. |simp_all
def Wc{P:Program}{T:TypeId}{x:Option AV}{lo hi:Option (Option AV)}{K:AV->Option α}:(Qi P T x lo hi K).bind D=Qi P T x lo hi (fun d=>(K d).bind D):=by
 unfold Qi
 repeat' split
 all_goals first|rfl|exact zW .. |simp_all
def Lz{P:Program}{rd:Nat->Option IR}{T:TypeId}{x:Option AV}{K:AV->Option α}:(OO P rd T x K).bind D=OO P rd T x (fun d=>(K d).bind D):=by
 unfold OO
 repeat' split
 all_goals first|rfl|exact zW .. |simp_all
def ZC{P:Program}{nx:Nat}{T:TypeId}{K:fZ->Option α}:(TQ P nx T K).bind D=TQ P nx T (fun d=>(K d).bind D):=by
 unfold TQ
 exact zW ..
def aad{rd:Nat->Option IR}{nx:Nat}{T:TypeId}{x:Option AV}{K:fZ->Option α}:(Nk rd nx T x K).bind D=Nk rd nx T x (fun d=>(K d).bind D):=by
 unfold Nk
 repeat' split
 all_goals first|rfl|exact zW .. |simp_all
def Yt{P:Program}{rd:Nat->Option IR}{T:TypeId}{x y:Option AV}{K:fZ->Option α}:(OV P rd T x y K).bind D=OV P rd T x y (fun d=>(K d).bind D):=by
 unfold OV
 repeat' split
 all_goals first|rfl|exact zW .. |simp_all
def Wr{P:Program}{rd:Nat->Option IR}{R:aY}{nx:Nat}{T:TypeId}{x y:Option AV}{K:fZ->Option α}:(Ph P rd R nx T x y K).bind D=Ph P rd R nx T x y (fun d=>(K d).bind D):=by
 unfold Ph
 split
 ·split
  ·split
   ·split
    ·rw[zW]
     congr 1
     funext l
     rw[zW]
     congr 1
     funext l2
     split<;>rfl
    ·rfl
   ·rfl
  ·rfl
 ·rfl
def YJ{P:Program}{ev:Operand->Option AV}{rd:Nat->Option IR}{nx:Nat}{T:TypeId}{n:Nat}{ps:List (Nat×Operand)}{K:fZ->Option α}:(PM P ev rd nx T n ps K).bind D=PM P ev rd nx T n ps (fun d=>(K d).bind D):=by
 unfold PM
 split
 ·split
  ·split
   ·split<;>rfl
   ·split
    ·split
     ·rw[zW]
      congr 1
      funext cs
      split
      ·exact zW ..
      ·rfl
     ·rfl
    ·rfl
  ·rfl
 ·rfl
def acD{P:Program}{nx:Nat}{T:TypeId}{x y:Option AV}{K:fZ->Option α}:(mkE P nx T x y K).bind D=mkE P nx T x y (fun d=>(K d).bind D):=by
 unfold mkE
 split
 ·split
  ·split
   ·rw[zW]
    congr 1
    funext d
    split<;>rfl
   ·rfl
  ·rfl
 ·rfl
def agN{P:Program}{nx:Nat}{T:TypeId}{x:Option AV}{K:fZ->Option α}:(emE P nx T x K).bind D=emE P nx T x (fun d=>(K d).bind D):=by
 unfold emE
 repeat' split
 all_goals first|rfl|simp_all
def Zq{P:Program}{T:TypeId}{K:Nat->List Value->Option α}:(Uf P T K).bind D=Uf P T (fun e zs=>(K e zs).bind D):=by
 unfold Uf
 repeat' split
 all_goals first|rfl|simp_all
def LU{P:Program}{rd:Nat->Option IR}{e:Nat}{zs:List Value}{T' T:TypeId}{y:Option AV}{K:List (U.dw e)->Option α}:(NM P rd e zs T' T y K).bind D=NM P rd e zs T' T y (fun d=>(K d).bind D):=by
 unfold NM
 split
 ·exact zW ..
 ·split
  ·split
   ·rw[zW]
    congr 1
    funext d
    split<;>rfl
   ·rfl
  ·rfl
def VT{P:Program}{rd:Nat->Option IR}{nx:Nat}{T T':TypeId}{x y:Option AV}{K:fZ->Option α}:(Ua P rd nx T T' x y K).bind D=Ua P rd nx T T' x y (fun d=>(K d).bind D):=by
 unfold Ua
 rw[Zq]
 congr 1
 funext e zs
 split
 ·rw[LU]
  congr 1
  funext l2
  split<;>rfl
 ·split
  ·rw[zW]
   congr 1
   funext l
   rw[LU]
   congr 1
   funext l2
   split<;>rfl
  ·rfl
 ·rfl
def Cy{mx:Bool}{xs:List (Option AV)}{K:AV->Option α}:(mnV mx xs K).bind D=mnV mx xs (fun d=>(K d).bind D):=by
 unfold mnV
 split
 ·split
  ·cases mx<;>rfl
  ·rfl
 ·rfl
def dY(F:aK):Prop:=∀(α β:Type) f args R nx (k:AV->aY->Nat->Option α) (D:α->Option β),(F α f args R nx k).bind D=F β f args R nx (fun d R nx=>(k d R nx).bind D)
structure bq (P:Program) (F:aK):Prop where
 ok:iJ P F
 nat:dY F
def XZ{F:aK}(hF:dY F){ev:Operand->Option AV}{R:aY}{nx:Nat}{x:Option AV}{xs:List Operand}{K:fZ->Option α}:(Ji F ev R nx x xs K).bind D=Ji F ev R nx x xs (fun d=>(K d).bind D):=by
 unfold Ji
 split
 ·rw[zW]
  congr 1
  funext as0
  exact hF ..
 ·rfl
def AW{F:aK}(hF:dY F)(o:Op)(P:Program)(ev:Operand->Option AV)(rd:Nat->Option IR)(R:aY)(nx:Nat)(K:fZ->Option α):(nh o P F ev rd R nx K).bind D=nh o P F ev rd R nx (fun e=>(K e).bind D):=by
 have hP:(fun d=>(dI K d).bind D)=dI (fun e=>(K e).bind D):=rfl
 cases o<;>first|rfl|exact zW .. |exact SS D|exact Lg D|exact Lc D|exact Mj D|exact LQ D|exact Ks D|exact Q4 D|exact Yt D|exact ZP D|exact Lh D|exact Xy D|exact YJ D|exact acD D|exact ZC D|exact aad D|skip
 case pick c a b=>
  show (Ad c a b P F ev rd R nx K).bind D=Ad c a b P F ev rd R nx _
  unfold Ad
  split
  ·exact zW ..
  ·exact zW ..
  ·rfl
 case binOp b T x y t=>exact Lt D
 case slice T x lo hi mx=>
  show (MI T x lo hi mx P F ev rd R nx K).bind D=MI T x lo hi mx P F ev rd R nx _
  unfold MI
  split
  ·exact Wc D
  ·split
   ·exact agN D
   ·rfl
  ·rfl
 case call c=>
  show (DS c P F ev rd R nx K).bind D=DS c P F ev rd R nx _
  unfold DS
  split
  ·exact XZ D hF
  ·unfold BN
   split
   ·split
    ·exact Lz D
    ·rfl
   ·split
    ·exact Cy D
    ·rfl
   ·split
    ·exact Cy D
    ·rfl
   ·split
    ·exact VT D
    ·rfl
   ·split
    ·exact Wr D
    ·rfl
   ·rfl
  ·rfl
end
end Go.Iv
end
noncomputable section
namespace Go.Iv
variable [U:sX]
open Go Go.RowKit Go.Shelf Go.Proofs
section
variable {P:Program} {C:Cx} {n:Nat} {c x y:Code} {Q Q':Exit->Env->List cH->Prop} {E E':Env} {σ σ':List cH}
end
def Vw.box{σ:List cH}{b:Nat}{T:TypeId}{cs:List AV}(i:Nat)(hσ:σ[i]? =V (.box b T cs)):Vw σ (.lit (.pointer (V ⟨b,0,O⟩))) (.fp cs):=fun A w v hd hr=>by
 have hv:=hr.cK
 subst hv
 have hm:=List.mem_of_getElem? hσ
 obtain⟨us,h1,h2⟩:=hd.1 _ hm
 exact .fp cs b 0 us h1.lt (.inr (bR.2 ⟨_,hm,rfl⟩)) h2.1 (fun j v hj=>by rw[yq];exact h1.cell (by simpa using hj)) (fun j a v q1 q2=>(h2.2 j a v q1 q2).mono fun b _ hA=>⟨.inl hA,rfl⟩)
def Lay(C:Cx)(σ:List cH)(w:World)(σ':List cH)(W:World):Prop:=∀b,b<w.heap.size->al C σ b->al C σ' b/\W.heap[b]? =w.heap[b]?
def Mid(C:Cx)(σ:List cH)(w:World)(J:List cH->Prop)(W:World):Prop:=
 ∃σ',J σ'/\Good C σ' W/\Lay C σ w σ' W/\w.heap.size<=W.heap.size
end Go.Iv
end
noncomputable section
namespace Go.Iv
variable [U:sX] [L:nQ]
open Go Go.RowKit
def pg{id t m:Nat}{l:List (U.dw t)}:∀(n:Nat) {d:AV},cM m d->cM m (oC id t l n d)
 |0,d,h=>h
 |n+1,d,h=>by
  have hL:∀{cs:List AV},(∀c∈cs,cM m c)->∀c∈cs.map (oC id t l n),cM m c:=fun h c hc=>by
   obtain⟨c',h1,rfl⟩:=zL.1 hc
   exact pg n (h c' h1)
  unfold oC
  split
  ·rename_i h0;cases h0
  ·rename_i h0;cases h0;exact .agg _ (hL h.ny)
  ·rename_i h0;cases h0;exact .jB _ (hL h.FL)
  ·rename_i h0;cases h0;exact .fn _ _ (hL h.fnL)
  ·unfold TJ
   split
   ·split
    ·exact .sl _ _
    ·exact h
   ·exact h
def v7{f:AV->AV}(t:Nat):∀(E:Env),Env.get (E.map fun p=>(p.1,f p.2)) t=(E.get t).map f
 |[]=>rfl
 |(k,v)::E=>by
  show Env.get ((k,f v)::E.map fun p=>(p.1,f p.2)) t=_
  unfold Env.get
  cases hb:zb k t with
  |true=>rfl
  |false=>exact v7 t E
section
variable {α:Type} {r:α} {P:Program} {F:aK} {o:Oper} {C:Cg} {n:Nat} {s:St} {a:Act} {w:World}
def Mt.Ka(h:Mt C n s a w)(id:Nat):Mt C n (s.Ka id) a w:=by
 unfold St.Ka
 split
 case h_2=>exact h
 rename_i t l hr
 obtain⟨E,hh,hE,hR,ρ,hag,hsim⟩:=h
 obtain⟨i,hi1,_,hi3⟩:=eM hr
 have hres:=gY (ρ:=ρ) hi1
 have hg:=hsim.good
 have hd:Hd (al C.C (aY.res ρ s.R)) [.row (ρ.v id) t l] w:=⟨fun r hr=>by
   rw[zC]at hr
   rw[hr]
   exact hg.res _ (List.mem_of_getElem? hres),fun b hb hA=>hA.2 (by
   obtain⟨r,h1,h2⟩:=bR.1 hb
   rw[zC]at h1
   rw[h1]at h2
   exact bR.2 ⟨_,List.mem_of_getElem? hres,h2⟩)⟩
 have hle:=KS (C:=C.C) hres hg
 have hbk:bH (aY.res ρ ((kM id s.R).map fun p=>(p.1,vK id t l p.2)))=bH ((aY.res ρ s.R).eraseIdx i):=by
  rw[<-A4,<-hi3]
  unfold bH aY.res
  rw[yd,List.filterMap_map,List.filterMap_map]
  congr 1
  funext p
  obtain⟨q,rr⟩:=p
  cases rr<;>rfl
 have hal:∀b,(al C.C (aY.res ρ s.R) b\/b∈bH [cH.row (ρ.v id) t l])->al C.C (aY.res ρ ((kM id s.R).map fun p=>(p.1,vK id t l p.2))) b:=fun b hb=>by
  have:=hle b hb
  exact⟨this.1,by rw[hbk];exact this.2⟩
 have hrel:∀{d:AV} {v:Value},Rel (al C.C (aY.res ρ s.R)) w (d.sub ρ) v->Rel (al C.C (aY.res ρ ((kM id s.R).map fun p=>(p.1,vK id t l p.2)))) w ((oC id t l 3 d).sub ρ) v:=fun h=>
  (Dl hd 3 h).mono fun b _ hA=>⟨hal b hA,rfl⟩
 refine⟨E.map fun p=>(p.1,oC id t l 3 p.2),fun k d hk=> ?_,fun p hp=> ?_,fun p hp=> ?_,ρ,hag,hsim.defers.step (fun b _ hA=>⟨hal b (.inl hA),rfl⟩),hsim.size,fun k av hk=> ?_,⟨hg.kept,fun rr hrr=> ?_,?_,fun b hb=> ?_⟩⟩
 ·have hk':cL (emap (oC id t l 3) s.E) k=V d:=hk
  rw[uU]at hk'
  obtain⟨d',h1,rfl⟩:=zj.1 hk'
  rw[v7,hh k d' h1]
  rfl
 ·obtain⟨p',h1,rfl⟩:=zL.1 hp
  exact pg 3 (hE p' h1)
 ·obtain⟨p',h1,rfl⟩:=zL.1 hp
  have h2:=Dn (id:=id) hR p' h1
  refine⟨h2.1,?_⟩
  obtain⟨q,rr⟩:=p'
  cases rr with
  |row t' l'=>trivial
  |box T cs=>
   intro c hc
   obtain⟨c',h3,rfl⟩:=zL.1 hc
   exact pg 3 (h2.2 c' h3)
 ·rw[Env.fe,v7]at hk
  obtain⟨d',h1,rfl⟩:=zj.1 hk
  obtain⟨d,h2,rfl⟩:=zj.1 h1
  obtain⟨v,h3,h4⟩:=hsim.slots k (d.sub ρ) (by rw[Env.fe,h2];rfl)
  exact⟨v,h3,hrel h4⟩
 ·obtain⟨p,h1,rfl⟩:=zL.1 hrr
  obtain⟨p',h2,rfl⟩:=zL.1 h1
  have hm:p'.2.res ρ p'.1∈aY.res ρ s.R:=by
   rw[hi3]at h2
   exact zL.2 ⟨p',List.mem_of_mem_eraseIdx h2,rfl⟩
  have h3:=hg.res _ hm
  obtain⟨q,rr⟩:=p'
  cases rr with
  |row t' l'=>exact h3.mono (fun b _ hA=>⟨hal b (.inl hA),rfl⟩) (fun _ _=>rfl)
  |box T cs=>
   obtain⟨us,h4,h5⟩:=h3
   refine⟨us,h4,by simpa using h5.1,fun j av v q1 q2=> ?_⟩
   rw[yd,zY]at q1
   obtain⟨c,hc,rfl⟩:=zj.1 q1
   exact hrel (h5.2 j (c.sub ρ) v (by rw[zY,hc];rfl) q2)
 ·rw[hbk]
  exact hg.F8.sublist ((wC _ _).filterMap _)
 ·rw[hbk]at hb
  exact hg.own b (ry (fun r hr=>(wC _ _).subset hr) b hb)
def St.kr(s:St)(ids:List Nat):St:=match ids with
 |[]=>s
 |i::is=>(s.Ka i).kr is
def Mt.kr:∀(ids:List Nat) {s:St},Mt C n s a w->Mt C n (s.kr ids) a w
 |[],_,h=>h
 |i::is,_,h=>Mt.kr is (h.Ka i)
def akX:AV->List Nat
 | .own id=>[id]
 | .agg cs=>cs.filterMap fun c=>match c with
  | .own id=>V id
  |_=>O
 |_=>[]
def Yr(E:ET)(x:Operand):List Nat:=match Fy E x with
 |some d=>akX d
 |none=>[]
def jd(E:ET):Op->List Nat
 | .buildSlice _ _ ps=>ps.toList.flatMap fun p=>Yr E p.2
 | .store T x v=>match L.fz (Nat.add 1000000 T)with
  |true=>Yr E v
  |false=>match Fy E x with
   |some (.ra _ _ _ _)=>Yr E v
   |_=>[]
 | .slice _ x _ _ O=>Yr E x
 | .call c=>match c.callee with
  | .value (.func f)=>match L.fz f with
   |true=>c.args.toList.flatMap (Yr E)
   |false=>[]
  |_=>[]
 |_=>[]
def St.fW(s:St)(t:Nat)(b:Bool):St:={s with E:=mC t (.b b) s.E}
def Mt.fW{t:Nat}{b:Bool}(h:Mt C n s a w)(ht:cL s.E t=V (.lit (.bool b))):Mt C n (s.fW t b) a w:=by
 obtain⟨E,hh,hE,hR,ρ,hag,hsim⟩:=h
 refine⟨E,fun k d hk=> ?_,hE,hR,ρ,hag,hsim⟩
 have hk':cL (mC t (.b b) s.E) k=V d:=hk
 rcases qm hk' with ⟨rfl,rfl⟩|⟨_,h2⟩
 ·exact hh _ _ ht
 ·exact hh k d h2
def gate(ops:Array Oper)(o:Oper)(s:St)(yes no:St->Option α):Option α:=match o.guard with
 |none=>yes s
 |some (j,want)=>match (ops[j]?).bind (·.dst)with
  |none=>O
  |some t=>match cL s.E t with
   |some (.lit (.bool b))=>match b with
    |true=>match want with
     |true=>yes (s.fW t wO)
     |false=>no (s.fW t wO)
    |false=>match want with
     |true=>no (s.fW t wN)
     |false=>yes (s.fW t wN)
   |some (.lit (.tuple _))=>no s
   |_=>O
def Gc{ops:Array Oper}{j t:Nat}{want:Bool}{ρ:Gh}(hg:o.guard=V (j,want))(hj:(ops[j]?).bind (·.dst)=V t){E:Env}:
  (∀b,E.get t=V (.lit (.bool b))->qL (E.sub ρ) o ops=V (b==want))/\(∀vs,E.get t=V (.lit (.tuple vs))->qL (E.sub ρ) o ops=V wN):=by
 constructor
 ·intro b hb
  unfold qL
  rw[hg]
  simp only[hj,Env.fe,hb,yt,bT]
 ·intro vs hb
  unfold qL
  rw[hg]
  simp only[hj,Env.fe,hb,yt,bT]
def aap{ops:Array Oper}{yes no:St->Option α}(h:gate ops o s yes no=V r)(hm:Mt C n s a w):∃s',Mt C n s' a w/\
  ((Region.wanted o (yielded ops a.tmps)=wO/\yes s'=V r)\/(Region.wanted o (yielded ops a.tmps)=wN/\no s'=V r)):=by
 unfold gate at h
 split at h
 ·rename_i hg
  exact⟨s,hm, .inl ⟨by simp[Region.wanted,hg],h⟩⟩
 ·rename_i j want hg
  split at h
  ·cases h
  ·rename_i t hj
   have hspec:∀{s':St},Mt C n s' a w->(∀b,cL s'.E t=V (.lit (.bool b))->Region.wanted o (yielded ops a.tmps)=(b==want))/\(∀vs,cL s'.E t=V (.lit (.tuple vs))->Region.wanted o (yielded ops a.tmps)=wN):=fun{s'} hm'=>by
    obtain⟨E,hh,_,_,ρ,_,hsim⟩:=hm'
    obtain⟨h1,h2⟩:=Gc (ρ:=ρ) hg hj (E:=E)
    exact⟨fun b hb=>qL.spec hsim.slots (h1 b (hh _ _ hb)),fun vs hv=>qL.spec hsim.slots (h2 vs (hh _ _ hv))⟩
   split at h
   ·rename_i b hb
    have hw:=(hspec hm).1 b hb
    split at h
    ·split at h
     ·exact⟨_,hm.fW hb, .inl ⟨hw,h⟩⟩
     ·exact⟨_,hm.fW hb, .inr ⟨hw,h⟩⟩
    ·split at h
     ·exact⟨_,hm.fW hb, .inr ⟨hw,h⟩⟩
     ·exact⟨_,hm.fW hb, .inl ⟨hw,h⟩⟩
   ·rename_i vs hb
    exact⟨s,hm, .inr ⟨(hspec hm).2 vs hb,h⟩⟩
   ·cases h
def BL(o:Op)(s:St)(f:St->Option α):Option α:=match o with
 | .pick (.tmp t) _ _=>match cL s.E t with
  |some (.lit (.bool b))=>match b with
   |true=>f (s.fW t wO)
   |false=>f (s.fW t wN)
  |_=>O
 |_=>f s
def ZX{op:Op}{f:St->Option α}(h:BL op s f=V r)(hm:Mt C n s a w):∃s',Mt C n s' a w/\f s'=V r:=by
 unfold BL at h
 split at h
 ·split at h
  ·rename_i b hb
   split at h
   ·exact⟨_,hm.fW hb,h⟩
   ·exact⟨_,hm.fW hb,h⟩
  ·cases h
 ·exact⟨s,hm,h⟩
def sH(dst:Option Nat)(d:AV)(E:ET):ET:=match dst with
 |none=>E
 |some t=>mC t d E
def IP(dst:Option Nat)(E:ET)(R:aY)(nx:Nat)(ih:St->(St->Option α)->Option α)(k:St->Option α)(e:fZ):Option α:=match e with
 | .val d=>ih ⟨sH dst d E,R,nx⟩ k
 | .new d r=>ih ⟨sH dst d E,(nx,r)::R,nx+1⟩ k
 | .set id r=>ih ⟨sH dst (.lit undef) E,uv id r R,nx⟩ k
 | .grow id r=>ih ⟨sH dst (.own nx) E,(nx,r)::kM id R,nx+1⟩ k
 | .all d R' m=>ih ⟨sH dst d E,R',m⟩ k
def agW(dst:Option Nat)(s:St)(ih:St->(St->Option α)->Option α)(k:St->Option α):IP dst s.E s.R s.nx ih k=fun e=>ih (s.app dst e) k:=by
 funext e
 cases e<;>cases dst<;>rfl
def al2(P:Program)(F:aK)(o:Oper)(ih:St->(St->Option α)->Option α)(k:St->Option α)(s:St):Option α:=St.rec (fun E R nx=>nh o.op P F (Fy E) (gx R) R nx (IP o.dst E R nx ih k)) s
def rDo(P:Program)(F:aK)(o:Oper)(ih:St->(St->Option α)->Option α)(k:St->Option α)(s:St):Option α:=al2 P F o ih k (s.kr (jd s.E o.op))
abbrev OpK(α:Type):=Program->aK->Option Nat->ET->aY->Nat->(St->(St->Option α)->Option α)->(St->Option α)->Option α
abbrev StT(α:Type):=Program->aK->(Operand->Option AV)->(Nat->Option IR)->aY->Nat->(fZ->Option α)->Option α
def FU(f:StT α):OpK α:=fun P F dst E R nx ih k=>f P F (Fy E) (gx R) R nx (IP dst E R nx ih k)
def stZ(ids:ET->List Nat)(f:StT α):OpK α:=fun P F dst E R nx ih k=>St.rec (fun E R nx=>f P F (Fy E) (gx R) R nx (IP dst E R nx ih k)) (St.kr ⟨E,R,nx⟩ (ids E))
def azK(c a b:Operand):OpK α:=match c with
 | .tmp t=>fun P F dst E R nx ih k=>match cL E t with
  |some (.lit (.bool v))=>match v with
   |true=>FU (Ad (.tmp t) a b) P F dst (mC t (.b wO) E) R nx ih k
   |false=>FU (Ad (.tmp t) a b) P F dst (mC t (.b wN) E) R nx ih k
  |_=>O
 |c=>FU (Ad c a b)
def opF(o:Op):OpK α:=match o with
 | .move x=>FU (QC x)
 | .assign x=>FU (QC x)
 | .pick c a b=>azK c a b
 | .binOp b T x y _=>FU (aii b T x y)
 | .unOp b _ x=>FU (auN b x)
 | .convert T T' x=>FU (ai8 T T' x)
 | .nilCheck x=>FU (aiK x)
 | .fieldAddr T x i=>FU (ajm T x i)
 | .indexAddr T x y=>FU (ahL T x y)
 | .index T x y=>FU (aiL T x y)
 | .load T x=>FU (apS T x)
 | .store T x y=>stZ (fun E=>jd E (.store T x y)) (aif T x y)
 | .makeFunc f fs cs=>FU (ai3 f fs cs)
 | .extract x i=>FU (ai9 x i)
 | .build T ps=>FU (aiy T ps)
 | .buildSlice T n ps=>stZ (fun E=>jd E (.buildSlice T n ps)) (ajn T n ps)
 | .makeSlice T x y=>FU (ata T x y)
 | .alloc T=>FU (aio T)
 | .box T x=>FU (ah4 T x)
 | .slice T x lo hi mx=>stZ (fun E=>jd E (.slice T x lo hi mx)) (MI T x lo hi mx)
 | .call c=>stZ (fun E=>jd E (.call c)) (DS c)
 |_=>FU avV
def Ig(P:Program)(F:aK)(o:Oper)(s:St)(ih:St->(St->Option α)->Option α)(k:St->Option α):opF o.op P F o.dst s.E s.R s.nx ih k=BL o.op s (rDo P F o ih k):=by
 unfold rDo al2 BL
 cases h:o.op<;>first|rfl|skip
 case pick c a b=>
  cases c<;>rfl
def avE(P:Program)(F:aK)(o:Oper)(ih:St->(St->Option α)->Option α)(k:St->Option α)(s:St):Option α:=St.rec (fun E R nx=>opF o.op P F o.dst E R nx ih k) s
def rNo(dst:Option Nat)(ih:St->(St->Option α)->Option α)(k:St->Option α)(s:St):Option α:=match dst with
 |some t=>ih {s with E:=mC t (.lit undef) s.E} k
 |none=>ih s k
def K5(P:Program)(F:aK)(n:Nat)(ops:Array Oper)(o:Oper)(ih:St->(St->Option α)->Option α)(s:St)(k:St->Option α):Option α:=match LM n o.dst with
 |true=>gate ops o s (avE P F o ih k) (rNo o.dst ih k)
 |false=>O
def eS(P:Program)(F:aK)(n:Nat)(ops:Array Oper)(l:List Oper):St->(St->Option α)->Option α:=List.rec (fun s k=>k s) (fun o _ ih=>K5 P F n ops o ih) l
def EV(hF:iJ P F){ops:Array Oper}{k:St->Option α}:∀(rest:List Oper) {s:St} {a:Act} {w:World},eS P F n ops rest s k=V r->Mt C n s a w->
  wpList P ops (fun e a' w'=>e= .normal/\a'.defers=a.defers/\∃s',k s'=V r/\Mt C n s' a' w') rest a w
 |[],s,a,w,h,hm=>⟨rfl,rfl,s,h,hm⟩
 |o::rest,s,a,w,h,hm=>by
  change K5 P F n ops o (eS P F n ops rest) s k=V r at h
  unfold K5 at h
  split at h
  case h_2=>cases h
  rename_i hd
  refine wpList_step fun K' hK=> ?_
  have cont:∀{s':St} {a':Act} {w':World},a'.defers=a.defers->eS P F n ops rest s' k=V r->Mt C n s' a' w'->K' a' w':=fun{s' a' w'} hda h1 h2=>hK _ _ (by
   have:=EV hF rest h1 h2
   rw[hda]at this
   exact this)
  obtain⟨s1,hm1,⟨hw,h1⟩|⟨hw,h1⟩⟩:=aap h hm
  ·rw[bw hw]
   have h1':opF o.op P F o.dst s1.E s1.R s1.nx (eS P F n ops rest) k=V r:=h1
   rw[Ig]at h1'
   obtain⟨s2,hm2,h2⟩:=ZX h1' hm1
   unfold rDo at h2
   have e2:∀s:St,al2 P F o (eS P F n ops rest) k s=Hr P F (Fy s.E) (gx s.R) s.R s.nx o.op (fun e=>eS P F n ops rest (s.app o.dst e) k):=fun s=>by
    show nh o.op P F (Fy s.E) (gx s.R) s.R s.nx (IP o.dst s.E s.R s.nx (eS P F n ops rest) k)=_
    rw[Kh,agW]
   rw[e2]at h2
   have hm3:=Mt.kr (jd s2.E o.op) hm2
   exact anE (K:=fun e=>eS P F n ops rest ((s2.kr (jd s2.E o.op)).app o.dst e) k) (r:=r) hm3 hd (fun E hs=>Gq hF hs rfl h2) fun a' w' e q1 q2 _ q4=>cont q1 q2 q4
  ·rw[bF (by rw[hw];exact Bool.false_ne_true)]
   cases hdst:o.dst with
   |none=>
    rw[hdst]at h1
    exact cont rfl h1 hm1
   |some t=>
    rw[hdst]at h1 hd
    obtain⟨E,hh,hE,hR,ρ,hag,hsim⟩:=hm1
    exact cont rfl h1 ⟨(t, .lit undef)::E,hh.put t _,Env.vY hE (.lit _),hR,ρ,hag,by
     have:=hsim.put (av:= .lit undef) (v:=undef) hd (.lit _)
     show uK C.C n ((t,cc.sub ρ (.lit undef))::E.sub ρ) _ _ _
     rw[bT]
     exact this⟩
end
def InL(P:Program)(c:Code)(Q:Exit->Act->World->Prop)(a:Act)(w:World):Prop:=
 ∀(b:Frame) (k:List Item) (cs:List Frame),∃e a' w',Q e a' w'/\Arrives P (lone (b.at a (.inLoop c::k)) cs w) b k cs e a' w'
def GJ{P:Program}{c:Code}{Q:Exit->Act->World->Prop}{a:Act}{w:World}(h:c.wp P (Exit.then (InL P c Q) Q) a w)(b:Frame)(k:List Item)(cs:List Frame):
  ∃e a' w',Q e a' w'/\Arrives P (lone (b.at a (.code c:: .inLoop c::k)) cs w) b k cs e a' w':=by
 obtain⟨e,a₁,w₁,hq,harr⟩:=h b (.inLoop c::k) cs
 cases e with
 |normal=>
  obtain⟨e₂,a₂,w₂,hq₂,harr₂⟩:=hq b k cs
  exact⟨e₂,a₂,w₂,hq₂, .of_steps harr harr₂⟩
 |exit id=>exact⟨_,a₁,w₁,hq, .pass (x:= .inLoop c) rfl (fun _ _=> .inl (by simp)) harr⟩
 |goto l=>exact⟨_,a₁,w₁,hq, .pass (x:= .inLoop c) rfl (fun _ _=> .inl (by simp)) harr⟩
 |ret=>exact⟨_,a₁,w₁,hq, .pass (x:= .inLoop c) rfl (fun _ _=> .inl (by simp)) harr⟩
 |panic ch=>exact⟨_,a₁,w₁,hq, .pass (x:= .inLoop c) rfl (fun _ _=> .inl (by simp)) harr⟩
 |outgrown=>exact⟨_,a₁,w₁,hq, .pass (x:= .inLoop c) rfl (fun _ _=> .inl (by simp)) harr⟩
def GR{P:Program}{c:Code}{Q:Exit->Act->World->Prop}{a:Act}{w:World}(h:c.wp P (Exit.then (InL P c Q) Q) a w):(Code.loop c).wp P Q a w:=fun b k cs=>
 let ⟨e,a',w',hq,harr⟩:=GJ h b k cs
 ⟨e,a',w',hq, .of_steps (.one step_loop) harr⟩
def K6{P:Program}{c:Code}{Q:Exit->Act->World->Prop}{a:Act}{w:World}(h:c.wp P (Exit.then (InL P c Q) Q) a w):InL P c Q a w:=fun b k cs=>
 let ⟨e,a',w',hq,harr⟩:=GJ h b k cs
 ⟨e,a',w',hq, .of_steps (.one step_inLoop) harr⟩
section
variable {α:Type} {r:α} {P:Program} {F:aK} {C:Cx} {n:Nat}
abbrev gy(α:Type):=Exit->St->Option α
def LL(k:gy α)(ih:St->Option α):gy α:=fun e s=>match e with
 | .normal=>ih s
 |e=>k e s
def Es(b:St->gy α->Option α)(k:gy α)(m:Nat):St->Option α:=Nat.rec (fun _=>O) (fun _ ih s=>b s (LL k ih)) m
def XY(b:Bool)(t:Nat)(s:St)(x y:St->Option α):Option α:=match b with
 |true=>x (s.fW t wO)
 |false=>y (s.fW t wN)
def ru(c:Operand)(s:St)(x y:St->Option α):Option α:=match c with
 | .tmp t=>match cL s.E t with
  |some (.lit (.bool b))=>XY b t s x y
  |_=>O
 | .const (.bool wO)=>x s
 | .const (.bool wN)=>y s
 |_=>O
def agc(y:St->gy α->Option α)(k:gy α):gy α:=fun e s=>match e with
 | .normal=>y s k
 |e=>k e s
def tT(id:Nat)(k:gy α):gy α:=fun e s=>match e with
 | .exit i=>match zb i id with
  |true=>k .normal s
  |false=>k (.exit i) s
 |e=>k e s
def XO(s:St)(k:gy α):Option α:=k .normal s
def avD(x y:St->gy α->Option α)(s:St)(k:gy α):Option α:=x s (agc y k)
def amf(c:Operand)(x y:St->gy α->Option α)(s:St)(k:gy α):Option α:=ru c s (fun s=>x s k) (fun s=>y s k)
def acE(id:Nat)(x:St->gy α->Option α)(s:St)(k:gy α):Option α:=x s (tT id k)
def Ze(fuel:Nat)(x:St->gy α->Option α)(s:St)(k:gy α):Option α:=Es x k fuel s
def YD(i:Nat)(s:St)(k:gy α):Option α:=k (.exit i) s
def aiT(s:St)(k:gy α):Option α:=k .ret s
def FG(_:St)(_:gy α):Option α:=O
def Xi(P:Program)(s:St):ResultVar->Option AV
 | .tmp t=>cL s.E t
 | .cell t ty=>match cL s.E t with
  |some (.ptr id 0)=>match gx s.R id with
   |some (.box _ cs)=>match TG P ty with
    |true=>cs[0]?
    |false=>match RK P ty with
     |some m=>match zb cs.length m with
      |true=>V (.agg cs)
      |false=>O
     |none=>O
   |_=>O
  |_=>O
def FK(P:Program)(s:St):List ResultVar->Option (List AV)
 |[]=>V []
 |x::xs=>match Xi P s x with
  |some d=>(FK P s xs).map fun ds=>d::ds
  |none=>O
def eT:List AV->AV
 |[d]=>d
 |ds=> .jB ds
def oX:Nat->AV->List Nat
 |_, .own id=>[id]
 |_, .ptr id _=>[id]
 |_, .ra id _ _ _=>[id]
 |n+1, .agg cs=>cs.flatMap (oX n)
 |n+1, .jB cs=>cs.flatMap (oX n)
 |n+1, .fn _ cs=>cs.flatMap (oX n)
 |_,_=>[]
def dB(i:Nat):List Nat->Bool
 |[]=>wN
 |j::js=>match zb i j with
  |true=>wO
  |false=>dB i js
def azJ(R:aY)(ids:List Nat):List Nat:=ids.flatMap fun i=>match gx R i with
 |some (.box _ cs)=>cs.flatMap (oX 3)
 |_=>[]
def reach(R:aY):Nat->List Nat->List Nat
 |0,ids=>ids
 |m+1,ids=>ids++reach R m (azJ R ids)
def SP(nx:Nat)(ids:List Nat)(R:aY):aY:=List.rec [] (fun p R ih=>Bool.rec (Bool.rec ih (p::ih) (dB p.1 ids)) (p::R) (zB p.1 nx)) R
def oF(R:aY)(nx:Nat)(d:AV):aY:=SP nx (reach R 3 (oX 3 d)) R
def KR(i:Nat)(l:List AV):ET->ET:=List.rec (fun _ T=>T) (fun d _ ih i T=>ih (i+1) (mC i d T)) l i
end
end Go.Iv
end
noncomputable section
namespace Go.Iv
variable [U:sX]
open Go Go.RowKit
abbrev Fr:Type:=Nat->Option AV
structure Rc where
 dst:Option Nat
 v:AV
 sl:List Nat
 rd:List Nat
 wr:List Nat
 ef:Bool
 Lo:aY
def gT(rd:List Nat)(R:aY):aY:=R.filter fun p=> !dB p.1 rd
def bY(rd:List Nat)(R:aY):aY:=R.filter fun p=>dB p.1 rd
def Rc.F(c:Rc)(f:Fr):Fr:=fun t=>if c.dst=V t then V c.v else f t
def Rc.R(c:Rc)(R:aY):aY:=match c.ef with
 |true=>c.Lo++gT c.wr R
 |false=>R
def gH:List Rc->List Bool->Fr->Fr
 |c::cs,b::bs,f=>gH cs bs (match b with|wO=>c.F f|wN=>f)
 |_,_,f=>f
def gW:List Rc->List Bool->aY->aY
 |c::cs,b::bs,R=>gW cs bs (match b with|wO=>c.R R|wN=>R)
 |_,_,R=>R
def fX{i:Nat}:∀{l:List Nat},dB i l=wO↔i∈l
 |[]=>by simp[dB]
 |j::js=>by
  unfold dB
  cases h:zb i j with
  |true=>have:=gA h;subst this;simp
  |false=>
   have hne:i≠j:=fun e=>by rw[e,Nat.beq_refl]at h;cases h
   simp only[zy,hne,false_or]
   exact fX
def jy{i:Nat}{l:List Nat}:dB i l=wN↔i∉l:=by
 cases h:dB i l with
 |true=>simp[fX.1 h]
 |false=>simp only[true_iff];exact fun hm=>by rw[fX.2 hm]at h;cases h
structure CF (c d:Rc):Prop where
 ds:∀t,c.dst=V t->t∉d.sl/\d.dst≠V t
 sd:∀t,d.dst=V t->t∉c.sl
 rc:c.ef=wO->(∀i∈c.wr,i∉d.rd)/\(∀p∈c.Lo,p.1∉d.rd)/\∀p∈c.Lo,p.1∉d.wr
 rd:d.ef=wO->(∀i∈d.wr,i∉c.rd)/\(∀p∈d.Lo,p.1∉c.rd)/\∀p∈d.Lo,p.1∉c.wr
def CF.symm{c d:Rc}(h:CF c d):CF d c:=⟨fun t ht=>⟨h.sd t ht,fun e=>(h.ds t e).2 ht⟩,fun t ht=>(h.ds t ht).1,h.rd,h.rc⟩
def ayq{c i:Rc}(h:CF c i)(R:aY):bY i.rd (c.R R)=bY i.rd R:=by
 unfold Rc.R
 cases he:c.ef with
 |false=>rfl
 |true=>
  obtain⟨h1,h2,_⟩:=h.rc he
  simp only[bY,gT,xk,xY]
  have e1:c.Lo.filter (fun p=>dB p.1 i.rd)=[]:=List.filter_eq_nil_iff.2 fun p hp=>by simp[jy.2 (h2 p hp)]
  rw[e1,yg]
  refine xZ fun p _=> ?_
  cases hm:dB p.1 i.rd with
  |false=>rfl
  |true=>
   have:dB p.1 c.wr=wN:=jy.2 fun hc=>h1 _ hc (fX.1 hm)
   rw[this];rfl
def axm{c i:Rc}(h:CF c i)(f:Fr){t:Nat}(ht:t∈i.sl):c.F f t=f t:=by
 unfold Rc.F
 split
 ·rename_i hd;exact cQ ht (h.ds t hd).1
 ·rfl
def aez{c:Rc}{rd:List Nat}{R R':aY}(h:bY rd R=bY rd R'):bY rd (c.R R)=bY rd (c.R R'):=by
 unfold Rc.R
 cases c.ef with
 |false=>exact h
 |true=>
  simp only[bY,gT,xk,xY]at h ⊢
  congr 1
  have e:∀R:aY,R.filter (fun p=>dB p.1 rd&& !dB p.1 c.wr)=(R.filter fun p=>dB p.1 rd).filter fun p=> !dB p.1 c.wr:=fun R=>by
   rw[xY]
   exact xZ fun p _=>Bool.and_comm ..
  rw[e,e,h]
def Jj{i:Rc}:∀(cs:List Rc) (bs bs':List Bool) (f f':Fr) (R R':aY),bs.length=cs.length->bs'.length=cs.length->
  (∀(j:Nat) c b b',cs[j]? =V c->bs[j]? =V b->bs'[j]? =V b'->b=b'\/CF c i)->
  (∀t∈i.sl,f t=f' t)->bY i.rd R=bY i.rd R'->(∀t∈i.sl,gH cs bs f t=gH cs bs' f' t)/\bY i.rd (gW cs bs R)=bY i.rd (gW cs bs' R')
 |[],_,_,f,f',R,R',_,_,_,h1,h2=>⟨by simpa [gH]using h1,by simpa [gW]using h2⟩
 |c::cs,[],_,_,_,_,_,hl,_,_,_,_=>by cases hl
 |c::cs,_::_,[],_,_,_,_,_,hl,_,_,_=>by cases hl
 |c::cs,b::bs,b'::bs',f,f',R,R',hl,hl',hb,h1,h2=>by
  have h0:=hb 0 c b b' rfl rfl rfl
  have hrec:=fun f f' R R'=>Jj (i:=i) cs bs bs' f f' R R' (by simpa using hl) (by simpa using hl') (fun j c b b' q1 q2 q3=>hb (j+1) c b b' q1 q2 q3)
  unfold gH gW
  refine hrec _ _ _ _ ?_ ?_
  ·intro t ht
   rcases h0 with rfl|hcf
   ·cases b with
    |false=>exact h1 t ht
    |true=>show c.F f t=c.F f' t;unfold Rc.F;split<;>first|rfl|exact h1 t ht
   ·cases b<;>cases b'<;>simp only[axm hcf _ ht]<;>exact h1 t ht
  ·rcases h0 with rfl|hcf
   ·cases b with
    |false=>exact h2
    |true=>exact aez h2
   ·cases b<;>cases b'<;>simp only[ayq hcf]<;>exact h2
def ajV{c d:Rc}(h:CF c d)(f:Fr):c.F (d.F f)=d.F (c.F f):=by
 funext t
 unfold Rc.F
 by_cases h1:c.dst=V t
 ·rw[bw h1,bF (h.ds t h1).2,bw h1]
 ·by_cases h2:d.dst=V t
  ·rw[bF h1,bw h2,bw h2]
  ·rw[bF h1,bF h2,bF h2,bF h1]
def ajW{c:Rc}{R R':aY}(h:List.Perm R R'):List.Perm (c.R R) (c.R R'):=by
 unfold Rc.R
 cases c.ef with
 |false=>exact h
 |true=>exact(h.filter _).append_left _
def aj7{c d:Rc}(h:CF c d)(R:aY):List.Perm (c.R (d.R R)) (d.R (c.R R)):=by
 unfold Rc.R
 cases hc:c.ef with
 |false=>cases d.ef<;>exact .refl _
 |true=>
  cases hd:d.ef with
  |false=>exact .refl _
  |true=>
   obtain⟨h1,_,h2⟩:=h.rc hc
   obtain⟨h3,_,h4⟩:=h.rd hd
   simp only[gT,xk,xY]
   have e1:d.Lo.filter (fun p=> !dB p.1 c.wr)=d.Lo:=List.filter_eq_self.2 fun p hp=>by simp[jy.2 (h4 p hp)]
   have e2:c.Lo.filter (fun p=> !dB p.1 d.wr)=c.Lo:=List.filter_eq_self.2 fun p hp=>by simp[jy.2 (h2 p hp)]
   rw[e1,e2,<-yQ,<-yQ]
   refine(List.perm_append_comm).append ?_
   rw[show (R.filter fun a=> !dB a.1 c.wr&& !dB a.1 d.wr)=R.filter fun a=> !dB a.1 d.wr&& !dB a.1 c.wr from xZ fun p _=>Bool.and_comm ..]
def late{i:Rc}:∀(cs:List Rc) (bs:List Bool) (f:Fr) (R R':aY),(∀(j:Nat) c,cs[j]? =V c->bs[j]? =V wO->CF i c)->List.Perm R' (i.R R)->
  i.F (gH cs bs f)=gH cs bs (i.F f)/\List.Perm (i.R (gW cs bs R)) (gW cs bs R')
 |[],_,f,R,R',_,hp=>⟨rfl,hp.symm⟩
 |_::_,[],f,R,R',_,hp=>⟨rfl,hp.symm⟩
 |c::cs,b::bs,f,R,R',hb,hp=>by
  unfold gH gW
  cases b with
  |false=>exact late cs bs f R R' (fun j c q1 q2=>hb (j+1) c q1 q2) hp
  |true=>
   have hcf:=hb 0 c rfl rfl
   have h1:=late cs bs (c.F f) (c.R R) (c.R R') (fun j c q1 q2=>hb (j+1) c q1 q2) ((ajW hp).trans (aj7 hcf.symm R))
   refine⟨?_,h1.2⟩
   rw[h1.1,ajV hcf]
def DT:∀(pre:List Rc) (bp:List Bool) (cs:List Rc) (bs:List Bool) (f:Fr),bp.length=pre.length->gH (pre++cs) (bp++bs) f=gH cs bs (gH pre bp f)
 |[],[],_,_,_,_=>rfl
 |_::_,[],_,_,_,h=>by cases h
 |[],_::_,_,_,_,h=>by cases h
 |c::pre,b::bp,cs,bs,f,h=>by
  show gH (pre++cs) (bp++bs) _=_
  rw[DT pre bp cs bs _ (by simpa using h)]
  rfl
def DW:∀(pre:List Rc) (bp:List Bool) (cs:List Rc) (bs:List Bool) (R:aY),bp.length=pre.length->gW (pre++cs) (bp++bs) R=gW cs bs (gW pre bp R)
 |[],[],_,_,_,_=>rfl
 |_::_,[],_,_,_,h=>by cases h
 |[],_::_,_,_,_,h=>by cases h
 |c::pre,b::bp,cs,bs,R,h=>by
  show gW (pre++cs) (bp++bs) _=_
  rw[DW pre bp cs bs _ (by simpa using h)]
  rfl
def XJ{cs:List Rc}{bs:List Bool}{i:Nat}{c:Rc}(f:Fr)(R:aY)(hl:bs.length=cs.length)(hc:cs[i]? =V c)(hb:bs[i]? =V wN)
  (hpre:∀(j:Nat) d,j<i->cs[j]? =V d->bs[j]? =V wN->CF d c) (hpost:∀(j:Nat) d,i<j->cs[j]? =V d->bs[j]? =V wO->CF d c):
  (∀t∈c.sl,gH cs bs f t=gH (cs.take i) (zn i wO) f t)/\bY c.rd (gW cs bs R)=bY c.rd (gW (cs.take i) (zn i wO) R)/\
  c.F (gH cs bs f)=gH cs (bs.set i wO) f/\List.Perm (c.R (gW cs bs R)) (gW cs (bs.set i wO) R):=by
 have hi:i<cs.length:=(zX.1 hc).1
 have hib:i<bs.length:=by omega
 have ec:cs=cs.take i++c::cs.drop (i+1):=by
  rw[<-(zX.1 hc).2,<-xR hi,xe]
 have eb:bs=bs.take i++wN::bs.drop (i+1):=by
  rw[<-(zX.1 hb).2,<-xR hib,xe]
 have lp:(bs.take i).length=(cs.take i).length:=by rw[zZ,zZ];omega
 have eb2:bs.set i wO=bs.take i++wO::bs.drop (i+1):=by
  rw[wA,bw hib]
 have hF:gH cs bs f=gH (cs.drop (i+1)) (bs.drop (i+1)) (gH (cs.take i) (bs.take i) f):=by
  conv=>lhs;rw[ec,eb]
  rw[DT _ _ _ _ _ lp];rfl
 have hR:gW cs bs R=gW (cs.drop (i+1)) (bs.drop (i+1)) (gW (cs.take i) (bs.take i) R):=by
  conv=>lhs;rw[ec,eb]
  rw[DW _ _ _ _ _ lp];rfl
 have hF2:gH cs (bs.set i wO) f=gH (cs.drop (i+1)) (bs.drop (i+1)) (c.F (gH (cs.take i) (bs.take i) f)):=by
  rw[eb2]
  conv=>lhs;rw[ec]
  rw[DT _ _ _ _ _ lp];rfl
 have hR2:gW cs (bs.set i wO) R=gW (cs.drop (i+1)) (bs.drop (i+1)) (c.R (gW (cs.take i) (bs.take i) R)):=by
  rw[eb2]
  conv=>lhs;rw[ec]
  rw[DW _ _ _ _ _ lp];rfl
 have hpo:∀(j:Nat) d,(cs.drop (i+1))[j]? =V d->(bs.drop (i+1))[j]? =V wO->CF d c:=fun j d q1 q2=>by
  rw[yw]at q1 q2
  exact hpost (i+1+j) d (by omega) q1 q2
 have v2:=Jj (i:=c) (cs.drop (i+1)) (bs.drop (i+1)) (zn (cs.length-(i+1)) wN) (gH (cs.take i) (bs.take i) f) (gH (cs.take i) (bs.take i) f) (gW (cs.take i) (bs.take i) R) (gW (cs.take i) (bs.take i) R)
  (by rw[z8,z8];omega) (by rw[xU,z8]) (fun j d b b' q1 q2 q3=>by
   cases b with
   |true=>exact .inr (hpo j d q1 q2)
   |false=>
    rw[wD]at q3
    split at q3
    ·cases q3;exact .inl rfl
    ·cases q3) (fun t _=>rfl) rfl
 have none_F:∀(cs:List Rc) (n:Nat) (f:Fr),gH cs (zn n wN) f=f:=fun cs=>by
  induction cs with
  |nil=>intro n f;rfl
  |cons d cs ih=>
   intro n f
   cases n with
   |zero=>rfl
   |succ n=>rw[yI];exact ih n f
 have none_R:∀(cs:List Rc) (n:Nat) (R:aY),gW cs (zn n wN) R=R:=fun cs=>by
  induction cs with
  |nil=>intro n f;rfl
  |cons d cs ih=>
   intro n f
   cases n with
   |zero=>rfl
   |succ n=>rw[yI];exact ih n f
 have v1:=Jj (i:=c) (cs.take i) (bs.take i) (zn i wO) f f R R lp (by rw[xU,zZ];omega) (fun j d b b' q1 q2 q3=>by
   rw[yz]at q1 q2
   rw[wD]at q3
   split at q1
   ·rename_i hji
    rw[bw hji]at q2 q3
    cases q3
    cases b with
    |true=>exact .inl rfl
    |false=>exact .inr (hpre j d hji q1 q2)
   ·cases q1) (fun t _=>rfl) rfl
 refine⟨fun t ht=> ?_,?_,?_,?_⟩
 ·rw[hF,v2.1 t ht,none_F,v1.1 t ht]
 ·rw[hR,v2.2,none_R,v1.2]
 ·rw[hF,hF2]
  exact(late (i:=c) _ _ _ (gW (cs.take i) (bs.take i) R) _ (fun j d q1 q2=>(hpo j d q1 q2).symm) (.refl _)).1
 ·rw[hR,hR2]
  exact(late (i:=c) _ _ (gH (cs.take i) (bs.take i) f) _ _ (fun j d q1 q2=>(hpo j d q1 q2).symm) (.refl _)).2
end Go.Iv
end
