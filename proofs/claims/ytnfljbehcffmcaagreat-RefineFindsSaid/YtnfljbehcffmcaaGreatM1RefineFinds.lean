/- Merged: Iv1, Iv2, Iv3, Iv4, Iv5, Iw1, Iw0, Iv6, Iw2, Iw3, Iv10, Ivc, Iw4, Iw5, Iwn, Iv8, Iw6, Iw7, Iw8. -/
import Derived.OrdersHeld
import Derived.WalkKit
import Derived.KernelRfl
import Derived.Maps.AppendAt
import Derived.WalkLawsBesides
import Derived.Laws.Tables
import Derived.Laws.PanicsMore
import Derived.Great.BuildSlice
import Derived.Laws.MakeOwn
import Derived.Lib.SliceRun
import Derived.RangeFuncLeaves
import Derived.RangeFuncNested
import Derived.Laws.BytesArg
import Derived.Laws.StructEq
import Derived.Lib.AppendZerosOnto
import Derived.RangeFuncBound
import Derived.Shelf.Abstract
import Derived.TacticsIn
import Derived.OwnWalkIn
open Int renaming toNat_natCast → ze, natCast_mul → xI
open Nat renaming beq → zf, le_refl → zn, blt → zG, lt_succ_self → zJ, le_trans → zK, le_succ → yc, add_mul → yd, ble → yl, zero_add → yp, add_zero → yt, blt_eq → yC, mul_le_mul_right → yL, succ_mul → yO, mod_lt → yQ, eq_of_beq_eq_true → xh, mul_one → xz, add_assoc → xG, lt_of_lt_of_le → x8, le_of_ble_eq_true → wh, eq_zero_or_pos → wD
open Bool renaming and_eq_true → zi, true → O, false → S
open List renaming length_append → zj, replicate → zl, mem_cons_self → zo, getElem?_eq_getElem → zu, all_eq_true → zw, length_map → zx, mem_singleton → zy, take_length → zB, mem_cons → zD, length_take → zH, mem_map → zL, range → zM, mem_cons_of_mem → zO, drop_drop → zU, mem_append → zW, map_congr_left → zX, getElem?_eq_some_iff → z7, map_append → z8, getElem?_map → yb, map_cons → ye, length_drop → ym, length_set → yo, map_map → yq, nil_append → yw, append_nil → yy, getElem?_drop → yD, getElem?_take → yF, nodup_append → yI, mem_append_left → yJ, mem_append_right → yK, length_cons → yN, replicate_succ → yP, append_assoc → yR, map_nil → yS, getElem_of_mem → yZ, filterMap_cons → y6, filter_append → y7, getElem?_append → xk, cons_append → xo, drop_eq_getElem_cons → xu, take_append_drop → xw, size_toArray → xx, eq_nil_of_length_eq_zero → xy, length_range → xF, flatMap_cons → xH, map_drop → xJ, getElem_mem → xM, length_replicate → xO, mem_flatMap → xP, map_take → xQ, take_zero → xR, getElem?_eq_none → x9, getElem_take → we, mem_of_mem_drop → wg, filter_filter → wj, filter_congr → wk, set_eq_take_append_cons_drop → wC, flatten_cons → wE, flatMap_append → wF, getElem_drop → wG, eraseIdx_eq_take_drop_succ → wO, length_pos_iff → wP, eraseIdx_sublist → wQ, getElem?_replicate → wR
open Option renaming map_eq_some_iff → zk, bind_eq_some_iff → zq, some → zA, bind_assoc → zY, map_some → yx, toList_some → xL, toList → xN, some → V, none → G
open Array renaming length_toList → yj, getElem?_eq_some_iff → xE, getElem?_eq_getElem → xK
open Decidable renaming decide → J
set_option linter.unusedSectionVars false
set_option linter.unusedVariables false
set_option linter.unusedSimpArgs false
set_option linter.defProp false
abbrev Prod.t{α β γ:Type _}(z:α×β×γ):γ:=z.2.2
abbrev Prod.q{α β γ δ ε:Type _}(z:α×β×γ×δ×ε):ε:=z.2.2.2.2
abbrev af(α:Type _):=Option α
abbrev aa(α:Type _):=List α
namespace Go
theorem bX:∀ {p:Prop} [inst:Decidable p],¬p→decide p=S:=@decide_eq_false
theorem bY:∀ {p:Prop} [inst:Decidable p],p→decide p=O:=@decide_eq_true
theorem bB{α:Sort _}(a b:α):cond S a b=b:=rfl
theorem bC{α:Sort _}(a b:α):cond O a b=a:=rfl
theorem bE{c:Prop}{h:Decidable c}(hc:c){α:Sort _}{t e:α}:(ite c t e)=t:=if_pos hc
theorem bO{c:Prop}{h:Decidable c}(hnc:¬c){α:Sort _}{t e:α}:(ite c t e)=e:=if_neg hnc
theorem cI(h:Decidable True):@decide True h=O:=decide_true h
theorem ep(h:Decidable False):@decide False h=S:=decide_false h
theorem cB{α:Sort _}{_:Decidable True}(t e:α):ite True t e=t:=if_true t e
theorem gG{α:Sort _}{_:Decidable False}(t e:α):ite False t e=e:=if_false t e
theorem cT(p:Prop):(p∧p)=p:=and_self p
def dD{a:Prop}{b:Sort _}(h1:a)(h2:¬a):b:=absurd h1 h2
end Go
noncomputable section
namespace Go.Iv
open Go Go.RowKit
inductive cc (dz:Nat->Type):Type
 |lit (v:Value)
 |sl (t:Nat) (l:List (dz t))
 |fp (cs:List (cc dz))
 |rp (v:Value) (k:Nat)
 |agg (cs:List (cc dz))
 |iR (vs:List (cc dz))
 |fn (f:Fn) (caps:List (cc dz))
 |own (id:Nat)
 |ptr (id off:Nat)
 |ra (id t m off:Nat)
class qO where
 dz:Nat->Type
 inh:(t:Nat)->Inhabited (dz t)
 sz:Nat->Nat
 cells:(t:Nat)->dz t->List (cc dz)
instance [U:qO] (t:Nat):Inhabited (U.dz t):=U.inh t
abbrev AV[U:qO]:Type:=cc U.dz
variable [U:qO]
def gB:Value->af Nat
 | .slice (V a) _ (_+1)=>V a.block
 |_=>G
def gD(w:World)(v:Value)(T:TypeId)(sz n:Nat)(us:aa Value):Prop:=
 us.length=n*sz/\((∃p,v= .slice p 0 0/\n=0)\/
  ∃g cap cur,v= .slice (V ⟨g,0,G⟩) n (cap+1)/\w.heap[g]? =V (.cells cur T (0,0))/\n<=cap+1/\cap+1<=maxLen/\cur.size=(cap+1)*sz/\cur.toList.take (n*sz)=us)
def gD.lt{w:World}{v:Value}{T:TypeId}{sz n:Nat}{us:aa Value}(h:gD w v T sz n us){b:Nat}(hb:gB v=V b):b<w.heap.size:=by
 rcases h.2 with ⟨p,rfl,_⟩|⟨g,cap,cur,rfl,hg,_⟩
 ·cases p<;>cases hb
 ·cases hb;exact(xE.1 hg).1
def gD.kept{w w':World}{v:Value}{T:TypeId}{sz n:Nat}{us:aa Value}(h:gD w v T sz n us)(hb:∀b,gB v=V b->w'.heap[b]? =w.heap[b]?):gD w' v T sz n us:=by
 refine⟨h.1,?_⟩;rcases h.2 with h1|⟨g,cap,cur,rfl,q1,q2⟩
 ·exact .inl h1
 ·exact .inr ⟨g,cap,cur,rfl,(hb g rfl).trans q1,q2⟩
inductive Rel (A:Nat->Prop) (w:World):AV->Value->Prop
 |lit (v:Value):Rel A w (.lit v) v
 |sl (t:Nat) (l:List (U.dz t)) (p:Option Addr) (cap:Nat) (u:Nat->Nat->Value)
   (hl:l.length<=9223372036854775807) (hcap:l.length<=cap) (hz:∀i,i<l.length->(U.cells t l[i]!).length=U.sz t)
   (hc:∀i,i<l.length->∃b off,p=V ⟨b,off,G⟩/\b<w.heap.size/\A b/\∀j,j<U.sz t->w.cell? ⟨b,off+i*U.sz t+j,G⟩=V (u i j))
   (hr:∀i j a,i<l.length->(U.cells t l[i]!)[j]? =V a->Rel A w a (u i j)):Rel A w (.sl t l) (.slice p l.length cap)
 |fp (cs:List AV) (b o:Nat) (us:List Value) (hb:b<w.heap.size) (hA:A b) (hl:us.length=cs.length)
   (hc:∀j v,us[j]? =V v->w.cell? ⟨b,o+j,G⟩=V v) (hr:∀(j:Nat) a v,cs[j]? =V a->us[j]? =V v->Rel A w a v):Rel A w (.fp cs) (.pointer (V ⟨b,o,G⟩))
 |rp (v:Value) (k g:Nat) (h:gB v=V g):Rel A w (.rp v k) (.pointer (V ⟨g,k,G⟩))
 |agg (cs:List AV) (us:List Value) (hl:us.length=cs.length) (hr:∀(j:Nat) a v,cs[j]? =V a->us[j]? =V v->Rel A w a v):Rel A w (.agg cs) (.agg us.toArray)
 |iR (cs:List AV) (us:List Value) (hl:us.length=cs.length) (hr:∀(j:Nat) a v,cs[j]? =V a->us[j]? =V v->Rel A w a v):Rel A w (.iR cs) (.tuple us.toArray)
 |fn (f:Fn) (cs:List AV) (us:List Value) (hl:us.length=cs.length) (hr:∀(j:Nat) a v,cs[j]? =V a->us[j]? =V v->Rel A w a v):Rel A w (.fn f cs) (.func f #[] us.toArray)
def Rel.mono{A A':Nat->Prop}{w w':World}{a:AV}{v:Value}(h:Rel A w a v)(hk:∀b,b<w.heap.size->A b->A' b/\w'.heap[b]? =w.heap[b]?):Rel A' w' a v:=by
 have hsz:∀b,b<w.heap.size->A b->b<w'.heap.size:=λb hb hA=>by
  have h1:=(hk b hb hA).2;rw[xK hb]at h1;exact(xE.1 h1).1
 have hcell:∀b o,b<w.heap.size->A b->w'.cell? ⟨b,o,G⟩=w.cell? ⟨b,o,G⟩:=λb o hb hA=>by
  simp[World.cell?,(hk b hb hA).2]
 induction h with
 |lit v=>exact .lit v
 |sl t l p cap u hl hcap hz hc hr ih=>
  refine .sl t l p cap u hl hcap hz (λi hi=> ?_) ih;obtain⟨b,off,h1,h2,h3,h4⟩:=hc i hi;exact⟨b,off,h1,hsz b h2 h3,(hk b h2 h3).1,λj hj=>by rw[hcell b _ h2 h3];exact h4 j hj⟩
 |fp cs b o us hb hA hl hc hr ih=>exact .fp cs b o us (hsz b hb hA) (hk b hb hA).1 hl (λj v hj=>by rw[hcell b _ hb hA];exact hc j v hj) ih
 |rp v k g h=>exact .rp v k g h
 |agg cs us hl hr ih=>exact .agg cs us hl ih
 |iR cs us hl hr ih=>exact .iR cs us hl ih
 |fn f cs us hl hr ih=>exact .fn f cs us hl ih
def bN(A:Nat->Prop)(w:World)(as0:aa AV)(us:aa Value):Prop:=us.length=as0.length/\∀(j:Nat) a v,as0[j]? =V a->us[j]? =V v->Rel A w a v
def bN.mono{A A':Nat->Prop}{w w':World}{as0:aa AV}{us:aa Value}(h:bN A w as0 us)(hk:∀b,b<w.heap.size->A b->A' b/\w'.heap[b]? =w.heap[b]?):bN A' w' as0 us:=⟨h.1,λj a v h1 h2=>(h.2 j a v h1 h2).mono hk⟩
def Rel.cH{A:Nat->Prop}{w:World}{u v:Value}(h:Rel A w (.lit u) v):v=u:=by
 generalize ha:cc.lit u=a at h;cases h with
 |lit v=>cases ha;rfl
 |_=>cases ha
def Blk(w:World)(b:Nat)(cs:Array Value)(T:TypeId):Prop:=w.heap[b]? =V (.cells cs T (0,0))
def Blk.lt{w:World}{b:Nat}{cs:Array Value}{T:TypeId}(h:Blk w b cs T):b<w.heap.size:=(xE.1 h).1
def Blk.cell{w:World}{b:Nat}{cs:Array Value}{T:TypeId}(h:Blk w b cs T){i:Nat}{v:Value}(hv:cs[i]? =V v):w.cell? ⟨b,i,G⟩=V v:=by
 unfold Blk at h;simp[World.cell?,h,hv]
inductive cE:Type
 |box (b:Nat) (T:TypeId) (cs:List AV)
 |row (v:Value) (t:Nat) (l:List (U.dz t))
def cE.blk:cE->af Nat
 | .box b _ _=>V b
 | .row v _ _=>gB v
def cE.ok(A:Nat->Prop)(w:World):cE->Prop
 | .box b T cs=>∃us:aa Value,Blk w b us.toArray T/\bN A w cs us
 | .row v t l=>∃us:aa Value,gD w v t (U.sz t) l.length us/\(∀i,i<l.length->(U.cells t l[i]!).length=U.sz t)/\∀i,i<l.length->bN A w (U.cells t l[i]!) ((us.drop (i*U.sz t)).take (U.sz t))
def bD(σ:aa cE):aa Nat:=σ.filterMap cE.blk
def bT{σ:aa cE}{b:Nat}:b∈bD σ↔∃r∈σ,r.blk=V b:=by simp[bD]
def cE.ok.lt{A:Nat->Prop}{w:World}{r:cE}(h:r.ok A w){b:Nat}(hb:r.blk=V b):b<w.heap.size:=by
 cases r with
 |box b' T cs=>obtain⟨us,h1,_⟩:=h;cases hb;exact h1.lt
 |row v t l=>obtain⟨us,h1,_⟩:=h;exact h1.lt hb
def cE.ok.mono{A A':Nat->Prop}{w w':World}{r:cE}(h:r.ok A w)(hk:∀b,b<w.heap.size->A b->A' b/\w'.heap[b]? =w.heap[b]?)(hb:∀b,r.blk=V b->w'.heap[b]? =w.heap[b]?):r.ok A' w':=by
 cases r with
 |box b T cs=>
  obtain⟨us,h1,h2⟩:=h;exact⟨us,(hb b rfl).trans h1,h2.mono hk⟩
 |row v t l=>
  obtain⟨us,h1,h2,h3⟩:=h;exact⟨us,h1.kept hb,h2,λi h4=>(h3 i h4).mono hk⟩
structure Kp (X:List Nat) (w w':World):Prop where
 os:w'.os=w.os
 tape:w'.tape=w.tape
 output:w'.output=w.output
 drawn:w.drawn<=w'.drawn
 size:w.heap.size<=w'.heap.size
 block:∀k,k<w.heap.size->k∉X->w'.heap[k]? =w.heap[k]?
def Kp.refl(X:aa Nat)(w:World):Kp X w w:=⟨rfl,rfl,rfl,zn _,zn _,λ_ _ _=>rfl⟩
def Kp.trans{X Y:aa Nat}{w w1 w2:World}(h:Kp X w w1)(h':Kp Y w1 w2)(hY:∀b,b∈Y->b<w.heap.size->b∈X):Kp X w w2:=
 ⟨h'.os.trans h.os,h'.tape.trans h.tape,h'.output.trans h.output,zK h.drawn h'.drawn,zK h.size h'.size,λk hk hX=>
  (h'.block k (x8 hk h.size) (λhy=>hX (hY k hy hk))).trans (h.block k hk hX)⟩
def Kp.drew(w:World):Kp [] w w.drew:=⟨rfl,rfl,rfl,yc _,zn _,λ_ _ _=>rfl⟩
def Kp.below{w w':World}(h:Kp [] w w'):Below w.heap.size w w':=⟨h.os,h.tape,h.output,h.size,λk hk=>h.block k hk (by simp)⟩
structure Cx where
 w0:World
 A0:Nat->Prop
 O0:List Nat
def al(C:Cx)(σ:aa cE)(b:Nat):Prop:=(C.A0 b\/b∈C.O0\/C.w0.heap.size<=b)/\b∉bD σ
structure Good (C:Cx) (σ:List cE) (w:World):Prop where
 kept:Kp C.O0 C.w0 w
 res:∀r∈σ,r.ok (al C σ) w
 GI:(bD σ).Nodup
 own:∀b∈bD σ,b∈C.O0\/C.w0.heap.size<=b
structure Tr (C:Cx) (X:List Nat) (σ:List cE) (w:World) (σ':List cE) (w':World):Prop where
 good:Good C σ' w'
 kp:Kp X w w'
 al:∀b,b<w.heap.size->al C σ b->al C σ' b/\b∉X
def Tr.keep{C:Cx}{X:aa Nat}{σ σ':aa cE}{w w':World}(t:Tr C X σ w σ' w'):∀b,b<w.heap.size->Iv.al C σ b->Iv.al C σ' b/\w'.heap[b]? =w.heap[b]? :=
 λb hb h=>⟨(t.al b hb h).1,t.kp.block b hb (t.al b hb h).2⟩
abbrev Env:=aa (Nat×AV)
def Env.get:Env->Nat->af AV
 |[],_=>G
 |(k,v)::E,t=>match zf k t with
  |true=>V v
  |false=>Env.get E t
def Env.ev(E:Env):Operand->af AV
 | .tmp t=>Env.get E t
 | .const v=>V (.lit v)
 | .global g=>V (.lit (.pointer (V ⟨g,0,G⟩)))
 | .func f=>V (.fn (.func f) [])
def Env.fk(E:Env)(d:Nat)(v:AV):Env.get ((d,v)::E) d=V v:=by
 have h:zf d d=O:=Nat.beq_refl d;simp only[Env.get,h]
def Env.dV(E:Env){d t:Nat}(v:AV)(h:d≠t):Env.get ((d,v)::E) t=Env.get E t:=by
 have h':zf d t=S:=by
  cases hb:zf d t with
  |false=>rfl
  |true=>exact dD (xh hb) h
 simp only[Env.get,h']
def lN(A:Nat->Prop)(w:World)(E:Env)(tmps:Array Value):Prop:=∀t av,Env.get E t=V av->∃v,tmps[t]? =V v/\Rel A w av v
def Dq(C:Cx)(σ:aa cE)(a:Act)(w:World):Prop:=∃Ds:aa Nat,a.defers=Ds.map (λD=>{target:= .collected D,args:=#[]})/\Ds.Nodup/\
 ∀D∈Ds,D<w.heap.size/\C.w0.heap.size<=D/\D∉bD σ/\w.heap[D]? =V (.deferred (V []))
def Dq.nil{C:Cx}{σ:aa cE}{a:Act}{w:World}(h:a.defers=[]):Dq C σ a w:=⟨[],h,List.nodup_nil,λ_ h=>by cases h⟩
def Dq.step{C:Cx}{σ σ':aa cE}{a:Act}{w w':World}(h:Dq C σ a w)(hk:∀b,b<w.heap.size->al C σ b->al C σ' b/\w'.heap[b]? =w.heap[b]?):Dq C σ' a w':=by
 obtain⟨Ds,h1,h2,h3⟩:=h;refine⟨Ds,h1,h2,λD hD=> ?_⟩;obtain⟨q1,q2,q3,q4⟩:=h3 D hD;obtain⟨p1,p2⟩:=hk D q1 ⟨.inr (.inr q2),q3⟩;have p3:=p2.trans q4;exact⟨(xE.1 p3).1,q2,p1.2,p3⟩
structure tV (C:Cx) (n:Nat) (E:Env) (σ:List cE) (a:Act) (w:World):Prop where
 defers:Dq C σ a w
 size:a.tmps.size=n
 slots:lN (al C σ) w E a.tmps
 good:Good C σ w
def OI(A:Nat->Prop)(w:World)(E:Env)(ρ:Operand->Value):Prop:=∀x u,E.ev x=V u->Rel A w u (ρ x)
section
variable {C:Cx} {n:Nat} {E E':Env} {σ σ':aa cE} {a:Act} {w w':World} {x:Operand} {v:Value} {av:AV} {d:Nat} {A:Nat->Prop}
def lN.ops(h:lN A w E a.tmps):OI A w E a.eval:=λx u hx=>by
 cases x with
 |tmp t=>
  obtain⟨v,h1,h2⟩:=h t u hx;simpa [Act.eval,h1]using h2
 |const u=>
  simp only[Env.ev,zA.injEq]at hx;subst hx;exact .lit _
 |global g=>
  simp only[Env.ev,zA.injEq]at hx;subst hx;exact .lit _
 |func f=>
  simp only[Env.ev,zA.injEq]at hx;subst hx;exact .fn _ [] [] rfl (λj a v h=>by cases h)
def lN.put(h:lN A w E a.tmps)(hd:d<a.tmps.size)(hv:Rel A w av v):lN A w ((d,av)::E) (a.put (V d) v).tmps:=λt u ht=>by
 by_cases hdt:d=t
 ·subst hdt;rw[Env.fk]at ht;cases ht;exact⟨v,by simp[Act.put,hd],hv⟩
 ·rw[Env.dV _ _ hdt]at ht;obtain⟨v',h1,h2⟩:=h t u ht;exact⟨v',by simp[Act.put,Array.getElem?_setIfInBounds_ne hdt,h1],h2⟩
def tV.put(h:tV C n E σ a w)(hd:zG d n=O)(hv:Rel (al C σ) w av v):tV C n ((d,av)::E) σ (a.put (V d) v) w:=
 ⟨h.defers,by simpa [Act.put]using h.size,h.slots.put (by rw[h.size];simpa [yC]using hd) hv,h.good⟩
def tV.tr{X:aa Nat}(h:tV C n E σ a w)(t:Tr C X σ w σ' w'):tV C n E σ' a w':=
 ⟨h.defers.step t.keep,h.size,λi u hi=>let ⟨v,h1,h2⟩:=h.slots i u hi;⟨v,h1,h2.mono t.keep⟩,t.good⟩
end
def Hd(A:Nat->Prop)(σ:aa cE)(w:World):Prop:=(∀r∈σ,r.ok A w)/\∀b∈bD σ,¬A b
def Good.hd{C:Cx}{σ:aa cE}{w:World}(h:Good C σ w):Hd (al C σ) σ w:=⟨h.res,λ_ hb hA=>hA.2 hb⟩
section
variable (P:Program) (E:Env) (σ:aa cE) (o:Oper)
def Yp(av:AV):Prop:=∀(A:Nat->Prop) (w:World) (ρ:Operand->Value),Hd A σ w->OI A w E ρ->
 ∃v,Rel A w av v/\∀w':World,(∀b,b<w.heap.size->(A b\/b∈bD σ)->w'.heap[b]? =w.heap[b]?)->(execOp ρ o).run P w'= .ok (.value v) w'
def Yv(C:Cx)(X:aa Nat)(N:AV->aa cE->Prop):Prop:=∀(w:World) (ρ:Operand->Value),Good C σ w->OI (al C σ) w E ρ->
 ∃v w' av σ',N av σ'/\Tr C X σ w σ' w'/\(execOp ρ o).run P w= .ok (.value v) w'/\Rel (al C σ') w' av v
def Yu(C:Cx)(X:aa Nat)(σ':aa cE):Prop:=∀(w:World) (ρ:Operand->Value),Good C σ w->OI (al C σ) w E ρ->
 ∃w',Tr C X σ w σ' w'/\(execOp ρ o).run P w= .ok .skip w'
def Yc(C:Cx)(X:aa Nat)(N:AV->aa cE->Prop):Prop:=∀(w:World) (ρ:Operand->Value),Good C σ w->OI (al C σ) w E ρ->
 ∃f args,(execOp ρ o).run P w= .ok (.enter f args) w/\Calls P f args w λe w'=>∃v av σ',e= .returned v/\N av σ'/\Tr C X σ w σ' w'/\Rel (al C σ') w' av v
def o5(ops:Array Oper):af Bool:=
 match o.guard with
 |none=>V O
 |some (j,want)=>match (ops[j]?).bind (·.dst)with
  |none=>G
  |some t=>match Env.get E t with
   |some (.lit (.bool b))=>V (b==want)
   |some (.lit (.tuple _))=>V S
   |_=>G
end
def o5.spec{A:Nat->Prop}{w:World}{E:Env}{o:Oper}{ops:Array Oper}{tmps:Array Value}{b:Bool}(h:lN A w E tmps)(hw:o5 E o ops=V b):Region.wanted o (yielded ops tmps)=b:=by
 unfold o5 at hw;unfold Region.wanted;cases hg:o.guard with
 |none=>rw[hg]at hw;simpa using hw
 |some gw=>
  obtain⟨j,want⟩:=gw;rw[hg]at hw;simp only at hw ⊢;cases ht:(ops[j]?).bind (·.dst)with
  |none=>rw[ht]at hw;cases hw
  |some t=>
   rw[ht]at hw;simp only at hw;cases he:Env.get E t with
   |none=>rw[he]at hw;cases hw
   |some u=>
    obtain⟨v,hv,hr⟩:=h t u he;rw[he]at hw;have hy:yielded ops tmps j=match v with| .bool b=>V b|_=>G:=by
     unfold yielded;rw[ht];simp only[Option.bind_some,hv];cases v<;>rfl
    cases u with
    |lit u=>
     have hvu:=hr.cH;subst hvu;cases v<;>simp only at hw hy<;>first|(cases hw;done)|skip
     ·rw[hy];simpa using hw
     ·rw[hy];simp at hw;simp[<-hw]
    |_=>cases hw
def Q1(C:Cx)(n:Nat)(K:Env->aa cE->Prop)(ds:aa Deferred):Exit->Act->World->Prop:=λe a w=>e= .normal/\a.defers=ds/\∃E σ,tV C n E σ a w/\K E σ
section
variable {P:Program} {C:Cx} {n:Nat} {ops:Array Oper} {K:Env->aa cE->Prop} {rest:aa Oper} {E E':Env} {σ σ':aa cE} {o:Oper} {av:AV} {d:Nat} {X:aa Nat} {N:AV->aa cE->Prop}
end
structure Bs (X:List Nat) (A1:Nat->Prop) (w1:World) (σS:List cE):Prop where
 hd:Hd A1 σS w1
 nA:∀b,A1 b->b∉X
 nS:∀b∈bD σS,b∉X
def S1(X:aa Nat)(w1 w:World):Prop:=w1.heap.size<=w.heap.size/\∀b,b<w1.heap.size->b∉X->w.heap[b]? =w1.heap[b]?
section
variable {P:Program} {C:Cx} {n:Nat} {ops:Array Oper} {X X':aa Nat} {A1:Nat->Prop} {w1:World} {σS:aa cE} {K:Env->aa cE->Prop} {fuel:Nat} {listed:Array Bool} {i:Nat} {Eb E:Env} {σ σ':aa cE} {o:Oper} {av:AV} {d:Nat} {N:AV->aa cE->Prop}
end
def CW(P:Program)(C:Cx)(n:Nat)(c:Code)(Q:Exit->Env->aa cE->Prop)(E:Env)(σ:aa cE):Prop:=
 ∀a w,tV C n E σ a w->c.wp P (λe a' w'=>∃E' σ',tV C n E' σ' a' w'/\Q e E' σ') a w
section
variable {P:Program} {C:Cx} {n:Nat} {c x y:Code} {Q Q':Exit->Env->aa cE->Prop} {E E':Env} {σ σ':aa cE}
def SX{a:Act}{w:World}{cnd:Operand}{b:Bool}(ha:tV C n E σ a w)(hc:E.ev cnd=V (.lit (.bool b))):a.eval cnd= .bool b:=by
 exact(ha.slots.ops _ _ hc).cH
def Good.drew{w:World}(h:Good C σ w):Good C σ w.drew:=
 ⟨h.kept.trans (Kp.drew w) (by simp),λr hr=>(h.res r hr).mono (λb _ hA=>⟨hA,rfl⟩) (λ_ _=>rfl),h.GI,h.own⟩
def tV.drew{a:Act}{w:World}(h:tV C n E σ a w):tV C n E σ a w.drew:=
 ⟨h.defers,h.size,λi u hi=>let ⟨v,h1,h2⟩:=h.slots i u hi;⟨v,h1,h2.mono λ_ _ hA=>⟨hA,rfl⟩⟩,h.good.drew⟩
def pz{σ σ':aa cE}(h:∀r∈σ',r∈σ):∀b∈bD σ',b∈bD σ:=λb hb=>by
 obtain⟨r,h1,h2⟩:=bT.1 hb;exact bT.2 ⟨r,h r h1,h2⟩
def tV.less{a:Act}{w:World}(h:tV C n E σ a w)(hs:List.Sublist σ' σ):tV C n E σ' a w:=by
 have hm:∀r∈σ',r∈σ:=λr hr=>hs.subset hr;have hal:∀b,al C σ b->al C σ' b:=λb hb=>⟨hb.1,λhx=>hb.2 (pz hm b hx)⟩;exact⟨h.defers.step (λb _ hA=>⟨hal b hA,rfl⟩),h.size,λi u hi=>let ⟨v,h1,h2⟩:=h.slots i u hi;⟨v,h1,h2.mono λb _ hA=>⟨hal b hA,rfl⟩⟩,
  ⟨h.good.kept,λr hr=>(h.good.res r (hm r hr)).mono (λb _ hA=>⟨hal b hA,rfl⟩) (λ_ _=>rfl),h.good.GI.sublist (hs.filterMap _),λb hb=>h.good.own b (pz hm b hb)⟩⟩
def tV.perm{a:Act}{w:World}(h:tV C n E σ a w)(hp:List.Perm σ σ'):tV C n E σ' a w:=by
 have hb:∀b,b∈bD σ'↔b∈bD σ:=λb=>(hp.filterMap _).symm.mem_iff;have hal:∀b,al C σ b->al C σ' b:=λb hA=>⟨hA.1,λhx=>hA.2 ((hb b).1 hx)⟩;exact⟨h.defers.step (λb _ hA=>⟨hal b hA,rfl⟩),h.size,λi u hi=>let ⟨v,h1,h2⟩:=h.slots i u hi;⟨v,h1,h2.mono λb _ hA=>⟨hal b hA,rfl⟩⟩,
  ⟨h.good.kept,λr hr=>(h.good.res r (hp.mem_iff.2 hr)).mono (λb _ hA=>⟨hal b hA,rfl⟩) (λ_ _=>rfl),(hp.filterMap _).nodup_iff.1 h.good.GI,λb hx=>h.good.own b ((hb b).1 hx)⟩⟩
end
end Go.Iv
end
noncomputable section
namespace Go.Iv
variable [U:qO]
open Go Go.RowKit
def sK(k:IntKind)(x y:Int):Int:=k.wrap ((BitVec.ofInt k.bits x&&&BitVec.ofInt k.bits y).toNat)
def bOr(k:IntKind)(x y:Int):Int:=k.wrap ((BitVec.ofInt k.bits x|||BitVec.ofInt k.bits y).toNat)
def aqh(k:IntKind)(x y:Int):Int:=k.wrap ((BitVec.ofInt k.bits x^^^BitVec.ofInt k.bits y).toNat)
def ar8(k:IntKind)(x y:Int):Int:=k.wrap ((BitVec.ofInt k.bits x&&& ~~~ BitVec.ofInt k.bits y).toNat)
def mh(k:IntKind)(x y:Int):Int:=k.wrap (x*2^(min y.toNat k.bits))
def cL(k:IntKind)(x y:Int):Int:=x.fdiv (2^(min y.toNat k.bits))
abbrev cc.i{dz:Nat->Type}(n:Int):cc dz:= .lit (.int .i64 n)
abbrev cc.n{dz:Nat->Type}(k:IntKind)(n:Int):cc dz:= .lit (.int k n)
abbrev cc.b{dz:Nat->Type}(b:Bool):cc dz:= .lit (.bool b)
abbrev cc.s{dz:Nat->Type}(s:ByteArray):cc dz:= .lit (.string s)
section
variable {A:Nat->Prop} {w:World} {as0 bs:aa AV} {us vs:aa Value} {a:AV} {v:Value}
def bN.nil:bN A w [] []:=⟨rfl,λj a v h=>by cases h⟩
def bN.cons(h:Rel A w a v)(hs:bN A w as0 us):bN A w (a::as0) (v::us):=by
 refine⟨by simp[hs.1],λj x y h1 h2=> ?_⟩;cases j with
 |zero=>simp at h1 h2;subst h1 h2;exact h
 |succ j=>exact hs.2 j x y (by simpa using h1) (by simpa using h2)
def bN.head(h:bN A w (a::as0) us):∃v us',us=v::us'/\Rel A w a v/\bN A w as0 us':=by
 match us,h with
 |[],h=>exact dD h.1 (by simp)
 |v::us',h=>exact⟨v,us',rfl,h.2 0 a v rfl rfl,by simpa using h.1,λj x y h1 h2=>h.2 (j+1) x y (by simpa using h1) (by simpa using h2)⟩
def bN.app(h:bN A w as0 us)(h':bN A w bs vs):bN A w (as0++bs) (us++vs):=by
 refine⟨by simp[h.1,h'.1],λj x y h1 h2=> ?_⟩;rw[xk]at h1 h2;rw[h.1]at h2;split at h1
 ·rw[bE (by assumption)]at h2;exact h.2 j x y h1 h2
 ·rw[bO (by assumption)]at h2;exact h'.2 _ x y h1 h2
def bN.take(n:Nat)(h:bN A w as0 us):bN A w (as0.take n) (us.take n):=by
 refine⟨by simp[h.1],λj x y h1 h2=> ?_⟩;rw[yF]at h1 h2;split at h1
 ·rw[bE (by assumption)]at h2;exact h.2 j x y h1 h2
 ·cases h1
def bN.drop(n:Nat)(h:bN A w as0 us):bN A w (as0.drop n) (us.drop n):=by
 refine⟨by simp[h.1],λj x y h1 h2=> ?_⟩;rw[yD]at h1 h2;exact h.2 _ x y h1 h2
def bN.get(h:bN A w as0 us){j:Nat}(hj:as0[j]? =V a):∃v,us[j]? =V v/\Rel A w a v:=by
 have hlt:j<us.length:=by rw[h.1];exact(z7.1 hj).1
 exact⟨us[j],zu hlt,h.2 j a _ hj (zu hlt)⟩
def bN.lits(us:aa Value):bN A w (us.map .lit) us:=⟨by simp,λj a v h1 h2=>by
 rw[yb,h2]at h1;cases h1;exact .lit v⟩
def Rel.oN{cs:aa AV}(h:bN A w cs us):Rel A w (.agg cs) (.agg us.toArray):= .agg cs us h.1 h.2
def Rel.Gw{cs:aa AV}(h:bN A w cs us):Rel A w (.iR cs) (.tuple us.toArray):= .iR cs us h.1 h.2
end
section
variable {A:Nat->Prop} {w:World} {v:Value} {cs:aa AV}
def Rel.oD(h:Rel A w (.agg cs) v):∃us:aa Value,v= .agg us.toArray/\bN A w cs us:=by
 generalize ha:cc.agg cs=a at h;cases h with
 |agg cs us hl hr=>cases ha;exact⟨us,rfl,hl,hr⟩
 |_=>cases ha
def Rel.Qe(h:Rel A w (.iR cs) v):∃us:aa Value,v= .tuple us.toArray/\bN A w cs us:=by
 generalize ha:cc.iR cs=a at h;cases h with
 |iR cs us hl hr=>cases ha;exact⟨us,rfl,hl,hr⟩
 |_=>cases ha
def Rel.YX{f:Fn}(h:Rel A w (.fn f cs) v):∃us:aa Value,v= .func f #[] us.toArray/\bN A w cs us:=by
 generalize ha:cc.fn f cs=a at h;cases h with
 |fn f cs us hl hr=>cases ha;exact⟨us,rfl,hl,hr⟩
 |_=>cases ha
def Rel.Fq(h:Rel A w (.fp cs) v):∃b o us,v= .pointer (V ⟨b,o,G⟩)/\b<w.heap.size/\A b/\(∀(j:Nat) u,us[j]? =V u->w.cell? ⟨b,o+j,G⟩=V u)/\bN A w cs us:=by
 generalize ha:cc.fp cs=a at h;cases h with
 |fp cs b o us hb hA hl hc hr=>cases ha;exact⟨b,o,us,rfl,hb,hA,hc,hl,hr⟩
 |_=>cases ha
def Rel.G8{u:Value}{k:Nat}(h:Rel A w (.rp u k) v):∃g,gB u=V g/\v= .pointer (V ⟨g,k,G⟩):=by
 generalize ha:cc.rp u k=a at h;cases h with
 |rp u k g h=>cases ha;exact⟨g,h,rfl⟩
 |_=>cases ha
def Rel.uV{q:Nat}{l:aa (U.dz q)}(h:Rel A w (.sl q l) v):∃p cap,∃u:Nat->Nat->Value,v= .slice p l.length cap/\l.length<=9223372036854775807/\l.length<=cap/\(∀i,i<l.length->(U.cells q l[i]!).length=(U.sz q))/\
  (∀i,i<l.length->∃b off,p=V ⟨b,off,G⟩/\b<w.heap.size/\A b/\∀j,j<(U.sz q)->w.cell? ⟨b,off+i*(U.sz q)+j,G⟩=V (u i j))/\∀i j a,i<l.length->(U.cells q l[i]!)[j]? =V a->Rel A w a (u i j):=by
 generalize ha:cc.sl q l=a at h;cases h with
 |sl q l p cap u hl hcap hz hc hr=>
  cases ha;exact⟨p,cap,u,rfl,hl,hcap,hz,hc,hr⟩
 |_=>cases ha
def Rel.aEH{q:Nat}{l:aa (U.dz q)}{p:af Addr}{n cap:Nat}(h:Rel A w (.sl q l) (.slice p n cap)){i:Nat}(hi:i<l.length):
  ∃b off us,p=V ⟨b,off,G⟩/\b<w.heap.size/\A b/\us.length=(U.sz q)/\(∀(j:Nat) u,us[j]? =V u->w.cell? ⟨b,off+i*(U.sz q)+j,G⟩=V u)/\bN A w (U.cells q l[i]!) us:=by
 obtain⟨p',cap',u,hv,_,_,h1,h2,h3⟩:=h.uV;cases hv;obtain⟨b,off,hp,hb,hA,hc⟩:=h2 i hi;refine⟨b,off,(zM (U.sz q)).map (u i),hp,hb,hA,by simp,λj v hj=> ?_,by rw[zx,xF,h1 i hi],λj a v ha hv=> ?_⟩
 ·rw[yb]at hj;by_cases hlt:j<(U.sz q)
  ·rw[List.getElem?_range hlt]at hj;cases hj;exact hc j hlt
  ·rw[x9 (by simpa using hlt)]at hj;cases hj
 ·have hlt:j<(U.sz q):=by rw[<-h1 i hi];exact(z7.1 ha).1
  rw[yb,List.getElem?_range hlt]at hv;cases hv;exact h3 i j a hi ha
end
def gD.len{w:World}{v:Value}{T:TypeId}{sz n:Nat}{us:aa Value}(h:gD w v T sz n us):∃p cap,v= .slice p n cap/\n<=cap:=by
 rcases h.2 with ⟨p,rfl,rfl⟩|⟨g,cap,cur,rfl,hg,h1,_⟩
 ·exact⟨p,0,rfl,zn _⟩
 ·exact⟨_,_,rfl,h1⟩
def gD.at{w:World}{v:Value}{T:TypeId}{sz n:Nat}{us:aa Value}(h:gD w v T sz n us)(hn:0<n):∃g cap cur,v= .slice (V ⟨g,0,G⟩) n (cap+1)/\gB v=V g/\Blk w g cur T/\n<=cap+1/\cap+1<=maxLen/\cur.size=(cap+1)*sz/\cur.toList.take (n*sz)=us:=by
 rcases h.2 with ⟨p,rfl,rfl⟩|⟨g,cap,cur,rfl,hg,h1⟩
 ·cases hn
 ·exact⟨g,cap,cur,rfl,rfl,hg,h1⟩
def gD.cells{w:World}{v:Value}{T:TypeId}{sz n:Nat}{us:aa Value}(h:gD w v T sz n us){g:Nat}(hg:gB v=V g):∀(j:Nat) u,us[j]? =V u->w.cell? ⟨g,j,G⟩=V u:=λj u hj=>by
 rcases h.2 with ⟨p,rfl,rfl⟩|⟨g',cap,cur,rfl,q1,_,_,_,q2⟩
 ·cases p<;>cases hg
 ·cases hg;rw[<-q2,yF]at hj;split at hj
  ·exact Blk.cell q1 (by simpa using hj)
  ·cases hj
def Env.ML(E:Env):aa Operand->af (aa AV)
 |[]=>V []
 |x::xs=>match E.ev x,Env.ML E xs with
  |some a,V as0=>V (a::as0)
  |_,_=>G
def Env.J1{A:Nat->Prop}{w:World}{E:Env}{ρ:Operand->Value}(h:OI A w E ρ):∀{xs:aa Operand} {as0:aa AV},E.ML xs=V as0->bN A w as0 (xs.map ρ)
 |[],as0,he=>by cases he;exact bN.nil
 |x::xs,as0,he=>by
  unfold Env.ML at he;cases h1:E.ev x with
  |none=>rw[h1]at he;cases he
  |some a=>
   cases h2:E.ML xs with
   |none=>rw[h1,h2]at he;cases he
   |some as'=>
    rw[h1,h2]at he;cases he;exact bN.cons (h x a h1) (Env.J1 h h2)
section
variable {P:Program} {E:Env} {σ:aa cE} {o:Oper} {T T' e:TypeId} {x y z:Operand} {av bv:AV} {v u:Value} {m n:Int} {b:Bool} {k:IntKind}
def Yp.lits(h:∀ρ:Operand->Value,(∀x u,E.ev x=V (.lit u)->ρ x=u)->∀w,(execOp ρ o).run P w= .ok (.value v) w):Yp P E σ o (.lit v):=λA w ρ _ hρ=>
 ⟨v, .lit v,λw' _=>h ρ (λx u hx=>(hρ x _ hx).cH) w'⟩
def Yp.move(ho:o.op= .move x)(hx:E.ev x=V av):Yp P E σ o av:=λA w ρ _ hρ=>
 ⟨ρ x,hρ _ _ hx,λw' _=>by simp[execOp,ho]⟩
def Yp.assign(ho:o.op= .assign x)(hx:E.ev x=V av):Yp P E σ o av:=λA w ρ _ hρ=>
 ⟨ρ x,hρ _ _ hx,λw' _=>by simp[execOp,ho]⟩
def Yp.aBp(ho:o.op= .pick z x y)(hc:E.ev z=V (.b O))(hx:E.ev x=V av):Yp P E σ o av:=λA w ρ _ hρ=>
 ⟨ρ x,hρ _ _ hx,λw' _=>by simp[execOp,ho,(hρ _ _ hc).cH,asBool]⟩
def Yp.auJ(ho:o.op= .pick z x y)(hc:E.ev z=V (.b S))(hx:E.ev y=V av):Yp P E σ o av:=λA w ρ _ hρ=>
 ⟨ρ y,hρ _ _ hx,λw' _=>by simp[execOp,ho,(hρ _ _ hc).cH,asBool]⟩
def Yp.add(ho:o.op= .binOp .add T x y T')(hx:E.ev x=V (.n k m))(hy:E.ev y=V (.n k n)):Yp P E σ o (.n k (k.wrap (m+n))):=Yp.lits λρ hρ w=>by
 simp[execOp,ho,hρ _ _ hx,hρ _ _ hy,eqGuard,binOp,Op.intArith]
def Yp.sub(ho:o.op= .binOp .sub T x y T')(hx:E.ev x=V (.n k m))(hy:E.ev y=V (.n k n)):Yp P E σ o (.n k (k.wrap (m-n))):=Yp.lits λρ hρ w=>by
 simp[execOp,ho,hρ _ _ hx,hρ _ _ hy,eqGuard,binOp,Op.intArith]
def Yp.mul(ho:o.op= .binOp .mul T x y T')(hx:E.ev x=V (.n k m))(hy:E.ev y=V (.n k n)):Yp P E σ o (.n k (k.wrap (m*n))):=Yp.lits λρ hρ w=>by
 simp[execOp,ho,hρ _ _ hx,hρ _ _ hy,eqGuard,binOp,Op.intArith]
def Yp.quo(ho:o.op= .binOp .quo T x y T')(hx:E.ev x=V (.n k m))(hy:E.ev y=V (.n k n))(h:n≠0):Yp P E σ o (.n k (k.wrap (m.tdiv n))):=Yp.lits λρ hρ w=>by
 simp[execOp,ho,hρ _ _ hx,hρ _ _ hy,eqGuard,binOp,Op.intDiv,h]
def Yp.rem(ho:o.op= .binOp .rem T x y T')(hx:E.ev x=V (.n k m))(hy:E.ev y=V (.n k n))(h:n≠0):Yp P E σ o (.n k (m.tmod n)):=Yp.lits λρ hρ w=>by
 simp[execOp,ho,hρ _ _ hx,hρ _ _ hy,eqGuard,binOp,Op.intDiv,h]
def Yp.and(ho:o.op= .binOp .and T x y T')(hx:E.ev x=V (.n k m))(hy:E.ev y=V (.n k n)):Yp P E σ o (.n k (sK k m n)):=Yp.lits λρ hρ w=>by
 simp[execOp,ho,hρ _ _ hx,hρ _ _ hy,eqGuard,binOp,Op.intBits,sK]
def Yp.or(ho:o.op= .binOp .or T x y T')(hx:E.ev x=V (.n k m))(hy:E.ev y=V (.n k n)):Yp P E σ o (.n k (bOr k m n)):=Yp.lits λρ hρ w=>by
 simp[execOp,ho,hρ _ _ hx,hρ _ _ hy,eqGuard,binOp,Op.intBits,bOr]
def Yp.xor(ho:o.op= .binOp .xor T x y T')(hx:E.ev x=V (.n k m))(hy:E.ev y=V (.n k n)):Yp P E σ o (.n k (aqh k m n)):=Yp.lits λρ hρ w=>by
 simp[execOp,ho,hρ _ _ hx,hρ _ _ hy,eqGuard,binOp,Op.intBits,aqh]
def Yp.andNot(ho:o.op= .binOp .andNot T x y T')(hx:E.ev x=V (.n k m))(hy:E.ev y=V (.n k n)):Yp P E σ o (.n k (ar8 k m n)):=Yp.lits λρ hρ w=>by
 simp[execOp,ho,hρ _ _ hx,hρ _ _ hy,eqGuard,binOp,Op.intBits,ar8]
def Yp.shl{k':IntKind}(ho:o.op= .binOp .shl T x y T')(hx:E.ev x=V (.n k m))(hy:E.ev y=V (.n k' n))(h:0<=n):Yp P E σ o (.n k (mh k m n)):=Yp.lits λρ hρ w=>by
 have:¬n<0:=by omega
 simp[execOp,ho,hρ _ _ hx,hρ _ _ hy,eqGuard,binOp,Op.shift,mh,this]
def Yp.shr{k':IntKind}(ho:o.op= .binOp .shr T x y T')(hx:E.ev x=V (.n k m))(hy:E.ev y=V (.n k' n))(h:0<=n):Yp P E σ o (.n k (cL k m n)):=Yp.lits λρ hρ w=>by
 have:¬n<0:=by omega
 simp[execOp,ho,hρ _ _ hx,hρ _ _ hy,eqGuard,binOp,Op.shift,cL,this]
def Yp.lss(ho:o.op= .binOp .lss T x y T')(hx:E.ev x=V (.n k m))(hy:E.ev y=V (.n k n)):Yp P E σ o (.b (J (m<n))):=Yp.lits λρ hρ w=>by
 simp[execOp,ho,hρ _ _ hx,hρ _ _ hy,eqGuard,binOp,Op.intCmp]
def Yp.leq(ho:o.op= .binOp .leq T x y T')(hx:E.ev x=V (.n k m))(hy:E.ev y=V (.n k n)):Yp P E σ o (.b (J (m<=n))):=Yp.lits λρ hρ w=>by
 simp[execOp,ho,hρ _ _ hx,hρ _ _ hy,eqGuard,binOp,Op.intCmp]
def Yp.gtr(ho:o.op= .binOp .gtr T x y T')(hx:E.ev x=V (.n k m))(hy:E.ev y=V (.n k n)):Yp P E σ o (.b (J (n<m))):=Yp.lits λρ hρ w=>by
 simp[execOp,ho,hρ _ _ hx,hρ _ _ hy,eqGuard,binOp,Op.intCmp]
def Yp.geq(ho:o.op= .binOp .geq T x y T')(hx:E.ev x=V (.n k m))(hy:E.ev y=V (.n k n)):Yp P E σ o (.b (J (n<=m))):=Yp.lits λρ hρ w=>by
 simp[execOp,ho,hρ _ _ hx,hρ _ _ hy,eqGuard,binOp,Op.intCmp]
def Yp.eql(ho:o.op= .binOp .eql T x y T')(hx:E.ev x=V (.n k m))(hy:E.ev y=V (.n k n)):Yp P E σ o (.b (J (m=n))):=Yp.lits λρ hρ w=>by
 have:(m==n)=J (m=n):=rfl;simp[execOp,ho,hρ _ _ hx,hρ _ _ hy,eqGuard,binOp,Op.intCmp,this]
def Yp.neq(ho:o.op= .binOp .neq T x y T')(hx:E.ev x=V (.n k m))(hy:E.ev y=V (.n k n)):Yp P E σ o (.b (!J (m=n))):=Yp.lits λρ hρ w=>by
 have:(m !=n)= !J (m=n):=rfl;simp[execOp,ho,hρ _ _ hx,hρ _ _ hy,eqGuard,binOp,Op.intCmp,this]
def Yp.not(ho:o.op= .unOp .not T x)(hx:E.ev x=V (.b b)):Yp P E σ o (.b (!b)):=Yp.lits λρ hρ w=>by
 simp[execOp,ho,hρ _ _ hx,Op.unary]
def Yp.neg(ho:o.op= .unOp .neg T x)(hx:E.ev x=V (.n k n)):Yp P E σ o (.n k (k.wrap (0-n))):=Yp.lits λρ hρ w=>by
 simp[execOp,ho,hρ _ _ hx,Op.unary,Op.intArith]
def Yp.max(ho:o.op= .call {callee:= .builtin .max,args:=#[x,y],argTypes:=#[T,T']})(hx:E.ev x=V (.n k m))(hy:E.ev y=V (.n k n)):Yp P E σ o (.n k (if m<n then n else m)):=Yp.lits λρ hρ w=>by
 simp[execOp,ho,resolve,invoke,builtin,Builtin.max_,Builtin.max2,hρ _ _ hx,hρ _ _ hy]
def Yp.min(ho:o.op= .call {callee:= .builtin .min,args:=#[x,y],argTypes:=#[T,T']})(hx:E.ev x=V (.n k m))(hy:E.ev y=V (.n k n)):Yp P E σ o (.n k (if n<m then n else m)):=Yp.lits λρ hρ w=>by
 simp[execOp,ho,resolve,invoke,builtin,Builtin.min_,Builtin.min2,hρ _ _ hx,hρ _ _ hy]
def Yp.ap8(ho:o.op= .call {callee:= .builtin .len,args:=#[x],argTypes:=#[T]})(hx:E.ev x=V (.lit (.slice G 0 0)))(hT:P.underlying T=V (.slice e)):Yp P E σ o (.i 0):=Yp.lits λρ hρ w=>by
 simp[execOp,ho,resolve,invoke,builtin,Builtin.len_,hρ _ _ hx,run_underlying hT,goInt]
def Yp.aye{q:Nat}{l:aa (U.dz q)}(ho:o.op= .call {callee:= .builtin .len,args:=#[x],argTypes:=#[T]})(hx:E.ev x=V (.sl q l))(hT:P.underlying T=V (.slice e)):Yp P E σ o (.i (l.length:Int)):=λA w ρ _ hρ=>by
 obtain⟨p,cap,u,hv,_⟩:=(hρ _ _ hx).uV;exact⟨_, .lit _,λw' _=>by simp[execOp,ho,resolve,invoke,builtin,Builtin.len_,hv,run_underlying hT,goInt]⟩
def Yp.aoi{q:Nat}{l:aa (U.dz q)}(i:Nat)(ho:o.op= .call {callee:= .builtin .len,args:=#[x],argTypes:=#[T]})(hx:E.ev x=V (.lit v))(hσ:σ[i]? =V (.row v q l))(hT:P.underlying T=V (.slice e)):Yp P E σ o (.i (l.length:Int)):=λA w ρ hd hρ=>by
 obtain⟨us,h1,_⟩:=hd.1 _ (List.mem_of_getElem? hσ);obtain⟨p,cap,hv,_⟩:=h1.len;have hx':=(hρ _ _ hx).cH;exact⟨_, .lit _,λw' _=>by simp[execOp,ho,resolve,invoke,builtin,Builtin.len_,hx',hv,run_underlying hT,goInt]⟩
def Yp.aoY{s:ByteArray}(ho:o.op= .call {callee:= .builtin .len,args:=#[x],argTypes:=#[T]})(hx:E.ev x=V (.s s))(hT:P.underlying T=V .string):Yp P E σ o (.i (s.size:Int)):=Yp.lits λρ hρ w=>by
 simp[execOp,ho,resolve,invoke,builtin,Builtin.len_,hρ _ _ hx,goInt,run_underlying hT]
def Yp.func{fn:Fn}{fs cs:Array Operand}{as0:aa AV}(ho:o.op= .makeFunc fn fs cs)(h0:fs=#[])(hc:E.ML cs.toList=V as0):Yp P E σ o (.fn fn as0):=λA w ρ _ hρ=>by
 have h:=Env.J1 hρ hc;exact⟨_, .fn fn as0 _ h.1 h.2,λw' _=>by
  have:cs.map ρ=(cs.toList.map ρ).toArray:=by apply Array.ext';simp
  simp[execOp,ho,Instr.makeFunc,h0,this]⟩
def Yp.extract{i:Nat}{cs:aa AV}(ho:o.op= .extract x i)(hx:E.ev x=V (.iR cs))(hv:cs[i]? =V av):Yp P E σ o av:=λA w ρ _ hρ=>by
 obtain⟨us,h1,h2⟩:=(hρ _ _ hx).Qe;obtain⟨v,h3,h4⟩:=h2.get hv;exact⟨v,h4,λw' _=>by simp[execOp,ho,Instr.extract,h1,h3]⟩
def Yp.VV{a:Addr}(ho:o.op= .nilCheck x)(hx:E.ev x=V (.lit (.pointer (V a)))):Yp P E σ o (.lit (.pointer (V a))):=Yp.lits λρ hρ w=>by
 simp[execOp,ho,hρ _ _ hx]
def Yp.Wj{cs:aa AV}(ho:o.op= .nilCheck x)(hx:E.ev x=V (.fp cs)):Yp P E σ o (.fp cs):=λA w ρ _ hρ=>by
 obtain⟨b,of,us,h1,_⟩:=(hρ _ _ hx).Fq;exact⟨ρ x,hρ _ _ hx,λw' _=>by simp[execOp,ho,h1]⟩
def Yp.Vk{k:Nat}(ho:o.op= .nilCheck x)(hx:E.ev x=V (.rp v k)):Yp P E σ o (.rp v k):=λA w ρ _ hρ=>by
 obtain⟨g,_,h1⟩:=(hρ _ _ hx).G8;exact⟨ρ x,hρ _ _ hx,λw' _=>by simp[execOp,ho,h1]⟩
def qk(b of k:Nat):(⟨b,of,G⟩:Addr).add k=⟨b,of+k,G⟩:=by unfold Addr.add;split<;>simp_all
def Yp.atg{fs:Array Field}{f:Field}{i b' of sz:Nat}(ho:o.op= .fieldAddr T x i)(hx:E.ev x=V (.lit (.pointer (V ⟨b',of,G⟩))))(hT:P.underlying T=V (.struct fs))(hf:fs[i]? =V f)(hs:(P.info? f.type).map (·.size)=V (sz+1)):
  Yp P E σ o (.lit (.pointer (V ⟨b',of+f.offset,G⟩))):=Yp.lits λρ hρ w=>by
 obtain⟨j,hj,hj'⟩:=zk.1 hs;simp[execOp,ho,Instr.fieldAt,hρ _ _ hx,run_underlying hT,hf,Instr.sureAddr,fieldPlace,sizeOf,typeInfo,hj,hj',qk]
def Yp.ap0{fs:Array Field}{f:Field}{i sz:Nat}{cs:aa AV}(ho:o.op= .fieldAddr T x i)(hx:E.ev x=V (.fp cs))(hT:P.underlying T=V (.struct fs))(hf:fs[i]? =V f)(hs:(P.info? f.type).map (·.size)=V (sz+1)):
  Yp P E σ o (.fp (cs.drop f.offset)):=λA w ρ _ hρ=>by
 obtain⟨j,hj,hj'⟩:=zk.1 hs;obtain⟨b,of,us,h1,hb,hA,hc,hr⟩:=(hρ _ _ hx).Fq;refine⟨_, .fp _ b (of+f.offset) (us.drop f.offset) hb hA (hr.drop _).1 (λj v hj=> ?_) (hr.drop _).2,λw' _=>by simp[execOp,ho,Instr.fieldAt,h1,run_underlying hT,hf,Instr.sureAddr,fieldPlace,sizeOf,typeInfo,hj,hj',qk]⟩;rw[yD]at hj;rw[xG];exact hc _ v hj
def Yp.anK{fs:Array Field}{f:Field}{i sz k:Nat}(ho:o.op= .fieldAddr T x i)(hx:E.ev x=V (.rp v k))(hT:P.underlying T=V (.struct fs))(hf:fs[i]? =V f)(hs:(P.info? f.type).map (·.size)=V (sz+1)):
  Yp P E σ o (.rp v (k+f.offset)):=λA w ρ _ hρ=>by
 obtain⟨j,hj,hj'⟩:=zk.1 hs;obtain⟨g,h1,h2⟩:=(hρ _ _ hx).G8;exact⟨_, .rp v _ g h1,λw' _=>by simp[execOp,ho,Instr.fieldAt,h2,run_underlying hT,hf,Instr.sureAddr,fieldPlace,sizeOf,typeInfo,hj,hj',qk]⟩
def Yp.aiJ{q:Nat}{l:aa (U.dz q)}(ho:o.op= .indexAddr T x y)(hx:E.ev x=V (.sl q l))(hy:E.ev y=V (.n k m))(hT:P.underlying T=V (.slice e))(hs:(P.info? e).map (·.size)=V (U.sz q))
  (hm:0<=m/\m<l.length):Yp P E σ o (.fp (U.cells q l[m.toNat]!)):=λA w ρ _ hρ=>by
 obtain⟨j,hj,hj'⟩:=zk.1 hs;have hr:=hρ _ _ hx;obtain⟨p,cap,_,hv,_⟩:=hr.uV;rw[hv]at hr;obtain⟨b,off,us,hp,hb,hA,hl,hc,hL⟩:=hr.aEH (i:=m.toNat) (by omega);refine⟨_, .fp _ b (off+m.toNat*(U.sz q)) us hb hA hL.1 hc hL.2,λw' _=> ?_⟩;have hy':=(hρ _ _ hy).cH;simp[execOp,ho,Instr.indexAt,hv,hp,hy',run_underlying hT,sizeOf,typeInfo,hj,hj',qk,asIntOf,hm]
def Yp.Yn{q:Nat}{l:aa (U.dz q)}(i:Nat)(ho:o.op= .indexAddr T x y)(hx:E.ev x=V (.lit v))(hσ:σ[i]? =V (.row v q l))(hy:E.ev y=V (.n k m))(hT:P.underlying T=V (.slice e))(hs:(P.info? e).map (·.size)=V (U.sz q))
  (hm:0<=m/\m<l.length):Yp P E σ o (.rp v (m.toNat*(U.sz q))):=λA w ρ hd hρ=>by
 obtain⟨j,hj,hj'⟩:=zk.1 hs;obtain⟨us,h1,_⟩:=hd.1 _ (List.mem_of_getElem? hσ);obtain⟨g,cap,cur,hv,hg,_⟩:=h1.at (by omega);have hx':=(hρ _ _ hx).cH;have hy':=(hρ _ _ hy).cH;refine⟨_, .rp v _ g hg,λw' _=> ?_⟩;simp[execOp,ho,Instr.indexAt,hx',hv,hy',run_underlying hT,sizeOf,typeInfo,hj,hj',qk,asIntOf,hm]
def Yp.anI{b' of sz n':Nat}(ho:o.op= .indexAddr T x y)(hx:E.ev x=V (.lit (.pointer (V ⟨b',of,G⟩))))(hy:E.ev y=V (.n k m))(hT:P.underlying T=V (.array n' e))(hs:(P.info? e).map (·.size)=V sz)
  (hm:0<=m/\m<n'):Yp P E σ o (.lit (.pointer (V ⟨b',of+m.toNat*sz,G⟩))):=Yp.lits λρ hρ w=>by
 obtain⟨j,hj,hj'⟩:=zk.1 hs;simp[execOp,ho,Instr.indexAt,hρ _ _ hx,hρ _ _ hy,run_underlying hT,sizeOf,typeInfo,hj,hj',qk,asIntOf,hm,Instr.sureAddr]
def Yp.asH{k' sz n':Nat}(ho:o.op= .indexAddr T x y)(hx:E.ev x=V (.rp v k'))(hy:E.ev y=V (.n k m))(hT:P.underlying T=V (.array n' e))(hs:(P.info? e).map (·.size)=V sz)
  (hm:0<=m/\m<n'):Yp P E σ o (.rp v (k'+m.toNat*sz)):=λA w ρ _ hρ=>by
 obtain⟨j,hj,hj'⟩:=zk.1 hs;obtain⟨g,h1,h2⟩:=(hρ _ _ hx).G8;have hy':=(hρ _ _ hy).cH;exact⟨_, .rp v _ g h1,λw' _=>by simp[execOp,ho,Instr.indexAt,h2,hy',run_underlying hT,sizeOf,typeInfo,hj,hj',qk,asIntOf,hm,Instr.sureAddr]⟩
def Yp.aoP{sz n':Nat}{cs:aa AV}(ho:o.op= .indexAddr T x y)(hx:E.ev x=V (.fp cs))(hy:E.ev y=V (.n k m))(hT:P.underlying T=V (.array n' e))(hs:(P.info? e).map (·.size)=V sz)
  (hm:0<=m/\m<n'):Yp P E σ o (.fp (cs.drop (m.toNat*sz))):=λA w ρ _ hρ=>by
 obtain⟨j,hj,hj'⟩:=zk.1 hs;obtain⟨b,of,us,h1,hb,hA,hc,hr⟩:=(hρ _ _ hx).Fq;have hy':=(hρ _ _ hy).cH;refine⟨_, .fp _ b (of+m.toNat*sz) (us.drop (m.toNat*sz)) hb hA (hr.drop _).1 (λj v hj=> ?_) (hr.drop _).2,λw' _=>by simp[execOp,ho,Instr.indexAt,h1,hy',run_underlying hT,sizeOf,typeInfo,hj,hj',qk,asIntOf,hm,Instr.sureAddr]⟩;rw[yD]at hj;rw[xG];exact hc _ v hj
def sC(P:Program)(T:TypeId):Prop:=∃d,P.underlying T=V d/\match d with| .struct _| .array _ _=>False|_=>True
def mw(h:sC P T)(w:World):(isAgg T).run P w= .ok S w:=by
 obtain⟨d,hd,hm⟩:=h;unfold isAgg;cases d<;>first|exact hm.elim|simp[run_underlying hd]
def iG{w:World}{a:Addr}(h:sC P T)(hc:w.cell? a=V v):(loadVar T a).run P w= .ok v w:=by
 unfold loadVar;simp[mw h,load,Sem.run,hc]
def sZ(P:Program)(T:TypeId)(k:Nat):Prop:=(∃d,P.underlying T=V d/\match d with| .struct _| .array _ _=>True|_=>False)/\(P.info? T).map (·.size)=V k
def FR{k:Nat}(h:sZ P T k)(w:World):(isAgg T).run P w= .ok O w:=by
 obtain⟨⟨d,hd,hm⟩,_⟩:=h;unfold isAgg;cases d<;>first|exact hm.elim|simp[run_underlying hd]
def run_loadCellsFrom{w:World}(a:Addr):∀(cs:aa Value) (i:Nat) (acc:Array Value),(∀j u,cs[j]? =V u->w.cell? (a.add (i+j))=V u)->(loadCellsFrom a i cs.length acc).run P w= .ok (acc++cs.toArray) w
 |[],i,acc,_=>by simp[loadCellsFrom]
 |c::cs,i,acc,h=>by
  have h0:=h 0 c rfl;rw[yt]at h0;simp only[yN,loadCellsFrom];have ih:=run_loadCellsFrom a cs (i+1) (acc.push c) λj u hj=>by
   have:=h (j+1) u (by simpa using hj)
   rwa [show i+(j+1)=i+1+j from by omega]at this
  simp[load,Sem.run,h0,ih]
def gZ{w:World}{a:Addr}{cs:aa Value}(h:sZ P T cs.length)(hc:∀j u,cs[j]? =V u->w.cell? (a.add j)=V u):(loadVar T a).run P w= .ok (.agg cs.toArray) w:=by
 obtain⟨i,hi,hi'⟩:=zk.1 h.2;have:=run_loadCellsFrom (P:=P) (w:=w) a cs 0 #[] (by simpa using hc);unfold loadVar;simp[FR h,sizeOf,typeInfo,hi,hi',loadCells,this]
def kQ{w w':World}{b o:Nat}(h:w'.heap[b]? =w.heap[b]?):w'.cell? ⟨b,o,G⟩=w.cell? ⟨b,o,G⟩:=by simp[World.cell?,h]
def Yp.apd{cs:aa AV}(ho:o.op= .load T x)(hx:E.ev x=V (.fp cs))(hT:sC P T)(ha:cs[0]? =V av):Yp P E σ o av:=λA w ρ _ hρ=>by
 obtain⟨b,of,us,h1,hb,hA,hc,hr⟩:=(hρ _ _ hx).Fq;obtain⟨v,h2,h3⟩:=hr.get ha;refine⟨v,h3,λw' hw=> ?_⟩;have hcell:w'.cell? ⟨b,of,G⟩=V v:=by rw[kQ (hw b hb (.inl hA))];exact hc 0 v h2
 simp[execOp,ho,Instr.loadAt,h1,Instr.sureAddr,iG hT hcell]
def Yp.as1{cs:aa AV}{n:Nat}(ho:o.op= .load T x)(hx:E.ev x=V (.fp cs))(hT:sZ P T n)(hn:n<=cs.length):Yp P E σ o (.agg (cs.take n)):=λA w ρ _ hρ=>by
 obtain⟨b,of,us,h1,hb,hA,hc,hr⟩:=(hρ _ _ hx).Fq;refine⟨_,Rel.oN (hr.take n),λw' hw=> ?_⟩;have hcell:∀j u,(us.take n)[j]? =V u->w'.cell? ((⟨b,of,G⟩:Addr).add j)=V u:=λj u hj=>by
  rw[qk,kQ (hw b hb (.inl hA))];rw[yF]at hj;split at hj
  ·exact hc j u hj
  ·cases hj
 have hl:(us.take n).length=n:=by rw[zH,hr.1];omega
 simp[execOp,ho,Instr.loadAt,h1,Instr.sureAddr,gZ (by rw[hl];exact hT) hcell]
def Yp.apH{b' of:Nat}{cs:aa AV}{t:TypeId}(i:Nat)(ho:o.op= .load T x)(hx:E.ev x=V (.lit (.pointer (V ⟨b',of,G⟩))))(hσ:σ[i]? =V (.box b' t cs))(hT:sC P T)(ha:cs[of]? =V av):Yp P E σ o av:=λA w ρ hd hρ=>by
 have hm:=List.mem_of_getElem? hσ;obtain⟨us,h1,hr⟩:=hd.1 _ hm;obtain⟨v,h2,h3⟩:=bN.get hr ha;have hx':=(hρ _ _ hx).cH;refine⟨v,h3,λw' hw=> ?_⟩;have hcell:w'.cell? ⟨b',of,G⟩=V v:=by rw[kQ (hw b' h1.lt (.inr (bT.2 ⟨_,hm,rfl⟩)))];exact h1.cell (by simpa using h2)
 simp[execOp,ho,Instr.loadAt,hx',Instr.sureAddr,iG hT hcell]
def Yp.ao8{b' of n:Nat}{cs:aa AV}{t:TypeId}(i:Nat)(ho:o.op= .load T x)(hx:E.ev x=V (.lit (.pointer (V ⟨b',of,G⟩))))(hσ:σ[i]? =V (.box b' t cs))(hT:sZ P T n)(hn:of+n<=cs.length):Yp P E σ o (.agg ((cs.drop of).take n)):=λA w ρ hd hρ=>by
 have hm:=List.mem_of_getElem? hσ;obtain⟨us,h1,hr⟩:=hd.1 _ hm;have hx':=(hρ _ _ hx).cH;refine⟨_,Rel.oN ((bN.drop of hr).take n),λw' hw=> ?_⟩;have hcell:∀j u,((us.drop of).take n)[j]? =V u->w'.cell? ((⟨b',of,G⟩:Addr).add j)=V u:=λj u hj=>by
  rw[qk,kQ (hw b' h1.lt (.inr (bT.2 ⟨_,hm,rfl⟩)))];rw[yF]at hj;split at hj
  ·rw[yD]at hj;exact h1.cell (by simpa using hj)
  ·cases hj
 have hl:((us.drop of).take n).length=n:=by rw[zH,ym,hr.1];omega
 simp[execOp,ho,Instr.loadAt,hx',Instr.sureAddr,gZ (by rw[hl];exact hT) hcell]
def Yp.abd{k of:Nat}{q:Nat}{l:aa (U.dz q)}(i m:Nat)(ho:o.op= .load T x)(hx:E.ev x=V (.rp v k))(hσ:σ[i]? =V (.row v q l))(hT:sC P T)(hk:k=m*(U.sz q)+of)(hm:m<l.length)(ha:(U.cells q l[m]!)[of]? =V av):Yp P E σ o av:=λA w ρ hd hρ=>by
 have hmem:=List.mem_of_getElem? hσ;obtain⟨us,h1,h2,h3⟩:=hd.1 _ hmem;obtain⟨g,hg,hv⟩:=(hρ _ _ hx).G8;obtain⟨u,h4,h5⟩:=(h3 m hm).get ha;refine⟨u,h5,λw' hw=> ?_⟩;rw[yF]at h4;split at h4
 ·rw[yD]at h4;have hcell:w'.cell? ⟨g,k,G⟩=V u:=by rw[kQ (hw g (h1.lt hg) (.inr (bT.2 ⟨_,hmem,hg⟩))),hk];exact h1.cells hg _ u h4
  simp[execOp,ho,Instr.loadAt,hv,Instr.sureAddr,iG hT hcell]
 ·cases h4
def Yp.ap6{k of n:Nat}{q:Nat}{l:aa (U.dz q)}(i m:Nat)(ho:o.op= .load T x)(hx:E.ev x=V (.rp v k))(hσ:σ[i]? =V (.row v q l))(hT:sZ P T n)(hk:k=m*(U.sz q)+of)(hm:m<l.length)(hn:of+n<=(U.sz q)):Yp P E σ o (.agg (((U.cells q l[m]!).drop of).take n)):=λA w ρ hd hρ=>by
 have hmem:=List.mem_of_getElem? hσ;obtain⟨us,h1,h2,h3⟩:=hd.1 _ hmem;obtain⟨g,hg,hv⟩:=(hρ _ _ hx).G8;have hL:=h3 m hm;refine⟨_,Rel.oN ((hL.drop of).take n),λw' hw=> ?_⟩;have hcell:∀j u,((((us.drop (m*(U.sz q))).take (U.sz q)).drop of).take n)[j]? =V u->w'.cell? ((⟨g,k,G⟩:Addr).add j)=V u:=λj u hj=>by
  rw[qk,kQ (hw g (h1.lt hg) (.inr (bT.2 ⟨_,hmem,hg⟩))),hk];rw[yF]at hj;split at hj
  ·rw[yD,yF]at hj;split at hj
   ·rw[yD]at hj;exact h1.cells hg _ u (by rw[xG];exact hj)
   ·cases hj
  ·cases hj
 have hl:((((us.drop (m*(U.sz q))).take (U.sz q)).drop of).take n).length=n:=by rw[zH,ym,hL.1,h2 m hm];omega
 simp[execOp,ho,Instr.loadAt,hv,Instr.sureAddr,gZ (by rw[hl];exact hT) hcell]
end
def fC(r:cE)(σ:aa cE):bD (r::σ)=r.blk.toList++bD σ:=by
 unfold bD;rw[y6];cases r.blk<;>simp
def gU(σ τ:aa cE):bD (σ++τ)=bD σ++bD τ:=by simp[bD]
def p9{C:Cx}{σ:aa cE}{w w':World}{r:cE}(h:Good C σ w)(hk:Kp [] w w')(hr:r.blk=G\/r.blk=V w.heap.size)(hok:r.ok (al C (r::σ)) w'):Tr C [] σ w (r::σ) w':=by
 have hlt:∀b∈bD σ,b<w.heap.size:=λb hb=>by
  obtain⟨s,h1,h2⟩:=bT.1 hb;exact(h.res s h1).lt h2
 have hal:∀b,b<w.heap.size->al C σ b->al C (r::σ) b:=λb hb hA=>⟨hA.1,λhx=>by
  rw[fC]at hx;rcases zW.1 hx with hx|hx
  ·rcases hr with hr|hr<;>rw[hr]at hx<;>simp at hx;omega
  ·exact hA.2 hx⟩
 have hsame:∀b,b<w.heap.size->w'.heap[b]? =w.heap[b]? :=λb hb=>hk.block b hb (by simp);refine⟨⟨h.kept.trans hk (by simp),λs hs=> ?_,?_,λb hb=> ?_⟩,hk,λb hb hA=>⟨hal b hb hA,by simp⟩⟩
 ·rcases zD.1 hs with rfl|hs
  ·exact hok
  ·exact(h.res s hs).mono (λb hb hA=>⟨hal b hb hA,hsame b hb⟩) (λb hb=>hsame b ((h.res s hs).lt hb))
 ·rw[fC];rcases hr with hr|hr
  ·rw[hr];simpa using h.GI
  ·rw[hr];simp only[xL,xo,yw,List.nodup_cons];exact⟨λhx=>by have:=hlt _ hx;omega,h.GI⟩
 ·rw[fC]at hb;rcases zW.1 hb with hx|hx
  ·rcases hr with hr|hr<;>rw[hr]at hx<;>simp at hx;exact .inr (by rw[hx];exact h.kept.size)
  ·exact h.own b hx
def vS{σ:aa cE}{i:Nat}{r r':cE}(h:σ[i]? =V r):σ=σ.take i++r::σ.drop (i+1)/\σ.set i r'=σ.take i++r'::σ.drop (i+1):=by
 obtain⟨hi,hr⟩:=z7.1 h;refine⟨?_,wC .. |>.trans (by rw[bE hi])⟩;rw[<-hr,<-xu hi,xw]
def Ez{σ:aa cE}{i:Nat}{r r':cE}(h:σ[i]? =V r)(hb:r'.blk=r.blk):bD (σ.set i r')=bD σ:=by
 obtain⟨q1,q2⟩:=vS (r':=r') h;have e:bD σ=bD (σ.take i++r::σ.drop (i+1)):=congrArg bD q1;rw[q2,e];simp[gU,fC,hb]
def EZ{C:Cx}{σ:aa cE}{w w':World}{r r':cE}{i:Nat}(h:Good C σ w)(hi:σ[i]? =V r)(hk:Kp r.blk.toList w w')(hr:r'.blk=r.blk\/r'.blk=V w.heap.size)(hok:r'.ok (al C (σ.set i r')) w'):Tr C r.blk.toList σ w (σ.set i r') w':=by
 obtain⟨h1,h2⟩:=vS (r':=r') hi;generalize σ.take i=σ1 at h1 h2;generalize σ.drop (i+1)=σ2 at h1 h2;rw[h2]at hok ⊢;clear h2 hi;subst h1;have hlt:∀b∈bD (σ1++r::σ2),b<w.heap.size:=λb hb=>by
  obtain⟨s,h1,h2⟩:=bT.1 hb;exact(h.res s h1).lt h2
 have hb0:bD (σ1++r::σ2)=bD σ1++(r.blk.toList++bD σ2):=by rw[gU,fC]
 have hb1:bD (σ1++r'::σ2)=bD σ1++(r'.blk.toList++bD σ2):=by rw[gU,fC]
 have hmem:∀b,b∈bD (σ1++r'::σ2)->b∈bD (σ1++r::σ2)\/b=w.heap.size:=λb hb=>by
  rw[hb1]at hb;rw[hb0];simp only[zW]at hb ⊢;rcases hb with hb|hb|hb
  ·exact .inl (.inl hb)
  ·rcases hr with hr|hr<;>rw[hr]at hb
   ·exact .inl (.inr (.inl hb))
   ·simp at hb;exact .inr hb
  ·exact .inl (.inr (.inr hb))
 have hal:∀b,b<w.heap.size->al C (σ1++r::σ2) b->al C (σ1++r'::σ2) b:=λb hb hA=>⟨hA.1,λhx=>by
  rcases hmem b hx with h|h
  ·exact hA.2 h
  ·omega⟩
 have hnr:∀b,al C (σ1++r::σ2) b->b∉r.blk.toList:=λb hA hx=>hA.2 (by rw[hb0];simp[zW,hx]);have hother:∀s,s∈σ1\/s∈σ2->∀b,s.blk=V b->b∉r.blk.toList:=λs hs b hb hx=>by
  have hd:=h.GI;rw[hb0]at hd;rcases hs with hs|hs
  ·exact(yI.1 hd).2.2 b (bT.2 ⟨s,hs,hb⟩) b (yJ _ hx) rfl
  ·exact(yI.1 (yI.1 hd).2.1).2.2 b hx b (bT.2 ⟨s,hs,hb⟩) rfl
 refine⟨⟨h.kept.trans hk (λb hb hlt0=> ?_),λs hs=> ?_,?_,λb hb=> ?_⟩,hk,λb hb hA=>⟨hal b hb hA,hnr b hA⟩⟩
 ·have:b∈bD (σ1++r::σ2):=by rw[hb0];simp[zW,hb]
  rcases h.own b this with h|h
  ·exact h
  ·omega
 ·have hs':s=r'\/s∈σ1\/s∈σ2:=by
   simp only[zW,zD]at hs;rcases hs with h|h|h
   ·exact .inr (.inl h)
   ·exact .inl h
   ·exact .inr (.inr h)
  rcases hs' with rfl|hs'
  ·exact hok
  ·have hm:s∈σ1++r::σ2:=by rcases hs' with h|h<;>simp[h]
   exact(h.res s hm).mono (λb hb hA=>⟨hal b hb hA,hk.block b hb (hnr b hA)⟩) (λb hb=>hk.block b ((h.res s hm).lt hb) (hother s hs' b hb))
 ·have hd:=h.GI;rcases hr with hr|hr
  ·rw[hb1,hr,<-hb0];exact hd
  ·rw[hb1,hr];rw[hb0]at hd;have hn1:w.heap.size∉bD σ1:=λhx=>by have:=hlt w.heap.size (by rw[hb0];simp[zW,hx]);omega
   have hn2:w.heap.size∉bD σ2:=λhx=>by have:=hlt w.heap.size (by rw[hb0];simp[zW,hx]);omega
   obtain⟨d1,d2,d3⟩:=yI.1 hd;obtain⟨d4,d5,d6⟩:=yI.1 d2;refine yI.2 ⟨d1,?_,λa ha b hb hab=> ?_⟩
   ·simp only[xL,xo,yw,List.nodup_cons];exact⟨hn2,d5⟩
   ·subst hab;simp only[xL,xo,yw,zD]at hb;rcases hb with rfl|hb
    ·exact hn1 ha
    ·exact d3 a ha a (yK _ hb) rfl
 ·rcases hmem b hb with h1|h1
  ·exact h.own b h1
  ·exact .inr (by rw[h1];exact h.kept.size)
def aoa{C:Cx}{σ:aa cE}{w:World}{r:cE}(h:r.blk=G\/r.blk=V w.heap.size):∀b,b<w.heap.size->al C σ b->al C (r::σ) b:=λb hb hA=>⟨hA.1,λhx=>by
 rw[fC]at hx;rcases zW.1 hx with hx|hx
 ·rcases h with h|h<;>rw[h]at hx<;>simp at hx;omega
 ·exact hA.2 hx⟩
def jW(w:World)(x:Obj):Kp [] w (w.alloc x):=⟨rfl,rfl,rfl,zn _,by simp,λk hk _=>heap_alloc_old w x hk⟩
def HD(w:World)(x:Obj):Kp [] w (w.drew.alloc x):=⟨rfl,rfl,rfl,yc _,by simp,λk hk _=>heap_alloc_old w.drew x hk⟩
def Mv{C:Cx}{σ:aa cE}{w w':World}{r:cE}{as0:aa AV}{us:aa Value}(hr:bN (al C σ) w as0 us)(h:r.blk=G\/r.blk=V w.heap.size)(hk:Kp [] w w'):bN (al C (r::σ)) w' as0 us:=
 hr.mono λb hb hA=>⟨aoa h b hb hA,hk.block b hb (by simp)⟩
def dW:AV->aa AV
 | .agg cs=>cs
 |a=>[a]
def iC:AV->Bool
 | .lit v=>v.oneCell'
 | .iR _=>S
 | .agg _=>S
 |_=>O
def Fo:AV->Bool
 | .agg cs=>cs.all iC
 |a=>iC a
def sq{v:Value}(h:v.oneCell'=true):v.cells=#[v]:=by cases v<;>first|rfl|cases h
def Rel.one{A:Nat->Prop}{w:World}{a:AV}{v:Value}(h:Rel A w a v)(h1:iC a=O):v.oneCell'=O:=by
 cases h with
 |lit v=>exact h1
 |agg=>cases h1
 |iR=>cases h1
 |_=>rfl
def bN.one{A:Nat->Prop}{w:World}{as0:aa AV}{us:aa Value}(h:bN A w as0 us)(h1:as0.all iC=O):∀v∈us,v.oneCell'=O:=λv hv=>by
 obtain⟨j,hj,rfl⟩:=yZ hv;have hlt:j<as0.length:=by rw[<-h.1];exact hj
 exact(h.2 j as0[j] us[j] (zu hlt) (zu hj)).one (zw.1 h1 _ (xM hlt))
def Rel.cells{A:Nat->Prop}{w:World}{a:AV}{v:Value}(h:Rel A w a v)(h1:Fo a=O):bN A w (dW a) v.cells.toList/\∀u∈v.cells.toList,u.oneCell'=O:=by
 by_cases ha:∃cs,a= .agg cs
 ·obtain⟨cs,rfl⟩:=ha;obtain⟨us,rfl,h2⟩:=h.oD;exact⟨by simpa [Value.cells,dW]using h2,by simpa [Value.cells]using h2.one h1⟩
 ·have hc:iC a=O:=by
   cases a<;>first|exact h1|(exact dD ⟨_,rfl⟩ ha)
  have hac:dW a=[a]:=by
   cases a<;>first|rfl|(exact dD ⟨_,rfl⟩ ha)
  have h2:=h.one hc;rw[hac,sq h2];refine⟨⟨rfl,λj x y hx hy=> ?_⟩,λu hu=>by simp at hu;rw[hu];exact h2⟩;cases j with
  |zero=>simp at hx hy;subst hx hy;exact h
  |succ j=>simp at hx
def Pw(σ:aa cE)(a:AV):Prop:=∀(A:Nat->Prop) (w:World) (v:Value),Hd A σ w->Rel A w a v->bN A w (dW a) v.cells.toList/\∀u∈v.cells.toList,u.oneCell'=O
def akn{σ:aa cE}{A:Nat->Prop}{w:World}{v:Value}{q:Nat}{l:aa (U.dz q)}(i:Nat)(hσ:σ[i]? =V (.row v q l))(hd:Hd A σ w):v.oneCell'=O:=by
 obtain⟨us,h1,_⟩:=hd.1 _ (List.mem_of_getElem? hσ);obtain⟨p,cap,rfl,_⟩:=h1.len;rfl
section
variable {P:Program} {E:Env} {σ:aa cE} {o:Oper} {T T' e:TypeId} {x y z:Operand} {av bv:AV} {v u:Value} {m n:Int} {b:Bool} {k:IntKind} {C:Cx} {X:aa Nat}
def Yv.alloc{zs:aa Value}(ho:o.op= .alloc T)(hz:(P.info? T).bind (λi=>i.zero.map (·.cells))=V zs.toArray):Yv P E σ o C [] (λa σ'=>∃b,a= .lit (.pointer (V ⟨b,0,G⟩))/\σ'= .box b T (zs.map .lit)::σ):=λw ρ hg _=>by
 obtain⟨i,h1,h2⟩:=zq.1 hz;obtain⟨zv,h3,h4⟩:=zk.1 h2;refine⟨_,w.alloc (.cells zs.toArray T),_,_,⟨w.heap.size,rfl,rfl⟩,p9 hg (jW w _) (.inr rfl) ⟨zs,heap_alloc_new w _,bN.lits _⟩,?_, .lit _⟩;simp[execOp,ho,Instr.alloc,zeroValue,typeInfo,h1,h3,newVar,newRow,h4]
def Yv.box(ho:o.op= .box T x)(hx:E.ev x=V av)(h1:Pw σ av):Yv P E σ o C [] (λa σ'=>∃b,a= .lit (.pointer (V ⟨b,0,G⟩))/\σ'= .box b T (dW av)::σ):=λw ρ hg hρ=>by
 have hr:=(h1 _ _ _ hg.hd (hρ _ _ hx)).1;refine⟨_,w.alloc (.cells (ρ x).cells T),_,_,⟨w.heap.size,rfl,rfl⟩,p9 hg (jW w _) (.inr rfl) ⟨(ρ x).cells.toList,heap_alloc_new w _,Mv hr (.inr rfl) (jW w _)⟩,?_, .lit _⟩;simp[execOp,ho,Instr.box,newVar,newRow]
def run_store{w:World}{g of:Nat}{cur:Array Value}{t:TypeId}{a:Value}{sz:Nat}(hs:(P.info? T).map (·.size)=V sz)(hb:Blk w g cur t)(hsz:a.cells.size=sz)(h1:∀u∈a.cells.toList,u.oneCell'=O)(hlt:of+sz<=cur.size):
  (Instr.storeAt T (.pointer (V ⟨g,of,G⟩)) a).run P w= .ok () (w.setRow g (cur.toList.take of++a.cells.toList++cur.toList.drop (of+sz)).toArray):=by
 obtain⟨j,hj,hj'⟩:=zk.1 hs;have:=run_storeCells_at P g of t a.cells.toList 0 cur w hb (by rw[yj,hsz];omega) h1;rw[yj,hsz,yt]at this;simp only[Instr.storeAt,Instr.sureAddr,storeVar,Sem.run_bind,sizeOf,typeInfo];simp[hj,hj',hsz,this]
def ny(w:World)(g:Nat)(cs:Array Value):Kp [g] w (w.setRow g cs):=⟨rfl,rfl,rfl,zn _,by simp,λk _ hk=>setRow_other w g k _ (λe=>hk (by simp[e]))⟩
def Yu.as5{g of sz:Nat}{cs:aa AV}{t:TypeId}(i:Nat)(ho:o.op= .store T x y)(hx:E.ev x=V (.lit (.pointer (V ⟨g,of,G⟩))))(hy:E.ev y=V av)(hσ:σ[i]? =V (.box g t cs))(hs:(P.info? T).map (·.size)=V sz)(hp:Pw σ av)(hsz:(dW av).length=sz)(hlt:of+sz<=cs.length):
  Yu P E σ o C [g] (σ.set i (.box g t (cs.take of++dW av++cs.drop (of+sz)))):=λw ρ hg hρ=>by
 obtain⟨us,h1,h2⟩:=hg.res _ (List.mem_of_getElem? hσ);obtain⟨h3,h4⟩:=hp _ _ _ hg.hd (hρ _ _ hy);have hx':=(hρ _ _ hx).cH;have h5:(ρ y).cells.size=sz:=by rw[<-yj,h3.1,hsz]
 have hrun:=run_store (P:=P) (T:=T) (of:=of) (a:=ρ y) hs h1 h5 h4 (by simp;rw[h2.1];exact hlt);refine⟨w.setRow g (us.take of++(ρ y).cells.toList++us.drop (of+sz)).toArray,EZ hg hσ (ny w g _) (.inl rfl) ⟨us.take of++(ρ y).cells.toList++us.drop (of+sz),?_,?_⟩,?_⟩
 ·have:=setRow_heap w g us.toArray (us.take of++(ρ y).cells.toList++us.drop (of+sz)).toArray t (0,0) h1;exact this
 ·have hal:∀b,b<w.heap.size->al C σ b->al C (σ.set i (.box g t (cs.take of++dW av++cs.drop (of+sz)))) b/\(w.setRow g (us.take of++(ρ y).cells.toList++us.drop (of+sz)).toArray).heap[b]? =w.heap[b]? :=λb hb hA=>by
   have hbk:=Ez (r':=cE.box g t (cs.take of++dW av++cs.drop (of+sz))) hσ rfl;refine⟨⟨hA.1,by rw[hbk];exact hA.2⟩,setRow_other w g b _ (λe=>hA.2 (bT.2 ⟨_,List.mem_of_getElem? hσ,by rw[<-e];rfl⟩))⟩
  exact(((h2.take of).app h3).app (h2.drop (of+sz))).mono hal
 ·simp[execOp,ho,hx',hrun]
def Yu.aaN{kk of n m:Nat}{q:Nat}{l:aa (U.dz q)}(i:Nat)(qq:U.dz q)(ho:o.op= .store T x y)(hx:E.ev x=V (.rp v kk))(hy:E.ev y=V av)(hσ:σ[i]? =V (.row v q l))(hs:(P.info? T).map (·.size)=V n)(hp:Fo av=O)(hn:(dW av).length=n)
  (hk:kk=m*(U.sz q)+of) (hm:m<l.length) (hlt:of+n<=(U.sz q)) (hql:(U.cells q qq).length=U.sz q) (hq:∀A w us,bN A w ((U.cells q l[m]!).take of++dW av++(U.cells q l[m]!).drop (of+n)) us->bN A w (U.cells q qq) us):
  Yu P E σ o C (xN (gB v)) (σ.set i (.row v q (l.set m qq))):=λw ρ hg hρ=>by
 obtain⟨us,h1,h2,h3⟩:=hg.res _ (List.mem_of_getElem? hσ);obtain⟨h4,h5⟩:=(hρ _ _ hy).cells hp;obtain⟨g,hgb,hv⟩:=(hρ _ _ hx).G8;obtain⟨g',cap,cur,hv',hgb',hB,q1,q2,q3,q4⟩:=h1.at (by omega);have hgg:g'=g:=by rw[hgb']at hgb;exact zA.inj hgb
 subst hgg;have h6':(ρ y).cells.toList.length=n:=by rw[h4.1,hn]
 have h6:(ρ y).cells.size=n:=by rw[<-yj,h6']
 have hmz:m*(U.sz q)+(U.sz q)<=l.length*(U.sz q):=by rw[<-yO];exact yL _ hm
 have hcz:l.length*(U.sz q)<=(cap+1)*(U.sz q):=yL _ q1;have hul:=h1.1;have hrun:=run_store (P:=P) (T:=T) (of:=kk) (a:=ρ y) hs hB h6 h5 (by rw[q3,hk];omega);have hlen:us.length=l.length*(U.sz q):=h1.1;have hmz2:∀j,j<l.length->j*(U.sz q)+(U.sz q)<=us.length:=λj hj=>by rw[hlen,<-yO];exact yL _ hj
 have hpart:∀b,al C (σ.set i (.row v q (l.set m qq))) b↔al C σ b:=λb=>by
  have hbk:=Ez (r':=cE.row v q (l.set m qq)) hσ rfl;unfold al;rw[hbk]
 have hal:∀b,b<w.heap.size->al C σ b->al C (σ.set i (.row v q (l.set m qq))) b/\(w.setRow g' (cur.toList.take kk++(ρ y).cells.toList++cur.toList.drop (kk+n)).toArray).heap[b]? =w.heap[b]? :=λb hb hA=>
  ⟨(hpart b).2 hA,setRow_other w g' b _ (λe=>hA.2 (bT.2 ⟨_,List.mem_of_getElem? hσ,by rw[e];exact hgb⟩))⟩
 refine⟨w.setRow g' (cur.toList.take kk++(ρ y).cells.toList++cur.toList.drop (kk+n)).toArray,EZ (r:= .row v q l) hg hσ (by show Kp (xN (gB v)) _ _;rw[hgb];exact ny w g' _) (.inl rfl) ⟨us.take kk++(ρ y).cells.toList++us.drop (kk+n),⟨?_, .inr ⟨g',cap,(cur.toList.take kk++(ρ y).cells.toList++cur.toList.drop (kk+n)).toArray,?_,?_,?_,q2,?_,?_⟩⟩,?_,?_⟩,by simp[execOp,ho,hv,hrun]⟩
 ·have:=hmz2 m hm;rw[zj,zj,zH,ym,yo,h6',hlen];omega
 ·rw[yo];exact hv'
 ·exact setRow_heap w g' cur _ q (0,0) hB
 ·rw[yo];exact q1
 ·have:=hmz2 m hm;rw[xx,zj,zj,zH,ym,h6',yj,q3];omega
 ·have hk':kk+n<=l.length*(U.sz q):=by omega
  have hc2:l.length*(U.sz q)<=cur.toList.length:=by rw[show cur.toList.length=cur.size from yj,q3];exact hcz
  rw[<-q4,yo];apply List.ext_getElem?;intro j;simp only[yF,xk,zj,zH,yD,h6',yj];have hcl:cur.size=(cap+1)*(U.sz q):=q3;by_cases e1:j<l.length*(U.sz q)
  ·rw[bE e1];by_cases e2:j<kk
   ·rw[bE (by omega),bE (by omega),bE (by omega),bE (by omega),bE (by omega),bE (by omega)];rw[bE (by omega)]
   ·by_cases e3:j<kk+n
    ·rw[bE (by omega),bO (by omega),bE (by omega),bO (by omega)]
     congr 1
     omega
    ·rw[bO (by omega),bO (by omega),bE (by omega)]
     congr 1
     omega
  ·rw[bO e1];rw[bO (by omega),bO (by omega)]
 ·intro j hj;rw[yo]at hj;by_cases hjm:j=m
  ·subst hjm;rw[getElem!_pos _ j (by rw[yo];exact hj),List.getElem_set_self];exact hql
  ·rw[getElem!_pos _ j (by rw[yo];exact hj),List.getElem_set_ne (Ne.symm hjm),<-getElem!_pos l j hj];exact h2 j hj
 ·intro j hj;rw[yo]at hj;have hb:=hmz2 j hj;have hbm:=hmz2 m hm;by_cases hjm:j=m
  ·subst hjm;rw[getElem!_pos _ j (by rw[yo];exact hj),List.getElem_set_self];refine hq _ _ _ ?_;have hL:=h3 j hj;have hz:=h2 j hj;have hR:=(((hL.take of).app h4).app (hL.drop (of+n))).mono hal;have e:((us.take kk++(ρ y).cells.toList++us.drop (kk+n)).drop (j*(U.sz q))).take (U.sz q)=((us.drop (j*(U.sz q))).take (U.sz q)).take of++(ρ y).cells.toList++((us.drop (j*(U.sz q))).take (U.sz q)).drop (of+n):=by
    apply List.ext_getElem?;intro a;simp only[yF,xk,zj,zH,yD,h6',ym];by_cases e1:a<(U.sz q)
    ·rw[bE e1];by_cases e2:a<of
     ·rw[bE (by omega),bE (by omega),bE (by omega),bE (by omega),bE (by omega),bE (by omega)];rw[bE (by omega)]
     ·by_cases e3:a<of+n
      ·rw[bE (by omega),bO (by omega),bE (by omega),bO (by omega)]
       congr 1
       omega
      ·rw[bO (by omega),bO (by omega),bE (by omega)]
       congr 1
       omega
    ·rw[bO e1,bO (by omega),bO (by omega)]
   rw[e];exact hR
  ·rw[getElem!_pos _ j (by rw[yo];exact hj),List.getElem_set_ne (Ne.symm hjm),<-getElem!_pos l j hj];have e:((us.take kk++(ρ y).cells.toList++us.drop (kk+n)).drop (j*(U.sz q))).take (U.sz q)=(us.drop (j*(U.sz q))).take (U.sz q):=by
    have hcase:j*(U.sz q)+(U.sz q)<=m*(U.sz q)\/m*(U.sz q)+(U.sz q)<=j*(U.sz q):=by
     rcases Nat.lt_or_gt_of_ne hjm with h|h
     ·left;rw[<-yO];exact yL _ h
     ·right;rw[<-yO];exact yL _ h
    apply List.ext_getElem?;intro a;simp only[yF,xk,zj,zH,yD,h6',yj];by_cases e1:a<(U.sz q)
    ·rw[bE e1,bE e1];rcases hcase with hc|hc
     ·rw[bE (by omega),bE (by omega),bE (by omega)]
     ·rw[bO (by omega)]
      congr 1
      omega
    ·rw[bO e1,bO e1]
   rw[e];exact(h3 j hj).mono hal
end
inductive F2 {α:Type} {β:Type} (R:α->β->Prop):List α->List β->Prop
 |nil:F2 R [] []
 |cons {a:α} {b:β} {as0:List α} {bs:List β} (h:R a b) (hs:F2 R as0 bs):F2 R (a::as0) (b::bs)
def VP(us:aa Value):∀(k off:Nat) (init:Array Value),off+k+us.length<=init.size->
  ((us.zipIdx k).foldl (λcs (p:Value×Nat)=>cs.setIfInBounds (off+p.2) p.1) init).toList=init.toList.take (off+k)++us++init.toList.drop (off+k+us.length):=by
 induction us with
 |nil=>intro k off init h;simp
 |cons u us ih=>
  intro k off init h;simp only[yN]at h;rw[List.zipIdx_cons,List.foldl_cons,ih (k+1) off _ (by simp;omega)];have h1:off+k<init.toList.length:=by simp;omega
  rw[Array.toList_setIfInBounds];have e1:(init.toList.set (off+k) u).take (off+(k+1))=init.toList.take (off+k)++[u]:=by
   rw[wC,bE h1];have e:off+(k+1)=(init.toList.take (off+k)).length+1:=by rw[zH];omega
   rw[e,List.take_length_add_append];simp
  have e2:(init.toList.set (off+k) u).drop (off+(k+1)+us.length)=init.toList.drop (off+k+(us.length+1)):=by
   rw[List.drop_set_of_lt (by omega)]
   congr 1
   omega
  rw[e1,e2];simp
def placesOf(P:Program)(T:TypeId):af (aa (Nat×Nat)):=match P.underlying T with
 |some (.struct fields)=>fields.toList.mapM λf=>(P.info? f.type).map λi=>(f.offset,i.size)
 |_=>G
def jQ(P:Program)(T:TypeId):af (aa Value):=(P.info? T).bind λi=>i.zero.map (·.cells.toList)
section
variable {P:Program} {E:Env} {σ:aa cE} {o:Oper} {T T' e:TypeId} {x y z:Operand} {av bv:AV} {v u:Value} {m n:Int} {b:Bool} {k:IntKind} {C:Cx} {X:aa Nat}
def OE{ps:Array (Nat×Operand)}{ρ:Operand->Value}:(ps.map λ(i,x)=>(i,ρ x)).toList=ps.toList.map λp=>(p.1,ρ p.2):=by
 rw[Array.toList_map]
def lJ{q:Nat}:∀(l:aa (U.dz q)),(∀i,i<l.length->(U.cells q l[i]!).length=(U.sz q))->(l.flatMap (U.cells q)).length=l.length*(U.sz q)/\∀i,i<l.length->((l.flatMap (U.cells q)).drop (i*(U.sz q))).take (U.sz q)=U.cells q l[i]!
 |[],_=>⟨by simp,λi hi=>by cases hi⟩
 |x::l,h=>by
  have h0:(U.cells q x).length=(U.sz q):=h 0 (by simp);obtain⟨h1,h2⟩:=lJ l λi hi=>by
   have:=h (i+1) (by simpa using hi)
   rwa [show (x::l)[i+1]! =l[i]! from by rw[getElem!_pos _ (i+1) (by simpa using hi),getElem!_pos l i hi];rfl]at this
  refine⟨by rw[xH,zj,h0,h1,yN,yO];omega,λi hi=> ?_⟩;rw[xH];cases i with
  |zero=>
   rw[Nat.zero_mul,List.drop_zero,<-h0,List.take_left']
   ·rfl
   ·rfl
  |succ i=>
   have hi':i<l.length:=by simpa using hi
   rw[show (x::l)[i+1]! =l[i]! from by rw[getElem!_pos _ (i+1) (by simpa using hi'),getElem!_pos l i hi'];rfl,<-h2 i hi'];rw[show (i+1)*(U.sz q)=(U.cells q x).length+i*(U.sz q)from by rw[h0,yO];omega,<-zU,List.drop_left'];rfl
def Eg{A:Nat->Prop}{w:World}{q:Nat}{l:aa (U.dz q)}{us:aa Value}(hr:gD w v q (U.sz q) l.length us)(hz:∀i,i<l.length->(U.cells q l[i]!).length=(U.sz q))(h:bN A w (l.flatMap (U.cells q)) us):cE.ok A w (.row v q l):=
 ⟨us,hr,hz,λi hi=>by rw[<-(lJ l hz).2 i hi];exact(h.drop _).take _⟩
def CZ{A:Nat->Prop}{w:World}{q:Nat}{l:aa (U.dz q)}(h:cE.ok A w (.row v q l)):∃us,gD w v q (U.sz q) l.length us/\(∀i,i<l.length->(U.cells q l[i]!).length=(U.sz q))/\bN A w (l.flatMap (U.cells q)) us:=by
 obtain⟨us,h1,h2,h3⟩:=h;refine⟨us,h1,h2,?_⟩;obtain⟨f1,f2⟩:=lJ l h2;refine⟨by rw[f1,h1.1],λj a u ha hu=> ?_⟩;have hj:j<l.length*(U.sz q):=by rw[<-f1];exact(z7.1 ha).1
 have hsz:0<(U.sz q):=by
  rcases wD (U.sz q)with h|h
  ·rw[h]at hj;omega
  ·exact h
 have hi:j/(U.sz q)<l.length:=by rw[Nat.div_lt_iff_lt_mul hsz];exact hj
 have hm:j%(U.sz q)<(U.sz q):=yQ _ hsz;have he:j/(U.sz q)*(U.sz q)+j%(U.sz q)=j:=by rw[Nat.mul_comm];exact Nat.div_add_mod j (U.sz q)
 refine(h3 _ hi).2 (j%(U.sz q)) a u ?_ ?_
 ·rw[<-f2 _ hi,yF,bE hm,yD,he];exact ha
 ·rw[yF,bE hm,yD,he];exact hu
def get_append_left!{q:Nat}(l l2:aa (U.dz q))(i:Nat)(h:i<l.length):(l++l2)[i]! =l[i]! :=by
 rw[getElem!_pos _ i (by rw[zj];omega),List.getElem_append_left h,<-getElem!_pos l i h]
def get_append_right!{q:Nat}(l l2:aa (U.dz q))(i:Nat)(h:l.length<=i)(h2:i<l.length+l2.length):(l++l2)[i]! =l2[i-l.length]! :=by
 rw[getElem!_pos _ i (by rw[zj];exact h2),List.getElem_append_right h,<-getElem!_pos l2 (i-l.length) (by omega)]
def LJ{q:Nat}{l l2:aa (U.dz q)}(h:∀i,i<l.length->(U.cells q l[i]!).length=(U.sz q))(h2:∀i,i<l2.length->(U.cells q l2[i]!).length=(U.sz q)):∀i,i<(l++l2).length->(U.cells q (l++l2)[i]!).length=(U.sz q):=λi hi=>by
 rw[zj]at hi;by_cases hlt:i<l.length
 ·rw[get_append_left! _ _ _ hlt];exact h i hlt
 ·rw[get_append_right! _ _ _ (by omega) hi];exact h2 _ (by omega)
def Rv{zs:aa Value}{sz n:Nat}(hsz:zs.length=sz)(hpos:0<sz):((Array.range (n*sz)).map (zs.toArray[· %zs.toArray.size]!)).toList=(zl n zs).flatten:=by
 apply List.ext_getElem?;intro j;have hfl:(zl n zs).flatten.length=n*sz:=by simp[hsz]
 have hq:∀(q:Nat) (j:Nat),j<q*sz->(zl q zs).flatten[j]? =zs[j%sz]? :=by
  intro q;induction q with
  |zero=>intro j hj;simp at hj
  |succ q ih=>
   intro j hj;rw[yP,wE,xk];split
   ·rename_i h;rw[hsz]at h;rw[Nat.mod_eq_of_lt h]
   ·rename_i h;rw[hsz]at h;rw[hsz,ih _ (by rw[yO]at hj;omega),Nat.mod_eq_sub_mod (by omega:sz<=j)]
 by_cases hj:j<n*sz
 ·rw[hq n j hj];have hmod:j%sz<sz:=yQ _ hpos;simp[hj,hsz,hmod]
 ·rw[x9 (l:=(zl n zs).flatten) (by rw[hfl];omega)];simp[hj]
def Yv.lit{len:Nat}{ps:Array (Nat×Operand)}{zs:aa Value}(l:aa (U.dz e))(ho:o.op= .buildSlice T len ps)(hT:P.underlying T=V (.slice e))(hs:(P.info? e).map (·.size)=V (U.sz e))(hz:jQ P e=V zs)
  (hzl:zs.length=(U.sz e)) (hf:∀A w ρ,Hd A σ w->OI A w E ρ->∃us:Array Value,Instr.fill (λi=>V (i*(U.sz e),(U.sz e))) (zl len zs).flatten.toArray (ps.toList.map λp=>(p.1,ρ p.2))=V us/\bN A w (l.flatMap (U.cells e)) us.toList) (hl:l.length=len) (hu:∀i,i<l.length->(U.cells e l[i]!).length=(U.sz e)) (hpos:0<len*(U.sz e)) (hsm:len*(U.sz e)<=2^24):
  Yv P E σ o C [] (λa σ'=>∃v,a= .lit v/\σ'= .row v e l::σ):=λw ρ hg hρ=>by
 obtain⟨it,hit,hz1⟩:=zq.1 hz;obtain⟨zv,hz2,hz3⟩:=zk.1 hz1;obtain⟨ie,hie,hse⟩:=zk.1 hs;have hee:it=ie:=by rw[hit]at hie;exact zA.inj hie
 subst hee;have hzc:zv.cells=zs.toArray:=by rw[<-hz3]
 obtain⟨us,h1,h2⟩:=hf _ w ρ hg.hd hρ;have hrun:=run_buildSlice (P:=P) w T e len (ps.map λ(i,x)=>(i,ρ x)) us it zv hT hit hz2 (by rw[hse];omega) (by rw[hse];omega) (by
  rw[hse,hzc,OE,<-h1]
  congr 1
  apply Array.ext';exact Rv hzl (Nat.pos_of_mul_pos_left hpos))
 have hlp:0<len:=Nat.pos_of_mul_pos_right hpos;have hlen:us.toList.length=len*(U.sz e):=by rw[h2.1,(lJ l hu).1,hl]
 refine⟨_,w.alloc (.cells us e),_,_,⟨.slice (V ⟨w.heap.size,0,G⟩) len len,rfl,rfl⟩,?_,by simp[execOp,ho,hrun], .lit _⟩;obtain⟨ln,rfl⟩:∃ln,len=ln+1:=⟨len-1,by omega⟩;refine p9 (r:= .row (.slice (V ⟨w.heap.size,0,G⟩) (ln+1) (ln+1)) e l) hg (jW w _) (.inr rfl) (Eg (us:=us.toList) ?_ hu ?_)
 ·rw[hl];refine⟨hlen, .inr ⟨w.heap.size,ln,us,rfl,heap_alloc_new w _,zn _,?_,by rw[<-yj,hlen],by rw[<-hlen,zB]⟩⟩;have:ln+1<=(ln+1)*(U.sz e):=Nat.le_mul_of_pos_right _ (Nat.pos_of_mul_pos_left hpos);unfold maxLen;omega
 ·exact Mv (r:= .row (.slice (V ⟨w.heap.size,0,G⟩) (ln+1) (ln+1)) e l) h2 (.inr rfl) (jW w _)
def Yv.aCB{s:Nat}(ho:o.op= .buildSlice T 0 #[])(hT:P.underlying T=V (.slice e))(hs:(P.info? e).map (·.size)=V s):Yv P E σ o C [] (λa σ'=>∃v,a= .lit v/\σ'= .row v e ([]:aa (U.dz e))::σ):=λw ρ hg hρ=>by
 obtain⟨j,hj,hj'⟩:=zk.1 hs;refine⟨_,w.alloc (.cells #[] e),_,_,⟨.slice (V ⟨w.heap.size,0,G⟩) 0 0,rfl,rfl⟩,p9 hg (jW w _) (.inl rfl) ⟨[],⟨by simp, .inl ⟨_,rfl,rfl⟩⟩,λi hi=>by simp at hi,λi hi=>by simp at hi⟩,?_, .lit _⟩;simp[execOp,ho,Instr.buildSlice,run_underlying hT,sizeOf,typeInfo,hj,Instr.fill,newRow];rw[show Array.range 0=#[]from rfl,Array.map_empty]
def Yv.make{by':Nat}{zs:aa Value}(d:U.dz e)(ho:o.op= .makeSlice T x y)(hx:E.ev x=V (.i m))(hy:E.ev y=V (.i n))(hT:P.underlying T=V (.slice e))(hs:(P.info? e).map (λi=>(i.size,i.bytes))=V ((U.sz e),by'))(hz:jQ P e=V zs)(hb:yl by' 4096=O)(hsz:zs.length=(U.sz e))(hd:∀A w,bN A w (U.cells e d) zs)(hpos:0<(U.sz e))
  (hm:0<=m/\m<=n/\n<=1073741824):Yv P E σ o C [] (λa σ'=>∃v,a= .lit v/\σ'= .row v e (zl m.toNat d)::σ):=λw ρ hg hρ=>by
 obtain⟨it,hit,hz1⟩:=zq.1 hz;obtain⟨zv,hz2,hz3⟩:=zk.1 hz1;obtain⟨ie,hie,hse⟩:=zk.1 hs;have hee:it=ie:=by rw[hit]at hie;exact zA.inj hie
 subst hee;simp only[Prod.mk.injEq]at hse;obtain⟨s1,s2⟩:=hse;have hzc:zv.cells=zs.toArray:=by rw[<-hz3]
 have hby:by'<=4096:=by simpa using hb
 obtain⟨mm,rfl⟩:∃mm:Nat,m=mm:=⟨m.toNat,by omega⟩;obtain⟨nn,rfl⟩:∃nn:Nat,n=nn:=⟨n.toNat,by omega⟩;have hbb:(it.bytes:Int)*(nn:Int)<=281474976710656:=by
  have h1:it.bytes*nn<=4096*1073741824:=Nat.mul_le_mul (by omega) (by omega);have h':((it.bytes*nn:Nat):Int)<=281474976710656:=by omega
  rwa [xI]at h'
 have hrun:=run_make (P:=P) w T e it zv hT hit hz2 .i64 .i64 mm nn (by omega) (by omega) hbb (by omega);rw[ze,ze]at hrun;have hx':=(hρ _ _ hx).cH;have hy':=(hρ _ _ hy).cH;refine⟨.slice (V ⟨w.heap.size,0,G⟩) mm nn,w.alloc (.cells (madeCells zv.cells (nn*it.size)) e),_,_,⟨.slice (V ⟨w.heap.size,0,G⟩) mm nn,rfl,rfl⟩,?_,?_, .lit _⟩
 ·rw[ze];have hcells:(madeCells zv.cells (nn*it.size)).toList=(zl nn zs).flatten:=by
   rw[hzc,s1];unfold madeCells;apply List.ext_getElem?;intro j;have hfl:(zl nn zs).flatten.length=nn*(U.sz e):=by simp[hsz]
   have hq:∀(q:Nat) (j:Nat),j<q*(U.sz e)->(zl q zs).flatten[j]? =zs[j%(U.sz e)]? :=by
    intro q;induction q with
    |zero=>intro j hj;simp at hj
    |succ q ih=>
     intro j hj;rw[yP,wE,xk];split
     ·rename_i h;rw[hsz]at h;rw[Nat.mod_eq_of_lt h]
     ·rename_i h;rw[hsz]at h;rw[hsz,ih _ (by rw[yO]at hj;omega),Nat.mod_eq_sub_mod (by omega:(U.sz e)<=j)]
   by_cases hj:j<nn*(U.sz e)
   ·rw[hq nn j hj];have hmod:j%(U.sz e)<(U.sz e):=yQ _ hpos;simp[hj,hsz,hmod]
   ·rw[x9 (l:=(zl nn zs).flatten) (by rw[hfl];omega)];simp[hj]
  by_cases hn0:nn=0
  ·have hm0:mm=0:=by omega
   subst hn0 hm0;exact p9 hg (jW w _) (.inl rfl) ⟨[],⟨by simp, .inl ⟨_,rfl,rfl⟩⟩,λi hi=>by simp at hi,λi hi=>by simp at hi⟩
  ·obtain⟨nk,rfl⟩:∃nk,nn=nk+1:=⟨nn-1,by omega⟩;have hu:∀i,i<(zl mm d).length->(U.cells e (zl mm d)[i]!).length=(U.sz e):=λi hi=>by
    rw[getElem!_pos _ i hi,List.getElem_replicate,<-(hd (λ_=>True) w).1,hsz]
   have hfl:∀q,(zl q zs).flatten.length=q*(U.sz e):=λq=>by simp[hsz]
   have hfl2:∀(A:Nat->Prop) (w:World) (q:Nat),bN A w ((zl q d).flatMap (U.cells e)) (zl q zs).flatten:=λA w q=>by
    induction q with
    |zero=>exact bN.nil
    |succ q ih=>rw[yP,yP,xH,wE];exact(hd A w).app ih
   have htk:∀q q':Nat,q<=q'->((zl q' zs).flatten).take (q*(U.sz e))=(zl q zs).flatten:=λq q' h=>by
    obtain⟨r,rfl⟩:∃r,q'=q+r:=⟨q'-q,by omega⟩;rw[<-List.replicate_append_replicate,List.flatten_append,<-hfl q];exact List.take_left
   refine p9 (r:= .row (.slice (V ⟨w.heap.size,0,G⟩) mm (nk+1)) e (zl mm d)) hg (jW w _) (.inr rfl) (Eg (us:=(zl mm zs).flatten) ?_ hu ?_)
   ·rw[xO];refine⟨hfl mm, .inr ⟨w.heap.size,nk,_,rfl,heap_alloc_new w _,by omega,by unfold maxLen;omega,?_,by rw[hcells];exact htk _ _ (by omega)⟩⟩;rw[<-yj,hcells,hfl]
   ·exact hfl2 _ _ _
 ·simp[execOp,ho,hx',hy',hrun]
def EM{w:World}{ty:TypeId}{i:TypeInfo}{zz:Value}{sz by' nn mm:Nat}{us news:aa Value}{xs:Value}(ht:P.underlying T=V (.slice e))(hi:P.info? e=V i)(hz:i.zero=V zz)(hs:i.size=sz)(hby:i.bytes=by')(hzs:zz.cells.size=sz)
  (hrow:gD w v e sz nn us) (hx:∃p c,xs= .slice p mm c/\(mm=0\/∃a,p=V a/\∀j u,news[j]? =V u->w.cell? (a.add j)=V u)) (hl:news.length=mm*sz) (h1:∀u∈news,u.oneCell'=O) (h63:nn+mm<=maxLen) (hb:(nn+mm)*by'<=140737488355328):
  ∃v' w',(Builtin.append_ #[T,T] ty #[v,xs]).run P w= .ok v' w'/\gD w' v' e sz (nn+mm) (us++news)/\Kp (gB v).toList w w'/\(gB v'=gB v\/gB v'=V w.heap.size):=by
 subst hs hby
 obtain⟨p,cx,rfl,hx⟩:=hx;by_cases hm:mm=0
 ·subst hm;have hn:news=[]:=xy (by simpa using hl);subst hn;obtain⟨q,cap,rfl,hcap⟩:=hrow.len;have hf:∀w,(Builtin.firstCells i.size 0 (.slice p 0 cx)).run P w= .ok #[] w:=λw=>by
   cases p<;>simp[Builtin.firstCells,loadCells,loadCellsFrom]
  have hrun:(Builtin.append_ #[T,T] ty #[.slice q nn cap, .slice p 0 cx]).run P w= .ok (.slice q nn cap) w:=by
   cases q<;>simp[Builtin.append_,run_underlying ht,sizeOf,typeInfo,hi,Builtin.lenOf,hf,hcap,storeCells]
  exact⟨_,w,hrun,by simpa using hrow,Kp.refl _ _, .inl rfl⟩
 ·obtain⟨a,rfl,hc⟩:=hx.resolve_left hm;have grown:∀(olds:aa Value) (old:Nat),olds.length=nn*i.size->old<nn+mm->us=olds->
    gD (w.drew.alloc (.cells (olds.toArray++news.toArray++Builtin.zeroCells zz.cells (grownCap w (nn+mm) old e-(nn+mm))) e)) (.slice (V ⟨w.heap.size,0,G⟩) (nn+mm) (grownCap w (nn+mm) old e)) e i.size (nn+mm) (us++news):=by
   intro olds old hol hlt hus;subst hus;have hge:=grownCap_ge w (nn+mm) old e;have hcm:=grownCap_le_maxLen w (nn+mm) old e h63;obtain⟨ck,hck⟩:∃ck,grownCap w (nn+mm) old e=ck+1:=⟨grownCap w (nn+mm) old e-1,by omega⟩;refine⟨by rw[zj,hol,hl,yd], .inr ⟨w.heap.size,ck,_,by rw[hck],heap_alloc_new w.drew _,by omega,by omega,?_,?_⟩⟩
   ·rw[<-hck];simp only[Array.size_append,xx,size_zeroCells,hzs,hol,hl,<-yd]
    congr 1
    omega
   ·simp only[Array.toList_append,yR];rw[<-yR,show (nn+mm)*i.size=(us++news).length from by rw[zj,hol,hl,yd]];exact List.take_left
  rcases hrow.2 with ⟨q,rfl,rfl⟩|⟨g,cap,cur,rfl,hg,hnc,hcm,hcs,htake⟩
  ·have hu:us=[]:=xy (by simpa using hrow.1);have hgr:=grown [] 0 (by simp) (by omega) hu;rw[yp]at hgr hb h63;have hgc:=grownCap_ge w mm 0 e;have hrb:gB (.slice (V ⟨w.heap.size,0,G⟩) mm (grownCap w mm 0 e))=V w.heap.size:=by
    obtain⟨ck,hck⟩:∃ck,grownCap w mm 0 e=ck+1:=⟨grownCap w mm 0 e-1,by omega⟩;rw[hck];rfl
   have h63':(mm:Int)<=9223372036854775807:=by unfold maxLen at h63;omega
   cases q with
   |none=>
    have hr:=run_append_nil (P:=P) w T ty e i zz ht hi hz a mm cx news hl hc (by omega) h63' (by omega);refine⟨_,_,hr,?_,HD w _, .inr hrb⟩;rw[yp];simpa using hgr
   |some b=>
    have hr:=run_append_grow (P:=P) w T ty e i zz ht hi hz b 0 0 [] (by simp) (λj v hj=>by cases hj) a mm cx news hl hc (by omega) (by simpa using h63') (growslice_fits (by omega) (by rw[yp];exact hb));refine⟨_,_,hr,?_,HD w _, .inr (by rw[yp];exact hrb)⟩;rw[yp];exact hgr
  ·by_cases hroom:nn+mm<=cap+1
   ·have hfit:nn*i.size+news.length<=cur.size:=by rw[hl,hcs,<-yd];exact yL _ hroom
    have hr:=run_append_room (P:=P) w T ty e i ht hi g nn (cap+1) cur hg a mm cx news hl hc h1 hroom hfit;refine⟨_,_,hr,⟨by rw[zj,hrow.1,hl,yd], .inr ⟨g,cap,_,rfl,setRow_heap w g cur _ e _ hg,hroom,hcm,?_,?_⟩⟩,ny w g _, .inl rfl⟩
    ·simp only[xx,zj,zH,ym,yj];omega
    ·rw[htake,show (nn+mm)*i.size=(us++news).length from by rw[zj,hrow.1,hl,yd]];exact List.take_left
   ·have holds:∀j v,us[j]? =V v->w.cell? ((⟨g,0,G⟩:Addr).add j)=V v:=λj v hj=>by
     rw[qk,yp];exact hrow.cells rfl j v hj
    have h63':((nn+mm:Nat):Int)<=9223372036854775807:=by unfold maxLen at h63;omega
    have hr:=run_append_grow (P:=P) w T ty e i zz ht hi hz ⟨g,0,G⟩ nn (cap+1) us hrow.1 holds a mm cx news hl hc (by omega) h63' (growslice_fits (by omega) hb);have hgr:=grown us (cap+1) hrow.1 (by omega) rfl;have hgc:=grownCap_ge w (nn+mm) (cap+1) e;refine⟨_,_,hr,hgr,⟨rfl,rfl,rfl,yc _,by simp,λk hk _=>heap_alloc_old w.drew _ hk⟩, .inr ?_⟩;obtain⟨ck,hck⟩:∃ck,grownCap w (nn+mm) (cap+1) e=ck+1:=⟨grownCap w (nn+mm) (cap+1) e-1,by omega⟩;rw[hck];rfl
def Src(σ:aa cE)(E:Env)(x:Operand)(e:TypeId)(l:aa (U.dz e)):Prop:=
 (∃p c,E.ev x=V (.lit (.slice p 0 c))/\l=[])\/E.ev x=V (.sl e l)\/∃(i:Nat) (v:Value),E.ev x=V (.lit v)/\σ[i]? =V (.row v e l)
def Src.spec{q:Nat}{l:aa (U.dz q)}{A:Nat->Prop}{w:World}{ρ:Operand->Value}(h:Src σ E x q l)(hd:Hd A σ w)(hρ:OI A w E ρ):∃p cap news,ρ x= .slice p l.length cap/\(l.length=0\/∃a,p=V a/\∀j u,news[j]? =V u->w.cell? (a.add j)=V u)/\news.length=l.length*(U.sz q)/\(∀i,i<l.length->(U.cells q l[i]!).length=(U.sz q))/\bN A w (l.flatMap (U.cells q)) news/\l.length<=9223372036854775807:=by
 rcases h with ⟨p,c,h,rfl⟩|h|⟨i,v,h,hσ⟩
 ·exact⟨p,c,[],(hρ _ _ h).cH, .inl rfl,by simp,λi hi=>by simp at hi,bN.nil,by simp⟩
 ·have hr:=hρ _ _ h;obtain⟨p,cap,u,hv,hl,_,hz,hc,hcr⟩:=hr.uV;rw[hv]at hr
  let news:aa Value:=(zM l.length).flatMap λi=>(zM (U.sz q)).map λj=>u i j
  have hnl:∀(z:aa Nat),(z.flatMap λi=>(zM (U.sz q)).map λj=>u i j).length=z.length*(U.sz q):=λz=>by
   induction z with
   |nil=>simp
   |cons a z ih=>rw[xH,zj,ih,zx,xF,yN,yO];omega
  have hnews:news.length=l.length*(U.sz q):=by rw[hnl,xF]
  have hget:∀n i j,i<n->j<(U.sz q)->((zM n).flatMap λi=>(zM (U.sz q)).map λj=>u i j)[i*(U.sz q)+j]? =V (u i j):=by
   intro n;induction n with
   |zero=>intro i j hi _;omega
   |succ n ih=>
    intro i j hi hj;rw[List.range_succ,wF,xk,hnl,xF];by_cases hin:i<n
    ·have:i*(U.sz q)+(U.sz q)<=n*(U.sz q):=by rw[<-yO];exact yL _ hin
     rw[bE (by omega)];exact ih i j hin hj
    ·have:i=n:=by omega
     subst this;rw[bO (by omega)];simp[hj]
  refine⟨p,cap,news,hv,?_,hnews,hz,?_,hl⟩
  ·by_cases h0:l.length=0
   ·exact .inl h0
   ·obtain⟨b,off,hp,hb,hA,hcc⟩:=hc 0 (by omega);refine .inr ⟨⟨b,off,G⟩,hp,λj v hj=> ?_⟩;have hjl:j<l.length*(U.sz q):=by rw[<-hnews];exact(z7.1 hj).1
    have hsz:0<(U.sz q):=by
     rcases wD (U.sz q)with h|h
     ·rw[h]at hjl;omega
     ·exact h
    have hi:j/(U.sz q)<l.length:=by rw[Nat.div_lt_iff_lt_mul hsz];exact hjl
    have hm:j%(U.sz q)<(U.sz q):=yQ _ hsz;have he:j/(U.sz q)*(U.sz q)+j%(U.sz q)=j:=by rw[Nat.mul_comm];exact Nat.div_add_mod j (U.sz q)
    have h2:=hget l.length (j/(U.sz q)) (j%(U.sz q)) hi hm;rw[he]at h2;have h3:V v=V (u (j/(U.sz q)) (j%(U.sz q))):=by rw[<-hj,<-h2]
    cases h3;obtain⟨b',off',hp',_,_,hcc'⟩:=hc (j/(U.sz q)) hi;rw[hp]at hp';cases hp';have h4:=hcc' (j%(U.sz q)) hm;rw[qk,show off+j=off+j/(U.sz q)*(U.sz q)+j%(U.sz q)from by omega];exact h4
  ·obtain⟨f1,f2⟩:=lJ l hz;refine⟨by rw[f1,hnews],λj a w' ha hw'=> ?_⟩;have hjl:j<l.length*(U.sz q):=by rw[<-hnews];exact(z7.1 hw').1
   have hsz:0<(U.sz q):=by
    rcases wD (U.sz q)with h|h
    ·rw[h]at hjl;omega
    ·exact h
   have hi:j/(U.sz q)<l.length:=by rw[Nat.div_lt_iff_lt_mul hsz];exact hjl
   have hm:j%(U.sz q)<(U.sz q):=yQ _ hsz;have he:j/(U.sz q)*(U.sz q)+j%(U.sz q)=j:=by rw[Nat.mul_comm];exact Nat.div_add_mod j (U.sz q)
   have h2:=hget l.length (j/(U.sz q)) (j%(U.sz q)) hi hm;rw[he]at h2;have h3:V w'=V (u (j/(U.sz q)) (j%(U.sz q))):=by rw[<-hw',<-h2]
   cases h3;refine hcr (j/(U.sz q)) (j%(U.sz q)) a hi ?_;rw[<-f2 _ hi,yF,bE hm,yD,he];exact ha
 ·obtain⟨us,h1,h2,h3⟩:=CZ (hd.1 _ (List.mem_of_getElem? hσ));obtain⟨p,cap,hv,_⟩:=h1.len;have hx':=(hρ _ _ h).cH;have hlm:l.length<=9223372036854775807:=by
   rcases h1.2 with ⟨_,_,h⟩|⟨_,_,_,_,_,q1,q2,_⟩
   ·omega
   ·unfold maxLen at q2;omega
  refine⟨p,cap,us,by rw[hx',hv],?_,h1.1,h2,h3,hlm⟩;by_cases h0:l.length=0
  ·exact .inl h0
  ·obtain⟨g,ck,cur,hv2,hgb,_⟩:=h1.at (by omega);rw[hv2]at hv;cases hv;refine .inr ⟨_,rfl,λj u hj=> ?_⟩;rw[qk,yp];exact h1.cells hgb j u hj
def Yv.app{by':Nat}{l l2:aa (U.dz e)}{zs:aa Value}(i:Nat)(ho:o.op= .call {callee:= .builtin .append,args:=#[x,y],argTypes:=#[T,T]})(hx:E.ev x=V (.lit v))(hσ:σ[i]? =V (.row v e l))(hy:Src σ E y e l2)(hT:P.underlying T=V (.slice e))(hs:(P.info? e).map (λi=>(i.size,i.bytes))=V ((U.sz e),by'))(hz:jQ P e=V zs)(hzl:zs.length=(U.sz e))(hb:yl by' 4096=O)
  (h1:∀x:U.dz e,(U.cells e x).all iC=O) (hlen:(l++l2).length<=1073741824):Yv P E σ o C (xN (gB v)) (λa σ'=>∃v',a= .lit v'/\σ'=σ.set i (.row v' e (l++l2))):=λw ρ hg hρ=>by
 obtain⟨it,hit,hz1⟩:=zq.1 hz;obtain⟨zv,hz2,hz3⟩:=zk.1 hz1;obtain⟨ie,hie,hse⟩:=zk.1 hs;have hee:it=ie:=by rw[hit]at hie;exact zA.inj hie
 subst hee;simp only[Prod.mk.injEq]at hse;obtain⟨s1,s2⟩:=hse;have hby:by'<=4096:=by simpa using hb
 obtain⟨us,g1,g2,g3⟩:=CZ (hg.res _ (List.mem_of_getElem? hσ));obtain⟨p,cap,news,q1,q2,q3,q4,q5,q6⟩:=hy.spec hg.hd hρ;have hx':=(hρ _ _ hx).cH;have hone:∀u∈news,u.oneCell'=O:=q5.one (by
  rw[zw];intro a ha;obtain⟨x,_,hx⟩:=xP.1 ha;exact zw.1 (h1 x) a hx)
 rw[zj]at hlen;have hbytes:(l.length+l2.length)*by'<=140737488355328:=by
  have:(l.length+l2.length)*by'<=1073741824*4096:=Nat.mul_le_mul hlen hby
  omega
 obtain⟨v',w',r1,r2,r3,r4⟩:=EM (P:=P) (T:=T) (ty:=o.type) (xs:=ρ y) hT hit hz2 s1 s2 (by rw[<-yj,hz3,hzl]) g1 ⟨p,cap,q1,q2⟩ q3 hone (by unfold maxLen;omega) hbytes;refine⟨v',w',_,_,⟨v',rfl,rfl⟩,EZ (r:= .row v e l) hg hσ r3 r4 (Eg (by rw[zj];exact r2) (LJ g2 q4) ?_),?_, .lit _⟩
 ·rw[wF];refine(g3.app q5).mono λb hb hA=>⟨⟨hA.1,λhx=> ?_⟩,r3.block b hb (λhx=>hA.2 (bT.2 ⟨_,List.mem_of_getElem? hσ,by simpa [cE.blk]using hx⟩))⟩;obtain⟨s,hs1,hs2⟩:=bT.1 hx;rcases List.mem_or_eq_of_mem_set hs1 with h|h
  ·exact hA.2 (bT.2 ⟨s,h,hs2⟩)
  ·rw[h]at hs2;rcases r4 with r4|r4
   ·exact hA.2 (bT.2 ⟨_,List.mem_of_getElem? hσ,r4.symm.trans hs2⟩)
   ·have:V w.heap.size=V b:=r4.symm.trans hs2;cases this;omega
 ·simp[execOp,ho,resolve,invoke,builtin,hx',r1]
end
def Rel.arx{A:Nat->Prop}{w:World}{qt:Nat}{l:aa (U.dz qt)}{p:af Addr}{cap:Nat}(h:Rel A w (.sl qt l) (.slice p l.length cap)){lo hi cap':Nat}(h1:lo<=hi)(h2:hi<=l.length)(hc':hi-lo<=cap')(q:af Addr)(hq:hi-lo=0\/q=p.map (·.add (lo*(U.sz qt)))):
  Rel A w (.sl qt ((l.take hi).drop lo)) (.slice q (hi-lo) cap'):=by
 obtain⟨p',cp,u,hv,hl,hcap,hz,hc,hr⟩:=h.uV;cases hv;have hln:((l.take hi).drop lo).length=hi-lo:=by rw[ym,zH];omega
 have hget:∀i,i<hi-lo->((l.take hi).drop lo)[i]! =l[lo+i]! :=λi hi'=>by
  rw[getElem!_pos _ i (by rw[hln];exact hi'),getElem!_pos l (lo+i) (by omega),wG,we]
 have hgoal:Rel A w (.sl qt ((l.take hi).drop lo)) (.slice q ((l.take hi).drop lo).length cap'):=by
  refine .sl qt _ q cap' (λi j=>u (lo+i) j) (by omega) (by omega) (λi hi'=> ?_) (λi hi'=> ?_) (λi j a hi' ha=> ?_)
  ·rw[hln]at hi';rw[hget i hi'];exact hz _ (by omega)
  ·rw[hln]at hi';obtain⟨b,off,hp,hb,hA,hcc⟩:=hc (lo+i) (by omega);refine⟨b,off+lo*(U.sz qt),?_,hb,hA,λj hj=> ?_⟩
   ·rcases hq with hq|hq
    ·omega
    ·rw[hq,hp,yx,qk]
   ·have:=hcc j hj
    rwa [yd,<-xG]at this
  ·rw[hln]at hi';rw[hget i hi']at ha;exact hr _ j a (by omega) ha
 rwa [hln]at hgoal
section
variable {P:Program} {E E':Env} {σ σ':aa cE} {o:Oper} {T T' e:TypeId} {x y z:Operand} {av bv:AV} {v u:Value} {m n:Int} {b:Bool} {k k':IntKind} {C:Cx} {X:aa Nat}
def Vl{w:World}{a:af Addr}{len cap lo hi:Nat}{s:Nat}{L H:af Value}(hT:P.underlying T=V (.slice e))(hs:(P.info? e).map (·.size)=V s)
  (hb:(Instr.sliceBounds O len cap L H G).run P w= .ok (lo,hi,cap) w):(Instr.slice T (.slice a len cap) L H G).run P w= .ok (.slice (if cap=lo then a else a.map (·.add (lo*s))) (hi-lo) (cap-lo)) w:=by
 obtain⟨j,hj,hj'⟩:=zk.1 hs;simp[Instr.slice,run_underlying hT,hb,sizeOf,typeInfo,hj,hj']
def Le{w:World}{len cap:Nat}(hh:0<=m/\m<=n/\n<=(len:Int))(hc:len<=cap):(Instr.sliceBounds O len cap (V (.int k m)) (V (.int k' n)) G).run P w= .ok (m.toNat,n.toNat,cap) w:=by
 have h1:0<=n/\n<=(cap:Int):=by omega
 have h2:0<=m/\m<=((n.toNat:Nat):Int):=by omega
 simp[Instr.sliceBounds,Instr.sliceBound,asIntOf,h1];intro hc;exfalso;have:=hc (by omega);omega
def Vq{w:World}{len cap:Nat}(hh:0<=n/\n<=(len:Int))(hc:len<=cap):(Instr.sliceBounds O len cap G (V (.int k' n)) G).run P w= .ok (0,n.toNat,cap) w:=by
 have h1:0<=n/\n<=(cap:Int):=by omega
 simp[Instr.sliceBounds,Instr.sliceBound,asIntOf,h1]
def V8{w:World}{len cap:Nat}(hh:0<=m/\m<=(len:Int)):(Instr.sliceBounds O len cap (V (.int k m)) G G).run P w= .ok (m.toNat,len,cap) w:=by
 simp[Instr.sliceBounds,Instr.sliceBound,asIntOf,hh]
def Al{A:Nat->Prop}{w:World}{ρ:Operand->Value}{q:Nat}{l:aa (U.dz q)}{L H:af Operand}{lo hi:Nat}(ho:o.op= .slice T x L H G)(hx:Rel A w (.sl q l) (ρ x))(hT:P.underlying T=V (.slice e))(hs:(P.info? e).map (·.size)=V (U.sz q))(h1:lo<=hi)(h2:hi<=l.length)
  (hb:∀cap,l.length<=cap->∀w',(Instr.sliceBounds O l.length cap (L.map ρ) (H.map ρ) G).run P w'= .ok (lo,hi,cap) w'):∃v,Rel A w (.sl q ((l.take hi).drop lo)) v/\∀w':World,(execOp ρ o).run P w'= .ok (.value v) w':=by
 obtain⟨p,cap,u,hv,hl,hcap,_⟩:=hx.uV;rw[hv]at hx;refine⟨.slice (if cap=lo then p else p.map (·.add (lo*(U.sz q)))) (hi-lo) (cap-lo),hx.arx h1 h2 (by omega) _ ?_,λw'=> ?_⟩
 ·by_cases h:cap=lo
  ·left;omega
  ·right;rw[bO h]
 ·have:=Vl (P:=P) (T:=T) (w:=w') (a:=p) (len:=l.length) hT hs (hb cap hcap w');simp[execOp,ho,hv,Instr.sliceAt,run_underlying hT,this]
def Yp.aqV{q:Nat}{l:aa (U.dz q)}(ho:o.op= .slice T x (V y) (V z) G)(hx:E.ev x=V (.sl q l))(hy:E.ev y=V (.n k m))(hz:E.ev z=V (.n k' n))(hT:P.underlying T=V (.slice e))(hs:(P.info? e).map (·.size)=V (U.sz q))
  (hm:0<=m/\m<=n/\n<=(l.length:Int)):Yp P E σ o (.sl q ((l.take n.toNat).drop m.toNat)):=λA w ρ _ hρ=>by
 obtain⟨v,h1,h2⟩:=Al (P:=P) (lo:=m.toNat) (hi:=n.toNat) ho (hρ _ _ hx) hT hs (by omega) (by omega) (λcap hc w'=>by
  simp only[yx,(hρ _ _ hy).cH,(hρ _ _ hz).cH];exact Le hm hc)
 exact⟨v,h1,λw' _=>h2 w'⟩
def Yp.agH{q:Nat}{l:aa (U.dz q)}(ho:o.op= .slice T x G (V z) G)(hx:E.ev x=V (.sl q l))(hz:E.ev z=V (.n k' n))(hT:P.underlying T=V (.slice e))(hs:(P.info? e).map (·.size)=V (U.sz q))
  (hm:0<=n/\n<=(l.length:Int)):Yp P E σ o (.sl q (l.take n.toNat)):=λA w ρ _ hρ=>by
 obtain⟨v,h1,h2⟩:=Al (P:=P) (lo:=0) (hi:=n.toNat) ho (hρ _ _ hx) hT hs (by omega) (by omega) (λcap hc w'=>by
  simp only[yx,Option.map_none,(hρ _ _ hz).cH];exact Vq hm hc)
 exact⟨v,h1,λw' _=>h2 w'⟩
def Yp.ajw{q:Nat}{l:aa (U.dz q)}(ho:o.op= .slice T x (V y) G G)(hx:E.ev x=V (.sl q l))(hy:E.ev y=V (.n k m))(hT:P.underlying T=V (.slice e))(hs:(P.info? e).map (·.size)=V (U.sz q))
  (hm:0<=m/\m<=(l.length:Int)):Yp P E σ o (.sl q (l.drop m.toNat)):=λA w ρ _ hρ=>by
 obtain⟨v,h1,h2⟩:=Al (P:=P) (lo:=m.toNat) (hi:=l.length) ho (hρ _ _ hx) hT hs (by omega) (by omega) (λcap hc w'=>by
  simp only[yx,Option.map_none,(hρ _ _ hy).cH];exact V8 hm)
 rw[zB]at h1;exact⟨v,h1,λw' _=>h2 w'⟩
def Yv.UF{sz':Nat}{q:Nat}{l:aa (U.dz q)}(ho:o.op= .slice T x G (V (.const (.int k 0))) (V (.const (.int k' 0))))(hx:E.ev x=V (.sl q l)\/E.ev x=V (.lit (.slice G 0 0)))(hT:P.underlying T=V (.slice e))(hs:(P.info? e).map (·.size)=V sz'):
  Yv P E σ o C [] (λa σ'=>∃v,a= .lit v/\σ'= .row v e ([]:aa (U.dz e))::σ):=λw ρ hg hρ=>by
 obtain⟨j,hj,hj'⟩:=zk.1 hs;obtain⟨p,n,cap,hv⟩:∃p n cap,ρ x= .slice p n cap:=by
  rcases hx with hx|hx
  ·obtain⟨p,cap,u,hv,_⟩:=(hρ _ _ hx).uV;exact⟨p,_,cap,hv⟩
  ·exact⟨G,0,0,(hρ _ _ hx).cH⟩
 have h0:ρ (.const (.int k 0))= .int k 0:=(hρ (.const (.int k 0)) _ rfl).cH;have h0':ρ (.const (.int k' 0))= .int k' 0:=(hρ (.const (.int k' 0)) _ rfl).cH;refine⟨.slice p 0 0,w,_,_,⟨_,rfl,rfl⟩,p9 hg (Kp.refl [] w) (.inl (by cases p<;>rfl)) ⟨[],⟨by simp, .inl ⟨_,rfl,rfl⟩⟩,λi hi=>by simp at hi,λi hi=>by simp at hi⟩,?_, .lit _⟩;simp[execOp,ho,hv,h0,h0',Instr.sliceAt,Instr.slice,Instr.sliceBounds,Instr.sliceBound,run_underlying hT,sizeOf,typeInfo,hj,asIntOf]
def Yp.anS{p:af Addr}{l c:Nat}(ho:o.op= .binOp .eql T x y T')(hx:E.ev x=V (.lit (.slice p l c)))(hy:E.ev y=V (.lit (.slice G 0 0)))(hT:P.underlying T=V (.slice e)):Yp P E σ o (.b p.isNone):=Yp.lits λρ hρ w=>by
 have:=Lib.run_eql_slice_nil (P:=P) w T e p l c 0 0 hT;simp[execOp,ho,hρ _ _ hx,hρ _ _ hy,eqGuard,this]
def PC{w:World}(p:af Addr)(q:Nat)(h:Good C σ w):Tr C [] σ w (.row (.slice p 0 0) q ([]:aa (U.dz q))::σ) w:=
 p9 h (Kp.refl [] w) (.inl (by cases p<;>rfl)) ⟨[],⟨by simp, .inl ⟨_,rfl,rfl⟩⟩,λi hi=>by simp at hi,λi hi=>by simp at hi⟩
def Vw(σ:aa cE)(a a':AV):Prop:=∀(A:Nat->Prop) (w:World) (v:Value),Hd A σ w->Rel A w a v->Rel (λb=>A b\/b∈bD σ) w a' v
def Vw.row{q:Nat}{l:aa (U.dz q)}(i:Nat)(hσ:σ[i]? =V (.row v q l)):Vw σ (.lit v) (.sl q l):=λA w u hd h=>by
 have hu:=h.cH;subst hu;have hm:=List.mem_of_getElem? hσ;obtain⟨us,h1,h2,h3⟩:=hd.1 _ hm;have hlm:l.length<=9223372036854775807:=by
  rcases h1.2 with ⟨_,_,h⟩|⟨_,_,_,_,_,q1,q2,_⟩
  ·omega
  ·unfold maxLen at q2;omega
 obtain⟨p,cap,hv,hcap⟩:=h1.len;by_cases h0:l.length=0
 ·rw[hv];exact .sl q l p cap (λ_ _=>undef) hlm hcap (λi hi=>by omega) (λi hi=>by omega) (λi j a hi=>by omega)
 ·obtain⟨g,ck,cur,hv2,hgb,hB,_⟩:=h1.at (by omega);rw[hv2]at hv;cases hv;rw[hv2];refine .sl q l _ (ck+1) (λi j=>(us[i*(U.sz q)+j]?).getD undef) hlm hcap h2 (λi hi=>⟨g,0,rfl,hB.lt, .inr (bT.2 ⟨_,hm,hgb⟩),λj hj=> ?_⟩) (λi j a hi ha=> ?_)
  ·have hlt:i*(U.sz q)+j<us.length:=by
    have:i*(U.sz q)+(U.sz q)<=l.length*(U.sz q):=by rw[<-yO];exact yL _ hi
    rw[h1.1];omega
   rw[yp,zu hlt];exact h1.cells hgb _ _ (zu hlt)
  ·obtain⟨u,q1,q2⟩:=(h3 i hi).get ha;rw[yF]at q1;split at q1
   ·rw[yD]at q1;rw[q1];exact q2.mono λb _ hA=>⟨.inl hA,rfl⟩
   ·cases q1
def Vw.nil(q:Nat):Vw σ (.lit (.slice G 0 0)) (.sl q ([]:aa (U.dz q))):=λA w u _ h=>by
 have hu:=h.cH;subst hu;exact .sl q [] none 0 (λ_ _=>undef) (by simp) (by simp) (λi hi=>by cases hi) (λi hi=>by cases hi) (λi j a hi=>by cases hi)
def O6{r:cE}{i:Nat}(hσ:σ[i]? =V r):List.Perm (bD σ) (bD (r::σ.eraseIdx i)):=by
 obtain⟨h1,_⟩:=vS (r':=r) hσ;have h2:σ.eraseIdx i=σ.take i++σ.drop (i+1):=wO ..;rw[h2];have hp:List.Perm (σ.take i++r::σ.drop (i+1)) (r::(σ.take i++σ.drop (i+1))):=List.perm_middle;rw[<-h1]at hp;exact hp.filterMap _
def LY{r:cE}{i:Nat}{w:World}(hσ:σ[i]? =V r)(hg:Good C σ w):∀b,(al C σ b\/b∈bD [r])->al C (σ.eraseIdx i) b:=λb hb=>by
 have hp:=O6 hσ;have hnd:=hp.nodup_iff.1 hg.GI;rcases hb with hb|hb
 ·exact⟨hb.1,λhx=>hb.2 (hp.mem_iff.2 (by rw[fC];exact yK _ hx))⟩
 ·have hbs:b∈r.blk.toList:=by rw[fC]at hb;simpa [bD]using hb
  refine⟨?_,λhx=> ?_⟩
  ·rcases hg.own b (hp.mem_iff.2 (by rw[fC];exact yJ _ hbs))with h|h
   ·exact .inr (.inl h)
   ·exact .inr (.inr h)
  ·rw[fC]at hnd;exact(yI.1 hnd).2.2 b hbs b hx rfl
end
def Fn(P:Program)(f:FuncId)(args:aa AV)(σ:aa cE)(Φ:AV->aa cE->Prop):Prop:=
 ∀(w:World) (A:Nat->Prop) (vs:aa Value),bN A w args vs->Hd A σ w->(bD σ).Nodup->
  Calls P f vs.toArray w λe w'=>∃v av σ',e= .returned v/\Φ av σ'/\Tr ⟨w,A,bD σ⟩ (bD σ) σ w σ' w'/\Rel (al ⟨w,A,bD σ⟩ σ') w' av v
def Fn.mono{P:Program}{f:FuncId}{args:aa AV}{σ:aa cE}{Φ Ψ:AV->aa cE->Prop}(h:Fn P f args σ Φ)(hp:∀a s,Φ a s->Ψ a s):Fn P f args σ Ψ:=λw A vs h1 h2 h3=>
 (h w A vs h1 h2 h3).mono λ_ _ ⟨v,av,σ',q1,q2,q3⟩=>⟨v,av,σ',q1,hp _ _ q2,q3⟩
def fq:Nat->aa AV->Env
 |_,[]=>[]
 |i,v::l=>(i,v)::fq (i+1) l
def Bz:∀(l:aa AV) (i t:Nat) (v:AV),Env.get (fq i l) t=V v->i<=t/\l[t-i]? =V v
 |[],_,_,_,h=>by cases h
 |u::l,i,t,v,h=>by
  by_cases hit:i=t
  ·subst hit;rw[fq,Env.fk]at h;cases h;simp
  ·rw[fq,Env.dV _ _ hit]at h;obtain⟨h1,h2⟩:=Bz l (i+1) t v h;refine⟨by omega,?_⟩;rw[show t-i=(t-(i+1))+1 from by omega];simpa using h2
def adm(P:Program)(C:Cx)(n:Nat)(fn:Func)(Φ:AV->aa cE->Prop):Exit->Env->aa cE->Prop:=λe E σ=>
 (e= .normal\/e= .ret)/\∀a w,tV C n E σ a w->∃v av σ',Φ av σ'/\(results fn a.tmps).run P w= .ok v w/\Good C σ' w/\(∀b,al C σ b->al C σ' b)/\Rel (al C σ') w av v
structure Tn (C:Cx) (w w':World):Prop where
 os:w'.os=w.os
 tape:w'.tape=w.tape
 output:w'.output=w.output
 drawn:w.drawn<=w'.drawn
 size:w.heap.size<=w'.heap.size
 old:∀k,k<C.w0.heap.size->w'.heap[k]? =w.heap[k]?
 same:∀(b:Nat) cs T m,w.heap[b]? =V (Obj.cells cs T m)->w'.heap[b]? =w.heap[b]?
def Rel.ID{C:Cx}{A:Nat->Prop}{w w':World}{av:AV}{v:Value}(h:Rel A w av v)(ht:Tn C w w'):Rel A w' av v:=by
 have hcell:∀b i u,w.cell? ⟨b,i,G⟩=V u->w'.cell? ⟨b,i,G⟩=V u:=λb i u hc=>by
  rw[<-hc];cases hb:w.heap[b]? with
  |none=>simp[World.cell?,hb]at hc
  |some o=>
   cases o with
   |cells cs T m=>exact World.cell?_of_block (ht.same b cs T m hb)
   |_=>simp[World.cell?,hb]at hc
 induction h with
 |lit v=>exact .lit v
 |sl q l p cap u hl hcap hz hc hr ih=>
  refine .sl q l p cap u hl hcap hz (λi hi=> ?_) ih;obtain⟨b,off,h1,h2,h3,h4⟩:=hc i hi;exact⟨b,off,h1,x8 h2 ht.size,h3,λj hj=>hcell _ _ _ (h4 j hj)⟩
 |fp cs b o us hb hA hl hc hr ih=>exact .fp cs b o us (x8 hb ht.size) hA hl (λj v hj=>hcell _ _ _ (hc j v hj)) ih
 |rp v k g h=>exact .rp v k g h
 |agg cs us hl hr ih=>exact .agg cs us hl ih
 |iR cs us hl hr ih=>exact .iR cs us hl ih
 |fn f cs us hl hr ih=>exact .fn f cs us hl ih
def cE.ok.ID{C:Cx}{A:Nat->Prop}{w w':World}{r:cE}(h:r.ok A w)(ht:Tn C w w'):r.ok A w':=by
 cases r with
 |box b T cs=>
  obtain⟨us,h1,h2⟩:=h;exact⟨us,(ht.same _ _ _ _ h1).trans h1,h2.1,λj a v q1 q2=>(h2.2 j a v q1 q2).ID ht⟩
 |row v q l=>
  obtain⟨us,h1,h2,h3⟩:=h;refine⟨us,⟨h1.1,?_⟩,h2,λi hi=>⟨(h3 i hi).1,λj a v q1 q2=>((h3 i hi).2 j a v q1 q2).ID ht⟩⟩;rcases h1.2 with q|⟨g,cap,cur,rfl,q1,q2⟩
  ·exact .inl q
  ·exact .inr ⟨g,cap,cur,rfl,(ht.same _ _ _ _ q1).trans q1,q2⟩
def Good.ID{C:Cx}{σ:aa cE}{w w':World}(h:Good C σ w)(ht:Tn C w w'):Good C σ w':=
 ⟨⟨ht.os.trans h.kept.os,ht.tape.trans h.kept.tape,ht.output.trans h.kept.output,zK h.kept.drawn ht.drawn,zK h.kept.size ht.size,λk hk hX=>(ht.old k hk).trans (h.kept.block k hk hX)⟩,
  λr hr=>(h.res r hr).ID ht,h.GI,h.own⟩
def Tn.putObj{C:Cx}{w:World}{D:Nat}{o:Obj}(o':Obj)(hw:C.w0.heap.size<=D)(hD:w.heap[D]? =V o)(ho:o.isCells=S):Tn C w (w.putObj D o'):=
 ⟨rfl,rfl,rfl,zn _,by simp[World.putObj],λk hk=>World.putObj_heap_other (by omega),λb cs T m hx=>World.putObj_heap_other λe=>by
  subst e;rw[hD]at hx;cases hx;cases ho⟩
def lN.ID{C:Cx}{A:Nat->Prop}{w w':World}{E:Env}{tmps:Array Value}(h:lN A w E tmps)(ht:Tn C w w'):lN A w' E tmps:=λt av q=>let ⟨v,h1,h2⟩:=h t av q;⟨v,h1,h2.ID ht⟩
def Fn.of{P:Program}{f:FuncId}{fn:Func}{c:Code}{n:Nat}{args:aa AV}{σ:aa cE}{Φ:AV->aa cE->Prop}(hf:P.funcs[f]? =V fn)(hb:fn.body=V c)(hn:fn.ntmps=n)(hl:yl args.length n=O)
  (h:∀C,CW P C n c (adm P C n fn Φ) (fq 0 args) σ):Fn P f args σ Φ:=λw A vs hr hd hnd=>by
 have hl':args.length<=n:=by simpa using hl
 have hvl:=hr.1;have hal:∀b,b<w.heap.size->A b->al ⟨w,A,bD σ⟩ σ b:=λb _ hA=>⟨.inl hA,λhx=>hd.2 b hx hA⟩;have hgood:Good ⟨w,A,bD σ⟩ σ w:=⟨Kp.refl _ _,λr hr=>(hd.1 r hr).mono (λb hb hA=>⟨hal b hb hA,rfl⟩) (λ_ _=>rfl),hnd,λb hb=> .inl hb⟩;refine callsIn_wide.1 (callsIn_of_wp_marks (n:=0) hf hb trivial (wpIn_wide.2 (wp_mono (h ⟨w,A,bD σ⟩ _ w ⟨.nil rfl,?_,λt v ht=> ?_,hgood⟩) ?_)))
 ·simp[hn,hvl];omega
 ·obtain⟨_,h2⟩:=Bz args 0 t v ht;rw[Nat.sub_zero]at h2;obtain⟨u,h3,h4⟩:=hr.get h2;have hlt:t<vs.length:=(z7.1 h3).1;refine⟨u,?_,h4.mono λb hb hA=>⟨hal b hb hA,rfl⟩⟩;rw[Array.getElem?_append_left (by simpa using hlt)];simpa using h3
 ·rintro e a' w' ⟨E',σ',h1,he,h2⟩;have fin:∀(w'':World),tV ⟨w,A,bD σ⟩ n E' σ' {a' with defers:=[]} w''->∃v,(results fn a'.tmps).run P w''= .ok v w''/\∃v' av σ'',Ending.returned v= .returned v'/\Φ av σ''/\Tr ⟨w,A,bD σ⟩ (bD σ) σ w σ'' w''/\Rel (al ⟨w,A,bD σ⟩ σ'') w'' av v':=λw'' hs=>by
   obtain⟨v,av,σ'',h3,h4,h5,h6,h7⟩:=h2 _ w'' hs;have hex:Tr ⟨w,A,bD σ⟩ (bD σ) σ w σ'' w'':=⟨h5,h5.kept,λb hb hA=>⟨⟨hA.1,λhx=>by
    rcases h5.own b hx with h|h
    ·exact hA.2 h
    ·exact dD hb (by have:w.heap.size<=b:=h;omega)⟩,hA.2⟩⟩
   exact⟨v,h4,v,av,σ'',rfl,h3,hex,h7⟩
  have lv:LeavesInM Fence.wide 0 P fn a'.tmps (λe w'=>∃v av σ',e= .returned v/\Φ av σ'/\Tr ⟨w,A,bD σ⟩ (bD σ) σ w σ' w'/\Rel (al ⟨w,A,bD σ⟩ σ') w' av v) a'.defers .returning w':=by
   obtain⟨Ds,hd1,hd2,hd3⟩:=h1.defers;rw[hd1];have hsl:=h1.slots;have hgd:=h1.good;have hsz:=h1.size;clear hd1 h1;induction Ds generalizing w' with
   |nil=>exact fin w' ⟨.nil rfl,hsz,hsl,hgd⟩
   |cons D Ds ih=>
    obtain⟨q1,q2,q3,q4⟩:=hd3 D zo;rw[List.nodup_cons]at hd2;refine⟨by simp, .inl ⟨D,_,rfl,run_takeDeferred q4,?_⟩⟩;have ht:Tn ⟨w,A,bD σ⟩ w' (w'.putObj D (.deferred G)):= .putObj _ q2 q4 rfl;refine ih _ hd2.2 (λD' hD'=> ?_) (hsl.ID ht) (hgd.ID ht);obtain⟨p1,p2,p3,p4⟩:=hd3 D' (zO _ hD');have hne:D'≠D:=λe=>hd2.1 (e▸hD');exact⟨x8 p1 ht.size,p2,p3,(World.putObj_heap_other hne).trans p4⟩
  rcases he with rfl|rfl
  ·exact lv
  ·exact lv
def tI(tmps:Array Value):ResultVar->Sem Value
 | .tmp t=>pure (tmps.getD t undef)
 | .cell a t=>do loadVar t (<-asAddr (tmps.getD a undef))
def DA(P:Program)(E:Env)(σ:aa cE)(rv:ResultVar)(av:AV):Prop:=∀(A:Nat->Prop) (w:World) (tmps:Array Value),Hd A σ w->lN A w E tmps->∃v,(tI tmps rv).run P w= .ok v w/\Rel A w av v
section
variable {P:Program} {C:Cx} {n:Nat} {fn:Func} {E:Env} {σ σ':aa cE} {t u:Nat} {av:AV} {e:Exit} {Φ:AV->aa cE->Prop}
def DA.tmp(h:E.get t=V av):DA P E σ (.tmp t) av:=λA w tmps _ hs=>by
 obtain⟨v,h1,h2⟩:=hs t av h;exact⟨v,by simp[tI,h1],h2⟩
def DA.auN{g:Nat}{ty T:TypeId}{cs:aa AV}(i:Nat)(h:E.get t=V (.lit (.pointer (V ⟨g,0,G⟩))))(hσ:σ[i]? =V (.box g T cs))(hT:sC P ty)(ha:cs[0]? =V av):DA P E σ (.cell t ty) av:=λA w tmps hd hs=>by
 obtain⟨v,h1,h2⟩:=hs t _ h;have h2:=h2.cH;subst h2;obtain⟨us,h3,h4⟩:=hd.1 _ (List.mem_of_getElem? hσ);obtain⟨v,h5,h6⟩:=h4.get ha;exact⟨v,by simp[tI,h1,asAddr,iG hT (h3.cell (by simpa using h5))],h6⟩
def DA.auw{g k:Nat}{ty T:TypeId}{cs:aa AV}(i:Nat)(h:E.get t=V (.lit (.pointer (V ⟨g,0,G⟩))))(hσ:σ[i]? =V (.box g T cs))(hT:sZ P ty k)(hk:cs.length=k):DA P E σ (.cell t ty) (.agg cs):=λA w tmps hd hs=>by
 obtain⟨v,h1,h2⟩:=hs t _ h;have h2:=h2.cH;subst h2;obtain⟨us,h3,h4⟩:=hd.1 _ (List.mem_of_getElem? hσ);refine⟨_,?_,Rel.oN h4⟩;have:=gZ (P:=P) (T:=ty) (w:=w) (a:=⟨g,0,G⟩) (cs:=us) (by rw[h4.1,hk];exact hT) (λj u hj=>by rw[qk,yp];exact h3.cell (by simpa using hj));simp[tI,h1,asAddr,this]
def Yl(he:e= .normal\/e= .ret)(hs:List.Sublist σ' σ)(hΦ:Φ av σ')(h:∀A w tmps,Hd A σ w->lN A w E tmps->∃v,(results fn tmps).run P w= .ok v w/\Rel A w av v):adm P C n fn Φ e E σ:=
 ⟨he,λa w ha=>by
  obtain⟨v,h1,h2⟩:=h _ w a.tmps ha.good.hd ha.slots;have hl:=ha.less hs;have hal:∀b,al C σ b->al C σ' b:=λb hb=>⟨hb.1,λhx=>hb.2 (pz (λr hr=>hs.subset hr) b hx)⟩;exact⟨v,av,σ',hΦ,h1,hl.good,hal,h2.mono λb _ hA=>⟨hal b hA,rfl⟩⟩⟩
end
def th(P:Program)(f:FuncId):Prop:=∃fn,P.funcs[f]? =V fn/\(fn.name=="runtime.NumGoroutine")=S/\fn.body.isNone=S
def BR{P:Program}{f:FuncId}{w:World}(hf:th P f)(args:Array Value):(callFunc f args).run P w= .ok (.enter f args) w:=by
 obtain⟨fn,h1,h2,h3⟩:=hf;have h2':¬fn.name="runtime.NumGoroutine":=by simpa using h2
 have h3':¬fn.body=G:=by
  intro h;rw[h]at h3;cases h3
 simp[callFunc,program,Sem.run,h1,h2',h3']
def Cl(a:AV):Prop:=∀A A' w v,Rel A w a v->Rel A' w a v
def Cl.lit(v:Value):Cl (.lit v):=λA A' w u h=>by rw[h.cH];exact .lit v
def K8(as0:aa AV):Prop:=∀A A' w us,bN A w as0 us->bN A' w as0 us
def K8.nil:K8 []:=λA A' w us h=>by
 have:us=[]:=xy (by simpa using h.1);rw[this];exact bN.nil
def K8.cons{a:AV}{as0:aa AV}(h:Cl a)(hs:K8 as0):K8 (a::as0):=λA A' w us hr=>by
 obtain⟨v,us',rfl,h1,h2⟩:=hr.head;exact bN.cons (h A A' w v h1) (hs A A' w us' h2)
def Cl.agg{as0:aa AV}(h:K8 as0):Cl (.agg as0):=λA A' w v hr=>by
 obtain⟨us,rfl,h1⟩:=hr.oD;exact Rel.oN (h A A' w us h1)
def Cl.iR{as0:aa AV}(h:K8 as0):Cl (.iR as0):=λA A' w v hr=>by
 obtain⟨us,rfl,h1⟩:=hr.Qe;exact Rel.Gw (h A A' w us h1)
def ClR(r:cE):Prop:=∀A A' w,r.ok A w->r.ok A' w
def ClR.box{b:Nat}{T:TypeId}{cs:aa AV}(h:K8 cs):ClR (.box b T cs):=λA A' w ⟨us,h1,h2⟩=>⟨us,h1,h A A' w us h2⟩
def ClR.row{v:Value}{q:Nat}{l:aa (U.dz q)}(h:∀x,K8 (U.cells q x)):ClR (.row v q l):=λA A' w ⟨us,h1,h2,h3⟩=>⟨us,h1,h2,λi hi=>h _ A A' w _ (h3 i hi)⟩
section
variable {P:Program} {C:Cx} {E:Env} {σ σp σr:aa cE} {o:Oper} {x:Operand} {f:FuncId} {xs:Array Operand} {ts:Array TypeId} {as0 caps args:aa AV} {Φ:AV->aa cE->Prop}
def Xm{A:Nat->Prop}{w:World}{ρ:Operand->Value}(ho:o.op= .call {callee:= .value x,args:=xs,argTypes:=ts})(hx:E.ev x=V (.fn (.func f) caps))(hf:th P f)(he:E.ML xs.toList=V as0)(ha:as0++caps=args)(hρ:OI A w E ρ):∃us:aa Value,bN A w args us/\(execOp ρ o).run P w= .ok (.enter f us.toArray) w:=by
 obtain⟨us,h1,h2⟩:=(hρ _ _ hx).YX;have h3:=Env.J1 hρ he;refine⟨xs.toList.map ρ++us,ha▸h3.app h2,?_⟩;have h4:xs.map ρ=(xs.toList.map ρ).toArray:=by apply Array.ext';simp
 simp[execOp,ho,resolve,h1,Deferred.ofValue,invoke,BR hf,h4]
def bR{σp σr:aa cE}{b:Nat}:b∈bD (σp++σr)↔b∈bD σp\/b∈bD σr:=by rw[gU,zW]
def BU{w w':World}{A:Nat->Prop}{σo:aa cE}(hg:Good C (σp++σr) w)(hA:∀b,A b->b<w.heap.size->al C (σp++σr) b\/b∈bD σr)(ht:Tr ⟨w,A,bD σp⟩ (bD σp) σp w σo w')
  (hok:∀r∈σo,r.ok (al C (σo++σr)) w'):Tr C (bD σp) (σp++σr) w (σo++σr) w':=by
 have hlt:∀b∈bD (σp++σr),b<w.heap.size:=λb hb=>by
  obtain⟨s,h1,h2⟩:=bT.1 hb;exact(hg.res s h1).lt h2
 have hdis:=hg.GI;rw[gU]at hdis;obtain⟨d1,d2,d3⟩:=yI.1 hdis;have hown:∀b∈bD σo,b∈bD σp\/w.heap.size<=b:=ht.good.own;have hal:∀b,b<w.heap.size->al C (σp++σr) b->al C (σo++σr) b/\b∉bD σp:=λb hb hA=>by
  have h2:b∉bD σp/\b∉bD σr:=by
   have:=hA.2;rw[bR]at this;exact⟨λh=>this (.inl h),λh=>this (.inr h)⟩
  refine⟨⟨hA.1,λhx=> ?_⟩,h2.1⟩;rcases bR.1 hx with h|h
  ·rcases hown b h with h|h
   ·exact h2.1 h
   ·omega
  ·exact h2.2 h
 refine⟨⟨hg.kept.trans ht.kp (λb hb hlt0=> ?_),λr hr=> ?_,?_,λb hb=> ?_⟩,ht.kp,hal⟩
 ·rcases hg.own b (bR.2 (.inl hb))with h|h
  ·exact h
  ·exact dD hlt0 (by omega)
 ·rcases zW.1 hr with h|h
  ·exact hok r h
  ·refine(hg.res r (yK _ h)).mono (λb hb hA=>⟨(hal b hb hA).1,ht.kp.block b hb (hal b hb hA).2⟩) (λb hb=> ?_);have hbr:b∈bD σr:=bT.2 ⟨r,h,hb⟩;exact ht.kp.block b (hlt b (bR.2 (.inr hbr))) (λhp=>d3 b hp b hbr rfl)
 ·rw[gU];refine yI.2 ⟨ht.good.GI,d2,λa ha b hb hab=> ?_⟩;subst hab;rcases hown a ha with h|h
  ·exact d3 a h a hb rfl
  ·have:=hlt a (bR.2 (.inr hb));omega
 ·rcases bR.1 hb with h|h
  ·rcases hown b h with h|h
   ·exact hg.own b (bR.2 (.inl h))
   ·exact .inr (zK hg.kept.size h)
  ·exact hg.own b (bR.2 (.inr h))
def Yc.fn(ho:o.op= .call {callee:= .value x,args:=xs,argTypes:=ts})(hx:E.ev x=V (.fn (.func f) caps))(hf:th P f)(he:E.ML xs.toList=V as0)(ha:as0++caps=args)(hσ:σ=σp++σr)(h:Fn P f args σp Φ):
  Yc P E σ o C (bD σp) (λav σ'=>∃σo,Φ av σo/\σ'=σo++σr):=λw ρ hg hρ=>by
 subst hσ;obtain⟨us,h1,h2⟩:=Xm ho hx hf he ha hρ;have hlt:∀b∈bD (σp++σr),b<w.heap.size:=λb hb=>by
  obtain⟨s,h1,h2⟩:=bT.1 hb;exact(hg.res s h1).lt h2
 have hd:Hd (al C (σp++σr)) σp w:=⟨λr hr=>hg.res r (yJ _ hr),λb hb hA=>hA.2 (bR.2 (.inl hb))⟩;have hnd:(bD σp).Nodup:=by have:=hg.GI;rw[gU]at this;exact(yI.1 this).1
 refine⟨f,us.toArray,h2,(h w (al C (σp++σr)) us h1 hd hnd).mono λe w' ⟨v,av,σo,q1,q2,q3,q4⟩=> ?_⟩;have hown:∀b∈bD σo,b∈bD σp\/w.heap.size<=b:=q3.good.own;have hsub:∀b,b<w'.heap.size->al ⟨w,al C (σp++σr),bD σp⟩ σo b->al C (σo++σr) b:=λb _ hb=>by
  obtain⟨hb1,hb2⟩:=hb;rcases hb1 with hb1|hb1|hb1
  ·exact⟨hb1.1,λhx=>(bR.1 hx).elim hb2 (λh=>hb1.2 (bR.2 (.inr h)))⟩
  ·have hbp:b∈bD σp:=hb1;refine⟨?_,λhx=>(bR.1 hx).elim hb2 (λh=> ?_)⟩
   ·rcases hg.own b (bR.2 (.inl hbp))with h|h
    ·exact .inr (.inl h)
    ·exact .inr (.inr h)
   ·have hdis:=hg.GI;rw[gU]at hdis;exact(yI.1 hdis).2.2 b hbp b h rfl
  ·have hbw:w.heap.size<=b:=hb1;exact⟨.inr (.inr (zK hg.kept.size hbw)),λhx=>(bR.1 hx).elim hb2 (λh=>by have:=hlt b (bR.2 (.inr h));omega)⟩
 exact⟨v,av,σo++σr,q1,⟨σo,q2,rfl⟩,BU hg (λb hA _=> .inl hA) q3 (λr hr=>(q3.good.res r hr).mono (λb hb hA=>⟨hsub b hb hA,rfl⟩) (λ_ _=>rfl)),q4.mono λb hb hA=>⟨hsub b hb hA,rfl⟩⟩
end
end Go.Iv
namespace Go.Iv
variable [U:qO]
open Go Go.RowKit
section
variable {P:Program} {E E':Env} {σ σ':aa cE} {o:Oper} {x:Operand} {av bv:AV} {C:Cx} {X:aa Nat} {n:Nat}
end
def oI{α:Type}{c:Prop}[Decidable c]{a:af α}{r:α}(h:(if c then a else G)=V r):c/\a=V r:=by
 split at h
 ·exact⟨by assumption,h⟩
 ·cases h
abbrev cN(k:IntKind)(n:Int):aa AV:=[.n k n]
instance:Inhabited ByteArray:=⟨.empty⟩
end Go.Iv
namespace Go.Iv
variable [U:qO]
open Go Go.RowKit
section
variable {P:Program} {E E':Env} {σ σ':aa cE} {o:Oper} {x:Operand} {av bv:AV} {C:Cx} {X:aa Nat} {n:Nat}
def Yp.conv{T T':TypeId}{k k':IntKind}{m:Int}(hT:P.underlying T=V (.int k))(hT':P.underlying T'=V (.int k'))(ho:o.op= .convert T T' x)(hx:E.ev x=V (.n k m)):Yp P E σ o (.n k' (k'.wrap m)):=Yp.lits λρ hρ w=>by
 simp[execOp,ho,hρ _ _ hx,convert,run_underlying hT,run_underlying hT',Conv.intToInt]
end
structure Gh where
 v:Nat->Value
 b:Nat->Nat
def cc.sub(ρ:Gh):AV->AV
 | .lit v=> .lit v
 | .sl t l=> .sl t l
 | .fp cs=> .fp (cs.map (cc.sub ρ))
 | .rp v k=> .rp v k
 | .agg cs=> .agg (cs.map (cc.sub ρ))
 | .iR cs=> .iR (cs.map (cc.sub ρ))
 | .fn f cs=> .fn f (cs.map (cc.sub ρ))
 | .own id=> .lit (ρ.v id)
 | .ptr id off=> .lit (.pointer (V ⟨ρ.b id,off,G⟩))
 | .ra id t m off=> .rp (ρ.v id) (m*U.sz t+off)
inductive gX (p:Nat->Prop):AV->Prop
 |lit (v:Value):gX p (.lit v)
 |sl (t:Nat) (l:List (U.dz t)):gX p (.sl t l)
 |fp (cs:List AV) (h:∀c∈cs,gX p c):gX p (.fp cs)
 |rp (v:Value) (k:Nat):gX p (.rp v k)
 |agg (cs:List AV) (h:∀c∈cs,gX p c):gX p (.agg cs)
 |iR (cs:List AV) (h:∀c∈cs,gX p c):gX p (.iR cs)
 |fn (f:Go.Fn) (cs:List AV) (h:∀c∈cs,gX p c):gX p (.fn f cs)
 |own (id:Nat) (h:p id):gX p (.own id)
 |ptr (id off:Nat) (h:p id):gX p (.ptr id off)
 |ra (id t m off:Nat) (h:p id):gX p (.ra id t m off)
abbrev cS(n:Nat):AV->Prop:=gX (λi=>i<n)
def Ags(p:Nat->Prop)(ρ ρ':Gh):Prop:=∀i,p i->ρ.v i=ρ'.v i/\ρ.b i=ρ'.b i
def gX.mono{p q:Nat->Prop}{d:AV}(h:gX p d)(hn:∀i,p i->q i):gX q d:=by
 induction h with
 |lit v=>exact .lit v
 |sl t l=>exact .sl t l
 |fp cs _ ih=>exact .fp cs ih
 |rp v k=>exact .rp v k
 |agg cs _ ih=>exact .agg cs ih
 |iR cs _ ih=>exact .iR cs ih
 |fn f cs _ ih=>exact .fn f cs ih
 |own id h=>exact .own id (hn _ h)
 |ptr id off h=>exact .ptr id off (hn _ h)
 |ra id t m off h=>exact .ra id t m off (hn _ h)
def gX.sub{p:Nat->Prop}{d:AV}{ρ ρ':Gh}(h:gX p d)(ha:Ags p ρ ρ'):d.sub ρ=d.sub ρ':=by
 have key:∀cs:aa AV,(∀c∈cs,c.sub ρ=c.sub ρ')->cs.map (cc.sub ρ)=cs.map (cc.sub ρ'):=λcs h=>zX h;induction h with
 |lit v=>simp only[cc.sub]
 |sl t l=>simp only[cc.sub]
 |fp cs _ ih=>simp only[cc.sub];rw[key cs ih]
 |rp v k=>simp only[cc.sub]
 |agg cs _ ih=>simp only[cc.sub];rw[key cs ih]
 |iR cs _ ih=>simp only[cc.sub];rw[key cs ih]
 |fn f cs _ ih=>simp only[cc.sub];rw[key cs ih]
 |own id h=>simp only[cc.sub];rw[(ha id h).1]
 |ptr id off h=>simp only[cc.sub];rw[(ha id h).2]
 |ra id t m off h=>simp only[cc.sub];rw[(ha id h).1]
def gX.Z9{p:Nat->Prop}{cs:aa AV}{ρ ρ':Gh}(h:∀c∈cs,gX p c)(ha:Ags p ρ ρ'):cs.map (cc.sub ρ)=cs.map (cc.sub ρ'):=zX λc hc=>(h c hc).sub ha
def oS(n:Nat)(ρ ρ':Gh):Prop:=∀i,i<n->ρ.v i=ρ'.v i/\ρ.b i=ρ'.b i
def oS.refl(n:Nat)(ρ:Gh):oS n ρ ρ:=λ_ _=>⟨rfl,rfl⟩
def oS.trans{n m:Nat}{ρ ρ' ρ'':Gh}(h:oS n ρ ρ')(h':oS m ρ' ρ'')(hn:n<=m):oS n ρ ρ'':=λi hi=>
 ⟨(h i hi).1.trans (h' i (by omega)).1,(h i hi).2.trans (h' i (by omega)).2⟩
def cS.mono{n m:Nat}{d:AV}(h:cS n d)(hn:n<=m):cS m d:=gX.mono h λ_ hi=>x8 hi hn
def cS.sub{n:Nat}{d:AV}{ρ ρ':Gh}(h:cS n d)(ha:oS n ρ ρ'):d.sub ρ=d.sub ρ':=gX.sub h ha
def cS.Z9{n:Nat}{cs:aa AV}{ρ ρ':Gh}(h:∀c∈cs,cS n c)(ha:oS n ρ ρ'):cs.map (cc.sub ρ)=cs.map (cc.sub ρ'):=gX.Z9 h ha
inductive IR:Type
 |box (T:Nat) (cs:List AV)
 |row (t:Nat) (l:List (U.dz t))
def IR.res(ρ:Gh)(id:Nat):IR->cE
 | .box T cs=> .box (ρ.b id) T (cs.map (cc.sub ρ))
 | .row t l=> .row (ρ.v id) t l
abbrev bg:Type:=aa (Nat×IR)
def bg.res(ρ:Gh)(R:bg):aa cE:=R.map λp=>p.2.res ρ p.1
def IR.cS(n:Nat):IR->Prop
 | .box _ cs=>∀c∈cs,Iv.cS n c
 | .row _ _=>True
def bg.cS(n:Nat)(R:bg):Prop:=∀p∈R,p.1<n/\p.2.cS n
def IR.cS.mono{n m:Nat}{r:IR}(h:r.cS n)(hn:n<=m):r.cS m:=by
 cases r with
 |box T cs=>exact λc hc=>(h c hc).mono hn
 |row t l=>trivial
def bg.cS.mono{n m:Nat}{R:bg}(h:bg.cS n R)(hn:n<=m):bg.cS m R:=λp hp=>⟨x8 (h p hp).1 hn,(h p hp).2.mono hn⟩
def IR.cS.res{n id:Nat}{r:IR}{ρ ρ':Gh}(h:r.cS n)(hi:id<n)(ha:oS n ρ ρ'):r.res ρ id=r.res ρ' id:=by
 cases r with
 |box T cs=>simp only[IR.res];rw[(ha id hi).2,Iv.cS.Z9 h ha]
 |row t l=>simp only[IR.res];rw[(ha id hi).1]
def bg.cS.res{n:Nat}{R:bg}{ρ ρ':Gh}(h:bg.cS n R)(ha:oS n ρ ρ'):bg.res ρ R=bg.res ρ' R:=zX λp hp=>(h p hp).2.res (h p hp).1 ha
def gp(R:bg)(id:Nat):af IR:=List.rec G (λp _ ih=>Bool.rec ih (V p.2) (zf p.1 id)) R
def sY(id:Nat)(r':IR)(R:bg):bg:=List.rec [] (λp R ih=>Bool.rec (p::ih) ((p.1,r')::R) (zf p.1 id)) R
def kH(id:Nat)(R:bg):bg:=List.rec [] (λp R ih=>Bool.rec (p::ih) R (zf p.1 id)) R
def Wn{i:Nat}{r:IR}{R:bg}{id:Nat}:gp ((i,r)::R) id=match zf i id with
  |true=>V r
  |false=>gp R id:=by
 show Bool.rec (motive:=λ_=>_) (gp R id) (V r) (zf i id)=_;cases zf i id<;>rfl
def G7{i:Nat}{r r':IR}{R:bg}{id:Nat}:sY id r' ((i,r)::R)=match zf i id with
  |true=>(i,r')::R
  |false=>(i,r)::sY id r' R:=by
 show Bool.rec (motive:=λ_=>_) ((i,r)::sY id r' R) ((i,r')::R) (zf i id)=_;cases zf i id<;>rfl
def vJ{i:Nat}{r:IR}{R:bg}{id:Nat}:kH id ((i,r)::R)=match zf i id with
  |true=>R
  |false=>(i,r)::kH id R:=by
 show Bool.rec (motive:=λ_=>_) ((i,r)::kH id R) R (zf i id)=_;cases zf i id<;>rfl
def gz{a b:Nat}(h:zf a b=O):a=b:=xh h
def eR:∀{R:bg} {id:Nat} {r:IR},gp R id=V r->∃i:Nat,R[i]? =V (id,r)/\(∀r',sY id r' R=R.set i (id,r'))/\kH id R=R.eraseIdx i
 |[],_,_,h=>by cases h
 |(i,r)::R,id,r0,h=>by
  rw[Wn]at h;cases hb:zf i id with
  |true=>
   rw[hb]at h;cases h;cases gz hb;exact⟨0,rfl,λr'=>by rw[G7,hb];rfl,by rw[vJ,hb];rfl⟩
  |false=>
   rw[hb]at h;obtain⟨j,h1,h2,h3⟩:=eR h;exact⟨j+1,h1,λr'=>by rw[G7,hb];simp[h2],by rw[vJ,hb];simp[h3]⟩
def ia{R:bg}{ρ:Gh}{i id:Nat}{r:IR}(h:R[i]? =V (id,r)):(bg.res ρ R)[i]? =V (r.res ρ id):=by
 unfold bg.res;rw[yb,h];rfl
def uA{R:bg}{ρ:Gh}{i id:Nat}{r:IR}:bg.res ρ (R.set i (id,r))=(bg.res ρ R).set i (r.res ρ id):=by
 unfold bg.res;rw[List.map_set]
def AB{R:bg}{ρ:Gh}{i:Nat}:bg.res ρ (R.eraseIdx i)=(bg.res ρ R).eraseIdx i:=by
 unfold bg.res;rw[wO,wO,z8,xQ,xJ]
def Fj{R:bg}{id n:Nat}{r:IR}(h:gp R id=V r)(hR:bg.cS n R):id<n/\r.cS n:=by
 obtain⟨i,h1,_⟩:=eR h;exact hR _ (List.mem_of_getElem? h1)
def qy{R:bg}{id n:Nat}{r r':IR}(h:gp R id=V r)(hR:bg.cS n R)(hr:r'.cS n):bg.cS n (sY id r' R):=by
 obtain⟨i,h1,h2,_⟩:=eR h;rw[h2];intro p hp;rcases List.mem_or_eq_of_mem_set hp with hp|rfl
 ·exact hR p hp
 ·exact⟨(hR _ (List.mem_of_getElem? h1)).1,hr⟩
def CM{R:bg}{id n:Nat}(hR:bg.cS n R):bg.cS n (kH id R):=by
 induction R with
 |nil=>exact hR
 |cons p R ih=>
  obtain⟨i,r⟩:=p;have h2:bg.cS n R:=λp hp=>hR p (zO _ hp);rw[vJ];split
  ·exact h2
  ·intro q hq;rcases zD.1 hq with rfl|hq
   ·exact hR _ zo
   ·exact ih h2 q hq
def Env.sub(ρ:Gh)(E:Env):Env:=E.map λp=>(p.1,p.2.sub ρ)
def Env.cS(n:Nat)(E:Env):Prop:=∀p∈E,Iv.cS n p.2
def Env.fh{ρ:Gh}(t:Nat):∀(E:Env),(E.sub ρ).get t=(E.get t).map (cc.sub ρ)
 |[]=>rfl
 |(k,v)::E=>by
  show Env.get ((k,v.sub ρ)::Env.sub ρ E) t=_;unfold Env.get;cases hb:zf k t with
  |true=>rfl
  |false=>exact Env.fh t E
def Env.PR{ρ:Gh}{E:Env}(x:Operand):(E.sub ρ).ev x=(E.ev x).map (cc.sub ρ):=by
 cases x with
 |tmp t=>exact Env.fh t E
 |const v=>simp[Env.ev,cc.sub]
 |global g=>simp[Env.ev,cc.sub]
 |func f=>simp[Env.ev,cc.sub]
def Env.get_mem:∀{E:Env} {t:Nat} {d:AV},E.get t=V d->(t,d)∈E
 |[],_,_,h=>by cases h
 |(k,v)::E,t,d,h=>by
  unfold Env.get at h;cases hb:zf k t with
  |true=>
   rw[hb]at h;cases h;cases gz hb;exact zo
  |false=>
   rw[hb]at h;exact zO _ (Env.get_mem h)
def Env.Zb{E:Env}{n:Nat}{x:Operand}{d:AV}(hE:E.cS n)(h:E.ev x=V d):Iv.cS n d:=by
 cases x with
 |tmp t=>exact hE _ (Env.get_mem h)
 |const v=>cases h;exact .lit _
 |global g=>cases h;exact .lit _
 |func f=>cases h;exact .fn _ [] (by simp)
def Env.cS.mono{n m:Nat}{E:Env}(h:E.cS n)(hn:n<=m):E.cS m:=λp hp=>(h p hp).mono hn
def Env.cS.sub{n:Nat}{E:Env}{ρ ρ':Gh}(h:E.cS n)(ha:oS n ρ ρ'):E.sub ρ=E.sub ρ':=zX λp hp=>by rw[(h p hp).sub ha]
inductive X0 (dz:Nat->Type):Type
 |e
 |n (v:Option (cc dz)) (l r:X0 dz)
abbrev ET:Type:=X0 U.dz
def cQ(T:ET):Nat->af AV:=X0.rec (λ_=>G) (λv _ _ il ir k=>Bool.rec (Bool.rec (ir (Nat.div (Nat.sub k 1) 2)) (il (Nat.div (Nat.sub k 1) 2)) (zf (Nat.mod (Nat.sub k 1) 2) 0)) v (zf k 0)) T
def X0.v:ET->af AV
 | .e=>G
 | .n v _ _=>v
def X0.l:ET->ET
 | .e=> .e
 | .n _ l _=>l
def X0.r:ET->ET
 | .e=> .e
 | .n _ _ r=>r
def Ya(d:AV)(ih:ET->Nat->ET)(v:af AV)(l r:ET)(k:Nat):ET:=Bool.rec (Bool.rec (.n v l (ih r (Nat.div (Nat.sub k 1) 2))) (.n v (ih l (Nat.div (Nat.sub k 1) 2)) r) (zf (Nat.mod (Nat.sub k 1) 2) 0)) (.n (V d) l r) (zf k 0)
def sA(d:AV)(m:Nat):ET->Nat->ET:=Nat.rec (λ_ _=> .e) (λ_ ih T k=>X0.rec (Ya d ih G .e .e k) (λv l r _ _=>Ya d ih v l r k) T) m
def mE(t:Nat)(d:AV)(T:ET):ET:=sA d 12 T t
def emap(f:AV->AV)(T:ET):ET:=X0.rec .e (λv _ _ il ir=> .n (v.map f) il ir) T
def oz(v:af AV)(l r:ET)(k:Nat):cQ (.n v l r) k=if k=0 then v else if(k-1)%2=0 then cQ l ((k-1)/2)else cQ r ((k-1)/2):=by
 show Bool.rec (motive:=λ_=>af AV) (Bool.rec (motive:=λ_=>af AV) (cQ r ((k-1)/2)) (cQ l ((k-1)/2)) (zf ((k-1)%2) 0)) v (zf k 0)=_;by_cases hk:k=0
 ·subst hk;rfl
 ·have h1:zf k 0=S:=by
   cases h:zf k 0 with
   |false=>rfl
   |true=>exact dD (xh h) hk
  rw[h1,bO hk];by_cases h2:(k-1)%2=0
  ·rw[h2];rfl
  ·have h3:zf ((k-1)%2) 0=S:=by
    cases h:zf ((k-1)%2) 0 with
    |false=>rfl
    |true=>exact dD (xh h) h2
   rw[h3,bO h2]
def an7(k:Nat):cQ (.e:ET) k=G:=rfl
def NA(T:ET)(k:Nat):cQ T k=if k=0 then T.v else if(k-1)%2=0 then cQ T.l ((k-1)/2)else cQ T.r ((k-1)/2):=by
 cases T with
 |e=>simp only[X0.v,X0.l,X0.r,an7,ite_self]
 |n v l r=>exact oz v l r k
def UQ(d:AV)(m:Nat)(T:ET)(k:Nat):sA d (m+1) T k=if k=0 then .n (V d) T.l T.r else if(k-1)%2=0 then .n T.v (sA d m T.l ((k-1)/2)) T.r else .n T.v T.l (sA d m T.r ((k-1)/2)):=by
 have e:sA d (m+1) T k=Ya d (sA d m) T.v T.l T.r k:=by cases T<;>rfl
 rw[e];show Bool.rec (motive:=λ_=>ET) (Bool.rec (motive:=λ_=>ET) (.n T.v T.l (sA d m T.r ((k-1)/2))) (.n T.v (sA d m T.l ((k-1)/2)) T.r) (zf ((k-1)%2) 0)) (.n (V d) T.l T.r) (zf k 0)=_;by_cases hk:k=0
 ·subst hk;rfl
 ·have h1:zf k 0=S:=by
   cases h:zf k 0 with
   |false=>rfl
   |true=>exact dD (xh h) hk
  rw[h1,bO hk];by_cases h2:(k-1)%2=0
  ·rw[h2];rfl
  ·have h3:zf ((k-1)%2) 0=S:=by
    cases h:zf ((k-1)%2) 0 with
    |false=>rfl
    |true=>exact dD (xh h) h2
   rw[h3,bO h2]
def Aw(d:AV):∀(m:Nat) (T:ET) (k s:Nat) (av:AV),cQ (sA d m T k) s=V av->(k=s/\av=d)\/(k≠s/\cQ T s=V av)
 |0,T,k,s,av,h=>by cases h
 |m+1,T,k,s,av,h=>by
  rw[UQ]at h;rw[NA T s];split at h
  ·rename_i hk;subst hk;rw[oz]at h;split at h
   ·rename_i hs;subst hs;cases h;exact .inl ⟨rfl,rfl⟩
   ·rename_i hs;rw[bO hs];exact .inr ⟨λe=>hs e.symm,h⟩
  ·rename_i hk;split at h
   ·rename_i hk2;rw[oz]at h;split at h
    ·rename_i hs;subst hs;exact .inr ⟨hk,by rw[bE rfl];exact h⟩
    ·rename_i hs;rw[bO hs];split at h
     ·rename_i hs2;rw[bE hs2];rcases Aw d m T.l _ _ av h with ⟨h1,h2⟩|⟨h1,h2⟩
      ·exact .inl ⟨by omega,h2⟩
      ·exact .inr ⟨λe=>h1 (by rw[e]),h2⟩
     ·rename_i hs2;rw[bO hs2];exact .inr ⟨λe=>hs2 (by rw[<-e];exact hk2),h⟩
   ·rename_i hk2;rw[oz]at h;split at h
    ·rename_i hs;subst hs;exact .inr ⟨hk,by rw[bE rfl];exact h⟩
    ·rename_i hs;rw[bO hs];split at h
     ·rename_i hs2;rw[bE hs2];exact .inr ⟨λe=>hk2 (by rw[e];exact hs2),h⟩
     ·rename_i hs2;rw[bO hs2];rcases Aw d m T.r _ _ av h with ⟨h1,h2⟩|⟨h1,h2⟩
      ·exact .inl ⟨by omega,h2⟩
      ·exact .inr ⟨λe=>h1 (by rw[e]),h2⟩
def o9{t s:Nat}{d av:AV}{T:ET}(h:cQ (mE t d T) s=V av):(t=s/\av=d)\/(t≠s/\cQ T s=V av):=Aw d 12 T t s av h
def uG(f:AV->AV):∀(T:ET) (s:Nat),cQ (emap f T) s=(cQ T s).map f
 | .e,s=>rfl
 | .n v l r,s=>by
  show cQ (.n (v.map f) (emap f l) (emap f r)) s=_;rw[oz,oz,uG f l,uG f r];split
  ·rfl
  ·split<;>rfl
def tL(T:ET)(E:Env):Prop:=∀t d,cQ T t=V d->E.get t=V d
def tL.put{T:ET}{E:Env}(h:tL T E)(t:Nat)(d:AV):tL (mE t d T) ((t,d)::E):=λs av hs=>by
 rcases o9 hs with ⟨rfl,rfl⟩|⟨h1,h2⟩
 ·exact Env.fk _ _ _
 ·rw[Env.dV _ _ h1];exact h s av h2
def Gd(T:ET):Operand->af AV
 | .tmp t=>cQ T t
 | .const v=>V (.lit v)
 | .global g=>V (.lit (.pointer (V ⟨g,0,G⟩)))
 | .func f=>V (.fn (.func f) [])
def tL.ev{T:ET}{E:Env}(h:tL T E)(x:Operand)(d:AV)(hx:Gd T x=V d):E.ev x=V d:=by
 cases x with
 |tmp t=>exact h t d hx
 |_=>exact hx
structure St where
 E:ET
 R:bg
 nx:Nat
structure Cg where
 C:Cx
 ρ:Gh
 n:Nat
def Mt(C:Cg)(n:Nat)(s:St)(a:Act)(w:World):Prop:=∃E:Env,tL s.E E/\E.cS s.nx/\bg.cS s.nx s.R/\∃ρ,(oS C.n C.ρ ρ/\C.n<=s.nx)/\tV C.C n (E.sub ρ) (bg.res ρ s.R) a w
def Env.um{E:Env}{n t:Nat}{d:AV}(hE:E.cS n)(hd:Iv.cS n d):Env.cS n ((t,d)::E):=λp hp=>by
 rcases zD.1 hp with rfl|hp
 ·exact hd
 ·exact hE p hp
def TF{C:Cx}{σ σ':aa cE}(hp:List.Perm σ σ')(b:Nat):al C σ b->al C σ' b:=λhA=>⟨hA.1,λhx=>hA.2 ((hp.filterMap _).symm.mem_iff.1 hx)⟩
end Go.Iv
end
noncomputable section
namespace Go.Iv
open Go Go.RowKit
section
variable [U:qO] {β γ δ:Type}
def u7(t e:Nat)(l:aa (U.dz t)):af (aa (U.dz e)):=if h:t=e then V (h▸l)else G
def nw{t e:Nat}{l:aa (U.dz t)}{l':aa (U.dz e)}(h:u7 t e l=V l'):∃he:t=e,he▸l=l':=by
 unfold u7 at h;split at h
 ·rename_i he;exact⟨he,zA.inj h⟩
 ·cases h
def iw(k:IntKind):AV->af Int
 | .lit (.int k' n)=>if k=k' then V n else G
 |_=>G
def PM:AV->af Bool
 | .lit (.bool b)=>V b
 |_=>G
def asS:AV->af ByteArray
 | .lit (.string s)=>V s
 |_=>G
def jS(t:Nat):AV->af (aa (U.dz t))
 | .sl t' l=>u7 t' t l
 | .lit (.slice G 0 0)=>V []
 |_=>G
def P1(f:AV->af β)(c:β->AV):Prop:=∀a b,f a=V b->∀A w v,Rel A w a v->Rel A w (c b) v
def P1.i(k:IntKind):P1 (iw k) (cc.n k):=λa b h A w v hr=>by
 unfold iw at h;split at h
 ·split at h
  ·rename_i hk;subst hk;cases h;exact hr
  ·cases h
 ·cases h
def P1.b:P1 PM cc.b:=λa b h A w v hr=>by
 unfold PM at h;split at h
 ·cases h;exact hr
 ·cases h
def P1.s:P1 asS cc.s:=λa b h A w v hr=>by
 unfold asS at h;split at h
 ·cases h;exact hr
 ·cases h
def P1.l(t:Nat):P1 (jS t) (cc.sl t):=λa b h A w v hr=>by
 unfold jS at h;split at h
 ·obtain⟨rfl,rfl⟩:=nw h;exact hr
 ·cases h;exact(Vw.nil (σ:=[]) t A w v ⟨λr h=>(by cases h),λb h=>(by cases h)⟩ hr).mono λb _ hA=>⟨hA.elim id (λh=>(by cases h)),rfl⟩
 ·cases h
def oU:aa AV->af Unit
 |[]=>V ()
 |_=>G
def dU(f:AV->af β)(q:aa AV->af γ):aa AV->af (β×γ)
 |a::cs=>(f a).bind λb=>(q cs).map λg=>(b,g)
 |[]=>G
def Pk(q:aa AV->af γ)(c:γ->aa AV):Prop:=∀cs g,q cs=V g->∀A w us,bN A w cs us->bN A w (c g) us
def Pk.nil:Pk oU (λ_=>[]):=λcs g h A w us hr=>by
 unfold oU at h;split at h
 ·exact hr
 ·cases h
def Pk.cons{f:AV->af β}{c:β->AV}{q:aa AV->af γ}{d:γ->aa AV}(h:P1 f c)(hq:Pk q d):Pk (dU f q) (λx=>c x.1::d x.2):=λcs g hg A w us hr=>by
 unfold dU at hg;split at hg
 ·obtain⟨b,h1,hg⟩:=zq.1 hg;obtain⟨g',h2,rfl⟩:=zk.1 hg;obtain⟨v,us',rfl,h3,h4⟩:=hr.head;exact bN.cons (h _ _ h1 A w v h3) (hq _ _ h2 A w us' h4)
 ·cases hg
def Pk.map{q:aa AV->af γ}{d:γ->aa AV}{c:δ->aa AV}(e:γ->δ)(hq:Pk q d)(hc:∀g,c (e g)=d g):Pk (λcs=>(q cs).map e) c:=λcs g hg A w us hr=>by
 obtain⟨g',h1,rfl⟩:=zk.1 hg;rw[hc];exact hq _ _ h1 A w us hr
def amx:AV->Bool
 | .lit _=>O
 | .sl _ _=>O
 |_=>S
def aa4(cs:aa AV)(h:cs.all amx=O)(n:Nat):∀c∈cs,cS n c:=λc hc=>by
 have:=zw.1 h c hc;cases c<;>first|(cases this;done)|exact .lit _|exact .sl _ _
def ZC(cs:aa AV)(h:cs.all amx=O)(ρ:Gh):cs.map (cc.sub ρ)=cs:=by
 have:cs.map (cc.sub ρ)=cs.map id:=zX λc hc=>by
  have:=zw.1 h c hc;cases c<;>first|(cases this;done)|simp only[cc.sub,id]
 rw[this,List.map_id]
def Pk.none{c:γ->aa AV}:Pk (λ_=>Option.none) c:=λcs g hg=>by cases hg
end
end Go.Iv
end
noncomputable section
namespace Go.Iv
variable [U:qO]
open Go Go.RowKit
section
variable {P:Program} {E E':Env} {σ σ':aa cE} {o:Oper} {x y:Operand} {av bv:AV} {C:Cx} {X:aa Nat} {n:Nat} {T T' e:TypeId}
def Hd.keep{A:Nat->Prop}{w w':World}(h:Hd A σ w)(hw:∀b,b<w.heap.size->(A b\/b∈bD σ)->w'.heap[b]? =w.heap[b]?):Hd A σ w':=
 ⟨λr hr=>(h.1 r hr).mono (λb hb hA=>⟨hA,hw b hb (.inl hA)⟩) (λb hb=>hw b ((h.1 r hr).lt hb) (.inr (bT.2 ⟨r,hr,hb⟩))),h.2⟩
def OI.keep{A:Nat->Prop}{w w':World}{ρ:Operand->Value}(h:OI A w E ρ)(hw:∀b,b<w.heap.size->A b->w'.heap[b]? =w.heap[b]?):OI A w' E ρ:=λx u hx=>(h x u hx).mono λb hb hA=>⟨hA,hw b hb hA⟩
def rN{A:Nat->Prop}{w:World}{k:IntKind}:∀{l:aa Int} {us:aa Value},bN A w (l.map (cc.n k)) us->us=l.map (Value.int k)
 |[],us,h=>xy (by simpa using h.1)
 |x::l,us,h=>by
  obtain⟨v,us',rfl,h1,h2⟩:=bN.head (show bN A w (cc.n k x::l.map (cc.n k)) us from h);rw[h1.cH,rN h2];rfl
def Yp.b2s{q:Nat}{l:aa Int}{l0:aa (U.dz q)}(ho:o.op= .convert T T' x)(hx:Src σ E x q l0)(hn:l0.flatMap (U.cells q)=l.map (cc.n .u8))(hz:U.sz q=1)(hs:P.underlying T=V (.slice e))(he:P.underlying e=V (.int .u8))(hd:P.underlying T'=V .string):Yp P E σ o (.s (strOfNums l)):=λA w ρ h hρ=>
 ⟨_, .lit _,λw' hw=>by
  obtain⟨p,cap,news,h1,h2,h3,_,h5,_⟩:=hx.spec (h.keep hw) (hρ.keep λb hb hA=>hw b hb (.inl hA));have h6:=rN (by rw[hn]at h5;exact h5);have hl0:l0.length=l.length:=by rw[hz,xz]at h3;rw[<-h3,h6,zx]
  rw[hl0]at h1 h2;have hconv:(convert T T' (.slice p l.length cap)).run P w'= .ok (.string (strOfNums l)) w':=by
   cases p with
   |none=>
    have:l=[]:=by
     rcases h2 with h2|⟨a,h2,_⟩
     ·exact xy h2
     ·cases h2
    subst this;have hc:=run_convert_bytes_nil (P:=P) w' T e hs he 0 cap T' hd;have:strOfNums []=ByteArray.empty:=rfl;rw[this];simpa using hc
   |some a=>
    have hl:(loadCells a l.length).run P w'= .ok (l.map (Value.int .u8)).toArray w':=by
     rcases h2 with h2|⟨a',h2,h4⟩
     ·have:l=[]:=xy h2;subst this;simp[loadCells,loadCellsFrom]
     ·cases h2;have:=run_loadCells_list (P:=P) w' a (l.map (Value.int .u8)) (λj v hj=>h4 j v (by rw[h6];exact hj));simpa using this
    rw[run_convert_bytes_string w' T T' e _ l.length cap hs he hd,run_bytesToString w' _ l.length cap l hl,foldl_push_bytes];simp[strOfNums,ByteArray.empty,ByteArray.emptyWithCapacity];rfl
  simp[execOp,ho,h1,hconv]⟩
def Yp.aEr{s t:ByteArray}(ho:o.op= .binOp .eql T x y T')(hx:E.ev x=V (.s s))(hy:E.ev y=V (.s t)):Yp P E σ o (.b (s.toList==t.toList)):=Yp.lits λρ hρ w=>by
 simp[execOp,ho,hρ _ _ hx,hρ _ _ hy,eqGuard,binOp,Op.stringOp]
def Yp.aC3{s t:ByteArray}(ho:o.op= .binOp .neq T x y T')(hx:E.ev x=V (.s s))(hy:E.ev y=V (.s t)):Yp P E σ o (.b (!(s.toList==t.toList))):=Yp.lits λρ hρ w=>by
 simp[execOp,ho,hρ _ _ hx,hρ _ _ hy,eqGuard,binOp,Op.stringOp]
def run_equal_bool{w:World}{b c:Bool}(hT:P.underlying T=V .bool):(Op.equal T (.bool b) (.bool c)).run P w= .ok (b==c) w:=by
 obtain⟨d,hd⟩:∃d,Op.maxDepth=d+1:=⟨Op.maxDepth-1,by decide⟩;unfold Op.equal;rw[hd];unfold Op.equalIn;simp only[Sem.run_bind,run_underlying hT,Result.andThen_ok];rfl
def Yp.aFm{b c:Bool}(ho:o.op= .binOp .eql T x y T')(hT:P.underlying T=V .bool)(hx:E.ev x=V (.b b))(hy:E.ev y=V (.b c)):Yp P E σ o (.b (b==c)):=Yp.lits λρ hρ w=>by
 have hbin:binOp .eql T (.bool b) (.bool c)=(do pure (.bool (<-Op.equal T (.bool b) (.bool c)))):=rfl;have h1:=run_equal_bool (P:=P) (T:=T) (w:=w) (b:=b) (c:=c) hT;simp only[execOp,ho,hρ _ _ hx,hρ _ _ hy,eqGuard,hbin];simp[h1]
def Yp.aD3{b c:Bool}(ho:o.op= .binOp .neq T x y T')(hT:P.underlying T=V .bool)(hx:E.ev x=V (.b b))(hy:E.ev y=V (.b c)):Yp P E σ o (.b (!(b==c))):=Yp.lits λρ hρ w=>by
 have hbin:binOp .neq T (.bool b) (.bool c)=(do pure (.bool (!(<-Op.equal T (.bool b) (.bool c))))):=rfl;have h1:=run_equal_bool (P:=P) (T:=T) (w:=w) (b:=b) (c:=c) hT;simp only[execOp,ho,hρ _ _ hx,hρ _ _ hy,eqGuard,hbin];simp[h1]
end
end Go.Iv
end
noncomputable section
namespace Go.Iv
variable [U:qO]
open Go Go.RowKit
class mI [U:qO] where
 len:∀t x,(U.cells t x).length=U.sz t
 one:∀t x,(U.cells t x).all iC=O
 clo:∀t x ρ,(U.cells t x).map (cc.sub ρ)=U.cells t x
 qT:∀t x n,∀c∈U.cells t x,cS n c
 parse:(t:Nat)->List AV->Option (U.dz t)
 lF:∀t cs x,parse t cs=V x->∀A w us,bN A w cs us->bN A w (U.cells t x) us
 af1:(t:Nat)->List (U.dz t)->Option (List Int)
 vE:∀t l ns,af1 t l=V ns->l.flatMap (U.cells t)=ns.map (.n .u8)/\U.sz t=1
 fz:Nat->Bool:=λ_=>S
 arr:Nat->Bool:=λ_=>S
 gtB:(t:Nat)->U.dz t->Nat->Bool:=λ_ _ _=>S
 stB:(t:Nat)->U.dz t->Nat->Bool->U.dz t:=λ_ x _ _=>x
 ahP:∀t,arr t=O->∀x i,i<U.sz t->(U.cells t x)[i]? =V (.lit (.bool (gtB t x i))):=by intro t h;exact Bool.noConfusion h
 age:∀t,arr t=O->∀x i b,i<U.sz t->U.cells t (stB t x i b)=(U.cells t x).take i++[.lit (.bool b)]++(U.cells t x).drop (i+1):=by intro t h;exact Bool.noConfusion h
variable [L:mI]
def NX(P:Program)(t n:Nat):Bool:=match P.info? t with
 |some i=>zf i.size n
 |none=>S
def qY{P:Program}{t n:Nat}(h:NX P t n=O):(P.info? t).map (·.size)=V n:=by
 unfold NX at h;cases hi:P.info? t with
 |none=>rw[hi]at h;cases h
 |some i=>
  rw[hi]at h;simp only[yx,zA.injEq];exact gz h
def Wp(P:Program)(t:Nat):Bool:=match P.underlying t with
 |some (.struct _)=>S
 |some (.array _ _)=>S
 |some _=>O
 |none=>S
def CH{P:Program}{t:Nat}(h:Wp P t=O):sC P t:=by
 unfold Wp at h;unfold sC;split at h
 ·cases h
 ·cases h
 ·rename_i d hd;refine⟨_,hd,?_⟩;split
  ·simp_all
  ·simp_all
  ·trivial
 ·cases h
def Tz(P:Program)(t:Nat):af Nat:=match P.underlying t with
 |some (.struct _)=>(P.info? t).map (·.size)
 |some (.array _ _)=>(P.info? t).map (·.size)
 |_=>G
def MK{P:Program}{t n:Nat}(h:Tz P t=V n):sZ P t n:=by
 unfold Tz at h;split at h
 ·rename_i hd;exact⟨⟨_,hd,trivial⟩,h⟩
 ·rename_i hd;exact⟨⟨_,hd,trivial⟩,h⟩
 ·cases h
def DQ(rd:Nat->af IR):AV->Bool
 | .own id=>match rd id with
  |some (.row _ _)=>O
  |_=>S
 | .ptr _ _=>O
 | .ra _ _ _ _=>S
 |d=>iC d
def FH(rd:Nat->af IR):AV->Bool
 | .agg cs=>cs.all (DQ rd)
 |d=>DQ rd d
section
variable {α:Type} {r:α} {P:Program} {o:Oper} {E:Env} {R:bg} {nx:Nat} {ev:Operand->af AV} {rd:Nat->af IR} {x y z:Operand} {d:AV}
structure j6 (ev:Operand->Option AV) (rd:Nat->Option IR) (nx:Nat) (E:Env) (R:bg):Prop where
 e:∀x d,ev x=V d->E.ev x=V d
 r:∀id r,rd id=V r->gp R id=V r
 le:E.cS nx
 lr:bg.cS nx R
def j6.fM(h:j6 ev rd nx E R)(hx:ev x=V d)(ρ:Gh):(E.sub ρ).ev x=V (d.sub ρ):=by
 rw[Env.PR,h.e _ _ hx];rfl
def j6.qT(h:j6 ev rd nx E R)(hx:ev x=V d):cS nx d:=Env.Zb h.le (h.e _ _ hx)
def j6.row(h:j6 ev rd nx E R){id t:Nat}{l:aa (U.dz t)}(hr:rd id=V (.row t l))(ρ:Gh):∃i:Nat,(bg.res ρ R)[i]? =V (.row (ρ.v id) t l):=by
 obtain⟨i,h1,_⟩:=eR (h.r _ _ hr);exact⟨i,ia h1⟩
def j6.box(h:j6 ev rd nx E R){id t:Nat}{cs:aa AV}(hr:rd id=V (.box t cs))(ρ:Gh):∃i:Nat,(bg.res ρ R)[i]? =V (.box (ρ.b id) t (cs.map (cc.sub ρ))):=by
 obtain⟨i,h1,_⟩:=eR (h.r _ _ hr);exact⟨i,ia h1⟩
def j6.ag9(h:j6 ev rd nx E R){id t:Nat}{cs:aa AV}(hr:rd id=V (.box t cs)):∀c∈cs,cS nx c:=(Fj (h.r _ _ hr) h.lr).2
def Pu(P:Program)(o:Oper)(E:Env)(R:bg)(nx:Nat)(d:AV):Prop:=cS nx d/\∀ρ,Yp P (E.sub ρ) (bg.res ρ R) o (d.sub ρ)
def bW(ρ:Gh)(v:Value):cc.sub ρ (.lit v)= .lit v:=by simp only[cc.sub]
def gI(ρ:Gh)(t:Nat)(l:aa (U.dz t)):cc.sub ρ (.sl t l)= .sl t l:=by simp only[cc.sub]
def dO(ρ:Gh)(id:Nat):cc.sub ρ (.own id)= .lit (ρ.v id):=by simp only[cc.sub]
def fH(ρ:Gh)(id off:Nat):cc.sub ρ (.ptr id off)= .lit (.pointer (V ⟨ρ.b id,off,G⟩)):=by simp only[cc.sub]
def jC(ρ:Gh)(id t m off:Nat):cc.sub ρ (.ra id t m off)= .rp (ρ.v id) (m*U.sz t+off):=by simp only[cc.sub]
def mq(ρ:Gh)(cs:aa AV):cc.sub ρ (.fp cs)= .fp (cs.map (cc.sub ρ)):=by simp only[cc.sub]
def fo(ρ:Gh)(cs:aa AV):cc.sub ρ (.agg cs)= .agg (cs.map (cc.sub ρ)):=by simp only[cc.sub]
def kF(ρ:Gh)(cs:aa AV):cc.sub ρ (.iR cs)= .iR (cs.map (cc.sub ρ)):=by simp only[cc.sub]
def tS(ρ:Gh)(f:Go.Fn)(cs:aa AV):cc.sub ρ (.fn f cs)= .fn f (cs.map (cc.sub ρ)):=by simp only[cc.sub]
def Pu.lit{v:Value}(h:∀ρ,Yp P (E.sub ρ) (bg.res ρ R) o (.lit v)):Pu P o E R nx (.lit v):=⟨.lit v,λρ=>by rw[bW];exact h ρ⟩
def Zw(b:BinOp)(k:IntKind)(m n:Int)(K:AV->af α):af α:=match b with
 | .add=>K (.n k (k.wrap (m+n)))
 | .sub=>K (.n k (k.wrap (m-n)))
 | .mul=>K (.n k (k.wrap (m*n)))
 | .quo=>if n≠0 then K (.n k (k.wrap (Int.tdiv m n)))else G
 | .rem=>if n≠0 then K (.n k (Int.tmod m n))else G
 | .and=>K (.n k (sK k m n))
 | .or=>K (.n k (bOr k m n))
 | .xor=>K (.n k (aqh k m n))
 | .andNot=>K (.n k (ar8 k m n))
 | .lss=>K (.b (J (m<n)))
 | .leq=>K (.b (J (m<=n)))
 | .gtr=>K (.b (J (n<m)))
 | .geq=>K (.b (J (n<=m)))
 | .eql=>K (.b (J (m=n)))
 | .neq=>K (.b (!J (m=n)))
 |_=>G
def Yp.apq{T T' e q:Nat}{E:Env}{σ:aa cE}{l:aa (U.dz q)}(ho:o.op= .binOp .eql T x y T')(hx:E.ev x=V (.sl q l))(hy:E.ev y=V (.lit (.slice G 0 0)))(hT:P.underlying T=V (.slice e))(hl:l≠[]):Yp P E σ o (.b S):=λA w ρ _ hρ=>by
 obtain⟨p,cap,u,hv,_,_,_,hc,_⟩:=(hρ _ _ hx).uV;have h2:=(hρ _ _ hy).cH;obtain⟨b,off,hp,_⟩:=hc 0 (wP.2 hl);subst hp;refine⟨_, .lit _,λw' _=> ?_⟩;have h1:=Lib.run_eql_slice_nil (P:=P) w' T e (V ⟨b,off,G⟩) l.length cap 0 0 hT;simp[execOp,ho,hv,h2,eqGuard,h1]
def Yp.aoG{T T' e q i:Nat}{v:Value}{E:Env}{σ:aa cE}{l:aa (U.dz q)}(ho:o.op= .binOp .eql T x y T')(hx:E.ev x=V (.lit v))(hσ:σ[i]? =V (.row v q l))(hy:E.ev y=V (.lit (.slice G 0 0)))(hT:P.underlying T=V (.slice e))(hl:l≠[]):Yp P E σ o (.b S):=λA w ρ hd hρ=>by
 obtain⟨us,h1,_⟩:=hd.1 _ (List.mem_of_getElem? hσ);obtain⟨g,cap,cur,hv,_⟩:=h1.at (wP.2 hl);have hx':=(hρ _ _ hx).cH;have h2:=(hρ _ _ hy).cH;refine⟨_, .lit _,λw' _=> ?_⟩;have h1:=Lib.run_eql_slice_nil (P:=P) w' T e (V ⟨g,0,G⟩) l.length (cap+1) 0 0 hT;simp[execOp,ho,hx',hv,h2,eqGuard,h1]
def RN(P:Program)(t:TypeId)(a b:AV):af Bool:=match P.underlying t with
 |some (.int _)=>match a,b with
  | .lit (.int k m), .lit (.int k' n)=>if k=k' then V (J (m=n))else G
  |_,_=>G
 |some .bool=>match a,b with
  | .lit (.bool p), .lit (.bool q)=>V (p==q)
  |_,_=>G
 |some .string=>match a,b with
  | .lit (.string p), .lit (.string q)=>V (p.toList==q.toList)
  |_,_=>G
 |_=>G
def VR(P:Program)(xs ys:aa AV):aa Field->af Bool
 |[]=>V O
 |f::fs=>match (f.name !="_")&&Wp P f.type with
  |true=>match xs[f.offset]?,ys[f.offset]? with
   |some a,V b=>(RN P f.type a b).bind λr=>(VR P xs ys fs).map λq=>r&&q
   |_,_=>G
  |false=>G
def ug{P:Program}{t:TypeId}(h:sC P t){us:aa Value}{i:Nat}{v:Value}(hv:us[i]? =V v)(w:World):(part t us.toArray i).run P w= .ok v w:=by
 unfold part;rw[Sem.run_bind,mw h];simp[hv]
def O2{P:Program}{t:TypeId}{a b:AV}{q:Bool}(h:RN P t a b=V q){A A':Nat->Prop}{w w' w'':World}{u v:Value}{ρ ρ':Gh}(ha:Rel A w (a.sub ρ) u)(hb:Rel A' w' (b.sub ρ') v)(d:Nat):(Op.equalIn (d+1) t u v).run P w''= .ok q w'':=by
 unfold RN at h;split at h
 ·rename_i k0 ht;split at h
  ·split at h
   ·rename_i hk;subst hk;cases h;simp only[cc.sub]at ha hb;rw[ha.cH,hb.cH];exact run_equalIn_int _ d t _ k0 _ _ ht
   ·cases h
  ·cases h
 ·rename_i ht;split at h
  ·cases h;simp only[cc.sub]at ha hb;rw[ha.cH,hb.cH];exact run_equalIn_bool' _ d t _ _ ht
  ·cases h
 ·rename_i ht;split at h
  ·cases h;simp only[cc.sub]at ha hb;rw[ha.cH,hb.cH];exact run_equalIn_string _ d t _ _ ht
  ·cases h
 ·cases h
def Lu{P:Program}{xs ys:aa AV}{A A':Nat->Prop}{w w' w'':World}{us vs:aa Value}{ρ ρ':Gh}(ha:bN A w (xs.map (cc.sub ρ)) us)(hb:bN A' w' (ys.map (cc.sub ρ')) vs)(d:Nat):∀{fs:aa Field} {q:Bool},VR P xs ys fs=V q->(Op.eqFields (d+1) us.toArray vs.toArray fs).run P w''= .ok q w''
 |[],q,h=>by cases h;simp[Op.eqFields]
 |f::fs,q,h=>by
  unfold VR at h;split at h
  case h_2=>cases h
  rename_i hf;simp only[zi,bne_iff_ne,ne_eq]at hf;split at h
  case h_2=>cases h
  rename_i a b hx hy;obtain⟨r1,h1,h⟩:=zq.1 h;obtain⟨q1,h2,rfl⟩:=zk.1 h;obtain⟨u,hu,hu'⟩:=ha.get (a:=a.sub ρ) (j:=f.offset) (by rw[yb,hx];rfl);obtain⟨v,hv,hv'⟩:=hb.get (a:=b.sub ρ') (j:=f.offset) (by rw[yb,hy];rfl);have ih:=Lu (w'':=w'') ha hb d h2;have hone:=CH hf.2;unfold Op.eqFields;rw[bE hf.1];simp only[Sem.run_bind,ug hone hu,ug hone hv,Result.andThen_ok,O2 (w'':=w'') h1 hu' hv' d];cases r1 with
  |true=>simpa using ih
  |false=>simp
def Yp.seq'{T T':TypeId}{E:Env}{σ:aa cE}{b:BinOp}{cs ds:aa AV}{fs:Array Field}{q:Bool}{ρ ρ':Gh}(ho:o.op= .binOp b T x y T')(hx:E.ev x=V (.agg (cs.map (cc.sub ρ))))(hy:E.ev y=V (.agg (ds.map (cc.sub ρ'))))(hT:P.underlying T=V (.struct fs))(hp:P.stoodInHeld T=S)(hg:P.eqGuardType P.depth T=S)(hq:VR P cs ds fs.toList=V q)(hb:b= .eql\/b= .neq):
  Yp P E σ o (.b (match b with| .neq=> !q|_=>q)):=λA w ϱ _ hρ=>by
 obtain⟨us,h1,h2⟩:=(hρ _ _ hx).oD;obtain⟨vs,h3,h4⟩:=(hρ _ _ hy).oD;refine⟨_, .lit _,λw' _=> ?_⟩;have hT':P.underlying T=V (.struct (P.fieldsOf T)):=by unfold Program.fieldsOf;rw[hT]
 have hfs:P.fieldsOf T=fs:=by unfold Program.fieldsOf;rw[hT]
 have he:=run_equalIn_struct (P:=P) w' 9999 T us.toArray vs.toArray hT' hp;rw[hfs,Lu (w'':=w') h2 h4 9998 hq]at he;have hgr:=run_eqGuard_agg (P:=P) w' b T x y us.toArray vs.toArray hg;rcases hb with rfl|rfl
 ·have h5:=run_eql_struct (P:=P) w' T us.toArray vs.toArray;rw[he]at h5;simp[execOp,ho,h1,h3,hgr,h5]
 ·have h5:=run_neq_struct (P:=P) w' T us.toArray vs.toArray;rw[he]at h5;simp[execOp,ho,h1,h3,hgr,h5]
def eqS(P:Program)(b:BinOp)(T:TypeId)(cs ds:aa AV)(K:AV->af α):af α:=match P.underlying T with
 |some (.struct fs)=>match !P.stoodInHeld T&& !P.eqGuardType P.depth T with
  |true=>match b with
   | .eql=>(VR P cs ds fs.toList).bind λq=>K (.b q)
   | .neq=>(VR P cs ds fs.toList).bind λq=>K (.b (!q))
   |_=>G
  |false=>G
 |_=>G
def aoZ{b:BinOp}{T T':TypeId}{cs ds:aa AV}(hs:j6 ev rd nx E R)(ho:o.op= .binOp b T x y T')(hx:ev x=V (.agg cs))(hy:ev y=V (.agg ds)){K:AV->af α}(h:eqS P b T cs ds K=V r):∃d,K d=V r/\Pu P o E R nx d:=by
 unfold eqS at h;split at h
 case h_2=>cases h
 rename_i fs hT;split at h
 case h_2=>cases h
 rename_i hg;simp only[zi,Bool.not_eq_true']at hg;have ex:=λρ=>hs.fM hx ρ;have ey:=λρ=>hs.fM hy ρ;simp only[fo]at ex ey;split at h
 ·obtain⟨q,hq,h⟩:=zq.1 h;exact⟨_,h, .lit λρ=> .seq' ho (ex ρ) (ey ρ) hT hg.1 hg.2 hq (.inl rfl)⟩
 ·obtain⟨q,hq,h⟩:=zq.1 h;exact⟨_,h, .lit λρ=> .seq' ho (ex ρ) (ey ρ) hT hg.1 hg.2 hq (.inr rfl)⟩
 ·cases h
def Nw(P:Program)(rd:Nat->af IR)(b:BinOp)(T:TypeId)(x y:af AV)(K:AV->af α):af α:=match x,y with
 |some (.lit (.int k m)),V (.lit (.int k' n))=>match b with
  | .shl=>if 0<=n then K (.n k (mh k m n))else G
  | .shr=>if 0<=n then K (.n k (cL k m n))else G
  |_=>if k=k' then Zw b k m n K else G
 |some (.lit (.bool p)),V (.lit (.bool q))=>match P.underlying T with
  |some .bool=>match b with
   | .eql=>K (.b (p==q))
   | .neq=>K (.b (!(p==q)))
   |_=>G
  |_=>G
 |some (.lit (.string s)),V (.lit (.string t))=>match b with
  | .eql=>K (.b (s.toList==t.toList))
  | .neq=>K (.b (!(s.toList==t.toList)))
  |_=>G
 |some (.lit (.slice p _ _)),V (.lit (.slice G 0 0))=>match b,P.underlying T with
  | .eql,V (.slice _)=>K (.b p.isNone)
  |_,_=>G
 |some (.sl _ l),V (.lit (.slice G 0 0))=>match b,P.underlying T with
  | .eql,V (.slice _)=>match l with
   |[]=>G
   |_::_=>K (.b S)
  |_,_=>G
 |some (.own id),V (.lit (.slice G 0 0))=>match b,P.underlying T with
  | .eql,V (.slice _)=>match rd id with
   |some (.row _ (_::_))=>K (.b S)
   |_=>G
  |_,_=>G
 |some (.agg cs),V (.agg ds)=>eqS P b T cs ds K
 |_,_=>G
def ajJ{b:BinOp}{T T':TypeId}(hs:j6 ev rd nx E R)(ho:o.op= .binOp b T x y T'){K:AV->af α}(h:Nw P rd b T (ev x) (ev y) K=V r):∃d,K d=V r/\Pu P o E R nx d:=by
 unfold Nw at h;split at h
 ·rename_i k m k' n hx hy;have ex:=λρ=>hs.fM hx ρ;have ey:=λρ=>hs.fM hy ρ;simp only[bW]at ex ey;split at h
  ·split at h
   ·rename_i h0;exact⟨_,h, .lit λρ=> .shl ho (ex ρ) (ey ρ) h0⟩
   ·cases h
  ·split at h
   ·rename_i h0;exact⟨_,h, .lit λρ=> .shr ho (ex ρ) (ey ρ) h0⟩
   ·cases h
  ·split at h
   ·rename_i hk;subst hk;unfold Zw at h;split at h
    ·exact⟨_,h, .lit λρ=> .add ho (ex ρ) (ey ρ)⟩
    ·exact⟨_,h, .lit λρ=> .sub ho (ex ρ) (ey ρ)⟩
    ·exact⟨_,h, .lit λρ=> .mul ho (ex ρ) (ey ρ)⟩
    ·split at h
     ·rename_i h0;exact⟨_,h, .lit λρ=> .quo ho (ex ρ) (ey ρ) h0⟩
     ·cases h
    ·split at h
     ·rename_i h0;exact⟨_,h, .lit λρ=> .rem ho (ex ρ) (ey ρ) h0⟩
     ·cases h
    ·exact⟨_,h, .lit λρ=> .and ho (ex ρ) (ey ρ)⟩
    ·exact⟨_,h, .lit λρ=> .or ho (ex ρ) (ey ρ)⟩
    ·exact⟨_,h, .lit λρ=> .xor ho (ex ρ) (ey ρ)⟩
    ·exact⟨_,h, .lit λρ=> .andNot ho (ex ρ) (ey ρ)⟩
    ·exact⟨_,h, .lit λρ=> .lss ho (ex ρ) (ey ρ)⟩
    ·exact⟨_,h, .lit λρ=> .leq ho (ex ρ) (ey ρ)⟩
    ·exact⟨_,h, .lit λρ=> .gtr ho (ex ρ) (ey ρ)⟩
    ·exact⟨_,h, .lit λρ=> .geq ho (ex ρ) (ey ρ)⟩
    ·exact⟨_,h, .lit λρ=> .eql ho (ex ρ) (ey ρ)⟩
    ·exact⟨_,h, .lit λρ=> .neq ho (ex ρ) (ey ρ)⟩
    ·cases h
   ·cases h
 ·rename_i p q hx hy;have ex:=λρ=>hs.fM hx ρ;have ey:=λρ=>hs.fM hy ρ;simp only[bW]at ex ey;split at h
  ·rename_i hT;split at h
   ·exact⟨_,h, .lit λρ=> .aFm ho hT (ex ρ) (ey ρ)⟩
   ·exact⟨_,h, .lit λρ=> .aD3 ho hT (ex ρ) (ey ρ)⟩
   ·cases h
  ·cases h
 ·rename_i s t hx hy;have ex:=λρ=>hs.fM hx ρ;have ey:=λρ=>hs.fM hy ρ;simp only[bW]at ex ey;split at h
  ·exact⟨_,h, .lit λρ=> .aEr ho (ex ρ) (ey ρ)⟩
  ·exact⟨_,h, .lit λρ=> .aC3 ho (ex ρ) (ey ρ)⟩
  ·cases h
 ·rename_i p l c hx hy;have ex:=λρ=>hs.fM hx ρ;have ey:=λρ=>hs.fM hy ρ;simp only[bW]at ex ey;split at h
  ·rename_i hT;exact⟨_,h, .lit λρ=> .anS ho (ex ρ) (ey ρ) hT⟩
  ·cases h
 ·rename_i t l hx hy;have ex:=λρ=>hs.fM hx ρ;have ey:=λρ=>hs.fM hy ρ;simp only[bW]at ey;simp only[gI]at ex;split at h
  ·rename_i hT;split at h
   ·cases h
   ·exact⟨_,h, .lit λρ=> .apq ho (ex ρ) (ey ρ) hT (by simp)⟩
  ·cases h
 ·rename_i id hx hy;have ex:=λρ=>hs.fM hx ρ;have ey:=λρ=>hs.fM hy ρ;simp only[bW]at ey;simp only[dO]at ex;split at h
  ·rename_i hT;split at h
   ·rename_i hr;exact⟨_,h, .lit λρ=>by
     obtain⟨i,hi⟩:=hs.row hr ρ;exact .aoG ho (ex ρ) hi (ey ρ) hT (by simp)⟩
   ·cases h
  ·cases h
 ·rename_i cs ds hx hy;exact aoZ hs ho hx hy h
 ·cases h
def unV(b:UnOp)(x:af AV)(K:AV->af α):af α:=match b,x with
 | .not,V (.lit (.bool p))=>K (.b (!p))
 | .neg,V (.lit (.int k n))=>K (.n k (k.wrap (0-n)))
 |_,_=>G
def atb{b:UnOp}{T:TypeId}(hs:j6 ev rd nx E R)(ho:o.op= .unOp b T x){K:AV->af α}(h:unV b (ev x) K=V r):∃d,K d=V r/\Pu P o E R nx d:=by
 unfold unV at h;split at h
 ·rename_i p hx;have ex:=λρ=>hs.fM hx ρ;simp only[bW]at ex;exact⟨_,h, .lit λρ=> .not ho (ex ρ)⟩
 ·rename_i p hx;have ex:=λρ=>hs.fM hx ρ;simp only[bW]at ex;exact⟨_,h, .lit λρ=> .neg ho (ex ρ)⟩
 ·cases h
def QS(x:af AV)(K:AV->af α):af α:=match x with
 |some (.ptr id off)=>K (.ptr id off)
 |some (.fp cs)=>K (.fp cs)
 |some (.ra id t m off)=>K (.ra id t m off)
 |_=>G
def adQ(hs:j6 ev rd nx E R)(ho:o.op= .nilCheck x){K:AV->af α}(h:QS (ev x) K=V r):∃d,K d=V r/\Pu P o E R nx d:=by
 unfold QS at h;split at h
 ·rename_i hx;exact⟨_,h,hs.qT hx,λρ=>by have ex:=hs.fM hx ρ;rw[fH]at ex ⊢;exact .VV ho ex⟩
 ·rename_i hx;exact⟨_,h,hs.qT hx,λρ=>by have ex:=hs.fM hx ρ;rw[mq]at ex ⊢;exact .Wj ho ex⟩
 ·rename_i hx;exact⟨_,h,hs.qT hx,λρ=>by have ex:=hs.fM hx ρ;rw[jC]at ex ⊢;exact .Vk ho ex⟩
 ·cases h
def mO{n:Nat}{cs:aa AV}(h:∀c∈cs,cS n c)(k:Nat):∀c∈cs.drop k,cS n c:=λc hc=>h c (wg hc)
def o8{n:Nat}{cs:aa AV}(h:∀c∈cs,cS n c)(k:Nat):∀c∈cs.take k,cS n c:=λc hc=>h c (List.mem_of_mem_take hc)
def cS.fpL{n:Nat}{cs:aa AV}(h:cS n (.fp cs)):∀c∈cs,cS n c:=by cases h;assumption
def cS.oN{n:Nat}{cs:aa AV}(h:cS n (.agg cs)):∀c∈cs,cS n c:=by cases h;assumption
def cS.Gw{n:Nat}{cs:aa AV}(h:cS n (.iR cs)):∀c∈cs,cS n c:=by cases h;assumption
def cS.fnL{n:Nat}{f:Go.Fn}{cs:aa AV}(h:cS n (.fn f cs)):∀c∈cs,cS n c:=by cases h;assumption
def cS.aw0{n id off:Nat}(h:cS n (.ptr id off)):id<n:=by cases h;assumption
def cS.raL{n id t m off:Nat}(h:cS n (.ra id t m off)):id<n:=by cases h;assumption
def cS.aCC{n id:Nat}(h:cS n (.own id)):id<n:=by cases h;assumption
def vG{n:Nat}{cs:aa AV}(h:∀c∈cs,cS n c){k:Nat}(hk:cs[k]? =V d):cS n d:=h d (List.mem_of_getElem? hk)
def uK{n:Nat}{cs ds:aa AV}(h:∀c∈cs,cS n c)(h':∀c∈ds,cS n c):∀c∈cs++ds,cS n c:=λc hc=>(zW.1 hc).elim (h c) (h' c)
def AJ{n:Nat}(h:cS n d):∀c∈dW d,cS n c:=by
 cases d<;>first|exact h.oN|(intro c hc;simp only[dW,zy]at hc;rw[hc];exact h)
def My(n:Nat)(zs:aa Value):∀c∈zs.map (cc.lit (dz:=U.dz)),cS n c:=λc hc=>by
 obtain⟨v,_,rfl⟩:=zL.1 hc;exact .lit v
def OV(P:Program)(T:TypeId)(i:Nat)(x:af AV)(K:AV->af α):af α:=match P.underlying T with
 |some (.struct fs)=>match fs[i]? with
  |some f=>match (P.info? f.type).map (·.size)with
   |some (_+1)=>match x with
    |some (.ptr id off)=>K (.ptr id (off+f.offset))
    |some (.fp cs)=>K (.fp (cs.drop f.offset))
    |some (.ra id t m off)=>K (.ra id t m (off+f.offset))
    |_=>G
   |_=>G
  |none=>G
 |_=>G
def aiD{T:TypeId}{i:Nat}(hs:j6 ev rd nx E R)(ho:o.op= .fieldAddr T x i){K:AV->af α}(h:OV P T i (ev x) K=V r):∃d,K d=V r/\Pu P o E R nx d:=by
 unfold OV at h;split at h
 case h_2=>cases h
 rename_i fs hT;split at h
 case h_2=>cases h
 rename_i f hf;split at h
 case h_2=>cases h
 rename_i sz hsz;split at h
 ·rename_i id off hx;exact⟨_,h, .ptr _ _ (hs.qT hx).aw0,λρ=>by have ex:=hs.fM hx ρ;rw[fH]at ex ⊢;exact .atg ho ex hT hf hsz⟩
 ·rename_i cs hx;exact⟨_,h, .fp _ (mO (hs.qT hx).fpL _),λρ=>by have ex:=hs.fM hx ρ;rw[mq]at ex ⊢;rw[xJ];exact .ap0 ho ex hT hf hsz⟩
 ·rename_i id t m off hx;exact⟨_,h, .ra _ _ _ _ (hs.qT hx).raL,λρ=>by have ex:=hs.fM hx ρ;rw[jC]at ex ⊢;rw[<-xG];exact .anK ho ex hT hf hsz⟩
 ·cases h
def P5(P:Program)(rd:Nat->af IR)(T:TypeId)(x y:af AV)(K:AV->af α):af α:=match y with
 |some (.lit (.int _ m))=>match P.underlying T with
  |some (.slice e)=>match x with
   |some (.sl t l)=>match NX P e (U.sz t)with
    |true=>if 0<=m/\m<(l.length:Int)then K (.fp (U.cells t l[m.toNat]!))else G
    |false=>G
   |some (.own id)=>match rd id with
    |some (.row t l)=>match NX P e (U.sz t)with
     |true=>if 0<=m/\m<(l.length:Int)then K (.ra id t m.toNat 0)else G
     |false=>G
    |_=>G
   |_=>G
  |some (.array n e)=>match (P.info? e).map (·.size)with
   |some sz=>if 0<=m/\m<(n:Int)then(match x with
    |some (.ptr id off)=>K (.ptr id (off+m.toNat*sz))
    |some (.fp cs)=>K (.fp (cs.drop (m.toNat*sz)))
    |some (.ra id t j off)=>K (.ra id t j (off+m.toNat*sz))
    |_=>G)else G
   |none=>G
  |_=>G
 |_=>G
def ahm{T:TypeId}(hs:j6 ev rd nx E R)(ho:o.op= .indexAddr T x y){K:AV->af α}(h:P5 P rd T (ev x) (ev y) K=V r):∃d,K d=V r/\Pu P o E R nx d:=by
 unfold P5 at h;split at h
 case h_2=>cases h
 rename_i k m hy;have ey:=λρ=>hs.fM hy ρ;simp only[bW]at ey;split at h
 ·rename_i e hT;split at h
  ·rename_i t l hx;split at h
   case h_2=>cases h
   rename_i hsz;split at h
   ·rename_i hm;exact⟨_,h, .fp _ (L.qT t _ nx),λρ=>by have ex:=hs.fM hx ρ;rw[gI]at ex;rw[mq,L.clo];exact .aiJ ho ex (ey ρ) hT (qY hsz) hm⟩
   ·cases h
  ·rename_i id hx;split at h
   case h_2=>cases h
   rename_i t l hr;split at h
   case h_2=>cases h
   rename_i hsz;split at h
   ·rename_i hm;refine⟨_,h, .ra _ _ _ _ (hs.qT hx).aCC,λρ=> ?_⟩;have ex:=hs.fM hx ρ;rw[dO]at ex;obtain⟨i,hi⟩:=hs.row hr ρ;rw[jC,yt];exact .Yn i ho ex hi (ey ρ) hT (qY hsz) hm
   ·cases h
  ·cases h
 ·rename_i n e hT;split at h
  case h_2=>cases h
  rename_i sz hsz;split at h
  case isFalse=>cases h
  rename_i hm;split at h
  ·rename_i id off hx;exact⟨_,h, .ptr _ _ (hs.qT hx).aw0,λρ=>by have ex:=hs.fM hx ρ;rw[fH]at ex ⊢;exact .anI ho ex (ey ρ) hT hsz hm⟩
  ·rename_i cs hx;exact⟨_,h, .fp _ (mO (hs.qT hx).fpL _),λρ=>by have ex:=hs.fM hx ρ;rw[mq]at ex ⊢;rw[xJ];exact .aoP ho ex (ey ρ) hT hsz hm⟩
  ·rename_i id t j off hx;exact⟨_,h, .ra _ _ _ _ (hs.qT hx).raL,λρ=>by have ex:=hs.fM hx ρ;rw[jC]at ex ⊢;rw[<-xG];exact .asH ho ex (ey ρ) hT hsz hm⟩
  ·cases h
 ·cases h
def ldV(P:Program)(rd:Nat->af IR)(T:TypeId)(x:af AV)(K:AV->af α):af α:=match Wp P T with
 |true=>match x with
  |some (.fp cs)=>(cs[0]?).bind K
  |some (.ptr id off)=>match rd id with
   |some (.box _ cs)=>(cs[off]?).bind K
   |_=>G
  |some (.ra id t m off)=>match rd id with
   |some (.row t' l)=>match L.arr t' with
    |true=>if t=t'/\m<l.length/\off<U.sz t' then K (.lit (.bool (L.gtB t' l[m]! off)))else G
    |false=>if t=t'/\m<l.length then((U.cells t' l[m]!)[off]?).bind K else G
   |_=>G
  |_=>G
 |false=>match Tz P T with
  |some n=>match x with
   |some (.fp cs)=>match yl n cs.length with
    |true=>K (.agg (cs.take n))
    |false=>G
   |some (.ptr id off)=>match rd id with
    |some (.box _ cs)=>match yl (off+n) cs.length with
     |true=>K (.agg ((cs.drop off).take n))
     |false=>G
    |_=>G
   |some (.ra id t m off)=>match rd id with
    |some (.row t' l)=>match yl (off+n) (U.sz t')with
     |true=>if t=t'/\m<l.length then K (.agg (((U.cells t' l[m]!).drop off).take n))else G
     |false=>G
    |_=>G
   |_=>G
  |none=>G
def arM{T:TypeId}(hs:j6 ev rd nx E R)(ho:o.op= .load T x){K:AV->af α}(h:ldV P rd T (ev x) K=V r):∃d,K d=V r/\Pu P o E R nx d:=by
 unfold ldV at h;split at h
 ·rename_i hT;have hT:=CH hT;split at h
  ·rename_i cs hx;obtain⟨d,hd,h⟩:=zq.1 h;exact⟨d,h,vG (hs.qT hx).fpL hd,λρ=>by have ex:=hs.fM hx ρ;rw[mq]at ex;exact .apd ho ex hT (by rw[yb,hd];rfl)⟩
  ·rename_i id off hx;split at h
   case h_2=>cases h
   rename_i t cs hr;obtain⟨d,hd,h⟩:=zq.1 h;refine⟨d,h,vG (hs.ag9 hr) hd,λρ=> ?_⟩;have ex:=hs.fM hx ρ;rw[fH]at ex;obtain⟨i,hi⟩:=hs.box hr ρ;exact .apH i ho ex hi hT (by rw[yb,hd];rfl)
  ·rename_i id t m off hx;split at h
   case h_2=>cases h
   rename_i t' l hr;split at h
   ·rename_i har;split at h
    case isFalse=>cases h
    rename_i hm;obtain⟨rfl,hm,hoff⟩:=hm;refine⟨_,h, .lit _,λρ=> ?_⟩;have ex:=hs.fM hx ρ;rw[jC]at ex;obtain⟨i,hi⟩:=hs.row hr ρ;rw[show (cc.lit (.bool (L.gtB t l[m]! off)):AV).sub ρ= .lit (.bool (L.gtB t l[m]! off))by simp only[cc.sub]];exact .abd i m ho ex hi hT rfl hm (L.ahP t har l[m]! off hoff)
   split at h
   case isFalse=>cases h
   rename_i hm;obtain⟨rfl,hm⟩:=hm;obtain⟨d,hd,h⟩:=zq.1 h;refine⟨d,h,vG (L.qT t _ nx) hd,λρ=> ?_⟩;have ex:=hs.fM hx ρ;rw[jC]at ex;obtain⟨i,hi⟩:=hs.row hr ρ;have hc:d.sub ρ=d:=by
    have:=L.clo t l[m]! ρ;have h2:((U.cells t l[m]!).map (cc.sub ρ))[off]? =V (d.sub ρ):=by rw[yb,hd];rfl
    rw[this,hd]at h2;exact(zA.inj h2).symm
   rw[hc];exact .abd i m ho ex hi hT rfl hm hd
  ·cases h
 ·split at h
  case h_2=>cases h
  rename_i n hT;have hT:=MK hT;split at h
  ·rename_i cs hx;split at h
   case h_2=>cases h
   rename_i hn;exact⟨_,h, .agg _ (o8 (hs.qT hx).fpL _),λρ=>by have ex:=hs.fM hx ρ;rw[mq]at ex;rw[fo,xQ];exact .as1 ho ex hT (by rw[zx];exact wh hn)⟩
  ·rename_i id off hx;split at h
   case h_2=>cases h
   rename_i t cs hr;split at h
   case h_2=>cases h
   rename_i hn;refine⟨_,h, .agg _ (o8 (mO (hs.ag9 hr) _) _),λρ=> ?_⟩;have ex:=hs.fM hx ρ;rw[fH]at ex;obtain⟨i,hi⟩:=hs.box hr ρ;rw[fo,xQ,xJ];exact .ao8 i ho ex hi hT (by rw[zx];exact wh hn)
  ·rename_i id t m off hx;split at h
   case h_2=>cases h
   rename_i t' l hr;split at h
   case h_2=>cases h
   rename_i hn;split at h
   case isFalse=>cases h
   rename_i hm;obtain⟨rfl,hm⟩:=hm;refine⟨_,h, .agg _ (o8 (mO (L.qT t _ nx) _) _),λρ=> ?_⟩;have ex:=hs.fM hx ρ;rw[jC]at ex;obtain⟨i,hi⟩:=hs.row hr ρ;rw[fo,xQ,xJ,L.clo];exact .ap6 i m ho ex hi hT rfl hm (wh hn)
  ·cases h
end
end Go.Iv
end
noncomputable section
namespace Go.Iv
variable [U:qO] [L:mI]
open Go Go.RowKit
section
variable {P:Program} {E:Env} {σ:aa cE} {o:Oper} {T T' e:TypeId} {x y z:Operand} {av:AV} {m:Int} {k:IntKind}
def Yp.anJ{n':Nat}{cs:aa AV}(ho:o.op= .index T x y)(hx:E.ev x=V (.agg cs))(hy:E.ev y=V (.n k m))(hT:P.underlying T=V (.array n' e))(h1:sC P e)(hs:(P.info? e).map (·.size)=V 1)(hm:0<=m/\m<n')(ha:cs[m.toNat]? =V av):Yp P E σ o av:=λA w ρ _ hρ=>by
 obtain⟨j,hj,hj'⟩:=zk.1 hs;obtain⟨us,q1,q2⟩:=(hρ _ _ hx).oD;have hy':=(hρ _ _ hy).cH;obtain⟨v,q3,q4⟩:=q2.get ha;refine⟨v,q4,λw' _=> ?_⟩;have hp:(part e us.toArray m.toNat).run P w'= .ok v w':=by
  unfold part;rw[Sem.run_bind,mw h1];simp[q3]
 simp[execOp,ho,Instr.index,q1,hy',run_underlying hT,sizeOf,typeInfo,hj,hj',asIntOf,hm,hp]
end
section
variable {α:Type} {r:α} {P:Program} {o:Oper} {E:Env} {R:bg} {nx:Nat} {ev:Operand->af AV} {rd:Nat->af IR} {x y z:Operand} {d:AV} {A:Nat->Prop} {w:World} {ρ:Gh} {v:Value}
def lz(ρ:Gh)(d:AV):dW (d.sub ρ)=(dW d).map (cc.sub ρ):=by
 cases d<;>simp only[cc.sub,dW,ye,yS]
def PJ{d:AV}(h:iC d=O)(hn:∀id,d≠ .own id):iC (d.sub ρ)=O:=by
 cases d<;>first|(exact dD rfl (hn _))|(cases h;done)|(simp only[cc.sub,iC]at h ⊢;done)|(simp only[cc.sub,iC]at h ⊢;first|exact h|rfl)
def Dj(hs:j6 ev rd nx E R)(h:DQ rd d=O)(hd:Hd A (bg.res ρ R) w)(hr:Rel A w (d.sub ρ) v):v.oneCell'=O:=by
 unfold DQ at h;split at h
 ·rename_i id;split at h
  ·rename_i t l hrd;obtain⟨i,hi⟩:=hs.row hrd ρ;rw[dO]at hr;rw[hr.cH];exact akn i hi hd
  ·cases h
 ·rw[fH]at hr;rw[hr.cH];rfl
 ·cases h
 ·rename_i h1 _ _;exact hr.one (PJ h (λid e=>h1 id e))
def uJ(hs:j6 ev rd nx E R)(h:FH rd d=O)(hd:Hd A (bg.res ρ R) w)(hr:Rel A w (d.sub ρ) v):bN A w ((dW d).map (cc.sub ρ)) v.cells.toList/\∀u∈v.cells.toList,u.oneCell'=O:=by
 by_cases ha:∃cs,d= .agg cs
 ·obtain⟨cs,rfl⟩:=ha;rw[fo]at hr;obtain⟨us,rfl,h2⟩:=hr.oD;refine⟨by simpa [Value.cells,dW]using h2,λu hu=> ?_⟩;simp only[Value.cells,List.toList_toArray]at hu;obtain⟨j,hj,rfl⟩:=yZ hu;have hlt:j<cs.length:=by have:=h2.1;rw[zx]at this;omega
  have h3:=h2.2 j _ us[j] (by rw[yb,zu hlt];rfl) (zu hj);exact Dj hs (zw.1 h _ (xM hlt)) hd h3
 ·have hc:DQ rd d=O:=by
   cases d<;>first|exact h|(exact dD ⟨_,rfl⟩ ha)
  have hac:dW d=[d]:=by
   cases d<;>first|rfl|(exact dD ⟨_,rfl⟩ ha)
  have h2:=Dj hs hc hd hr;rw[hac,sq h2];exact⟨bN.cons hr bN.nil,λu hu=>by simp at hu;rw[hu];exact h2⟩
def HP(hs:j6 ev rd nx E R)(h:FH rd d=O):Pw (bg.res ρ R) (d.sub ρ):=λA w v hd hr=>by
 rw[lz];exact uJ hs h hd hr
def vk(rd:Nat->af IR)(place:Nat->af (Nat×Nat))(cells:aa AV):aa (Nat×AV)->af (aa AV)
 |[]=>V cells
 |(i,a)::rest=>
  match place i with
  |none=>G
  |some (off,size)=>
   match zf (dW a).length size&&yl (off+size) cells.length&&FH rd a with
   |true=>vk rd place (cells.take off++dW a++cells.drop (off+size)) rest
   |false=>G
def G0{place:Nat->af (Nat×Nat)}:∀{ps:aa (Nat×AV)} {cs cs':aa AV},(∀c∈cs,cS nx c)->(∀p∈ps,cS nx p.2)->vk rd place cs ps=V cs'->∀c∈cs',cS nx c
 |[],cs,cs',h1,_,hf=>by cases hf;exact h1
 |(i,a)::ps,cs,cs',h1,h2,hf=>by
  unfold vk at hf;split at hf
  ·cases hf
  ·split at hf
   ·exact G0 (uK (uK (o8 h1 _) (AJ (h2 _ zo))) (mO h1 _)) (λp hp=>h2 p (zO _ hp)) hf
   ·cases hf
def AA(hs:j6 ev rd nx E R)(hd:Hd A (bg.res ρ R) w){place:Nat->af (Nat×Nat)}:∀{ps:aa (Nat×AV)} {qs:aa (Nat×Value)} {cs cs':aa AV} {init:Array Value},bN A w (cs.map (cc.sub ρ)) init.toList->
  F2 (λ(p:Nat×AV) (q:Nat×Value)=>p.1=q.1/\Rel A w (p.2.sub ρ) q.2) ps qs->vk rd place cs ps=V cs'->∃us:Array Value,Instr.fill place init qs=V us/\bN A w (cs'.map (cc.sub ρ)) us.toList
 |[],_,cs,cs',init,hi,hp,hf=>by
  cases hp;cases hf;exact⟨init,rfl,hi⟩
 |(i,a)::ps,_,cs,cs',init,hi,hp,hf=>by
  cases hp with
  |@cons _ q _ qs h1 h2=>
   obtain⟨j,v⟩:=q;obtain⟨h3,h4⟩:=h1;simp only at h3 h4;subst h3;unfold vk at hf;unfold Instr.fill;cases hpl:place i with
   |none=>rw[hpl]at hf;cases hf
   |some os=>
    obtain⟨off,size⟩:=os;rw[hpl]at hf;simp only at hf ⊢;split at hf
    ·rename_i hc;simp only[zi,Nat.ble_eq]at hc;obtain⟨⟨hc1,hc2⟩,hc3⟩:=hc;have hc1:=xh hc1;obtain⟨h5,h6⟩:=uJ hs hc3 hd h4;have hvs:v.cells.size=size:=by rw[<-yj,h5.1,zx,hc1]
     have his:init.size=cs.length:=by rw[<-yj,hi.1,zx]
     rw[bO (by simp[hvs];omega)];refine AA hs hd (cs:=cs.take off++dW a++cs.drop (off+size)) ?_ h2 hf;have hvl:v.cells.toList.length=size:=by rw[yj,hvs]
     have e:(v.cells.zipIdx.foldl (λcs (x:Value×Nat)=>match x with|(c,j)=>cs.setIfInBounds (off+j) c) init).toList=init.toList.take off++v.cells.toList++init.toList.drop (off+size):=by
      have:=VP v.cells.toList 0 off init (by rw[hvl];omega);rw[hvl,yt]at this;rw[<-this,<-Array.foldl_toList,Array.toList_zipIdx]
     show bN A w _ (v.cells.zipIdx.foldl _ init).toList;rw[e,z8,z8,xQ,xJ];exact((hi.take off).app h5).app (hi.drop (off+size))
    ·cases hf
def evp(ev:Operand->af AV):aa (Nat×Operand)->af (aa (Nat×AV))
 |[]=>V []
 |(i,x)::xs=>match ev x with
  |some a=>(evp ev xs).map λas0=>(i,a)::as0
  |none=>G
def Sm(hs:j6 ev rd nx E R):∀{xs:aa (Nat×Operand)} {as0:aa (Nat×AV)},evp ev xs=V as0->∀p∈as0,cS nx p.2
 |[],as0,h=>by cases h;simp
 |(i,x)::xs,as0,h=>by
  unfold evp at h;split at h
  ·rename_i a ha;obtain⟨as',h1,rfl⟩:=zk.1 h;intro p hp;rcases zD.1 hp with rfl|hp
   ·exact hs.qT ha
   ·exact Sm hs h1 p hp
  ·cases h
def IY(hs:j6 ev rd nx E R){ϱ:Operand->Value}(h:OI A w (E.sub ρ) ϱ):∀{xs:aa (Nat×Operand)} {as0:aa (Nat×AV)},evp ev xs=V as0->
  F2 (λ(p:Nat×AV) (q:Nat×Value)=>p.1=q.1/\Rel A w (p.2.sub ρ) q.2) as0 (xs.map λp=>(p.1,ϱ p.2))
 |[],as0,he=>by cases he;exact .nil
 |(i,x)::xs,as0,he=>by
  unfold evp at he;split at he
  ·rename_i a ha;obtain⟨as',h1,rfl⟩:=zk.1 he;exact .cons ⟨rfl,h x _ (hs.fM ha ρ)⟩ (IY hs h h1)
  ·cases he
def ML(ev:Operand->af AV):aa Operand->af (aa AV)
 |[]=>V []
 |x::xs=>match ev x with
  |some a=>(ML ev xs).map λas0=>a::as0
  |none=>G
def KP(hs:j6 ev rd nx E R):∀{xs:aa Operand} {as0:aa AV},ML ev xs=V as0->∀d∈as0,cS nx d
 |[],as0,h=>by cases h;simp
 |x::xs,as0,h=>by
  unfold ML at h;split at h
  ·rename_i a ha;obtain⟨as',h1,rfl⟩:=zk.1 h;intro p hp;rcases zD.1 hp with rfl|hp
   ·exact hs.qT ha
   ·exact KP hs h1 p hp
  ·cases h
def Kk(hs:j6 ev rd nx E R)(ρ:Gh):∀{xs:aa Operand} {as0:aa AV},ML ev xs=V as0->(E.sub ρ).ML xs=V (as0.map (cc.sub ρ))
 |[],as0,he=>by cases he;rfl
 |x::xs,as0,he=>by
  unfold ML at he;split at he
  ·rename_i a ha;obtain⟨as',h1,rfl⟩:=zk.1 he;unfold Env.ML;rw[hs.fM ha ρ,Kk hs ρ h1];rfl
  ·cases he
def Qh(P:Program)(ev:Operand->af AV)(rd:Nat->af IR)(T:TypeId)(ps:aa (Nat×Operand))(K:AV->af α):af α:=
 match evp ev ps,jQ P T with
 |some as0,V zs=>match P.underlying T with
  |some (.struct _)=>match placesOf P T with
   |some places=>(vk rd (places[·]?) (zs.map .lit) as0).bind λcs=>K (.agg cs)
   |none=>G
  |some (.array _ e)=>match (P.info? e).map (·.size)with
   |some sz=>(vk rd (λi=>V (i*sz,sz)) (zs.map .lit) as0).bind λcs=>K (.agg cs)
   |none=>G
  |_=>G
 |_,_=>G
def FJ(ρ:Gh)(zs:aa Value):(zs.map (cc.lit (dz:=U.dz))).map (cc.sub ρ)=zs.map .lit:=by
 rw[yq];exact zX λv _=>bW ρ v
def adJ{T:TypeId}{ps:Array (Nat×Operand)}(hs:j6 ev rd nx E R)(ho:o.op= .build T ps){K:AV->af α}(h:Qh P ev rd T ps.toList K=V r):∃d,K d=V r/\Pu P o E R nx d:=by
 unfold Qh at h;split at h
 case h_2=>cases h
 rename_i as0 zs he hz;have main:∀(place:Nat->af (Nat×Nat)) (cs:aa AV),vk rd place (zs.map .lit) as0=V cs->(∀(vs:aa (Nat×Value)) (us:Array Value),Instr.fill place zs.toArray vs=V us->P.built T vs=V us)->Pu P o E R nx (.agg cs):=λplace cs hf hb=>by
  refine⟨.agg _ (G0 (My nx zs) (Sm hs he) hf),λρ A w ϱ hd hρ=> ?_⟩;obtain⟨it,hit,hz1⟩:=zq.1 hz;obtain⟨zv,hz2,hz3⟩:=zk.1 hz1;have hzr:bN A w ((zs.map cc.lit).map (cc.sub ρ)) zs:=by rw[FJ];exact bN.lits _
  obtain⟨us,h1,h2⟩:=AA (init:=zs.toArray) hs hd hzr (IY hs hρ he) hf;rw[fo];refine⟨.agg us,by simpa using Rel.oN h2,λw' _=> ?_⟩;have:=run_build (P:=P) w' T _ us (hb _ us h1);rw[<-OE]at this;simp[execOp,ho,this]
 split at h
 ·rename_i fs hT;split at h
  case h_2=>cases h
  rename_i places hp;obtain⟨cs,hf,h⟩:=zq.1 h;refine⟨_,h,main _ cs hf λvs us hu=> ?_⟩;obtain⟨it,hit,hz1⟩:=zq.1 hz;obtain⟨zv,hz2,hz3⟩:=zk.1 hz1;unfold Program.built;unfold placesOf at hp;rw[hit,hT]at*;simp only at hp;simp only[hz2,hp];have:zv.cells=zs.toArray:=by rw[<-hz3]
  rw[this];simpa using hu
 ·rename_i n e hT;split at h
  case h_2=>cases h
  rename_i sz hsz;obtain⟨cs,hf,h⟩:=zq.1 h;refine⟨_,h,main _ cs hf λvs us hu=> ?_⟩;obtain⟨it,hit,hz1⟩:=zq.1 hz;obtain⟨zv,hz2,hz3⟩:=zk.1 hz1;obtain⟨ie,hie,hse⟩:=zk.1 hsz;unfold Program.built;rw[hit,hT];simp only[hz2,hie,hse];have:zv.cells=zs.toArray:=by rw[<-hz3]
  rw[this];exact hu
 ·cases h
def PI(P:Program)(rd:Nat->af IR)(T T':TypeId)(x:af AV)(K:AV->af α):af α:=match P.underlying T,P.underlying T' with
 |some (.int _),V (.int k')=>match x with
  |some (.lit (.int k n))=>match P.underlying T with
   |some (.int k0)=>if k0=k then K (.n k' (k'.wrap n))else G
   |_=>G
  |_=>G
 |some (.slice e),V .string=>match P.underlying e with
  |some (.int .u8)=>match x with
   |some (.sl t l)=>(L.af1 t l).bind λns=>K (.s (strOfNums ns))
   |some (.own id)=>match rd id with
    |some (.row t l)=>(L.af1 t l).bind λns=>K (.s (strOfNums ns))
    |_=>G
   |_=>G
  |_=>G
 |_,_=>G
def adL{T T':TypeId}(hs:j6 ev rd nx E R)(ho:o.op= .convert T T' x){K:AV->af α}(h:PI P rd T T' (ev x) K=V r):∃d,K d=V r/\Pu P o E R nx d:=by
 unfold PI at h;split at h
 ·rename_i k0 k' hT hT';split at h
  case h_2=>cases h
  rename_i k n hx;have ex:=λρ=>hs.fM hx ρ;simp only[bW]at ex;split at h
  case h_2=>cases h
  rename_i k1 hk1;split at h
  case isFalse=>cases h
  rename_i hk;subst hk;exact⟨_,h, .lit λρ=> .conv hk1 hT' ho (ex ρ)⟩
 ·rename_i e hT hT';split at h
  case h_2=>cases h
  rename_i he;split at h
  ·rename_i t l hx;obtain⟨ns,hn,h⟩:=zq.1 h;exact⟨_,h, .lit λρ=> .b2s ho (.inr (.inl (by have ex:=hs.fM hx ρ;rw[gI]at ex;exact ex))) (L.vE t l ns hn).1 (L.vE t l ns hn).2 hT he hT'⟩
  ·rename_i id hx;split at h
   case h_2=>cases h
   rename_i t l hr;obtain⟨ns,hn,h⟩:=zq.1 h;refine⟨_,h, .lit λρ=> ?_⟩;have ex:=hs.fM hx ρ;rw[dO]at ex;obtain⟨i,hi⟩:=hs.row hr ρ;exact .b2s ho (.inr (.inr ⟨i,_,ex,hi⟩)) (L.vE t l ns hn).1 (L.vE t l ns hn).2 hT he hT'
  ·cases h
 ·cases h
def RX(i:Nat)(x:af AV)(K:AV->af α):af α:=match x with
 |some (.iR cs)=>(cs[i]?).bind K
 |_=>G
def afO{i:Nat}(hs:j6 ev rd nx E R)(ho:o.op= .extract x i){K:AV->af α}(h:RX i (ev x) K=V r):∃d,K d=V r/\Pu P o E R nx d:=by
 unfold RX at h;split at h
 ·rename_i cs hx;obtain⟨d,hd,h⟩:=zq.1 h;exact⟨d,h,vG (hs.qT hx).Gw hd,λρ=>by have ex:=hs.fM hx ρ;rw[kF]at ex;exact .extract ho ex (by rw[yb,hd];rfl)⟩
 ·cases h
def QI(ev:Operand->af AV)(f:Go.Fn)(fs cs:aa Operand)(K:AV->af α):af α:=match fs with
 |[]=>(ML ev cs).bind λas0=>K (.fn f as0)
 |_=>G
def afD{f:Go.Fn}{fs cs:Array Operand}(hs:j6 ev rd nx E R)(ho:o.op= .makeFunc f fs cs){K:AV->af α}(h:QI ev f fs.toList cs.toList K=V r):∃d,K d=V r/\Pu P o E R nx d:=by
 unfold QI at h;split at h
 ·rename_i h0;obtain⟨as0,ha,h⟩:=zq.1 h;refine⟨_,h, .fn _ _ (KP hs ha),λρ=> ?_⟩;rw[tS];exact .func ho (by rw[<-Array.toList_eq_nil_iff];exact h0) (Kk hs ρ ha)
 ·cases h
def cz(s:ByteArray)(i:Nat):Int:=((s.data[i]!).toNat:Int)
def Yp.apW{T:TypeId}{E:Env}{σ:aa cE}{s:ByteArray}{k:IntKind}{m:Int}(ho:o.op= .index T x y)(hx:E.ev x=V (.s s))(hy:E.ev y=V (.n k m))(hT:P.underlying T=V .string)(hm:0<=m/\m<(s.size:Int)):Yp P E σ o (.n .u8 (cz s m.toNat)):=λA w ρ _ hρ=>by
 refine⟨_, .lit _,λw' _=> ?_⟩;have hx':=(hρ _ _ hx).cH;have hy':=(hρ _ _ hy).cH;have h:=run_index_string (P:=P) w' T s k m hT;rw[dif_pos hm]at h;have e:cz s m.toNat=((s[m.toNat]'(by omega)).toNat:Int):=by
  unfold cz;have hlt:m.toNat<s.data.size:=by have:s.data.size=s.size:=rfl;omega
  rw[getElem!_pos s.data m.toNat hlt];rfl
 rw[<-e]at h;simp[execOp,ho,hx',hy',h]
def Rh(P:Program)(T:TypeId)(x y:af AV)(K:AV->af α):af α:=match P.underlying T with
 |some (.array n e)=>match Wp P e&&NX P e 1 with
  |true=>match x,y with
   |some (.agg cs),V (.lit (.int _ m))=>if 0<=m/\m<(n:Int)then(cs[m.toNat]?).bind K else G
   |_,_=>G
  |false=>G
 |some .string=>match x,y with
  |some (.lit (.string s)),V (.lit (.int _ m))=>if 0<=m/\m<(s.size:Int)then K (.n .u8 (cz s m.toNat))else G
  |_,_=>G
 |_=>G
def ahu{T:TypeId}(hs:j6 ev rd nx E R)(ho:o.op= .index T x y){K:AV->af α}(h:Rh P T (ev x) (ev y) K=V r):∃d,K d=V r/\Pu P o E R nx d:=by
 unfold Rh at h;split at h
 case h_3=>cases h
 case h_2=>
  rename_i hT;split at h
  case h_2=>cases h
  rename_i s k m hx hy;split at h
  case isFalse=>cases h
  rename_i hm;have ex:=λρ=>hs.fM hx ρ;have ey:=λρ=>hs.fM hy ρ;simp only[bW]at ex ey;exact⟨_,h, .lit λρ=> .apW ho (ex ρ) (ey ρ) hT hm⟩
 rename_i n e hT;split at h
 case h_2=>cases h
 rename_i he;simp only[zi]at he;split at h
 case h_2=>cases h
 rename_i cs k m hx hy;split at h
 case isFalse=>cases h
 rename_i hm;obtain⟨d,hd,h⟩:=zq.1 h;refine⟨d,h,vG (hs.qT hx).oN hd,λρ=> ?_⟩;have ex:=hs.fM hx ρ;have ey:=hs.fM hy ρ;rw[fo]at ex;rw[bW]at ey;exact .anJ ho ex ey hT (CH he.1) (qY he.2) hm (by rw[yb,hd];rfl)
def OO(P:Program)(T:TypeId)(x:af AV)(lo hi:af (af AV))(K:AV->af α):af α:=match P.underlying T with
 |some (.slice e)=>match x with
  |some (.sl t l)=>match NX P e (U.sz t)with
   |true=>match lo,hi with
    |some (V (.lit (.int _ a))),V (V (.lit (.int _ b)))=>if 0<=a/\a<=b/\b<=(l.length:Int)then K (.sl t ((l.take b.toNat).drop a.toNat))else G
    |none,V (V (.lit (.int _ b)))=>if 0<=b/\b<=(l.length:Int)then K (.sl t (l.take b.toNat))else G
    |some (V (.lit (.int _ a))),G=>if 0<=a/\a<=(l.length:Int)then K (.sl t (l.drop a.toNat))else G
    |_,_=>G
   |false=>G
  |some (.lit (.slice G 0 0))=>match P.info? e with
   |some _=>match lo,hi with
    |some (V (.lit (.int _ 0))),G=>K (.lit (.slice G 0 0))
    |_,_=>G
   |none=>G
  |_=>G
 |_=>G
def Yp.Yj{P:Program}{E:Env}{σ:aa cE}{o:Oper}{T e:TypeId}{x y:Operand}{k:IntKind}{j:TypeInfo}(ho:o.op= .slice T x (V y) G G)(hx:E.ev x=V (.lit (.slice G 0 0)))(hy:E.ev y=V (.lit (.int k 0)))(hT:P.underlying T=V (.slice e))(hj:P.info? e=V j):Yp P E σ o (.lit (.slice G 0 0)):=Yp.lits λρ hρ w=>by
 simp[execOp,ho,hρ _ _ hx,hρ _ _ hy,Instr.sliceAt,Instr.slice,Instr.sliceBounds,Instr.sliceBound,run_underlying hT,sizeOf,typeInfo,hj,asIntOf]
def ajq{T:TypeId}{lo hi:af Operand}(hs:j6 ev rd nx E R)(ho:o.op= .slice T x lo hi G){K:AV->af α}(h:OO P T (ev x) (lo.map ev) (hi.map ev) K=V r):∃d,K d=V r/\Pu P o E R nx d:=by
 unfold OO at h;split at h
 case h_2=>cases h
 rename_i e hT;split at h
 case h_3=>cases h
 case h_2=>
  rename_i hx;split at h
  case h_2=>cases h
  rename_i j hj;split at h
  case h_2=>cases h
  rename_i k hlo hhi;cases lo with
  |none=>cases hlo
  |some lo=>
   cases hi with
   |some hi=>cases hhi
   |none=>
    have ex:=λρ=>hs.fM hx ρ;have e1:=λρ=>hs.fM (zA.inj hlo) ρ;simp only[bW]at ex e1;exact⟨_,h, .lit _,λρ=>by rw[bW];exact .Yj ho (ex ρ) (e1 ρ) hT hj⟩
 rename_i t l hx;split at h
 case h_2=>cases h
 rename_i hsz;have hsz:=qY hsz;have ex:=λρ=>hs.fM hx ρ;simp only[gI]at ex;split at h
 ·rename_i k a k' b hlo hhi;split at h
  case isFalse=>cases h
  rename_i hc;cases lo with
  |none=>cases hlo
  |some lo=>
   cases hi with
   |none=>cases hhi
   |some hi=>
    have e1:=λρ=>hs.fM (zA.inj hlo) ρ;have e2:=λρ=>hs.fM (zA.inj hhi) ρ;simp only[bW]at e1 e2;exact⟨_,h, .sl _ _,λρ=>by rw[gI];exact .aqV ho (ex ρ) (e1 ρ) (e2 ρ) hT hsz hc⟩
 ·rename_i k' b hlo hhi;split at h
  case isFalse=>cases h
  rename_i hc;cases lo with
  |some lo=>cases hlo
  |none=>
   cases hi with
   |none=>cases hhi
   |some hi=>
    have e2:=λρ=>hs.fM (zA.inj hhi) ρ;simp only[bW]at e2;exact⟨_,h, .sl _ _,λρ=>by rw[gI];exact .agH ho (ex ρ) (e2 ρ) hT hsz hc⟩
 ·rename_i k a hlo hhi;split at h
  case isFalse=>cases h
  rename_i hc;cases lo with
  |none=>cases hlo
  |some lo=>
   cases hi with
   |some hi=>cases hhi
   |none=>
    have e1:=λρ=>hs.fM (zA.inj hlo) ρ;simp only[bW]at e1;exact⟨_,h, .sl _ _,λρ=>by rw[gI];exact .ajw ho (ex ρ) (e1 ρ) hT hsz hc⟩
 ·cases h
def P9(P:Program)(rd:Nat->af IR)(T:TypeId)(x:af AV)(K:AV->af α):af α:=match P.underlying T with
 |some (.slice _)=>match x with
  |some (.sl _ l)=>K (.i (l.length:Int))
  |some (.own id)=>match rd id with
   |some (.row _ l)=>K (.i (l.length:Int))
   |_=>G
  |some (.lit (.slice G 0 0))=>K (.i 0)
  |_=>G
 |some .string=>match x with
  |some (.lit (.string s))=>K (.i (s.size:Int))
  |_=>G
 |_=>G
def agj{T:TypeId}(hs:j6 ev rd nx E R)(ho:o.op= .call {callee:= .builtin .len,args:=#[x],argTypes:=#[T]}){K:AV->af α}(h:P9 P rd T (ev x) K=V r):∃d,K d=V r/\Pu P o E R nx d:=by
 unfold P9 at h;split at h
 ·rename_i e hT;split at h
  ·rename_i t l hx;exact⟨_,h, .lit λρ=> .aye ho (by have ex:=hs.fM hx ρ;rw[gI]at ex;exact ex) hT⟩
  ·rename_i id hx;split at h
   case h_2=>cases h
   rename_i t l hr;refine⟨_,h, .lit λρ=> ?_⟩;have ex:=hs.fM hx ρ;rw[dO]at ex;obtain⟨i,hi⟩:=hs.row hr ρ;exact .aoi i ho ex hi hT
  ·rename_i hx;exact⟨_,h, .lit λρ=> .ap8 ho (by have ex:=hs.fM hx ρ;rw[bW]at ex;exact ex) hT⟩
  ·cases h
 ·rename_i hT;split at h
  ·rename_i s hx;exact⟨_,h, .lit λρ=> .aoY ho (by have ex:=hs.fM hx ρ;rw[bW]at ex;exact ex) hT⟩
  ·cases h
 ·cases h
end
end Go.Iv
end
noncomputable section
namespace Go.Iv
variable [U:qO]
open Go Go.RowKit
def Dd{zs:aa Value}{sz:Nat}(hsz:zs.length=sz)(nn:Nat):(Builtin.zeroCells zs.toArray nn).toList=(zl nn zs).flatten:=by
 apply List.ext_getElem?;intro j;have hfl:(zl nn zs).flatten.length=nn*sz:=by simp[hsz]
 have hq:∀(q:Nat) (j:Nat),j<q*sz->(zl q zs).flatten[j]? =zs[j%sz]? :=by
  intro q;induction q with
  |zero=>intro j hj;simp at hj
  |succ q ih=>
   intro j hj;rw[yP,wE,xk];split
   ·rename_i h;rw[hsz]at h;rw[Nat.mod_eq_of_lt h]
   ·rename_i h;rw[hsz]at h;rw[hsz,ih _ (by rw[yO]at hj;omega),Nat.mod_eq_sub_mod (by omega:sz<=j)]
 by_cases hj:j<nn*sz
 ·rw[hq nn j hj];have h0:0<sz:=by
   rcases wD sz with h|h
   ·rw[h]at hj;omega
   ·exact h
  have hlt:j%sz<zs.length:=by rw[hsz];exact yQ _ h0
  rw[zu hlt];simp[Builtin.zeroCells,hsz,hj,zu hlt]
 ·rw[x9 (l:=(zl nn zs).flatten) (by rw[hfl];omega),x9];simp[Builtin.zeroCells,hsz];omega
def BK{P:Program}{w:World}{T tn ty e:TypeId}{kn:IntKind}{i:TypeInfo}{zz v:Value}{sz by' nn mm:Nat}{us:aa Value}(ht:P.underlying T=V (.slice e))(htn:P.underlying tn=V (.int kn))(hi:P.info? e=V i)(hz:i.zero=V zz)(hs:i.size=sz)(hby:i.bytes=by')(hzs:zz.cells.size=sz)(hpos:0<sz)
  (hrow:gD w v e sz nn us) (h1:∀u∈(Builtin.zeroCells zz.cells mm).toList,u.oneCell'=O) (h63:nn+mm<=maxLen) (hb:(nn+mm)*by'<=140737488355328):
  ∃v' w',(Builtin.append_ #[T,tn] ty #[v, .int .i64 mm]).run P w= .ok v' w'/\gD w' v' e sz (nn+mm) (us++(Builtin.zeroCells zz.cells mm).toList)/\Kp (gB v).toList w w'/\(gB v'=gB v\/gB v'=V w.heap.size):=by
 subst hs hby
 have h63':((nn+mm:Nat):Int)<=9223372036854775807:=by unfold maxLen at h63;omega
 have hw:IntKind.i64.wrap (mm:Int)=mm:=by rw[IntKind.wrap_i64];omega
 have hneg:¬((mm:Int)<0):=by omega
 have hmb:mm*i.bytes<=140737488355328:=zK (yL _ (by omega)) hb;have h48i:¬(281474976710656<(mm:Int)*(i.bytes:Int)):=by rw[<-xI];omega
 have hzl:(Builtin.zeroCells zz.cells mm).toList.length=mm*i.size:=by rw[yj,size_zeroCells,hzs]
 by_cases hm:mm=0
 ·subst hm;obtain⟨q,cap,rfl,hcap⟩:=hrow.len;have hrun:(Builtin.append_ #[T,tn] ty #[.slice q nn cap, .int .i64 (0:Nat)]).run P w= .ok (.slice q nn cap) w:=by
   cases q<;>simp[Builtin.append_,run_underlying ht,run_underlying htn,sizeOf,typeInfo,hi,asInt,asIntOf,hw,hcap,storeCells,IntKind.wrap_i64]
  exact⟨_,w,hrun,by simpa [Builtin.zeroCells]using hrow,Kp.refl _ _, .inl rfl⟩
 ·have hfit:∀old,Builtin.nextslicecap (nn+mm) old*i.bytes<=281474976710656\/¬old<nn+mm:=λold=>by
   by_cases h:old<nn+mm
   ·exact .inl (growslice_fits (by omega) hb)
   ·exact .inr h
  have grown:∀(olds:aa Value) (old:Nat),olds.length=nn*i.size->old<nn+mm->us=olds->
    gD (w.drew.alloc (.cells (olds.toArray++Builtin.zeroCells zz.cells mm++Builtin.zeroCells zz.cells (grownCap w (nn+mm) old e-(nn+mm))) e)) (.slice (V ⟨w.heap.size,0,G⟩) (nn+mm) (grownCap w (nn+mm) old e)) e i.size (nn+mm) (us++(Builtin.zeroCells zz.cells mm).toList):=by
   intro olds old hol hlt hus;subst hus;have hge:=grownCap_ge w (nn+mm) old e;have hcm:=grownCap_le_maxLen w (nn+mm) old e h63;obtain⟨ck,hck⟩:∃ck,grownCap w (nn+mm) old e=ck+1:=⟨grownCap w (nn+mm) old e-1,by omega⟩;refine⟨by rw[zj,hol,hzl,yd], .inr ⟨w.heap.size,ck,_,by rw[hck],heap_alloc_new w.drew _,by omega,by omega,?_,?_⟩⟩
   ·rw[<-hck];simp only[Array.size_append,xx,size_zeroCells,hzs,hol,<-yd]
    congr 1
    omega
   ·simp only[Array.toList_append];rw[show (nn+mm)*i.size=(us++(Builtin.zeroCells zz.cells mm).toList).length from by rw[zj,hol,hzl,yd]];exact List.take_left
  have grow:∀(base:af Addr) (old:Nat),(Builtin.firstCells i.size nn (.slice base nn old)).run P w.drew= .ok us.toArray w.drew->us.length=nn*i.size->old<nn+mm->
    ∃v' w',(Builtin.append_ #[T,tn] ty #[.slice base nn old, .int .i64 mm]).run P w= .ok v' w'/\gD w' v' e i.size (nn+mm) (us++(Builtin.zeroCells zz.cells mm).toList)/\Kp [] w w'/\gB v'=V w.heap.size:=λbase old hf hul hlt=>by
   have hr:=Lib.run_append_grow_zeros (P:=P) w T tn ty e i zz .i64 kn ht htn hi hz base nn old us hf mm (by omega) hpos hlt h63' (by omega) ((hfit old).resolve_right (by omega));refine⟨_,_,hr,grown us old hul hlt rfl,⟨rfl,rfl,rfl,yc _,by simp,λk hk _=>heap_alloc_old w.drew _ hk⟩,?_⟩;have hge:=grownCap_ge w (nn+mm) old e;obtain⟨ck,hck⟩:∃ck,grownCap w (nn+mm) old e=ck+1:=⟨grownCap w (nn+mm) old e-1,by omega⟩;rw[hck];rfl
  rcases hrow.2 with ⟨q,rfl,rfl⟩|⟨g,cap,cur,rfl,hg,hnc,hcm,hcs,htake⟩
  ·have hu:us=[]:=xy (by simpa using hrow.1);subst hu;obtain⟨v',w',r1,r2,r3,r4⟩:=grow q 0 (by cases q<;>simp[Builtin.firstCells,loadCells,loadCellsFrom]) (by simp) (by omega);exact⟨v',w',r1,r2,⟨r3.os,r3.tape,r3.output,r3.drawn,r3.size,λk hk _=>r3.block k hk (by simp)⟩, .inr r4⟩
  ·by_cases hroom:nn+mm<=cap+1
   ·have hcl:nn*i.size+(Builtin.zeroCells zz.cells mm).toList.length<=cur.size:=by rw[hzl,hcs,<-yd];exact yL _ hroom
    have hst:=run_storeCells_at P g (nn*i.size) e (Builtin.zeroCells zz.cells mm).toList 0 cur w hg (by simpa using hcl) h1;simp only[yt]at hst;have hns:¬(mm*i.size=0):=Nat.mul_ne_zero hm (by omega);have hr:(Builtin.append_ #[T,tn] ty #[.slice (V ⟨g,0,G⟩) nn (cap+1), .int .i64 mm]).run P w= .ok (.slice (V ⟨g,0,G⟩) (nn+mm) (cap+1)) (w.setRow g (cur.toList.take (nn*i.size)++(Builtin.zeroCells zz.cells mm).toList++cur.toList.drop (nn*i.size+(Builtin.zeroCells zz.cells mm).toList.length)).toArray):=by
     simp[Builtin.append_,run_underlying ht,run_underlying htn,sizeOf,typeInfo,zeroValue,hi,hz,asInt,asIntOf,hw,hneg,hns,h48i,hroom,Addr.add_lit,hst]
    refine⟨_,_,hr,⟨by rw[zj,hrow.1,hzl,yd], .inr ⟨g,cap,_,rfl,setRow_heap w g cur _ e _ hg,hroom,hcm,?_,?_⟩⟩,ny w g _, .inl rfl⟩
    ·simp only[xx,zj,zH,ym,yj]at hcl ⊢;omega
    ·rw[htake,show (nn+mm)*i.size=(us++(Builtin.zeroCells zz.cells mm).toList).length from by rw[zj,hrow.1,hzl,yd]];exact List.take_left
   ·have holds:∀j v,us[j]? =V v->w.cell? ((⟨g,0,G⟩:Addr).add j)=V v:=λj v hj=>by
     rw[qk,yp];exact hrow.cells rfl j v hj
    obtain⟨v',w',r1,r2,r3,r4⟩:=grow (V ⟨g,0,G⟩) (cap+1) (run_firstCells_some (P:=P) w.drew i.size nn ⟨g,0,G⟩ nn (cap+1) us hrow.1 (by simpa using holds)) hrow.1 (by omega);exact⟨v',w',r1,r2,⟨r3.os,r3.tape,r3.output,r3.drawn,r3.size,λk hk _=>r3.block k hk (by simp)⟩, .inr r4⟩
def EL{A:Nat->Prop}{w:World}{q:Nat}{d:U.dz q}{zs:aa Value}(hd:∀A w,bN A w (U.cells q d) zs):∀n,bN A w ((zl n d).flatMap (U.cells q)) (zl n zs).flatten
 |0=>bN.nil
 |n+1=>by
  rw[yP,yP,xH,wE];exact(hd A w).app (EL hd n)
section
variable {P:Program} {C:Cx} {E:Env} {σ:aa cE} {o:Oper} {x y:Operand} {T tn e:TypeId} {v:Value}
def Yv.aCy{by':Nat}{kn:IntKind}{l:aa (U.dz e)}{zs:aa Value}{m:Int}(i:Nat)(d:U.dz e)(ho:o.op= .call {callee:= .builtin .append,args:=#[x,y],argTypes:=#[T,tn]})(hx:E.ev x=V (.lit v))(hσ:σ[i]? =V (.row v e l))(hy:E.ev y=V (.i m))(hT:P.underlying T=V (.slice e))(htn:P.underlying tn=V (.int kn))(hs:(P.info? e).map (λi=>(i.size,i.bytes))=V ((U.sz e),by'))(hz:jQ P e=V zs)(hzl:zs.length=(U.sz e))(hpos:0<(U.sz e))(hb:yl by' 4096=O)
  (hd:∀A w,bN A w (U.cells e d) zs) (hone:zs.all Value.oneCell'=O) (hlen:0<=m/\(l++zl m.toNat d).length<=1073741824):Yv P E σ o C (xN (gB v)) (λa σ'=>∃v',a= .lit v'/\σ'=σ.set i (.row v' e (l++zl m.toNat d))):=λw ρ hg hρ=>by
 obtain⟨it,hit,hz1⟩:=zq.1 hz;obtain⟨zv,hz2,hz3⟩:=zk.1 hz1;obtain⟨ie,hie,hse⟩:=zk.1 hs;have hee:it=ie:=by rw[hit]at hie;exact zA.inj hie
 subst hee;simp only[Prod.mk.injEq]at hse;obtain⟨s1,s2⟩:=hse;have hby:by'<=4096:=by simpa using hb
 obtain⟨us,g1,g2,g3⟩:=CZ (hg.res _ (List.mem_of_getElem? hσ));have hx':=(hρ _ _ hx).cH;have hy':=(hρ _ _ hy).cH;obtain⟨mm,rfl⟩:∃mm:Nat,m=mm:=⟨m.toNat,by omega⟩;rw[ze]at hlen ⊢;obtain⟨_,hlen⟩:=hlen;rw[zj,xO]at hlen;have hbytes:(l.length+mm)*by'<=140737488355328:=by
  have:(l.length+mm)*by'<=1073741824*4096:=Nat.mul_le_mul hlen hby
  omega
 have hzc:zv.cells=zs.toArray:=by rw[<-hz3]
 have hzt:(Builtin.zeroCells zv.cells mm).toList=(zl mm zs).flatten:=by rw[hzc];exact Dd hzl mm
 obtain⟨v',w',r1,r2,r3,r4⟩:=BK (P:=P) (T:=T) (tn:=tn) (ty:=o.type) hT htn hit hz2 s1 s2 (by rw[hzc,xx,hzl]) hpos g1 (mm:=mm) (by
  rw[hzt];intro u hu;obtain⟨q,hq,hu⟩:=List.mem_flatten.1 hu;rw[List.eq_of_mem_replicate hq]at hu;exact zw.1 hone u hu) (by unfold maxLen;omega) hbytes
 rw[hzt]at r2;refine⟨v',w',_,_,⟨v',rfl,rfl⟩,EZ (r:= .row v e l) hg hσ r3 r4 (Eg (by rw[zj,xO];exact r2) (LJ g2 (λj hj=> ?_)) ?_),?_, .lit _⟩
 ·rw[xO]at hj;rw[getElem!_pos _ j (by simpa using hj),List.getElem_replicate,<-(hd (λ_=>True) w).1,hzl]
 ·rw[wF];refine bN.app (g3.mono λb hb hA=>⟨⟨hA.1,λhx=> ?_⟩,r3.block b hb (λhx=>hA.2 (bT.2 ⟨_,List.mem_of_getElem? hσ,by simpa [cE.blk]using hx⟩))⟩) (EL hd mm);obtain⟨s,hs1,hs2⟩:=bT.1 hx;rcases List.mem_or_eq_of_mem_set hs1 with h|h
  ·exact hA.2 (bT.2 ⟨s,h,hs2⟩)
  ·rw[h]at hs2;rcases r4 with r4|r4
   ·exact hA.2 (bT.2 ⟨_,List.mem_of_getElem? hσ,by rw[<-hs2];exact r4.symm⟩)
   ·have hs2':gB v'=V b:=hs2;rw[r4]at hs2';cases hs2';omega
 ·simp[execOp,ho,resolve,invoke,builtin,hx',hy',r1]
end
end Go.Iv
end
noncomputable section
namespace Go.Iv
open Go Go.RowKit
variable [U:qO] {P:Program} {C:Cx} {E:Env} {σ:aa cE} {o:Oper} {T T':TypeId} {x y:Operand} {v:Value}
def Yv.azq{q:Nat}{l l2:aa (U.dz q)}(i:Nat)(ho:o.op= .call {callee:= .builtin .copy,args:=#[x,y],argTypes:=#[T,T']})(hx:E.ev x=V (.lit v))(hσ:σ[i]? =V (.row v q l))(hs:Src σ E y q l2)
  (hT:P.underlying T=V (.slice q)) (hz:(P.info? q).map (·.size)=V 1) (hsz:U.sz q=1) (hlen:l2.length=l.length) (h0:0<l.length) (hone:∀a,(U.cells q a).all iC=O):
  Yv P E σ o C (xN (gB v)) (λa σ'=>a= .i (l.length:Int)/\σ'=σ.set i (.row v q l2)):=λw ρ hg hρ=>by
 obtain⟨j,hj,hj'⟩:=zk.1 hz;obtain⟨us,h1,h2,h3⟩:=hg.res _ (List.mem_of_getElem? hσ);obtain⟨g,cap,cur,hv,hgb,hB,q1,q2,q3,q4⟩:=h1.at h0;obtain⟨p,cap2,news,r1,r2,r3,r4,r5,r6⟩:=Src.spec hs hg.hd hρ;have hx':=(hρ _ _ hx).cH;rcases r2 with r2|⟨a,rfl,r2⟩
 ·omega
 rw[hsz,xz]at r3 q3;have hone':(l2.flatMap (U.cells q)).all iC=O:=zw.2 λc hc=>by
  obtain⟨z,_,hz⟩:=xP.1 hc;exact zw.1 (hone z) c hz
 have hl:=run_loadCells_list (P:=P) w a news r2;have hst:=run_storeCells_at P g 0 q news 0 cur w hB (by rw[r3,q3];omega) (r5.one hone');simp only[yt,yp,xR,yw]at hst;have hpart:∀b,al C (σ.set i (.row v q l2)) b↔al C σ b:=λb=>by
  have hbk:=Ez (r':=cE.row v q l2) hσ rfl;unfold al;rw[hbk]
 have hal:∀b,b<w.heap.size->al C σ b->al C (σ.set i (.row v q l2)) b/\(w.setRow g (news++cur.toList.drop news.length).toArray).heap[b]? =w.heap[b]? :=λb hb hA=>
  ⟨(hpart b).2 hA,setRow_other w g b _ (λe=>hA.2 (bT.2 ⟨_,List.mem_of_getElem? hσ,by rw[e];exact hgb⟩))⟩
 refine⟨.int .i64 l.length,w.setRow g (news++cur.toList.drop news.length).toArray,_,_,⟨rfl,rfl⟩,EZ (r:= .row v q l) hg hσ (by show Kp (xN (gB v)) _ _;rw[hgb];exact ny w g _) (.inl rfl) (Eg (us:=news) ⟨by rw[hsz,xz,r3], .inr ⟨g,cap,_,by rw[hlen];exact hv,setRow_heap w g cur _ q (0,0) hB,by rw[hlen];exact q1,q2,?_,?_⟩⟩ r4 (r5.mono hal)),?_, .lit _⟩
 ·have hc:cur.toList.length=cap+1:=by rw[yj];exact q3
  simp only[xx,zj,ym,hc,hsz,xz,r3,hlen];omega
 ·rw[hsz,xz,<-r3];simp
 ·have hmin:min l2.length l.length=news.length:=by rw[r3];omega
  have hmin':Nat.min l2.length l.length=news.length:=hmin;have hnl:news.length=l.length:=by rw[r3,hlen]
  rw[<-hnl];simp[execOp,ho,resolve,invoke,builtin,hx',hv,r1,Builtin.copy_,run_underlying hT,Builtin.lenOf,Builtin.firstCells,sizeOf,typeInfo,hj,hj',hmin',hl,hst,goInt]
end Go.Iv
end
noncomputable section
namespace Go.Iv
variable [U:qO] [L:mI]
open Go Go.RowKit
inductive gd:Type
 |val (d:AV)
 |new (d:AV) (r:IR)
 |set (id:Nat) (r:IR)
 |grow (id:Nat) (r:IR)
 |all (d:AV) (R:bg) (nx:Nat)
def gd.R(R:bg)(nx:Nat):gd->bg
 | .val _=>R
 | .new _ r=>(nx,r)::R
 | .set id r=>sY id r R
 | .grow id r=>(nx,r)::kH id R
 | .all _ R' _=>R'
def gd.nx(nx:Nat):gd->Nat
 | .val _=>nx
 | .new _ _=>nx+1
 | .set _ _=>nx
 | .grow _ _=>nx+1
 | .all _ _ m=>m
def gd.vl(nx:Nat):gd->af AV
 | .val d=>V d
 | .new d _=>V d
 | .set _ _=>G
 | .grow _ _=>V (.own nx)
 | .all d _ _=>V d
section
variable {P:Program} {C:Cx} {E:Env} {σ σ':aa cE} {o:Oper} {N:af AV->aa cE->Prop} {X:aa Nat} {N0:AV->aa cE->Prop} {av:AV}
def Ye(P:Program)(E:Env)(σ:aa cE)(o:Oper)(C:Cx)(N:af AV->aa cE->Prop):Prop:=∀(w:World) (ϱ:Operand->Value),Good C σ w->OI (al C σ) w E ϱ->
 (∃v w' av σ',N (V av) σ'/\Tr C (bD σ) σ w σ' w'/\(execOp ϱ o).run P w= .ok (.value v) w'/\Rel (al C σ') w' av v)\/
 (∃w' σ',N G σ'/\Tr C (bD σ) σ w σ' w'/\(execOp ϱ o).run P w= .ok .skip w')\/
 (∃f args,(execOp ϱ o).run P w= .ok (.enter f args) w/\Calls P f args w λe w'=>∃v av σ',e= .returned v/\N (V av) σ'/\Tr C (bD σ) σ w σ' w'/\Rel (al C σ') w' av v)
def Tr.wide{w w':World}(h:Tr C X σ w σ' w')(hX:∀b∈X,b∈bD σ):Tr C (bD σ) σ w σ' w':=
 ⟨h.good,⟨h.kp.os,h.kp.tape,h.kp.output,h.kp.drawn,h.kp.size,λk hk hn=>h.kp.block k hk λhx=>hn (hX k hx)⟩,λb hb hA=>⟨(h.al b hb hA).1,hA.2⟩⟩
def Tr.none{w:World}(h:Good C σ w):Tr C (bD σ) σ w σ w:=⟨h,Kp.refl _ _,λ_ _ hA=>⟨hA,hA.2⟩⟩
def Ye.ofP(h:Yp P E σ o av)(hN:N (V av) σ):Ye P E σ o C N:=λw ϱ hg hρ=>by
 obtain⟨v,h1,h2⟩:=h _ w ϱ hg.hd hρ;exact .inl ⟨v,w,av,σ,hN, .none hg,h2 w (λ_ _ _=>rfl),h1⟩
def Ye.ofV(h:Yv P E σ o C X N0)(hX:∀b∈X,b∈bD σ)(hN:∀a σ',N0 a σ'->N (V a) σ'):Ye P E σ o C N:=λw ϱ hg hρ=>by
 obtain⟨v,w',av,σ',h1,h2,h3,h4⟩:=h w ϱ hg hρ;exact .inl ⟨v,w',av,σ',hN _ _ h1,h2.wide hX,h3,h4⟩
def Ye.ofU(h:Yu P E σ o C X σ')(hX:∀b∈X,b∈bD σ)(hN:N G σ'):Ye P E σ o C N:=λw ϱ hg hρ=>by
 obtain⟨w',h2,h3⟩:=h w ϱ hg hρ;exact .inr (.inl ⟨w',σ',hN,h2.wide hX,h3⟩)
def Ye.ofC(h:Yc P E σ o C X N0)(hX:∀b∈X,b∈bD σ)(hN:∀a σ',N0 a σ'->N (V a) σ'):Ye P E σ o C N:=λw ϱ hg hρ=>by
 obtain⟨f,args,h1,h2⟩:=h w ϱ hg hρ;exact .inr (.inr ⟨f,args,h1,h2.mono λe w' ⟨v,av,σ',q1,q2,q3,q4⟩=>⟨v,av,σ',q1,hN _ _ q2,q3.wide hX,q4⟩⟩)
end
def Nx{α:Type}(R:bg)(nx:Nat)(K:gd->af α)(r:α)(ρ:Gh):af AV->aa cE->Prop:=λa σ'=>∃eff:gd,K eff=V r/\nx<=eff.nx nx/\bg.cS (eff.nx nx) (eff.R R nx)/\(∀d,eff.vl nx=V d->cS (eff.nx nx) d)/\
 ∃ρ',oS nx ρ ρ'/\a=(eff.vl nx).map (cc.sub ρ')/\List.Perm σ' (bg.res ρ' (eff.R R nx))
def Wu{α:Type}(P:Program)(o:Oper)(E:Env)(R:bg)(nx:Nat)(K:gd->af α)(r:α):Prop:=∀ρ C,Ye P (E.sub ρ) (bg.res ρ R) o C (Nx R nx K r ρ)
def Gh.gu(ρ:Gh)(n:Nat)(v:Value):Gh:=⟨λi=>if i=n then v else ρ.v i,ρ.b⟩
def Gh.fW(ρ:Gh)(n b:Nat):Gh:=⟨ρ.v,λi=>if i=n then b else ρ.b i⟩
def oS.gu(ρ:Gh)(n:Nat)(v:Value):oS n ρ (ρ.gu n v):=λi hi=>⟨by simp[Gh.gu,Nat.ne_of_lt hi],rfl⟩
def oS.fW(ρ:Gh)(n b:Nat):oS n ρ (ρ.fW n b):=λi hi=>⟨rfl,by simp[Gh.fW,Nat.ne_of_lt hi]⟩
section
variable {α:Type} {r:α} {P:Program} {o:Oper} {E:Env} {R:bg} {nx:Nat} {ev:Operand->af AV} {rd:Nat->af IR} {x y z:Operand} {d:AV} {K:gd->af α}
def Wu.pu(hs:j6 ev rd nx E R)(h:∃d,K (.val d)=V r/\Pu P o E R nx d):Wu P o E R nx K r:=λρ C=>by
 obtain⟨d,h1,h2,h3⟩:=h;exact .ofP (h3 ρ) ⟨.val d,h1,zn _,hs.lr,λd' hd=>by cases hd;exact h2,ρ, .refl _ _,rfl, .refl _⟩
def aaH(hs:j6 ev rd nx E R){d:AV}{rr:IR}{ρ ρ':Gh}{σ':aa cE}{a:AV}(hK:K (.new d rr)=V r)(hd:cS (nx+1) d)(hr:rr.cS (nx+1))(hρ:oS nx ρ ρ')(ha:a=d.sub ρ')(hσ:σ'=rr.res ρ' nx::bg.res ρ R):Nx R nx K r ρ (V a) σ':=by
 refine⟨.new d rr,hK,yc nx,λp hp=> ?_,λd' h=>by cases h;exact hd,ρ',hρ,by rw[ha];rfl,?_⟩
 ·rcases zD.1 hp with rfl|hp
  ·exact⟨zJ _,hr⟩
  ·exact(hs.lr.mono (yc nx)) p hp
 ·rw[hσ,hs.lr.res hρ];exact .refl _
def WA(P:Program)(nx:Nat)(T:TypeId)(K:gd->af α):af α:=((P.info? T).bind λi=>i.zero).bind λz=>K (.new (.ptr nx 0) (.box T (z.cells.toList.map .lit)))
def agc{T:TypeId}(hs:j6 ev rd nx E R)(ho:o.op= .alloc T)(h:WA P nx T K=V r):Wu P o E R nx K r:=λρ C=>by
 obtain⟨z,h1,h⟩:=zq.1 h;obtain⟨i,h2,h3⟩:=zq.1 h1;refine .ofV (.alloc (zs:=z.cells.toList) ho (by rw[h2];simp[h3])) (by simp) λa σ' ⟨b,ha,hσ⟩=> ?_;refine aaH hs (ρ':=ρ.fW nx b) h (.ptr _ _ (zJ _)) (λc hc=>My _ _ c hc) (.fW ρ nx b) ?_ ?_
 ·rw[ha,fH];simp[Gh.fW]
 ·rw[hσ];simp only[IR.res,FJ];simp[Gh.fW]
def Qz(rd:Nat->af IR)(nx:Nat)(T:TypeId)(x:af AV)(K:gd->af α):af α:=match x with
 |some d=>match FH rd d with
  |true=>K (.new (.ptr nx 0) (.box T (dW d)))
  |false=>G
 |none=>G
def agp{T:TypeId}(hs:j6 ev rd nx E R)(ho:o.op= .box T x)(h:Qz rd nx T (ev x) K=V r):Wu P o E R nx K r:=λρ C=>by
 unfold Qz at h;split at h
 case h_2=>cases h
 rename_i d hx;split at h
 case h_2=>cases h
 rename_i hp;refine .ofV (.box ho (hs.fM hx ρ) (HP hs hp)) (by simp) λa σ' ⟨b,ha,hσ⟩=> ?_;have hl:=AJ (hs.qT hx);refine aaH hs (ρ':=ρ.fW nx b) h (.ptr _ _ (zJ _)) (λc hc=>(hl c hc).mono (yc nx)) (.fW ρ nx b) ?_ ?_
 ·rw[ha,fH];simp[Gh.fW]
 ·rw[hσ,lz,cS.Z9 hl (.fW ρ nx b)];simp[IR.res,Gh.fW]
def VK:AV->Bool
 | .lit v=>v.oneCell'
 | .sl _ _=>O
 |_=>S
def aaj:AV->Bool
 | .agg cs=>cs.all VK
 |d=>VK d
def LF{d:AV}(h:VK d=O)(ρ:Gh):d.sub ρ=d:=by
 cases d<;>first|(cases h;done)|simp only[cc.sub]
def Mu{cs:aa AV}(h:cs.all VK=O)(ρ:Gh):cs.map (cc.sub ρ)=cs:=by
 have:cs.map (cc.sub ρ)=cs.map id:=zX λc hc=>LF (zw.1 h c hc) ρ;rw[this,List.map_id]
def LP{d:AV}(h:aaj d=O)(ρ:Gh):d.sub ρ=d:=by
 by_cases ha:∃cs,d= .agg cs
 ·obtain⟨cs,rfl⟩:=ha;rw[fo,Mu h]
 ·exact LF (by cases d<;>first|exact h|(exact dD ⟨_,rfl⟩ ha)) ρ
def La{d:AV}(h:VK d=O):iC d=O:=by
 cases d<;>first|(cases h;done)|exact h|rfl
def Df{d:AV}(h:aaj d=O):Fo d=O:=by
 by_cases ha:∃cs,d= .agg cs
 ·obtain⟨cs,rfl⟩:=ha;exact zw.2 λc hc=>La (zw.1 h c hc)
 ·have:=La (d:=d) (by cases d<;>first|exact h|(exact dD ⟨_,rfl⟩ ha));cases d<;>first|exact this|(exact dD ⟨_,rfl⟩ ha)
def Rz(d:AV):af Bool:=match dW d with
 |[.lit (.bool b)]=>V b
 |_=>G
def WR{d:AV}{b:Bool}(h:Rz d=V b):dW d=[.lit (.bool b)]:=by
 unfold Rz at h;split at h
 ·rename_i b' e;cases h;exact e
 ·cases h
def OM(P:Program)(rd:Nat->af IR)(T:TypeId)(x y:af AV)(K:gd->af α):af α:=match y with
  |some d=>match (P.info? T).map (·.size)with
    |some n=>match zf (dW d).length n&&FH rd d with
      |true=>match x with
        |some (.ptr id off)=>match rd id with
          |some (.box T' cs)=>match yl (off+n) cs.length with
            |true=>K (.set id (.box T' (cs.take off++dW d++cs.drop (off+n))))
            |false=>G
          |_=>G
        |some (.ra id t m off)=>match rd id with
          |some (.row t' l)=>match bif L.arr t'&&aaj d then Rz d else G with
           |some b=>if t=t'/\m<l.length/\off<U.sz t' then K (.set id (.row t' (l.set m (L.stB t' l[m]! off b))))else G
           |none=>match yl (off+n) (U.sz t')&&aaj d with
            |true=>if t=t'/\m<l.length then(L.parse t' ((U.cells t' l[m]!).take off++dW d++(U.cells t' l[m]!).drop (off+n))).bind λq=>K (.set id (.row t' (l.set m q)))else G
            |false=>G
          |_=>G
        |_=>G
      |false=>G
    |none=>G
  |none=>G
def agv{T:TypeId}(hs:j6 ev rd nx E R)(ho:o.op= .store T x y)(h:OM P rd T (ev x) (ev y) K=V r):Wu P o E R nx K r:=λρ C=>by
 unfold OM at h;split at h
 case h_2=>cases h
 rename_i d hy;split at h
 case h_2=>cases h
 rename_i n hn;split at h
 case h_2=>cases h
 rename_i hdn;simp only[zi]at hdn;obtain⟨hlen,hp⟩:=hdn;have hlen:=gz hlen;split at h
 ·rename_i id off hx;split at h
  case h_2=>cases h
  rename_i T' cs hr;split at h
  case h_2=>cases h
  rename_i hle;have hle:=wh hle;have ex:=hs.fM hx ρ;rw[fH]at ex;obtain⟨i,hi1,hi2,_⟩:=eR (hs.r _ _ hr);have hres:=ia (ρ:=ρ) hi1;have hl:∀c∈cs.take off++dW d++cs.drop (off+n),cS nx c:=uK (uK (o8 (hs.ag9 hr) _) (AJ (hs.qT hy))) (mO (hs.ag9 hr) _);refine .ofU (.as5 (cs:=cs.map (cc.sub ρ)) i ho ex (hs.fM hy ρ) hres hn (HP hs hp) (by rw[lz,zx,hlen]) (by rw[zx];exact hle)) (λb hb=> ?_) ⟨_,h,zn _,qy (hs.r _ _ hr) hs.lr hl,λd' hd=>(by cases hd),ρ, .refl _ _,rfl,?_⟩
  ·rw[zy]at hb;exact bT.2 ⟨_,List.mem_of_getElem? hres,by rw[hb];rfl⟩
  ·show List.Perm _ (bg.res ρ (sY id _ R));rw[hi2,uA];simp only[IR.res,z8,xQ,xJ,lz];exact .refl _
 ·rename_i id t m off hx;split at h
  case h_2=>cases h
  rename_i t' l hr;split at h
  ·rename_i b hbb;cases har:L.arr t'&&aaj d with
   |false=>rw[har]at hbb;cases hbb
   |true=>
    rw[har]at hbb;simp only[zi]at har;obtain⟨har,hap⟩:=har;have hab:=WR hbb;rw[hab]at hlen;have hn1:n=1:=by simpa using hlen.symm
    split at h
    case isFalse=>cases h
    rename_i hm;obtain⟨rfl,hm,hoff⟩:=hm;have ex:=hs.fM hx ρ;rw[jC]at ex;obtain⟨i,hi1,hi2,_⟩:=eR (hs.r _ _ hr);have hres:=ia (ρ:=ρ) hi1;have hds:=LP hap ρ;have hpl:Fo (d.sub ρ)=O:=by rw[hds];exact Df hap
    refine .ofU (.aaN (of:=off) i (L.stB t l[m]! off b) ho ex (hs.fM hy ρ) hres hn hpl (by rw[hds,hab,hn1];rfl) rfl hm (by omega) (L.len _ _) (λA w us hr=> ?_)) (λb hb=> ?_) ⟨_,h,zn _,qy (hs.r _ _ hr) hs.lr trivial,λd' hd=>(by cases hd),ρ, .refl _ _,rfl,?_⟩
    ·rw[hds,hab,hn1]at hr;rw[L.age t har _ off b hoff];exact hr
    ·obtain⟨g,hg⟩:∃g,gB (ρ.v id)=V g:=by
      cases hb':gB (ρ.v id)with
      |none=>rw[hb']at hb;simp at hb
      |some g=>exact⟨g,rfl⟩
     rw[hg]at hb;simp only[xL,zy]at hb;exact bT.2 ⟨_,List.mem_of_getElem? hres,by rw[hb];exact hg⟩
    ·show List.Perm _ (bg.res ρ (sY id _ R));rw[hi2,uA];exact .refl _
  split at h
  case h_2=>cases h
  rename_i hle;simp only[zi]at hle;obtain⟨hle,hap⟩:=hle;have hle:=wh hle;split at h
  case isFalse=>cases h
  rename_i hm;obtain⟨rfl,hm⟩:=hm;obtain⟨q,hq,h⟩:=zq.1 h;have ex:=hs.fM hx ρ;rw[jC]at ex;obtain⟨i,hi1,hi2,_⟩:=eR (hs.r _ _ hr);have hres:=ia (ρ:=ρ) hi1;have hds:=LP hap ρ;have hpl:Fo (d.sub ρ)=O:=by rw[hds];exact Df hap
  refine .ofU (.aaN (of:=off) i q ho ex (hs.fM hy ρ) hres hn hpl (by rw[lz,zx,hlen]) rfl hm hle (L.len _ _) (λA w us hr=> ?_)) (λb hb=> ?_) ⟨_,h,zn _,qy (hs.r _ _ hr) hs.lr trivial,λd' hd=>(by cases hd),ρ, .refl _ _,rfl,?_⟩
  ·refine L.lF _ _ _ hq A w us ?_;rw[hds]at hr;exact hr
  ·obtain⟨g,hg⟩:∃g,gB (ρ.v id)=V g:=by
    cases hb':gB (ρ.v id)with
    |none=>rw[hb']at hb;simp at hb
    |some g=>exact⟨g,rfl⟩
   rw[hg]at hb;simp only[xL,zy]at hb;exact bT.2 ⟨_,List.mem_of_getElem? hres,by rw[hb];exact hg⟩
  ·show List.Perm _ (bg.res ρ (sY id _ R));rw[hi2,uA];exact .refl _
 ·cases h
def prs(t:Nat):Nat->aa AV->af (aa (U.dz t))
 |0,[]=>V []
 |0,_=>G
 |n+1,cs=>(L.parse t (cs.take (U.sz t))).bind λx=>(prs t n (cs.drop (U.sz t))).map λl=>x::l
def aag{t:Nat}:∀{n:Nat} {cs:aa AV} {l:aa (U.dz t)},prs t n cs=V l->cs.length=n*U.sz t->l.length=n/\∀A w us,bN A w cs us->bN A w (l.flatMap (U.cells t)) us
 |0,[],l,h,_=>by
  cases h;exact⟨rfl,λA w us h=>h⟩
 |0,_::_,l,h,_=>by cases h
 |n+1,cs,l,h,hl=>by
  unfold prs at h;obtain⟨x,h1,h⟩:=zq.1 h;obtain⟨l',h2,rfl⟩:=zk.1 h;rw[yO]at hl;obtain⟨h3,h4⟩:=aag h2 (by rw[ym];omega);refine⟨by simp[h3],λA w us hr=> ?_⟩;rw[xH,<-xw (U.sz t) us];exact(L.lF _ _ _ h1 A w _ (hr.take _)).app (h4 A w _ (hr.drop _))
def QH(P:Program)(ev:Operand->af AV)(rd:Nat->af IR)(nx:Nat)(T:TypeId)(n:Nat)(ps:aa (Nat×Operand))(K:gd->af α):af α:=match P.underlying T with
 |some (.slice e)=>match NX P e (U.sz e)with
  |true=>match n with
   |0=>match ps with
    |[]=>K (.new (.own nx) (.row e []))
    |_=>G
   |n+1=>match evp ev ps,jQ P e with
    |some as0,V zs=>match zf zs.length (U.sz e)&&zG 0 (U.sz e)&&yl ((n+1)*U.sz e) 16777216 with
     |true=>(vk rd (λi=>V (i*U.sz e,U.sz e)) ((zl (n+1) zs).flatten.map .lit) as0).bind λcs=>match cs.all VK&&zf cs.length ((n+1)*U.sz e)with
      |true=>(prs e (n+1) cs).bind λl=>K (.new (.own nx) (.row e l))
      |false=>G
     |false=>G
    |_,_=>G
  |false=>G
 |_=>G
def GG(hs:j6 ev rd nx E R){t:Nat}{l:aa (U.dz t)}{ρ:Gh}{σ':aa cE}{a:AV}(hK:K (.new (.own nx) (.row t l))=V r)(h:∃v,a= .lit v/\σ'= .row v t l::bg.res ρ R):Nx R nx K r ρ (V a) σ':=by
 obtain⟨v,ha,hσ⟩:=h;refine aaH hs (ρ':=ρ.gu nx v) hK (.own _ (zJ _)) trivial (.gu ρ nx v) ?_ ?_
 ·rw[ha,dO];simp[Gh.gu]
 ·rw[hσ];simp[IR.res,Gh.gu]
def aky{T:TypeId}{n:Nat}{ps:Array (Nat×Operand)}(hs:j6 ev rd nx E R)(ho:o.op= .buildSlice T n ps)(h:QH P ev rd nx T n ps.toList K=V r):Wu P o E R nx K r:=λρ C=>by
 unfold QH at h;split at h
 case h_2=>cases h
 rename_i e hT;split at h
 case h_2=>cases h
 rename_i hsz;have hsz:=qY hsz;split at h
 ·split at h
  case h_2=>cases h
  rename_i h0;have h0:ps=#[]:=by rw[<-Array.toList_eq_nil_iff];exact h0
  subst h0;exact .ofV (.aCB ho hT hsz) (by simp) λa σ' hN=>GG hs h hN
 ·rename_i n;split at h
  case h_2=>cases h
  rename_i as0 zs he hz;split at h
  case h_2=>cases h
  rename_i hc;simp only[zi]at hc;obtain⟨⟨hc1,hc2⟩,hc3⟩:=hc;have hc1:=gz hc1;have hc2:0<U.sz e:=by simpa [yC]using hc2
  have hc3:=wh hc3;obtain⟨cs,hf,h⟩:=zq.1 h;split at h
  case h_2=>cases h
  rename_i hd;simp only[zi]at hd;obtain⟨hd1,hd2⟩:=hd;have hd2:=gz hd2;obtain⟨l,hl,h⟩:=zq.1 h;obtain⟨hl1,hl2⟩:=aag hl hd2;refine .ofV (.lit l ho hT hsz hz hc1 (λA w ϱ hd hρ=> ?_) hl1 (λi hi=>L.len _ _) (Nat.mul_pos (Nat.succ_pos _) hc2) hc3) (by simp) λa σ' hN=>GG hs h hN;obtain⟨us,h1,h2⟩:=AA (init:=(zl (n+1) zs).flatten.toArray) hs hd (by rw[FJ];exact bN.lits _) (IY hs hρ he) hf;rw[Mu hd1]at h2;exact⟨us,h1,hl2 _ _ _ h2⟩
def mkE(P:Program)(nx:Nat)(T:TypeId)(x y:af AV)(K:gd->af α):af α:=match P.underlying T,x,y with
 |some (.slice e),V (.lit (.int .i64 m)),V (.lit (.int .i64 n))=>match (P.info? e).map (λi=>(i.size,i.bytes)),jQ P e with
  |some (sz,by'),V zs=>match zf sz (U.sz e)&&yl by' 4096&&zf zs.length (U.sz e)&&zG 0 (U.sz e)with
   |true=>(L.parse e (zs.map .lit)).bind λd=>if 0<=m/\m<=n/\n<=1073741824 then K (.new (.own nx) (.row e (zl m.toNat d)))else G
   |false=>G
  |_,_=>G
 |_,_,_=>G
def ar4{T:TypeId}(hs:j6 ev rd nx E R)(ho:o.op= .makeSlice T x y)(h:mkE P nx T (ev x) (ev y) K=V r):Wu P o E R nx K r:=λρ C=>by
 unfold mkE at h;split at h
 case h_2=>cases h
 rename_i e m n hT hx hy;split at h
 case h_2=>cases h
 rename_i sz by' zs hb hz;split at h
 case h_2=>cases h
 rename_i hc;simp only[zi]at hc;obtain⟨⟨⟨hc1,hc2⟩,hc3⟩,hc4⟩:=hc;have hc1:=gz hc1;have hc3:=gz hc3;have hc4:0<U.sz e:=by simpa [yC]using hc4
 subst hc1;obtain⟨d,hd,h⟩:=zq.1 h;split at h
 case isFalse=>cases h
 rename_i hm;have ex:=hs.fM hx ρ;have ey:=hs.fM hy ρ;rw[bW]at ex ey;exact .ofV (.make d ho ex ey hT hb hz hc2 hc3 (λA w=>L.lF _ _ _ hd A w _ (bN.lits _)) hc4 hm) (by simp) λa σ' hN=>GG hs h hN
def emE(P:Program)(nx:Nat)(T:TypeId)(x:af AV)(K:gd->af α):af α:=match P.underlying T with
 |some (.slice e)=>match P.info? e with
  |some _=>match x with
   |some (.sl _ _)=>K (.new (.own nx) (.row e []))
   |some (.lit (.slice G 0 0))=>K (.new (.own nx) (.row e []))
   |_=>G
  |none=>G
 |_=>G
def anQ{T:TypeId}{k k':IntKind}(hs:j6 ev rd nx E R)(ho:o.op= .slice T x G (V (.const (.int k 0))) (V (.const (.int k' 0))))(h:emE P nx T (ev x) K=V r):Wu P o E R nx K r:=λρ C=>by
 unfold emE at h;split at h
 case h_2=>cases h
 rename_i e hT;split at h
 case h_2=>cases h
 rename_i i hi;split at h
 ·rename_i t l hx;have ex:=hs.fM hx ρ;rw[gI]at ex;exact .ofV (.UF ho (.inl ex) hT (by rw[hi];rfl)) (by simp) λa σ' hN=>GG hs h hN
 ·rename_i hx;have ex:=hs.fM hx ρ;rw[bW]at ex;exact .ofV (.UF (q:=0) (l:=[]) ho (.inr ex) hT (by rw[hi];rfl)) (by simp) λa σ' hN=>GG hs h hN
 ·cases h
def ac8(rd:Nat->af IR)(e:Nat)(x:af AV):af (aa (U.dz e)):=match x with
 |some (.lit (.slice _ 0 _))=>V []
 |some (.sl t l)=>u7 t e l
 |some (.own id)=>match rd id with
  |some (.row t l)=>u7 t e l
  |_=>G
 |_=>G
def Kw{e:Nat}{l:aa (U.dz e)}(hs:j6 ev rd nx E R)(h:ac8 rd e (ev x)=V l)(ρ:Gh):Src (bg.res ρ R) (E.sub ρ) x e l:=by
 unfold ac8 at h;split at h
 ·rename_i hx;cases h;have ex:=hs.fM hx ρ;rw[bW]at ex;exact .inl ⟨_,_,ex,rfl⟩
 ·rename_i t l' hx;obtain⟨rfl,rfl⟩:=nw h;have ex:=hs.fM hx ρ;rw[gI]at ex;exact .inr (.inl ex)
 ·rename_i id hx;split at h
  case h_2=>cases h
  rename_i t l' hr;obtain⟨rfl,rfl⟩:=nw h;have ex:=hs.fM hx ρ;rw[dO]at ex;obtain⟨i,hi⟩:=hs.row hr ρ;exact .inr (.inr ⟨i,_,ex,hi⟩)
 ·cases h
def Src.cons{P:Program}{σ:aa cE}{E:Env}{rr:cE}{q:Nat}{l:aa (U.dz q)}(h:Src σ E x q l):Src (rr::σ) E x q l:=by
 rcases h with h|h|⟨i,v,h1,h2⟩
 ·exact .inl h
 ·exact .inr (.inl h)
 ·exact .inr (.inr ⟨i+1,v,h1,h2⟩)
def W4(P:Program)(T:TypeId)(K:Nat->aa Value->af α):af α:=match P.underlying T with
 |some (.slice e)=>match (P.info? e).map (λi=>(i.size,i.bytes)),jQ P e with
  |some (sz,by'),V zs=>match zf sz (U.sz e)&&yl by' 4096&&zf zs.length (U.sz e)with
   |true=>K e zs
   |false=>G
  |_,_=>G
 |_=>G
def acP{T:TypeId}{K:Nat->aa Value->af α}(h:W4 P T K=V r):∃e zs by',K e zs=V r/\P.underlying T=V (.slice e)/\(P.info? e).map (λi=>(i.size,i.bytes))=V (U.sz e,by')/\jQ P e=V zs/\yl by' 4096=O/\zs.length=U.sz e:=by
 unfold W4 at h;split at h
 case h_2=>cases h
 rename_i e hT;split at h
 case h_2=>cases h
 rename_i sz by' zs hb hz;split at h
 case h_2=>cases h
 rename_i hc;simp only[zi]at hc;obtain⟨⟨hc1,hc2⟩,hc3⟩:=hc;have hc1:=gz hc1;subst hc1;exact⟨e,zs,by',h,hT,hb,hz,hc2,gz hc3⟩
def QJ(P:Program)(rd:Nat->af IR)(e:Nat)(zs:aa Value)(T':TypeId)(T:TypeId)(y:af AV)(K:aa (U.dz e)->af α):af α:=match zf T T' with
 |true=>(ac8 rd e y).bind K
 |false=>match P.underlying T',y with
  |some (.int _),V (.lit (.int .i64 m))=>match zG 0 (U.sz e)&&zs.all Value.oneCell' with
   |true=>(L.parse e (zs.map .lit)).bind λd=>if 0<=m then K (zl m.toNat d)else G
   |false=>G
  |_,_=>G
def WQ(P:Program)(rd:Nat->af IR)(nx:Nat)(T T':TypeId)(x y:af AV)(K:gd->af α):af α:=W4 P T λe zs=>match x with
 |some (.lit (.slice G 0 0))=>QJ P rd e zs T' T y λl2=>if l2.length<=1073741824 then K (.new (.own nx) (.row e l2))else G
 |some (.own id)=>match rd id with
  |some (.row t l)=>(u7 t e l).bind λl=>QJ P rd e zs T' T y λl2=>if(l++l2).length<=1073741824 then K (.grow id (.row e (l++l2)))else G
  |_=>G
 |_=>G
def QM(P:Program)(rd:Nat->af IR)(R:bg)(nx:Nat)(T:TypeId)(x y:af AV)(K:gd->af α):af α:=match P.underlying T with
 |some (.slice e)=>match NX P e 1&&zf (U.sz e) 1 with
  |true=>match x with
   |some (.own id)=>match rd id with
    |some (.row t l)=>(u7 t e l).bind λl=>(ac8 rd e y).bind λl2=>if 0<l.length/\l2.length=l.length then K (.all (.i (l.length:Int)) (sY id (.row e l2) R) nx)else G
    |_=>G
   |_=>G
  |false=>G
 |_=>G
def aj8{T T':TypeId}(hs:j6 ev rd nx E R)(ho:o.op= .call {callee:= .builtin .copy,args:=#[x,y],argTypes:=#[T,T']})(h:QM P rd R nx T (ev x) (ev y) K=V r):Wu P o E R nx K r:=λρ C=>by
 unfold QM at h;split at h
 case h_2=>cases h
 rename_i e hT;split at h
 case h_2=>cases h
 rename_i hc;rw[zi]at hc;split at h
 case h_2=>cases h
 rename_i id hx;split at h
 case h_2=>cases h
 rename_i t l hr;obtain⟨l',h1,h⟩:=zq.1 h;obtain⟨rfl,rfl⟩:=nw h1;obtain⟨l2,h2,h⟩:=zq.1 h;split at h
 case isFalse=>cases h
 rename_i hl;have ex:=hs.fM hx ρ;rw[dO]at ex;obtain⟨i,hi1,hi2,_⟩:=eR (hs.r _ _ hr);have hres:=ia (ρ:=ρ) hi1;refine .ofV (.azq i ho ex hres (Kw hs h2 ρ) hT (qY hc.1) (gz hc.2) hl.2 hl.1 (L.one _)) (λb hb=> ?_) λa σ' ⟨ha,hσ⟩=>⟨_,h,zn _,qy (hs.r _ _ hr) hs.lr trivial,λd' hd=>(by cases hd;exact .lit _),ρ, .refl _ _,by rw[ha];simp only[gd.vl,yx,cc.sub],?_⟩
 ·obtain⟨g,hg⟩:∃g,gB (ρ.v id)=V g:=by
   cases hb':gB (ρ.v id)with
   |none=>rw[hb']at hb;simp at hb
   |some g=>exact⟨g,rfl⟩
  rw[hg]at hb;simp only[xL,zy]at hb;exact bT.2 ⟨_,List.mem_of_getElem? hres,by rw[hb];exact hg⟩
 ·show List.Perm _ (bg.res ρ (sY id _ R));rw[hσ,hi2,uA];exact .refl _
def set_perm{β:Type}{l:aa β}{i:Nat}{a b:β}(h:l[i]? =V b):List.Perm (l.set i a) (a::l.eraseIdx i):=by
 have hi:=(z7.1 h).1;rw[wO,wC,bE hi];exact List.perm_middle
def Sj{T T':TypeId}{e by':Nat}{zs:aa Value}{K':aa (U.dz e)->af α}{rs:aa cE}{ρ:Gh}{C:Cx}(hs:j6 ev rd nx E R)(ho:o.op= .call {callee:= .builtin .append,args:=#[x,y],argTypes:=#[T,T']})(h:QJ P rd e zs T' T (ev y) K'=V r)
  (hT:P.underlying T=V (.slice e)) (hb:(P.info? e).map (λi=>(i.size,i.bytes))=V (U.sz e,by')) (hz:jQ P e=V zs) (hb4:yl by' 4096=O) (hzl:zs.length=U.sz e):
  ∃l2,K' l2=V r/\∀(σ:aa cE) (v:Value) (i:Nat) (l:aa (U.dz e)),(σ=bg.res ρ R\/∃rr,σ=rr::bg.res ρ R)->(E.sub ρ).ev x=V (.lit v)->σ[i]? =V (.row v e l)->(l++l2).length<=1073741824->
   Yv P (E.sub ρ) σ o C (xN (gB v)) (λa σ'=>∃v',a= .lit v'/\σ'=σ.set i (.row v' e (l++l2))):=by
 unfold QJ at h;split at h
 ·rename_i hTT;have:=gz hTT;subst this;obtain⟨l2,h1,h⟩:=zq.1 h;refine⟨l2,h,λσ v i l hσ hx hi hlen=> ?_⟩;have hsrc:Src σ (E.sub ρ) y e l2:=by
   rcases hσ with rfl|⟨rr,rfl⟩
   ·exact Kw hs h1 ρ
   ·exact Src.cons (P:=P) (Kw hs h1 ρ)
  exact .app i ho hx hi hsrc hT hb hz hzl hb4 (L.one e) hlen
 ·split at h
  case h_2=>cases h
  rename_i kn m hT' hy;split at h
  case h_2=>cases h
  rename_i hc;simp only[zi]at hc;obtain⟨hc1,hc2⟩:=hc;obtain⟨d,hd,h⟩:=zq.1 h;split at h
  case isFalse=>cases h
  rename_i hm;refine⟨_,h,λσ v i l hσ hx hi hlen=> ?_⟩;have ey:=hs.fM hy ρ;rw[bW]at ey;exact .aCy i d ho hx hi ey hT hT' hb hz hzl (by simpa [yC]using hc1) hb4 (λA w=>L.lF _ _ _ hd A w _ (bN.lits _)) hc2 ⟨hm,hlen⟩
def aeR{T T':TypeId}(hs:j6 ev rd nx E R)(ho:o.op= .call {callee:= .builtin .append,args:=#[x,y],argTypes:=#[T,T']})(h:WQ P rd nx T T' (ev x) (ev y) K=V r):Wu P o E R nx K r:=λρ C=>by
 obtain⟨e,zs,by',h,hT,hb,hz,hb4,hzl⟩:=acP h;split at h
 ·rename_i hx;obtain⟨l2,h,hY⟩:=Sj (rs:=[]) (ρ:=ρ) (C:=C) hs ho h hT hb hz hb4 hzl;split at h
  case isFalse=>cases h
  rename_i hlen;have ex:=hs.fM hx ρ;rw[bW]at ex;intro w ϱ hg hρ;have ht:Tr C [] (bg.res ρ R) w (.row (.slice G 0 0) e []::bg.res ρ R) w:=PC G e hg;have hal:∀b,al C (bg.res ρ R) b->al C (.row (.slice G 0 0) e []::bg.res ρ R) b:=λb hA=>⟨hA.1,λhx=>hA.2 (by
   rw[fC]at hx;simpa [cE.blk,gB]using hx)⟩
  obtain⟨v,w',av,σ',⟨v',ha,hσ⟩,h2,h3,h4⟩:=hY _ (.slice G 0 0) 0 [] (.inr ⟨_,rfl⟩) ex rfl (by simpa using hlen) w ϱ ht.good (λu d hu=>(hρ u d hu).mono λb _ hA=>⟨hal b hA,rfl⟩);refine .inl ⟨v,w',av,σ',GG hs h ⟨v',ha,by rw[hσ];rfl⟩,⟨h2.good,⟨h2.kp.os,h2.kp.tape,h2.kp.output,h2.kp.drawn,h2.kp.size,λk hk _=>h2.kp.block k hk (by simp[gB])⟩,λb hb hA=>⟨(h2.al b hb (hal b hA)).1,hA.2⟩⟩,h3,h4⟩
 ·rename_i id hx;split at h
  case h_2=>cases h
  rename_i t l0 hr;obtain⟨l,hl,h⟩:=zq.1 h;obtain⟨rfl,rfl⟩:=nw hl;obtain⟨l2,h,hY⟩:=Sj (rs:=[]) (ρ:=ρ) (C:=C) hs ho h hT hb hz hb4 hzl;split at h
  case isFalse=>cases h
  rename_i hlen;have ex:=hs.fM hx ρ;rw[dO]at ex;obtain⟨i,hi1,_,hi3⟩:=eR (hs.r _ _ hr);have hres:=ia (ρ:=ρ) hi1;refine .ofV (hY _ _ i _ (.inl rfl) ex hres hlen) (λb hb=> ?_) λa σ' ⟨v',ha,hσ⟩=> ?_
  ·obtain⟨g,hg⟩:∃g,gB (ρ.v id)=V g:=by
    cases hb':gB (ρ.v id)with
    |none=>rw[hb']at hb;simp at hb
    |some g=>exact⟨g,rfl⟩
   rw[hg]at hb;simp only[xL,zy]at hb;exact bT.2 ⟨_,List.mem_of_getElem? hres,by rw[hb];exact hg⟩
  ·have hdl:=CM (id:=id) hs.lr;refine⟨_,h,yc nx,λp hp=> ?_,λd' hd=>by cases hd;exact .own _ (zJ _),ρ.gu nx v', .gu ρ nx v',?_,?_⟩
   ·rcases zD.1 hp with rfl|hp
    ·exact⟨zJ _,trivial⟩
    ·exact(hdl.mono (yc nx)) p hp
   ·rw[ha];simp[gd.vl,dO,Gh.gu]
   ·rw[hσ];show List.Perm _ (bg.res _ ((nx,_)::kH id R));have e1:bg.res (ρ.gu nx v') ((nx,IR.row t (l0++l2))::kH id R)=cE.row v' t (l0++l2)::(bg.res ρ R).eraseIdx i:=by
     show _::bg.res _ (kH id R)=_;rw[<-hdl.res (.gu ρ nx v'),hi3,AB];simp[IR.res,Gh.gu]
    rw[e1];exact set_perm hres
 ·cases h
def mnV(mx:Bool)(xs:aa (af AV))(K:AV->af α):af α:=match xs with
 |[V (.lit (.int k m)),V (.lit (.int k' n))]=>if k=k' then(match mx with
  |true=>K (.n k (if m<n then n else m))
  |false=>K (.n k (if n<m then n else m)))else G
 |_=>G
abbrev aZ:=(α:Type)->FuncId->aa AV->bg->Nat->(AV->bg->Nat->af α)->af α
def iD(P:Program)(F:aZ):Prop:=∀(α:Type) f args R nx (k:AV->bg->Nat->af α) r,F α f args R nx k=V r->(∀d∈args,cS nx d)->bg.cS nx R->th P f/\
 ∀ρ,Fn P f (args.map (cc.sub ρ)) (bg.res ρ R) λa s=>∃d R' nx',k d R' nx'=V r/\nx<=nx'/\cS nx' d/\bg.cS nx' R'/\∃ρ',oS nx ρ ρ'/\a=d.sub ρ'/\List.Perm s (bg.res ρ' R')
def KV(F:aZ)(ev:Operand->af AV)(R:bg)(nx:Nat)(x:af AV)(xs:aa Operand)(K:gd->af α):af α:=match x with
 |some (.fn (.func f) caps)=>(ML ev xs).bind λas0=>F α f (as0++caps) R nx λd R' nx'=>K (.all d R' nx')
 |_=>G
def aeb{F:aZ}{xs:Array Operand}{ts:Array TypeId}(hF:iD P F)(hs:j6 ev rd nx E R)(ho:o.op= .call {callee:= .value x,args:=xs,argTypes:=ts})(h:KV F ev R nx (ev x) xs.toList K=V r):Wu P o E R nx K r:=λρ C=>by
 unfold KV at h;split at h
 case h_2=>cases h
 rename_i f caps hx;obtain⟨as0,ha,h⟩:=zq.1 h;have ex:=hs.fM hx ρ;rw[tS]at ex;obtain⟨hf,hfn⟩:=hF _ _ _ _ _ _ _ h (uK (KP hs ha) (hs.qT hx).fnL) hs.lr;refine .ofC (.fn (σr:=[]) ho ex hf (Kk hs ρ ha) (by rw[z8]) (yy _).symm (hfn ρ)) (λb hb=>hb) λa σ' ⟨σo,hN,hσ⟩=> ?_;obtain⟨d,R',nx',h1,h2,h3,h4,ρ',h5,h6,h7⟩:=hN;rw[yy]at hσ;exact⟨.all d R' nx',h1,h2,h4,λd' hd=>by cases hd;exact h3,ρ',h5,by rw[h6];rfl,by rw[hσ];exact h7⟩
end
def dP{α:Type}(K:gd->af α)(d:AV):af α:=K (.val d)
def JY{α:Type}(P:Program)(F:aZ)(ev:Operand->af AV)(rd:Nat->af IR)(R:bg)(nx:Nat)(o:Op)(K:gd->af α):af α:=match o with
 | .move x=>(ev x).bind (dP K)
 | .assign x=>(ev x).bind (dP K)
 | .pick c a b=>match ev c with
  |some (.lit (.bool O))=>(ev a).bind (dP K)
  |some (.lit (.bool S))=>(ev b).bind (dP K)
  |_=>G
 | .binOp b T x y _=>Nw P rd b T (ev x) (ev y) (dP K)
 | .unOp b _ x=>unV b (ev x) (dP K)
 | .convert T T' x=>PI P rd T T' (ev x) (dP K)
 | .nilCheck x=>QS (ev x) (dP K)
 | .fieldAddr T x i=>OV P T i (ev x) (dP K)
 | .indexAddr T x y=>P5 P rd T (ev x) (ev y) (dP K)
 | .index T x y=>Rh P T (ev x) (ev y) (dP K)
 | .load T x=>ldV P rd T (ev x) (dP K)
 | .store T x y=>OM P rd T (ev x) (ev y) K
 | .makeFunc f fs cs=>QI ev f fs.toList cs.toList (dP K)
 | .extract x i=>RX i (ev x) (dP K)
 | .build T ps=>Qh P ev rd T ps.toList (dP K)
 | .buildSlice T n ps=>QH P ev rd nx T n ps.toList K
 | .makeSlice T x y=>mkE P nx T (ev x) (ev y) K
 | .alloc T=>WA P nx T K
 | .box T x=>Qz rd nx T (ev x) K
 | .slice T x lo hi mx=>match mx with
  |none=>OO P T (ev x) (lo.map ev) (hi.map ev) (dP K)
  |some (.const (.int _ 0))=>match lo,hi with
   |none,V (.const (.int _ 0))=>emE P nx T (ev x) K
   |_,_=>G
  |_=>G
 | .call {callee:= .builtin .len,args:=as0,argTypes:=ts}=>match as0.toList,ts.toList with
  |[x],[T]=>P9 P rd T (ev x) (dP K)
  |_,_=>G
 | .call {callee:= .builtin .max,args:=as0,argTypes:=ts}=>match as0.toList,ts.toList with
  |[x,y],[_,_]=>mnV O [ev x,ev y] (dP K)
  |_,_=>G
 | .call {callee:= .builtin .min,args:=as0,argTypes:=ts}=>match as0.toList,ts.toList with
  |[x,y],[_,_]=>mnV S [ev x,ev y] (dP K)
  |_,_=>G
 | .call {callee:= .builtin .append,args:=as0,argTypes:=ts}=>match as0.toList,ts.toList with
  |[x,y],[T,T']=>WQ P rd nx T T' (ev x) (ev y) K
  |_,_=>G
 | .call {callee:= .builtin .copy,args:=as0,argTypes:=ts}=>match as0.toList,ts.toList with
  |[x,y],[T,_]=>QM P rd R nx T (ev x) (ev y) K
  |_,_=>G
 | .call {callee:= .value x,args:=as0,argTypes:=_}=>KV F ev R nx (ev x) as0.toList K
 |_=>G
section
variable {α:Type}
def Tc(x:Operand)(_:Program)(_:aZ)(ev:Operand->af AV)(_:Nat->af IR)(_:bg)(_:Nat)(K:gd->af α):af α:=(ev x).bind (dP K)
def vt(c a b:Operand)(_:Program)(_:aZ)(ev:Operand->af AV)(_:Nat->af IR)(_:bg)(_:Nat)(K:gd->af α):af α:=match ev c with
 |some (.lit (.bool O))=>(ev a).bind (dP K)
 |some (.lit (.bool S))=>(ev b).bind (dP K)
 |_=>G
def anm(b:BinOp)(T:TypeId)(x y:Operand)(P:Program)(_:aZ)(ev:Operand->af AV)(rd:Nat->af IR)(_:bg)(_:Nat)(K:gd->af α):af α:=Nw P rd b T (ev x) (ev y) (dP K)
def auC(b:UnOp)(x:Operand)(_:Program)(_:aZ)(ev:Operand->af AV)(_:Nat->af IR)(_:bg)(_:Nat)(K:gd->af α):af α:=unV b (ev x) (dP K)
def ak5(T T':TypeId)(x:Operand)(P:Program)(_:aZ)(ev:Operand->af AV)(rd:Nat->af IR)(_:bg)(_:Nat)(K:gd->af α):af α:=PI P rd T T' (ev x) (dP K)
def am7(x:Operand)(_:Program)(_:aZ)(ev:Operand->af AV)(_:Nat->af IR)(_:bg)(_:Nat)(K:gd->af α):af α:=QS (ev x) (dP K)
def ala(T:TypeId)(x:Operand)(i:Nat)(P:Program)(_:aZ)(ev:Operand->af AV)(_:Nat->af IR)(_:bg)(_:Nat)(K:gd->af α):af α:=OV P T i (ev x) (dP K)
def alP(T:TypeId)(x y:Operand)(P:Program)(_:aZ)(ev:Operand->af AV)(rd:Nat->af IR)(_:bg)(_:Nat)(K:gd->af α):af α:=P5 P rd T (ev x) (ev y) (dP K)
def akT(T:TypeId)(x y:Operand)(P:Program)(_:aZ)(ev:Operand->af AV)(_:Nat->af IR)(_:bg)(_:Nat)(K:gd->af α):af α:=Rh P T (ev x) (ev y) (dP K)
def ay7(T:TypeId)(x:Operand)(P:Program)(_:aZ)(ev:Operand->af AV)(rd:Nat->af IR)(_:bg)(_:Nat)(K:gd->af α):af α:=ldV P rd T (ev x) (dP K)
def ann(T:TypeId)(x y:Operand)(P:Program)(_:aZ)(ev:Operand->af AV)(rd:Nat->af IR)(_:bg)(_:Nat)(K:gd->af α):af α:=OM P rd T (ev x) (ev y) K
def akR(f:Go.Fn)(fs cs:Array Operand)(_:Program)(_:aZ)(ev:Operand->af AV)(_:Nat->af IR)(_:bg)(_:Nat)(K:gd->af α):af α:=QI ev f fs.toList cs.toList (dP K)
def ami(x:Operand)(i:Nat)(_:Program)(_:aZ)(ev:Operand->af AV)(_:Nat->af IR)(_:bg)(_:Nat)(K:gd->af α):af α:=RX i (ev x) (dP K)
def alJ(T:TypeId)(ps:Array (Nat×Operand))(P:Program)(_:aZ)(ev:Operand->af AV)(rd:Nat->af IR)(_:bg)(_:Nat)(K:gd->af α):af α:=Qh P ev rd T ps.toList (dP K)
def amu(T:TypeId)(n:Nat)(ps:Array (Nat×Operand))(P:Program)(_:aZ)(ev:Operand->af AV)(rd:Nat->af IR)(_:bg)(nx:Nat)(K:gd->af α):af α:=QH P ev rd nx T n ps.toList K
def auO(T:TypeId)(x y:Operand)(P:Program)(_:aZ)(ev:Operand->af AV)(_:Nat->af IR)(_:bg)(nx:Nat)(K:gd->af α):af α:=mkE P nx T (ev x) (ev y) K
def al2(T:TypeId)(P:Program)(_:aZ)(_:Operand->af AV)(_:Nat->af IR)(_:bg)(nx:Nat)(K:gd->af α):af α:=WA P nx T K
def am6(T:TypeId)(x:Operand)(_:Program)(_:aZ)(ev:Operand->af AV)(rd:Nat->af IR)(_:bg)(nx:Nat)(K:gd->af α):af α:=Qz rd nx T (ev x) K
def Mm(T:TypeId)(x:Operand)(lo hi mx:af Operand)(P:Program)(_:aZ)(ev:Operand->af AV)(_:Nat->af IR)(_:bg)(nx:Nat)(K:gd->af α):af α:=match mx with
 |none=>OO P T (ev x) (lo.map ev) (hi.map ev) (dP K)
 |some (.const (.int _ 0))=>match lo,hi with
  |none,V (.const (.int _ 0))=>emE P nx T (ev x) K
  |_,_=>G
 |_=>G
def Br(b:Builtin)(as0:Array Operand)(ts:Array TypeId)(P:Program)(ev:Operand->af AV)(rd:Nat->af IR)(R:bg)(nx:Nat)(K:gd->af α):af α:=match b with
 | .len=>match as0.toList,ts.toList with
  |[x],[T]=>P9 P rd T (ev x) (dP K)
  |_,_=>G
 | .max=>match as0.toList,ts.toList with
  |[x,y],[_,_]=>mnV O [ev x,ev y] (dP K)
  |_,_=>G
 | .min=>match as0.toList,ts.toList with
  |[x,y],[_,_]=>mnV S [ev x,ev y] (dP K)
  |_,_=>G
 | .append=>match as0.toList,ts.toList with
  |[x,y],[T,T']=>WQ P rd nx T T' (ev x) (ev y) K
  |_,_=>G
 | .copy=>match as0.toList,ts.toList with
  |[x,y],[T,_]=>QM P rd R nx T (ev x) (ev y) K
  |_,_=>G
 |_=>G
def DO(c:Call)(P:Program)(F:aZ)(ev:Operand->af AV)(rd:Nat->af IR)(R:bg)(nx:Nat)(K:gd->af α):af α:=match c.callee with
 | .value x=>KV F ev R nx (ev x) c.args.toList K
 | .builtin b=>Br b c.args c.argTypes P ev rd R nx K
 |_=>G
def avq(_:Program)(_:aZ)(_:Operand->af AV)(_:Nat->af IR)(_:bg)(_:Nat)(_:gd->af α):af α:=G
def mN(o:Op):Program->aZ->(Operand->af AV)->(Nat->af IR)->bg->Nat->(gd->af α)->af α:=match o with
 | .move x=>Tc x
 | .assign x=>Tc x
 | .pick c a b=>vt c a b
 | .binOp b T x y _=>anm b T x y
 | .unOp b _ x=>auC b x
 | .convert T T' x=>ak5 T T' x
 | .nilCheck x=>am7 x
 | .fieldAddr T x i=>ala T x i
 | .indexAddr T x y=>alP T x y
 | .index T x y=>akT T x y
 | .load T x=>ay7 T x
 | .store T x y=>ann T x y
 | .makeFunc f fs cs=>akR f fs cs
 | .extract x i=>ami x i
 | .build T ps=>alJ T ps
 | .buildSlice T n ps=>amu T n ps
 | .makeSlice T x y=>auO T x y
 | .alloc T=>al2 T
 | .box T x=>am6 T x
 | .slice T x lo hi mx=>Mm T x lo hi mx
 | .call c=>DO c
 |_=>avq
def NB(P:Program)(F:aZ)(ev:Operand->af AV)(rd:Nat->af IR)(R:bg)(nx:Nat)(o:Op)(K:gd->af α):mN o P F ev rd R nx K=JY P F ev rd R nx o K:=by
 cases o<;>first|rfl|skip
 case call c=>
  obtain⟨cal,as0,ts⟩:=c;cases cal with
  |builtin b=>cases b<;>rfl
  |_=>rfl
end
section
variable {α:Type} {r:α} {P:Program} {F:aZ} {o:Oper} {E:Env} {R:bg} {nx:Nat} {ev:Operand->af AV} {rd:Nat->af IR} {K:gd->af α} {C:Cx} {n:Nat}
def axd{β:Type}{a:Array β}{x:β}(h:a.toList=[x]):a=#[x]:=by rw[<-Array.toArray_toList (xs:=a),h]
def ME{β:Type}{a:Array β}{x y:β}(h:a.toList=[x,y]):a=#[x,y]:=by rw[<-Array.toArray_toList (xs:=a),h]
def G6(hF:iD P F)(hs:j6 ev rd nx E R){op:Op}(ho:o.op=op)(h:JY P F ev rd R nx op K=V r):Wu P o E R nx K r:=by
 unfold JY at h;split at h
 ·obtain⟨d,hd,h⟩:=zq.1 h;exact .pu hs ⟨d,h,hs.qT hd,λρ=> .move ho (hs.fM hd ρ)⟩
 ·obtain⟨d,hd,h⟩:=zq.1 h;exact .pu hs ⟨d,h,hs.qT hd,λρ=> .assign ho (hs.fM hd ρ)⟩
 ·split at h
  ·rename_i hc;obtain⟨d,hd,h⟩:=zq.1 h;exact .pu hs ⟨d,h,hs.qT hd,λρ=> .aBp ho (by have:=hs.fM hc ρ;rw[bW]at this;exact this) (hs.fM hd ρ)⟩
  ·rename_i hc;obtain⟨d,hd,h⟩:=zq.1 h;exact .pu hs ⟨d,h,hs.qT hd,λρ=> .auJ ho (by have:=hs.fM hc ρ;rw[bW]at this;exact this) (hs.fM hd ρ)⟩
  ·cases h
 ·exact .pu hs (ajJ hs ho h)
 ·exact .pu hs (atb hs ho h)
 ·exact .pu hs (adL hs ho h)
 ·exact .pu hs (adQ hs ho h)
 ·exact .pu hs (aiD hs ho h)
 ·exact .pu hs (ahm hs ho h)
 ·exact .pu hs (ahu hs ho h)
 ·exact .pu hs (arM hs ho h)
 ·exact agv hs ho h
 ·exact .pu hs (afD hs ho h)
 ·exact .pu hs (afO hs ho h)
 ·exact .pu hs (adJ hs ho h)
 ·exact aky hs ho h
 ·exact ar4 hs ho h
 ·exact agc hs ho h
 ·exact agp hs ho h
 ·split at h
  ·exact .pu hs (ajq hs ho h)
  ·split at h
   ·exact anQ hs ho h
   ·cases h
  ·cases h
 ·split at h
  ·rename_i h1 h2;rw[axd h1,axd h2]at ho;exact .pu hs (agj hs ho h)
  ·cases h
 ·split at h
  ·rename_i h1 h2;rw[ME h1,ME h2]at ho;unfold mnV at h;split at h
   ·rename_i q1;split at h
    ·rename_i hk;subst hk;simp only[List.cons.injEq,and_true]at q1;obtain⟨q1,q2⟩:=q1;exact .pu hs ⟨_,h, .lit λρ=> .max ho (by have:=hs.fM q1 ρ;rw[bW]at this;exact this) (by have:=hs.fM q2 ρ;rw[bW]at this;exact this)⟩
    ·cases h
   ·cases h
  ·cases h
 ·split at h
  ·rename_i h1 h2;rw[ME h1,ME h2]at ho;unfold mnV at h;split at h
   ·rename_i q1;split at h
    ·rename_i hk;subst hk;simp only[List.cons.injEq,and_true]at q1;obtain⟨q1,q2⟩:=q1;exact .pu hs ⟨_,h, .lit λρ=> .min ho (by have:=hs.fM q1 ρ;rw[bW]at this;exact this) (by have:=hs.fM q2 ρ;rw[bW]at this;exact this)⟩
    ·cases h
   ·cases h
  ·cases h
 ·split at h
  ·rename_i h1 h2;rw[ME h1,ME h2]at ho;exact aeR hs ho h
  ·cases h
 ·split at h
  ·rename_i h1 h2;rw[ME h1,ME h2]at ho;exact aj8 hs ho h
  ·cases h
 ·exact aeb hF hs ho h
 ·cases h
def St.app(s:St)(dst:af Nat)(e:gd):St:=
 {E:=match dst with
   |none=>s.E
   |some t=>match e.vl s.nx with
    |some d=>mE t d s.E
    |none=>mE t (.lit undef) s.E
  R:=e.R s.R s.nx
  nx:=e.nx s.nx}
def MX(n:Nat):af Nat->Bool
 |none=>O
 |some t=>zG t n
def j6.of{s:St}(hh:tL s.E E)(hE:E.cS s.nx)(hR:bg.cS s.nx s.R):j6 (Gd s.E) (gp s.R) s.nx E s.R:=⟨λx d h=>hh.ev x d h,λ_ _ h=>h,hE,hR⟩
def apG{C:Cg}{s:St}{a:Act}{w:World}{Q:Exit->Act->World->Prop}(hm:Mt C n s a w)(hd:MX n o.dst=O)(h:∀E,j6 (Gd s.E) (gp s.R) s.nx E s.R->Wu P o E s.R s.nx K r){K':Act->World->Prop}
  (hK:∀a' w' e,a'.defers=a.defers->K e=V r->s.nx<=e.nx s.nx->Mt C n (s.app o.dst e) a' w'->K' a' w'):o.wp P a w K' Q:=by
 obtain⟨E,hh,hE,hR,ρ,hag,hsim⟩:=hm;have h:=h E (j6.of hh hE hR);unfold Oper.wp;have fin:∀(e:gd) (ρ':Gh) (σ':aa cE) (w':World) (v:Value),s.nx<=e.nx s.nx->bg.cS (e.nx s.nx) (e.R s.R s.nx)->(∀d,e.vl s.nx=V d->cS (e.nx s.nx) d)->oS s.nx ρ ρ'->List.Perm σ' (bg.res ρ' (e.R s.R s.nx))->
   Tr C.C (bD (bg.res ρ s.R)) (bg.res ρ s.R) w σ' w'->(∀d,e.vl s.nx=V d->Rel (al C.C σ') w' (d.sub ρ') v)->(e.vl s.nx=G->v=undef)->Mt C n (s.app o.dst e) (a.put o.dst v) w':=λe ρ' σ' w' v h1 h2 h3 h4 h5 h6 h7 h8=>by
  have hs1:=(hsim.tr h6).perm h5;rw[hE.sub h4]at hs1;have hE':E.cS (e.nx s.nx):=hE.mono h1;have hag':oS C.n C.ρ ρ'/\C.n<=e.nx s.nx:=⟨hag.1.trans h4 hag.2,zK hag.2 h1⟩;have hput:∀(t:Nat) (d:AV),o.dst=V t->cS (e.nx s.nx) d->Rel (al C.C (bg.res ρ' (e.R s.R s.nx))) w' (d.sub ρ') v->Mt C n {E:=mE t d s.E,R:=e.R s.R s.nx,nx:=e.nx s.nx} (a.put (V t) v) w':=λt d ht hd' hr=>
   ⟨(t,d)::E,hh.put t d,Env.um hE' hd',h2,ρ',hag',hs1.put (by rw[ht]at hd;exact hd) hr⟩
  have hsub:∀d,e.vl s.nx=V d->Rel (al C.C (bg.res ρ' (e.R s.R s.nx))) w' (d.sub ρ') v:=λd hd'=>(h7 d hd').mono λb _ hA=>⟨TF h5 b hA,rfl⟩;unfold St.app;cases hdst:o.dst with
  |none=>exact⟨E,hh,hE',h2,ρ',hag',hs1⟩
  |some t=>
   cases hv:e.vl s.nx with
   |some d=>exact hput t d hdst (h3 d hv) (hsub d hv)
   |none=>
    refine hput t (.lit undef) hdst (.lit _) ?_;rw[h8 hv,bW];exact .lit _
 rcases h ρ C.C w a.eval hsim.good hsim.slots.ops with ⟨v,w',av,σ',⟨e,q1,q2,q3,q4,ρ',q5,q6,q7⟩,h2,h3,h4⟩|⟨w',σ',⟨e,q1,q2,q3,q4,ρ',q5,q6,q7⟩,h2,h3⟩|⟨f,args,h1,h2⟩
 ·rw[h3];refine hK _ _ e (by cases o.dst<;>rfl) q1 q2 (fin e ρ' σ' w' v q2 q3 q4 q5 q7 h2 (λd hd'=> ?_) (λhn=> ?_))
  ·rw[hd',yx,zA.injEq]at q6;rw[<-q6];exact h4
  ·rw[hn]at q6;cases q6
 ·rw[h3];refine hK _ _ e (by cases o.dst<;>rfl) q1 q2 (fin e ρ' σ' w' undef q2 q3 q4 q5 q7 h2 (λd hd'=> ?_) (λhn=>rfl));rw[hd']at q6;cases q6
 ·rw[h1];refine Calls.mono h2 λee w' ⟨v,av,σ',q0,⟨e,q1,q2,q3,q4,ρ',q5,q6,q7⟩,h2,h4⟩=> ?_;subst q0;refine hK _ _ e (by cases o.dst<;>rfl) q1 q2 (fin e ρ' σ' w' v q2 q3 q4 q5 q7 h2 (λd hd'=> ?_) (λhn=> ?_))
  ·rw[hd',yx,zA.injEq]at q6;rw[<-q6];exact h4
  ·rw[hn]at q6;cases q6
end
def Vs(id t:Nat)(l:aa (U.dz t)):AV->AV
 | .own i=>match zf i id with
  |true=> .sl t l
  |false=> .own i
 |d=>d
def oq(id t:Nat)(l:aa (U.dz t)):Nat->AV->AV
 |0,d=>d
 |n+1, .agg cs=> .agg (cs.map (oq id t l n))
 |n+1, .iR cs=> .iR (cs.map (oq id t l n))
 |n+1, .fn f cs=> .fn f (cs.map (oq id t l n))
 |_+1,d=>Vs id t l d
def uT(id t:Nat)(l:aa (U.dz t)):IR->IR
 | .box T cs=> .box T (cs.map (oq id t l 3))
 |r=>r
def St.K9(s:St)(id:Nat):St:=match gp s.R id with
 |some (.row t l)=>{E:=emap (oq id t l 3) s.E,R:=(kH id s.R).map λp=>(p.1,uT id t l p.2),nx:=s.nx}
 |_=>s
def acn{A:Nat->Prop}{w:World}{id t:Nat}{l:aa (U.dz t)}{ρ:Gh}(hd:Hd A [.row (ρ.v id) t l] w){d:AV}{v:Value}(h:Rel A w (d.sub ρ) v):Rel (λb=>A b\/b∈bD [.row (ρ.v id) t l]) w ((Vs id t l d).sub ρ) v:=by
 unfold Vs;split
 ·rename_i i;split
  ·rename_i hi;have:=gz hi;subst this;rw[dO]at h;rw[gI];exact Vw.row 0 rfl A w v hd h
  ·exact h.mono λb _ hA=>⟨.inl hA,rfl⟩
 ·exact h.mono λb _ hA=>⟨.inl hA,rfl⟩
def Ek{A:Nat->Prop}{w:World}{id t:Nat}{l:aa (U.dz t)}{ρ:Gh}(hd:Hd A [.row (ρ.v id) t l] w):∀(n:Nat) {d:AV} {v:Value},Rel A w (d.sub ρ) v->Rel (λb=>A b\/b∈bD [.row (ρ.v id) t l]) w ((oq id t l n d).sub ρ) v
 |0,d,v,h=>h.mono λb _ hA=>⟨.inl hA,rfl⟩
 |n+1,d,v,h=>by
  have hL:∀{cs:aa AV} {us:aa Value},bN A w (cs.map (cc.sub ρ)) us->bN (λb=>A b\/b∈bD [.row (ρ.v id) t l]) w ((cs.map (oq id t l n)).map (cc.sub ρ)) us:=λ{cs us} h=>by
   refine⟨by simpa using h.1,λj a v h1 h2=> ?_⟩;rw[yq,yb]at h1;obtain⟨c,hc,rfl⟩:=zk.1 h1;exact Ek hd n (h.2 j _ v (by rw[yb,hc];rfl) h2)
  unfold oq;split
  ·rename_i h0;cases h0
  ·rename_i cs h0;cases h0;rw[fo]at h ⊢;obtain⟨us,rfl,h2⟩:=h.oD;exact Rel.oN (hL h2)
  ·rename_i cs h0;cases h0;rw[kF]at h ⊢;obtain⟨us,rfl,h2⟩:=h.Qe;exact Rel.Gw (hL h2)
  ·rename_i f cs h0;cases h0;rw[tS]at h ⊢;obtain⟨us,rfl,h2⟩:=h.YX;exact .fn f _ us (hL h2).1 (hL h2).2
  ·rename_i h0 _ _ _;exact acn hd h
end Go.Iv
end
noncomputable section
namespace Go.Iv
variable [U:qO] [L:mI]
open Go Go.RowKit
section
variable {α β:Type} (D:α->af β)
def aba{b:BinOp}{k:IntKind}{m n:Int}{K:AV->af α}:(Zw b k m n K).bind D=Zw b k m n (λd=>(K d).bind D):=by
 unfold Zw;cases b<;>first|rfl|(dsimp only;split<;>rfl)
def agJ{P:Program}{b:BinOp}{T:TypeId}{cs ds:aa AV}{K:AV->af α}:(eqS P b T cs ds K).bind D=eqS P b T cs ds (λd=>(K d).bind D):=by
 unfold eqS;split
 ·split
  ·cases b<;>first|rfl|exact zY ..
  ·rfl
 ·rfl
def Nb{P:Program}{rd:Nat->af IR}{b:BinOp}{T:TypeId}{x y:af AV}{K:AV->af α}:(Nw P rd b T x y K).bind D=Nw P rd b T x y (λd=>(K d).bind D):=by
 unfold Nw
 repeat' split
 all_goals first|rfl|exact aba D|exact agJ D|simp_all
def Te{b:UnOp}{x:af AV}{K:AV->af α}:(unV b x K).bind D=unV b x (λd=>(K d).bind D):=by
 unfold unV
 repeat' split
 all_goals first|rfl|simp_all
def LX{x:af AV}{K:AV->af α}:(QS x K).bind D=QS x (λd=>(K d).bind D):=by
 unfold QS
 repeat' split
 all_goals first|rfl|simp_all
def Nv{P:Program}{T:TypeId}{i:Nat}{x:af AV}{K:AV->af α}:(OV P T i x K).bind D=OV P T i x (λd=>(K d).bind D):=by
 unfold OV
 repeat' split
 all_goals first|rfl|simp_all
def Md{P:Program}{rd:Nat->af IR}{T:TypeId}{x y:af AV}{K:AV->af α}:(P5 P rd T x y K).bind D=P5 P rd T x y (λd=>(K d).bind D):=by
 unfold P5
 repeat' split
 all_goals first|rfl|simp_all
def Sn{P:Program}{rd:Nat->af IR}{T:TypeId}{x:af AV}{K:AV->af α}:(ldV P rd T x K).bind D=ldV P rd T x (λd=>(K d).bind D):=by
 unfold ldV
 repeat' split
 all_goals first|rfl|exact zY .. |simp_all
def Yt{P:Program}{ev:Operand->af AV}{rd:Nat->af IR}{T:TypeId}{ps:aa (Nat×Operand)}{K:AV->af α}:(Qh P ev rd T ps K).bind D=Qh P ev rd T ps (λd=>(K d).bind D):=by
 unfold Qh
 repeat' split
 all_goals first|rfl|exact zY .. |simp_all
def NZ{P:Program}{rd:Nat->af IR}{T T':TypeId}{x:af AV}{K:AV->af α}:(PI P rd T T' x K).bind D=PI P rd T T' x (λd=>(K d).bind D):=by
 unfold PI
 repeat' split
 all_goals first|rfl|exact zY .. |simp_all
def Lb{i:Nat}{x:af AV}{K:AV->af α}:(RX i x K).bind D=RX i x (λd=>(K d).bind D):=by
 unfold RX
 repeat' split
 all_goals first|rfl|exact zY .. |simp_all
def YU{ev:Operand->af AV}{f:Go.Fn}{fs cs:aa Operand}{K:AV->af α}:(QI ev f fs cs K).bind D=QI ev f fs cs (λd=>(K d).bind D):=by
 unfold QI
 repeat' split
 all_goals first|rfl|exact zY .. |simp_all
def Nu{P:Program}{T:TypeId}{x y:af AV}{K:AV->af α}:(Rh P T x y K).bind D=Rh P T x y (λd=>(K d).bind D):=by
 unfold Rh
 repeat' split
 all_goals first|rfl|exact zY .. |simp_all
def Z7{P:Program}{T:TypeId}{x:af AV}{lo hi:af (af AV)}{K:AV->af α}:(OO P T x lo hi K).bind D=OO P T x lo hi (λd=>(K d).bind D):=by
 unfold OO
 repeat' split
 all_goals first|rfl|exact zY .. |simp_all
def Oc{P:Program}{rd:Nat->af IR}{T:TypeId}{x:af AV}{K:AV->af α}:(P9 P rd T x K).bind D=P9 P rd T x (λd=>(K d).bind D):=by
 unfold P9
 repeat' split
 all_goals first|rfl|exact zY .. |simp_all
def abJ{P:Program}{nx:Nat}{T:TypeId}{K:gd->af α}:(WA P nx T K).bind D=WA P nx T (λd=>(K d).bind D):=by
 unfold WA;exact zY ..
def Xt{rd:Nat->af IR}{nx:Nat}{T:TypeId}{x:af AV}{K:gd->af α}:(Qz rd nx T x K).bind D=Qz rd nx T x (λd=>(K d).bind D):=by
 unfold Qz
 repeat' split
 all_goals first|rfl|exact zY .. |simp_all
def abo{P:Program}{rd:Nat->af IR}{T:TypeId}{x y:af AV}{K:gd->af α}:(OM P rd T x y K).bind D=OM P rd T x y (λd=>(K d).bind D):=by
 unfold OM
 repeat' split
 all_goals first|rfl|exact zY .. |simp_all
def aaK{P:Program}{rd:Nat->af IR}{R:bg}{nx:Nat}{T:TypeId}{x y:af AV}{K:gd->af α}:(QM P rd R nx T x y K).bind D=QM P rd R nx T x y (λd=>(K d).bind D):=by
 unfold QM;split
 ·split
  ·split
   ·split
    ·rw[zY]
     congr 1
     funext l
     rw[zY]
     congr 1
     funext l2
     split<;>rfl
    ·rfl
   ·rfl
  ·rfl
 ·rfl
def Xy{P:Program}{ev:Operand->af AV}{rd:Nat->af IR}{nx:Nat}{T:TypeId}{n:Nat}{ps:aa (Nat×Operand)}{K:gd->af α}:(QH P ev rd nx T n ps K).bind D=QH P ev rd nx T n ps (λd=>(K d).bind D):=by
 unfold QH;split
 ·split
  ·split
   ·split<;>rfl
   ·split
    ·split
     ·rw[zY]
      congr 1
      funext cs
      split
      ·exact zY ..
      ·rfl
     ·rfl
    ·rfl
  ·rfl
 ·rfl
def agU{P:Program}{nx:Nat}{T:TypeId}{x y:af AV}{K:gd->af α}:(mkE P nx T x y K).bind D=mkE P nx T x y (λd=>(K d).bind D):=by
 unfold mkE;split
 ·split
  ·split
   ·rw[zY]
    congr 1
    funext d
    split<;>rfl
   ·rfl
  ·rfl
 ·rfl
def acK{P:Program}{nx:Nat}{T:TypeId}{x:af AV}{K:gd->af α}:(emE P nx T x K).bind D=emE P nx T x (λd=>(K d).bind D):=by
 unfold emE
 repeat' split
 all_goals first|rfl|simp_all
def YT{P:Program}{T:TypeId}{K:Nat->aa Value->af α}:(W4 P T K).bind D=W4 P T (λe zs=>(K e zs).bind D):=by
 unfold W4
 repeat' split
 all_goals first|rfl|simp_all
def MP{P:Program}{rd:Nat->af IR}{e:Nat}{zs:aa Value}{T' T:TypeId}{y:af AV}{K:aa (U.dz e)->af α}:(QJ P rd e zs T' T y K).bind D=QJ P rd e zs T' T y (λd=>(K d).bind D):=by
 unfold QJ;split
 ·exact zY ..
 ·split
  ·split
   ·rw[zY]
    congr 1
    funext d
    split<;>rfl
   ·rfl
  ·rfl
def Zf{P:Program}{rd:Nat->af IR}{nx:Nat}{T T':TypeId}{x y:af AV}{K:gd->af α}:(WQ P rd nx T T' x y K).bind D=WQ P rd nx T T' x y (λd=>(K d).bind D):=by
 unfold WQ;rw[YT]
 congr 1
 funext e zs
 split
 ·rw[MP]
  congr 1
  funext l2
  split<;>rfl
 ·split
  ·rw[zY]
   congr 1
   funext l
   rw[MP]
   congr 1
   funext l2
   split<;>rfl
  ·rfl
 ·rfl
def Ce{mx:Bool}{xs:aa (af AV)}{K:AV->af α}:(mnV mx xs K).bind D=mnV mx xs (λd=>(K d).bind D):=by
 unfold mnV;split
 ·split
  ·cases mx<;>rfl
  ·rfl
 ·rfl
def dX(F:aZ):Prop:=∀(α β:Type) f args R nx (k:AV->bg->Nat->af α) (D:α->af β),(F α f args R nx k).bind D=F β f args R nx (λd R nx=>(k d R nx).bind D)
structure aQ (P:Program) (F:aZ):Prop where
 ok:iD P F
 nat:dX F
def Yi{F:aZ}(hF:dX F){ev:Operand->af AV}{R:bg}{nx:Nat}{x:af AV}{xs:aa Operand}{K:gd->af α}:(KV F ev R nx x xs K).bind D=KV F ev R nx x xs (λd=>(K d).bind D):=by
 unfold KV;split
 ·rw[zY]
  congr 1
  funext as0
  exact hF ..
 ·rfl
def AQ{F:aZ}(hF:dX F)(o:Op)(P:Program)(ev:Operand->af AV)(rd:Nat->af IR)(R:bg)(nx:Nat)(K:gd->af α):(mN o P F ev rd R nx K).bind D=mN o P F ev rd R nx (λe=>(K e).bind D):=by
 have hP:(λd=>(dP K d).bind D)=dP (λe=>(K e).bind D):=rfl;cases o<;>first|rfl|exact zY .. |exact Te D|exact NZ D|exact LX D|exact Nv D|exact Md D|exact Nu D|exact Sn D|exact abo D|exact YU D|exact Lb D|exact Yt D|exact Xy D|exact agU D|exact abJ D|exact Xt D|skip
 case pick c a b=>
  show (vt c a b P F ev rd R nx K).bind D=vt c a b P F ev rd R nx _;unfold vt;split
  ·exact zY ..
  ·exact zY ..
  ·rfl
 case binOp b T x y t=>exact Nb D
 case slice T x lo hi mx=>
  show (Mm T x lo hi mx P F ev rd R nx K).bind D=Mm T x lo hi mx P F ev rd R nx _;unfold Mm;split
  ·exact Z7 D
  ·split
   ·exact acK D
   ·rfl
  ·rfl
 case call c=>
  show (DO c P F ev rd R nx K).bind D=DO c P F ev rd R nx _;unfold DO;split
  ·exact Yi D hF
  ·unfold Br;split
   ·split
    ·exact Oc D
    ·rfl
   ·split
    ·exact Ce D
    ·rfl
   ·split
    ·exact Ce D
    ·rfl
   ·split
    ·exact Zf D
    ·rfl
   ·split
    ·exact aaK D
    ·rfl
   ·rfl
  ·rfl
end
end Go.Iv
end
noncomputable section
namespace Go.Iv
variable [U:qO]
open Go Go.RowKit Go.Shelf Go.Proofs
section
variable {P:Program} {C:Cx} {n:Nat} {c x y:Code} {Q Q':Exit->Env->aa cE->Prop} {E E':Env} {σ σ':aa cE}
end
def Vw.box{σ:aa cE}{b:Nat}{T:TypeId}{cs:aa AV}(i:Nat)(hσ:σ[i]? =V (.box b T cs)):Vw σ (.lit (.pointer (V ⟨b,0,G⟩))) (.fp cs):=λA w v hd hr=>by
 have hv:=hr.cH;subst hv;have hm:=List.mem_of_getElem? hσ;obtain⟨us,h1,h2⟩:=hd.1 _ hm;exact .fp cs b 0 us h1.lt (.inr (bT.2 ⟨_,hm,rfl⟩)) h2.1 (λj v hj=>by rw[yp];exact h1.cell (by simpa using hj)) (λj a v q1 q2=>(h2.2 j a v q1 q2).mono λb _ hA=>⟨.inl hA,rfl⟩)
end Go.Iv
end
noncomputable section
namespace Go.Iv
variable [U:qO] [L:mI]
open Go Go.RowKit
def pJ{id t m:Nat}{l:aa (U.dz t)}:∀(n:Nat) {d:AV},cS m d->cS m (oq id t l n d)
 |0,d,h=>h
 |n+1,d,h=>by
  have hL:∀{cs:aa AV},(∀c∈cs,cS m c)->∀c∈cs.map (oq id t l n),cS m c:=λh c hc=>by
   obtain⟨c',h1,rfl⟩:=zL.1 hc;exact pJ n (h c' h1)
  unfold oq;split
  ·rename_i h0;cases h0
  ·rename_i h0;cases h0;exact .agg _ (hL h.oN)
  ·rename_i h0;cases h0;exact .iR _ (hL h.Gw)
  ·rename_i h0;cases h0;exact .fn _ _ (hL h.fnL)
  ·unfold Vs;split
   ·split
    ·exact .sl _ _
    ·exact h
   ·exact h
def eF{f:AV->AV}(t:Nat):∀(E:Env),Env.get (E.map λp=>(p.1,f p.2)) t=(E.get t).map f
 |[]=>rfl
 |(k,v)::E=>by
  show Env.get ((k,f v)::E.map λp=>(p.1,f p.2)) t=_;unfold Env.get;cases hb:zf k t with
  |true=>rfl
  |false=>exact eF t E
section
variable {α:Type} {r:α} {P:Program} {F:aZ} {o:Oper} {C:Cg} {n:Nat} {s:St} {a:Act} {w:World}
def Mt.K9(h:Mt C n s a w)(id:Nat):Mt C n (s.K9 id) a w:=by
 unfold St.K9;split
 case h_2=>exact h
 rename_i t l hr;obtain⟨E,hh,hE,hR,ρ,hag,hsim⟩:=h;obtain⟨i,hi1,_,hi3⟩:=eR hr;have hres:=ia (ρ:=ρ) hi1;have hg:=hsim.good;have hd:Hd (al C.C (bg.res ρ s.R)) [.row (ρ.v id) t l] w:=⟨λr hr=>by
   rw[zy]at hr;rw[hr];exact hg.res _ (List.mem_of_getElem? hres),λb hb hA=>hA.2 (by
   obtain⟨r,h1,h2⟩:=bT.1 hb;rw[zy]at h1;rw[h1]at h2;exact bT.2 ⟨_,List.mem_of_getElem? hres,h2⟩)⟩
 have hle:=LY (C:=C.C) hres hg;have hbk:bD (bg.res ρ ((kH id s.R).map λp=>(p.1,uT id t l p.2)))=bD ((bg.res ρ s.R).eraseIdx i):=by
  rw[<-AB,<-hi3];unfold bD bg.res;rw[yq,List.filterMap_map,List.filterMap_map]
  congr 1
  funext p
  obtain⟨q,rr⟩:=p;cases rr<;>rfl
 have hal:∀b,(al C.C (bg.res ρ s.R) b\/b∈bD [cE.row (ρ.v id) t l])->al C.C (bg.res ρ ((kH id s.R).map λp=>(p.1,uT id t l p.2))) b:=λb hb=>by
  have:=hle b hb;exact⟨this.1,by rw[hbk];exact this.2⟩
 have hrel:∀{d:AV} {v:Value},Rel (al C.C (bg.res ρ s.R)) w (d.sub ρ) v->Rel (al C.C (bg.res ρ ((kH id s.R).map λp=>(p.1,uT id t l p.2)))) w ((oq id t l 3 d).sub ρ) v:=λh=>
  (Ek hd 3 h).mono λb _ hA=>⟨hal b hA,rfl⟩
 refine⟨E.map λp=>(p.1,oq id t l 3 p.2),λk d hk=> ?_,λp hp=> ?_,λp hp=> ?_,ρ,hag,hsim.defers.step (λb _ hA=>⟨hal b (.inl hA),rfl⟩),hsim.size,λk av hk=> ?_,⟨hg.kept,λrr hrr=> ?_,?_,λb hb=> ?_⟩⟩
 ·have hk':cQ (emap (oq id t l 3) s.E) k=V d:=hk;rw[uG]at hk';obtain⟨d',h1,rfl⟩:=zk.1 hk';rw[eF,hh k d' h1];rfl
 ·obtain⟨p',h1,rfl⟩:=zL.1 hp;exact pJ 3 (hE p' h1)
 ·obtain⟨p',h1,rfl⟩:=zL.1 hp;have h2:=CM (id:=id) hR p' h1;refine⟨h2.1,?_⟩;obtain⟨q,rr⟩:=p';cases rr with
  |row t' l'=>trivial
  |box T cs=>
   intro c hc;obtain⟨c',h3,rfl⟩:=zL.1 hc;exact pJ 3 (h2.2 c' h3)
 ·rw[Env.fh,eF]at hk;obtain⟨d',h1,rfl⟩:=zk.1 hk;obtain⟨d,h2,rfl⟩:=zk.1 h1;obtain⟨v,h3,h4⟩:=hsim.slots k (d.sub ρ) (by rw[Env.fh,h2];rfl);exact⟨v,h3,hrel h4⟩
 ·obtain⟨p,h1,rfl⟩:=zL.1 hrr;obtain⟨p',h2,rfl⟩:=zL.1 h1;have hm:p'.2.res ρ p'.1∈bg.res ρ s.R:=by
   rw[hi3]at h2;exact zL.2 ⟨p',List.mem_of_mem_eraseIdx h2,rfl⟩
  have h3:=hg.res _ hm;obtain⟨q,rr⟩:=p';cases rr with
  |row t' l'=>exact h3.mono (λb _ hA=>⟨hal b (.inl hA),rfl⟩) (λ_ _=>rfl)
  |box T cs=>
   obtain⟨us,h4,h5⟩:=h3;refine⟨us,h4,by simpa using h5.1,λj av v q1 q2=> ?_⟩;rw[yq,yb]at q1;obtain⟨c,hc,rfl⟩:=zk.1 q1;exact hrel (h5.2 j (c.sub ρ) v (by rw[yb,hc];rfl) q2)
 ·rw[hbk];exact hg.GI.sublist ((wQ _ _).filterMap _)
 ·rw[hbk]at hb;exact hg.own b (pz (λr hr=>(wQ _ _).subset hr) b hb)
def St.j8(s:St)(ids:aa Nat):St:=match ids with
 |[]=>s
 |i::is=>(s.K9 i).j8 is
def Mt.j8:∀(ids:aa Nat) {s:St},Mt C n s a w->Mt C n (s.j8 ids) a w
 |[],_,h=>h
 |i::is,_,h=>Mt.j8 is (h.K9 i)
def aqw:AV->aa Nat
 | .own id=>[id]
 | .agg cs=>cs.filterMap λc=>match c with
  | .own id=>V id
  |_=>G
 |_=>[]
def abe(E:ET)(x:Operand):aa Nat:=match Gd E x with
 |some d=>aqw d
 |none=>[]
def iT(E:ET):Op->aa Nat
 | .buildSlice _ _ ps=>ps.toList.flatMap λp=>abe E p.2
 | .store T x v=>match L.fz (Nat.add 1000000 T)with
  |true=>abe E v
  |false=>match Gd E x with
   |some (.ra _ _ _ _)=>abe E v
   |_=>[]
 | .slice _ x _ _ G=>abe E x
 | .call c=>match c.callee with
  | .value (.func f)=>match L.fz f with
   |true=>c.args.toList.flatMap (abe E)
   |false=>[]
  |_=>[]
 |_=>[]
def St.fW(s:St)(t:Nat)(b:Bool):St:={s with E:=mE t (.b b) s.E}
def Mt.fW{t:Nat}{b:Bool}(h:Mt C n s a w)(ht:cQ s.E t=V (.lit (.bool b))):Mt C n (s.fW t b) a w:=by
 obtain⟨E,hh,hE,hR,ρ,hag,hsim⟩:=h;refine⟨E,λk d hk=> ?_,hE,hR,ρ,hag,hsim⟩;have hk':cQ (mE t (.b b) s.E) k=V d:=hk;rcases o9 hk' with ⟨rfl,rfl⟩|⟨_,h2⟩
 ·exact hh _ _ ht
 ·exact hh k d h2
def gate(ops:Array Oper)(o:Oper)(s:St)(yes no:St->af α):af α:=match o.guard with
 |none=>yes s
 |some (j,want)=>match (ops[j]?).bind (·.dst)with
  |none=>G
  |some t=>match cQ s.E t with
   |some (.lit (.bool b))=>match b with
    |true=>match want with
     |true=>yes (s.fW t O)
     |false=>no (s.fW t O)
    |false=>match want with
     |true=>no (s.fW t S)
     |false=>yes (s.fW t S)
   |some (.lit (.tuple _))=>no s
   |_=>G
def Hg{ops:Array Oper}{j t:Nat}{want:Bool}{ρ:Gh}(hg:o.guard=V (j,want))(hj:(ops[j]?).bind (·.dst)=V t){E:Env}:
  (∀b,E.get t=V (.lit (.bool b))->o5 (E.sub ρ) o ops=V (b==want))/\(∀vs,E.get t=V (.lit (.tuple vs))->o5 (E.sub ρ) o ops=V S):=by
 constructor
 ·intro b hb;unfold o5;rw[hg];simp only[hj,Env.fh,hb,yx,bW]
 ·intro vs hb;unfold o5;rw[hg];simp only[hj,Env.fh,hb,yx,bW]
def aj3{ops:Array Oper}{yes no:St->af α}(h:gate ops o s yes no=V r)(hm:Mt C n s a w):∃s',Mt C n s' a w/\
  ((Region.wanted o (yielded ops a.tmps)=O/\yes s'=V r)\/(Region.wanted o (yielded ops a.tmps)=S/\no s'=V r)):=by
 unfold gate at h;split at h
 ·rename_i hg;exact⟨s,hm, .inl ⟨by simp[Region.wanted,hg],h⟩⟩
 ·rename_i j want hg;split at h
  ·cases h
  ·rename_i t hj;have hspec:∀{s':St},Mt C n s' a w->(∀b,cQ s'.E t=V (.lit (.bool b))->Region.wanted o (yielded ops a.tmps)=(b==want))/\(∀vs,cQ s'.E t=V (.lit (.tuple vs))->Region.wanted o (yielded ops a.tmps)=S):=λ{s'} hm'=>by
    obtain⟨E,hh,_,_,ρ,_,hsim⟩:=hm';obtain⟨h1,h2⟩:=Hg (ρ:=ρ) hg hj (E:=E);exact⟨λb hb=>o5.spec hsim.slots (h1 b (hh _ _ hb)),λvs hv=>o5.spec hsim.slots (h2 vs (hh _ _ hv))⟩
   split at h
   ·rename_i b hb;have hw:=(hspec hm).1 b hb;split at h
    ·split at h
     ·exact⟨_,hm.fW hb, .inl ⟨hw,h⟩⟩
     ·exact⟨_,hm.fW hb, .inr ⟨hw,h⟩⟩
    ·split at h
     ·exact⟨_,hm.fW hb, .inr ⟨hw,h⟩⟩
     ·exact⟨_,hm.fW hb, .inl ⟨hw,h⟩⟩
   ·rename_i vs hb;exact⟨s,hm, .inr ⟨(hspec hm).2 vs hb,h⟩⟩
   ·cases h
def By(o:Op)(s:St)(f:St->af α):af α:=match o with
 | .pick (.tmp t) _ _=>match cQ s.E t with
  |some (.lit (.bool b))=>match b with
   |true=>f (s.fW t O)
   |false=>f (s.fW t S)
  |_=>G
 |_=>f s
def ab7{op:Op}{f:St->af α}(h:By op s f=V r)(hm:Mt C n s a w):∃s',Mt C n s' a w/\f s'=V r:=by
 unfold By at h;split at h
 ·split at h
  ·rename_i b hb;split at h
   ·exact⟨_,hm.fW hb,h⟩
   ·exact⟨_,hm.fW hb,h⟩
  ·cases h
 ·exact⟨s,hm,h⟩
def rQ(dst:af Nat)(d:AV)(E:ET):ET:=match dst with
 |none=>E
 |some t=>mE t d E
def JV(dst:af Nat)(E:ET)(R:bg)(nx:Nat)(ih:St->(St->af α)->af α)(k:St->af α)(e:gd):af α:=match e with
 | .val d=>ih ⟨rQ dst d E,R,nx⟩ k
 | .new d r=>ih ⟨rQ dst d E,(nx,r)::R,nx+1⟩ k
 | .set id r=>ih ⟨rQ dst (.lit undef) E,sY id r R,nx⟩ k
 | .grow id r=>ih ⟨rQ dst (.own nx) E,(nx,r)::kH id R,nx+1⟩ k
 | .all d R' m=>ih ⟨rQ dst d E,R',m⟩ k
def aek(dst:af Nat)(s:St)(ih:St->(St->af α)->af α)(k:St->af α):JV dst s.E s.R s.nx ih k=λe=>ih (s.app dst e) k:=by
 funext e
 cases e<;>cases dst<;>rfl
def aqb(P:Program)(F:aZ)(o:Oper)(ih:St->(St->af α)->af α)(k:St->af α)(s:St):af α:=St.rec (λE R nx=>mN o.op P F (Gd E) (gp R) R nx (JV o.dst E R nx ih k)) s
def rDo(P:Program)(F:aZ)(o:Oper)(ih:St->(St->af α)->af α)(k:St->af α)(s:St):af α:=aqb P F o ih k (s.j8 (iT s.E o.op))
abbrev OpK(α:Type):=Program->aZ->af Nat->ET->bg->Nat->(St->(St->af α)->af α)->(St->af α)->af α
abbrev StT(α:Type):=Program->aZ->(Operand->af AV)->(Nat->af IR)->bg->Nat->(gd->af α)->af α
def GQ(f:StT α):OpK α:=λP F dst E R nx ih k=>f P F (Gd E) (gp R) R nx (JV dst E R nx ih k)
def stZ(ids:ET->aa Nat)(f:StT α):OpK α:=λP F dst E R nx ih k=>St.rec (λE R nx=>f P F (Gd E) (gp R) R nx (JV dst E R nx ih k)) (St.j8 ⟨E,R,nx⟩ (ids E))
def aEJ(c a b:Operand):OpK α:=match c with
 | .tmp t=>λP F dst E R nx ih k=>match cQ E t with
  |some (.lit (.bool v))=>match v with
   |true=>GQ (vt (.tmp t) a b) P F dst (mE t (.b O) E) R nx ih k
   |false=>GQ (vt (.tmp t) a b) P F dst (mE t (.b S) E) R nx ih k
  |_=>G
 |c=>GQ (vt c a b)
def opF(o:Op):OpK α:=match o with
 | .move x=>GQ (Tc x)
 | .assign x=>GQ (Tc x)
 | .pick c a b=>aEJ c a b
 | .binOp b T x y _=>GQ (anm b T x y)
 | .unOp b _ x=>GQ (auC b x)
 | .convert T T' x=>GQ (ak5 T T' x)
 | .nilCheck x=>GQ (am7 x)
 | .fieldAddr T x i=>GQ (ala T x i)
 | .indexAddr T x y=>GQ (alP T x y)
 | .index T x y=>GQ (akT T x y)
 | .load T x=>GQ (ay7 T x)
 | .store T x y=>stZ (λE=>iT E (.store T x y)) (ann T x y)
 | .makeFunc f fs cs=>GQ (akR f fs cs)
 | .extract x i=>GQ (ami x i)
 | .build T ps=>GQ (alJ T ps)
 | .buildSlice T n ps=>stZ (λE=>iT E (.buildSlice T n ps)) (amu T n ps)
 | .makeSlice T x y=>GQ (auO T x y)
 | .alloc T=>GQ (al2 T)
 | .box T x=>GQ (am6 T x)
 | .slice T x lo hi mx=>stZ (λE=>iT E (.slice T x lo hi mx)) (Mm T x lo hi mx)
 | .call c=>stZ (λE=>iT E (.call c)) (DO c)
 |_=>GQ avq
def Ig(P:Program)(F:aZ)(o:Oper)(s:St)(ih:St->(St->af α)->af α)(k:St->af α):opF o.op P F o.dst s.E s.R s.nx ih k=By o.op s (rDo P F o ih k):=by
 unfold rDo aqb By;cases h:o.op<;>first|rfl|skip
 case pick c a b=>
  cases c<;>rfl
def atY(P:Program)(F:aZ)(o:Oper)(ih:St->(St->af α)->af α)(k:St->af α)(s:St):af α:=St.rec (λE R nx=>opF o.op P F o.dst E R nx ih k) s
def rNo(dst:af Nat)(ih:St->(St->af α)->af α)(k:St->af α)(s:St):af α:=match dst with
 |some t=>ih {s with E:=mE t (.lit undef) s.E} k
 |none=>ih s k
def Ln(P:Program)(F:aZ)(n:Nat)(ops:Array Oper)(o:Oper)(ih:St->(St->af α)->af α)(s:St)(k:St->af α):af α:=match MX n o.dst with
 |true=>gate ops o s (atY P F o ih k) (rNo o.dst ih k)
 |false=>G
def eX(P:Program)(F:aZ)(n:Nat)(ops:Array Oper)(l:aa Oper):St->(St->af α)->af α:=List.rec (λs k=>k s) (λo _ ih=>Ln P F n ops o ih) l
def Ev(hF:iD P F){ops:Array Oper}{k:St->af α}:∀(rest:aa Oper) {s:St} {a:Act} {w:World},eX P F n ops rest s k=V r->Mt C n s a w->
  wpList P ops (λe a' w'=>e= .normal/\a'.defers=a.defers/\∃s',k s'=V r/\Mt C n s' a' w') rest a w
 |[],s,a,w,h,hm=>⟨rfl,rfl,s,h,hm⟩
 |o::rest,s,a,w,h,hm=>by
  change Ln P F n ops o (eX P F n ops rest) s k=V r at h;unfold Ln at h;split at h
  case h_2=>cases h
  rename_i hd;refine wpList_step λK' hK=> ?_;have cont:∀{s':St} {a':Act} {w':World},a'.defers=a.defers->eX P F n ops rest s' k=V r->Mt C n s' a' w'->K' a' w':=λ{s' a' w'} hda h1 h2=>hK _ _ (by
   have:=Ev hF rest h1 h2;rw[hda]at this;exact this)
  obtain⟨s1,hm1,⟨hw,h1⟩|⟨hw,h1⟩⟩:=aj3 h hm
  ·rw[bE hw];have h1':opF o.op P F o.dst s1.E s1.R s1.nx (eX P F n ops rest) k=V r:=h1;rw[Ig]at h1';obtain⟨s2,hm2,h2⟩:=ab7 h1' hm1;unfold rDo at h2;have e2:∀s:St,aqb P F o (eX P F n ops rest) k s=JY P F (Gd s.E) (gp s.R) s.R s.nx o.op (λe=>eX P F n ops rest (s.app o.dst e) k):=λs=>by
    show mN o.op P F (Gd s.E) (gp s.R) s.R s.nx (JV o.dst s.E s.R s.nx (eX P F n ops rest) k)=_;rw[NB,aek]
   rw[e2]at h2;have hm3:=Mt.j8 (iT s2.E o.op) hm2;exact apG (K:=λe=>eX P F n ops rest ((s2.j8 (iT s2.E o.op)).app o.dst e) k) (r:=r) hm3 hd (λE hs=>G6 hF hs rfl h2) λa' w' e q1 q2 _ q4=>cont q1 q2 q4
  ·rw[bO (by rw[hw];exact Bool.false_ne_true)];cases hdst:o.dst with
   |none=>
    rw[hdst]at h1;exact cont rfl h1 hm1
   |some t=>
    rw[hdst]at h1 hd;obtain⟨E,hh,hE,hR,ρ,hag,hsim⟩:=hm1;exact cont rfl h1 ⟨(t, .lit undef)::E,hh.put t _,Env.um hE (.lit _),hR,ρ,hag,by
     have:=hsim.put (av:= .lit undef) (v:=undef) hd (.lit _);show tV C.C n ((t,cc.sub ρ (.lit undef))::E.sub ρ) _ _ _;rw[bW];exact this⟩
end
def InL(P:Program)(c:Code)(Q:Exit->Act->World->Prop)(a:Act)(w:World):Prop:=
 ∀(b:Frame) (k:aa Item) (cs:aa Frame),∃e a' w',Q e a' w'/\Arrives P (lone (b.at a (.inLoop c::k)) cs w) b k cs e a' w'
def Hr{P:Program}{c:Code}{Q:Exit->Act->World->Prop}{a:Act}{w:World}(h:c.wp P (Exit.then (InL P c Q) Q) a w)(b:Frame)(k:aa Item)(cs:aa Frame):
  ∃e a' w',Q e a' w'/\Arrives P (lone (b.at a (.code c:: .inLoop c::k)) cs w) b k cs e a' w':=by
 obtain⟨e,a₁,w₁,hq,harr⟩:=h b (.inLoop c::k) cs;cases e with
 |normal=>
  obtain⟨e₂,a₂,w₂,hq₂,harr₂⟩:=hq b k cs;exact⟨e₂,a₂,w₂,hq₂, .of_steps harr harr₂⟩
 |exit id=>exact⟨_,a₁,w₁,hq, .pass (x:= .inLoop c) rfl (λ_ _=> .inl (by simp)) harr⟩
 |goto l=>exact⟨_,a₁,w₁,hq, .pass (x:= .inLoop c) rfl (λ_ _=> .inl (by simp)) harr⟩
 |ret=>exact⟨_,a₁,w₁,hq, .pass (x:= .inLoop c) rfl (λ_ _=> .inl (by simp)) harr⟩
 |panic ch=>exact⟨_,a₁,w₁,hq, .pass (x:= .inLoop c) rfl (λ_ _=> .inl (by simp)) harr⟩
 |outgrown=>exact⟨_,a₁,w₁,hq, .pass (x:= .inLoop c) rfl (λ_ _=> .inl (by simp)) harr⟩
def GS{P:Program}{c:Code}{Q:Exit->Act->World->Prop}{a:Act}{w:World}(h:c.wp P (Exit.then (InL P c Q) Q) a w):(Code.loop c).wp P Q a w:=λb k cs=>
 let ⟨e,a',w',hq,harr⟩:=Hr h b k cs
 ⟨e,a',w',hq, .of_steps (.one step_loop) harr⟩
def LA{P:Program}{c:Code}{Q:Exit->Act->World->Prop}{a:Act}{w:World}(h:c.wp P (Exit.then (InL P c Q) Q) a w):InL P c Q a w:=λb k cs=>
 let ⟨e,a',w',hq,harr⟩:=Hr h b k cs
 ⟨e,a',w',hq, .of_steps (.one step_inLoop) harr⟩
section
variable {α:Type} {r:α} {P:Program} {F:aZ} {C:Cx} {n:Nat}
abbrev gy(α:Type):=Exit->St->af α
def MU(k:gy α)(ih:St->af α):gy α:=λe s=>match e with
 | .normal=>ih s
 |e=>k e s
def FL(b:St->gy α->af α)(k:gy α)(m:Nat):St->af α:=Nat.rec (λ_=>G) (λ_ ih s=>b s (MU k ih)) m
def XI(b:Bool)(t:Nat)(s:St)(x y:St->af α):af α:=match b with
 |true=>x (s.fW t O)
 |false=>y (s.fW t S)
def pZ(c:Operand)(s:St)(x y:St->af α):af α:=match c with
 | .tmp t=>match cQ s.E t with
  |some (.lit (.bool b))=>XI b t s x y
  |_=>G
 | .const (.bool O)=>x s
 | .const (.bool S)=>y s
 |_=>G
def aji(y:St->gy α->af α)(k:gy α):gy α:=λe s=>match e with
 | .normal=>y s k
 |e=>k e s
def tu(id:Nat)(k:gy α):gy α:=λe s=>match e with
 | .exit i=>match zf i id with
  |true=>k .normal s
  |false=>k (.exit i) s
 |e=>k e s
def ZE(s:St)(k:gy α):af α:=k .normal s
def auv(x y:St->gy α->af α)(s:St)(k:gy α):af α:=x s (aji y k)
def asi(c:Operand)(x y:St->gy α->af α)(s:St)(k:gy α):af α:=pZ c s (λs=>x s k) (λs=>y s k)
def aip(id:Nat)(x:St->gy α->af α)(s:St)(k:gy α):af α:=x s (tu id k)
def YW(fuel:Nat)(x:St->gy α->af α)(s:St)(k:gy α):af α:=FL x k fuel s
def ZV(i:Nat)(s:St)(k:gy α):af α:=k (.exit i) s
def ak4(s:St)(k:gy α):af α:=k .ret s
def Gj(_:St)(_:gy α):af α:=G
def abr(P:Program)(s:St):ResultVar->af AV
 | .tmp t=>cQ s.E t
 | .cell t ty=>match cQ s.E t with
  |some (.ptr id 0)=>match gp s.R id with
   |some (.box _ cs)=>match Wp P ty with
    |true=>cs[0]?
    |false=>match Tz P ty with
     |some m=>match zf cs.length m with
      |true=>V (.agg cs)
      |false=>G
     |none=>G
   |_=>G
  |_=>G
def Gm(P:Program)(s:St):aa ResultVar->af (aa AV)
 |[]=>V []
 |x::xs=>match abr P s x with
  |some d=>(Gm P s xs).map λds=>d::ds
  |none=>G
def gL:aa AV->AV
 |[d]=>d
 |ds=> .iR ds
def ki:Nat->AV->aa Nat
 |_, .own id=>[id]
 |_, .ptr id _=>[id]
 |_, .ra id _ _ _=>[id]
 |n+1, .agg cs=>cs.flatMap (ki n)
 |n+1, .iR cs=>cs.flatMap (ki n)
 |n+1, .fn _ cs=>cs.flatMap (ki n)
 |_,_=>[]
def dH(i:Nat):aa Nat->Bool
 |[]=>S
 |j::js=>match zf i j with
  |true=>O
  |false=>dH i js
def aDk(R:bg)(ids:aa Nat):aa Nat:=ids.flatMap λi=>match gp R i with
 |some (.box _ cs)=>cs.flatMap (ki 3)
 |_=>[]
def reach(R:bg):Nat->aa Nat->aa Nat
 |0,ids=>ids
 |m+1,ids=>ids++reach R m (aDk R ids)
def Oe(nx:Nat)(ids:aa Nat)(R:bg):bg:=List.rec [] (λp R ih=>Bool.rec (Bool.rec ih (p::ih) (dH p.1 ids)) (p::R) (zG p.1 nx)) R
def FZ(R:bg)(nx:Nat)(d:AV):bg:=Oe nx (reach R 3 (ki 3 d++zM nx)) R
def MI(R:bg)(nx:Nat)(d:AV)(xs:aa AV):bg:=Oe nx (reach R 3 (ki 3 d++xs.flatMap (ki 3))) R
def Of(i:Nat)(l:aa AV):ET->ET:=List.rec (λ_ T=>T) (λd _ ih i T=>ih (i+1) (mE i d T)) l i
end
end Go.Iv
end
noncomputable section
namespace Go.Iv
variable [U:qO]
open Go Go.RowKit
abbrev Fr:Type:=Nat->af AV
structure Rc where
 dst:Option Nat
 v:AV
 (sl rd wr:List Nat)
 ef:Bool
 Lo:bg
def gT(rd:aa Nat)(R:bg):bg:=R.filter λp=> !dH p.1 rd
def cC(rd:aa Nat)(R:bg):bg:=R.filter λp=>dH p.1 rd
def Rc.F(c:Rc)(f:Fr):Fr:=λt=>if c.dst=V t then V c.v else f t
def Rc.R(c:Rc)(R:bg):bg:=match c.ef with
 |true=>c.Lo++gT c.wr R
 |false=>R
def gM:aa Rc->aa Bool->Fr->Fr
 |c::cs,b::bs,f=>gM cs bs (match b with|O=>c.F f|S=>f)
 |_,_,f=>f
def gR:aa Rc->aa Bool->bg->bg
 |c::cs,b::bs,R=>gR cs bs (match b with|O=>c.R R|S=>R)
 |_,_,R=>R
def fU{i:Nat}:∀{l:aa Nat},dH i l=O↔i∈l
 |[]=>by simp[dH]
 |j::js=>by
  unfold dH;cases h:zf i j with
  |true=>have:=gz h;subst this;simp
  |false=>
   have hne:i≠j:=λe=>by rw[e,Nat.beq_refl]at h;cases h
   simp only[zD,hne,false_or];exact fU
def iY{i:Nat}{l:aa Nat}:dH i l=S↔i∉l:=by
 cases h:dH i l with
 |true=>simp[fU.1 h]
 |false=>simp only[true_iff];exact λhm=>by rw[fU.2 hm]at h;cases h
structure CF (c d:Rc):Prop where
 ds:∀t,c.dst=V t->t∉d.sl/\d.dst≠V t
 sd:∀t,d.dst=V t->t∉c.sl
 rc:c.ef=O->(∀i∈c.wr,i∉d.rd)/\(∀p∈c.Lo,p.1∉d.rd)/\∀p∈c.Lo,p.1∉d.wr
 rd:d.ef=O->(∀i∈d.wr,i∉c.rd)/\(∀p∈d.Lo,p.1∉c.rd)/\∀p∈d.Lo,p.1∉c.wr
def CF.symm{c d:Rc}(h:CF c d):CF d c:=⟨λt ht=>⟨h.sd t ht,λe=>(h.ds t e).2 ht⟩,λt ht=>(h.ds t ht).1,h.rd,h.rc⟩
def aE2{c i:Rc}(h:CF c i)(R:bg):cC i.rd (c.R R)=cC i.rd R:=by
 unfold Rc.R;cases he:c.ef with
 |false=>rfl
 |true=>
  obtain⟨h1,h2,_⟩:=h.rc he;simp only[cC,gT,y7,wj];have e1:c.Lo.filter (λp=>dH p.1 i.rd)=[]:=List.filter_eq_nil_iff.2 λp hp=>by simp[iY.2 (h2 p hp)]
  rw[e1,yw];refine wk λp _=> ?_;cases hm:dH p.1 i.rd with
  |false=>rfl
  |true=>
   have:dH p.1 c.wr=S:=iY.2 λhc=>h1 _ hc (fU.1 hm);rw[this];rfl
def aCo{c i:Rc}(h:CF c i)(f:Fr){t:Nat}(ht:t∈i.sl):c.F f t=f t:=by
 unfold Rc.F;split
 ·rename_i hd;exact dD ht (h.ds t hd).1
 ·rfl
def adX{c:Rc}{rd:aa Nat}{R R':bg}(h:cC rd R=cC rd R'):cC rd (c.R R)=cC rd (c.R R'):=by
 unfold Rc.R;cases c.ef with
 |false=>exact h
 |true=>
  simp only[cC,gT,y7,wj]at h ⊢
  congr 1
  have e:∀R:bg,R.filter (λp=>dH p.1 rd&& !dH p.1 c.wr)=(R.filter λp=>dH p.1 rd).filter λp=> !dH p.1 c.wr:=λR=>by
   rw[wj];exact wk λp _=>Bool.and_comm ..
  rw[e,e,h]
def KJ{i:Rc}:∀(cs:aa Rc) (bs bs':aa Bool) (f f':Fr) (R R':bg),bs.length=cs.length->bs'.length=cs.length->
  (∀(j:Nat) c b b',cs[j]? =V c->bs[j]? =V b->bs'[j]? =V b'->b=b'\/CF c i)->
  (∀t∈i.sl,f t=f' t)->cC i.rd R=cC i.rd R'->(∀t∈i.sl,gM cs bs f t=gM cs bs' f' t)/\cC i.rd (gR cs bs R)=cC i.rd (gR cs bs' R')
 |[],_,_,f,f',R,R',_,_,_,h1,h2=>⟨by simpa [gM]using h1,by simpa [gR]using h2⟩
 |c::cs,[],_,_,_,_,_,hl,_,_,_,_=>by cases hl
 |c::cs,_::_,[],_,_,_,_,_,hl,_,_,_=>by cases hl
 |c::cs,b::bs,b'::bs',f,f',R,R',hl,hl',hb,h1,h2=>by
  have h0:=hb 0 c b b' rfl rfl rfl;have hrec:=λf f' R R'=>KJ (i:=i) cs bs bs' f f' R R' (by simpa using hl) (by simpa using hl') (λj c b b' q1 q2 q3=>hb (j+1) c b b' q1 q2 q3);unfold gM gR;refine hrec _ _ _ _ ?_ ?_
  ·intro t ht;rcases h0 with rfl|hcf
   ·cases b with
    |false=>exact h1 t ht
    |true=>show c.F f t=c.F f' t;unfold Rc.F;split<;>first|rfl|exact h1 t ht
   ·cases b<;>cases b'<;>simp only[aCo hcf _ ht]<;>exact h1 t ht
  ·rcases h0 with rfl|hcf
   ·cases b with
    |false=>exact h2
    |true=>exact adX h2
   ·cases b<;>cases b'<;>simp only[aE2 hcf]<;>exact h2
def aog{c d:Rc}(h:CF c d)(f:Fr):c.F (d.F f)=d.F (c.F f):=by
 funext t
 unfold Rc.F;by_cases h1:c.dst=V t
 ·rw[bE h1,bO (h.ds t h1).2,bE h1]
 ·by_cases h2:d.dst=V t
  ·rw[bO h1,bE h2,bE h2]
  ·rw[bO h1,bO h2,bO h2,bO h1]
def ao6{c:Rc}{R R':bg}(h:List.Perm R R'):List.Perm (c.R R) (c.R R'):=by
 unfold Rc.R;cases c.ef with
 |false=>exact h
 |true=>exact(h.filter _).append_left _
def atm{c d:Rc}(h:CF c d)(R:bg):List.Perm (c.R (d.R R)) (d.R (c.R R)):=by
 unfold Rc.R;cases hc:c.ef with
 |false=>cases d.ef<;>exact .refl _
 |true=>
  cases hd:d.ef with
  |false=>exact .refl _
  |true=>
   obtain⟨h1,_,h2⟩:=h.rc hc;obtain⟨h3,_,h4⟩:=h.rd hd;simp only[gT,y7,wj];have e1:d.Lo.filter (λp=> !dH p.1 c.wr)=d.Lo:=List.filter_eq_self.2 λp hp=>by simp[iY.2 (h4 p hp)]
   have e2:c.Lo.filter (λp=> !dH p.1 d.wr)=c.Lo:=List.filter_eq_self.2 λp hp=>by simp[iY.2 (h2 p hp)]
   rw[e1,e2,<-yR,<-yR];refine(List.perm_append_comm).append ?_;rw[show (R.filter λa=> !dH a.1 c.wr&& !dH a.1 d.wr)=R.filter λa=> !dH a.1 d.wr&& !dH a.1 c.wr from wk λp _=>Bool.and_comm ..]
def late{i:Rc}:∀(cs:aa Rc) (bs:aa Bool) (f:Fr) (R R':bg),(∀(j:Nat) c,cs[j]? =V c->bs[j]? =V O->CF i c)->List.Perm R' (i.R R)->
  i.F (gM cs bs f)=gM cs bs (i.F f)/\List.Perm (i.R (gR cs bs R)) (gR cs bs R')
 |[],_,f,R,R',_,hp=>⟨rfl,hp.symm⟩
 |_::_,[],f,R,R',_,hp=>⟨rfl,hp.symm⟩
 |c::cs,b::bs,f,R,R',hb,hp=>by
  unfold gM gR;cases b with
  |false=>exact late cs bs f R R' (λj c q1 q2=>hb (j+1) c q1 q2) hp
  |true=>
   have hcf:=hb 0 c rfl rfl;have h1:=late cs bs (c.F f) (c.R R) (c.R R') (λj c q1 q2=>hb (j+1) c q1 q2) ((ao6 hp).trans (atm hcf.symm R));refine⟨?_,h1.2⟩;rw[h1.1,aog hcf]
def Fc:∀(pre:aa Rc) (bp:aa Bool) (cs:aa Rc) (bs:aa Bool) (f:Fr),bp.length=pre.length->gM (pre++cs) (bp++bs) f=gM cs bs (gM pre bp f)
 |[],[],_,_,_,_=>rfl
 |_::_,[],_,_,_,h=>by cases h
 |[],_::_,_,_,_,h=>by cases h
 |c::pre,b::bp,cs,bs,f,h=>by
  show gM (pre++cs) (bp++bs) _=_;rw[Fc pre bp cs bs _ (by simpa using h)];rfl
def Ej:∀(pre:aa Rc) (bp:aa Bool) (cs:aa Rc) (bs:aa Bool) (R:bg),bp.length=pre.length->gR (pre++cs) (bp++bs) R=gR cs bs (gR pre bp R)
 |[],[],_,_,_,_=>rfl
 |_::_,[],_,_,_,h=>by cases h
 |[],_::_,_,_,_,h=>by cases h
 |c::pre,b::bp,cs,bs,R,h=>by
  show gR (pre++cs) (bp++bs) _=_;rw[Ej pre bp cs bs _ (by simpa using h)];rfl
def aaJ{cs:aa Rc}{bs:aa Bool}{i:Nat}{c:Rc}(f:Fr)(R:bg)(hl:bs.length=cs.length)(hc:cs[i]? =V c)(hb:bs[i]? =V S)
  (hpre:∀(j:Nat) d,j<i->cs[j]? =V d->bs[j]? =V S->CF d c) (hpost:∀(j:Nat) d,i<j->cs[j]? =V d->bs[j]? =V O->CF d c):
  (∀t∈c.sl,gM cs bs f t=gM (cs.take i) (zl i O) f t)/\cC c.rd (gR cs bs R)=cC c.rd (gR (cs.take i) (zl i O) R)/\
  c.F (gM cs bs f)=gM cs (bs.set i O) f/\List.Perm (c.R (gR cs bs R)) (gR cs (bs.set i O) R):=by
 have hi:i<cs.length:=(z7.1 hc).1;have hib:i<bs.length:=by omega
 have ec:cs=cs.take i++c::cs.drop (i+1):=by
  rw[<-(z7.1 hc).2,<-xu hi,xw]
 have eb:bs=bs.take i++S::bs.drop (i+1):=by
  rw[<-(z7.1 hb).2,<-xu hib,xw]
 have lp:(bs.take i).length=(cs.take i).length:=by rw[zH,zH];omega
 have eb2:bs.set i O=bs.take i++O::bs.drop (i+1):=by
  rw[wC,bE hib]
 have hF:gM cs bs f=gM (cs.drop (i+1)) (bs.drop (i+1)) (gM (cs.take i) (bs.take i) f):=by
  conv=>lhs;rw[ec,eb]
  rw[Fc _ _ _ _ _ lp];rfl
 have hR:gR cs bs R=gR (cs.drop (i+1)) (bs.drop (i+1)) (gR (cs.take i) (bs.take i) R):=by
  conv=>lhs;rw[ec,eb]
  rw[Ej _ _ _ _ _ lp];rfl
 have hF2:gM cs (bs.set i O) f=gM (cs.drop (i+1)) (bs.drop (i+1)) (c.F (gM (cs.take i) (bs.take i) f)):=by
  rw[eb2]
  conv=>lhs;rw[ec]
  rw[Fc _ _ _ _ _ lp];rfl
 have hR2:gR cs (bs.set i O) R=gR (cs.drop (i+1)) (bs.drop (i+1)) (c.R (gR (cs.take i) (bs.take i) R)):=by
  rw[eb2]
  conv=>lhs;rw[ec]
  rw[Ej _ _ _ _ _ lp];rfl
 have hpo:∀(j:Nat) d,(cs.drop (i+1))[j]? =V d->(bs.drop (i+1))[j]? =V O->CF d c:=λj d q1 q2=>by
  rw[yD]at q1 q2;exact hpost (i+1+j) d (by omega) q1 q2
 have v2:=KJ (i:=c) (cs.drop (i+1)) (bs.drop (i+1)) (zl (cs.length-(i+1)) S) (gM (cs.take i) (bs.take i) f) (gM (cs.take i) (bs.take i) f) (gR (cs.take i) (bs.take i) R) (gR (cs.take i) (bs.take i) R)
  (by rw[ym,ym];omega) (by rw[xO,ym]) (λj d b b' q1 q2 q3=>by
   cases b with
   |true=>exact .inr (hpo j d q1 q2)
   |false=>
    rw[wR]at q3;split at q3
    ·cases q3;exact .inl rfl
    ·cases q3) (λt _=>rfl) rfl
 have none_F:∀(cs:aa Rc) (n:Nat) (f:Fr),gM cs (zl n S) f=f:=λcs=>by
  induction cs with
  |nil=>intro n f;rfl
  |cons d cs ih=>
   intro n f;cases n with
   |zero=>rfl
   |succ n=>rw[yP];exact ih n f
 have none_R:∀(cs:aa Rc) (n:Nat) (R:bg),gR cs (zl n S) R=R:=λcs=>by
  induction cs with
  |nil=>intro n f;rfl
  |cons d cs ih=>
   intro n f;cases n with
   |zero=>rfl
   |succ n=>rw[yP];exact ih n f
 have v1:=KJ (i:=c) (cs.take i) (bs.take i) (zl i O) f f R R lp (by rw[xO,zH];omega) (λj d b b' q1 q2 q3=>by
   rw[yF]at q1 q2;rw[wR]at q3;split at q1
   ·rename_i hji;rw[bE hji]at q2 q3;cases q3;cases b with
    |true=>exact .inl rfl
    |false=>exact .inr (hpre j d hji q1 q2)
   ·cases q1) (λt _=>rfl) rfl
 refine⟨λt ht=> ?_,?_,?_,?_⟩
 ·rw[hF,v2.1 t ht,none_F,v1.1 t ht]
 ·rw[hR,v2.2,none_R,v1.2]
 ·rw[hF,hF2];exact(late (i:=c) _ _ _ (gR (cs.take i) (bs.take i) R) _ (λj d q1 q2=>(hpo j d q1 q2).symm) (.refl _)).1
 ·rw[hR,hR2];exact(late (i:=c) _ _ (gM (cs.take i) (bs.take i) f) _ _ (λj d q1 q2=>(hpo j d q1 q2).symm) (.refl _)).2
end Go.Iv
end
