/- Merged: Iv1, Iv2, Iv3, Iv4, Iv5, Iw1, Iw0, Iv6, Iw2, Iw3, Iv10, Ivc, Iw4, Iw5, Iwn, Iv8, Iw6, Iw7, Iw8. -/
import Derived.OrdersHeld
import Derived.WalkKit
import Derived.KernelRfl
import Derived.Maps.AppendAt
import Derived.WalkLawsBesides
import Derived.Laws.Tables
import Derived.Laws.PanicsMore
import Derived.Great.BuildSlice
import Derived.Laws.MakeOwn
import Derived.Lib.SliceRun
import Derived.RangeFuncLeaves
import Derived.RangeFuncNested
import Derived.Laws.BytesArg
import Derived.Laws.StructEq
import Derived.Lib.AppendZerosOnto
import Derived.RangeFuncBound
import Derived.Shelf.Abstract
import Derived.TacticsIn
import Derived.OwnWalkIn
open Int renaming toNat_natCast → ze, natCast_mul → xI
open Nat renaming beq → zf, le_refl → zo, blt → zG, lt_succ_self → zJ, le_trans → zK, add_mul → yb, le_succ → yf, ble → yh, zero_add → yl, add_zero → yq, blt_eq → yA, mul_le_mul_right → yK, succ_mul → yN, mod_lt → yP, eq_of_beq_eq_true → xg, mul_one → xz, add_assoc → xG, lt_of_lt_of_le → x8, le_of_ble_eq_true → wj, eq_zero_or_pos → wE
open Bool renaming and_eq_true → zi, true → O, false → G
open Option renaming map_eq_some_iff → zj, bind_eq_some_iff → zn, some → zA, bind_assoc → zY, map_some → yy, toList_some → xL, toList → xN, some → V, none → S
open List renaming replicate → zk, length_append → zl, mem_cons_self → zm, getElem?_eq_getElem → zu, all_eq_true → zw, length_map → zx, mem_singleton → zy, mem_cons → zB, take_length → zD, length_take → zH, mem_map → zL, range → zM, mem_cons_of_mem → zO, mem_append → zV, drop_drop → zW, map_congr_left → zX, getElem?_eq_some_iff → z7, map_append → z8, getElem?_map → ya, map_cons → yc, length_drop → yj, map_map → ym, nil_append → yw, length_set → yx, getElem?_drop → yB, append_nil → yC, getElem?_take → yE, nodup_append → yH, mem_append_left → yI, mem_append_right → yJ, replicate_succ → yO, append_assoc → yQ, map_nil → yR, length_cons → yX, getElem_of_mem → yY, filter_append → y6, getElem?_append → xh, filterMap_cons → xk, cons_append → xo, drop_eq_getElem_cons → xu, take_append_drop → xw, size_toArray → xx, eq_nil_of_length_eq_zero → xy, length_range → xF, flatMap_cons → xH, map_drop → xJ, getElem_mem → xM, length_replicate → xO, mem_flatMap → xP, map_take → xQ, take_zero → xR, getElem?_eq_none → x9, getElem_take → we, length_pos_iff → wg, mem_of_mem_drop → wh, filter_filter → wk, filter_congr → wm, set_eq_take_append_cons_drop → wD, flatten_cons → wF, flatMap_append → wG, getElem_drop → wH, eraseIdx_eq_take_drop_succ → wP, eraseIdx_sublist → wQ, getElem?_replicate → wR
open Array renaming length_toList → yg, getElem?_eq_some_iff → xE, getElem?_eq_getElem → xK
open Decidable renaming decide → J
set_option linter.unusedSectionVars false
set_option linter.unusedVariables false
set_option linter.unusedSimpArgs false
set_option linter.defProp false
abbrev Prod.t{α β γ:Type _}(z:α×β×γ):γ:=z.2.2
abbrev Prod.q{α β γ δ ε:Type _}(z:α×β×γ×δ×ε):ε:=z.2.2.2.2
abbrev af(α:Type _):=Option α
abbrev aa(α:Type _):=List α
namespace Go
theorem bX:∀ {p:Prop} [inst:Decidable p],¬p→decide p=G:=@decide_eq_false
theorem bW:∀ {p:Prop} [inst:Decidable p],p→decide p=O:=@decide_eq_true
theorem bA{α:Sort _}(a b:α):cond G a b=b:=rfl
theorem bD{α:Sort _}(a b:α):cond O a b=a:=rfl
theorem bG{c:Prop}{h:Decidable c}(hc:c){α:Sort _}{t e:α}:(ite c t e)=t:=if_pos hc
theorem bP{c:Prop}{h:Decidable c}(hnc:¬c){α:Sort _}{t e:α}:(ite c t e)=e:=if_neg hnc
theorem cR(h:Decidable True):@decide True h=O:=decide_true h
theorem eR(h:Decidable False):@decide False h=G:=decide_false h
theorem cF{α:Sort _}{_:Decidable True}(t e:α):ite True t e=t:=if_true t e
theorem gA{α:Sort _}{_:Decidable False}(t e:α):ite False t e=e:=if_false t e
theorem dA(p:Prop):(p∧p)=p:=and_self p
def dF{a:Prop}{b:Sort _}(h1:a)(h2:¬a):b:=absurd h1 h2
end Go
noncomputable section
namespace Go.Iv
open Go Go.RowKit
inductive bZ (dw:Nat->Type):Type
 |lit (v:Value)
 |sl (t:Nat) (l:List (dw t))
 |fp (cs:List (bZ dw))
 |rp (v:Value) (k:Nat)
 |agg (cs:List (bZ dw))
 |iL (vs:List (bZ dw))
 |fn (f:Fn) (caps:List (bZ dw))
 |own (id:Nat)
 |ptr (id off:Nat)
 |ra (id t m off:Nat)
class ru where
 dw:Nat->Type
 inh:(t:Nat)->Inhabited (dw t)
 sz:Nat->Nat
 cells:(t:Nat)->dw t->List (bZ dw)
instance [U:ru] (t:Nat):Inhabited (U.dw t):=U.inh t
abbrev AV[U:ru]:Type:=bZ U.dw
variable [U:ru]
def gG:Value->af Nat
 | .slice (V a) _ (_+1)=>V a.block
 |_=>S
def gI(w:World)(v:Value)(T:TypeId)(sz n:Nat)(us:aa Value):Prop:=
 us.length=n*sz/\((∃p,v= .slice p 0 0/\n=0)\/
  ∃g cap cur,v= .slice (V ⟨g,0,S⟩) n (cap+1)/\w.heap[g]? =V (.cells cur T (0,0))/\n<=cap+1/\cap+1<=maxLen/\cur.size=(cap+1)*sz/\cur.toList.take (n*sz)=us)
def gI.lt{w:World}{v:Value}{T:TypeId}{sz n:Nat}{us:aa Value}(h:gI w v T sz n us){b:Nat}(hb:gG v=V b):b<w.heap.size:=by
 rcases h.2 with ⟨p,rfl,_⟩|⟨g,cap,cur,rfl,hg,_⟩
 ·cases p<;>cases hb
 ·cases hb;exact(xE.1 hg).1
def gI.kept{w w':World}{v:Value}{T:TypeId}{sz n:Nat}{us:aa Value}(h:gI w v T sz n us)(hb:∀b,gG v=V b->w'.heap[b]? =w.heap[b]?):gI w' v T sz n us:=by
 refine⟨h.1,?_⟩;rcases h.2 with h1|⟨g,cap,cur,rfl,q1,q2⟩
 ·exact .inl h1
 ·exact .inr ⟨g,cap,cur,rfl,(hb g rfl).trans q1,q2⟩
inductive Rel (A:Nat->Prop) (w:World):AV->Value->Prop
 |lit (v:Value):Rel A w (.lit v) v
 |sl (t:Nat) (l:List (U.dw t)) (p:Option Addr) (cap:Nat) (u:Nat->Nat->Value)
   (hl:l.length<=9223372036854775807) (hcap:l.length<=cap) (hz:∀i,i<l.length->(U.cells t l[i]!).length=U.sz t)
   (hc:∀i,i<l.length->∃b off,p=V ⟨b,off,S⟩/\b<w.heap.size/\A b/\∀j,j<U.sz t->w.cell? ⟨b,off+i*U.sz t+j,S⟩=V (u i j))
   (hr:∀i j a,i<l.length->(U.cells t l[i]!)[j]? =V a->Rel A w a (u i j)):Rel A w (.sl t l) (.slice p l.length cap)
 |fp (cs:List AV) (b o:Nat) (us:List Value) (hb:b<w.heap.size) (hA:A b) (hl:us.length=cs.length)
   (hc:∀j v,us[j]? =V v->w.cell? ⟨b,o+j,S⟩=V v) (hr:∀(j:Nat) a v,cs[j]? =V a->us[j]? =V v->Rel A w a v):Rel A w (.fp cs) (.pointer (V ⟨b,o,S⟩))
 |rp (v:Value) (k g:Nat) (h:gG v=V g):Rel A w (.rp v k) (.pointer (V ⟨g,k,S⟩))
 |agg (cs:List AV) (us:List Value) (hl:us.length=cs.length) (hr:∀(j:Nat) a v,cs[j]? =V a->us[j]? =V v->Rel A w a v):Rel A w (.agg cs) (.agg us.toArray)
 |iL (cs:List AV) (us:List Value) (hl:us.length=cs.length) (hr:∀(j:Nat) a v,cs[j]? =V a->us[j]? =V v->Rel A w a v):Rel A w (.iL cs) (.tuple us.toArray)
 |fn (f:Fn) (cs:List AV) (us:List Value) (hl:us.length=cs.length) (hr:∀(j:Nat) a v,cs[j]? =V a->us[j]? =V v->Rel A w a v):Rel A w (.fn f cs) (.func f #[] us.toArray)
def Rel.mono{A A':Nat->Prop}{w w':World}{a:AV}{v:Value}(h:Rel A w a v)(hk:∀b,b<w.heap.size->A b->A' b/\w'.heap[b]? =w.heap[b]?):Rel A' w' a v:=by
 have hsz:∀b,b<w.heap.size->A b->b<w'.heap.size:=λb hb hA=>by
  have h1:=(hk b hb hA).2;rw[xK hb]at h1;exact(xE.1 h1).1
 have hcell:∀b o,b<w.heap.size->A b->w'.cell? ⟨b,o,S⟩=w.cell? ⟨b,o,S⟩:=λb o hb hA=>by
  simp[World.cell?,(hk b hb hA).2]
 induction h with
 |lit v=>exact .lit v
 |sl t l p cap u hl hcap hz hc hr ih=>
  refine .sl t l p cap u hl hcap hz (λi hi=> ?_) ih;obtain⟨b,off,h1,h2,h3,h4⟩:=hc i hi;exact⟨b,off,h1,hsz b h2 h3,(hk b h2 h3).1,λj hj=>by rw[hcell b _ h2 h3];exact h4 j hj⟩
 |fp cs b o us hb hA hl hc hr ih=>exact .fp cs b o us (hsz b hb hA) (hk b hb hA).1 hl (λj v hj=>by rw[hcell b _ hb hA];exact hc j v hj) ih
 |rp v k g h=>exact .rp v k g h
 |agg cs us hl hr ih=>exact .agg cs us hl ih
 |iL cs us hl hr ih=>exact .iL cs us hl ih
 |fn f cs us hl hr ih=>exact .fn f cs us hl ih
def bL(A:Nat->Prop)(w:World)(as0:aa AV)(us:aa Value):Prop:=us.length=as0.length/\∀(j:Nat) a v,as0[j]? =V a->us[j]? =V v->Rel A w a v
def bL.mono{A A':Nat->Prop}{w w':World}{as0:aa AV}{us:aa Value}(h:bL A w as0 us)(hk:∀b,b<w.heap.size->A b->A' b/\w'.heap[b]? =w.heap[b]?):bL A' w' as0 us:=⟨h.1,λj a v h1 h2=>(h.2 j a v h1 h2).mono hk⟩
def Rel.cK{A:Nat->Prop}{w:World}{u v:Value}(h:Rel A w (.lit u) v):v=u:=by
 generalize ha:bZ.lit u=a at h;cases h with
 |lit v=>cases ha;rfl
 |_=>cases ha
def Blk(w:World)(b:Nat)(cs:Array Value)(T:TypeId):Prop:=w.heap[b]? =V (.cells cs T (0,0))
def Blk.lt{w:World}{b:Nat}{cs:Array Value}{T:TypeId}(h:Blk w b cs T):b<w.heap.size:=(xE.1 h).1
def Blk.cell{w:World}{b:Nat}{cs:Array Value}{T:TypeId}(h:Blk w b cs T){i:Nat}{v:Value}(hv:cs[i]? =V v):w.cell? ⟨b,i,S⟩=V v:=by
 unfold Blk at h;simp[World.cell?,h,hv]
inductive cE:Type
 |box (b:Nat) (T:TypeId) (cs:List AV)
 |row (v:Value) (t:Nat) (l:List (U.dw t))
def cE.blk:cE->af Nat
 | .box b _ _=>V b
 | .row v _ _=>gG v
def cE.ok(A:Nat->Prop)(w:World):cE->Prop
 | .box b T cs=>∃us:aa Value,Blk w b us.toArray T/\bL A w cs us
 | .row v t l=>∃us:aa Value,gI w v t (U.sz t) l.length us/\(∀i,i<l.length->(U.cells t l[i]!).length=U.sz t)/\∀i,i<l.length->bL A w (U.cells t l[i]!) ((us.drop (i*U.sz t)).take (U.sz t))
def bF(σ:aa cE):aa Nat:=σ.filterMap cE.blk
def bU{σ:aa cE}{b:Nat}:b∈bF σ↔∃r∈σ,r.blk=V b:=by simp[bF]
def cE.ok.lt{A:Nat->Prop}{w:World}{r:cE}(h:r.ok A w){b:Nat}(hb:r.blk=V b):b<w.heap.size:=by
 cases r with
 |box b' T cs=>obtain⟨us,h1,_⟩:=h;cases hb;exact h1.lt
 |row v t l=>obtain⟨us,h1,_⟩:=h;exact h1.lt hb
def cE.ok.mono{A A':Nat->Prop}{w w':World}{r:cE}(h:r.ok A w)(hk:∀b,b<w.heap.size->A b->A' b/\w'.heap[b]? =w.heap[b]?)(hb:∀b,r.blk=V b->w'.heap[b]? =w.heap[b]?):r.ok A' w':=by
 cases r with
 |box b T cs=>
  obtain⟨us,h1,h2⟩:=h;exact⟨us,(hb b rfl).trans h1,h2.mono hk⟩
 |row v t l=>
  obtain⟨us,h1,h2,h3⟩:=h;exact⟨us,h1.kept hb,h2,λi h4=>(h3 i h4).mono hk⟩
structure Kp (X:List Nat) (w w':World):Prop where
 os:w'.os=w.os
 tape:w'.tape=w.tape
 output:w'.output=w.output
 drawn:w.drawn<=w'.drawn
 size:w.heap.size<=w'.heap.size
 block:∀k,k<w.heap.size->k∉X->w'.heap[k]? =w.heap[k]?
def Kp.refl(X:aa Nat)(w:World):Kp X w w:=⟨rfl,rfl,rfl,zo _,zo _,λ_ _ _=>rfl⟩
def Kp.trans{X Y:aa Nat}{w w1 w2:World}(h:Kp X w w1)(h':Kp Y w1 w2)(hY:∀b,b∈Y->b<w.heap.size->b∈X):Kp X w w2:=
 ⟨h'.os.trans h.os,h'.tape.trans h.tape,h'.output.trans h.output,zK h.drawn h'.drawn,zK h.size h'.size,λk hk hX=>
  (h'.block k (x8 hk h.size) (λhy=>hX (hY k hy hk))).trans (h.block k hk hX)⟩
def Kp.drew(w:World):Kp [] w w.drew:=⟨rfl,rfl,rfl,yf _,zo _,λ_ _ _=>rfl⟩
def Kp.below{w w':World}(h:Kp [] w w'):Below w.heap.size w w':=⟨h.os,h.tape,h.output,h.size,λk hk=>h.block k hk (by simp)⟩
structure Cx where
 w0:World
 A0:Nat->Prop
 O0:List Nat
def al(C:Cx)(σ:aa cE)(b:Nat):Prop:=(C.A0 b\/b∈C.O0\/C.w0.heap.size<=b)/\b∉bF σ
structure Good (C:Cx) (σ:List cE) (w:World):Prop where
 kept:Kp C.O0 C.w0 w
 res:∀r∈σ,r.ok (al C σ) w
 Gc:(bF σ).Nodup
 own:∀b∈bF σ,b∈C.O0\/C.w0.heap.size<=b
structure Tr (C:Cx) (X:List Nat) (σ:List cE) (w:World) (σ':List cE) (w':World):Prop where
 good:Good C σ' w'
 kp:Kp X w w'
 al:∀b,b<w.heap.size->al C σ b->al C σ' b/\b∉X
def Tr.keep{C:Cx}{X:aa Nat}{σ σ':aa cE}{w w':World}(t:Tr C X σ w σ' w'):∀b,b<w.heap.size->Iv.al C σ b->Iv.al C σ' b/\w'.heap[b]? =w.heap[b]? :=
 λb hb h=>⟨(t.al b hb h).1,t.kp.block b hb (t.al b hb h).2⟩
abbrev Env:=aa (Nat×AV)
def Env.get:Env->Nat->af AV
 |[],_=>S
 |(k,v)::E,t=>match zf k t with
  |true=>V v
  |false=>Env.get E t
def Env.ev(E:Env):Operand->af AV
 | .tmp t=>Env.get E t
 | .const v=>V (.lit v)
 | .global g=>V (.lit (.pointer (V ⟨g,0,S⟩)))
 | .func f=>V (.fn (.func f) [])
def Env.fh(E:Env)(d:Nat)(v:AV):Env.get ((d,v)::E) d=V v:=by
 have h:zf d d=O:=Nat.beq_refl d;simp only[Env.get,h]
def Env.dS(E:Env){d t:Nat}(v:AV)(h:d≠t):Env.get ((d,v)::E) t=Env.get E t:=by
 have h':zf d t=G:=by
  cases hb:zf d t with
  |false=>rfl
  |true=>exact dF (xg hb) h
 simp only[Env.get,h']
def lH(A:Nat->Prop)(w:World)(E:Env)(tmps:Array Value):Prop:=∀t av,Env.get E t=V av->∃v,tmps[t]? =V v/\Rel A w av v
def Dq(C:Cx)(σ:aa cE)(a:Act)(w:World):Prop:=∃Ds:aa Nat,a.defers=Ds.map (λD=>{target:= .collected D,args:=#[]})/\Ds.Nodup/\
 ∀D∈Ds,D<w.heap.size/\C.w0.heap.size<=D/\D∉bF σ/\w.heap[D]? =V (.deferred (V []))
def Dq.nil{C:Cx}{σ:aa cE}{a:Act}{w:World}(h:a.defers=[]):Dq C σ a w:=⟨[],h,List.nodup_nil,λ_ h=>by cases h⟩
def Dq.step{C:Cx}{σ σ':aa cE}{a:Act}{w w':World}(h:Dq C σ a w)(hk:∀b,b<w.heap.size->al C σ b->al C σ' b/\w'.heap[b]? =w.heap[b]?):Dq C σ' a w':=by
 obtain⟨Ds,h1,h2,h3⟩:=h;refine⟨Ds,h1,h2,λD hD=> ?_⟩;obtain⟨q1,q2,q3,q4⟩:=h3 D hD;obtain⟨p1,p2⟩:=hk D q1 ⟨.inr (.inr q2),q3⟩;have p3:=p2.trans q4;exact⟨(xE.1 p3).1,q2,p1.2,p3⟩
structure tF (C:Cx) (n:Nat) (E:Env) (σ:List cE) (a:Act) (w:World):Prop where
 defers:Dq C σ a w
 size:a.tmps.size=n
 slots:lH (al C σ) w E a.tmps
 good:Good C σ w
def NT(A:Nat->Prop)(w:World)(E:Env)(ρ:Operand->Value):Prop:=∀x u,E.ev x=V u->Rel A w u (ρ x)
section
variable {C:Cx} {n:Nat} {E E':Env} {σ σ':aa cE} {a:Act} {w w':World} {x:Operand} {v:Value} {av:AV} {d:Nat} {A:Nat->Prop}
def lH.ops(h:lH A w E a.tmps):NT A w E a.eval:=λx u hx=>by
 cases x with
 |tmp t=>
  obtain⟨v,h1,h2⟩:=h t u hx;simpa [Act.eval,h1]using h2
 |const u=>
  simp only[Env.ev,zA.injEq]at hx;subst hx;exact .lit _
 |global g=>
  simp only[Env.ev,zA.injEq]at hx;subst hx;exact .lit _
 |func f=>
  simp only[Env.ev,zA.injEq]at hx;subst hx;exact .fn _ [] [] rfl (λj a v h=>by cases h)
def lH.put(h:lH A w E a.tmps)(hd:d<a.tmps.size)(hv:Rel A w av v):lH A w ((d,av)::E) (a.put (V d) v).tmps:=λt u ht=>by
 by_cases hdt:d=t
 ·subst hdt;rw[Env.fh]at ht;cases ht;exact⟨v,by simp[Act.put,hd],hv⟩
 ·rw[Env.dS _ _ hdt]at ht;obtain⟨v',h1,h2⟩:=h t u ht;exact⟨v',by simp[Act.put,Array.getElem?_setIfInBounds_ne hdt,h1],h2⟩
def tF.put(h:tF C n E σ a w)(hd:zG d n=O)(hv:Rel (al C σ) w av v):tF C n ((d,av)::E) σ (a.put (V d) v) w:=
 ⟨h.defers,by simpa [Act.put]using h.size,h.slots.put (by rw[h.size];simpa [yA]using hd) hv,h.good⟩
def tF.tr{X:aa Nat}(h:tF C n E σ a w)(t:Tr C X σ w σ' w'):tF C n E σ' a w':=
 ⟨h.defers.step t.keep,h.size,λi u hi=>let ⟨v,h1,h2⟩:=h.slots i u hi;⟨v,h1,h2.mono t.keep⟩,t.good⟩
end
def Hd(A:Nat->Prop)(σ:aa cE)(w:World):Prop:=(∀r∈σ,r.ok A w)/\∀b∈bF σ,¬A b
def Good.hd{C:Cx}{σ:aa cE}{w:World}(h:Good C σ w):Hd (al C σ) σ w:=⟨h.res,λ_ hb hA=>hA.2 hb⟩
section
variable (P:Program) (E:Env) (σ:aa cE) (o:Oper)
def Yp(av:AV):Prop:=∀(A:Nat->Prop) (w:World) (ρ:Operand->Value),Hd A σ w->NT A w E ρ->
 ∃v,Rel A w av v/\∀w':World,(∀b,b<w.heap.size->(A b\/b∈bF σ)->w'.heap[b]? =w.heap[b]?)->(execOp ρ o).run P w'= .ok (.value v) w'
def Yv(C:Cx)(X:aa Nat)(N:AV->aa cE->Prop):Prop:=∀(w:World) (ρ:Operand->Value),Good C σ w->NT (al C σ) w E ρ->
 ∃v w' av σ',N av σ'/\Tr C X σ w σ' w'/\(execOp ρ o).run P w= .ok (.value v) w'/\Rel (al C σ') w' av v
def Yu(C:Cx)(X:aa Nat)(σ':aa cE):Prop:=∀(w:World) (ρ:Operand->Value),Good C σ w->NT (al C σ) w E ρ->
 ∃w',Tr C X σ w σ' w'/\(execOp ρ o).run P w= .ok .skip w'
def Yc(C:Cx)(X:aa Nat)(N:AV->aa cE->Prop):Prop:=∀(w:World) (ρ:Operand->Value),Good C σ w->NT (al C σ) w E ρ->
 ∃f args,(execOp ρ o).run P w= .ok (.enter f args) w/\Calls P f args w λe w'=>∃v av σ',e= .returned v/\N av σ'/\Tr C X σ w σ' w'/\Rel (al C σ') w' av v
def o9(ops:Array Oper):af Bool:=
 match o.guard with
 |none=>V O
 |some (j,want)=>match (ops[j]?).bind (·.dst)with
  |none=>S
  |some t=>match Env.get E t with
   |some (.lit (.bool b))=>V (b==want)
   |some (.lit (.tuple _))=>V G
   |_=>S
end
def o9.spec{A:Nat->Prop}{w:World}{E:Env}{o:Oper}{ops:Array Oper}{tmps:Array Value}{b:Bool}(h:lH A w E tmps)(hw:o9 E o ops=V b):Region.wanted o (yielded ops tmps)=b:=by
 unfold o9 at hw;unfold Region.wanted;cases hg:o.guard with
 |none=>rw[hg]at hw;simpa using hw
 |some gw=>
  obtain⟨j,want⟩:=gw;rw[hg]at hw;simp only at hw ⊢;cases ht:(ops[j]?).bind (·.dst)with
  |none=>rw[ht]at hw;cases hw
  |some t=>
   rw[ht]at hw;simp only at hw;cases he:Env.get E t with
   |none=>rw[he]at hw;cases hw
   |some u=>
    obtain⟨v,hv,hr⟩:=h t u he;rw[he]at hw;have hy:yielded ops tmps j=match v with| .bool b=>V b|_=>S:=by
     unfold yielded;rw[ht];simp only[Option.bind_some,hv];cases v<;>rfl
    cases u with
    |lit u=>
     have hvu:=hr.cK;subst hvu;cases v<;>simp only at hw hy<;>first|(cases hw;done)|skip
     ·rw[hy];simpa using hw
     ·rw[hy];simp at hw;simp[<-hw]
    |_=>cases hw
def Q1(C:Cx)(n:Nat)(K:Env->aa cE->Prop)(ds:aa Deferred):Exit->Act->World->Prop:=λe a w=>e= .normal/\a.defers=ds/\∃E σ,tF C n E σ a w/\K E σ
section
variable {P:Program} {C:Cx} {n:Nat} {ops:Array Oper} {K:Env->aa cE->Prop} {rest:aa Oper} {E E':Env} {σ σ':aa cE} {o:Oper} {av:AV} {d:Nat} {X:aa Nat} {N:AV->aa cE->Prop}
end
structure Bs (X:List Nat) (A1:Nat->Prop) (w1:World) (σS:List cE):Prop where
 hd:Hd A1 σS w1
 nA:∀b,A1 b->b∉X
 nS:∀b∈bF σS,b∉X
def S1(X:aa Nat)(w1 w:World):Prop:=w1.heap.size<=w.heap.size/\∀b,b<w1.heap.size->b∉X->w.heap[b]? =w1.heap[b]?
section
variable {P:Program} {C:Cx} {n:Nat} {ops:Array Oper} {X X':aa Nat} {A1:Nat->Prop} {w1:World} {σS:aa cE} {K:Env->aa cE->Prop} {fuel:Nat} {listed:Array Bool} {i:Nat} {Eb E:Env} {σ σ':aa cE} {o:Oper} {av:AV} {d:Nat} {N:AV->aa cE->Prop}
end
def CW(P:Program)(C:Cx)(n:Nat)(c:Code)(Q:Exit->Env->aa cE->Prop)(E:Env)(σ:aa cE):Prop:=
 ∀a w,tF C n E σ a w->c.wp P (λe a' w'=>∃E' σ',tF C n E' σ' a' w'/\Q e E' σ') a w
section
variable {P:Program} {C:Cx} {n:Nat} {c x y:Code} {Q Q':Exit->Env->aa cE->Prop} {E E':Env} {σ σ':aa cE}
def Se{a:Act}{w:World}{cnd:Operand}{b:Bool}(ha:tF C n E σ a w)(hc:E.ev cnd=V (.lit (.bool b))):a.eval cnd= .bool b:=by
 exact(ha.slots.ops _ _ hc).cK
def Good.drew{w:World}(h:Good C σ w):Good C σ w.drew:=
 ⟨h.kept.trans (Kp.drew w) (by simp),λr hr=>(h.res r hr).mono (λb _ hA=>⟨hA,rfl⟩) (λ_ _=>rfl),h.Gc,h.own⟩
def tF.drew{a:Act}{w:World}(h:tF C n E σ a w):tF C n E σ a w.drew:=
 ⟨h.defers,h.size,λi u hi=>let ⟨v,h1,h2⟩:=h.slots i u hi;⟨v,h1,h2.mono λ_ _ hA=>⟨hA,rfl⟩⟩,h.good.drew⟩
def pN{σ σ':aa cE}(h:∀r∈σ',r∈σ):∀b∈bF σ',b∈bF σ:=λb hb=>by
 obtain⟨r,h1,h2⟩:=bU.1 hb;exact bU.2 ⟨r,h r h1,h2⟩
def tF.less{a:Act}{w:World}(h:tF C n E σ a w)(hs:List.Sublist σ' σ):tF C n E σ' a w:=by
 have hm:∀r∈σ',r∈σ:=λr hr=>hs.subset hr;have hal:∀b,al C σ b->al C σ' b:=λb hb=>⟨hb.1,λhx=>hb.2 (pN hm b hx)⟩;exact⟨h.defers.step (λb _ hA=>⟨hal b hA,rfl⟩),h.size,λi u hi=>let ⟨v,h1,h2⟩:=h.slots i u hi;⟨v,h1,h2.mono λb _ hA=>⟨hal b hA,rfl⟩⟩,
  ⟨h.good.kept,λr hr=>(h.good.res r (hm r hr)).mono (λb _ hA=>⟨hal b hA,rfl⟩) (λ_ _=>rfl),h.good.Gc.sublist (hs.filterMap _),λb hb=>h.good.own b (pN hm b hb)⟩⟩
def tF.perm{a:Act}{w:World}(h:tF C n E σ a w)(hp:List.Perm σ σ'):tF C n E σ' a w:=by
 have hb:∀b,b∈bF σ'↔b∈bF σ:=λb=>(hp.filterMap _).symm.mem_iff;have hal:∀b,al C σ b->al C σ' b:=λb hA=>⟨hA.1,λhx=>hA.2 ((hb b).1 hx)⟩;exact⟨h.defers.step (λb _ hA=>⟨hal b hA,rfl⟩),h.size,λi u hi=>let ⟨v,h1,h2⟩:=h.slots i u hi;⟨v,h1,h2.mono λb _ hA=>⟨hal b hA,rfl⟩⟩,
  ⟨h.good.kept,λr hr=>(h.good.res r (hp.mem_iff.2 hr)).mono (λb _ hA=>⟨hal b hA,rfl⟩) (λ_ _=>rfl),(hp.filterMap _).nodup_iff.1 h.good.Gc,λb hx=>h.good.own b ((hb b).1 hx)⟩⟩
end
end Go.Iv
end
noncomputable section
namespace Go.Iv
variable [U:ru]
open Go Go.RowKit
def td(k:IntKind)(x y:Int):Int:=k.wrap ((BitVec.ofInt k.bits x&&&BitVec.ofInt k.bits y).toNat)
def bOr(k:IntKind)(x y:Int):Int:=k.wrap ((BitVec.ofInt k.bits x|||BitVec.ofInt k.bits y).toNat)
def aql(k:IntKind)(x y:Int):Int:=k.wrap ((BitVec.ofInt k.bits x^^^BitVec.ofInt k.bits y).toNat)
def apI(k:IntKind)(x y:Int):Int:=k.wrap ((BitVec.ofInt k.bits x&&& ~~~ BitVec.ofInt k.bits y).toNat)
def mz(k:IntKind)(x y:Int):Int:=k.wrap (x*2^(min y.toNat k.bits))
def cL(k:IntKind)(x y:Int):Int:=x.fdiv (2^(min y.toNat k.bits))
abbrev bZ.i{dw:Nat->Type}(n:Int):bZ dw:= .lit (.int .i64 n)
abbrev bZ.n{dw:Nat->Type}(k:IntKind)(n:Int):bZ dw:= .lit (.int k n)
abbrev bZ.b{dw:Nat->Type}(b:Bool):bZ dw:= .lit (.bool b)
abbrev bZ.s{dw:Nat->Type}(s:ByteArray):bZ dw:= .lit (.string s)
section
variable {A:Nat->Prop} {w:World} {as0 bs:aa AV} {us vs:aa Value} {a:AV} {v:Value}
def bL.nil:bL A w [] []:=⟨rfl,λj a v h=>by cases h⟩
def bL.cons(h:Rel A w a v)(hs:bL A w as0 us):bL A w (a::as0) (v::us):=by
 refine⟨by simp[hs.1],λj x y h1 h2=> ?_⟩;cases j with
 |zero=>simp at h1 h2;subst h1 h2;exact h
 |succ j=>exact hs.2 j x y (by simpa using h1) (by simpa using h2)
def bL.head(h:bL A w (a::as0) us):∃v us',us=v::us'/\Rel A w a v/\bL A w as0 us':=by
 match us,h with
 |[],h=>exact dF h.1 (by simp)
 |v::us',h=>exact⟨v,us',rfl,h.2 0 a v rfl rfl,by simpa using h.1,λj x y h1 h2=>h.2 (j+1) x y (by simpa using h1) (by simpa using h2)⟩
def bL.app(h:bL A w as0 us)(h':bL A w bs vs):bL A w (as0++bs) (us++vs):=by
 refine⟨by simp[h.1,h'.1],λj x y h1 h2=> ?_⟩;rw[xh]at h1 h2;rw[h.1]at h2;split at h1
 ·rw[bG (by assumption)]at h2;exact h.2 j x y h1 h2
 ·rw[bP (by assumption)]at h2;exact h'.2 _ x y h1 h2
def bL.take(n:Nat)(h:bL A w as0 us):bL A w (as0.take n) (us.take n):=by
 refine⟨by simp[h.1],λj x y h1 h2=> ?_⟩;rw[yE]at h1 h2;split at h1
 ·rw[bG (by assumption)]at h2;exact h.2 j x y h1 h2
 ·cases h1
def bL.drop(n:Nat)(h:bL A w as0 us):bL A w (as0.drop n) (us.drop n):=by
 refine⟨by simp[h.1],λj x y h1 h2=> ?_⟩;rw[yB]at h1 h2;exact h.2 _ x y h1 h2
def bL.get(h:bL A w as0 us){j:Nat}(hj:as0[j]? =V a):∃v,us[j]? =V v/\Rel A w a v:=by
 have hlt:j<us.length:=by rw[h.1];exact(z7.1 hj).1
 exact⟨us[j],zu hlt,h.2 j a _ hj (zu hlt)⟩
def bL.lits(us:aa Value):bL A w (us.map .lit) us:=⟨by simp,λj a v h1 h2=>by
 rw[ya,h2]at h1;cases h1;exact .lit v⟩
def Rel.oM{cs:aa AV}(h:bL A w cs us):Rel A w (.agg cs) (.agg us.toArray):= .agg cs us h.1 h.2
def Rel.FO{cs:aa AV}(h:bL A w cs us):Rel A w (.iL cs) (.tuple us.toArray):= .iL cs us h.1 h.2
end
section
variable {A:Nat->Prop} {w:World} {v:Value} {cs:aa AV}
def Rel.nP(h:Rel A w (.agg cs) v):∃us:aa Value,v= .agg us.toArray/\bL A w cs us:=by
 generalize ha:bZ.agg cs=a at h;cases h with
 |agg cs us hl hr=>cases ha;exact⟨us,rfl,hl,hr⟩
 |_=>cases ha
def Rel.Pq(h:Rel A w (.iL cs) v):∃us:aa Value,v= .tuple us.toArray/\bL A w cs us:=by
 generalize ha:bZ.iL cs=a at h;cases h with
 |iL cs us hl hr=>cases ha;exact⟨us,rfl,hl,hr⟩
 |_=>cases ha
def Rel.Xn{f:Fn}(h:Rel A w (.fn f cs) v):∃us:aa Value,v= .func f #[] us.toArray/\bL A w cs us:=by
 generalize ha:bZ.fn f cs=a at h;cases h with
 |fn f cs us hl hr=>cases ha;exact⟨us,rfl,hl,hr⟩
 |_=>cases ha
def Rel.EL(h:Rel A w (.fp cs) v):∃b o us,v= .pointer (V ⟨b,o,S⟩)/\b<w.heap.size/\A b/\(∀(j:Nat) u,us[j]? =V u->w.cell? ⟨b,o+j,S⟩=V u)/\bL A w cs us:=by
 generalize ha:bZ.fp cs=a at h;cases h with
 |fp cs b o us hb hA hl hc hr=>cases ha;exact⟨b,o,us,rfl,hb,hA,hc,hl,hr⟩
 |_=>cases ha
def Rel.F9{u:Value}{k:Nat}(h:Rel A w (.rp u k) v):∃g,gG u=V g/\v= .pointer (V ⟨g,k,S⟩):=by
 generalize ha:bZ.rp u k=a at h;cases h with
 |rp u k g h=>cases ha;exact⟨g,h,rfl⟩
 |_=>cases ha
def Rel.uF{q:Nat}{l:aa (U.dw q)}(h:Rel A w (.sl q l) v):∃p cap,∃u:Nat->Nat->Value,v= .slice p l.length cap/\l.length<=9223372036854775807/\l.length<=cap/\(∀i,i<l.length->(U.cells q l[i]!).length=(U.sz q))/\
  (∀i,i<l.length->∃b off,p=V ⟨b,off,S⟩/\b<w.heap.size/\A b/\∀j,j<(U.sz q)->w.cell? ⟨b,off+i*(U.sz q)+j,S⟩=V (u i j))/\∀i j a,i<l.length->(U.cells q l[i]!)[j]? =V a->Rel A w a (u i j):=by
 generalize ha:bZ.sl q l=a at h;cases h with
 |sl q l p cap u hl hcap hz hc hr=>
  cases ha;exact⟨p,cap,u,rfl,hl,hcap,hz,hc,hr⟩
 |_=>cases ha
def Rel.aDV{q:Nat}{l:aa (U.dw q)}{p:af Addr}{n cap:Nat}(h:Rel A w (.sl q l) (.slice p n cap)){i:Nat}(hi:i<l.length):
  ∃b off us,p=V ⟨b,off,S⟩/\b<w.heap.size/\A b/\us.length=(U.sz q)/\(∀(j:Nat) u,us[j]? =V u->w.cell? ⟨b,off+i*(U.sz q)+j,S⟩=V u)/\bL A w (U.cells q l[i]!) us:=by
 obtain⟨p',cap',u,hv,_,_,h1,h2,h3⟩:=h.uF;cases hv;obtain⟨b,off,hp,hb,hA,hc⟩:=h2 i hi;refine⟨b,off,(zM (U.sz q)).map (u i),hp,hb,hA,by simp,λj v hj=> ?_,by rw[zx,xF,h1 i hi],λj a v ha hv=> ?_⟩
 ·rw[ya]at hj;by_cases hlt:j<(U.sz q)
  ·rw[List.getElem?_range hlt]at hj;cases hj;exact hc j hlt
  ·rw[x9 (by simpa using hlt)]at hj;cases hj
 ·have hlt:j<(U.sz q):=by rw[<-h1 i hi];exact(z7.1 ha).1
  rw[ya,List.getElem?_range hlt]at hv;cases hv;exact h3 i j a hi ha
end
def gI.len{w:World}{v:Value}{T:TypeId}{sz n:Nat}{us:aa Value}(h:gI w v T sz n us):∃p cap,v= .slice p n cap/\n<=cap:=by
 rcases h.2 with ⟨p,rfl,rfl⟩|⟨g,cap,cur,rfl,hg,h1,_⟩
 ·exact⟨p,0,rfl,zo _⟩
 ·exact⟨_,_,rfl,h1⟩
def gI.at{w:World}{v:Value}{T:TypeId}{sz n:Nat}{us:aa Value}(h:gI w v T sz n us)(hn:0<n):∃g cap cur,v= .slice (V ⟨g,0,S⟩) n (cap+1)/\gG v=V g/\Blk w g cur T/\n<=cap+1/\cap+1<=maxLen/\cur.size=(cap+1)*sz/\cur.toList.take (n*sz)=us:=by
 rcases h.2 with ⟨p,rfl,rfl⟩|⟨g,cap,cur,rfl,hg,h1⟩
 ·cases hn
 ·exact⟨g,cap,cur,rfl,rfl,hg,h1⟩
def gI.cells{w:World}{v:Value}{T:TypeId}{sz n:Nat}{us:aa Value}(h:gI w v T sz n us){g:Nat}(hg:gG v=V g):∀(j:Nat) u,us[j]? =V u->w.cell? ⟨g,j,S⟩=V u:=λj u hj=>by
 rcases h.2 with ⟨p,rfl,rfl⟩|⟨g',cap,cur,rfl,q1,_,_,_,q2⟩
 ·cases p<;>cases hg
 ·cases hg;rw[<-q2,yE]at hj;split at hj
  ·exact Blk.cell q1 (by simpa using hj)
  ·cases hj
def Env.KI(E:Env):aa Operand->af (aa AV)
 |[]=>V []
 |x::xs=>match E.ev x,Env.KI E xs with
  |some a,V as0=>V (a::as0)
  |_,_=>S
def Env.Jh{A:Nat->Prop}{w:World}{E:Env}{ρ:Operand->Value}(h:NT A w E ρ):∀{xs:aa Operand} {as0:aa AV},E.KI xs=V as0->bL A w as0 (xs.map ρ)
 |[],as0,he=>by cases he;exact bL.nil
 |x::xs,as0,he=>by
  unfold Env.KI at he;cases h1:E.ev x with
  |none=>rw[h1]at he;cases he
  |some a=>
   cases h2:E.KI xs with
   |none=>rw[h1,h2]at he;cases he
   |some as'=>
    rw[h1,h2]at he;cases he;exact bL.cons (h x a h1) (Env.Jh h h2)
section
variable {P:Program} {E:Env} {σ:aa cE} {o:Oper} {T T' e:TypeId} {x y z:Operand} {av bv:AV} {v u:Value} {m n:Int} {b:Bool} {k:IntKind}
def Yp.lits(h:∀ρ:Operand->Value,(∀x u,E.ev x=V (.lit u)->ρ x=u)->∀w,(execOp ρ o).run P w= .ok (.value v) w):Yp P E σ o (.lit v):=λA w ρ _ hρ=>
 ⟨v, .lit v,λw' _=>h ρ (λx u hx=>(hρ x _ hx).cK) w'⟩
def Yp.move(ho:o.op= .move x)(hx:E.ev x=V av):Yp P E σ o av:=λA w ρ _ hρ=>
 ⟨ρ x,hρ _ _ hx,λw' _=>by simp[execOp,ho]⟩
def Yp.assign(ho:o.op= .assign x)(hx:E.ev x=V av):Yp P E σ o av:=λA w ρ _ hρ=>
 ⟨ρ x,hρ _ _ hx,λw' _=>by simp[execOp,ho]⟩
def Yp.awn(ho:o.op= .pick z x y)(hc:E.ev z=V (.b O))(hx:E.ev x=V av):Yp P E σ o av:=λA w ρ _ hρ=>
 ⟨ρ x,hρ _ _ hx,λw' _=>by simp[execOp,ho,(hρ _ _ hc).cK,asBool]⟩
def Yp.as8(ho:o.op= .pick z x y)(hc:E.ev z=V (.b G))(hx:E.ev y=V av):Yp P E σ o av:=λA w ρ _ hρ=>
 ⟨ρ y,hρ _ _ hx,λw' _=>by simp[execOp,ho,(hρ _ _ hc).cK,asBool]⟩
def Yp.add(ho:o.op= .binOp .add T x y T')(hx:E.ev x=V (.n k m))(hy:E.ev y=V (.n k n)):Yp P E σ o (.n k (k.wrap (m+n))):=Yp.lits λρ hρ w=>by
 simp[execOp,ho,hρ _ _ hx,hρ _ _ hy,eqGuard,binOp,Op.intArith]
def Yp.sub(ho:o.op= .binOp .sub T x y T')(hx:E.ev x=V (.n k m))(hy:E.ev y=V (.n k n)):Yp P E σ o (.n k (k.wrap (m-n))):=Yp.lits λρ hρ w=>by
 simp[execOp,ho,hρ _ _ hx,hρ _ _ hy,eqGuard,binOp,Op.intArith]
def Yp.mul(ho:o.op= .binOp .mul T x y T')(hx:E.ev x=V (.n k m))(hy:E.ev y=V (.n k n)):Yp P E σ o (.n k (k.wrap (m*n))):=Yp.lits λρ hρ w=>by
 simp[execOp,ho,hρ _ _ hx,hρ _ _ hy,eqGuard,binOp,Op.intArith]
def Yp.quo(ho:o.op= .binOp .quo T x y T')(hx:E.ev x=V (.n k m))(hy:E.ev y=V (.n k n))(h:n≠0):Yp P E σ o (.n k (k.wrap (m.tdiv n))):=Yp.lits λρ hρ w=>by
 simp[execOp,ho,hρ _ _ hx,hρ _ _ hy,eqGuard,binOp,Op.intDiv,h]
def Yp.rem(ho:o.op= .binOp .rem T x y T')(hx:E.ev x=V (.n k m))(hy:E.ev y=V (.n k n))(h:n≠0):Yp P E σ o (.n k (m.tmod n)):=Yp.lits λρ hρ w=>by
 simp[execOp,ho,hρ _ _ hx,hρ _ _ hy,eqGuard,binOp,Op.intDiv,h]
def Yp.and(ho:o.op= .binOp .and T x y T')(hx:E.ev x=V (.n k m))(hy:E.ev y=V (.n k n)):Yp P E σ o (.n k (td k m n)):=Yp.lits λρ hρ w=>by
 simp[execOp,ho,hρ _ _ hx,hρ _ _ hy,eqGuard,binOp,Op.intBits,td]
def Yp.or(ho:o.op= .binOp .or T x y T')(hx:E.ev x=V (.n k m))(hy:E.ev y=V (.n k n)):Yp P E σ o (.n k (bOr k m n)):=Yp.lits λρ hρ w=>by
 simp[execOp,ho,hρ _ _ hx,hρ _ _ hy,eqGuard,binOp,Op.intBits,bOr]
def Yp.xor(ho:o.op= .binOp .xor T x y T')(hx:E.ev x=V (.n k m))(hy:E.ev y=V (.n k n)):Yp P E σ o (.n k (aql k m n)):=Yp.lits λρ hρ w=>by
 simp[execOp,ho,hρ _ _ hx,hρ _ _ hy,eqGuard,binOp,Op.intBits,aql]
def Yp.andNot(ho:o.op= .binOp .andNot T x y T')(hx:E.ev x=V (.n k m))(hy:E.ev y=V (.n k n)):Yp P E σ o (.n k (apI k m n)):=Yp.lits λρ hρ w=>by
 simp[execOp,ho,hρ _ _ hx,hρ _ _ hy,eqGuard,binOp,Op.intBits,apI]
def Yp.shl{k':IntKind}(ho:o.op= .binOp .shl T x y T')(hx:E.ev x=V (.n k m))(hy:E.ev y=V (.n k' n))(h:0<=n):Yp P E σ o (.n k (mz k m n)):=Yp.lits λρ hρ w=>by
 have:¬n<0:=by omega
 simp[execOp,ho,hρ _ _ hx,hρ _ _ hy,eqGuard,binOp,Op.shift,mz,this]
def Yp.shr{k':IntKind}(ho:o.op= .binOp .shr T x y T')(hx:E.ev x=V (.n k m))(hy:E.ev y=V (.n k' n))(h:0<=n):Yp P E σ o (.n k (cL k m n)):=Yp.lits λρ hρ w=>by
 have:¬n<0:=by omega
 simp[execOp,ho,hρ _ _ hx,hρ _ _ hy,eqGuard,binOp,Op.shift,cL,this]
def Yp.lss(ho:o.op= .binOp .lss T x y T')(hx:E.ev x=V (.n k m))(hy:E.ev y=V (.n k n)):Yp P E σ o (.b (J (m<n))):=Yp.lits λρ hρ w=>by
 simp[execOp,ho,hρ _ _ hx,hρ _ _ hy,eqGuard,binOp,Op.intCmp]
def Yp.leq(ho:o.op= .binOp .leq T x y T')(hx:E.ev x=V (.n k m))(hy:E.ev y=V (.n k n)):Yp P E σ o (.b (J (m<=n))):=Yp.lits λρ hρ w=>by
 simp[execOp,ho,hρ _ _ hx,hρ _ _ hy,eqGuard,binOp,Op.intCmp]
def Yp.gtr(ho:o.op= .binOp .gtr T x y T')(hx:E.ev x=V (.n k m))(hy:E.ev y=V (.n k n)):Yp P E σ o (.b (J (n<m))):=Yp.lits λρ hρ w=>by
 simp[execOp,ho,hρ _ _ hx,hρ _ _ hy,eqGuard,binOp,Op.intCmp]
def Yp.geq(ho:o.op= .binOp .geq T x y T')(hx:E.ev x=V (.n k m))(hy:E.ev y=V (.n k n)):Yp P E σ o (.b (J (n<=m))):=Yp.lits λρ hρ w=>by
 simp[execOp,ho,hρ _ _ hx,hρ _ _ hy,eqGuard,binOp,Op.intCmp]
def Yp.eql(ho:o.op= .binOp .eql T x y T')(hx:E.ev x=V (.n k m))(hy:E.ev y=V (.n k n)):Yp P E σ o (.b (J (m=n))):=Yp.lits λρ hρ w=>by
 have:(m==n)=J (m=n):=rfl;simp[execOp,ho,hρ _ _ hx,hρ _ _ hy,eqGuard,binOp,Op.intCmp,this]
def Yp.neq(ho:o.op= .binOp .neq T x y T')(hx:E.ev x=V (.n k m))(hy:E.ev y=V (.n k n)):Yp P E σ o (.b (!J (m=n))):=Yp.lits λρ hρ w=>by
 have:(m !=n)= !J (m=n):=rfl;simp[execOp,ho,hρ _ _ hx,hρ _ _ hy,eqGuard,binOp,Op.intCmp,this]
def Yp.not(ho:o.op= .unOp .not T x)(hx:E.ev x=V (.b b)):Yp P E σ o (.b (!b)):=Yp.lits λρ hρ w=>by
 simp[execOp,ho,hρ _ _ hx,Op.unary]
def Yp.neg(ho:o.op= .unOp .neg T x)(hx:E.ev x=V (.n k n)):Yp P E σ o (.n k (k.wrap (0-n))):=Yp.lits λρ hρ w=>by
 simp[execOp,ho,hρ _ _ hx,Op.unary,Op.intArith]
def Yp.max(ho:o.op= .call {callee:= .builtin .max,args:=#[x,y],argTypes:=#[T,T']})(hx:E.ev x=V (.n k m))(hy:E.ev y=V (.n k n)):Yp P E σ o (.n k (if m<n then n else m)):=Yp.lits λρ hρ w=>by
 simp[execOp,ho,resolve,invoke,builtin,Builtin.max_,Builtin.max2,hρ _ _ hx,hρ _ _ hy]
def Yp.min(ho:o.op= .call {callee:= .builtin .min,args:=#[x,y],argTypes:=#[T,T']})(hx:E.ev x=V (.n k m))(hy:E.ev y=V (.n k n)):Yp P E σ o (.n k (if n<m then n else m)):=Yp.lits λρ hρ w=>by
 simp[execOp,ho,resolve,invoke,builtin,Builtin.min_,Builtin.min2,hρ _ _ hx,hρ _ _ hy]
def Yp.aqO(ho:o.op= .call {callee:= .builtin .len,args:=#[x],argTypes:=#[T]})(hx:E.ev x=V (.lit (.slice S 0 0)))(hT:P.underlying T=V (.slice e)):Yp P E σ o (.i 0):=Yp.lits λρ hρ w=>by
 simp[execOp,ho,resolve,invoke,builtin,Builtin.len_,hρ _ _ hx,run_underlying hT,goInt]
def Yp.axY{q:Nat}{l:aa (U.dw q)}(ho:o.op= .call {callee:= .builtin .len,args:=#[x],argTypes:=#[T]})(hx:E.ev x=V (.sl q l))(hT:P.underlying T=V (.slice e)):Yp P E σ o (.i (l.length:Int)):=λA w ρ _ hρ=>by
 obtain⟨p,cap,u,hv,_⟩:=(hρ _ _ hx).uF;exact⟨_, .lit _,λw' _=>by simp[execOp,ho,resolve,invoke,builtin,Builtin.len_,hv,run_underlying hT,goInt]⟩
def Yp.ar3{q:Nat}{l:aa (U.dw q)}(i:Nat)(ho:o.op= .call {callee:= .builtin .len,args:=#[x],argTypes:=#[T]})(hx:E.ev x=V (.lit v))(hσ:σ[i]? =V (.row v q l))(hT:P.underlying T=V (.slice e)):Yp P E σ o (.i (l.length:Int)):=λA w ρ hd hρ=>by
 obtain⟨us,h1,_⟩:=hd.1 _ (List.mem_of_getElem? hσ);obtain⟨p,cap,hv,_⟩:=h1.len;have hx':=(hρ _ _ hx).cK;exact⟨_, .lit _,λw' _=>by simp[execOp,ho,resolve,invoke,builtin,Builtin.len_,hx',hv,run_underlying hT,goInt]⟩
def Yp.apx{s:ByteArray}(ho:o.op= .call {callee:= .builtin .len,args:=#[x],argTypes:=#[T]})(hx:E.ev x=V (.s s))(hT:P.underlying T=V .string):Yp P E σ o (.i (s.size:Int)):=Yp.lits λρ hρ w=>by
 simp[execOp,ho,resolve,invoke,builtin,Builtin.len_,hρ _ _ hx,goInt,run_underlying hT]
def Yp.func{fn:Fn}{fs cs:Array Operand}{as0:aa AV}(ho:o.op= .makeFunc fn fs cs)(h0:fs=#[])(hc:E.KI cs.toList=V as0):Yp P E σ o (.fn fn as0):=λA w ρ _ hρ=>by
 have h:=Env.Jh hρ hc;exact⟨_, .fn fn as0 _ h.1 h.2,λw' _=>by
  have:cs.map ρ=(cs.toList.map ρ).toArray:=by apply Array.ext';simp
  simp[execOp,ho,Instr.makeFunc,h0,this]⟩
def Yp.extract{i:Nat}{cs:aa AV}(ho:o.op= .extract x i)(hx:E.ev x=V (.iL cs))(hv:cs[i]? =V av):Yp P E σ o av:=λA w ρ _ hρ=>by
 obtain⟨us,h1,h2⟩:=(hρ _ _ hx).Pq;obtain⟨v,h3,h4⟩:=h2.get hv;exact⟨v,h4,λw' _=>by simp[execOp,ho,Instr.extract,h1,h3]⟩
def Yp.VC{a:Addr}(ho:o.op= .nilCheck x)(hx:E.ev x=V (.lit (.pointer (V a)))):Yp P E σ o (.lit (.pointer (V a))):=Yp.lits λρ hρ w=>by
 simp[execOp,ho,hρ _ _ hx]
def Yp.V6{cs:aa AV}(ho:o.op= .nilCheck x)(hx:E.ev x=V (.fp cs)):Yp P E σ o (.fp cs):=λA w ρ _ hρ=>by
 obtain⟨b,of,us,h1,_⟩:=(hρ _ _ hx).EL;exact⟨ρ x,hρ _ _ hx,λw' _=>by simp[execOp,ho,h1]⟩
def Yp.VY{k:Nat}(ho:o.op= .nilCheck x)(hx:E.ev x=V (.rp v k)):Yp P E σ o (.rp v k):=λA w ρ _ hρ=>by
 obtain⟨g,_,h1⟩:=(hρ _ _ hx).F9;exact⟨ρ x,hρ _ _ hx,λw' _=>by simp[execOp,ho,h1]⟩
def pI(b of k:Nat):(⟨b,of,S⟩:Addr).add k=⟨b,of+k,S⟩:=by unfold Addr.add;split<;>simp_all
def Yp.aqd{fs:Array Field}{f:Field}{i b' of sz:Nat}(ho:o.op= .fieldAddr T x i)(hx:E.ev x=V (.lit (.pointer (V ⟨b',of,S⟩))))(hT:P.underlying T=V (.struct fs))(hf:fs[i]? =V f)(hs:(P.info? f.type).map (·.size)=V (sz+1)):
  Yp P E σ o (.lit (.pointer (V ⟨b',of+f.offset,S⟩))):=Yp.lits λρ hρ w=>by
 obtain⟨j,hj,hj'⟩:=zj.1 hs;simp[execOp,ho,Instr.fieldAt,hρ _ _ hx,run_underlying hT,hf,Instr.sureAddr,fieldPlace,sizeOf,typeInfo,hj,hj',pI]
def Yp.aq5{fs:Array Field}{f:Field}{i sz:Nat}{cs:aa AV}(ho:o.op= .fieldAddr T x i)(hx:E.ev x=V (.fp cs))(hT:P.underlying T=V (.struct fs))(hf:fs[i]? =V f)(hs:(P.info? f.type).map (·.size)=V (sz+1)):
  Yp P E σ o (.fp (cs.drop f.offset)):=λA w ρ _ hρ=>by
 obtain⟨j,hj,hj'⟩:=zj.1 hs;obtain⟨b,of,us,h1,hb,hA,hc,hr⟩:=(hρ _ _ hx).EL;refine⟨_, .fp _ b (of+f.offset) (us.drop f.offset) hb hA (hr.drop _).1 (λj v hj=> ?_) (hr.drop _).2,λw' _=>by simp[execOp,ho,Instr.fieldAt,h1,run_underlying hT,hf,Instr.sureAddr,fieldPlace,sizeOf,typeInfo,hj,hj',pI]⟩;rw[yB]at hj;rw[xG];exact hc _ v hj
def Yp.ape{fs:Array Field}{f:Field}{i sz k:Nat}(ho:o.op= .fieldAddr T x i)(hx:E.ev x=V (.rp v k))(hT:P.underlying T=V (.struct fs))(hf:fs[i]? =V f)(hs:(P.info? f.type).map (·.size)=V (sz+1)):
  Yp P E σ o (.rp v (k+f.offset)):=λA w ρ _ hρ=>by
 obtain⟨j,hj,hj'⟩:=zj.1 hs;obtain⟨g,h1,h2⟩:=(hρ _ _ hx).F9;exact⟨_, .rp v _ g h1,λw' _=>by simp[execOp,ho,Instr.fieldAt,h2,run_underlying hT,hf,Instr.sureAddr,fieldPlace,sizeOf,typeInfo,hj,hj',pI]⟩
def Yp.adO{q:Nat}{l:aa (U.dw q)}(ho:o.op= .indexAddr T x y)(hx:E.ev x=V (.sl q l))(hy:E.ev y=V (.n k m))(hT:P.underlying T=V (.slice e))(hs:(P.info? e).map (·.size)=V (U.sz q))
  (hm:0<=m/\m<l.length):Yp P E σ o (.fp (U.cells q l[m.toNat]!)):=λA w ρ _ hρ=>by
 obtain⟨j,hj,hj'⟩:=zj.1 hs;have hr:=hρ _ _ hx;obtain⟨p,cap,_,hv,_⟩:=hr.uF;rw[hv]at hr;obtain⟨b,off,us,hp,hb,hA,hl,hc,hL⟩:=hr.aDV (i:=m.toNat) (by omega);refine⟨_, .fp _ b (off+m.toNat*(U.sz q)) us hb hA hL.1 hc hL.2,λw' _=> ?_⟩;have hy':=(hρ _ _ hy).cK;simp[execOp,ho,Instr.indexAt,hv,hp,hy',run_underlying hT,sizeOf,typeInfo,hj,hj',pI,asIntOf,hm]
def Yp.aa9{q:Nat}{l:aa (U.dw q)}(i:Nat)(ho:o.op= .indexAddr T x y)(hx:E.ev x=V (.lit v))(hσ:σ[i]? =V (.row v q l))(hy:E.ev y=V (.n k m))(hT:P.underlying T=V (.slice e))(hs:(P.info? e).map (·.size)=V (U.sz q))
  (hm:0<=m/\m<l.length):Yp P E σ o (.rp v (m.toNat*(U.sz q))):=λA w ρ hd hρ=>by
 obtain⟨j,hj,hj'⟩:=zj.1 hs;obtain⟨us,h1,_⟩:=hd.1 _ (List.mem_of_getElem? hσ);obtain⟨g,cap,cur,hv,hg,_⟩:=h1.at (by omega);have hx':=(hρ _ _ hx).cK;have hy':=(hρ _ _ hy).cK;refine⟨_, .rp v _ g hg,λw' _=> ?_⟩;simp[execOp,ho,Instr.indexAt,hx',hv,hy',run_underlying hT,sizeOf,typeInfo,hj,hj',pI,asIntOf,hm]
def Yp.ar0{b' of sz n':Nat}(ho:o.op= .indexAddr T x y)(hx:E.ev x=V (.lit (.pointer (V ⟨b',of,S⟩))))(hy:E.ev y=V (.n k m))(hT:P.underlying T=V (.array n' e))(hs:(P.info? e).map (·.size)=V sz)
  (hm:0<=m/\m<n'):Yp P E σ o (.lit (.pointer (V ⟨b',of+m.toNat*sz,S⟩))):=Yp.lits λρ hρ w=>by
 obtain⟨j,hj,hj'⟩:=zj.1 hs;simp[execOp,ho,Instr.indexAt,hρ _ _ hx,hρ _ _ hy,run_underlying hT,sizeOf,typeInfo,hj,hj',pI,asIntOf,hm,Instr.sureAddr]
def Yp.aqb{k' sz n':Nat}(ho:o.op= .indexAddr T x y)(hx:E.ev x=V (.rp v k'))(hy:E.ev y=V (.n k m))(hT:P.underlying T=V (.array n' e))(hs:(P.info? e).map (·.size)=V sz)
  (hm:0<=m/\m<n'):Yp P E σ o (.rp v (k'+m.toNat*sz)):=λA w ρ _ hρ=>by
 obtain⟨j,hj,hj'⟩:=zj.1 hs;obtain⟨g,h1,h2⟩:=(hρ _ _ hx).F9;have hy':=(hρ _ _ hy).cK;exact⟨_, .rp v _ g h1,λw' _=>by simp[execOp,ho,Instr.indexAt,h2,hy',run_underlying hT,sizeOf,typeInfo,hj,hj',pI,asIntOf,hm,Instr.sureAddr]⟩
def Yp.anJ{sz n':Nat}{cs:aa AV}(ho:o.op= .indexAddr T x y)(hx:E.ev x=V (.fp cs))(hy:E.ev y=V (.n k m))(hT:P.underlying T=V (.array n' e))(hs:(P.info? e).map (·.size)=V sz)
  (hm:0<=m/\m<n'):Yp P E σ o (.fp (cs.drop (m.toNat*sz))):=λA w ρ _ hρ=>by
 obtain⟨j,hj,hj'⟩:=zj.1 hs;obtain⟨b,of,us,h1,hb,hA,hc,hr⟩:=(hρ _ _ hx).EL;have hy':=(hρ _ _ hy).cK;refine⟨_, .fp _ b (of+m.toNat*sz) (us.drop (m.toNat*sz)) hb hA (hr.drop _).1 (λj v hj=> ?_) (hr.drop _).2,λw' _=>by simp[execOp,ho,Instr.indexAt,h1,hy',run_underlying hT,sizeOf,typeInfo,hj,hj',pI,asIntOf,hm,Instr.sureAddr]⟩;rw[yB]at hj;rw[xG];exact hc _ v hj
def rW(P:Program)(T:TypeId):Prop:=∃d,P.underlying T=V d/\match d with| .struct _| .array _ _=>False|_=>True
def mh(h:rW P T)(w:World):(isAgg T).run P w= .ok G w:=by
 obtain⟨d,hd,hm⟩:=h;unfold isAgg;cases d<;>first|exact hm.elim|simp[run_underlying hd]
def iF{w:World}{a:Addr}(h:rW P T)(hc:w.cell? a=V v):(loadVar T a).run P w= .ok v w:=by
 unfold loadVar;simp[mh h,load,Sem.run,hc]
def sE(P:Program)(T:TypeId)(k:Nat):Prop:=(∃d,P.underlying T=V d/\match d with| .struct _| .array _ _=>True|_=>False)/\(P.info? T).map (·.size)=V k
def EV{k:Nat}(h:sE P T k)(w:World):(isAgg T).run P w= .ok O w:=by
 obtain⟨⟨d,hd,hm⟩,_⟩:=h;unfold isAgg;cases d<;>first|exact hm.elim|simp[run_underlying hd]
def run_loadCellsFrom{w:World}(a:Addr):∀(cs:aa Value) (i:Nat) (acc:Array Value),(∀j u,cs[j]? =V u->w.cell? (a.add (i+j))=V u)->(loadCellsFrom a i cs.length acc).run P w= .ok (acc++cs.toArray) w
 |[],i,acc,_=>by simp[loadCellsFrom]
 |c::cs,i,acc,h=>by
  have h0:=h 0 c rfl;rw[yq]at h0;simp only[yX,loadCellsFrom];have ih:=run_loadCellsFrom a cs (i+1) (acc.push c) λj u hj=>by
   have:=h (j+1) u (by simpa using hj)
   rwa [show i+(j+1)=i+1+j from by omega]at this
  simp[load,Sem.run,h0,ih]
def ia{w:World}{a:Addr}{cs:aa Value}(h:sE P T cs.length)(hc:∀j u,cs[j]? =V u->w.cell? (a.add j)=V u):(loadVar T a).run P w= .ok (.agg cs.toArray) w:=by
 obtain⟨i,hi,hi'⟩:=zj.1 h.2;have:=run_loadCellsFrom (P:=P) (w:=w) a cs 0 #[] (by simpa using hc);unfold loadVar;simp[EV h,sizeOf,typeInfo,hi,hi',loadCells,this]
def kO{w w':World}{b o:Nat}(h:w'.heap[b]? =w.heap[b]?):w'.cell? ⟨b,o,S⟩=w.cell? ⟨b,o,S⟩:=by simp[World.cell?,h]
def Yp.aoJ{cs:aa AV}(ho:o.op= .load T x)(hx:E.ev x=V (.fp cs))(hT:rW P T)(ha:cs[0]? =V av):Yp P E σ o av:=λA w ρ _ hρ=>by
 obtain⟨b,of,us,h1,hb,hA,hc,hr⟩:=(hρ _ _ hx).EL;obtain⟨v,h2,h3⟩:=hr.get ha;refine⟨v,h3,λw' hw=> ?_⟩;have hcell:w'.cell? ⟨b,of,S⟩=V v:=by rw[kO (hw b hb (.inl hA))];exact hc 0 v h2
 simp[execOp,ho,Instr.loadAt,h1,Instr.sureAddr,iF hT hcell]
def Yp.aoL{cs:aa AV}{n:Nat}(ho:o.op= .load T x)(hx:E.ev x=V (.fp cs))(hT:sE P T n)(hn:n<=cs.length):Yp P E σ o (.agg (cs.take n)):=λA w ρ _ hρ=>by
 obtain⟨b,of,us,h1,hb,hA,hc,hr⟩:=(hρ _ _ hx).EL;refine⟨_,Rel.oM (hr.take n),λw' hw=> ?_⟩;have hcell:∀j u,(us.take n)[j]? =V u->w'.cell? ((⟨b,of,S⟩:Addr).add j)=V u:=λj u hj=>by
  rw[pI,kO (hw b hb (.inl hA))];rw[yE]at hj;split at hj
  ·exact hc j u hj
  ·cases hj
 have hl:(us.take n).length=n:=by rw[zH,hr.1];omega
 simp[execOp,ho,Instr.loadAt,h1,Instr.sureAddr,ia (by rw[hl];exact hT) hcell]
def Yp.anX{b' of:Nat}{cs:aa AV}{t:TypeId}(i:Nat)(ho:o.op= .load T x)(hx:E.ev x=V (.lit (.pointer (V ⟨b',of,S⟩))))(hσ:σ[i]? =V (.box b' t cs))(hT:rW P T)(ha:cs[of]? =V av):Yp P E σ o av:=λA w ρ hd hρ=>by
 have hm:=List.mem_of_getElem? hσ;obtain⟨us,h1,hr⟩:=hd.1 _ hm;obtain⟨v,h2,h3⟩:=bL.get hr ha;have hx':=(hρ _ _ hx).cK;refine⟨v,h3,λw' hw=> ?_⟩;have hcell:w'.cell? ⟨b',of,S⟩=V v:=by rw[kO (hw b' h1.lt (.inr (bU.2 ⟨_,hm,rfl⟩)))];exact h1.cell (by simpa using h2)
 simp[execOp,ho,Instr.loadAt,hx',Instr.sureAddr,iF hT hcell]
def Yp.apW{b' of n:Nat}{cs:aa AV}{t:TypeId}(i:Nat)(ho:o.op= .load T x)(hx:E.ev x=V (.lit (.pointer (V ⟨b',of,S⟩))))(hσ:σ[i]? =V (.box b' t cs))(hT:sE P T n)(hn:of+n<=cs.length):Yp P E σ o (.agg ((cs.drop of).take n)):=λA w ρ hd hρ=>by
 have hm:=List.mem_of_getElem? hσ;obtain⟨us,h1,hr⟩:=hd.1 _ hm;have hx':=(hρ _ _ hx).cK;refine⟨_,Rel.oM ((bL.drop of hr).take n),λw' hw=> ?_⟩;have hcell:∀j u,((us.drop of).take n)[j]? =V u->w'.cell? ((⟨b',of,S⟩:Addr).add j)=V u:=λj u hj=>by
  rw[pI,kO (hw b' h1.lt (.inr (bU.2 ⟨_,hm,rfl⟩)))];rw[yE]at hj;split at hj
  ·rw[yB]at hj;exact h1.cell (by simpa using hj)
  ·cases hj
 have hl:((us.drop of).take n).length=n:=by rw[zH,yj,hr.1];omega
 simp[execOp,ho,Instr.loadAt,hx',Instr.sureAddr,ia (by rw[hl];exact hT) hcell]
def Yp.WM{k of:Nat}{q:Nat}{l:aa (U.dw q)}(i m:Nat)(ho:o.op= .load T x)(hx:E.ev x=V (.rp v k))(hσ:σ[i]? =V (.row v q l))(hT:rW P T)(hk:k=m*(U.sz q)+of)(hm:m<l.length)(ha:(U.cells q l[m]!)[of]? =V av):Yp P E σ o av:=λA w ρ hd hρ=>by
 have hmem:=List.mem_of_getElem? hσ;obtain⟨us,h1,h2,h3⟩:=hd.1 _ hmem;obtain⟨g,hg,hv⟩:=(hρ _ _ hx).F9;obtain⟨u,h4,h5⟩:=(h3 m hm).get ha;refine⟨u,h5,λw' hw=> ?_⟩;rw[yE]at h4;split at h4
 ·rw[yB]at h4;have hcell:w'.cell? ⟨g,k,S⟩=V u:=by rw[kO (hw g (h1.lt hg) (.inr (bU.2 ⟨_,hmem,hg⟩))),hk];exact h1.cells hg _ u h4
  simp[execOp,ho,Instr.loadAt,hv,Instr.sureAddr,iF hT hcell]
 ·cases h4
def Yp.aog{k of n:Nat}{q:Nat}{l:aa (U.dw q)}(i m:Nat)(ho:o.op= .load T x)(hx:E.ev x=V (.rp v k))(hσ:σ[i]? =V (.row v q l))(hT:sE P T n)(hk:k=m*(U.sz q)+of)(hm:m<l.length)(hn:of+n<=(U.sz q)):Yp P E σ o (.agg (((U.cells q l[m]!).drop of).take n)):=λA w ρ hd hρ=>by
 have hmem:=List.mem_of_getElem? hσ;obtain⟨us,h1,h2,h3⟩:=hd.1 _ hmem;obtain⟨g,hg,hv⟩:=(hρ _ _ hx).F9;have hL:=h3 m hm;refine⟨_,Rel.oM ((hL.drop of).take n),λw' hw=> ?_⟩;have hcell:∀j u,((((us.drop (m*(U.sz q))).take (U.sz q)).drop of).take n)[j]? =V u->w'.cell? ((⟨g,k,S⟩:Addr).add j)=V u:=λj u hj=>by
  rw[pI,kO (hw g (h1.lt hg) (.inr (bU.2 ⟨_,hmem,hg⟩))),hk];rw[yE]at hj;split at hj
  ·rw[yB,yE]at hj;split at hj
   ·rw[yB]at hj;exact h1.cells hg _ u (by rw[xG];exact hj)
   ·cases hj
  ·cases hj
 have hl:((((us.drop (m*(U.sz q))).take (U.sz q)).drop of).take n).length=n:=by rw[zH,yj,hL.1,h2 m hm];omega
 simp[execOp,ho,Instr.loadAt,hv,Instr.sureAddr,ia (by rw[hl];exact hT) hcell]
end
def fA(r:cE)(σ:aa cE):bF (r::σ)=r.blk.toList++bF σ:=by
 unfold bF;rw[xk];cases r.blk<;>simp
def gU(σ τ:aa cE):bF (σ++τ)=bF σ++bF τ:=by simp[bF]
def pX{C:Cx}{σ:aa cE}{w w':World}{r:cE}(h:Good C σ w)(hk:Kp [] w w')(hr:r.blk=S\/r.blk=V w.heap.size)(hok:r.ok (al C (r::σ)) w'):Tr C [] σ w (r::σ) w':=by
 have hlt:∀b∈bF σ,b<w.heap.size:=λb hb=>by
  obtain⟨s,h1,h2⟩:=bU.1 hb;exact(h.res s h1).lt h2
 have hal:∀b,b<w.heap.size->al C σ b->al C (r::σ) b:=λb hb hA=>⟨hA.1,λhx=>by
  rw[fA]at hx;rcases zV.1 hx with hx|hx
  ·rcases hr with hr|hr<;>rw[hr]at hx<;>simp at hx;omega
  ·exact hA.2 hx⟩
 have hsame:∀b,b<w.heap.size->w'.heap[b]? =w.heap[b]? :=λb hb=>hk.block b hb (by simp);refine⟨⟨h.kept.trans hk (by simp),λs hs=> ?_,?_,λb hb=> ?_⟩,hk,λb hb hA=>⟨hal b hb hA,by simp⟩⟩
 ·rcases zB.1 hs with rfl|hs
  ·exact hok
  ·exact(h.res s hs).mono (λb hb hA=>⟨hal b hb hA,hsame b hb⟩) (λb hb=>hsame b ((h.res s hs).lt hb))
 ·rw[fA];rcases hr with hr|hr
  ·rw[hr];simpa using h.Gc
  ·rw[hr];simp only[xL,xo,yw,List.nodup_cons];exact⟨λhx=>by have:=hlt _ hx;omega,h.Gc⟩
 ·rw[fA]at hb;rcases zV.1 hb with hx|hx
  ·rcases hr with hr|hr<;>rw[hr]at hx<;>simp at hx;exact .inr (by rw[hx];exact h.kept.size)
  ·exact h.own b hx
def Ak{σ:aa cE}{i:Nat}{r r':cE}(h:σ[i]? =V r):σ=σ.take i++r::σ.drop (i+1)/\σ.set i r'=σ.take i++r'::σ.drop (i+1):=by
 obtain⟨hi,hr⟩:=z7.1 h;refine⟨?_,wD .. |>.trans (by rw[bG hi])⟩;rw[<-hr,<-xu hi,xw]
def DA{σ:aa cE}{i:Nat}{r r':cE}(h:σ[i]? =V r)(hb:r'.blk=r.blk):bF (σ.set i r')=bF σ:=by
 obtain⟨q1,q2⟩:=Ak (r':=r') h;have e:bF σ=bF (σ.take i++r::σ.drop (i+1)):=congrArg bF q1;rw[q2,e];simp[gU,fA,hb]
def Eg{C:Cx}{σ:aa cE}{w w':World}{r r':cE}{i:Nat}(h:Good C σ w)(hi:σ[i]? =V r)(hk:Kp r.blk.toList w w')(hr:r'.blk=r.blk\/r'.blk=V w.heap.size)(hok:r'.ok (al C (σ.set i r')) w'):Tr C r.blk.toList σ w (σ.set i r') w':=by
 obtain⟨h1,h2⟩:=Ak (r':=r') hi;generalize σ.take i=σ1 at h1 h2;generalize σ.drop (i+1)=σ2 at h1 h2;rw[h2]at hok ⊢;clear h2 hi;subst h1;have hlt:∀b∈bF (σ1++r::σ2),b<w.heap.size:=λb hb=>by
  obtain⟨s,h1,h2⟩:=bU.1 hb;exact(h.res s h1).lt h2
 have hb0:bF (σ1++r::σ2)=bF σ1++(r.blk.toList++bF σ2):=by rw[gU,fA]
 have hb1:bF (σ1++r'::σ2)=bF σ1++(r'.blk.toList++bF σ2):=by rw[gU,fA]
 have hmem:∀b,b∈bF (σ1++r'::σ2)->b∈bF (σ1++r::σ2)\/b=w.heap.size:=λb hb=>by
  rw[hb1]at hb;rw[hb0];simp only[zV]at hb ⊢;rcases hb with hb|hb|hb
  ·exact .inl (.inl hb)
  ·rcases hr with hr|hr<;>rw[hr]at hb
   ·exact .inl (.inr (.inl hb))
   ·simp at hb;exact .inr hb
  ·exact .inl (.inr (.inr hb))
 have hal:∀b,b<w.heap.size->al C (σ1++r::σ2) b->al C (σ1++r'::σ2) b:=λb hb hA=>⟨hA.1,λhx=>by
  rcases hmem b hx with h|h
  ·exact hA.2 h
  ·omega⟩
 have hnr:∀b,al C (σ1++r::σ2) b->b∉r.blk.toList:=λb hA hx=>hA.2 (by rw[hb0];simp[zV,hx]);have hother:∀s,s∈σ1\/s∈σ2->∀b,s.blk=V b->b∉r.blk.toList:=λs hs b hb hx=>by
  have hd:=h.Gc;rw[hb0]at hd;rcases hs with hs|hs
  ·exact(yH.1 hd).2.2 b (bU.2 ⟨s,hs,hb⟩) b (yI _ hx) rfl
  ·exact(yH.1 (yH.1 hd).2.1).2.2 b hx b (bU.2 ⟨s,hs,hb⟩) rfl
 refine⟨⟨h.kept.trans hk (λb hb hlt0=> ?_),λs hs=> ?_,?_,λb hb=> ?_⟩,hk,λb hb hA=>⟨hal b hb hA,hnr b hA⟩⟩
 ·have:b∈bF (σ1++r::σ2):=by rw[hb0];simp[zV,hb]
  rcases h.own b this with h|h
  ·exact h
  ·omega
 ·have hs':s=r'\/s∈σ1\/s∈σ2:=by
   simp only[zV,zB]at hs;rcases hs with h|h|h
   ·exact .inr (.inl h)
   ·exact .inl h
   ·exact .inr (.inr h)
  rcases hs' with rfl|hs'
  ·exact hok
  ·have hm:s∈σ1++r::σ2:=by rcases hs' with h|h<;>simp[h]
   exact(h.res s hm).mono (λb hb hA=>⟨hal b hb hA,hk.block b hb (hnr b hA)⟩) (λb hb=>hk.block b ((h.res s hm).lt hb) (hother s hs' b hb))
 ·have hd:=h.Gc;rcases hr with hr|hr
  ·rw[hb1,hr,<-hb0];exact hd
  ·rw[hb1,hr];rw[hb0]at hd;have hn1:w.heap.size∉bF σ1:=λhx=>by have:=hlt w.heap.size (by rw[hb0];simp[zV,hx]);omega
   have hn2:w.heap.size∉bF σ2:=λhx=>by have:=hlt w.heap.size (by rw[hb0];simp[zV,hx]);omega
   obtain⟨d1,d2,d3⟩:=yH.1 hd;obtain⟨d4,d5,d6⟩:=yH.1 d2;refine yH.2 ⟨d1,?_,λa ha b hb hab=> ?_⟩
   ·simp only[xL,xo,yw,List.nodup_cons];exact⟨hn2,d5⟩
   ·subst hab;simp only[xL,xo,yw,zB]at hb;rcases hb with rfl|hb
    ·exact hn1 ha
    ·exact d3 a ha a (yJ _ hb) rfl
 ·rcases hmem b hb with h1|h1
  ·exact h.own b h1
  ·exact .inr (by rw[h1];exact h.kept.size)
def anQ{C:Cx}{σ:aa cE}{w:World}{r:cE}(h:r.blk=S\/r.blk=V w.heap.size):∀b,b<w.heap.size->al C σ b->al C (r::σ) b:=λb hb hA=>⟨hA.1,λhx=>by
 rw[fA]at hx;rcases zV.1 hx with hx|hx
 ·rcases h with h|h<;>rw[h]at hx<;>simp at hx;omega
 ·exact hA.2 hx⟩
def j0(w:World)(x:Obj):Kp [] w (w.alloc x):=⟨rfl,rfl,rfl,zo _,by simp,λk hk _=>heap_alloc_old w x hk⟩
def Gv(w:World)(x:Obj):Kp [] w (w.drew.alloc x):=⟨rfl,rfl,rfl,yf _,by simp,λk hk _=>heap_alloc_old w.drew x hk⟩
def NA{C:Cx}{σ:aa cE}{w w':World}{r:cE}{as0:aa AV}{us:aa Value}(hr:bL (al C σ) w as0 us)(h:r.blk=S\/r.blk=V w.heap.size)(hk:Kp [] w w'):bL (al C (r::σ)) w' as0 us:=
 hr.mono λb hb hA=>⟨anQ h b hb hA,hk.block b hb (by simp)⟩
def dQ:AV->aa AV
 | .agg cs=>cs
 |a=>[a]
def iu:AV->Bool
 | .lit v=>v.oneCell'
 | .iL _=>G
 | .agg _=>G
 |_=>O
def Fm:AV->Bool
 | .agg cs=>cs.all iu
 |a=>iu a
def rZ{v:Value}(h:v.oneCell'=true):v.cells=#[v]:=by cases v<;>first|rfl|cases h
def Rel.one{A:Nat->Prop}{w:World}{a:AV}{v:Value}(h:Rel A w a v)(h1:iu a=O):v.oneCell'=O:=by
 cases h with
 |lit v=>exact h1
 |agg=>cases h1
 |iL=>cases h1
 |_=>rfl
def bL.one{A:Nat->Prop}{w:World}{as0:aa AV}{us:aa Value}(h:bL A w as0 us)(h1:as0.all iu=O):∀v∈us,v.oneCell'=O:=λv hv=>by
 obtain⟨j,hj,rfl⟩:=yY hv;have hlt:j<as0.length:=by rw[<-h.1];exact hj
 exact(h.2 j as0[j] us[j] (zu hlt) (zu hj)).one (zw.1 h1 _ (xM hlt))
def Rel.cells{A:Nat->Prop}{w:World}{a:AV}{v:Value}(h:Rel A w a v)(h1:Fm a=O):bL A w (dQ a) v.cells.toList/\∀u∈v.cells.toList,u.oneCell'=O:=by
 by_cases ha:∃cs,a= .agg cs
 ·obtain⟨cs,rfl⟩:=ha;obtain⟨us,rfl,h2⟩:=h.nP;exact⟨by simpa [Value.cells,dQ]using h2,by simpa [Value.cells]using h2.one h1⟩
 ·have hc:iu a=O:=by
   cases a<;>first|exact h1|(exact dF ⟨_,rfl⟩ ha)
  have hac:dQ a=[a]:=by
   cases a<;>first|rfl|(exact dF ⟨_,rfl⟩ ha)
  have h2:=h.one hc;rw[hac,rZ h2];refine⟨⟨rfl,λj x y hx hy=> ?_⟩,λu hu=>by simp at hu;rw[hu];exact h2⟩;cases j with
  |zero=>simp at hx hy;subst hx hy;exact h
  |succ j=>simp at hx
def Pw(σ:aa cE)(a:AV):Prop:=∀(A:Nat->Prop) (w:World) (v:Value),Hd A σ w->Rel A w a v->bL A w (dQ a) v.cells.toList/\∀u∈v.cells.toList,u.oneCell'=O
def ahp{σ:aa cE}{A:Nat->Prop}{w:World}{v:Value}{q:Nat}{l:aa (U.dw q)}(i:Nat)(hσ:σ[i]? =V (.row v q l))(hd:Hd A σ w):v.oneCell'=O:=by
 obtain⟨us,h1,_⟩:=hd.1 _ (List.mem_of_getElem? hσ);obtain⟨p,cap,rfl,_⟩:=h1.len;rfl
section
variable {P:Program} {E:Env} {σ:aa cE} {o:Oper} {T T' e:TypeId} {x y z:Operand} {av bv:AV} {v u:Value} {m n:Int} {b:Bool} {k:IntKind} {C:Cx} {X:aa Nat}
def Yv.alloc{zs:aa Value}(ho:o.op= .alloc T)(hz:(P.info? T).bind (λi=>i.zero.map (·.cells))=V zs.toArray):Yv P E σ o C [] (λa σ'=>∃b,a= .lit (.pointer (V ⟨b,0,S⟩))/\σ'= .box b T (zs.map .lit)::σ):=λw ρ hg _=>by
 obtain⟨i,h1,h2⟩:=zn.1 hz;obtain⟨zv,h3,h4⟩:=zj.1 h2;refine⟨_,w.alloc (.cells zs.toArray T),_,_,⟨w.heap.size,rfl,rfl⟩,pX hg (j0 w _) (.inr rfl) ⟨zs,heap_alloc_new w _,bL.lits _⟩,?_, .lit _⟩;simp[execOp,ho,Instr.alloc,zeroValue,typeInfo,h1,h3,newVar,newRow,h4]
def Yv.box(ho:o.op= .box T x)(hx:E.ev x=V av)(h1:Pw σ av):Yv P E σ o C [] (λa σ'=>∃b,a= .lit (.pointer (V ⟨b,0,S⟩))/\σ'= .box b T (dQ av)::σ):=λw ρ hg hρ=>by
 have hr:=(h1 _ _ _ hg.hd (hρ _ _ hx)).1;refine⟨_,w.alloc (.cells (ρ x).cells T),_,_,⟨w.heap.size,rfl,rfl⟩,pX hg (j0 w _) (.inr rfl) ⟨(ρ x).cells.toList,heap_alloc_new w _,NA hr (.inr rfl) (j0 w _)⟩,?_, .lit _⟩;simp[execOp,ho,Instr.box,newVar,newRow]
def run_store{w:World}{g of:Nat}{cur:Array Value}{t:TypeId}{a:Value}{sz:Nat}(hs:(P.info? T).map (·.size)=V sz)(hb:Blk w g cur t)(hsz:a.cells.size=sz)(h1:∀u∈a.cells.toList,u.oneCell'=O)(hlt:of+sz<=cur.size):
  (Instr.storeAt T (.pointer (V ⟨g,of,S⟩)) a).run P w= .ok () (w.setRow g (cur.toList.take of++a.cells.toList++cur.toList.drop (of+sz)).toArray):=by
 obtain⟨j,hj,hj'⟩:=zj.1 hs;have:=run_storeCells_at P g of t a.cells.toList 0 cur w hb (by rw[yg,hsz];omega) h1;rw[yg,hsz,yq]at this;simp only[Instr.storeAt,Instr.sureAddr,storeVar,Sem.run_bind,sizeOf,typeInfo];simp[hj,hj',hsz,this]
def mN(w:World)(g:Nat)(cs:Array Value):Kp [g] w (w.setRow g cs):=⟨rfl,rfl,rfl,zo _,by simp,λk _ hk=>setRow_other w g k _ (λe=>hk (by simp[e]))⟩
def Yu.ao8{g of sz:Nat}{cs:aa AV}{t:TypeId}(i:Nat)(ho:o.op= .store T x y)(hx:E.ev x=V (.lit (.pointer (V ⟨g,of,S⟩))))(hy:E.ev y=V av)(hσ:σ[i]? =V (.box g t cs))(hs:(P.info? T).map (·.size)=V sz)(hp:Pw σ av)(hsz:(dQ av).length=sz)(hlt:of+sz<=cs.length):
  Yu P E σ o C [g] (σ.set i (.box g t (cs.take of++dQ av++cs.drop (of+sz)))):=λw ρ hg hρ=>by
 obtain⟨us,h1,h2⟩:=hg.res _ (List.mem_of_getElem? hσ);obtain⟨h3,h4⟩:=hp _ _ _ hg.hd (hρ _ _ hy);have hx':=(hρ _ _ hx).cK;have h5:(ρ y).cells.size=sz:=by rw[<-yg,h3.1,hsz]
 have hrun:=run_store (P:=P) (T:=T) (of:=of) (a:=ρ y) hs h1 h5 h4 (by simp;rw[h2.1];exact hlt);refine⟨w.setRow g (us.take of++(ρ y).cells.toList++us.drop (of+sz)).toArray,Eg hg hσ (mN w g _) (.inl rfl) ⟨us.take of++(ρ y).cells.toList++us.drop (of+sz),?_,?_⟩,?_⟩
 ·have:=setRow_heap w g us.toArray (us.take of++(ρ y).cells.toList++us.drop (of+sz)).toArray t (0,0) h1;exact this
 ·have hal:∀b,b<w.heap.size->al C σ b->al C (σ.set i (.box g t (cs.take of++dQ av++cs.drop (of+sz)))) b/\(w.setRow g (us.take of++(ρ y).cells.toList++us.drop (of+sz)).toArray).heap[b]? =w.heap[b]? :=λb hb hA=>by
   have hbk:=DA (r':=cE.box g t (cs.take of++dQ av++cs.drop (of+sz))) hσ rfl;refine⟨⟨hA.1,by rw[hbk];exact hA.2⟩,setRow_other w g b _ (λe=>hA.2 (bU.2 ⟨_,List.mem_of_getElem? hσ,by rw[<-e];rfl⟩))⟩
  exact(((h2.take of).app h3).app (h2.drop (of+sz))).mono hal
 ·simp[execOp,ho,hx',hrun]
def Yu.WK{kk of n m:Nat}{q:Nat}{l:aa (U.dw q)}(i:Nat)(qq:U.dw q)(ho:o.op= .store T x y)(hx:E.ev x=V (.rp v kk))(hy:E.ev y=V av)(hσ:σ[i]? =V (.row v q l))(hs:(P.info? T).map (·.size)=V n)(hp:Fm av=O)(hn:(dQ av).length=n)
  (hk:kk=m*(U.sz q)+of) (hm:m<l.length) (hlt:of+n<=(U.sz q)) (hql:(U.cells q qq).length=U.sz q) (hq:∀A w us,bL A w ((U.cells q l[m]!).take of++dQ av++(U.cells q l[m]!).drop (of+n)) us->bL A w (U.cells q qq) us):
  Yu P E σ o C (xN (gG v)) (σ.set i (.row v q (l.set m qq))):=λw ρ hg hρ=>by
 obtain⟨us,h1,h2,h3⟩:=hg.res _ (List.mem_of_getElem? hσ);obtain⟨h4,h5⟩:=(hρ _ _ hy).cells hp;obtain⟨g,hgb,hv⟩:=(hρ _ _ hx).F9;obtain⟨g',cap,cur,hv',hgb',hB,q1,q2,q3,q4⟩:=h1.at (by omega);have hgg:g'=g:=by rw[hgb']at hgb;exact zA.inj hgb
 subst hgg;have h6':(ρ y).cells.toList.length=n:=by rw[h4.1,hn]
 have h6:(ρ y).cells.size=n:=by rw[<-yg,h6']
 have hmz:m*(U.sz q)+(U.sz q)<=l.length*(U.sz q):=by rw[<-yN];exact yK _ hm
 have hcz:l.length*(U.sz q)<=(cap+1)*(U.sz q):=yK _ q1;have hul:=h1.1;have hrun:=run_store (P:=P) (T:=T) (of:=kk) (a:=ρ y) hs hB h6 h5 (by rw[q3,hk];omega);have hlen:us.length=l.length*(U.sz q):=h1.1;have hmz2:∀j,j<l.length->j*(U.sz q)+(U.sz q)<=us.length:=λj hj=>by rw[hlen,<-yN];exact yK _ hj
 have hpart:∀b,al C (σ.set i (.row v q (l.set m qq))) b↔al C σ b:=λb=>by
  have hbk:=DA (r':=cE.row v q (l.set m qq)) hσ rfl;unfold al;rw[hbk]
 have hal:∀b,b<w.heap.size->al C σ b->al C (σ.set i (.row v q (l.set m qq))) b/\(w.setRow g' (cur.toList.take kk++(ρ y).cells.toList++cur.toList.drop (kk+n)).toArray).heap[b]? =w.heap[b]? :=λb hb hA=>
  ⟨(hpart b).2 hA,setRow_other w g' b _ (λe=>hA.2 (bU.2 ⟨_,List.mem_of_getElem? hσ,by rw[e];exact hgb⟩))⟩
 refine⟨w.setRow g' (cur.toList.take kk++(ρ y).cells.toList++cur.toList.drop (kk+n)).toArray,Eg (r:= .row v q l) hg hσ (by show Kp (xN (gG v)) _ _;rw[hgb];exact mN w g' _) (.inl rfl) ⟨us.take kk++(ρ y).cells.toList++us.drop (kk+n),⟨?_, .inr ⟨g',cap,(cur.toList.take kk++(ρ y).cells.toList++cur.toList.drop (kk+n)).toArray,?_,?_,?_,q2,?_,?_⟩⟩,?_,?_⟩,by simp[execOp,ho,hv,hrun]⟩
 ·have:=hmz2 m hm;rw[zl,zl,zH,yj,yx,h6',hlen];omega
 ·rw[yx];exact hv'
 ·exact setRow_heap w g' cur _ q (0,0) hB
 ·rw[yx];exact q1
 ·have:=hmz2 m hm;rw[xx,zl,zl,zH,yj,h6',yg,q3];omega
 ·have hk':kk+n<=l.length*(U.sz q):=by omega
  have hc2:l.length*(U.sz q)<=cur.toList.length:=by rw[show cur.toList.length=cur.size from yg,q3];exact hcz
  rw[<-q4,yx];apply List.ext_getElem?;intro j;simp only[yE,xh,zl,zH,yB,h6',yg];have hcl:cur.size=(cap+1)*(U.sz q):=q3;by_cases e1:j<l.length*(U.sz q)
  ·rw[bG e1];by_cases e2:j<kk
   ·rw[bG (by omega),bG (by omega),bG (by omega),bG (by omega),bG (by omega),bG (by omega)];rw[bG (by omega)]
   ·by_cases e3:j<kk+n
    ·rw[bG (by omega),bP (by omega),bG (by omega),bP (by omega)]
     congr 1
     omega
    ·rw[bP (by omega),bP (by omega),bG (by omega)]
     congr 1
     omega
  ·rw[bP e1];rw[bP (by omega),bP (by omega)]
 ·intro j hj;rw[yx]at hj;by_cases hjm:j=m
  ·subst hjm;rw[getElem!_pos _ j (by rw[yx];exact hj),List.getElem_set_self];exact hql
  ·rw[getElem!_pos _ j (by rw[yx];exact hj),List.getElem_set_ne (Ne.symm hjm),<-getElem!_pos l j hj];exact h2 j hj
 ·intro j hj;rw[yx]at hj;have hb:=hmz2 j hj;have hbm:=hmz2 m hm;by_cases hjm:j=m
  ·subst hjm;rw[getElem!_pos _ j (by rw[yx];exact hj),List.getElem_set_self];refine hq _ _ _ ?_;have hL:=h3 j hj;have hz:=h2 j hj;have hR:=(((hL.take of).app h4).app (hL.drop (of+n))).mono hal;have e:((us.take kk++(ρ y).cells.toList++us.drop (kk+n)).drop (j*(U.sz q))).take (U.sz q)=((us.drop (j*(U.sz q))).take (U.sz q)).take of++(ρ y).cells.toList++((us.drop (j*(U.sz q))).take (U.sz q)).drop (of+n):=by
    apply List.ext_getElem?;intro a;simp only[yE,xh,zl,zH,yB,h6',yj];by_cases e1:a<(U.sz q)
    ·rw[bG e1];by_cases e2:a<of
     ·rw[bG (by omega),bG (by omega),bG (by omega),bG (by omega),bG (by omega),bG (by omega)];rw[bG (by omega)]
     ·by_cases e3:a<of+n
      ·rw[bG (by omega),bP (by omega),bG (by omega),bP (by omega)]
       congr 1
       omega
      ·rw[bP (by omega),bP (by omega),bG (by omega)]
       congr 1
       omega
    ·rw[bP e1,bP (by omega),bP (by omega)]
   rw[e];exact hR
  ·rw[getElem!_pos _ j (by rw[yx];exact hj),List.getElem_set_ne (Ne.symm hjm),<-getElem!_pos l j hj];have e:((us.take kk++(ρ y).cells.toList++us.drop (kk+n)).drop (j*(U.sz q))).take (U.sz q)=(us.drop (j*(U.sz q))).take (U.sz q):=by
    have hcase:j*(U.sz q)+(U.sz q)<=m*(U.sz q)\/m*(U.sz q)+(U.sz q)<=j*(U.sz q):=by
     rcases Nat.lt_or_gt_of_ne hjm with h|h
     ·left;rw[<-yN];exact yK _ h
     ·right;rw[<-yN];exact yK _ h
    apply List.ext_getElem?;intro a;simp only[yE,xh,zl,zH,yB,h6',yg];by_cases e1:a<(U.sz q)
    ·rw[bG e1,bG e1];rcases hcase with hc|hc
     ·rw[bG (by omega),bG (by omega),bG (by omega)]
     ·rw[bP (by omega)]
      congr 1
      omega
    ·rw[bP e1,bP e1]
   rw[e];exact(h3 j hj).mono hal
end
inductive F2 {α:Type} {β:Type} (R:α->β->Prop):List α->List β->Prop
 |nil:F2 R [] []
 |cons {a:α} {b:β} {as0:List α} {bs:List β} (h:R a b) (hs:F2 R as0 bs):F2 R (a::as0) (b::bs)
def Vd(us:aa Value):∀(k off:Nat) (init:Array Value),off+k+us.length<=init.size->
  ((us.zipIdx k).foldl (λcs (p:Value×Nat)=>cs.setIfInBounds (off+p.2) p.1) init).toList=init.toList.take (off+k)++us++init.toList.drop (off+k+us.length):=by
 induction us with
 |nil=>intro k off init h;simp
 |cons u us ih=>
  intro k off init h;simp only[yX]at h;rw[List.zipIdx_cons,List.foldl_cons,ih (k+1) off _ (by simp;omega)];have h1:off+k<init.toList.length:=by simp;omega
  rw[Array.toList_setIfInBounds];have e1:(init.toList.set (off+k) u).take (off+(k+1))=init.toList.take (off+k)++[u]:=by
   rw[wD,bG h1];have e:off+(k+1)=(init.toList.take (off+k)).length+1:=by rw[zH];omega
   rw[e,List.take_length_add_append];simp
  have e2:(init.toList.set (off+k) u).drop (off+(k+1)+us.length)=init.toList.drop (off+k+(us.length+1)):=by
   rw[List.drop_set_of_lt (by omega)]
   congr 1
   omega
  rw[e1,e2];simp
def placesOf(P:Program)(T:TypeId):af (aa (Nat×Nat)):=match P.underlying T with
 |some (.struct fields)=>fields.toList.mapM λf=>(P.info? f.type).map λi=>(f.offset,i.size)
 |_=>S
def jR(P:Program)(T:TypeId):af (aa Value):=(P.info? T).bind λi=>i.zero.map (·.cells.toList)
section
variable {P:Program} {E:Env} {σ:aa cE} {o:Oper} {T T' e:TypeId} {x y z:Operand} {av bv:AV} {v u:Value} {m n:Int} {b:Bool} {k:IntKind} {C:Cx} {X:aa Nat}
def K3{ps:Array (Nat×Operand)}{ρ:Operand->Value}:(ps.map λ(i,x)=>(i,ρ x)).toList=ps.toList.map λp=>(p.1,ρ p.2):=by
 rw[Array.toList_map]
def lI{q:Nat}:∀(l:aa (U.dw q)),(∀i,i<l.length->(U.cells q l[i]!).length=(U.sz q))->(l.flatMap (U.cells q)).length=l.length*(U.sz q)/\∀i,i<l.length->((l.flatMap (U.cells q)).drop (i*(U.sz q))).take (U.sz q)=U.cells q l[i]!
 |[],_=>⟨by simp,λi hi=>by cases hi⟩
 |x::l,h=>by
  have h0:(U.cells q x).length=(U.sz q):=h 0 (by simp);obtain⟨h1,h2⟩:=lI l λi hi=>by
   have:=h (i+1) (by simpa using hi)
   rwa [show (x::l)[i+1]! =l[i]! from by rw[getElem!_pos _ (i+1) (by simpa using hi),getElem!_pos l i hi];rfl]at this
  refine⟨by rw[xH,zl,h0,h1,yX,yN];omega,λi hi=> ?_⟩;rw[xH];cases i with
  |zero=>
   rw[Nat.zero_mul,List.drop_zero,<-h0,List.take_left']
   ·rfl
   ·rfl
  |succ i=>
   have hi':i<l.length:=by simpa using hi
   rw[show (x::l)[i+1]! =l[i]! from by rw[getElem!_pos _ (i+1) (by simpa using hi'),getElem!_pos l i hi'];rfl,<-h2 i hi'];rw[show (i+1)*(U.sz q)=(U.cells q x).length+i*(U.sz q)from by rw[h0,yN];omega,<-zW,List.drop_left'];rfl
def FA{A:Nat->Prop}{w:World}{q:Nat}{l:aa (U.dw q)}{us:aa Value}(hr:gI w v q (U.sz q) l.length us)(hz:∀i,i<l.length->(U.cells q l[i]!).length=(U.sz q))(h:bL A w (l.flatMap (U.cells q)) us):cE.ok A w (.row v q l):=
 ⟨us,hr,hz,λi hi=>by rw[<-(lI l hz).2 i hi];exact(h.drop _).take _⟩
def DS{A:Nat->Prop}{w:World}{q:Nat}{l:aa (U.dw q)}(h:cE.ok A w (.row v q l)):∃us,gI w v q (U.sz q) l.length us/\(∀i,i<l.length->(U.cells q l[i]!).length=(U.sz q))/\bL A w (l.flatMap (U.cells q)) us:=by
 obtain⟨us,h1,h2,h3⟩:=h;refine⟨us,h1,h2,?_⟩;obtain⟨f1,f2⟩:=lI l h2;refine⟨by rw[f1,h1.1],λj a u ha hu=> ?_⟩;have hj:j<l.length*(U.sz q):=by rw[<-f1];exact(z7.1 ha).1
 have hsz:0<(U.sz q):=by
  rcases wE (U.sz q)with h|h
  ·rw[h]at hj;omega
  ·exact h
 have hi:j/(U.sz q)<l.length:=by rw[Nat.div_lt_iff_lt_mul hsz];exact hj
 have hm:j%(U.sz q)<(U.sz q):=yP _ hsz;have he:j/(U.sz q)*(U.sz q)+j%(U.sz q)=j:=by rw[Nat.mul_comm];exact Nat.div_add_mod j (U.sz q)
 refine(h3 _ hi).2 (j%(U.sz q)) a u ?_ ?_
 ·rw[<-f2 _ hi,yE,bG hm,yB,he];exact ha
 ·rw[yE,bG hm,yB,he];exact hu
def get_append_left!{q:Nat}(l l2:aa (U.dw q))(i:Nat)(h:i<l.length):(l++l2)[i]! =l[i]! :=by
 rw[getElem!_pos _ i (by rw[zl];omega),List.getElem_append_left h,<-getElem!_pos l i h]
def get_append_right!{q:Nat}(l l2:aa (U.dw q))(i:Nat)(h:l.length<=i)(h2:i<l.length+l2.length):(l++l2)[i]! =l2[i-l.length]! :=by
 rw[getElem!_pos _ i (by rw[zl];exact h2),List.getElem_append_right h,<-getElem!_pos l2 (i-l.length) (by omega)]
def Ni{q:Nat}{l l2:aa (U.dw q)}(h:∀i,i<l.length->(U.cells q l[i]!).length=(U.sz q))(h2:∀i,i<l2.length->(U.cells q l2[i]!).length=(U.sz q)):∀i,i<(l++l2).length->(U.cells q (l++l2)[i]!).length=(U.sz q):=λi hi=>by
 rw[zl]at hi;by_cases hlt:i<l.length
 ·rw[get_append_left! _ _ _ hlt];exact h i hlt
 ·rw[get_append_right! _ _ _ (by omega) hi];exact h2 _ (by omega)
def Ov{zs:aa Value}{sz n:Nat}(hsz:zs.length=sz)(hpos:0<sz):((Array.range (n*sz)).map (zs.toArray[· %zs.toArray.size]!)).toList=(zk n zs).flatten:=by
 apply List.ext_getElem?;intro j;have hfl:(zk n zs).flatten.length=n*sz:=by simp[hsz]
 have hq:∀(q:Nat) (j:Nat),j<q*sz->(zk q zs).flatten[j]? =zs[j%sz]? :=by
  intro q;induction q with
  |zero=>intro j hj;simp at hj
  |succ q ih=>
   intro j hj;rw[yO,wF,xh];split
   ·rename_i h;rw[hsz]at h;rw[Nat.mod_eq_of_lt h]
   ·rename_i h;rw[hsz]at h;rw[hsz,ih _ (by rw[yN]at hj;omega),Nat.mod_eq_sub_mod (by omega:sz<=j)]
 by_cases hj:j<n*sz
 ·rw[hq n j hj];have hmod:j%sz<sz:=yP _ hpos;simp[hj,hsz,hmod]
 ·rw[x9 (l:=(zk n zs).flatten) (by rw[hfl];omega)];simp[hj]
def Yv.lit{len:Nat}{ps:Array (Nat×Operand)}{zs:aa Value}(l:aa (U.dw e))(ho:o.op= .buildSlice T len ps)(hT:P.underlying T=V (.slice e))(hs:(P.info? e).map (·.size)=V (U.sz e))(hz:jR P e=V zs)
  (hzl:zs.length=(U.sz e)) (hf:∀A w ρ,Hd A σ w->NT A w E ρ->∃us:Array Value,Instr.fill (λi=>V (i*(U.sz e),(U.sz e))) (zk len zs).flatten.toArray (ps.toList.map λp=>(p.1,ρ p.2))=V us/\bL A w (l.flatMap (U.cells e)) us.toList) (hl:l.length=len) (hu:∀i,i<l.length->(U.cells e l[i]!).length=(U.sz e)) (hpos:0<len*(U.sz e)) (hsm:len*(U.sz e)<=2^24):
  Yv P E σ o C [] (λa σ'=>∃v,a= .lit v/\σ'= .row v e l::σ):=λw ρ hg hρ=>by
 obtain⟨it,hit,hz1⟩:=zn.1 hz;obtain⟨zv,hz2,hz3⟩:=zj.1 hz1;obtain⟨ie,hie,hse⟩:=zj.1 hs;have hee:it=ie:=by rw[hit]at hie;exact zA.inj hie
 subst hee;have hzc:zv.cells=zs.toArray:=by rw[<-hz3]
 obtain⟨us,h1,h2⟩:=hf _ w ρ hg.hd hρ;have hrun:=run_buildSlice (P:=P) w T e len (ps.map λ(i,x)=>(i,ρ x)) us it zv hT hit hz2 (by rw[hse];omega) (by rw[hse];omega) (by
  rw[hse,hzc,K3,<-h1]
  congr 1
  apply Array.ext';exact Ov hzl (Nat.pos_of_mul_pos_left hpos))
 have hlp:0<len:=Nat.pos_of_mul_pos_right hpos;have hlen:us.toList.length=len*(U.sz e):=by rw[h2.1,(lI l hu).1,hl]
 refine⟨_,w.alloc (.cells us e),_,_,⟨.slice (V ⟨w.heap.size,0,S⟩) len len,rfl,rfl⟩,?_,by simp[execOp,ho,hrun], .lit _⟩;obtain⟨ln,rfl⟩:∃ln,len=ln+1:=⟨len-1,by omega⟩;refine pX (r:= .row (.slice (V ⟨w.heap.size,0,S⟩) (ln+1) (ln+1)) e l) hg (j0 w _) (.inr rfl) (FA (us:=us.toList) ?_ hu ?_)
 ·rw[hl];refine⟨hlen, .inr ⟨w.heap.size,ln,us,rfl,heap_alloc_new w _,zo _,?_,by rw[<-yg,hlen],by rw[<-hlen,zD]⟩⟩;have:ln+1<=(ln+1)*(U.sz e):=Nat.le_mul_of_pos_right _ (Nat.pos_of_mul_pos_left hpos);unfold maxLen;omega
 ·exact NA (r:= .row (.slice (V ⟨w.heap.size,0,S⟩) (ln+1) (ln+1)) e l) h2 (.inr rfl) (j0 w _)
def Yv.aC2{s:Nat}(ho:o.op= .buildSlice T 0 #[])(hT:P.underlying T=V (.slice e))(hs:(P.info? e).map (·.size)=V s):Yv P E σ o C [] (λa σ'=>∃v,a= .lit v/\σ'= .row v e ([]:aa (U.dw e))::σ):=λw ρ hg hρ=>by
 obtain⟨j,hj,hj'⟩:=zj.1 hs;refine⟨_,w.alloc (.cells #[] e),_,_,⟨.slice (V ⟨w.heap.size,0,S⟩) 0 0,rfl,rfl⟩,pX hg (j0 w _) (.inl rfl) ⟨[],⟨by simp, .inl ⟨_,rfl,rfl⟩⟩,λi hi=>by simp at hi,λi hi=>by simp at hi⟩,?_, .lit _⟩;simp[execOp,ho,Instr.buildSlice,run_underlying hT,sizeOf,typeInfo,hj,Instr.fill,newRow];rw[show Array.range 0=#[]from rfl,Array.map_empty]
def Yv.make{by':Nat}{zs:aa Value}(d:U.dw e)(ho:o.op= .makeSlice T x y)(hx:E.ev x=V (.i m))(hy:E.ev y=V (.i n))(hT:P.underlying T=V (.slice e))(hs:(P.info? e).map (λi=>(i.size,i.bytes))=V ((U.sz e),by'))(hz:jR P e=V zs)(hb:yh by' 4096=O)(hsz:zs.length=(U.sz e))(hd:∀A w,bL A w (U.cells e d) zs)(hpos:0<(U.sz e))
  (hm:0<=m/\m<=n/\n<=1073741824):Yv P E σ o C [] (λa σ'=>∃v,a= .lit v/\σ'= .row v e (zk m.toNat d)::σ):=λw ρ hg hρ=>by
 obtain⟨it,hit,hz1⟩:=zn.1 hz;obtain⟨zv,hz2,hz3⟩:=zj.1 hz1;obtain⟨ie,hie,hse⟩:=zj.1 hs;have hee:it=ie:=by rw[hit]at hie;exact zA.inj hie
 subst hee;simp only[Prod.mk.injEq]at hse;obtain⟨s1,s2⟩:=hse;have hzc:zv.cells=zs.toArray:=by rw[<-hz3]
 have hby:by'<=4096:=by simpa using hb
 obtain⟨mm,rfl⟩:∃mm:Nat,m=mm:=⟨m.toNat,by omega⟩;obtain⟨nn,rfl⟩:∃nn:Nat,n=nn:=⟨n.toNat,by omega⟩;have hbb:(it.bytes:Int)*(nn:Int)<=281474976710656:=by
  have h1:it.bytes*nn<=4096*1073741824:=Nat.mul_le_mul (by omega) (by omega);have h':((it.bytes*nn:Nat):Int)<=281474976710656:=by omega
  rwa [xI]at h'
 have hrun:=run_make (P:=P) w T e it zv hT hit hz2 .i64 .i64 mm nn (by omega) (by omega) hbb (by omega);rw[ze,ze]at hrun;have hx':=(hρ _ _ hx).cK;have hy':=(hρ _ _ hy).cK;refine⟨.slice (V ⟨w.heap.size,0,S⟩) mm nn,w.alloc (.cells (madeCells zv.cells (nn*it.size)) e),_,_,⟨.slice (V ⟨w.heap.size,0,S⟩) mm nn,rfl,rfl⟩,?_,?_, .lit _⟩
 ·rw[ze];have hcells:(madeCells zv.cells (nn*it.size)).toList=(zk nn zs).flatten:=by
   rw[hzc,s1];unfold madeCells;apply List.ext_getElem?;intro j;have hfl:(zk nn zs).flatten.length=nn*(U.sz e):=by simp[hsz]
   have hq:∀(q:Nat) (j:Nat),j<q*(U.sz e)->(zk q zs).flatten[j]? =zs[j%(U.sz e)]? :=by
    intro q;induction q with
    |zero=>intro j hj;simp at hj
    |succ q ih=>
     intro j hj;rw[yO,wF,xh];split
     ·rename_i h;rw[hsz]at h;rw[Nat.mod_eq_of_lt h]
     ·rename_i h;rw[hsz]at h;rw[hsz,ih _ (by rw[yN]at hj;omega),Nat.mod_eq_sub_mod (by omega:(U.sz e)<=j)]
   by_cases hj:j<nn*(U.sz e)
   ·rw[hq nn j hj];have hmod:j%(U.sz e)<(U.sz e):=yP _ hpos;simp[hj,hsz,hmod]
   ·rw[x9 (l:=(zk nn zs).flatten) (by rw[hfl];omega)];simp[hj]
  by_cases hn0:nn=0
  ·have hm0:mm=0:=by omega
   subst hn0 hm0;exact pX hg (j0 w _) (.inl rfl) ⟨[],⟨by simp, .inl ⟨_,rfl,rfl⟩⟩,λi hi=>by simp at hi,λi hi=>by simp at hi⟩
  ·obtain⟨nk,rfl⟩:∃nk,nn=nk+1:=⟨nn-1,by omega⟩;have hu:∀i,i<(zk mm d).length->(U.cells e (zk mm d)[i]!).length=(U.sz e):=λi hi=>by
    rw[getElem!_pos _ i hi,List.getElem_replicate,<-(hd (λ_=>True) w).1,hsz]
   have hfl:∀q,(zk q zs).flatten.length=q*(U.sz e):=λq=>by simp[hsz]
   have hfl2:∀(A:Nat->Prop) (w:World) (q:Nat),bL A w ((zk q d).flatMap (U.cells e)) (zk q zs).flatten:=λA w q=>by
    induction q with
    |zero=>exact bL.nil
    |succ q ih=>rw[yO,yO,xH,wF];exact(hd A w).app ih
   have htk:∀q q':Nat,q<=q'->((zk q' zs).flatten).take (q*(U.sz e))=(zk q zs).flatten:=λq q' h=>by
    obtain⟨r,rfl⟩:∃r,q'=q+r:=⟨q'-q,by omega⟩;rw[<-List.replicate_append_replicate,List.flatten_append,<-hfl q];exact List.take_left
   refine pX (r:= .row (.slice (V ⟨w.heap.size,0,S⟩) mm (nk+1)) e (zk mm d)) hg (j0 w _) (.inr rfl) (FA (us:=(zk mm zs).flatten) ?_ hu ?_)
   ·rw[xO];refine⟨hfl mm, .inr ⟨w.heap.size,nk,_,rfl,heap_alloc_new w _,by omega,by unfold maxLen;omega,?_,by rw[hcells];exact htk _ _ (by omega)⟩⟩;rw[<-yg,hcells,hfl]
   ·exact hfl2 _ _ _
 ·simp[execOp,ho,hx',hy',hrun]
def Dy{w:World}{ty:TypeId}{i:TypeInfo}{zz:Value}{sz by' nn mm:Nat}{us news:aa Value}{xs:Value}(ht:P.underlying T=V (.slice e))(hi:P.info? e=V i)(hz:i.zero=V zz)(hs:i.size=sz)(hby:i.bytes=by')(hzs:zz.cells.size=sz)
  (hrow:gI w v e sz nn us) (hx:∃p c,xs= .slice p mm c/\(mm=0\/∃a,p=V a/\∀j u,news[j]? =V u->w.cell? (a.add j)=V u)) (hl:news.length=mm*sz) (h1:∀u∈news,u.oneCell'=O) (h63:nn+mm<=maxLen) (hb:(nn+mm)*by'<=140737488355328):
  ∃v' w',(Builtin.append_ #[T,T] ty #[v,xs]).run P w= .ok v' w'/\gI w' v' e sz (nn+mm) (us++news)/\Kp (gG v).toList w w'/\(gG v'=gG v\/gG v'=V w.heap.size):=by
 subst hs hby
 obtain⟨p,cx,rfl,hx⟩:=hx;by_cases hm:mm=0
 ·subst hm;have hn:news=[]:=xy (by simpa using hl);subst hn;obtain⟨q,cap,rfl,hcap⟩:=hrow.len;have hf:∀w,(Builtin.firstCells i.size 0 (.slice p 0 cx)).run P w= .ok #[] w:=λw=>by
   cases p<;>simp[Builtin.firstCells,loadCells,loadCellsFrom]
  have hrun:(Builtin.append_ #[T,T] ty #[.slice q nn cap, .slice p 0 cx]).run P w= .ok (.slice q nn cap) w:=by
   cases q<;>simp[Builtin.append_,run_underlying ht,sizeOf,typeInfo,hi,Builtin.lenOf,hf,hcap,storeCells]
  exact⟨_,w,hrun,by simpa using hrow,Kp.refl _ _, .inl rfl⟩
 ·obtain⟨a,rfl,hc⟩:=hx.resolve_left hm;have grown:∀(olds:aa Value) (old:Nat),olds.length=nn*i.size->old<nn+mm->us=olds->
    gI (w.drew.alloc (.cells (olds.toArray++news.toArray++Builtin.zeroCells zz.cells (grownCap w (nn+mm) old e-(nn+mm))) e)) (.slice (V ⟨w.heap.size,0,S⟩) (nn+mm) (grownCap w (nn+mm) old e)) e i.size (nn+mm) (us++news):=by
   intro olds old hol hlt hus;subst hus;have hge:=grownCap_ge w (nn+mm) old e;have hcm:=grownCap_le_maxLen w (nn+mm) old e h63;obtain⟨ck,hck⟩:∃ck,grownCap w (nn+mm) old e=ck+1:=⟨grownCap w (nn+mm) old e-1,by omega⟩;refine⟨by rw[zl,hol,hl,yb], .inr ⟨w.heap.size,ck,_,by rw[hck],heap_alloc_new w.drew _,by omega,by omega,?_,?_⟩⟩
   ·rw[<-hck];simp only[Array.size_append,xx,size_zeroCells,hzs,hol,hl,<-yb]
    congr 1
    omega
   ·simp only[Array.toList_append,yQ];rw[<-yQ,show (nn+mm)*i.size=(us++news).length from by rw[zl,hol,hl,yb]];exact List.take_left
  rcases hrow.2 with ⟨q,rfl,rfl⟩|⟨g,cap,cur,rfl,hg,hnc,hcm,hcs,htake⟩
  ·have hu:us=[]:=xy (by simpa using hrow.1);have hgr:=grown [] 0 (by simp) (by omega) hu;rw[yl]at hgr hb h63;have hgc:=grownCap_ge w mm 0 e;have hrb:gG (.slice (V ⟨w.heap.size,0,S⟩) mm (grownCap w mm 0 e))=V w.heap.size:=by
    obtain⟨ck,hck⟩:∃ck,grownCap w mm 0 e=ck+1:=⟨grownCap w mm 0 e-1,by omega⟩;rw[hck];rfl
   have h63':(mm:Int)<=9223372036854775807:=by unfold maxLen at h63;omega
   cases q with
   |none=>
    have hr:=run_append_nil (P:=P) w T ty e i zz ht hi hz a mm cx news hl hc (by omega) h63' (by omega);refine⟨_,_,hr,?_,Gv w _, .inr hrb⟩;rw[yl];simpa using hgr
   |some b=>
    have hr:=run_append_grow (P:=P) w T ty e i zz ht hi hz b 0 0 [] (by simp) (λj v hj=>by cases hj) a mm cx news hl hc (by omega) (by simpa using h63') (growslice_fits (by omega) (by rw[yl];exact hb));refine⟨_,_,hr,?_,Gv w _, .inr (by rw[yl];exact hrb)⟩;rw[yl];exact hgr
  ·by_cases hroom:nn+mm<=cap+1
   ·have hfit:nn*i.size+news.length<=cur.size:=by rw[hl,hcs,<-yb];exact yK _ hroom
    have hr:=run_append_room (P:=P) w T ty e i ht hi g nn (cap+1) cur hg a mm cx news hl hc h1 hroom hfit;refine⟨_,_,hr,⟨by rw[zl,hrow.1,hl,yb], .inr ⟨g,cap,_,rfl,setRow_heap w g cur _ e _ hg,hroom,hcm,?_,?_⟩⟩,mN w g _, .inl rfl⟩
    ·simp only[xx,zl,zH,yj,yg];omega
    ·rw[htake,show (nn+mm)*i.size=(us++news).length from by rw[zl,hrow.1,hl,yb]];exact List.take_left
   ·have holds:∀j v,us[j]? =V v->w.cell? ((⟨g,0,S⟩:Addr).add j)=V v:=λj v hj=>by
     rw[pI,yl];exact hrow.cells rfl j v hj
    have h63':((nn+mm:Nat):Int)<=9223372036854775807:=by unfold maxLen at h63;omega
    have hr:=run_append_grow (P:=P) w T ty e i zz ht hi hz ⟨g,0,S⟩ nn (cap+1) us hrow.1 holds a mm cx news hl hc (by omega) h63' (growslice_fits (by omega) hb);have hgr:=grown us (cap+1) hrow.1 (by omega) rfl;have hgc:=grownCap_ge w (nn+mm) (cap+1) e;refine⟨_,_,hr,hgr,⟨rfl,rfl,rfl,yf _,by simp,λk hk _=>heap_alloc_old w.drew _ hk⟩, .inr ?_⟩;obtain⟨ck,hck⟩:∃ck,grownCap w (nn+mm) (cap+1) e=ck+1:=⟨grownCap w (nn+mm) (cap+1) e-1,by omega⟩;rw[hck];rfl
def Src(σ:aa cE)(E:Env)(x:Operand)(e:TypeId)(l:aa (U.dw e)):Prop:=
 (∃p c,E.ev x=V (.lit (.slice p 0 c))/\l=[])\/E.ev x=V (.sl e l)\/∃(i:Nat) (v:Value),E.ev x=V (.lit v)/\σ[i]? =V (.row v e l)
def Src.spec{q:Nat}{l:aa (U.dw q)}{A:Nat->Prop}{w:World}{ρ:Operand->Value}(h:Src σ E x q l)(hd:Hd A σ w)(hρ:NT A w E ρ):∃p cap news,ρ x= .slice p l.length cap/\(l.length=0\/∃a,p=V a/\∀j u,news[j]? =V u->w.cell? (a.add j)=V u)/\news.length=l.length*(U.sz q)/\(∀i,i<l.length->(U.cells q l[i]!).length=(U.sz q))/\bL A w (l.flatMap (U.cells q)) news/\l.length<=9223372036854775807:=by
 rcases h with ⟨p,c,h,rfl⟩|h|⟨i,v,h,hσ⟩
 ·exact⟨p,c,[],(hρ _ _ h).cK, .inl rfl,by simp,λi hi=>by simp at hi,bL.nil,by simp⟩
 ·have hr:=hρ _ _ h;obtain⟨p,cap,u,hv,hl,_,hz,hc,hcr⟩:=hr.uF;rw[hv]at hr
  let news:aa Value:=(zM l.length).flatMap λi=>(zM (U.sz q)).map λj=>u i j
  have hnl:∀(z:aa Nat),(z.flatMap λi=>(zM (U.sz q)).map λj=>u i j).length=z.length*(U.sz q):=λz=>by
   induction z with
   |nil=>simp
   |cons a z ih=>rw[xH,zl,ih,zx,xF,yX,yN];omega
  have hnews:news.length=l.length*(U.sz q):=by rw[hnl,xF]
  have hget:∀n i j,i<n->j<(U.sz q)->((zM n).flatMap λi=>(zM (U.sz q)).map λj=>u i j)[i*(U.sz q)+j]? =V (u i j):=by
   intro n;induction n with
   |zero=>intro i j hi _;omega
   |succ n ih=>
    intro i j hi hj;rw[List.range_succ,wG,xh,hnl,xF];by_cases hin:i<n
    ·have:i*(U.sz q)+(U.sz q)<=n*(U.sz q):=by rw[<-yN];exact yK _ hin
     rw[bG (by omega)];exact ih i j hin hj
    ·have:i=n:=by omega
     subst this;rw[bP (by omega)];simp[hj]
  refine⟨p,cap,news,hv,?_,hnews,hz,?_,hl⟩
  ·by_cases h0:l.length=0
   ·exact .inl h0
   ·obtain⟨b,off,hp,hb,hA,hcc⟩:=hc 0 (by omega);refine .inr ⟨⟨b,off,S⟩,hp,λj v hj=> ?_⟩;have hjl:j<l.length*(U.sz q):=by rw[<-hnews];exact(z7.1 hj).1
    have hsz:0<(U.sz q):=by
     rcases wE (U.sz q)with h|h
     ·rw[h]at hjl;omega
     ·exact h
    have hi:j/(U.sz q)<l.length:=by rw[Nat.div_lt_iff_lt_mul hsz];exact hjl
    have hm:j%(U.sz q)<(U.sz q):=yP _ hsz;have he:j/(U.sz q)*(U.sz q)+j%(U.sz q)=j:=by rw[Nat.mul_comm];exact Nat.div_add_mod j (U.sz q)
    have h2:=hget l.length (j/(U.sz q)) (j%(U.sz q)) hi hm;rw[he]at h2;have h3:V v=V (u (j/(U.sz q)) (j%(U.sz q))):=by rw[<-hj,<-h2]
    cases h3;obtain⟨b',off',hp',_,_,hcc'⟩:=hc (j/(U.sz q)) hi;rw[hp]at hp';cases hp';have h4:=hcc' (j%(U.sz q)) hm;rw[pI,show off+j=off+j/(U.sz q)*(U.sz q)+j%(U.sz q)from by omega];exact h4
  ·obtain⟨f1,f2⟩:=lI l hz;refine⟨by rw[f1,hnews],λj a w' ha hw'=> ?_⟩;have hjl:j<l.length*(U.sz q):=by rw[<-hnews];exact(z7.1 hw').1
   have hsz:0<(U.sz q):=by
    rcases wE (U.sz q)with h|h
    ·rw[h]at hjl;omega
    ·exact h
   have hi:j/(U.sz q)<l.length:=by rw[Nat.div_lt_iff_lt_mul hsz];exact hjl
   have hm:j%(U.sz q)<(U.sz q):=yP _ hsz;have he:j/(U.sz q)*(U.sz q)+j%(U.sz q)=j:=by rw[Nat.mul_comm];exact Nat.div_add_mod j (U.sz q)
   have h2:=hget l.length (j/(U.sz q)) (j%(U.sz q)) hi hm;rw[he]at h2;have h3:V w'=V (u (j/(U.sz q)) (j%(U.sz q))):=by rw[<-hw',<-h2]
   cases h3;refine hcr (j/(U.sz q)) (j%(U.sz q)) a hi ?_;rw[<-f2 _ hi,yE,bG hm,yB,he];exact ha
 ·obtain⟨us,h1,h2,h3⟩:=DS (hd.1 _ (List.mem_of_getElem? hσ));obtain⟨p,cap,hv,_⟩:=h1.len;have hx':=(hρ _ _ h).cK;have hlm:l.length<=9223372036854775807:=by
   rcases h1.2 with ⟨_,_,h⟩|⟨_,_,_,_,_,q1,q2,_⟩
   ·omega
   ·unfold maxLen at q2;omega
  refine⟨p,cap,us,by rw[hx',hv],?_,h1.1,h2,h3,hlm⟩;by_cases h0:l.length=0
  ·exact .inl h0
  ·obtain⟨g,ck,cur,hv2,hgb,_⟩:=h1.at (by omega);rw[hv2]at hv;cases hv;refine .inr ⟨_,rfl,λj u hj=> ?_⟩;rw[pI,yl];exact h1.cells hgb j u hj
def Yv.app{by':Nat}{l l2:aa (U.dw e)}{zs:aa Value}(i:Nat)(ho:o.op= .call {callee:= .builtin .append,args:=#[x,y],argTypes:=#[T,T]})(hx:E.ev x=V (.lit v))(hσ:σ[i]? =V (.row v e l))(hy:Src σ E y e l2)(hT:P.underlying T=V (.slice e))(hs:(P.info? e).map (λi=>(i.size,i.bytes))=V ((U.sz e),by'))(hz:jR P e=V zs)(hzl:zs.length=(U.sz e))(hb:yh by' 4096=O)
  (h1:∀x:U.dw e,(U.cells e x).all iu=O) (hlen:(l++l2).length<=1073741824):Yv P E σ o C (xN (gG v)) (λa σ'=>∃v',a= .lit v'/\σ'=σ.set i (.row v' e (l++l2))):=λw ρ hg hρ=>by
 obtain⟨it,hit,hz1⟩:=zn.1 hz;obtain⟨zv,hz2,hz3⟩:=zj.1 hz1;obtain⟨ie,hie,hse⟩:=zj.1 hs;have hee:it=ie:=by rw[hit]at hie;exact zA.inj hie
 subst hee;simp only[Prod.mk.injEq]at hse;obtain⟨s1,s2⟩:=hse;have hby:by'<=4096:=by simpa using hb
 obtain⟨us,g1,g2,g3⟩:=DS (hg.res _ (List.mem_of_getElem? hσ));obtain⟨p,cap,news,q1,q2,q3,q4,q5,q6⟩:=hy.spec hg.hd hρ;have hx':=(hρ _ _ hx).cK;have hone:∀u∈news,u.oneCell'=O:=q5.one (by
  rw[zw];intro a ha;obtain⟨x,_,hx⟩:=xP.1 ha;exact zw.1 (h1 x) a hx)
 rw[zl]at hlen;have hbytes:(l.length+l2.length)*by'<=140737488355328:=by
  have:(l.length+l2.length)*by'<=1073741824*4096:=Nat.mul_le_mul hlen hby
  omega
 obtain⟨v',w',r1,r2,r3,r4⟩:=Dy (P:=P) (T:=T) (ty:=o.type) (xs:=ρ y) hT hit hz2 s1 s2 (by rw[<-yg,hz3,hzl]) g1 ⟨p,cap,q1,q2⟩ q3 hone (by unfold maxLen;omega) hbytes;refine⟨v',w',_,_,⟨v',rfl,rfl⟩,Eg (r:= .row v e l) hg hσ r3 r4 (FA (by rw[zl];exact r2) (Ni g2 q4) ?_),?_, .lit _⟩
 ·rw[wG];refine(g3.app q5).mono λb hb hA=>⟨⟨hA.1,λhx=> ?_⟩,r3.block b hb (λhx=>hA.2 (bU.2 ⟨_,List.mem_of_getElem? hσ,by simpa [cE.blk]using hx⟩))⟩;obtain⟨s,hs1,hs2⟩:=bU.1 hx;rcases List.mem_or_eq_of_mem_set hs1 with h|h
  ·exact hA.2 (bU.2 ⟨s,h,hs2⟩)
  ·rw[h]at hs2;rcases r4 with r4|r4
   ·exact hA.2 (bU.2 ⟨_,List.mem_of_getElem? hσ,r4.symm.trans hs2⟩)
   ·have:V w.heap.size=V b:=r4.symm.trans hs2;cases this;omega
 ·simp[execOp,ho,resolve,invoke,builtin,hx',r1]
end
def Rel.aqf{A:Nat->Prop}{w:World}{qt:Nat}{l:aa (U.dw qt)}{p:af Addr}{cap:Nat}(h:Rel A w (.sl qt l) (.slice p l.length cap)){lo hi cap':Nat}(h1:lo<=hi)(h2:hi<=l.length)(hc':hi-lo<=cap')(q:af Addr)(hq:hi-lo=0\/q=p.map (·.add (lo*(U.sz qt)))):
  Rel A w (.sl qt ((l.take hi).drop lo)) (.slice q (hi-lo) cap'):=by
 obtain⟨p',cp,u,hv,hl,hcap,hz,hc,hr⟩:=h.uF;cases hv;have hln:((l.take hi).drop lo).length=hi-lo:=by rw[yj,zH];omega
 have hget:∀i,i<hi-lo->((l.take hi).drop lo)[i]! =l[lo+i]! :=λi hi'=>by
  rw[getElem!_pos _ i (by rw[hln];exact hi'),getElem!_pos l (lo+i) (by omega),wH,we]
 have hgoal:Rel A w (.sl qt ((l.take hi).drop lo)) (.slice q ((l.take hi).drop lo).length cap'):=by
  refine .sl qt _ q cap' (λi j=>u (lo+i) j) (by omega) (by omega) (λi hi'=> ?_) (λi hi'=> ?_) (λi j a hi' ha=> ?_)
  ·rw[hln]at hi';rw[hget i hi'];exact hz _ (by omega)
  ·rw[hln]at hi';obtain⟨b,off,hp,hb,hA,hcc⟩:=hc (lo+i) (by omega);refine⟨b,off+lo*(U.sz qt),?_,hb,hA,λj hj=> ?_⟩
   ·rcases hq with hq|hq
    ·omega
    ·rw[hq,hp,yy,pI]
   ·have:=hcc j hj
    rwa [yb,<-xG]at this
  ·rw[hln]at hi';rw[hget i hi']at ha;exact hr _ j a (by omega) ha
 rwa [hln]at hgoal
section
variable {P:Program} {E E':Env} {σ σ':aa cE} {o:Oper} {T T' e:TypeId} {x y z:Operand} {av bv:AV} {v u:Value} {m n:Int} {b:Bool} {k k':IntKind} {C:Cx} {X:aa Nat}
def U2{w:World}{a:af Addr}{len cap lo hi:Nat}{s:Nat}{L H:af Value}(hT:P.underlying T=V (.slice e))(hs:(P.info? e).map (·.size)=V s)
  (hb:(Instr.sliceBounds O len cap L H S).run P w= .ok (lo,hi,cap) w):(Instr.slice T (.slice a len cap) L H S).run P w= .ok (.slice (if cap=lo then a else a.map (·.add (lo*s))) (hi-lo) (cap-lo)) w:=by
 obtain⟨j,hj,hj'⟩:=zj.1 hs;simp[Instr.slice,run_underlying hT,hb,sizeOf,typeInfo,hj,hj']
def Mu{w:World}{len cap:Nat}(hh:0<=m/\m<=n/\n<=(len:Int))(hc:len<=cap):(Instr.sliceBounds O len cap (V (.int k m)) (V (.int k' n)) S).run P w= .ok (m.toNat,n.toNat,cap) w:=by
 have h1:0<=n/\n<=(cap:Int):=by omega
 have h2:0<=m/\m<=((n.toNat:Nat):Int):=by omega
 simp[Instr.sliceBounds,Instr.sliceBound,asIntOf,h1];intro hc;exfalso;have:=hc (by omega);omega
def VZ{w:World}{len cap:Nat}(hh:0<=n/\n<=(len:Int))(hc:len<=cap):(Instr.sliceBounds O len cap S (V (.int k' n)) S).run P w= .ok (0,n.toNat,cap) w:=by
 have h1:0<=n/\n<=(cap:Int):=by omega
 simp[Instr.sliceBounds,Instr.sliceBound,asIntOf,h1]
def UU{w:World}{len cap:Nat}(hh:0<=m/\m<=(len:Int)):(Instr.sliceBounds O len cap (V (.int k m)) S S).run P w= .ok (m.toNat,len,cap) w:=by
 simp[Instr.sliceBounds,Instr.sliceBound,asIntOf,hh]
def Aq{A:Nat->Prop}{w:World}{ρ:Operand->Value}{q:Nat}{l:aa (U.dw q)}{L H:af Operand}{lo hi:Nat}(ho:o.op= .slice T x L H S)(hx:Rel A w (.sl q l) (ρ x))(hT:P.underlying T=V (.slice e))(hs:(P.info? e).map (·.size)=V (U.sz q))(h1:lo<=hi)(h2:hi<=l.length)
  (hb:∀cap,l.length<=cap->∀w',(Instr.sliceBounds O l.length cap (L.map ρ) (H.map ρ) S).run P w'= .ok (lo,hi,cap) w'):∃v,Rel A w (.sl q ((l.take hi).drop lo)) v/\∀w':World,(execOp ρ o).run P w'= .ok (.value v) w':=by
 obtain⟨p,cap,u,hv,hl,hcap,_⟩:=hx.uF;rw[hv]at hx;refine⟨.slice (if cap=lo then p else p.map (·.add (lo*(U.sz q)))) (hi-lo) (cap-lo),hx.aqf h1 h2 (by omega) _ ?_,λw'=> ?_⟩
 ·by_cases h:cap=lo
  ·left;omega
  ·right;rw[bP h]
 ·have:=U2 (P:=P) (T:=T) (w:=w') (a:=p) (len:=l.length) hT hs (hb cap hcap w');simp[execOp,ho,hv,Instr.sliceAt,run_underlying hT,this]
def Yp.ani{q:Nat}{l:aa (U.dw q)}(ho:o.op= .slice T x (V y) (V z) S)(hx:E.ev x=V (.sl q l))(hy:E.ev y=V (.n k m))(hz:E.ev z=V (.n k' n))(hT:P.underlying T=V (.slice e))(hs:(P.info? e).map (·.size)=V (U.sz q))
  (hm:0<=m/\m<=n/\n<=(l.length:Int)):Yp P E σ o (.sl q ((l.take n.toNat).drop m.toNat)):=λA w ρ _ hρ=>by
 obtain⟨v,h1,h2⟩:=Aq (P:=P) (lo:=m.toNat) (hi:=n.toNat) ho (hρ _ _ hx) hT hs (by omega) (by omega) (λcap hc w'=>by
  simp only[yy,(hρ _ _ hy).cK,(hρ _ _ hz).cK];exact Mu hm hc)
 exact⟨v,h1,λw' _=>h2 w'⟩
def Yp.agJ{q:Nat}{l:aa (U.dw q)}(ho:o.op= .slice T x S (V z) S)(hx:E.ev x=V (.sl q l))(hz:E.ev z=V (.n k' n))(hT:P.underlying T=V (.slice e))(hs:(P.info? e).map (·.size)=V (U.sz q))
  (hm:0<=n/\n<=(l.length:Int)):Yp P E σ o (.sl q (l.take n.toNat)):=λA w ρ _ hρ=>by
 obtain⟨v,h1,h2⟩:=Aq (P:=P) (lo:=0) (hi:=n.toNat) ho (hρ _ _ hx) hT hs (by omega) (by omega) (λcap hc w'=>by
  simp only[yy,Option.map_none,(hρ _ _ hz).cK];exact VZ hm hc)
 exact⟨v,h1,λw' _=>h2 w'⟩
def Yp.ajz{q:Nat}{l:aa (U.dw q)}(ho:o.op= .slice T x (V y) S S)(hx:E.ev x=V (.sl q l))(hy:E.ev y=V (.n k m))(hT:P.underlying T=V (.slice e))(hs:(P.info? e).map (·.size)=V (U.sz q))
  (hm:0<=m/\m<=(l.length:Int)):Yp P E σ o (.sl q (l.drop m.toNat)):=λA w ρ _ hρ=>by
 obtain⟨v,h1,h2⟩:=Aq (P:=P) (lo:=m.toNat) (hi:=l.length) ho (hρ _ _ hx) hT hs (by omega) (by omega) (λcap hc w'=>by
  simp only[yy,Option.map_none,(hρ _ _ hy).cK];exact UU hm)
 rw[zD]at h1;exact⟨v,h1,λw' _=>h2 w'⟩
def Yv.TQ{sz':Nat}{q:Nat}{l:aa (U.dw q)}(ho:o.op= .slice T x S (V (.const (.int k 0))) (V (.const (.int k' 0))))(hx:E.ev x=V (.sl q l)\/E.ev x=V (.lit (.slice S 0 0)))(hT:P.underlying T=V (.slice e))(hs:(P.info? e).map (·.size)=V sz'):
  Yv P E σ o C [] (λa σ'=>∃v,a= .lit v/\σ'= .row v e ([]:aa (U.dw e))::σ):=λw ρ hg hρ=>by
 obtain⟨j,hj,hj'⟩:=zj.1 hs;obtain⟨p,n,cap,hv⟩:∃p n cap,ρ x= .slice p n cap:=by
  rcases hx with hx|hx
  ·obtain⟨p,cap,u,hv,_⟩:=(hρ _ _ hx).uF;exact⟨p,_,cap,hv⟩
  ·exact⟨S,0,0,(hρ _ _ hx).cK⟩
 have h0:ρ (.const (.int k 0))= .int k 0:=(hρ (.const (.int k 0)) _ rfl).cK;have h0':ρ (.const (.int k' 0))= .int k' 0:=(hρ (.const (.int k' 0)) _ rfl).cK;refine⟨.slice p 0 0,w,_,_,⟨_,rfl,rfl⟩,pX hg (Kp.refl [] w) (.inl (by cases p<;>rfl)) ⟨[],⟨by simp, .inl ⟨_,rfl,rfl⟩⟩,λi hi=>by simp at hi,λi hi=>by simp at hi⟩,?_, .lit _⟩;simp[execOp,ho,hv,h0,h0',Instr.sliceAt,Instr.slice,Instr.sliceBounds,Instr.sliceBound,run_underlying hT,sizeOf,typeInfo,hj,asIntOf]
def Yp.aqH{p:af Addr}{l c:Nat}(ho:o.op= .binOp .eql T x y T')(hx:E.ev x=V (.lit (.slice p l c)))(hy:E.ev y=V (.lit (.slice S 0 0)))(hT:P.underlying T=V (.slice e)):Yp P E σ o (.b p.isNone):=Yp.lits λρ hρ w=>by
 have:=Lib.run_eql_slice_nil (P:=P) w T e p l c 0 0 hT;simp[execOp,ho,hρ _ _ hx,hρ _ _ hy,eqGuard,this]
def Qm{w:World}(p:af Addr)(q:Nat)(h:Good C σ w):Tr C [] σ w (.row (.slice p 0 0) q ([]:aa (U.dw q))::σ) w:=
 pX h (Kp.refl [] w) (.inl (by cases p<;>rfl)) ⟨[],⟨by simp, .inl ⟨_,rfl,rfl⟩⟩,λi hi=>by simp at hi,λi hi=>by simp at hi⟩
def Vw(σ:aa cE)(a a':AV):Prop:=∀(A:Nat->Prop) (w:World) (v:Value),Hd A σ w->Rel A w a v->Rel (λb=>A b\/b∈bF σ) w a' v
def Vw.row{q:Nat}{l:aa (U.dw q)}(i:Nat)(hσ:σ[i]? =V (.row v q l)):Vw σ (.lit v) (.sl q l):=λA w u hd h=>by
 have hu:=h.cK;subst hu;have hm:=List.mem_of_getElem? hσ;obtain⟨us,h1,h2,h3⟩:=hd.1 _ hm;have hlm:l.length<=9223372036854775807:=by
  rcases h1.2 with ⟨_,_,h⟩|⟨_,_,_,_,_,q1,q2,_⟩
  ·omega
  ·unfold maxLen at q2;omega
 obtain⟨p,cap,hv,hcap⟩:=h1.len;by_cases h0:l.length=0
 ·rw[hv];exact .sl q l p cap (λ_ _=>undef) hlm hcap (λi hi=>by omega) (λi hi=>by omega) (λi j a hi=>by omega)
 ·obtain⟨g,ck,cur,hv2,hgb,hB,_⟩:=h1.at (by omega);rw[hv2]at hv;cases hv;rw[hv2];refine .sl q l _ (ck+1) (λi j=>(us[i*(U.sz q)+j]?).getD undef) hlm hcap h2 (λi hi=>⟨g,0,rfl,hB.lt, .inr (bU.2 ⟨_,hm,hgb⟩),λj hj=> ?_⟩) (λi j a hi ha=> ?_)
  ·have hlt:i*(U.sz q)+j<us.length:=by
    have:i*(U.sz q)+(U.sz q)<=l.length*(U.sz q):=by rw[<-yN];exact yK _ hi
    rw[h1.1];omega
   rw[yl,zu hlt];exact h1.cells hgb _ _ (zu hlt)
  ·obtain⟨u,q1,q2⟩:=(h3 i hi).get ha;rw[yE]at q1;split at q1
   ·rw[yB]at q1;rw[q1];exact q2.mono λb _ hA=>⟨.inl hA,rfl⟩
   ·cases q1
def Vw.nil(q:Nat):Vw σ (.lit (.slice S 0 0)) (.sl q ([]:aa (U.dw q))):=λA w u _ h=>by
 have hu:=h.cK;subst hu;exact .sl q [] none 0 (λ_ _=>undef) (by simp) (by simp) (λi hi=>by cases hi) (λi hi=>by cases hi) (λi j a hi=>by cases hi)
def Qf{r:cE}{i:Nat}(hσ:σ[i]? =V r):List.Perm (bF σ) (bF (r::σ.eraseIdx i)):=by
 obtain⟨h1,_⟩:=Ak (r':=r) hσ;have h2:σ.eraseIdx i=σ.take i++σ.drop (i+1):=wP ..;rw[h2];have hp:List.Perm (σ.take i++r::σ.drop (i+1)) (r::(σ.take i++σ.drop (i+1))):=List.perm_middle;rw[<-h1]at hp;exact hp.filterMap _
def NL{r:cE}{i:Nat}{w:World}(hσ:σ[i]? =V r)(hg:Good C σ w):∀b,(al C σ b\/b∈bF [r])->al C (σ.eraseIdx i) b:=λb hb=>by
 have hp:=Qf hσ;have hnd:=hp.nodup_iff.1 hg.Gc;rcases hb with hb|hb
 ·exact⟨hb.1,λhx=>hb.2 (hp.mem_iff.2 (by rw[fA];exact yJ _ hx))⟩
 ·have hbs:b∈r.blk.toList:=by rw[fA]at hb;simpa [bF]using hb
  refine⟨?_,λhx=> ?_⟩
  ·rcases hg.own b (hp.mem_iff.2 (by rw[fA];exact yI _ hbs))with h|h
   ·exact .inr (.inl h)
   ·exact .inr (.inr h)
  ·rw[fA]at hnd;exact(yH.1 hnd).2.2 b hbs b hx rfl
end
def Fn(P:Program)(f:FuncId)(args:aa AV)(σ:aa cE)(Φ:AV->aa cE->Prop):Prop:=
 ∀(w:World) (A:Nat->Prop) (vs:aa Value),bL A w args vs->Hd A σ w->(bF σ).Nodup->
  Calls P f vs.toArray w λe w'=>∃v av σ',e= .returned v/\Φ av σ'/\Tr ⟨w,A,bF σ⟩ (bF σ) σ w σ' w'/\Rel (al ⟨w,A,bF σ⟩ σ') w' av v
def Fn.mono{P:Program}{f:FuncId}{args:aa AV}{σ:aa cE}{Φ Ψ:AV->aa cE->Prop}(h:Fn P f args σ Φ)(hp:∀a s,Φ a s->Ψ a s):Fn P f args σ Ψ:=λw A vs h1 h2 h3=>
 (h w A vs h1 h2 h3).mono λ_ _ ⟨v,av,σ',q1,q2,q3⟩=>⟨v,av,σ',q1,hp _ _ q2,q3⟩
def fk:Nat->aa AV->Env
 |_,[]=>[]
 |i,v::l=>(i,v)::fk (i+1) l
def Bi:∀(l:aa AV) (i t:Nat) (v:AV),Env.get (fk i l) t=V v->i<=t/\l[t-i]? =V v
 |[],_,_,_,h=>by cases h
 |u::l,i,t,v,h=>by
  by_cases hit:i=t
  ·subst hit;rw[fk,Env.fh]at h;cases h;simp
  ·rw[fk,Env.dS _ _ hit]at h;obtain⟨h1,h2⟩:=Bi l (i+1) t v h;refine⟨by omega,?_⟩;rw[show t-i=(t-(i+1))+1 from by omega];simpa using h2
def ac5(P:Program)(C:Cx)(n:Nat)(fn:Func)(Φ:AV->aa cE->Prop):Exit->Env->aa cE->Prop:=λe E σ=>
 (e= .normal\/e= .ret)/\∀a w,tF C n E σ a w->∃v av σ',Φ av σ'/\(results fn a.tmps).run P w= .ok v w/\Good C σ' w/\(∀b,al C σ b->al C σ' b)/\Rel (al C σ') w av v
structure Tn (C:Cx) (w w':World):Prop where
 os:w'.os=w.os
 tape:w'.tape=w.tape
 output:w'.output=w.output
 drawn:w.drawn<=w'.drawn
 size:w.heap.size<=w'.heap.size
 old:∀k,k<C.w0.heap.size->w'.heap[k]? =w.heap[k]?
 same:∀(b:Nat) cs T m,w.heap[b]? =V (Obj.cells cs T m)->w'.heap[b]? =w.heap[b]?
def Rel.IL{C:Cx}{A:Nat->Prop}{w w':World}{av:AV}{v:Value}(h:Rel A w av v)(ht:Tn C w w'):Rel A w' av v:=by
 have hcell:∀b i u,w.cell? ⟨b,i,S⟩=V u->w'.cell? ⟨b,i,S⟩=V u:=λb i u hc=>by
  rw[<-hc];cases hb:w.heap[b]? with
  |none=>simp[World.cell?,hb]at hc
  |some o=>
   cases o with
   |cells cs T m=>exact World.cell?_of_block (ht.same b cs T m hb)
   |_=>simp[World.cell?,hb]at hc
 induction h with
 |lit v=>exact .lit v
 |sl q l p cap u hl hcap hz hc hr ih=>
  refine .sl q l p cap u hl hcap hz (λi hi=> ?_) ih;obtain⟨b,off,h1,h2,h3,h4⟩:=hc i hi;exact⟨b,off,h1,x8 h2 ht.size,h3,λj hj=>hcell _ _ _ (h4 j hj)⟩
 |fp cs b o us hb hA hl hc hr ih=>exact .fp cs b o us (x8 hb ht.size) hA hl (λj v hj=>hcell _ _ _ (hc j v hj)) ih
 |rp v k g h=>exact .rp v k g h
 |agg cs us hl hr ih=>exact .agg cs us hl ih
 |iL cs us hl hr ih=>exact .iL cs us hl ih
 |fn f cs us hl hr ih=>exact .fn f cs us hl ih
def cE.ok.IL{C:Cx}{A:Nat->Prop}{w w':World}{r:cE}(h:r.ok A w)(ht:Tn C w w'):r.ok A w':=by
 cases r with
 |box b T cs=>
  obtain⟨us,h1,h2⟩:=h;exact⟨us,(ht.same _ _ _ _ h1).trans h1,h2.1,λj a v q1 q2=>(h2.2 j a v q1 q2).IL ht⟩
 |row v q l=>
  obtain⟨us,h1,h2,h3⟩:=h;refine⟨us,⟨h1.1,?_⟩,h2,λi hi=>⟨(h3 i hi).1,λj a v q1 q2=>((h3 i hi).2 j a v q1 q2).IL ht⟩⟩;rcases h1.2 with q|⟨g,cap,cur,rfl,q1,q2⟩
  ·exact .inl q
  ·exact .inr ⟨g,cap,cur,rfl,(ht.same _ _ _ _ q1).trans q1,q2⟩
def Good.IL{C:Cx}{σ:aa cE}{w w':World}(h:Good C σ w)(ht:Tn C w w'):Good C σ w':=
 ⟨⟨ht.os.trans h.kept.os,ht.tape.trans h.kept.tape,ht.output.trans h.kept.output,zK h.kept.drawn ht.drawn,zK h.kept.size ht.size,λk hk hX=>(ht.old k hk).trans (h.kept.block k hk hX)⟩,
  λr hr=>(h.res r hr).IL ht,h.Gc,h.own⟩
def Tn.putObj{C:Cx}{w:World}{D:Nat}{o:Obj}(o':Obj)(hw:C.w0.heap.size<=D)(hD:w.heap[D]? =V o)(ho:o.isCells=G):Tn C w (w.putObj D o'):=
 ⟨rfl,rfl,rfl,zo _,by simp[World.putObj],λk hk=>World.putObj_heap_other (by omega),λb cs T m hx=>World.putObj_heap_other λe=>by
  subst e;rw[hD]at hx;cases hx;cases ho⟩
def lH.IL{C:Cx}{A:Nat->Prop}{w w':World}{E:Env}{tmps:Array Value}(h:lH A w E tmps)(ht:Tn C w w'):lH A w' E tmps:=λt av q=>let ⟨v,h1,h2⟩:=h t av q;⟨v,h1,h2.IL ht⟩
def Fn.of{P:Program}{f:FuncId}{fn:Func}{c:Code}{n:Nat}{args:aa AV}{σ:aa cE}{Φ:AV->aa cE->Prop}(hf:P.funcs[f]? =V fn)(hb:fn.body=V c)(hn:fn.ntmps=n)(hl:yh args.length n=O)
  (h:∀C,CW P C n c (ac5 P C n fn Φ) (fk 0 args) σ):Fn P f args σ Φ:=λw A vs hr hd hnd=>by
 have hl':args.length<=n:=by simpa using hl
 have hvl:=hr.1;have hal:∀b,b<w.heap.size->A b->al ⟨w,A,bF σ⟩ σ b:=λb _ hA=>⟨.inl hA,λhx=>hd.2 b hx hA⟩;have hgood:Good ⟨w,A,bF σ⟩ σ w:=⟨Kp.refl _ _,λr hr=>(hd.1 r hr).mono (λb hb hA=>⟨hal b hb hA,rfl⟩) (λ_ _=>rfl),hnd,λb hb=> .inl hb⟩;refine callsIn_wide.1 (callsIn_of_wp_marks (n:=0) hf hb trivial (wpIn_wide.2 (wp_mono (h ⟨w,A,bF σ⟩ _ w ⟨.nil rfl,?_,λt v ht=> ?_,hgood⟩) ?_)))
 ·simp[hn,hvl];omega
 ·obtain⟨_,h2⟩:=Bi args 0 t v ht;rw[Nat.sub_zero]at h2;obtain⟨u,h3,h4⟩:=hr.get h2;have hlt:t<vs.length:=(z7.1 h3).1;refine⟨u,?_,h4.mono λb hb hA=>⟨hal b hb hA,rfl⟩⟩;rw[Array.getElem?_append_left (by simpa using hlt)];simpa using h3
 ·rintro e a' w' ⟨E',σ',h1,he,h2⟩;have fin:∀(w'':World),tF ⟨w,A,bF σ⟩ n E' σ' {a' with defers:=[]} w''->∃v,(results fn a'.tmps).run P w''= .ok v w''/\∃v' av σ'',Ending.returned v= .returned v'/\Φ av σ''/\Tr ⟨w,A,bF σ⟩ (bF σ) σ w σ'' w''/\Rel (al ⟨w,A,bF σ⟩ σ'') w'' av v':=λw'' hs=>by
   obtain⟨v,av,σ'',h3,h4,h5,h6,h7⟩:=h2 _ w'' hs;have hex:Tr ⟨w,A,bF σ⟩ (bF σ) σ w σ'' w'':=⟨h5,h5.kept,λb hb hA=>⟨⟨hA.1,λhx=>by
    rcases h5.own b hx with h|h
    ·exact hA.2 h
    ·exact dF hb (by have:w.heap.size<=b:=h;omega)⟩,hA.2⟩⟩
   exact⟨v,h4,v,av,σ'',rfl,h3,hex,h7⟩
  have lv:LeavesInM Fence.wide 0 P fn a'.tmps (λe w'=>∃v av σ',e= .returned v/\Φ av σ'/\Tr ⟨w,A,bF σ⟩ (bF σ) σ w σ' w'/\Rel (al ⟨w,A,bF σ⟩ σ') w' av v) a'.defers .returning w':=by
   obtain⟨Ds,hd1,hd2,hd3⟩:=h1.defers;rw[hd1];have hsl:=h1.slots;have hgd:=h1.good;have hsz:=h1.size;clear hd1 h1;induction Ds generalizing w' with
   |nil=>exact fin w' ⟨.nil rfl,hsz,hsl,hgd⟩
   |cons D Ds ih=>
    obtain⟨q1,q2,q3,q4⟩:=hd3 D zm;rw[List.nodup_cons]at hd2;refine⟨by simp, .inl ⟨D,_,rfl,run_takeDeferred q4,?_⟩⟩;have ht:Tn ⟨w,A,bF σ⟩ w' (w'.putObj D (.deferred S)):= .putObj _ q2 q4 rfl;refine ih _ hd2.2 (λD' hD'=> ?_) (hsl.IL ht) (hgd.IL ht);obtain⟨p1,p2,p3,p4⟩:=hd3 D' (zO _ hD');have hne:D'≠D:=λe=>hd2.1 (e▸hD');exact⟨x8 p1 ht.size,p2,p3,(World.putObj_heap_other hne).trans p4⟩
  rcases he with rfl|rfl
  ·exact lv
  ·exact lv
def su(tmps:Array Value):ResultVar->Sem Value
 | .tmp t=>pure (tmps.getD t undef)
 | .cell a t=>do loadVar t (<-asAddr (tmps.getD a undef))
def Fg(P:Program)(E:Env)(σ:aa cE)(rv:ResultVar)(av:AV):Prop:=∀(A:Nat->Prop) (w:World) (tmps:Array Value),Hd A σ w->lH A w E tmps->∃v,(su tmps rv).run P w= .ok v w/\Rel A w av v
section
variable {P:Program} {C:Cx} {n:Nat} {fn:Func} {E:Env} {σ σ':aa cE} {t u:Nat} {av:AV} {e:Exit} {Φ:AV->aa cE->Prop}
def Fg.tmp(h:E.get t=V av):Fg P E σ (.tmp t) av:=λA w tmps _ hs=>by
 obtain⟨v,h1,h2⟩:=hs t av h;exact⟨v,by simp[su,h1],h2⟩
def Fg.axB{g:Nat}{ty T:TypeId}{cs:aa AV}(i:Nat)(h:E.get t=V (.lit (.pointer (V ⟨g,0,S⟩))))(hσ:σ[i]? =V (.box g T cs))(hT:rW P ty)(ha:cs[0]? =V av):Fg P E σ (.cell t ty) av:=λA w tmps hd hs=>by
 obtain⟨v,h1,h2⟩:=hs t _ h;have h2:=h2.cK;subst h2;obtain⟨us,h3,h4⟩:=hd.1 _ (List.mem_of_getElem? hσ);obtain⟨v,h5,h6⟩:=h4.get ha;exact⟨v,by simp[su,h1,asAddr,iF hT (h3.cell (by simpa using h5))],h6⟩
def Fg.axO{g k:Nat}{ty T:TypeId}{cs:aa AV}(i:Nat)(h:E.get t=V (.lit (.pointer (V ⟨g,0,S⟩))))(hσ:σ[i]? =V (.box g T cs))(hT:sE P ty k)(hk:cs.length=k):Fg P E σ (.cell t ty) (.agg cs):=λA w tmps hd hs=>by
 obtain⟨v,h1,h2⟩:=hs t _ h;have h2:=h2.cK;subst h2;obtain⟨us,h3,h4⟩:=hd.1 _ (List.mem_of_getElem? hσ);refine⟨_,?_,Rel.oM h4⟩;have:=ia (P:=P) (T:=ty) (w:=w) (a:=⟨g,0,S⟩) (cs:=us) (by rw[h4.1,hk];exact hT) (λj u hj=>by rw[pI,yl];exact h3.cell (by simpa using hj));simp[su,h1,asAddr,this]
def Yk(he:e= .normal\/e= .ret)(hs:List.Sublist σ' σ)(hΦ:Φ av σ')(h:∀A w tmps,Hd A σ w->lH A w E tmps->∃v,(results fn tmps).run P w= .ok v w/\Rel A w av v):ac5 P C n fn Φ e E σ:=
 ⟨he,λa w ha=>by
  obtain⟨v,h1,h2⟩:=h _ w a.tmps ha.good.hd ha.slots;have hl:=ha.less hs;have hal:∀b,al C σ b->al C σ' b:=λb hb=>⟨hb.1,λhx=>hb.2 (pN (λr hr=>hs.subset hr) b hx)⟩;exact⟨v,av,σ',hΦ,h1,hl.good,hal,h2.mono λb _ hA=>⟨hal b hA,rfl⟩⟩⟩
end
def s8(P:Program)(f:FuncId):Prop:=∃fn,P.funcs[f]? =V fn/\(fn.name=="runtime.NumGoroutine")=G/\fn.body.isNone=G
def Bv{P:Program}{f:FuncId}{w:World}(hf:s8 P f)(args:Array Value):(callFunc f args).run P w= .ok (.enter f args) w:=by
 obtain⟨fn,h1,h2,h3⟩:=hf;have h2':¬fn.name="runtime.NumGoroutine":=by simpa using h2
 have h3':¬fn.body=S:=by
  intro h;rw[h]at h3;cases h3
 simp[callFunc,program,Sem.run,h1,h2',h3']
def Cl(a:AV):Prop:=∀A A' w v,Rel A w a v->Rel A' w a v
def Cl.lit(v:Value):Cl (.lit v):=λA A' w u h=>by rw[h.cK];exact .lit v
def KE(as0:aa AV):Prop:=∀A A' w us,bL A w as0 us->bL A' w as0 us
def KE.nil:KE []:=λA A' w us h=>by
 have:us=[]:=xy (by simpa using h.1);rw[this];exact bL.nil
def KE.cons{a:AV}{as0:aa AV}(h:Cl a)(hs:KE as0):KE (a::as0):=λA A' w us hr=>by
 obtain⟨v,us',rfl,h1,h2⟩:=hr.head;exact bL.cons (h A A' w v h1) (hs A A' w us' h2)
def Cl.agg{as0:aa AV}(h:KE as0):Cl (.agg as0):=λA A' w v hr=>by
 obtain⟨us,rfl,h1⟩:=hr.nP;exact Rel.oM (h A A' w us h1)
def Cl.iL{as0:aa AV}(h:KE as0):Cl (.iL as0):=λA A' w v hr=>by
 obtain⟨us,rfl,h1⟩:=hr.Pq;exact Rel.FO (h A A' w us h1)
def ClR(r:cE):Prop:=∀A A' w,r.ok A w->r.ok A' w
def ClR.box{b:Nat}{T:TypeId}{cs:aa AV}(h:KE cs):ClR (.box b T cs):=λA A' w ⟨us,h1,h2⟩=>⟨us,h1,h A A' w us h2⟩
def ClR.row{v:Value}{q:Nat}{l:aa (U.dw q)}(h:∀x,KE (U.cells q x)):ClR (.row v q l):=λA A' w ⟨us,h1,h2,h3⟩=>⟨us,h1,h2,λi hi=>h _ A A' w _ (h3 i hi)⟩
section
variable {P:Program} {C:Cx} {E:Env} {σ σp σr:aa cE} {o:Oper} {x:Operand} {f:FuncId} {xs:Array Operand} {ts:Array TypeId} {as0 caps args:aa AV} {Φ:AV->aa cE->Prop}
def Wy{A:Nat->Prop}{w:World}{ρ:Operand->Value}(ho:o.op= .call {callee:= .value x,args:=xs,argTypes:=ts})(hx:E.ev x=V (.fn (.func f) caps))(hf:s8 P f)(he:E.KI xs.toList=V as0)(ha:as0++caps=args)(hρ:NT A w E ρ):∃us:aa Value,bL A w args us/\(execOp ρ o).run P w= .ok (.enter f us.toArray) w:=by
 obtain⟨us,h1,h2⟩:=(hρ _ _ hx).Xn;have h3:=Env.Jh hρ he;refine⟨xs.toList.map ρ++us,ha▸h3.app h2,?_⟩;have h4:xs.map ρ=(xs.toList.map ρ).toArray:=by apply Array.ext';simp
 simp[execOp,ho,resolve,h1,Deferred.ofValue,invoke,Bv hf,h4]
def bO{σp σr:aa cE}{b:Nat}:b∈bF (σp++σr)↔b∈bF σp\/b∈bF σr:=by rw[gU,zV]
def Cm{w w':World}{A:Nat->Prop}{σo:aa cE}(hg:Good C (σp++σr) w)(hA:∀b,A b->b<w.heap.size->al C (σp++σr) b\/b∈bF σr)(ht:Tr ⟨w,A,bF σp⟩ (bF σp) σp w σo w')
  (hok:∀r∈σo,r.ok (al C (σo++σr)) w'):Tr C (bF σp) (σp++σr) w (σo++σr) w':=by
 have hlt:∀b∈bF (σp++σr),b<w.heap.size:=λb hb=>by
  obtain⟨s,h1,h2⟩:=bU.1 hb;exact(hg.res s h1).lt h2
 have hdis:=hg.Gc;rw[gU]at hdis;obtain⟨d1,d2,d3⟩:=yH.1 hdis;have hown:∀b∈bF σo,b∈bF σp\/w.heap.size<=b:=ht.good.own;have hal:∀b,b<w.heap.size->al C (σp++σr) b->al C (σo++σr) b/\b∉bF σp:=λb hb hA=>by
  have h2:b∉bF σp/\b∉bF σr:=by
   have:=hA.2;rw[bO]at this;exact⟨λh=>this (.inl h),λh=>this (.inr h)⟩
  refine⟨⟨hA.1,λhx=> ?_⟩,h2.1⟩;rcases bO.1 hx with h|h
  ·rcases hown b h with h|h
   ·exact h2.1 h
   ·omega
  ·exact h2.2 h
 refine⟨⟨hg.kept.trans ht.kp (λb hb hlt0=> ?_),λr hr=> ?_,?_,λb hb=> ?_⟩,ht.kp,hal⟩
 ·rcases hg.own b (bO.2 (.inl hb))with h|h
  ·exact h
  ·exact dF hlt0 (by omega)
 ·rcases zV.1 hr with h|h
  ·exact hok r h
  ·refine(hg.res r (yJ _ h)).mono (λb hb hA=>⟨(hal b hb hA).1,ht.kp.block b hb (hal b hb hA).2⟩) (λb hb=> ?_);have hbr:b∈bF σr:=bU.2 ⟨r,h,hb⟩;exact ht.kp.block b (hlt b (bO.2 (.inr hbr))) (λhp=>d3 b hp b hbr rfl)
 ·rw[gU];refine yH.2 ⟨ht.good.Gc,d2,λa ha b hb hab=> ?_⟩;subst hab;rcases hown a ha with h|h
  ·exact d3 a h a hb rfl
  ·have:=hlt a (bO.2 (.inr hb));omega
 ·rcases bO.1 hb with h|h
  ·rcases hown b h with h|h
   ·exact hg.own b (bO.2 (.inl h))
   ·exact .inr (zK hg.kept.size h)
  ·exact hg.own b (bO.2 (.inr h))
def Yc.fn(ho:o.op= .call {callee:= .value x,args:=xs,argTypes:=ts})(hx:E.ev x=V (.fn (.func f) caps))(hf:s8 P f)(he:E.KI xs.toList=V as0)(ha:as0++caps=args)(hσ:σ=σp++σr)(h:Fn P f args σp Φ):
  Yc P E σ o C (bF σp) (λav σ'=>∃σo,Φ av σo/\σ'=σo++σr):=λw ρ hg hρ=>by
 subst hσ;obtain⟨us,h1,h2⟩:=Wy ho hx hf he ha hρ;have hlt:∀b∈bF (σp++σr),b<w.heap.size:=λb hb=>by
  obtain⟨s,h1,h2⟩:=bU.1 hb;exact(hg.res s h1).lt h2
 have hd:Hd (al C (σp++σr)) σp w:=⟨λr hr=>hg.res r (yI _ hr),λb hb hA=>hA.2 (bO.2 (.inl hb))⟩;have hnd:(bF σp).Nodup:=by have:=hg.Gc;rw[gU]at this;exact(yH.1 this).1
 refine⟨f,us.toArray,h2,(h w (al C (σp++σr)) us h1 hd hnd).mono λe w' ⟨v,av,σo,q1,q2,q3,q4⟩=> ?_⟩;have hown:∀b∈bF σo,b∈bF σp\/w.heap.size<=b:=q3.good.own;have hsub:∀b,b<w'.heap.size->al ⟨w,al C (σp++σr),bF σp⟩ σo b->al C (σo++σr) b:=λb _ hb=>by
  obtain⟨hb1,hb2⟩:=hb;rcases hb1 with hb1|hb1|hb1
  ·exact⟨hb1.1,λhx=>(bO.1 hx).elim hb2 (λh=>hb1.2 (bO.2 (.inr h)))⟩
  ·have hbp:b∈bF σp:=hb1;refine⟨?_,λhx=>(bO.1 hx).elim hb2 (λh=> ?_)⟩
   ·rcases hg.own b (bO.2 (.inl hbp))with h|h
    ·exact .inr (.inl h)
    ·exact .inr (.inr h)
   ·have hdis:=hg.Gc;rw[gU]at hdis;exact(yH.1 hdis).2.2 b hbp b h rfl
  ·have hbw:w.heap.size<=b:=hb1;exact⟨.inr (.inr (zK hg.kept.size hbw)),λhx=>(bO.1 hx).elim hb2 (λh=>by have:=hlt b (bO.2 (.inr h));omega)⟩
 exact⟨v,av,σo++σr,q1,⟨σo,q2,rfl⟩,Cm hg (λb hA _=> .inl hA) q3 (λr hr=>(q3.good.res r hr).mono (λb hb hA=>⟨hsub b hb hA,rfl⟩) (λ_ _=>rfl)),q4.mono λb hb hA=>⟨hsub b hb hA,rfl⟩⟩
end
end Go.Iv
namespace Go.Iv
variable [U:ru]
open Go Go.RowKit
section
variable {P:Program} {E E':Env} {σ σ':aa cE} {o:Oper} {x:Operand} {av bv:AV} {C:Cx} {X:aa Nat} {n:Nat}
end
def oD{α:Type}{c:Prop}[Decidable c]{a:af α}{r:α}(h:(if c then a else S)=V r):c/\a=V r:=by
 split at h
 ·exact⟨by assumption,h⟩
 ·cases h
abbrev cN(k:IntKind)(n:Int):aa AV:=[.n k n]
abbrev cB(b:Bool):aa AV:=[.b b]
instance:Inhabited ByteArray:=⟨.empty⟩
end Go.Iv
namespace Go.Iv
variable [U:ru]
open Go Go.RowKit
section
variable {P:Program} {E E':Env} {σ σ':aa cE} {o:Oper} {x:Operand} {av bv:AV} {C:Cx} {X:aa Nat} {n:Nat}
def Yp.conv{T T':TypeId}{k k':IntKind}{m:Int}(hT:P.underlying T=V (.int k))(hT':P.underlying T'=V (.int k'))(ho:o.op= .convert T T' x)(hx:E.ev x=V (.n k m)):Yp P E σ o (.n k' (k'.wrap m)):=Yp.lits λρ hρ w=>by
 simp[execOp,ho,hρ _ _ hx,convert,run_underlying hT,run_underlying hT',Conv.intToInt]
end
structure Gh where
 v:Nat->Value
 b:Nat->Nat
def bZ.sub(ρ:Gh):AV->AV
 | .lit v=> .lit v
 | .sl t l=> .sl t l
 | .fp cs=> .fp (cs.map (bZ.sub ρ))
 | .rp v k=> .rp v k
 | .agg cs=> .agg (cs.map (bZ.sub ρ))
 | .iL cs=> .iL (cs.map (bZ.sub ρ))
 | .fn f cs=> .fn f (cs.map (bZ.sub ρ))
 | .own id=> .lit (ρ.v id)
 | .ptr id off=> .lit (.pointer (V ⟨ρ.b id,off,S⟩))
 | .ra id t m off=> .rp (ρ.v id) (m*U.sz t+off)
inductive gQ (p:Nat->Prop):AV->Prop
 |lit (v:Value):gQ p (.lit v)
 |sl (t:Nat) (l:List (U.dw t)):gQ p (.sl t l)
 |fp (cs:List AV) (h:∀c∈cs,gQ p c):gQ p (.fp cs)
 |rp (v:Value) (k:Nat):gQ p (.rp v k)
 |agg (cs:List AV) (h:∀c∈cs,gQ p c):gQ p (.agg cs)
 |iL (cs:List AV) (h:∀c∈cs,gQ p c):gQ p (.iL cs)
 |fn (f:Go.Fn) (cs:List AV) (h:∀c∈cs,gQ p c):gQ p (.fn f cs)
 |own (id:Nat) (h:p id):gQ p (.own id)
 |ptr (id off:Nat) (h:p id):gQ p (.ptr id off)
 |ra (id t m off:Nat) (h:p id):gQ p (.ra id t m off)
abbrev cQ(n:Nat):AV->Prop:=gQ (λi=>i<n)
def Ags(p:Nat->Prop)(ρ ρ':Gh):Prop:=∀i,p i->ρ.v i=ρ'.v i/\ρ.b i=ρ'.b i
def gQ.mono{p q:Nat->Prop}{d:AV}(h:gQ p d)(hn:∀i,p i->q i):gQ q d:=by
 induction h with
 |lit v=>exact .lit v
 |sl t l=>exact .sl t l
 |fp cs _ ih=>exact .fp cs ih
 |rp v k=>exact .rp v k
 |agg cs _ ih=>exact .agg cs ih
 |iL cs _ ih=>exact .iL cs ih
 |fn f cs _ ih=>exact .fn f cs ih
 |own id h=>exact .own id (hn _ h)
 |ptr id off h=>exact .ptr id off (hn _ h)
 |ra id t m off h=>exact .ra id t m off (hn _ h)
def gQ.sub{p:Nat->Prop}{d:AV}{ρ ρ':Gh}(h:gQ p d)(ha:Ags p ρ ρ'):d.sub ρ=d.sub ρ':=by
 have key:∀cs:aa AV,(∀c∈cs,c.sub ρ=c.sub ρ')->cs.map (bZ.sub ρ)=cs.map (bZ.sub ρ'):=λcs h=>zX h;induction h with
 |lit v=>simp only[bZ.sub]
 |sl t l=>simp only[bZ.sub]
 |fp cs _ ih=>simp only[bZ.sub];rw[key cs ih]
 |rp v k=>simp only[bZ.sub]
 |agg cs _ ih=>simp only[bZ.sub];rw[key cs ih]
 |iL cs _ ih=>simp only[bZ.sub];rw[key cs ih]
 |fn f cs _ ih=>simp only[bZ.sub];rw[key cs ih]
 |own id h=>simp only[bZ.sub];rw[(ha id h).1]
 |ptr id off h=>simp only[bZ.sub];rw[(ha id h).2]
 |ra id t m off h=>simp only[bZ.sub];rw[(ha id h).1]
def gQ.XV{p:Nat->Prop}{cs:aa AV}{ρ ρ':Gh}(h:∀c∈cs,gQ p c)(ha:Ags p ρ ρ'):cs.map (bZ.sub ρ)=cs.map (bZ.sub ρ'):=zX λc hc=>(h c hc).sub ha
def oP(n:Nat)(ρ ρ':Gh):Prop:=∀i,i<n->ρ.v i=ρ'.v i/\ρ.b i=ρ'.b i
def oP.refl(n:Nat)(ρ:Gh):oP n ρ ρ:=λ_ _=>⟨rfl,rfl⟩
def oP.trans{n m:Nat}{ρ ρ' ρ'':Gh}(h:oP n ρ ρ')(h':oP m ρ' ρ'')(hn:n<=m):oP n ρ ρ'':=λi hi=>
 ⟨(h i hi).1.trans (h' i (by omega)).1,(h i hi).2.trans (h' i (by omega)).2⟩
def cQ.mono{n m:Nat}{d:AV}(h:cQ n d)(hn:n<=m):cQ m d:=gQ.mono h λ_ hi=>x8 hi hn
def cQ.sub{n:Nat}{d:AV}{ρ ρ':Gh}(h:cQ n d)(ha:oP n ρ ρ'):d.sub ρ=d.sub ρ':=gQ.sub h ha
def cQ.XV{n:Nat}{cs:aa AV}{ρ ρ':Gh}(h:∀c∈cs,cQ n c)(ha:oP n ρ ρ'):cs.map (bZ.sub ρ)=cs.map (bZ.sub ρ'):=gQ.XV h ha
inductive IR:Type
 |box (T:Nat) (cs:List AV)
 |row (t:Nat) (l:List (U.dw t))
def IR.res(ρ:Gh)(id:Nat):IR->cE
 | .box T cs=> .box (ρ.b id) T (cs.map (bZ.sub ρ))
 | .row t l=> .row (ρ.v id) t l
abbrev aZ:Type:=aa (Nat×IR)
def aZ.res(ρ:Gh)(R:aZ):aa cE:=R.map λp=>p.2.res ρ p.1
def IR.cQ(n:Nat):IR->Prop
 | .box _ cs=>∀c∈cs,Iv.cQ n c
 | .row _ _=>True
def aZ.cQ(n:Nat)(R:aZ):Prop:=∀p∈R,p.1<n/\p.2.cQ n
def IR.cQ.mono{n m:Nat}{r:IR}(h:r.cQ n)(hn:n<=m):r.cQ m:=by
 cases r with
 |box T cs=>exact λc hc=>(h c hc).mono hn
 |row t l=>trivial
def aZ.cQ.mono{n m:Nat}{R:aZ}(h:aZ.cQ n R)(hn:n<=m):aZ.cQ m R:=λp hp=>⟨x8 (h p hp).1 hn,(h p hp).2.mono hn⟩
def IR.cQ.res{n id:Nat}{r:IR}{ρ ρ':Gh}(h:r.cQ n)(hi:id<n)(ha:oP n ρ ρ'):r.res ρ id=r.res ρ' id:=by
 cases r with
 |box T cs=>simp only[IR.res];rw[(ha id hi).2,Iv.cQ.XV h ha]
 |row t l=>simp only[IR.res];rw[(ha id hi).1]
def aZ.cQ.res{n:Nat}{R:aZ}{ρ ρ':Gh}(h:aZ.cQ n R)(ha:oP n ρ ρ'):aZ.res ρ R=aZ.res ρ' R:=zX λp hp=>(h p hp).2.res (h p hp).1 ha
def gi(R:aZ)(id:Nat):af IR:=List.rec S (λp _ ih=>Bool.rec ih (V p.2) (zf p.1 id)) R
def tq(id:Nat)(r':IR)(R:aZ):aZ:=List.rec [] (λp R ih=>Bool.rec (p::ih) ((p.1,r')::R) (zf p.1 id)) R
def kE(id:Nat)(R:aZ):aZ:=List.rec [] (λp R ih=>Bool.rec (p::ih) R (zf p.1 id)) R
def Wj{i:Nat}{r:IR}{R:aZ}{id:Nat}:gi ((i,r)::R) id=match zf i id with
  |true=>V r
  |false=>gi R id:=by
 show Bool.rec (motive:=λ_=>_) (gi R id) (V r) (zf i id)=_;cases zf i id<;>rfl
def Gx{i:Nat}{r r':IR}{R:aZ}{id:Nat}:tq id r' ((i,r)::R)=match zf i id with
  |true=>(i,r')::R
  |false=>(i,r)::tq id r' R:=by
 show Bool.rec (motive:=λ_=>_) ((i,r)::tq id r' R) ((i,r')::R) (zf i id)=_;cases zf i id<;>rfl
def vG{i:Nat}{r:IR}{R:aZ}{id:Nat}:kE id ((i,r)::R)=match zf i id with
  |true=>R
  |false=>(i,r)::kE id R:=by
 show Bool.rec (motive:=λ_=>_) ((i,r)::kE id R) R (zf i id)=_;cases zf i id<;>rfl
def gy{a b:Nat}(h:zf a b=O):a=b:=xg h
def eC:∀{R:aZ} {id:Nat} {r:IR},gi R id=V r->∃i:Nat,R[i]? =V (id,r)/\(∀r',tq id r' R=R.set i (id,r'))/\kE id R=R.eraseIdx i
 |[],_,_,h=>by cases h
 |(i,r)::R,id,r0,h=>by
  rw[Wj]at h;cases hb:zf i id with
  |true=>
   rw[hb]at h;cases h;cases gy hb;exact⟨0,rfl,λr'=>by rw[Gx,hb];rfl,by rw[vG,hb];rfl⟩
  |false=>
   rw[hb]at h;obtain⟨j,h1,h2,h3⟩:=eC h;exact⟨j+1,h1,λr'=>by rw[Gx,hb];simp[h2],by rw[vG,hb];simp[h3]⟩
def ic{R:aZ}{ρ:Gh}{i id:Nat}{r:IR}(h:R[i]? =V (id,r)):(aZ.res ρ R)[i]? =V (r.res ρ id):=by
 unfold aZ.res;rw[ya,h];rfl
def vf{R:aZ}{ρ:Gh}{i id:Nat}{r:IR}:aZ.res ρ (R.set i (id,r))=(aZ.res ρ R).set i (r.res ρ id):=by
 unfold aZ.res;rw[List.map_set]
def vQ{R:aZ}{ρ:Gh}{i:Nat}:aZ.res ρ (R.eraseIdx i)=(aZ.res ρ R).eraseIdx i:=by
 unfold aZ.res;rw[wP,wP,z8,xQ,xJ]
def C5{R:aZ}{id n:Nat}{r:IR}(h:gi R id=V r)(hR:aZ.cQ n R):id<n/\r.cQ n:=by
 obtain⟨i,h1,_⟩:=eC h;exact hR _ (List.mem_of_getElem? h1)
def oT{R:aZ}{id n:Nat}{r r':IR}(h:gi R id=V r)(hR:aZ.cQ n R)(hr:r'.cQ n):aZ.cQ n (tq id r' R):=by
 obtain⟨i,h1,h2,_⟩:=eC h;rw[h2];intro p hp;rcases List.mem_or_eq_of_mem_set hp with hp|rfl
 ·exact hR p hp
 ·exact⟨(hR _ (List.mem_of_getElem? h1)).1,hr⟩
def Fy{R:aZ}{id n:Nat}(hR:aZ.cQ n R):aZ.cQ n (kE id R):=by
 induction R with
 |nil=>exact hR
 |cons p R ih=>
  obtain⟨i,r⟩:=p;have h2:aZ.cQ n R:=λp hp=>hR p (zO _ hp);rw[vG];split
  ·exact h2
  ·intro q hq;rcases zB.1 hq with rfl|hq
   ·exact hR _ zm
   ·exact ih h2 q hq
def Env.sub(ρ:Gh)(E:Env):Env:=E.map λp=>(p.1,p.2.sub ρ)
def Env.cQ(n:Nat)(E:Env):Prop:=∀p∈E,Iv.cQ n p.2
def Env.e9{ρ:Gh}(t:Nat):∀(E:Env),(E.sub ρ).get t=(E.get t).map (bZ.sub ρ)
 |[]=>rfl
 |(k,v)::E=>by
  show Env.get ((k,v.sub ρ)::Env.sub ρ E) t=_;unfold Env.get;cases hb:zf k t with
  |true=>rfl
  |false=>exact Env.e9 t E
def Env.Pd{ρ:Gh}{E:Env}(x:Operand):(E.sub ρ).ev x=(E.ev x).map (bZ.sub ρ):=by
 cases x with
 |tmp t=>exact Env.e9 t E
 |const v=>simp[Env.ev,bZ.sub]
 |global g=>simp[Env.ev,bZ.sub]
 |func f=>simp[Env.ev,bZ.sub]
def Env.get_mem:∀{E:Env} {t:Nat} {d:AV},E.get t=V d->(t,d)∈E
 |[],_,_,h=>by cases h
 |(k,v)::E,t,d,h=>by
  unfold Env.get at h;cases hb:zf k t with
  |true=>
   rw[hb]at h;cases h;cases gy hb;exact zm
  |false=>
   rw[hb]at h;exact zO _ (Env.get_mem h)
def Env.WO{E:Env}{n:Nat}{x:Operand}{d:AV}(hE:E.cQ n)(h:E.ev x=V d):Iv.cQ n d:=by
 cases x with
 |tmp t=>exact hE _ (Env.get_mem h)
 |const v=>cases h;exact .lit _
 |global g=>cases h;exact .lit _
 |func f=>cases h;exact .fn _ [] (by simp)
def Env.cQ.mono{n m:Nat}{E:Env}(h:E.cQ n)(hn:n<=m):E.cQ m:=λp hp=>(h p hp).mono hn
def Env.cQ.sub{n:Nat}{E:Env}{ρ ρ':Gh}(h:E.cQ n)(ha:oP n ρ ρ'):E.sub ρ=E.sub ρ':=zX λp hp=>by rw[(h p hp).sub ha]
inductive Xl (dw:Nat->Type):Type
 |e
 |n (v:Option (bZ dw)) (l r:Xl dw)
abbrev ET:Type:=Xl U.dw
def cO(T:ET):Nat->af AV:=Xl.rec (λ_=>S) (λv _ _ il ir k=>Bool.rec (Bool.rec (ir (Nat.div (Nat.sub k 1) 2)) (il (Nat.div (Nat.sub k 1) 2)) (zf (Nat.mod (Nat.sub k 1) 2) 0)) v (zf k 0)) T
def Xl.v:ET->af AV
 | .e=>S
 | .n v _ _=>v
def Xl.l:ET->ET
 | .e=> .e
 | .n _ l _=>l
def Xl.r:ET->ET
 | .e=> .e
 | .n _ _ r=>r
def Y6(d:AV)(ih:ET->Nat->ET)(v:af AV)(l r:ET)(k:Nat):ET:=Bool.rec (Bool.rec (.n v l (ih r (Nat.div (Nat.sub k 1) 2))) (.n v (ih l (Nat.div (Nat.sub k 1) 2)) r) (zf (Nat.mod (Nat.sub k 1) 2) 0)) (.n (V d) l r) (zf k 0)
def rV(d:AV)(m:Nat):ET->Nat->ET:=Nat.rec (λ_ _=> .e) (λ_ ih T k=>Xl.rec (Y6 d ih S .e .e k) (λv l r _ _=>Y6 d ih v l r k) T) m
def mb(t:Nat)(d:AV)(T:ET):ET:=rV d 12 T t
def emap(f:AV->AV)(T:ET):ET:=Xl.rec .e (λv _ _ il ir=> .n (v.map f) il ir) T
def nJ(v:af AV)(l r:ET)(k:Nat):cO (.n v l r) k=if k=0 then v else if(k-1)%2=0 then cO l ((k-1)/2)else cO r ((k-1)/2):=by
 show Bool.rec (motive:=λ_=>af AV) (Bool.rec (motive:=λ_=>af AV) (cO r ((k-1)/2)) (cO l ((k-1)/2)) (zf ((k-1)%2) 0)) v (zf k 0)=_;by_cases hk:k=0
 ·subst hk;rfl
 ·have h1:zf k 0=G:=by
   cases h:zf k 0 with
   |false=>rfl
   |true=>exact dF (xg h) hk
  rw[h1,bP hk];by_cases h2:(k-1)%2=0
  ·rw[h2];rfl
  ·have h3:zf ((k-1)%2) 0=G:=by
    cases h:zf ((k-1)%2) 0 with
    |false=>rfl
    |true=>exact dF (xg h) h2
   rw[h3,bP h2]
def amO(k:Nat):cO (.e:ET) k=S:=rfl
def M6(T:ET)(k:Nat):cO T k=if k=0 then T.v else if(k-1)%2=0 then cO T.l ((k-1)/2)else cO T.r ((k-1)/2):=by
 cases T with
 |e=>simp only[Xl.v,Xl.l,Xl.r,amO,ite_self]
 |n v l r=>exact nJ v l r k
def S9(d:AV)(m:Nat)(T:ET)(k:Nat):rV d (m+1) T k=if k=0 then .n (V d) T.l T.r else if(k-1)%2=0 then .n T.v (rV d m T.l ((k-1)/2)) T.r else .n T.v T.l (rV d m T.r ((k-1)/2)):=by
 have e:rV d (m+1) T k=Y6 d (rV d m) T.v T.l T.r k:=by cases T<;>rfl
 rw[e];show Bool.rec (motive:=λ_=>ET) (Bool.rec (motive:=λ_=>ET) (.n T.v T.l (rV d m T.r ((k-1)/2))) (.n T.v (rV d m T.l ((k-1)/2)) T.r) (zf ((k-1)%2) 0)) (.n (V d) T.l T.r) (zf k 0)=_;by_cases hk:k=0
 ·subst hk;rfl
 ·have h1:zf k 0=G:=by
   cases h:zf k 0 with
   |false=>rfl
   |true=>exact dF (xg h) hk
  rw[h1,bP hk];by_cases h2:(k-1)%2=0
  ·rw[h2];rfl
  ·have h3:zf ((k-1)%2) 0=G:=by
    cases h:zf ((k-1)%2) 0 with
    |false=>rfl
    |true=>exact dF (xg h) h2
   rw[h3,bP h2]
def vq(d:AV):∀(m:Nat) (T:ET) (k s:Nat) (av:AV),cO (rV d m T k) s=V av->(k=s/\av=d)\/(k≠s/\cO T s=V av)
 |0,T,k,s,av,h=>by cases h
 |m+1,T,k,s,av,h=>by
  rw[S9]at h;rw[M6 T s];split at h
  ·rename_i hk;subst hk;rw[nJ]at h;split at h
   ·rename_i hs;subst hs;cases h;exact .inl ⟨rfl,rfl⟩
   ·rename_i hs;rw[bP hs];exact .inr ⟨λe=>hs e.symm,h⟩
  ·rename_i hk;split at h
   ·rename_i hk2;rw[nJ]at h;split at h
    ·rename_i hs;subst hs;exact .inr ⟨hk,by rw[bG rfl];exact h⟩
    ·rename_i hs;rw[bP hs];split at h
     ·rename_i hs2;rw[bG hs2];rcases vq d m T.l _ _ av h with ⟨h1,h2⟩|⟨h1,h2⟩
      ·exact .inl ⟨by omega,h2⟩
      ·exact .inr ⟨λe=>h1 (by rw[e]),h2⟩
     ·rename_i hs2;rw[bP hs2];exact .inr ⟨λe=>hs2 (by rw[<-e];exact hk2),h⟩
   ·rename_i hk2;rw[nJ]at h;split at h
    ·rename_i hs;subst hs;exact .inr ⟨hk,by rw[bG rfl];exact h⟩
    ·rename_i hs;rw[bP hs];split at h
     ·rename_i hs2;rw[bG hs2];exact .inr ⟨λe=>hk2 (by rw[e];exact hs2),h⟩
     ·rename_i hs2;rw[bP hs2];rcases vq d m T.r _ _ av h with ⟨h1,h2⟩|⟨h1,h2⟩
      ·exact .inl ⟨by omega,h2⟩
      ·exact .inr ⟨λe=>h1 (by rw[e]),h2⟩
def o7{t s:Nat}{d av:AV}{T:ET}(h:cO (mb t d T) s=V av):(t=s/\av=d)\/(t≠s/\cO T s=V av):=vq d 12 T t s av h
def u6(f:AV->AV):∀(T:ET) (s:Nat),cO (emap f T) s=(cO T s).map f
 | .e,s=>rfl
 | .n v l r,s=>by
  show cO (.n (v.map f) (emap f l) (emap f r)) s=_;rw[nJ,nJ,u6 f l,u6 f r];split
  ·rfl
  ·split<;>rfl
def sU(T:ET)(E:Env):Prop:=∀t d,cO T t=V d->E.get t=V d
def sU.put{T:ET}{E:Env}(h:sU T E)(t:Nat)(d:AV):sU (mb t d T) ((t,d)::E):=λs av hs=>by
 rcases o7 hs with ⟨rfl,rfl⟩|⟨h1,h2⟩
 ·exact Env.fh _ _ _
 ·rw[Env.dS _ _ h1];exact h s av h2
def FH(T:ET):Operand->af AV
 | .tmp t=>cO T t
 | .const v=>V (.lit v)
 | .global g=>V (.lit (.pointer (V ⟨g,0,S⟩)))
 | .func f=>V (.fn (.func f) [])
def sU.ev{T:ET}{E:Env}(h:sU T E)(x:Operand)(d:AV)(hx:FH T x=V d):E.ev x=V d:=by
 cases x with
 |tmp t=>exact h t d hx
 |_=>exact hx
structure St where
 E:ET
 R:aZ
 nx:Nat
structure Cg where
 C:Cx
 ρ:Gh
 n:Nat
def Mt(C:Cg)(n:Nat)(s:St)(a:Act)(w:World):Prop:=∃E:Env,sU s.E E/\E.cQ s.nx/\aZ.cQ s.nx s.R/\∃ρ,(oP C.n C.ρ ρ/\C.n<=s.nx)/\tF C.C n (E.sub ρ) (aZ.res ρ s.R) a w
def Env.uf{E:Env}{n t:Nat}{d:AV}(hE:E.cQ n)(hd:Iv.cQ n d):Env.cQ n ((t,d)::E):=λp hp=>by
 rcases zB.1 hp with rfl|hp
 ·exact hd
 ·exact hE p hp
def TX{C:Cx}{σ σ':aa cE}(hp:List.Perm σ σ')(b:Nat):al C σ b->al C σ' b:=λhA=>⟨hA.1,λhx=>hA.2 ((hp.filterMap _).symm.mem_iff.1 hx)⟩
end Go.Iv
end
noncomputable section
namespace Go.Iv
open Go Go.RowKit
section
variable [U:ru] {β γ δ:Type}
def tH(t e:Nat)(l:aa (U.dw t)):af (aa (U.dw e)):=if h:t=e then V (h▸l)else S
def mQ{t e:Nat}{l:aa (U.dw t)}{l':aa (U.dw e)}(h:tH t e l=V l'):∃he:t=e,he▸l=l':=by
 unfold tH at h;split at h
 ·rename_i he;exact⟨he,zA.inj h⟩
 ·cases h
def iq(k:IntKind):AV->af Int
 | .lit (.int k' n)=>if k=k' then V n else S
 |_=>S
def P7:AV->af Bool
 | .lit (.bool b)=>V b
 |_=>S
def asS:AV->af ByteArray
 | .lit (.string s)=>V s
 |_=>S
def jP(t:Nat):AV->af (aa (U.dw t))
 | .sl t' l=>tH t' t l
 | .lit (.slice S 0 0)=>V []
 |_=>S
def P1(f:AV->af β)(c:β->AV):Prop:=∀a b,f a=V b->∀A w v,Rel A w a v->Rel A w (c b) v
def P1.i(k:IntKind):P1 (iq k) (bZ.n k):=λa b h A w v hr=>by
 unfold iq at h;split at h
 ·split at h
  ·rename_i hk;subst hk;cases h;exact hr
  ·cases h
 ·cases h
def P1.b:P1 P7 bZ.b:=λa b h A w v hr=>by
 unfold P7 at h;split at h
 ·cases h;exact hr
 ·cases h
def P1.s:P1 asS bZ.s:=λa b h A w v hr=>by
 unfold asS at h;split at h
 ·cases h;exact hr
 ·cases h
def P1.l(t:Nat):P1 (jP t) (bZ.sl t):=λa b h A w v hr=>by
 unfold jP at h;split at h
 ·obtain⟨rfl,rfl⟩:=mQ h;exact hr
 ·cases h;exact(Vw.nil (σ:=[]) t A w v ⟨λr h=>(by cases h),λb h=>(by cases h)⟩ hr).mono λb _ hA=>⟨hA.elim id (λh=>(by cases h)),rfl⟩
 ·cases h
def oO:aa AV->af Unit
 |[]=>V ()
 |_=>S
def dP(f:AV->af β)(q:aa AV->af γ):aa AV->af (β×γ)
 |a::cs=>(f a).bind λb=>(q cs).map λg=>(b,g)
 |[]=>S
def Pk(q:aa AV->af γ)(c:γ->aa AV):Prop:=∀cs g,q cs=V g->∀A w us,bL A w cs us->bL A w (c g) us
def Pk.nil:Pk oO (λ_=>[]):=λcs g h A w us hr=>by
 unfold oO at h;split at h
 ·exact hr
 ·cases h
def Pk.cons{f:AV->af β}{c:β->AV}{q:aa AV->af γ}{d:γ->aa AV}(h:P1 f c)(hq:Pk q d):Pk (dP f q) (λx=>c x.1::d x.2):=λcs g hg A w us hr=>by
 unfold dP at hg;split at hg
 ·obtain⟨b,h1,hg⟩:=zn.1 hg;obtain⟨g',h2,rfl⟩:=zj.1 hg;obtain⟨v,us',rfl,h3,h4⟩:=hr.head;exact bL.cons (h _ _ h1 A w v h3) (hq _ _ h2 A w us' h4)
 ·cases hg
def Pk.map{q:aa AV->af γ}{d:γ->aa AV}{c:δ->aa AV}(e:γ->δ)(hq:Pk q d)(hc:∀g,c (e g)=d g):Pk (λcs=>(q cs).map e) c:=λcs g hg A w us hr=>by
 obtain⟨g',h1,rfl⟩:=zj.1 hg;rw[hc];exact hq _ _ h1 A w us hr
def amj:AV->Bool
 | .lit _=>O
 | .sl _ _=>O
 |_=>G
def X8(cs:aa AV)(h:cs.all amj=O)(n:Nat):∀c∈cs,cQ n c:=λc hc=>by
 have:=zw.1 h c hc;cases c<;>first|(cases this;done)|exact .lit _|exact .sl _ _
def Wz(cs:aa AV)(h:cs.all amj=O)(ρ:Gh):cs.map (bZ.sub ρ)=cs:=by
 have:cs.map (bZ.sub ρ)=cs.map id:=zX λc hc=>by
  have:=zw.1 h c hc;cases c<;>first|(cases this;done)|simp only[bZ.sub,id]
 rw[this,List.map_id]
def Pk.none{c:γ->aa AV}:Pk (λ_=>Option.none) c:=λcs g hg=>by cases hg
end
end Go.Iv
end
noncomputable section
namespace Go.Iv
variable [U:ru]
open Go Go.RowKit
section
variable {P:Program} {E E':Env} {σ σ':aa cE} {o:Oper} {x y:Operand} {av bv:AV} {C:Cx} {X:aa Nat} {n:Nat} {T T' e:TypeId}
def Hd.keep{A:Nat->Prop}{w w':World}(h:Hd A σ w)(hw:∀b,b<w.heap.size->(A b\/b∈bF σ)->w'.heap[b]? =w.heap[b]?):Hd A σ w':=
 ⟨λr hr=>(h.1 r hr).mono (λb hb hA=>⟨hA,hw b hb (.inl hA)⟩) (λb hb=>hw b ((h.1 r hr).lt hb) (.inr (bU.2 ⟨r,hr,hb⟩))),h.2⟩
def NT.keep{A:Nat->Prop}{w w':World}{ρ:Operand->Value}(h:NT A w E ρ)(hw:∀b,b<w.heap.size->A b->w'.heap[b]? =w.heap[b]?):NT A w' E ρ:=λx u hx=>(h x u hx).mono λb hb hA=>⟨hA,hw b hb hA⟩
def qS{A:Nat->Prop}{w:World}{k:IntKind}:∀{l:aa Int} {us:aa Value},bL A w (l.map (bZ.n k)) us->us=l.map (Value.int k)
 |[],us,h=>xy (by simpa using h.1)
 |x::l,us,h=>by
  obtain⟨v,us',rfl,h1,h2⟩:=bL.head (show bL A w (bZ.n k x::l.map (bZ.n k)) us from h);rw[h1.cK,qS h2];rfl
def Yp.b2s{q:Nat}{l:aa Int}{l0:aa (U.dw q)}(ho:o.op= .convert T T' x)(hx:Src σ E x q l0)(hn:l0.flatMap (U.cells q)=l.map (bZ.n .u8))(hz:U.sz q=1)(hs:P.underlying T=V (.slice e))(he:P.underlying e=V (.int .u8))(hd:P.underlying T'=V .string):Yp P E σ o (.s (strOfNums l)):=λA w ρ h hρ=>
 ⟨_, .lit _,λw' hw=>by
  obtain⟨p,cap,news,h1,h2,h3,_,h5,_⟩:=hx.spec (h.keep hw) (hρ.keep λb hb hA=>hw b hb (.inl hA));have h6:=qS (by rw[hn]at h5;exact h5);have hl0:l0.length=l.length:=by rw[hz,xz]at h3;rw[<-h3,h6,zx]
  rw[hl0]at h1 h2;have hconv:(convert T T' (.slice p l.length cap)).run P w'= .ok (.string (strOfNums l)) w':=by
   cases p with
   |none=>
    have:l=[]:=by
     rcases h2 with h2|⟨a,h2,_⟩
     ·exact xy h2
     ·cases h2
    subst this;have hc:=run_convert_bytes_nil (P:=P) w' T e hs he 0 cap T' hd;have:strOfNums []=ByteArray.empty:=rfl;rw[this];simpa using hc
   |some a=>
    have hl:(loadCells a l.length).run P w'= .ok (l.map (Value.int .u8)).toArray w':=by
     rcases h2 with h2|⟨a',h2,h4⟩
     ·have:l=[]:=xy h2;subst this;simp[loadCells,loadCellsFrom]
     ·cases h2;have:=run_loadCells_list (P:=P) w' a (l.map (Value.int .u8)) (λj v hj=>h4 j v (by rw[h6];exact hj));simpa using this
    rw[run_convert_bytes_string w' T T' e _ l.length cap hs he hd,run_bytesToString w' _ l.length cap l hl,foldl_push_bytes];simp[strOfNums,ByteArray.empty,ByteArray.emptyWithCapacity];rfl
  simp[execOp,ho,h1,hconv]⟩
def Yp.aDh{s t:ByteArray}(ho:o.op= .binOp .eql T x y T')(hx:E.ev x=V (.s s))(hy:E.ev y=V (.s t)):Yp P E σ o (.b (s.toList==t.toList)):=Yp.lits λρ hρ w=>by
 simp[execOp,ho,hρ _ _ hx,hρ _ _ hy,eqGuard,binOp,Op.stringOp]
def Yp.aEa{s t:ByteArray}(ho:o.op= .binOp .neq T x y T')(hx:E.ev x=V (.s s))(hy:E.ev y=V (.s t)):Yp P E σ o (.b (!(s.toList==t.toList))):=Yp.lits λρ hρ w=>by
 simp[execOp,ho,hρ _ _ hx,hρ _ _ hy,eqGuard,binOp,Op.stringOp]
def run_equal_bool{w:World}{b c:Bool}(hT:P.underlying T=V .bool):(Op.equal T (.bool b) (.bool c)).run P w= .ok (b==c) w:=by
 obtain⟨d,hd⟩:∃d,Op.maxDepth=d+1:=⟨Op.maxDepth-1,by decide⟩;unfold Op.equal;rw[hd];unfold Op.equalIn;simp only[Sem.run_bind,run_underlying hT,Result.andThen_ok];rfl
def Yp.aCs{b c:Bool}(ho:o.op= .binOp .eql T x y T')(hT:P.underlying T=V .bool)(hx:E.ev x=V (.b b))(hy:E.ev y=V (.b c)):Yp P E σ o (.b (b==c)):=Yp.lits λρ hρ w=>by
 have hbin:binOp .eql T (.bool b) (.bool c)=(do pure (.bool (<-Op.equal T (.bool b) (.bool c)))):=rfl;have h1:=run_equal_bool (P:=P) (T:=T) (w:=w) (b:=b) (c:=c) hT;simp only[execOp,ho,hρ _ _ hx,hρ _ _ hy,eqGuard,hbin];simp[h1]
def Yp.aCz{b c:Bool}(ho:o.op= .binOp .neq T x y T')(hT:P.underlying T=V .bool)(hx:E.ev x=V (.b b))(hy:E.ev y=V (.b c)):Yp P E σ o (.b (!(b==c))):=Yp.lits λρ hρ w=>by
 have hbin:binOp .neq T (.bool b) (.bool c)=(do pure (.bool (!(<-Op.equal T (.bool b) (.bool c))))):=rfl;have h1:=run_equal_bool (P:=P) (T:=T) (w:=w) (b:=b) (c:=c) hT;simp only[execOp,ho,hρ _ _ hx,hρ _ _ hy,eqGuard,hbin];simp[h1]
end
end Go.Iv
end
noncomputable section
namespace Go.Iv
variable [U:ru]
open Go Go.RowKit
class l7 [U:ru] where
 len:∀t x,(U.cells t x).length=U.sz t
 one:∀t x,(U.cells t x).all iu=O
 clo:∀t x ρ,(U.cells t x).map (bZ.sub ρ)=U.cells t x
 qZ:∀t x n,∀c∈U.cells t x,cQ n c
 parse:(t:Nat)->List AV->Option (U.dw t)
 lM:∀t cs x,parse t cs=V x->∀A w us,bL A w cs us->bL A w (U.cells t x) us
 ahZ:(t:Nat)->List (U.dw t)->Option (List Int)
 vn:∀t l ns,ahZ t l=V ns->l.flatMap (U.cells t)=ns.map (.n .u8)/\U.sz t=1
 fz:Nat->Bool:=λ_=>G
 arr:Nat->Bool:=λ_=>G
 gtB:(t:Nat)->U.dw t->Nat->Bool:=λ_ _ _=>G
 stB:(t:Nat)->U.dw t->Nat->Bool->U.dw t:=λ_ x _ _=>x
 aiK:∀t,arr t=O->∀x i,i<U.sz t->(U.cells t x)[i]? =V (.lit (.bool (gtB t x i))):=by intro t h;exact Bool.noConfusion h
 ajo:∀t,arr t=O->∀x i b,i<U.sz t->U.cells t (stB t x i b)=(U.cells t x).take i++[.lit (.bool b)]++(U.cells t x).drop (i+1):=by intro t h;exact Bool.noConfusion h
variable [L:l7]
def Lq(P:Program)(t n:Nat):Bool:=match P.info? t with
 |some i=>zf i.size n
 |none=>G
def rq{P:Program}{t n:Nat}(h:Lq P t n=O):(P.info? t).map (·.size)=V n:=by
 unfold Lq at h;cases hi:P.info? t with
 |none=>rw[hi]at h;cases h
 |some i=>
  rw[hi]at h;simp only[yy,zA.injEq];exact gy h
def Wl(P:Program)(t:Nat):Bool:=match P.underlying t with
 |some (.struct _)=>G
 |some (.array _ _)=>G
 |some _=>O
 |none=>G
def Ca{P:Program}{t:Nat}(h:Wl P t=O):rW P t:=by
 unfold Wl at h;unfold rW;split at h
 ·cases h
 ·cases h
 ·rename_i d hd;refine⟨_,hd,?_⟩;split
  ·simp_all
  ·simp_all
  ·trivial
 ·cases h
def Ty(P:Program)(t:Nat):af Nat:=match P.underlying t with
 |some (.struct _)=>(P.info? t).map (·.size)
 |some (.array _ _)=>(P.info? t).map (·.size)
 |_=>S
def Lg{P:Program}{t n:Nat}(h:Ty P t=V n):sE P t n:=by
 unfold Ty at h;split at h
 ·rename_i hd;exact⟨⟨_,hd,trivial⟩,h⟩
 ·rename_i hd;exact⟨⟨_,hd,trivial⟩,h⟩
 ·cases h
def D6(rd:Nat->af IR):AV->Bool
 | .own id=>match rd id with
  |some (.row _ _)=>O
  |_=>G
 | .ptr _ _=>O
 | .ra _ _ _ _=>G
 |d=>iu d
def DX(rd:Nat->af IR):AV->Bool
 | .agg cs=>cs.all (D6 rd)
 |d=>D6 rd d
section
variable {α:Type} {r:α} {P:Program} {o:Oper} {E:Env} {R:aZ} {nx:Nat} {ev:Operand->af AV} {rd:Nat->af IR} {x y z:Operand} {d:AV}
structure j4 (ev:Operand->Option AV) (rd:Nat->Option IR) (nx:Nat) (E:Env) (R:aZ):Prop where
 e:∀x d,ev x=V d->E.ev x=V d
 r:∀id r,rd id=V r->gi R id=V r
 le:E.cQ nx
 lr:aZ.cQ nx R
def j4.fL(h:j4 ev rd nx E R)(hx:ev x=V d)(ρ:Gh):(E.sub ρ).ev x=V (d.sub ρ):=by
 rw[Env.Pd,h.e _ _ hx];rfl
def j4.qZ(h:j4 ev rd nx E R)(hx:ev x=V d):cQ nx d:=Env.WO h.le (h.e _ _ hx)
def j4.row(h:j4 ev rd nx E R){id t:Nat}{l:aa (U.dw t)}(hr:rd id=V (.row t l))(ρ:Gh):∃i:Nat,(aZ.res ρ R)[i]? =V (.row (ρ.v id) t l):=by
 obtain⟨i,h1,_⟩:=eC (h.r _ _ hr);exact⟨i,ic h1⟩
def j4.box(h:j4 ev rd nx E R){id t:Nat}{cs:aa AV}(hr:rd id=V (.box t cs))(ρ:Gh):∃i:Nat,(aZ.res ρ R)[i]? =V (.box (ρ.b id) t (cs.map (bZ.sub ρ))):=by
 obtain⟨i,h1,_⟩:=eC (h.r _ _ hr);exact⟨i,ic h1⟩
def j4.ag9(h:j4 ev rd nx E R){id t:Nat}{cs:aa AV}(hr:rd id=V (.box t cs)):∀c∈cs,cQ nx c:=(C5 (h.r _ _ hr) h.lr).2
def Pu(P:Program)(o:Oper)(E:Env)(R:aZ)(nx:Nat)(d:AV):Prop:=cQ nx d/\∀ρ,Yp P (E.sub ρ) (aZ.res ρ R) o (d.sub ρ)
def bV(ρ:Gh)(v:Value):bZ.sub ρ (.lit v)= .lit v:=by simp only[bZ.sub]
def gC(ρ:Gh)(t:Nat)(l:aa (U.dw t)):bZ.sub ρ (.sl t l)= .sl t l:=by simp only[bZ.sub]
def dL(ρ:Gh)(id:Nat):bZ.sub ρ (.own id)= .lit (ρ.v id):=by simp only[bZ.sub]
def fB(ρ:Gh)(id off:Nat):bZ.sub ρ (.ptr id off)= .lit (.pointer (V ⟨ρ.b id,off,S⟩)):=by simp only[bZ.sub]
def jA(ρ:Gh)(id t m off:Nat):bZ.sub ρ (.ra id t m off)= .rp (ρ.v id) (m*U.sz t+off):=by simp only[bZ.sub]
def l5(ρ:Gh)(cs:aa AV):bZ.sub ρ (.fp cs)= .fp (cs.map (bZ.sub ρ)):=by simp only[bZ.sub]
def fe(ρ:Gh)(cs:aa AV):bZ.sub ρ (.agg cs)= .agg (cs.map (bZ.sub ρ)):=by simp only[bZ.sub]
def kI(ρ:Gh)(cs:aa AV):bZ.sub ρ (.iL cs)= .iL (cs.map (bZ.sub ρ)):=by simp only[bZ.sub]
def tg(ρ:Gh)(f:Go.Fn)(cs:aa AV):bZ.sub ρ (.fn f cs)= .fn f (cs.map (bZ.sub ρ)):=by simp only[bZ.sub]
def Pu.lit{v:Value}(h:∀ρ,Yp P (E.sub ρ) (aZ.res ρ R) o (.lit v)):Pu P o E R nx (.lit v):=⟨.lit v,λρ=>by rw[bV];exact h ρ⟩
def Yh(b:BinOp)(k:IntKind)(m n:Int)(K:AV->af α):af α:=match b with
 | .add=>K (.n k (k.wrap (m+n)))
 | .sub=>K (.n k (k.wrap (m-n)))
 | .mul=>K (.n k (k.wrap (m*n)))
 | .quo=>if n≠0 then K (.n k (k.wrap (Int.tdiv m n)))else S
 | .rem=>if n≠0 then K (.n k (Int.tmod m n))else S
 | .and=>K (.n k (td k m n))
 | .or=>K (.n k (bOr k m n))
 | .xor=>K (.n k (aql k m n))
 | .andNot=>K (.n k (apI k m n))
 | .lss=>K (.b (J (m<n)))
 | .leq=>K (.b (J (m<=n)))
 | .gtr=>K (.b (J (n<m)))
 | .geq=>K (.b (J (n<=m)))
 | .eql=>K (.b (J (m=n)))
 | .neq=>K (.b (!J (m=n)))
 |_=>S
def Yp.arp{T T' e q:Nat}{E:Env}{σ:aa cE}{l:aa (U.dw q)}(ho:o.op= .binOp .eql T x y T')(hx:E.ev x=V (.sl q l))(hy:E.ev y=V (.lit (.slice S 0 0)))(hT:P.underlying T=V (.slice e))(hl:l≠[]):Yp P E σ o (.b G):=λA w ρ _ hρ=>by
 obtain⟨p,cap,u,hv,_,_,_,hc,_⟩:=(hρ _ _ hx).uF;have h2:=(hρ _ _ hy).cK;obtain⟨b,off,hp,_⟩:=hc 0 (wg.2 hl);subst hp;refine⟨_, .lit _,λw' _=> ?_⟩;have h1:=Lib.run_eql_slice_nil (P:=P) w' T e (V ⟨b,off,S⟩) l.length cap 0 0 hT;simp[execOp,ho,hv,h2,eqGuard,h1]
def Yp.apt{T T' e q i:Nat}{v:Value}{E:Env}{σ:aa cE}{l:aa (U.dw q)}(ho:o.op= .binOp .eql T x y T')(hx:E.ev x=V (.lit v))(hσ:σ[i]? =V (.row v q l))(hy:E.ev y=V (.lit (.slice S 0 0)))(hT:P.underlying T=V (.slice e))(hl:l≠[]):Yp P E σ o (.b G):=λA w ρ hd hρ=>by
 obtain⟨us,h1,_⟩:=hd.1 _ (List.mem_of_getElem? hσ);obtain⟨g,cap,cur,hv,_⟩:=h1.at (wg.2 hl);have hx':=(hρ _ _ hx).cK;have h2:=(hρ _ _ hy).cK;refine⟨_, .lit _,λw' _=> ?_⟩;have h1:=Lib.run_eql_slice_nil (P:=P) w' T e (V ⟨g,0,S⟩) l.length (cap+1) 0 0 hT;simp[execOp,ho,hx',hv,h2,eqGuard,h1]
def Pe(P:Program)(t:TypeId)(a b:AV):af Bool:=match P.underlying t with
 |some (.int _)=>match a,b with
  | .lit (.int k m), .lit (.int k' n)=>if k=k' then V (J (m=n))else S
  |_,_=>S
 |some .bool=>match a,b with
  | .lit (.bool p), .lit (.bool q)=>V (p==q)
  |_,_=>S
 |some .string=>match a,b with
  | .lit (.string p), .lit (.string q)=>V (p.toList==q.toList)
  |_,_=>S
 |_=>S
def Vy(P:Program)(xs ys:aa AV):aa Field->af Bool
 |[]=>V O
 |f::fs=>match (f.name !="_")&&Wl P f.type with
  |true=>match xs[f.offset]?,ys[f.offset]? with
   |some a,V b=>(Pe P f.type a b).bind λr=>(Vy P xs ys fs).map λq=>r&&q
   |_,_=>S
  |false=>S
def ud{P:Program}{t:TypeId}(h:rW P t){us:aa Value}{i:Nat}{v:Value}(hv:us[i]? =V v)(w:World):(part t us.toArray i).run P w= .ok v w:=by
 unfold part;rw[Sem.run_bind,mh h];simp[hv]
def QM{P:Program}{t:TypeId}{a b:AV}{q:Bool}(h:Pe P t a b=V q){A A':Nat->Prop}{w w' w'':World}{u v:Value}{ρ ρ':Gh}(ha:Rel A w (a.sub ρ) u)(hb:Rel A' w' (b.sub ρ') v)(d:Nat):(Op.equalIn (d+1) t u v).run P w''= .ok q w'':=by
 unfold Pe at h;split at h
 ·rename_i k0 ht;split at h
  ·split at h
   ·rename_i hk;subst hk;cases h;simp only[bZ.sub]at ha hb;rw[ha.cK,hb.cK];exact run_equalIn_int _ d t _ k0 _ _ ht
   ·cases h
  ·cases h
 ·rename_i ht;split at h
  ·cases h;simp only[bZ.sub]at ha hb;rw[ha.cK,hb.cK];exact run_equalIn_bool' _ d t _ _ ht
  ·cases h
 ·rename_i ht;split at h
  ·cases h;simp only[bZ.sub]at ha hb;rw[ha.cK,hb.cK];exact run_equalIn_string _ d t _ _ ht
  ·cases h
 ·cases h
def Lk{P:Program}{xs ys:aa AV}{A A':Nat->Prop}{w w' w'':World}{us vs:aa Value}{ρ ρ':Gh}(ha:bL A w (xs.map (bZ.sub ρ)) us)(hb:bL A' w' (ys.map (bZ.sub ρ')) vs)(d:Nat):∀{fs:aa Field} {q:Bool},Vy P xs ys fs=V q->(Op.eqFields (d+1) us.toArray vs.toArray fs).run P w''= .ok q w''
 |[],q,h=>by cases h;simp[Op.eqFields]
 |f::fs,q,h=>by
  unfold Vy at h;split at h
  case h_2=>cases h
  rename_i hf;simp only[zi,bne_iff_ne,ne_eq]at hf;split at h
  case h_2=>cases h
  rename_i a b hx hy;obtain⟨r1,h1,h⟩:=zn.1 h;obtain⟨q1,h2,rfl⟩:=zj.1 h;obtain⟨u,hu,hu'⟩:=ha.get (a:=a.sub ρ) (j:=f.offset) (by rw[ya,hx];rfl);obtain⟨v,hv,hv'⟩:=hb.get (a:=b.sub ρ') (j:=f.offset) (by rw[ya,hy];rfl);have ih:=Lk (w'':=w'') ha hb d h2;have hone:=Ca hf.2;unfold Op.eqFields;rw[bG hf.1];simp only[Sem.run_bind,ud hone hu,ud hone hv,Result.andThen_ok,QM (w'':=w'') h1 hu' hv' d];cases r1 with
  |true=>simpa using ih
  |false=>simp
def Yp.seq'{T T':TypeId}{E:Env}{σ:aa cE}{b:BinOp}{cs ds:aa AV}{fs:Array Field}{q:Bool}{ρ ρ':Gh}(ho:o.op= .binOp b T x y T')(hx:E.ev x=V (.agg (cs.map (bZ.sub ρ))))(hy:E.ev y=V (.agg (ds.map (bZ.sub ρ'))))(hT:P.underlying T=V (.struct fs))(hp:P.stoodInHeld T=G)(hg:P.eqGuardType P.depth T=G)(hq:Vy P cs ds fs.toList=V q)(hb:b= .eql\/b= .neq):
  Yp P E σ o (.b (match b with| .neq=> !q|_=>q)):=λA w ϱ _ hρ=>by
 obtain⟨us,h1,h2⟩:=(hρ _ _ hx).nP;obtain⟨vs,h3,h4⟩:=(hρ _ _ hy).nP;refine⟨_, .lit _,λw' _=> ?_⟩;have hT':P.underlying T=V (.struct (P.fieldsOf T)):=by unfold Program.fieldsOf;rw[hT]
 have hfs:P.fieldsOf T=fs:=by unfold Program.fieldsOf;rw[hT]
 have he:=run_equalIn_struct (P:=P) w' 9999 T us.toArray vs.toArray hT' hp;rw[hfs,Lk (w'':=w') h2 h4 9998 hq]at he;have hgr:=run_eqGuard_agg (P:=P) w' b T x y us.toArray vs.toArray hg;rcases hb with rfl|rfl
 ·have h5:=run_eql_struct (P:=P) w' T us.toArray vs.toArray;rw[he]at h5;simp[execOp,ho,h1,h3,hgr,h5]
 ·have h5:=run_neq_struct (P:=P) w' T us.toArray vs.toArray;rw[he]at h5;simp[execOp,ho,h1,h3,hgr,h5]
def eqS(P:Program)(b:BinOp)(T:TypeId)(cs ds:aa AV)(K:AV->af α):af α:=match P.underlying T with
 |some (.struct fs)=>match !P.stoodInHeld T&& !P.eqGuardType P.depth T with
  |true=>match b with
   | .eql=>(Vy P cs ds fs.toList).bind λq=>K (.b q)
   | .neq=>(Vy P cs ds fs.toList).bind λq=>K (.b (!q))
   |_=>S
  |false=>S
 |_=>S
def apq{b:BinOp}{T T':TypeId}{cs ds:aa AV}(hs:j4 ev rd nx E R)(ho:o.op= .binOp b T x y T')(hx:ev x=V (.agg cs))(hy:ev y=V (.agg ds)){K:AV->af α}(h:eqS P b T cs ds K=V r):∃d,K d=V r/\Pu P o E R nx d:=by
 unfold eqS at h;split at h
 case h_2=>cases h
 rename_i fs hT;split at h
 case h_2=>cases h
 rename_i hg;simp only[zi,Bool.not_eq_true']at hg;have ex:=λρ=>hs.fL hx ρ;have ey:=λρ=>hs.fL hy ρ;simp only[fe]at ex ey;split at h
 ·obtain⟨q,hq,h⟩:=zn.1 h;exact⟨_,h, .lit λρ=> .seq' ho (ex ρ) (ey ρ) hT hg.1 hg.2 hq (.inl rfl)⟩
 ·obtain⟨q,hq,h⟩:=zn.1 h;exact⟨_,h, .lit λρ=> .seq' ho (ex ρ) (ey ρ) hT hg.1 hg.2 hq (.inr rfl)⟩
 ·cases h
def NH(P:Program)(rd:Nat->af IR)(b:BinOp)(T:TypeId)(x y:af AV)(K:AV->af α):af α:=match x,y with
 |some (.lit (.int k m)),V (.lit (.int k' n))=>match b with
  | .shl=>if 0<=n then K (.n k (mz k m n))else S
  | .shr=>if 0<=n then K (.n k (cL k m n))else S
  |_=>if k=k' then Yh b k m n K else S
 |some (.lit (.bool p)),V (.lit (.bool q))=>match P.underlying T with
  |some .bool=>match b with
   | .eql=>K (.b (p==q))
   | .neq=>K (.b (!(p==q)))
   |_=>S
  |_=>S
 |some (.lit (.string s)),V (.lit (.string t))=>match b with
  | .eql=>K (.b (s.toList==t.toList))
  | .neq=>K (.b (!(s.toList==t.toList)))
  |_=>S
 |some (.lit (.slice p _ _)),V (.lit (.slice S 0 0))=>match b,P.underlying T with
  | .eql,V (.slice _)=>K (.b p.isNone)
  |_,_=>S
 |some (.sl _ l),V (.lit (.slice S 0 0))=>match b,P.underlying T with
  | .eql,V (.slice _)=>match l with
   |[]=>S
   |_::_=>K (.b G)
  |_,_=>S
 |some (.own id),V (.lit (.slice S 0 0))=>match b,P.underlying T with
  | .eql,V (.slice _)=>match rd id with
   |some (.row _ (_::_))=>K (.b G)
   |_=>S
  |_,_=>S
 |some (.agg cs),V (.agg ds)=>eqS P b T cs ds K
 |_,_=>S
def ace{b:BinOp}{T T':TypeId}(hs:j4 ev rd nx E R)(ho:o.op= .binOp b T x y T'){K:AV->af α}(h:NH P rd b T (ev x) (ev y) K=V r):∃d,K d=V r/\Pu P o E R nx d:=by
 unfold NH at h;split at h
 ·rename_i k m k' n hx hy;have ex:=λρ=>hs.fL hx ρ;have ey:=λρ=>hs.fL hy ρ;simp only[bV]at ex ey;split at h
  ·split at h
   ·rename_i h0;exact⟨_,h, .lit λρ=> .shl ho (ex ρ) (ey ρ) h0⟩
   ·cases h
  ·split at h
   ·rename_i h0;exact⟨_,h, .lit λρ=> .shr ho (ex ρ) (ey ρ) h0⟩
   ·cases h
  ·split at h
   ·rename_i hk;subst hk;unfold Yh at h;split at h
    ·exact⟨_,h, .lit λρ=> .add ho (ex ρ) (ey ρ)⟩
    ·exact⟨_,h, .lit λρ=> .sub ho (ex ρ) (ey ρ)⟩
    ·exact⟨_,h, .lit λρ=> .mul ho (ex ρ) (ey ρ)⟩
    ·split at h
     ·rename_i h0;exact⟨_,h, .lit λρ=> .quo ho (ex ρ) (ey ρ) h0⟩
     ·cases h
    ·split at h
     ·rename_i h0;exact⟨_,h, .lit λρ=> .rem ho (ex ρ) (ey ρ) h0⟩
     ·cases h
    ·exact⟨_,h, .lit λρ=> .and ho (ex ρ) (ey ρ)⟩
    ·exact⟨_,h, .lit λρ=> .or ho (ex ρ) (ey ρ)⟩
    ·exact⟨_,h, .lit λρ=> .xor ho (ex ρ) (ey ρ)⟩
    ·exact⟨_,h, .lit λρ=> .andNot ho (ex ρ) (ey ρ)⟩
    ·exact⟨_,h, .lit λρ=> .lss ho (ex ρ) (ey ρ)⟩
    ·exact⟨_,h, .lit λρ=> .leq ho (ex ρ) (ey ρ)⟩
    ·exact⟨_,h, .lit λρ=> .gtr ho (ex ρ) (ey ρ)⟩
    ·exact⟨_,h, .lit λρ=> .geq ho (ex ρ) (ey ρ)⟩
    ·exact⟨_,h, .lit λρ=> .eql ho (ex ρ) (ey ρ)⟩
    ·exact⟨_,h, .lit λρ=> .neq ho (ex ρ) (ey ρ)⟩
    ·cases h
   ·cases h
 ·rename_i p q hx hy;have ex:=λρ=>hs.fL hx ρ;have ey:=λρ=>hs.fL hy ρ;simp only[bV]at ex ey;split at h
  ·rename_i hT;split at h
   ·exact⟨_,h, .lit λρ=> .aCs ho hT (ex ρ) (ey ρ)⟩
   ·exact⟨_,h, .lit λρ=> .aCz ho hT (ex ρ) (ey ρ)⟩
   ·cases h
  ·cases h
 ·rename_i s t hx hy;have ex:=λρ=>hs.fL hx ρ;have ey:=λρ=>hs.fL hy ρ;simp only[bV]at ex ey;split at h
  ·exact⟨_,h, .lit λρ=> .aDh ho (ex ρ) (ey ρ)⟩
  ·exact⟨_,h, .lit λρ=> .aEa ho (ex ρ) (ey ρ)⟩
  ·cases h
 ·rename_i p l c hx hy;have ex:=λρ=>hs.fL hx ρ;have ey:=λρ=>hs.fL hy ρ;simp only[bV]at ex ey;split at h
  ·rename_i hT;exact⟨_,h, .lit λρ=> .aqH ho (ex ρ) (ey ρ) hT⟩
  ·cases h
 ·rename_i t l hx hy;have ex:=λρ=>hs.fL hx ρ;have ey:=λρ=>hs.fL hy ρ;simp only[bV]at ey;simp only[gC]at ex;split at h
  ·rename_i hT;split at h
   ·cases h
   ·exact⟨_,h, .lit λρ=> .arp ho (ex ρ) (ey ρ) hT (by simp)⟩
  ·cases h
 ·rename_i id hx hy;have ex:=λρ=>hs.fL hx ρ;have ey:=λρ=>hs.fL hy ρ;simp only[bV]at ey;simp only[dL]at ex;split at h
  ·rename_i hT;split at h
   ·rename_i hr;exact⟨_,h, .lit λρ=>by
     obtain⟨i,hi⟩:=hs.row hr ρ;exact .apt ho (ex ρ) hi (ey ρ) hT (by simp)⟩
   ·cases h
  ·cases h
 ·rename_i cs ds hx hy;exact apq hs ho hx hy h
 ·cases h
def unV(b:UnOp)(x:af AV)(K:AV->af α):af α:=match b,x with
 | .not,V (.lit (.bool p))=>K (.b (!p))
 | .neg,V (.lit (.int k n))=>K (.n k (k.wrap (0-n)))
 |_,_=>S
def ars{b:UnOp}{T:TypeId}(hs:j4 ev rd nx E R)(ho:o.op= .unOp b T x){K:AV->af α}(h:unV b (ev x) K=V r):∃d,K d=V r/\Pu P o E R nx d:=by
 unfold unV at h;split at h
 ·rename_i p hx;have ex:=λρ=>hs.fL hx ρ;simp only[bV]at ex;exact⟨_,h, .lit λρ=> .not ho (ex ρ)⟩
 ·rename_i p hx;have ex:=λρ=>hs.fL hx ρ;simp only[bV]at ex;exact⟨_,h, .lit λρ=> .neg ho (ex ρ)⟩
 ·cases h
def P5(x:af AV)(K:AV->af α):af α:=match x with
 |some (.ptr id off)=>K (.ptr id off)
 |some (.fp cs)=>K (.fp cs)
 |some (.ra id t m off)=>K (.ra id t m off)
 |_=>S
def ajm(hs:j4 ev rd nx E R)(ho:o.op= .nilCheck x){K:AV->af α}(h:P5 (ev x) K=V r):∃d,K d=V r/\Pu P o E R nx d:=by
 unfold P5 at h;split at h
 ·rename_i hx;exact⟨_,h,hs.qZ hx,λρ=>by have ex:=hs.fL hx ρ;rw[fB]at ex ⊢;exact .VC ho ex⟩
 ·rename_i hx;exact⟨_,h,hs.qZ hx,λρ=>by have ex:=hs.fL hx ρ;rw[l5]at ex ⊢;exact .V6 ho ex⟩
 ·rename_i hx;exact⟨_,h,hs.qZ hx,λρ=>by have ex:=hs.fL hx ρ;rw[jA]at ex ⊢;exact .VY ho ex⟩
 ·cases h
def mU{n:Nat}{cs:aa AV}(h:∀c∈cs,cQ n c)(k:Nat):∀c∈cs.drop k,cQ n c:=λc hc=>h c (wh hc)
def oS{n:Nat}{cs:aa AV}(h:∀c∈cs,cQ n c)(k:Nat):∀c∈cs.take k,cQ n c:=λc hc=>h c (List.mem_of_mem_take hc)
def cQ.fpL{n:Nat}{cs:aa AV}(h:cQ n (.fp cs)):∀c∈cs,cQ n c:=by cases h;assumption
def cQ.oM{n:Nat}{cs:aa AV}(h:cQ n (.agg cs)):∀c∈cs,cQ n c:=by cases h;assumption
def cQ.FO{n:Nat}{cs:aa AV}(h:cQ n (.iL cs)):∀c∈cs,cQ n c:=by cases h;assumption
def cQ.fnL{n:Nat}{f:Go.Fn}{cs:aa AV}(h:cQ n (.fn f cs)):∀c∈cs,cQ n c:=by cases h;assumption
def cQ.axV{n id off:Nat}(h:cQ n (.ptr id off)):id<n:=by cases h;assumption
def cQ.raL{n id t m off:Nat}(h:cQ n (.ra id t m off)):id<n:=by cases h;assumption
def cQ.aDl{n id:Nat}(h:cQ n (.own id)):id<n:=by cases h;assumption
def uU{n:Nat}{cs:aa AV}(h:∀c∈cs,cQ n c){k:Nat}(hk:cs[k]? =V d):cQ n d:=h d (List.mem_of_getElem? hk)
def tQ{n:Nat}{cs ds:aa AV}(h:∀c∈cs,cQ n c)(h':∀c∈ds,cQ n c):∀c∈cs++ds,cQ n c:=λc hc=>(zV.1 hc).elim (h c) (h' c)
def AO{n:Nat}(h:cQ n d):∀c∈dQ d,cQ n c:=by
 cases d<;>first|exact h.oM|(intro c hc;simp only[dQ,zy]at hc;rw[hc];exact h)
def MM(n:Nat)(zs:aa Value):∀c∈zs.map (bZ.lit (dw:=U.dw)),cQ n c:=λc hc=>by
 obtain⟨v,_,rfl⟩:=zL.1 hc;exact .lit v
def Pv(P:Program)(T:TypeId)(i:Nat)(x:af AV)(K:AV->af α):af α:=match P.underlying T with
 |some (.struct fs)=>match fs[i]? with
  |some f=>match (P.info? f.type).map (·.size)with
   |some (_+1)=>match x with
    |some (.ptr id off)=>K (.ptr id (off+f.offset))
    |some (.fp cs)=>K (.fp (cs.drop f.offset))
    |some (.ra id t m off)=>K (.ra id t m (off+f.offset))
    |_=>S
   |_=>S
  |none=>S
 |_=>S
def aiI{T:TypeId}{i:Nat}(hs:j4 ev rd nx E R)(ho:o.op= .fieldAddr T x i){K:AV->af α}(h:Pv P T i (ev x) K=V r):∃d,K d=V r/\Pu P o E R nx d:=by
 unfold Pv at h;split at h
 case h_2=>cases h
 rename_i fs hT;split at h
 case h_2=>cases h
 rename_i f hf;split at h
 case h_2=>cases h
 rename_i sz hsz;split at h
 ·rename_i id off hx;exact⟨_,h, .ptr _ _ (hs.qZ hx).axV,λρ=>by have ex:=hs.fL hx ρ;rw[fB]at ex ⊢;exact .aqd ho ex hT hf hsz⟩
 ·rename_i cs hx;exact⟨_,h, .fp _ (mU (hs.qZ hx).fpL _),λρ=>by have ex:=hs.fL hx ρ;rw[l5]at ex ⊢;rw[xJ];exact .aq5 ho ex hT hf hsz⟩
 ·rename_i id t m off hx;exact⟨_,h, .ra _ _ _ _ (hs.qZ hx).raL,λρ=>by have ex:=hs.fL hx ρ;rw[jA]at ex ⊢;rw[<-xG];exact .ape ho ex hT hf hsz⟩
 ·cases h
def Qj(P:Program)(rd:Nat->af IR)(T:TypeId)(x y:af AV)(K:AV->af α):af α:=match y with
 |some (.lit (.int _ m))=>match P.underlying T with
  |some (.slice e)=>match x with
   |some (.sl t l)=>match Lq P e (U.sz t)with
    |true=>if 0<=m/\m<(l.length:Int)then K (.fp (U.cells t l[m.toNat]!))else S
    |false=>S
   |some (.own id)=>match rd id with
    |some (.row t l)=>match Lq P e (U.sz t)with
     |true=>if 0<=m/\m<(l.length:Int)then K (.ra id t m.toNat 0)else S
     |false=>S
    |_=>S
   |_=>S
  |some (.array n e)=>match (P.info? e).map (·.size)with
   |some sz=>if 0<=m/\m<(n:Int)then(match x with
    |some (.ptr id off)=>K (.ptr id (off+m.toNat*sz))
    |some (.fp cs)=>K (.fp (cs.drop (m.toNat*sz)))
    |some (.ra id t j off)=>K (.ra id t j (off+m.toNat*sz))
    |_=>S)else S
   |none=>S
  |_=>S
 |_=>S
def ajO{T:TypeId}(hs:j4 ev rd nx E R)(ho:o.op= .indexAddr T x y){K:AV->af α}(h:Qj P rd T (ev x) (ev y) K=V r):∃d,K d=V r/\Pu P o E R nx d:=by
 unfold Qj at h;split at h
 case h_2=>cases h
 rename_i k m hy;have ey:=λρ=>hs.fL hy ρ;simp only[bV]at ey;split at h
 ·rename_i e hT;split at h
  ·rename_i t l hx;split at h
   case h_2=>cases h
   rename_i hsz;split at h
   ·rename_i hm;exact⟨_,h, .fp _ (L.qZ t _ nx),λρ=>by have ex:=hs.fL hx ρ;rw[gC]at ex;rw[l5,L.clo];exact .adO ho ex (ey ρ) hT (rq hsz) hm⟩
   ·cases h
  ·rename_i id hx;split at h
   case h_2=>cases h
   rename_i t l hr;split at h
   case h_2=>cases h
   rename_i hsz;split at h
   ·rename_i hm;refine⟨_,h, .ra _ _ _ _ (hs.qZ hx).aDl,λρ=> ?_⟩;have ex:=hs.fL hx ρ;rw[dL]at ex;obtain⟨i,hi⟩:=hs.row hr ρ;rw[jA,yq];exact .aa9 i ho ex hi (ey ρ) hT (rq hsz) hm
   ·cases h
  ·cases h
 ·rename_i n e hT;split at h
  case h_2=>cases h
  rename_i sz hsz;split at h
  case isFalse=>cases h
  rename_i hm;split at h
  ·rename_i id off hx;exact⟨_,h, .ptr _ _ (hs.qZ hx).axV,λρ=>by have ex:=hs.fL hx ρ;rw[fB]at ex ⊢;exact .ar0 ho ex (ey ρ) hT hsz hm⟩
  ·rename_i cs hx;exact⟨_,h, .fp _ (mU (hs.qZ hx).fpL _),λρ=>by have ex:=hs.fL hx ρ;rw[l5]at ex ⊢;rw[xJ];exact .anJ ho ex (ey ρ) hT hsz hm⟩
  ·rename_i id t j off hx;exact⟨_,h, .ra _ _ _ _ (hs.qZ hx).raL,λρ=>by have ex:=hs.fL hx ρ;rw[jA]at ex ⊢;rw[<-xG];exact .aqb ho ex (ey ρ) hT hsz hm⟩
  ·cases h
 ·cases h
def ldV(P:Program)(rd:Nat->af IR)(T:TypeId)(x:af AV)(K:AV->af α):af α:=match Wl P T with
 |true=>match x with
  |some (.fp cs)=>(cs[0]?).bind K
  |some (.ptr id off)=>match rd id with
   |some (.box _ cs)=>(cs[off]?).bind K
   |_=>S
  |some (.ra id t m off)=>match rd id with
   |some (.row t' l)=>match L.arr t' with
    |true=>if t=t'/\m<l.length/\off<U.sz t' then K (.lit (.bool (L.gtB t' l[m]! off)))else S
    |false=>if t=t'/\m<l.length then((U.cells t' l[m]!)[off]?).bind K else S
   |_=>S
  |_=>S
 |false=>match Ty P T with
  |some n=>match x with
   |some (.fp cs)=>match yh n cs.length with
    |true=>K (.agg (cs.take n))
    |false=>S
   |some (.ptr id off)=>match rd id with
    |some (.box _ cs)=>match yh (off+n) cs.length with
     |true=>K (.agg ((cs.drop off).take n))
     |false=>S
    |_=>S
   |some (.ra id t m off)=>match rd id with
    |some (.row t' l)=>match yh (off+n) (U.sz t')with
     |true=>if t=t'/\m<l.length then K (.agg (((U.cells t' l[m]!).drop off).take n))else S
     |false=>S
    |_=>S
   |_=>S
  |none=>S
def aoP{T:TypeId}(hs:j4 ev rd nx E R)(ho:o.op= .load T x){K:AV->af α}(h:ldV P rd T (ev x) K=V r):∃d,K d=V r/\Pu P o E R nx d:=by
 unfold ldV at h;split at h
 ·rename_i hT;have hT:=Ca hT;split at h
  ·rename_i cs hx;obtain⟨d,hd,h⟩:=zn.1 h;exact⟨d,h,uU (hs.qZ hx).fpL hd,λρ=>by have ex:=hs.fL hx ρ;rw[l5]at ex;exact .aoJ ho ex hT (by rw[ya,hd];rfl)⟩
  ·rename_i id off hx;split at h
   case h_2=>cases h
   rename_i t cs hr;obtain⟨d,hd,h⟩:=zn.1 h;refine⟨d,h,uU (hs.ag9 hr) hd,λρ=> ?_⟩;have ex:=hs.fL hx ρ;rw[fB]at ex;obtain⟨i,hi⟩:=hs.box hr ρ;exact .anX i ho ex hi hT (by rw[ya,hd];rfl)
  ·rename_i id t m off hx;split at h
   case h_2=>cases h
   rename_i t' l hr;split at h
   ·rename_i har;split at h
    case isFalse=>cases h
    rename_i hm;obtain⟨rfl,hm,hoff⟩:=hm;refine⟨_,h, .lit _,λρ=> ?_⟩;have ex:=hs.fL hx ρ;rw[jA]at ex;obtain⟨i,hi⟩:=hs.row hr ρ;rw[show (bZ.lit (.bool (L.gtB t l[m]! off)):AV).sub ρ= .lit (.bool (L.gtB t l[m]! off))by simp only[bZ.sub]];exact .WM i m ho ex hi hT rfl hm (L.aiK t har l[m]! off hoff)
   split at h
   case isFalse=>cases h
   rename_i hm;obtain⟨rfl,hm⟩:=hm;obtain⟨d,hd,h⟩:=zn.1 h;refine⟨d,h,uU (L.qZ t _ nx) hd,λρ=> ?_⟩;have ex:=hs.fL hx ρ;rw[jA]at ex;obtain⟨i,hi⟩:=hs.row hr ρ;have hc:d.sub ρ=d:=by
    have:=L.clo t l[m]! ρ;have h2:((U.cells t l[m]!).map (bZ.sub ρ))[off]? =V (d.sub ρ):=by rw[ya,hd];rfl
    rw[this,hd]at h2;exact(zA.inj h2).symm
   rw[hc];exact .WM i m ho ex hi hT rfl hm hd
  ·cases h
 ·split at h
  case h_2=>cases h
  rename_i n hT;have hT:=Lg hT;split at h
  ·rename_i cs hx;split at h
   case h_2=>cases h
   rename_i hn;exact⟨_,h, .agg _ (oS (hs.qZ hx).fpL _),λρ=>by have ex:=hs.fL hx ρ;rw[l5]at ex;rw[fe,xQ];exact .aoL ho ex hT (by rw[zx];exact wj hn)⟩
  ·rename_i id off hx;split at h
   case h_2=>cases h
   rename_i t cs hr;split at h
   case h_2=>cases h
   rename_i hn;refine⟨_,h, .agg _ (oS (mU (hs.ag9 hr) _) _),λρ=> ?_⟩;have ex:=hs.fL hx ρ;rw[fB]at ex;obtain⟨i,hi⟩:=hs.box hr ρ;rw[fe,xQ,xJ];exact .apW i ho ex hi hT (by rw[zx];exact wj hn)
  ·rename_i id t m off hx;split at h
   case h_2=>cases h
   rename_i t' l hr;split at h
   case h_2=>cases h
   rename_i hn;split at h
   case isFalse=>cases h
   rename_i hm;obtain⟨rfl,hm⟩:=hm;refine⟨_,h, .agg _ (oS (mU (L.qZ t _ nx) _) _),λρ=> ?_⟩;have ex:=hs.fL hx ρ;rw[jA]at ex;obtain⟨i,hi⟩:=hs.row hr ρ;rw[fe,xQ,xJ,L.clo];exact .aog i m ho ex hi hT rfl hm (wj hn)
  ·cases h
end
end Go.Iv
end
noncomputable section
namespace Go.Iv
variable [U:ru] [L:l7]
open Go Go.RowKit
section
variable {P:Program} {E:Env} {σ:aa cE} {o:Oper} {T T' e:TypeId} {x y z:Operand} {av:AV} {m:Int} {k:IntKind}
def Yp.anI{n':Nat}{cs:aa AV}(ho:o.op= .index T x y)(hx:E.ev x=V (.agg cs))(hy:E.ev y=V (.n k m))(hT:P.underlying T=V (.array n' e))(h1:rW P e)(hs:(P.info? e).map (·.size)=V 1)(hm:0<=m/\m<n')(ha:cs[m.toNat]? =V av):Yp P E σ o av:=λA w ρ _ hρ=>by
 obtain⟨j,hj,hj'⟩:=zj.1 hs;obtain⟨us,q1,q2⟩:=(hρ _ _ hx).nP;have hy':=(hρ _ _ hy).cK;obtain⟨v,q3,q4⟩:=q2.get ha;refine⟨v,q4,λw' _=> ?_⟩;have hp:(part e us.toArray m.toNat).run P w'= .ok v w':=by
  unfold part;rw[Sem.run_bind,mh h1];simp[q3]
 simp[execOp,ho,Instr.index,q1,hy',run_underlying hT,sizeOf,typeInfo,hj,hj',asIntOf,hm,hp]
end
section
variable {α:Type} {r:α} {P:Program} {o:Oper} {E:Env} {R:aZ} {nx:Nat} {ev:Operand->af AV} {rd:Nat->af IR} {x y z:Operand} {d:AV} {A:Nat->Prop} {w:World} {ρ:Gh} {v:Value}
def kU(ρ:Gh)(d:AV):dQ (d.sub ρ)=(dQ d).map (bZ.sub ρ):=by
 cases d<;>simp only[bZ.sub,dQ,yc,yR]
def Pm{d:AV}(h:iu d=O)(hn:∀id,d≠ .own id):iu (d.sub ρ)=O:=by
 cases d<;>first|(exact dF rfl (hn _))|(cases h;done)|(simp only[bZ.sub,iu]at h ⊢;done)|(simp only[bZ.sub,iu]at h ⊢;first|exact h|rfl)
def CT(hs:j4 ev rd nx E R)(h:D6 rd d=O)(hd:Hd A (aZ.res ρ R) w)(hr:Rel A w (d.sub ρ) v):v.oneCell'=O:=by
 unfold D6 at h;split at h
 ·rename_i id;split at h
  ·rename_i t l hrd;obtain⟨i,hi⟩:=hs.row hrd ρ;rw[dL]at hr;rw[hr.cK];exact ahp i hi hd
  ·cases h
 ·rw[fB]at hr;rw[hr.cK];rfl
 ·cases h
 ·rename_i h1 _ _;exact hr.one (Pm h (λid e=>h1 id e))
def uN(hs:j4 ev rd nx E R)(h:DX rd d=O)(hd:Hd A (aZ.res ρ R) w)(hr:Rel A w (d.sub ρ) v):bL A w ((dQ d).map (bZ.sub ρ)) v.cells.toList/\∀u∈v.cells.toList,u.oneCell'=O:=by
 by_cases ha:∃cs,d= .agg cs
 ·obtain⟨cs,rfl⟩:=ha;rw[fe]at hr;obtain⟨us,rfl,h2⟩:=hr.nP;refine⟨by simpa [Value.cells,dQ]using h2,λu hu=> ?_⟩;simp only[Value.cells,List.toList_toArray]at hu;obtain⟨j,hj,rfl⟩:=yY hu;have hlt:j<cs.length:=by have:=h2.1;rw[zx]at this;omega
  have h3:=h2.2 j _ us[j] (by rw[ya,zu hlt];rfl) (zu hj);exact CT hs (zw.1 h _ (xM hlt)) hd h3
 ·have hc:D6 rd d=O:=by
   cases d<;>first|exact h|(exact dF ⟨_,rfl⟩ ha)
  have hac:dQ d=[d]:=by
   cases d<;>first|rfl|(exact dF ⟨_,rfl⟩ ha)
  have h2:=CT hs hc hd hr;rw[hac,rZ h2];exact⟨bL.cons hr bL.nil,λu hu=>by simp at hu;rw[hu];exact h2⟩
def Hh(hs:j4 ev rd nx E R)(h:DX rd d=O):Pw (aZ.res ρ R) (d.sub ρ):=λA w v hd hr=>by
 rw[kU];exact uN hs h hd hr
def uk(rd:Nat->af IR)(place:Nat->af (Nat×Nat))(cells:aa AV):aa (Nat×AV)->af (aa AV)
 |[]=>V cells
 |(i,a)::rest=>
  match place i with
  |none=>S
  |some (off,size)=>
   match zf (dQ a).length size&&yh (off+size) cells.length&&DX rd a with
   |true=>uk rd place (cells.take off++dQ a++cells.drop (off+size)) rest
   |false=>S
def GW{place:Nat->af (Nat×Nat)}:∀{ps:aa (Nat×AV)} {cs cs':aa AV},(∀c∈cs,cQ nx c)->(∀p∈ps,cQ nx p.2)->uk rd place cs ps=V cs'->∀c∈cs',cQ nx c
 |[],cs,cs',h1,_,hf=>by cases hf;exact h1
 |(i,a)::ps,cs,cs',h1,h2,hf=>by
  unfold uk at hf;split at hf
  ·cases hf
  ·split at hf
   ·exact GW (tQ (tQ (oS h1 _) (AO (h2 _ zm))) (mU h1 _)) (λp hp=>h2 p (zO _ hp)) hf
   ·cases hf
def AA(hs:j4 ev rd nx E R)(hd:Hd A (aZ.res ρ R) w){place:Nat->af (Nat×Nat)}:∀{ps:aa (Nat×AV)} {qs:aa (Nat×Value)} {cs cs':aa AV} {init:Array Value},bL A w (cs.map (bZ.sub ρ)) init.toList->
  F2 (λ(p:Nat×AV) (q:Nat×Value)=>p.1=q.1/\Rel A w (p.2.sub ρ) q.2) ps qs->uk rd place cs ps=V cs'->∃us:Array Value,Instr.fill place init qs=V us/\bL A w (cs'.map (bZ.sub ρ)) us.toList
 |[],_,cs,cs',init,hi,hp,hf=>by
  cases hp;cases hf;exact⟨init,rfl,hi⟩
 |(i,a)::ps,_,cs,cs',init,hi,hp,hf=>by
  cases hp with
  |@cons _ q _ qs h1 h2=>
   obtain⟨j,v⟩:=q;obtain⟨h3,h4⟩:=h1;simp only at h3 h4;subst h3;unfold uk at hf;unfold Instr.fill;cases hpl:place i with
   |none=>rw[hpl]at hf;cases hf
   |some os=>
    obtain⟨off,size⟩:=os;rw[hpl]at hf;simp only at hf ⊢;split at hf
    ·rename_i hc;simp only[zi,Nat.ble_eq]at hc;obtain⟨⟨hc1,hc2⟩,hc3⟩:=hc;have hc1:=xg hc1;obtain⟨h5,h6⟩:=uN hs hc3 hd h4;have hvs:v.cells.size=size:=by rw[<-yg,h5.1,zx,hc1]
     have his:init.size=cs.length:=by rw[<-yg,hi.1,zx]
     rw[bP (by simp[hvs];omega)];refine AA hs hd (cs:=cs.take off++dQ a++cs.drop (off+size)) ?_ h2 hf;have hvl:v.cells.toList.length=size:=by rw[yg,hvs]
     have e:(v.cells.zipIdx.foldl (λcs (x:Value×Nat)=>match x with|(c,j)=>cs.setIfInBounds (off+j) c) init).toList=init.toList.take off++v.cells.toList++init.toList.drop (off+size):=by
      have:=Vd v.cells.toList 0 off init (by rw[hvl];omega);rw[hvl,yq]at this;rw[<-this,<-Array.foldl_toList,Array.toList_zipIdx]
     show bL A w _ (v.cells.zipIdx.foldl _ init).toList;rw[e,z8,z8,xQ,xJ];exact((hi.take off).app h5).app (hi.drop (off+size))
    ·cases hf
def evp(ev:Operand->af AV):aa (Nat×Operand)->af (aa (Nat×AV))
 |[]=>V []
 |(i,x)::xs=>match ev x with
  |some a=>(evp ev xs).map λas0=>(i,a)::as0
  |none=>S
def RI(hs:j4 ev rd nx E R):∀{xs:aa (Nat×Operand)} {as0:aa (Nat×AV)},evp ev xs=V as0->∀p∈as0,cQ nx p.2
 |[],as0,h=>by cases h;simp
 |(i,x)::xs,as0,h=>by
  unfold evp at h;split at h
  ·rename_i a ha;obtain⟨as',h1,rfl⟩:=zj.1 h;intro p hp;rcases zB.1 hp with rfl|hp
   ·exact hs.qZ ha
   ·exact RI hs h1 p hp
  ·cases h
def HR(hs:j4 ev rd nx E R){ϱ:Operand->Value}(h:NT A w (E.sub ρ) ϱ):∀{xs:aa (Nat×Operand)} {as0:aa (Nat×AV)},evp ev xs=V as0->
  F2 (λ(p:Nat×AV) (q:Nat×Value)=>p.1=q.1/\Rel A w (p.2.sub ρ) q.2) as0 (xs.map λp=>(p.1,ϱ p.2))
 |[],as0,he=>by cases he;exact .nil
 |(i,x)::xs,as0,he=>by
  unfold evp at he;split at he
  ·rename_i a ha;obtain⟨as',h1,rfl⟩:=zj.1 he;exact .cons ⟨rfl,h x _ (hs.fL ha ρ)⟩ (HR hs h h1)
  ·cases he
def KI(ev:Operand->af AV):aa Operand->af (aa AV)
 |[]=>V []
 |x::xs=>match ev x with
  |some a=>(KI ev xs).map λas0=>a::as0
  |none=>S
def HJ(hs:j4 ev rd nx E R):∀{xs:aa Operand} {as0:aa AV},KI ev xs=V as0->∀d∈as0,cQ nx d
 |[],as0,h=>by cases h;simp
 |x::xs,as0,h=>by
  unfold KI at h;split at h
  ·rename_i a ha;obtain⟨as',h1,rfl⟩:=zj.1 h;intro p hp;rcases zB.1 hp with rfl|hp
   ·exact hs.qZ ha
   ·exact HJ hs h1 p hp
  ·cases h
def Iw(hs:j4 ev rd nx E R)(ρ:Gh):∀{xs:aa Operand} {as0:aa AV},KI ev xs=V as0->(E.sub ρ).KI xs=V (as0.map (bZ.sub ρ))
 |[],as0,he=>by cases he;rfl
 |x::xs,as0,he=>by
  unfold KI at he;split at he
  ·rename_i a ha;obtain⟨as',h1,rfl⟩:=zj.1 he;unfold Env.KI;rw[hs.fL ha ρ,Iw hs ρ h1];rfl
  ·cases he
def Ox(P:Program)(ev:Operand->af AV)(rd:Nat->af IR)(T:TypeId)(ps:aa (Nat×Operand))(K:AV->af α):af α:=
 match evp ev ps,jR P T with
 |some as0,V zs=>match P.underlying T with
  |some (.struct _)=>match placesOf P T with
   |some places=>(uk rd (places[·]?) (zs.map .lit) as0).bind λcs=>K (.agg cs)
   |none=>S
  |some (.array _ e)=>match (P.info? e).map (·.size)with
   |some sz=>(uk rd (λi=>V (i*sz,sz)) (zs.map .lit) as0).bind λcs=>K (.agg cs)
   |none=>S
  |_=>S
 |_,_=>S
def Ea(ρ:Gh)(zs:aa Value):(zs.map (bZ.lit (dw:=U.dw))).map (bZ.sub ρ)=zs.map .lit:=by
 rw[ym];exact zX λv _=>bV ρ v
def adQ{T:TypeId}{ps:Array (Nat×Operand)}(hs:j4 ev rd nx E R)(ho:o.op= .build T ps){K:AV->af α}(h:Ox P ev rd T ps.toList K=V r):∃d,K d=V r/\Pu P o E R nx d:=by
 unfold Ox at h;split at h
 case h_2=>cases h
 rename_i as0 zs he hz;have main:∀(place:Nat->af (Nat×Nat)) (cs:aa AV),uk rd place (zs.map .lit) as0=V cs->(∀(vs:aa (Nat×Value)) (us:Array Value),Instr.fill place zs.toArray vs=V us->P.built T vs=V us)->Pu P o E R nx (.agg cs):=λplace cs hf hb=>by
  refine⟨.agg _ (GW (MM nx zs) (RI hs he) hf),λρ A w ϱ hd hρ=> ?_⟩;obtain⟨it,hit,hz1⟩:=zn.1 hz;obtain⟨zv,hz2,hz3⟩:=zj.1 hz1;have hzr:bL A w ((zs.map bZ.lit).map (bZ.sub ρ)) zs:=by rw[Ea];exact bL.lits _
  obtain⟨us,h1,h2⟩:=AA (init:=zs.toArray) hs hd hzr (HR hs hρ he) hf;rw[fe];refine⟨.agg us,by simpa using Rel.oM h2,λw' _=> ?_⟩;have:=run_build (P:=P) w' T _ us (hb _ us h1);rw[<-K3]at this;simp[execOp,ho,this]
 split at h
 ·rename_i fs hT;split at h
  case h_2=>cases h
  rename_i places hp;obtain⟨cs,hf,h⟩:=zn.1 h;refine⟨_,h,main _ cs hf λvs us hu=> ?_⟩;obtain⟨it,hit,hz1⟩:=zn.1 hz;obtain⟨zv,hz2,hz3⟩:=zj.1 hz1;unfold Program.built;unfold placesOf at hp;rw[hit,hT]at*;simp only at hp;simp only[hz2,hp];have:zv.cells=zs.toArray:=by rw[<-hz3]
  rw[this];simpa using hu
 ·rename_i n e hT;split at h
  case h_2=>cases h
  rename_i sz hsz;obtain⟨cs,hf,h⟩:=zn.1 h;refine⟨_,h,main _ cs hf λvs us hu=> ?_⟩;obtain⟨it,hit,hz1⟩:=zn.1 hz;obtain⟨zv,hz2,hz3⟩:=zj.1 hz1;obtain⟨ie,hie,hse⟩:=zj.1 hsz;unfold Program.built;rw[hit,hT];simp only[hz2,hie,hse];have:zv.cells=zs.toArray:=by rw[<-hz3]
  rw[this];exact hu
 ·cases h
def OY(P:Program)(rd:Nat->af IR)(T T':TypeId)(x:af AV)(K:AV->af α):af α:=match P.underlying T,P.underlying T' with
 |some (.int _),V (.int k')=>match x with
  |some (.lit (.int k n))=>match P.underlying T with
   |some (.int k0)=>if k0=k then K (.n k' (k'.wrap n))else S
   |_=>S
  |_=>S
 |some (.slice e),V .string=>match P.underlying e with
  |some (.int .u8)=>match x with
   |some (.sl t l)=>(L.ahZ t l).bind λns=>K (.s (strOfNums ns))
   |some (.own id)=>match rd id with
    |some (.row t l)=>(L.ahZ t l).bind λns=>K (.s (strOfNums ns))
    |_=>S
   |_=>S
  |_=>S
 |_,_=>S
def ajj{T T':TypeId}(hs:j4 ev rd nx E R)(ho:o.op= .convert T T' x){K:AV->af α}(h:OY P rd T T' (ev x) K=V r):∃d,K d=V r/\Pu P o E R nx d:=by
 unfold OY at h;split at h
 ·rename_i k0 k' hT hT';split at h
  case h_2=>cases h
  rename_i k n hx;have ex:=λρ=>hs.fL hx ρ;simp only[bV]at ex;split at h
  case h_2=>cases h
  rename_i k1 hk1;split at h
  case isFalse=>cases h
  rename_i hk;subst hk;exact⟨_,h, .lit λρ=> .conv hk1 hT' ho (ex ρ)⟩
 ·rename_i e hT hT';split at h
  case h_2=>cases h
  rename_i he;split at h
  ·rename_i t l hx;obtain⟨ns,hn,h⟩:=zn.1 h;exact⟨_,h, .lit λρ=> .b2s ho (.inr (.inl (by have ex:=hs.fL hx ρ;rw[gC]at ex;exact ex))) (L.vn t l ns hn).1 (L.vn t l ns hn).2 hT he hT'⟩
  ·rename_i id hx;split at h
   case h_2=>cases h
   rename_i t l hr;obtain⟨ns,hn,h⟩:=zn.1 h;refine⟨_,h, .lit λρ=> ?_⟩;have ex:=hs.fL hx ρ;rw[dL]at ex;obtain⟨i,hi⟩:=hs.row hr ρ;exact .b2s ho (.inr (.inr ⟨i,_,ex,hi⟩)) (L.vn t l ns hn).1 (L.vn t l ns hn).2 hT he hT'
  ·cases h
 ·cases h
def Ql(i:Nat)(x:af AV)(K:AV->af α):af α:=match x with
 |some (.iL cs)=>(cs[i]?).bind K
 |_=>S
def afv{i:Nat}(hs:j4 ev rd nx E R)(ho:o.op= .extract x i){K:AV->af α}(h:Ql i (ev x) K=V r):∃d,K d=V r/\Pu P o E R nx d:=by
 unfold Ql at h;split at h
 ·rename_i cs hx;obtain⟨d,hd,h⟩:=zn.1 h;exact⟨d,h,uU (hs.qZ hx).FO hd,λρ=>by have ex:=hs.fL hx ρ;rw[kI]at ex;exact .extract ho ex (by rw[ya,hd];rfl)⟩
 ·cases h
def Ou(ev:Operand->af AV)(f:Go.Fn)(fs cs:aa Operand)(K:AV->af α):af α:=match fs with
 |[]=>(KI ev cs).bind λas0=>K (.fn f as0)
 |_=>S
def aid{f:Go.Fn}{fs cs:Array Operand}(hs:j4 ev rd nx E R)(ho:o.op= .makeFunc f fs cs){K:AV->af α}(h:Ou ev f fs.toList cs.toList K=V r):∃d,K d=V r/\Pu P o E R nx d:=by
 unfold Ou at h;split at h
 ·rename_i h0;obtain⟨as0,ha,h⟩:=zn.1 h;refine⟨_,h, .fn _ _ (HJ hs ha),λρ=> ?_⟩;rw[tg];exact .func ho (by rw[<-Array.toList_eq_nil_iff];exact h0) (Iw hs ρ ha)
 ·cases h
def cw(s:ByteArray)(i:Nat):Int:=((s.data[i]!).toNat:Int)
def Yp.am1{T:TypeId}{E:Env}{σ:aa cE}{s:ByteArray}{k:IntKind}{m:Int}(ho:o.op= .index T x y)(hx:E.ev x=V (.s s))(hy:E.ev y=V (.n k m))(hT:P.underlying T=V .string)(hm:0<=m/\m<(s.size:Int)):Yp P E σ o (.n .u8 (cw s m.toNat)):=λA w ρ _ hρ=>by
 refine⟨_, .lit _,λw' _=> ?_⟩;have hx':=(hρ _ _ hx).cK;have hy':=(hρ _ _ hy).cK;have h:=run_index_string (P:=P) w' T s k m hT;rw[dif_pos hm]at h;have e:cw s m.toNat=((s[m.toNat]'(by omega)).toNat:Int):=by
  unfold cw;have hlt:m.toNat<s.data.size:=by have:s.data.size=s.size:=rfl;omega
  rw[getElem!_pos s.data m.toNat hlt];rfl
 rw[<-e]at h;simp[execOp,ho,hx',hy',h]
def Qt(P:Program)(T:TypeId)(x y:af AV)(K:AV->af α):af α:=match P.underlying T with
 |some (.array n e)=>match Wl P e&&Lq P e 1 with
  |true=>match x,y with
   |some (.agg cs),V (.lit (.int _ m))=>if 0<=m/\m<(n:Int)then(cs[m.toNat]?).bind K else S
   |_,_=>S
  |false=>S
 |some .string=>match x,y with
  |some (.lit (.string s)),V (.lit (.int _ m))=>if 0<=m/\m<(s.size:Int)then K (.n .u8 (cw s m.toNat))else S
  |_,_=>S
 |_=>S
def aef{T:TypeId}(hs:j4 ev rd nx E R)(ho:o.op= .index T x y){K:AV->af α}(h:Qt P T (ev x) (ev y) K=V r):∃d,K d=V r/\Pu P o E R nx d:=by
 unfold Qt at h;split at h
 case h_3=>cases h
 case h_2=>
  rename_i hT;split at h
  case h_2=>cases h
  rename_i s k m hx hy;split at h
  case isFalse=>cases h
  rename_i hm;have ex:=λρ=>hs.fL hx ρ;have ey:=λρ=>hs.fL hy ρ;simp only[bV]at ex ey;exact⟨_,h, .lit λρ=> .am1 ho (ex ρ) (ey ρ) hT hm⟩
 rename_i n e hT;split at h
 case h_2=>cases h
 rename_i he;simp only[zi]at he;split at h
 case h_2=>cases h
 rename_i cs k m hx hy;split at h
 case isFalse=>cases h
 rename_i hm;obtain⟨d,hd,h⟩:=zn.1 h;refine⟨d,h,uU (hs.qZ hx).oM hd,λρ=> ?_⟩;have ex:=hs.fL hx ρ;have ey:=hs.fL hy ρ;rw[fe]at ex;rw[bV]at ey;exact .anI ho ex ey hT (Ca he.1) (rq he.2) hm (by rw[ya,hd];rfl)
def Oa(P:Program)(T:TypeId)(x:af AV)(lo hi:af (af AV))(K:AV->af α):af α:=match P.underlying T with
 |some (.slice e)=>match x with
  |some (.sl t l)=>match Lq P e (U.sz t)with
   |true=>match lo,hi with
    |some (V (.lit (.int _ a))),V (V (.lit (.int _ b)))=>if 0<=a/\a<=b/\b<=(l.length:Int)then K (.sl t ((l.take b.toNat).drop a.toNat))else S
    |none,V (V (.lit (.int _ b)))=>if 0<=b/\b<=(l.length:Int)then K (.sl t (l.take b.toNat))else S
    |some (V (.lit (.int _ a))),S=>if 0<=a/\a<=(l.length:Int)then K (.sl t (l.drop a.toNat))else S
    |_,_=>S
   |false=>S
  |some (.lit (.slice S 0 0))=>match P.info? e with
   |some _=>match lo,hi with
    |some (V (.lit (.int _ 0))),S=>K (.lit (.slice S 0 0))
    |_,_=>S
   |none=>S
  |_=>S
 |_=>S
def Yp.abd{P:Program}{E:Env}{σ:aa cE}{o:Oper}{T e:TypeId}{x y:Operand}{k:IntKind}{j:TypeInfo}(ho:o.op= .slice T x (V y) S S)(hx:E.ev x=V (.lit (.slice S 0 0)))(hy:E.ev y=V (.lit (.int k 0)))(hT:P.underlying T=V (.slice e))(hj:P.info? e=V j):Yp P E σ o (.lit (.slice S 0 0)):=Yp.lits λρ hρ w=>by
 simp[execOp,ho,hρ _ _ hx,hρ _ _ hy,Instr.sliceAt,Instr.slice,Instr.sliceBounds,Instr.sliceBound,run_underlying hT,sizeOf,typeInfo,hj,asIntOf]
def ahs{T:TypeId}{lo hi:af Operand}(hs:j4 ev rd nx E R)(ho:o.op= .slice T x lo hi S){K:AV->af α}(h:Oa P T (ev x) (lo.map ev) (hi.map ev) K=V r):∃d,K d=V r/\Pu P o E R nx d:=by
 unfold Oa at h;split at h
 case h_2=>cases h
 rename_i e hT;split at h
 case h_3=>cases h
 case h_2=>
  rename_i hx;split at h
  case h_2=>cases h
  rename_i j hj;split at h
  case h_2=>cases h
  rename_i k hlo hhi;cases lo with
  |none=>cases hlo
  |some lo=>
   cases hi with
   |some hi=>cases hhi
   |none=>
    have ex:=λρ=>hs.fL hx ρ;have e1:=λρ=>hs.fL (zA.inj hlo) ρ;simp only[bV]at ex e1;exact⟨_,h, .lit _,λρ=>by rw[bV];exact .abd ho (ex ρ) (e1 ρ) hT hj⟩
 rename_i t l hx;split at h
 case h_2=>cases h
 rename_i hsz;have hsz:=rq hsz;have ex:=λρ=>hs.fL hx ρ;simp only[gC]at ex;split at h
 ·rename_i k a k' b hlo hhi;split at h
  case isFalse=>cases h
  rename_i hc;cases lo with
  |none=>cases hlo
  |some lo=>
   cases hi with
   |none=>cases hhi
   |some hi=>
    have e1:=λρ=>hs.fL (zA.inj hlo) ρ;have e2:=λρ=>hs.fL (zA.inj hhi) ρ;simp only[bV]at e1 e2;exact⟨_,h, .sl _ _,λρ=>by rw[gC];exact .ani ho (ex ρ) (e1 ρ) (e2 ρ) hT hsz hc⟩
 ·rename_i k' b hlo hhi;split at h
  case isFalse=>cases h
  rename_i hc;cases lo with
  |some lo=>cases hlo
  |none=>
   cases hi with
   |none=>cases hhi
   |some hi=>
    have e2:=λρ=>hs.fL (zA.inj hhi) ρ;simp only[bV]at e2;exact⟨_,h, .sl _ _,λρ=>by rw[gC];exact .agJ ho (ex ρ) (e2 ρ) hT hsz hc⟩
 ·rename_i k a hlo hhi;split at h
  case isFalse=>cases h
  rename_i hc;cases lo with
  |none=>cases hlo
  |some lo=>
   cases hi with
   |some hi=>cases hhi
   |none=>
    have e1:=λρ=>hs.fL (zA.inj hlo) ρ;simp only[bV]at e1;exact⟨_,h, .sl _ _,λρ=>by rw[gC];exact .ajz ho (ex ρ) (e1 ρ) hT hsz hc⟩
 ·cases h
def OM(P:Program)(rd:Nat->af IR)(T:TypeId)(x:af AV)(K:AV->af α):af α:=match P.underlying T with
 |some (.slice _)=>match x with
  |some (.sl _ l)=>K (.i (l.length:Int))
  |some (.own id)=>match rd id with
   |some (.row _ l)=>K (.i (l.length:Int))
   |_=>S
  |some (.lit (.slice S 0 0))=>K (.i 0)
  |_=>S
 |some .string=>match x with
  |some (.lit (.string s))=>K (.i (s.size:Int))
  |_=>S
 |_=>S
def ajM{T:TypeId}(hs:j4 ev rd nx E R)(ho:o.op= .call {callee:= .builtin .len,args:=#[x],argTypes:=#[T]}){K:AV->af α}(h:OM P rd T (ev x) K=V r):∃d,K d=V r/\Pu P o E R nx d:=by
 unfold OM at h;split at h
 ·rename_i e hT;split at h
  ·rename_i t l hx;exact⟨_,h, .lit λρ=> .axY ho (by have ex:=hs.fL hx ρ;rw[gC]at ex;exact ex) hT⟩
  ·rename_i id hx;split at h
   case h_2=>cases h
   rename_i t l hr;refine⟨_,h, .lit λρ=> ?_⟩;have ex:=hs.fL hx ρ;rw[dL]at ex;obtain⟨i,hi⟩:=hs.row hr ρ;exact .ar3 i ho ex hi hT
  ·rename_i hx;exact⟨_,h, .lit λρ=> .aqO ho (by have ex:=hs.fL hx ρ;rw[bV]at ex;exact ex) hT⟩
  ·cases h
 ·rename_i hT;split at h
  ·rename_i s hx;exact⟨_,h, .lit λρ=> .apx ho (by have ex:=hs.fL hx ρ;rw[bV]at ex;exact ex) hT⟩
  ·cases h
 ·cases h
end
end Go.Iv
end
noncomputable section
namespace Go.Iv
variable [U:ru]
open Go Go.RowKit
def Fw{zs:aa Value}{sz:Nat}(hsz:zs.length=sz)(nn:Nat):(Builtin.zeroCells zs.toArray nn).toList=(zk nn zs).flatten:=by
 apply List.ext_getElem?;intro j;have hfl:(zk nn zs).flatten.length=nn*sz:=by simp[hsz]
 have hq:∀(q:Nat) (j:Nat),j<q*sz->(zk q zs).flatten[j]? =zs[j%sz]? :=by
  intro q;induction q with
  |zero=>intro j hj;simp at hj
  |succ q ih=>
   intro j hj;rw[yO,wF,xh];split
   ·rename_i h;rw[hsz]at h;rw[Nat.mod_eq_of_lt h]
   ·rename_i h;rw[hsz]at h;rw[hsz,ih _ (by rw[yN]at hj;omega),Nat.mod_eq_sub_mod (by omega:sz<=j)]
 by_cases hj:j<nn*sz
 ·rw[hq nn j hj];have h0:0<sz:=by
   rcases wE sz with h|h
   ·rw[h]at hj;omega
   ·exact h
  have hlt:j%sz<zs.length:=by rw[hsz];exact yP _ h0
  rw[zu hlt];simp[Builtin.zeroCells,hsz,hj,zu hlt]
 ·rw[x9 (l:=(zk nn zs).flatten) (by rw[hfl];omega),x9];simp[Builtin.zeroCells,hsz];omega
def BA{P:Program}{w:World}{T tn ty e:TypeId}{kn:IntKind}{i:TypeInfo}{zz v:Value}{sz by' nn mm:Nat}{us:aa Value}(ht:P.underlying T=V (.slice e))(htn:P.underlying tn=V (.int kn))(hi:P.info? e=V i)(hz:i.zero=V zz)(hs:i.size=sz)(hby:i.bytes=by')(hzs:zz.cells.size=sz)(hpos:0<sz)
  (hrow:gI w v e sz nn us) (h1:∀u∈(Builtin.zeroCells zz.cells mm).toList,u.oneCell'=O) (h63:nn+mm<=maxLen) (hb:(nn+mm)*by'<=140737488355328):
  ∃v' w',(Builtin.append_ #[T,tn] ty #[v, .int .i64 mm]).run P w= .ok v' w'/\gI w' v' e sz (nn+mm) (us++(Builtin.zeroCells zz.cells mm).toList)/\Kp (gG v).toList w w'/\(gG v'=gG v\/gG v'=V w.heap.size):=by
 subst hs hby
 have h63':((nn+mm:Nat):Int)<=9223372036854775807:=by unfold maxLen at h63;omega
 have hw:IntKind.i64.wrap (mm:Int)=mm:=by rw[IntKind.wrap_i64];omega
 have hneg:¬((mm:Int)<0):=by omega
 have hmb:mm*i.bytes<=140737488355328:=zK (yK _ (by omega)) hb;have h48i:¬(281474976710656<(mm:Int)*(i.bytes:Int)):=by rw[<-xI];omega
 have hzl:(Builtin.zeroCells zz.cells mm).toList.length=mm*i.size:=by rw[yg,size_zeroCells,hzs]
 by_cases hm:mm=0
 ·subst hm;obtain⟨q,cap,rfl,hcap⟩:=hrow.len;have hrun:(Builtin.append_ #[T,tn] ty #[.slice q nn cap, .int .i64 (0:Nat)]).run P w= .ok (.slice q nn cap) w:=by
   cases q<;>simp[Builtin.append_,run_underlying ht,run_underlying htn,sizeOf,typeInfo,hi,asInt,asIntOf,hw,hcap,storeCells,IntKind.wrap_i64]
  exact⟨_,w,hrun,by simpa [Builtin.zeroCells]using hrow,Kp.refl _ _, .inl rfl⟩
 ·have hfit:∀old,Builtin.nextslicecap (nn+mm) old*i.bytes<=281474976710656\/¬old<nn+mm:=λold=>by
   by_cases h:old<nn+mm
   ·exact .inl (growslice_fits (by omega) hb)
   ·exact .inr h
  have grown:∀(olds:aa Value) (old:Nat),olds.length=nn*i.size->old<nn+mm->us=olds->
    gI (w.drew.alloc (.cells (olds.toArray++Builtin.zeroCells zz.cells mm++Builtin.zeroCells zz.cells (grownCap w (nn+mm) old e-(nn+mm))) e)) (.slice (V ⟨w.heap.size,0,S⟩) (nn+mm) (grownCap w (nn+mm) old e)) e i.size (nn+mm) (us++(Builtin.zeroCells zz.cells mm).toList):=by
   intro olds old hol hlt hus;subst hus;have hge:=grownCap_ge w (nn+mm) old e;have hcm:=grownCap_le_maxLen w (nn+mm) old e h63;obtain⟨ck,hck⟩:∃ck,grownCap w (nn+mm) old e=ck+1:=⟨grownCap w (nn+mm) old e-1,by omega⟩;refine⟨by rw[zl,hol,hzl,yb], .inr ⟨w.heap.size,ck,_,by rw[hck],heap_alloc_new w.drew _,by omega,by omega,?_,?_⟩⟩
   ·rw[<-hck];simp only[Array.size_append,xx,size_zeroCells,hzs,hol,<-yb]
    congr 1
    omega
   ·simp only[Array.toList_append];rw[show (nn+mm)*i.size=(us++(Builtin.zeroCells zz.cells mm).toList).length from by rw[zl,hol,hzl,yb]];exact List.take_left
  have grow:∀(base:af Addr) (old:Nat),(Builtin.firstCells i.size nn (.slice base nn old)).run P w.drew= .ok us.toArray w.drew->us.length=nn*i.size->old<nn+mm->
    ∃v' w',(Builtin.append_ #[T,tn] ty #[.slice base nn old, .int .i64 mm]).run P w= .ok v' w'/\gI w' v' e i.size (nn+mm) (us++(Builtin.zeroCells zz.cells mm).toList)/\Kp [] w w'/\gG v'=V w.heap.size:=λbase old hf hul hlt=>by
   have hr:=Lib.run_append_grow_zeros (P:=P) w T tn ty e i zz .i64 kn ht htn hi hz base nn old us hf mm (by omega) hpos hlt h63' (by omega) ((hfit old).resolve_right (by omega));refine⟨_,_,hr,grown us old hul hlt rfl,⟨rfl,rfl,rfl,yf _,by simp,λk hk _=>heap_alloc_old w.drew _ hk⟩,?_⟩;have hge:=grownCap_ge w (nn+mm) old e;obtain⟨ck,hck⟩:∃ck,grownCap w (nn+mm) old e=ck+1:=⟨grownCap w (nn+mm) old e-1,by omega⟩;rw[hck];rfl
  rcases hrow.2 with ⟨q,rfl,rfl⟩|⟨g,cap,cur,rfl,hg,hnc,hcm,hcs,htake⟩
  ·have hu:us=[]:=xy (by simpa using hrow.1);subst hu;obtain⟨v',w',r1,r2,r3,r4⟩:=grow q 0 (by cases q<;>simp[Builtin.firstCells,loadCells,loadCellsFrom]) (by simp) (by omega);exact⟨v',w',r1,r2,⟨r3.os,r3.tape,r3.output,r3.drawn,r3.size,λk hk _=>r3.block k hk (by simp)⟩, .inr r4⟩
  ·by_cases hroom:nn+mm<=cap+1
   ·have hcl:nn*i.size+(Builtin.zeroCells zz.cells mm).toList.length<=cur.size:=by rw[hzl,hcs,<-yb];exact yK _ hroom
    have hst:=run_storeCells_at P g (nn*i.size) e (Builtin.zeroCells zz.cells mm).toList 0 cur w hg (by simpa using hcl) h1;simp only[yq]at hst;have hns:¬(mm*i.size=0):=Nat.mul_ne_zero hm (by omega);have hr:(Builtin.append_ #[T,tn] ty #[.slice (V ⟨g,0,S⟩) nn (cap+1), .int .i64 mm]).run P w= .ok (.slice (V ⟨g,0,S⟩) (nn+mm) (cap+1)) (w.setRow g (cur.toList.take (nn*i.size)++(Builtin.zeroCells zz.cells mm).toList++cur.toList.drop (nn*i.size+(Builtin.zeroCells zz.cells mm).toList.length)).toArray):=by
     simp[Builtin.append_,run_underlying ht,run_underlying htn,sizeOf,typeInfo,zeroValue,hi,hz,asInt,asIntOf,hw,hneg,hns,h48i,hroom,Addr.add_lit,hst]
    refine⟨_,_,hr,⟨by rw[zl,hrow.1,hzl,yb], .inr ⟨g,cap,_,rfl,setRow_heap w g cur _ e _ hg,hroom,hcm,?_,?_⟩⟩,mN w g _, .inl rfl⟩
    ·simp only[xx,zl,zH,yj,yg]at hcl ⊢;omega
    ·rw[htake,show (nn+mm)*i.size=(us++(Builtin.zeroCells zz.cells mm).toList).length from by rw[zl,hrow.1,hzl,yb]];exact List.take_left
   ·have holds:∀j v,us[j]? =V v->w.cell? ((⟨g,0,S⟩:Addr).add j)=V v:=λj v hj=>by
     rw[pI,yl];exact hrow.cells rfl j v hj
    obtain⟨v',w',r1,r2,r3,r4⟩:=grow (V ⟨g,0,S⟩) (cap+1) (run_firstCells_some (P:=P) w.drew i.size nn ⟨g,0,S⟩ nn (cap+1) us hrow.1 (by simpa using holds)) hrow.1 (by omega);exact⟨v',w',r1,r2,⟨r3.os,r3.tape,r3.output,r3.drawn,r3.size,λk hk _=>r3.block k hk (by simp)⟩, .inr r4⟩
def CY{A:Nat->Prop}{w:World}{q:Nat}{d:U.dw q}{zs:aa Value}(hd:∀A w,bL A w (U.cells q d) zs):∀n,bL A w ((zk n d).flatMap (U.cells q)) (zk n zs).flatten
 |0=>bL.nil
 |n+1=>by
  rw[yO,yO,xH,wF];exact(hd A w).app (CY hd n)
section
variable {P:Program} {C:Cx} {E:Env} {σ:aa cE} {o:Oper} {x y:Operand} {T tn e:TypeId} {v:Value}
def Yv.aCD{by':Nat}{kn:IntKind}{l:aa (U.dw e)}{zs:aa Value}{m:Int}(i:Nat)(d:U.dw e)(ho:o.op= .call {callee:= .builtin .append,args:=#[x,y],argTypes:=#[T,tn]})(hx:E.ev x=V (.lit v))(hσ:σ[i]? =V (.row v e l))(hy:E.ev y=V (.i m))(hT:P.underlying T=V (.slice e))(htn:P.underlying tn=V (.int kn))(hs:(P.info? e).map (λi=>(i.size,i.bytes))=V ((U.sz e),by'))(hz:jR P e=V zs)(hzl:zs.length=(U.sz e))(hpos:0<(U.sz e))(hb:yh by' 4096=O)
  (hd:∀A w,bL A w (U.cells e d) zs) (hone:zs.all Value.oneCell'=O) (hlen:0<=m/\(l++zk m.toNat d).length<=1073741824):Yv P E σ o C (xN (gG v)) (λa σ'=>∃v',a= .lit v'/\σ'=σ.set i (.row v' e (l++zk m.toNat d))):=λw ρ hg hρ=>by
 obtain⟨it,hit,hz1⟩:=zn.1 hz;obtain⟨zv,hz2,hz3⟩:=zj.1 hz1;obtain⟨ie,hie,hse⟩:=zj.1 hs;have hee:it=ie:=by rw[hit]at hie;exact zA.inj hie
 subst hee;simp only[Prod.mk.injEq]at hse;obtain⟨s1,s2⟩:=hse;have hby:by'<=4096:=by simpa using hb
 obtain⟨us,g1,g2,g3⟩:=DS (hg.res _ (List.mem_of_getElem? hσ));have hx':=(hρ _ _ hx).cK;have hy':=(hρ _ _ hy).cK;obtain⟨mm,rfl⟩:∃mm:Nat,m=mm:=⟨m.toNat,by omega⟩;rw[ze]at hlen ⊢;obtain⟨_,hlen⟩:=hlen;rw[zl,xO]at hlen;have hbytes:(l.length+mm)*by'<=140737488355328:=by
  have:(l.length+mm)*by'<=1073741824*4096:=Nat.mul_le_mul hlen hby
  omega
 have hzc:zv.cells=zs.toArray:=by rw[<-hz3]
 have hzt:(Builtin.zeroCells zv.cells mm).toList=(zk mm zs).flatten:=by rw[hzc];exact Fw hzl mm
 obtain⟨v',w',r1,r2,r3,r4⟩:=BA (P:=P) (T:=T) (tn:=tn) (ty:=o.type) hT htn hit hz2 s1 s2 (by rw[hzc,xx,hzl]) hpos g1 (mm:=mm) (by
  rw[hzt];intro u hu;obtain⟨q,hq,hu⟩:=List.mem_flatten.1 hu;rw[List.eq_of_mem_replicate hq]at hu;exact zw.1 hone u hu) (by unfold maxLen;omega) hbytes
 rw[hzt]at r2;refine⟨v',w',_,_,⟨v',rfl,rfl⟩,Eg (r:= .row v e l) hg hσ r3 r4 (FA (by rw[zl,xO];exact r2) (Ni g2 (λj hj=> ?_)) ?_),?_, .lit _⟩
 ·rw[xO]at hj;rw[getElem!_pos _ j (by simpa using hj),List.getElem_replicate,<-(hd (λ_=>True) w).1,hzl]
 ·rw[wG];refine bL.app (g3.mono λb hb hA=>⟨⟨hA.1,λhx=> ?_⟩,r3.block b hb (λhx=>hA.2 (bU.2 ⟨_,List.mem_of_getElem? hσ,by simpa [cE.blk]using hx⟩))⟩) (CY hd mm);obtain⟨s,hs1,hs2⟩:=bU.1 hx;rcases List.mem_or_eq_of_mem_set hs1 with h|h
  ·exact hA.2 (bU.2 ⟨s,h,hs2⟩)
  ·rw[h]at hs2;rcases r4 with r4|r4
   ·exact hA.2 (bU.2 ⟨_,List.mem_of_getElem? hσ,by rw[<-hs2];exact r4.symm⟩)
   ·have hs2':gG v'=V b:=hs2;rw[r4]at hs2';cases hs2';omega
 ·simp[execOp,ho,resolve,invoke,builtin,hx',hy',r1]
end
end Go.Iv
end
noncomputable section
namespace Go.Iv
open Go Go.RowKit
variable [U:ru] {P:Program} {C:Cx} {E:Env} {σ:aa cE} {o:Oper} {T T':TypeId} {x y:Operand} {v:Value}
def Yv.ayU{q:Nat}{l l2:aa (U.dw q)}(i:Nat)(ho:o.op= .call {callee:= .builtin .copy,args:=#[x,y],argTypes:=#[T,T']})(hx:E.ev x=V (.lit v))(hσ:σ[i]? =V (.row v q l))(hs:Src σ E y q l2)
  (hT:P.underlying T=V (.slice q)) (hz:(P.info? q).map (·.size)=V 1) (hsz:U.sz q=1) (hlen:l2.length=l.length) (h0:0<l.length) (hone:∀a,(U.cells q a).all iu=O):
  Yv P E σ o C (xN (gG v)) (λa σ'=>a= .i (l.length:Int)/\σ'=σ.set i (.row v q l2)):=λw ρ hg hρ=>by
 obtain⟨j,hj,hj'⟩:=zj.1 hz;obtain⟨us,h1,h2,h3⟩:=hg.res _ (List.mem_of_getElem? hσ);obtain⟨g,cap,cur,hv,hgb,hB,q1,q2,q3,q4⟩:=h1.at h0;obtain⟨p,cap2,news,r1,r2,r3,r4,r5,r6⟩:=Src.spec hs hg.hd hρ;have hx':=(hρ _ _ hx).cK;rcases r2 with r2|⟨a,rfl,r2⟩
 ·omega
 rw[hsz,xz]at r3 q3;have hone':(l2.flatMap (U.cells q)).all iu=O:=zw.2 λc hc=>by
  obtain⟨z,_,hz⟩:=xP.1 hc;exact zw.1 (hone z) c hz
 have hl:=run_loadCells_list (P:=P) w a news r2;have hst:=run_storeCells_at P g 0 q news 0 cur w hB (by rw[r3,q3];omega) (r5.one hone');simp only[yq,yl,xR,yw]at hst;have hpart:∀b,al C (σ.set i (.row v q l2)) b↔al C σ b:=λb=>by
  have hbk:=DA (r':=cE.row v q l2) hσ rfl;unfold al;rw[hbk]
 have hal:∀b,b<w.heap.size->al C σ b->al C (σ.set i (.row v q l2)) b/\(w.setRow g (news++cur.toList.drop news.length).toArray).heap[b]? =w.heap[b]? :=λb hb hA=>
  ⟨(hpart b).2 hA,setRow_other w g b _ (λe=>hA.2 (bU.2 ⟨_,List.mem_of_getElem? hσ,by rw[e];exact hgb⟩))⟩
 refine⟨.int .i64 l.length,w.setRow g (news++cur.toList.drop news.length).toArray,_,_,⟨rfl,rfl⟩,Eg (r:= .row v q l) hg hσ (by show Kp (xN (gG v)) _ _;rw[hgb];exact mN w g _) (.inl rfl) (FA (us:=news) ⟨by rw[hsz,xz,r3], .inr ⟨g,cap,_,by rw[hlen];exact hv,setRow_heap w g cur _ q (0,0) hB,by rw[hlen];exact q1,q2,?_,?_⟩⟩ r4 (r5.mono hal)),?_, .lit _⟩
 ·have hc:cur.toList.length=cap+1:=by rw[yg];exact q3
  simp only[xx,zl,yj,hc,hsz,xz,r3,hlen];omega
 ·rw[hsz,xz,<-r3];simp
 ·have hmin:min l2.length l.length=news.length:=by rw[r3];omega
  have hmin':Nat.min l2.length l.length=news.length:=hmin;have hnl:news.length=l.length:=by rw[r3,hlen]
  rw[<-hnl];simp[execOp,ho,resolve,invoke,builtin,hx',hv,r1,Builtin.copy_,run_underlying hT,Builtin.lenOf,Builtin.firstCells,sizeOf,typeInfo,hj,hj',hmin',hl,hst,goInt]
end Go.Iv
end
noncomputable section
namespace Go.Iv
variable [U:ru] [L:l7]
open Go Go.RowKit
inductive ga:Type
 |val (d:AV)
 |new (d:AV) (r:IR)
 |set (id:Nat) (r:IR)
 |grow (id:Nat) (r:IR)
 |all (d:AV) (R:aZ) (nx:Nat)
def ga.R(R:aZ)(nx:Nat):ga->aZ
 | .val _=>R
 | .new _ r=>(nx,r)::R
 | .set id r=>tq id r R
 | .grow id r=>(nx,r)::kE id R
 | .all _ R' _=>R'
def ga.nx(nx:Nat):ga->Nat
 | .val _=>nx
 | .new _ _=>nx+1
 | .set _ _=>nx
 | .grow _ _=>nx+1
 | .all _ _ m=>m
def ga.vl(nx:Nat):ga->af AV
 | .val d=>V d
 | .new d _=>V d
 | .set _ _=>S
 | .grow _ _=>V (.own nx)
 | .all d _ _=>V d
section
variable {P:Program} {C:Cx} {E:Env} {σ σ':aa cE} {o:Oper} {N:af AV->aa cE->Prop} {X:aa Nat} {N0:AV->aa cE->Prop} {av:AV}
def Ye(P:Program)(E:Env)(σ:aa cE)(o:Oper)(C:Cx)(N:af AV->aa cE->Prop):Prop:=∀(w:World) (ϱ:Operand->Value),Good C σ w->NT (al C σ) w E ϱ->
 (∃v w' av σ',N (V av) σ'/\Tr C (bF σ) σ w σ' w'/\(execOp ϱ o).run P w= .ok (.value v) w'/\Rel (al C σ') w' av v)\/
 (∃w' σ',N S σ'/\Tr C (bF σ) σ w σ' w'/\(execOp ϱ o).run P w= .ok .skip w')\/
 (∃f args,(execOp ϱ o).run P w= .ok (.enter f args) w/\Calls P f args w λe w'=>∃v av σ',e= .returned v/\N (V av) σ'/\Tr C (bF σ) σ w σ' w'/\Rel (al C σ') w' av v)
def Tr.wide{w w':World}(h:Tr C X σ w σ' w')(hX:∀b∈X,b∈bF σ):Tr C (bF σ) σ w σ' w':=
 ⟨h.good,⟨h.kp.os,h.kp.tape,h.kp.output,h.kp.drawn,h.kp.size,λk hk hn=>h.kp.block k hk λhx=>hn (hX k hx)⟩,λb hb hA=>⟨(h.al b hb hA).1,hA.2⟩⟩
def Tr.none{w:World}(h:Good C σ w):Tr C (bF σ) σ w σ w:=⟨h,Kp.refl _ _,λ_ _ hA=>⟨hA,hA.2⟩⟩
def Ye.ofP(h:Yp P E σ o av)(hN:N (V av) σ):Ye P E σ o C N:=λw ϱ hg hρ=>by
 obtain⟨v,h1,h2⟩:=h _ w ϱ hg.hd hρ;exact .inl ⟨v,w,av,σ,hN, .none hg,h2 w (λ_ _ _=>rfl),h1⟩
def Ye.ofV(h:Yv P E σ o C X N0)(hX:∀b∈X,b∈bF σ)(hN:∀a σ',N0 a σ'->N (V a) σ'):Ye P E σ o C N:=λw ϱ hg hρ=>by
 obtain⟨v,w',av,σ',h1,h2,h3,h4⟩:=h w ϱ hg hρ;exact .inl ⟨v,w',av,σ',hN _ _ h1,h2.wide hX,h3,h4⟩
def Ye.ofU(h:Yu P E σ o C X σ')(hX:∀b∈X,b∈bF σ)(hN:N S σ'):Ye P E σ o C N:=λw ϱ hg hρ=>by
 obtain⟨w',h2,h3⟩:=h w ϱ hg hρ;exact .inr (.inl ⟨w',σ',hN,h2.wide hX,h3⟩)
def Ye.ofC(h:Yc P E σ o C X N0)(hX:∀b∈X,b∈bF σ)(hN:∀a σ',N0 a σ'->N (V a) σ'):Ye P E σ o C N:=λw ϱ hg hρ=>by
 obtain⟨f,args,h1,h2⟩:=h w ϱ hg hρ;exact .inr (.inr ⟨f,args,h1,h2.mono λe w' ⟨v,av,σ',q1,q2,q3,q4⟩=>⟨v,av,σ',q1,hN _ _ q2,q3.wide hX,q4⟩⟩)
end
def Nx{α:Type}(R:aZ)(nx:Nat)(K:ga->af α)(r:α)(ρ:Gh):af AV->aa cE->Prop:=λa σ'=>∃eff:ga,K eff=V r/\nx<=eff.nx nx/\aZ.cQ (eff.nx nx) (eff.R R nx)/\(∀d,eff.vl nx=V d->cQ (eff.nx nx) d)/\
 ∃ρ',oP nx ρ ρ'/\a=(eff.vl nx).map (bZ.sub ρ')/\List.Perm σ' (aZ.res ρ' (eff.R R nx))
def Vn{α:Type}(P:Program)(o:Oper)(E:Env)(R:aZ)(nx:Nat)(K:ga->af α)(r:α):Prop:=∀ρ C,Ye P (E.sub ρ) (aZ.res ρ R) o C (Nx R nx K r ρ)
def Gh.gh(ρ:Gh)(n:Nat)(v:Value):Gh:=⟨λi=>if i=n then v else ρ.v i,ρ.b⟩
def Gh.fS(ρ:Gh)(n b:Nat):Gh:=⟨ρ.v,λi=>if i=n then b else ρ.b i⟩
def oP.gh(ρ:Gh)(n:Nat)(v:Value):oP n ρ (ρ.gh n v):=λi hi=>⟨by simp[Gh.gh,Nat.ne_of_lt hi],rfl⟩
def oP.fS(ρ:Gh)(n b:Nat):oP n ρ (ρ.fS n b):=λi hi=>⟨rfl,by simp[Gh.fS,Nat.ne_of_lt hi]⟩
section
variable {α:Type} {r:α} {P:Program} {o:Oper} {E:Env} {R:aZ} {nx:Nat} {ev:Operand->af AV} {rd:Nat->af IR} {x y z:Operand} {d:AV} {K:ga->af α}
def Vn.pu(hs:j4 ev rd nx E R)(h:∃d,K (.val d)=V r/\Pu P o E R nx d):Vn P o E R nx K r:=λρ C=>by
 obtain⟨d,h1,h2,h3⟩:=h;exact .ofP (h3 ρ) ⟨.val d,h1,zo _,hs.lr,λd' hd=>by cases hd;exact h2,ρ, .refl _ _,rfl, .refl _⟩
def XE(hs:j4 ev rd nx E R){d:AV}{rr:IR}{ρ ρ':Gh}{σ':aa cE}{a:AV}(hK:K (.new d rr)=V r)(hd:cQ (nx+1) d)(hr:rr.cQ (nx+1))(hρ:oP nx ρ ρ')(ha:a=d.sub ρ')(hσ:σ'=rr.res ρ' nx::aZ.res ρ R):Nx R nx K r ρ (V a) σ':=by
 refine⟨.new d rr,hK,yf nx,λp hp=> ?_,λd' h=>by cases h;exact hd,ρ',hρ,by rw[ha];rfl,?_⟩
 ·rcases zB.1 hp with rfl|hp
  ·exact⟨zJ _,hr⟩
  ·exact(hs.lr.mono (yf nx)) p hp
 ·rw[hσ,hs.lr.res hρ];exact .refl _
def VU(P:Program)(nx:Nat)(T:TypeId)(K:ga->af α):af α:=((P.info? T).bind λi=>i.zero).bind λz=>K (.new (.ptr nx 0) (.box T (z.cells.toList.map .lit)))
def agx{T:TypeId}(hs:j4 ev rd nx E R)(ho:o.op= .alloc T)(h:VU P nx T K=V r):Vn P o E R nx K r:=λρ C=>by
 obtain⟨z,h1,h⟩:=zn.1 h;obtain⟨i,h2,h3⟩:=zn.1 h1;refine .ofV (.alloc (zs:=z.cells.toList) ho (by rw[h2];simp[h3])) (by simp) λa σ' ⟨b,ha,hσ⟩=> ?_;refine XE hs (ρ':=ρ.fS nx b) h (.ptr _ _ (zJ _)) (λc hc=>MM _ _ c hc) (.fS ρ nx b) ?_ ?_
 ·rw[ha,fB];simp[Gh.fS]
 ·rw[hσ];simp only[IR.res,Ea];simp[Gh.fS]
def Pz(rd:Nat->af IR)(nx:Nat)(T:TypeId)(x:af AV)(K:ga->af α):af α:=match x with
 |some d=>match DX rd d with
  |true=>K (.new (.ptr nx 0) (.box T (dQ d)))
  |false=>S
 |none=>S
def ae5{T:TypeId}(hs:j4 ev rd nx E R)(ho:o.op= .box T x)(h:Pz rd nx T (ev x) K=V r):Vn P o E R nx K r:=λρ C=>by
 unfold Pz at h;split at h
 case h_2=>cases h
 rename_i d hx;split at h
 case h_2=>cases h
 rename_i hp;refine .ofV (.box ho (hs.fL hx ρ) (Hh hs hp)) (by simp) λa σ' ⟨b,ha,hσ⟩=> ?_;have hl:=AO (hs.qZ hx);refine XE hs (ρ':=ρ.fS nx b) h (.ptr _ _ (zJ _)) (λc hc=>(hl c hc).mono (yf nx)) (.fS ρ nx b) ?_ ?_
 ·rw[ha,fB];simp[Gh.fS]
 ·rw[hσ,kU,cQ.XV hl (.fS ρ nx b)];simp[IR.res,Gh.fS]
def U0:AV->Bool
 | .lit v=>v.oneCell'
 | .sl _ _=>O
 |_=>G
def Xv:AV->Bool
 | .agg cs=>cs.all U0
 |d=>U0 d
def NQ{d:AV}(h:U0 d=O)(ρ:Gh):d.sub ρ=d:=by
 cases d<;>first|(cases h;done)|simp only[bZ.sub]
def Lj{cs:aa AV}(h:cs.all U0=O)(ρ:Gh):cs.map (bZ.sub ρ)=cs:=by
 have:cs.map (bZ.sub ρ)=cs.map id:=zX λc hc=>NQ (zw.1 h c hc) ρ;rw[this,List.map_id]
def MU{d:AV}(h:Xv d=O)(ρ:Gh):d.sub ρ=d:=by
 by_cases ha:∃cs,d= .agg cs
 ·obtain⟨cs,rfl⟩:=ha;rw[fe,Lj h]
 ·exact NQ (by cases d<;>first|exact h|(exact dF ⟨_,rfl⟩ ha)) ρ
def NI{d:AV}(h:U0 d=O):iu d=O:=by
 cases d<;>first|(cases h;done)|exact h|rfl
def DQ{d:AV}(h:Xv d=O):Fm d=O:=by
 by_cases ha:∃cs,d= .agg cs
 ·obtain⟨cs,rfl⟩:=ha;exact zw.2 λc hc=>NI (zw.1 h c hc)
 ·have:=NI (d:=d) (by cases d<;>first|exact h|(exact dF ⟨_,rfl⟩ ha));cases d<;>first|exact this|(exact dF ⟨_,rfl⟩ ha)
def PE(d:AV):af Bool:=match dQ d with
 |[.lit (.bool b)]=>V b
 |_=>S
def UN{d:AV}{b:Bool}(h:PE d=V b):dQ d=[.lit (.bool b)]:=by
 unfold PE at h;split at h
 ·rename_i b' e;cases h;exact e
 ·cases h
def NU(P:Program)(rd:Nat->af IR)(T:TypeId)(x y:af AV)(K:ga->af α):af α:=match y with
  |some d=>match (P.info? T).map (·.size)with
    |some n=>match zf (dQ d).length n&&DX rd d with
      |true=>match x with
        |some (.ptr id off)=>match rd id with
          |some (.box T' cs)=>match yh (off+n) cs.length with
            |true=>K (.set id (.box T' (cs.take off++dQ d++cs.drop (off+n))))
            |false=>S
          |_=>S
        |some (.ra id t m off)=>match rd id with
          |some (.row t' l)=>match bif L.arr t'&&Xv d then PE d else S with
           |some b=>if t=t'/\m<l.length/\off<U.sz t' then K (.set id (.row t' (l.set m (L.stB t' l[m]! off b))))else S
           |none=>match yh (off+n) (U.sz t')&&Xv d with
            |true=>if t=t'/\m<l.length then(L.parse t' ((U.cells t' l[m]!).take off++dQ d++(U.cells t' l[m]!).drop (off+n))).bind λq=>K (.set id (.row t' (l.set m q)))else S
            |false=>S
          |_=>S
        |_=>S
      |false=>S
    |none=>S
  |none=>S
def aeL{T:TypeId}(hs:j4 ev rd nx E R)(ho:o.op= .store T x y)(h:NU P rd T (ev x) (ev y) K=V r):Vn P o E R nx K r:=λρ C=>by
 unfold NU at h;split at h
 case h_2=>cases h
 rename_i d hy;split at h
 case h_2=>cases h
 rename_i n hn;split at h
 case h_2=>cases h
 rename_i hdn;simp only[zi]at hdn;obtain⟨hlen,hp⟩:=hdn;have hlen:=gy hlen;split at h
 ·rename_i id off hx;split at h
  case h_2=>cases h
  rename_i T' cs hr;split at h
  case h_2=>cases h
  rename_i hle;have hle:=wj hle;have ex:=hs.fL hx ρ;rw[fB]at ex;obtain⟨i,hi1,hi2,_⟩:=eC (hs.r _ _ hr);have hres:=ic (ρ:=ρ) hi1;have hl:∀c∈cs.take off++dQ d++cs.drop (off+n),cQ nx c:=tQ (tQ (oS (hs.ag9 hr) _) (AO (hs.qZ hy))) (mU (hs.ag9 hr) _);refine .ofU (.ao8 (cs:=cs.map (bZ.sub ρ)) i ho ex (hs.fL hy ρ) hres hn (Hh hs hp) (by rw[kU,zx,hlen]) (by rw[zx];exact hle)) (λb hb=> ?_) ⟨_,h,zo _,oT (hs.r _ _ hr) hs.lr hl,λd' hd=>(by cases hd),ρ, .refl _ _,rfl,?_⟩
  ·rw[zy]at hb;exact bU.2 ⟨_,List.mem_of_getElem? hres,by rw[hb];rfl⟩
  ·show List.Perm _ (aZ.res ρ (tq id _ R));rw[hi2,vf];simp only[IR.res,z8,xQ,xJ,kU];exact .refl _
 ·rename_i id t m off hx;split at h
  case h_2=>cases h
  rename_i t' l hr;split at h
  ·rename_i b hbb;cases har:L.arr t'&&Xv d with
   |false=>rw[har]at hbb;cases hbb
   |true=>
    rw[har]at hbb;simp only[zi]at har;obtain⟨har,hap⟩:=har;have hab:=UN hbb;rw[hab]at hlen;have hn1:n=1:=by simpa using hlen.symm
    split at h
    case isFalse=>cases h
    rename_i hm;obtain⟨rfl,hm,hoff⟩:=hm;have ex:=hs.fL hx ρ;rw[jA]at ex;obtain⟨i,hi1,hi2,_⟩:=eC (hs.r _ _ hr);have hres:=ic (ρ:=ρ) hi1;have hds:=MU hap ρ;have hpl:Fm (d.sub ρ)=O:=by rw[hds];exact DQ hap
    refine .ofU (.WK (of:=off) i (L.stB t l[m]! off b) ho ex (hs.fL hy ρ) hres hn hpl (by rw[hds,hab,hn1];rfl) rfl hm (by omega) (L.len _ _) (λA w us hr=> ?_)) (λb hb=> ?_) ⟨_,h,zo _,oT (hs.r _ _ hr) hs.lr trivial,λd' hd=>(by cases hd),ρ, .refl _ _,rfl,?_⟩
    ·rw[hds,hab,hn1]at hr;rw[L.ajo t har _ off b hoff];exact hr
    ·obtain⟨g,hg⟩:∃g,gG (ρ.v id)=V g:=by
      cases hb':gG (ρ.v id)with
      |none=>rw[hb']at hb;simp at hb
      |some g=>exact⟨g,rfl⟩
     rw[hg]at hb;simp only[xL,zy]at hb;exact bU.2 ⟨_,List.mem_of_getElem? hres,by rw[hb];exact hg⟩
    ·show List.Perm _ (aZ.res ρ (tq id _ R));rw[hi2,vf];exact .refl _
  split at h
  case h_2=>cases h
  rename_i hle;simp only[zi]at hle;obtain⟨hle,hap⟩:=hle;have hle:=wj hle;split at h
  case isFalse=>cases h
  rename_i hm;obtain⟨rfl,hm⟩:=hm;obtain⟨q,hq,h⟩:=zn.1 h;have ex:=hs.fL hx ρ;rw[jA]at ex;obtain⟨i,hi1,hi2,_⟩:=eC (hs.r _ _ hr);have hres:=ic (ρ:=ρ) hi1;have hds:=MU hap ρ;have hpl:Fm (d.sub ρ)=O:=by rw[hds];exact DQ hap
  refine .ofU (.WK (of:=off) i q ho ex (hs.fL hy ρ) hres hn hpl (by rw[kU,zx,hlen]) rfl hm hle (L.len _ _) (λA w us hr=> ?_)) (λb hb=> ?_) ⟨_,h,zo _,oT (hs.r _ _ hr) hs.lr trivial,λd' hd=>(by cases hd),ρ, .refl _ _,rfl,?_⟩
  ·refine L.lM _ _ _ hq A w us ?_;rw[hds]at hr;exact hr
  ·obtain⟨g,hg⟩:∃g,gG (ρ.v id)=V g:=by
    cases hb':gG (ρ.v id)with
    |none=>rw[hb']at hb;simp at hb
    |some g=>exact⟨g,rfl⟩
   rw[hg]at hb;simp only[xL,zy]at hb;exact bU.2 ⟨_,List.mem_of_getElem? hres,by rw[hb];exact hg⟩
  ·show List.Perm _ (aZ.res ρ (tq id _ R));rw[hi2,vf];exact .refl _
 ·cases h
def prs(t:Nat):Nat->aa AV->af (aa (U.dw t))
 |0,[]=>V []
 |0,_=>S
 |n+1,cs=>(L.parse t (cs.take (U.sz t))).bind λx=>(prs t n (cs.drop (U.sz t))).map λl=>x::l
def YK{t:Nat}:∀{n:Nat} {cs:aa AV} {l:aa (U.dw t)},prs t n cs=V l->cs.length=n*U.sz t->l.length=n/\∀A w us,bL A w cs us->bL A w (l.flatMap (U.cells t)) us
 |0,[],l,h,_=>by
  cases h;exact⟨rfl,λA w us h=>h⟩
 |0,_::_,l,h,_=>by cases h
 |n+1,cs,l,h,hl=>by
  unfold prs at h;obtain⟨x,h1,h⟩:=zn.1 h;obtain⟨l',h2,rfl⟩:=zj.1 h;rw[yN]at hl;obtain⟨h3,h4⟩:=YK h2 (by rw[yj];omega);refine⟨by simp[h3],λA w us hr=> ?_⟩;rw[xH,<-xw (U.sz t) us];exact(L.lM _ _ _ h1 A w _ (hr.take _)).app (h4 A w _ (hr.drop _))
def Qs(P:Program)(ev:Operand->af AV)(rd:Nat->af IR)(nx:Nat)(T:TypeId)(n:Nat)(ps:aa (Nat×Operand))(K:ga->af α):af α:=match P.underlying T with
 |some (.slice e)=>match Lq P e (U.sz e)with
  |true=>match n with
   |0=>match ps with
    |[]=>K (.new (.own nx) (.row e []))
    |_=>S
   |n+1=>match evp ev ps,jR P e with
    |some as0,V zs=>match zf zs.length (U.sz e)&&zG 0 (U.sz e)&&yh ((n+1)*U.sz e) 16777216 with
     |true=>(uk rd (λi=>V (i*U.sz e,U.sz e)) ((zk (n+1) zs).flatten.map .lit) as0).bind λcs=>match cs.all U0&&zf cs.length ((n+1)*U.sz e)with
      |true=>(prs e (n+1) cs).bind λl=>K (.new (.own nx) (.row e l))
      |false=>S
     |false=>S
    |_,_=>S
  |false=>S
 |_=>S
def Gs(hs:j4 ev rd nx E R){t:Nat}{l:aa (U.dw t)}{ρ:Gh}{σ':aa cE}{a:AV}(hK:K (.new (.own nx) (.row t l))=V r)(h:∃v,a= .lit v/\σ'= .row v t l::aZ.res ρ R):Nx R nx K r ρ (V a) σ':=by
 obtain⟨v,ha,hσ⟩:=h;refine XE hs (ρ':=ρ.gh nx v) hK (.own _ (zJ _)) trivial (.gh ρ nx v) ?_ ?_
 ·rw[ha,dL];simp[Gh.gh]
 ·rw[hσ];simp[IR.res,Gh.gh]
def ail{T:TypeId}{n:Nat}{ps:Array (Nat×Operand)}(hs:j4 ev rd nx E R)(ho:o.op= .buildSlice T n ps)(h:Qs P ev rd nx T n ps.toList K=V r):Vn P o E R nx K r:=λρ C=>by
 unfold Qs at h;split at h
 case h_2=>cases h
 rename_i e hT;split at h
 case h_2=>cases h
 rename_i hsz;have hsz:=rq hsz;split at h
 ·split at h
  case h_2=>cases h
  rename_i h0;have h0:ps=#[]:=by rw[<-Array.toList_eq_nil_iff];exact h0
  subst h0;exact .ofV (.aC2 ho hT hsz) (by simp) λa σ' hN=>Gs hs h hN
 ·rename_i n;split at h
  case h_2=>cases h
  rename_i as0 zs he hz;split at h
  case h_2=>cases h
  rename_i hc;simp only[zi]at hc;obtain⟨⟨hc1,hc2⟩,hc3⟩:=hc;have hc1:=gy hc1;have hc2:0<U.sz e:=by simpa [yA]using hc2
  have hc3:=wj hc3;obtain⟨cs,hf,h⟩:=zn.1 h;split at h
  case h_2=>cases h
  rename_i hd;simp only[zi]at hd;obtain⟨hd1,hd2⟩:=hd;have hd2:=gy hd2;obtain⟨l,hl,h⟩:=zn.1 h;obtain⟨hl1,hl2⟩:=YK hl hd2;refine .ofV (.lit l ho hT hsz hz hc1 (λA w ϱ hd hρ=> ?_) hl1 (λi hi=>L.len _ _) (Nat.mul_pos (Nat.succ_pos _) hc2) hc3) (by simp) λa σ' hN=>Gs hs h hN;obtain⟨us,h1,h2⟩:=AA (init:=(zk (n+1) zs).flatten.toArray) hs hd (by rw[Ea];exact bL.lits _) (HR hs hρ he) hf;rw[Lj hd1]at h2;exact⟨us,h1,hl2 _ _ _ h2⟩
def mkE(P:Program)(nx:Nat)(T:TypeId)(x y:af AV)(K:ga->af α):af α:=match P.underlying T,x,y with
 |some (.slice e),V (.lit (.int .i64 m)),V (.lit (.int .i64 n))=>match (P.info? e).map (λi=>(i.size,i.bytes)),jR P e with
  |some (sz,by'),V zs=>match zf sz (U.sz e)&&yh by' 4096&&zf zs.length (U.sz e)&&zG 0 (U.sz e)with
   |true=>(L.parse e (zs.map .lit)).bind λd=>if 0<=m/\m<=n/\n<=1073741824 then K (.new (.own nx) (.row e (zk m.toNat d)))else S
   |false=>S
  |_,_=>S
 |_,_,_=>S
def aqn{T:TypeId}(hs:j4 ev rd nx E R)(ho:o.op= .makeSlice T x y)(h:mkE P nx T (ev x) (ev y) K=V r):Vn P o E R nx K r:=λρ C=>by
 unfold mkE at h;split at h
 case h_2=>cases h
 rename_i e m n hT hx hy;split at h
 case h_2=>cases h
 rename_i sz by' zs hb hz;split at h
 case h_2=>cases h
 rename_i hc;simp only[zi]at hc;obtain⟨⟨⟨hc1,hc2⟩,hc3⟩,hc4⟩:=hc;have hc1:=gy hc1;have hc3:=gy hc3;have hc4:0<U.sz e:=by simpa [yA]using hc4
 subst hc1;obtain⟨d,hd,h⟩:=zn.1 h;split at h
 case isFalse=>cases h
 rename_i hm;have ex:=hs.fL hx ρ;have ey:=hs.fL hy ρ;rw[bV]at ex ey;exact .ofV (.make d ho ex ey hT hb hz hc2 hc3 (λA w=>L.lM _ _ _ hd A w _ (bL.lits _)) hc4 hm) (by simp) λa σ' hN=>Gs hs h hN
def emE(P:Program)(nx:Nat)(T:TypeId)(x:af AV)(K:ga->af α):af α:=match P.underlying T with
 |some (.slice e)=>match P.info? e with
  |some _=>match x with
   |some (.sl _ _)=>K (.new (.own nx) (.row e []))
   |some (.lit (.slice S 0 0))=>K (.new (.own nx) (.row e []))
   |_=>S
  |none=>S
 |_=>S
def apO{T:TypeId}{k k':IntKind}(hs:j4 ev rd nx E R)(ho:o.op= .slice T x S (V (.const (.int k 0))) (V (.const (.int k' 0))))(h:emE P nx T (ev x) K=V r):Vn P o E R nx K r:=λρ C=>by
 unfold emE at h;split at h
 case h_2=>cases h
 rename_i e hT;split at h
 case h_2=>cases h
 rename_i i hi;split at h
 ·rename_i t l hx;have ex:=hs.fL hx ρ;rw[gC]at ex;exact .ofV (.TQ ho (.inl ex) hT (by rw[hi];rfl)) (by simp) λa σ' hN=>Gs hs h hN
 ·rename_i hx;have ex:=hs.fL hx ρ;rw[bV]at ex;exact .ofV (.TQ (q:=0) (l:=[]) ho (.inr ex) hT (by rw[hi];rfl)) (by simp) λa σ' hN=>Gs hs h hN
 ·cases h
def ab9(rd:Nat->af IR)(e:Nat)(x:af AV):af (aa (U.dw e)):=match x with
 |some (.lit (.slice _ 0 _))=>V []
 |some (.sl t l)=>tH t e l
 |some (.own id)=>match rd id with
  |some (.row t l)=>tH t e l
  |_=>S
 |_=>S
def Jx{e:Nat}{l:aa (U.dw e)}(hs:j4 ev rd nx E R)(h:ab9 rd e (ev x)=V l)(ρ:Gh):Src (aZ.res ρ R) (E.sub ρ) x e l:=by
 unfold ab9 at h;split at h
 ·rename_i hx;cases h;have ex:=hs.fL hx ρ;rw[bV]at ex;exact .inl ⟨_,_,ex,rfl⟩
 ·rename_i t l' hx;obtain⟨rfl,rfl⟩:=mQ h;have ex:=hs.fL hx ρ;rw[gC]at ex;exact .inr (.inl ex)
 ·rename_i id hx;split at h
  case h_2=>cases h
  rename_i t l' hr;obtain⟨rfl,rfl⟩:=mQ h;have ex:=hs.fL hx ρ;rw[dL]at ex;obtain⟨i,hi⟩:=hs.row hr ρ;exact .inr (.inr ⟨i,_,ex,hi⟩)
 ·cases h
def Src.cons{P:Program}{σ:aa cE}{E:Env}{rr:cE}{q:Nat}{l:aa (U.dw q)}(h:Src σ E x q l):Src (rr::σ) E x q l:=by
 rcases h with h|h|⟨i,v,h1,h2⟩
 ·exact .inl h
 ·exact .inr (.inl h)
 ·exact .inr (.inr ⟨i+1,v,h1,h2⟩)
def U7(P:Program)(T:TypeId)(K:Nat->aa Value->af α):af α:=match P.underlying T with
 |some (.slice e)=>match (P.info? e).map (λi=>(i.size,i.bytes)),jR P e with
  |some (sz,by'),V zs=>match zf sz (U.sz e)&&yh by' 4096&&zf zs.length (U.sz e)with
   |true=>K e zs
   |false=>S
  |_,_=>S
 |_=>S
def afo{T:TypeId}{K:Nat->aa Value->af α}(h:U7 P T K=V r):∃e zs by',K e zs=V r/\P.underlying T=V (.slice e)/\(P.info? e).map (λi=>(i.size,i.bytes))=V (U.sz e,by')/\jR P e=V zs/\yh by' 4096=O/\zs.length=U.sz e:=by
 unfold U7 at h;split at h
 case h_2=>cases h
 rename_i e hT;split at h
 case h_2=>cases h
 rename_i sz by' zs hb hz;split at h
 case h_2=>cases h
 rename_i hc;simp only[zi]at hc;obtain⟨⟨hc1,hc2⟩,hc3⟩:=hc;have hc1:=gy hc1;subst hc1;exact⟨e,zs,by',h,hT,hb,hz,hc2,gy hc3⟩
def QJ(P:Program)(rd:Nat->af IR)(e:Nat)(zs:aa Value)(T':TypeId)(T:TypeId)(y:af AV)(K:aa (U.dw e)->af α):af α:=match zf T T' with
 |true=>(ab9 rd e y).bind K
 |false=>match P.underlying T',y with
  |some (.int _),V (.lit (.int .i64 m))=>match zG 0 (U.sz e)&&zs.all Value.oneCell' with
   |true=>(L.parse e (zs.map .lit)).bind λd=>if 0<=m then K (zk m.toNat d)else S
   |false=>S
  |_,_=>S
def Vp(P:Program)(rd:Nat->af IR)(nx:Nat)(T T':TypeId)(x y:af AV)(K:ga->af α):af α:=U7 P T λe zs=>match x with
 |some (.lit (.slice S 0 0))=>QJ P rd e zs T' T y λl2=>if l2.length<=1073741824 then K (.new (.own nx) (.row e l2))else S
 |some (.own id)=>match rd id with
  |some (.row t l)=>(tH t e l).bind λl=>QJ P rd e zs T' T y λl2=>if(l++l2).length<=1073741824 then K (.grow id (.row e (l++l2)))else S
  |_=>S
 |_=>S
def OU(P:Program)(rd:Nat->af IR)(R:aZ)(nx:Nat)(T:TypeId)(x y:af AV)(K:ga->af α):af α:=match P.underlying T with
 |some (.slice e)=>match Lq P e 1&&zf (U.sz e) 1 with
  |true=>match x with
   |some (.own id)=>match rd id with
    |some (.row t l)=>(tH t e l).bind λl=>(ab9 rd e y).bind λl2=>if 0<l.length/\l2.length=l.length then K (.all (.i (l.length:Int)) (tq id (.row e l2) R) nx)else S
    |_=>S
   |_=>S
  |false=>S
 |_=>S
def af3{T T':TypeId}(hs:j4 ev rd nx E R)(ho:o.op= .call {callee:= .builtin .copy,args:=#[x,y],argTypes:=#[T,T']})(h:OU P rd R nx T (ev x) (ev y) K=V r):Vn P o E R nx K r:=λρ C=>by
 unfold OU at h;split at h
 case h_2=>cases h
 rename_i e hT;split at h
 case h_2=>cases h
 rename_i hc;rw[zi]at hc;split at h
 case h_2=>cases h
 rename_i id hx;split at h
 case h_2=>cases h
 rename_i t l hr;obtain⟨l',h1,h⟩:=zn.1 h;obtain⟨rfl,rfl⟩:=mQ h1;obtain⟨l2,h2,h⟩:=zn.1 h;split at h
 case isFalse=>cases h
 rename_i hl;have ex:=hs.fL hx ρ;rw[dL]at ex;obtain⟨i,hi1,hi2,_⟩:=eC (hs.r _ _ hr);have hres:=ic (ρ:=ρ) hi1;refine .ofV (.ayU i ho ex hres (Jx hs h2 ρ) hT (rq hc.1) (gy hc.2) hl.2 hl.1 (L.one _)) (λb hb=> ?_) λa σ' ⟨ha,hσ⟩=>⟨_,h,zo _,oT (hs.r _ _ hr) hs.lr trivial,λd' hd=>(by cases hd;exact .lit _),ρ, .refl _ _,by rw[ha];simp only[ga.vl,yy,bZ.sub],?_⟩
 ·obtain⟨g,hg⟩:∃g,gG (ρ.v id)=V g:=by
   cases hb':gG (ρ.v id)with
   |none=>rw[hb']at hb;simp at hb
   |some g=>exact⟨g,rfl⟩
  rw[hg]at hb;simp only[xL,zy]at hb;exact bU.2 ⟨_,List.mem_of_getElem? hres,by rw[hb];exact hg⟩
 ·show List.Perm _ (aZ.res ρ (tq id _ R));rw[hσ,hi2,vf];exact .refl _
def set_perm{β:Type}{l:aa β}{i:Nat}{a b:β}(h:l[i]? =V b):List.Perm (l.set i a) (a::l.eraseIdx i):=by
 have hi:=(z7.1 h).1;rw[wP,wD,bG hi];exact List.perm_middle
def SY{T T':TypeId}{e by':Nat}{zs:aa Value}{K':aa (U.dw e)->af α}{rs:aa cE}{ρ:Gh}{C:Cx}(hs:j4 ev rd nx E R)(ho:o.op= .call {callee:= .builtin .append,args:=#[x,y],argTypes:=#[T,T']})(h:QJ P rd e zs T' T (ev y) K'=V r)
  (hT:P.underlying T=V (.slice e)) (hb:(P.info? e).map (λi=>(i.size,i.bytes))=V (U.sz e,by')) (hz:jR P e=V zs) (hb4:yh by' 4096=O) (hzl:zs.length=U.sz e):
  ∃l2,K' l2=V r/\∀(σ:aa cE) (v:Value) (i:Nat) (l:aa (U.dw e)),(σ=aZ.res ρ R\/∃rr,σ=rr::aZ.res ρ R)->(E.sub ρ).ev x=V (.lit v)->σ[i]? =V (.row v e l)->(l++l2).length<=1073741824->
   Yv P (E.sub ρ) σ o C (xN (gG v)) (λa σ'=>∃v',a= .lit v'/\σ'=σ.set i (.row v' e (l++l2))):=by
 unfold QJ at h;split at h
 ·rename_i hTT;have:=gy hTT;subst this;obtain⟨l2,h1,h⟩:=zn.1 h;refine⟨l2,h,λσ v i l hσ hx hi hlen=> ?_⟩;have hsrc:Src σ (E.sub ρ) y e l2:=by
   rcases hσ with rfl|⟨rr,rfl⟩
   ·exact Jx hs h1 ρ
   ·exact Src.cons (P:=P) (Jx hs h1 ρ)
  exact .app i ho hx hi hsrc hT hb hz hzl hb4 (L.one e) hlen
 ·split at h
  case h_2=>cases h
  rename_i kn m hT' hy;split at h
  case h_2=>cases h
  rename_i hc;simp only[zi]at hc;obtain⟨hc1,hc2⟩:=hc;obtain⟨d,hd,h⟩:=zn.1 h;split at h
  case isFalse=>cases h
  rename_i hm;refine⟨_,h,λσ v i l hσ hx hi hlen=> ?_⟩;have ey:=hs.fL hy ρ;rw[bV]at ey;exact .aCD i d ho hx hi ey hT hT' hb hz hzl (by simpa [yA]using hc1) hb4 (λA w=>L.lM _ _ _ hd A w _ (bL.lits _)) hc2 ⟨hm,hlen⟩
def ahU{T T':TypeId}(hs:j4 ev rd nx E R)(ho:o.op= .call {callee:= .builtin .append,args:=#[x,y],argTypes:=#[T,T']})(h:Vp P rd nx T T' (ev x) (ev y) K=V r):Vn P o E R nx K r:=λρ C=>by
 obtain⟨e,zs,by',h,hT,hb,hz,hb4,hzl⟩:=afo h;split at h
 ·rename_i hx;obtain⟨l2,h,hY⟩:=SY (rs:=[]) (ρ:=ρ) (C:=C) hs ho h hT hb hz hb4 hzl;split at h
  case isFalse=>cases h
  rename_i hlen;have ex:=hs.fL hx ρ;rw[bV]at ex;intro w ϱ hg hρ;have ht:Tr C [] (aZ.res ρ R) w (.row (.slice S 0 0) e []::aZ.res ρ R) w:=Qm S e hg;have hal:∀b,al C (aZ.res ρ R) b->al C (.row (.slice S 0 0) e []::aZ.res ρ R) b:=λb hA=>⟨hA.1,λhx=>hA.2 (by
   rw[fA]at hx;simpa [cE.blk,gG]using hx)⟩
  obtain⟨v,w',av,σ',⟨v',ha,hσ⟩,h2,h3,h4⟩:=hY _ (.slice S 0 0) 0 [] (.inr ⟨_,rfl⟩) ex rfl (by simpa using hlen) w ϱ ht.good (λu d hu=>(hρ u d hu).mono λb _ hA=>⟨hal b hA,rfl⟩);refine .inl ⟨v,w',av,σ',Gs hs h ⟨v',ha,by rw[hσ];rfl⟩,⟨h2.good,⟨h2.kp.os,h2.kp.tape,h2.kp.output,h2.kp.drawn,h2.kp.size,λk hk _=>h2.kp.block k hk (by simp[gG])⟩,λb hb hA=>⟨(h2.al b hb (hal b hA)).1,hA.2⟩⟩,h3,h4⟩
 ·rename_i id hx;split at h
  case h_2=>cases h
  rename_i t l0 hr;obtain⟨l,hl,h⟩:=zn.1 h;obtain⟨rfl,rfl⟩:=mQ hl;obtain⟨l2,h,hY⟩:=SY (rs:=[]) (ρ:=ρ) (C:=C) hs ho h hT hb hz hb4 hzl;split at h
  case isFalse=>cases h
  rename_i hlen;have ex:=hs.fL hx ρ;rw[dL]at ex;obtain⟨i,hi1,_,hi3⟩:=eC (hs.r _ _ hr);have hres:=ic (ρ:=ρ) hi1;refine .ofV (hY _ _ i _ (.inl rfl) ex hres hlen) (λb hb=> ?_) λa σ' ⟨v',ha,hσ⟩=> ?_
  ·obtain⟨g,hg⟩:∃g,gG (ρ.v id)=V g:=by
    cases hb':gG (ρ.v id)with
    |none=>rw[hb']at hb;simp at hb
    |some g=>exact⟨g,rfl⟩
   rw[hg]at hb;simp only[xL,zy]at hb;exact bU.2 ⟨_,List.mem_of_getElem? hres,by rw[hb];exact hg⟩
  ·have hdl:=Fy (id:=id) hs.lr;refine⟨_,h,yf nx,λp hp=> ?_,λd' hd=>by cases hd;exact .own _ (zJ _),ρ.gh nx v', .gh ρ nx v',?_,?_⟩
   ·rcases zB.1 hp with rfl|hp
    ·exact⟨zJ _,trivial⟩
    ·exact(hdl.mono (yf nx)) p hp
   ·rw[ha];simp[ga.vl,dL,Gh.gh]
   ·rw[hσ];show List.Perm _ (aZ.res _ ((nx,_)::kE id R));have e1:aZ.res (ρ.gh nx v') ((nx,IR.row t (l0++l2))::kE id R)=cE.row v' t (l0++l2)::(aZ.res ρ R).eraseIdx i:=by
     show _::aZ.res _ (kE id R)=_;rw[<-hdl.res (.gh ρ nx v'),hi3,vQ];simp[IR.res,Gh.gh]
    rw[e1];exact set_perm hres
 ·cases h
def mnV(mx:Bool)(xs:aa (af AV))(K:AV->af α):af α:=match xs with
 |[V (.lit (.int k m)),V (.lit (.int k' n))]=>if k=k' then(match mx with
  |true=>K (.n k (if m<n then n else m))
  |false=>K (.n k (if n<m then n else m)))else S
 |_=>S
abbrev bf:=(α:Type)->FuncId->aa AV->aZ->Nat->(AV->aZ->Nat->af α)->af α
def iC(P:Program)(F:bf):Prop:=∀(α:Type) f args R nx (k:AV->aZ->Nat->af α) r,F α f args R nx k=V r->(∀d∈args,cQ nx d)->aZ.cQ nx R->s8 P f/\
 ∀ρ,Fn P f (args.map (bZ.sub ρ)) (aZ.res ρ R) λa s=>∃d R' nx',k d R' nx'=V r/\nx<=nx'/\cQ nx' d/\aZ.cQ nx' R'/\∃ρ',oP nx ρ ρ'/\a=d.sub ρ'/\List.Perm s (aZ.res ρ' R')
def Ia(F:bf)(ev:Operand->af AV)(R:aZ)(nx:Nat)(x:af AV)(xs:aa Operand)(K:ga->af α):af α:=match x with
 |some (.fn (.func f) caps)=>(KI ev xs).bind λas0=>F α f (as0++caps) R nx λd R' nx'=>K (.all d R' nx')
 |_=>S
def ah5{F:bf}{xs:Array Operand}{ts:Array TypeId}(hF:iC P F)(hs:j4 ev rd nx E R)(ho:o.op= .call {callee:= .value x,args:=xs,argTypes:=ts})(h:Ia F ev R nx (ev x) xs.toList K=V r):Vn P o E R nx K r:=λρ C=>by
 unfold Ia at h;split at h
 case h_2=>cases h
 rename_i f caps hx;obtain⟨as0,ha,h⟩:=zn.1 h;have ex:=hs.fL hx ρ;rw[tg]at ex;obtain⟨hf,hfn⟩:=hF _ _ _ _ _ _ _ h (tQ (HJ hs ha) (hs.qZ hx).fnL) hs.lr;refine .ofC (.fn (σr:=[]) ho ex hf (Iw hs ρ ha) (by rw[z8]) (yC _).symm (hfn ρ)) (λb hb=>hb) λa σ' ⟨σo,hN,hσ⟩=> ?_;obtain⟨d,R',nx',h1,h2,h3,h4,ρ',h5,h6,h7⟩:=hN;rw[yC]at hσ;exact⟨.all d R' nx',h1,h2,h4,λd' hd=>by cases hd;exact h3,ρ',h5,by rw[h6];rfl,by rw[hσ];exact h7⟩
end
def dM{α:Type}(K:ga->af α)(d:AV):af α:=K (.val d)
def JT{α:Type}(P:Program)(F:bf)(ev:Operand->af AV)(rd:Nat->af IR)(R:aZ)(nx:Nat)(o:Op)(K:ga->af α):af α:=match o with
 | .move x=>(ev x).bind (dM K)
 | .assign x=>(ev x).bind (dM K)
 | .pick c a b=>match ev c with
  |some (.lit (.bool O))=>(ev a).bind (dM K)
  |some (.lit (.bool G))=>(ev b).bind (dM K)
  |_=>S
 | .binOp b T x y _=>NH P rd b T (ev x) (ev y) (dM K)
 | .unOp b _ x=>unV b (ev x) (dM K)
 | .convert T T' x=>OY P rd T T' (ev x) (dM K)
 | .nilCheck x=>P5 (ev x) (dM K)
 | .fieldAddr T x i=>Pv P T i (ev x) (dM K)
 | .indexAddr T x y=>Qj P rd T (ev x) (ev y) (dM K)
 | .index T x y=>Qt P T (ev x) (ev y) (dM K)
 | .load T x=>ldV P rd T (ev x) (dM K)
 | .store T x y=>NU P rd T (ev x) (ev y) K
 | .makeFunc f fs cs=>Ou ev f fs.toList cs.toList (dM K)
 | .extract x i=>Ql i (ev x) (dM K)
 | .build T ps=>Ox P ev rd T ps.toList (dM K)
 | .buildSlice T n ps=>Qs P ev rd nx T n ps.toList K
 | .makeSlice T x y=>mkE P nx T (ev x) (ev y) K
 | .alloc T=>VU P nx T K
 | .box T x=>Pz rd nx T (ev x) K
 | .slice T x lo hi mx=>match mx with
  |none=>Oa P T (ev x) (lo.map ev) (hi.map ev) (dM K)
  |some (.const (.int _ 0))=>match lo,hi with
   |none,V (.const (.int _ 0))=>emE P nx T (ev x) K
   |_,_=>S
  |_=>S
 | .call {callee:= .builtin .len,args:=as0,argTypes:=ts}=>match as0.toList,ts.toList with
  |[x],[T]=>OM P rd T (ev x) (dM K)
  |_,_=>S
 | .call {callee:= .builtin .max,args:=as0,argTypes:=ts}=>match as0.toList,ts.toList with
  |[x,y],[_,_]=>mnV O [ev x,ev y] (dM K)
  |_,_=>S
 | .call {callee:= .builtin .min,args:=as0,argTypes:=ts}=>match as0.toList,ts.toList with
  |[x,y],[_,_]=>mnV G [ev x,ev y] (dM K)
  |_,_=>S
 | .call {callee:= .builtin .append,args:=as0,argTypes:=ts}=>match as0.toList,ts.toList with
  |[x,y],[T,T']=>Vp P rd nx T T' (ev x) (ev y) K
  |_,_=>S
 | .call {callee:= .builtin .copy,args:=as0,argTypes:=ts}=>match as0.toList,ts.toList with
  |[x,y],[T,_]=>OU P rd R nx T (ev x) (ev y) K
  |_,_=>S
 | .call {callee:= .value x,args:=as0,argTypes:=_}=>Ia F ev R nx (ev x) as0.toList K
 |_=>S
section
variable {α:Type}
def SQ(x:Operand)(_:Program)(_:bf)(ev:Operand->af AV)(_:Nat->af IR)(_:aZ)(_:Nat)(K:ga->af α):af α:=(ev x).bind (dM K)
def tY(c a b:Operand)(_:Program)(_:bf)(ev:Operand->af AV)(_:Nat->af IR)(_:aZ)(_:Nat)(K:ga->af α):af α:=match ev c with
 |some (.lit (.bool O))=>(ev a).bind (dM K)
 |some (.lit (.bool G))=>(ev b).bind (dM K)
 |_=>S
def amG(b:BinOp)(T:TypeId)(x y:Operand)(P:Program)(_:bf)(ev:Operand->af AV)(rd:Nat->af IR)(_:aZ)(_:Nat)(K:ga->af α):af α:=NH P rd b T (ev x) (ev y) (dM K)
def axi(b:UnOp)(x:Operand)(_:Program)(_:bf)(ev:Operand->af AV)(_:Nat->af IR)(_:aZ)(_:Nat)(K:ga->af α):af α:=unV b (ev x) (dM K)
def aml(T T':TypeId)(x:Operand)(P:Program)(_:bf)(ev:Operand->af AV)(rd:Nat->af IR)(_:aZ)(_:Nat)(K:ga->af α):af α:=OY P rd T T' (ev x) (dM K)
def akq(x:Operand)(_:Program)(_:bf)(ev:Operand->af AV)(_:Nat->af IR)(_:aZ)(_:Nat)(K:ga->af α):af α:=P5 (ev x) (dM K)
def akQ(T:TypeId)(x:Operand)(i:Nat)(P:Program)(_:bf)(ev:Operand->af AV)(_:Nat->af IR)(_:aZ)(_:Nat)(K:ga->af α):af α:=Pv P T i (ev x) (dM K)
def ak4(T:TypeId)(x y:Operand)(P:Program)(_:bf)(ev:Operand->af AV)(rd:Nat->af IR)(_:aZ)(_:Nat)(K:ga->af α):af α:=Qj P rd T (ev x) (ev y) (dM K)
def alJ(T:TypeId)(x y:Operand)(P:Program)(_:bf)(ev:Operand->af AV)(_:Nat->af IR)(_:aZ)(_:Nat)(K:ga->af α):af α:=Qt P T (ev x) (ev y) (dM K)
def awW(T:TypeId)(x:Operand)(P:Program)(_:bf)(ev:Operand->af AV)(rd:Nat->af IR)(_:aZ)(_:Nat)(K:ga->af α):af α:=ldV P rd T (ev x) (dM K)
def alZ(T:TypeId)(x y:Operand)(P:Program)(_:bf)(ev:Operand->af AV)(rd:Nat->af IR)(_:aZ)(_:Nat)(K:ga->af α):af α:=NU P rd T (ev x) (ev y) K
def alK(f:Go.Fn)(fs cs:Array Operand)(_:Program)(_:bf)(ev:Operand->af AV)(_:Nat->af IR)(_:aZ)(_:Nat)(K:ga->af α):af α:=Ou ev f fs.toList cs.toList (dM K)
def aki(x:Operand)(i:Nat)(_:Program)(_:bf)(ev:Operand->af AV)(_:Nat->af IR)(_:aZ)(_:Nat)(K:ga->af α):af α:=Ql i (ev x) (dM K)
def amm(T:TypeId)(ps:Array (Nat×Operand))(P:Program)(_:bf)(ev:Operand->af AV)(rd:Nat->af IR)(_:aZ)(_:Nat)(K:ga->af α):af α:=Ox P ev rd T ps.toList (dM K)
def ami(T:TypeId)(n:Nat)(ps:Array (Nat×Operand))(P:Program)(_:bf)(ev:Operand->af AV)(rd:Nat->af IR)(_:aZ)(nx:Nat)(K:ga->af α):af α:=Qs P ev rd nx T n ps.toList K
def awC(T:TypeId)(x y:Operand)(P:Program)(_:bf)(ev:Operand->af AV)(_:Nat->af IR)(_:aZ)(nx:Nat)(K:ga->af α):af α:=mkE P nx T (ev x) (ev y) K
def alL(T:TypeId)(P:Program)(_:bf)(_:Operand->af AV)(_:Nat->af IR)(_:aZ)(nx:Nat)(K:ga->af α):af α:=VU P nx T K
def alk(T:TypeId)(x:Operand)(_:Program)(_:bf)(ev:Operand->af AV)(rd:Nat->af IR)(_:aZ)(nx:Nat)(K:ga->af α):af α:=Pz rd nx T (ev x) K
def Nq(T:TypeId)(x:Operand)(lo hi mx:af Operand)(P:Program)(_:bf)(ev:Operand->af AV)(_:Nat->af IR)(_:aZ)(nx:Nat)(K:ga->af α):af α:=match mx with
 |none=>Oa P T (ev x) (lo.map ev) (hi.map ev) (dM K)
 |some (.const (.int _ 0))=>match lo,hi with
  |none,V (.const (.int _ 0))=>emE P nx T (ev x) K
  |_,_=>S
 |_=>S
def Bk(b:Builtin)(as0:Array Operand)(ts:Array TypeId)(P:Program)(ev:Operand->af AV)(rd:Nat->af IR)(R:aZ)(nx:Nat)(K:ga->af α):af α:=match b with
 | .len=>match as0.toList,ts.toList with
  |[x],[T]=>OM P rd T (ev x) (dM K)
  |_,_=>S
 | .max=>match as0.toList,ts.toList with
  |[x,y],[_,_]=>mnV O [ev x,ev y] (dM K)
  |_,_=>S
 | .min=>match as0.toList,ts.toList with
  |[x,y],[_,_]=>mnV G [ev x,ev y] (dM K)
  |_,_=>S
 | .append=>match as0.toList,ts.toList with
  |[x,y],[T,T']=>Vp P rd nx T T' (ev x) (ev y) K
  |_,_=>S
 | .copy=>match as0.toList,ts.toList with
  |[x,y],[T,_]=>OU P rd R nx T (ev x) (ev y) K
  |_,_=>S
 |_=>S
def C3(c:Call)(P:Program)(F:bf)(ev:Operand->af AV)(rd:Nat->af IR)(R:aZ)(nx:Nat)(K:ga->af α):af α:=match c.callee with
 | .value x=>Ia F ev R nx (ev x) c.args.toList K
 | .builtin b=>Bk b c.args c.argTypes P ev rd R nx K
 |_=>S
def avQ(_:Program)(_:bf)(_:Operand->af AV)(_:Nat->af IR)(_:aZ)(_:Nat)(_:ga->af α):af α:=S
def mT(o:Op):Program->bf->(Operand->af AV)->(Nat->af IR)->aZ->Nat->(ga->af α)->af α:=match o with
 | .move x=>SQ x
 | .assign x=>SQ x
 | .pick c a b=>tY c a b
 | .binOp b T x y _=>amG b T x y
 | .unOp b _ x=>axi b x
 | .convert T T' x=>aml T T' x
 | .nilCheck x=>akq x
 | .fieldAddr T x i=>akQ T x i
 | .indexAddr T x y=>ak4 T x y
 | .index T x y=>alJ T x y
 | .load T x=>awW T x
 | .store T x y=>alZ T x y
 | .makeFunc f fs cs=>alK f fs cs
 | .extract x i=>aki x i
 | .build T ps=>amm T ps
 | .buildSlice T n ps=>ami T n ps
 | .makeSlice T x y=>awC T x y
 | .alloc T=>alL T
 | .box T x=>alk T x
 | .slice T x lo hi mx=>Nq T x lo hi mx
 | .call c=>C3 c
 |_=>avQ
def Lz(P:Program)(F:bf)(ev:Operand->af AV)(rd:Nat->af IR)(R:aZ)(nx:Nat)(o:Op)(K:ga->af α):mT o P F ev rd R nx K=JT P F ev rd R nx o K:=by
 cases o<;>first|rfl|skip
 case call c=>
  obtain⟨cal,as0,ts⟩:=c;cases cal with
  |builtin b=>cases b<;>rfl
  |_=>rfl
end
section
variable {α:Type} {r:α} {P:Program} {F:bf} {o:Oper} {E:Env} {R:aZ} {nx:Nat} {ev:Operand->af AV} {rd:Nat->af IR} {K:ga->af α} {C:Cx} {n:Nat}
def ayp{β:Type}{a:Array β}{x:β}(h:a.toList=[x]):a=#[x]:=by rw[<-Array.toArray_toList (xs:=a),h]
def Mv{β:Type}{a:Array β}{x y:β}(h:a.toList=[x,y]):a=#[x,y]:=by rw[<-Array.toArray_toList (xs:=a),h]
def GX(hF:iC P F)(hs:j4 ev rd nx E R){op:Op}(ho:o.op=op)(h:JT P F ev rd R nx op K=V r):Vn P o E R nx K r:=by
 unfold JT at h;split at h
 ·obtain⟨d,hd,h⟩:=zn.1 h;exact .pu hs ⟨d,h,hs.qZ hd,λρ=> .move ho (hs.fL hd ρ)⟩
 ·obtain⟨d,hd,h⟩:=zn.1 h;exact .pu hs ⟨d,h,hs.qZ hd,λρ=> .assign ho (hs.fL hd ρ)⟩
 ·split at h
  ·rename_i hc;obtain⟨d,hd,h⟩:=zn.1 h;exact .pu hs ⟨d,h,hs.qZ hd,λρ=> .awn ho (by have:=hs.fL hc ρ;rw[bV]at this;exact this) (hs.fL hd ρ)⟩
  ·rename_i hc;obtain⟨d,hd,h⟩:=zn.1 h;exact .pu hs ⟨d,h,hs.qZ hd,λρ=> .as8 ho (by have:=hs.fL hc ρ;rw[bV]at this;exact this) (hs.fL hd ρ)⟩
  ·cases h
 ·exact .pu hs (ace hs ho h)
 ·exact .pu hs (ars hs ho h)
 ·exact .pu hs (ajj hs ho h)
 ·exact .pu hs (ajm hs ho h)
 ·exact .pu hs (aiI hs ho h)
 ·exact .pu hs (ajO hs ho h)
 ·exact .pu hs (aef hs ho h)
 ·exact .pu hs (aoP hs ho h)
 ·exact aeL hs ho h
 ·exact .pu hs (aid hs ho h)
 ·exact .pu hs (afv hs ho h)
 ·exact .pu hs (adQ hs ho h)
 ·exact ail hs ho h
 ·exact aqn hs ho h
 ·exact agx hs ho h
 ·exact ae5 hs ho h
 ·split at h
  ·exact .pu hs (ahs hs ho h)
  ·split at h
   ·exact apO hs ho h
   ·cases h
  ·cases h
 ·split at h
  ·rename_i h1 h2;rw[ayp h1,ayp h2]at ho;exact .pu hs (ajM hs ho h)
  ·cases h
 ·split at h
  ·rename_i h1 h2;rw[Mv h1,Mv h2]at ho;unfold mnV at h;split at h
   ·rename_i q1;split at h
    ·rename_i hk;subst hk;simp only[List.cons.injEq,and_true]at q1;obtain⟨q1,q2⟩:=q1;exact .pu hs ⟨_,h, .lit λρ=> .max ho (by have:=hs.fL q1 ρ;rw[bV]at this;exact this) (by have:=hs.fL q2 ρ;rw[bV]at this;exact this)⟩
    ·cases h
   ·cases h
  ·cases h
 ·split at h
  ·rename_i h1 h2;rw[Mv h1,Mv h2]at ho;unfold mnV at h;split at h
   ·rename_i q1;split at h
    ·rename_i hk;subst hk;simp only[List.cons.injEq,and_true]at q1;obtain⟨q1,q2⟩:=q1;exact .pu hs ⟨_,h, .lit λρ=> .min ho (by have:=hs.fL q1 ρ;rw[bV]at this;exact this) (by have:=hs.fL q2 ρ;rw[bV]at this;exact this)⟩
    ·cases h
   ·cases h
  ·cases h
 ·split at h
  ·rename_i h1 h2;rw[Mv h1,Mv h2]at ho;exact ahU hs ho h
  ·cases h
 ·split at h
  ·rename_i h1 h2;rw[Mv h1,Mv h2]at ho;exact af3 hs ho h
  ·cases h
 ·exact ah5 hF hs ho h
 ·cases h
def St.app(s:St)(dst:af Nat)(e:ga):St:=
 {E:=match dst with
   |none=>s.E
   |some t=>match e.vl s.nx with
    |some d=>mb t d s.E
    |none=>mb t (.lit undef) s.E
  R:=e.R s.R s.nx
  nx:=e.nx s.nx}
def Lh(n:Nat):af Nat->Bool
 |none=>O
 |some t=>zG t n
def j4.of{s:St}(hh:sU s.E E)(hE:E.cQ s.nx)(hR:aZ.cQ s.nx s.R):j4 (FH s.E) (gi s.R) s.nx E s.R:=⟨λx d h=>hh.ev x d h,λ_ _ h=>h,hE,hR⟩
def anf{C:Cg}{s:St}{a:Act}{w:World}{Q:Exit->Act->World->Prop}(hm:Mt C n s a w)(hd:Lh n o.dst=O)(h:∀E,j4 (FH s.E) (gi s.R) s.nx E s.R->Vn P o E s.R s.nx K r){K':Act->World->Prop}
  (hK:∀a' w' e,a'.defers=a.defers->K e=V r->s.nx<=e.nx s.nx->Mt C n (s.app o.dst e) a' w'->K' a' w'):o.wp P a w K' Q:=by
 obtain⟨E,hh,hE,hR,ρ,hag,hsim⟩:=hm;have h:=h E (j4.of hh hE hR);unfold Oper.wp;have fin:∀(e:ga) (ρ':Gh) (σ':aa cE) (w':World) (v:Value),s.nx<=e.nx s.nx->aZ.cQ (e.nx s.nx) (e.R s.R s.nx)->(∀d,e.vl s.nx=V d->cQ (e.nx s.nx) d)->oP s.nx ρ ρ'->List.Perm σ' (aZ.res ρ' (e.R s.R s.nx))->
   Tr C.C (bF (aZ.res ρ s.R)) (aZ.res ρ s.R) w σ' w'->(∀d,e.vl s.nx=V d->Rel (al C.C σ') w' (d.sub ρ') v)->(e.vl s.nx=S->v=undef)->Mt C n (s.app o.dst e) (a.put o.dst v) w':=λe ρ' σ' w' v h1 h2 h3 h4 h5 h6 h7 h8=>by
  have hs1:=(hsim.tr h6).perm h5;rw[hE.sub h4]at hs1;have hE':E.cQ (e.nx s.nx):=hE.mono h1;have hag':oP C.n C.ρ ρ'/\C.n<=e.nx s.nx:=⟨hag.1.trans h4 hag.2,zK hag.2 h1⟩;have hput:∀(t:Nat) (d:AV),o.dst=V t->cQ (e.nx s.nx) d->Rel (al C.C (aZ.res ρ' (e.R s.R s.nx))) w' (d.sub ρ') v->Mt C n {E:=mb t d s.E,R:=e.R s.R s.nx,nx:=e.nx s.nx} (a.put (V t) v) w':=λt d ht hd' hr=>
   ⟨(t,d)::E,hh.put t d,Env.uf hE' hd',h2,ρ',hag',hs1.put (by rw[ht]at hd;exact hd) hr⟩
  have hsub:∀d,e.vl s.nx=V d->Rel (al C.C (aZ.res ρ' (e.R s.R s.nx))) w' (d.sub ρ') v:=λd hd'=>(h7 d hd').mono λb _ hA=>⟨TX h5 b hA,rfl⟩;unfold St.app;cases hdst:o.dst with
  |none=>exact⟨E,hh,hE',h2,ρ',hag',hs1⟩
  |some t=>
   cases hv:e.vl s.nx with
   |some d=>exact hput t d hdst (h3 d hv) (hsub d hv)
   |none=>
    refine hput t (.lit undef) hdst (.lit _) ?_;rw[h8 hv,bV];exact .lit _
 rcases h ρ C.C w a.eval hsim.good hsim.slots.ops with ⟨v,w',av,σ',⟨e,q1,q2,q3,q4,ρ',q5,q6,q7⟩,h2,h3,h4⟩|⟨w',σ',⟨e,q1,q2,q3,q4,ρ',q5,q6,q7⟩,h2,h3⟩|⟨f,args,h1,h2⟩
 ·rw[h3];refine hK _ _ e (by cases o.dst<;>rfl) q1 q2 (fin e ρ' σ' w' v q2 q3 q4 q5 q7 h2 (λd hd'=> ?_) (λhn=> ?_))
  ·rw[hd',yy,zA.injEq]at q6;rw[<-q6];exact h4
  ·rw[hn]at q6;cases q6
 ·rw[h3];refine hK _ _ e (by cases o.dst<;>rfl) q1 q2 (fin e ρ' σ' w' undef q2 q3 q4 q5 q7 h2 (λd hd'=> ?_) (λhn=>rfl));rw[hd']at q6;cases q6
 ·rw[h1];refine Calls.mono h2 λee w' ⟨v,av,σ',q0,⟨e,q1,q2,q3,q4,ρ',q5,q6,q7⟩,h2,h4⟩=> ?_;subst q0;refine hK _ _ e (by cases o.dst<;>rfl) q1 q2 (fin e ρ' σ' w' v q2 q3 q4 q5 q7 h2 (λd hd'=> ?_) (λhn=> ?_))
  ·rw[hd',yy,zA.injEq]at q6;rw[<-q6];exact h4
  ·rw[hn]at q6;cases q6
end
def UL(id t:Nat)(l:aa (U.dw t)):AV->AV
 | .own i=>match zf i id with
  |true=> .sl t l
  |false=> .own i
 |d=>d
def nN(id t:Nat)(l:aa (U.dw t)):Nat->AV->AV
 |0,d=>d
 |n+1, .agg cs=> .agg (cs.map (nN id t l n))
 |n+1, .iL cs=> .iL (cs.map (nN id t l n))
 |n+1, .fn f cs=> .fn f (cs.map (nN id t l n))
 |_+1,d=>UL id t l d
def uy(id t:Nat)(l:aa (U.dw t)):IR->IR
 | .box T cs=> .box T (cs.map (nN id t l 3))
 |r=>r
def St.KD(s:St)(id:Nat):St:=match gi s.R id with
 |some (.row t l)=>{E:=emap (nN id t l 3) s.E,R:=(kE id s.R).map λp=>(p.1,uy id t l p.2),nx:=s.nx}
 |_=>s
def YE{A:Nat->Prop}{w:World}{id t:Nat}{l:aa (U.dw t)}{ρ:Gh}(hd:Hd A [.row (ρ.v id) t l] w){d:AV}{v:Value}(h:Rel A w (d.sub ρ) v):Rel (λb=>A b\/b∈bF [.row (ρ.v id) t l]) w ((UL id t l d).sub ρ) v:=by
 unfold UL;split
 ·rename_i i;split
  ·rename_i hi;have:=gy hi;subst this;rw[dL]at h;rw[gC];exact Vw.row 0 rfl A w v hd h
  ·exact h.mono λb _ hA=>⟨.inl hA,rfl⟩
 ·exact h.mono λb _ hA=>⟨.inl hA,rfl⟩
def EW{A:Nat->Prop}{w:World}{id t:Nat}{l:aa (U.dw t)}{ρ:Gh}(hd:Hd A [.row (ρ.v id) t l] w):∀(n:Nat) {d:AV} {v:Value},Rel A w (d.sub ρ) v->Rel (λb=>A b\/b∈bF [.row (ρ.v id) t l]) w ((nN id t l n d).sub ρ) v
 |0,d,v,h=>h.mono λb _ hA=>⟨.inl hA,rfl⟩
 |n+1,d,v,h=>by
  have hL:∀{cs:aa AV} {us:aa Value},bL A w (cs.map (bZ.sub ρ)) us->bL (λb=>A b\/b∈bF [.row (ρ.v id) t l]) w ((cs.map (nN id t l n)).map (bZ.sub ρ)) us:=λ{cs us} h=>by
   refine⟨by simpa using h.1,λj a v h1 h2=> ?_⟩;rw[ym,ya]at h1;obtain⟨c,hc,rfl⟩:=zj.1 h1;exact EW hd n (h.2 j _ v (by rw[ya,hc];rfl) h2)
  unfold nN;split
  ·rename_i h0;cases h0
  ·rename_i cs h0;cases h0;rw[fe]at h ⊢;obtain⟨us,rfl,h2⟩:=h.nP;exact Rel.oM (hL h2)
  ·rename_i cs h0;cases h0;rw[kI]at h ⊢;obtain⟨us,rfl,h2⟩:=h.Pq;exact Rel.FO (hL h2)
  ·rename_i f cs h0;cases h0;rw[tg]at h ⊢;obtain⟨us,rfl,h2⟩:=h.Xn;exact .fn f _ us (hL h2).1 (hL h2).2
  ·rename_i h0 _ _ _;exact YE hd h
end Go.Iv
end
noncomputable section
namespace Go.Iv
variable [U:ru] [L:l7]
open Go Go.RowKit
section
variable {α β:Type} (D:α->af β)
def Yj{b:BinOp}{k:IntKind}{m n:Int}{K:AV->af α}:(Yh b k m n K).bind D=Yh b k m n (λd=>(K d).bind D):=by
 unfold Yh;cases b<;>first|rfl|(dsimp only;split<;>rfl)
def adW{P:Program}{b:BinOp}{T:TypeId}{cs ds:aa AV}{K:AV->af α}:(eqS P b T cs ds K).bind D=eqS P b T cs ds (λd=>(K d).bind D):=by
 unfold eqS;split
 ·split
  ·cases b<;>first|rfl|exact zY ..
  ·rfl
 ·rfl
def LM{P:Program}{rd:Nat->af IR}{b:BinOp}{T:TypeId}{x y:af AV}{K:AV->af α}:(NH P rd b T x y K).bind D=NH P rd b T x y (λd=>(K d).bind D):=by
 unfold NH
 repeat' split
 all_goals first|rfl|exact Yj D|exact adW D|simp_all
def SD{b:UnOp}{x:af AV}{K:AV->af α}:(unV b x K).bind D=unV b x (λd=>(K d).bind D):=by
 unfold unV
 repeat' split
 all_goals first|rfl|simp_all
def Nz{x:af AV}{K:AV->af α}:(P5 x K).bind D=P5 x (λd=>(K d).bind D):=by
 unfold P5
 repeat' split
 all_goals first|rfl|simp_all
def My{P:Program}{T:TypeId}{i:Nat}{x:af AV}{K:AV->af α}:(Pv P T i x K).bind D=Pv P T i x (λd=>(K d).bind D):=by
 unfold Pv
 repeat' split
 all_goals first|rfl|simp_all
def KX{P:Program}{rd:Nat->af IR}{T:TypeId}{x y:af AV}{K:AV->af α}:(Qj P rd T x y K).bind D=Qj P rd T x y (λd=>(K d).bind D):=by
 unfold Qj
 repeat' split
 all_goals first|rfl|simp_all
def T5{P:Program}{rd:Nat->af IR}{T:TypeId}{x:af AV}{K:AV->af α}:(ldV P rd T x K).bind D=ldV P rd T x (λd=>(K d).bind D):=by
 unfold ldV
 repeat' split
 all_goals first|rfl|exact zY .. |simp_all
def XC{P:Program}{ev:Operand->af AV}{rd:Nat->af IR}{T:TypeId}{ps:aa (Nat×Operand)}{K:AV->af α}:(Ox P ev rd T ps K).bind D=Ox P ev rd T ps (λd=>(K d).bind D):=by
 unfold Ox
 repeat' split
 all_goals first|rfl|exact zY .. |simp_all
def MY{P:Program}{rd:Nat->af IR}{T T':TypeId}{x:af AV}{K:AV->af α}:(OY P rd T T' x K).bind D=OY P rd T T' x (λd=>(K d).bind D):=by
 unfold OY
 repeat' split
 all_goals first|rfl|exact zY .. |simp_all
def Lf{i:Nat}{x:af AV}{K:AV->af α}:(Ql i x K).bind D=Ql i x (λd=>(K d).bind D):=by
 unfold Ql
 repeat' split
 all_goals first|rfl|exact zY .. |simp_all
def Zr{ev:Operand->af AV}{f:Go.Fn}{fs cs:aa Operand}{K:AV->af α}:(Ou ev f fs cs K).bind D=Ou ev f fs cs (λd=>(K d).bind D):=by
 unfold Ou
 repeat' split
 all_goals first|rfl|exact zY .. |simp_all
def Nn{P:Program}{T:TypeId}{x y:af AV}{K:AV->af α}:(Qt P T x y K).bind D=Qt P T x y (λd=>(K d).bind D):=by
 unfold Qt
 repeat' split
 all_goals first|rfl|exact zY .. |simp_all
def abq{P:Program}{T:TypeId}{x:af AV}{lo hi:af (af AV)}{K:AV->af α}:(Oa P T x lo hi K).bind D=Oa P T x lo hi (λd=>(K d).bind D):=by
 unfold Oa
 repeat' split
 all_goals first|rfl|exact zY .. |simp_all
def LQ{P:Program}{rd:Nat->af IR}{T:TypeId}{x:af AV}{K:AV->af α}:(OM P rd T x K).bind D=OM P rd T x (λd=>(K d).bind D):=by
 unfold OM
 repeat' split
 all_goals first|rfl|exact zY .. |simp_all
def Y8{P:Program}{nx:Nat}{T:TypeId}{K:ga->af α}:(VU P nx T K).bind D=VU P nx T (λd=>(K d).bind D):=by
 unfold VU;exact zY ..
def Xw{rd:Nat->af IR}{nx:Nat}{T:TypeId}{x:af AV}{K:ga->af α}:(Pz rd nx T x K).bind D=Pz rd nx T x (λd=>(K d).bind D):=by
 unfold Pz
 repeat' split
 all_goals first|rfl|exact zY .. |simp_all
def aaf{P:Program}{rd:Nat->af IR}{T:TypeId}{x y:af AV}{K:ga->af α}:(NU P rd T x y K).bind D=NU P rd T x y (λd=>(K d).bind D):=by
 unfold NU
 repeat' split
 all_goals first|rfl|exact zY .. |simp_all
def Xe{P:Program}{rd:Nat->af IR}{R:aZ}{nx:Nat}{T:TypeId}{x y:af AV}{K:ga->af α}:(OU P rd R nx T x y K).bind D=OU P rd R nx T x y (λd=>(K d).bind D):=by
 unfold OU;split
 ·split
  ·split
   ·split
    ·rw[zY]
     congr 1
     funext l
     rw[zY]
     congr 1
     funext l2
     split<;>rfl
    ·rfl
   ·rfl
  ·rfl
 ·rfl
def XZ{P:Program}{ev:Operand->af AV}{rd:Nat->af IR}{nx:Nat}{T:TypeId}{n:Nat}{ps:aa (Nat×Operand)}{K:ga->af α}:(Qs P ev rd nx T n ps K).bind D=Qs P ev rd nx T n ps (λd=>(K d).bind D):=by
 unfold Qs;split
 ·split
  ·split
   ·split<;>rfl
   ·split
    ·split
     ·rw[zY]
      congr 1
      funext cs
      split
      ·exact zY ..
      ·rfl
     ·rfl
    ·rfl
  ·rfl
 ·rfl
def abX{P:Program}{nx:Nat}{T:TypeId}{x y:af AV}{K:ga->af α}:(mkE P nx T x y K).bind D=mkE P nx T x y (λd=>(K d).bind D):=by
 unfold mkE;split
 ·split
  ·split
   ·rw[zY]
    congr 1
    funext d
    split<;>rfl
   ·rfl
  ·rfl
 ·rfl
def agO{P:Program}{nx:Nat}{T:TypeId}{x:af AV}{K:ga->af α}:(emE P nx T x K).bind D=emE P nx T x (λd=>(K d).bind D):=by
 unfold emE
 repeat' split
 all_goals first|rfl|simp_all
def Yl{P:Program}{T:TypeId}{K:Nat->aa Value->af α}:(U7 P T K).bind D=U7 P T (λe zs=>(K e zs).bind D):=by
 unfold U7
 repeat' split
 all_goals first|rfl|simp_all
def KQ{P:Program}{rd:Nat->af IR}{e:Nat}{zs:aa Value}{T' T:TypeId}{y:af AV}{K:aa (U.dw e)->af α}:(QJ P rd e zs T' T y K).bind D=QJ P rd e zs T' T y (λd=>(K d).bind D):=by
 unfold QJ;split
 ·exact zY ..
 ·split
  ·split
   ·rw[zY]
    congr 1
    funext d
    split<;>rfl
   ·rfl
  ·rfl
def X6{P:Program}{rd:Nat->af IR}{nx:Nat}{T T':TypeId}{x y:af AV}{K:ga->af α}:(Vp P rd nx T T' x y K).bind D=Vp P rd nx T T' x y (λd=>(K d).bind D):=by
 unfold Vp;rw[Yl]
 congr 1
 funext e zs
 split
 ·rw[KQ]
  congr 1
  funext l2
  split<;>rfl
 ·split
  ·rw[zY]
   congr 1
   funext l
   rw[KQ]
   congr 1
   funext l2
   split<;>rfl
  ·rfl
 ·rfl
def BY{mx:Bool}{xs:aa (af AV)}{K:AV->af α}:(mnV mx xs K).bind D=mnV mx xs (λd=>(K d).bind D):=by
 unfold mnV;split
 ·split
  ·cases mx<;>rfl
  ·rfl
 ·rfl
def dU(F:bf):Prop:=∀(α β:Type) f args R nx (k:AV->aZ->Nat->af α) (D:α->af β),(F α f args R nx k).bind D=F β f args R nx (λd R nx=>(k d R nx).bind D)
structure aQ (P:Program) (F:bf):Prop where
 ok:iC P F
 nat:dU F
def aaZ{F:bf}(hF:dU F){ev:Operand->af AV}{R:aZ}{nx:Nat}{x:af AV}{xs:aa Operand}{K:ga->af α}:(Ia F ev R nx x xs K).bind D=Ia F ev R nx x xs (λd=>(K d).bind D):=by
 unfold Ia;split
 ·rw[zY]
  congr 1
  funext as0
  exact hF ..
 ·rfl
def AQ{F:bf}(hF:dU F)(o:Op)(P:Program)(ev:Operand->af AV)(rd:Nat->af IR)(R:aZ)(nx:Nat)(K:ga->af α):(mT o P F ev rd R nx K).bind D=mT o P F ev rd R nx (λe=>(K e).bind D):=by
 have hP:(λd=>(dM K d).bind D)=dM (λe=>(K e).bind D):=rfl;cases o<;>first|rfl|exact zY .. |exact SD D|exact MY D|exact Nz D|exact My D|exact KX D|exact Nn D|exact T5 D|exact aaf D|exact Zr D|exact Lf D|exact XC D|exact XZ D|exact abX D|exact Y8 D|exact Xw D|skip
 case pick c a b=>
  show (tY c a b P F ev rd R nx K).bind D=tY c a b P F ev rd R nx _;unfold tY;split
  ·exact zY ..
  ·exact zY ..
  ·rfl
 case binOp b T x y t=>exact LM D
 case slice T x lo hi mx=>
  show (Nq T x lo hi mx P F ev rd R nx K).bind D=Nq T x lo hi mx P F ev rd R nx _;unfold Nq;split
  ·exact abq D
  ·split
   ·exact agO D
   ·rfl
  ·rfl
 case call c=>
  show (C3 c P F ev rd R nx K).bind D=C3 c P F ev rd R nx _;unfold C3;split
  ·exact aaZ D hF
  ·unfold Bk;split
   ·split
    ·exact LQ D
    ·rfl
   ·split
    ·exact BY D
    ·rfl
   ·split
    ·exact BY D
    ·rfl
   ·split
    ·exact X6 D
    ·rfl
   ·split
    ·exact Xe D
    ·rfl
   ·rfl
  ·rfl
end
end Go.Iv
end
noncomputable section
namespace Go.Iv
variable [U:ru]
open Go Go.RowKit Go.Shelf Go.Proofs
section
variable {P:Program} {C:Cx} {n:Nat} {c x y:Code} {Q Q':Exit->Env->aa cE->Prop} {E E':Env} {σ σ':aa cE}
end
def Vw.box{σ:aa cE}{b:Nat}{T:TypeId}{cs:aa AV}(i:Nat)(hσ:σ[i]? =V (.box b T cs)):Vw σ (.lit (.pointer (V ⟨b,0,S⟩))) (.fp cs):=λA w v hd hr=>by
 have hv:=hr.cK;subst hv;have hm:=List.mem_of_getElem? hσ;obtain⟨us,h1,h2⟩:=hd.1 _ hm;exact .fp cs b 0 us h1.lt (.inr (bU.2 ⟨_,hm,rfl⟩)) h2.1 (λj v hj=>by rw[yl];exact h1.cell (by simpa using hj)) (λj a v q1 q2=>(h2.2 j a v q1 q2).mono λb _ hA=>⟨.inl hA,rfl⟩)
end Go.Iv
end
noncomputable section
namespace Go.Iv
variable [U:ru] [L:l7]
open Go Go.RowKit
def qC{id t m:Nat}{l:aa (U.dw t)}:∀(n:Nat) {d:AV},cQ m d->cQ m (nN id t l n d)
 |0,d,h=>h
 |n+1,d,h=>by
  have hL:∀{cs:aa AV},(∀c∈cs,cQ m c)->∀c∈cs.map (nN id t l n),cQ m c:=λh c hc=>by
   obtain⟨c',h1,rfl⟩:=zL.1 hc;exact qC n (h c' h1)
  unfold nN;split
  ·rename_i h0;cases h0
  ·rename_i h0;cases h0;exact .agg _ (hL h.oM)
  ·rename_i h0;cases h0;exact .iL _ (hL h.FO)
  ·rename_i h0;cases h0;exact .fn _ _ (hL h.fnL)
  ·unfold UL;split
   ·split
    ·exact .sl _ _
    ·exact h
   ·exact h
def eG{f:AV->AV}(t:Nat):∀(E:Env),Env.get (E.map λp=>(p.1,f p.2)) t=(E.get t).map f
 |[]=>rfl
 |(k,v)::E=>by
  show Env.get ((k,f v)::E.map λp=>(p.1,f p.2)) t=_;unfold Env.get;cases hb:zf k t with
  |true=>rfl
  |false=>exact eG t E
section
variable {α:Type} {r:α} {P:Program} {F:bf} {o:Oper} {C:Cg} {n:Nat} {s:St} {a:Act} {w:World}
def Mt.KD(h:Mt C n s a w)(id:Nat):Mt C n (s.KD id) a w:=by
 unfold St.KD;split
 case h_2=>exact h
 rename_i t l hr;obtain⟨E,hh,hE,hR,ρ,hag,hsim⟩:=h;obtain⟨i,hi1,_,hi3⟩:=eC hr;have hres:=ic (ρ:=ρ) hi1;have hg:=hsim.good;have hd:Hd (al C.C (aZ.res ρ s.R)) [.row (ρ.v id) t l] w:=⟨λr hr=>by
   rw[zy]at hr;rw[hr];exact hg.res _ (List.mem_of_getElem? hres),λb hb hA=>hA.2 (by
   obtain⟨r,h1,h2⟩:=bU.1 hb;rw[zy]at h1;rw[h1]at h2;exact bU.2 ⟨_,List.mem_of_getElem? hres,h2⟩)⟩
 have hle:=NL (C:=C.C) hres hg;have hbk:bF (aZ.res ρ ((kE id s.R).map λp=>(p.1,uy id t l p.2)))=bF ((aZ.res ρ s.R).eraseIdx i):=by
  rw[<-vQ,<-hi3];unfold bF aZ.res;rw[ym,List.filterMap_map,List.filterMap_map]
  congr 1
  funext p
  obtain⟨q,rr⟩:=p;cases rr<;>rfl
 have hal:∀b,(al C.C (aZ.res ρ s.R) b\/b∈bF [cE.row (ρ.v id) t l])->al C.C (aZ.res ρ ((kE id s.R).map λp=>(p.1,uy id t l p.2))) b:=λb hb=>by
  have:=hle b hb;exact⟨this.1,by rw[hbk];exact this.2⟩
 have hrel:∀{d:AV} {v:Value},Rel (al C.C (aZ.res ρ s.R)) w (d.sub ρ) v->Rel (al C.C (aZ.res ρ ((kE id s.R).map λp=>(p.1,uy id t l p.2)))) w ((nN id t l 3 d).sub ρ) v:=λh=>
  (EW hd 3 h).mono λb _ hA=>⟨hal b hA,rfl⟩
 refine⟨E.map λp=>(p.1,nN id t l 3 p.2),λk d hk=> ?_,λp hp=> ?_,λp hp=> ?_,ρ,hag,hsim.defers.step (λb _ hA=>⟨hal b (.inl hA),rfl⟩),hsim.size,λk av hk=> ?_,⟨hg.kept,λrr hrr=> ?_,?_,λb hb=> ?_⟩⟩
 ·have hk':cO (emap (nN id t l 3) s.E) k=V d:=hk;rw[u6]at hk';obtain⟨d',h1,rfl⟩:=zj.1 hk';rw[eG,hh k d' h1];rfl
 ·obtain⟨p',h1,rfl⟩:=zL.1 hp;exact qC 3 (hE p' h1)
 ·obtain⟨p',h1,rfl⟩:=zL.1 hp;have h2:=Fy (id:=id) hR p' h1;refine⟨h2.1,?_⟩;obtain⟨q,rr⟩:=p';cases rr with
  |row t' l'=>trivial
  |box T cs=>
   intro c hc;obtain⟨c',h3,rfl⟩:=zL.1 hc;exact qC 3 (h2.2 c' h3)
 ·rw[Env.e9,eG]at hk;obtain⟨d',h1,rfl⟩:=zj.1 hk;obtain⟨d,h2,rfl⟩:=zj.1 h1;obtain⟨v,h3,h4⟩:=hsim.slots k (d.sub ρ) (by rw[Env.e9,h2];rfl);exact⟨v,h3,hrel h4⟩
 ·obtain⟨p,h1,rfl⟩:=zL.1 hrr;obtain⟨p',h2,rfl⟩:=zL.1 h1;have hm:p'.2.res ρ p'.1∈aZ.res ρ s.R:=by
   rw[hi3]at h2;exact zL.2 ⟨p',List.mem_of_mem_eraseIdx h2,rfl⟩
  have h3:=hg.res _ hm;obtain⟨q,rr⟩:=p';cases rr with
  |row t' l'=>exact h3.mono (λb _ hA=>⟨hal b (.inl hA),rfl⟩) (λ_ _=>rfl)
  |box T cs=>
   obtain⟨us,h4,h5⟩:=h3;refine⟨us,h4,by simpa using h5.1,λj av v q1 q2=> ?_⟩;rw[ym,ya]at q1;obtain⟨c,hc,rfl⟩:=zj.1 q1;exact hrel (h5.2 j (c.sub ρ) v (by rw[ya,hc];rfl) q2)
 ·rw[hbk];exact hg.Gc.sublist ((wQ _ _).filterMap _)
 ·rw[hbk]at hb;exact hg.own b (pN (λr hr=>(wQ _ _).subset hr) b hb)
def St.j8(s:St)(ids:aa Nat):St:=match ids with
 |[]=>s
 |i::is=>(s.KD i).j8 is
def Mt.j8:∀(ids:aa Nat) {s:St},Mt C n s a w->Mt C n (s.j8 ids) a w
 |[],_,h=>h
 |i::is,_,h=>Mt.j8 is (h.KD i)
def ana:AV->aa Nat
 | .own id=>[id]
 | .agg cs=>cs.filterMap λc=>match c with
  | .own id=>V id
  |_=>S
 |_=>[]
def aab(E:ET)(x:Operand):aa Nat:=match FH E x with
 |some d=>ana d
 |none=>[]
def iP(E:ET):Op->aa Nat
 | .buildSlice _ _ ps=>ps.toList.flatMap λp=>aab E p.2
 | .store T x v=>match L.fz (Nat.add 1000000 T)with
  |true=>aab E v
  |false=>match FH E x with
   |some (.ra _ _ _ _)=>aab E v
   |_=>[]
 | .slice _ x _ _ S=>aab E x
 | .call c=>match c.callee with
  | .value (.func f)=>match L.fz f with
   |true=>c.args.toList.flatMap (aab E)
   |false=>[]
  |_=>[]
 |_=>[]
def St.fS(s:St)(t:Nat)(b:Bool):St:={s with E:=mb t (.b b) s.E}
def Mt.fS{t:Nat}{b:Bool}(h:Mt C n s a w)(ht:cO s.E t=V (.lit (.bool b))):Mt C n (s.fS t b) a w:=by
 obtain⟨E,hh,hE,hR,ρ,hag,hsim⟩:=h;refine⟨E,λk d hk=> ?_,hE,hR,ρ,hag,hsim⟩;have hk':cO (mb t (.b b) s.E) k=V d:=hk;rcases o7 hk' with ⟨rfl,rfl⟩|⟨_,h2⟩
 ·exact hh _ _ ht
 ·exact hh k d h2
def gate(ops:Array Oper)(o:Oper)(s:St)(yes no:St->af α):af α:=match o.guard with
 |none=>yes s
 |some (j,want)=>match (ops[j]?).bind (·.dst)with
  |none=>S
  |some t=>match cO s.E t with
   |some (.lit (.bool b))=>match b with
    |true=>match want with
     |true=>yes (s.fS t O)
     |false=>no (s.fS t O)
    |false=>match want with
     |true=>no (s.fS t G)
     |false=>yes (s.fS t G)
   |some (.lit (.tuple _))=>no s
   |_=>S
def GY{ops:Array Oper}{j t:Nat}{want:Bool}{ρ:Gh}(hg:o.guard=V (j,want))(hj:(ops[j]?).bind (·.dst)=V t){E:Env}:
  (∀b,E.get t=V (.lit (.bool b))->o9 (E.sub ρ) o ops=V (b==want))/\(∀vs,E.get t=V (.lit (.tuple vs))->o9 (E.sub ρ) o ops=V G):=by
 constructor
 ·intro b hb;unfold o9;rw[hg];simp only[hj,Env.e9,hb,yy,bV]
 ·intro vs hb;unfold o9;rw[hg];simp only[hj,Env.e9,hb,yy,bV]
def afN{ops:Array Oper}{yes no:St->af α}(h:gate ops o s yes no=V r)(hm:Mt C n s a w):∃s',Mt C n s' a w/\
  ((Region.wanted o (yielded ops a.tmps)=O/\yes s'=V r)\/(Region.wanted o (yielded ops a.tmps)=G/\no s'=V r)):=by
 unfold gate at h;split at h
 ·rename_i hg;exact⟨s,hm, .inl ⟨by simp[Region.wanted,hg],h⟩⟩
 ·rename_i j want hg;split at h
  ·cases h
  ·rename_i t hj;have hspec:∀{s':St},Mt C n s' a w->(∀b,cO s'.E t=V (.lit (.bool b))->Region.wanted o (yielded ops a.tmps)=(b==want))/\(∀vs,cO s'.E t=V (.lit (.tuple vs))->Region.wanted o (yielded ops a.tmps)=G):=λ{s'} hm'=>by
    obtain⟨E,hh,_,_,ρ,_,hsim⟩:=hm';obtain⟨h1,h2⟩:=GY (ρ:=ρ) hg hj (E:=E);exact⟨λb hb=>o9.spec hsim.slots (h1 b (hh _ _ hb)),λvs hv=>o9.spec hsim.slots (h2 vs (hh _ _ hv))⟩
   split at h
   ·rename_i b hb;have hw:=(hspec hm).1 b hb;split at h
    ·split at h
     ·exact⟨_,hm.fS hb, .inl ⟨hw,h⟩⟩
     ·exact⟨_,hm.fS hb, .inr ⟨hw,h⟩⟩
    ·split at h
     ·exact⟨_,hm.fS hb, .inr ⟨hw,h⟩⟩
     ·exact⟨_,hm.fS hb, .inl ⟨hw,h⟩⟩
   ·rename_i vs hb;exact⟨s,hm, .inr ⟨(hspec hm).2 vs hb,h⟩⟩
   ·cases h
def Bg(o:Op)(s:St)(f:St->af α):af α:=match o with
 | .pick (.tmp t) _ _=>match cO s.E t with
  |some (.lit (.bool b))=>match b with
   |true=>f (s.fS t O)
   |false=>f (s.fS t G)
  |_=>S
 |_=>f s
def Z6{op:Op}{f:St->af α}(h:Bg op s f=V r)(hm:Mt C n s a w):∃s',Mt C n s' a w/\f s'=V r:=by
 unfold Bg at h;split at h
 ·split at h
  ·rename_i b hb;split at h
   ·exact⟨_,hm.fS hb,h⟩
   ·exact⟨_,hm.fS hb,h⟩
  ·cases h
 ·exact⟨s,hm,h⟩
def rK(dst:af Nat)(d:AV)(E:ET):ET:=match dst with
 |none=>E
 |some t=>mb t d E
def JD(dst:af Nat)(E:ET)(R:aZ)(nx:Nat)(ih:St->(St->af α)->af α)(k:St->af α)(e:ga):af α:=match e with
 | .val d=>ih ⟨rK dst d E,R,nx⟩ k
 | .new d r=>ih ⟨rK dst d E,(nx,r)::R,nx+1⟩ k
 | .set id r=>ih ⟨rK dst (.lit undef) E,tq id r R,nx⟩ k
 | .grow id r=>ih ⟨rK dst (.own nx) E,(nx,r)::kE id R,nx+1⟩ k
 | .all d R' m=>ih ⟨rK dst d E,R',m⟩ k
def ah8(dst:af Nat)(s:St)(ih:St->(St->af α)->af α)(k:St->af α):JD dst s.E s.R s.nx ih k=λe=>ih (s.app dst e) k:=by
 funext e
 cases e<;>cases dst<;>rfl
def aqQ(P:Program)(F:bf)(o:Oper)(ih:St->(St->af α)->af α)(k:St->af α)(s:St):af α:=St.rec (λE R nx=>mT o.op P F (FH E) (gi R) R nx (JD o.dst E R nx ih k)) s
def rDo(P:Program)(F:bf)(o:Oper)(ih:St->(St->af α)->af α)(k:St->af α)(s:St):af α:=aqQ P F o ih k (s.j8 (iP s.E o.op))
abbrev OpK(α:Type):=Program->bf->af Nat->ET->aZ->Nat->(St->(St->af α)->af α)->(St->af α)->af α
abbrev StT(α:Type):=Program->bf->(Operand->af AV)->(Nat->af IR)->aZ->Nat->(ga->af α)->af α
def Hg(f:StT α):OpK α:=λP F dst E R nx ih k=>f P F (FH E) (gi R) R nx (JD dst E R nx ih k)
def stZ(ids:ET->aa Nat)(f:StT α):OpK α:=λP F dst E R nx ih k=>St.rec (λE R nx=>f P F (FH E) (gi R) R nx (JD dst E R nx ih k)) (St.j8 ⟨E,R,nx⟩ (ids E))
def aBX(c a b:Operand):OpK α:=match c with
 | .tmp t=>λP F dst E R nx ih k=>match cO E t with
  |some (.lit (.bool v))=>match v with
   |true=>Hg (tY (.tmp t) a b) P F dst (mb t (.b O) E) R nx ih k
   |false=>Hg (tY (.tmp t) a b) P F dst (mb t (.b G) E) R nx ih k
  |_=>S
 |c=>Hg (tY c a b)
def opF(o:Op):OpK α:=match o with
 | .move x=>Hg (SQ x)
 | .assign x=>Hg (SQ x)
 | .pick c a b=>aBX c a b
 | .binOp b T x y _=>Hg (amG b T x y)
 | .unOp b _ x=>Hg (axi b x)
 | .convert T T' x=>Hg (aml T T' x)
 | .nilCheck x=>Hg (akq x)
 | .fieldAddr T x i=>Hg (akQ T x i)
 | .indexAddr T x y=>Hg (ak4 T x y)
 | .index T x y=>Hg (alJ T x y)
 | .load T x=>Hg (awW T x)
 | .store T x y=>stZ (λE=>iP E (.store T x y)) (alZ T x y)
 | .makeFunc f fs cs=>Hg (alK f fs cs)
 | .extract x i=>Hg (aki x i)
 | .build T ps=>Hg (amm T ps)
 | .buildSlice T n ps=>stZ (λE=>iP E (.buildSlice T n ps)) (ami T n ps)
 | .makeSlice T x y=>Hg (awC T x y)
 | .alloc T=>Hg (alL T)
 | .box T x=>Hg (alk T x)
 | .slice T x lo hi mx=>stZ (λE=>iP E (.slice T x lo hi mx)) (Nq T x lo hi mx)
 | .call c=>stZ (λE=>iP E (.call c)) (C3 c)
 |_=>Hg avQ
def Kz(P:Program)(F:bf)(o:Oper)(s:St)(ih:St->(St->af α)->af α)(k:St->af α):opF o.op P F o.dst s.E s.R s.nx ih k=Bg o.op s (rDo P F o ih k):=by
 unfold rDo aqQ Bg;cases h:o.op<;>first|rfl|skip
 case pick c a b=>
  cases c<;>rfl
def avk(P:Program)(F:bf)(o:Oper)(ih:St->(St->af α)->af α)(k:St->af α)(s:St):af α:=St.rec (λE R nx=>opF o.op P F o.dst E R nx ih k) s
def rNo(dst:af Nat)(ih:St->(St->af α)->af α)(k:St->af α)(s:St):af α:=match dst with
 |some t=>ih {s with E:=mb t (.lit undef) s.E} k
 |none=>ih s k
def L2(P:Program)(F:bf)(n:Nat)(ops:Array Oper)(o:Oper)(ih:St->(St->af α)->af α)(s:St)(k:St->af α):af α:=match Lh n o.dst with
 |true=>gate ops o s (avk P F o ih k) (rNo o.dst ih k)
 |false=>S
def eX(P:Program)(F:bf)(n:Nat)(ops:Array Oper)(l:aa Oper):St->(St->af α)->af α:=List.rec (λs k=>k s) (λo _ ih=>L2 P F n ops o ih) l
def EG(hF:iC P F){ops:Array Oper}{k:St->af α}:∀(rest:aa Oper) {s:St} {a:Act} {w:World},eX P F n ops rest s k=V r->Mt C n s a w->
  wpList P ops (λe a' w'=>e= .normal/\a'.defers=a.defers/\∃s',k s'=V r/\Mt C n s' a' w') rest a w
 |[],s,a,w,h,hm=>⟨rfl,rfl,s,h,hm⟩
 |o::rest,s,a,w,h,hm=>by
  change L2 P F n ops o (eX P F n ops rest) s k=V r at h;unfold L2 at h;split at h
  case h_2=>cases h
  rename_i hd;refine wpList_step λK' hK=> ?_;have cont:∀{s':St} {a':Act} {w':World},a'.defers=a.defers->eX P F n ops rest s' k=V r->Mt C n s' a' w'->K' a' w':=λ{s' a' w'} hda h1 h2=>hK _ _ (by
   have:=EG hF rest h1 h2;rw[hda]at this;exact this)
  obtain⟨s1,hm1,⟨hw,h1⟩|⟨hw,h1⟩⟩:=afN h hm
  ·rw[bG hw];have h1':opF o.op P F o.dst s1.E s1.R s1.nx (eX P F n ops rest) k=V r:=h1;rw[Kz]at h1';obtain⟨s2,hm2,h2⟩:=Z6 h1' hm1;unfold rDo at h2;have e2:∀s:St,aqQ P F o (eX P F n ops rest) k s=JT P F (FH s.E) (gi s.R) s.R s.nx o.op (λe=>eX P F n ops rest (s.app o.dst e) k):=λs=>by
    show mT o.op P F (FH s.E) (gi s.R) s.R s.nx (JD o.dst s.E s.R s.nx (eX P F n ops rest) k)=_;rw[Lz,ah8]
   rw[e2]at h2;have hm3:=Mt.j8 (iP s2.E o.op) hm2;exact anf (K:=λe=>eX P F n ops rest ((s2.j8 (iP s2.E o.op)).app o.dst e) k) (r:=r) hm3 hd (λE hs=>GX hF hs rfl h2) λa' w' e q1 q2 _ q4=>cont q1 q2 q4
  ·rw[bP (by rw[hw];exact Bool.false_ne_true)];cases hdst:o.dst with
   |none=>
    rw[hdst]at h1;exact cont rfl h1 hm1
   |some t=>
    rw[hdst]at h1 hd;obtain⟨E,hh,hE,hR,ρ,hag,hsim⟩:=hm1;exact cont rfl h1 ⟨(t, .lit undef)::E,hh.put t _,Env.uf hE (.lit _),hR,ρ,hag,by
     have:=hsim.put (av:= .lit undef) (v:=undef) hd (.lit _);show tF C.C n ((t,bZ.sub ρ (.lit undef))::E.sub ρ) _ _ _;rw[bV];exact this⟩
end
def InL(P:Program)(c:Code)(Q:Exit->Act->World->Prop)(a:Act)(w:World):Prop:=
 ∀(b:Frame) (k:aa Item) (cs:aa Frame),∃e a' w',Q e a' w'/\Arrives P (lone (b.at a (.inLoop c::k)) cs w) b k cs e a' w'
def G1{P:Program}{c:Code}{Q:Exit->Act->World->Prop}{a:Act}{w:World}(h:c.wp P (Exit.then (InL P c Q) Q) a w)(b:Frame)(k:aa Item)(cs:aa Frame):
  ∃e a' w',Q e a' w'/\Arrives P (lone (b.at a (.code c:: .inLoop c::k)) cs w) b k cs e a' w':=by
 obtain⟨e,a₁,w₁,hq,harr⟩:=h b (.inLoop c::k) cs;cases e with
 |normal=>
  obtain⟨e₂,a₂,w₂,hq₂,harr₂⟩:=hq b k cs;exact⟨e₂,a₂,w₂,hq₂, .of_steps harr harr₂⟩
 |exit id=>exact⟨_,a₁,w₁,hq, .pass (x:= .inLoop c) rfl (λ_ _=> .inl (by simp)) harr⟩
 |goto l=>exact⟨_,a₁,w₁,hq, .pass (x:= .inLoop c) rfl (λ_ _=> .inl (by simp)) harr⟩
 |ret=>exact⟨_,a₁,w₁,hq, .pass (x:= .inLoop c) rfl (λ_ _=> .inl (by simp)) harr⟩
 |panic ch=>exact⟨_,a₁,w₁,hq, .pass (x:= .inLoop c) rfl (λ_ _=> .inl (by simp)) harr⟩
 |outgrown=>exact⟨_,a₁,w₁,hq, .pass (x:= .inLoop c) rfl (λ_ _=> .inl (by simp)) harr⟩
def Gm{P:Program}{c:Code}{Q:Exit->Act->World->Prop}{a:Act}{w:World}(h:c.wp P (Exit.then (InL P c Q) Q) a w):(Code.loop c).wp P Q a w:=λb k cs=>
 let ⟨e,a',w',hq,harr⟩:=G1 h b k cs
 ⟨e,a',w',hq, .of_steps (.one step_loop) harr⟩
def NF{P:Program}{c:Code}{Q:Exit->Act->World->Prop}{a:Act}{w:World}(h:c.wp P (Exit.then (InL P c Q) Q) a w):InL P c Q a w:=λb k cs=>
 let ⟨e,a',w',hq,harr⟩:=G1 h b k cs
 ⟨e,a',w',hq, .of_steps (.one step_inLoop) harr⟩
section
variable {α:Type} {r:α} {P:Program} {F:bf} {C:Cx} {n:Nat}
abbrev gv(α:Type):=Exit->St->af α
def KP(k:gv α)(ih:St->af α):gv α:=λe s=>match e with
 | .normal=>ih s
 |e=>k e s
def CE(b:St->gv α->af α)(k:gv α)(m:Nat):St->af α:=Nat.rec (λ_=>S) (λ_ ih s=>b s (KP k ih)) m
def aa3(b:Bool)(t:Nat)(s:St)(x y:St->af α):af α:=match b with
 |true=>x (s.fS t O)
 |false=>y (s.fS t G)
def o4(c:Operand)(s:St)(x y:St->af α):af α:=match c with
 | .tmp t=>match cO s.E t with
  |some (.lit (.bool b))=>aa3 b t s x y
  |_=>S
 | .const (.bool O)=>x s
 | .const (.bool G)=>y s
 |_=>S
def acG(y:St->gv α->af α)(k:gv α):gv α:=λe s=>match e with
 | .normal=>y s k
 |e=>k e s
def tj(id:Nat)(k:gv α):gv α:=λe s=>match e with
 | .exit i=>match zf i id with
  |true=>k .normal s
  |false=>k (.exit i) s
 |e=>k e s
def aat(s:St)(k:gv α):af α:=k .normal s
def awu(x y:St->gv α->af α)(s:St)(k:gv α):af α:=x s (acG y k)
def aqx(c:Operand)(x y:St->gv α->af α)(s:St)(k:gv α):af α:=o4 c s (λs=>x s k) (λs=>y s k)
def ahg(id:Nat)(x:St->gv α->af α)(s:St)(k:gv α):af α:=x s (tj id k)
def aaK(fuel:Nat)(x:St->gv α->af α)(s:St)(k:gv α):af α:=CE x k fuel s
def Zv(i:Nat)(s:St)(k:gv α):af α:=k (.exit i) s
def amH(s:St)(k:gv α):af α:=k .ret s
def FJ(_:St)(_:gv α):af α:=S
def aaS(P:Program)(s:St):ResultVar->af AV
 | .tmp t=>cO s.E t
 | .cell t ty=>match cO s.E t with
  |some (.ptr id 0)=>match gi s.R id with
   |some (.box _ cs)=>match Wl P ty with
    |true=>cs[0]?
    |false=>match Ty P ty with
     |some m=>match zf cs.length m with
      |true=>V (.agg cs)
      |false=>S
     |none=>S
   |_=>S
  |_=>S
def FL(P:Program)(s:St):aa ResultVar->af (aa AV)
 |[]=>V []
 |x::xs=>match aaS P s x with
  |some d=>(FL P s xs).map λds=>d::ds
  |none=>S
def gM:aa AV->AV
 |[d]=>d
 |ds=> .iL ds
def j6:Nat->AV->aa Nat
 |_, .own id=>[id]
 |_, .ptr id _=>[id]
 |_, .ra id _ _ _=>[id]
 |n+1, .agg cs=>cs.flatMap (j6 n)
 |n+1, .iL cs=>cs.flatMap (j6 n)
 |n+1, .fn _ cs=>cs.flatMap (j6 n)
 |_,_=>[]
def dB(i:Nat):aa Nat->Bool
 |[]=>G
 |j::js=>match zf i j with
  |true=>O
  |false=>dB i js
def aD3(R:aZ)(ids:aa Nat):aa Nat:=ids.flatMap λi=>match gi R i with
 |some (.box _ cs)=>cs.flatMap (j6 3)
 |_=>[]
def reach(R:aZ):Nat->aa Nat->aa Nat
 |0,ids=>ids
 |m+1,ids=>ids++reach R m (aD3 R ids)
def Nb(nx:Nat)(ids:aa Nat)(R:aZ):aZ:=List.rec [] (λp R ih=>Bool.rec (Bool.rec ih (p::ih) (dB p.1 ids)) (p::R) (zG p.1 nx)) R
def Fl(R:aZ)(nx:Nat)(d:AV):aZ:=Nb nx (reach R 3 (j6 3 d++zM nx)) R
def Lv(R:aZ)(nx:Nat)(d:AV)(xs:aa AV):aZ:=Nb nx (reach R 3 (j6 3 d++xs.flatMap (j6 3))) R
def ND(i:Nat)(l:aa AV):ET->ET:=List.rec (λ_ T=>T) (λd _ ih i T=>ih (i+1) (mb i d T)) l i
end
end Go.Iv
end
noncomputable section
namespace Go.Iv
variable [U:ru]
open Go Go.RowKit
abbrev Fr:Type:=Nat->af AV
structure Rc where
 dst:Option Nat
 v:AV
 (sl rd wr:List Nat)
 ef:Bool
 Lo:aZ
def gV(rd:aa Nat)(R:aZ):aZ:=R.filter λp=> !dB p.1 rd
def cz(rd:aa Nat)(R:aZ):aZ:=R.filter λp=>dB p.1 rd
def Rc.F(c:Rc)(f:Fr):Fr:=λt=>if c.dst=V t then V c.v else f t
def Rc.R(c:Rc)(R:aZ):aZ:=match c.ef with
 |true=>c.Lo++gV c.wr R
 |false=>R
def gJ:aa Rc->aa Bool->Fr->Fr
 |c::cs,b::bs,f=>gJ cs bs (match b with|O=>c.F f|G=>f)
 |_,_,f=>f
def gR:aa Rc->aa Bool->aZ->aZ
 |c::cs,b::bs,R=>gR cs bs (match b with|O=>c.R R|G=>R)
 |_,_,R=>R
def fW{i:Nat}:∀{l:aa Nat},dB i l=O↔i∈l
 |[]=>by simp[dB]
 |j::js=>by
  unfold dB;cases h:zf i j with
  |true=>have:=gy h;subst this;simp
  |false=>
   have hne:i≠j:=λe=>by rw[e,Nat.beq_refl]at h;cases h
   simp only[zB,hne,false_or];exact fW
def ji{i:Nat}{l:aa Nat}:dB i l=G↔i∉l:=by
 cases h:dB i l with
 |true=>simp[fW.1 h]
 |false=>simp only[true_iff];exact λhm=>by rw[fW.2 hm]at h;cases h
structure CF (c d:Rc):Prop where
 ds:∀t,c.dst=V t->t∉d.sl/\d.dst≠V t
 sd:∀t,d.dst=V t->t∉c.sl
 rc:c.ef=O->(∀i∈c.wr,i∉d.rd)/\(∀p∈c.Lo,p.1∉d.rd)/\∀p∈c.Lo,p.1∉d.wr
 rd:d.ef=O->(∀i∈d.wr,i∉c.rd)/\(∀p∈d.Lo,p.1∉c.rd)/\∀p∈d.Lo,p.1∉c.wr
def CF.symm{c d:Rc}(h:CF c d):CF d c:=⟨λt ht=>⟨h.sd t ht,λe=>(h.ds t e).2 ht⟩,λt ht=>(h.ds t ht).1,h.rd,h.rc⟩
def aDg{c i:Rc}(h:CF c i)(R:aZ):cz i.rd (c.R R)=cz i.rd R:=by
 unfold Rc.R;cases he:c.ef with
 |false=>rfl
 |true=>
  obtain⟨h1,h2,_⟩:=h.rc he;simp only[cz,gV,y6,wk];have e1:c.Lo.filter (λp=>dB p.1 i.rd)=[]:=List.filter_eq_nil_iff.2 λp hp=>by simp[ji.2 (h2 p hp)]
  rw[e1,yw];refine wm λp _=> ?_;cases hm:dB p.1 i.rd with
  |false=>rfl
  |true=>
   have:dB p.1 c.wr=G:=ji.2 λhc=>h1 _ hc (fW.1 hm);rw[this];rfl
def aBR{c i:Rc}(h:CF c i)(f:Fr){t:Nat}(ht:t∈i.sl):c.F f t=f t:=by
 unfold Rc.F;split
 ·rename_i hd;exact dF ht (h.ds t hd).1
 ·rfl
def abU{c:Rc}{rd:aa Nat}{R R':aZ}(h:cz rd R=cz rd R'):cz rd (c.R R)=cz rd (c.R R'):=by
 unfold Rc.R;cases c.ef with
 |false=>exact h
 |true=>
  simp only[cz,gV,y6,wk]at h ⊢
  congr 1
  have e:∀R:aZ,R.filter (λp=>dB p.1 rd&& !dB p.1 c.wr)=(R.filter λp=>dB p.1 rd).filter λp=> !dB p.1 c.wr:=λR=>by
   rw[wk];exact wm λp _=>Bool.and_comm ..
  rw[e,e,h]
def Ki{i:Rc}:∀(cs:aa Rc) (bs bs':aa Bool) (f f':Fr) (R R':aZ),bs.length=cs.length->bs'.length=cs.length->
  (∀(j:Nat) c b b',cs[j]? =V c->bs[j]? =V b->bs'[j]? =V b'->b=b'\/CF c i)->
  (∀t∈i.sl,f t=f' t)->cz i.rd R=cz i.rd R'->(∀t∈i.sl,gJ cs bs f t=gJ cs bs' f' t)/\cz i.rd (gR cs bs R)=cz i.rd (gR cs bs' R')
 |[],_,_,f,f',R,R',_,_,_,h1,h2=>⟨by simpa [gJ]using h1,by simpa [gR]using h2⟩
 |c::cs,[],_,_,_,_,_,hl,_,_,_,_=>by cases hl
 |c::cs,_::_,[],_,_,_,_,_,hl,_,_,_=>by cases hl
 |c::cs,b::bs,b'::bs',f,f',R,R',hl,hl',hb,h1,h2=>by
  have h0:=hb 0 c b b' rfl rfl rfl;have hrec:=λf f' R R'=>Ki (i:=i) cs bs bs' f f' R R' (by simpa using hl) (by simpa using hl') (λj c b b' q1 q2 q3=>hb (j+1) c b b' q1 q2 q3);unfold gJ gR;refine hrec _ _ _ _ ?_ ?_
  ·intro t ht;rcases h0 with rfl|hcf
   ·cases b with
    |false=>exact h1 t ht
    |true=>show c.F f t=c.F f' t;unfold Rc.F;split<;>first|rfl|exact h1 t ht
   ·cases b<;>cases b'<;>simp only[aBR hcf _ ht]<;>exact h1 t ht
  ·rcases h0 with rfl|hcf
   ·cases b with
    |false=>exact h2
    |true=>exact abU h2
   ·cases b<;>cases b'<;>simp only[aDg hcf]<;>exact h2
def apP{c d:Rc}(h:CF c d)(f:Fr):c.F (d.F f)=d.F (c.F f):=by
 funext t
 unfold Rc.F;by_cases h1:c.dst=V t
 ·rw[bG h1,bP (h.ds t h1).2,bG h1]
 ·by_cases h2:d.dst=V t
  ·rw[bP h1,bG h2,bG h2]
  ·rw[bP h1,bP h2,bP h2,bP h1]
def aqT{c:Rc}{R R':aZ}(h:List.Perm R R'):List.Perm (c.R R) (c.R R'):=by
 unfold Rc.R;cases c.ef with
 |false=>exact h
 |true=>exact(h.filter _).append_left _
def aqo{c d:Rc}(h:CF c d)(R:aZ):List.Perm (c.R (d.R R)) (d.R (c.R R)):=by
 unfold Rc.R;cases hc:c.ef with
 |false=>cases d.ef<;>exact .refl _
 |true=>
  cases hd:d.ef with
  |false=>exact .refl _
  |true=>
   obtain⟨h1,_,h2⟩:=h.rc hc;obtain⟨h3,_,h4⟩:=h.rd hd;simp only[gV,y6,wk];have e1:d.Lo.filter (λp=> !dB p.1 c.wr)=d.Lo:=List.filter_eq_self.2 λp hp=>by simp[ji.2 (h4 p hp)]
   have e2:c.Lo.filter (λp=> !dB p.1 d.wr)=c.Lo:=List.filter_eq_self.2 λp hp=>by simp[ji.2 (h2 p hp)]
   rw[e1,e2,<-yQ,<-yQ];refine(List.perm_append_comm).append ?_;rw[show (R.filter λa=> !dB a.1 c.wr&& !dB a.1 d.wr)=R.filter λa=> !dB a.1 d.wr&& !dB a.1 c.wr from wm λp _=>Bool.and_comm ..]
def late{i:Rc}:∀(cs:aa Rc) (bs:aa Bool) (f:Fr) (R R':aZ),(∀(j:Nat) c,cs[j]? =V c->bs[j]? =V O->CF i c)->List.Perm R' (i.R R)->
  i.F (gJ cs bs f)=gJ cs bs (i.F f)/\List.Perm (i.R (gR cs bs R)) (gR cs bs R')
 |[],_,f,R,R',_,hp=>⟨rfl,hp.symm⟩
 |_::_,[],f,R,R',_,hp=>⟨rfl,hp.symm⟩
 |c::cs,b::bs,f,R,R',hb,hp=>by
  unfold gJ gR;cases b with
  |false=>exact late cs bs f R R' (λj c q1 q2=>hb (j+1) c q1 q2) hp
  |true=>
   have hcf:=hb 0 c rfl rfl;have h1:=late cs bs (c.F f) (c.R R) (c.R R') (λj c q1 q2=>hb (j+1) c q1 q2) ((aqT hp).trans (aqo hcf.symm R));refine⟨?_,h1.2⟩;rw[h1.1,apP hcf]
def FD:∀(pre:aa Rc) (bp:aa Bool) (cs:aa Rc) (bs:aa Bool) (f:Fr),bp.length=pre.length->gJ (pre++cs) (bp++bs) f=gJ cs bs (gJ pre bp f)
 |[],[],_,_,_,_=>rfl
 |_::_,[],_,_,_,h=>by cases h
 |[],_::_,_,_,_,h=>by cases h
 |c::pre,b::bp,cs,bs,f,h=>by
  show gJ (pre++cs) (bp++bs) _=_;rw[FD pre bp cs bs _ (by simpa using h)];rfl
def Ek:∀(pre:aa Rc) (bp:aa Bool) (cs:aa Rc) (bs:aa Bool) (R:aZ),bp.length=pre.length->gR (pre++cs) (bp++bs) R=gR cs bs (gR pre bp R)
 |[],[],_,_,_,_=>rfl
 |_::_,[],_,_,_,h=>by cases h
 |[],_::_,_,_,_,h=>by cases h
 |c::pre,b::bp,cs,bs,R,h=>by
  show gR (pre++cs) (bp++bs) _=_;rw[Ek pre bp cs bs _ (by simpa using h)];rfl
def Zs{cs:aa Rc}{bs:aa Bool}{i:Nat}{c:Rc}(f:Fr)(R:aZ)(hl:bs.length=cs.length)(hc:cs[i]? =V c)(hb:bs[i]? =V G)
  (hpre:∀(j:Nat) d,j<i->cs[j]? =V d->bs[j]? =V G->CF d c) (hpost:∀(j:Nat) d,i<j->cs[j]? =V d->bs[j]? =V O->CF d c):
  (∀t∈c.sl,gJ cs bs f t=gJ (cs.take i) (zk i O) f t)/\cz c.rd (gR cs bs R)=cz c.rd (gR (cs.take i) (zk i O) R)/\
  c.F (gJ cs bs f)=gJ cs (bs.set i O) f/\List.Perm (c.R (gR cs bs R)) (gR cs (bs.set i O) R):=by
 have hi:i<cs.length:=(z7.1 hc).1;have hib:i<bs.length:=by omega
 have ec:cs=cs.take i++c::cs.drop (i+1):=by
  rw[<-(z7.1 hc).2,<-xu hi,xw]
 have eb:bs=bs.take i++G::bs.drop (i+1):=by
  rw[<-(z7.1 hb).2,<-xu hib,xw]
 have lp:(bs.take i).length=(cs.take i).length:=by rw[zH,zH];omega
 have eb2:bs.set i O=bs.take i++O::bs.drop (i+1):=by
  rw[wD,bG hib]
 have hF:gJ cs bs f=gJ (cs.drop (i+1)) (bs.drop (i+1)) (gJ (cs.take i) (bs.take i) f):=by
  conv=>lhs;rw[ec,eb]
  rw[FD _ _ _ _ _ lp];rfl
 have hR:gR cs bs R=gR (cs.drop (i+1)) (bs.drop (i+1)) (gR (cs.take i) (bs.take i) R):=by
  conv=>lhs;rw[ec,eb]
  rw[Ek _ _ _ _ _ lp];rfl
 have hF2:gJ cs (bs.set i O) f=gJ (cs.drop (i+1)) (bs.drop (i+1)) (c.F (gJ (cs.take i) (bs.take i) f)):=by
  rw[eb2]
  conv=>lhs;rw[ec]
  rw[FD _ _ _ _ _ lp];rfl
 have hR2:gR cs (bs.set i O) R=gR (cs.drop (i+1)) (bs.drop (i+1)) (c.R (gR (cs.take i) (bs.take i) R)):=by
  rw[eb2]
  conv=>lhs;rw[ec]
  rw[Ek _ _ _ _ _ lp];rfl
 have hpo:∀(j:Nat) d,(cs.drop (i+1))[j]? =V d->(bs.drop (i+1))[j]? =V O->CF d c:=λj d q1 q2=>by
  rw[yB]at q1 q2;exact hpost (i+1+j) d (by omega) q1 q2
 have v2:=Ki (i:=c) (cs.drop (i+1)) (bs.drop (i+1)) (zk (cs.length-(i+1)) G) (gJ (cs.take i) (bs.take i) f) (gJ (cs.take i) (bs.take i) f) (gR (cs.take i) (bs.take i) R) (gR (cs.take i) (bs.take i) R)
  (by rw[yj,yj];omega) (by rw[xO,yj]) (λj d b b' q1 q2 q3=>by
   cases b with
   |true=>exact .inr (hpo j d q1 q2)
   |false=>
    rw[wR]at q3;split at q3
    ·cases q3;exact .inl rfl
    ·cases q3) (λt _=>rfl) rfl
 have none_F:∀(cs:aa Rc) (n:Nat) (f:Fr),gJ cs (zk n G) f=f:=λcs=>by
  induction cs with
  |nil=>intro n f;rfl
  |cons d cs ih=>
   intro n f;cases n with
   |zero=>rfl
   |succ n=>rw[yO];exact ih n f
 have none_R:∀(cs:aa Rc) (n:Nat) (R:aZ),gR cs (zk n G) R=R:=λcs=>by
  induction cs with
  |nil=>intro n f;rfl
  |cons d cs ih=>
   intro n f;cases n with
   |zero=>rfl
   |succ n=>rw[yO];exact ih n f
 have v1:=Ki (i:=c) (cs.take i) (bs.take i) (zk i O) f f R R lp (by rw[xO,zH];omega) (λj d b b' q1 q2 q3=>by
   rw[yE]at q1 q2;rw[wR]at q3;split at q1
   ·rename_i hji;rw[bG hji]at q2 q3;cases q3;cases b with
    |true=>exact .inl rfl
    |false=>exact .inr (hpre j d hji q1 q2)
   ·cases q1) (λt _=>rfl) rfl
 refine⟨λt ht=> ?_,?_,?_,?_⟩
 ·rw[hF,v2.1 t ht,none_F,v1.1 t ht]
 ·rw[hR,v2.2,none_R,v1.2]
 ·rw[hF,hF2];exact(late (i:=c) _ _ _ (gR (cs.take i) (bs.take i) R) _ (λj d q1 q2=>(hpo j d q1 q2).symm) (.refl _)).1
 ·rw[hR,hR2];exact(late (i:=c) _ _ (gJ (cs.take i) (bs.take i) f) _ _ (λj d q1 q2=>(hpo j d q1 q2).symm) (.refl _)).2
end Go.Iv
end
