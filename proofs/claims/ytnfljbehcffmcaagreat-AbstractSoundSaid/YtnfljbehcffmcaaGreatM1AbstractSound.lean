/- Merged: Iv1, Iv2, Iv3, Iv4, Iv5, Iw1, Iw0, Iv6, Iw2, Iw3, Iv10, Ivc, Iw4, Iw5, Iwn, Iv8, Iw6, Iw7, Iw8. -/
import Derived.OrdersHeld
import Derived.WalkKit
import Derived.KernelRfl
import Derived.Maps.AppendAt
import Derived.WalkLawsBesides
import Derived.Laws.Tables
import Derived.Laws.PanicsMore
import Derived.Great.BuildSlice
import Derived.Laws.MakeOwn
import Derived.Lib.SliceRun
import Derived.RangeFuncLeaves
import Derived.RangeFuncNested
import Derived.Laws.BytesArg
import Derived.Laws.StructEq
import Derived.Lib.AppendZerosOnto
import Derived.RangeFuncBound
import Derived.Shelf.Abstract
import Derived.TacticsIn
import Derived.OwnWalkIn
open Int renaming toNat_natCast → zi, natCast_mul → xo
open Nat renaming beq → zj, lt_succ_self → zC, le_refl → zI, le_trans → zJ, blt → zK, add_mul → yd, ble → yj, add_zero → yq, blt_eq → yz, le_succ → yB, zero_add → yJ, succ_mul → yM, mul_le_mul_right → yN, mod_lt → y6, eq_of_beq_eq_true → xe, mul_one → xu, lt_of_lt_of_le → wg, add_assoc → wh, le_of_ble_eq_true → wu, div_add_mod → wJ
open Bool renaming and_eq_true → zn, true → G, false → I
open List renaming mem_cons_self → zo, length_append → zq, getElem?_eq_getElem → zw, replicate → zy, all_eq_true → zA, mem_singleton → zD, mem_cons → zF, mem_cons_of_mem → zH, length_map → zL, mem_map → zN, range → zP, take_length → zR, mem_append → zV, drop_drop → zW, length_take → z6, map_congr_left → z7, getElem?_eq_some_iff → ya, getElem?_map → yb, length_set → yc, length_drop → yh, map_cons → yl, nil_append → ym, map_append → yo, map_map → yp, append_nil → yy, getElem?_drop → yA, getElem?_take → yF, nodup_append → yG, mem_append_left → yH, mem_append_right → yI, replicate_succ → yP, getElem?_append → xg, length_cons → xh, take_append_drop → xj, size_toArray → xk, getElem_append_right → xm, eq_nil_of_length_eq_zero → xp, append_assoc → xq, map_nil → xw, length_range → xC, filterMap_cons → xD, cons_append → xE, flatMap_cons → xF, getElem_append_left → xG, getElem_drop → xH, map_drop → xI, filter_append → xJ, getElem_mem → xO, mem_flatMap → xQ, map_take → xR, mem_of_mem_drop → xS, take_zero → xT, drop_eq_getElem_cons → wj, getElem_of_mem → wk, drop_zero → wm, length_replicate → wo, mem_of_mem_take → wq, filter_filter → wv, filter_congr → wz, getElem?_eq_none → wI, flatten_cons → wK, getElem_take → wL, filter_eq_nil_iff → wM, set_eq_take_append_cons_drop → wT, eraseIdx_eq_take_drop_succ → wU, eraseIdx_sublist → wV, getElem?_replicate → wW
open Option renaming map_eq_some_iff → zu, bind_eq_some_iff → zx, some → zO, bind_assoc → z8, map_some → yx, toList_some → xN, toList → xP, some → Q, none → V
open Array renaming length_toList → yt, getElem?_eq_some_iff → wH, getElem?_eq_getElem → wS
open Decidable renaming decide → O
set_option linter.unusedSectionVars false
set_option linter.unusedVariables false
set_option linter.unusedSimpArgs false
set_option linter.defProp false
abbrev Prod.t{α β γ:Type _}(z:α×β×γ):γ:=z.2.2
abbrev Prod.q{α β γ δ ε:Type _}(z:α×β×γ×δ×ε):ε:=z.2.2.2.2
abbrev ah(α:Type _):=Option α
abbrev aa(α:Type _):=List α
namespace Go
theorem bP:∀ {p:Prop} [inst:Decidable p],¬p→decide p=I:=@decide_eq_false
theorem bQ:∀ {p:Prop} [inst:Decidable p],p→decide p=G:=@decide_eq_true
theorem bz{α:Sort _}(a b:α):cond I a b=b:=rfl
theorem bC{α:Sort _}(a b:α):cond G a b=a:=rfl
theorem bt{c:Prop}{h:Decidable c}(hc:c){α:Sort _}{t e:α}:(ite c t e)=t:=if_pos hc
theorem bF{c:Prop}{h:Decidable c}(hnc:¬c){α:Sort _}{t e:α}:(ite c t e)=e:=if_neg hnc
theorem cX(h:Decidable True):@decide True h=G:=decide_true h
theorem fW(h:Decidable False):@decide False h=I:=decide_false h
theorem bZ{α:Sort _}{_:Decidable True}(t e:α):ite True t e=t:=if_true t e
theorem dA{α:Sort _}{_:Decidable False}(t e:α):ite False t e=e:=if_false t e
theorem dZ(p:Prop):(p∧p)=p:=and_self p
def cR{a:Prop}{b:Sort _}(h1:a)(h2:¬a):b:=absurd h1 h2
end Go
noncomputable section
namespace Go.Iv
open Go Go.RowKit
inductive cn (dF:Nat->Type):Type
 |lit (v:Value)
 |sl (t:Nat) (l:List (dF t))
 |fp (cs:List (cn dF))
 |rp (v:Value) (k:Nat)
 |agg (cs:List (cn dF))
 |jE (vs:List (cn dF))
 |fn (f:Fn) (caps:List (cn dF))
 |own (id:Nat)
 |ptr (id off:Nat)
 |ra (id t m off:Nat)
class sF where
 dF:Nat->Type
 inh:(t:Nat)->Inhabited (dF t)
 sz:Nat->Nat
 cells:(t:Nat)->dF t->List (cn dF)
instance [U:sF] (t:Nat):Inhabited (U.dF t):=U.inh t
abbrev AV[U:sF]:Type:=cn U.dF
variable [U:sF]
def gW:Value->ah Nat
 | .slice (Q a) _ (_+1)=>Q a.block
 |_=>V
def iD(w:World)(v:Value)(T:TypeId)(sz n:Nat)(us:aa Value):Prop:=
 us.length=n*sz/\((∃p,v= .slice p 0 0/\n=0)\/
  ∃g cap cur,v= .slice (Q ⟨g,0,V⟩) n (cap+1)/\w.heap[g]? =Q (.cells cur T (0,0))/\n<=cap+1/\cap+1<=maxLen/\cur.size=(cap+1)*sz/\cur.toList.take (n*sz)=us)
def iD.lt{w:World}{v:Value}{T:TypeId}{sz n:Nat}{us:aa Value}(h:iD w v T sz n us){b:Nat}(hb:gW v=Q b):b<w.heap.size:=by
 rcases h.2 with ⟨p,rfl,_⟩|⟨g,cap,cur,rfl,hg,_⟩
 ·cases p<;>cases hb
 ·cases hb;exact(wH.1 hg).1
def iD.kept{w w':World}{v:Value}{T:TypeId}{sz n:Nat}{us:aa Value}(h:iD w v T sz n us)(hb:∀b,gW v=Q b->w'.heap[b]? =w.heap[b]?):iD w' v T sz n us:=by
 refine⟨h.1,?_⟩;rcases h.2 with h1|⟨g,cap,cur,rfl,q1,q2⟩
 ·exact .inl h1
 ·exact .inr ⟨g,cap,cur,rfl,(hb g rfl).trans q1,q2⟩
inductive Rel (A:Nat->Prop) (w:World):AV->Value->Prop
 |lit (v:Value):Rel A w (.lit v) v
 |sl (t:Nat) (l:List (U.dF t)) (p:Option Addr) (cap:Nat) (u:Nat->Nat->Value)
   (hl:l.length<=9223372036854775807) (hcap:l.length<=cap) (hz:∀i,i<l.length->(U.cells t l[i]!).length=U.sz t)
   (hc:∀i,i<l.length->∃b off,p=Q ⟨b,off,V⟩/\b<w.heap.size/\A b/\∀j,j<U.sz t->w.cell? ⟨b,off+i*U.sz t+j,V⟩=Q (u i j))
   (hr:∀i j a,i<l.length->(U.cells t l[i]!)[j]? =Q a->Rel A w a (u i j)):Rel A w (.sl t l) (.slice p l.length cap)
 |fp (cs:List AV) (b o:Nat) (us:List Value) (hb:b<w.heap.size) (hA:A b) (hl:us.length=cs.length)
   (hc:∀j v,us[j]? =Q v->w.cell? ⟨b,o+j,V⟩=Q v) (hr:∀(j:Nat) a v,cs[j]? =Q a->us[j]? =Q v->Rel A w a v):Rel A w (.fp cs) (.pointer (Q ⟨b,o,V⟩))
 |rp (v:Value) (k g:Nat) (h:gW v=Q g):Rel A w (.rp v k) (.pointer (Q ⟨g,k,V⟩))
 |agg (cs:List AV) (us:List Value) (hl:us.length=cs.length) (hr:∀(j:Nat) a v,cs[j]? =Q a->us[j]? =Q v->Rel A w a v):Rel A w (.agg cs) (.agg us.toArray)
 |jE (cs:List AV) (us:List Value) (hl:us.length=cs.length) (hr:∀(j:Nat) a v,cs[j]? =Q a->us[j]? =Q v->Rel A w a v):Rel A w (.jE cs) (.tuple us.toArray)
 |fn (f:Fn) (cs:List AV) (us:List Value) (hl:us.length=cs.length) (hr:∀(j:Nat) a v,cs[j]? =Q a->us[j]? =Q v->Rel A w a v):Rel A w (.fn f cs) (.func f #[] us.toArray)
def Rel.mono{A A':Nat->Prop}{w w':World}{a:AV}{v:Value}(h:Rel A w a v)(hk:∀b,b<w.heap.size->A b->A' b/\w'.heap[b]? =w.heap[b]?):Rel A' w' a v:=by
 have hsz:∀b,b<w.heap.size->A b->b<w'.heap.size:=λb hb hA=>by
  have h1:=(hk b hb hA).2;rw[wS hb]at h1;exact(wH.1 h1).1
 have hcell:∀b o,b<w.heap.size->A b->w'.cell? ⟨b,o,V⟩=w.cell? ⟨b,o,V⟩:=λb o hb hA=>by
  simp[World.cell?,(hk b hb hA).2]
 induction h with
 |lit v=>exact .lit v
 |sl t l p cap u hl hcap hz hc hr ih=>
  refine .sl t l p cap u hl hcap hz (λi hi=> ?_) ih;obtain⟨b,off,h1,h2,h3,h4⟩:=hc i hi;exact⟨b,off,h1,hsz b h2 h3,(hk b h2 h3).1,λj hj=>by rw[hcell b _ h2 h3];exact h4 j hj⟩
 |fp cs b o us hb hA hl hc hr ih=>exact .fp cs b o us (hsz b hb hA) (hk b hb hA).1 hl (λj v hj=>by rw[hcell b _ hb hA];exact hc j v hj) ih
 |rp v k g h=>exact .rp v k g h
 |agg cs us hl hr ih=>exact .agg cs us hl ih
 |jE cs us hl hr ih=>exact .jE cs us hl ih
 |fn f cs us hl hr ih=>exact .fn f cs us hl ih
def bL(A:Nat->Prop)(w:World)(as0:aa AV)(us:aa Value):Prop:=us.length=as0.length/\∀(j:Nat) a v,as0[j]? =Q a->us[j]? =Q v->Rel A w a v
def bL.mono{A A':Nat->Prop}{w w':World}{as0:aa AV}{us:aa Value}(h:bL A w as0 us)(hk:∀b,b<w.heap.size->A b->A' b/\w'.heap[b]? =w.heap[b]?):bL A' w' as0 us:=⟨h.1,λj a v h1 h2=>(h.2 j a v h1 h2).mono hk⟩
def Rel.cM{A:Nat->Prop}{w:World}{u v:Value}(h:Rel A w (.lit u) v):v=u:=by
 generalize ha:cn.lit u=a at h;cases h with
 |lit v=>cases ha;rfl
 |_=>cases ha
def Blk(w:World)(b:Nat)(cs:Array Value)(T:TypeId):Prop:=w.heap[b]? =Q (.cells cs T (0,0))
def Blk.lt{w:World}{b:Nat}{cs:Array Value}{T:TypeId}(h:Blk w b cs T):b<w.heap.size:=(wH.1 h).1
def Blk.cell{w:World}{b:Nat}{cs:Array Value}{T:TypeId}(h:Blk w b cs T){i:Nat}{v:Value}(hv:cs[i]? =Q v):w.cell? ⟨b,i,V⟩=Q v:=by
 unfold Blk at h;simp[World.cell?,h,hv]
inductive cK:Type
 |box (b:Nat) (T:TypeId) (cs:List AV)
 |row (v:Value) (t:Nat) (l:List (U.dF t))
def cK.blk:cK->ah Nat
 | .box b _ _=>Q b
 | .row v _ _=>gW v
def cK.ok(A:Nat->Prop)(w:World):cK->Prop
 | .box b T cs=>∃us:aa Value,Blk w b us.toArray T/\bL A w cs us
 | .row v t l=>∃us:aa Value,iD w v t (U.sz t) l.length us/\(∀i,i<l.length->(U.cells t l[i]!).length=U.sz t)/\∀i,i<l.length->bL A w (U.cells t l[i]!) ((us.drop (i*U.sz t)).take (U.sz t))
def bH(σ:aa cK):aa Nat:=σ.filterMap cK.blk
def bS{σ:aa cK}{b:Nat}:b∈bH σ↔∃r∈σ,r.blk=Q b:=by simp[bH]
def cK.ok.lt{A:Nat->Prop}{w:World}{r:cK}(h:r.ok A w){b:Nat}(hb:r.blk=Q b):b<w.heap.size:=by
 cases r with
 |box b' T cs=>obtain⟨us,h1,_⟩:=h;cases hb;exact h1.lt
 |row v t l=>obtain⟨us,h1,_⟩:=h;exact h1.lt hb
def cK.ok.mono{A A':Nat->Prop}{w w':World}{r:cK}(h:r.ok A w)(hk:∀b,b<w.heap.size->A b->A' b/\w'.heap[b]? =w.heap[b]?)(hb:∀b,r.blk=Q b->w'.heap[b]? =w.heap[b]?):r.ok A' w':=by
 cases r with
 |box b T cs=>
  obtain⟨us,h1,h2⟩:=h;exact⟨us,(hb b rfl).trans h1,h2.mono hk⟩
 |row v t l=>
  obtain⟨us,h1,h2,h3⟩:=h;exact⟨us,h1.kept hb,h2,λi h4=>(h3 i h4).mono hk⟩
structure Kp (X:List Nat) (w w':World):Prop where
 os:w'.os=w.os
 tape:w'.tape=w.tape
 output:w'.output=w.output
 size:w.heap.size<=w'.heap.size
 block:∀k,k<w.heap.size->k∉X->w'.heap[k]? =w.heap[k]?
def Kp.refl(X:aa Nat)(w:World):Kp X w w:=⟨rfl,rfl,rfl,zI _,λ_ _ _=>rfl⟩
def Kp.trans{X Y:aa Nat}{w w1 w2:World}(h:Kp X w w1)(h':Kp Y w1 w2)(hY:∀b,b∈Y->b<w.heap.size->b∈X):Kp X w w2:=
 ⟨h'.os.trans h.os,h'.tape.trans h.tape,h'.output.trans h.output,zJ h.size h'.size,λk hk hX=>
  (h'.block k (wg hk h.size) (λhy=>hX (hY k hy hk))).trans (h.block k hk hX)⟩
def Kp.drew(w:World):Kp [] w w.drew:=⟨rfl,rfl,rfl,zI _,λ_ _ _=>rfl⟩
def Kp.below{w w':World}(h:Kp [] w w'):Below w.heap.size w w':=⟨h.os,h.tape,h.output,h.size,λk hk=>h.block k hk (by simp)⟩
structure Cx where
 w0:World
 A0:Nat->Prop
 O0:List Nat
def al(C:Cx)(σ:aa cK)(b:Nat):Prop:=(C.A0 b\/b∈C.O0\/C.w0.heap.size<=b)/\b∉bH σ
structure Good (C:Cx) (σ:List cK) (w:World):Prop where
 kept:Kp C.O0 C.w0 w
 res:∀r∈σ,r.ok (al C σ) w
 F9:(bH σ).Nodup
 own:∀b∈bH σ,b∈C.O0\/C.w0.heap.size<=b
structure Tr (C:Cx) (X:List Nat) (σ:List cK) (w:World) (σ':List cK) (w':World):Prop where
 good:Good C σ' w'
 kp:Kp X w w'
 al:∀b,b<w.heap.size->al C σ b->al C σ' b/\b∉X
def Tr.keep{C:Cx}{X:aa Nat}{σ σ':aa cK}{w w':World}(t:Tr C X σ w σ' w'):∀b,b<w.heap.size->Iv.al C σ b->Iv.al C σ' b/\w'.heap[b]? =w.heap[b]? :=
 λb hb h=>⟨(t.al b hb h).1,t.kp.block b hb (t.al b hb h).2⟩
abbrev Env:=aa (Nat×AV)
def Env.get:Env->Nat->ah AV
 |[],_=>V
 |(k,v)::E,t=>match zj k t with
  |true=>Q v
  |false=>Env.get E t
def Env.ev(E:Env):Operand->ah AV
 | .tmp t=>Env.get E t
 | .const v=>Q (.lit v)
 | .global g=>Q (.lit (.pointer (Q ⟨g,0,V⟩)))
 | .func f=>Q (.fn (.func f) [])
def Env.fq(E:Env)(d:Nat)(v:AV):Env.get ((d,v)::E) d=Q v:=by
 have h:zj d d=G:=Nat.beq_refl d;simp only[Env.get,h]
def Env.dX(E:Env){d t:Nat}(v:AV)(h:d≠t):Env.get ((d,v)::E) t=Env.get E t:=by
 have h':zj d t=I:=by
  cases hb:zj d t with
  |false=>rfl
  |true=>exact cR (xe hb) h
 simp only[Env.get,h']
def lu(A:Nat->Prop)(w:World)(E:Env)(tmps:Array Value):Prop:=∀t av,Env.get E t=Q av->∃v,tmps[t]? =Q v/\Rel A w av v
def Dq(C:Cx)(σ:aa cK)(a:Act)(w:World):Prop:=∃Ds:aa Nat,a.defers=Ds.map (λD=>{target:= .collected D,args:=#[]})/\Ds.Nodup/\
 ∀D∈Ds,D<w.heap.size/\C.w0.heap.size<=D/\D∉bH σ/\w.heap[D]? =Q (.deferred (Q []))
def Dq.nil{C:Cx}{σ:aa cK}{a:Act}{w:World}(h:a.defers=[]):Dq C σ a w:=⟨[],h,List.nodup_nil,λ_ h=>by cases h⟩
def Dq.step{C:Cx}{σ σ':aa cK}{a:Act}{w w':World}(h:Dq C σ a w)(hk:∀b,b<w.heap.size->al C σ b->al C σ' b/\w'.heap[b]? =w.heap[b]?):Dq C σ' a w':=by
 obtain⟨Ds,h1,h2,h3⟩:=h;refine⟨Ds,h1,h2,λD hD=> ?_⟩;obtain⟨q1,q2,q3,q4⟩:=h3 D hD;obtain⟨p1,p2⟩:=hk D q1 ⟨.inr (.inr q2),q3⟩;have p3:=p2.trans q4;exact⟨(wH.1 p3).1,q2,p1.2,p3⟩
structure tM (C:Cx) (n:Nat) (E:Env) (σ:List cK) (a:Act) (w:World):Prop where
 defers:Dq C σ a w
 size:a.tmps.size=n
 slots:lu (al C σ) w E a.tmps
 good:Good C σ w
def MO(A:Nat->Prop)(w:World)(E:Env)(ρ:Operand->Value):Prop:=∀x u,E.ev x=Q u->Rel A w u (ρ x)
section
variable {C:Cx} {n:Nat} {E E':Env} {σ σ':aa cK} {a:Act} {w w':World} {x:Operand} {v:Value} {av:AV} {d:Nat} {A:Nat->Prop}
def lu.ops(h:lu A w E a.tmps):MO A w E a.eval:=λx u hx=>by
 cases x with
 |tmp t=>
  obtain⟨v,h1,h2⟩:=h t u hx;simpa [Act.eval,h1]using h2
 |const u=>
  simp only[Env.ev,zO.injEq]at hx;subst hx;exact .lit _
 |global g=>
  simp only[Env.ev,zO.injEq]at hx;subst hx;exact .lit _
 |func f=>
  simp only[Env.ev,zO.injEq]at hx;subst hx;exact .fn _ [] [] rfl (λj a v h=>by cases h)
def lu.put(h:lu A w E a.tmps)(hd:d<a.tmps.size)(hv:Rel A w av v):lu A w ((d,av)::E) (a.put (Q d) v).tmps:=λt u ht=>by
 by_cases hdt:d=t
 ·subst hdt;rw[Env.fq]at ht;cases ht;exact⟨v,by simp[Act.put,hd],hv⟩
 ·rw[Env.dX _ _ hdt]at ht;obtain⟨v',h1,h2⟩:=h t u ht;exact⟨v',by simp[Act.put,Array.getElem?_setIfInBounds_ne hdt,h1],h2⟩
def tM.put(h:tM C n E σ a w)(hd:zK d n=G)(hv:Rel (al C σ) w av v):tM C n ((d,av)::E) σ (a.put (Q d) v) w:=
 ⟨h.defers,by simpa [Act.put]using h.size,h.slots.put (by rw[h.size];simpa [yz]using hd) hv,h.good⟩
def tM.tr{X:aa Nat}(h:tM C n E σ a w)(t:Tr C X σ w σ' w'):tM C n E σ' a w':=
 ⟨h.defers.step t.keep,h.size,λi u hi=>let ⟨v,h1,h2⟩:=h.slots i u hi;⟨v,h1,h2.mono t.keep⟩,t.good⟩
end
def Hd(A:Nat->Prop)(σ:aa cK)(w:World):Prop:=(∀r∈σ,r.ok A w)/\∀b∈bH σ,¬A b
def Good.hd{C:Cx}{σ:aa cK}{w:World}(h:Good C σ w):Hd (al C σ) σ w:=⟨h.res,λ_ hb hA=>hA.2 hb⟩
section
variable (P:Program) (E:Env) (σ:aa cK) (o:Oper)
def Yp(av:AV):Prop:=∀(A:Nat->Prop) (w:World) (ρ:Operand->Value),Hd A σ w->MO A w E ρ->
 ∃v,Rel A w av v/\∀w':World,(∀b,b<w.heap.size->(A b\/b∈bH σ)->w'.heap[b]? =w.heap[b]?)->(execOp ρ o).run P w'= .ok (.value v) w'
def Yv(C:Cx)(X:aa Nat)(N:AV->aa cK->Prop):Prop:=∀(w:World) (ρ:Operand->Value),Good C σ w->MO (al C σ) w E ρ->
 ∃v w' av σ',N av σ'/\Tr C X σ w σ' w'/\(execOp ρ o).run P w= .ok (.value v) w'/\Rel (al C σ') w' av v
def Yu(C:Cx)(X:aa Nat)(σ':aa cK):Prop:=∀(w:World) (ρ:Operand->Value),Good C σ w->MO (al C σ) w E ρ->
 ∃w',Tr C X σ w σ' w'/\(execOp ρ o).run P w= .ok .skip w'
def Yc(C:Cx)(X:aa Nat)(N:AV->aa cK->Prop):Prop:=∀(w:World) (ρ:Operand->Value),Good C σ w->MO (al C σ) w E ρ->
 ∃f args,(execOp ρ o).run P w= .ok (.enter f args) w/\Calls P f args w λe w'=>∃v av σ',e= .returned v/\N av σ'/\Tr C X σ w σ' w'/\Rel (al C σ') w' av v
def oY(ops:Array Oper):ah Bool:=
 match o.guard with
 |none=>Q G
 |some (j,want)=>match (ops[j]?).bind (·.dst)with
  |none=>V
  |some t=>match Env.get E t with
   |some (.lit (.bool b))=>Q (b==want)
   |some (.lit (.tuple _))=>Q I
   |_=>V
end
def oY.spec{A:Nat->Prop}{w:World}{E:Env}{o:Oper}{ops:Array Oper}{tmps:Array Value}{b:Bool}(h:lu A w E tmps)(hw:oY E o ops=Q b):Region.wanted o (yielded ops tmps)=b:=by
 unfold oY at hw;unfold Region.wanted;cases hg:o.guard with
 |none=>rw[hg]at hw;simpa using hw
 |some gw=>
  obtain⟨j,want⟩:=gw;rw[hg]at hw;simp only at hw ⊢;cases ht:(ops[j]?).bind (·.dst)with
  |none=>rw[ht]at hw;cases hw
  |some t=>
   rw[ht]at hw;simp only at hw;cases he:Env.get E t with
   |none=>rw[he]at hw;cases hw
   |some u=>
    obtain⟨v,hv,hr⟩:=h t u he;rw[he]at hw;have hy:yielded ops tmps j=match v with| .bool b=>Q b|_=>V:=by
     unfold yielded;rw[ht];simp only[Option.bind_some,hv];cases v<;>rfl
    cases u with
    |lit u=>
     have hvu:=hr.cM;subst hvu;cases v<;>simp only at hw hy<;>first|(cases hw;done)|skip
     ·rw[hy];simpa using hw
     ·rw[hy];simp at hw;simp[<-hw]
    |_=>cases hw
def Q1(C:Cx)(n:Nat)(K:Env->aa cK->Prop)(ds:aa Deferred):Exit->Act->World->Prop:=λe a w=>e= .normal/\a.defers=ds/\∃E σ,tM C n E σ a w/\K E σ
section
variable {P:Program} {C:Cx} {n:Nat} {ops:Array Oper} {K:Env->aa cK->Prop} {rest:aa Oper} {E E':Env} {σ σ':aa cK} {o:Oper} {av:AV} {d:Nat} {X:aa Nat} {N:AV->aa cK->Prop}
end
structure Bs (X:List Nat) (A1:Nat->Prop) (w1:World) (σS:List cK):Prop where
 hd:Hd A1 σS w1
 nA:∀b,A1 b->b∉X
 nS:∀b∈bH σS,b∉X
section
variable {P:Program} {C:Cx} {n:Nat} {ops:Array Oper} {X X':aa Nat} {A1:Nat->Prop} {w1:World} {σS:aa cK} {K:Env->aa cK->Prop} {fuel:Nat} {listed:Array Bool} {i:Nat} {Eb E:Env} {σ σ':aa cK} {o:Oper} {av:AV} {d:Nat} {N:AV->aa cK->Prop}
end
def CW(P:Program)(C:Cx)(n:Nat)(c:Code)(zh:Exit->Env->aa cK->Prop)(E:Env)(σ:aa cK):Prop:=
 ∀a w,tM C n E σ a w->c.wp P (λe a' w'=>∃E' σ',tM C n E' σ' a' w'/\zh e E' σ') a w
section
variable {P:Program} {C:Cx} {n:Nat} {c x y:Code} {zh Q':Exit->Env->aa cK->Prop} {E E':Env} {σ σ':aa cK}
def SP{a:Act}{w:World}{ZN:Operand}{b:Bool}(ha:tM C n E σ a w)(hc:E.ev ZN=Q (.lit (.bool b))):a.eval ZN= .bool b:=by
 exact(ha.slots.ops _ _ hc).cM
def Good.drew{w:World}(h:Good C σ w):Good C σ w.drew:=
 ⟨h.kept.trans (Kp.drew w) (by simp),λr hr=>(h.res r hr).mono (λb _ hA=>⟨hA,rfl⟩) (λ_ _=>rfl),h.F9,h.own⟩
def tM.drew{a:Act}{w:World}(h:tM C n E σ a w):tM C n E σ a w.drew:=
 ⟨h.defers,h.size,λi u hi=>let ⟨v,h1,h2⟩:=h.slots i u hi;⟨v,h1,h2.mono λ_ _ hA=>⟨hA,rfl⟩⟩,h.good.drew⟩
def qR{σ σ':aa cK}(h:∀r∈σ',r∈σ):∀b∈bH σ',b∈bH σ:=λb hb=>by
 obtain⟨r,h1,h2⟩:=bS.1 hb;exact bS.2 ⟨r,h r h1,h2⟩
def tM.less{a:Act}{w:World}(h:tM C n E σ a w)(hs:List.Sublist σ' σ):tM C n E σ' a w:=by
 have hm:∀r∈σ',r∈σ:=λr hr=>hs.subset hr;have hal:∀b,al C σ b->al C σ' b:=λb hb=>⟨hb.1,λhx=>hb.2 (qR hm b hx)⟩;exact⟨h.defers.step (λb _ hA=>⟨hal b hA,rfl⟩),h.size,λi u hi=>let ⟨v,h1,h2⟩:=h.slots i u hi;⟨v,h1,h2.mono λb _ hA=>⟨hal b hA,rfl⟩⟩,
  ⟨h.good.kept,λr hr=>(h.good.res r (hm r hr)).mono (λb _ hA=>⟨hal b hA,rfl⟩) (λ_ _=>rfl),h.good.F9.sublist (hs.filterMap _),λb hb=>h.good.own b (qR hm b hb)⟩⟩
def tM.perm{a:Act}{w:World}(h:tM C n E σ a w)(hp:List.Perm σ σ'):tM C n E σ' a w:=by
 have hb:∀b,b∈bH σ'↔b∈bH σ:=λb=>(hp.filterMap _).symm.mem_iff;have hal:∀b,al C σ b->al C σ' b:=λb hA=>⟨hA.1,λhx=>hA.2 ((hb b).1 hx)⟩;exact⟨h.defers.step (λb _ hA=>⟨hal b hA,rfl⟩),h.size,λi u hi=>let ⟨v,h1,h2⟩:=h.slots i u hi;⟨v,h1,h2.mono λb _ hA=>⟨hal b hA,rfl⟩⟩,
  ⟨h.good.kept,λr hr=>(h.good.res r (hp.mem_iff.2 hr)).mono (λb _ hA=>⟨hal b hA,rfl⟩) (λ_ _=>rfl),(hp.filterMap _).nodup_iff.1 h.good.F9,λb hx=>h.good.own b ((hb b).1 hx)⟩⟩
end
end Go.Iv
end
noncomputable section
namespace Go.Iv
variable [U:sF]
open Go Go.RowKit
def tA(k:IntKind)(x y:Int):Int:=k.wrap ((BitVec.ofInt k.bits x&&&BitVec.ofInt k.bits y).toNat)
def ZR(k:IntKind)(x y:Int):Int:=k.wrap ((BitVec.ofInt k.bits x|||BitVec.ofInt k.bits y).toNat)
def ajI(k:IntKind)(x y:Int):Int:=k.wrap ((BitVec.ofInt k.bits x^^^BitVec.ofInt k.bits y).toNat)
def ajy(k:IntKind)(x y:Int):Int:=k.wrap ((BitVec.ofInt k.bits x&&& ~~~ BitVec.ofInt k.bits y).toNat)
def mD(k:IntKind)(x y:Int):Int:=k.wrap (x*2^(min y.toNat k.bits))
def dh(k:IntKind)(x y:Int):Int:=x.fdiv (2^(min y.toNat k.bits))
abbrev cn.i{dF:Nat->Type}(n:Int):cn dF:= .lit (.int .i64 n)
abbrev cn.n{dF:Nat->Type}(k:IntKind)(n:Int):cn dF:= .lit (.int k n)
abbrev cn.b{dF:Nat->Type}(b:Bool):cn dF:= .lit (.bool b)
abbrev cn.s{dF:Nat->Type}(s:ByteArray):cn dF:= .lit (.string s)
section
variable {A:Nat->Prop} {w:World} {as0 bs:aa AV} {us vs:aa Value} {a:AV} {v:Value}
def bL.nil:bL A w [] []:=⟨rfl,λj a v h=>by cases h⟩
def bL.cons(h:Rel A w a v)(hs:bL A w as0 us):bL A w (a::as0) (v::us):=by
 refine⟨by simp[hs.1],λj x y h1 h2=> ?_⟩;cases j with
 |zero=>simp at h1 h2;subst h1 h2;exact h
 |succ j=>exact hs.2 j x y (by simpa using h1) (by simpa using h2)
def bL.head(h:bL A w (a::as0) us):∃v us',us=v::us'/\Rel A w a v/\bL A w as0 us':=by
 match us,h with
 |[],h=>exact cR h.1 (by simp)
 |v::us',h=>exact⟨v,us',rfl,h.2 0 a v rfl rfl,by simpa using h.1,λj x y h1 h2=>h.2 (j+1) x y (by simpa using h1) (by simpa using h2)⟩
def bL.app(h:bL A w as0 us)(h':bL A w bs vs):bL A w (as0++bs) (us++vs):=by
 refine⟨by simp[h.1,h'.1],λj x y h1 h2=> ?_⟩;rw[xg]at h1 h2;rw[h.1]at h2;split at h1
 ·rw[bt (by assumption)]at h2;exact h.2 j x y h1 h2
 ·rw[bF (by assumption)]at h2;exact h'.2 _ x y h1 h2
def bL.take(n:Nat)(h:bL A w as0 us):bL A w (as0.take n) (us.take n):=by
 refine⟨by simp[h.1],λj x y h1 h2=> ?_⟩;rw[yF]at h1 h2;split at h1
 ·rw[bt (by assumption)]at h2;exact h.2 j x y h1 h2
 ·cases h1
def bL.drop(n:Nat)(h:bL A w as0 us):bL A w (as0.drop n) (us.drop n):=by
 refine⟨by simp[h.1],λj x y h1 h2=> ?_⟩;rw[yA]at h1 h2;exact h.2 _ x y h1 h2
def bL.get(h:bL A w as0 us){j:Nat}(hj:as0[j]? =Q a):∃v,us[j]? =Q v/\Rel A w a v:=by
 have hlt:j<us.length:=by rw[h.1];exact(ya.1 hj).1
 exact⟨us[j],zw hlt,h.2 j a _ hj (zw hlt)⟩
def bL.lits(us:aa Value):bL A w (us.map .lit) us:=⟨by simp,λj a v h1 h2=>by
 rw[yb,h2]at h1;cases h1;exact .lit v⟩
def Rel.oO{cs:aa AV}(h:bL A w cs us):Rel A w (.agg cs) (.agg us.toArray):= .agg cs us h.1 h.2
def Rel.Fy{cs:aa AV}(h:bL A w cs us):Rel A w (.jE cs) (.tuple us.toArray):= .jE cs us h.1 h.2
end
section
variable {A:Nat->Prop} {w:World} {v:Value} {cs:aa AV}
def Rel.nZ(h:Rel A w (.agg cs) v):∃us:aa Value,v= .agg us.toArray/\bL A w cs us:=by
 generalize ha:cn.agg cs=a at h;cases h with
 |agg cs us hl hr=>cases ha;exact⟨us,rfl,hl,hr⟩
 |_=>cases ha
def Rel.NL(h:Rel A w (.jE cs) v):∃us:aa Value,v= .tuple us.toArray/\bL A w cs us:=by
 generalize ha:cn.jE cs=a at h;cases h with
 |jE cs us hl hr=>cases ha;exact⟨us,rfl,hl,hr⟩
 |_=>cases ha
def Rel.Yz{f:Fn}(h:Rel A w (.fn f cs) v):∃us:aa Value,v= .func f #[] us.toArray/\bL A w cs us:=by
 generalize ha:cn.fn f cs=a at h;cases h with
 |fn f cs us hl hr=>cases ha;exact⟨us,rfl,hl,hr⟩
 |_=>cases ha
def Rel.En(h:Rel A w (.fp cs) v):∃b o us,v= .pointer (Q ⟨b,o,V⟩)/\b<w.heap.size/\A b/\(∀(j:Nat) u,us[j]? =Q u->w.cell? ⟨b,o+j,V⟩=Q u)/\bL A w cs us:=by
 generalize ha:cn.fp cs=a at h;cases h with
 |fp cs b o us hb hA hl hc hr=>cases ha;exact⟨b,o,us,rfl,hb,hA,hc,hl,hr⟩
 |_=>cases ha
def Rel.GQ{u:Value}{k:Nat}(h:Rel A w (.rp u k) v):∃g,gW u=Q g/\v= .pointer (Q ⟨g,k,V⟩):=by
 generalize ha:cn.rp u k=a at h;cases h with
 |rp u k g h=>cases ha;exact⟨g,h,rfl⟩
 |_=>cases ha
def Rel.tY{q:Nat}{l:aa (U.dF q)}(h:Rel A w (.sl q l) v):∃p cap,∃u:Nat->Nat->Value,v= .slice p l.length cap/\l.length<=9223372036854775807/\l.length<=cap/\(∀i,i<l.length->(U.cells q l[i]!).length=(U.sz q))/\
  (∀i,i<l.length->∃b off,p=Q ⟨b,off,V⟩/\b<w.heap.size/\A b/\∀j,j<(U.sz q)->w.cell? ⟨b,off+i*(U.sz q)+j,V⟩=Q (u i j))/\∀i j a,i<l.length->(U.cells q l[i]!)[j]? =Q a->Rel A w a (u i j):=by
 generalize ha:cn.sl q l=a at h;cases h with
 |sl q l p cap u hl hcap hz hc hr=>
  cases ha;exact⟨p,cap,u,rfl,hl,hcap,hz,hc,hr⟩
 |_=>cases ha
def Rel.auT{q:Nat}{l:aa (U.dF q)}{p:ah Addr}{n cap:Nat}(h:Rel A w (.sl q l) (.slice p n cap)){i:Nat}(hi:i<l.length):
  ∃b off us,p=Q ⟨b,off,V⟩/\b<w.heap.size/\A b/\us.length=(U.sz q)/\(∀(j:Nat) u,us[j]? =Q u->w.cell? ⟨b,off+i*(U.sz q)+j,V⟩=Q u)/\bL A w (U.cells q l[i]!) us:=by
 obtain⟨p',cap',u,hv,_,_,h1,h2,h3⟩:=h.tY;cases hv;obtain⟨b,off,hp,hb,hA,hc⟩:=h2 i hi;refine⟨b,off,(zP (U.sz q)).map (u i),hp,hb,hA,by simp,λj v hj=> ?_,by rw[zL,xC,h1 i hi],λj a v ha hv=> ?_⟩
 ·rw[yb]at hj;by_cases hlt:j<(U.sz q)
  ·rw[List.getElem?_range hlt]at hj;cases hj;exact hc j hlt
  ·rw[wI (by simpa using hlt)]at hj;cases hj
 ·have hlt:j<(U.sz q):=by rw[<-h1 i hi];exact(ya.1 ha).1
  rw[yb,List.getElem?_range hlt]at hv;cases hv;exact h3 i j a hi ha
end
def iD.len{w:World}{v:Value}{T:TypeId}{sz n:Nat}{us:aa Value}(h:iD w v T sz n us):∃p cap,v= .slice p n cap/\n<=cap:=by
 rcases h.2 with ⟨p,rfl,rfl⟩|⟨g,cap,cur,rfl,hg,h1,_⟩
 ·exact⟨p,0,rfl,zI _⟩
 ·exact⟨_,_,rfl,h1⟩
def iD.at{w:World}{v:Value}{T:TypeId}{sz n:Nat}{us:aa Value}(h:iD w v T sz n us)(hn:0<n):∃g cap cur,v= .slice (Q ⟨g,0,V⟩) n (cap+1)/\gW v=Q g/\Blk w g cur T/\n<=cap+1/\cap+1<=maxLen/\cur.size=(cap+1)*sz/\cur.toList.take (n*sz)=us:=by
 rcases h.2 with ⟨p,rfl,rfl⟩|⟨g,cap,cur,rfl,hg,h1⟩
 ·cases hn
 ·exact⟨g,cap,cur,rfl,rfl,hg,h1⟩
def iD.cells{w:World}{v:Value}{T:TypeId}{sz n:Nat}{us:aa Value}(h:iD w v T sz n us){g:Nat}(hg:gW v=Q g):∀(j:Nat) u,us[j]? =Q u->w.cell? ⟨g,j,V⟩=Q u:=λj u hj=>by
 rcases h.2 with ⟨p,rfl,rfl⟩|⟨g',cap,cur,rfl,q1,_,_,_,q2⟩
 ·cases p<;>cases hg
 ·cases hg;rw[<-q2,yF]at hj;split at hj
  ·exact Blk.cell q1 (by simpa using hj)
  ·cases hj
def Env.KM(E:Env):aa Operand->ah (aa AV)
 |[]=>Q []
 |x::xs=>match E.ev x,Env.KM E xs with
  |some a,Q as0=>Q (a::as0)
  |_,_=>V
def Env.HN{A:Nat->Prop}{w:World}{E:Env}{ρ:Operand->Value}(h:MO A w E ρ):∀{xs:aa Operand} {as0:aa AV},E.KM xs=Q as0->bL A w as0 (xs.map ρ)
 |[],as0,he=>by cases he;exact bL.nil
 |x::xs,as0,he=>by
  unfold Env.KM at he;cases h1:E.ev x with
  |none=>rw[h1]at he;cases he
  |some a=>
   cases h2:E.KM xs with
   |none=>rw[h1,h2]at he;cases he
   |some as'=>
    rw[h1,h2]at he;cases he;exact bL.cons (h x a h1) (Env.HN h h2)
section
variable {P:Program} {E:Env} {σ:aa cK} {o:Oper} {T T' e:TypeId} {x y z:Operand} {av bv:AV} {v u:Value} {m n:Int} {b:Bool} {k:IntKind}
def Yp.lits(h:∀ρ:Operand->Value,(∀x u,E.ev x=Q (.lit u)->ρ x=u)->∀w,(execOp ρ o).run P w= .ok (.value v) w):Yp P E σ o (.lit v):=λA w ρ _ hρ=>
 ⟨v, .lit v,λw' _=>h ρ (λx u hx=>(hρ x _ hx).cM) w'⟩
def Yp.move(ho:o.op= .move x)(hx:E.ev x=Q av):Yp P E σ o av:=λA w ρ _ hρ=>
 ⟨ρ x,hρ _ _ hx,λw' _=>by simp[execOp,ho]⟩
def Yp.assign(ho:o.op= .assign x)(hx:E.ev x=Q av):Yp P E σ o av:=λA w ρ _ hρ=>
 ⟨ρ x,hρ _ _ hx,λw' _=>by simp[execOp,ho]⟩
def Yp.aqc(ho:o.op= .pick z x y)(hc:E.ev z=Q (.b G))(hx:E.ev x=Q av):Yp P E σ o av:=λA w ρ _ hρ=>
 ⟨ρ x,hρ _ _ hx,λw' _=>by simp[execOp,ho,(hρ _ _ hc).cM,asBool]⟩
def Yp.arM(ho:o.op= .pick z x y)(hc:E.ev z=Q (.b I))(hx:E.ev y=Q av):Yp P E σ o av:=λA w ρ _ hρ=>
 ⟨ρ y,hρ _ _ hx,λw' _=>by simp[execOp,ho,(hρ _ _ hc).cM,asBool]⟩
def Yp.add(ho:o.op= .binOp .add T x y T')(hx:E.ev x=Q (.n k m))(hy:E.ev y=Q (.n k n)):Yp P E σ o (.n k (k.wrap (m+n))):=Yp.lits λρ hρ w=>by
 simp[execOp,ho,hρ _ _ hx,hρ _ _ hy,eqGuard,binOp,Op.intArith]
def Yp.sub(ho:o.op= .binOp .sub T x y T')(hx:E.ev x=Q (.n k m))(hy:E.ev y=Q (.n k n)):Yp P E σ o (.n k (k.wrap (m-n))):=Yp.lits λρ hρ w=>by
 simp[execOp,ho,hρ _ _ hx,hρ _ _ hy,eqGuard,binOp,Op.intArith]
def Yp.mul(ho:o.op= .binOp .mul T x y T')(hx:E.ev x=Q (.n k m))(hy:E.ev y=Q (.n k n)):Yp P E σ o (.n k (k.wrap (m*n))):=Yp.lits λρ hρ w=>by
 simp[execOp,ho,hρ _ _ hx,hρ _ _ hy,eqGuard,binOp,Op.intArith]
def Yp.quo(ho:o.op= .binOp .quo T x y T')(hx:E.ev x=Q (.n k m))(hy:E.ev y=Q (.n k n))(h:n≠0):Yp P E σ o (.n k (k.wrap (m.tdiv n))):=Yp.lits λρ hρ w=>by
 simp[execOp,ho,hρ _ _ hx,hρ _ _ hy,eqGuard,binOp,Op.intDiv,h]
def Yp.rem(ho:o.op= .binOp .rem T x y T')(hx:E.ev x=Q (.n k m))(hy:E.ev y=Q (.n k n))(h:n≠0):Yp P E σ o (.n k (m.tmod n)):=Yp.lits λρ hρ w=>by
 simp[execOp,ho,hρ _ _ hx,hρ _ _ hy,eqGuard,binOp,Op.intDiv,h]
def Yp.and(ho:o.op= .binOp .and T x y T')(hx:E.ev x=Q (.n k m))(hy:E.ev y=Q (.n k n)):Yp P E σ o (.n k (tA k m n)):=Yp.lits λρ hρ w=>by
 simp[execOp,ho,hρ _ _ hx,hρ _ _ hy,eqGuard,binOp,Op.intBits,tA]
def Yp.or(ho:o.op= .binOp .or T x y T')(hx:E.ev x=Q (.n k m))(hy:E.ev y=Q (.n k n)):Yp P E σ o (.n k (ZR k m n)):=Yp.lits λρ hρ w=>by
 simp[execOp,ho,hρ _ _ hx,hρ _ _ hy,eqGuard,binOp,Op.intBits,ZR]
def Yp.xor(ho:o.op= .binOp .xor T x y T')(hx:E.ev x=Q (.n k m))(hy:E.ev y=Q (.n k n)):Yp P E σ o (.n k (ajI k m n)):=Yp.lits λρ hρ w=>by
 simp[execOp,ho,hρ _ _ hx,hρ _ _ hy,eqGuard,binOp,Op.intBits,ajI]
def Yp.andNot(ho:o.op= .binOp .andNot T x y T')(hx:E.ev x=Q (.n k m))(hy:E.ev y=Q (.n k n)):Yp P E σ o (.n k (ajy k m n)):=Yp.lits λρ hρ w=>by
 simp[execOp,ho,hρ _ _ hx,hρ _ _ hy,eqGuard,binOp,Op.intBits,ajy]
def Yp.shl{k':IntKind}(ho:o.op= .binOp .shl T x y T')(hx:E.ev x=Q (.n k m))(hy:E.ev y=Q (.n k' n))(h:0<=n):Yp P E σ o (.n k (mD k m n)):=Yp.lits λρ hρ w=>by
 have:¬n<0:=by omega
 simp[execOp,ho,hρ _ _ hx,hρ _ _ hy,eqGuard,binOp,Op.shift,mD,this]
def Yp.shr{k':IntKind}(ho:o.op= .binOp .shr T x y T')(hx:E.ev x=Q (.n k m))(hy:E.ev y=Q (.n k' n))(h:0<=n):Yp P E σ o (.n k (dh k m n)):=Yp.lits λρ hρ w=>by
 have:¬n<0:=by omega
 simp[execOp,ho,hρ _ _ hx,hρ _ _ hy,eqGuard,binOp,Op.shift,dh,this]
def Yp.lss(ho:o.op= .binOp .lss T x y T')(hx:E.ev x=Q (.n k m))(hy:E.ev y=Q (.n k n)):Yp P E σ o (.b (O (m<n))):=Yp.lits λρ hρ w=>by
 simp[execOp,ho,hρ _ _ hx,hρ _ _ hy,eqGuard,binOp,Op.intCmp]
def Yp.leq(ho:o.op= .binOp .leq T x y T')(hx:E.ev x=Q (.n k m))(hy:E.ev y=Q (.n k n)):Yp P E σ o (.b (O (m<=n))):=Yp.lits λρ hρ w=>by
 simp[execOp,ho,hρ _ _ hx,hρ _ _ hy,eqGuard,binOp,Op.intCmp]
def Yp.gtr(ho:o.op= .binOp .gtr T x y T')(hx:E.ev x=Q (.n k m))(hy:E.ev y=Q (.n k n)):Yp P E σ o (.b (O (n<m))):=Yp.lits λρ hρ w=>by
 simp[execOp,ho,hρ _ _ hx,hρ _ _ hy,eqGuard,binOp,Op.intCmp]
def Yp.geq(ho:o.op= .binOp .geq T x y T')(hx:E.ev x=Q (.n k m))(hy:E.ev y=Q (.n k n)):Yp P E σ o (.b (O (n<=m))):=Yp.lits λρ hρ w=>by
 simp[execOp,ho,hρ _ _ hx,hρ _ _ hy,eqGuard,binOp,Op.intCmp]
def Yp.eql(ho:o.op= .binOp .eql T x y T')(hx:E.ev x=Q (.n k m))(hy:E.ev y=Q (.n k n)):Yp P E σ o (.b (O (m=n))):=Yp.lits λρ hρ w=>by
 have:(m==n)=O (m=n):=rfl;simp[execOp,ho,hρ _ _ hx,hρ _ _ hy,eqGuard,binOp,Op.intCmp,this]
def Yp.neq(ho:o.op= .binOp .neq T x y T')(hx:E.ev x=Q (.n k m))(hy:E.ev y=Q (.n k n)):Yp P E σ o (.b (!O (m=n))):=Yp.lits λρ hρ w=>by
 have:(m !=n)= !O (m=n):=rfl;simp[execOp,ho,hρ _ _ hx,hρ _ _ hy,eqGuard,binOp,Op.intCmp,this]
def Yp.not(ho:o.op= .unOp .not T x)(hx:E.ev x=Q (.b b)):Yp P E σ o (.b (!b)):=Yp.lits λρ hρ w=>by
 simp[execOp,ho,hρ _ _ hx,Op.unary]
def Yp.neg(ho:o.op= .unOp .neg T x)(hx:E.ev x=Q (.n k n)):Yp P E σ o (.n k (k.wrap (0-n))):=Yp.lits λρ hρ w=>by
 simp[execOp,ho,hρ _ _ hx,Op.unary,Op.intArith]
def Yp.max(ho:o.op= .call {callee:= .builtin .max,args:=#[x,y],argTypes:=#[T,T']})(hx:E.ev x=Q (.n k m))(hy:E.ev y=Q (.n k n)):Yp P E σ o (.n k (if m<n then n else m)):=Yp.lits λρ hρ w=>by
 simp[execOp,ho,resolve,invoke,builtin,Builtin.max_,Builtin.max2,hρ _ _ hx,hρ _ _ hy]
def Yp.min(ho:o.op= .call {callee:= .builtin .min,args:=#[x,y],argTypes:=#[T,T']})(hx:E.ev x=Q (.n k m))(hy:E.ev y=Q (.n k n)):Yp P E σ o (.n k (if n<m then n else m)):=Yp.lits λρ hρ w=>by
 simp[execOp,ho,resolve,invoke,builtin,Builtin.min_,Builtin.min2,hρ _ _ hx,hρ _ _ hy]
def Yp.akz(ho:o.op= .call {callee:= .builtin .len,args:=#[x],argTypes:=#[T]})(hx:E.ev x=Q (.lit (.slice V 0 0)))(hT:P.underlying T=Q (.slice e)):Yp P E σ o (.i 0):=Yp.lits λρ hρ w=>by
 simp[execOp,ho,resolve,invoke,builtin,Builtin.len_,hρ _ _ hx,run_underlying hT,goInt]
def Yp.ao3{q:Nat}{l:aa (U.dF q)}(ho:o.op= .call {callee:= .builtin .len,args:=#[x],argTypes:=#[T]})(hx:E.ev x=Q (.sl q l))(hT:P.underlying T=Q (.slice e)):Yp P E σ o (.i (l.length:Int)):=λA w ρ _ hρ=>by
 obtain⟨p,cap,u,hv,_⟩:=(hρ _ _ hx).tY;exact⟨_, .lit _,λw' _=>by simp[execOp,ho,resolve,invoke,builtin,Builtin.len_,hv,run_underlying hT,goInt]⟩
def Yp.alI{q:Nat}{l:aa (U.dF q)}(i:Nat)(ho:o.op= .call {callee:= .builtin .len,args:=#[x],argTypes:=#[T]})(hx:E.ev x=Q (.lit v))(hσ:σ[i]? =Q (.row v q l))(hT:P.underlying T=Q (.slice e)):Yp P E σ o (.i (l.length:Int)):=λA w ρ hd hρ=>by
 obtain⟨us,h1,_⟩:=hd.1 _ (List.mem_of_getElem? hσ);obtain⟨p,cap,hv,_⟩:=h1.len;have hx':=(hρ _ _ hx).cM;exact⟨_, .lit _,λw' _=>by simp[execOp,ho,resolve,invoke,builtin,Builtin.len_,hx',hv,run_underlying hT,goInt]⟩
def Yp.ai5{s:ByteArray}(ho:o.op= .call {callee:= .builtin .len,args:=#[x],argTypes:=#[T]})(hx:E.ev x=Q (.s s))(hT:P.underlying T=Q .string):Yp P E σ o (.i (s.size:Int)):=Yp.lits λρ hρ w=>by
 simp[execOp,ho,resolve,invoke,builtin,Builtin.len_,hρ _ _ hx,goInt,run_underlying hT]
def Yp.func{fn:Fn}{fs cs:Array Operand}{as0:aa AV}(ho:o.op= .makeFunc fn fs cs)(h0:fs=#[])(hc:E.KM cs.toList=Q as0):Yp P E σ o (.fn fn as0):=λA w ρ _ hρ=>by
 have h:=Env.HN hρ hc;exact⟨_, .fn fn as0 _ h.1 h.2,λw' _=>by
  have:cs.map ρ=(cs.toList.map ρ).toArray:=by apply Array.ext';simp
  simp[execOp,ho,Instr.makeFunc,h0,this]⟩
def Yp.extract{i:Nat}{cs:aa AV}(ho:o.op= .extract x i)(hx:E.ev x=Q (.jE cs))(hv:cs[i]? =Q av):Yp P E σ o av:=λA w ρ _ hρ=>by
 obtain⟨us,h1,h2⟩:=(hρ _ _ hx).NL;obtain⟨v,h3,h4⟩:=h2.get hv;exact⟨v,h4,λw' _=>by simp[execOp,ho,Instr.extract,h1,h3]⟩
def Yp.TR{a:Addr}(ho:o.op= .nilCheck x)(hx:E.ev x=Q (.lit (.pointer (Q a)))):Yp P E σ o (.lit (.pointer (Q a))):=Yp.lits λρ hρ w=>by
 simp[execOp,ho,hρ _ _ hx]
def Yp.TT{cs:aa AV}(ho:o.op= .nilCheck x)(hx:E.ev x=Q (.fp cs)):Yp P E σ o (.fp cs):=λA w ρ _ hρ=>by
 obtain⟨b,of,us,h1,_⟩:=(hρ _ _ hx).En;exact⟨ρ x,hρ _ _ hx,λw' _=>by simp[execOp,ho,h1]⟩
def Yp.Ud{k:Nat}(ho:o.op= .nilCheck x)(hx:E.ev x=Q (.rp v k)):Yp P E σ o (.rp v k):=λA w ρ _ hρ=>by
 obtain⟨g,_,h1⟩:=(hρ _ _ hx).GQ;exact⟨ρ x,hρ _ _ hx,λw' _=>by simp[execOp,ho,h1]⟩
def pL(b of k:Nat):(⟨b,of,V⟩:Addr).add k=⟨b,of+k,V⟩:=by unfold Addr.add;split<;>simp_all
def Yp.akG{fs:Array Field}{f:Field}{i b' of sz:Nat}(ho:o.op= .fieldAddr T x i)(hx:E.ev x=Q (.lit (.pointer (Q ⟨b',of,V⟩))))(hT:P.underlying T=Q (.struct fs))(hf:fs[i]? =Q f)(hs:(P.info? f.type).map (·.size)=Q (sz+1)):
  Yp P E σ o (.lit (.pointer (Q ⟨b',of+f.offset,V⟩))):=Yp.lits λρ hρ w=>by
 obtain⟨j,hj,hj'⟩:=zu.1 hs;simp[execOp,ho,Instr.fieldAt,hρ _ _ hx,run_underlying hT,hf,Instr.sureAddr,fieldPlace,sizeOf,typeInfo,hj,hj',pL]
def Yp.am3{fs:Array Field}{f:Field}{i sz:Nat}{cs:aa AV}(ho:o.op= .fieldAddr T x i)(hx:E.ev x=Q (.fp cs))(hT:P.underlying T=Q (.struct fs))(hf:fs[i]? =Q f)(hs:(P.info? f.type).map (·.size)=Q (sz+1)):
  Yp P E σ o (.fp (cs.drop f.offset)):=λA w ρ _ hρ=>by
 obtain⟨j,hj,hj'⟩:=zu.1 hs;obtain⟨b,of,us,h1,hb,hA,hc,hr⟩:=(hρ _ _ hx).En;refine⟨_, .fp _ b (of+f.offset) (us.drop f.offset) hb hA (hr.drop _).1 (λj v hj=> ?_) (hr.drop _).2,λw' _=>by simp[execOp,ho,Instr.fieldAt,h1,run_underlying hT,hf,Instr.sureAddr,fieldPlace,sizeOf,typeInfo,hj,hj',pL]⟩;rw[yA]at hj;rw[wh];exact hc _ v hj
def Yp.anp{fs:Array Field}{f:Field}{i sz k:Nat}(ho:o.op= .fieldAddr T x i)(hx:E.ev x=Q (.rp v k))(hT:P.underlying T=Q (.struct fs))(hf:fs[i]? =Q f)(hs:(P.info? f.type).map (·.size)=Q (sz+1)):
  Yp P E σ o (.rp v (k+f.offset)):=λA w ρ _ hρ=>by
 obtain⟨j,hj,hj'⟩:=zu.1 hs;obtain⟨g,h1,h2⟩:=(hρ _ _ hx).GQ;exact⟨_, .rp v _ g h1,λw' _=>by simp[execOp,ho,Instr.fieldAt,h2,run_underlying hT,hf,Instr.sureAddr,fieldPlace,sizeOf,typeInfo,hj,hj',pL]⟩
def Yp.aer{q:Nat}{l:aa (U.dF q)}(ho:o.op= .indexAddr T x y)(hx:E.ev x=Q (.sl q l))(hy:E.ev y=Q (.n k m))(hT:P.underlying T=Q (.slice e))(hs:(P.info? e).map (·.size)=Q (U.sz q))
  (hm:0<=m/\m<l.length):Yp P E σ o (.fp (U.cells q l[m.toNat]!)):=λA w ρ _ hρ=>by
 obtain⟨j,hj,hj'⟩:=zu.1 hs;have hr:=hρ _ _ hx;obtain⟨p,cap,_,hv,_⟩:=hr.tY;rw[hv]at hr;obtain⟨b,off,us,hp,hb,hA,hl,hc,hL⟩:=hr.auT (i:=m.toNat) (by omega);refine⟨_, .fp _ b (off+m.toNat*(U.sz q)) us hb hA hL.1 hc hL.2,λw' _=> ?_⟩;have hy':=(hρ _ _ hy).cM;simp[execOp,ho,Instr.indexAt,hv,hp,hy',run_underlying hT,sizeOf,typeInfo,hj,hj',pL,asIntOf,hm]
def Yp.VF{q:Nat}{l:aa (U.dF q)}(i:Nat)(ho:o.op= .indexAddr T x y)(hx:E.ev x=Q (.lit v))(hσ:σ[i]? =Q (.row v q l))(hy:E.ev y=Q (.n k m))(hT:P.underlying T=Q (.slice e))(hs:(P.info? e).map (·.size)=Q (U.sz q))
  (hm:0<=m/\m<l.length):Yp P E σ o (.rp v (m.toNat*(U.sz q))):=λA w ρ hd hρ=>by
 obtain⟨j,hj,hj'⟩:=zu.1 hs;obtain⟨us,h1,_⟩:=hd.1 _ (List.mem_of_getElem? hσ);obtain⟨g,cap,cur,hv,hg,_⟩:=h1.at (by omega);have hx':=(hρ _ _ hx).cM;have hy':=(hρ _ _ hy).cM;refine⟨_, .rp v _ g hg,λw' _=> ?_⟩;simp[execOp,ho,Instr.indexAt,hx',hv,hy',run_underlying hT,sizeOf,typeInfo,hj,hj',pL,asIntOf,hm]
def Yp.alY{b' of sz n':Nat}(ho:o.op= .indexAddr T x y)(hx:E.ev x=Q (.lit (.pointer (Q ⟨b',of,V⟩))))(hy:E.ev y=Q (.n k m))(hT:P.underlying T=Q (.array n' e))(hs:(P.info? e).map (·.size)=Q sz)
  (hm:0<=m/\m<n'):Yp P E σ o (.lit (.pointer (Q ⟨b',of+m.toNat*sz,V⟩))):=Yp.lits λρ hρ w=>by
 obtain⟨j,hj,hj'⟩:=zu.1 hs;simp[execOp,ho,Instr.indexAt,hρ _ _ hx,hρ _ _ hy,run_underlying hT,sizeOf,typeInfo,hj,hj',pL,asIntOf,hm,Instr.sureAddr]
def Yp.aj2{k' sz n':Nat}(ho:o.op= .indexAddr T x y)(hx:E.ev x=Q (.rp v k'))(hy:E.ev y=Q (.n k m))(hT:P.underlying T=Q (.array n' e))(hs:(P.info? e).map (·.size)=Q sz)
  (hm:0<=m/\m<n'):Yp P E σ o (.rp v (k'+m.toNat*sz)):=λA w ρ _ hρ=>by
 obtain⟨j,hj,hj'⟩:=zu.1 hs;obtain⟨g,h1,h2⟩:=(hρ _ _ hx).GQ;have hy':=(hρ _ _ hy).cM;exact⟨_, .rp v _ g h1,λw' _=>by simp[execOp,ho,Instr.indexAt,h2,hy',run_underlying hT,sizeOf,typeInfo,hj,hj',pL,asIntOf,hm,Instr.sureAddr]⟩
def Yp.anl{sz n':Nat}{cs:aa AV}(ho:o.op= .indexAddr T x y)(hx:E.ev x=Q (.fp cs))(hy:E.ev y=Q (.n k m))(hT:P.underlying T=Q (.array n' e))(hs:(P.info? e).map (·.size)=Q sz)
  (hm:0<=m/\m<n'):Yp P E σ o (.fp (cs.drop (m.toNat*sz))):=λA w ρ _ hρ=>by
 obtain⟨j,hj,hj'⟩:=zu.1 hs;obtain⟨b,of,us,h1,hb,hA,hc,hr⟩:=(hρ _ _ hx).En;have hy':=(hρ _ _ hy).cM;refine⟨_, .fp _ b (of+m.toNat*sz) (us.drop (m.toNat*sz)) hb hA (hr.drop _).1 (λj v hj=> ?_) (hr.drop _).2,λw' _=>by simp[execOp,ho,Instr.indexAt,h1,hy',run_underlying hT,sizeOf,typeInfo,hj,hj',pL,asIntOf,hm,Instr.sureAddr]⟩;rw[yA]at hj;rw[wh];exact hc _ v hj
def sE(P:Program)(T:TypeId):Prop:=∃d,P.underlying T=Q d/\match d with| .struct _| .array _ _=>False|_=>True
def mJ(h:sE P T)(w:World):(isAgg T).run P w= .ok I w:=by
 obtain⟨d,hd,hm⟩:=h;unfold isAgg;cases d<;>first|exact hm.elim|simp[run_underlying hd]
def iR{w:World}{a:Addr}(h:sE P T)(hc:w.cell? a=Q v):(loadVar T a).run P w= .ok v w:=by
 unfold loadVar;simp[mJ h,load,Sem.run,hc]
def tv(P:Program)(T:TypeId)(k:Nat):Prop:=(∃d,P.underlying T=Q d/\match d with| .struct _| .array _ _=>True|_=>False)/\(P.info? T).map (·.size)=Q k
def DN{k:Nat}(h:tv P T k)(w:World):(isAgg T).run P w= .ok G w:=by
 obtain⟨⟨d,hd,hm⟩,_⟩:=h;unfold isAgg;cases d<;>first|exact hm.elim|simp[run_underlying hd]
def run_loadCellsFrom{w:World}(a:Addr):∀(cs:aa Value) (i:Nat) (acc:Array Value),(∀j u,cs[j]? =Q u->w.cell? (a.add (i+j))=Q u)->(loadCellsFrom a i cs.length acc).run P w= .ok (acc++cs.toArray) w
 |[],i,acc,_=>by simp[loadCellsFrom]
 |c::cs,i,acc,h=>by
  have h0:=h 0 c rfl;rw[yq]at h0;simp only[xh,loadCellsFrom];have ih:=run_loadCellsFrom a cs (i+1) (acc.push c) λj u hj=>by
   have:=h (j+1) u (by simpa using hj)
   rwa [show i+(j+1)=i+1+j from by omega]at this
  simp[load,Sem.run,h0,ih]
def iw{w:World}{a:Addr}{cs:aa Value}(h:tv P T cs.length)(hc:∀j u,cs[j]? =Q u->w.cell? (a.add j)=Q u):(loadVar T a).run P w= .ok (.agg cs.toArray) w:=by
 obtain⟨i,hi,hi'⟩:=zu.1 h.2;have:=run_loadCellsFrom (P:=P) (w:=w) a cs 0 #[] (by simpa using hc);unfold loadVar;simp[DN h,sizeOf,typeInfo,hi,hi',loadCells,this]
def kW{w w':World}{b o:Nat}(h:w'.heap[b]? =w.heap[b]?):w'.cell? ⟨b,o,V⟩=w.cell? ⟨b,o,V⟩:=by simp[World.cell?,h]
def Yp.ajZ{cs:aa AV}(ho:o.op= .load T x)(hx:E.ev x=Q (.fp cs))(hT:sE P T)(ha:cs[0]? =Q av):Yp P E σ o av:=λA w ρ _ hρ=>by
 obtain⟨b,of,us,h1,hb,hA,hc,hr⟩:=(hρ _ _ hx).En;obtain⟨v,h2,h3⟩:=hr.get ha;refine⟨v,h3,λw' hw=> ?_⟩;have hcell:w'.cell? ⟨b,of,V⟩=Q v:=by rw[kW (hw b hb (.inl hA))];exact hc 0 v h2
 simp[execOp,ho,Instr.loadAt,h1,Instr.sureAddr,iR hT hcell]
def Yp.amz{cs:aa AV}{n:Nat}(ho:o.op= .load T x)(hx:E.ev x=Q (.fp cs))(hT:tv P T n)(hn:n<=cs.length):Yp P E σ o (.agg (cs.take n)):=λA w ρ _ hρ=>by
 obtain⟨b,of,us,h1,hb,hA,hc,hr⟩:=(hρ _ _ hx).En;refine⟨_,Rel.oO (hr.take n),λw' hw=> ?_⟩;have hcell:∀j u,(us.take n)[j]? =Q u->w'.cell? ((⟨b,of,V⟩:Addr).add j)=Q u:=λj u hj=>by
  rw[pL,kW (hw b hb (.inl hA))];rw[yF]at hj;split at hj
  ·exact hc j u hj
  ·cases hj
 have hl:(us.take n).length=n:=by rw[z6,hr.1];omega
 simp[execOp,ho,Instr.loadAt,h1,Instr.sureAddr,iw (by rw[hl];exact hT) hcell]
def Yp.als{b' of:Nat}{cs:aa AV}{t:TypeId}(i:Nat)(ho:o.op= .load T x)(hx:E.ev x=Q (.lit (.pointer (Q ⟨b',of,V⟩))))(hσ:σ[i]? =Q (.box b' t cs))(hT:sE P T)(ha:cs[of]? =Q av):Yp P E σ o av:=λA w ρ hd hρ=>by
 have hm:=List.mem_of_getElem? hσ;obtain⟨us,h1,hr⟩:=hd.1 _ hm;obtain⟨v,h2,h3⟩:=bL.get hr ha;have hx':=(hρ _ _ hx).cM;refine⟨v,h3,λw' hw=> ?_⟩;have hcell:w'.cell? ⟨b',of,V⟩=Q v:=by rw[kW (hw b' h1.lt (.inr (bS.2 ⟨_,hm,rfl⟩)))];exact h1.cell (by simpa using h2)
 simp[execOp,ho,Instr.loadAt,hx',Instr.sureAddr,iR hT hcell]
def Yp.alT{b' of n:Nat}{cs:aa AV}{t:TypeId}(i:Nat)(ho:o.op= .load T x)(hx:E.ev x=Q (.lit (.pointer (Q ⟨b',of,V⟩))))(hσ:σ[i]? =Q (.box b' t cs))(hT:tv P T n)(hn:of+n<=cs.length):Yp P E σ o (.agg ((cs.drop of).take n)):=λA w ρ hd hρ=>by
 have hm:=List.mem_of_getElem? hσ;obtain⟨us,h1,hr⟩:=hd.1 _ hm;have hx':=(hρ _ _ hx).cM;refine⟨_,Rel.oO ((bL.drop of hr).take n),λw' hw=> ?_⟩;have hcell:∀j u,((us.drop of).take n)[j]? =Q u->w'.cell? ((⟨b',of,V⟩:Addr).add j)=Q u:=λj u hj=>by
  rw[pL,kW (hw b' h1.lt (.inr (bS.2 ⟨_,hm,rfl⟩)))];rw[yF]at hj;split at hj
  ·rw[yA]at hj;exact h1.cell (by simpa using hj)
  ·cases hj
 have hl:((us.drop of).take n).length=n:=by rw[z6,yh,hr.1];omega
 simp[execOp,ho,Instr.loadAt,hx',Instr.sureAddr,iw (by rw[hl];exact hT) hcell]
def Yp.YF{k of:Nat}{q:Nat}{l:aa (U.dF q)}(i m:Nat)(ho:o.op= .load T x)(hx:E.ev x=Q (.rp v k))(hσ:σ[i]? =Q (.row v q l))(hT:sE P T)(hk:k=m*(U.sz q)+of)(hm:m<l.length)(ha:(U.cells q l[m]!)[of]? =Q av):Yp P E σ o av:=λA w ρ hd hρ=>by
 have hmem:=List.mem_of_getElem? hσ;obtain⟨us,h1,h2,h3⟩:=hd.1 _ hmem;obtain⟨g,hg,hv⟩:=(hρ _ _ hx).GQ;obtain⟨u,h4,h5⟩:=(h3 m hm).get ha;refine⟨u,h5,λw' hw=> ?_⟩;rw[yF]at h4;split at h4
 ·rw[yA]at h4;have hcell:w'.cell? ⟨g,k,V⟩=Q u:=by rw[kW (hw g (h1.lt hg) (.inr (bS.2 ⟨_,hmem,hg⟩))),hk];exact h1.cells hg _ u h4
  simp[execOp,ho,Instr.loadAt,hv,Instr.sureAddr,iR hT hcell]
 ·cases h4
def Yp.aiS{k of n:Nat}{q:Nat}{l:aa (U.dF q)}(i m:Nat)(ho:o.op= .load T x)(hx:E.ev x=Q (.rp v k))(hσ:σ[i]? =Q (.row v q l))(hT:tv P T n)(hk:k=m*(U.sz q)+of)(hm:m<l.length)(hn:of+n<=(U.sz q)):Yp P E σ o (.agg (((U.cells q l[m]!).drop of).take n)):=λA w ρ hd hρ=>by
 have hmem:=List.mem_of_getElem? hσ;obtain⟨us,h1,h2,h3⟩:=hd.1 _ hmem;obtain⟨g,hg,hv⟩:=(hρ _ _ hx).GQ;have hL:=h3 m hm;refine⟨_,Rel.oO ((hL.drop of).take n),λw' hw=> ?_⟩;have hcell:∀j u,((((us.drop (m*(U.sz q))).take (U.sz q)).drop of).take n)[j]? =Q u->w'.cell? ((⟨g,k,V⟩:Addr).add j)=Q u:=λj u hj=>by
  rw[pL,kW (hw g (h1.lt hg) (.inr (bS.2 ⟨_,hmem,hg⟩))),hk];rw[yF]at hj;split at hj
  ·rw[yA,yF]at hj;split at hj
   ·rw[yA]at hj;exact h1.cells hg _ u (by rw[wh];exact hj)
   ·cases hj
  ·cases hj
 have hl:((((us.drop (m*(U.sz q))).take (U.sz q)).drop of).take n).length=n:=by rw[z6,yh,hL.1,h2 m hm];omega
 simp[execOp,ho,Instr.loadAt,hv,Instr.sureAddr,iw (by rw[hl];exact hT) hcell]
end
def fH(r:cK)(σ:aa cK):bH (r::σ)=r.blk.toList++bH σ:=by
 unfold bH;rw[xD];cases r.blk<;>simp
def gT(σ τ:aa cK):bH (σ++τ)=bH σ++bH τ:=by simp[bH]
def pF{C:Cx}{σ:aa cK}{w w':World}{r:cK}(h:Good C σ w)(hk:Kp [] w w')(hr:r.blk=V\/r.blk=Q w.heap.size)(hok:r.ok (al C (r::σ)) w'):Tr C [] σ w (r::σ) w':=by
 have hlt:∀b∈bH σ,b<w.heap.size:=λb hb=>by
  obtain⟨s,h1,h2⟩:=bS.1 hb;exact(h.res s h1).lt h2
 have hal:∀b,b<w.heap.size->al C σ b->al C (r::σ) b:=λb hb hA=>⟨hA.1,λhx=>by
  rw[fH]at hx;rcases zV.1 hx with hx|hx
  ·rcases hr with hr|hr<;>rw[hr]at hx<;>simp at hx;omega
  ·exact hA.2 hx⟩
 have hsame:∀b,b<w.heap.size->w'.heap[b]? =w.heap[b]? :=λb hb=>hk.block b hb (by simp);refine⟨⟨h.kept.trans hk (by simp),λs hs=> ?_,?_,λb hb=> ?_⟩,hk,λb hb hA=>⟨hal b hb hA,by simp⟩⟩
 ·rcases zF.1 hs with rfl|hs
  ·exact hok
  ·exact(h.res s hs).mono (λb hb hA=>⟨hal b hb hA,hsame b hb⟩) (λb hb=>hsame b ((h.res s hs).lt hb))
 ·rw[fH];rcases hr with hr|hr
  ·rw[hr];simpa using h.F9
  ·rw[hr];simp only[xN,xE,ym,List.nodup_cons];exact⟨λhx=>by have:=hlt _ hx;omega,h.F9⟩
 ·rw[fH]at hb;rcases zV.1 hb with hx|hx
  ·rcases hr with hr|hr<;>rw[hr]at hx<;>simp at hx;exact .inr (by rw[hx];exact h.kept.size)
  ·exact h.own b hx
def A8{σ:aa cK}{i:Nat}{r r':cK}(h:σ[i]? =Q r):σ=σ.take i++r::σ.drop (i+1)/\σ.set i r'=σ.take i++r'::σ.drop (i+1):=by
 obtain⟨hi,hr⟩:=ya.1 h;refine⟨?_,wT .. |>.trans (by rw[bt hi])⟩;rw[<-hr,<-wj hi,xj]
def EC{σ:aa cK}{i:Nat}{r r':cK}(h:σ[i]? =Q r)(hb:r'.blk=r.blk):bH (σ.set i r')=bH σ:=by
 obtain⟨q1,q2⟩:=A8 (r':=r') h;have e:bH σ=bH (σ.take i++r::σ.drop (i+1)):=congrArg bH q1;rw[q2,e];simp[gT,fH,hb]
def Dx{C:Cx}{σ:aa cK}{w w':World}{r r':cK}{i:Nat}(h:Good C σ w)(hi:σ[i]? =Q r)(hk:Kp r.blk.toList w w')(hr:r'.blk=r.blk\/r'.blk=Q w.heap.size)(hok:r'.ok (al C (σ.set i r')) w'):Tr C r.blk.toList σ w (σ.set i r') w':=by
 obtain⟨h1,h2⟩:=A8 (r':=r') hi;generalize σ.take i=σ1 at h1 h2;generalize σ.drop (i+1)=σ2 at h1 h2;rw[h2]at hok ⊢;clear h2 hi;subst h1;have hlt:∀b∈bH (σ1++r::σ2),b<w.heap.size:=λb hb=>by
  obtain⟨s,h1,h2⟩:=bS.1 hb;exact(h.res s h1).lt h2
 have hb0:bH (σ1++r::σ2)=bH σ1++(r.blk.toList++bH σ2):=by rw[gT,fH]
 have hb1:bH (σ1++r'::σ2)=bH σ1++(r'.blk.toList++bH σ2):=by rw[gT,fH]
 have hmem:∀b,b∈bH (σ1++r'::σ2)->b∈bH (σ1++r::σ2)\/b=w.heap.size:=λb hb=>by
  rw[hb1]at hb;rw[hb0];simp only[zV]at hb ⊢;rcases hb with hb|hb|hb
  ·exact .inl (.inl hb)
  ·rcases hr with hr|hr<;>rw[hr]at hb
   ·exact .inl (.inr (.inl hb))
   ·simp at hb;exact .inr hb
  ·exact .inl (.inr (.inr hb))
 have hal:∀b,b<w.heap.size->al C (σ1++r::σ2) b->al C (σ1++r'::σ2) b:=λb hb hA=>⟨hA.1,λhx=>by
  rcases hmem b hx with h|h
  ·exact hA.2 h
  ·omega⟩
 have hnr:∀b,al C (σ1++r::σ2) b->b∉r.blk.toList:=λb hA hx=>hA.2 (by rw[hb0];simp[zV,hx]);have hother:∀s,s∈σ1\/s∈σ2->∀b,s.blk=Q b->b∉r.blk.toList:=λs hs b hb hx=>by
  have hd:=h.F9;rw[hb0]at hd;rcases hs with hs|hs
  ·exact(yG.1 hd).2.2 b (bS.2 ⟨s,hs,hb⟩) b (yH _ hx) rfl
  ·exact(yG.1 (yG.1 hd).2.1).2.2 b hx b (bS.2 ⟨s,hs,hb⟩) rfl
 refine⟨⟨h.kept.trans hk (λb hb hlt0=> ?_),λs hs=> ?_,?_,λb hb=> ?_⟩,hk,λb hb hA=>⟨hal b hb hA,hnr b hA⟩⟩
 ·have:b∈bH (σ1++r::σ2):=by rw[hb0];simp[zV,hb]
  rcases h.own b this with h|h
  ·exact h
  ·omega
 ·have hs':s=r'\/s∈σ1\/s∈σ2:=by
   simp only[zV,zF]at hs;rcases hs with h|h|h
   ·exact .inr (.inl h)
   ·exact .inl h
   ·exact .inr (.inr h)
  rcases hs' with rfl|hs'
  ·exact hok
  ·have hm:s∈σ1++r::σ2:=by rcases hs' with h|h<;>simp[h]
   exact(h.res s hm).mono (λb hb hA=>⟨hal b hb hA,hk.block b hb (hnr b hA)⟩) (λb hb=>hk.block b ((h.res s hm).lt hb) (hother s hs' b hb))
 ·have hd:=h.F9;rcases hr with hr|hr
  ·rw[hb1,hr,<-hb0];exact hd
  ·rw[hb1,hr];rw[hb0]at hd;have hn1:w.heap.size∉bH σ1:=λhx=>by have:=hlt w.heap.size (by rw[hb0];simp[zV,hx]);omega
   have hn2:w.heap.size∉bH σ2:=λhx=>by have:=hlt w.heap.size (by rw[hb0];simp[zV,hx]);omega
   obtain⟨d1,d2,d3⟩:=yG.1 hd;obtain⟨d4,d5,d6⟩:=yG.1 d2;refine yG.2 ⟨d1,?_,λa ha b hb hab=> ?_⟩
   ·simp only[xN,xE,ym,List.nodup_cons];exact⟨hn2,d5⟩
   ·subst hab;simp only[xN,xE,ym,zF]at hb;rcases hb with rfl|hb
    ·exact hn1 ha
    ·exact d3 a ha a (yI _ hb) rfl
 ·rcases hmem b hb with h1|h1
  ·exact h.own b h1
  ·exact .inr (by rw[h1];exact h.kept.size)
def aiZ{C:Cx}{σ:aa cK}{w:World}{r:cK}(h:r.blk=V\/r.blk=Q w.heap.size):∀b,b<w.heap.size->al C σ b->al C (r::σ) b:=λb hb hA=>⟨hA.1,λhx=>by
 rw[fH]at hx;rcases zV.1 hx with hx|hx
 ·rcases h with h|h<;>rw[h]at hx<;>simp at hx;omega
 ·exact hA.2 hx⟩
def kf(w:World)(x:Obj):Kp [] w (w.alloc x):=⟨rfl,rfl,rfl,by simp,λk hk _=>heap_alloc_old w x hk⟩
def Gv(w:World)(x:Obj):Kp [] w (w.drew.alloc x):=⟨rfl,rfl,rfl,by simp,λk hk _=>heap_alloc_old w.drew x hk⟩
def Mw{C:Cx}{σ:aa cK}{w w':World}{r:cK}{as0:aa AV}{us:aa Value}(hr:bL (al C σ) w as0 us)(h:r.blk=V\/r.blk=Q w.heap.size)(hk:Kp [] w w'):bL (al C (r::σ)) w' as0 us:=
 hr.mono λb hb hA=>⟨aiZ h b hb hA,hk.block b hb (by simp)⟩
def dS:AV->aa AV
 | .agg cs=>cs
 |a=>[a]
def iF:AV->Bool
 | .lit v=>v.oneCell'
 | .jE _=>I
 | .agg _=>I
 |_=>G
def C8:AV->Bool
 | .agg cs=>cs.all iF
 |a=>iF a
def sD{v:Value}(h:v.oneCell'=true):v.cells=#[v]:=by cases v<;>first|rfl|cases h
def Rel.one{A:Nat->Prop}{w:World}{a:AV}{v:Value}(h:Rel A w a v)(h1:iF a=G):v.oneCell'=G:=by
 cases h with
 |lit v=>exact h1
 |agg=>cases h1
 |jE=>cases h1
 |_=>rfl
def bL.one{A:Nat->Prop}{w:World}{as0:aa AV}{us:aa Value}(h:bL A w as0 us)(h1:as0.all iF=G):∀v∈us,v.oneCell'=G:=λv hv=>by
 obtain⟨j,hj,rfl⟩:=wk hv;have hlt:j<as0.length:=by rw[<-h.1];exact hj
 exact(h.2 j as0[j] us[j] (zw hlt) (zw hj)).one (zA.1 h1 _ (xO hlt))
def Rel.cells{A:Nat->Prop}{w:World}{a:AV}{v:Value}(h:Rel A w a v)(h1:C8 a=G):bL A w (dS a) v.cells.toList/\∀u∈v.cells.toList,u.oneCell'=G:=by
 by_cases ha:∃cs,a= .agg cs
 ·obtain⟨cs,rfl⟩:=ha;obtain⟨us,rfl,h2⟩:=h.nZ;exact⟨by simpa [Value.cells,dS]using h2,by simpa [Value.cells]using h2.one h1⟩
 ·have hc:iF a=G:=by
   cases a<;>first|exact h1|(exact cR ⟨_,rfl⟩ ha)
  have hac:dS a=[a]:=by
   cases a<;>first|rfl|(exact cR ⟨_,rfl⟩ ha)
  have h2:=h.one hc;rw[hac,sD h2];refine⟨⟨rfl,λj x y hx hy=> ?_⟩,λu hu=>by simp at hu;rw[hu];exact h2⟩;cases j with
  |zero=>simp at hx hy;subst hx hy;exact h
  |succ j=>simp at hx
def Pw(σ:aa cK)(a:AV):Prop:=∀(A:Nat->Prop) (w:World) (v:Value),Hd A σ w->Rel A w a v->bL A w (dS a) v.cells.toList/\∀u∈v.cells.toList,u.oneCell'=G
def ad8{σ:aa cK}{A:Nat->Prop}{w:World}{v:Value}{q:Nat}{l:aa (U.dF q)}(i:Nat)(hσ:σ[i]? =Q (.row v q l))(hd:Hd A σ w):v.oneCell'=G:=by
 obtain⟨us,h1,_⟩:=hd.1 _ (List.mem_of_getElem? hσ);obtain⟨p,cap,rfl,_⟩:=h1.len;rfl
section
variable {P:Program} {E:Env} {σ:aa cK} {o:Oper} {T T' e:TypeId} {x y z:Operand} {av bv:AV} {v u:Value} {m n:Int} {b:Bool} {k:IntKind} {C:Cx} {X:aa Nat}
def Yv.alloc{zs:aa Value}(ho:o.op= .alloc T)(hz:(P.info? T).bind (λi=>i.zero.map (·.cells))=Q zs.toArray):Yv P E σ o C [] (λa σ'=>∃b,a= .lit (.pointer (Q ⟨b,0,V⟩))/\σ'= .box b T (zs.map .lit)::σ):=λw ρ hg _=>by
 obtain⟨i,h1,h2⟩:=zx.1 hz;obtain⟨zv,h3,h4⟩:=zu.1 h2;refine⟨_,w.alloc (.cells zs.toArray T),_,_,⟨w.heap.size,rfl,rfl⟩,pF hg (kf w _) (.inr rfl) ⟨zs,heap_alloc_new w _,bL.lits _⟩,?_, .lit _⟩;simp[execOp,ho,Instr.alloc,zeroValue,typeInfo,h1,h3,newVar,newRow,h4]
def Yv.box(ho:o.op= .box T x)(hx:E.ev x=Q av)(h1:Pw σ av):Yv P E σ o C [] (λa σ'=>∃b,a= .lit (.pointer (Q ⟨b,0,V⟩))/\σ'= .box b T (dS av)::σ):=λw ρ hg hρ=>by
 have hr:=(h1 _ _ _ hg.hd (hρ _ _ hx)).1;refine⟨_,w.alloc (.cells (ρ x).cells T),_,_,⟨w.heap.size,rfl,rfl⟩,pF hg (kf w _) (.inr rfl) ⟨(ρ x).cells.toList,heap_alloc_new w _,Mw hr (.inr rfl) (kf w _)⟩,?_, .lit _⟩;simp[execOp,ho,Instr.box,newVar,newRow]
def run_store{w:World}{g of:Nat}{cur:Array Value}{t:TypeId}{a:Value}{sz:Nat}(hs:(P.info? T).map (·.size)=Q sz)(hb:Blk w g cur t)(hsz:a.cells.size=sz)(h1:∀u∈a.cells.toList,u.oneCell'=G)(hlt:of+sz<=cur.size):
  (Instr.storeAt T (.pointer (Q ⟨g,of,V⟩)) a).run P w= .ok () (w.setRow g (cur.toList.take of++a.cells.toList++cur.toList.drop (of+sz)).toArray):=by
 obtain⟨j,hj,hj'⟩:=zu.1 hs;have:=run_storeCells_at P g of t a.cells.toList 0 cur w hb (by rw[yt,hsz];omega) h1;rw[yt,hsz,yq]at this;simp only[Instr.storeAt,Instr.sureAddr,storeVar,Sem.run_bind,sizeOf,typeInfo];simp[hj,hj',hsz,this]
def mQ(w:World)(g:Nat)(cs:Array Value):Kp [g] w (w.setRow g cs):=⟨rfl,rfl,rfl,by simp,λk _ hk=>setRow_other w g k _ (λe=>hk (by simp[e]))⟩
def Yu.ams{g of sz:Nat}{cs:aa AV}{t:TypeId}(i:Nat)(ho:o.op= .store T x y)(hx:E.ev x=Q (.lit (.pointer (Q ⟨g,of,V⟩))))(hy:E.ev y=Q av)(hσ:σ[i]? =Q (.box g t cs))(hs:(P.info? T).map (·.size)=Q sz)(hp:Pw σ av)(hsz:(dS av).length=sz)(hlt:of+sz<=cs.length):
  Yu P E σ o C [g] (σ.set i (.box g t (cs.take of++dS av++cs.drop (of+sz)))):=λw ρ hg hρ=>by
 obtain⟨us,h1,h2⟩:=hg.res _ (List.mem_of_getElem? hσ);obtain⟨h3,h4⟩:=hp _ _ _ hg.hd (hρ _ _ hy);have hx':=(hρ _ _ hx).cM;have h5:(ρ y).cells.size=sz:=by rw[<-yt,h3.1,hsz]
 have hrun:=run_store (P:=P) (T:=T) (of:=of) (a:=ρ y) hs h1 h5 h4 (by simp;rw[h2.1];exact hlt);refine⟨w.setRow g (us.take of++(ρ y).cells.toList++us.drop (of+sz)).toArray,Dx hg hσ (mQ w g _) (.inl rfl) ⟨us.take of++(ρ y).cells.toList++us.drop (of+sz),?_,?_⟩,?_⟩
 ·have:=setRow_heap w g us.toArray (us.take of++(ρ y).cells.toList++us.drop (of+sz)).toArray t (0,0) h1;exact this
 ·have hal:∀b,b<w.heap.size->al C σ b->al C (σ.set i (.box g t (cs.take of++dS av++cs.drop (of+sz)))) b/\(w.setRow g (us.take of++(ρ y).cells.toList++us.drop (of+sz)).toArray).heap[b]? =w.heap[b]? :=λb hb hA=>by
   have hbk:=EC (r':=cK.box g t (cs.take of++dS av++cs.drop (of+sz))) hσ rfl;refine⟨⟨hA.1,by rw[hbk];exact hA.2⟩,setRow_other w g b _ (λe=>hA.2 (bS.2 ⟨_,List.mem_of_getElem? hσ,by rw[<-e];rfl⟩))⟩
  exact(((h2.take of).app h3).app (h2.drop (of+sz))).mono hal
 ·simp[execOp,ho,hx',hrun]
def Yu.Vv{kk of n m:Nat}{q:Nat}{l:aa (U.dF q)}(i:Nat)(qq:U.dF q)(ho:o.op= .store T x y)(hx:E.ev x=Q (.rp v kk))(hy:E.ev y=Q av)(hσ:σ[i]? =Q (.row v q l))(hs:(P.info? T).map (·.size)=Q n)(hp:C8 av=G)(hn:(dS av).length=n)
  (hk:kk=m*(U.sz q)+of) (hm:m<l.length) (hlt:of+n<=(U.sz q)) (hql:(U.cells q qq).length=U.sz q) (hq:∀A w us,bL A w ((U.cells q l[m]!).take of++dS av++(U.cells q l[m]!).drop (of+n)) us->bL A w (U.cells q qq) us):
  Yu P E σ o C (xP (gW v)) (σ.set i (.row v q (l.set m qq))):=λw ρ hg hρ=>by
 obtain⟨us,h1,h2,h3⟩:=hg.res _ (List.mem_of_getElem? hσ);obtain⟨h4,h5⟩:=(hρ _ _ hy).cells hp;obtain⟨g,hgb,hv⟩:=(hρ _ _ hx).GQ;obtain⟨g',cap,cur,hv',hgb',hB,q1,q2,q3,q4⟩:=h1.at (by omega);have hgg:g'=g:=by rw[hgb']at hgb;exact zO.inj hgb
 subst hgg;have h6':(ρ y).cells.toList.length=n:=by rw[h4.1,hn]
 have h6:(ρ y).cells.size=n:=by rw[<-yt,h6']
 have hmz:m*(U.sz q)+(U.sz q)<=l.length*(U.sz q):=by rw[<-yM];exact yN _ hm
 have hcz:l.length*(U.sz q)<=(cap+1)*(U.sz q):=yN _ q1;have hul:=h1.1;have hrun:=run_store (P:=P) (T:=T) (of:=kk) (a:=ρ y) hs hB h6 h5 (by rw[q3,hk];omega);have hlen:us.length=l.length*(U.sz q):=h1.1;have hmz2:∀j,j<l.length->j*(U.sz q)+(U.sz q)<=us.length:=λj hj=>by rw[hlen,<-yM];exact yN _ hj
 have hpart:∀b,al C (σ.set i (.row v q (l.set m qq))) b↔al C σ b:=λb=>by
  have hbk:=EC (r':=cK.row v q (l.set m qq)) hσ rfl;unfold al;rw[hbk]
 have hal:∀b,b<w.heap.size->al C σ b->al C (σ.set i (.row v q (l.set m qq))) b/\(w.setRow g' (cur.toList.take kk++(ρ y).cells.toList++cur.toList.drop (kk+n)).toArray).heap[b]? =w.heap[b]? :=λb hb hA=>
  ⟨(hpart b).2 hA,setRow_other w g' b _ (λe=>hA.2 (bS.2 ⟨_,List.mem_of_getElem? hσ,by rw[e];exact hgb⟩))⟩
 refine⟨w.setRow g' (cur.toList.take kk++(ρ y).cells.toList++cur.toList.drop (kk+n)).toArray,Dx (r:= .row v q l) hg hσ (by show Kp (xP (gW v)) _ _;rw[hgb];exact mQ w g' _) (.inl rfl) ⟨us.take kk++(ρ y).cells.toList++us.drop (kk+n),⟨?_, .inr ⟨g',cap,(cur.toList.take kk++(ρ y).cells.toList++cur.toList.drop (kk+n)).toArray,?_,?_,?_,q2,?_,?_⟩⟩,?_,?_⟩,by simp[execOp,ho,hv,hrun]⟩
 ·have:=hmz2 m hm;rw[zq,zq,z6,yh,yc,h6',hlen];omega
 ·rw[yc];exact hv'
 ·exact setRow_heap w g' cur _ q (0,0) hB
 ·rw[yc];exact q1
 ·have:=hmz2 m hm;rw[xk,zq,zq,z6,yh,h6',yt,q3];omega
 ·have hk':kk+n<=l.length*(U.sz q):=by omega
  have hc2:l.length*(U.sz q)<=cur.toList.length:=by rw[show cur.toList.length=cur.size from yt,q3];exact hcz
  rw[<-q4,yc];apply List.ext_getElem?;intro j;simp only[yF,xg,zq,z6,yA,h6',yt];have hcl:cur.size=(cap+1)*(U.sz q):=q3;by_cases e1:j<l.length*(U.sz q)
  ·rw[bt e1];by_cases e2:j<kk
   ·rw[bt (by omega),bt (by omega),bt (by omega),bt (by omega),bt (by omega),bt (by omega)];rw[bt (by omega)]
   ·by_cases e3:j<kk+n
    ·rw[bt (by omega),bF (by omega),bt (by omega),bF (by omega)]
     congr 1
     omega
    ·rw[bF (by omega),bF (by omega),bt (by omega)]
     congr 1
     omega
  ·rw[bF e1];rw[bF (by omega),bF (by omega)]
 ·intro j hj;rw[yc]at hj;by_cases hjm:j=m
  ·subst hjm;rw[getElem!_pos _ j (by rw[yc];exact hj),List.getElem_set_self];exact hql
  ·rw[getElem!_pos _ j (by rw[yc];exact hj),List.getElem_set_ne (Ne.symm hjm),<-getElem!_pos l j hj];exact h2 j hj
 ·intro j hj;rw[yc]at hj;have hb:=hmz2 j hj;have hbm:=hmz2 m hm;by_cases hjm:j=m
  ·subst hjm;rw[getElem!_pos _ j (by rw[yc];exact hj),List.getElem_set_self];refine hq _ _ _ ?_;have hL:=h3 j hj;have hz:=h2 j hj;have hR:=(((hL.take of).app h4).app (hL.drop (of+n))).mono hal;have e:((us.take kk++(ρ y).cells.toList++us.drop (kk+n)).drop (j*(U.sz q))).take (U.sz q)=((us.drop (j*(U.sz q))).take (U.sz q)).take of++(ρ y).cells.toList++((us.drop (j*(U.sz q))).take (U.sz q)).drop (of+n):=by
    apply List.ext_getElem?;intro a;simp only[yF,xg,zq,z6,yA,h6',yh];by_cases e1:a<(U.sz q)
    ·rw[bt e1];by_cases e2:a<of
     ·rw[bt (by omega),bt (by omega),bt (by omega),bt (by omega),bt (by omega),bt (by omega)];rw[bt (by omega)]
     ·by_cases e3:a<of+n
      ·rw[bt (by omega),bF (by omega),bt (by omega),bF (by omega)]
       congr 1
       omega
      ·rw[bF (by omega),bF (by omega),bt (by omega)]
       congr 1
       omega
    ·rw[bF e1,bF (by omega),bF (by omega)]
   rw[e];exact hR
  ·rw[getElem!_pos _ j (by rw[yc];exact hj),List.getElem_set_ne (Ne.symm hjm),<-getElem!_pos l j hj];have e:((us.take kk++(ρ y).cells.toList++us.drop (kk+n)).drop (j*(U.sz q))).take (U.sz q)=(us.drop (j*(U.sz q))).take (U.sz q):=by
    have hcase:j*(U.sz q)+(U.sz q)<=m*(U.sz q)\/m*(U.sz q)+(U.sz q)<=j*(U.sz q):=by
     rcases Nat.lt_or_gt_of_ne hjm with h|h
     ·left;rw[<-yM];exact yN _ h
     ·right;rw[<-yM];exact yN _ h
    apply List.ext_getElem?;intro a;simp only[yF,xg,zq,z6,yA,h6',yt];by_cases e1:a<(U.sz q)
    ·rw[bt e1,bt e1];rcases hcase with hc|hc
     ·rw[bt (by omega),bt (by omega),bt (by omega)]
     ·rw[bF (by omega)]
      congr 1
      omega
    ·rw[bF e1,bF e1]
   rw[e];exact(h3 j hj).mono hal
end
inductive F2 {α:Type} {β:Type} (R:α->β->Prop):List α->List β->Prop
 |nil:F2 R [] []
 |cons {a:α} {b:β} {as0:List α} {bs:List β} (h:R a b) (hs:F2 R as0 bs):F2 R (a::as0) (b::bs)
def UR(us:aa Value):∀(k off:Nat) (init:Array Value),off+k+us.length<=init.size->
  ((us.zipIdx k).foldl (λcs (p:Value×Nat)=>cs.setIfInBounds (off+p.2) p.1) init).toList=init.toList.take (off+k)++us++init.toList.drop (off+k+us.length):=by
 induction us with
 |nil=>intro k off init h;simp
 |cons u us ih=>
  intro k off init h;simp only[xh]at h;rw[List.zipIdx_cons,List.foldl_cons,ih (k+1) off _ (by simp;omega)];have h1:off+k<init.toList.length:=by simp;omega
  rw[Array.toList_setIfInBounds];have e1:(init.toList.set (off+k) u).take (off+(k+1))=init.toList.take (off+k)++[u]:=by
   rw[wT,bt h1];have e:off+(k+1)=(init.toList.take (off+k)).length+1:=by rw[z6];omega
   rw[e,List.take_length_add_append];simp
  have e2:(init.toList.set (off+k) u).drop (off+(k+1)+us.length)=init.toList.drop (off+k+(us.length+1)):=by
   rw[List.drop_set_of_lt (by omega)]
   congr 1
   omega
  rw[e1,e2];simp
def placesOf(P:Program)(T:TypeId):ah (aa (Nat×Nat)):=match P.underlying T with
 |some (.struct fields)=>fields.toList.mapM λf=>(P.info? f.type).map λi=>(f.offset,i.size)
 |_=>V
def jY(P:Program)(T:TypeId):ah (aa Value):=(P.info? T).bind λi=>i.zero.map (·.cells.toList)
section
variable {P:Program} {E:Env} {σ:aa cK} {o:Oper} {T T' e:TypeId} {x y z:Operand} {av bv:AV} {v u:Value} {m n:Int} {b:Bool} {k:IntKind} {C:Cx} {X:aa Nat}
def KB{ps:Array (Nat×Operand)}{ρ:Operand->Value}:(ps.map λ(i,x)=>(i,ρ x)).toList=ps.toList.map λp=>(p.1,ρ p.2):=by
 rw[Array.toList_map]
def lC{q:Nat}:∀(l:aa (U.dF q)),(∀i,i<l.length->(U.cells q l[i]!).length=(U.sz q))->(l.flatMap (U.cells q)).length=l.length*(U.sz q)/\∀i,i<l.length->((l.flatMap (U.cells q)).drop (i*(U.sz q))).take (U.sz q)=U.cells q l[i]!
 |[],_=>⟨by simp,λi hi=>by cases hi⟩
 |x::l,h=>by
  have h0:(U.cells q x).length=(U.sz q):=h 0 (by simp);obtain⟨h1,h2⟩:=lC l λi hi=>by
   have:=h (i+1) (by simpa using hi)
   rwa [show (x::l)[i+1]! =l[i]! from by rw[getElem!_pos _ (i+1) (by simpa using hi),getElem!_pos l i hi];rfl]at this
  refine⟨by rw[xF,zq,h0,h1,xh,yM];omega,λi hi=> ?_⟩;rw[xF];cases i with
  |zero=>
   rw[Nat.zero_mul,wm,<-h0,List.take_left']
   ·rfl
   ·rfl
  |succ i=>
   have hi':i<l.length:=by simpa using hi
   rw[show (x::l)[i+1]! =l[i]! from by rw[getElem!_pos _ (i+1) (by simpa using hi'),getElem!_pos l i hi'];rfl,<-h2 i hi'];rw[show (i+1)*(U.sz q)=(U.cells q x).length+i*(U.sz q)from by rw[h0,yM];omega,<-zW,List.drop_left'];rfl
def EA{A:Nat->Prop}{w:World}{q:Nat}{l:aa (U.dF q)}{us:aa Value}(hr:iD w v q (U.sz q) l.length us)(hz:∀i,i<l.length->(U.cells q l[i]!).length=(U.sz q))(h:bL A w (l.flatMap (U.cells q)) us):cK.ok A w (.row v q l):=
 ⟨us,hr,hz,λi hi=>by rw[<-(lC l hz).2 i hi];exact(h.drop _).take _⟩
def D9{A:Nat->Prop}{w:World}{q:Nat}{l:aa (U.dF q)}(h:cK.ok A w (.row v q l)):∃us,iD w v q (U.sz q) l.length us/\(∀i,i<l.length->(U.cells q l[i]!).length=(U.sz q))/\bL A w (l.flatMap (U.cells q)) us:=by
 obtain⟨us,h1,h2,h3⟩:=h;refine⟨us,h1,h2,?_⟩;obtain⟨f1,f2⟩:=lC l h2;refine⟨by rw[f1,h1.1],λj a u ha hu=> ?_⟩;have hj:j<l.length*(U.sz q):=by rw[<-f1];exact(ya.1 ha).1
 have hsz:0<(U.sz q):=by
  rcases Nat.eq_zero_or_pos (U.sz q)with h|h
  ·rw[h]at hj;omega
  ·exact h
 have hi:j/(U.sz q)<l.length:=by rw[Nat.div_lt_iff_lt_mul hsz];exact hj
 have hm:j%(U.sz q)<(U.sz q):=y6 _ hsz;have he:j/(U.sz q)*(U.sz q)+j%(U.sz q)=j:=by rw[Nat.mul_comm];exact wJ j (U.sz q)
 refine(h3 _ hi).2 (j%(U.sz q)) a u ?_ ?_
 ·rw[<-f2 _ hi,yF,bt hm,yA,he];exact ha
 ·rw[yF,bt hm,yA,he];exact hu
def get_append_left!{q:Nat}(l l2:aa (U.dF q))(i:Nat)(h:i<l.length):(l++l2)[i]! =l[i]! :=by
 rw[getElem!_pos _ i (by rw[zq];omega),xG h,<-getElem!_pos l i h]
def get_append_right!{q:Nat}(l l2:aa (U.dF q))(i:Nat)(h:l.length<=i)(h2:i<l.length+l2.length):(l++l2)[i]! =l2[i-l.length]! :=by
 rw[getElem!_pos _ i (by rw[zq];exact h2),xm h,<-getElem!_pos l2 (i-l.length) (by omega)]
def Lt{q:Nat}{l l2:aa (U.dF q)}(h:∀i,i<l.length->(U.cells q l[i]!).length=(U.sz q))(h2:∀i,i<l2.length->(U.cells q l2[i]!).length=(U.sz q)):∀i,i<(l++l2).length->(U.cells q (l++l2)[i]!).length=(U.sz q):=λi hi=>by
 rw[zq]at hi;by_cases hlt:i<l.length
 ·rw[get_append_left! _ _ _ hlt];exact h i hlt
 ·rw[get_append_right! _ _ _ (by omega) hi];exact h2 _ (by omega)
def PF{zs:aa Value}{sz n:Nat}(hsz:zs.length=sz)(hpos:0<sz):((Array.range (n*sz)).map (zs.toArray[· %zs.toArray.size]!)).toList=(zy n zs).flatten:=by
 apply List.ext_getElem?;intro j;have hfl:(zy n zs).flatten.length=n*sz:=by simp[hsz]
 have hq:∀(q:Nat) (j:Nat),j<q*sz->(zy q zs).flatten[j]? =zs[j%sz]? :=by
  intro q;induction q with
  |zero=>intro j hj;simp at hj
  |succ q ih=>
   intro j hj;rw[yP,wK,xg];split
   ·rename_i h;rw[hsz]at h;rw[Nat.mod_eq_of_lt h]
   ·rename_i h;rw[hsz]at h;rw[hsz,ih _ (by rw[yM]at hj;omega),Nat.mod_eq_sub_mod (by omega:sz<=j)]
 by_cases hj:j<n*sz
 ·rw[hq n j hj];have hmod:j%sz<sz:=y6 _ hpos;simp[hj,hsz,hmod]
 ·rw[wI (l:=(zy n zs).flatten) (by rw[hfl];omega)];simp[hj]
def Yv.lit{len:Nat}{ps:Array (Nat×Operand)}{zs:aa Value}(l:aa (U.dF e))(ho:o.op= .buildSlice T len ps)(hT:P.underlying T=Q (.slice e))(hs:(P.info? e).map (·.size)=Q (U.sz e))(hz:jY P e=Q zs)
  (hzl:zs.length=(U.sz e)) (hf:∀A w ρ,Hd A σ w->MO A w E ρ->∃us:Array Value,Instr.fill (λi=>Q (i*(U.sz e),(U.sz e))) (zy len zs).flatten.toArray (ps.toList.map λp=>(p.1,ρ p.2))=Q us/\bL A w (l.flatMap (U.cells e)) us.toList) (hl:l.length=len) (hu:∀i,i<l.length->(U.cells e l[i]!).length=(U.sz e)) (hpos:0<len*(U.sz e)) (hsm:len*(U.sz e)<=2^24):
  Yv P E σ o C [] (λa σ'=>∃v,a= .lit v/\σ'= .row v e l::σ):=λw ρ hg hρ=>by
 obtain⟨it,hit,hz1⟩:=zx.1 hz;obtain⟨zv,hz2,hz3⟩:=zu.1 hz1;obtain⟨ie,hie,hse⟩:=zu.1 hs;have hee:it=ie:=by rw[hit]at hie;exact zO.inj hie
 subst hee;have hzc:zv.cells=zs.toArray:=by rw[<-hz3]
 obtain⟨us,h1,h2⟩:=hf _ w ρ hg.hd hρ;have hrun:=run_buildSlice (P:=P) w T e len (ps.map λ(i,x)=>(i,ρ x)) us it zv hT hit hz2 (by rw[hse];omega) (by rw[hse];omega) (by
  rw[hse,hzc,KB,<-h1]
  congr 1
  apply Array.ext';exact PF hzl (Nat.pos_of_mul_pos_left hpos))
 have hlp:0<len:=Nat.pos_of_mul_pos_right hpos;have hlen:us.toList.length=len*(U.sz e):=by rw[h2.1,(lC l hu).1,hl]
 refine⟨_,w.alloc (.cells us e),_,_,⟨.slice (Q ⟨w.heap.size,0,V⟩) len len,rfl,rfl⟩,?_,by simp[execOp,ho,hrun], .lit _⟩;obtain⟨ln,rfl⟩:∃ln,len=ln+1:=⟨len-1,by omega⟩;refine pF (r:= .row (.slice (Q ⟨w.heap.size,0,V⟩) (ln+1) (ln+1)) e l) hg (kf w _) (.inr rfl) (EA (us:=us.toList) ?_ hu ?_)
 ·rw[hl];refine⟨hlen, .inr ⟨w.heap.size,ln,us,rfl,heap_alloc_new w _,zI _,?_,by rw[<-yt,hlen],by rw[<-hlen,zR]⟩⟩;have:ln+1<=(ln+1)*(U.sz e):=Nat.le_mul_of_pos_right _ (Nat.pos_of_mul_pos_left hpos);unfold maxLen;omega
 ·exact Mw (r:= .row (.slice (Q ⟨w.heap.size,0,V⟩) (ln+1) (ln+1)) e l) h2 (.inr rfl) (kf w _)
def Yv.avt{s:Nat}(ho:o.op= .buildSlice T 0 #[])(hT:P.underlying T=Q (.slice e))(hs:(P.info? e).map (·.size)=Q s):Yv P E σ o C [] (λa σ'=>∃v,a= .lit v/\σ'= .row v e ([]:aa (U.dF e))::σ):=λw ρ hg hρ=>by
 obtain⟨j,hj,hj'⟩:=zu.1 hs;refine⟨_,w.alloc (.cells #[] e),_,_,⟨.slice (Q ⟨w.heap.size,0,V⟩) 0 0,rfl,rfl⟩,pF hg (kf w _) (.inl rfl) ⟨[],⟨by simp, .inl ⟨_,rfl,rfl⟩⟩,λi hi=>by simp at hi,λi hi=>by simp at hi⟩,?_, .lit _⟩;simp[execOp,ho,Instr.buildSlice,run_underlying hT,sizeOf,typeInfo,hj,Instr.fill,newRow];rw[show Array.range 0=#[]from rfl,Array.map_empty]
def Yv.make{by':Nat}{zs:aa Value}(d:U.dF e)(ho:o.op= .makeSlice T x y)(hx:E.ev x=Q (.i m))(hy:E.ev y=Q (.i n))(hT:P.underlying T=Q (.slice e))(hs:(P.info? e).map (λi=>(i.size,i.bytes))=Q ((U.sz e),by'))(hz:jY P e=Q zs)(hb:yj by' 4096=G)(hsz:zs.length=(U.sz e))(hd:∀A w,bL A w (U.cells e d) zs)(hpos:0<(U.sz e))
  (hm:0<=m/\m<=n/\n<=1073741824):Yv P E σ o C [] (λa σ'=>∃v,a= .lit v/\σ'= .row v e (zy m.toNat d)::σ):=λw ρ hg hρ=>by
 obtain⟨it,hit,hz1⟩:=zx.1 hz;obtain⟨zv,hz2,hz3⟩:=zu.1 hz1;obtain⟨ie,hie,hse⟩:=zu.1 hs;have hee:it=ie:=by rw[hit]at hie;exact zO.inj hie
 subst hee;simp only[Prod.mk.injEq]at hse;obtain⟨s1,s2⟩:=hse;have hzc:zv.cells=zs.toArray:=by rw[<-hz3]
 have hby:by'<=4096:=by simpa using hb
 obtain⟨mm,rfl⟩:∃mm:Nat,m=mm:=⟨m.toNat,by omega⟩;obtain⟨nn,rfl⟩:∃nn:Nat,n=nn:=⟨n.toNat,by omega⟩;have hbb:(it.bytes:Int)*(nn:Int)<=281474976710656:=by
  have h1:it.bytes*nn<=4096*1073741824:=Nat.mul_le_mul (by omega) (by omega);have h':((it.bytes*nn:Nat):Int)<=281474976710656:=by omega
  rwa [xo]at h'
 have hrun:=run_make (P:=P) w T e it zv hT hit hz2 .i64 .i64 mm nn (by omega) (by omega) hbb (by omega);rw[zi,zi]at hrun;have hx':=(hρ _ _ hx).cM;have hy':=(hρ _ _ hy).cM;refine⟨.slice (Q ⟨w.heap.size,0,V⟩) mm nn,w.alloc (.cells (madeCells zv.cells (nn*it.size)) e),_,_,⟨.slice (Q ⟨w.heap.size,0,V⟩) mm nn,rfl,rfl⟩,?_,?_, .lit _⟩
 ·rw[zi];have hcells:(madeCells zv.cells (nn*it.size)).toList=(zy nn zs).flatten:=by
   rw[hzc,s1];unfold madeCells;apply List.ext_getElem?;intro j;have hfl:(zy nn zs).flatten.length=nn*(U.sz e):=by simp[hsz]
   have hq:∀(q:Nat) (j:Nat),j<q*(U.sz e)->(zy q zs).flatten[j]? =zs[j%(U.sz e)]? :=by
    intro q;induction q with
    |zero=>intro j hj;simp at hj
    |succ q ih=>
     intro j hj;rw[yP,wK,xg];split
     ·rename_i h;rw[hsz]at h;rw[Nat.mod_eq_of_lt h]
     ·rename_i h;rw[hsz]at h;rw[hsz,ih _ (by rw[yM]at hj;omega),Nat.mod_eq_sub_mod (by omega:(U.sz e)<=j)]
   by_cases hj:j<nn*(U.sz e)
   ·rw[hq nn j hj];have hmod:j%(U.sz e)<(U.sz e):=y6 _ hpos;simp[hj,hsz,hmod]
   ·rw[wI (l:=(zy nn zs).flatten) (by rw[hfl];omega)];simp[hj]
  by_cases hn0:nn=0
  ·have hm0:mm=0:=by omega
   subst hn0 hm0;exact pF hg (kf w _) (.inl rfl) ⟨[],⟨by simp, .inl ⟨_,rfl,rfl⟩⟩,λi hi=>by simp at hi,λi hi=>by simp at hi⟩
  ·obtain⟨nk,rfl⟩:∃nk,nn=nk+1:=⟨nn-1,by omega⟩;have hu:∀i,i<(zy mm d).length->(U.cells e (zy mm d)[i]!).length=(U.sz e):=λi hi=>by
    rw[getElem!_pos _ i hi,List.getElem_replicate,<-(hd (λ_=>True) w).1,hsz]
   have hfl:∀q,(zy q zs).flatten.length=q*(U.sz e):=λq=>by simp[hsz]
   have hfl2:∀(A:Nat->Prop) (w:World) (q:Nat),bL A w ((zy q d).flatMap (U.cells e)) (zy q zs).flatten:=λA w q=>by
    induction q with
    |zero=>exact bL.nil
    |succ q ih=>rw[yP,yP,xF,wK];exact(hd A w).app ih
   have htk:∀q q':Nat,q<=q'->((zy q' zs).flatten).take (q*(U.sz e))=(zy q zs).flatten:=λq q' h=>by
    obtain⟨r,rfl⟩:∃r,q'=q+r:=⟨q'-q,by omega⟩;rw[<-List.replicate_append_replicate,List.flatten_append,<-hfl q];exact List.take_left
   refine pF (r:= .row (.slice (Q ⟨w.heap.size,0,V⟩) mm (nk+1)) e (zy mm d)) hg (kf w _) (.inr rfl) (EA (us:=(zy mm zs).flatten) ?_ hu ?_)
   ·rw[wo];refine⟨hfl mm, .inr ⟨w.heap.size,nk,_,rfl,heap_alloc_new w _,by omega,by unfold maxLen;omega,?_,by rw[hcells];exact htk _ _ (by omega)⟩⟩;rw[<-yt,hcells,hfl]
   ·exact hfl2 _ _ _
 ·simp[execOp,ho,hx',hy',hrun]
def Dw{w:World}{ty:TypeId}{i:TypeInfo}{zz:Value}{sz by' nn mm:Nat}{us news:aa Value}{xs:Value}(ht:P.underlying T=Q (.slice e))(hi:P.info? e=Q i)(hz:i.zero=Q zz)(hs:i.size=sz)(hby:i.bytes=by')(hzs:zz.cells.size=sz)
  (hrow:iD w v e sz nn us) (hx:∃p c,xs= .slice p mm c/\(mm=0\/∃a,p=Q a/\∀j u,news[j]? =Q u->w.cell? (a.add j)=Q u)) (hl:news.length=mm*sz) (h1:∀u∈news,u.oneCell'=G) (h63:nn+mm<=maxLen) (hb:(nn+mm)*by'<=140737488355328):
  ∃v' w',(Builtin.append_ #[T,T] ty #[v,xs]).run P w= .ok v' w'/\iD w' v' e sz (nn+mm) (us++news)/\Kp (gW v).toList w w'/\(gW v'=gW v\/gW v'=Q w.heap.size):=by
 subst hs hby
 obtain⟨p,cx,rfl,hx⟩:=hx;by_cases hm:mm=0
 ·subst hm;have hn:news=[]:=xp (by simpa using hl);subst hn;obtain⟨q,cap,rfl,hcap⟩:=hrow.len;have hf:∀w,(Builtin.firstCells i.size 0 (.slice p 0 cx)).run P w= .ok #[] w:=λw=>by
   cases p<;>simp[Builtin.firstCells,loadCells,loadCellsFrom]
  have hrun:(Builtin.append_ #[T,T] ty #[.slice q nn cap, .slice p 0 cx]).run P w= .ok (.slice q nn cap) w:=by
   cases q<;>simp[Builtin.append_,run_underlying ht,sizeOf,typeInfo,hi,Builtin.lenOf,hf,hcap,storeCells]
  exact⟨_,w,hrun,by simpa using hrow,Kp.refl _ _, .inl rfl⟩
 ·obtain⟨a,rfl,hc⟩:=hx.resolve_left hm;have grown:∀(olds:aa Value) (old:Nat),olds.length=nn*i.size->old<nn+mm->us=olds->
    iD (w.drew.alloc (.cells (olds.toArray++news.toArray++Builtin.zeroCells zz.cells (grownCap w (nn+mm) old e-(nn+mm))) e)) (.slice (Q ⟨w.heap.size,0,V⟩) (nn+mm) (grownCap w (nn+mm) old e)) e i.size (nn+mm) (us++news):=by
   intro olds old hol hlt hus;subst hus;have hge:=grownCap_ge w (nn+mm) old e;have hcm:=grownCap_le_maxLen w (nn+mm) old e h63;obtain⟨ck,hck⟩:∃ck,grownCap w (nn+mm) old e=ck+1:=⟨grownCap w (nn+mm) old e-1,by omega⟩;refine⟨by rw[zq,hol,hl,yd], .inr ⟨w.heap.size,ck,_,by rw[hck],heap_alloc_new w.drew _,by omega,by omega,?_,?_⟩⟩
   ·rw[<-hck];simp only[Array.size_append,xk,size_zeroCells,hzs,hol,hl,<-yd]
    congr 1
    omega
   ·simp only[Array.toList_append,xq];rw[<-xq,show (nn+mm)*i.size=(us++news).length from by rw[zq,hol,hl,yd]];exact List.take_left
  rcases hrow.2 with ⟨q,rfl,rfl⟩|⟨g,cap,cur,rfl,hg,hnc,hcm,hcs,htake⟩
  ·have hu:us=[]:=xp (by simpa using hrow.1);have hgr:=grown [] 0 (by simp) (by omega) hu;rw[yJ]at hgr hb h63;have hgc:=grownCap_ge w mm 0 e;have hrb:gW (.slice (Q ⟨w.heap.size,0,V⟩) mm (grownCap w mm 0 e))=Q w.heap.size:=by
    obtain⟨ck,hck⟩:∃ck,grownCap w mm 0 e=ck+1:=⟨grownCap w mm 0 e-1,by omega⟩;rw[hck];rfl
   have h63':(mm:Int)<=9223372036854775807:=by unfold maxLen at h63;omega
   cases q with
   |none=>
    have hr:=run_append_nil (P:=P) w T ty e i zz ht hi hz a mm cx news hl hc (by omega) h63' (by omega);refine⟨_,_,hr,?_,Gv w _, .inr hrb⟩;rw[yJ];simpa using hgr
   |some b=>
    have hr:=run_append_grow (P:=P) w T ty e i zz ht hi hz b 0 0 [] (by simp) (λj v hj=>by cases hj) a mm cx news hl hc (by omega) (by simpa using h63') (growslice_fits (by omega) (by rw[yJ];exact hb));refine⟨_,_,hr,?_,Gv w _, .inr (by rw[yJ];exact hrb)⟩;rw[yJ];exact hgr
  ·by_cases hroom:nn+mm<=cap+1
   ·have hfit:nn*i.size+news.length<=cur.size:=by rw[hl,hcs,<-yd];exact yN _ hroom
    have hr:=run_append_room (P:=P) w T ty e i ht hi g nn (cap+1) cur hg a mm cx news hl hc h1 hroom hfit;refine⟨_,_,hr,⟨by rw[zq,hrow.1,hl,yd], .inr ⟨g,cap,_,rfl,setRow_heap w g cur _ e _ hg,hroom,hcm,?_,?_⟩⟩,mQ w g _, .inl rfl⟩
    ·simp only[xk,zq,z6,yh,yt];omega
    ·rw[htake,show (nn+mm)*i.size=(us++news).length from by rw[zq,hrow.1,hl,yd]];exact List.take_left
   ·have holds:∀j v,us[j]? =Q v->w.cell? ((⟨g,0,V⟩:Addr).add j)=Q v:=λj v hj=>by
     rw[pL,yJ];exact hrow.cells rfl j v hj
    have h63':((nn+mm:Nat):Int)<=9223372036854775807:=by unfold maxLen at h63;omega
    have hr:=run_append_grow (P:=P) w T ty e i zz ht hi hz ⟨g,0,V⟩ nn (cap+1) us hrow.1 holds a mm cx news hl hc (by omega) h63' (growslice_fits (by omega) hb);have hgr:=grown us (cap+1) hrow.1 (by omega) rfl;have hgc:=grownCap_ge w (nn+mm) (cap+1) e;refine⟨_,_,hr,hgr,⟨rfl,rfl,rfl,by simp,λk hk _=>heap_alloc_old w.drew _ hk⟩, .inr ?_⟩;obtain⟨ck,hck⟩:∃ck,grownCap w (nn+mm) (cap+1) e=ck+1:=⟨grownCap w (nn+mm) (cap+1) e-1,by omega⟩;rw[hck];rfl
def Src(σ:aa cK)(E:Env)(x:Operand)(e:TypeId)(l:aa (U.dF e)):Prop:=
 (∃p c,E.ev x=Q (.lit (.slice p 0 c))/\l=[])\/E.ev x=Q (.sl e l)\/∃(i:Nat) (v:Value),E.ev x=Q (.lit v)/\σ[i]? =Q (.row v e l)
def Src.spec{q:Nat}{l:aa (U.dF q)}{A:Nat->Prop}{w:World}{ρ:Operand->Value}(h:Src σ E x q l)(hd:Hd A σ w)(hρ:MO A w E ρ):∃p cap news,ρ x= .slice p l.length cap/\(l.length=0\/∃a,p=Q a/\∀j u,news[j]? =Q u->w.cell? (a.add j)=Q u)/\news.length=l.length*(U.sz q)/\(∀i,i<l.length->(U.cells q l[i]!).length=(U.sz q))/\bL A w (l.flatMap (U.cells q)) news/\l.length<=9223372036854775807:=by
 rcases h with ⟨p,c,h,rfl⟩|h|⟨i,v,h,hσ⟩
 ·exact⟨p,c,[],(hρ _ _ h).cM, .inl rfl,by simp,λi hi=>by simp at hi,bL.nil,by simp⟩
 ·have hr:=hρ _ _ h;obtain⟨p,cap,u,hv,hl,_,hz,hc,hcr⟩:=hr.tY;rw[hv]at hr
  let news:aa Value:=(zP l.length).flatMap λi=>(zP (U.sz q)).map λj=>u i j
  have hnl:∀(z:aa Nat),(z.flatMap λi=>(zP (U.sz q)).map λj=>u i j).length=z.length*(U.sz q):=λz=>by
   induction z with
   |nil=>simp
   |cons a z ih=>rw[xF,zq,ih,zL,xC,xh,yM];omega
  have hnews:news.length=l.length*(U.sz q):=by rw[hnl,xC]
  have hget:∀n i j,i<n->j<(U.sz q)->((zP n).flatMap λi=>(zP (U.sz q)).map λj=>u i j)[i*(U.sz q)+j]? =Q (u i j):=by
   intro n;induction n with
   |zero=>intro i j hi _;omega
   |succ n ih=>
    intro i j hi hj;rw[List.range_succ,List.flatMap_append,xg,hnl,xC];by_cases hin:i<n
    ·have:i*(U.sz q)+(U.sz q)<=n*(U.sz q):=by rw[<-yM];exact yN _ hin
     rw[bt (by omega)];exact ih i j hin hj
    ·have:i=n:=by omega
     subst this;rw[bF (by omega)];simp[hj]
  refine⟨p,cap,news,hv,?_,hnews,hz,?_,hl⟩
  ·by_cases h0:l.length=0
   ·exact .inl h0
   ·obtain⟨b,off,hp,hb,hA,hcc⟩:=hc 0 (by omega);refine .inr ⟨⟨b,off,V⟩,hp,λj v hj=> ?_⟩;have hjl:j<l.length*(U.sz q):=by rw[<-hnews];exact(ya.1 hj).1
    have hsz:0<(U.sz q):=by
     rcases Nat.eq_zero_or_pos (U.sz q)with h|h
     ·rw[h]at hjl;omega
     ·exact h
    have hi:j/(U.sz q)<l.length:=by rw[Nat.div_lt_iff_lt_mul hsz];exact hjl
    have hm:j%(U.sz q)<(U.sz q):=y6 _ hsz;have he:j/(U.sz q)*(U.sz q)+j%(U.sz q)=j:=by rw[Nat.mul_comm];exact wJ j (U.sz q)
    have h2:=hget l.length (j/(U.sz q)) (j%(U.sz q)) hi hm;rw[he]at h2;have h3:Q v=Q (u (j/(U.sz q)) (j%(U.sz q))):=by rw[<-hj,<-h2]
    cases h3;obtain⟨b',off',hp',_,_,hcc'⟩:=hc (j/(U.sz q)) hi;rw[hp]at hp';cases hp';have h4:=hcc' (j%(U.sz q)) hm;rw[pL,show off+j=off+j/(U.sz q)*(U.sz q)+j%(U.sz q)from by omega];exact h4
  ·obtain⟨f1,f2⟩:=lC l hz;refine⟨by rw[f1,hnews],λj a w' ha hw'=> ?_⟩;have hjl:j<l.length*(U.sz q):=by rw[<-hnews];exact(ya.1 hw').1
   have hsz:0<(U.sz q):=by
    rcases Nat.eq_zero_or_pos (U.sz q)with h|h
    ·rw[h]at hjl;omega
    ·exact h
   have hi:j/(U.sz q)<l.length:=by rw[Nat.div_lt_iff_lt_mul hsz];exact hjl
   have hm:j%(U.sz q)<(U.sz q):=y6 _ hsz;have he:j/(U.sz q)*(U.sz q)+j%(U.sz q)=j:=by rw[Nat.mul_comm];exact wJ j (U.sz q)
   have h2:=hget l.length (j/(U.sz q)) (j%(U.sz q)) hi hm;rw[he]at h2;have h3:Q w'=Q (u (j/(U.sz q)) (j%(U.sz q))):=by rw[<-hw',<-h2]
   cases h3;refine hcr (j/(U.sz q)) (j%(U.sz q)) a hi ?_;rw[<-f2 _ hi,yF,bt hm,yA,he];exact ha
 ·obtain⟨us,h1,h2,h3⟩:=D9 (hd.1 _ (List.mem_of_getElem? hσ));obtain⟨p,cap,hv,_⟩:=h1.len;have hx':=(hρ _ _ h).cM;have hlm:l.length<=9223372036854775807:=by
   rcases h1.2 with ⟨_,_,h⟩|⟨_,_,_,_,_,q1,q2,_⟩
   ·omega
   ·unfold maxLen at q2;omega
  refine⟨p,cap,us,by rw[hx',hv],?_,h1.1,h2,h3,hlm⟩;by_cases h0:l.length=0
  ·exact .inl h0
  ·obtain⟨g,ck,cur,hv2,hgb,_⟩:=h1.at (by omega);rw[hv2]at hv;cases hv;refine .inr ⟨_,rfl,λj u hj=> ?_⟩;rw[pL,yJ];exact h1.cells hgb j u hj
def Yv.app{by':Nat}{l l2:aa (U.dF e)}{zs:aa Value}(i:Nat)(ho:o.op= .call {callee:= .builtin .append,args:=#[x,y],argTypes:=#[T,T]})(hx:E.ev x=Q (.lit v))(hσ:σ[i]? =Q (.row v e l))(hy:Src σ E y e l2)(hT:P.underlying T=Q (.slice e))(hs:(P.info? e).map (λi=>(i.size,i.bytes))=Q ((U.sz e),by'))(hz:jY P e=Q zs)(hzl:zs.length=(U.sz e))(hb:yj by' 4096=G)
  (h1:∀x:U.dF e,(U.cells e x).all iF=G) (hlen:(l++l2).length<=1073741824):Yv P E σ o C (xP (gW v)) (λa σ'=>∃v',a= .lit v'/\σ'=σ.set i (.row v' e (l++l2))):=λw ρ hg hρ=>by
 obtain⟨it,hit,hz1⟩:=zx.1 hz;obtain⟨zv,hz2,hz3⟩:=zu.1 hz1;obtain⟨ie,hie,hse⟩:=zu.1 hs;have hee:it=ie:=by rw[hit]at hie;exact zO.inj hie
 subst hee;simp only[Prod.mk.injEq]at hse;obtain⟨s1,s2⟩:=hse;have hby:by'<=4096:=by simpa using hb
 obtain⟨us,g1,g2,g3⟩:=D9 (hg.res _ (List.mem_of_getElem? hσ));obtain⟨p,cap,news,q1,q2,q3,q4,q5,q6⟩:=hy.spec hg.hd hρ;have hx':=(hρ _ _ hx).cM;have hone:∀u∈news,u.oneCell'=G:=q5.one (by
  rw[zA];intro a ha;obtain⟨x,_,hx⟩:=xQ.1 ha;exact zA.1 (h1 x) a hx)
 rw[zq]at hlen;have hbytes:(l.length+l2.length)*by'<=140737488355328:=by
  have:(l.length+l2.length)*by'<=1073741824*4096:=Nat.mul_le_mul hlen hby
  omega
 obtain⟨v',w',r1,r2,r3,r4⟩:=Dw (P:=P) (T:=T) (ty:=o.type) (xs:=ρ y) hT hit hz2 s1 s2 (by rw[<-yt,hz3,hzl]) g1 ⟨p,cap,q1,q2⟩ q3 hone (by unfold maxLen;omega) hbytes;refine⟨v',w',_,_,⟨v',rfl,rfl⟩,Dx (r:= .row v e l) hg hσ r3 r4 (EA (by rw[zq];exact r2) (Lt g2 q4) ?_),?_, .lit _⟩
 ·rw[List.flatMap_append];refine(g3.app q5).mono λb hb hA=>⟨⟨hA.1,λhx=> ?_⟩,r3.block b hb (λhx=>hA.2 (bS.2 ⟨_,List.mem_of_getElem? hσ,by simpa [cK.blk]using hx⟩))⟩;obtain⟨s,hs1,hs2⟩:=bS.1 hx;rcases List.mem_or_eq_of_mem_set hs1 with h|h
  ·exact hA.2 (bS.2 ⟨s,h,hs2⟩)
  ·rw[h]at hs2;rcases r4 with r4|r4
   ·exact hA.2 (bS.2 ⟨_,List.mem_of_getElem? hσ,r4.symm.trans hs2⟩)
   ·have:Q w.heap.size=Q b:=r4.symm.trans hs2;cases this;omega
 ·simp[execOp,ho,resolve,invoke,builtin,hx',r1]
end
def Rel.akh{A:Nat->Prop}{w:World}{qt:Nat}{l:aa (U.dF qt)}{p:ah Addr}{cap:Nat}(h:Rel A w (.sl qt l) (.slice p l.length cap)){lo hi cap':Nat}(h1:lo<=hi)(h2:hi<=l.length)(hc':hi-lo<=cap')(q:ah Addr)(hq:hi-lo=0\/q=p.map (·.add (lo*(U.sz qt)))):
  Rel A w (.sl qt ((l.take hi).drop lo)) (.slice q (hi-lo) cap'):=by
 obtain⟨p',cp,u,hv,hl,hcap,hz,hc,hr⟩:=h.tY;cases hv;have hln:((l.take hi).drop lo).length=hi-lo:=by rw[yh,z6];omega
 have hget:∀i,i<hi-lo->((l.take hi).drop lo)[i]! =l[lo+i]! :=λi hi'=>by
  rw[getElem!_pos _ i (by rw[hln];exact hi'),getElem!_pos l (lo+i) (by omega),xH,wL]
 have hgoal:Rel A w (.sl qt ((l.take hi).drop lo)) (.slice q ((l.take hi).drop lo).length cap'):=by
  refine .sl qt _ q cap' (λi j=>u (lo+i) j) (by omega) (by omega) (λi hi'=> ?_) (λi hi'=> ?_) (λi j a hi' ha=> ?_)
  ·rw[hln]at hi';rw[hget i hi'];exact hz _ (by omega)
  ·rw[hln]at hi';obtain⟨b,off,hp,hb,hA,hcc⟩:=hc (lo+i) (by omega);refine⟨b,off+lo*(U.sz qt),?_,hb,hA,λj hj=> ?_⟩
   ·rcases hq with hq|hq
    ·omega
    ·rw[hq,hp,yx,pL]
   ·have:=hcc j hj
    rwa [yd,<-wh]at this
  ·rw[hln]at hi';rw[hget i hi']at ha;exact hr _ j a (by omega) ha
 rwa [hln]at hgoal
section
variable {P:Program} {E E':Env} {σ σ':aa cK} {o:Oper} {T T' e:TypeId} {x y z:Operand} {av bv:AV} {v u:Value} {m n:Int} {b:Bool} {k k':IntKind} {C:Cx} {X:aa Nat}
def T8{w:World}{a:ah Addr}{len cap lo hi:Nat}{s:Nat}{L H:ah Value}(hT:P.underlying T=Q (.slice e))(hs:(P.info? e).map (·.size)=Q s)
  (hb:(Instr.sliceBounds G len cap L H V).run P w= .ok (lo,hi,cap) w):(Instr.slice T (.slice a len cap) L H V).run P w= .ok (.slice (if cap=lo then a else a.map (·.add (lo*s))) (hi-lo) (cap-lo)) w:=by
 obtain⟨j,hj,hj'⟩:=zu.1 hs;simp[Instr.slice,run_underlying hT,hb,sizeOf,typeInfo,hj,hj']
def Mx{w:World}{len cap:Nat}(hh:0<=m/\m<=n/\n<=(len:Int))(hc:len<=cap):(Instr.sliceBounds G len cap (Q (.int k m)) (Q (.int k' n)) V).run P w= .ok (m.toNat,n.toNat,cap) w:=by
 have h1:0<=n/\n<=(cap:Int):=by omega
 have h2:0<=m/\m<=((n.toNat:Nat):Int):=by omega
 simp[Instr.sliceBounds,Instr.sliceBound,asIntOf,h1];intro hc;exfalso;have:=hc (by omega);omega
def TM{w:World}{len cap:Nat}(hh:0<=n/\n<=(len:Int))(hc:len<=cap):(Instr.sliceBounds G len cap V (Q (.int k' n)) V).run P w= .ok (0,n.toNat,cap) w:=by
 have h1:0<=n/\n<=(cap:Int):=by omega
 simp[Instr.sliceBounds,Instr.sliceBound,asIntOf,h1]
def Uk{w:World}{len cap:Nat}(hh:0<=m/\m<=(len:Int)):(Instr.sliceBounds G len cap (Q (.int k m)) V V).run P w= .ok (m.toNat,len,cap) w:=by
 simp[Instr.sliceBounds,Instr.sliceBound,asIntOf,hh]
def vO{A:Nat->Prop}{w:World}{ρ:Operand->Value}{q:Nat}{l:aa (U.dF q)}{L H:ah Operand}{lo hi:Nat}(ho:o.op= .slice T x L H V)(hx:Rel A w (.sl q l) (ρ x))(hT:P.underlying T=Q (.slice e))(hs:(P.info? e).map (·.size)=Q (U.sz q))(h1:lo<=hi)(h2:hi<=l.length)
  (hb:∀cap,l.length<=cap->∀w',(Instr.sliceBounds G l.length cap (L.map ρ) (H.map ρ) V).run P w'= .ok (lo,hi,cap) w'):∃v,Rel A w (.sl q ((l.take hi).drop lo)) v/\∀w':World,(execOp ρ o).run P w'= .ok (.value v) w':=by
 obtain⟨p,cap,u,hv,hl,hcap,_⟩:=hx.tY;rw[hv]at hx;refine⟨.slice (if cap=lo then p else p.map (·.add (lo*(U.sz q)))) (hi-lo) (cap-lo),hx.akh h1 h2 (by omega) _ ?_,λw'=> ?_⟩
 ·by_cases h:cap=lo
  ·left;omega
  ·right;rw[bF h]
 ·have:=T8 (P:=P) (T:=T) (w:=w') (a:=p) (len:=l.length) hT hs (hb cap hcap w');simp[execOp,ho,hv,Instr.sliceAt,run_underlying hT,this]
def Yp.aku{q:Nat}{l:aa (U.dF q)}(ho:o.op= .slice T x (Q y) (Q z) V)(hx:E.ev x=Q (.sl q l))(hy:E.ev y=Q (.n k m))(hz:E.ev z=Q (.n k' n))(hT:P.underlying T=Q (.slice e))(hs:(P.info? e).map (·.size)=Q (U.sz q))
  (hm:0<=m/\m<=n/\n<=(l.length:Int)):Yp P E σ o (.sl q ((l.take n.toNat).drop m.toNat)):=λA w ρ _ hρ=>by
 obtain⟨v,h1,h2⟩:=vO (P:=P) (lo:=m.toNat) (hi:=n.toNat) ho (hρ _ _ hx) hT hs (by omega) (by omega) (λcap hc w'=>by
  simp only[yx,(hρ _ _ hy).cM,(hρ _ _ hz).cM];exact Mx hm hc)
 exact⟨v,h1,λw' _=>h2 w'⟩
def Yp.ae6{q:Nat}{l:aa (U.dF q)}(ho:o.op= .slice T x V (Q z) V)(hx:E.ev x=Q (.sl q l))(hz:E.ev z=Q (.n k' n))(hT:P.underlying T=Q (.slice e))(hs:(P.info? e).map (·.size)=Q (U.sz q))
  (hm:0<=n/\n<=(l.length:Int)):Yp P E σ o (.sl q (l.take n.toNat)):=λA w ρ _ hρ=>by
 obtain⟨v,h1,h2⟩:=vO (P:=P) (lo:=0) (hi:=n.toNat) ho (hρ _ _ hx) hT hs (by omega) (by omega) (λcap hc w'=>by
  simp only[yx,Option.map_none,(hρ _ _ hz).cM];exact TM hm hc)
 exact⟨v,h1,λw' _=>h2 w'⟩
def Yp.acq{q:Nat}{l:aa (U.dF q)}(ho:o.op= .slice T x (Q y) V V)(hx:E.ev x=Q (.sl q l))(hy:E.ev y=Q (.n k m))(hT:P.underlying T=Q (.slice e))(hs:(P.info? e).map (·.size)=Q (U.sz q))
  (hm:0<=m/\m<=(l.length:Int)):Yp P E σ o (.sl q (l.drop m.toNat)):=λA w ρ _ hρ=>by
 obtain⟨v,h1,h2⟩:=vO (P:=P) (lo:=m.toNat) (hi:=l.length) ho (hρ _ _ hx) hT hs (by omega) (by omega) (λcap hc w'=>by
  simp only[yx,Option.map_none,(hρ _ _ hy).cM];exact Uk hm)
 rw[zR]at h1;exact⟨v,h1,λw' _=>h2 w'⟩
def Yv.SW{sz':Nat}{q:Nat}{l:aa (U.dF q)}(ho:o.op= .slice T x V (Q (.const (.int k 0))) (Q (.const (.int k' 0))))(hx:E.ev x=Q (.sl q l)\/E.ev x=Q (.lit (.slice V 0 0)))(hT:P.underlying T=Q (.slice e))(hs:(P.info? e).map (·.size)=Q sz'):
  Yv P E σ o C [] (λa σ'=>∃v,a= .lit v/\σ'= .row v e ([]:aa (U.dF e))::σ):=λw ρ hg hρ=>by
 obtain⟨j,hj,hj'⟩:=zu.1 hs;obtain⟨p,n,cap,hv⟩:∃p n cap,ρ x= .slice p n cap:=by
  rcases hx with hx|hx
  ·obtain⟨p,cap,u,hv,_⟩:=(hρ _ _ hx).tY;exact⟨p,_,cap,hv⟩
  ·exact⟨V,0,0,(hρ _ _ hx).cM⟩
 have h0:ρ (.const (.int k 0))= .int k 0:=(hρ (.const (.int k 0)) _ rfl).cM;have h0':ρ (.const (.int k' 0))= .int k' 0:=(hρ (.const (.int k' 0)) _ rfl).cM;refine⟨.slice p 0 0,w,_,_,⟨_,rfl,rfl⟩,pF hg (Kp.refl [] w) (.inl (by cases p<;>rfl)) ⟨[],⟨by simp, .inl ⟨_,rfl,rfl⟩⟩,λi hi=>by simp at hi,λi hi=>by simp at hi⟩,?_, .lit _⟩;simp[execOp,ho,hv,h0,h0',Instr.sliceAt,Instr.slice,Instr.sliceBounds,Instr.sliceBound,run_underlying hT,sizeOf,typeInfo,hj,asIntOf]
def Yp.alg{p:ah Addr}{l c:Nat}(ho:o.op= .binOp .eql T x y T')(hx:E.ev x=Q (.lit (.slice p l c)))(hy:E.ev y=Q (.lit (.slice V 0 0)))(hT:P.underlying T=Q (.slice e)):Yp P E σ o (.b p.isNone):=Yp.lits λρ hρ w=>by
 have:=Lib.run_eql_slice_nil (P:=P) w T e p l c 0 0 hT;simp[execOp,ho,hρ _ _ hx,hρ _ _ hy,eqGuard,this]
def Pm{w:World}(p:ah Addr)(q:Nat)(h:Good C σ w):Tr C [] σ w (.row (.slice p 0 0) q ([]:aa (U.dF q))::σ) w:=
 pF h (Kp.refl [] w) (.inl (by cases p<;>rfl)) ⟨[],⟨by simp, .inl ⟨_,rfl,rfl⟩⟩,λi hi=>by simp at hi,λi hi=>by simp at hi⟩
def Vw(σ:aa cK)(a a':AV):Prop:=∀(A:Nat->Prop) (w:World) (v:Value),Hd A σ w->Rel A w a v->Rel (λb=>A b\/b∈bH σ) w a' v
def Vw.row{q:Nat}{l:aa (U.dF q)}(i:Nat)(hσ:σ[i]? =Q (.row v q l)):Vw σ (.lit v) (.sl q l):=λA w u hd h=>by
 have hu:=h.cM;subst hu;have hm:=List.mem_of_getElem? hσ;obtain⟨us,h1,h2,h3⟩:=hd.1 _ hm;have hlm:l.length<=9223372036854775807:=by
  rcases h1.2 with ⟨_,_,h⟩|⟨_,_,_,_,_,q1,q2,_⟩
  ·omega
  ·unfold maxLen at q2;omega
 obtain⟨p,cap,hv,hcap⟩:=h1.len;by_cases h0:l.length=0
 ·rw[hv];exact .sl q l p cap (λ_ _=>undef) hlm hcap (λi hi=>by omega) (λi hi=>by omega) (λi j a hi=>by omega)
 ·obtain⟨g,ck,cur,hv2,hgb,hB,_⟩:=h1.at (by omega);rw[hv2]at hv;cases hv;rw[hv2];refine .sl q l _ (ck+1) (λi j=>(us[i*(U.sz q)+j]?).getD undef) hlm hcap h2 (λi hi=>⟨g,0,rfl,hB.lt, .inr (bS.2 ⟨_,hm,hgb⟩),λj hj=> ?_⟩) (λi j a hi ha=> ?_)
  ·have hlt:i*(U.sz q)+j<us.length:=by
    have:i*(U.sz q)+(U.sz q)<=l.length*(U.sz q):=by rw[<-yM];exact yN _ hi
    rw[h1.1];omega
   rw[yJ,zw hlt];exact h1.cells hgb _ _ (zw hlt)
  ·obtain⟨u,q1,q2⟩:=(h3 i hi).get ha;rw[yF]at q1;split at q1
   ·rw[yA]at q1;rw[q1];exact q2.mono λb _ hA=>⟨.inl hA,rfl⟩
   ·cases q1
def Vw.nil(q:Nat):Vw σ (.lit (.slice V 0 0)) (.sl q ([]:aa (U.dF q))):=λA w u _ h=>by
 have hu:=h.cM;subst hu;exact .sl q [] none 0 (λ_ _=>undef) (by simp) (by simp) (λi hi=>by cases hi) (λi hi=>by cases hi) (λi j a hi=>by cases hi)
def PK{r:cK}{i:Nat}(hσ:σ[i]? =Q r):List.Perm (bH σ) (bH (r::σ.eraseIdx i)):=by
 obtain⟨h1,_⟩:=A8 (r':=r) hσ;have h2:σ.eraseIdx i=σ.take i++σ.drop (i+1):=wU ..;rw[h2];have hp:List.Perm (σ.take i++r::σ.drop (i+1)) (r::(σ.take i++σ.drop (i+1))):=List.perm_middle;rw[<-h1]at hp;exact hp.filterMap _
def KQ{r:cK}{i:Nat}{w:World}(hσ:σ[i]? =Q r)(hg:Good C σ w):∀b,(al C σ b\/b∈bH [r])->al C (σ.eraseIdx i) b:=λb hb=>by
 have hp:=PK hσ;have hnd:=hp.nodup_iff.1 hg.F9;rcases hb with hb|hb
 ·exact⟨hb.1,λhx=>hb.2 (hp.mem_iff.2 (by rw[fH];exact yI _ hx))⟩
 ·have hbs:b∈r.blk.toList:=by rw[fH]at hb;simpa [bH]using hb
  refine⟨?_,λhx=> ?_⟩
  ·rcases hg.own b (hp.mem_iff.2 (by rw[fH];exact yH _ hbs))with h|h
   ·exact .inr (.inl h)
   ·exact .inr (.inr h)
  ·rw[fH]at hnd;exact(yG.1 hnd).2.2 b hbs b hx rfl
end
def Fn(P:Program)(f:FuncId)(args:aa AV)(σ:aa cK)(Φ:AV->aa cK->Prop):Prop:=
 ∀(w:World) (A:Nat->Prop) (vs:aa Value),bL A w args vs->Hd A σ w->(bH σ).Nodup->
  Calls P f vs.toArray w λe w'=>∃v av σ',e= .returned v/\Φ av σ'/\Tr ⟨w,A,bH σ⟩ (bH σ) σ w σ' w'/\Rel (al ⟨w,A,bH σ⟩ σ') w' av v
def Fn.mono{P:Program}{f:FuncId}{args:aa AV}{σ:aa cK}{Φ Ψ:AV->aa cK->Prop}(h:Fn P f args σ Φ)(hp:∀a s,Φ a s->Ψ a s):Fn P f args σ Ψ:=λw A vs h1 h2 h3=>
 (h w A vs h1 h2 h3).mono λ_ _ ⟨v,av,σ',q1,q2,q3⟩=>⟨v,av,σ',q1,hp _ _ q2,q3⟩
def fA:Nat->aa AV->Env
 |_,[]=>[]
 |i,v::l=>(i,v)::fA (i+1) l
def BC:∀(l:aa AV) (i t:Nat) (v:AV),Env.get (fA i l) t=Q v->i<=t/\l[t-i]? =Q v
 |[],_,_,_,h=>by cases h
 |u::l,i,t,v,h=>by
  by_cases hit:i=t
  ·subst hit;rw[fA,Env.fq]at h;cases h;simp
  ·rw[fA,Env.dX _ _ hit]at h;obtain⟨h1,h2⟩:=BC l (i+1) t v h;refine⟨by omega,?_⟩;rw[show t-i=(t-(i+1))+1 from by omega];simpa using h2
def acB(P:Program)(C:Cx)(n:Nat)(fn:Func)(Φ:AV->aa cK->Prop):Exit->Env->aa cK->Prop:=λe E σ=>
 (e= .normal\/e= .ret)/\∀a w,tM C n E σ a w->∃v av σ',Φ av σ'/\(results fn a.tmps).run P w= .ok v w/\Good C σ' w/\(∀b,al C σ b->al C σ' b)/\Rel (al C σ') w av v
structure Tn (C:Cx) (w w':World):Prop where
 os:w'.os=w.os
 tape:w'.tape=w.tape
 output:w'.output=w.output
 size:w.heap.size<=w'.heap.size
 old:∀k,k<C.w0.heap.size->w'.heap[k]? =w.heap[k]?
 same:∀(b:Nat) cs T m,w.heap[b]? =Q (Obj.cells cs T m)->w'.heap[b]? =w.heap[b]?
def Rel.Hj{C:Cx}{A:Nat->Prop}{w w':World}{av:AV}{v:Value}(h:Rel A w av v)(ht:Tn C w w'):Rel A w' av v:=by
 have hcell:∀b i u,w.cell? ⟨b,i,V⟩=Q u->w'.cell? ⟨b,i,V⟩=Q u:=λb i u hc=>by
  rw[<-hc];cases hb:w.heap[b]? with
  |none=>simp[World.cell?,hb]at hc
  |some o=>
   cases o with
   |cells cs T m=>exact World.cell?_of_block (ht.same b cs T m hb)
   |_=>simp[World.cell?,hb]at hc
 induction h with
 |lit v=>exact .lit v
 |sl q l p cap u hl hcap hz hc hr ih=>
  refine .sl q l p cap u hl hcap hz (λi hi=> ?_) ih;obtain⟨b,off,h1,h2,h3,h4⟩:=hc i hi;exact⟨b,off,h1,wg h2 ht.size,h3,λj hj=>hcell _ _ _ (h4 j hj)⟩
 |fp cs b o us hb hA hl hc hr ih=>exact .fp cs b o us (wg hb ht.size) hA hl (λj v hj=>hcell _ _ _ (hc j v hj)) ih
 |rp v k g h=>exact .rp v k g h
 |agg cs us hl hr ih=>exact .agg cs us hl ih
 |jE cs us hl hr ih=>exact .jE cs us hl ih
 |fn f cs us hl hr ih=>exact .fn f cs us hl ih
def cK.ok.Hj{C:Cx}{A:Nat->Prop}{w w':World}{r:cK}(h:r.ok A w)(ht:Tn C w w'):r.ok A w':=by
 cases r with
 |box b T cs=>
  obtain⟨us,h1,h2⟩:=h;exact⟨us,(ht.same _ _ _ _ h1).trans h1,h2.1,λj a v q1 q2=>(h2.2 j a v q1 q2).Hj ht⟩
 |row v q l=>
  obtain⟨us,h1,h2,h3⟩:=h;refine⟨us,⟨h1.1,?_⟩,h2,λi hi=>⟨(h3 i hi).1,λj a v q1 q2=>((h3 i hi).2 j a v q1 q2).Hj ht⟩⟩;rcases h1.2 with q|⟨g,cap,cur,rfl,q1,q2⟩
  ·exact .inl q
  ·exact .inr ⟨g,cap,cur,rfl,(ht.same _ _ _ _ q1).trans q1,q2⟩
def Good.Hj{C:Cx}{σ:aa cK}{w w':World}(h:Good C σ w)(ht:Tn C w w'):Good C σ w':=
 ⟨⟨ht.os.trans h.kept.os,ht.tape.trans h.kept.tape,ht.output.trans h.kept.output,zJ h.kept.size ht.size,λk hk hX=>(ht.old k hk).trans (h.kept.block k hk hX)⟩,
  λr hr=>(h.res r hr).Hj ht,h.F9,h.own⟩
def Tn.putObj{C:Cx}{w:World}{D:Nat}{o:Obj}(o':Obj)(hw:C.w0.heap.size<=D)(hD:w.heap[D]? =Q o)(ho:o.isCells=I):Tn C w (w.putObj D o'):=
 ⟨rfl,rfl,rfl,by simp[World.putObj],λk hk=>World.putObj_heap_other (by omega),λb cs T m hx=>World.putObj_heap_other λe=>by
  subst e;rw[hD]at hx;cases hx;cases ho⟩
def lu.Hj{C:Cx}{A:Nat->Prop}{w w':World}{E:Env}{tmps:Array Value}(h:lu A w E tmps)(ht:Tn C w w'):lu A w' E tmps:=λt av q=>let ⟨v,h1,h2⟩:=h t av q;⟨v,h1,h2.Hj ht⟩
def Fn.of{P:Program}{f:FuncId}{fn:Func}{c:Code}{n:Nat}{args:aa AV}{σ:aa cK}{Φ:AV->aa cK->Prop}(hf:P.funcs[f]? =Q fn)(hb:fn.body=Q c)(hn:fn.ntmps=n)(hl:yj args.length n=G)
  (h:∀C,CW P C n c (acB P C n fn Φ) (fA 0 args) σ):Fn P f args σ Φ:=λw A vs hr hd hnd=>by
 have hl':args.length<=n:=by simpa using hl
 have hvl:=hr.1;have hal:∀b,b<w.heap.size->A b->al ⟨w,A,bH σ⟩ σ b:=λb _ hA=>⟨.inl hA,λhx=>hd.2 b hx hA⟩;have hgood:Good ⟨w,A,bH σ⟩ σ w:=⟨Kp.refl _ _,λr hr=>(hd.1 r hr).mono (λb hb hA=>⟨hal b hb hA,rfl⟩) (λ_ _=>rfl),hnd,λb hb=> .inl hb⟩;refine callsIn_wide.1 (callsIn_of_wp_marks (n:=0) hf hb trivial (wpIn_wide.2 (wp_mono (h ⟨w,A,bH σ⟩ _ w ⟨.nil rfl,?_,λt v ht=> ?_,hgood⟩) ?_)))
 ·simp[hn,hvl];omega
 ·obtain⟨_,h2⟩:=BC args 0 t v ht;rw[Nat.sub_zero]at h2;obtain⟨u,h3,h4⟩:=hr.get h2;have hlt:t<vs.length:=(ya.1 h3).1;refine⟨u,?_,h4.mono λb hb hA=>⟨hal b hb hA,rfl⟩⟩;rw[Array.getElem?_append_left (by simpa using hlt)];simpa using h3
 ·rintro e a' w' ⟨E',σ',h1,he,h2⟩;have fin:∀(w'':World),tM ⟨w,A,bH σ⟩ n E' σ' {a' with defers:=[]} w''->∃v,(results fn a'.tmps).run P w''= .ok v w''/\∃v' av σ'',Ending.returned v= .returned v'/\Φ av σ''/\Tr ⟨w,A,bH σ⟩ (bH σ) σ w σ'' w''/\Rel (al ⟨w,A,bH σ⟩ σ'') w'' av v':=λw'' hs=>by
   obtain⟨v,av,σ'',h3,h4,h5,h6,h7⟩:=h2 _ w'' hs;have hex:Tr ⟨w,A,bH σ⟩ (bH σ) σ w σ'' w'':=⟨h5,h5.kept,λb hb hA=>⟨⟨hA.1,λhx=>by
    rcases h5.own b hx with h|h
    ·exact hA.2 h
    ·exact cR hb (by have:w.heap.size<=b:=h;omega)⟩,hA.2⟩⟩
   exact⟨v,h4,v,av,σ'',rfl,h3,hex,h7⟩
  have lv:LeavesInM Fence.wide 0 P fn a'.tmps (λe w'=>∃v av σ',e= .returned v/\Φ av σ'/\Tr ⟨w,A,bH σ⟩ (bH σ) σ w σ' w'/\Rel (al ⟨w,A,bH σ⟩ σ') w' av v) a'.defers .returning w':=by
   obtain⟨Ds,hd1,hd2,hd3⟩:=h1.defers;rw[hd1];have hsl:=h1.slots;have hgd:=h1.good;have hsz:=h1.size;clear hd1 h1;induction Ds generalizing w' with
   |nil=>exact fin w' ⟨.nil rfl,hsz,hsl,hgd⟩
   |cons D Ds ih=>
    obtain⟨q1,q2,q3,q4⟩:=hd3 D zo;rw[List.nodup_cons]at hd2;refine⟨by simp, .inl ⟨D,_,rfl,run_takeDeferred q4,?_⟩⟩;have ht:Tn ⟨w,A,bH σ⟩ w' (w'.putObj D (.deferred V)):= .putObj _ q2 q4 rfl;refine ih _ hd2.2 (λD' hD'=> ?_) (hsl.Hj ht) (hgd.Hj ht);obtain⟨p1,p2,p3,p4⟩:=hd3 D' (zH _ hD');have hne:D'≠D:=λe=>hd2.1 (e▸hD');exact⟨wg p1 ht.size,p2,p3,(World.putObj_heap_other hne).trans p4⟩
  rcases he with rfl|rfl
  ·exact lv
  ·exact lv
def tD(tmps:Array Value):ResultVar->Sem Value
 | .tmp t=>pure (tmps.getD t undef)
 | .cell a t=>do loadVar t (<-asAddr (tmps.getD a undef))
def Dt(P:Program)(E:Env)(σ:aa cK)(rv:ResultVar)(av:AV):Prop:=∀(A:Nat->Prop) (w:World) (tmps:Array Value),Hd A σ w->lu A w E tmps->∃v,(tD tmps rv).run P w= .ok v w/\Rel A w av v
section
variable {P:Program} {C:Cx} {n:Nat} {fn:Func} {E:Env} {σ σ':aa cK} {t u:Nat} {av:AV} {e:Exit} {Φ:AV->aa cK->Prop}
def Dt.tmp(h:E.get t=Q av):Dt P E σ (.tmp t) av:=λA w tmps _ hs=>by
 obtain⟨v,h1,h2⟩:=hs t av h;exact⟨v,by simp[tD,h1],h2⟩
def Dt.arw{g:Nat}{ty T:TypeId}{cs:aa AV}(i:Nat)(h:E.get t=Q (.lit (.pointer (Q ⟨g,0,V⟩))))(hσ:σ[i]? =Q (.box g T cs))(hT:sE P ty)(ha:cs[0]? =Q av):Dt P E σ (.cell t ty) av:=λA w tmps hd hs=>by
 obtain⟨v,h1,h2⟩:=hs t _ h;have h2:=h2.cM;subst h2;obtain⟨us,h3,h4⟩:=hd.1 _ (List.mem_of_getElem? hσ);obtain⟨v,h5,h6⟩:=h4.get ha;exact⟨v,by simp[tD,h1,asAddr,iR hT (h3.cell (by simpa using h5))],h6⟩
def Dt.ap1{g k:Nat}{ty T:TypeId}{cs:aa AV}(i:Nat)(h:E.get t=Q (.lit (.pointer (Q ⟨g,0,V⟩))))(hσ:σ[i]? =Q (.box g T cs))(hT:tv P ty k)(hk:cs.length=k):Dt P E σ (.cell t ty) (.agg cs):=λA w tmps hd hs=>by
 obtain⟨v,h1,h2⟩:=hs t _ h;have h2:=h2.cM;subst h2;obtain⟨us,h3,h4⟩:=hd.1 _ (List.mem_of_getElem? hσ);refine⟨_,?_,Rel.oO h4⟩;have:=iw (P:=P) (T:=ty) (w:=w) (a:=⟨g,0,V⟩) (cs:=us) (by rw[h4.1,hk];exact hT) (λj u hj=>by rw[pL,yJ];exact h3.cell (by simpa using hj));simp[tD,h1,asAddr,this]
def Xy(he:e= .normal\/e= .ret)(hs:List.Sublist σ' σ)(hΦ:Φ av σ')(h:∀A w tmps,Hd A σ w->lu A w E tmps->∃v,(results fn tmps).run P w= .ok v w/\Rel A w av v):acB P C n fn Φ e E σ:=
 ⟨he,λa w ha=>by
  obtain⟨v,h1,h2⟩:=h _ w a.tmps ha.good.hd ha.slots;have hl:=ha.less hs;have hal:∀b,al C σ b->al C σ' b:=λb hb=>⟨hb.1,λhx=>hb.2 (qR (λr hr=>hs.subset hr) b hx)⟩;exact⟨v,av,σ',hΦ,h1,hl.good,hal,h2.mono λb _ hA=>⟨hal b hA,rfl⟩⟩⟩
end
def v7(P:Program)(f:FuncId):Prop:=∃fn,P.funcs[f]? =Q fn/\(fn.name=="runtime.NumGoroutine")=I/\fn.body.isNone=I
def BK{P:Program}{f:FuncId}{w:World}(hf:v7 P f)(args:Array Value):(callFunc f args).run P w= .ok (.enter f args) w:=by
 obtain⟨fn,h1,h2,h3⟩:=hf;have h2':¬fn.name="runtime.NumGoroutine":=by simpa using h2
 have h3':¬fn.body=V:=by
  intro h;rw[h]at h3;cases h3
 simp[callFunc,program,Sem.run,h1,h2',h3']
def Cl(a:AV):Prop:=∀A A' w v,Rel A w a v->Rel A' w a v
def Cl.lit(v:Value):Cl (.lit v):=λA A' w u h=>by rw[h.cM];exact .lit v
def JP(as0:aa AV):Prop:=∀A A' w us,bL A w as0 us->bL A' w as0 us
def JP.nil:JP []:=λA A' w us h=>by
 have:us=[]:=xp (by simpa using h.1);rw[this];exact bL.nil
def JP.cons{a:AV}{as0:aa AV}(h:Cl a)(hs:JP as0):JP (a::as0):=λA A' w us hr=>by
 obtain⟨v,us',rfl,h1,h2⟩:=hr.head;exact bL.cons (h A A' w v h1) (hs A A' w us' h2)
def Cl.agg{as0:aa AV}(h:JP as0):Cl (.agg as0):=λA A' w v hr=>by
 obtain⟨us,rfl,h1⟩:=hr.nZ;exact Rel.oO (h A A' w us h1)
def Cl.jE{as0:aa AV}(h:JP as0):Cl (.jE as0):=λA A' w v hr=>by
 obtain⟨us,rfl,h1⟩:=hr.NL;exact Rel.Fy (h A A' w us h1)
def ClR(r:cK):Prop:=∀A A' w,r.ok A w->r.ok A' w
def ClR.box{b:Nat}{T:TypeId}{cs:aa AV}(h:JP cs):ClR (.box b T cs):=λA A' w ⟨us,h1,h2⟩=>⟨us,h1,h A A' w us h2⟩
def ClR.row{v:Value}{q:Nat}{l:aa (U.dF q)}(h:∀x,JP (U.cells q x)):ClR (.row v q l):=λA A' w ⟨us,h1,h2,h3⟩=>⟨us,h1,h2,λi hi=>h _ A A' w _ (h3 i hi)⟩
section
variable {P:Program} {C:Cx} {E:Env} {σ σp σr:aa cK} {o:Oper} {x:Operand} {f:FuncId} {xs:Array Operand} {ts:Array TypeId} {as0 caps args:aa AV} {Φ:AV->aa cK->Prop}
def Va{A:Nat->Prop}{w:World}{ρ:Operand->Value}(ho:o.op= .call {callee:= .value x,args:=xs,argTypes:=ts})(hx:E.ev x=Q (.fn (.func f) caps))(hf:v7 P f)(he:E.KM xs.toList=Q as0)(ha:as0++caps=args)(hρ:MO A w E ρ):∃us:aa Value,bL A w args us/\(execOp ρ o).run P w= .ok (.enter f us.toArray) w:=by
 obtain⟨us,h1,h2⟩:=(hρ _ _ hx).Yz;have h3:=Env.HN hρ he;refine⟨xs.toList.map ρ++us,ha▸h3.app h2,?_⟩;have h4:xs.map ρ=(xs.toList.map ρ).toArray:=by apply Array.ext';simp
 simp[execOp,ho,resolve,h1,Deferred.ofValue,invoke,BK hf,h4]
def bM{σp σr:aa cK}{b:Nat}:b∈bH (σp++σr)↔b∈bH σp\/b∈bH σr:=by rw[gT,zV]
def Cy{w w':World}{A:Nat->Prop}{σo:aa cK}(hg:Good C (σp++σr) w)(hA:∀b,A b->b<w.heap.size->al C (σp++σr) b\/b∈bH σr)(ht:Tr ⟨w,A,bH σp⟩ (bH σp) σp w σo w')
  (hok:∀r∈σo,r.ok (al C (σo++σr)) w'):Tr C (bH σp) (σp++σr) w (σo++σr) w':=by
 have hlt:∀b∈bH (σp++σr),b<w.heap.size:=λb hb=>by
  obtain⟨s,h1,h2⟩:=bS.1 hb;exact(hg.res s h1).lt h2
 have hdis:=hg.F9;rw[gT]at hdis;obtain⟨d1,d2,d3⟩:=yG.1 hdis;have hown:∀b∈bH σo,b∈bH σp\/w.heap.size<=b:=ht.good.own;have hal:∀b,b<w.heap.size->al C (σp++σr) b->al C (σo++σr) b/\b∉bH σp:=λb hb hA=>by
  have h2:b∉bH σp/\b∉bH σr:=by
   have:=hA.2;rw[bM]at this;exact⟨λh=>this (.inl h),λh=>this (.inr h)⟩
  refine⟨⟨hA.1,λhx=> ?_⟩,h2.1⟩;rcases bM.1 hx with h|h
  ·rcases hown b h with h|h
   ·exact h2.1 h
   ·omega
  ·exact h2.2 h
 refine⟨⟨hg.kept.trans ht.kp (λb hb hlt0=> ?_),λr hr=> ?_,?_,λb hb=> ?_⟩,ht.kp,hal⟩
 ·rcases hg.own b (bM.2 (.inl hb))with h|h
  ·exact h
  ·exact cR hlt0 (by omega)
 ·rcases zV.1 hr with h|h
  ·exact hok r h
  ·refine(hg.res r (yI _ h)).mono (λb hb hA=>⟨(hal b hb hA).1,ht.kp.block b hb (hal b hb hA).2⟩) (λb hb=> ?_);have hbr:b∈bH σr:=bS.2 ⟨r,h,hb⟩;exact ht.kp.block b (hlt b (bM.2 (.inr hbr))) (λhp=>d3 b hp b hbr rfl)
 ·rw[gT];refine yG.2 ⟨ht.good.F9,d2,λa ha b hb hab=> ?_⟩;subst hab;rcases hown a ha with h|h
  ·exact d3 a h a hb rfl
  ·have:=hlt a (bM.2 (.inr hb));omega
 ·rcases bM.1 hb with h|h
  ·rcases hown b h with h|h
   ·exact hg.own b (bM.2 (.inl h))
   ·exact .inr (zJ hg.kept.size h)
  ·exact hg.own b (bM.2 (.inr h))
def Yc.fn(ho:o.op= .call {callee:= .value x,args:=xs,argTypes:=ts})(hx:E.ev x=Q (.fn (.func f) caps))(hf:v7 P f)(he:E.KM xs.toList=Q as0)(ha:as0++caps=args)(hσ:σ=σp++σr)(h:Fn P f args σp Φ):
  Yc P E σ o C (bH σp) (λav σ'=>∃σo,Φ av σo/\σ'=σo++σr):=λw ρ hg hρ=>by
 subst hσ;obtain⟨us,h1,h2⟩:=Va ho hx hf he ha hρ;have hlt:∀b∈bH (σp++σr),b<w.heap.size:=λb hb=>by
  obtain⟨s,h1,h2⟩:=bS.1 hb;exact(hg.res s h1).lt h2
 have hd:Hd (al C (σp++σr)) σp w:=⟨λr hr=>hg.res r (yH _ hr),λb hb hA=>hA.2 (bM.2 (.inl hb))⟩;have hnd:(bH σp).Nodup:=by have:=hg.F9;rw[gT]at this;exact(yG.1 this).1
 refine⟨f,us.toArray,h2,(h w (al C (σp++σr)) us h1 hd hnd).mono λe w' ⟨v,av,σo,q1,q2,q3,q4⟩=> ?_⟩;have hown:∀b∈bH σo,b∈bH σp\/w.heap.size<=b:=q3.good.own;have hsub:∀b,b<w'.heap.size->al ⟨w,al C (σp++σr),bH σp⟩ σo b->al C (σo++σr) b:=λb _ hb=>by
  obtain⟨hb1,hb2⟩:=hb;rcases hb1 with hb1|hb1|hb1
  ·exact⟨hb1.1,λhx=>(bM.1 hx).elim hb2 (λh=>hb1.2 (bM.2 (.inr h)))⟩
  ·have hbp:b∈bH σp:=hb1;refine⟨?_,λhx=>(bM.1 hx).elim hb2 (λh=> ?_)⟩
   ·rcases hg.own b (bM.2 (.inl hbp))with h|h
    ·exact .inr (.inl h)
    ·exact .inr (.inr h)
   ·have hdis:=hg.F9;rw[gT]at hdis;exact(yG.1 hdis).2.2 b hbp b h rfl
  ·have hbw:w.heap.size<=b:=hb1;exact⟨.inr (.inr (zJ hg.kept.size hbw)),λhx=>(bM.1 hx).elim hb2 (λh=>by have:=hlt b (bM.2 (.inr h));omega)⟩
 exact⟨v,av,σo++σr,q1,⟨σo,q2,rfl⟩,Cy hg (λb hA _=> .inl hA) q3 (λr hr=>(q3.good.res r hr).mono (λb hb hA=>⟨hsub b hb hA,rfl⟩) (λ_ _=>rfl)),q4.mono λb hb hA=>⟨hsub b hb hA,rfl⟩⟩
end
end Go.Iv
namespace Go.Iv
variable [U:sF]
open Go Go.RowKit
section
variable {P:Program} {E E':Env} {σ σ':aa cK} {o:Oper} {x:Operand} {av bv:AV} {C:Cx} {X:aa Nat} {n:Nat}
def sel:aa cK->aa Nat->ah (aa cK)
 |_,[]=>Q []
 |σ,i::is=>match σ[i]?,sel (σ.eraseIdx i) is with
  |some r,Q rs=>Q (r::rs)
  |_,_=>V
end
def uZ{α:Type}{c:Prop}[Decidable c]{a:ah α}{r:α}(h:(if c then a else V)=Q r):c/\a=Q r:=by
 split at h
 ·exact⟨by assumption,h⟩
 ·cases h
abbrev cN(k:IntKind)(n:Int):aa AV:=[.n k n]
abbrev cB(b:Bool):aa AV:=[.b b]
instance:Inhabited ByteArray:=⟨.empty⟩
end Go.Iv
namespace Go.Iv
variable [U:sF]
open Go Go.RowKit
section
variable {P:Program} {E E':Env} {σ σ':aa cK} {o:Oper} {x:Operand} {av bv:AV} {C:Cx} {X:aa Nat} {n:Nat}
def Yp.conv{T T':TypeId}{k k':IntKind}{m:Int}(hT:P.underlying T=Q (.int k))(hT':P.underlying T'=Q (.int k'))(ho:o.op= .convert T T' x)(hx:E.ev x=Q (.n k m)):Yp P E σ o (.n k' (k'.wrap m)):=Yp.lits λρ hρ w=>by
 simp[execOp,ho,hρ _ _ hx,convert,run_underlying hT,run_underlying hT',Conv.intToInt]
end
structure Gh where
 v:Nat->Value
 b:Nat->Nat
def cn.sub(ρ:Gh):AV->AV
 | .lit v=> .lit v
 | .sl t l=> .sl t l
 | .fp cs=> .fp (cs.map (cn.sub ρ))
 | .rp v k=> .rp v k
 | .agg cs=> .agg (cs.map (cn.sub ρ))
 | .jE cs=> .jE (cs.map (cn.sub ρ))
 | .fn f cs=> .fn f (cs.map (cn.sub ρ))
 | .own id=> .lit (ρ.v id)
 | .ptr id off=> .lit (.pointer (Q ⟨ρ.b id,off,V⟩))
 | .ra id t m off=> .rp (ρ.v id) (m*U.sz t+off)
inductive hU (p:Nat->Prop):AV->Prop
 |lit (v:Value):hU p (.lit v)
 |sl (t:Nat) (l:List (U.dF t)):hU p (.sl t l)
 |fp (cs:List AV) (h:∀c∈cs,hU p c):hU p (.fp cs)
 |rp (v:Value) (k:Nat):hU p (.rp v k)
 |agg (cs:List AV) (h:∀c∈cs,hU p c):hU p (.agg cs)
 |jE (cs:List AV) (h:∀c∈cs,hU p c):hU p (.jE cs)
 |fn (f:Go.Fn) (cs:List AV) (h:∀c∈cs,hU p c):hU p (.fn f cs)
 |own (id:Nat) (h:p id):hU p (.own id)
 |ptr (id off:Nat) (h:p id):hU p (.ptr id off)
 |ra (id t m off:Nat) (h:p id):hU p (.ra id t m off)
abbrev cQ(n:Nat):AV->Prop:=hU (λi=>i<n)
def Ags(p:Nat->Prop)(ρ ρ':Gh):Prop:=∀i,p i->ρ.v i=ρ'.v i/\ρ.b i=ρ'.b i
def hU.mono{p q:Nat->Prop}{d:AV}(h:hU p d)(hn:∀i,p i->q i):hU q d:=by
 induction h with
 |lit v=>exact .lit v
 |sl t l=>exact .sl t l
 |fp cs _ ih=>exact .fp cs ih
 |rp v k=>exact .rp v k
 |agg cs _ ih=>exact .agg cs ih
 |jE cs _ ih=>exact .jE cs ih
 |fn f cs _ ih=>exact .fn f cs ih
 |own id h=>exact .own id (hn _ h)
 |ptr id off h=>exact .ptr id off (hn _ h)
 |ra id t m off h=>exact .ra id t m off (hn _ h)
def hU.sub{p:Nat->Prop}{d:AV}{ρ ρ':Gh}(h:hU p d)(ha:Ags p ρ ρ'):d.sub ρ=d.sub ρ':=by
 have key:∀cs:aa AV,(∀c∈cs,c.sub ρ=c.sub ρ')->cs.map (cn.sub ρ)=cs.map (cn.sub ρ'):=λcs h=>z7 h;induction h with
 |lit v=>simp only[cn.sub]
 |sl t l=>simp only[cn.sub]
 |fp cs _ ih=>simp only[cn.sub];rw[key cs ih]
 |rp v k=>simp only[cn.sub]
 |agg cs _ ih=>simp only[cn.sub];rw[key cs ih]
 |jE cs _ ih=>simp only[cn.sub];rw[key cs ih]
 |fn f cs _ ih=>simp only[cn.sub];rw[key cs ih]
 |own id h=>simp only[cn.sub];rw[(ha id h).1]
 |ptr id off h=>simp only[cn.sub];rw[(ha id h).2]
 |ra id t m off h=>simp only[cn.sub];rw[(ha id h).1]
def hU.Zr{p:Nat->Prop}{cs:aa AV}{ρ ρ':Gh}(h:∀c∈cs,hU p c)(ha:Ags p ρ ρ'):cs.map (cn.sub ρ)=cs.map (cn.sub ρ'):=z7 λc hc=>(h c hc).sub ha
def rq(n:Nat)(ρ ρ':Gh):Prop:=∀i,i<n->ρ.v i=ρ'.v i/\ρ.b i=ρ'.b i
def rq.refl(n:Nat)(ρ:Gh):rq n ρ ρ:=λ_ _=>⟨rfl,rfl⟩
def rq.trans{n m:Nat}{ρ ρ' ρ'':Gh}(h:rq n ρ ρ')(h':rq m ρ' ρ'')(hn:n<=m):rq n ρ ρ'':=λi hi=>
 ⟨(h i hi).1.trans (h' i (by omega)).1,(h i hi).2.trans (h' i (by omega)).2⟩
def cQ.mono{n m:Nat}{d:AV}(h:cQ n d)(hn:n<=m):cQ m d:=hU.mono h λ_ hi=>wg hi hn
def cQ.sub{n:Nat}{d:AV}{ρ ρ':Gh}(h:cQ n d)(ha:rq n ρ ρ'):d.sub ρ=d.sub ρ':=hU.sub h ha
def cQ.Zr{n:Nat}{cs:aa AV}{ρ ρ':Gh}(h:∀c∈cs,cQ n c)(ha:rq n ρ ρ'):cs.map (cn.sub ρ)=cs.map (cn.sub ρ'):=hU.Zr h ha
inductive IR:Type
 |box (T:Nat) (cs:List AV)
 |row (t:Nat) (l:List (U.dF t))
def IR.res(ρ:Gh)(id:Nat):IR->cK
 | .box T cs=> .box (ρ.b id) T (cs.map (cn.sub ρ))
 | .row t l=> .row (ρ.v id) t l
abbrev aZ:Type:=aa (Nat×IR)
def aZ.res(ρ:Gh)(R:aZ):aa cK:=R.map λp=>p.2.res ρ p.1
def IR.cQ(n:Nat):IR->Prop
 | .box _ cs=>∀c∈cs,Iv.cQ n c
 | .row _ _=>True
def aZ.cQ(n:Nat)(R:aZ):Prop:=∀p∈R,p.1<n/\p.2.cQ n
def IR.cQ.mono{n m:Nat}{r:IR}(h:r.cQ n)(hn:n<=m):r.cQ m:=by
 cases r with
 |box T cs=>exact λc hc=>(h c hc).mono hn
 |row t l=>trivial
def aZ.cQ.mono{n m:Nat}{R:aZ}(h:aZ.cQ n R)(hn:n<=m):aZ.cQ m R:=λp hp=>⟨wg (h p hp).1 hn,(h p hp).2.mono hn⟩
def IR.cQ.res{n id:Nat}{r:IR}{ρ ρ':Gh}(h:r.cQ n)(hi:id<n)(ha:rq n ρ ρ'):r.res ρ id=r.res ρ' id:=by
 cases r with
 |box T cs=>simp only[IR.res];rw[(ha id hi).2,Iv.cQ.Zr h ha]
 |row t l=>simp only[IR.res];rw[(ha id hi).1]
def aZ.cQ.res{n:Nat}{R:aZ}{ρ ρ':Gh}(h:aZ.cQ n R)(ha:rq n ρ ρ'):aZ.res ρ R=aZ.res ρ' R:=z7 λp hp=>(h p hp).2.res (h p hp).1 ha
def gz(R:aZ)(id:Nat):ah IR:=List.rec V (λp _ ih=>Bool.rec ih (Q p.2) (zj p.1 id)) R
def tK(id:Nat)(r':IR)(R:aZ):aZ:=List.rec [] (λp R ih=>Bool.rec (p::ih) ((p.1,r')::R) (zj p.1 id)) R
def kR(id:Nat)(R:aZ):aZ:=List.rec [] (λp R ih=>Bool.rec (p::ih) R (zj p.1 id)) R
def U1{i:Nat}{r:IR}{R:aZ}{id:Nat}:gz ((i,r)::R) id=match zj i id with
  |true=>Q r
  |false=>gz R id:=by
 show Bool.rec (motive:=λ_=>_) (gz R id) (Q r) (zj i id)=_;cases zj i id<;>rfl
def Gc{i:Nat}{r r':IR}{R:aZ}{id:Nat}:tK id r' ((i,r)::R)=match zj i id with
  |true=>(i,r')::R
  |false=>(i,r)::tK id r' R:=by
 show Bool.rec (motive:=λ_=>_) ((i,r)::tK id r' R) ((i,r')::R) (zj i id)=_;cases zj i id<;>rfl
def vP{i:Nat}{r:IR}{R:aZ}{id:Nat}:kR id ((i,r)::R)=match zj i id with
  |true=>R
  |false=>(i,r)::kR id R:=by
 show Bool.rec (motive:=λ_=>_) ((i,r)::kR id R) R (zj i id)=_;cases zj i id<;>rfl
def gI{a b:Nat}(h:zj a b=G):a=b:=xe h
def eV:∀{R:aZ} {id:Nat} {r:IR},gz R id=Q r->∃i:Nat,R[i]? =Q (id,r)/\(∀r',tK id r' R=R.set i (id,r'))/\kR id R=R.eraseIdx i
 |[],_,_,h=>by cases h
 |(i,r)::R,id,r0,h=>by
  rw[U1]at h;cases hb:zj i id with
  |true=>
   rw[hb]at h;cases h;cases gI hb;exact⟨0,rfl,λr'=>by rw[Gc,hb];rfl,by rw[vP,hb];rfl⟩
  |false=>
   rw[hb]at h;obtain⟨j,h1,h2,h3⟩:=eV h;exact⟨j+1,h1,λr'=>by rw[Gc,hb];simp[h2],by rw[vP,hb];simp[h3]⟩
def ic{R:aZ}{ρ:Gh}{i id:Nat}{r:IR}(h:R[i]? =Q (id,r)):(aZ.res ρ R)[i]? =Q (r.res ρ id):=by
 unfold aZ.res;rw[yb,h];rfl
def vk{R:aZ}{ρ:Gh}{i id:Nat}{r:IR}:aZ.res ρ (R.set i (id,r))=(aZ.res ρ R).set i (r.res ρ id):=by
 unfold aZ.res;rw[List.map_set]
def As{R:aZ}{ρ:Gh}{i:Nat}:aZ.res ρ (R.eraseIdx i)=(aZ.res ρ R).eraseIdx i:=by
 unfold aZ.res;rw[wU,wU,yo,xR,xI]
def EU{R:aZ}{id n:Nat}{r:IR}(h:gz R id=Q r)(hR:aZ.cQ n R):id<n/\r.cQ n:=by
 obtain⟨i,h1,_⟩:=eV h;exact hR _ (List.mem_of_getElem? h1)
def qC{R:aZ}{id n:Nat}{r r':IR}(h:gz R id=Q r)(hR:aZ.cQ n R)(hr:r'.cQ n):aZ.cQ n (tK id r' R):=by
 obtain⟨i,h1,h2,_⟩:=eV h;rw[h2];intro p hp;rcases List.mem_or_eq_of_mem_set hp with hp|rfl
 ·exact hR p hp
 ·exact⟨(hR _ (List.mem_of_getElem? h1)).1,hr⟩
def E8{R:aZ}{id n:Nat}(hR:aZ.cQ n R):aZ.cQ n (kR id R):=by
 induction R with
 |nil=>exact hR
 |cons p R ih=>
  obtain⟨i,r⟩:=p;have h2:aZ.cQ n R:=λp hp=>hR p (zH _ hp);rw[vP];split
  ·exact h2
  ·intro q hq;rcases zF.1 hq with rfl|hq
   ·exact hR _ zo
   ·exact ih h2 q hq
def Env.sub(ρ:Gh)(E:Env):Env:=E.map λp=>(p.1,p.2.sub ρ)
def Env.cQ(n:Nat)(E:Env):Prop:=∀p∈E,Iv.cQ n p.2
def Env.fo{ρ:Gh}(t:Nat):∀(E:Env),(E.sub ρ).get t=(E.get t).map (cn.sub ρ)
 |[]=>rfl
 |(k,v)::E=>by
  show Env.get ((k,v.sub ρ)::Env.sub ρ E) t=_;unfold Env.get;cases hb:zj k t with
  |true=>rfl
  |false=>exact Env.fo t E
def Env.NS{ρ:Gh}{E:Env}(x:Operand):(E.sub ρ).ev x=(E.ev x).map (cn.sub ρ):=by
 cases x with
 |tmp t=>exact Env.fo t E
 |const v=>simp[Env.ev,cn.sub]
 |global g=>simp[Env.ev,cn.sub]
 |func f=>simp[Env.ev,cn.sub]
def Env.get_mem:∀{E:Env} {t:Nat} {d:AV},E.get t=Q d->(t,d)∈E
 |[],_,_,h=>by cases h
 |(k,v)::E,t,d,h=>by
  unfold Env.get at h;cases hb:zj k t with
  |true=>
   rw[hb]at h;cases h;cases gI hb;exact zo
  |false=>
   rw[hb]at h;exact zH _ (Env.get_mem h)
def Env.Wr{E:Env}{n:Nat}{x:Operand}{d:AV}(hE:E.cQ n)(h:E.ev x=Q d):Iv.cQ n d:=by
 cases x with
 |tmp t=>exact hE _ (Env.get_mem h)
 |const v=>cases h;exact .lit _
 |global g=>cases h;exact .lit _
 |func f=>cases h;exact .fn _ [] (by simp)
def Env.cQ.mono{n m:Nat}{E:Env}(h:E.cQ n)(hn:n<=m):E.cQ m:=λp hp=>(h p hp).mono hn
def Env.cQ.sub{n:Nat}{E:Env}{ρ ρ':Gh}(h:E.cQ n)(ha:rq n ρ ρ'):E.sub ρ=E.sub ρ':=z7 λp hp=>by rw[(h p hp).sub ha]
inductive Wd (dF:Nat->Type):Type
 |e
 |n (v:Option (cn dF)) (l r:Wd dF)
abbrev ET:Type:=Wd U.dF
def cP(T:ET):Nat->ah AV:=Wd.rec (λ_=>V) (λv _ _ il ir k=>Bool.rec (Bool.rec (ir (Nat.div (Nat.sub k 1) 2)) (il (Nat.div (Nat.sub k 1) 2)) (zj (Nat.mod (Nat.sub k 1) 2) 0)) v (zj k 0)) T
def Wd.v:ET->ah AV
 | .e=>V
 | .n v _ _=>v
def Wd.l:ET->ET
 | .e=> .e
 | .n _ l _=>l
def Wd.r:ET->ET
 | .e=> .e
 | .n _ _ r=>r
def YZ(d:AV)(ih:ET->Nat->ET)(v:ah AV)(l r:ET)(k:Nat):ET:=Bool.rec (Bool.rec (.n v l (ih r (Nat.div (Nat.sub k 1) 2))) (.n v (ih l (Nat.div (Nat.sub k 1) 2)) r) (zj (Nat.mod (Nat.sub k 1) 2) 0)) (.n (Q d) l r) (zj k 0)
def sB(d:AV)(m:Nat):ET->Nat->ET:=Nat.rec (λ_ _=> .e) (λ_ ih T k=>Wd.rec (YZ d ih V .e .e k) (λv l r _ _=>YZ d ih v l r k) T) m
def mj(t:Nat)(d:AV)(T:ET):ET:=sB d 12 T t
def emap(f:AV->AV)(T:ET):ET:=Wd.rec .e (λv _ _ il ir=> .n (v.map f) il ir) T
def nO(v:ah AV)(l r:ET)(k:Nat):cP (.n v l r) k=if k=0 then v else if(k-1)%2=0 then cP l ((k-1)/2)else cP r ((k-1)/2):=by
 show Bool.rec (motive:=λ_=>ah AV) (Bool.rec (motive:=λ_=>ah AV) (cP r ((k-1)/2)) (cP l ((k-1)/2)) (zj ((k-1)%2) 0)) v (zj k 0)=_;by_cases hk:k=0
 ·subst hk;rfl
 ·have h1:zj k 0=I:=by
   cases h:zj k 0 with
   |false=>rfl
   |true=>exact cR (xe h) hk
  rw[h1,bF hk];by_cases h2:(k-1)%2=0
  ·rw[h2];rfl
  ·have h3:zj ((k-1)%2) 0=I:=by
    cases h:zj ((k-1)%2) 0 with
    |false=>rfl
    |true=>exact cR (xe h) h2
   rw[h3,bF h2]
def amP(k:Nat):cP (.e:ET) k=V:=rfl
def LD(T:ET)(k:Nat):cP T k=if k=0 then T.v else if(k-1)%2=0 then cP T.l ((k-1)/2)else cP T.r ((k-1)/2):=by
 cases T with
 |e=>simp only[Wd.v,Wd.l,Wd.r,amP,ite_self]
 |n v l r=>exact nO v l r k
def QW(d:AV)(m:Nat)(T:ET)(k:Nat):sB d (m+1) T k=if k=0 then .n (Q d) T.l T.r else if(k-1)%2=0 then .n T.v (sB d m T.l ((k-1)/2)) T.r else .n T.v T.l (sB d m T.r ((k-1)/2)):=by
 have e:sB d (m+1) T k=YZ d (sB d m) T.v T.l T.r k:=by cases T<;>rfl
 rw[e];show Bool.rec (motive:=λ_=>ET) (Bool.rec (motive:=λ_=>ET) (.n T.v T.l (sB d m T.r ((k-1)/2))) (.n T.v (sB d m T.l ((k-1)/2)) T.r) (zj ((k-1)%2) 0)) (.n (Q d) T.l T.r) (zj k 0)=_;by_cases hk:k=0
 ·subst hk;rfl
 ·have h1:zj k 0=I:=by
   cases h:zj k 0 with
   |false=>rfl
   |true=>exact cR (xe h) hk
  rw[h1,bF hk];by_cases h2:(k-1)%2=0
  ·rw[h2];rfl
  ·have h3:zj ((k-1)%2) 0=I:=by
    cases h:zj ((k-1)%2) 0 with
    |false=>rfl
    |true=>exact cR (xe h) h2
   rw[h3,bF h2]
def Ag(d:AV):∀(m:Nat) (T:ET) (k s:Nat) (av:AV),cP (sB d m T k) s=Q av->(k=s/\av=d)\/(k≠s/\cP T s=Q av)
 |0,T,k,s,av,h=>by cases h
 |m+1,T,k,s,av,h=>by
  rw[QW]at h;rw[LD T s];split at h
  ·rename_i hk;subst hk;rw[nO]at h;split at h
   ·rename_i hs;subst hs;cases h;exact .inl ⟨rfl,rfl⟩
   ·rename_i hs;rw[bF hs];exact .inr ⟨λe=>hs e.symm,h⟩
  ·rename_i hk;split at h
   ·rename_i hk2;rw[nO]at h;split at h
    ·rename_i hs;subst hs;exact .inr ⟨hk,by rw[bt rfl];exact h⟩
    ·rename_i hs;rw[bF hs];split at h
     ·rename_i hs2;rw[bt hs2];rcases Ag d m T.l _ _ av h with ⟨h1,h2⟩|⟨h1,h2⟩
      ·exact .inl ⟨by omega,h2⟩
      ·exact .inr ⟨λe=>h1 (by rw[e]),h2⟩
     ·rename_i hs2;rw[bF hs2];exact .inr ⟨λe=>hs2 (by rw[<-e];exact hk2),h⟩
   ·rename_i hk2;rw[nO]at h;split at h
    ·rename_i hs;subst hs;exact .inr ⟨hk,by rw[bt rfl];exact h⟩
    ·rename_i hs;rw[bF hs];split at h
     ·rename_i hs2;rw[bt hs2];exact .inr ⟨λe=>hk2 (by rw[e];exact hs2),h⟩
     ·rename_i hs2;rw[bF hs2];rcases Ag d m T.r _ _ av h with ⟨h1,h2⟩|⟨h1,h2⟩
      ·exact .inl ⟨by omega,h2⟩
      ·exact .inr ⟨λe=>h1 (by rw[e]),h2⟩
def qD{t s:Nat}{d av:AV}{T:ET}(h:cP (mj t d T) s=Q av):(t=s/\av=d)\/(t≠s/\cP T s=Q av):=Ag d 12 T t s av h
def vD(f:AV->AV):∀(T:ET) (s:Nat),cP (emap f T) s=(cP T s).map f
 | .e,s=>rfl
 | .n v l r,s=>by
  show cP (.n (v.map f) (emap f l) (emap f r)) s=_;rw[nO,nO,vD f l,vD f r];split
  ·rfl
  ·split<;>rfl
def tq(T:ET)(E:Env):Prop:=∀t d,cP T t=Q d->E.get t=Q d
def tq.put{T:ET}{E:Env}(h:tq T E)(t:Nat)(d:AV):tq (mj t d T) ((t,d)::E):=λs av hs=>by
 rcases qD hs with ⟨rfl,rfl⟩|⟨h1,h2⟩
 ·exact Env.fq _ _ _
 ·rw[Env.dX _ _ h1];exact h s av h2
def Fj(T:ET):Operand->ah AV
 | .tmp t=>cP T t
 | .const v=>Q (.lit v)
 | .global g=>Q (.lit (.pointer (Q ⟨g,0,V⟩)))
 | .func f=>Q (.fn (.func f) [])
def tq.ev{T:ET}{E:Env}(h:tq T E)(x:Operand)(d:AV)(hx:Fj T x=Q d):E.ev x=Q d:=by
 cases x with
 |tmp t=>exact h t d hx
 |_=>exact hx
structure St where
 E:ET
 R:aZ
 nx:Nat
structure Cg where
 C:Cx
 ρ:Gh
 n:Nat
def Mt(C:Cg)(n:Nat)(s:St)(a:Act)(w:World):Prop:=∃E:Env,tq s.E E/\E.cQ s.nx/\aZ.cQ s.nx s.R/\∃ρ,(rq C.n C.ρ ρ/\C.n<=s.nx)/\tM C.C n (E.sub ρ) (aZ.res ρ s.R) a w
def Env.uT{E:Env}{n t:Nat}{d:AV}(hE:E.cQ n)(hd:Iv.cQ n d):Env.cQ n ((t,d)::E):=λp hp=>by
 rcases zF.1 hp with rfl|hp
 ·exact hd
 ·exact hE p hp
def S8{C:Cx}{σ σ':aa cK}(hp:List.Perm σ σ')(b:Nat):al C σ b->al C σ' b:=λhA=>⟨hA.1,λhx=>hA.2 ((hp.filterMap _).symm.mem_iff.1 hx)⟩
end Go.Iv
end
noncomputable section
namespace Go.Iv
open Go Go.RowKit
section
variable [U:sF] {β γ δ:Type}
def vG(t e:Nat)(l:aa (U.dF t)):ah (aa (U.dF e)):=if h:t=e then Q (h▸l)else V
def nc{t e:Nat}{l:aa (U.dF t)}{l':aa (U.dF e)}(h:vG t e l=Q l'):∃he:t=e,he▸l=l':=by
 unfold vG at h;split at h
 ·rename_i he;exact⟨he,zO.inj h⟩
 ·cases h
def iQ(k:IntKind):AV->ah Int
 | .lit (.int k' n)=>if k=k' then Q n else V
 |_=>V
def Uj:AV->ah Bool
 | .lit (.bool b)=>Q b
 |_=>V
def asS:AV->ah ByteArray
 | .lit (.string s)=>Q s
 |_=>V
def jX(t:Nat):AV->ah (aa (U.dF t))
 | .sl t' l=>vG t' t l
 | .lit (.slice V 0 0)=>Q []
 |_=>V
def P1(f:AV->ah β)(c:β->AV):Prop:=∀a b,f a=Q b->∀A w v,Rel A w a v->Rel A w (c b) v
def P1.i(k:IntKind):P1 (iQ k) (cn.n k):=λa b h A w v hr=>by
 unfold iQ at h;split at h
 ·split at h
  ·rename_i hk;subst hk;cases h;exact hr
  ·cases h
 ·cases h
def P1.b:P1 Uj cn.b:=λa b h A w v hr=>by
 unfold Uj at h;split at h
 ·cases h;exact hr
 ·cases h
def P1.s:P1 asS cn.s:=λa b h A w v hr=>by
 unfold asS at h;split at h
 ·cases h;exact hr
 ·cases h
def P1.l(t:Nat):P1 (jX t) (cn.sl t):=λa b h A w v hr=>by
 unfold jX at h;split at h
 ·obtain⟨rfl,rfl⟩:=nc h;exact hr
 ·cases h;exact(Vw.nil (σ:=[]) t A w v ⟨λr h=>(by cases h),λb h=>(by cases h)⟩ hr).mono λb _ hA=>⟨hA.elim id (λh=>(by cases h)),rfl⟩
 ·cases h
def oU:aa AV->ah Unit
 |[]=>Q ()
 |_=>V
def dQ(f:AV->ah β)(q:aa AV->ah γ):aa AV->ah (β×γ)
 |a::cs=>(f a).bind λb=>(q cs).map λg=>(b,g)
 |[]=>V
def Pk(q:aa AV->ah γ)(c:γ->aa AV):Prop:=∀cs g,q cs=Q g->∀A w us,bL A w cs us->bL A w (c g) us
def Pk.nil:Pk oU (λ_=>[]):=λcs g h A w us hr=>by
 unfold oU at h;split at h
 ·exact hr
 ·cases h
def Pk.cons{f:AV->ah β}{c:β->AV}{q:aa AV->ah γ}{d:γ->aa AV}(h:P1 f c)(hq:Pk q d):Pk (dQ f q) (λx=>c x.1::d x.2):=λcs g hg A w us hr=>by
 unfold dQ at hg;split at hg
 ·obtain⟨b,h1,hg⟩:=zx.1 hg;obtain⟨g',h2,rfl⟩:=zu.1 hg;obtain⟨v,us',rfl,h3,h4⟩:=hr.head;exact bL.cons (h _ _ h1 A w v h3) (hq _ _ h2 A w us' h4)
 ·cases hg
def Pk.map{q:aa AV->ah γ}{d:γ->aa AV}{c:δ->aa AV}(e:γ->δ)(hq:Pk q d)(hc:∀g,c (e g)=d g):Pk (λcs=>(q cs).map e) c:=λcs g hg A w us hr=>by
 obtain⟨g',h1,rfl⟩:=zu.1 hg;rw[hc];exact hq _ _ h1 A w us hr
def aiQ:AV->Bool
 | .lit _=>G
 | .sl _ _=>G
 |_=>I
def YY(cs:aa AV)(h:cs.all aiQ=G)(n:Nat):∀c∈cs,cQ n c:=λc hc=>by
 have:=zA.1 h c hc;cases c<;>first|(cases this;done)|exact .lit _|exact .sl _ _
def XP(cs:aa AV)(h:cs.all aiQ=G)(ρ:Gh):cs.map (cn.sub ρ)=cs:=by
 have:cs.map (cn.sub ρ)=cs.map id:=z7 λc hc=>by
  have:=zA.1 h c hc;cases c<;>first|(cases this;done)|simp only[cn.sub,id]
 rw[this,List.map_id]
def Pk.none{c:γ->aa AV}:Pk (λ_=>Option.none) c:=λcs g hg=>by cases hg
end
end Go.Iv
end
noncomputable section
namespace Go.Iv
variable [U:sF]
open Go Go.RowKit
section
variable {P:Program} {E E':Env} {σ σ':aa cK} {o:Oper} {x y:Operand} {av bv:AV} {C:Cx} {X:aa Nat} {n:Nat} {T T' e:TypeId}
def Hd.keep{A:Nat->Prop}{w w':World}(h:Hd A σ w)(hw:∀b,b<w.heap.size->(A b\/b∈bH σ)->w'.heap[b]? =w.heap[b]?):Hd A σ w':=
 ⟨λr hr=>(h.1 r hr).mono (λb hb hA=>⟨hA,hw b hb (.inl hA)⟩) (λb hb=>hw b ((h.1 r hr).lt hb) (.inr (bS.2 ⟨r,hr,hb⟩))),h.2⟩
def MO.keep{A:Nat->Prop}{w w':World}{ρ:Operand->Value}(h:MO A w E ρ)(hw:∀b,b<w.heap.size->A b->w'.heap[b]? =w.heap[b]?):MO A w' E ρ:=λx u hx=>(h x u hx).mono λb hb hA=>⟨hA,hw b hb hA⟩
def rI{A:Nat->Prop}{w:World}{k:IntKind}:∀{l:aa Int} {us:aa Value},bL A w (l.map (cn.n k)) us->us=l.map (Value.int k)
 |[],us,h=>xp (by simpa using h.1)
 |x::l,us,h=>by
  obtain⟨v,us',rfl,h1,h2⟩:=bL.head (show bL A w (cn.n k x::l.map (cn.n k)) us from h);rw[h1.cM,rI h2];rfl
def Yp.b2s{q:Nat}{l:aa Int}{l0:aa (U.dF q)}(ho:o.op= .convert T T' x)(hx:Src σ E x q l0)(hn:l0.flatMap (U.cells q)=l.map (cn.n .u8))(hz:U.sz q=1)(hs:P.underlying T=Q (.slice e))(he:P.underlying e=Q (.int .u8))(hd:P.underlying T'=Q .string):Yp P E σ o (.s (strOfNums l)):=λA w ρ h hρ=>
 ⟨_, .lit _,λw' hw=>by
  obtain⟨p,cap,news,h1,h2,h3,_,h5,_⟩:=hx.spec (h.keep hw) (hρ.keep λb hb hA=>hw b hb (.inl hA));have h6:=rI (by rw[hn]at h5;exact h5);have hl0:l0.length=l.length:=by rw[hz,xu]at h3;rw[<-h3,h6,zL]
  rw[hl0]at h1 h2;have hconv:(convert T T' (.slice p l.length cap)).run P w'= .ok (.string (strOfNums l)) w':=by
   cases p with
   |none=>
    have:l=[]:=by
     rcases h2 with h2|⟨a,h2,_⟩
     ·exact xp h2
     ·cases h2
    subst this;have hc:=run_convert_bytes_nil (P:=P) w' T e hs he 0 cap T' hd;have:strOfNums []=ByteArray.empty:=rfl;rw[this];simpa using hc
   |some a=>
    have hl:(loadCells a l.length).run P w'= .ok (l.map (Value.int .u8)).toArray w':=by
     rcases h2 with h2|⟨a',h2,h4⟩
     ·have:l=[]:=xp h2;subst this;simp[loadCells,loadCellsFrom]
     ·cases h2;have:=run_loadCells_list (P:=P) w' a (l.map (Value.int .u8)) (λj v hj=>h4 j v (by rw[h6];exact hj));simpa using this
    rw[run_convert_bytes_string w' T T' e _ l.length cap hs he hd,run_bytesToString w' _ l.length cap l hl,foldl_push_bytes];simp[strOfNums,ByteArray.empty,ByteArray.emptyWithCapacity];rfl
  simp[execOp,ho,h1,hconv]⟩
def Yp.auY{s t:ByteArray}(ho:o.op= .binOp .eql T x y T')(hx:E.ev x=Q (.s s))(hy:E.ev y=Q (.s t)):Yp P E σ o (.b (s.toList==t.toList)):=Yp.lits λρ hρ w=>by
 simp[execOp,ho,hρ _ _ hx,hρ _ _ hy,eqGuard,binOp,Op.stringOp]
def Yp.aup{s t:ByteArray}(ho:o.op= .binOp .neq T x y T')(hx:E.ev x=Q (.s s))(hy:E.ev y=Q (.s t)):Yp P E σ o (.b (!(s.toList==t.toList))):=Yp.lits λρ hρ w=>by
 simp[execOp,ho,hρ _ _ hx,hρ _ _ hy,eqGuard,binOp,Op.stringOp]
def run_equal_bool{w:World}{b c:Bool}(hT:P.underlying T=Q .bool):(Op.equal T (.bool b) (.bool c)).run P w= .ok (b==c) w:=by
 obtain⟨d,hd⟩:∃d,Op.maxDepth=d+1:=⟨Op.maxDepth-1,by decide⟩;unfold Op.equal;rw[hd];unfold Op.equalIn;simp only[Sem.run_bind,run_underlying hT,Result.andThen_ok];rfl
def Yp.awx{b c:Bool}(ho:o.op= .binOp .eql T x y T')(hT:P.underlying T=Q .bool)(hx:E.ev x=Q (.b b))(hy:E.ev y=Q (.b c)):Yp P E σ o (.b (b==c)):=Yp.lits λρ hρ w=>by
 have hbin:binOp .eql T (.bool b) (.bool c)=(do pure (.bool (<-Op.equal T (.bool b) (.bool c)))):=rfl;have h1:=run_equal_bool (P:=P) (T:=T) (w:=w) (b:=b) (c:=c) hT;simp only[execOp,ho,hρ _ _ hx,hρ _ _ hy,eqGuard,hbin];simp[h1]
def Yp.avq{b c:Bool}(ho:o.op= .binOp .neq T x y T')(hT:P.underlying T=Q .bool)(hx:E.ev x=Q (.b b))(hy:E.ev y=Q (.b c)):Yp P E σ o (.b (!(b==c))):=Yp.lits λρ hρ w=>by
 have hbin:binOp .neq T (.bool b) (.bool c)=(do pure (.bool (!(<-Op.equal T (.bool b) (.bool c))))):=rfl;have h1:=run_equal_bool (P:=P) (T:=T) (w:=w) (b:=b) (c:=c) hT;simp only[execOp,ho,hρ _ _ hx,hρ _ _ hy,eqGuard,hbin];simp[h1]
end
end Go.Iv
end
noncomputable section
namespace Go.Iv
variable [U:sF]
open Go Go.RowKit
class n7 [U:sF] where
 len:∀t x,(U.cells t x).length=U.sz t
 one:∀t x,(U.cells t x).all iF=G
 clo:∀t x ρ,(U.cells t x).map (cn.sub ρ)=U.cells t x
 rH:∀t x n,∀c∈U.cells t x,cQ n c
 parse:(t:Nat)->List AV->Option (U.dF t)
 lP:∀t cs x,parse t cs=Q x->∀A w us,bL A w cs us->bL A w (U.cells t x) us
 afn:(t:Nat)->List (U.dF t)->Option (List Int)
 u9:∀t l ns,afn t l=Q ns->l.flatMap (U.cells t)=ns.map (.n .u8)/\U.sz t=1
 fz:Nat->Bool:=λ_=>I
 arr:Nat->Bool:=λ_=>I
 gtB:(t:Nat)->U.dF t->Nat->Bool:=λ_ _ _=>I
 stB:(t:Nat)->U.dF t->Nat->Bool->U.dF t:=λ_ x _ _=>x
 ac9:∀t,arr t=G->∀x i,i<U.sz t->(U.cells t x)[i]? =Q (.lit (.bool (gtB t x i))):=by intro t h;exact Bool.noConfusion h
 ad7:∀t,arr t=G->∀x i b,i<U.sz t->U.cells t (stB t x i b)=(U.cells t x).take i++[.lit (.bool b)]++(U.cells t x).drop (i+1):=by intro t h;exact Bool.noConfusion h
variable [L:n7]
def Kv(P:Program)(t n:Nat):Bool:=match P.info? t with
 |some i=>zj i.size n
 |none=>I
def rJ{P:Program}{t n:Nat}(h:Kv P t n=G):(P.info? t).map (·.size)=Q n:=by
 unfold Kv at h;cases hi:P.info? t with
 |none=>rw[hi]at h;cases h
 |some i=>
  rw[hi]at h;simp only[yx,zO.injEq];exact gI h
def TI(P:Program)(t:Nat):Bool:=match P.underlying t with
 |some (.struct _)=>I
 |some (.array _ _)=>I
 |some _=>G
 |none=>I
def Cv{P:Program}{t:Nat}(h:TI P t=G):sE P t:=by
 unfold TI at h;unfold sE;split at h
 ·cases h
 ·cases h
 ·rename_i d hd;refine⟨_,hd,?_⟩;split
  ·simp_all
  ·simp_all
  ·trivial
 ·cases h
def QU(P:Program)(t:Nat):ah Nat:=match P.underlying t with
 |some (.struct _)=>(P.info? t).map (·.size)
 |some (.array _ _)=>(P.info? t).map (·.size)
 |_=>V
def Mm{P:Program}{t n:Nat}(h:QU P t=Q n):tv P t n:=by
 unfold QU at h;split at h
 ·rename_i hd;exact⟨⟨_,hd,trivial⟩,h⟩
 ·rename_i hd;exact⟨⟨_,hd,trivial⟩,h⟩
 ·cases h
def Dm(rd:Nat->ah IR):AV->Bool
 | .own id=>match rd id with
  |some (.row _ _)=>G
  |_=>I
 | .ptr _ _=>G
 | .ra _ _ _ _=>I
 |d=>iF d
def CJ(rd:Nat->ah IR):AV->Bool
 | .agg cs=>cs.all (Dm rd)
 |d=>Dm rd d
section
variable {α:Type} {r:α} {P:Program} {o:Oper} {E:Env} {R:aZ} {nx:Nat} {ev:Operand->ah AV} {rd:Nat->ah IR} {x y z:Operand} {d:AV}
structure kj (ev:Operand->Option AV) (rd:Nat->Option IR) (nx:Nat) (E:Env) (R:aZ):Prop where
 e:∀x d,ev x=Q d->E.ev x=Q d
 r:∀id r,rd id=Q r->gz R id=Q r
 le:E.cQ nx
 lr:aZ.cQ nx R
def kj.gd(h:kj ev rd nx E R)(hx:ev x=Q d)(ρ:Gh):(E.sub ρ).ev x=Q (d.sub ρ):=by
 rw[Env.NS,h.e _ _ hx];rfl
def kj.rH(h:kj ev rd nx E R)(hx:ev x=Q d):cQ nx d:=Env.Wr h.le (h.e _ _ hx)
def kj.row(h:kj ev rd nx E R){id t:Nat}{l:aa (U.dF t)}(hr:rd id=Q (.row t l))(ρ:Gh):∃i:Nat,(aZ.res ρ R)[i]? =Q (.row (ρ.v id) t l):=by
 obtain⟨i,h1,_⟩:=eV (h.r _ _ hr);exact⟨i,ic h1⟩
def kj.box(h:kj ev rd nx E R){id t:Nat}{cs:aa AV}(hr:rd id=Q (.box t cs))(ρ:Gh):∃i:Nat,(aZ.res ρ R)[i]? =Q (.box (ρ.b id) t (cs.map (cn.sub ρ))):=by
 obtain⟨i,h1,_⟩:=eV (h.r _ _ hr);exact⟨i,ic h1⟩
def kj.aaP(h:kj ev rd nx E R){id t:Nat}{cs:aa AV}(hr:rd id=Q (.box t cs)):∀c∈cs,cQ nx c:=(EU (h.r _ _ hr) h.lr).2
def Pu(P:Program)(o:Oper)(E:Env)(R:aZ)(nx:Nat)(d:AV):Prop:=cQ nx d/\∀ρ,Yp P (E.sub ρ) (aZ.res ρ R) o (d.sub ρ)
def bT(ρ:Gh)(v:Value):cn.sub ρ (.lit v)= .lit v:=by simp only[cn.sub]
def gO(ρ:Gh)(t:Nat)(l:aa (U.dF t)):cn.sub ρ (.sl t l)= .sl t l:=by simp only[cn.sub]
def eC(ρ:Gh)(id:Nat):cn.sub ρ (.own id)= .lit (ρ.v id):=by simp only[cn.sub]
def fM(ρ:Gh)(id off:Nat):cn.sub ρ (.ptr id off)= .lit (.pointer (Q ⟨ρ.b id,off,V⟩)):=by simp only[cn.sub]
def jK(ρ:Gh)(id t m off:Nat):cn.sub ρ (.ra id t m off)= .rp (ρ.v id) (m*U.sz t+off):=by simp only[cn.sub]
def mB(ρ:Gh)(cs:aa AV):cn.sub ρ (.fp cs)= .fp (cs.map (cn.sub ρ)):=by simp only[cn.sub]
def fy(ρ:Gh)(cs:aa AV):cn.sub ρ (.agg cs)= .agg (cs.map (cn.sub ρ)):=by simp only[cn.sub]
def kI(ρ:Gh)(cs:aa AV):cn.sub ρ (.jE cs)= .jE (cs.map (cn.sub ρ)):=by simp only[cn.sub]
def tc(ρ:Gh)(f:Go.Fn)(cs:aa AV):cn.sub ρ (.fn f cs)= .fn f (cs.map (cn.sub ρ)):=by simp only[cn.sub]
def Pu.lit{v:Value}(h:∀ρ,Yp P (E.sub ρ) (aZ.res ρ R) o (.lit v)):Pu P o E R nx (.lit v):=⟨.lit v,λρ=>by rw[bT];exact h ρ⟩
def Zc(b:BinOp)(k:IntKind)(m n:Int)(K:AV->ah α):ah α:=match b with
 | .add=>K (.n k (k.wrap (m+n)))
 | .sub=>K (.n k (k.wrap (m-n)))
 | .mul=>K (.n k (k.wrap (m*n)))
 | .quo=>if n≠0 then K (.n k (k.wrap (Int.tdiv m n)))else V
 | .rem=>if n≠0 then K (.n k (Int.tmod m n))else V
 | .and=>K (.n k (tA k m n))
 | .or=>K (.n k (ZR k m n))
 | .xor=>K (.n k (ajI k m n))
 | .andNot=>K (.n k (ajy k m n))
 | .lss=>K (.b (O (m<n)))
 | .leq=>K (.b (O (m<=n)))
 | .gtr=>K (.b (O (n<m)))
 | .geq=>K (.b (O (n<=m)))
 | .eql=>K (.b (O (m=n)))
 | .neq=>K (.b (!O (m=n)))
 |_=>V
def Yp.ak6{T T' e q:Nat}{E:Env}{σ:aa cK}{l:aa (U.dF q)}(ho:o.op= .binOp .eql T x y T')(hx:E.ev x=Q (.sl q l))(hy:E.ev y=Q (.lit (.slice V 0 0)))(hT:P.underlying T=Q (.slice e))(hl:l≠[]):Yp P E σ o (.b I):=λA w ρ _ hρ=>by
 obtain⟨p,cap,u,hv,_,_,_,hc,_⟩:=(hρ _ _ hx).tY;have h2:=(hρ _ _ hy).cM;obtain⟨b,off,hp,_⟩:=hc 0 (List.length_pos_iff.2 hl);subst hp;refine⟨_, .lit _,λw' _=> ?_⟩;have h1:=Lib.run_eql_slice_nil (P:=P) w' T e (Q ⟨b,off,V⟩) l.length cap 0 0 hT;simp[execOp,ho,hv,h2,eqGuard,h1]
def Yp.anm{T T' e q i:Nat}{v:Value}{E:Env}{σ:aa cK}{l:aa (U.dF q)}(ho:o.op= .binOp .eql T x y T')(hx:E.ev x=Q (.lit v))(hσ:σ[i]? =Q (.row v q l))(hy:E.ev y=Q (.lit (.slice V 0 0)))(hT:P.underlying T=Q (.slice e))(hl:l≠[]):Yp P E σ o (.b I):=λA w ρ hd hρ=>by
 obtain⟨us,h1,_⟩:=hd.1 _ (List.mem_of_getElem? hσ);obtain⟨g,cap,cur,hv,_⟩:=h1.at (List.length_pos_iff.2 hl);have hx':=(hρ _ _ hx).cM;have h2:=(hρ _ _ hy).cM;refine⟨_, .lit _,λw' _=> ?_⟩;have h1:=Lib.run_eql_slice_nil (P:=P) w' T e (Q ⟨g,0,V⟩) l.length (cap+1) 0 0 hT;simp[execOp,ho,hx',hv,h2,eqGuard,h1]
def Oi(P:Program)(t:TypeId)(a b:AV):ah Bool:=match P.underlying t with
 |some (.int _)=>match a,b with
  | .lit (.int k m), .lit (.int k' n)=>if k=k' then Q (O (m=n))else V
  |_,_=>V
 |some .bool=>match a,b with
  | .lit (.bool p), .lit (.bool q)=>Q (p==q)
  |_,_=>V
 |some .string=>match a,b with
  | .lit (.string p), .lit (.string q)=>Q (p.toList==q.toList)
  |_,_=>V
 |_=>V
def UH(P:Program)(xs ys:aa AV):aa Field->ah Bool
 |[]=>Q G
 |f::fs=>match (f.name !="_")&&TI P f.type with
  |true=>match xs[f.offset]?,ys[f.offset]? with
   |some a,Q b=>(Oi P f.type a b).bind λr=>(UH P xs ys fs).map λq=>r&&q
   |_,_=>V
  |false=>V
def vE{P:Program}{t:TypeId}(h:sE P t){us:aa Value}{i:Nat}{v:Value}(hv:us[i]? =Q v)(w:World):(part t us.toArray i).run P w= .ok v w:=by
 unfold part;rw[Sem.run_bind,mJ h];simp[hv]
def OZ{P:Program}{t:TypeId}{a b:AV}{q:Bool}(h:Oi P t a b=Q q){A A':Nat->Prop}{w w' w'':World}{u v:Value}{ρ ρ':Gh}(ha:Rel A w (a.sub ρ) u)(hb:Rel A' w' (b.sub ρ') v)(d:Nat):(Op.equalIn (d+1) t u v).run P w''= .ok q w'':=by
 unfold Oi at h;split at h
 ·rename_i k0 ht;split at h
  ·split at h
   ·rename_i hk;subst hk;cases h;simp only[cn.sub]at ha hb;rw[ha.cM,hb.cM];exact run_equalIn_int _ d t _ k0 _ _ ht
   ·cases h
  ·cases h
 ·rename_i ht;split at h
  ·cases h;simp only[cn.sub]at ha hb;rw[ha.cM,hb.cM];exact run_equalIn_bool' _ d t _ _ ht
  ·cases h
 ·rename_i ht;split at h
  ·cases h;simp only[cn.sub]at ha hb;rw[ha.cM,hb.cM];exact run_equalIn_string _ d t _ _ ht
  ·cases h
 ·cases h
def JV{P:Program}{xs ys:aa AV}{A A':Nat->Prop}{w w' w'':World}{us vs:aa Value}{ρ ρ':Gh}(ha:bL A w (xs.map (cn.sub ρ)) us)(hb:bL A' w' (ys.map (cn.sub ρ')) vs)(d:Nat):∀{fs:aa Field} {q:Bool},UH P xs ys fs=Q q->(Op.eqFields (d+1) us.toArray vs.toArray fs).run P w''= .ok q w''
 |[],q,h=>by cases h;simp[Op.eqFields]
 |f::fs,q,h=>by
  unfold UH at h;split at h
  case h_2=>cases h
  rename_i hf;simp only[zn,bne_iff_ne,ne_eq]at hf;split at h
  case h_2=>cases h
  rename_i a b hx hy;obtain⟨r1,h1,h⟩:=zx.1 h;obtain⟨q1,h2,rfl⟩:=zu.1 h;obtain⟨u,hu,hu'⟩:=ha.get (a:=a.sub ρ) (j:=f.offset) (by rw[yb,hx];rfl);obtain⟨v,hv,hv'⟩:=hb.get (a:=b.sub ρ') (j:=f.offset) (by rw[yb,hy];rfl);have ih:=JV (w'':=w'') ha hb d h2;have hone:=Cv hf.2;unfold Op.eqFields;rw[bt hf.1];simp only[Sem.run_bind,vE hone hu,vE hone hv,Result.andThen_ok,OZ (w'':=w'') h1 hu' hv' d];cases r1 with
  |true=>simpa using ih
  |false=>simp
def Yp.seq'{T T':TypeId}{E:Env}{σ:aa cK}{b:BinOp}{cs ds:aa AV}{fs:Array Field}{q:Bool}{ρ ρ':Gh}(ho:o.op= .binOp b T x y T')(hx:E.ev x=Q (.agg (cs.map (cn.sub ρ))))(hy:E.ev y=Q (.agg (ds.map (cn.sub ρ'))))(hT:P.underlying T=Q (.struct fs))(hp:P.stoodInHeld T=I)(hg:P.eqGuardType P.depth T=I)(hq:UH P cs ds fs.toList=Q q)(hb:b= .eql\/b= .neq):
  Yp P E σ o (.b (match b with| .neq=> !q|_=>q)):=λA w ϱ _ hρ=>by
 obtain⟨us,h1,h2⟩:=(hρ _ _ hx).nZ;obtain⟨vs,h3,h4⟩:=(hρ _ _ hy).nZ;refine⟨_, .lit _,λw' _=> ?_⟩;have hT':P.underlying T=Q (.struct (P.fieldsOf T)):=by unfold Program.fieldsOf;rw[hT]
 have hfs:P.fieldsOf T=fs:=by unfold Program.fieldsOf;rw[hT]
 have he:=run_equalIn_struct (P:=P) w' 9999 T us.toArray vs.toArray hT' hp;rw[hfs,JV (w'':=w') h2 h4 9998 hq]at he;have hgr:=run_eqGuard_agg (P:=P) w' b T x y us.toArray vs.toArray hg;rcases hb with rfl|rfl
 ·have h5:=run_eql_struct (P:=P) w' T us.toArray vs.toArray;rw[he]at h5;simp[execOp,ho,h1,h3,hgr,h5]
 ·have h5:=run_neq_struct (P:=P) w' T us.toArray vs.toArray;rw[he]at h5;simp[execOp,ho,h1,h3,hgr,h5]
def eqS(P:Program)(b:BinOp)(T:TypeId)(cs ds:aa AV)(K:AV->ah α):ah α:=match P.underlying T with
 |some (.struct fs)=>match !P.stoodInHeld T&& !P.eqGuardType P.depth T with
  |true=>match b with
   | .eql=>(UH P cs ds fs.toList).bind λq=>K (.b q)
   | .neq=>(UH P cs ds fs.toList).bind λq=>K (.b (!q))
   |_=>V
  |false=>V
 |_=>V
def aj5{b:BinOp}{T T':TypeId}{cs ds:aa AV}(hs:kj ev rd nx E R)(ho:o.op= .binOp b T x y T')(hx:ev x=Q (.agg cs))(hy:ev y=Q (.agg ds)){K:AV->ah α}(h:eqS P b T cs ds K=Q r):∃d,K d=Q r/\Pu P o E R nx d:=by
 unfold eqS at h;split at h
 case h_2=>cases h
 rename_i fs hT;split at h
 case h_2=>cases h
 rename_i hg;simp only[zn,Bool.not_eq_true']at hg;have ex:=λρ=>hs.gd hx ρ;have ey:=λρ=>hs.gd hy ρ;simp only[fy]at ex ey;split at h
 ·obtain⟨q,hq,h⟩:=zx.1 h;exact⟨_,h, .lit λρ=> .seq' ho (ex ρ) (ey ρ) hT hg.1 hg.2 hq (.inl rfl)⟩
 ·obtain⟨q,hq,h⟩:=zx.1 h;exact⟨_,h, .lit λρ=> .seq' ho (ex ρ) (ey ρ) hT hg.1 hg.2 hq (.inr rfl)⟩
 ·cases h
def tf(P:Program)(rd:Nat->ah IR)(b:BinOp)(T:TypeId)(x y:ah AV)(K:AV->ah α):ah α:=match x,y with
 |some (.lit (.int k m)),Q (.lit (.int k' n))=>match b with
  | .shl=>if 0<=n then K (.n k (mD k m n))else V
  | .shr=>if 0<=n then K (.n k (dh k m n))else V
  |_=>if k=k' then Zc b k m n K else V
 |some (.lit (.bool p)),Q (.lit (.bool q))=>match P.underlying T with
  |some .bool=>match b with
   | .eql=>K (.b (p==q))
   | .neq=>K (.b (!(p==q)))
   |_=>V
  |_=>V
 |some (.lit (.string s)),Q (.lit (.string t))=>match b with
  | .eql=>K (.b (s.toList==t.toList))
  | .neq=>K (.b (!(s.toList==t.toList)))
  |_=>V
 |some (.lit (.slice p _ _)),Q (.lit (.slice V 0 0))=>match b,P.underlying T with
  | .eql,Q (.slice _)=>K (.b p.isNone)
  |_,_=>V
 |some (.sl _ l),Q (.lit (.slice V 0 0))=>match b,P.underlying T with
  | .eql,Q (.slice _)=>match l with
   |[]=>V
   |_::_=>K (.b I)
  |_,_=>V
 |some (.own id),Q (.lit (.slice V 0 0))=>match b,P.underlying T with
  | .eql,Q (.slice _)=>match rd id with
   |some (.row _ (_::_))=>K (.b I)
   |_=>V
  |_,_=>V
 |some (.agg cs),Q (.agg ds)=>eqS P b T cs ds K
 |_,_=>V
def afI{b:BinOp}{T T':TypeId}(hs:kj ev rd nx E R)(ho:o.op= .binOp b T x y T'){K:AV->ah α}(h:tf P rd b T (ev x) (ev y) K=Q r):∃d,K d=Q r/\Pu P o E R nx d:=by
 unfold tf at h;split at h
 ·rename_i k m k' n hx hy;have ex:=λρ=>hs.gd hx ρ;have ey:=λρ=>hs.gd hy ρ;simp only[bT]at ex ey;split at h
  ·split at h
   ·rename_i h0;exact⟨_,h, .lit λρ=> .shl ho (ex ρ) (ey ρ) h0⟩
   ·cases h
  ·split at h
   ·rename_i h0;exact⟨_,h, .lit λρ=> .shr ho (ex ρ) (ey ρ) h0⟩
   ·cases h
  ·split at h
   ·rename_i hk;subst hk;unfold Zc at h;split at h
    ·exact⟨_,h, .lit λρ=> .add ho (ex ρ) (ey ρ)⟩
    ·exact⟨_,h, .lit λρ=> .sub ho (ex ρ) (ey ρ)⟩
    ·exact⟨_,h, .lit λρ=> .mul ho (ex ρ) (ey ρ)⟩
    ·split at h
     ·rename_i h0;exact⟨_,h, .lit λρ=> .quo ho (ex ρ) (ey ρ) h0⟩
     ·cases h
    ·split at h
     ·rename_i h0;exact⟨_,h, .lit λρ=> .rem ho (ex ρ) (ey ρ) h0⟩
     ·cases h
    ·exact⟨_,h, .lit λρ=> .and ho (ex ρ) (ey ρ)⟩
    ·exact⟨_,h, .lit λρ=> .or ho (ex ρ) (ey ρ)⟩
    ·exact⟨_,h, .lit λρ=> .xor ho (ex ρ) (ey ρ)⟩
    ·exact⟨_,h, .lit λρ=> .andNot ho (ex ρ) (ey ρ)⟩
    ·exact⟨_,h, .lit λρ=> .lss ho (ex ρ) (ey ρ)⟩
    ·exact⟨_,h, .lit λρ=> .leq ho (ex ρ) (ey ρ)⟩
    ·exact⟨_,h, .lit λρ=> .gtr ho (ex ρ) (ey ρ)⟩
    ·exact⟨_,h, .lit λρ=> .geq ho (ex ρ) (ey ρ)⟩
    ·exact⟨_,h, .lit λρ=> .eql ho (ex ρ) (ey ρ)⟩
    ·exact⟨_,h, .lit λρ=> .neq ho (ex ρ) (ey ρ)⟩
    ·cases h
   ·cases h
 ·rename_i p q hx hy;have ex:=λρ=>hs.gd hx ρ;have ey:=λρ=>hs.gd hy ρ;simp only[bT]at ex ey;split at h
  ·rename_i hT;split at h
   ·exact⟨_,h, .lit λρ=> .awx ho hT (ex ρ) (ey ρ)⟩
   ·exact⟨_,h, .lit λρ=> .avq ho hT (ex ρ) (ey ρ)⟩
   ·cases h
  ·cases h
 ·rename_i s t hx hy;have ex:=λρ=>hs.gd hx ρ;have ey:=λρ=>hs.gd hy ρ;simp only[bT]at ex ey;split at h
  ·exact⟨_,h, .lit λρ=> .auY ho (ex ρ) (ey ρ)⟩
  ·exact⟨_,h, .lit λρ=> .aup ho (ex ρ) (ey ρ)⟩
  ·cases h
 ·rename_i p l c hx hy;have ex:=λρ=>hs.gd hx ρ;have ey:=λρ=>hs.gd hy ρ;simp only[bT]at ex ey;split at h
  ·rename_i hT;exact⟨_,h, .lit λρ=> .alg ho (ex ρ) (ey ρ) hT⟩
  ·cases h
 ·rename_i t l hx hy;have ex:=λρ=>hs.gd hx ρ;have ey:=λρ=>hs.gd hy ρ;simp only[bT]at ey;simp only[gO]at ex;split at h
  ·rename_i hT;split at h
   ·cases h
   ·exact⟨_,h, .lit λρ=> .ak6 ho (ex ρ) (ey ρ) hT (by simp)⟩
  ·cases h
 ·rename_i id hx hy;have ex:=λρ=>hs.gd hx ρ;have ey:=λρ=>hs.gd hy ρ;simp only[bT]at ey;simp only[eC]at ex;split at h
  ·rename_i hT;split at h
   ·rename_i hr;exact⟨_,h, .lit λρ=>by
     obtain⟨i,hi⟩:=hs.row hr ρ;exact .anm ho (ex ρ) hi (ey ρ) hT (by simp)⟩
   ·cases h
  ·cases h
 ·rename_i cs ds hx hy;exact aj5 hs ho hx hy h
 ·cases h
def unV(b:UnOp)(x:ah AV)(K:AV->ah α):ah α:=match b,x with
 | .not,Q (.lit (.bool p))=>K (.b (!p))
 | .neg,Q (.lit (.int k n))=>K (.n k (k.wrap (0-n)))
 |_,_=>V
def ajO{b:UnOp}{T:TypeId}(hs:kj ev rd nx E R)(ho:o.op= .unOp b T x){K:AV->ah α}(h:unV b (ev x) K=Q r):∃d,K d=Q r/\Pu P o E R nx d:=by
 unfold unV at h;split at h
 ·rename_i p hx;have ex:=λρ=>hs.gd hx ρ;simp only[bT]at ex;exact⟨_,h, .lit λρ=> .not ho (ex ρ)⟩
 ·rename_i p hx;have ex:=λρ=>hs.gd hx ρ;simp only[bT]at ex;exact⟨_,h, .lit λρ=> .neg ho (ex ρ)⟩
 ·cases h
def OI(x:ah AV)(K:AV->ah α):ah α:=match x with
 |some (.ptr id off)=>K (.ptr id off)
 |some (.fp cs)=>K (.fp cs)
 |some (.ra id t m off)=>K (.ra id t m off)
 |_=>V
def ae4(hs:kj ev rd nx E R)(ho:o.op= .nilCheck x){K:AV->ah α}(h:OI (ev x) K=Q r):∃d,K d=Q r/\Pu P o E R nx d:=by
 unfold OI at h;split at h
 ·rename_i hx;exact⟨_,h,hs.rH hx,λρ=>by have ex:=hs.gd hx ρ;rw[fM]at ex ⊢;exact .TR ho ex⟩
 ·rename_i hx;exact⟨_,h,hs.rH hx,λρ=>by have ex:=hs.gd hx ρ;rw[mB]at ex ⊢;exact .TT ho ex⟩
 ·rename_i hx;exact⟨_,h,hs.rH hx,λρ=>by have ex:=hs.gd hx ρ;rw[jK]at ex ⊢;exact .Ud ho ex⟩
 ·cases h
def mY{n:Nat}{cs:aa AV}(h:∀c∈cs,cQ n c)(k:Nat):∀c∈cs.drop k,cQ n c:=λc hc=>h c (xS hc)
def pY{n:Nat}{cs:aa AV}(h:∀c∈cs,cQ n c)(k:Nat):∀c∈cs.take k,cQ n c:=λc hc=>h c (wq hc)
def cQ.fpL{n:Nat}{cs:aa AV}(h:cQ n (.fp cs)):∀c∈cs,cQ n c:=by cases h;assumption
def cQ.oO{n:Nat}{cs:aa AV}(h:cQ n (.agg cs)):∀c∈cs,cQ n c:=by cases h;assumption
def cQ.Fy{n:Nat}{cs:aa AV}(h:cQ n (.jE cs)):∀c∈cs,cQ n c:=by cases h;assumption
def cQ.fnL{n:Nat}{f:Go.Fn}{cs:aa AV}(h:cQ n (.fn f cs)):∀c∈cs,cQ n c:=by cases h;assumption
def cQ.aqd{n id off:Nat}(h:cQ n (.ptr id off)):id<n:=by cases h;assumption
def cQ.raL{n id t m off:Nat}(h:cQ n (.ra id t m off)):id<n:=by cases h;assumption
def cQ.axD{n id:Nat}(h:cQ n (.own id)):id<n:=by cases h;assumption
def tW{n:Nat}{cs:aa AV}(h:∀c∈cs,cQ n c){k:Nat}(hk:cs[k]? =Q d):cQ n d:=h d (List.mem_of_getElem? hk)
def uv{n:Nat}{cs ds:aa AV}(h:∀c∈cs,cQ n c)(h':∀c∈ds,cQ n c):∀c∈cs++ds,cQ n c:=λc hc=>(zV.1 hc).elim (h c) (h' c)
def Aq{n:Nat}(h:cQ n d):∀c∈dS d,cQ n c:=by
 cases d<;>first|exact h.oO|(intro c hc;simp only[dS,zD]at hc;rw[hc];exact h)
def Kr(n:Nat)(zs:aa Value):∀c∈zs.map (cn.lit (dF:=U.dF)),cQ n c:=λc hc=>by
 obtain⟨v,_,rfl⟩:=zN.1 hc;exact .lit v
def Pt(P:Program)(T:TypeId)(i:Nat)(x:ah AV)(K:AV->ah α):ah α:=match P.underlying T with
 |some (.struct fs)=>match fs[i]? with
  |some f=>match (P.info? f.type).map (·.size)with
   |some (_+1)=>match x with
    |some (.ptr id off)=>K (.ptr id (off+f.offset))
    |some (.fp cs)=>K (.fp (cs.drop f.offset))
    |some (.ra id t m off)=>K (.ra id t m (off+f.offset))
    |_=>V
   |_=>V
  |none=>V
 |_=>V
def agt{T:TypeId}{i:Nat}(hs:kj ev rd nx E R)(ho:o.op= .fieldAddr T x i){K:AV->ah α}(h:Pt P T i (ev x) K=Q r):∃d,K d=Q r/\Pu P o E R nx d:=by
 unfold Pt at h;split at h
 case h_2=>cases h
 rename_i fs hT;split at h
 case h_2=>cases h
 rename_i f hf;split at h
 case h_2=>cases h
 rename_i sz hsz;split at h
 ·rename_i id off hx;exact⟨_,h, .ptr _ _ (hs.rH hx).aqd,λρ=>by have ex:=hs.gd hx ρ;rw[fM]at ex ⊢;exact .akG ho ex hT hf hsz⟩
 ·rename_i cs hx;exact⟨_,h, .fp _ (mY (hs.rH hx).fpL _),λρ=>by have ex:=hs.gd hx ρ;rw[mB]at ex ⊢;rw[xI];exact .am3 ho ex hT hf hsz⟩
 ·rename_i id t m off hx;exact⟨_,h, .ra _ _ _ _ (hs.rH hx).raL,λρ=>by have ex:=hs.gd hx ρ;rw[jK]at ex ⊢;rw[<-wh];exact .anp ho ex hT hf hsz⟩
 ·cases h
def MT(P:Program)(rd:Nat->ah IR)(T:TypeId)(x y:ah AV)(K:AV->ah α):ah α:=match y with
 |some (.lit (.int _ m))=>match P.underlying T with
  |some (.slice e)=>match x with
   |some (.sl t l)=>match Kv P e (U.sz t)with
    |true=>if 0<=m/\m<(l.length:Int)then K (.fp (U.cells t l[m.toNat]!))else V
    |false=>V
   |some (.own id)=>match rd id with
    |some (.row t l)=>match Kv P e (U.sz t)with
     |true=>if 0<=m/\m<(l.length:Int)then K (.ra id t m.toNat 0)else V
     |false=>V
    |_=>V
   |_=>V
  |some (.array n e)=>match (P.info? e).map (·.size)with
   |some sz=>if 0<=m/\m<(n:Int)then(match x with
    |some (.ptr id off)=>K (.ptr id (off+m.toNat*sz))
    |some (.fp cs)=>K (.fp (cs.drop (m.toNat*sz)))
    |some (.ra id t j off)=>K (.ra id t j (off+m.toNat*sz))
    |_=>V)else V
   |none=>V
  |_=>V
 |_=>V
def abo{T:TypeId}(hs:kj ev rd nx E R)(ho:o.op= .indexAddr T x y){K:AV->ah α}(h:MT P rd T (ev x) (ev y) K=Q r):∃d,K d=Q r/\Pu P o E R nx d:=by
 unfold MT at h;split at h
 case h_2=>cases h
 rename_i k m hy;have ey:=λρ=>hs.gd hy ρ;simp only[bT]at ey;split at h
 ·rename_i e hT;split at h
  ·rename_i t l hx;split at h
   case h_2=>cases h
   rename_i hsz;split at h
   ·rename_i hm;exact⟨_,h, .fp _ (L.rH t _ nx),λρ=>by have ex:=hs.gd hx ρ;rw[gO]at ex;rw[mB,L.clo];exact .aer ho ex (ey ρ) hT (rJ hsz) hm⟩
   ·cases h
  ·rename_i id hx;split at h
   case h_2=>cases h
   rename_i t l hr;split at h
   case h_2=>cases h
   rename_i hsz;split at h
   ·rename_i hm;refine⟨_,h, .ra _ _ _ _ (hs.rH hx).axD,λρ=> ?_⟩;have ex:=hs.gd hx ρ;rw[eC]at ex;obtain⟨i,hi⟩:=hs.row hr ρ;rw[jK,yq];exact .VF i ho ex hi (ey ρ) hT (rJ hsz) hm
   ·cases h
  ·cases h
 ·rename_i n e hT;split at h
  case h_2=>cases h
  rename_i sz hsz;split at h
  case isFalse=>cases h
  rename_i hm;split at h
  ·rename_i id off hx;exact⟨_,h, .ptr _ _ (hs.rH hx).aqd,λρ=>by have ex:=hs.gd hx ρ;rw[fM]at ex ⊢;exact .alY ho ex (ey ρ) hT hsz hm⟩
  ·rename_i cs hx;exact⟨_,h, .fp _ (mY (hs.rH hx).fpL _),λρ=>by have ex:=hs.gd hx ρ;rw[mB]at ex ⊢;rw[xI];exact .anl ho ex (ey ρ) hT hsz hm⟩
  ·rename_i id t j off hx;exact⟨_,h, .ra _ _ _ _ (hs.rH hx).raL,λρ=>by have ex:=hs.gd hx ρ;rw[jK]at ex ⊢;rw[<-wh];exact .aj2 ho ex (ey ρ) hT hsz hm⟩
  ·cases h
 ·cases h
def ldV(P:Program)(rd:Nat->ah IR)(T:TypeId)(x:ah AV)(K:AV->ah α):ah α:=match TI P T with
 |true=>match x with
  |some (.fp cs)=>(cs[0]?).bind K
  |some (.ptr id off)=>match rd id with
   |some (.box _ cs)=>(cs[off]?).bind K
   |_=>V
  |some (.ra id t m off)=>match rd id with
   |some (.row t' l)=>match L.arr t' with
    |true=>if t=t'/\m<l.length/\off<U.sz t' then K (.lit (.bool (L.gtB t' l[m]! off)))else V
    |false=>if t=t'/\m<l.length then((U.cells t' l[m]!)[off]?).bind K else V
   |_=>V
  |_=>V
 |false=>match QU P T with
  |some n=>match x with
   |some (.fp cs)=>match yj n cs.length with
    |true=>K (.agg (cs.take n))
    |false=>V
   |some (.ptr id off)=>match rd id with
    |some (.box _ cs)=>match yj (off+n) cs.length with
     |true=>K (.agg ((cs.drop off).take n))
     |false=>V
    |_=>V
   |some (.ra id t m off)=>match rd id with
    |some (.row t' l)=>match yj (off+n) (U.sz t')with
     |true=>if t=t'/\m<l.length then K (.agg (((U.cells t' l[m]!).drop off).take n))else V
     |false=>V
    |_=>V
   |_=>V
  |none=>V
def ani{T:TypeId}(hs:kj ev rd nx E R)(ho:o.op= .load T x){K:AV->ah α}(h:ldV P rd T (ev x) K=Q r):∃d,K d=Q r/\Pu P o E R nx d:=by
 unfold ldV at h;split at h
 ·rename_i hT;have hT:=Cv hT;split at h
  ·rename_i cs hx;obtain⟨d,hd,h⟩:=zx.1 h;exact⟨d,h,tW (hs.rH hx).fpL hd,λρ=>by have ex:=hs.gd hx ρ;rw[mB]at ex;exact .ajZ ho ex hT (by rw[yb,hd];rfl)⟩
  ·rename_i id off hx;split at h
   case h_2=>cases h
   rename_i t cs hr;obtain⟨d,hd,h⟩:=zx.1 h;refine⟨d,h,tW (hs.aaP hr) hd,λρ=> ?_⟩;have ex:=hs.gd hx ρ;rw[fM]at ex;obtain⟨i,hi⟩:=hs.box hr ρ;exact .als i ho ex hi hT (by rw[yb,hd];rfl)
  ·rename_i id t m off hx;split at h
   case h_2=>cases h
   rename_i t' l hr;split at h
   ·rename_i har;split at h
    case isFalse=>cases h
    rename_i hm;obtain⟨rfl,hm,hoff⟩:=hm;refine⟨_,h, .lit _,λρ=> ?_⟩;have ex:=hs.gd hx ρ;rw[jK]at ex;obtain⟨i,hi⟩:=hs.row hr ρ;rw[show (cn.lit (.bool (L.gtB t l[m]! off)):AV).sub ρ= .lit (.bool (L.gtB t l[m]! off))by simp only[cn.sub]];exact .YF i m ho ex hi hT rfl hm (L.ac9 t har l[m]! off hoff)
   split at h
   case isFalse=>cases h
   rename_i hm;obtain⟨rfl,hm⟩:=hm;obtain⟨d,hd,h⟩:=zx.1 h;refine⟨d,h,tW (L.rH t _ nx) hd,λρ=> ?_⟩;have ex:=hs.gd hx ρ;rw[jK]at ex;obtain⟨i,hi⟩:=hs.row hr ρ;have hc:d.sub ρ=d:=by
    have:=L.clo t l[m]! ρ;have h2:((U.cells t l[m]!).map (cn.sub ρ))[off]? =Q (d.sub ρ):=by rw[yb,hd];rfl
    rw[this,hd]at h2;exact(zO.inj h2).symm
   rw[hc];exact .YF i m ho ex hi hT rfl hm hd
  ·cases h
 ·split at h
  case h_2=>cases h
  rename_i n hT;have hT:=Mm hT;split at h
  ·rename_i cs hx;split at h
   case h_2=>cases h
   rename_i hn;exact⟨_,h, .agg _ (pY (hs.rH hx).fpL _),λρ=>by have ex:=hs.gd hx ρ;rw[mB]at ex;rw[fy,xR];exact .amz ho ex hT (by rw[zL];exact wu hn)⟩
  ·rename_i id off hx;split at h
   case h_2=>cases h
   rename_i t cs hr;split at h
   case h_2=>cases h
   rename_i hn;refine⟨_,h, .agg _ (pY (mY (hs.aaP hr) _) _),λρ=> ?_⟩;have ex:=hs.gd hx ρ;rw[fM]at ex;obtain⟨i,hi⟩:=hs.box hr ρ;rw[fy,xR,xI];exact .alT i ho ex hi hT (by rw[zL];exact wu hn)
  ·rename_i id t m off hx;split at h
   case h_2=>cases h
   rename_i t' l hr;split at h
   case h_2=>cases h
   rename_i hn;split at h
   case isFalse=>cases h
   rename_i hm;obtain⟨rfl,hm⟩:=hm;refine⟨_,h, .agg _ (pY (mY (L.rH t _ nx) _) _),λρ=> ?_⟩;have ex:=hs.gd hx ρ;rw[jK]at ex;obtain⟨i,hi⟩:=hs.row hr ρ;rw[fy,xR,xI,L.clo];exact .aiS i m ho ex hi hT rfl hm (wu hn)
  ·cases h
end
end Go.Iv
end
noncomputable section
namespace Go.Iv
variable [U:sF] [L:n7]
open Go Go.RowKit
section
variable {P:Program} {E:Env} {σ:aa cK} {o:Oper} {T T' e:TypeId} {x y z:Operand} {av:AV} {m:Int} {k:IntKind}
def Yp.akk{n':Nat}{cs:aa AV}(ho:o.op= .index T x y)(hx:E.ev x=Q (.agg cs))(hy:E.ev y=Q (.n k m))(hT:P.underlying T=Q (.array n' e))(h1:sE P e)(hs:(P.info? e).map (·.size)=Q 1)(hm:0<=m/\m<n')(ha:cs[m.toNat]? =Q av):Yp P E σ o av:=λA w ρ _ hρ=>by
 obtain⟨j,hj,hj'⟩:=zu.1 hs;obtain⟨us,q1,q2⟩:=(hρ _ _ hx).nZ;have hy':=(hρ _ _ hy).cM;obtain⟨v,q3,q4⟩:=q2.get ha;refine⟨v,q4,λw' _=> ?_⟩;have hp:(part e us.toArray m.toNat).run P w'= .ok v w':=by
  unfold part;rw[Sem.run_bind,mJ h1];simp[q3]
 simp[execOp,ho,Instr.index,q1,hy',run_underlying hT,sizeOf,typeInfo,hj,hj',asIntOf,hm,hp]
end
section
variable {α:Type} {r:α} {P:Program} {o:Oper} {E:Env} {R:aZ} {nx:Nat} {ev:Operand->ah AV} {rd:Nat->ah IR} {x y z:Operand} {d:AV} {A:Nat->Prop} {w:World} {ρ:Gh} {v:Value}
def lz(ρ:Gh)(d:AV):dS (d.sub ρ)=(dS d).map (cn.sub ρ):=by
 cases d<;>simp only[cn.sub,dS,yl,xw]
def Np{d:AV}(h:iF d=G)(hn:∀id,d≠ .own id):iF (d.sub ρ)=G:=by
 cases d<;>first|(exact cR rfl (hn _))|(cases h;done)|(simp only[cn.sub,iF]at h ⊢;done)|(simp only[cn.sub,iF]at h ⊢;first|exact h|rfl)
def C0(hs:kj ev rd nx E R)(h:Dm rd d=G)(hd:Hd A (aZ.res ρ R) w)(hr:Rel A w (d.sub ρ) v):v.oneCell'=G:=by
 unfold Dm at h;split at h
 ·rename_i id;split at h
  ·rename_i t l hrd;obtain⟨i,hi⟩:=hs.row hrd ρ;rw[eC]at hr;rw[hr.cM];exact ad8 i hi hd
  ·cases h
 ·rw[fM]at hr;rw[hr.cM];rfl
 ·cases h
 ·rename_i h1 _ _;exact hr.one (Np h (λid e=>h1 id e))
def vI(hs:kj ev rd nx E R)(h:CJ rd d=G)(hd:Hd A (aZ.res ρ R) w)(hr:Rel A w (d.sub ρ) v):bL A w ((dS d).map (cn.sub ρ)) v.cells.toList/\∀u∈v.cells.toList,u.oneCell'=G:=by
 by_cases ha:∃cs,d= .agg cs
 ·obtain⟨cs,rfl⟩:=ha;rw[fy]at hr;obtain⟨us,rfl,h2⟩:=hr.nZ;refine⟨by simpa [Value.cells,dS]using h2,λu hu=> ?_⟩;simp only[Value.cells,List.toList_toArray]at hu;obtain⟨j,hj,rfl⟩:=wk hu;have hlt:j<cs.length:=by have:=h2.1;rw[zL]at this;omega
  have h3:=h2.2 j _ us[j] (by rw[yb,zw hlt];rfl) (zw hj);exact C0 hs (zA.1 h _ (xO hlt)) hd h3
 ·have hc:Dm rd d=G:=by
   cases d<;>first|exact h|(exact cR ⟨_,rfl⟩ ha)
  have hac:dS d=[d]:=by
   cases d<;>first|rfl|(exact cR ⟨_,rfl⟩ ha)
  have h2:=C0 hs hc hd hr;rw[hac,sD h2];exact⟨bL.cons hr bL.nil,λu hu=>by simp at hu;rw[hu];exact h2⟩
def FM(hs:kj ev rd nx E R)(h:CJ rd d=G):Pw (aZ.res ρ R) (d.sub ρ):=λA w v hd hr=>by
 rw[lz];exact vI hs h hd hr
def uY(rd:Nat->ah IR)(place:Nat->ah (Nat×Nat))(cells:aa AV):aa (Nat×AV)->ah (aa AV)
 |[]=>Q cells
 |(i,a)::rest=>
  match place i with
  |none=>V
  |some (off,size)=>
   match zj (dS a).length size&&yj (off+size) cells.length&&CJ rd a with
   |true=>uY rd place (cells.take off++dS a++cells.drop (off+size)) rest
   |false=>V
def GK{place:Nat->ah (Nat×Nat)}:∀{ps:aa (Nat×AV)} {cs cs':aa AV},(∀c∈cs,cQ nx c)->(∀p∈ps,cQ nx p.2)->uY rd place cs ps=Q cs'->∀c∈cs',cQ nx c
 |[],cs,cs',h1,_,hf=>by cases hf;exact h1
 |(i,a)::ps,cs,cs',h1,h2,hf=>by
  unfold uY at hf;split at hf
  ·cases hf
  ·split at hf
   ·exact GK (uv (uv (pY h1 _) (Aq (h2 _ zo))) (mY h1 _)) (λp hp=>h2 p (zH _ hp)) hf
   ·cases hf
def AR(hs:kj ev rd nx E R)(hd:Hd A (aZ.res ρ R) w){place:Nat->ah (Nat×Nat)}:∀{ps:aa (Nat×AV)} {qs:aa (Nat×Value)} {cs cs':aa AV} {init:Array Value},bL A w (cs.map (cn.sub ρ)) init.toList->
  F2 (λ(p:Nat×AV) (q:Nat×Value)=>p.1=q.1/\Rel A w (p.2.sub ρ) q.2) ps qs->uY rd place cs ps=Q cs'->∃us:Array Value,Instr.fill place init qs=Q us/\bL A w (cs'.map (cn.sub ρ)) us.toList
 |[],_,cs,cs',init,hi,hp,hf=>by
  cases hp;cases hf;exact⟨init,rfl,hi⟩
 |(i,a)::ps,_,cs,cs',init,hi,hp,hf=>by
  cases hp with
  |@cons _ q _ qs h1 h2=>
   obtain⟨j,v⟩:=q;obtain⟨h3,h4⟩:=h1;simp only at h3 h4;subst h3;unfold uY at hf;unfold Instr.fill;cases hpl:place i with
   |none=>rw[hpl]at hf;cases hf
   |some os=>
    obtain⟨off,size⟩:=os;rw[hpl]at hf;simp only at hf ⊢;split at hf
    ·rename_i hc;simp only[zn,Nat.ble_eq]at hc;obtain⟨⟨hc1,hc2⟩,hc3⟩:=hc;have hc1:=xe hc1;obtain⟨h5,h6⟩:=vI hs hc3 hd h4;have hvs:v.cells.size=size:=by rw[<-yt,h5.1,zL,hc1]
     have his:init.size=cs.length:=by rw[<-yt,hi.1,zL]
     rw[bF (by simp[hvs];omega)];refine AR hs hd (cs:=cs.take off++dS a++cs.drop (off+size)) ?_ h2 hf;have hvl:v.cells.toList.length=size:=by rw[yt,hvs]
     have e:(v.cells.zipIdx.foldl (λcs (x:Value×Nat)=>match x with|(c,j)=>cs.setIfInBounds (off+j) c) init).toList=init.toList.take off++v.cells.toList++init.toList.drop (off+size):=by
      have:=UR v.cells.toList 0 off init (by rw[hvl];omega);rw[hvl,yq]at this;rw[<-this,<-Array.foldl_toList,Array.toList_zipIdx]
     show bL A w _ (v.cells.zipIdx.foldl _ init).toList;rw[e,yo,yo,xR,xI];exact((hi.take off).app h5).app (hi.drop (off+size))
    ·cases hf
def evp(ev:Operand->ah AV):aa (Nat×Operand)->ah (aa (Nat×AV))
 |[]=>Q []
 |(i,x)::xs=>match ev x with
  |some a=>(evp ev xs).map λas0=>(i,a)::as0
  |none=>V
def Tm(hs:kj ev rd nx E R):∀{xs:aa (Nat×Operand)} {as0:aa (Nat×AV)},evp ev xs=Q as0->∀p∈as0,cQ nx p.2
 |[],as0,h=>by cases h;simp
 |(i,x)::xs,as0,h=>by
  unfold evp at h;split at h
  ·rename_i a ha;obtain⟨as',h1,rfl⟩:=zu.1 h;intro p hp;rcases zF.1 hp with rfl|hp
   ·exact hs.rH ha
   ·exact Tm hs h1 p hp
  ·cases h
def Ig(hs:kj ev rd nx E R){ϱ:Operand->Value}(h:MO A w (E.sub ρ) ϱ):∀{xs:aa (Nat×Operand)} {as0:aa (Nat×AV)},evp ev xs=Q as0->
  F2 (λ(p:Nat×AV) (q:Nat×Value)=>p.1=q.1/\Rel A w (p.2.sub ρ) q.2) as0 (xs.map λp=>(p.1,ϱ p.2))
 |[],as0,he=>by cases he;exact .nil
 |(i,x)::xs,as0,he=>by
  unfold evp at he;split at he
  ·rename_i a ha;obtain⟨as',h1,rfl⟩:=zu.1 he;exact .cons ⟨rfl,h x _ (hs.gd ha ρ)⟩ (Ig hs h h1)
  ·cases he
def KM(ev:Operand->ah AV):aa Operand->ah (aa AV)
 |[]=>Q []
 |x::xs=>match ev x with
  |some a=>(KM ev xs).map λas0=>a::as0
  |none=>V
def G8(hs:kj ev rd nx E R):∀{xs:aa Operand} {as0:aa AV},KM ev xs=Q as0->∀d∈as0,cQ nx d
 |[],as0,h=>by cases h;simp
 |x::xs,as0,h=>by
  unfold KM at h;split at h
  ·rename_i a ha;obtain⟨as',h1,rfl⟩:=zu.1 h;intro p hp;rcases zF.1 hp with rfl|hp
   ·exact hs.rH ha
   ·exact G8 hs h1 p hp
  ·cases h
def Iy(hs:kj ev rd nx E R)(ρ:Gh):∀{xs:aa Operand} {as0:aa AV},KM ev xs=Q as0->(E.sub ρ).KM xs=Q (as0.map (cn.sub ρ))
 |[],as0,he=>by cases he;rfl
 |x::xs,as0,he=>by
  unfold KM at he;split at he
  ·rename_i a ha;obtain⟨as',h1,rfl⟩:=zu.1 he;unfold Env.KM;rw[hs.gd ha ρ,Iy hs ρ h1];rfl
  ·cases he
def Ol(P:Program)(ev:Operand->ah AV)(rd:Nat->ah IR)(T:TypeId)(ps:aa (Nat×Operand))(K:AV->ah α):ah α:=
 match evp ev ps,jY P T with
 |some as0,Q zs=>match P.underlying T with
  |some (.struct _)=>match placesOf P T with
   |some places=>(uY rd (places[·]?) (zs.map .lit) as0).bind λcs=>K (.agg cs)
   |none=>V
  |some (.array _ e)=>match (P.info? e).map (·.size)with
   |some sz=>(uY rd (λi=>Q (i*sz,sz)) (zs.map .lit) as0).bind λcs=>K (.agg cs)
   |none=>V
  |_=>V
 |_,_=>V
def EG(ρ:Gh)(zs:aa Value):(zs.map (cn.lit (dF:=U.dF))).map (cn.sub ρ)=zs.map .lit:=by
 rw[yp];exact z7 λv _=>bT ρ v
def agi{T:TypeId}{ps:Array (Nat×Operand)}(hs:kj ev rd nx E R)(ho:o.op= .build T ps){K:AV->ah α}(h:Ol P ev rd T ps.toList K=Q r):∃d,K d=Q r/\Pu P o E R nx d:=by
 unfold Ol at h;split at h
 case h_2=>cases h
 rename_i as0 zs he hz;have main:∀(place:Nat->ah (Nat×Nat)) (cs:aa AV),uY rd place (zs.map .lit) as0=Q cs->(∀(vs:aa (Nat×Value)) (us:Array Value),Instr.fill place zs.toArray vs=Q us->P.built T vs=Q us)->Pu P o E R nx (.agg cs):=λplace cs hf hb=>by
  refine⟨.agg _ (GK (Kr nx zs) (Tm hs he) hf),λρ A w ϱ hd hρ=> ?_⟩;obtain⟨it,hit,hz1⟩:=zx.1 hz;obtain⟨zv,hz2,hz3⟩:=zu.1 hz1;have hzr:bL A w ((zs.map cn.lit).map (cn.sub ρ)) zs:=by rw[EG];exact bL.lits _
  obtain⟨us,h1,h2⟩:=AR (init:=zs.toArray) hs hd hzr (Ig hs hρ he) hf;rw[fy];refine⟨.agg us,by simpa using Rel.oO h2,λw' _=> ?_⟩;have:=run_build (P:=P) w' T _ us (hb _ us h1);rw[<-KB]at this;simp[execOp,ho,this]
 split at h
 ·rename_i fs hT;split at h
  case h_2=>cases h
  rename_i places hp;obtain⟨cs,hf,h⟩:=zx.1 h;refine⟨_,h,main _ cs hf λvs us hu=> ?_⟩;obtain⟨it,hit,hz1⟩:=zx.1 hz;obtain⟨zv,hz2,hz3⟩:=zu.1 hz1;unfold Program.built;unfold placesOf at hp;rw[hit,hT]at*;simp only at hp;simp only[hz2,hp];have:zv.cells=zs.toArray:=by rw[<-hz3]
  rw[this];simpa using hu
 ·rename_i n e hT;split at h
  case h_2=>cases h
  rename_i sz hsz;obtain⟨cs,hf,h⟩:=zx.1 h;refine⟨_,h,main _ cs hf λvs us hu=> ?_⟩;obtain⟨it,hit,hz1⟩:=zx.1 hz;obtain⟨zv,hz2,hz3⟩:=zu.1 hz1;obtain⟨ie,hie,hse⟩:=zu.1 hsz;unfold Program.built;rw[hit,hT];simp only[hz2,hie,hse];have:zv.cells=zs.toArray:=by rw[<-hz3]
  rw[this];exact hu
 ·cases h
def Nv(P:Program)(rd:Nat->ah IR)(T T':TypeId)(x:ah AV)(K:AV->ah α):ah α:=match P.underlying T,P.underlying T' with
 |some (.int _),Q (.int k')=>match x with
  |some (.lit (.int k n))=>match P.underlying T with
   |some (.int k0)=>if k0=k then K (.n k' (k'.wrap n))else V
   |_=>V
  |_=>V
 |some (.slice e),Q .string=>match P.underlying e with
  |some (.int .u8)=>match x with
   |some (.sl t l)=>(L.afn t l).bind λns=>K (.s (strOfNums ns))
   |some (.own id)=>match rd id with
    |some (.row t l)=>(L.afn t l).bind λns=>K (.s (strOfNums ns))
    |_=>V
   |_=>V
  |_=>V
 |_,_=>V
def aab{T T':TypeId}(hs:kj ev rd nx E R)(ho:o.op= .convert T T' x){K:AV->ah α}(h:Nv P rd T T' (ev x) K=Q r):∃d,K d=Q r/\Pu P o E R nx d:=by
 unfold Nv at h;split at h
 ·rename_i k0 k' hT hT';split at h
  case h_2=>cases h
  rename_i k n hx;have ex:=λρ=>hs.gd hx ρ;simp only[bT]at ex;split at h
  case h_2=>cases h
  rename_i k1 hk1;split at h
  case isFalse=>cases h
  rename_i hk;subst hk;exact⟨_,h, .lit λρ=> .conv hk1 hT' ho (ex ρ)⟩
 ·rename_i e hT hT';split at h
  case h_2=>cases h
  rename_i he;split at h
  ·rename_i t l hx;obtain⟨ns,hn,h⟩:=zx.1 h;exact⟨_,h, .lit λρ=> .b2s ho (.inr (.inl (by have ex:=hs.gd hx ρ;rw[gO]at ex;exact ex))) (L.u9 t l ns hn).1 (L.u9 t l ns hn).2 hT he hT'⟩
  ·rename_i id hx;split at h
   case h_2=>cases h
   rename_i t l hr;obtain⟨ns,hn,h⟩:=zx.1 h;refine⟨_,h, .lit λρ=> ?_⟩;have ex:=hs.gd hx ρ;rw[eC]at ex;obtain⟨i,hi⟩:=hs.row hr ρ;exact .b2s ho (.inr (.inr ⟨i,_,ex,hi⟩)) (L.u9 t l ns hn).1 (L.u9 t l ns hn).2 hT he hT'
  ·cases h
 ·cases h
def OS(i:Nat)(x:ah AV)(K:AV->ah α):ah α:=match x with
 |some (.jE cs)=>(cs[i]?).bind K
 |_=>V
def ace{i:Nat}(hs:kj ev rd nx E R)(ho:o.op= .extract x i){K:AV->ah α}(h:OS i (ev x) K=Q r):∃d,K d=Q r/\Pu P o E R nx d:=by
 unfold OS at h;split at h
 ·rename_i cs hx;obtain⟨d,hd,h⟩:=zx.1 h;exact⟨d,h,tW (hs.rH hx).Fy hd,λρ=>by have ex:=hs.gd hx ρ;rw[kI]at ex;exact .extract ho ex (by rw[yb,hd];rfl)⟩
 ·cases h
def PL(ev:Operand->ah AV)(f:Go.Fn)(fs cs:aa Operand)(K:AV->ah α):ah α:=match fs with
 |[]=>(KM ev cs).bind λas0=>K (.fn f as0)
 |_=>V
def ZY{f:Go.Fn}{fs cs:Array Operand}(hs:kj ev rd nx E R)(ho:o.op= .makeFunc f fs cs){K:AV->ah α}(h:PL ev f fs.toList cs.toList K=Q r):∃d,K d=Q r/\Pu P o E R nx d:=by
 unfold PL at h;split at h
 ·rename_i h0;obtain⟨as0,ha,h⟩:=zx.1 h;refine⟨_,h, .fn _ _ (G8 hs ha),λρ=> ?_⟩;rw[tc];exact .func ho (by rw[<-Array.toList_eq_nil_iff];exact h0) (Iy hs ρ ha)
 ·cases h
def cq(s:ByteArray)(i:Nat):Int:=((s.data[i]!).toNat:Int)
def Yp.alk{T:TypeId}{E:Env}{σ:aa cK}{s:ByteArray}{k:IntKind}{m:Int}(ho:o.op= .index T x y)(hx:E.ev x=Q (.s s))(hy:E.ev y=Q (.n k m))(hT:P.underlying T=Q .string)(hm:0<=m/\m<(s.size:Int)):Yp P E σ o (.n .u8 (cq s m.toNat)):=λA w ρ _ hρ=>by
 refine⟨_, .lit _,λw' _=> ?_⟩;have hx':=(hρ _ _ hx).cM;have hy':=(hρ _ _ hy).cM;have h:=run_index_string (P:=P) w' T s k m hT;rw[dif_pos hm]at h;have e:cq s m.toNat=((s[m.toNat]'(by omega)).toNat:Int):=by
  unfold cq;have hlt:m.toNat<s.data.size:=by have:s.data.size=s.size:=rfl;omega
  rw[getElem!_pos s.data m.toNat hlt];rfl
 rw[<-e]at h;simp[execOp,ho,hx',hy',h]
def ND(P:Program)(T:TypeId)(x y:ah AV)(K:AV->ah α):ah α:=match P.underlying T with
 |some (.array n e)=>match TI P e&&Kv P e 1 with
  |true=>match x,y with
   |some (.agg cs),Q (.lit (.int _ m))=>if 0<=m/\m<(n:Int)then(cs[m.toNat]?).bind K else V
   |_,_=>V
  |false=>V
 |some .string=>match x,y with
  |some (.lit (.string s)),Q (.lit (.int _ m))=>if 0<=m/\m<(s.size:Int)then K (.n .u8 (cq s m.toNat))else V
  |_,_=>V
 |_=>V
def abt{T:TypeId}(hs:kj ev rd nx E R)(ho:o.op= .index T x y){K:AV->ah α}(h:ND P T (ev x) (ev y) K=Q r):∃d,K d=Q r/\Pu P o E R nx d:=by
 unfold ND at h;split at h
 case h_3=>cases h
 case h_2=>
  rename_i hT;split at h
  case h_2=>cases h
  rename_i s k m hx hy;split at h
  case isFalse=>cases h
  rename_i hm;have ex:=λρ=>hs.gd hx ρ;have ey:=λρ=>hs.gd hy ρ;simp only[bT]at ex ey;exact⟨_,h, .lit λρ=> .alk ho (ex ρ) (ey ρ) hT hm⟩
 rename_i n e hT;split at h
 case h_2=>cases h
 rename_i he;simp only[zn]at he;split at h
 case h_2=>cases h
 rename_i cs k m hx hy;split at h
 case isFalse=>cases h
 rename_i hm;obtain⟨d,hd,h⟩:=zx.1 h;refine⟨d,h,tW (hs.rH hx).oO hd,λρ=> ?_⟩;have ex:=hs.gd hx ρ;have ey:=hs.gd hy ρ;rw[fy]at ex;rw[bT]at ey;exact .akk ho ex ey hT (Cv he.1) (rJ he.2) hm (by rw[yb,hd];rfl)
def PD(P:Program)(T:TypeId)(x:ah AV)(lo hi:ah (ah AV))(K:AV->ah α):ah α:=match P.underlying T with
 |some (.slice e)=>match x with
  |some (.sl t l)=>match Kv P e (U.sz t)with
   |true=>match lo,hi with
    |some (Q (.lit (.int _ a))),Q (Q (.lit (.int _ b)))=>if 0<=a/\a<=b/\b<=(l.length:Int)then K (.sl t ((l.take b.toNat).drop a.toNat))else V
    |none,Q (Q (.lit (.int _ b)))=>if 0<=b/\b<=(l.length:Int)then K (.sl t (l.take b.toNat))else V
    |some (Q (.lit (.int _ a))),V=>if 0<=a/\a<=(l.length:Int)then K (.sl t (l.drop a.toNat))else V
    |_,_=>V
   |false=>V
  |_=>V
 |_=>V
def adm{T:TypeId}{lo hi:ah Operand}(hs:kj ev rd nx E R)(ho:o.op= .slice T x lo hi V){K:AV->ah α}(h:PD P T (ev x) (lo.map ev) (hi.map ev) K=Q r):∃d,K d=Q r/\Pu P o E R nx d:=by
 unfold PD at h;split at h
 case h_2=>cases h
 rename_i e hT;split at h
 case h_2=>cases h
 rename_i t l hx;split at h
 case h_2=>cases h
 rename_i hsz;have hsz:=rJ hsz;have ex:=λρ=>hs.gd hx ρ;simp only[gO]at ex;split at h
 ·rename_i k a k' b hlo hhi;split at h
  case isFalse=>cases h
  rename_i hc;cases lo with
  |none=>cases hlo
  |some lo=>
   cases hi with
   |none=>cases hhi
   |some hi=>
    have e1:=λρ=>hs.gd (zO.inj hlo) ρ;have e2:=λρ=>hs.gd (zO.inj hhi) ρ;simp only[bT]at e1 e2;exact⟨_,h, .sl _ _,λρ=>by rw[gO];exact .aku ho (ex ρ) (e1 ρ) (e2 ρ) hT hsz hc⟩
 ·rename_i k' b hlo hhi;split at h
  case isFalse=>cases h
  rename_i hc;cases lo with
  |some lo=>cases hlo
  |none=>
   cases hi with
   |none=>cases hhi
   |some hi=>
    have e2:=λρ=>hs.gd (zO.inj hhi) ρ;simp only[bT]at e2;exact⟨_,h, .sl _ _,λρ=>by rw[gO];exact .ae6 ho (ex ρ) (e2 ρ) hT hsz hc⟩
 ·rename_i k a hlo hhi;split at h
  case isFalse=>cases h
  rename_i hc;cases lo with
  |none=>cases hlo
  |some lo=>
   cases hi with
   |some hi=>cases hhi
   |none=>
    have e1:=λρ=>hs.gd (zO.inj hlo) ρ;simp only[bT]at e1;exact⟨_,h, .sl _ _,λρ=>by rw[gO];exact .acq ho (ex ρ) (e1 ρ) hT hsz hc⟩
 ·cases h
def Ov(P:Program)(rd:Nat->ah IR)(T:TypeId)(x:ah AV)(K:AV->ah α):ah α:=match P.underlying T with
 |some (.slice _)=>match x with
  |some (.sl _ l)=>K (.i (l.length:Int))
  |some (.own id)=>match rd id with
   |some (.row _ l)=>K (.i (l.length:Int))
   |_=>V
  |some (.lit (.slice V 0 0))=>K (.i 0)
  |_=>V
 |some .string=>match x with
  |some (.lit (.string s))=>K (.i (s.size:Int))
  |_=>V
 |_=>V
def aa0{T:TypeId}(hs:kj ev rd nx E R)(ho:o.op= .call {callee:= .builtin .len,args:=#[x],argTypes:=#[T]}){K:AV->ah α}(h:Ov P rd T (ev x) K=Q r):∃d,K d=Q r/\Pu P o E R nx d:=by
 unfold Ov at h;split at h
 ·rename_i e hT;split at h
  ·rename_i t l hx;exact⟨_,h, .lit λρ=> .ao3 ho (by have ex:=hs.gd hx ρ;rw[gO]at ex;exact ex) hT⟩
  ·rename_i id hx;split at h
   case h_2=>cases h
   rename_i t l hr;refine⟨_,h, .lit λρ=> ?_⟩;have ex:=hs.gd hx ρ;rw[eC]at ex;obtain⟨i,hi⟩:=hs.row hr ρ;exact .alI i ho ex hi hT
  ·rename_i hx;exact⟨_,h, .lit λρ=> .akz ho (by have ex:=hs.gd hx ρ;rw[bT]at ex;exact ex) hT⟩
  ·cases h
 ·rename_i hT;split at h
  ·rename_i s hx;exact⟨_,h, .lit λρ=> .ai5 ho (by have ex:=hs.gd hx ρ;rw[bT]at ex;exact ex) hT⟩
  ·cases h
 ·cases h
end
end Go.Iv
end
noncomputable section
namespace Go.Iv
variable [U:sF]
open Go Go.RowKit
def CG{zs:aa Value}{sz:Nat}(hsz:zs.length=sz)(nn:Nat):(Builtin.zeroCells zs.toArray nn).toList=(zy nn zs).flatten:=by
 apply List.ext_getElem?;intro j;have hfl:(zy nn zs).flatten.length=nn*sz:=by simp[hsz]
 have hq:∀(q:Nat) (j:Nat),j<q*sz->(zy q zs).flatten[j]? =zs[j%sz]? :=by
  intro q;induction q with
  |zero=>intro j hj;simp at hj
  |succ q ih=>
   intro j hj;rw[yP,wK,xg];split
   ·rename_i h;rw[hsz]at h;rw[Nat.mod_eq_of_lt h]
   ·rename_i h;rw[hsz]at h;rw[hsz,ih _ (by rw[yM]at hj;omega),Nat.mod_eq_sub_mod (by omega:sz<=j)]
 by_cases hj:j<nn*sz
 ·rw[hq nn j hj];have h0:0<sz:=by
   rcases Nat.eq_zero_or_pos sz with h|h
   ·rw[h]at hj;omega
   ·exact h
  have hlt:j%sz<zs.length:=by rw[hsz];exact y6 _ h0
  rw[zw hlt];simp[Builtin.zeroCells,hsz,hj,zw hlt]
 ·rw[wI (l:=(zy nn zs).flatten) (by rw[hfl];omega),wI];simp[Builtin.zeroCells,hsz];omega
def BG{P:Program}{w:World}{T tn ty e:TypeId}{kn:IntKind}{i:TypeInfo}{zz v:Value}{sz by' nn mm:Nat}{us:aa Value}(ht:P.underlying T=Q (.slice e))(htn:P.underlying tn=Q (.int kn))(hi:P.info? e=Q i)(hz:i.zero=Q zz)(hs:i.size=sz)(hby:i.bytes=by')(hzs:zz.cells.size=sz)(hpos:0<sz)
  (hrow:iD w v e sz nn us) (h1:∀u∈(Builtin.zeroCells zz.cells mm).toList,u.oneCell'=G) (h63:nn+mm<=maxLen) (hb:(nn+mm)*by'<=140737488355328):
  ∃v' w',(Builtin.append_ #[T,tn] ty #[v, .int .i64 mm]).run P w= .ok v' w'/\iD w' v' e sz (nn+mm) (us++(Builtin.zeroCells zz.cells mm).toList)/\Kp (gW v).toList w w'/\(gW v'=gW v\/gW v'=Q w.heap.size):=by
 subst hs hby
 have h63':((nn+mm:Nat):Int)<=9223372036854775807:=by unfold maxLen at h63;omega
 have hw:IntKind.i64.wrap (mm:Int)=mm:=by rw[IntKind.wrap_i64];omega
 have hneg:¬((mm:Int)<0):=by omega
 have hmb:mm*i.bytes<=140737488355328:=zJ (yN _ (by omega)) hb;have h48i:¬(281474976710656<(mm:Int)*(i.bytes:Int)):=by rw[<-xo];omega
 have hzl:(Builtin.zeroCells zz.cells mm).toList.length=mm*i.size:=by rw[yt,size_zeroCells,hzs]
 by_cases hm:mm=0
 ·subst hm;obtain⟨q,cap,rfl,hcap⟩:=hrow.len;have hrun:(Builtin.append_ #[T,tn] ty #[.slice q nn cap, .int .i64 (0:Nat)]).run P w= .ok (.slice q nn cap) w:=by
   cases q<;>simp[Builtin.append_,run_underlying ht,run_underlying htn,sizeOf,typeInfo,hi,asInt,asIntOf,hw,hcap,storeCells,IntKind.wrap_i64]
  exact⟨_,w,hrun,by simpa [Builtin.zeroCells]using hrow,Kp.refl _ _, .inl rfl⟩
 ·have hfit:∀old,Builtin.nextslicecap (nn+mm) old*i.bytes<=281474976710656\/¬old<nn+mm:=λold=>by
   by_cases h:old<nn+mm
   ·exact .inl (growslice_fits (by omega) hb)
   ·exact .inr h
  have grown:∀(olds:aa Value) (old:Nat),olds.length=nn*i.size->old<nn+mm->us=olds->
    iD (w.drew.alloc (.cells (olds.toArray++Builtin.zeroCells zz.cells mm++Builtin.zeroCells zz.cells (grownCap w (nn+mm) old e-(nn+mm))) e)) (.slice (Q ⟨w.heap.size,0,V⟩) (nn+mm) (grownCap w (nn+mm) old e)) e i.size (nn+mm) (us++(Builtin.zeroCells zz.cells mm).toList):=by
   intro olds old hol hlt hus;subst hus;have hge:=grownCap_ge w (nn+mm) old e;have hcm:=grownCap_le_maxLen w (nn+mm) old e h63;obtain⟨ck,hck⟩:∃ck,grownCap w (nn+mm) old e=ck+1:=⟨grownCap w (nn+mm) old e-1,by omega⟩;refine⟨by rw[zq,hol,hzl,yd], .inr ⟨w.heap.size,ck,_,by rw[hck],heap_alloc_new w.drew _,by omega,by omega,?_,?_⟩⟩
   ·rw[<-hck];simp only[Array.size_append,xk,size_zeroCells,hzs,hol,<-yd]
    congr 1
    omega
   ·simp only[Array.toList_append];rw[show (nn+mm)*i.size=(us++(Builtin.zeroCells zz.cells mm).toList).length from by rw[zq,hol,hzl,yd]];exact List.take_left
  have grow:∀(base:ah Addr) (old:Nat),(Builtin.firstCells i.size nn (.slice base nn old)).run P w.drew= .ok us.toArray w.drew->us.length=nn*i.size->old<nn+mm->
    ∃v' w',(Builtin.append_ #[T,tn] ty #[.slice base nn old, .int .i64 mm]).run P w= .ok v' w'/\iD w' v' e i.size (nn+mm) (us++(Builtin.zeroCells zz.cells mm).toList)/\Kp [] w w'/\gW v'=Q w.heap.size:=λbase old hf hul hlt=>by
   have hr:=Lib.run_append_grow_zeros (P:=P) w T tn ty e i zz .i64 kn ht htn hi hz base nn old us hf mm (by omega) hpos hlt h63' (by omega) ((hfit old).resolve_right (by omega));refine⟨_,_,hr,grown us old hul hlt rfl,⟨rfl,rfl,rfl,by simp,λk hk _=>heap_alloc_old w.drew _ hk⟩,?_⟩;have hge:=grownCap_ge w (nn+mm) old e;obtain⟨ck,hck⟩:∃ck,grownCap w (nn+mm) old e=ck+1:=⟨grownCap w (nn+mm) old e-1,by omega⟩;rw[hck];rfl
  rcases hrow.2 with ⟨q,rfl,rfl⟩|⟨g,cap,cur,rfl,hg,hnc,hcm,hcs,htake⟩
  ·have hu:us=[]:=xp (by simpa using hrow.1);subst hu;obtain⟨v',w',r1,r2,r3,r4⟩:=grow q 0 (by cases q<;>simp[Builtin.firstCells,loadCells,loadCellsFrom]) (by simp) (by omega);exact⟨v',w',r1,r2,⟨r3.os,r3.tape,r3.output,r3.size,λk hk _=>r3.block k hk (by simp)⟩, .inr r4⟩
  ·by_cases hroom:nn+mm<=cap+1
   ·have hcl:nn*i.size+(Builtin.zeroCells zz.cells mm).toList.length<=cur.size:=by rw[hzl,hcs,<-yd];exact yN _ hroom
    have hst:=run_storeCells_at P g (nn*i.size) e (Builtin.zeroCells zz.cells mm).toList 0 cur w hg (by simpa using hcl) h1;simp only[yq]at hst;have hns:¬(mm*i.size=0):=Nat.mul_ne_zero hm (by omega);have hr:(Builtin.append_ #[T,tn] ty #[.slice (Q ⟨g,0,V⟩) nn (cap+1), .int .i64 mm]).run P w= .ok (.slice (Q ⟨g,0,V⟩) (nn+mm) (cap+1)) (w.setRow g (cur.toList.take (nn*i.size)++(Builtin.zeroCells zz.cells mm).toList++cur.toList.drop (nn*i.size+(Builtin.zeroCells zz.cells mm).toList.length)).toArray):=by
     simp[Builtin.append_,run_underlying ht,run_underlying htn,sizeOf,typeInfo,zeroValue,hi,hz,asInt,asIntOf,hw,hneg,hns,h48i,hroom,Addr.add_lit,hst]
    refine⟨_,_,hr,⟨by rw[zq,hrow.1,hzl,yd], .inr ⟨g,cap,_,rfl,setRow_heap w g cur _ e _ hg,hroom,hcm,?_,?_⟩⟩,mQ w g _, .inl rfl⟩
    ·simp only[xk,zq,z6,yh,yt]at hcl ⊢;omega
    ·rw[htake,show (nn+mm)*i.size=(us++(Builtin.zeroCells zz.cells mm).toList).length from by rw[zq,hrow.1,hzl,yd]];exact List.take_left
   ·have holds:∀j v,us[j]? =Q v->w.cell? ((⟨g,0,V⟩:Addr).add j)=Q v:=λj v hj=>by
     rw[pL,yJ];exact hrow.cells rfl j v hj
    obtain⟨v',w',r1,r2,r3,r4⟩:=grow (Q ⟨g,0,V⟩) (cap+1) (run_firstCells_some (P:=P) w.drew i.size nn ⟨g,0,V⟩ nn (cap+1) us hrow.1 (by simpa using holds)) hrow.1 (by omega);exact⟨v',w',r1,r2,⟨r3.os,r3.tape,r3.output,r3.size,λk hk _=>r3.block k hk (by simp)⟩, .inr r4⟩
def DQ{A:Nat->Prop}{w:World}{q:Nat}{d:U.dF q}{zs:aa Value}(hd:∀A w,bL A w (U.cells q d) zs):∀n,bL A w ((zy n d).flatMap (U.cells q)) (zy n zs).flatten
 |0=>bL.nil
 |n+1=>by
  rw[yP,yP,xF,wK];exact(hd A w).app (DQ hd n)
section
variable {P:Program} {C:Cx} {E:Env} {σ:aa cK} {o:Oper} {x y:Operand} {T tn e:TypeId} {v:Value}
def Yv.axf{by':Nat}{kn:IntKind}{l:aa (U.dF e)}{zs:aa Value}{m:Int}(i:Nat)(d:U.dF e)(ho:o.op= .call {callee:= .builtin .append,args:=#[x,y],argTypes:=#[T,tn]})(hx:E.ev x=Q (.lit v))(hσ:σ[i]? =Q (.row v e l))(hy:E.ev y=Q (.i m))(hT:P.underlying T=Q (.slice e))(htn:P.underlying tn=Q (.int kn))(hs:(P.info? e).map (λi=>(i.size,i.bytes))=Q ((U.sz e),by'))(hz:jY P e=Q zs)(hzl:zs.length=(U.sz e))(hpos:0<(U.sz e))(hb:yj by' 4096=G)
  (hd:∀A w,bL A w (U.cells e d) zs) (hone:zs.all Value.oneCell'=G) (hlen:0<=m/\(l++zy m.toNat d).length<=1073741824):Yv P E σ o C (xP (gW v)) (λa σ'=>∃v',a= .lit v'/\σ'=σ.set i (.row v' e (l++zy m.toNat d))):=λw ρ hg hρ=>by
 obtain⟨it,hit,hz1⟩:=zx.1 hz;obtain⟨zv,hz2,hz3⟩:=zu.1 hz1;obtain⟨ie,hie,hse⟩:=zu.1 hs;have hee:it=ie:=by rw[hit]at hie;exact zO.inj hie
 subst hee;simp only[Prod.mk.injEq]at hse;obtain⟨s1,s2⟩:=hse;have hby:by'<=4096:=by simpa using hb
 obtain⟨us,g1,g2,g3⟩:=D9 (hg.res _ (List.mem_of_getElem? hσ));have hx':=(hρ _ _ hx).cM;have hy':=(hρ _ _ hy).cM;obtain⟨mm,rfl⟩:∃mm:Nat,m=mm:=⟨m.toNat,by omega⟩;rw[zi]at hlen ⊢;obtain⟨_,hlen⟩:=hlen;rw[zq,wo]at hlen;have hbytes:(l.length+mm)*by'<=140737488355328:=by
  have:(l.length+mm)*by'<=1073741824*4096:=Nat.mul_le_mul hlen hby
  omega
 have hzc:zv.cells=zs.toArray:=by rw[<-hz3]
 have hzt:(Builtin.zeroCells zv.cells mm).toList=(zy mm zs).flatten:=by rw[hzc];exact CG hzl mm
 obtain⟨v',w',r1,r2,r3,r4⟩:=BG (P:=P) (T:=T) (tn:=tn) (ty:=o.type) hT htn hit hz2 s1 s2 (by rw[hzc,xk,hzl]) hpos g1 (mm:=mm) (by
  rw[hzt];intro u hu;obtain⟨q,hq,hu⟩:=List.mem_flatten.1 hu;rw[List.eq_of_mem_replicate hq]at hu;exact zA.1 hone u hu) (by unfold maxLen;omega) hbytes
 rw[hzt]at r2;refine⟨v',w',_,_,⟨v',rfl,rfl⟩,Dx (r:= .row v e l) hg hσ r3 r4 (EA (by rw[zq,wo];exact r2) (Lt g2 (λj hj=> ?_)) ?_),?_, .lit _⟩
 ·rw[wo]at hj;rw[getElem!_pos _ j (by simpa using hj),List.getElem_replicate,<-(hd (λ_=>True) w).1,hzl]
 ·rw[List.flatMap_append];refine bL.app (g3.mono λb hb hA=>⟨⟨hA.1,λhx=> ?_⟩,r3.block b hb (λhx=>hA.2 (bS.2 ⟨_,List.mem_of_getElem? hσ,by simpa [cK.blk]using hx⟩))⟩) (DQ hd mm);obtain⟨s,hs1,hs2⟩:=bS.1 hx;rcases List.mem_or_eq_of_mem_set hs1 with h|h
  ·exact hA.2 (bS.2 ⟨s,h,hs2⟩)
  ·rw[h]at hs2;rcases r4 with r4|r4
   ·exact hA.2 (bS.2 ⟨_,List.mem_of_getElem? hσ,by rw[<-hs2];exact r4.symm⟩)
   ·have hs2':gW v'=Q b:=hs2;rw[r4]at hs2';cases hs2';omega
 ·simp[execOp,ho,resolve,invoke,builtin,hx',hy',r1]
end
end Go.Iv
end
noncomputable section
namespace Go.Iv
open Go Go.RowKit
variable [U:sF] {P:Program} {C:Cx} {E:Env} {σ:aa cK} {o:Oper} {T T':TypeId} {x y:Operand} {v:Value}
def Yv.ape{q:Nat}{l l2:aa (U.dF q)}(i:Nat)(ho:o.op= .call {callee:= .builtin .copy,args:=#[x,y],argTypes:=#[T,T']})(hx:E.ev x=Q (.lit v))(hσ:σ[i]? =Q (.row v q l))(hs:Src σ E y q l2)
  (hT:P.underlying T=Q (.slice q)) (hz:(P.info? q).map (·.size)=Q 1) (hsz:U.sz q=1) (hlen:l2.length=l.length) (h0:0<l.length) (hone:∀a,(U.cells q a).all iF=G):
  Yv P E σ o C (xP (gW v)) (λa σ'=>a= .i (l.length:Int)/\σ'=σ.set i (.row v q l2)):=λw ρ hg hρ=>by
 obtain⟨j,hj,hj'⟩:=zu.1 hz;obtain⟨us,h1,h2,h3⟩:=hg.res _ (List.mem_of_getElem? hσ);obtain⟨g,cap,cur,hv,hgb,hB,q1,q2,q3,q4⟩:=h1.at h0;obtain⟨p,cap2,news,r1,r2,r3,r4,r5,r6⟩:=Src.spec hs hg.hd hρ;have hx':=(hρ _ _ hx).cM;rcases r2 with r2|⟨a,rfl,r2⟩
 ·omega
 rw[hsz,xu]at r3 q3;have hone':(l2.flatMap (U.cells q)).all iF=G:=zA.2 λc hc=>by
  obtain⟨z,_,hz⟩:=xQ.1 hc;exact zA.1 (hone z) c hz
 have hl:=run_loadCells_list (P:=P) w a news r2;have hst:=run_storeCells_at P g 0 q news 0 cur w hB (by rw[r3,q3];omega) (r5.one hone');simp only[yq,yJ,xT,ym]at hst;have hpart:∀b,al C (σ.set i (.row v q l2)) b↔al C σ b:=λb=>by
  have hbk:=EC (r':=cK.row v q l2) hσ rfl;unfold al;rw[hbk]
 have hal:∀b,b<w.heap.size->al C σ b->al C (σ.set i (.row v q l2)) b/\(w.setRow g (news++cur.toList.drop news.length).toArray).heap[b]? =w.heap[b]? :=λb hb hA=>
  ⟨(hpart b).2 hA,setRow_other w g b _ (λe=>hA.2 (bS.2 ⟨_,List.mem_of_getElem? hσ,by rw[e];exact hgb⟩))⟩
 refine⟨.int .i64 l.length,w.setRow g (news++cur.toList.drop news.length).toArray,_,_,⟨rfl,rfl⟩,Dx (r:= .row v q l) hg hσ (by show Kp (xP (gW v)) _ _;rw[hgb];exact mQ w g _) (.inl rfl) (EA (us:=news) ⟨by rw[hsz,xu,r3], .inr ⟨g,cap,_,by rw[hlen];exact hv,setRow_heap w g cur _ q (0,0) hB,by rw[hlen];exact q1,q2,?_,?_⟩⟩ r4 (r5.mono hal)),?_, .lit _⟩
 ·have hc:cur.toList.length=cap+1:=by rw[yt];exact q3
  simp only[xk,zq,yh,hc,hsz,xu,r3,hlen];omega
 ·rw[hsz,xu,<-r3];simp
 ·have hmin:min l2.length l.length=news.length:=by rw[r3];omega
  have hmin':Nat.min l2.length l.length=news.length:=hmin;have hnl:news.length=l.length:=by rw[r3,hlen]
  rw[<-hnl];simp[execOp,ho,resolve,invoke,builtin,hx',hv,r1,Builtin.copy_,run_underlying hT,Builtin.lenOf,Builtin.firstCells,sizeOf,typeInfo,hj,hj',hmin',hl,hst,goInt]
end Go.Iv
end
noncomputable section
namespace Go.Iv
variable [U:sF] [L:n7]
open Go Go.RowKit
inductive gu:Type
 |val (d:AV)
 |new (d:AV) (r:IR)
 |set (id:Nat) (r:IR)
 |grow (id:Nat) (r:IR)
 |all (d:AV) (R:aZ) (nx:Nat)
def gu.R(R:aZ)(nx:Nat):gu->aZ
 | .val _=>R
 | .new _ r=>(nx,r)::R
 | .set id r=>tK id r R
 | .grow id r=>(nx,r)::kR id R
 | .all _ R' _=>R'
def gu.nx(nx:Nat):gu->Nat
 | .val _=>nx
 | .new _ _=>nx+1
 | .set _ _=>nx
 | .grow _ _=>nx+1
 | .all _ _ m=>m
def gu.vl(nx:Nat):gu->ah AV
 | .val d=>Q d
 | .new d _=>Q d
 | .set _ _=>V
 | .grow _ _=>Q (.own nx)
 | .all d _ _=>Q d
section
variable {P:Program} {C:Cx} {E:Env} {σ σ':aa cK} {o:Oper} {N:ah AV->aa cK->Prop} {X:aa Nat} {N0:AV->aa cK->Prop} {av:AV}
def Ye(P:Program)(E:Env)(σ:aa cK)(o:Oper)(C:Cx)(N:ah AV->aa cK->Prop):Prop:=∀(w:World) (ϱ:Operand->Value),Good C σ w->MO (al C σ) w E ϱ->
 (∃v w' av σ',N (Q av) σ'/\Tr C (bH σ) σ w σ' w'/\(execOp ϱ o).run P w= .ok (.value v) w'/\Rel (al C σ') w' av v)\/
 (∃w' σ',N V σ'/\Tr C (bH σ) σ w σ' w'/\(execOp ϱ o).run P w= .ok .skip w')\/
 (∃f args,(execOp ϱ o).run P w= .ok (.enter f args) w/\Calls P f args w λe w'=>∃v av σ',e= .returned v/\N (Q av) σ'/\Tr C (bH σ) σ w σ' w'/\Rel (al C σ') w' av v)
def Tr.wide{w w':World}(h:Tr C X σ w σ' w')(hX:∀b∈X,b∈bH σ):Tr C (bH σ) σ w σ' w':=
 ⟨h.good,⟨h.kp.os,h.kp.tape,h.kp.output,h.kp.size,λk hk hn=>h.kp.block k hk λhx=>hn (hX k hx)⟩,λb hb hA=>⟨(h.al b hb hA).1,hA.2⟩⟩
def Tr.none{w:World}(h:Good C σ w):Tr C (bH σ) σ w σ w:=⟨h,Kp.refl _ _,λ_ _ hA=>⟨hA,hA.2⟩⟩
def Ye.ofP(h:Yp P E σ o av)(hN:N (Q av) σ):Ye P E σ o C N:=λw ϱ hg hρ=>by
 obtain⟨v,h1,h2⟩:=h _ w ϱ hg.hd hρ;exact .inl ⟨v,w,av,σ,hN, .none hg,h2 w (λ_ _ _=>rfl),h1⟩
def Ye.ofV(h:Yv P E σ o C X N0)(hX:∀b∈X,b∈bH σ)(hN:∀a σ',N0 a σ'->N (Q a) σ'):Ye P E σ o C N:=λw ϱ hg hρ=>by
 obtain⟨v,w',av,σ',h1,h2,h3,h4⟩:=h w ϱ hg hρ;exact .inl ⟨v,w',av,σ',hN _ _ h1,h2.wide hX,h3,h4⟩
def Ye.ofU(h:Yu P E σ o C X σ')(hX:∀b∈X,b∈bH σ)(hN:N V σ'):Ye P E σ o C N:=λw ϱ hg hρ=>by
 obtain⟨w',h2,h3⟩:=h w ϱ hg hρ;exact .inr (.inl ⟨w',σ',hN,h2.wide hX,h3⟩)
def Ye.ofC(h:Yc P E σ o C X N0)(hX:∀b∈X,b∈bH σ)(hN:∀a σ',N0 a σ'->N (Q a) σ'):Ye P E σ o C N:=λw ϱ hg hρ=>by
 obtain⟨f,args,h1,h2⟩:=h w ϱ hg hρ;exact .inr (.inr ⟨f,args,h1,h2.mono λe w' ⟨v,av,σ',q1,q2,q3,q4⟩=>⟨v,av,σ',q1,hN _ _ q2,q3.wide hX,q4⟩⟩)
end
def Nx{α:Type}(R:aZ)(nx:Nat)(K:gu->ah α)(r:α)(ρ:Gh):ah AV->aa cK->Prop:=λa σ'=>∃eff:gu,K eff=Q r/\nx<=eff.nx nx/\aZ.cQ (eff.nx nx) (eff.R R nx)/\(∀d,eff.vl nx=Q d->cQ (eff.nx nx) d)/\
 ∃ρ',rq nx ρ ρ'/\a=(eff.vl nx).map (cn.sub ρ')/\List.Perm σ' (aZ.res ρ' (eff.R R nx))
def TK{α:Type}(P:Program)(o:Oper)(E:Env)(R:aZ)(nx:Nat)(K:gu->ah α)(r:α):Prop:=∀ρ C,Ye P (E.sub ρ) (aZ.res ρ R) o C (Nx R nx K r ρ)
def Gh.gD(ρ:Gh)(n:Nat)(v:Value):Gh:=⟨λi=>if i=n then v else ρ.v i,ρ.b⟩
def Gh.gj(ρ:Gh)(n b:Nat):Gh:=⟨ρ.v,λi=>if i=n then b else ρ.b i⟩
def rq.gD(ρ:Gh)(n:Nat)(v:Value):rq n ρ (ρ.gD n v):=λi hi=>⟨by simp[Gh.gD,Nat.ne_of_lt hi],rfl⟩
def rq.gj(ρ:Gh)(n b:Nat):rq n ρ (ρ.gj n b):=λi hi=>⟨rfl,by simp[Gh.gj,Nat.ne_of_lt hi]⟩
section
variable {α:Type} {r:α} {P:Program} {o:Oper} {E:Env} {R:aZ} {nx:Nat} {ev:Operand->ah AV} {rd:Nat->ah IR} {x y z:Operand} {d:AV} {K:gu->ah α}
def TK.pu(hs:kj ev rd nx E R)(h:∃d,K (.val d)=Q r/\Pu P o E R nx d):TK P o E R nx K r:=λρ C=>by
 obtain⟨d,h1,h2,h3⟩:=h;exact .ofP (h3 ρ) ⟨.val d,h1,zI _,hs.lr,λd' hd=>by cases hd;exact h2,ρ, .refl _ _,rfl, .refl _⟩
def XE(hs:kj ev rd nx E R){d:AV}{rr:IR}{ρ ρ':Gh}{σ':aa cK}{a:AV}(hK:K (.new d rr)=Q r)(hd:cQ (nx+1) d)(hr:rr.cQ (nx+1))(hρ:rq nx ρ ρ')(ha:a=d.sub ρ')(hσ:σ'=rr.res ρ' nx::aZ.res ρ R):Nx R nx K r ρ (Q a) σ':=by
 refine⟨.new d rr,hK,yB nx,λp hp=> ?_,λd' h=>by cases h;exact hd,ρ',hρ,by rw[ha];rfl,?_⟩
 ·rcases zF.1 hp with rfl|hp
  ·exact⟨zC _,hr⟩
  ·exact(hs.lr.mono (yB nx)) p hp
 ·rw[hσ,hs.lr.res hρ];exact .refl _
def TL(P:Program)(nx:Nat)(T:TypeId)(K:gu->ah α):ah α:=((P.info? T).bind λi=>i.zero).bind λz=>K (.new (.ptr nx 0) (.box T (z.cells.toList.map .lit)))
def agP{T:TypeId}(hs:kj ev rd nx E R)(ho:o.op= .alloc T)(h:TL P nx T K=Q r):TK P o E R nx K r:=λρ C=>by
 obtain⟨z,h1,h⟩:=zx.1 h;obtain⟨i,h2,h3⟩:=zx.1 h1;refine .ofV (.alloc (zs:=z.cells.toList) ho (by rw[h2];simp[h3])) (by simp) λa σ' ⟨b,ha,hσ⟩=> ?_;refine XE hs (ρ':=ρ.gj nx b) h (.ptr _ _ (zC _)) (λc hc=>Kr _ _ c hc) (.gj ρ nx b) ?_ ?_
 ·rw[ha,fM];simp[Gh.gj]
 ·rw[hσ];simp only[IR.res,EG];simp[Gh.gj]
def Ns(rd:Nat->ah IR)(nx:Nat)(T:TypeId)(x:ah AV)(K:gu->ah α):ah α:=match x with
 |some d=>match CJ rd d with
  |true=>K (.new (.ptr nx 0) (.box T (dS d)))
  |false=>V
 |none=>V
def Z9{T:TypeId}(hs:kj ev rd nx E R)(ho:o.op= .box T x)(h:Ns rd nx T (ev x) K=Q r):TK P o E R nx K r:=λρ C=>by
 unfold Ns at h;split at h
 case h_2=>cases h
 rename_i d hx;split at h
 case h_2=>cases h
 rename_i hp;refine .ofV (.box ho (hs.gd hx ρ) (FM hs hp)) (by simp) λa σ' ⟨b,ha,hσ⟩=> ?_;have hl:=Aq (hs.rH hx);refine XE hs (ρ':=ρ.gj nx b) h (.ptr _ _ (zC _)) (λc hc=>(hl c hc).mono (yB nx)) (.gj ρ nx b) ?_ ?_
 ·rw[ha,fM];simp[Gh.gj]
 ·rw[hσ,lz,cQ.Zr hl (.gj ρ nx b)];simp[IR.res,Gh.gj]
def UA:AV->Bool
 | .lit v=>v.oneCell'
 | .sl _ _=>G
 |_=>I
def W8:AV->Bool
 | .agg cs=>cs.all UA
 |d=>UA d
def L3{d:AV}(h:UA d=G)(ρ:Gh):d.sub ρ=d:=by
 cases d<;>first|(cases h;done)|simp only[cn.sub]
def Lj{cs:aa AV}(h:cs.all UA=G)(ρ:Gh):cs.map (cn.sub ρ)=cs:=by
 have:cs.map (cn.sub ρ)=cs.map id:=z7 λc hc=>L3 (zA.1 h c hc) ρ;rw[this,List.map_id]
def L5{d:AV}(h:W8 d=G)(ρ:Gh):d.sub ρ=d:=by
 by_cases ha:∃cs,d= .agg cs
 ·obtain⟨cs,rfl⟩:=ha;rw[fy,Lj h]
 ·exact L3 (by cases d<;>first|exact h|(exact cR ⟨_,rfl⟩ ha)) ρ
def MI{d:AV}(h:UA d=G):iF d=G:=by
 cases d<;>first|(cases h;done)|exact h|rfl
def DJ{d:AV}(h:W8 d=G):C8 d=G:=by
 by_cases ha:∃cs,d= .agg cs
 ·obtain⟨cs,rfl⟩:=ha;exact zA.2 λc hc=>MI (zA.1 h c hc)
 ·have:=MI (d:=d) (by cases d<;>first|exact h|(exact cR ⟨_,rfl⟩ ha));cases d<;>first|exact this|(exact cR ⟨_,rfl⟩ ha)
def M9(d:AV):ah Bool:=match dS d with
 |[.lit (.bool b)]=>Q b
 |_=>V
def TV{d:AV}{b:Bool}(h:M9 d=Q b):dS d=[.lit (.bool b)]:=by
 unfold M9 at h;split at h
 ·rename_i b' e;cases h;exact e
 ·cases h
def O7(P:Program)(rd:Nat->ah IR)(T:TypeId)(x y:ah AV)(K:gu->ah α):ah α:=match y with
  |some d=>match (P.info? T).map (·.size)with
    |some n=>match zj (dS d).length n&&CJ rd d with
      |true=>match x with
        |some (.ptr id off)=>match rd id with
          |some (.box T' cs)=>match yj (off+n) cs.length with
            |true=>K (.set id (.box T' (cs.take off++dS d++cs.drop (off+n))))
            |false=>V
          |_=>V
        |some (.ra id t m off)=>match rd id with
          |some (.row t' l)=>match bif L.arr t'&&W8 d then M9 d else V with
           |some b=>if t=t'/\m<l.length/\off<U.sz t' then K (.set id (.row t' (l.set m (L.stB t' l[m]! off b))))else V
           |none=>match yj (off+n) (U.sz t')&&W8 d with
            |true=>if t=t'/\m<l.length then(L.parse t' ((U.cells t' l[m]!).take off++dS d++(U.cells t' l[m]!).drop (off+n))).bind λq=>K (.set id (.row t' (l.set m q)))else V
            |false=>V
          |_=>V
        |_=>V
      |false=>V
    |none=>V
  |none=>V
def adW{T:TypeId}(hs:kj ev rd nx E R)(ho:o.op= .store T x y)(h:O7 P rd T (ev x) (ev y) K=Q r):TK P o E R nx K r:=λρ C=>by
 unfold O7 at h;split at h
 case h_2=>cases h
 rename_i d hy;split at h
 case h_2=>cases h
 rename_i n hn;split at h
 case h_2=>cases h
 rename_i hdn;simp only[zn]at hdn;obtain⟨hlen,hp⟩:=hdn;have hlen:=gI hlen;split at h
 ·rename_i id off hx;split at h
  case h_2=>cases h
  rename_i T' cs hr;split at h
  case h_2=>cases h
  rename_i hle;have hle:=wu hle;have ex:=hs.gd hx ρ;rw[fM]at ex;obtain⟨i,hi1,hi2,_⟩:=eV (hs.r _ _ hr);have hres:=ic (ρ:=ρ) hi1;have hl:∀c∈cs.take off++dS d++cs.drop (off+n),cQ nx c:=uv (uv (pY (hs.aaP hr) _) (Aq (hs.rH hy))) (mY (hs.aaP hr) _);refine .ofU (.ams (cs:=cs.map (cn.sub ρ)) i ho ex (hs.gd hy ρ) hres hn (FM hs hp) (by rw[lz,zL,hlen]) (by rw[zL];exact hle)) (λb hb=> ?_) ⟨_,h,zI _,qC (hs.r _ _ hr) hs.lr hl,λd' hd=>(by cases hd),ρ, .refl _ _,rfl,?_⟩
  ·rw[zD]at hb;exact bS.2 ⟨_,List.mem_of_getElem? hres,by rw[hb];rfl⟩
  ·show List.Perm _ (aZ.res ρ (tK id _ R));rw[hi2,vk];simp only[IR.res,yo,xR,xI,lz];exact .refl _
 ·rename_i id t m off hx;split at h
  case h_2=>cases h
  rename_i t' l hr;split at h
  ·rename_i b hbb;cases har:L.arr t'&&W8 d with
   |false=>rw[har]at hbb;cases hbb
   |true=>
    rw[har]at hbb;simp only[zn]at har;obtain⟨har,hap⟩:=har;have hab:=TV hbb;rw[hab]at hlen;have hn1:n=1:=by simpa using hlen.symm
    split at h
    case isFalse=>cases h
    rename_i hm;obtain⟨rfl,hm,hoff⟩:=hm;have ex:=hs.gd hx ρ;rw[jK]at ex;obtain⟨i,hi1,hi2,_⟩:=eV (hs.r _ _ hr);have hres:=ic (ρ:=ρ) hi1;have hds:=L5 hap ρ;have hpl:C8 (d.sub ρ)=G:=by rw[hds];exact DJ hap
    refine .ofU (.Vv (of:=off) i (L.stB t l[m]! off b) ho ex (hs.gd hy ρ) hres hn hpl (by rw[hds,hab,hn1];rfl) rfl hm (by omega) (L.len _ _) (λA w us hr=> ?_)) (λb hb=> ?_) ⟨_,h,zI _,qC (hs.r _ _ hr) hs.lr trivial,λd' hd=>(by cases hd),ρ, .refl _ _,rfl,?_⟩
    ·rw[hds,hab,hn1]at hr;rw[L.ad7 t har _ off b hoff];exact hr
    ·obtain⟨g,hg⟩:∃g,gW (ρ.v id)=Q g:=by
      cases hb':gW (ρ.v id)with
      |none=>rw[hb']at hb;simp at hb
      |some g=>exact⟨g,rfl⟩
     rw[hg]at hb;simp only[xN,zD]at hb;exact bS.2 ⟨_,List.mem_of_getElem? hres,by rw[hb];exact hg⟩
    ·show List.Perm _ (aZ.res ρ (tK id _ R));rw[hi2,vk];exact .refl _
  split at h
  case h_2=>cases h
  rename_i hle;simp only[zn]at hle;obtain⟨hle,hap⟩:=hle;have hle:=wu hle;split at h
  case isFalse=>cases h
  rename_i hm;obtain⟨rfl,hm⟩:=hm;obtain⟨q,hq,h⟩:=zx.1 h;have ex:=hs.gd hx ρ;rw[jK]at ex;obtain⟨i,hi1,hi2,_⟩:=eV (hs.r _ _ hr);have hres:=ic (ρ:=ρ) hi1;have hds:=L5 hap ρ;have hpl:C8 (d.sub ρ)=G:=by rw[hds];exact DJ hap
  refine .ofU (.Vv (of:=off) i q ho ex (hs.gd hy ρ) hres hn hpl (by rw[lz,zL,hlen]) rfl hm hle (L.len _ _) (λA w us hr=> ?_)) (λb hb=> ?_) ⟨_,h,zI _,qC (hs.r _ _ hr) hs.lr trivial,λd' hd=>(by cases hd),ρ, .refl _ _,rfl,?_⟩
  ·refine L.lP _ _ _ hq A w us ?_;rw[hds]at hr;exact hr
  ·obtain⟨g,hg⟩:∃g,gW (ρ.v id)=Q g:=by
    cases hb':gW (ρ.v id)with
    |none=>rw[hb']at hb;simp at hb
    |some g=>exact⟨g,rfl⟩
   rw[hg]at hb;simp only[xN,zD]at hb;exact bS.2 ⟨_,List.mem_of_getElem? hres,by rw[hb];exact hg⟩
  ·show List.Perm _ (aZ.res ρ (tK id _ R));rw[hi2,vk];exact .refl _
 ·cases h
def prs(t:Nat):Nat->aa AV->ah (aa (U.dF t))
 |0,[]=>Q []
 |0,_=>V
 |n+1,cs=>(L.parse t (cs.take (U.sz t))).bind λx=>(prs t n (cs.drop (U.sz t))).map λl=>x::l
def WK{t:Nat}:∀{n:Nat} {cs:aa AV} {l:aa (U.dF t)},prs t n cs=Q l->cs.length=n*U.sz t->l.length=n/\∀A w us,bL A w cs us->bL A w (l.flatMap (U.cells t)) us
 |0,[],l,h,_=>by
  cases h;exact⟨rfl,λA w us h=>h⟩
 |0,_::_,l,h,_=>by cases h
 |n+1,cs,l,h,hl=>by
  unfold prs at h;obtain⟨x,h1,h⟩:=zx.1 h;obtain⟨l',h2,rfl⟩:=zu.1 h;rw[yM]at hl;obtain⟨h3,h4⟩:=WK h2 (by rw[yh];omega);refine⟨by simp[h3],λA w us hr=> ?_⟩;rw[xF,<-xj (U.sz t) us];exact(L.lP _ _ _ h1 A w _ (hr.take _)).app (h4 A w _ (hr.drop _))
def NC(P:Program)(ev:Operand->ah AV)(rd:Nat->ah IR)(nx:Nat)(T:TypeId)(n:Nat)(ps:aa (Nat×Operand))(K:gu->ah α):ah α:=match P.underlying T with
 |some (.slice e)=>match Kv P e (U.sz e)with
  |true=>match n with
   |0=>match ps with
    |[]=>K (.new (.own nx) (.row e []))
    |_=>V
   |n+1=>match evp ev ps,jY P e with
    |some as0,Q zs=>match zj zs.length (U.sz e)&&zK 0 (U.sz e)&&yj ((n+1)*U.sz e) 16777216 with
     |true=>(uY rd (λi=>Q (i*U.sz e,U.sz e)) ((zy (n+1) zs).flatten.map .lit) as0).bind λcs=>match cs.all UA&&zj cs.length ((n+1)*U.sz e)with
      |true=>(prs e (n+1) cs).bind λl=>K (.new (.own nx) (.row e l))
      |false=>V
     |false=>V
    |_,_=>V
  |false=>V
 |_=>V
def FY(hs:kj ev rd nx E R){t:Nat}{l:aa (U.dF t)}{ρ:Gh}{σ':aa cK}{a:AV}(hK:K (.new (.own nx) (.row t l))=Q r)(h:∃v,a= .lit v/\σ'= .row v t l::aZ.res ρ R):Nx R nx K r ρ (Q a) σ':=by
 obtain⟨v,ha,hσ⟩:=h;refine XE hs (ρ':=ρ.gD nx v) hK (.own _ (zC _)) trivial (.gD ρ nx v) ?_ ?_
 ·rw[ha,eC];simp[Gh.gD]
 ·rw[hσ];simp[IR.res,Gh.gD]
def acn{T:TypeId}{n:Nat}{ps:Array (Nat×Operand)}(hs:kj ev rd nx E R)(ho:o.op= .buildSlice T n ps)(h:NC P ev rd nx T n ps.toList K=Q r):TK P o E R nx K r:=λρ C=>by
 unfold NC at h;split at h
 case h_2=>cases h
 rename_i e hT;split at h
 case h_2=>cases h
 rename_i hsz;have hsz:=rJ hsz;split at h
 ·split at h
  case h_2=>cases h
  rename_i h0;have h0:ps=#[]:=by rw[<-Array.toList_eq_nil_iff];exact h0
  subst h0;exact .ofV (.avt ho hT hsz) (by simp) λa σ' hN=>FY hs h hN
 ·rename_i n;split at h
  case h_2=>cases h
  rename_i as0 zs he hz;split at h
  case h_2=>cases h
  rename_i hc;simp only[zn]at hc;obtain⟨⟨hc1,hc2⟩,hc3⟩:=hc;have hc1:=gI hc1;have hc2:0<U.sz e:=by simpa [yz]using hc2
  have hc3:=wu hc3;obtain⟨cs,hf,h⟩:=zx.1 h;split at h
  case h_2=>cases h
  rename_i hd;simp only[zn]at hd;obtain⟨hd1,hd2⟩:=hd;have hd2:=gI hd2;obtain⟨l,hl,h⟩:=zx.1 h;obtain⟨hl1,hl2⟩:=WK hl hd2;refine .ofV (.lit l ho hT hsz hz hc1 (λA w ϱ hd hρ=> ?_) hl1 (λi hi=>L.len _ _) (Nat.mul_pos (Nat.succ_pos _) hc2) hc3) (by simp) λa σ' hN=>FY hs h hN;obtain⟨us,h1,h2⟩:=AR (init:=(zy (n+1) zs).flatten.toArray) hs hd (by rw[EG];exact bL.lits _) (Ig hs hρ he) hf;rw[Lj hd1]at h2;exact⟨us,h1,hl2 _ _ _ h2⟩
def mkE(P:Program)(nx:Nat)(T:TypeId)(x y:ah AV)(K:gu->ah α):ah α:=match P.underlying T,x,y with
 |some (.slice e),Q (.lit (.int .i64 m)),Q (.lit (.int .i64 n))=>match (P.info? e).map (λi=>(i.size,i.bytes)),jY P e with
  |some (sz,by'),Q zs=>match zj sz (U.sz e)&&yj by' 4096&&zj zs.length (U.sz e)&&zK 0 (U.sz e)with
   |true=>(L.parse e (zs.map .lit)).bind λd=>if 0<=m/\m<=n/\n<=1073741824 then K (.new (.own nx) (.row e (zy m.toNat d)))else V
   |false=>V
  |_,_=>V
 |_,_,_=>V
def akD{T:TypeId}(hs:kj ev rd nx E R)(ho:o.op= .makeSlice T x y)(h:mkE P nx T (ev x) (ev y) K=Q r):TK P o E R nx K r:=λρ C=>by
 unfold mkE at h;split at h
 case h_2=>cases h
 rename_i e m n hT hx hy;split at h
 case h_2=>cases h
 rename_i sz by' zs hb hz;split at h
 case h_2=>cases h
 rename_i hc;simp only[zn]at hc;obtain⟨⟨⟨hc1,hc2⟩,hc3⟩,hc4⟩:=hc;have hc1:=gI hc1;have hc3:=gI hc3;have hc4:0<U.sz e:=by simpa [yz]using hc4
 subst hc1;obtain⟨d,hd,h⟩:=zx.1 h;split at h
 case isFalse=>cases h
 rename_i hm;have ex:=hs.gd hx ρ;have ey:=hs.gd hy ρ;rw[bT]at ex ey;exact .ofV (.make d ho ex ey hT hb hz hc2 hc3 (λA w=>L.lP _ _ _ hd A w _ (bL.lits _)) hc4 hm) (by simp) λa σ' hN=>FY hs h hN
def emE(P:Program)(nx:Nat)(T:TypeId)(x:ah AV)(K:gu->ah α):ah α:=match P.underlying T with
 |some (.slice e)=>match P.info? e with
  |some _=>match x with
   |some (.sl _ _)=>K (.new (.own nx) (.row e []))
   |some (.lit (.slice V 0 0))=>K (.new (.own nx) (.row e []))
   |_=>V
  |none=>V
 |_=>V
def aji{T:TypeId}{k k':IntKind}(hs:kj ev rd nx E R)(ho:o.op= .slice T x V (Q (.const (.int k 0))) (Q (.const (.int k' 0))))(h:emE P nx T (ev x) K=Q r):TK P o E R nx K r:=λρ C=>by
 unfold emE at h;split at h
 case h_2=>cases h
 rename_i e hT;split at h
 case h_2=>cases h
 rename_i i hi;split at h
 ·rename_i t l hx;have ex:=hs.gd hx ρ;rw[gO]at ex;exact .ofV (.SW ho (.inl ex) hT (by rw[hi];rfl)) (by simp) λa σ' hN=>FY hs h hN
 ·rename_i hx;have ex:=hs.gd hx ρ;rw[bT]at ex;exact .ofV (.SW (q:=0) (l:=[]) ho (.inr ex) hT (by rw[hi];rfl)) (by simp) λa σ' hN=>FY hs h hN
 ·cases h
def aei(rd:Nat->ah IR)(e:Nat)(x:ah AV):ah (aa (U.dF e)):=match x with
 |some (.lit (.slice _ 0 _))=>Q []
 |some (.sl t l)=>vG t e l
 |some (.own id)=>match rd id with
  |some (.row t l)=>vG t e l
  |_=>V
 |_=>V
def Ip{e:Nat}{l:aa (U.dF e)}(hs:kj ev rd nx E R)(h:aei rd e (ev x)=Q l)(ρ:Gh):Src (aZ.res ρ R) (E.sub ρ) x e l:=by
 unfold aei at h;split at h
 ·rename_i hx;cases h;have ex:=hs.gd hx ρ;rw[bT]at ex;exact .inl ⟨_,_,ex,rfl⟩
 ·rename_i t l' hx;obtain⟨rfl,rfl⟩:=nc h;have ex:=hs.gd hx ρ;rw[gO]at ex;exact .inr (.inl ex)
 ·rename_i id hx;split at h
  case h_2=>cases h
  rename_i t l' hr;obtain⟨rfl,rfl⟩:=nc h;have ex:=hs.gd hx ρ;rw[eC]at ex;obtain⟨i,hi⟩:=hs.row hr ρ;exact .inr (.inr ⟨i,_,ex,hi⟩)
 ·cases h
def Src.cons{P:Program}{σ:aa cK}{E:Env}{rr:cK}{q:Nat}{l:aa (U.dF q)}(h:Src σ E x q l):Src (rr::σ) E x q l:=by
 rcases h with h|h|⟨i,v,h1,h2⟩
 ·exact .inl h
 ·exact .inr (.inl h)
 ·exact .inr (.inr ⟨i+1,v,h1,h2⟩)
def T7(P:Program)(T:TypeId)(K:Nat->aa Value->ah α):ah α:=match P.underlying T with
 |some (.slice e)=>match (P.info? e).map (λi=>(i.size,i.bytes)),jY P e with
  |some (sz,by'),Q zs=>match zj sz (U.sz e)&&yj by' 4096&&zj zs.length (U.sz e)with
   |true=>K e zs
   |false=>V
  |_,_=>V
 |_=>V
def Z6{T:TypeId}{K:Nat->aa Value->ah α}(h:T7 P T K=Q r):∃e zs by',K e zs=Q r/\P.underlying T=Q (.slice e)/\(P.info? e).map (λi=>(i.size,i.bytes))=Q (U.sz e,by')/\jY P e=Q zs/\yj by' 4096=G/\zs.length=U.sz e:=by
 unfold T7 at h;split at h
 case h_2=>cases h
 rename_i e hT;split at h
 case h_2=>cases h
 rename_i sz by' zs hb hz;split at h
 case h_2=>cases h
 rename_i hc;simp only[zn]at hc;obtain⟨⟨hc1,hc2⟩,hc3⟩:=hc;have hc1:=gI hc1;subst hc1;exact⟨e,zs,by',h,hT,hb,hz,hc2,gI hc3⟩
def PM(P:Program)(rd:Nat->ah IR)(e:Nat)(zs:aa Value)(T':TypeId)(T:TypeId)(y:ah AV)(K:aa (U.dF e)->ah α):ah α:=match zj T T' with
 |true=>(aei rd e y).bind K
 |false=>match P.underlying T',y with
  |some (.int _),Q (.lit (.int .i64 m))=>match zK 0 (U.sz e)&&zs.all Value.oneCell' with
   |true=>(L.parse e (zs.map .lit)).bind λd=>if 0<=m then K (zy m.toNat d)else V
   |false=>V
  |_,_=>V
def Tw(P:Program)(rd:Nat->ah IR)(nx:Nat)(T T':TypeId)(x y:ah AV)(K:gu->ah α):ah α:=T7 P T λe zs=>match x with
 |some (.lit (.slice V 0 0))=>PM P rd e zs T' T y λl2=>if l2.length<=1073741824 then K (.new (.own nx) (.row e l2))else V
 |some (.own id)=>match rd id with
  |some (.row t l)=>(vG t e l).bind λl=>PM P rd e zs T' T y λl2=>if(l++l2).length<=1073741824 then K (.grow id (.row e (l++l2)))else V
  |_=>V
 |_=>V
def OR(P:Program)(rd:Nat->ah IR)(R:aZ)(nx:Nat)(T:TypeId)(x y:ah AV)(K:gu->ah α):ah α:=match P.underlying T with
 |some (.slice e)=>match Kv P e 1&&zj (U.sz e) 1 with
  |true=>match x with
   |some (.own id)=>match rd id with
    |some (.row t l)=>(vG t e l).bind λl=>(aei rd e y).bind λl2=>if 0<l.length/\l2.length=l.length then K (.all (.i (l.length:Int)) (tK id (.row e l2) R) nx)else V
    |_=>V
   |_=>V
  |false=>V
 |_=>V
def aaF{T T':TypeId}(hs:kj ev rd nx E R)(ho:o.op= .call {callee:= .builtin .copy,args:=#[x,y],argTypes:=#[T,T']})(h:OR P rd R nx T (ev x) (ev y) K=Q r):TK P o E R nx K r:=λρ C=>by
 unfold OR at h;split at h
 case h_2=>cases h
 rename_i e hT;split at h
 case h_2=>cases h
 rename_i hc;rw[zn]at hc;split at h
 case h_2=>cases h
 rename_i id hx;split at h
 case h_2=>cases h
 rename_i t l hr;obtain⟨l',h1,h⟩:=zx.1 h;obtain⟨rfl,rfl⟩:=nc h1;obtain⟨l2,h2,h⟩:=zx.1 h;split at h
 case isFalse=>cases h
 rename_i hl;have ex:=hs.gd hx ρ;rw[eC]at ex;obtain⟨i,hi1,hi2,_⟩:=eV (hs.r _ _ hr);have hres:=ic (ρ:=ρ) hi1;refine .ofV (.ape i ho ex hres (Ip hs h2 ρ) hT (rJ hc.1) (gI hc.2) hl.2 hl.1 (L.one _)) (λb hb=> ?_) λa σ' ⟨ha,hσ⟩=>⟨_,h,zI _,qC (hs.r _ _ hr) hs.lr trivial,λd' hd=>(by cases hd;exact .lit _),ρ, .refl _ _,by rw[ha];simp only[gu.vl,yx,cn.sub],?_⟩
 ·obtain⟨g,hg⟩:∃g,gW (ρ.v id)=Q g:=by
   cases hb':gW (ρ.v id)with
   |none=>rw[hb']at hb;simp at hb
   |some g=>exact⟨g,rfl⟩
  rw[hg]at hb;simp only[xN,zD]at hb;exact bS.2 ⟨_,List.mem_of_getElem? hres,by rw[hb];exact hg⟩
 ·show List.Perm _ (aZ.res ρ (tK id _ R));rw[hσ,hi2,vk];exact .refl _
def set_perm{β:Type}{l:aa β}{i:Nat}{a b:β}(h:l[i]? =Q b):List.Perm (l.set i a) (a::l.eraseIdx i):=by
 have hi:=(ya.1 h).1;rw[wU,wT,bt hi];exact List.perm_middle
def SX{T T':TypeId}{e by':Nat}{zs:aa Value}{K':aa (U.dF e)->ah α}{rs:aa cK}{ρ:Gh}{C:Cx}(hs:kj ev rd nx E R)(ho:o.op= .call {callee:= .builtin .append,args:=#[x,y],argTypes:=#[T,T']})(h:PM P rd e zs T' T (ev y) K'=Q r)
  (hT:P.underlying T=Q (.slice e)) (hb:(P.info? e).map (λi=>(i.size,i.bytes))=Q (U.sz e,by')) (hz:jY P e=Q zs) (hb4:yj by' 4096=G) (hzl:zs.length=U.sz e):
  ∃l2,K' l2=Q r/\∀(σ:aa cK) (v:Value) (i:Nat) (l:aa (U.dF e)),(σ=aZ.res ρ R\/∃rr,σ=rr::aZ.res ρ R)->(E.sub ρ).ev x=Q (.lit v)->σ[i]? =Q (.row v e l)->(l++l2).length<=1073741824->
   Yv P (E.sub ρ) σ o C (xP (gW v)) (λa σ'=>∃v',a= .lit v'/\σ'=σ.set i (.row v' e (l++l2))):=by
 unfold PM at h;split at h
 ·rename_i hTT;have:=gI hTT;subst this;obtain⟨l2,h1,h⟩:=zx.1 h;refine⟨l2,h,λσ v i l hσ hx hi hlen=> ?_⟩;have hsrc:Src σ (E.sub ρ) y e l2:=by
   rcases hσ with rfl|⟨rr,rfl⟩
   ·exact Ip hs h1 ρ
   ·exact Src.cons (P:=P) (Ip hs h1 ρ)
  exact .app i ho hx hi hsrc hT hb hz hzl hb4 (L.one e) hlen
 ·split at h
  case h_2=>cases h
  rename_i kn m hT' hy;split at h
  case h_2=>cases h
  rename_i hc;simp only[zn]at hc;obtain⟨hc1,hc2⟩:=hc;obtain⟨d,hd,h⟩:=zx.1 h;split at h
  case isFalse=>cases h
  rename_i hm;refine⟨_,h,λσ v i l hσ hx hi hlen=> ?_⟩;have ey:=hs.gd hy ρ;rw[bT]at ey;exact .axf i d ho hx hi ey hT hT' hb hz hzl (by simpa [yz]using hc1) hb4 (λA w=>L.lP _ _ _ hd A w _ (bL.lits _)) hc2 ⟨hm,hlen⟩
def aaE{T T':TypeId}(hs:kj ev rd nx E R)(ho:o.op= .call {callee:= .builtin .append,args:=#[x,y],argTypes:=#[T,T']})(h:Tw P rd nx T T' (ev x) (ev y) K=Q r):TK P o E R nx K r:=λρ C=>by
 obtain⟨e,zs,by',h,hT,hb,hz,hb4,hzl⟩:=Z6 h;split at h
 ·rename_i hx;obtain⟨l2,h,hY⟩:=SX (rs:=[]) (ρ:=ρ) (C:=C) hs ho h hT hb hz hb4 hzl;split at h
  case isFalse=>cases h
  rename_i hlen;have ex:=hs.gd hx ρ;rw[bT]at ex;intro w ϱ hg hρ;have ht:Tr C [] (aZ.res ρ R) w (.row (.slice V 0 0) e []::aZ.res ρ R) w:=Pm V e hg;have hal:∀b,al C (aZ.res ρ R) b->al C (.row (.slice V 0 0) e []::aZ.res ρ R) b:=λb hA=>⟨hA.1,λhx=>hA.2 (by
   rw[fH]at hx;simpa [cK.blk,gW]using hx)⟩
  obtain⟨v,w',av,σ',⟨v',ha,hσ⟩,h2,h3,h4⟩:=hY _ (.slice V 0 0) 0 [] (.inr ⟨_,rfl⟩) ex rfl (by simpa using hlen) w ϱ ht.good (λu d hu=>(hρ u d hu).mono λb _ hA=>⟨hal b hA,rfl⟩);refine .inl ⟨v,w',av,σ',FY hs h ⟨v',ha,by rw[hσ];rfl⟩,⟨h2.good,⟨h2.kp.os,h2.kp.tape,h2.kp.output,h2.kp.size,λk hk _=>h2.kp.block k hk (by simp[gW])⟩,λb hb hA=>⟨(h2.al b hb (hal b hA)).1,hA.2⟩⟩,h3,h4⟩
 ·rename_i id hx;split at h
  case h_2=>cases h
  rename_i t l0 hr;obtain⟨l,hl,h⟩:=zx.1 h;obtain⟨rfl,rfl⟩:=nc hl;obtain⟨l2,h,hY⟩:=SX (rs:=[]) (ρ:=ρ) (C:=C) hs ho h hT hb hz hb4 hzl;split at h
  case isFalse=>cases h
  rename_i hlen;have ex:=hs.gd hx ρ;rw[eC]at ex;obtain⟨i,hi1,_,hi3⟩:=eV (hs.r _ _ hr);have hres:=ic (ρ:=ρ) hi1;refine .ofV (hY _ _ i _ (.inl rfl) ex hres hlen) (λb hb=> ?_) λa σ' ⟨v',ha,hσ⟩=> ?_
  ·obtain⟨g,hg⟩:∃g,gW (ρ.v id)=Q g:=by
    cases hb':gW (ρ.v id)with
    |none=>rw[hb']at hb;simp at hb
    |some g=>exact⟨g,rfl⟩
   rw[hg]at hb;simp only[xN,zD]at hb;exact bS.2 ⟨_,List.mem_of_getElem? hres,by rw[hb];exact hg⟩
  ·have hdl:=E8 (id:=id) hs.lr;refine⟨_,h,yB nx,λp hp=> ?_,λd' hd=>by cases hd;exact .own _ (zC _),ρ.gD nx v', .gD ρ nx v',?_,?_⟩
   ·rcases zF.1 hp with rfl|hp
    ·exact⟨zC _,trivial⟩
    ·exact(hdl.mono (yB nx)) p hp
   ·rw[ha];simp[gu.vl,eC,Gh.gD]
   ·rw[hσ];show List.Perm _ (aZ.res _ ((nx,_)::kR id R));have e1:aZ.res (ρ.gD nx v') ((nx,IR.row t (l0++l2))::kR id R)=cK.row v' t (l0++l2)::(aZ.res ρ R).eraseIdx i:=by
     show _::aZ.res _ (kR id R)=_;rw[<-hdl.res (.gD ρ nx v'),hi3,As];simp[IR.res,Gh.gD]
    rw[e1];exact set_perm hres
 ·cases h
def mnV(mx:Bool)(xs:aa (ah AV))(K:AV->ah α):ah α:=match xs with
 |[Q (.lit (.int k m)),Q (.lit (.int k' n))]=>if k=k' then(match mx with
  |true=>K (.n k (if m<n then n else m))
  |false=>K (.n k (if n<m then n else m)))else V
 |_=>V
abbrev bw:=(α:Type)->FuncId->aa AV->aZ->Nat->(AV->aZ->Nat->ah α)->ah α
def iO(P:Program)(F:bw):Prop:=∀(α:Type) f args R nx (k:AV->aZ->Nat->ah α) r,F α f args R nx k=Q r->(∀d∈args,cQ nx d)->aZ.cQ nx R->v7 P f/\
 ∀ρ,Fn P f (args.map (cn.sub ρ)) (aZ.res ρ R) λa s=>∃d R' nx',k d R' nx'=Q r/\nx<=nx'/\cQ nx' d/\aZ.cQ nx' R'/\∃ρ',rq nx ρ ρ'/\a=d.sub ρ'/\List.Perm s (aZ.res ρ' R')
def HJ(F:bw)(ev:Operand->ah AV)(R:aZ)(nx:Nat)(x:ah AV)(xs:aa Operand)(K:gu->ah α):ah α:=match x with
 |some (.fn (.func f) caps)=>(KM ev xs).bind λas0=>F α f (as0++caps) R nx λd R' nx'=>K (.all d R' nx')
 |_=>V
def aaj{F:bw}{xs:Array Operand}{ts:Array TypeId}(hF:iO P F)(hs:kj ev rd nx E R)(ho:o.op= .call {callee:= .value x,args:=xs,argTypes:=ts})(h:HJ F ev R nx (ev x) xs.toList K=Q r):TK P o E R nx K r:=λρ C=>by
 unfold HJ at h;split at h
 case h_2=>cases h
 rename_i f caps hx;obtain⟨as0,ha,h⟩:=zx.1 h;have ex:=hs.gd hx ρ;rw[tc]at ex;obtain⟨hf,hfn⟩:=hF _ _ _ _ _ _ _ h (uv (G8 hs ha) (hs.rH hx).fnL) hs.lr;refine .ofC (.fn (σr:=[]) ho ex hf (Iy hs ρ ha) (by rw[yo]) (yy _).symm (hfn ρ)) (λb hb=>hb) λa σ' ⟨σo,hN,hσ⟩=> ?_;obtain⟨d,R',nx',h1,h2,h3,h4,ρ',h5,h6,h7⟩:=hN;rw[yy]at hσ;exact⟨.all d R' nx',h1,h2,h4,λd' hd=>by cases hd;exact h3,ρ',h5,by rw[h6];rfl,by rw[hσ];exact h7⟩
end
def dO{α:Type}(K:gu->ah α)(d:AV):ah α:=K (.val d)
def Jz{α:Type}(P:Program)(F:bw)(ev:Operand->ah AV)(rd:Nat->ah IR)(R:aZ)(nx:Nat)(o:Op)(K:gu->ah α):ah α:=match o with
 | .move x=>(ev x).bind (dO K)
 | .assign x=>(ev x).bind (dO K)
 | .pick c a b=>match ev c with
  |some (.lit (.bool G))=>(ev a).bind (dO K)
  |some (.lit (.bool I))=>(ev b).bind (dO K)
  |_=>V
 | .binOp b T x y _=>tf P rd b T (ev x) (ev y) (dO K)
 | .unOp b _ x=>unV b (ev x) (dO K)
 | .convert T T' x=>Nv P rd T T' (ev x) (dO K)
 | .nilCheck x=>OI (ev x) (dO K)
 | .fieldAddr T x i=>Pt P T i (ev x) (dO K)
 | .indexAddr T x y=>MT P rd T (ev x) (ev y) (dO K)
 | .index T x y=>ND P T (ev x) (ev y) (dO K)
 | .load T x=>ldV P rd T (ev x) (dO K)
 | .store T x y=>O7 P rd T (ev x) (ev y) K
 | .makeFunc f fs cs=>PL ev f fs.toList cs.toList (dO K)
 | .extract x i=>OS i (ev x) (dO K)
 | .build T ps=>Ol P ev rd T ps.toList (dO K)
 | .buildSlice T n ps=>NC P ev rd nx T n ps.toList K
 | .makeSlice T x y=>mkE P nx T (ev x) (ev y) K
 | .alloc T=>TL P nx T K
 | .box T x=>Ns rd nx T (ev x) K
 | .slice T x lo hi mx=>match mx with
  |none=>PD P T (ev x) (lo.map ev) (hi.map ev) (dO K)
  |some (.const (.int _ 0))=>match lo,hi with
   |none,Q (.const (.int _ 0))=>emE P nx T (ev x) K
   |_,_=>V
  |_=>V
 | .call {callee:= .builtin .len,args:=as0,argTypes:=ts}=>match as0.toList,ts.toList with
  |[x],[T]=>Ov P rd T (ev x) (dO K)
  |_,_=>V
 | .call {callee:= .builtin .max,args:=as0,argTypes:=ts}=>match as0.toList,ts.toList with
  |[x,y],[_,_]=>mnV G [ev x,ev y] (dO K)
  |_,_=>V
 | .call {callee:= .builtin .min,args:=as0,argTypes:=ts}=>match as0.toList,ts.toList with
  |[x,y],[_,_]=>mnV I [ev x,ev y] (dO K)
  |_,_=>V
 | .call {callee:= .builtin .append,args:=as0,argTypes:=ts}=>match as0.toList,ts.toList with
  |[x,y],[T,T']=>Tw P rd nx T T' (ev x) (ev y) K
  |_,_=>V
 | .call {callee:= .builtin .copy,args:=as0,argTypes:=ts}=>match as0.toList,ts.toList with
  |[x,y],[T,_]=>OR P rd R nx T (ev x) (ev y) K
  |_,_=>V
 | .call {callee:= .value x,args:=as0,argTypes:=_}=>HJ F ev R nx (ev x) as0.toList K
 |_=>V
section
variable {α:Type}
def R6(x:Operand)(_:Program)(_:bw)(ev:Operand->ah AV)(_:Nat->ah IR)(_:aZ)(_:Nat)(K:gu->ah α):ah α:=(ev x).bind (dO K)
def ur(c a b:Operand)(_:Program)(_:bw)(ev:Operand->ah AV)(_:Nat->ah IR)(_:aZ)(_:Nat)(K:gu->ah α):ah α:=match ev c with
 |some (.lit (.bool G))=>(ev a).bind (dO K)
 |some (.lit (.bool I))=>(ev b).bind (dO K)
 |_=>V
def ah3(b:BinOp)(T:TypeId)(x y:Operand)(P:Program)(_:bw)(ev:Operand->ah AV)(rd:Nat->ah IR)(_:aZ)(_:Nat)(K:gu->ah α):ah α:=tf P rd b T (ev x) (ev y) (dO K)
def ash(b:UnOp)(x:Operand)(_:Program)(_:bw)(ev:Operand->ah AV)(_:Nat->ah IR)(_:aZ)(_:Nat)(K:gu->ah α):ah α:=unV b (ev x) (dO K)
def ahf(T T':TypeId)(x:Operand)(P:Program)(_:bw)(ev:Operand->ah AV)(rd:Nat->ah IR)(_:aZ)(_:Nat)(K:gu->ah α):ah α:=Nv P rd T T' (ev x) (dO K)
def aiJ(x:Operand)(_:Program)(_:bw)(ev:Operand->ah AV)(_:Nat->ah IR)(_:aZ)(_:Nat)(K:gu->ah α):ah α:=OI (ev x) (dO K)
def ahF(T:TypeId)(x:Operand)(i:Nat)(P:Program)(_:bw)(ev:Operand->ah AV)(_:Nat->ah IR)(_:aZ)(_:Nat)(K:gu->ah α):ah α:=Pt P T i (ev x) (dO K)
def ah4(T:TypeId)(x y:Operand)(P:Program)(_:bw)(ev:Operand->ah AV)(rd:Nat->ah IR)(_:aZ)(_:Nat)(K:gu->ah α):ah α:=MT P rd T (ev x) (ev y) (dO K)
def air(T:TypeId)(x y:Operand)(P:Program)(_:bw)(ev:Operand->ah AV)(_:Nat->ah IR)(_:aZ)(_:Nat)(K:gu->ah α):ah α:=ND P T (ev x) (ev y) (dO K)
def aox(T:TypeId)(x:Operand)(P:Program)(_:bw)(ev:Operand->ah AV)(rd:Nat->ah IR)(_:aZ)(_:Nat)(K:gu->ah α):ah α:=ldV P rd T (ev x) (dO K)
def aha(T:TypeId)(x y:Operand)(P:Program)(_:bw)(ev:Operand->ah AV)(rd:Nat->ah IR)(_:aZ)(_:Nat)(K:gu->ah α):ah α:=O7 P rd T (ev x) (ev y) K
def ahc(f:Go.Fn)(fs cs:Array Operand)(_:Program)(_:bw)(ev:Operand->ah AV)(_:Nat->ah IR)(_:aZ)(_:Nat)(K:gu->ah α):ah α:=PL ev f fs.toList cs.toList (dO K)
def ahp(x:Operand)(i:Nat)(_:Program)(_:bw)(ev:Operand->ah AV)(_:Nat->ah IR)(_:aZ)(_:Nat)(K:gu->ah α):ah α:=OS i (ev x) (dO K)
def ah7(T:TypeId)(ps:Array (Nat×Operand))(P:Program)(_:bw)(ev:Operand->ah AV)(rd:Nat->ah IR)(_:aZ)(_:Nat)(K:gu->ah α):ah α:=Ol P ev rd T ps.toList (dO K)
def aih(T:TypeId)(n:Nat)(ps:Array (Nat×Operand))(P:Program)(_:bw)(ev:Operand->ah AV)(rd:Nat->ah IR)(_:aZ)(nx:Nat)(K:gu->ah α):ah α:=NC P ev rd nx T n ps.toList K
def asX(T:TypeId)(x y:Operand)(P:Program)(_:bw)(ev:Operand->ah AV)(_:Nat->ah IR)(_:aZ)(nx:Nat)(K:gu->ah α):ah α:=mkE P nx T (ev x) (ev y) K
def aik(T:TypeId)(P:Program)(_:bw)(_:Operand->ah AV)(_:Nat->ah IR)(_:aZ)(nx:Nat)(K:gu->ah α):ah α:=TL P nx T K
def ag3(T:TypeId)(x:Operand)(_:Program)(_:bw)(ev:Operand->ah AV)(rd:Nat->ah IR)(_:aZ)(nx:Nat)(K:gu->ah α):ah α:=Ns rd nx T (ev x) K
def Md(T:TypeId)(x:Operand)(lo hi mx:ah Operand)(P:Program)(_:bw)(ev:Operand->ah AV)(_:Nat->ah IR)(_:aZ)(nx:Nat)(K:gu->ah α):ah α:=match mx with
 |none=>PD P T (ev x) (lo.map ev) (hi.map ev) (dO K)
 |some (.const (.int _ 0))=>match lo,hi with
  |none,Q (.const (.int _ 0))=>emE P nx T (ev x) K
  |_,_=>V
 |_=>V
def Bv(b:Builtin)(as0:Array Operand)(ts:Array TypeId)(P:Program)(ev:Operand->ah AV)(rd:Nat->ah IR)(R:aZ)(nx:Nat)(K:gu->ah α):ah α:=match b with
 | .len=>match as0.toList,ts.toList with
  |[x],[T]=>Ov P rd T (ev x) (dO K)
  |_,_=>V
 | .max=>match as0.toList,ts.toList with
  |[x,y],[_,_]=>mnV G [ev x,ev y] (dO K)
  |_,_=>V
 | .min=>match as0.toList,ts.toList with
  |[x,y],[_,_]=>mnV I [ev x,ev y] (dO K)
  |_,_=>V
 | .append=>match as0.toList,ts.toList with
  |[x,y],[T,T']=>Tw P rd nx T T' (ev x) (ev y) K
  |_,_=>V
 | .copy=>match as0.toList,ts.toList with
  |[x,y],[T,_]=>OR P rd R nx T (ev x) (ev y) K
  |_,_=>V
 |_=>V
def Fg(c:Call)(P:Program)(F:bw)(ev:Operand->ah AV)(rd:Nat->ah IR)(R:aZ)(nx:Nat)(K:gu->ah α):ah α:=match c.callee with
 | .value x=>HJ F ev R nx (ev x) c.args.toList K
 | .builtin b=>Bv b c.args c.argTypes P ev rd R nx K
 |_=>V
def aqw(_:Program)(_:bw)(_:Operand->ah AV)(_:Nat->ah IR)(_:aZ)(_:Nat)(_:gu->ah α):ah α:=V
def m5(o:Op):Program->bw->(Operand->ah AV)->(Nat->ah IR)->aZ->Nat->(gu->ah α)->ah α:=match o with
 | .move x=>R6 x
 | .assign x=>R6 x
 | .pick c a b=>ur c a b
 | .binOp b T x y _=>ah3 b T x y
 | .unOp b _ x=>ash b x
 | .convert T T' x=>ahf T T' x
 | .nilCheck x=>aiJ x
 | .fieldAddr T x i=>ahF T x i
 | .indexAddr T x y=>ah4 T x y
 | .index T x y=>air T x y
 | .load T x=>aox T x
 | .store T x y=>aha T x y
 | .makeFunc f fs cs=>ahc f fs cs
 | .extract x i=>ahp x i
 | .build T ps=>ah7 T ps
 | .buildSlice T n ps=>aih T n ps
 | .makeSlice T x y=>asX T x y
 | .alloc T=>aik T
 | .box T x=>ag3 T x
 | .slice T x lo hi mx=>Md T x lo hi mx
 | .call c=>Fg c
 |_=>aqw
def Kf(P:Program)(F:bw)(ev:Operand->ah AV)(rd:Nat->ah IR)(R:aZ)(nx:Nat)(o:Op)(K:gu->ah α):m5 o P F ev rd R nx K=Jz P F ev rd R nx o K:=by
 cases o<;>first|rfl|skip
 case call c=>
  obtain⟨cal,as0,ts⟩:=c;cases cal with
  |builtin b=>cases b<;>rfl
  |_=>rfl
end
section
variable {α:Type} {r:α} {P:Program} {F:bw} {o:Oper} {E:Env} {R:aZ} {nx:Nat} {ev:Operand->ah AV} {rd:Nat->ah IR} {K:gu->ah α} {C:Cx} {n:Nat}
def atN{β:Type}{a:Array β}{x:β}(h:a.toList=[x]):a=#[x]:=by rw[<-Array.toArray_toList (xs:=a),h]
def Mu{β:Type}{a:Array β}{x y:β}(h:a.toList=[x,y]):a=#[x,y]:=by rw[<-Array.toArray_toList (xs:=a),h]
def F3(hF:iO P F)(hs:kj ev rd nx E R){op:Op}(ho:o.op=op)(h:Jz P F ev rd R nx op K=Q r):TK P o E R nx K r:=by
 unfold Jz at h;split at h
 ·obtain⟨d,hd,h⟩:=zx.1 h;exact .pu hs ⟨d,h,hs.rH hd,λρ=> .move ho (hs.gd hd ρ)⟩
 ·obtain⟨d,hd,h⟩:=zx.1 h;exact .pu hs ⟨d,h,hs.rH hd,λρ=> .assign ho (hs.gd hd ρ)⟩
 ·split at h
  ·rename_i hc;obtain⟨d,hd,h⟩:=zx.1 h;exact .pu hs ⟨d,h,hs.rH hd,λρ=> .aqc ho (by have:=hs.gd hc ρ;rw[bT]at this;exact this) (hs.gd hd ρ)⟩
  ·rename_i hc;obtain⟨d,hd,h⟩:=zx.1 h;exact .pu hs ⟨d,h,hs.rH hd,λρ=> .arM ho (by have:=hs.gd hc ρ;rw[bT]at this;exact this) (hs.gd hd ρ)⟩
  ·cases h
 ·exact .pu hs (afI hs ho h)
 ·exact .pu hs (ajO hs ho h)
 ·exact .pu hs (aab hs ho h)
 ·exact .pu hs (ae4 hs ho h)
 ·exact .pu hs (agt hs ho h)
 ·exact .pu hs (abo hs ho h)
 ·exact .pu hs (abt hs ho h)
 ·exact .pu hs (ani hs ho h)
 ·exact adW hs ho h
 ·exact .pu hs (ZY hs ho h)
 ·exact .pu hs (ace hs ho h)
 ·exact .pu hs (agi hs ho h)
 ·exact acn hs ho h
 ·exact akD hs ho h
 ·exact agP hs ho h
 ·exact Z9 hs ho h
 ·split at h
  ·exact .pu hs (adm hs ho h)
  ·split at h
   ·exact aji hs ho h
   ·cases h
  ·cases h
 ·split at h
  ·rename_i h1 h2;rw[atN h1,atN h2]at ho;exact .pu hs (aa0 hs ho h)
  ·cases h
 ·split at h
  ·rename_i h1 h2;rw[Mu h1,Mu h2]at ho;unfold mnV at h;split at h
   ·rename_i q1;split at h
    ·rename_i hk;subst hk;simp only[List.cons.injEq,and_true]at q1;obtain⟨q1,q2⟩:=q1;exact .pu hs ⟨_,h, .lit λρ=> .max ho (by have:=hs.gd q1 ρ;rw[bT]at this;exact this) (by have:=hs.gd q2 ρ;rw[bT]at this;exact this)⟩
    ·cases h
   ·cases h
  ·cases h
 ·split at h
  ·rename_i h1 h2;rw[Mu h1,Mu h2]at ho;unfold mnV at h;split at h
   ·rename_i q1;split at h
    ·rename_i hk;subst hk;simp only[List.cons.injEq,and_true]at q1;obtain⟨q1,q2⟩:=q1;exact .pu hs ⟨_,h, .lit λρ=> .min ho (by have:=hs.gd q1 ρ;rw[bT]at this;exact this) (by have:=hs.gd q2 ρ;rw[bT]at this;exact this)⟩
    ·cases h
   ·cases h
  ·cases h
 ·split at h
  ·rename_i h1 h2;rw[Mu h1,Mu h2]at ho;exact aaE hs ho h
  ·cases h
 ·split at h
  ·rename_i h1 h2;rw[Mu h1,Mu h2]at ho;exact aaF hs ho h
  ·cases h
 ·exact aaj hF hs ho h
 ·cases h
def St.app(s:St)(dst:ah Nat)(e:gu):St:=
 {E:=match dst with
   |none=>s.E
   |some t=>match e.vl s.nx with
    |some d=>mj t d s.E
    |none=>mj t (.lit undef) s.E
  R:=e.R s.R s.nx
  nx:=e.nx s.nx}
def LB(n:Nat):ah Nat->Bool
 |none=>G
 |some t=>zK t n
def kj.of{s:St}(hh:tq s.E E)(hE:E.cQ s.nx)(hR:aZ.cQ s.nx s.R):kj (Fj s.E) (gz s.R) s.nx E s.R:=⟨λx d h=>hh.ev x d h,λ_ _ h=>h,hE,hR⟩
def alG{C:Cg}{s:St}{a:Act}{w:World}{zh:Exit->Act->World->Prop}(hm:Mt C n s a w)(hd:LB n o.dst=G)(h:∀E,kj (Fj s.E) (gz s.R) s.nx E s.R->TK P o E s.R s.nx K r){K':Act->World->Prop}
  (hK:∀a' w' e,a'.defers=a.defers->K e=Q r->s.nx<=e.nx s.nx->Mt C n (s.app o.dst e) a' w'->K' a' w'):o.wp P a w K' zh:=by
 obtain⟨E,hh,hE,hR,ρ,hag,hsim⟩:=hm;have h:=h E (kj.of hh hE hR);unfold Oper.wp;have fin:∀(e:gu) (ρ':Gh) (σ':aa cK) (w':World) (v:Value),s.nx<=e.nx s.nx->aZ.cQ (e.nx s.nx) (e.R s.R s.nx)->(∀d,e.vl s.nx=Q d->cQ (e.nx s.nx) d)->rq s.nx ρ ρ'->List.Perm σ' (aZ.res ρ' (e.R s.R s.nx))->
   Tr C.C (bH (aZ.res ρ s.R)) (aZ.res ρ s.R) w σ' w'->(∀d,e.vl s.nx=Q d->Rel (al C.C σ') w' (d.sub ρ') v)->(e.vl s.nx=V->v=undef)->Mt C n (s.app o.dst e) (a.put o.dst v) w':=λe ρ' σ' w' v h1 h2 h3 h4 h5 h6 h7 h8=>by
  have hs1:=(hsim.tr h6).perm h5;rw[hE.sub h4]at hs1;have hE':E.cQ (e.nx s.nx):=hE.mono h1;have hag':rq C.n C.ρ ρ'/\C.n<=e.nx s.nx:=⟨hag.1.trans h4 hag.2,zJ hag.2 h1⟩;have hput:∀(t:Nat) (d:AV),o.dst=Q t->cQ (e.nx s.nx) d->Rel (al C.C (aZ.res ρ' (e.R s.R s.nx))) w' (d.sub ρ') v->Mt C n {E:=mj t d s.E,R:=e.R s.R s.nx,nx:=e.nx s.nx} (a.put (Q t) v) w':=λt d ht hd' hr=>
   ⟨(t,d)::E,hh.put t d,Env.uT hE' hd',h2,ρ',hag',hs1.put (by rw[ht]at hd;exact hd) hr⟩
  have hsub:∀d,e.vl s.nx=Q d->Rel (al C.C (aZ.res ρ' (e.R s.R s.nx))) w' (d.sub ρ') v:=λd hd'=>(h7 d hd').mono λb _ hA=>⟨S8 h5 b hA,rfl⟩;unfold St.app;cases hdst:o.dst with
  |none=>exact⟨E,hh,hE',h2,ρ',hag',hs1⟩
  |some t=>
   cases hv:e.vl s.nx with
   |some d=>exact hput t d hdst (h3 d hv) (hsub d hv)
   |none=>
    refine hput t (.lit undef) hdst (.lit _) ?_;rw[h8 hv,bT];exact .lit _
 rcases h ρ C.C w a.eval hsim.good hsim.slots.ops with ⟨v,w',av,σ',⟨e,q1,q2,q3,q4,ρ',q5,q6,q7⟩,h2,h3,h4⟩|⟨w',σ',⟨e,q1,q2,q3,q4,ρ',q5,q6,q7⟩,h2,h3⟩|⟨f,args,h1,h2⟩
 ·rw[h3];refine hK _ _ e (by cases o.dst<;>rfl) q1 q2 (fin e ρ' σ' w' v q2 q3 q4 q5 q7 h2 (λd hd'=> ?_) (λhn=> ?_))
  ·rw[hd',yx,zO.injEq]at q6;rw[<-q6];exact h4
  ·rw[hn]at q6;cases q6
 ·rw[h3];refine hK _ _ e (by cases o.dst<;>rfl) q1 q2 (fin e ρ' σ' w' undef q2 q3 q4 q5 q7 h2 (λd hd'=> ?_) (λhn=>rfl));rw[hd']at q6;cases q6
 ·rw[h1];refine Calls.mono h2 λee w' ⟨v,av,σ',q0,⟨e,q1,q2,q3,q4,ρ',q5,q6,q7⟩,h2,h4⟩=> ?_;subst q0;refine hK _ _ e (by cases o.dst<;>rfl) q1 q2 (fin e ρ' σ' w' v q2 q3 q4 q5 q7 h2 (λd hd'=> ?_) (λhn=> ?_))
  ·rw[hd',yx,zO.injEq]at q6;rw[<-q6];exact h4
  ·rw[hn]at q6;cases q6
end
def Ut(id t:Nat)(l:aa (U.dF t)):AV->AV
 | .own i=>match zj i id with
  |true=> .sl t l
  |false=> .own i
 |d=>d
def nJ(id t:Nat)(l:aa (U.dF t)):Nat->AV->AV
 |0,d=>d
 |n+1, .agg cs=> .agg (cs.map (nJ id t l n))
 |n+1, .jE cs=> .jE (cs.map (nJ id t l n))
 |n+1, .fn f cs=> .fn f (cs.map (nJ id t l n))
 |_+1,d=>Ut id t l d
def uK(id t:Nat)(l:aa (U.dF t)):IR->IR
 | .box T cs=> .box T (cs.map (nJ id t l 3))
 |r=>r
def St.JO(s:St)(id:Nat):St:=match gz s.R id with
 |some (.row t l)=>{E:=emap (nJ id t l 3) s.E,R:=(kR id s.R).map λp=>(p.1,uK id t l p.2),nx:=s.nx}
 |_=>s
def YK{A:Nat->Prop}{w:World}{id t:Nat}{l:aa (U.dF t)}{ρ:Gh}(hd:Hd A [.row (ρ.v id) t l] w){d:AV}{v:Value}(h:Rel A w (d.sub ρ) v):Rel (λb=>A b\/b∈bH [.row (ρ.v id) t l]) w ((Ut id t l d).sub ρ) v:=by
 unfold Ut;split
 ·rename_i i;split
  ·rename_i hi;have:=gI hi;subst this;rw[eC]at h;rw[gO];exact Vw.row 0 rfl A w v hd h
  ·exact h.mono λb _ hA=>⟨.inl hA,rfl⟩
 ·exact h.mono λb _ hA=>⟨.inl hA,rfl⟩
def CM{A:Nat->Prop}{w:World}{id t:Nat}{l:aa (U.dF t)}{ρ:Gh}(hd:Hd A [.row (ρ.v id) t l] w):∀(n:Nat) {d:AV} {v:Value},Rel A w (d.sub ρ) v->Rel (λb=>A b\/b∈bH [.row (ρ.v id) t l]) w ((nJ id t l n d).sub ρ) v
 |0,d,v,h=>h.mono λb _ hA=>⟨.inl hA,rfl⟩
 |n+1,d,v,h=>by
  have hL:∀{cs:aa AV} {us:aa Value},bL A w (cs.map (cn.sub ρ)) us->bL (λb=>A b\/b∈bH [.row (ρ.v id) t l]) w ((cs.map (nJ id t l n)).map (cn.sub ρ)) us:=λ{cs us} h=>by
   refine⟨by simpa using h.1,λj a v h1 h2=> ?_⟩;rw[yp,yb]at h1;obtain⟨c,hc,rfl⟩:=zu.1 h1;exact CM hd n (h.2 j _ v (by rw[yb,hc];rfl) h2)
  unfold nJ;split
  ·rename_i h0;cases h0
  ·rename_i cs h0;cases h0;rw[fy]at h ⊢;obtain⟨us,rfl,h2⟩:=h.nZ;exact Rel.oO (hL h2)
  ·rename_i cs h0;cases h0;rw[kI]at h ⊢;obtain⟨us,rfl,h2⟩:=h.NL;exact Rel.Fy (hL h2)
  ·rename_i f cs h0;cases h0;rw[tc]at h ⊢;obtain⟨us,rfl,h2⟩:=h.Yz;exact .fn f _ us (hL h2).1 (hL h2).2
  ·rename_i h0 _ _ _;exact YK hd h
end Go.Iv
end
noncomputable section
namespace Go.Iv
variable [U:sF] [L:n7]
open Go Go.RowKit
section
variable {α β:Type} (D:α->ah β)
def Yj{b:BinOp}{k:IntKind}{m n:Int}{K:AV->ah α}:(Zc b k m n K).bind D=Zc b k m n (λd=>(K d).bind D):=by
 unfold Zc;cases b<;>first|rfl|(dsimp only;split<;>rfl)
def agh{P:Program}{b:BinOp}{T:TypeId}{cs ds:aa AV}{K:AV->ah α}:(eqS P b T cs ds K).bind D=eqS P b T cs ds (λd=>(K d).bind D):=by
 unfold eqS;split
 ·split
  ·cases b<;>first|rfl|exact z8 ..
  ·rfl
 ·rfl
def KS{P:Program}{rd:Nat->ah IR}{b:BinOp}{T:TypeId}{x y:ah AV}{K:AV->ah α}:(tf P rd b T x y K).bind D=tf P rd b T x y (λd=>(K d).bind D):=by
 unfold tf
 repeat' split
 all_goals first|rfl|exact Yj D|exact agh D|simp_all
def Qt{b:UnOp}{x:ah AV}{K:AV->ah α}:(unV b x K).bind D=unV b x (λd=>(K d).bind D):=by
 unfold unV
 repeat' split
 all_goals first|rfl|simp_all
def Mz{x:ah AV}{K:AV->ah α}:(OI x K).bind D=OI x (λd=>(K d).bind D):=by
 unfold OI
 repeat' split
 all_goals first|rfl|simp_all
def Km{P:Program}{T:TypeId}{i:Nat}{x:ah AV}{K:AV->ah α}:(Pt P T i x K).bind D=Pt P T i x (λd=>(K d).bind D):=by
 unfold Pt
 repeat' split
 all_goals first|rfl|simp_all
def Kk{P:Program}{rd:Nat->ah IR}{T:TypeId}{x y:ah AV}{K:AV->ah α}:(MT P rd T x y K).bind D=MT P rd T x y (λd=>(K d).bind D):=by
 unfold MT
 repeat' split
 all_goals first|rfl|simp_all
def Ry{P:Program}{rd:Nat->ah IR}{T:TypeId}{x:ah AV}{K:AV->ah α}:(ldV P rd T x K).bind D=ldV P rd T x (λd=>(K d).bind D):=by
 unfold ldV
 repeat' split
 all_goals first|rfl|exact z8 .. |simp_all
def Zq{P:Program}{ev:Operand->ah AV}{rd:Nat->ah IR}{T:TypeId}{ps:aa (Nat×Operand)}{K:AV->ah α}:(Ol P ev rd T ps K).bind D=Ol P ev rd T ps (λd=>(K d).bind D):=by
 unfold Ol
 repeat' split
 all_goals first|rfl|exact z8 .. |simp_all
def Mk{P:Program}{rd:Nat->ah IR}{T T':TypeId}{x:ah AV}{K:AV->ah α}:(Nv P rd T T' x K).bind D=Nv P rd T T' x (λd=>(K d).bind D):=by
 unfold Nv
 repeat' split
 all_goals first|rfl|exact z8 .. |simp_all
def KL{i:Nat}{x:ah AV}{K:AV->ah α}:(OS i x K).bind D=OS i x (λd=>(K d).bind D):=by
 unfold OS
 repeat' split
 all_goals first|rfl|exact z8 .. |simp_all
def Vu{ev:Operand->ah AV}{f:Go.Fn}{fs cs:aa Operand}{K:AV->ah α}:(PL ev f fs cs K).bind D=PL ev f fs cs (λd=>(K d).bind D):=by
 unfold PL
 repeat' split
 all_goals first|rfl|exact z8 .. |simp_all
def KV{P:Program}{T:TypeId}{x y:ah AV}{K:AV->ah α}:(ND P T x y K).bind D=ND P T x y (λd=>(K d).bind D):=by
 unfold ND
 repeat' split
 all_goals first|rfl|exact z8 .. |simp_all
def ZH{P:Program}{T:TypeId}{x:ah AV}{lo hi:ah (ah AV)}{K:AV->ah α}:(PD P T x lo hi K).bind D=PD P T x lo hi (λd=>(K d).bind D):=by
 unfold PD
 repeat' split
 all_goals first|rfl|exact z8 .. |simp_all
def KY{P:Program}{rd:Nat->ah IR}{T:TypeId}{x:ah AV}{K:AV->ah α}:(Ov P rd T x K).bind D=Ov P rd T x (λd=>(K d).bind D):=by
 unfold Ov
 repeat' split
 all_goals first|rfl|exact z8 .. |simp_all
def Xw{P:Program}{nx:Nat}{T:TypeId}{K:gu->ah α}:(TL P nx T K).bind D=TL P nx T (λd=>(K d).bind D):=by
 unfold TL;exact z8 ..
def Vp{rd:Nat->ah IR}{nx:Nat}{T:TypeId}{x:ah AV}{K:gu->ah α}:(Ns rd nx T x K).bind D=Ns rd nx T x (λd=>(K d).bind D):=by
 unfold Ns
 repeat' split
 all_goals first|rfl|exact z8 .. |simp_all
def V0{P:Program}{rd:Nat->ah IR}{T:TypeId}{x y:ah AV}{K:gu->ah α}:(O7 P rd T x y K).bind D=O7 P rd T x y (λd=>(K d).bind D):=by
 unfold O7
 repeat' split
 all_goals first|rfl|exact z8 .. |simp_all
def WH{P:Program}{rd:Nat->ah IR}{R:aZ}{nx:Nat}{T:TypeId}{x y:ah AV}{K:gu->ah α}:(OR P rd R nx T x y K).bind D=OR P rd R nx T x y (λd=>(K d).bind D):=by
 unfold OR;split
 ·split
  ·split
   ·split
    ·rw[z8]
     congr 1
     funext l
     rw[z8]
     congr 1
     funext l2
     split<;>rfl
    ·rfl
   ·rfl
  ·rfl
 ·rfl
def W0{P:Program}{ev:Operand->ah AV}{rd:Nat->ah IR}{nx:Nat}{T:TypeId}{n:Nat}{ps:aa (Nat×Operand)}{K:gu->ah α}:(NC P ev rd nx T n ps K).bind D=NC P ev rd nx T n ps (λd=>(K d).bind D):=by
 unfold NC;split
 ·split
  ·split
   ·split<;>rfl
   ·split
    ·split
     ·rw[z8]
      congr 1
      funext cs
      split
      ·exact z8 ..
      ·rfl
     ·rfl
    ·rfl
  ·rfl
 ·rfl
def afy{P:Program}{nx:Nat}{T:TypeId}{x y:ah AV}{K:gu->ah α}:(mkE P nx T x y K).bind D=mkE P nx T x y (λd=>(K d).bind D):=by
 unfold mkE;split
 ·split
  ·split
   ·rw[z8]
    congr 1
    funext d
    split<;>rfl
   ·rfl
  ·rfl
 ·rfl
def aax{P:Program}{nx:Nat}{T:TypeId}{x:ah AV}{K:gu->ah α}:(emE P nx T x K).bind D=emE P nx T x (λd=>(K d).bind D):=by
 unfold emE
 repeat' split
 all_goals first|rfl|simp_all
def XZ{P:Program}{T:TypeId}{K:Nat->aa Value->ah α}:(T7 P T K).bind D=T7 P T (λe zs=>(K e zs).bind D):=by
 unfold T7
 repeat' split
 all_goals first|rfl|simp_all
def KR{P:Program}{rd:Nat->ah IR}{e:Nat}{zs:aa Value}{T' T:TypeId}{y:ah AV}{K:aa (U.dF e)->ah α}:(PM P rd e zs T' T y K).bind D=PM P rd e zs T' T y (λd=>(K d).bind D):=by
 unfold PM;split
 ·exact z8 ..
 ·split
  ·split
   ·rw[z8]
    congr 1
    funext d
    split<;>rfl
   ·rfl
  ·rfl
def VI{P:Program}{rd:Nat->ah IR}{nx:Nat}{T T':TypeId}{x y:ah AV}{K:gu->ah α}:(Tw P rd nx T T' x y K).bind D=Tw P rd nx T T' x y (λd=>(K d).bind D):=by
 unfold Tw;rw[XZ]
 congr 1
 funext e zs
 split
 ·rw[KR]
  congr 1
  funext l2
  split<;>rfl
 ·split
  ·rw[z8]
   congr 1
   funext l
   rw[KR]
   congr 1
   funext l2
   split<;>rfl
  ·rfl
 ·rfl
def BQ{mx:Bool}{xs:aa (ah AV)}{K:AV->ah α}:(mnV mx xs K).bind D=mnV mx xs (λd=>(K d).bind D):=by
 unfold mnV;split
 ·split
  ·cases mx<;>rfl
  ·rfl
 ·rfl
def eF(F:bw):Prop:=∀(α β:Type) f args R nx (k:AV->aZ->Nat->ah α) (D:α->ah β),(F α f args R nx k).bind D=F β f args R nx (λd R nx=>(k d R nx).bind D)
structure bG (P:Program) (F:bw):Prop where
 ok:iO P F
 nat:eF F
def Wa{F:bw}(hF:eF F){ev:Operand->ah AV}{R:aZ}{nx:Nat}{x:ah AV}{xs:aa Operand}{K:gu->ah α}:(HJ F ev R nx x xs K).bind D=HJ F ev R nx x xs (λd=>(K d).bind D):=by
 unfold HJ;split
 ·rw[z8]
  congr 1
  funext as0
  exact hF ..
 ·rfl
def Aw{F:bw}(hF:eF F)(o:Op)(P:Program)(ev:Operand->ah AV)(rd:Nat->ah IR)(R:aZ)(nx:Nat)(K:gu->ah α):(m5 o P F ev rd R nx K).bind D=m5 o P F ev rd R nx (λe=>(K e).bind D):=by
 have hP:(λd=>(dO K d).bind D)=dO (λe=>(K e).bind D):=rfl;cases o<;>first|rfl|exact z8 .. |exact Qt D|exact Mk D|exact Mz D|exact Km D|exact Kk D|exact KV D|exact Ry D|exact V0 D|exact Vu D|exact KL D|exact Zq D|exact W0 D|exact afy D|exact Xw D|exact Vp D|skip
 case pick c a b=>
  show (ur c a b P F ev rd R nx K).bind D=ur c a b P F ev rd R nx _;unfold ur;split
  ·exact z8 ..
  ·exact z8 ..
  ·rfl
 case binOp b T x y t=>exact KS D
 case slice T x lo hi mx=>
  show (Md T x lo hi mx P F ev rd R nx K).bind D=Md T x lo hi mx P F ev rd R nx _;unfold Md;split
  ·exact ZH D
  ·split
   ·exact aax D
   ·rfl
  ·rfl
 case call c=>
  show (Fg c P F ev rd R nx K).bind D=Fg c P F ev rd R nx _;unfold Fg;split
  ·exact Wa D hF
  ·unfold Bv;split
   ·split
    ·exact KY D
    ·rfl
   ·split
    ·exact BQ D
    ·rfl
   ·split
    ·exact BQ D
    ·rfl
   ·split
    ·exact VI D
    ·rfl
   ·split
    ·exact WH D
    ·rfl
   ·rfl
  ·rfl
end
end Go.Iv
end
noncomputable section
namespace Go.Iv
variable [U:sF]
open Go Go.RowKit Go.Shelf Go.Proofs
section
variable {P:Program} {C:Cx} {n:Nat} {c x y:Code} {zh Q':Exit->Env->aa cK->Prop} {E E':Env} {σ σ':aa cK}
end
def Vw.box{σ:aa cK}{b:Nat}{T:TypeId}{cs:aa AV}(i:Nat)(hσ:σ[i]? =Q (.box b T cs)):Vw σ (.lit (.pointer (Q ⟨b,0,V⟩))) (.fp cs):=λA w v hd hr=>by
 have hv:=hr.cM;subst hv;have hm:=List.mem_of_getElem? hσ;obtain⟨us,h1,h2⟩:=hd.1 _ hm;exact .fp cs b 0 us h1.lt (.inr (bS.2 ⟨_,hm,rfl⟩)) h2.1 (λj v hj=>by rw[yJ];exact h1.cell (by simpa using hj)) (λj a v q1 q2=>(h2.2 j a v q1 q2).mono λb _ hA=>⟨.inl hA,rfl⟩)
def Lay(C:Cx)(σ:aa cK)(w:World)(σ':aa cK)(W:World):Prop:=∀b,b<w.heap.size->al C σ b->al C σ' b/\W.heap[b]? =w.heap[b]?
def Mid(C:Cx)(σ:aa cK)(w:World)(J:aa cK->Prop)(W:World):Prop:=
 ∃σ',J σ'/\Good C σ' W/\Lay C σ w σ' W/\w.heap.size<=W.heap.size
end Go.Iv
end
noncomputable section
namespace Go.Iv
variable [U:sF] [L:n7]
open Go Go.RowKit
def pW{id t m:Nat}{l:aa (U.dF t)}:∀(n:Nat) {d:AV},cQ m d->cQ m (nJ id t l n d)
 |0,d,h=>h
 |n+1,d,h=>by
  have hL:∀{cs:aa AV},(∀c∈cs,cQ m c)->∀c∈cs.map (nJ id t l n),cQ m c:=λh c hc=>by
   obtain⟨c',h1,rfl⟩:=zN.1 hc;exact pW n (h c' h1)
  unfold nJ;split
  ·rename_i h0;cases h0
  ·rename_i h0;cases h0;exact .agg _ (hL h.oO)
  ·rename_i h0;cases h0;exact .jE _ (hL h.Fy)
  ·rename_i h0;cases h0;exact .fn _ _ (hL h.fnL)
  ·unfold Ut;split
   ·split
    ·exact .sl _ _
    ·exact h
   ·exact h
def uh{f:AV->AV}(t:Nat):∀(E:Env),Env.get (E.map λp=>(p.1,f p.2)) t=(E.get t).map f
 |[]=>rfl
 |(k,v)::E=>by
  show Env.get ((k,f v)::E.map λp=>(p.1,f p.2)) t=_;unfold Env.get;cases hb:zj k t with
  |true=>rfl
  |false=>exact uh t E
section
variable {α:Type} {r:α} {P:Program} {F:bw} {o:Oper} {C:Cg} {n:Nat} {s:St} {a:Act} {w:World}
def Mt.JO(h:Mt C n s a w)(id:Nat):Mt C n (s.JO id) a w:=by
 unfold St.JO;split
 case h_2=>exact h
 rename_i t l hr;obtain⟨E,hh,hE,hR,ρ,hag,hsim⟩:=h;obtain⟨i,hi1,_,hi3⟩:=eV hr;have hres:=ic (ρ:=ρ) hi1;have hg:=hsim.good;have hd:Hd (al C.C (aZ.res ρ s.R)) [.row (ρ.v id) t l] w:=⟨λr hr=>by
   rw[zD]at hr;rw[hr];exact hg.res _ (List.mem_of_getElem? hres),λb hb hA=>hA.2 (by
   obtain⟨r,h1,h2⟩:=bS.1 hb;rw[zD]at h1;rw[h1]at h2;exact bS.2 ⟨_,List.mem_of_getElem? hres,h2⟩)⟩
 have hle:=KQ (C:=C.C) hres hg;have hbk:bH (aZ.res ρ ((kR id s.R).map λp=>(p.1,uK id t l p.2)))=bH ((aZ.res ρ s.R).eraseIdx i):=by
  rw[<-As,<-hi3];unfold bH aZ.res;rw[yp,List.filterMap_map,List.filterMap_map]
  congr 1
  funext p
  obtain⟨q,rr⟩:=p;cases rr<;>rfl
 have hal:∀b,(al C.C (aZ.res ρ s.R) b\/b∈bH [cK.row (ρ.v id) t l])->al C.C (aZ.res ρ ((kR id s.R).map λp=>(p.1,uK id t l p.2))) b:=λb hb=>by
  have:=hle b hb;exact⟨this.1,by rw[hbk];exact this.2⟩
 have hrel:∀{d:AV} {v:Value},Rel (al C.C (aZ.res ρ s.R)) w (d.sub ρ) v->Rel (al C.C (aZ.res ρ ((kR id s.R).map λp=>(p.1,uK id t l p.2)))) w ((nJ id t l 3 d).sub ρ) v:=λh=>
  (CM hd 3 h).mono λb _ hA=>⟨hal b hA,rfl⟩
 refine⟨E.map λp=>(p.1,nJ id t l 3 p.2),λk d hk=> ?_,λp hp=> ?_,λp hp=> ?_,ρ,hag,hsim.defers.step (λb _ hA=>⟨hal b (.inl hA),rfl⟩),hsim.size,λk av hk=> ?_,⟨hg.kept,λrr hrr=> ?_,?_,λb hb=> ?_⟩⟩
 ·have hk':cP (emap (nJ id t l 3) s.E) k=Q d:=hk;rw[vD]at hk';obtain⟨d',h1,rfl⟩:=zu.1 hk';rw[uh,hh k d' h1];rfl
 ·obtain⟨p',h1,rfl⟩:=zN.1 hp;exact pW 3 (hE p' h1)
 ·obtain⟨p',h1,rfl⟩:=zN.1 hp;have h2:=E8 (id:=id) hR p' h1;refine⟨h2.1,?_⟩;obtain⟨q,rr⟩:=p';cases rr with
  |row t' l'=>trivial
  |box T cs=>
   intro c hc;obtain⟨c',h3,rfl⟩:=zN.1 hc;exact pW 3 (h2.2 c' h3)
 ·rw[Env.fo,uh]at hk;obtain⟨d',h1,rfl⟩:=zu.1 hk;obtain⟨d,h2,rfl⟩:=zu.1 h1;obtain⟨v,h3,h4⟩:=hsim.slots k (d.sub ρ) (by rw[Env.fo,h2];rfl);exact⟨v,h3,hrel h4⟩
 ·obtain⟨p,h1,rfl⟩:=zN.1 hrr;obtain⟨p',h2,rfl⟩:=zN.1 h1;have hm:p'.2.res ρ p'.1∈aZ.res ρ s.R:=by
   rw[hi3]at h2;exact zN.2 ⟨p',List.mem_of_mem_eraseIdx h2,rfl⟩
  have h3:=hg.res _ hm;obtain⟨q,rr⟩:=p';cases rr with
  |row t' l'=>exact h3.mono (λb _ hA=>⟨hal b (.inl hA),rfl⟩) (λ_ _=>rfl)
  |box T cs=>
   obtain⟨us,h4,h5⟩:=h3;refine⟨us,h4,by simpa using h5.1,λj av v q1 q2=> ?_⟩;rw[yp,yb]at q1;obtain⟨c,hc,rfl⟩:=zu.1 q1;exact hrel (h5.2 j (c.sub ρ) v (by rw[yb,hc];rfl) q2)
 ·rw[hbk];exact hg.F9.sublist ((wV _ _).filterMap _)
 ·rw[hbk]at hb;exact hg.own b (qR (λr hr=>(wV _ _).subset hr) b hb)
def St.kr(s:St)(ids:aa Nat):St:=match ids with
 |[]=>s
 |i::is=>(s.JO i).kr is
def Mt.kr:∀(ids:aa Nat) {s:St},Mt C n s a w->Mt C n (s.kr ids) a w
 |[],_,h=>h
 |i::is,_,h=>Mt.kr is (h.JO i)
def amA:AV->aa Nat
 | .own id=>[id]
 | .agg cs=>cs.filterMap λc=>match c with
  | .own id=>Q id
  |_=>V
 |_=>[]
def WU(E:ET)(x:Operand):aa Nat:=match Fj E x with
 |some d=>amA d
 |none=>[]
def jf(E:ET):Op->aa Nat
 | .buildSlice _ _ ps=>ps.toList.flatMap λp=>WU E p.2
 | .store T x v=>match L.fz (Nat.add 1000000 T)with
  |true=>WU E v
  |false=>match Fj E x with
   |some (.ra _ _ _ _)=>WU E v
   |_=>[]
 | .slice _ x _ _ V=>WU E x
 | .call c=>match c.callee with
  | .value (.func f)=>match L.fz f with
   |true=>c.args.toList.flatMap (WU E)
   |false=>[]
  |_=>[]
 |_=>[]
def St.gj(s:St)(t:Nat)(b:Bool):St:={s with E:=mj t (.b b) s.E}
def Mt.gj{t:Nat}{b:Bool}(h:Mt C n s a w)(ht:cP s.E t=Q (.lit (.bool b))):Mt C n (s.gj t b) a w:=by
 obtain⟨E,hh,hE,hR,ρ,hag,hsim⟩:=h;refine⟨E,λk d hk=> ?_,hE,hR,ρ,hag,hsim⟩;have hk':cP (mj t (.b b) s.E) k=Q d:=hk;rcases qD hk' with ⟨rfl,rfl⟩|⟨_,h2⟩
 ·exact hh _ _ ht
 ·exact hh k d h2
def gate(ops:Array Oper)(o:Oper)(s:St)(yes no:St->ah α):ah α:=match o.guard with
 |none=>yes s
 |some (j,want)=>match (ops[j]?).bind (·.dst)with
  |none=>V
  |some t=>match cP s.E t with
   |some (.lit (.bool b))=>match b with
    |true=>match want with
     |true=>yes (s.gj t G)
     |false=>no (s.gj t G)
    |false=>match want with
     |true=>no (s.gj t I)
     |false=>yes (s.gj t I)
   |some (.lit (.tuple _))=>no s
   |_=>V
def FP{ops:Array Oper}{j t:Nat}{want:Bool}{ρ:Gh}(hg:o.guard=Q (j,want))(hj:(ops[j]?).bind (·.dst)=Q t){E:Env}:
  (∀b,E.get t=Q (.lit (.bool b))->oY (E.sub ρ) o ops=Q (b==want))/\(∀vs,E.get t=Q (.lit (.tuple vs))->oY (E.sub ρ) o ops=Q I):=by
 constructor
 ·intro b hb;unfold oY;rw[hg];simp only[hj,Env.fo,hb,yx,bT]
 ·intro vs hb;unfold oY;rw[hg];simp only[hj,Env.fo,hb,yx,bT]
def af4{ops:Array Oper}{yes no:St->ah α}(h:gate ops o s yes no=Q r)(hm:Mt C n s a w):∃s',Mt C n s' a w/\
  ((Region.wanted o (yielded ops a.tmps)=G/\yes s'=Q r)\/(Region.wanted o (yielded ops a.tmps)=I/\no s'=Q r)):=by
 unfold gate at h;split at h
 ·rename_i hg;exact⟨s,hm, .inl ⟨by simp[Region.wanted,hg],h⟩⟩
 ·rename_i j want hg;split at h
  ·cases h
  ·rename_i t hj;have hspec:∀{s':St},Mt C n s' a w->(∀b,cP s'.E t=Q (.lit (.bool b))->Region.wanted o (yielded ops a.tmps)=(b==want))/\(∀vs,cP s'.E t=Q (.lit (.tuple vs))->Region.wanted o (yielded ops a.tmps)=I):=λ{s'} hm'=>by
    obtain⟨E,hh,_,_,ρ,_,hsim⟩:=hm';obtain⟨h1,h2⟩:=FP (ρ:=ρ) hg hj (E:=E);exact⟨λb hb=>oY.spec hsim.slots (h1 b (hh _ _ hb)),λvs hv=>oY.spec hsim.slots (h2 vs (hh _ _ hv))⟩
   split at h
   ·rename_i b hb;have hw:=(hspec hm).1 b hb;split at h
    ·split at h
     ·exact⟨_,hm.gj hb, .inl ⟨hw,h⟩⟩
     ·exact⟨_,hm.gj hb, .inr ⟨hw,h⟩⟩
    ·split at h
     ·exact⟨_,hm.gj hb, .inr ⟨hw,h⟩⟩
     ·exact⟨_,hm.gj hb, .inl ⟨hw,h⟩⟩
   ·rename_i vs hb;exact⟨s,hm, .inr ⟨(hspec hm).2 vs hb,h⟩⟩
   ·cases h
def BA(o:Op)(s:St)(f:St->ah α):ah α:=match o with
 | .pick (.tmp t) _ _=>match cP s.E t with
  |some (.lit (.bool b))=>match b with
   |true=>f (s.gj t G)
   |false=>f (s.gj t I)
  |_=>V
 |_=>f s
def Xp{op:Op}{f:St->ah α}(h:BA op s f=Q r)(hm:Mt C n s a w):∃s',Mt C n s' a w/\f s'=Q r:=by
 unfold BA at h;split at h
 ·split at h
  ·rename_i b hb;split at h
   ·exact⟨_,hm.gj hb,h⟩
   ·exact⟨_,hm.gj hb,h⟩
  ·cases h
 ·exact⟨s,hm,h⟩
def rS(dst:ah Nat)(d:AV)(E:ET):ET:=match dst with
 |none=>E
 |some t=>mj t d E
def Il(dst:ah Nat)(E:ET)(R:aZ)(nx:Nat)(ih:St->(St->ah α)->ah α)(k:St->ah α)(e:gu):ah α:=match e with
 | .val d=>ih ⟨rS dst d E,R,nx⟩ k
 | .new d r=>ih ⟨rS dst d E,(nx,r)::R,nx+1⟩ k
 | .set id r=>ih ⟨rS dst (.lit undef) E,tK id r R,nx⟩ k
 | .grow id r=>ih ⟨rS dst (.own nx) E,(nx,r)::kR id R,nx+1⟩ k
 | .all d R' m=>ih ⟨rS dst d E,R',m⟩ k
def aeD(dst:ah Nat)(s:St)(ih:St->(St->ah α)->ah α)(k:St->ah α):Il dst s.E s.R s.nx ih k=λe=>ih (s.app dst e) k:=by
 funext e
 cases e<;>cases dst<;>rfl
def akq(P:Program)(F:bw)(o:Oper)(ih:St->(St->ah α)->ah α)(k:St->ah α)(s:St):ah α:=St.rec (λE R nx=>m5 o.op P F (Fj E) (gz R) R nx (Il o.dst E R nx ih k)) s
def rDo(P:Program)(F:bw)(o:Oper)(ih:St->(St->ah α)->ah α)(k:St->ah α)(s:St):ah α:=akq P F o ih k (s.kr (jf s.E o.op))
abbrev OpK(α:Type):=Program->bw->ah Nat->ET->aZ->Nat->(St->(St->ah α)->ah α)->(St->ah α)->ah α
abbrev StT(α:Type):=Program->bw->(Operand->ah AV)->(Nat->ah IR)->aZ->Nat->(gu->ah α)->ah α
def GD(f:StT α):OpK α:=λP F dst E R nx ih k=>f P F (Fj E) (gz R) R nx (Il dst E R nx ih k)
def stZ(ids:ET->aa Nat)(f:StT α):OpK α:=λP F dst E R nx ih k=>St.rec (λE R nx=>f P F (Fj E) (gz R) R nx (Il dst E R nx ih k)) (St.kr ⟨E,R,nx⟩ (ids E))
def auG(c a b:Operand):OpK α:=match c with
 | .tmp t=>λP F dst E R nx ih k=>match cP E t with
  |some (.lit (.bool v))=>match v with
   |true=>GD (ur (.tmp t) a b) P F dst (mj t (.b G) E) R nx ih k
   |false=>GD (ur (.tmp t) a b) P F dst (mj t (.b I) E) R nx ih k
  |_=>V
 |c=>GD (ur c a b)
def opF(o:Op):OpK α:=match o with
 | .move x=>GD (R6 x)
 | .assign x=>GD (R6 x)
 | .pick c a b=>auG c a b
 | .binOp b T x y _=>GD (ah3 b T x y)
 | .unOp b _ x=>GD (ash b x)
 | .convert T T' x=>GD (ahf T T' x)
 | .nilCheck x=>GD (aiJ x)
 | .fieldAddr T x i=>GD (ahF T x i)
 | .indexAddr T x y=>GD (ah4 T x y)
 | .index T x y=>GD (air T x y)
 | .load T x=>GD (aox T x)
 | .store T x y=>stZ (λE=>jf E (.store T x y)) (aha T x y)
 | .makeFunc f fs cs=>GD (ahc f fs cs)
 | .extract x i=>GD (ahp x i)
 | .build T ps=>GD (ah7 T ps)
 | .buildSlice T n ps=>stZ (λE=>jf E (.buildSlice T n ps)) (aih T n ps)
 | .makeSlice T x y=>GD (asX T x y)
 | .alloc T=>GD (aik T)
 | .box T x=>GD (ag3 T x)
 | .slice T x lo hi mx=>stZ (λE=>jf E (.slice T x lo hi mx)) (Md T x lo hi mx)
 | .call c=>stZ (λE=>jf E (.call c)) (Fg c)
 |_=>GD aqw
def HA(P:Program)(F:bw)(o:Oper)(s:St)(ih:St->(St->ah α)->ah α)(k:St->ah α):opF o.op P F o.dst s.E s.R s.nx ih k=BA o.op s (rDo P F o ih k):=by
 unfold rDo akq BA;cases h:o.op<;>first|rfl|skip
 case pick c a b=>
  cases c<;>rfl
def as7(P:Program)(F:bw)(o:Oper)(ih:St->(St->ah α)->ah α)(k:St->ah α)(s:St):ah α:=St.rec (λE R nx=>opF o.op P F o.dst E R nx ih k) s
def rNo(dst:ah Nat)(ih:St->(St->ah α)->ah α)(k:St->ah α)(s:St):ah α:=match dst with
 |some t=>ih {s with E:=mj t (.lit undef) s.E} k
 |none=>ih s k
def KA(P:Program)(F:bw)(n:Nat)(ops:Array Oper)(o:Oper)(ih:St->(St->ah α)->ah α)(s:St)(k:St->ah α):ah α:=match LB n o.dst with
 |true=>gate ops o s (as7 P F o ih k) (rNo o.dst ih k)
 |false=>V
def fh(P:Program)(F:bw)(n:Nat)(ops:Array Oper)(l:aa Oper):St->(St->ah α)->ah α:=List.rec (λs k=>k s) (λo _ ih=>KA P F n ops o ih) l
def DD(hF:iO P F){ops:Array Oper}{k:St->ah α}:∀(rest:aa Oper) {s:St} {a:Act} {w:World},fh P F n ops rest s k=Q r->Mt C n s a w->
  wpList P ops (λe a' w'=>e= .normal/\a'.defers=a.defers/\∃s',k s'=Q r/\Mt C n s' a' w') rest a w
 |[],s,a,w,h,hm=>⟨rfl,rfl,s,h,hm⟩
 |o::rest,s,a,w,h,hm=>by
  change KA P F n ops o (fh P F n ops rest) s k=Q r at h;unfold KA at h;split at h
  case h_2=>cases h
  rename_i hd;refine wpList_step λK' hK=> ?_;have cont:∀{s':St} {a':Act} {w':World},a'.defers=a.defers->fh P F n ops rest s' k=Q r->Mt C n s' a' w'->K' a' w':=λ{s' a' w'} hda h1 h2=>hK _ _ (by
   have:=DD hF rest h1 h2;rw[hda]at this;exact this)
  obtain⟨s1,hm1,⟨hw,h1⟩|⟨hw,h1⟩⟩:=af4 h hm
  ·rw[bt hw];have h1':opF o.op P F o.dst s1.E s1.R s1.nx (fh P F n ops rest) k=Q r:=h1;rw[HA]at h1';obtain⟨s2,hm2,h2⟩:=Xp h1' hm1;unfold rDo at h2;have e2:∀s:St,akq P F o (fh P F n ops rest) k s=Jz P F (Fj s.E) (gz s.R) s.R s.nx o.op (λe=>fh P F n ops rest (s.app o.dst e) k):=λs=>by
    show m5 o.op P F (Fj s.E) (gz s.R) s.R s.nx (Il o.dst s.E s.R s.nx (fh P F n ops rest) k)=_;rw[Kf,aeD]
   rw[e2]at h2;have hm3:=Mt.kr (jf s2.E o.op) hm2;exact alG (K:=λe=>fh P F n ops rest ((s2.kr (jf s2.E o.op)).app o.dst e) k) (r:=r) hm3 hd (λE hs=>F3 hF hs rfl h2) λa' w' e q1 q2 _ q4=>cont q1 q2 q4
  ·rw[bF (by rw[hw];exact Bool.false_ne_true)];cases hdst:o.dst with
   |none=>
    rw[hdst]at h1;exact cont rfl h1 hm1
   |some t=>
    rw[hdst]at h1 hd;obtain⟨E,hh,hE,hR,ρ,hag,hsim⟩:=hm1;exact cont rfl h1 ⟨(t, .lit undef)::E,hh.put t _,Env.uT hE (.lit _),hR,ρ,hag,by
     have:=hsim.put (av:= .lit undef) (v:=undef) hd (.lit _);show tM C.C n ((t,cn.sub ρ (.lit undef))::E.sub ρ) _ _ _;rw[bT];exact this⟩
end
def InL(P:Program)(c:Code)(zh:Exit->Act->World->Prop)(a:Act)(w:World):Prop:=
 ∀(b:Frame) (k:aa Item) (cs:aa Frame),∃e a' w',zh e a' w'/\Arrives P (lone (b.at a (.inLoop c::k)) cs w) b k cs e a' w'
def FL{P:Program}{c:Code}{zh:Exit->Act->World->Prop}{a:Act}{w:World}(h:c.wp P (Exit.then (InL P c zh) zh) a w)(b:Frame)(k:aa Item)(cs:aa Frame):
  ∃e a' w',zh e a' w'/\Arrives P (lone (b.at a (.code c:: .inLoop c::k)) cs w) b k cs e a' w':=by
 obtain⟨e,a₁,w₁,hq,harr⟩:=h b (.inLoop c::k) cs;cases e with
 |normal=>
  obtain⟨e₂,a₂,w₂,hq₂,harr₂⟩:=hq b k cs;exact⟨e₂,a₂,w₂,hq₂, .of_steps harr harr₂⟩
 |exit id=>exact⟨_,a₁,w₁,hq, .pass (x:= .inLoop c) rfl (λ_ _=> .inl (by simp)) harr⟩
 |goto l=>exact⟨_,a₁,w₁,hq, .pass (x:= .inLoop c) rfl (λ_ _=> .inl (by simp)) harr⟩
 |ret=>exact⟨_,a₁,w₁,hq, .pass (x:= .inLoop c) rfl (λ_ _=> .inl (by simp)) harr⟩
 |panic ch=>exact⟨_,a₁,w₁,hq, .pass (x:= .inLoop c) rfl (λ_ _=> .inl (by simp)) harr⟩
 |outgrown=>exact⟨_,a₁,w₁,hq, .pass (x:= .inLoop c) rfl (λ_ _=> .inl (by simp)) harr⟩
def FV{P:Program}{c:Code}{zh:Exit->Act->World->Prop}{a:Act}{w:World}(h:c.wp P (Exit.then (InL P c zh) zh) a w):(Code.loop c).wp P zh a w:=λb k cs=>
 let ⟨e,a',w',hq,harr⟩:=FL h b k cs
 ⟨e,a',w',hq, .of_steps (.one step_loop) harr⟩
def L4{P:Program}{c:Code}{zh:Exit->Act->World->Prop}{a:Act}{w:World}(h:c.wp P (Exit.then (InL P c zh) zh) a w):InL P c zh a w:=λb k cs=>
 let ⟨e,a',w',hq,harr⟩:=FL h b k cs
 ⟨e,a',w',hq, .of_steps (.one step_inLoop) harr⟩
section
variable {α:Type} {r:α} {P:Program} {F:bw} {C:Cx} {n:Nat}
abbrev gM(α:Type):=Exit->St->ah α
def K8(k:gM α)(ih:St->ah α):gM α:=λe s=>match e with
 | .normal=>ih s
 |e=>k e s
def D5(b:St->gM α->ah α)(k:gM α)(m:Nat):St->ah α:=Nat.rec (λ_=>V) (λ_ ih s=>b s (K8 k ih)) m
def XL(b:Bool)(t:Nat)(s:St)(x y:St->ah α):ah α:=match b with
 |true=>x (s.gj t G)
 |false=>y (s.gj t I)
def oX(c:Operand)(s:St)(x y:St->ah α):ah α:=match c with
 | .tmp t=>match cP s.E t with
  |some (.lit (.bool b))=>XL b t s x y
  |_=>V
 | .const (.bool G)=>x s
 | .const (.bool I)=>y s
 |_=>V
def aa8(y:St->gM α->ah α)(k:gM α):gM α:=λe s=>match e with
 | .normal=>y s k
 |e=>k e s
def th(id:Nat)(k:gM α):gM α:=λe s=>match e with
 | .exit i=>match zj i id with
  |true=>k .normal s
  |false=>k (.exit i) s
 |e=>k e s
def Xv(s:St)(k:gM α):ah α:=k .normal s
def aqz(x y:St->gM α->ah α)(s:St)(k:gM α):ah α:=x s (aa8 y k)
def amm(c:Operand)(x y:St->gM α->ah α)(s:St)(k:gM α):ah α:=oX c s (λs=>x s k) (λs=>y s k)
def acy(id:Nat)(x:St->gM α->ah α)(s:St)(k:gM α):ah α:=x s (th id k)
def Y5(fuel:Nat)(x:St->gM α->ah α)(s:St)(k:gM α):ah α:=D5 x k fuel s
def Vg(i:Nat)(s:St)(k:gM α):ah α:=k (.exit i) s
def aio(s:St)(k:gM α):ah α:=k .ret s
def Fw(_:St)(_:gM α):ah α:=V
def XY(P:Program)(s:St):ResultVar->ah AV
 | .tmp t=>cP s.E t
 | .cell t ty=>match cP s.E t with
  |some (.ptr id 0)=>match gz s.R id with
   |some (.box _ cs)=>match TI P ty with
    |true=>cs[0]?
    |false=>match QU P ty with
     |some m=>match zj cs.length m with
      |true=>Q (.agg cs)
      |false=>V
     |none=>V
   |_=>V
  |_=>V
def Ft(P:Program)(s:St):aa ResultVar->ah (aa AV)
 |[]=>Q []
 |x::xs=>match XY P s x with
  |some d=>(Ft P s xs).map λds=>d::ds
  |none=>V
def dP:aa AV->AV
 |[d]=>d
 |ds=> .jE ds
def oP:Nat->AV->aa Nat
 |_, .own id=>[id]
 |_, .ptr id _=>[id]
 |_, .ra id _ _ _=>[id]
 |n+1, .agg cs=>cs.flatMap (oP n)
 |n+1, .jE cs=>cs.flatMap (oP n)
 |n+1, .fn _ cs=>cs.flatMap (oP n)
 |_,_=>[]
def dJ(i:Nat):aa Nat->Bool
 |[]=>I
 |j::js=>match zj i j with
  |true=>G
  |false=>dJ i js
def awR(R:aZ)(ids:aa Nat):aa Nat:=ids.flatMap λi=>match gz R i with
 |some (.box _ cs)=>cs.flatMap (oP 3)
 |_=>[]
def reach(R:aZ):Nat->aa Nat->aa Nat
 |0,ids=>ids
 |m+1,ids=>ids++reach R m (awR R ids)
def Qe(nx:Nat)(ids:aa Nat)(R:aZ):aZ:=List.rec [] (λp R ih=>Bool.rec (Bool.rec ih (p::ih) (dJ p.1 ids)) (p::R) (zK p.1 nx)) R
def oF(R:aZ)(nx:Nat)(d:AV):aZ:=Qe nx (reach R 3 (oP 3 d)) R
def LX(i:Nat)(l:aa AV):ET->ET:=List.rec (λ_ T=>T) (λd _ ih i T=>ih (i+1) (mj i d T)) l i
end
end Go.Iv
end
noncomputable section
namespace Go.Iv
variable [U:sF]
open Go Go.RowKit
abbrev Fr:Type:=Nat->ah AV
structure Rc where
 dst:Option Nat
 v:AV
 (sl rd wr:List Nat)
 ef:Bool
 Lo:aZ
def hO(rd:aa Nat)(R:aZ):aZ:=R.filter λp=> !dJ p.1 rd
def bX(rd:aa Nat)(R:aZ):aZ:=R.filter λp=>dJ p.1 rd
def Rc.F(c:Rc)(f:Fr):Fr:=λt=>if c.dst=Q t then Q c.v else f t
def Rc.R(c:Rc)(R:aZ):aZ:=match c.ef with
 |true=>c.Lo++hO c.wr R
 |false=>R
def gS:aa Rc->aa Bool->Fr->Fr
 |c::cs,b::bs,f=>gS cs bs (match b with|G=>c.F f|I=>f)
 |_,_,f=>f
def gZ:aa Rc->aa Bool->aZ->aZ
 |c::cs,b::bs,R=>gZ cs bs (match b with|G=>c.R R|I=>R)
 |_,_,R=>R
def gp{i:Nat}:∀{l:aa Nat},dJ i l=G↔i∈l
 |[]=>by simp[dJ]
 |j::js=>by
  unfold dJ;cases h:zj i j with
  |true=>have:=gI h;subst this;simp
  |false=>
   have hne:i≠j:=λe=>by rw[e,Nat.beq_refl]at h;cases h
   simp only[zF,hne,false_or];exact gp
def jt{i:Nat}{l:aa Nat}:dJ i l=I↔i∉l:=by
 cases h:dJ i l with
 |true=>simp[gp.1 h]
 |false=>simp only[true_iff];exact λhm=>by rw[gp.2 hm]at h;cases h
structure CF (c d:Rc):Prop where
 ds:∀t,c.dst=Q t->t∉d.sl/\d.dst≠Q t
 sd:∀t,d.dst=Q t->t∉c.sl
 rc:c.ef=G->(∀i∈c.wr,i∉d.rd)/\(∀p∈c.Lo,p.1∉d.rd)/\∀p∈c.Lo,p.1∉d.wr
 rd:d.ef=G->(∀i∈d.wr,i∉c.rd)/\(∀p∈d.Lo,p.1∉c.rd)/\∀p∈d.Lo,p.1∉c.wr
def CF.symm{c d:Rc}(h:CF c d):CF d c:=⟨λt ht=>⟨h.sd t ht,λe=>(h.ds t e).2 ht⟩,λt ht=>(h.ds t ht).1,h.rd,h.rc⟩
def auZ{c i:Rc}(h:CF c i)(R:aZ):bX i.rd (c.R R)=bX i.rd R:=by
 unfold Rc.R;cases he:c.ef with
 |false=>rfl
 |true=>
  obtain⟨h1,h2,_⟩:=h.rc he;simp only[bX,hO,xJ,wv];have e1:c.Lo.filter (λp=>dJ p.1 i.rd)=[]:=wM.2 λp hp=>by simp[jt.2 (h2 p hp)]
  rw[e1,ym];refine wz λp _=> ?_;cases hm:dJ p.1 i.rd with
  |false=>rfl
  |true=>
   have:dJ p.1 c.wr=I:=jt.2 λhc=>h1 _ hc (gp.1 hm);rw[this];rfl
def axe{c i:Rc}(h:CF c i)(f:Fr){t:Nat}(ht:t∈i.sl):c.F f t=f t:=by
 unfold Rc.F;split
 ·rename_i hd;exact cR ht (h.ds t hd).1
 ·rfl
def ab8{c:Rc}{rd:aa Nat}{R R':aZ}(h:bX rd R=bX rd R'):bX rd (c.R R)=bX rd (c.R R'):=by
 unfold Rc.R;cases c.ef with
 |false=>exact h
 |true=>
  simp only[bX,hO,xJ,wv]at h ⊢
  congr 1
  have e:∀R:aZ,R.filter (λp=>dJ p.1 rd&& !dJ p.1 c.wr)=(R.filter λp=>dJ p.1 rd).filter λp=> !dJ p.1 c.wr:=λR=>by
   rw[wv];exact wz λp _=>Bool.and_comm ..
  rw[e,e,h]
def G9{i:Rc}:∀(cs:aa Rc) (bs bs':aa Bool) (f f':Fr) (R R':aZ),bs.length=cs.length->bs'.length=cs.length->
  (∀(j:Nat) c b b',cs[j]? =Q c->bs[j]? =Q b->bs'[j]? =Q b'->b=b'\/CF c i)->
  (∀t∈i.sl,f t=f' t)->bX i.rd R=bX i.rd R'->(∀t∈i.sl,gS cs bs f t=gS cs bs' f' t)/\bX i.rd (gZ cs bs R)=bX i.rd (gZ cs bs' R')
 |[],_,_,f,f',R,R',_,_,_,h1,h2=>⟨by simpa [gS]using h1,by simpa [gZ]using h2⟩
 |c::cs,[],_,_,_,_,_,hl,_,_,_,_=>by cases hl
 |c::cs,_::_,[],_,_,_,_,_,hl,_,_,_=>by cases hl
 |c::cs,b::bs,b'::bs',f,f',R,R',hl,hl',hb,h1,h2=>by
  have h0:=hb 0 c b b' rfl rfl rfl;have hrec:=λf f' R R'=>G9 (i:=i) cs bs bs' f f' R R' (by simpa using hl) (by simpa using hl') (λj c b b' q1 q2 q3=>hb (j+1) c b b' q1 q2 q3);unfold gS gZ;refine hrec _ _ _ _ ?_ ?_
  ·intro t ht;rcases h0 with rfl|hcf
   ·cases b with
    |false=>exact h1 t ht
    |true=>show c.F f t=c.F f' t;unfold Rc.F;split<;>first|rfl|exact h1 t ht
   ·cases b<;>cases b'<;>simp only[axe hcf _ ht]<;>exact h1 t ht
  ·rcases h0 with rfl|hcf
   ·cases b with
    |false=>exact h2
    |true=>exact ab8 h2
   ·cases b<;>cases b'<;>simp only[auZ hcf]<;>exact h2
def ajf{c d:Rc}(h:CF c d)(f:Fr):c.F (d.F f)=d.F (c.F f):=by
 funext t
 unfold Rc.F;by_cases h1:c.dst=Q t
 ·rw[bt h1,bF (h.ds t h1).2,bt h1]
 ·by_cases h2:d.dst=Q t
  ·rw[bF h1,bt h2,bt h2]
  ·rw[bF h1,bF h2,bF h2,bF h1]
def anf{c:Rc}{R R':aZ}(h:List.Perm R R'):List.Perm (c.R R) (c.R R'):=by
 unfold Rc.R;cases c.ef with
 |false=>exact h
 |true=>exact(h.filter _).append_left _
def alw{c d:Rc}(h:CF c d)(R:aZ):List.Perm (c.R (d.R R)) (d.R (c.R R)):=by
 unfold Rc.R;cases hc:c.ef with
 |false=>cases d.ef<;>exact .refl _
 |true=>
  cases hd:d.ef with
  |false=>exact .refl _
  |true=>
   obtain⟨h1,_,h2⟩:=h.rc hc;obtain⟨h3,_,h4⟩:=h.rd hd;simp only[hO,xJ,wv];have e1:d.Lo.filter (λp=> !dJ p.1 c.wr)=d.Lo:=List.filter_eq_self.2 λp hp=>by simp[jt.2 (h4 p hp)]
   have e2:c.Lo.filter (λp=> !dJ p.1 d.wr)=c.Lo:=List.filter_eq_self.2 λp hp=>by simp[jt.2 (h2 p hp)]
   rw[e1,e2,<-xq,<-xq];refine(List.perm_append_comm).append ?_;rw[show (R.filter λa=> !dJ a.1 c.wr&& !dJ a.1 d.wr)=R.filter λa=> !dJ a.1 d.wr&& !dJ a.1 c.wr from wz λp _=>Bool.and_comm ..]
def late{i:Rc}:∀(cs:aa Rc) (bs:aa Bool) (f:Fr) (R R':aZ),(∀(j:Nat) c,cs[j]? =Q c->bs[j]? =Q G->CF i c)->List.Perm R' (i.R R)->
  i.F (gS cs bs f)=gS cs bs (i.F f)/\List.Perm (i.R (gZ cs bs R)) (gZ cs bs R')
 |[],_,f,R,R',_,hp=>⟨rfl,hp.symm⟩
 |_::_,[],f,R,R',_,hp=>⟨rfl,hp.symm⟩
 |c::cs,b::bs,f,R,R',hb,hp=>by
  unfold gS gZ;cases b with
  |false=>exact late cs bs f R R' (λj c q1 q2=>hb (j+1) c q1 q2) hp
  |true=>
   have hcf:=hb 0 c rfl rfl;have h1:=late cs bs (c.F f) (c.R R) (c.R R') (λj c q1 q2=>hb (j+1) c q1 q2) ((anf hp).trans (alw hcf.symm R));refine⟨?_,h1.2⟩;rw[h1.1,ajf hcf]
def EM:∀(pre:aa Rc) (bp:aa Bool) (cs:aa Rc) (bs:aa Bool) (f:Fr),bp.length=pre.length->gS (pre++cs) (bp++bs) f=gS cs bs (gS pre bp f)
 |[],[],_,_,_,_=>rfl
 |_::_,[],_,_,_,h=>by cases h
 |[],_::_,_,_,_,h=>by cases h
 |c::pre,b::bp,cs,bs,f,h=>by
  show gS (pre++cs) (bp++bs) _=_;rw[EM pre bp cs bs _ (by simpa using h)];rfl
def D3:∀(pre:aa Rc) (bp:aa Bool) (cs:aa Rc) (bs:aa Bool) (R:aZ),bp.length=pre.length->gZ (pre++cs) (bp++bs) R=gZ cs bs (gZ pre bp R)
 |[],[],_,_,_,_=>rfl
 |_::_,[],_,_,_,h=>by cases h
 |[],_::_,_,_,_,h=>by cases h
 |c::pre,b::bp,cs,bs,R,h=>by
  show gZ (pre++cs) (bp++bs) _=_;rw[D3 pre bp cs bs _ (by simpa using h)];rfl
def Wh{cs:aa Rc}{bs:aa Bool}{i:Nat}{c:Rc}(f:Fr)(R:aZ)(hl:bs.length=cs.length)(hc:cs[i]? =Q c)(hb:bs[i]? =Q I)
  (hpre:∀(j:Nat) d,j<i->cs[j]? =Q d->bs[j]? =Q I->CF d c) (hpost:∀(j:Nat) d,i<j->cs[j]? =Q d->bs[j]? =Q G->CF d c):
  (∀t∈c.sl,gS cs bs f t=gS (cs.take i) (zy i G) f t)/\bX c.rd (gZ cs bs R)=bX c.rd (gZ (cs.take i) (zy i G) R)/\
  c.F (gS cs bs f)=gS cs (bs.set i G) f/\List.Perm (c.R (gZ cs bs R)) (gZ cs (bs.set i G) R):=by
 have hi:i<cs.length:=(ya.1 hc).1;have hib:i<bs.length:=by omega
 have ec:cs=cs.take i++c::cs.drop (i+1):=by
  rw[<-(ya.1 hc).2,<-wj hi,xj]
 have eb:bs=bs.take i++I::bs.drop (i+1):=by
  rw[<-(ya.1 hb).2,<-wj hib,xj]
 have lp:(bs.take i).length=(cs.take i).length:=by rw[z6,z6];omega
 have eb2:bs.set i G=bs.take i++G::bs.drop (i+1):=by
  rw[wT,bt hib]
 have hF:gS cs bs f=gS (cs.drop (i+1)) (bs.drop (i+1)) (gS (cs.take i) (bs.take i) f):=by
  conv=>lhs;rw[ec,eb]
  rw[EM _ _ _ _ _ lp];rfl
 have hR:gZ cs bs R=gZ (cs.drop (i+1)) (bs.drop (i+1)) (gZ (cs.take i) (bs.take i) R):=by
  conv=>lhs;rw[ec,eb]
  rw[D3 _ _ _ _ _ lp];rfl
 have hF2:gS cs (bs.set i G) f=gS (cs.drop (i+1)) (bs.drop (i+1)) (c.F (gS (cs.take i) (bs.take i) f)):=by
  rw[eb2]
  conv=>lhs;rw[ec]
  rw[EM _ _ _ _ _ lp];rfl
 have hR2:gZ cs (bs.set i G) R=gZ (cs.drop (i+1)) (bs.drop (i+1)) (c.R (gZ (cs.take i) (bs.take i) R)):=by
  rw[eb2]
  conv=>lhs;rw[ec]
  rw[D3 _ _ _ _ _ lp];rfl
 have hpo:∀(j:Nat) d,(cs.drop (i+1))[j]? =Q d->(bs.drop (i+1))[j]? =Q G->CF d c:=λj d q1 q2=>by
  rw[yA]at q1 q2;exact hpost (i+1+j) d (by omega) q1 q2
 have v2:=G9 (i:=c) (cs.drop (i+1)) (bs.drop (i+1)) (zy (cs.length-(i+1)) I) (gS (cs.take i) (bs.take i) f) (gS (cs.take i) (bs.take i) f) (gZ (cs.take i) (bs.take i) R) (gZ (cs.take i) (bs.take i) R)
  (by rw[yh,yh];omega) (by rw[wo,yh]) (λj d b b' q1 q2 q3=>by
   cases b with
   |true=>exact .inr (hpo j d q1 q2)
   |false=>
    rw[wW]at q3;split at q3
    ·cases q3;exact .inl rfl
    ·cases q3) (λt _=>rfl) rfl
 have none_F:∀(cs:aa Rc) (n:Nat) (f:Fr),gS cs (zy n I) f=f:=λcs=>by
  induction cs with
  |nil=>intro n f;rfl
  |cons d cs ih=>
   intro n f;cases n with
   |zero=>rfl
   |succ n=>rw[yP];exact ih n f
 have none_R:∀(cs:aa Rc) (n:Nat) (R:aZ),gZ cs (zy n I) R=R:=λcs=>by
  induction cs with
  |nil=>intro n f;rfl
  |cons d cs ih=>
   intro n f;cases n with
   |zero=>rfl
   |succ n=>rw[yP];exact ih n f
 have v1:=G9 (i:=c) (cs.take i) (bs.take i) (zy i G) f f R R lp (by rw[wo,z6];omega) (λj d b b' q1 q2 q3=>by
   rw[yF]at q1 q2;rw[wW]at q3;split at q1
   ·rename_i hji;rw[bt hji]at q2 q3;cases q3;cases b with
    |true=>exact .inl rfl
    |false=>exact .inr (hpre j d hji q1 q2)
   ·cases q1) (λt _=>rfl) rfl
 refine⟨λt ht=> ?_,?_,?_,?_⟩
 ·rw[hF,v2.1 t ht,none_F,v1.1 t ht]
 ·rw[hR,v2.2,none_R,v1.2]
 ·rw[hF,hF2];exact(late (i:=c) _ _ _ (gZ (cs.take i) (bs.take i) R) _ (λj d q1 q2=>(hpo j d q1 q2).symm) (.refl _)).1
 ·rw[hR,hR2];exact(late (i:=c) _ _ (gS (cs.take i) (bs.take i) f) _ _ (λj d q1 q2=>(hpo j d q1 q2).symm) (.refl _)).2
end Go.Iv
end
