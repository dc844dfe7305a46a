/- Merged: Iv1, Iv2, Iv3, Iv4, Iv5, Iw1, Iw0, Iv6, Iw2, Iw3, Iv10, Ivc, Iw4, Iw5, Iwn, Iv8, Iw6, Iw7, Iw8. -/
import Derived.OrdersHeld
import Derived.WalkKit
import Derived.KernelRfl
import Derived.Maps.AppendAt
import Derived.WalkLawsBesides
import Derived.Laws.Tables
import Derived.Laws.PanicsMore
import Derived.Great.BuildSlice
import Derived.Laws.MakeOwn
import Derived.Lib.SliceRun
import Derived.RangeFuncLeaves
import Derived.RangeFuncNested
import Derived.Laws.BytesArg
import Derived.Laws.StructEq
import Derived.Lib.AppendZerosOnto
import Derived.RangeFuncBound
import Derived.Shelf.Abstract
import Derived.TacticsIn
import Derived.OwnWalkIn
open Int renaming toNat_natCast → zf, natCast_mul → xq
open Nat renaming beq → zg, blt → zy, lt_succ_self → zB, le_refl → zG, le_trans → zH, add_zero → yd, ble → ye, add_mul → yf, blt_eq → yt, zero_add → yw, le_succ → yx, mul_le_mul_right → yB, succ_mul → yI, eq_of_beq_eq_true → y7, mod_lt → xb, mul_one → xe, lt_of_lt_of_le → xO, add_assoc → xP, le_of_ble_eq_true → xV
open Bool renaming and_eq_true → zj, true → J, false → G
open Option renaming map_eq_some_iff → zk, bind_eq_some_iff → zn, some → zD, bind_assoc → zW, map_some → yo, toList_some → xx, toList → xz, some → I, none → S
open List renaming length_append → zl, mem_cons_self → zm, replicate → zo, getElem?_eq_getElem → zq, all_eq_true → zu, length_map → zA, mem_cons → zF, take_length → zI, mem_singleton → zJ, mem_cons_of_mem → zK, mem_map → zL, range → zO, length_take → zR, mem_append → zU, drop_drop → zV, getElem?_eq_some_iff → zY, map_congr_left → zZ, map_append → z6, map_cons → z7, getElem?_map → ya, nil_append → yg, map_map → yh, length_drop → yj, append_nil → yp, getElem?_drop → yu, getElem?_take → yA, nodup_append → yD, mem_append_left → yE, mem_append_right → yF, replicate_succ → yJ, map_nil → yK, length_set → yP, append_assoc → yQ, eq_nil_of_length_eq_zero → yX, getElem?_append → y8, size_toArray → y9, map_drop → xd, length_range → xk, filterMap_cons → xm, cons_append → xo, take_append_drop → xp, getElem_mem → xy, flatMap_cons → xA, drop_zero → xB, map_take → xC, take_zero → xD, filter_append → xE, drop_eq_getElem_cons → xQ, getElem_of_mem → xR, length_replicate → xS, mem_flatMap → xT, mem_of_mem_drop → xU, filter_filter → xW, filter_congr → xX, getElem?_eq_none → we, length_cons → wg, flatten_cons → wh, set_eq_take_append_cons_drop → wu, eraseIdx_eq_take_drop_succ → wv, mem_of_mem_take → wz, eraseIdx_sublist → wA, getElem?_replicate → wB
open Array renaming length_toList → yl, getElem?_eq_some_iff → x9, getElem?_eq_getElem → wq
open Decidable renaming decide → O
set_option linter.unusedSectionVars false
set_option linter.unusedVariables false
set_option linter.unusedSimpArgs false
set_option linter.defProp false
abbrev Prod.t{α β γ:Type _}(z:α×β×γ):γ:=z.2.2
abbrev Prod.q{α β γ δ ε:Type _}(z:α×β×γ×δ×ε):ε:=z.2.2.2.2
abbrev af(α:Type _):=Option α
abbrev aa(α:Type _):=List α
namespace Go
theorem bT:∀ {p:Prop} [inst:Decidable p],¬p→decide p=G:=@decide_eq_false
theorem bV:∀ {p:Prop} [inst:Decidable p],p→decide p=J:=@decide_eq_true
theorem bz{α:Sort _}(a b:α):cond G a b=b:=rfl
theorem bB{α:Sort _}(a b:α):cond J a b=a:=rfl
theorem bD{c:Prop}{h:Decidable c}(hc:c){α:Sort _}{t e:α}:(ite c t e)=t:=if_pos hc
theorem bL{c:Prop}{h:Decidable c}(hnc:¬c){α:Sort _}{t e:α}:(ite c t e)=e:=if_neg hnc
theorem cR(h:Decidable True):@decide True h=J:=decide_true h
theorem fS(h:Decidable False):@decide False h=G:=decide_false h
theorem cD{α:Sort _}{_:Decidable True}(t e:α):ite True t e=t:=if_true t e
theorem ek{α:Sort _}{_:Decidable False}(t e:α):ite False t e=e:=if_false t e
theorem dG(p:Prop):(p∧p)=p:=and_self p
def dg{a:Prop}{b:Sort _}(h1:a)(h2:¬a):b:=absurd h1 h2
end Go
noncomputable section
namespace Go.Iv
open Go Go.RowKit
inductive cc (dc:Nat->Type):Type
 |lit (v:Value)
 |sl (t:Nat) (l:List (dc t))
 |fp (cs:List (cc dc))
 |rp (v:Value) (k:Nat)
 |agg (cs:List (cc dc))
 |iM (vs:List (cc dc))
 |fn (f:Fn) (caps:List (cc dc))
 |own (id:Nat)
 |ptr (id off:Nat)
 |ra (id t m off:Nat)
class qz where
 dc:Nat->Type
 inh:(t:Nat)->Inhabited (dc t)
 sz:Nat->Nat
 cells:(t:Nat)->dc t->List (cc dc)
instance [U:qz] (t:Nat):Inhabited (U.dc t):=U.inh t
abbrev AV[U:qz]:Type:=cc U.dc
variable [U:qz]
def gh:Value->af Nat
 | .slice (I a) _ (_+1)=>I a.block
 |_=>S
def gE(w:World)(v:Value)(T:TypeId)(sz n:Nat)(us:aa Value):Prop:=
 us.length=n*sz/\((∃p,v= .slice p 0 0/\n=0)\/
  ∃g cap cur,v= .slice (I ⟨g,0,S⟩) n (cap+1)/\w.heap[g]? =I (.cells cur T (0,0))/\n<=cap+1/\cap+1<=maxLen/\cur.size=(cap+1)*sz/\cur.toList.take (n*sz)=us)
def gE.lt{w:World}{v:Value}{T:TypeId}{sz n:Nat}{us:aa Value}(h:gE w v T sz n us){b:Nat}(hb:gh v=I b):b<w.heap.size:=by
 rcases h.2 with ⟨p,rfl,_⟩|⟨g,cap,cur,rfl,hg,_⟩
 ·cases p<;>cases hb
 ·cases hb;exact(x9.1 hg).1
def gE.kept{w w':World}{v:Value}{T:TypeId}{sz n:Nat}{us:aa Value}(h:gE w v T sz n us)(hb:∀b,gh v=I b->w'.heap[b]? =w.heap[b]?):gE w' v T sz n us:=by
 refine⟨h.1,?_⟩;rcases h.2 with h1|⟨g,cap,cur,rfl,q1,q2⟩
 ·exact .inl h1
 ·exact .inr ⟨g,cap,cur,rfl,(hb g rfl).trans q1,q2⟩
inductive Rel (A:Nat->Prop) (w:World):AV->Value->Prop
 |lit (v:Value):Rel A w (.lit v) v
 |sl (t:Nat) (l:List (U.dc t)) (p:Option Addr) (cap:Nat) (u:Nat->Nat->Value)
   (hl:l.length<=9223372036854775807) (hcap:l.length<=cap) (hz:∀i,i<l.length->(U.cells t l[i]!).length=U.sz t)
   (hc:∀i,i<l.length->∃b off,p=I ⟨b,off,S⟩/\b<w.heap.size/\A b/\∀j,j<U.sz t->w.cell? ⟨b,off+i*U.sz t+j,S⟩=I (u i j))
   (hr:∀i j a,i<l.length->(U.cells t l[i]!)[j]? =I a->Rel A w a (u i j)):Rel A w (.sl t l) (.slice p l.length cap)
 |fp (cs:List AV) (b o:Nat) (us:List Value) (hb:b<w.heap.size) (hA:A b) (hl:us.length=cs.length)
   (hc:∀j v,us[j]? =I v->w.cell? ⟨b,o+j,S⟩=I v) (hr:∀(j:Nat) a v,cs[j]? =I a->us[j]? =I v->Rel A w a v):Rel A w (.fp cs) (.pointer (I ⟨b,o,S⟩))
 |rp (v:Value) (k g:Nat) (h:gh v=I g):Rel A w (.rp v k) (.pointer (I ⟨g,k,S⟩))
 |agg (cs:List AV) (us:List Value) (hl:us.length=cs.length) (hr:∀(j:Nat) a v,cs[j]? =I a->us[j]? =I v->Rel A w a v):Rel A w (.agg cs) (.agg us.toArray)
 |iM (cs:List AV) (us:List Value) (hl:us.length=cs.length) (hr:∀(j:Nat) a v,cs[j]? =I a->us[j]? =I v->Rel A w a v):Rel A w (.iM cs) (.tuple us.toArray)
 |fn (f:Fn) (cs:List AV) (us:List Value) (hl:us.length=cs.length) (hr:∀(j:Nat) a v,cs[j]? =I a->us[j]? =I v->Rel A w a v):Rel A w (.fn f cs) (.func f #[] us.toArray)
def Rel.mono{A A':Nat->Prop}{w w':World}{a:AV}{v:Value}(h:Rel A w a v)(hk:∀b,b<w.heap.size->A b->A' b/\w'.heap[b]? =w.heap[b]?):Rel A' w' a v:=by
 have hsz:∀b,b<w.heap.size->A b->b<w'.heap.size:=λb hb hA=>by
  have h1:=(hk b hb hA).2;rw[wq hb]at h1;exact(x9.1 h1).1
 have hcell:∀b o,b<w.heap.size->A b->w'.cell? ⟨b,o,S⟩=w.cell? ⟨b,o,S⟩:=λb o hb hA=>by
  simp[World.cell?,(hk b hb hA).2]
 induction h with
 |lit v=>exact .lit v
 |sl t l p cap u hl hcap hz hc hr ih=>
  refine .sl t l p cap u hl hcap hz (λi hi=> ?_) ih;obtain⟨b,off,h1,h2,h3,h4⟩:=hc i hi;exact⟨b,off,h1,hsz b h2 h3,(hk b h2 h3).1,λj hj=>by rw[hcell b _ h2 h3];exact h4 j hj⟩
 |fp cs b o us hb hA hl hc hr ih=>exact .fp cs b o us (hsz b hb hA) (hk b hb hA).1 hl (λj v hj=>by rw[hcell b _ hb hA];exact hc j v hj) ih
 |rp v k g h=>exact .rp v k g h
 |agg cs us hl hr ih=>exact .agg cs us hl ih
 |iM cs us hl hr ih=>exact .iM cs us hl ih
 |fn f cs us hl hr ih=>exact .fn f cs us hl ih
def bJ(A:Nat->Prop)(w:World)(as0:aa AV)(us:aa Value):Prop:=us.length=as0.length/\∀(j:Nat) a v,as0[j]? =I a->us[j]? =I v->Rel A w a v
def bJ.mono{A A':Nat->Prop}{w w':World}{as0:aa AV}{us:aa Value}(h:bJ A w as0 us)(hk:∀b,b<w.heap.size->A b->A' b/\w'.heap[b]? =w.heap[b]?):bJ A' w' as0 us:=⟨h.1,λj a v h1 h2=>(h.2 j a v h1 h2).mono hk⟩
def Rel.cH{A:Nat->Prop}{w:World}{u v:Value}(h:Rel A w (.lit u) v):v=u:=by
 generalize ha:cc.lit u=a at h;cases h with
 |lit v=>cases ha;rfl
 |_=>cases ha
def Blk(w:World)(b:Nat)(cs:Array Value)(T:TypeId):Prop:=w.heap[b]? =I (.cells cs T (0,0))
def Blk.lt{w:World}{b:Nat}{cs:Array Value}{T:TypeId}(h:Blk w b cs T):b<w.heap.size:=(x9.1 h).1
def Blk.cell{w:World}{b:Nat}{cs:Array Value}{T:TypeId}(h:Blk w b cs T){i:Nat}{v:Value}(hv:cs[i]? =I v):w.cell? ⟨b,i,S⟩=I v:=by
 unfold Blk at h;simp[World.cell?,h,hv]
inductive cG:Type
 |box (b:Nat) (T:TypeId) (cs:List AV)
 |row (v:Value) (t:Nat) (l:List (U.dc t))
def cG.blk:cG->af Nat
 | .box b _ _=>I b
 | .row v _ _=>gh v
def cG.ok(A:Nat->Prop)(w:World):cG->Prop
 | .box b T cs=>∃us:aa Value,Blk w b us.toArray T/\bJ A w cs us
 | .row v t l=>∃us:aa Value,gE w v t (U.sz t) l.length us/\(∀i,i<l.length->(U.cells t l[i]!).length=U.sz t)/\∀i,i<l.length->bJ A w (U.cells t l[i]!) ((us.drop (i*U.sz t)).take (U.sz t))
def bF(σ:aa cG):aa Nat:=σ.filterMap cG.blk
def bS{σ:aa cG}{b:Nat}:b∈bF σ↔∃r∈σ,r.blk=I b:=by simp[bF]
def cG.ok.lt{A:Nat->Prop}{w:World}{r:cG}(h:r.ok A w){b:Nat}(hb:r.blk=I b):b<w.heap.size:=by
 cases r with
 |box b' T cs=>obtain⟨us,h1,_⟩:=h;cases hb;exact h1.lt
 |row v t l=>obtain⟨us,h1,_⟩:=h;exact h1.lt hb
def cG.ok.mono{A A':Nat->Prop}{w w':World}{r:cG}(h:r.ok A w)(hk:∀b,b<w.heap.size->A b->A' b/\w'.heap[b]? =w.heap[b]?)(hb:∀b,r.blk=I b->w'.heap[b]? =w.heap[b]?):r.ok A' w':=by
 cases r with
 |box b T cs=>
  obtain⟨us,h1,h2⟩:=h;exact⟨us,(hb b rfl).trans h1,h2.mono hk⟩
 |row v t l=>
  obtain⟨us,h1,h2,h3⟩:=h;exact⟨us,h1.kept hb,h2,λi h4=>(h3 i h4).mono hk⟩
structure Kp (X:List Nat) (w w':World):Prop where
 os:w'.os=w.os
 tape:w'.tape=w.tape
 output:w'.output=w.output
 size:w.heap.size<=w'.heap.size
 block:∀k,k<w.heap.size->k∉X->w'.heap[k]? =w.heap[k]?
def Kp.refl(X:aa Nat)(w:World):Kp X w w:=⟨rfl,rfl,rfl,zG _,λ_ _ _=>rfl⟩
def Kp.trans{X Y:aa Nat}{w w1 w2:World}(h:Kp X w w1)(h':Kp Y w1 w2)(hY:∀b,b∈Y->b<w.heap.size->b∈X):Kp X w w2:=
 ⟨h'.os.trans h.os,h'.tape.trans h.tape,h'.output.trans h.output,zH h.size h'.size,λk hk hX=>
  (h'.block k (xO hk h.size) (λhy=>hX (hY k hy hk))).trans (h.block k hk hX)⟩
def Kp.drew(w:World):Kp [] w w.drew:=⟨rfl,rfl,rfl,zG _,λ_ _ _=>rfl⟩
def Kp.below{w w':World}(h:Kp [] w w'):Below w.heap.size w w':=⟨h.os,h.tape,h.output,h.size,λk hk=>h.block k hk (by simp)⟩
structure Cx where
 w0:World
 A0:Nat->Prop
 O0:List Nat
def al(C:Cx)(σ:aa cG)(b:Nat):Prop:=(C.A0 b\/b∈C.O0\/C.w0.heap.size<=b)/\b∉bF σ
structure Good (C:Cx) (σ:List cG) (w:World):Prop where
 kept:Kp C.O0 C.w0 w
 res:∀r∈σ,r.ok (al C σ) w
 DS:(bF σ).Nodup
 own:∀b∈bF σ,b∈C.O0\/C.w0.heap.size<=b
structure Tr (C:Cx) (X:List Nat) (σ:List cG) (w:World) (σ':List cG) (w':World):Prop where
 good:Good C σ' w'
 kp:Kp X w w'
 al:∀b,b<w.heap.size->al C σ b->al C σ' b/\b∉X
def Tr.keep{C:Cx}{X:aa Nat}{σ σ':aa cG}{w w':World}(t:Tr C X σ w σ' w'):∀b,b<w.heap.size->Iv.al C σ b->Iv.al C σ' b/\w'.heap[b]? =w.heap[b]? :=
 λb hb h=>⟨(t.al b hb h).1,t.kp.block b hb (t.al b hb h).2⟩
abbrev Env:=aa (Nat×AV)
def Env.get:Env->Nat->af AV
 |[],_=>S
 |(k,v)::E,t=>match zg k t with
  |true=>I v
  |false=>Env.get E t
def Env.ev(E:Env):Operand->af AV
 | .tmp t=>Env.get E t
 | .const v=>I (.lit v)
 | .global g=>I (.lit (.pointer (I ⟨g,0,S⟩)))
 | .func f=>I (.fn (.func f) [])
def Env.eE(E:Env)(d:Nat)(v:AV):Env.get ((d,v)::E) d=I v:=by
 have h:zg d d=J:=Nat.beq_refl d;simp only[Env.get,h]
def Env.dy(E:Env){d t:Nat}(v:AV)(h:d≠t):Env.get ((d,v)::E) t=Env.get E t:=by
 have h':zg d t=G:=by
  cases hb:zg d t with
  |false=>rfl
  |true=>exact dg (y7 hb) h
 simp only[Env.get,h']
def j7(A:Nat->Prop)(w:World)(E:Env)(tmps:Array Value):Prop:=∀t av,Env.get E t=I av->∃v,tmps[t]? =I v/\Rel A w av v
def Dq(C:Cx)(σ:aa cG)(a:Act)(w:World):Prop:=∃Ds:aa Nat,a.defers=Ds.map (λD=>{target:= .collected D,args:=#[]})/\Ds.Nodup/\
 ∀D∈Ds,D<w.heap.size/\C.w0.heap.size<=D/\D∉bF σ/\w.heap[D]? =I (.deferred (I []))
def Dq.nil{C:Cx}{σ:aa cG}{a:Act}{w:World}(h:a.defers=[]):Dq C σ a w:=⟨[],h,List.nodup_nil,λ_ h=>by cases h⟩
def Dq.step{C:Cx}{σ σ':aa cG}{a:Act}{w w':World}(h:Dq C σ a w)(hk:∀b,b<w.heap.size->al C σ b->al C σ' b/\w'.heap[b]? =w.heap[b]?):Dq C σ' a w':=by
 obtain⟨Ds,h1,h2,h3⟩:=h;refine⟨Ds,h1,h2,λD hD=> ?_⟩;obtain⟨q1,q2,q3,q4⟩:=h3 D hD;obtain⟨p1,p2⟩:=hk D q1 ⟨.inr (.inr q2),q3⟩;have p3:=p2.trans q4;exact⟨(x9.1 p3).1,q2,p1.2,p3⟩
structure rU (C:Cx) (n:Nat) (E:Env) (σ:List cG) (a:Act) (w:World):Prop where
 defers:Dq C σ a w
 size:a.tmps.size=n
 slots:j7 (al C σ) w E a.tmps
 good:Good C σ w
def K9(A:Nat->Prop)(w:World)(E:Env)(ρ:Operand->Value):Prop:=∀x u,E.ev x=I u->Rel A w u (ρ x)
section
variable {C:Cx} {n:Nat} {E E':Env} {σ σ':aa cG} {a:Act} {w w':World} {x:Operand} {v:Value} {av:AV} {d:Nat} {A:Nat->Prop}
def j7.ops(h:j7 A w E a.tmps):K9 A w E a.eval:=λx u hx=>by
 cases x with
 |tmp t=>
  obtain⟨v,h1,h2⟩:=h t u hx;simpa [Act.eval,h1]using h2
 |const u=>
  simp only[Env.ev,zD.injEq]at hx;subst hx;exact .lit _
 |global g=>
  simp only[Env.ev,zD.injEq]at hx;subst hx;exact .lit _
 |func f=>
  simp only[Env.ev,zD.injEq]at hx;subst hx;exact .fn _ [] [] rfl (λj a v h=>by cases h)
def j7.put(h:j7 A w E a.tmps)(hd:d<a.tmps.size)(hv:Rel A w av v):j7 A w ((d,av)::E) (a.put (I d) v).tmps:=λt u ht=>by
 by_cases hdt:d=t
 ·subst hdt;rw[Env.eE]at ht;cases ht;exact⟨v,by simp[Act.put,hd],hv⟩
 ·rw[Env.dy _ _ hdt]at ht;obtain⟨v',h1,h2⟩:=h t u ht;exact⟨v',by simp[Act.put,Array.getElem?_setIfInBounds_ne hdt,h1],h2⟩
def rU.put(h:rU C n E σ a w)(hd:zy d n=J)(hv:Rel (al C σ) w av v):rU C n ((d,av)::E) σ (a.put (I d) v) w:=
 ⟨h.defers,by simpa [Act.put]using h.size,h.slots.put (by rw[h.size];simpa [yt]using hd) hv,h.good⟩
def rU.tr{X:aa Nat}(h:rU C n E σ a w)(t:Tr C X σ w σ' w'):rU C n E σ' a w':=
 ⟨h.defers.step t.keep,h.size,λi u hi=>let ⟨v,h1,h2⟩:=h.slots i u hi;⟨v,h1,h2.mono t.keep⟩,t.good⟩
end
def Hd(A:Nat->Prop)(σ:aa cG)(w:World):Prop:=(∀r∈σ,r.ok A w)/\∀b∈bF σ,¬A b
def Good.hd{C:Cx}{σ:aa cG}{w:World}(h:Good C σ w):Hd (al C σ) σ w:=⟨h.res,λ_ hb hA=>hA.2 hb⟩
section
variable (P:Program) (E:Env) (σ:aa cG) (o:Oper)
def Yp(av:AV):Prop:=∀(A:Nat->Prop) (w:World) (ρ:Operand->Value),Hd A σ w->K9 A w E ρ->
 ∃v,Rel A w av v/\∀w':World,(∀b,b<w.heap.size->(A b\/b∈bF σ)->w'.heap[b]? =w.heap[b]?)->(execOp ρ o).run P w'= .ok (.value v) w'
def Yv(C:Cx)(X:aa Nat)(N:AV->aa cG->Prop):Prop:=∀(w:World) (ρ:Operand->Value),Good C σ w->K9 (al C σ) w E ρ->
 ∃v w' av σ',N av σ'/\Tr C X σ w σ' w'/\(execOp ρ o).run P w= .ok (.value v) w'/\Rel (al C σ') w' av v
def Yu(C:Cx)(X:aa Nat)(σ':aa cG):Prop:=∀(w:World) (ρ:Operand->Value),Good C σ w->K9 (al C σ) w E ρ->
 ∃w',Tr C X σ w σ' w'/\(execOp ρ o).run P w= .ok .skip w'
def Yc(C:Cx)(X:aa Nat)(N:AV->aa cG->Prop):Prop:=∀(w:World) (ρ:Operand->Value),Good C σ w->K9 (al C σ) w E ρ->
 ∃f args,(execOp ρ o).run P w= .ok (.enter f args) w/\Calls P f args w λe w'=>∃v av σ',e= .returned v/\N av σ'/\Tr C X σ w σ' w'/\Rel (al C σ') w' av v
def nM(ops:Array Oper):af Bool:=
 match o.guard with
 |none=>I J
 |some (j,want)=>match (ops[j]?).bind (·.dst)with
  |none=>S
  |some t=>match Env.get E t with
   |some (.lit (.bool b))=>I (b==want)
   |some (.lit (.tuple _))=>I G
   |_=>S
end
def nM.spec{A:Nat->Prop}{w:World}{E:Env}{o:Oper}{ops:Array Oper}{tmps:Array Value}{b:Bool}(h:j7 A w E tmps)(hw:nM E o ops=I b):Region.wanted o (yielded ops tmps)=b:=by
 unfold nM at hw;unfold Region.wanted;cases hg:o.guard with
 |none=>rw[hg]at hw;simpa using hw
 |some gw=>
  obtain⟨j,want⟩:=gw;rw[hg]at hw;simp only at hw ⊢;cases ht:(ops[j]?).bind (·.dst)with
  |none=>rw[ht]at hw;cases hw
  |some t=>
   rw[ht]at hw;simp only at hw;cases he:Env.get E t with
   |none=>rw[he]at hw;cases hw
   |some u=>
    obtain⟨v,hv,hr⟩:=h t u he;rw[he]at hw;have hy:yielded ops tmps j=match v with| .bool b=>I b|_=>S:=by
     unfold yielded;rw[ht];simp only[Option.bind_some,hv];cases v<;>rfl
    cases u with
    |lit u=>
     have hvu:=hr.cH;subst hvu;cases v<;>simp only at hw hy<;>first|(cases hw;done)|skip
     ·rw[hy];simpa using hw
     ·rw[hy];simp at hw;simp[<-hw]
    |_=>cases hw
def Q1(C:Cx)(n:Nat)(K:Env->aa cG->Prop)(ds:aa Deferred):Exit->Act->World->Prop:=λe a w=>e= .normal/\a.defers=ds/\∃E σ,rU C n E σ a w/\K E σ
section
variable {P:Program} {C:Cx} {n:Nat} {ops:Array Oper} {K:Env->aa cG->Prop} {rest:aa Oper} {E E':Env} {σ σ':aa cG} {o:Oper} {av:AV} {d:Nat} {X:aa Nat} {N:AV->aa cG->Prop}
end
structure Bs (X:List Nat) (A1:Nat->Prop) (w1:World) (σS:List cG):Prop where
 hd:Hd A1 σS w1
 nA:∀b,A1 b->b∉X
 nS:∀b∈bF σS,b∉X
section
variable {P:Program} {C:Cx} {n:Nat} {ops:Array Oper} {X X':aa Nat} {A1:Nat->Prop} {w1:World} {σS:aa cG} {K:Env->aa cG->Prop} {fuel:Nat} {listed:Array Bool} {i:Nat} {Eb E:Env} {σ σ':aa cG} {o:Oper} {av:AV} {d:Nat} {N:AV->aa cG->Prop}
end
def CW(P:Program)(C:Cx)(n:Nat)(c:Code)(Q:Exit->Env->aa cG->Prop)(E:Env)(σ:aa cG):Prop:=
 ∀a w,rU C n E σ a w->c.wp P (λe a' w'=>∃E' σ',rU C n E' σ' a' w'/\Q e E' σ') a w
section
variable {P:Program} {C:Cx} {n:Nat} {c x y:Code} {Q Q':Exit->Env->aa cG->Prop} {E E':Env} {σ σ':aa cG}
def Ql{a:Act}{w:World}{X7:Operand}{b:Bool}(ha:rU C n E σ a w)(hc:E.ev X7=I (.lit (.bool b))):a.eval X7= .bool b:=by
 exact(ha.slots.ops _ _ hc).cH
def Good.drew{w:World}(h:Good C σ w):Good C σ w.drew:=
 ⟨h.kept.trans (Kp.drew w) (by simp),λr hr=>(h.res r hr).mono (λb _ hA=>⟨hA,rfl⟩) (λ_ _=>rfl),h.DS,h.own⟩
def rU.drew{a:Act}{w:World}(h:rU C n E σ a w):rU C n E σ a w.drew:=
 ⟨h.defers,h.size,λi u hi=>let ⟨v,h1,h2⟩:=h.slots i u hi;⟨v,h1,h2.mono λ_ _ hA=>⟨hA,rfl⟩⟩,h.good.drew⟩
def oz{σ σ':aa cG}(h:∀r∈σ',r∈σ):∀b∈bF σ',b∈bF σ:=λb hb=>by
 obtain⟨r,h1,h2⟩:=bS.1 hb;exact bS.2 ⟨r,h r h1,h2⟩
def rU.less{a:Act}{w:World}(h:rU C n E σ a w)(hs:List.Sublist σ' σ):rU C n E σ' a w:=by
 have hm:∀r∈σ',r∈σ:=λr hr=>hs.subset hr;have hal:∀b,al C σ b->al C σ' b:=λb hb=>⟨hb.1,λhx=>hb.2 (oz hm b hx)⟩;exact⟨h.defers.step (λb _ hA=>⟨hal b hA,rfl⟩),h.size,λi u hi=>let ⟨v,h1,h2⟩:=h.slots i u hi;⟨v,h1,h2.mono λb _ hA=>⟨hal b hA,rfl⟩⟩,
  ⟨h.good.kept,λr hr=>(h.good.res r (hm r hr)).mono (λb _ hA=>⟨hal b hA,rfl⟩) (λ_ _=>rfl),h.good.DS.sublist (hs.filterMap _),λb hb=>h.good.own b (oz hm b hb)⟩⟩
def rU.perm{a:Act}{w:World}(h:rU C n E σ a w)(hp:List.Perm σ σ'):rU C n E σ' a w:=by
 have hb:∀b,b∈bF σ'↔b∈bF σ:=λb=>(hp.filterMap _).symm.mem_iff;have hal:∀b,al C σ b->al C σ' b:=λb hA=>⟨hA.1,λhx=>hA.2 ((hb b).1 hx)⟩;exact⟨h.defers.step (λb _ hA=>⟨hal b hA,rfl⟩),h.size,λi u hi=>let ⟨v,h1,h2⟩:=h.slots i u hi;⟨v,h1,h2.mono λb _ hA=>⟨hal b hA,rfl⟩⟩,
  ⟨h.good.kept,λr hr=>(h.good.res r (hp.mem_iff.2 hr)).mono (λb _ hA=>⟨hal b hA,rfl⟩) (λ_ _=>rfl),(hp.filterMap _).nodup_iff.1 h.good.DS,λb hx=>h.good.own b ((hb b).1 hx)⟩⟩
end
end Go.Iv
end
noncomputable section
namespace Go.Iv
variable [U:qz]
open Go Go.RowKit
def rG(k:IntKind)(x y:Int):Int:=k.wrap ((BitVec.ofInt k.bits x&&&BitVec.ofInt k.bits y).toNat)
def X9(k:IntKind)(x y:Int):Int:=k.wrap ((BitVec.ofInt k.bits x|||BitVec.ofInt k.bits y).toNat)
def akc(k:IntKind)(x y:Int):Int:=k.wrap ((BitVec.ofInt k.bits x^^^BitVec.ofInt k.bits y).toNat)
def akZ(k:IntKind)(x y:Int):Int:=k.wrap ((BitVec.ofInt k.bits x&&& ~~~ BitVec.ofInt k.bits y).toNat)
def lu(k:IntKind)(x y:Int):Int:=k.wrap (x*2^(min y.toNat k.bits))
def cP(k:IntKind)(x y:Int):Int:=x.fdiv (2^(min y.toNat k.bits))
abbrev cc.i{dc:Nat->Type}(n:Int):cc dc:= .lit (.int .i64 n)
abbrev cc.n{dc:Nat->Type}(k:IntKind)(n:Int):cc dc:= .lit (.int k n)
abbrev cc.b{dc:Nat->Type}(b:Bool):cc dc:= .lit (.bool b)
abbrev cc.s{dc:Nat->Type}(s:ByteArray):cc dc:= .lit (.string s)
section
variable {A:Nat->Prop} {w:World} {as0 bs:aa AV} {us vs:aa Value} {a:AV} {v:Value}
def bJ.nil:bJ A w [] []:=⟨rfl,λj a v h=>by cases h⟩
def bJ.cons(h:Rel A w a v)(hs:bJ A w as0 us):bJ A w (a::as0) (v::us):=by
 refine⟨by simp[hs.1],λj x y h1 h2=> ?_⟩;cases j with
 |zero=>simp at h1 h2;subst h1 h2;exact h
 |succ j=>exact hs.2 j x y (by simpa using h1) (by simpa using h2)
def bJ.head(h:bJ A w (a::as0) us):∃v us',us=v::us'/\Rel A w a v/\bJ A w as0 us':=by
 match us,h with
 |[],h=>exact dg h.1 (by simp)
 |v::us',h=>exact⟨v,us',rfl,h.2 0 a v rfl rfl,by simpa using h.1,λj x y h1 h2=>h.2 (j+1) x y (by simpa using h1) (by simpa using h2)⟩
def bJ.app(h:bJ A w as0 us)(h':bJ A w bs vs):bJ A w (as0++bs) (us++vs):=by
 refine⟨by simp[h.1,h'.1],λj x y h1 h2=> ?_⟩;rw[y8]at h1 h2;rw[h.1]at h2;split at h1
 ·rw[bD (by assumption)]at h2;exact h.2 j x y h1 h2
 ·rw[bL (by assumption)]at h2;exact h'.2 _ x y h1 h2
def bJ.take(n:Nat)(h:bJ A w as0 us):bJ A w (as0.take n) (us.take n):=by
 refine⟨by simp[h.1],λj x y h1 h2=> ?_⟩;rw[yA]at h1 h2;split at h1
 ·rw[bD (by assumption)]at h2;exact h.2 j x y h1 h2
 ·cases h1
def bJ.drop(n:Nat)(h:bJ A w as0 us):bJ A w (as0.drop n) (us.drop n):=by
 refine⟨by simp[h.1],λj x y h1 h2=> ?_⟩;rw[yu]at h1 h2;exact h.2 _ x y h1 h2
def bJ.get(h:bJ A w as0 us){j:Nat}(hj:as0[j]? =I a):∃v,us[j]? =I v/\Rel A w a v:=by
 have hlt:j<us.length:=by rw[h.1];exact(zY.1 hj).1
 exact⟨us[j],zq hlt,h.2 j a _ hj (zq hlt)⟩
def bJ.lits(us:aa Value):bJ A w (us.map .lit) us:=⟨by simp,λj a v h1 h2=>by
 rw[ya,h2]at h1;cases h1;exact .lit v⟩
def Rel.nE{cs:aa AV}(h:bJ A w cs us):Rel A w (.agg cs) (.agg us.toArray):= .agg cs us h.1 h.2
def Rel.Dz{cs:aa AV}(h:bJ A w cs us):Rel A w (.iM cs) (.tuple us.toArray):= .iM cs us h.1 h.2
end
section
variable {A:Nat->Prop} {w:World} {v:Value} {cs:aa AV}
def Rel.mV(h:Rel A w (.agg cs) v):∃us:aa Value,v= .agg us.toArray/\bJ A w cs us:=by
 generalize ha:cc.agg cs=a at h;cases h with
 |agg cs us hl hr=>cases ha;exact⟨us,rfl,hl,hr⟩
 |_=>cases ha
def Rel.Lv(h:Rel A w (.iM cs) v):∃us:aa Value,v= .tuple us.toArray/\bJ A w cs us:=by
 generalize ha:cc.iM cs=a at h;cases h with
 |iM cs us hl hr=>cases ha;exact⟨us,rfl,hl,hr⟩
 |_=>cases ha
def Rel.Ux{f:Fn}(h:Rel A w (.fn f cs) v):∃us:aa Value,v= .func f #[] us.toArray/\bJ A w cs us:=by
 generalize ha:cc.fn f cs=a at h;cases h with
 |fn f cs us hl hr=>cases ha;exact⟨us,rfl,hl,hr⟩
 |_=>cases ha
def Rel.By(h:Rel A w (.fp cs) v):∃b o us,v= .pointer (I ⟨b,o,S⟩)/\b<w.heap.size/\A b/\(∀(j:Nat) u,us[j]? =I u->w.cell? ⟨b,o+j,S⟩=I u)/\bJ A w cs us:=by
 generalize ha:cc.fp cs=a at h;cases h with
 |fp cs b o us hb hA hl hc hr=>cases ha;exact⟨b,o,us,rfl,hb,hA,hc,hl,hr⟩
 |_=>cases ha
def Rel.DQ{u:Value}{k:Nat}(h:Rel A w (.rp u k) v):∃g,gh u=I g/\v= .pointer (I ⟨g,k,S⟩):=by
 generalize ha:cc.rp u k=a at h;cases h with
 |rp u k g h=>cases ha;exact⟨g,h,rfl⟩
 |_=>cases ha
def Rel.sR{q:Nat}{l:aa (U.dc q)}(h:Rel A w (.sl q l) v):∃p cap,∃u:Nat->Nat->Value,v= .slice p l.length cap/\l.length<=9223372036854775807/\l.length<=cap/\(∀i,i<l.length->(U.cells q l[i]!).length=(U.sz q))/\
  (∀i,i<l.length->∃b off,p=I ⟨b,off,S⟩/\b<w.heap.size/\A b/\∀j,j<(U.sz q)->w.cell? ⟨b,off+i*(U.sz q)+j,S⟩=I (u i j))/\∀i j a,i<l.length->(U.cells q l[i]!)[j]? =I a->Rel A w a (u i j):=by
 generalize ha:cc.sl q l=a at h;cases h with
 |sl q l p cap u hl hcap hz hc hr=>
  cases ha;exact⟨p,cap,u,rfl,hl,hcap,hz,hc,hr⟩
 |_=>cases ha
def Rel.awG{q:Nat}{l:aa (U.dc q)}{p:af Addr}{n cap:Nat}(h:Rel A w (.sl q l) (.slice p n cap)){i:Nat}(hi:i<l.length):
  ∃b off us,p=I ⟨b,off,S⟩/\b<w.heap.size/\A b/\us.length=(U.sz q)/\(∀(j:Nat) u,us[j]? =I u->w.cell? ⟨b,off+i*(U.sz q)+j,S⟩=I u)/\bJ A w (U.cells q l[i]!) us:=by
 obtain⟨p',cap',u,hv,_,_,h1,h2,h3⟩:=h.sR;cases hv;obtain⟨b,off,hp,hb,hA,hc⟩:=h2 i hi;refine⟨b,off,(zO (U.sz q)).map (u i),hp,hb,hA,by simp,λj v hj=> ?_,by rw[zA,xk,h1 i hi],λj a v ha hv=> ?_⟩
 ·rw[ya]at hj;by_cases hlt:j<(U.sz q)
  ·rw[List.getElem?_range hlt]at hj;cases hj;exact hc j hlt
  ·rw[we (by simpa using hlt)]at hj;cases hj
 ·have hlt:j<(U.sz q):=by rw[<-h1 i hi];exact(zY.1 ha).1
  rw[ya,List.getElem?_range hlt]at hv;cases hv;exact h3 i j a hi ha
end
def gE.len{w:World}{v:Value}{T:TypeId}{sz n:Nat}{us:aa Value}(h:gE w v T sz n us):∃p cap,v= .slice p n cap/\n<=cap:=by
 rcases h.2 with ⟨p,rfl,rfl⟩|⟨g,cap,cur,rfl,hg,h1,_⟩
 ·exact⟨p,0,rfl,zG _⟩
 ·exact⟨_,_,rfl,h1⟩
def gE.at{w:World}{v:Value}{T:TypeId}{sz n:Nat}{us:aa Value}(h:gE w v T sz n us)(hn:0<n):∃g cap cur,v= .slice (I ⟨g,0,S⟩) n (cap+1)/\gh v=I g/\Blk w g cur T/\n<=cap+1/\cap+1<=maxLen/\cur.size=(cap+1)*sz/\cur.toList.take (n*sz)=us:=by
 rcases h.2 with ⟨p,rfl,rfl⟩|⟨g,cap,cur,rfl,hg,h1⟩
 ·cases hn
 ·exact⟨g,cap,cur,rfl,rfl,hg,h1⟩
def gE.cells{w:World}{v:Value}{T:TypeId}{sz n:Nat}{us:aa Value}(h:gE w v T sz n us){g:Nat}(hg:gh v=I g):∀(j:Nat) u,us[j]? =I u->w.cell? ⟨g,j,S⟩=I u:=λj u hj=>by
 rcases h.2 with ⟨p,rfl,rfl⟩|⟨g',cap,cur,rfl,q1,_,_,_,q2⟩
 ·cases p<;>cases hg
 ·cases hg;rw[<-q2,yA]at hj;split at hj
  ·exact Blk.cell q1 (by simpa using hj)
  ·cases hj
def Env.I7(E:Env):aa Operand->af (aa AV)
 |[]=>I []
 |x::xs=>match E.ev x,Env.I7 E xs with
  |some a,I as0=>I (a::as0)
  |_,_=>S
def Env.Fj{A:Nat->Prop}{w:World}{E:Env}{ρ:Operand->Value}(h:K9 A w E ρ):∀{xs:aa Operand} {as0:aa AV},E.I7 xs=I as0->bJ A w as0 (xs.map ρ)
 |[],as0,he=>by cases he;exact bJ.nil
 |x::xs,as0,he=>by
  unfold Env.I7 at he;cases h1:E.ev x with
  |none=>rw[h1]at he;cases he
  |some a=>
   cases h2:E.I7 xs with
   |none=>rw[h1,h2]at he;cases he
   |some as'=>
    rw[h1,h2]at he;cases he;exact bJ.cons (h x a h1) (Env.Fj h h2)
section
variable {P:Program} {E:Env} {σ:aa cG} {o:Oper} {T T' e:TypeId} {x y z:Operand} {av bv:AV} {v u:Value} {m n:Int} {b:Bool} {k:IntKind}
def Yp.lits(h:∀ρ:Operand->Value,(∀x u,E.ev x=I (.lit u)->ρ x=u)->∀w,(execOp ρ o).run P w= .ok (.value v) w):Yp P E σ o (.lit v):=λA w ρ _ hρ=>
 ⟨v, .lit v,λw' _=>h ρ (λx u hx=>(hρ x _ hx).cH) w'⟩
def Yp.move(ho:o.op= .move x)(hx:E.ev x=I av):Yp P E σ o av:=λA w ρ _ hρ=>
 ⟨ρ x,hρ _ _ hx,λw' _=>by simp[execOp,ho]⟩
def Yp.assign(ho:o.op= .assign x)(hx:E.ev x=I av):Yp P E σ o av:=λA w ρ _ hρ=>
 ⟨ρ x,hρ _ _ hx,λw' _=>by simp[execOp,ho]⟩
def Yp.ao6(ho:o.op= .pick z x y)(hc:E.ev z=I (.b J))(hx:E.ev x=I av):Yp P E σ o av:=λA w ρ _ hρ=>
 ⟨ρ x,hρ _ _ hx,λw' _=>by simp[execOp,ho,(hρ _ _ hc).cH,asBool]⟩
def Yp.apf(ho:o.op= .pick z x y)(hc:E.ev z=I (.b G))(hx:E.ev y=I av):Yp P E σ o av:=λA w ρ _ hρ=>
 ⟨ρ y,hρ _ _ hx,λw' _=>by simp[execOp,ho,(hρ _ _ hc).cH,asBool]⟩
def Yp.add(ho:o.op= .binOp .add T x y T')(hx:E.ev x=I (.n k m))(hy:E.ev y=I (.n k n)):Yp P E σ o (.n k (k.wrap (m+n))):=Yp.lits λρ hρ w=>by
 simp[execOp,ho,hρ _ _ hx,hρ _ _ hy,eqGuard,binOp,Op.intArith]
def Yp.sub(ho:o.op= .binOp .sub T x y T')(hx:E.ev x=I (.n k m))(hy:E.ev y=I (.n k n)):Yp P E σ o (.n k (k.wrap (m-n))):=Yp.lits λρ hρ w=>by
 simp[execOp,ho,hρ _ _ hx,hρ _ _ hy,eqGuard,binOp,Op.intArith]
def Yp.mul(ho:o.op= .binOp .mul T x y T')(hx:E.ev x=I (.n k m))(hy:E.ev y=I (.n k n)):Yp P E σ o (.n k (k.wrap (m*n))):=Yp.lits λρ hρ w=>by
 simp[execOp,ho,hρ _ _ hx,hρ _ _ hy,eqGuard,binOp,Op.intArith]
def Yp.quo(ho:o.op= .binOp .quo T x y T')(hx:E.ev x=I (.n k m))(hy:E.ev y=I (.n k n))(h:n≠0):Yp P E σ o (.n k (k.wrap (m.tdiv n))):=Yp.lits λρ hρ w=>by
 simp[execOp,ho,hρ _ _ hx,hρ _ _ hy,eqGuard,binOp,Op.intDiv,h]
def Yp.rem(ho:o.op= .binOp .rem T x y T')(hx:E.ev x=I (.n k m))(hy:E.ev y=I (.n k n))(h:n≠0):Yp P E σ o (.n k (m.tmod n)):=Yp.lits λρ hρ w=>by
 simp[execOp,ho,hρ _ _ hx,hρ _ _ hy,eqGuard,binOp,Op.intDiv,h]
def Yp.and(ho:o.op= .binOp .and T x y T')(hx:E.ev x=I (.n k m))(hy:E.ev y=I (.n k n)):Yp P E σ o (.n k (rG k m n)):=Yp.lits λρ hρ w=>by
 simp[execOp,ho,hρ _ _ hx,hρ _ _ hy,eqGuard,binOp,Op.intBits,rG]
def Yp.or(ho:o.op= .binOp .or T x y T')(hx:E.ev x=I (.n k m))(hy:E.ev y=I (.n k n)):Yp P E σ o (.n k (X9 k m n)):=Yp.lits λρ hρ w=>by
 simp[execOp,ho,hρ _ _ hx,hρ _ _ hy,eqGuard,binOp,Op.intBits,X9]
def Yp.xor(ho:o.op= .binOp .xor T x y T')(hx:E.ev x=I (.n k m))(hy:E.ev y=I (.n k n)):Yp P E σ o (.n k (akc k m n)):=Yp.lits λρ hρ w=>by
 simp[execOp,ho,hρ _ _ hx,hρ _ _ hy,eqGuard,binOp,Op.intBits,akc]
def Yp.andNot(ho:o.op= .binOp .andNot T x y T')(hx:E.ev x=I (.n k m))(hy:E.ev y=I (.n k n)):Yp P E σ o (.n k (akZ k m n)):=Yp.lits λρ hρ w=>by
 simp[execOp,ho,hρ _ _ hx,hρ _ _ hy,eqGuard,binOp,Op.intBits,akZ]
def Yp.shl{k':IntKind}(ho:o.op= .binOp .shl T x y T')(hx:E.ev x=I (.n k m))(hy:E.ev y=I (.n k' n))(h:0<=n):Yp P E σ o (.n k (lu k m n)):=Yp.lits λρ hρ w=>by
 have:¬n<0:=by omega
 simp[execOp,ho,hρ _ _ hx,hρ _ _ hy,eqGuard,binOp,Op.shift,lu,this]
def Yp.shr{k':IntKind}(ho:o.op= .binOp .shr T x y T')(hx:E.ev x=I (.n k m))(hy:E.ev y=I (.n k' n))(h:0<=n):Yp P E σ o (.n k (cP k m n)):=Yp.lits λρ hρ w=>by
 have:¬n<0:=by omega
 simp[execOp,ho,hρ _ _ hx,hρ _ _ hy,eqGuard,binOp,Op.shift,cP,this]
def Yp.lss(ho:o.op= .binOp .lss T x y T')(hx:E.ev x=I (.n k m))(hy:E.ev y=I (.n k n)):Yp P E σ o (.b (O (m<n))):=Yp.lits λρ hρ w=>by
 simp[execOp,ho,hρ _ _ hx,hρ _ _ hy,eqGuard,binOp,Op.intCmp]
def Yp.leq(ho:o.op= .binOp .leq T x y T')(hx:E.ev x=I (.n k m))(hy:E.ev y=I (.n k n)):Yp P E σ o (.b (O (m<=n))):=Yp.lits λρ hρ w=>by
 simp[execOp,ho,hρ _ _ hx,hρ _ _ hy,eqGuard,binOp,Op.intCmp]
def Yp.gtr(ho:o.op= .binOp .gtr T x y T')(hx:E.ev x=I (.n k m))(hy:E.ev y=I (.n k n)):Yp P E σ o (.b (O (n<m))):=Yp.lits λρ hρ w=>by
 simp[execOp,ho,hρ _ _ hx,hρ _ _ hy,eqGuard,binOp,Op.intCmp]
def Yp.geq(ho:o.op= .binOp .geq T x y T')(hx:E.ev x=I (.n k m))(hy:E.ev y=I (.n k n)):Yp P E σ o (.b (O (n<=m))):=Yp.lits λρ hρ w=>by
 simp[execOp,ho,hρ _ _ hx,hρ _ _ hy,eqGuard,binOp,Op.intCmp]
def Yp.eql(ho:o.op= .binOp .eql T x y T')(hx:E.ev x=I (.n k m))(hy:E.ev y=I (.n k n)):Yp P E σ o (.b (O (m=n))):=Yp.lits λρ hρ w=>by
 have:(m==n)=O (m=n):=rfl;simp[execOp,ho,hρ _ _ hx,hρ _ _ hy,eqGuard,binOp,Op.intCmp,this]
def Yp.neq(ho:o.op= .binOp .neq T x y T')(hx:E.ev x=I (.n k m))(hy:E.ev y=I (.n k n)):Yp P E σ o (.b (!O (m=n))):=Yp.lits λρ hρ w=>by
 have:(m !=n)= !O (m=n):=rfl;simp[execOp,ho,hρ _ _ hx,hρ _ _ hy,eqGuard,binOp,Op.intCmp,this]
def Yp.not(ho:o.op= .unOp .not T x)(hx:E.ev x=I (.b b)):Yp P E σ o (.b (!b)):=Yp.lits λρ hρ w=>by
 simp[execOp,ho,hρ _ _ hx,Op.unary]
def Yp.neg(ho:o.op= .unOp .neg T x)(hx:E.ev x=I (.n k n)):Yp P E σ o (.n k (k.wrap (0-n))):=Yp.lits λρ hρ w=>by
 simp[execOp,ho,hρ _ _ hx,Op.unary,Op.intArith]
def Yp.max(ho:o.op= .call {callee:= .builtin .max,args:=#[x,y],argTypes:=#[T,T']})(hx:E.ev x=I (.n k m))(hy:E.ev y=I (.n k n)):Yp P E σ o (.n k (if m<n then n else m)):=Yp.lits λρ hρ w=>by
 simp[execOp,ho,resolve,invoke,builtin,Builtin.max_,Builtin.max2,hρ _ _ hx,hρ _ _ hy]
def Yp.min(ho:o.op= .call {callee:= .builtin .min,args:=#[x,y],argTypes:=#[T,T']})(hx:E.ev x=I (.n k m))(hy:E.ev y=I (.n k n)):Yp P E σ o (.n k (if n<m then n else m)):=Yp.lits λρ hρ w=>by
 simp[execOp,ho,resolve,invoke,builtin,Builtin.min_,Builtin.min2,hρ _ _ hx,hρ _ _ hy]
def Yp.amg(ho:o.op= .call {callee:= .builtin .len,args:=#[x],argTypes:=#[T]})(hx:E.ev x=I (.lit (.slice S 0 0)))(hT:P.underlying T=I (.slice e)):Yp P E σ o (.i 0):=Yp.lits λρ hρ w=>by
 simp[execOp,ho,resolve,invoke,builtin,Builtin.len_,hρ _ _ hx,run_underlying hT,goInt]
def Yp.atv{q:Nat}{l:aa (U.dc q)}(ho:o.op= .call {callee:= .builtin .len,args:=#[x],argTypes:=#[T]})(hx:E.ev x=I (.sl q l))(hT:P.underlying T=I (.slice e)):Yp P E σ o (.i (l.length:Int)):=λA w ρ _ hρ=>by
 obtain⟨p,cap,u,hv,_⟩:=(hρ _ _ hx).sR;exact⟨_, .lit _,λw' _=>by simp[execOp,ho,resolve,invoke,builtin,Builtin.len_,hv,run_underlying hT,goInt]⟩
def Yp.akA{q:Nat}{l:aa (U.dc q)}(i:Nat)(ho:o.op= .call {callee:= .builtin .len,args:=#[x],argTypes:=#[T]})(hx:E.ev x=I (.lit v))(hσ:σ[i]? =I (.row v q l))(hT:P.underlying T=I (.slice e)):Yp P E σ o (.i (l.length:Int)):=λA w ρ hd hρ=>by
 obtain⟨us,h1,_⟩:=hd.1 _ (List.mem_of_getElem? hσ);obtain⟨p,cap,hv,_⟩:=h1.len;have hx':=(hρ _ _ hx).cH;exact⟨_, .lit _,λw' _=>by simp[execOp,ho,resolve,invoke,builtin,Builtin.len_,hx',hv,run_underlying hT,goInt]⟩
def Yp.ajp{s:ByteArray}(ho:o.op= .call {callee:= .builtin .len,args:=#[x],argTypes:=#[T]})(hx:E.ev x=I (.s s))(hT:P.underlying T=I .string):Yp P E σ o (.i (s.size:Int)):=Yp.lits λρ hρ w=>by
 simp[execOp,ho,resolve,invoke,builtin,Builtin.len_,hρ _ _ hx,goInt,run_underlying hT]
def Yp.func{fn:Fn}{fs cs:Array Operand}{as0:aa AV}(ho:o.op= .makeFunc fn fs cs)(h0:fs=#[])(hc:E.I7 cs.toList=I as0):Yp P E σ o (.fn fn as0):=λA w ρ _ hρ=>by
 have h:=Env.Fj hρ hc;exact⟨_, .fn fn as0 _ h.1 h.2,λw' _=>by
  have:cs.map ρ=(cs.toList.map ρ).toArray:=by apply Array.ext';simp
  simp[execOp,ho,Instr.makeFunc,h0,this]⟩
def Yp.extract{i:Nat}{cs:aa AV}(ho:o.op= .extract x i)(hx:E.ev x=I (.iM cs))(hv:cs[i]? =I av):Yp P E σ o av:=λA w ρ _ hρ=>by
 obtain⟨us,h1,h2⟩:=(hρ _ _ hx).Lv;obtain⟨v,h3,h4⟩:=h2.get hv;exact⟨v,h4,λw' _=>by simp[execOp,ho,Instr.extract,h1,h3]⟩
def Yp.Tp{a:Addr}(ho:o.op= .nilCheck x)(hx:E.ev x=I (.lit (.pointer (I a)))):Yp P E σ o (.lit (.pointer (I a))):=Yp.lits λρ hρ w=>by
 simp[execOp,ho,hρ _ _ hx]
def Yp.RS{cs:aa AV}(ho:o.op= .nilCheck x)(hx:E.ev x=I (.fp cs)):Yp P E σ o (.fp cs):=λA w ρ _ hρ=>by
 obtain⟨b,of,us,h1,_⟩:=(hρ _ _ hx).By;exact⟨ρ x,hρ _ _ hx,λw' _=>by simp[execOp,ho,h1]⟩
def Yp.RJ{k:Nat}(ho:o.op= .nilCheck x)(hx:E.ev x=I (.rp v k)):Yp P E σ o (.rp v k):=λA w ρ _ hρ=>by
 obtain⟨g,_,h1⟩:=(hρ _ _ hx).DQ;exact⟨ρ x,hρ _ _ hx,λw' _=>by simp[execOp,ho,h1]⟩
def o5(b of k:Nat):(⟨b,of,S⟩:Addr).add k=⟨b,of+k,S⟩:=by unfold Addr.add;split<;>simp_all
def Yp.alR{fs:Array Field}{f:Field}{i b' of sz:Nat}(ho:o.op= .fieldAddr T x i)(hx:E.ev x=I (.lit (.pointer (I ⟨b',of,S⟩))))(hT:P.underlying T=I (.struct fs))(hf:fs[i]? =I f)(hs:(P.info? f.type).map (·.size)=I (sz+1)):
  Yp P E σ o (.lit (.pointer (I ⟨b',of+f.offset,S⟩))):=Yp.lits λρ hρ w=>by
 obtain⟨j,hj,hj'⟩:=zk.1 hs;simp[execOp,ho,Instr.fieldAt,hρ _ _ hx,run_underlying hT,hf,Instr.sureAddr,fieldPlace,sizeOf,typeInfo,hj,hj',o5]
def Yp.akI{fs:Array Field}{f:Field}{i sz:Nat}{cs:aa AV}(ho:o.op= .fieldAddr T x i)(hx:E.ev x=I (.fp cs))(hT:P.underlying T=I (.struct fs))(hf:fs[i]? =I f)(hs:(P.info? f.type).map (·.size)=I (sz+1)):
  Yp P E σ o (.fp (cs.drop f.offset)):=λA w ρ _ hρ=>by
 obtain⟨j,hj,hj'⟩:=zk.1 hs;obtain⟨b,of,us,h1,hb,hA,hc,hr⟩:=(hρ _ _ hx).By;refine⟨_, .fp _ b (of+f.offset) (us.drop f.offset) hb hA (hr.drop _).1 (λj v hj=> ?_) (hr.drop _).2,λw' _=>by simp[execOp,ho,Instr.fieldAt,h1,run_underlying hT,hf,Instr.sureAddr,fieldPlace,sizeOf,typeInfo,hj,hj',o5]⟩;rw[yu]at hj;rw[xP];exact hc _ v hj
def Yp.ajj{fs:Array Field}{f:Field}{i sz k:Nat}(ho:o.op= .fieldAddr T x i)(hx:E.ev x=I (.rp v k))(hT:P.underlying T=I (.struct fs))(hf:fs[i]? =I f)(hs:(P.info? f.type).map (·.size)=I (sz+1)):
  Yp P E σ o (.rp v (k+f.offset)):=λA w ρ _ hρ=>by
 obtain⟨j,hj,hj'⟩:=zk.1 hs;obtain⟨g,h1,h2⟩:=(hρ _ _ hx).DQ;exact⟨_, .rp v _ g h1,λw' _=>by simp[execOp,ho,Instr.fieldAt,h2,run_underlying hT,hf,Instr.sureAddr,fieldPlace,sizeOf,typeInfo,hj,hj',o5]⟩
def Yp.YW{q:Nat}{l:aa (U.dc q)}(ho:o.op= .indexAddr T x y)(hx:E.ev x=I (.sl q l))(hy:E.ev y=I (.n k m))(hT:P.underlying T=I (.slice e))(hs:(P.info? e).map (·.size)=I (U.sz q))
  (hm:0<=m/\m<l.length):Yp P E σ o (.fp (U.cells q l[m.toNat]!)):=λA w ρ _ hρ=>by
 obtain⟨j,hj,hj'⟩:=zk.1 hs;have hr:=hρ _ _ hx;obtain⟨p,cap,_,hv,_⟩:=hr.sR;rw[hv]at hr;obtain⟨b,off,us,hp,hb,hA,hl,hc,hL⟩:=hr.awG (i:=m.toNat) (by omega);refine⟨_, .fp _ b (off+m.toNat*(U.sz q)) us hb hA hL.1 hc hL.2,λw' _=> ?_⟩;have hy':=(hρ _ _ hy).cH;simp[execOp,ho,Instr.indexAt,hv,hp,hy',run_underlying hT,sizeOf,typeInfo,hj,hj',o5,asIntOf,hm]
def Yp.VM{q:Nat}{l:aa (U.dc q)}(i:Nat)(ho:o.op= .indexAddr T x y)(hx:E.ev x=I (.lit v))(hσ:σ[i]? =I (.row v q l))(hy:E.ev y=I (.n k m))(hT:P.underlying T=I (.slice e))(hs:(P.info? e).map (·.size)=I (U.sz q))
  (hm:0<=m/\m<l.length):Yp P E σ o (.rp v (m.toNat*(U.sz q))):=λA w ρ hd hρ=>by
 obtain⟨j,hj,hj'⟩:=zk.1 hs;obtain⟨us,h1,_⟩:=hd.1 _ (List.mem_of_getElem? hσ);obtain⟨g,cap,cur,hv,hg,_⟩:=h1.at (by omega);have hx':=(hρ _ _ hx).cH;have hy':=(hρ _ _ hy).cH;refine⟨_, .rp v _ g hg,λw' _=> ?_⟩;simp[execOp,ho,Instr.indexAt,hx',hv,hy',run_underlying hT,sizeOf,typeInfo,hj,hj',o5,asIntOf,hm]
def Yp.aks{b' of sz n':Nat}(ho:o.op= .indexAddr T x y)(hx:E.ev x=I (.lit (.pointer (I ⟨b',of,S⟩))))(hy:E.ev y=I (.n k m))(hT:P.underlying T=I (.array n' e))(hs:(P.info? e).map (·.size)=I sz)
  (hm:0<=m/\m<n'):Yp P E σ o (.lit (.pointer (I ⟨b',of+m.toNat*sz,S⟩))):=Yp.lits λρ hρ w=>by
 obtain⟨j,hj,hj'⟩:=zk.1 hs;simp[execOp,ho,Instr.indexAt,hρ _ _ hx,hρ _ _ hy,run_underlying hT,sizeOf,typeInfo,hj,hj',o5,asIntOf,hm,Instr.sureAddr]
def Yp.alf{k' sz n':Nat}(ho:o.op= .indexAddr T x y)(hx:E.ev x=I (.rp v k'))(hy:E.ev y=I (.n k m))(hT:P.underlying T=I (.array n' e))(hs:(P.info? e).map (·.size)=I sz)
  (hm:0<=m/\m<n'):Yp P E σ o (.rp v (k'+m.toNat*sz)):=λA w ρ _ hρ=>by
 obtain⟨j,hj,hj'⟩:=zk.1 hs;obtain⟨g,h1,h2⟩:=(hρ _ _ hx).DQ;have hy':=(hρ _ _ hy).cH;exact⟨_, .rp v _ g h1,λw' _=>by simp[execOp,ho,Instr.indexAt,h2,hy',run_underlying hT,sizeOf,typeInfo,hj,hj',o5,asIntOf,hm,Instr.sureAddr]⟩
def Yp.akB{sz n':Nat}{cs:aa AV}(ho:o.op= .indexAddr T x y)(hx:E.ev x=I (.fp cs))(hy:E.ev y=I (.n k m))(hT:P.underlying T=I (.array n' e))(hs:(P.info? e).map (·.size)=I sz)
  (hm:0<=m/\m<n'):Yp P E σ o (.fp (cs.drop (m.toNat*sz))):=λA w ρ _ hρ=>by
 obtain⟨j,hj,hj'⟩:=zk.1 hs;obtain⟨b,of,us,h1,hb,hA,hc,hr⟩:=(hρ _ _ hx).By;have hy':=(hρ _ _ hy).cH;refine⟨_, .fp _ b (of+m.toNat*sz) (us.drop (m.toNat*sz)) hb hA (hr.drop _).1 (λj v hj=> ?_) (hr.drop _).2,λw' _=>by simp[execOp,ho,Instr.indexAt,h1,hy',run_underlying hT,sizeOf,typeInfo,hj,hj',o5,asIntOf,hm,Instr.sureAddr]⟩;rw[yu]at hj;rw[xP];exact hc _ v hj
def qD(P:Program)(T:TypeId):Prop:=∃d,P.underlying T=I d/\match d with| .struct _| .array _ _=>False|_=>True
def kT(h:qD P T)(w:World):(isAgg T).run P w= .ok G w:=by
 obtain⟨d,hd,hm⟩:=h;unfold isAgg;cases d<;>first|exact hm.elim|simp[run_underlying hd]
def gR{w:World}{a:Addr}(h:qD P T)(hc:w.cell? a=I v):(loadVar T a).run P w= .ok v w:=by
 unfold loadVar;simp[kT h,load,Sem.run,hc]
def rQ(P:Program)(T:TypeId)(k:Nat):Prop:=(∃d,P.underlying T=I d/\match d with| .struct _| .array _ _=>True|_=>False)/\(P.info? T).map (·.size)=I k
def Bb{k:Nat}(h:rQ P T k)(w:World):(isAgg T).run P w= .ok J w:=by
 obtain⟨⟨d,hd,hm⟩,_⟩:=h;unfold isAgg;cases d<;>first|exact hm.elim|simp[run_underlying hd]
def run_loadCellsFrom{w:World}(a:Addr):∀(cs:aa Value) (i:Nat) (acc:Array Value),(∀j u,cs[j]? =I u->w.cell? (a.add (i+j))=I u)->(loadCellsFrom a i cs.length acc).run P w= .ok (acc++cs.toArray) w
 |[],i,acc,_=>by simp[loadCellsFrom]
 |c::cs,i,acc,h=>by
  have h0:=h 0 c rfl;rw[yd]at h0;simp only[wg,loadCellsFrom];have ih:=run_loadCellsFrom a cs (i+1) (acc.push c) λj u hj=>by
   have:=h (j+1) u (by simpa using hj)
   rwa [show i+(j+1)=i+1+j from by omega]at this
  simp[load,Sem.run,h0,ih]
def gy{w:World}{a:Addr}{cs:aa Value}(h:rQ P T cs.length)(hc:∀j u,cs[j]? =I u->w.cell? (a.add j)=I u):(loadVar T a).run P w= .ok (.agg cs.toArray) w:=by
 obtain⟨i,hi,hi'⟩:=zk.1 h.2;have:=run_loadCellsFrom (P:=P) (w:=w) a cs 0 #[] (by simpa using hc);unfold loadVar;simp[Bb h,sizeOf,typeInfo,hi,hi',loadCells,this]
def jT{w w':World}{b o:Nat}(h:w'.heap[b]? =w.heap[b]?):w'.cell? ⟨b,o,S⟩=w.cell? ⟨b,o,S⟩:=by simp[World.cell?,h]
def Yp.alu{cs:aa AV}(ho:o.op= .load T x)(hx:E.ev x=I (.fp cs))(hT:qD P T)(ha:cs[0]? =I av):Yp P E σ o av:=λA w ρ _ hρ=>by
 obtain⟨b,of,us,h1,hb,hA,hc,hr⟩:=(hρ _ _ hx).By;obtain⟨v,h2,h3⟩:=hr.get ha;refine⟨v,h3,λw' hw=> ?_⟩;have hcell:w'.cell? ⟨b,of,S⟩=I v:=by rw[jT (hw b hb (.inl hA))];exact hc 0 v h2
 simp[execOp,ho,Instr.loadAt,h1,Instr.sureAddr,gR hT hcell]
def Yp.akW{cs:aa AV}{n:Nat}(ho:o.op= .load T x)(hx:E.ev x=I (.fp cs))(hT:rQ P T n)(hn:n<=cs.length):Yp P E σ o (.agg (cs.take n)):=λA w ρ _ hρ=>by
 obtain⟨b,of,us,h1,hb,hA,hc,hr⟩:=(hρ _ _ hx).By;refine⟨_,Rel.nE (hr.take n),λw' hw=> ?_⟩;have hcell:∀j u,(us.take n)[j]? =I u->w'.cell? ((⟨b,of,S⟩:Addr).add j)=I u:=λj u hj=>by
  rw[o5,jT (hw b hb (.inl hA))];rw[yA]at hj;split at hj
  ·exact hc j u hj
  ·cases hj
 have hl:(us.take n).length=n:=by rw[zR,hr.1];omega
 simp[execOp,ho,Instr.loadAt,h1,Instr.sureAddr,gy (by rw[hl];exact hT) hcell]
def Yp.al2{b' of:Nat}{cs:aa AV}{t:TypeId}(i:Nat)(ho:o.op= .load T x)(hx:E.ev x=I (.lit (.pointer (I ⟨b',of,S⟩))))(hσ:σ[i]? =I (.box b' t cs))(hT:qD P T)(ha:cs[of]? =I av):Yp P E σ o av:=λA w ρ hd hρ=>by
 have hm:=List.mem_of_getElem? hσ;obtain⟨us,h1,hr⟩:=hd.1 _ hm;obtain⟨v,h2,h3⟩:=bJ.get hr ha;have hx':=(hρ _ _ hx).cH;refine⟨v,h3,λw' hw=> ?_⟩;have hcell:w'.cell? ⟨b',of,S⟩=I v:=by rw[jT (hw b' h1.lt (.inr (bS.2 ⟨_,hm,rfl⟩)))];exact h1.cell (by simpa using h2)
 simp[execOp,ho,Instr.loadAt,hx',Instr.sureAddr,gR hT hcell]
def Yp.aiV{b' of n:Nat}{cs:aa AV}{t:TypeId}(i:Nat)(ho:o.op= .load T x)(hx:E.ev x=I (.lit (.pointer (I ⟨b',of,S⟩))))(hσ:σ[i]? =I (.box b' t cs))(hT:rQ P T n)(hn:of+n<=cs.length):Yp P E σ o (.agg ((cs.drop of).take n)):=λA w ρ hd hρ=>by
 have hm:=List.mem_of_getElem? hσ;obtain⟨us,h1,hr⟩:=hd.1 _ hm;have hx':=(hρ _ _ hx).cH;refine⟨_,Rel.nE ((bJ.drop of hr).take n),λw' hw=> ?_⟩;have hcell:∀j u,((us.drop of).take n)[j]? =I u->w'.cell? ((⟨b',of,S⟩:Addr).add j)=I u:=λj u hj=>by
  rw[o5,jT (hw b' h1.lt (.inr (bS.2 ⟨_,hm,rfl⟩)))];rw[yA]at hj;split at hj
  ·rw[yu]at hj;exact h1.cell (by simpa using hj)
  ·cases hj
 have hl:((us.drop of).take n).length=n:=by rw[zR,yj,hr.1];omega
 simp[execOp,ho,Instr.loadAt,hx',Instr.sureAddr,gy (by rw[hl];exact hT) hcell]
def Yp.X4{k of:Nat}{q:Nat}{l:aa (U.dc q)}(i m:Nat)(ho:o.op= .load T x)(hx:E.ev x=I (.rp v k))(hσ:σ[i]? =I (.row v q l))(hT:qD P T)(hk:k=m*(U.sz q)+of)(hm:m<l.length)(ha:(U.cells q l[m]!)[of]? =I av):Yp P E σ o av:=λA w ρ hd hρ=>by
 have hmem:=List.mem_of_getElem? hσ;obtain⟨us,h1,h2,h3⟩:=hd.1 _ hmem;obtain⟨g,hg,hv⟩:=(hρ _ _ hx).DQ;obtain⟨u,h4,h5⟩:=(h3 m hm).get ha;refine⟨u,h5,λw' hw=> ?_⟩;rw[yA]at h4;split at h4
 ·rw[yu]at h4;have hcell:w'.cell? ⟨g,k,S⟩=I u:=by rw[jT (hw g (h1.lt hg) (.inr (bS.2 ⟨_,hmem,hg⟩))),hk];exact h1.cells hg _ u h4
  simp[execOp,ho,Instr.loadAt,hv,Instr.sureAddr,gR hT hcell]
 ·cases h4
def Yp.akm{k of n:Nat}{q:Nat}{l:aa (U.dc q)}(i m:Nat)(ho:o.op= .load T x)(hx:E.ev x=I (.rp v k))(hσ:σ[i]? =I (.row v q l))(hT:rQ P T n)(hk:k=m*(U.sz q)+of)(hm:m<l.length)(hn:of+n<=(U.sz q)):Yp P E σ o (.agg (((U.cells q l[m]!).drop of).take n)):=λA w ρ hd hρ=>by
 have hmem:=List.mem_of_getElem? hσ;obtain⟨us,h1,h2,h3⟩:=hd.1 _ hmem;obtain⟨g,hg,hv⟩:=(hρ _ _ hx).DQ;have hL:=h3 m hm;refine⟨_,Rel.nE ((hL.drop of).take n),λw' hw=> ?_⟩;have hcell:∀j u,((((us.drop (m*(U.sz q))).take (U.sz q)).drop of).take n)[j]? =I u->w'.cell? ((⟨g,k,S⟩:Addr).add j)=I u:=λj u hj=>by
  rw[o5,jT (hw g (h1.lt hg) (.inr (bS.2 ⟨_,hmem,hg⟩))),hk];rw[yA]at hj;split at hj
  ·rw[yu,yA]at hj;split at hj
   ·rw[yu]at hj;exact h1.cells hg _ u (by rw[xP];exact hj)
   ·cases hj
  ·cases hj
 have hl:((((us.drop (m*(U.sz q))).take (U.sz q)).drop of).take n).length=n:=by rw[zR,yj,hL.1,h2 m hm];omega
 simp[execOp,ho,Instr.loadAt,hv,Instr.sureAddr,gy (by rw[hl];exact hT) hcell]
end
def eN(r:cG)(σ:aa cG):bF (r::σ)=r.blk.toList++bF σ:=by
 unfold bF;rw[xm];cases r.blk<;>simp
def gv(σ τ:aa cG):bF (σ++τ)=bF σ++bF τ:=by simp[bF]
def o6{C:Cx}{σ:aa cG}{w w':World}{r:cG}(h:Good C σ w)(hk:Kp [] w w')(hr:r.blk=S\/r.blk=I w.heap.size)(hok:r.ok (al C (r::σ)) w'):Tr C [] σ w (r::σ) w':=by
 have hlt:∀b∈bF σ,b<w.heap.size:=λb hb=>by
  obtain⟨s,h1,h2⟩:=bS.1 hb;exact(h.res s h1).lt h2
 have hal:∀b,b<w.heap.size->al C σ b->al C (r::σ) b:=λb hb hA=>⟨hA.1,λhx=>by
  rw[eN]at hx;rcases zU.1 hx with hx|hx
  ·rcases hr with hr|hr<;>rw[hr]at hx<;>simp at hx;omega
  ·exact hA.2 hx⟩
 have hsame:∀b,b<w.heap.size->w'.heap[b]? =w.heap[b]? :=λb hb=>hk.block b hb (by simp);refine⟨⟨h.kept.trans hk (by simp),λs hs=> ?_,?_,λb hb=> ?_⟩,hk,λb hb hA=>⟨hal b hb hA,by simp⟩⟩
 ·rcases zF.1 hs with rfl|hs
  ·exact hok
  ·exact(h.res s hs).mono (λb hb hA=>⟨hal b hb hA,hsame b hb⟩) (λb hb=>hsame b ((h.res s hs).lt hb))
 ·rw[eN];rcases hr with hr|hr
  ·rw[hr];simpa using h.DS
  ·rw[hr];simp only[xx,xo,yg,List.nodup_cons];exact⟨λhx=>by have:=hlt _ hx;omega,h.DS⟩
 ·rw[eN]at hb;rcases zU.1 hb with hx|hx
  ·rcases hr with hr|hr<;>rw[hr]at hx<;>simp at hx;exact .inr (by rw[hx];exact h.kept.size)
  ·exact h.own b hx
def u6{σ:aa cG}{i:Nat}{r r':cG}(h:σ[i]? =I r):σ=σ.take i++r::σ.drop (i+1)/\σ.set i r'=σ.take i++r'::σ.drop (i+1):=by
 obtain⟨hi,hr⟩:=zY.1 h;refine⟨?_,wu .. |>.trans (by rw[bD hi])⟩;rw[<-hr,<-xQ hi,xp]
def Bj{σ:aa cG}{i:Nat}{r r':cG}(h:σ[i]? =I r)(hb:r'.blk=r.blk):bF (σ.set i r')=bF σ:=by
 obtain⟨q1,q2⟩:=u6 (r':=r') h;have e:bF σ=bF (σ.take i++r::σ.drop (i+1)):=congrArg bF q1;rw[q2,e];simp[gv,eN,hb]
def Dk{C:Cx}{σ:aa cG}{w w':World}{r r':cG}{i:Nat}(h:Good C σ w)(hi:σ[i]? =I r)(hk:Kp r.blk.toList w w')(hr:r'.blk=r.blk\/r'.blk=I w.heap.size)(hok:r'.ok (al C (σ.set i r')) w'):Tr C r.blk.toList σ w (σ.set i r') w':=by
 obtain⟨h1,h2⟩:=u6 (r':=r') hi;generalize σ.take i=σ1 at h1 h2;generalize σ.drop (i+1)=σ2 at h1 h2;rw[h2]at hok ⊢;clear h2 hi;subst h1;have hlt:∀b∈bF (σ1++r::σ2),b<w.heap.size:=λb hb=>by
  obtain⟨s,h1,h2⟩:=bS.1 hb;exact(h.res s h1).lt h2
 have hb0:bF (σ1++r::σ2)=bF σ1++(r.blk.toList++bF σ2):=by rw[gv,eN]
 have hb1:bF (σ1++r'::σ2)=bF σ1++(r'.blk.toList++bF σ2):=by rw[gv,eN]
 have hmem:∀b,b∈bF (σ1++r'::σ2)->b∈bF (σ1++r::σ2)\/b=w.heap.size:=λb hb=>by
  rw[hb1]at hb;rw[hb0];simp only[zU]at hb ⊢;rcases hb with hb|hb|hb
  ·exact .inl (.inl hb)
  ·rcases hr with hr|hr<;>rw[hr]at hb
   ·exact .inl (.inr (.inl hb))
   ·simp at hb;exact .inr hb
  ·exact .inl (.inr (.inr hb))
 have hal:∀b,b<w.heap.size->al C (σ1++r::σ2) b->al C (σ1++r'::σ2) b:=λb hb hA=>⟨hA.1,λhx=>by
  rcases hmem b hx with h|h
  ·exact hA.2 h
  ·omega⟩
 have hnr:∀b,al C (σ1++r::σ2) b->b∉r.blk.toList:=λb hA hx=>hA.2 (by rw[hb0];simp[zU,hx]);have hother:∀s,s∈σ1\/s∈σ2->∀b,s.blk=I b->b∉r.blk.toList:=λs hs b hb hx=>by
  have hd:=h.DS;rw[hb0]at hd;rcases hs with hs|hs
  ·exact(yD.1 hd).2.2 b (bS.2 ⟨s,hs,hb⟩) b (yE _ hx) rfl
  ·exact(yD.1 (yD.1 hd).2.1).2.2 b hx b (bS.2 ⟨s,hs,hb⟩) rfl
 refine⟨⟨h.kept.trans hk (λb hb hlt0=> ?_),λs hs=> ?_,?_,λb hb=> ?_⟩,hk,λb hb hA=>⟨hal b hb hA,hnr b hA⟩⟩
 ·have:b∈bF (σ1++r::σ2):=by rw[hb0];simp[zU,hb]
  rcases h.own b this with h|h
  ·exact h
  ·omega
 ·have hs':s=r'\/s∈σ1\/s∈σ2:=by
   simp only[zU,zF]at hs;rcases hs with h|h|h
   ·exact .inr (.inl h)
   ·exact .inl h
   ·exact .inr (.inr h)
  rcases hs' with rfl|hs'
  ·exact hok
  ·have hm:s∈σ1++r::σ2:=by rcases hs' with h|h<;>simp[h]
   exact(h.res s hm).mono (λb hb hA=>⟨hal b hb hA,hk.block b hb (hnr b hA)⟩) (λb hb=>hk.block b ((h.res s hm).lt hb) (hother s hs' b hb))
 ·have hd:=h.DS;rcases hr with hr|hr
  ·rw[hb1,hr,<-hb0];exact hd
  ·rw[hb1,hr];rw[hb0]at hd;have hn1:w.heap.size∉bF σ1:=λhx=>by have:=hlt w.heap.size (by rw[hb0];simp[zU,hx]);omega
   have hn2:w.heap.size∉bF σ2:=λhx=>by have:=hlt w.heap.size (by rw[hb0];simp[zU,hx]);omega
   obtain⟨d1,d2,d3⟩:=yD.1 hd;obtain⟨d4,d5,d6⟩:=yD.1 d2;refine yD.2 ⟨d1,?_,λa ha b hb hab=> ?_⟩
   ·simp only[xx,xo,yg,List.nodup_cons];exact⟨hn2,d5⟩
   ·subst hab;simp only[xx,xo,yg,zF]at hb;rcases hb with rfl|hb
    ·exact hn1 ha
    ·exact d3 a ha a (yF _ hb) rfl
 ·rcases hmem b hb with h1|h1
  ·exact h.own b h1
  ·exact .inr (by rw[h1];exact h.kept.size)
def amz{C:Cx}{σ:aa cG}{w:World}{r:cG}(h:r.blk=S\/r.blk=I w.heap.size):∀b,b<w.heap.size->al C σ b->al C (r::σ) b:=λb hb hA=>⟨hA.1,λhx=>by
 rw[eN]at hx;rcases zU.1 hx with hx|hx
 ·rcases h with h|h<;>rw[h]at hx<;>simp at hx;omega
 ·exact hA.2 hx⟩
def jr(w:World)(x:Obj):Kp [] w (w.alloc x):=⟨rfl,rfl,rfl,by simp,λk hk _=>heap_alloc_old w x hk⟩
def EU(w:World)(x:Obj):Kp [] w (w.drew.alloc x):=⟨rfl,rfl,rfl,by simp,λk hk _=>heap_alloc_old w.drew x hk⟩
def IF{C:Cx}{σ:aa cG}{w w':World}{r:cG}{as0:aa AV}{us:aa Value}(hr:bJ (al C σ) w as0 us)(h:r.blk=S\/r.blk=I w.heap.size)(hk:Kp [] w w'):bJ (al C (r::σ)) w' as0 us:=
 hr.mono λb hb hA=>⟨amz h b hb hA,hk.block b hb (by simp)⟩
def dz:AV->aa AV
 | .agg cs=>cs
 |a=>[a]
def gG:AV->Bool
 | .lit v=>v.oneCell'
 | .iM _=>G
 | .agg _=>G
 |_=>J
def CB:AV->Bool
 | .agg cs=>cs.all gG
 |a=>gG a
def qG{v:Value}(h:v.oneCell'=true):v.cells=#[v]:=by cases v<;>first|rfl|cases h
def Rel.one{A:Nat->Prop}{w:World}{a:AV}{v:Value}(h:Rel A w a v)(h1:gG a=J):v.oneCell'=J:=by
 cases h with
 |lit v=>exact h1
 |agg=>cases h1
 |iM=>cases h1
 |_=>rfl
def bJ.one{A:Nat->Prop}{w:World}{as0:aa AV}{us:aa Value}(h:bJ A w as0 us)(h1:as0.all gG=J):∀v∈us,v.oneCell'=J:=λv hv=>by
 obtain⟨j,hj,rfl⟩:=xR hv;have hlt:j<as0.length:=by rw[<-h.1];exact hj
 exact(h.2 j as0[j] us[j] (zq hlt) (zq hj)).one (zu.1 h1 _ (xy hlt))
def Rel.cells{A:Nat->Prop}{w:World}{a:AV}{v:Value}(h:Rel A w a v)(h1:CB a=J):bJ A w (dz a) v.cells.toList/\∀u∈v.cells.toList,u.oneCell'=J:=by
 by_cases ha:∃cs,a= .agg cs
 ·obtain⟨cs,rfl⟩:=ha;obtain⟨us,rfl,h2⟩:=h.mV;exact⟨by simpa [Value.cells,dz]using h2,by simpa [Value.cells]using h2.one h1⟩
 ·have hc:gG a=J:=by
   cases a<;>first|exact h1|(exact dg ⟨_,rfl⟩ ha)
  have hac:dz a=[a]:=by
   cases a<;>first|rfl|(exact dg ⟨_,rfl⟩ ha)
  have h2:=h.one hc;rw[hac,qG h2];refine⟨⟨rfl,λj x y hx hy=> ?_⟩,λu hu=>by simp at hu;rw[hu];exact h2⟩;cases j with
  |zero=>simp at hx hy;subst hx hy;exact h
  |succ j=>simp at hx
def Pw(σ:aa cG)(a:AV):Prop:=∀(A:Nat->Prop) (w:World) (v:Value),Hd A σ w->Rel A w a v->bJ A w (dz a) v.cells.toList/\∀u∈v.cells.toList,u.oneCell'=J
def Yo{σ:aa cG}{A:Nat->Prop}{w:World}{v:Value}{q:Nat}{l:aa (U.dc q)}(i:Nat)(hσ:σ[i]? =I (.row v q l))(hd:Hd A σ w):v.oneCell'=J:=by
 obtain⟨us,h1,_⟩:=hd.1 _ (List.mem_of_getElem? hσ);obtain⟨p,cap,rfl,_⟩:=h1.len;rfl
section
variable {P:Program} {E:Env} {σ:aa cG} {o:Oper} {T T' e:TypeId} {x y z:Operand} {av bv:AV} {v u:Value} {m n:Int} {b:Bool} {k:IntKind} {C:Cx} {X:aa Nat}
def Yv.alloc{zs:aa Value}(ho:o.op= .alloc T)(hz:(P.info? T).bind (λi=>i.zero.map (·.cells))=I zs.toArray):Yv P E σ o C [] (λa σ'=>∃b,a= .lit (.pointer (I ⟨b,0,S⟩))/\σ'= .box b T (zs.map .lit)::σ):=λw ρ hg _=>by
 obtain⟨i,h1,h2⟩:=zn.1 hz;obtain⟨zv,h3,h4⟩:=zk.1 h2;refine⟨_,w.alloc (.cells zs.toArray T),_,_,⟨w.heap.size,rfl,rfl⟩,o6 hg (jr w _) (.inr rfl) ⟨zs,heap_alloc_new w _,bJ.lits _⟩,?_, .lit _⟩;simp[execOp,ho,Instr.alloc,zeroValue,typeInfo,h1,h3,newVar,newRow,h4]
def Yv.box(ho:o.op= .box T x)(hx:E.ev x=I av)(h1:Pw σ av):Yv P E σ o C [] (λa σ'=>∃b,a= .lit (.pointer (I ⟨b,0,S⟩))/\σ'= .box b T (dz av)::σ):=λw ρ hg hρ=>by
 have hr:=(h1 _ _ _ hg.hd (hρ _ _ hx)).1;refine⟨_,w.alloc (.cells (ρ x).cells T),_,_,⟨w.heap.size,rfl,rfl⟩,o6 hg (jr w _) (.inr rfl) ⟨(ρ x).cells.toList,heap_alloc_new w _,IF hr (.inr rfl) (jr w _)⟩,?_, .lit _⟩;simp[execOp,ho,Instr.box,newVar,newRow]
def run_store{w:World}{g of:Nat}{cur:Array Value}{t:TypeId}{a:Value}{sz:Nat}(hs:(P.info? T).map (·.size)=I sz)(hb:Blk w g cur t)(hsz:a.cells.size=sz)(h1:∀u∈a.cells.toList,u.oneCell'=J)(hlt:of+sz<=cur.size):
  (Instr.storeAt T (.pointer (I ⟨g,of,S⟩)) a).run P w= .ok () (w.setRow g (cur.toList.take of++a.cells.toList++cur.toList.drop (of+sz)).toArray):=by
 obtain⟨j,hj,hj'⟩:=zk.1 hs;have:=run_storeCells_at P g of t a.cells.toList 0 cur w hb (by rw[yl,hsz];omega) h1;rw[yl,hsz,yd]at this;simp only[Instr.storeAt,Instr.sureAddr,storeVar,Sem.run_bind,sizeOf,typeInfo];simp[hj,hj',hsz,this]
def l6(w:World)(g:Nat)(cs:Array Value):Kp [g] w (w.setRow g cs):=⟨rfl,rfl,rfl,by simp,λk _ hk=>setRow_other w g k _ (λe=>hk (by simp[e]))⟩
def Yu.als{g of sz:Nat}{cs:aa AV}{t:TypeId}(i:Nat)(ho:o.op= .store T x y)(hx:E.ev x=I (.lit (.pointer (I ⟨g,of,S⟩))))(hy:E.ev y=I av)(hσ:σ[i]? =I (.box g t cs))(hs:(P.info? T).map (·.size)=I sz)(hp:Pw σ av)(hsz:(dz av).length=sz)(hlt:of+sz<=cs.length):
  Yu P E σ o C [g] (σ.set i (.box g t (cs.take of++dz av++cs.drop (of+sz)))):=λw ρ hg hρ=>by
 obtain⟨us,h1,h2⟩:=hg.res _ (List.mem_of_getElem? hσ);obtain⟨h3,h4⟩:=hp _ _ _ hg.hd (hρ _ _ hy);have hx':=(hρ _ _ hx).cH;have h5:(ρ y).cells.size=sz:=by rw[<-yl,h3.1,hsz]
 have hrun:=run_store (P:=P) (T:=T) (of:=of) (a:=ρ y) hs h1 h5 h4 (by simp;rw[h2.1];exact hlt);refine⟨w.setRow g (us.take of++(ρ y).cells.toList++us.drop (of+sz)).toArray,Dk hg hσ (l6 w g _) (.inl rfl) ⟨us.take of++(ρ y).cells.toList++us.drop (of+sz),?_,?_⟩,?_⟩
 ·have:=setRow_heap w g us.toArray (us.take of++(ρ y).cells.toList++us.drop (of+sz)).toArray t (0,0) h1;exact this
 ·have hal:∀b,b<w.heap.size->al C σ b->al C (σ.set i (.box g t (cs.take of++dz av++cs.drop (of+sz)))) b/\(w.setRow g (us.take of++(ρ y).cells.toList++us.drop (of+sz)).toArray).heap[b]? =w.heap[b]? :=λb hb hA=>by
   have hbk:=Bj (r':=cG.box g t (cs.take of++dz av++cs.drop (of+sz))) hσ rfl;refine⟨⟨hA.1,by rw[hbk];exact hA.2⟩,setRow_other w g b _ (λe=>hA.2 (bS.2 ⟨_,List.mem_of_getElem? hσ,by rw[<-e];rfl⟩))⟩
  exact(((h2.take of).app h3).app (h2.drop (of+sz))).mono hal
 ·simp[execOp,ho,hx',hrun]
def Yu.Xh{kk of n m:Nat}{q:Nat}{l:aa (U.dc q)}(i:Nat)(qq:U.dc q)(ho:o.op= .store T x y)(hx:E.ev x=I (.rp v kk))(hy:E.ev y=I av)(hσ:σ[i]? =I (.row v q l))(hs:(P.info? T).map (·.size)=I n)(hp:CB av=J)(hn:(dz av).length=n)
  (hk:kk=m*(U.sz q)+of) (hm:m<l.length) (hlt:of+n<=(U.sz q)) (hql:(U.cells q qq).length=U.sz q) (hq:∀A w us,bJ A w ((U.cells q l[m]!).take of++dz av++(U.cells q l[m]!).drop (of+n)) us->bJ A w (U.cells q qq) us):
  Yu P E σ o C (xz (gh v)) (σ.set i (.row v q (l.set m qq))):=λw ρ hg hρ=>by
 obtain⟨us,h1,h2,h3⟩:=hg.res _ (List.mem_of_getElem? hσ);obtain⟨h4,h5⟩:=(hρ _ _ hy).cells hp;obtain⟨g,hgb,hv⟩:=(hρ _ _ hx).DQ;obtain⟨g',cap,cur,hv',hgb',hB,q1,q2,q3,q4⟩:=h1.at (by omega);have hgg:g'=g:=by rw[hgb']at hgb;exact zD.inj hgb
 subst hgg;have h6':(ρ y).cells.toList.length=n:=by rw[h4.1,hn]
 have h6:(ρ y).cells.size=n:=by rw[<-yl,h6']
 have hmz:m*(U.sz q)+(U.sz q)<=l.length*(U.sz q):=by rw[<-yI];exact yB _ hm
 have hcz:l.length*(U.sz q)<=(cap+1)*(U.sz q):=yB _ q1;have hul:=h1.1;have hrun:=run_store (P:=P) (T:=T) (of:=kk) (a:=ρ y) hs hB h6 h5 (by rw[q3,hk];omega);have hlen:us.length=l.length*(U.sz q):=h1.1;have hmz2:∀j,j<l.length->j*(U.sz q)+(U.sz q)<=us.length:=λj hj=>by rw[hlen,<-yI];exact yB _ hj
 have hpart:∀b,al C (σ.set i (.row v q (l.set m qq))) b↔al C σ b:=λb=>by
  have hbk:=Bj (r':=cG.row v q (l.set m qq)) hσ rfl;unfold al;rw[hbk]
 have hal:∀b,b<w.heap.size->al C σ b->al C (σ.set i (.row v q (l.set m qq))) b/\(w.setRow g' (cur.toList.take kk++(ρ y).cells.toList++cur.toList.drop (kk+n)).toArray).heap[b]? =w.heap[b]? :=λb hb hA=>
  ⟨(hpart b).2 hA,setRow_other w g' b _ (λe=>hA.2 (bS.2 ⟨_,List.mem_of_getElem? hσ,by rw[e];exact hgb⟩))⟩
 refine⟨w.setRow g' (cur.toList.take kk++(ρ y).cells.toList++cur.toList.drop (kk+n)).toArray,Dk (r:= .row v q l) hg hσ (by show Kp (xz (gh v)) _ _;rw[hgb];exact l6 w g' _) (.inl rfl) ⟨us.take kk++(ρ y).cells.toList++us.drop (kk+n),⟨?_, .inr ⟨g',cap,(cur.toList.take kk++(ρ y).cells.toList++cur.toList.drop (kk+n)).toArray,?_,?_,?_,q2,?_,?_⟩⟩,?_,?_⟩,by simp[execOp,ho,hv,hrun]⟩
 ·have:=hmz2 m hm;rw[zl,zl,zR,yj,yP,h6',hlen];omega
 ·rw[yP];exact hv'
 ·exact setRow_heap w g' cur _ q (0,0) hB
 ·rw[yP];exact q1
 ·have:=hmz2 m hm;rw[y9,zl,zl,zR,yj,h6',yl,q3];omega
 ·have hk':kk+n<=l.length*(U.sz q):=by omega
  have hc2:l.length*(U.sz q)<=cur.toList.length:=by rw[show cur.toList.length=cur.size from yl,q3];exact hcz
  rw[<-q4,yP];apply List.ext_getElem?;intro j;simp only[yA,y8,zl,zR,yu,h6',yl];have hcl:cur.size=(cap+1)*(U.sz q):=q3;by_cases e1:j<l.length*(U.sz q)
  ·rw[bD e1];by_cases e2:j<kk
   ·rw[bD (by omega),bD (by omega),bD (by omega),bD (by omega),bD (by omega),bD (by omega)];rw[bD (by omega)]
   ·by_cases e3:j<kk+n
    ·rw[bD (by omega),bL (by omega),bD (by omega),bL (by omega)]
     congr 1
     omega
    ·rw[bL (by omega),bL (by omega),bD (by omega)]
     congr 1
     omega
  ·rw[bL e1];rw[bL (by omega),bL (by omega)]
 ·intro j hj;rw[yP]at hj;by_cases hjm:j=m
  ·subst hjm;rw[getElem!_pos _ j (by rw[yP];exact hj),List.getElem_set_self];exact hql
  ·rw[getElem!_pos _ j (by rw[yP];exact hj),List.getElem_set_ne (Ne.symm hjm),<-getElem!_pos l j hj];exact h2 j hj
 ·intro j hj;rw[yP]at hj;have hb:=hmz2 j hj;have hbm:=hmz2 m hm;by_cases hjm:j=m
  ·subst hjm;rw[getElem!_pos _ j (by rw[yP];exact hj),List.getElem_set_self];refine hq _ _ _ ?_;have hL:=h3 j hj;have hz:=h2 j hj;have hR:=(((hL.take of).app h4).app (hL.drop (of+n))).mono hal;have e:((us.take kk++(ρ y).cells.toList++us.drop (kk+n)).drop (j*(U.sz q))).take (U.sz q)=((us.drop (j*(U.sz q))).take (U.sz q)).take of++(ρ y).cells.toList++((us.drop (j*(U.sz q))).take (U.sz q)).drop (of+n):=by
    apply List.ext_getElem?;intro a;simp only[yA,y8,zl,zR,yu,h6',yj];by_cases e1:a<(U.sz q)
    ·rw[bD e1];by_cases e2:a<of
     ·rw[bD (by omega),bD (by omega),bD (by omega),bD (by omega),bD (by omega),bD (by omega)];rw[bD (by omega)]
     ·by_cases e3:a<of+n
      ·rw[bD (by omega),bL (by omega),bD (by omega),bL (by omega)]
       congr 1
       omega
      ·rw[bL (by omega),bL (by omega),bD (by omega)]
       congr 1
       omega
    ·rw[bL e1,bL (by omega),bL (by omega)]
   rw[e];exact hR
  ·rw[getElem!_pos _ j (by rw[yP];exact hj),List.getElem_set_ne (Ne.symm hjm),<-getElem!_pos l j hj];have e:((us.take kk++(ρ y).cells.toList++us.drop (kk+n)).drop (j*(U.sz q))).take (U.sz q)=(us.drop (j*(U.sz q))).take (U.sz q):=by
    have hcase:j*(U.sz q)+(U.sz q)<=m*(U.sz q)\/m*(U.sz q)+(U.sz q)<=j*(U.sz q):=by
     rcases Nat.lt_or_gt_of_ne hjm with h|h
     ·left;rw[<-yI];exact yB _ h
     ·right;rw[<-yI];exact yB _ h
    apply List.ext_getElem?;intro a;simp only[yA,y8,zl,zR,yu,h6',yl];by_cases e1:a<(U.sz q)
    ·rw[bD e1,bD e1];rcases hcase with hc|hc
     ·rw[bD (by omega),bD (by omega),bD (by omega)]
     ·rw[bL (by omega)]
      congr 1
      omega
    ·rw[bL e1,bL e1]
   rw[e];exact(h3 j hj).mono hal
end
inductive F2 {α:Type} {β:Type} (R:α->β->Prop):List α->List β->Prop
 |nil:F2 R [] []
 |cons {a:α} {b:β} {as0:List α} {bs:List β} (h:R a b) (hs:F2 R as0 bs):F2 R (a::as0) (b::bs)
def SC(us:aa Value):∀(k off:Nat) (init:Array Value),off+k+us.length<=init.size->
  ((us.zipIdx k).foldl (λcs (p:Value×Nat)=>cs.setIfInBounds (off+p.2) p.1) init).toList=init.toList.take (off+k)++us++init.toList.drop (off+k+us.length):=by
 induction us with
 |nil=>intro k off init h;simp
 |cons u us ih=>
  intro k off init h;simp only[wg]at h;rw[List.zipIdx_cons,List.foldl_cons,ih (k+1) off _ (by simp;omega)];have h1:off+k<init.toList.length:=by simp;omega
  rw[Array.toList_setIfInBounds];have e1:(init.toList.set (off+k) u).take (off+(k+1))=init.toList.take (off+k)++[u]:=by
   rw[wu,bD h1];have e:off+(k+1)=(init.toList.take (off+k)).length+1:=by rw[zR];omega
   rw[e,List.take_length_add_append];simp
  have e2:(init.toList.set (off+k) u).drop (off+(k+1)+us.length)=init.toList.drop (off+k+(us.length+1)):=by
   rw[List.drop_set_of_lt (by omega)]
   congr 1
   omega
  rw[e1,e2];simp
def placesOf(P:Program)(T:TypeId):af (aa (Nat×Nat)):=match P.underlying T with
 |some (.struct fields)=>fields.toList.mapM λf=>(P.info? f.type).map λi=>(f.offset,i.size)
 |_=>S
def jh(P:Program)(T:TypeId):af (aa Value):=(P.info? T).bind λi=>i.zero.map (·.cells.toList)
section
variable {P:Program} {E:Env} {σ:aa cG} {o:Oper} {T T' e:TypeId} {x y z:Operand} {av bv:AV} {v u:Value} {m n:Int} {b:Bool} {k:IntKind} {C:Cx} {X:aa Nat}
def J3{ps:Array (Nat×Operand)}{ρ:Operand->Value}:(ps.map λ(i,x)=>(i,ρ x)).toList=ps.toList.map λp=>(p.1,ρ p.2):=by
 rw[Array.toList_map]
def j8{q:Nat}:∀(l:aa (U.dc q)),(∀i,i<l.length->(U.cells q l[i]!).length=(U.sz q))->(l.flatMap (U.cells q)).length=l.length*(U.sz q)/\∀i,i<l.length->((l.flatMap (U.cells q)).drop (i*(U.sz q))).take (U.sz q)=U.cells q l[i]!
 |[],_=>⟨by simp,λi hi=>by cases hi⟩
 |x::l,h=>by
  have h0:(U.cells q x).length=(U.sz q):=h 0 (by simp);obtain⟨h1,h2⟩:=j8 l λi hi=>by
   have:=h (i+1) (by simpa using hi)
   rwa [show (x::l)[i+1]! =l[i]! from by rw[getElem!_pos _ (i+1) (by simpa using hi),getElem!_pos l i hi];rfl]at this
  refine⟨by rw[xA,zl,h0,h1,wg,yI];omega,λi hi=> ?_⟩;rw[xA];cases i with
  |zero=>
   rw[Nat.zero_mul,xB,<-h0,List.take_left']
   ·rfl
   ·rfl
  |succ i=>
   have hi':i<l.length:=by simpa using hi
   rw[show (x::l)[i+1]! =l[i]! from by rw[getElem!_pos _ (i+1) (by simpa using hi'),getElem!_pos l i hi'];rfl,<-h2 i hi'];rw[show (i+1)*(U.sz q)=(U.cells q x).length+i*(U.sz q)from by rw[h0,yI];omega,<-zV,List.drop_left'];rfl
def Ct{A:Nat->Prop}{w:World}{q:Nat}{l:aa (U.dc q)}{us:aa Value}(hr:gE w v q (U.sz q) l.length us)(hz:∀i,i<l.length->(U.cells q l[i]!).length=(U.sz q))(h:bJ A w (l.flatMap (U.cells q)) us):cG.ok A w (.row v q l):=
 ⟨us,hr,hz,λi hi=>by rw[<-(j8 l hz).2 i hi];exact(h.drop _).take _⟩
def AW{A:Nat->Prop}{w:World}{q:Nat}{l:aa (U.dc q)}(h:cG.ok A w (.row v q l)):∃us,gE w v q (U.sz q) l.length us/\(∀i,i<l.length->(U.cells q l[i]!).length=(U.sz q))/\bJ A w (l.flatMap (U.cells q)) us:=by
 obtain⟨us,h1,h2,h3⟩:=h;refine⟨us,h1,h2,?_⟩;obtain⟨f1,f2⟩:=j8 l h2;refine⟨by rw[f1,h1.1],λj a u ha hu=> ?_⟩;have hj:j<l.length*(U.sz q):=by rw[<-f1];exact(zY.1 ha).1
 have hsz:0<(U.sz q):=by
  rcases Nat.eq_zero_or_pos (U.sz q)with h|h
  ·rw[h]at hj;omega
  ·exact h
 have hi:j/(U.sz q)<l.length:=by rw[Nat.div_lt_iff_lt_mul hsz];exact hj
 have hm:j%(U.sz q)<(U.sz q):=xb _ hsz;have he:j/(U.sz q)*(U.sz q)+j%(U.sz q)=j:=by rw[Nat.mul_comm];exact Nat.div_add_mod j (U.sz q)
 refine(h3 _ hi).2 (j%(U.sz q)) a u ?_ ?_
 ·rw[<-f2 _ hi,yA,bD hm,yu,he];exact ha
 ·rw[yA,bD hm,yu,he];exact hu
def get_append_left!{q:Nat}(l l2:aa (U.dc q))(i:Nat)(h:i<l.length):(l++l2)[i]! =l[i]! :=by
 rw[getElem!_pos _ i (by rw[zl];omega),List.getElem_append_left h,<-getElem!_pos l i h]
def get_append_right!{q:Nat}(l l2:aa (U.dc q))(i:Nat)(h:l.length<=i)(h2:i<l.length+l2.length):(l++l2)[i]! =l2[i-l.length]! :=by
 rw[getElem!_pos _ i (by rw[zl];exact h2),List.getElem_append_right h,<-getElem!_pos l2 (i-l.length) (by omega)]
def Je{q:Nat}{l l2:aa (U.dc q)}(h:∀i,i<l.length->(U.cells q l[i]!).length=(U.sz q))(h2:∀i,i<l2.length->(U.cells q l2[i]!).length=(U.sz q)):∀i,i<(l++l2).length->(U.cells q (l++l2)[i]!).length=(U.sz q):=λi hi=>by
 rw[zl]at hi;by_cases hlt:i<l.length
 ·rw[get_append_left! _ _ _ hlt];exact h i hlt
 ·rw[get_append_right! _ _ _ (by omega) hi];exact h2 _ (by omega)
def M8{zs:aa Value}{sz n:Nat}(hsz:zs.length=sz)(hpos:0<sz):((Array.range (n*sz)).map (zs.toArray[· %zs.toArray.size]!)).toList=(zo n zs).flatten:=by
 apply List.ext_getElem?;intro j;have hfl:(zo n zs).flatten.length=n*sz:=by simp[hsz]
 have hq:∀(q:Nat) (j:Nat),j<q*sz->(zo q zs).flatten[j]? =zs[j%sz]? :=by
  intro q;induction q with
  |zero=>intro j hj;simp at hj
  |succ q ih=>
   intro j hj;rw[yJ,wh,y8];split
   ·rename_i h;rw[hsz]at h;rw[Nat.mod_eq_of_lt h]
   ·rename_i h;rw[hsz]at h;rw[hsz,ih _ (by rw[yI]at hj;omega),Nat.mod_eq_sub_mod (by omega:sz<=j)]
 by_cases hj:j<n*sz
 ·rw[hq n j hj];have hmod:j%sz<sz:=xb _ hpos;simp[hj,hsz,hmod]
 ·rw[we (l:=(zo n zs).flatten) (by rw[hfl];omega)];simp[hj]
def Yv.lit{len:Nat}{ps:Array (Nat×Operand)}{zs:aa Value}(l:aa (U.dc e))(ho:o.op= .buildSlice T len ps)(hT:P.underlying T=I (.slice e))(hs:(P.info? e).map (·.size)=I (U.sz e))(hz:jh P e=I zs)
  (hzl:zs.length=(U.sz e)) (hf:∀A w ρ,Hd A σ w->K9 A w E ρ->∃us:Array Value,Instr.fill (λi=>I (i*(U.sz e),(U.sz e))) (zo len zs).flatten.toArray (ps.toList.map λp=>(p.1,ρ p.2))=I us/\bJ A w (l.flatMap (U.cells e)) us.toList) (hl:l.length=len) (hu:∀i,i<l.length->(U.cells e l[i]!).length=(U.sz e)) (hpos:0<len*(U.sz e)) (hsm:len*(U.sz e)<=2^24):
  Yv P E σ o C [] (λa σ'=>∃v,a= .lit v/\σ'= .row v e l::σ):=λw ρ hg hρ=>by
 obtain⟨it,hit,hz1⟩:=zn.1 hz;obtain⟨zv,hz2,hz3⟩:=zk.1 hz1;obtain⟨ie,hie,hse⟩:=zk.1 hs;have hee:it=ie:=by rw[hit]at hie;exact zD.inj hie
 subst hee;have hzc:zv.cells=zs.toArray:=by rw[<-hz3]
 obtain⟨us,h1,h2⟩:=hf _ w ρ hg.hd hρ;have hrun:=run_buildSlice (P:=P) w T e len (ps.map λ(i,x)=>(i,ρ x)) us it zv hT hit hz2 (by rw[hse];omega) (by rw[hse];omega) (by
  rw[hse,hzc,J3,<-h1]
  congr 1
  apply Array.ext';exact M8 hzl (Nat.pos_of_mul_pos_left hpos))
 have hlp:0<len:=Nat.pos_of_mul_pos_right hpos;have hlen:us.toList.length=len*(U.sz e):=by rw[h2.1,(j8 l hu).1,hl]
 refine⟨_,w.alloc (.cells us e),_,_,⟨.slice (I ⟨w.heap.size,0,S⟩) len len,rfl,rfl⟩,?_,by simp[execOp,ho,hrun], .lit _⟩;obtain⟨ln,rfl⟩:∃ln,len=ln+1:=⟨len-1,by omega⟩;refine o6 (r:= .row (.slice (I ⟨w.heap.size,0,S⟩) (ln+1) (ln+1)) e l) hg (jr w _) (.inr rfl) (Ct (us:=us.toList) ?_ hu ?_)
 ·rw[hl];refine⟨hlen, .inr ⟨w.heap.size,ln,us,rfl,heap_alloc_new w _,zG _,?_,by rw[<-yl,hlen],by rw[<-hlen,zI]⟩⟩;have:ln+1<=(ln+1)*(U.sz e):=Nat.le_mul_of_pos_right _ (Nat.pos_of_mul_pos_left hpos);unfold maxLen;omega
 ·exact IF (r:= .row (.slice (I ⟨w.heap.size,0,S⟩) (ln+1) (ln+1)) e l) h2 (.inr rfl) (jr w _)
def Yv.awC{s:Nat}(ho:o.op= .buildSlice T 0 #[])(hT:P.underlying T=I (.slice e))(hs:(P.info? e).map (·.size)=I s):Yv P E σ o C [] (λa σ'=>∃v,a= .lit v/\σ'= .row v e ([]:aa (U.dc e))::σ):=λw ρ hg hρ=>by
 obtain⟨j,hj,hj'⟩:=zk.1 hs;refine⟨_,w.alloc (.cells #[] e),_,_,⟨.slice (I ⟨w.heap.size,0,S⟩) 0 0,rfl,rfl⟩,o6 hg (jr w _) (.inl rfl) ⟨[],⟨by simp, .inl ⟨_,rfl,rfl⟩⟩,λi hi=>by simp at hi,λi hi=>by simp at hi⟩,?_, .lit _⟩;simp[execOp,ho,Instr.buildSlice,run_underlying hT,sizeOf,typeInfo,hj,Instr.fill,newRow];rw[show Array.range 0=#[]from rfl,Array.map_empty]
def Yv.make{by':Nat}{zs:aa Value}(d:U.dc e)(ho:o.op= .makeSlice T x y)(hx:E.ev x=I (.i m))(hy:E.ev y=I (.i n))(hT:P.underlying T=I (.slice e))(hs:(P.info? e).map (λi=>(i.size,i.bytes))=I ((U.sz e),by'))(hz:jh P e=I zs)(hb:ye by' 4096=J)(hsz:zs.length=(U.sz e))(hd:∀A w,bJ A w (U.cells e d) zs)(hpos:0<(U.sz e))
  (hm:0<=m/\m<=n/\n<=1073741824):Yv P E σ o C [] (λa σ'=>∃v,a= .lit v/\σ'= .row v e (zo m.toNat d)::σ):=λw ρ hg hρ=>by
 obtain⟨it,hit,hz1⟩:=zn.1 hz;obtain⟨zv,hz2,hz3⟩:=zk.1 hz1;obtain⟨ie,hie,hse⟩:=zk.1 hs;have hee:it=ie:=by rw[hit]at hie;exact zD.inj hie
 subst hee;simp only[Prod.mk.injEq]at hse;obtain⟨s1,s2⟩:=hse;have hzc:zv.cells=zs.toArray:=by rw[<-hz3]
 have hby:by'<=4096:=by simpa using hb
 obtain⟨mm,rfl⟩:∃mm:Nat,m=mm:=⟨m.toNat,by omega⟩;obtain⟨nn,rfl⟩:∃nn:Nat,n=nn:=⟨n.toNat,by omega⟩;have hbb:(it.bytes:Int)*(nn:Int)<=281474976710656:=by
  have h1:it.bytes*nn<=4096*1073741824:=Nat.mul_le_mul (by omega) (by omega);have h':((it.bytes*nn:Nat):Int)<=281474976710656:=by omega
  rwa [xq]at h'
 have hrun:=run_make (P:=P) w T e it zv hT hit hz2 .i64 .i64 mm nn (by omega) (by omega) hbb (by omega);rw[zf,zf]at hrun;have hx':=(hρ _ _ hx).cH;have hy':=(hρ _ _ hy).cH;refine⟨.slice (I ⟨w.heap.size,0,S⟩) mm nn,w.alloc (.cells (madeCells zv.cells (nn*it.size)) e),_,_,⟨.slice (I ⟨w.heap.size,0,S⟩) mm nn,rfl,rfl⟩,?_,?_, .lit _⟩
 ·rw[zf];have hcells:(madeCells zv.cells (nn*it.size)).toList=(zo nn zs).flatten:=by
   rw[hzc,s1];unfold madeCells;apply List.ext_getElem?;intro j;have hfl:(zo nn zs).flatten.length=nn*(U.sz e):=by simp[hsz]
   have hq:∀(q:Nat) (j:Nat),j<q*(U.sz e)->(zo q zs).flatten[j]? =zs[j%(U.sz e)]? :=by
    intro q;induction q with
    |zero=>intro j hj;simp at hj
    |succ q ih=>
     intro j hj;rw[yJ,wh,y8];split
     ·rename_i h;rw[hsz]at h;rw[Nat.mod_eq_of_lt h]
     ·rename_i h;rw[hsz]at h;rw[hsz,ih _ (by rw[yI]at hj;omega),Nat.mod_eq_sub_mod (by omega:(U.sz e)<=j)]
   by_cases hj:j<nn*(U.sz e)
   ·rw[hq nn j hj];have hmod:j%(U.sz e)<(U.sz e):=xb _ hpos;simp[hj,hsz,hmod]
   ·rw[we (l:=(zo nn zs).flatten) (by rw[hfl];omega)];simp[hj]
  by_cases hn0:nn=0
  ·have hm0:mm=0:=by omega
   subst hn0 hm0;exact o6 hg (jr w _) (.inl rfl) ⟨[],⟨by simp, .inl ⟨_,rfl,rfl⟩⟩,λi hi=>by simp at hi,λi hi=>by simp at hi⟩
  ·obtain⟨nk,rfl⟩:∃nk,nn=nk+1:=⟨nn-1,by omega⟩;have hu:∀i,i<(zo mm d).length->(U.cells e (zo mm d)[i]!).length=(U.sz e):=λi hi=>by
    rw[getElem!_pos _ i hi,List.getElem_replicate,<-(hd (λ_=>True) w).1,hsz]
   have hfl:∀q,(zo q zs).flatten.length=q*(U.sz e):=λq=>by simp[hsz]
   have hfl2:∀(A:Nat->Prop) (w:World) (q:Nat),bJ A w ((zo q d).flatMap (U.cells e)) (zo q zs).flatten:=λA w q=>by
    induction q with
    |zero=>exact bJ.nil
    |succ q ih=>rw[yJ,yJ,xA,wh];exact(hd A w).app ih
   have htk:∀q q':Nat,q<=q'->((zo q' zs).flatten).take (q*(U.sz e))=(zo q zs).flatten:=λq q' h=>by
    obtain⟨r,rfl⟩:∃r,q'=q+r:=⟨q'-q,by omega⟩;rw[<-List.replicate_append_replicate,List.flatten_append,<-hfl q];exact List.take_left
   refine o6 (r:= .row (.slice (I ⟨w.heap.size,0,S⟩) mm (nk+1)) e (zo mm d)) hg (jr w _) (.inr rfl) (Ct (us:=(zo mm zs).flatten) ?_ hu ?_)
   ·rw[xS];refine⟨hfl mm, .inr ⟨w.heap.size,nk,_,rfl,heap_alloc_new w _,by omega,by unfold maxLen;omega,?_,by rw[hcells];exact htk _ _ (by omega)⟩⟩;rw[<-yl,hcells,hfl]
   ·exact hfl2 _ _ _
 ·simp[execOp,ho,hx',hy',hrun]
def BR{w:World}{ty:TypeId}{i:TypeInfo}{zz:Value}{sz by' nn mm:Nat}{us news:aa Value}{xs:Value}(ht:P.underlying T=I (.slice e))(hi:P.info? e=I i)(hz:i.zero=I zz)(hs:i.size=sz)(hby:i.bytes=by')(hzs:zz.cells.size=sz)
  (hrow:gE w v e sz nn us) (hx:∃p c,xs= .slice p mm c/\(mm=0\/∃a,p=I a/\∀j u,news[j]? =I u->w.cell? (a.add j)=I u)) (hl:news.length=mm*sz) (h1:∀u∈news,u.oneCell'=J) (h63:nn+mm<=maxLen) (hb:(nn+mm)*by'<=140737488355328):
  ∃v' w',(Builtin.append_ #[T,T] ty #[v,xs]).run P w= .ok v' w'/\gE w' v' e sz (nn+mm) (us++news)/\Kp (gh v).toList w w'/\(gh v'=gh v\/gh v'=I w.heap.size):=by
 subst hs hby
 obtain⟨p,cx,rfl,hx⟩:=hx;by_cases hm:mm=0
 ·subst hm;have hn:news=[]:=yX (by simpa using hl);subst hn;obtain⟨q,cap,rfl,hcap⟩:=hrow.len;have hf:∀w,(Builtin.firstCells i.size 0 (.slice p 0 cx)).run P w= .ok #[] w:=λw=>by
   cases p<;>simp[Builtin.firstCells,loadCells,loadCellsFrom]
  have hrun:(Builtin.append_ #[T,T] ty #[.slice q nn cap, .slice p 0 cx]).run P w= .ok (.slice q nn cap) w:=by
   cases q<;>simp[Builtin.append_,run_underlying ht,sizeOf,typeInfo,hi,Builtin.lenOf,hf,hcap,storeCells]
  exact⟨_,w,hrun,by simpa using hrow,Kp.refl _ _, .inl rfl⟩
 ·obtain⟨a,rfl,hc⟩:=hx.resolve_left hm;have grown:∀(olds:aa Value) (old:Nat),olds.length=nn*i.size->old<nn+mm->us=olds->
    gE (w.drew.alloc (.cells (olds.toArray++news.toArray++Builtin.zeroCells zz.cells (grownCap w (nn+mm) old e-(nn+mm))) e)) (.slice (I ⟨w.heap.size,0,S⟩) (nn+mm) (grownCap w (nn+mm) old e)) e i.size (nn+mm) (us++news):=by
   intro olds old hol hlt hus;subst hus;have hge:=grownCap_ge w (nn+mm) old e;have hcm:=grownCap_le_maxLen w (nn+mm) old e h63;obtain⟨ck,hck⟩:∃ck,grownCap w (nn+mm) old e=ck+1:=⟨grownCap w (nn+mm) old e-1,by omega⟩;refine⟨by rw[zl,hol,hl,yf], .inr ⟨w.heap.size,ck,_,by rw[hck],heap_alloc_new w.drew _,by omega,by omega,?_,?_⟩⟩
   ·rw[<-hck];simp only[Array.size_append,y9,size_zeroCells,hzs,hol,hl,<-yf]
    congr 1
    omega
   ·simp only[Array.toList_append,yQ];rw[<-yQ,show (nn+mm)*i.size=(us++news).length from by rw[zl,hol,hl,yf]];exact List.take_left
  rcases hrow.2 with ⟨q,rfl,rfl⟩|⟨g,cap,cur,rfl,hg,hnc,hcm,hcs,htake⟩
  ·have hu:us=[]:=yX (by simpa using hrow.1);have hgr:=grown [] 0 (by simp) (by omega) hu;rw[yw]at hgr hb h63;have hgc:=grownCap_ge w mm 0 e;have hrb:gh (.slice (I ⟨w.heap.size,0,S⟩) mm (grownCap w mm 0 e))=I w.heap.size:=by
    obtain⟨ck,hck⟩:∃ck,grownCap w mm 0 e=ck+1:=⟨grownCap w mm 0 e-1,by omega⟩;rw[hck];rfl
   have h63':(mm:Int)<=9223372036854775807:=by unfold maxLen at h63;omega
   cases q with
   |none=>
    have hr:=run_append_nil (P:=P) w T ty e i zz ht hi hz a mm cx news hl hc (by omega) h63' (by omega);refine⟨_,_,hr,?_,EU w _, .inr hrb⟩;rw[yw];simpa using hgr
   |some b=>
    have hr:=run_append_grow (P:=P) w T ty e i zz ht hi hz b 0 0 [] (by simp) (λj v hj=>by cases hj) a mm cx news hl hc (by omega) (by simpa using h63') (growslice_fits (by omega) (by rw[yw];exact hb));refine⟨_,_,hr,?_,EU w _, .inr (by rw[yw];exact hrb)⟩;rw[yw];exact hgr
  ·by_cases hroom:nn+mm<=cap+1
   ·have hfit:nn*i.size+news.length<=cur.size:=by rw[hl,hcs,<-yf];exact yB _ hroom
    have hr:=run_append_room (P:=P) w T ty e i ht hi g nn (cap+1) cur hg a mm cx news hl hc h1 hroom hfit;refine⟨_,_,hr,⟨by rw[zl,hrow.1,hl,yf], .inr ⟨g,cap,_,rfl,setRow_heap w g cur _ e _ hg,hroom,hcm,?_,?_⟩⟩,l6 w g _, .inl rfl⟩
    ·simp only[y9,zl,zR,yj,yl];omega
    ·rw[htake,show (nn+mm)*i.size=(us++news).length from by rw[zl,hrow.1,hl,yf]];exact List.take_left
   ·have holds:∀j v,us[j]? =I v->w.cell? ((⟨g,0,S⟩:Addr).add j)=I v:=λj v hj=>by
     rw[o5,yw];exact hrow.cells rfl j v hj
    have h63':((nn+mm:Nat):Int)<=9223372036854775807:=by unfold maxLen at h63;omega
    have hr:=run_append_grow (P:=P) w T ty e i zz ht hi hz ⟨g,0,S⟩ nn (cap+1) us hrow.1 holds a mm cx news hl hc (by omega) h63' (growslice_fits (by omega) hb);have hgr:=grown us (cap+1) hrow.1 (by omega) rfl;have hgc:=grownCap_ge w (nn+mm) (cap+1) e;refine⟨_,_,hr,hgr,⟨rfl,rfl,rfl,by simp,λk hk _=>heap_alloc_old w.drew _ hk⟩, .inr ?_⟩;obtain⟨ck,hck⟩:∃ck,grownCap w (nn+mm) (cap+1) e=ck+1:=⟨grownCap w (nn+mm) (cap+1) e-1,by omega⟩;rw[hck];rfl
def Src(σ:aa cG)(E:Env)(x:Operand)(e:TypeId)(l:aa (U.dc e)):Prop:=
 (∃p c,E.ev x=I (.lit (.slice p 0 c))/\l=[])\/E.ev x=I (.sl e l)\/∃(i:Nat) (v:Value),E.ev x=I (.lit v)/\σ[i]? =I (.row v e l)
def Src.spec{q:Nat}{l:aa (U.dc q)}{A:Nat->Prop}{w:World}{ρ:Operand->Value}(h:Src σ E x q l)(hd:Hd A σ w)(hρ:K9 A w E ρ):∃p cap news,ρ x= .slice p l.length cap/\(l.length=0\/∃a,p=I a/\∀j u,news[j]? =I u->w.cell? (a.add j)=I u)/\news.length=l.length*(U.sz q)/\(∀i,i<l.length->(U.cells q l[i]!).length=(U.sz q))/\bJ A w (l.flatMap (U.cells q)) news/\l.length<=9223372036854775807:=by
 rcases h with ⟨p,c,h,rfl⟩|h|⟨i,v,h,hσ⟩
 ·exact⟨p,c,[],(hρ _ _ h).cH, .inl rfl,by simp,λi hi=>by simp at hi,bJ.nil,by simp⟩
 ·have hr:=hρ _ _ h;obtain⟨p,cap,u,hv,hl,_,hz,hc,hcr⟩:=hr.sR;rw[hv]at hr
  let news:aa Value:=(zO l.length).flatMap λi=>(zO (U.sz q)).map λj=>u i j
  have hnl:∀(z:aa Nat),(z.flatMap λi=>(zO (U.sz q)).map λj=>u i j).length=z.length*(U.sz q):=λz=>by
   induction z with
   |nil=>simp
   |cons a z ih=>rw[xA,zl,ih,zA,xk,wg,yI];omega
  have hnews:news.length=l.length*(U.sz q):=by rw[hnl,xk]
  have hget:∀n i j,i<n->j<(U.sz q)->((zO n).flatMap λi=>(zO (U.sz q)).map λj=>u i j)[i*(U.sz q)+j]? =I (u i j):=by
   intro n;induction n with
   |zero=>intro i j hi _;omega
   |succ n ih=>
    intro i j hi hj;rw[List.range_succ,List.flatMap_append,y8,hnl,xk];by_cases hin:i<n
    ·have:i*(U.sz q)+(U.sz q)<=n*(U.sz q):=by rw[<-yI];exact yB _ hin
     rw[bD (by omega)];exact ih i j hin hj
    ·have:i=n:=by omega
     subst this;rw[bL (by omega)];simp[hj]
  refine⟨p,cap,news,hv,?_,hnews,hz,?_,hl⟩
  ·by_cases h0:l.length=0
   ·exact .inl h0
   ·obtain⟨b,off,hp,hb,hA,hcc⟩:=hc 0 (by omega);refine .inr ⟨⟨b,off,S⟩,hp,λj v hj=> ?_⟩;have hjl:j<l.length*(U.sz q):=by rw[<-hnews];exact(zY.1 hj).1
    have hsz:0<(U.sz q):=by
     rcases Nat.eq_zero_or_pos (U.sz q)with h|h
     ·rw[h]at hjl;omega
     ·exact h
    have hi:j/(U.sz q)<l.length:=by rw[Nat.div_lt_iff_lt_mul hsz];exact hjl
    have hm:j%(U.sz q)<(U.sz q):=xb _ hsz;have he:j/(U.sz q)*(U.sz q)+j%(U.sz q)=j:=by rw[Nat.mul_comm];exact Nat.div_add_mod j (U.sz q)
    have h2:=hget l.length (j/(U.sz q)) (j%(U.sz q)) hi hm;rw[he]at h2;have h3:I v=I (u (j/(U.sz q)) (j%(U.sz q))):=by rw[<-hj,<-h2]
    cases h3;obtain⟨b',off',hp',_,_,hcc'⟩:=hc (j/(U.sz q)) hi;rw[hp]at hp';cases hp';have h4:=hcc' (j%(U.sz q)) hm;rw[o5,show off+j=off+j/(U.sz q)*(U.sz q)+j%(U.sz q)from by omega];exact h4
  ·obtain⟨f1,f2⟩:=j8 l hz;refine⟨by rw[f1,hnews],λj a w' ha hw'=> ?_⟩;have hjl:j<l.length*(U.sz q):=by rw[<-hnews];exact(zY.1 hw').1
   have hsz:0<(U.sz q):=by
    rcases Nat.eq_zero_or_pos (U.sz q)with h|h
    ·rw[h]at hjl;omega
    ·exact h
   have hi:j/(U.sz q)<l.length:=by rw[Nat.div_lt_iff_lt_mul hsz];exact hjl
   have hm:j%(U.sz q)<(U.sz q):=xb _ hsz;have he:j/(U.sz q)*(U.sz q)+j%(U.sz q)=j:=by rw[Nat.mul_comm];exact Nat.div_add_mod j (U.sz q)
   have h2:=hget l.length (j/(U.sz q)) (j%(U.sz q)) hi hm;rw[he]at h2;have h3:I w'=I (u (j/(U.sz q)) (j%(U.sz q))):=by rw[<-hw',<-h2]
   cases h3;refine hcr (j/(U.sz q)) (j%(U.sz q)) a hi ?_;rw[<-f2 _ hi,yA,bD hm,yu,he];exact ha
 ·obtain⟨us,h1,h2,h3⟩:=AW (hd.1 _ (List.mem_of_getElem? hσ));obtain⟨p,cap,hv,_⟩:=h1.len;have hx':=(hρ _ _ h).cH;have hlm:l.length<=9223372036854775807:=by
   rcases h1.2 with ⟨_,_,h⟩|⟨_,_,_,_,_,q1,q2,_⟩
   ·omega
   ·unfold maxLen at q2;omega
  refine⟨p,cap,us,by rw[hx',hv],?_,h1.1,h2,h3,hlm⟩;by_cases h0:l.length=0
  ·exact .inl h0
  ·obtain⟨g,ck,cur,hv2,hgb,_⟩:=h1.at (by omega);rw[hv2]at hv;cases hv;refine .inr ⟨_,rfl,λj u hj=> ?_⟩;rw[o5,yw];exact h1.cells hgb j u hj
def Yv.app{by':Nat}{l l2:aa (U.dc e)}{zs:aa Value}(i:Nat)(ho:o.op= .call {callee:= .builtin .append,args:=#[x,y],argTypes:=#[T,T]})(hx:E.ev x=I (.lit v))(hσ:σ[i]? =I (.row v e l))(hy:Src σ E y e l2)(hT:P.underlying T=I (.slice e))(hs:(P.info? e).map (λi=>(i.size,i.bytes))=I ((U.sz e),by'))(hz:jh P e=I zs)(hzl:zs.length=(U.sz e))(hb:ye by' 4096=J)
  (h1:∀x:U.dc e,(U.cells e x).all gG=J) (hlen:(l++l2).length<=1073741824):Yv P E σ o C (xz (gh v)) (λa σ'=>∃v',a= .lit v'/\σ'=σ.set i (.row v' e (l++l2))):=λw ρ hg hρ=>by
 obtain⟨it,hit,hz1⟩:=zn.1 hz;obtain⟨zv,hz2,hz3⟩:=zk.1 hz1;obtain⟨ie,hie,hse⟩:=zk.1 hs;have hee:it=ie:=by rw[hit]at hie;exact zD.inj hie
 subst hee;simp only[Prod.mk.injEq]at hse;obtain⟨s1,s2⟩:=hse;have hby:by'<=4096:=by simpa using hb
 obtain⟨us,g1,g2,g3⟩:=AW (hg.res _ (List.mem_of_getElem? hσ));obtain⟨p,cap,news,q1,q2,q3,q4,q5,q6⟩:=hy.spec hg.hd hρ;have hx':=(hρ _ _ hx).cH;have hone:∀u∈news,u.oneCell'=J:=q5.one (by
  rw[zu];intro a ha;obtain⟨x,_,hx⟩:=xT.1 ha;exact zu.1 (h1 x) a hx)
 rw[zl]at hlen;have hbytes:(l.length+l2.length)*by'<=140737488355328:=by
  have:(l.length+l2.length)*by'<=1073741824*4096:=Nat.mul_le_mul hlen hby
  omega
 obtain⟨v',w',r1,r2,r3,r4⟩:=BR (P:=P) (T:=T) (ty:=o.type) (xs:=ρ y) hT hit hz2 s1 s2 (by rw[<-yl,hz3,hzl]) g1 ⟨p,cap,q1,q2⟩ q3 hone (by unfold maxLen;omega) hbytes;refine⟨v',w',_,_,⟨v',rfl,rfl⟩,Dk (r:= .row v e l) hg hσ r3 r4 (Ct (by rw[zl];exact r2) (Je g2 q4) ?_),?_, .lit _⟩
 ·rw[List.flatMap_append];refine(g3.app q5).mono λb hb hA=>⟨⟨hA.1,λhx=> ?_⟩,r3.block b hb (λhx=>hA.2 (bS.2 ⟨_,List.mem_of_getElem? hσ,by simpa [cG.blk]using hx⟩))⟩;obtain⟨s,hs1,hs2⟩:=bS.1 hx;rcases List.mem_or_eq_of_mem_set hs1 with h|h
  ·exact hA.2 (bS.2 ⟨s,h,hs2⟩)
  ·rw[h]at hs2;rcases r4 with r4|r4
   ·exact hA.2 (bS.2 ⟨_,List.mem_of_getElem? hσ,r4.symm.trans hs2⟩)
   ·have:I w.heap.size=I b:=r4.symm.trans hs2;cases this;omega
 ·simp[execOp,ho,resolve,invoke,builtin,hx',r1]
end
def Rel.alD{A:Nat->Prop}{w:World}{qt:Nat}{l:aa (U.dc qt)}{p:af Addr}{cap:Nat}(h:Rel A w (.sl qt l) (.slice p l.length cap)){lo hi cap':Nat}(h1:lo<=hi)(h2:hi<=l.length)(hc':hi-lo<=cap')(q:af Addr)(hq:hi-lo=0\/q=p.map (·.add (lo*(U.sz qt)))):
  Rel A w (.sl qt ((l.take hi).drop lo)) (.slice q (hi-lo) cap'):=by
 obtain⟨p',cp,u,hv,hl,hcap,hz,hc,hr⟩:=h.sR;cases hv;have hln:((l.take hi).drop lo).length=hi-lo:=by rw[yj,zR];omega
 have hget:∀i,i<hi-lo->((l.take hi).drop lo)[i]! =l[lo+i]! :=λi hi'=>by
  rw[getElem!_pos _ i (by rw[hln];exact hi'),getElem!_pos l (lo+i) (by omega),List.getElem_drop,List.getElem_take]
 have hgoal:Rel A w (.sl qt ((l.take hi).drop lo)) (.slice q ((l.take hi).drop lo).length cap'):=by
  refine .sl qt _ q cap' (λi j=>u (lo+i) j) (by omega) (by omega) (λi hi'=> ?_) (λi hi'=> ?_) (λi j a hi' ha=> ?_)
  ·rw[hln]at hi';rw[hget i hi'];exact hz _ (by omega)
  ·rw[hln]at hi';obtain⟨b,off,hp,hb,hA,hcc⟩:=hc (lo+i) (by omega);refine⟨b,off+lo*(U.sz qt),?_,hb,hA,λj hj=> ?_⟩
   ·rcases hq with hq|hq
    ·omega
    ·rw[hq,hp,yo,o5]
   ·have:=hcc j hj
    rwa [yf,<-xP]at this
  ·rw[hln]at hi';rw[hget i hi']at ha;exact hr _ j a (by omega) ha
 rwa [hln]at hgoal
section
variable {P:Program} {E E':Env} {σ σ':aa cG} {o:Oper} {T T' e:TypeId} {x y z:Operand} {av bv:AV} {v u:Value} {m n:Int} {b:Bool} {k k':IntKind} {C:Cx} {X:aa Nat}
def S4{w:World}{a:af Addr}{len cap lo hi:Nat}{s:Nat}{L H:af Value}(hT:P.underlying T=I (.slice e))(hs:(P.info? e).map (·.size)=I s)
  (hb:(Instr.sliceBounds J len cap L H S).run P w= .ok (lo,hi,cap) w):(Instr.slice T (.slice a len cap) L H S).run P w= .ok (.slice (if cap=lo then a else a.map (·.add (lo*s))) (hi-lo) (cap-lo)) w:=by
 obtain⟨j,hj,hj'⟩:=zk.1 hs;simp[Instr.slice,run_underlying hT,hb,sizeOf,typeInfo,hj,hj']
def Iq{w:World}{len cap:Nat}(hh:0<=m/\m<=n/\n<=(len:Int))(hc:len<=cap):(Instr.sliceBounds J len cap (I (.int k m)) (I (.int k' n)) S).run P w= .ok (m.toNat,n.toNat,cap) w:=by
 have h1:0<=n/\n<=(cap:Int):=by omega
 have h2:0<=m/\m<=((n.toNat:Nat):Int):=by omega
 simp[Instr.sliceBounds,Instr.sliceBound,asIntOf,h1];intro hc;exfalso;have:=hc (by omega);omega
def SN{w:World}{len cap:Nat}(hh:0<=n/\n<=(len:Int))(hc:len<=cap):(Instr.sliceBounds J len cap S (I (.int k' n)) S).run P w= .ok (0,n.toNat,cap) w:=by
 have h1:0<=n/\n<=(cap:Int):=by omega
 simp[Instr.sliceBounds,Instr.sliceBound,asIntOf,h1]
def RR{w:World}{len cap:Nat}(hh:0<=m/\m<=(len:Int)):(Instr.sliceBounds J len cap (I (.int k m)) S S).run P w= .ok (m.toNat,len,cap) w:=by
 simp[Instr.sliceBounds,Instr.sliceBound,asIntOf,hh]
def vJ{A:Nat->Prop}{w:World}{ρ:Operand->Value}{q:Nat}{l:aa (U.dc q)}{L H:af Operand}{lo hi:Nat}(ho:o.op= .slice T x L H S)(hx:Rel A w (.sl q l) (ρ x))(hT:P.underlying T=I (.slice e))(hs:(P.info? e).map (·.size)=I (U.sz q))(h1:lo<=hi)(h2:hi<=l.length)
  (hb:∀cap,l.length<=cap->∀w',(Instr.sliceBounds J l.length cap (L.map ρ) (H.map ρ) S).run P w'= .ok (lo,hi,cap) w'):∃v,Rel A w (.sl q ((l.take hi).drop lo)) v/\∀w':World,(execOp ρ o).run P w'= .ok (.value v) w':=by
 obtain⟨p,cap,u,hv,hl,hcap,_⟩:=hx.sR;rw[hv]at hx;refine⟨.slice (if cap=lo then p else p.map (·.add (lo*(U.sz q)))) (hi-lo) (cap-lo),hx.alD h1 h2 (by omega) _ ?_,λw'=> ?_⟩
 ·by_cases h:cap=lo
  ·left;omega
  ·right;rw[bL h]
 ·have:=S4 (P:=P) (T:=T) (w:=w') (a:=p) (len:=l.length) hT hs (hb cap hcap w');simp[execOp,ho,hv,Instr.sliceAt,run_underlying hT,this]
def Yp.ajy{q:Nat}{l:aa (U.dc q)}(ho:o.op= .slice T x (I y) (I z) S)(hx:E.ev x=I (.sl q l))(hy:E.ev y=I (.n k m))(hz:E.ev z=I (.n k' n))(hT:P.underlying T=I (.slice e))(hs:(P.info? e).map (·.size)=I (U.sz q))
  (hm:0<=m/\m<=n/\n<=(l.length:Int)):Yp P E σ o (.sl q ((l.take n.toNat).drop m.toNat)):=λA w ρ _ hρ=>by
 obtain⟨v,h1,h2⟩:=vJ (P:=P) (lo:=m.toNat) (hi:=n.toNat) ho (hρ _ _ hx) hT hs (by omega) (by omega) (λcap hc w'=>by
  simp only[yo,(hρ _ _ hy).cH,(hρ _ _ hz).cH];exact Iq hm hc)
 exact⟨v,h1,λw' _=>h2 w'⟩
def Yp.adG{q:Nat}{l:aa (U.dc q)}(ho:o.op= .slice T x S (I z) S)(hx:E.ev x=I (.sl q l))(hz:E.ev z=I (.n k' n))(hT:P.underlying T=I (.slice e))(hs:(P.info? e).map (·.size)=I (U.sz q))
  (hm:0<=n/\n<=(l.length:Int)):Yp P E σ o (.sl q (l.take n.toNat)):=λA w ρ _ hρ=>by
 obtain⟨v,h1,h2⟩:=vJ (P:=P) (lo:=0) (hi:=n.toNat) ho (hρ _ _ hx) hT hs (by omega) (by omega) (λcap hc w'=>by
  simp only[yo,Option.map_none,(hρ _ _ hz).cH];exact SN hm hc)
 exact⟨v,h1,λw' _=>h2 w'⟩
def Yp.Y6{q:Nat}{l:aa (U.dc q)}(ho:o.op= .slice T x (I y) S S)(hx:E.ev x=I (.sl q l))(hy:E.ev y=I (.n k m))(hT:P.underlying T=I (.slice e))(hs:(P.info? e).map (·.size)=I (U.sz q))
  (hm:0<=m/\m<=(l.length:Int)):Yp P E σ o (.sl q (l.drop m.toNat)):=λA w ρ _ hρ=>by
 obtain⟨v,h1,h2⟩:=vJ (P:=P) (lo:=m.toNat) (hi:=l.length) ho (hρ _ _ hx) hT hs (by omega) (by omega) (λcap hc w'=>by
  simp only[yo,Option.map_none,(hρ _ _ hy).cH];exact RR hm)
 rw[zI]at h1;exact⟨v,h1,λw' _=>h2 w'⟩
def Yv.P4{sz':Nat}{q:Nat}{l:aa (U.dc q)}(ho:o.op= .slice T x S (I (.const (.int k 0))) (I (.const (.int k' 0))))(hx:E.ev x=I (.sl q l)\/E.ev x=I (.lit (.slice S 0 0)))(hT:P.underlying T=I (.slice e))(hs:(P.info? e).map (·.size)=I sz'):
  Yv P E σ o C [] (λa σ'=>∃v,a= .lit v/\σ'= .row v e ([]:aa (U.dc e))::σ):=λw ρ hg hρ=>by
 obtain⟨j,hj,hj'⟩:=zk.1 hs;obtain⟨p,n,cap,hv⟩:∃p n cap,ρ x= .slice p n cap:=by
  rcases hx with hx|hx
  ·obtain⟨p,cap,u,hv,_⟩:=(hρ _ _ hx).sR;exact⟨p,_,cap,hv⟩
  ·exact⟨S,0,0,(hρ _ _ hx).cH⟩
 have h0:ρ (.const (.int k 0))= .int k 0:=(hρ (.const (.int k 0)) _ rfl).cH;have h0':ρ (.const (.int k' 0))= .int k' 0:=(hρ (.const (.int k' 0)) _ rfl).cH;refine⟨.slice p 0 0,w,_,_,⟨_,rfl,rfl⟩,o6 hg (Kp.refl [] w) (.inl (by cases p<;>rfl)) ⟨[],⟨by simp, .inl ⟨_,rfl,rfl⟩⟩,λi hi=>by simp at hi,λi hi=>by simp at hi⟩,?_, .lit _⟩;simp[execOp,ho,hv,h0,h0',Instr.sliceAt,Instr.slice,Instr.sliceBounds,Instr.sliceBound,run_underlying hT,sizeOf,typeInfo,hj,asIntOf]
def Yp.aj7{p:af Addr}{l c:Nat}(ho:o.op= .binOp .eql T x y T')(hx:E.ev x=I (.lit (.slice p l c)))(hy:E.ev y=I (.lit (.slice S 0 0)))(hT:P.underlying T=I (.slice e)):Yp P E σ o (.b p.isNone):=Yp.lits λρ hρ w=>by
 have:=Lib.run_eql_slice_nil (P:=P) w T e p l c 0 0 hT;simp[execOp,ho,hρ _ _ hx,hρ _ _ hy,eqGuard,this]
def M0{w:World}(p:af Addr)(q:Nat)(h:Good C σ w):Tr C [] σ w (.row (.slice p 0 0) q ([]:aa (U.dc q))::σ) w:=
 o6 h (Kp.refl [] w) (.inl (by cases p<;>rfl)) ⟨[],⟨by simp, .inl ⟨_,rfl,rfl⟩⟩,λi hi=>by simp at hi,λi hi=>by simp at hi⟩
def Vw(σ:aa cG)(a a':AV):Prop:=∀(A:Nat->Prop) (w:World) (v:Value),Hd A σ w->Rel A w a v->Rel (λb=>A b\/b∈bF σ) w a' v
def Vw.row{q:Nat}{l:aa (U.dc q)}(i:Nat)(hσ:σ[i]? =I (.row v q l)):Vw σ (.lit v) (.sl q l):=λA w u hd h=>by
 have hu:=h.cH;subst hu;have hm:=List.mem_of_getElem? hσ;obtain⟨us,h1,h2,h3⟩:=hd.1 _ hm;have hlm:l.length<=9223372036854775807:=by
  rcases h1.2 with ⟨_,_,h⟩|⟨_,_,_,_,_,q1,q2,_⟩
  ·omega
  ·unfold maxLen at q2;omega
 obtain⟨p,cap,hv,hcap⟩:=h1.len;by_cases h0:l.length=0
 ·rw[hv];exact .sl q l p cap (λ_ _=>undef) hlm hcap (λi hi=>by omega) (λi hi=>by omega) (λi j a hi=>by omega)
 ·obtain⟨g,ck,cur,hv2,hgb,hB,_⟩:=h1.at (by omega);rw[hv2]at hv;cases hv;rw[hv2];refine .sl q l _ (ck+1) (λi j=>(us[i*(U.sz q)+j]?).getD undef) hlm hcap h2 (λi hi=>⟨g,0,rfl,hB.lt, .inr (bS.2 ⟨_,hm,hgb⟩),λj hj=> ?_⟩) (λi j a hi ha=> ?_)
  ·have hlt:i*(U.sz q)+j<us.length:=by
    have:i*(U.sz q)+(U.sz q)<=l.length*(U.sz q):=by rw[<-yI];exact yB _ hi
    rw[h1.1];omega
   rw[yw,zq hlt];exact h1.cells hgb _ _ (zq hlt)
  ·obtain⟨u,q1,q2⟩:=(h3 i hi).get ha;rw[yA]at q1;split at q1
   ·rw[yu]at q1;rw[q1];exact q2.mono λb _ hA=>⟨.inl hA,rfl⟩
   ·cases q1
def Vw.nil(q:Nat):Vw σ (.lit (.slice S 0 0)) (.sl q ([]:aa (U.dc q))):=λA w u _ h=>by
 have hu:=h.cH;subst hu;exact .sl q [] none 0 (λ_ _=>undef) (by simp) (by simp) (λi hi=>by cases hi) (λi hi=>by cases hi) (λi j a hi=>by cases hi)
def NI{r:cG}{i:Nat}(hσ:σ[i]? =I r):List.Perm (bF σ) (bF (r::σ.eraseIdx i)):=by
 obtain⟨h1,_⟩:=u6 (r':=r) hσ;have h2:σ.eraseIdx i=σ.take i++σ.drop (i+1):=wv ..;rw[h2];have hp:List.Perm (σ.take i++r::σ.drop (i+1)) (r::(σ.take i++σ.drop (i+1))):=List.perm_middle;rw[<-h1]at hp;exact hp.filterMap _
def JQ{r:cG}{i:Nat}{w:World}(hσ:σ[i]? =I r)(hg:Good C σ w):∀b,(al C σ b\/b∈bF [r])->al C (σ.eraseIdx i) b:=λb hb=>by
 have hp:=NI hσ;have hnd:=hp.nodup_iff.1 hg.DS;rcases hb with hb|hb
 ·exact⟨hb.1,λhx=>hb.2 (hp.mem_iff.2 (by rw[eN];exact yF _ hx))⟩
 ·have hbs:b∈r.blk.toList:=by rw[eN]at hb;simpa [bF]using hb
  refine⟨?_,λhx=> ?_⟩
  ·rcases hg.own b (hp.mem_iff.2 (by rw[eN];exact yE _ hbs))with h|h
   ·exact .inr (.inl h)
   ·exact .inr (.inr h)
  ·rw[eN]at hnd;exact(yD.1 hnd).2.2 b hbs b hx rfl
end
def Fn(P:Program)(f:FuncId)(args:aa AV)(σ:aa cG)(Φ:AV->aa cG->Prop):Prop:=
 ∀(w:World) (A:Nat->Prop) (vs:aa Value),bJ A w args vs->Hd A σ w->(bF σ).Nodup->
  Calls P f vs.toArray w λe w'=>∃v av σ',e= .returned v/\Φ av σ'/\Tr ⟨w,A,bF σ⟩ (bF σ) σ w σ' w'/\Rel (al ⟨w,A,bF σ⟩ σ') w' av v
def Fn.mono{P:Program}{f:FuncId}{args:aa AV}{σ:aa cG}{Φ Ψ:AV->aa cG->Prop}(h:Fn P f args σ Φ)(hp:∀a s,Φ a s->Ψ a s):Fn P f args σ Ψ:=λw A vs h1 h2 h3=>
 (h w A vs h1 h2 h3).mono λ_ _ ⟨v,av,σ',q1,q2,q3⟩=>⟨v,av,σ',q1,hp _ _ q2,q3⟩
def eB:Nat->aa AV->Env
 |_,[]=>[]
 |i,v::l=>(i,v)::eB (i+1) l
def vS:∀(l:aa AV) (i t:Nat) (v:AV),Env.get (eB i l) t=I v->i<=t/\l[t-i]? =I v
 |[],_,_,_,h=>by cases h
 |u::l,i,t,v,h=>by
  by_cases hit:i=t
  ·subst hit;rw[eB,Env.eE]at h;cases h;simp
  ·rw[eB,Env.dy _ _ hit]at h;obtain⟨h1,h2⟩:=vS l (i+1) t v h;refine⟨by omega,?_⟩;rw[show t-i=(t-(i+1))+1 from by omega];simpa using h2
def acJ(P:Program)(C:Cx)(n:Nat)(fn:Func)(Φ:AV->aa cG->Prop):Exit->Env->aa cG->Prop:=λe E σ=>
 (e= .normal\/e= .ret)/\∀a w,rU C n E σ a w->∃v av σ',Φ av σ'/\(results fn a.tmps).run P w= .ok v w/\Good C σ' w/\(∀b,al C σ b->al C σ' b)/\Rel (al C σ') w av v
structure Tn (C:Cx) (w w':World):Prop where
 os:w'.os=w.os
 tape:w'.tape=w.tape
 output:w'.output=w.output
 size:w.heap.size<=w'.heap.size
 old:∀k,k<C.w0.heap.size->w'.heap[k]? =w.heap[k]?
 same:∀(b:Nat) cs T m,w.heap[b]? =I (Obj.cells cs T m)->w'.heap[b]? =w.heap[b]?
def Rel.GY{C:Cx}{A:Nat->Prop}{w w':World}{av:AV}{v:Value}(h:Rel A w av v)(ht:Tn C w w'):Rel A w' av v:=by
 have hcell:∀b i u,w.cell? ⟨b,i,S⟩=I u->w'.cell? ⟨b,i,S⟩=I u:=λb i u hc=>by
  rw[<-hc];cases hb:w.heap[b]? with
  |none=>simp[World.cell?,hb]at hc
  |some o=>
   cases o with
   |cells cs T m=>exact World.cell?_of_block (ht.same b cs T m hb)
   |_=>simp[World.cell?,hb]at hc
 induction h with
 |lit v=>exact .lit v
 |sl q l p cap u hl hcap hz hc hr ih=>
  refine .sl q l p cap u hl hcap hz (λi hi=> ?_) ih;obtain⟨b,off,h1,h2,h3,h4⟩:=hc i hi;exact⟨b,off,h1,xO h2 ht.size,h3,λj hj=>hcell _ _ _ (h4 j hj)⟩
 |fp cs b o us hb hA hl hc hr ih=>exact .fp cs b o us (xO hb ht.size) hA hl (λj v hj=>hcell _ _ _ (hc j v hj)) ih
 |rp v k g h=>exact .rp v k g h
 |agg cs us hl hr ih=>exact .agg cs us hl ih
 |iM cs us hl hr ih=>exact .iM cs us hl ih
 |fn f cs us hl hr ih=>exact .fn f cs us hl ih
def cG.ok.GY{C:Cx}{A:Nat->Prop}{w w':World}{r:cG}(h:r.ok A w)(ht:Tn C w w'):r.ok A w':=by
 cases r with
 |box b T cs=>
  obtain⟨us,h1,h2⟩:=h;exact⟨us,(ht.same _ _ _ _ h1).trans h1,h2.1,λj a v q1 q2=>(h2.2 j a v q1 q2).GY ht⟩
 |row v q l=>
  obtain⟨us,h1,h2,h3⟩:=h;refine⟨us,⟨h1.1,?_⟩,h2,λi hi=>⟨(h3 i hi).1,λj a v q1 q2=>((h3 i hi).2 j a v q1 q2).GY ht⟩⟩;rcases h1.2 with q|⟨g,cap,cur,rfl,q1,q2⟩
  ·exact .inl q
  ·exact .inr ⟨g,cap,cur,rfl,(ht.same _ _ _ _ q1).trans q1,q2⟩
def Good.GY{C:Cx}{σ:aa cG}{w w':World}(h:Good C σ w)(ht:Tn C w w'):Good C σ w':=
 ⟨⟨ht.os.trans h.kept.os,ht.tape.trans h.kept.tape,ht.output.trans h.kept.output,zH h.kept.size ht.size,λk hk hX=>(ht.old k hk).trans (h.kept.block k hk hX)⟩,
  λr hr=>(h.res r hr).GY ht,h.DS,h.own⟩
def Tn.putObj{C:Cx}{w:World}{D:Nat}{o:Obj}(o':Obj)(hw:C.w0.heap.size<=D)(hD:w.heap[D]? =I o)(ho:o.isCells=G):Tn C w (w.putObj D o'):=
 ⟨rfl,rfl,rfl,by simp[World.putObj],λk hk=>World.putObj_heap_other (by omega),λb cs T m hx=>World.putObj_heap_other λe=>by
  subst e;rw[hD]at hx;cases hx;cases ho⟩
def j7.GY{C:Cx}{A:Nat->Prop}{w w':World}{E:Env}{tmps:Array Value}(h:j7 A w E tmps)(ht:Tn C w w'):j7 A w' E tmps:=λt av q=>let ⟨v,h1,h2⟩:=h t av q;⟨v,h1,h2.GY ht⟩
def Fn.of{P:Program}{f:FuncId}{fn:Func}{c:Code}{n:Nat}{args:aa AV}{σ:aa cG}{Φ:AV->aa cG->Prop}(hf:P.funcs[f]? =I fn)(hb:fn.body=I c)(hn:fn.ntmps=n)(hl:ye args.length n=J)
  (h:∀C,CW P C n c (acJ P C n fn Φ) (eB 0 args) σ):Fn P f args σ Φ:=λw A vs hr hd hnd=>by
 have hl':args.length<=n:=by simpa using hl
 have hvl:=hr.1;have hal:∀b,b<w.heap.size->A b->al ⟨w,A,bF σ⟩ σ b:=λb _ hA=>⟨.inl hA,λhx=>hd.2 b hx hA⟩;have hgood:Good ⟨w,A,bF σ⟩ σ w:=⟨Kp.refl _ _,λr hr=>(hd.1 r hr).mono (λb hb hA=>⟨hal b hb hA,rfl⟩) (λ_ _=>rfl),hnd,λb hb=> .inl hb⟩;refine callsIn_wide.1 (callsIn_of_wp_marks (n:=0) hf hb trivial (wpIn_wide.2 (wp_mono (h ⟨w,A,bF σ⟩ _ w ⟨.nil rfl,?_,λt v ht=> ?_,hgood⟩) ?_)))
 ·simp[hn,hvl];omega
 ·obtain⟨_,h2⟩:=vS args 0 t v ht;rw[Nat.sub_zero]at h2;obtain⟨u,h3,h4⟩:=hr.get h2;have hlt:t<vs.length:=(zY.1 h3).1;refine⟨u,?_,h4.mono λb hb hA=>⟨hal b hb hA,rfl⟩⟩;rw[Array.getElem?_append_left (by simpa using hlt)];simpa using h3
 ·rintro e a' w' ⟨E',σ',h1,he,h2⟩;have fin:∀(w'':World),rU ⟨w,A,bF σ⟩ n E' σ' {a' with defers:=[]} w''->∃v,(results fn a'.tmps).run P w''= .ok v w''/\∃v' av σ'',Ending.returned v= .returned v'/\Φ av σ''/\Tr ⟨w,A,bF σ⟩ (bF σ) σ w σ'' w''/\Rel (al ⟨w,A,bF σ⟩ σ'') w'' av v':=λw'' hs=>by
   obtain⟨v,av,σ'',h3,h4,h5,h6,h7⟩:=h2 _ w'' hs;have hex:Tr ⟨w,A,bF σ⟩ (bF σ) σ w σ'' w'':=⟨h5,h5.kept,λb hb hA=>⟨⟨hA.1,λhx=>by
    rcases h5.own b hx with h|h
    ·exact hA.2 h
    ·exact dg hb (by have:w.heap.size<=b:=h;omega)⟩,hA.2⟩⟩
   exact⟨v,h4,v,av,σ'',rfl,h3,hex,h7⟩
  have lv:LeavesInM Fence.wide 0 P fn a'.tmps (λe w'=>∃v av σ',e= .returned v/\Φ av σ'/\Tr ⟨w,A,bF σ⟩ (bF σ) σ w σ' w'/\Rel (al ⟨w,A,bF σ⟩ σ') w' av v) a'.defers .returning w':=by
   obtain⟨Ds,hd1,hd2,hd3⟩:=h1.defers;rw[hd1];have hsl:=h1.slots;have hgd:=h1.good;have hsz:=h1.size;clear hd1 h1;induction Ds generalizing w' with
   |nil=>exact fin w' ⟨.nil rfl,hsz,hsl,hgd⟩
   |cons D Ds ih=>
    obtain⟨q1,q2,q3,q4⟩:=hd3 D zm;rw[List.nodup_cons]at hd2;refine⟨by simp, .inl ⟨D,_,rfl,run_takeDeferred q4,?_⟩⟩;have ht:Tn ⟨w,A,bF σ⟩ w' (w'.putObj D (.deferred S)):= .putObj _ q2 q4 rfl;refine ih _ hd2.2 (λD' hD'=> ?_) (hsl.GY ht) (hgd.GY ht);obtain⟨p1,p2,p3,p4⟩:=hd3 D' (zK _ hD');have hne:D'≠D:=λe=>hd2.1 (e▸hD');exact⟨xO p1 ht.size,p2,p3,(World.putObj_heap_other hne).trans p4⟩
  rcases he with rfl|rfl
  ·exact lv
  ·exact lv
def ry(tmps:Array Value):ResultVar->Sem Value
 | .tmp t=>pure (tmps.getD t undef)
 | .cell a t=>do loadVar t (<-asAddr (tmps.getD a undef))
def CA(P:Program)(E:Env)(σ:aa cG)(rv:ResultVar)(av:AV):Prop:=∀(A:Nat->Prop) (w:World) (tmps:Array Value),Hd A σ w->j7 A w E tmps->∃v,(ry tmps rv).run P w= .ok v w/\Rel A w av v
section
variable {P:Program} {C:Cx} {n:Nat} {fn:Func} {E:Env} {σ σ':aa cG} {t u:Nat} {av:AV} {e:Exit} {Φ:AV->aa cG->Prop}
def CA.tmp(h:E.get t=I av):CA P E σ (.tmp t) av:=λA w tmps _ hs=>by
 obtain⟨v,h1,h2⟩:=hs t av h;exact⟨v,by simp[ry,h1],h2⟩
def CA.aos{g:Nat}{ty T:TypeId}{cs:aa AV}(i:Nat)(h:E.get t=I (.lit (.pointer (I ⟨g,0,S⟩))))(hσ:σ[i]? =I (.box g T cs))(hT:qD P ty)(ha:cs[0]? =I av):CA P E σ (.cell t ty) av:=λA w tmps hd hs=>by
 obtain⟨v,h1,h2⟩:=hs t _ h;have h2:=h2.cH;subst h2;obtain⟨us,h3,h4⟩:=hd.1 _ (List.mem_of_getElem? hσ);obtain⟨v,h5,h6⟩:=h4.get ha;exact⟨v,by simp[ry,h1,asAddr,gR hT (h3.cell (by simpa using h5))],h6⟩
def CA.anR{g k:Nat}{ty T:TypeId}{cs:aa AV}(i:Nat)(h:E.get t=I (.lit (.pointer (I ⟨g,0,S⟩))))(hσ:σ[i]? =I (.box g T cs))(hT:rQ P ty k)(hk:cs.length=k):CA P E σ (.cell t ty) (.agg cs):=λA w tmps hd hs=>by
 obtain⟨v,h1,h2⟩:=hs t _ h;have h2:=h2.cH;subst h2;obtain⟨us,h3,h4⟩:=hd.1 _ (List.mem_of_getElem? hσ);refine⟨_,?_,Rel.nE h4⟩;have:=gy (P:=P) (T:=ty) (w:=w) (a:=⟨g,0,S⟩) (cs:=us) (by rw[h4.1,hk];exact hT) (λj u hj=>by rw[o5,yw];exact h3.cell (by simpa using hj));simp[ry,h1,asAddr,this]
def UQ(he:e= .normal\/e= .ret)(hs:List.Sublist σ' σ)(hΦ:Φ av σ')(h:∀A w tmps,Hd A σ w->j7 A w E tmps->∃v,(results fn tmps).run P w= .ok v w/\Rel A w av v):acJ P C n fn Φ e E σ:=
 ⟨he,λa w ha=>by
  obtain⟨v,h1,h2⟩:=h _ w a.tmps ha.good.hd ha.slots;have hl:=ha.less hs;have hal:∀b,al C σ b->al C σ' b:=λb hb=>⟨hb.1,λhx=>hb.2 (oz (λr hr=>hs.subset hr) b hx)⟩;exact⟨v,av,σ',hΦ,h1,hl.good,hal,h2.mono λb _ hA=>⟨hal b hA,rfl⟩⟩⟩
end
def tj(P:Program)(f:FuncId):Prop:=∃fn,P.funcs[f]? =I fn/\(fn.name=="runtime.NumGoroutine")=G/\fn.body.isNone=G
def wU{P:Program}{f:FuncId}{w:World}(hf:tj P f)(args:Array Value):(callFunc f args).run P w= .ok (.enter f args) w:=by
 obtain⟨fn,h1,h2,h3⟩:=hf;have h2':¬fn.name="runtime.NumGoroutine":=by simpa using h2
 have h3':¬fn.body=S:=by
  intro h;rw[h]at h3;cases h3
 simp[callFunc,program,Sem.run,h1,h2',h3']
def Cl(a:AV):Prop:=∀A A' w v,Rel A w a v->Rel A' w a v
def Cl.lit(v:Value):Cl (.lit v):=λA A' w u h=>by rw[h.cH];exact .lit v
def Ho(as0:aa AV):Prop:=∀A A' w us,bJ A w as0 us->bJ A' w as0 us
def Ho.nil:Ho []:=λA A' w us h=>by
 have:us=[]:=yX (by simpa using h.1);rw[this];exact bJ.nil
def Ho.cons{a:AV}{as0:aa AV}(h:Cl a)(hs:Ho as0):Ho (a::as0):=λA A' w us hr=>by
 obtain⟨v,us',rfl,h1,h2⟩:=hr.head;exact bJ.cons (h A A' w v h1) (hs A A' w us' h2)
def Cl.agg{as0:aa AV}(h:Ho as0):Cl (.agg as0):=λA A' w v hr=>by
 obtain⟨us,rfl,h1⟩:=hr.mV;exact Rel.nE (h A A' w us h1)
def Cl.iM{as0:aa AV}(h:Ho as0):Cl (.iM as0):=λA A' w v hr=>by
 obtain⟨us,rfl,h1⟩:=hr.Lv;exact Rel.Dz (h A A' w us h1)
def ClR(r:cG):Prop:=∀A A' w,r.ok A w->r.ok A' w
def ClR.box{b:Nat}{T:TypeId}{cs:aa AV}(h:Ho cs):ClR (.box b T cs):=λA A' w ⟨us,h1,h2⟩=>⟨us,h1,h A A' w us h2⟩
def ClR.row{v:Value}{q:Nat}{l:aa (U.dc q)}(h:∀x,Ho (U.cells q x)):ClR (.row v q l):=λA A' w ⟨us,h1,h2,h3⟩=>⟨us,h1,h2,λi hi=>h _ A A' w _ (h3 i hi)⟩
section
variable {P:Program} {C:Cx} {E:Env} {σ σp σr:aa cG} {o:Oper} {x:Operand} {f:FuncId} {xs:Array Operand} {ts:Array TypeId} {as0 caps args:aa AV} {Φ:AV->aa cG->Prop}
def WS{A:Nat->Prop}{w:World}{ρ:Operand->Value}(ho:o.op= .call {callee:= .value x,args:=xs,argTypes:=ts})(hx:E.ev x=I (.fn (.func f) caps))(hf:tj P f)(he:E.I7 xs.toList=I as0)(ha:as0++caps=args)(hρ:K9 A w E ρ):∃us:aa Value,bJ A w args us/\(execOp ρ o).run P w= .ok (.enter f us.toArray) w:=by
 obtain⟨us,h1,h2⟩:=(hρ _ _ hx).Ux;have h3:=Env.Fj hρ he;refine⟨xs.toList.map ρ++us,ha▸h3.app h2,?_⟩;have h4:xs.map ρ=(xs.toList.map ρ).toArray:=by apply Array.ext';simp
 simp[execOp,ho,resolve,h1,Deferred.ofValue,invoke,wU hf,h4]
def bI{σp σr:aa cG}{b:Nat}:b∈bF (σp++σr)↔b∈bF σp\/b∈bF σr:=by rw[gv,zU]
def Av{w w':World}{A:Nat->Prop}{σo:aa cG}(hg:Good C (σp++σr) w)(hA:∀b,A b->b<w.heap.size->al C (σp++σr) b\/b∈bF σr)(ht:Tr ⟨w,A,bF σp⟩ (bF σp) σp w σo w')
  (hok:∀r∈σo,r.ok (al C (σo++σr)) w'):Tr C (bF σp) (σp++σr) w (σo++σr) w':=by
 have hlt:∀b∈bF (σp++σr),b<w.heap.size:=λb hb=>by
  obtain⟨s,h1,h2⟩:=bS.1 hb;exact(hg.res s h1).lt h2
 have hdis:=hg.DS;rw[gv]at hdis;obtain⟨d1,d2,d3⟩:=yD.1 hdis;have hown:∀b∈bF σo,b∈bF σp\/w.heap.size<=b:=ht.good.own;have hal:∀b,b<w.heap.size->al C (σp++σr) b->al C (σo++σr) b/\b∉bF σp:=λb hb hA=>by
  have h2:b∉bF σp/\b∉bF σr:=by
   have:=hA.2;rw[bI]at this;exact⟨λh=>this (.inl h),λh=>this (.inr h)⟩
  refine⟨⟨hA.1,λhx=> ?_⟩,h2.1⟩;rcases bI.1 hx with h|h
  ·rcases hown b h with h|h
   ·exact h2.1 h
   ·omega
  ·exact h2.2 h
 refine⟨⟨hg.kept.trans ht.kp (λb hb hlt0=> ?_),λr hr=> ?_,?_,λb hb=> ?_⟩,ht.kp,hal⟩
 ·rcases hg.own b (bI.2 (.inl hb))with h|h
  ·exact h
  ·exact dg hlt0 (by omega)
 ·rcases zU.1 hr with h|h
  ·exact hok r h
  ·refine(hg.res r (yF _ h)).mono (λb hb hA=>⟨(hal b hb hA).1,ht.kp.block b hb (hal b hb hA).2⟩) (λb hb=> ?_);have hbr:b∈bF σr:=bS.2 ⟨r,h,hb⟩;exact ht.kp.block b (hlt b (bI.2 (.inr hbr))) (λhp=>d3 b hp b hbr rfl)
 ·rw[gv];refine yD.2 ⟨ht.good.DS,d2,λa ha b hb hab=> ?_⟩;subst hab;rcases hown a ha with h|h
  ·exact d3 a h a hb rfl
  ·have:=hlt a (bI.2 (.inr hb));omega
 ·rcases bI.1 hb with h|h
  ·rcases hown b h with h|h
   ·exact hg.own b (bI.2 (.inl h))
   ·exact .inr (zH hg.kept.size h)
  ·exact hg.own b (bI.2 (.inr h))
def Yc.fn(ho:o.op= .call {callee:= .value x,args:=xs,argTypes:=ts})(hx:E.ev x=I (.fn (.func f) caps))(hf:tj P f)(he:E.I7 xs.toList=I as0)(ha:as0++caps=args)(hσ:σ=σp++σr)(h:Fn P f args σp Φ):
  Yc P E σ o C (bF σp) (λav σ'=>∃σo,Φ av σo/\σ'=σo++σr):=λw ρ hg hρ=>by
 subst hσ;obtain⟨us,h1,h2⟩:=WS ho hx hf he ha hρ;have hlt:∀b∈bF (σp++σr),b<w.heap.size:=λb hb=>by
  obtain⟨s,h1,h2⟩:=bS.1 hb;exact(hg.res s h1).lt h2
 have hd:Hd (al C (σp++σr)) σp w:=⟨λr hr=>hg.res r (yE _ hr),λb hb hA=>hA.2 (bI.2 (.inl hb))⟩;have hnd:(bF σp).Nodup:=by have:=hg.DS;rw[gv]at this;exact(yD.1 this).1
 refine⟨f,us.toArray,h2,(h w (al C (σp++σr)) us h1 hd hnd).mono λe w' ⟨v,av,σo,q1,q2,q3,q4⟩=> ?_⟩;have hown:∀b∈bF σo,b∈bF σp\/w.heap.size<=b:=q3.good.own;have hsub:∀b,b<w'.heap.size->al ⟨w,al C (σp++σr),bF σp⟩ σo b->al C (σo++σr) b:=λb _ hb=>by
  obtain⟨hb1,hb2⟩:=hb;rcases hb1 with hb1|hb1|hb1
  ·exact⟨hb1.1,λhx=>(bI.1 hx).elim hb2 (λh=>hb1.2 (bI.2 (.inr h)))⟩
  ·have hbp:b∈bF σp:=hb1;refine⟨?_,λhx=>(bI.1 hx).elim hb2 (λh=> ?_)⟩
   ·rcases hg.own b (bI.2 (.inl hbp))with h|h
    ·exact .inr (.inl h)
    ·exact .inr (.inr h)
   ·have hdis:=hg.DS;rw[gv]at hdis;exact(yD.1 hdis).2.2 b hbp b h rfl
  ·have hbw:w.heap.size<=b:=hb1;exact⟨.inr (.inr (zH hg.kept.size hbw)),λhx=>(bI.1 hx).elim hb2 (λh=>by have:=hlt b (bI.2 (.inr h));omega)⟩
 exact⟨v,av,σo++σr,q1,⟨σo,q2,rfl⟩,Av hg (λb hA _=> .inl hA) q3 (λr hr=>(q3.good.res r hr).mono (λb hb hA=>⟨hsub b hb hA,rfl⟩) (λ_ _=>rfl)),q4.mono λb hb hA=>⟨hsub b hb hA,rfl⟩⟩
end
end Go.Iv
namespace Go.Iv
variable [U:qz]
open Go Go.RowKit
section
variable {P:Program} {E E':Env} {σ σ':aa cG} {o:Oper} {x:Operand} {av bv:AV} {C:Cx} {X:aa Nat} {n:Nat}
end
def qL{α:Type}{c:Prop}[Decidable c]{a:af α}{r:α}(h:(if c then a else S)=I r):c/\a=I r:=by
 split at h
 ·exact⟨by assumption,h⟩
 ·cases h
abbrev cN(k:IntKind)(n:Int):aa AV:=[.n k n]
abbrev cB(b:Bool):aa AV:=[.b b]
instance:Inhabited ByteArray:=⟨.empty⟩
end Go.Iv
namespace Go.Iv
variable [U:qz]
open Go Go.RowKit
section
variable {P:Program} {E E':Env} {σ σ':aa cG} {o:Oper} {x:Operand} {av bv:AV} {C:Cx} {X:aa Nat} {n:Nat}
def Yp.conv{T T':TypeId}{k k':IntKind}{m:Int}(hT:P.underlying T=I (.int k))(hT':P.underlying T'=I (.int k'))(ho:o.op= .convert T T' x)(hx:E.ev x=I (.n k m)):Yp P E σ o (.n k' (k'.wrap m)):=Yp.lits λρ hρ w=>by
 simp[execOp,ho,hρ _ _ hx,convert,run_underlying hT,run_underlying hT',Conv.intToInt]
end
structure Gh where
 v:Nat->Value
 b:Nat->Nat
def cc.sub(ρ:Gh):AV->AV
 | .lit v=> .lit v
 | .sl t l=> .sl t l
 | .fp cs=> .fp (cs.map (cc.sub ρ))
 | .rp v k=> .rp v k
 | .agg cs=> .agg (cs.map (cc.sub ρ))
 | .iM cs=> .iM (cs.map (cc.sub ρ))
 | .fn f cs=> .fn f (cs.map (cc.sub ρ))
 | .own id=> .lit (ρ.v id)
 | .ptr id off=> .lit (.pointer (I ⟨ρ.b id,off,S⟩))
 | .ra id t m off=> .rp (ρ.v id) (m*U.sz t+off)
inductive gq (p:Nat->Prop):AV->Prop
 |lit (v:Value):gq p (.lit v)
 |sl (t:Nat) (l:List (U.dc t)):gq p (.sl t l)
 |fp (cs:List AV) (h:∀c∈cs,gq p c):gq p (.fp cs)
 |rp (v:Value) (k:Nat):gq p (.rp v k)
 |agg (cs:List AV) (h:∀c∈cs,gq p c):gq p (.agg cs)
 |iM (cs:List AV) (h:∀c∈cs,gq p c):gq p (.iM cs)
 |fn (f:Go.Fn) (cs:List AV) (h:∀c∈cs,gq p c):gq p (.fn f cs)
 |own (id:Nat) (h:p id):gq p (.own id)
 |ptr (id off:Nat) (h:p id):gq p (.ptr id off)
 |ra (id t m off:Nat) (h:p id):gq p (.ra id t m off)
abbrev cI(n:Nat):AV->Prop:=gq (λi=>i<n)
def Ags(p:Nat->Prop)(ρ ρ':Gh):Prop:=∀i,p i->ρ.v i=ρ'.v i/\ρ.b i=ρ'.b i
def gq.mono{p q:Nat->Prop}{d:AV}(h:gq p d)(hn:∀i,p i->q i):gq q d:=by
 induction h with
 |lit v=>exact .lit v
 |sl t l=>exact .sl t l
 |fp cs _ ih=>exact .fp cs ih
 |rp v k=>exact .rp v k
 |agg cs _ ih=>exact .agg cs ih
 |iM cs _ ih=>exact .iM cs ih
 |fn f cs _ ih=>exact .fn f cs ih
 |own id h=>exact .own id (hn _ h)
 |ptr id off h=>exact .ptr id off (hn _ h)
 |ra id t m off h=>exact .ra id t m off (hn _ h)
def gq.sub{p:Nat->Prop}{d:AV}{ρ ρ':Gh}(h:gq p d)(ha:Ags p ρ ρ'):d.sub ρ=d.sub ρ':=by
 have key:∀cs:aa AV,(∀c∈cs,c.sub ρ=c.sub ρ')->cs.map (cc.sub ρ)=cs.map (cc.sub ρ'):=λcs h=>zZ h;induction h with
 |lit v=>simp only[cc.sub]
 |sl t l=>simp only[cc.sub]
 |fp cs _ ih=>simp only[cc.sub];rw[key cs ih]
 |rp v k=>simp only[cc.sub]
 |agg cs _ ih=>simp only[cc.sub];rw[key cs ih]
 |iM cs _ ih=>simp only[cc.sub];rw[key cs ih]
 |fn f cs _ ih=>simp only[cc.sub];rw[key cs ih]
 |own id h=>simp only[cc.sub];rw[(ha id h).1]
 |ptr id off h=>simp only[cc.sub];rw[(ha id h).2]
 |ra id t m off h=>simp only[cc.sub];rw[(ha id h).1]
def gq.UI{p:Nat->Prop}{cs:aa AV}{ρ ρ':Gh}(h:∀c∈cs,gq p c)(ha:Ags p ρ ρ'):cs.map (cc.sub ρ)=cs.map (cc.sub ρ'):=zZ λc hc=>(h c hc).sub ha
def pT(n:Nat)(ρ ρ':Gh):Prop:=∀i,i<n->ρ.v i=ρ'.v i/\ρ.b i=ρ'.b i
def pT.refl(n:Nat)(ρ:Gh):pT n ρ ρ:=λ_ _=>⟨rfl,rfl⟩
def pT.trans{n m:Nat}{ρ ρ' ρ'':Gh}(h:pT n ρ ρ')(h':pT m ρ' ρ'')(hn:n<=m):pT n ρ ρ'':=λi hi=>
 ⟨(h i hi).1.trans (h' i (by omega)).1,(h i hi).2.trans (h' i (by omega)).2⟩
def cI.mono{n m:Nat}{d:AV}(h:cI n d)(hn:n<=m):cI m d:=gq.mono h λ_ hi=>xO hi hn
def cI.sub{n:Nat}{d:AV}{ρ ρ':Gh}(h:cI n d)(ha:pT n ρ ρ'):d.sub ρ=d.sub ρ':=gq.sub h ha
def cI.UI{n:Nat}{cs:aa AV}{ρ ρ':Gh}(h:∀c∈cs,cI n c)(ha:pT n ρ ρ'):cs.map (cc.sub ρ)=cs.map (cc.sub ρ'):=gq.UI h ha
inductive IR:Type
 |box (T:Nat) (cs:List AV)
 |row (t:Nat) (l:List (U.dc t))
def IR.res(ρ:Gh)(id:Nat):IR->cG
 | .box T cs=> .box (ρ.b id) T (cs.map (cc.sub ρ))
 | .row t l=> .row (ρ.v id) t l
abbrev aX:Type:=aa (Nat×IR)
def aX.res(ρ:Gh)(R:aX):aa cG:=R.map λp=>p.2.res ρ p.1
def IR.cI(n:Nat):IR->Prop
 | .box _ cs=>∀c∈cs,Iv.cI n c
 | .row _ _=>True
def aX.cI(n:Nat)(R:aX):Prop:=∀p∈R,p.1<n/\p.2.cI n
def IR.cI.mono{n m:Nat}{r:IR}(h:r.cI n)(hn:n<=m):r.cI m:=by
 cases r with
 |box T cs=>exact λc hc=>(h c hc).mono hn
 |row t l=>trivial
def aX.cI.mono{n m:Nat}{R:aX}(h:aX.cI n R)(hn:n<=m):aX.cI m R:=λp hp=>⟨xO (h p hp).1 hn,(h p hp).2.mono hn⟩
def IR.cI.res{n id:Nat}{r:IR}{ρ ρ':Gh}(h:r.cI n)(hi:id<n)(ha:pT n ρ ρ'):r.res ρ id=r.res ρ' id:=by
 cases r with
 |box T cs=>simp only[IR.res];rw[(ha id hi).2,Iv.cI.UI h ha]
 |row t l=>simp only[IR.res];rw[(ha id hi).1]
def aX.cI.res{n:Nat}{R:aX}{ρ ρ':Gh}(h:aX.cI n R)(ha:pT n ρ ρ'):aX.res ρ R=aX.res ρ' R:=zZ λp hp=>(h p hp).2.res (h p hp).1 ha
def fC(R:aX)(id:Nat):af IR:=List.rec S (λp _ ih=>Bool.rec ih (I p.2) (zg p.1 id)) R
def rJ(id:Nat)(r':IR)(R:aX):aX:=List.rec [] (λp R ih=>Bool.rec (p::ih) ((p.1,r')::R) (zg p.1 id)) R
def jP(id:Nat)(R:aX):aX:=List.rec [] (λp R ih=>Bool.rec (p::ih) R (zg p.1 id)) R
def S5{i:Nat}{r:IR}{R:aX}{id:Nat}:fC ((i,r)::R) id=match zg i id with
  |true=>I r
  |false=>fC R id:=by
 show Bool.rec (motive:=λ_=>_) (fC R id) (I r) (zg i id)=_;cases zg i id<;>rfl
def Ey{i:Nat}{r r':IR}{R:aX}{id:Nat}:rJ id r' ((i,r)::R)=match zg i id with
  |true=>(i,r')::R
  |false=>(i,r)::rJ id r' R:=by
 show Bool.rec (motive:=λ_=>_) ((i,r)::rJ id r' R) ((i,r')::R) (zg i id)=_;cases zg i id<;>rfl
def u9{i:Nat}{r:IR}{R:aX}{id:Nat}:jP id ((i,r)::R)=match zg i id with
  |true=>R
  |false=>(i,r)::jP id R:=by
 show Bool.rec (motive:=λ_=>_) ((i,r)::jP id R) R (zg i id)=_;cases zg i id<;>rfl
def fM{a b:Nat}(h:zg a b=J):a=b:=y7 h
def dV:∀{R:aX} {id:Nat} {r:IR},fC R id=I r->∃i:Nat,R[i]? =I (id,r)/\(∀r',rJ id r' R=R.set i (id,r'))/\jP id R=R.eraseIdx i
 |[],_,_,h=>by cases h
 |(i,r)::R,id,r0,h=>by
  rw[S5]at h;cases hb:zg i id with
  |true=>
   rw[hb]at h;cases h;cases fM hb;exact⟨0,rfl,λr'=>by rw[Ey,hb];rfl,by rw[u9,hb];rfl⟩
  |false=>
   rw[hb]at h;obtain⟨j,h1,h2,h3⟩:=dV h;exact⟨j+1,h1,λr'=>by rw[Ey,hb];simp[h2],by rw[u9,hb];simp[h3]⟩
def gC{R:aX}{ρ:Gh}{i id:Nat}{r:IR}(h:R[i]? =I (id,r)):(aX.res ρ R)[i]? =I (r.res ρ id):=by
 unfold aX.res;rw[ya,h];rfl
def se{R:aX}{ρ:Gh}{i id:Nat}{r:IR}:aX.res ρ (R.set i (id,r))=(aX.res ρ R).set i (r.res ρ id):=by
 unfold aX.res;rw[List.map_set]
def uJ{R:aX}{ρ:Gh}{i:Nat}:aX.res ρ (R.eraseIdx i)=(aX.res ρ R).eraseIdx i:=by
 unfold aX.res;rw[wv,wv,z6,xC,xd]
def AP{R:aX}{id n:Nat}{r:IR}(h:fC R id=I r)(hR:aX.cI n R):id<n/\r.cI n:=by
 obtain⟨i,h1,_⟩:=dV h;exact hR _ (List.mem_of_getElem? h1)
def nN{R:aX}{id n:Nat}{r r':IR}(h:fC R id=I r)(hR:aX.cI n R)(hr:r'.cI n):aX.cI n (rJ id r' R):=by
 obtain⟨i,h1,h2,_⟩:=dV h;rw[h2];intro p hp;rcases List.mem_or_eq_of_mem_set hp with hp|rfl
 ·exact hR p hp
 ·exact⟨(hR _ (List.mem_of_getElem? h1)).1,hr⟩
def De{R:aX}{id n:Nat}(hR:aX.cI n R):aX.cI n (jP id R):=by
 induction R with
 |nil=>exact hR
 |cons p R ih=>
  obtain⟨i,r⟩:=p;have h2:aX.cI n R:=λp hp=>hR p (zK _ hp);rw[u9];split
  ·exact h2
  ·intro q hq;rcases zF.1 hq with rfl|hq
   ·exact hR _ zm
   ·exact ih h2 q hq
def Env.sub(ρ:Gh)(E:Env):Env:=E.map λp=>(p.1,p.2.sub ρ)
def Env.cI(n:Nat)(E:Env):Prop:=∀p∈E,Iv.cI n p.2
def Env.eF{ρ:Gh}(t:Nat):∀(E:Env),(E.sub ρ).get t=(E.get t).map (cc.sub ρ)
 |[]=>rfl
 |(k,v)::E=>by
  show Env.get ((k,v.sub ρ)::Env.sub ρ E) t=_;unfold Env.get;cases hb:zg k t with
  |true=>rfl
  |false=>exact Env.eF t E
def Env.Lu{ρ:Gh}{E:Env}(x:Operand):(E.sub ρ).ev x=(E.ev x).map (cc.sub ρ):=by
 cases x with
 |tmp t=>exact Env.eF t E
 |const v=>simp[Env.ev,cc.sub]
 |global g=>simp[Env.ev,cc.sub]
 |func f=>simp[Env.ev,cc.sub]
def Env.get_mem:∀{E:Env} {t:Nat} {d:AV},E.get t=I d->(t,d)∈E
 |[],_,_,h=>by cases h
 |(k,v)::E,t,d,h=>by
  unfold Env.get at h;cases hb:zg k t with
  |true=>
   rw[hb]at h;cases h;cases fM hb;exact zm
  |false=>
   rw[hb]at h;exact zK _ (Env.get_mem h)
def Env.Vs{E:Env}{n:Nat}{x:Operand}{d:AV}(hE:E.cI n)(h:E.ev x=I d):Iv.cI n d:=by
 cases x with
 |tmp t=>exact hE _ (Env.get_mem h)
 |const v=>cases h;exact .lit _
 |global g=>cases h;exact .lit _
 |func f=>cases h;exact .fn _ [] (by simp)
def Env.cI.mono{n m:Nat}{E:Env}(h:E.cI n)(hn:n<=m):E.cI m:=λp hp=>(h p hp).mono hn
def Env.cI.sub{n:Nat}{E:Env}{ρ ρ':Gh}(h:E.cI n)(ha:pT n ρ ρ'):E.sub ρ=E.sub ρ':=zZ λp hp=>by rw[(h p hp).sub ha]
inductive Vv (dc:Nat->Type):Type
 |e
 |n (v:Option (cc dc)) (l r:Vv dc)
abbrev ET:Type:=Vv U.dc
def cJ(T:ET):Nat->af AV:=Vv.rec (λ_=>S) (λv _ _ il ir k=>Bool.rec (Bool.rec (ir (Nat.div (Nat.sub k 1) 2)) (il (Nat.div (Nat.sub k 1) 2)) (zg (Nat.mod (Nat.sub k 1) 2) 0)) v (zg k 0)) T
def Vv.v:ET->af AV
 | .e=>S
 | .n v _ _=>v
def Vv.l:ET->ET
 | .e=> .e
 | .n _ l _=>l
def Vv.r:ET->ET
 | .e=> .e
 | .n _ _ r=>r
def TK(d:AV)(ih:ET->Nat->ET)(v:af AV)(l r:ET)(k:Nat):ET:=Bool.rec (Bool.rec (.n v l (ih r (Nat.div (Nat.sub k 1) 2))) (.n v (ih l (Nat.div (Nat.sub k 1) 2)) r) (zg (Nat.mod (Nat.sub k 1) 2) 0)) (.n (I d) l r) (zg k 0)
def qK(d:AV)(m:Nat):ET->Nat->ET:=Nat.rec (λ_ _=> .e) (λ_ ih T k=>Vv.rec (TK d ih S .e .e k) (λv l r _ _=>TK d ih v l r k) T) m
def k8(t:Nat)(d:AV)(T:ET):ET:=qK d 12 T t
def emap(f:AV->AV)(T:ET):ET:=Vv.rec .e (λv _ _ il ir=> .n (v.map f) il ir) T
def mw(v:af AV)(l r:ET)(k:Nat):cJ (.n v l r) k=if k=0 then v else if(k-1)%2=0 then cJ l ((k-1)/2)else cJ r ((k-1)/2):=by
 show Bool.rec (motive:=λ_=>af AV) (Bool.rec (motive:=λ_=>af AV) (cJ r ((k-1)/2)) (cJ l ((k-1)/2)) (zg ((k-1)%2) 0)) v (zg k 0)=_;by_cases hk:k=0
 ·subst hk;rfl
 ·have h1:zg k 0=G:=by
   cases h:zg k 0 with
   |false=>rfl
   |true=>exact dg (y7 h) hk
  rw[h1,bL hk];by_cases h2:(k-1)%2=0
  ·rw[h2];rfl
  ·have h3:zg ((k-1)%2) 0=G:=by
    cases h:zg ((k-1)%2) 0 with
    |false=>rfl
    |true=>exact dg (y7 h) h2
   rw[h3,bL h2]
def ai2(k:Nat):cJ (.e:ET) k=S:=rfl
def Ij(T:ET)(k:Nat):cJ T k=if k=0 then T.v else if(k-1)%2=0 then cJ T.l ((k-1)/2)else cJ T.r ((k-1)/2):=by
 cases T with
 |e=>simp only[Vv.v,Vv.l,Vv.r,ai2,ite_self]
 |n v l r=>exact mw v l r k
def RB(d:AV)(m:Nat)(T:ET)(k:Nat):qK d (m+1) T k=if k=0 then .n (I d) T.l T.r else if(k-1)%2=0 then .n T.v (qK d m T.l ((k-1)/2)) T.r else .n T.v T.l (qK d m T.r ((k-1)/2)):=by
 have e:qK d (m+1) T k=TK d (qK d m) T.v T.l T.r k:=by cases T<;>rfl
 rw[e];show Bool.rec (motive:=λ_=>ET) (Bool.rec (motive:=λ_=>ET) (.n T.v T.l (qK d m T.r ((k-1)/2))) (.n T.v (qK d m T.l ((k-1)/2)) T.r) (zg ((k-1)%2) 0)) (.n (I d) T.l T.r) (zg k 0)=_;by_cases hk:k=0
 ·subst hk;rfl
 ·have h1:zg k 0=G:=by
   cases h:zg k 0 with
   |false=>rfl
   |true=>exact dg (y7 h) hk
  rw[h1,bL hk];by_cases h2:(k-1)%2=0
  ·rw[h2];rfl
  ·have h3:zg ((k-1)%2) 0=G:=by
    cases h:zg ((k-1)%2) 0 with
    |false=>rfl
    |true=>exact dg (y7 h) h2
   rw[h3,bL h2]
def ve(d:AV):∀(m:Nat) (T:ET) (k s:Nat) (av:AV),cJ (qK d m T k) s=I av->(k=s/\av=d)\/(k≠s/\cJ T s=I av)
 |0,T,k,s,av,h=>by cases h
 |m+1,T,k,s,av,h=>by
  rw[RB]at h;rw[Ij T s];split at h
  ·rename_i hk;subst hk;rw[mw]at h;split at h
   ·rename_i hs;subst hs;cases h;exact .inl ⟨rfl,rfl⟩
   ·rename_i hs;rw[bL hs];exact .inr ⟨λe=>hs e.symm,h⟩
  ·rename_i hk;split at h
   ·rename_i hk2;rw[mw]at h;split at h
    ·rename_i hs;subst hs;exact .inr ⟨hk,by rw[bD rfl];exact h⟩
    ·rename_i hs;rw[bL hs];split at h
     ·rename_i hs2;rw[bD hs2];rcases ve d m T.l _ _ av h with ⟨h1,h2⟩|⟨h1,h2⟩
      ·exact .inl ⟨by omega,h2⟩
      ·exact .inr ⟨λe=>h1 (by rw[e]),h2⟩
     ·rename_i hs2;rw[bL hs2];exact .inr ⟨λe=>hs2 (by rw[<-e];exact hk2),h⟩
   ·rename_i hk2;rw[mw]at h;split at h
    ·rename_i hs;subst hs;exact .inr ⟨hk,by rw[bD rfl];exact h⟩
    ·rename_i hs;rw[bL hs];split at h
     ·rename_i hs2;rw[bD hs2];exact .inr ⟨λe=>hk2 (by rw[e];exact hs2),h⟩
     ·rename_i hs2;rw[bL hs2];rcases ve d m T.r _ _ av h with ⟨h1,h2⟩|⟨h1,h2⟩
      ·exact .inl ⟨by omega,h2⟩
      ·exact .inr ⟨λe=>h1 (by rw[e]),h2⟩
def o8{t s:Nat}{d av:AV}{T:ET}(h:cJ (k8 t d T) s=I av):(t=s/\av=d)\/(t≠s/\cJ T s=I av):=ve d 12 T t s av h
def sq(f:AV->AV):∀(T:ET) (s:Nat),cJ (emap f T) s=(cJ T s).map f
 | .e,s=>rfl
 | .n v l r,s=>by
  show cJ (.n (v.map f) (emap f l) (emap f r)) s=_;rw[mw,mw,sq f l,sq f r];split
  ·rfl
  ·split<;>rfl
def qN(T:ET)(E:Env):Prop:=∀t d,cJ T t=I d->E.get t=I d
def qN.put{T:ET}{E:Env}(h:qN T E)(t:Nat)(d:AV):qN (k8 t d T) ((t,d)::E):=λs av hs=>by
 rcases o8 hs with ⟨rfl,rfl⟩|⟨h1,h2⟩
 ·exact Env.eE _ _ _
 ·rw[Env.dy _ _ h1];exact h s av h2
def Dv(T:ET):Operand->af AV
 | .tmp t=>cJ T t
 | .const v=>I (.lit v)
 | .global g=>I (.lit (.pointer (I ⟨g,0,S⟩)))
 | .func f=>I (.fn (.func f) [])
def qN.ev{T:ET}{E:Env}(h:qN T E)(x:Operand)(d:AV)(hx:Dv T x=I d):E.ev x=I d:=by
 cases x with
 |tmp t=>exact h t d hx
 |_=>exact hx
structure St where
 E:ET
 R:aX
 nx:Nat
structure Cg where
 C:Cx
 ρ:Gh
 n:Nat
def Mt(C:Cg)(n:Nat)(s:St)(a:Act)(w:World):Prop:=∃E:Env,qN s.E E/\E.cI s.nx/\aX.cI s.nx s.R/\∃ρ,(pT C.n C.ρ ρ/\C.n<=s.nx)/\rU C.C n (E.sub ρ) (aX.res ρ s.R) a w
def Env.tJ{E:Env}{n t:Nat}{d:AV}(hE:E.cI n)(hd:Iv.cI n d):Env.cI n ((t,d)::E):=λp hp=>by
 rcases zF.1 hp with rfl|hp
 ·exact hd
 ·exact hE p hp
def PW{C:Cx}{σ σ':aa cG}(hp:List.Perm σ σ')(b:Nat):al C σ b->al C σ' b:=λhA=>⟨hA.1,λhx=>hA.2 ((hp.filterMap _).symm.mem_iff.1 hx)⟩
end Go.Iv
end
noncomputable section
namespace Go.Iv
open Go Go.RowKit
section
variable [U:qz] {β γ δ:Type}
def tT(t e:Nat)(l:aa (U.dc t)):af (aa (U.dc e)):=if h:t=e then I (h▸l)else S
def lC{t e:Nat}{l:aa (U.dc t)}{l':aa (U.dc e)}(h:tT t e l=I l'):∃he:t=e,he▸l=l':=by
 unfold tT at h;split at h
 ·rename_i he;exact⟨he,zD.inj h⟩
 ·cases h
def gO(k:IntKind):AV->af Int
 | .lit (.int k' n)=>if k=k' then I n else S
 |_=>S
def DL:AV->af Bool
 | .lit (.bool b)=>I b
 |_=>S
def asS:AV->af ByteArray
 | .lit (.string s)=>I s
 |_=>S
def jf(t:Nat):AV->af (aa (U.dc t))
 | .sl t' l=>tT t' t l
 | .lit (.slice S 0 0)=>I []
 |_=>S
def P1(f:AV->af β)(c:β->AV):Prop:=∀a b,f a=I b->∀A w v,Rel A w a v->Rel A w (c b) v
def P1.i(k:IntKind):P1 (gO k) (cc.n k):=λa b h A w v hr=>by
 unfold gO at h;split at h
 ·split at h
  ·rename_i hk;subst hk;cases h;exact hr
  ·cases h
 ·cases h
def P1.b:P1 DL cc.b:=λa b h A w v hr=>by
 unfold DL at h;split at h
 ·cases h;exact hr
 ·cases h
def P1.s:P1 asS cc.s:=λa b h A w v hr=>by
 unfold asS at h;split at h
 ·cases h;exact hr
 ·cases h
def P1.l(t:Nat):P1 (jf t) (cc.sl t):=λa b h A w v hr=>by
 unfold jf at h;split at h
 ·obtain⟨rfl,rfl⟩:=lC h;exact hr
 ·cases h;exact(Vw.nil (σ:=[]) t A w v ⟨λr h=>(by cases h),λb h=>(by cases h)⟩ hr).mono λb _ hA=>⟨hA.elim id (λh=>(by cases h)),rfl⟩
 ·cases h
def nJ:aa AV->af Unit
 |[]=>I ()
 |_=>S
def dx(f:AV->af β)(q:aa AV->af γ):aa AV->af (β×γ)
 |a::cs=>(f a).bind λb=>(q cs).map λg=>(b,g)
 |[]=>S
def Pk(q:aa AV->af γ)(c:γ->aa AV):Prop:=∀cs g,q cs=I g->∀A w us,bJ A w cs us->bJ A w (c g) us
def Pk.nil:Pk nJ (λ_=>[]):=λcs g h A w us hr=>by
 unfold nJ at h;split at h
 ·exact hr
 ·cases h
def Pk.cons{f:AV->af β}{c:β->AV}{q:aa AV->af γ}{d:γ->aa AV}(h:P1 f c)(hq:Pk q d):Pk (dx f q) (λx=>c x.1::d x.2):=λcs g hg A w us hr=>by
 unfold dx at hg;split at hg
 ·obtain⟨b,h1,hg⟩:=zn.1 hg;obtain⟨g',h2,rfl⟩:=zk.1 hg;obtain⟨v,us',rfl,h3,h4⟩:=hr.head;exact bJ.cons (h _ _ h1 A w v h3) (hq _ _ h2 A w us' h4)
 ·cases hg
def Pk.map{q:aa AV->af γ}{d:γ->aa AV}{c:δ->aa AV}(e:γ->δ)(hq:Pk q d)(hc:∀g,c (e g)=d g):Pk (λcs=>(q cs).map e) c:=λcs g hg A w us hr=>by
 obtain⟨g',h1,rfl⟩:=zk.1 hg;rw[hc];exact hq _ _ h1 A w us hr
def aha:AV->Bool
 | .lit _=>J
 | .sl _ _=>J
 |_=>G
def T8(cs:aa AV)(h:cs.all aha=J)(n:Nat):∀c∈cs,cI n c:=λc hc=>by
 have:=zu.1 h c hc;cases c<;>first|(cases this;done)|exact .lit _|exact .sl _ _
def WT(cs:aa AV)(h:cs.all aha=J)(ρ:Gh):cs.map (cc.sub ρ)=cs:=by
 have:cs.map (cc.sub ρ)=cs.map id:=zZ λc hc=>by
  have:=zu.1 h c hc;cases c<;>first|(cases this;done)|simp only[cc.sub,id]
 rw[this,List.map_id]
def Pk.none{c:γ->aa AV}:Pk (λ_=>Option.none) c:=λcs g hg=>by cases hg
end
end Go.Iv
end
noncomputable section
namespace Go.Iv
variable [U:qz]
open Go Go.RowKit
section
variable {P:Program} {E E':Env} {σ σ':aa cG} {o:Oper} {x y:Operand} {av bv:AV} {C:Cx} {X:aa Nat} {n:Nat} {T T' e:TypeId}
def Hd.keep{A:Nat->Prop}{w w':World}(h:Hd A σ w)(hw:∀b,b<w.heap.size->(A b\/b∈bF σ)->w'.heap[b]? =w.heap[b]?):Hd A σ w':=
 ⟨λr hr=>(h.1 r hr).mono (λb hb hA=>⟨hA,hw b hb (.inl hA)⟩) (λb hb=>hw b ((h.1 r hr).lt hb) (.inr (bS.2 ⟨r,hr,hb⟩))),h.2⟩
def K9.keep{A:Nat->Prop}{w w':World}{ρ:Operand->Value}(h:K9 A w E ρ)(hw:∀b,b<w.heap.size->A b->w'.heap[b]? =w.heap[b]?):K9 A w' E ρ:=λx u hx=>(h x u hx).mono λb hb hA=>⟨hA,hw b hb hA⟩
def qc{A:Nat->Prop}{w:World}{k:IntKind}:∀{l:aa Int} {us:aa Value},bJ A w (l.map (cc.n k)) us->us=l.map (Value.int k)
 |[],us,h=>yX (by simpa using h.1)
 |x::l,us,h=>by
  obtain⟨v,us',rfl,h1,h2⟩:=bJ.head (show bJ A w (cc.n k x::l.map (cc.n k)) us from h);rw[h1.cH,qc h2];rfl
def Yp.b2s{q:Nat}{l:aa Int}{l0:aa (U.dc q)}(ho:o.op= .convert T T' x)(hx:Src σ E x q l0)(hn:l0.flatMap (U.cells q)=l.map (cc.n .u8))(hz:U.sz q=1)(hs:P.underlying T=I (.slice e))(he:P.underlying e=I (.int .u8))(hd:P.underlying T'=I .string):Yp P E σ o (.s (strOfNums l)):=λA w ρ h hρ=>
 ⟨_, .lit _,λw' hw=>by
  obtain⟨p,cap,news,h1,h2,h3,_,h5,_⟩:=hx.spec (h.keep hw) (hρ.keep λb hb hA=>hw b hb (.inl hA));have h6:=qc (by rw[hn]at h5;exact h5);have hl0:l0.length=l.length:=by rw[hz,xe]at h3;rw[<-h3,h6,zA]
  rw[hl0]at h1 h2;have hconv:(convert T T' (.slice p l.length cap)).run P w'= .ok (.string (strOfNums l)) w':=by
   cases p with
   |none=>
    have:l=[]:=by
     rcases h2 with h2|⟨a,h2,_⟩
     ·exact yX h2
     ·cases h2
    subst this;have hc:=run_convert_bytes_nil (P:=P) w' T e hs he 0 cap T' hd;have:strOfNums []=ByteArray.empty:=rfl;rw[this];simpa using hc
   |some a=>
    have hl:(loadCells a l.length).run P w'= .ok (l.map (Value.int .u8)).toArray w':=by
     rcases h2 with h2|⟨a',h2,h4⟩
     ·have:l=[]:=yX h2;subst this;simp[loadCells,loadCellsFrom]
     ·cases h2;have:=run_loadCells_list (P:=P) w' a (l.map (Value.int .u8)) (λj v hj=>h4 j v (by rw[h6];exact hj));simpa using this
    rw[run_convert_bytes_string w' T T' e _ l.length cap hs he hd,run_bytesToString w' _ l.length cap l hl,foldl_push_bytes];simp[strOfNums,ByteArray.empty,ByteArray.emptyWithCapacity];rfl
  simp[execOp,ho,h1,hconv]⟩
def Yp.avc{s t:ByteArray}(ho:o.op= .binOp .eql T x y T')(hx:E.ev x=I (.s s))(hy:E.ev y=I (.s t)):Yp P E σ o (.b (s.toList==t.toList)):=Yp.lits λρ hρ w=>by
 simp[execOp,ho,hρ _ _ hx,hρ _ _ hy,eqGuard,binOp,Op.stringOp]
def Yp.ax1{s t:ByteArray}(ho:o.op= .binOp .neq T x y T')(hx:E.ev x=I (.s s))(hy:E.ev y=I (.s t)):Yp P E σ o (.b (!(s.toList==t.toList))):=Yp.lits λρ hρ w=>by
 simp[execOp,ho,hρ _ _ hx,hρ _ _ hy,eqGuard,binOp,Op.stringOp]
def run_equal_bool{w:World}{b c:Bool}(hT:P.underlying T=I .bool):(Op.equal T (.bool b) (.bool c)).run P w= .ok (b==c) w:=by
 obtain⟨d,hd⟩:∃d,Op.maxDepth=d+1:=⟨Op.maxDepth-1,by decide⟩;unfold Op.equal;rw[hd];unfold Op.equalIn;simp only[Sem.run_bind,run_underlying hT,Result.andThen_ok];rfl
def Yp.axY{b c:Bool}(ho:o.op= .binOp .eql T x y T')(hT:P.underlying T=I .bool)(hx:E.ev x=I (.b b))(hy:E.ev y=I (.b c)):Yp P E σ o (.b (b==c)):=Yp.lits λρ hρ w=>by
 have hbin:binOp .eql T (.bool b) (.bool c)=(do pure (.bool (<-Op.equal T (.bool b) (.bool c)))):=rfl;have h1:=run_equal_bool (P:=P) (T:=T) (w:=w) (b:=b) (c:=c) hT;simp only[execOp,ho,hρ _ _ hx,hρ _ _ hy,eqGuard,hbin];simp[h1]
def Yp.axI{b c:Bool}(ho:o.op= .binOp .neq T x y T')(hT:P.underlying T=I .bool)(hx:E.ev x=I (.b b))(hy:E.ev y=I (.b c)):Yp P E σ o (.b (!(b==c))):=Yp.lits λρ hρ w=>by
 have hbin:binOp .neq T (.bool b) (.bool c)=(do pure (.bool (!(<-Op.equal T (.bool b) (.bool c))))):=rfl;have h1:=run_equal_bool (P:=P) (T:=T) (w:=w) (b:=b) (c:=c) hT;simp only[execOp,ho,hρ _ _ hx,hρ _ _ hy,eqGuard,hbin];simp[h1]
end
end Go.Iv
end
noncomputable section
namespace Go.Iv
variable [U:qz]
open Go Go.RowKit
class mO [U:qz] where
 len:∀t x,(U.cells t x).length=U.sz t
 one:∀t x,(U.cells t x).all gG=J
 clo:∀t x ρ,(U.cells t x).map (cc.sub ρ)=U.cells t x
 qd:∀t x n,∀c∈U.cells t x,cI n c
 parse:(t:Nat)->List AV->Option (U.dc t)
 j0:∀t cs x,parse t cs=I x->∀A w us,bJ A w cs us->bJ A w (U.cells t x) us
 aa2:(t:Nat)->List (U.dc t)->Option (List Int)
 tB:∀t l ns,aa2 t l=I ns->l.flatMap (U.cells t)=ns.map (.n .u8)/\U.sz t=1
 fz:Nat->Bool:=λ_=>G
 arr:Nat->Bool:=λ_=>G
 gtB:(t:Nat)->U.dc t->Nat->Bool:=λ_ _ _=>G
 stB:(t:Nat)->U.dc t->Nat->Bool->U.dc t:=λ_ x _ _=>x
 aeV:∀t,arr t=J->∀x i,i<U.sz t->(U.cells t x)[i]? =I (.lit (.bool (gtB t x i))):=by intro t h;exact Bool.noConfusion h
 adg:∀t,arr t=J->∀x i b,i<U.sz t->U.cells t (stB t x i b)=(U.cells t x).take i++[.lit (.bool b)]++(U.cells t x).drop (i+1):=by intro t h;exact Bool.noConfusion h
variable [L:mO]
def JY(P:Program)(t n:Nat):Bool:=match P.info? t with
 |some i=>zg i.size n
 |none=>G
def p8{P:Program}{t n:Nat}(h:JY P t n=J):(P.info? t).map (·.size)=I n:=by
 unfold JY at h;cases hi:P.info? t with
 |none=>rw[hi]at h;cases h
 |some i=>
  rw[hi]at h;simp only[yo,zD.injEq];exact fM h
def SZ(P:Program)(t:Nat):Bool:=match P.underlying t with
 |some (.struct _)=>G
 |some (.array _ _)=>G
 |some _=>J
 |none=>G
def Ah{P:Program}{t:Nat}(h:SZ P t=J):qD P t:=by
 unfold SZ at h;unfold qD;split at h
 ·cases h
 ·cases h
 ·rename_i d hd;refine⟨_,hd,?_⟩;split
  ·simp_all
  ·simp_all
  ·trivial
 ·cases h
def QG(P:Program)(t:Nat):af Nat:=match P.underlying t with
 |some (.struct _)=>(P.info? t).map (·.size)
 |some (.array _ _)=>(P.info? t).map (·.size)
 |_=>S
def Ju{P:Program}{t n:Nat}(h:QG P t=I n):rQ P t n:=by
 unfold QG at h;split at h
 ·rename_i hd;exact⟨⟨_,hd,trivial⟩,h⟩
 ·rename_i hd;exact⟨⟨_,hd,trivial⟩,h⟩
 ·cases h
def CG(rd:Nat->af IR):AV->Bool
 | .own id=>match rd id with
  |some (.row _ _)=>J
  |_=>G
 | .ptr _ _=>J
 | .ra _ _ _ _=>G
 |d=>gG d
def B9(rd:Nat->af IR):AV->Bool
 | .agg cs=>cs.all (CG rd)
 |d=>CG rd d
section
variable {α:Type} {r:α} {P:Program} {o:Oper} {E:Env} {R:aX} {nx:Nat} {ev:Operand->af AV} {rd:Nat->af IR} {x y z:Operand} {d:AV}
structure jt (ev:Operand->Option AV) (rd:Nat->Option IR) (nx:Nat) (E:Env) (R:aX):Prop where
 e:∀x d,ev x=I d->E.ev x=I d
 r:∀id r,rd id=I r->fC R id=I r
 le:E.cI nx
 lr:aX.cI nx R
def jt.eX(h:jt ev rd nx E R)(hx:ev x=I d)(ρ:Gh):(E.sub ρ).ev x=I (d.sub ρ):=by
 rw[Env.Lu,h.e _ _ hx];rfl
def jt.qd(h:jt ev rd nx E R)(hx:ev x=I d):cI nx d:=Env.Vs h.le (h.e _ _ hx)
def jt.row(h:jt ev rd nx E R){id t:Nat}{l:aa (U.dc t)}(hr:rd id=I (.row t l))(ρ:Gh):∃i:Nat,(aX.res ρ R)[i]? =I (.row (ρ.v id) t l):=by
 obtain⟨i,h1,_⟩:=dV (h.r _ _ hr);exact⟨i,gC h1⟩
def jt.box(h:jt ev rd nx E R){id t:Nat}{cs:aa AV}(hr:rd id=I (.box t cs))(ρ:Gh):∃i:Nat,(aX.res ρ R)[i]? =I (.box (ρ.b id) t (cs.map (cc.sub ρ))):=by
 obtain⟨i,h1,_⟩:=dV (h.r _ _ hr);exact⟨i,gC h1⟩
def jt.acL(h:jt ev rd nx E R){id t:Nat}{cs:aa AV}(hr:rd id=I (.box t cs)):∀c∈cs,cI nx c:=(AP (h.r _ _ hr) h.lr).2
def Pu(P:Program)(o:Oper)(E:Env)(R:aX)(nx:Nat)(d:AV):Prop:=cI nx d/\∀ρ,Yp P (E.sub ρ) (aX.res ρ R) o (d.sub ρ)
def bR(ρ:Gh)(v:Value):cc.sub ρ (.lit v)= .lit v:=by simp only[cc.sub]
def fP(ρ:Gh)(t:Nat)(l:aa (U.dc t)):cc.sub ρ (.sl t l)= .sl t l:=by simp only[cc.sub]
def dF(ρ:Gh)(id:Nat):cc.sub ρ (.own id)= .lit (ρ.v id):=by simp only[cc.sub]
def eT(ρ:Gh)(id off:Nat):cc.sub ρ (.ptr id off)= .lit (.pointer (I ⟨ρ.b id,off,S⟩)):=by simp only[cc.sub]
def iT(ρ:Gh)(id t m off:Nat):cc.sub ρ (.ra id t m off)= .rp (ρ.v id) (m*U.sz t+off):=by simp only[cc.sub]
def lq(ρ:Gh)(cs:aa AV):cc.sub ρ (.fp cs)= .fp (cs.map (cc.sub ρ)):=by simp only[cc.sub]
def eC(ρ:Gh)(cs:aa AV):cc.sub ρ (.agg cs)= .agg (cs.map (cc.sub ρ)):=by simp only[cc.sub]
def jI(ρ:Gh)(cs:aa AV):cc.sub ρ (.iM cs)= .iM (cs.map (cc.sub ρ)):=by simp only[cc.sub]
def qM(ρ:Gh)(f:Go.Fn)(cs:aa AV):cc.sub ρ (.fn f cs)= .fn f (cs.map (cc.sub ρ)):=by simp only[cc.sub]
def Pu.lit{v:Value}(h:∀ρ,Yp P (E.sub ρ) (aX.res ρ R) o (.lit v)):Pu P o E R nx (.lit v):=⟨.lit v,λρ=>by rw[bR];exact h ρ⟩
def UN(b:BinOp)(k:IntKind)(m n:Int)(K:AV->af α):af α:=match b with
 | .add=>K (.n k (k.wrap (m+n)))
 | .sub=>K (.n k (k.wrap (m-n)))
 | .mul=>K (.n k (k.wrap (m*n)))
 | .quo=>if n≠0 then K (.n k (k.wrap (Int.tdiv m n)))else S
 | .rem=>if n≠0 then K (.n k (Int.tmod m n))else S
 | .and=>K (.n k (rG k m n))
 | .or=>K (.n k (X9 k m n))
 | .xor=>K (.n k (akc k m n))
 | .andNot=>K (.n k (akZ k m n))
 | .lss=>K (.b (O (m<n)))
 | .leq=>K (.b (O (m<=n)))
 | .gtr=>K (.b (O (n<m)))
 | .geq=>K (.b (O (n<=m)))
 | .eql=>K (.b (O (m=n)))
 | .neq=>K (.b (!O (m=n)))
 |_=>S
def Yp.aiz{T T' e q:Nat}{E:Env}{σ:aa cG}{l:aa (U.dc q)}(ho:o.op= .binOp .eql T x y T')(hx:E.ev x=I (.sl q l))(hy:E.ev y=I (.lit (.slice S 0 0)))(hT:P.underlying T=I (.slice e))(hl:l≠[]):Yp P E σ o (.b G):=λA w ρ _ hρ=>by
 obtain⟨p,cap,u,hv,_,_,_,hc,_⟩:=(hρ _ _ hx).sR;have h2:=(hρ _ _ hy).cH;obtain⟨b,off,hp,_⟩:=hc 0 (List.length_pos_iff.2 hl);subst hp;refine⟨_, .lit _,λw' _=> ?_⟩;have h1:=Lib.run_eql_slice_nil (P:=P) w' T e (I ⟨b,off,S⟩) l.length cap 0 0 hT;simp[execOp,ho,hv,h2,eqGuard,h1]
def Yp.amv{T T' e q i:Nat}{v:Value}{E:Env}{σ:aa cG}{l:aa (U.dc q)}(ho:o.op= .binOp .eql T x y T')(hx:E.ev x=I (.lit v))(hσ:σ[i]? =I (.row v q l))(hy:E.ev y=I (.lit (.slice S 0 0)))(hT:P.underlying T=I (.slice e))(hl:l≠[]):Yp P E σ o (.b G):=λA w ρ hd hρ=>by
 obtain⟨us,h1,_⟩:=hd.1 _ (List.mem_of_getElem? hσ);obtain⟨g,cap,cur,hv,_⟩:=h1.at (List.length_pos_iff.2 hl);have hx':=(hρ _ _ hx).cH;have h2:=(hρ _ _ hy).cH;refine⟨_, .lit _,λw' _=> ?_⟩;have h1:=Lib.run_eql_slice_nil (P:=P) w' T e (I ⟨g,0,S⟩) l.length (cap+1) 0 0 hT;simp[execOp,ho,hx',hv,h2,eqGuard,h1]
def Ml(P:Program)(t:TypeId)(a b:AV):af Bool:=match P.underlying t with
 |some (.int _)=>match a,b with
  | .lit (.int k m), .lit (.int k' n)=>if k=k' then I (O (m=n))else S
  |_,_=>S
 |some .bool=>match a,b with
  | .lit (.bool p), .lit (.bool q)=>I (p==q)
  |_,_=>S
 |some .string=>match a,b with
  | .lit (.string p), .lit (.string q)=>I (p.toList==q.toList)
  |_,_=>S
 |_=>S
def SJ(P:Program)(xs ys:aa AV):aa Field->af Bool
 |[]=>I J
 |f::fs=>match (f.name !="_")&&SZ P f.type with
  |true=>match xs[f.offset]?,ys[f.offset]? with
   |some a,I b=>(Ml P f.type a b).bind λr=>(SJ P xs ys fs).map λq=>r&&q
   |_,_=>S
  |false=>S
def sV{P:Program}{t:TypeId}(h:qD P t){us:aa Value}{i:Nat}{v:Value}(hv:us[i]? =I v)(w:World):(part t us.toArray i).run P w= .ok v w:=by
 unfold part;rw[Sem.run_bind,kT h];simp[hv]
def Mk{P:Program}{t:TypeId}{a b:AV}{q:Bool}(h:Ml P t a b=I q){A A':Nat->Prop}{w w' w'':World}{u v:Value}{ρ ρ':Gh}(ha:Rel A w (a.sub ρ) u)(hb:Rel A' w' (b.sub ρ') v)(d:Nat):(Op.equalIn (d+1) t u v).run P w''= .ok q w'':=by
 unfold Ml at h;split at h
 ·rename_i k0 ht;split at h
  ·split at h
   ·rename_i hk;subst hk;cases h;simp only[cc.sub]at ha hb;rw[ha.cH,hb.cH];exact run_equalIn_int _ d t _ k0 _ _ ht
   ·cases h
  ·cases h
 ·rename_i ht;split at h
  ·cases h;simp only[cc.sub]at ha hb;rw[ha.cH,hb.cH];exact run_equalIn_bool' _ d t _ _ ht
  ·cases h
 ·rename_i ht;split at h
  ·cases h;simp only[cc.sub]at ha hb;rw[ha.cH,hb.cH];exact run_equalIn_string _ d t _ _ ht
  ·cases h
 ·cases h
def K0{P:Program}{xs ys:aa AV}{A A':Nat->Prop}{w w' w'':World}{us vs:aa Value}{ρ ρ':Gh}(ha:bJ A w (xs.map (cc.sub ρ)) us)(hb:bJ A' w' (ys.map (cc.sub ρ')) vs)(d:Nat):∀{fs:aa Field} {q:Bool},SJ P xs ys fs=I q->(Op.eqFields (d+1) us.toArray vs.toArray fs).run P w''= .ok q w''
 |[],q,h=>by cases h;simp[Op.eqFields]
 |f::fs,q,h=>by
  unfold SJ at h;split at h
  case h_2=>cases h
  rename_i hf;simp only[zj,bne_iff_ne,ne_eq]at hf;split at h
  case h_2=>cases h
  rename_i a b hx hy;obtain⟨r1,h1,h⟩:=zn.1 h;obtain⟨q1,h2,rfl⟩:=zk.1 h;obtain⟨u,hu,hu'⟩:=ha.get (a:=a.sub ρ) (j:=f.offset) (by rw[ya,hx];rfl);obtain⟨v,hv,hv'⟩:=hb.get (a:=b.sub ρ') (j:=f.offset) (by rw[ya,hy];rfl);have ih:=K0 (w'':=w'') ha hb d h2;have hone:=Ah hf.2;unfold Op.eqFields;rw[bD hf.1];simp only[Sem.run_bind,sV hone hu,sV hone hv,Result.andThen_ok,Mk (w'':=w'') h1 hu' hv' d];cases r1 with
  |true=>simpa using ih
  |false=>simp
def Yp.seq'{T T':TypeId}{E:Env}{σ:aa cG}{b:BinOp}{cs ds:aa AV}{fs:Array Field}{q:Bool}{ρ ρ':Gh}(ho:o.op= .binOp b T x y T')(hx:E.ev x=I (.agg (cs.map (cc.sub ρ))))(hy:E.ev y=I (.agg (ds.map (cc.sub ρ'))))(hT:P.underlying T=I (.struct fs))(hp:P.stoodInHeld T=G)(hg:P.eqGuardType P.depth T=G)(hq:SJ P cs ds fs.toList=I q)(hb:b= .eql\/b= .neq):
  Yp P E σ o (.b (match b with| .neq=> !q|_=>q)):=λA w ϱ _ hρ=>by
 obtain⟨us,h1,h2⟩:=(hρ _ _ hx).mV;obtain⟨vs,h3,h4⟩:=(hρ _ _ hy).mV;refine⟨_, .lit _,λw' _=> ?_⟩;have hT':P.underlying T=I (.struct (P.fieldsOf T)):=by unfold Program.fieldsOf;rw[hT]
 have hfs:P.fieldsOf T=fs:=by unfold Program.fieldsOf;rw[hT]
 have he:=run_equalIn_struct (P:=P) w' 9999 T us.toArray vs.toArray hT' hp;rw[hfs,K0 (w'':=w') h2 h4 9998 hq]at he;have hgr:=run_eqGuard_agg (P:=P) w' b T x y us.toArray vs.toArray hg;rcases hb with rfl|rfl
 ·have h5:=run_eql_struct (P:=P) w' T us.toArray vs.toArray;rw[he]at h5;simp[execOp,ho,h1,h3,hgr,h5]
 ·have h5:=run_neq_struct (P:=P) w' T us.toArray vs.toArray;rw[he]at h5;simp[execOp,ho,h1,h3,hgr,h5]
def eqS(P:Program)(b:BinOp)(T:TypeId)(cs ds:aa AV)(K:AV->af α):af α:=match P.underlying T with
 |some (.struct fs)=>match !P.stoodInHeld T&& !P.eqGuardType P.depth T with
  |true=>match b with
   | .eql=>(SJ P cs ds fs.toList).bind λq=>K (.b q)
   | .neq=>(SJ P cs ds fs.toList).bind λq=>K (.b (!q))
   |_=>S
  |false=>S
 |_=>S
def alj{b:BinOp}{T T':TypeId}{cs ds:aa AV}(hs:jt ev rd nx E R)(ho:o.op= .binOp b T x y T')(hx:ev x=I (.agg cs))(hy:ev y=I (.agg ds)){K:AV->af α}(h:eqS P b T cs ds K=I r):∃d,K d=I r/\Pu P o E R nx d:=by
 unfold eqS at h;split at h
 case h_2=>cases h
 rename_i fs hT;split at h
 case h_2=>cases h
 rename_i hg;simp only[zj,Bool.not_eq_true']at hg;have ex:=λρ=>hs.eX hx ρ;have ey:=λρ=>hs.eX hy ρ;simp only[eC]at ex ey;split at h
 ·obtain⟨q,hq,h⟩:=zn.1 h;exact⟨_,h, .lit λρ=> .seq' ho (ex ρ) (ey ρ) hT hg.1 hg.2 hq (.inl rfl)⟩
 ·obtain⟨q,hq,h⟩:=zn.1 h;exact⟨_,h, .lit λρ=> .seq' ho (ex ρ) (ey ρ) hT hg.1 hg.2 hq (.inr rfl)⟩
 ·cases h
def J5(P:Program)(rd:Nat->af IR)(b:BinOp)(T:TypeId)(x y:af AV)(K:AV->af α):af α:=match x,y with
 |some (.lit (.int k m)),I (.lit (.int k' n))=>match b with
  | .shl=>if 0<=n then K (.n k (lu k m n))else S
  | .shr=>if 0<=n then K (.n k (cP k m n))else S
  |_=>if k=k' then UN b k m n K else S
 |some (.lit (.bool p)),I (.lit (.bool q))=>match P.underlying T with
  |some .bool=>match b with
   | .eql=>K (.b (p==q))
   | .neq=>K (.b (!(p==q)))
   |_=>S
  |_=>S
 |some (.lit (.string s)),I (.lit (.string t))=>match b with
  | .eql=>K (.b (s.toList==t.toList))
  | .neq=>K (.b (!(s.toList==t.toList)))
  |_=>S
 |some (.lit (.slice p _ _)),I (.lit (.slice S 0 0))=>match b,P.underlying T with
  | .eql,I (.slice _)=>K (.b p.isNone)
  |_,_=>S
 |some (.sl _ l),I (.lit (.slice S 0 0))=>match b,P.underlying T with
  | .eql,I (.slice _)=>match l with
   |[]=>S
   |_::_=>K (.b G)
  |_,_=>S
 |some (.own id),I (.lit (.slice S 0 0))=>match b,P.underlying T with
  | .eql,I (.slice _)=>match rd id with
   |some (.row _ (_::_))=>K (.b G)
   |_=>S
  |_,_=>S
 |some (.agg cs),I (.agg ds)=>eqS P b T cs ds K
 |_,_=>S
def ad7{b:BinOp}{T T':TypeId}(hs:jt ev rd nx E R)(ho:o.op= .binOp b T x y T'){K:AV->af α}(h:J5 P rd b T (ev x) (ev y) K=I r):∃d,K d=I r/\Pu P o E R nx d:=by
 unfold J5 at h;split at h
 ·rename_i k m k' n hx hy;have ex:=λρ=>hs.eX hx ρ;have ey:=λρ=>hs.eX hy ρ;simp only[bR]at ex ey;split at h
  ·split at h
   ·rename_i h0;exact⟨_,h, .lit λρ=> .shl ho (ex ρ) (ey ρ) h0⟩
   ·cases h
  ·split at h
   ·rename_i h0;exact⟨_,h, .lit λρ=> .shr ho (ex ρ) (ey ρ) h0⟩
   ·cases h
  ·split at h
   ·rename_i hk;subst hk;unfold UN at h;split at h
    ·exact⟨_,h, .lit λρ=> .add ho (ex ρ) (ey ρ)⟩
    ·exact⟨_,h, .lit λρ=> .sub ho (ex ρ) (ey ρ)⟩
    ·exact⟨_,h, .lit λρ=> .mul ho (ex ρ) (ey ρ)⟩
    ·split at h
     ·rename_i h0;exact⟨_,h, .lit λρ=> .quo ho (ex ρ) (ey ρ) h0⟩
     ·cases h
    ·split at h
     ·rename_i h0;exact⟨_,h, .lit λρ=> .rem ho (ex ρ) (ey ρ) h0⟩
     ·cases h
    ·exact⟨_,h, .lit λρ=> .and ho (ex ρ) (ey ρ)⟩
    ·exact⟨_,h, .lit λρ=> .or ho (ex ρ) (ey ρ)⟩
    ·exact⟨_,h, .lit λρ=> .xor ho (ex ρ) (ey ρ)⟩
    ·exact⟨_,h, .lit λρ=> .andNot ho (ex ρ) (ey ρ)⟩
    ·exact⟨_,h, .lit λρ=> .lss ho (ex ρ) (ey ρ)⟩
    ·exact⟨_,h, .lit λρ=> .leq ho (ex ρ) (ey ρ)⟩
    ·exact⟨_,h, .lit λρ=> .gtr ho (ex ρ) (ey ρ)⟩
    ·exact⟨_,h, .lit λρ=> .geq ho (ex ρ) (ey ρ)⟩
    ·exact⟨_,h, .lit λρ=> .eql ho (ex ρ) (ey ρ)⟩
    ·exact⟨_,h, .lit λρ=> .neq ho (ex ρ) (ey ρ)⟩
    ·cases h
   ·cases h
 ·rename_i p q hx hy;have ex:=λρ=>hs.eX hx ρ;have ey:=λρ=>hs.eX hy ρ;simp only[bR]at ex ey;split at h
  ·rename_i hT;split at h
   ·exact⟨_,h, .lit λρ=> .axY ho hT (ex ρ) (ey ρ)⟩
   ·exact⟨_,h, .lit λρ=> .axI ho hT (ex ρ) (ey ρ)⟩
   ·cases h
  ·cases h
 ·rename_i s t hx hy;have ex:=λρ=>hs.eX hx ρ;have ey:=λρ=>hs.eX hy ρ;simp only[bR]at ex ey;split at h
  ·exact⟨_,h, .lit λρ=> .avc ho (ex ρ) (ey ρ)⟩
  ·exact⟨_,h, .lit λρ=> .ax1 ho (ex ρ) (ey ρ)⟩
  ·cases h
 ·rename_i p l c hx hy;have ex:=λρ=>hs.eX hx ρ;have ey:=λρ=>hs.eX hy ρ;simp only[bR]at ex ey;split at h
  ·rename_i hT;exact⟨_,h, .lit λρ=> .aj7 ho (ex ρ) (ey ρ) hT⟩
  ·cases h
 ·rename_i t l hx hy;have ex:=λρ=>hs.eX hx ρ;have ey:=λρ=>hs.eX hy ρ;simp only[bR]at ey;simp only[fP]at ex;split at h
  ·rename_i hT;split at h
   ·cases h
   ·exact⟨_,h, .lit λρ=> .aiz ho (ex ρ) (ey ρ) hT (by simp)⟩
  ·cases h
 ·rename_i id hx hy;have ex:=λρ=>hs.eX hx ρ;have ey:=λρ=>hs.eX hy ρ;simp only[bR]at ey;simp only[dF]at ex;split at h
  ·rename_i hT;split at h
   ·rename_i hr;exact⟨_,h, .lit λρ=>by
     obtain⟨i,hi⟩:=hs.row hr ρ;exact .amv ho (ex ρ) hi (ey ρ) hT (by simp)⟩
   ·cases h
  ·cases h
 ·rename_i cs ds hx hy;exact alj hs ho hx hy h
 ·cases h
def unV(b:UnOp)(x:af AV)(K:AV->af α):af α:=match b,x with
 | .not,I (.lit (.bool p))=>K (.b (!p))
 | .neg,I (.lit (.int k n))=>K (.n k (k.wrap (0-n)))
 |_,_=>S
def amx{b:UnOp}{T:TypeId}(hs:jt ev rd nx E R)(ho:o.op= .unOp b T x){K:AV->af α}(h:unV b (ev x) K=I r):∃d,K d=I r/\Pu P o E R nx d:=by
 unfold unV at h;split at h
 ·rename_i p hx;have ex:=λρ=>hs.eX hx ρ;simp only[bR]at ex;exact⟨_,h, .lit λρ=> .not ho (ex ρ)⟩
 ·rename_i p hx;have ex:=λρ=>hs.eX hx ρ;simp only[bR]at ex;exact⟨_,h, .lit λρ=> .neg ho (ex ρ)⟩
 ·cases h
def Lz(x:af AV)(K:AV->af α):af α:=match x with
 |some (.ptr id off)=>K (.ptr id off)
 |some (.fp cs)=>K (.fp cs)
 |some (.ra id t m off)=>K (.ra id t m off)
 |_=>S
def ac8(hs:jt ev rd nx E R)(ho:o.op= .nilCheck x){K:AV->af α}(h:Lz (ev x) K=I r):∃d,K d=I r/\Pu P o E R nx d:=by
 unfold Lz at h;split at h
 ·rename_i hx;exact⟨_,h,hs.qd hx,λρ=>by have ex:=hs.eX hx ρ;rw[eT]at ex ⊢;exact .Tp ho ex⟩
 ·rename_i hx;exact⟨_,h,hs.qd hx,λρ=>by have ex:=hs.eX hx ρ;rw[lq]at ex ⊢;exact .RS ho ex⟩
 ·rename_i hx;exact⟨_,h,hs.qd hx,λρ=>by have ex:=hs.eX hx ρ;rw[iT]at ex ⊢;exact .RJ ho ex⟩
 ·cases h
def lD{n:Nat}{cs:aa AV}(h:∀c∈cs,cI n c)(k:Nat):∀c∈cs.drop k,cI n c:=λc hc=>h c (xU hc)
def oJ{n:Nat}{cs:aa AV}(h:∀c∈cs,cI n c)(k:Nat):∀c∈cs.take k,cI n c:=λc hc=>h c (wz hc)
def cI.fpL{n:Nat}{cs:aa AV}(h:cI n (.fp cs)):∀c∈cs,cI n c:=by cases h;assumption
def cI.nE{n:Nat}{cs:aa AV}(h:cI n (.agg cs)):∀c∈cs,cI n c:=by cases h;assumption
def cI.Dz{n:Nat}{cs:aa AV}(h:cI n (.iM cs)):∀c∈cs,cI n c:=by cases h;assumption
def cI.fnL{n:Nat}{f:Go.Fn}{cs:aa AV}(h:cI n (.fn f cs)):∀c∈cs,cI n c:=by cases h;assumption
def cI.as5{n id off:Nat}(h:cI n (.ptr id off)):id<n:=by cases h;assumption
def cI.raL{n id t m off:Nat}(h:cI n (.ra id t m off)):id<n:=by cases h;assumption
def cI.av5{n id:Nat}(h:cI n (.own id)):id<n:=by cases h;assumption
def sg{n:Nat}{cs:aa AV}(h:∀c∈cs,cI n c){k:Nat}(hk:cs[k]? =I d):cI n d:=h d (List.mem_of_getElem? hk)
def tX{n:Nat}{cs ds:aa AV}(h:∀c∈cs,cI n c)(h':∀c∈ds,cI n c):∀c∈cs++ds,cI n c:=λc hc=>(zU.1 hc).elim (h c) (h' c)
def uS{n:Nat}(h:cI n d):∀c∈dz d,cI n c:=by
 cases d<;>first|exact h.nE|(intro c hc;simp only[dz,zJ]at hc;rw[hc];exact h)
def J6(n:Nat)(zs:aa Value):∀c∈zs.map (cc.lit (dc:=U.dc)),cI n c:=λc hc=>by
 obtain⟨v,_,rfl⟩:=zL.1 hc;exact .lit v
def NU(P:Program)(T:TypeId)(i:Nat)(x:af AV)(K:AV->af α):af α:=match P.underlying T with
 |some (.struct fs)=>match fs[i]? with
  |some f=>match (P.info? f.type).map (·.size)with
   |some (_+1)=>match x with
    |some (.ptr id off)=>K (.ptr id (off+f.offset))
    |some (.fp cs)=>K (.fp (cs.drop f.offset))
    |some (.ra id t m off)=>K (.ra id t m (off+f.offset))
    |_=>S
   |_=>S
  |none=>S
 |_=>S
def abv{T:TypeId}{i:Nat}(hs:jt ev rd nx E R)(ho:o.op= .fieldAddr T x i){K:AV->af α}(h:NU P T i (ev x) K=I r):∃d,K d=I r/\Pu P o E R nx d:=by
 unfold NU at h;split at h
 case h_2=>cases h
 rename_i fs hT;split at h
 case h_2=>cases h
 rename_i f hf;split at h
 case h_2=>cases h
 rename_i sz hsz;split at h
 ·rename_i id off hx;exact⟨_,h, .ptr _ _ (hs.qd hx).as5,λρ=>by have ex:=hs.eX hx ρ;rw[eT]at ex ⊢;exact .alR ho ex hT hf hsz⟩
 ·rename_i cs hx;exact⟨_,h, .fp _ (lD (hs.qd hx).fpL _),λρ=>by have ex:=hs.eX hx ρ;rw[lq]at ex ⊢;rw[xd];exact .akI ho ex hT hf hsz⟩
 ·rename_i id t m off hx;exact⟨_,h, .ra _ _ _ _ (hs.qd hx).raL,λρ=>by have ex:=hs.eX hx ρ;rw[iT]at ex ⊢;rw[<-xP];exact .ajj ho ex hT hf hsz⟩
 ·cases h
def NW(P:Program)(rd:Nat->af IR)(T:TypeId)(x y:af AV)(K:AV->af α):af α:=match y with
 |some (.lit (.int _ m))=>match P.underlying T with
  |some (.slice e)=>match x with
   |some (.sl t l)=>match JY P e (U.sz t)with
    |true=>if 0<=m/\m<(l.length:Int)then K (.fp (U.cells t l[m.toNat]!))else S
    |false=>S
   |some (.own id)=>match rd id with
    |some (.row t l)=>match JY P e (U.sz t)with
     |true=>if 0<=m/\m<(l.length:Int)then K (.ra id t m.toNat 0)else S
     |false=>S
    |_=>S
   |_=>S
  |some (.array n e)=>match (P.info? e).map (·.size)with
   |some sz=>if 0<=m/\m<(n:Int)then(match x with
    |some (.ptr id off)=>K (.ptr id (off+m.toNat*sz))
    |some (.fp cs)=>K (.fp (cs.drop (m.toNat*sz)))
    |some (.ra id t j off)=>K (.ra id t j (off+m.toNat*sz))
    |_=>S)else S
   |none=>S
  |_=>S
 |_=>S
def ZB{T:TypeId}(hs:jt ev rd nx E R)(ho:o.op= .indexAddr T x y){K:AV->af α}(h:NW P rd T (ev x) (ev y) K=I r):∃d,K d=I r/\Pu P o E R nx d:=by
 unfold NW at h;split at h
 case h_2=>cases h
 rename_i k m hy;have ey:=λρ=>hs.eX hy ρ;simp only[bR]at ey;split at h
 ·rename_i e hT;split at h
  ·rename_i t l hx;split at h
   case h_2=>cases h
   rename_i hsz;split at h
   ·rename_i hm;exact⟨_,h, .fp _ (L.qd t _ nx),λρ=>by have ex:=hs.eX hx ρ;rw[fP]at ex;rw[lq,L.clo];exact .YW ho ex (ey ρ) hT (p8 hsz) hm⟩
   ·cases h
  ·rename_i id hx;split at h
   case h_2=>cases h
   rename_i t l hr;split at h
   case h_2=>cases h
   rename_i hsz;split at h
   ·rename_i hm;refine⟨_,h, .ra _ _ _ _ (hs.qd hx).av5,λρ=> ?_⟩;have ex:=hs.eX hx ρ;rw[dF]at ex;obtain⟨i,hi⟩:=hs.row hr ρ;rw[iT,yd];exact .VM i ho ex hi (ey ρ) hT (p8 hsz) hm
   ·cases h
  ·cases h
 ·rename_i n e hT;split at h
  case h_2=>cases h
  rename_i sz hsz;split at h
  case isFalse=>cases h
  rename_i hm;split at h
  ·rename_i id off hx;exact⟨_,h, .ptr _ _ (hs.qd hx).as5,λρ=>by have ex:=hs.eX hx ρ;rw[eT]at ex ⊢;exact .aks ho ex (ey ρ) hT hsz hm⟩
  ·rename_i cs hx;exact⟨_,h, .fp _ (lD (hs.qd hx).fpL _),λρ=>by have ex:=hs.eX hx ρ;rw[lq]at ex ⊢;rw[xd];exact .akB ho ex (ey ρ) hT hsz hm⟩
  ·rename_i id t j off hx;exact⟨_,h, .ra _ _ _ _ (hs.qd hx).raL,λρ=>by have ex:=hs.eX hx ρ;rw[iT]at ex ⊢;rw[<-xP];exact .alf ho ex (ey ρ) hT hsz hm⟩
  ·cases h
 ·cases h
def ldV(P:Program)(rd:Nat->af IR)(T:TypeId)(x:af AV)(K:AV->af α):af α:=match SZ P T with
 |true=>match x with
  |some (.fp cs)=>(cs[0]?).bind K
  |some (.ptr id off)=>match rd id with
   |some (.box _ cs)=>(cs[off]?).bind K
   |_=>S
  |some (.ra id t m off)=>match rd id with
   |some (.row t' l)=>match L.arr t' with
    |true=>if t=t'/\m<l.length/\off<U.sz t' then K (.lit (.bool (L.gtB t' l[m]! off)))else S
    |false=>if t=t'/\m<l.length then((U.cells t' l[m]!)[off]?).bind K else S
   |_=>S
  |_=>S
 |false=>match QG P T with
  |some n=>match x with
   |some (.fp cs)=>match ye n cs.length with
    |true=>K (.agg (cs.take n))
    |false=>S
   |some (.ptr id off)=>match rd id with
    |some (.box _ cs)=>match ye (off+n) cs.length with
     |true=>K (.agg ((cs.drop off).take n))
     |false=>S
    |_=>S
   |some (.ra id t m off)=>match rd id with
    |some (.row t' l)=>match ye (off+n) (U.sz t')with
     |true=>if t=t'/\m<l.length then K (.agg (((U.cells t' l[m]!).drop off).take n))else S
     |false=>S
    |_=>S
   |_=>S
  |none=>S
def ami{T:TypeId}(hs:jt ev rd nx E R)(ho:o.op= .load T x){K:AV->af α}(h:ldV P rd T (ev x) K=I r):∃d,K d=I r/\Pu P o E R nx d:=by
 unfold ldV at h;split at h
 ·rename_i hT;have hT:=Ah hT;split at h
  ·rename_i cs hx;obtain⟨d,hd,h⟩:=zn.1 h;exact⟨d,h,sg (hs.qd hx).fpL hd,λρ=>by have ex:=hs.eX hx ρ;rw[lq]at ex;exact .alu ho ex hT (by rw[ya,hd];rfl)⟩
  ·rename_i id off hx;split at h
   case h_2=>cases h
   rename_i t cs hr;obtain⟨d,hd,h⟩:=zn.1 h;refine⟨d,h,sg (hs.acL hr) hd,λρ=> ?_⟩;have ex:=hs.eX hx ρ;rw[eT]at ex;obtain⟨i,hi⟩:=hs.box hr ρ;exact .al2 i ho ex hi hT (by rw[ya,hd];rfl)
  ·rename_i id t m off hx;split at h
   case h_2=>cases h
   rename_i t' l hr;split at h
   ·rename_i har;split at h
    case isFalse=>cases h
    rename_i hm;obtain⟨rfl,hm,hoff⟩:=hm;refine⟨_,h, .lit _,λρ=> ?_⟩;have ex:=hs.eX hx ρ;rw[iT]at ex;obtain⟨i,hi⟩:=hs.row hr ρ;rw[show (cc.lit (.bool (L.gtB t l[m]! off)):AV).sub ρ= .lit (.bool (L.gtB t l[m]! off))by simp only[cc.sub]];exact .X4 i m ho ex hi hT rfl hm (L.aeV t har l[m]! off hoff)
   split at h
   case isFalse=>cases h
   rename_i hm;obtain⟨rfl,hm⟩:=hm;obtain⟨d,hd,h⟩:=zn.1 h;refine⟨d,h,sg (L.qd t _ nx) hd,λρ=> ?_⟩;have ex:=hs.eX hx ρ;rw[iT]at ex;obtain⟨i,hi⟩:=hs.row hr ρ;have hc:d.sub ρ=d:=by
    have:=L.clo t l[m]! ρ;have h2:((U.cells t l[m]!).map (cc.sub ρ))[off]? =I (d.sub ρ):=by rw[ya,hd];rfl
    rw[this,hd]at h2;exact(zD.inj h2).symm
   rw[hc];exact .X4 i m ho ex hi hT rfl hm hd
  ·cases h
 ·split at h
  case h_2=>cases h
  rename_i n hT;have hT:=Ju hT;split at h
  ·rename_i cs hx;split at h
   case h_2=>cases h
   rename_i hn;exact⟨_,h, .agg _ (oJ (hs.qd hx).fpL _),λρ=>by have ex:=hs.eX hx ρ;rw[lq]at ex;rw[eC,xC];exact .akW ho ex hT (by rw[zA];exact xV hn)⟩
  ·rename_i id off hx;split at h
   case h_2=>cases h
   rename_i t cs hr;split at h
   case h_2=>cases h
   rename_i hn;refine⟨_,h, .agg _ (oJ (lD (hs.acL hr) _) _),λρ=> ?_⟩;have ex:=hs.eX hx ρ;rw[eT]at ex;obtain⟨i,hi⟩:=hs.box hr ρ;rw[eC,xC,xd];exact .aiV i ho ex hi hT (by rw[zA];exact xV hn)
  ·rename_i id t m off hx;split at h
   case h_2=>cases h
   rename_i t' l hr;split at h
   case h_2=>cases h
   rename_i hn;split at h
   case isFalse=>cases h
   rename_i hm;obtain⟨rfl,hm⟩:=hm;refine⟨_,h, .agg _ (oJ (lD (L.qd t _ nx) _) _),λρ=> ?_⟩;have ex:=hs.eX hx ρ;rw[iT]at ex;obtain⟨i,hi⟩:=hs.row hr ρ;rw[eC,xC,xd,L.clo];exact .akm i m ho ex hi hT rfl hm (xV hn)
  ·cases h
end
end Go.Iv
end
noncomputable section
namespace Go.Iv
variable [U:qz] [L:mO]
open Go Go.RowKit
section
variable {P:Program} {E:Env} {σ:aa cG} {o:Oper} {T T' e:TypeId} {x y z:Operand} {av:AV} {m:Int} {k:IntKind}
def Yp.akL{n':Nat}{cs:aa AV}(ho:o.op= .index T x y)(hx:E.ev x=I (.agg cs))(hy:E.ev y=I (.n k m))(hT:P.underlying T=I (.array n' e))(h1:qD P e)(hs:(P.info? e).map (·.size)=I 1)(hm:0<=m/\m<n')(ha:cs[m.toNat]? =I av):Yp P E σ o av:=λA w ρ _ hρ=>by
 obtain⟨j,hj,hj'⟩:=zk.1 hs;obtain⟨us,q1,q2⟩:=(hρ _ _ hx).mV;have hy':=(hρ _ _ hy).cH;obtain⟨v,q3,q4⟩:=q2.get ha;refine⟨v,q4,λw' _=> ?_⟩;have hp:(part e us.toArray m.toNat).run P w'= .ok v w':=by
  unfold part;rw[Sem.run_bind,kT h1];simp[q3]
 simp[execOp,ho,Instr.index,q1,hy',run_underlying hT,sizeOf,typeInfo,hj,hj',asIntOf,hm,hp]
end
section
variable {α:Type} {r:α} {P:Program} {o:Oper} {E:Env} {R:aX} {nx:Nat} {ev:Operand->af AV} {rd:Nat->af IR} {x y z:Operand} {d:AV} {A:Nat->Prop} {w:World} {ρ:Gh} {v:Value}
def kj(ρ:Gh)(d:AV):dz (d.sub ρ)=(dz d).map (cc.sub ρ):=by
 cases d<;>simp only[cc.sub,dz,z7,yK]
def N5{d:AV}(h:gG d=J)(hn:∀id,d≠ .own id):gG (d.sub ρ)=J:=by
 cases d<;>first|(exact dg rfl (hn _))|(cases h;done)|(simp only[cc.sub,gG]at h ⊢;done)|(simp only[cc.sub,gG]at h ⊢;first|exact h|rfl)
def CM(hs:jt ev rd nx E R)(h:CG rd d=J)(hd:Hd A (aX.res ρ R) w)(hr:Rel A w (d.sub ρ) v):v.oneCell'=J:=by
 unfold CG at h;split at h
 ·rename_i id;split at h
  ·rename_i t l hrd;obtain⟨i,hi⟩:=hs.row hrd ρ;rw[dF]at hr;rw[hr.cH];exact Yo i hi hd
  ·cases h
 ·rw[eT]at hr;rw[hr.cH];rfl
 ·cases h
 ·rename_i h1 _ _;exact hr.one (N5 h (λid e=>h1 id e))
def sO(hs:jt ev rd nx E R)(h:B9 rd d=J)(hd:Hd A (aX.res ρ R) w)(hr:Rel A w (d.sub ρ) v):bJ A w ((dz d).map (cc.sub ρ)) v.cells.toList/\∀u∈v.cells.toList,u.oneCell'=J:=by
 by_cases ha:∃cs,d= .agg cs
 ·obtain⟨cs,rfl⟩:=ha;rw[eC]at hr;obtain⟨us,rfl,h2⟩:=hr.mV;refine⟨by simpa [Value.cells,dz]using h2,λu hu=> ?_⟩;simp only[Value.cells,List.toList_toArray]at hu;obtain⟨j,hj,rfl⟩:=xR hu;have hlt:j<cs.length:=by have:=h2.1;rw[zA]at this;omega
  have h3:=h2.2 j _ us[j] (by rw[ya,zq hlt];rfl) (zq hj);exact CM hs (zu.1 h _ (xy hlt)) hd h3
 ·have hc:CG rd d=J:=by
   cases d<;>first|exact h|(exact dg ⟨_,rfl⟩ ha)
  have hac:dz d=[d]:=by
   cases d<;>first|rfl|(exact dg ⟨_,rfl⟩ ha)
  have h2:=CM hs hc hd hr;rw[hac,qG h2];exact⟨bJ.cons hr bJ.nil,λu hu=>by simp at hu;rw[hu];exact h2⟩
def D6(hs:jt ev rd nx E R)(h:B9 rd d=J):Pw (aX.res ρ R) (d.sub ρ):=λA w v hd hr=>by
 rw[kj];exact sO hs h hd hr
def sx(rd:Nat->af IR)(place:Nat->af (Nat×Nat))(cells:aa AV):aa (Nat×AV)->af (aa AV)
 |[]=>I cells
 |(i,a)::rest=>
  match place i with
  |none=>S
  |some (off,size)=>
   match zg (dz a).length size&&ye (off+size) cells.length&&B9 rd a with
   |true=>sx rd place (cells.take off++dz a++cells.drop (off+size)) rest
   |false=>S
def DY{place:Nat->af (Nat×Nat)}:∀{ps:aa (Nat×AV)} {cs cs':aa AV},(∀c∈cs,cI nx c)->(∀p∈ps,cI nx p.2)->sx rd place cs ps=I cs'->∀c∈cs',cI nx c
 |[],cs,cs',h1,_,hf=>by cases hf;exact h1
 |(i,a)::ps,cs,cs',h1,h2,hf=>by
  unfold sx at hf;split at hf
  ·cases hf
  ·split at hf
   ·exact DY (tX (tX (oJ h1 _) (uS (h2 _ zm))) (lD h1 _)) (λp hp=>h2 p (zK _ hp)) hf
   ·cases hf
def vG(hs:jt ev rd nx E R)(hd:Hd A (aX.res ρ R) w){place:Nat->af (Nat×Nat)}:∀{ps:aa (Nat×AV)} {qs:aa (Nat×Value)} {cs cs':aa AV} {init:Array Value},bJ A w (cs.map (cc.sub ρ)) init.toList->
  F2 (λ(p:Nat×AV) (q:Nat×Value)=>p.1=q.1/\Rel A w (p.2.sub ρ) q.2) ps qs->sx rd place cs ps=I cs'->∃us:Array Value,Instr.fill place init qs=I us/\bJ A w (cs'.map (cc.sub ρ)) us.toList
 |[],_,cs,cs',init,hi,hp,hf=>by
  cases hp;cases hf;exact⟨init,rfl,hi⟩
 |(i,a)::ps,_,cs,cs',init,hi,hp,hf=>by
  cases hp with
  |@cons _ q _ qs h1 h2=>
   obtain⟨j,v⟩:=q;obtain⟨h3,h4⟩:=h1;simp only at h3 h4;subst h3;unfold sx at hf;unfold Instr.fill;cases hpl:place i with
   |none=>rw[hpl]at hf;cases hf
   |some os=>
    obtain⟨off,size⟩:=os;rw[hpl]at hf;simp only at hf ⊢;split at hf
    ·rename_i hc;simp only[zj,Nat.ble_eq]at hc;obtain⟨⟨hc1,hc2⟩,hc3⟩:=hc;have hc1:=y7 hc1;obtain⟨h5,h6⟩:=sO hs hc3 hd h4;have hvs:v.cells.size=size:=by rw[<-yl,h5.1,zA,hc1]
     have his:init.size=cs.length:=by rw[<-yl,hi.1,zA]
     rw[bL (by simp[hvs];omega)];refine vG hs hd (cs:=cs.take off++dz a++cs.drop (off+size)) ?_ h2 hf;have hvl:v.cells.toList.length=size:=by rw[yl,hvs]
     have e:(v.cells.zipIdx.foldl (λcs (x:Value×Nat)=>match x with|(c,j)=>cs.setIfInBounds (off+j) c) init).toList=init.toList.take off++v.cells.toList++init.toList.drop (off+size):=by
      have:=SC v.cells.toList 0 off init (by rw[hvl];omega);rw[hvl,yd]at this;rw[<-this,<-Array.foldl_toList,Array.toList_zipIdx]
     show bJ A w _ (v.cells.zipIdx.foldl _ init).toList;rw[e,z6,z6,xC,xd];exact((hi.take off).app h5).app (hi.drop (off+size))
    ·cases hf
def evp(ev:Operand->af AV):aa (Nat×Operand)->af (aa (Nat×AV))
 |[]=>I []
 |(i,x)::xs=>match ev x with
  |some a=>(evp ev xs).map λas0=>(i,a)::as0
  |none=>S
def Qm(hs:jt ev rd nx E R):∀{xs:aa (Nat×Operand)} {as0:aa (Nat×AV)},evp ev xs=I as0->∀p∈as0,cI nx p.2
 |[],as0,h=>by cases h;simp
 |(i,x)::xs,as0,h=>by
  unfold evp at h;split at h
  ·rename_i a ha;obtain⟨as',h1,rfl⟩:=zk.1 h;intro p hp;rcases zF.1 hp with rfl|hp
   ·exact hs.qd ha
   ·exact Qm hs h1 p hp
  ·cases h
def EX(hs:jt ev rd nx E R){ϱ:Operand->Value}(h:K9 A w (E.sub ρ) ϱ):∀{xs:aa (Nat×Operand)} {as0:aa (Nat×AV)},evp ev xs=I as0->
  F2 (λ(p:Nat×AV) (q:Nat×Value)=>p.1=q.1/\Rel A w (p.2.sub ρ) q.2) as0 (xs.map λp=>(p.1,ϱ p.2))
 |[],as0,he=>by cases he;exact .nil
 |(i,x)::xs,as0,he=>by
  unfold evp at he;split at he
  ·rename_i a ha;obtain⟨as',h1,rfl⟩:=zk.1 he;exact .cons ⟨rfl,h x _ (hs.eX ha ρ)⟩ (EX hs h h1)
  ·cases he
def I7(ev:Operand->af AV):aa Operand->af (aa AV)
 |[]=>I []
 |x::xs=>match ev x with
  |some a=>(I7 ev xs).map λas0=>a::as0
  |none=>S
def Ge(hs:jt ev rd nx E R):∀{xs:aa Operand} {as0:aa AV},I7 ev xs=I as0->∀d∈as0,cI nx d
 |[],as0,h=>by cases h;simp
 |x::xs,as0,h=>by
  unfold I7 at h;split at h
  ·rename_i a ha;obtain⟨as',h1,rfl⟩:=zk.1 h;intro p hp;rcases zF.1 hp with rfl|hp
   ·exact hs.qd ha
   ·exact Ge hs h1 p hp
  ·cases h
def FN(hs:jt ev rd nx E R)(ρ:Gh):∀{xs:aa Operand} {as0:aa AV},I7 ev xs=I as0->(E.sub ρ).I7 xs=I (as0.map (cc.sub ρ))
 |[],as0,he=>by cases he;rfl
 |x::xs,as0,he=>by
  unfold I7 at he;split at he
  ·rename_i a ha;obtain⟨as',h1,rfl⟩:=zk.1 he;unfold Env.I7;rw[hs.eX ha ρ,FN hs ρ h1];rfl
  ·cases he
def MO(P:Program)(ev:Operand->af AV)(rd:Nat->af IR)(T:TypeId)(ps:aa (Nat×Operand))(K:AV->af α):af α:=
 match evp ev ps,jh P T with
 |some as0,I zs=>match P.underlying T with
  |some (.struct _)=>match placesOf P T with
   |some places=>(sx rd (places[·]?) (zs.map .lit) as0).bind λcs=>K (.agg cs)
   |none=>S
  |some (.array _ e)=>match (P.info? e).map (·.size)with
   |some sz=>(sx rd (λi=>I (i*sz,sz)) (zs.map .lit) as0).bind λcs=>K (.agg cs)
   |none=>S
  |_=>S
 |_,_=>S
def CV(ρ:Gh)(zs:aa Value):(zs.map (cc.lit (dc:=U.dc))).map (cc.sub ρ)=zs.map .lit:=by
 rw[yh];exact zZ λv _=>bR ρ v
def afo{T:TypeId}{ps:Array (Nat×Operand)}(hs:jt ev rd nx E R)(ho:o.op= .build T ps){K:AV->af α}(h:MO P ev rd T ps.toList K=I r):∃d,K d=I r/\Pu P o E R nx d:=by
 unfold MO at h;split at h
 case h_2=>cases h
 rename_i as0 zs he hz;have main:∀(place:Nat->af (Nat×Nat)) (cs:aa AV),sx rd place (zs.map .lit) as0=I cs->(∀(vs:aa (Nat×Value)) (us:Array Value),Instr.fill place zs.toArray vs=I us->P.built T vs=I us)->Pu P o E R nx (.agg cs):=λplace cs hf hb=>by
  refine⟨.agg _ (DY (J6 nx zs) (Qm hs he) hf),λρ A w ϱ hd hρ=> ?_⟩;obtain⟨it,hit,hz1⟩:=zn.1 hz;obtain⟨zv,hz2,hz3⟩:=zk.1 hz1;have hzr:bJ A w ((zs.map cc.lit).map (cc.sub ρ)) zs:=by rw[CV];exact bJ.lits _
  obtain⟨us,h1,h2⟩:=vG (init:=zs.toArray) hs hd hzr (EX hs hρ he) hf;rw[eC];refine⟨.agg us,by simpa using Rel.nE h2,λw' _=> ?_⟩;have:=run_build (P:=P) w' T _ us (hb _ us h1);rw[<-J3]at this;simp[execOp,ho,this]
 split at h
 ·rename_i fs hT;split at h
  case h_2=>cases h
  rename_i places hp;obtain⟨cs,hf,h⟩:=zn.1 h;refine⟨_,h,main _ cs hf λvs us hu=> ?_⟩;obtain⟨it,hit,hz1⟩:=zn.1 hz;obtain⟨zv,hz2,hz3⟩:=zk.1 hz1;unfold Program.built;unfold placesOf at hp;rw[hit,hT]at*;simp only at hp;simp only[hz2,hp];have:zv.cells=zs.toArray:=by rw[<-hz3]
  rw[this];simpa using hu
 ·rename_i n e hT;split at h
  case h_2=>cases h
  rename_i sz hsz;obtain⟨cs,hf,h⟩:=zn.1 h;refine⟨_,h,main _ cs hf λvs us hu=> ?_⟩;obtain⟨it,hit,hz1⟩:=zn.1 hz;obtain⟨zv,hz2,hz3⟩:=zk.1 hz1;obtain⟨ie,hie,hse⟩:=zk.1 hsz;unfold Program.built;rw[hit,hT];simp only[hz2,hie,hse];have:zv.cells=zs.toArray:=by rw[<-hz3]
  rw[this];exact hu
 ·cases h
def L6(P:Program)(rd:Nat->af IR)(T T':TypeId)(x:af AV)(K:AV->af α):af α:=match P.underlying T,P.underlying T' with
 |some (.int _),I (.int k')=>match x with
  |some (.lit (.int k n))=>match P.underlying T with
   |some (.int k0)=>if k0=k then K (.n k' (k'.wrap n))else S
   |_=>S
  |_=>S
 |some (.slice e),I .string=>match P.underlying e with
  |some (.int .u8)=>match x with
   |some (.sl t l)=>(L.aa2 t l).bind λns=>K (.s (strOfNums ns))
   |some (.own id)=>match rd id with
    |some (.row t l)=>(L.aa2 t l).bind λns=>K (.s (strOfNums ns))
    |_=>S
   |_=>S
  |_=>S
 |_,_=>S
def aaQ{T T':TypeId}(hs:jt ev rd nx E R)(ho:o.op= .convert T T' x){K:AV->af α}(h:L6 P rd T T' (ev x) K=I r):∃d,K d=I r/\Pu P o E R nx d:=by
 unfold L6 at h;split at h
 ·rename_i k0 k' hT hT';split at h
  case h_2=>cases h
  rename_i k n hx;have ex:=λρ=>hs.eX hx ρ;simp only[bR]at ex;split at h
  case h_2=>cases h
  rename_i k1 hk1;split at h
  case isFalse=>cases h
  rename_i hk;subst hk;exact⟨_,h, .lit λρ=> .conv hk1 hT' ho (ex ρ)⟩
 ·rename_i e hT hT';split at h
  case h_2=>cases h
  rename_i he;split at h
  ·rename_i t l hx;obtain⟨ns,hn,h⟩:=zn.1 h;exact⟨_,h, .lit λρ=> .b2s ho (.inr (.inl (by have ex:=hs.eX hx ρ;rw[fP]at ex;exact ex))) (L.tB t l ns hn).1 (L.tB t l ns hn).2 hT he hT'⟩
  ·rename_i id hx;split at h
   case h_2=>cases h
   rename_i t l hr;obtain⟨ns,hn,h⟩:=zn.1 h;refine⟨_,h, .lit λρ=> ?_⟩;have ex:=hs.eX hx ρ;rw[dF]at ex;obtain⟨i,hi⟩:=hs.row hr ρ;exact .b2s ho (.inr (.inr ⟨i,_,ex,hi⟩)) (L.tB t l ns hn).1 (L.tB t l ns hn).2 hT he hT'
  ·cases h
 ·cases h
def MD(i:Nat)(x:af AV)(K:AV->af α):af α:=match x with
 |some (.iM cs)=>(cs[i]?).bind K
 |_=>S
def YJ{i:Nat}(hs:jt ev rd nx E R)(ho:o.op= .extract x i){K:AV->af α}(h:MD i (ev x) K=I r):∃d,K d=I r/\Pu P o E R nx d:=by
 unfold MD at h;split at h
 ·rename_i cs hx;obtain⟨d,hd,h⟩:=zn.1 h;exact⟨d,h,sg (hs.qd hx).Dz hd,λρ=>by have ex:=hs.eX hx ρ;rw[jI]at ex;exact .extract ho ex (by rw[ya,hd];rfl)⟩
 ·cases h
def LF(ev:Operand->af AV)(f:Go.Fn)(fs cs:aa Operand)(K:AV->af α):af α:=match fs with
 |[]=>(I7 ev cs).bind λas0=>K (.fn f as0)
 |_=>S
def aeg{f:Go.Fn}{fs cs:Array Operand}(hs:jt ev rd nx E R)(ho:o.op= .makeFunc f fs cs){K:AV->af α}(h:LF ev f fs.toList cs.toList K=I r):∃d,K d=I r/\Pu P o E R nx d:=by
 unfold LF at h;split at h
 ·rename_i h0;obtain⟨as0,ha,h⟩:=zn.1 h;refine⟨_,h, .fn _ _ (Ge hs ha),λρ=> ?_⟩;rw[qM];exact .func ho (by rw[<-Array.toList_eq_nil_iff];exact h0) (FN hs ρ ha)
 ·cases h
def cg(s:ByteArray)(i:Nat):Int:=((s.data[i]!).toNat:Int)
def Yp.anb{T:TypeId}{E:Env}{σ:aa cG}{s:ByteArray}{k:IntKind}{m:Int}(ho:o.op= .index T x y)(hx:E.ev x=I (.s s))(hy:E.ev y=I (.n k m))(hT:P.underlying T=I .string)(hm:0<=m/\m<(s.size:Int)):Yp P E σ o (.n .u8 (cg s m.toNat)):=λA w ρ _ hρ=>by
 refine⟨_, .lit _,λw' _=> ?_⟩;have hx':=(hρ _ _ hx).cH;have hy':=(hρ _ _ hy).cH;have h:=run_index_string (P:=P) w' T s k m hT;rw[dif_pos hm]at h;have e:cg s m.toNat=((s[m.toNat]'(by omega)).toNat:Int):=by
  unfold cg;have hlt:m.toNat<s.data.size:=by have:s.data.size=s.size:=rfl;omega
  rw[getElem!_pos s.data m.toNat hlt];rfl
 rw[<-e]at h;simp[execOp,ho,hx',hy',h]
def LI(P:Program)(T:TypeId)(x y:af AV)(K:AV->af α):af α:=match P.underlying T with
 |some (.array n e)=>match SZ P e&&JY P e 1 with
  |true=>match x,y with
   |some (.agg cs),I (.lit (.int _ m))=>if 0<=m/\m<(n:Int)then(cs[m.toNat]?).bind K else S
   |_,_=>S
  |false=>S
 |some .string=>match x,y with
  |some (.lit (.string s)),I (.lit (.int _ m))=>if 0<=m/\m<(s.size:Int)then K (.n .u8 (cg s m.toNat))else S
  |_,_=>S
 |_=>S
def aaB{T:TypeId}(hs:jt ev rd nx E R)(ho:o.op= .index T x y){K:AV->af α}(h:LI P T (ev x) (ev y) K=I r):∃d,K d=I r/\Pu P o E R nx d:=by
 unfold LI at h;split at h
 case h_3=>cases h
 case h_2=>
  rename_i hT;split at h
  case h_2=>cases h
  rename_i s k m hx hy;split at h
  case isFalse=>cases h
  rename_i hm;have ex:=λρ=>hs.eX hx ρ;have ey:=λρ=>hs.eX hy ρ;simp only[bR]at ex ey;exact⟨_,h, .lit λρ=> .anb ho (ex ρ) (ey ρ) hT hm⟩
 rename_i n e hT;split at h
 case h_2=>cases h
 rename_i he;simp only[zj]at he;split at h
 case h_2=>cases h
 rename_i cs k m hx hy;split at h
 case isFalse=>cases h
 rename_i hm;obtain⟨d,hd,h⟩:=zn.1 h;refine⟨d,h,sg (hs.qd hx).nE hd,λρ=> ?_⟩;have ex:=hs.eX hx ρ;have ey:=hs.eX hy ρ;rw[eC]at ex;rw[bR]at ey;exact .akL ho ex ey hT (Ah he.1) (p8 he.2) hm (by rw[ya,hd];rfl)
def Lm(P:Program)(T:TypeId)(x:af AV)(lo hi:af (af AV))(K:AV->af α):af α:=match P.underlying T with
 |some (.slice e)=>match x with
  |some (.sl t l)=>match JY P e (U.sz t)with
   |true=>match lo,hi with
    |some (I (.lit (.int _ a))),I (I (.lit (.int _ b)))=>if 0<=a/\a<=b/\b<=(l.length:Int)then K (.sl t ((l.take b.toNat).drop a.toNat))else S
    |none,I (I (.lit (.int _ b)))=>if 0<=b/\b<=(l.length:Int)then K (.sl t (l.take b.toNat))else S
    |some (I (.lit (.int _ a))),S=>if 0<=a/\a<=(l.length:Int)then K (.sl t (l.drop a.toNat))else S
    |_,_=>S
   |false=>S
  |some (.lit (.slice S 0 0))=>match P.info? e with
   |some _=>match lo,hi with
    |some (I (.lit (.int _ 0))),S=>K (.lit (.slice S 0 0))
    |_,_=>S
   |none=>S
  |_=>S
 |_=>S
def Yp.UH{P:Program}{E:Env}{σ:aa cG}{o:Oper}{T e:TypeId}{x y:Operand}{k:IntKind}{j:TypeInfo}(ho:o.op= .slice T x (I y) S S)(hx:E.ev x=I (.lit (.slice S 0 0)))(hy:E.ev y=I (.lit (.int k 0)))(hT:P.underlying T=I (.slice e))(hj:P.info? e=I j):Yp P E σ o (.lit (.slice S 0 0)):=Yp.lits λρ hρ w=>by
 simp[execOp,ho,hρ _ _ hx,hρ _ _ hy,Instr.sliceAt,Instr.slice,Instr.sliceBounds,Instr.sliceBound,run_underlying hT,sizeOf,typeInfo,hj,asIntOf]
def aab{T:TypeId}{lo hi:af Operand}(hs:jt ev rd nx E R)(ho:o.op= .slice T x lo hi S){K:AV->af α}(h:Lm P T (ev x) (lo.map ev) (hi.map ev) K=I r):∃d,K d=I r/\Pu P o E R nx d:=by
 unfold Lm at h;split at h
 case h_2=>cases h
 rename_i e hT;split at h
 case h_3=>cases h
 case h_2=>
  rename_i hx;split at h
  case h_2=>cases h
  rename_i j hj;split at h
  case h_2=>cases h
  rename_i k hlo hhi;cases lo with
  |none=>cases hlo
  |some lo=>
   cases hi with
   |some hi=>cases hhi
   |none=>
    have ex:=λρ=>hs.eX hx ρ;have e1:=λρ=>hs.eX (zD.inj hlo) ρ;simp only[bR]at ex e1;exact⟨_,h, .lit _,λρ=>by rw[bR];exact .UH ho (ex ρ) (e1 ρ) hT hj⟩
 rename_i t l hx;split at h
 case h_2=>cases h
 rename_i hsz;have hsz:=p8 hsz;have ex:=λρ=>hs.eX hx ρ;simp only[fP]at ex;split at h
 ·rename_i k a k' b hlo hhi;split at h
  case isFalse=>cases h
  rename_i hc;cases lo with
  |none=>cases hlo
  |some lo=>
   cases hi with
   |none=>cases hhi
   |some hi=>
    have e1:=λρ=>hs.eX (zD.inj hlo) ρ;have e2:=λρ=>hs.eX (zD.inj hhi) ρ;simp only[bR]at e1 e2;exact⟨_,h, .sl _ _,λρ=>by rw[fP];exact .ajy ho (ex ρ) (e1 ρ) (e2 ρ) hT hsz hc⟩
 ·rename_i k' b hlo hhi;split at h
  case isFalse=>cases h
  rename_i hc;cases lo with
  |some lo=>cases hlo
  |none=>
   cases hi with
   |none=>cases hhi
   |some hi=>
    have e2:=λρ=>hs.eX (zD.inj hhi) ρ;simp only[bR]at e2;exact⟨_,h, .sl _ _,λρ=>by rw[fP];exact .adG ho (ex ρ) (e2 ρ) hT hsz hc⟩
 ·rename_i k a hlo hhi;split at h
  case isFalse=>cases h
  rename_i hc;cases lo with
  |none=>cases hlo
  |some lo=>
   cases hi with
   |some hi=>cases hhi
   |none=>
    have e1:=λρ=>hs.eX (zD.inj hlo) ρ;simp only[bR]at e1;exact⟨_,h, .sl _ _,λρ=>by rw[fP];exact .Y6 ho (ex ρ) (e1 ρ) hT hsz hc⟩
 ·cases h
def Lt(P:Program)(rd:Nat->af IR)(T:TypeId)(x:af AV)(K:AV->af α):af α:=match P.underlying T with
 |some (.slice _)=>match x with
  |some (.sl _ l)=>K (.i (l.length:Int))
  |some (.own id)=>match rd id with
   |some (.row _ l)=>K (.i (l.length:Int))
   |_=>S
  |some (.lit (.slice S 0 0))=>K (.i 0)
  |_=>S
 |some .string=>match x with
  |some (.lit (.string s))=>K (.i (s.size:Int))
  |_=>S
 |_=>S
def aag{T:TypeId}(hs:jt ev rd nx E R)(ho:o.op= .call {callee:= .builtin .len,args:=#[x],argTypes:=#[T]}){K:AV->af α}(h:Lt P rd T (ev x) K=I r):∃d,K d=I r/\Pu P o E R nx d:=by
 unfold Lt at h;split at h
 ·rename_i e hT;split at h
  ·rename_i t l hx;exact⟨_,h, .lit λρ=> .atv ho (by have ex:=hs.eX hx ρ;rw[fP]at ex;exact ex) hT⟩
  ·rename_i id hx;split at h
   case h_2=>cases h
   rename_i t l hr;refine⟨_,h, .lit λρ=> ?_⟩;have ex:=hs.eX hx ρ;rw[dF]at ex;obtain⟨i,hi⟩:=hs.row hr ρ;exact .akA i ho ex hi hT
  ·rename_i hx;exact⟨_,h, .lit λρ=> .amg ho (by have ex:=hs.eX hx ρ;rw[bR]at ex;exact ex) hT⟩
  ·cases h
 ·rename_i hT;split at h
  ·rename_i s hx;exact⟨_,h, .lit λρ=> .ajp ho (by have ex:=hs.eX hx ρ;rw[bR]at ex;exact ex) hT⟩
  ·cases h
 ·cases h
end
end Go.Iv
end
noncomputable section
namespace Go.Iv
variable [U:qz]
open Go Go.RowKit
def Cu{zs:aa Value}{sz:Nat}(hsz:zs.length=sz)(nn:Nat):(Builtin.zeroCells zs.toArray nn).toList=(zo nn zs).flatten:=by
 apply List.ext_getElem?;intro j;have hfl:(zo nn zs).flatten.length=nn*sz:=by simp[hsz]
 have hq:∀(q:Nat) (j:Nat),j<q*sz->(zo q zs).flatten[j]? =zs[j%sz]? :=by
  intro q;induction q with
  |zero=>intro j hj;simp at hj
  |succ q ih=>
   intro j hj;rw[yJ,wh,y8];split
   ·rename_i h;rw[hsz]at h;rw[Nat.mod_eq_of_lt h]
   ·rename_i h;rw[hsz]at h;rw[hsz,ih _ (by rw[yI]at hj;omega),Nat.mod_eq_sub_mod (by omega:sz<=j)]
 by_cases hj:j<nn*sz
 ·rw[hq nn j hj];have h0:0<sz:=by
   rcases Nat.eq_zero_or_pos sz with h|h
   ·rw[h]at hj;omega
   ·exact h
  have hlt:j%sz<zs.length:=by rw[hsz];exact xb _ h0
  rw[zq hlt];simp[Builtin.zeroCells,hsz,hj,zq hlt]
 ·rw[we (l:=(zo nn zs).flatten) (by rw[hfl];omega),we];simp[Builtin.zeroCells,hsz];omega
def wZ{P:Program}{w:World}{T tn ty e:TypeId}{kn:IntKind}{i:TypeInfo}{zz v:Value}{sz by' nn mm:Nat}{us:aa Value}(ht:P.underlying T=I (.slice e))(htn:P.underlying tn=I (.int kn))(hi:P.info? e=I i)(hz:i.zero=I zz)(hs:i.size=sz)(hby:i.bytes=by')(hzs:zz.cells.size=sz)(hpos:0<sz)
  (hrow:gE w v e sz nn us) (h1:∀u∈(Builtin.zeroCells zz.cells mm).toList,u.oneCell'=J) (h63:nn+mm<=maxLen) (hb:(nn+mm)*by'<=140737488355328):
  ∃v' w',(Builtin.append_ #[T,tn] ty #[v, .int .i64 mm]).run P w= .ok v' w'/\gE w' v' e sz (nn+mm) (us++(Builtin.zeroCells zz.cells mm).toList)/\Kp (gh v).toList w w'/\(gh v'=gh v\/gh v'=I w.heap.size):=by
 subst hs hby
 have h63':((nn+mm:Nat):Int)<=9223372036854775807:=by unfold maxLen at h63;omega
 have hw:IntKind.i64.wrap (mm:Int)=mm:=by rw[IntKind.wrap_i64];omega
 have hneg:¬((mm:Int)<0):=by omega
 have hmb:mm*i.bytes<=140737488355328:=zH (yB _ (by omega)) hb;have h48i:¬(281474976710656<(mm:Int)*(i.bytes:Int)):=by rw[<-xq];omega
 have hzl:(Builtin.zeroCells zz.cells mm).toList.length=mm*i.size:=by rw[yl,size_zeroCells,hzs]
 by_cases hm:mm=0
 ·subst hm;obtain⟨q,cap,rfl,hcap⟩:=hrow.len;have hrun:(Builtin.append_ #[T,tn] ty #[.slice q nn cap, .int .i64 (0:Nat)]).run P w= .ok (.slice q nn cap) w:=by
   cases q<;>simp[Builtin.append_,run_underlying ht,run_underlying htn,sizeOf,typeInfo,hi,asInt,asIntOf,hw,hcap,storeCells,IntKind.wrap_i64]
  exact⟨_,w,hrun,by simpa [Builtin.zeroCells]using hrow,Kp.refl _ _, .inl rfl⟩
 ·have hfit:∀old,Builtin.nextslicecap (nn+mm) old*i.bytes<=281474976710656\/¬old<nn+mm:=λold=>by
   by_cases h:old<nn+mm
   ·exact .inl (growslice_fits (by omega) hb)
   ·exact .inr h
  have grown:∀(olds:aa Value) (old:Nat),olds.length=nn*i.size->old<nn+mm->us=olds->
    gE (w.drew.alloc (.cells (olds.toArray++Builtin.zeroCells zz.cells mm++Builtin.zeroCells zz.cells (grownCap w (nn+mm) old e-(nn+mm))) e)) (.slice (I ⟨w.heap.size,0,S⟩) (nn+mm) (grownCap w (nn+mm) old e)) e i.size (nn+mm) (us++(Builtin.zeroCells zz.cells mm).toList):=by
   intro olds old hol hlt hus;subst hus;have hge:=grownCap_ge w (nn+mm) old e;have hcm:=grownCap_le_maxLen w (nn+mm) old e h63;obtain⟨ck,hck⟩:∃ck,grownCap w (nn+mm) old e=ck+1:=⟨grownCap w (nn+mm) old e-1,by omega⟩;refine⟨by rw[zl,hol,hzl,yf], .inr ⟨w.heap.size,ck,_,by rw[hck],heap_alloc_new w.drew _,by omega,by omega,?_,?_⟩⟩
   ·rw[<-hck];simp only[Array.size_append,y9,size_zeroCells,hzs,hol,<-yf]
    congr 1
    omega
   ·simp only[Array.toList_append];rw[show (nn+mm)*i.size=(us++(Builtin.zeroCells zz.cells mm).toList).length from by rw[zl,hol,hzl,yf]];exact List.take_left
  have grow:∀(base:af Addr) (old:Nat),(Builtin.firstCells i.size nn (.slice base nn old)).run P w.drew= .ok us.toArray w.drew->us.length=nn*i.size->old<nn+mm->
    ∃v' w',(Builtin.append_ #[T,tn] ty #[.slice base nn old, .int .i64 mm]).run P w= .ok v' w'/\gE w' v' e i.size (nn+mm) (us++(Builtin.zeroCells zz.cells mm).toList)/\Kp [] w w'/\gh v'=I w.heap.size:=λbase old hf hul hlt=>by
   have hr:=Lib.run_append_grow_zeros (P:=P) w T tn ty e i zz .i64 kn ht htn hi hz base nn old us hf mm (by omega) hpos hlt h63' (by omega) ((hfit old).resolve_right (by omega));refine⟨_,_,hr,grown us old hul hlt rfl,⟨rfl,rfl,rfl,by simp,λk hk _=>heap_alloc_old w.drew _ hk⟩,?_⟩;have hge:=grownCap_ge w (nn+mm) old e;obtain⟨ck,hck⟩:∃ck,grownCap w (nn+mm) old e=ck+1:=⟨grownCap w (nn+mm) old e-1,by omega⟩;rw[hck];rfl
  rcases hrow.2 with ⟨q,rfl,rfl⟩|⟨g,cap,cur,rfl,hg,hnc,hcm,hcs,htake⟩
  ·have hu:us=[]:=yX (by simpa using hrow.1);subst hu;obtain⟨v',w',r1,r2,r3,r4⟩:=grow q 0 (by cases q<;>simp[Builtin.firstCells,loadCells,loadCellsFrom]) (by simp) (by omega);exact⟨v',w',r1,r2,⟨r3.os,r3.tape,r3.output,r3.size,λk hk _=>r3.block k hk (by simp)⟩, .inr r4⟩
  ·by_cases hroom:nn+mm<=cap+1
   ·have hcl:nn*i.size+(Builtin.zeroCells zz.cells mm).toList.length<=cur.size:=by rw[hzl,hcs,<-yf];exact yB _ hroom
    have hst:=run_storeCells_at P g (nn*i.size) e (Builtin.zeroCells zz.cells mm).toList 0 cur w hg (by simpa using hcl) h1;simp only[yd]at hst;have hns:¬(mm*i.size=0):=Nat.mul_ne_zero hm (by omega);have hr:(Builtin.append_ #[T,tn] ty #[.slice (I ⟨g,0,S⟩) nn (cap+1), .int .i64 mm]).run P w= .ok (.slice (I ⟨g,0,S⟩) (nn+mm) (cap+1)) (w.setRow g (cur.toList.take (nn*i.size)++(Builtin.zeroCells zz.cells mm).toList++cur.toList.drop (nn*i.size+(Builtin.zeroCells zz.cells mm).toList.length)).toArray):=by
     simp[Builtin.append_,run_underlying ht,run_underlying htn,sizeOf,typeInfo,zeroValue,hi,hz,asInt,asIntOf,hw,hneg,hns,h48i,hroom,Addr.add_lit,hst]
    refine⟨_,_,hr,⟨by rw[zl,hrow.1,hzl,yf], .inr ⟨g,cap,_,rfl,setRow_heap w g cur _ e _ hg,hroom,hcm,?_,?_⟩⟩,l6 w g _, .inl rfl⟩
    ·simp only[y9,zl,zR,yj,yl]at hcl ⊢;omega
    ·rw[htake,show (nn+mm)*i.size=(us++(Builtin.zeroCells zz.cells mm).toList).length from by rw[zl,hrow.1,hzl,yf]];exact List.take_left
   ·have holds:∀j v,us[j]? =I v->w.cell? ((⟨g,0,S⟩:Addr).add j)=I v:=λj v hj=>by
     rw[o5,yw];exact hrow.cells rfl j v hj
    obtain⟨v',w',r1,r2,r3,r4⟩:=grow (I ⟨g,0,S⟩) (cap+1) (run_firstCells_some (P:=P) w.drew i.size nn ⟨g,0,S⟩ nn (cap+1) us hrow.1 (by simpa using holds)) hrow.1 (by omega);exact⟨v',w',r1,r2,⟨r3.os,r3.tape,r3.output,r3.size,λk hk _=>r3.block k hk (by simp)⟩, .inr r4⟩
def A9{A:Nat->Prop}{w:World}{q:Nat}{d:U.dc q}{zs:aa Value}(hd:∀A w,bJ A w (U.cells q d) zs):∀n,bJ A w ((zo n d).flatMap (U.cells q)) (zo n zs).flatten
 |0=>bJ.nil
 |n+1=>by
  rw[yJ,yJ,xA,wh];exact(hd A w).app (A9 hd n)
section
variable {P:Program} {C:Cx} {E:Env} {σ:aa cG} {o:Oper} {x y:Operand} {T tn e:TypeId} {v:Value}
def Yv.ayy{by':Nat}{kn:IntKind}{l:aa (U.dc e)}{zs:aa Value}{m:Int}(i:Nat)(d:U.dc e)(ho:o.op= .call {callee:= .builtin .append,args:=#[x,y],argTypes:=#[T,tn]})(hx:E.ev x=I (.lit v))(hσ:σ[i]? =I (.row v e l))(hy:E.ev y=I (.i m))(hT:P.underlying T=I (.slice e))(htn:P.underlying tn=I (.int kn))(hs:(P.info? e).map (λi=>(i.size,i.bytes))=I ((U.sz e),by'))(hz:jh P e=I zs)(hzl:zs.length=(U.sz e))(hpos:0<(U.sz e))(hb:ye by' 4096=J)
  (hd:∀A w,bJ A w (U.cells e d) zs) (hone:zs.all Value.oneCell'=J) (hlen:0<=m/\(l++zo m.toNat d).length<=1073741824):Yv P E σ o C (xz (gh v)) (λa σ'=>∃v',a= .lit v'/\σ'=σ.set i (.row v' e (l++zo m.toNat d))):=λw ρ hg hρ=>by
 obtain⟨it,hit,hz1⟩:=zn.1 hz;obtain⟨zv,hz2,hz3⟩:=zk.1 hz1;obtain⟨ie,hie,hse⟩:=zk.1 hs;have hee:it=ie:=by rw[hit]at hie;exact zD.inj hie
 subst hee;simp only[Prod.mk.injEq]at hse;obtain⟨s1,s2⟩:=hse;have hby:by'<=4096:=by simpa using hb
 obtain⟨us,g1,g2,g3⟩:=AW (hg.res _ (List.mem_of_getElem? hσ));have hx':=(hρ _ _ hx).cH;have hy':=(hρ _ _ hy).cH;obtain⟨mm,rfl⟩:∃mm:Nat,m=mm:=⟨m.toNat,by omega⟩;rw[zf]at hlen ⊢;obtain⟨_,hlen⟩:=hlen;rw[zl,xS]at hlen;have hbytes:(l.length+mm)*by'<=140737488355328:=by
  have:(l.length+mm)*by'<=1073741824*4096:=Nat.mul_le_mul hlen hby
  omega
 have hzc:zv.cells=zs.toArray:=by rw[<-hz3]
 have hzt:(Builtin.zeroCells zv.cells mm).toList=(zo mm zs).flatten:=by rw[hzc];exact Cu hzl mm
 obtain⟨v',w',r1,r2,r3,r4⟩:=wZ (P:=P) (T:=T) (tn:=tn) (ty:=o.type) hT htn hit hz2 s1 s2 (by rw[hzc,y9,hzl]) hpos g1 (mm:=mm) (by
  rw[hzt];intro u hu;obtain⟨q,hq,hu⟩:=List.mem_flatten.1 hu;rw[List.eq_of_mem_replicate hq]at hu;exact zu.1 hone u hu) (by unfold maxLen;omega) hbytes
 rw[hzt]at r2;refine⟨v',w',_,_,⟨v',rfl,rfl⟩,Dk (r:= .row v e l) hg hσ r3 r4 (Ct (by rw[zl,xS];exact r2) (Je g2 (λj hj=> ?_)) ?_),?_, .lit _⟩
 ·rw[xS]at hj;rw[getElem!_pos _ j (by simpa using hj),List.getElem_replicate,<-(hd (λ_=>True) w).1,hzl]
 ·rw[List.flatMap_append];refine bJ.app (g3.mono λb hb hA=>⟨⟨hA.1,λhx=> ?_⟩,r3.block b hb (λhx=>hA.2 (bS.2 ⟨_,List.mem_of_getElem? hσ,by simpa [cG.blk]using hx⟩))⟩) (A9 hd mm);obtain⟨s,hs1,hs2⟩:=bS.1 hx;rcases List.mem_or_eq_of_mem_set hs1 with h|h
  ·exact hA.2 (bS.2 ⟨s,h,hs2⟩)
  ·rw[h]at hs2;rcases r4 with r4|r4
   ·exact hA.2 (bS.2 ⟨_,List.mem_of_getElem? hσ,by rw[<-hs2];exact r4.symm⟩)
   ·have hs2':gh v'=I b:=hs2;rw[r4]at hs2';cases hs2';omega
 ·simp[execOp,ho,resolve,invoke,builtin,hx',hy',r1]
end
end Go.Iv
end
noncomputable section
namespace Go.Iv
open Go Go.RowKit
variable [U:qz] {P:Program} {C:Cx} {E:Env} {σ:aa cG} {o:Oper} {T T':TypeId} {x y:Operand} {v:Value}
def Yv.aua{q:Nat}{l l2:aa (U.dc q)}(i:Nat)(ho:o.op= .call {callee:= .builtin .copy,args:=#[x,y],argTypes:=#[T,T']})(hx:E.ev x=I (.lit v))(hσ:σ[i]? =I (.row v q l))(hs:Src σ E y q l2)
  (hT:P.underlying T=I (.slice q)) (hz:(P.info? q).map (·.size)=I 1) (hsz:U.sz q=1) (hlen:l2.length=l.length) (h0:0<l.length) (hone:∀a,(U.cells q a).all gG=J):
  Yv P E σ o C (xz (gh v)) (λa σ'=>a= .i (l.length:Int)/\σ'=σ.set i (.row v q l2)):=λw ρ hg hρ=>by
 obtain⟨j,hj,hj'⟩:=zk.1 hz;obtain⟨us,h1,h2,h3⟩:=hg.res _ (List.mem_of_getElem? hσ);obtain⟨g,cap,cur,hv,hgb,hB,q1,q2,q3,q4⟩:=h1.at h0;obtain⟨p,cap2,news,r1,r2,r3,r4,r5,r6⟩:=Src.spec hs hg.hd hρ;have hx':=(hρ _ _ hx).cH;rcases r2 with r2|⟨a,rfl,r2⟩
 ·omega
 rw[hsz,xe]at r3 q3;have hone':(l2.flatMap (U.cells q)).all gG=J:=zu.2 λc hc=>by
  obtain⟨z,_,hz⟩:=xT.1 hc;exact zu.1 (hone z) c hz
 have hl:=run_loadCells_list (P:=P) w a news r2;have hst:=run_storeCells_at P g 0 q news 0 cur w hB (by rw[r3,q3];omega) (r5.one hone');simp only[yd,yw,xD,yg]at hst;have hpart:∀b,al C (σ.set i (.row v q l2)) b↔al C σ b:=λb=>by
  have hbk:=Bj (r':=cG.row v q l2) hσ rfl;unfold al;rw[hbk]
 have hal:∀b,b<w.heap.size->al C σ b->al C (σ.set i (.row v q l2)) b/\(w.setRow g (news++cur.toList.drop news.length).toArray).heap[b]? =w.heap[b]? :=λb hb hA=>
  ⟨(hpart b).2 hA,setRow_other w g b _ (λe=>hA.2 (bS.2 ⟨_,List.mem_of_getElem? hσ,by rw[e];exact hgb⟩))⟩
 refine⟨.int .i64 l.length,w.setRow g (news++cur.toList.drop news.length).toArray,_,_,⟨rfl,rfl⟩,Dk (r:= .row v q l) hg hσ (by show Kp (xz (gh v)) _ _;rw[hgb];exact l6 w g _) (.inl rfl) (Ct (us:=news) ⟨by rw[hsz,xe,r3], .inr ⟨g,cap,_,by rw[hlen];exact hv,setRow_heap w g cur _ q (0,0) hB,by rw[hlen];exact q1,q2,?_,?_⟩⟩ r4 (r5.mono hal)),?_, .lit _⟩
 ·have hc:cur.toList.length=cap+1:=by rw[yl];exact q3
  simp only[y9,zl,yj,hc,hsz,xe,r3,hlen];omega
 ·rw[hsz,xe,<-r3];simp
 ·have hmin:min l2.length l.length=news.length:=by rw[r3];omega
  have hmin':Nat.min l2.length l.length=news.length:=hmin;have hnl:news.length=l.length:=by rw[r3,hlen]
  rw[<-hnl];simp[execOp,ho,resolve,invoke,builtin,hx',hv,r1,Builtin.copy_,run_underlying hT,Builtin.lenOf,Builtin.firstCells,sizeOf,typeInfo,hj,hj',hmin',hl,hst,goInt]
end Go.Iv
end
noncomputable section
namespace Go.Iv
variable [U:qz] [L:mO]
open Go Go.RowKit
inductive fB:Type
 |val (d:AV)
 |new (d:AV) (r:IR)
 |set (id:Nat) (r:IR)
 |grow (id:Nat) (r:IR)
 |all (d:AV) (R:aX) (nx:Nat)
def fB.R(R:aX)(nx:Nat):fB->aX
 | .val _=>R
 | .new _ r=>(nx,r)::R
 | .set id r=>rJ id r R
 | .grow id r=>(nx,r)::jP id R
 | .all _ R' _=>R'
def fB.nx(nx:Nat):fB->Nat
 | .val _=>nx
 | .new _ _=>nx+1
 | .set _ _=>nx
 | .grow _ _=>nx+1
 | .all _ _ m=>m
def fB.vl(nx:Nat):fB->af AV
 | .val d=>I d
 | .new d _=>I d
 | .set _ _=>S
 | .grow _ _=>I (.own nx)
 | .all d _ _=>I d
section
variable {P:Program} {C:Cx} {E:Env} {σ σ':aa cG} {o:Oper} {N:af AV->aa cG->Prop} {X:aa Nat} {N0:AV->aa cG->Prop} {av:AV}
def Ye(P:Program)(E:Env)(σ:aa cG)(o:Oper)(C:Cx)(N:af AV->aa cG->Prop):Prop:=∀(w:World) (ϱ:Operand->Value),Good C σ w->K9 (al C σ) w E ϱ->
 (∃v w' av σ',N (I av) σ'/\Tr C (bF σ) σ w σ' w'/\(execOp ϱ o).run P w= .ok (.value v) w'/\Rel (al C σ') w' av v)\/
 (∃w' σ',N S σ'/\Tr C (bF σ) σ w σ' w'/\(execOp ϱ o).run P w= .ok .skip w')\/
 (∃f args,(execOp ϱ o).run P w= .ok (.enter f args) w/\Calls P f args w λe w'=>∃v av σ',e= .returned v/\N (I av) σ'/\Tr C (bF σ) σ w σ' w'/\Rel (al C σ') w' av v)
def Tr.wide{w w':World}(h:Tr C X σ w σ' w')(hX:∀b∈X,b∈bF σ):Tr C (bF σ) σ w σ' w':=
 ⟨h.good,⟨h.kp.os,h.kp.tape,h.kp.output,h.kp.size,λk hk hn=>h.kp.block k hk λhx=>hn (hX k hx)⟩,λb hb hA=>⟨(h.al b hb hA).1,hA.2⟩⟩
def Tr.none{w:World}(h:Good C σ w):Tr C (bF σ) σ w σ w:=⟨h,Kp.refl _ _,λ_ _ hA=>⟨hA,hA.2⟩⟩
def Ye.ofP(h:Yp P E σ o av)(hN:N (I av) σ):Ye P E σ o C N:=λw ϱ hg hρ=>by
 obtain⟨v,h1,h2⟩:=h _ w ϱ hg.hd hρ;exact .inl ⟨v,w,av,σ,hN, .none hg,h2 w (λ_ _ _=>rfl),h1⟩
def Ye.ofV(h:Yv P E σ o C X N0)(hX:∀b∈X,b∈bF σ)(hN:∀a σ',N0 a σ'->N (I a) σ'):Ye P E σ o C N:=λw ϱ hg hρ=>by
 obtain⟨v,w',av,σ',h1,h2,h3,h4⟩:=h w ϱ hg hρ;exact .inl ⟨v,w',av,σ',hN _ _ h1,h2.wide hX,h3,h4⟩
def Ye.ofU(h:Yu P E σ o C X σ')(hX:∀b∈X,b∈bF σ)(hN:N S σ'):Ye P E σ o C N:=λw ϱ hg hρ=>by
 obtain⟨w',h2,h3⟩:=h w ϱ hg hρ;exact .inr (.inl ⟨w',σ',hN,h2.wide hX,h3⟩)
def Ye.ofC(h:Yc P E σ o C X N0)(hX:∀b∈X,b∈bF σ)(hN:∀a σ',N0 a σ'->N (I a) σ'):Ye P E σ o C N:=λw ϱ hg hρ=>by
 obtain⟨f,args,h1,h2⟩:=h w ϱ hg hρ;exact .inr (.inr ⟨f,args,h1,h2.mono λe w' ⟨v,av,σ',q1,q2,q3,q4⟩=>⟨v,av,σ',q1,hN _ _ q2,q3.wide hX,q4⟩⟩)
end
def Nx{α:Type}(R:aX)(nx:Nat)(K:fB->af α)(r:α)(ρ:Gh):af AV->aa cG->Prop:=λa σ'=>∃eff:fB,K eff=I r/\nx<=eff.nx nx/\aX.cI (eff.nx nx) (eff.R R nx)/\(∀d,eff.vl nx=I d->cI (eff.nx nx) d)/\
 ∃ρ',pT nx ρ ρ'/\a=(eff.vl nx).map (cc.sub ρ')/\List.Perm σ' (aX.res ρ' (eff.R R nx))
def Sv{α:Type}(P:Program)(o:Oper)(E:Env)(R:aX)(nx:Nat)(K:fB->af α)(r:α):Prop:=∀ρ C,Ye P (E.sub ρ) (aX.res ρ R) o C (Nx R nx K r ρ)
def Gh.fH(ρ:Gh)(n:Nat)(v:Value):Gh:=⟨λi=>if i=n then v else ρ.v i,ρ.b⟩
def Gh.fy(ρ:Gh)(n b:Nat):Gh:=⟨ρ.v,λi=>if i=n then b else ρ.b i⟩
def pT.fH(ρ:Gh)(n:Nat)(v:Value):pT n ρ (ρ.fH n v):=λi hi=>⟨by simp[Gh.fH,Nat.ne_of_lt hi],rfl⟩
def pT.fy(ρ:Gh)(n b:Nat):pT n ρ (ρ.fy n b):=λi hi=>⟨rfl,by simp[Gh.fy,Nat.ne_of_lt hi]⟩
section
variable {α:Type} {r:α} {P:Program} {o:Oper} {E:Env} {R:aX} {nx:Nat} {ev:Operand->af AV} {rd:Nat->af IR} {x y z:Operand} {d:AV} {K:fB->af α}
def Sv.pu(hs:jt ev rd nx E R)(h:∃d,K (.val d)=I r/\Pu P o E R nx d):Sv P o E R nx K r:=λρ C=>by
 obtain⟨d,h1,h2,h3⟩:=h;exact .ofP (h3 ρ) ⟨.val d,h1,zG _,hs.lr,λd' hd=>by cases hd;exact h2,ρ, .refl _ _,rfl, .refl _⟩
def XH(hs:jt ev rd nx E R){d:AV}{rr:IR}{ρ ρ':Gh}{σ':aa cG}{a:AV}(hK:K (.new d rr)=I r)(hd:cI (nx+1) d)(hr:rr.cI (nx+1))(hρ:pT nx ρ ρ')(ha:a=d.sub ρ')(hσ:σ'=rr.res ρ' nx::aX.res ρ R):Nx R nx K r ρ (I a) σ':=by
 refine⟨.new d rr,hK,yx nx,λp hp=> ?_,λd' h=>by cases h;exact hd,ρ',hρ,by rw[ha];rfl,?_⟩
 ·rcases zF.1 hp with rfl|hp
  ·exact⟨zB _,hr⟩
  ·exact(hs.lr.mono (yx nx)) p hp
 ·rw[hσ,hs.lr.res hρ];exact .refl _
def SE(P:Program)(nx:Nat)(T:TypeId)(K:fB->af α):af α:=((P.info? T).bind λi=>i.zero).bind λz=>K (.new (.ptr nx 0) (.box T (z.cells.toList.map .lit)))
def afC{T:TypeId}(hs:jt ev rd nx E R)(ho:o.op= .alloc T)(h:SE P nx T K=I r):Sv P o E R nx K r:=λρ C=>by
 obtain⟨z,h1,h⟩:=zn.1 h;obtain⟨i,h2,h3⟩:=zn.1 h1;refine .ofV (.alloc (zs:=z.cells.toList) ho (by rw[h2];simp[h3])) (by simp) λa σ' ⟨b,ha,hσ⟩=> ?_;refine XH hs (ρ':=ρ.fy nx b) h (.ptr _ _ (zB _)) (λc hc=>J6 _ _ c hc) (.fy ρ nx b) ?_ ?_
 ·rw[ha,eT];simp[Gh.fy]
 ·rw[hσ];simp only[IR.res,CV];simp[Gh.fy]
def NM(rd:Nat->af IR)(nx:Nat)(T:TypeId)(x:af AV)(K:fB->af α):af α:=match x with
 |some d=>match B9 rd d with
  |true=>K (.new (.ptr nx 0) (.box T (dz d)))
  |false=>S
 |none=>S
def Z5{T:TypeId}(hs:jt ev rd nx E R)(ho:o.op= .box T x)(h:NM rd nx T (ev x) K=I r):Sv P o E R nx K r:=λρ C=>by
 unfold NM at h;split at h
 case h_2=>cases h
 rename_i d hx;split at h
 case h_2=>cases h
 rename_i hp;refine .ofV (.box ho (hs.eX hx ρ) (D6 hs hp)) (by simp) λa σ' ⟨b,ha,hσ⟩=> ?_;have hl:=uS (hs.qd hx);refine XH hs (ρ':=ρ.fy nx b) h (.ptr _ _ (zB _)) (λc hc=>(hl c hc).mono (yx nx)) (.fy ρ nx b) ?_ ?_
 ·rw[ha,eT];simp[Gh.fy]
 ·rw[hσ,kj,cI.UI hl (.fy ρ nx b)];simp[IR.res,Gh.fy]
def Sg:AV->Bool
 | .lit v=>v.oneCell'
 | .sl _ _=>J
 |_=>G
def W0:AV->Bool
 | .agg cs=>cs.all Sg
 |d=>Sg d
def IZ{d:AV}(h:Sg d=J)(ρ:Gh):d.sub ρ=d:=by
 cases d<;>first|(cases h;done)|simp only[cc.sub]
def Ki{cs:aa AV}(h:cs.all Sg=J)(ρ:Gh):cs.map (cc.sub ρ)=cs:=by
 have:cs.map (cc.sub ρ)=cs.map id:=zZ λc hc=>IZ (zu.1 h c hc) ρ;rw[this,List.map_id]
def K3{d:AV}(h:W0 d=J)(ρ:Gh):d.sub ρ=d:=by
 by_cases ha:∃cs,d= .agg cs
 ·obtain⟨cs,rfl⟩:=ha;rw[eC,Ki h]
 ·exact IZ (by cases d<;>first|exact h|(exact dg ⟨_,rfl⟩ ha)) ρ
def J2{d:AV}(h:Sg d=J):gG d=J:=by
 cases d<;>first|(cases h;done)|exact h|rfl
def CZ{d:AV}(h:W0 d=J):CB d=J:=by
 by_cases ha:∃cs,d= .agg cs
 ·obtain⟨cs,rfl⟩:=ha;exact zu.2 λc hc=>J2 (zu.1 h c hc)
 ·have:=J2 (d:=d) (by cases d<;>first|exact h|(exact dg ⟨_,rfl⟩ ha));cases d<;>first|exact this|(exact dg ⟨_,rfl⟩ ha)
def NF(d:AV):af Bool:=match dz d with
 |[.lit (.bool b)]=>I b
 |_=>S
def Tb{d:AV}{b:Bool}(h:NF d=I b):dz d=[.lit (.bool b)]:=by
 unfold NF at h;split at h
 ·rename_i b' e;cases h;exact e
 ·cases h
def LL(P:Program)(rd:Nat->af IR)(T:TypeId)(x y:af AV)(K:fB->af α):af α:=match y with
  |some d=>match (P.info? T).map (·.size)with
    |some n=>match zg (dz d).length n&&B9 rd d with
      |true=>match x with
        |some (.ptr id off)=>match rd id with
          |some (.box T' cs)=>match ye (off+n) cs.length with
            |true=>K (.set id (.box T' (cs.take off++dz d++cs.drop (off+n))))
            |false=>S
          |_=>S
        |some (.ra id t m off)=>match rd id with
          |some (.row t' l)=>match bif L.arr t'&&W0 d then NF d else S with
           |some b=>if t=t'/\m<l.length/\off<U.sz t' then K (.set id (.row t' (l.set m (L.stB t' l[m]! off b))))else S
           |none=>match ye (off+n) (U.sz t')&&W0 d with
            |true=>if t=t'/\m<l.length then(L.parse t' ((U.cells t' l[m]!).take off++dz d++(U.cells t' l[m]!).drop (off+n))).bind λq=>K (.set id (.row t' (l.set m q)))else S
            |false=>S
          |_=>S
        |_=>S
      |false=>S
    |none=>S
  |none=>S
def adh{T:TypeId}(hs:jt ev rd nx E R)(ho:o.op= .store T x y)(h:LL P rd T (ev x) (ev y) K=I r):Sv P o E R nx K r:=λρ C=>by
 unfold LL at h;split at h
 case h_2=>cases h
 rename_i d hy;split at h
 case h_2=>cases h
 rename_i n hn;split at h
 case h_2=>cases h
 rename_i hdn;simp only[zj]at hdn;obtain⟨hlen,hp⟩:=hdn;have hlen:=fM hlen;split at h
 ·rename_i id off hx;split at h
  case h_2=>cases h
  rename_i T' cs hr;split at h
  case h_2=>cases h
  rename_i hle;have hle:=xV hle;have ex:=hs.eX hx ρ;rw[eT]at ex;obtain⟨i,hi1,hi2,_⟩:=dV (hs.r _ _ hr);have hres:=gC (ρ:=ρ) hi1;have hl:∀c∈cs.take off++dz d++cs.drop (off+n),cI nx c:=tX (tX (oJ (hs.acL hr) _) (uS (hs.qd hy))) (lD (hs.acL hr) _);refine .ofU (.als (cs:=cs.map (cc.sub ρ)) i ho ex (hs.eX hy ρ) hres hn (D6 hs hp) (by rw[kj,zA,hlen]) (by rw[zA];exact hle)) (λb hb=> ?_) ⟨_,h,zG _,nN (hs.r _ _ hr) hs.lr hl,λd' hd=>(by cases hd),ρ, .refl _ _,rfl,?_⟩
  ·rw[zJ]at hb;exact bS.2 ⟨_,List.mem_of_getElem? hres,by rw[hb];rfl⟩
  ·show List.Perm _ (aX.res ρ (rJ id _ R));rw[hi2,se];simp only[IR.res,z6,xC,xd,kj];exact .refl _
 ·rename_i id t m off hx;split at h
  case h_2=>cases h
  rename_i t' l hr;split at h
  ·rename_i b hbb;cases har:L.arr t'&&W0 d with
   |false=>rw[har]at hbb;cases hbb
   |true=>
    rw[har]at hbb;simp only[zj]at har;obtain⟨har,hap⟩:=har;have hab:=Tb hbb;rw[hab]at hlen;have hn1:n=1:=by simpa using hlen.symm
    split at h
    case isFalse=>cases h
    rename_i hm;obtain⟨rfl,hm,hoff⟩:=hm;have ex:=hs.eX hx ρ;rw[iT]at ex;obtain⟨i,hi1,hi2,_⟩:=dV (hs.r _ _ hr);have hres:=gC (ρ:=ρ) hi1;have hds:=K3 hap ρ;have hpl:CB (d.sub ρ)=J:=by rw[hds];exact CZ hap
    refine .ofU (.Xh (of:=off) i (L.stB t l[m]! off b) ho ex (hs.eX hy ρ) hres hn hpl (by rw[hds,hab,hn1];rfl) rfl hm (by omega) (L.len _ _) (λA w us hr=> ?_)) (λb hb=> ?_) ⟨_,h,zG _,nN (hs.r _ _ hr) hs.lr trivial,λd' hd=>(by cases hd),ρ, .refl _ _,rfl,?_⟩
    ·rw[hds,hab,hn1]at hr;rw[L.adg t har _ off b hoff];exact hr
    ·obtain⟨g,hg⟩:∃g,gh (ρ.v id)=I g:=by
      cases hb':gh (ρ.v id)with
      |none=>rw[hb']at hb;simp at hb
      |some g=>exact⟨g,rfl⟩
     rw[hg]at hb;simp only[xx,zJ]at hb;exact bS.2 ⟨_,List.mem_of_getElem? hres,by rw[hb];exact hg⟩
    ·show List.Perm _ (aX.res ρ (rJ id _ R));rw[hi2,se];exact .refl _
  split at h
  case h_2=>cases h
  rename_i hle;simp only[zj]at hle;obtain⟨hle,hap⟩:=hle;have hle:=xV hle;split at h
  case isFalse=>cases h
  rename_i hm;obtain⟨rfl,hm⟩:=hm;obtain⟨q,hq,h⟩:=zn.1 h;have ex:=hs.eX hx ρ;rw[iT]at ex;obtain⟨i,hi1,hi2,_⟩:=dV (hs.r _ _ hr);have hres:=gC (ρ:=ρ) hi1;have hds:=K3 hap ρ;have hpl:CB (d.sub ρ)=J:=by rw[hds];exact CZ hap
  refine .ofU (.Xh (of:=off) i q ho ex (hs.eX hy ρ) hres hn hpl (by rw[kj,zA,hlen]) rfl hm hle (L.len _ _) (λA w us hr=> ?_)) (λb hb=> ?_) ⟨_,h,zG _,nN (hs.r _ _ hr) hs.lr trivial,λd' hd=>(by cases hd),ρ, .refl _ _,rfl,?_⟩
  ·refine L.j0 _ _ _ hq A w us ?_;rw[hds]at hr;exact hr
  ·obtain⟨g,hg⟩:∃g,gh (ρ.v id)=I g:=by
    cases hb':gh (ρ.v id)with
    |none=>rw[hb']at hb;simp at hb
    |some g=>exact⟨g,rfl⟩
   rw[hg]at hb;simp only[xx,zJ]at hb;exact bS.2 ⟨_,List.mem_of_getElem? hres,by rw[hb];exact hg⟩
  ·show List.Perm _ (aX.res ρ (rJ id _ R));rw[hi2,se];exact .refl _
 ·cases h
def prs(t:Nat):Nat->aa AV->af (aa (U.dc t))
 |0,[]=>I []
 |0,_=>S
 |n+1,cs=>(L.parse t (cs.take (U.sz t))).bind λx=>(prs t n (cs.drop (U.sz t))).map λl=>x::l
def V1{t:Nat}:∀{n:Nat} {cs:aa AV} {l:aa (U.dc t)},prs t n cs=I l->cs.length=n*U.sz t->l.length=n/\∀A w us,bJ A w cs us->bJ A w (l.flatMap (U.cells t)) us
 |0,[],l,h,_=>by
  cases h;exact⟨rfl,λA w us h=>h⟩
 |0,_::_,l,h,_=>by cases h
 |n+1,cs,l,h,hl=>by
  unfold prs at h;obtain⟨x,h1,h⟩:=zn.1 h;obtain⟨l',h2,rfl⟩:=zk.1 h;rw[yI]at hl;obtain⟨h3,h4⟩:=V1 h2 (by rw[yj];omega);refine⟨by simp[h3],λA w us hr=> ?_⟩;rw[xA,<-xp (U.sz t) us];exact(L.j0 _ _ _ h1 A w _ (hr.take _)).app (h4 A w _ (hr.drop _))
def MF(P:Program)(ev:Operand->af AV)(rd:Nat->af IR)(nx:Nat)(T:TypeId)(n:Nat)(ps:aa (Nat×Operand))(K:fB->af α):af α:=match P.underlying T with
 |some (.slice e)=>match JY P e (U.sz e)with
  |true=>match n with
   |0=>match ps with
    |[]=>K (.new (.own nx) (.row e []))
    |_=>S
   |n+1=>match evp ev ps,jh P e with
    |some as0,I zs=>match zg zs.length (U.sz e)&&zy 0 (U.sz e)&&ye ((n+1)*U.sz e) 16777216 with
     |true=>(sx rd (λi=>I (i*U.sz e,U.sz e)) ((zo (n+1) zs).flatten.map .lit) as0).bind λcs=>match cs.all Sg&&zg cs.length ((n+1)*U.sz e)with
      |true=>(prs e (n+1) cs).bind λl=>K (.new (.own nx) (.row e l))
      |false=>S
     |false=>S
    |_,_=>S
  |false=>S
 |_=>S
def Ek(hs:jt ev rd nx E R){t:Nat}{l:aa (U.dc t)}{ρ:Gh}{σ':aa cG}{a:AV}(hK:K (.new (.own nx) (.row t l))=I r)(h:∃v,a= .lit v/\σ'= .row v t l::aX.res ρ R):Nx R nx K r ρ (I a) σ':=by
 obtain⟨v,ha,hσ⟩:=h;refine XH hs (ρ':=ρ.fH nx v) hK (.own _ (zB _)) trivial (.fH ρ nx v) ?_ ?_
 ·rw[ha,dF];simp[Gh.fH]
 ·rw[hσ];simp[IR.res,Gh.fH]
def ae3{T:TypeId}{n:Nat}{ps:Array (Nat×Operand)}(hs:jt ev rd nx E R)(ho:o.op= .buildSlice T n ps)(h:MF P ev rd nx T n ps.toList K=I r):Sv P o E R nx K r:=λρ C=>by
 unfold MF at h;split at h
 case h_2=>cases h
 rename_i e hT;split at h
 case h_2=>cases h
 rename_i hsz;have hsz:=p8 hsz;split at h
 ·split at h
  case h_2=>cases h
  rename_i h0;have h0:ps=#[]:=by rw[<-Array.toList_eq_nil_iff];exact h0
  subst h0;exact .ofV (.awC ho hT hsz) (by simp) λa σ' hN=>Ek hs h hN
 ·rename_i n;split at h
  case h_2=>cases h
  rename_i as0 zs he hz;split at h
  case h_2=>cases h
  rename_i hc;simp only[zj]at hc;obtain⟨⟨hc1,hc2⟩,hc3⟩:=hc;have hc1:=fM hc1;have hc2:0<U.sz e:=by simpa [yt]using hc2
  have hc3:=xV hc3;obtain⟨cs,hf,h⟩:=zn.1 h;split at h
  case h_2=>cases h
  rename_i hd;simp only[zj]at hd;obtain⟨hd1,hd2⟩:=hd;have hd2:=fM hd2;obtain⟨l,hl,h⟩:=zn.1 h;obtain⟨hl1,hl2⟩:=V1 hl hd2;refine .ofV (.lit l ho hT hsz hz hc1 (λA w ϱ hd hρ=> ?_) hl1 (λi hi=>L.len _ _) (Nat.mul_pos (Nat.succ_pos _) hc2) hc3) (by simp) λa σ' hN=>Ek hs h hN;obtain⟨us,h1,h2⟩:=vG (init:=(zo (n+1) zs).flatten.toArray) hs hd (by rw[CV];exact bJ.lits _) (EX hs hρ he) hf;rw[Ki hd1]at h2;exact⟨us,h1,hl2 _ _ _ h2⟩
def mkE(P:Program)(nx:Nat)(T:TypeId)(x y:af AV)(K:fB->af α):af α:=match P.underlying T,x,y with
 |some (.slice e),I (.lit (.int .i64 m)),I (.lit (.int .i64 n))=>match (P.info? e).map (λi=>(i.size,i.bytes)),jh P e with
  |some (sz,by'),I zs=>match zg sz (U.sz e)&&ye by' 4096&&zg zs.length (U.sz e)&&zy 0 (U.sz e)with
   |true=>(L.parse e (zs.map .lit)).bind λd=>if 0<=m/\m<=n/\n<=1073741824 then K (.new (.own nx) (.row e (zo m.toNat d)))else S
   |false=>S
  |_,_=>S
 |_,_,_=>S
def aie{T:TypeId}(hs:jt ev rd nx E R)(ho:o.op= .makeSlice T x y)(h:mkE P nx T (ev x) (ev y) K=I r):Sv P o E R nx K r:=λρ C=>by
 unfold mkE at h;split at h
 case h_2=>cases h
 rename_i e m n hT hx hy;split at h
 case h_2=>cases h
 rename_i sz by' zs hb hz;split at h
 case h_2=>cases h
 rename_i hc;simp only[zj]at hc;obtain⟨⟨⟨hc1,hc2⟩,hc3⟩,hc4⟩:=hc;have hc1:=fM hc1;have hc3:=fM hc3;have hc4:0<U.sz e:=by simpa [yt]using hc4
 subst hc1;obtain⟨d,hd,h⟩:=zn.1 h;split at h
 case isFalse=>cases h
 rename_i hm;have ex:=hs.eX hx ρ;have ey:=hs.eX hy ρ;rw[bR]at ex ey;exact .ofV (.make d ho ex ey hT hb hz hc2 hc3 (λA w=>L.j0 _ _ _ hd A w _ (bJ.lits _)) hc4 hm) (by simp) λa σ' hN=>Ek hs h hN
def emE(P:Program)(nx:Nat)(T:TypeId)(x:af AV)(K:fB->af α):af α:=match P.underlying T with
 |some (.slice e)=>match P.info? e with
  |some _=>match x with
   |some (.sl _ _)=>K (.new (.own nx) (.row e []))
   |some (.lit (.slice S 0 0))=>K (.new (.own nx) (.row e []))
   |_=>S
  |none=>S
 |_=>S
def ajK{T:TypeId}{k k':IntKind}(hs:jt ev rd nx E R)(ho:o.op= .slice T x S (I (.const (.int k 0))) (I (.const (.int k' 0))))(h:emE P nx T (ev x) K=I r):Sv P o E R nx K r:=λρ C=>by
 unfold emE at h;split at h
 case h_2=>cases h
 rename_i e hT;split at h
 case h_2=>cases h
 rename_i i hi;split at h
 ·rename_i t l hx;have ex:=hs.eX hx ρ;rw[fP]at ex;exact .ofV (.P4 ho (.inl ex) hT (by rw[hi];rfl)) (by simp) λa σ' hN=>Ek hs h hN
 ·rename_i hx;have ex:=hs.eX hx ρ;rw[bR]at ex;exact .ofV (.P4 (q:=0) (l:=[]) ho (.inr ex) hT (by rw[hi];rfl)) (by simp) λa σ' hN=>Ek hs h hN
 ·cases h
def aez(rd:Nat->af IR)(e:Nat)(x:af AV):af (aa (U.dc e)):=match x with
 |some (.lit (.slice _ 0 _))=>I []
 |some (.sl t l)=>tT t e l
 |some (.own id)=>match rd id with
  |some (.row t l)=>tT t e l
  |_=>S
 |_=>S
def GH{e:Nat}{l:aa (U.dc e)}(hs:jt ev rd nx E R)(h:aez rd e (ev x)=I l)(ρ:Gh):Src (aX.res ρ R) (E.sub ρ) x e l:=by
 unfold aez at h;split at h
 ·rename_i hx;cases h;have ex:=hs.eX hx ρ;rw[bR]at ex;exact .inl ⟨_,_,ex,rfl⟩
 ·rename_i t l' hx;obtain⟨rfl,rfl⟩:=lC h;have ex:=hs.eX hx ρ;rw[fP]at ex;exact .inr (.inl ex)
 ·rename_i id hx;split at h
  case h_2=>cases h
  rename_i t l' hr;obtain⟨rfl,rfl⟩:=lC h;have ex:=hs.eX hx ρ;rw[dF]at ex;obtain⟨i,hi⟩:=hs.row hr ρ;exact .inr (.inr ⟨i,_,ex,hi⟩)
 ·cases h
def Src.cons{P:Program}{σ:aa cG}{E:Env}{rr:cG}{q:Nat}{l:aa (U.dc q)}(h:Src σ E x q l):Src (rr::σ) E x q l:=by
 rcases h with h|h|⟨i,v,h1,h2⟩
 ·exact .inl h
 ·exact .inr (.inl h)
 ·exact .inr (.inr ⟨i+1,v,h1,h2⟩)
def R7(P:Program)(T:TypeId)(K:Nat->aa Value->af α):af α:=match P.underlying T with
 |some (.slice e)=>match (P.info? e).map (λi=>(i.size,i.bytes)),jh P e with
  |some (sz,by'),I zs=>match zg sz (U.sz e)&&ye by' 4096&&zg zs.length (U.sz e)with
   |true=>K e zs
   |false=>S
  |_,_=>S
 |_=>S
def Ze{T:TypeId}{K:Nat->aa Value->af α}(h:R7 P T K=I r):∃e zs by',K e zs=I r/\P.underlying T=I (.slice e)/\(P.info? e).map (λi=>(i.size,i.bytes))=I (U.sz e,by')/\jh P e=I zs/\ye by' 4096=J/\zs.length=U.sz e:=by
 unfold R7 at h;split at h
 case h_2=>cases h
 rename_i e hT;split at h
 case h_2=>cases h
 rename_i sz by' zs hb hz;split at h
 case h_2=>cases h
 rename_i hc;simp only[zj]at hc;obtain⟨⟨hc1,hc2⟩,hc3⟩:=hc;have hc1:=fM hc1;subst hc1;exact⟨e,zs,by',h,hT,hb,hz,hc2,fM hc3⟩
def Ni(P:Program)(rd:Nat->af IR)(e:Nat)(zs:aa Value)(T':TypeId)(T:TypeId)(y:af AV)(K:aa (U.dc e)->af α):af α:=match zg T T' with
 |true=>(aez rd e y).bind K
 |false=>match P.underlying T',y with
  |some (.int _),I (.lit (.int .i64 m))=>match zy 0 (U.sz e)&&zs.all Value.oneCell' with
   |true=>(L.parse e (zs.map .lit)).bind λd=>if 0<=m then K (zo m.toNat d)else S
   |false=>S
  |_,_=>S
def SM(P:Program)(rd:Nat->af IR)(nx:Nat)(T T':TypeId)(x y:af AV)(K:fB->af α):af α:=R7 P T λe zs=>match x with
 |some (.lit (.slice S 0 0))=>Ni P rd e zs T' T y λl2=>if l2.length<=1073741824 then K (.new (.own nx) (.row e l2))else S
 |some (.own id)=>match rd id with
  |some (.row t l)=>(tT t e l).bind λl=>Ni P rd e zs T' T y λl2=>if(l++l2).length<=1073741824 then K (.grow id (.row e (l++l2)))else S
  |_=>S
 |_=>S
def NQ(P:Program)(rd:Nat->af IR)(R:aX)(nx:Nat)(T:TypeId)(x y:af AV)(K:fB->af α):af α:=match P.underlying T with
 |some (.slice e)=>match JY P e 1&&zg (U.sz e) 1 with
  |true=>match x with
   |some (.own id)=>match rd id with
    |some (.row t l)=>(tT t e l).bind λl=>(aez rd e y).bind λl2=>if 0<l.length/\l2.length=l.length then K (.all (.i (l.length:Int)) (rJ id (.row e l2) R) nx)else S
    |_=>S
   |_=>S
  |false=>S
 |_=>S
def abU{T T':TypeId}(hs:jt ev rd nx E R)(ho:o.op= .call {callee:= .builtin .copy,args:=#[x,y],argTypes:=#[T,T']})(h:NQ P rd R nx T (ev x) (ev y) K=I r):Sv P o E R nx K r:=λρ C=>by
 unfold NQ at h;split at h
 case h_2=>cases h
 rename_i e hT;split at h
 case h_2=>cases h
 rename_i hc;rw[zj]at hc;split at h
 case h_2=>cases h
 rename_i id hx;split at h
 case h_2=>cases h
 rename_i t l hr;obtain⟨l',h1,h⟩:=zn.1 h;obtain⟨rfl,rfl⟩:=lC h1;obtain⟨l2,h2,h⟩:=zn.1 h;split at h
 case isFalse=>cases h
 rename_i hl;have ex:=hs.eX hx ρ;rw[dF]at ex;obtain⟨i,hi1,hi2,_⟩:=dV (hs.r _ _ hr);have hres:=gC (ρ:=ρ) hi1;refine .ofV (.aua i ho ex hres (GH hs h2 ρ) hT (p8 hc.1) (fM hc.2) hl.2 hl.1 (L.one _)) (λb hb=> ?_) λa σ' ⟨ha,hσ⟩=>⟨_,h,zG _,nN (hs.r _ _ hr) hs.lr trivial,λd' hd=>(by cases hd;exact .lit _),ρ, .refl _ _,by rw[ha];simp only[fB.vl,yo,cc.sub],?_⟩
 ·obtain⟨g,hg⟩:∃g,gh (ρ.v id)=I g:=by
   cases hb':gh (ρ.v id)with
   |none=>rw[hb']at hb;simp at hb
   |some g=>exact⟨g,rfl⟩
  rw[hg]at hb;simp only[xx,zJ]at hb;exact bS.2 ⟨_,List.mem_of_getElem? hres,by rw[hb];exact hg⟩
 ·show List.Perm _ (aX.res ρ (rJ id _ R));rw[hσ,hi2,se];exact .refl _
def set_perm{β:Type}{l:aa β}{i:Nat}{a b:β}(h:l[i]? =I b):List.Perm (l.set i a) (a::l.eraseIdx i):=by
 have hi:=(zY.1 h).1;rw[wv,wu,bD hi];exact List.perm_middle
def Qb{T T':TypeId}{e by':Nat}{zs:aa Value}{K':aa (U.dc e)->af α}{rs:aa cG}{ρ:Gh}{C:Cx}(hs:jt ev rd nx E R)(ho:o.op= .call {callee:= .builtin .append,args:=#[x,y],argTypes:=#[T,T']})(h:Ni P rd e zs T' T (ev y) K'=I r)
  (hT:P.underlying T=I (.slice e)) (hb:(P.info? e).map (λi=>(i.size,i.bytes))=I (U.sz e,by')) (hz:jh P e=I zs) (hb4:ye by' 4096=J) (hzl:zs.length=U.sz e):
  ∃l2,K' l2=I r/\∀(σ:aa cG) (v:Value) (i:Nat) (l:aa (U.dc e)),(σ=aX.res ρ R\/∃rr,σ=rr::aX.res ρ R)->(E.sub ρ).ev x=I (.lit v)->σ[i]? =I (.row v e l)->(l++l2).length<=1073741824->
   Yv P (E.sub ρ) σ o C (xz (gh v)) (λa σ'=>∃v',a= .lit v'/\σ'=σ.set i (.row v' e (l++l2))):=by
 unfold Ni at h;split at h
 ·rename_i hTT;have:=fM hTT;subst this;obtain⟨l2,h1,h⟩:=zn.1 h;refine⟨l2,h,λσ v i l hσ hx hi hlen=> ?_⟩;have hsrc:Src σ (E.sub ρ) y e l2:=by
   rcases hσ with rfl|⟨rr,rfl⟩
   ·exact GH hs h1 ρ
   ·exact Src.cons (P:=P) (GH hs h1 ρ)
  exact .app i ho hx hi hsrc hT hb hz hzl hb4 (L.one e) hlen
 ·split at h
  case h_2=>cases h
  rename_i kn m hT' hy;split at h
  case h_2=>cases h
  rename_i hc;simp only[zj]at hc;obtain⟨hc1,hc2⟩:=hc;obtain⟨d,hd,h⟩:=zn.1 h;split at h
  case isFalse=>cases h
  rename_i hm;refine⟨_,h,λσ v i l hσ hx hi hlen=> ?_⟩;have ey:=hs.eX hy ρ;rw[bR]at ey;exact .ayy i d ho hx hi ey hT hT' hb hz hzl (by simpa [yt]using hc1) hb4 (λA w=>L.j0 _ _ _ hd A w _ (bJ.lits _)) hc2 ⟨hm,hlen⟩
def ZI{T T':TypeId}(hs:jt ev rd nx E R)(ho:o.op= .call {callee:= .builtin .append,args:=#[x,y],argTypes:=#[T,T']})(h:SM P rd nx T T' (ev x) (ev y) K=I r):Sv P o E R nx K r:=λρ C=>by
 obtain⟨e,zs,by',h,hT,hb,hz,hb4,hzl⟩:=Ze h;split at h
 ·rename_i hx;obtain⟨l2,h,hY⟩:=Qb (rs:=[]) (ρ:=ρ) (C:=C) hs ho h hT hb hz hb4 hzl;split at h
  case isFalse=>cases h
  rename_i hlen;have ex:=hs.eX hx ρ;rw[bR]at ex;intro w ϱ hg hρ;have ht:Tr C [] (aX.res ρ R) w (.row (.slice S 0 0) e []::aX.res ρ R) w:=M0 S e hg;have hal:∀b,al C (aX.res ρ R) b->al C (.row (.slice S 0 0) e []::aX.res ρ R) b:=λb hA=>⟨hA.1,λhx=>hA.2 (by
   rw[eN]at hx;simpa [cG.blk,gh]using hx)⟩
  obtain⟨v,w',av,σ',⟨v',ha,hσ⟩,h2,h3,h4⟩:=hY _ (.slice S 0 0) 0 [] (.inr ⟨_,rfl⟩) ex rfl (by simpa using hlen) w ϱ ht.good (λu d hu=>(hρ u d hu).mono λb _ hA=>⟨hal b hA,rfl⟩);refine .inl ⟨v,w',av,σ',Ek hs h ⟨v',ha,by rw[hσ];rfl⟩,⟨h2.good,⟨h2.kp.os,h2.kp.tape,h2.kp.output,h2.kp.size,λk hk _=>h2.kp.block k hk (by simp[gh])⟩,λb hb hA=>⟨(h2.al b hb (hal b hA)).1,hA.2⟩⟩,h3,h4⟩
 ·rename_i id hx;split at h
  case h_2=>cases h
  rename_i t l0 hr;obtain⟨l,hl,h⟩:=zn.1 h;obtain⟨rfl,rfl⟩:=lC hl;obtain⟨l2,h,hY⟩:=Qb (rs:=[]) (ρ:=ρ) (C:=C) hs ho h hT hb hz hb4 hzl;split at h
  case isFalse=>cases h
  rename_i hlen;have ex:=hs.eX hx ρ;rw[dF]at ex;obtain⟨i,hi1,_,hi3⟩:=dV (hs.r _ _ hr);have hres:=gC (ρ:=ρ) hi1;refine .ofV (hY _ _ i _ (.inl rfl) ex hres hlen) (λb hb=> ?_) λa σ' ⟨v',ha,hσ⟩=> ?_
  ·obtain⟨g,hg⟩:∃g,gh (ρ.v id)=I g:=by
    cases hb':gh (ρ.v id)with
    |none=>rw[hb']at hb;simp at hb
    |some g=>exact⟨g,rfl⟩
   rw[hg]at hb;simp only[xx,zJ]at hb;exact bS.2 ⟨_,List.mem_of_getElem? hres,by rw[hb];exact hg⟩
  ·have hdl:=De (id:=id) hs.lr;refine⟨_,h,yx nx,λp hp=> ?_,λd' hd=>by cases hd;exact .own _ (zB _),ρ.fH nx v', .fH ρ nx v',?_,?_⟩
   ·rcases zF.1 hp with rfl|hp
    ·exact⟨zB _,trivial⟩
    ·exact(hdl.mono (yx nx)) p hp
   ·rw[ha];simp[fB.vl,dF,Gh.fH]
   ·rw[hσ];show List.Perm _ (aX.res _ ((nx,_)::jP id R));have e1:aX.res (ρ.fH nx v') ((nx,IR.row t (l0++l2))::jP id R)=cG.row v' t (l0++l2)::(aX.res ρ R).eraseIdx i:=by
     show _::aX.res _ (jP id R)=_;rw[<-hdl.res (.fH ρ nx v'),hi3,uJ];simp[IR.res,Gh.fH]
    rw[e1];exact set_perm hres
 ·cases h
def mnV(mx:Bool)(xs:aa (af AV))(K:AV->af α):af α:=match xs with
 |[I (.lit (.int k m)),I (.lit (.int k' n))]=>if k=k' then(match mx with
  |true=>K (.n k (if m<n then n else m))
  |false=>K (.n k (if n<m then n else m)))else S
 |_=>S
abbrev aW:=(α:Type)->FuncId->aa AV->aX->Nat->(AV->aX->Nat->af α)->af α
def gJ(P:Program)(F:aW):Prop:=∀(α:Type) f args R nx (k:AV->aX->Nat->af α) r,F α f args R nx k=I r->(∀d∈args,cI nx d)->aX.cI nx R->tj P f/\
 ∀ρ,Fn P f (args.map (cc.sub ρ)) (aX.res ρ R) λa s=>∃d R' nx',k d R' nx'=I r/\nx<=nx'/\cI nx' d/\aX.cI nx' R'/\∃ρ',pT nx ρ ρ'/\a=d.sub ρ'/\List.Perm s (aX.res ρ' R')
def FO(F:aW)(ev:Operand->af AV)(R:aX)(nx:Nat)(x:af AV)(xs:aa Operand)(K:fB->af α):af α:=match x with
 |some (.fn (.func f) caps)=>(I7 ev xs).bind λas0=>F α f (as0++caps) R nx λd R' nx'=>K (.all d R' nx')
 |_=>S
def Ym{F:aW}{xs:Array Operand}{ts:Array TypeId}(hF:gJ P F)(hs:jt ev rd nx E R)(ho:o.op= .call {callee:= .value x,args:=xs,argTypes:=ts})(h:FO F ev R nx (ev x) xs.toList K=I r):Sv P o E R nx K r:=λρ C=>by
 unfold FO at h;split at h
 case h_2=>cases h
 rename_i f caps hx;obtain⟨as0,ha,h⟩:=zn.1 h;have ex:=hs.eX hx ρ;rw[qM]at ex;obtain⟨hf,hfn⟩:=hF _ _ _ _ _ _ _ h (tX (Ge hs ha) (hs.qd hx).fnL) hs.lr;refine .ofC (.fn (σr:=[]) ho ex hf (FN hs ρ ha) (by rw[z6]) (yp _).symm (hfn ρ)) (λb hb=>hb) λa σ' ⟨σo,hN,hσ⟩=> ?_;obtain⟨d,R',nx',h1,h2,h3,h4,ρ',h5,h6,h7⟩:=hN;rw[yp]at hσ;exact⟨.all d R' nx',h1,h2,h4,λd' hd=>by cases hd;exact h3,ρ',h5,by rw[h6];rfl,by rw[hσ];exact h7⟩
end
def dw{α:Type}(K:fB->af α)(d:AV):af α:=K (.val d)
def Fu{α:Type}(P:Program)(F:aW)(ev:Operand->af AV)(rd:Nat->af IR)(R:aX)(nx:Nat)(o:Op)(K:fB->af α):af α:=match o with
 | .move x=>(ev x).bind (dw K)
 | .assign x=>(ev x).bind (dw K)
 | .pick c a b=>match ev c with
  |some (.lit (.bool J))=>(ev a).bind (dw K)
  |some (.lit (.bool G))=>(ev b).bind (dw K)
  |_=>S
 | .binOp b T x y _=>J5 P rd b T (ev x) (ev y) (dw K)
 | .unOp b _ x=>unV b (ev x) (dw K)
 | .convert T T' x=>L6 P rd T T' (ev x) (dw K)
 | .nilCheck x=>Lz (ev x) (dw K)
 | .fieldAddr T x i=>NU P T i (ev x) (dw K)
 | .indexAddr T x y=>NW P rd T (ev x) (ev y) (dw K)
 | .index T x y=>LI P T (ev x) (ev y) (dw K)
 | .load T x=>ldV P rd T (ev x) (dw K)
 | .store T x y=>LL P rd T (ev x) (ev y) K
 | .makeFunc f fs cs=>LF ev f fs.toList cs.toList (dw K)
 | .extract x i=>MD i (ev x) (dw K)
 | .build T ps=>MO P ev rd T ps.toList (dw K)
 | .buildSlice T n ps=>MF P ev rd nx T n ps.toList K
 | .makeSlice T x y=>mkE P nx T (ev x) (ev y) K
 | .alloc T=>SE P nx T K
 | .box T x=>NM rd nx T (ev x) K
 | .slice T x lo hi mx=>match mx with
  |none=>Lm P T (ev x) (lo.map ev) (hi.map ev) (dw K)
  |some (.const (.int _ 0))=>match lo,hi with
   |none,I (.const (.int _ 0))=>emE P nx T (ev x) K
   |_,_=>S
  |_=>S
 | .call {callee:= .builtin .len,args:=as0,argTypes:=ts}=>match as0.toList,ts.toList with
  |[x],[T]=>Lt P rd T (ev x) (dw K)
  |_,_=>S
 | .call {callee:= .builtin .max,args:=as0,argTypes:=ts}=>match as0.toList,ts.toList with
  |[x,y],[_,_]=>mnV J [ev x,ev y] (dw K)
  |_,_=>S
 | .call {callee:= .builtin .min,args:=as0,argTypes:=ts}=>match as0.toList,ts.toList with
  |[x,y],[_,_]=>mnV G [ev x,ev y] (dw K)
  |_,_=>S
 | .call {callee:= .builtin .append,args:=as0,argTypes:=ts}=>match as0.toList,ts.toList with
  |[x,y],[T,T']=>SM P rd nx T T' (ev x) (ev y) K
  |_,_=>S
 | .call {callee:= .builtin .copy,args:=as0,argTypes:=ts}=>match as0.toList,ts.toList with
  |[x,y],[T,_]=>NQ P rd R nx T (ev x) (ev y) K
  |_,_=>S
 | .call {callee:= .value x,args:=as0,argTypes:=_}=>FO F ev R nx (ev x) as0.toList K
 |_=>S
section
variable {α:Type}
def Qt(x:Operand)(_:Program)(_:aW)(ev:Operand->af AV)(_:Nat->af IR)(_:aX)(_:Nat)(K:fB->af α):af α:=(ev x).bind (dw K)
def tV(c a b:Operand)(_:Program)(_:aW)(ev:Operand->af AV)(_:Nat->af IR)(_:aX)(_:Nat)(K:fB->af α):af α:=match ev c with
 |some (.lit (.bool J))=>(ev a).bind (dw K)
 |some (.lit (.bool G))=>(ev b).bind (dw K)
 |_=>S
def agV(b:BinOp)(T:TypeId)(x y:Operand)(P:Program)(_:aW)(ev:Operand->af AV)(rd:Nat->af IR)(_:aX)(_:Nat)(K:fB->af α):af α:=J5 P rd b T (ev x) (ev y) (dw K)
def ap5(b:UnOp)(x:Operand)(_:Program)(_:aW)(ev:Operand->af AV)(_:Nat->af IR)(_:aX)(_:Nat)(K:fB->af α):af α:=unV b (ev x) (dw K)
def agY(T T':TypeId)(x:Operand)(P:Program)(_:aW)(ev:Operand->af AV)(rd:Nat->af IR)(_:aX)(_:Nat)(K:fB->af α):af α:=L6 P rd T T' (ev x) (dw K)
def ahR(x:Operand)(_:Program)(_:aW)(ev:Operand->af AV)(_:Nat->af IR)(_:aX)(_:Nat)(K:fB->af α):af α:=Lz (ev x) (dw K)
def ags(T:TypeId)(x:Operand)(i:Nat)(P:Program)(_:aW)(ev:Operand->af AV)(_:Nat->af IR)(_:aX)(_:Nat)(K:fB->af α):af α:=NU P T i (ev x) (dw K)
def agf(T:TypeId)(x y:Operand)(P:Program)(_:aW)(ev:Operand->af AV)(rd:Nat->af IR)(_:aX)(_:Nat)(K:fB->af α):af α:=NW P rd T (ev x) (ev y) (dw K)
def ahK(T:TypeId)(x y:Operand)(P:Program)(_:aW)(ev:Operand->af AV)(_:Nat->af IR)(_:aX)(_:Nat)(K:fB->af α):af α:=LI P T (ev x) (ev y) (dw K)
def aqO(T:TypeId)(x:Operand)(P:Program)(_:aW)(ev:Operand->af AV)(rd:Nat->af IR)(_:aX)(_:Nat)(K:fB->af α):af α:=ldV P rd T (ev x) (dw K)
def agl(T:TypeId)(x y:Operand)(P:Program)(_:aW)(ev:Operand->af AV)(rd:Nat->af IR)(_:aX)(_:Nat)(K:fB->af α):af α:=LL P rd T (ev x) (ev y) K
def agv(f:Go.Fn)(fs cs:Array Operand)(_:Program)(_:aW)(ev:Operand->af AV)(_:Nat->af IR)(_:aX)(_:Nat)(K:fB->af α):af α:=LF ev f fs.toList cs.toList (dw K)
def ahQ(x:Operand)(i:Nat)(_:Program)(_:aW)(ev:Operand->af AV)(_:Nat->af IR)(_:aX)(_:Nat)(K:fB->af α):af α:=MD i (ev x) (dw K)
def agJ(T:TypeId)(ps:Array (Nat×Operand))(P:Program)(_:aW)(ev:Operand->af AV)(rd:Nat->af IR)(_:aX)(_:Nat)(K:fB->af α):af α:=MO P ev rd T ps.toList (dw K)
def ahj(T:TypeId)(n:Nat)(ps:Array (Nat×Operand))(P:Program)(_:aW)(ev:Operand->af AV)(rd:Nat->af IR)(_:aX)(nx:Nat)(K:fB->af α):af α:=MF P ev rd nx T n ps.toList K
def aot(T:TypeId)(x y:Operand)(P:Program)(_:aW)(ev:Operand->af AV)(_:Nat->af IR)(_:aX)(nx:Nat)(K:fB->af α):af α:=mkE P nx T (ev x) (ev y) K
def ahd(T:TypeId)(P:Program)(_:aW)(_:Operand->af AV)(_:Nat->af IR)(_:aX)(nx:Nat)(K:fB->af α):af α:=SE P nx T K
def agU(T:TypeId)(x:Operand)(_:Program)(_:aW)(ev:Operand->af AV)(rd:Nat->af IR)(_:aX)(nx:Nat)(K:fB->af α):af α:=NM rd nx T (ev x) K
def Jy(T:TypeId)(x:Operand)(lo hi mx:af Operand)(P:Program)(_:aW)(ev:Operand->af AV)(_:Nat->af IR)(_:aX)(nx:Nat)(K:fB->af α):af α:=match mx with
 |none=>Lm P T (ev x) (lo.map ev) (hi.map ev) (dw K)
 |some (.const (.int _ 0))=>match lo,hi with
  |none,I (.const (.int _ 0))=>emE P nx T (ev x) K
  |_,_=>S
 |_=>S
def vW(b:Builtin)(as0:Array Operand)(ts:Array TypeId)(P:Program)(ev:Operand->af AV)(rd:Nat->af IR)(R:aX)(nx:Nat)(K:fB->af α):af α:=match b with
 | .len=>match as0.toList,ts.toList with
  |[x],[T]=>Lt P rd T (ev x) (dw K)
  |_,_=>S
 | .max=>match as0.toList,ts.toList with
  |[x,y],[_,_]=>mnV J [ev x,ev y] (dw K)
  |_,_=>S
 | .min=>match as0.toList,ts.toList with
  |[x,y],[_,_]=>mnV G [ev x,ev y] (dw K)
  |_,_=>S
 | .append=>match as0.toList,ts.toList with
  |[x,y],[T,T']=>SM P rd nx T T' (ev x) (ev y) K
  |_,_=>S
 | .copy=>match as0.toList,ts.toList with
  |[x,y],[T,_]=>NQ P rd R nx T (ev x) (ev y) K
  |_,_=>S
 |_=>S
def AU(c:Call)(P:Program)(F:aW)(ev:Operand->af AV)(rd:Nat->af IR)(R:aX)(nx:Nat)(K:fB->af α):af α:=match c.callee with
 | .value x=>FO F ev R nx (ev x) c.args.toList K
 | .builtin b=>vW b c.args c.argTypes P ev rd R nx K
 |_=>S
def anK(_:Program)(_:aW)(_:Operand->af AV)(_:Nat->af IR)(_:aX)(_:Nat)(_:fB->af α):af α:=S
def lU(o:Op):Program->aW->(Operand->af AV)->(Nat->af IR)->aX->Nat->(fB->af α)->af α:=match o with
 | .move x=>Qt x
 | .assign x=>Qt x
 | .pick c a b=>tV c a b
 | .binOp b T x y _=>agV b T x y
 | .unOp b _ x=>ap5 b x
 | .convert T T' x=>agY T T' x
 | .nilCheck x=>ahR x
 | .fieldAddr T x i=>ags T x i
 | .indexAddr T x y=>agf T x y
 | .index T x y=>ahK T x y
 | .load T x=>aqO T x
 | .store T x y=>agl T x y
 | .makeFunc f fs cs=>agv f fs cs
 | .extract x i=>ahQ x i
 | .build T ps=>agJ T ps
 | .buildSlice T n ps=>ahj T n ps
 | .makeSlice T x y=>aot T x y
 | .alloc T=>ahd T
 | .box T x=>agU T x
 | .slice T x lo hi mx=>Jy T x lo hi mx
 | .call c=>AU c
 |_=>anK
def Im(P:Program)(F:aW)(ev:Operand->af AV)(rd:Nat->af IR)(R:aX)(nx:Nat)(o:Op)(K:fB->af α):lU o P F ev rd R nx K=Fu P F ev rd R nx o K:=by
 cases o<;>first|rfl|skip
 case call c=>
  obtain⟨cal,as0,ts⟩:=c;cases cal with
  |builtin b=>cases b<;>rfl
  |_=>rfl
end
section
variable {α:Type} {r:α} {P:Program} {F:aW} {o:Oper} {E:Env} {R:aX} {nx:Nat} {ev:Operand->af AV} {rd:Nat->af IR} {K:fB->af α} {C:Cx} {n:Nat}
def aoG{β:Type}{a:Array β}{x:β}(h:a.toList=[x]):a=#[x]:=by rw[<-Array.toArray_toList (xs:=a),h]
def Kg{β:Type}{a:Array β}{x y:β}(h:a.toList=[x,y]):a=#[x,y]:=by rw[<-Array.toArray_toList (xs:=a),h]
def EH(hF:gJ P F)(hs:jt ev rd nx E R){op:Op}(ho:o.op=op)(h:Fu P F ev rd R nx op K=I r):Sv P o E R nx K r:=by
 unfold Fu at h;split at h
 ·obtain⟨d,hd,h⟩:=zn.1 h;exact .pu hs ⟨d,h,hs.qd hd,λρ=> .move ho (hs.eX hd ρ)⟩
 ·obtain⟨d,hd,h⟩:=zn.1 h;exact .pu hs ⟨d,h,hs.qd hd,λρ=> .assign ho (hs.eX hd ρ)⟩
 ·split at h
  ·rename_i hc;obtain⟨d,hd,h⟩:=zn.1 h;exact .pu hs ⟨d,h,hs.qd hd,λρ=> .ao6 ho (by have:=hs.eX hc ρ;rw[bR]at this;exact this) (hs.eX hd ρ)⟩
  ·rename_i hc;obtain⟨d,hd,h⟩:=zn.1 h;exact .pu hs ⟨d,h,hs.qd hd,λρ=> .apf ho (by have:=hs.eX hc ρ;rw[bR]at this;exact this) (hs.eX hd ρ)⟩
  ·cases h
 ·exact .pu hs (ad7 hs ho h)
 ·exact .pu hs (amx hs ho h)
 ·exact .pu hs (aaQ hs ho h)
 ·exact .pu hs (ac8 hs ho h)
 ·exact .pu hs (abv hs ho h)
 ·exact .pu hs (ZB hs ho h)
 ·exact .pu hs (aaB hs ho h)
 ·exact .pu hs (ami hs ho h)
 ·exact adh hs ho h
 ·exact .pu hs (aeg hs ho h)
 ·exact .pu hs (YJ hs ho h)
 ·exact .pu hs (afo hs ho h)
 ·exact ae3 hs ho h
 ·exact aie hs ho h
 ·exact afC hs ho h
 ·exact Z5 hs ho h
 ·split at h
  ·exact .pu hs (aab hs ho h)
  ·split at h
   ·exact ajK hs ho h
   ·cases h
  ·cases h
 ·split at h
  ·rename_i h1 h2;rw[aoG h1,aoG h2]at ho;exact .pu hs (aag hs ho h)
  ·cases h
 ·split at h
  ·rename_i h1 h2;rw[Kg h1,Kg h2]at ho;unfold mnV at h;split at h
   ·rename_i q1;split at h
    ·rename_i hk;subst hk;simp only[List.cons.injEq,and_true]at q1;obtain⟨q1,q2⟩:=q1;exact .pu hs ⟨_,h, .lit λρ=> .max ho (by have:=hs.eX q1 ρ;rw[bR]at this;exact this) (by have:=hs.eX q2 ρ;rw[bR]at this;exact this)⟩
    ·cases h
   ·cases h
  ·cases h
 ·split at h
  ·rename_i h1 h2;rw[Kg h1,Kg h2]at ho;unfold mnV at h;split at h
   ·rename_i q1;split at h
    ·rename_i hk;subst hk;simp only[List.cons.injEq,and_true]at q1;obtain⟨q1,q2⟩:=q1;exact .pu hs ⟨_,h, .lit λρ=> .min ho (by have:=hs.eX q1 ρ;rw[bR]at this;exact this) (by have:=hs.eX q2 ρ;rw[bR]at this;exact this)⟩
    ·cases h
   ·cases h
  ·cases h
 ·split at h
  ·rename_i h1 h2;rw[Kg h1,Kg h2]at ho;exact ZI hs ho h
  ·cases h
 ·split at h
  ·rename_i h1 h2;rw[Kg h1,Kg h2]at ho;exact abU hs ho h
  ·cases h
 ·exact Ym hF hs ho h
 ·cases h
def St.app(s:St)(dst:af Nat)(e:fB):St:=
 {E:=match dst with
   |none=>s.E
   |some t=>match e.vl s.nx with
    |some d=>k8 t d s.E
    |none=>k8 t (.lit undef) s.E
  R:=e.R s.R s.nx
  nx:=e.nx s.nx}
def KS(n:Nat):af Nat->Bool
 |none=>J
 |some t=>zy t n
def jt.of{s:St}(hh:qN s.E E)(hE:E.cI s.nx)(hR:aX.cI s.nx s.R):jt (Dv s.E) (fC s.R) s.nx E s.R:=⟨λx d h=>hh.ev x d h,λ_ _ h=>h,hE,hR⟩
def amy{C:Cg}{s:St}{a:Act}{w:World}{Q:Exit->Act->World->Prop}(hm:Mt C n s a w)(hd:KS n o.dst=J)(h:∀E,jt (Dv s.E) (fC s.R) s.nx E s.R->Sv P o E s.R s.nx K r){K':Act->World->Prop}
  (hK:∀a' w' e,a'.defers=a.defers->K e=I r->s.nx<=e.nx s.nx->Mt C n (s.app o.dst e) a' w'->K' a' w'):o.wp P a w K' Q:=by
 obtain⟨E,hh,hE,hR,ρ,hag,hsim⟩:=hm;have h:=h E (jt.of hh hE hR);unfold Oper.wp;have fin:∀(e:fB) (ρ':Gh) (σ':aa cG) (w':World) (v:Value),s.nx<=e.nx s.nx->aX.cI (e.nx s.nx) (e.R s.R s.nx)->(∀d,e.vl s.nx=I d->cI (e.nx s.nx) d)->pT s.nx ρ ρ'->List.Perm σ' (aX.res ρ' (e.R s.R s.nx))->
   Tr C.C (bF (aX.res ρ s.R)) (aX.res ρ s.R) w σ' w'->(∀d,e.vl s.nx=I d->Rel (al C.C σ') w' (d.sub ρ') v)->(e.vl s.nx=S->v=undef)->Mt C n (s.app o.dst e) (a.put o.dst v) w':=λe ρ' σ' w' v h1 h2 h3 h4 h5 h6 h7 h8=>by
  have hs1:=(hsim.tr h6).perm h5;rw[hE.sub h4]at hs1;have hE':E.cI (e.nx s.nx):=hE.mono h1;have hag':pT C.n C.ρ ρ'/\C.n<=e.nx s.nx:=⟨hag.1.trans h4 hag.2,zH hag.2 h1⟩;have hput:∀(t:Nat) (d:AV),o.dst=I t->cI (e.nx s.nx) d->Rel (al C.C (aX.res ρ' (e.R s.R s.nx))) w' (d.sub ρ') v->Mt C n {E:=k8 t d s.E,R:=e.R s.R s.nx,nx:=e.nx s.nx} (a.put (I t) v) w':=λt d ht hd' hr=>
   ⟨(t,d)::E,hh.put t d,Env.tJ hE' hd',h2,ρ',hag',hs1.put (by rw[ht]at hd;exact hd) hr⟩
  have hsub:∀d,e.vl s.nx=I d->Rel (al C.C (aX.res ρ' (e.R s.R s.nx))) w' (d.sub ρ') v:=λd hd'=>(h7 d hd').mono λb _ hA=>⟨PW h5 b hA,rfl⟩;unfold St.app;cases hdst:o.dst with
  |none=>exact⟨E,hh,hE',h2,ρ',hag',hs1⟩
  |some t=>
   cases hv:e.vl s.nx with
   |some d=>exact hput t d hdst (h3 d hv) (hsub d hv)
   |none=>
    refine hput t (.lit undef) hdst (.lit _) ?_;rw[h8 hv,bR];exact .lit _
 rcases h ρ C.C w a.eval hsim.good hsim.slots.ops with ⟨v,w',av,σ',⟨e,q1,q2,q3,q4,ρ',q5,q6,q7⟩,h2,h3,h4⟩|⟨w',σ',⟨e,q1,q2,q3,q4,ρ',q5,q6,q7⟩,h2,h3⟩|⟨f,args,h1,h2⟩
 ·rw[h3];refine hK _ _ e (by cases o.dst<;>rfl) q1 q2 (fin e ρ' σ' w' v q2 q3 q4 q5 q7 h2 (λd hd'=> ?_) (λhn=> ?_))
  ·rw[hd',yo,zD.injEq]at q6;rw[<-q6];exact h4
  ·rw[hn]at q6;cases q6
 ·rw[h3];refine hK _ _ e (by cases o.dst<;>rfl) q1 q2 (fin e ρ' σ' w' undef q2 q3 q4 q5 q7 h2 (λd hd'=> ?_) (λhn=>rfl));rw[hd']at q6;cases q6
 ·rw[h1];refine Calls.mono h2 λee w' ⟨v,av,σ',q0,⟨e,q1,q2,q3,q4,ρ',q5,q6,q7⟩,h2,h4⟩=> ?_;subst q0;refine hK _ _ e (by cases o.dst<;>rfl) q1 q2 (fin e ρ' σ' w' v q2 q3 q4 q5 q7 h2 (λd hd'=> ?_) (λhn=> ?_))
  ·rw[hd',yo,zD.injEq]at q6;rw[<-q6];exact h4
  ·rw[hn]at q6;cases q6
end
def SO(id t:Nat)(l:aa (U.dc t)):AV->AV
 | .own i=>match zg i id with
  |true=> .sl t l
  |false=> .own i
 |d=>d
def mZ(id t:Nat)(l:aa (U.dc t)):Nat->AV->AV
 |0,d=>d
 |n+1, .agg cs=> .agg (cs.map (mZ id t l n))
 |n+1, .iM cs=> .iM (cs.map (mZ id t l n))
 |n+1, .fn f cs=> .fn f (cs.map (mZ id t l n))
 |_+1,d=>SO id t l d
def sY(id t:Nat)(l:aa (U.dc t)):IR->IR
 | .box T cs=> .box T (cs.map (mZ id t l 3))
 |r=>r
def St.Lb(s:St)(id:Nat):St:=match fC s.R id with
 |some (.row t l)=>{E:=emap (mZ id t l 3) s.E,R:=(jP id s.R).map λp=>(p.1,sY id t l p.2),nx:=s.nx}
 |_=>s
def WC{A:Nat->Prop}{w:World}{id t:Nat}{l:aa (U.dc t)}{ρ:Gh}(hd:Hd A [.row (ρ.v id) t l] w){d:AV}{v:Value}(h:Rel A w (d.sub ρ) v):Rel (λb=>A b\/b∈bF [.row (ρ.v id) t l]) w ((SO id t l d).sub ρ) v:=by
 unfold SO;split
 ·rename_i i;split
  ·rename_i hi;have:=fM hi;subst this;rw[dF]at h;rw[fP];exact Vw.row 0 rfl A w v hd h
  ·exact h.mono λb _ hA=>⟨.inl hA,rfl⟩
 ·exact h.mono λb _ hA=>⟨.inl hA,rfl⟩
def C9{A:Nat->Prop}{w:World}{id t:Nat}{l:aa (U.dc t)}{ρ:Gh}(hd:Hd A [.row (ρ.v id) t l] w):∀(n:Nat) {d:AV} {v:Value},Rel A w (d.sub ρ) v->Rel (λb=>A b\/b∈bF [.row (ρ.v id) t l]) w ((mZ id t l n d).sub ρ) v
 |0,d,v,h=>h.mono λb _ hA=>⟨.inl hA,rfl⟩
 |n+1,d,v,h=>by
  have hL:∀{cs:aa AV} {us:aa Value},bJ A w (cs.map (cc.sub ρ)) us->bJ (λb=>A b\/b∈bF [.row (ρ.v id) t l]) w ((cs.map (mZ id t l n)).map (cc.sub ρ)) us:=λ{cs us} h=>by
   refine⟨by simpa using h.1,λj a v h1 h2=> ?_⟩;rw[yh,ya]at h1;obtain⟨c,hc,rfl⟩:=zk.1 h1;exact C9 hd n (h.2 j _ v (by rw[ya,hc];rfl) h2)
  unfold mZ;split
  ·rename_i h0;cases h0
  ·rename_i cs h0;cases h0;rw[eC]at h ⊢;obtain⟨us,rfl,h2⟩:=h.mV;exact Rel.nE (hL h2)
  ·rename_i cs h0;cases h0;rw[jI]at h ⊢;obtain⟨us,rfl,h2⟩:=h.Lv;exact Rel.Dz (hL h2)
  ·rename_i f cs h0;cases h0;rw[qM]at h ⊢;obtain⟨us,rfl,h2⟩:=h.Ux;exact .fn f _ us (hL h2).1 (hL h2).2
  ·rename_i h0 _ _ _;exact WC hd h
end Go.Iv
end
noncomputable section
namespace Go.Iv
variable [U:qz] [L:mO]
open Go Go.RowKit
section
variable {α β:Type} (D:α->af β)
def W1{b:BinOp}{k:IntKind}{m n:Int}{K:AV->af α}:(UN b k m n K).bind D=UN b k m n (λd=>(K d).bind D):=by
 unfold UN;cases b<;>first|rfl|(dsimp only;split<;>rfl)
def adk{P:Program}{b:BinOp}{T:TypeId}{cs ds:aa AV}{K:AV->af α}:(eqS P b T cs ds K).bind D=eqS P b T cs ds (λd=>(K d).bind D):=by
 unfold eqS;split
 ·split
  ·cases b<;>first|rfl|exact zW ..
  ·rfl
 ·rfl
def II{P:Program}{rd:Nat->af IR}{b:BinOp}{T:TypeId}{x y:af AV}{K:AV->af α}:(J5 P rd b T x y K).bind D=J5 P rd b T x y (λd=>(K d).bind D):=by
 unfold J5
 repeat' split
 all_goals first|rfl|exact W1 D|exact adk D|simp_all
def Qa{b:UnOp}{x:af AV}{K:AV->af α}:(unV b x K).bind D=unV b x (λd=>(K d).bind D):=by
 unfold unV
 repeat' split
 all_goals first|rfl|simp_all
def IM{x:af AV}{K:AV->af α}:(Lz x K).bind D=Lz x (λd=>(K d).bind D):=by
 unfold Lz
 repeat' split
 all_goals first|rfl|simp_all
def IC{P:Program}{T:TypeId}{i:Nat}{x:af AV}{K:AV->af α}:(NU P T i x K).bind D=NU P T i x (λd=>(K d).bind D):=by
 unfold NU
 repeat' split
 all_goals first|rfl|simp_all
def K7{P:Program}{rd:Nat->af IR}{T:TypeId}{x y:af AV}{K:AV->af α}:(NW P rd T x y K).bind D=NW P rd T x y (λd=>(K d).bind D):=by
 unfold NW
 repeat' split
 all_goals first|rfl|simp_all
def Pa{P:Program}{rd:Nat->af IR}{T:TypeId}{x:af AV}{K:AV->af α}:(ldV P rd T x K).bind D=ldV P rd T x (λd=>(K d).bind D):=by
 unfold ldV
 repeat' split
 all_goals first|rfl|exact zW .. |simp_all
def UD{P:Program}{ev:Operand->af AV}{rd:Nat->af IR}{T:TypeId}{ps:aa (Nat×Operand)}{K:AV->af α}:(MO P ev rd T ps K).bind D=MO P ev rd T ps (λd=>(K d).bind D):=by
 unfold MO
 repeat' split
 all_goals first|rfl|exact zW .. |simp_all
def J8{P:Program}{rd:Nat->af IR}{T T':TypeId}{x:af AV}{K:AV->af α}:(L6 P rd T T' x K).bind D=L6 P rd T T' x (λd=>(K d).bind D):=by
 unfold L6
 repeat' split
 all_goals first|rfl|exact zW .. |simp_all
def ID{i:Nat}{x:af AV}{K:AV->af α}:(MD i x K).bind D=MD i x (λd=>(K d).bind D):=by
 unfold MD
 repeat' split
 all_goals first|rfl|exact zW .. |simp_all
def XC{ev:Operand->af AV}{f:Go.Fn}{fs cs:aa Operand}{K:AV->af α}:(LF ev f fs cs K).bind D=LF ev f fs cs (λd=>(K d).bind D):=by
 unfold LF
 repeat' split
 all_goals first|rfl|exact zW .. |simp_all
def JJ{P:Program}{T:TypeId}{x y:af AV}{K:AV->af α}:(LI P T x y K).bind D=LI P T x y (λd=>(K d).bind D):=by
 unfold LI
 repeat' split
 all_goals first|rfl|exact zW .. |simp_all
def TL{P:Program}{T:TypeId}{x:af AV}{lo hi:af (af AV)}{K:AV->af α}:(Lm P T x lo hi K).bind D=Lm P T x lo hi (λd=>(K d).bind D):=by
 unfold Lm
 repeat' split
 all_goals first|rfl|exact zW .. |simp_all
def JM{P:Program}{rd:Nat->af IR}{T:TypeId}{x:af AV}{K:AV->af α}:(Lt P rd T x K).bind D=Lt P rd T x (λd=>(K d).bind D):=by
 unfold Lt
 repeat' split
 all_goals first|rfl|exact zW .. |simp_all
def V2{P:Program}{nx:Nat}{T:TypeId}{K:fB->af α}:(SE P nx T K).bind D=SE P nx T (λd=>(K d).bind D):=by
 unfold SE;exact zW ..
def XZ{rd:Nat->af IR}{nx:Nat}{T:TypeId}{x:af AV}{K:fB->af α}:(NM rd nx T x K).bind D=NM rd nx T x (λd=>(K d).bind D):=by
 unfold NM
 repeat' split
 all_goals first|rfl|exact zW .. |simp_all
def UB{P:Program}{rd:Nat->af IR}{T:TypeId}{x y:af AV}{K:fB->af α}:(LL P rd T x y K).bind D=LL P rd T x y (λd=>(K d).bind D):=by
 unfold LL
 repeat' split
 all_goals first|rfl|exact zW .. |simp_all
def UW{P:Program}{rd:Nat->af IR}{R:aX}{nx:Nat}{T:TypeId}{x y:af AV}{K:fB->af α}:(NQ P rd R nx T x y K).bind D=NQ P rd R nx T x y (λd=>(K d).bind D):=by
 unfold NQ;split
 ·split
  ·split
   ·split
    ·rw[zW]
     congr 1
     funext l
     rw[zW]
     congr 1
     funext l2
     split<;>rfl
    ·rfl
   ·rfl
  ·rfl
 ·rfl
def Vn{P:Program}{ev:Operand->af AV}{rd:Nat->af IR}{nx:Nat}{T:TypeId}{n:Nat}{ps:aa (Nat×Operand)}{K:fB->af α}:(MF P ev rd nx T n ps K).bind D=MF P ev rd nx T n ps (λd=>(K d).bind D):=by
 unfold MF;split
 ·split
  ·split
   ·split<;>rfl
   ·split
    ·split
     ·rw[zW]
      congr 1
      funext cs
      split
      ·exact zW ..
      ·rfl
     ·rfl
    ·rfl
  ·rfl
 ·rfl
def aas{P:Program}{nx:Nat}{T:TypeId}{x y:af AV}{K:fB->af α}:(mkE P nx T x y K).bind D=mkE P nx T x y (λd=>(K d).bind D):=by
 unfold mkE;split
 ·split
  ·split
   ·rw[zW]
    congr 1
    funext d
    split<;>rfl
   ·rfl
  ·rfl
 ·rfl
def ZY{P:Program}{nx:Nat}{T:TypeId}{x:af AV}{K:fB->af α}:(emE P nx T x K).bind D=emE P nx T x (λd=>(K d).bind D):=by
 unfold emE
 repeat' split
 all_goals first|rfl|simp_all
def VT{P:Program}{T:TypeId}{K:Nat->aa Value->af α}:(R7 P T K).bind D=R7 P T (λe zs=>(K e zs).bind D):=by
 unfold R7
 repeat' split
 all_goals first|rfl|simp_all
def KN{P:Program}{rd:Nat->af IR}{e:Nat}{zs:aa Value}{T' T:TypeId}{y:af AV}{K:aa (U.dc e)->af α}:(Ni P rd e zs T' T y K).bind D=Ni P rd e zs T' T y (λd=>(K d).bind D):=by
 unfold Ni;split
 ·exact zW ..
 ·split
  ·split
   ·rw[zW]
    congr 1
    funext d
    split<;>rfl
   ·rfl
  ·rfl
def TM{P:Program}{rd:Nat->af IR}{nx:Nat}{T T':TypeId}{x y:af AV}{K:fB->af α}:(SM P rd nx T T' x y K).bind D=SM P rd nx T T' x y (λd=>(K d).bind D):=by
 unfold SM;rw[VT]
 congr 1
 funext e zs
 split
 ·rw[KN]
  congr 1
  funext l2
  split<;>rfl
 ·split
  ·rw[zW]
   congr 1
   funext l
   rw[KN]
   congr 1
   funext l2
   split<;>rfl
  ·rfl
 ·rfl
def Am{mx:Bool}{xs:aa (af AV)}{K:AV->af α}:(mnV mx xs K).bind D=mnV mx xs (λd=>(K d).bind D):=by
 unfold mnV;split
 ·split
  ·cases mx<;>rfl
  ·rfl
 ·rfl
def dH(F:aW):Prop:=∀(α β:Type) f args R nx (k:AV->aX->Nat->af α) (D:α->af β),(F α f args R nx k).bind D=F β f args R nx (λd R nx=>(k d R nx).bind D)
structure aV (P:Program) (F:aW):Prop where
 ok:gJ P F
 nat:dH F
def Vz{F:aW}(hF:dH F){ev:Operand->af AV}{R:aX}{nx:Nat}{x:af AV}{xs:aa Operand}{K:fB->af α}:(FO F ev R nx x xs K).bind D=FO F ev R nx x xs (λd=>(K d).bind D):=by
 unfold FO;split
 ·rw[zW]
  congr 1
  funext as0
  exact hF ..
 ·rfl
def vE{F:aW}(hF:dH F)(o:Op)(P:Program)(ev:Operand->af AV)(rd:Nat->af IR)(R:aX)(nx:Nat)(K:fB->af α):(lU o P F ev rd R nx K).bind D=lU o P F ev rd R nx (λe=>(K e).bind D):=by
 have hP:(λd=>(dw K d).bind D)=dw (λe=>(K e).bind D):=rfl;cases o<;>first|rfl|exact zW .. |exact Qa D|exact J8 D|exact IM D|exact IC D|exact K7 D|exact JJ D|exact Pa D|exact UB D|exact XC D|exact ID D|exact UD D|exact Vn D|exact aas D|exact V2 D|exact XZ D|skip
 case pick c a b=>
  show (tV c a b P F ev rd R nx K).bind D=tV c a b P F ev rd R nx _;unfold tV;split
  ·exact zW ..
  ·exact zW ..
  ·rfl
 case binOp b T x y t=>exact II D
 case slice T x lo hi mx=>
  show (Jy T x lo hi mx P F ev rd R nx K).bind D=Jy T x lo hi mx P F ev rd R nx _;unfold Jy;split
  ·exact TL D
  ·split
   ·exact ZY D
   ·rfl
  ·rfl
 case call c=>
  show (AU c P F ev rd R nx K).bind D=AU c P F ev rd R nx _;unfold AU;split
  ·exact Vz D hF
  ·unfold vW;split
   ·split
    ·exact JM D
    ·rfl
   ·split
    ·exact Am D
    ·rfl
   ·split
    ·exact Am D
    ·rfl
   ·split
    ·exact TM D
    ·rfl
   ·split
    ·exact UW D
    ·rfl
   ·rfl
  ·rfl
end
end Go.Iv
end
noncomputable section
namespace Go.Iv
variable [U:qz]
open Go Go.RowKit Go.Shelf Go.Proofs
section
variable {P:Program} {C:Cx} {n:Nat} {c x y:Code} {Q Q':Exit->Env->aa cG->Prop} {E E':Env} {σ σ':aa cG}
end
def Vw.box{σ:aa cG}{b:Nat}{T:TypeId}{cs:aa AV}(i:Nat)(hσ:σ[i]? =I (.box b T cs)):Vw σ (.lit (.pointer (I ⟨b,0,S⟩))) (.fp cs):=λA w v hd hr=>by
 have hv:=hr.cH;subst hv;have hm:=List.mem_of_getElem? hσ;obtain⟨us,h1,h2⟩:=hd.1 _ hm;exact .fp cs b 0 us h1.lt (.inr (bS.2 ⟨_,hm,rfl⟩)) h2.1 (λj v hj=>by rw[yw];exact h1.cell (by simpa using hj)) (λj a v q1 q2=>(h2.2 j a v q1 q2).mono λb _ hA=>⟨.inl hA,rfl⟩)
def Lay(C:Cx)(σ:aa cG)(w:World)(σ':aa cG)(W:World):Prop:=∀b,b<w.heap.size->al C σ b->al C σ' b/\W.heap[b]? =w.heap[b]?
def Mid(C:Cx)(σ:aa cG)(w:World)(za:aa cG->Prop)(W:World):Prop:=
 ∃σ',za σ'/\Good C σ' W/\Lay C σ w σ' W/\w.heap.size<=W.heap.size
end Go.Iv
end
noncomputable section
namespace Go.Iv
variable [U:qz] [L:mO]
open Go Go.RowKit
def ou{id t m:Nat}{l:aa (U.dc t)}:∀(n:Nat) {d:AV},cI m d->cI m (mZ id t l n d)
 |0,d,h=>h
 |n+1,d,h=>by
  have hL:∀{cs:aa AV},(∀c∈cs,cI m c)->∀c∈cs.map (mZ id t l n),cI m c:=λh c hc=>by
   obtain⟨c',h1,rfl⟩:=zL.1 hc;exact ou n (h c' h1)
  unfold mZ;split
  ·rename_i h0;cases h0
  ·rename_i h0;cases h0;exact .agg _ (hL h.nE)
  ·rename_i h0;cases h0;exact .iM _ (hL h.Dz)
  ·rename_i h0;cases h0;exact .fn _ _ (hL h.fnL)
  ·unfold SO;split
   ·split
    ·exact .sl _ _
    ·exact h
   ·exact h
def tF{f:AV->AV}(t:Nat):∀(E:Env),Env.get (E.map λp=>(p.1,f p.2)) t=(E.get t).map f
 |[]=>rfl
 |(k,v)::E=>by
  show Env.get ((k,f v)::E.map λp=>(p.1,f p.2)) t=_;unfold Env.get;cases hb:zg k t with
  |true=>rfl
  |false=>exact tF t E
section
variable {α:Type} {r:α} {P:Program} {F:aW} {o:Oper} {C:Cg} {n:Nat} {s:St} {a:Act} {w:World}
def Mt.Lb(h:Mt C n s a w)(id:Nat):Mt C n (s.Lb id) a w:=by
 unfold St.Lb;split
 case h_2=>exact h
 rename_i t l hr;obtain⟨E,hh,hE,hR,ρ,hag,hsim⟩:=h;obtain⟨i,hi1,_,hi3⟩:=dV hr;have hres:=gC (ρ:=ρ) hi1;have hg:=hsim.good;have hd:Hd (al C.C (aX.res ρ s.R)) [.row (ρ.v id) t l] w:=⟨λr hr=>by
   rw[zJ]at hr;rw[hr];exact hg.res _ (List.mem_of_getElem? hres),λb hb hA=>hA.2 (by
   obtain⟨r,h1,h2⟩:=bS.1 hb;rw[zJ]at h1;rw[h1]at h2;exact bS.2 ⟨_,List.mem_of_getElem? hres,h2⟩)⟩
 have hle:=JQ (C:=C.C) hres hg;have hbk:bF (aX.res ρ ((jP id s.R).map λp=>(p.1,sY id t l p.2)))=bF ((aX.res ρ s.R).eraseIdx i):=by
  rw[<-uJ,<-hi3];unfold bF aX.res;rw[yh,List.filterMap_map,List.filterMap_map]
  congr 1
  funext p
  obtain⟨q,rr⟩:=p;cases rr<;>rfl
 have hal:∀b,(al C.C (aX.res ρ s.R) b\/b∈bF [cG.row (ρ.v id) t l])->al C.C (aX.res ρ ((jP id s.R).map λp=>(p.1,sY id t l p.2))) b:=λb hb=>by
  have:=hle b hb;exact⟨this.1,by rw[hbk];exact this.2⟩
 have hrel:∀{d:AV} {v:Value},Rel (al C.C (aX.res ρ s.R)) w (d.sub ρ) v->Rel (al C.C (aX.res ρ ((jP id s.R).map λp=>(p.1,sY id t l p.2)))) w ((mZ id t l 3 d).sub ρ) v:=λh=>
  (C9 hd 3 h).mono λb _ hA=>⟨hal b hA,rfl⟩
 refine⟨E.map λp=>(p.1,mZ id t l 3 p.2),λk d hk=> ?_,λp hp=> ?_,λp hp=> ?_,ρ,hag,hsim.defers.step (λb _ hA=>⟨hal b (.inl hA),rfl⟩),hsim.size,λk av hk=> ?_,⟨hg.kept,λrr hrr=> ?_,?_,λb hb=> ?_⟩⟩
 ·have hk':cJ (emap (mZ id t l 3) s.E) k=I d:=hk;rw[sq]at hk';obtain⟨d',h1,rfl⟩:=zk.1 hk';rw[tF,hh k d' h1];rfl
 ·obtain⟨p',h1,rfl⟩:=zL.1 hp;exact ou 3 (hE p' h1)
 ·obtain⟨p',h1,rfl⟩:=zL.1 hp;have h2:=De (id:=id) hR p' h1;refine⟨h2.1,?_⟩;obtain⟨q,rr⟩:=p';cases rr with
  |row t' l'=>trivial
  |box T cs=>
   intro c hc;obtain⟨c',h3,rfl⟩:=zL.1 hc;exact ou 3 (h2.2 c' h3)
 ·rw[Env.eF,tF]at hk;obtain⟨d',h1,rfl⟩:=zk.1 hk;obtain⟨d,h2,rfl⟩:=zk.1 h1;obtain⟨v,h3,h4⟩:=hsim.slots k (d.sub ρ) (by rw[Env.eF,h2];rfl);exact⟨v,h3,hrel h4⟩
 ·obtain⟨p,h1,rfl⟩:=zL.1 hrr;obtain⟨p',h2,rfl⟩:=zL.1 h1;have hm:p'.2.res ρ p'.1∈aX.res ρ s.R:=by
   rw[hi3]at h2;exact zL.2 ⟨p',List.mem_of_mem_eraseIdx h2,rfl⟩
  have h3:=hg.res _ hm;obtain⟨q,rr⟩:=p';cases rr with
  |row t' l'=>exact h3.mono (λb _ hA=>⟨hal b (.inl hA),rfl⟩) (λ_ _=>rfl)
  |box T cs=>
   obtain⟨us,h4,h5⟩:=h3;refine⟨us,h4,by simpa using h5.1,λj av v q1 q2=> ?_⟩;rw[yh,ya]at q1;obtain⟨c,hc,rfl⟩:=zk.1 q1;exact hrel (h5.2 j (c.sub ρ) v (by rw[ya,hc];rfl) q2)
 ·rw[hbk];exact hg.DS.sublist ((wA _ _).filterMap _)
 ·rw[hbk]at hb;exact hg.own b (oz (λr hr=>(wA _ _).subset hr) b hb)
def St.jB(s:St)(ids:aa Nat):St:=match ids with
 |[]=>s
 |i::is=>(s.Lb i).jB is
def Mt.jB:∀(ids:aa Nat) {s:St},Mt C n s a w->Mt C n (s.jB ids) a w
 |[],_,h=>h
 |i::is,_,h=>Mt.jB is (h.Lb i)
def aly:AV->aa Nat
 | .own id=>[id]
 | .agg cs=>cs.filterMap λc=>match c with
  | .own id=>I id
  |_=>S
 |_=>[]
def WE(E:ET)(x:Operand):aa Nat:=match Dv E x with
 |some d=>aly d
 |none=>[]
def hU(E:ET):Op->aa Nat
 | .buildSlice _ _ ps=>ps.toList.flatMap λp=>WE E p.2
 | .store T x v=>match L.fz (Nat.add 1000000 T)with
  |true=>WE E v
  |false=>match Dv E x with
   |some (.ra _ _ _ _)=>WE E v
   |_=>[]
 | .slice _ x _ _ S=>WE E x
 | .call c=>match c.callee with
  | .value (.func f)=>match L.fz f with
   |true=>c.args.toList.flatMap (WE E)
   |false=>[]
  |_=>[]
 |_=>[]
def St.fy(s:St)(t:Nat)(b:Bool):St:={s with E:=k8 t (.b b) s.E}
def Mt.fy{t:Nat}{b:Bool}(h:Mt C n s a w)(ht:cJ s.E t=I (.lit (.bool b))):Mt C n (s.fy t b) a w:=by
 obtain⟨E,hh,hE,hR,ρ,hag,hsim⟩:=h;refine⟨E,λk d hk=> ?_,hE,hR,ρ,hag,hsim⟩;have hk':cJ (k8 t (.b b) s.E) k=I d:=hk;rcases o8 hk' with ⟨rfl,rfl⟩|⟨_,h2⟩
 ·exact hh _ _ ht
 ·exact hh k d h2
def gate(ops:Array Oper)(o:Oper)(s:St)(yes no:St->af α):af α:=match o.guard with
 |none=>yes s
 |some (j,want)=>match (ops[j]?).bind (·.dst)with
  |none=>S
  |some t=>match cJ s.E t with
   |some (.lit (.bool b))=>match b with
    |true=>match want with
     |true=>yes (s.fy t J)
     |false=>no (s.fy t J)
    |false=>match want with
     |true=>no (s.fy t G)
     |false=>yes (s.fy t G)
   |some (.lit (.tuple _))=>no s
   |_=>S
def Eo{ops:Array Oper}{j t:Nat}{want:Bool}{ρ:Gh}(hg:o.guard=I (j,want))(hj:(ops[j]?).bind (·.dst)=I t){E:Env}:
  (∀b,E.get t=I (.lit (.bool b))->nM (E.sub ρ) o ops=I (b==want))/\(∀vs,E.get t=I (.lit (.tuple vs))->nM (E.sub ρ) o ops=I G):=by
 constructor
 ·intro b hb;unfold nM;rw[hg];simp only[hj,Env.eF,hb,yo,bR]
 ·intro vs hb;unfold nM;rw[hg];simp only[hj,Env.eF,hb,yo,bR]
def ad6{ops:Array Oper}{yes no:St->af α}(h:gate ops o s yes no=I r)(hm:Mt C n s a w):∃s',Mt C n s' a w/\
  ((Region.wanted o (yielded ops a.tmps)=J/\yes s'=I r)\/(Region.wanted o (yielded ops a.tmps)=G/\no s'=I r)):=by
 unfold gate at h;split at h
 ·rename_i hg;exact⟨s,hm, .inl ⟨by simp[Region.wanted,hg],h⟩⟩
 ·rename_i j want hg;split at h
  ·cases h
  ·rename_i t hj;have hspec:∀{s':St},Mt C n s' a w->(∀b,cJ s'.E t=I (.lit (.bool b))->Region.wanted o (yielded ops a.tmps)=(b==want))/\(∀vs,cJ s'.E t=I (.lit (.tuple vs))->Region.wanted o (yielded ops a.tmps)=G):=λ{s'} hm'=>by
    obtain⟨E,hh,_,_,ρ,_,hsim⟩:=hm';obtain⟨h1,h2⟩:=Eo (ρ:=ρ) hg hj (E:=E);exact⟨λb hb=>nM.spec hsim.slots (h1 b (hh _ _ hb)),λvs hv=>nM.spec hsim.slots (h2 vs (hh _ _ hv))⟩
   split at h
   ·rename_i b hb;have hw:=(hspec hm).1 b hb;split at h
    ·split at h
     ·exact⟨_,hm.fy hb, .inl ⟨hw,h⟩⟩
     ·exact⟨_,hm.fy hb, .inr ⟨hw,h⟩⟩
    ·split at h
     ·exact⟨_,hm.fy hb, .inr ⟨hw,h⟩⟩
     ·exact⟨_,hm.fy hb, .inl ⟨hw,h⟩⟩
   ·rename_i vs hb;exact⟨s,hm, .inr ⟨(hspec hm).2 vs hb,h⟩⟩
   ·cases h
def wP(o:Op)(s:St)(f:St->af α):af α:=match o with
 | .pick (.tmp t) _ _=>match cJ s.E t with
  |some (.lit (.bool b))=>match b with
   |true=>f (s.fy t J)
   |false=>f (s.fy t G)
  |_=>S
 |_=>f s
def TW{op:Op}{f:St->af α}(h:wP op s f=I r)(hm:Mt C n s a w):∃s',Mt C n s' a w/\f s'=I r:=by
 unfold wP at h;split at h
 ·split at h
  ·rename_i b hb;split at h
   ·exact⟨_,hm.fy hb,h⟩
   ·exact⟨_,hm.fy hb,h⟩
  ·cases h
 ·exact⟨s,hm,h⟩
def qx(dst:af Nat)(d:AV)(E:ET):ET:=match dst with
 |none=>E
 |some t=>k8 t d E
def FE(dst:af Nat)(E:ET)(R:aX)(nx:Nat)(ih:St->(St->af α)->af α)(k:St->af α)(e:fB):af α:=match e with
 | .val d=>ih ⟨qx dst d E,R,nx⟩ k
 | .new d r=>ih ⟨qx dst d E,(nx,r)::R,nx+1⟩ k
 | .set id r=>ih ⟨qx dst (.lit undef) E,rJ id r R,nx⟩ k
 | .grow id r=>ih ⟨qx dst (.own nx) E,(nx,r)::jP id R,nx+1⟩ k
 | .all d R' m=>ih ⟨qx dst d E,R',m⟩ k
def Y1(dst:af Nat)(s:St)(ih:St->(St->af α)->af α)(k:St->af α):FE dst s.E s.R s.nx ih k=λe=>ih (s.app dst e) k:=by
 funext e
 cases e<;>cases dst<;>rfl
def ajQ(P:Program)(F:aW)(o:Oper)(ih:St->(St->af α)->af α)(k:St->af α)(s:St):af α:=St.rec (λE R nx=>lU o.op P F (Dv E) (fC R) R nx (FE o.dst E R nx ih k)) s
def rDo(P:Program)(F:aW)(o:Oper)(ih:St->(St->af α)->af α)(k:St->af α)(s:St):af α:=ajQ P F o ih k (s.jB (hU s.E o.op))
abbrev OpK(α:Type):=Program->aW->af Nat->ET->aX->Nat->(St->(St->af α)->af α)->(St->af α)->af α
abbrev StT(α:Type):=Program->aW->(Operand->af AV)->(Nat->af IR)->aX->Nat->(fB->af α)->af α
def EM(f:StT α):OpK α:=λP F dst E R nx ih k=>f P F (Dv E) (fC R) R nx (FE dst E R nx ih k)
def stZ(ids:ET->aa Nat)(f:StT α):OpK α:=λP F dst E R nx ih k=>St.rec (λE R nx=>f P F (Dv E) (fC R) R nx (FE dst E R nx ih k)) (St.jB ⟨E,R,nx⟩ (ids E))
def ayD(c a b:Operand):OpK α:=match c with
 | .tmp t=>λP F dst E R nx ih k=>match cJ E t with
  |some (.lit (.bool v))=>match v with
   |true=>EM (tV (.tmp t) a b) P F dst (k8 t (.b J) E) R nx ih k
   |false=>EM (tV (.tmp t) a b) P F dst (k8 t (.b G) E) R nx ih k
  |_=>S
 |c=>EM (tV c a b)
def opF(o:Op):OpK α:=match o with
 | .move x=>EM (Qt x)
 | .assign x=>EM (Qt x)
 | .pick c a b=>ayD c a b
 | .binOp b T x y _=>EM (agV b T x y)
 | .unOp b _ x=>EM (ap5 b x)
 | .convert T T' x=>EM (agY T T' x)
 | .nilCheck x=>EM (ahR x)
 | .fieldAddr T x i=>EM (ags T x i)
 | .indexAddr T x y=>EM (agf T x y)
 | .index T x y=>EM (ahK T x y)
 | .load T x=>EM (aqO T x)
 | .store T x y=>stZ (λE=>hU E (.store T x y)) (agl T x y)
 | .makeFunc f fs cs=>EM (agv f fs cs)
 | .extract x i=>EM (ahQ x i)
 | .build T ps=>EM (agJ T ps)
 | .buildSlice T n ps=>stZ (λE=>hU E (.buildSlice T n ps)) (ahj T n ps)
 | .makeSlice T x y=>EM (aot T x y)
 | .alloc T=>EM (ahd T)
 | .box T x=>EM (agU T x)
 | .slice T x lo hi mx=>stZ (λE=>hU E (.slice T x lo hi mx)) (Jy T x lo hi mx)
 | .call c=>stZ (λE=>hU E (.call c)) (AU c)
 |_=>EM anK
def Ie(P:Program)(F:aW)(o:Oper)(s:St)(ih:St->(St->af α)->af α)(k:St->af α):opF o.op P F o.dst s.E s.R s.nx ih k=wP o.op s (rDo P F o ih k):=by
 unfold rDo ajQ wP;cases h:o.op<;>first|rfl|skip
 case pick c a b=>
  cases c<;>rfl
def at2(P:Program)(F:aW)(o:Oper)(ih:St->(St->af α)->af α)(k:St->af α)(s:St):af α:=St.rec (λE R nx=>opF o.op P F o.dst E R nx ih k) s
def rNo(dst:af Nat)(ih:St->(St->af α)->af α)(k:St->af α)(s:St):af α:=match dst with
 |some t=>ih {s with E:=k8 t (.lit undef) s.E} k
 |none=>ih s k
def JX(P:Program)(F:aW)(n:Nat)(ops:Array Oper)(o:Oper)(ih:St->(St->af α)->af α)(s:St)(k:St->af α):af α:=match KS n o.dst with
 |true=>gate ops o s (at2 P F o ih k) (rNo o.dst ih k)
 |false=>S
def ep(P:Program)(F:aW)(n:Nat)(ops:Array Oper)(l:aa Oper):St->(St->af α)->af α:=List.rec (λs k=>k s) (λo _ ih=>JX P F n ops o ih) l
def AS(hF:gJ P F){ops:Array Oper}{k:St->af α}:∀(rest:aa Oper) {s:St} {a:Act} {w:World},ep P F n ops rest s k=I r->Mt C n s a w->
  wpList P ops (λe a' w'=>e= .normal/\a'.defers=a.defers/\∃s',k s'=I r/\Mt C n s' a' w') rest a w
 |[],s,a,w,h,hm=>⟨rfl,rfl,s,h,hm⟩
 |o::rest,s,a,w,h,hm=>by
  change JX P F n ops o (ep P F n ops rest) s k=I r at h;unfold JX at h;split at h
  case h_2=>cases h
  rename_i hd;refine wpList_step λK' hK=> ?_;have cont:∀{s':St} {a':Act} {w':World},a'.defers=a.defers->ep P F n ops rest s' k=I r->Mt C n s' a' w'->K' a' w':=λ{s' a' w'} hda h1 h2=>hK _ _ (by
   have:=AS hF rest h1 h2;rw[hda]at this;exact this)
  obtain⟨s1,hm1,⟨hw,h1⟩|⟨hw,h1⟩⟩:=ad6 h hm
  ·rw[bD hw];have h1':opF o.op P F o.dst s1.E s1.R s1.nx (ep P F n ops rest) k=I r:=h1;rw[Ie]at h1';obtain⟨s2,hm2,h2⟩:=TW h1' hm1;unfold rDo at h2;have e2:∀s:St,ajQ P F o (ep P F n ops rest) k s=Fu P F (Dv s.E) (fC s.R) s.R s.nx o.op (λe=>ep P F n ops rest (s.app o.dst e) k):=λs=>by
    show lU o.op P F (Dv s.E) (fC s.R) s.R s.nx (FE o.dst s.E s.R s.nx (ep P F n ops rest) k)=_;rw[Im,Y1]
   rw[e2]at h2;have hm3:=Mt.jB (hU s2.E o.op) hm2;exact amy (K:=λe=>ep P F n ops rest ((s2.jB (hU s2.E o.op)).app o.dst e) k) (r:=r) hm3 hd (λE hs=>EH hF hs rfl h2) λa' w' e q1 q2 _ q4=>cont q1 q2 q4
  ·rw[bL (by rw[hw];exact Bool.false_ne_true)];cases hdst:o.dst with
   |none=>
    rw[hdst]at h1;exact cont rfl h1 hm1
   |some t=>
    rw[hdst]at h1 hd;obtain⟨E,hh,hE,hR,ρ,hag,hsim⟩:=hm1;exact cont rfl h1 ⟨(t, .lit undef)::E,hh.put t _,Env.tJ hE (.lit _),hR,ρ,hag,by
     have:=hsim.put (av:= .lit undef) (v:=undef) hd (.lit _);show rU C.C n ((t,cc.sub ρ (.lit undef))::E.sub ρ) _ _ _;rw[bR];exact this⟩
end
def InL(P:Program)(c:Code)(Q:Exit->Act->World->Prop)(a:Act)(w:World):Prop:=
 ∀(b:Frame) (k:aa Item) (cs:aa Frame),∃e a' w',Q e a' w'/\Arrives P (lone (b.at a (.inLoop c::k)) cs w) b k cs e a' w'
def Ee{P:Program}{c:Code}{Q:Exit->Act->World->Prop}{a:Act}{w:World}(h:c.wp P (Exit.then (InL P c Q) Q) a w)(b:Frame)(k:aa Item)(cs:aa Frame):
  ∃e a' w',Q e a' w'/\Arrives P (lone (b.at a (.code c:: .inLoop c::k)) cs w) b k cs e a' w':=by
 obtain⟨e,a₁,w₁,hq,harr⟩:=h b (.inLoop c::k) cs;cases e with
 |normal=>
  obtain⟨e₂,a₂,w₂,hq₂,harr₂⟩:=hq b k cs;exact⟨e₂,a₂,w₂,hq₂, .of_steps harr harr₂⟩
 |exit id=>exact⟨_,a₁,w₁,hq, .pass (x:= .inLoop c) rfl (λ_ _=> .inl (by simp)) harr⟩
 |goto l=>exact⟨_,a₁,w₁,hq, .pass (x:= .inLoop c) rfl (λ_ _=> .inl (by simp)) harr⟩
 |ret=>exact⟨_,a₁,w₁,hq, .pass (x:= .inLoop c) rfl (λ_ _=> .inl (by simp)) harr⟩
 |panic ch=>exact⟨_,a₁,w₁,hq, .pass (x:= .inLoop c) rfl (λ_ _=> .inl (by simp)) harr⟩
 |outgrown=>exact⟨_,a₁,w₁,hq, .pass (x:= .inLoop c) rfl (λ_ _=> .inl (by simp)) harr⟩
def DM{P:Program}{c:Code}{Q:Exit->Act->World->Prop}{a:Act}{w:World}(h:c.wp P (Exit.then (InL P c Q) Q) a w):(Code.loop c).wp P Q a w:=λb k cs=>
 let ⟨e,a',w',hq,harr⟩:=Ee h b k cs
 ⟨e,a',w',hq, .of_steps (.one step_loop) harr⟩
def JK{P:Program}{c:Code}{Q:Exit->Act->World->Prop}{a:Act}{w:World}(h:c.wp P (Exit.then (InL P c Q) Q) a w):InL P c Q a w:=λb k cs=>
 let ⟨e,a',w',hq,harr⟩:=Ee h b k cs
 ⟨e,a',w',hq, .of_steps (.one step_inLoop) harr⟩
section
variable {α:Type} {r:α} {P:Program} {F:aW} {C:Cx} {n:Nat}
abbrev fL(α:Type):=Exit->St->af α
def JC(k:fL α)(ih:St->af α):fL α:=λe s=>match e with
 | .normal=>ih s
 |e=>k e s
def Bk(b:St->fL α->af α)(k:fL α)(m:Nat):St->af α:=Nat.rec (λ_=>S) (λ_ ih s=>b s (JC k ih)) m
def Wo(b:Bool)(t:Nat)(s:St)(x y:St->af α):af α:=match b with
 |true=>x (s.fy t J)
 |false=>y (s.fy t G)
def ot(c:Operand)(s:St)(x y:St->af α):af α:=match c with
 | .tmp t=>match cJ s.E t with
  |some (.lit (.bool b))=>Wo b t s x y
  |_=>S
 | .const (.bool J)=>x s
 | .const (.bool G)=>y s
 |_=>S
def aem(y:St->fL α->af α)(k:fL α):fL α:=λe s=>match e with
 | .normal=>y s k
 |e=>k e s
def qW(id:Nat)(k:fL α):fL α:=λe s=>match e with
 | .exit i=>match zg i id with
  |true=>k .normal s
  |false=>k (.exit i) s
 |e=>k e s
def Ub(s:St)(k:fL α):af α:=k .normal s
def atM(x y:St->fL α->af α)(s:St)(k:fL α):af α:=x s (aem y k)
def aif(c:Operand)(x y:St->fL α->af α)(s:St)(k:fL α):af α:=ot c s (λs=>x s k) (λs=>y s k)
def acd(id:Nat)(x:St->fL α->af α)(s:St)(k:fL α):af α:=x s (qW id k)
def UP(fuel:Nat)(x:St->fL α->af α)(s:St)(k:fL α):af α:=Bk x k fuel s
def WJ(i:Nat)(s:St)(k:fL α):af α:=k (.exit i) s
def agB(s:St)(k:fL α):af α:=k .ret s
def DA(_:St)(_:fL α):af α:=S
def Vq(P:Program)(s:St):ResultVar->af AV
 | .tmp t=>cJ s.E t
 | .cell t ty=>match cJ s.E t with
  |some (.ptr id 0)=>match fC s.R id with
   |some (.box _ cs)=>match SZ P ty with
    |true=>cs[0]?
    |false=>match QG P ty with
     |some m=>match zg cs.length m with
      |true=>I (.agg cs)
      |false=>S
     |none=>S
   |_=>S
  |_=>S
def DH(P:Program)(s:St):aa ResultVar->af (aa AV)
 |[]=>I []
 |x::xs=>match Vq P s x with
  |some d=>(DH P s xs).map λds=>d::ds
  |none=>S
def fZ:aa AV->AV
 |[d]=>d
 |ds=> .iM ds
def lR:Nat->AV->aa Nat
 |_, .own id=>[id]
 |_, .ptr id _=>[id]
 |_, .ra id _ _ _=>[id]
 |n+1, .agg cs=>cs.flatMap (lR n)
 |n+1, .iM cs=>cs.flatMap (lR n)
 |n+1, .fn _ cs=>cs.flatMap (lR n)
 |_,_=>[]
def dh(i:Nat):aa Nat->Bool
 |[]=>G
 |j::js=>match zg i j with
  |true=>J
  |false=>dh i js
def ayw(R:aX)(ids:aa Nat):aa Nat:=ids.flatMap λi=>match fC R i with
 |some (.box _ cs)=>cs.flatMap (lR 3)
 |_=>[]
def reach(R:aX):Nat->aa Nat->aa Nat
 |0,ids=>ids
 |m+1,ids=>ids++reach R m (ayw R ids)
def Kn(nx:Nat)(ids:aa Nat)(R:aX):aX:=List.rec [] (λp R ih=>Bool.rec (Bool.rec ih (p::ih) (dh p.1 ids)) (p::R) (zy p.1 nx)) R
def B7(R:aX)(nx:Nat)(d:AV):aX:=Kn nx (reach R 3 (lR 3 d++zO nx)) R
def KP(R:aX)(nx:Nat)(d:AV)(xs:aa AV):aX:=Kn nx (reach R 3 (lR 3 d++xs.flatMap (lR 3))) R
def Jo(i:Nat)(l:aa AV):ET->ET:=List.rec (λ_ T=>T) (λd _ ih i T=>ih (i+1) (k8 i d T)) l i
end
end Go.Iv
end
noncomputable section
namespace Go.Iv
variable [U:qz]
open Go Go.RowKit
abbrev Fr:Type:=Nat->af AV
structure Rc where
 dst:Option Nat
 v:AV
 (sl rd wr:List Nat)
 ef:Bool
 Lo:aX
def gm(rd:aa Nat)(R:aX):aX:=R.filter λp=> !dh p.1 rd
def cj(rd:aa Nat)(R:aX):aX:=R.filter λp=>dh p.1 rd
def Rc.F(c:Rc)(f:Fr):Fr:=λt=>if c.dst=I t then I c.v else f t
def Rc.R(c:Rc)(R:aX):aX:=match c.ef with
 |true=>c.Lo++gm c.wr R
 |false=>R
def fW:aa Rc->aa Bool->Fr->Fr
 |c::cs,b::bs,f=>fW cs bs (match b with|J=>c.F f|G=>f)
 |_,_,f=>f
def gi:aa Rc->aa Bool->aX->aX
 |c::cs,b::bs,R=>gi cs bs (match b with|J=>c.R R|G=>R)
 |_,_,R=>R
def fk{i:Nat}:∀{l:aa Nat},dh i l=J↔i∈l
 |[]=>by simp[dh]
 |j::js=>by
  unfold dh;cases h:zg i j with
  |true=>have:=fM h;subst this;simp
  |false=>
   have hne:i≠j:=λe=>by rw[e,Nat.beq_refl]at h;cases h
   simp only[zF,hne,false_or];exact fk
def iE{i:Nat}{l:aa Nat}:dh i l=G↔i∉l:=by
 cases h:dh i l with
 |true=>simp[fk.1 h]
 |false=>simp only[true_iff];exact λhm=>by rw[fk.2 hm]at h;cases h
structure CF (c d:Rc):Prop where
 ds:∀t,c.dst=I t->t∉d.sl/\d.dst≠I t
 sd:∀t,d.dst=I t->t∉c.sl
 rc:c.ef=J->(∀i∈c.wr,i∉d.rd)/\(∀p∈c.Lo,p.1∉d.rd)/\∀p∈c.Lo,p.1∉d.wr
 rd:d.ef=J->(∀i∈d.wr,i∉c.rd)/\(∀p∈d.Lo,p.1∉c.rd)/\∀p∈d.Lo,p.1∉c.wr
def CF.symm{c d:Rc}(h:CF c d):CF d c:=⟨λt ht=>⟨h.sd t ht,λe=>(h.ds t e).2 ht⟩,λt ht=>(h.ds t ht).1,h.rd,h.rc⟩
def awT{c i:Rc}(h:CF c i)(R:aX):cj i.rd (c.R R)=cj i.rd R:=by
 unfold Rc.R;cases he:c.ef with
 |false=>rfl
 |true=>
  obtain⟨h1,h2,_⟩:=h.rc he;simp only[cj,gm,xE,xW];have e1:c.Lo.filter (λp=>dh p.1 i.rd)=[]:=List.filter_eq_nil_iff.2 λp hp=>by simp[iE.2 (h2 p hp)]
  rw[e1,yg];refine xX λp _=> ?_;cases hm:dh p.1 i.rd with
  |false=>rfl
  |true=>
   have:dh p.1 c.wr=G:=iE.2 λhc=>h1 _ hc (fk.1 hm);rw[this];rfl
def avZ{c i:Rc}(h:CF c i)(f:Fr){t:Nat}(ht:t∈i.sl):c.F f t=f t:=by
 unfold Rc.F;split
 ·rename_i hd;exact dg ht (h.ds t hd).1
 ·rfl
def abj{c:Rc}{rd:aa Nat}{R R':aX}(h:cj rd R=cj rd R'):cj rd (c.R R)=cj rd (c.R R'):=by
 unfold Rc.R;cases c.ef with
 |false=>exact h
 |true=>
  simp only[cj,gm,xE,xW]at h ⊢
  congr 1
  have e:∀R:aX,R.filter (λp=>dh p.1 rd&& !dh p.1 c.wr)=(R.filter λp=>dh p.1 rd).filter λp=> !dh p.1 c.wr:=λR=>by
   rw[xW];exact xX λp _=>Bool.and_comm ..
  rw[e,e,h]
def HV{i:Rc}:∀(cs:aa Rc) (bs bs':aa Bool) (f f':Fr) (R R':aX),bs.length=cs.length->bs'.length=cs.length->
  (∀(j:Nat) c b b',cs[j]? =I c->bs[j]? =I b->bs'[j]? =I b'->b=b'\/CF c i)->
  (∀t∈i.sl,f t=f' t)->cj i.rd R=cj i.rd R'->(∀t∈i.sl,fW cs bs f t=fW cs bs' f' t)/\cj i.rd (gi cs bs R)=cj i.rd (gi cs bs' R')
 |[],_,_,f,f',R,R',_,_,_,h1,h2=>⟨by simpa [fW]using h1,by simpa [gi]using h2⟩
 |c::cs,[],_,_,_,_,_,hl,_,_,_,_=>by cases hl
 |c::cs,_::_,[],_,_,_,_,_,hl,_,_,_=>by cases hl
 |c::cs,b::bs,b'::bs',f,f',R,R',hl,hl',hb,h1,h2=>by
  have h0:=hb 0 c b b' rfl rfl rfl;have hrec:=λf f' R R'=>HV (i:=i) cs bs bs' f f' R R' (by simpa using hl) (by simpa using hl') (λj c b b' q1 q2 q3=>hb (j+1) c b b' q1 q2 q3);unfold fW gi;refine hrec _ _ _ _ ?_ ?_
  ·intro t ht;rcases h0 with rfl|hcf
   ·cases b with
    |false=>exact h1 t ht
    |true=>show c.F f t=c.F f' t;unfold Rc.F;split<;>first|rfl|exact h1 t ht
   ·cases b<;>cases b'<;>simp only[avZ hcf _ ht]<;>exact h1 t ht
  ·rcases h0 with rfl|hcf
   ·cases b with
    |false=>exact h2
    |true=>exact abj h2
   ·cases b<;>cases b'<;>simp only[awT hcf]<;>exact h2
def akv{c d:Rc}(h:CF c d)(f:Fr):c.F (d.F f)=d.F (c.F f):=by
 funext t
 unfold Rc.F;by_cases h1:c.dst=I t
 ·rw[bD h1,bL (h.ds t h1).2,bD h1]
 ·by_cases h2:d.dst=I t
  ·rw[bL h1,bD h2,bD h2]
  ·rw[bL h1,bL h2,bL h2,bL h1]
def ala{c:Rc}{R R':aX}(h:List.Perm R R'):List.Perm (c.R R) (c.R R'):=by
 unfold Rc.R;cases c.ef with
 |false=>exact h
 |true=>exact(h.filter _).append_left _
def aml{c d:Rc}(h:CF c d)(R:aX):List.Perm (c.R (d.R R)) (d.R (c.R R)):=by
 unfold Rc.R;cases hc:c.ef with
 |false=>cases d.ef<;>exact .refl _
 |true=>
  cases hd:d.ef with
  |false=>exact .refl _
  |true=>
   obtain⟨h1,_,h2⟩:=h.rc hc;obtain⟨h3,_,h4⟩:=h.rd hd;simp only[gm,xE,xW];have e1:d.Lo.filter (λp=> !dh p.1 c.wr)=d.Lo:=List.filter_eq_self.2 λp hp=>by simp[iE.2 (h4 p hp)]
   have e2:c.Lo.filter (λp=> !dh p.1 d.wr)=c.Lo:=List.filter_eq_self.2 λp hp=>by simp[iE.2 (h2 p hp)]
   rw[e1,e2,<-yQ,<-yQ];refine(List.perm_append_comm).append ?_;rw[show (R.filter λa=> !dh a.1 c.wr&& !dh a.1 d.wr)=R.filter λa=> !dh a.1 d.wr&& !dh a.1 c.wr from xX λp _=>Bool.and_comm ..]
def late{i:Rc}:∀(cs:aa Rc) (bs:aa Bool) (f:Fr) (R R':aX),(∀(j:Nat) c,cs[j]? =I c->bs[j]? =I J->CF i c)->List.Perm R' (i.R R)->
  i.F (fW cs bs f)=fW cs bs (i.F f)/\List.Perm (i.R (gi cs bs R)) (gi cs bs R')
 |[],_,f,R,R',_,hp=>⟨rfl,hp.symm⟩
 |_::_,[],f,R,R',_,hp=>⟨rfl,hp.symm⟩
 |c::cs,b::bs,f,R,R',hb,hp=>by
  unfold fW gi;cases b with
  |false=>exact late cs bs f R R' (λj c q1 q2=>hb (j+1) c q1 q2) hp
  |true=>
   have hcf:=hb 0 c rfl rfl;have h1:=late cs bs (c.F f) (c.R R) (c.R R') (λj c q1 q2=>hb (j+1) c q1 q2) ((ala hp).trans (aml hcf.symm R));refine⟨?_,h1.2⟩;rw[h1.1,akv hcf]
def Co:∀(pre:aa Rc) (bp:aa Bool) (cs:aa Rc) (bs:aa Bool) (f:Fr),bp.length=pre.length->fW (pre++cs) (bp++bs) f=fW cs bs (fW pre bp f)
 |[],[],_,_,_,_=>rfl
 |_::_,[],_,_,_,h=>by cases h
 |[],_::_,_,_,_,h=>by cases h
 |c::pre,b::bp,cs,bs,f,h=>by
  show fW (pre++cs) (bp++bs) _=_;rw[Co pre bp cs bs _ (by simpa using h)];rfl
def BQ:∀(pre:aa Rc) (bp:aa Bool) (cs:aa Rc) (bs:aa Bool) (R:aX),bp.length=pre.length->gi (pre++cs) (bp++bs) R=gi cs bs (gi pre bp R)
 |[],[],_,_,_,_=>rfl
 |_::_,[],_,_,_,h=>by cases h
 |[],_::_,_,_,_,h=>by cases h
 |c::pre,b::bp,cs,bs,R,h=>by
  show gi (pre++cs) (bp++bs) _=_;rw[BQ pre bp cs bs _ (by simpa using h)];rfl
def VW{cs:aa Rc}{bs:aa Bool}{i:Nat}{c:Rc}(f:Fr)(R:aX)(hl:bs.length=cs.length)(hc:cs[i]? =I c)(hb:bs[i]? =I G)
  (hpre:∀(j:Nat) d,j<i->cs[j]? =I d->bs[j]? =I G->CF d c) (hpost:∀(j:Nat) d,i<j->cs[j]? =I d->bs[j]? =I J->CF d c):
  (∀t∈c.sl,fW cs bs f t=fW (cs.take i) (zo i J) f t)/\cj c.rd (gi cs bs R)=cj c.rd (gi (cs.take i) (zo i J) R)/\
  c.F (fW cs bs f)=fW cs (bs.set i J) f/\List.Perm (c.R (gi cs bs R)) (gi cs (bs.set i J) R):=by
 have hi:i<cs.length:=(zY.1 hc).1;have hib:i<bs.length:=by omega
 have ec:cs=cs.take i++c::cs.drop (i+1):=by
  rw[<-(zY.1 hc).2,<-xQ hi,xp]
 have eb:bs=bs.take i++G::bs.drop (i+1):=by
  rw[<-(zY.1 hb).2,<-xQ hib,xp]
 have lp:(bs.take i).length=(cs.take i).length:=by rw[zR,zR];omega
 have eb2:bs.set i J=bs.take i++J::bs.drop (i+1):=by
  rw[wu,bD hib]
 have hF:fW cs bs f=fW (cs.drop (i+1)) (bs.drop (i+1)) (fW (cs.take i) (bs.take i) f):=by
  conv=>lhs;rw[ec,eb]
  rw[Co _ _ _ _ _ lp];rfl
 have hR:gi cs bs R=gi (cs.drop (i+1)) (bs.drop (i+1)) (gi (cs.take i) (bs.take i) R):=by
  conv=>lhs;rw[ec,eb]
  rw[BQ _ _ _ _ _ lp];rfl
 have hF2:fW cs (bs.set i J) f=fW (cs.drop (i+1)) (bs.drop (i+1)) (c.F (fW (cs.take i) (bs.take i) f)):=by
  rw[eb2]
  conv=>lhs;rw[ec]
  rw[Co _ _ _ _ _ lp];rfl
 have hR2:gi cs (bs.set i J) R=gi (cs.drop (i+1)) (bs.drop (i+1)) (c.R (gi (cs.take i) (bs.take i) R)):=by
  rw[eb2]
  conv=>lhs;rw[ec]
  rw[BQ _ _ _ _ _ lp];rfl
 have hpo:∀(j:Nat) d,(cs.drop (i+1))[j]? =I d->(bs.drop (i+1))[j]? =I J->CF d c:=λj d q1 q2=>by
  rw[yu]at q1 q2;exact hpost (i+1+j) d (by omega) q1 q2
 have v2:=HV (i:=c) (cs.drop (i+1)) (bs.drop (i+1)) (zo (cs.length-(i+1)) G) (fW (cs.take i) (bs.take i) f) (fW (cs.take i) (bs.take i) f) (gi (cs.take i) (bs.take i) R) (gi (cs.take i) (bs.take i) R)
  (by rw[yj,yj];omega) (by rw[xS,yj]) (λj d b b' q1 q2 q3=>by
   cases b with
   |true=>exact .inr (hpo j d q1 q2)
   |false=>
    rw[wB]at q3;split at q3
    ·cases q3;exact .inl rfl
    ·cases q3) (λt _=>rfl) rfl
 have none_F:∀(cs:aa Rc) (n:Nat) (f:Fr),fW cs (zo n G) f=f:=λcs=>by
  induction cs with
  |nil=>intro n f;rfl
  |cons d cs ih=>
   intro n f;cases n with
   |zero=>rfl
   |succ n=>rw[yJ];exact ih n f
 have none_R:∀(cs:aa Rc) (n:Nat) (R:aX),gi cs (zo n G) R=R:=λcs=>by
  induction cs with
  |nil=>intro n f;rfl
  |cons d cs ih=>
   intro n f;cases n with
   |zero=>rfl
   |succ n=>rw[yJ];exact ih n f
 have v1:=HV (i:=c) (cs.take i) (bs.take i) (zo i J) f f R R lp (by rw[xS,zR];omega) (λj d b b' q1 q2 q3=>by
   rw[yA]at q1 q2;rw[wB]at q3;split at q1
   ·rename_i hji;rw[bD hji]at q2 q3;cases q3;cases b with
    |true=>exact .inl rfl
    |false=>exact .inr (hpre j d hji q1 q2)
   ·cases q1) (λt _=>rfl) rfl
 refine⟨λt ht=> ?_,?_,?_,?_⟩
 ·rw[hF,v2.1 t ht,none_F,v1.1 t ht]
 ·rw[hR,v2.2,none_R,v1.2]
 ·rw[hF,hF2];exact(late (i:=c) _ _ _ (gi (cs.take i) (bs.take i) R) _ (λj d q1 q2=>(hpo j d q1 q2).symm) (.refl _)).1
 ·rw[hR,hR2];exact(late (i:=c) _ _ (fW (cs.take i) (bs.take i) f) _ _ (λj d q1 q2=>(hpo j d q1 q2).symm) (.refl _)).2
end Go.Iv
end
