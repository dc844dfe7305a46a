/- Merged: Izo, Iv1, Iv2, Iv3, Iv4, Iv5, Iw1, Iw0, Iv6, Iw2, Iw3, Iv10, Ivc, Iw4, Iw5, Iwn, Iv8, Iw6, Iw7, Iw8. -/
import Derived.KernelRfl
import Derived.WalkKit
import Derived.OrdersHeld
import Derived.Maps.AppendAt
import Derived.WalkLawsBesides
import Derived.Laws.Tables
import Derived.Laws.PanicsMore
import Derived.Great.BuildSlice
import Derived.Laws.MakeOwn
import Derived.Lib.SliceRun
import Derived.RangeFuncLeaves
import Derived.RangeFuncNested
import Derived.Laws.BytesArg
import Derived.Laws.StructEq
import Derived.Lib.AppendZerosOnto
import Derived.RangeFuncBound
import Derived.Shelf.Abstract
import Derived.TacticsIn
import Derived.OwnWalkIn
open List renaming length -> zR
open Nat renaming beq -> ze, le_refl -> zm, blt -> zB, lt_succ_self -> zC, le_trans -> zG, add_mul -> zX, le_succ -> yd, add_zero -> yj, mul_le_mul_right -> yl, zero_add -> ym, ble -> yq, add_assoc -> yG, succ_mul -> yP, mod_lt -> xg, eq_of_beq_eq_true -> xw, mul_one -> xB, lt_of_lt_of_le -> x9, le_of_ble_eq_true -> wh, eq_zero_or_pos -> wC
open Int renaming toNat_natCast -> zg, natCast_mul -> wJ
open List renaming length_append -> zh, replicate -> zj, mem_cons_self -> zk, mem_singleton -> zo, getElem?_eq_getElem -> zq, length_map -> zu, all_eq_true -> zx, mem_cons -> zy, length_take -> zA, take_length -> zH, mem_cons_of_mem -> zI, mem_map -> zK, map_append -> zM, range -> zN, mem_append -> zP, length_drop -> zV, drop_drop -> zW, map_congr_left -> zZ, getElem?_eq_some_iff -> z7, getElem?_map -> ye, map_cons -> yf, length_set -> yu, map_map -> yw, append_nil -> yy, nil_append -> yz, getElem?_take -> yE, getElem?_drop -> yF, mem_append_left -> yI, mem_append_right -> yJ, drop_eq_getElem_cons -> yN, nodup_append -> yO, flatMap_cons -> yQ, replicate_succ -> yR, append_assoc -> yS, length_cons -> yT, map_nil -> yU, getElem_of_mem -> y5, size_toArray -> y6, take_append_drop -> xe, eq_nil_of_length_eq_zero -> xh, filter_append -> xk, getElem?_append -> xx, cons_append -> xy, mem_flatMap -> xz, map_drop -> xA, mem_of_mem_drop -> xC, drop_zero -> xI, getElem_take -> xJ, map_take -> xK, getElem_mem -> xO, length_replicate -> xQ, flatMap_append -> xR, getElem_drop -> xS, length_range -> we, getElem_append_left -> wg, take_zero -> wj, filter_filter -> wk, set_eq_take_append_cons_drop -> wB, getElem_append_right -> wD, flatten_cons -> wE, getElem?_eq_none -> wF, length_pos_iff -> wG, mem_of_mem_take -> wH, filter_congr -> wK, eraseIdx_eq_take_drop_succ -> wP, eraseIdx_sublist -> wQ, filter_eq_nil_iff -> wR, filter_eq_self -> wS, getElem?_replicate -> wT
open Bool renaming and_eq_true -> zi, true -> O, false -> G
open Option renaming map_eq_some_iff -> zl, bind_eq_some_iff -> zn, some -> zF, bind_assoc -> z6, map_some -> yH, toList_some -> xN, toList -> xP, some -> V, none -> I
open Array renaming length_toList -> yp, getElem?_eq_some_iff -> y9, getElem?_eq_getElem -> xd
open Decidable renaming decide -> J
set_option linter.unusedSectionVars false
set_option linter.unusedVariables false
set_option linter.unusedSimpArgs false
set_option linter.defProp false
abbrev Prod.t{α W Q:Type _}(z:α×W×Q):Q:=z.2.2
abbrev Prod.q{α W Q δ ε:Type _}(z:α×W×Q×δ×ε):ε:=z.2.2.2.2
abbrev af(α:Type _):=Option α
abbrev aa(α:Type _):=List α
namespace Go
theorem bY:∀ {p:Prop} [inst:Decidable p],¬p→decide p=G:=@decide_eq_false
theorem b7:∀ {p:Prop} [inst:Decidable p],p→decide p=O:=@decide_eq_true
theorem cv{α:Sort _}(a b:α):cond G a b=b:=rfl
theorem cI{α:Sort _}(a b:α):cond O a b=a:=rfl
theorem bJ{c:Prop}{h:Decidable c}(hc:c){α:Sort _}{t e:α}:(ite c t e)=t:=if_pos hc
theorem bN{c:Prop}{h:Decidable c}(hnc:¬c){α:Sort _}{t e:α}:(ite c t e)=e:=if_neg hnc
theorem uU(h:Decidable True):@decide True h=O:=decide_true h
theorem CC(h:Decidable False):@decide False h=G:=decide_false h
theorem dS{α:Sort _}{_:Decidable True}(t e:α):ite True t e=t:=if_true t e
theorem GQ{α:Sort _}{_:Decidable False}(t e:α):ite False t e=e:=if_false t e
theorem GX(p:Prop):(p∧p)=p:=and_self p
def ep{a:Prop}{b:Sort _}(h1:a)(h2:¬a):b:=absurd h1 h2
end Go
noncomputable section
/- Proofs found by themselves. -/
namespace Go.Iv
open Go
def aq{p:Prop}(h:p:=by omega):p:=h
def aW{α:Sort _}{a b:α}(h:a=b:=by kernel_rfl):a=b:=h
abbrev aj(x:Int):Int:=IntKind.i64.wrap x
abbrev bE(x:Int):Int:=IntKind.u64.wrap x
def w3{i n:Nat}(h:i<n)(hn:n<=1000000):(i:Int)<(n:Int)/\(0:Int)<=(i:Int)/\aj ((i:Int)+1)=((i+1:Nat):Int):=⟨by omega,by omega,by simp[aj,IntKind.wrap,IntKind.bits,IntKind.signed];omega⟩
universe u
def cZ:(∀n:Nat,(n:Int).toNat=n)/\(∀h:Decidable True,@decide True h=O)/\(∀h:Decidable False,@decide False h=G)/\(∀p:Prop,(p/\p)=p):=⟨zg,uU,CC,GX⟩
def cU:(∀(α:Type u) (a b:α),cond O a b=a)/\∀(α:Type u) (a b:α),cond G a b=b:=⟨λ_ _ _=>rfl,λ_ _ _=>rfl⟩
def fU:(∀(α:Sort u) (h:Decidable True) (a b:α),@ite α True h a b=a)/\∀(α:Sort u) (h:Decidable False) (a b:α),@ite α False h a b=b:=⟨λ_ _ _ _=>bJ trivial,λ_ _ _ _=>bN id⟩
end Go.Iv
end
noncomputable section
namespace Go.Iv
open Go Go.RowKit
inductive b9 (dh:Nat->Type):Type
 |lit (v:Value)
 |sl (t:Nat) (l:List (dh t))
 |fp (cs:List (b9 dh))
 |rp (v:Value) (k:Nat)
 |agg (cs:List (b9 dh))
 |jf (vs:List (b9 dh))
 |fn (f:Fn) (caps:List (b9 dh))
 |own (id:Nat)
 |ptr (id off:Nat)
 |ra (id t m off:Nat)
class tf where
 dh:Nat->Type
 inh:(t:Nat)->Inhabited (dh t)
 sz:Nat->Nat
 cells:(t:Nat)->dh t->List (b9 dh)
instance [U:tf] (t:Nat):Inhabited (U.dh t):=U.inh t
abbrev AV[U:tf]:Type:=b9 U.dh
variable [U:tf]
def gH:Value->af Nat
 | .slice (V a) _ (_+1)=>V a.block
 |_=>I
def gv(w:World)(v:Value)(T:TypeId)(sz n:Nat)(us:aa Value):Prop:=
 us.length=n*sz/\((∃p,v= .slice p 0 0/\n=0)\/
  ∃g cap cur,v= .slice (V ⟨g,0,I⟩) n (cap+1)/\w.heap[g]? =V (.cells cur T (0,0))/\n<=cap+1/\cap+1<=maxLen/\cur.size=(cap+1)*sz/\cur.toList.take (n*sz)=us)
def gv.lt{w:World}{v:Value}{T:TypeId}{sz n:Nat}{us:aa Value}(h:gv w v T sz n us){b:Nat}(hb:gH v=V b):b<w.heap.size:=by
 rcases h.2 with ⟨p,rfl,_⟩|⟨g,cap,cur,rfl,hg,_⟩
 ·cases p<;>cases hb
 ·cases hb;exact(y9.1 hg).1
def gv.kept{w w':World}{v:Value}{T:TypeId}{sz n:Nat}{us:aa Value}(h:gv w v T sz n us)(hb:∀b,gH v=V b->w'.heap[b]? =w.heap[b]?):gv w' v T sz n us:=by
 refine⟨h.1,?_⟩;rcases h.2 with h1|⟨g,cap,cur,rfl,q1,q2⟩
 ·exact .inl h1
 ·exact .inr ⟨g,cap,cur,rfl,(hb g rfl).trans q1,q2⟩
inductive Rel (A:Nat->Prop) (w:World):AV->Value->Prop
 |lit (v:Value):Rel A w (.lit v) v
 |sl (t:Nat) (l:List (U.dh t)) (p:Option Addr) (cap:Nat) (u:Nat->Nat->Value)
   (hl:zR l<=9223372036854775807) (hcap:zR l<=cap) (hz:∀i,i<zR l->zR (U.cells t l[i]!)=U.sz t)
   (hc:∀i,i<zR l->∃b off,p=V ⟨b,off,I⟩/\b<w.heap.size/\A b/\∀j,j<U.sz t->w.cell? ⟨b,off+i*U.sz t+j,I⟩=V (u i j))
   (hr:∀i j a,i<zR l->(U.cells t l[i]!)[j]? =V a->Rel A w a (u i j)):Rel A w (.sl t l) (.slice p (zR l) cap)
 |fp (cs:List AV) (b o:Nat) (us:List Value) (hb:b<w.heap.size) (hA:A b) (hl:zR us=zR cs)
   (hc:∀j v,us[j]? =V v->w.cell? ⟨b,o+j,I⟩=V v) (hr:∀(j:Nat) a v,cs[j]? =V a->us[j]? =V v->Rel A w a v):Rel A w (.fp cs) (.pointer (V ⟨b,o,I⟩))
 |rp (v:Value) (k g:Nat) (h:gH v=V g):Rel A w (.rp v k) (.pointer (V ⟨g,k,I⟩))
 |agg (cs:List AV) (us:List Value) (hl:zR us=zR cs) (hr:∀(j:Nat) a v,cs[j]? =V a->us[j]? =V v->Rel A w a v):Rel A w (.agg cs) (.agg us.toArray)
 |jf (cs:List AV) (us:List Value) (hl:zR us=zR cs) (hr:∀(j:Nat) a v,cs[j]? =V a->us[j]? =V v->Rel A w a v):Rel A w (.jf cs) (.tuple us.toArray)
 |fn (f:Fn) (cs:List AV) (us:List Value) (hl:zR us=zR cs) (hr:∀(j:Nat) a v,cs[j]? =V a->us[j]? =V v->Rel A w a v):Rel A w (.fn f cs) (.func f #[] us.toArray)
def Rel.mono{A A':Nat->Prop}{w w':World}{a:AV}{v:Value}(h:Rel A w a v)(hk:∀b,b<w.heap.size->A b->A' b/\w'.heap[b]? =w.heap[b]?):Rel A' w' a v:=by
 have hsz:∀b,b<w.heap.size->A b->b<w'.heap.size:=λb hb hA=>by
  have h1:=(hk b hb hA).2;rw[xd hb]at h1;exact(y9.1 h1).1
 have hcell:∀b o,b<w.heap.size->A b->w'.cell? ⟨b,o,I⟩=w.cell? ⟨b,o,I⟩:=λb o hb hA=>by
  simp[World.cell?,(hk b hb hA).2]
 induction h with
 |lit v=>exact .lit v
 |sl t l p cap u hl hcap hz hc hr ih=>
  refine .sl t l p cap u hl hcap hz (λi hi=> ?_) ih;obtain⟨b,off,h1,h2,h3,h4⟩:=hc i hi;exact⟨b,off,h1,hsz b h2 h3,(hk b h2 h3).1,λj hj=>by rw[hcell b _ h2 h3];exact h4 j hj⟩
 |fp cs b o us hb hA hl hc hr ih=>exact .fp cs b o us (hsz b hb hA) (hk b hb hA).1 hl (λj v hj=>by rw[hcell b _ hb hA];exact hc j v hj) ih
 |rp v k g h=>exact .rp v k g h
 |agg cs us hl hr ih=>exact .agg cs us hl ih
 |jf cs us hl hr ih=>exact .jf cs us hl ih
 |fn f cs us hl hr ih=>exact .fn f cs us hl ih
def bO(A:Nat->Prop)(w:World)(as0:aa AV)(us:aa Value):Prop:=zR us=zR as0/\∀(j:Nat) a v,as0[j]? =V a->us[j]? =V v->Rel A w a v
def bO.mono{A A':Nat->Prop}{w w':World}{as0:aa AV}{us:aa Value}(h:bO A w as0 us)(hk:∀b,b<w.heap.size->A b->A' b/\w'.heap[b]? =w.heap[b]?):bO A' w' as0 us:=⟨h.1,λj a v h1 h2=>(h.2 j a v h1 h2).mono hk⟩
def Rel.cM{A:Nat->Prop}{w:World}{u v:Value}(h:Rel A w (.lit u) v):v=u:=by
 generalize ha:b9.lit u=a at h;cases h with
 |lit v=>cases ha;rfl
 |_=>cases ha
def Blk(w:World)(b:Nat)(cs:Array Value)(T:TypeId):Prop:=w.heap[b]? =V (.cells cs T (0,0))
def Blk.lt{w:World}{b:Nat}{cs:Array Value}{T:TypeId}(h:Blk w b cs T):b<w.heap.size:=(y9.1 h).1
def Blk.cell{w:World}{b:Nat}{cs:Array Value}{T:TypeId}(h:Blk w b cs T){i:Nat}{v:Value}(hv:cs[i]? =V v):w.cell? ⟨b,i,I⟩=V v:=by
 unfold Blk at h;simp[World.cell?,h,hv]
inductive cn:Type
 |box (b:Nat) (T:TypeId) (cs:List AV)
 |row (v:Value) (t:Nat) (l:List (U.dh t))
def cn.blk:cn->af Nat
 | .box b _ _=>V b
 | .row v _ _=>gH v
def cn.ok(A:Nat->Prop)(w:World):cn->Prop
 | .box b T cs=>∃us:aa Value,Blk w b us.toArray T/\bO A w cs us
 | .row v t l=>∃us:aa Value,gv w v t (U.sz t) (zR l) us/\(∀i,i<zR l->zR (U.cells t l[i]!)=U.sz t)/\∀i,i<zR l->bO A w (U.cells t l[i]!) ((us.drop (i*U.sz t)).take (U.sz t))
def bC(B:aa cn):aa Nat:=B.filterMap cn.blk
def bS{B:aa cn}{b:Nat}:b∈bC B↔∃r∈B,r.blk=V b:=by simp[bC]
def cn.ok.lt{A:Nat->Prop}{w:World}{r:cn}(h:r.ok A w){b:Nat}(hb:r.blk=V b):b<w.heap.size:=by
 cases r with
 |box b' T cs=>obtain⟨us,h1,_⟩:=h;cases hb;exact h1.lt
 |row v t l=>obtain⟨us,h1,_⟩:=h;exact h1.lt hb
def cn.ok.mono{A A':Nat->Prop}{w w':World}{r:cn}(h:r.ok A w)(hk:∀b,b<w.heap.size->A b->A' b/\w'.heap[b]? =w.heap[b]?)(hb:∀b,r.blk=V b->w'.heap[b]? =w.heap[b]?):r.ok A' w':=by
 cases r with
 |box b T cs=>
  obtain⟨us,h1,h2⟩:=h;exact⟨us,(hb b rfl).trans h1,h2.mono hk⟩
 |row v t l=>
  obtain⟨us,h1,h2,h3⟩:=h;exact⟨us,h1.kept hb,h2,λi h4=>(h3 i h4).mono hk⟩
structure Kp (X:List Nat) (w w':World):Prop where
 os:w'.os=w.os
 tape:w'.tape=w.tape
 output:w'.output=w.output
 drawn:w.drawn<=w'.drawn
 size:w.heap.size<=w'.heap.size
 block:∀k,k<w.heap.size->k∉X->w'.heap[k]? =w.heap[k]?
def Kp.refl(X:aa Nat)(w:World):Kp X w w:=⟨rfl,rfl,rfl,zm _,zm _,λ_ _ _=>rfl⟩
def Kp.trans{X Y:aa Nat}{w w1 w2:World}(h:Kp X w w1)(h':Kp Y w1 w2)(hY:∀b,b∈Y->b<w.heap.size->b∈X):Kp X w w2:=
 ⟨h'.os.trans h.os,h'.tape.trans h.tape,h'.output.trans h.output,zG h.drawn h'.drawn,zG h.size h'.size,λk hk hX=>
  (h'.block k (x9 hk h.size) (λhy=>hX (hY k hy hk))).trans (h.block k hk hX)⟩
def Kp.drew(w:World):Kp [] w w.drew:=⟨rfl,rfl,rfl,yd _,zm _,λ_ _ _=>rfl⟩
def Kp.below{w w':World}(h:Kp [] w w'):Below w.heap.size w w':=⟨h.os,h.tape,h.output,h.size,λk hk=>h.block k hk (by simp)⟩
structure Cx where
 w0:World
 A0:Nat->Prop
 O0:List Nat
def al(C:Cx)(B:aa cn)(b:Nat):Prop:=(C.A0 b\/b∈C.O0\/C.w0.heap.size<=b)/\b∉bC B
structure Good (C:Cx) (B:List cn) (w:World):Prop where
 kept:Kp C.O0 C.w0 w
 res:∀r∈B,r.ok (al C B) w
 Il:(bC B).Nodup
 own:∀b∈bC B,b∈C.O0\/C.w0.heap.size<=b
structure Tr (C:Cx) (X:List Nat) (B:List cn) (w:World) (B':List cn) (w':World):Prop where
 good:Good C B' w'
 kp:Kp X w w'
 al:∀b,b<w.heap.size->al C B b->al C B' b/\b∉X
def Tr.keep{C:Cx}{X:aa Nat}{B B':aa cn}{w w':World}(t:Tr C X B w B' w'):∀b,b<w.heap.size->Iv.al C B b->Iv.al C B' b/\w'.heap[b]? =w.heap[b]? :=
 λb hb h=>⟨(t.al b hb h).1,t.kp.block b hb (t.al b hb h).2⟩
abbrev Env:=aa (Nat×AV)
def Env.get:Env->Nat->af AV
 |[],_=>I
 |(k,v)::E,t=>match ze k t with
  |true=>V v
  |false=>Env.get E t
def Env.ev(E:Env):Operand->af AV
 | .tmp t=>Env.get E t
 | .const v=>V (.lit v)
 | .global g=>V (.lit (.pointer (V ⟨g,0,I⟩)))
 | .func f=>V (.fn (.func f) [])
def Env.fB(E:Env)(d:Nat)(v:AV):Env.get ((d,v)::E) d=V v:=by
 have h:ze d d=O:=Nat.beq_refl d;simp only[Env.get,h]
def Env.dY(E:Env){d t:Nat}(v:AV)(h:d≠t):Env.get ((d,v)::E) t=Env.get E t:=by
 have h':ze d t=G:=by
  cases hb:ze d t with
  |false=>rfl
  |true=>exact ep (xw hb) h
 simp only[Env.get,h']
def mh(A:Nat->Prop)(w:World)(E:Env)(tmps:Array Value):Prop:=∀t av,Env.get E t=V av->∃v,tmps[t]? =V v/\Rel A w av v
def Dq(C:Cx)(B:aa cn)(a:Act)(w:World):Prop:=∃Ds:aa Nat,a.defers=Ds.map (λD=>{target:= .collected D,args:=#[]})/\Ds.Nodup/\
 ∀D∈Ds,D<w.heap.size/\C.w0.heap.size<=D/\D∉bC B/\w.heap[D]? =V (.deferred (V []))
def Dq.nil{C:Cx}{B:aa cn}{a:Act}{w:World}(h:a.defers=[]):Dq C B a w:=⟨[],h,List.nodup_nil,λ_ h=>by cases h⟩
def Dq.step{C:Cx}{B B':aa cn}{a:Act}{w w':World}(h:Dq C B a w)(hk:∀b,b<w.heap.size->al C B b->al C B' b/\w'.heap[b]? =w.heap[b]?):Dq C B' a w':=by
 obtain⟨Ds,h1,h2,h3⟩:=h;refine⟨Ds,h1,h2,λD hD=> ?_⟩;obtain⟨q1,q2,q3,q4⟩:=h3 D hD;obtain⟨p1,p2⟩:=hk D q1 ⟨.inr (.inr q2),q3⟩;have p3:=p2.trans q4;exact⟨(y9.1 p3).1,q2,p1.2,p3⟩
structure uI (C:Cx) (n:Nat) (E:Env) (B:List cn) (a:Act) (w:World):Prop where
 defers:Dq C B a w
 size:a.tmps.size=n
 slots:mh (al C B) w E a.tmps
 good:Good C B w
def P9(A:Nat->Prop)(w:World)(E:Env)(S:Operand->Value):Prop:=∀x u,E.ev x=V u->Rel A w u (S x)
section
variable {C:Cx} {n:Nat} {E E':Env} {B B':aa cn} {a:Act} {w w':World} {x:Operand} {v:Value} {av:AV} {d:Nat} {A:Nat->Prop}
def mh.ops(h:mh A w E a.tmps):P9 A w E a.eval:=λx u hx=>by
 cases x with
 |tmp t=>
  obtain⟨v,h1,h2⟩:=h t u hx;simpa [Act.eval,h1]using h2
 |const u=>
  simp only[Env.ev,zF.injEq]at hx;subst hx;exact .lit _
 |global g=>
  simp only[Env.ev,zF.injEq]at hx;subst hx;exact .lit _
 |func f=>
  simp only[Env.ev,zF.injEq]at hx;subst hx;exact .fn _ [] [] rfl (λj a v h=>by cases h)
def mh.put(h:mh A w E a.tmps)(hd:d<a.tmps.size)(hv:Rel A w av v):mh A w ((d,av)::E) (a.put (V d) v).tmps:=λt u ht=>by
 by_cases hdt:d=t
 ·subst hdt;rw[Env.fB]at ht;cases ht;exact⟨v,by simp[Act.put,hd],hv⟩
 ·rw[Env.dY _ _ hdt]at ht;obtain⟨v',h1,h2⟩:=h t u ht;exact⟨v',by simp[Act.put,Array.getElem?_setIfInBounds_ne hdt,h1],h2⟩
def uI.put(h:uI C n E B a w)(hd:zB d n=O)(hv:Rel (al C B) w av v):uI C n ((d,av)::E) B (a.put (V d) v) w:=
 ⟨h.defers,by simpa [Act.put]using h.size,h.slots.put (by rw[h.size];simpa using hd) hv,h.good⟩
def uI.tr{X:aa Nat}(h:uI C n E B a w)(t:Tr C X B w B' w'):uI C n E B' a w':=
 ⟨h.defers.step t.keep,h.size,λi u hi=>let ⟨v,h1,h2⟩:=h.slots i u hi;⟨v,h1,h2.mono t.keep⟩,t.good⟩
end
def Hd(A:Nat->Prop)(B:aa cn)(w:World):Prop:=(∀r∈B,r.ok A w)/\∀b∈bC B,¬A b
def Good.hd{C:Cx}{B:aa cn}{w:World}(h:Good C B w):Hd (al C B) B w:=⟨h.res,λ_ hb hA=>hA.2 hb⟩
section
variable (P:Program) (E:Env) (B:aa cn) (o:Oper)
def Yp(av:AV):Prop:=∀(A:Nat->Prop) (w:World) (S:Operand->Value),Hd A B w->P9 A w E S->
 ∃v,Rel A w av v/\∀w':World,(∀b,b<w.heap.size->(A b\/b∈bC B)->w'.heap[b]? =w.heap[b]?)->(execOp S o).run P w'= .ok (.value v) w'
def Yv(C:Cx)(X:aa Nat)(N:AV->aa cn->Prop):Prop:=∀(w:World) (S:Operand->Value),Good C B w->P9 (al C B) w E S->
 ∃v w' av B',N av B'/\Tr C X B w B' w'/\(execOp S o).run P w= .ok (.value v) w'/\Rel (al C B') w' av v
def Yu(C:Cx)(X:aa Nat)(B':aa cn):Prop:=∀(w:World) (S:Operand->Value),Good C B w->P9 (al C B) w E S->
 ∃w',Tr C X B w B' w'/\(execOp S o).run P w= .ok .skip w'
def Yc(C:Cx)(X:aa Nat)(N:AV->aa cn->Prop):Prop:=∀(w:World) (S:Operand->Value),Good C B w->P9 (al C B) w E S->
 ∃f args,(execOp S o).run P w= .ok (.enter f args) w/\Calls P f args w λe w'=>∃v av B',e= .returned v/\N av B'/\Tr C X B w B' w'/\Rel (al C B') w' av v
def ri(ops:Array Oper):af Bool:=
 match o.guard with
 |none=>V O
 |some (j,want)=>match (ops[j]?).bind (·.dst)with
  |none=>I
  |some t=>match Env.get E t with
   |some (.lit (.bool b))=>V (b==want)
   |some (.lit (.tuple _))=>V G
   |_=>I
end
def ri.spec{A:Nat->Prop}{w:World}{E:Env}{o:Oper}{ops:Array Oper}{tmps:Array Value}{b:Bool}(h:mh A w E tmps)(hw:ri E o ops=V b):Region.wanted o (yielded ops tmps)=b:=by
 unfold ri at hw;unfold Region.wanted;cases hg:o.guard with
 |none=>rw[hg]at hw;simpa using hw
 |some gw=>
  obtain⟨j,want⟩:=gw;rw[hg]at hw;simp only at hw ⊢;cases ht:(ops[j]?).bind (·.dst)with
  |none=>rw[ht]at hw;cases hw
  |some t=>
   rw[ht]at hw;simp only at hw;cases he:Env.get E t with
   |none=>rw[he]at hw;cases hw
   |some u=>
    obtain⟨v,hv,hr⟩:=h t u he;rw[he]at hw;have hy:yielded ops tmps j=match v with| .bool b=>V b|_=>I:=by
     unfold yielded;rw[ht];simp only[Option.bind_some,hv];cases v<;>rfl
    cases u with
    |lit u=>
     have hvu:=hr.cM;subst hvu;cases v<;>simp only at hw hy<;>first|(cases hw;done)|skip
     ·simp_all
     ·simp_all
    |_=>cases hw
def Q1(C:Cx)(n:Nat)(K:Env->aa cn->Prop)(ds:aa Deferred):Exit->Act->World->Prop:=λe a w=>e= .normal/\a.defers=ds/\∃E B,uI C n E B a w/\K E B
section
variable {P:Program} {C:Cx} {n:Nat} {ops:Array Oper} {K:Env->aa cn->Prop} {rest:aa Oper} {E E':Env} {B B':aa cn} {o:Oper} {av:AV} {d:Nat} {X:aa Nat} {N:AV->aa cn->Prop}
end
structure Bs (X:List Nat) (A1:Nat->Prop) (w1:World) (σS:List cn):Prop where
 hd:Hd A1 σS w1
 nA:∀b,A1 b->b∉X
 nS:∀b∈bC σS,b∉X
def S1(X:aa Nat)(w1 w:World):Prop:=w1.heap.size<=w.heap.size/\∀b,b<w1.heap.size->b∉X->w.heap[b]? =w1.heap[b]?
section
variable {P:Program} {C:Cx} {n:Nat} {ops:Array Oper} {X X':aa Nat} {A1:Nat->Prop} {w1:World} {σS:aa cn} {K:Env->aa cn->Prop} {fuel:Nat} {listed:Array Bool} {i:Nat} {Eb E:Env} {B B':aa cn} {o:Oper} {av:AV} {d:Nat} {N:AV->aa cn->Prop}
end
def CW(P:Program)(C:Cx)(n:Nat)(c:Code)(ae:Exit->Env->aa cn->Prop)(E:Env)(B:aa cn):Prop:=
 ∀a w,uI C n E B a w->c.wp P (λe a' w'=>∃E' B',uI C n E' B' a' w'/\ae e E' B') a w
section
variable {P:Program} {C:Cx} {n:Nat} {c x y:Code} {ae Q':Exit->Env->aa cn->Prop} {E E':Env} {B B':aa cn}
def Xi{a:Act}{w:World}{cnd:Operand}{b:Bool}(ha:uI C n E B a w)(hc:E.ev cnd=V (.lit (.bool b))):a.eval cnd= .bool b:=by
 exact(ha.slots.ops _ _ hc).cM
def Good.drew{w:World}(h:Good C B w):Good C B w.drew:=
 ⟨h.kept.trans (Kp.drew w) (by simp),λr hr=>(h.res r hr).mono (λb _ hA=>⟨hA,rfl⟩) (λ_ _=>rfl),h.Il,h.own⟩
def uI.drew{a:Act}{w:World}(h:uI C n E B a w):uI C n E B a w.drew:=
 ⟨h.defers,h.size,λi u hi=>let ⟨v,h1,h2⟩:=h.slots i u hi;⟨v,h1,h2.mono λ_ _ hA=>⟨hA,rfl⟩⟩,h.good.drew⟩
def qF{B B':aa cn}(h:∀r∈B',r∈B):∀b∈bC B',b∈bC B:=λb hb=>by
 obtain⟨r,h1,h2⟩:=bS.1 hb;exact bS.2 ⟨r,h r h1,h2⟩
def uI.less{a:Act}{w:World}(h:uI C n E B a w)(hs:List.Sublist B' B):uI C n E B' a w:=by
 have hm:∀r∈B',r∈B:=λr hr=>hs.subset hr;have hal:∀b,al C B b->al C B' b:=λb hb=>⟨hb.1,λhx=>hb.2 (qF hm b hx)⟩;exact⟨h.defers.step (λb _ hA=>⟨hal b hA,rfl⟩),h.size,λi u hi=>let ⟨v,h1,h2⟩:=h.slots i u hi;⟨v,h1,h2.mono λb _ hA=>⟨hal b hA,rfl⟩⟩,
  ⟨h.good.kept,λr hr=>(h.good.res r (hm r hr)).mono (λb _ hA=>⟨hal b hA,rfl⟩) (λ_ _=>rfl),h.good.Il.sublist (hs.filterMap _),λb hb=>h.good.own b (qF hm b hb)⟩⟩
def uI.perm{a:Act}{w:World}(h:uI C n E B a w)(hp:List.Perm B B'):uI C n E B' a w:=by
 have hb:∀b,b∈bC B'↔b∈bC B:=λb=>(hp.filterMap _).symm.mem_iff;have hal:∀b,al C B b->al C B' b:=λb hA=>⟨hA.1,λhx=>hA.2 ((hb b).1 hx)⟩;exact⟨h.defers.step (λb _ hA=>⟨hal b hA,rfl⟩),h.size,λi u hi=>let ⟨v,h1,h2⟩:=h.slots i u hi;⟨v,h1,h2.mono λb _ hA=>⟨hal b hA,rfl⟩⟩,
  ⟨h.good.kept,λr hr=>(h.good.res r (hp.mem_iff.2 hr)).mono (λb _ hA=>⟨hal b hA,rfl⟩) (λ_ _=>rfl),(hp.filterMap _).nodup_iff.1 h.good.Il,λb hx=>h.good.own b ((hb b).1 hx)⟩⟩
end
end Go.Iv
end
noncomputable section
namespace Go.Iv
variable [U:tf]
open Go Go.RowKit
def ur(k:IntKind)(x y:Int):Int:=k.wrap ((BitVec.ofInt k.bits x&&&BitVec.ofInt k.bits y).toNat)
def bOr(k:IntKind)(x y:Int):Int:=k.wrap ((BitVec.ofInt k.bits x|||BitVec.ofInt k.bits y).toNat)
def as1(k:IntKind)(x y:Int):Int:=k.wrap ((BitVec.ofInt k.bits x^^^BitVec.ofInt k.bits y).toNat)
def atg(k:IntKind)(x y:Int):Int:=k.wrap ((BitVec.ofInt k.bits x&&& ~~~ BitVec.ofInt k.bits y).toNat)
def nh(k:IntKind)(x y:Int):Int:=k.wrap (x*2^(min y.toNat k.bits))
def cT(k:IntKind)(x y:Int):Int:=x.fdiv (2^(min y.toNat k.bits))
abbrev b9.i{dh:Nat->Type}(n:Int):b9 dh:= .lit (.int .i64 n)
abbrev b9.n{dh:Nat->Type}(k:IntKind)(n:Int):b9 dh:= .lit (.int k n)
abbrev b9.b{dh:Nat->Type}(b:Bool):b9 dh:= .lit (.bool b)
abbrev b9.s{dh:Nat->Type}(s:ByteArray):b9 dh:= .lit (.string s)
section
variable {A:Nat->Prop} {w:World} {as0 bs:aa AV} {us vs:aa Value} {a:AV} {v:Value}
def bO.nil:bO A w [] []:=⟨rfl,λj a v h=>by cases h⟩
def bO.cons(h:Rel A w a v)(hs:bO A w as0 us):bO A w (a::as0) (v::us):=by
 refine⟨by simp[hs.1],λj x y h1 h2=> ?_⟩;cases j with
 |zero=>simp at h1 h2;subst h1 h2;exact h
 |succ j=>exact hs.2 j x y (by simpa using h1) (by simpa using h2)
def bO.head(h:bO A w (a::as0) us):∃v us',us=v::us'/\Rel A w a v/\bO A w as0 us':=by
 match us,h with
 |[],h=>exact ep h.1 (by simp)
 |v::us',h=>exact⟨v,us',rfl,h.2 0 a v rfl rfl,by simpa using h.1,λj x y h1 h2=>h.2 (j+1) x y (by simpa using h1) (by simpa using h2)⟩
def bO.app(h:bO A w as0 us)(h':bO A w bs vs):bO A w (as0++bs) (us++vs):=by
 refine⟨by simp[h.1,h'.1],λj x y h1 h2=> ?_⟩;rw[xx]at h1 h2;rw[h.1]at h2;split at h1
 ·rw[bJ (by assumption)]at h2;exact h.2 j x y h1 h2
 ·rw[bN (by assumption)]at h2;exact h'.2 _ x y h1 h2
def bO.take(n:Nat)(h:bO A w as0 us):bO A w (as0.take n) (us.take n):=by
 refine⟨by simp[h.1],λj x y h1 h2=> ?_⟩;rw[yE]at h1 h2;split at h1
 ·rw[bJ (by assumption)]at h2;exact h.2 j x y h1 h2
 ·cases h1
def bO.drop(n:Nat)(h:bO A w as0 us):bO A w (as0.drop n) (us.drop n):=by
 refine⟨by simp[h.1],λj x y h1 h2=> ?_⟩;rw[yF]at h1 h2;exact h.2 _ x y h1 h2
def bO.get(h:bO A w as0 us){j:Nat}(hj:as0[j]? =V a):∃v,us[j]? =V v/\Rel A w a v:=by
 have hlt:j<zR us:=by rw[h.1];exact(z7.1 hj).1
 exact⟨us[j],zq hlt,h.2 j a _ hj (zq hlt)⟩
def bO.lits(us:aa Value):bO A w (us.map .lit) us:=⟨by simp,λj a v h1 h2=>by
 rw[ye,h2]at h1;cases h1;exact .lit v⟩
def Rel.pS{cs:aa AV}(h:bO A w cs us):Rel A w (.agg cs) (.agg us.toArray):= .agg cs us h.1 h.2
def Rel.G2{cs:aa AV}(h:bO A w cs us):Rel A w (.jf cs) (.tuple us.toArray):= .jf cs us h.1 h.2
end
section
variable {A:Nat->Prop} {w:World} {v:Value} {cs:aa AV}
def Rel.oI(h:Rel A w (.agg cs) v):∃us:aa Value,v= .agg us.toArray/\bO A w cs us:=by
 generalize ha:b9.agg cs=a at h;cases h with
 |agg cs us hl hr=>cases ha;exact⟨us,rfl,hl,hr⟩
 |_=>cases ha
def Rel.T9(h:Rel A w (.jf cs) v):∃us:aa Value,v= .tuple us.toArray/\bO A w cs us:=by
 generalize ha:b9.jf cs=a at h;cases h with
 |jf cs us hl hr=>cases ha;exact⟨us,rfl,hl,hr⟩
 |_=>cases ha
def Rel.abD{f:Fn}(h:Rel A w (.fn f cs) v):∃us:aa Value,v= .func f #[] us.toArray/\bO A w cs us:=by
 generalize ha:b9.fn f cs=a at h;cases h with
 |fn f cs us hl hr=>cases ha;exact⟨us,rfl,hl,hr⟩
 |_=>cases ha
def Rel.Ea(h:Rel A w (.fp cs) v):∃b o us,v= .pointer (V ⟨b,o,I⟩)/\b<w.heap.size/\A b/\(∀(j:Nat) u,us[j]? =V u->w.cell? ⟨b,o+j,I⟩=V u)/\bO A w cs us:=by
 generalize ha:b9.fp cs=a at h;cases h with
 |fp cs b o us hb hA hl hc hr=>cases ha;exact⟨b,o,us,rfl,hb,hA,hc,hl,hr⟩
 |_=>cases ha
def Rel.Ht{u:Value}{k:Nat}(h:Rel A w (.rp u k) v):∃g,gH u=V g/\v= .pointer (V ⟨g,k,I⟩):=by
 generalize ha:b9.rp u k=a at h;cases h with
 |rp u k g h=>cases ha;exact⟨g,h,rfl⟩
 |_=>cases ha
def Rel.vK{q:Nat}{l:aa (U.dh q)}(h:Rel A w (.sl q l) v):∃p cap,∃u:Nat->Nat->Value,v= .slice p (zR l) cap/\zR l<=9223372036854775807/\zR l<=cap/\(∀i,i<zR l->zR (U.cells q l[i]!)=(U.sz q))/\
  (∀i,i<zR l->∃b off,p=V ⟨b,off,I⟩/\b<w.heap.size/\A b/\∀j,j<(U.sz q)->w.cell? ⟨b,off+i*(U.sz q)+j,I⟩=V (u i j))/\∀i j a,i<zR l->(U.cells q l[i]!)[j]? =V a->Rel A w a (u i j):=by
 generalize ha:b9.sl q l=a at h;cases h with
 |sl q l p cap u hl hcap hz hc hr=>
  cases ha;exact⟨p,cap,u,rfl,hl,hcap,hz,hc,hr⟩
 |_=>cases ha
def Rel.aHI{q:Nat}{l:aa (U.dh q)}{p:af Addr}{n cap:Nat}(h:Rel A w (.sl q l) (.slice p n cap)){i:Nat}(hi:i<zR l):
  ∃b off us,p=V ⟨b,off,I⟩/\b<w.heap.size/\A b/\zR us=(U.sz q)/\(∀(j:Nat) u,us[j]? =V u->w.cell? ⟨b,off+i*(U.sz q)+j,I⟩=V u)/\bO A w (U.cells q l[i]!) us:=by
 obtain⟨p',cap',u,hv,_,_,h1,h2,h3⟩:=h.vK;cases hv;obtain⟨b,off,hp,hb,hA,hc⟩:=h2 i hi;refine⟨b,off,(zN (U.sz q)).map (u i),hp,hb,hA,by simp,λj v hj=> ?_,by rw[zu,we,h1 i hi],λj a v ha hv=> ?_⟩
 ·rw[ye]at hj;by_cases hlt:j<(U.sz q)
  ·simp_all
  ·simp_all
 ·have hlt:j<(U.sz q):=by rw[<-h1 i hi];exact(z7.1 ha).1
  rw[ye,List.getElem?_range hlt]at hv;cases hv;exact h3 i j a hi ha
end
def gv.len{w:World}{v:Value}{T:TypeId}{sz n:Nat}{us:aa Value}(h:gv w v T sz n us):∃p cap,v= .slice p n cap/\n<=cap:=by
 rcases h.2 with ⟨p,rfl,rfl⟩|⟨g,cap,cur,rfl,hg,h1,_⟩
 ·simp
 ·exact⟨_,_,rfl,h1⟩
def gv.at{w:World}{v:Value}{T:TypeId}{sz n:Nat}{us:aa Value}(h:gv w v T sz n us)(hn:0<n):∃g cap cur,v= .slice (V ⟨g,0,I⟩) n (cap+1)/\gH v=V g/\Blk w g cur T/\n<=cap+1/\cap+1<=maxLen/\cur.size=(cap+1)*sz/\cur.toList.take (n*sz)=us:=by
 rcases h.2 with ⟨p,rfl,rfl⟩|⟨g,cap,cur,rfl,hg,h1⟩
 ·cases hn
 ·exact⟨g,cap,cur,rfl,rfl,hg,h1⟩
def gv.cells{w:World}{v:Value}{T:TypeId}{sz n:Nat}{us:aa Value}(h:gv w v T sz n us){g:Nat}(hg:gH v=V g):∀(j:Nat) u,us[j]? =V u->w.cell? ⟨g,j,I⟩=V u:=λj u hj=>by
 rcases h.2 with ⟨p,rfl,rfl⟩|⟨g',cap,cur,rfl,q1,_,_,_,q2⟩
 ·cases p<;>cases hg
 ·cases hg;rw[<-q2,yE]at hj;split at hj
  ·exact Blk.cell q1 (by simpa using hj)
  ·cases hj
def Env.Ot(E:Env):aa Operand->af (aa AV)
 |[]=>V []
 |x::xs=>match E.ev x,Env.Ot E xs with
  |some a,V as0=>V (a::as0)
  |_,_=>I
def Env.Kb{A:Nat->Prop}{w:World}{E:Env}{S:Operand->Value}(h:P9 A w E S):∀{xs:aa Operand} {as0:aa AV},E.Ot xs=V as0->bO A w as0 (xs.map S)
 |[],as0,he=>by cases he;exact bO.nil
 |x::xs,as0,he=>by
  unfold Env.Ot at he;cases h1:E.ev x with
  |none=>rw[h1]at he;cases he
  |some a=>
   cases h2:E.Ot xs with
   |none=>rw[h1,h2]at he;cases he
   |some as'=>
    rw[h1,h2]at he;cases he;exact bO.cons (h x a h1) (Env.Kb h h2)
section
variable {P:Program} {E:Env} {B:aa cn} {o:Oper} {T T' e:TypeId} {x y z:Operand} {av bv:AV} {v u:Value} {m n:Int} {b:Bool} {k:IntKind}
def Yp.lits(h:∀S:Operand->Value,(∀x u,E.ev x=V (.lit u)->S x=u)->∀w,(execOp S o).run P w= .ok (.value v) w):Yp P E B o (.lit v):=λA w S _ ar=>
 ⟨v, .lit v,λw' _=>h S (λx u hx=>(ar x _ hx).cM) w'⟩
def Yp.move(ho:o.op= .move x)(hx:E.ev x=V av):Yp P E B o av:=λA w S _ ar=>
 ⟨S x,ar _ _ hx,λw' _=>by simp[execOp,ho]⟩
def Yp.assign(ho:o.op= .assign x)(hx:E.ev x=V av):Yp P E B o av:=λA w S _ ar=>
 ⟨S x,ar _ _ hx,λw' _=>by simp[execOp,ho]⟩
def Yp.ayc(ho:o.op= .pick z x y)(hc:E.ev z=V (.b O))(hx:E.ev x=V av):Yp P E B o av:=λA w S _ ar=>
 ⟨S x,ar _ _ hx,λw' _=>by simp[execOp,ho,(ar _ _ hc).cM,asBool]⟩
def Yp.aAg(ho:o.op= .pick z x y)(hc:E.ev z=V (.b G))(hx:E.ev y=V av):Yp P E B o av:=λA w S _ ar=>
 ⟨S y,ar _ _ hx,λw' _=>by simp[execOp,ho,(ar _ _ hc).cM,asBool]⟩
def Yp.add(ho:o.op= .binOp .add T x y T')(hx:E.ev x=V (.n k m))(hy:E.ev y=V (.n k n)):Yp P E B o (.n k (k.wrap (m+n))):=Yp.lits λS ar w=>by
 simp[execOp,ho,ar _ _ hx,ar _ _ hy,eqGuard,binOp,Op.intArith]
def Yp.sub(ho:o.op= .binOp .sub T x y T')(hx:E.ev x=V (.n k m))(hy:E.ev y=V (.n k n)):Yp P E B o (.n k (k.wrap (m-n))):=Yp.lits λS ar w=>by
 simp[execOp,ho,ar _ _ hx,ar _ _ hy,eqGuard,binOp,Op.intArith]
def Yp.mul(ho:o.op= .binOp .mul T x y T')(hx:E.ev x=V (.n k m))(hy:E.ev y=V (.n k n)):Yp P E B o (.n k (k.wrap (m*n))):=Yp.lits λS ar w=>by
 simp[execOp,ho,ar _ _ hx,ar _ _ hy,eqGuard,binOp,Op.intArith]
def Yp.quo(ho:o.op= .binOp .quo T x y T')(hx:E.ev x=V (.n k m))(hy:E.ev y=V (.n k n))(h:n≠0):Yp P E B o (.n k (k.wrap (m.tdiv n))):=Yp.lits λS ar w=>by
 simp[execOp,ho,ar _ _ hx,ar _ _ hy,eqGuard,binOp,Op.intDiv,h]
def Yp.rem(ho:o.op= .binOp .rem T x y T')(hx:E.ev x=V (.n k m))(hy:E.ev y=V (.n k n))(h:n≠0):Yp P E B o (.n k (m.tmod n)):=Yp.lits λS ar w=>by
 simp[execOp,ho,ar _ _ hx,ar _ _ hy,eqGuard,binOp,Op.intDiv,h]
def Yp.and(ho:o.op= .binOp .and T x y T')(hx:E.ev x=V (.n k m))(hy:E.ev y=V (.n k n)):Yp P E B o (.n k (ur k m n)):=Yp.lits λS ar w=>by
 simp[execOp,ho,ar _ _ hx,ar _ _ hy,eqGuard,binOp,Op.intBits,ur]
def Yp.or(ho:o.op= .binOp .or T x y T')(hx:E.ev x=V (.n k m))(hy:E.ev y=V (.n k n)):Yp P E B o (.n k (bOr k m n)):=Yp.lits λS ar w=>by
 simp[execOp,ho,ar _ _ hx,ar _ _ hy,eqGuard,binOp,Op.intBits,bOr]
def Yp.xor(ho:o.op= .binOp .xor T x y T')(hx:E.ev x=V (.n k m))(hy:E.ev y=V (.n k n)):Yp P E B o (.n k (as1 k m n)):=Yp.lits λS ar w=>by
 simp[execOp,ho,ar _ _ hx,ar _ _ hy,eqGuard,binOp,Op.intBits,as1]
def Yp.andNot(ho:o.op= .binOp .andNot T x y T')(hx:E.ev x=V (.n k m))(hy:E.ev y=V (.n k n)):Yp P E B o (.n k (atg k m n)):=Yp.lits λS ar w=>by
 simp[execOp,ho,ar _ _ hx,ar _ _ hy,eqGuard,binOp,Op.intBits,atg]
def Yp.shl{k':IntKind}(ho:o.op= .binOp .shl T x y T')(hx:E.ev x=V (.n k m))(hy:E.ev y=V (.n k' n))(h:0<=n):Yp P E B o (.n k (nh k m n)):=Yp.lits λS ar w=>by
 have:¬n<0:=aq;simp[execOp,ho,ar _ _ hx,ar _ _ hy,eqGuard,binOp,Op.shift,nh,this]
def Yp.shr{k':IntKind}(ho:o.op= .binOp .shr T x y T')(hx:E.ev x=V (.n k m))(hy:E.ev y=V (.n k' n))(h:0<=n):Yp P E B o (.n k (cT k m n)):=Yp.lits λS ar w=>by
 have:¬n<0:=aq;simp[execOp,ho,ar _ _ hx,ar _ _ hy,eqGuard,binOp,Op.shift,cT,this]
def Yp.lss(ho:o.op= .binOp .lss T x y T')(hx:E.ev x=V (.n k m))(hy:E.ev y=V (.n k n)):Yp P E B o (.b (J (m<n))):=Yp.lits λS ar w=>by
 simp[execOp,ho,ar _ _ hx,ar _ _ hy,eqGuard,binOp,Op.intCmp]
def Yp.leq(ho:o.op= .binOp .leq T x y T')(hx:E.ev x=V (.n k m))(hy:E.ev y=V (.n k n)):Yp P E B o (.b (J (m<=n))):=Yp.lits λS ar w=>by
 simp[execOp,ho,ar _ _ hx,ar _ _ hy,eqGuard,binOp,Op.intCmp]
def Yp.gtr(ho:o.op= .binOp .gtr T x y T')(hx:E.ev x=V (.n k m))(hy:E.ev y=V (.n k n)):Yp P E B o (.b (J (n<m))):=Yp.lits λS ar w=>by
 simp[execOp,ho,ar _ _ hx,ar _ _ hy,eqGuard,binOp,Op.intCmp]
def Yp.geq(ho:o.op= .binOp .geq T x y T')(hx:E.ev x=V (.n k m))(hy:E.ev y=V (.n k n)):Yp P E B o (.b (J (n<=m))):=Yp.lits λS ar w=>by
 simp[execOp,ho,ar _ _ hx,ar _ _ hy,eqGuard,binOp,Op.intCmp]
def Yp.eql(ho:o.op= .binOp .eql T x y T')(hx:E.ev x=V (.n k m))(hy:E.ev y=V (.n k n)):Yp P E B o (.b (J (m=n))):=Yp.lits λS ar w=>by
 have:(m==n)=J (m=n):=rfl;simp[execOp,ho,ar _ _ hx,ar _ _ hy,eqGuard,binOp,Op.intCmp,this]
def Yp.neq(ho:o.op= .binOp .neq T x y T')(hx:E.ev x=V (.n k m))(hy:E.ev y=V (.n k n)):Yp P E B o (.b (!J (m=n))):=Yp.lits λS ar w=>by
 have:(m !=n)= !J (m=n):=rfl;simp[execOp,ho,ar _ _ hx,ar _ _ hy,eqGuard,binOp,Op.intCmp,this]
def Yp.not(ho:o.op= .unOp .not T x)(hx:E.ev x=V (.b b)):Yp P E B o (.b (!b)):=Yp.lits λS ar w=>by
 simp[execOp,ho,ar _ _ hx,Op.unary]
def Yp.neg(ho:o.op= .unOp .neg T x)(hx:E.ev x=V (.n k n)):Yp P E B o (.n k (k.wrap (0-n))):=Yp.lits λS ar w=>by
 simp[execOp,ho,ar _ _ hx,Op.unary,Op.intArith]
def Yp.max(ho:o.op= .call {callee:= .builtin .max,args:=#[x,y],argTypes:=#[T,T']})(hx:E.ev x=V (.n k m))(hy:E.ev y=V (.n k n)):Yp P E B o (.n k (if m<n then n else m)):=Yp.lits λS ar w=>by
 simp[execOp,ho,resolve,invoke,builtin,Builtin.max_,Builtin.max2,ar _ _ hx,ar _ _ hy]
def Yp.min(ho:o.op= .call {callee:= .builtin .min,args:=#[x,y],argTypes:=#[T,T']})(hx:E.ev x=V (.n k m))(hy:E.ev y=V (.n k n)):Yp P E B o (.n k (if n<m then n else m)):=Yp.lits λS ar w=>by
 simp[execOp,ho,resolve,invoke,builtin,Builtin.min_,Builtin.min2,ar _ _ hx,ar _ _ hy]
def Yp.atF(ho:o.op= .call {callee:= .builtin .len,args:=#[x],argTypes:=#[T]})(hx:E.ev x=V (.lit (.slice I 0 0)))(hT:P.underlying T=V (.slice e)):Yp P E B o (.i 0):=Yp.lits λS ar w=>by
 simp[execOp,ho,resolve,invoke,builtin,Builtin.len_,ar _ _ hx,run_underlying hT,goInt]
def Yp.ayZ{q:Nat}{l:aa (U.dh q)}(ho:o.op= .call {callee:= .builtin .len,args:=#[x],argTypes:=#[T]})(hx:E.ev x=V (.sl q l))(hT:P.underlying T=V (.slice e)):Yp P E B o (.i (zR l:Int)):=λA w S _ ar=>by
 obtain⟨p,cap,u,hv,_⟩:=(ar _ _ hx).vK;exact⟨_, .lit _,λw' _=>by simp[execOp,ho,resolve,invoke,builtin,Builtin.len_,hv,run_underlying hT,goInt]⟩
def Yp.avy{q:Nat}{l:aa (U.dh q)}(i:Nat)(ho:o.op= .call {callee:= .builtin .len,args:=#[x],argTypes:=#[T]})(hx:E.ev x=V (.lit v))(aw:B[i]? =V (.row v q l))(hT:P.underlying T=V (.slice e)):Yp P E B o (.i (zR l:Int)):=λA w S hd ar=>by
 obtain⟨us,h1,_⟩:=hd.1 _ (List.mem_of_getElem? aw);obtain⟨p,cap,hv,_⟩:=h1.len;have hx':=(ar _ _ hx).cM;exact⟨_, .lit _,λw' _=>by simp[execOp,ho,resolve,invoke,builtin,Builtin.len_,hx',hv,run_underlying hT,goInt]⟩
def Yp.atW{s:ByteArray}(ho:o.op= .call {callee:= .builtin .len,args:=#[x],argTypes:=#[T]})(hx:E.ev x=V (.s s))(hT:P.underlying T=V .string):Yp P E B o (.i (s.size:Int)):=Yp.lits λS ar w=>by
 simp[execOp,ho,resolve,invoke,builtin,Builtin.len_,ar _ _ hx,goInt,run_underlying hT]
def Yp.func{fn:Fn}{fs cs:Array Operand}{as0:aa AV}(ho:o.op= .makeFunc fn fs cs)(h0:fs=#[])(hc:E.Ot cs.toList=V as0):Yp P E B o (.fn fn as0):=λA w S _ ar=>by
 have h:=Env.Kb ar hc;exact⟨_, .fn fn as0 _ h.1 h.2,λw' _=>by
  have:cs.map S=(cs.toList.map S).toArray:=by apply Array.ext';simp
  simp[execOp,ho,Instr.makeFunc,h0,this]⟩
def Yp.extract{i:Nat}{cs:aa AV}(ho:o.op= .extract x i)(hx:E.ev x=V (.jf cs))(hv:cs[i]? =V av):Yp P E B o av:=λA w S _ ar=>by
 obtain⟨us,h1,h2⟩:=(ar _ _ hx).T9;obtain⟨v,h3,h4⟩:=h2.get hv;exact⟨v,h4,λw' _=>by simp[execOp,ho,Instr.extract,h1,h3]⟩
def Yp.Zn{a:Addr}(ho:o.op= .nilCheck x)(hx:E.ev x=V (.lit (.pointer (V a)))):Yp P E B o (.lit (.pointer (V a))):=Yp.lits λS ar w=>by
 simp[execOp,ho,ar _ _ hx]
def Yp.XM{cs:aa AV}(ho:o.op= .nilCheck x)(hx:E.ev x=V (.fp cs)):Yp P E B o (.fp cs):=λA w S _ ar=>by
 obtain⟨b,of,us,h1,_⟩:=(ar _ _ hx).Ea;exact⟨S x,ar _ _ hx,λw' _=>by simp[execOp,ho,h1]⟩
def Yp.X7{k:Nat}(ho:o.op= .nilCheck x)(hx:E.ev x=V (.rp v k)):Yp P E B o (.rp v k):=λA w S _ ar=>by
 obtain⟨g,_,h1⟩:=(ar _ _ hx).Ht;exact⟨S x,ar _ _ hx,λw' _=>by simp[execOp,ho,h1]⟩
def qx(b of k:Nat):(⟨b,of,I⟩:Addr).add k=⟨b,of+k,I⟩:=by unfold Addr.add;split<;>simp_all
def Yp.auq{fs:Array Field}{f:Field}{i b' of sz:Nat}(ho:o.op= .fieldAddr T x i)(hx:E.ev x=V (.lit (.pointer (V ⟨b',of,I⟩))))(hT:P.underlying T=V (.struct fs))(hf:fs[i]? =V f)(hs:(P.info? f.type).map (·.size)=V (sz+1)):
  Yp P E B o (.lit (.pointer (V ⟨b',of+f.offset,I⟩))):=Yp.lits λS ar w=>by
 obtain⟨j,hj,hj'⟩:=zl.1 hs;simp[execOp,ho,Instr.fieldAt,ar _ _ hx,run_underlying hT,hf,Instr.sureAddr,fieldPlace,sizeOf,typeInfo,hj,hj',qx]
def Yp.arD{fs:Array Field}{f:Field}{i sz:Nat}{cs:aa AV}(ho:o.op= .fieldAddr T x i)(hx:E.ev x=V (.fp cs))(hT:P.underlying T=V (.struct fs))(hf:fs[i]? =V f)(hs:(P.info? f.type).map (·.size)=V (sz+1)):
  Yp P E B o (.fp (cs.drop f.offset)):=λA w S _ ar=>by
 obtain⟨j,hj,hj'⟩:=zl.1 hs;obtain⟨b,of,us,h1,hb,hA,hc,hr⟩:=(ar _ _ hx).Ea;refine⟨_, .fp _ b (of+f.offset) (us.drop f.offset) hb hA (hr.drop _).1 (λj v hj=> ?_) (hr.drop _).2,λw' _=>by simp[execOp,ho,Instr.fieldAt,h1,run_underlying hT,hf,Instr.sureAddr,fieldPlace,sizeOf,typeInfo,hj,hj',qx]⟩;rw[yG];simp_all
def Yp.aqz{fs:Array Field}{f:Field}{i sz k:Nat}(ho:o.op= .fieldAddr T x i)(hx:E.ev x=V (.rp v k))(hT:P.underlying T=V (.struct fs))(hf:fs[i]? =V f)(hs:(P.info? f.type).map (·.size)=V (sz+1)):
  Yp P E B o (.rp v (k+f.offset)):=λA w S _ ar=>by
 obtain⟨j,hj,hj'⟩:=zl.1 hs;obtain⟨g,h1,h2⟩:=(ar _ _ hx).Ht;exact⟨_, .rp v _ g h1,λw' _=>by simp[execOp,ho,Instr.fieldAt,h2,run_underlying hT,hf,Instr.sureAddr,fieldPlace,sizeOf,typeInfo,hj,hj',qx]⟩
def Yp.agk{q:Nat}{l:aa (U.dh q)}(ho:o.op= .indexAddr T x y)(hx:E.ev x=V (.sl q l))(hy:E.ev y=V (.n k m))(hT:P.underlying T=V (.slice e))(hs:(P.info? e).map (·.size)=V (U.sz q))
  (hm:0<=m/\m<zR l):Yp P E B o (.fp (U.cells q l[m.toNat]!)):=λA w S _ ar=>by
 obtain⟨j,hj,hj'⟩:=zl.1 hs;have hr:=ar _ _ hx;obtain⟨p,cap,_,hv,_⟩:=hr.vK;rw[hv]at hr;obtain⟨b,off,us,hp,hb,hA,hl,hc,hL⟩:=hr.aHI (i:=m.toNat) aq;refine⟨_, .fp _ b (off+m.toNat*(U.sz q)) us hb hA hL.1 hc hL.2,λw' _=> ?_⟩;have hy':=(ar _ _ hy).cM;simp[execOp,ho,Instr.indexAt,hv,hp,hy',run_underlying hT,sizeOf,typeInfo,hj,hj',qx,asIntOf,hm]
def Yp.aeX{q:Nat}{l:aa (U.dh q)}(i:Nat)(ho:o.op= .indexAddr T x y)(hx:E.ev x=V (.lit v))(aw:B[i]? =V (.row v q l))(hy:E.ev y=V (.n k m))(hT:P.underlying T=V (.slice e))(hs:(P.info? e).map (·.size)=V (U.sz q))
  (hm:0<=m/\m<zR l):Yp P E B o (.rp v (m.toNat*(U.sz q))):=λA w S hd ar=>by
 obtain⟨j,hj,hj'⟩:=zl.1 hs;obtain⟨us,h1,_⟩:=hd.1 _ (List.mem_of_getElem? aw);obtain⟨g,cap,cur,hv,hg,_⟩:=h1.at aq;have hx':=(ar _ _ hx).cM;have hy':=(ar _ _ hy).cM;refine⟨_, .rp v _ g hg,λw' _=> ?_⟩;simp[execOp,ho,Instr.indexAt,hx',hv,hy',run_underlying hT,sizeOf,typeInfo,hj,hj',qx,asIntOf,hm]
def Yp.auG{b' of sz n':Nat}(ho:o.op= .indexAddr T x y)(hx:E.ev x=V (.lit (.pointer (V ⟨b',of,I⟩))))(hy:E.ev y=V (.n k m))(hT:P.underlying T=V (.array n' e))(hs:(P.info? e).map (·.size)=V sz)
  (hm:0<=m/\m<n'):Yp P E B o (.lit (.pointer (V ⟨b',of+m.toNat*sz,I⟩))):=Yp.lits λS ar w=>by
 obtain⟨j,hj,hj'⟩:=zl.1 hs;simp[execOp,ho,Instr.indexAt,ar _ _ hx,ar _ _ hy,run_underlying hT,sizeOf,typeInfo,hj,hj',qx,asIntOf,hm,Instr.sureAddr]
def Yp.atZ{k' sz n':Nat}(ho:o.op= .indexAddr T x y)(hx:E.ev x=V (.rp v k'))(hy:E.ev y=V (.n k m))(hT:P.underlying T=V (.array n' e))(hs:(P.info? e).map (·.size)=V sz)
  (hm:0<=m/\m<n'):Yp P E B o (.rp v (k'+m.toNat*sz)):=λA w S _ ar=>by
 obtain⟨j,hj,hj'⟩:=zl.1 hs;obtain⟨g,h1,h2⟩:=(ar _ _ hx).Ht;have hy':=(ar _ _ hy).cM;exact⟨_, .rp v _ g h1,λw' _=>by simp[execOp,ho,Instr.indexAt,h2,hy',run_underlying hT,sizeOf,typeInfo,hj,hj',qx,asIntOf,hm,Instr.sureAddr]⟩
def Yp.aqd{sz n':Nat}{cs:aa AV}(ho:o.op= .indexAddr T x y)(hx:E.ev x=V (.fp cs))(hy:E.ev y=V (.n k m))(hT:P.underlying T=V (.array n' e))(hs:(P.info? e).map (·.size)=V sz)
  (hm:0<=m/\m<n'):Yp P E B o (.fp (cs.drop (m.toNat*sz))):=λA w S _ ar=>by
 obtain⟨j,hj,hj'⟩:=zl.1 hs;obtain⟨b,of,us,h1,hb,hA,hc,hr⟩:=(ar _ _ hx).Ea;have hy':=(ar _ _ hy).cM;refine⟨_, .fp _ b (of+m.toNat*sz) (us.drop (m.toNat*sz)) hb hA (hr.drop _).1 (λj v hj=> ?_) (hr.drop _).2,λw' _=>by simp[execOp,ho,Instr.indexAt,h1,hy',run_underlying hT,sizeOf,typeInfo,hj,hj',qx,asIntOf,hm,Instr.sureAddr]⟩;rw[yG];simp_all
def tE(P:Program)(T:TypeId):Prop:=∃d,P.underlying T=V d/\match d with| .struct _| .array _ _=>False|_=>True
def mT(h:tE P T)(w:World):(isAgg T).run P w= .ok G w:=by
 obtain⟨d,hd,hm⟩:=h;unfold isAgg;cases d<;>first|exact hm.elim|simp[run_underlying hd]
def iT{w:World}{a:Addr}(h:tE P T)(hc:w.cell? a=V v):(loadVar T a).run P w= .ok v w:=by
 unfold loadVar;simp[mT h,Sem.run,hc]
def uj(P:Program)(T:TypeId)(k:Nat):Prop:=(∃d,P.underlying T=V d/\match d with| .struct _| .array _ _=>True|_=>False)/\(P.info? T).map (·.size)=V k
def EX{k:Nat}(h:uj P T k)(w:World):(isAgg T).run P w= .ok O w:=by
 obtain⟨⟨d,hd,hm⟩,_⟩:=h;unfold isAgg;cases d<;>first|exact hm.elim|simp[run_underlying hd]
def run_loadCellsFrom{w:World}(a:Addr):∀(cs:aa Value) (i:Nat) (acc:Array Value),(∀j u,cs[j]? =V u->w.cell? (a.add (i+j))=V u)->(loadCellsFrom a i (zR cs) acc).run P w= .ok (acc++cs.toArray) w
 |[],i,acc,_=>by simp[loadCellsFrom]
 |c::cs,i,acc,h=>by
  have h0:=h 0 c rfl;rw[yj]at h0;simp only[yT,loadCellsFrom];have ih:=run_loadCellsFrom a cs (i+1) (acc.push c) λj u hj=>by
   have:=h (j+1) u (by simpa using hj)
   rwa [show i+(j+1)=i+1+j from aq]at this
  simp[Sem.run,h0,ih]
def iA{w:World}{a:Addr}{cs:aa Value}(h:uj P T (zR cs))(hc:∀j u,cs[j]? =V u->w.cell? (a.add j)=V u):(loadVar T a).run P w= .ok (.agg cs.toArray) w:=by
 obtain⟨i,hi,hi'⟩:=zl.1 h.2;have:=run_loadCellsFrom (P:=P) (w:=w) a cs 0 #[] (by simpa using hc);unfold loadVar;simp[EX h,sizeOf,typeInfo,hi,hi',loadCells,this]
def lH{w w':World}{b o:Nat}(h:w'.heap[b]? =w.heap[b]?):w'.cell? ⟨b,o,I⟩=w.cell? ⟨b,o,I⟩:=by simp[World.cell?,h]
def Yp.aue{cs:aa AV}(ho:o.op= .load T x)(hx:E.ev x=V (.fp cs))(hT:tE P T)(ha:cs[0]? =V av):Yp P E B o av:=λA w S _ ar=>by
 obtain⟨b,of,us,h1,hb,hA,hc,hr⟩:=(ar _ _ hx).Ea;obtain⟨v,h2,h3⟩:=hr.get ha;refine⟨v,h3,λw' hw=> ?_⟩;have hcell:w'.cell? ⟨b,of,I⟩=V v:=by rw[lH (hw b hb (.inl hA))];exact hc 0 v h2
 simp[execOp,ho,Instr.loadAt,h1,Instr.sureAddr,iT hT hcell]
def Yp.aqw{cs:aa AV}{n:Nat}(ho:o.op= .load T x)(hx:E.ev x=V (.fp cs))(hT:uj P T n)(hn:n<=zR cs):Yp P E B o (.agg (cs.take n)):=λA w S _ ar=>by
 obtain⟨b,of,us,h1,hb,hA,hc,hr⟩:=(ar _ _ hx).Ea;refine⟨_,Rel.pS (hr.take n),λw' hw=> ?_⟩;have hcell:∀j u,(us.take n)[j]? =V u->w'.cell? ((⟨b,of,I⟩:Addr).add j)=V u:=λj u hj=>by
  rw[qx,lH (hw b hb (.inl hA))];rw[yE]at hj;simp_all
 have hl:zR (us.take n)=n:=by rw[zA,hr.1];omega
 simp[execOp,ho,Instr.loadAt,h1,Instr.sureAddr,iA (by rw[hl];exact hT) hcell]
def Yp.au3{b' of:Nat}{cs:aa AV}{t:TypeId}(i:Nat)(ho:o.op= .load T x)(hx:E.ev x=V (.lit (.pointer (V ⟨b',of,I⟩))))(aw:B[i]? =V (.box b' t cs))(hT:tE P T)(ha:cs[of]? =V av):Yp P E B o av:=λA w S hd ar=>by
 have hm:=List.mem_of_getElem? aw;obtain⟨us,h1,hr⟩:=hd.1 _ hm;obtain⟨v,h2,h3⟩:=bO.get hr ha;have hx':=(ar _ _ hx).cM;refine⟨v,h3,λw' hw=> ?_⟩;have hcell:w'.cell? ⟨b',of,I⟩=V v:=by rw[lH (hw b' h1.lt (.inr (bS.2 ⟨_,hm,rfl⟩)))];exact h1.cell (by simpa using h2)
 simp[execOp,ho,Instr.loadAt,hx',Instr.sureAddr,iT hT hcell]
def Yp.auR{b' of n:Nat}{cs:aa AV}{t:TypeId}(i:Nat)(ho:o.op= .load T x)(hx:E.ev x=V (.lit (.pointer (V ⟨b',of,I⟩))))(aw:B[i]? =V (.box b' t cs))(hT:uj P T n)(hn:of+n<=zR cs):Yp P E B o (.agg ((cs.drop of).take n)):=λA w S hd ar=>by
 have hm:=List.mem_of_getElem? aw;obtain⟨us,h1,hr⟩:=hd.1 _ hm;have hx':=(ar _ _ hx).cM;refine⟨_,Rel.pS ((bO.drop of hr).take n),λw' hw=> ?_⟩;have hcell:∀j u,((us.drop of).take n)[j]? =V u->w'.cell? ((⟨b',of,I⟩:Addr).add j)=V u:=λj u hj=>by
  rw[qx,lH (hw b' h1.lt (.inr (bS.2 ⟨_,hm,rfl⟩)))];rw[yE]at hj;split at hj
  ·rw[yF]at hj;exact h1.cell (by simpa using hj)
  ·cases hj
 have hl:zR ((us.drop of).take n)=n:=by rw[zA,zV,hr.1];omega
 simp[execOp,ho,Instr.loadAt,hx',Instr.sureAddr,iA (by rw[hl];exact hT) hcell]
def Yp.aay{k of:Nat}{q:Nat}{l:aa (U.dh q)}(i m:Nat)(ho:o.op= .load T x)(hx:E.ev x=V (.rp v k))(aw:B[i]? =V (.row v q l))(hT:tE P T)(hk:k=m*(U.sz q)+of)(hm:m<zR l)(ha:(U.cells q l[m]!)[of]? =V av):Yp P E B o av:=λA w S hd ar=>by
 have hmem:=List.mem_of_getElem? aw;obtain⟨us,h1,h2,h3⟩:=hd.1 _ hmem;obtain⟨g,hg,hv⟩:=(ar _ _ hx).Ht;obtain⟨u,h4,h5⟩:=(h3 m hm).get ha;refine⟨u,h5,λw' hw=> ?_⟩;rw[yE]at h4;split at h4
 ·rw[yF]at h4;have hcell:w'.cell? ⟨g,k,I⟩=V u:=by rw[lH (hw g (h1.lt hg) (.inr (bS.2 ⟨_,hmem,hg⟩))),hk];exact h1.cells hg _ u h4
  simp[execOp,ho,Instr.loadAt,hv,Instr.sureAddr,iT hT hcell]
 ·cases h4
def Yp.atp{k of n:Nat}{q:Nat}{l:aa (U.dh q)}(i m:Nat)(ho:o.op= .load T x)(hx:E.ev x=V (.rp v k))(aw:B[i]? =V (.row v q l))(hT:uj P T n)(hk:k=m*(U.sz q)+of)(hm:m<zR l)(hn:of+n<=(U.sz q)):Yp P E B o (.agg (((U.cells q l[m]!).drop of).take n)):=λA w S hd ar=>by
 have hmem:=List.mem_of_getElem? aw;obtain⟨us,h1,h2,h3⟩:=hd.1 _ hmem;obtain⟨g,hg,hv⟩:=(ar _ _ hx).Ht;have hL:=h3 m hm;refine⟨_,Rel.pS ((hL.drop of).take n),λw' hw=> ?_⟩;have hcell:∀j u,((((us.drop (m*(U.sz q))).take (U.sz q)).drop of).take n)[j]? =V u->w'.cell? ((⟨g,k,I⟩:Addr).add j)=V u:=λj u hj=>by
  rw[qx,lH (hw g (h1.lt hg) (.inr (bS.2 ⟨_,hmem,hg⟩))),hk];rw[yE]at hj;split at hj
  ·rw[yF,yE]at hj;split at hj
   ·rw[yF]at hj;exact h1.cells hg _ u (by rw[yG];exact hj)
   ·cases hj
  ·cases hj
 have hl:zR ((((us.drop (m*(U.sz q))).take (U.sz q)).drop of).take n)=n:=by rw[zA,zV,hL.1,h2 m hm];omega
 simp[execOp,ho,Instr.loadAt,hv,Instr.sureAddr,iA (by rw[hl];exact hT) hcell]
end
def fI(r:cn)(B:aa cn):bC (r::B)=r.blk.toList++bC B:=by
 unfold bC;grind
def ia(B j:aa cn):bC (B++j)=bC B++bC j:=by simp[bC]
def qQ{C:Cx}{B:aa cn}{w w':World}{r:cn}(h:Good C B w)(hk:Kp [] w w')(hr:r.blk=I\/r.blk=V w.heap.size)(hok:r.ok (al C (r::B)) w'):Tr C [] B w (r::B) w':=by
 have hlt:∀b∈bC B,b<w.heap.size:=λb hb=>by
  obtain⟨s,h1,h2⟩:=bS.1 hb;exact(h.res s h1).lt h2
 have hal:∀b,b<w.heap.size->al C B b->al C (r::B) b:=λb hb hA=>⟨hA.1,λhx=>by
  rw[fI]at hx;rcases zP.1 hx with hx|hx
  ·simp_all
  ·exact hA.2 hx⟩
 have hsame:∀b,b<w.heap.size->w'.heap[b]? =w.heap[b]? :=λb hb=>hk.block b hb (by simp);refine⟨⟨h.kept.trans hk (by simp),λs hs=> ?_,?_,λb hb=> ?_⟩,hk,λb hb hA=>⟨hal b hb hA,by simp⟩⟩
 ·rcases zy.1 hs with rfl|hs
  ·omega
  ·exact(h.res s hs).mono (λb hb hA=>⟨hal b hb hA,hsame b hb⟩) (λb hb=>hsame b ((h.res s hs).lt hb))
 ·rw[fI];rcases hr with hr|hr
  ·rw[hr];simpa using h.Il
  ·rw[hr];simp only[xN,xy,List.nodup_cons];exact⟨λhx=>by have:=hlt _ hx;omega,h.Il⟩
 ·rw[fI]at hb;rcases zP.1 hb with hx|hx
  ·rcases hr with hr|hr<;>rw[hr]at hx<;>simp at hx;exact .inr (by rw[hx];exact h.kept.size)
  ·exact h.own b hx
def Ck{B:aa cn}{i:Nat}{r r':cn}(h:B[i]? =V r):B=B.take i++r::B.drop (i+1)/\B.set i r'=B.take i++r'::B.drop (i+1):=by
 obtain⟨hi,hr⟩:=z7.1 h;refine⟨?_,wB .. |>.trans (by rw[bJ hi])⟩;rw[<-hr,<-yN hi,xe]
def Gj{B:aa cn}{i:Nat}{r r':cn}(h:B[i]? =V r)(hb:r'.blk=r.blk):bC (B.set i r')=bC B:=by
 obtain⟨q1,q2⟩:=Ck (r':=r') h;have e:bC B=bC (B.take i++r::B.drop (i+1)):=congrArg bC q1;rw[q2,e];simp[ia,fI,hb]
def El{C:Cx}{B:aa cn}{w w':World}{r r':cn}{i:Nat}(h:Good C B w)(hi:B[i]? =V r)(hk:Kp r.blk.toList w w')(hr:r'.blk=r.blk\/r'.blk=V w.heap.size)(hok:r'.ok (al C (B.set i r')) w'):Tr C r.blk.toList B w (B.set i r') w':=by
 obtain⟨h1,h2⟩:=Ck (r':=r') hi;generalize B.take i=σ1 at h1 h2;generalize B.drop (i+1)=σ2 at h1 h2;rw[h2]at hok ⊢;clear h2 hi;subst h1;have hlt:∀b∈bC (σ1++r::σ2),b<w.heap.size:=λb hb=>by
  obtain⟨s,h1,h2⟩:=bS.1 hb;exact(h.res s h1).lt h2
 have hb0:bC (σ1++r::σ2)=bC σ1++(r.blk.toList++bC σ2):=by rw[ia,fI]
 have hb1:bC (σ1++r'::σ2)=bC σ1++(r'.blk.toList++bC σ2):=by rw[ia,fI]
 have hmem:∀b,b∈bC (σ1++r'::σ2)->b∈bC (σ1++r::σ2)\/b=w.heap.size:=λb hb=>by
  rw[hb1]at hb;rw[hb0];simp only[zP]at hb ⊢;rcases hb with hb|hb|hb
  ·exact .inl (.inl hb)
  ·rcases hr with hr|hr<;>rw[hr]at hb
   ·exact .inl (.inr (.inl hb))
   ·simp at hb;exact .inr hb
  ·exact .inl (.inr (.inr hb))
 have hal:∀b,b<w.heap.size->al C (σ1++r::σ2) b->al C (σ1++r'::σ2) b:=λb hb hA=>⟨hA.1,λhx=>by
  rcases hmem b hx with h|h
  ·exact hA.2 h
  ·omega⟩
 have hnr:∀b,al C (σ1++r::σ2) b->b∉r.blk.toList:=λb hA hx=>hA.2 (by rw[hb0];simp[hx]);have hother:∀s,s∈σ1\/s∈σ2->∀b,s.blk=V b->b∉r.blk.toList:=λs hs b hb hx=>by
  have hd:=h.Il;rw[hb0]at hd;rcases hs with hs|hs
  ·exact(yO.1 hd).2.2 b (bS.2 ⟨s,hs,hb⟩) b (yI _ hx) rfl
  ·exact(yO.1 (yO.1 hd).2.1).2.2 b hx b (bS.2 ⟨s,hs,hb⟩) rfl
 refine⟨⟨h.kept.trans hk (λb hb hlt0=> ?_),λs hs=> ?_,?_,λb hb=> ?_⟩,hk,λb hb hA=>⟨hal b hb hA,hnr b hA⟩⟩
 ·have:b∈bC (σ1++r::σ2):=by rw[hb0];simp[hb]
  rcases h.own b this with h|h
  ·exact h
  ·omega
 ·have hs':s=r'\/s∈σ1\/s∈σ2:=by
   simp only[zP,zy]at hs;rcases hs with h|h|h
   ·simp_all
   ·simp_all
   ·simp_all
  rcases hs' with rfl|hs'
  ·omega
  ·have hm:s∈σ1++r::σ2:=by rcases hs' with h|h<;>simp[h]
   exact(h.res s hm).mono (λb hb hA=>⟨hal b hb hA,hk.block b hb (hnr b hA)⟩) (λb hb=>hk.block b ((h.res s hm).lt hb) (hother s hs' b hb))
 ·have hd:=h.Il;rcases hr with hr|hr
  ·simp_all
  ·rw[hb1,hr];rw[hb0]at hd;have hn1:w.heap.size∉bC σ1:=λhx=>by have:=hlt w.heap.size (by rw[hb0];simp[zP,hx]);omega
   have hn2:w.heap.size∉bC σ2:=λhx=>by have:=hlt w.heap.size (by rw[hb0];simp[hx]);omega
   obtain⟨d1,d2,d3⟩:=yO.1 hd;obtain⟨d4,d5,d6⟩:=yO.1 d2;refine yO.2 ⟨d1,?_,λa ha b hb hab=> ?_⟩
   ·simp only[xN,xy,List.nodup_cons];exact⟨hn2,d5⟩
   ·subst hab;simp only[xN,xy,yz,zy]at hb;rcases hb with rfl|hb
    ·simp_all
    ·exact d3 a ha a (yJ _ hb) rfl
 ·rcases hmem b hb with h1|h1
  ·exact h.own b h1
  ·exact .inr (by rw[h1];exact h.kept.size)
def aus{C:Cx}{B:aa cn}{w:World}{r:cn}(h:r.blk=I\/r.blk=V w.heap.size):∀b,b<w.heap.size->al C B b->al C (r::B) b:=λb hb hA=>⟨hA.1,λhx=>by
 rw[fI]at hx;rcases zP.1 hx with hx|hx
 ·simp_all
 ·exact hA.2 hx⟩
def kC(w:World)(x:Obj):Kp [] w (w.alloc x):=⟨rfl,rfl,rfl,zm _,by simp,λk hk _=>heap_alloc_old w x hk⟩
def HU(w:World)(x:Obj):Kp [] w (w.drew.alloc x):=⟨rfl,rfl,rfl,yd _,by simp,λk hk _=>heap_alloc_old w.drew x hk⟩
def Oa{C:Cx}{B:aa cn}{w w':World}{r:cn}{as0:aa AV}{us:aa Value}(hr:bO (al C B) w as0 us)(h:r.blk=I\/r.blk=V w.heap.size)(hk:Kp [] w w'):bO (al C (r::B)) w' as0 us:=
 hr.mono λb hb hA=>⟨aus h b hb hA,hk.block b hb (by simp)⟩
def dZ:AV->aa AV
 | .agg cs=>cs
 |a=>[a]
def iZ:AV->Bool
 | .lit v=>v.oneCell'
 | .jf _=>G
 | .agg _=>G
 |_=>O
def Gp:AV->Bool
 | .agg cs=>cs.all iZ
 |a=>iZ a
def tw{v:Value}(h:v.oneCell'=true):v.cells=#[v]:=by cases v<;>first|rfl|cases h
def Rel.one{A:Nat->Prop}{w:World}{a:AV}{v:Value}(h:Rel A w a v)(h1:iZ a=O):v.oneCell'=O:=by
 cases h with
 |lit v=>exact h1
 |agg=>cases h1
 |jf=>cases h1
 |_=>rfl
def bO.one{A:Nat->Prop}{w:World}{as0:aa AV}{us:aa Value}(h:bO A w as0 us)(h1:as0.all iZ=O):∀v∈us,v.oneCell'=O:=λv hv=>by
 obtain⟨j,hj,rfl⟩:=y5 hv;have hlt:j<zR as0:=by rw[<-h.1];exact hj
 exact(h.2 j as0[j] us[j] (zq hlt) (zq hj)).one (zx.1 h1 _ (xO hlt))
def Rel.cells{A:Nat->Prop}{w:World}{a:AV}{v:Value}(h:Rel A w a v)(h1:Gp a=O):bO A w (dZ a) v.cells.toList/\∀u∈v.cells.toList,u.oneCell'=O:=by
 by_cases ha:∃cs,a= .agg cs
 ·obtain⟨cs,rfl⟩:=ha;obtain⟨us,rfl,h2⟩:=h.oI;exact⟨by simpa [Value.cells,dZ]using h2,by simpa [Value.cells]using h2.one h1⟩
 ·have hc:iZ a=O:=by
   cases a<;>first|exact h1|(exact ep ⟨_,rfl⟩ ha)
  have hac:dZ a=[a]:=by
   cases a<;>first|rfl|(exact ep ⟨_,rfl⟩ ha)
  have h2:=h.one hc;rw[hac,tw h2];refine⟨⟨rfl,λj x y hx hy=> ?_⟩,λu hu=>by simp at hu;rw[hu];exact h2⟩;cases j with
  |zero=>simp at hx hy;subst hx hy;exact h
  |succ j=>simp at hx
def Pw(B:aa cn)(a:AV):Prop:=∀(A:Nat->Prop) (w:World) (v:Value),Hd A B w->Rel A w a v->bO A w (dZ a) v.cells.toList/\∀u∈v.cells.toList,u.oneCell'=O
def aix{B:aa cn}{A:Nat->Prop}{w:World}{v:Value}{q:Nat}{l:aa (U.dh q)}(i:Nat)(aw:B[i]? =V (.row v q l))(hd:Hd A B w):v.oneCell'=O:=by
 obtain⟨us,h1,_⟩:=hd.1 _ (List.mem_of_getElem? aw);obtain⟨p,cap,rfl,_⟩:=h1.len;rfl
section
variable {P:Program} {E:Env} {B:aa cn} {o:Oper} {T T' e:TypeId} {x y z:Operand} {av bv:AV} {v u:Value} {m n:Int} {b:Bool} {k:IntKind} {C:Cx} {X:aa Nat}
def Yv.alloc{zs:aa Value}(ho:o.op= .alloc T)(hz:(P.info? T).bind (λi=>i.zero.map (·.cells))=V zs.toArray):Yv P E B o C [] (λa B'=>∃b,a= .lit (.pointer (V ⟨b,0,I⟩))/\B'= .box b T (zs.map .lit)::B):=λw S hg _=>by
 obtain⟨i,h1,h2⟩:=zn.1 hz;obtain⟨zv,h3,h4⟩:=zl.1 h2;refine⟨_,w.alloc (.cells zs.toArray T),_,_,⟨w.heap.size,rfl,rfl⟩,qQ hg (kC w _) (.inr rfl) ⟨zs,heap_alloc_new w _,bO.lits _⟩,?_, .lit _⟩;simp[execOp,ho,Instr.alloc,zeroValue,typeInfo,h1,h3,newVar,newRow,h4]
def Yv.box(ho:o.op= .box T x)(hx:E.ev x=V av)(h1:Pw B av):Yv P E B o C [] (λa B'=>∃b,a= .lit (.pointer (V ⟨b,0,I⟩))/\B'= .box b T (dZ av)::B):=λw S hg ar=>by
 have hr:=(h1 _ _ _ hg.hd (ar _ _ hx)).1;refine⟨_,w.alloc (.cells (S x).cells T),_,_,⟨w.heap.size,rfl,rfl⟩,qQ hg (kC w _) (.inr rfl) ⟨(S x).cells.toList,heap_alloc_new w _,Oa hr (.inr rfl) (kC w _)⟩,?_, .lit _⟩;simp[execOp,ho,Instr.box,newVar,newRow]
def run_store{w:World}{g of:Nat}{cur:Array Value}{t:TypeId}{a:Value}{sz:Nat}(hs:(P.info? T).map (·.size)=V sz)(hb:Blk w g cur t)(hsz:a.cells.size=sz)(h1:∀u∈a.cells.toList,u.oneCell'=O)(hlt:of+sz<=cur.size):
  (Instr.storeAt T (.pointer (V ⟨g,of,I⟩)) a).run P w= .ok () (w.setRow g (cur.toList.take of++a.cells.toList++cur.toList.drop (of+sz)).toArray):=by
 obtain⟨j,hj,hj'⟩:=zl.1 hs;have:=run_storeCells_at P g of t a.cells.toList 0 cur w hb (by rw[yp,hsz];omega) h1;simp only[Instr.storeAt,Instr.sureAddr,storeVar,sizeOf,typeInfo];simp[hj,hj',hsz,this]
def nN(w:World)(g:Nat)(cs:Array Value):Kp [g] w (w.setRow g cs):=⟨rfl,rfl,rfl,zm _,by simp,λk _ hk=>setRow_other w g k _ (λe=>hk (by simp[e]))⟩
def Yu.arj{g of sz:Nat}{cs:aa AV}{t:TypeId}(i:Nat)(ho:o.op= .store T x y)(hx:E.ev x=V (.lit (.pointer (V ⟨g,of,I⟩))))(hy:E.ev y=V av)(aw:B[i]? =V (.box g t cs))(hs:(P.info? T).map (·.size)=V sz)(hp:Pw B av)(hsz:zR (dZ av)=sz)(hlt:of+sz<=zR cs):
  Yu P E B o C [g] (B.set i (.box g t (cs.take of++dZ av++cs.drop (of+sz)))):=λw S hg ar=>by
 obtain⟨us,h1,h2⟩:=hg.res _ (List.mem_of_getElem? aw);obtain⟨h3,h4⟩:=hp _ _ _ hg.hd (ar _ _ hy);have hx':=(ar _ _ hx).cM;have h5:(S y).cells.size=sz:=by rw[<-yp,h3.1,hsz]
 have hrun:=run_store (P:=P) (T:=T) (of:=of) (a:=S y) hs h1 h5 h4 (by simp;rw[h2.1];exact hlt);refine⟨w.setRow g (us.take of++(S y).cells.toList++us.drop (of+sz)).toArray,El hg aw (nN w g _) (.inl rfl) ⟨us.take of++(S y).cells.toList++us.drop (of+sz),?_,?_⟩,?_⟩
 ·have:=setRow_heap w g us.toArray (us.take of++(S y).cells.toList++us.drop (of+sz)).toArray t (0,0) h1;exact this
 ·have hal:∀b,b<w.heap.size->al C B b->al C (B.set i (.box g t (cs.take of++dZ av++cs.drop (of+sz)))) b/\(w.setRow g (us.take of++(S y).cells.toList++us.drop (of+sz)).toArray).heap[b]? =w.heap[b]? :=λb hb hA=>by
   have hbk:=Gj (r':=cn.box g t (cs.take of++dZ av++cs.drop (of+sz))) aw rfl;refine⟨⟨hA.1,by rw[hbk];exact hA.2⟩,setRow_other w g b _ (λe=>hA.2 (bS.2 ⟨_,List.mem_of_getElem? aw,by rw[<-e];rfl⟩))⟩
  exact(((h2.take of).app h3).app (h2.drop (of+sz))).mono hal
 ·simp[execOp,ho,hx',hrun]
def Yu.aao{kk of n m:Nat}{q:Nat}{l:aa (U.dh q)}(i:Nat)(qq:U.dh q)(ho:o.op= .store T x y)(hx:E.ev x=V (.rp v kk))(hy:E.ev y=V av)(aw:B[i]? =V (.row v q l))(hs:(P.info? T).map (·.size)=V n)(hp:Gp av=O)(hn:zR (dZ av)=n)
  (hk:kk=m*(U.sz q)+of) (hm:m<zR l) (hlt:of+n<=(U.sz q)) (hql:zR (U.cells q qq)=U.sz q) (hq:∀A w us,bO A w ((U.cells q l[m]!).take of++dZ av++(U.cells q l[m]!).drop (of+n)) us->bO A w (U.cells q qq) us):
  Yu P E B o C (xP (gH v)) (B.set i (.row v q (l.set m qq))):=λw S hg ar=>by
 obtain⟨us,h1,h2,h3⟩:=hg.res _ (List.mem_of_getElem? aw);obtain⟨h4,h5⟩:=(ar _ _ hy).cells hp;obtain⟨g,hgb,hv⟩:=(ar _ _ hx).Ht;obtain⟨g',cap,cur,hv',hgb',hB,q1,q2,q3,q4⟩:=h1.at aq;have hgg:g'=g:=by rw[hgb']at hgb;exact zF.inj hgb
 subst hgg;have h6':zR (S y).cells.toList=n:=by rw[h4.1,hn]
 have h6:(S y).cells.size=n:=by rw[<-yp,h6']
 have hmz:m*(U.sz q)+(U.sz q)<=zR l*(U.sz q):=by rw[<-yP];exact yl _ hm
 have hcz:zR l*(U.sz q)<=(cap+1)*(U.sz q):=yl _ q1;have hul:=h1.1;have hrun:=run_store (P:=P) (T:=T) (of:=kk) (a:=S y) hs hB h6 h5 (by rw[q3,hk];omega);have hlen:zR us=zR l*(U.sz q):=h1.1;have hmz2:∀j,j<zR l->j*(U.sz q)+(U.sz q)<=zR us:=λj hj=>by rw[hlen,<-yP];exact yl _ hj
 have hpart:∀b,al C (B.set i (.row v q (l.set m qq))) b↔al C B b:=λb=>by
  have hbk:=Gj (r':=cn.row v q (l.set m qq)) aw rfl;unfold al;rw[hbk]
 have hal:∀b,b<w.heap.size->al C B b->al C (B.set i (.row v q (l.set m qq))) b/\(w.setRow g' (cur.toList.take kk++(S y).cells.toList++cur.toList.drop (kk+n)).toArray).heap[b]? =w.heap[b]? :=λb hb hA=>
  ⟨(hpart b).2 hA,setRow_other w g' b _ (λe=>hA.2 (bS.2 ⟨_,List.mem_of_getElem? aw,by rw[e];exact hgb⟩))⟩
 refine⟨w.setRow g' (cur.toList.take kk++(S y).cells.toList++cur.toList.drop (kk+n)).toArray,El (r:= .row v q l) hg aw (by show Kp (xP (gH v)) _ _;rw[hgb];exact nN w g' _) (.inl rfl) ⟨us.take kk++(S y).cells.toList++us.drop (kk+n),⟨?_, .inr ⟨g',cap,(cur.toList.take kk++(S y).cells.toList++cur.toList.drop (kk+n)).toArray,?_,?_,?_,q2,?_,?_⟩⟩,?_,?_⟩,by simp[execOp,ho,hv,hrun]⟩
 ·have:=hmz2 m hm;rw[zh,zh,zA,zV,yu,h6',hlen];omega
 ·rw[yu];exact hv'
 ·exact setRow_heap w g' cur _ q (0,0) hB
 ·rw[yu];exact q1
 ·have:=hmz2 m hm;rw[y6,zh,zh,zA,zV,h6',yp,q3];omega
 ·have hk':kk+n<=zR l*(U.sz q):=aq;have hc2:zR l*(U.sz q)<=zR cur.toList:=by rw[show zR cur.toList=cur.size from yp,q3];exact hcz
  rw[<-q4,yu];apply List.ext_getElem?;intro j;simp only[yE,xx,zh,zA,yF,h6',yp];have hcl:cur.size=(cap+1)*(U.sz q):=q3;by_cases e1:j<zR l*(U.sz q)
  ·rw[bJ e1];by_cases e2:j<kk
   ·rw[bJ aq,bJ aq,bJ aq,bJ aq,bJ aq,bJ aq];rw[bJ aq]
   ·by_cases e3:j<kk+n
    ·rw[bJ aq,bN aq,bJ aq,bN aq]
     congr 1
     omega
    ·rw[bN aq,bN aq,bJ aq]
     congr 1
     omega
  ·rw[bN e1];rw[bN aq,bN aq]
 ·intro j hj;rw[yu]at hj;by_cases hjm:j=m
  ·subst hjm;rw[getElem!_pos _ j (by rw[yu];exact hj),List.getElem_set_self];exact hql
  ·rw[getElem!_pos _ j (by rw[yu];exact hj),List.getElem_set_ne (Ne.symm hjm),<-getElem!_pos l j hj];exact h2 j hj
 ·intro j hj;rw[yu]at hj;have hb:=hmz2 j hj;have hbm:=hmz2 m hm;by_cases hjm:j=m
  ·subst hjm;rw[getElem!_pos _ j (by rw[yu];exact hj),List.getElem_set_self];refine hq _ _ _ ?_;have hL:=h3 j hj;have hz:=h2 j hj;have hR:=(((hL.take of).app h4).app (hL.drop (of+n))).mono hal;have e:((us.take kk++(S y).cells.toList++us.drop (kk+n)).drop (j*(U.sz q))).take (U.sz q)=((us.drop (j*(U.sz q))).take (U.sz q)).take of++(S y).cells.toList++((us.drop (j*(U.sz q))).take (U.sz q)).drop (of+n):=by
    apply List.ext_getElem?;intro a;simp only[yE,xx,zh,zA,yF,h6',zV];by_cases e1:a<(U.sz q)
    ·rw[bJ e1];by_cases e2:a<of
     ·rw[bJ aq,bJ aq,bJ aq,bJ aq,bJ aq,bJ aq];rw[bJ aq]
     ·by_cases e3:a<of+n
      ·rw[bJ aq,bN aq,bJ aq,bN aq]
       congr 1
       omega
      ·rw[bN aq,bN aq,bJ aq]
       congr 1
       omega
    ·rw[bN e1,bN aq,bN aq]
   rw[e];exact hR
  ·rw[getElem!_pos _ j (by rw[yu];exact hj),List.getElem_set_ne (Ne.symm hjm),<-getElem!_pos l j hj];have e:((us.take kk++(S y).cells.toList++us.drop (kk+n)).drop (j*(U.sz q))).take (U.sz q)=(us.drop (j*(U.sz q))).take (U.sz q):=by
    have hcase:j*(U.sz q)+(U.sz q)<=m*(U.sz q)\/m*(U.sz q)+(U.sz q)<=j*(U.sz q):=by
     rcases Nat.lt_or_gt_of_ne hjm with h|h
     ·left;rw[<-yP];exact yl _ h
     ·right;rw[<-yP];exact yl _ h
    apply List.ext_getElem?;intro a;simp only[yE,xx,zh,zA,yF,h6',yp];by_cases e1:a<(U.sz q)
    ·rw[bJ e1,bJ e1];rcases hcase with hc|hc
     ·rw[bJ aq,bJ aq,bJ aq]
     ·rw[bN aq]
      congr 1
      omega
    ·rw[bN e1,bN e1]
   rw[e];exact(h3 j hj).mono hal
end
inductive F2 {α:Type} {W:Type} (R:α->W->Prop):List α->List W->Prop
 |nil:F2 R [] []
 |cons {a:α} {b:W} {as0:List α} {bs:List W} (h:R a b) (hs:F2 R as0 bs):F2 R (a::as0) (b::bs)
def XN(us:aa Value):∀(k off:Nat) (init:Array Value),off+k+zR us<=init.size->
  ((us.zipIdx k).foldl (λcs (p:Value×Nat)=>cs.setIfInBounds (off+p.2) p.1) init).toList=init.toList.take (off+k)++us++init.toList.drop (off+k+zR us):=by
 induction us with
 |nil=>intro k off init h;simp
 |cons u us ih=>
  intro k off init h;simp only[yT]at h;rw[List.zipIdx_cons,List.foldl_cons,ih (k+1) off _ (by simp;omega)];have h1:off+k<zR init.toList:=by simp;omega
  rw[Array.toList_setIfInBounds];have e1:(init.toList.set (off+k) u).take (off+(k+1))=init.toList.take (off+k)++[u]:=by
   rw[wB,bJ h1];have e:off+(k+1)=zR (init.toList.take (off+k))+1:=by rw[zA];omega
   rw[e,List.take_length_add_append];simp
  have e2:(init.toList.set (off+k) u).drop (off+(k+1)+zR us)=init.toList.drop (off+k+(zR us+1)):=by
   rw[List.drop_set_of_lt aq]
   congr 1
   omega
  rw[e1,e2];simp
def placesOf(P:Program)(T:TypeId):af (aa (Nat×Nat)):=match P.underlying T with
 |some (.struct fields)=>fields.toList.mapM λf=>(P.info? f.type).map λi=>(f.offset,i.size)
 |_=>I
def j7(P:Program)(T:TypeId):af (aa Value):=(P.info? T).bind λi=>i.zero.map (·.cells.toList)
section
variable {P:Program} {E:Env} {B:aa cn} {o:Oper} {T T' e:TypeId} {x y z:Operand} {av bv:AV} {v u:Value} {m n:Int} {b:Bool} {k:IntKind} {C:Cx} {X:aa Nat}
def OY{ps:Array (Nat×Operand)}{S:Operand->Value}:(ps.map λ(i,x)=>(i,S x)).toList=ps.toList.map λp=>(p.1,S p.2):=by
 simp
def lZ{q:Nat}:∀(l:aa (U.dh q)),(∀i,i<zR l->zR (U.cells q l[i]!)=(U.sz q))->zR (l.flatMap (U.cells q))=zR l*(U.sz q)/\∀i,i<zR l->((l.flatMap (U.cells q)).drop (i*(U.sz q))).take (U.sz q)=U.cells q l[i]!
 |[],_=>⟨by simp,λi hi=>by cases hi⟩
 |x::l,h=>by
  have h0:zR (U.cells q x)=(U.sz q):=h 0 (by simp);obtain⟨h1,h2⟩:=lZ l λi hi=>by
   have:=h (i+1) (by simpa using hi)
   assumption
  refine⟨by rw[yQ,zh,h0,h1,yT,yP];omega,λi hi=> ?_⟩;rw[yQ];cases i with
  |zero=>
   rw[Nat.zero_mul,xI,<-h0,List.take_left']
   ·rfl
   ·rfl
  |succ i=>
   have hi':i<zR l:=by simpa using hi
   rw[show (x::l)[i+1]! =l[i]! from by rw[getElem!_pos _ (i+1) (by simpa using hi'),getElem!_pos l i hi'];rfl,<-h2 i hi'];rw[show (i+1)*(U.sz q)=zR (U.cells q x)+i*(U.sz q)from by rw[h0,yP];omega,<-zW,List.drop_left'];rfl
def FQ{A:Nat->Prop}{w:World}{q:Nat}{l:aa (U.dh q)}{us:aa Value}(hr:gv w v q (U.sz q) (zR l) us)(hz:∀i,i<zR l->zR (U.cells q l[i]!)=(U.sz q))(h:bO A w (l.flatMap (U.cells q)) us):cn.ok A w (.row v q l):=
 ⟨us,hr,hz,λi hi=>by rw[<-(lZ l hz).2 i hi];exact(h.drop _).take _⟩
def D9{A:Nat->Prop}{w:World}{q:Nat}{l:aa (U.dh q)}(h:cn.ok A w (.row v q l)):∃us,gv w v q (U.sz q) (zR l) us/\(∀i,i<zR l->zR (U.cells q l[i]!)=(U.sz q))/\bO A w (l.flatMap (U.cells q)) us:=by
 obtain⟨us,h1,h2,h3⟩:=h;refine⟨us,h1,h2,?_⟩;obtain⟨f1,f2⟩:=lZ l h2;refine⟨by rw[f1,h1.1],λj a u ha hu=> ?_⟩;have hj:j<zR l*(U.sz q):=by rw[<-f1];exact(z7.1 ha).1
 have hsz:0<(U.sz q):=by
  rcases wC (U.sz q)with h|h
  ·simp_all
  ·exact h
 have hi:j/(U.sz q)<zR l:=by rw[Nat.div_lt_iff_lt_mul hsz];exact hj
 have hm:j%(U.sz q)<(U.sz q):=xg _ hsz;have he:j/(U.sz q)*(U.sz q)+j%(U.sz q)=j:=by rw[Nat.mul_comm];exact Nat.div_add_mod j (U.sz q)
 refine(h3 _ hi).2 (j%(U.sz q)) a u ?_ ?_
 ·rw[<-f2 _ hi,yE,bJ hm,yF,he];exact ha
 ·simp_all
def get_append_left!{q:Nat}(l l2:aa (U.dh q))(i:Nat)(h:i<zR l):(l++l2)[i]! =l[i]! :=by
 rw[getElem!_pos _ i (by rw[zh];omega),wg h,<-getElem!_pos l i h]
def get_append_right!{q:Nat}(l l2:aa (U.dh q))(i:Nat)(h:zR l<=i)(h2:i<zR l+zR l2):(l++l2)[i]! =l2[i-l.length]! :=by
 rw[getElem!_pos _ i (by rw[zh];exact h2),wD h,<-getElem!_pos l2 (i-l.length) aq]
def Nr{q:Nat}{l l2:aa (U.dh q)}(h:∀i,i<zR l->zR (U.cells q l[i]!)=(U.sz q))(h2:∀i,i<zR l2->zR (U.cells q l2[i]!)=(U.sz q)):∀i,i<zR (l++l2)->zR (U.cells q (l++l2)[i]!)=(U.sz q):=λi hi=>by
 rw[zh]at hi;by_cases hlt:i<zR l
 ·rw[get_append_left! _ _ _ hlt];exact h i hlt
 ·rw[get_append_right! _ _ _ aq hi];exact h2 _ aq
def TV{zs:aa Value}{sz n:Nat}(hsz:zR zs=sz)(hpos:0<sz):((Array.range (n*sz)).map (zs.toArray[· %zs.toArray.size]!)).toList=(zj n zs).flatten:=by
 apply List.ext_getElem?;intro j;have hfl:zR (zj n zs).flatten=n*sz:=by simp[hsz]
 have hq:∀(q:Nat) (j:Nat),j<q*sz->(zj q zs).flatten[j]? =zs[j%sz]? :=by
  intro q;induction q with
  |zero=>intro j hj;simp at hj
  |succ q ih=>
   intro j hj;rw[yR,wE,xx];split
   ·rename_i h;rw[hsz]at h;rw[Nat.mod_eq_of_lt h]
   ·rename_i h;rw[hsz,ih _ (by rw[yP]at hj;omega),Nat.mod_eq_sub_mod (by omega:sz<=j)]
 by_cases hj:j<n*sz
 ·rw[hq n j hj];have hmod:j%sz<sz:=xg _ hpos;simp[hj,hsz,hmod]
 ·rw[wF (l:=(zj n zs).flatten) (by rw[hfl];omega)];simp[hj]
def Yv.lit{len:Nat}{ps:Array (Nat×Operand)}{zs:aa Value}(l:aa (U.dh e))(ho:o.op= .buildSlice T len ps)(hT:P.underlying T=V (.slice e))(hs:(P.info? e).map (·.size)=V (U.sz e))(hz:j7 P e=V zs)
  (hzl:zR zs=(U.sz e)) (hf:∀A w S,Hd A B w->P9 A w E S->∃us:Array Value,Instr.fill (λi=>V (i*(U.sz e),(U.sz e))) (zj len zs).flatten.toArray (ps.toList.map λp=>(p.1,S p.2))=V us/\bO A w (l.flatMap (U.cells e)) us.toList) (hl:zR l=len) (hu:∀i,i<zR l->zR (U.cells e l[i]!)=(U.sz e)) (hpos:0<len*(U.sz e)) (hsm:len*(U.sz e)<=2^24):
  Yv P E B o C [] (λa B'=>∃v,a= .lit v/\B'= .row v e l::B):=λw S hg ar=>by
 obtain⟨it,hit,hz1⟩:=zn.1 hz;obtain⟨zv,hz2,hz3⟩:=zl.1 hz1;obtain⟨ie,hie,hse⟩:=zl.1 hs;have hee:it=ie:=by rw[hit]at hie;exact zF.inj hie
 subst hee;have hzc:zv.cells=zs.toArray:=by rw[<-hz3]
 obtain⟨us,h1,h2⟩:=hf _ w S hg.hd ar;have hrun:=run_buildSlice (P:=P) w T e len (ps.map λ(i,x)=>(i,S x)) us it zv hT hit hz2 (by rw[hse];omega) (by rw[hse];omega) (by
  rw[hse,hzc,OY,<-h1]
  congr 1
  apply Array.ext';exact TV hzl (Nat.pos_of_mul_pos_left hpos))
 have hlp:0<len:=Nat.pos_of_mul_pos_right hpos;have hlen:zR us.toList=len*(U.sz e):=by rw[h2.1,(lZ l hu).1,hl]
 refine⟨_,w.alloc (.cells us e),_,_,⟨.slice (V ⟨w.heap.size,0,I⟩) len len,rfl,rfl⟩,?_,by simp[execOp,ho,hrun], .lit _⟩;obtain⟨ln,rfl⟩:∃ln,len=ln+1:=⟨len-1,aq⟩;refine qQ (r:= .row (.slice (V ⟨w.heap.size,0,I⟩) (ln+1) (ln+1)) e l) hg (kC w _) (.inr rfl) (FQ (us:=us.toList) ?_ hu ?_)
 ·rw[hl];refine⟨hlen, .inr ⟨w.heap.size,ln,us,rfl,heap_alloc_new w _,zm _,?_,by rw[<-yp,hlen],by rw[<-hlen,zH]⟩⟩;have:ln+1<=(ln+1)*(U.sz e):=Nat.le_mul_of_pos_right _ (Nat.pos_of_mul_pos_left hpos);unfold maxLen;omega
 ·exact Oa (r:= .row (.slice (V ⟨w.heap.size,0,I⟩) (ln+1) (ln+1)) e l) h2 (.inr rfl) (kC w _)
def Yv.aEC{s:Nat}(ho:o.op= .buildSlice T 0 #[])(hT:P.underlying T=V (.slice e))(hs:(P.info? e).map (·.size)=V s):Yv P E B o C [] (λa B'=>∃v,a= .lit v/\B'= .row v e ([]:aa (U.dh e))::B):=λw S hg ar=>by
 obtain⟨j,hj,hj'⟩:=zl.1 hs;refine⟨_,w.alloc (.cells #[] e),_,_,⟨.slice (V ⟨w.heap.size,0,I⟩) 0 0,rfl,rfl⟩,qQ hg (kC w _) (.inl rfl) ⟨[],⟨by simp, .inl ⟨_,rfl,rfl⟩⟩,λi hi=>by simp at hi,λi hi=>by simp at hi⟩,?_, .lit _⟩;simp[execOp,ho,Instr.buildSlice,run_underlying hT,sizeOf,typeInfo,hj,Instr.fill,newRow];rw[show Array.range 0=#[]from rfl,Array.map_empty]
def Yv.make{by':Nat}{zs:aa Value}(d:U.dh e)(ho:o.op= .makeSlice T x y)(hx:E.ev x=V (.i m))(hy:E.ev y=V (.i n))(hT:P.underlying T=V (.slice e))(hs:(P.info? e).map (λi=>(i.size,i.bytes))=V ((U.sz e),by'))(hz:j7 P e=V zs)(hb:yq by' 4096=O)(hsz:zR zs=(U.sz e))(hd:∀A w,bO A w (U.cells e d) zs)(hpos:0<(U.sz e))
  (hm:0<=m/\m<=n/\n<=1073741824):Yv P E B o C [] (λa B'=>∃v,a= .lit v/\B'= .row v e (zj m.toNat d)::B):=λw S hg ar=>by
 obtain⟨it,hit,hz1⟩:=zn.1 hz;obtain⟨zv,hz2,hz3⟩:=zl.1 hz1;obtain⟨ie,hie,hse⟩:=zl.1 hs;have hee:it=ie:=by rw[hit]at hie;exact zF.inj hie
 subst hee;simp only[Prod.mk.injEq]at hse;obtain⟨s1,s2⟩:=hse;have hzc:zv.cells=zs.toArray:=by rw[<-hz3]
 have hby:by'<=4096:=by simpa using hb
 obtain⟨mm,rfl⟩:∃mm:Nat,m=mm:=⟨m.toNat,aq⟩;obtain⟨nn,rfl⟩:∃nn:Nat,n=nn:=⟨n.toNat,aq⟩;have hbb:(it.bytes:Int)*(nn:Int)<=281474976710656:=by
  have h1:it.bytes*nn<=4096*1073741824:=Nat.mul_le_mul aq aq;omega
 have hrun:=run_make (P:=P) w T e it zv hT hit hz2 .i64 .i64 mm nn aq aq hbb aq;have hx':=(ar _ _ hx).cM;have hy':=(ar _ _ hy).cM;refine⟨.slice (V ⟨w.heap.size,0,I⟩) mm nn,w.alloc (.cells (madeCells zv.cells (nn*it.size)) e),_,_,⟨.slice (V ⟨w.heap.size,0,I⟩) mm nn,rfl,rfl⟩,?_,?_, .lit _⟩
 ·rw[zg];have hcells:(madeCells zv.cells (nn*it.size)).toList=(zj nn zs).flatten:=by
   rw[hzc,s1];unfold madeCells;apply List.ext_getElem?;intro j;have hfl:zR (zj nn zs).flatten=nn*(U.sz e):=by simp[hsz]
   have hq:∀(q:Nat) (j:Nat),j<q*(U.sz e)->(zj q zs).flatten[j]? =zs[j%(U.sz e)]? :=by
    intro q;induction q with
    |zero=>intro j hj;simp at hj
    |succ q ih=>
     intro j hj;rw[yR,wE,xx];split
     ·rename_i h;rw[hsz]at h;rw[Nat.mod_eq_of_lt h]
     ·rename_i h;rw[hsz,ih _ (by rw[yP]at hj;omega),Nat.mod_eq_sub_mod (by omega:(U.sz e)<=j)]
   by_cases hj:j<nn*(U.sz e)
   ·rw[hq nn j hj];have hmod:j%(U.sz e)<(U.sz e):=xg _ hpos;simp[hj,hsz,hmod]
   ·rw[wF (l:=(zj nn zs).flatten) (by rw[hfl];omega)];simp[hj]
  by_cases hn0:nn=0
  ·have hm0:mm=0:=aq;subst hn0 hm0;exact qQ hg (kC w _) (.inl rfl) ⟨[],⟨by simp, .inl ⟨_,rfl,rfl⟩⟩,λi hi=>by simp at hi,λi hi=>by simp at hi⟩
  ·obtain⟨nk,rfl⟩:∃nk,nn=nk+1:=⟨nn-1,aq⟩;have hu:∀i,i<zR (zj mm d)->zR (U.cells e (zj mm d)[i]!)=(U.sz e):=λi hi=>by
    rw[getElem!_pos _ i hi,List.getElem_replicate,<-(hd (λ_=>True) w).1,hsz]
   have hfl:∀q,zR (zj q zs).flatten=q*(U.sz e):=λq=>by simp[hsz]
   have hfl2:∀(A:Nat->Prop) (w:World) (q:Nat),bO A w ((zj q d).flatMap (U.cells e)) (zj q zs).flatten:=λA w q=>by
    induction q with
    |zero=>exact bO.nil
    |succ q ih=>rw[yR,yR,yQ,wE];exact(hd A w).app ih
   have htk:∀q q':Nat,q<=q'->((zj q' zs).flatten).take (q*(U.sz e))=(zj q zs).flatten:=λq q' h=>by
    obtain⟨r,rfl⟩:∃r,q'=q+r:=⟨q'-q,aq⟩;rw[<-List.replicate_append_replicate,List.flatten_append,<-hfl q];simp
   refine qQ (r:= .row (.slice (V ⟨w.heap.size,0,I⟩) mm (nk+1)) e (zj mm d)) hg (kC w _) (.inr rfl) (FQ (us:=(zj mm zs).flatten) ?_ hu ?_)
   ·rw[xQ];refine⟨hfl mm, .inr ⟨w.heap.size,nk,_,rfl,heap_alloc_new w _,aq,by unfold maxLen;omega,?_,by rw[hcells];exact htk _ _ aq⟩⟩;rw[<-yp,hcells,hfl]
   ·simp_all
 ·simp[execOp,ho,hx',hy',hrun]
def qz{w:World}{ty:TypeId}{i:TypeInfo}{zz:Value}{sz by' nn mm:Nat}{us news:aa Value}{xs:Value}(ht:P.underlying T=V (.slice e))(hi:P.info? e=V i)(hz:i.zero=V zz)(hs:i.size=sz)(hby:i.bytes=by')(hzs:zz.cells.size=sz)
  (hrow:gv w v e sz nn us) (hx:∃p c,xs= .slice p mm c/\(mm=0\/∃a,p=V a/\∀j u,news[j]? =V u->w.cell? (a.add j)=V u)) (hl:zR news=mm*sz) (h1:∀u∈news,u.oneCell'=O) (h63:nn+mm<=maxLen) (hb:(nn+mm)*by'<=140737488355328):
  ∃v' w',(Builtin.append_ #[T,T] ty #[v,xs]).run P w= .ok v' w'/\gv w' v' e sz (nn+mm) (us++news)/\Kp (gH v).toList w w'/\(gH v'=gH v\/gH v'=V w.heap.size):=by
 subst hs hby
 obtain⟨p,cx,rfl,hx⟩:=hx;by_cases hm:mm=0
 ·subst hm;have hn:news=[]:=xh (by simpa using hl);subst hn;obtain⟨q,cap,rfl,hcap⟩:=hrow.len;have hf:∀w,(Builtin.firstCells i.size 0 (.slice p 0 cx)).run P w= .ok #[] w:=λw=>by
   cases p<;>simp[Builtin.firstCells,loadCells,loadCellsFrom]
  have hrun:(Builtin.append_ #[T,T] ty #[.slice q nn cap, .slice p 0 cx]).run P w= .ok (.slice q nn cap) w:=by
   cases q<;>simp[Builtin.append_,run_underlying ht,sizeOf,typeInfo,hi,Builtin.lenOf,hf,hcap,storeCells]
  exact⟨_,w,hrun,by simpa using hrow,Kp.refl _ _, .inl rfl⟩
 ·obtain⟨a,rfl,hc⟩:=hx.resolve_left hm;have grown:∀(olds:aa Value) (old:Nat),zR olds=nn*i.size->old<nn+mm->us=olds->
    gv (w.drew.alloc (.cells (olds.toArray++news.toArray++Builtin.zeroCells zz.cells (grownCap w (nn+mm) old e-(nn+mm))) e)) (.slice (V ⟨w.heap.size,0,I⟩) (nn+mm) (grownCap w (nn+mm) old e)) e i.size (nn+mm) (us++news):=by
   intro olds old hol hlt hus;subst hus;have hge:=grownCap_ge w (nn+mm) old e;have hcm:=grownCap_le_maxLen w (nn+mm) old e h63;obtain⟨ck,hck⟩:∃ck,grownCap w (nn+mm) old e=ck+1:=⟨grownCap w (nn+mm) old e-1,aq⟩;refine⟨by rw[zh,hol,hl,zX], .inr ⟨w.heap.size,ck,_,by rw[hck],heap_alloc_new w.drew _,aq,aq,?_,?_⟩⟩
   ·rw[<-hck];simp only[Array.size_append,y6,size_zeroCells,hzs,hol,hl,<-zX]
    congr 1
    omega
   ·simp only[Array.toList_append,yS];rw[<-yS,show (nn+mm)*i.size=zR (us++news) from by rw[zh,hol,hl,zX]];exact List.take_left
  rcases hrow.2 with ⟨q,rfl,rfl⟩|⟨g,cap,cur,rfl,hg,hnc,hcm,hcs,htake⟩
  ·have hu:us=[]:=xh (by simpa using hrow.1);have hgr:=grown [] 0 (by simp) aq hu;rw[ym]at hgr hb h63;have hgc:=grownCap_ge w mm 0 e;have hrb:gH (.slice (V ⟨w.heap.size,0,I⟩) mm (grownCap w mm 0 e))=V w.heap.size:=by
    obtain⟨ck,hck⟩:∃ck,grownCap w mm 0 e=ck+1:=⟨grownCap w mm 0 e-1,aq⟩;rw[hck];rfl
   have h63':(mm:Int)<=9223372036854775807:=by unfold maxLen at h63;omega
   cases q with
   |none=>
    have hr:=run_append_nil (P:=P) w T ty e i zz ht hi hz a mm cx news hl hc aq h63' aq;refine⟨_,_,hr,?_,HU w _, .inr hrb⟩;rw[ym];simpa using hgr
   |some b=>
    have hr:=run_append_grow (P:=P) w T ty e i zz ht hi hz b 0 0 [] (by simp) (λj v hj=>by cases hj) a mm cx news hl hc aq (by simpa using h63') (growslice_fits aq (by rw[ym];exact hb));refine⟨_,_,hr,?_,HU w _, .inr (by rw[ym];exact hrb)⟩;rw[ym];exact hgr
  ·by_cases hroom:nn+mm<=cap+1
   ·have hfit:nn*i.size+zR news<=cur.size:=by rw[hl,hcs,<-zX];exact yl _ hroom
    have hr:=run_append_room (P:=P) w T ty e i ht hi g nn (cap+1) cur hg a mm cx news hl hc h1 hroom hfit;refine⟨_,_,hr,⟨by rw[zh,hrow.1,hl,zX], .inr ⟨g,cap,_,rfl,setRow_heap w g cur _ e _ hg,hroom,hcm,?_,?_⟩⟩,nN w g _, .inl rfl⟩
    ·simp only[y6,zh,zA,zV,yp];omega
    ·rw[htake,show (nn+mm)*i.size=zR (us++news) from by rw[zh,hrow.1,hl,zX]];exact List.take_left
   ·have holds:∀j v,us[j]? =V v->w.cell? ((⟨g,0,I⟩:Addr).add j)=V v:=λj v hj=>by
     rw[qx,ym];exact hrow.cells rfl j v hj
    have h63':((nn+mm:Nat):Int)<=9223372036854775807:=by unfold maxLen at h63;omega
    have hr:=run_append_grow (P:=P) w T ty e i zz ht hi hz ⟨g,0,I⟩ nn (cap+1) us hrow.1 holds a mm cx news hl hc aq h63' (growslice_fits aq hb);have hgr:=grown us (cap+1) hrow.1 aq rfl;have hgc:=grownCap_ge w (nn+mm) (cap+1) e;refine⟨_,_,hr,hgr,⟨rfl,rfl,rfl,yd _,by simp,λk hk _=>heap_alloc_old w.drew _ hk⟩, .inr ?_⟩;obtain⟨ck,hck⟩:∃ck,grownCap w (nn+mm) (cap+1) e=ck+1:=⟨grownCap w (nn+mm) (cap+1) e-1,aq⟩;rw[hck];rfl
def Src(B:aa cn)(E:Env)(x:Operand)(e:TypeId)(l:aa (U.dh e)):Prop:=
 (∃p c,E.ev x=V (.lit (.slice p 0 c))/\l=[])\/E.ev x=V (.sl e l)\/∃(i:Nat) (v:Value),E.ev x=V (.lit v)/\B[i]? =V (.row v e l)
def Src.spec{q:Nat}{l:aa (U.dh q)}{A:Nat->Prop}{w:World}{S:Operand->Value}(h:Src B E x q l)(hd:Hd A B w)(ar:P9 A w E S):∃p cap news,S x= .slice p (zR l) cap/\(zR l=0\/∃a,p=V a/\∀j u,news[j]? =V u->w.cell? (a.add j)=V u)/\zR news=zR l*(U.sz q)/\(∀i,i<zR l->zR (U.cells q l[i]!)=(U.sz q))/\bO A w (l.flatMap (U.cells q)) news/\zR l<=9223372036854775807:=by
 rcases h with ⟨p,c,h,rfl⟩|h|⟨i,v,h,aw⟩
 ·exact⟨p,c,[],(ar _ _ h).cM, .inl rfl,by simp,λi hi=>by simp at hi,bO.nil,by simp⟩
 ·have hr:=ar _ _ h;obtain⟨p,cap,u,hv,hl,_,hz,hc,hcr⟩:=hr.vK;rw[hv]at hr
  let news:aa Value:=(zN (zR l)).flatMap λi=>(zN (U.sz q)).map λj=>u i j
  have hnl:∀(z:aa Nat),zR (z.flatMap λi=>(zN (U.sz q)).map λj=>u i j)=zR z*(U.sz q):=λz=>by
   induction z with
   |nil=>simp
   |cons a z ih=>rw[yQ,zh,ih,zu,we,yT,yP];omega
  have hnews:zR news=zR l*(U.sz q):=by rw[hnl,we]
  have hget:∀n i j,i<n->j<(U.sz q)->((zN n).flatMap λi=>(zN (U.sz q)).map λj=>u i j)[i*(U.sz q)+j]? =V (u i j):=by
   intro n;induction n with
   |zero=>intro i j hi _;omega
   |succ n ih=>
    intro i j hi hj;rw[List.range_succ,xR,xx,hnl,we];by_cases hin:i<n
    ·have:i*(U.sz q)+(U.sz q)<=n*(U.sz q):=by rw[<-yP];exact yl _ hin
     rw[bJ aq];simp_all
    ·have:i=n:=aq;subst this;rw[bN aq];simp[hj]
  refine⟨p,cap,news,hv,?_,hnews,hz,?_,hl⟩
  ·by_cases h0:zR l=0
   ·omega
   ·obtain⟨b,off,hp,hb,hA,hcc⟩:=hc 0 aq;refine .inr ⟨⟨b,off,I⟩,hp,λj v hj=> ?_⟩;have hjl:j<zR l*(U.sz q):=by rw[<-hnews];exact(z7.1 hj).1
    have hsz:0<(U.sz q):=by
     rcases wC (U.sz q)with h|h
     ·simp_all
     ·exact h
    have hi:j/(U.sz q)<zR l:=by rw[Nat.div_lt_iff_lt_mul hsz];exact hjl
    have hm:j%(U.sz q)<(U.sz q):=xg _ hsz;have he:j/(U.sz q)*(U.sz q)+j%(U.sz q)=j:=by rw[Nat.mul_comm];exact Nat.div_add_mod j (U.sz q)
    have h2:=hget (zR l) (j/(U.sz q)) (j%(U.sz q)) hi hm;rw[he]at h2;have h3:V v=V (u (j/(U.sz q)) (j%(U.sz q))):=by rw[<-hj,<-h2]
    cases h3;obtain⟨b',off',hp',_,_,hcc'⟩:=hc (j/(U.sz q)) hi;rw[hp]at hp';cases hp';have h4:=hcc' (j%(U.sz q)) hm;rw[qx,show off+j=off+j/(U.sz q)*(U.sz q)+j%(U.sz q)from aq];exact h4
  ·obtain⟨f1,f2⟩:=lZ l hz;refine⟨by rw[f1,hnews],λj a w' ha hw'=> ?_⟩;have hjl:j<zR l*(U.sz q):=by rw[<-hnews];exact(z7.1 hw').1
   have hsz:0<(U.sz q):=by
    rcases wC (U.sz q)with h|h
    ·simp_all
    ·exact h
   have hi:j/(U.sz q)<zR l:=by rw[Nat.div_lt_iff_lt_mul hsz];exact hjl
   have hm:j%(U.sz q)<(U.sz q):=xg _ hsz;have he:j/(U.sz q)*(U.sz q)+j%(U.sz q)=j:=by rw[Nat.mul_comm];exact Nat.div_add_mod j (U.sz q)
   have h2:=hget (zR l) (j/(U.sz q)) (j%(U.sz q)) hi hm;rw[he]at h2;have h3:V w'=V (u (j/(U.sz q)) (j%(U.sz q))):=by rw[<-hw',<-h2]
   cases h3;refine hcr (j/(U.sz q)) (j%(U.sz q)) a hi ?_;rw[<-f2 _ hi,yE,bJ hm,yF,he];exact ha
 ·obtain⟨us,h1,h2,h3⟩:=D9 (hd.1 _ (List.mem_of_getElem? aw));obtain⟨p,cap,hv,_⟩:=h1.len;have hx':=(ar _ _ h).cM;have hlm:zR l<=9223372036854775807:=by
   rcases h1.2 with ⟨_,_,h⟩|⟨_,_,_,_,_,q1,q2,_⟩
   ·omega
   ·unfold maxLen at q2;omega
  refine⟨p,cap,us,by rw[hx',hv],?_,h1.1,h2,h3,hlm⟩;by_cases h0:zR l=0
  ·exact .inl h0
  ·obtain⟨g,ck,cur,hv2,hgb,_⟩:=h1.at aq;rw[hv2]at hv;cases hv;refine .inr ⟨_,rfl,λj u hj=> ?_⟩;rw[qx,ym];exact h1.cells hgb j u hj
def Yv.app{by':Nat}{l l2:aa (U.dh e)}{zs:aa Value}(i:Nat)(ho:o.op= .call {callee:= .builtin .append,args:=#[x,y],argTypes:=#[T,T]})(hx:E.ev x=V (.lit v))(aw:B[i]? =V (.row v e l))(hy:Src B E y e l2)(hT:P.underlying T=V (.slice e))(hs:(P.info? e).map (λi=>(i.size,i.bytes))=V ((U.sz e),by'))(hz:j7 P e=V zs)(hzl:zR zs=(U.sz e))(hb:yq by' 4096=O)
  (h1:∀x:U.dh e,(U.cells e x).all iZ=O) (hlen:zR (l++l2)<=1073741824):Yv P E B o C (xP (gH v)) (λa B'=>∃v',a= .lit v'/\B'=B.set i (.row v' e (l++l2))):=λw S hg ar=>by
 obtain⟨it,hit,hz1⟩:=zn.1 hz;obtain⟨zv,hz2,hz3⟩:=zl.1 hz1;obtain⟨ie,hie,hse⟩:=zl.1 hs;have hee:it=ie:=by rw[hit]at hie;exact zF.inj hie
 subst hee;simp only[Prod.mk.injEq]at hse;obtain⟨s1,s2⟩:=hse;have hby:by'<=4096:=by simpa using hb
 obtain⟨us,g1,g2,g3⟩:=D9 (hg.res _ (List.mem_of_getElem? aw));obtain⟨p,cap,news,q1,q2,q3,q4,q5,q6⟩:=hy.spec hg.hd ar;have hx':=(ar _ _ hx).cM;have hone:∀u∈news,u.oneCell'=O:=q5.one (by
  rw[zx];intro a ha;obtain⟨x,_,hx⟩:=xz.1 ha;exact zx.1 (h1 x) a hx)
 rw[zh]at hlen;have hbytes:(zR l+zR l2)*by'<=140737488355328:=by
  have:(zR l+zR l2)*by'<=1073741824*4096:=Nat.mul_le_mul hlen hby
  omega
 obtain⟨v',w',r1,r2,r3,r4⟩:=qz (P:=P) (T:=T) (ty:=o.type) (xs:=S y) hT hit hz2 s1 s2 (by rw[<-yp,hz3,hzl]) g1 ⟨p,cap,q1,q2⟩ q3 hone (by unfold maxLen;omega) hbytes;refine⟨v',w',_,_,⟨v',rfl,rfl⟩,El (r:= .row v e l) hg aw r3 r4 (FQ (by rw[zh];exact r2) (Nr g2 q4) ?_),?_, .lit _⟩
 ·rw[xR];refine(g3.app q5).mono λb hb hA=>⟨⟨hA.1,λhx=> ?_⟩,r3.block b hb (λhx=>hA.2 (bS.2 ⟨_,List.mem_of_getElem? aw,by simpa [cn.blk]using hx⟩))⟩;obtain⟨s,hs1,hs2⟩:=bS.1 hx;rcases List.mem_or_eq_of_mem_set hs1 with h|h
  ·exact hA.2 (bS.2 ⟨s,h,hs2⟩)
  ·rw[h]at hs2;rcases r4 with r4|r4
   ·exact hA.2 (bS.2 ⟨_,List.mem_of_getElem? aw,r4.symm.trans hs2⟩)
   ·have:V w.heap.size=V b:=r4.symm.trans hs2;simp_all
 ·simp[execOp,ho,resolve,invoke,builtin,hx',r1]
end
def Rel.atn{A:Nat->Prop}{w:World}{qt:Nat}{l:aa (U.dh qt)}{p:af Addr}{cap:Nat}(h:Rel A w (.sl qt l) (.slice p (zR l) cap)){lo hi cap':Nat}(h1:lo<=hi)(h2:hi<=zR l)(hc':hi-lo<=cap')(q:af Addr)(hq:hi-lo=0\/q=p.map (·.add (lo*(U.sz qt)))):
  Rel A w (.sl qt ((l.take hi).drop lo)) (.slice q (hi-lo) cap'):=by
 obtain⟨p',cp,u,hv,hl,hcap,hz,hc,hr⟩:=h.vK;cases hv;have hln:zR ((l.take hi).drop lo)=hi-lo:=by rw[zV,zA];omega
 have hget:∀i,i<hi-lo->((l.take hi).drop lo)[i]! =l[lo+i]! :=λi hi'=>by
  rw[getElem!_pos _ i (by rw[hln];exact hi'),getElem!_pos l (lo+i) aq,xS,xJ]
 have hgoal:Rel A w (.sl qt ((l.take hi).drop lo)) (.slice q ((l.take hi).drop lo).length cap'):=by
  refine .sl qt _ q cap' (λi j=>u (lo+i) j) aq aq (λi hi'=> ?_) (λi hi'=> ?_) (λi j a hi' ha=> ?_)
  ·rw[hln]at hi';rw[hget i hi'];exact hz _ aq
  ·rw[hln]at hi';obtain⟨b,off,hp,hb,hA,hcc⟩:=hc (lo+i) aq;refine⟨b,off+lo*(U.sz qt),?_,hb,hA,λj hj=> ?_⟩
   ·rcases hq with hq|hq
    ·omega
    ·rw[hq,hp,yH,qx]
   ·have:=hcc j hj
    rwa [zX,<-yG]at this
  ·rw[hln]at hi';rw[hget i hi']at ha;exact hr _ j a aq ha
 simp_all
section
variable {P:Program} {E E':Env} {B B':aa cn} {o:Oper} {T T' e:TypeId} {x y z:Operand} {av bv:AV} {v u:Value} {m n:Int} {b:Bool} {k k':IntKind} {C:Cx} {X:aa Nat}
def Yq{w:World}{a:af Addr}{len cap lo hi:Nat}{s:Nat}{L H:af Value}(hT:P.underlying T=V (.slice e))(hs:(P.info? e).map (·.size)=V s)
  (hb:(Instr.sliceBounds O len cap L H I).run P w= .ok (lo,hi,cap) w):(Instr.slice T (.slice a len cap) L H I).run P w= .ok (.slice (if cap=lo then a else a.map (·.add (lo*s))) (hi-lo) (cap-lo)) w:=by
 obtain⟨j,hj,hj'⟩:=zl.1 hs;simp[Instr.slice,run_underlying hT,hb,sizeOf,typeInfo,hj,hj']
def O4{w:World}{len cap:Nat}(hh:0<=m/\m<=n/\n<=(len:Int))(hc:len<=cap):(Instr.sliceBounds O len cap (V (.int k m)) (V (.int k' n)) I).run P w= .ok (m.toNat,n.toNat,cap) w:=by
 have h1:0<=n/\n<=(cap:Int):=aq;simp[Instr.sliceBounds,Instr.sliceBound,asIntOf,h1];omega
def Yx{w:World}{len cap:Nat}(hh:0<=n/\n<=(len:Int))(hc:len<=cap):(Instr.sliceBounds O len cap I (V (.int k' n)) I).run P w= .ok (0,n.toNat,cap) w:=by
 have h1:0<=n/\n<=(cap:Int):=aq;simp[Instr.sliceBounds,Instr.sliceBound,asIntOf,h1]
def YW{w:World}{len cap:Nat}(hh:0<=m/\m<=(len:Int)):(Instr.sliceBounds O len cap (V (.int k m)) I I).run P w= .ok (m.toNat,len,cap) w:=by
 simp[Instr.sliceBounds,Instr.sliceBound,asIntOf,hh]
def Bv{A:Nat->Prop}{w:World}{S:Operand->Value}{q:Nat}{l:aa (U.dh q)}{L H:af Operand}{lo hi:Nat}(ho:o.op= .slice T x L H I)(hx:Rel A w (.sl q l) (S x))(hT:P.underlying T=V (.slice e))(hs:(P.info? e).map (·.size)=V (U.sz q))(h1:lo<=hi)(h2:hi<=zR l)
  (hb:∀cap,zR l<=cap->∀w',(Instr.sliceBounds O (zR l) cap (L.map S) (H.map S) I).run P w'= .ok (lo,hi,cap) w'):∃v,Rel A w (.sl q ((l.take hi).drop lo)) v/\∀w':World,(execOp S o).run P w'= .ok (.value v) w':=by
 obtain⟨p,cap,u,hv,hl,hcap,_⟩:=hx.vK;rw[hv]at hx;refine⟨.slice (if cap=lo then p else p.map (·.add (lo*(U.sz q)))) (hi-lo) (cap-lo),hx.atn h1 h2 aq _ ?_,λw'=> ?_⟩
 ·by_cases h:cap=lo
  ·omega
  ·right;rw[bN h]
 ·have:=Yq (P:=P) (T:=T) (w:=w') (a:=p) (len:=zR l) hT hs (hb cap hcap w');simp[execOp,ho,hv,Instr.sliceAt,run_underlying hT,this]
def Yp.atO{q:Nat}{l:aa (U.dh q)}(ho:o.op= .slice T x (V y) (V z) I)(hx:E.ev x=V (.sl q l))(hy:E.ev y=V (.n k m))(hz:E.ev z=V (.n k' n))(hT:P.underlying T=V (.slice e))(hs:(P.info? e).map (·.size)=V (U.sz q))
  (hm:0<=m/\m<=n/\n<=(zR l:Int)):Yp P E B o (.sl q ((l.take n.toNat).drop m.toNat)):=λA w S _ ar=>by
 obtain⟨v,h1,h2⟩:=Bv (P:=P) (lo:=m.toNat) (hi:=n.toNat) ho (ar _ _ hx) hT hs aq aq (λcap hc w'=>by
  simp only[yH,(ar _ _ hy).cM,(ar _ _ hz).cM];exact O4 hm hc)
 exact⟨v,h1,λw' _=>h2 w'⟩
def Yp.af9{q:Nat}{l:aa (U.dh q)}(ho:o.op= .slice T x I (V z) I)(hx:E.ev x=V (.sl q l))(hz:E.ev z=V (.n k' n))(hT:P.underlying T=V (.slice e))(hs:(P.info? e).map (·.size)=V (U.sz q))
  (hm:0<=n/\n<=(zR l:Int)):Yp P E B o (.sl q (l.take n.toNat)):=λA w S _ ar=>by
 obtain⟨v,h1,h2⟩:=Bv (P:=P) (lo:=0) (hi:=n.toNat) ho (ar _ _ hx) hT hs aq aq (λcap hc w'=>by
  simp only[yH,(ar _ _ hz).cM];exact Yx hm hc)
 exact⟨v,h1,λw' _=>h2 w'⟩
def Yp.alA{q:Nat}{l:aa (U.dh q)}(ho:o.op= .slice T x (V y) I I)(hx:E.ev x=V (.sl q l))(hy:E.ev y=V (.n k m))(hT:P.underlying T=V (.slice e))(hs:(P.info? e).map (·.size)=V (U.sz q))
  (hm:0<=m/\m<=(zR l:Int)):Yp P E B o (.sl q (l.drop m.toNat)):=λA w S _ ar=>by
 obtain⟨v,h1,h2⟩:=Bv (P:=P) (lo:=m.toNat) (hi:=zR l) ho (ar _ _ hx) hT hs aq aq (λcap hc w'=>by
  simp only[yH,(ar _ _ hy).cM];exact YW hm)
 rw[zH]at h1;exact⟨v,h1,λw' _=>h2 w'⟩
def Yv.Vi{sz':Nat}{q:Nat}{l:aa (U.dh q)}(ho:o.op= .slice T x I (V (.const (.int k 0))) (V (.const (.int k' 0))))(hx:E.ev x=V (.sl q l)\/E.ev x=V (.lit (.slice I 0 0)))(hT:P.underlying T=V (.slice e))(hs:(P.info? e).map (·.size)=V sz'):
  Yv P E B o C [] (λa B'=>∃v,a= .lit v/\B'= .row v e ([]:aa (U.dh e))::B):=λw S hg ar=>by
 obtain⟨j,hj,hj'⟩:=zl.1 hs;obtain⟨p,n,cap,hv⟩:∃p n cap,S x= .slice p n cap:=by
  rcases hx with hx|hx
  ·obtain⟨p,cap,u,hv,_⟩:=(ar _ _ hx).vK;simp_all
  ·exact⟨I,0,0,(ar _ _ hx).cM⟩
 have h0:S (.const (.int k 0))= .int k 0:=(ar (.const (.int k 0)) _ rfl).cM;have h0':S (.const (.int k' 0))= .int k' 0:=(ar (.const (.int k' 0)) _ rfl).cM;refine⟨.slice p 0 0,w,_,_,⟨_,rfl,rfl⟩,qQ hg (Kp.refl [] w) (.inl (by cases p<;>rfl)) ⟨[],⟨by simp, .inl ⟨_,rfl,rfl⟩⟩,λi hi=>by simp at hi,λi hi=>by simp at hi⟩,?_, .lit _⟩;simp[execOp,ho,hv,h0,h0',Instr.sliceAt,Instr.slice,Instr.sliceBounds,Instr.sliceBound,run_underlying hT,sizeOf,typeInfo,hj,asIntOf]
def Yp.ass{p:af Addr}{l c:Nat}(ho:o.op= .binOp .eql T x y T')(hx:E.ev x=V (.lit (.slice p l c)))(hy:E.ev y=V (.lit (.slice I 0 0)))(hT:P.underlying T=V (.slice e)):Yp P E B o (.b p.isNone):=Yp.lits λS ar w=>by
 have:=Lib.run_eql_slice_nil (P:=P) w T e p l c 0 0 hT;simp[execOp,ho,ar _ _ hx,ar _ _ hy,eqGuard,this]
def QV{w:World}(p:af Addr)(q:Nat)(h:Good C B w):Tr C [] B w (.row (.slice p 0 0) q ([]:aa (U.dh q))::B) w:=
 qQ h (Kp.refl [] w) (.inl (by cases p<;>rfl)) ⟨[],⟨by simp, .inl ⟨_,rfl,rfl⟩⟩,λi hi=>by simp at hi,λi hi=>by simp at hi⟩
def Vw(B:aa cn)(a a':AV):Prop:=∀(A:Nat->Prop) (w:World) (v:Value),Hd A B w->Rel A w a v->Rel (λb=>A b\/b∈bC B) w a' v
def Vw.row{q:Nat}{l:aa (U.dh q)}(i:Nat)(aw:B[i]? =V (.row v q l)):Vw B (.lit v) (.sl q l):=λA w u hd h=>by
 have hu:=h.cM;subst hu;have hm:=List.mem_of_getElem? aw;obtain⟨us,h1,h2,h3⟩:=hd.1 _ hm;have hlm:zR l<=9223372036854775807:=by
  rcases h1.2 with ⟨_,_,h⟩|⟨_,_,_,_,_,q1,q2,_⟩
  ·omega
  ·unfold maxLen at q2;omega
 obtain⟨p,cap,hv,hcap⟩:=h1.len;by_cases h0:zR l=0
 ·rw[hv];exact .sl q l p cap (λ_ _=>undef) hlm hcap (λi hi=>aq) (λi hi=>aq) (λi j a hi=>aq)
 ·obtain⟨g,ck,cur,hv2,hgb,hB,_⟩:=h1.at aq;rw[hv2]at hv;cases hv;rw[hv2];refine .sl q l _ (ck+1) (λi j=>(us[i*(U.sz q)+j]?).getD undef) hlm hcap h2 (λi hi=>⟨g,0,rfl,hB.lt, .inr (bS.2 ⟨_,hm,hgb⟩),λj hj=> ?_⟩) (λi j a hi ha=> ?_)
  ·have hlt:i*(U.sz q)+j<zR us:=by
    have:i*(U.sz q)+(U.sz q)<=zR l*(U.sz q):=by rw[<-yP];exact yl _ hi
    rw[h1.1];omega
   rw[ym,zq hlt];exact h1.cells hgb _ _ (zq hlt)
  ·obtain⟨u,q1,q2⟩:=(h3 i hi).get ha;rw[yE]at q1;split at q1
   ·rw[yF]at q1;rw[q1];exact q2.mono λb _ hA=>⟨.inl hA,rfl⟩
   ·cases q1
def Vw.nil(q:Nat):Vw B (.lit (.slice I 0 0)) (.sl q ([]:aa (U.dh q))):=λA w u _ h=>by
 have hu:=h.cM;subst hu;exact .sl q [] none 0 (λ_ _=>undef) (by simp) (by simp) (λi hi=>by cases hi) (λi hi=>by cases hi) (λi j a hi=>by cases hi)
def SV{r:cn}{i:Nat}(aw:B[i]? =V r):List.Perm (bC B) (bC (r::B.eraseIdx i)):=by
 obtain⟨h1,_⟩:=Ck (r':=r) aw;have h2:B.eraseIdx i=B.take i++B.drop (i+1):=wP ..;rw[h2];have hp:List.Perm (B.take i++r::B.drop (i+1)) (r::(B.take i++B.drop (i+1))):=List.perm_middle;rw[<-h1]at hp;exact hp.filterMap _
def Nd{r:cn}{i:Nat}{w:World}(aw:B[i]? =V r)(hg:Good C B w):∀b,(al C B b\/b∈bC [r])->al C (B.eraseIdx i) b:=λb hb=>by
 have hp:=SV aw;have hnd:=hp.nodup_iff.1 hg.Il;rcases hb with hb|hb
 ·exact⟨hb.1,λhx=>hb.2 (hp.mem_iff.2 (by rw[fI];exact yJ _ hx))⟩
 ·have hbs:b∈r.blk.toList:=by rw[fI]at hb;simpa [bC]using hb
  refine⟨?_,λhx=> ?_⟩
  ·rcases hg.own b (hp.mem_iff.2 (by rw[fI];exact yI _ hbs))with h|h
   ·simp_all
   ·omega
  ·rw[fI]at hnd;simp_all
end
def Fn(P:Program)(f:FuncId)(args:aa AV)(B:aa cn)(Φ:AV->aa cn->Prop):Prop:=
 ∀(w:World) (A:Nat->Prop) (vs:aa Value),bO A w args vs->Hd A B w->(bC B).Nodup->
  Calls P f vs.toArray w λe w'=>∃v av B',e= .returned v/\Φ av B'/\Tr ⟨w,A,bC B⟩ (bC B) B w B' w'/\Rel (al ⟨w,A,bC B⟩ B') w' av v
def Fn.mono{P:Program}{f:FuncId}{args:aa AV}{B:aa cn}{Φ j:AV->aa cn->Prop}(h:Fn P f args B Φ)(hp:∀a s,Φ a s->j a s):Fn P f args B j:=λw A vs h1 h2 h3=>
 (h w A vs h1 h2 h3).mono λ_ _ ⟨v,av,B',q1,q2,q3⟩=>⟨v,av,B',q1,hp _ _ q2,q3⟩
def fu:Nat->aa AV->Env
 |_,[]=>[]
 |i,v::l=>(i,v)::fu (i+1) l
def Ct:∀(l:aa AV) (i t:Nat) (v:AV),Env.get (fu i l) t=V v->i<=t/\l[t-i]? =V v
 |[],_,_,_,h=>by cases h
 |u::l,i,t,v,h=>by
  by_cases hit:i=t
  ·subst hit;rw[fu,Env.fB]at h;cases h;simp
  ·rw[fu,Env.dY _ _ hit]at h;obtain⟨h1,h2⟩:=Ct l (i+1) t v h;grind
def alJ(P:Program)(C:Cx)(n:Nat)(fn:Func)(Φ:AV->aa cn->Prop):Exit->Env->aa cn->Prop:=λe E B=>
 (e= .normal\/e= .ret)/\∀a w,uI C n E B a w->∃v av B',Φ av B'/\(results fn a.tmps).run P w= .ok v w/\Good C B' w/\(∀b,al C B b->al C B' b)/\Rel (al C B') w av v
structure Tn (C:Cx) (w w':World):Prop where
 os:w'.os=w.os
 tape:w'.tape=w.tape
 output:w'.output=w.output
 drawn:w.drawn<=w'.drawn
 size:w.heap.size<=w'.heap.size
 old:∀k,k<C.w0.heap.size->w'.heap[k]? =w.heap[k]?
 same:∀(b:Nat) cs T m,w.heap[b]? =V (Obj.cells cs T m)->w'.heap[b]? =w.heap[b]?
def Rel.Le{C:Cx}{A:Nat->Prop}{w w':World}{av:AV}{v:Value}(h:Rel A w av v)(ht:Tn C w w'):Rel A w' av v:=by
 have hcell:∀b i u,w.cell? ⟨b,i,I⟩=V u->w'.cell? ⟨b,i,I⟩=V u:=λb i u hc=>by
  rw[<-hc];cases hb:w.heap[b]? with
  |none=>simp[World.cell?,hb]at hc
  |some o=>
   cases o with
   |cells cs T m=>exact World.cell?_of_block (ht.same b cs T m hb)
   |_=>simp[World.cell?,hb]at hc
 induction h with
 |lit v=>exact .lit v
 |sl q l p cap u hl hcap hz hc hr ih=>
  refine .sl q l p cap u hl hcap hz (λi hi=> ?_) ih;obtain⟨b,off,h1,h2,h3,h4⟩:=hc i hi;exact⟨b,off,h1,x9 h2 ht.size,h3,λj hj=>hcell _ _ _ (h4 j hj)⟩
 |fp cs b o us hb hA hl hc hr ih=>exact .fp cs b o us (x9 hb ht.size) hA hl (λj v hj=>hcell _ _ _ (hc j v hj)) ih
 |rp v k g h=>exact .rp v k g h
 |agg cs us hl hr ih=>exact .agg cs us hl ih
 |jf cs us hl hr ih=>exact .jf cs us hl ih
 |fn f cs us hl hr ih=>exact .fn f cs us hl ih
def cn.ok.Le{C:Cx}{A:Nat->Prop}{w w':World}{r:cn}(h:r.ok A w)(ht:Tn C w w'):r.ok A w':=by
 cases r with
 |box b T cs=>
  obtain⟨us,h1,h2⟩:=h;exact⟨us,(ht.same _ _ _ _ h1).trans h1,h2.1,λj a v q1 q2=>(h2.2 j a v q1 q2).Le ht⟩
 |row v q l=>
  obtain⟨us,h1,h2,h3⟩:=h;refine⟨us,⟨h1.1,?_⟩,h2,λi hi=>⟨(h3 i hi).1,λj a v q1 q2=>((h3 i hi).2 j a v q1 q2).Le ht⟩⟩;rcases h1.2 with q|⟨g,cap,cur,rfl,q1,q2⟩
  ·exact .inl q
  ·exact .inr ⟨g,cap,cur,rfl,(ht.same _ _ _ _ q1).trans q1,q2⟩
def Good.Le{C:Cx}{B:aa cn}{w w':World}(h:Good C B w)(ht:Tn C w w'):Good C B w':=
 ⟨⟨ht.os.trans h.kept.os,ht.tape.trans h.kept.tape,ht.output.trans h.kept.output,zG h.kept.drawn ht.drawn,zG h.kept.size ht.size,λk hk hX=>(ht.old k hk).trans (h.kept.block k hk hX)⟩,
  λr hr=>(h.res r hr).Le ht,h.Il,h.own⟩
def Tn.putObj{C:Cx}{w:World}{D:Nat}{o:Obj}(o':Obj)(hw:C.w0.heap.size<=D)(hD:w.heap[D]? =V o)(ho:o.isCells=G):Tn C w (w.putObj D o'):=
 ⟨rfl,rfl,rfl,zm _,by simp,λk hk=>World.putObj_heap_other aq,λb cs T m hx=>World.putObj_heap_other λe=>by
  subst e;rw[hD]at hx;cases hx;cases ho⟩
def mh.Le{C:Cx}{A:Nat->Prop}{w w':World}{E:Env}{tmps:Array Value}(h:mh A w E tmps)(ht:Tn C w w'):mh A w' E tmps:=λt av q=>let ⟨v,h1,h2⟩:=h t av q;⟨v,h1,h2.Le ht⟩
def Fn.of{P:Program}{f:FuncId}{fn:Func}{c:Code}{n:Nat}{args:aa AV}{B:aa cn}{Φ:AV->aa cn->Prop}(hf:P.funcs[f]? =V fn)(hb:fn.body=V c)(hn:fn.ntmps=n)(hl:yq (zR args) n=O)
  (h:∀C,CW P C n c (alJ P C n fn Φ) (fu 0 args) B):Fn P f args B Φ:=λw A vs hr hd hnd=>by
 have hl':zR args<=n:=by simpa using hl
 have hvl:=hr.1;have hal:∀b,b<w.heap.size->A b->al ⟨w,A,bC B⟩ B b:=λb _ hA=>⟨.inl hA,λhx=>hd.2 b hx hA⟩;have hgood:Good ⟨w,A,bC B⟩ B w:=⟨Kp.refl _ _,λr hr=>(hd.1 r hr).mono (λb hb hA=>⟨hal b hb hA,rfl⟩) (λ_ _=>rfl),hnd,λb hb=> .inl hb⟩;refine callsIn_wide.1 (callsIn_of_wp_marks (n:=0) hf hb trivial (wpIn_wide.2 (wp_mono (h ⟨w,A,bC B⟩ _ w ⟨.nil rfl,?_,λt v ht=> ?_,hgood⟩) ?_)))
 ·simp;omega
 ·obtain⟨_,h2⟩:=Ct args 0 t v ht;obtain⟨u,h3,h4⟩:=hr.get h2;have hlt:t<zR vs:=(z7.1 h3).1;refine⟨u,?_,h4.mono λb hb hA=>⟨hal b hb hA,rfl⟩⟩;rw[Array.getElem?_append_left (by simpa using hlt)];simpa using h3
 ·rintro e a' w' ⟨E',B',h1,he,h2⟩;have fin:∀(w'':World),uI ⟨w,A,bC B⟩ n E' B' {a' with defers:=[]} w''->∃v,(results fn a'.tmps).run P w''= .ok v w''/\∃v' av B'',Ending.returned v= .returned v'/\Φ av B''/\Tr ⟨w,A,bC B⟩ (bC B) B w B'' w''/\Rel (al ⟨w,A,bC B⟩ B'') w'' av v':=λw'' hs=>by
   obtain⟨v,av,B'',h3,h4,h5,h6,h7⟩:=h2 _ w'' hs;have hex:Tr ⟨w,A,bC B⟩ (bC B) B w B'' w'':=⟨h5,h5.kept,λb hb hA=>⟨⟨hA.1,λhx=>by
    rcases h5.own b hx with h|h
    ·exact hA.2 h
    ·exact ep hb (by have:w.heap.size<=b:=h;omega)⟩,hA.2⟩⟩
   exact⟨v,h4,v,av,B'',rfl,h3,hex,h7⟩
  have lv:LeavesInM Fence.wide 0 P fn a'.tmps (λe w'=>∃v av B',e= .returned v/\Φ av B'/\Tr ⟨w,A,bC B⟩ (bC B) B w B' w'/\Rel (al ⟨w,A,bC B⟩ B') w' av v) a'.defers .returning w':=by
   obtain⟨Ds,hd1,hd2,hd3⟩:=h1.defers;rw[hd1];have hsl:=h1.slots;have hgd:=h1.good;have hsz:=h1.size;clear hd1 h1;induction Ds generalizing w' with
   |nil=>exact fin w' ⟨.nil rfl,hsz,hsl,hgd⟩
   |cons D Ds ih=>
    obtain⟨q1,q2,q3,q4⟩:=hd3 D zk;rw[List.nodup_cons]at hd2;refine⟨by simp, .inl ⟨D,_,rfl,run_takeDeferred q4,?_⟩⟩;have ht:Tn ⟨w,A,bC B⟩ w' (w'.putObj D (.deferred I)):= .putObj _ q2 q4 rfl;refine ih _ hd2.2 (λD' hD'=> ?_) (hsl.Le ht) (hgd.Le ht);obtain⟨p1,p2,p3,p4⟩:=hd3 D' (zI _ hD');have hne:D'≠D:=λe=>hd2.1 (e▸hD');exact⟨x9 p1 ht.size,p2,p3,(World.putObj_heap_other hne).trans p4⟩
  rcases he with rfl|rfl
  ·exact lv
  ·exact lv
def uw(tmps:Array Value):ResultVar->Sem Value
 | .tmp t=>pure (tmps.getD t undef)
 | .cell a t=>do loadVar t (<-asAddr (tmps.getD a undef))
def Gg(P:Program)(E:Env)(B:aa cn)(rv:ResultVar)(av:AV):Prop:=∀(A:Nat->Prop) (w:World) (tmps:Array Value),Hd A B w->mh A w E tmps->∃v,(uw tmps rv).run P w= .ok v w/\Rel A w av v
section
variable {P:Program} {C:Cx} {n:Nat} {fn:Func} {E:Env} {B B':aa cn} {t u:Nat} {av:AV} {e:Exit} {Φ:AV->aa cn->Prop}
def Gg.tmp(h:E.get t=V av):Gg P E B (.tmp t) av:=λA w tmps _ hs=>by
 obtain⟨v,h1,h2⟩:=hs t av h;exact⟨v,by simp[uw,h1],h2⟩
def Gg.axi{g:Nat}{ty T:TypeId}{cs:aa AV}(i:Nat)(h:E.get t=V (.lit (.pointer (V ⟨g,0,I⟩))))(aw:B[i]? =V (.box g T cs))(hT:tE P ty)(ha:cs[0]? =V av):Gg P E B (.cell t ty) av:=λA w tmps hd hs=>by
 obtain⟨v,h1,h2⟩:=hs t _ h;have h2:=h2.cM;subst h2;obtain⟨us,h3,h4⟩:=hd.1 _ (List.mem_of_getElem? aw);obtain⟨v,h5,h6⟩:=h4.get ha;exact⟨v,by simp[uw,h1,asAddr,iT hT (h3.cell (by simpa using h5))],h6⟩
def Gg.azB{g k:Nat}{ty T:TypeId}{cs:aa AV}(i:Nat)(h:E.get t=V (.lit (.pointer (V ⟨g,0,I⟩))))(aw:B[i]? =V (.box g T cs))(hT:uj P ty k)(hk:zR cs=k):Gg P E B (.cell t ty) (.agg cs):=λA w tmps hd hs=>by
 obtain⟨v,h1,h2⟩:=hs t _ h;have h2:=h2.cM;subst h2;obtain⟨us,h3,h4⟩:=hd.1 _ (List.mem_of_getElem? aw);refine⟨_,?_,Rel.pS h4⟩;have:=iA (P:=P) (T:=ty) (w:=w) (a:=⟨g,0,I⟩) (cs:=us) (by rw[h4.1,hk];exact hT) (λj u hj=>by rw[qx,ym];exact h3.cell (by simpa using hj));simp[uw,h1,asAddr,this]
def acw(he:e= .normal\/e= .ret)(hs:List.Sublist B' B)(a8:Φ av B')(h:∀A w tmps,Hd A B w->mh A w E tmps->∃v,(results fn tmps).run P w= .ok v w/\Rel A w av v):alJ P C n fn Φ e E B:=
 ⟨he,λa w ha=>by
  obtain⟨v,h1,h2⟩:=h _ w a.tmps ha.good.hd ha.slots;have hl:=ha.less hs;have hal:∀b,al C B b->al C B' b:=λb hb=>⟨hb.1,λhx=>hb.2 (qF (λr hr=>hs.subset hr) b hx)⟩;exact⟨v,av,B',a8,h1,hl.good,hal,h2.mono λb _ hA=>⟨hal b hA,rfl⟩⟩⟩
end
def tO(P:Program)(f:FuncId):Prop:=∃fn,P.funcs[f]? =V fn/\(fn.name=="runtime.NumGoroutine")=G/\fn.body.isNone=G
def CT{P:Program}{f:FuncId}{w:World}(hf:tO P f)(args:Array Value):(callFunc f args).run P w= .ok (.enter f args) w:=by
 obtain⟨fn,h1,h2,h3⟩:=hf;have h2':¬fn.name="runtime.NumGoroutine":=by simpa using h2
 have h3':¬fn.body=I:=by
  intro h;simp_all
 simp[callFunc,Sem.run,h1,h2',h3']
def Cl(a:AV):Prop:=∀A A' w v,Rel A w a v->Rel A' w a v
def Cl.lit(v:Value):Cl (.lit v):=λA A' w u h=>by rw[h.cM];exact .lit v
def Mm(as0:aa AV):Prop:=∀A A' w us,bO A w as0 us->bO A' w as0 us
def Mm.nil:Mm []:=λA A' w us h=>by
 have:us=[]:=xh (by simpa using h.1);rw[this];exact bO.nil
def Mm.cons{a:AV}{as0:aa AV}(h:Cl a)(hs:Mm as0):Mm (a::as0):=λA A' w us hr=>by
 obtain⟨v,us',rfl,h1,h2⟩:=hr.head;exact bO.cons (h A A' w v h1) (hs A A' w us' h2)
def Cl.agg{as0:aa AV}(h:Mm as0):Cl (.agg as0):=λA A' w v hr=>by
 obtain⟨us,rfl,h1⟩:=hr.oI;exact Rel.pS (h A A' w us h1)
def Cl.jf{as0:aa AV}(h:Mm as0):Cl (.jf as0):=λA A' w v hr=>by
 obtain⟨us,rfl,h1⟩:=hr.T9;exact Rel.G2 (h A A' w us h1)
def ClR(r:cn):Prop:=∀A A' w,r.ok A w->r.ok A' w
def ClR.box{b:Nat}{T:TypeId}{cs:aa AV}(h:Mm cs):ClR (.box b T cs):=λA A' w ⟨us,h1,h2⟩=>⟨us,h1,h A A' w us h2⟩
def ClR.row{v:Value}{q:Nat}{l:aa (U.dh q)}(h:∀x,Mm (U.cells q x)):ClR (.row v q l):=λA A' w ⟨us,h1,h2,h3⟩=>⟨us,h1,h2,λi hi=>h _ A A' w _ (h3 i hi)⟩
section
variable {P:Program} {C:Cx} {E:Env} {B σp σr:aa cn} {o:Oper} {x:Operand} {f:FuncId} {xs:Array Operand} {ts:Array TypeId} {as0 caps args:aa AV} {Φ:AV->aa cn->Prop}
def abp{A:Nat->Prop}{w:World}{S:Operand->Value}(ho:o.op= .call {callee:= .value x,args:=xs,argTypes:=ts})(hx:E.ev x=V (.fn (.func f) caps))(hf:tO P f)(he:E.Ot xs.toList=V as0)(ha:as0++caps=args)(ar:P9 A w E S):∃us:aa Value,bO A w args us/\(execOp S o).run P w= .ok (.enter f us.toArray) w:=by
 obtain⟨us,h1,h2⟩:=(ar _ _ hx).abD;have h3:=Env.Kb ar he;refine⟨xs.toList.map S++us,ha▸h3.app h2,?_⟩;have h4:xs.map S=(xs.toList.map S).toArray:=by apply Array.ext';simp
 simp[execOp,ho,resolve,h1,Deferred.ofValue,invoke,CT hf]
def bQ{σp σr:aa cn}{b:Nat}:b∈bC (σp++σr)↔b∈bC σp\/b∈bC σr:=by rw[ia,zP]
def Dr{w w':World}{A:Nat->Prop}{σo:aa cn}(hg:Good C (σp++σr) w)(hA:∀b,A b->b<w.heap.size->al C (σp++σr) b\/b∈bC σr)(ht:Tr ⟨w,A,bC σp⟩ (bC σp) σp w σo w')
  (hok:∀r∈σo,r.ok (al C (σo++σr)) w'):Tr C (bC σp) (σp++σr) w (σo++σr) w':=by
 have hlt:∀b∈bC (σp++σr),b<w.heap.size:=λb hb=>by
  obtain⟨s,h1,h2⟩:=bS.1 hb;exact(hg.res s h1).lt h2
 have hdis:=hg.Il;rw[ia]at hdis;obtain⟨d1,d2,d3⟩:=yO.1 hdis;have hown:∀b∈bC σo,b∈bC σp\/w.heap.size<=b:=ht.good.own;have hal:∀b,b<w.heap.size->al C (σp++σr) b->al C (σo++σr) b/\b∉bC σp:=λb hb hA=>by
  have h2:b∉bC σp/\b∉bC σr:=by
   have:=hA.2;rw[bQ]at this;simp_all
  refine⟨⟨hA.1,λhx=> ?_⟩,h2.1⟩;rcases bQ.1 hx with h|h
  ·rcases hown b h with h|h
   ·simp_all
   ·omega
  ·simp_all
 refine⟨⟨hg.kept.trans ht.kp (λb hb hlt0=> ?_),λr hr=> ?_,?_,λb hb=> ?_⟩,ht.kp,hal⟩
 ·rcases hg.own b (bQ.2 (.inl hb))with h|h
  ·exact h
  ·omega
 ·rcases zP.1 hr with h|h
  ·simp_all
  ·refine(hg.res r (yJ _ h)).mono (λb hb hA=>⟨(hal b hb hA).1,ht.kp.block b hb (hal b hb hA).2⟩) (λb hb=> ?_);have hbr:b∈bC σr:=bS.2 ⟨r,h,hb⟩;exact ht.kp.block b (hlt b (bQ.2 (.inr hbr))) (λhp=>d3 b hp b hbr rfl)
 ·rw[ia];refine yO.2 ⟨ht.good.Il,d2,λa ha b hb hab=> ?_⟩;subst hab;rcases hown a ha with h|h
  ·exact d3 a h a hb rfl
  ·have:=hlt a (bQ.2 (.inr hb));omega
 ·rcases bQ.1 hb with h|h
  ·rcases hown b h with h|h
   ·exact hg.own b (bQ.2 (.inl h))
   ·exact .inr (zG hg.kept.size h)
  ·exact hg.own b (bQ.2 (.inr h))
def Yc.fn(ho:o.op= .call {callee:= .value x,args:=xs,argTypes:=ts})(hx:E.ev x=V (.fn (.func f) caps))(hf:tO P f)(he:E.Ot xs.toList=V as0)(ha:as0++caps=args)(aw:B=σp++σr)(h:Fn P f args σp Φ):
  Yc P E B o C (bC σp) (λav B'=>∃σo,Φ av σo/\B'=σo++σr):=λw S hg ar=>by
 subst aw;obtain⟨us,h1,h2⟩:=abp ho hx hf he ha ar;have hlt:∀b∈bC (σp++σr),b<w.heap.size:=λb hb=>by
  obtain⟨s,h1,h2⟩:=bS.1 hb;exact(hg.res s h1).lt h2
 have hd:Hd (al C (σp++σr)) σp w:=⟨λr hr=>hg.res r (yI _ hr),λb hb hA=>hA.2 (bQ.2 (.inl hb))⟩;have hnd:(bC σp).Nodup:=by have:=hg.Il;rw[ia]at this;exact(yO.1 this).1
 refine⟨f,us.toArray,h2,(h w (al C (σp++σr)) us h1 hd hnd).mono λe w' ⟨v,av,σo,q1,q2,q3,q4⟩=> ?_⟩;have hsub:∀b,b<w'.heap.size->al ⟨w,al C (σp++σr),bC σp⟩ σo b->al C (σo++σr) b:=λb _ hb=>by
  obtain⟨hb1,hb2⟩:=hb;rcases hb1 with hb1|hb1|hb1
  ·exact⟨hb1.1,λhx=>(bQ.1 hx).elim hb2 (λh=>hb1.2 (bQ.2 (.inr h)))⟩
  ·have hbp:b∈bC σp:=hb1;refine⟨?_,λhx=>(bQ.1 hx).elim hb2 (λh=> ?_)⟩
   ·rcases hg.own b (bQ.2 (.inl hbp))with h|h
    ·simp_all
    ·omega
   ·have hdis:=hg.Il;rw[ia]at hdis;exact(yO.1 hdis).2.2 b hbp b h rfl
  ·have hbw:w.heap.size<=b:=hb1;exact⟨.inr (.inr (zG hg.kept.size hbw)),λhx=>(bQ.1 hx).elim hb2 (λh=>by have:=hlt b (bQ.2 (.inr h));omega)⟩
 exact⟨v,av,σo++σr,q1,⟨σo,q2,rfl⟩,Dr hg (λb hA _=> .inl hA) q3 (λr hr=>(q3.good.res r hr).mono (λb hb hA=>⟨hsub b hb hA,rfl⟩) (λ_ _=>rfl)),q4.mono λb hb hA=>⟨hsub b hb hA,rfl⟩⟩
end
end Go.Iv
namespace Go.Iv
variable [U:tf]
open Go Go.RowKit
section
variable {P:Program} {E E':Env} {B B':aa cn} {o:Oper} {x:Operand} {av bv:AV} {C:Cx} {X:aa Nat} {n:Nat}
end
def pL{α:Type}{c:Prop}[Decidable c]{a:af α}{r:α}(h:(if c then a else I)=V r):c/\a=V r:=by
 simp_all
abbrev cN(k:IntKind)(n:Int):aa AV:=[.n k n]
abbrev cB(b:Bool):aa AV:=[.b b]
instance:Inhabited ByteArray:=⟨.empty⟩
end Go.Iv
namespace Go.Iv
variable [U:tf]
open Go Go.RowKit
section
variable {P:Program} {E E':Env} {B B':aa cn} {o:Oper} {x:Operand} {av bv:AV} {C:Cx} {X:aa Nat} {n:Nat}
def Yp.conv{T T':TypeId}{k k':IntKind}{m:Int}(hT:P.underlying T=V (.int k))(hT':P.underlying T'=V (.int k'))(ho:o.op= .convert T T' x)(hx:E.ev x=V (.n k m)):Yp P E B o (.n k' (k'.wrap m)):=Yp.lits λS ar w=>by
 simp[execOp,ho,ar _ _ hx,convert,run_underlying hT,run_underlying hT',Conv.intToInt]
end
structure Gh where
 v:Nat->Value
 b:Nat->Nat
def b9.sub(S:Gh):AV->AV
 | .lit v=> .lit v
 | .sl t l=> .sl t l
 | .fp cs=> .fp (cs.map (b9.sub S))
 | .rp v k=> .rp v k
 | .agg cs=> .agg (cs.map (b9.sub S))
 | .jf cs=> .jf (cs.map (b9.sub S))
 | .fn f cs=> .fn f (cs.map (b9.sub S))
 | .own id=> .lit (S.v id)
 | .ptr id off=> .lit (.pointer (V ⟨S.b id,off,I⟩))
 | .ra id t m off=> .rp (S.v id) (m*U.sz t+off)
inductive gY (p:Nat->Prop):AV->Prop
 |lit (v:Value):gY p (.lit v)
 |sl (t:Nat) (l:List (U.dh t)):gY p (.sl t l)
 |fp (cs:List AV) (h:∀c∈cs,gY p c):gY p (.fp cs)
 |rp (v:Value) (k:Nat):gY p (.rp v k)
 |agg (cs:List AV) (h:∀c∈cs,gY p c):gY p (.agg cs)
 |jf (cs:List AV) (h:∀c∈cs,gY p c):gY p (.jf cs)
 |fn (f:Go.Fn) (cs:List AV) (h:∀c∈cs,gY p c):gY p (.fn f cs)
 |own (id:Nat) (h:p id):gY p (.own id)
 |ptr (id off:Nat) (h:p id):gY p (.ptr id off)
 |ra (id t m off:Nat) (h:p id):gY p (.ra id t m off)
abbrev cW(n:Nat):AV->Prop:=gY (λi=>i<n)
def Ags(p:Nat->Prop)(S S':Gh):Prop:=∀i,p i->S.v i=S'.v i/\S.b i=S'.b i
def gY.mono{p q:Nat->Prop}{d:AV}(h:gY p d)(hn:∀i,p i->q i):gY q d:=by
 induction h with
 |lit v=>exact .lit v
 |sl t l=>exact .sl t l
 |fp cs _ ih=>exact .fp cs ih
 |rp v k=>exact .rp v k
 |agg cs _ ih=>exact .agg cs ih
 |jf cs _ ih=>exact .jf cs ih
 |fn f cs _ ih=>exact .fn f cs ih
 |own id h=>exact .own id (hn _ h)
 |ptr id off h=>exact .ptr id off (hn _ h)
 |ra id t m off h=>exact .ra id t m off (hn _ h)
def gY.sub{p:Nat->Prop}{d:AV}{S S':Gh}(h:gY p d)(ha:Ags p S S'):d.sub S=d.sub S':=by
 have key:∀cs:aa AV,(∀c∈cs,c.sub S=c.sub S')->cs.map (b9.sub S)=cs.map (b9.sub S'):=λcs h=>zZ h;induction h with
 |lit v=>simp only[b9.sub]
 |sl t l=>simp only[b9.sub]
 |fp cs _ ih=>simp only[b9.sub];rw[key cs ih]
 |rp v k=>simp only[b9.sub]
 |agg cs _ ih=>simp only[b9.sub];rw[key cs ih]
 |jf cs _ ih=>simp only[b9.sub];rw[key cs ih]
 |fn f cs _ ih=>simp only[b9.sub];rw[key cs ih]
 |own id h=>simp only[b9.sub];rw[(ha id h).1]
 |ptr id off h=>simp only[b9.sub];rw[(ha id h).2]
 |ra id t m off h=>simp only[b9.sub];rw[(ha id h).1]
def gY.aeJ{p:Nat->Prop}{cs:aa AV}{S S':Gh}(h:∀c∈cs,gY p c)(ha:Ags p S S'):cs.map (b9.sub S)=cs.map (b9.sub S'):=zZ λc hc=>(h c hc).sub ha
def pU(n:Nat)(S S':Gh):Prop:=∀i,i<n->S.v i=S'.v i/\S.b i=S'.b i
def pU.refl(n:Nat)(S:Gh):pU n S S:=λ_ _=>⟨rfl,rfl⟩
def pU.trans{n m:Nat}{S S' S'':Gh}(h:pU n S S')(h':pU m S' S'')(hn:n<=m):pU n S S'':=λi hi=>
 ⟨(h i hi).1.trans (h' i aq).1,(h i hi).2.trans (h' i aq).2⟩
def cW.mono{n m:Nat}{d:AV}(h:cW n d)(hn:n<=m):cW m d:=gY.mono h λ_ hi=>x9 hi hn
def cW.sub{n:Nat}{d:AV}{S S':Gh}(h:cW n d)(ha:pU n S S'):d.sub S=d.sub S':=gY.sub h ha
def cW.aeJ{n:Nat}{cs:aa AV}{S S':Gh}(h:∀c∈cs,cW n c)(ha:pU n S S'):cs.map (b9.sub S)=cs.map (b9.sub S'):=gY.aeJ h ha
inductive IR:Type
 |box (T:Nat) (cs:List AV)
 |row (t:Nat) (l:List (U.dh t))
def IR.res(S:Gh)(id:Nat):IR->cn
 | .box T cs=> .box (S.b id) T (cs.map (b9.sub S))
 | .row t l=> .row (S.v id) t l
abbrev bt:Type:=aa (Nat×IR)
def bt.res(S:Gh)(R:bt):aa cn:=R.map λp=>p.2.res S p.1
def IR.cW(n:Nat):IR->Prop
 | .box _ cs=>∀c∈cs,Iv.cW n c
 | .row _ _=>True
def bt.cW(n:Nat)(R:bt):Prop:=∀p∈R,p.1<n/\p.2.cW n
def IR.cW.mono{n m:Nat}{r:IR}(h:r.cW n)(hn:n<=m):r.cW m:=by
 cases r with
 |box T cs=>exact λc hc=>(h c hc).mono hn
 |row t l=>trivial
def bt.cW.mono{n m:Nat}{R:bt}(h:bt.cW n R)(hn:n<=m):bt.cW m R:=λp hp=>⟨x9 (h p hp).1 hn,(h p hp).2.mono hn⟩
def IR.cW.res{n id:Nat}{r:IR}{S S':Gh}(h:r.cW n)(hi:id<n)(ha:pU n S S'):r.res S id=r.res S' id:=by
 cases r with
 |box T cs=>simp only[IR.res];rw[(ha id hi).2,Iv.cW.aeJ h ha]
 |row t l=>simp only[IR.res];rw[(ha id hi).1]
def bt.cW.res{n:Nat}{R:bt}{S S':Gh}(h:bt.cW n R)(ha:pU n S S'):bt.res S R=bt.res S' R:=zZ λp hp=>(h p hp).2.res (h p hp).1 ha
def gJ(R:bt)(id:Nat):af IR:=List.rec I (λp _ ih=>Bool.rec ih (V p.2) (ze p.1 id)) R
def uv(id:Nat)(r':IR)(R:bt):bt:=List.rec [] (λp R ih=>Bool.rec (p::ih) ((p.1,r')::R) (ze p.1 id)) R
def lz(id:Nat)(R:bt):bt:=List.rec [] (λp R ih=>Bool.rec (p::ih) R (ze p.1 id)) R
def YL{i:Nat}{r:IR}{R:bt}{id:Nat}:gJ ((i,r)::R) id=match ze i id with
  |true=>V r
  |false=>gJ R id:=by
 show Bool.rec (motive:=λ_=>_) (gJ R id) (V r) (ze i id)=_;cases ze i id<;>rfl
def Iy{i:Nat}{r r':IR}{R:bt}{id:Nat}:uv id r' ((i,r)::R)=match ze i id with
  |true=>(i,r')::R
  |false=>(i,r)::uv id r' R:=by
 show Bool.rec (motive:=λ_=>_) ((i,r)::uv id r' R) ((i,r')::R) (ze i id)=_;cases ze i id<;>rfl
def BR{i:Nat}{r:IR}{R:bt}{id:Nat}:lz id ((i,r)::R)=match ze i id with
  |true=>R
  |false=>(i,r)::lz id R:=by
 show Bool.rec (motive:=λ_=>_) ((i,r)::lz id R) R (ze i id)=_;cases ze i id<;>rfl
def gU{a b:Nat}(h:ze a b=O):a=b:=xw h
def eT:∀{R:bt} {id:Nat} {r:IR},gJ R id=V r->∃i:Nat,R[i]? =V (id,r)/\(∀r',uv id r' R=R.set i (id,r'))/\lz id R=R.eraseIdx i
 |[],_,_,h=>by cases h
 |(i,r)::R,id,r0,h=>by
  rw[YL]at h;cases hb:ze i id with
  |true=>
   rw[hb]at h;cases h;cases gU hb;exact⟨0,rfl,λr'=>by rw[Iy,hb];rfl,by rw[BR,hb];rfl⟩
  |false=>
   rw[hb]at h;obtain⟨j,h1,h2,h3⟩:=eT h;exact⟨j+1,h1,λr'=>by rw[Iy,hb];simp[h2],by rw[BR,hb];simp[h3]⟩
def iD{R:bt}{S:Gh}{i id:Nat}{r:IR}(h:R[i]? =V (id,r)):(bt.res S R)[i]? =V (r.res S id):=by
 unfold bt.res;rw[ye,h];rfl
def vF{R:bt}{S:Gh}{i id:Nat}{r:IR}:bt.res S (R.set i (id,r))=(bt.res S R).set i (r.res S id):=by
 unfold bt.res;rw[List.map_set]
def Cb{R:bt}{S:Gh}{i:Nat}:bt.res S (R.eraseIdx i)=(bt.res S R).eraseIdx i:=by
 unfold bt.res;rw[wP,wP,zM,xK,xA]
def FB{R:bt}{id n:Nat}{r:IR}(h:gJ R id=V r)(hR:bt.cW n R):id<n/\r.cW n:=by
 obtain⟨i,h1,_⟩:=eT h;exact hR _ (List.mem_of_getElem? h1)
def p7{R:bt}{id n:Nat}{r r':IR}(h:gJ R id=V r)(hR:bt.cW n R)(hr:r'.cW n):bt.cW n (uv id r' R):=by
 obtain⟨i,h1,h2,_⟩:=eT h;rw[h2];intro p hp;rcases List.mem_or_eq_of_mem_set hp with hp|rfl
 ·exact hR p hp
 ·exact⟨(hR _ (List.mem_of_getElem? h1)).1,hr⟩
def FP{R:bt}{id n:Nat}(hR:bt.cW n R):bt.cW n (lz id R):=by
 induction R with
 |nil=>exact hR
 |cons p R ih=>
  obtain⟨i,r⟩:=p;have h2:bt.cW n R:=λp hp=>hR p (zI _ hp);rw[BR];split
  ·exact h2
  ·intro q hq;rcases zy.1 hq with rfl|hq
   ·exact hR _ zk
   ·exact ih h2 q hq
def Env.sub(S:Gh)(E:Env):Env:=E.map λp=>(p.1,p.2.sub S)
def Env.cW(n:Nat)(E:Env):Prop:=∀p∈E,Iv.cW n p.2
def Env.fA{S:Gh}(t:Nat):∀(E:Env),(E.sub S).get t=(E.get t).map (b9.sub S)
 |[]=>rfl
 |(k,v)::E=>by
  show Env.get ((k,v.sub S)::Env.sub S E) t=_;unfold Env.get;cases hb:ze k t with
  |true=>rfl
  |false=>exact Env.fA t E
def Env.TO{S:Gh}{E:Env}(x:Operand):(E.sub S).ev x=(E.ev x).map (b9.sub S):=by
 cases x with
 |tmp t=>exact Env.fA t E
 |const v=>simp[Env.ev,b9.sub]
 |global g=>simp[Env.ev,b9.sub]
 |func f=>simp[Env.ev,b9.sub]
def Env.get_mem:∀{E:Env} {t:Nat} {d:AV},E.get t=V d->(t,d)∈E
 |[],_,_,h=>by cases h
 |(k,v)::E,t,d,h=>by
  unfold Env.get at h;cases hb:ze k t with
  |true=>
   rw[hb]at h;cases h;cases gU hb;exact zk
  |false=>
   rw[hb]at h;exact zI _ (Env.get_mem h)
def Env.afd{E:Env}{n:Nat}{x:Operand}{d:AV}(hE:E.cW n)(h:E.ev x=V d):Iv.cW n d:=by
 cases x with
 |tmp t=>exact hE _ (Env.get_mem h)
 |const v=>cases h;exact .lit _
 |global g=>cases h;exact .lit _
 |func f=>cases h;exact .fn _ [] (by simp)
def Env.cW.mono{n m:Nat}{E:Env}(h:E.cW n)(hn:n<=m):E.cW m:=λp hp=>(h p hp).mono hn
def Env.cW.sub{n:Nat}{E:Env}{S S':Gh}(h:E.cW n)(ha:pU n S S'):E.sub S=E.sub S':=zZ λp hp=>by rw[(h p hp).sub ha]
inductive ETq (dh:Nat->Type):Type
 |e
 |n (v:Option (b9 dh)) (l r:ETq dh)
abbrev ET:Type:=ETq U.dh
def cV(T:ET):Nat->af AV:=ETq.rec (λ_=>I) (λv _ _ il ir k=>Bool.rec (Bool.rec (ir (Nat.div (Nat.sub k 1) 2)) (il (Nat.div (Nat.sub k 1) 2)) (ze (Nat.mod (Nat.sub k 1) 2) 0)) v (ze k 0)) T
def ETq.v:ET->af AV
 | .e=>I
 | .n v _ _=>v
def ETq.l:ET->ET
 | .e=> .e
 | .n _ l _=>l
def ETq.r:ET->ET
 | .e=> .e
 | .n _ _ r=>r
def adr(d:AV)(ih:ET->Nat->ET)(v:af AV)(l r:ET)(k:Nat):ET:=Bool.rec (Bool.rec (.n v l (ih r (Nat.div (Nat.sub k 1) 2))) (.n v (ih l (Nat.div (Nat.sub k 1) 2)) r) (ze (Nat.mod (Nat.sub k 1) 2) 0)) (.n (V d) l r) (ze k 0)
def tg(d:AV)(m:Nat):ET->Nat->ET:=Nat.rec (λ_ _=> .e) (λ_ ih T k=>ETq.rec (adr d ih I .e .e k) (λv l r _ _=>adr d ih v l r k) T) m
def nj(t:Nat)(d:AV)(T:ET):ET:=tg d 12 T t
def emap(f:AV->AV)(T:ET):ET:=ETq.rec .e (λv _ _ il ir=> .n (v.map f) il ir) T
def oP(v:af AV)(l r:ET)(k:Nat):cV (.n v l r) k=if k=0 then v else if(k-1)%2=0 then cV l ((k-1)/2)else cV r ((k-1)/2):=by
 show Bool.rec (motive:=λ_=>af AV) (Bool.rec (motive:=λ_=>af AV) (cV r ((k-1)/2)) (cV l ((k-1)/2)) (ze ((k-1)%2) 0)) v (ze k 0)=_;by_cases hk:k=0
 ·subst hk;rfl
 ·have h1:ze k 0=G:=by
   cases h:ze k 0 with
   |false=>rfl
   |true=>exact ep (xw h) hk
  rw[h1,bN hk];by_cases h2:(k-1)%2=0
  ·rw[h2];rfl
  ·have h3:ze ((k-1)%2) 0=G:=by
    cases h:ze ((k-1)%2) 0 with
    |false=>rfl
    |true=>exact ep (xw h) h2
   rw[h3,bN h2]
def arR(k:Nat):cV (.e:ET) k=I:=rfl
def MR(T:ET)(k:Nat):cV T k=if k=0 then T.v else if(k-1)%2=0 then cV T.l ((k-1)/2)else cV T.r ((k-1)/2):=by
 cases T with
 |e=>simp only[ETq.v,ETq.l,ETq.r,arR,ite_self]
 |n v l r=>exact oP v l r k
def V9(d:AV)(m:Nat)(T:ET)(k:Nat):tg d (m+1) T k=if k=0 then .n (V d) T.l T.r else if(k-1)%2=0 then .n T.v (tg d m T.l ((k-1)/2)) T.r else .n T.v T.l (tg d m T.r ((k-1)/2)):=by
 have e:tg d (m+1) T k=adr d (tg d m) T.v T.l T.r k:=by cases T<;>rfl
 rw[e];show Bool.rec (motive:=λ_=>ET) (Bool.rec (motive:=λ_=>ET) (.n T.v T.l (tg d m T.r ((k-1)/2))) (.n T.v (tg d m T.l ((k-1)/2)) T.r) (ze ((k-1)%2) 0)) (.n (V d) T.l T.r) (ze k 0)=_;by_cases hk:k=0
 ·subst hk;rfl
 ·have h1:ze k 0=G:=by
   cases h:ze k 0 with
   |false=>rfl
   |true=>exact ep (xw h) hk
  rw[h1,bN hk];by_cases h2:(k-1)%2=0
  ·rw[h2];rfl
  ·have h3:ze ((k-1)%2) 0=G:=by
    cases h:ze ((k-1)%2) 0 with
    |false=>rfl
    |true=>exact ep (xw h) h2
   rw[h3,bN h2]
def BX(d:AV):∀(m:Nat) (T:ET) (k s:Nat) (av:AV),cV (tg d m T k) s=V av->(k=s/\av=d)\/(k≠s/\cV T s=V av)
 |0,T,k,s,av,h=>by cases h
 |m+1,T,k,s,av,h=>by
  rw[V9]at h;rw[MR T s];split at h
  ·rename_i hk;subst hk;rw[oP]at h;split at h
   ·rename_i hs;subst hs;cases h;exact .inl ⟨rfl,rfl⟩
   ·rename_i hs;rw[bN hs];exact .inr ⟨λe=>hs e.symm,h⟩
  ·rename_i hk;split at h
   ·rename_i hk2;rw[oP]at h;split at h
    ·rename_i hs;subst hs;exact .inr ⟨hk,by rw[bJ rfl];exact h⟩
    ·rename_i hs;rw[bN hs];split at h
     ·rename_i hs2;rw[bJ hs2];rcases BX d m T.l _ _ av h with ⟨h1,h2⟩|⟨h1,h2⟩
      ·exact .inl ⟨aq,h2⟩
      ·exact .inr ⟨λe=>h1 (by rw[e]),h2⟩
     ·rename_i hs2;rw[bN hs2];exact .inr ⟨λe=>hs2 (by rw[<-e];exact hk2),h⟩
   ·rename_i hk2;rw[oP]at h;split at h
    ·rename_i hs;subst hs;exact .inr ⟨hk,by rw[bJ rfl];exact h⟩
    ·rename_i hs;rw[bN hs];split at h
     ·rename_i hs2;rw[bJ hs2];exact .inr ⟨λe=>hk2 (by rw[e];exact hs2),h⟩
     ·rename_i hs2;rw[bN hs2];rcases BX d m T.r _ _ av h with ⟨h1,h2⟩|⟨h1,h2⟩
      ·exact .inl ⟨aq,h2⟩
      ·exact .inr ⟨λe=>h1 (by rw[e]),h2⟩
def qw{t s:Nat}{d av:AV}{T:ET}(h:cV (nj t d T) s=V av):(t=s/\av=d)\/(t≠s/\cV T s=V av):=BX d 12 T t s av h
def Ai(f:AV->AV):∀(T:ET) (s:Nat),cV (emap f T) s=(cV T s).map f
 | .e,s=>rfl
 | .n v l r,s=>by
  show cV (.n (v.map f) (emap f l) (emap f r)) s=_;rw[oP,oP,Ai f l,Ai f r];split
  ·rfl
  ·split<;>rfl
def uB(T:ET)(E:Env):Prop:=∀t d,cV T t=V d->E.get t=V d
def uB.put{T:ET}{E:Env}(h:uB T E)(t:Nat)(d:AV):uB (nj t d T) ((t,d)::E):=λs av hs=>by
 rcases qw hs with ⟨rfl,rfl⟩|⟨h1,h2⟩
 ·exact Env.fB _ _ _
 ·rw[Env.dY _ _ h1];exact h s av h2
def IQ(T:ET):Operand->af AV
 | .tmp t=>cV T t
 | .const v=>V (.lit v)
 | .global g=>V (.lit (.pointer (V ⟨g,0,I⟩)))
 | .func f=>V (.fn (.func f) [])
def uB.ev{T:ET}{E:Env}(h:uB T E)(x:Operand)(d:AV)(hx:IQ T x=V d):E.ev x=V d:=by
 cases x with
 |tmp t=>exact h t d hx
 |_=>exact hx
structure St where
 E:ET
 R:bt
 nx:Nat
structure Cg where
 C:Cx
 S:Gh
 n:Nat
def Mt(C:Cg)(n:Nat)(s:St)(a:Act)(w:World):Prop:=∃E:Env,uB s.E E/\E.cW s.nx/\bt.cW s.nx s.R/\∃S,(pU C.n C.S S/\C.n<=s.nx)/\uI C.C n (E.sub S) (bt.res S s.R) a w
def Env.u5{E:Env}{n t:Nat}{d:AV}(hE:E.cW n)(hd:Iv.cW n d):Env.cW n ((t,d)::E):=λp hp=>by
 rcases zy.1 hp with rfl|hp
 ·exact hd
 ·exact hE p hp
def V4{C:Cx}{B B':aa cn}(hp:List.Perm B B')(b:Nat):al C B b->al C B' b:=λhA=>⟨hA.1,λhx=>hA.2 ((hp.filterMap _).symm.mem_iff.1 hx)⟩
end Go.Iv
end
noncomputable section
namespace Go.Iv
open Go Go.RowKit
section
variable [U:tf] {W Q δ:Type}
def vQ(t e:Nat)(l:aa (U.dh t)):af (aa (U.dh e)):=if h:t=e then V (h▸l)else I
def nZ{t e:Nat}{l:aa (U.dh t)}{l':aa (U.dh e)}(h:vQ t e l=V l'):∃he:t=e,he▸l=l':=by
 unfold vQ at h;split at h
 ·rename_i he;exact⟨he,zF.inj h⟩
 ·cases h
def iF(k:IntKind):AV->af Int
 | .lit (.int k' n)=>if k=k' then V n else I
 |_=>I
def Sf:AV->af Bool
 | .lit (.bool b)=>V b
 |_=>I
def asS:AV->af ByteArray
 | .lit (.string s)=>V s
 |_=>I
def kj(t:Nat):AV->af (aa (U.dh t))
 | .sl t' l=>vQ t' t l
 | .lit (.slice I 0 0)=>V []
 |_=>I
def P1(f:AV->af W)(c:W->AV):Prop:=∀a b,f a=V b->∀A w v,Rel A w a v->Rel A w (c b) v
def P1.i(k:IntKind):P1 (iF k) (b9.n k):=λa b h A w v hr=>by
 unfold iF at h;split at h
 ·split at h
  ·rename_i hk;subst hk;cases h;exact hr
  ·cases h
 ·cases h
def P1.b:P1 Sf b9.b:=λa b h A w v hr=>by
 unfold Sf at h;split at h
 ·cases h;exact hr
 ·cases h
def P1.s:P1 asS b9.s:=λa b h A w v hr=>by
 unfold asS at h;split at h
 ·cases h;exact hr
 ·cases h
def P1.l(t:Nat):P1 (kj t) (b9.sl t):=λa b h A w v hr=>by
 unfold kj at h;split at h
 ·obtain⟨rfl,rfl⟩:=nZ h;exact hr
 ·cases h;exact(Vw.nil (B:=[]) t A w v ⟨λr h=>(by cases h),λb h=>(by cases h)⟩ hr).mono λb _ hA=>⟨hA.elim id (λh=>(by cases h)),rfl⟩
 ·cases h
def pX:aa AV->af Unit
 |[]=>V ()
 |_=>I
def dU(f:AV->af W)(q:aa AV->af Q):aa AV->af (W×Q)
 |a::cs=>(f a).bind λb=>(q cs).map λg=>(b,g)
 |[]=>I
def Pk(q:aa AV->af Q)(c:Q->aa AV):Prop:=∀cs g,q cs=V g->∀A w us,bO A w cs us->bO A w (c g) us
def Pk.nil:Pk pX (λ_=>[]):=λcs g h A w us hr=>by
 unfold pX at h;split at h
 ·exact hr
 ·cases h
def Pk.cons{f:AV->af W}{c:W->AV}{q:aa AV->af Q}{d:Q->aa AV}(h:P1 f c)(hq:Pk q d):Pk (dU f q) (λx=>c x.1::d x.2):=λcs g hg A w us hr=>by
 unfold dU at hg;split at hg
 ·obtain⟨b,h1,hg⟩:=zn.1 hg;obtain⟨g',h2,rfl⟩:=zl.1 hg;obtain⟨v,us',rfl,h3,h4⟩:=hr.head;exact bO.cons (h _ _ h1 A w v h3) (hq _ _ h2 A w us' h4)
 ·cases hg
def Pk.map{q:aa AV->af Q}{d:Q->aa AV}{c:δ->aa AV}(e:Q->δ)(hq:Pk q d)(hc:∀g,c (e g)=d g):Pk (λcs=>(q cs).map e) c:=λcs g hg A w us hr=>by
 obtain⟨g',h1,rfl⟩:=zl.1 hg;rw[hc];exact hq _ _ h1 A w us hr
def anF:AV->Bool
 | .lit _=>O
 | .sl _ _=>O
 |_=>G
def abf(cs:aa AV)(h:cs.all anF=O)(n:Nat):∀c∈cs,cW n c:=λc hc=>by
 have:=zx.1 h c hc;cases c<;>first|(cases this;done)|exact .lit _|exact .sl _ _
def aa0(cs:aa AV)(h:cs.all anF=O)(S:Gh):cs.map (b9.sub S)=cs:=by
 have:cs.map (b9.sub S)=cs.map id:=zZ λc hc=>by
  have:=zx.1 h c hc;cases c<;>first|(cases this;done)|simp only[b9.sub,id]
 rw[this,List.map_id]
def Pk.none{c:Q->aa AV}:Pk (λ_=>Option.none) c:=λcs g hg=>by cases hg
end
end Go.Iv
end
noncomputable section
namespace Go.Iv
variable [U:tf]
open Go Go.RowKit
section
variable {P:Program} {E E':Env} {B B':aa cn} {o:Oper} {x y:Operand} {av bv:AV} {C:Cx} {X:aa Nat} {n:Nat} {T T' e:TypeId}
def Hd.keep{A:Nat->Prop}{w w':World}(h:Hd A B w)(hw:∀b,b<w.heap.size->(A b\/b∈bC B)->w'.heap[b]? =w.heap[b]?):Hd A B w':=
 ⟨λr hr=>(h.1 r hr).mono (λb hb hA=>⟨hA,hw b hb (.inl hA)⟩) (λb hb=>hw b ((h.1 r hr).lt hb) (.inr (bS.2 ⟨r,hr,hb⟩))),h.2⟩
def P9.keep{A:Nat->Prop}{w w':World}{S:Operand->Value}(h:P9 A w E S)(hw:∀b,b<w.heap.size->A b->w'.heap[b]? =w.heap[b]?):P9 A w' E S:=λx u hx=>(h x u hx).mono λb hb hA=>⟨hA,hw b hb hA⟩
def sE{A:Nat->Prop}{w:World}{k:IntKind}:∀{l:aa Int} {us:aa Value},bO A w (l.map (b9.n k)) us->us=l.map (Value.int k)
 |[],us,h=>xh (by simpa using h.1)
 |x::l,us,h=>by
  obtain⟨v,us',rfl,h1,h2⟩:=bO.head (show bO A w (b9.n k x::l.map (b9.n k)) us from h);rw[h1.cM,sE h2];rfl
def Yp.b2s{q:Nat}{l:aa Int}{l0:aa (U.dh q)}(ho:o.op= .convert T T' x)(hx:Src B E x q l0)(hn:l0.flatMap (U.cells q)=l.map (b9.n .u8))(hz:U.sz q=1)(hs:P.underlying T=V (.slice e))(he:P.underlying e=V (.int .u8))(hd:P.underlying T'=V .string):Yp P E B o (.s (strOfNums l)):=λA w S h ar=>
 ⟨_, .lit _,λw' hw=>by
  obtain⟨p,cap,news,h1,h2,h3,_,h5,_⟩:=hx.spec (h.keep hw) (ar.keep λb hb hA=>hw b hb (.inl hA));have h6:=sE (by rw[hn]at h5;exact h5);have hl0:zR l0=zR l:=by rw[hz,xB]at h3;rw[<-h3,h6,zu]
  rw[hl0]at h1 h2;have hconv:(convert T T' (.slice p (zR l) cap)).run P w'= .ok (.string (strOfNums l)) w':=by
   cases p with
   |none=>
    have:l=[]:=by
     rcases h2 with h2|⟨a,h2,_⟩
     ·exact xh h2
     ·cases h2
    subst this;have hc:=run_convert_bytes_nil (P:=P) w' T e hs he 0 cap T' hd;have:strOfNums []=ByteArray.empty:=rfl;rw[this];simpa using hc
   |some a=>
    have hl:(loadCells a (zR l)).run P w'= .ok (l.map (Value.int .u8)).toArray w':=by
     rcases h2 with h2|⟨a',h2,h4⟩
     ·have:l=[]:=xh h2;subst this;simp[loadCells,loadCellsFrom]
     ·cases h2;have:=run_loadCells_list (P:=P) w' a (l.map (Value.int .u8)) (λj v hj=>h4 j v (by rw[h6];exact hj));simpa using this
    rw[run_convert_bytes_string w' T T' e _ (zR l) cap hs he hd,run_bytesToString w' _ (zR l) cap l hl,foldl_push_bytes];simp[strOfNums,ByteArray.empty,ByteArray.emptyWithCapacity];rfl
  simp[execOp,ho,h1,hconv]⟩
def Yp.aF0{s t:ByteArray}(ho:o.op= .binOp .eql T x y T')(hx:E.ev x=V (.s s))(hy:E.ev y=V (.s t)):Yp P E B o (.b (s.toList==t.toList)):=Yp.lits λS ar w=>by
 simp[execOp,ho,ar _ _ hx,ar _ _ hy,eqGuard,binOp,Op.stringOp]
def Yp.aED{s t:ByteArray}(ho:o.op= .binOp .neq T x y T')(hx:E.ev x=V (.s s))(hy:E.ev y=V (.s t)):Yp P E B o (.b (!(s.toList==t.toList))):=Yp.lits λS ar w=>by
 simp[execOp,ho,ar _ _ hx,ar _ _ hy,eqGuard,binOp,Op.stringOp]
def run_equal_bool{w:World}{b c:Bool}(hT:P.underlying T=V .bool):(Op.equal T (.bool b) (.bool c)).run P w= .ok (b==c) w:=by
 obtain⟨d,hd⟩:∃d,Op.maxDepth=d+1:=⟨Op.maxDepth-1,by decide⟩;unfold Op.equal;rw[hd];unfold Op.equalIn;simp only[Sem.run_bind,run_underlying hT,Result.andThen_ok];rfl
def Yp.aHR{b c:Bool}(ho:o.op= .binOp .eql T x y T')(hT:P.underlying T=V .bool)(hx:E.ev x=V (.b b))(hy:E.ev y=V (.b c)):Yp P E B o (.b (b==c)):=Yp.lits λS ar w=>by
 have hbin:binOp .eql T (.bool b) (.bool c)=(do pure (.bool (<-Op.equal T (.bool b) (.bool c)))):=rfl;have h1:=run_equal_bool (P:=P) (T:=T) (w:=w) (b:=b) (c:=c) hT;simp only[execOp,ho,ar _ _ hx,ar _ _ hy,eqGuard,hbin];simp[h1]
def Yp.aEL{b c:Bool}(ho:o.op= .binOp .neq T x y T')(hT:P.underlying T=V .bool)(hx:E.ev x=V (.b b))(hy:E.ev y=V (.b c)):Yp P E B o (.b (!(b==c))):=Yp.lits λS ar w=>by
 have hbin:binOp .neq T (.bool b) (.bool c)=(do pure (.bool (!(<-Op.equal T (.bool b) (.bool c))))):=rfl;have h1:=run_equal_bool (P:=P) (T:=T) (w:=w) (b:=b) (c:=c) hT;simp only[execOp,ho,ar _ _ hx,ar _ _ hy,eqGuard,hbin];simp[h1]
end
end Go.Iv
end
noncomputable section
namespace Go.Iv
variable [U:tf]
open Go Go.RowKit
class nu [U:tf] where
 len:∀t x,zR (U.cells t x)=U.sz t
 one:∀t x,(U.cells t x).all iZ=O
 clo:∀t x S,(U.cells t x).map (b9.sub S)=U.cells t x
 sq:∀t x n,∀c∈U.cells t x,cW n c
 parse:(t:Nat)->List AV->Option (U.dh t)
 l9:∀t cs x,parse t cs=V x->∀A w us,bO A w cs us->bO A w (U.cells t x) us
 nums:(t:Nat)->List (U.dh t)->Option (List Int)
 uW:∀t l ns,nums t l=V ns->l.flatMap (U.cells t)=ns.map (.n .u8)/\U.sz t=1
 fz:Nat->Bool:=λ_=>G
 arr:Nat->Bool:=λ_=>G
 gtB:(t:Nat)->U.dh t->Nat->Bool:=λ_ _ _=>G
 stB:(t:Nat)->U.dh t->Nat->Bool->U.dh t:=λ_ x _ _=>x
 agR:∀t,arr t=O->∀x i,i<U.sz t->(U.cells t x)[i]? =V (.lit (.bool (gtB t x i))):=by intro t h;exact Bool.noConfusion h
 aiZ:∀t,arr t=O->∀x i b,i<U.sz t->U.cells t (stB t x i b)=(U.cells t x).take i++[.lit (.bool b)]++(U.cells t x).drop (i+1):=by intro t h;exact Bool.noConfusion h
variable [L:nu]
def O5(P:Program)(t n:Nat):Bool:=match P.info? t with
 |some i=>ze i.size n
 |none=>G
def sA{P:Program}{t n:Nat}(h:O5 P t n=O):(P.info? t).map (·.size)=V n:=by
 unfold O5 at h;cases hi:P.info? t with
 |none=>rw[hi]at h;cases h
 |some i=>
  rw[hi]at h;simp only[yH,zF.injEq];exact gU h
def YY(P:Program)(t:Nat):Bool:=match P.underlying t with
 |some (.struct _)=>G
 |some (.array _ _)=>G
 |some _=>O
 |none=>G
def Db{P:Program}{t:Nat}(h:YY P t=O):tE P t:=by
 unfold YY at h;unfold tE;split at h
 ·cases h
 ·cases h
 ·rename_i d hd;refine⟨_,hd,?_⟩;split
  ·simp_all
  ·simp_all
  ·trivial
 ·cases h
def V3(P:Program)(t:Nat):af Nat:=match P.underlying t with
 |some (.struct _)=>(P.info? t).map (·.size)
 |some (.array _ _)=>(P.info? t).map (·.size)
 |_=>I
def PF{P:Program}{t n:Nat}(h:V3 P t=V n):uj P t n:=by
 unfold V3 at h;split at h
 ·rename_i hd;exact⟨⟨_,hd,trivial⟩,h⟩
 ·rename_i hd;exact⟨⟨_,hd,trivial⟩,h⟩
 ·cases h
def DW(rd:Nat->af IR):AV->Bool
 | .own id=>match rd id with
  |some (.row _ _)=>O
  |_=>G
 | .ptr _ _=>O
 | .ra _ _ _ _=>G
 |d=>iZ d
def Gw(rd:Nat->af IR):AV->Bool
 | .agg cs=>cs.all (DW rd)
 |d=>DW rd d
section
variable {α:Type} {r:α} {P:Program} {o:Oper} {E:Env} {R:bt} {nx:Nat} {ev:Operand->af AV} {rd:Nat->af IR} {x y z:Operand} {d:AV}
structure kI (ev:Operand->Option AV) (rd:Nat->Option IR) (nx:Nat) (E:Env) (R:bt):Prop where
 e:∀x d,ev x=V d->E.ev x=V d
 r:∀id r,rd id=V r->gJ R id=V r
 le:E.cW nx
 lr:bt.cW nx R
def kI.fT(h:kI ev rd nx E R)(hx:ev x=V d)(S:Gh):(E.sub S).ev x=V (d.sub S):=by
 rw[Env.TO,h.e _ _ hx];rfl
def kI.sq(h:kI ev rd nx E R)(hx:ev x=V d):cW nx d:=Env.afd h.le (h.e _ _ hx)
def kI.row(h:kI ev rd nx E R){id t:Nat}{l:aa (U.dh t)}(hr:rd id=V (.row t l))(S:Gh):∃i:Nat,(bt.res S R)[i]? =V (.row (S.v id) t l):=by
 obtain⟨i,h1,_⟩:=eT (h.r _ _ hr);exact⟨i,iD h1⟩
def kI.box(h:kI ev rd nx E R){id t:Nat}{cs:aa AV}(hr:rd id=V (.box t cs))(S:Gh):∃i:Nat,(bt.res S R)[i]? =V (.box (S.b id) t (cs.map (b9.sub S))):=by
 obtain⟨i,h1,_⟩:=eT (h.r _ _ hr);exact⟨i,iD h1⟩
def kI.ajP(h:kI ev rd nx E R){id t:Nat}{cs:aa AV}(hr:rd id=V (.box t cs)):∀c∈cs,cW nx c:=(FB (h.r _ _ hr) h.lr).2
def Pu(P:Program)(o:Oper)(E:Env)(R:bt)(nx:Nat)(d:AV):Prop:=cW nx d/\∀S,Yp P (E.sub S) (bt.res S R) o (d.sub S)
def bW(S:Gh)(v:Value):b9.sub S (.lit v)= .lit v:=by simp only[b9.sub]
def gO(S:Gh)(t:Nat)(l:aa (U.dh t)):b9.sub S (.sl t l)= .sl t l:=by simp only[b9.sub]
def dz(S:Gh)(id:Nat):b9.sub S (.own id)= .lit (S.v id):=by simp only[b9.sub]
def fM(S:Gh)(id off:Nat):b9.sub S (.ptr id off)= .lit (.pointer (V ⟨S.b id,off,I⟩)):=by simp only[b9.sub]
def jO(S:Gh)(id t m off:Nat):b9.sub S (.ra id t m off)= .rp (S.v id) (m*U.sz t+off):=by simp only[b9.sub]
def mV(S:Gh)(cs:aa AV):b9.sub S (.fp cs)= .fp (cs.map (b9.sub S)):=by simp only[b9.sub]
def fq(S:Gh)(cs:aa AV):b9.sub S (.agg cs)= .agg (cs.map (b9.sub S)):=by simp only[b9.sub]
def lB(S:Gh)(cs:aa AV):b9.sub S (.jf cs)= .jf (cs.map (b9.sub S)):=by simp only[b9.sub]
def tZ(S:Gh)(f:Go.Fn)(cs:aa AV):b9.sub S (.fn f cs)= .fn f (cs.map (b9.sub S)):=by simp only[b9.sub]
def Pu.lit{v:Value}(h:∀S,Yp P (E.sub S) (bt.res S R) o (.lit v)):Pu P o E R nx (.lit v):=⟨.lit v,λS=>by rw[bW];exact h S⟩
def aeo(b:BinOp)(k:IntKind)(m n:Int)(K:AV->af α):af α:=match b with
 | .add=>K (.n k (k.wrap (m+n)))
 | .sub=>K (.n k (k.wrap (m-n)))
 | .mul=>K (.n k (k.wrap (m*n)))
 | .quo=>if n≠0 then K (.n k (k.wrap (Int.tdiv m n)))else I
 | .rem=>if n≠0 then K (.n k (Int.tmod m n))else I
 | .and=>K (.n k (ur k m n))
 | .or=>K (.n k (bOr k m n))
 | .xor=>K (.n k (as1 k m n))
 | .andNot=>K (.n k (atg k m n))
 | .lss=>K (.b (J (m<n)))
 | .leq=>K (.b (J (m<=n)))
 | .gtr=>K (.b (J (n<m)))
 | .geq=>K (.b (J (n<=m)))
 | .eql=>K (.b (J (m=n)))
 | .neq=>K (.b (!J (m=n)))
 |_=>I
def Yp.at6{T T' e q:Nat}{E:Env}{B:aa cn}{l:aa (U.dh q)}(ho:o.op= .binOp .eql T x y T')(hx:E.ev x=V (.sl q l))(hy:E.ev y=V (.lit (.slice I 0 0)))(hT:P.underlying T=V (.slice e))(hl:l≠[]):Yp P E B o (.b G):=λA w S _ ar=>by
 obtain⟨p,cap,u,hv,_,_,_,hc,_⟩:=(ar _ _ hx).vK;have h2:=(ar _ _ hy).cM;obtain⟨b,off,hp,_⟩:=hc 0 (wG.2 hl);subst hp;refine⟨_, .lit _,λw' _=> ?_⟩;have h1:=Lib.run_eql_slice_nil (P:=P) w' T e (V ⟨b,off,I⟩) (zR l) cap 0 0 hT;simp[execOp,ho,hv,h2,eqGuard,h1]
def Yp.aur{T T' e q i:Nat}{v:Value}{E:Env}{B:aa cn}{l:aa (U.dh q)}(ho:o.op= .binOp .eql T x y T')(hx:E.ev x=V (.lit v))(aw:B[i]? =V (.row v q l))(hy:E.ev y=V (.lit (.slice I 0 0)))(hT:P.underlying T=V (.slice e))(hl:l≠[]):Yp P E B o (.b G):=λA w S hd ar=>by
 obtain⟨us,h1,_⟩:=hd.1 _ (List.mem_of_getElem? aw);obtain⟨g,cap,cur,hv,_⟩:=h1.at (wG.2 hl);have hx':=(ar _ _ hx).cM;have h2:=(ar _ _ hy).cM;refine⟨_, .lit _,λw' _=> ?_⟩;have h1:=Lib.run_eql_slice_nil (P:=P) w' T e (V ⟨g,0,I⟩) (zR l) (cap+1) 0 0 hT;simp[execOp,ho,hx',hv,h2,eqGuard,h1]
def Rx(P:Program)(t:TypeId)(a b:AV):af Bool:=match P.underlying t with
 |some (.int _)=>match a,b with
  | .lit (.int k m), .lit (.int k' n)=>if k=k' then V (J (m=n))else I
  |_,_=>I
 |some .bool=>match a,b with
  | .lit (.bool p), .lit (.bool q)=>V (p==q)
  |_,_=>I
 |some .string=>match a,b with
  | .lit (.string p), .lit (.string q)=>V (p.toList==q.toList)
  |_,_=>I
 |_=>I
def Yw(P:Program)(xs ys:aa AV):aa Field->af Bool
 |[]=>V O
 |f::fs=>match (f.name !="_")&&YY P f.type with
  |true=>match xs[f.offset]?,ys[f.offset]? with
   |some a,V b=>(Rx P f.type a b).bind λr=>(Yw P xs ys fs).map λq=>r&&q
   |_,_=>I
  |false=>I
def u6{P:Program}{t:TypeId}(h:tE P t){us:aa Value}{i:Nat}{v:Value}(hv:us[i]? =V v)(w:World):(part t us.toArray i).run P w= .ok v w:=by
 unfold part;rw[Sem.run_bind,mT h];simp[hv]
def TB{P:Program}{t:TypeId}{a b:AV}{q:Bool}(h:Rx P t a b=V q){A A':Nat->Prop}{w w' w'':World}{u v:Value}{S S':Gh}(ha:Rel A w (a.sub S) u)(hb:Rel A' w' (b.sub S') v)(d:Nat):(Op.equalIn (d+1) t u v).run P w''= .ok q w'':=by
 unfold Rx at h;split at h
 ·rename_i k0 ht;split at h
  ·split at h
   ·rename_i hk;subst hk;cases h;simp only[b9.sub]at ha hb;rw[ha.cM,hb.cM];exact run_equalIn_int _ d t _ k0 _ _ ht
   ·cases h
  ·cases h
 ·rename_i ht;split at h
  ·cases h;simp only[b9.sub]at ha hb;rw[ha.cM,hb.cM];exact run_equalIn_bool' _ d t _ _ ht
  ·cases h
 ·rename_i ht;split at h
  ·cases h;simp only[b9.sub]at ha hb;rw[ha.cM,hb.cM];exact run_equalIn_string _ d t _ _ ht
  ·cases h
 ·cases h
def NO{P:Program}{xs ys:aa AV}{A A':Nat->Prop}{w w' w'':World}{us vs:aa Value}{S S':Gh}(ha:bO A w (xs.map (b9.sub S)) us)(hb:bO A' w' (ys.map (b9.sub S')) vs)(d:Nat):∀{fs:aa Field} {q:Bool},Yw P xs ys fs=V q->(Op.eqFields (d+1) us.toArray vs.toArray fs).run P w''= .ok q w''
 |[],q,h=>by cases h;simp[Op.eqFields]
 |f::fs,q,h=>by
  unfold Yw at h;split at h
  case h_2=>cases h
  rename_i hf;simp only[zi,bne_iff_ne,ne_eq]at hf;split at h
  case h_2=>cases h
  rename_i a b hx hy;obtain⟨r1,h1,h⟩:=zn.1 h;obtain⟨q1,h2,rfl⟩:=zl.1 h;obtain⟨u,hu,hu'⟩:=ha.get (a:=a.sub S) (j:=f.offset) (by rw[ye,hx];rfl);obtain⟨v,hv,hv'⟩:=hb.get (a:=b.sub S') (j:=f.offset) (by rw[ye,hy];rfl);have ih:=NO (w'':=w'') ha hb d h2;have hone:=Db hf.2;unfold Op.eqFields;rw[bJ hf.1];simp only[Sem.run_bind,u6 hone hu,u6 hone hv,Result.andThen_ok,TB (w'':=w'') h1 hu' hv' d];cases r1 with
  |true=>simpa using ih
  |false=>simp
def Yp.seq'{T T':TypeId}{E:Env}{B:aa cn}{b:BinOp}{cs ds:aa AV}{fs:Array Field}{q:Bool}{S S':Gh}(ho:o.op= .binOp b T x y T')(hx:E.ev x=V (.agg (cs.map (b9.sub S))))(hy:E.ev y=V (.agg (ds.map (b9.sub S'))))(hT:P.underlying T=V (.struct fs))(hp:P.stoodInHeld T=G)(hg:P.eqGuardType P.depth T=G)(hq:Yw P cs ds fs.toList=V q)(hb:b= .eql\/b= .neq):
  Yp P E B o (.b (match b with| .neq=> !q|_=>q)):=λA w j _ ar=>by
 obtain⟨us,h1,h2⟩:=(ar _ _ hx).oI;obtain⟨vs,h3,h4⟩:=(ar _ _ hy).oI;refine⟨_, .lit _,λw' _=> ?_⟩;have hT':P.underlying T=V (.struct (P.fieldsOf T)):=by unfold Program.fieldsOf;rw[hT]
 have hfs:P.fieldsOf T=fs:=by unfold Program.fieldsOf;rw[hT]
 have he:=run_equalIn_struct (P:=P) w' 9999 T us.toArray vs.toArray hT' hp;rw[hfs,NO (w'':=w') h2 h4 9998 hq]at he;have hgr:=run_eqGuard_agg (P:=P) w' b T x y us.toArray vs.toArray hg;rcases hb with rfl|rfl
 ·have h5:=run_eql_struct (P:=P) w' T us.toArray vs.toArray;rw[he]at h5;simp[execOp,ho,h1,h3,hgr,h5]
 ·have h5:=run_neq_struct (P:=P) w' T us.toArray vs.toArray;rw[he]at h5;simp[execOp,ho,h1,h3,hgr,h5]
def eqS(P:Program)(b:BinOp)(T:TypeId)(cs ds:aa AV)(K:AV->af α):af α:=match P.underlying T with
 |some (.struct fs)=>match !P.stoodInHeld T&& !P.eqGuardType P.depth T with
  |true=>match b with
   | .eql=>(Yw P cs ds fs.toList).bind λq=>K (.b q)
   | .neq=>(Yw P cs ds fs.toList).bind λq=>K (.b (!q))
   |_=>I
  |false=>I
 |_=>I
def arX{b:BinOp}{T T':TypeId}{cs ds:aa AV}(hs:kI ev rd nx E R)(ho:o.op= .binOp b T x y T')(hx:ev x=V (.agg cs))(hy:ev y=V (.agg ds)){K:AV->af α}(h:eqS P b T cs ds K=V r):∃d,K d=V r/\Pu P o E R nx d:=by
 unfold eqS at h;split at h
 case h_2=>cases h
 rename_i fs hT;split at h
 case h_2=>cases h
 rename_i hg;simp only[zi,Bool.not_eq_true']at hg;have ex:=λS=>hs.fT hx S;have ey:=λS=>hs.fT hy S;simp only[fq]at ex ey;split at h
 ·obtain⟨q,hq,h⟩:=zn.1 h;exact⟨_,h, .lit λS=> .seq' ho (ex S) (ey S) hT hg.1 hg.2 hq (.inl rfl)⟩
 ·obtain⟨q,hq,h⟩:=zn.1 h;exact⟨_,h, .lit λS=> .seq' ho (ex S) (ey S) hT hg.1 hg.2 hq (.inr rfl)⟩
 ·cases h
def OF(P:Program)(rd:Nat->af IR)(b:BinOp)(T:TypeId)(x y:af AV)(K:AV->af α):af α:=match x,y with
 |some (.lit (.int k m)),V (.lit (.int k' n))=>match b with
  | .shl=>if 0<=n then K (.n k (nh k m n))else I
  | .shr=>if 0<=n then K (.n k (cT k m n))else I
  |_=>if k=k' then aeo b k m n K else I
 |some (.lit (.bool p)),V (.lit (.bool q))=>match P.underlying T with
  |some .bool=>match b with
   | .eql=>K (.b (p==q))
   | .neq=>K (.b (!(p==q)))
   |_=>I
  |_=>I
 |some (.lit (.string s)),V (.lit (.string t))=>match b with
  | .eql=>K (.b (s.toList==t.toList))
  | .neq=>K (.b (!(s.toList==t.toList)))
  |_=>I
 |some (.lit (.slice p _ _)),V (.lit (.slice I 0 0))=>match b,P.underlying T with
  | .eql,V (.slice _)=>K (.b p.isNone)
  |_,_=>I
 |some (.sl _ l),V (.lit (.slice I 0 0))=>match b,P.underlying T with
  | .eql,V (.slice _)=>match l with
   |[]=>I
   |_::_=>K (.b G)
  |_,_=>I
 |some (.own id),V (.lit (.slice I 0 0))=>match b,P.underlying T with
  | .eql,V (.slice _)=>match rd id with
   |some (.row _ (_::_))=>K (.b G)
   |_=>I
  |_,_=>I
 |some (.agg cs),V (.agg ds)=>eqS P b T cs ds K
 |_,_=>I
def ajz{b:BinOp}{T T':TypeId}(hs:kI ev rd nx E R)(ho:o.op= .binOp b T x y T'){K:AV->af α}(h:OF P rd b T (ev x) (ev y) K=V r):∃d,K d=V r/\Pu P o E R nx d:=by
 unfold OF at h;split at h
 ·rename_i k m k' n hx hy;have ex:=λS=>hs.fT hx S;have ey:=λS=>hs.fT hy S;simp only[bW]at ex ey;split at h
  ·split at h
   ·rename_i h0;exact⟨_,h, .lit λS=> .shl ho (ex S) (ey S) h0⟩
   ·cases h
  ·split at h
   ·rename_i h0;exact⟨_,h, .lit λS=> .shr ho (ex S) (ey S) h0⟩
   ·cases h
  ·split at h
   ·rename_i hk;subst hk;unfold aeo at h;split at h
    ·exact⟨_,h, .lit λS=> .add ho (ex S) (ey S)⟩
    ·exact⟨_,h, .lit λS=> .sub ho (ex S) (ey S)⟩
    ·exact⟨_,h, .lit λS=> .mul ho (ex S) (ey S)⟩
    ·split at h
     ·rename_i h0;exact⟨_,h, .lit λS=> .quo ho (ex S) (ey S) h0⟩
     ·cases h
    ·split at h
     ·rename_i h0;exact⟨_,h, .lit λS=> .rem ho (ex S) (ey S) h0⟩
     ·cases h
    ·exact⟨_,h, .lit λS=> .and ho (ex S) (ey S)⟩
    ·exact⟨_,h, .lit λS=> .or ho (ex S) (ey S)⟩
    ·exact⟨_,h, .lit λS=> .xor ho (ex S) (ey S)⟩
    ·exact⟨_,h, .lit λS=> .andNot ho (ex S) (ey S)⟩
    ·exact⟨_,h, .lit λS=> .lss ho (ex S) (ey S)⟩
    ·exact⟨_,h, .lit λS=> .leq ho (ex S) (ey S)⟩
    ·exact⟨_,h, .lit λS=> .gtr ho (ex S) (ey S)⟩
    ·exact⟨_,h, .lit λS=> .geq ho (ex S) (ey S)⟩
    ·exact⟨_,h, .lit λS=> .eql ho (ex S) (ey S)⟩
    ·exact⟨_,h, .lit λS=> .neq ho (ex S) (ey S)⟩
    ·cases h
   ·cases h
 ·rename_i p q hx hy;have ex:=λS=>hs.fT hx S;have ey:=λS=>hs.fT hy S;simp only[bW]at ex ey;split at h
  ·rename_i hT;split at h
   ·exact⟨_,h, .lit λS=> .aHR ho hT (ex S) (ey S)⟩
   ·exact⟨_,h, .lit λS=> .aEL ho hT (ex S) (ey S)⟩
   ·cases h
  ·cases h
 ·rename_i s t hx hy;have ex:=λS=>hs.fT hx S;have ey:=λS=>hs.fT hy S;simp only[bW]at ex ey;split at h
  ·exact⟨_,h, .lit λS=> .aF0 ho (ex S) (ey S)⟩
  ·exact⟨_,h, .lit λS=> .aED ho (ex S) (ey S)⟩
  ·cases h
 ·rename_i p l c hx hy;have ex:=λS=>hs.fT hx S;have ey:=λS=>hs.fT hy S;simp only[bW]at ex ey;split at h
  ·rename_i hT;exact⟨_,h, .lit λS=> .ass ho (ex S) (ey S) hT⟩
  ·cases h
 ·rename_i t l hx hy;have ex:=λS=>hs.fT hx S;have ey:=λS=>hs.fT hy S;simp only[bW]at ey;simp only[gO]at ex;split at h
  ·rename_i hT;split at h
   ·cases h
   ·exact⟨_,h, .lit λS=> .at6 ho (ex S) (ey S) hT (by simp)⟩
  ·cases h
 ·rename_i id hx hy;have ex:=λS=>hs.fT hx S;have ey:=λS=>hs.fT hy S;simp only[bW]at ey;simp only[dz]at ex;split at h
  ·rename_i hT;split at h
   ·rename_i hr;exact⟨_,h, .lit λS=>by
     obtain⟨i,hi⟩:=hs.row hr S;exact .aur ho (ex S) hi (ey S) hT (by simp)⟩
   ·cases h
  ·cases h
 ·rename_i cs ds hx hy;exact arX hs ho hx hy h
 ·cases h
def unV(b:UnOp)(x:af AV)(K:AV->af α):af α:=match b,x with
 | .not,V (.lit (.bool p))=>K (.b (!p))
 | .neg,V (.lit (.int k n))=>K (.n k (k.wrap (0-n)))
 |_,_=>I
def aqc{b:UnOp}{T:TypeId}(hs:kI ev rd nx E R)(ho:o.op= .unOp b T x){K:AV->af α}(h:unV b (ev x) K=V r):∃d,K d=V r/\Pu P o E R nx d:=by
 unfold unV at h;split at h
 ·rename_i p hx;have ex:=λS=>hs.fT hx S;simp only[bW]at ex;exact⟨_,h, .lit λS=> .not ho (ex S)⟩
 ·rename_i p hx;have ex:=λS=>hs.fT hx S;simp only[bW]at ex;exact⟨_,h, .lit λS=> .neg ho (ex S)⟩
 ·cases h
def Qo(x:af AV)(K:AV->af α):af α:=match x with
 |some (.ptr id off)=>K (.ptr id off)
 |some (.fp cs)=>K (.fp cs)
 |some (.ra id t m off)=>K (.ra id t m off)
 |_=>I
def alQ(hs:kI ev rd nx E R)(ho:o.op= .nilCheck x){K:AV->af α}(h:Qo (ev x) K=V r):∃d,K d=V r/\Pu P o E R nx d:=by
 unfold Qo at h;split at h
 ·rename_i hx;exact⟨_,h,hs.sq hx,λS=>by have ex:=hs.fT hx S;rw[fM]at ex ⊢;exact .Zn ho ex⟩
 ·rename_i hx;exact⟨_,h,hs.sq hx,λS=>by have ex:=hs.fT hx S;rw[mV]at ex ⊢;exact .XM ho ex⟩
 ·rename_i hx;exact⟨_,h,hs.sq hx,λS=>by have ex:=hs.fT hx S;rw[jO]at ex ⊢;exact .X7 ho ex⟩
 ·cases h
def nO{n:Nat}{cs:aa AV}(h:∀c∈cs,cW n c)(k:Nat):∀c∈cs.drop k,cW n c:=λc hc=>h c (xC hc)
def p8{n:Nat}{cs:aa AV}(h:∀c∈cs,cW n c)(k:Nat):∀c∈cs.take k,cW n c:=λc hc=>h c (wH hc)
def cW.fpL{n:Nat}{cs:aa AV}(h:cW n (.fp cs)):∀c∈cs,cW n c:=by cases h;assumption
def cW.pS{n:Nat}{cs:aa AV}(h:cW n (.agg cs)):∀c∈cs,cW n c:=by cases h;assumption
def cW.G2{n:Nat}{cs:aa AV}(h:cW n (.jf cs)):∀c∈cs,cW n c:=by cases h;assumption
def cW.fnL{n:Nat}{f:Go.Fn}{cs:aa AV}(h:cW n (.fn f cs)):∀c∈cs,cW n c:=by cases h;assumption
def cW.aCf{n id off:Nat}(h:cW n (.ptr id off)):id<n:=by cases h;assumption
def cW.raL{n id t m off:Nat}(h:cW n (.ra id t m off)):id<n:=by cases h;assumption
def cW.aHG{n id:Nat}(h:cW n (.own id)):id<n:=by cases h;assumption
def AG{n:Nat}{cs:aa AV}(h:∀c∈cs,cW n c){k:Nat}(hk:cs[k]? =V d):cW n d:=h d (List.mem_of_getElem? hk)
def uV{n:Nat}{cs ds:aa AV}(h:∀c∈cs,cW n c)(h':∀c∈ds,cW n c):∀c∈cs++ds,cW n c:=λc hc=>(zP.1 hc).elim (h c) (h' c)
def Cq{n:Nat}(h:cW n d):∀c∈dZ d,cW n c:=by
 cases d<;>first|exact h.pS|(intro c hc;simp only[dZ,zo]at hc;rw[hc];exact h)
def Pb(n:Nat)(zs:aa Value):∀c∈zs.map (b9.lit (dh:=U.dh)),cW n c:=λc hc=>by
 obtain⟨v,_,rfl⟩:=zK.1 hc;exact .lit v
def Rg(P:Program)(T:TypeId)(i:Nat)(x:af AV)(K:AV->af α):af α:=match P.underlying T with
 |some (.struct fs)=>match fs[i]? with
  |some f=>match (P.info? f.type).map (·.size)with
   |some (_+1)=>match x with
    |some (.ptr id off)=>K (.ptr id (off+f.offset))
    |some (.fp cs)=>K (.fp (cs.drop f.offset))
    |some (.ra id t m off)=>K (.ra id t m (off+f.offset))
    |_=>I
   |_=>I
  |none=>I
 |_=>I
def amz{T:TypeId}{i:Nat}(hs:kI ev rd nx E R)(ho:o.op= .fieldAddr T x i){K:AV->af α}(h:Rg P T i (ev x) K=V r):∃d,K d=V r/\Pu P o E R nx d:=by
 unfold Rg at h;split at h
 case h_2=>cases h
 rename_i fs hT;split at h
 case h_2=>cases h
 rename_i f hf;split at h
 case h_2=>cases h
 rename_i sz hsz;split at h
 ·rename_i id off hx;exact⟨_,h, .ptr _ _ (hs.sq hx).aCf,λS=>by have ex:=hs.fT hx S;rw[fM]at ex ⊢;exact .auq ho ex hT hf hsz⟩
 ·rename_i cs hx;exact⟨_,h, .fp _ (nO (hs.sq hx).fpL _),λS=>by have ex:=hs.fT hx S;rw[mV]at ex ⊢;rw[xA];exact .arD ho ex hT hf hsz⟩
 ·rename_i id t m off hx;exact⟨_,h, .ra _ _ _ _ (hs.sq hx).raL,λS=>by have ex:=hs.fT hx S;rw[jO]at ex ⊢;rw[<-yG];exact .aqz ho ex hT hf hsz⟩
 ·cases h
def Ty(P:Program)(rd:Nat->af IR)(T:TypeId)(x y:af AV)(K:AV->af α):af α:=match y with
 |some (.lit (.int _ m))=>match P.underlying T with
  |some (.slice e)=>match x with
   |some (.sl t l)=>match O5 P e (U.sz t)with
    |true=>if 0<=m/\m<(zR l:Int)then K (.fp (U.cells t l[m.toNat]!))else I
    |false=>I
   |some (.own id)=>match rd id with
    |some (.row t l)=>match O5 P e (U.sz t)with
     |true=>if 0<=m/\m<(zR l:Int)then K (.ra id t m.toNat 0)else I
     |false=>I
    |_=>I
   |_=>I
  |some (.array n e)=>match (P.info? e).map (·.size)with
   |some sz=>if 0<=m/\m<(n:Int)then(match x with
    |some (.ptr id off)=>K (.ptr id (off+m.toNat*sz))
    |some (.fp cs)=>K (.fp (cs.drop (m.toNat*sz)))
    |some (.ra id t j off)=>K (.ra id t j (off+m.toNat*sz))
    |_=>I)else I
   |none=>I
  |_=>I
 |_=>I
def ajf{T:TypeId}(hs:kI ev rd nx E R)(ho:o.op= .indexAddr T x y){K:AV->af α}(h:Ty P rd T (ev x) (ev y) K=V r):∃d,K d=V r/\Pu P o E R nx d:=by
 unfold Ty at h;split at h
 case h_2=>cases h
 rename_i k m hy;have ey:=λS=>hs.fT hy S;simp only[bW]at ey;split at h
 ·rename_i e hT;split at h
  ·rename_i t l hx;split at h
   case h_2=>cases h
   rename_i hsz;split at h
   ·rename_i hm;exact⟨_,h, .fp _ (L.sq t _ nx),λS=>by have ex:=hs.fT hx S;rw[gO]at ex;rw[mV,L.clo];exact .agk ho ex (ey S) hT (sA hsz) hm⟩
   ·cases h
  ·rename_i id hx;split at h
   case h_2=>cases h
   rename_i t l hr;split at h
   case h_2=>cases h
   rename_i hsz;split at h
   ·rename_i hm;refine⟨_,h, .ra _ _ _ _ (hs.sq hx).aHG,λS=> ?_⟩;have ex:=hs.fT hx S;rw[dz]at ex;obtain⟨i,hi⟩:=hs.row hr S;rw[jO,yj];exact .aeX i ho ex hi (ey S) hT (sA hsz) hm
   ·cases h
  ·cases h
 ·rename_i n e hT;split at h
  case h_2=>cases h
  rename_i sz hsz;split at h
  case isFalse=>cases h
  rename_i hm;split at h
  ·rename_i id off hx;exact⟨_,h, .ptr _ _ (hs.sq hx).aCf,λS=>by have ex:=hs.fT hx S;rw[fM]at ex ⊢;exact .auG ho ex (ey S) hT hsz hm⟩
  ·rename_i cs hx;exact⟨_,h, .fp _ (nO (hs.sq hx).fpL _),λS=>by have ex:=hs.fT hx S;rw[mV]at ex ⊢;rw[xA];exact .aqd ho ex (ey S) hT hsz hm⟩
  ·rename_i id t j off hx;exact⟨_,h, .ra _ _ _ _ (hs.sq hx).raL,λS=>by have ex:=hs.fT hx S;rw[jO]at ex ⊢;rw[<-yG];exact .atZ ho ex (ey S) hT hsz hm⟩
  ·cases h
 ·cases h
def ldV(P:Program)(rd:Nat->af IR)(T:TypeId)(x:af AV)(K:AV->af α):af α:=match YY P T with
 |true=>match x with
  |some (.fp cs)=>(cs[0]?).bind K
  |some (.ptr id off)=>match rd id with
   |some (.box _ cs)=>(cs[off]?).bind K
   |_=>I
  |some (.ra id t m off)=>match rd id with
   |some (.row t' l)=>match L.arr t' with
    |true=>if t=t'/\m<zR l/\off<U.sz t' then K (.lit (.bool (L.gtB t' l[m]! off)))else I
    |false=>if t=t'/\m<zR l then((U.cells t' l[m]!)[off]?).bind K else I
   |_=>I
  |_=>I
 |false=>match V3 P T with
  |some n=>match x with
   |some (.fp cs)=>match yq n (zR cs) with
    |true=>K (.agg (cs.take n))
    |false=>I
   |some (.ptr id off)=>match rd id with
    |some (.box _ cs)=>match yq (off+n) (zR cs) with
     |true=>K (.agg ((cs.drop off).take n))
     |false=>I
    |_=>I
   |some (.ra id t m off)=>match rd id with
    |some (.row t' l)=>match yq (off+n) (U.sz t')with
     |true=>if t=t'/\m<zR l then K (.agg (((U.cells t' l[m]!).drop off).take n))else I
     |false=>I
    |_=>I
   |_=>I
  |none=>I
def aqg{T:TypeId}(hs:kI ev rd nx E R)(ho:o.op= .load T x){K:AV->af α}(h:ldV P rd T (ev x) K=V r):∃d,K d=V r/\Pu P o E R nx d:=by
 unfold ldV at h;split at h
 ·rename_i hT;have hT:=Db hT;split at h
  ·rename_i cs hx;obtain⟨d,hd,h⟩:=zn.1 h;exact⟨d,h,AG (hs.sq hx).fpL hd,λS=>by have ex:=hs.fT hx S;rw[mV]at ex;exact .aue ho ex hT (by rw[ye,hd];rfl)⟩
  ·rename_i id off hx;split at h
   case h_2=>cases h
   rename_i t cs hr;obtain⟨d,hd,h⟩:=zn.1 h;refine⟨d,h,AG (hs.ajP hr) hd,λS=> ?_⟩;have ex:=hs.fT hx S;rw[fM]at ex;obtain⟨i,hi⟩:=hs.box hr S;exact .au3 i ho ex hi hT (by rw[ye,hd];rfl)
  ·rename_i id t m off hx;split at h
   case h_2=>cases h
   rename_i t' l hr;split at h
   ·rename_i har;split at h
    case isFalse=>cases h
    rename_i hm;obtain⟨rfl,hm,hoff⟩:=hm;refine⟨_,h, .lit _,λS=> ?_⟩;have ex:=hs.fT hx S;rw[jO]at ex;obtain⟨i,hi⟩:=hs.row hr S;rw[show (b9.lit (.bool (L.gtB t l[m]! off)):AV).sub S= .lit (.bool (L.gtB t l[m]! off))by simp only[b9.sub]];exact .aay i m ho ex hi hT rfl hm (L.agR t har l[m]! off hoff)
   split at h
   case isFalse=>cases h
   rename_i hm;obtain⟨rfl,hm⟩:=hm;obtain⟨d,hd,h⟩:=zn.1 h;refine⟨d,h,AG (L.sq t _ nx) hd,λS=> ?_⟩;have ex:=hs.fT hx S;rw[jO]at ex;obtain⟨i,hi⟩:=hs.row hr S;have hc:d.sub S=d:=by
    have:=L.clo t l[m]! S;have h2:((U.cells t l[m]!).map (b9.sub S))[off]? =V (d.sub S):=by rw[ye,hd];rfl
    rw[this,hd]at h2;exact(zF.inj h2).symm
   rw[hc];exact .aay i m ho ex hi hT rfl hm hd
  ·cases h
 ·split at h
  case h_2=>cases h
  rename_i n hT;have hT:=PF hT;split at h
  ·rename_i cs hx;split at h
   case h_2=>cases h
   rename_i hn;exact⟨_,h, .agg _ (p8 (hs.sq hx).fpL _),λS=>by have ex:=hs.fT hx S;rw[mV]at ex;rw[fq,xK];exact .aqw ho ex hT (by rw[zu];exact wh hn)⟩
  ·rename_i id off hx;split at h
   case h_2=>cases h
   rename_i t cs hr;split at h
   case h_2=>cases h
   rename_i hn;refine⟨_,h, .agg _ (p8 (nO (hs.ajP hr) _) _),λS=> ?_⟩;have ex:=hs.fT hx S;rw[fM]at ex;obtain⟨i,hi⟩:=hs.box hr S;rw[fq,xK,xA];exact .auR i ho ex hi hT (by rw[zu];exact wh hn)
  ·rename_i id t m off hx;split at h
   case h_2=>cases h
   rename_i t' l hr;split at h
   case h_2=>cases h
   rename_i hn;split at h
   case isFalse=>cases h
   rename_i hm;obtain⟨rfl,hm⟩:=hm;refine⟨_,h, .agg _ (p8 (nO (L.sq t _ nx) _) _),λS=> ?_⟩;have ex:=hs.fT hx S;rw[jO]at ex;obtain⟨i,hi⟩:=hs.row hr S;rw[fq,xK,xA,L.clo];exact .atp i m ho ex hi hT rfl hm (wh hn)
  ·cases h
end
end Go.Iv
end
noncomputable section
namespace Go.Iv
variable [U:tf] [L:nu]
open Go Go.RowKit
section
variable {P:Program} {E:Env} {B:aa cn} {o:Oper} {T T' e:TypeId} {x y z:Operand} {av:AV} {m:Int} {k:IntKind}
def Yp.avf{n':Nat}{cs:aa AV}(ho:o.op= .index T x y)(hx:E.ev x=V (.agg cs))(hy:E.ev y=V (.n k m))(hT:P.underlying T=V (.array n' e))(h1:tE P e)(hs:(P.info? e).map (·.size)=V 1)(hm:0<=m/\m<n')(ha:cs[m.toNat]? =V av):Yp P E B o av:=λA w S _ ar=>by
 obtain⟨j,hj,hj'⟩:=zl.1 hs;obtain⟨us,q1,q2⟩:=(ar _ _ hx).oI;have hy':=(ar _ _ hy).cM;obtain⟨v,q3,q4⟩:=q2.get ha;refine⟨v,q4,λw' _=> ?_⟩;have hp:(part e us.toArray m.toNat).run P w'= .ok v w':=by
  unfold part;rw[Sem.run_bind,mT h1];simp[q3]
 simp[execOp,ho,Instr.index,q1,hy',run_underlying hT,sizeOf,typeInfo,hj,hj',asIntOf,hm,hp]
end
section
variable {α:Type} {r:α} {P:Program} {o:Oper} {E:Env} {R:bt} {nx:Nat} {ev:Operand->af AV} {rd:Nat->af IR} {x y z:Operand} {d:AV} {A:Nat->Prop} {w:World} {S:Gh} {v:Value}
def mw(S:Gh)(d:AV):dZ (d.sub S)=(dZ d).map (b9.sub S):=by
 cases d<;>simp only[b9.sub,dZ,yf,yU]
def QG{d:AV}(h:iZ d=O)(hn:∀id,d≠ .own id):iZ (d.sub S)=O:=by
 cases d<;>first|(exact ep rfl (hn _))|(cases h;done)|(simp only[b9.sub,iZ]at h ⊢;done)|(simp only[b9.sub]at h ⊢;first|exact h|rfl)
def FJ(hs:kI ev rd nx E R)(h:DW rd d=O)(hd:Hd A (bt.res S R) w)(hr:Rel A w (d.sub S) v):v.oneCell'=O:=by
 unfold DW at h;split at h
 ·rename_i id;split at h
  ·rename_i t l hrd;obtain⟨i,hi⟩:=hs.row hrd S;rw[dz]at hr;rw[hr.cM];exact aix i hi hd
  ·cases h
 ·rw[fM]at hr;rw[hr.cM];rfl
 ·cases h
 ·rename_i h1 _ _;exact hr.one (QG h (λid e=>h1 id e))
def vp(hs:kI ev rd nx E R)(h:Gw rd d=O)(hd:Hd A (bt.res S R) w)(hr:Rel A w (d.sub S) v):bO A w ((dZ d).map (b9.sub S)) v.cells.toList/\∀u∈v.cells.toList,u.oneCell'=O:=by
 by_cases ha:∃cs,d= .agg cs
 ·obtain⟨cs,rfl⟩:=ha;rw[fq]at hr;obtain⟨us,rfl,h2⟩:=hr.oI;refine⟨by simpa [Value.cells,dZ]using h2,λu hu=> ?_⟩;simp only[Value.cells]at hu;obtain⟨j,hj,rfl⟩:=y5 hu;have hlt:j<zR cs:=by have:=h2.1;rw[zu]at this;omega
  have h3:=h2.2 j _ us[j] (by rw[ye,zq hlt];rfl) (zq hj);exact FJ hs (zx.1 h _ (xO hlt)) hd h3
 ·have hc:DW rd d=O:=by
   cases d<;>first|exact h|(exact ep ⟨_,rfl⟩ ha)
  have hac:dZ d=[d]:=by
   cases d<;>first|rfl|(exact ep ⟨_,rfl⟩ ha)
  have h2:=FJ hs hc hd hr;rw[hac,tw h2];exact⟨bO.cons hr bO.nil,λu hu=>by simp at hu;rw[hu];exact h2⟩
def Hq(hs:kI ev rd nx E R)(h:Gw rd d=O):Pw (bt.res S R) (d.sub S):=λA w v hd hr=>by
 rw[mw];exact vp hs h hd hr
def Am(rd:Nat->af IR)(place:Nat->af (Nat×Nat))(cells:aa AV):aa (Nat×AV)->af (aa AV)
 |[]=>V cells
 |(i,a)::rest=>
  match place i with
  |none=>I
  |some (off,size)=>
   match ze (dZ a).length size&&yq (off+size) cells.length&&Gw rd a with
   |true=>Am rd place (cells.take off++dZ a++cells.drop (off+size)) rest
   |false=>I
def Ic{place:Nat->af (Nat×Nat)}:∀{ps:aa (Nat×AV)} {cs cs':aa AV},(∀c∈cs,cW nx c)->(∀p∈ps,cW nx p.2)->Am rd place cs ps=V cs'->∀c∈cs',cW nx c
 |[],cs,cs',h1,_,hf=>by cases hf;exact h1
 |(i,a)::ps,cs,cs',h1,h2,hf=>by
  unfold Am at hf;split at hf
  ·cases hf
  ·split at hf
   ·exact Ic (uV (uV (p8 h1 _) (Cq (h2 _ zk))) (nO h1 _)) (λp hp=>h2 p (zI _ hp)) hf
   ·cases hf
def B0(hs:kI ev rd nx E R)(hd:Hd A (bt.res S R) w){place:Nat->af (Nat×Nat)}:∀{ps:aa (Nat×AV)} {qs:aa (Nat×Value)} {cs cs':aa AV} {init:Array Value},bO A w (cs.map (b9.sub S)) init.toList->
  F2 (λ(p:Nat×AV) (q:Nat×Value)=>p.1=q.1/\Rel A w (p.2.sub S) q.2) ps qs->Am rd place cs ps=V cs'->∃us:Array Value,Instr.fill place init qs=V us/\bO A w (cs'.map (b9.sub S)) us.toList
 |[],_,cs,cs',init,hi,hp,hf=>by
  cases hp;cases hf;exact⟨init,rfl,hi⟩
 |(i,a)::ps,_,cs,cs',init,hi,hp,hf=>by
  cases hp with
  |@cons _ q _ qs h1 h2=>
   obtain⟨j,v⟩:=q;obtain⟨h3,h4⟩:=h1;subst h3;unfold Am at hf;unfold Instr.fill;cases hpl:place i with
   |none=>rw[hpl]at hf;cases hf
   |some os=>
    obtain⟨off,size⟩:=os;rw[hpl]at hf;simp only at hf ⊢;split at hf
    ·rename_i hc;simp only[zi,Nat.ble_eq]at hc;obtain⟨⟨hc1,hc2⟩,hc3⟩:=hc;have hc1:=xw hc1;obtain⟨h5,h6⟩:=vp hs hc3 hd h4;have hvs:v.cells.size=size:=by rw[<-yp,h5.1,zu,hc1]
     have his:init.size=zR cs:=by rw[<-yp,hi.1,zu]
     rw[bN (by simp;omega)];refine B0 hs hd (cs:=cs.take off++dZ a++cs.drop (off+size)) ?_ h2 hf;have hvl:zR v.cells.toList=size:=by rw[yp,hvs]
     have e:(v.cells.zipIdx.foldl (λcs (x:Value×Nat)=>match x with|(c,j)=>cs.setIfInBounds (off+j) c) init).toList=init.toList.take off++v.cells.toList++init.toList.drop (off+size):=by
      have:=XN v.cells.toList 0 off init (by rw[hvl];omega);rw[hvl,yj]at this;rw[<-this,<-Array.foldl_toList,Array.toList_zipIdx]
     rw[e,zM,zM,xK,xA];exact((hi.take off).app h5).app (hi.drop (off+size))
    ·cases hf
def evp(ev:Operand->af AV):aa (Nat×Operand)->af (aa (Nat×AV))
 |[]=>V []
 |(i,x)::xs=>match ev x with
  |some a=>(evp ev xs).map λas0=>(i,a)::as0
  |none=>I
def V5(hs:kI ev rd nx E R):∀{xs:aa (Nat×Operand)} {as0:aa (Nat×AV)},evp ev xs=V as0->∀p∈as0,cW nx p.2
 |[],as0,h=>by cases h;simp
 |(i,x)::xs,as0,h=>by
  unfold evp at h;split at h
  ·rename_i a ha;obtain⟨as',h1,rfl⟩:=zl.1 h;intro p hp;rcases zy.1 hp with rfl|hp
   ·exact hs.sq ha
   ·exact V5 hs h1 p hp
  ·cases h
def Lw(hs:kI ev rd nx E R){j:Operand->Value}(h:P9 A w (E.sub S) j):∀{xs:aa (Nat×Operand)} {as0:aa (Nat×AV)},evp ev xs=V as0->
  F2 (λ(p:Nat×AV) (q:Nat×Value)=>p.1=q.1/\Rel A w (p.2.sub S) q.2) as0 (xs.map λp=>(p.1,j p.2))
 |[],as0,he=>by cases he;exact .nil
 |(i,x)::xs,as0,he=>by
  unfold evp at he;split at he
  ·rename_i a ha;obtain⟨as',h1,rfl⟩:=zl.1 he;exact .cons ⟨rfl,h x _ (hs.fT ha S)⟩ (Lw hs h h1)
  ·cases he
def Ot(ev:Operand->af AV):aa Operand->af (aa AV)
 |[]=>V []
 |x::xs=>match ev x with
  |some a=>(Ot ev xs).map λas0=>a::as0
  |none=>I
def Ja(hs:kI ev rd nx E R):∀{xs:aa Operand} {as0:aa AV},Ot ev xs=V as0->∀d∈as0,cW nx d
 |[],as0,h=>by cases h;simp
 |x::xs,as0,h=>by
  unfold Ot at h;split at h
  ·rename_i a ha;obtain⟨as',h1,rfl⟩:=zl.1 h;intro p hp;rcases zy.1 hp with rfl|hp
   ·exact hs.sq ha
   ·exact Ja hs h1 p hp
  ·cases h
def KX(hs:kI ev rd nx E R)(S:Gh):∀{xs:aa Operand} {as0:aa AV},Ot ev xs=V as0->(E.sub S).Ot xs=V (as0.map (b9.sub S))
 |[],as0,he=>by cases he;rfl
 |x::xs,as0,he=>by
  unfold Ot at he;split at he
  ·rename_i a ha;obtain⟨as',h1,rfl⟩:=zl.1 he;unfold Env.Ot;rw[hs.fT ha S,KX hs S h1];rfl
  ·cases he
def Qh(P:Program)(ev:Operand->af AV)(rd:Nat->af IR)(T:TypeId)(ps:aa (Nat×Operand))(K:AV->af α):af α:=
 match evp ev ps,j7 P T with
 |some as0,V zs=>match P.underlying T with
  |some (.struct _)=>match placesOf P T with
   |some places=>(Am rd (places[·]?) (zs.map .lit) as0).bind λcs=>K (.agg cs)
   |none=>I
  |some (.array _ e)=>match (P.info? e).map (·.size)with
   |some sz=>(Am rd (λi=>V (i*sz,sz)) (zs.map .lit) as0).bind λcs=>K (.agg cs)
   |none=>I
  |_=>I
 |_,_=>I
def FZ(S:Gh)(zs:aa Value):(zs.map (b9.lit (dh:=U.dh))).map (b9.sub S)=zs.map .lit:=by
 rw[yw];exact zZ λv _=>bW S v
def ahI{T:TypeId}{ps:Array (Nat×Operand)}(hs:kI ev rd nx E R)(ho:o.op= .build T ps){K:AV->af α}(h:Qh P ev rd T ps.toList K=V r):∃d,K d=V r/\Pu P o E R nx d:=by
 unfold Qh at h;split at h
 case h_2=>cases h
 rename_i as0 zs he hz;have main:∀(place:Nat->af (Nat×Nat)) (cs:aa AV),Am rd place (zs.map .lit) as0=V cs->(∀(vs:aa (Nat×Value)) (us:Array Value),Instr.fill place zs.toArray vs=V us->P.built T vs=V us)->Pu P o E R nx (.agg cs):=λplace cs hf hb=>by
  refine⟨.agg _ (Ic (Pb nx zs) (V5 hs he) hf),λS A w j hd ar=> ?_⟩;have hzr:bO A w ((zs.map b9.lit).map (b9.sub S)) zs:=by rw[FZ];exact bO.lits _
  obtain⟨us,h1,h2⟩:=B0 (init:=zs.toArray) hs hd hzr (Lw hs ar he) hf;rw[fq];refine⟨.agg us,by simpa using Rel.pS h2,λw' _=> ?_⟩;have:=run_build (P:=P) w' T _ us (hb _ us h1);rw[<-OY]at this;simp[execOp,ho,this]
 split at h
 ·rename_i fs hT;split at h
  case h_2=>cases h
  rename_i places hp;obtain⟨cs,hf,h⟩:=zn.1 h;refine⟨_,h,main _ cs hf λvs us hu=> ?_⟩;obtain⟨it,hit,hz1⟩:=zn.1 hz;obtain⟨zv,hz2,hz3⟩:=zl.1 hz1;unfold Program.built;unfold placesOf at hp;rw[hit,hT]at*;simp only[hz2,hp];have:zv.cells=zs.toArray:=by rw[<-hz3]
  rw[this];simpa using hu
 ·rename_i n e hT;split at h
  case h_2=>cases h
  rename_i sz hsz;obtain⟨cs,hf,h⟩:=zn.1 h;refine⟨_,h,main _ cs hf λvs us hu=> ?_⟩;obtain⟨it,hit,hz1⟩:=zn.1 hz;obtain⟨zv,hz2,hz3⟩:=zl.1 hz1;obtain⟨ie,hie,hse⟩:=zl.1 hsz;unfold Program.built;have:zv.cells=zs.toArray:=by rw[<-hz3]
  simp_all
 ·cases h
def TI(P:Program)(rd:Nat->af IR)(T T':TypeId)(x:af AV)(K:AV->af α):af α:=match P.underlying T,P.underlying T' with
 |some (.int _),V (.int k')=>match x with
  |some (.lit (.int k n))=>match P.underlying T with
   |some (.int k0)=>if k0=k then K (.n k' (k'.wrap n))else I
   |_=>I
  |_=>I
 |some (.slice e),V .string=>match P.underlying e with
  |some (.int .u8)=>match x with
   |some (.sl t l)=>(L.nums t l).bind λns=>K (.s (strOfNums ns))
   |some (.own id)=>match rd id with
    |some (.row t l)=>(L.nums t l).bind λns=>K (.s (strOfNums ns))
    |_=>I
   |_=>I
  |_=>I
 |_,_=>I
def alb{T T':TypeId}(hs:kI ev rd nx E R)(ho:o.op= .convert T T' x){K:AV->af α}(h:TI P rd T T' (ev x) K=V r):∃d,K d=V r/\Pu P o E R nx d:=by
 unfold TI at h;split at h
 ·rename_i k0 k' hT hT';split at h
  case h_2=>cases h
  rename_i k n hx;have ex:=λS=>hs.fT hx S;simp only[bW]at ex;split at h
  case h_2=>cases h
  rename_i k1 hk1;split at h
  case isFalse=>cases h
  rename_i hk;subst hk;exact⟨_,h, .lit λS=> .conv hk1 hT' ho (ex S)⟩
 ·rename_i e hT hT';split at h
  case h_2=>cases h
  rename_i he;split at h
  ·rename_i t l hx;obtain⟨ns,hn,h⟩:=zn.1 h;exact⟨_,h, .lit λS=> .b2s ho (.inr (.inl (by have ex:=hs.fT hx S;rw[gO]at ex;exact ex))) (L.uW t l ns hn).1 (L.uW t l ns hn).2 hT he hT'⟩
  ·rename_i id hx;split at h
   case h_2=>cases h
   rename_i t l hr;obtain⟨ns,hn,h⟩:=zn.1 h;refine⟨_,h, .lit λS=> ?_⟩;have ex:=hs.fT hx S;rw[dz]at ex;obtain⟨i,hi⟩:=hs.row hr S;exact .b2s ho (.inr (.inr ⟨i,_,ex,hi⟩)) (L.uW t l ns hn).1 (L.uW t l ns hn).2 hT he hT'
  ·cases h
 ·cases h
def Ta(i:Nat)(x:af AV)(K:AV->af α):af α:=match x with
 |some (.jf cs)=>(cs[i]?).bind K
 |_=>I
def aid{i:Nat}(hs:kI ev rd nx E R)(ho:o.op= .extract x i){K:AV->af α}(h:Ta i (ev x) K=V r):∃d,K d=V r/\Pu P o E R nx d:=by
 unfold Ta at h;split at h
 ·rename_i cs hx;obtain⟨d,hd,h⟩:=zn.1 h;exact⟨d,h,AG (hs.sq hx).G2 hd,λS=>by have ex:=hs.fT hx S;rw[lB]at ex;exact .extract ho ex (by rw[ye,hd];rfl)⟩
 ·cases h
def Q5(ev:Operand->af AV)(f:Go.Fn)(fs cs:aa Operand)(K:AV->af α):af α:=match fs with
 |[]=>(Ot ev cs).bind λas0=>K (.fn f as0)
 |_=>I
def ahq{f:Go.Fn}{fs cs:Array Operand}(hs:kI ev rd nx E R)(ho:o.op= .makeFunc f fs cs){K:AV->af α}(h:Q5 ev f fs.toList cs.toList K=V r):∃d,K d=V r/\Pu P o E R nx d:=by
 unfold Q5 at h;split at h
 ·rename_i h0;obtain⟨as0,ha,h⟩:=zn.1 h;refine⟨_,h, .fn _ _ (Ja hs ha),λS=> ?_⟩;rw[tZ];exact .func ho (by rw[<-Array.toList_eq_nil_iff];exact h0) (KX hs S ha)
 ·cases h
def cw(s:ByteArray)(i:Nat):Int:=((s.data[i]!).toNat:Int)
def Yp.ato{T:TypeId}{E:Env}{B:aa cn}{s:ByteArray}{k:IntKind}{m:Int}(ho:o.op= .index T x y)(hx:E.ev x=V (.s s))(hy:E.ev y=V (.n k m))(hT:P.underlying T=V .string)(hm:0<=m/\m<(s.size:Int)):Yp P E B o (.n .u8 (cw s m.toNat)):=λA w S _ ar=>by
 refine⟨_, .lit _,λw' _=> ?_⟩;have hx':=(ar _ _ hx).cM;have hy':=(ar _ _ hy).cM;have h:=run_index_string (P:=P) w' T s k m hT;rw[dif_pos hm]at h;have e:cw s m.toNat=((s[m.toNat]'aq).toNat:Int):=by
  unfold cw;have hlt:m.toNat<s.data.size:=by have:s.data.size=s.size:=rfl;omega
  rw[getElem!_pos s.data m.toNat hlt];rfl
 rw[<-e]at h;simp[execOp,ho,hx',hy',h]
def Qz(P:Program)(T:TypeId)(x y:af AV)(K:AV->af α):af α:=match P.underlying T with
 |some (.array n e)=>match YY P e&&O5 P e 1 with
  |true=>match x,y with
   |some (.agg cs),V (.lit (.int _ m))=>if 0<=m/\m<(n:Int)then(cs[m.toNat]?).bind K else I
   |_,_=>I
  |false=>I
 |some .string=>match x,y with
  |some (.lit (.string s)),V (.lit (.int _ m))=>if 0<=m/\m<(s.size:Int)then K (.n .u8 (cw s m.toNat))else I
  |_,_=>I
 |_=>I
def ag4{T:TypeId}(hs:kI ev rd nx E R)(ho:o.op= .index T x y){K:AV->af α}(h:Qz P T (ev x) (ev y) K=V r):∃d,K d=V r/\Pu P o E R nx d:=by
 unfold Qz at h;split at h
 case h_3=>cases h
 case h_2=>
  rename_i hT;split at h
  case h_2=>cases h
  rename_i s k m hx hy;split at h
  case isFalse=>cases h
  rename_i hm;have ex:=λS=>hs.fT hx S;have ey:=λS=>hs.fT hy S;simp only[bW]at ex ey;exact⟨_,h, .lit λS=> .ato ho (ex S) (ey S) hT hm⟩
 rename_i n e hT;split at h
 case h_2=>cases h
 rename_i he;simp only[zi]at he;split at h
 case h_2=>cases h
 rename_i cs k m hx hy;split at h
 case isFalse=>cases h
 rename_i hm;obtain⟨d,hd,h⟩:=zn.1 h;refine⟨d,h,AG (hs.sq hx).pS hd,λS=> ?_⟩;have ex:=hs.fT hx S;have ey:=hs.fT hy S;rw[fq]at ex;rw[bW]at ey;exact .avf ho ex ey hT (Db he.1) (sA he.2) hm (by rw[ye,hd];rfl)
def Tt(P:Program)(T:TypeId)(x:af AV)(lo hi:af (af AV))(K:AV->af α):af α:=match P.underlying T with
 |some (.slice e)=>match x with
  |some (.sl t l)=>match O5 P e (U.sz t)with
   |true=>match lo,hi with
    |some (V (.lit (.int _ a))),V (V (.lit (.int _ b)))=>if 0<=a/\a<=b/\b<=(zR l:Int)then K (.sl t ((l.take b.toNat).drop a.toNat))else I
    |none,V (V (.lit (.int _ b)))=>if 0<=b/\b<=(zR l:Int)then K (.sl t (l.take b.toNat))else I
    |some (V (.lit (.int _ a))),I=>if 0<=a/\a<=(zR l:Int)then K (.sl t (l.drop a.toNat))else I
    |_,_=>I
   |false=>I
  |some (.lit (.slice I 0 0))=>match P.info? e with
   |some _=>match lo,hi with
    |some (V (.lit (.int _ 0))),I=>K (.lit (.slice I 0 0))
    |_,_=>I
   |none=>I
  |_=>I
 |_=>I
def Yp.Z7{P:Program}{E:Env}{B:aa cn}{o:Oper}{T e:TypeId}{x y:Operand}{k:IntKind}{j:TypeInfo}(ho:o.op= .slice T x (V y) I I)(hx:E.ev x=V (.lit (.slice I 0 0)))(hy:E.ev y=V (.lit (.int k 0)))(hT:P.underlying T=V (.slice e))(hj:P.info? e=V j):Yp P E B o (.lit (.slice I 0 0)):=Yp.lits λS ar w=>by
 simp[execOp,ho,ar _ _ hx,ar _ _ hy,Instr.sliceAt,Instr.slice,Instr.sliceBounds,Instr.sliceBound,run_underlying hT,sizeOf,typeInfo,hj,asIntOf]
def ak3{T:TypeId}{lo hi:af Operand}(hs:kI ev rd nx E R)(ho:o.op= .slice T x lo hi I){K:AV->af α}(h:Tt P T (ev x) (lo.map ev) (hi.map ev) K=V r):∃d,K d=V r/\Pu P o E R nx d:=by
 unfold Tt at h;split at h
 case h_2=>cases h
 rename_i e hT;split at h
 case h_3=>cases h
 case h_2=>
  rename_i hx;split at h
  case h_2=>cases h
  rename_i j hj;split at h
  case h_2=>cases h
  rename_i k hlo hhi;cases lo with
  |none=>cases hlo
  |some lo=>
   cases hi with
   |some hi=>cases hhi
   |none=>
    have ex:=λS=>hs.fT hx S;have e1:=λS=>hs.fT (zF.inj hlo) S;simp only[bW]at ex e1;exact⟨_,h, .lit _,λS=>by rw[bW];exact .Z7 ho (ex S) (e1 S) hT hj⟩
 rename_i t l hx;split at h
 case h_2=>cases h
 rename_i hsz;have hsz:=sA hsz;have ex:=λS=>hs.fT hx S;simp only[gO]at ex;split at h
 ·rename_i k a k' b hlo hhi;split at h
  case isFalse=>cases h
  rename_i hc;cases lo with
  |none=>cases hlo
  |some lo=>
   cases hi with
   |none=>cases hhi
   |some hi=>
    have e1:=λS=>hs.fT (zF.inj hlo) S;have e2:=λS=>hs.fT (zF.inj hhi) S;simp only[bW]at e1 e2;exact⟨_,h, .sl _ _,λS=>by rw[gO];exact .atO ho (ex S) (e1 S) (e2 S) hT hsz hc⟩
 ·rename_i k' b hlo hhi;split at h
  case isFalse=>cases h
  rename_i hc;cases lo with
  |some lo=>cases hlo
  |none=>
   cases hi with
   |none=>cases hhi
   |some hi=>
    have e2:=λS=>hs.fT (zF.inj hhi) S;simp only[bW]at e2;exact⟨_,h, .sl _ _,λS=>by rw[gO];exact .af9 ho (ex S) (e2 S) hT hsz hc⟩
 ·rename_i k a hlo hhi;split at h
  case isFalse=>cases h
  rename_i hc;cases lo with
  |none=>cases hlo
  |some lo=>
   cases hi with
   |some hi=>cases hhi
   |none=>
    have e1:=λS=>hs.fT (zF.inj hlo) S;simp only[bW]at e1;exact⟨_,h, .sl _ _,λS=>by rw[gO];exact .alA ho (ex S) (e1 S) hT hsz hc⟩
 ·cases h
def Qx(P:Program)(rd:Nat->af IR)(T:TypeId)(x:af AV)(K:AV->af α):af α:=match P.underlying T with
 |some (.slice _)=>match x with
  |some (.sl _ l)=>K (.i (zR l:Int))
  |some (.own id)=>match rd id with
   |some (.row _ l)=>K (.i (zR l:Int))
   |_=>I
  |some (.lit (.slice I 0 0))=>K (.i 0)
  |_=>I
 |some .string=>match x with
  |some (.lit (.string s))=>K (.i (s.size:Int))
  |_=>I
 |_=>I
def ak2{T:TypeId}(hs:kI ev rd nx E R)(ho:o.op= .call {callee:= .builtin .len,args:=#[x],argTypes:=#[T]}){K:AV->af α}(h:Qx P rd T (ev x) K=V r):∃d,K d=V r/\Pu P o E R nx d:=by
 unfold Qx at h;split at h
 ·rename_i e hT;split at h
  ·rename_i t l hx;exact⟨_,h, .lit λS=> .ayZ ho (by have ex:=hs.fT hx S;rw[gO]at ex;exact ex) hT⟩
  ·rename_i id hx;split at h
   case h_2=>cases h
   rename_i t l hr;refine⟨_,h, .lit λS=> ?_⟩;have ex:=hs.fT hx S;rw[dz]at ex;obtain⟨i,hi⟩:=hs.row hr S;exact .avy i ho ex hi hT
  ·rename_i hx;exact⟨_,h, .lit λS=> .atF ho (by have ex:=hs.fT hx S;rw[bW]at ex;exact ex) hT⟩
  ·cases h
 ·rename_i hT;split at h
  ·rename_i s hx;exact⟨_,h, .lit λS=> .atW ho (by have ex:=hs.fT hx S;rw[bW]at ex;exact ex) hT⟩
  ·cases h
 ·cases h
end
end Go.Iv
end
noncomputable section
namespace Go.Iv
variable [U:tf]
open Go Go.RowKit
def Fc{zs:aa Value}{sz:Nat}(hsz:zR zs=sz)(nn:Nat):(Builtin.zeroCells zs.toArray nn).toList=(zj nn zs).flatten:=by
 apply List.ext_getElem?;intro j;have hfl:zR (zj nn zs).flatten=nn*sz:=by simp[hsz]
 have hq:∀(q:Nat) (j:Nat),j<q*sz->(zj q zs).flatten[j]? =zs[j%sz]? :=by
  intro q;induction q with
  |zero=>intro j hj;simp at hj
  |succ q ih=>
   intro j hj;rw[yR,wE,xx];split
   ·rename_i h;rw[hsz]at h;rw[Nat.mod_eq_of_lt h]
   ·rename_i h;rw[hsz]at h;rw[hsz,ih _ (by rw[yP]at hj;omega),Nat.mod_eq_sub_mod (by omega:sz<=j)]
 by_cases hj:j<nn*sz
 ·rw[hq nn j hj];have h0:0<sz:=by
   rcases wC sz with h|h
   ·rw[h]at hj;omega
   ·exact h
  have hlt:j%sz<zR zs:=by rw[hsz];exact xg _ h0
  rw[zq hlt];simp[Builtin.zeroCells,hsz,hj,zq hlt]
 ·rw[wF (l:=(zj nn zs).flatten) (by rw[hfl];omega),wF];simp[Builtin.zeroCells,hsz];omega
def C1{P:Program}{w:World}{T tn ty e:TypeId}{kn:IntKind}{i:TypeInfo}{zz v:Value}{sz by' nn mm:Nat}{us:aa Value}(ht:P.underlying T=V (.slice e))(htn:P.underlying tn=V (.int kn))(hi:P.info? e=V i)(hz:i.zero=V zz)(hs:i.size=sz)(hby:i.bytes=by')(hzs:zz.cells.size=sz)(hpos:0<sz)
  (hrow:gv w v e sz nn us) (h1:∀u∈(Builtin.zeroCells zz.cells mm).toList,u.oneCell'=O) (h63:nn+mm<=maxLen) (hb:(nn+mm)*by'<=140737488355328):
  ∃v' w',(Builtin.append_ #[T,tn] ty #[v, .int .i64 mm]).run P w= .ok v' w'/\gv w' v' e sz (nn+mm) (us++(Builtin.zeroCells zz.cells mm).toList)/\Kp (gH v).toList w w'/\(gH v'=gH v\/gH v'=V w.heap.size):=by
 subst hs hby
 have h63':((nn+mm:Nat):Int)<=9223372036854775807:=by unfold maxLen at h63;omega
 have hw:IntKind.i64.wrap (mm:Int)=mm:=by rw[IntKind.wrap_i64];omega
 have hneg:¬((mm:Int)<0):=aq;have hmb:mm*i.bytes<=140737488355328:=zG (yl _ aq) hb;have h48i:¬(281474976710656<(mm:Int)*(i.bytes:Int)):=by rw[<-wJ];omega
 have hzl:zR (Builtin.zeroCells zz.cells mm).toList=mm*i.size:=by rw[yp,size_zeroCells,hzs]
 by_cases hm:mm=0
 ·subst hm;obtain⟨q,cap,rfl,hcap⟩:=hrow.len;have hrun:(Builtin.append_ #[T,tn] ty #[.slice q nn cap, .int .i64 (0:Nat)]).run P w= .ok (.slice q nn cap) w:=by
   cases q<;>simp[Builtin.append_,run_underlying ht,run_underlying htn,sizeOf,typeInfo,hi,asInt,asIntOf,hw,hcap,storeCells,IntKind.wrap_i64]
  exact⟨_,w,hrun,by simpa [Builtin.zeroCells]using hrow,Kp.refl _ _, .inl rfl⟩
 ·have hfit:∀old,Builtin.nextslicecap (nn+mm) old*i.bytes<=281474976710656\/¬old<nn+mm:=λold=>by
   by_cases h:old<nn+mm
   ·exact .inl (growslice_fits aq hb)
   ·exact .inr h
  have grown:∀(olds:aa Value) (old:Nat),zR olds=nn*i.size->old<nn+mm->us=olds->
    gv (w.drew.alloc (.cells (olds.toArray++Builtin.zeroCells zz.cells mm++Builtin.zeroCells zz.cells (grownCap w (nn+mm) old e-(nn+mm))) e)) (.slice (V ⟨w.heap.size,0,I⟩) (nn+mm) (grownCap w (nn+mm) old e)) e i.size (nn+mm) (us++(Builtin.zeroCells zz.cells mm).toList):=by
   intro olds old hol hlt hus;subst hus;have hge:=grownCap_ge w (nn+mm) old e;have hcm:=grownCap_le_maxLen w (nn+mm) old e h63;obtain⟨ck,hck⟩:∃ck,grownCap w (nn+mm) old e=ck+1:=⟨grownCap w (nn+mm) old e-1,aq⟩;refine⟨by rw[zh,hol,hzl,zX], .inr ⟨w.heap.size,ck,_,by rw[hck],heap_alloc_new w.drew _,aq,aq,?_,?_⟩⟩
   ·rw[<-hck];simp only[Array.size_append,y6,size_zeroCells,hzs,hol,<-zX]
    congr 1
    omega
   ·simp only[Array.toList_append];rw[show (nn+mm)*i.size=zR (us++(Builtin.zeroCells zz.cells mm).toList) from by rw[zh,hol,hzl,zX]];exact List.take_left
  have grow:∀(base:af Addr) (old:Nat),(Builtin.firstCells i.size nn (.slice base nn old)).run P w.drew= .ok us.toArray w.drew->zR us=nn*i.size->old<nn+mm->
    ∃v' w',(Builtin.append_ #[T,tn] ty #[.slice base nn old, .int .i64 mm]).run P w= .ok v' w'/\gv w' v' e i.size (nn+mm) (us++(Builtin.zeroCells zz.cells mm).toList)/\Kp [] w w'/\gH v'=V w.heap.size:=λbase old hf hul hlt=>by
   have hr:=Lib.run_append_grow_zeros (P:=P) w T tn ty e i zz .i64 kn ht htn hi hz base nn old us hf mm aq hpos hlt h63' aq ((hfit old).resolve_right aq);refine⟨_,_,hr,grown us old hul hlt rfl,⟨rfl,rfl,rfl,yd _,by simp,λk hk _=>heap_alloc_old w.drew _ hk⟩,?_⟩;have hge:=grownCap_ge w (nn+mm) old e;obtain⟨ck,hck⟩:∃ck,grownCap w (nn+mm) old e=ck+1:=⟨grownCap w (nn+mm) old e-1,aq⟩;rw[hck];rfl
  rcases hrow.2 with ⟨q,rfl,rfl⟩|⟨g,cap,cur,rfl,hg,hnc,hcm,hcs,htake⟩
  ·have hu:us=[]:=xh (by simpa using hrow.1);subst hu;obtain⟨v',w',r1,r2,r3,r4⟩:=grow q 0 (by cases q<;>simp[Builtin.firstCells,loadCells,loadCellsFrom]) (by simp) aq;exact⟨v',w',r1,r2,⟨r3.os,r3.tape,r3.output,r3.drawn,r3.size,λk hk _=>r3.block k hk (by simp)⟩, .inr r4⟩
  ·by_cases hroom:nn+mm<=cap+1
   ·have hcl:nn*i.size+zR (Builtin.zeroCells zz.cells mm).toList<=cur.size:=by rw[hzl,hcs,<-zX];exact yl _ hroom
    have hst:=run_storeCells_at P g (nn*i.size) e (Builtin.zeroCells zz.cells mm).toList 0 cur w hg (by simpa using hcl) h1;simp only[yj]at hst;have hns:¬(mm*i.size=0):=Nat.mul_ne_zero hm aq;have hr:(Builtin.append_ #[T,tn] ty #[.slice (V ⟨g,0,I⟩) nn (cap+1), .int .i64 mm]).run P w= .ok (.slice (V ⟨g,0,I⟩) (nn+mm) (cap+1)) (w.setRow g (cur.toList.take (nn*i.size)++(Builtin.zeroCells zz.cells mm).toList++cur.toList.drop (nn*i.size+zR (Builtin.zeroCells zz.cells mm).toList)).toArray):=by
     simp[Builtin.append_,run_underlying ht,run_underlying htn,sizeOf,typeInfo,zeroValue,hi,hz,asInt,asIntOf,hw,hneg,hns,h48i,hroom,Addr.add_lit,hst]
    refine⟨_,_,hr,⟨by rw[zh,hrow.1,hzl,zX], .inr ⟨g,cap,_,rfl,setRow_heap w g cur _ e _ hg,hroom,hcm,?_,?_⟩⟩,nN w g _, .inl rfl⟩
    ·simp only[y6,zh,zA,zV,yp]at hcl ⊢;omega
    ·rw[htake,show (nn+mm)*i.size=zR (us++(Builtin.zeroCells zz.cells mm).toList) from by rw[zh,hrow.1,hzl,zX]];exact List.take_left
   ·have holds:∀j v,us[j]? =V v->w.cell? ((⟨g,0,I⟩:Addr).add j)=V v:=λj v hj=>by
     rw[qx,ym];exact hrow.cells rfl j v hj
    obtain⟨v',w',r1,r2,r3,r4⟩:=grow (V ⟨g,0,I⟩) (cap+1) (run_firstCells_some (P:=P) w.drew i.size nn ⟨g,0,I⟩ nn (cap+1) us hrow.1 (by simpa using holds)) hrow.1 aq;exact⟨v',w',r1,r2,⟨r3.os,r3.tape,r3.output,r3.drawn,r3.size,λk hk _=>r3.block k hk (by simp)⟩, .inr r4⟩
def Fy{A:Nat->Prop}{w:World}{q:Nat}{d:U.dh q}{zs:aa Value}(hd:∀A w,bO A w (U.cells q d) zs):∀n,bO A w ((zj n d).flatMap (U.cells q)) (zj n zs).flatten
 |0=>bO.nil
 |n+1=>by
  rw[yR,yR,yQ,wE];exact(hd A w).app (Fy hd n)
section
variable {P:Program} {C:Cx} {E:Env} {B:aa cn} {o:Oper} {x y:Operand} {T tn e:TypeId} {v:Value}
def Yv.aEI{by':Nat}{kn:IntKind}{l:aa (U.dh e)}{zs:aa Value}{m:Int}(i:Nat)(d:U.dh e)(ho:o.op= .call {callee:= .builtin .append,args:=#[x,y],argTypes:=#[T,tn]})(hx:E.ev x=V (.lit v))(aw:B[i]? =V (.row v e l))(hy:E.ev y=V (.i m))(hT:P.underlying T=V (.slice e))(htn:P.underlying tn=V (.int kn))(hs:(P.info? e).map (λi=>(i.size,i.bytes))=V ((U.sz e),by'))(hz:j7 P e=V zs)(hzl:zR zs=(U.sz e))(hpos:0<(U.sz e))(hb:yq by' 4096=O)
  (hd:∀A w,bO A w (U.cells e d) zs) (hone:zs.all Value.oneCell'=O) (hlen:0<=m/\zR (l++zj m.toNat d)<=1073741824):Yv P E B o C (xP (gH v)) (λa B'=>∃v',a= .lit v'/\B'=B.set i (.row v' e (l++zj m.toNat d))):=λw S hg ar=>by
 obtain⟨it,hit,hz1⟩:=zn.1 hz;obtain⟨zv,hz2,hz3⟩:=zl.1 hz1;obtain⟨ie,hie,hse⟩:=zl.1 hs;have hee:it=ie:=by rw[hit]at hie;exact zF.inj hie
 subst hee;simp only[Prod.mk.injEq]at hse;obtain⟨s1,s2⟩:=hse;have hby:by'<=4096:=by simpa using hb
 obtain⟨us,g1,g2,g3⟩:=D9 (hg.res _ (List.mem_of_getElem? aw));have hx':=(ar _ _ hx).cM;have hy':=(ar _ _ hy).cM;obtain⟨mm,rfl⟩:∃mm:Nat,m=mm:=⟨m.toNat,aq⟩;rw[zg]at hlen ⊢;obtain⟨_,hlen⟩:=hlen;rw[zh,xQ]at hlen;have hbytes:(zR l+mm)*by'<=140737488355328:=by
  have:(zR l+mm)*by'<=1073741824*4096:=Nat.mul_le_mul hlen hby
  omega
 have hzc:zv.cells=zs.toArray:=by rw[<-hz3]
 have hzt:(Builtin.zeroCells zv.cells mm).toList=(zj mm zs).flatten:=by rw[hzc];exact Fc hzl mm
 obtain⟨v',w',r1,r2,r3,r4⟩:=C1 (P:=P) (T:=T) (tn:=tn) (ty:=o.type) hT htn hit hz2 s1 s2 (by rw[hzc,y6,hzl]) hpos g1 (mm:=mm) (by
  rw[hzt];intro u hu;obtain⟨q,hq,hu⟩:=List.mem_flatten.1 hu;rw[List.eq_of_mem_replicate hq]at hu;exact zx.1 hone u hu) (by unfold maxLen;omega) hbytes
 rw[hzt]at r2;refine⟨v',w',_,_,⟨v',rfl,rfl⟩,El (r:= .row v e l) hg aw r3 r4 (FQ (by rw[zh,xQ];exact r2) (Nr g2 (λj hj=> ?_)) ?_),?_, .lit _⟩
 ·rw[xQ]at hj;rw[getElem!_pos _ j (by simpa using hj),List.getElem_replicate,<-(hd (λ_=>True) w).1,hzl]
 ·rw[xR];refine bO.app (g3.mono λb hb hA=>⟨⟨hA.1,λhx=> ?_⟩,r3.block b hb (λhx=>hA.2 (bS.2 ⟨_,List.mem_of_getElem? aw,by simpa [cn.blk]using hx⟩))⟩) (Fy hd mm);obtain⟨s,hs1,hs2⟩:=bS.1 hx;rcases List.mem_or_eq_of_mem_set hs1 with h|h
  ·exact hA.2 (bS.2 ⟨s,h,hs2⟩)
  ·rw[h]at hs2;rcases r4 with r4|r4
   ·exact hA.2 (bS.2 ⟨_,List.mem_of_getElem? aw,by rw[<-hs2];exact r4.symm⟩)
   ·have hs2':gH v'=V b:=hs2;rw[r4]at hs2';cases hs2';omega
 ·simp[execOp,ho,resolve,invoke,builtin,hx',hy',r1]
end
end Go.Iv
end
noncomputable section
namespace Go.Iv
open Go Go.RowKit
variable [U:tf] {P:Program} {C:Cx} {E:Env} {B:aa cn} {o:Oper} {T T':TypeId} {x y:Operand} {v:Value}
def Yv.axR{q:Nat}{l l2:aa (U.dh q)}(i:Nat)(ho:o.op= .call {callee:= .builtin .copy,args:=#[x,y],argTypes:=#[T,T']})(hx:E.ev x=V (.lit v))(aw:B[i]? =V (.row v q l))(hs:Src B E y q l2)
  (hT:P.underlying T=V (.slice q)) (hz:(P.info? q).map (·.size)=V 1) (hsz:U.sz q=1) (hlen:zR l2=zR l) (h0:0<zR l) (hone:∀a,(U.cells q a).all iZ=O):
  Yv P E B o C (xP (gH v)) (λa B'=>a= .i (zR l:Int)/\B'=B.set i (.row v q l2)):=λw S hg ar=>by
 obtain⟨j,hj,hj'⟩:=zl.1 hz;obtain⟨us,h1,h2,h3⟩:=hg.res _ (List.mem_of_getElem? aw);obtain⟨g,cap,cur,hv,hgb,hB,q1,q2,q3,q4⟩:=h1.at h0;obtain⟨p,cap2,news,r1,r2,r3,r4,r5,r6⟩:=Src.spec hs hg.hd ar;have hx':=(ar _ _ hx).cM;rcases r2 with r2|⟨a,rfl,r2⟩
 ·omega
 rw[hsz,xB]at r3 q3;have hone':(l2.flatMap (U.cells q)).all iZ=O:=zx.2 λc hc=>by
  obtain⟨z,_,hz⟩:=xz.1 hc;exact zx.1 (hone z) c hz
 have hl:=run_loadCells_list (P:=P) w a news r2;have hst:=run_storeCells_at P g 0 q news 0 cur w hB (by rw[r3,q3];omega) (r5.one hone');simp only[yj,ym,wj,yz]at hst;have hpart:∀b,al C (B.set i (.row v q l2)) b↔al C B b:=λb=>by
  have hbk:=Gj (r':=cn.row v q l2) aw rfl;unfold al;rw[hbk]
 have hal:∀b,b<w.heap.size->al C B b->al C (B.set i (.row v q l2)) b/\(w.setRow g (news++cur.toList.drop (zR news)).toArray).heap[b]? =w.heap[b]? :=λb hb hA=>
  ⟨(hpart b).2 hA,setRow_other w g b _ (λe=>hA.2 (bS.2 ⟨_,List.mem_of_getElem? aw,by rw[e];exact hgb⟩))⟩
 refine⟨.int .i64 (zR l),w.setRow g (news++cur.toList.drop (zR news)).toArray,_,_,⟨rfl,rfl⟩,El (r:= .row v q l) hg aw (by show Kp (xP (gH v)) _ _;rw[hgb];exact nN w g _) (.inl rfl) (FQ (us:=news) ⟨by rw[hsz,xB,r3], .inr ⟨g,cap,_,by rw[hlen];exact hv,setRow_heap w g cur _ q (0,0) hB,by rw[hlen];exact q1,q2,?_,?_⟩⟩ r4 (r5.mono hal)),?_, .lit _⟩
 ·have hc:zR cur.toList=cap+1:=by rw[yp];exact q3
  simp only[y6,zh,zV,hc,hsz,xB,r3,hlen];omega
 ·rw[hsz,xB,<-r3];simp
 ·have hmin:min (zR l2) l.length=zR news:=by rw[r3];omega
  have hmin':Nat.min (zR l2) l.length=zR news:=hmin;have hnl:zR news=zR l:=by rw[r3,hlen]
  rw[<-hnl];simp[execOp,ho,resolve,invoke,builtin,hx',hv,r1,Builtin.copy_,run_underlying hT,Builtin.lenOf,Builtin.firstCells,sizeOf,typeInfo,hj,hj',hmin',hl,hst,goInt]
end Go.Iv
end
noncomputable section
namespace Go.Iv
variable [U:tf] [L:nu]
open Go Go.RowKit
inductive gA:Type
 |val (d:AV)
 |new (d:AV) (r:IR)
 |set (id:Nat) (r:IR)
 |grow (id:Nat) (r:IR)
 |all (d:AV) (R:bt) (nx:Nat)
def gA.R(R:bt)(nx:Nat):gA->bt
 | .val _=>R
 | .new _ r=>(nx,r)::R
 | .set id r=>uv id r R
 | .grow id r=>(nx,r)::lz id R
 | .all _ R' _=>R'
def gA.nx(nx:Nat):gA->Nat
 | .val _=>nx
 | .new _ _=>nx+1
 | .set _ _=>nx
 | .grow _ _=>nx+1
 | .all _ _ m=>m
def gA.vl(nx:Nat):gA->af AV
 | .val d=>V d
 | .new d _=>V d
 | .set _ _=>I
 | .grow _ _=>V (.own nx)
 | .all d _ _=>V d
section
variable {P:Program} {C:Cx} {E:Env} {B B':aa cn} {o:Oper} {N:af AV->aa cn->Prop} {X:aa Nat} {N0:AV->aa cn->Prop} {av:AV}
def Ye(P:Program)(E:Env)(B:aa cn)(o:Oper)(C:Cx)(N:af AV->aa cn->Prop):Prop:=∀(w:World) (j:Operand->Value),Good C B w->P9 (al C B) w E j->
 (∃v w' av B',N (V av) B'/\Tr C (bC B) B w B' w'/\(execOp j o).run P w= .ok (.value v) w'/\Rel (al C B') w' av v)\/
 (∃w' B',N I B'/\Tr C (bC B) B w B' w'/\(execOp j o).run P w= .ok .skip w')\/
 (∃f args,(execOp j o).run P w= .ok (.enter f args) w/\Calls P f args w λe w'=>∃v av B',e= .returned v/\N (V av) B'/\Tr C (bC B) B w B' w'/\Rel (al C B') w' av v)
def Tr.wide{w w':World}(h:Tr C X B w B' w')(hX:∀b∈X,b∈bC B):Tr C (bC B) B w B' w':=
 ⟨h.good,⟨h.kp.os,h.kp.tape,h.kp.output,h.kp.drawn,h.kp.size,λk hk hn=>h.kp.block k hk λhx=>hn (hX k hx)⟩,λb hb hA=>⟨(h.al b hb hA).1,hA.2⟩⟩
def Tr.none{w:World}(h:Good C B w):Tr C (bC B) B w B w:=⟨h,Kp.refl _ _,λ_ _ hA=>⟨hA,hA.2⟩⟩
def Ye.ofP(h:Yp P E B o av)(hN:N (V av) B):Ye P E B o C N:=λw j hg ar=>by
 obtain⟨v,h1,h2⟩:=h _ w j hg.hd ar;exact .inl ⟨v,w,av,B,hN, .none hg,h2 w (λ_ _ _=>rfl),h1⟩
def Ye.ofV(h:Yv P E B o C X N0)(hX:∀b∈X,b∈bC B)(hN:∀a B',N0 a B'->N (V a) B'):Ye P E B o C N:=λw j hg ar=>by
 obtain⟨v,w',av,B',h1,h2,h3,h4⟩:=h w j hg ar;exact .inl ⟨v,w',av,B',hN _ _ h1,h2.wide hX,h3,h4⟩
def Ye.ofU(h:Yu P E B o C X B')(hX:∀b∈X,b∈bC B)(hN:N I B'):Ye P E B o C N:=λw j hg ar=>by
 obtain⟨w',h2,h3⟩:=h w j hg ar;exact .inr (.inl ⟨w',B',hN,h2.wide hX,h3⟩)
def Ye.ofC(h:Yc P E B o C X N0)(hX:∀b∈X,b∈bC B)(hN:∀a B',N0 a B'->N (V a) B'):Ye P E B o C N:=λw j hg ar=>by
 obtain⟨f,args,h1,h2⟩:=h w j hg ar;exact .inr (.inr ⟨f,args,h1,h2.mono λe w' ⟨v,av,B',q1,q2,q3,q4⟩=>⟨v,av,B',q1,hN _ _ q2,q3.wide hX,q4⟩⟩)
end
def Nx{α:Type}(R:bt)(nx:Nat)(K:gA->af α)(r:α)(S:Gh):af AV->aa cn->Prop:=λa B'=>∃eff:gA,K eff=V r/\nx<=eff.nx nx/\bt.cW (eff.nx nx) (eff.R R nx)/\(∀d,eff.vl nx=V d->cW (eff.nx nx) d)/\
 ∃S',pU nx S S'/\a=(eff.vl nx).map (b9.sub S')/\List.Perm B' (bt.res S' (eff.R R nx))
def Zv{α:Type}(P:Program)(o:Oper)(E:Env)(R:bt)(nx:Nat)(K:gA->af α)(r:α):Prop:=∀S C,Ye P (E.sub S) (bt.res S R) o C (Nx R nx K r S)
def Gh.gE(S:Gh)(n:Nat)(v:Value):Gh:=⟨λi=>if i=n then v else S.v i,S.b⟩
def Gh.gq(S:Gh)(n b:Nat):Gh:=⟨S.v,λi=>if i=n then b else S.b i⟩
def pU.gE(S:Gh)(n:Nat)(v:Value):pU n S (S.gE n v):=λi hi=>⟨by simp[Gh.gE,Nat.ne_of_lt hi],rfl⟩
def pU.gq(S:Gh)(n b:Nat):pU n S (S.gq n b):=λi hi=>⟨rfl,by simp[Gh.gq,Nat.ne_of_lt hi]⟩
section
variable {α:Type} {r:α} {P:Program} {o:Oper} {E:Env} {R:bt} {nx:Nat} {ev:Operand->af AV} {rd:Nat->af IR} {x y z:Operand} {d:AV} {K:gA->af α}
def Zv.pu(hs:kI ev rd nx E R)(h:∃d,K (.val d)=V r/\Pu P o E R nx d):Zv P o E R nx K r:=λS C=>by
 obtain⟨d,h1,h2,h3⟩:=h;exact .ofP (h3 S) ⟨.val d,h1,zm _,hs.lr,λd' hd=>by cases hd;exact h2,S, .refl _ _,rfl, .refl _⟩
def aaZ(hs:kI ev rd nx E R){d:AV}{rr:IR}{S S':Gh}{B':aa cn}{a:AV}(hK:K (.new d rr)=V r)(hd:cW (nx+1) d)(hr:rr.cW (nx+1))(ar:pU nx S S')(ha:a=d.sub S')(aw:B'=rr.res S' nx::bt.res S R):Nx R nx K r S (V a) B':=by
 refine⟨.new d rr,hK,yd nx,λp hp=> ?_,λd' h=>by cases h;exact hd,S',ar,by rw[ha];rfl,?_⟩
 ·rcases zy.1 hp with rfl|hp
  ·exact⟨zC _,hr⟩
  ·exact(hs.lr.mono (yd nx)) p hp
 ·rw[aw,hs.lr.res ar];rfl
def XA(P:Program)(nx:Nat)(T:TypeId)(K:gA->af α):af α:=((P.info? T).bind λi=>i.zero).bind λz=>K (.new (.ptr nx 0) (.box T (z.cells.toList.map .lit)))
def af8{T:TypeId}(hs:kI ev rd nx E R)(ho:o.op= .alloc T)(h:XA P nx T K=V r):Zv P o E R nx K r:=λS C=>by
 obtain⟨z,h1,h⟩:=zn.1 h;obtain⟨i,h2,h3⟩:=zn.1 h1;refine .ofV (.alloc (zs:=z.cells.toList) ho (by rw[h2];simp[h3])) (by simp) λa B' ⟨b,ha,aw⟩=> ?_;refine aaZ hs (S':=S.gq nx b) h (.ptr _ _ (zC _)) (λc hc=>Pb _ _ c hc) (.gq S nx b) ?_ ?_
 ·rw[ha,fM];simp[Gh.gq]
 ·rw[aw];simp only[IR.res,FZ];simp[Gh.gq]
def Sz(rd:Nat->af IR)(nx:Nat)(T:TypeId)(x:af AV)(K:gA->af α):af α:=match x with
 |some d=>match Gw rd d with
  |true=>K (.new (.ptr nx 0) (.box T (dZ d)))
  |false=>I
 |none=>I
def akm{T:TypeId}(hs:kI ev rd nx E R)(ho:o.op= .box T x)(h:Sz rd nx T (ev x) K=V r):Zv P o E R nx K r:=λS C=>by
 unfold Sz at h;split at h
 case h_2=>cases h
 rename_i d hx;split at h
 case h_2=>cases h
 rename_i hp;refine .ofV (.box ho (hs.fT hx S) (Hq hs hp)) (by simp) λa B' ⟨b,ha,aw⟩=> ?_;have hl:=Cq (hs.sq hx);refine aaZ hs (S':=S.gq nx b) h (.ptr _ _ (zC _)) (λc hc=>(hl c hc).mono (yd nx)) (.gq S nx b) ?_ ?_
 ·rw[ha,fM];simp[Gh.gq]
 ·rw[aw,mw,cW.aeJ hl (.gq S nx b)];simp[IR.res,Gh.gq]
def YF:AV->Bool
 | .lit v=>v.oneCell'
 | .sl _ _=>O
 |_=>G
def aaF:AV->Bool
 | .agg cs=>cs.all YF
 |d=>YF d
def O7{d:AV}(h:YF d=O)(S:Gh):d.sub S=d:=by
 cases d<;>first|(cases h;done)|simp only[b9.sub]
def OW{cs:aa AV}(h:cs.all YF=O)(S:Gh):cs.map (b9.sub S)=cs:=by
 have:cs.map (b9.sub S)=cs.map id:=zZ λc hc=>O7 (zx.1 h c hc) S;simp_all
def NC{d:AV}(h:aaF d=O)(S:Gh):d.sub S=d:=by
 by_cases ha:∃cs,d= .agg cs
 ·obtain⟨cs,rfl⟩:=ha;rw[fq,OW h]
 ·exact O7 (by cases d<;>first|exact h|(exact ep ⟨_,rfl⟩ ha)) S
def MK{d:AV}(h:YF d=O):iZ d=O:=by
 cases d<;>first|(cases h;done)|exact h|rfl
def Fq{d:AV}(h:aaF d=O):Gp d=O:=by
 by_cases ha:∃cs,d= .agg cs
 ·obtain⟨cs,rfl⟩:=ha;exact zx.2 λc hc=>MK (zx.1 h c hc)
 ·have:=MK (d:=d) (by cases d<;>first|exact h|(exact ep ⟨_,rfl⟩ ha));cases d<;>first|exact this|(exact ep ⟨_,rfl⟩ ha)
def R4(d:AV):af Bool:=match dZ d with
 |[.lit (.bool b)]=>V b
 |_=>I
def YX{d:AV}{b:Bool}(h:R4 d=V b):dZ d=[.lit (.bool b)]:=by
 unfold R4 at h;grind
def Ra(P:Program)(rd:Nat->af IR)(T:TypeId)(x y:af AV)(K:gA->af α):af α:=match y with
  |some d=>match (P.info? T).map (·.size)with
    |some n=>match ze (dZ d).length n&&Gw rd d with
      |true=>match x with
        |some (.ptr id off)=>match rd id with
          |some (.box T' cs)=>match yq (off+n) (zR cs) with
            |true=>K (.set id (.box T' (cs.take off++dZ d++cs.drop (off+n))))
            |false=>I
          |_=>I
        |some (.ra id t m off)=>match rd id with
          |some (.row t' l)=>match bif L.arr t'&&aaF d then R4 d else I with
           |some b=>if t=t'/\m<zR l/\off<U.sz t' then K (.set id (.row t' (l.set m (L.stB t' l[m]! off b))))else I
           |none=>match yq (off+n) (U.sz t')&&aaF d with
            |true=>if t=t'/\m<zR l then(L.parse t' ((U.cells t' l[m]!).take off++dZ d++(U.cells t' l[m]!).drop (off+n))).bind λq=>K (.set id (.row t' (l.set m q)))else I
            |false=>I
          |_=>I
        |_=>I
      |false=>I
    |none=>I
  |none=>I
def alY{T:TypeId}(hs:kI ev rd nx E R)(ho:o.op= .store T x y)(h:Ra P rd T (ev x) (ev y) K=V r):Zv P o E R nx K r:=λS C=>by
 unfold Ra at h;split at h
 case h_2=>cases h
 rename_i d hy;split at h
 case h_2=>cases h
 rename_i n hn;split at h
 case h_2=>cases h
 rename_i hdn;simp only[zi]at hdn;obtain⟨hlen,hp⟩:=hdn;have hlen:=gU hlen;split at h
 ·rename_i id off hx;split at h
  case h_2=>cases h
  rename_i T' cs hr;split at h
  case h_2=>cases h
  rename_i hle;have hle:=wh hle;have ex:=hs.fT hx S;rw[fM]at ex;obtain⟨i,hi1,hi2,_⟩:=eT (hs.r _ _ hr);have hres:=iD (S:=S) hi1;have hl:∀c∈cs.take off++dZ d++cs.drop (off+n),cW nx c:=uV (uV (p8 (hs.ajP hr) _) (Cq (hs.sq hy))) (nO (hs.ajP hr) _);refine .ofU (.arj (cs:=cs.map (b9.sub S)) i ho ex (hs.fT hy S) hres hn (Hq hs hp) (by rw[mw,zu,hlen]) (by rw[zu];exact hle)) (λb hb=> ?_) ⟨_,h,zm _,p7 (hs.r _ _ hr) hs.lr hl,λd' hd=>(by cases hd),S, .refl _ _,rfl,?_⟩
  ·rw[zo]at hb;exact bS.2 ⟨_,List.mem_of_getElem? hres,by rw[hb];rfl⟩
  ·show List.Perm _ (bt.res S (uv id _ R));rw[hi2,vF];simp only[IR.res,zM,xK,xA,mw];rfl
 ·rename_i id t m off hx;split at h
  case h_2=>cases h
  rename_i t' l hr;split at h
  ·rename_i b hbb;cases har:L.arr t'&&aaF d with
   |false=>rw[har]at hbb;cases hbb
   |true=>
    rw[har]at hbb;simp only[zi]at har;obtain⟨har,hap⟩:=har;have hab:=YX hbb;rw[hab]at hlen;have hn1:n=1:=by simpa using hlen.symm
    split at h
    case isFalse=>cases h
    rename_i hm;obtain⟨rfl,hm,hoff⟩:=hm;have ex:=hs.fT hx S;rw[jO]at ex;obtain⟨i,hi1,hi2,_⟩:=eT (hs.r _ _ hr);have hres:=iD (S:=S) hi1;have hds:=NC hap S;have hpl:Gp (d.sub S)=O:=by rw[hds];exact Fq hap
    refine .ofU (.aao (of:=off) i (L.stB t l[m]! off b) ho ex (hs.fT hy S) hres hn hpl (by rw[hds,hab,hn1];rfl) rfl hm aq (L.len _ _) (λA w us hr=> ?_)) (λb hb=> ?_) ⟨_,h,zm _,p7 (hs.r _ _ hr) hs.lr trivial,λd' hd=>(by cases hd),S, .refl _ _,rfl,?_⟩
    ·rw[hds,hab,hn1]at hr;rw[L.aiZ t har _ off b hoff];exact hr
    ·obtain⟨g,hg⟩:∃g,gH (S.v id)=V g:=by
      simp_all
     rw[hg]at hb;simp only[xN,zo]at hb;exact bS.2 ⟨_,List.mem_of_getElem? hres,by rw[hb];exact hg⟩
    ·show List.Perm _ (bt.res S (uv id _ R));rw[hi2,vF];rfl
  split at h
  case h_2=>cases h
  rename_i hle;simp only[zi]at hle;obtain⟨hle,hap⟩:=hle;have hle:=wh hle;split at h
  case isFalse=>cases h
  rename_i hm;obtain⟨rfl,hm⟩:=hm;obtain⟨q,hq,h⟩:=zn.1 h;have ex:=hs.fT hx S;rw[jO]at ex;obtain⟨i,hi1,hi2,_⟩:=eT (hs.r _ _ hr);have hres:=iD (S:=S) hi1;have hds:=NC hap S;have hpl:Gp (d.sub S)=O:=by rw[hds];exact Fq hap
  refine .ofU (.aao (of:=off) i q ho ex (hs.fT hy S) hres hn hpl (by rw[mw,zu,hlen]) rfl hm hle (L.len _ _) (λA w us hr=> ?_)) (λb hb=> ?_) ⟨_,h,zm _,p7 (hs.r _ _ hr) hs.lr trivial,λd' hd=>(by cases hd),S, .refl _ _,rfl,?_⟩
  ·refine L.l9 _ _ _ hq A w us ?_;rw[hds]at hr;exact hr
  ·obtain⟨g,hg⟩:∃g,gH (S.v id)=V g:=by
    simp_all
   rw[hg]at hb;simp only[xN,zo]at hb;exact bS.2 ⟨_,List.mem_of_getElem? hres,by rw[hb];exact hg⟩
  ·show List.Perm _ (bt.res S (uv id _ R));rw[hi2,vF];rfl
 ·cases h
def prs(t:Nat):Nat->aa AV->af (aa (U.dh t))
 |0,[]=>V []
 |0,_=>I
 |n+1,cs=>(L.parse t (cs.take (U.sz t))).bind λx=>(prs t n (cs.drop (U.sz t))).map λl=>x::l
def aeT{t:Nat}:∀{n:Nat} {cs:aa AV} {l:aa (U.dh t)},prs t n cs=V l->zR cs=n*U.sz t->zR l=n/\∀A w us,bO A w cs us->bO A w (l.flatMap (U.cells t)) us
 |0,[],l,h,_=>by
  cases h;simp
 |0,_::_,l,h,_=>by cases h
 |n+1,cs,l,h,hl=>by
  obtain⟨x,h1,h⟩:=zn.1 h;obtain⟨l',h2,rfl⟩:=zl.1 h;rw[yP]at hl;obtain⟨h3,h4⟩:=aeT h2 (by rw[zV];omega);refine⟨by simp[h3],λA w us hr=> ?_⟩;rw[yQ,<-xe (U.sz t) us];exact(L.l9 _ _ _ h1 A w _ (hr.take _)).app (h4 A w _ (hr.drop _))
def RC(P:Program)(ev:Operand->af AV)(rd:Nat->af IR)(nx:Nat)(T:TypeId)(n:Nat)(ps:aa (Nat×Operand))(K:gA->af α):af α:=match P.underlying T with
 |some (.slice e)=>match O5 P e (U.sz e)with
  |true=>match n with
   |0=>match ps with
    |[]=>K (.new (.own nx) (.row e []))
    |_=>I
   |n+1=>match evp ev ps,j7 P e with
    |some as0,V zs=>match ze (zR zs) (U.sz e)&&zB 0 (U.sz e)&&yq ((n+1)*U.sz e) 16777216 with
     |true=>(Am rd (λi=>V (i*U.sz e,U.sz e)) ((zj (n+1) zs).flatten.map .lit) as0).bind λcs=>match cs.all YF&&ze (zR cs) ((n+1)*U.sz e)with
      |true=>(prs e (n+1) cs).bind λl=>K (.new (.own nx) (.row e l))
      |false=>I
     |false=>I
    |_,_=>I
  |false=>I
 |_=>I
def Hp(hs:kI ev rd nx E R){t:Nat}{l:aa (U.dh t)}{S:Gh}{B':aa cn}{a:AV}(hK:K (.new (.own nx) (.row t l))=V r)(h:∃v,a= .lit v/\B'= .row v t l::bt.res S R):Nx R nx K r S (V a) B':=by
 obtain⟨v,ha,aw⟩:=h;refine aaZ hs (S':=S.gE nx v) hK (.own _ (zC _)) trivial (.gE S nx v) ?_ ?_
 ·rw[ha,dz];simp[Gh.gE]
 ·rw[aw];simp[IR.res,Gh.gE]
def amG{T:TypeId}{n:Nat}{ps:Array (Nat×Operand)}(hs:kI ev rd nx E R)(ho:o.op= .buildSlice T n ps)(h:RC P ev rd nx T n ps.toList K=V r):Zv P o E R nx K r:=λS C=>by
 unfold RC at h;split at h
 case h_2=>cases h
 rename_i e hT;split at h
 case h_2=>cases h
 rename_i hsz;have hsz:=sA hsz;split at h
 ·split at h
  case h_2=>cases h
  rename_i h0;have h0:ps=#[]:=by rw[<-Array.toList_eq_nil_iff];exact h0
  subst h0;exact .ofV (.aEC ho hT hsz) (by simp) λa B' hN=>Hp hs h hN
 ·rename_i n;split at h
  case h_2=>cases h
  rename_i as0 zs he hz;split at h
  case h_2=>cases h
  rename_i hc;simp only[zi]at hc;obtain⟨⟨hc1,hc2⟩,hc3⟩:=hc;have hc1:=gU hc1;have hc2:0<U.sz e:=by simpa using hc2
  have hc3:=wh hc3;obtain⟨cs,hf,h⟩:=zn.1 h;split at h
  case h_2=>cases h
  rename_i hd;simp only[zi]at hd;obtain⟨hd1,hd2⟩:=hd;have hd2:=gU hd2;obtain⟨l,hl,h⟩:=zn.1 h;obtain⟨hl1,hl2⟩:=aeT hl hd2;refine .ofV (.lit l ho hT hsz hz hc1 (λA w j hd ar=> ?_) hl1 (λi hi=>L.len _ _) (Nat.mul_pos (Nat.succ_pos _) hc2) hc3) (by simp) λa B' hN=>Hp hs h hN;obtain⟨us,h1,h2⟩:=B0 (init:=(zj (n+1) zs).flatten.toArray) hs hd (by rw[FZ];exact bO.lits _) (Lw hs ar he) hf;rw[OW hd1]at h2;exact⟨us,h1,hl2 _ _ _ h2⟩
def mkE(P:Program)(nx:Nat)(T:TypeId)(x y:af AV)(K:gA->af α):af α:=match P.underlying T,x,y with
 |some (.slice e),V (.lit (.int .i64 m)),V (.lit (.int .i64 n))=>match (P.info? e).map (λi=>(i.size,i.bytes)),j7 P e with
  |some (sz,by'),V zs=>match ze sz (U.sz e)&&yq by' 4096&&ze (zR zs) (U.sz e)&&zB 0 (U.sz e)with
   |true=>(L.parse e (zs.map .lit)).bind λd=>if 0<=m/\m<=n/\n<=1073741824 then K (.new (.own nx) (.row e (zj m.toNat d)))else I
   |false=>I
  |_,_=>I
 |_,_,_=>I
def auL{T:TypeId}(hs:kI ev rd nx E R)(ho:o.op= .makeSlice T x y)(h:mkE P nx T (ev x) (ev y) K=V r):Zv P o E R nx K r:=λS C=>by
 unfold mkE at h;split at h
 case h_2=>cases h
 rename_i e m n hT hx hy;split at h
 case h_2=>cases h
 rename_i sz by' zs hb hz;split at h
 case h_2=>cases h
 rename_i hc;simp only[zi]at hc;obtain⟨⟨⟨hc1,hc2⟩,hc3⟩,hc4⟩:=hc;have hc1:=gU hc1;have hc3:=gU hc3;have hc4:0<U.sz e:=by simpa using hc4
 subst hc1;obtain⟨d,hd,h⟩:=zn.1 h;split at h
 case isFalse=>cases h
 rename_i hm;have ex:=hs.fT hx S;have ey:=hs.fT hy S;rw[bW]at ex ey;exact .ofV (.make d ho ex ey hT hb hz hc2 hc3 (λA w=>L.l9 _ _ _ hd A w _ (bO.lits _)) hc4 hm) (by simp) λa B' hN=>Hp hs h hN
def emE(P:Program)(nx:Nat)(T:TypeId)(x:af AV)(K:gA->af α):af α:=match P.underlying T with
 |some (.slice e)=>match P.info? e with
  |some _=>match x with
   |some (.sl _ _)=>K (.new (.own nx) (.row e []))
   |some (.lit (.slice I 0 0))=>K (.new (.own nx) (.row e []))
   |_=>I
  |none=>I
 |_=>I
def at3{T:TypeId}{k k':IntKind}(hs:kI ev rd nx E R)(ho:o.op= .slice T x I (V (.const (.int k 0))) (V (.const (.int k' 0))))(h:emE P nx T (ev x) K=V r):Zv P o E R nx K r:=λS C=>by
 unfold emE at h;split at h
 case h_2=>cases h
 rename_i e hT;split at h
 case h_2=>cases h
 rename_i i hi;split at h
 ·rename_i t l hx;have ex:=hs.fT hx S;rw[gO]at ex;exact .ofV (.Vi ho (.inl ex) hT (by rw[hi];rfl)) (by simp) λa B' hN=>Hp hs h hN
 ·rename_i hx;have ex:=hs.fT hx S;rw[bW]at ex;exact .ofV (.Vi (q:=0) (l:=[]) ho (.inr ex) hT (by rw[hi];rfl)) (by simp) λa B' hN=>Hp hs h hN
 ·cases h
def aia(rd:Nat->af IR)(e:Nat)(x:af AV):af (aa (U.dh e)):=match x with
 |some (.lit (.slice _ 0 _))=>V []
 |some (.sl t l)=>vQ t e l
 |some (.own id)=>match rd id with
  |some (.row t l)=>vQ t e l
  |_=>I
 |_=>I
def K8{e:Nat}{l:aa (U.dh e)}(hs:kI ev rd nx E R)(h:aia rd e (ev x)=V l)(S:Gh):Src (bt.res S R) (E.sub S) x e l:=by
 unfold aia at h;split at h
 ·rename_i hx;cases h;have ex:=hs.fT hx S;rw[bW]at ex;exact .inl ⟨_,_,ex,rfl⟩
 ·rename_i t l' hx;obtain⟨rfl,rfl⟩:=nZ h;have ex:=hs.fT hx S;rw[gO]at ex;exact .inr (.inl ex)
 ·rename_i id hx;split at h
  case h_2=>cases h
  rename_i t l' hr;obtain⟨rfl,rfl⟩:=nZ h;have ex:=hs.fT hx S;rw[dz]at ex;obtain⟨i,hi⟩:=hs.row hr S;exact .inr (.inr ⟨i,_,ex,hi⟩)
 ·cases h
def Src.cons{P:Program}{B:aa cn}{E:Env}{rr:cn}{q:Nat}{l:aa (U.dh q)}(h:Src B E x q l):Src (rr::B) E x q l:=by
 rcases h with h|h|⟨i,v,h1,h2⟩
 ·exact .inl h
 ·exact .inr (.inl h)
 ·exact .inr (.inr ⟨i+1,v,h1,h2⟩)
def Yo(P:Program)(T:TypeId)(K:Nat->aa Value->af α):af α:=match P.underlying T with
 |some (.slice e)=>match (P.info? e).map (λi=>(i.size,i.bytes)),j7 P e with
  |some (sz,by'),V zs=>match ze sz (U.sz e)&&yq by' 4096&&ze (zR zs) (U.sz e)with
   |true=>K e zs
   |false=>I
  |_,_=>I
 |_=>I
def agp{T:TypeId}{K:Nat->aa Value->af α}(h:Yo P T K=V r):∃e zs by',K e zs=V r/\P.underlying T=V (.slice e)/\(P.info? e).map (λi=>(i.size,i.bytes))=V (U.sz e,by')/\j7 P e=V zs/\yq by' 4096=O/\zR zs=U.sz e:=by
 unfold Yo at h;split at h
 case h_2=>cases h
 rename_i e hT;split at h
 case h_2=>cases h
 rename_i sz by' zs hb hz;split at h
 case h_2=>cases h
 rename_i hc;simp only[zi]at hc;obtain⟨⟨hc1,hc2⟩,hc3⟩:=hc;have hc1:=gU hc1;subst hc1;exact⟨e,zs,by',h,hT,hb,hz,hc2,gU hc3⟩
def Rw(P:Program)(rd:Nat->af IR)(e:Nat)(zs:aa Value)(T':TypeId)(T:TypeId)(y:af AV)(K:aa (U.dh e)->af α):af α:=match ze T T' with
 |true=>(aia rd e y).bind K
 |false=>match P.underlying T',y with
  |some (.int _),V (.lit (.int .i64 m))=>match zB 0 (U.sz e)&&zs.all Value.oneCell' with
   |true=>(L.parse e (zs.map .lit)).bind λd=>if 0<=m then K (zj m.toNat d)else I
   |false=>I
  |_,_=>I
def X5(P:Program)(rd:Nat->af IR)(nx:Nat)(T T':TypeId)(x y:af AV)(K:gA->af α):af α:=Yo P T λe zs=>match x with
 |some (.lit (.slice I 0 0))=>Rw P rd e zs T' T y λl2=>if zR l2<=1073741824 then K (.new (.own nx) (.row e l2))else I
 |some (.own id)=>match rd id with
  |some (.row t l)=>(vQ t e l).bind λl=>Rw P rd e zs T' T y λl2=>if(l++l2).length<=1073741824 then K (.grow id (.row e (l++l2)))else I
  |_=>I
 |_=>I
def RQ(P:Program)(rd:Nat->af IR)(R:bt)(nx:Nat)(T:TypeId)(x y:af AV)(K:gA->af α):af α:=match P.underlying T with
 |some (.slice e)=>match O5 P e 1&&ze (U.sz e) 1 with
  |true=>match x with
   |some (.own id)=>match rd id with
    |some (.row t l)=>(vQ t e l).bind λl=>(aia rd e y).bind λl2=>if 0<zR l/\zR l2=zR l then K (.all (.i (zR l:Int)) (uv id (.row e l2) R) nx)else I
    |_=>I
   |_=>I
  |false=>I
 |_=>I
def akF{T T':TypeId}(hs:kI ev rd nx E R)(ho:o.op= .call {callee:= .builtin .copy,args:=#[x,y],argTypes:=#[T,T']})(h:RQ P rd R nx T (ev x) (ev y) K=V r):Zv P o E R nx K r:=λS C=>by
 unfold RQ at h;split at h
 case h_2=>cases h
 rename_i e hT;split at h
 case h_2=>cases h
 rename_i hc;rw[zi]at hc;split at h
 case h_2=>cases h
 rename_i id hx;split at h
 case h_2=>cases h
 rename_i t l hr;obtain⟨l',h1,h⟩:=zn.1 h;obtain⟨rfl,rfl⟩:=nZ h1;obtain⟨l2,h2,h⟩:=zn.1 h;split at h
 case isFalse=>cases h
 rename_i hl;have ex:=hs.fT hx S;rw[dz]at ex;obtain⟨i,hi1,hi2,_⟩:=eT (hs.r _ _ hr);have hres:=iD (S:=S) hi1;refine .ofV (.axR i ho ex hres (K8 hs h2 S) hT (sA hc.1) (gU hc.2) hl.2 hl.1 (L.one _)) (λb hb=> ?_) λa B' ⟨ha,aw⟩=>⟨_,h,zm _,p7 (hs.r _ _ hr) hs.lr trivial,λd' hd=>(by cases hd;exact .lit _),S, .refl _ _,by rw[ha];simp only[gA.vl,yH,b9.sub],?_⟩
 ·obtain⟨g,hg⟩:∃g,gH (S.v id)=V g:=by
   simp_all
  rw[hg]at hb;simp only[xN,zo]at hb;exact bS.2 ⟨_,List.mem_of_getElem? hres,by rw[hb];exact hg⟩
 ·show List.Perm _ (bt.res S (uv id _ R));rw[aw,hi2,vF];rfl
def set_perm{W:Type}{l:aa W}{i:Nat}{a b:W}(h:l[i]? =V b):List.Perm (l.set i a) (a::l.eraseIdx i):=by
 have hi:=(z7.1 h).1;rw[wP,wB,bJ hi];simp
def Ug{T T':TypeId}{e by':Nat}{zs:aa Value}{K':aa (U.dh e)->af α}{rs:aa cn}{S:Gh}{C:Cx}(hs:kI ev rd nx E R)(ho:o.op= .call {callee:= .builtin .append,args:=#[x,y],argTypes:=#[T,T']})(h:Rw P rd e zs T' T (ev y) K'=V r)
  (hT:P.underlying T=V (.slice e)) (hb:(P.info? e).map (λi=>(i.size,i.bytes))=V (U.sz e,by')) (hz:j7 P e=V zs) (hb4:yq by' 4096=O) (hzl:zR zs=U.sz e):
  ∃l2,K' l2=V r/\∀(B:aa cn) (v:Value) (i:Nat) (l:aa (U.dh e)),(B=bt.res S R\/∃rr,B=rr::bt.res S R)->(E.sub S).ev x=V (.lit v)->B[i]? =V (.row v e l)->zR (l++l2)<=1073741824->
   Yv P (E.sub S) B o C (xP (gH v)) (λa B'=>∃v',a= .lit v'/\B'=B.set i (.row v' e (l++l2))):=by
 unfold Rw at h;split at h
 ·rename_i hTT;have:=gU hTT;subst this;obtain⟨l2,h1,h⟩:=zn.1 h;refine⟨l2,h,λB v i l aw hx hi hlen=> ?_⟩;have hsrc:Src B (E.sub S) y e l2:=by
   rcases aw with rfl|⟨rr,rfl⟩
   ·exact K8 hs h1 S
   ·exact Src.cons (P:=P) (K8 hs h1 S)
  exact .app i ho hx hi hsrc hT hb hz hzl hb4 (L.one e) hlen
 ·split at h
  case h_2=>cases h
  rename_i kn m hT' hy;split at h
  case h_2=>cases h
  rename_i hc;simp only[zi]at hc;obtain⟨hc1,hc2⟩:=hc;obtain⟨d,hd,h⟩:=zn.1 h;split at h
  case isFalse=>cases h
  rename_i hm;refine⟨_,h,λB v i l aw hx hi hlen=> ?_⟩;have ey:=hs.fT hy S;rw[bW]at ey;exact .aEI i d ho hx hi ey hT hT' hb hz hzl (by simpa using hc1) hb4 (λA w=>L.l9 _ _ _ hd A w _ (bO.lits _)) hc2 ⟨hm,hlen⟩
def akz{T T':TypeId}(hs:kI ev rd nx E R)(ho:o.op= .call {callee:= .builtin .append,args:=#[x,y],argTypes:=#[T,T']})(h:X5 P rd nx T T' (ev x) (ev y) K=V r):Zv P o E R nx K r:=λS C=>by
 obtain⟨e,zs,by',h,hT,hb,hz,hb4,hzl⟩:=agp h;split at h
 ·rename_i hx;obtain⟨l2,h,hY⟩:=Ug (rs:=[]) (S:=S) (C:=C) hs ho h hT hb hz hb4 hzl;split at h
  case isFalse=>cases h
  rename_i hlen;have ex:=hs.fT hx S;rw[bW]at ex;intro w j hg ar;have ht:Tr C [] (bt.res S R) w (.row (.slice I 0 0) e []::bt.res S R) w:=QV I e hg;have hal:∀b,al C (bt.res S R) b->al C (.row (.slice I 0 0) e []::bt.res S R) b:=λb hA=>⟨hA.1,λhx=>hA.2 (by
   rw[fI]at hx;simpa [cn.blk,gH]using hx)⟩
  obtain⟨v,w',av,B',⟨v',ha,aw⟩,h2,h3,h4⟩:=hY _ (.slice I 0 0) 0 [] (.inr ⟨_,rfl⟩) ex rfl (by simpa using hlen) w j ht.good (λu d hu=>(ar u d hu).mono λb _ hA=>⟨hal b hA,rfl⟩);refine .inl ⟨v,w',av,B',Hp hs h ⟨v',ha,by rw[aw];rfl⟩,⟨h2.good,⟨h2.kp.os,h2.kp.tape,h2.kp.output,h2.kp.drawn,h2.kp.size,λk hk _=>h2.kp.block k hk (by simp[gH])⟩,λb hb hA=>⟨(h2.al b hb (hal b hA)).1,hA.2⟩⟩,h3,h4⟩
 ·rename_i id hx;split at h
  case h_2=>cases h
  rename_i t l0 hr;obtain⟨l,hl,h⟩:=zn.1 h;obtain⟨rfl,rfl⟩:=nZ hl;obtain⟨l2,h,hY⟩:=Ug (rs:=[]) (S:=S) (C:=C) hs ho h hT hb hz hb4 hzl;split at h
  case isFalse=>cases h
  rename_i hlen;have ex:=hs.fT hx S;rw[dz]at ex;obtain⟨i,hi1,_,hi3⟩:=eT (hs.r _ _ hr);have hres:=iD (S:=S) hi1;refine .ofV (hY _ _ i _ (.inl rfl) ex hres hlen) (λb hb=> ?_) λa B' ⟨v',ha,aw⟩=> ?_
  ·obtain⟨g,hg⟩:∃g,gH (S.v id)=V g:=by
    simp_all
   rw[hg]at hb;simp only[xN,zo]at hb;exact bS.2 ⟨_,List.mem_of_getElem? hres,by rw[hb];exact hg⟩
  ·have hdl:=FP (id:=id) hs.lr;refine⟨_,h,yd nx,λp hp=> ?_,λd' hd=>by cases hd;exact .own _ (zC _),S.gE nx v', .gE S nx v',?_,?_⟩
   ·rcases zy.1 hp with rfl|hp
    ·exact⟨zC _,trivial⟩
    ·exact(hdl.mono (yd nx)) p hp
   ·rw[ha];simp[gA.vl,dz,Gh.gE]
   ·rw[aw];show List.Perm _ (bt.res _ ((nx,_)::lz id R));have e1:bt.res (S.gE nx v') ((nx,IR.row t (l0++l2))::lz id R)=cn.row v' t (l0++l2)::(bt.res S R).eraseIdx i:=by
     show _::bt.res _ (lz id R)=_;rw[<-hdl.res (.gE S nx v'),hi3,Cb];simp[IR.res,Gh.gE]
    rw[e1];exact set_perm hres
 ·cases h
def mnV(mx:Bool)(xs:aa (af AV))(K:AV->af α):af α:=match xs with
 |[V (.lit (.int k m)),V (.lit (.int k' n))]=>if k=k' then(match mx with
  |true=>K (.n k (if m<n then n else m))
  |false=>K (.n k (if n<m then n else m)))else I
 |_=>I
abbrev bq:=(α:Type)->FuncId->aa AV->bt->Nat->(AV->bt->Nat->af α)->af α
def iN(P:Program)(F:bq):Prop:=∀(α:Type) f args R nx (k:AV->bt->Nat->af α) r,F α f args R nx k=V r->(∀d∈args,cW nx d)->bt.cW nx R->tO P f/\
 ∀S,Fn P f (args.map (b9.sub S)) (bt.res S R) λa s=>∃d R' nx',k d R' nx'=V r/\nx<=nx'/\cW nx' d/\bt.cW nx' R'/\∃S',pU nx S S'/\a=d.sub S'/\List.Perm s (bt.res S' R')
def TA(F:bq)(ev:Operand->af AV)(R:bt)(nx:Nat)(x:af AV)(xs:aa Operand)(K:gA->af α):af α:=match x with
 |some (.fn (.func f) caps)=>(Ot ev xs).bind λas0=>F α f (as0++caps) R nx λd R' nx'=>K (.all d R' nx')
 |_=>I
def amu{F:bq}{xs:Array Operand}{ts:Array TypeId}(hF:iN P F)(hs:kI ev rd nx E R)(ho:o.op= .call {callee:= .value x,args:=xs,argTypes:=ts})(h:TA F ev R nx (ev x) xs.toList K=V r):Zv P o E R nx K r:=λS C=>by
 unfold TA at h;split at h
 case h_2=>cases h
 rename_i f caps hx;obtain⟨as0,ha,h⟩:=zn.1 h;have ex:=hs.fT hx S;rw[tZ]at ex;obtain⟨hf,hfn⟩:=hF _ _ _ _ _ _ _ h (uV (Ja hs ha) (hs.sq hx).fnL) hs.lr;refine .ofC (.fn (σr:=[]) ho ex hf (KX hs S ha) (by rw[zM]) (yy _).symm (hfn S)) (λb hb=>hb) λa B' ⟨σo,hN,aw⟩=> ?_;obtain⟨d,R',nx',h1,h2,h3,h4,S',h5,h6,h7⟩:=hN;rw[yy]at aw;exact⟨.all d R' nx',h1,h2,h4,λd' hd=>by cases hd;exact h3,S',h5,by rw[h6];rfl,by rw[aw];exact h7⟩
end
def dP{α:Type}(K:gA->af α)(d:AV):af α:=K (.val d)
def JG{α:Type}(P:Program)(F:bq)(ev:Operand->af AV)(rd:Nat->af IR)(R:bt)(nx:Nat)(o:Op)(K:gA->af α):af α:=match o with
 | .move x=>(ev x).bind (dP K)
 | .assign x=>(ev x).bind (dP K)
 | .pick c a b=>match ev c with
  |some (.lit (.bool O))=>(ev a).bind (dP K)
  |some (.lit (.bool G))=>(ev b).bind (dP K)
  |_=>I
 | .binOp b T x y _=>OF P rd b T (ev x) (ev y) (dP K)
 | .unOp b _ x=>unV b (ev x) (dP K)
 | .convert T T' x=>TI P rd T T' (ev x) (dP K)
 | .nilCheck x=>Qo (ev x) (dP K)
 | .fieldAddr T x i=>Rg P T i (ev x) (dP K)
 | .indexAddr T x y=>Ty P rd T (ev x) (ev y) (dP K)
 | .index T x y=>Qz P T (ev x) (ev y) (dP K)
 | .load T x=>ldV P rd T (ev x) (dP K)
 | .store T x y=>Ra P rd T (ev x) (ev y) K
 | .makeFunc f fs cs=>Q5 ev f fs.toList cs.toList (dP K)
 | .extract x i=>Ta i (ev x) (dP K)
 | .build T ps=>Qh P ev rd T ps.toList (dP K)
 | .buildSlice T n ps=>RC P ev rd nx T n ps.toList K
 | .makeSlice T x y=>mkE P nx T (ev x) (ev y) K
 | .alloc T=>XA P nx T K
 | .box T x=>Sz rd nx T (ev x) K
 | .slice T x lo hi mx=>match mx with
  |none=>Tt P T (ev x) (lo.map ev) (hi.map ev) (dP K)
  |some (.const (.int _ 0))=>match lo,hi with
   |none,V (.const (.int _ 0))=>emE P nx T (ev x) K
   |_,_=>I
  |_=>I
 | .call {callee:= .builtin .len,args:=as0,argTypes:=ts}=>match as0.toList,ts.toList with
  |[x],[T]=>Qx P rd T (ev x) (dP K)
  |_,_=>I
 | .call {callee:= .builtin .max,args:=as0,argTypes:=ts}=>match as0.toList,ts.toList with
  |[x,y],[_,_]=>mnV O [ev x,ev y] (dP K)
  |_,_=>I
 | .call {callee:= .builtin .min,args:=as0,argTypes:=ts}=>match as0.toList,ts.toList with
  |[x,y],[_,_]=>mnV G [ev x,ev y] (dP K)
  |_,_=>I
 | .call {callee:= .builtin .append,args:=as0,argTypes:=ts}=>match as0.toList,ts.toList with
  |[x,y],[T,T']=>X5 P rd nx T T' (ev x) (ev y) K
  |_,_=>I
 | .call {callee:= .builtin .copy,args:=as0,argTypes:=ts}=>match as0.toList,ts.toList with
  |[x,y],[T,_]=>RQ P rd R nx T (ev x) (ev y) K
  |_,_=>I
 | .call {callee:= .value x,args:=as0,argTypes:=_}=>TA F ev R nx (ev x) as0.toList K
 |_=>I
section
variable {α:Type}
def Uy(x:Operand)(_:Program)(_:bq)(ev:Operand->af AV)(_:Nat->af IR)(_:bt)(_:Nat)(K:gA->af α):af α:=(ev x).bind (dP K)
def Ao(c a b:Operand)(_:Program)(_:bq)(ev:Operand->af AV)(_:Nat->af IR)(_:bt)(_:Nat)(K:gA->af α):af α:=match ev c with
 |some (.lit (.bool O))=>(ev a).bind (dP K)
 |some (.lit (.bool G))=>(ev b).bind (dP K)
 |_=>I
def aod(b:BinOp)(T:TypeId)(x y:Operand)(P:Program)(_:bq)(ev:Operand->af AV)(rd:Nat->af IR)(_:bt)(_:Nat)(K:gA->af α):af α:=OF P rd b T (ev x) (ev y) (dP K)
def aAa(b:UnOp)(x:Operand)(_:Program)(_:bq)(ev:Operand->af AV)(_:Nat->af IR)(_:bt)(_:Nat)(K:gA->af α):af α:=unV b (ev x) (dP K)
def aot(T T':TypeId)(x:Operand)(P:Program)(_:bq)(ev:Operand->af AV)(rd:Nat->af IR)(_:bt)(_:Nat)(K:gA->af α):af α:=TI P rd T T' (ev x) (dP K)
def ap9(x:Operand)(_:Program)(_:bq)(ev:Operand->af AV)(_:Nat->af IR)(_:bt)(_:Nat)(K:gA->af α):af α:=Qo (ev x) (dP K)
def aoX(T:TypeId)(x:Operand)(i:Nat)(P:Program)(_:bq)(ev:Operand->af AV)(_:Nat->af IR)(_:bt)(_:Nat)(K:gA->af α):af α:=Rg P T i (ev x) (dP K)
def aoR(T:TypeId)(x y:Operand)(P:Program)(_:bq)(ev:Operand->af AV)(rd:Nat->af IR)(_:bt)(_:Nat)(K:gA->af α):af α:=Ty P rd T (ev x) (ev y) (dP K)
def anT(T:TypeId)(x y:Operand)(P:Program)(_:bq)(ev:Operand->af AV)(_:Nat->af IR)(_:bt)(_:Nat)(K:gA->af α):af α:=Qz P T (ev x) (ev y) (dP K)
def aC2(T:TypeId)(x:Operand)(P:Program)(_:bq)(ev:Operand->af AV)(rd:Nat->af IR)(_:bt)(_:Nat)(K:gA->af α):af α:=ldV P rd T (ev x) (dP K)
def apI(T:TypeId)(x y:Operand)(P:Program)(_:bq)(ev:Operand->af AV)(rd:Nat->af IR)(_:bt)(_:Nat)(K:gA->af α):af α:=Ra P rd T (ev x) (ev y) K
def apw(f:Go.Fn)(fs cs:Array Operand)(_:Program)(_:bq)(ev:Operand->af AV)(_:Nat->af IR)(_:bt)(_:Nat)(K:gA->af α):af α:=Q5 ev f fs.toList cs.toList (dP K)
def apm(x:Operand)(i:Nat)(_:Program)(_:bq)(ev:Operand->af AV)(_:Nat->af IR)(_:bt)(_:Nat)(K:gA->af α):af α:=Ta i (ev x) (dP K)
def apv(T:TypeId)(ps:Array (Nat×Operand))(P:Program)(_:bq)(ev:Operand->af AV)(rd:Nat->af IR)(_:bt)(_:Nat)(K:gA->af α):af α:=Qh P ev rd T ps.toList (dP K)
def apf(T:TypeId)(n:Nat)(ps:Array (Nat×Operand))(P:Program)(_:bq)(ev:Operand->af AV)(rd:Nat->af IR)(_:bt)(nx:Nat)(K:gA->af α):af α:=RC P ev rd nx T n ps.toList K
def azs(T:TypeId)(x y:Operand)(P:Program)(_:bq)(ev:Operand->af AV)(_:Nat->af IR)(_:bt)(nx:Nat)(K:gA->af α):af α:=mkE P nx T (ev x) (ev y) K
def apY(T:TypeId)(P:Program)(_:bq)(_:Operand->af AV)(_:Nat->af IR)(_:bt)(nx:Nat)(K:gA->af α):af α:=XA P nx T K
def apy(T:TypeId)(x:Operand)(_:Program)(_:bq)(ev:Operand->af AV)(rd:Nat->af IR)(_:bt)(nx:Nat)(K:gA->af α):af α:=Sz rd nx T (ev x) K
def M7(T:TypeId)(x:Operand)(lo hi mx:af Operand)(P:Program)(_:bq)(ev:Operand->af AV)(_:Nat->af IR)(_:bt)(nx:Nat)(K:gA->af α):af α:=match mx with
 |none=>Tt P T (ev x) (lo.map ev) (hi.map ev) (dP K)
 |some (.const (.int _ 0))=>match lo,hi with
  |none,V (.const (.int _ 0))=>emE P nx T (ev x) K
  |_,_=>I
 |_=>I
def FW(b:Builtin)(as0:Array Operand)(ts:Array TypeId)(P:Program)(ev:Operand->af AV)(rd:Nat->af IR)(R:bt)(nx:Nat)(K:gA->af α):af α:=match b with
 | .len=>match as0.toList,ts.toList with
  |[x],[T]=>Qx P rd T (ev x) (dP K)
  |_,_=>I
 | .max=>match as0.toList,ts.toList with
  |[x,y],[_,_]=>mnV O [ev x,ev y] (dP K)
  |_,_=>I
 | .min=>match as0.toList,ts.toList with
  |[x,y],[_,_]=>mnV G [ev x,ev y] (dP K)
  |_,_=>I
 | .append=>match as0.toList,ts.toList with
  |[x,y],[T,T']=>X5 P rd nx T T' (ev x) (ev y) K
  |_,_=>I
 | .copy=>match as0.toList,ts.toList with
  |[x,y],[T,_]=>RQ P rd R nx T (ev x) (ev y) K
  |_,_=>I
 |_=>I
def Gv(c:Call)(P:Program)(F:bq)(ev:Operand->af AV)(rd:Nat->af IR)(R:bt)(nx:Nat)(K:gA->af α):af α:=match c.callee with
 | .value x=>TA F ev R nx (ev x) c.args.toList K
 | .builtin b=>FW b c.args c.argTypes P ev rd R nx K
 |_=>I
def aBE(_:Program)(_:bq)(_:Operand->af AV)(_:Nat->af IR)(_:bt)(_:Nat)(_:gA->af α):af α:=I
def pJ(o:Op):Program->bq->(Operand->af AV)->(Nat->af IR)->bt->Nat->(gA->af α)->af α:=match o with
 | .move x=>Uy x
 | .assign x=>Uy x
 | .pick c a b=>Ao c a b
 | .binOp b T x y _=>aod b T x y
 | .unOp b _ x=>aAa b x
 | .convert T T' x=>aot T T' x
 | .nilCheck x=>ap9 x
 | .fieldAddr T x i=>aoX T x i
 | .indexAddr T x y=>aoR T x y
 | .index T x y=>anT T x y
 | .load T x=>aC2 T x
 | .store T x y=>apI T x y
 | .makeFunc f fs cs=>apw f fs cs
 | .extract x i=>apm x i
 | .build T ps=>apv T ps
 | .buildSlice T n ps=>apf T n ps
 | .makeSlice T x y=>azs T x y
 | .alloc T=>apY T
 | .box T x=>apy T x
 | .slice T x lo hi mx=>M7 T x lo hi mx
 | .call c=>Gv c
 |_=>aBE
def NJ(P:Program)(F:bq)(ev:Operand->af AV)(rd:Nat->af IR)(R:bt)(nx:Nat)(o:Op)(K:gA->af α):pJ o P F ev rd R nx K=JG P F ev rd R nx o K:=by
 cases o<;>first|rfl|skip
 case call c=>
  obtain⟨cal,as0,ts⟩:=c;cases cal with
  |builtin b=>cases b<;>rfl
  |_=>rfl
end
section
variable {α:Type} {r:α} {P:Program} {F:bq} {o:Oper} {E:Env} {R:bt} {nx:Nat} {ev:Operand->af AV} {rd:Nat->af IR} {K:gA->af α} {C:Cx} {n:Nat}
def aDt{W:Type}{a:Array W}{x:W}(h:a.toList=[x]):a=#[x]:=by rw[<-Array.toArray_toList (xs:=a),h]
def NM{W:Type}{a:Array W}{x y:W}(h:a.toList=[x,y]):a=#[x,y]:=by rw[<-Array.toArray_toList (xs:=a),h]
def Hs(hF:iN P F)(hs:kI ev rd nx E R){op:Op}(ho:o.op=op)(h:JG P F ev rd R nx op K=V r):Zv P o E R nx K r:=by
 unfold JG at h;split at h
 ·obtain⟨d,hd,h⟩:=zn.1 h;exact .pu hs ⟨d,h,hs.sq hd,λS=> .move ho (hs.fT hd S)⟩
 ·obtain⟨d,hd,h⟩:=zn.1 h;exact .pu hs ⟨d,h,hs.sq hd,λS=> .assign ho (hs.fT hd S)⟩
 ·split at h
  ·rename_i hc;obtain⟨d,hd,h⟩:=zn.1 h;exact .pu hs ⟨d,h,hs.sq hd,λS=> .ayc ho (by have:=hs.fT hc S;rw[bW]at this;exact this) (hs.fT hd S)⟩
  ·rename_i hc;obtain⟨d,hd,h⟩:=zn.1 h;exact .pu hs ⟨d,h,hs.sq hd,λS=> .aAg ho (by have:=hs.fT hc S;rw[bW]at this;exact this) (hs.fT hd S)⟩
  ·cases h
 ·exact .pu hs (ajz hs ho h)
 ·exact .pu hs (aqc hs ho h)
 ·exact .pu hs (alb hs ho h)
 ·exact .pu hs (alQ hs ho h)
 ·exact .pu hs (amz hs ho h)
 ·exact .pu hs (ajf hs ho h)
 ·exact .pu hs (ag4 hs ho h)
 ·exact .pu hs (aqg hs ho h)
 ·exact alY hs ho h
 ·exact .pu hs (ahq hs ho h)
 ·exact .pu hs (aid hs ho h)
 ·exact .pu hs (ahI hs ho h)
 ·exact amG hs ho h
 ·exact auL hs ho h
 ·exact af8 hs ho h
 ·exact akm hs ho h
 ·split at h
  ·exact .pu hs (ak3 hs ho h)
  ·split at h
   ·exact at3 hs ho h
   ·cases h
  ·cases h
 ·split at h
  ·rename_i h1 h2;rw[aDt h1,aDt h2]at ho;exact .pu hs (ak2 hs ho h)
  ·cases h
 ·split at h
  ·rename_i h1 h2;rw[NM h1,NM h2]at ho;unfold mnV at h;split at h
   ·rename_i q1;split at h
    ·rename_i hk;subst hk;simp only[List.cons.injEq,and_true]at q1;obtain⟨q1,q2⟩:=q1;exact .pu hs ⟨_,h, .lit λS=> .max ho (by have:=hs.fT q1 S;rw[bW]at this;exact this) (by have:=hs.fT q2 S;rw[bW]at this;exact this)⟩
    ·cases h
   ·cases h
  ·cases h
 ·split at h
  ·rename_i h1 h2;rw[NM h1,NM h2]at ho;unfold mnV at h;split at h
   ·rename_i q1;split at h
    ·rename_i hk;subst hk;simp only[List.cons.injEq,and_true]at q1;obtain⟨q1,q2⟩:=q1;exact .pu hs ⟨_,h, .lit λS=> .min ho (by have:=hs.fT q1 S;rw[bW]at this;exact this) (by have:=hs.fT q2 S;rw[bW]at this;exact this)⟩
    ·cases h
   ·cases h
  ·cases h
 ·split at h
  ·rename_i h1 h2;rw[NM h1,NM h2]at ho;exact akz hs ho h
  ·cases h
 ·split at h
  ·rename_i h1 h2;rw[NM h1,NM h2]at ho;exact akF hs ho h
  ·cases h
 ·exact amu hF hs ho h
 ·cases h
def St.app(s:St)(dst:af Nat)(e:gA):St:=
 {E:=match dst with
   |none=>s.E
   |some t=>match e.vl s.nx with
    |some d=>nj t d s.E
    |none=>nj t (.lit undef) s.E
  R:=e.R s.R s.nx
  nx:=e.nx s.nx}
def MU(n:Nat):af Nat->Bool
 |none=>O
 |some t=>zB t n
def kI.of{s:St}(hh:uB s.E E)(hE:E.cW s.nx)(hR:bt.cW s.nx s.R):kI (IQ s.E) (gJ s.R) s.nx E s.R:=⟨λx d h=>hh.ev x d h,λ_ _ h=>h,hE,hR⟩
def aud{C:Cg}{s:St}{a:Act}{w:World}{ae:Exit->Act->World->Prop}(hm:Mt C n s a w)(hd:MU n o.dst=O)(h:∀E,kI (IQ s.E) (gJ s.R) s.nx E s.R->Zv P o E s.R s.nx K r){K':Act->World->Prop}
  (hK:∀a' w' e,a'.defers=a.defers->K e=V r->s.nx<=e.nx s.nx->Mt C n (s.app o.dst e) a' w'->K' a' w'):o.wp P a w K' ae:=by
 obtain⟨E,hh,hE,hR,S,hag,hsim⟩:=hm;have h:=h E (kI.of hh hE hR);unfold Oper.wp;have fin:∀(e:gA) (S':Gh) (B':aa cn) (w':World) (v:Value),s.nx<=e.nx s.nx->bt.cW (e.nx s.nx) (e.R s.R s.nx)->(∀d,e.vl s.nx=V d->cW (e.nx s.nx) d)->pU s.nx S S'->List.Perm B' (bt.res S' (e.R s.R s.nx))->
   Tr C.C (bC (bt.res S s.R)) (bt.res S s.R) w B' w'->(∀d,e.vl s.nx=V d->Rel (al C.C B') w' (d.sub S') v)->(e.vl s.nx=I->v=undef)->Mt C n (s.app o.dst e) (a.put o.dst v) w':=λe S' B' w' v h1 h2 h3 h4 h5 h6 h7 h8=>by
  have hs1:=(hsim.tr h6).perm h5;rw[hE.sub h4]at hs1;have hE':E.cW (e.nx s.nx):=hE.mono h1;have hag':pU C.n C.S S'/\C.n<=e.nx s.nx:=⟨hag.1.trans h4 hag.2,zG hag.2 h1⟩;have hput:∀(t:Nat) (d:AV),o.dst=V t->cW (e.nx s.nx) d->Rel (al C.C (bt.res S' (e.R s.R s.nx))) w' (d.sub S') v->Mt C n {E:=nj t d s.E,R:=e.R s.R s.nx,nx:=e.nx s.nx} (a.put (V t) v) w':=λt d ht hd' hr=>
   ⟨(t,d)::E,hh.put t d,Env.u5 hE' hd',h2,S',hag',hs1.put (by rw[ht]at hd;exact hd) hr⟩
  have hsub:∀d,e.vl s.nx=V d->Rel (al C.C (bt.res S' (e.R s.R s.nx))) w' (d.sub S') v:=λd hd'=>(h7 d hd').mono λb _ hA=>⟨V4 h5 b hA,rfl⟩;unfold St.app;cases hdst:o.dst with
  |none=>exact⟨E,hh,hE',h2,S',hag',hs1⟩
  |some t=>
   cases hv:e.vl s.nx with
   |some d=>exact hput t d hdst (h3 d hv) (hsub d hv)
   |none=>
    refine hput t (.lit undef) hdst (.lit _) ?_;rw[h8 hv,bW];exact .lit _
 rcases h S C.C w a.eval hsim.good hsim.slots.ops with ⟨v,w',av,B',⟨e,q1,q2,q3,q4,S',q5,q6,q7⟩,h2,h3,h4⟩|⟨w',B',⟨e,q1,q2,q3,q4,S',q5,q6,q7⟩,h2,h3⟩|⟨f,args,h1,h2⟩
 ·rw[h3];refine hK _ _ e (by cases o.dst<;>rfl) q1 q2 (fin e S' B' w' v q2 q3 q4 q5 q7 h2 (λd hd'=> ?_) (λhn=> ?_))
  ·simp_all
  ·simp_all
 ·rw[h3];refine hK _ _ e (by cases o.dst<;>rfl) q1 q2 (fin e S' B' w' undef q2 q3 q4 q5 q7 h2 (λd hd'=> ?_) (λhn=>rfl));rw[hd']at q6;cases q6
 ·rw[h1];refine Calls.mono h2 λee w' ⟨v,av,B',q0,⟨e,q1,q2,q3,q4,S',q5,q6,q7⟩,h2,h4⟩=> ?_;subst q0;refine hK _ _ e (by cases o.dst<;>rfl) q1 q2 (fin e S' B' w' v q2 q3 q4 q5 q7 h2 (λd hd'=> ?_) (λhn=> ?_))
  ·simp_all
  ·rw[hn]at q6;cases q6
end
def Zh(id t:Nat)(l:aa (U.dh t)):AV->AV
 | .own i=>match ze i id with
  |true=> .sl t l
  |false=> .own i
 |d=>d
def oN(id t:Nat)(l:aa (U.dh t)):Nat->AV->AV
 |0,d=>d
 |n+1, .agg cs=> .agg (cs.map (oN id t l n))
 |n+1, .jf cs=> .jf (cs.map (oN id t l n))
 |n+1, .fn f cs=> .fn f (cs.map (oN id t l n))
 |_+1,d=>Zh id t l d
def Ah(id t:Nat)(l:aa (U.dh t)):IR->IR
 | .box T cs=> .box T (cs.map (oN id t l 3))
 |r=>r
def St.Mp(s:St)(id:Nat):St:=match gJ s.R id with
 |some (.row t l)=>{E:=emap (oN id t l 3) s.E,R:=(lz id s.R).map λp=>(p.1,Ah id t l p.2),nx:=s.nx}
 |_=>s
def abZ{A:Nat->Prop}{w:World}{id t:Nat}{l:aa (U.dh t)}{S:Gh}(hd:Hd A [.row (S.v id) t l] w){d:AV}{v:Value}(h:Rel A w (d.sub S) v):Rel (λb=>A b\/b∈bC [.row (S.v id) t l]) w ((Zh id t l d).sub S) v:=by
 unfold Zh;split
 ·rename_i i;split
  ·rename_i hi;have:=gU hi;subst this;rw[dz]at h;rw[gO];exact Vw.row 0 rfl A w v hd h
  ·exact h.mono λb _ hA=>⟨.inl hA,rfl⟩
 ·exact h.mono λb _ hA=>⟨.inl hA,rfl⟩
def DT{A:Nat->Prop}{w:World}{id t:Nat}{l:aa (U.dh t)}{S:Gh}(hd:Hd A [.row (S.v id) t l] w):∀(n:Nat) {d:AV} {v:Value},Rel A w (d.sub S) v->Rel (λb=>A b\/b∈bC [.row (S.v id) t l]) w ((oN id t l n d).sub S) v
 |0,d,v,h=>h.mono λb _ hA=>⟨.inl hA,rfl⟩
 |n+1,d,v,h=>by
  have hL:∀{cs:aa AV} {us:aa Value},bO A w (cs.map (b9.sub S)) us->bO (λb=>A b\/b∈bC [.row (S.v id) t l]) w ((cs.map (oN id t l n)).map (b9.sub S)) us:=λ{cs us} h=>by
   refine⟨by simpa using h.1,λj a v h1 h2=> ?_⟩;rw[yw,ye]at h1;obtain⟨c,hc,rfl⟩:=zl.1 h1;exact DT hd n (h.2 j _ v (by rw[ye,hc];rfl) h2)
  unfold oN;split
  ·omega
  ·rename_i cs h0;cases h0;rw[fq]at h ⊢;obtain⟨us,rfl,h2⟩:=h.oI;exact Rel.pS (hL h2)
  ·rename_i cs h0;cases h0;rw[lB]at h ⊢;obtain⟨us,rfl,h2⟩:=h.T9;exact Rel.G2 (hL h2)
  ·rename_i f cs h0;cases h0;rw[tZ]at h ⊢;obtain⟨us,rfl,h2⟩:=h.abD;exact .fn f _ us (hL h2).1 (hL h2).2
  ·rename_i h0 _ _ _;exact abZ hd h
end Go.Iv
end
noncomputable section
namespace Go.Iv
variable [U:tf] [L:nu]
open Go Go.RowKit
section
variable {α W:Type} (D:α->af W)
def aap{b:BinOp}{k:IntKind}{m n:Int}{K:AV->af α}:(aeo b k m n K).bind D=aeo b k m n (λd=>(K d).bind D):=by
 unfold aeo;cases b<;>first|rfl|(dsimp only;split<;>rfl)
def agr{P:Program}{b:BinOp}{T:TypeId}{cs ds:aa AV}{K:AV->af α}:(eqS P b T cs ds K).bind D=eqS P b T cs ds (λd=>(K d).bind D):=by
 unfold eqS;split
 ·split
  ·cases b<;>first|rfl|exact z6 ..
  ·rfl
 ·rfl
def NH{P:Program}{rd:Nat->af IR}{b:BinOp}{T:TypeId}{x y:af AV}{K:AV->af α}:(OF P rd b T x y K).bind D=OF P rd b T x y (λd=>(K d).bind D):=by
 unfold OF
 repeat' split
 all_goals first|rfl|exact aap D|exact agr D|simp_all
def UL{b:UnOp}{x:af AV}{K:AV->af α}:(unV b x K).bind D=unV b x (λd=>(K d).bind D):=by
 unfold unV
 repeat' split
 all_goals first|rfl|simp_all
def Ns{x:af AV}{K:AV->af α}:(Qo x K).bind D=Qo x (λd=>(K d).bind D):=by
 unfold Qo
 repeat' split
 all_goals first|rfl|simp_all
def MW{P:Program}{T:TypeId}{i:Nat}{x:af AV}{K:AV->af α}:(Rg P T i x K).bind D=Rg P T i x (λd=>(K d).bind D):=by
 unfold Rg
 repeat' split
 all_goals first|rfl|simp_all
def Oh{P:Program}{rd:Nat->af IR}{T:TypeId}{x y:af AV}{K:AV->af α}:(Ty P rd T x y K).bind D=Ty P rd T x y (λd=>(K d).bind D):=by
 unfold Ty
 repeat' split
 all_goals first|rfl|simp_all
def UG{P:Program}{rd:Nat->af IR}{T:TypeId}{x:af AV}{K:AV->af α}:(ldV P rd T x K).bind D=ldV P rd T x (λd=>(K d).bind D):=by
 unfold ldV
 repeat' split
 all_goals first|rfl|exact z6 .. |simp_all
def adS{P:Program}{ev:Operand->af AV}{rd:Nat->af IR}{T:TypeId}{ps:aa (Nat×Operand)}{K:AV->af α}:(Qh P ev rd T ps K).bind D=Qh P ev rd T ps (λd=>(K d).bind D):=by
 unfold Qh
 repeat' split
 all_goals first|rfl|exact z6 .. |simp_all
def Np{P:Program}{rd:Nat->af IR}{T T':TypeId}{x:af AV}{K:AV->af α}:(TI P rd T T' x K).bind D=TI P rd T T' x (λd=>(K d).bind D):=by
 unfold TI
 repeat' split
 all_goals first|rfl|exact z6 .. |simp_all
def OP{i:Nat}{x:af AV}{K:AV->af α}:(Ta i x K).bind D=Ta i x (λd=>(K d).bind D):=by
 unfold Ta
 repeat' split
 all_goals first|rfl|exact z6 .. |simp_all
def acS{ev:Operand->af AV}{f:Go.Fn}{fs cs:aa Operand}{K:AV->af α}:(Q5 ev f fs cs K).bind D=Q5 ev f fs cs (λd=>(K d).bind D):=by
 unfold Q5
 repeat' split
 all_goals first|rfl|exact z6 .. |simp_all
def NL{P:Program}{T:TypeId}{x y:af AV}{K:AV->af α}:(Qz P T x y K).bind D=Qz P T x y (λd=>(K d).bind D):=by
 unfold Qz
 repeat' split
 all_goals first|rfl|exact z6 .. |simp_all
def aas{P:Program}{T:TypeId}{x:af AV}{lo hi:af (af AV)}{K:AV->af α}:(Tt P T x lo hi K).bind D=Tt P T x lo hi (λd=>(K d).bind D):=by
 unfold Tt
 repeat' split
 all_goals first|rfl|exact z6 .. |simp_all
def NZ{P:Program}{rd:Nat->af IR}{T:TypeId}{x:af AV}{K:AV->af α}:(Qx P rd T x K).bind D=Qx P rd T x (λd=>(K d).bind D):=by
 unfold Qx
 repeat' split
 all_goals first|rfl|exact z6 .. |simp_all
def acM{P:Program}{nx:Nat}{T:TypeId}{K:gA->af α}:(XA P nx T K).bind D=XA P nx T (λd=>(K d).bind D):=by
 unfold XA;exact z6 ..
def aag{rd:Nat->af IR}{nx:Nat}{T:TypeId}{x:af AV}{K:gA->af α}:(Sz rd nx T x K).bind D=Sz rd nx T x (λd=>(K d).bind D):=by
 unfold Sz
 repeat' split
 all_goals first|rfl|exact z6 .. |simp_all
def aa4{P:Program}{rd:Nat->af IR}{T:TypeId}{x y:af AV}{K:gA->af α}:(Ra P rd T x y K).bind D=Ra P rd T x y (λd=>(K d).bind D):=by
 unfold Ra
 repeat' split
 all_goals first|rfl|exact z6 .. |simp_all
def aen{P:Program}{rd:Nat->af IR}{R:bt}{nx:Nat}{T:TypeId}{x y:af AV}{K:gA->af α}:(RQ P rd R nx T x y K).bind D=RQ P rd R nx T x y (λd=>(K d).bind D):=by
 unfold RQ;split
 ·split
  ·split
   ·split
    ·rw[z6]
     congr 1
     funext l
     rw[z6]
     congr 1
     funext l2
     split<;>rfl
    ·rfl
   ·rfl
  ·rfl
 ·rfl
def aeM{P:Program}{ev:Operand->af AV}{rd:Nat->af IR}{nx:Nat}{T:TypeId}{n:Nat}{ps:aa (Nat×Operand)}{K:gA->af α}:(RC P ev rd nx T n ps K).bind D=RC P ev rd nx T n ps (λd=>(K d).bind D):=by
 unfold RC;split
 ·split
  ·split
   ·split<;>rfl
   ·split
    ·split
     ·rw[z6]
      congr 1
      funext cs
      split
      ·exact z6 ..
      ·rfl
     ·rfl
    ·rfl
  ·rfl
 ·rfl
def amY{P:Program}{nx:Nat}{T:TypeId}{x y:af AV}{K:gA->af α}:(mkE P nx T x y K).bind D=mkE P nx T x y (λd=>(K d).bind D):=by
 unfold mkE;split
 ·split
  ·split
   ·rw[z6]
    congr 1
    funext d
    split<;>rfl
   ·rfl
  ·rfl
 ·rfl
def afD{P:Program}{nx:Nat}{T:TypeId}{x:af AV}{K:gA->af α}:(emE P nx T x K).bind D=emE P nx T x (λd=>(K d).bind D):=by
 unfold emE
 repeat' split
 all_goals first|rfl|simp_all
def abN{P:Program}{T:TypeId}{K:Nat->aa Value->af α}:(Yo P T K).bind D=Yo P T (λe zs=>(K e zs).bind D):=by
 unfold Yo
 repeat' split
 all_goals first|rfl|simp_all
def O9{P:Program}{rd:Nat->af IR}{e:Nat}{zs:aa Value}{T' T:TypeId}{y:af AV}{K:aa (U.dh e)->af α}:(Rw P rd e zs T' T y K).bind D=Rw P rd e zs T' T y (λd=>(K d).bind D):=by
 unfold Rw;split
 ·exact z6 ..
 ·split
  ·split
   ·rw[z6]
    congr 1
    funext d
    split<;>rfl
   ·rfl
  ·rfl
def ZK{P:Program}{rd:Nat->af IR}{nx:Nat}{T T':TypeId}{x y:af AV}{K:gA->af α}:(X5 P rd nx T T' x y K).bind D=X5 P rd nx T T' x y (λd=>(K d).bind D):=by
 unfold X5;rw[abN]
 congr 1
 funext e zs
 split
 ·rw[O9]
  congr 1
  funext l2
  split<;>rfl
 ·split
  ·rw[z6]
   congr 1
   funext l
   rw[O9]
   congr 1
   funext l2
   split<;>rfl
  ·rfl
 ·rfl
def Dp{mx:Bool}{xs:aa (af AV)}{K:AV->af α}:(mnV mx xs K).bind D=mnV mx xs (λd=>(K d).bind D):=by
 unfold mnV;split
 ·split
  ·cases mx<;>rfl
  ·rfl
 ·rfl
def dX(F:bq):Prop:=∀(α W:Type) f args R nx (k:AV->bt->Nat->af α) (D:α->af W),(F α f args R nx k).bind D=F W f args R nx (λd R nx=>(k d R nx).bind D)
structure bA (P:Program) (F:bq):Prop where
 ok:iN P F
 nat:dX F
def aeW{F:bq}(hF:dX F){ev:Operand->af AV}{R:bt}{nx:Nat}{x:af AV}{xs:aa Operand}{K:gA->af α}:(TA F ev R nx x xs K).bind D=TA F ev R nx x xs (λd=>(K d).bind D):=by
 unfold TA;split
 ·rw[z6]
  congr 1
  funext as0
  exact hF ..
 ·rfl
def AO{F:bq}(hF:dX F)(o:Op)(P:Program)(ev:Operand->af AV)(rd:Nat->af IR)(R:bt)(nx:Nat)(K:gA->af α):(pJ o P F ev rd R nx K).bind D=pJ o P F ev rd R nx (λe=>(K e).bind D):=by
 have hP:(λd=>(dP K d).bind D)=dP (λe=>(K e).bind D):=rfl;cases o<;>first|rfl|exact z6 .. |exact UL D|exact Np D|exact Ns D|exact MW D|exact Oh D|exact NL D|exact UG D|exact aa4 D|exact acS D|exact OP D|exact adS D|exact aeM D|exact amY D|exact acM D|exact aag D|skip
 case pick c a b=>
  show (Ao c a b P F ev rd R nx K).bind D=Ao c a b P F ev rd R nx _;unfold Ao;split
  ·exact z6 ..
  ·exact z6 ..
  ·rfl
 case binOp b T x y t=>exact NH D
 case slice T x lo hi mx=>
  show (M7 T x lo hi mx P F ev rd R nx K).bind D=M7 T x lo hi mx P F ev rd R nx _;unfold M7;split
  ·exact aas D
  ·split
   ·exact afD D
   ·rfl
  ·rfl
 case call c=>
  show (Gv c P F ev rd R nx K).bind D=Gv c P F ev rd R nx _;unfold Gv;split
  ·exact aeW D hF
  ·unfold FW;split
   ·split
    ·exact NZ D
    ·rfl
   ·split
    ·exact Dp D
    ·rfl
   ·split
    ·exact Dp D
    ·rfl
   ·split
    ·exact ZK D
    ·rfl
   ·split
    ·exact aen D
    ·rfl
   ·rfl
  ·rfl
end
end Go.Iv
end
noncomputable section
namespace Go.Iv
variable [U:tf]
open Go Go.RowKit Go.Shelf Go.Proofs
section
variable {P:Program} {C:Cx} {n:Nat} {c x y:Code} {ae Q':Exit->Env->aa cn->Prop} {E E':Env} {B B':aa cn}
end
def Vw.box{B:aa cn}{b:Nat}{T:TypeId}{cs:aa AV}(i:Nat)(aw:B[i]? =V (.box b T cs)):Vw B (.lit (.pointer (V ⟨b,0,I⟩))) (.fp cs):=λA w v hd hr=>by
 have hv:=hr.cM;subst hv;have hm:=List.mem_of_getElem? aw;obtain⟨us,h1,h2⟩:=hd.1 _ hm;exact .fp cs b 0 us h1.lt (.inr (bS.2 ⟨_,hm,rfl⟩)) h2.1 (λj v hj=>by rw[ym];exact h1.cell (by simpa using hj)) (λj a v q1 q2=>(h2.2 j a v q1 q2).mono λb _ hA=>⟨.inl hA,rfl⟩)
end Go.Iv
end
noncomputable section
namespace Go.Iv
variable [U:tf] [L:nu]
open Go Go.RowKit
def qC{id t m:Nat}{l:aa (U.dh t)}:∀(n:Nat) {d:AV},cW m d->cW m (oN id t l n d)
 |0,d,h=>h
 |n+1,d,h=>by
  have hL:∀{cs:aa AV},(∀c∈cs,cW m c)->∀c∈cs.map (oN id t l n),cW m c:=λh c hc=>by
   obtain⟨c',h1,rfl⟩:=zK.1 hc;exact qC n (h c' h1)
  unfold oN;split
  ·omega
  ·rename_i h0;cases h0;exact .agg _ (hL h.pS)
  ·rename_i h0;cases h0;exact .jf _ (hL h.G2)
  ·rename_i h0;cases h0;exact .fn _ _ (hL h.fnL)
  ·unfold Zh;split
   ·split
    ·exact .sl _ _
    ·exact h
   ·exact h
def dV{f:AV->AV}(t:Nat):∀(E:Env),Env.get (E.map λp=>(p.1,f p.2)) t=(E.get t).map f
 |[]=>rfl
 |(k,v)::E=>by
  show Env.get ((k,f v)::E.map λp=>(p.1,f p.2)) t=_;unfold Env.get;cases hb:ze k t with
  |true=>rfl
  |false=>exact dV t E
section
variable {α:Type} {r:α} {P:Program} {F:bq} {o:Oper} {C:Cg} {n:Nat} {s:St} {a:Act} {w:World}
def Mt.Mp(h:Mt C n s a w)(id:Nat):Mt C n (s.Mp id) a w:=by
 unfold St.Mp;split
 case h_2=>exact h
 rename_i t l hr;obtain⟨E,hh,hE,hR,S,hag,hsim⟩:=h;obtain⟨i,hi1,_,hi3⟩:=eT hr;have hres:=iD (S:=S) hi1;have hg:=hsim.good;have hd:Hd (al C.C (bt.res S s.R)) [.row (S.v id) t l] w:=⟨λr hr=>by
   rw[zo]at hr;rw[hr];exact hg.res _ (List.mem_of_getElem? hres),λb hb hA=>hA.2 (by
   obtain⟨r,h1,h2⟩:=bS.1 hb;rw[zo]at h1;rw[h1]at h2;exact bS.2 ⟨_,List.mem_of_getElem? hres,h2⟩)⟩
 have hle:=Nd (C:=C.C) hres hg;have hbk:bC (bt.res S ((lz id s.R).map λp=>(p.1,Ah id t l p.2)))=bC ((bt.res S s.R).eraseIdx i):=by
  rw[<-Cb,<-hi3];unfold bC bt.res;rw[yw,List.filterMap_map,List.filterMap_map]
  congr 1
  funext p
  obtain⟨q,rr⟩:=p;cases rr<;>rfl
 have hal:∀b,(al C.C (bt.res S s.R) b\/b∈bC [cn.row (S.v id) t l])->al C.C (bt.res S ((lz id s.R).map λp=>(p.1,Ah id t l p.2))) b:=λb hb=>by
  have:=hle b hb;exact⟨this.1,by rw[hbk];exact this.2⟩
 have hrel:∀{d:AV} {v:Value},Rel (al C.C (bt.res S s.R)) w (d.sub S) v->Rel (al C.C (bt.res S ((lz id s.R).map λp=>(p.1,Ah id t l p.2)))) w ((oN id t l 3 d).sub S) v:=λh=>
  (DT hd 3 h).mono λb _ hA=>⟨hal b hA,rfl⟩
 refine⟨E.map λp=>(p.1,oN id t l 3 p.2),λk d hk=> ?_,λp hp=> ?_,λp hp=> ?_,S,hag,hsim.defers.step (λb _ hA=>⟨hal b (.inl hA),rfl⟩),hsim.size,λk av hk=> ?_,⟨hg.kept,λrr hrr=> ?_,?_,λb hb=> ?_⟩⟩
 ·have hk':cV (emap (oN id t l 3) s.E) k=V d:=hk;rw[Ai]at hk';obtain⟨d',h1,rfl⟩:=zl.1 hk';rw[dV,hh k d' h1];rfl
 ·obtain⟨p',h1,rfl⟩:=zK.1 hp;exact qC 3 (hE p' h1)
 ·obtain⟨p',h1,rfl⟩:=zK.1 hp;have h2:=FP (id:=id) hR p' h1;refine⟨h2.1,?_⟩;obtain⟨q,rr⟩:=p';cases rr with
  |row t' l'=>trivial
  |box T cs=>
   intro c hc;obtain⟨c',h3,rfl⟩:=zK.1 hc;exact qC 3 (h2.2 c' h3)
 ·rw[Env.fA,dV]at hk;obtain⟨d',h1,rfl⟩:=zl.1 hk;obtain⟨d,h2,rfl⟩:=zl.1 h1;obtain⟨v,h3,h4⟩:=hsim.slots k (d.sub S) (by rw[Env.fA,h2];rfl);exact⟨v,h3,hrel h4⟩
 ·obtain⟨p,h1,rfl⟩:=zK.1 hrr;obtain⟨p',h2,rfl⟩:=zK.1 h1;have hm:p'.2.res S p'.1∈bt.res S s.R:=by
   rw[hi3]at h2;exact zK.2 ⟨p',List.mem_of_mem_eraseIdx h2,rfl⟩
  have h3:=hg.res _ hm;obtain⟨q,rr⟩:=p';cases rr with
  |row t' l'=>exact h3.mono (λb _ hA=>⟨hal b (.inl hA),rfl⟩) (λ_ _=>rfl)
  |box T cs=>
   obtain⟨us,h4,h5⟩:=h3;refine⟨us,h4,by simpa using h5.1,λj av v q1 q2=> ?_⟩;rw[yw,ye]at q1;obtain⟨c,hc,rfl⟩:=zl.1 q1;exact hrel (h5.2 j (c.sub S) v (by rw[ye,hc];rfl) q2)
 ·rw[hbk];exact hg.Il.sublist ((wQ _ _).filterMap _)
 ·rw[hbk]at hb;exact hg.own b (qF (λr hr=>(wQ _ _).subset hr) b hb)
def St.kK(s:St)(ids:aa Nat):St:=match ids with
 |[]=>s
 |i::is=>(s.Mp i).kK is
def Mt.kK:∀(ids:aa Nat) {s:St},Mt C n s a w->Mt C n (s.kK ids) a w
 |[],_,h=>h
 |i::is,_,h=>Mt.kK is (h.Mp i)
def avd:AV->aa Nat
 | .own id=>[id]
 | .agg cs=>cs.filterMap λc=>match c with
  | .own id=>V id
  |_=>I
 |_=>[]
def Z4(E:ET)(x:Operand):aa Nat:=match IQ E x with
 |some d=>avd d
 |none=>[]
def jc(E:ET):Op->aa Nat
 | .buildSlice _ _ ps=>ps.toList.flatMap λp=>Z4 E p.2
 | .store T x v=>match L.fz (Nat.add 1000000 T)with
  |true=>Z4 E v
  |false=>match IQ E x with
   |some (.ra _ _ _ _)=>Z4 E v
   |_=>[]
 | .slice _ x _ _ I=>Z4 E x
 | .call c=>match c.callee with
  | .value (.func f)=>match L.fz f with
   |true=>c.args.toList.flatMap (Z4 E)
   |false=>[]
  |_=>[]
 |_=>[]
def St.gq(s:St)(t:Nat)(b:Bool):St:={s with E:=nj t (.b b) s.E}
def Mt.gq{t:Nat}{b:Bool}(h:Mt C n s a w)(ht:cV s.E t=V (.lit (.bool b))):Mt C n (s.gq t b) a w:=by
 obtain⟨E,hh,hE,hR,S,hag,hsim⟩:=h;refine⟨E,λk d hk=> ?_,hE,hR,S,hag,hsim⟩;have hk':cV (nj t (.b b) s.E) k=V d:=hk;rcases qw hk' with ⟨rfl,rfl⟩|⟨_,h2⟩
 ·exact hh _ _ ht
 ·exact hh k d h2
def gate(ops:Array Oper)(o:Oper)(s:St)(yes no:St->af α):af α:=match o.guard with
 |none=>yes s
 |some (j,want)=>match (ops[j]?).bind (·.dst)with
  |none=>I
  |some t=>match cV s.E t with
   |some (.lit (.bool b))=>match b with
    |true=>match want with
     |true=>yes (s.gq t O)
     |false=>no (s.gq t O)
    |false=>match want with
     |true=>no (s.gq t G)
     |false=>yes (s.gq t G)
   |some (.lit (.tuple _))=>no s
   |_=>I
def HX{ops:Array Oper}{j t:Nat}{want:Bool}{S:Gh}(hg:o.guard=V (j,want))(hj:(ops[j]?).bind (·.dst)=V t){E:Env}:
  (∀b,E.get t=V (.lit (.bool b))->ri (E.sub S) o ops=V (b==want))/\(∀vs,E.get t=V (.lit (.tuple vs))->ri (E.sub S) o ops=V G):=by
 constructor
 ·intro b hb;unfold ri;rw[hg];simp only[hj,Env.fA,hb,yH,bW]
 ·intro vs hb;unfold ri;rw[hg];simp only[hj,Env.fA,hb,yH,bW]
def ale{ops:Array Oper}{yes no:St->af α}(h:gate ops o s yes no=V r)(hm:Mt C n s a w):∃s',Mt C n s' a w/\
  ((Region.wanted o (yielded ops a.tmps)=O/\yes s'=V r)\/(Region.wanted o (yielded ops a.tmps)=G/\no s'=V r)):=by
 unfold gate at h;split at h
 ·rename_i hg;exact⟨s,hm, .inl ⟨by simp[Region.wanted,hg],h⟩⟩
 ·rename_i j want hg;split at h
  ·cases h
  ·rename_i t hj;have hspec:∀{s':St},Mt C n s' a w->(∀b,cV s'.E t=V (.lit (.bool b))->Region.wanted o (yielded ops a.tmps)=(b==want))/\(∀vs,cV s'.E t=V (.lit (.tuple vs))->Region.wanted o (yielded ops a.tmps)=G):=λ{s'} hm'=>by
    obtain⟨E,hh,_,_,S,_,hsim⟩:=hm';obtain⟨h1,h2⟩:=HX (S:=S) hg hj (E:=E);exact⟨λb hb=>ri.spec hsim.slots (h1 b (hh _ _ hb)),λvs hv=>ri.spec hsim.slots (h2 vs (hh _ _ hv))⟩
   split at h
   ·rename_i b hb;have hw:=(hspec hm).1 b hb;split at h
    ·split at h
     ·exact⟨_,hm.gq hb, .inl ⟨hw,h⟩⟩
     ·exact⟨_,hm.gq hb, .inr ⟨hw,h⟩⟩
    ·split at h
     ·exact⟨_,hm.gq hb, .inr ⟨hw,h⟩⟩
     ·exact⟨_,hm.gq hb, .inl ⟨hw,h⟩⟩
   ·rename_i vs hb;exact⟨s,hm, .inr ⟨(hspec hm).2 vs hb,h⟩⟩
   ·cases h
def Cw(o:Op)(s:St)(f:St->af α):af α:=match o with
 | .pick (.tmp t) _ _=>match cV s.E t with
  |some (.lit (.bool b))=>match b with
   |true=>f (s.gq t O)
   |false=>f (s.gq t G)
  |_=>I
 |_=>f s
def aab{op:Op}{f:St->af α}(h:Cw op s f=V r)(hm:Mt C n s a w):∃s',Mt C n s' a w/\f s'=V r:=by
 unfold Cw at h;split at h
 ·split at h
  ·rename_i b hb;split at h
   ·exact⟨_,hm.gq hb,h⟩
   ·exact⟨_,hm.gq hb,h⟩
  ·cases h
 ·exact⟨s,hm,h⟩
def uQ(dst:af Nat)(d:AV)(E:ET):ET:=match dst with
 |none=>E
 |some t=>nj t d E
def MQ(dst:af Nat)(E:ET)(R:bt)(nx:Nat)(ih:St->(St->af α)->af α)(k:St->af α)(e:gA):af α:=match e with
 | .val d=>ih ⟨uQ dst d E,R,nx⟩ k
 | .new d r=>ih ⟨uQ dst d E,(nx,r)::R,nx+1⟩ k
 | .set id r=>ih ⟨uQ dst (.lit undef) E,uv id r R,nx⟩ k
 | .grow id r=>ih ⟨uQ dst (.own nx) E,(nx,r)::lz id R,nx+1⟩ k
 | .all d R' m=>ih ⟨uQ dst d E,R',m⟩ k
def aiY(dst:af Nat)(s:St)(ih:St->(St->af α)->af α)(k:St->af α):MQ dst s.E s.R s.nx ih k=λe=>ih (s.app dst e) k:=by
 funext e
 cases e<;>cases dst<;>rfl
def avA(P:Program)(F:bq)(o:Oper)(ih:St->(St->af α)->af α)(k:St->af α)(s:St):af α:=St.rec (λE R nx=>pJ o.op P F (IQ E) (gJ R) R nx (MQ o.dst E R nx ih k)) s
def rDo(P:Program)(F:bq)(o:Oper)(ih:St->(St->af α)->af α)(k:St->af α)(s:St):af α:=avA P F o ih k (s.kK (jc s.E o.op))
abbrev OpK(α:Type):=Program->bq->af Nat->ET->bt->Nat->(St->(St->af α)->af α)->(St->af α)->af α
abbrev StT(α:Type):=Program->bq->(Operand->af AV)->(Nat->af IR)->bt->Nat->(gA->af α)->af α
def Ia(f:StT α):OpK α:=λP F dst E R nx ih k=>f P F (IQ E) (gJ R) R nx (MQ dst E R nx ih k)
def stZ(ids:ET->aa Nat)(f:StT α):OpK α:=λP F dst E R nx ih k=>St.rec (λE R nx=>f P F (IQ E) (gJ R) R nx (MQ dst E R nx ih k)) (St.kK ⟨E,R,nx⟩ (ids E))
def aE5(c a b:Operand):OpK α:=match c with
 | .tmp t=>λP F dst E R nx ih k=>match cV E t with
  |some (.lit (.bool v))=>match v with
   |true=>Ia (Ao (.tmp t) a b) P F dst (nj t (.b O) E) R nx ih k
   |false=>Ia (Ao (.tmp t) a b) P F dst (nj t (.b G) E) R nx ih k
  |_=>I
 |c=>Ia (Ao c a b)
def opF(o:Op):OpK α:=match o with
 | .move x=>Ia (Uy x)
 | .assign x=>Ia (Uy x)
 | .pick c a b=>aE5 c a b
 | .binOp b T x y _=>Ia (aod b T x y)
 | .unOp b _ x=>Ia (aAa b x)
 | .convert T T' x=>Ia (aot T T' x)
 | .nilCheck x=>Ia (ap9 x)
 | .fieldAddr T x i=>Ia (aoX T x i)
 | .indexAddr T x y=>Ia (aoR T x y)
 | .index T x y=>Ia (anT T x y)
 | .load T x=>Ia (aC2 T x)
 | .store T x y=>stZ (λE=>jc E (.store T x y)) (apI T x y)
 | .makeFunc f fs cs=>Ia (apw f fs cs)
 | .extract x i=>Ia (apm x i)
 | .build T ps=>Ia (apv T ps)
 | .buildSlice T n ps=>stZ (λE=>jc E (.buildSlice T n ps)) (apf T n ps)
 | .makeSlice T x y=>Ia (azs T x y)
 | .alloc T=>Ia (apY T)
 | .box T x=>Ia (apy T x)
 | .slice T x lo hi mx=>stZ (λE=>jc E (.slice T x lo hi mx)) (M7 T x lo hi mx)
 | .call c=>stZ (λE=>jc E (.call c)) (Gv c)
 |_=>Ia aBE
def Kc(P:Program)(F:bq)(o:Oper)(s:St)(ih:St->(St->af α)->af α)(k:St->af α):opF o.op P F o.dst s.E s.R s.nx ih k=Cw o.op s (rDo P F o ih k):=by
 unfold rDo avA Cw;cases h:o.op<;>first|rfl|skip
 case pick c a b=>
  cases c<;>rfl
def aCO(P:Program)(F:bq)(o:Oper)(ih:St->(St->af α)->af α)(k:St->af α)(s:St):af α:=St.rec (λE R nx=>opF o.op P F o.dst E R nx ih k) s
def rNo(dst:af Nat)(ih:St->(St->af α)->af α)(k:St->af α)(s:St):af α:=match dst with
 |some t=>ih {s with E:=nj t (.lit undef) s.E} k
 |none=>ih s k
def OZ(P:Program)(F:bq)(n:Nat)(ops:Array Oper)(o:Oper)(ih:St->(St->af α)->af α)(s:St)(k:St->af α):af α:=match MU n o.dst with
 |true=>gate ops o s (aCO P F o ih k) (rNo o.dst ih k)
 |false=>I
def fE(P:Program)(F:bq)(n:Nat)(ops:Array Oper)(l:aa Oper):St->(St->af α)->af α:=List.rec (λs k=>k s) (λo _ ih=>OZ P F n ops o ih) l
def Eo(hF:iN P F){ops:Array Oper}{k:St->af α}:∀(rest:aa Oper) {s:St} {a:Act} {w:World},fE P F n ops rest s k=V r->Mt C n s a w->
  wpList P ops (λe a' w'=>e= .normal/\a'.defers=a.defers/\∃s',k s'=V r/\Mt C n s' a' w') rest a w
 |[],s,a,w,h,hm=>⟨rfl,rfl,s,h,hm⟩
 |o::rest,s,a,w,h,hm=>by
  change OZ P F n ops o (fE P F n ops rest) s k=V r at h;unfold OZ at h;split at h
  case h_2=>cases h
  rename_i hd;refine wpList_step λK' hK=> ?_;have cont:∀{s':St} {a':Act} {w':World},a'.defers=a.defers->fE P F n ops rest s' k=V r->Mt C n s' a' w'->K' a' w':=λ{s' a' w'} hda h1 h2=>hK _ _ (by
   have:=Eo hF rest h1 h2;rw[hda]at this;exact this)
  obtain⟨s1,hm1,⟨hw,h1⟩|⟨hw,h1⟩⟩:=ale h hm
  ·rw[bJ hw];have h1':opF o.op P F o.dst s1.E s1.R s1.nx (fE P F n ops rest) k=V r:=h1;rw[Kc]at h1';obtain⟨s2,hm2,h2⟩:=aab h1' hm1;unfold rDo at h2;have e2:∀s:St,avA P F o (fE P F n ops rest) k s=JG P F (IQ s.E) (gJ s.R) s.R s.nx o.op (λe=>fE P F n ops rest (s.app o.dst e) k):=λs=>by
    show pJ o.op P F (IQ s.E) (gJ s.R) s.R s.nx (MQ o.dst s.E s.R s.nx (fE P F n ops rest) k)=_;rw[NJ,aiY]
   rw[e2]at h2;have hm3:=Mt.kK (jc s2.E o.op) hm2;exact aud (K:=λe=>fE P F n ops rest ((s2.kK (jc s2.E o.op)).app o.dst e) k) (r:=r) hm3 hd (λE hs=>Hs hF hs rfl h2) λa' w' e q1 q2 _ q4=>cont q1 q2 q4
  ·rw[bN (by rw[hw];exact Bool.false_ne_true)];cases hdst:o.dst with
   |none=>
    rw[hdst]at h1;exact cont rfl h1 hm1
   |some t=>
    rw[hdst]at h1 hd;obtain⟨E,hh,hE,hR,S,hag,hsim⟩:=hm1;exact cont rfl h1 ⟨(t, .lit undef)::E,hh.put t _,Env.u5 hE (.lit _),hR,S,hag,by
     have:=hsim.put (av:= .lit undef) (v:=undef) hd (.lit _);show uI C.C n ((t,b9.sub S (.lit undef))::E.sub S) _ _ _;rw[bW];exact this⟩
end
def InL(P:Program)(c:Code)(ae:Exit->Act->World->Prop)(a:Act)(w:World):Prop:=
 ∀(b:Frame) (k:aa Item) (cs:aa Frame),∃e a' w',ae e a' w'/\Arrives P (lone (b.at a (.inLoop c::k)) cs w) b k cs e a' w'
def HZ{P:Program}{c:Code}{ae:Exit->Act->World->Prop}{a:Act}{w:World}(h:c.wp P (Exit.then (InL P c ae) ae) a w)(b:Frame)(k:aa Item)(cs:aa Frame):
  ∃e a' w',ae e a' w'/\Arrives P (lone (b.at a (.code c:: .inLoop c::k)) cs w) b k cs e a' w':=by
 obtain⟨e,a₁,w₁,hq,harr⟩:=h b (.inLoop c::k) cs;cases e with
 |normal=>
  obtain⟨e₂,a₂,w₂,hq₂,harr₂⟩:=hq b k cs;exact⟨e₂,a₂,w₂,hq₂, .of_steps harr harr₂⟩
 |exit id=>exact⟨_,a₁,w₁,hq, .pass (x:= .inLoop c) rfl (λ_ _=> .inl (by simp)) harr⟩
 |goto l=>exact⟨_,a₁,w₁,hq, .pass (x:= .inLoop c) rfl (λ_ _=> .inl (by simp)) harr⟩
 |ret=>exact⟨_,a₁,w₁,hq, .pass (x:= .inLoop c) rfl (λ_ _=> .inl (by simp)) harr⟩
 |panic ch=>exact⟨_,a₁,w₁,hq, .pass (x:= .inLoop c) rfl (λ_ _=> .inl (by simp)) harr⟩
 |outgrown=>exact⟨_,a₁,w₁,hq, .pass (x:= .inLoop c) rfl (λ_ _=> .inl (by simp)) harr⟩
def Ik{P:Program}{c:Code}{ae:Exit->Act->World->Prop}{a:Act}{w:World}(h:c.wp P (Exit.then (InL P c ae) ae) a w):(Code.loop c).wp P ae a w:=λb k cs=>
 let ⟨e,a',w',hq,harr⟩:=HZ h b k cs
 ⟨e,a',w',hq, .of_steps (.one step_loop) harr⟩
def OM{P:Program}{c:Code}{ae:Exit->Act->World->Prop}{a:Act}{w:World}(h:c.wp P (Exit.then (InL P c ae) ae) a w):InL P c ae a w:=λb k cs=>
 let ⟨e,a',w',hq,harr⟩:=HZ h b k cs
 ⟨e,a',w',hq, .of_steps (.one step_inLoop) harr⟩
section
variable {α:Type} {r:α} {P:Program} {F:bq} {C:Cx} {n:Nat}
abbrev gI(α:Type):=Exit->St->af α
def Nt(k:gI α)(ih:St->af α):gI α:=λe s=>match e with
 | .normal=>ih s
 |e=>k e s
def Ff(b:St->gI α->af α)(k:gI α)(m:Nat):St->af α:=Nat.rec (λ_=>I) (λ_ ih s=>b s (Nt k ih)) m
def abn(b:Bool)(t:Nat)(s:St)(x y:St->af α):af α:=match b with
 |true=>x (s.gq t O)
 |false=>y (s.gq t G)
def qL(c:Operand)(s:St)(x y:St->af α):af α:=match c with
 | .tmp t=>match cV s.E t with
  |some (.lit (.bool b))=>abn b t s x y
  |_=>I
 | .const (.bool O)=>x s
 | .const (.bool G)=>y s
 |_=>I
def ain(y:St->gI α->af α)(k:gI α):gI α:=λe s=>match e with
 | .normal=>y s k
 |e=>k e s
def tP(id:Nat)(k:gI α):gI α:=λe s=>match e with
 | .exit i=>match ze i id with
  |true=>k .normal s
  |false=>k (.exit i) s
 |e=>k e s
def acR(s:St)(k:gI α):af α:=k .normal s
def aB2(x y:St->gI α->af α)(s:St)(k:gI α):af α:=x s (ain y k)
def aqk(c:Operand)(x y:St->gI α->af α)(s:St)(k:gI α):af α:=qL c s (λs=>x s k) (λs=>y s k)
def agF(id:Nat)(x:St->gI α->af α)(s:St)(k:gI α):af α:=x s (tP id k)
def ady(fuel:Nat)(x:St->gI α->af α)(s:St)(k:gI α):af α:=Ff x k fuel s
def afa(i:Nat)(s:St)(k:gI α):af α:=k (.exit i) s
def apq(s:St)(k:gI α):af α:=k .ret s
def G4(_:St)(_:gI α):af α:=I
def ab0(P:Program)(s:St):ResultVar->af AV
 | .tmp t=>cV s.E t
 | .cell t ty=>match cV s.E t with
  |some (.ptr id 0)=>match gJ s.R id with
   |some (.box _ cs)=>match YY P ty with
    |true=>cs[0]?
    |false=>match V3 P ty with
     |some m=>match ze (zR cs) m with
      |true=>V (.agg cs)
      |false=>I
     |none=>I
   |_=>I
  |_=>I
def GP(P:Program)(s:St):aa ResultVar->af (aa AV)
 |[]=>V []
 |x::xs=>match ab0 P s x with
  |some d=>(GP P s xs).map λds=>d::ds
  |none=>I
def fD:aa AV->AV
 |[d]=>d
 |ds=> .jf ds
def kJ:Nat->AV->aa Nat
 |_, .own id=>[id]
 |_, .ptr id _=>[id]
 |_, .ra id _ _ _=>[id]
 |n+1, .agg cs=>cs.flatMap (kJ n)
 |n+1, .jf cs=>cs.flatMap (kJ n)
 |n+1, .fn _ cs=>cs.flatMap (kJ n)
 |_,_=>[]
def dG(i:Nat):aa Nat->Bool
 |[]=>G
 |j::js=>match ze i j with
  |true=>O
  |false=>dG i js
def aEE(R:bt)(ids:aa Nat):aa Nat:=ids.flatMap λi=>match gJ R i with
 |some (.box _ cs)=>cs.flatMap (kJ 3)
 |_=>[]
def reach(R:bt):Nat->aa Nat->aa Nat
 |0,ids=>ids
 |m+1,ids=>ids++reach R m (aEE R ids)
def OB(nx:Nat)(ids:aa Nat)(R:bt):bt:=List.rec [] (λp R ih=>Bool.rec (Bool.rec ih (p::ih) (dG p.1 ids)) (p::R) (zB p.1 nx)) R
def tD(R:bt)(nx:Nat)(d:AV):bt:=OB nx (reach R 3 (kJ 3 d++zN nx)) R
def Nn(R:bt)(nx:Nat)(d:AV)(xs:aa AV):bt:=OB nx (reach R 3 (kJ 3 d++xs.flatMap (kJ 3))) R
def O1(i:Nat)(l:aa AV):ET->ET:=List.rec (λ_ T=>T) (λd _ ih i T=>ih (i+1) (nj i d T)) l i
end
end Go.Iv
end
noncomputable section
namespace Go.Iv
variable [U:tf]
open Go Go.RowKit
abbrev Fr:Type:=Nat->af AV
structure Rc where
 dst:Option Nat
 v:AV
 (sl rd wr:List Nat)
 ef:Bool
 Lo:bt
def iP(rd:aa Nat)(R:bt):bt:=R.filter λp=> !dG p.1 rd
def cC(rd:aa Nat)(R:bt):bt:=R.filter λp=>dG p.1 rd
def Rc.F(c:Rc)(f:Fr):Fr:=λt=>if c.dst=V t then V c.v else f t
def Rc.R(c:Rc)(R:bt):bt:=match c.ef with
 |true=>c.Lo++iP c.wr R
 |false=>R
def gW:aa Rc->aa Bool->Fr->Fr
 |c::cs,b::bs,f=>gW cs bs (match b with|O=>c.F f|G=>f)
 |_,_,f=>f
def hU:aa Rc->aa Bool->bt->bt
 |c::cs,b::bs,R=>hU cs bs (match b with|O=>c.R R|G=>R)
 |_,_,R=>R
def gi{i:Nat}:∀{l:aa Nat},dG i l=O↔i∈l
 |[]=>by simp[dG]
 |j::js=>by
  unfold dG;cases h:ze i j with
  |true=>have:=gU h;subst this;simp
  |false=>
   have hne:i≠j:=λe=>by rw[e,Nat.beq_refl]at h;cases h
   simp only[zy,hne,false_or];exact gi
def jj{i:Nat}{l:aa Nat}:dG i l=G↔i∉l:=by
 cases h:dG i l with
 |true=>simp[gi.1 h]
 |false=>simp only[true_iff];exact λhm=>by rw[gi.2 hm]at h;cases h
structure CF (c d:Rc):Prop where
 ds:∀t,c.dst=V t->t∉d.sl/\d.dst≠V t
 sd:∀t,d.dst=V t->t∉c.sl
 rc:c.ef=O->(∀i∈c.wr,i∉d.rd)/\(∀p∈c.Lo,p.1∉d.rd)/\∀p∈c.Lo,p.1∉d.wr
 rd:d.ef=O->(∀i∈d.wr,i∉c.rd)/\(∀p∈d.Lo,p.1∉c.rd)/\∀p∈d.Lo,p.1∉c.wr
def CF.symm{c d:Rc}(h:CF c d):CF d c:=⟨λt ht=>⟨h.sd t ht,λe=>(h.ds t e).2 ht⟩,λt ht=>(h.ds t ht).1,h.rd,h.rc⟩
def aGo{c i:Rc}(h:CF c i)(R:bt):cC i.rd (c.R R)=cC i.rd R:=by
 unfold Rc.R;cases he:c.ef with
 |false=>rfl
 |true=>
  obtain⟨h1,h2,_⟩:=h.rc he;simp only[cC,iP,xk,wk];have e1:c.Lo.filter (λp=>dG p.1 i.rd)=[]:=wR.2 λp hp=>by simp[jj.2 (h2 p hp)]
  rw[e1,yz];refine wK λp _=> ?_;cases hm:dG p.1 i.rd with
  |false=>rfl
  |true=>
   have:dG p.1 c.wr=G:=jj.2 λhc=>h1 _ hc (gi.1 hm);rw[this];rfl
def aGr{c i:Rc}(h:CF c i)(f:Fr){t:Nat}(ht:t∈i.sl):c.F f t=f t:=by
 unfold Rc.F;split
 ·rename_i hd;exact ep ht (h.ds t hd).1
 ·rfl
def alC{c:Rc}{rd:aa Nat}{R R':bt}(h:cC rd R=cC rd R'):cC rd (c.R R)=cC rd (c.R R'):=by
 unfold Rc.R;cases c.ef with
 |false=>exact h
 |true=>
  simp only[cC,iP,xk,wk]at h ⊢
  congr 1
  have e:∀R:bt,R.filter (λp=>dG p.1 rd&& !dG p.1 c.wr)=(R.filter λp=>dG p.1 rd).filter λp=> !dG p.1 c.wr:=λR=>by
   rw[wk];exact wK λp _=>Bool.and_comm ..
  rw[e,e,h]
def JD{i:Rc}:∀(cs:aa Rc) (bs bs':aa Bool) (f f':Fr) (R R':bt),zR bs=zR cs->zR bs'=zR cs->
  (∀(j:Nat) c b b',cs[j]? =V c->bs[j]? =V b->bs'[j]? =V b'->b=b'\/CF c i)->
  (∀t∈i.sl,f t=f' t)->cC i.rd R=cC i.rd R'->(∀t∈i.sl,gW cs bs f t=gW cs bs' f' t)/\cC i.rd (hU cs bs R)=cC i.rd (hU cs bs' R')
 |[],_,_,f,f',R,R',_,_,_,h1,h2=>⟨by simpa [gW]using h1,by simpa [hU]using h2⟩
 |c::cs,[],_,_,_,_,_,hl,_,_,_,_=>by cases hl
 |c::cs,_::_,[],_,_,_,_,_,hl,_,_,_=>by cases hl
 |c::cs,b::bs,b'::bs',f,f',R,R',hl,hl',hb,h1,h2=>by
  have h0:=hb 0 c b b' rfl rfl rfl;have hrec:=λf f' R R'=>JD (i:=i) cs bs bs' f f' R R' (by simpa using hl) (by simpa using hl') (λj c b b' q1 q2 q3=>hb (j+1) c b b' q1 q2 q3);unfold gW hU;refine hrec _ _ _ _ ?_ ?_
  ·intro t ht;rcases h0 with rfl|hcf
   ·cases b with
    |false=>exact h1 t ht
    |true=>show c.F f t=c.F f' t;unfold Rc.F;split<;>first|rfl|exact h1 t ht
   ·cases b<;>cases b'<;>simp only[aGr hcf _ ht]<;>exact h1 t ht
  ·rcases h0 with rfl|hcf
   ·cases b with
    |false=>exact h2
    |true=>exact alC h2
   ·cases b<;>cases b'<;>simp only[aGo hcf]<;>exact h2
def auk{c d:Rc}(h:CF c d)(f:Fr):c.F (d.F f)=d.F (c.F f):=by
 funext t
 unfold Rc.F;by_cases h1:c.dst=V t
 ·rw[bJ h1,bN (h.ds t h1).2,bJ h1]
 ·by_cases h2:d.dst=V t
  ·rw[bN h1,bJ h2,bJ h2]
  ·rw[bN h1,bN h2,bN h2,bN h1]
def arn{c:Rc}{R R':bt}(h:List.Perm R R'):List.Perm (c.R R) (c.R R'):=by
 unfold Rc.R;cases c.ef with
 |false=>exact h
 |true=>exact(h.filter _).append_left _
def aty{c d:Rc}(h:CF c d)(R:bt):List.Perm (c.R (d.R R)) (d.R (c.R R)):=by
 unfold Rc.R;cases hc:c.ef with
 |false=>cases d.ef<;>exact .refl _
 |true=>
  cases hd:d.ef with
  |false=>exact .refl _
  |true=>
   obtain⟨h1,_,h2⟩:=h.rc hc;obtain⟨h3,_,h4⟩:=h.rd hd;simp only[iP,xk,wk];have e1:d.Lo.filter (λp=> !dG p.1 c.wr)=d.Lo:=wS.2 λp hp=>by simp[jj.2 (h4 p hp)]
   have e2:c.Lo.filter (λp=> !dG p.1 d.wr)=c.Lo:=wS.2 λp hp=>by simp[jj.2 (h2 p hp)]
   rw[e1,e2,<-yS,<-yS];refine(List.perm_append_comm).append ?_;rw[show (R.filter λa=> !dG a.1 c.wr&& !dG a.1 d.wr)=R.filter λa=> !dG a.1 d.wr&& !dG a.1 c.wr from wK λp _=>Bool.and_comm ..]
def late{i:Rc}:∀(cs:aa Rc) (bs:aa Bool) (f:Fr) (R R':bt),(∀(j:Nat) c,cs[j]? =V c->bs[j]? =V O->CF i c)->List.Perm R' (i.R R)->
  i.F (gW cs bs f)=gW cs bs (i.F f)/\List.Perm (i.R (hU cs bs R)) (hU cs bs R')
 |[],_,f,R,R',_,hp=>⟨rfl,hp.symm⟩
 |_::_,[],f,R,R',_,hp=>⟨rfl,hp.symm⟩
 |c::cs,b::bs,f,R,R',hb,hp=>by
  unfold gW hU;cases b with
  |false=>exact late cs bs f R R' (λj c q1 q2=>hb (j+1) c q1 q2) hp
  |true=>
   have hcf:=hb 0 c rfl rfl;have h1:=late cs bs (c.F f) (c.R R) (c.R R') (λj c q1 q2=>hb (j+1) c q1 q2) ((arn hp).trans (aty hcf.symm R));refine⟨?_,h1.2⟩;rw[h1.1,auk hcf]
def Fw:∀(pre:aa Rc) (bp:aa Bool) (cs:aa Rc) (bs:aa Bool) (f:Fr),zR bp=zR pre->gW (pre++cs) (bp++bs) f=gW cs bs (gW pre bp f)
 |[],[],_,_,_,_=>rfl
 |_::_,[],_,_,_,h=>by cases h
 |[],_::_,_,_,_,h=>by cases h
 |c::pre,b::bp,cs,bs,f,h=>by
  show gW (pre++cs) (bp++bs) _=_;rw[Fw pre bp cs bs _ (by simpa using h)];rfl
def D5:∀(pre:aa Rc) (bp:aa Bool) (cs:aa Rc) (bs:aa Bool) (R:bt),zR bp=zR pre->hU (pre++cs) (bp++bs) R=hU cs bs (hU pre bp R)
 |[],[],_,_,_,_=>rfl
 |_::_,[],_,_,_,h=>by cases h
 |[],_::_,_,_,_,h=>by cases h
 |c::pre,b::bp,cs,bs,R,h=>by
  show hU (pre++cs) (bp++bs) _=_;rw[D5 pre bp cs bs _ (by simpa using h)];rfl
def abq{cs:aa Rc}{bs:aa Bool}{i:Nat}{c:Rc}(f:Fr)(R:bt)(hl:zR bs=zR cs)(hc:cs[i]? =V c)(hb:bs[i]? =V G)
  (hpre:∀(j:Nat) d,j<i->cs[j]? =V d->bs[j]? =V G->CF d c) (hpost:∀(j:Nat) d,i<j->cs[j]? =V d->bs[j]? =V O->CF d c):
  (∀t∈c.sl,gW cs bs f t=gW (cs.take i) (zj i O) f t)/\cC c.rd (hU cs bs R)=cC c.rd (hU (cs.take i) (zj i O) R)/\
  c.F (gW cs bs f)=gW cs (bs.set i O) f/\List.Perm (c.R (hU cs bs R)) (hU cs (bs.set i O) R):=by
 have hi:i<zR cs:=(z7.1 hc).1;have hib:i<zR bs:=aq;have ec:cs=cs.take i++c::cs.drop (i+1):=by
  rw[<-(z7.1 hc).2,<-yN hi,xe]
 have eb:bs=bs.take i++G::bs.drop (i+1):=by
  rw[<-(z7.1 hb).2,<-yN hib,xe]
 have lp:zR (bs.take i)=zR (cs.take i):=by rw[zA,zA];omega
 have eb2:bs.set i O=bs.take i++O::bs.drop (i+1):=by
  rw[wB,bJ hib]
 have hF:gW cs bs f=gW (cs.drop (i+1)) (bs.drop (i+1)) (gW (cs.take i) (bs.take i) f):=by
  conv=>lhs;rw[ec,eb]
  rw[Fw _ _ _ _ _ lp];rfl
 have hR:hU cs bs R=hU (cs.drop (i+1)) (bs.drop (i+1)) (hU (cs.take i) (bs.take i) R):=by
  conv=>lhs;rw[ec,eb]
  rw[D5 _ _ _ _ _ lp];rfl
 have hF2:gW cs (bs.set i O) f=gW (cs.drop (i+1)) (bs.drop (i+1)) (c.F (gW (cs.take i) (bs.take i) f)):=by
  rw[eb2]
  conv=>lhs;rw[ec]
  rw[Fw _ _ _ _ _ lp];rfl
 have hR2:hU cs (bs.set i O) R=hU (cs.drop (i+1)) (bs.drop (i+1)) (c.R (hU (cs.take i) (bs.take i) R)):=by
  rw[eb2]
  conv=>lhs;rw[ec]
  rw[D5 _ _ _ _ _ lp];rfl
 have hpo:∀(j:Nat) d,(cs.drop (i+1))[j]? =V d->(bs.drop (i+1))[j]? =V O->CF d c:=λj d q1 q2=>by
  rw[yF]at q1 q2;exact hpost (i+1+j) d aq q1 q2
 have v2:=JD (i:=c) (cs.drop (i+1)) (bs.drop (i+1)) (zj (zR cs-(i+1)) G) (gW (cs.take i) (bs.take i) f) (gW (cs.take i) (bs.take i) f) (hU (cs.take i) (bs.take i) R) (hU (cs.take i) (bs.take i) R)
  (by rw[zV,zV];omega) (by rw[xQ,zV]) (λj d b b' q1 q2 q3=>by
   cases b with
   |true=>exact .inr (hpo j d q1 q2)
   |false=>
    rw[wT]at q3;split at q3
    ·cases q3;exact .inl rfl
    ·cases q3) (λt _=>rfl) rfl
 have none_F:∀(cs:aa Rc) (n:Nat) (f:Fr),gW cs (zj n G) f=f:=λcs=>by
  induction cs with
  |nil=>intro n f;rfl
  |cons d cs ih=>
   intro n f;cases n with
   |zero=>rfl
   |succ n=>rw[yR];exact ih n f
 have none_R:∀(cs:aa Rc) (n:Nat) (R:bt),hU cs (zj n G) R=R:=λcs=>by
  induction cs with
  |nil=>intro n f;rfl
  |cons d cs ih=>
   intro n f;cases n with
   |zero=>rfl
   |succ n=>rw[yR];exact ih n f
 have v1:=JD (i:=c) (cs.take i) (bs.take i) (zj i O) f f R R lp (by rw[xQ,zA];omega) (λj d b b' q1 q2 q3=>by
   rw[yE]at q1 q2;rw[wT]at q3;split at q1
   ·rename_i hji;rw[bJ hji]at q2 q3;cases q3;cases b with
    |true=>exact .inl rfl
    |false=>exact .inr (hpre j d hji q1 q2)
   ·cases q1) (λt _=>rfl) rfl
 refine⟨λt ht=> ?_,?_,?_,?_⟩
 ·rw[hF,v2.1 t ht,none_F,v1.1 t ht]
 ·rw[hR,v2.2,none_R,v1.2]
 ·rw[hF,hF2];exact(late (i:=c) _ _ _ (hU (cs.take i) (bs.take i) R) _ (λj d q1 q2=>(hpo j d q1 q2).symm) (.refl _)).1
 ·rw[hR,hR2];exact(late (i:=c) _ _ (gW (cs.take i) (bs.take i) f) _ _ (λj d q1 q2=>(hpo j d q1 q2).symm) (.refl _)).2
end Go.Iv
end
