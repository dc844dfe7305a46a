/- Merged: Iv1, Iv2, Iv3, Iv4, Iv5, Iw1, Iw0, Iv6, Iw2, Iw3, Iv10, Ivc, Iw4. -/
import Derived.OrdersHeld
import Derived.WalkKit
import Derived.KernelRfl
import Derived.Maps.AppendAt
import Derived.WalkLawsBesides
import Derived.Laws.Tables
import Derived.Laws.PanicsMore
import Derived.Great.BuildSlice
import Derived.Laws.MakeOwn
import Derived.Lib.SliceRun
import Derived.RangeFuncLeaves
import Derived.RangeFuncNested
import Derived.Laws.BytesArg
import Derived.Laws.StructEq
import Derived.Lib.AppendZerosOnto
open List renaming length -> yz
open Nat renaming beq -> zh, le_refl -> zA, blt -> zD, le_trans -> zY, lt_succ_self -> z7, ble -> z8, zero_add -> ya, le_succ -> yd, add_mul -> yq, succ_mul -> yD, mul_one -> yF, beq_refl -> yH, eq_of_beq_eq_true -> yI, lt_of_lt_of_le -> yN, add_zero -> yO, mul_le_mul_right -> yP, le_of_ble_eq_true -> yV, add_assoc -> xo, eq_zero_or_pos -> wj, mod_eq_of_lt -> wm
open Int renaming toNat_natCast -> zi
open Bool renaming and_eq_true -> zj, true -> O, false -> V
open Option renaming map_eq_some_iff -> zk, bind_eq_some_iff -> zn, some -> zG, map_some -> zX, toList_some -> xu, toList -> xG, some -> Q, none -> J
open List renaming getElem?_eq_getElem -> zm, mem_cons_self -> zq, mem_cons -> zu, replicate -> zw, all_eq_true -> zx, mem_map -> zy, mem_singleton -> zC, length_append -> zF, mem_cons_of_mem -> zH, length_map -> zI, map_append -> zK, length_take -> zM, getElem?_map -> zN, map_cons -> zO, getElem?_eq_some_iff -> zQ, map_congr_left -> zR, range -> zU, mem_append -> zV, mem_append_left -> zZ, drop_drop -> z6, length_drop -> yc, map_map -> yg, mem_append_right -> yh, length_cons -> yo, take_length -> yp, getElem?_take -> yw, nodup_append -> yx, getElem?_append -> yB, getElem?_drop -> yC, replicate_succ -> yE, getElem_mem -> yJ, size_toArray -> yK, nil_append -> yR, length_set -> yS, append_assoc -> yT, map_nil -> yU, append_nil -> yW, nodup_nil -> yY, cons_append -> yZ, drop_eq_getElem_cons -> y7, getElem?_eq_none -> xw, eq_nil_of_length_eq_zero -> xx, take_append_drop -> xF, flatMap_cons -> xH, map_take -> xI, map_drop -> xJ, map_id -> xK, length_range -> xS, nodup_cons -> xT, length_replicate -> xU, mem_flatMap -> xV, getElem_take -> xW, perm_middle -> xX, getElem_of_mem -> wh, flatten_cons -> wk, mem_of_mem_drop -> wo, set_eq_take_append_cons_drop -> wF, eraseIdx_eq_take_drop_succ -> wG, length_pos_iff -> wH
open Array renaming length_toList -> yf, getElem?_eq_some_iff -> ym, getElem?_eq_getElem -> xk
open Decidable renaming decide -> Z
set_option linter.unusedSectionVars false
set_option linter.unusedVariables false
set_option linter.unusedSimpArgs false
set_option linter.defProp false
abbrev Prod.t{α β γ:Type _}(z:α×β×γ):γ:=z.2.2
abbrev Prod.q{α β γ δ ε:Type _}(z:α×β×γ×δ×ε):ε:=z.2.2.2.2
abbrev af(α:Type _):=Option α
abbrev aa(α:Type _):=List α
namespace Go
theorem dw:∀ {p:Prop} [inst:Decidable p],¬p→decide p=V:=@decide_eq_false
theorem iN:∀ {p:Prop} [inst:Decidable p],p→decide p=O:=@decide_eq_true
theorem cL{α:Sort _}(a b:α):cond V a b=b:=rfl
theorem dh{α:Sort _}(a b:α):cond O a b=a:=rfl
theorem bS{c:Prop}{h:Decidable c}(hc:c){α:Sort _}{t e:α}:(ite c t e)=t:=if_pos hc
theorem bT{c:Prop}{h:Decidable c}(hnc:¬c){α:Sort _}{t e:α}:(ite c t e)=e:=if_neg hnc
theorem fO(h:Decidable True):@decide True h=O:=decide_true h
theorem jk(h:Decidable False):@decide False h=V:=decide_false h
theorem dU{α:Sort _}{_:Decidable True}(t e:α):ite True t e=t:=if_true t e
theorem jP{α:Sort _}{_:Decidable False}(t e:α):ite False t e=e:=if_false t e
theorem gd(p:Prop):(p∧p)=p:=and_self p
def gI{a:Prop}{b:Sort _}(h1:a)(h2:¬a):b:=absurd h1 h2
end Go
noncomputable section
namespace Go.Iv
open Go Go.RowKit
inductive bM (cA:Nat->Type):Type
 |lit (v:Value)
 |sl (t:Nat) (l:List (cA t))
 |fp (cs:List (bM cA))
 |rp (v:Value) (k:Nat)
 |agg (cs:List (bM cA))
 |gH (vs:List (bM cA))
 |fn (f:Fn) (caps:List (bM cA))
 |own (id:Nat)
 |ptr (id off:Nat)
 |ra (id t m off:Nat)
class tQ where
 cA:Nat->Type
 inh:(t:Nat)->Inhabited (cA t)
 sz:Nat->Nat
 cells:(t:Nat)->cA t->List (bM cA)
instance [U:tQ] (t:Nat):Inhabited (U.cA t):=U.inh t
abbrev AV[U:tQ]:Type:=bM U.cA
variable [U:tQ]
def fD:Value->af Nat
 | .slice (Q a) _ (_+1)=>Q a.block
 |_=>J
def fM(w:World)(v:Value)(T:TypeId)(sz n:Nat)(us:aa Value):Prop:=
 us.length=n*sz/\((∃p,v= .slice p 0 0/\n=0)\/
  ∃g cap cur,v= .slice (Q ⟨g,0,J⟩) n (cap+1)/\w.heap[g]? =Q (.cells cur T (0,0))/\n<=cap+1/\cap+1<=maxLen/\cur.size=(cap+1)*sz/\cur.toList.take (n*sz)=us)
def fM.lt{w:World}{v:Value}{T:TypeId}{sz n:Nat}{us:aa Value}(h:fM w v T sz n us){b:Nat}(hb:fD v=Q b):b<w.heap.size:=by
 rcases h.2 with ⟨p,rfl,_⟩|⟨g,cap,cur,rfl,hg,_⟩
 ·cases p<;>cases hb
 ·cases hb;exact(ym.1 hg).1
def fM.kept{w w':World}{v:Value}{T:TypeId}{sz n:Nat}{us:aa Value}(h:fM w v T sz n us)(hb:∀b,fD v=Q b->w'.heap[b]? =w.heap[b]?):fM w' v T sz n us:=by
 refine⟨h.1,?_⟩;rcases h.2 with h1|⟨g,cap,cur,rfl,q1,q2⟩
 ·exact .inl h1
 ·exact .inr ⟨g,cap,cur,rfl,(hb g rfl).trans q1,q2⟩
inductive Rel (A:Nat->Prop) (w:World):AV->Value->Prop
 |lit (v:Value):Rel A w (.lit v) v
 |sl (t:Nat) (l:List (U.cA t)) (p:Option Addr) (cap:Nat) (u:Nat->Nat->Value)
   (hl:yz l<=9223372036854775807) (hcap:yz l<=cap) (hz:∀i,i<yz l->yz (U.cells t l[i]!)=U.sz t)
   (hc:∀i,i<yz l->∃b off,p=Q ⟨b,off,J⟩/\b<w.heap.size/\A b/\∀j,j<U.sz t->w.cell? ⟨b,off+i*U.sz t+j,J⟩=Q (u i j))
   (hr:∀i j a,i<yz l->(U.cells t l[i]!)[j]? =Q a->Rel A w a (u i j)):Rel A w (.sl t l) (.slice p (yz l) cap)
 |fp (cs:List AV) (b o:Nat) (us:List Value) (hb:b<w.heap.size) (hA:A b) (hl:yz us=yz cs)
   (hc:∀j v,us[j]? =Q v->w.cell? ⟨b,o+j,J⟩=Q v) (hr:∀(j:Nat) a v,cs[j]? =Q a->us[j]? =Q v->Rel A w a v):Rel A w (.fp cs) (.pointer (Q ⟨b,o,J⟩))
 |rp (v:Value) (k g:Nat) (h:fD v=Q g):Rel A w (.rp v k) (.pointer (Q ⟨g,k,J⟩))
 |agg (cs:List AV) (us:List Value) (hl:yz us=yz cs) (hr:∀(j:Nat) a v,cs[j]? =Q a->us[j]? =Q v->Rel A w a v):Rel A w (.agg cs) (.agg us.toArray)
 |gH (cs:List AV) (us:List Value) (hl:yz us=yz cs) (hr:∀(j:Nat) a v,cs[j]? =Q a->us[j]? =Q v->Rel A w a v):Rel A w (.gH cs) (.tuple us.toArray)
 |fn (f:Fn) (cs:List AV) (us:List Value) (hl:yz us=yz cs) (hr:∀(j:Nat) a v,cs[j]? =Q a->us[j]? =Q v->Rel A w a v):Rel A w (.fn f cs) (.func f #[] us.toArray)
def Rel.mono{A A':Nat->Prop}{w w':World}{a:AV}{v:Value}(h:Rel A w a v)(hk:∀b,b<w.heap.size->A b->A' b/\w'.heap[b]? =w.heap[b]?):Rel A' w' a v:=by
 have hsz:∀b,b<w.heap.size->A b->b<w'.heap.size:=λb hb hA=>by
  have h1:=(hk b hb hA).2;rw[xk hb]at h1;exact(ym.1 h1).1
 have hcell:∀b o,b<w.heap.size->A b->w'.cell? ⟨b,o,J⟩=w.cell? ⟨b,o,J⟩:=λb o hb hA=>by
  simp[World.cell?,(hk b hb hA).2]
 induction h with
 |lit v=>exact .lit v
 |sl t l p cap u hl hcap hz hc hr ih=>
  refine .sl t l p cap u hl hcap hz (λi hi=> ?_) ih;obtain⟨b,off,h1,h2,h3,h4⟩:=hc i hi;exact⟨b,off,h1,hsz b h2 h3,(hk b h2 h3).1,λj hj=>by rw[hcell b _ h2 h3];exact h4 j hj⟩
 |fp cs b o us hb hA hl hc hr ih=>exact .fp cs b o us (hsz b hb hA) (hk b hb hA).1 hl (λj v hj=>by rw[hcell b _ hb hA];exact hc j v hj) ih
 |rp v k g h=>exact .rp v k g h
 |agg cs us hl hr ih=>exact .agg cs us hl ih
 |gH cs us hl hr ih=>exact .gH cs us hl ih
 |fn f cs us hl hr ih=>exact .fn f cs us hl ih
def bn(A:Nat->Prop)(w:World)(as0:aa AV)(us:aa Value):Prop:=yz us=yz as0/\∀(j:Nat) a v,as0[j]? =Q a->us[j]? =Q v->Rel A w a v
def bn.mono{A A':Nat->Prop}{w w':World}{as0:aa AV}{us:aa Value}(h:bn A w as0 us)(hk:∀b,b<w.heap.size->A b->A' b/\w'.heap[b]? =w.heap[b]?):bn A' w' as0 us:=⟨h.1,λj a v h1 h2=>(h.2 j a v h1 h2).mono hk⟩
def Rel.bI{A:Nat->Prop}{w:World}{u v:Value}(h:Rel A w (.lit u) v):v=u:=by
 generalize ha:bM.lit u=a at h;cases h with
 |lit v=>cases ha;rfl
 |_=>cases ha
def YG(w:World)(b:Nat)(cs:Array Value)(T:TypeId):Prop:=w.heap[b]? =Q (.cells cs T (0,0))
def YG.lt{w:World}{b:Nat}{cs:Array Value}{T:TypeId}(h:YG w b cs T):b<w.heap.size:=(ym.1 h).1
def YG.cell{w:World}{b:Nat}{cs:Array Value}{T:TypeId}(h:YG w b cs T){i:Nat}{v:Value}(hv:cs[i]? =Q v):w.cell? ⟨b,i,J⟩=Q v:=by
 unfold YG at h;simp[World.cell?,h,hv]
inductive bH:Type
 |box (b:Nat) (T:TypeId) (cs:List AV)
 |row (v:Value) (t:Nat) (l:List (U.cA t))
 |mp (v:Value) (es:List (AV×AV))
def U3:Value->af Nat
 | .map r=>r
 |_=>J
def bH.blk:bH->af Nat
 | .box b _ _=>Q b
 | .row v _ _=>fD v
 | .mp v _=>U3 v
def bH.ok(A:Nat->Prop)(w:World):bH->Prop
 | .box b T cs=>∃us:aa Value,YG w b us.toArray T/\bn A w cs us
 | .row v t l=>∃us:aa Value,fM w v t (U.sz t) (yz l) us/\(∀i,i<yz l->yz (U.cells t l[i]!)=U.sz t)/\∀i,i<yz l->bn A w (U.cells t l[i]!) ((us.drop (i*U.sz t)).take (U.sz t))
 | .mp v es=>∃b ar cl,v= .map (Q b)/\w.heap[b]? =Q (.map ar cl)/\∃fs:aa (AV×AV),List.Perm fs es/\fs.Pairwise (λa b=>a.1≠b.1)/\ar.size=yz fs/\∀(i:Nat) e m,fs[i]? =Q e->ar[i]? =Q m->Rel A w e.1 m.key/\Rel A w e.2 m.val
def aY(σ:aa bH):aa Nat:=σ.filterMap bH.blk
def bw{σ:aa bH}{b:Nat}:b∈aY σ↔∃r∈σ,r.blk=Q b:=by simp[aY]
def bH.ok.lt{A:Nat->Prop}{w:World}{r:bH}(h:r.ok A w){b:Nat}(hb:r.blk=Q b):b<w.heap.size:=by
 cases r with
 |box b' T cs=>obtain⟨us,h1,_⟩:=h;cases hb;exact h1.lt
 |row v t l=>obtain⟨us,h1,_⟩:=h;exact h1.lt hb
 |mp v es=>obtain⟨b',ar,cl,rfl,h1,_⟩:=h;cases hb;exact(ym.1 h1).1
def bH.ok.mono{A A':Nat->Prop}{w w':World}{r:bH}(h:r.ok A w)(hk:∀b,b<w.heap.size->A b->A' b/\w'.heap[b]? =w.heap[b]?)(hb:∀b,r.blk=Q b->w'.heap[b]? =w.heap[b]?):r.ok A' w':=by
 cases r with
 |box b T cs=>
  obtain⟨us,h1,h2⟩:=h;exact⟨us,(hb b rfl).trans h1,h2.mono hk⟩
 |row v t l=>
  obtain⟨us,h1,h2,h3⟩:=h;exact⟨us,h1.kept hb,h2,λi h4=>(h3 i h4).mono hk⟩
 |mp v es=>
  obtain⟨b,ar,cl,rfl,h1,fs,hp,hq,h2,h3⟩:=h;exact⟨b,ar,cl,rfl,(hb b rfl).trans h1,fs,hp,hq,h2,λi e m q1 q2=>⟨(h3 i e m q1 q2).1.mono hk,(h3 i e m q1 q2).2.mono hk⟩⟩
structure Kp (X:List Nat) (w w':World):Prop where
 os:w'.os=w.os
 tape:w'.tape=w.tape
 output:w'.output=w.output
 size:w.heap.size<=w'.heap.size
 block:∀k,k<w.heap.size->k∉X->w'.heap[k]? =w.heap[k]?
def Kp.refl(X:aa Nat)(w:World):Kp X w w:=⟨rfl,rfl,rfl,zA _,λ_ _ _=>rfl⟩
def Kp.trans{X Y:aa Nat}{w w1 w2:World}(h:Kp X w w1)(h':Kp Y w1 w2)(hY:∀b,b∈Y->b<w.heap.size->b∈X):Kp X w w2:=
 ⟨h'.os.trans h.os,h'.tape.trans h.tape,h'.output.trans h.output,zY h.size h'.size,λk hk hX=>
  (h'.block k (yN hk h.size) (λhy=>hX (hY k hy hk))).trans (h.block k hk hX)⟩
def Kp.drew(w:World):Kp [] w w.drew:=⟨rfl,rfl,rfl,zA _,λ_ _ _=>rfl⟩
def Kp.below{w w':World}(h:Kp [] w w'):Below w.heap.size w w':=⟨h.os,h.tape,h.output,h.size,λk hk=>h.block k hk (by simp)⟩
structure Cx where
 w0:World
 A0:Nat->Prop
 O0:List Nat
def al(C:Cx)(σ:aa bH)(b:Nat):Prop:=(C.A0 b\/b∈C.O0\/C.w0.heap.size<=b)/\b∉aY σ
structure Good (C:Cx) (σ:List bH) (w:World):Prop where
 kept:Kp C.O0 C.w0 w
 res:∀r∈σ,r.ok (al C σ) w
 sN:(aY σ).Nodup
 own:∀b∈aY σ,b∈C.O0\/C.w0.heap.size<=b
structure Tr (C:Cx) (X:List Nat) (σ:List bH) (w:World) (σ':List bH) (w':World):Prop where
 good:Good C σ' w'
 kp:Kp X w w'
 al:∀b,b<w.heap.size->al C σ b->al C σ' b/\b∉X
def Tr.keep{C:Cx}{X:aa Nat}{σ σ':aa bH}{w w':World}(t:Tr C X σ w σ' w'):∀b,b<w.heap.size->Iv.al C σ b->Iv.al C σ' b/\w'.heap[b]? =w.heap[b]? :=
 λb hb h=>⟨(t.al b hb h).1,t.kp.block b hb (t.al b hb h).2⟩
abbrev Env:=aa (Nat×AV)
def Env.get:Env->Nat->af AV
 |[],_=>J
 |(k,v)::E,t=>match zh k t with
  |true=>Q v
  |false=>Env.get E t
def Env.ev(E:Env):Operand->af AV
 | .tmp t=>Env.get E t
 | .const v=>Q (.lit v)
 | .global g=>Q (.lit (.pointer (Q ⟨g,0,J⟩)))
 | .func f=>Q (.fn (.func f) [])
def Env.dP(E:Env)(d:Nat)(v:AV):Env.get ((d,v)::E) d=Q v:=by
 have h:zh d d=O:=yH d;simp only[Env.get,h]
def Env.cW(E:Env){d t:Nat}(v:AV)(h:d≠t):Env.get ((d,v)::E) t=Env.get E t:=by
 have h':zh d t=V:=by
  cases hb:zh d t with
  |false=>rfl
  |true=>exact gI (yI hb) h
 simp only[Env.get,h']
def fS(A:Nat->Prop)(w:World)(E:Env)(tmps:Array Value):Prop:=∀t av,Env.get E t=Q av->∃v,tmps[t]? =Q v/\Rel A w av v
def Dq(C:Cx)(σ:aa bH)(a:Act)(w:World):Prop:=∃Ds:aa Nat,a.defers=Ds.map (λD=>{target:= .collected D,args:=#[]})/\Ds.Nodup/\
 ∀D∈Ds,D<w.heap.size/\C.w0.heap.size<=D/\D∉aY σ/\w.heap[D]? =Q (.deferred (Q []))
def Dq.nil{C:Cx}{σ:aa bH}{a:Act}{w:World}(h:a.defers=[]):Dq C σ a w:=⟨[],h,yY,λ_ h=>by cases h⟩
def Dq.step{C:Cx}{σ σ':aa bH}{a:Act}{w w':World}(h:Dq C σ a w)(hk:∀b,b<w.heap.size->al C σ b->al C σ' b/\w'.heap[b]? =w.heap[b]?):Dq C σ' a w':=by
 obtain⟨Ds,h1,h2,h3⟩:=h;refine⟨Ds,h1,h2,λD hD=> ?_⟩;obtain⟨q1,q2,q3,q4⟩:=h3 D hD;obtain⟨p1,p2⟩:=hk D q1 ⟨.inr (.inr q2),q3⟩;have p3:=p2.trans q4;exact⟨(ym.1 p3).1,q2,p1.2,p3⟩
structure jH (C:Cx) (n:Nat) (E:Env) (σ:List bH) (a:Act) (w:World):Prop where
 defers:Dq C σ a w
 size:a.tmps.size=n
 slots:fS (al C σ) w E a.tmps
 good:Good C σ w
def JT(A:Nat->Prop)(w:World)(E:Env)(ρ:Operand->Value):Prop:=∀x u,E.ev x=Q u->Rel A w u (ρ x)
section
variable {C:Cx} {n:Nat} {E E':Env} {σ σ':aa bH} {a:Act} {w w':World} {x:Operand} {v:Value} {av:AV} {d:Nat} {A:Nat->Prop}
def fS.ops(h:fS A w E a.tmps):JT A w E a.eval:=λx u hx=>by
 cases x with
 |tmp t=>
  obtain⟨v,h1,h2⟩:=h t u hx;simpa [Act.eval,h1]using h2
 |const u=>
  simp only[Env.ev,zG.injEq]at hx;subst hx;exact .lit _
 |global g=>
  simp only[Env.ev,zG.injEq]at hx;subst hx;exact .lit _
 |func f=>
  simp only[Env.ev,zG.injEq]at hx;subst hx;exact .fn _ [] [] rfl (λj a v h=>by cases h)
def fS.put(h:fS A w E a.tmps)(hd:d<a.tmps.size)(hv:Rel A w av v):fS A w ((d,av)::E) (a.put (Q d) v).tmps:=λt u ht=>by
 by_cases hdt:d=t
 ·subst hdt;rw[Env.dP]at ht;cases ht;exact⟨v,by simp[Act.put,hd],hv⟩
 ·rw[Env.cW _ _ hdt]at ht;obtain⟨v',h1,h2⟩:=h t u ht;exact⟨v',by simp[Act.put,Array.getElem?_setIfInBounds_ne hdt,h1],h2⟩
def jH.put(h:jH C n E σ a w)(hd:zD d n=O)(hv:Rel (al C σ) w av v):jH C n ((d,av)::E) σ (a.put (Q d) v) w:=
 ⟨h.defers,by simpa [Act.put]using h.size,h.slots.put (by rw[h.size];simpa using hd) hv,h.good⟩
def jH.tr{X:aa Nat}(h:jH C n E σ a w)(t:Tr C X σ w σ' w'):jH C n E σ' a w':=
 ⟨h.defers.step t.keep,h.size,λi u hi=>let ⟨v,h1,h2⟩:=h.slots i u hi;⟨v,h1,h2.mono t.keep⟩,t.good⟩
def Sub(E E':Env):Prop:=∀t v,Env.get E t=Q v->Env.get E' t=Q v
def Sub.nil:Sub [] E:=λ_ _ h=>by cases h
def Sub.cons(h:Env.get E' d=Q av)(hs:Sub E E'):Sub ((d,av)::E) E':=λt u ht=>by
 by_cases hdt:d=t
 ·subst hdt;rw[Env.dP]at ht;simp_all
 ·rw[Env.cW _ _ hdt]at ht;exact hs t u ht
end
def Hd(A:Nat->Prop)(σ:aa bH)(w:World):Prop:=(∀r∈σ,r.ok A w)/\∀b∈aY σ,¬A b
def Good.hd{C:Cx}{σ:aa bH}{w:World}(h:Good C σ w):Hd (al C σ) σ w:=⟨h.res,λ_ hb hA=>hA.2 hb⟩
section
variable (P:Program) (E:Env) (σ:aa bH) (o:Oper)
def Yp(av:AV):Prop:=∀(A:Nat->Prop) (w:World) (ρ:Operand->Value),Hd A σ w->JT A w E ρ->
 ∃v,Rel A w av v/\∀w':World,(∀b,b<w.heap.size->(A b\/b∈aY σ)->w'.heap[b]? =w.heap[b]?)->(execOp ρ o).run P w'= .ok (.value v) w'
def Yv(C:Cx)(X:aa Nat)(N:AV->aa bH->Prop):Prop:=∀(w:World) (ρ:Operand->Value),Good C σ w->JT (al C σ) w E ρ->
 ∃v w' av σ',N av σ'/\Tr C X σ w σ' w'/\(execOp ρ o).run P w= .ok (.value v) w'/\Rel (al C σ') w' av v
def Yu(C:Cx)(X:aa Nat)(σ':aa bH):Prop:=∀(w:World) (ρ:Operand->Value),Good C σ w->JT (al C σ) w E ρ->
 ∃w',Tr C X σ w σ' w'/\(execOp ρ o).run P w= .ok .skip w'
def Yc(C:Cx)(X:aa Nat)(N:AV->aa bH->Prop):Prop:=∀(w:World) (ρ:Operand->Value),Good C σ w->JT (al C σ) w E ρ->
 ∃f args,(execOp ρ o).run P w= .ok (.enter f args) w/\Calls P f args w λe w'=>∃v av σ',e= .returned v/\N av σ'/\Tr C X σ w σ' w'/\Rel (al C σ') w' av v
def iz(ops:Array Oper):af Bool:=
 match o.guard with
 |none=>Q O
 |some (j,want)=>match (ops[j]?).bind (·.dst)with
  |none=>J
  |some t=>match Env.get E t with
   |some (.lit (.bool b))=>Q (b==want)
   |some (.lit (.tuple _))=>Q V
   |_=>J
end
def iz.spec{A:Nat->Prop}{w:World}{E:Env}{o:Oper}{ops:Array Oper}{tmps:Array Value}{b:Bool}(h:fS A w E tmps)(hw:iz E o ops=Q b):Region.wanted o (yielded ops tmps)=b:=by
 unfold iz at hw;unfold Region.wanted;cases hg:o.guard with
 |none=>rw[hg]at hw;simpa using hw
 |some gw=>
  obtain⟨j,want⟩:=gw;rw[hg]at hw;simp only at hw ⊢;cases ht:(ops[j]?).bind (·.dst)with
  |none=>rw[ht]at hw;cases hw
  |some t=>
   rw[ht]at hw;simp only at hw;cases he:Env.get E t with
   |none=>rw[he]at hw;cases hw
   |some u=>
    obtain⟨v,hv,hr⟩:=h t u he;rw[he]at hw;have hy:yielded ops tmps j=match v with| .bool b=>Q b|_=>J:=by
     unfold yielded;rw[ht];simp only[Option.bind_some,hv];cases v<;>rfl
    cases u with
    |lit u=>
     have hvu:=hr.bI;subst hvu;cases v<;>simp only at hw hy<;>first|(cases hw;done)|skip
     ·simp_all
     ·simp_all
    |_=>cases hw
def Q1(C:Cx)(n:Nat)(K:Env->aa bH->Prop)(ds:aa Deferred):Exit->Act->World->Prop:=λe a w=>e= .normal/\a.defers=ds/\∃E σ,jH C n E σ a w/\K E σ
def RW(P:Program)(C:Cx)(n:Nat)(ops:Array Oper)(K:Env->aa bH->Prop)(rest:aa Oper)(E:Env)(σ:aa bH):Prop:=
 ∀a w,jH C n E σ a w->wpList P ops (Q1 C n K a.defers) rest a w
section
variable {P:Program} {C:Cx} {n:Nat} {ops:Array Oper} {K:Env->aa bH->Prop} {rest:aa Oper} {E E':Env} {σ σ':aa bH} {o:Oper} {av:AV} {d:Nat} {X:aa Nat} {N:AV->aa bH->Prop}
def RW.nil(h:K E σ):RW P C n ops K [] E σ:=λ_ _ ha=>⟨rfl,rfl,E,σ,ha,h⟩
def RW.p(hg:iz E o ops=Q O)(hd:o.dst=Q d)(hn:zD d n=O)(hr:Yp P E σ o av)(next:RW P C n ops K rest ((d,av)::E) σ):RW P C n ops K (o::rest) E σ:=by
 intro a w ha;refine wpList_step λK' hK=> ?_;rw[bS (iz.spec ha.slots hg)];unfold Oper.wp;obtain⟨v,h1,h2⟩:=hr _ w a.eval ha.good.hd ha.slots.ops;rw[h2 w (λ_ _ _=>rfl)];show K' (a.put o.dst v) w;rw[hd];exact hK _ _ (next _ _ (ha.put hn h1))
def RW.v(hg:iz E o ops=Q O)(hd:o.dst=Q d)(hn:zD d n=O)(hr:Yv P E σ o C X N)(next:∀av σ',N av σ'->RW P C n ops K rest ((d,av)::E) σ'):RW P C n ops K (o::rest) E σ:=by
 intro a w ha;refine wpList_step λK' hK=> ?_;rw[bS (iz.spec ha.slots hg)];unfold Oper.wp;obtain⟨v,w',av,σ',h1,h2,h3,h4⟩:=hr w a.eval ha.good ha.slots.ops;rw[h3];show K' (a.put o.dst v) w';rw[hd];exact hK _ _ (next _ _ h1 _ _ ((ha.tr h2).put hn h4))
def RW.u(hg:iz E o ops=Q O)(hd:o.dst=J)(hr:Yu P E σ o C X σ')(next:RW P C n ops K rest E σ'):RW P C n ops K (o::rest) E σ:=by
 intro a w ha;refine wpList_step λK' hK=> ?_;rw[bS (iz.spec ha.slots hg)];unfold Oper.wp;obtain⟨w',h2,h3⟩:=hr w a.eval ha.good ha.slots.ops;rw[h3];show K' (a.put o.dst undef) w';rw[hd];exact hK _ _ (next _ _ (ha.tr h2))
end
structure Bs (X:List Nat) (A1:Nat->Prop) (w1:World) (σS:List bH):Prop where
 hd:Hd A1 σS w1
 nA:∀b,A1 b->b∉X
 nS:∀b∈aY σS,b∉X
def S1(X:aa Nat)(w1 w:World):Prop:=w1.heap.size<=w.heap.size/\∀b,b<w1.heap.size->b∉X->w.heap[b]? =w1.heap[b]?
section
variable {P:Program} {C:Cx} {n:Nat} {ops:Array Oper} {X X':aa Nat} {A1:Nat->Prop} {w1:World} {σS:aa bH} {K:Env->aa bH->Prop} {fuel:Nat} {listed:Array Bool} {i:Nat} {Eb E:Env} {σ σ':aa bH} {o:Oper} {av:AV} {d:Nat} {N:AV->aa bH->Prop}
end
def CW(P:Program)(C:Cx)(n:Nat)(c:Code)(zg:Exit->Env->aa bH->Prop)(E:Env)(σ:aa bH):Prop:=
 ∀a w,jH C n E σ a w->c.wp P (λe a' w'=>∃E' σ',jH C n E' σ' a' w'/\zg e E' σ') a w
def aC6(P:Program)(C:Cx)(n:Nat)(y:Code)(zg:Exit->Env->aa bH->Prop):Exit->Env->aa bH->Prop
 | .normal,E,σ=>CW P C n y zg E σ
 |e,E,σ=>zg e E σ
def Fo(id:Nat)(zg:Exit->Env->aa bH->Prop):Exit->Env->aa bH->Prop
 | .exit id',E,σ=>match zh id' id with
  |true=>zg .normal E σ
  |false=>zg (.exit id') E σ
 |e,E,σ=>zg e E σ
section
variable {P:Program} {C:Cx} {n:Nat} {c x y:Code} {zg Q':Exit->Env->aa bH->Prop} {E E':Env} {σ σ':aa bH}
def CW.seq(h:CW P C n x (aC6 P C n y zg) E σ):CW P C n (.seq x y) zg E σ:=λa w ha=>by
 refine wp_seq (wp_mono (h a w ha) λe a' w' ⟨E',σ',h1,h2⟩=> ?_);cases e with
 |normal=>exact h2 a' w' h1
 |_=>exact⟨E',σ',h1,h2⟩
def CW.block{id:Nat}(h:CW P C n c (Fo id zg) E σ):CW P C n (.block id c) zg E σ:=λa w ha=>by
 refine wp_block (wp_mono (h a w ha) λe a' w' ⟨E',σ',h1,h2⟩=> ?_);cases e with
 |exit id'=>
  simp only[Fo]at h2;simp only[Exit.inBlock];split
  ·rename_i he;subst he;have hb:zh id' id'=O:=yH _;simp only[hb]at h2;exact⟨E',σ',h1,h2⟩
  ·rename_i he;have hb:zh id' id=V:=by
    cases hb:zh id' id with
    |false=>rfl
    |true=>exact gI (yI hb) he
   grind
 |_=>exact⟨E',σ',h1,h2⟩
def CW.ret(h:zg .ret E σ):CW P C n .ret zg E σ:=λ_ _ ha=>wp_ret ⟨E,σ,ha,h⟩
def MH{a:Act}{w:World}{cnd:Operand}{b:Bool}(ha:jH C n E σ a w)(hc:E.ev cnd=Q (.lit (.bool b))):a.eval cnd= .bool b:=by
 exact(ha.slots.ops _ _ hc).bI
def CW.region{id:Nat}{l:aa Oper}(h:RW P C n l.toArray (λE' σ'=>zg .normal E' σ') l E σ):CW P C n (.region id l.toArray V) zg E σ:=λa w ha=>by
 refine wp_mono (wp_region_lit (h a w ha)) λe a' w' ⟨he,_,E',σ',h1,h2⟩=> ?_;subst he;exact⟨E',σ',h1,h2⟩
def Good.drew{w:World}(h:Good C σ w):Good C σ w.drew:=
 ⟨h.kept.trans (Kp.drew w) (by simp),λr hr=>(h.res r hr).mono (λb _ hA=>⟨hA,rfl⟩) (λ_ _=>rfl),h.sN,h.own⟩
def jH.drew{a:Act}{w:World}(h:jH C n E σ a w):jH C n E σ a w.drew:=
 ⟨h.defers,h.size,λi u hi=>let ⟨v,h1,h2⟩:=h.slots i u hi;⟨v,h1,h2.mono λ_ _ hA=>⟨hA,rfl⟩⟩,h.good.drew⟩
def gJ{σ σ':aa bH}(h:∀r∈σ',r∈σ):∀b∈aY σ',b∈aY σ:=λb hb=>by
 obtain⟨r,h1,h2⟩:=bw.1 hb;exact bw.2 ⟨r,h r h1,h2⟩
def jH.less{a:Act}{w:World}(h:jH C n E σ a w)(hs:List.Sublist σ' σ):jH C n E σ' a w:=by
 have hm:∀r∈σ',r∈σ:=λr hr=>hs.subset hr;have hal:∀b,al C σ b->al C σ' b:=λb hb=>⟨hb.1,λhx=>hb.2 (gJ hm b hx)⟩;exact⟨h.defers.step (λb _ hA=>⟨hal b hA,rfl⟩),h.size,λi u hi=>let ⟨v,h1,h2⟩:=h.slots i u hi;⟨v,h1,h2.mono λb _ hA=>⟨hal b hA,rfl⟩⟩,
  ⟨h.good.kept,λr hr=>(h.good.res r (hm r hr)).mono (λb _ hA=>⟨hal b hA,rfl⟩) (λ_ _=>rfl),h.good.sN.sublist (hs.filterMap _),λb hb=>h.good.own b (gJ hm b hb)⟩⟩
def jH.perm{a:Act}{w:World}(h:jH C n E σ a w)(hp:List.Perm σ σ'):jH C n E σ' a w:=by
 have hb:∀b,b∈aY σ'↔b∈aY σ:=λb=>(hp.filterMap _).symm.mem_iff;have hal:∀b,al C σ b->al C σ' b:=λb hA=>⟨hA.1,λhx=>hA.2 ((hb b).1 hx)⟩;exact⟨h.defers.step (λb _ hA=>⟨hal b hA,rfl⟩),h.size,λi u hi=>let ⟨v,h1,h2⟩:=h.slots i u hi;⟨v,h1,h2.mono λb _ hA=>⟨hal b hA,rfl⟩⟩,
  ⟨h.good.kept,λr hr=>(h.good.res r (hp.mem_iff.2 hr)).mono (λb _ hA=>⟨hal b hA,rfl⟩) (λ_ _=>rfl),(hp.filterMap _).nodup_iff.1 h.good.sN,λb hx=>h.good.own b ((hb b).1 hx)⟩⟩
end
end Go.Iv
end
noncomputable section
namespace Go.Iv
variable [U:tQ]
open Go Go.RowKit
def mS(k:IntKind)(x y:Int):Int:=k.wrap ((BitVec.ofInt k.bits x&&&BitVec.ofInt k.bits y).toNat)
def bOr(k:IntKind)(x y:Int):Int:=k.wrap ((BitVec.ofInt k.bits x|||BitVec.ofInt k.bits y).toNat)
def ap3(k:IntKind)(x y:Int):Int:=k.wrap ((BitVec.ofInt k.bits x^^^BitVec.ofInt k.bits y).toNat)
def alu(k:IntKind)(x y:Int):Int:=k.wrap ((BitVec.ofInt k.bits x&&& ~~~ BitVec.ofInt k.bits y).toNat)
def qF(k:IntKind)(x y:Int):Int:=k.wrap (x*2^(min y.toNat k.bits))
def cF(k:IntKind)(x y:Int):Int:=x.fdiv (2^(min y.toNat k.bits))
abbrev bM.i{cA:Nat->Type}(n:Int):bM cA:= .lit (.int .i64 n)
abbrev bM.n{cA:Nat->Type}(k:IntKind)(n:Int):bM cA:= .lit (.int k n)
abbrev bM.b{cA:Nat->Type}(b:Bool):bM cA:= .lit (.bool b)
abbrev bM.s{cA:Nat->Type}(s:ByteArray):bM cA:= .lit (.string s)
section
variable {A:Nat->Prop} {w:World} {as0 bs:aa AV} {us vs:aa Value} {a:AV} {v:Value}
def bn.nil:bn A w [] []:=⟨rfl,λj a v h=>by cases h⟩
def bn.cons(h:Rel A w a v)(hs:bn A w as0 us):bn A w (a::as0) (v::us):=by
 refine⟨by simp[hs.1],λj x y h1 h2=> ?_⟩;cases j with
 |zero=>simp at h1 h2;subst h1 h2;exact h
 |succ j=>exact hs.2 j x y (by simpa using h1) (by simpa using h2)
def bn.head(h:bn A w (a::as0) us):∃v us',us=v::us'/\Rel A w a v/\bn A w as0 us':=by
 match us,h with
 |[],h=>exact gI h.1 (by simp)
 |v::us',h=>exact⟨v,us',rfl,h.2 0 a v rfl rfl,by simpa using h.1,λj x y h1 h2=>h.2 (j+1) x y (by simpa using h1) (by simpa using h2)⟩
def bn.app(h:bn A w as0 us)(h':bn A w bs vs):bn A w (as0++bs) (us++vs):=by
 refine⟨by simp[h.1,h'.1],λj x y h1 h2=> ?_⟩;rw[yB]at h1 h2;rw[h.1]at h2;split at h1
 ·rw[bS (by assumption)]at h2;exact h.2 j x y h1 h2
 ·rw[bT (by assumption)]at h2;exact h'.2 _ x y h1 h2
def bn.take(n:Nat)(h:bn A w as0 us):bn A w (as0.take n) (us.take n):=by
 refine⟨by simp[h.1],λj x y h1 h2=> ?_⟩;rw[yw]at h1 h2;split at h1
 ·rw[bS (by assumption)]at h2;exact h.2 j x y h1 h2
 ·cases h1
def bn.drop(n:Nat)(h:bn A w as0 us):bn A w (as0.drop n) (us.drop n):=by
 refine⟨by simp[h.1],λj x y h1 h2=> ?_⟩;rw[yC]at h1 h2;exact h.2 _ x y h1 h2
def bn.get(h:bn A w as0 us){j:Nat}(hj:as0[j]? =Q a):∃v,us[j]? =Q v/\Rel A w a v:=by
 have hlt:j<yz us:=by rw[h.1];exact(zQ.1 hj).1
 exact⟨us[j],zm hlt,h.2 j a _ hj (zm hlt)⟩
def bn.lits(us:aa Value):bn A w (us.map .lit) us:=⟨by simp,λj a v h1 h2=>by
 rw[zN,h2]at h1;cases h1;exact .lit v⟩
def Rel.kj{cs:aa AV}(h:bn A w cs us):Rel A w (.agg cs) (.agg us.toArray):= .agg cs us h.1 h.2
def Rel.w8{cs:aa AV}(h:bn A w cs us):Rel A w (.gH cs) (.tuple us.toArray):= .gH cs us h.1 h.2
end
section
variable {A:Nat->Prop} {w:World} {v:Value} {cs:aa AV}
def Rel.fG(h:Rel A w (.agg cs) v):∃us:aa Value,v= .agg us.toArray/\bn A w cs us:=by
 generalize ha:bM.agg cs=a at h;cases h with
 |agg cs us hl hr=>cases ha;exact⟨us,rfl,hl,hr⟩
 |_=>cases ha
def Rel.ME(h:Rel A w (.gH cs) v):∃us:aa Value,v= .tuple us.toArray/\bn A w cs us:=by
 generalize ha:bM.gH cs=a at h;cases h with
 |gH cs us hl hr=>cases ha;exact⟨us,rfl,hl,hr⟩
 |_=>cases ha
def Rel.Ud{f:Fn}(h:Rel A w (.fn f cs) v):∃us:aa Value,v= .func f #[] us.toArray/\bn A w cs us:=by
 generalize ha:bM.fn f cs=a at h;cases h with
 |fn f cs us hl hr=>cases ha;exact⟨us,rfl,hl,hr⟩
 |_=>cases ha
def Rel.tR(h:Rel A w (.fp cs) v):∃b o us,v= .pointer (Q ⟨b,o,J⟩)/\b<w.heap.size/\A b/\(∀(j:Nat) u,us[j]? =Q u->w.cell? ⟨b,o+j,J⟩=Q u)/\bn A w cs us:=by
 generalize ha:bM.fp cs=a at h;cases h with
 |fp cs b o us hb hA hl hc hr=>cases ha;exact⟨b,o,us,rfl,hb,hA,hc,hl,hr⟩
 |_=>cases ha
def Rel.CY{u:Value}{k:Nat}(h:Rel A w (.rp u k) v):∃g,fD u=Q g/\v= .pointer (Q ⟨g,k,J⟩):=by
 generalize ha:bM.rp u k=a at h;cases h with
 |rp u k g h=>cases ha;exact⟨g,h,rfl⟩
 |_=>cases ha
def Rel.oq{q:Nat}{l:aa (U.cA q)}(h:Rel A w (.sl q l) v):∃p cap,∃u:Nat->Nat->Value,v= .slice p (yz l) cap/\yz l<=9223372036854775807/\yz l<=cap/\(∀i,i<yz l->yz (U.cells q l[i]!)=(U.sz q))/\
  (∀i,i<yz l->∃b off,p=Q ⟨b,off,J⟩/\b<w.heap.size/\A b/\∀j,j<(U.sz q)->w.cell? ⟨b,off+i*(U.sz q)+j,J⟩=Q (u i j))/\∀i j a,i<yz l->(U.cells q l[i]!)[j]? =Q a->Rel A w a (u i j):=by
 generalize ha:bM.sl q l=a at h;cases h with
 |sl q l p cap u hl hcap hz hc hr=>
  cases ha;exact⟨p,cap,u,rfl,hl,hcap,hz,hc,hr⟩
 |_=>cases ha
def Rel.aBf{q:Nat}{l:aa (U.cA q)}{p:af Addr}{n cap:Nat}(h:Rel A w (.sl q l) (.slice p n cap)){i:Nat}(hi:i<yz l):
  ∃b off us,p=Q ⟨b,off,J⟩/\b<w.heap.size/\A b/\yz us=(U.sz q)/\(∀(j:Nat) u,us[j]? =Q u->w.cell? ⟨b,off+i*(U.sz q)+j,J⟩=Q u)/\bn A w (U.cells q l[i]!) us:=by
 obtain⟨p',cap',u,hv,_,_,h1,h2,h3⟩:=h.oq;cases hv;obtain⟨b,off,hp,hb,hA,hc⟩:=h2 i hi;refine⟨b,off,(zU (U.sz q)).map (u i),hp,hb,hA,by simp,λj v hj=> ?_,by rw[zI,xS,h1 i hi],λj a v ha hv=> ?_⟩
 ·rw[zN]at hj;by_cases hlt:j<(U.sz q)
  ·simp_all
  ·simp_all
 ·have hlt:j<(U.sz q):=by rw[<-h1 i hi];exact(zQ.1 ha).1
  rw[zN,List.getElem?_range hlt]at hv;cases hv;exact h3 i j a hi ha
end
def fM.len{w:World}{v:Value}{T:TypeId}{sz n:Nat}{us:aa Value}(h:fM w v T sz n us):∃p cap,v= .slice p n cap/\n<=cap:=by
 rcases h.2 with ⟨p,rfl,rfl⟩|⟨g,cap,cur,rfl,hg,h1,_⟩
 ·simp
 ·exact⟨_,_,rfl,h1⟩
def fM.at{w:World}{v:Value}{T:TypeId}{sz n:Nat}{us:aa Value}(h:fM w v T sz n us)(hn:0<n):∃g cap cur,v= .slice (Q ⟨g,0,J⟩) n (cap+1)/\fD v=Q g/\YG w g cur T/\n<=cap+1/\cap+1<=maxLen/\cur.size=(cap+1)*sz/\cur.toList.take (n*sz)=us:=by
 rcases h.2 with ⟨p,rfl,rfl⟩|⟨g,cap,cur,rfl,hg,h1⟩
 ·cases hn
 ·exact⟨g,cap,cur,rfl,rfl,hg,h1⟩
def fM.cells{w:World}{v:Value}{T:TypeId}{sz n:Nat}{us:aa Value}(h:fM w v T sz n us){g:Nat}(hg:fD v=Q g):∀(j:Nat) u,us[j]? =Q u->w.cell? ⟨g,j,J⟩=Q u:=λj u hj=>by
 rcases h.2 with ⟨p,rfl,rfl⟩|⟨g',cap,cur,rfl,q1,_,_,_,q2⟩
 ·cases p<;>cases hg
 ·cases hg;rw[<-q2,yw]at hj;split at hj
  ·exact YG.cell q1 (by simpa using hj)
  ·cases hj
def Env.IW(E:Env):aa Operand->af (aa AV)
 |[]=>Q []
 |x::xs=>match E.ev x,Env.IW E xs with
  |some a,Q as0=>Q (a::as0)
  |_,_=>J
def Env.FH{A:Nat->Prop}{w:World}{E:Env}{ρ:Operand->Value}(h:JT A w E ρ):∀{xs:aa Operand} {as0:aa AV},E.IW xs=Q as0->bn A w as0 (xs.map ρ)
 |[],as0,he=>by cases he;exact bn.nil
 |x::xs,as0,he=>by
  unfold Env.IW at he;cases h1:E.ev x with
  |none=>rw[h1]at he;cases he
  |some a=>
   cases h2:E.IW xs with
   |none=>rw[h1,h2]at he;cases he
   |some as'=>
    rw[h1,h2]at he;cases he;exact bn.cons (h x a h1) (Env.FH h h2)
section
variable {P:Program} {E:Env} {σ:aa bH} {o:Oper} {T T' e:TypeId} {x y z:Operand} {av bv:AV} {v u:Value} {m n:Int} {b:Bool} {k:IntKind}
def Yp.lits(h:∀ρ:Operand->Value,(∀x u,E.ev x=Q (.lit u)->ρ x=u)->∀w,(execOp ρ o).run P w= .ok (.value v) w):Yp P E σ o (.lit v):=λA w ρ _ hρ=>
 ⟨v, .lit v,λw' _=>h ρ (λx u hx=>(hρ x _ hx).bI) w'⟩
def Yp.move(ho:o.op= .move x)(hx:E.ev x=Q av):Yp P E σ o av:=λA w ρ _ hρ=>
 ⟨ρ x,hρ _ _ hx,λw' _=>by simp[execOp,ho]⟩
def Yp.assign(ho:o.op= .assign x)(hx:E.ev x=Q av):Yp P E σ o av:=λA w ρ _ hρ=>
 ⟨ρ x,hρ _ _ hx,λw' _=>by simp[execOp,ho]⟩
def Yp.auy(ho:o.op= .pick z x y)(hc:E.ev z=Q (.b O))(hx:E.ev x=Q av):Yp P E σ o av:=λA w ρ _ hρ=>
 ⟨ρ x,hρ _ _ hx,λw' _=>by simp[execOp,ho,(hρ _ _ hc).bI,asBool]⟩
def Yp.aqX(ho:o.op= .pick z x y)(hc:E.ev z=Q (.b V))(hx:E.ev y=Q av):Yp P E σ o av:=λA w ρ _ hρ=>
 ⟨ρ y,hρ _ _ hx,λw' _=>by simp[execOp,ho,(hρ _ _ hc).bI,asBool]⟩
def Yp.add(ho:o.op= .binOp .add T x y T')(hx:E.ev x=Q (.n k m))(hy:E.ev y=Q (.n k n)):Yp P E σ o (.n k (k.wrap (m+n))):=Yp.lits λρ hρ w=>by
 simp[execOp,ho,hρ _ _ hx,hρ _ _ hy,eqGuard,binOp,Op.intArith]
def Yp.sub(ho:o.op= .binOp .sub T x y T')(hx:E.ev x=Q (.n k m))(hy:E.ev y=Q (.n k n)):Yp P E σ o (.n k (k.wrap (m-n))):=Yp.lits λρ hρ w=>by
 simp[execOp,ho,hρ _ _ hx,hρ _ _ hy,eqGuard,binOp,Op.intArith]
def Yp.mul(ho:o.op= .binOp .mul T x y T')(hx:E.ev x=Q (.n k m))(hy:E.ev y=Q (.n k n)):Yp P E σ o (.n k (k.wrap (m*n))):=Yp.lits λρ hρ w=>by
 simp[execOp,ho,hρ _ _ hx,hρ _ _ hy,eqGuard,binOp,Op.intArith]
def Yp.quo(ho:o.op= .binOp .quo T x y T')(hx:E.ev x=Q (.n k m))(hy:E.ev y=Q (.n k n))(h:n≠0):Yp P E σ o (.n k (k.wrap (m.tdiv n))):=Yp.lits λρ hρ w=>by
 simp[execOp,ho,hρ _ _ hx,hρ _ _ hy,eqGuard,binOp,Op.intDiv,h]
def Yp.rem(ho:o.op= .binOp .rem T x y T')(hx:E.ev x=Q (.n k m))(hy:E.ev y=Q (.n k n))(h:n≠0):Yp P E σ o (.n k (m.tmod n)):=Yp.lits λρ hρ w=>by
 simp[execOp,ho,hρ _ _ hx,hρ _ _ hy,eqGuard,binOp,Op.intDiv,h]
def Yp.and(ho:o.op= .binOp .and T x y T')(hx:E.ev x=Q (.n k m))(hy:E.ev y=Q (.n k n)):Yp P E σ o (.n k (mS k m n)):=Yp.lits λρ hρ w=>by
 simp[execOp,ho,hρ _ _ hx,hρ _ _ hy,eqGuard,binOp,Op.intBits,mS]
def Yp.or(ho:o.op= .binOp .or T x y T')(hx:E.ev x=Q (.n k m))(hy:E.ev y=Q (.n k n)):Yp P E σ o (.n k (bOr k m n)):=Yp.lits λρ hρ w=>by
 simp[execOp,ho,hρ _ _ hx,hρ _ _ hy,eqGuard,binOp,Op.intBits,bOr]
def Yp.xor(ho:o.op= .binOp .xor T x y T')(hx:E.ev x=Q (.n k m))(hy:E.ev y=Q (.n k n)):Yp P E σ o (.n k (ap3 k m n)):=Yp.lits λρ hρ w=>by
 simp[execOp,ho,hρ _ _ hx,hρ _ _ hy,eqGuard,binOp,Op.intBits,ap3]
def Yp.andNot(ho:o.op= .binOp .andNot T x y T')(hx:E.ev x=Q (.n k m))(hy:E.ev y=Q (.n k n)):Yp P E σ o (.n k (alu k m n)):=Yp.lits λρ hρ w=>by
 simp[execOp,ho,hρ _ _ hx,hρ _ _ hy,eqGuard,binOp,Op.intBits,alu]
def Yp.shl{k':IntKind}(ho:o.op= .binOp .shl T x y T')(hx:E.ev x=Q (.n k m))(hy:E.ev y=Q (.n k' n))(h:0<=n):Yp P E σ o (.n k (qF k m n)):=Yp.lits λρ hρ w=>by
 have:¬n<0:=by omega
 simp[execOp,ho,hρ _ _ hx,hρ _ _ hy,eqGuard,binOp,Op.shift,qF,this]
def Yp.shr{k':IntKind}(ho:o.op= .binOp .shr T x y T')(hx:E.ev x=Q (.n k m))(hy:E.ev y=Q (.n k' n))(h:0<=n):Yp P E σ o (.n k (cF k m n)):=Yp.lits λρ hρ w=>by
 have:¬n<0:=by omega
 simp[execOp,ho,hρ _ _ hx,hρ _ _ hy,eqGuard,binOp,Op.shift,cF,this]
def Yp.lss(ho:o.op= .binOp .lss T x y T')(hx:E.ev x=Q (.n k m))(hy:E.ev y=Q (.n k n)):Yp P E σ o (.b (Z (m<n))):=Yp.lits λρ hρ w=>by
 simp[execOp,ho,hρ _ _ hx,hρ _ _ hy,eqGuard,binOp,Op.intCmp]
def Yp.leq(ho:o.op= .binOp .leq T x y T')(hx:E.ev x=Q (.n k m))(hy:E.ev y=Q (.n k n)):Yp P E σ o (.b (Z (m<=n))):=Yp.lits λρ hρ w=>by
 simp[execOp,ho,hρ _ _ hx,hρ _ _ hy,eqGuard,binOp,Op.intCmp]
def Yp.gtr(ho:o.op= .binOp .gtr T x y T')(hx:E.ev x=Q (.n k m))(hy:E.ev y=Q (.n k n)):Yp P E σ o (.b (Z (n<m))):=Yp.lits λρ hρ w=>by
 simp[execOp,ho,hρ _ _ hx,hρ _ _ hy,eqGuard,binOp,Op.intCmp]
def Yp.geq(ho:o.op= .binOp .geq T x y T')(hx:E.ev x=Q (.n k m))(hy:E.ev y=Q (.n k n)):Yp P E σ o (.b (Z (n<=m))):=Yp.lits λρ hρ w=>by
 simp[execOp,ho,hρ _ _ hx,hρ _ _ hy,eqGuard,binOp,Op.intCmp]
def Yp.eql(ho:o.op= .binOp .eql T x y T')(hx:E.ev x=Q (.n k m))(hy:E.ev y=Q (.n k n)):Yp P E σ o (.b (Z (m=n))):=Yp.lits λρ hρ w=>by
 have:(m==n)=Z (m=n):=rfl;simp[execOp,ho,hρ _ _ hx,hρ _ _ hy,eqGuard,binOp,Op.intCmp,this]
def Yp.neq(ho:o.op= .binOp .neq T x y T')(hx:E.ev x=Q (.n k m))(hy:E.ev y=Q (.n k n)):Yp P E σ o (.b (!Z (m=n))):=Yp.lits λρ hρ w=>by
 have:(m !=n)= !Z (m=n):=rfl;simp[execOp,ho,hρ _ _ hx,hρ _ _ hy,eqGuard,binOp,Op.intCmp,this]
def Yp.not(ho:o.op= .unOp .not T x)(hx:E.ev x=Q (.b b)):Yp P E σ o (.b (!b)):=Yp.lits λρ hρ w=>by
 simp[execOp,ho,hρ _ _ hx,Op.unary]
def Yp.neg(ho:o.op= .unOp .neg T x)(hx:E.ev x=Q (.n k n)):Yp P E σ o (.n k (k.wrap (0-n))):=Yp.lits λρ hρ w=>by
 simp[execOp,ho,hρ _ _ hx,Op.unary,Op.intArith]
def Yp.max(ho:o.op= .call {callee:= .builtin .max,args:=#[x,y],argTypes:=#[T,T']})(hx:E.ev x=Q (.n k m))(hy:E.ev y=Q (.n k n)):Yp P E σ o (.n k (if m<n then n else m)):=Yp.lits λρ hρ w=>by
 simp[execOp,ho,resolve,invoke,builtin,Builtin.max_,Builtin.max2,hρ _ _ hx,hρ _ _ hy]
def Yp.min(ho:o.op= .call {callee:= .builtin .min,args:=#[x,y],argTypes:=#[T,T']})(hx:E.ev x=Q (.n k m))(hy:E.ev y=Q (.n k n)):Yp P E σ o (.n k (if n<m then n else m)):=Yp.lits λρ hρ w=>by
 simp[execOp,ho,resolve,invoke,builtin,Builtin.min_,Builtin.min2,hρ _ _ hx,hρ _ _ hy]
def Yp.akq(ho:o.op= .call {callee:= .builtin .len,args:=#[x],argTypes:=#[T]})(hx:E.ev x=Q (.lit (.slice J 0 0)))(hT:P.underlying T=Q (.slice e)):Yp P E σ o (.i 0):=Yp.lits λρ hρ w=>by
 simp[execOp,ho,resolve,invoke,builtin,Builtin.len_,hρ _ _ hx,run_underlying hT,goInt]
def Yp.aur{q:Nat}{l:aa (U.cA q)}(ho:o.op= .call {callee:= .builtin .len,args:=#[x],argTypes:=#[T]})(hx:E.ev x=Q (.sl q l))(hT:P.underlying T=Q (.slice e)):Yp P E σ o (.i (yz l:Int)):=λA w ρ _ hρ=>by
 obtain⟨p,cap,u,hv,_⟩:=(hρ _ _ hx).oq;exact⟨_, .lit _,λw' _=>by simp[execOp,ho,resolve,invoke,builtin,Builtin.len_,hv,run_underlying hT,goInt]⟩
def Yp.am0{q:Nat}{l:aa (U.cA q)}(i:Nat)(ho:o.op= .call {callee:= .builtin .len,args:=#[x],argTypes:=#[T]})(hx:E.ev x=Q (.lit v))(hσ:σ[i]? =Q (.row v q l))(hT:P.underlying T=Q (.slice e)):Yp P E σ o (.i (yz l:Int)):=λA w ρ hd hρ=>by
 obtain⟨us,h1,_⟩:=hd.1 _ (List.mem_of_getElem? hσ);obtain⟨p,cap,hv,_⟩:=h1.len;have hx':=(hρ _ _ hx).bI;exact⟨_, .lit _,λw' _=>by simp[execOp,ho,resolve,invoke,builtin,Builtin.len_,hx',hv,run_underlying hT,goInt]⟩
def Yp.anE{s:ByteArray}(ho:o.op= .call {callee:= .builtin .len,args:=#[x],argTypes:=#[T]})(hx:E.ev x=Q (.s s))(hT:P.underlying T=Q .string):Yp P E σ o (.i (s.size:Int)):=Yp.lits λρ hρ w=>by
 simp[execOp,ho,resolve,invoke,builtin,Builtin.len_,hρ _ _ hx,goInt,run_underlying hT]
def Yp.func{fn:Fn}{fs cs:Array Operand}{as0:aa AV}(ho:o.op= .makeFunc fn fs cs)(h0:fs=#[])(hc:E.IW cs.toList=Q as0):Yp P E σ o (.fn fn as0):=λA w ρ _ hρ=>by
 have h:=Env.FH hρ hc;exact⟨_, .fn fn as0 _ h.1 h.2,λw' _=>by
  have:cs.map ρ=(cs.toList.map ρ).toArray:=by apply Array.ext';simp
  simp[execOp,ho,Instr.makeFunc,h0,this]⟩
def Yp.extract{i:Nat}{cs:aa AV}(ho:o.op= .extract x i)(hx:E.ev x=Q (.gH cs))(hv:cs[i]? =Q av):Yp P E σ o av:=λA w ρ _ hρ=>by
 obtain⟨us,h1,h2⟩:=(hρ _ _ hx).ME;obtain⟨v,h3,h4⟩:=h2.get hv;exact⟨v,h4,λw' _=>by simp[execOp,ho,Instr.extract,h1,h3]⟩
def Yp.PU{a:Addr}(ho:o.op= .nilCheck x)(hx:E.ev x=Q (.lit (.pointer (Q a)))):Yp P E σ o (.lit (.pointer (Q a))):=Yp.lits λρ hρ w=>by
 simp[execOp,ho,hρ _ _ hx]
def Yp.QX{cs:aa AV}(ho:o.op= .nilCheck x)(hx:E.ev x=Q (.fp cs)):Yp P E σ o (.fp cs):=λA w ρ _ hρ=>by
 obtain⟨b,of,us,h1,_⟩:=(hρ _ _ hx).tR;exact⟨ρ x,hρ _ _ hx,λw' _=>by simp[execOp,ho,h1]⟩
def Yp.PS{k:Nat}(ho:o.op= .nilCheck x)(hx:E.ev x=Q (.rp v k)):Yp P E σ o (.rp v k):=λA w ρ _ hρ=>by
 obtain⟨g,_,h1⟩:=(hρ _ _ hx).CY;exact⟨ρ x,hρ _ _ hx,λw' _=>by simp[execOp,ho,h1]⟩
def mR(b of k:Nat):(⟨b,of,J⟩:Addr).add k=⟨b,of+k,J⟩:=by unfold Addr.add;split<;>simp_all
def Yp.aj4{fs:Array Field}{f:Field}{i b' of sz:Nat}(ho:o.op= .fieldAddr T x i)(hx:E.ev x=Q (.lit (.pointer (Q ⟨b',of,J⟩))))(hT:P.underlying T=Q (.struct fs))(hf:fs[i]? =Q f)(hs:(P.info? f.type).map (·.size)=Q (sz+1)):
  Yp P E σ o (.lit (.pointer (Q ⟨b',of+f.offset,J⟩))):=Yp.lits λρ hρ w=>by
 obtain⟨j,hj,hj'⟩:=zk.1 hs;simp[execOp,ho,Instr.fieldAt,hρ _ _ hx,run_underlying hT,hf,Instr.sureAddr,fieldPlace,sizeOf,typeInfo,hj,hj',mR]
def Yp.amO{fs:Array Field}{f:Field}{i sz:Nat}{cs:aa AV}(ho:o.op= .fieldAddr T x i)(hx:E.ev x=Q (.fp cs))(hT:P.underlying T=Q (.struct fs))(hf:fs[i]? =Q f)(hs:(P.info? f.type).map (·.size)=Q (sz+1)):
  Yp P E σ o (.fp (cs.drop f.offset)):=λA w ρ _ hρ=>by
 obtain⟨j,hj,hj'⟩:=zk.1 hs;obtain⟨b,of,us,h1,hb,hA,hc,hr⟩:=(hρ _ _ hx).tR;refine⟨_, .fp _ b (of+f.offset) (us.drop f.offset) hb hA (hr.drop _).1 (λj v hj=> ?_) (hr.drop _).2,λw' _=>by simp[execOp,ho,Instr.fieldAt,h1,run_underlying hT,hf,Instr.sureAddr,fieldPlace,sizeOf,typeInfo,hj,hj',mR]⟩;rw[xo];simp_all
def Yp.anY{fs:Array Field}{f:Field}{i sz k:Nat}(ho:o.op= .fieldAddr T x i)(hx:E.ev x=Q (.rp v k))(hT:P.underlying T=Q (.struct fs))(hf:fs[i]? =Q f)(hs:(P.info? f.type).map (·.size)=Q (sz+1)):
  Yp P E σ o (.rp v (k+f.offset)):=λA w ρ _ hρ=>by
 obtain⟨j,hj,hj'⟩:=zk.1 hs;obtain⟨g,h1,h2⟩:=(hρ _ _ hx).CY;exact⟨_, .rp v _ g h1,λw' _=>by simp[execOp,ho,Instr.fieldAt,h2,run_underlying hT,hf,Instr.sureAddr,fieldPlace,sizeOf,typeInfo,hj,hj',mR]⟩
def Yp.adR{q:Nat}{l:aa (U.cA q)}(ho:o.op= .indexAddr T x y)(hx:E.ev x=Q (.sl q l))(hy:E.ev y=Q (.n k m))(hT:P.underlying T=Q (.slice e))(hs:(P.info? e).map (·.size)=Q (U.sz q))
  (hm:0<=m/\m<yz l):Yp P E σ o (.fp (U.cells q l[m.toNat]!)):=λA w ρ _ hρ=>by
 obtain⟨j,hj,hj'⟩:=zk.1 hs;have hr:=hρ _ _ hx;obtain⟨p,cap,_,hv,_⟩:=hr.oq;rw[hv]at hr;obtain⟨b,off,us,hp,hb,hA,hl,hc,hL⟩:=hr.aBf (i:=m.toNat) (by omega);refine⟨_, .fp _ b (off+m.toNat*(U.sz q)) us hb hA hL.1 hc hL.2,λw' _=> ?_⟩;have hy':=(hρ _ _ hy).bI;simp[execOp,ho,Instr.indexAt,hv,hp,hy',run_underlying hT,sizeOf,typeInfo,hj,hj',mR,asIntOf,hm]
def Yp.Ul{q:Nat}{l:aa (U.cA q)}(i:Nat)(ho:o.op= .indexAddr T x y)(hx:E.ev x=Q (.lit v))(hσ:σ[i]? =Q (.row v q l))(hy:E.ev y=Q (.n k m))(hT:P.underlying T=Q (.slice e))(hs:(P.info? e).map (·.size)=Q (U.sz q))
  (hm:0<=m/\m<yz l):Yp P E σ o (.rp v (m.toNat*(U.sz q))):=λA w ρ hd hρ=>by
 obtain⟨j,hj,hj'⟩:=zk.1 hs;obtain⟨us,h1,_⟩:=hd.1 _ (List.mem_of_getElem? hσ);obtain⟨g,cap,cur,hv,hg,_⟩:=h1.at (by omega);have hx':=(hρ _ _ hx).bI;have hy':=(hρ _ _ hy).bI;refine⟨_, .rp v _ g hg,λw' _=> ?_⟩;simp[execOp,ho,Instr.indexAt,hx',hv,hy',run_underlying hT,sizeOf,typeInfo,hj,hj',mR,asIntOf,hm]
def Yp.al0{b' of sz n':Nat}(ho:o.op= .indexAddr T x y)(hx:E.ev x=Q (.lit (.pointer (Q ⟨b',of,J⟩))))(hy:E.ev y=Q (.n k m))(hT:P.underlying T=Q (.array n' e))(hs:(P.info? e).map (·.size)=Q sz)
  (hm:0<=m/\m<n'):Yp P E σ o (.lit (.pointer (Q ⟨b',of+m.toNat*sz,J⟩))):=Yp.lits λρ hρ w=>by
 obtain⟨j,hj,hj'⟩:=zk.1 hs;simp[execOp,ho,Instr.indexAt,hρ _ _ hx,hρ _ _ hy,run_underlying hT,sizeOf,typeInfo,hj,hj',mR,asIntOf,hm,Instr.sureAddr]
def Yp.ajO{k' sz n':Nat}(ho:o.op= .indexAddr T x y)(hx:E.ev x=Q (.rp v k'))(hy:E.ev y=Q (.n k m))(hT:P.underlying T=Q (.array n' e))(hs:(P.info? e).map (·.size)=Q sz)
  (hm:0<=m/\m<n'):Yp P E σ o (.rp v (k'+m.toNat*sz)):=λA w ρ _ hρ=>by
 obtain⟨j,hj,hj'⟩:=zk.1 hs;obtain⟨g,h1,h2⟩:=(hρ _ _ hx).CY;have hy':=(hρ _ _ hy).bI;exact⟨_, .rp v _ g h1,λw' _=>by simp[execOp,ho,Instr.indexAt,h2,hy',run_underlying hT,sizeOf,typeInfo,hj,hj',mR,asIntOf,hm,Instr.sureAddr]⟩
def Yp.aoe{sz n':Nat}{cs:aa AV}(ho:o.op= .indexAddr T x y)(hx:E.ev x=Q (.fp cs))(hy:E.ev y=Q (.n k m))(hT:P.underlying T=Q (.array n' e))(hs:(P.info? e).map (·.size)=Q sz)
  (hm:0<=m/\m<n'):Yp P E σ o (.fp (cs.drop (m.toNat*sz))):=λA w ρ _ hρ=>by
 obtain⟨j,hj,hj'⟩:=zk.1 hs;obtain⟨b,of,us,h1,hb,hA,hc,hr⟩:=(hρ _ _ hx).tR;have hy':=(hρ _ _ hy).bI;refine⟨_, .fp _ b (of+m.toNat*sz) (us.drop (m.toNat*sz)) hb hA (hr.drop _).1 (λj v hj=> ?_) (hr.drop _).2,λw' _=>by simp[execOp,ho,Instr.indexAt,h1,hy',run_underlying hT,sizeOf,typeInfo,hj,hj',mR,asIntOf,hm,Instr.sureAddr]⟩;rw[xo];simp_all
def lR(P:Program)(T:TypeId):Prop:=∃d,P.underlying T=Q d/\match d with| .struct _| .array _ _=>False|_=>True
def jC(h:lR P T)(w:World):(isAgg T).run P w= .ok V w:=by
 obtain⟨d,hd,hm⟩:=h;unfold isAgg;cases d<;>first|exact hm.elim|simp[run_underlying hd]
def gA{w:World}{a:Addr}(h:lR P T)(hc:w.cell? a=Q v):(loadVar T a).run P w= .ok v w:=by
 unfold loadVar;simp[jC h,Sem.run,hc]
def mT(P:Program)(T:TypeId)(k:Nat):Prop:=(∃d,P.underlying T=Q d/\match d with| .struct _| .array _ _=>True|_=>False)/\(P.info? T).map (·.size)=Q k
def Bo{k:Nat}(h:mT P T k)(w:World):(isAgg T).run P w= .ok O w:=by
 obtain⟨⟨d,hd,hm⟩,_⟩:=h;unfold isAgg;cases d<;>first|exact hm.elim|simp[run_underlying hd]
def run_loadCellsFrom{w:World}(a:Addr):∀(cs:aa Value) (i:Nat) (acc:Array Value),(∀j u,cs[j]? =Q u->w.cell? (a.add (i+j))=Q u)->(loadCellsFrom a i (yz cs) acc).run P w= .ok (acc++cs.toArray) w
 |[],i,acc,_=>by simp[loadCellsFrom]
 |c::cs,i,acc,h=>by
  have h0:=h 0 c rfl;rw[yO]at h0;simp only[yo,loadCellsFrom];have ih:=run_loadCellsFrom a cs (i+1) (acc.push c) λj u hj=>by
   have:=h (j+1) u (by simpa using hj)
   rwa [show i+(j+1)=i+1+j from by omega]at this
  simp[Sem.run,h0,ih]
def fU{w:World}{a:Addr}{cs:aa Value}(h:mT P T (yz cs))(hc:∀j u,cs[j]? =Q u->w.cell? (a.add j)=Q u):(loadVar T a).run P w= .ok (.agg cs.toArray) w:=by
 obtain⟨i,hi,hi'⟩:=zk.1 h.2;have:=run_loadCellsFrom (P:=P) (w:=w) a cs 0 #[] (by simpa using hc);unfold loadVar;simp[Bo h,sizeOf,typeInfo,hi,hi',loadCells,this]
def iO{w w':World}{b o:Nat}(h:w'.heap[b]? =w.heap[b]?):w'.cell? ⟨b,o,J⟩=w.cell? ⟨b,o,J⟩:=by simp[World.cell?,h]
def Yp.ao1{cs:aa AV}(ho:o.op= .load T x)(hx:E.ev x=Q (.fp cs))(hT:lR P T)(ha:cs[0]? =Q av):Yp P E σ o av:=λA w ρ _ hρ=>by
 obtain⟨b,of,us,h1,hb,hA,hc,hr⟩:=(hρ _ _ hx).tR;obtain⟨v,h2,h3⟩:=hr.get ha;refine⟨v,h3,λw' hw=> ?_⟩;have hcell:w'.cell? ⟨b,of,J⟩=Q v:=by rw[iO (hw b hb (.inl hA))];exact hc 0 v h2
 simp[execOp,ho,Instr.loadAt,h1,Instr.sureAddr,gA hT hcell]
def Yp.XP{cs:aa AV}{n:Nat}(ho:o.op= .load T x)(hx:E.ev x=Q (.fp cs))(hT:mT P T n)(hn:n<=yz cs):Yp P E σ o (.agg (cs.take n)):=λA w ρ _ hρ=>by
 obtain⟨b,of,us,h1,hb,hA,hc,hr⟩:=(hρ _ _ hx).tR;refine⟨_,Rel.kj (hr.take n),λw' hw=> ?_⟩;have hcell:∀j u,(us.take n)[j]? =Q u->w'.cell? ((⟨b,of,J⟩:Addr).add j)=Q u:=λj u hj=>by
  rw[mR,iO (hw b hb (.inl hA))];rw[yw]at hj;simp_all
 have hl:yz (us.take n)=n:=by rw[zM,hr.1];omega
 simp[execOp,ho,Instr.loadAt,h1,Instr.sureAddr,fU (by rw[hl];exact hT) hcell]
def Yp.KL{b' of:Nat}{cs:aa AV}{t:TypeId}(i:Nat)(ho:o.op= .load T x)(hx:E.ev x=Q (.lit (.pointer (Q ⟨b',of,J⟩))))(hσ:σ[i]? =Q (.box b' t cs))(hT:lR P T)(ha:cs[of]? =Q av):Yp P E σ o av:=λA w ρ hd hρ=>by
 have hm:=List.mem_of_getElem? hσ;obtain⟨us,h1,hr⟩:=hd.1 _ hm;obtain⟨v,h2,h3⟩:=bn.get hr ha;have hx':=(hρ _ _ hx).bI;refine⟨v,h3,λw' hw=> ?_⟩;have hcell:w'.cell? ⟨b',of,J⟩=Q v:=by rw[iO (hw b' h1.lt (.inr (bw.2 ⟨_,hm,rfl⟩)))];exact h1.cell (by simpa using h2)
 simp[execOp,ho,Instr.loadAt,hx',Instr.sureAddr,gA hT hcell]
def Yp.ajW{b' of n:Nat}{cs:aa AV}{t:TypeId}(i:Nat)(ho:o.op= .load T x)(hx:E.ev x=Q (.lit (.pointer (Q ⟨b',of,J⟩))))(hσ:σ[i]? =Q (.box b' t cs))(hT:mT P T n)(hn:of+n<=yz cs):Yp P E σ o (.agg ((cs.drop of).take n)):=λA w ρ hd hρ=>by
 have hm:=List.mem_of_getElem? hσ;obtain⟨us,h1,hr⟩:=hd.1 _ hm;have hx':=(hρ _ _ hx).bI;refine⟨_,Rel.kj ((bn.drop of hr).take n),λw' hw=> ?_⟩;have hcell:∀j u,((us.drop of).take n)[j]? =Q u->w'.cell? ((⟨b',of,J⟩:Addr).add j)=Q u:=λj u hj=>by
  rw[mR,iO (hw b' h1.lt (.inr (bw.2 ⟨_,hm,rfl⟩)))];rw[yw]at hj;split at hj
  ·rw[yC]at hj;exact h1.cell (by simpa using hj)
  ·cases hj
 have hl:yz ((us.drop of).take n)=n:=by rw[zM,yc,hr.1];omega
 simp[execOp,ho,Instr.loadAt,hx',Instr.sureAddr,fU (by rw[hl];exact hT) hcell]
def Yp.Tb{k of:Nat}{q:Nat}{l:aa (U.cA q)}(i m:Nat)(ho:o.op= .load T x)(hx:E.ev x=Q (.rp v k))(hσ:σ[i]? =Q (.row v q l))(hT:lR P T)(hk:k=m*(U.sz q)+of)(hm:m<yz l)(ha:(U.cells q l[m]!)[of]? =Q av):Yp P E σ o av:=λA w ρ hd hρ=>by
 have hmem:=List.mem_of_getElem? hσ;obtain⟨us,h1,h2,h3⟩:=hd.1 _ hmem;obtain⟨g,hg,hv⟩:=(hρ _ _ hx).CY;obtain⟨u,h4,h5⟩:=(h3 m hm).get ha;refine⟨u,h5,λw' hw=> ?_⟩;rw[yw]at h4;split at h4
 ·rw[yC]at h4;have hcell:w'.cell? ⟨g,k,J⟩=Q u:=by rw[iO (hw g (h1.lt hg) (.inr (bw.2 ⟨_,hmem,hg⟩))),hk];exact h1.cells hg _ u h4
  simp[execOp,ho,Instr.loadAt,hv,Instr.sureAddr,gA hT hcell]
 ·cases h4
def Yp.aly{k of n:Nat}{q:Nat}{l:aa (U.cA q)}(i m:Nat)(ho:o.op= .load T x)(hx:E.ev x=Q (.rp v k))(hσ:σ[i]? =Q (.row v q l))(hT:mT P T n)(hk:k=m*(U.sz q)+of)(hm:m<yz l)(hn:of+n<=(U.sz q)):Yp P E σ o (.agg (((U.cells q l[m]!).drop of).take n)):=λA w ρ hd hρ=>by
 have hmem:=List.mem_of_getElem? hσ;obtain⟨us,h1,h2,h3⟩:=hd.1 _ hmem;obtain⟨g,hg,hv⟩:=(hρ _ _ hx).CY;have hL:=h3 m hm;refine⟨_,Rel.kj ((hL.drop of).take n),λw' hw=> ?_⟩;have hcell:∀j u,((((us.drop (m*(U.sz q))).take (U.sz q)).drop of).take n)[j]? =Q u->w'.cell? ((⟨g,k,J⟩:Addr).add j)=Q u:=λj u hj=>by
  rw[mR,iO (hw g (h1.lt hg) (.inr (bw.2 ⟨_,hmem,hg⟩))),hk];rw[yw]at hj;split at hj
  ·rw[yC,yw]at hj;split at hj
   ·rw[yC]at hj;exact h1.cells hg _ u (by rw[xo];exact hj)
   ·cases hj
  ·cases hj
 have hl:yz ((((us.drop (m*(U.sz q))).take (U.sz q)).drop of).take n)=n:=by rw[zM,yc,hL.1,h2 m hm];omega
 simp[execOp,ho,Instr.loadAt,hv,Instr.sureAddr,fU (by rw[hl];exact hT) hcell]
end
def dO(r:bH)(σ:aa bH):aY (r::σ)=r.blk.toList++aY σ:=by
 unfold aY;grind
def dY(σ j:aa bH):aY (σ++j)=aY σ++aY j:=by simp[aY]
def jA{C:Cx}{σ:aa bH}{w w':World}{r:bH}(h:Good C σ w)(hk:Kp [] w w')(hr:r.blk=J\/r.blk=Q w.heap.size)(hok:r.ok (al C (r::σ)) w'):Tr C [] σ w (r::σ) w':=by
 have hlt:∀b∈aY σ,b<w.heap.size:=λb hb=>by
  obtain⟨s,h1,h2⟩:=bw.1 hb;exact(h.res s h1).lt h2
 have hal:∀b,b<w.heap.size->al C σ b->al C (r::σ) b:=λb hb hA=>⟨hA.1,λhx=>by
  rw[dO]at hx;rcases zV.1 hx with hx|hx
  ·simp_all
  ·exact hA.2 hx⟩
 have hsame:∀b,b<w.heap.size->w'.heap[b]? =w.heap[b]? :=λb hb=>hk.block b hb (by simp);refine⟨⟨h.kept.trans hk (by simp),λs hs=> ?_,?_,λb hb=> ?_⟩,hk,λb hb hA=>⟨hal b hb hA,by simp⟩⟩
 ·rcases zu.1 hs with rfl|hs
  ·omega
  ·exact(h.res s hs).mono (λb hb hA=>⟨hal b hb hA,hsame b hb⟩) (λb hb=>hsame b ((h.res s hs).lt hb))
 ·rw[dO];rcases hr with hr|hr
  ·rw[hr];simpa using h.sN
  ·rw[hr];simp only[xu,yZ,xT];exact⟨λhx=>by have:=hlt _ hx;omega,h.sN⟩
 ·rw[dO]at hb;rcases zV.1 hb with hx|hx
  ·rcases hr with hr|hr<;>rw[hr]at hx<;>simp at hx;exact .inr (by rw[hx];exact h.kept.size)
  ·exact h.own b hx
def tc{σ:aa bH}{i:Nat}{r r':bH}(h:σ[i]? =Q r):σ=σ.take i++r::σ.drop (i+1)/\σ.set i r'=σ.take i++r'::σ.drop (i+1):=by
 obtain⟨hi,hr⟩:=zQ.1 h;refine⟨?_,wF .. |>.trans (by rw[bS hi])⟩;rw[<-hr,<-y7 hi,xF]
def qJ{σ:aa bH}{i:Nat}{r r':bH}(h:σ[i]? =Q r)(hb:r'.blk=r.blk):aY (σ.set i r')=aY σ:=by
 obtain⟨q1,q2⟩:=tc (r':=r') h;have e:aY σ=aY (σ.take i++r::σ.drop (i+1)):=congrArg aY q1;rw[q2,e];simp[dY,dO,hb]
def oA{C:Cx}{σ:aa bH}{w w':World}{r r':bH}{i:Nat}(h:Good C σ w)(hi:σ[i]? =Q r)(hk:Kp r.blk.toList w w')(hr:r'.blk=r.blk\/r'.blk=Q w.heap.size)(hok:r'.ok (al C (σ.set i r')) w'):Tr C r.blk.toList σ w (σ.set i r') w':=by
 obtain⟨h1,h2⟩:=tc (r':=r') hi;generalize σ.take i=σ1 at h1 h2;generalize σ.drop (i+1)=σ2 at h1 h2;rw[h2]at hok ⊢;clear h2 hi;subst h1;have hlt:∀b∈aY (σ1++r::σ2),b<w.heap.size:=λb hb=>by
  obtain⟨s,h1,h2⟩:=bw.1 hb;exact(h.res s h1).lt h2
 have hb0:aY (σ1++r::σ2)=aY σ1++(r.blk.toList++aY σ2):=by rw[dY,dO]
 have hb1:aY (σ1++r'::σ2)=aY σ1++(r'.blk.toList++aY σ2):=by rw[dY,dO]
 have hmem:∀b,b∈aY (σ1++r'::σ2)->b∈aY (σ1++r::σ2)\/b=w.heap.size:=λb hb=>by
  rw[hb1]at hb;rw[hb0];simp only[zV]at hb ⊢;rcases hb with hb|hb|hb
  ·exact .inl (.inl hb)
  ·rcases hr with hr|hr<;>rw[hr]at hb
   ·exact .inl (.inr (.inl hb))
   ·simp at hb;exact .inr hb
  ·exact .inl (.inr (.inr hb))
 have hal:∀b,b<w.heap.size->al C (σ1++r::σ2) b->al C (σ1++r'::σ2) b:=λb hb hA=>⟨hA.1,λhx=>by
  rcases hmem b hx with h|h
  ·exact hA.2 h
  ·omega⟩
 have hnr:∀b,al C (σ1++r::σ2) b->b∉r.blk.toList:=λb hA hx=>hA.2 (by rw[hb0];simp[hx]);have hother:∀s,s∈σ1\/s∈σ2->∀b,s.blk=Q b->b∉r.blk.toList:=λs hs b hb hx=>by
  have hd:=h.sN;rw[hb0]at hd;rcases hs with hs|hs
  ·exact(yx.1 hd).2.2 b (bw.2 ⟨s,hs,hb⟩) b (zZ _ hx) rfl
  ·exact(yx.1 (yx.1 hd).2.1).2.2 b hx b (bw.2 ⟨s,hs,hb⟩) rfl
 refine⟨⟨h.kept.trans hk (λb hb hlt0=> ?_),λs hs=> ?_,?_,λb hb=> ?_⟩,hk,λb hb hA=>⟨hal b hb hA,hnr b hA⟩⟩
 ·have:b∈aY (σ1++r::σ2):=by rw[hb0];simp[hb]
  rcases h.own b this with h|h
  ·exact h
  ·omega
 ·have hs':s=r'\/s∈σ1\/s∈σ2:=by
   simp only[zV,zu]at hs;rcases hs with h|h|h
   ·simp_all
   ·simp_all
   ·simp_all
  rcases hs' with rfl|hs'
  ·omega
  ·have hm:s∈σ1++r::σ2:=by rcases hs' with h|h<;>simp[h]
   exact(h.res s hm).mono (λb hb hA=>⟨hal b hb hA,hk.block b hb (hnr b hA)⟩) (λb hb=>hk.block b ((h.res s hm).lt hb) (hother s hs' b hb))
 ·have hd:=h.sN;rcases hr with hr|hr
  ·simp_all
  ·rw[hb1,hr];rw[hb0]at hd;have hn1:w.heap.size∉aY σ1:=λhx=>by have:=hlt w.heap.size (by rw[hb0];simp[zV,hx]);omega
   have hn2:w.heap.size∉aY σ2:=λhx=>by have:=hlt w.heap.size (by rw[hb0];simp[hx]);omega
   obtain⟨d1,d2,d3⟩:=yx.1 hd;obtain⟨d4,d5,d6⟩:=yx.1 d2;refine yx.2 ⟨d1,?_,λa ha b hb hab=> ?_⟩
   ·simp only[xu,yZ,xT];exact⟨hn2,d5⟩
   ·subst hab;simp only[xu,yZ,yR,zu]at hb;rcases hb with rfl|hb
    ·simp_all
    ·exact d3 a ha a (yh _ hb) rfl
 ·rcases hmem b hb with h1|h1
  ·exact h.own b h1
  ·exact .inr (by rw[h1];exact h.kept.size)
def ajS{C:Cx}{σ:aa bH}{w:World}{r:bH}(h:r.blk=J\/r.blk=Q w.heap.size):∀b,b<w.heap.size->al C σ b->al C (r::σ) b:=λb hb hA=>⟨hA.1,λhx=>by
 rw[dO]at hx;rcases zV.1 hx with hx|hx
 ·simp_all
 ·exact hA.2 hx⟩
def gv(w:World)(x:Obj):Kp [] w (w.alloc x):=⟨rfl,rfl,rfl,by simp,λk hk _=>heap_alloc_old w x hk⟩
def Da(w:World)(x:Obj):Kp [] w (w.drew.alloc x):=⟨rfl,rfl,rfl,by simp,λk hk _=>heap_alloc_old w.drew x hk⟩
def G4{C:Cx}{σ:aa bH}{w w':World}{r:bH}{as0:aa AV}{us:aa Value}(hr:bn (al C σ) w as0 us)(h:r.blk=J\/r.blk=Q w.heap.size)(hk:Kp [] w w'):bn (al C (r::σ)) w' as0 us:=
 hr.mono λb hb hA=>⟨ajS h b hb hA,hk.block b hb (by simp)⟩
def cT:AV->aa AV
 | .agg cs=>cs
 |a=>[a]
def gF:AV->Bool
 | .lit v=>v.oneCell'
 | .gH _=>V
 | .agg _=>V
 |_=>O
def pz:AV->Bool
 | .agg cs=>cs.all gF
 |a=>gF a
def jL{v:Value}(h:v.oneCell'=true):v.cells=#[v]:=by cases v<;>first|rfl|cases h
def Rel.one{A:Nat->Prop}{w:World}{a:AV}{v:Value}(h:Rel A w a v)(h1:gF a=O):v.oneCell'=O:=by
 cases h with
 |lit v=>exact h1
 |agg=>cases h1
 |gH=>cases h1
 |_=>rfl
def bn.one{A:Nat->Prop}{w:World}{as0:aa AV}{us:aa Value}(h:bn A w as0 us)(h1:as0.all gF=O):∀v∈us,v.oneCell'=O:=λv hv=>by
 obtain⟨j,hj,rfl⟩:=wh hv;have hlt:j<yz as0:=by rw[<-h.1];exact hj
 exact(h.2 j as0[j] us[j] (zm hlt) (zm hj)).one (zx.1 h1 _ (yJ hlt))
def Rel.cells{A:Nat->Prop}{w:World}{a:AV}{v:Value}(h:Rel A w a v)(h1:pz a=O):bn A w (cT a) v.cells.toList/\∀u∈v.cells.toList,u.oneCell'=O:=by
 by_cases ha:∃cs,a= .agg cs
 ·obtain⟨cs,rfl⟩:=ha;obtain⟨us,rfl,h2⟩:=h.fG;exact⟨by simpa [Value.cells,cT]using h2,by simpa [Value.cells]using h2.one h1⟩
 ·have hc:gF a=O:=by
   cases a<;>first|exact h1|(exact gI ⟨_,rfl⟩ ha)
  have hac:cT a=[a]:=by
   cases a<;>first|rfl|(exact gI ⟨_,rfl⟩ ha)
  have h2:=h.one hc;rw[hac,jL h2];refine⟨⟨rfl,λj x y hx hy=> ?_⟩,λu hu=>by simp at hu;rw[hu];exact h2⟩;cases j with
  |zero=>simp at hx hy;subst hx hy;exact h
  |succ j=>simp at hx
def Pw(σ:aa bH)(a:AV):Prop:=∀(A:Nat->Prop) (w:World) (v:Value),Hd A σ w->Rel A w a v->bn A w (cT a) v.cells.toList/\∀u∈v.cells.toList,u.oneCell'=O
def Pw.p{σ:aa bH}{a:AV}(h:pz a=O):Pw σ a:=λ_ _ _ _ hr=>hr.cells h
def O9{σ:aa bH}{A:Nat->Prop}{w:World}{v:Value}{q:Nat}{l:aa (U.cA q)}(i:Nat)(hσ:σ[i]? =Q (.row v q l))(hd:Hd A σ w):v.oneCell'=O:=by
 obtain⟨us,h1,_⟩:=hd.1 _ (List.mem_of_getElem? hσ);obtain⟨p,cap,rfl,_⟩:=h1.len;rfl
def Pw.own{σ:aa bH}{v:Value}{q:Nat}{l:aa (U.cA q)}(i:Nat)(hσ:σ[i]? =Q (.row v q l)):Pw σ (.lit v):=λA w u hd hr=>by
 have h1:=O9 i hσ hd;rw[hr.bI,jL h1];exact⟨bn.cons (.lit v) bn.nil,λx hx=>by simp at hx;rw[hx];exact h1⟩
section
variable {P:Program} {E:Env} {σ:aa bH} {o:Oper} {T T' e:TypeId} {x y z:Operand} {av bv:AV} {v u:Value} {m n:Int} {b:Bool} {k:IntKind} {C:Cx} {X:aa Nat}
def Yv.alloc{zs:aa Value}(ho:o.op= .alloc T)(hz:(P.info? T).bind (λi=>i.zero.map (·.cells))=Q zs.toArray):Yv P E σ o C [] (λa σ'=>∃b,a= .lit (.pointer (Q ⟨b,0,J⟩))/\σ'= .box b T (zs.map .lit)::σ):=λw ρ hg _=>by
 obtain⟨i,h1,h2⟩:=zn.1 hz;obtain⟨zv,h3,h4⟩:=zk.1 h2;refine⟨_,w.alloc (.cells zs.toArray T),_,_,⟨w.heap.size,rfl,rfl⟩,jA hg (gv w _) (.inr rfl) ⟨zs,heap_alloc_new w _,bn.lits _⟩,?_, .lit _⟩;simp[execOp,ho,Instr.alloc,zeroValue,typeInfo,h1,h3,newVar,newRow,h4]
def Yv.box(ho:o.op= .box T x)(hx:E.ev x=Q av)(h1:Pw σ av):Yv P E σ o C [] (λa σ'=>∃b,a= .lit (.pointer (Q ⟨b,0,J⟩))/\σ'= .box b T (cT av)::σ):=λw ρ hg hρ=>by
 have hr:=(h1 _ _ _ hg.hd (hρ _ _ hx)).1;refine⟨_,w.alloc (.cells (ρ x).cells T),_,_,⟨w.heap.size,rfl,rfl⟩,jA hg (gv w _) (.inr rfl) ⟨(ρ x).cells.toList,heap_alloc_new w _,G4 hr (.inr rfl) (gv w _)⟩,?_, .lit _⟩;simp[execOp,ho,Instr.box,newVar,newRow]
def run_store{w:World}{g of:Nat}{cur:Array Value}{t:TypeId}{a:Value}{sz:Nat}(hs:(P.info? T).map (·.size)=Q sz)(hb:YG w g cur t)(hsz:a.cells.size=sz)(h1:∀u∈a.cells.toList,u.oneCell'=O)(hlt:of+sz<=cur.size):
  (Instr.storeAt T (.pointer (Q ⟨g,of,J⟩)) a).run P w= .ok () (w.setRow g (cur.toList.take of++a.cells.toList++cur.toList.drop (of+sz)).toArray):=by
 obtain⟨j,hj,hj'⟩:=zk.1 hs;have:=run_storeCells_at P g of t a.cells.toList 0 cur w hb (by rw[yf,hsz];omega) h1;simp only[Instr.storeAt,Instr.sureAddr,storeVar,sizeOf,typeInfo];simp[hj,hj',hsz,this]
def kI(w:World)(g:Nat)(cs:Array Value):Kp [g] w (w.setRow g cs):=⟨rfl,rfl,rfl,by simp,λk _ hk=>setRow_other w g k _ (λe=>hk (by simp[e]))⟩
def Yu.Mz{g of sz:Nat}{cs:aa AV}{t:TypeId}(i:Nat)(ho:o.op= .store T x y)(hx:E.ev x=Q (.lit (.pointer (Q ⟨g,of,J⟩))))(hy:E.ev y=Q av)(hσ:σ[i]? =Q (.box g t cs))(hs:(P.info? T).map (·.size)=Q sz)(hp:Pw σ av)(hsz:yz (cT av)=sz)(hlt:of+sz<=yz cs):
  Yu P E σ o C [g] (σ.set i (.box g t (cs.take of++cT av++cs.drop (of+sz)))):=λw ρ hg hρ=>by
 obtain⟨us,h1,h2⟩:=hg.res _ (List.mem_of_getElem? hσ);obtain⟨h3,h4⟩:=hp _ _ _ hg.hd (hρ _ _ hy);have hx':=(hρ _ _ hx).bI;have h5:(ρ y).cells.size=sz:=by rw[<-yf,h3.1,hsz]
 have hrun:=run_store (P:=P) (T:=T) (of:=of) (a:=ρ y) hs h1 h5 h4 (by simp;rw[h2.1];exact hlt);refine⟨w.setRow g (us.take of++(ρ y).cells.toList++us.drop (of+sz)).toArray,oA hg hσ (kI w g _) (.inl rfl) ⟨us.take of++(ρ y).cells.toList++us.drop (of+sz),?_,?_⟩,?_⟩
 ·have:=setRow_heap w g us.toArray (us.take of++(ρ y).cells.toList++us.drop (of+sz)).toArray t (0,0) h1;exact this
 ·have hal:∀b,b<w.heap.size->al C σ b->al C (σ.set i (.box g t (cs.take of++cT av++cs.drop (of+sz)))) b/\(w.setRow g (us.take of++(ρ y).cells.toList++us.drop (of+sz)).toArray).heap[b]? =w.heap[b]? :=λb hb hA=>by
   have hbk:=qJ (r':=bH.box g t (cs.take of++cT av++cs.drop (of+sz))) hσ rfl;refine⟨⟨hA.1,by rw[hbk];exact hA.2⟩,setRow_other w g b _ (λe=>hA.2 (bw.2 ⟨_,List.mem_of_getElem? hσ,by rw[<-e];rfl⟩))⟩
  exact(((h2.take of).app h3).app (h2.drop (of+sz))).mono hal
 ·simp[execOp,ho,hx',hrun]
def Yu.WT{kk of n m:Nat}{q:Nat}{l:aa (U.cA q)}(i:Nat)(qq:U.cA q)(ho:o.op= .store T x y)(hx:E.ev x=Q (.rp v kk))(hy:E.ev y=Q av)(hσ:σ[i]? =Q (.row v q l))(hs:(P.info? T).map (·.size)=Q n)(hp:pz av=O)(hn:yz (cT av)=n)
  (hk:kk=m*(U.sz q)+of) (hm:m<yz l) (hlt:of+n<=(U.sz q)) (hql:yz (U.cells q qq)=U.sz q) (hq:∀A w us,bn A w ((U.cells q l[m]!).take of++cT av++(U.cells q l[m]!).drop (of+n)) us->bn A w (U.cells q qq) us):
  Yu P E σ o C (xG (fD v)) (σ.set i (.row v q (l.set m qq))):=λw ρ hg hρ=>by
 obtain⟨us,h1,h2,h3⟩:=hg.res _ (List.mem_of_getElem? hσ);obtain⟨h4,h5⟩:=(hρ _ _ hy).cells hp;obtain⟨g,hgb,hv⟩:=(hρ _ _ hx).CY;obtain⟨g',cap,cur,hv',hgb',hB,q1,q2,q3,q4⟩:=h1.at (by omega);have hgg:g'=g:=by rw[hgb']at hgb;exact zG.inj hgb
 subst hgg;have h6':yz (ρ y).cells.toList=n:=by rw[h4.1,hn]
 have h6:(ρ y).cells.size=n:=by rw[<-yf,h6']
 have hmz:m*(U.sz q)+(U.sz q)<=yz l*(U.sz q):=by rw[<-yD];exact yP _ hm
 have hcz:yz l*(U.sz q)<=(cap+1)*(U.sz q):=yP _ q1;have hul:=h1.1;have hrun:=run_store (P:=P) (T:=T) (of:=kk) (a:=ρ y) hs hB h6 h5 (by rw[q3,hk];omega);have hlen:yz us=yz l*(U.sz q):=h1.1;have hmz2:∀j,j<yz l->j*(U.sz q)+(U.sz q)<=yz us:=λj hj=>by rw[hlen,<-yD];exact yP _ hj
 have hpart:∀b,al C (σ.set i (.row v q (l.set m qq))) b↔al C σ b:=λb=>by
  have hbk:=qJ (r':=bH.row v q (l.set m qq)) hσ rfl;unfold al;rw[hbk]
 have hal:∀b,b<w.heap.size->al C σ b->al C (σ.set i (.row v q (l.set m qq))) b/\(w.setRow g' (cur.toList.take kk++(ρ y).cells.toList++cur.toList.drop (kk+n)).toArray).heap[b]? =w.heap[b]? :=λb hb hA=>
  ⟨(hpart b).2 hA,setRow_other w g' b _ (λe=>hA.2 (bw.2 ⟨_,List.mem_of_getElem? hσ,by rw[e];exact hgb⟩))⟩
 refine⟨w.setRow g' (cur.toList.take kk++(ρ y).cells.toList++cur.toList.drop (kk+n)).toArray,oA (r:= .row v q l) hg hσ (by show Kp (xG (fD v)) _ _;rw[hgb];exact kI w g' _) (.inl rfl) ⟨us.take kk++(ρ y).cells.toList++us.drop (kk+n),⟨?_, .inr ⟨g',cap,(cur.toList.take kk++(ρ y).cells.toList++cur.toList.drop (kk+n)).toArray,?_,?_,?_,q2,?_,?_⟩⟩,?_,?_⟩,by simp[execOp,ho,hv,hrun]⟩
 ·have:=hmz2 m hm;rw[zF,zF,zM,yc,yS,h6',hlen];omega
 ·rw[yS];exact hv'
 ·exact setRow_heap w g' cur _ q (0,0) hB
 ·rw[yS];exact q1
 ·have:=hmz2 m hm;rw[yK,zF,zF,zM,yc,h6',yf,q3];omega
 ·have hk':kk+n<=yz l*(U.sz q):=by omega
  have hc2:yz l*(U.sz q)<=yz cur.toList:=by rw[show yz cur.toList=cur.size from yf,q3];exact hcz
  rw[<-q4,yS];apply List.ext_getElem?;intro j;simp only[yw,yB,zF,zM,yC,h6',yf];have hcl:cur.size=(cap+1)*(U.sz q):=q3;by_cases e1:j<yz l*(U.sz q)
  ·rw[bS e1];by_cases e2:j<kk
   ·rw[bS (by omega),bS (by omega),bS (by omega),bS (by omega),bS (by omega),bS (by omega)];rw[bS (by omega)]
   ·by_cases e3:j<kk+n
    ·rw[bS (by omega),bT (by omega),bS (by omega),bT (by omega)]
     congr 1
     omega
    ·rw[bT (by omega),bT (by omega),bS (by omega)]
     congr 1
     omega
  ·rw[bT e1];rw[bT (by omega),bT (by omega)]
 ·intro j hj;rw[yS]at hj;by_cases hjm:j=m
  ·subst hjm;rw[getElem!_pos _ j (by rw[yS];exact hj),List.getElem_set_self];exact hql
  ·rw[getElem!_pos _ j (by rw[yS];exact hj),List.getElem_set_ne (Ne.symm hjm),<-getElem!_pos l j hj];exact h2 j hj
 ·intro j hj;rw[yS]at hj;have hb:=hmz2 j hj;have hbm:=hmz2 m hm;by_cases hjm:j=m
  ·subst hjm;rw[getElem!_pos _ j (by rw[yS];exact hj),List.getElem_set_self];refine hq _ _ _ ?_;have hL:=h3 j hj;have hz:=h2 j hj;have hR:=(((hL.take of).app h4).app (hL.drop (of+n))).mono hal;have e:((us.take kk++(ρ y).cells.toList++us.drop (kk+n)).drop (j*(U.sz q))).take (U.sz q)=((us.drop (j*(U.sz q))).take (U.sz q)).take of++(ρ y).cells.toList++((us.drop (j*(U.sz q))).take (U.sz q)).drop (of+n):=by
    apply List.ext_getElem?;intro a;simp only[yw,yB,zF,zM,yC,h6',yc];by_cases e1:a<(U.sz q)
    ·rw[bS e1];by_cases e2:a<of
     ·rw[bS (by omega),bS (by omega),bS (by omega),bS (by omega),bS (by omega),bS (by omega)];rw[bS (by omega)]
     ·by_cases e3:a<of+n
      ·rw[bS (by omega),bT (by omega),bS (by omega),bT (by omega)]
       congr 1
       omega
      ·rw[bT (by omega),bT (by omega),bS (by omega)]
       congr 1
       omega
    ·rw[bT e1,bT (by omega),bT (by omega)]
   rw[e];exact hR
  ·rw[getElem!_pos _ j (by rw[yS];exact hj),List.getElem_set_ne (Ne.symm hjm),<-getElem!_pos l j hj];have e:((us.take kk++(ρ y).cells.toList++us.drop (kk+n)).drop (j*(U.sz q))).take (U.sz q)=(us.drop (j*(U.sz q))).take (U.sz q):=by
    have hcase:j*(U.sz q)+(U.sz q)<=m*(U.sz q)\/m*(U.sz q)+(U.sz q)<=j*(U.sz q):=by
     rcases Nat.lt_or_gt_of_ne hjm with h|h
     ·left;rw[<-yD];exact yP _ h
     ·right;rw[<-yD];exact yP _ h
    apply List.ext_getElem?;intro a;simp only[yw,yB,zF,zM,yC,h6',yf];by_cases e1:a<(U.sz q)
    ·rw[bS e1,bS e1];rcases hcase with hc|hc
     ·rw[bS (by omega),bS (by omega),bS (by omega)]
     ·rw[bT (by omega)]
      congr 1
      omega
    ·rw[bT e1,bT e1]
   rw[e];exact(h3 j hj).mono hal
end
inductive F2 {α:Type} {β:Type} (R:α->β->Prop):List α->List β->Prop
 |nil:F2 R [] []
 |cons {a:α} {b:β} {as0:List α} {bs:List β} (h:R a b) (hs:F2 R as0 bs):F2 R (a::as0) (b::bs)
def Uk(place:Nat->af (Nat×Nat))(cells:aa AV):aa (Nat×AV)->af (aa AV)
 |[]=>Q cells
 |(i,a)::rest=>
  match place i with
  |none=>J
  |some (off,size)=>
   match zh (cT a).length size&&z8 (off+size) cells.length&&pz a with
   |true=>Uk place (cells.take off++cT a++cells.drop (off+size)) rest
   |false=>J
def foldl_set(us:aa Value):∀(k off:Nat) (init:Array Value),off+k+yz us<=init.size->
  ((us.zipIdx k).foldl (λcs (p:Value×Nat)=>cs.setIfInBounds (off+p.2) p.1) init).toList=init.toList.take (off+k)++us++init.toList.drop (off+k+yz us):=by
 induction us with
 |nil=>intro k off init h;simp
 |cons u us ih=>
  intro k off init h;simp only[yo]at h;rw[List.zipIdx_cons,List.foldl_cons,ih (k+1) off _ (by simp;omega)];have h1:off+k<yz init.toList:=by simp;omega
  rw[Array.toList_setIfInBounds];have e1:(init.toList.set (off+k) u).take (off+(k+1))=init.toList.take (off+k)++[u]:=by
   rw[wF,bS h1];have e:off+(k+1)=yz (init.toList.take (off+k))+1:=by rw[zM];omega
   rw[e,List.take_length_add_append];simp
  have e2:(init.toList.set (off+k) u).drop (off+(k+1)+yz us)=init.toList.drop (off+k+(yz us+1)):=by
   rw[List.drop_set_of_lt (by omega)]
   congr 1
   omega
  rw[e1,e2];simp
def HB{A:Nat->Prop}{w:World}{place:Nat->af (Nat×Nat)}:∀{ps:aa (Nat×AV)} {qs:aa (Nat×Value)} {cs cs':aa AV} {init:Array Value},bn A w cs init.toList->
  F2 (λ(p:Nat×AV) (q:Nat×Value)=>p.1=q.1/\Rel A w p.2 q.2) ps qs->Uk place cs ps=Q cs'->∃us:Array Value,Instr.fill place init qs=Q us/\bn A w cs' us.toList
 |[],_,cs,cs',init,hi,hp,hf=>by
  cases hp;cases hf;exact⟨init,rfl,hi⟩
 |(i,a)::ps,_,cs,cs',init,hi,hp,hf=>by
  cases hp with
  |@cons _ q _ qs h1 h2=>
   obtain⟨j,v⟩:=q;obtain⟨h3,h4⟩:=h1;subst h3;unfold Uk at hf;unfold Instr.fill;cases hpl:place i with
   |none=>rw[hpl]at hf;cases hf
   |some os=>
    obtain⟨off,size⟩:=os;rw[hpl]at hf;simp only at hf ⊢;split at hf
    ·rename_i hc;simp only[zj,Nat.ble_eq]at hc;obtain⟨⟨hc1,hc2⟩,hc3⟩:=hc;have hc1:=yI hc1;obtain⟨h5,h6⟩:=h4.cells hc3;have hvs:v.cells.size=size:=by rw[<-yf,h5.1,hc1]
     have his:init.size=yz cs:=by rw[<-yf,hi.1]
     rw[bT (by simp;omega)];refine HB (cs:=cs.take off++cT a++cs.drop (off+size)) ?_ h2 hf;have hvl:yz v.cells.toList=size:=by rw[yf,hvs]
     have e:(v.cells.zipIdx.foldl (λcs (x:Value×Nat)=>match x with|(c,j)=>cs.setIfInBounds (off+j) c) init).toList=init.toList.take off++v.cells.toList++init.toList.drop (off+size):=by
      have:=foldl_set v.cells.toList 0 off init (by rw[hvl];omega);rw[hvl,yO]at this;rw[<-this,<-Array.foldl_toList,Array.toList_zipIdx]
     rw[e];exact((hi.take off).app h5).app (hi.drop (off+size))
    ·cases hf
def Env.RJ(E:Env):aa (Nat×Operand)->af (aa (Nat×AV))
 |[]=>Q []
 |(i,x)::xs=>match E.ev x,Env.RJ E xs with
  |some a,Q as0=>Q ((i,a)::as0)
  |_,_=>J
def Env.nN{A:Nat->Prop}{w:World}{E:Env}{ρ:Operand->Value}(h:JT A w E ρ):∀{xs:aa (Nat×Operand)} {as0:aa (Nat×AV)},E.RJ xs=Q as0->
  F2 (λ(p:Nat×AV) (q:Nat×Value)=>p.1=q.1/\Rel A w p.2 q.2) as0 (xs.map λp=>(p.1,ρ p.2))
 |[],as0,he=>by cases he;exact .nil
 |(i,x)::xs,as0,he=>by
  unfold Env.RJ at he;cases h1:E.ev x with
  |none=>rw[h1]at he;cases he
  |some a=>
   cases h2:E.RJ xs with
   |none=>rw[h1,h2]at he;cases he
   |some as'=>
    rw[h1,h2]at he;cases he;exact .cons ⟨rfl,h x a h1⟩ (Env.nN h h2)
def placesOf(P:Program)(T:TypeId):af (aa (Nat×Nat)):=match P.underlying T with
 |some (.struct fields)=>fields.toList.mapM λf=>(P.info? f.type).map λi=>(f.offset,i.size)
 |_=>J
def gO(P:Program)(T:TypeId):af (aa Value):=(P.info? T).bind λi=>i.zero.map (·.cells.toList)
section
variable {P:Program} {E:Env} {σ:aa bH} {o:Oper} {T T' e:TypeId} {x y z:Operand} {av bv:AV} {v u:Value} {m n:Int} {b:Bool} {k:IntKind} {C:Cx} {X:aa Nat}
def Kh{ps:Array (Nat×Operand)}{ρ:Operand->Value}:(ps.map λ(i,x)=>(i,ρ x)).toList=ps.toList.map λp=>(p.1,ρ p.2):=by
 simp
def iX{q:Nat}:∀(l:aa (U.cA q)),(∀i,i<yz l->yz (U.cells q l[i]!)=(U.sz q))->yz (l.flatMap (U.cells q))=yz l*(U.sz q)/\∀i,i<yz l->((l.flatMap (U.cells q)).drop (i*(U.sz q))).take (U.sz q)=U.cells q l[i]!
  |[],_=>⟨by simp,λi hi=>by cases hi⟩
  |x::l,h=>by
    have h0:yz (U.cells q x)=(U.sz q):=h 0 (by simp);obtain⟨h1,h2⟩:=iX l λi hi=>by
      have:=h (i+1) (by simpa using hi)
      assumption
    refine⟨by rw[xH,zF,h0,h1,yo,yD];omega,λi hi=> ?_⟩;rw[xH];cases i with
    | zero => rw [Nat.zero_mul, List.drop_zero, ← h0, List.take_left']
              ·rfl
              ·rfl
    |succ i=>
      have hi':i<yz l:=by simpa using hi
      rw[show (x::l)[i+1]! =l[i]! from by rw[getElem!_pos _ (i+1) (by simpa using hi'),getElem!_pos l i hi'];rfl,<-h2 i hi'];rw[show (i+1)*(U.sz q)=yz (U.cells q x)+i*(U.sz q)from by rw[h0,yD];omega,<-z6,List.drop_left'];rfl
def sR{A:Nat->Prop}{w:World}{q:Nat}{l:aa (U.cA q)}{us:aa Value}(hr:fM w v q (U.sz q) (yz l) us)(hz:∀i,i<yz l->yz (U.cells q l[i]!)=(U.sz q))(h:bn A w (l.flatMap (U.cells q)) us):bH.ok A w (.row v q l):=
 ⟨us,hr,hz,λi hi=>by rw[<-(iX l hz).2 i hi];exact(h.drop _).take _⟩
def mG{A:Nat->Prop}{w:World}{q:Nat}{l:aa (U.cA q)}(h:bH.ok A w (.row v q l)):∃us,fM w v q (U.sz q) (yz l) us/\(∀i,i<yz l->yz (U.cells q l[i]!)=(U.sz q))/\bn A w (l.flatMap (U.cells q)) us:=by
 obtain⟨us,h1,h2,h3⟩:=h;refine⟨us,h1,h2,?_⟩;obtain⟨f1,f2⟩:=iX l h2;refine⟨by rw[f1,h1.1],λj a u ha hu=> ?_⟩;have hj:j<yz l*(U.sz q):=by rw[<-f1];exact(zQ.1 ha).1
 have hsz:0<(U.sz q):=by
  rcases wj (U.sz q)with h|h
  ·simp_all
  ·exact h
 have hi:j/(U.sz q)<yz l:=by rw[Nat.div_lt_iff_lt_mul hsz];exact hj
 have hm:j%(U.sz q)<(U.sz q):=Nat.mod_lt _ hsz;have he:j/(U.sz q)*(U.sz q)+j%(U.sz q)=j:=by rw[Nat.mul_comm];exact Nat.div_add_mod j (U.sz q)
 refine(h3 _ hi).2 (j%(U.sz q)) a u ?_ ?_
 ·rw[<-f2 _ hi,yw,bS hm,yC,he];exact ha
 ·simp_all
def get_append_left!{q:Nat}(l l2:aa (U.cA q))(i:Nat)(h:i<yz l):(l++l2)[i]! =l[i]! :=by
 rw[getElem!_pos _ i (by rw[zF];omega),List.getElem_append_left h,<-getElem!_pos l i h]
def get_append_right!{q:Nat}(l l2:aa (U.cA q))(i:Nat)(h:yz l<=i)(h2:i<yz l+yz l2):(l++l2)[i]! =l2[i-l.length]! :=by
 rw[getElem!_pos _ i (by rw[zF];exact h2),List.getElem_append_right h,<-getElem!_pos l2 (i-l.length) (by omega)]
def Jk{q:Nat}{l l2:aa (U.cA q)}(h:∀i,i<yz l->yz (U.cells q l[i]!)=(U.sz q))(h2:∀i,i<yz l2->yz (U.cells q l2[i]!)=(U.sz q)):∀i,i<yz (l++l2)->yz (U.cells q (l++l2)[i]!)=(U.sz q):=λi hi=>by
 rw[zF]at hi;by_cases hlt:i<yz l
 ·rw[get_append_left! _ _ _ hlt];exact h i hlt
 ·rw[get_append_right! _ _ _ (by omega) hi];exact h2 _ (by omega)
def Ly{zs:aa Value}{sz n:Nat}(hsz:yz zs=sz)(hpos:0<sz):((Array.range (n*sz)).map (zs.toArray[· %zs.toArray.size]!)).toList=(zw n zs).flatten:=by
 apply List.ext_getElem?;intro j;have hfl:yz (zw n zs).flatten=n*sz:=by simp[hsz]
 have hq:∀(q:Nat) (j:Nat),j<q*sz->(zw q zs).flatten[j]? =zs[j%sz]? :=by
  intro q;induction q with
  |zero=>intro j hj;simp at hj
  |succ q ih=>
   intro j hj;rw[yE,wk,yB];split
   ·rename_i h;rw[hsz]at h;rw[wm h]
   ·rename_i h;rw[hsz,ih _ (by rw[yD]at hj;omega),Nat.mod_eq_sub_mod (by omega:sz<=j)]
 by_cases hj:j<n*sz
 ·rw[hq n j hj];have hmod:j%sz<sz:=Nat.mod_lt _ hpos;simp[hj,hsz,hmod]
 ·rw[xw (l:=(zw n zs).flatten) (by rw[hfl];omega)];simp[hj]
def Yv.lit{len:Nat}{ps:Array (Nat×Operand)}{zs:aa Value}(l:aa (U.cA e))(ho:o.op= .buildSlice T len ps)(hT:P.underlying T=Q (.slice e))(hs:(P.info? e).map (·.size)=Q (U.sz e))(hz:gO P e=Q zs)
  (hzl:yz zs=(U.sz e)) (hf:∀A w ρ,Hd A σ w->JT A w E ρ->∃us:Array Value,Instr.fill (λi=>Q (i*(U.sz e),(U.sz e))) (zw len zs).flatten.toArray (ps.toList.map λp=>(p.1,ρ p.2))=Q us/\bn A w (l.flatMap (U.cells e)) us.toList) (hl:yz l=len) (hu:∀i,i<yz l->yz (U.cells e l[i]!)=(U.sz e)) (hpos:0<len*(U.sz e)) (hsm:len*(U.sz e)<=2^24):
  Yv P E σ o C [] (λa σ'=>∃v,a= .lit v/\σ'= .row v e l::σ):=λw ρ hg hρ=>by
 obtain⟨it,hit,hz1⟩:=zn.1 hz;obtain⟨zv,hz2,hz3⟩:=zk.1 hz1;obtain⟨ie,hie,hse⟩:=zk.1 hs;have hee:it=ie:=by rw[hit]at hie;exact zG.inj hie
 subst hee;have hzc:zv.cells=zs.toArray:=by rw[<-hz3]
 obtain⟨us,h1,h2⟩:=hf _ w ρ hg.hd hρ;have hrun:=run_buildSlice (P:=P) w T e len (ps.map λ(i,x)=>(i,ρ x)) us it zv hT hit hz2 (by rw[hse];omega) (by rw[hse];omega) (by
  rw[hse,hzc,Kh,<-h1]
  congr 1
  apply Array.ext';exact Ly hzl (Nat.pos_of_mul_pos_left hpos))
 have hlp:0<len:=Nat.pos_of_mul_pos_right hpos;have hlen:yz us.toList=len*(U.sz e):=by rw[h2.1,(iX l hu).1,hl]
 refine⟨_,w.alloc (.cells us e),_,_,⟨.slice (Q ⟨w.heap.size,0,J⟩) len len,rfl,rfl⟩,?_,by simp[execOp,ho,hrun], .lit _⟩;obtain⟨ln,rfl⟩:∃ln,len=ln+1:=⟨len-1,by omega⟩;refine jA (r:= .row (.slice (Q ⟨w.heap.size,0,J⟩) (ln+1) (ln+1)) e l) hg (gv w _) (.inr rfl) (sR (us:=us.toList) ?_ hu ?_)
 ·rw[hl];refine⟨hlen, .inr ⟨w.heap.size,ln,us,rfl,heap_alloc_new w _,zA _,?_,by rw[<-yf,hlen],by rw[<-hlen,yp]⟩⟩;have:ln+1<=(ln+1)*(U.sz e):=Nat.le_mul_of_pos_right _ (Nat.pos_of_mul_pos_left hpos);unfold maxLen;omega
 ·exact G4 (r:= .row (.slice (Q ⟨w.heap.size,0,J⟩) (ln+1) (ln+1)) e l) h2 (.inr rfl) (gv w _)
def Yv.aBI{s:Nat}(ho:o.op= .buildSlice T 0 #[])(hT:P.underlying T=Q (.slice e))(hs:(P.info? e).map (·.size)=Q s):Yv P E σ o C [] (λa σ'=>∃v,a= .lit v/\σ'= .row v e ([]:aa (U.cA e))::σ):=λw ρ hg hρ=>by
 obtain⟨j,hj,hj'⟩:=zk.1 hs;refine⟨_,w.alloc (.cells #[] e),_,_,⟨.slice (Q ⟨w.heap.size,0,J⟩) 0 0,rfl,rfl⟩,jA hg (gv w _) (.inl rfl) ⟨[],⟨by simp, .inl ⟨_,rfl,rfl⟩⟩,λi hi=>by simp at hi,λi hi=>by simp at hi⟩,?_, .lit _⟩;simp[execOp,ho,Instr.buildSlice,run_underlying hT,sizeOf,typeInfo,hj,Instr.fill,newRow];rw[show Array.range 0=#[]from rfl,Array.map_empty]
def Yv.make{by':Nat}{zs:aa Value}(d:U.cA e)(ho:o.op= .makeSlice T x y)(hx:E.ev x=Q (.i m))(hy:E.ev y=Q (.i n))(hT:P.underlying T=Q (.slice e))(hs:(P.info? e).map (λi=>(i.size,i.bytes))=Q ((U.sz e),by'))(hz:gO P e=Q zs)(hb:z8 by' 4096=O)(hsz:yz zs=(U.sz e))(hd:∀A w,bn A w (U.cells e d) zs)(hpos:0<(U.sz e))
  (hm:0<=m/\m<=n/\n<=1073741824):Yv P E σ o C [] (λa σ'=>∃v,a= .lit v/\σ'= .row v e (zw m.toNat d)::σ):=λw ρ hg hρ=>by
 obtain⟨it,hit,hz1⟩:=zn.1 hz;obtain⟨zv,hz2,hz3⟩:=zk.1 hz1;obtain⟨ie,hie,hse⟩:=zk.1 hs;have hee:it=ie:=by rw[hit]at hie;exact zG.inj hie
 subst hee;simp only[Prod.mk.injEq]at hse;obtain⟨s1,s2⟩:=hse;have hzc:zv.cells=zs.toArray:=by rw[<-hz3]
 have hby:by'<=4096:=by simpa using hb
 obtain⟨mm,rfl⟩:∃mm:Nat,m=mm:=⟨m.toNat,by omega⟩;obtain⟨nn,rfl⟩:∃nn:Nat,n=nn:=⟨n.toNat,by omega⟩;have hbb:(it.bytes:Int)*(nn:Int)<=281474976710656:=by
  have h1:it.bytes*nn<=4096*1073741824:=Nat.mul_le_mul (by omega) (by omega);omega
 have hrun:=run_make (P:=P) w T e it zv hT hit hz2 .i64 .i64 mm nn (by omega) (by omega) hbb (by omega);have hx':=(hρ _ _ hx).bI;have hy':=(hρ _ _ hy).bI;refine⟨.slice (Q ⟨w.heap.size,0,J⟩) mm nn,w.alloc (.cells (madeCells zv.cells (nn*it.size)) e),_,_,⟨.slice (Q ⟨w.heap.size,0,J⟩) mm nn,rfl,rfl⟩,?_,?_, .lit _⟩
 ·rw[zi];have hcells:(madeCells zv.cells (nn*it.size)).toList=(zw nn zs).flatten:=by
   rw[hzc,s1];unfold madeCells;apply List.ext_getElem?;intro j;have hfl:yz (zw nn zs).flatten=nn*(U.sz e):=by simp[hsz]
   have hq:∀(q:Nat) (j:Nat),j<q*(U.sz e)->(zw q zs).flatten[j]? =zs[j%(U.sz e)]? :=by
    intro q;induction q with
    |zero=>intro j hj;simp at hj
    |succ q ih=>
     intro j hj;rw[yE,wk,yB];split
     ·rename_i h;rw[hsz]at h;rw[wm h]
     ·rename_i h;rw[hsz,ih _ (by rw[yD]at hj;omega),Nat.mod_eq_sub_mod (by omega:(U.sz e)<=j)]
   by_cases hj:j<nn*(U.sz e)
   ·rw[hq nn j hj];have hmod:j%(U.sz e)<(U.sz e):=Nat.mod_lt _ hpos;simp[hj,hsz,hmod]
   ·rw[xw (l:=(zw nn zs).flatten) (by rw[hfl];omega)];simp[hj]
  by_cases hn0:nn=0
  ·have hm0:mm=0:=by omega
   subst hn0 hm0;exact jA hg (gv w _) (.inl rfl) ⟨[],⟨by simp, .inl ⟨_,rfl,rfl⟩⟩,λi hi=>by simp at hi,λi hi=>by simp at hi⟩
  ·obtain⟨nk,rfl⟩:∃nk,nn=nk+1:=⟨nn-1,by omega⟩;have hu:∀i,i<yz (zw mm d)->yz (U.cells e (zw mm d)[i]!)=(U.sz e):=λi hi=>by
    rw[getElem!_pos _ i hi,List.getElem_replicate,<-(hd (λ_=>True) w).1,hsz]
   have hfl:∀q,yz (zw q zs).flatten=q*(U.sz e):=λq=>by simp[hsz]
   have hfl2:∀(A:Nat->Prop) (w:World) (q:Nat),bn A w ((zw q d).flatMap (U.cells e)) (zw q zs).flatten:=λA w q=>by
    induction q with
    |zero=>exact bn.nil
    |succ q ih=>rw[yE,yE,xH,wk];exact(hd A w).app ih
   have htk:∀q q':Nat,q<=q'->((zw q' zs).flatten).take (q*(U.sz e))=(zw q zs).flatten:=λq q' h=>by
    obtain⟨r,rfl⟩:∃r,q'=q+r:=⟨q'-q,by omega⟩;rw[<-List.replicate_append_replicate,List.flatten_append,<-hfl q];simp
   refine jA (r:= .row (.slice (Q ⟨w.heap.size,0,J⟩) mm (nk+1)) e (zw mm d)) hg (gv w _) (.inr rfl) (sR (us:=(zw mm zs).flatten) ?_ hu ?_)
   ·rw[xU];refine⟨hfl mm, .inr ⟨w.heap.size,nk,_,rfl,heap_alloc_new w _,by omega,by unfold maxLen;omega,?_,by rw[hcells];exact htk _ _ (by omega)⟩⟩;rw[<-yf,hcells,hfl]
   ·simp_all
 ·simp[execOp,ho,hx',hy',hrun]
def AH{w:World}{ty:TypeId}{i:TypeInfo}{zz:Value}{sz by' nn mm:Nat}{us news:aa Value}{xs:Value}(ht:P.underlying T=Q (.slice e))(hi:P.info? e=Q i)(hz:i.zero=Q zz)(hs:i.size=sz)(hby:i.bytes=by')(hzs:zz.cells.size=sz)
  (hrow:fM w v e sz nn us) (hx:∃p c,xs= .slice p mm c/\(mm=0\/∃a,p=Q a/\∀j u,news[j]? =Q u->w.cell? (a.add j)=Q u)) (hl:yz news=mm*sz) (h1:∀u∈news,u.oneCell'=O) (h63:nn+mm<=maxLen) (hb:(nn+mm)*by'<=140737488355328):
  ∃v' w',(Builtin.append_ #[T,T] ty #[v,xs]).run P w= .ok v' w'/\fM w' v' e sz (nn+mm) (us++news)/\Kp (fD v).toList w w'/\(fD v'=fD v\/fD v'=Q w.heap.size):=by
 subst hs hby
 obtain⟨p,cx,rfl,hx⟩:=hx;by_cases hm:mm=0
 ·subst hm;have hn:news=[]:=xx (by simpa using hl);subst hn;obtain⟨q,cap,rfl,hcap⟩:=hrow.len;have hf:∀w,(Builtin.firstCells i.size 0 (.slice p 0 cx)).run P w= .ok #[] w:=λw=>by
   cases p<;>simp[Builtin.firstCells,loadCells,loadCellsFrom]
  have hrun:(Builtin.append_ #[T,T] ty #[.slice q nn cap, .slice p 0 cx]).run P w= .ok (.slice q nn cap) w:=by
   cases q<;>simp[Builtin.append_,run_underlying ht,sizeOf,typeInfo,hi,Builtin.lenOf,hf,hcap,storeCells]
  exact⟨_,w,hrun,by simpa using hrow,Kp.refl _ _, .inl rfl⟩
 ·obtain⟨a,rfl,hc⟩:=hx.resolve_left hm;have grown:∀(olds:aa Value) (old:Nat),yz olds=nn*i.size->old<nn+mm->us=olds->
    fM (w.drew.alloc (.cells (olds.toArray++news.toArray++Builtin.zeroCells zz.cells (grownCap w (nn+mm) old e-(nn+mm))) e)) (.slice (Q ⟨w.heap.size,0,J⟩) (nn+mm) (grownCap w (nn+mm) old e)) e i.size (nn+mm) (us++news):=by
   intro olds old hol hlt hus;subst hus;have hge:=grownCap_ge w (nn+mm) old e;have hcm:=grownCap_le_maxLen w (nn+mm) old e h63;obtain⟨ck,hck⟩:∃ck,grownCap w (nn+mm) old e=ck+1:=⟨grownCap w (nn+mm) old e-1,by omega⟩;refine⟨by rw[zF,hol,hl,yq], .inr ⟨w.heap.size,ck,_,by rw[hck],heap_alloc_new w.drew _,by omega,by omega,?_,?_⟩⟩
   ·rw[<-hck];simp only[Array.size_append,yK,size_zeroCells,hzs,hol,hl,<-yq]
    congr 1
    omega
   ·simp only[Array.toList_append,yT];rw[<-yT,show (nn+mm)*i.size=yz (us++news) from by rw[zF,hol,hl,yq]];exact List.take_left
  rcases hrow.2 with ⟨q,rfl,rfl⟩|⟨g,cap,cur,rfl,hg,hnc,hcm,hcs,htake⟩
  ·have hu:us=[]:=xx (by simpa using hrow.1);have hgr:=grown [] 0 (by simp) (by omega) hu;rw[ya]at hgr hb h63;have hgc:=grownCap_ge w mm 0 e;have hrb:fD (.slice (Q ⟨w.heap.size,0,J⟩) mm (grownCap w mm 0 e))=Q w.heap.size:=by
    obtain⟨ck,hck⟩:∃ck,grownCap w mm 0 e=ck+1:=⟨grownCap w mm 0 e-1,by omega⟩;rw[hck];rfl
   have h63':(mm:Int)<=9223372036854775807:=by unfold maxLen at h63;omega
   cases q with
   |none=>
    have hr:=run_append_nil (P:=P) w T ty e i zz ht hi hz a mm cx news hl hc (by omega) h63' (by omega);refine⟨_,_,hr,?_,Da w _, .inr hrb⟩;rw[ya];simpa using hgr
   |some b=>
    have hr:=run_append_grow (P:=P) w T ty e i zz ht hi hz b 0 0 [] (by simp) (λj v hj=>by cases hj) a mm cx news hl hc (by omega) (by simpa using h63') (growslice_fits (by omega) (by rw[ya];exact hb));refine⟨_,_,hr,?_,Da w _, .inr (by rw[ya];exact hrb)⟩;rw[ya];exact hgr
  ·by_cases hroom:nn+mm<=cap+1
   ·have hfit:nn*i.size+yz news<=cur.size:=by rw[hl,hcs,<-yq];exact yP _ hroom
    have hr:=run_append_room (P:=P) w T ty e i ht hi g nn (cap+1) cur hg a mm cx news hl hc h1 hroom hfit;refine⟨_,_,hr,⟨by rw[zF,hrow.1,hl,yq], .inr ⟨g,cap,_,rfl,setRow_heap w g cur _ e _ hg,hroom,hcm,?_,?_⟩⟩,kI w g _, .inl rfl⟩
    ·simp only[yK,zF,zM,yc,yf];omega
    ·rw[htake,show (nn+mm)*i.size=yz (us++news) from by rw[zF,hrow.1,hl,yq]];exact List.take_left
   ·have holds:∀j v,us[j]? =Q v->w.cell? ((⟨g,0,J⟩:Addr).add j)=Q v:=λj v hj=>by
     rw[mR,ya];exact hrow.cells rfl j v hj
    have h63':((nn+mm:Nat):Int)<=9223372036854775807:=by unfold maxLen at h63;omega
    have hr:=run_append_grow (P:=P) w T ty e i zz ht hi hz ⟨g,0,J⟩ nn (cap+1) us hrow.1 holds a mm cx news hl hc (by omega) h63' (growslice_fits (by omega) hb);have hgr:=grown us (cap+1) hrow.1 (by omega) rfl;have hgc:=grownCap_ge w (nn+mm) (cap+1) e;refine⟨_,_,hr,hgr,⟨rfl,rfl,rfl,by simp,λk hk _=>heap_alloc_old w.drew _ hk⟩, .inr ?_⟩;obtain⟨ck,hck⟩:∃ck,grownCap w (nn+mm) (cap+1) e=ck+1:=⟨grownCap w (nn+mm) (cap+1) e-1,by omega⟩;rw[hck];rfl
def Src(σ:aa bH)(E:Env)(x:Operand)(e:TypeId)(l:aa (U.cA e)):Prop:=
 (∃p c,E.ev x=Q (.lit (.slice p 0 c))/\l=[])\/E.ev x=Q (.sl e l)\/∃(i:Nat) (v:Value),E.ev x=Q (.lit v)/\σ[i]? =Q (.row v e l)
def Src.spec{q:Nat}{l:aa (U.cA q)}{A:Nat->Prop}{w:World}{ρ:Operand->Value}(h:Src σ E x q l)(hd:Hd A σ w)(hρ:JT A w E ρ):∃p cap news,ρ x= .slice p (yz l) cap/\(yz l=0\/∃a,p=Q a/\∀j u,news[j]? =Q u->w.cell? (a.add j)=Q u)/\yz news=yz l*(U.sz q)/\(∀i,i<yz l->yz (U.cells q l[i]!)=(U.sz q))/\bn A w (l.flatMap (U.cells q)) news/\yz l<=9223372036854775807:=by
 rcases h with ⟨p,c,h,rfl⟩|h|⟨i,v,h,hσ⟩
 ·exact⟨p,c,[],(hρ _ _ h).bI, .inl rfl,by simp,λi hi=>by simp at hi,bn.nil,by simp⟩
 ·have hr:=hρ _ _ h;obtain⟨p,cap,u,hv,hl,_,hz,hc,hcr⟩:=hr.oq;rw[hv]at hr
  let news:aa Value:=(zU (yz l)).flatMap λi=>(zU (U.sz q)).map λj=>u i j
  have hnl:∀(z:aa Nat),yz (z.flatMap λi=>(zU (U.sz q)).map λj=>u i j)=yz z*(U.sz q):=λz=>by
   induction z with
   |nil=>simp
   |cons a z ih=>rw[xH,zF,ih,zI,xS,yo,yD];omega
  have hnews:yz news=yz l*(U.sz q):=by rw[hnl,xS]
  have hget:∀n i j,i<n->j<(U.sz q)->((zU n).flatMap λi=>(zU (U.sz q)).map λj=>u i j)[i*(U.sz q)+j]? =Q (u i j):=by
   intro n;induction n with
   |zero=>intro i j hi _;omega
   |succ n ih=>
    intro i j hi hj;rw[List.range_succ,List.flatMap_append,yB,hnl,xS];by_cases hin:i<n
    ·have:i*(U.sz q)+(U.sz q)<=n*(U.sz q):=by rw[<-yD];exact yP _ hin
     rw[bS (by omega)];simp_all
    ·have:i=n:=by omega
     subst this;rw[bT (by omega)];simp[hj]
  refine⟨p,cap,news,hv,?_,hnews,hz,?_,hl⟩
  ·by_cases h0:yz l=0
   ·omega
   ·obtain⟨b,off,hp,hb,hA,hcc⟩:=hc 0 (by omega);refine .inr ⟨⟨b,off,J⟩,hp,λj v hj=> ?_⟩;have hjl:j<yz l*(U.sz q):=by rw[<-hnews];exact(zQ.1 hj).1
    have hsz:0<(U.sz q):=by
     rcases wj (U.sz q)with h|h
     ·simp_all
     ·exact h
    have hi:j/(U.sz q)<yz l:=by rw[Nat.div_lt_iff_lt_mul hsz];exact hjl
    have hm:j%(U.sz q)<(U.sz q):=Nat.mod_lt _ hsz;have he:j/(U.sz q)*(U.sz q)+j%(U.sz q)=j:=by rw[Nat.mul_comm];exact Nat.div_add_mod j (U.sz q)
    have h2:=hget (yz l) (j/(U.sz q)) (j%(U.sz q)) hi hm;rw[he]at h2;have h3:Q v=Q (u (j/(U.sz q)) (j%(U.sz q))):=by rw[<-hj,<-h2]
    cases h3;obtain⟨b',off',hp',_,_,hcc'⟩:=hc (j/(U.sz q)) hi;rw[hp]at hp';cases hp';have h4:=hcc' (j%(U.sz q)) hm;rw[mR,show off+j=off+j/(U.sz q)*(U.sz q)+j%(U.sz q)from by omega];exact h4
  ·obtain⟨f1,f2⟩:=iX l hz;refine⟨by rw[f1,hnews],λj a w' ha hw'=> ?_⟩;have hjl:j<yz l*(U.sz q):=by rw[<-hnews];exact(zQ.1 hw').1
   have hsz:0<(U.sz q):=by
    rcases wj (U.sz q)with h|h
    ·simp_all
    ·exact h
   have hi:j/(U.sz q)<yz l:=by rw[Nat.div_lt_iff_lt_mul hsz];exact hjl
   have hm:j%(U.sz q)<(U.sz q):=Nat.mod_lt _ hsz;have he:j/(U.sz q)*(U.sz q)+j%(U.sz q)=j:=by rw[Nat.mul_comm];exact Nat.div_add_mod j (U.sz q)
   have h2:=hget (yz l) (j/(U.sz q)) (j%(U.sz q)) hi hm;rw[he]at h2;have h3:Q w'=Q (u (j/(U.sz q)) (j%(U.sz q))):=by rw[<-hw',<-h2]
   cases h3;refine hcr (j/(U.sz q)) (j%(U.sz q)) a hi ?_;rw[<-f2 _ hi,yw,bS hm,yC,he];exact ha
 ·obtain⟨us,h1,h2,h3⟩:=mG (hd.1 _ (List.mem_of_getElem? hσ));obtain⟨p,cap,hv,_⟩:=h1.len;have hx':=(hρ _ _ h).bI;have hlm:yz l<=9223372036854775807:=by
   rcases h1.2 with ⟨_,_,h⟩|⟨_,_,_,_,_,q1,q2,_⟩
   ·omega
   ·unfold maxLen at q2;omega
  refine⟨p,cap,us,by rw[hx',hv],?_,h1.1,h2,h3,hlm⟩;by_cases h0:yz l=0
  ·exact .inl h0
  ·obtain⟨g,ck,cur,hv2,hgb,_⟩:=h1.at (by omega);rw[hv2]at hv;cases hv;refine .inr ⟨_,rfl,λj u hj=> ?_⟩;rw[mR,ya];exact h1.cells hgb j u hj
def Yv.app{by':Nat}{l l2:aa (U.cA e)}{zs:aa Value}(i:Nat)(ho:o.op= .call {callee:= .builtin .append,args:=#[x,y],argTypes:=#[T,T]})(hx:E.ev x=Q (.lit v))(hσ:σ[i]? =Q (.row v e l))(hy:Src σ E y e l2)(hT:P.underlying T=Q (.slice e))(hs:(P.info? e).map (λi=>(i.size,i.bytes))=Q ((U.sz e),by'))(hz:gO P e=Q zs)(hzl:yz zs=(U.sz e))(hb:z8 by' 4096=O)
  (h1:∀x:U.cA e,(U.cells e x).all gF=O) (hlen:yz (l++l2)<=1073741824):Yv P E σ o C (xG (fD v)) (λa σ'=>∃v',a= .lit v'/\σ'=σ.set i (.row v' e (l++l2))):=λw ρ hg hρ=>by
 obtain⟨it,hit,hz1⟩:=zn.1 hz;obtain⟨zv,hz2,hz3⟩:=zk.1 hz1;obtain⟨ie,hie,hse⟩:=zk.1 hs;have hee:it=ie:=by rw[hit]at hie;exact zG.inj hie
 subst hee;simp only[Prod.mk.injEq]at hse;obtain⟨s1,s2⟩:=hse;have hby:by'<=4096:=by simpa using hb
 obtain⟨us,g1,g2,g3⟩:=mG (hg.res _ (List.mem_of_getElem? hσ));obtain⟨p,cap,news,q1,q2,q3,q4,q5,q6⟩:=hy.spec hg.hd hρ;have hx':=(hρ _ _ hx).bI;have hone:∀u∈news,u.oneCell'=O:=q5.one (by
  rw[zx];intro a ha;obtain⟨x,_,hx⟩:=xV.1 ha;exact zx.1 (h1 x) a hx)
 rw[zF]at hlen;have hbytes:(yz l+yz l2)*by'<=140737488355328:=by
  have:(yz l+yz l2)*by'<=1073741824*4096:=Nat.mul_le_mul hlen hby
  omega
 obtain⟨v',w',r1,r2,r3,r4⟩:=AH (P:=P) (T:=T) (ty:=o.type) (xs:=ρ y) hT hit hz2 s1 s2 (by rw[<-yf,hz3,hzl]) g1 ⟨p,cap,q1,q2⟩ q3 hone (by unfold maxLen;omega) hbytes;refine⟨v',w',_,_,⟨v',rfl,rfl⟩,oA (r:= .row v e l) hg hσ r3 r4 (sR (by rw[zF];exact r2) (Jk g2 q4) ?_),?_, .lit _⟩
 ·rw[List.flatMap_append];refine(g3.app q5).mono λb hb hA=>⟨⟨hA.1,λhx=> ?_⟩,r3.block b hb (λhx=>hA.2 (bw.2 ⟨_,List.mem_of_getElem? hσ,by simpa [bH.blk]using hx⟩))⟩;obtain⟨s,hs1,hs2⟩:=bw.1 hx;rcases List.mem_or_eq_of_mem_set hs1 with h|h
  ·exact hA.2 (bw.2 ⟨s,h,hs2⟩)
  ·rw[h]at hs2;rcases r4 with r4|r4
   ·exact hA.2 (bw.2 ⟨_,List.mem_of_getElem? hσ,r4.symm.trans hs2⟩)
   ·have:Q w.heap.size=Q b:=r4.symm.trans hs2;simp_all
 ·simp[execOp,ho,resolve,invoke,builtin,hx',r1]
end
def Rel.apf{A:Nat->Prop}{w:World}{qt:Nat}{l:aa (U.cA qt)}{p:af Addr}{cap:Nat}(h:Rel A w (.sl qt l) (.slice p (yz l) cap)){lo hi cap':Nat}(h1:lo<=hi)(h2:hi<=yz l)(hc':hi-lo<=cap')(q:af Addr)(hq:hi-lo=0\/q=p.map (·.add (lo*(U.sz qt)))):
  Rel A w (.sl qt ((l.take hi).drop lo)) (.slice q (hi-lo) cap'):=by
 obtain⟨p',cp,u,hv,hl,hcap,hz,hc,hr⟩:=h.oq;cases hv;have hln:yz ((l.take hi).drop lo)=hi-lo:=by rw[yc,zM];omega
 have hget:∀i,i<hi-lo->((l.take hi).drop lo)[i]! =l[lo+i]! :=λi hi'=>by
  rw[getElem!_pos _ i (by rw[hln];exact hi'),getElem!_pos l (lo+i) (by omega),List.getElem_drop,xW]
 have hgoal:Rel A w (.sl qt ((l.take hi).drop lo)) (.slice q ((l.take hi).drop lo).length cap'):=by
  refine .sl qt _ q cap' (λi j=>u (lo+i) j) (by omega) (by omega) (λi hi'=> ?_) (λi hi'=> ?_) (λi j a hi' ha=> ?_)
  ·rw[hln]at hi';rw[hget i hi'];exact hz _ (by omega)
  ·rw[hln]at hi';obtain⟨b,off,hp,hb,hA,hcc⟩:=hc (lo+i) (by omega);refine⟨b,off+lo*(U.sz qt),?_,hb,hA,λj hj=> ?_⟩
   ·rcases hq with hq|hq
    ·omega
    ·rw[hq,hp,zX,mR]
   ·have:=hcc j hj
    rwa [yq,<-xo]at this
  ·rw[hln]at hi';rw[hget i hi']at ha;exact hr _ j a (by omega) ha
 simp_all
section
variable {P:Program} {E E':Env} {σ σ':aa bH} {o:Oper} {T T' e:TypeId} {x y z:Operand} {av bv:AV} {v u:Value} {m n:Int} {b:Bool} {k k':IntKind} {C:Cx} {X:aa Nat}
def Qz{w:World}{a:af Addr}{len cap lo hi:Nat}{s:Nat}{L H:af Value}(hT:P.underlying T=Q (.slice e))(hs:(P.info? e).map (·.size)=Q s)
  (hb:(Instr.sliceBounds O len cap L H J).run P w= .ok (lo,hi,cap) w):(Instr.slice T (.slice a len cap) L H J).run P w= .ok (.slice (if cap=lo then a else a.map (·.add (lo*s))) (hi-lo) (cap-lo)) w:=by
 obtain⟨j,hj,hj'⟩:=zk.1 hs;simp[Instr.slice,run_underlying hT,hb,sizeOf,typeInfo,hj,hj']
def J9{w:World}{len cap:Nat}(hh:0<=m/\m<=n/\n<=(len:Int))(hc:len<=cap):(Instr.sliceBounds O len cap (Q (.int k m)) (Q (.int k' n)) J).run P w= .ok (m.toNat,n.toNat,cap) w:=by
 have h1:0<=n/\n<=(cap:Int):=by omega
 simp[Instr.sliceBounds,Instr.sliceBound,asIntOf,h1];omega
def PL{w:World}{len cap:Nat}(hh:0<=n/\n<=(len:Int))(hc:len<=cap):(Instr.sliceBounds O len cap J (Q (.int k' n)) J).run P w= .ok (0,n.toNat,cap) w:=by
 have h1:0<=n/\n<=(cap:Int):=by omega
 simp[Instr.sliceBounds,Instr.sliceBound,asIntOf,h1]
def Rt{w:World}{len cap:Nat}(hh:0<=m/\m<=(len:Int)):(Instr.sliceBounds O len cap (Q (.int k m)) J J).run P w= .ok (m.toNat,len,cap) w:=by
 simp[Instr.sliceBounds,Instr.sliceBound,asIntOf,hh]
def sE{A:Nat->Prop}{w:World}{ρ:Operand->Value}{q:Nat}{l:aa (U.cA q)}{L H:af Operand}{lo hi:Nat}(ho:o.op= .slice T x L H J)(hx:Rel A w (.sl q l) (ρ x))(hT:P.underlying T=Q (.slice e))(hs:(P.info? e).map (·.size)=Q (U.sz q))(h1:lo<=hi)(h2:hi<=yz l)
  (hb:∀cap,yz l<=cap->∀w',(Instr.sliceBounds O (yz l) cap (L.map ρ) (H.map ρ) J).run P w'= .ok (lo,hi,cap) w'):∃v,Rel A w (.sl q ((l.take hi).drop lo)) v/\∀w':World,(execOp ρ o).run P w'= .ok (.value v) w':=by
 obtain⟨p,cap,u,hv,hl,hcap,_⟩:=hx.oq;rw[hv]at hx;refine⟨.slice (if cap=lo then p else p.map (·.add (lo*(U.sz q)))) (hi-lo) (cap-lo),hx.apf h1 h2 (by omega) _ ?_,λw'=> ?_⟩
 ·by_cases h:cap=lo
  ·omega
  ·right;rw[bT h]
 ·have:=Qz (P:=P) (T:=T) (w:=w') (a:=p) (len:=yz l) hT hs (hb cap hcap w');simp[execOp,ho,hv,Instr.sliceAt,run_underlying hT,this]
def Yp.apY{q:Nat}{l:aa (U.cA q)}(ho:o.op= .slice T x (Q y) (Q z) J)(hx:E.ev x=Q (.sl q l))(hy:E.ev y=Q (.n k m))(hz:E.ev z=Q (.n k' n))(hT:P.underlying T=Q (.slice e))(hs:(P.info? e).map (·.size)=Q (U.sz q))
  (hm:0<=m/\m<=n/\n<=(yz l:Int)):Yp P E σ o (.sl q ((l.take n.toNat).drop m.toNat)):=λA w ρ _ hρ=>by
 obtain⟨v,h1,h2⟩:=sE (P:=P) (lo:=m.toNat) (hi:=n.toNat) ho (hρ _ _ hx) hT hs (by omega) (by omega) (λcap hc w'=>by
  simp only[zX,(hρ _ _ hy).bI,(hρ _ _ hz).bI];exact J9 hm hc)
 exact⟨v,h1,λw' _=>h2 w'⟩
def Yp.ZV{q:Nat}{l:aa (U.cA q)}(ho:o.op= .slice T x J (Q z) J)(hx:E.ev x=Q (.sl q l))(hz:E.ev z=Q (.n k' n))(hT:P.underlying T=Q (.slice e))(hs:(P.info? e).map (·.size)=Q (U.sz q))
  (hm:0<=n/\n<=(yz l:Int)):Yp P E σ o (.sl q (l.take n.toNat)):=λA w ρ _ hρ=>by
 obtain⟨v,h1,h2⟩:=sE (P:=P) (lo:=0) (hi:=n.toNat) ho (hρ _ _ hx) hT hs (by omega) (by omega) (λcap hc w'=>by
  simp only[zX,(hρ _ _ hz).bI];exact PL hm hc)
 exact⟨v,h1,λw' _=>h2 w'⟩
def Yp.adK{q:Nat}{l:aa (U.cA q)}(ho:o.op= .slice T x (Q y) J J)(hx:E.ev x=Q (.sl q l))(hy:E.ev y=Q (.n k m))(hT:P.underlying T=Q (.slice e))(hs:(P.info? e).map (·.size)=Q (U.sz q))
  (hm:0<=m/\m<=(yz l:Int)):Yp P E σ o (.sl q (l.drop m.toNat)):=λA w ρ _ hρ=>by
 obtain⟨v,h1,h2⟩:=sE (P:=P) (lo:=m.toNat) (hi:=yz l) ho (hρ _ _ hx) hT hs (by omega) (by omega) (λcap hc w'=>by
  simp only[zX,(hρ _ _ hy).bI];exact Rt hm)
 rw[yp]at h1;exact⟨v,h1,λw' _=>h2 w'⟩
def Yv.NF{sz':Nat}{q:Nat}{l:aa (U.cA q)}(ho:o.op= .slice T x J (Q (.const (.int k 0))) (Q (.const (.int k' 0))))(hx:E.ev x=Q (.sl q l)\/E.ev x=Q (.lit (.slice J 0 0)))(hT:P.underlying T=Q (.slice e))(hs:(P.info? e).map (·.size)=Q sz'):
  Yv P E σ o C [] (λa σ'=>∃v,a= .lit v/\σ'= .row v e ([]:aa (U.cA e))::σ):=λw ρ hg hρ=>by
 obtain⟨j,hj,hj'⟩:=zk.1 hs;obtain⟨p,n,cap,hv⟩:∃p n cap,ρ x= .slice p n cap:=by
  rcases hx with hx|hx
  ·obtain⟨p,cap,u,hv,_⟩:=(hρ _ _ hx).oq;simp_all
  ·exact⟨J,0,0,(hρ _ _ hx).bI⟩
 have h0:ρ (.const (.int k 0))= .int k 0:=(hρ (.const (.int k 0)) _ rfl).bI;have h0':ρ (.const (.int k' 0))= .int k' 0:=(hρ (.const (.int k' 0)) _ rfl).bI;refine⟨.slice p 0 0,w,_,_,⟨_,rfl,rfl⟩,jA hg (Kp.refl [] w) (.inl (by cases p<;>rfl)) ⟨[],⟨by simp, .inl ⟨_,rfl,rfl⟩⟩,λi hi=>by simp at hi,λi hi=>by simp at hi⟩,?_, .lit _⟩;simp[execOp,ho,hv,h0,h0',Instr.sliceAt,Instr.slice,Instr.sliceBounds,Instr.sliceBound,run_underlying hT,sizeOf,typeInfo,hj,asIntOf]
def Yp.aoP{p:af Addr}{l c:Nat}(ho:o.op= .binOp .eql T x y T')(hx:E.ev x=Q (.lit (.slice p l c)))(hy:E.ev y=Q (.lit (.slice J 0 0)))(hT:P.underlying T=Q (.slice e)):Yp P E σ o (.b p.isNone):=Yp.lits λρ hρ w=>by
 have:=Lib.run_eql_slice_nil (P:=P) w T e p l c 0 0 hT;simp[execOp,ho,hρ _ _ hx,hρ _ _ hy,eqGuard,this]
def EP{w:World}(p:af Addr)(q:Nat)(h:Good C σ w):Tr C [] σ w (.row (.slice p 0 0) q ([]:aa (U.cA q))::σ) w:=
 jA h (Kp.refl [] w) (.inl (by cases p<;>rfl)) ⟨[],⟨by simp, .inl ⟨_,rfl,rfl⟩⟩,λi hi=>by simp at hi,λi hi=>by simp at hi⟩
def CW.own{n:Nat}{cd:Code}{zg:Exit->Env->aa bH->Prop}(p:af Addr)(q:Nat)(h:CW P C n cd zg E (.row (.slice p 0 0) q ([]:aa (U.cA q))::σ)):CW P C n cd zg E σ:=λa w ha=>
 h a w (ha.tr (EP p q ha.good))
def Vw(σ:aa bH)(a a':AV):Prop:=∀(A:Nat->Prop) (w:World) (v:Value),Hd A σ w->Rel A w a v->Rel (λb=>A b\/b∈aY σ) w a' v
def Vw.row{q:Nat}{l:aa (U.cA q)}(i:Nat)(hσ:σ[i]? =Q (.row v q l)):Vw σ (.lit v) (.sl q l):=λA w u hd h=>by
 have hu:=h.bI;subst hu;have hm:=List.mem_of_getElem? hσ;obtain⟨us,h1,h2,h3⟩:=hd.1 _ hm;have hlm:yz l<=9223372036854775807:=by
  rcases h1.2 with ⟨_,_,h⟩|⟨_,_,_,_,_,q1,q2,_⟩
  ·omega
  ·unfold maxLen at q2;omega
 obtain⟨p,cap,hv,hcap⟩:=h1.len;by_cases h0:yz l=0
 ·rw[hv];exact .sl q l p cap (λ_ _=>undef) hlm hcap (λi hi=>by omega) (λi hi=>by omega) (λi j a hi=>by omega)
 ·obtain⟨g,ck,cur,hv2,hgb,hB,_⟩:=h1.at (by omega);rw[hv2]at hv;cases hv;rw[hv2];refine .sl q l _ (ck+1) (λi j=>(us[i*(U.sz q)+j]?).getD undef) hlm hcap h2 (λi hi=>⟨g,0,rfl,hB.lt, .inr (bw.2 ⟨_,hm,hgb⟩),λj hj=> ?_⟩) (λi j a hi ha=> ?_)
  ·have hlt:i*(U.sz q)+j<yz us:=by
    have:i*(U.sz q)+(U.sz q)<=yz l*(U.sz q):=by rw[<-yD];exact yP _ hi
    rw[h1.1];omega
   rw[ya,zm hlt];exact h1.cells hgb _ _ (zm hlt)
  ·obtain⟨u,q1,q2⟩:=(h3 i hi).get ha;rw[yw]at q1;split at q1
   ·rw[yC]at q1;rw[q1];exact q2.mono λb _ hA=>⟨.inl hA,rfl⟩
   ·cases q1
def Vw.nil(q:Nat):Vw σ (.lit (.slice J 0 0)) (.sl q ([]:aa (U.cA q))):=λA w u _ h=>by
 have hu:=h.bI;subst hu;exact .sl q [] none 0 (λ_ _=>undef) (by simp) (by simp) (λi hi=>by cases hi) (λi hi=>by cases hi) (λi j a hi=>by cases hi)
def AX{r:bH}{i:Nat}(hσ:σ[i]? =Q r):List.Perm (aY σ) (aY (r::σ.eraseIdx i)):=by
 obtain⟨h1,_⟩:=tc (r':=r) hσ;have h2:σ.eraseIdx i=σ.take i++σ.drop (i+1):=wG ..;rw[h2];have hp:List.Perm (σ.take i++r::σ.drop (i+1)) (r::(σ.take i++σ.drop (i+1))):=xX;rw[<-h1]at hp;exact hp.filterMap _
def Ai{r:bH}{i:Nat}{w:World}(hσ:σ[i]? =Q r)(hg:Good C σ w):∀b,(al C σ b\/b∈aY [r])->al C (σ.eraseIdx i) b:=λb hb=>by
 have hp:=AX hσ;have hnd:=hp.nodup_iff.1 hg.sN;rcases hb with hb|hb
 ·exact⟨hb.1,λhx=>hb.2 (hp.mem_iff.2 (by rw[dO];exact yh _ hx))⟩
 ·have hbs:b∈r.blk.toList:=by rw[dO]at hb;simpa [aY]using hb
  refine⟨?_,λhx=> ?_⟩
  ·rcases hg.own b (hp.mem_iff.2 (by rw[dO];exact zZ _ hbs))with h|h
   ·simp_all
   ·omega
  ·rw[dO]at hnd;simp_all
def jH.ug{n:Nat}{a:Act}{w:World}{r:bH}{i t:Nat}(h:jH C n E σ a w)(hσ:σ[i]? =Q r)(ht:E.get t=Q av)(hv:Vw [r] av bv):jH C n ((t,bv)::E) (σ.eraseIdx i) a w:=by
 have hal:=Ai hσ h.good;have hp:=AX hσ;have hmem:∀s∈σ.eraseIdx i,s∈σ:=λs hs=>List.mem_of_mem_eraseIdx hs;have hd:Hd (al C σ) [r] w:=⟨λs hs=>by rw[zC]at hs;rw[hs];exact h.good.res r (List.mem_of_getElem? hσ),λb hb hA=>hA.2 (by
  obtain⟨s,h1,h2⟩:=bw.1 hb;rw[zC]at h1;rw[h1]at h2;exact bw.2 ⟨r,List.mem_of_getElem? hσ,h2⟩)⟩
 refine⟨h.defers.step (λb _ hA=>⟨hal b (.inl hA),rfl⟩),h.size,λs u hs=> ?_,⟨h.good.kept,λs hs=>(h.good.res s (hmem s hs)).mono (λb _ hA=>⟨hal b (.inl hA),rfl⟩) (λ_ _=>rfl),?_,λb hb=>h.good.own b (hp.mem_iff.2 (by rw[dO];exact yh _ hb))⟩⟩
 ·by_cases hts:t=s
  ·subst hts;rw[Env.dP]at hs;cases hs;obtain⟨v,h1,h2⟩:=h.slots t av ht;exact⟨v,h1,(hv _ w v hd h2).mono λb _ hb=>⟨hal b hb,rfl⟩⟩
  ·rw[Env.cW _ _ hts]at hs;obtain⟨v,h1,h2⟩:=h.slots s u hs;exact⟨v,h1,h2.mono λb _ hA=>⟨hal b (.inl hA),rfl⟩⟩
 ·have:=hp.nodup_iff.1 h.good.sN;rw[dO]at this;grind
def RW.ug{n:Nat}{ops:Array Oper}{K:Env->aa bH->Prop}{rest:aa Oper}{r:bH}(i t:Nat)(hσ:σ[i]? =Q r)(ht:E.get t=Q av)(hv:Vw [r] av bv)(h:RW P C n ops K rest ((t,bv)::E) (σ.eraseIdx i)):RW P C n ops K rest E σ:=λa w ha=>h a w (ha.ug hσ ht hv)
end
def Fn(P:Program)(f:FuncId)(args:aa AV)(σ:aa bH)(Φ:AV->aa bH->Prop):Prop:=
 ∀(w:World) (A:Nat->Prop) (vs:aa Value),bn A w args vs->Hd A σ w->(aY σ).Nodup->
  Calls P f vs.toArray w λe w'=>∃v av σ',e= .returned v/\Φ av σ'/\Tr ⟨w,A,aY σ⟩ (aY σ) σ w σ' w'/\Rel (al ⟨w,A,aY σ⟩ σ') w' av v
def Fn.mono{P:Program}{f:FuncId}{args:aa AV}{σ:aa bH}{Φ j:AV->aa bH->Prop}(h:Fn P f args σ Φ)(hp:∀a s,Φ a s->j a s):Fn P f args σ j:=λw A vs h1 h2 h3=>
 (h w A vs h1 h2 h3).mono λ_ _ ⟨v,av,σ',q1,q2,q3⟩=>⟨v,av,σ',q1,hp _ _ q2,q3⟩
def ew:Nat->aa AV->Env
 |_,[]=>[]
 |i,v::l=>(i,v)::ew (i+1) l
def tK:∀(l:aa AV) (i t:Nat) (v:AV),Env.get (ew i l) t=Q v->i<=t/\l[t-i]? =Q v
 |[],_,_,_,h=>by cases h
 |u::l,i,t,v,h=>by
  by_cases hit:i=t
  ·subst hit;rw[ew,Env.dP]at h;cases h;simp
  ·rw[ew,Env.cW _ _ hit]at h;obtain⟨h1,h2⟩:=tK l (i+1) t v h;grind
def UU(P:Program)(C:Cx)(n:Nat)(fn:Func)(Φ:AV->aa bH->Prop):Exit->Env->aa bH->Prop:=λe E σ=>
 (e= .normal\/e= .ret)/\∀a w,jH C n E σ a w->∃v av σ',Φ av σ'/\(results fn a.tmps).run P w= .ok v w/\Good C σ' w/\(∀b,al C σ b->al C σ' b)/\Rel (al C σ') w av v
structure Tn0 (C:Cx) (w w':World):Prop where
 os:w'.os=w.os
 tape:w'.tape=w.tape
 output:w'.output=w.output
 size:w.heap.size<=w'.heap.size
 old:∀k,k<C.w0.heap.size->w'.heap[k]? =w.heap[k]?
 same:∀(b:Nat) cs T m,w.heap[b]? =Q (Obj.cells cs T m)->w'.heap[b]? =w.heap[b]?
structure Tn (C:Cx) (w w':World):Prop extends Tn0 C w w' where
 mps:∀(b:Nat) ar cl,w.heap[b]? =Q (Obj.map ar cl)->w'.heap[b]? =w.heap[b]?
def Rel.uu{C:Cx}{A:Nat->Prop}{w w':World}{av:AV}{v:Value}(h:Rel A w av v)(ht:Tn0 C w w'):Rel A w' av v:=by
 have hcell:∀b i u,w.cell? ⟨b,i,J⟩=Q u->w'.cell? ⟨b,i,J⟩=Q u:=λb i u hc=>by
  rw[<-hc];cases hb:w.heap[b]? with
  |none=>simp[World.cell?,hb]at hc
  |some o=>
   cases o with
   |cells cs T m=>exact World.cell?_of_block (ht.same b cs T m hb)
   |_=>simp[World.cell?,hb]at hc
 induction h with
 |lit v=>exact .lit v
 |sl q l p cap u hl hcap hz hc hr ih=>
  refine .sl q l p cap u hl hcap hz (λi hi=> ?_) ih;obtain⟨b,off,h1,h2,h3,h4⟩:=hc i hi;exact⟨b,off,h1,yN h2 ht.size,h3,λj hj=>hcell _ _ _ (h4 j hj)⟩
 |fp cs b o us hb hA hl hc hr ih=>exact .fp cs b o us (yN hb ht.size) hA hl (λj v hj=>hcell _ _ _ (hc j v hj)) ih
 |rp v k g h=>exact .rp v k g h
 |agg cs us hl hr ih=>exact .agg cs us hl ih
 |gH cs us hl hr ih=>exact .gH cs us hl ih
 |fn f cs us hl hr ih=>exact .fn f cs us hl ih
def bH.ok.IC{C:Cx}{A:Nat->Prop}{w w':World}{r:bH}(h:r.ok A w)(hm:∀v es,r≠ .mp v es)(ht:Tn0 C w w'):r.ok A w':=by
 cases r with
 |box b T cs=>
  obtain⟨us,h1,h2⟩:=h;exact⟨us,(ht.same _ _ _ _ h1).trans h1,h2.1,λj a v q1 q2=>(h2.2 j a v q1 q2).uu ht⟩
 |row v q l=>
  obtain⟨us,h1,h2,h3⟩:=h;refine⟨us,⟨h1.1,?_⟩,h2,λi hi=>⟨(h3 i hi).1,λj a v q1 q2=>((h3 i hi).2 j a v q1 q2).uu ht⟩⟩;rcases h1.2 with q|⟨g,cap,cur,rfl,q1,q2⟩
  ·exact .inl q
  ·exact .inr ⟨g,cap,cur,rfl,(ht.same _ _ _ _ q1).trans q1,q2⟩
 |mp v es=>exact gI rfl (hm v es)
def bH.ok.uu{C:Cx}{A:Nat->Prop}{w w':World}{r:bH}(h:r.ok A w)(ht:Tn C w w'):r.ok A w':=by
 cases r with
 |mp v es=>
  obtain⟨b,ar,cl,rfl,h1,fs,hp,hq,h2,h3⟩:=h;exact⟨b,ar,cl,rfl,(ht.mps _ _ _ h1).trans h1,fs,hp,hq,h2,λi e m q1 q2=>⟨(h3 i e m q1 q2).1.uu ht.toTn0,(h3 i e m q1 q2).2.uu ht.toTn0⟩⟩
 |_=>exact h.IC (λ_ _ e=>by cases e) ht.toTn0
def QF(σ:aa bH):Prop:=∀r∈σ,∀v es,r≠ .mp v es
def Good.IC{C:Cx}{σ:aa bH}{w w':World}(h:Good C σ w)(hm:QF σ)(ht:Tn0 C w w'):Good C σ w':=
 ⟨⟨ht.os.trans h.kept.os,ht.tape.trans h.kept.tape,ht.output.trans h.kept.output,zY h.kept.size ht.size,λk hk hX=>(ht.old k hk).trans (h.kept.block k hk hX)⟩,
  λr hr=>(h.res r hr).IC (hm r hr) ht,h.sN,h.own⟩
def Good.uu{C:Cx}{σ:aa bH}{w w':World}(h:Good C σ w)(ht:Tn C w w'):Good C σ w':=
 ⟨⟨ht.os.trans h.kept.os,ht.tape.trans h.kept.tape,ht.output.trans h.kept.output,zY h.kept.size ht.size,λk hk hX=>(ht.old k hk).trans (h.kept.block k hk hX)⟩,
  λr hr=>(h.res r hr).uu ht,h.sN,h.own⟩
def Tn.putObj{C:Cx}{w:World}{D:Nat}{o:Obj}(o':Obj)(hw:C.w0.heap.size<=D)(hD:w.heap[D]? =Q o)(ho:o.isCells=V)(hm:∀ar cl,o≠ .map ar cl):Tn C w (w.putObj D o'):=
 ⟨⟨rfl,rfl,rfl,by simp[World.putObj],λk hk=>World.putObj_heap_other (by omega),λb cs T m hx=>World.putObj_heap_other λe=>by
  subst e;rw[hD]at hx;cases hx;cases ho⟩,λb ar cl hx=>World.putObj_heap_other λe=>by
  subst e;rw[hD]at hx;cases hx;exact hm _ _ rfl⟩
def fS.uu{C:Cx}{A:Nat->Prop}{w w':World}{E:Env}{tmps:Array Value}(h:fS A w E tmps)(ht:Tn0 C w w'):fS A w' E tmps:=λt av q=>let ⟨v,h1,h2⟩:=h t av q;⟨v,h1,h2.uu ht⟩
def Fn.of{P:Program}{f:FuncId}{fn:Func}{c:Code}{n:Nat}{args:aa AV}{σ:aa bH}{Φ:AV->aa bH->Prop}(hf:P.funcs[f]? =Q fn)(hb:fn.body=Q c)(hn:fn.ntmps=n)(hl:z8 (yz args) n=O)
  (h:∀C,CW P C n c (UU P C n fn Φ) (ew 0 args) σ):Fn P f args σ Φ:=λw A vs hr hd hnd=>by
 have hl':yz args<=n:=by simpa using hl
 have hvl:=hr.1;have hal:∀b,b<w.heap.size->A b->al ⟨w,A,aY σ⟩ σ b:=λb _ hA=>⟨.inl hA,λhx=>hd.2 b hx hA⟩;have hgood:Good ⟨w,A,aY σ⟩ σ w:=⟨Kp.refl _ _,λr hr=>(hd.1 r hr).mono (λb hb hA=>⟨hal b hb hA,rfl⟩) (λ_ _=>rfl),hnd,λb hb=> .inl hb⟩;refine callsIn_wide.1 (callsIn_of_wp_marks (n:=0) hf hb trivial (wpIn_wide.2 (wp_mono (h ⟨w,A,aY σ⟩ _ w ⟨.nil rfl,?_,λt v ht=> ?_,hgood⟩) ?_)))
 ·simp;omega
 ·obtain⟨_,h2⟩:=tK args 0 t v ht;obtain⟨u,h3,h4⟩:=hr.get h2;have hlt:t<yz vs:=(zQ.1 h3).1;refine⟨u,?_,h4.mono λb hb hA=>⟨hal b hb hA,rfl⟩⟩;rw[Array.getElem?_append_left (by simpa using hlt)];simpa using h3
 ·rintro e a' w' ⟨E',σ',h1,he,h2⟩;have fin:∀(w'':World),jH ⟨w,A,aY σ⟩ n E' σ' {a' with defers:=[]} w''->∃v,(results fn a'.tmps).run P w''= .ok v w''/\∃v' av σ'',Ending.returned v= .returned v'/\Φ av σ''/\Tr ⟨w,A,aY σ⟩ (aY σ) σ w σ'' w''/\Rel (al ⟨w,A,aY σ⟩ σ'') w'' av v':=λw'' hs=>by
   obtain⟨v,av,σ'',h3,h4,h5,h6,h7⟩:=h2 _ w'' hs;have hex:Tr ⟨w,A,aY σ⟩ (aY σ) σ w σ'' w'':=⟨h5,h5.kept,λb hb hA=>⟨⟨hA.1,λhx=>by
    rcases h5.own b hx with h|h
    ·exact hA.2 h
    ·exact gI hb (by have:w.heap.size<=b:=h;omega)⟩,hA.2⟩⟩
   exact⟨v,h4,v,av,σ'',rfl,h3,hex,h7⟩
  have lv:LeavesInM Fence.wide 0 P fn a'.tmps (λe w'=>∃v av σ',e= .returned v/\Φ av σ'/\Tr ⟨w,A,aY σ⟩ (aY σ) σ w σ' w'/\Rel (al ⟨w,A,aY σ⟩ σ') w' av v) a'.defers .returning w':=by
   obtain⟨Ds,hd1,hd2,hd3⟩:=h1.defers;rw[hd1];have hsl:=h1.slots;have hgd:=h1.good;have hsz:=h1.size;clear hd1 h1;induction Ds generalizing w' with
   |nil=>exact fin w' ⟨.nil rfl,hsz,hsl,hgd⟩
   |cons D Ds ih=>
    obtain⟨q1,q2,q3,q4⟩:=hd3 D zq;rw[xT]at hd2;refine⟨by simp, .inl ⟨D,_,rfl,run_takeDeferred q4,?_⟩⟩;have ht:Tn ⟨w,A,aY σ⟩ w' (w'.putObj D (.deferred none)):= .putObj _ q2 q4 rfl (λ_ _ h=>by cases h);refine ih _ hd2.2 (λD' hD'=> ?_) (hsl.uu ht.toTn0) (hgd.uu ht);obtain⟨p1,p2,p3,p4⟩:=hd3 D' (zH _ hD');have hne:D'≠D:=λe=>hd2.1 (e▸hD');exact⟨yN p1 ht.size,p2,p3,(World.putObj_heap_other hne).trans p4⟩
  rcases he with rfl|rfl
  ·exact lv
  ·exact lv
def mK(tmps:Array Value):ResultVar->Sem Value
 | .tmp t=>pure (tmps.getD t undef)
 | .cell a t=>do loadVar t (<-asAddr (tmps.getD a undef))
def rA(P:Program)(E:Env)(σ:aa bH)(rv:ResultVar)(av:AV):Prop:=∀(A:Nat->Prop) (w:World) (tmps:Array Value),Hd A σ w->fS A w E tmps->∃v,(mK tmps rv).run P w= .ok v w/\Rel A w av v
section
variable {P:Program} {C:Cx} {n:Nat} {fn:Func} {E:Env} {σ σ':aa bH} {t u:Nat} {av:AV} {e:Exit} {Φ:AV->aa bH->Prop}
def rA.tmp(h:E.get t=Q av):rA P E σ (.tmp t) av:=λA w tmps _ hs=>by
 obtain⟨v,h1,h2⟩:=hs t av h;exact⟨v,by simp[mK,h1],h2⟩
def rA.axX{g:Nat}{ty T:TypeId}{cs:aa AV}(i:Nat)(h:E.get t=Q (.lit (.pointer (Q ⟨g,0,J⟩))))(hσ:σ[i]? =Q (.box g T cs))(hT:lR P ty)(ha:cs[0]? =Q av):rA P E σ (.cell t ty) av:=λA w tmps hd hs=>by
 obtain⟨v,h1,h2⟩:=hs t _ h;have h2:=h2.bI;subst h2;obtain⟨us,h3,h4⟩:=hd.1 _ (List.mem_of_getElem? hσ);obtain⟨v,h5,h6⟩:=h4.get ha;exact⟨v,by simp[mK,h1,asAddr,gA hT (h3.cell (by simpa using h5))],h6⟩
def rA.axx{g k:Nat}{ty T:TypeId}{cs:aa AV}(i:Nat)(h:E.get t=Q (.lit (.pointer (Q ⟨g,0,J⟩))))(hσ:σ[i]? =Q (.box g T cs))(hT:mT P ty k)(hk:yz cs=k):rA P E σ (.cell t ty) (.agg cs):=λA w tmps hd hs=>by
 obtain⟨v,h1,h2⟩:=hs t _ h;have h2:=h2.bI;subst h2;obtain⟨us,h3,h4⟩:=hd.1 _ (List.mem_of_getElem? hσ);refine⟨_,?_,Rel.kj h4⟩;have:=fU (P:=P) (T:=ty) (w:=w) (a:=⟨g,0,J⟩) (cs:=us) (by rw[h4.1,hk];exact hT) (λj u hj=>by rw[mR,ya];exact h3.cell (by simpa using hj));simp[mK,h1,asAddr,this]
def LS(he:e= .normal\/e= .ret)(hs:List.Sublist σ' σ)(hΦ:Φ av σ')(h:∀A w tmps,Hd A σ w->fS A w E tmps->∃v,(results fn tmps).run P w= .ok v w/\Rel A w av v):UU P C n fn Φ e E σ:=
 ⟨he,λa w ha=>by
  obtain⟨v,h1,h2⟩:=h _ w a.tmps ha.good.hd ha.slots;have hl:=ha.less hs;have hal:∀b,al C σ b->al C σ' b:=λb hb=>⟨hb.1,λhx=>hb.2 (gJ (λr hr=>hs.subset hr) b hx)⟩;exact⟨v,av,σ',hΦ,h1,hl.good,hal,h2.mono λb _ hA=>⟨hal b hA,rfl⟩⟩⟩
def aAs{r1:ResultVar}(he:e= .normal\/e= .ret)(hr:fn.results=#[r1])(h1:rA P E σ r1 av)(hs:List.Sublist σ' σ)(hΦ:Φ av σ'):UU P C n fn Φ e E σ:=
 LS he hs hΦ λA w tmps hd hl=>by
  obtain⟨v,q1,q2⟩:=h1 A w tmps hd hl;refine⟨v,?_,q2⟩;show (do let vs <-fn.results.mapM (mK tmps);pure (if h:vs.size=1 then vs[0]else .tuple vs):Sem Value).run P w=_;simp[hr,q1]
end
def rP(P:Program)(f:FuncId):Prop:=∃fn,P.funcs[f]? =Q fn/\(fn.name=="runtime.NumGoroutine")=V/\fn.body.isNone=V
def uB{P:Program}{f:FuncId}{w:World}(hf:rP P f)(args:Array Value):(callFunc f args).run P w= .ok (.enter f args) w:=by
 obtain⟨fn,h1,h2,h3⟩:=hf;have h2':¬fn.name="runtime.NumGoroutine":=by simpa using h2
 have h3':¬fn.body=J:=by
  intro h;simp_all
 simp[callFunc,Sem.run,h1,h2',h3']
def Cl(a:AV):Prop:=∀A A' w v,Rel A w a v->Rel A' w a v
def Cl.lit(v:Value):Cl (.lit v):=λA A' w u h=>by rw[h.bI];exact .lit v
def F7(as0:aa AV):Prop:=∀A A' w us,bn A w as0 us->bn A' w as0 us
def F7.nil:F7 []:=λA A' w us h=>by
 have:us=[]:=xx (by simpa using h.1);rw[this];exact bn.nil
def F7.cons{a:AV}{as0:aa AV}(h:Cl a)(hs:F7 as0):F7 (a::as0):=λA A' w us hr=>by
 obtain⟨v,us',rfl,h1,h2⟩:=hr.head;exact bn.cons (h A A' w v h1) (hs A A' w us' h2)
def Cl.agg{as0:aa AV}(h:F7 as0):Cl (.agg as0):=λA A' w v hr=>by
 obtain⟨us,rfl,h1⟩:=hr.fG;exact Rel.kj (h A A' w us h1)
def Cl.gH{as0:aa AV}(h:F7 as0):Cl (.gH as0):=λA A' w v hr=>by
 obtain⟨us,rfl,h1⟩:=hr.ME;exact Rel.w8 (h A A' w us h1)
def ClR(r:bH):Prop:=∀A A' w,r.ok A w->r.ok A' w
def ClR.box{b:Nat}{T:TypeId}{cs:aa AV}(h:F7 cs):ClR (.box b T cs):=λA A' w ⟨us,h1,h2⟩=>⟨us,h1,h A A' w us h2⟩
def ClR.row{v:Value}{q:Nat}{l:aa (U.cA q)}(h:∀x,F7 (U.cells q x)):ClR (.row v q l):=λA A' w ⟨us,h1,h2,h3⟩=>⟨us,h1,h2,λi hi=>h _ A A' w _ (h3 i hi)⟩
section
variable {P:Program} {C:Cx} {E:Env} {σ σp σr:aa bH} {o:Oper} {x:Operand} {f:FuncId} {xs:Array Operand} {ts:Array TypeId} {as0 caps args:aa AV} {Φ:AV->aa bH->Prop}
def TK{A:Nat->Prop}{w:World}{ρ:Operand->Value}(ho:o.op= .call {callee:= .value x,args:=xs,argTypes:=ts})(hx:E.ev x=Q (.fn (.func f) caps))(hf:rP P f)(he:E.IW xs.toList=Q as0)(ha:as0++caps=args)(hρ:JT A w E ρ):∃us:aa Value,bn A w args us/\(execOp ρ o).run P w= .ok (.enter f us.toArray) w:=by
 obtain⟨us,h1,h2⟩:=(hρ _ _ hx).Ud;have h3:=Env.FH hρ he;refine⟨xs.toList.map ρ++us,ha▸h3.app h2,?_⟩;have h4:xs.map ρ=(xs.toList.map ρ).toArray:=by apply Array.ext';simp
 simp[execOp,ho,resolve,h1,Deferred.ofValue,invoke,uB hf]
def bC{σp σr:aa bH}{b:Nat}:b∈aY (σp++σr)↔b∈aY σp\/b∈aY σr:=by rw[dY,zV]
def u6{w w':World}{A:Nat->Prop}{σo:aa bH}(hg:Good C (σp++σr) w)(hA:∀b,A b->b<w.heap.size->al C (σp++σr) b\/b∈aY σr)(ht:Tr ⟨w,A,aY σp⟩ (aY σp) σp w σo w')
  (hok:∀r∈σo,r.ok (al C (σo++σr)) w'):Tr C (aY σp) (σp++σr) w (σo++σr) w':=by
 have hlt:∀b∈aY (σp++σr),b<w.heap.size:=λb hb=>by
  obtain⟨s,h1,h2⟩:=bw.1 hb;exact(hg.res s h1).lt h2
 have hdis:=hg.sN;rw[dY]at hdis;obtain⟨d1,d2,d3⟩:=yx.1 hdis;have hown:∀b∈aY σo,b∈aY σp\/w.heap.size<=b:=ht.good.own;have hal:∀b,b<w.heap.size->al C (σp++σr) b->al C (σo++σr) b/\b∉aY σp:=λb hb hA=>by
  have h2:b∉aY σp/\b∉aY σr:=by
   have:=hA.2;rw[bC]at this;simp_all
  refine⟨⟨hA.1,λhx=> ?_⟩,h2.1⟩;rcases bC.1 hx with h|h
  ·rcases hown b h with h|h
   ·simp_all
   ·omega
  ·simp_all
 refine⟨⟨hg.kept.trans ht.kp (λb hb hlt0=> ?_),λr hr=> ?_,?_,λb hb=> ?_⟩,ht.kp,hal⟩
 ·rcases hg.own b (bC.2 (.inl hb))with h|h
  ·exact h
  ·omega
 ·rcases zV.1 hr with h|h
  ·simp_all
  ·refine(hg.res r (yh _ h)).mono (λb hb hA=>⟨(hal b hb hA).1,ht.kp.block b hb (hal b hb hA).2⟩) (λb hb=> ?_);have hbr:b∈aY σr:=bw.2 ⟨r,h,hb⟩;exact ht.kp.block b (hlt b (bC.2 (.inr hbr))) (λhp=>d3 b hp b hbr rfl)
 ·rw[dY];refine yx.2 ⟨ht.good.sN,d2,λa ha b hb hab=> ?_⟩;subst hab;rcases hown a ha with h|h
  ·exact d3 a h a hb rfl
  ·have:=hlt a (bC.2 (.inr hb));omega
 ·rcases bC.1 hb with h|h
  ·rcases hown b h with h|h
   ·exact hg.own b (bC.2 (.inl h))
   ·exact .inr (zY hg.kept.size h)
  ·exact hg.own b (bC.2 (.inr h))
def Yc.fn(ho:o.op= .call {callee:= .value x,args:=xs,argTypes:=ts})(hx:E.ev x=Q (.fn (.func f) caps))(hf:rP P f)(he:E.IW xs.toList=Q as0)(ha:as0++caps=args)(hσ:σ=σp++σr)(h:Fn P f args σp Φ):
  Yc P E σ o C (aY σp) (λav σ'=>∃σo,Φ av σo/\σ'=σo++σr):=λw ρ hg hρ=>by
 subst hσ;obtain⟨us,h1,h2⟩:=TK ho hx hf he ha hρ;have hlt:∀b∈aY (σp++σr),b<w.heap.size:=λb hb=>by
  obtain⟨s,h1,h2⟩:=bw.1 hb;exact(hg.res s h1).lt h2
 have hd:Hd (al C (σp++σr)) σp w:=⟨λr hr=>hg.res r (zZ _ hr),λb hb hA=>hA.2 (bC.2 (.inl hb))⟩;have hnd:(aY σp).Nodup:=by have:=hg.sN;rw[dY]at this;exact(yx.1 this).1
 refine⟨f,us.toArray,h2,(h w (al C (σp++σr)) us h1 hd hnd).mono λe w' ⟨v,av,σo,q1,q2,q3,q4⟩=> ?_⟩;have hsub:∀b,b<w'.heap.size->al ⟨w,al C (σp++σr),aY σp⟩ σo b->al C (σo++σr) b:=λb _ hb=>by
  obtain⟨hb1,hb2⟩:=hb;rcases hb1 with hb1|hb1|hb1
  ·exact⟨hb1.1,λhx=>(bC.1 hx).elim hb2 (λh=>hb1.2 (bC.2 (.inr h)))⟩
  ·have hbp:b∈aY σp:=hb1;refine⟨?_,λhx=>(bC.1 hx).elim hb2 (λh=> ?_)⟩
   ·rcases hg.own b (bC.2 (.inl hbp))with h|h
    ·simp_all
    ·omega
   ·have hdis:=hg.sN;rw[dY]at hdis;exact(yx.1 hdis).2.2 b hbp b h rfl
  ·have hbw:w.heap.size<=b:=hb1;exact⟨.inr (.inr (zY hg.kept.size hbw)),λhx=>(bC.1 hx).elim hb2 (λh=>by have:=hlt b (bC.2 (.inr h));omega)⟩
 exact⟨v,av,σo++σr,q1,⟨σo,q2,rfl⟩,u6 hg (λb hA _=> .inl hA) q3 (λr hr=>(q3.good.res r hr).mono (λb hb hA=>⟨hsub b hb hA,rfl⟩) (λ_ _=>rfl)),q4.mono λb hb hA=>⟨hsub b hb hA,rfl⟩⟩
end
end Go.Iv
namespace Go.Iv
variable [U:tQ]
open Go Go.RowKit
section
variable {P:Program} {E E':Env} {σ σ':aa bH} {o:Oper} {x:Operand} {av bv:AV} {C:Cx} {X:aa Nat} {n:Nat}
end
def RI{α:Type}{c:Prop}[Decidable c]{a:af α}{r:α}(h:(if c then a else J)=Q r):c/\a=Q r:=by
 simp_all
abbrev cN(k:IntKind)(n:Int):aa AV:=[.n k n]
instance:Inhabited ByteArray:=⟨.empty⟩
end Go.Iv
namespace Go.Iv
variable [U:tQ]
open Go Go.RowKit
section
variable {P:Program} {E E':Env} {σ σ':aa bH} {o:Oper} {x:Operand} {av bv:AV} {C:Cx} {X:aa Nat} {n:Nat}
def Yp.conv{T T':TypeId}{k k':IntKind}{m:Int}(hT:P.underlying T=Q (.int k))(hT':P.underlying T'=Q (.int k'))(ho:o.op= .convert T T' x)(hx:E.ev x=Q (.n k m)):Yp P E σ o (.n k' (k'.wrap m)):=Yp.lits λρ hρ w=>by
 simp[execOp,ho,hρ _ _ hx,convert,run_underlying hT,run_underlying hT',Conv.intToInt]
end
structure Gh where
 v:Nat->Value
 b:Nat->Nat
def bM.sub(ρ:Gh):AV->AV
 | .lit v=> .lit v
 | .sl t l=> .sl t l
 | .fp cs=> .fp (cs.map (bM.sub ρ))
 | .rp v k=> .rp v k
 | .agg cs=> .agg (cs.map (bM.sub ρ))
 | .gH cs=> .gH (cs.map (bM.sub ρ))
 | .fn f cs=> .fn f (cs.map (bM.sub ρ))
 | .own id=> .lit (ρ.v id)
 | .ptr id off=> .lit (.pointer (Q ⟨ρ.b id,off,J⟩))
 | .ra id t m off=> .rp (ρ.v id) (m*U.sz t+off)
inductive fP (p:Nat->Prop):AV->Prop
 |lit (v:Value):fP p (.lit v)
 |sl (t:Nat) (l:List (U.cA t)):fP p (.sl t l)
 |fp (cs:List AV) (h:∀c∈cs,fP p c):fP p (.fp cs)
 |rp (v:Value) (k:Nat):fP p (.rp v k)
 |agg (cs:List AV) (h:∀c∈cs,fP p c):fP p (.agg cs)
 |gH (cs:List AV) (h:∀c∈cs,fP p c):fP p (.gH cs)
 |fn (f:Go.Fn) (cs:List AV) (h:∀c∈cs,fP p c):fP p (.fn f cs)
 |own (id:Nat) (h:p id):fP p (.own id)
 |ptr (id off:Nat) (h:p id):fP p (.ptr id off)
 |ra (id t m off:Nat) (h:p id):fP p (.ra id t m off)
abbrev ct(n:Nat):AV->Prop:=fP (λi=>i<n)
def Ags(p:Nat->Prop)(ρ ρ':Gh):Prop:=∀i,p i->ρ.v i=ρ'.v i/\ρ.b i=ρ'.b i
def fP.mono{p q:Nat->Prop}{d:AV}(h:fP p d)(hn:∀i,p i->q i):fP q d:=by
 induction h with
 |lit v=>exact .lit v
 |sl t l=>exact .sl t l
 |fp cs _ ih=>exact .fp cs ih
 |rp v k=>exact .rp v k
 |agg cs _ ih=>exact .agg cs ih
 |gH cs _ ih=>exact .gH cs ih
 |fn f cs _ ih=>exact .fn f cs ih
 |own id h=>exact .own id (hn _ h)
 |ptr id off h=>exact .ptr id off (hn _ h)
 |ra id t m off h=>exact .ra id t m off (hn _ h)
def fP.sub{p:Nat->Prop}{d:AV}{ρ ρ':Gh}(h:fP p d)(ha:Ags p ρ ρ'):d.sub ρ=d.sub ρ':=by
 have key:∀cs:aa AV,(∀c∈cs,c.sub ρ=c.sub ρ')->cs.map (bM.sub ρ)=cs.map (bM.sub ρ'):=λcs h=>zR h;induction h with
 |lit v=>simp only[bM.sub]
 |sl t l=>simp only[bM.sub]
 |fp cs _ ih=>simp only[bM.sub];rw[key cs ih]
 |rp v k=>simp only[bM.sub]
 |agg cs _ ih=>simp only[bM.sub];rw[key cs ih]
 |gH cs _ ih=>simp only[bM.sub];rw[key cs ih]
 |fn f cs _ ih=>simp only[bM.sub];rw[key cs ih]
 |own id h=>simp only[bM.sub];rw[(ha id h).1]
 |ptr id off h=>simp only[bM.sub];rw[(ha id h).2]
 |ra id t m off h=>simp only[bM.sub];rw[(ha id h).1]
def fP.Vb{p:Nat->Prop}{cs:aa AV}{ρ ρ':Gh}(h:∀c∈cs,fP p c)(ha:Ags p ρ ρ'):cs.map (bM.sub ρ)=cs.map (bM.sub ρ'):=zR λc hc=>(h c hc).sub ha
def l6(n:Nat)(ρ ρ':Gh):Prop:=∀i,i<n->ρ.v i=ρ'.v i/\ρ.b i=ρ'.b i
def l6.refl(n:Nat)(ρ:Gh):l6 n ρ ρ:=λ_ _=>⟨rfl,rfl⟩
def l6.trans{n m:Nat}{ρ ρ' ρ'':Gh}(h:l6 n ρ ρ')(h':l6 m ρ' ρ'')(hn:n<=m):l6 n ρ ρ'':=λi hi=>
 ⟨(h i hi).1.trans (h' i (by omega)).1,(h i hi).2.trans (h' i (by omega)).2⟩
def ct.mono{n m:Nat}{d:AV}(h:ct n d)(hn:n<=m):ct m d:=fP.mono h λ_ hi=>yN hi hn
def ct.sub{n:Nat}{d:AV}{ρ ρ':Gh}(h:ct n d)(ha:l6 n ρ ρ'):d.sub ρ=d.sub ρ':=fP.sub h ha
def ct.Vb{n:Nat}{cs:aa AV}{ρ ρ':Gh}(h:∀c∈cs,ct n c)(ha:l6 n ρ ρ'):cs.map (bM.sub ρ)=cs.map (bM.sub ρ'):=fP.Vb h ha
inductive KK
 |k1
 |k2
 |k3
inductive VK
 |i
 |b
@[reducible] def KK.T:KK->Type
 | .k1=>Int
 | .k2=>Int×Int
 | .k3=>Int×Int×Int
@[reducible] def VK.T:VK->Type
 | .i=>Int
 | .b=>Bool
instance KK.dec:(k:KK)->DecidableEq k.T
 | .k1=>inferInstanceAs (DecidableEq Int)
 | .k2=>inferInstanceAs (DecidableEq (Int×Int))
 | .k3=>inferInstanceAs (DecidableEq (Int×Int×Int))
def KK.enc:(k:KK)->k.T->AV
 | .k1,x=> .lit (.int .i64 x)
 | .k2,x=> .agg [.lit (.int .i64 x.1), .lit (.int .i64 x.2)]
 | .k3,x=> .agg [.lit (.int .i64 x.1), .lit (.int .i64 x.2.1), .lit (.int .i64 x.2.2)]
def VK.enc:(e:VK)->e.T->AV
 | .i,x=> .lit (.int .i64 x)
 | .b,x=> .lit (.bool x)
def kG(k:KK)(e:VK)(p:k.T×e.T):AV×AV:=(k.enc p.1,e.enc p.2)
inductive IR:Type
 |box (T:Nat) (cs:List AV)
 |row (t:Nat) (l:List (U.cA t))
 |mp (es:List (AV×AV))
 |md (k:KK) (e:VK) (l:List (k.T×e.T))
def IR.res(ρ:Gh)(id:Nat):IR->bH
 | .box T cs=> .box (ρ.b id) T (cs.map (bM.sub ρ))
 | .row t l=> .row (ρ.v id) t l
 | .mp es=> .mp (ρ.v id) es
 | .md k e l=> .mp (ρ.v id) (l.map (kG k e))
abbrev aM:Type:=aa (Nat×IR)
def aM.res(ρ:Gh)(R:aM):aa bH:=R.map λp=>p.2.res ρ p.1
def IR.ct(n:Nat):IR->Prop
 | .box _ cs=>∀c∈cs,Iv.ct n c
 | .row _ _=>True
 | .mp _=>True
 | .md _ _ _=>True
def aM.ct(n:Nat)(R:aM):Prop:=∀p∈R,p.1<n/\p.2.ct n
def IR.ct.mono{n m:Nat}{r:IR}(h:r.ct n)(hn:n<=m):r.ct m:=by
 cases r with
 |box T cs=>exact λc hc=>(h c hc).mono hn
 |row t l=>trivial
 |mp es=>trivial
 |md k e l=>trivial
def aM.ct.mono{n m:Nat}{R:aM}(h:aM.ct n R)(hn:n<=m):aM.ct m R:=λp hp=>⟨yN (h p hp).1 hn,(h p hp).2.mono hn⟩
def IR.ct.res{n id:Nat}{r:IR}{ρ ρ':Gh}(h:r.ct n)(hi:id<n)(ha:l6 n ρ ρ'):r.res ρ id=r.res ρ' id:=by
 cases r with
 |box T cs=>simp only[IR.res];rw[(ha id hi).2,Iv.ct.Vb h ha]
 |row t l=>simp only[IR.res];rw[(ha id hi).1]
 |mp es=>simp only[IR.res];rw[(ha id hi).1]
 |md k e l=>simp only[IR.res];rw[(ha id hi).1]
def aM.ct.res{n:Nat}{R:aM}{ρ ρ':Gh}(h:aM.ct n R)(ha:l6 n ρ ρ'):aM.res ρ R=aM.res ρ' R:=zR λp hp=>(h p hp).2.res (h p hp).1 ha
def fk(R:aM)(id:Nat):af IR:=List.rec J (λp _ ih=>Bool.rec ih (Q p.2) (zh p.1 id)) R
def mY(id:Nat)(r':IR)(R:aM):aM:=List.rec [] (λp R ih=>Bool.rec (p::ih) ((p.1,r')::R) (zh p.1 id)) R
def iK(id:Nat)(R:aM):aM:=List.rec [] (λp R ih=>Bool.rec (p::ih) R (zh p.1 id)) R
def DS{i:Nat}{r:IR}{R:aM}{id:Nat}:fk ((i,r)::R) id=match zh i id with
  |true=>Q r
  |false=>fk R id:=by
 show Bool.rec (motive:=λ_=>_) (fk R id) (Q r) (zh i id)=_;cases zh i id<;>rfl
def sU{i:Nat}{r r':IR}{R:aM}{id:Nat}:mY id r' ((i,r)::R)=match zh i id with
  |true=>(i,r')::R
  |false=>(i,r)::mY id r' R:=by
 show Bool.rec (motive:=λ_=>_) ((i,r)::mY id r' R) ((i,r')::R) (zh i id)=_;cases zh i id<;>rfl
def sJ{i:Nat}{r:IR}{R:aM}{id:Nat}:iK id ((i,r)::R)=match zh i id with
  |true=>R
  |false=>(i,r)::iK id R:=by
 show Bool.rec (motive:=λ_=>_) ((i,r)::iK id R) R (zh i id)=_;cases zh i id<;>rfl
def dX{a b:Nat}(h:zh a b=O):a=b:=yI h
def cU:∀{R:aM} {id:Nat} {r:IR},fk R id=Q r->∃i:Nat,R[i]? =Q (id,r)/\(∀r',mY id r' R=R.set i (id,r'))/\iK id R=R.eraseIdx i
 |[],_,_,h=>by cases h
 |(i,r)::R,id,r0,h=>by
  rw[DS]at h;cases hb:zh i id with
  |true=>
   rw[hb]at h;cases h;cases dX hb;exact⟨0,rfl,λr'=>by rw[sU,hb];rfl,by rw[sJ,hb];rfl⟩
  |false=>
   rw[hb]at h;obtain⟨j,h1,h2,h3⟩:=cU h;exact⟨j+1,h1,λr'=>by rw[sU,hb];simp[h2],by rw[sJ,hb];simp[h3]⟩
def eu{R:aM}{ρ:Gh}{i id:Nat}{r:IR}(h:R[i]? =Q (id,r)):(aM.res ρ R)[i]? =Q (r.res ρ id):=by
 unfold aM.res;rw[zN,h];rfl
def nO{R:aM}{ρ:Gh}{i id:Nat}{r:IR}:aM.res ρ (R.set i (id,r))=(aM.res ρ R).set i (r.res ρ id):=by
 unfold aM.res;rw[List.map_set]
def sD{R:aM}{ρ:Gh}{i:Nat}:aM.res ρ (R.eraseIdx i)=(aM.res ρ R).eraseIdx i:=by
 unfold aM.res;rw[wG,wG,zK,xI,xJ]
def Be{R:aM}{id n:Nat}{r:IR}(h:fk R id=Q r)(hR:aM.ct n R):id<n/\r.ct n:=by
 obtain⟨i,h1,_⟩:=cU h;exact hR _ (List.mem_of_getElem? h1)
def jV{R:aM}{id n:Nat}{r r':IR}(h:fk R id=Q r)(hR:aM.ct n R)(hr:r'.ct n):aM.ct n (mY id r' R):=by
 obtain⟨i,h1,h2,_⟩:=cU h;rw[h2];intro p hp;rcases List.mem_or_eq_of_mem_set hp with hp|rfl
 ·exact hR p hp
 ·exact⟨(hR _ (List.mem_of_getElem? h1)).1,hr⟩
def Bz{R:aM}{id n:Nat}(hR:aM.ct n R):aM.ct n (iK id R):=by
 induction R with
 |nil=>exact hR
 |cons p R ih=>
  obtain⟨i,r⟩:=p;have h2:aM.ct n R:=λp hp=>hR p (zH _ hp);rw[sJ];split
  ·exact h2
  ·intro q hq;rcases zu.1 hq with rfl|hq
   ·exact hR _ zq
   ·exact ih h2 q hq
def Env.sub(ρ:Gh)(E:Env):Env:=E.map λp=>(p.1,p.2.sub ρ)
def Env.ct(n:Nat)(E:Env):Prop:=∀p∈E,Iv.ct n p.2
def Env.eA{ρ:Gh}(t:Nat):∀(E:Env),(E.sub ρ).get t=(E.get t).map (bM.sub ρ)
 |[]=>rfl
 |(k,v)::E=>by
  show Env.get ((k,v.sub ρ)::Env.sub ρ E) t=_;unfold Env.get;cases hb:zh k t with
  |true=>rfl
  |false=>exact Env.eA t E
def Env.L5{ρ:Gh}{E:Env}(x:Operand):(E.sub ρ).ev x=(E.ev x).map (bM.sub ρ):=by
 cases x with
 |tmp t=>exact Env.eA t E
 |const v=>simp[Env.ev,bM.sub]
 |global g=>simp[Env.ev,bM.sub]
 |func f=>simp[Env.ev,bM.sub]
def Env.get_mem:∀{E:Env} {t:Nat} {d:AV},E.get t=Q d->(t,d)∈E
 |[],_,_,h=>by cases h
 |(k,v)::E,t,d,h=>by
  unfold Env.get at h;cases hb:zh k t with
  |true=>
   rw[hb]at h;cases h;cases dX hb;exact zq
  |false=>
   rw[hb]at h;exact zH _ (Env.get_mem h)
def Env.Wv{E:Env}{n:Nat}{x:Operand}{d:AV}(hE:E.ct n)(h:E.ev x=Q d):Iv.ct n d:=by
 cases x with
 |tmp t=>exact hE _ (Env.get_mem h)
 |const v=>cases h;exact .lit _
 |global g=>cases h;exact .lit _
 |func f=>cases h;exact .fn _ [] (by simp)
def Env.ct.mono{n m:Nat}{E:Env}(h:E.ct n)(hn:n<=m):E.ct m:=λp hp=>(h p hp).mono hn
def Env.ct.sub{n:Nat}{E:Env}{ρ ρ':Gh}(h:E.ct n)(ha:l6 n ρ ρ'):E.sub ρ=E.sub ρ':=zR λp hp=>by rw[(h p hp).sub ha]
inductive Yl (cA:Nat->Type):Type
 |e
 |n (v:Option (bM cA)) (l r:Yl cA)
abbrev ET:Type:=Yl U.cA
def cu(T:ET):Nat->af AV:=Yl.rec (λ_=>J) (λv _ _ il ir k=>Bool.rec (Bool.rec (ir (Nat.div (Nat.sub k 1) 2)) (il (Nat.div (Nat.sub k 1) 2)) (zh (Nat.mod (Nat.sub k 1) 2) 0)) v (zh k 0)) T
def Yl.v:ET->af AV
 | .e=>J
 | .n v _ _=>v
def Yl.l:ET->ET
 | .e=> .e
 | .n _ l _=>l
def Yl.r:ET->ET
 | .e=> .e
 | .n _ _ r=>r
def Xl(d:AV)(ih:ET->Nat->ET)(v:af AV)(l r:ET)(k:Nat):ET:=Bool.rec (Bool.rec (.n v l (ih r (Nat.div (Nat.sub k 1) 2))) (.n v (ih l (Nat.div (Nat.sub k 1) 2)) r) (zh (Nat.mod (Nat.sub k 1) 2) 0)) (.n (Q d) l r) (zh k 0)
def om(d:AV)(m:Nat):ET->Nat->ET:=Nat.rec (λ_ _=> .e) (λ_ ih T k=>Yl.rec (Xl d ih J .e .e k) (λv l r _ _=>Xl d ih v l r k) T) m
def jE(t:Nat)(d:AV)(T:ET):ET:=om d 12 T t
def emap(f:AV->AV)(T:ET):ET:=Yl.rec .e (λv _ _ il ir=> .n (v.map f) il ir) T
def kV(v:af AV)(l r:ET)(k:Nat):cu (.n v l r) k=if k=0 then v else if(k-1)%2=0 then cu l ((k-1)/2)else cu r ((k-1)/2):=by
 show Bool.rec (motive:=λ_=>af AV) (Bool.rec (motive:=λ_=>af AV) (cu r ((k-1)/2)) (cu l ((k-1)/2)) (zh ((k-1)%2) 0)) v (zh k 0)=_;by_cases hk:k=0
 ·subst hk;rfl
 ·have h1:zh k 0=V:=by
   cases h:zh k 0 with
   |false=>rfl
   |true=>exact gI (yI h) hk
  rw[h1,bT hk];by_cases h2:(k-1)%2=0
  ·rw[h2];rfl
  ·have h3:zh ((k-1)%2) 0=V:=by
    cases h:zh ((k-1)%2) 0 with
    |false=>rfl
    |true=>exact gI (yI h) h2
   rw[h3,bT h2]
def aoJ(k:Nat):cu (.e:ET) k=J:=rfl
def Kg(T:ET)(k:Nat):cu T k=if k=0 then T.v else if(k-1)%2=0 then cu T.l ((k-1)/2)else cu T.r ((k-1)/2):=by
 cases T with
 |e=>simp only[Yl.v,Yl.l,Yl.r,aoJ,ite_self]
 |n v l r=>exact kV v l r k
def M7(d:AV)(m:Nat)(T:ET)(k:Nat):om d (m+1) T k=if k=0 then .n (Q d) T.l T.r else if(k-1)%2=0 then .n T.v (om d m T.l ((k-1)/2)) T.r else .n T.v T.l (om d m T.r ((k-1)/2)):=by
 have e:om d (m+1) T k=Xl d (om d m) T.v T.l T.r k:=by cases T<;>rfl
 rw[e];show Bool.rec (motive:=λ_=>ET) (Bool.rec (motive:=λ_=>ET) (.n T.v T.l (om d m T.r ((k-1)/2))) (.n T.v (om d m T.l ((k-1)/2)) T.r) (zh ((k-1)%2) 0)) (.n (Q d) T.l T.r) (zh k 0)=_;by_cases hk:k=0
 ·subst hk;rfl
 ·have h1:zh k 0=V:=by
   cases h:zh k 0 with
   |false=>rfl
   |true=>exact gI (yI h) hk
  rw[h1,bT hk];by_cases h2:(k-1)%2=0
  ·rw[h2];rfl
  ·have h3:zh ((k-1)%2) 0=V:=by
    cases h:zh ((k-1)%2) 0 with
    |false=>rfl
    |true=>exact gI (yI h) h2
   rw[h3,bT h2]
def sw(d:AV):∀(m:Nat) (T:ET) (k s:Nat) (av:AV),cu (om d m T k) s=Q av->(k=s/\av=d)\/(k≠s/\cu T s=Q av)
 |0,T,k,s,av,h=>by cases h
 |m+1,T,k,s,av,h=>by
  rw[M7]at h;rw[Kg T s];split at h
  ·rename_i hk;subst hk;rw[kV]at h;split at h
   ·rename_i hs;subst hs;cases h;exact .inl ⟨rfl,rfl⟩
   ·rename_i hs;rw[bT hs];exact .inr ⟨λe=>hs e.symm,h⟩
  ·rename_i hk;split at h
   ·rename_i hk2;rw[kV]at h;split at h
    ·rename_i hs;subst hs;exact .inr ⟨hk,by rw[bS rfl];exact h⟩
    ·rename_i hs;rw[bT hs];split at h
     ·rename_i hs2;rw[bS hs2];rcases sw d m T.l _ _ av h with ⟨h1,h2⟩|⟨h1,h2⟩
      ·exact .inl ⟨by omega,h2⟩
      ·exact .inr ⟨λe=>h1 (by rw[e]),h2⟩
     ·rename_i hs2;rw[bT hs2];exact .inr ⟨λe=>hs2 (by rw[<-e];exact hk2),h⟩
   ·rename_i hk2;rw[kV]at h;split at h
    ·rename_i hs;subst hs;exact .inr ⟨hk,by rw[bS rfl];exact h⟩
    ·rename_i hs;rw[bT hs];split at h
     ·rename_i hs2;rw[bS hs2];exact .inr ⟨λe=>hk2 (by rw[e];exact hs2),h⟩
     ·rename_i hs2;rw[bT hs2];rcases sw d m T.r _ _ av h with ⟨h1,h2⟩|⟨h1,h2⟩
      ·exact .inl ⟨by omega,h2⟩
      ·exact .inr ⟨λe=>h1 (by rw[e]),h2⟩
def mc{t s:Nat}{d av:AV}{T:ET}(h:cu (jE t d T) s=Q av):(t=s/\av=d)\/(t≠s/\cu T s=Q av):=sw d 12 T t s av h
def qv(f:AV->AV):∀(T:ET) (s:Nat),cu (emap f T) s=(cu T s).map f
 | .e,s=>rfl
 | .n v l r,s=>by
  show cu (.n (v.map f) (emap f l) (emap f r)) s=_;rw[kV,kV,qv f l,qv f r];split
  ·rfl
  ·split<;>rfl
def oR(T:ET)(E:Env):Prop:=∀t d,cu T t=Q d->E.get t=Q d
def oR.put{T:ET}{E:Env}(h:oR T E)(t:Nat)(d:AV):oR (jE t d T) ((t,d)::E):=λs av hs=>by
 rcases mc hs with ⟨rfl,rfl⟩|⟨h1,h2⟩
 ·exact Env.dP _ _ _
 ·rw[Env.cW _ _ h1];exact h s av h2
def EH(T:ET):Operand->af AV
 | .tmp t=>cu T t
 | .const v=>Q (.lit v)
 | .global g=>Q (.lit (.pointer (Q ⟨g,0,J⟩)))
 | .func f=>Q (.fn (.func f) [])
def oR.ev{T:ET}{E:Env}(h:oR T E)(x:Operand)(d:AV)(hx:EH T x=Q d):E.ev x=Q d:=by
 cases x with
 |tmp t=>exact h t d hx
 |_=>exact hx
structure St where
 E:ET
 R:aM
 nx:Nat
structure Cg where
 C:Cx
 ρ:Gh
 n:Nat
def Mt(C:Cg)(n:Nat)(s:St)(a:Act)(w:World):Prop:=∃E:Env,oR s.E E/\E.ct s.nx/\aM.ct s.nx s.R/\∃ρ,(l6 C.n C.ρ ρ/\C.n<=s.nx)/\jH C.C n (E.sub ρ) (aM.res ρ s.R) a w
def Env.qW{E:Env}{n t:Nat}{d:AV}(hE:E.ct n)(hd:Iv.ct n d):Env.ct n ((t,d)::E):=λp hp=>by
 rcases zu.1 hp with rfl|hp
 ·exact hd
 ·exact hE p hp
def Good.perm{C:Cx}{σ σ':aa bH}{w:World}(h:Good C σ w)(hp:List.Perm σ σ'):Good C σ' w:=by
 have hb:∀b,b∈aY σ'↔b∈aY σ:=λb=>(hp.filterMap _).symm.mem_iff;have hal:∀b,al C σ b->al C σ' b:=λb hA=>⟨hA.1,λhx=>hA.2 ((hb b).1 hx)⟩;exact⟨h.kept,λr hr=>(h.res r (hp.mem_iff.2 hr)).mono (λb _ hA=>⟨hal b hA,rfl⟩) (λ_ _=>rfl),(hp.filterMap _).nodup_iff.1 h.sN,λb hx=>h.own b ((hb b).1 hx)⟩
def Nb{C:Cx}{σ σ':aa bH}(hp:List.Perm σ σ')(b:Nat):al C σ b->al C σ' b:=λhA=>⟨hA.1,λhx=>hA.2 ((hp.filterMap _).symm.mem_iff.1 hx)⟩
end Go.Iv
end
noncomputable section
namespace Go.Iv
open Go Go.RowKit
section
variable [U:tQ] {β γ δ:Type}
def qM(t e:Nat)(l:aa (U.cA t)):af (aa (U.cA e)):=if h:t=e then Q (h▸l)else J
def kL{t e:Nat}{l:aa (U.cA t)}{l':aa (U.cA e)}(h:qM t e l=Q l'):∃he:t=e,he▸l=l':=by
 unfold qM at h;split at h
 ·rename_i he;exact⟨he,zG.inj h⟩
 ·cases h
def gQ(k:IntKind):AV->af Int
 | .lit (.int k' n)=>if k=k' then Q n else J
 |_=>J
def RM:AV->af Bool
 | .lit (.bool b)=>Q b
 |_=>J
def asS:AV->af ByteArray
 | .lit (.string s)=>Q s
 |_=>J
def iP(t:Nat):AV->af (aa (U.cA t))
 | .sl t' l=>qM t' t l
 | .lit (.slice J 0 0)=>Q []
 |_=>J
def P1(f:AV->af β)(c:β->AV):Prop:=∀a b,f a=Q b->∀A w v,Rel A w a v->Rel A w (c b) v
def P1.i(k:IntKind):P1 (gQ k) (bM.n k):=λa b h A w v hr=>by
 unfold gQ at h;split at h
 ·split at h
  ·rename_i hk;subst hk;cases h;exact hr
  ·cases h
 ·cases h
def P1.b:P1 RM bM.b:=λa b h A w v hr=>by
 unfold RM at h;split at h
 ·cases h;exact hr
 ·cases h
def P1.s:P1 asS bM.s:=λa b h A w v hr=>by
 unfold asS at h;split at h
 ·cases h;exact hr
 ·cases h
def P1.l(t:Nat):P1 (iP t) (bM.sl t):=λa b h A w v hr=>by
 unfold iP at h;split at h
 ·obtain⟨rfl,rfl⟩:=kL h;exact hr
 ·cases h;exact(Vw.nil (σ:=[]) t A w v ⟨λr h=>(by cases h),λb h=>(by cases h)⟩ hr).mono λb _ hA=>⟨hA.elim id (λh=>(by cases h)),rfl⟩
 ·cases h
def pG:aa AV->af Unit
 |[]=>Q ()
 |_=>J
def dQ(f:AV->af β)(q:aa AV->af γ):aa AV->af (β×γ)
 |a::cs=>(f a).bind λb=>(q cs).map λg=>(b,g)
 |[]=>J
def Pk(q:aa AV->af γ)(c:γ->aa AV):Prop:=∀cs g,q cs=Q g->∀A w us,bn A w cs us->bn A w (c g) us
def Pk.nil:Pk pG (λ_=>[]):=λcs g h A w us hr=>by
 unfold pG at h;split at h
 ·exact hr
 ·cases h
def Pk.cons{f:AV->af β}{c:β->AV}{q:aa AV->af γ}{d:γ->aa AV}(h:P1 f c)(hq:Pk q d):Pk (dQ f q) (λx=>c x.1::d x.2):=λcs g hg A w us hr=>by
 unfold dQ at hg;split at hg
 ·obtain⟨b,h1,hg⟩:=zn.1 hg;obtain⟨g',h2,rfl⟩:=zk.1 hg;obtain⟨v,us',rfl,h3,h4⟩:=hr.head;exact bn.cons (h _ _ h1 A w v h3) (hq _ _ h2 A w us' h4)
 ·cases hg
def Pk.map{q:aa AV->af γ}{d:γ->aa AV}{c:δ->aa AV}(e:γ->δ)(hq:Pk q d)(hc:∀g,c (e g)=d g):Pk (λcs=>(q cs).map e) c:=λcs g hg A w us hr=>by
 obtain⟨g',h1,rfl⟩:=zk.1 hg;rw[hc];exact hq _ _ h1 A w us hr
def aiB:AV->Bool
 | .lit _=>O
 | .sl _ _=>O
 | .fn _ []=>O
 |_=>V
def Vv(cs:aa AV)(h:cs.all aiB=O)(n:Nat):∀c∈cs,ct n c:=λc hc=>by
 have:=zx.1 h c hc;cases c with
 |fn f cs=>
  cases cs with
  |nil=>exact .fn _ _ λc hc=>by cases hc
  |cons a l=>cases this
 |_=>first|(cases this;done)|exact .lit _|exact .sl _ _
def X0(cs:aa AV)(h:cs.all aiB=O)(ρ:Gh):cs.map (bM.sub ρ)=cs:=by
 have:cs.map (bM.sub ρ)=cs.map id:=zR λc hc=>by
  have:=zx.1 h c hc;cases c with
  |fn f cs=>
   cases cs with
   |nil=>simp only[bM.sub,id,yU]
   |cons a l=>cases this
  |_=>first|(cases this;done)|simp only[bM.sub,id]
 rw[this,xK]
def alR:aa AV->af Nat
 |[.fn (.func k) []]=>Q k
 |_=>Option.none
def Pk.fn:Pk alR (λk=>[.fn (.func k) []]):=λcs g h A w us hr=>by
 unfold alR at h;split at h
 ·cases h;exact hr
 ·cases h
def Pk.none{c:γ->aa AV}:Pk (λ_=>Option.none) c:=λcs g hg=>by cases hg
end
end Go.Iv
end
noncomputable section
namespace Go.Iv
variable [U:tQ]
open Go Go.RowKit
section
variable {P:Program} {E E':Env} {σ σ':aa bH} {o:Oper} {x y:Operand} {av bv:AV} {C:Cx} {X:aa Nat} {n:Nat} {T T' e:TypeId}
def Hd.keep{A:Nat->Prop}{w w':World}(h:Hd A σ w)(hw:∀b,b<w.heap.size->(A b\/b∈aY σ)->w'.heap[b]? =w.heap[b]?):Hd A σ w':=
 ⟨λr hr=>(h.1 r hr).mono (λb hb hA=>⟨hA,hw b hb (.inl hA)⟩) (λb hb=>hw b ((h.1 r hr).lt hb) (.inr (bw.2 ⟨r,hr,hb⟩))),h.2⟩
def JT.keep{A:Nat->Prop}{w w':World}{ρ:Operand->Value}(h:JT A w E ρ)(hw:∀b,b<w.heap.size->A b->w'.heap[b]? =w.heap[b]?):JT A w' E ρ:=λx u hx=>(h x u hx).mono λb hb hA=>⟨hA,hw b hb hA⟩
def DN{A:Nat->Prop}{w:World}{k:IntKind}:∀{l:aa Int} {us:aa Value},bn A w (l.map (bM.n k)) us->us=l.map (Value.int k)
 |[],us,h=>xx (by simpa using h.1)
 |x::l,us,h=>by
  obtain⟨v,us',rfl,h1,h2⟩:=bn.head (show bn A w (bM.n k x::l.map (bM.n k)) us from h);rw[h1.bI,DN h2];rfl
def Yp.b2s{q:Nat}{l:aa Int}{l0:aa (U.cA q)}(ho:o.op= .convert T T' x)(hx:Src σ E x q l0)(hn:l0.flatMap (U.cells q)=l.map (bM.n .u8))(hz:U.sz q=1)(hs:P.underlying T=Q (.slice e))(he:P.underlying e=Q (.int .u8))(hd:P.underlying T'=Q .string):Yp P E σ o (.s (strOfNums l)):=λA w ρ h hρ=>
 ⟨_, .lit _,λw' hw=>by
  obtain⟨p,cap,news,h1,h2,h3,_,h5,_⟩:=hx.spec (h.keep hw) (hρ.keep λb hb hA=>hw b hb (.inl hA));have h6:=DN (by rw[hn]at h5;exact h5);have hl0:yz l0=yz l:=by rw[hz,yF]at h3;rw[<-h3,h6,zI]
  rw[hl0]at h1 h2;have hconv:(convert T T' (.slice p (yz l) cap)).run P w'= .ok (.string (strOfNums l)) w':=by
   cases p with
   |none=>
    have:l=[]:=by
     rcases h2 with h2|⟨a,h2,_⟩
     ·exact xx h2
     ·cases h2
    subst this;have hc:=run_convert_bytes_nil (P:=P) w' T e hs he 0 cap T' hd;have:strOfNums []=ByteArray.empty:=rfl;rw[this];simpa using hc
   |some a=>
    have hl:(loadCells a (yz l)).run P w'= .ok (l.map (Value.int .u8)).toArray w':=by
     rcases h2 with h2|⟨a',h2,h4⟩
     ·have:l=[]:=xx h2;subst this;simp[loadCells,loadCellsFrom]
     ·cases h2;have:=run_loadCells_list (P:=P) w' a (l.map (Value.int .u8)) (λj v hj=>h4 j v (by rw[h6];exact hj));simpa using this
    rw[run_convert_bytes_string w' T T' e _ (yz l) cap hs he hd,run_bytesToString w' _ (yz l) cap l hl,foldl_push_bytes];simp[strOfNums,ByteArray.empty,ByteArray.emptyWithCapacity];rfl
  simp[execOp,ho,h1,hconv]⟩
def Yp.aDo{s t:ByteArray}(ho:o.op= .binOp .eql T x y T')(hx:E.ev x=Q (.s s))(hy:E.ev y=Q (.s t)):Yp P E σ o (.b (s.toList==t.toList)):=Yp.lits λρ hρ w=>by
 simp[execOp,ho,hρ _ _ hx,hρ _ _ hy,eqGuard,binOp,Op.stringOp]
def Yp.aCn{s t:ByteArray}(ho:o.op= .binOp .neq T x y T')(hx:E.ev x=Q (.s s))(hy:E.ev y=Q (.s t)):Yp P E σ o (.b (!(s.toList==t.toList))):=Yp.lits λρ hρ w=>by
 simp[execOp,ho,hρ _ _ hx,hρ _ _ hy,eqGuard,binOp,Op.stringOp]
def run_equal_bool{w:World}{b c:Bool}(hT:P.underlying T=Q .bool):(Op.equal T (.bool b) (.bool c)).run P w= .ok (b==c) w:=by
 obtain⟨d,hd⟩:∃d,Op.maxDepth=d+1:=⟨Op.maxDepth-1,by decide⟩;unfold Op.equal;rw[hd];unfold Op.equalIn;simp only[Sem.run_bind,run_underlying hT,Result.andThen_ok];rfl
def Yp.aAP{b c:Bool}(ho:o.op= .binOp .eql T x y T')(hT:P.underlying T=Q .bool)(hx:E.ev x=Q (.b b))(hy:E.ev y=Q (.b c)):Yp P E σ o (.b (b==c)):=Yp.lits λρ hρ w=>by
 have hbin:binOp .eql T (.bool b) (.bool c)=(do pure (.bool (<-Op.equal T (.bool b) (.bool c)))):=rfl;have h1:=run_equal_bool (P:=P) (T:=T) (w:=w) (b:=b) (c:=c) hT;simp only[execOp,ho,hρ _ _ hx,hρ _ _ hy,eqGuard,hbin];simp[h1]
def Yp.aCV{b c:Bool}(ho:o.op= .binOp .neq T x y T')(hT:P.underlying T=Q .bool)(hx:E.ev x=Q (.b b))(hy:E.ev y=Q (.b c)):Yp P E σ o (.b (!(b==c))):=Yp.lits λρ hρ w=>by
 have hbin:binOp .neq T (.bool b) (.bool c)=(do pure (.bool (!(<-Op.equal T (.bool b) (.bool c))))):=rfl;have h1:=run_equal_bool (P:=P) (T:=T) (w:=w) (b:=b) (c:=c) hT;simp only[execOp,ho,hρ _ _ hx,hρ _ _ hy,eqGuard,hbin];simp[h1]
end
class sG [U:tQ] where
 len:∀t x,yz (U.cells t x)=U.sz t
 one:∀t x,(U.cells t x).all gF=O
 clo:∀t x ρ,(U.cells t x).map (bM.sub ρ)=U.cells t x
 nQ:∀t x n,∀c∈U.cells t x,ct n c
 parse:(t:Nat)->List AV->Option (U.cA t)
 ja:∀t cs x,parse t cs=Q x->∀A w us,bn A w cs us->bn A w (U.cells t x) us
 afv:(t:Nat)->List (U.cA t)->Option (List Int)
 qB:∀t l ns,afv t l=Q ns->l.flatMap (U.cells t)=ns.map (.n .u8)/\U.sz t=1
 fz:Nat->Bool:=λ_=>V
 arr:Nat->Bool:=λ_=>V
 gtB:(t:Nat)->U.cA t->Nat->Bool:=λ_ _ _=>V
 stB:(t:Nat)->U.cA t->Nat->Bool->U.cA t:=λ_ x _ _=>x
 acj:∀t,arr t=O->∀x i,i<U.sz t->(U.cells t x)[i]? =Q (.lit (.bool (gtB t x i))):=by intro t h;exact Bool.noConfusion h
 acO:∀t,arr t=O->∀x i b,i<U.sz t->U.cells t (stB t x i b)=(U.cells t x).take i++[.lit (.bool b)]++(U.cells t x).drop (i+1):=by intro t h;exact Bool.noConfusion h
variable [L:sG]
def uy(P:Program)(t n:Nat):Bool:=match P.info? t with
 |some i=>zh i.size n
 |none=>V
def kQ{P:Program}{t n:Nat}(h:uy P t n=O):(P.info? t).map (·.size)=Q n:=by
 unfold uy at h;cases hi:P.info? t with
 |none=>rw[hi]at h;cases h
 |some i=>
  rw[hi]at h;simp only[zX,zG.injEq];exact dX h
def CL(P:Program)(t:Nat):Bool:=match P.underlying t with
 |some (.struct _)=>V
 |some (.array _ _)=>V
 |some _=>O
 |none=>V
def nC{P:Program}{t:Nat}(h:CL P t=O):lR P t:=by
 unfold CL at h;unfold lR;split at h
 ·cases h
 ·cases h
 ·rename_i d hd;refine⟨_,hd,?_⟩;split
  ·simp_all
  ·simp_all
  ·trivial
 ·cases h
def Ot(P:Program)(t:Nat):af Nat:=match P.underlying t with
 |some (.struct _)=>(P.info? t).map (·.size)
 |some (.array _ _)=>(P.info? t).map (·.size)
 |_=>J
def Jo{P:Program}{t n:Nat}(h:Ot P t=Q n):mT P t n:=by
 unfold Ot at h;split at h
 ·rename_i hd;exact⟨⟨_,hd,trivial⟩,h⟩
 ·rename_i hd;exact⟨⟨_,hd,trivial⟩,h⟩
 ·cases h
def vt(rd:Nat->af IR):AV->Bool
 | .own id=>match rd id with
  |some (.row _ _)=>O
  |some (.mp _)=>O
  |some (.md _ _ _)=>O
  |_=>V
 | .ptr _ _=>O
 | .ra _ _ _ _=>V
 |d=>gF d
def As(rd:Nat->af IR):AV->Bool
 | .agg cs=>cs.all (vt rd)
 |d=>vt rd d
section
variable {α:Type} {r:α} {P:Program} {o:Oper} {E:Env} {R:aM} {nx:Nat} {ev:Operand->af AV} {rd:Nat->af IR} {x y z:Operand} {d:AV}
structure gC (ev:Operand->Option AV) (rd:Nat->Option IR) (nx:Nat) (E:Env) (R:aM):Prop where
 e:∀x d,ev x=Q d->E.ev x=Q d
 r:∀id r,rd id=Q r->fk R id=Q r
 le:E.ct nx
 lr:aM.ct nx R
def gC.eF(h:gC ev rd nx E R)(hx:ev x=Q d)(ρ:Gh):(E.sub ρ).ev x=Q (d.sub ρ):=by
 rw[Env.L5,h.e _ _ hx];rfl
def gC.nQ(h:gC ev rd nx E R)(hx:ev x=Q d):ct nx d:=Env.Wv h.le (h.e _ _ hx)
def gC.row(h:gC ev rd nx E R){id t:Nat}{l:aa (U.cA t)}(hr:rd id=Q (.row t l))(ρ:Gh):∃i:Nat,(aM.res ρ R)[i]? =Q (.row (ρ.v id) t l):=by
 obtain⟨i,h1,_⟩:=cU (h.r _ _ hr);exact⟨i,eu h1⟩
def gC.box(h:gC ev rd nx E R){id t:Nat}{cs:aa AV}(hr:rd id=Q (.box t cs))(ρ:Gh):∃i:Nat,(aM.res ρ R)[i]? =Q (.box (ρ.b id) t (cs.map (bM.sub ρ))):=by
 obtain⟨i,h1,_⟩:=cU (h.r _ _ hr);exact⟨i,eu h1⟩
def gC.adh(h:gC ev rd nx E R){id t:Nat}{cs:aa AV}(hr:rd id=Q (.box t cs)):∀c∈cs,ct nx c:=(Be (h.r _ _ hr) h.lr).2
def Pu(P:Program)(o:Oper)(E:Env)(R:aM)(nx:Nat)(d:AV):Prop:=ct nx d/\∀ρ,Yp P (E.sub ρ) (aM.res ρ R) o (d.sub ρ)
def bF(ρ:Gh)(v:Value):bM.sub ρ (.lit v)= .lit v:=by simp only[bM.sub]
def fE(ρ:Gh)(t:Nat)(l:aa (U.cA t)):bM.sub ρ (.sl t l)= .sl t l:=by simp only[bM.sub]
def cD(ρ:Gh)(id:Nat):bM.sub ρ (.own id)= .lit (ρ.v id):=by simp only[bM.sub]
def eO(ρ:Gh)(id off:Nat):bM.sub ρ (.ptr id off)= .lit (.pointer (Q ⟨ρ.b id,off,J⟩)):=by simp only[bM.sub]
def gX(ρ:Gh)(id t m off:Nat):bM.sub ρ (.ra id t m off)= .rp (ρ.v id) (m*U.sz t+off):=by simp only[bM.sub]
def jx(ρ:Gh)(cs:aa AV):bM.sub ρ (.fp cs)= .fp (cs.map (bM.sub ρ)):=by simp only[bM.sub]
def dS(ρ:Gh)(cs:aa AV):bM.sub ρ (.agg cs)= .agg (cs.map (bM.sub ρ)):=by simp only[bM.sub]
def iq(ρ:Gh)(cs:aa AV):bM.sub ρ (.gH cs)= .gH (cs.map (bM.sub ρ)):=by simp only[bM.sub]
def oI(ρ:Gh)(f:Go.Fn)(cs:aa AV):bM.sub ρ (.fn f cs)= .fn f (cs.map (bM.sub ρ)):=by simp only[bM.sub]
def Pu.lit{v:Value}(h:∀ρ,Yp P (E.sub ρ) (aM.res ρ R) o (.lit v)):Pu P o E R nx (.lit v):=⟨.lit v,λρ=>by rw[bF];exact h ρ⟩
def TW(b:BinOp)(k:IntKind)(m n:Int)(K:AV->af α):af α:=match b with
 | .add=>K (.n k (k.wrap (m+n)))
 | .sub=>K (.n k (k.wrap (m-n)))
 | .mul=>K (.n k (k.wrap (m*n)))
 | .quo=>if n≠0 then K (.n k (k.wrap (Int.tdiv m n)))else J
 | .rem=>if n≠0 then K (.n k (Int.tmod m n))else J
 | .and=>K (.n k (mS k m n))
 | .or=>K (.n k (bOr k m n))
 | .xor=>K (.n k (ap3 k m n))
 | .andNot=>K (.n k (alu k m n))
 | .lss=>K (.b (Z (m<n)))
 | .leq=>K (.b (Z (m<=n)))
 | .gtr=>K (.b (Z (n<m)))
 | .geq=>K (.b (Z (n<=m)))
 | .eql=>K (.b (Z (m=n)))
 | .neq=>K (.b (!Z (m=n)))
 |_=>J
def Yp.aoH{T T' e q:Nat}{E:Env}{σ:aa bH}{l:aa (U.cA q)}(ho:o.op= .binOp .eql T x y T')(hx:E.ev x=Q (.sl q l))(hy:E.ev y=Q (.lit (.slice J 0 0)))(hT:P.underlying T=Q (.slice e))(hl:l≠[]):Yp P E σ o (.b V):=λA w ρ _ hρ=>by
 obtain⟨p,cap,u,hv,_,_,_,hc,_⟩:=(hρ _ _ hx).oq;have h2:=(hρ _ _ hy).bI;obtain⟨b,off,hp,_⟩:=hc 0 (wH.2 hl);subst hp;refine⟨_, .lit _,λw' _=> ?_⟩;have h1:=Lib.run_eql_slice_nil (P:=P) w' T e (Q ⟨b,off,J⟩) (yz l) cap 0 0 hT;simp[execOp,ho,hv,h2,eqGuard,h1]
def Yp.aom{T T' e q i:Nat}{v:Value}{E:Env}{σ:aa bH}{l:aa (U.cA q)}(ho:o.op= .binOp .eql T x y T')(hx:E.ev x=Q (.lit v))(hσ:σ[i]? =Q (.row v q l))(hy:E.ev y=Q (.lit (.slice J 0 0)))(hT:P.underlying T=Q (.slice e))(hl:l≠[]):Yp P E σ o (.b V):=λA w ρ hd hρ=>by
 obtain⟨us,h1,_⟩:=hd.1 _ (List.mem_of_getElem? hσ);obtain⟨g,cap,cur,hv,_⟩:=h1.at (wH.2 hl);have hx':=(hρ _ _ hx).bI;have h2:=(hρ _ _ hy).bI;refine⟨_, .lit _,λw' _=> ?_⟩;have h1:=Lib.run_eql_slice_nil (P:=P) w' T e (Q ⟨g,0,J⟩) (yz l) (cap+1) 0 0 hT;simp[execOp,ho,hx',hv,h2,eqGuard,h1]
def fo(P:Program)(t:TypeId)(a b:AV):af Bool:=match P.underlying t with
 |some (.int _)=>match a,b with
  | .lit (.int k m), .lit (.int k' n)=>if k=k' then Q (Z (m=n))else J
  |_,_=>J
 |some .bool=>match a,b with
  | .lit (.bool p), .lit (.bool q)=>Q (p==q)
  |_,_=>J
 |some .string=>match a,b with
  | .lit (.string p), .lit (.string q)=>Q (p.toList==q.toList)
  |_,_=>J
 |_=>J
def qR(P:Program)(xs ys:aa AV):aa Field->af Bool
 |[]=>Q O
 |f::fs=>match (f.name !="_")&&CL P f.type with
  |true=>match xs[f.offset]?,ys[f.offset]? with
   |some a,Q b=>(fo P f.type a b).bind λr=>(qR P xs ys fs).map λq=>r&&q
   |_,_=>J
  |false=>J
def eM{P:Program}{t:TypeId}(h:lR P t){us:aa Value}{i:Nat}{v:Value}(hv:us[i]? =Q v)(w:World):(part t us.toArray i).run P w= .ok v w:=by
 unfold part;rw[Sem.run_bind,jC h];simp[hv]
def wS{P:Program}{t:TypeId}{a b:AV}{q:Bool}(h:fo P t a b=Q q){A A':Nat->Prop}{w w' w'':World}{u v:Value}{ρ ρ':Gh}(ha:Rel A w (a.sub ρ) u)(hb:Rel A' w' (b.sub ρ') v)(d:Nat):(Op.equalIn (d+1) t u v).run P w''= .ok q w'':=by
 unfold fo at h;split at h
 ·rename_i k0 ht;split at h
  ·split at h
   ·rename_i hk;subst hk;cases h;simp only[bM.sub]at ha hb;rw[ha.bI,hb.bI];exact run_equalIn_int _ d t _ k0 _ _ ht
   ·cases h
  ·cases h
 ·rename_i ht;split at h
  ·cases h;simp only[bM.sub]at ha hb;rw[ha.bI,hb.bI];exact run_equalIn_bool' _ d t _ _ ht
  ·cases h
 ·rename_i ht;split at h
  ·cases h;simp only[bM.sub]at ha hb;rw[ha.bI,hb.bI];exact run_equalIn_string _ d t _ _ ht
  ·cases h
 ·cases h
def HW{P:Program}{xs ys:aa AV}{A A':Nat->Prop}{w w' w'':World}{us vs:aa Value}{ρ ρ':Gh}(ha:bn A w (xs.map (bM.sub ρ)) us)(hb:bn A' w' (ys.map (bM.sub ρ')) vs)(d:Nat):∀{fs:aa Field} {q:Bool},qR P xs ys fs=Q q->(Op.eqFields (d+1) us.toArray vs.toArray fs).run P w''= .ok q w''
 |[],q,h=>by cases h;simp[Op.eqFields]
 |f::fs,q,h=>by
  unfold qR at h;split at h
  case h_2=>cases h
  rename_i hf;simp only[zj,bne_iff_ne,ne_eq]at hf;split at h
  case h_2=>cases h
  rename_i a b hx hy;obtain⟨r1,h1,h⟩:=zn.1 h;obtain⟨q1,h2,rfl⟩:=zk.1 h;obtain⟨u,hu,hu'⟩:=ha.get (a:=a.sub ρ) (j:=f.offset) (by rw[zN,hx];rfl);obtain⟨v,hv,hv'⟩:=hb.get (a:=b.sub ρ') (j:=f.offset) (by rw[zN,hy];rfl);have ih:=HW (w'':=w'') ha hb d h2;have hone:=nC hf.2;unfold Op.eqFields;rw[bS hf.1];simp only[Sem.run_bind,eM hone hu,eM hone hv,Result.andThen_ok,wS (w'':=w'') h1 hu' hv' d];cases r1 with
  |true=>simpa using ih
  |false=>simp
def Yp.seq'{T T':TypeId}{E:Env}{σ:aa bH}{b:BinOp}{cs ds:aa AV}{fs:Array Field}{q:Bool}{ρ ρ':Gh}(ho:o.op= .binOp b T x y T')(hx:E.ev x=Q (.agg (cs.map (bM.sub ρ))))(hy:E.ev y=Q (.agg (ds.map (bM.sub ρ'))))(hT:P.underlying T=Q (.struct fs))(hp:P.stoodInHeld T=V)(hg:P.eqGuardType P.depth T=V)(hq:qR P cs ds fs.toList=Q q)(hb:b= .eql\/b= .neq):
  Yp P E σ o (.b (match b with| .neq=> !q|_=>q)):=λA w j _ hρ=>by
 obtain⟨us,h1,h2⟩:=(hρ _ _ hx).fG;obtain⟨vs,h3,h4⟩:=(hρ _ _ hy).fG;refine⟨_, .lit _,λw' _=> ?_⟩;have hT':P.underlying T=Q (.struct (P.fieldsOf T)):=by unfold Program.fieldsOf;rw[hT]
 have hfs:P.fieldsOf T=fs:=by unfold Program.fieldsOf;rw[hT]
 have he:=run_equalIn_struct (P:=P) w' 9999 T us.toArray vs.toArray hT' hp;rw[hfs,HW (w'':=w') h2 h4 9998 hq]at he;have hgr:=run_eqGuard_agg (P:=P) w' b T x y us.toArray vs.toArray hg;rcases hb with rfl|rfl
 ·have h5:=run_eql_struct (P:=P) w' T us.toArray vs.toArray;rw[he]at h5;simp[execOp,ho,h1,h3,hgr,h5]
 ·have h5:=run_neq_struct (P:=P) w' T us.toArray vs.toArray;rw[he]at h5;simp[execOp,ho,h1,h3,hgr,h5]
def eqS(P:Program)(b:BinOp)(T:TypeId)(cs ds:aa AV)(K:AV->af α):af α:=match P.underlying T with
 |some (.struct fs)=>match !P.stoodInHeld T&& !P.eqGuardType P.depth T with
  |true=>match b with
   | .eql=>(qR P cs ds fs.toList).bind λq=>K (.b q)
   | .neq=>(qR P cs ds fs.toList).bind λq=>K (.b (!q))
   |_=>J
  |false=>J
 |_=>J
def aoM{b:BinOp}{T T':TypeId}{cs ds:aa AV}(hs:gC ev rd nx E R)(ho:o.op= .binOp b T x y T')(hx:ev x=Q (.agg cs))(hy:ev y=Q (.agg ds)){K:AV->af α}(h:eqS P b T cs ds K=Q r):∃d,K d=Q r/\Pu P o E R nx d:=by
 unfold eqS at h;split at h
 case h_2=>cases h
 rename_i fs hT;split at h
 case h_2=>cases h
 rename_i hg;simp only[zj,Bool.not_eq_true']at hg;have ex:=λρ=>hs.eF hx ρ;have ey:=λρ=>hs.eF hy ρ;simp only[dS]at ex ey;split at h
 ·obtain⟨q,hq,h⟩:=zn.1 h;exact⟨_,h, .lit λρ=> .seq' ho (ex ρ) (ey ρ) hT hg.1 hg.2 hq (.inl rfl)⟩
 ·obtain⟨q,hq,h⟩:=zn.1 h;exact⟨_,h, .lit λρ=> .seq' ho (ex ρ) (ey ρ) hT hg.1 hg.2 hq (.inr rfl)⟩
 ·cases h
def LC(P:Program)(rd:Nat->af IR)(b:BinOp)(T:TypeId)(x y:af AV)(K:AV->af α):af α:=match x,y with
 |some (.lit (.int k m)),Q (.lit (.int k' n))=>match b with
  | .shl=>if 0<=n then K (.n k (qF k m n))else J
  | .shr=>if 0<=n then K (.n k (cF k m n))else J
  |_=>if k=k' then TW b k m n K else J
 |some (.lit (.bool p)),Q (.lit (.bool q))=>match P.underlying T with
  |some .bool=>match b with
   | .eql=>K (.b (p==q))
   | .neq=>K (.b (!(p==q)))
   |_=>J
  |_=>J
 |some (.lit (.string s)),Q (.lit (.string t))=>match b with
  | .eql=>K (.b (s.toList==t.toList))
  | .neq=>K (.b (!(s.toList==t.toList)))
  |_=>J
 |some (.lit (.slice p _ _)),Q (.lit (.slice J 0 0))=>match b,P.underlying T with
  | .eql,Q (.slice _)=>K (.b p.isNone)
  |_,_=>J
 |some (.sl _ l),Q (.lit (.slice J 0 0))=>match b,P.underlying T with
  | .eql,Q (.slice _)=>match l with
   |[]=>J
   |_::_=>K (.b V)
  |_,_=>J
 |some (.own id),Q (.lit (.slice J 0 0))=>match b,P.underlying T with
  | .eql,Q (.slice _)=>match rd id with
   |some (.row _ (_::_))=>K (.b V)
   |_=>J
  |_,_=>J
 |some (.agg cs),Q (.agg ds)=>eqS P b T cs ds K
 |_,_=>J
def acP{b:BinOp}{T T':TypeId}(hs:gC ev rd nx E R)(ho:o.op= .binOp b T x y T'){K:AV->af α}(h:LC P rd b T (ev x) (ev y) K=Q r):∃d,K d=Q r/\Pu P o E R nx d:=by
 unfold LC at h;split at h
 ·rename_i k m k' n hx hy;have ex:=λρ=>hs.eF hx ρ;have ey:=λρ=>hs.eF hy ρ;simp only[bF]at ex ey;split at h
  ·split at h
   ·rename_i h0;exact⟨_,h, .lit λρ=> .shl ho (ex ρ) (ey ρ) h0⟩
   ·cases h
  ·split at h
   ·rename_i h0;exact⟨_,h, .lit λρ=> .shr ho (ex ρ) (ey ρ) h0⟩
   ·cases h
  ·split at h
   ·rename_i hk;subst hk;unfold TW at h;split at h
    ·exact⟨_,h, .lit λρ=> .add ho (ex ρ) (ey ρ)⟩
    ·exact⟨_,h, .lit λρ=> .sub ho (ex ρ) (ey ρ)⟩
    ·exact⟨_,h, .lit λρ=> .mul ho (ex ρ) (ey ρ)⟩
    ·split at h
     ·rename_i h0;exact⟨_,h, .lit λρ=> .quo ho (ex ρ) (ey ρ) h0⟩
     ·cases h
    ·split at h
     ·rename_i h0;exact⟨_,h, .lit λρ=> .rem ho (ex ρ) (ey ρ) h0⟩
     ·cases h
    ·exact⟨_,h, .lit λρ=> .and ho (ex ρ) (ey ρ)⟩
    ·exact⟨_,h, .lit λρ=> .or ho (ex ρ) (ey ρ)⟩
    ·exact⟨_,h, .lit λρ=> .xor ho (ex ρ) (ey ρ)⟩
    ·exact⟨_,h, .lit λρ=> .andNot ho (ex ρ) (ey ρ)⟩
    ·exact⟨_,h, .lit λρ=> .lss ho (ex ρ) (ey ρ)⟩
    ·exact⟨_,h, .lit λρ=> .leq ho (ex ρ) (ey ρ)⟩
    ·exact⟨_,h, .lit λρ=> .gtr ho (ex ρ) (ey ρ)⟩
    ·exact⟨_,h, .lit λρ=> .geq ho (ex ρ) (ey ρ)⟩
    ·exact⟨_,h, .lit λρ=> .eql ho (ex ρ) (ey ρ)⟩
    ·exact⟨_,h, .lit λρ=> .neq ho (ex ρ) (ey ρ)⟩
    ·cases h
   ·cases h
 ·rename_i p q hx hy;have ex:=λρ=>hs.eF hx ρ;have ey:=λρ=>hs.eF hy ρ;simp only[bF]at ex ey;split at h
  ·rename_i hT;split at h
   ·exact⟨_,h, .lit λρ=> .aAP ho hT (ex ρ) (ey ρ)⟩
   ·exact⟨_,h, .lit λρ=> .aCV ho hT (ex ρ) (ey ρ)⟩
   ·cases h
  ·cases h
 ·rename_i s t hx hy;have ex:=λρ=>hs.eF hx ρ;have ey:=λρ=>hs.eF hy ρ;simp only[bF]at ex ey;split at h
  ·exact⟨_,h, .lit λρ=> .aDo ho (ex ρ) (ey ρ)⟩
  ·exact⟨_,h, .lit λρ=> .aCn ho (ex ρ) (ey ρ)⟩
  ·cases h
 ·rename_i p l c hx hy;have ex:=λρ=>hs.eF hx ρ;have ey:=λρ=>hs.eF hy ρ;simp only[bF]at ex ey;split at h
  ·rename_i hT;exact⟨_,h, .lit λρ=> .aoP ho (ex ρ) (ey ρ) hT⟩
  ·cases h
 ·rename_i t l hx hy;have ex:=λρ=>hs.eF hx ρ;have ey:=λρ=>hs.eF hy ρ;simp only[bF]at ey;simp only[fE]at ex;split at h
  ·rename_i hT;split at h
   ·cases h
   ·exact⟨_,h, .lit λρ=> .aoH ho (ex ρ) (ey ρ) hT (by simp)⟩
  ·cases h
 ·rename_i id hx hy;have ex:=λρ=>hs.eF hx ρ;have ey:=λρ=>hs.eF hy ρ;simp only[bF]at ey;simp only[cD]at ex;split at h
  ·rename_i hT;split at h
   ·rename_i hr;exact⟨_,h, .lit λρ=>by
     obtain⟨i,hi⟩:=hs.row hr ρ;exact .aom ho (ex ρ) hi (ey ρ) hT (by simp)⟩
   ·cases h
  ·cases h
 ·rename_i cs ds hx hy;exact aoM hs ho hx hy h
 ·cases h
def unV(b:UnOp)(x:af AV)(K:AV->af α):af α:=match b,x with
 | .not,Q (.lit (.bool p))=>K (.b (!p))
 | .neg,Q (.lit (.int k n))=>K (.n k (k.wrap (0-n)))
 |_,_=>J
def alU{b:UnOp}{T:TypeId}(hs:gC ev rd nx E R)(ho:o.op= .unOp b T x){K:AV->af α}(h:unV b (ev x) K=Q r):∃d,K d=Q r/\Pu P o E R nx d:=by
 unfold unV at h;split at h
 ·rename_i p hx;have ex:=λρ=>hs.eF hx ρ;simp only[bF]at ex;exact⟨_,h, .lit λρ=> .not ho (ex ρ)⟩
 ·rename_i p hx;have ex:=λρ=>hs.eF hx ρ;simp only[bF]at ex;exact⟨_,h, .lit λρ=> .neg ho (ex ρ)⟩
 ·cases h
def Lx(x:af AV)(K:AV->af α):af α:=match x with
 |some (.ptr id off)=>K (.ptr id off)
 |some (.fp cs)=>K (.fp cs)
 |some (.ra id t m off)=>K (.ra id t m off)
 |_=>J
def ZZ(hs:gC ev rd nx E R)(ho:o.op= .nilCheck x){K:AV->af α}(h:Lx (ev x) K=Q r):∃d,K d=Q r/\Pu P o E R nx d:=by
 unfold Lx at h;split at h
 ·rename_i hx;exact⟨_,h,hs.nQ hx,λρ=>by have ex:=hs.eF hx ρ;rw[eO]at ex ⊢;exact .PU ho ex⟩
 ·rename_i hx;exact⟨_,h,hs.nQ hx,λρ=>by have ex:=hs.eF hx ρ;rw[jx]at ex ⊢;exact .QX ho ex⟩
 ·rename_i hx;exact⟨_,h,hs.nQ hx,λρ=>by have ex:=hs.eF hx ρ;rw[gX]at ex ⊢;exact .PS ho ex⟩
 ·cases h
def kf{n:Nat}{cs:aa AV}(h:∀c∈cs,ct n c)(k:Nat):∀c∈cs.drop k,ct n c:=λc hc=>h c (wo hc)
def mQ{n:Nat}{cs:aa AV}(h:∀c∈cs,ct n c)(k:Nat):∀c∈cs.take k,ct n c:=λc hc=>h c (List.mem_of_mem_take hc)
def ct.fpL{n:Nat}{cs:aa AV}(h:ct n (.fp cs)):∀c∈cs,ct n c:=by cases h;assumption
def ct.kj{n:Nat}{cs:aa AV}(h:ct n (.agg cs)):∀c∈cs,ct n c:=by cases h;assumption
def ct.w8{n:Nat}{cs:aa AV}(h:ct n (.gH cs)):∀c∈cs,ct n c:=by cases h;assumption
def ct.fnL{n:Nat}{f:Go.Fn}{cs:aa AV}(h:ct n (.fn f cs)):∀c∈cs,ct n c:=by cases h;assumption
def ct.avE{n id off:Nat}(h:ct n (.ptr id off)):id<n:=by cases h;assumption
def ct.raL{n id t m off:Nat}(h:ct n (.ra id t m off)):id<n:=by cases h;assumption
def ct.aBo{n id:Nat}(h:ct n (.own id)):id<n:=by cases h;assumption
def rD{n:Nat}{cs:aa AV}(h:∀c∈cs,ct n c){k:Nat}(hk:cs[k]? =Q d):ct n d:=h d (List.mem_of_getElem? hk)
def rm{n:Nat}{cs ds:aa AV}(h:∀c∈cs,ct n c)(h':∀c∈ds,ct n c):∀c∈cs++ds,ct n c:=λc hc=>(zV.1 hc).elim (h c) (h' c)
def th{n:Nat}(h:ct n d):∀c∈cT d,ct n c:=by
 cases d<;>first|exact h.kj|(intro c hc;simp only[cT,zC]at hc;rw[hc];exact h)
def Iy(n:Nat)(zs:aa Value):∀c∈zs.map (bM.lit (cA:=U.cA)),ct n c:=λc hc=>by
 obtain⟨v,_,rfl⟩:=zy.1 hc;exact .lit v
def Mw(P:Program)(T:TypeId)(i:Nat)(x:af AV)(K:AV->af α):af α:=match P.underlying T with
 |some (.struct fs)=>match fs[i]? with
  |some f=>match (P.info? f.type).map (·.size)with
   |some (_+1)=>match x with
    |some (.ptr id off)=>K (.ptr id (off+f.offset))
    |some (.fp cs)=>K (.fp (cs.drop f.offset))
    |some (.ra id t m off)=>K (.ra id t m (off+f.offset))
    |_=>J
   |_=>J
  |none=>J
 |_=>J
def Zb{T:TypeId}{i:Nat}(hs:gC ev rd nx E R)(ho:o.op= .fieldAddr T x i){K:AV->af α}(h:Mw P T i (ev x) K=Q r):∃d,K d=Q r/\Pu P o E R nx d:=by
 unfold Mw at h;split at h
 case h_2=>cases h
 rename_i fs hT;split at h
 case h_2=>cases h
 rename_i f hf;split at h
 case h_2=>cases h
 rename_i sz hsz;split at h
 ·rename_i id off hx;exact⟨_,h, .ptr _ _ (hs.nQ hx).avE,λρ=>by have ex:=hs.eF hx ρ;rw[eO]at ex ⊢;exact .aj4 ho ex hT hf hsz⟩
 ·rename_i cs hx;exact⟨_,h, .fp _ (kf (hs.nQ hx).fpL _),λρ=>by have ex:=hs.eF hx ρ;rw[jx]at ex ⊢;rw[xJ];exact .amO ho ex hT hf hsz⟩
 ·rename_i id t m off hx;exact⟨_,h, .ra _ _ _ _ (hs.nQ hx).raL,λρ=>by have ex:=hs.eF hx ρ;rw[gX]at ex ⊢;rw[<-xo];exact .anY ho ex hT hf hsz⟩
 ·cases h
def LK(P:Program)(rd:Nat->af IR)(T:TypeId)(x y:af AV)(K:AV->af α):af α:=match y with
 |some (.lit (.int _ m))=>match P.underlying T with
  |some (.slice e)=>match x with
   |some (.sl t l)=>match uy P e (U.sz t)with
    |true=>if 0<=m/\m<(yz l:Int)then K (.fp (U.cells t l[m.toNat]!))else J
    |false=>J
   |some (.own id)=>match rd id with
    |some (.row t l)=>match uy P e (U.sz t)with
     |true=>if 0<=m/\m<(yz l:Int)then K (.ra id t m.toNat 0)else J
     |false=>J
    |_=>J
   |_=>J
  |some (.array n e)=>match (P.info? e).map (·.size)with
   |some sz=>if 0<=m/\m<(n:Int)then(match x with
    |some (.ptr id off)=>K (.ptr id (off+m.toNat*sz))
    |some (.fp cs)=>K (.fp (cs.drop (m.toNat*sz)))
    |some (.ra id t j off)=>K (.ra id t j (off+m.toNat*sz))
    |_=>J)else J
   |none=>J
  |_=>J
 |_=>J
def afx{T:TypeId}(hs:gC ev rd nx E R)(ho:o.op= .indexAddr T x y){K:AV->af α}(h:LK P rd T (ev x) (ev y) K=Q r):∃d,K d=Q r/\Pu P o E R nx d:=by
 unfold LK at h;split at h
 case h_2=>cases h
 rename_i k m hy;have ey:=λρ=>hs.eF hy ρ;simp only[bF]at ey;split at h
 ·rename_i e hT;split at h
  ·rename_i t l hx;split at h
   case h_2=>cases h
   rename_i hsz;split at h
   ·rename_i hm;exact⟨_,h, .fp _ (L.nQ t _ nx),λρ=>by have ex:=hs.eF hx ρ;rw[fE]at ex;rw[jx,L.clo];exact .adR ho ex (ey ρ) hT (kQ hsz) hm⟩
   ·cases h
  ·rename_i id hx;split at h
   case h_2=>cases h
   rename_i t l hr;split at h
   case h_2=>cases h
   rename_i hsz;split at h
   ·rename_i hm;refine⟨_,h, .ra _ _ _ _ (hs.nQ hx).aBo,λρ=> ?_⟩;have ex:=hs.eF hx ρ;rw[cD]at ex;obtain⟨i,hi⟩:=hs.row hr ρ;rw[gX,yO];exact .Ul i ho ex hi (ey ρ) hT (kQ hsz) hm
   ·cases h
  ·cases h
 ·rename_i n e hT;split at h
  case h_2=>cases h
  rename_i sz hsz;split at h
  case isFalse=>cases h
  rename_i hm;split at h
  ·rename_i id off hx;exact⟨_,h, .ptr _ _ (hs.nQ hx).avE,λρ=>by have ex:=hs.eF hx ρ;rw[eO]at ex ⊢;exact .al0 ho ex (ey ρ) hT hsz hm⟩
  ·rename_i cs hx;exact⟨_,h, .fp _ (kf (hs.nQ hx).fpL _),λρ=>by have ex:=hs.eF hx ρ;rw[jx]at ex ⊢;rw[xJ];exact .aoe ho ex (ey ρ) hT hsz hm⟩
  ·rename_i id t j off hx;exact⟨_,h, .ra _ _ _ _ (hs.nQ hx).raL,λρ=>by have ex:=hs.eF hx ρ;rw[gX]at ex ⊢;rw[<-xo];exact .ajO ho ex (ey ρ) hT hsz hm⟩
  ·cases h
 ·cases h
def ldV(P:Program)(rd:Nat->af IR)(T:TypeId)(x:af AV)(K:AV->af α):af α:=match CL P T with
 |true=>match x with
  |some (.fp cs)=>(cs[0]?).bind K
  |some (.ptr id off)=>match rd id with
   |some (.box _ cs)=>(cs[off]?).bind K
   |_=>J
  |some (.ra id t m off)=>match rd id with
   |some (.row t' l)=>match L.arr t' with
    |true=>if t=t'/\m<yz l/\off<U.sz t' then K (.lit (.bool (L.gtB t' l[m]! off)))else J
    |false=>if t=t'/\m<yz l then((U.cells t' l[m]!)[off]?).bind K else J
   |_=>J
  |_=>J
 |false=>match Ot P T with
  |some n=>match x with
   |some (.fp cs)=>match z8 n (yz cs) with
    |true=>K (.agg (cs.take n))
    |false=>J
   |some (.ptr id off)=>match rd id with
    |some (.box _ cs)=>match z8 (off+n) (yz cs) with
     |true=>K (.agg ((cs.drop off).take n))
     |false=>J
    |_=>J
   |some (.ra id t m off)=>match rd id with
    |some (.row t' l)=>match z8 (off+n) (U.sz t')with
     |true=>if t=t'/\m<yz l then K (.agg (((U.cells t' l[m]!).drop off).take n))else J
     |false=>J
    |_=>J
   |_=>J
  |none=>J
def aoj{T:TypeId}(hs:gC ev rd nx E R)(ho:o.op= .load T x){K:AV->af α}(h:ldV P rd T (ev x) K=Q r):∃d,K d=Q r/\Pu P o E R nx d:=by
 unfold ldV at h;split at h
 ·rename_i hT;have hT:=nC hT;split at h
  ·rename_i cs hx;obtain⟨d,hd,h⟩:=zn.1 h;exact⟨d,h,rD (hs.nQ hx).fpL hd,λρ=>by have ex:=hs.eF hx ρ;rw[jx]at ex;exact .ao1 ho ex hT (by rw[zN,hd];rfl)⟩
  ·rename_i id off hx;split at h
   case h_2=>cases h
   rename_i t cs hr;obtain⟨d,hd,h⟩:=zn.1 h;refine⟨d,h,rD (hs.adh hr) hd,λρ=> ?_⟩;have ex:=hs.eF hx ρ;rw[eO]at ex;obtain⟨i,hi⟩:=hs.box hr ρ;exact .KL i ho ex hi hT (by rw[zN,hd];rfl)
  ·rename_i id t m off hx;split at h
   case h_2=>cases h
   rename_i t' l hr;split at h
   ·rename_i har;split at h
    case isFalse=>cases h
    rename_i hm;obtain⟨rfl,hm,hoff⟩:=hm;refine⟨_,h, .lit _,λρ=> ?_⟩;have ex:=hs.eF hx ρ;rw[gX]at ex;obtain⟨i,hi⟩:=hs.row hr ρ;rw[show (bM.lit (.bool (L.gtB t l[m]! off)):AV).sub ρ= .lit (.bool (L.gtB t l[m]! off))by simp only[bM.sub]];exact .Tb i m ho ex hi hT rfl hm (L.acj t har l[m]! off hoff)
   split at h
   case isFalse=>cases h
   rename_i hm;obtain⟨rfl,hm⟩:=hm;obtain⟨d,hd,h⟩:=zn.1 h;refine⟨d,h,rD (L.nQ t _ nx) hd,λρ=> ?_⟩;have ex:=hs.eF hx ρ;rw[gX]at ex;obtain⟨i,hi⟩:=hs.row hr ρ;have hc:d.sub ρ=d:=by
    have:=L.clo t l[m]! ρ;have h2:((U.cells t l[m]!).map (bM.sub ρ))[off]? =Q (d.sub ρ):=by rw[zN,hd];rfl
    rw[this,hd]at h2;exact(zG.inj h2).symm
   rw[hc];exact .Tb i m ho ex hi hT rfl hm hd
  ·cases h
 ·split at h
  case h_2=>cases h
  rename_i n hT;have hT:=Jo hT;split at h
  ·rename_i cs hx;split at h
   case h_2=>cases h
   rename_i hn;exact⟨_,h, .agg _ (mQ (hs.nQ hx).fpL _),λρ=>by have ex:=hs.eF hx ρ;rw[jx]at ex;rw[dS,xI];exact .XP ho ex hT (by rw[zI];exact yV hn)⟩
  ·rename_i id off hx;split at h
   case h_2=>cases h
   rename_i t cs hr;split at h
   case h_2=>cases h
   rename_i hn;refine⟨_,h, .agg _ (mQ (kf (hs.adh hr) _) _),λρ=> ?_⟩;have ex:=hs.eF hx ρ;rw[eO]at ex;obtain⟨i,hi⟩:=hs.box hr ρ;rw[dS,xI,xJ];exact .ajW i ho ex hi hT (by rw[zI];exact yV hn)
  ·rename_i id t m off hx;split at h
   case h_2=>cases h
   rename_i t' l hr;split at h
   case h_2=>cases h
   rename_i hn;split at h
   case isFalse=>cases h
   rename_i hm;obtain⟨rfl,hm⟩:=hm;refine⟨_,h, .agg _ (mQ (kf (L.nQ t _ nx) _) _),λρ=> ?_⟩;have ex:=hs.eF hx ρ;rw[gX]at ex;obtain⟨i,hi⟩:=hs.row hr ρ;rw[dS,xI,xJ,L.clo];exact .aly i m ho ex hi hT rfl hm (yV hn)
  ·cases h
end
end Go.Iv
end
noncomputable section
namespace Go.Iv
variable [U:tQ] [L:sG]
open Go Go.RowKit
section
variable {P:Program} {E:Env} {σ:aa bH} {o:Oper} {T T' e:TypeId} {x y z:Operand} {av:AV} {m:Int} {k:IntKind}
def Yp.ak6{n':Nat}{cs:aa AV}(ho:o.op= .index T x y)(hx:E.ev x=Q (.agg cs))(hy:E.ev y=Q (.n k m))(hT:P.underlying T=Q (.array n' e))(h1:lR P e)(hs:(P.info? e).map (·.size)=Q 1)(hm:0<=m/\m<n')(ha:cs[m.toNat]? =Q av):Yp P E σ o av:=λA w ρ _ hρ=>by
 obtain⟨j,hj,hj'⟩:=zk.1 hs;obtain⟨us,q1,q2⟩:=(hρ _ _ hx).fG;have hy':=(hρ _ _ hy).bI;obtain⟨v,q3,q4⟩:=q2.get ha;refine⟨v,q4,λw' _=> ?_⟩;have hp:(part e us.toArray m.toNat).run P w'= .ok v w':=by
  unfold part;rw[Sem.run_bind,jC h1];simp[q3]
 simp[execOp,ho,Instr.index,q1,hy',run_underlying hT,sizeOf,typeInfo,hj,hj',asIntOf,hm,hp]
end
section
variable {α:Type} {r:α} {P:Program} {o:Oper} {E:Env} {R:aM} {nx:Nat} {ev:Operand->af AV} {rd:Nat->af IR} {x y z:Operand} {d:AV} {A:Nat->Prop} {w:World} {ρ:Gh} {v:Value}
def iR(ρ:Gh)(d:AV):cT (d.sub ρ)=(cT d).map (bM.sub ρ):=by
 cases d<;>simp only[bM.sub,cT,zO,yU]
def K5{d:AV}(h:gF d=O)(hn:∀id,d≠ .own id):gF (d.sub ρ)=O:=by
 cases d<;>first|(exact gI rfl (hn _))|(cases h;done)|(simp only[bM.sub,gF]at h ⊢;done)|(simp only[bM.sub]at h ⊢;first|exact h|rfl)
def vv(hs:gC ev rd nx E R)(h:vt rd d=O)(hd:Hd A (aM.res ρ R) w)(hr:Rel A w (d.sub ρ) v):v.oneCell'=O:=by
 unfold vt at h;split at h
 ·rename_i id;split at h
  ·rename_i t l hrd;obtain⟨i,hi⟩:=hs.row hrd ρ;rw[cD]at hr;rw[hr.bI];exact O9 i hi hd
  ·rename_i es hrd;obtain⟨i,hi,_⟩:=cU (hs.r _ _ hrd);obtain⟨b,ar,cl,q,_⟩:=hd.1 _ (List.mem_of_getElem? (eu (ρ:=ρ) hi));rw[cD]at hr;rw[hr.bI,q];rfl
  ·rename_i k e l hrd;obtain⟨i,hi,_⟩:=cU (hs.r _ _ hrd);obtain⟨b,ar,cl,q,_⟩:=hd.1 (.mp (ρ.v id) (l.map (kG k e))) (List.mem_of_getElem? (eu (ρ:=ρ) hi));rw[cD]at hr;rw[hr.bI,q];rfl
  ·cases h
 ·rw[eO]at hr;rw[hr.bI];rfl
 ·cases h
 ·rename_i h1 _ _;exact hr.one (K5 h (λid e=>h1 id e))
def rK(hs:gC ev rd nx E R)(h:As rd d=O)(hd:Hd A (aM.res ρ R) w)(hr:Rel A w (d.sub ρ) v):bn A w ((cT d).map (bM.sub ρ)) v.cells.toList/\∀u∈v.cells.toList,u.oneCell'=O:=by
 by_cases ha:∃cs,d= .agg cs
 ·obtain⟨cs,rfl⟩:=ha;rw[dS]at hr;obtain⟨us,rfl,h2⟩:=hr.fG;refine⟨by simpa [Value.cells,cT]using h2,λu hu=> ?_⟩;simp only[Value.cells]at hu;obtain⟨j,hj,rfl⟩:=wh hu;have hlt:j<yz cs:=by have:=h2.1;rw[zI]at this;omega
  have h3:=h2.2 j _ us[j] (by rw[zN,zm hlt];rfl) (zm hj);exact vv hs (zx.1 h _ (yJ hlt)) hd h3
 ·have hc:vt rd d=O:=by
   cases d<;>first|exact h|(exact gI ⟨_,rfl⟩ ha)
  have hac:cT d=[d]:=by
   cases d<;>first|rfl|(exact gI ⟨_,rfl⟩ ha)
  have h2:=vv hs hc hd hr;rw[hac,jL h2];exact⟨bn.cons hr bn.nil,λu hu=>by simp at hu;rw[hu];exact h2⟩
def DK(hs:gC ev rd nx E R)(h:As rd d=O):Pw (aM.res ρ R) (d.sub ρ):=λA w v hd hr=>by
 rw[iR];exact rK hs h hd hr
def qD(rd:Nat->af IR)(place:Nat->af (Nat×Nat))(cells:aa AV):aa (Nat×AV)->af (aa AV)
 |[]=>Q cells
 |(i,a)::rest=>
  match place i with
  |none=>J
  |some (off,size)=>
   match zh (cT a).length size&&z8 (off+size) cells.length&&As rd a with
   |true=>qD rd place (cells.take off++cT a++cells.drop (off+size)) rest
   |false=>J
def Dn{place:Nat->af (Nat×Nat)}:∀{ps:aa (Nat×AV)} {cs cs':aa AV},(∀c∈cs,ct nx c)->(∀p∈ps,ct nx p.2)->qD rd place cs ps=Q cs'->∀c∈cs',ct nx c
 |[],cs,cs',h1,_,hf=>by cases hf;exact h1
 |(i,a)::ps,cs,cs',h1,h2,hf=>by
  unfold qD at hf;split at hf
  ·cases hf
  ·split at hf
   ·exact Dn (rm (rm (mQ h1 _) (th (h2 _ zq))) (kf h1 _)) (λp hp=>h2 p (zH _ hp)) hf
   ·cases hf
def rV(hs:gC ev rd nx E R)(hd:Hd A (aM.res ρ R) w){place:Nat->af (Nat×Nat)}:∀{ps:aa (Nat×AV)} {qs:aa (Nat×Value)} {cs cs':aa AV} {init:Array Value},bn A w (cs.map (bM.sub ρ)) init.toList->
  F2 (λ(p:Nat×AV) (q:Nat×Value)=>p.1=q.1/\Rel A w (p.2.sub ρ) q.2) ps qs->qD rd place cs ps=Q cs'->∃us:Array Value,Instr.fill place init qs=Q us/\bn A w (cs'.map (bM.sub ρ)) us.toList
 |[],_,cs,cs',init,hi,hp,hf=>by
  cases hp;cases hf;exact⟨init,rfl,hi⟩
 |(i,a)::ps,_,cs,cs',init,hi,hp,hf=>by
  cases hp with
  |@cons _ q _ qs h1 h2=>
   obtain⟨j,v⟩:=q;obtain⟨h3,h4⟩:=h1;subst h3;unfold qD at hf;unfold Instr.fill;cases hpl:place i with
   |none=>rw[hpl]at hf;cases hf
   |some os=>
    obtain⟨off,size⟩:=os;rw[hpl]at hf;simp only at hf ⊢;split at hf
    ·rename_i hc;simp only[zj,Nat.ble_eq]at hc;obtain⟨⟨hc1,hc2⟩,hc3⟩:=hc;have hc1:=yI hc1;obtain⟨h5,h6⟩:=rK hs hc3 hd h4;have hvs:v.cells.size=size:=by rw[<-yf,h5.1,zI,hc1]
     have his:init.size=yz cs:=by rw[<-yf,hi.1,zI]
     rw[bT (by simp;omega)];refine rV hs hd (cs:=cs.take off++cT a++cs.drop (off+size)) ?_ h2 hf;have hvl:yz v.cells.toList=size:=by rw[yf,hvs]
     have e:(v.cells.zipIdx.foldl (λcs (x:Value×Nat)=>match x with|(c,j)=>cs.setIfInBounds (off+j) c) init).toList=init.toList.take off++v.cells.toList++init.toList.drop (off+size):=by
      have:=foldl_set v.cells.toList 0 off init (by rw[hvl];omega);rw[hvl,yO]at this;rw[<-this,<-Array.foldl_toList,Array.toList_zipIdx]
     rw[e,zK,zK,xI,xJ];exact((hi.take off).app h5).app (hi.drop (off+size))
    ·cases hf
def RJ(ev:Operand->af AV):aa (Nat×Operand)->af (aa (Nat×AV))
 |[]=>Q []
 |(i,x)::xs=>match ev x with
  |some a=>(RJ ev xs).map λas0=>(i,a)::as0
  |none=>J
def Ov(hs:gC ev rd nx E R):∀{xs:aa (Nat×Operand)} {as0:aa (Nat×AV)},RJ ev xs=Q as0->∀p∈as0,ct nx p.2
 |[],as0,h=>by cases h;simp
 |(i,x)::xs,as0,h=>by
  unfold RJ at h;split at h
  ·rename_i a ha;obtain⟨as',h1,rfl⟩:=zk.1 h;intro p hp;rcases zu.1 hp with rfl|hp
   ·exact hs.nQ ha
   ·exact Ov hs h1 p hp
  ·cases h
def nN(hs:gC ev rd nx E R){j:Operand->Value}(h:JT A w (E.sub ρ) j):∀{xs:aa (Nat×Operand)} {as0:aa (Nat×AV)},RJ ev xs=Q as0->
  F2 (λ(p:Nat×AV) (q:Nat×Value)=>p.1=q.1/\Rel A w (p.2.sub ρ) q.2) as0 (xs.map λp=>(p.1,j p.2))
 |[],as0,he=>by cases he;exact .nil
 |(i,x)::xs,as0,he=>by
  unfold RJ at he;split at he
  ·rename_i a ha;obtain⟨as',h1,rfl⟩:=zk.1 he;exact .cons ⟨rfl,h x _ (hs.eF ha ρ)⟩ (nN hs h h1)
  ·cases he
def IW(ev:Operand->af AV):aa Operand->af (aa AV)
 |[]=>Q []
 |x::xs=>match ev x with
  |some a=>(IW ev xs).map λas0=>a::as0
  |none=>J
def Fl(hs:gC ev rd nx E R):∀{xs:aa Operand} {as0:aa AV},IW ev xs=Q as0->∀d∈as0,ct nx d
 |[],as0,h=>by cases h;simp
 |x::xs,as0,h=>by
  unfold IW at h;split at h
  ·rename_i a ha;obtain⟨as',h1,rfl⟩:=zk.1 h;intro p hp;rcases zu.1 hp with rfl|hp
   ·exact hs.nQ ha
   ·exact Fl hs h1 p hp
  ·cases h
def DY(hs:gC ev rd nx E R)(ρ:Gh):∀{xs:aa Operand} {as0:aa AV},IW ev xs=Q as0->(E.sub ρ).IW xs=Q (as0.map (bM.sub ρ))
 |[],as0,he=>by cases he;rfl
 |x::xs,as0,he=>by
  unfold IW at he;split at he
  ·rename_i a ha;obtain⟨as',h1,rfl⟩:=zk.1 he;unfold Env.IW;rw[hs.eF ha ρ,DY hs ρ h1];rfl
  ·cases he
def K6(P:Program)(ev:Operand->af AV)(rd:Nat->af IR)(T:TypeId)(ps:aa (Nat×Operand))(K:AV->af α):af α:=
 match RJ ev ps,gO P T with
 |some as0,Q zs=>match P.underlying T with
  |some (.struct _)=>match placesOf P T with
   |some places=>(qD rd (places[·]?) (zs.map .lit) as0).bind λcs=>K (.agg cs)
   |none=>J
  |some (.array _ e)=>match (P.info? e).map (·.size)with
   |some sz=>(qD rd (λi=>Q (i*sz,sz)) (zs.map .lit) as0).bind λcs=>K (.agg cs)
   |none=>J
  |_=>J
 |_,_=>J
def Ca(ρ:Gh)(zs:aa Value):(zs.map (bM.lit (cA:=U.cA))).map (bM.sub ρ)=zs.map .lit:=by
 rw[yg];exact zR λv _=>bF ρ v
def acI{T:TypeId}{ps:Array (Nat×Operand)}(hs:gC ev rd nx E R)(ho:o.op= .build T ps){K:AV->af α}(h:K6 P ev rd T ps.toList K=Q r):∃d,K d=Q r/\Pu P o E R nx d:=by
 unfold K6 at h;split at h
 case h_2=>cases h
 rename_i as0 zs he hz;have main:∀(place:Nat->af (Nat×Nat)) (cs:aa AV),qD rd place (zs.map .lit) as0=Q cs->(∀(vs:aa (Nat×Value)) (us:Array Value),Instr.fill place zs.toArray vs=Q us->P.built T vs=Q us)->Pu P o E R nx (.agg cs):=λplace cs hf hb=>by
  refine⟨.agg _ (Dn (Iy nx zs) (Ov hs he) hf),λρ A w j hd hρ=> ?_⟩;have hzr:bn A w ((zs.map bM.lit).map (bM.sub ρ)) zs:=by rw[Ca];exact bn.lits _
  obtain⟨us,h1,h2⟩:=rV (init:=zs.toArray) hs hd hzr (nN hs hρ he) hf;rw[dS];refine⟨.agg us,by simpa using Rel.kj h2,λw' _=> ?_⟩;have:=run_build (P:=P) w' T _ us (hb _ us h1);rw[<-Kh]at this;simp[execOp,ho,this]
 split at h
 ·rename_i fs hT;split at h
  case h_2=>cases h
  rename_i places hp;obtain⟨cs,hf,h⟩:=zn.1 h;refine⟨_,h,main _ cs hf λvs us hu=> ?_⟩;obtain⟨it,hit,hz1⟩:=zn.1 hz;obtain⟨zv,hz2,hz3⟩:=zk.1 hz1;unfold Program.built;unfold placesOf at hp;rw[hit,hT]at*;simp only[hz2,hp];have:zv.cells=zs.toArray:=by rw[<-hz3]
  rw[this];simpa using hu
 ·rename_i n e hT;split at h
  case h_2=>cases h
  rename_i sz hsz;obtain⟨cs,hf,h⟩:=zn.1 h;refine⟨_,h,main _ cs hf λvs us hu=> ?_⟩;obtain⟨it,hit,hz1⟩:=zn.1 hz;obtain⟨zv,hz2,hz3⟩:=zk.1 hz1;obtain⟨ie,hie,hse⟩:=zk.1 hsz;unfold Program.built;have:zv.cells=zs.toArray:=by rw[<-hz3]
  simp_all
 ·cases h
def KY(P:Program)(rd:Nat->af IR)(T T':TypeId)(x:af AV)(K:AV->af α):af α:=match P.underlying T,P.underlying T' with
 |some (.int _),Q (.int k')=>match x with
  |some (.lit (.int k n))=>match P.underlying T with
   |some (.int k0)=>if k0=k then K (.n k' (k'.wrap n))else J
   |_=>J
  |_=>J
 |some (.slice e),Q .string=>match P.underlying e with
  |some (.int .u8)=>match x with
   |some (.sl t l)=>(L.afv t l).bind λns=>K (.s (strOfNums ns))
   |some (.own id)=>match rd id with
    |some (.row t l)=>(L.afv t l).bind λns=>K (.s (strOfNums ns))
    |_=>J
   |_=>J
  |_=>J
 |_,_=>J
def aeB{T T':TypeId}(hs:gC ev rd nx E R)(ho:o.op= .convert T T' x){K:AV->af α}(h:KY P rd T T' (ev x) K=Q r):∃d,K d=Q r/\Pu P o E R nx d:=by
 unfold KY at h;split at h
 ·rename_i k0 k' hT hT';split at h
  case h_2=>cases h
  rename_i k n hx;have ex:=λρ=>hs.eF hx ρ;simp only[bF]at ex;split at h
  case h_2=>cases h
  rename_i k1 hk1;split at h
  case isFalse=>cases h
  rename_i hk;subst hk;exact⟨_,h, .lit λρ=> .conv hk1 hT' ho (ex ρ)⟩
 ·rename_i e hT hT';split at h
  case h_2=>cases h
  rename_i he;split at h
  ·rename_i t l hx;obtain⟨ns,hn,h⟩:=zn.1 h;exact⟨_,h, .lit λρ=> .b2s ho (.inr (.inl (by have ex:=hs.eF hx ρ;rw[fE]at ex;exact ex))) (L.qB t l ns hn).1 (L.qB t l ns hn).2 hT he hT'⟩
  ·rename_i id hx;split at h
   case h_2=>cases h
   rename_i t l hr;obtain⟨ns,hn,h⟩:=zn.1 h;refine⟨_,h, .lit λρ=> ?_⟩;have ex:=hs.eF hx ρ;rw[cD]at ex;obtain⟨i,hi⟩:=hs.row hr ρ;exact .b2s ho (.inr (.inr ⟨i,_,ex,hi⟩)) (L.qB t l ns hn).1 (L.qB t l ns hn).2 hT he hT'
  ·cases h
 ·cases h
def KV(i:Nat)(x:af AV)(K:AV->af α):af α:=match x with
 |some (.gH cs)=>(cs[i]?).bind K
 |_=>J
def adq{i:Nat}(hs:gC ev rd nx E R)(ho:o.op= .extract x i){K:AV->af α}(h:KV i (ev x) K=Q r):∃d,K d=Q r/\Pu P o E R nx d:=by
 unfold KV at h;split at h
 ·rename_i cs hx;obtain⟨d,hd,h⟩:=zn.1 h;exact⟨d,h,rD (hs.nQ hx).w8 hd,λρ=>by have ex:=hs.eF hx ρ;rw[iq]at ex;exact .extract ho ex (by rw[zN,hd];rfl)⟩
 ·cases h
def LH(ev:Operand->af AV)(f:Go.Fn)(fs cs:aa Operand)(K:AV->af α):af α:=match fs with
 |[]=>(IW ev cs).bind λas0=>K (.fn f as0)
 |_=>J
def ad6{f:Go.Fn}{fs cs:Array Operand}(hs:gC ev rd nx E R)(ho:o.op= .makeFunc f fs cs){K:AV->af α}(h:LH ev f fs.toList cs.toList K=Q r):∃d,K d=Q r/\Pu P o E R nx d:=by
 unfold LH at h;split at h
 ·rename_i h0;obtain⟨as0,ha,h⟩:=zn.1 h;refine⟨_,h, .fn _ _ (Fl hs ha),λρ=> ?_⟩;rw[oI];exact .func ho (by rw[<-Array.toList_eq_nil_iff];exact h0) (DY hs ρ ha)
 ·cases h
def bL(s:ByteArray)(i:Nat):Int:=((s.data[i]!).toNat:Int)
def Yp.ajI{T:TypeId}{E:Env}{σ:aa bH}{s:ByteArray}{k:IntKind}{m:Int}(ho:o.op= .index T x y)(hx:E.ev x=Q (.s s))(hy:E.ev y=Q (.n k m))(hT:P.underlying T=Q .string)(hm:0<=m/\m<(s.size:Int)):Yp P E σ o (.n .u8 (bL s m.toNat)):=λA w ρ _ hρ=>by
 refine⟨_, .lit _,λw' _=> ?_⟩;have hx':=(hρ _ _ hx).bI;have hy':=(hρ _ _ hy).bI;have h:=run_index_string (P:=P) w' T s k m hT;rw[dif_pos hm]at h;have e:bL s m.toNat=((s[m.toNat]'(by omega)).toNat:Int):=by
  unfold bL;have hlt:m.toNat<s.data.size:=by have:s.data.size=s.size:=rfl;omega
  rw[getElem!_pos s.data m.toNat hlt];rfl
 rw[<-e]at h;simp[execOp,ho,hx',hy',h]
def Mb(P:Program)(T:TypeId)(x y:af AV)(K:AV->af α):af α:=match P.underlying T with
 |some (.array n e)=>match CL P e&&uy P e 1 with
  |true=>match x,y with
   |some (.agg cs),Q (.lit (.int _ m))=>if 0<=m/\m<(n:Int)then(cs[m.toNat]?).bind K else J
   |_,_=>J
  |false=>J
 |some .string=>match x,y with
  |some (.lit (.string s)),Q (.lit (.int _ m))=>if 0<=m/\m<(s.size:Int)then K (.n .u8 (bL s m.toNat))else J
  |_,_=>J
 |_=>J
def ZB{T:TypeId}(hs:gC ev rd nx E R)(ho:o.op= .index T x y){K:AV->af α}(h:Mb P T (ev x) (ev y) K=Q r):∃d,K d=Q r/\Pu P o E R nx d:=by
 unfold Mb at h;split at h
 case h_3=>cases h
 case h_2=>
  rename_i hT;split at h
  case h_2=>cases h
  rename_i s k m hx hy;split at h
  case isFalse=>cases h
  rename_i hm;have ex:=λρ=>hs.eF hx ρ;have ey:=λρ=>hs.eF hy ρ;simp only[bF]at ex ey;exact⟨_,h, .lit λρ=> .ajI ho (ex ρ) (ey ρ) hT hm⟩
 rename_i n e hT;split at h
 case h_2=>cases h
 rename_i he;simp only[zj]at he;split at h
 case h_2=>cases h
 rename_i cs k m hx hy;split at h
 case isFalse=>cases h
 rename_i hm;obtain⟨d,hd,h⟩:=zn.1 h;refine⟨d,h,rD (hs.nQ hx).kj hd,λρ=> ?_⟩;have ex:=hs.eF hx ρ;have ey:=hs.eF hy ρ;rw[dS]at ex;rw[bF]at ey;exact .ak6 ho ex ey hT (nC he.1) (kQ he.2) hm (by rw[zN,hd];rfl)
def KO(P:Program)(T:TypeId)(x:af AV)(lo hi:af (af AV))(K:AV->af α):af α:=match P.underlying T with
 |some (.slice e)=>match x with
  |some (.sl t l)=>match uy P e (U.sz t)with
   |true=>match lo,hi with
    |some (Q (.lit (.int _ a))),Q (Q (.lit (.int _ b)))=>if 0<=a/\a<=b/\b<=(yz l:Int)then K (.sl t ((l.take b.toNat).drop a.toNat))else J
    |none,Q (Q (.lit (.int _ b)))=>if 0<=b/\b<=(yz l:Int)then K (.sl t (l.take b.toNat))else J
    |some (Q (.lit (.int _ a))),J=>if 0<=a/\a<=(yz l:Int)then K (.sl t (l.drop a.toNat))else J
    |_,_=>J
   |false=>J
  |some (.lit (.slice J 0 0))=>match P.info? e with
   |some _=>match lo,hi with
    |some (Q (.lit (.int _ 0))),J=>K (.lit (.slice J 0 0))
    |_,_=>J
   |none=>J
  |_=>J
 |_=>J
def Yp.TG{P:Program}{E:Env}{σ:aa bH}{o:Oper}{T e:TypeId}{x y:Operand}{k:IntKind}{j:TypeInfo}(ho:o.op= .slice T x (Q y) J J)(hx:E.ev x=Q (.lit (.slice J 0 0)))(hy:E.ev y=Q (.lit (.int k 0)))(hT:P.underlying T=Q (.slice e))(hj:P.info? e=Q j):Yp P E σ o (.lit (.slice J 0 0)):=Yp.lits λρ hρ w=>by
 simp[execOp,ho,hρ _ _ hx,hρ _ _ hy,Instr.sliceAt,Instr.slice,Instr.sliceBounds,Instr.sliceBound,run_underlying hT,sizeOf,typeInfo,hj,asIntOf]
def acN{T:TypeId}{lo hi:af Operand}(hs:gC ev rd nx E R)(ho:o.op= .slice T x lo hi J){K:AV->af α}(h:KO P T (ev x) (lo.map ev) (hi.map ev) K=Q r):∃d,K d=Q r/\Pu P o E R nx d:=by
 unfold KO at h;split at h
 case h_2=>cases h
 rename_i e hT;split at h
 case h_3=>cases h
 case h_2=>
  rename_i hx;split at h
  case h_2=>cases h
  rename_i j hj;split at h
  case h_2=>cases h
  rename_i k hlo hhi;cases lo with
  |none=>cases hlo
  |some lo=>
   cases hi with
   |some hi=>cases hhi
   |none=>
    have ex:=λρ=>hs.eF hx ρ;have e1:=λρ=>hs.eF (zG.inj hlo) ρ;simp only[bF]at ex e1;exact⟨_,h, .lit _,λρ=>by rw[bF];exact .TG ho (ex ρ) (e1 ρ) hT hj⟩
 rename_i t l hx;split at h
 case h_2=>cases h
 rename_i hsz;have hsz:=kQ hsz;have ex:=λρ=>hs.eF hx ρ;simp only[fE]at ex;split at h
 ·rename_i k a k' b hlo hhi;split at h
  case isFalse=>cases h
  rename_i hc;cases lo with
  |none=>cases hlo
  |some lo=>
   cases hi with
   |none=>cases hhi
   |some hi=>
    have e1:=λρ=>hs.eF (zG.inj hlo) ρ;have e2:=λρ=>hs.eF (zG.inj hhi) ρ;simp only[bF]at e1 e2;exact⟨_,h, .sl _ _,λρ=>by rw[fE];exact .apY ho (ex ρ) (e1 ρ) (e2 ρ) hT hsz hc⟩
 ·rename_i k' b hlo hhi;split at h
  case isFalse=>cases h
  rename_i hc;cases lo with
  |some lo=>cases hlo
  |none=>
   cases hi with
   |none=>cases hhi
   |some hi=>
    have e2:=λρ=>hs.eF (zG.inj hhi) ρ;simp only[bF]at e2;exact⟨_,h, .sl _ _,λρ=>by rw[fE];exact .ZV ho (ex ρ) (e2 ρ) hT hsz hc⟩
 ·rename_i k a hlo hhi;split at h
  case isFalse=>cases h
  rename_i hc;cases lo with
  |none=>cases hlo
  |some lo=>
   cases hi with
   |some hi=>cases hhi
   |none=>
    have e1:=λρ=>hs.eF (zG.inj hlo) ρ;simp only[bF]at e1;exact⟨_,h, .sl _ _,λρ=>by rw[fE];exact .adK ho (ex ρ) (e1 ρ) hT hsz hc⟩
 ·cases h
def KW(P:Program)(rd:Nat->af IR)(T:TypeId)(x:af AV)(K:AV->af α):af α:=match P.underlying T with
 |some (.slice _)=>match x with
  |some (.sl _ l)=>K (.i (yz l:Int))
  |some (.own id)=>match rd id with
   |some (.row _ l)=>K (.i (yz l:Int))
   |_=>J
  |some (.lit (.slice J 0 0))=>K (.i 0)
  |_=>J
 |some .string=>match x with
  |some (.lit (.string s))=>K (.i (s.size:Int))
  |_=>J
 |_=>J
def adX{T:TypeId}(hs:gC ev rd nx E R)(ho:o.op= .call {callee:= .builtin .len,args:=#[x],argTypes:=#[T]}){K:AV->af α}(h:KW P rd T (ev x) K=Q r):∃d,K d=Q r/\Pu P o E R nx d:=by
 unfold KW at h;split at h
 ·rename_i e hT;split at h
  ·rename_i t l hx;exact⟨_,h, .lit λρ=> .aur ho (by have ex:=hs.eF hx ρ;rw[fE]at ex;exact ex) hT⟩
  ·rename_i id hx;split at h
   case h_2=>cases h
   rename_i t l hr;refine⟨_,h, .lit λρ=> ?_⟩;have ex:=hs.eF hx ρ;rw[cD]at ex;obtain⟨i,hi⟩:=hs.row hr ρ;exact .am0 i ho ex hi hT
  ·rename_i hx;exact⟨_,h, .lit λρ=> .akq ho (by have ex:=hs.eF hx ρ;rw[bF]at ex;exact ex) hT⟩
  ·cases h
 ·rename_i hT;split at h
  ·rename_i s hx;exact⟨_,h, .lit λρ=> .anE ho (by have ex:=hs.eF hx ρ;rw[bF]at ex;exact ex) hT⟩
  ·cases h
 ·cases h
end
end Go.Iv
end
noncomputable section
namespace Go.Iv
variable [U:tQ]
open Go Go.RowKit
def B0{zs:aa Value}{sz:Nat}(hsz:yz zs=sz)(nn:Nat):(Builtin.zeroCells zs.toArray nn).toList=(zw nn zs).flatten:=by
 apply List.ext_getElem?;intro j;have hfl:yz (zw nn zs).flatten=nn*sz:=by simp[hsz]
 have hq:∀(q:Nat) (j:Nat),j<q*sz->(zw q zs).flatten[j]? =zs[j%sz]? :=by
  intro q;induction q with
  |zero=>intro j hj;simp at hj
  |succ q ih=>
   intro j hj;rw[yE,wk,yB];split
   ·rename_i h;rw[hsz]at h;rw[wm h]
   ·rename_i h;rw[hsz]at h;rw[hsz,ih _ (by rw[yD]at hj;omega),Nat.mod_eq_sub_mod (by omega:sz<=j)]
 by_cases hj:j<nn*sz
 ·rw[hq nn j hj];have h0:0<sz:=by
   rcases wj sz with h|h
   ·rw[h]at hj;omega
   ·exact h
  have hlt:j%sz<yz zs:=by rw[hsz];exact Nat.mod_lt _ h0
  rw[zm hlt];simp[Builtin.zeroCells,hsz,hj,zm hlt]
 ·rw[xw (l:=(zw nn zs).flatten) (by rw[hfl];omega),xw];simp[Builtin.zeroCells,hsz];omega
def uz{P:Program}{w:World}{T tn ty e:TypeId}{kn:IntKind}{i:TypeInfo}{zz v:Value}{sz by' nn mm:Nat}{us:aa Value}(ht:P.underlying T=Q (.slice e))(htn:P.underlying tn=Q (.int kn))(hi:P.info? e=Q i)(hz:i.zero=Q zz)(hs:i.size=sz)(hby:i.bytes=by')(hzs:zz.cells.size=sz)(hpos:0<sz)
  (hrow:fM w v e sz nn us) (h1:∀u∈(Builtin.zeroCells zz.cells mm).toList,u.oneCell'=O) (h63:nn+mm<=maxLen) (hb:(nn+mm)*by'<=140737488355328):
  ∃v' w',(Builtin.append_ #[T,tn] ty #[v, .int .i64 mm]).run P w= .ok v' w'/\fM w' v' e sz (nn+mm) (us++(Builtin.zeroCells zz.cells mm).toList)/\Kp (fD v).toList w w'/\(fD v'=fD v\/fD v'=Q w.heap.size):=by
 subst hs hby
 have h63':((nn+mm:Nat):Int)<=9223372036854775807:=by unfold maxLen at h63;omega
 have hw:IntKind.i64.wrap (mm:Int)=mm:=by rw[IntKind.wrap_i64];omega
 have hneg:¬((mm:Int)<0):=by omega
 have hmb:mm*i.bytes<=140737488355328:=zY (yP _ (by omega)) hb;have h48i:¬(281474976710656<(mm:Int)*(i.bytes:Int)):=by rw[<-Int.natCast_mul];omega
 have hzl:yz (Builtin.zeroCells zz.cells mm).toList=mm*i.size:=by rw[yf,size_zeroCells,hzs]
 by_cases hm:mm=0
 ·subst hm;obtain⟨q,cap,rfl,hcap⟩:=hrow.len;have hrun:(Builtin.append_ #[T,tn] ty #[.slice q nn cap, .int .i64 (0:Nat)]).run P w= .ok (.slice q nn cap) w:=by
   cases q<;>simp[Builtin.append_,run_underlying ht,run_underlying htn,sizeOf,typeInfo,hi,asInt,asIntOf,hw,hcap,storeCells,IntKind.wrap_i64]
  exact⟨_,w,hrun,by simpa [Builtin.zeroCells]using hrow,Kp.refl _ _, .inl rfl⟩
 ·have hfit:∀old,Builtin.nextslicecap (nn+mm) old*i.bytes<=281474976710656\/¬old<nn+mm:=λold=>by
   by_cases h:old<nn+mm
   ·exact .inl (growslice_fits (by omega) hb)
   ·exact .inr h
  have grown:∀(olds:aa Value) (old:Nat),yz olds=nn*i.size->old<nn+mm->us=olds->
    fM (w.drew.alloc (.cells (olds.toArray++Builtin.zeroCells zz.cells mm++Builtin.zeroCells zz.cells (grownCap w (nn+mm) old e-(nn+mm))) e)) (.slice (Q ⟨w.heap.size,0,J⟩) (nn+mm) (grownCap w (nn+mm) old e)) e i.size (nn+mm) (us++(Builtin.zeroCells zz.cells mm).toList):=by
   intro olds old hol hlt hus;subst hus;have hge:=grownCap_ge w (nn+mm) old e;have hcm:=grownCap_le_maxLen w (nn+mm) old e h63;obtain⟨ck,hck⟩:∃ck,grownCap w (nn+mm) old e=ck+1:=⟨grownCap w (nn+mm) old e-1,by omega⟩;refine⟨by rw[zF,hol,hzl,yq], .inr ⟨w.heap.size,ck,_,by rw[hck],heap_alloc_new w.drew _,by omega,by omega,?_,?_⟩⟩
   ·rw[<-hck];simp only[Array.size_append,yK,size_zeroCells,hzs,hol,<-yq]
    congr 1
    omega
   ·simp only[Array.toList_append];rw[show (nn+mm)*i.size=yz (us++(Builtin.zeroCells zz.cells mm).toList) from by rw[zF,hol,hzl,yq]];exact List.take_left
  have grow:∀(base:af Addr) (old:Nat),(Builtin.firstCells i.size nn (.slice base nn old)).run P w.drew= .ok us.toArray w.drew->yz us=nn*i.size->old<nn+mm->
    ∃v' w',(Builtin.append_ #[T,tn] ty #[.slice base nn old, .int .i64 mm]).run P w= .ok v' w'/\fM w' v' e i.size (nn+mm) (us++(Builtin.zeroCells zz.cells mm).toList)/\Kp [] w w'/\fD v'=Q w.heap.size:=λbase old hf hul hlt=>by
   have hr:=Lib.run_append_grow_zeros (P:=P) w T tn ty e i zz .i64 kn ht htn hi hz base nn old us hf mm (by omega) hpos hlt h63' (by omega) ((hfit old).resolve_right (by omega));refine⟨_,_,hr,grown us old hul hlt rfl,⟨rfl,rfl,rfl,by simp,λk hk _=>heap_alloc_old w.drew _ hk⟩,?_⟩;have hge:=grownCap_ge w (nn+mm) old e;obtain⟨ck,hck⟩:∃ck,grownCap w (nn+mm) old e=ck+1:=⟨grownCap w (nn+mm) old e-1,by omega⟩;rw[hck];rfl
  rcases hrow.2 with ⟨q,rfl,rfl⟩|⟨g,cap,cur,rfl,hg,hnc,hcm,hcs,htake⟩
  ·have hu:us=[]:=xx (by simpa using hrow.1);subst hu;obtain⟨v',w',r1,r2,r3,r4⟩:=grow q 0 (by cases q<;>simp[Builtin.firstCells,loadCells,loadCellsFrom]) (by simp) (by omega);exact⟨v',w',r1,r2,⟨r3.os,r3.tape,r3.output,r3.size,λk hk _=>r3.block k hk (by simp)⟩, .inr r4⟩
  ·by_cases hroom:nn+mm<=cap+1
   ·have hcl:nn*i.size+yz (Builtin.zeroCells zz.cells mm).toList<=cur.size:=by rw[hzl,hcs,<-yq];exact yP _ hroom
    have hst:=run_storeCells_at P g (nn*i.size) e (Builtin.zeroCells zz.cells mm).toList 0 cur w hg (by simpa using hcl) h1;simp only[yO]at hst;have hns:¬(mm*i.size=0):=Nat.mul_ne_zero hm (by omega);have hr:(Builtin.append_ #[T,tn] ty #[.slice (Q ⟨g,0,J⟩) nn (cap+1), .int .i64 mm]).run P w= .ok (.slice (Q ⟨g,0,J⟩) (nn+mm) (cap+1)) (w.setRow g (cur.toList.take (nn*i.size)++(Builtin.zeroCells zz.cells mm).toList++cur.toList.drop (nn*i.size+yz (Builtin.zeroCells zz.cells mm).toList)).toArray):=by
     simp[Builtin.append_,run_underlying ht,run_underlying htn,sizeOf,typeInfo,zeroValue,hi,hz,asInt,asIntOf,hw,hneg,hns,h48i,hroom,Addr.add_lit,hst]
    refine⟨_,_,hr,⟨by rw[zF,hrow.1,hzl,yq], .inr ⟨g,cap,_,rfl,setRow_heap w g cur _ e _ hg,hroom,hcm,?_,?_⟩⟩,kI w g _, .inl rfl⟩
    ·simp only[yK,zF,zM,yc,yf]at hcl ⊢;omega
    ·rw[htake,show (nn+mm)*i.size=yz (us++(Builtin.zeroCells zz.cells mm).toList) from by rw[zF,hrow.1,hzl,yq]];exact List.take_left
   ·have holds:∀j v,us[j]? =Q v->w.cell? ((⟨g,0,J⟩:Addr).add j)=Q v:=λj v hj=>by
     rw[mR,ya];exact hrow.cells rfl j v hj
    obtain⟨v',w',r1,r2,r3,r4⟩:=grow (Q ⟨g,0,J⟩) (cap+1) (run_firstCells_some (P:=P) w.drew i.size nn ⟨g,0,J⟩ nn (cap+1) us hrow.1 (by simpa using holds)) hrow.1 (by omega);exact⟨v',w',r1,r2,⟨r3.os,r3.tape,r3.output,r3.size,λk hk _=>r3.block k hk (by simp)⟩, .inr r4⟩
def Am{A:Nat->Prop}{w:World}{q:Nat}{d:U.cA q}{zs:aa Value}(hd:∀A w,bn A w (U.cells q d) zs):∀n,bn A w ((zw n d).flatMap (U.cells q)) (zw n zs).flatten
 |0=>bn.nil
 |n+1=>by
  rw[yE,yE,xH,wk];exact(hd A w).app (Am hd n)
section
variable {P:Program} {C:Cx} {E:Env} {σ:aa bH} {o:Oper} {x y:Operand} {T tn e:TypeId} {v:Value}
def Yv.aCx{by':Nat}{kn:IntKind}{l:aa (U.cA e)}{zs:aa Value}{m:Int}(i:Nat)(d:U.cA e)(ho:o.op= .call {callee:= .builtin .append,args:=#[x,y],argTypes:=#[T,tn]})(hx:E.ev x=Q (.lit v))(hσ:σ[i]? =Q (.row v e l))(hy:E.ev y=Q (.i m))(hT:P.underlying T=Q (.slice e))(htn:P.underlying tn=Q (.int kn))(hs:(P.info? e).map (λi=>(i.size,i.bytes))=Q ((U.sz e),by'))(hz:gO P e=Q zs)(hzl:yz zs=(U.sz e))(hpos:0<(U.sz e))(hb:z8 by' 4096=O)
  (hd:∀A w,bn A w (U.cells e d) zs) (hone:zs.all Value.oneCell'=O) (hlen:0<=m/\yz (l++zw m.toNat d)<=1073741824):Yv P E σ o C (xG (fD v)) (λa σ'=>∃v',a= .lit v'/\σ'=σ.set i (.row v' e (l++zw m.toNat d))):=λw ρ hg hρ=>by
 obtain⟨it,hit,hz1⟩:=zn.1 hz;obtain⟨zv,hz2,hz3⟩:=zk.1 hz1;obtain⟨ie,hie,hse⟩:=zk.1 hs;have hee:it=ie:=by rw[hit]at hie;exact zG.inj hie
 subst hee;simp only[Prod.mk.injEq]at hse;obtain⟨s1,s2⟩:=hse;have hby:by'<=4096:=by simpa using hb
 obtain⟨us,g1,g2,g3⟩:=mG (hg.res _ (List.mem_of_getElem? hσ));have hx':=(hρ _ _ hx).bI;have hy':=(hρ _ _ hy).bI;obtain⟨mm,rfl⟩:∃mm:Nat,m=mm:=⟨m.toNat,by omega⟩;rw[zi]at hlen ⊢;obtain⟨_,hlen⟩:=hlen;rw[zF,xU]at hlen;have hbytes:(yz l+mm)*by'<=140737488355328:=by
  have:(yz l+mm)*by'<=1073741824*4096:=Nat.mul_le_mul hlen hby
  omega
 have hzc:zv.cells=zs.toArray:=by rw[<-hz3]
 have hzt:(Builtin.zeroCells zv.cells mm).toList=(zw mm zs).flatten:=by rw[hzc];exact B0 hzl mm
 obtain⟨v',w',r1,r2,r3,r4⟩:=uz (P:=P) (T:=T) (tn:=tn) (ty:=o.type) hT htn hit hz2 s1 s2 (by rw[hzc,yK,hzl]) hpos g1 (mm:=mm) (by
  rw[hzt];intro u hu;obtain⟨q,hq,hu⟩:=List.mem_flatten.1 hu;rw[List.eq_of_mem_replicate hq]at hu;exact zx.1 hone u hu) (by unfold maxLen;omega) hbytes
 rw[hzt]at r2;refine⟨v',w',_,_,⟨v',rfl,rfl⟩,oA (r:= .row v e l) hg hσ r3 r4 (sR (by rw[zF,xU];exact r2) (Jk g2 (λj hj=> ?_)) ?_),?_, .lit _⟩
 ·rw[xU]at hj;rw[getElem!_pos _ j (by simpa using hj),List.getElem_replicate,<-(hd (λ_=>True) w).1,hzl]
 ·rw[List.flatMap_append];refine bn.app (g3.mono λb hb hA=>⟨⟨hA.1,λhx=> ?_⟩,r3.block b hb (λhx=>hA.2 (bw.2 ⟨_,List.mem_of_getElem? hσ,by simpa [bH.blk]using hx⟩))⟩) (Am hd mm);obtain⟨s,hs1,hs2⟩:=bw.1 hx;rcases List.mem_or_eq_of_mem_set hs1 with h|h
  ·exact hA.2 (bw.2 ⟨s,h,hs2⟩)
  ·rw[h]at hs2;rcases r4 with r4|r4
   ·exact hA.2 (bw.2 ⟨_,List.mem_of_getElem? hσ,by rw[<-hs2];exact r4.symm⟩)
   ·have hs2':fD v'=Q b:=hs2;rw[r4]at hs2';cases hs2';omega
 ·simp[execOp,ho,resolve,invoke,builtin,hx',hy',r1]
end
end Go.Iv
end
noncomputable section
namespace Go.Iv
open Go Go.RowKit
variable [U:tQ] {P:Program} {C:Cx} {E:Env} {σ:aa bH} {o:Oper} {T T':TypeId} {x y:Operand} {v:Value}
def Yv.arf{q:Nat}{l l2:aa (U.cA q)}(i:Nat)(ho:o.op= .call {callee:= .builtin .copy,args:=#[x,y],argTypes:=#[T,T']})(hx:E.ev x=Q (.lit v))(hσ:σ[i]? =Q (.row v q l))(hs:Src σ E y q l2)
  (hT:P.underlying T=Q (.slice q)) (hz:(P.info? q).map (·.size)=Q 1) (hsz:U.sz q=1) (hlen:yz l2=yz l) (h0:0<yz l) (hone:∀a,(U.cells q a).all gF=O):
  Yv P E σ o C (xG (fD v)) (λa σ'=>a= .i (yz l:Int)/\σ'=σ.set i (.row v q l2)):=λw ρ hg hρ=>by
 obtain⟨j,hj,hj'⟩:=zk.1 hz;obtain⟨us,h1,h2,h3⟩:=hg.res _ (List.mem_of_getElem? hσ);obtain⟨g,cap,cur,hv,hgb,hB,q1,q2,q3,q4⟩:=h1.at h0;obtain⟨p,cap2,news,r1,r2,r3,r4,r5,r6⟩:=Src.spec hs hg.hd hρ;have hx':=(hρ _ _ hx).bI;rcases r2 with r2|⟨a,rfl,r2⟩
 ·omega
 rw[hsz,yF]at r3 q3;have hone':(l2.flatMap (U.cells q)).all gF=O:=zx.2 λc hc=>by
  obtain⟨z,_,hz⟩:=xV.1 hc;exact zx.1 (hone z) c hz
 have hl:=run_loadCells_list (P:=P) w a news r2;have hst:=run_storeCells_at P g 0 q news 0 cur w hB (by rw[r3,q3];omega) (r5.one hone');simp only[yO,ya,List.take_zero,yR]at hst;have hpart:∀b,al C (σ.set i (.row v q l2)) b↔al C σ b:=λb=>by
  have hbk:=qJ (r':=bH.row v q l2) hσ rfl;unfold al;rw[hbk]
 have hal:∀b,b<w.heap.size->al C σ b->al C (σ.set i (.row v q l2)) b/\(w.setRow g (news++cur.toList.drop (yz news)).toArray).heap[b]? =w.heap[b]? :=λb hb hA=>
  ⟨(hpart b).2 hA,setRow_other w g b _ (λe=>hA.2 (bw.2 ⟨_,List.mem_of_getElem? hσ,by rw[e];exact hgb⟩))⟩
 refine⟨.int .i64 (yz l),w.setRow g (news++cur.toList.drop (yz news)).toArray,_,_,⟨rfl,rfl⟩,oA (r:= .row v q l) hg hσ (by show Kp (xG (fD v)) _ _;rw[hgb];exact kI w g _) (.inl rfl) (sR (us:=news) ⟨by rw[hsz,yF,r3], .inr ⟨g,cap,_,by rw[hlen];exact hv,setRow_heap w g cur _ q (0,0) hB,by rw[hlen];exact q1,q2,?_,?_⟩⟩ r4 (r5.mono hal)),?_, .lit _⟩
 ·have hc:yz cur.toList=cap+1:=by rw[yf];exact q3
  simp only[yK,zF,yc,hc,hsz,yF,r3,hlen];omega
 ·rw[hsz,yF,<-r3];simp
 ·have hmin:min (yz l2) l.length=yz news:=by rw[r3];omega
  have hmin':Nat.min (yz l2) l.length=yz news:=hmin;have hnl:yz news=yz l:=by rw[r3,hlen]
  rw[<-hnl];simp[execOp,ho,resolve,invoke,builtin,hx',hv,r1,Builtin.copy_,run_underlying hT,Builtin.lenOf,Builtin.firstCells,sizeOf,typeInfo,hj,hj',hmin',hl,hst,goInt]
end Go.Iv
end
noncomputable section
namespace Go.Iv
variable [U:tQ] [L:sG]
open Go Go.RowKit
inductive ei:Type
 |val (d:AV)
 |new (d:AV) (r:IR)
 |set (id:Nat) (r:IR)
 |grow (id:Nat) (r:IR)
 |all (d:AV) (R:aM) (nx:Nat)
def ei.R(R:aM)(nx:Nat):ei->aM
 | .val _=>R
 | .new _ r=>(nx,r)::R
 | .set id r=>mY id r R
 | .grow id r=>(nx,r)::iK id R
 | .all _ R' _=>R'
def ei.nx(nx:Nat):ei->Nat
 | .val _=>nx
 | .new _ _=>nx+1
 | .set _ _=>nx
 | .grow _ _=>nx+1
 | .all _ _ m=>m
def ei.vl(nx:Nat):ei->af AV
 | .val d=>Q d
 | .new d _=>Q d
 | .set _ _=>J
 | .grow _ _=>Q (.own nx)
 | .all d _ _=>Q d
section
variable {P:Program} {C:Cx} {E:Env} {σ σ':aa bH} {o:Oper} {N:af AV->aa bH->Prop} {X:aa Nat} {N0:AV->aa bH->Prop} {av:AV}
def Ye(P:Program)(E:Env)(σ:aa bH)(o:Oper)(C:Cx)(N:af AV->aa bH->Prop):Prop:=∀(w:World) (j:Operand->Value),Good C σ w->JT (al C σ) w E j->
 (∃v w' av σ',N (Q av) σ'/\Tr C (aY σ) σ w σ' w'/\(execOp j o).run P w= .ok (.value v) w'/\Rel (al C σ') w' av v)\/
 (∃w' σ',N J σ'/\Tr C (aY σ) σ w σ' w'/\(execOp j o).run P w= .ok .skip w')\/
 (∃f args,(execOp j o).run P w= .ok (.enter f args) w/\Calls P f args w λe w'=>∃v av σ',e= .returned v/\N (Q av) σ'/\Tr C (aY σ) σ w σ' w'/\Rel (al C σ') w' av v)
def Tr.wide{w w':World}(h:Tr C X σ w σ' w')(hX:∀b∈X,b∈aY σ):Tr C (aY σ) σ w σ' w':=
 ⟨h.good,⟨h.kp.os,h.kp.tape,h.kp.output,h.kp.size,λk hk hn=>h.kp.block k hk λhx=>hn (hX k hx)⟩,λb hb hA=>⟨(h.al b hb hA).1,hA.2⟩⟩
def Tr.none{w:World}(h:Good C σ w):Tr C (aY σ) σ w σ w:=⟨h,Kp.refl _ _,λ_ _ hA=>⟨hA,hA.2⟩⟩
def Ye.ofP(h:Yp P E σ o av)(hN:N (Q av) σ):Ye P E σ o C N:=λw j hg hρ=>by
 obtain⟨v,h1,h2⟩:=h _ w j hg.hd hρ;exact .inl ⟨v,w,av,σ,hN, .none hg,h2 w (λ_ _ _=>rfl),h1⟩
def Ye.Ws(h:Yv P E σ o C X N0)(hX:∀b∈X,b∈aY σ)(hN:∀a σ',N0 a σ'->N (Q a) σ'):Ye P E σ o C N:=λw j hg hρ=>by
 obtain⟨v,w',av,σ',h1,h2,h3,h4⟩:=h w j hg hρ;exact .inl ⟨v,w',av,σ',hN _ _ h1,h2.wide hX,h3,h4⟩
def Ye.ofU(h:Yu P E σ o C X σ')(hX:∀b∈X,b∈aY σ)(hN:N J σ'):Ye P E σ o C N:=λw j hg hρ=>by
 obtain⟨w',h2,h3⟩:=h w j hg hρ;exact .inr (.inl ⟨w',σ',hN,h2.wide hX,h3⟩)
def Ye.ofC(h:Yc P E σ o C X N0)(hX:∀b∈X,b∈aY σ)(hN:∀a σ',N0 a σ'->N (Q a) σ'):Ye P E σ o C N:=λw j hg hρ=>by
 obtain⟨f,args,h1,h2⟩:=h w j hg hρ;exact .inr (.inr ⟨f,args,h1,h2.mono λe w' ⟨v,av,σ',q1,q2,q3,q4⟩=>⟨v,av,σ',q1,hN _ _ q2,q3.wide hX,q4⟩⟩)
end
def Nx{α:Type}(R:aM)(nx:Nat)(K:ei->af α)(r:α)(ρ:Gh):af AV->aa bH->Prop:=λa σ'=>∃eff:ei,K eff=Q r/\nx<=eff.nx nx/\aM.ct (eff.nx nx) (eff.R R nx)/\(∀d,eff.vl nx=Q d->ct (eff.nx nx) d)/\
 ∃ρ',l6 nx ρ ρ'/\a=(eff.vl nx).map (bM.sub ρ')/\List.Perm σ' (aM.res ρ' (eff.R R nx))
def Kt{α:Type}(P:Program)(o:Oper)(E:Env)(R:aM)(nx:Nat)(K:ei->af α)(r:α):Prop:=∀ρ C,Ye P (E.sub ρ) (aM.res ρ R) o C (Nx R nx K r ρ)
def Gh.eC(ρ:Gh)(n:Nat)(v:Value):Gh:=⟨λi=>if i=n then v else ρ.v i,ρ.b⟩
def Gh.fh(ρ:Gh)(n b:Nat):Gh:=⟨ρ.v,λi=>if i=n then b else ρ.b i⟩
def l6.eC(ρ:Gh)(n:Nat)(v:Value):l6 n ρ (ρ.eC n v):=λi hi=>⟨by simp[Gh.eC,Nat.ne_of_lt hi],rfl⟩
def l6.fh(ρ:Gh)(n b:Nat):l6 n ρ (ρ.fh n b):=λi hi=>⟨rfl,by simp[Gh.fh,Nat.ne_of_lt hi]⟩
section
variable {α:Type} {r:α} {P:Program} {o:Oper} {E:Env} {R:aM} {nx:Nat} {ev:Operand->af AV} {rd:Nat->af IR} {x y z:Operand} {d:AV} {K:ei->af α}
def Kt.pu(hs:gC ev rd nx E R)(h:∃d,K (.val d)=Q r/\Pu P o E R nx d):Kt P o E R nx K r:=λρ C=>by
 obtain⟨d,h1,h2,h3⟩:=h;exact .ofP (h3 ρ) ⟨.val d,h1,zA _,hs.lr,λd' hd=>by cases hd;exact h2,ρ, .refl _ _,rfl, .refl _⟩
def Ns(hs:gC ev rd nx E R){d:AV}{rr:IR}{ρ ρ':Gh}{σ':aa bH}{a:AV}(hK:K (.new d rr)=Q r)(hd:ct (nx+1) d)(hr:rr.ct (nx+1))(hρ:l6 nx ρ ρ')(ha:a=d.sub ρ')(hσ:σ'=rr.res ρ' nx::aM.res ρ R):Nx R nx K r ρ (Q a) σ':=by
 refine⟨.new d rr,hK,yd nx,λp hp=> ?_,λd' h=>by cases h;exact hd,ρ',hρ,by rw[ha];rfl,?_⟩
 ·rcases zu.1 hp with rfl|hp
  ·exact⟨z7 _,hr⟩
  ·exact(hs.lr.mono (yd nx)) p hp
 ·rw[hσ,hs.lr.res hρ];rfl
def Q5(P:Program)(nx:Nat)(T:TypeId)(K:ei->af α):af α:=((P.info? T).bind λi=>i.zero).bind λz=>K (.new (.ptr nx 0) (.box T (z.cells.toList.map .lit)))
def abW{T:TypeId}(hs:gC ev rd nx E R)(ho:o.op= .alloc T)(h:Q5 P nx T K=Q r):Kt P o E R nx K r:=λρ C=>by
 obtain⟨z,h1,h⟩:=zn.1 h;obtain⟨i,h2,h3⟩:=zn.1 h1;refine .Ws (.alloc (zs:=z.cells.toList) ho (by rw[h2];simp[h3])) (by simp) λa σ' ⟨b,ha,hσ⟩=> ?_;refine Ns hs (ρ':=ρ.fh nx b) h (.ptr _ _ (z7 _)) (λc hc=>Iy _ _ c hc) (.fh ρ nx b) ?_ ?_
 ·rw[ha,eO];simp[Gh.fh]
 ·rw[hσ];simp only[IR.res,Ca];simp[Gh.fh]
def Mm(rd:Nat->af IR)(nx:Nat)(T:TypeId)(x:af AV)(K:ei->af α):af α:=match x with
 |some d=>match As rd d with
  |true=>K (.new (.ptr nx 0) (.box T (cT d)))
  |false=>J
 |none=>J
def afB{T:TypeId}(hs:gC ev rd nx E R)(ho:o.op= .box T x)(h:Mm rd nx T (ev x) K=Q r):Kt P o E R nx K r:=λρ C=>by
 unfold Mm at h;split at h
 case h_2=>cases h
 rename_i d hx;split at h
 case h_2=>cases h
 rename_i hp;refine .Ws (.box ho (hs.eF hx ρ) (DK hs hp)) (by simp) λa σ' ⟨b,ha,hσ⟩=> ?_;have hl:=th (hs.nQ hx);refine Ns hs (ρ':=ρ.fh nx b) h (.ptr _ _ (z7 _)) (λc hc=>(hl c hc).mono (yd nx)) (.fh ρ nx b) ?_ ?_
 ·rw[ha,eO];simp[Gh.fh]
 ·rw[hσ,iR,ct.Vb hl (.fh ρ nx b)];simp[IR.res,Gh.fh]
def Fk:AV->Bool
 | .lit v=>v.oneCell'
 | .sl _ _=>O
 | .fn _ []=>O
 |_=>V
def lF:AV->Bool
 | .agg cs=>cs.all Fk
 |d=>Fk d
def vq{d:AV}(h:Fk d=O)(ρ:Gh):d.sub ρ=d:=by
 cases d with
 |fn f cs=>
  cases cs with
  |nil=>simp only[bM.sub,yU]
  |cons a l=>cases h
 |_=>first|(cases h;done)|simp only[bM.sub]
def GB{cs:aa AV}(h:cs.all Fk=O)(ρ:Gh):cs.map (bM.sub ρ)=cs:=by
 have:cs.map (bM.sub ρ)=cs.map id:=zR λc hc=>vq (zx.1 h c hc) ρ;simp_all
def iY{d:AV}(h:lF d=O)(ρ:Gh):d.sub ρ=d:=by
 by_cases ha:∃cs,d= .agg cs
 ·obtain⟨cs,rfl⟩:=ha;rw[dS,GB h]
 ·exact vq (by cases d<;>first|exact h|(exact gI ⟨_,rfl⟩ ha)) ρ
def Gw{d:AV}(h:Fk d=O):gF d=O:=by
 cases d<;>first|(cases h;done)|exact h|rfl
def Bl{d:AV}(h:lF d=O):pz d=O:=by
 by_cases ha:∃cs,d= .agg cs
 ·obtain⟨cs,rfl⟩:=ha;exact zx.2 λc hc=>Gw (zx.1 h c hc)
 ·have:=Gw (d:=d) (by cases d<;>first|exact h|(exact gI ⟨_,rfl⟩ ha));cases d<;>first|exact this|(exact gI ⟨_,rfl⟩ ha)
def MA(d:AV):af Bool:=match cT d with
 |[.lit (.bool b)]=>Q b
 |_=>J
def PX{d:AV}{b:Bool}(h:MA d=Q b):cT d=[.lit (.bool b)]:=by
 unfold MA at h;grind
def LN(P:Program)(rd:Nat->af IR)(T:TypeId)(x y:af AV)(K:ei->af α):af α:=match y with
  |some d=>match (P.info? T).map (·.size)with
    |some n=>match zh (cT d).length n&&As rd d with
      |true=>match x with
        |some (.ptr id off)=>match rd id with
          |some (.box T' cs)=>match z8 (off+n) (yz cs) with
            |true=>K (.set id (.box T' (cs.take off++cT d++cs.drop (off+n))))
            |false=>J
          |_=>J
        |some (.ra id t m off)=>match rd id with
          |some (.row t' l)=>match bif L.arr t'&&lF d then MA d else J with
           |some b=>if t=t'/\m<yz l/\off<U.sz t' then K (.set id (.row t' (l.set m (L.stB t' l[m]! off b))))else J
           |none=>match z8 (off+n) (U.sz t')&&lF d with
            |true=>if t=t'/\m<yz l then(L.parse t' ((U.cells t' l[m]!).take off++cT d++(U.cells t' l[m]!).drop (off+n))).bind λq=>K (.set id (.row t' (l.set m q)))else J
            |false=>J
          |_=>J
        |_=>J
      |false=>J
    |none=>J
  |none=>J
def aac{T:TypeId}(hs:gC ev rd nx E R)(ho:o.op= .store T x y)(h:LN P rd T (ev x) (ev y) K=Q r):Kt P o E R nx K r:=λρ C=>by
 unfold LN at h;split at h
 case h_2=>cases h
 rename_i d hy;split at h
 case h_2=>cases h
 rename_i n hn;split at h
 case h_2=>cases h
 rename_i hdn;simp only[zj]at hdn;obtain⟨hlen,hp⟩:=hdn;have hlen:=dX hlen;split at h
 ·rename_i id off hx;split at h
  case h_2=>cases h
  rename_i T' cs hr;split at h
  case h_2=>cases h
  rename_i hle;have hle:=yV hle;have ex:=hs.eF hx ρ;rw[eO]at ex;obtain⟨i,hi1,hi2,_⟩:=cU (hs.r _ _ hr);have hres:=eu (ρ:=ρ) hi1;have hl:∀c∈cs.take off++cT d++cs.drop (off+n),ct nx c:=rm (rm (mQ (hs.adh hr) _) (th (hs.nQ hy))) (kf (hs.adh hr) _);refine .ofU (.Mz (cs:=cs.map (bM.sub ρ)) i ho ex (hs.eF hy ρ) hres hn (DK hs hp) (by rw[iR,zI,hlen]) (by rw[zI];exact hle)) (λb hb=> ?_) ⟨_,h,zA _,jV (hs.r _ _ hr) hs.lr hl,λd' hd=>(by cases hd),ρ, .refl _ _,rfl,?_⟩
  ·rw[zC]at hb;exact bw.2 ⟨_,List.mem_of_getElem? hres,by rw[hb];rfl⟩
  ·show List.Perm _ (aM.res ρ (mY id _ R));rw[hi2,nO];simp only[IR.res,zK,xI,xJ,iR];rfl
 ·rename_i id t m off hx;split at h
  case h_2=>cases h
  rename_i t' l hr;split at h
  ·rename_i b hbb;cases har:L.arr t'&&lF d with
   |false=>rw[har]at hbb;cases hbb
   |true=>
    rw[har]at hbb;simp only[zj]at har;obtain⟨har,hap⟩:=har;have hab:=PX hbb;rw[hab]at hlen;have hn1:n=1:=by simpa using hlen.symm
    split at h
    case isFalse=>cases h
    rename_i hm;obtain⟨rfl,hm,hoff⟩:=hm;have ex:=hs.eF hx ρ;rw[gX]at ex;obtain⟨i,hi1,hi2,_⟩:=cU (hs.r _ _ hr);have hres:=eu (ρ:=ρ) hi1;have hds:=iY hap ρ;have hpl:pz (d.sub ρ)=O:=by rw[hds];exact Bl hap
    refine .ofU (.WT (of:=off) i (L.stB t l[m]! off b) ho ex (hs.eF hy ρ) hres hn hpl (by rw[hds,hab,hn1];rfl) rfl hm (by omega) (L.len _ _) (λA w us hr=> ?_)) (λb hb=> ?_) ⟨_,h,zA _,jV (hs.r _ _ hr) hs.lr trivial,λd' hd=>(by cases hd),ρ, .refl _ _,rfl,?_⟩
    ·rw[hds,hab,hn1]at hr;rw[L.acO t har _ off b hoff];exact hr
    ·obtain⟨g,hg⟩:∃g,fD (ρ.v id)=Q g:=by
      simp_all
     rw[hg]at hb;simp only[xu,zC]at hb;exact bw.2 ⟨_,List.mem_of_getElem? hres,by rw[hb];exact hg⟩
    ·show List.Perm _ (aM.res ρ (mY id _ R));rw[hi2,nO];rfl
  split at h
  case h_2=>cases h
  rename_i hle;simp only[zj]at hle;obtain⟨hle,hap⟩:=hle;have hle:=yV hle;split at h
  case isFalse=>cases h
  rename_i hm;obtain⟨rfl,hm⟩:=hm;obtain⟨q,hq,h⟩:=zn.1 h;have ex:=hs.eF hx ρ;rw[gX]at ex;obtain⟨i,hi1,hi2,_⟩:=cU (hs.r _ _ hr);have hres:=eu (ρ:=ρ) hi1;have hds:=iY hap ρ;have hpl:pz (d.sub ρ)=O:=by rw[hds];exact Bl hap
  refine .ofU (.WT (of:=off) i q ho ex (hs.eF hy ρ) hres hn hpl (by rw[iR,zI,hlen]) rfl hm hle (L.len _ _) (λA w us hr=> ?_)) (λb hb=> ?_) ⟨_,h,zA _,jV (hs.r _ _ hr) hs.lr trivial,λd' hd=>(by cases hd),ρ, .refl _ _,rfl,?_⟩
  ·refine L.ja _ _ _ hq A w us ?_;rw[hds]at hr;exact hr
  ·obtain⟨g,hg⟩:∃g,fD (ρ.v id)=Q g:=by
    simp_all
   rw[hg]at hb;simp only[xu,zC]at hb;exact bw.2 ⟨_,List.mem_of_getElem? hres,by rw[hb];exact hg⟩
  ·show List.Perm _ (aM.res ρ (mY id _ R));rw[hi2,nO];rfl
 ·cases h
def prs(t:Nat):Nat->aa AV->af (aa (U.cA t))
 |0,[]=>Q []
 |0,_=>J
 |n+1,cs=>(L.parse t (cs.take (U.sz t))).bind λx=>(prs t n (cs.drop (U.sz t))).map λl=>x::l
def TT{t:Nat}:∀{n:Nat} {cs:aa AV} {l:aa (U.cA t)},prs t n cs=Q l->yz cs=n*U.sz t->yz l=n/\∀A w us,bn A w cs us->bn A w (l.flatMap (U.cells t)) us
 |0,[],l,h,_=>by
  cases h;simp
 |0,_::_,l,h,_=>by cases h
 |n+1,cs,l,h,hl=>by
  obtain⟨x,h1,h⟩:=zn.1 h;obtain⟨l',h2,rfl⟩:=zk.1 h;rw[yD]at hl;obtain⟨h3,h4⟩:=TT h2 (by rw[yc];omega);refine⟨by simp[h3],λA w us hr=> ?_⟩;rw[xH,<-xF (U.sz t) us];exact(L.ja _ _ _ h1 A w _ (hr.take _)).app (h4 A w _ (hr.drop _))
def Mq(P:Program)(ev:Operand->af AV)(rd:Nat->af IR)(nx:Nat)(T:TypeId)(n:Nat)(ps:aa (Nat×Operand))(K:ei->af α):af α:=match P.underlying T with
 |some (.slice e)=>match uy P e (U.sz e)with
  |true=>match n with
   |0=>match ps with
    |[]=>K (.new (.own nx) (.row e []))
    |_=>J
   |n+1=>match RJ ev ps,gO P e with
    |some as0,Q zs=>match zh (yz zs) (U.sz e)&&zD 0 (U.sz e)&&z8 ((n+1)*U.sz e) 16777216 with
     |true=>(qD rd (λi=>Q (i*U.sz e,U.sz e)) ((zw (n+1) zs).flatten.map .lit) as0).bind λcs=>match cs.all Fk&&zh (yz cs) ((n+1)*U.sz e)with
      |true=>(prs e (n+1) cs).bind λl=>K (.new (.own nx) (.row e l))
      |false=>J
     |false=>J
    |_,_=>J
  |false=>J
 |_=>J
def DP(hs:gC ev rd nx E R){t:Nat}{l:aa (U.cA t)}{ρ:Gh}{σ':aa bH}{a:AV}(hK:K (.new (.own nx) (.row t l))=Q r)(h:∃v,a= .lit v/\σ'= .row v t l::aM.res ρ R):Nx R nx K r ρ (Q a) σ':=by
 obtain⟨v,ha,hσ⟩:=h;refine Ns hs (ρ':=ρ.eC nx v) hK (.own _ (z7 _)) trivial (.eC ρ nx v) ?_ ?_
 ·rw[ha,cD];simp[Gh.eC]
 ·rw[hσ];simp[IR.res,Gh.eC]
def aex{T:TypeId}{n:Nat}{ps:Array (Nat×Operand)}(hs:gC ev rd nx E R)(ho:o.op= .buildSlice T n ps)(h:Mq P ev rd nx T n ps.toList K=Q r):Kt P o E R nx K r:=λρ C=>by
 unfold Mq at h;split at h
 case h_2=>cases h
 rename_i e hT;split at h
 case h_2=>cases h
 rename_i hsz;have hsz:=kQ hsz;split at h
 ·split at h
  case h_2=>cases h
  rename_i h0;have h0:ps=#[]:=by rw[<-Array.toList_eq_nil_iff];exact h0
  subst h0;exact .Ws (.aBI ho hT hsz) (by simp) λa σ' hN=>DP hs h hN
 ·rename_i n;split at h
  case h_2=>cases h
  rename_i as0 zs he hz;split at h
  case h_2=>cases h
  rename_i hc;simp only[zj]at hc;obtain⟨⟨hc1,hc2⟩,hc3⟩:=hc;have hc1:=dX hc1;have hc2:0<U.sz e:=by simpa using hc2
  have hc3:=yV hc3;obtain⟨cs,hf,h⟩:=zn.1 h;split at h
  case h_2=>cases h
  rename_i hd;simp only[zj]at hd;obtain⟨hd1,hd2⟩:=hd;have hd2:=dX hd2;obtain⟨l,hl,h⟩:=zn.1 h;obtain⟨hl1,hl2⟩:=TT hl hd2;refine .Ws (.lit l ho hT hsz hz hc1 (λA w j hd hρ=> ?_) hl1 (λi hi=>L.len _ _) (Nat.mul_pos (Nat.succ_pos _) hc2) hc3) (by simp) λa σ' hN=>DP hs h hN;obtain⟨us,h1,h2⟩:=rV (init:=(zw (n+1) zs).flatten.toArray) hs hd (by rw[Ca];exact bn.lits _) (nN hs hρ he) hf;rw[GB hd1]at h2;exact⟨us,h1,hl2 _ _ _ h2⟩
def mkE(P:Program)(nx:Nat)(T:TypeId)(x y:af AV)(K:ei->af α):af α:=match P.underlying T,x,y with
 |some (.slice e),Q (.lit (.int .i64 m)),Q (.lit (.int .i64 n))=>match (P.info? e).map (λi=>(i.size,i.bytes)),gO P e with
  |some (sz,by'),Q zs=>match zh sz (U.sz e)&&z8 by' 4096&&zh (yz zs) (U.sz e)&&zD 0 (U.sz e)with
   |true=>(L.parse e (zs.map .lit)).bind λd=>if 0<=m/\m<=n/\n<=1073741824 then K (.new (.own nx) (.row e (zw m.toNat d)))else J
   |false=>J
  |_,_=>J
 |_,_,_=>J
def ajV{T:TypeId}(hs:gC ev rd nx E R)(ho:o.op= .makeSlice T x y)(h:mkE P nx T (ev x) (ev y) K=Q r):Kt P o E R nx K r:=λρ C=>by
 unfold mkE at h;split at h
 case h_2=>cases h
 rename_i e m n hT hx hy;split at h
 case h_2=>cases h
 rename_i sz by' zs hb hz;split at h
 case h_2=>cases h
 rename_i hc;simp only[zj]at hc;obtain⟨⟨⟨hc1,hc2⟩,hc3⟩,hc4⟩:=hc;have hc1:=dX hc1;have hc3:=dX hc3;have hc4:0<U.sz e:=by simpa using hc4
 subst hc1;obtain⟨d,hd,h⟩:=zn.1 h;split at h
 case isFalse=>cases h
 rename_i hm;have ex:=hs.eF hx ρ;have ey:=hs.eF hy ρ;rw[bF]at ex ey;exact .Ws (.make d ho ex ey hT hb hz hc2 hc3 (λA w=>L.ja _ _ _ hd A w _ (bn.lits _)) hc4 hm) (by simp) λa σ' hN=>DP hs h hN
def emE(P:Program)(nx:Nat)(T:TypeId)(x:af AV)(K:ei->af α):af α:=match P.underlying T with
 |some (.slice e)=>match P.info? e with
  |some _=>match x with
   |some (.sl _ _)=>K (.new (.own nx) (.row e []))
   |some (.lit (.slice J 0 0))=>K (.new (.own nx) (.row e []))
   |_=>J
  |none=>J
 |_=>J
def amB{T:TypeId}{k k':IntKind}(hs:gC ev rd nx E R)(ho:o.op= .slice T x J (Q (.const (.int k 0))) (Q (.const (.int k' 0))))(h:emE P nx T (ev x) K=Q r):Kt P o E R nx K r:=λρ C=>by
 unfold emE at h;split at h
 case h_2=>cases h
 rename_i e hT;split at h
 case h_2=>cases h
 rename_i i hi;split at h
 ·rename_i t l hx;have ex:=hs.eF hx ρ;rw[fE]at ex;exact .Ws (.NF ho (.inl ex) hT (by rw[hi];rfl)) (by simp) λa σ' hN=>DP hs h hN
 ·rename_i hx;have ex:=hs.eF hx ρ;rw[bF]at ex;exact .Ws (.NF (q:=0) (l:=[]) ho (.inr ex) hT (by rw[hi];rfl)) (by simp) λa σ' hN=>DP hs h hN
 ·cases h
def acQ(rd:Nat->af IR)(e:Nat)(x:af AV):af (aa (U.cA e)):=match x with
 |some (.lit (.slice _ 0 _))=>Q []
 |some (.sl t l)=>qM t e l
 |some (.own id)=>match rd id with
  |some (.row t l)=>qM t e l
  |_=>J
 |_=>J
def Ev{e:Nat}{l:aa (U.cA e)}(hs:gC ev rd nx E R)(h:acQ rd e (ev x)=Q l)(ρ:Gh):Src (aM.res ρ R) (E.sub ρ) x e l:=by
 unfold acQ at h;split at h
 ·rename_i hx;cases h;have ex:=hs.eF hx ρ;rw[bF]at ex;exact .inl ⟨_,_,ex,rfl⟩
 ·rename_i t l' hx;obtain⟨rfl,rfl⟩:=kL h;have ex:=hs.eF hx ρ;rw[fE]at ex;exact .inr (.inl ex)
 ·rename_i id hx;split at h
  case h_2=>cases h
  rename_i t l' hr;obtain⟨rfl,rfl⟩:=kL h;have ex:=hs.eF hx ρ;rw[cD]at ex;obtain⟨i,hi⟩:=hs.row hr ρ;exact .inr (.inr ⟨i,_,ex,hi⟩)
 ·cases h
def Src.cons{P:Program}{σ:aa bH}{E:Env}{rr:bH}{q:Nat}{l:aa (U.cA q)}(h:Src σ E x q l):Src (rr::σ) E x q l:=by
 rcases h with h|h|⟨i,v,h1,h2⟩
 ·exact .inl h
 ·exact .inr (.inl h)
 ·exact .inr (.inr ⟨i+1,v,h1,h2⟩)
def Rx(P:Program)(T:TypeId)(K:Nat->aa Value->af α):af α:=match P.underlying T with
 |some (.slice e)=>match (P.info? e).map (λi=>(i.size,i.bytes)),gO P e with
  |some (sz,by'),Q zs=>match zh sz (U.sz e)&&z8 by' 4096&&zh (yz zs) (U.sz e)with
   |true=>K e zs
   |false=>J
  |_,_=>J
 |_=>J
def afj{T:TypeId}{K:Nat->aa Value->af α}(h:Rx P T K=Q r):∃e zs by',K e zs=Q r/\P.underlying T=Q (.slice e)/\(P.info? e).map (λi=>(i.size,i.bytes))=Q (U.sz e,by')/\gO P e=Q zs/\z8 by' 4096=O/\yz zs=U.sz e:=by
 unfold Rx at h;split at h
 case h_2=>cases h
 rename_i e hT;split at h
 case h_2=>cases h
 rename_i sz by' zs hb hz;split at h
 case h_2=>cases h
 rename_i hc;simp only[zj]at hc;obtain⟨⟨hc1,hc2⟩,hc3⟩:=hc;have hc1:=dX hc1;subst hc1;exact⟨e,zs,by',h,hT,hb,hz,hc2,dX hc3⟩
def LP(P:Program)(rd:Nat->af IR)(e:Nat)(zs:aa Value)(T':TypeId)(T:TypeId)(y:af AV)(K:aa (U.cA e)->af α):af α:=match zh T T' with
 |true=>(acQ rd e y).bind K
 |false=>match P.underlying T',y with
  |some (.int _),Q (.lit (.int .i64 m))=>match zD 0 (U.sz e)&&zs.all Value.oneCell' with
   |true=>(L.parse e (zs.map .lit)).bind λd=>if 0<=m then K (zw m.toNat d)else J
   |false=>J
  |_,_=>J
def Ri(P:Program)(rd:Nat->af IR)(nx:Nat)(T T':TypeId)(x y:af AV)(K:ei->af α):af α:=Rx P T λe zs=>match x with
 |some (.lit (.slice J 0 0))=>LP P rd e zs T' T y λl2=>if yz l2<=1073741824 then K (.new (.own nx) (.row e l2))else J
 |some (.own id)=>match rd id with
  |some (.row t l)=>(qM t e l).bind λl=>LP P rd e zs T' T y λl2=>if(l++l2).length<=1073741824 then K (.grow id (.row e (l++l2)))else J
  |_=>J
 |_=>J
def Mx(P:Program)(rd:Nat->af IR)(R:aM)(nx:Nat)(T:TypeId)(x y:af AV)(K:ei->af α):af α:=match P.underlying T with
 |some (.slice e)=>match uy P e 1&&zh (U.sz e) 1 with
  |true=>match x with
   |some (.own id)=>match rd id with
    |some (.row t l)=>(qM t e l).bind λl=>(acQ rd e y).bind λl2=>if 0<yz l/\yz l2=yz l then K (.all (.i (yz l:Int)) (mY id (.row e l2) R) nx)else J
    |_=>J
   |_=>J
  |false=>J
 |_=>J
def afq{T T':TypeId}(hs:gC ev rd nx E R)(ho:o.op= .call {callee:= .builtin .copy,args:=#[x,y],argTypes:=#[T,T']})(h:Mx P rd R nx T (ev x) (ev y) K=Q r):Kt P o E R nx K r:=λρ C=>by
 unfold Mx at h;split at h
 case h_2=>cases h
 rename_i e hT;split at h
 case h_2=>cases h
 rename_i hc;rw[zj]at hc;split at h
 case h_2=>cases h
 rename_i id hx;split at h
 case h_2=>cases h
 rename_i t l hr;obtain⟨l',h1,h⟩:=zn.1 h;obtain⟨rfl,rfl⟩:=kL h1;obtain⟨l2,h2,h⟩:=zn.1 h;split at h
 case isFalse=>cases h
 rename_i hl;have ex:=hs.eF hx ρ;rw[cD]at ex;obtain⟨i,hi1,hi2,_⟩:=cU (hs.r _ _ hr);have hres:=eu (ρ:=ρ) hi1;refine .Ws (.arf i ho ex hres (Ev hs h2 ρ) hT (kQ hc.1) (dX hc.2) hl.2 hl.1 (L.one _)) (λb hb=> ?_) λa σ' ⟨ha,hσ⟩=>⟨_,h,zA _,jV (hs.r _ _ hr) hs.lr trivial,λd' hd=>(by cases hd;exact .lit _),ρ, .refl _ _,by rw[ha];simp only[ei.vl,zX,bM.sub],?_⟩
 ·obtain⟨g,hg⟩:∃g,fD (ρ.v id)=Q g:=by
   simp_all
  rw[hg]at hb;simp only[xu,zC]at hb;exact bw.2 ⟨_,List.mem_of_getElem? hres,by rw[hb];exact hg⟩
 ·show List.Perm _ (aM.res ρ (mY id _ R));rw[hσ,hi2,nO];rfl
def set_perm{β:Type}{l:aa β}{i:Nat}{a b:β}(h:l[i]? =Q b):List.Perm (l.set i a) (a::l.eraseIdx i):=by
 have hi:=(zQ.1 h).1;rw[wG,wF,bS hi];simp
def Nv{T T':TypeId}{e by':Nat}{zs:aa Value}{K':aa (U.cA e)->af α}{rs:aa bH}{ρ:Gh}{C:Cx}(hs:gC ev rd nx E R)(ho:o.op= .call {callee:= .builtin .append,args:=#[x,y],argTypes:=#[T,T']})(h:LP P rd e zs T' T (ev y) K'=Q r)
  (hT:P.underlying T=Q (.slice e)) (hb:(P.info? e).map (λi=>(i.size,i.bytes))=Q (U.sz e,by')) (hz:gO P e=Q zs) (hb4:z8 by' 4096=O) (hzl:yz zs=U.sz e):
  ∃l2,K' l2=Q r/\∀(σ:aa bH) (v:Value) (i:Nat) (l:aa (U.cA e)),(σ=aM.res ρ R\/∃rr,σ=rr::aM.res ρ R)->(E.sub ρ).ev x=Q (.lit v)->σ[i]? =Q (.row v e l)->yz (l++l2)<=1073741824->
   Yv P (E.sub ρ) σ o C (xG (fD v)) (λa σ'=>∃v',a= .lit v'/\σ'=σ.set i (.row v' e (l++l2))):=by
 unfold LP at h;split at h
 ·rename_i hTT;have:=dX hTT;subst this;obtain⟨l2,h1,h⟩:=zn.1 h;refine⟨l2,h,λσ v i l hσ hx hi hlen=> ?_⟩;have hsrc:Src σ (E.sub ρ) y e l2:=by
   rcases hσ with rfl|⟨rr,rfl⟩
   ·exact Ev hs h1 ρ
   ·exact Src.cons (P:=P) (Ev hs h1 ρ)
  exact .app i ho hx hi hsrc hT hb hz hzl hb4 (L.one e) hlen
 ·split at h
  case h_2=>cases h
  rename_i kn m hT' hy;split at h
  case h_2=>cases h
  rename_i hc;simp only[zj]at hc;obtain⟨hc1,hc2⟩:=hc;obtain⟨d,hd,h⟩:=zn.1 h;split at h
  case isFalse=>cases h
  rename_i hm;refine⟨_,h,λσ v i l hσ hx hi hlen=> ?_⟩;have ey:=hs.eF hy ρ;rw[bF]at ey;exact .aCx i d ho hx hi ey hT hT' hb hz hzl (by simpa using hc1) hb4 (λA w=>L.ja _ _ _ hd A w _ (bn.lits _)) hc2 ⟨hm,hlen⟩
def abh{T T':TypeId}(hs:gC ev rd nx E R)(ho:o.op= .call {callee:= .builtin .append,args:=#[x,y],argTypes:=#[T,T']})(h:Ri P rd nx T T' (ev x) (ev y) K=Q r):Kt P o E R nx K r:=λρ C=>by
 obtain⟨e,zs,by',h,hT,hb,hz,hb4,hzl⟩:=afj h;split at h
 ·rename_i hx;obtain⟨l2,h,hY⟩:=Nv (rs:=[]) (ρ:=ρ) (C:=C) hs ho h hT hb hz hb4 hzl;split at h
  case isFalse=>cases h
  rename_i hlen;have ex:=hs.eF hx ρ;rw[bF]at ex;intro w j hg hρ;have ht:Tr C [] (aM.res ρ R) w (.row (.slice J 0 0) e []::aM.res ρ R) w:=EP J e hg;have hal:∀b,al C (aM.res ρ R) b->al C (.row (.slice J 0 0) e []::aM.res ρ R) b:=λb hA=>⟨hA.1,λhx=>hA.2 (by
   rw[dO]at hx;simpa [bH.blk,fD]using hx)⟩
  obtain⟨v,w',av,σ',⟨v',ha,hσ⟩,h2,h3,h4⟩:=hY _ (.slice J 0 0) 0 [] (.inr ⟨_,rfl⟩) ex rfl (by simpa using hlen) w j ht.good (λu d hu=>(hρ u d hu).mono λb _ hA=>⟨hal b hA,rfl⟩);refine .inl ⟨v,w',av,σ',DP hs h ⟨v',ha,by rw[hσ];rfl⟩,⟨h2.good,⟨h2.kp.os,h2.kp.tape,h2.kp.output,h2.kp.size,λk hk _=>h2.kp.block k hk (by simp[fD])⟩,λb hb hA=>⟨(h2.al b hb (hal b hA)).1,hA.2⟩⟩,h3,h4⟩
 ·rename_i id hx;split at h
  case h_2=>cases h
  rename_i t l0 hr;obtain⟨l,hl,h⟩:=zn.1 h;obtain⟨rfl,rfl⟩:=kL hl;obtain⟨l2,h,hY⟩:=Nv (rs:=[]) (ρ:=ρ) (C:=C) hs ho h hT hb hz hb4 hzl;split at h
  case isFalse=>cases h
  rename_i hlen;have ex:=hs.eF hx ρ;rw[cD]at ex;obtain⟨i,hi1,_,hi3⟩:=cU (hs.r _ _ hr);have hres:=eu (ρ:=ρ) hi1;refine .Ws (hY _ _ i _ (.inl rfl) ex hres hlen) (λb hb=> ?_) λa σ' ⟨v',ha,hσ⟩=> ?_
  ·obtain⟨g,hg⟩:∃g,fD (ρ.v id)=Q g:=by
    simp_all
   rw[hg]at hb;simp only[xu,zC]at hb;exact bw.2 ⟨_,List.mem_of_getElem? hres,by rw[hb];exact hg⟩
  ·have hdl:=Bz (id:=id) hs.lr;refine⟨_,h,yd nx,λp hp=> ?_,λd' hd=>by cases hd;exact .own _ (z7 _),ρ.eC nx v', .eC ρ nx v',?_,?_⟩
   ·rcases zu.1 hp with rfl|hp
    ·exact⟨z7 _,trivial⟩
    ·exact(hdl.mono (yd nx)) p hp
   ·rw[ha];simp[ei.vl,cD,Gh.eC]
   ·rw[hσ];show List.Perm _ (aM.res _ ((nx,_)::iK id R));have e1:aM.res (ρ.eC nx v') ((nx,IR.row t (l0++l2))::iK id R)=bH.row v' t (l0++l2)::(aM.res ρ R).eraseIdx i:=by
     show _::aM.res _ (iK id R)=_;rw[<-hdl.res (.eC ρ nx v'),hi3,sD];simp[IR.res,Gh.eC]
    rw[e1];exact set_perm hres
 ·cases h
def mnV(mx:Bool)(xs:aa (af AV))(K:AV->af α):af α:=match xs with
 |[Q (.lit (.int k m)),Q (.lit (.int k' n))]=>if k=k' then(match mx with
  |true=>K (.n k (if m<n then n else m))
  |false=>K (.n k (if n<m then n else m)))else J
 |_=>J
abbrev aI:=(α:Type)->FuncId->aa AV->aM->Nat->(AV->aM->Nat->af α)->af α
def gu(P:Program)(F:aI):Prop:=∀(α:Type) f args R nx (k:AV->aM->Nat->af α) r,F α f args R nx k=Q r->(∀d∈args,ct nx d)->aM.ct nx R->rP P f/\
 ∀ρ,Fn P f (args.map (bM.sub ρ)) (aM.res ρ R) λa s=>∃d R' nx',k d R' nx'=Q r/\nx<=nx'/\ct nx' d/\aM.ct nx' R'/\∃ρ',l6 nx ρ ρ'/\a=d.sub ρ'/\List.Perm s (aM.res ρ' R')
def La(F:aI)(ev:Operand->af AV)(R:aM)(nx:Nat)(x:af AV)(xs:aa Operand)(K:ei->af α):af α:=match x with
 |some (.fn (.func f) caps)=>(IW ev xs).bind λas0=>F α f (as0++caps) R nx λd R' nx'=>K (.all d R' nx')
 |_=>J
def aeT{F:aI}{xs:Array Operand}{ts:Array TypeId}(hF:gu P F)(hs:gC ev rd nx E R)(ho:o.op= .call {callee:= .value x,args:=xs,argTypes:=ts})(h:La F ev R nx (ev x) xs.toList K=Q r):Kt P o E R nx K r:=λρ C=>by
 unfold La at h;split at h
 case h_2=>cases h
 rename_i f caps hx;obtain⟨as0,ha,h⟩:=zn.1 h;have ex:=hs.eF hx ρ;rw[oI]at ex;obtain⟨hf,hfn⟩:=hF _ _ _ _ _ _ _ h (rm (Fl hs ha) (hs.nQ hx).fnL) hs.lr;refine .ofC (.fn (σr:=[]) ho ex hf (DY hs ρ ha) (by rw[zK]) (yW _).symm (hfn ρ)) (λb hb=>hb) λa σ' ⟨σo,hN,hσ⟩=> ?_;obtain⟨d,R',nx',h1,h2,h3,h4,ρ',h5,h6,h7⟩:=hN;rw[yW]at hσ;exact⟨.all d R' nx',h1,h2,h4,λd' hd=>by cases hd;exact h3,ρ',h5,by rw[h6];rfl,by rw[hσ];exact h7⟩
end
end Go.Iv
end
