/- Merged: Izo, Iv1, Iv2, Iv3, Iv4, Iv5, Iw1, Iw0, Iv6, Iw2, Iw3, Iv10, Ivc, Iw4, Iw5, Iwn, Iv8, Iw6, Iw7, Iw8. -/
import Derived.KernelRfl
import Derived.WalkKit
import Derived.OrdersHeld
import Derived.Maps.AppendAt
import Derived.WalkLawsBesides
import Derived.Laws.Tables
import Derived.Laws.PanicsMore
import Derived.Great.BuildSlice
import Derived.Laws.MakeOwn
import Derived.Lib.SliceRun
import Derived.RangeFuncLeaves
import Derived.RangeFuncNested
import Derived.Laws.BytesArg
import Derived.Laws.StructEq
import Derived.Lib.AppendZerosOnto
import Derived.RangeFuncBound
import Derived.Shelf.Abstract
import Derived.TacticsIn
import Derived.OwnWalkIn
open List renaming length -> zY
open Nat renaming beq -> zc, le_refl -> zl, blt -> zA, lt_succ_self -> zC, le_trans -> zG, add_mul -> zW, le_succ -> yd, add_zero -> yg, mul_le_mul_right -> yh, zero_add -> yj, ble -> yp, add_assoc -> yH, succ_mul -> yO, mod_lt -> xe, eq_of_beq_eq_true -> xx, mul_one -> xC, lt_of_lt_of_le -> x9, le_of_ble_eq_true -> wg, eq_zero_or_pos -> wA
open List renaming replicate -> zf, length_append -> zh, mem_cons_self -> zk, getElem?_eq_getElem -> zm, mem_singleton -> zo, all_eq_true -> zw, mem_cons -> zx, take_length -> zy, length_map -> zB, length_take -> zD, range -> zH, length_set -> zI, drop_drop -> zK, mem_cons_of_mem -> zL, mem_map -> zM, map_append -> zO, mem_append -> zP, length_drop -> zV, map_congr_left -> zX, getElem?_eq_some_iff -> z7, getElem?_map -> ye, map_cons -> yf, map_map -> yt, append_nil -> yu, length_cons -> yw, nil_append -> yB, getElem?_take -> yF, getElem?_drop -> yG, mem_append_left -> yJ, mem_append_right -> yK, nodup_append -> yN, replicate_succ -> yP, drop_eq_getElem_cons -> yQ, flatMap_cons -> yR, append_assoc -> yS, map_nil -> yT, size_toArray -> y4, length_replicate -> y5, getElem_of_mem -> xd, eq_nil_of_length_eq_zero -> xg, filter_append -> xh, getElem?_append -> xy, cons_append -> xz, take_append_drop -> xA, map_drop -> xB, mem_of_mem_drop -> xD, drop_zero -> xI, mem_flatMap -> xJ, getElem_take -> xK, map_take -> xL, getElem_mem -> xP, flatMap_append -> xR, getElem_drop -> xS, length_range -> we, take_zero -> wh, filter_filter -> wj, getElem_append_left -> wB, getElem_append_right -> wC, flatten_cons -> wD, getElem?_eq_none -> wE, getElem_replicate -> wF, range_succ -> wG, length_pos_iff -> wH, mem_of_mem_take -> wJ, filter_congr -> wL, set_eq_take_append_cons_drop -> wR, eraseIdx_eq_take_drop_succ -> wS, eraseIdx_sublist -> wT, filter_eq_nil_iff -> wU, filter_eq_self -> wV, getElem?_replicate -> wW
open Int renaming toNat_natCast -> zg, natCast_mul -> wK
open Bool renaming and_eq_true -> zi, true -> J, false -> O
open Option renaming map_eq_some_iff -> zn, bind_eq_some_iff -> zu, some -> zF, bind_assoc -> z6, map_some -> yI, toList_some -> xO, toList -> xQ, some -> V, none -> G
open Array renaming length_toList -> yo, getElem?_eq_some_iff -> y8, getElem?_eq_getElem -> y9
open Decidable renaming decide -> vn
set_option linter.unusedSectionVars false
set_option linter.unusedVariables false
set_option linter.unusedSimpArgs false
set_option linter.defProp false
abbrev Prod.t{α β γ:Type _}(z:α×β×γ):γ:=z.2.2
abbrev Prod.q{α β γ δ ε:Type _}(z:α×β×γ×δ×ε):ε:=z.2.2.2.2
abbrev aa(α:Type _):=Option α
abbrev af(α:Type _):=List α
namespace Go
theorem bW:∀ {p:Prop} [inst:Decidable p],¬p→decide p=O:=@decide_eq_false
theorem bX:∀ {p:Prop} [inst:Decidable p],p→decide p=J:=@decide_eq_true
theorem ct{α:Sort _}(a b:α):cond O a b=b:=rfl
theorem cK{α:Sort _}(a b:α):cond J a b=a:=rfl
theorem bB{c:Prop}{h:Decidable c}(hc:c){α:Sort _}{t e:α}:(ite c t e)=t:=if_pos hc
theorem bL{c:Prop}{h:Decidable c}(hnc:¬c){α:Sort _}{t e:α}:(ite c t e)=e:=if_neg hnc
theorem DB(h:Decidable True):@decide True h=J:=decide_true h
theorem Ej(h:Decidable False):@decide False h=O:=decide_false h
theorem cW{α:Sort _}{_:Decidable True}(t e:α):ite True t e=t:=if_true t e
theorem IY{α:Sort _}{_:Decidable False}(t e:α):ite False t e=e:=if_false t e
theorem Jb(p:Prop):(p∧p)=p:=and_self p
def dS{a:Prop}{b:Sort _}(h1:a)(h2:¬a):b:=absurd h1 h2
end Go
noncomputable section
/- Proofs found by themselves. -/
namespace Go.Iv
open Go
def au{p:Prop}(h:p:=by omega):p:=h
def aY{α:Sort _}{a b:α}(h:a=b:=by kernel_rfl):a=b:=h
abbrev ak(x:Int):Int:=IntKind.i64.wrap x
abbrev bJ(x:Int):Int:=IntKind.u64.wrap x
def w3{i n:Nat}(h:i<n)(hn:n<=1000000):(i:Int)<(n:Int)/\(0:Int)<=(i:Int)/\ak ((i:Int)+1)=((i+1:Nat):Int):=⟨by omega,by omega,by simp[ak,IntKind.wrap,IntKind.bits,IntKind.signed];omega⟩
universe u
def cG:(∀n:Nat,(n:Int).toNat=n)/\(∀h:Decidable True,@decide True h=J)/\(∀h:Decidable False,@decide False h=O)/\(∀p:Prop,(p/\p)=p):=⟨zg,DB,Ej,Jb⟩
def cD:(∀(α:Type u) (a b:α),cond J a b=a)/\∀(α:Type u) (a b:α),cond O a b=b:=⟨λ_ _ _=>rfl,λ_ _ _=>rfl⟩
def gK:(∀(α:Sort u) (h:Decidable True) (a b:α),@ite α True h a b=a)/\∀(α:Sort u) (h:Decidable False) (a b:α),@ite α False h a b=b:=⟨λ_ _ _ _=>bB trivial,λ_ _ _ _=>bL id⟩
end Go.Iv
end
noncomputable section
namespace Go.Iv
open Go Go.RowKit
inductive b7 (de:Nat->Type):Type
 |lit (v:Value)
 |sl (t:Nat) (l:List (de t))
 |fp (cs:List (b7 de))
 |rp (v:Value) (k:Nat)
 |agg (cs:List (b7 de))
 |jo (vs:List (b7 de))
 |fn (f:Fn) (caps:List (b7 de))
 |own (id:Nat)
 |ptr (id off:Nat)
 |ra (id t m off:Nat)
class EU where
 de:Nat->Type
 inh:(t:Nat)->Inhabited (de t)
 sz:Nat->Nat
 cells:(t:Nat)->de t->List (b7 de)
instance [U:EU] (t:Nat):Inhabited (U.de t):=U.inh t
abbrev AV[U:EU]:Type:=b7 U.de
variable [U:EU]
def gD:Value->aa Nat
 | .slice (V a) _ (_+1)=>V a.block
 |_=>G
def gh(w:World)(v:Value)(T:TypeId)(sz n:Nat)(us:af Value):Prop:=
 us.length=n*sz/\((∃p,v= .slice p 0 0/\n=0)\/
  ∃g cap cur,v= .slice (V ⟨g,0,G⟩) n (cap+1)/\w.heap[g]? =V (.cells cur T (0,0))/\n<=cap+1/\cap+1<=maxLen/\cur.size=(cap+1)*sz/\cur.toList.take (n*sz)=us)
def gh.lt{w:World}{v:Value}{T:TypeId}{sz n:Nat}{us:af Value}(h:gh w v T sz n us){b:Nat}(hb:gD v=V b):b<w.heap.size:=by
 rcases h.2 with ⟨p,rfl,_⟩|⟨g,cap,cur,rfl,hg,_⟩
 ·cases p<;>cases hb
 ·cases hb;exact(y8.1 hg).1
def gh.kept{w w':World}{v:Value}{T:TypeId}{sz n:Nat}{us:af Value}(h:gh w v T sz n us)(hb:∀b,gD v=V b->w'.heap[b]? =w.heap[b]?):gh w' v T sz n us:=by
 refine⟨h.1,?_⟩;rcases h.2 with h1|⟨g,cap,cur,rfl,q1,q2⟩
 ·exact .inl h1
 ·exact .inr ⟨g,cap,cur,rfl,(hb g rfl).trans q1,q2⟩
inductive Rel (A:Nat->Prop) (w:World):AV->Value->Prop
 |lit (v:Value):Rel A w (.lit v) v
 |sl (t:Nat) (l:List (U.de t)) (p:Option Addr) (cap:Nat) (u:Nat->Nat->Value)
   (hl:zY l<=9223372036854775807) (hcap:zY l<=cap) (hz:∀i,i<zY l->zY (U.cells t l[i]!)=U.sz t)
   (hc:∀i,i<zY l->∃b off,p=V ⟨b,off,G⟩/\b<w.heap.size/\A b/\∀j,j<U.sz t->w.cell? ⟨b,off+i*U.sz t+j,G⟩=V (u i j))
   (hr:∀i j a,i<zY l->(U.cells t l[i]!)[j]? =V a->Rel A w a (u i j)):Rel A w (.sl t l) (.slice p (zY l) cap)
 |fp (cs:List AV) (b o:Nat) (us:List Value) (hb:b<w.heap.size) (hA:A b) (hl:zY us=zY cs)
   (hc:∀j v,us[j]? =V v->w.cell? ⟨b,o+j,G⟩=V v) (hr:∀(j:Nat) a v,cs[j]? =V a->us[j]? =V v->Rel A w a v):Rel A w (.fp cs) (.pointer (V ⟨b,o,G⟩))
 |rp (v:Value) (k g:Nat) (h:gD v=V g):Rel A w (.rp v k) (.pointer (V ⟨g,k,G⟩))
 |agg (cs:List AV) (us:List Value) (hl:zY us=zY cs) (hr:∀(j:Nat) a v,cs[j]? =V a->us[j]? =V v->Rel A w a v):Rel A w (.agg cs) (.agg us.toArray)
 |jo (cs:List AV) (us:List Value) (hl:zY us=zY cs) (hr:∀(j:Nat) a v,cs[j]? =V a->us[j]? =V v->Rel A w a v):Rel A w (.jo cs) (.tuple us.toArray)
 |fn (f:Fn) (cs:List AV) (us:List Value) (hl:zY us=zY cs) (hr:∀(j:Nat) a v,cs[j]? =V a->us[j]? =V v->Rel A w a v):Rel A w (.fn f cs) (.func f #[] us.toArray)
def Rel.mono{A A':Nat->Prop}{w w':World}{a:AV}{v:Value}(h:Rel A w a v)(hk:∀b,b<w.heap.size->A b->A' b/\w'.heap[b]? =w.heap[b]?):Rel A' w' a v:=by
 have hsz:∀b,b<w.heap.size->A b->b<w'.heap.size:=λb hb hA=>by
  have h1:=(hk b hb hA).2;rw[y9 hb]at h1;exact(y8.1 h1).1
 have hcell:∀b o,b<w.heap.size->A b->w'.cell? ⟨b,o,G⟩=w.cell? ⟨b,o,G⟩:=λb o hb hA=>by
  simp[World.cell?,(hk b hb hA).2]
 induction h with
 |lit v=>exact .lit v
 |sl t l p cap u hl hcap hz hc hr ih=>
  refine .sl t l p cap u hl hcap hz (λi hi=> ?_) ih;obtain⟨b,off,h1,h2,h3,h4⟩:=hc i hi;exact⟨b,off,h1,hsz b h2 h3,(hk b h2 h3).1,λj hj=>by rw[hcell b _ h2 h3];exact h4 j hj⟩
 |fp cs b o us hb hA hl hc hr ih=>exact .fp cs b o us (hsz b hb hA) (hk b hb hA).1 hl (λj v hj=>by rw[hcell b _ hb hA];exact hc j v hj) ih
 |rp v k g h=>exact .rp v k g h
 |agg cs us hl hr ih=>exact .agg cs us hl ih
 |jo cs us hl hr ih=>exact .jo cs us hl ih
 |fn f cs us hl hr ih=>exact .fn f cs us hl ih
def bN(A:Nat->Prop)(w:World)(as0:af AV)(us:af Value):Prop:=zY us=zY as0/\∀(j:Nat) a v,as0[j]? =V a->us[j]? =V v->Rel A w a v
def bN.mono{A A':Nat->Prop}{w w':World}{as0:af AV}{us:af Value}(h:bN A w as0 us)(hk:∀b,b<w.heap.size->A b->A' b/\w'.heap[b]? =w.heap[b]?):bN A' w' as0 us:=⟨h.1,λj a v h1 h2=>(h.2 j a v h1 h2).mono hk⟩
def Rel.cL{A:Nat->Prop}{w:World}{u v:Value}(h:Rel A w (.lit u) v):v=u:=by
 generalize ha:b7.lit u=a at h;cases h with
 |lit v=>cases ha;rfl
 |_=>cases ha
def Blk(w:World)(b:Nat)(cs:Array Value)(T:TypeId):Prop:=w.heap[b]? =V (.cells cs T (0,0))
def Blk.lt{w:World}{b:Nat}{cs:Array Value}{T:TypeId}(h:Blk w b cs T):b<w.heap.size:=(y8.1 h).1
def Blk.cell{w:World}{b:Nat}{cs:Array Value}{T:TypeId}(h:Blk w b cs T){i:Nat}{v:Value}(hv:cs[i]? =V v):w.cell? ⟨b,i,G⟩=V v:=by
 unfold Blk at h;simp[World.cell?,h,hv]
inductive cc:Type
 |box (b:Nat) (T:TypeId) (cs:List AV)
 |row (v:Value) (t:Nat) (l:List (U.de t))
def cc.blk:cc->aa Nat
 | .box b _ _=>V b
 | .row v _ _=>gD v
def cc.ok(A:Nat->Prop)(w:World):cc->Prop
 | .box b T cs=>∃us:af Value,Blk w b us.toArray T/\bN A w cs us
 | .row v t l=>∃us:af Value,gh w v t (U.sz t) (zY l) us/\(∀i,i<zY l->zY (U.cells t l[i]!)=U.sz t)/\∀i,i<zY l->bN A w (U.cells t l[i]!) ((us.drop (i*U.sz t)).take (U.sz t))
def bC(σ:af cc):af Nat:=σ.filterMap cc.blk
def bQ{σ:af cc}{b:Nat}:b∈bC σ↔∃r∈σ,r.blk=V b:=by simp[bC]
def cc.ok.lt{A:Nat->Prop}{w:World}{r:cc}(h:r.ok A w){b:Nat}(hb:r.blk=V b):b<w.heap.size:=by
 cases r with
 |box b' T cs=>obtain⟨us,h1,_⟩:=h;cases hb;exact h1.lt
 |row v t l=>obtain⟨us,h1,_⟩:=h;exact h1.lt hb
def cc.ok.mono{A A':Nat->Prop}{w w':World}{r:cc}(h:r.ok A w)(hk:∀b,b<w.heap.size->A b->A' b/\w'.heap[b]? =w.heap[b]?)(hb:∀b,r.blk=V b->w'.heap[b]? =w.heap[b]?):r.ok A' w':=by
 cases r with
 |box b T cs=>
  obtain⟨us,h1,h2⟩:=h;exact⟨us,(hb b rfl).trans h1,h2.mono hk⟩
 |row v t l=>
  obtain⟨us,h1,h2,h3⟩:=h;exact⟨us,h1.kept hb,h2,λi h4=>(h3 i h4).mono hk⟩
structure Kp (X:List Nat) (w w':World):Prop where
 os:w'.os=w.os
 tape:w'.tape=w.tape
 output:w'.output=w.output
 drawn:w.drawn<=w'.drawn
 size:w.heap.size<=w'.heap.size
 block:∀k,k<w.heap.size->k∉X->w'.heap[k]? =w.heap[k]?
def Kp.refl(X:af Nat)(w:World):Kp X w w:=⟨rfl,rfl,rfl,zl _,zl _,λ_ _ _=>rfl⟩
def Kp.trans{X Y:af Nat}{w w1 w2:World}(h:Kp X w w1)(h':Kp Y w1 w2)(hY:∀b,b∈Y->b<w.heap.size->b∈X):Kp X w w2:=
 ⟨h'.os.trans h.os,h'.tape.trans h.tape,h'.output.trans h.output,zG h.drawn h'.drawn,zG h.size h'.size,λk hk hX=>
  (h'.block k (x9 hk h.size) (λhy=>hX (hY k hy hk))).trans (h.block k hk hX)⟩
def Kp.drew(w:World):Kp [] w w.drew:=⟨rfl,rfl,rfl,yd _,zl _,λ_ _ _=>rfl⟩
def Kp.below{w w':World}(h:Kp [] w w'):Below w.heap.size w w':=⟨h.os,h.tape,h.output,h.size,λk hk=>h.block k hk (by simp)⟩
structure Cx where
 w0:World
 A0:Nat->Prop
 O0:List Nat
def al(C:Cx)(σ:af cc)(b:Nat):Prop:=(C.A0 b\/b∈C.O0\/C.w0.heap.size<=b)/\b∉bC σ
structure Good (C:Cx) (σ:List cc) (w:World):Prop where
 kept:Kp C.O0 C.w0 w
 res:∀r∈σ,r.ok (al C σ) w
 Ju:(bC σ).Nodup
 own:∀b∈bC σ,b∈C.O0\/C.w0.heap.size<=b
structure Tr (C:Cx) (X:List Nat) (σ:List cc) (w:World) (σ':List cc) (w':World):Prop where
 good:Good C σ' w'
 kp:Kp X w w'
 al:∀b,b<w.heap.size->al C σ b->al C σ' b/\b∉X
def Tr.keep{C:Cx}{X:af Nat}{σ σ':af cc}{w w':World}(t:Tr C X σ w σ' w'):∀b,b<w.heap.size->Iv.al C σ b->Iv.al C σ' b/\w'.heap[b]? =w.heap[b]? :=
 λb hb h=>⟨(t.al b hb h).1,t.kp.block b hb (t.al b hb h).2⟩
abbrev Env:=af (Nat×AV)
def Env.get:Env->Nat->aa AV
 |[],_=>G
 |(k,v)::E,t=>match zc k t with
  |true=>V v
  |false=>Env.get E t
def Env.ev(E:Env):Operand->aa AV
 | .tmp t=>Env.get E t
 | .const v=>V (.lit v)
 | .global g=>V (.lit (.pointer (V ⟨g,0,G⟩)))
 | .func f=>V (.fn (.func f) [])
def Env.fh(E:Env)(d:Nat)(v:AV):Env.get ((d,v)::E) d=V v:=by
 have h:zc d d=J:=Nat.beq_refl d;simp only[Env.get,h]
def Env.dV(E:Env){d t:Nat}(v:AV)(h:d≠t):Env.get ((d,v)::E) t=Env.get E t:=by
 have h':zc d t=O:=by
  cases hb:zc d t with
  |false=>rfl
  |true=>exact dS (xx hb) h
 simp only[Env.get,h']
def mU(A:Nat->Prop)(w:World)(E:Env)(tmps:Array Value):Prop:=∀t av,Env.get E t=V av->∃v,tmps[t]? =V v/\Rel A w av v
def Dq(C:Cx)(σ:af cc)(a:Act)(w:World):Prop:=∃Ds:af Nat,a.defers=Ds.map (λD=>{target:= .collected D,args:=#[]})/\Ds.Nodup/\
 ∀D∈Ds,D<w.heap.size/\C.w0.heap.size<=D/\D∉bC σ/\w.heap[D]? =V (.deferred (V []))
def Dq.nil{C:Cx}{σ:af cc}{a:Act}{w:World}(h:a.defers=[]):Dq C σ a w:=⟨[],h,List.nodup_nil,λ_ h=>by cases h⟩
def Dq.step{C:Cx}{σ σ':af cc}{a:Act}{w w':World}(h:Dq C σ a w)(hk:∀b,b<w.heap.size->al C σ b->al C σ' b/\w'.heap[b]? =w.heap[b]?):Dq C σ' a w':=by
 obtain⟨Ds,h1,h2,h3⟩:=h;refine⟨Ds,h1,h2,λD hD=> ?_⟩;obtain⟨q1,q2,q3,q4⟩:=h3 D hD;obtain⟨p1,p2⟩:=hk D q1 ⟨.inr (.inr q2),q3⟩;have p3:=p2.trans q4;exact⟨(y8.1 p3).1,q2,p1.2,p3⟩
structure Ah (C:Cx) (n:Nat) (E:Env) (σ:List cc) (a:Act) (w:World):Prop where
 defers:Dq C σ a w
 size:a.tmps.size=n
 slots:mU (al C σ) w E a.tmps
 good:Good C σ w
def RU(A:Nat->Prop)(w:World)(E:Env)(ρ:Operand->Value):Prop:=∀x u,E.ev x=V u->Rel A w u (ρ x)
section
variable {C:Cx} {n:Nat} {E E':Env} {σ σ':af cc} {a:Act} {w w':World} {x:Operand} {v:Value} {av:AV} {d:Nat} {A:Nat->Prop}
def mU.ops(h:mU A w E a.tmps):RU A w E a.eval:=λx u hx=>by
 cases x with
 |tmp t=>
  obtain⟨v,h1,h2⟩:=h t u hx;simpa [Act.eval,h1]using h2
 |const u=>
  simp only[Env.ev,zF.injEq]at hx;subst hx;exact .lit _
 |global g=>
  simp only[Env.ev,zF.injEq]at hx;subst hx;exact .lit _
 |func f=>
  simp only[Env.ev,zF.injEq]at hx;subst hx;exact .fn _ [] [] rfl (λj a v h=>by cases h)
def mU.put(h:mU A w E a.tmps)(hd:d<a.tmps.size)(hv:Rel A w av v):mU A w ((d,av)::E) (a.put (V d) v).tmps:=λt u ht=>by
 by_cases hdt:d=t
 ·subst hdt;rw[Env.fh]at ht;cases ht;exact⟨v,by simp[Act.put,hd],hv⟩
 ·rw[Env.dV _ _ hdt]at ht;obtain⟨v',h1,h2⟩:=h t u ht;exact⟨v',by simp[Act.put,Array.getElem?_setIfInBounds_ne hdt,h1],h2⟩
def Ah.put(h:Ah C n E σ a w)(hd:zA d n=J)(hv:Rel (al C σ) w av v):Ah C n ((d,av)::E) σ (a.put (V d) v) w:=
 ⟨h.defers,by simpa [Act.put]using h.size,h.slots.put (by rw[h.size];simpa using hd) hv,h.good⟩
def Ah.tr{X:af Nat}(h:Ah C n E σ a w)(t:Tr C X σ w σ' w'):Ah C n E σ' a w':=
 ⟨h.defers.step t.keep,h.size,λi u hi=>let ⟨v,h1,h2⟩:=h.slots i u hi;⟨v,h1,h2.mono t.keep⟩,t.good⟩
end
def Hd(A:Nat->Prop)(σ:af cc)(w:World):Prop:=(∀r∈σ,r.ok A w)/\∀b∈bC σ,¬A b
def Good.hd{C:Cx}{σ:af cc}{w:World}(h:Good C σ w):Hd (al C σ) σ w:=⟨h.res,λ_ hb hA=>hA.2 hb⟩
section
variable (P:Program) (E:Env) (σ:af cc) (o:Oper)
def Yp(av:AV):Prop:=∀(A:Nat->Prop) (w:World) (ρ:Operand->Value),Hd A σ w->RU A w E ρ->
 ∃v,Rel A w av v/\∀w':World,(∀b,b<w.heap.size->(A b\/b∈bC σ)->w'.heap[b]? =w.heap[b]?)->(execOp ρ o).run P w'= .ok (.value v) w'
def Yv(C:Cx)(X:af Nat)(N:AV->af cc->Prop):Prop:=∀(w:World) (ρ:Operand->Value),Good C σ w->RU (al C σ) w E ρ->
 ∃v w' av σ',N av σ'/\Tr C X σ w σ' w'/\(execOp ρ o).run P w= .ok (.value v) w'/\Rel (al C σ') w' av v
def Yu(C:Cx)(X:af Nat)(σ':af cc):Prop:=∀(w:World) (ρ:Operand->Value),Good C σ w->RU (al C σ) w E ρ->
 ∃w',Tr C X σ w σ' w'/\(execOp ρ o).run P w= .ok .skip w'
def Yc(C:Cx)(X:af Nat)(N:AV->af cc->Prop):Prop:=∀(w:World) (ρ:Operand->Value),Good C σ w->RU (al C σ) w E ρ->
 ∃f args,(execOp ρ o).run P w= .ok (.enter f args) w/\Calls P f args w λe w'=>∃v av σ',e= .returned v/\N av σ'/\Tr C X σ w σ' w'/\Rel (al C σ') w' av v
def qK(ops:Array Oper):aa Bool:=
 match o.guard with
 |none=>V J
 |some (j,want)=>match (ops[j]?).bind (·.dst)with
  |none=>G
  |some t=>match Env.get E t with
   |some (.lit (.bool b))=>V (b==want)
   |some (.lit (.tuple _))=>V O
   |_=>G
end
def qK.spec{A:Nat->Prop}{w:World}{E:Env}{o:Oper}{ops:Array Oper}{tmps:Array Value}{b:Bool}(h:mU A w E tmps)(hw:qK E o ops=V b):Region.wanted o (yielded ops tmps)=b:=by
 unfold qK at hw;unfold Region.wanted;cases hg:o.guard with
 |none=>rw[hg]at hw;simpa using hw
 |some gw=>
  obtain⟨j,want⟩:=gw;rw[hg]at hw;simp only at hw ⊢;cases ht:(ops[j]?).bind (·.dst)with
  |none=>rw[ht]at hw;cases hw
  |some t=>
   rw[ht]at hw;simp only at hw;cases he:Env.get E t with
   |none=>rw[he]at hw;cases hw
   |some u=>
    obtain⟨v,hv,hr⟩:=h t u he;rw[he]at hw;have hy:yielded ops tmps j=match v with| .bool b=>V b|_=>G:=by
     unfold yielded;rw[ht];simp only[Option.bind_some,hv];cases v<;>rfl
    cases u with
    |lit u=>
     have hvu:=hr.cL;subst hvu;cases v<;>simp only at hw hy<;>first|(cases hw;done)|skip
     ·simp_all
     ·simp_all
    |_=>cases hw
def Q1(C:Cx)(n:Nat)(K:Env->af cc->Prop)(ds:af Deferred):Exit->Act->World->Prop:=λe a w=>e= .normal/\a.defers=ds/\∃E σ,Ah C n E σ a w/\K E σ
section
variable {P:Program} {C:Cx} {n:Nat} {ops:Array Oper} {K:Env->af cc->Prop} {rest:af Oper} {E E':Env} {σ σ':af cc} {o:Oper} {av:AV} {d:Nat} {X:af Nat} {N:AV->af cc->Prop}
end
structure Bs (X:List Nat) (A1:Nat->Prop) (w1:World) (σS:List cc):Prop where
 hd:Hd A1 σS w1
 nA:∀b,A1 b->b∉X
 nS:∀b∈bC σS,b∉X
def S1(X:af Nat)(w1 w:World):Prop:=w1.heap.size<=w.heap.size/\∀b,b<w1.heap.size->b∉X->w.heap[b]? =w1.heap[b]?
section
variable {P:Program} {C:Cx} {n:Nat} {ops:Array Oper} {X X':af Nat} {A1:Nat->Prop} {w1:World} {σS:af cc} {K:Env->af cc->Prop} {fuel:Nat} {listed:Array Bool} {i:Nat} {Eb E:Env} {σ σ':af cc} {o:Oper} {av:AV} {d:Nat} {N:AV->af cc->Prop}
end
def CW(P:Program)(C:Cx)(n:Nat)(c:Code)(Q:Exit->Env->af cc->Prop)(E:Env)(σ:af cc):Prop:=
 ∀a w,Ah C n E σ a w->c.wp P (λe a' w'=>∃E' σ',Ah C n E' σ' a' w'/\Q e E' σ') a w
section
variable {P:Program} {C:Cx} {n:Nat} {c x y:Code} {Q Q':Exit->Env->af cc->Prop} {E E':Env} {σ σ':af cc}
def X6{a:Act}{w:World}{cnd:Operand}{b:Bool}(ha:Ah C n E σ a w)(hc:E.ev cnd=V (.lit (.bool b))):a.eval cnd= .bool b:=by
 exact(ha.slots.ops _ _ hc).cL
def Good.drew{w:World}(h:Good C σ w):Good C σ w.drew:=
 ⟨h.kept.trans (Kp.drew w) (by simp),λr hr=>(h.res r hr).mono (λb _ hA=>⟨hA,rfl⟩) (λ_ _=>rfl),h.Ju,h.own⟩
def Ah.drew{a:Act}{w:World}(h:Ah C n E σ a w):Ah C n E σ a w.drew:=
 ⟨h.defers,h.size,λi u hi=>let ⟨v,h1,h2⟩:=h.slots i u hi;⟨v,h1,h2.mono λ_ _ hA=>⟨hA,rfl⟩⟩,h.good.drew⟩
def rO{σ σ':af cc}(h:∀r∈σ',r∈σ):∀b∈bC σ',b∈bC σ:=λb hb=>by
 obtain⟨r,h1,h2⟩:=bQ.1 hb;exact bQ.2 ⟨r,h r h1,h2⟩
def Ah.less{a:Act}{w:World}(h:Ah C n E σ a w)(hs:List.Sublist σ' σ):Ah C n E σ' a w:=by
 have hm:∀r∈σ',r∈σ:=λr hr=>hs.subset hr;have hal:∀b,al C σ b->al C σ' b:=λb hb=>⟨hb.1,λhx=>hb.2 (rO hm b hx)⟩;exact⟨h.defers.step (λb _ hA=>⟨hal b hA,rfl⟩),h.size,λi u hi=>let ⟨v,h1,h2⟩:=h.slots i u hi;⟨v,h1,h2.mono λb _ hA=>⟨hal b hA,rfl⟩⟩,
  ⟨h.good.kept,λr hr=>(h.good.res r (hm r hr)).mono (λb _ hA=>⟨hal b hA,rfl⟩) (λ_ _=>rfl),h.good.Ju.sublist (hs.filterMap _),λb hb=>h.good.own b (rO hm b hb)⟩⟩
def Ah.perm{a:Act}{w:World}(h:Ah C n E σ a w)(hp:List.Perm σ σ'):Ah C n E σ' a w:=by
 have hb:∀b,b∈bC σ'↔b∈bC σ:=λb=>(hp.filterMap _).symm.mem_iff;have hal:∀b,al C σ b->al C σ' b:=λb hA=>⟨hA.1,λhx=>hA.2 ((hb b).1 hx)⟩;exact⟨h.defers.step (λb _ hA=>⟨hal b hA,rfl⟩),h.size,λi u hi=>let ⟨v,h1,h2⟩:=h.slots i u hi;⟨v,h1,h2.mono λb _ hA=>⟨hal b hA,rfl⟩⟩,
  ⟨h.good.kept,λr hr=>(h.good.res r (hp.mem_iff.2 hr)).mono (λb _ hA=>⟨hal b hA,rfl⟩) (λ_ _=>rfl),(hp.filterMap _).nodup_iff.1 h.good.Ju,λb hx=>h.good.own b ((hb b).1 hx)⟩⟩
end
end Go.Iv
end
noncomputable section
namespace Go.Iv
variable [U:EU]
open Go Go.RowKit
def uR(k:IntKind)(x y:Int):Int:=k.wrap ((BitVec.ofInt k.bits x&&&BitVec.ofInt k.bits y).toNat)
def bOr(k:IntKind)(x y:Int):Int:=k.wrap ((BitVec.ofInt k.bits x|||BitVec.ofInt k.bits y).toNat)
def atU(k:IntKind)(x y:Int):Int:=k.wrap ((BitVec.ofInt k.bits x^^^BitVec.ofInt k.bits y).toNat)
def aru(k:IntKind)(x y:Int):Int:=k.wrap ((BitVec.ofInt k.bits x&&& ~~~ BitVec.ofInt k.bits y).toNat)
def nW(k:IntKind)(x y:Int):Int:=k.wrap (x*2^(min y.toNat k.bits))
def cT(k:IntKind)(x y:Int):Int:=x.fdiv (2^(min y.toNat k.bits))
abbrev b7.i{de:Nat->Type}(n:Int):b7 de:= .lit (.int .i64 n)
abbrev b7.n{de:Nat->Type}(k:IntKind)(n:Int):b7 de:= .lit (.int k n)
abbrev b7.b{de:Nat->Type}(b:Bool):b7 de:= .lit (.bool b)
abbrev b7.s{de:Nat->Type}(s:ByteArray):b7 de:= .lit (.string s)
section
variable {A:Nat->Prop} {w:World} {as0 bs:af AV} {us vs:af Value} {a:AV} {v:Value}
def bN.nil:bN A w [] []:=⟨rfl,λj a v h=>by cases h⟩
def bN.cons(h:Rel A w a v)(hs:bN A w as0 us):bN A w (a::as0) (v::us):=by
 refine⟨by simp[hs.1],λj x y h1 h2=> ?_⟩;cases j with
 |zero=>simp at h1 h2;subst h1 h2;exact h
 |succ j=>exact hs.2 j x y (by simpa using h1) (by simpa using h2)
def bN.head(h:bN A w (a::as0) us):∃v us',us=v::us'/\Rel A w a v/\bN A w as0 us':=by
 match us,h with
 |[],h=>exact dS h.1 (by simp)
 |v::us',h=>exact⟨v,us',rfl,h.2 0 a v rfl rfl,by simpa using h.1,λj x y h1 h2=>h.2 (j+1) x y (by simpa using h1) (by simpa using h2)⟩
def bN.app(h:bN A w as0 us)(h':bN A w bs vs):bN A w (as0++bs) (us++vs):=by
 refine⟨by simp[h.1,h'.1],λj x y h1 h2=> ?_⟩;rw[xy]at h1 h2;rw[h.1]at h2;split at h1
 ·rw[bB (by assumption)]at h2;exact h.2 j x y h1 h2
 ·rw[bL (by assumption)]at h2;exact h'.2 _ x y h1 h2
def bN.take(n:Nat)(h:bN A w as0 us):bN A w (as0.take n) (us.take n):=by
 refine⟨by simp[h.1],λj x y h1 h2=> ?_⟩;rw[yF]at h1 h2;split at h1
 ·rw[bB (by assumption)]at h2;exact h.2 j x y h1 h2
 ·cases h1
def bN.drop(n:Nat)(h:bN A w as0 us):bN A w (as0.drop n) (us.drop n):=by
 refine⟨by simp[h.1],λj x y h1 h2=> ?_⟩;rw[yG]at h1 h2;exact h.2 _ x y h1 h2
def bN.get(h:bN A w as0 us){j:Nat}(hj:as0[j]? =V a):∃v,us[j]? =V v/\Rel A w a v:=by
 have hlt:j<zY us:=by rw[h.1];exact(z7.1 hj).1
 exact⟨us[j],zm hlt,h.2 j a _ hj (zm hlt)⟩
def bN.lits(us:af Value):bN A w (us.map .lit) us:=⟨by simp,λj a v h1 h2=>by
 rw[ye,h2]at h1;cases h1;exact .lit v⟩
def Rel.qA{cs:af AV}(h:bN A w cs us):Rel A w (.agg cs) (.agg us.toArray):= .agg cs us h.1 h.2
def Rel.Jg{cs:af AV}(h:bN A w cs us):Rel A w (.jo cs) (.tuple us.toArray):= .jo cs us h.1 h.2
end
section
variable {A:Nat->Prop} {w:World} {v:Value} {cs:af AV}
def Rel.pY(h:Rel A w (.agg cs) v):∃us:af Value,v= .agg us.toArray/\bN A w cs us:=by
 generalize ha:b7.agg cs=a at h;cases h with
 |agg cs us hl hr=>cases ha;exact⟨us,rfl,hl,hr⟩
 |_=>cases ha
def Rel.Tz(h:Rel A w (.jo cs) v):∃us:af Value,v= .tuple us.toArray/\bN A w cs us:=by
 generalize ha:b7.jo cs=a at h;cases h with
 |jo cs us hl hr=>cases ha;exact⟨us,rfl,hl,hr⟩
 |_=>cases ha
def Rel.ab5{f:Fn}(h:Rel A w (.fn f cs) v):∃us:af Value,v= .func f #[] us.toArray/\bN A w cs us:=by
 generalize ha:b7.fn f cs=a at h;cases h with
 |fn f cs us hl hr=>cases ha;exact⟨us,rfl,hl,hr⟩
 |_=>cases ha
def Rel.Iu(h:Rel A w (.fp cs) v):∃b o us,v= .pointer (V ⟨b,o,G⟩)/\b<w.heap.size/\A b/\(∀(j:Nat) u,us[j]? =V u->w.cell? ⟨b,o+j,G⟩=V u)/\bN A w cs us:=by
 generalize ha:b7.fp cs=a at h;cases h with
 |fp cs b o us hb hA hl hc hr=>cases ha;exact⟨b,o,us,rfl,hb,hA,hc,hl,hr⟩
 |_=>cases ha
def Rel.JN{u:Value}{k:Nat}(h:Rel A w (.rp u k) v):∃g,gD u=V g/\v= .pointer (V ⟨g,k,G⟩):=by
 generalize ha:b7.rp u k=a at h;cases h with
 |rp u k g h=>cases ha;exact⟨g,h,rfl⟩
 |_=>cases ha
def Rel.Bu{q:Nat}{l:af (U.de q)}(h:Rel A w (.sl q l) v):∃p cap,∃u:Nat->Nat->Value,v= .slice p (zY l) cap/\zY l<=9223372036854775807/\zY l<=cap/\(∀i,i<zY l->zY (U.cells q l[i]!)=(U.sz q))/\
  (∀i,i<zY l->∃b off,p=V ⟨b,off,G⟩/\b<w.heap.size/\A b/\∀j,j<(U.sz q)->w.cell? ⟨b,off+i*(U.sz q)+j,G⟩=V (u i j))/\∀i j a,i<zY l->(U.cells q l[i]!)[j]? =V a->Rel A w a (u i j):=by
 generalize ha:b7.sl q l=a at h;cases h with
 |sl q l p cap u hl hcap hz hc hr=>
  cases ha;exact⟨p,cap,u,rfl,hl,hcap,hz,hc,hr⟩
 |_=>cases ha
def Rel.aEB{q:Nat}{l:af (U.de q)}{p:aa Addr}{n cap:Nat}(h:Rel A w (.sl q l) (.slice p n cap)){i:Nat}(hi:i<zY l):
  ∃b off us,p=V ⟨b,off,G⟩/\b<w.heap.size/\A b/\zY us=(U.sz q)/\(∀(j:Nat) u,us[j]? =V u->w.cell? ⟨b,off+i*(U.sz q)+j,G⟩=V u)/\bN A w (U.cells q l[i]!) us:=by
 obtain⟨p',cap',u,hv,_,_,h1,h2,h3⟩:=h.Bu;cases hv;obtain⟨b,off,hp,hb,hA,hc⟩:=h2 i hi;refine⟨b,off,(zH (U.sz q)).map (u i),hp,hb,hA,by simp,λj v hj=> ?_,by rw[zB,we,h1 i hi],λj a v ha hv=> ?_⟩
 ·rw[ye]at hj;by_cases hlt:j<(U.sz q)
  ·simp_all
  ·simp_all
 ·have hlt:j<(U.sz q):=by rw[<-h1 i hi];exact(z7.1 ha).1
  rw[ye,List.getElem?_range hlt]at hv;cases hv;exact h3 i j a hi ha
end
def gh.len{w:World}{v:Value}{T:TypeId}{sz n:Nat}{us:af Value}(h:gh w v T sz n us):∃p cap,v= .slice p n cap/\n<=cap:=by
 rcases h.2 with ⟨p,rfl,rfl⟩|⟨g,cap,cur,rfl,hg,h1,_⟩
 ·simp
 ·exact⟨_,_,rfl,h1⟩
def gh.at{w:World}{v:Value}{T:TypeId}{sz n:Nat}{us:af Value}(h:gh w v T sz n us)(hn:0<n):∃g cap cur,v= .slice (V ⟨g,0,G⟩) n (cap+1)/\gD v=V g/\Blk w g cur T/\n<=cap+1/\cap+1<=maxLen/\cur.size=(cap+1)*sz/\cur.toList.take (n*sz)=us:=by
 rcases h.2 with ⟨p,rfl,rfl⟩|⟨g,cap,cur,rfl,hg,h1⟩
 ·cases hn
 ·exact⟨g,cap,cur,rfl,rfl,hg,h1⟩
def gh.cells{w:World}{v:Value}{T:TypeId}{sz n:Nat}{us:af Value}(h:gh w v T sz n us){g:Nat}(hg:gD v=V g):∀(j:Nat) u,us[j]? =V u->w.cell? ⟨g,j,G⟩=V u:=λj u hj=>by
 rcases h.2 with ⟨p,rfl,rfl⟩|⟨g',cap,cur,rfl,q1,_,_,_,q2⟩
 ·cases p<;>cases hg
 ·cases hg;rw[<-q2,yF]at hj;split at hj
  ·exact Blk.cell q1 (by simpa using hj)
  ·cases hj
def Env.Pr(E:Env):af Operand->aa (af AV)
 |[]=>V []
 |x::xs=>match E.ev x,Env.Pr E xs with
  |some a,V as0=>V (a::as0)
  |_,_=>G
def Env.K8{A:Nat->Prop}{w:World}{E:Env}{ρ:Operand->Value}(h:RU A w E ρ):∀{xs:af Operand} {as0:af AV},E.Pr xs=V as0->bN A w as0 (xs.map ρ)
 |[],as0,he=>by cases he;exact bN.nil
 |x::xs,as0,he=>by
  unfold Env.Pr at he;cases h1:E.ev x with
  |none=>rw[h1]at he;cases he
  |some a=>
   cases h2:E.Pr xs with
   |none=>rw[h1,h2]at he;cases he
   |some as'=>
    rw[h1,h2]at he;cases he;exact bN.cons (h x a h1) (Env.K8 h h2)
section
variable {P:Program} {E:Env} {σ:af cc} {o:Oper} {T T' e:TypeId} {x y z:Operand} {av bv:AV} {v u:Value} {m n:Int} {b:Bool} {k:IntKind}
def Yp.lits(h:∀ρ:Operand->Value,(∀x u,E.ev x=V (.lit u)->ρ x=u)->∀w,(execOp ρ o).run P w= .ok (.value v) w):Yp P E σ o (.lit v):=λA w ρ _ hρ=>
 ⟨v, .lit v,λw' _=>h ρ (λx u hx=>(hρ x _ hx).cL) w'⟩
def Yp.move(ho:o.op= .move x)(hx:E.ev x=V av):Yp P E σ o av:=λA w ρ _ hρ=>
 ⟨ρ x,hρ _ _ hx,λw' _=>by simp[execOp,ho]⟩
def Yp.assign(ho:o.op= .assign x)(hx:E.ev x=V av):Yp P E σ o av:=λA w ρ _ hρ=>
 ⟨ρ x,hρ _ _ hx,λw' _=>by simp[execOp,ho]⟩
def Yp.ayc(ho:o.op= .pick z x y)(hc:E.ev z=V (.b J))(hx:E.ev x=V av):Yp P E σ o av:=λA w ρ _ hρ=>
 ⟨ρ x,hρ _ _ hx,λw' _=>by simp[execOp,ho,(hρ _ _ hc).cL,asBool]⟩
def Yp.aCm(ho:o.op= .pick z x y)(hc:E.ev z=V (.b O))(hx:E.ev y=V av):Yp P E σ o av:=λA w ρ _ hρ=>
 ⟨ρ y,hρ _ _ hx,λw' _=>by simp[execOp,ho,(hρ _ _ hc).cL,asBool]⟩
def Yp.add(ho:o.op= .binOp .add T x y T')(hx:E.ev x=V (.n k m))(hy:E.ev y=V (.n k n)):Yp P E σ o (.n k (k.wrap (m+n))):=Yp.lits λρ hρ w=>by
 simp[execOp,ho,hρ _ _ hx,hρ _ _ hy,eqGuard,binOp,Op.intArith]
def Yp.sub(ho:o.op= .binOp .sub T x y T')(hx:E.ev x=V (.n k m))(hy:E.ev y=V (.n k n)):Yp P E σ o (.n k (k.wrap (m-n))):=Yp.lits λρ hρ w=>by
 simp[execOp,ho,hρ _ _ hx,hρ _ _ hy,eqGuard,binOp,Op.intArith]
def Yp.mul(ho:o.op= .binOp .mul T x y T')(hx:E.ev x=V (.n k m))(hy:E.ev y=V (.n k n)):Yp P E σ o (.n k (k.wrap (m*n))):=Yp.lits λρ hρ w=>by
 simp[execOp,ho,hρ _ _ hx,hρ _ _ hy,eqGuard,binOp,Op.intArith]
def Yp.quo(ho:o.op= .binOp .quo T x y T')(hx:E.ev x=V (.n k m))(hy:E.ev y=V (.n k n))(h:n≠0):Yp P E σ o (.n k (k.wrap (m.tdiv n))):=Yp.lits λρ hρ w=>by
 simp[execOp,ho,hρ _ _ hx,hρ _ _ hy,eqGuard,binOp,Op.intDiv,h]
def Yp.rem(ho:o.op= .binOp .rem T x y T')(hx:E.ev x=V (.n k m))(hy:E.ev y=V (.n k n))(h:n≠0):Yp P E σ o (.n k (m.tmod n)):=Yp.lits λρ hρ w=>by
 simp[execOp,ho,hρ _ _ hx,hρ _ _ hy,eqGuard,binOp,Op.intDiv,h]
def Yp.and(ho:o.op= .binOp .and T x y T')(hx:E.ev x=V (.n k m))(hy:E.ev y=V (.n k n)):Yp P E σ o (.n k (uR k m n)):=Yp.lits λρ hρ w=>by
 simp[execOp,ho,hρ _ _ hx,hρ _ _ hy,eqGuard,binOp,Op.intBits,uR]
def Yp.or(ho:o.op= .binOp .or T x y T')(hx:E.ev x=V (.n k m))(hy:E.ev y=V (.n k n)):Yp P E σ o (.n k (bOr k m n)):=Yp.lits λρ hρ w=>by
 simp[execOp,ho,hρ _ _ hx,hρ _ _ hy,eqGuard,binOp,Op.intBits,bOr]
def Yp.xor(ho:o.op= .binOp .xor T x y T')(hx:E.ev x=V (.n k m))(hy:E.ev y=V (.n k n)):Yp P E σ o (.n k (atU k m n)):=Yp.lits λρ hρ w=>by
 simp[execOp,ho,hρ _ _ hx,hρ _ _ hy,eqGuard,binOp,Op.intBits,atU]
def Yp.andNot(ho:o.op= .binOp .andNot T x y T')(hx:E.ev x=V (.n k m))(hy:E.ev y=V (.n k n)):Yp P E σ o (.n k (aru k m n)):=Yp.lits λρ hρ w=>by
 simp[execOp,ho,hρ _ _ hx,hρ _ _ hy,eqGuard,binOp,Op.intBits,aru]
def Yp.shl{k':IntKind}(ho:o.op= .binOp .shl T x y T')(hx:E.ev x=V (.n k m))(hy:E.ev y=V (.n k' n))(h:0<=n):Yp P E σ o (.n k (nW k m n)):=Yp.lits λρ hρ w=>by
 have:¬n<0:=au;simp[execOp,ho,hρ _ _ hx,hρ _ _ hy,eqGuard,binOp,Op.shift,nW,this]
def Yp.shr{k':IntKind}(ho:o.op= .binOp .shr T x y T')(hx:E.ev x=V (.n k m))(hy:E.ev y=V (.n k' n))(h:0<=n):Yp P E σ o (.n k (cT k m n)):=Yp.lits λρ hρ w=>by
 have:¬n<0:=au;simp[execOp,ho,hρ _ _ hx,hρ _ _ hy,eqGuard,binOp,Op.shift,cT,this]
def Yp.lss(ho:o.op= .binOp .lss T x y T')(hx:E.ev x=V (.n k m))(hy:E.ev y=V (.n k n)):Yp P E σ o (.b (vn (m<n))):=Yp.lits λρ hρ w=>by
 simp[execOp,ho,hρ _ _ hx,hρ _ _ hy,eqGuard,binOp,Op.intCmp]
def Yp.leq(ho:o.op= .binOp .leq T x y T')(hx:E.ev x=V (.n k m))(hy:E.ev y=V (.n k n)):Yp P E σ o (.b (vn (m<=n))):=Yp.lits λρ hρ w=>by
 simp[execOp,ho,hρ _ _ hx,hρ _ _ hy,eqGuard,binOp,Op.intCmp]
def Yp.gtr(ho:o.op= .binOp .gtr T x y T')(hx:E.ev x=V (.n k m))(hy:E.ev y=V (.n k n)):Yp P E σ o (.b (vn (n<m))):=Yp.lits λρ hρ w=>by
 simp[execOp,ho,hρ _ _ hx,hρ _ _ hy,eqGuard,binOp,Op.intCmp]
def Yp.geq(ho:o.op= .binOp .geq T x y T')(hx:E.ev x=V (.n k m))(hy:E.ev y=V (.n k n)):Yp P E σ o (.b (vn (n<=m))):=Yp.lits λρ hρ w=>by
 simp[execOp,ho,hρ _ _ hx,hρ _ _ hy,eqGuard,binOp,Op.intCmp]
def Yp.eql(ho:o.op= .binOp .eql T x y T')(hx:E.ev x=V (.n k m))(hy:E.ev y=V (.n k n)):Yp P E σ o (.b (vn (m=n))):=Yp.lits λρ hρ w=>by
 have:(m==n)=vn (m=n):=rfl;simp[execOp,ho,hρ _ _ hx,hρ _ _ hy,eqGuard,binOp,Op.intCmp,this]
def Yp.neq(ho:o.op= .binOp .neq T x y T')(hx:E.ev x=V (.n k m))(hy:E.ev y=V (.n k n)):Yp P E σ o (.b (!vn (m=n))):=Yp.lits λρ hρ w=>by
 have:(m !=n)= !vn (m=n):=rfl;simp[execOp,ho,hρ _ _ hx,hρ _ _ hy,eqGuard,binOp,Op.intCmp,this]
def Yp.not(ho:o.op= .unOp .not T x)(hx:E.ev x=V (.b b)):Yp P E σ o (.b (!b)):=Yp.lits λρ hρ w=>by
 simp[execOp,ho,hρ _ _ hx,Op.unary]
def Yp.neg(ho:o.op= .unOp .neg T x)(hx:E.ev x=V (.n k n)):Yp P E σ o (.n k (k.wrap (0-n))):=Yp.lits λρ hρ w=>by
 simp[execOp,ho,hρ _ _ hx,Op.unary,Op.intArith]
def Yp.max(ho:o.op= .call {callee:= .builtin .max,args:=#[x,y],argTypes:=#[T,T']})(hx:E.ev x=V (.n k m))(hy:E.ev y=V (.n k n)):Yp P E σ o (.n k (if m<n then n else m)):=Yp.lits λρ hρ w=>by
 simp[execOp,ho,resolve,invoke,builtin,Builtin.max_,Builtin.max2,hρ _ _ hx,hρ _ _ hy]
def Yp.min(ho:o.op= .call {callee:= .builtin .min,args:=#[x,y],argTypes:=#[T,T']})(hx:E.ev x=V (.n k m))(hy:E.ev y=V (.n k n)):Yp P E σ o (.n k (if n<m then n else m)):=Yp.lits λρ hρ w=>by
 simp[execOp,ho,resolve,invoke,builtin,Builtin.min_,Builtin.min2,hρ _ _ hx,hρ _ _ hy]
def Yp.asC(ho:o.op= .call {callee:= .builtin .len,args:=#[x],argTypes:=#[T]})(hx:E.ev x=V (.lit (.slice G 0 0)))(hT:P.underlying T=V (.slice e)):Yp P E σ o (.i 0):=Yp.lits λρ hρ w=>by
 simp[execOp,ho,resolve,invoke,builtin,Builtin.len_,hρ _ _ hx,run_underlying hT,goInt]
def Yp.azX{q:Nat}{l:af (U.de q)}(ho:o.op= .call {callee:= .builtin .len,args:=#[x],argTypes:=#[T]})(hx:E.ev x=V (.sl q l))(hT:P.underlying T=V (.slice e)):Yp P E σ o (.i (zY l:Int)):=λA w ρ _ hρ=>by
 obtain⟨p,cap,u,hv,_⟩:=(hρ _ _ hx).Bu;exact⟨_, .lit _,λw' _=>by simp[execOp,ho,resolve,invoke,builtin,Builtin.len_,hv,run_underlying hT,goInt]⟩
def Yp.asl{q:Nat}{l:af (U.de q)}(i:Nat)(ho:o.op= .call {callee:= .builtin .len,args:=#[x],argTypes:=#[T]})(hx:E.ev x=V (.lit v))(hσ:σ[i]? =V (.row v q l))(hT:P.underlying T=V (.slice e)):Yp P E σ o (.i (zY l:Int)):=λA w ρ hd hρ=>by
 obtain⟨us,h1,_⟩:=hd.1 _ (List.mem_of_getElem? hσ);obtain⟨p,cap,hv,_⟩:=h1.len;have hx':=(hρ _ _ hx).cL;exact⟨_, .lit _,λw' _=>by simp[execOp,ho,resolve,invoke,builtin,Builtin.len_,hx',hv,run_underlying hT,goInt]⟩
def Yp.av4{s:ByteArray}(ho:o.op= .call {callee:= .builtin .len,args:=#[x],argTypes:=#[T]})(hx:E.ev x=V (.s s))(hT:P.underlying T=V .string):Yp P E σ o (.i (s.size:Int)):=Yp.lits λρ hρ w=>by
 simp[execOp,ho,resolve,invoke,builtin,Builtin.len_,hρ _ _ hx,goInt,run_underlying hT]
def Yp.func{fn:Fn}{fs cs:Array Operand}{as0:af AV}(ho:o.op= .makeFunc fn fs cs)(h0:fs=#[])(hc:E.Pr cs.toList=V as0):Yp P E σ o (.fn fn as0):=λA w ρ _ hρ=>by
 have h:=Env.K8 hρ hc;exact⟨_, .fn fn as0 _ h.1 h.2,λw' _=>by
  have:cs.map ρ=(cs.toList.map ρ).toArray:=by apply Array.ext';simp
  simp[execOp,ho,Instr.makeFunc,h0,this]⟩
def Yp.extract{i:Nat}{cs:af AV}(ho:o.op= .extract x i)(hx:E.ev x=V (.jo cs))(hv:cs[i]? =V av):Yp P E σ o av:=λA w ρ _ hρ=>by
 obtain⟨us,h1,h2⟩:=(hρ _ _ hx).Tz;obtain⟨v,h3,h4⟩:=h2.get hv;exact⟨v,h4,λw' _=>by simp[execOp,ho,Instr.extract,h1,h3]⟩
def Yp.aaS{a:Addr}(ho:o.op= .nilCheck x)(hx:E.ev x=V (.lit (.pointer (V a)))):Yp P E σ o (.lit (.pointer (V a))):=Yp.lits λρ hρ w=>by
 simp[execOp,ho,hρ _ _ hx]
def Yp.aap{cs:af AV}(ho:o.op= .nilCheck x)(hx:E.ev x=V (.fp cs)):Yp P E σ o (.fp cs):=λA w ρ _ hρ=>by
 obtain⟨b,of,us,h1,_⟩:=(hρ _ _ hx).Iu;exact⟨ρ x,hρ _ _ hx,λw' _=>by simp[execOp,ho,h1]⟩
def Yp.ZU{k:Nat}(ho:o.op= .nilCheck x)(hx:E.ev x=V (.rp v k)):Yp P E σ o (.rp v k):=λA w ρ _ hρ=>by
 obtain⟨g,_,h1⟩:=(hρ _ _ hx).JN;exact⟨ρ x,hρ _ _ hx,λw' _=>by simp[execOp,ho,h1]⟩
def q9(b of k:Nat):(⟨b,of,G⟩:Addr).add k=⟨b,of+k,G⟩:=by unfold Addr.add;split<;>simp_all
def Yp.asv{fs:Array Field}{f:Field}{i b' of sz:Nat}(ho:o.op= .fieldAddr T x i)(hx:E.ev x=V (.lit (.pointer (V ⟨b',of,G⟩))))(hT:P.underlying T=V (.struct fs))(hf:fs[i]? =V f)(hs:(P.info? f.type).map (·.size)=V (sz+1)):
  Yp P E σ o (.lit (.pointer (V ⟨b',of+f.offset,G⟩))):=Yp.lits λρ hρ w=>by
 obtain⟨j,hj,hj'⟩:=zn.1 hs;simp[execOp,ho,Instr.fieldAt,hρ _ _ hx,run_underlying hT,hf,Instr.sureAddr,fieldPlace,sizeOf,typeInfo,hj,hj',q9]
def Yp.avP{fs:Array Field}{f:Field}{i sz:Nat}{cs:af AV}(ho:o.op= .fieldAddr T x i)(hx:E.ev x=V (.fp cs))(hT:P.underlying T=V (.struct fs))(hf:fs[i]? =V f)(hs:(P.info? f.type).map (·.size)=V (sz+1)):
  Yp P E σ o (.fp (cs.drop f.offset)):=λA w ρ _ hρ=>by
 obtain⟨j,hj,hj'⟩:=zn.1 hs;obtain⟨b,of,us,h1,hb,hA,hc,hr⟩:=(hρ _ _ hx).Iu;refine⟨_, .fp _ b (of+f.offset) (us.drop f.offset) hb hA (hr.drop _).1 (λj v hj=> ?_) (hr.drop _).2,λw' _=>by simp[execOp,ho,Instr.fieldAt,h1,run_underlying hT,hf,Instr.sureAddr,fieldPlace,sizeOf,typeInfo,hj,hj',q9]⟩;rw[yH];simp_all
def Yp.aui{fs:Array Field}{f:Field}{i sz k:Nat}(ho:o.op= .fieldAddr T x i)(hx:E.ev x=V (.rp v k))(hT:P.underlying T=V (.struct fs))(hf:fs[i]? =V f)(hs:(P.info? f.type).map (·.size)=V (sz+1)):
  Yp P E σ o (.rp v (k+f.offset)):=λA w ρ _ hρ=>by
 obtain⟨j,hj,hj'⟩:=zn.1 hs;obtain⟨g,h1,h2⟩:=(hρ _ _ hx).JN;exact⟨_, .rp v _ g h1,λw' _=>by simp[execOp,ho,Instr.fieldAt,h2,run_underlying hT,hf,Instr.sureAddr,fieldPlace,sizeOf,typeInfo,hj,hj',q9]⟩
def Yp.alw{q:Nat}{l:af (U.de q)}(ho:o.op= .indexAddr T x y)(hx:E.ev x=V (.sl q l))(hy:E.ev y=V (.n k m))(hT:P.underlying T=V (.slice e))(hs:(P.info? e).map (·.size)=V (U.sz q))
  (hm:0<=m/\m<zY l):Yp P E σ o (.fp (U.cells q l[m.toNat]!)):=λA w ρ _ hρ=>by
 obtain⟨j,hj,hj'⟩:=zn.1 hs;have hr:=hρ _ _ hx;obtain⟨p,cap,_,hv,_⟩:=hr.Bu;rw[hv]at hr;obtain⟨b,off,us,hp,hb,hA,hl,hc,hL⟩:=hr.aEB (i:=m.toNat) au;refine⟨_, .fp _ b (off+m.toNat*(U.sz q)) us hb hA hL.1 hc hL.2,λw' _=> ?_⟩;have hy':=(hρ _ _ hy).cL;simp[execOp,ho,Instr.indexAt,hv,hp,hy',run_underlying hT,sizeOf,typeInfo,hj,hj',q9,asIntOf,hm]
def Yp.aeB{q:Nat}{l:af (U.de q)}(i:Nat)(ho:o.op= .indexAddr T x y)(hx:E.ev x=V (.lit v))(hσ:σ[i]? =V (.row v q l))(hy:E.ev y=V (.n k m))(hT:P.underlying T=V (.slice e))(hs:(P.info? e).map (·.size)=V (U.sz q))
  (hm:0<=m/\m<zY l):Yp P E σ o (.rp v (m.toNat*(U.sz q))):=λA w ρ hd hρ=>by
 obtain⟨j,hj,hj'⟩:=zn.1 hs;obtain⟨us,h1,_⟩:=hd.1 _ (List.mem_of_getElem? hσ);obtain⟨g,cap,cur,hv,hg,_⟩:=h1.at au;have hx':=(hρ _ _ hx).cL;have hy':=(hρ _ _ hy).cL;refine⟨_, .rp v _ g hg,λw' _=> ?_⟩;simp[execOp,ho,Instr.indexAt,hx',hv,hy',run_underlying hT,sizeOf,typeInfo,hj,hj',q9,asIntOf,hm]
def Yp.aud{b' of sz n':Nat}(ho:o.op= .indexAddr T x y)(hx:E.ev x=V (.lit (.pointer (V ⟨b',of,G⟩))))(hy:E.ev y=V (.n k m))(hT:P.underlying T=V (.array n' e))(hs:(P.info? e).map (·.size)=V sz)
  (hm:0<=m/\m<n'):Yp P E σ o (.lit (.pointer (V ⟨b',of+m.toNat*sz,G⟩))):=Yp.lits λρ hρ w=>by
 obtain⟨j,hj,hj'⟩:=zn.1 hs;simp[execOp,ho,Instr.indexAt,hρ _ _ hx,hρ _ _ hy,run_underlying hT,sizeOf,typeInfo,hj,hj',q9,asIntOf,hm,Instr.sureAddr]
def Yp.au6{k' sz n':Nat}(ho:o.op= .indexAddr T x y)(hx:E.ev x=V (.rp v k'))(hy:E.ev y=V (.n k m))(hT:P.underlying T=V (.array n' e))(hs:(P.info? e).map (·.size)=V sz)
  (hm:0<=m/\m<n'):Yp P E σ o (.rp v (k'+m.toNat*sz)):=λA w ρ _ hρ=>by
 obtain⟨j,hj,hj'⟩:=zn.1 hs;obtain⟨g,h1,h2⟩:=(hρ _ _ hx).JN;have hy':=(hρ _ _ hy).cL;exact⟨_, .rp v _ g h1,λw' _=>by simp[execOp,ho,Instr.indexAt,h2,hy',run_underlying hT,sizeOf,typeInfo,hj,hj',q9,asIntOf,hm,Instr.sureAddr]⟩
def Yp.auC{sz n':Nat}{cs:af AV}(ho:o.op= .indexAddr T x y)(hx:E.ev x=V (.fp cs))(hy:E.ev y=V (.n k m))(hT:P.underlying T=V (.array n' e))(hs:(P.info? e).map (·.size)=V sz)
  (hm:0<=m/\m<n'):Yp P E σ o (.fp (cs.drop (m.toNat*sz))):=λA w ρ _ hρ=>by
 obtain⟨j,hj,hj'⟩:=zn.1 hs;obtain⟨b,of,us,h1,hb,hA,hc,hr⟩:=(hρ _ _ hx).Iu;have hy':=(hρ _ _ hy).cL;refine⟨_, .fp _ b (of+m.toNat*sz) (us.drop (m.toNat*sz)) hb hA (hr.drop _).1 (λj v hj=> ?_) (hr.drop _).2,λw' _=>by simp[execOp,ho,Instr.indexAt,h1,hy',run_underlying hT,sizeOf,typeInfo,hj,hj',q9,asIntOf,hm,Instr.sureAddr]⟩;rw[yH];simp_all
def uj(P:Program)(T:TypeId):Prop:=∃d,P.underlying T=V d/\match d with| .struct _| .array _ _=>False|_=>True
def nJ(h:uj P T)(w:World):(isAgg T).run P w= .ok O w:=by
 obtain⟨d,hd,hm⟩:=h;unfold isAgg;cases d<;>first|exact hm.elim|simp[run_underlying hd]
def iW{w:World}{a:Addr}(h:uj P T)(hc:w.cell? a=V v):(loadVar T a).run P w= .ok v w:=by
 unfold loadVar;simp[nJ h,Sem.run,hc]
def v8(P:Program)(T:TypeId)(k:Nat):Prop:=(∃d,P.underlying T=V d/\match d with| .struct _| .array _ _=>True|_=>False)/\(P.info? T).map (·.size)=V k
def GQ{k:Nat}(h:v8 P T k)(w:World):(isAgg T).run P w= .ok J w:=by
 obtain⟨⟨d,hd,hm⟩,_⟩:=h;unfold isAgg;cases d<;>first|exact hm.elim|simp[run_underlying hd]
def run_loadCellsFrom{w:World}(a:Addr):∀(cs:af Value) (i:Nat) (acc:Array Value),(∀j u,cs[j]? =V u->w.cell? (a.add (i+j))=V u)->(loadCellsFrom a i (zY cs) acc).run P w= .ok (acc++cs.toArray) w
 |[],i,acc,_=>by simp[loadCellsFrom]
 |c::cs,i,acc,h=>by
  have h0:=h 0 c rfl;rw[yg]at h0;simp only[yw,loadCellsFrom];have ih:=run_loadCellsFrom a cs (i+1) (acc.push c) λj u hj=>by
   have:=h (j+1) u (by simpa using hj)
   rwa [show i+(j+1)=i+1+j from au]at this
  simp[Sem.run,h0,ih]
def iH{w:World}{a:Addr}{cs:af Value}(h:v8 P T (zY cs))(hc:∀j u,cs[j]? =V u->w.cell? (a.add j)=V u):(loadVar T a).run P w= .ok (.agg cs.toArray) w:=by
 obtain⟨i,hi,hi'⟩:=zn.1 h.2;have:=run_loadCellsFrom (P:=P) (w:=w) a cs 0 #[] (by simpa using hc);unfold loadVar;simp[GQ h,sizeOf,typeInfo,hi,hi',loadCells,this]
def lW{w w':World}{b o:Nat}(h:w'.heap[b]? =w.heap[b]?):w'.cell? ⟨b,o,G⟩=w.cell? ⟨b,o,G⟩:=by simp[World.cell?,h]
def Yp.asc{cs:af AV}(ho:o.op= .load T x)(hx:E.ev x=V (.fp cs))(hT:uj P T)(ha:cs[0]? =V av):Yp P E σ o av:=λA w ρ _ hρ=>by
 obtain⟨b,of,us,h1,hb,hA,hc,hr⟩:=(hρ _ _ hx).Iu;obtain⟨v,h2,h3⟩:=hr.get ha;refine⟨v,h3,λw' hw=> ?_⟩;have hcell:w'.cell? ⟨b,of,G⟩=V v:=by rw[lW (hw b hb (.inl hA))];exact hc 0 v h2
 simp[execOp,ho,Instr.loadAt,h1,Instr.sureAddr,iW hT hcell]
def Yp.asf{cs:af AV}{n:Nat}(ho:o.op= .load T x)(hx:E.ev x=V (.fp cs))(hT:v8 P T n)(hn:n<=zY cs):Yp P E σ o (.agg (cs.take n)):=λA w ρ _ hρ=>by
 obtain⟨b,of,us,h1,hb,hA,hc,hr⟩:=(hρ _ _ hx).Iu;refine⟨_,Rel.qA (hr.take n),λw' hw=> ?_⟩;have hcell:∀j u,(us.take n)[j]? =V u->w'.cell? ((⟨b,of,G⟩:Addr).add j)=V u:=λj u hj=>by
  rw[q9,lW (hw b hb (.inl hA))];rw[yF]at hj;simp_all
 have hl:zY (us.take n)=n:=by rw[zD,hr.1];omega
 simp[execOp,ho,Instr.loadAt,h1,Instr.sureAddr,iH (by rw[hl];exact hT) hcell]
def Yp.as2{b' of:Nat}{cs:af AV}{t:TypeId}(i:Nat)(ho:o.op= .load T x)(hx:E.ev x=V (.lit (.pointer (V ⟨b',of,G⟩))))(hσ:σ[i]? =V (.box b' t cs))(hT:uj P T)(ha:cs[of]? =V av):Yp P E σ o av:=λA w ρ hd hρ=>by
 have hm:=List.mem_of_getElem? hσ;obtain⟨us,h1,hr⟩:=hd.1 _ hm;obtain⟨v,h2,h3⟩:=bN.get hr ha;have hx':=(hρ _ _ hx).cL;refine⟨v,h3,λw' hw=> ?_⟩;have hcell:w'.cell? ⟨b',of,G⟩=V v:=by rw[lW (hw b' h1.lt (.inr (bQ.2 ⟨_,hm,rfl⟩)))];exact h1.cell (by simpa using h2)
 simp[execOp,ho,Instr.loadAt,hx',Instr.sureAddr,iW hT hcell]
def Yp.asa{b' of n:Nat}{cs:af AV}{t:TypeId}(i:Nat)(ho:o.op= .load T x)(hx:E.ev x=V (.lit (.pointer (V ⟨b',of,G⟩))))(hσ:σ[i]? =V (.box b' t cs))(hT:v8 P T n)(hn:of+n<=zY cs):Yp P E σ o (.agg ((cs.drop of).take n)):=λA w ρ hd hρ=>by
 have hm:=List.mem_of_getElem? hσ;obtain⟨us,h1,hr⟩:=hd.1 _ hm;have hx':=(hρ _ _ hx).cL;refine⟨_,Rel.qA ((bN.drop of hr).take n),λw' hw=> ?_⟩;have hcell:∀j u,((us.drop of).take n)[j]? =V u->w'.cell? ((⟨b',of,G⟩:Addr).add j)=V u:=λj u hj=>by
  rw[q9,lW (hw b' h1.lt (.inr (bQ.2 ⟨_,hm,rfl⟩)))];rw[yF]at hj;split at hj
  ·rw[yG]at hj;exact h1.cell (by simpa using hj)
  ·cases hj
 have hl:zY ((us.drop of).take n)=n:=by rw[zD,zV,hr.1];omega
 simp[execOp,ho,Instr.loadAt,hx',Instr.sureAddr,iH (by rw[hl];exact hT) hcell]
def Yp.abY{k of:Nat}{q:Nat}{l:af (U.de q)}(i m:Nat)(ho:o.op= .load T x)(hx:E.ev x=V (.rp v k))(hσ:σ[i]? =V (.row v q l))(hT:uj P T)(hk:k=m*(U.sz q)+of)(hm:m<zY l)(ha:(U.cells q l[m]!)[of]? =V av):Yp P E σ o av:=λA w ρ hd hρ=>by
 have hmem:=List.mem_of_getElem? hσ;obtain⟨us,h1,h2,h3⟩:=hd.1 _ hmem;obtain⟨g,hg,hv⟩:=(hρ _ _ hx).JN;obtain⟨u,h4,h5⟩:=(h3 m hm).get ha;refine⟨u,h5,λw' hw=> ?_⟩;rw[yF]at h4;split at h4
 ·rw[yG]at h4;have hcell:w'.cell? ⟨g,k,G⟩=V u:=by rw[lW (hw g (h1.lt hg) (.inr (bQ.2 ⟨_,hmem,hg⟩))),hk];exact h1.cells hg _ u h4
  simp[execOp,ho,Instr.loadAt,hv,Instr.sureAddr,iW hT hcell]
 ·cases h4
def Yp.ar0{k of n:Nat}{q:Nat}{l:af (U.de q)}(i m:Nat)(ho:o.op= .load T x)(hx:E.ev x=V (.rp v k))(hσ:σ[i]? =V (.row v q l))(hT:v8 P T n)(hk:k=m*(U.sz q)+of)(hm:m<zY l)(hn:of+n<=(U.sz q)):Yp P E σ o (.agg (((U.cells q l[m]!).drop of).take n)):=λA w ρ hd hρ=>by
 have hmem:=List.mem_of_getElem? hσ;obtain⟨us,h1,h2,h3⟩:=hd.1 _ hmem;obtain⟨g,hg,hv⟩:=(hρ _ _ hx).JN;have hL:=h3 m hm;refine⟨_,Rel.qA ((hL.drop of).take n),λw' hw=> ?_⟩;have hcell:∀j u,((((us.drop (m*(U.sz q))).take (U.sz q)).drop of).take n)[j]? =V u->w'.cell? ((⟨g,k,G⟩:Addr).add j)=V u:=λj u hj=>by
  rw[q9,lW (hw g (h1.lt hg) (.inr (bQ.2 ⟨_,hmem,hg⟩))),hk];rw[yF]at hj;split at hj
  ·rw[yG,yF]at hj;split at hj
   ·rw[yG]at hj;exact h1.cells hg _ u (by rw[yH];exact hj)
   ·cases hj
  ·cases hj
 have hl:zY ((((us.drop (m*(U.sz q))).take (U.sz q)).drop of).take n)=n:=by rw[zD,zV,hL.1,h2 m hm];omega
 simp[execOp,ho,Instr.loadAt,hv,Instr.sureAddr,iH (by rw[hl];exact hT) hcell]
end
def fE(r:cc)(σ:af cc):bC (r::σ)=r.blk.toList++bC σ:=by
 unfold bC;grind
def ia(σ j:af cc):bC (σ++j)=bC σ++bC j:=by simp[bC]
def qP{C:Cx}{σ:af cc}{w w':World}{r:cc}(h:Good C σ w)(hk:Kp [] w w')(hr:r.blk=G\/r.blk=V w.heap.size)(hok:r.ok (al C (r::σ)) w'):Tr C [] σ w (r::σ) w':=by
 have hlt:∀b∈bC σ,b<w.heap.size:=λb hb=>by
  obtain⟨s,h1,h2⟩:=bQ.1 hb;exact(h.res s h1).lt h2
 have hal:∀b,b<w.heap.size->al C σ b->al C (r::σ) b:=λb hb hA=>⟨hA.1,λhx=>by
  rw[fE]at hx;rcases zP.1 hx with hx|hx
  ·simp_all
  ·exact hA.2 hx⟩
 have hsame:∀b,b<w.heap.size->w'.heap[b]? =w.heap[b]? :=λb hb=>hk.block b hb (by simp);refine⟨⟨h.kept.trans hk (by simp),λs hs=> ?_,?_,λb hb=> ?_⟩,hk,λb hb hA=>⟨hal b hb hA,by simp⟩⟩
 ·rcases zx.1 hs with rfl|hs
  ·omega
  ·exact(h.res s hs).mono (λb hb hA=>⟨hal b hb hA,hsame b hb⟩) (λb hb=>hsame b ((h.res s hs).lt hb))
 ·rw[fE];rcases hr with hr|hr
  ·rw[hr];simpa using h.Ju
  ·rw[hr];simp only[xO,xz,List.nodup_cons];exact⟨λhx=>by have:=hlt _ hx;omega,h.Ju⟩
 ·rw[fE]at hb;rcases zP.1 hb with hx|hx
  ·rcases hr with hr|hr<;>rw[hr]at hx<;>simp at hx;exact .inr (by rw[hx];exact h.kept.size)
  ·exact h.own b hx
def Dc{σ:af cc}{i:Nat}{r r':cc}(h:σ[i]? =V r):σ=σ.take i++r::σ.drop (i+1)/\σ.set i r'=σ.take i++r'::σ.drop (i+1):=by
 obtain⟨hi,hr⟩:=z7.1 h;refine⟨?_,wR .. |>.trans (by rw[bB hi])⟩;rw[<-hr,<-yQ hi,xA]
def FE{σ:af cc}{i:Nat}{r r':cc}(h:σ[i]? =V r)(hb:r'.blk=r.blk):bC (σ.set i r')=bC σ:=by
 obtain⟨q1,q2⟩:=Dc (r':=r') h;have e:bC σ=bC (σ.take i++r::σ.drop (i+1)):=congrArg bC q1;rw[q2,e];simp[ia,fE,hb]
def G6{C:Cx}{σ:af cc}{w w':World}{r r':cc}{i:Nat}(h:Good C σ w)(hi:σ[i]? =V r)(hk:Kp r.blk.toList w w')(hr:r'.blk=r.blk\/r'.blk=V w.heap.size)(hok:r'.ok (al C (σ.set i r')) w'):Tr C r.blk.toList σ w (σ.set i r') w':=by
 obtain⟨h1,h2⟩:=Dc (r':=r') hi;generalize σ.take i=σ1 at h1 h2;generalize σ.drop (i+1)=σ2 at h1 h2;rw[h2]at hok ⊢;clear h2 hi;subst h1;have hlt:∀b∈bC (σ1++r::σ2),b<w.heap.size:=λb hb=>by
  obtain⟨s,h1,h2⟩:=bQ.1 hb;exact(h.res s h1).lt h2
 have hb0:bC (σ1++r::σ2)=bC σ1++(r.blk.toList++bC σ2):=by rw[ia,fE]
 have hb1:bC (σ1++r'::σ2)=bC σ1++(r'.blk.toList++bC σ2):=by rw[ia,fE]
 have hmem:∀b,b∈bC (σ1++r'::σ2)->b∈bC (σ1++r::σ2)\/b=w.heap.size:=λb hb=>by
  rw[hb1]at hb;rw[hb0];simp only[zP]at hb ⊢;rcases hb with hb|hb|hb
  ·exact .inl (.inl hb)
  ·rcases hr with hr|hr<;>rw[hr]at hb
   ·exact .inl (.inr (.inl hb))
   ·simp at hb;exact .inr hb
  ·exact .inl (.inr (.inr hb))
 have hal:∀b,b<w.heap.size->al C (σ1++r::σ2) b->al C (σ1++r'::σ2) b:=λb hb hA=>⟨hA.1,λhx=>by
  rcases hmem b hx with h|h
  ·exact hA.2 h
  ·omega⟩
 have hnr:∀b,al C (σ1++r::σ2) b->b∉r.blk.toList:=λb hA hx=>hA.2 (by rw[hb0];simp[hx]);have hother:∀s,s∈σ1\/s∈σ2->∀b,s.blk=V b->b∉r.blk.toList:=λs hs b hb hx=>by
  have hd:=h.Ju;rw[hb0]at hd;rcases hs with hs|hs
  ·exact(yN.1 hd).2.2 b (bQ.2 ⟨s,hs,hb⟩) b (yJ _ hx) rfl
  ·exact(yN.1 (yN.1 hd).2.1).2.2 b hx b (bQ.2 ⟨s,hs,hb⟩) rfl
 refine⟨⟨h.kept.trans hk (λb hb hlt0=> ?_),λs hs=> ?_,?_,λb hb=> ?_⟩,hk,λb hb hA=>⟨hal b hb hA,hnr b hA⟩⟩
 ·have:b∈bC (σ1++r::σ2):=by rw[hb0];simp[hb]
  rcases h.own b this with h|h
  ·exact h
  ·omega
 ·have hs':s=r'\/s∈σ1\/s∈σ2:=by
   simp only[zP,zx]at hs;rcases hs with h|h|h
   ·simp_all
   ·simp_all
   ·simp_all
  rcases hs' with rfl|hs'
  ·omega
  ·have hm:s∈σ1++r::σ2:=by rcases hs' with h|h<;>simp[h]
   exact(h.res s hm).mono (λb hb hA=>⟨hal b hb hA,hk.block b hb (hnr b hA)⟩) (λb hb=>hk.block b ((h.res s hm).lt hb) (hother s hs' b hb))
 ·have hd:=h.Ju;rcases hr with hr|hr
  ·simp_all
  ·rw[hb1,hr];rw[hb0]at hd;have hn1:w.heap.size∉bC σ1:=λhx=>by have:=hlt w.heap.size (by rw[hb0];simp[zP,hx]);omega
   have hn2:w.heap.size∉bC σ2:=λhx=>by have:=hlt w.heap.size (by rw[hb0];simp[hx]);omega
   obtain⟨d1,d2,d3⟩:=yN.1 hd;obtain⟨d4,d5,d6⟩:=yN.1 d2;refine yN.2 ⟨d1,?_,λa ha b hb hab=> ?_⟩
   ·simp only[xO,xz,List.nodup_cons];exact⟨hn2,d5⟩
   ·subst hab;simp only[xO,xz,yB,zx]at hb;rcases hb with rfl|hb
    ·simp_all
    ·exact d3 a ha a (yK _ hb) rfl
 ·rcases hmem b hb with h1|h1
  ·exact h.own b h1
  ·exact .inr (by rw[h1];exact h.kept.size)
def auM{C:Cx}{σ:af cc}{w:World}{r:cc}(h:r.blk=G\/r.blk=V w.heap.size):∀b,b<w.heap.size->al C σ b->al C (r::σ) b:=λb hb hA=>⟨hA.1,λhx=>by
 rw[fE]at hx;rcases zP.1 hx with hx|hx
 ·simp_all
 ·exact hA.2 hx⟩
def kJ(w:World)(x:Obj):Kp [] w (w.alloc x):=⟨rfl,rfl,rfl,zl _,by simp,λk hk _=>heap_alloc_old w x hk⟩
def JM(w:World)(x:Obj):Kp [] w (w.drew.alloc x):=⟨rfl,rfl,rfl,yd _,by simp,λk hk _=>heap_alloc_old w.drew x hk⟩
def QX{C:Cx}{σ:af cc}{w w':World}{r:cc}{as0:af AV}{us:af Value}(hr:bN (al C σ) w as0 us)(h:r.blk=G\/r.blk=V w.heap.size)(hk:Kp [] w w'):bN (al C (r::σ)) w' as0 us:=
 hr.mono λb hb hA=>⟨auM h b hb hA,hk.block b hb (by simp)⟩
def dU:AV->af AV
 | .agg cs=>cs
 |a=>[a]
def jc:AV->Bool
 | .lit v=>v.oneCell'
 | .jo _=>O
 | .agg _=>O
 |_=>J
def FZ:AV->Bool
 | .agg cs=>cs.all jc
 |a=>jc a
def uf{v:Value}(h:v.oneCell'=true):v.cells=#[v]:=by cases v<;>first|rfl|cases h
def Rel.one{A:Nat->Prop}{w:World}{a:AV}{v:Value}(h:Rel A w a v)(h1:jc a=J):v.oneCell'=J:=by
 cases h with
 |lit v=>exact h1
 |agg=>cases h1
 |jo=>cases h1
 |_=>rfl
def bN.one{A:Nat->Prop}{w:World}{as0:af AV}{us:af Value}(h:bN A w as0 us)(h1:as0.all jc=J):∀v∈us,v.oneCell'=J:=λv hv=>by
 obtain⟨j,hj,rfl⟩:=xd hv;have hlt:j<zY as0:=by rw[<-h.1];exact hj
 exact(h.2 j as0[j] us[j] (zm hlt) (zm hj)).one (zw.1 h1 _ (xP hlt))
def Rel.cells{A:Nat->Prop}{w:World}{a:AV}{v:Value}(h:Rel A w a v)(h1:FZ a=J):bN A w (dU a) v.cells.toList/\∀u∈v.cells.toList,u.oneCell'=J:=by
 by_cases ha:∃cs,a= .agg cs
 ·obtain⟨cs,rfl⟩:=ha;obtain⟨us,rfl,h2⟩:=h.pY;exact⟨by simpa [Value.cells,dU]using h2,by simpa [Value.cells]using h2.one h1⟩
 ·have hc:jc a=J:=by
   cases a<;>first|exact h1|(exact dS ⟨_,rfl⟩ ha)
  have hac:dU a=[a]:=by
   cases a<;>first|rfl|(exact dS ⟨_,rfl⟩ ha)
  have h2:=h.one hc;rw[hac,uf h2];refine⟨⟨rfl,λj x y hx hy=> ?_⟩,λu hu=>by simp at hu;rw[hu];exact h2⟩;cases j with
  |zero=>simp at hx hy;subst hx hy;exact h
  |succ j=>simp at hx
def Pw(σ:af cc)(a:AV):Prop:=∀(A:Nat->Prop) (w:World) (v:Value),Hd A σ w->Rel A w a v->bN A w (dU a) v.cells.toList/\∀u∈v.cells.toList,u.oneCell'=J
def anQ{σ:af cc}{A:Nat->Prop}{w:World}{v:Value}{q:Nat}{l:af (U.de q)}(i:Nat)(hσ:σ[i]? =V (.row v q l))(hd:Hd A σ w):v.oneCell'=J:=by
 obtain⟨us,h1,_⟩:=hd.1 _ (List.mem_of_getElem? hσ);obtain⟨p,cap,rfl,_⟩:=h1.len;rfl
section
variable {P:Program} {E:Env} {σ:af cc} {o:Oper} {T T' e:TypeId} {x y z:Operand} {av bv:AV} {v u:Value} {m n:Int} {b:Bool} {k:IntKind} {C:Cx} {X:af Nat}
def Yv.alloc{zs:af Value}(ho:o.op= .alloc T)(hz:(P.info? T).bind (λi=>i.zero.map (·.cells))=V zs.toArray):Yv P E σ o C [] (λa σ'=>∃b,a= .lit (.pointer (V ⟨b,0,G⟩))/\σ'= .box b T (zs.map .lit)::σ):=λw ρ hg _=>by
 obtain⟨i,h1,h2⟩:=zu.1 hz;obtain⟨zv,h3,h4⟩:=zn.1 h2;refine⟨_,w.alloc (.cells zs.toArray T),_,_,⟨w.heap.size,rfl,rfl⟩,qP hg (kJ w _) (.inr rfl) ⟨zs,heap_alloc_new w _,bN.lits _⟩,?_, .lit _⟩;simp[execOp,ho,Instr.alloc,zeroValue,typeInfo,h1,h3,newVar,newRow,h4]
def Yv.box(ho:o.op= .box T x)(hx:E.ev x=V av)(h1:Pw σ av):Yv P E σ o C [] (λa σ'=>∃b,a= .lit (.pointer (V ⟨b,0,G⟩))/\σ'= .box b T (dU av)::σ):=λw ρ hg hρ=>by
 have hr:=(h1 _ _ _ hg.hd (hρ _ _ hx)).1;refine⟨_,w.alloc (.cells (ρ x).cells T),_,_,⟨w.heap.size,rfl,rfl⟩,qP hg (kJ w _) (.inr rfl) ⟨(ρ x).cells.toList,heap_alloc_new w _,QX hr (.inr rfl) (kJ w _)⟩,?_, .lit _⟩;simp[execOp,ho,Instr.box,newVar,newRow]
def run_store{w:World}{g of:Nat}{cur:Array Value}{t:TypeId}{a:Value}{sz:Nat}(hs:(P.info? T).map (·.size)=V sz)(hb:Blk w g cur t)(hsz:a.cells.size=sz)(h1:∀u∈a.cells.toList,u.oneCell'=J)(hlt:of+sz<=cur.size):
  (Instr.storeAt T (.pointer (V ⟨g,of,G⟩)) a).run P w= .ok () (w.setRow g (cur.toList.take of++a.cells.toList++cur.toList.drop (of+sz)).toArray):=by
 obtain⟨j,hj,hj'⟩:=zn.1 hs;have:=run_storeCells_at P g of t a.cells.toList 0 cur w hb (by rw[yo,hsz];omega) h1;simp only[Instr.storeAt,Instr.sureAddr,storeVar,sizeOf,typeInfo];simp[hj,hj',hsz,this]
def oJ(w:World)(g:Nat)(cs:Array Value):Kp [g] w (w.setRow g cs):=⟨rfl,rfl,rfl,zl _,by simp,λk _ hk=>setRow_other w g k _ (λe=>hk (by simp[e]))⟩
def Yu.ati{g of sz:Nat}{cs:af AV}{t:TypeId}(i:Nat)(ho:o.op= .store T x y)(hx:E.ev x=V (.lit (.pointer (V ⟨g,of,G⟩))))(hy:E.ev y=V av)(hσ:σ[i]? =V (.box g t cs))(hs:(P.info? T).map (·.size)=V sz)(hp:Pw σ av)(hsz:zY (dU av)=sz)(hlt:of+sz<=zY cs):
  Yu P E σ o C [g] (σ.set i (.box g t (cs.take of++dU av++cs.drop (of+sz)))):=λw ρ hg hρ=>by
 obtain⟨us,h1,h2⟩:=hg.res _ (List.mem_of_getElem? hσ);obtain⟨h3,h4⟩:=hp _ _ _ hg.hd (hρ _ _ hy);have hx':=(hρ _ _ hx).cL;have h5:(ρ y).cells.size=sz:=by rw[<-yo,h3.1,hsz]
 have hrun:=run_store (P:=P) (T:=T) (of:=of) (a:=ρ y) hs h1 h5 h4 (by simp;rw[h2.1];exact hlt);refine⟨w.setRow g (us.take of++(ρ y).cells.toList++us.drop (of+sz)).toArray,G6 hg hσ (oJ w g _) (.inl rfl) ⟨us.take of++(ρ y).cells.toList++us.drop (of+sz),?_,?_⟩,?_⟩
 ·have:=setRow_heap w g us.toArray (us.take of++(ρ y).cells.toList++us.drop (of+sz)).toArray t (0,0) h1;exact this
 ·have hal:∀b,b<w.heap.size->al C σ b->al C (σ.set i (.box g t (cs.take of++dU av++cs.drop (of+sz)))) b/\(w.setRow g (us.take of++(ρ y).cells.toList++us.drop (of+sz)).toArray).heap[b]? =w.heap[b]? :=λb hb hA=>by
   have hbk:=FE (r':=cc.box g t (cs.take of++dU av++cs.drop (of+sz))) hσ rfl;refine⟨⟨hA.1,by rw[hbk];exact hA.2⟩,setRow_other w g b _ (λe=>hA.2 (bQ.2 ⟨_,List.mem_of_getElem? hσ,by rw[<-e];rfl⟩))⟩
  exact(((h2.take of).app h3).app (h2.drop (of+sz))).mono hal
 ·simp[execOp,ho,hx',hrun]
def Yu.abP{kk of n m:Nat}{q:Nat}{l:af (U.de q)}(i:Nat)(qq:U.de q)(ho:o.op= .store T x y)(hx:E.ev x=V (.rp v kk))(hy:E.ev y=V av)(hσ:σ[i]? =V (.row v q l))(hs:(P.info? T).map (·.size)=V n)(hp:FZ av=J)(hn:zY (dU av)=n)
  (hk:kk=m*(U.sz q)+of) (hm:m<zY l) (hlt:of+n<=(U.sz q)) (hql:zY (U.cells q qq)=U.sz q) (hq:∀A w us,bN A w ((U.cells q l[m]!).take of++dU av++(U.cells q l[m]!).drop (of+n)) us->bN A w (U.cells q qq) us):
  Yu P E σ o C (xQ (gD v)) (σ.set i (.row v q (l.set m qq))):=λw ρ hg hρ=>by
 obtain⟨us,h1,h2,h3⟩:=hg.res _ (List.mem_of_getElem? hσ);obtain⟨h4,h5⟩:=(hρ _ _ hy).cells hp;obtain⟨g,hgb,hv⟩:=(hρ _ _ hx).JN;obtain⟨g',cap,cur,hv',hgb',hB,q1,q2,q3,q4⟩:=h1.at au;have hgg:g'=g:=by rw[hgb']at hgb;exact zF.inj hgb
 subst hgg;have h6':zY (ρ y).cells.toList=n:=by rw[h4.1,hn]
 have h6:(ρ y).cells.size=n:=by rw[<-yo,h6']
 have hmz:m*(U.sz q)+(U.sz q)<=zY l*(U.sz q):=by rw[<-yO];exact yh _ hm
 have hcz:zY l*(U.sz q)<=(cap+1)*(U.sz q):=yh _ q1;have hul:=h1.1;have hrun:=run_store (P:=P) (T:=T) (of:=kk) (a:=ρ y) hs hB h6 h5 (by rw[q3,hk];omega);have hlen:zY us=zY l*(U.sz q):=h1.1;have hmz2:∀j,j<zY l->j*(U.sz q)+(U.sz q)<=zY us:=λj hj=>by rw[hlen,<-yO];exact yh _ hj
 have hpart:∀b,al C (σ.set i (.row v q (l.set m qq))) b↔al C σ b:=λb=>by
  have hbk:=FE (r':=cc.row v q (l.set m qq)) hσ rfl;unfold al;rw[hbk]
 have hal:∀b,b<w.heap.size->al C σ b->al C (σ.set i (.row v q (l.set m qq))) b/\(w.setRow g' (cur.toList.take kk++(ρ y).cells.toList++cur.toList.drop (kk+n)).toArray).heap[b]? =w.heap[b]? :=λb hb hA=>
  ⟨(hpart b).2 hA,setRow_other w g' b _ (λe=>hA.2 (bQ.2 ⟨_,List.mem_of_getElem? hσ,by rw[e];exact hgb⟩))⟩
 refine⟨w.setRow g' (cur.toList.take kk++(ρ y).cells.toList++cur.toList.drop (kk+n)).toArray,G6 (r:= .row v q l) hg hσ (by show Kp (xQ (gD v)) _ _;rw[hgb];exact oJ w g' _) (.inl rfl) ⟨us.take kk++(ρ y).cells.toList++us.drop (kk+n),⟨?_, .inr ⟨g',cap,(cur.toList.take kk++(ρ y).cells.toList++cur.toList.drop (kk+n)).toArray,?_,?_,?_,q2,?_,?_⟩⟩,?_,?_⟩,by simp[execOp,ho,hv,hrun]⟩
 ·have:=hmz2 m hm;rw[zh,zh,zD,zV,zI,h6',hlen];omega
 ·rw[zI];exact hv'
 ·exact setRow_heap w g' cur _ q (0,0) hB
 ·rw[zI];exact q1
 ·have:=hmz2 m hm;rw[y4,zh,zh,zD,zV,h6',yo,q3];omega
 ·have hk':kk+n<=zY l*(U.sz q):=au;have hc2:zY l*(U.sz q)<=zY cur.toList:=by rw[show zY cur.toList=cur.size from yo,q3];exact hcz
  rw[<-q4,zI];apply List.ext_getElem?;intro j;simp only[yF,xy,zh,zD,yG,h6',yo];have hcl:cur.size=(cap+1)*(U.sz q):=q3;by_cases e1:j<zY l*(U.sz q)
  ·rw[bB e1];by_cases e2:j<kk
   ·rw[bB au,bB au,bB au,bB au,bB au,bB au];rw[bB au]
   ·by_cases e3:j<kk+n
    ·rw[bB au,bL au,bB au,bL au]
     congr 1
     omega
    ·rw[bL au,bL au,bB au]
     congr 1
     omega
  ·rw[bL e1];rw[bL au,bL au]
 ·intro j hj;rw[zI]at hj;by_cases hjm:j=m
  ·subst hjm;rw[getElem!_pos _ j (by rw[zI];exact hj),List.getElem_set_self];exact hql
  ·rw[getElem!_pos _ j (by rw[zI];exact hj),List.getElem_set_ne (Ne.symm hjm),<-getElem!_pos l j hj];exact h2 j hj
 ·intro j hj;rw[zI]at hj;have hb:=hmz2 j hj;have hbm:=hmz2 m hm;by_cases hjm:j=m
  ·subst hjm;rw[getElem!_pos _ j (by rw[zI];exact hj),List.getElem_set_self];refine hq _ _ _ ?_;have hL:=h3 j hj;have hz:=h2 j hj;have hR:=(((hL.take of).app h4).app (hL.drop (of+n))).mono hal;have e:((us.take kk++(ρ y).cells.toList++us.drop (kk+n)).drop (j*(U.sz q))).take (U.sz q)=((us.drop (j*(U.sz q))).take (U.sz q)).take of++(ρ y).cells.toList++((us.drop (j*(U.sz q))).take (U.sz q)).drop (of+n):=by
    apply List.ext_getElem?;intro a;simp only[yF,xy,zh,zD,yG,h6',zV];by_cases e1:a<(U.sz q)
    ·rw[bB e1];by_cases e2:a<of
     ·rw[bB au,bB au,bB au,bB au,bB au,bB au];rw[bB au]
     ·by_cases e3:a<of+n
      ·rw[bB au,bL au,bB au,bL au]
       congr 1
       omega
      ·rw[bL au,bL au,bB au]
       congr 1
       omega
    ·rw[bL e1,bL au,bL au]
   rw[e];exact hR
  ·rw[getElem!_pos _ j (by rw[zI];exact hj),List.getElem_set_ne (Ne.symm hjm),<-getElem!_pos l j hj];have e:((us.take kk++(ρ y).cells.toList++us.drop (kk+n)).drop (j*(U.sz q))).take (U.sz q)=(us.drop (j*(U.sz q))).take (U.sz q):=by
    have hcase:j*(U.sz q)+(U.sz q)<=m*(U.sz q)\/m*(U.sz q)+(U.sz q)<=j*(U.sz q):=by
     rcases Nat.lt_or_gt_of_ne hjm with h|h
     ·left;rw[<-yO];exact yh _ h
     ·right;rw[<-yO];exact yh _ h
    apply List.ext_getElem?;intro a;simp only[yF,xy,zh,zD,yG,h6',yo];by_cases e1:a<(U.sz q)
    ·rw[bB e1,bB e1];rcases hcase with hc|hc
     ·rw[bB au,bB au,bB au]
     ·rw[bL au]
      congr 1
      omega
    ·rw[bL e1,bL e1]
   rw[e];exact(h3 j hj).mono hal
end
inductive F2 {α:Type} {β:Type} (R:α->β->Prop):List α->List β->Prop
 |nil:F2 R [] []
 |cons {a:α} {b:β} {as0:List α} {bs:List β} (h:R a b) (hs:F2 R as0 bs):F2 R (a::as0) (b::bs)
def ZJ(us:af Value):∀(k off:Nat) (init:Array Value),off+k+zY us<=init.size->
  ((us.zipIdx k).foldl (λcs (p:Value×Nat)=>cs.setIfInBounds (off+p.2) p.1) init).toList=init.toList.take (off+k)++us++init.toList.drop (off+k+zY us):=by
 induction us with
 |nil=>intro k off init h;simp
 |cons u us ih=>
  intro k off init h;simp only[yw]at h;rw[List.zipIdx_cons,List.foldl_cons,ih (k+1) off _ (by simp;omega)];have h1:off+k<zY init.toList:=by simp;omega
  rw[Array.toList_setIfInBounds];have e1:(init.toList.set (off+k) u).take (off+(k+1))=init.toList.take (off+k)++[u]:=by
   rw[wR,bB h1];have e:off+(k+1)=zY (init.toList.take (off+k))+1:=by rw[zD];omega
   rw[e,List.take_length_add_append];simp
  have e2:(init.toList.set (off+k) u).drop (off+(k+1)+zY us)=init.toList.drop (off+k+(zY us+1)):=by
   rw[List.drop_set_of_lt au]
   congr 1
   omega
  rw[e1,e2];simp
def placesOf(P:Program)(T:TypeId):aa (af (Nat×Nat)):=match P.underlying T with
 |some (.struct fields)=>fields.toList.mapM λf=>(P.info? f.type).map λi=>(f.offset,i.size)
 |_=>G
def kD(P:Program)(T:TypeId):aa (af Value):=(P.info? T).bind λi=>i.zero.map (·.cells.toList)
section
variable {P:Program} {E:Env} {σ:af cc} {o:Oper} {T T' e:TypeId} {x y z:Operand} {av bv:AV} {v u:Value} {m n:Int} {b:Bool} {k:IntKind} {C:Cx} {X:af Nat}
def Pe{ps:Array (Nat×Operand)}{ρ:Operand->Value}:(ps.map λ(i,x)=>(i,ρ x)).toList=ps.toList.map λp=>(p.1,ρ p.2):=by
 simp
def lY{q:Nat}:∀(l:af (U.de q)),(∀i,i<zY l->zY (U.cells q l[i]!)=(U.sz q))->zY (l.flatMap (U.cells q))=zY l*(U.sz q)/\∀i,i<zY l->((l.flatMap (U.cells q)).drop (i*(U.sz q))).take (U.sz q)=U.cells q l[i]!
 |[],_=>⟨by simp,λi hi=>by cases hi⟩
 |x::l,h=>by
  have h0:zY (U.cells q x)=(U.sz q):=h 0 (by simp);obtain⟨h1,h2⟩:=lY l λi hi=>by
   have:=h (i+1) (by simpa using hi)
   assumption
  refine⟨by rw[yR,zh,h0,h1,yw,yO];omega,λi hi=> ?_⟩;rw[yR];cases i with
  |zero=>
   rw[Nat.zero_mul,xI,<-h0,List.take_left']
   ·rfl
   ·rfl
  |succ i=>
   have hi':i<zY l:=by simpa using hi
   rw[show (x::l)[i+1]! =l[i]! from by rw[getElem!_pos _ (i+1) (by simpa using hi'),getElem!_pos l i hi'];rfl,<-h2 i hi'];rw[show (i+1)*(U.sz q)=zY (U.cells q x)+i*(U.sz q)from by rw[h0,yO];omega,<-zK,List.drop_left'];rfl
def Gr{A:Nat->Prop}{w:World}{q:Nat}{l:af (U.de q)}{us:af Value}(hr:gh w v q (U.sz q) (zY l) us)(hz:∀i,i<zY l->zY (U.cells q l[i]!)=(U.sz q))(h:bN A w (l.flatMap (U.cells q)) us):cc.ok A w (.row v q l):=
 ⟨us,hr,hz,λi hi=>by rw[<-(lY l hz).2 i hi];exact(h.drop _).take _⟩
def FW{A:Nat->Prop}{w:World}{q:Nat}{l:af (U.de q)}(h:cc.ok A w (.row v q l)):∃us,gh w v q (U.sz q) (zY l) us/\(∀i,i<zY l->zY (U.cells q l[i]!)=(U.sz q))/\bN A w (l.flatMap (U.cells q)) us:=by
 obtain⟨us,h1,h2,h3⟩:=h;refine⟨us,h1,h2,?_⟩;obtain⟨f1,f2⟩:=lY l h2;refine⟨by rw[f1,h1.1],λj a u ha hu=> ?_⟩;have hj:j<zY l*(U.sz q):=by rw[<-f1];exact(z7.1 ha).1
 have hsz:0<(U.sz q):=by
  rcases wA (U.sz q)with h|h
  ·simp_all
  ·exact h
 have hi:j/(U.sz q)<zY l:=by rw[Nat.div_lt_iff_lt_mul hsz];exact hj
 have hm:j%(U.sz q)<(U.sz q):=xe _ hsz;have he:j/(U.sz q)*(U.sz q)+j%(U.sz q)=j:=by rw[Nat.mul_comm];exact Nat.div_add_mod j (U.sz q)
 refine(h3 _ hi).2 (j%(U.sz q)) a u ?_ ?_
 ·rw[<-f2 _ hi,yF,bB hm,yG,he];exact ha
 ·simp_all
def get_append_left!{q:Nat}(l l2:af (U.de q))(i:Nat)(h:i<zY l):(l++l2)[i]! =l[i]! :=by
 rw[getElem!_pos _ i (by rw[zh];omega),wB h,<-getElem!_pos l i h]
def get_append_right!{q:Nat}(l l2:af (U.de q))(i:Nat)(h:zY l<=i)(h2:i<zY l+zY l2):(l++l2)[i]! =l2[i-l.length]! :=by
 rw[getElem!_pos _ i (by rw[zh];exact h2),wC h,<-getElem!_pos l2 (i-l.length) au]
def PI{q:Nat}{l l2:af (U.de q)}(h:∀i,i<zY l->zY (U.cells q l[i]!)=(U.sz q))(h2:∀i,i<zY l2->zY (U.cells q l2[i]!)=(U.sz q)):∀i,i<zY (l++l2)->zY (U.cells q (l++l2)[i]!)=(U.sz q):=λi hi=>by
 rw[zh]at hi;by_cases hlt:i<zY l
 ·rw[get_append_left! _ _ _ hlt];exact h i hlt
 ·rw[get_append_right! _ _ _ au hi];exact h2 _ au
def UE{zs:af Value}{sz n:Nat}(hsz:zY zs=sz)(hpos:0<sz):((Array.range (n*sz)).map (zs.toArray[· %zs.toArray.size]!)).toList=(zf n zs).flatten:=by
 apply List.ext_getElem?;intro j;have hfl:zY (zf n zs).flatten=n*sz:=by simp[hsz]
 have hq:∀(q:Nat) (j:Nat),j<q*sz->(zf q zs).flatten[j]? =zs[j%sz]? :=by
  intro q;induction q with
  |zero=>intro j hj;simp at hj
  |succ q ih=>
   intro j hj;rw[yP,wD,xy];split
   ·rename_i h;rw[hsz]at h;rw[Nat.mod_eq_of_lt h]
   ·rename_i h;rw[hsz,ih _ (by rw[yO]at hj;omega),Nat.mod_eq_sub_mod (by omega:sz<=j)]
 by_cases hj:j<n*sz
 ·rw[hq n j hj];have hmod:j%sz<sz:=xe _ hpos;simp[hj,hsz,hmod]
 ·rw[wE (l:=(zf n zs).flatten) (by rw[hfl];omega)];simp[hj]
def Yv.lit{len:Nat}{ps:Array (Nat×Operand)}{zs:af Value}(l:af (U.de e))(ho:o.op= .buildSlice T len ps)(hT:P.underlying T=V (.slice e))(hs:(P.info? e).map (·.size)=V (U.sz e))(hz:kD P e=V zs)
  (hzl:zY zs=(U.sz e)) (hf:∀A w ρ,Hd A σ w->RU A w E ρ->∃us:Array Value,Instr.fill (λi=>V (i*(U.sz e),(U.sz e))) (zf len zs).flatten.toArray (ps.toList.map λp=>(p.1,ρ p.2))=V us/\bN A w (l.flatMap (U.cells e)) us.toList) (hl:zY l=len) (hu:∀i,i<zY l->zY (U.cells e l[i]!)=(U.sz e)) (hpos:0<len*(U.sz e)) (hsm:len*(U.sz e)<=2^24):
  Yv P E σ o C [] (λa σ'=>∃v,a= .lit v/\σ'= .row v e l::σ):=λw ρ hg hρ=>by
 obtain⟨it,hit,hz1⟩:=zu.1 hz;obtain⟨zv,hz2,hz3⟩:=zn.1 hz1;obtain⟨ie,hie,hse⟩:=zn.1 hs;have hee:it=ie:=by rw[hit]at hie;exact zF.inj hie
 subst hee;have hzc:zv.cells=zs.toArray:=by rw[<-hz3]
 obtain⟨us,h1,h2⟩:=hf _ w ρ hg.hd hρ;have hrun:=run_buildSlice (P:=P) w T e len (ps.map λ(i,x)=>(i,ρ x)) us it zv hT hit hz2 (by rw[hse];omega) (by rw[hse];omega) (by
  rw[hse,hzc,Pe,<-h1]
  congr 1
  apply Array.ext';exact UE hzl (Nat.pos_of_mul_pos_left hpos))
 have hlp:0<len:=Nat.pos_of_mul_pos_right hpos;have hlen:zY us.toList=len*(U.sz e):=by rw[h2.1,(lY l hu).1,hl]
 refine⟨_,w.alloc (.cells us e),_,_,⟨.slice (V ⟨w.heap.size,0,G⟩) len len,rfl,rfl⟩,?_,by simp[execOp,ho,hrun], .lit _⟩;obtain⟨ln,rfl⟩:∃ln,len=ln+1:=⟨len-1,au⟩;refine qP (r:= .row (.slice (V ⟨w.heap.size,0,G⟩) (ln+1) (ln+1)) e l) hg (kJ w _) (.inr rfl) (Gr (us:=us.toList) ?_ hu ?_)
 ·rw[hl];refine⟨hlen, .inr ⟨w.heap.size,ln,us,rfl,heap_alloc_new w _,zl _,?_,by rw[<-yo,hlen],by rw[<-hlen,zy]⟩⟩;have:ln+1<=(ln+1)*(U.sz e):=Nat.le_mul_of_pos_right _ (Nat.pos_of_mul_pos_left hpos);unfold maxLen;omega
 ·exact QX (r:= .row (.slice (V ⟨w.heap.size,0,G⟩) (ln+1) (ln+1)) e l) h2 (.inr rfl) (kJ w _)
def Yv.aGY{s:Nat}(ho:o.op= .buildSlice T 0 #[])(hT:P.underlying T=V (.slice e))(hs:(P.info? e).map (·.size)=V s):Yv P E σ o C [] (λa σ'=>∃v,a= .lit v/\σ'= .row v e ([]:af (U.de e))::σ):=λw ρ hg hρ=>by
 obtain⟨j,hj,hj'⟩:=zn.1 hs;refine⟨_,w.alloc (.cells #[] e),_,_,⟨.slice (V ⟨w.heap.size,0,G⟩) 0 0,rfl,rfl⟩,qP hg (kJ w _) (.inl rfl) ⟨[],⟨by simp, .inl ⟨_,rfl,rfl⟩⟩,λi hi=>by simp at hi,λi hi=>by simp at hi⟩,?_, .lit _⟩;simp[execOp,ho,Instr.buildSlice,run_underlying hT,sizeOf,typeInfo,hj,Instr.fill,newRow];rw[show Array.range 0=#[]from rfl,Array.map_empty]
def Yv.make{by':Nat}{zs:af Value}(d:U.de e)(ho:o.op= .makeSlice T x y)(hx:E.ev x=V (.i m))(hy:E.ev y=V (.i n))(hT:P.underlying T=V (.slice e))(hs:(P.info? e).map (λi=>(i.size,i.bytes))=V ((U.sz e),by'))(hz:kD P e=V zs)(hb:yp by' 4096=J)(hsz:zY zs=(U.sz e))(hd:∀A w,bN A w (U.cells e d) zs)(hpos:0<(U.sz e))
  (hm:0<=m/\m<=n/\n<=1073741824):Yv P E σ o C [] (λa σ'=>∃v,a= .lit v/\σ'= .row v e (zf m.toNat d)::σ):=λw ρ hg hρ=>by
 obtain⟨it,hit,hz1⟩:=zu.1 hz;obtain⟨zv,hz2,hz3⟩:=zn.1 hz1;obtain⟨ie,hie,hse⟩:=zn.1 hs;have hee:it=ie:=by rw[hit]at hie;exact zF.inj hie
 subst hee;simp only[Prod.mk.injEq]at hse;obtain⟨s1,s2⟩:=hse;have hzc:zv.cells=zs.toArray:=by rw[<-hz3]
 have hby:by'<=4096:=by simpa using hb
 obtain⟨mm,rfl⟩:∃mm:Nat,m=mm:=⟨m.toNat,au⟩;obtain⟨nn,rfl⟩:∃nn:Nat,n=nn:=⟨n.toNat,au⟩;have hbb:(it.bytes:Int)*(nn:Int)<=281474976710656:=by
  have h1:it.bytes*nn<=4096*1073741824:=Nat.mul_le_mul au au;omega
 have hrun:=run_make (P:=P) w T e it zv hT hit hz2 .i64 .i64 mm nn au au hbb au;have hx':=(hρ _ _ hx).cL;have hy':=(hρ _ _ hy).cL;refine⟨.slice (V ⟨w.heap.size,0,G⟩) mm nn,w.alloc (.cells (madeCells zv.cells (nn*it.size)) e),_,_,⟨.slice (V ⟨w.heap.size,0,G⟩) mm nn,rfl,rfl⟩,?_,?_, .lit _⟩
 ·rw[zg];have hcells:(madeCells zv.cells (nn*it.size)).toList=(zf nn zs).flatten:=by
   rw[hzc,s1];unfold madeCells;apply List.ext_getElem?;intro j;have hfl:zY (zf nn zs).flatten=nn*(U.sz e):=by simp[hsz]
   have hq:∀(q:Nat) (j:Nat),j<q*(U.sz e)->(zf q zs).flatten[j]? =zs[j%(U.sz e)]? :=by
    intro q;induction q with
    |zero=>intro j hj;simp at hj
    |succ q ih=>
     intro j hj;rw[yP,wD,xy];split
     ·rename_i h;rw[hsz]at h;rw[Nat.mod_eq_of_lt h]
     ·rename_i h;rw[hsz,ih _ (by rw[yO]at hj;omega),Nat.mod_eq_sub_mod (by omega:(U.sz e)<=j)]
   by_cases hj:j<nn*(U.sz e)
   ·rw[hq nn j hj];have hmod:j%(U.sz e)<(U.sz e):=xe _ hpos;simp[hj,hsz,hmod]
   ·rw[wE (l:=(zf nn zs).flatten) (by rw[hfl];omega)];simp[hj]
  by_cases hn0:nn=0
  ·have hm0:mm=0:=au;subst hn0 hm0;exact qP hg (kJ w _) (.inl rfl) ⟨[],⟨by simp, .inl ⟨_,rfl,rfl⟩⟩,λi hi=>by simp at hi,λi hi=>by simp at hi⟩
  ·obtain⟨nk,rfl⟩:∃nk,nn=nk+1:=⟨nn-1,au⟩;have hu:∀i,i<zY (zf mm d)->zY (U.cells e (zf mm d)[i]!)=(U.sz e):=λi hi=>by
    rw[getElem!_pos _ i hi,wF,<-(hd (λ_=>True) w).1,hsz]
   have hfl:∀q,zY (zf q zs).flatten=q*(U.sz e):=λq=>by simp[hsz]
   have hfl2:∀(A:Nat->Prop) (w:World) (q:Nat),bN A w ((zf q d).flatMap (U.cells e)) (zf q zs).flatten:=λA w q=>by
    induction q with
    |zero=>exact bN.nil
    |succ q ih=>rw[yP,yP,yR,wD];exact(hd A w).app ih
   have htk:∀q q':Nat,q<=q'->((zf q' zs).flatten).take (q*(U.sz e))=(zf q zs).flatten:=λq q' h=>by
    obtain⟨r,rfl⟩:∃r,q'=q+r:=⟨q'-q,au⟩;rw[<-List.replicate_append_replicate,List.flatten_append,<-hfl q];simp
   refine qP (r:= .row (.slice (V ⟨w.heap.size,0,G⟩) mm (nk+1)) e (zf mm d)) hg (kJ w _) (.inr rfl) (Gr (us:=(zf mm zs).flatten) ?_ hu ?_)
   ·rw[y5];refine⟨hfl mm, .inr ⟨w.heap.size,nk,_,rfl,heap_alloc_new w _,au,by unfold maxLen;omega,?_,by rw[hcells];exact htk _ _ au⟩⟩;rw[<-yo,hcells,hfl]
   ·simp_all
 ·simp[execOp,ho,hx',hy',hrun]
def qF{w:World}{ty:TypeId}{i:TypeInfo}{zz:Value}{sz by' nn mm:Nat}{us news:af Value}{xs:Value}(ht:P.underlying T=V (.slice e))(hi:P.info? e=V i)(hz:i.zero=V zz)(hs:i.size=sz)(hby:i.bytes=by')(hzs:zz.cells.size=sz)
  (hrow:gh w v e sz nn us) (hx:∃p c,xs= .slice p mm c/\(mm=0\/∃a,p=V a/\∀j u,news[j]? =V u->w.cell? (a.add j)=V u)) (hl:zY news=mm*sz) (h1:∀u∈news,u.oneCell'=J) (h63:nn+mm<=maxLen) (hb:(nn+mm)*by'<=140737488355328):
  ∃v' w',(Builtin.append_ #[T,T] ty #[v,xs]).run P w= .ok v' w'/\gh w' v' e sz (nn+mm) (us++news)/\Kp (gD v).toList w w'/\(gD v'=gD v\/gD v'=V w.heap.size):=by
 subst hs hby
 obtain⟨p,cx,rfl,hx⟩:=hx;by_cases hm:mm=0
 ·subst hm;have hn:news=[]:=xg (by simpa using hl);subst hn;obtain⟨q,cap,rfl,hcap⟩:=hrow.len;have hf:∀w,(Builtin.firstCells i.size 0 (.slice p 0 cx)).run P w= .ok #[] w:=λw=>by
   cases p<;>simp[Builtin.firstCells,loadCells,loadCellsFrom]
  have hrun:(Builtin.append_ #[T,T] ty #[.slice q nn cap, .slice p 0 cx]).run P w= .ok (.slice q nn cap) w:=by
   cases q<;>simp[Builtin.append_,run_underlying ht,sizeOf,typeInfo,hi,Builtin.lenOf,hf,hcap,storeCells]
  exact⟨_,w,hrun,by simpa using hrow,Kp.refl _ _, .inl rfl⟩
 ·obtain⟨a,rfl,hc⟩:=hx.resolve_left hm;have grown:∀(olds:af Value) (old:Nat),zY olds=nn*i.size->old<nn+mm->us=olds->
    gh (w.drew.alloc (.cells (olds.toArray++news.toArray++Builtin.zeroCells zz.cells (grownCap w (nn+mm) old e-(nn+mm))) e)) (.slice (V ⟨w.heap.size,0,G⟩) (nn+mm) (grownCap w (nn+mm) old e)) e i.size (nn+mm) (us++news):=by
   intro olds old hol hlt hus;subst hus;have hge:=grownCap_ge w (nn+mm) old e;have hcm:=grownCap_le_maxLen w (nn+mm) old e h63;obtain⟨ck,hck⟩:∃ck,grownCap w (nn+mm) old e=ck+1:=⟨grownCap w (nn+mm) old e-1,au⟩;refine⟨by rw[zh,hol,hl,zW], .inr ⟨w.heap.size,ck,_,by rw[hck],heap_alloc_new w.drew _,au,au,?_,?_⟩⟩
   ·rw[<-hck];simp only[Array.size_append,y4,size_zeroCells,hzs,hol,hl,<-zW]
    congr 1
    omega
   ·simp only[Array.toList_append,yS];rw[<-yS,show (nn+mm)*i.size=zY (us++news) from by rw[zh,hol,hl,zW]];exact List.take_left
  rcases hrow.2 with ⟨q,rfl,rfl⟩|⟨g,cap,cur,rfl,hg,hnc,hcm,hcs,htake⟩
  ·have hu:us=[]:=xg (by simpa using hrow.1);have hgr:=grown [] 0 (by simp) au hu;rw[yj]at hgr hb h63;have hgc:=grownCap_ge w mm 0 e;have hrb:gD (.slice (V ⟨w.heap.size,0,G⟩) mm (grownCap w mm 0 e))=V w.heap.size:=by
    obtain⟨ck,hck⟩:∃ck,grownCap w mm 0 e=ck+1:=⟨grownCap w mm 0 e-1,au⟩;rw[hck];rfl
   have h63':(mm:Int)<=9223372036854775807:=by unfold maxLen at h63;omega
   cases q with
   |none=>
    have hr:=run_append_nil (P:=P) w T ty e i zz ht hi hz a mm cx news hl hc au h63' au;refine⟨_,_,hr,?_,JM w _, .inr hrb⟩;rw[yj];simpa using hgr
   |some b=>
    have hr:=run_append_grow (P:=P) w T ty e i zz ht hi hz b 0 0 [] (by simp) (λj v hj=>by cases hj) a mm cx news hl hc au (by simpa using h63') (growslice_fits au (by rw[yj];exact hb));refine⟨_,_,hr,?_,JM w _, .inr (by rw[yj];exact hrb)⟩;rw[yj];exact hgr
  ·by_cases hroom:nn+mm<=cap+1
   ·have hfit:nn*i.size+zY news<=cur.size:=by rw[hl,hcs,<-zW];exact yh _ hroom
    have hr:=run_append_room (P:=P) w T ty e i ht hi g nn (cap+1) cur hg a mm cx news hl hc h1 hroom hfit;refine⟨_,_,hr,⟨by rw[zh,hrow.1,hl,zW], .inr ⟨g,cap,_,rfl,setRow_heap w g cur _ e _ hg,hroom,hcm,?_,?_⟩⟩,oJ w g _, .inl rfl⟩
    ·simp only[y4,zh,zD,zV,yo];omega
    ·rw[htake,show (nn+mm)*i.size=zY (us++news) from by rw[zh,hrow.1,hl,zW]];exact List.take_left
   ·have holds:∀j v,us[j]? =V v->w.cell? ((⟨g,0,G⟩:Addr).add j)=V v:=λj v hj=>by
     rw[q9,yj];exact hrow.cells rfl j v hj
    have h63':((nn+mm:Nat):Int)<=9223372036854775807:=by unfold maxLen at h63;omega
    have hr:=run_append_grow (P:=P) w T ty e i zz ht hi hz ⟨g,0,G⟩ nn (cap+1) us hrow.1 holds a mm cx news hl hc au h63' (growslice_fits au hb);have hgr:=grown us (cap+1) hrow.1 au rfl;have hgc:=grownCap_ge w (nn+mm) (cap+1) e;refine⟨_,_,hr,hgr,⟨rfl,rfl,rfl,yd _,by simp,λk hk _=>heap_alloc_old w.drew _ hk⟩, .inr ?_⟩;obtain⟨ck,hck⟩:∃ck,grownCap w (nn+mm) (cap+1) e=ck+1:=⟨grownCap w (nn+mm) (cap+1) e-1,au⟩;rw[hck];rfl
def Src(σ:af cc)(E:Env)(x:Operand)(e:TypeId)(l:af (U.de e)):Prop:=
 (∃p c,E.ev x=V (.lit (.slice p 0 c))/\l=[])\/E.ev x=V (.sl e l)\/∃(i:Nat) (v:Value),E.ev x=V (.lit v)/\σ[i]? =V (.row v e l)
def Src.spec{q:Nat}{l:af (U.de q)}{A:Nat->Prop}{w:World}{ρ:Operand->Value}(h:Src σ E x q l)(hd:Hd A σ w)(hρ:RU A w E ρ):∃p cap news,ρ x= .slice p (zY l) cap/\(zY l=0\/∃a,p=V a/\∀j u,news[j]? =V u->w.cell? (a.add j)=V u)/\zY news=zY l*(U.sz q)/\(∀i,i<zY l->zY (U.cells q l[i]!)=(U.sz q))/\bN A w (l.flatMap (U.cells q)) news/\zY l<=9223372036854775807:=by
 rcases h with ⟨p,c,h,rfl⟩|h|⟨i,v,h,hσ⟩
 ·exact⟨p,c,[],(hρ _ _ h).cL, .inl rfl,by simp,λi hi=>by simp at hi,bN.nil,by simp⟩
 ·have hr:=hρ _ _ h;obtain⟨p,cap,u,hv,hl,_,hz,hc,hcr⟩:=hr.Bu;rw[hv]at hr
  let news:af Value:=(zH (zY l)).flatMap λi=>(zH (U.sz q)).map λj=>u i j
  have hnl:∀(z:af Nat),zY (z.flatMap λi=>(zH (U.sz q)).map λj=>u i j)=zY z*(U.sz q):=λz=>by
   induction z with
   |nil=>simp
   |cons a z ih=>rw[yR,zh,ih,zB,we,yw,yO];omega
  have hnews:zY news=zY l*(U.sz q):=by rw[hnl,we]
  have hget:∀n i j,i<n->j<(U.sz q)->((zH n).flatMap λi=>(zH (U.sz q)).map λj=>u i j)[i*(U.sz q)+j]? =V (u i j):=by
   intro n;induction n with
   |zero=>intro i j hi _;omega
   |succ n ih=>
    intro i j hi hj;rw[wG,xR,xy,hnl,we];by_cases hin:i<n
    ·have:i*(U.sz q)+(U.sz q)<=n*(U.sz q):=by rw[<-yO];exact yh _ hin
     rw[bB au];simp_all
    ·have:i=n:=au;subst this;rw[bL au];simp[hj]
  refine⟨p,cap,news,hv,?_,hnews,hz,?_,hl⟩
  ·by_cases h0:zY l=0
   ·omega
   ·obtain⟨b,off,hp,hb,hA,hcc⟩:=hc 0 au;refine .inr ⟨⟨b,off,G⟩,hp,λj v hj=> ?_⟩;have hjl:j<zY l*(U.sz q):=by rw[<-hnews];exact(z7.1 hj).1
    have hsz:0<(U.sz q):=by
     rcases wA (U.sz q)with h|h
     ·simp_all
     ·exact h
    have hi:j/(U.sz q)<zY l:=by rw[Nat.div_lt_iff_lt_mul hsz];exact hjl
    have hm:j%(U.sz q)<(U.sz q):=xe _ hsz;have he:j/(U.sz q)*(U.sz q)+j%(U.sz q)=j:=by rw[Nat.mul_comm];exact Nat.div_add_mod j (U.sz q)
    have h2:=hget (zY l) (j/(U.sz q)) (j%(U.sz q)) hi hm;rw[he]at h2;have h3:V v=V (u (j/(U.sz q)) (j%(U.sz q))):=by rw[<-hj,<-h2]
    cases h3;obtain⟨b',off',hp',_,_,hcc'⟩:=hc (j/(U.sz q)) hi;rw[hp]at hp';cases hp';have h4:=hcc' (j%(U.sz q)) hm;rw[q9,show off+j=off+j/(U.sz q)*(U.sz q)+j%(U.sz q)from au];exact h4
  ·obtain⟨f1,f2⟩:=lY l hz;refine⟨by rw[f1,hnews],λj a w' ha hw'=> ?_⟩;have hjl:j<zY l*(U.sz q):=by rw[<-hnews];exact(z7.1 hw').1
   have hsz:0<(U.sz q):=by
    rcases wA (U.sz q)with h|h
    ·simp_all
    ·exact h
   have hi:j/(U.sz q)<zY l:=by rw[Nat.div_lt_iff_lt_mul hsz];exact hjl
   have hm:j%(U.sz q)<(U.sz q):=xe _ hsz;have he:j/(U.sz q)*(U.sz q)+j%(U.sz q)=j:=by rw[Nat.mul_comm];exact Nat.div_add_mod j (U.sz q)
   have h2:=hget (zY l) (j/(U.sz q)) (j%(U.sz q)) hi hm;rw[he]at h2;have h3:V w'=V (u (j/(U.sz q)) (j%(U.sz q))):=by rw[<-hw',<-h2]
   cases h3;refine hcr (j/(U.sz q)) (j%(U.sz q)) a hi ?_;rw[<-f2 _ hi,yF,bB hm,yG,he];exact ha
 ·obtain⟨us,h1,h2,h3⟩:=FW (hd.1 _ (List.mem_of_getElem? hσ));obtain⟨p,cap,hv,_⟩:=h1.len;have hx':=(hρ _ _ h).cL;have hlm:zY l<=9223372036854775807:=by
   rcases h1.2 with ⟨_,_,h⟩|⟨_,_,_,_,_,q1,q2,_⟩
   ·omega
   ·unfold maxLen at q2;omega
  refine⟨p,cap,us,by rw[hx',hv],?_,h1.1,h2,h3,hlm⟩;by_cases h0:zY l=0
  ·exact .inl h0
  ·obtain⟨g,ck,cur,hv2,hgb,_⟩:=h1.at au;rw[hv2]at hv;cases hv;refine .inr ⟨_,rfl,λj u hj=> ?_⟩;rw[q9,yj];exact h1.cells hgb j u hj
def Yv.app{by':Nat}{l l2:af (U.de e)}{zs:af Value}(i:Nat)(ho:o.op= .call {callee:= .builtin .append,args:=#[x,y],argTypes:=#[T,T]})(hx:E.ev x=V (.lit v))(hσ:σ[i]? =V (.row v e l))(hy:Src σ E y e l2)(hT:P.underlying T=V (.slice e))(hs:(P.info? e).map (λi=>(i.size,i.bytes))=V ((U.sz e),by'))(hz:kD P e=V zs)(hzl:zY zs=(U.sz e))(hb:yp by' 4096=J)
  (h1:∀x:U.de e,(U.cells e x).all jc=J) (hlen:zY (l++l2)<=1073741824):Yv P E σ o C (xQ (gD v)) (λa σ'=>∃v',a= .lit v'/\σ'=σ.set i (.row v' e (l++l2))):=λw ρ hg hρ=>by
 obtain⟨it,hit,hz1⟩:=zu.1 hz;obtain⟨zv,hz2,hz3⟩:=zn.1 hz1;obtain⟨ie,hie,hse⟩:=zn.1 hs;have hee:it=ie:=by rw[hit]at hie;exact zF.inj hie
 subst hee;simp only[Prod.mk.injEq]at hse;obtain⟨s1,s2⟩:=hse;have hby:by'<=4096:=by simpa using hb
 obtain⟨us,g1,g2,g3⟩:=FW (hg.res _ (List.mem_of_getElem? hσ));obtain⟨p,cap,news,q1,q2,q3,q4,q5,q6⟩:=hy.spec hg.hd hρ;have hx':=(hρ _ _ hx).cL;have hone:∀u∈news,u.oneCell'=J:=q5.one (by
  rw[zw];intro a ha;obtain⟨x,_,hx⟩:=xJ.1 ha;exact zw.1 (h1 x) a hx)
 rw[zh]at hlen;have hbytes:(zY l+zY l2)*by'<=140737488355328:=by
  have:(zY l+zY l2)*by'<=1073741824*4096:=Nat.mul_le_mul hlen hby
  omega
 obtain⟨v',w',r1,r2,r3,r4⟩:=qF (P:=P) (T:=T) (ty:=o.type) (xs:=ρ y) hT hit hz2 s1 s2 (by rw[<-yo,hz3,hzl]) g1 ⟨p,cap,q1,q2⟩ q3 hone (by unfold maxLen;omega) hbytes;refine⟨v',w',_,_,⟨v',rfl,rfl⟩,G6 (r:= .row v e l) hg hσ r3 r4 (Gr (by rw[zh];exact r2) (PI g2 q4) ?_),?_, .lit _⟩
 ·rw[xR];refine(g3.app q5).mono λb hb hA=>⟨⟨hA.1,λhx=> ?_⟩,r3.block b hb (λhx=>hA.2 (bQ.2 ⟨_,List.mem_of_getElem? hσ,by simpa [cc.blk]using hx⟩))⟩;obtain⟨s,hs1,hs2⟩:=bQ.1 hx;rcases List.mem_or_eq_of_mem_set hs1 with h|h
  ·exact hA.2 (bQ.2 ⟨s,h,hs2⟩)
  ·rw[h]at hs2;rcases r4 with r4|r4
   ·exact hA.2 (bQ.2 ⟨_,List.mem_of_getElem? hσ,r4.symm.trans hs2⟩)
   ·have:V w.heap.size=V b:=r4.symm.trans hs2;simp_all
 ·simp[execOp,ho,resolve,invoke,builtin,hx',r1]
end
def Rel.atb{A:Nat->Prop}{w:World}{qt:Nat}{l:af (U.de qt)}{p:aa Addr}{cap:Nat}(h:Rel A w (.sl qt l) (.slice p (zY l) cap)){lo hi cap':Nat}(h1:lo<=hi)(h2:hi<=zY l)(hc':hi-lo<=cap')(q:aa Addr)(hq:hi-lo=0\/q=p.map (·.add (lo*(U.sz qt)))):
  Rel A w (.sl qt ((l.take hi).drop lo)) (.slice q (hi-lo) cap'):=by
 obtain⟨p',cp,u,hv,hl,hcap,hz,hc,hr⟩:=h.Bu;cases hv;have hln:zY ((l.take hi).drop lo)=hi-lo:=by rw[zV,zD];omega
 have hget:∀i,i<hi-lo->((l.take hi).drop lo)[i]! =l[lo+i]! :=λi hi'=>by
  rw[getElem!_pos _ i (by rw[hln];exact hi'),getElem!_pos l (lo+i) au,xS,xK]
 have hgoal:Rel A w (.sl qt ((l.take hi).drop lo)) (.slice q ((l.take hi).drop lo).length cap'):=by
  refine .sl qt _ q cap' (λi j=>u (lo+i) j) au au (λi hi'=> ?_) (λi hi'=> ?_) (λi j a hi' ha=> ?_)
  ·rw[hln]at hi';rw[hget i hi'];exact hz _ au
  ·rw[hln]at hi';obtain⟨b,off,hp,hb,hA,hcc⟩:=hc (lo+i) au;refine⟨b,off+lo*(U.sz qt),?_,hb,hA,λj hj=> ?_⟩
   ·rcases hq with hq|hq
    ·omega
    ·rw[hq,hp,yI,q9]
   ·have:=hcc j hj
    rwa [zW,<-yH]at this
  ·rw[hln]at hi';rw[hget i hi']at ha;exact hr _ j a au ha
 simp_all
section
variable {P:Program} {E E':Env} {σ σ':af cc} {o:Oper} {T T' e:TypeId} {x y z:Operand} {av bv:AV} {v u:Value} {m n:Int} {b:Bool} {k k':IntKind} {C:Cx} {X:af Nat}
def Zm{w:World}{a:aa Addr}{len cap lo hi:Nat}{s:Nat}{L H:aa Value}(hT:P.underlying T=V (.slice e))(hs:(P.info? e).map (·.size)=V s)
  (hb:(Instr.sliceBounds J len cap L H G).run P w= .ok (lo,hi,cap) w):(Instr.slice T (.slice a len cap) L H G).run P w= .ok (.slice (if cap=lo then a else a.map (·.add (lo*s))) (hi-lo) (cap-lo)) w:=by
 obtain⟨j,hj,hj'⟩:=zn.1 hs;simp[Instr.slice,run_underlying hT,hb,sizeOf,typeInfo,hj,hj']
def Rk{w:World}{len cap:Nat}(hh:0<=m/\m<=n/\n<=(len:Int))(hc:len<=cap):(Instr.sliceBounds J len cap (V (.int k m)) (V (.int k' n)) G).run P w= .ok (m.toNat,n.toNat,cap) w:=by
 have h1:0<=n/\n<=(cap:Int):=au;simp[Instr.sliceBounds,Instr.sliceBound,asIntOf,h1];omega
def aah{w:World}{len cap:Nat}(hh:0<=n/\n<=(len:Int))(hc:len<=cap):(Instr.sliceBounds J len cap G (V (.int k' n)) G).run P w= .ok (0,n.toNat,cap) w:=by
 have h1:0<=n/\n<=(cap:Int):=au;simp[Instr.sliceBounds,Instr.sliceBound,asIntOf,h1]
def aan{w:World}{len cap:Nat}(hh:0<=m/\m<=(len:Int)):(Instr.sliceBounds J len cap (V (.int k m)) G G).run P w= .ok (m.toNat,len,cap) w:=by
 simp[Instr.sliceBounds,Instr.sliceBound,asIntOf,hh]
def CH{A:Nat->Prop}{w:World}{ρ:Operand->Value}{q:Nat}{l:af (U.de q)}{L H:aa Operand}{lo hi:Nat}(ho:o.op= .slice T x L H G)(hx:Rel A w (.sl q l) (ρ x))(hT:P.underlying T=V (.slice e))(hs:(P.info? e).map (·.size)=V (U.sz q))(h1:lo<=hi)(h2:hi<=zY l)
  (hb:∀cap,zY l<=cap->∀w',(Instr.sliceBounds J (zY l) cap (L.map ρ) (H.map ρ) G).run P w'= .ok (lo,hi,cap) w'):∃v,Rel A w (.sl q ((l.take hi).drop lo)) v/\∀w':World,(execOp ρ o).run P w'= .ok (.value v) w':=by
 obtain⟨p,cap,u,hv,hl,hcap,_⟩:=hx.Bu;rw[hv]at hx;refine⟨.slice (if cap=lo then p else p.map (·.add (lo*(U.sz q)))) (hi-lo) (cap-lo),hx.atb h1 h2 au _ ?_,λw'=> ?_⟩
 ·by_cases h:cap=lo
  ·omega
  ·right;rw[bL h]
 ·have:=Zm (P:=P) (T:=T) (w:=w') (a:=p) (len:=zY l) hT hs (hb cap hcap w');simp[execOp,ho,hv,Instr.sliceAt,run_underlying hT,this]
def Yp.arE{q:Nat}{l:af (U.de q)}(ho:o.op= .slice T x (V y) (V z) G)(hx:E.ev x=V (.sl q l))(hy:E.ev y=V (.n k m))(hz:E.ev z=V (.n k' n))(hT:P.underlying T=V (.slice e))(hs:(P.info? e).map (·.size)=V (U.sz q))
  (hm:0<=m/\m<=n/\n<=(zY l:Int)):Yp P E σ o (.sl q ((l.take n.toNat).drop m.toNat)):=λA w ρ _ hρ=>by
 obtain⟨v,h1,h2⟩:=CH (P:=P) (lo:=m.toNat) (hi:=n.toNat) ho (hρ _ _ hx) hT hs au au (λcap hc w'=>by
  simp only[yI,(hρ _ _ hy).cL,(hρ _ _ hz).cL];exact Rk hm hc)
 exact⟨v,h1,λw' _=>h2 w'⟩
def Yp.agC{q:Nat}{l:af (U.de q)}(ho:o.op= .slice T x G (V z) G)(hx:E.ev x=V (.sl q l))(hz:E.ev z=V (.n k' n))(hT:P.underlying T=V (.slice e))(hs:(P.info? e).map (·.size)=V (U.sz q))
  (hm:0<=n/\n<=(zY l:Int)):Yp P E σ o (.sl q (l.take n.toNat)):=λA w ρ _ hρ=>by
 obtain⟨v,h1,h2⟩:=CH (P:=P) (lo:=0) (hi:=n.toNat) ho (hρ _ _ hx) hT hs au au (λcap hc w'=>by
  simp only[yI,(hρ _ _ hz).cL];exact aah hm hc)
 exact⟨v,h1,λw' _=>h2 w'⟩
def Yp.aiF{q:Nat}{l:af (U.de q)}(ho:o.op= .slice T x (V y) G G)(hx:E.ev x=V (.sl q l))(hy:E.ev y=V (.n k m))(hT:P.underlying T=V (.slice e))(hs:(P.info? e).map (·.size)=V (U.sz q))
  (hm:0<=m/\m<=(zY l:Int)):Yp P E σ o (.sl q (l.drop m.toNat)):=λA w ρ _ hρ=>by
 obtain⟨v,h1,h2⟩:=CH (P:=P) (lo:=m.toNat) (hi:=zY l) ho (hρ _ _ hx) hT hs au au (λcap hc w'=>by
  simp only[yI,(hρ _ _ hy).cL];exact aan hm)
 rw[zy]at h1;exact⟨v,h1,λw' _=>h2 w'⟩
def Yv.XX{sz':Nat}{q:Nat}{l:af (U.de q)}(ho:o.op= .slice T x G (V (.const (.int k 0))) (V (.const (.int k' 0))))(hx:E.ev x=V (.sl q l)\/E.ev x=V (.lit (.slice G 0 0)))(hT:P.underlying T=V (.slice e))(hs:(P.info? e).map (·.size)=V sz'):
  Yv P E σ o C [] (λa σ'=>∃v,a= .lit v/\σ'= .row v e ([]:af (U.de e))::σ):=λw ρ hg hρ=>by
 obtain⟨j,hj,hj'⟩:=zn.1 hs;obtain⟨p,n,cap,hv⟩:∃p n cap,ρ x= .slice p n cap:=by
  rcases hx with hx|hx
  ·obtain⟨p,cap,u,hv,_⟩:=(hρ _ _ hx).Bu;simp_all
  ·exact⟨G,0,0,(hρ _ _ hx).cL⟩
 have h0:ρ (.const (.int k 0))= .int k 0:=(hρ (.const (.int k 0)) _ rfl).cL;have h0':ρ (.const (.int k' 0))= .int k' 0:=(hρ (.const (.int k' 0)) _ rfl).cL;refine⟨.slice p 0 0,w,_,_,⟨_,rfl,rfl⟩,qP hg (Kp.refl [] w) (.inl (by cases p<;>rfl)) ⟨[],⟨by simp, .inl ⟨_,rfl,rfl⟩⟩,λi hi=>by simp at hi,λi hi=>by simp at hi⟩,?_, .lit _⟩;simp[execOp,ho,hv,h0,h0',Instr.sliceAt,Instr.slice,Instr.sliceBounds,Instr.sliceBound,run_underlying hT,sizeOf,typeInfo,hj,asIntOf]
def Yp.au3{p:aa Addr}{l c:Nat}(ho:o.op= .binOp .eql T x y T')(hx:E.ev x=V (.lit (.slice p l c)))(hy:E.ev y=V (.lit (.slice G 0 0)))(hT:P.underlying T=V (.slice e)):Yp P E σ o (.b p.isNone):=Yp.lits λρ hρ w=>by
 have:=Lib.run_eql_slice_nil (P:=P) w T e p l c 0 0 hT;simp[execOp,ho,hρ _ _ hx,hρ _ _ hy,eqGuard,this]
def Us{w:World}(p:aa Addr)(q:Nat)(h:Good C σ w):Tr C [] σ w (.row (.slice p 0 0) q ([]:af (U.de q))::σ) w:=
 qP h (Kp.refl [] w) (.inl (by cases p<;>rfl)) ⟨[],⟨by simp, .inl ⟨_,rfl,rfl⟩⟩,λi hi=>by simp at hi,λi hi=>by simp at hi⟩
def Vw(σ:af cc)(a a':AV):Prop:=∀(A:Nat->Prop) (w:World) (v:Value),Hd A σ w->Rel A w a v->Rel (λb=>A b\/b∈bC σ) w a' v
def Vw.row{q:Nat}{l:af (U.de q)}(i:Nat)(hσ:σ[i]? =V (.row v q l)):Vw σ (.lit v) (.sl q l):=λA w u hd h=>by
 have hu:=h.cL;subst hu;have hm:=List.mem_of_getElem? hσ;obtain⟨us,h1,h2,h3⟩:=hd.1 _ hm;have hlm:zY l<=9223372036854775807:=by
  rcases h1.2 with ⟨_,_,h⟩|⟨_,_,_,_,_,q1,q2,_⟩
  ·omega
  ·unfold maxLen at q2;omega
 obtain⟨p,cap,hv,hcap⟩:=h1.len;by_cases h0:zY l=0
 ·rw[hv];exact .sl q l p cap (λ_ _=>undef) hlm hcap (λi hi=>au) (λi hi=>au) (λi j a hi=>au)
 ·obtain⟨g,ck,cur,hv2,hgb,hB,_⟩:=h1.at au;rw[hv2]at hv;cases hv;rw[hv2];refine .sl q l _ (ck+1) (λi j=>(us[i*(U.sz q)+j]?).getD undef) hlm hcap h2 (λi hi=>⟨g,0,rfl,hB.lt, .inr (bQ.2 ⟨_,hm,hgb⟩),λj hj=> ?_⟩) (λi j a hi ha=> ?_)
  ·have hlt:i*(U.sz q)+j<zY us:=by
    have:i*(U.sz q)+(U.sz q)<=zY l*(U.sz q):=by rw[<-yO];exact yh _ hi
    rw[h1.1];omega
   rw[yj,zm hlt];exact h1.cells hgb _ _ (zm hlt)
  ·obtain⟨u,q1,q2⟩:=(h3 i hi).get ha;rw[yF]at q1;split at q1
   ·rw[yG]at q1;rw[q1];exact q2.mono λb _ hA=>⟨.inl hA,rfl⟩
   ·cases q1
def Vw.nil(q:Nat):Vw σ (.lit (.slice G 0 0)) (.sl q ([]:af (U.de q))):=λA w u _ h=>by
 have hu:=h.cL;subst hu;exact .sl q [] none 0 (λ_ _=>undef) (by simp) (by simp) (λi hi=>by cases hi) (λi hi=>by cases hi) (λi j a hi=>by cases hi)
def SD{r:cc}{i:Nat}(hσ:σ[i]? =V r):List.Perm (bC σ) (bC (r::σ.eraseIdx i)):=by
 obtain⟨h1,_⟩:=Dc (r':=r) hσ;have h2:σ.eraseIdx i=σ.take i++σ.drop (i+1):=wS ..;rw[h2];have hp:List.Perm (σ.take i++r::σ.drop (i+1)) (r::(σ.take i++σ.drop (i+1))):=List.perm_middle;rw[<-h1]at hp;exact hp.filterMap _
def Ri{r:cc}{i:Nat}{w:World}(hσ:σ[i]? =V r)(hg:Good C σ w):∀b,(al C σ b\/b∈bC [r])->al C (σ.eraseIdx i) b:=λb hb=>by
 have hp:=SD hσ;have hnd:=hp.nodup_iff.1 hg.Ju;rcases hb with hb|hb
 ·exact⟨hb.1,λhx=>hb.2 (hp.mem_iff.2 (by rw[fE];exact yK _ hx))⟩
 ·have hbs:b∈r.blk.toList:=by rw[fE]at hb;simpa [bC]using hb
  refine⟨?_,λhx=> ?_⟩
  ·rcases hg.own b (hp.mem_iff.2 (by rw[fE];exact yJ _ hbs))with h|h
   ·simp_all
   ·omega
  ·rw[fE]at hnd;simp_all
end
def Fn(P:Program)(f:FuncId)(args:af AV)(σ:af cc)(Φ:AV->af cc->Prop):Prop:=
 ∀(w:World) (A:Nat->Prop) (vs:af Value),bN A w args vs->Hd A σ w->(bC σ).Nodup->
  Calls P f vs.toArray w λe w'=>∃v av σ',e= .returned v/\Φ av σ'/\Tr ⟨w,A,bC σ⟩ (bC σ) σ w σ' w'/\Rel (al ⟨w,A,bC σ⟩ σ') w' av v
def Fn.mono{P:Program}{f:FuncId}{args:af AV}{σ:af cc}{Φ j:AV->af cc->Prop}(h:Fn P f args σ Φ)(hp:∀a s,Φ a s->j a s):Fn P f args σ j:=λw A vs h1 h2 h3=>
 (h w A vs h1 h2 h3).mono λ_ _ ⟨v,av,σ',q1,q2,q3⟩=>⟨v,av,σ',q1,hp _ _ q2,q3⟩
def fk:Nat->af AV->Env
 |_,[]=>[]
 |i,v::l=>(i,v)::fk (i+1) l
def DW:∀(l:af AV) (i t:Nat) (v:AV),Env.get (fk i l) t=V v->i<=t/\l[t-i]? =V v
 |[],_,_,_,h=>by cases h
 |u::l,i,t,v,h=>by
  by_cases hit:i=t
  ·subst hit;rw[fk,Env.fh]at h;cases h;simp
  ·rw[fk,Env.dV _ _ hit]at h;obtain⟨h1,h2⟩:=DW l (i+1) t v h;grind
def ahc(P:Program)(C:Cx)(n:Nat)(fn:Func)(Φ:AV->af cc->Prop):Exit->Env->af cc->Prop:=λe E σ=>
 (e= .normal\/e= .ret)/\∀a w,Ah C n E σ a w->∃v av σ',Φ av σ'/\(results fn a.tmps).run P w= .ok v w/\Good C σ' w/\(∀b,al C σ b->al C σ' b)/\Rel (al C σ') w av v
structure Tn (C:Cx) (w w':World):Prop where
 os:w'.os=w.os
 tape:w'.tape=w.tape
 output:w'.output=w.output
 drawn:w.drawn<=w'.drawn
 size:w.heap.size<=w'.heap.size
 old:∀k,k<C.w0.heap.size->w'.heap[k]? =w.heap[k]?
 same:∀(b:Nat) cs T m,w.heap[b]? =V (Obj.cells cs T m)->w'.heap[b]? =w.heap[b]?
def Rel.L4{C:Cx}{A:Nat->Prop}{w w':World}{av:AV}{v:Value}(h:Rel A w av v)(ht:Tn C w w'):Rel A w' av v:=by
 have hcell:∀b i u,w.cell? ⟨b,i,G⟩=V u->w'.cell? ⟨b,i,G⟩=V u:=λb i u hc=>by
  rw[<-hc];cases hb:w.heap[b]? with
  |none=>simp[World.cell?,hb]at hc
  |some o=>
   cases o with
   |cells cs T m=>exact World.cell?_of_block (ht.same b cs T m hb)
   |_=>simp[World.cell?,hb]at hc
 induction h with
 |lit v=>exact .lit v
 |sl q l p cap u hl hcap hz hc hr ih=>
  refine .sl q l p cap u hl hcap hz (λi hi=> ?_) ih;obtain⟨b,off,h1,h2,h3,h4⟩:=hc i hi;exact⟨b,off,h1,x9 h2 ht.size,h3,λj hj=>hcell _ _ _ (h4 j hj)⟩
 |fp cs b o us hb hA hl hc hr ih=>exact .fp cs b o us (x9 hb ht.size) hA hl (λj v hj=>hcell _ _ _ (hc j v hj)) ih
 |rp v k g h=>exact .rp v k g h
 |agg cs us hl hr ih=>exact .agg cs us hl ih
 |jo cs us hl hr ih=>exact .jo cs us hl ih
 |fn f cs us hl hr ih=>exact .fn f cs us hl ih
def cc.ok.L4{C:Cx}{A:Nat->Prop}{w w':World}{r:cc}(h:r.ok A w)(ht:Tn C w w'):r.ok A w':=by
 cases r with
 |box b T cs=>
  obtain⟨us,h1,h2⟩:=h;exact⟨us,(ht.same _ _ _ _ h1).trans h1,h2.1,λj a v q1 q2=>(h2.2 j a v q1 q2).L4 ht⟩
 |row v q l=>
  obtain⟨us,h1,h2,h3⟩:=h;refine⟨us,⟨h1.1,?_⟩,h2,λi hi=>⟨(h3 i hi).1,λj a v q1 q2=>((h3 i hi).2 j a v q1 q2).L4 ht⟩⟩;rcases h1.2 with q|⟨g,cap,cur,rfl,q1,q2⟩
  ·exact .inl q
  ·exact .inr ⟨g,cap,cur,rfl,(ht.same _ _ _ _ q1).trans q1,q2⟩
def Good.L4{C:Cx}{σ:af cc}{w w':World}(h:Good C σ w)(ht:Tn C w w'):Good C σ w':=
 ⟨⟨ht.os.trans h.kept.os,ht.tape.trans h.kept.tape,ht.output.trans h.kept.output,zG h.kept.drawn ht.drawn,zG h.kept.size ht.size,λk hk hX=>(ht.old k hk).trans (h.kept.block k hk hX)⟩,
  λr hr=>(h.res r hr).L4 ht,h.Ju,h.own⟩
def Tn.putObj{C:Cx}{w:World}{D:Nat}{o:Obj}(o':Obj)(hw:C.w0.heap.size<=D)(hD:w.heap[D]? =V o)(ho:o.isCells=O):Tn C w (w.putObj D o'):=
 ⟨rfl,rfl,rfl,zl _,by simp,λk hk=>World.putObj_heap_other au,λb cs T m hx=>World.putObj_heap_other λe=>by
  subst e;rw[hD]at hx;cases hx;cases ho⟩
def mU.L4{C:Cx}{A:Nat->Prop}{w w':World}{E:Env}{tmps:Array Value}(h:mU A w E tmps)(ht:Tn C w w'):mU A w' E tmps:=λt av q=>let ⟨v,h1,h2⟩:=h t av q;⟨v,h1,h2.L4 ht⟩
def Fn.of{P:Program}{f:FuncId}{fn:Func}{c:Code}{n:Nat}{args:af AV}{σ:af cc}{Φ:AV->af cc->Prop}(hf:P.funcs[f]? =V fn)(hb:fn.body=V c)(hn:fn.ntmps=n)(hl:yp (zY args) n=J)
  (h:∀C,CW P C n c (ahc P C n fn Φ) (fk 0 args) σ):Fn P f args σ Φ:=λw A vs hr hd hnd=>by
 have hl':zY args<=n:=by simpa using hl
 have hvl:=hr.1;have hal:∀b,b<w.heap.size->A b->al ⟨w,A,bC σ⟩ σ b:=λb _ hA=>⟨.inl hA,λhx=>hd.2 b hx hA⟩;have hgood:Good ⟨w,A,bC σ⟩ σ w:=⟨Kp.refl _ _,λr hr=>(hd.1 r hr).mono (λb hb hA=>⟨hal b hb hA,rfl⟩) (λ_ _=>rfl),hnd,λb hb=> .inl hb⟩;refine callsIn_wide.1 (callsIn_of_wp_marks (n:=0) hf hb trivial (wpIn_wide.2 (wp_mono (h ⟨w,A,bC σ⟩ _ w ⟨.nil rfl,?_,λt v ht=> ?_,hgood⟩) ?_)))
 ·simp;omega
 ·obtain⟨_,h2⟩:=DW args 0 t v ht;obtain⟨u,h3,h4⟩:=hr.get h2;have hlt:t<zY vs:=(z7.1 h3).1;refine⟨u,?_,h4.mono λb hb hA=>⟨hal b hb hA,rfl⟩⟩;rw[Array.getElem?_append_left (by simpa using hlt)];simpa using h3
 ·rintro e a' w' ⟨E',σ',h1,he,h2⟩;have fin:∀(w'':World),Ah ⟨w,A,bC σ⟩ n E' σ' {a' with defers:=[]} w''->∃v,(results fn a'.tmps).run P w''= .ok v w''/\∃v' av σ'',Ending.returned v= .returned v'/\Φ av σ''/\Tr ⟨w,A,bC σ⟩ (bC σ) σ w σ'' w''/\Rel (al ⟨w,A,bC σ⟩ σ'') w'' av v':=λw'' hs=>by
   obtain⟨v,av,σ'',h3,h4,h5,h6,h7⟩:=h2 _ w'' hs;have hex:Tr ⟨w,A,bC σ⟩ (bC σ) σ w σ'' w'':=⟨h5,h5.kept,λb hb hA=>⟨⟨hA.1,λhx=>by
    rcases h5.own b hx with h|h
    ·exact hA.2 h
    ·exact dS hb (by have:w.heap.size<=b:=h;omega)⟩,hA.2⟩⟩
   exact⟨v,h4,v,av,σ'',rfl,h3,hex,h7⟩
  have lv:LeavesInM Fence.wide 0 P fn a'.tmps (λe w'=>∃v av σ',e= .returned v/\Φ av σ'/\Tr ⟨w,A,bC σ⟩ (bC σ) σ w σ' w'/\Rel (al ⟨w,A,bC σ⟩ σ') w' av v) a'.defers .returning w':=by
   obtain⟨Ds,hd1,hd2,hd3⟩:=h1.defers;rw[hd1];have hsl:=h1.slots;have hgd:=h1.good;have hsz:=h1.size;clear hd1 h1;induction Ds generalizing w' with
   |nil=>exact fin w' ⟨.nil rfl,hsz,hsl,hgd⟩
   |cons D Ds ih=>
    obtain⟨q1,q2,q3,q4⟩:=hd3 D zk;rw[List.nodup_cons]at hd2;refine⟨by simp, .inl ⟨D,_,rfl,run_takeDeferred q4,?_⟩⟩;have ht:Tn ⟨w,A,bC σ⟩ w' (w'.putObj D (.deferred G)):= .putObj _ q2 q4 rfl;refine ih _ hd2.2 (λD' hD'=> ?_) (hsl.L4 ht) (hgd.L4 ht);obtain⟨p1,p2,p3,p4⟩:=hd3 D' (zL _ hD');have hne:D'≠D:=λe=>hd2.1 (e▸hD');exact⟨x9 p1 ht.size,p2,p3,(World.putObj_heap_other hne).trans p4⟩
  rcases he with rfl|rfl
  ·exact lv
  ·exact lv
def Ab(tmps:Array Value):ResultVar->Sem Value
 | .tmp t=>pure (tmps.getD t undef)
 | .cell a t=>do loadVar t (<-asAddr (tmps.getD a undef))
def Ic(P:Program)(E:Env)(σ:af cc)(rv:ResultVar)(av:AV):Prop:=∀(A:Nat->Prop) (w:World) (tmps:Array Value),Hd A σ w->mU A w E tmps->∃v,(Ab tmps rv).run P w= .ok v w/\Rel A w av v
section
variable {P:Program} {C:Cx} {n:Nat} {fn:Func} {E:Env} {σ σ':af cc} {t u:Nat} {av:AV} {e:Exit} {Φ:AV->af cc->Prop}
def Ic.tmp(h:E.get t=V av):Ic P E σ (.tmp t) av:=λA w tmps _ hs=>by
 obtain⟨v,h1,h2⟩:=hs t av h;exact⟨v,by simp[Ab,h1],h2⟩
def Ic.aBV{g:Nat}{ty T:TypeId}{cs:af AV}(i:Nat)(h:E.get t=V (.lit (.pointer (V ⟨g,0,G⟩))))(hσ:σ[i]? =V (.box g T cs))(hT:uj P ty)(ha:cs[0]? =V av):Ic P E σ (.cell t ty) av:=λA w tmps hd hs=>by
 obtain⟨v,h1,h2⟩:=hs t _ h;have h2:=h2.cL;subst h2;obtain⟨us,h3,h4⟩:=hd.1 _ (List.mem_of_getElem? hσ);obtain⟨v,h5,h6⟩:=h4.get ha;exact⟨v,by simp[Ab,h1,asAddr,iW hT (h3.cell (by simpa using h5))],h6⟩
def Ic.aAm{g k:Nat}{ty T:TypeId}{cs:af AV}(i:Nat)(h:E.get t=V (.lit (.pointer (V ⟨g,0,G⟩))))(hσ:σ[i]? =V (.box g T cs))(hT:v8 P ty k)(hk:zY cs=k):Ic P E σ (.cell t ty) (.agg cs):=λA w tmps hd hs=>by
 obtain⟨v,h1,h2⟩:=hs t _ h;have h2:=h2.cL;subst h2;obtain⟨us,h3,h4⟩:=hd.1 _ (List.mem_of_getElem? hσ);refine⟨_,?_,Rel.qA h4⟩;have:=iH (P:=P) (T:=ty) (w:=w) (a:=⟨g,0,G⟩) (cs:=us) (by rw[h4.1,hk];exact hT) (λj u hj=>by rw[q9,yj];exact h3.cell (by simpa using hj));simp[Ab,h1,asAddr,this]
def aa3(he:e= .normal\/e= .ret)(hs:List.Sublist σ' σ)(hΦ:Φ av σ')(h:∀A w tmps,Hd A σ w->mU A w E tmps->∃v,(results fn tmps).run P w= .ok v w/\Rel A w av v):ahc P C n fn Φ e E σ:=
 ⟨he,λa w ha=>by
  obtain⟨v,h1,h2⟩:=h _ w a.tmps ha.good.hd ha.slots;have hl:=ha.less hs;have hal:∀b,al C σ b->al C σ' b:=λb hb=>⟨hb.1,λhx=>hb.2 (rO (λr hr=>hs.subset hr) b hx)⟩;exact⟨v,av,σ',hΦ,h1,hl.good,hal,h2.mono λb _ hA=>⟨hal b hA,rfl⟩⟩⟩
end
def vQ(P:Program)(f:FuncId):Prop:=∃fn,P.funcs[f]? =V fn/\(fn.name=="runtime.NumGoroutine")=O/\fn.body.isNone=O
def El{P:Program}{f:FuncId}{w:World}(hf:vQ P f)(args:Array Value):(callFunc f args).run P w= .ok (.enter f args) w:=by
 obtain⟨fn,h1,h2,h3⟩:=hf;have h2':¬fn.name="runtime.NumGoroutine":=by simpa using h2
 have h3':¬fn.body=G:=by
  intro h;simp_all
 simp[callFunc,Sem.run,h1,h2',h3']
def Cl(a:AV):Prop:=∀A A' w v,Rel A w a v->Rel A' w a v
def Cl.lit(v:Value):Cl (.lit v):=λA A' w u h=>by rw[h.cL];exact .lit v
def N5(as0:af AV):Prop:=∀A A' w us,bN A w as0 us->bN A' w as0 us
def N5.nil:N5 []:=λA A' w us h=>by
 have:us=[]:=xg (by simpa using h.1);rw[this];exact bN.nil
def N5.cons{a:AV}{as0:af AV}(h:Cl a)(hs:N5 as0):N5 (a::as0):=λA A' w us hr=>by
 obtain⟨v,us',rfl,h1,h2⟩:=hr.head;exact bN.cons (h A A' w v h1) (hs A A' w us' h2)
def Cl.agg{as0:af AV}(h:N5 as0):Cl (.agg as0):=λA A' w v hr=>by
 obtain⟨us,rfl,h1⟩:=hr.pY;exact Rel.qA (h A A' w us h1)
def Cl.jo{as0:af AV}(h:N5 as0):Cl (.jo as0):=λA A' w v hr=>by
 obtain⟨us,rfl,h1⟩:=hr.Tz;exact Rel.Jg (h A A' w us h1)
def ClR(r:cc):Prop:=∀A A' w,r.ok A w->r.ok A' w
def ClR.box{b:Nat}{T:TypeId}{cs:af AV}(h:N5 cs):ClR (.box b T cs):=λA A' w ⟨us,h1,h2⟩=>⟨us,h1,h A A' w us h2⟩
def ClR.row{v:Value}{q:Nat}{l:af (U.de q)}(h:∀x,N5 (U.cells q x)):ClR (.row v q l):=λA A' w ⟨us,h1,h2,h3⟩=>⟨us,h1,h2,λi hi=>h _ A A' w _ (h3 i hi)⟩
section
variable {P:Program} {C:Cx} {E:Env} {σ σp σr:af cc} {o:Oper} {x:Operand} {f:FuncId} {xs:Array Operand} {ts:Array TypeId} {as0 caps args:af AV} {Φ:AV->af cc->Prop}
def agb{A:Nat->Prop}{w:World}{ρ:Operand->Value}(ho:o.op= .call {callee:= .value x,args:=xs,argTypes:=ts})(hx:E.ev x=V (.fn (.func f) caps))(hf:vQ P f)(he:E.Pr xs.toList=V as0)(ha:as0++caps=args)(hρ:RU A w E ρ):∃us:af Value,bN A w args us/\(execOp ρ o).run P w= .ok (.enter f us.toArray) w:=by
 obtain⟨us,h1,h2⟩:=(hρ _ _ hx).ab5;have h3:=Env.K8 hρ he;refine⟨xs.toList.map ρ++us,ha▸h3.app h2,?_⟩;have h4:xs.map ρ=(xs.toList.map ρ).toArray:=by apply Array.ext';simp
 simp[execOp,ho,resolve,h1,Deferred.ofValue,invoke,El hf]
def bO{σp σr:af cc}{b:Nat}:b∈bC (σp++σr)↔b∈bC σp\/b∈bC σr:=by rw[ia,zP]
def Ev{w w':World}{A:Nat->Prop}{σo:af cc}(hg:Good C (σp++σr) w)(hA:∀b,A b->b<w.heap.size->al C (σp++σr) b\/b∈bC σr)(ht:Tr ⟨w,A,bC σp⟩ (bC σp) σp w σo w')
  (hok:∀r∈σo,r.ok (al C (σo++σr)) w'):Tr C (bC σp) (σp++σr) w (σo++σr) w':=by
 have hlt:∀b∈bC (σp++σr),b<w.heap.size:=λb hb=>by
  obtain⟨s,h1,h2⟩:=bQ.1 hb;exact(hg.res s h1).lt h2
 have hdis:=hg.Ju;rw[ia]at hdis;obtain⟨d1,d2,d3⟩:=yN.1 hdis;have hown:∀b∈bC σo,b∈bC σp\/w.heap.size<=b:=ht.good.own;have hal:∀b,b<w.heap.size->al C (σp++σr) b->al C (σo++σr) b/\b∉bC σp:=λb hb hA=>by
  have h2:b∉bC σp/\b∉bC σr:=by
   have:=hA.2;rw[bO]at this;simp_all
  refine⟨⟨hA.1,λhx=> ?_⟩,h2.1⟩;rcases bO.1 hx with h|h
  ·rcases hown b h with h|h
   ·simp_all
   ·omega
  ·simp_all
 refine⟨⟨hg.kept.trans ht.kp (λb hb hlt0=> ?_),λr hr=> ?_,?_,λb hb=> ?_⟩,ht.kp,hal⟩
 ·rcases hg.own b (bO.2 (.inl hb))with h|h
  ·exact h
  ·omega
 ·rcases zP.1 hr with h|h
  ·simp_all
  ·refine(hg.res r (yK _ h)).mono (λb hb hA=>⟨(hal b hb hA).1,ht.kp.block b hb (hal b hb hA).2⟩) (λb hb=> ?_);have hbr:b∈bC σr:=bQ.2 ⟨r,h,hb⟩;exact ht.kp.block b (hlt b (bO.2 (.inr hbr))) (λhp=>d3 b hp b hbr rfl)
 ·rw[ia];refine yN.2 ⟨ht.good.Ju,d2,λa ha b hb hab=> ?_⟩;subst hab;rcases hown a ha with h|h
  ·exact d3 a h a hb rfl
  ·have:=hlt a (bO.2 (.inr hb));omega
 ·rcases bO.1 hb with h|h
  ·rcases hown b h with h|h
   ·exact hg.own b (bO.2 (.inl h))
   ·exact .inr (zG hg.kept.size h)
  ·exact hg.own b (bO.2 (.inr h))
def Yc.fn(ho:o.op= .call {callee:= .value x,args:=xs,argTypes:=ts})(hx:E.ev x=V (.fn (.func f) caps))(hf:vQ P f)(he:E.Pr xs.toList=V as0)(ha:as0++caps=args)(hσ:σ=σp++σr)(h:Fn P f args σp Φ):
  Yc P E σ o C (bC σp) (λav σ'=>∃σo,Φ av σo/\σ'=σo++σr):=λw ρ hg hρ=>by
 subst hσ;obtain⟨us,h1,h2⟩:=agb ho hx hf he ha hρ;have hlt:∀b∈bC (σp++σr),b<w.heap.size:=λb hb=>by
  obtain⟨s,h1,h2⟩:=bQ.1 hb;exact(hg.res s h1).lt h2
 have hd:Hd (al C (σp++σr)) σp w:=⟨λr hr=>hg.res r (yJ _ hr),λb hb hA=>hA.2 (bO.2 (.inl hb))⟩;have hnd:(bC σp).Nodup:=by have:=hg.Ju;rw[ia]at this;exact(yN.1 this).1
 refine⟨f,us.toArray,h2,(h w (al C (σp++σr)) us h1 hd hnd).mono λe w' ⟨v,av,σo,q1,q2,q3,q4⟩=> ?_⟩;have hsub:∀b,b<w'.heap.size->al ⟨w,al C (σp++σr),bC σp⟩ σo b->al C (σo++σr) b:=λb _ hb=>by
  obtain⟨hb1,hb2⟩:=hb;rcases hb1 with hb1|hb1|hb1
  ·exact⟨hb1.1,λhx=>(bO.1 hx).elim hb2 (λh=>hb1.2 (bO.2 (.inr h)))⟩
  ·have hbp:b∈bC σp:=hb1;refine⟨?_,λhx=>(bO.1 hx).elim hb2 (λh=> ?_)⟩
   ·rcases hg.own b (bO.2 (.inl hbp))with h|h
    ·simp_all
    ·omega
   ·have hdis:=hg.Ju;rw[ia]at hdis;exact(yN.1 hdis).2.2 b hbp b h rfl
  ·have hbw:w.heap.size<=b:=hb1;exact⟨.inr (.inr (zG hg.kept.size hbw)),λhx=>(bO.1 hx).elim hb2 (λh=>by have:=hlt b (bO.2 (.inr h));omega)⟩
 exact⟨v,av,σo++σr,q1,⟨σo,q2,rfl⟩,Ev hg (λb hA _=> .inl hA) q3 (λr hr=>(q3.good.res r hr).mono (λb hb hA=>⟨hsub b hb hA,rfl⟩) (λ_ _=>rfl)),q4.mono λb hb hA=>⟨hsub b hb hA,rfl⟩⟩
end
end Go.Iv
namespace Go.Iv
variable [U:EU]
open Go Go.RowKit
section
variable {P:Program} {E E':Env} {σ σ':af cc} {o:Oper} {x:Operand} {av bv:AV} {C:Cx} {X:af Nat} {n:Nat}
end
def qT{α:Type}{c:Prop}[Decidable c]{a:aa α}{r:α}(h:(if c then a else G)=V r):c/\a=V r:=by
 simp_all
abbrev cN(k:IntKind)(n:Int):af AV:=[.n k n]
abbrev cB(b:Bool):af AV:=[.b b]
instance:Inhabited ByteArray:=⟨.empty⟩
end Go.Iv
namespace Go.Iv
variable [U:EU]
open Go Go.RowKit
section
variable {P:Program} {E E':Env} {σ σ':af cc} {o:Oper} {x:Operand} {av bv:AV} {C:Cx} {X:af Nat} {n:Nat}
def Yp.conv{T T':TypeId}{k k':IntKind}{m:Int}(hT:P.underlying T=V (.int k))(hT':P.underlying T'=V (.int k'))(ho:o.op= .convert T T' x)(hx:E.ev x=V (.n k m)):Yp P E σ o (.n k' (k'.wrap m)):=Yp.lits λρ hρ w=>by
 simp[execOp,ho,hρ _ _ hx,convert,run_underlying hT,run_underlying hT',Conv.intToInt]
end
structure Gh where
 v:Nat->Value
 b:Nat->Nat
def b7.sub(ρ:Gh):AV->AV
 | .lit v=> .lit v
 | .sl t l=> .sl t l
 | .fp cs=> .fp (cs.map (b7.sub ρ))
 | .rp v k=> .rp v k
 | .agg cs=> .agg (cs.map (b7.sub ρ))
 | .jo cs=> .jo (cs.map (b7.sub ρ))
 | .fn f cs=> .fn f (cs.map (b7.sub ρ))
 | .own id=> .lit (ρ.v id)
 | .ptr id off=> .lit (.pointer (V ⟨ρ.b id,off,G⟩))
 | .ra id t m off=> .rp (ρ.v id) (m*U.sz t+off)
inductive ic (p:Nat->Prop):AV->Prop
 |lit (v:Value):ic p (.lit v)
 |sl (t:Nat) (l:List (U.de t)):ic p (.sl t l)
 |fp (cs:List AV) (h:∀c∈cs,ic p c):ic p (.fp cs)
 |rp (v:Value) (k:Nat):ic p (.rp v k)
 |agg (cs:List AV) (h:∀c∈cs,ic p c):ic p (.agg cs)
 |jo (cs:List AV) (h:∀c∈cs,ic p c):ic p (.jo cs)
 |fn (f:Go.Fn) (cs:List AV) (h:∀c∈cs,ic p c):ic p (.fn f cs)
 |own (id:Nat) (h:p id):ic p (.own id)
 |ptr (id off:Nat) (h:p id):ic p (.ptr id off)
 |ra (id t m off:Nat) (h:p id):ic p (.ra id t m off)
abbrev cV(n:Nat):AV->Prop:=ic (λi=>i<n)
def Ags(p:Nat->Prop)(ρ ρ':Gh):Prop:=∀i,p i->ρ.v i=ρ'.v i/\ρ.b i=ρ'.b i
def ic.mono{p q:Nat->Prop}{d:AV}(h:ic p d)(hn:∀i,p i->q i):ic q d:=by
 induction h with
 |lit v=>exact .lit v
 |sl t l=>exact .sl t l
 |fp cs _ ih=>exact .fp cs ih
 |rp v k=>exact .rp v k
 |agg cs _ ih=>exact .agg cs ih
 |jo cs _ ih=>exact .jo cs ih
 |fn f cs _ ih=>exact .fn f cs ih
 |own id h=>exact .own id (hn _ h)
 |ptr id off h=>exact .ptr id off (hn _ h)
 |ra id t m off h=>exact .ra id t m off (hn _ h)
def ic.sub{p:Nat->Prop}{d:AV}{ρ ρ':Gh}(h:ic p d)(ha:Ags p ρ ρ'):d.sub ρ=d.sub ρ':=by
 have key:∀cs:af AV,(∀c∈cs,c.sub ρ=c.sub ρ')->cs.map (b7.sub ρ)=cs.map (b7.sub ρ'):=λcs h=>zX h;induction h with
 |lit v=>simp only[b7.sub]
 |sl t l=>simp only[b7.sub]
 |fp cs _ ih=>simp only[b7.sub];rw[key cs ih]
 |rp v k=>simp only[b7.sub]
 |agg cs _ ih=>simp only[b7.sub];rw[key cs ih]
 |jo cs _ ih=>simp only[b7.sub];rw[key cs ih]
 |fn f cs _ ih=>simp only[b7.sub];rw[key cs ih]
 |own id h=>simp only[b7.sub];rw[(ha id h).1]
 |ptr id off h=>simp only[b7.sub];rw[(ha id h).2]
 |ra id t m off h=>simp only[b7.sub];rw[(ha id h).1]
def ic.abF{p:Nat->Prop}{cs:af AV}{ρ ρ':Gh}(h:∀c∈cs,ic p c)(ha:Ags p ρ ρ'):cs.map (b7.sub ρ)=cs.map (b7.sub ρ'):=zX λc hc=>(h c hc).sub ha
def qC(n:Nat)(ρ ρ':Gh):Prop:=∀i,i<n->ρ.v i=ρ'.v i/\ρ.b i=ρ'.b i
def qC.refl(n:Nat)(ρ:Gh):qC n ρ ρ:=λ_ _=>⟨rfl,rfl⟩
def qC.trans{n m:Nat}{ρ ρ' ρ'':Gh}(h:qC n ρ ρ')(h':qC m ρ' ρ'')(hn:n<=m):qC n ρ ρ'':=λi hi=>
 ⟨(h i hi).1.trans (h' i au).1,(h i hi).2.trans (h' i au).2⟩
def cV.mono{n m:Nat}{d:AV}(h:cV n d)(hn:n<=m):cV m d:=ic.mono h λ_ hi=>x9 hi hn
def cV.sub{n:Nat}{d:AV}{ρ ρ':Gh}(h:cV n d)(ha:qC n ρ ρ'):d.sub ρ=d.sub ρ':=ic.sub h ha
def cV.abF{n:Nat}{cs:af AV}{ρ ρ':Gh}(h:∀c∈cs,cV n c)(ha:qC n ρ ρ'):cs.map (b7.sub ρ)=cs.map (b7.sub ρ'):=ic.abF h ha
inductive IR:Type
 |box (T:Nat) (cs:List AV)
 |row (t:Nat) (l:List (U.de t))
def IR.res(ρ:Gh)(id:Nat):IR->cc
 | .box T cs=> .box (ρ.b id) T (cs.map (b7.sub ρ))
 | .row t l=> .row (ρ.v id) t l
abbrev bt:Type:=af (Nat×IR)
def bt.res(ρ:Gh)(R:bt):af cc:=R.map λp=>p.2.res ρ p.1
def IR.cV(n:Nat):IR->Prop
 | .box _ cs=>∀c∈cs,Iv.cV n c
 | .row _ _=>True
def bt.cV(n:Nat)(R:bt):Prop:=∀p∈R,p.1<n/\p.2.cV n
def IR.cV.mono{n m:Nat}{r:IR}(h:r.cV n)(hn:n<=m):r.cV m:=by
 cases r with
 |box T cs=>exact λc hc=>(h c hc).mono hn
 |row t l=>trivial
def bt.cV.mono{n m:Nat}{R:bt}(h:bt.cV n R)(hn:n<=m):bt.cV m R:=λp hp=>⟨x9 (h p hp).1 hn,(h p hp).2.mono hn⟩
def IR.cV.res{n id:Nat}{r:IR}{ρ ρ':Gh}(h:r.cV n)(hi:id<n)(ha:qC n ρ ρ'):r.res ρ id=r.res ρ' id:=by
 cases r with
 |box T cs=>simp only[IR.res];rw[(ha id hi).2,Iv.cV.abF h ha]
 |row t l=>simp only[IR.res];rw[(ha id hi).1]
def bt.cV.res{n:Nat}{R:bt}{ρ ρ':Gh}(h:bt.cV n R)(ha:qC n ρ ρ'):bt.res ρ R=bt.res ρ' R:=zX λp hp=>(h p hp).2.res (h p hp).1 ha
def gH(R:bt)(id:Nat):aa IR:=List.rec G (λp _ ih=>Bool.rec ih (V p.2) (zc p.1 id)) R
def vP(id:Nat)(r':IR)(R:bt):bt:=List.rec [] (λp R ih=>Bool.rec (p::ih) ((p.1,r')::R) (zc p.1 id)) R
def lH(id:Nat)(R:bt):bt:=List.rec [] (λp R ih=>Bool.rec (p::ih) R (zc p.1 id)) R
def aaF{i:Nat}{r:IR}{R:bt}{id:Nat}:gH ((i,r)::R) id=match zc i id with
  |true=>V r
  |false=>gH R id:=by
 show Bool.rec (motive:=λ_=>_) (gH R id) (V r) (zc i id)=_;cases zc i id<;>rfl
def J2{i:Nat}{r r':IR}{R:bt}{id:Nat}:vP id r' ((i,r)::R)=match zc i id with
  |true=>(i,r')::R
  |false=>(i,r)::vP id r' R:=by
 show Bool.rec (motive:=λ_=>_) ((i,r)::vP id r' R) ((i,r')::R) (zc i id)=_;cases zc i id<;>rfl
def C5{i:Nat}{r:IR}{R:bt}{id:Nat}:lH id ((i,r)::R)=match zc i id with
  |true=>R
  |false=>(i,r)::lH id R:=by
 show Bool.rec (motive:=λ_=>_) ((i,r)::lH id R) R (zc i id)=_;cases zc i id<;>rfl
def gZ{a b:Nat}(h:zc a b=J):a=b:=xx h
def eR:∀{R:bt} {id:Nat} {r:IR},gH R id=V r->∃i:Nat,R[i]? =V (id,r)/\(∀r',vP id r' R=R.set i (id,r'))/\lH id R=R.eraseIdx i
 |[],_,_,h=>by cases h
 |(i,r)::R,id,r0,h=>by
  rw[aaF]at h;cases hb:zc i id with
  |true=>
   rw[hb]at h;cases h;cases gZ hb;exact⟨0,rfl,λr'=>by rw[J2,hb];rfl,by rw[C5,hb];rfl⟩
  |false=>
   rw[hb]at h;obtain⟨j,h1,h2,h3⟩:=eR h;exact⟨j+1,h1,λr'=>by rw[J2,hb];simp[h2],by rw[C5,hb];simp[h3]⟩
def iG{R:bt}{ρ:Gh}{i id:Nat}{r:IR}(h:R[i]? =V (id,r)):(bt.res ρ R)[i]? =V (r.res ρ id):=by
 unfold bt.res;rw[ye,h];rfl
def BN{R:bt}{ρ:Gh}{i id:Nat}{r:IR}:bt.res ρ (R.set i (id,r))=(bt.res ρ R).set i (r.res ρ id):=by
 unfold bt.res;rw[List.map_set]
def CV{R:bt}{ρ:Gh}{i:Nat}:bt.res ρ (R.eraseIdx i)=(bt.res ρ R).eraseIdx i:=by
 unfold bt.res;rw[wS,wS,zO,xL,xB]
def Hg{R:bt}{id n:Nat}{r:IR}(h:gH R id=V r)(hR:bt.cV n R):id<n/\r.cV n:=by
 obtain⟨i,h1,_⟩:=eR h;exact hR _ (List.mem_of_getElem? h1)
def qR{R:bt}{id n:Nat}{r r':IR}(h:gH R id=V r)(hR:bt.cV n R)(hr:r'.cV n):bt.cV n (vP id r' R):=by
 obtain⟨i,h1,h2,_⟩:=eR h;rw[h2];intro p hp;rcases List.mem_or_eq_of_mem_set hp with hp|rfl
 ·exact hR p hp
 ·exact⟨(hR _ (List.mem_of_getElem? h1)).1,hr⟩
def H7{R:bt}{id n:Nat}(hR:bt.cV n R):bt.cV n (lH id R):=by
 induction R with
 |nil=>exact hR
 |cons p R ih=>
  obtain⟨i,r⟩:=p;have h2:bt.cV n R:=λp hp=>hR p (zL _ hp);rw[C5];split
  ·exact h2
  ·intro q hq;rcases zx.1 hq with rfl|hq
   ·exact hR _ zk
   ·exact ih h2 q hq
def Env.sub(ρ:Gh)(E:Env):Env:=E.map λp=>(p.1,p.2.sub ρ)
def Env.cV(n:Nat)(E:Env):Prop:=∀p∈E,Iv.cV n p.2
def Env.fo{ρ:Gh}(t:Nat):∀(E:Env),(E.sub ρ).get t=(E.get t).map (b7.sub ρ)
 |[]=>rfl
 |(k,v)::E=>by
  show Env.get ((k,v.sub ρ)::Env.sub ρ E) t=_;unfold Env.get;cases hb:zc k t with
  |true=>rfl
  |false=>exact Env.fo t E
def Env.UF{ρ:Gh}{E:Env}(x:Operand):(E.sub ρ).ev x=(E.ev x).map (b7.sub ρ):=by
 cases x with
 |tmp t=>exact Env.fo t E
 |const v=>simp[Env.ev,b7.sub]
 |global g=>simp[Env.ev,b7.sub]
 |func f=>simp[Env.ev,b7.sub]
def Env.get_mem:∀{E:Env} {t:Nat} {d:AV},E.get t=V d->(t,d)∈E
 |[],_,_,h=>by cases h
 |(k,v)::E,t,d,h=>by
  unfold Env.get at h;cases hb:zc k t with
  |true=>
   rw[hb]at h;cases h;cases gZ hb;exact zk
  |false=>
   rw[hb]at h;exact zL _ (Env.get_mem h)
def Env.abT{E:Env}{n:Nat}{x:Operand}{d:AV}(hE:E.cV n)(h:E.ev x=V d):Iv.cV n d:=by
 cases x with
 |tmp t=>exact hE _ (Env.get_mem h)
 |const v=>cases h;exact .lit _
 |global g=>cases h;exact .lit _
 |func f=>cases h;exact .fn _ [] (by simp)
def Env.cV.mono{n m:Nat}{E:Env}(h:E.cV n)(hn:n<=m):E.cV m:=λp hp=>(h p hp).mono hn
def Env.cV.sub{n:Nat}{E:Env}{ρ ρ':Gh}(h:E.cV n)(ha:qC n ρ ρ'):E.sub ρ=E.sub ρ':=zX λp hp=>by rw[(h p hp).sub ha]
inductive ETq (de:Nat->Type):Type
 |e
 |n (v:Option (b7 de)) (l r:ETq de)
abbrev ET:Type:=ETq U.de
def cU(T:ET):Nat->aa AV:=ETq.rec (λ_=>G) (λv _ _ il ir k=>Bool.rec (Bool.rec (ir (Nat.div (Nat.sub k 1) 2)) (il (Nat.div (Nat.sub k 1) 2)) (zc (Nat.mod (Nat.sub k 1) 2) 0)) v (zc k 0)) T
def ETq.v:ET->aa AV
 | .e=>G
 | .n v _ _=>v
def ETq.l:ET->ET
 | .e=> .e
 | .n _ l _=>l
def ETq.r:ET->ET
 | .e=> .e
 | .n _ _ r=>r
def ab4(d:AV)(ih:ET->Nat->ET)(v:aa AV)(l r:ET)(k:Nat):ET:=Bool.rec (Bool.rec (.n v l (ih r (Nat.div (Nat.sub k 1) 2))) (.n v (ih l (Nat.div (Nat.sub k 1) 2)) r) (zc (Nat.mod (Nat.sub k 1) 2) 0)) (.n (V d) l r) (zc k 0)
def ug(d:AV)(m:Nat):ET->Nat->ET:=Nat.rec (λ_ _=> .e) (λ_ ih T k=>ETq.rec (ab4 d ih G .e .e k) (λv l r _ _=>ab4 d ih v l r k) T) m
def nI(t:Nat)(d:AV)(T:ET):ET:=ug d 12 T t
def emap(f:AV->AV)(T:ET):ET:=ETq.rec .e (λv _ _ il ir=> .n (v.map f) il ir) T
def o7(v:aa AV)(l r:ET)(k:Nat):cU (.n v l r) k=if k=0 then v else if(k-1)%2=0 then cU l ((k-1)/2)else cU r ((k-1)/2):=by
 show Bool.rec (motive:=λ_=>aa AV) (Bool.rec (motive:=λ_=>aa AV) (cU r ((k-1)/2)) (cU l ((k-1)/2)) (zc ((k-1)%2) 0)) v (zc k 0)=_;by_cases hk:k=0
 ·subst hk;rfl
 ·have h1:zc k 0=O:=by
   cases h:zc k 0 with
   |false=>rfl
   |true=>exact dS (xx h) hk
  rw[h1,bL hk];by_cases h2:(k-1)%2=0
  ·rw[h2];rfl
  ·have h3:zc ((k-1)%2) 0=O:=by
    cases h:zc ((k-1)%2) 0 with
    |false=>rfl
    |true=>exact dS (xx h) h2
   rw[h3,bL h2]
def auG(k:Nat):cU (.e:ET) k=G:=rfl
def QK(T:ET)(k:Nat):cU T k=if k=0 then T.v else if(k-1)%2=0 then cU T.l ((k-1)/2)else cU T.r ((k-1)/2):=by
 cases T with
 |e=>simp only[ETq.v,ETq.l,ETq.r,auG,ite_self]
 |n v l r=>exact o7 v l r k
def YY(d:AV)(m:Nat)(T:ET)(k:Nat):ug d (m+1) T k=if k=0 then .n (V d) T.l T.r else if(k-1)%2=0 then .n T.v (ug d m T.l ((k-1)/2)) T.r else .n T.v T.l (ug d m T.r ((k-1)/2)):=by
 have e:ug d (m+1) T k=ab4 d (ug d m) T.v T.l T.r k:=by cases T<;>rfl
 rw[e];show Bool.rec (motive:=λ_=>ET) (Bool.rec (motive:=λ_=>ET) (.n T.v T.l (ug d m T.r ((k-1)/2))) (.n T.v (ug d m T.l ((k-1)/2)) T.r) (zc ((k-1)%2) 0)) (.n (V d) T.l T.r) (zc k 0)=_;by_cases hk:k=0
 ·subst hk;rfl
 ·have h1:zc k 0=O:=by
   cases h:zc k 0 with
   |false=>rfl
   |true=>exact dS (xx h) hk
  rw[h1,bL hk];by_cases h2:(k-1)%2=0
  ·rw[h2];rfl
  ·have h3:zc ((k-1)%2) 0=O:=by
    cases h:zc ((k-1)%2) 0 with
    |false=>rfl
    |true=>exact dS (xx h) h2
   rw[h3,bL h2]
def Cr(d:AV):∀(m:Nat) (T:ET) (k s:Nat) (av:AV),cU (ug d m T k) s=V av->(k=s/\av=d)\/(k≠s/\cU T s=V av)
 |0,T,k,s,av,h=>by cases h
 |m+1,T,k,s,av,h=>by
  rw[YY]at h;rw[QK T s];split at h
  ·rename_i hk;subst hk;rw[o7]at h;split at h
   ·rename_i hs;subst hs;cases h;exact .inl ⟨rfl,rfl⟩
   ·rename_i hs;rw[bL hs];exact .inr ⟨λe=>hs e.symm,h⟩
  ·rename_i hk;split at h
   ·rename_i hk2;rw[o7]at h;split at h
    ·rename_i hs;subst hs;exact .inr ⟨hk,by rw[bB rfl];exact h⟩
    ·rename_i hs;rw[bL hs];split at h
     ·rename_i hs2;rw[bB hs2];rcases Cr d m T.l _ _ av h with ⟨h1,h2⟩|⟨h1,h2⟩
      ·exact .inl ⟨au,h2⟩
      ·exact .inr ⟨λe=>h1 (by rw[e]),h2⟩
     ·rename_i hs2;rw[bL hs2];exact .inr ⟨λe=>hs2 (by rw[<-e];exact hk2),h⟩
   ·rename_i hk2;rw[o7]at h;split at h
    ·rename_i hs;subst hs;exact .inr ⟨hk,by rw[bB rfl];exact h⟩
    ·rename_i hs;rw[bL hs];split at h
     ·rename_i hs2;rw[bB hs2];exact .inr ⟨λe=>hk2 (by rw[e];exact hs2),h⟩
     ·rename_i hs2;rw[bL hs2];rcases Cr d m T.r _ _ av h with ⟨h1,h2⟩|⟨h1,h2⟩
      ·exact .inl ⟨au,h2⟩
      ·exact .inr ⟨λe=>h1 (by rw[e]),h2⟩
def sL{t s:Nat}{d av:AV}{T:ET}(h:cU (nI t d T) s=V av):(t=s/\av=d)\/(t≠s/\cU T s=V av):=Cr d 12 T t s av h
def BI(f:AV->AV):∀(T:ET) (s:Nat),cU (emap f T) s=(cU T s).map f
 | .e,s=>rfl
 | .n v l r,s=>by
  show cU (.n (v.map f) (emap f l) (emap f r)) s=_;rw[o7,o7,BI f l,BI f r];split
  ·rfl
  ·split<;>rfl
def Ad(T:ET)(E:Env):Prop:=∀t d,cU T t=V d->E.get t=V d
def Ad.put{T:ET}{E:Env}(h:Ad T E)(t:Nat)(d:AV):Ad (nI t d T) ((t,d)::E):=λs av hs=>by
 rcases sL hs with ⟨rfl,rfl⟩|⟨h1,h2⟩
 ·exact Env.fh _ _ _
 ·rw[Env.dV _ _ h1];exact h s av h2
def LQ(T:ET):Operand->aa AV
 | .tmp t=>cU T t
 | .const v=>V (.lit v)
 | .global g=>V (.lit (.pointer (V ⟨g,0,G⟩)))
 | .func f=>V (.fn (.func f) [])
def Ad.ev{T:ET}{E:Env}(h:Ad T E)(x:Operand)(d:AV)(hx:LQ T x=V d):E.ev x=V d:=by
 cases x with
 |tmp t=>exact h t d hx
 |_=>exact hx
structure St where
 E:ET
 R:bt
 nx:Nat
structure Cg where
 C:Cx
 ρ:Gh
 n:Nat
def Mt(C:Cg)(n:Nat)(s:St)(a:Act)(w:World):Prop:=∃E:Env,Ad s.E E/\E.cV s.nx/\bt.cV s.nx s.R/\∃ρ,(qC C.n C.ρ ρ/\C.n<=s.nx)/\Ah C.C n (E.sub ρ) (bt.res ρ s.R) a w
def Env.AO{E:Env}{n t:Nat}{d:AV}(hE:E.cV n)(hd:Iv.cV n d):Env.cV n ((t,d)::E):=λp hp=>by
 rcases zx.1 hp with rfl|hp
 ·exact hd
 ·exact hE p hp
def Xv{C:Cx}{σ σ':af cc}(hp:List.Perm σ σ')(b:Nat):al C σ b->al C σ' b:=λhA=>⟨hA.1,λhx=>hA.2 ((hp.filterMap _).symm.mem_iff.1 hx)⟩
end Go.Iv
end
noncomputable section
namespace Go.Iv
open Go Go.RowKit
section
variable [U:EU] {β γ δ:Type}
def Bc(t e:Nat)(l:af (U.de t)):aa (af (U.de e)):=if h:t=e then V (h▸l)else G
def oH{t e:Nat}{l:af (U.de t)}{l':af (U.de e)}(h:Bc t e l=V l'):∃he:t=e,he▸l=l':=by
 unfold Bc at h;split at h
 ·rename_i he;exact⟨he,zF.inj h⟩
 ·cases h
def iI(k:IntKind):AV->aa Int
 | .lit (.int k' n)=>if k=k' then V n else G
 |_=>G
def Sq:AV->aa Bool
 | .lit (.bool b)=>V b
 |_=>G
def asS:AV->aa ByteArray
 | .lit (.string s)=>V s
 |_=>G
def kj(t:Nat):AV->aa (af (U.de t))
 | .sl t' l=>Bc t' t l
 | .lit (.slice G 0 0)=>V []
 |_=>G
def P1(f:AV->aa β)(c:β->AV):Prop:=∀a b,f a=V b->∀A w v,Rel A w a v->Rel A w (c b) v
def P1.i(k:IntKind):P1 (iI k) (b7.n k):=λa b h A w v hr=>by
 unfold iI at h;split at h
 ·split at h
  ·rename_i hk;subst hk;cases h;exact hr
  ·cases h
 ·cases h
def P1.b:P1 Sq b7.b:=λa b h A w v hr=>by
 unfold Sq at h;split at h
 ·cases h;exact hr
 ·cases h
def P1.s:P1 asS b7.s:=λa b h A w v hr=>by
 unfold asS at h;split at h
 ·cases h;exact hr
 ·cases h
def P1.l(t:Nat):P1 (kj t) (b7.sl t):=λa b h A w v hr=>by
 unfold kj at h;split at h
 ·obtain⟨rfl,rfl⟩:=oH h;exact hr
 ·cases h;exact(Vw.nil (σ:=[]) t A w v ⟨λr h=>(by cases h),λb h=>(by cases h)⟩ hr).mono λb _ hA=>⟨hA.elim id (λh=>(by cases h)),rfl⟩
 ·cases h
def qD:af AV->aa Unit
 |[]=>V ()
 |_=>G
def dR(f:AV->aa β)(q:af AV->aa γ):af AV->aa (β×γ)
 |a::cs=>(f a).bind λb=>(q cs).map λg=>(b,g)
 |[]=>G
def Pk(q:af AV->aa γ)(c:γ->af AV):Prop:=∀cs g,q cs=V g->∀A w us,bN A w cs us->bN A w (c g) us
def Pk.nil:Pk qD (λ_=>[]):=λcs g h A w us hr=>by
 unfold qD at h;split at h
 ·exact hr
 ·cases h
def Pk.cons{f:AV->aa β}{c:β->AV}{q:af AV->aa γ}{d:γ->af AV}(h:P1 f c)(hq:Pk q d):Pk (dR f q) (λx=>c x.1::d x.2):=λcs g hg A w us hr=>by
 unfold dR at hg;split at hg
 ·obtain⟨b,h1,hg⟩:=zu.1 hg;obtain⟨g',h2,rfl⟩:=zn.1 hg;obtain⟨v,us',rfl,h3,h4⟩:=hr.head;exact bN.cons (h _ _ h1 A w v h3) (hq _ _ h2 A w us' h4)
 ·cases hg
def Pk.map{q:af AV->aa γ}{d:γ->af AV}{c:δ->af AV}(e:γ->δ)(hq:Pk q d)(hc:∀g,c (e g)=d g):Pk (λcs=>(q cs).map e) c:=λcs g hg A w us hr=>by
 obtain⟨g',h1,rfl⟩:=zn.1 hg;rw[hc];exact hq _ _ h1 A w us hr
def apE:AV->Bool
 | .lit _=>J
 | .sl _ _=>J
 |_=>O
def ad2(cs:af AV)(h:cs.all apE=J)(n:Nat):∀c∈cs,cV n c:=λc hc=>by
 have:=zw.1 h c hc;cases c<;>first|(cases this;done)|exact .lit _|exact .sl _ _
def ae3(cs:af AV)(h:cs.all apE=J)(ρ:Gh):cs.map (b7.sub ρ)=cs:=by
 have:cs.map (b7.sub ρ)=cs.map id:=zX λc hc=>by
  have:=zw.1 h c hc;cases c<;>first|(cases this;done)|simp only[b7.sub,id]
 rw[this,List.map_id]
def Pk.none{c:γ->af AV}:Pk (λ_=>Option.none) c:=λcs g hg=>by cases hg
end
end Go.Iv
end
noncomputable section
namespace Go.Iv
variable [U:EU]
open Go Go.RowKit
section
variable {P:Program} {E E':Env} {σ σ':af cc} {o:Oper} {x y:Operand} {av bv:AV} {C:Cx} {X:af Nat} {n:Nat} {T T' e:TypeId}
def Hd.keep{A:Nat->Prop}{w w':World}(h:Hd A σ w)(hw:∀b,b<w.heap.size->(A b\/b∈bC σ)->w'.heap[b]? =w.heap[b]?):Hd A σ w':=
 ⟨λr hr=>(h.1 r hr).mono (λb hb hA=>⟨hA,hw b hb (.inl hA)⟩) (λb hb=>hw b ((h.1 r hr).lt hb) (.inr (bQ.2 ⟨r,hr,hb⟩))),h.2⟩
def RU.keep{A:Nat->Prop}{w w':World}{ρ:Operand->Value}(h:RU A w E ρ)(hw:∀b,b<w.heap.size->A b->w'.heap[b]? =w.heap[b]?):RU A w' E ρ:=λx u hx=>(h x u hx).mono λb hb hA=>⟨hA,hw b hb hA⟩
def tO{A:Nat->Prop}{w:World}{k:IntKind}:∀{l:af Int} {us:af Value},bN A w (l.map (b7.n k)) us->us=l.map (Value.int k)
 |[],us,h=>xg (by simpa using h.1)
 |x::l,us,h=>by
  obtain⟨v,us',rfl,h1,h2⟩:=bN.head (show bN A w (b7.n k x::l.map (b7.n k)) us from h);rw[h1.cL,tO h2];rfl
def Yp.b2s{q:Nat}{l:af Int}{l0:af (U.de q)}(ho:o.op= .convert T T' x)(hx:Src σ E x q l0)(hn:l0.flatMap (U.cells q)=l.map (b7.n .u8))(hz:U.sz q=1)(hs:P.underlying T=V (.slice e))(he:P.underlying e=V (.int .u8))(hd:P.underlying T'=V .string):Yp P E σ o (.s (strOfNums l)):=λA w ρ h hρ=>
 ⟨_, .lit _,λw' hw=>by
  obtain⟨p,cap,news,h1,h2,h3,_,h5,_⟩:=hx.spec (h.keep hw) (hρ.keep λb hb hA=>hw b hb (.inl hA));have h6:=tO (by rw[hn]at h5;exact h5);have hl0:zY l0=zY l:=by rw[hz,xC]at h3;rw[<-h3,h6,zB]
  rw[hl0]at h1 h2;have hconv:(convert T T' (.slice p (zY l) cap)).run P w'= .ok (.string (strOfNums l)) w':=by
   cases p with
   |none=>
    have:l=[]:=by
     rcases h2 with h2|⟨a,h2,_⟩
     ·exact xg h2
     ·cases h2
    subst this;have hc:=run_convert_bytes_nil (P:=P) w' T e hs he 0 cap T' hd;have:strOfNums []=ByteArray.empty:=rfl;rw[this];simpa using hc
   |some a=>
    have hl:(loadCells a (zY l)).run P w'= .ok (l.map (Value.int .u8)).toArray w':=by
     rcases h2 with h2|⟨a',h2,h4⟩
     ·have:l=[]:=xg h2;subst this;simp[loadCells,loadCellsFrom]
     ·cases h2;have:=run_loadCells_list (P:=P) w' a (l.map (Value.int .u8)) (λj v hj=>h4 j v (by rw[h6];exact hj));simpa using this
    rw[run_convert_bytes_string w' T T' e _ (zY l) cap hs he hd,run_bytesToString w' _ (zY l) cap l hl,foldl_push_bytes];simp[strOfNums,ByteArray.empty,ByteArray.emptyWithCapacity];rfl
  simp[execOp,ho,h1,hconv]⟩
def Yp.aGv{s t:ByteArray}(ho:o.op= .binOp .eql T x y T')(hx:E.ev x=V (.s s))(hy:E.ev y=V (.s t)):Yp P E σ o (.b (s.toList==t.toList)):=Yp.lits λρ hρ w=>by
 simp[execOp,ho,hρ _ _ hx,hρ _ _ hy,eqGuard,binOp,Op.stringOp]
def Yp.aF6{s t:ByteArray}(ho:o.op= .binOp .neq T x y T')(hx:E.ev x=V (.s s))(hy:E.ev y=V (.s t)):Yp P E σ o (.b (!(s.toList==t.toList))):=Yp.lits λρ hρ w=>by
 simp[execOp,ho,hρ _ _ hx,hρ _ _ hy,eqGuard,binOp,Op.stringOp]
def run_equal_bool{w:World}{b c:Bool}(hT:P.underlying T=V .bool):(Op.equal T (.bool b) (.bool c)).run P w= .ok (b==c) w:=by
 obtain⟨d,hd⟩:∃d,Op.maxDepth=d+1:=⟨Op.maxDepth-1,by decide⟩;unfold Op.equal;rw[hd];unfold Op.equalIn;simp only[Sem.run_bind,run_underlying hT,Result.andThen_ok];rfl
def Yp.aHo{b c:Bool}(ho:o.op= .binOp .eql T x y T')(hT:P.underlying T=V .bool)(hx:E.ev x=V (.b b))(hy:E.ev y=V (.b c)):Yp P E σ o (.b (b==c)):=Yp.lits λρ hρ w=>by
 have hbin:binOp .eql T (.bool b) (.bool c)=(do pure (.bool (<-Op.equal T (.bool b) (.bool c)))):=rfl;have h1:=run_equal_bool (P:=P) (T:=T) (w:=w) (b:=b) (c:=c) hT;simp only[execOp,ho,hρ _ _ hx,hρ _ _ hy,eqGuard,hbin];simp[h1]
def Yp.aHZ{b c:Bool}(ho:o.op= .binOp .neq T x y T')(hT:P.underlying T=V .bool)(hx:E.ev x=V (.b b))(hy:E.ev y=V (.b c)):Yp P E σ o (.b (!(b==c))):=Yp.lits λρ hρ w=>by
 have hbin:binOp .neq T (.bool b) (.bool c)=(do pure (.bool (!(<-Op.equal T (.bool b) (.bool c))))):=rfl;have h1:=run_equal_bool (P:=P) (T:=T) (w:=w) (b:=b) (c:=c) hT;simp only[execOp,ho,hρ _ _ hx,hρ _ _ hy,eqGuard,hbin];simp[h1]
end
class Ec [U:EU] where
 len:∀t x,zY (U.cells t x)=U.sz t
 one:∀t x,(U.cells t x).all jc=J
 clo:∀t x ρ,(U.cells t x).map (b7.sub ρ)=U.cells t x
 sU:∀t x n,∀c∈U.cells t x,cV n c
 parse:(t:Nat)->List AV->Option (U.de t)
 mD:∀t cs x,parse t cs=V x->∀A w us,bN A w cs us->bN A w (U.cells t x) us
 nums:(t:Nat)->List (U.de t)->Option (List Int)
 Bp:∀t l ns,nums t l=V ns->l.flatMap (U.cells t)=ns.map (.n .u8)/\U.sz t=1
 fz:Nat->Bool:=λ_=>O
 arr:Nat->Bool:=λ_=>O
 gtB:(t:Nat)->U.de t->Nat->Bool:=λ_ _ _=>O
 stB:(t:Nat)->U.de t->Nat->Bool->U.de t:=λ_ x _ _=>x
 akJ:∀t,arr t=J->∀x i,i<U.sz t->(U.cells t x)[i]? =V (.lit (.bool (gtB t x i))):=by intro t h;exact Bool.noConfusion h
 agF:∀t,arr t=J->∀x i b,i<U.sz t->U.cells t (stB t x i b)=(U.cells t x).take i++[.lit (.bool b)]++(U.cells t x).drop (i+1):=by intro t h;exact Bool.noConfusion h
variable [L:Ec]
def RD(P:Program)(t n:Nat):Bool:=match P.info? t with
 |some i=>zc i.size n
 |none=>O
def tC{P:Program}{t n:Nat}(h:RD P t n=J):(P.info? t).map (·.size)=V n:=by
 unfold RD at h;cases hi:P.info? t with
 |none=>rw[hi]at h;cases h
 |some i=>
  rw[hi]at h;simp only[yI,zF.injEq];exact gZ h
def ZY(P:Program)(t:Nat):Bool:=match P.underlying t with
 |some (.struct _)=>O
 |some (.array _ _)=>O
 |some _=>J
 |none=>O
def En{P:Program}{t:Nat}(h:ZY P t=J):uj P t:=by
 unfold ZY at h;unfold uj;split at h
 ·cases h
 ·cases h
 ·rename_i d hd;refine⟨_,hd,?_⟩;split
  ·simp_all
  ·simp_all
  ·trivial
 ·cases h
def VB(P:Program)(t:Nat):aa Nat:=match P.underlying t with
 |some (.struct _)=>(P.info? t).map (·.size)
 |some (.array _ _)=>(P.info? t).map (·.size)
 |_=>G
def Qa{P:Program}{t n:Nat}(h:VB P t=V n):v8 P t n:=by
 unfold VB at h;split at h
 ·rename_i hd;exact⟨⟨_,hd,trivial⟩,h⟩
 ·rename_i hd;exact⟨⟨_,hd,trivial⟩,h⟩
 ·cases h
def Fv(rd:Nat->aa IR):AV->Bool
 | .own id=>match rd id with
  |some (.row _ _)=>J
  |_=>O
 | .ptr _ _=>J
 | .ra _ _ _ _=>O
 |d=>jc d
def Gj(rd:Nat->aa IR):AV->Bool
 | .agg cs=>cs.all (Fv rd)
 |d=>Fv rd d
section
variable {α:Type} {r:α} {P:Program} {o:Oper} {E:Env} {R:bt} {nx:Nat} {ev:Operand->aa AV} {rd:Nat->aa IR} {x y z:Operand} {d:AV}
structure kR (ev:Operand->Option AV) (rd:Nat->Option IR) (nx:Nat) (E:Env) (R:bt):Prop where
 e:∀x d,ev x=V d->E.ev x=V d
 r:∀id r,rd id=V r->gH R id=V r
 le:E.cV nx
 lr:bt.cV nx R
def kR.fO(h:kR ev rd nx E R)(hx:ev x=V d)(ρ:Gh):(E.sub ρ).ev x=V (d.sub ρ):=by
 rw[Env.UF,h.e _ _ hx];rfl
def kR.sU(h:kR ev rd nx E R)(hx:ev x=V d):cV nx d:=Env.abT h.le (h.e _ _ hx)
def kR.row(h:kR ev rd nx E R){id t:Nat}{l:af (U.de t)}(hr:rd id=V (.row t l))(ρ:Gh):∃i:Nat,(bt.res ρ R)[i]? =V (.row (ρ.v id) t l):=by
 obtain⟨i,h1,_⟩:=eR (h.r _ _ hr);exact⟨i,iG h1⟩
def kR.box(h:kR ev rd nx E R){id t:Nat}{cs:af AV}(hr:rd id=V (.box t cs))(ρ:Gh):∃i:Nat,(bt.res ρ R)[i]? =V (.box (ρ.b id) t (cs.map (b7.sub ρ))):=by
 obtain⟨i,h1,_⟩:=eR (h.r _ _ hr);exact⟨i,iG h1⟩
def kR.aiM(h:kR ev rd nx E R){id t:Nat}{cs:af AV}(hr:rd id=V (.box t cs)):∀c∈cs,cV nx c:=(Hg (h.r _ _ hr) h.lr).2
def Pu(P:Program)(o:Oper)(E:Env)(R:bt)(nx:Nat)(d:AV):Prop:=cV nx d/\∀ρ,Yp P (E.sub ρ) (bt.res ρ R) o (d.sub ρ)
def bV(ρ:Gh)(v:Value):b7.sub ρ (.lit v)= .lit v:=by simp only[b7.sub]
def gP(ρ:Gh)(t:Nat)(l:af (U.de t)):b7.sub ρ (.sl t l)= .sl t l:=by simp only[b7.sub]
def dx(ρ:Gh)(id:Nat):b7.sub ρ (.own id)= .lit (ρ.v id):=by simp only[b7.sub]
def fG(ρ:Gh)(id off:Nat):b7.sub ρ (.ptr id off)= .lit (.pointer (V ⟨ρ.b id,off,G⟩)):=by simp only[b7.sub]
def jU(ρ:Gh)(id t m off:Nat):b7.sub ρ (.ra id t m off)= .rp (ρ.v id) (m*U.sz t+off):=by simp only[b7.sub]
def n9(ρ:Gh)(cs:af AV):b7.sub ρ (.fp cs)= .fp (cs.map (b7.sub ρ)):=by simp only[b7.sub]
def fm(ρ:Gh)(cs:af AV):b7.sub ρ (.agg cs)= .agg (cs.map (b7.sub ρ)):=by simp only[b7.sub]
def lQ(ρ:Gh)(cs:af AV):b7.sub ρ (.jo cs)= .jo (cs.map (b7.sub ρ)):=by simp only[b7.sub]
def uF(ρ:Gh)(f:Go.Fn)(cs:af AV):b7.sub ρ (.fn f cs)= .fn f (cs.map (b7.sub ρ)):=by simp only[b7.sub]
def Pu.lit{v:Value}(h:∀ρ,Yp P (E.sub ρ) (bt.res ρ R) o (.lit v)):Pu P o E R nx (.lit v):=⟨.lit v,λρ=>by rw[bV];exact h ρ⟩
def adY(b:BinOp)(k:IntKind)(m n:Int)(K:AV->aa α):aa α:=match b with
 | .add=>K (.n k (k.wrap (m+n)))
 | .sub=>K (.n k (k.wrap (m-n)))
 | .mul=>K (.n k (k.wrap (m*n)))
 | .quo=>if n≠0 then K (.n k (k.wrap (Int.tdiv m n)))else G
 | .rem=>if n≠0 then K (.n k (Int.tmod m n))else G
 | .and=>K (.n k (uR k m n))
 | .or=>K (.n k (bOr k m n))
 | .xor=>K (.n k (atU k m n))
 | .andNot=>K (.n k (aru k m n))
 | .lss=>K (.b (vn (m<n)))
 | .leq=>K (.b (vn (m<=n)))
 | .gtr=>K (.b (vn (n<m)))
 | .geq=>K (.b (vn (n<=m)))
 | .eql=>K (.b (vn (m=n)))
 | .neq=>K (.b (!vn (m=n)))
 |_=>G
def Yp.avd{T T' e q:Nat}{E:Env}{σ:af cc}{l:af (U.de q)}(ho:o.op= .binOp .eql T x y T')(hx:E.ev x=V (.sl q l))(hy:E.ev y=V (.lit (.slice G 0 0)))(hT:P.underlying T=V (.slice e))(hl:l≠[]):Yp P E σ o (.b O):=λA w ρ _ hρ=>by
 obtain⟨p,cap,u,hv,_,_,_,hc,_⟩:=(hρ _ _ hx).Bu;have h2:=(hρ _ _ hy).cL;obtain⟨b,off,hp,_⟩:=hc 0 (wH.2 hl);subst hp;refine⟨_, .lit _,λw' _=> ?_⟩;have h1:=Lib.run_eql_slice_nil (P:=P) w' T e (V ⟨b,off,G⟩) (zY l) cap 0 0 hT;simp[execOp,ho,hv,h2,eqGuard,h1]
def Yp.as3{T T' e q i:Nat}{v:Value}{E:Env}{σ:af cc}{l:af (U.de q)}(ho:o.op= .binOp .eql T x y T')(hx:E.ev x=V (.lit v))(hσ:σ[i]? =V (.row v q l))(hy:E.ev y=V (.lit (.slice G 0 0)))(hT:P.underlying T=V (.slice e))(hl:l≠[]):Yp P E σ o (.b O):=λA w ρ hd hρ=>by
 obtain⟨us,h1,_⟩:=hd.1 _ (List.mem_of_getElem? hσ);obtain⟨g,cap,cur,hv,_⟩:=h1.at (wH.2 hl);have hx':=(hρ _ _ hx).cL;have h2:=(hρ _ _ hy).cL;refine⟨_, .lit _,λw' _=> ?_⟩;have h1:=Lib.run_eql_slice_nil (P:=P) w' T e (V ⟨g,0,G⟩) (zY l) (cap+1) 0 0 hT;simp[execOp,ho,hx',hv,h2,eqGuard,h1]
def UZ(P:Program)(t:TypeId)(a b:AV):aa Bool:=match P.underlying t with
 |some (.int _)=>match a,b with
  | .lit (.int k m), .lit (.int k' n)=>if k=k' then V (vn (m=n))else G
  |_,_=>G
 |some .bool=>match a,b with
  | .lit (.bool p), .lit (.bool q)=>V (p==q)
  |_,_=>G
 |some .string=>match a,b with
  | .lit (.string p), .lit (.string q)=>V (p.toList==q.toList)
  |_,_=>G
 |_=>G
def Zk(P:Program)(xs ys:af AV):af Field->aa Bool
 |[]=>V J
 |f::fs=>match (f.name !="_")&&ZY P f.type with
  |true=>match xs[f.offset]?,ys[f.offset]? with
   |some a,V b=>(UZ P f.type a b).bind λr=>(Zk P xs ys fs).map λq=>r&&q
   |_,_=>G
  |false=>G
def As{P:Program}{t:TypeId}(h:uj P t){us:af Value}{i:Nat}{v:Value}(hv:us[i]? =V v)(w:World):(part t us.toArray i).run P w= .ok v w:=by
 unfold part;rw[Sem.run_bind,nJ h];simp[hv]
def SM{P:Program}{t:TypeId}{a b:AV}{q:Bool}(h:UZ P t a b=V q){A A':Nat->Prop}{w w' w'':World}{u v:Value}{ρ ρ':Gh}(ha:Rel A w (a.sub ρ) u)(hb:Rel A' w' (b.sub ρ') v)(d:Nat):(Op.equalIn (d+1) t u v).run P w''= .ok q w'':=by
 unfold UZ at h;split at h
 ·rename_i k0 ht;split at h
  ·split at h
   ·rename_i hk;subst hk;cases h;simp only[b7.sub]at ha hb;rw[ha.cL,hb.cL];exact run_equalIn_int _ d t _ k0 _ _ ht
   ·cases h
  ·cases h
 ·rename_i ht;split at h
  ·cases h;simp only[b7.sub]at ha hb;rw[ha.cL,hb.cL];exact run_equalIn_bool' _ d t _ _ ht
  ·cases h
 ·rename_i ht;split at h
  ·cases h;simp only[b7.sub]at ha hb;rw[ha.cL,hb.cL];exact run_equalIn_string _ d t _ _ ht
  ·cases h
 ·cases h
def PX{P:Program}{xs ys:af AV}{A A':Nat->Prop}{w w' w'':World}{us vs:af Value}{ρ ρ':Gh}(ha:bN A w (xs.map (b7.sub ρ)) us)(hb:bN A' w' (ys.map (b7.sub ρ')) vs)(d:Nat):∀{fs:af Field} {q:Bool},Zk P xs ys fs=V q->(Op.eqFields (d+1) us.toArray vs.toArray fs).run P w''= .ok q w''
 |[],q,h=>by cases h;simp[Op.eqFields]
 |f::fs,q,h=>by
  unfold Zk at h;split at h
  case h_2=>cases h
  rename_i hf;simp only[zi,bne_iff_ne,ne_eq]at hf;split at h
  case h_2=>cases h
  rename_i a b hx hy;obtain⟨r1,h1,h⟩:=zu.1 h;obtain⟨q1,h2,rfl⟩:=zn.1 h;obtain⟨u,hu,hu'⟩:=ha.get (a:=a.sub ρ) (j:=f.offset) (by rw[ye,hx];rfl);obtain⟨v,hv,hv'⟩:=hb.get (a:=b.sub ρ') (j:=f.offset) (by rw[ye,hy];rfl);have ih:=PX (w'':=w'') ha hb d h2;have hone:=En hf.2;unfold Op.eqFields;rw[bB hf.1];simp only[Sem.run_bind,As hone hu,As hone hv,Result.andThen_ok,SM (w'':=w'') h1 hu' hv' d];cases r1 with
  |true=>simpa using ih
  |false=>simp
def Yp.seq'{T T':TypeId}{E:Env}{σ:af cc}{b:BinOp}{cs ds:af AV}{fs:Array Field}{q:Bool}{ρ ρ':Gh}(ho:o.op= .binOp b T x y T')(hx:E.ev x=V (.agg (cs.map (b7.sub ρ))))(hy:E.ev y=V (.agg (ds.map (b7.sub ρ'))))(hT:P.underlying T=V (.struct fs))(hp:P.stoodInHeld T=O)(hg:P.eqGuardType P.depth T=O)(hq:Zk P cs ds fs.toList=V q)(hb:b= .eql\/b= .neq):
  Yp P E σ o (.b (match b with| .neq=> !q|_=>q)):=λA w j _ hρ=>by
 obtain⟨us,h1,h2⟩:=(hρ _ _ hx).pY;obtain⟨vs,h3,h4⟩:=(hρ _ _ hy).pY;refine⟨_, .lit _,λw' _=> ?_⟩;have hT':P.underlying T=V (.struct (P.fieldsOf T)):=by unfold Program.fieldsOf;rw[hT]
 have hfs:P.fieldsOf T=fs:=by unfold Program.fieldsOf;rw[hT]
 have he:=run_equalIn_struct (P:=P) w' 9999 T us.toArray vs.toArray hT' hp;rw[hfs,PX (w'':=w') h2 h4 9998 hq]at he;have hgr:=run_eqGuard_agg (P:=P) w' b T x y us.toArray vs.toArray hg;rcases hb with rfl|rfl
 ·have h5:=run_eql_struct (P:=P) w' T us.toArray vs.toArray;rw[he]at h5;simp[execOp,ho,h1,h3,hgr,h5]
 ·have h5:=run_neq_struct (P:=P) w' T us.toArray vs.toArray;rw[he]at h5;simp[execOp,ho,h1,h3,hgr,h5]
def eqS(P:Program)(b:BinOp)(T:TypeId)(cs ds:af AV)(K:AV->aa α):aa α:=match P.underlying T with
 |some (.struct fs)=>match !P.stoodInHeld T&& !P.eqGuardType P.depth T with
  |true=>match b with
   | .eql=>(Zk P cs ds fs.toList).bind λq=>K (.b q)
   | .neq=>(Zk P cs ds fs.toList).bind λq=>K (.b (!q))
   |_=>G
  |false=>G
 |_=>G
def avB{b:BinOp}{T T':TypeId}{cs ds:af AV}(hs:kR ev rd nx E R)(ho:o.op= .binOp b T x y T')(hx:ev x=V (.agg cs))(hy:ev y=V (.agg ds)){K:AV->aa α}(h:eqS P b T cs ds K=V r):∃d,K d=V r/\Pu P o E R nx d:=by
 unfold eqS at h;split at h
 case h_2=>cases h
 rename_i fs hT;split at h
 case h_2=>cases h
 rename_i hg;simp only[zi,Bool.not_eq_true']at hg;have ex:=λρ=>hs.fO hx ρ;have ey:=λρ=>hs.fO hy ρ;simp only[fm]at ex ey;split at h
 ·obtain⟨q,hq,h⟩:=zu.1 h;exact⟨_,h, .lit λρ=> .seq' ho (ex ρ) (ey ρ) hT hg.1 hg.2 hq (.inl rfl)⟩
 ·obtain⟨q,hq,h⟩:=zu.1 h;exact⟨_,h, .lit λρ=> .seq' ho (ex ρ) (ey ρ) hT hg.1 hg.2 hq (.inr rfl)⟩
 ·cases h
def P9(P:Program)(rd:Nat->aa IR)(b:BinOp)(T:TypeId)(x y:aa AV)(K:AV->aa α):aa α:=match x,y with
 |some (.lit (.int k m)),V (.lit (.int k' n))=>match b with
  | .shl=>if 0<=n then K (.n k (nW k m n))else G
  | .shr=>if 0<=n then K (.n k (cT k m n))else G
  |_=>if k=k' then adY b k m n K else G
 |some (.lit (.bool p)),V (.lit (.bool q))=>match P.underlying T with
  |some .bool=>match b with
   | .eql=>K (.b (p==q))
   | .neq=>K (.b (!(p==q)))
   |_=>G
  |_=>G
 |some (.lit (.string s)),V (.lit (.string t))=>match b with
  | .eql=>K (.b (s.toList==t.toList))
  | .neq=>K (.b (!(s.toList==t.toList)))
  |_=>G
 |some (.lit (.slice p _ _)),V (.lit (.slice G 0 0))=>match b,P.underlying T with
  | .eql,V (.slice _)=>K (.b p.isNone)
  |_,_=>G
 |some (.sl _ l),V (.lit (.slice G 0 0))=>match b,P.underlying T with
  | .eql,V (.slice _)=>match l with
   |[]=>G
   |_::_=>K (.b O)
  |_,_=>G
 |some (.own id),V (.lit (.slice G 0 0))=>match b,P.underlying T with
  | .eql,V (.slice _)=>match rd id with
   |some (.row _ (_::_))=>K (.b O)
   |_=>G
  |_,_=>G
 |some (.agg cs),V (.agg ds)=>eqS P b T cs ds K
 |_,_=>G
def ahS{b:BinOp}{T T':TypeId}(hs:kR ev rd nx E R)(ho:o.op= .binOp b T x y T'){K:AV->aa α}(h:P9 P rd b T (ev x) (ev y) K=V r):∃d,K d=V r/\Pu P o E R nx d:=by
 unfold P9 at h;split at h
 ·rename_i k m k' n hx hy;have ex:=λρ=>hs.fO hx ρ;have ey:=λρ=>hs.fO hy ρ;simp only[bV]at ex ey;split at h
  ·split at h
   ·rename_i h0;exact⟨_,h, .lit λρ=> .shl ho (ex ρ) (ey ρ) h0⟩
   ·cases h
  ·split at h
   ·rename_i h0;exact⟨_,h, .lit λρ=> .shr ho (ex ρ) (ey ρ) h0⟩
   ·cases h
  ·split at h
   ·rename_i hk;subst hk;unfold adY at h;split at h
    ·exact⟨_,h, .lit λρ=> .add ho (ex ρ) (ey ρ)⟩
    ·exact⟨_,h, .lit λρ=> .sub ho (ex ρ) (ey ρ)⟩
    ·exact⟨_,h, .lit λρ=> .mul ho (ex ρ) (ey ρ)⟩
    ·split at h
     ·rename_i h0;exact⟨_,h, .lit λρ=> .quo ho (ex ρ) (ey ρ) h0⟩
     ·cases h
    ·split at h
     ·rename_i h0;exact⟨_,h, .lit λρ=> .rem ho (ex ρ) (ey ρ) h0⟩
     ·cases h
    ·exact⟨_,h, .lit λρ=> .and ho (ex ρ) (ey ρ)⟩
    ·exact⟨_,h, .lit λρ=> .or ho (ex ρ) (ey ρ)⟩
    ·exact⟨_,h, .lit λρ=> .xor ho (ex ρ) (ey ρ)⟩
    ·exact⟨_,h, .lit λρ=> .andNot ho (ex ρ) (ey ρ)⟩
    ·exact⟨_,h, .lit λρ=> .lss ho (ex ρ) (ey ρ)⟩
    ·exact⟨_,h, .lit λρ=> .leq ho (ex ρ) (ey ρ)⟩
    ·exact⟨_,h, .lit λρ=> .gtr ho (ex ρ) (ey ρ)⟩
    ·exact⟨_,h, .lit λρ=> .geq ho (ex ρ) (ey ρ)⟩
    ·exact⟨_,h, .lit λρ=> .eql ho (ex ρ) (ey ρ)⟩
    ·exact⟨_,h, .lit λρ=> .neq ho (ex ρ) (ey ρ)⟩
    ·cases h
   ·cases h
 ·rename_i p q hx hy;have ex:=λρ=>hs.fO hx ρ;have ey:=λρ=>hs.fO hy ρ;simp only[bV]at ex ey;split at h
  ·rename_i hT;split at h
   ·exact⟨_,h, .lit λρ=> .aHo ho hT (ex ρ) (ey ρ)⟩
   ·exact⟨_,h, .lit λρ=> .aHZ ho hT (ex ρ) (ey ρ)⟩
   ·cases h
  ·cases h
 ·rename_i s t hx hy;have ex:=λρ=>hs.fO hx ρ;have ey:=λρ=>hs.fO hy ρ;simp only[bV]at ex ey;split at h
  ·exact⟨_,h, .lit λρ=> .aGv ho (ex ρ) (ey ρ)⟩
  ·exact⟨_,h, .lit λρ=> .aF6 ho (ex ρ) (ey ρ)⟩
  ·cases h
 ·rename_i p l c hx hy;have ex:=λρ=>hs.fO hx ρ;have ey:=λρ=>hs.fO hy ρ;simp only[bV]at ex ey;split at h
  ·rename_i hT;exact⟨_,h, .lit λρ=> .au3 ho (ex ρ) (ey ρ) hT⟩
  ·cases h
 ·rename_i t l hx hy;have ex:=λρ=>hs.fO hx ρ;have ey:=λρ=>hs.fO hy ρ;simp only[bV]at ey;simp only[gP]at ex;split at h
  ·rename_i hT;split at h
   ·cases h
   ·exact⟨_,h, .lit λρ=> .avd ho (ex ρ) (ey ρ) hT (by simp)⟩
  ·cases h
 ·rename_i id hx hy;have ex:=λρ=>hs.fO hx ρ;have ey:=λρ=>hs.fO hy ρ;simp only[bV]at ey;simp only[dx]at ex;split at h
  ·rename_i hT;split at h
   ·rename_i hr;exact⟨_,h, .lit λρ=>by
     obtain⟨i,hi⟩:=hs.row hr ρ;exact .as3 ho (ex ρ) hi (ey ρ) hT (by simp)⟩
   ·cases h
  ·cases h
 ·rename_i cs ds hx hy;exact avB hs ho hx hy h
 ·cases h
def unV(b:UnOp)(x:aa AV)(K:AV->aa α):aa α:=match b,x with
 | .not,V (.lit (.bool p))=>K (.b (!p))
 | .neg,V (.lit (.int k n))=>K (.n k (k.wrap (0-n)))
 |_,_=>G
def aty{b:UnOp}{T:TypeId}(hs:kR ev rd nx E R)(ho:o.op= .unOp b T x){K:AV->aa α}(h:unV b (ev x) K=V r):∃d,K d=V r/\Pu P o E R nx d:=by
 unfold unV at h;split at h
 ·rename_i p hx;have ex:=λρ=>hs.fO hx ρ;simp only[bV]at ex;exact⟨_,h, .lit λρ=> .not ho (ex ρ)⟩
 ·rename_i p hx;have ex:=λρ=>hs.fO hx ρ;simp only[bV]at ex;exact⟨_,h, .lit λρ=> .neg ho (ex ρ)⟩
 ·cases h
def UR(x:aa AV)(K:AV->aa α):aa α:=match x with
 |some (.ptr id off)=>K (.ptr id off)
 |some (.fp cs)=>K (.fp cs)
 |some (.ra id t m off)=>K (.ra id t m off)
 |_=>G
def akc(hs:kR ev rd nx E R)(ho:o.op= .nilCheck x){K:AV->aa α}(h:UR (ev x) K=V r):∃d,K d=V r/\Pu P o E R nx d:=by
 unfold UR at h;split at h
 ·rename_i hx;exact⟨_,h,hs.sU hx,λρ=>by have ex:=hs.fO hx ρ;rw[fG]at ex ⊢;exact .aaS ho ex⟩
 ·rename_i hx;exact⟨_,h,hs.sU hx,λρ=>by have ex:=hs.fO hx ρ;rw[n9]at ex ⊢;exact .aap ho ex⟩
 ·rename_i hx;exact⟨_,h,hs.sU hx,λρ=>by have ex:=hs.fO hx ρ;rw[jU]at ex ⊢;exact .ZU ho ex⟩
 ·cases h
def oG{n:Nat}{cs:af AV}(h:∀c∈cs,cV n c)(k:Nat):∀c∈cs.drop k,cV n c:=λc hc=>h c (xD hc)
def rj{n:Nat}{cs:af AV}(h:∀c∈cs,cV n c)(k:Nat):∀c∈cs.take k,cV n c:=λc hc=>h c (wJ hc)
def cV.fpL{n:Nat}{cs:af AV}(h:cV n (.fp cs)):∀c∈cs,cV n c:=by cases h;assumption
def cV.qA{n:Nat}{cs:af AV}(h:cV n (.agg cs)):∀c∈cs,cV n c:=by cases h;assumption
def cV.Jg{n:Nat}{cs:af AV}(h:cV n (.jo cs)):∀c∈cs,cV n c:=by cases h;assumption
def cV.fnL{n:Nat}{f:Go.Fn}{cs:af AV}(h:cV n (.fn f cs)):∀c∈cs,cV n c:=by cases h;assumption
def cV.aA6{n id off:Nat}(h:cV n (.ptr id off)):id<n:=by cases h;assumption
def cV.raL{n id t m off:Nat}(h:cV n (.ra id t m off)):id<n:=by cases h;assumption
def cV.aGG{n id:Nat}(h:cV n (.own id)):id<n:=by cases h;assumption
def BD{n:Nat}{cs:af AV}(h:∀c∈cs,cV n c){k:Nat}(hk:cs[k]? =V d):cV n d:=h d (List.mem_of_getElem? hk)
def AA{n:Nat}{cs ds:af AV}(h:∀c∈cs,cV n c)(h':∀c∈ds,cV n c):∀c∈cs++ds,cV n c:=λc hc=>(zP.1 hc).elim (h c) (h' c)
def CG{n:Nat}(h:cV n d):∀c∈dU d,cV n c:=by
 cases d<;>first|exact h.qA|(intro c hc;simp only[dU,zo]at hc;rw[hc];exact h)
def RQ(n:Nat)(zs:af Value):∀c∈zs.map (b7.lit (de:=U.de)),cV n c:=λc hc=>by
 obtain⟨v,_,rfl⟩:=zM.1 hc;exact .lit v
def Sc(P:Program)(T:TypeId)(i:Nat)(x:aa AV)(K:AV->aa α):aa α:=match P.underlying T with
 |some (.struct fs)=>match fs[i]? with
  |some f=>match (P.info? f.type).map (·.size)with
   |some (_+1)=>match x with
    |some (.ptr id off)=>K (.ptr id (off+f.offset))
    |some (.fp cs)=>K (.fp (cs.drop f.offset))
    |some (.ra id t m off)=>K (.ra id t m (off+f.offset))
    |_=>G
   |_=>G
  |none=>G
 |_=>G
def aiW{T:TypeId}{i:Nat}(hs:kR ev rd nx E R)(ho:o.op= .fieldAddr T x i){K:AV->aa α}(h:Sc P T i (ev x) K=V r):∃d,K d=V r/\Pu P o E R nx d:=by
 unfold Sc at h;split at h
 case h_2=>cases h
 rename_i fs hT;split at h
 case h_2=>cases h
 rename_i f hf;split at h
 case h_2=>cases h
 rename_i sz hsz;split at h
 ·rename_i id off hx;exact⟨_,h, .ptr _ _ (hs.sU hx).aA6,λρ=>by have ex:=hs.fO hx ρ;rw[fG]at ex ⊢;exact .asv ho ex hT hf hsz⟩
 ·rename_i cs hx;exact⟨_,h, .fp _ (oG (hs.sU hx).fpL _),λρ=>by have ex:=hs.fO hx ρ;rw[n9]at ex ⊢;rw[xB];exact .avP ho ex hT hf hsz⟩
 ·rename_i id t m off hx;exact⟨_,h, .ra _ _ _ _ (hs.sU hx).raL,λρ=>by have ex:=hs.fO hx ρ;rw[jU]at ex ⊢;rw[<-yH];exact .aui ho ex hT hf hsz⟩
 ·cases h
def Sj(P:Program)(rd:Nat->aa IR)(T:TypeId)(x y:aa AV)(K:AV->aa α):aa α:=match y with
 |some (.lit (.int _ m))=>match P.underlying T with
  |some (.slice e)=>match x with
   |some (.sl t l)=>match RD P e (U.sz t)with
    |true=>if 0<=m/\m<(zY l:Int)then K (.fp (U.cells t l[m.toNat]!))else G
    |false=>G
   |some (.own id)=>match rd id with
    |some (.row t l)=>match RD P e (U.sz t)with
     |true=>if 0<=m/\m<(zY l:Int)then K (.ra id t m.toNat 0)else G
     |false=>G
    |_=>G
   |_=>G
  |some (.array n e)=>match (P.info? e).map (·.size)with
   |some sz=>if 0<=m/\m<(n:Int)then(match x with
    |some (.ptr id off)=>K (.ptr id (off+m.toNat*sz))
    |some (.fp cs)=>K (.fp (cs.drop (m.toNat*sz)))
    |some (.ra id t j off)=>K (.ra id t j (off+m.toNat*sz))
    |_=>G)else G
   |none=>G
  |_=>G
 |_=>G
def anf{T:TypeId}(hs:kR ev rd nx E R)(ho:o.op= .indexAddr T x y){K:AV->aa α}(h:Sj P rd T (ev x) (ev y) K=V r):∃d,K d=V r/\Pu P o E R nx d:=by
 unfold Sj at h;split at h
 case h_2=>cases h
 rename_i k m hy;have ey:=λρ=>hs.fO hy ρ;simp only[bV]at ey;split at h
 ·rename_i e hT;split at h
  ·rename_i t l hx;split at h
   case h_2=>cases h
   rename_i hsz;split at h
   ·rename_i hm;exact⟨_,h, .fp _ (L.sU t _ nx),λρ=>by have ex:=hs.fO hx ρ;rw[gP]at ex;rw[n9,L.clo];exact .alw ho ex (ey ρ) hT (tC hsz) hm⟩
   ·cases h
  ·rename_i id hx;split at h
   case h_2=>cases h
   rename_i t l hr;split at h
   case h_2=>cases h
   rename_i hsz;split at h
   ·rename_i hm;refine⟨_,h, .ra _ _ _ _ (hs.sU hx).aGG,λρ=> ?_⟩;have ex:=hs.fO hx ρ;rw[dx]at ex;obtain⟨i,hi⟩:=hs.row hr ρ;rw[jU,yg];exact .aeB i ho ex hi (ey ρ) hT (tC hsz) hm
   ·cases h
  ·cases h
 ·rename_i n e hT;split at h
  case h_2=>cases h
  rename_i sz hsz;split at h
  case isFalse=>cases h
  rename_i hm;split at h
  ·rename_i id off hx;exact⟨_,h, .ptr _ _ (hs.sU hx).aA6,λρ=>by have ex:=hs.fO hx ρ;rw[fG]at ex ⊢;exact .aud ho ex (ey ρ) hT hsz hm⟩
  ·rename_i cs hx;exact⟨_,h, .fp _ (oG (hs.sU hx).fpL _),λρ=>by have ex:=hs.fO hx ρ;rw[n9]at ex ⊢;rw[xB];exact .auC ho ex (ey ρ) hT hsz hm⟩
  ·rename_i id t j off hx;exact⟨_,h, .ra _ _ _ _ (hs.sU hx).raL,λρ=>by have ex:=hs.fO hx ρ;rw[jU]at ex ⊢;rw[<-yH];exact .au6 ho ex (ey ρ) hT hsz hm⟩
  ·cases h
 ·cases h
def ldV(P:Program)(rd:Nat->aa IR)(T:TypeId)(x:aa AV)(K:AV->aa α):aa α:=match ZY P T with
 |true=>match x with
  |some (.fp cs)=>(cs[0]?).bind K
  |some (.ptr id off)=>match rd id with
   |some (.box _ cs)=>(cs[off]?).bind K
   |_=>G
  |some (.ra id t m off)=>match rd id with
   |some (.row t' l)=>match L.arr t' with
    |true=>if t=t'/\m<zY l/\off<U.sz t' then K (.lit (.bool (L.gtB t' l[m]! off)))else G
    |false=>if t=t'/\m<zY l then((U.cells t' l[m]!)[off]?).bind K else G
   |_=>G
  |_=>G
 |false=>match VB P T with
  |some n=>match x with
   |some (.fp cs)=>match yp n (zY cs) with
    |true=>K (.agg (cs.take n))
    |false=>G
   |some (.ptr id off)=>match rd id with
    |some (.box _ cs)=>match yp (off+n) (zY cs) with
     |true=>K (.agg ((cs.drop off).take n))
     |false=>G
    |_=>G
   |some (.ra id t m off)=>match rd id with
    |some (.row t' l)=>match yp (off+n) (U.sz t')with
     |true=>if t=t'/\m<zY l then K (.agg (((U.cells t' l[m]!).drop off).take n))else G
     |false=>G
    |_=>G
   |_=>G
  |none=>G
def atM{T:TypeId}(hs:kR ev rd nx E R)(ho:o.op= .load T x){K:AV->aa α}(h:ldV P rd T (ev x) K=V r):∃d,K d=V r/\Pu P o E R nx d:=by
 unfold ldV at h;split at h
 ·rename_i hT;have hT:=En hT;split at h
  ·rename_i cs hx;obtain⟨d,hd,h⟩:=zu.1 h;exact⟨d,h,BD (hs.sU hx).fpL hd,λρ=>by have ex:=hs.fO hx ρ;rw[n9]at ex;exact .asc ho ex hT (by rw[ye,hd];rfl)⟩
  ·rename_i id off hx;split at h
   case h_2=>cases h
   rename_i t cs hr;obtain⟨d,hd,h⟩:=zu.1 h;refine⟨d,h,BD (hs.aiM hr) hd,λρ=> ?_⟩;have ex:=hs.fO hx ρ;rw[fG]at ex;obtain⟨i,hi⟩:=hs.box hr ρ;exact .as2 i ho ex hi hT (by rw[ye,hd];rfl)
  ·rename_i id t m off hx;split at h
   case h_2=>cases h
   rename_i t' l hr;split at h
   ·rename_i har;split at h
    case isFalse=>cases h
    rename_i hm;obtain⟨rfl,hm,hoff⟩:=hm;refine⟨_,h, .lit _,λρ=> ?_⟩;have ex:=hs.fO hx ρ;rw[jU]at ex;obtain⟨i,hi⟩:=hs.row hr ρ;rw[show (b7.lit (.bool (L.gtB t l[m]! off)):AV).sub ρ= .lit (.bool (L.gtB t l[m]! off))by simp only[b7.sub]];exact .abY i m ho ex hi hT rfl hm (L.akJ t har l[m]! off hoff)
   split at h
   case isFalse=>cases h
   rename_i hm;obtain⟨rfl,hm⟩:=hm;obtain⟨d,hd,h⟩:=zu.1 h;refine⟨d,h,BD (L.sU t _ nx) hd,λρ=> ?_⟩;have ex:=hs.fO hx ρ;rw[jU]at ex;obtain⟨i,hi⟩:=hs.row hr ρ;have hc:d.sub ρ=d:=by
    have:=L.clo t l[m]! ρ;have h2:((U.cells t l[m]!).map (b7.sub ρ))[off]? =V (d.sub ρ):=by rw[ye,hd];rfl
    rw[this,hd]at h2;exact(zF.inj h2).symm
   rw[hc];exact .abY i m ho ex hi hT rfl hm hd
  ·cases h
 ·split at h
  case h_2=>cases h
  rename_i n hT;have hT:=Qa hT;split at h
  ·rename_i cs hx;split at h
   case h_2=>cases h
   rename_i hn;exact⟨_,h, .agg _ (rj (hs.sU hx).fpL _),λρ=>by have ex:=hs.fO hx ρ;rw[n9]at ex;rw[fm,xL];exact .asf ho ex hT (by rw[zB];exact wg hn)⟩
  ·rename_i id off hx;split at h
   case h_2=>cases h
   rename_i t cs hr;split at h
   case h_2=>cases h
   rename_i hn;refine⟨_,h, .agg _ (rj (oG (hs.aiM hr) _) _),λρ=> ?_⟩;have ex:=hs.fO hx ρ;rw[fG]at ex;obtain⟨i,hi⟩:=hs.box hr ρ;rw[fm,xL,xB];exact .asa i ho ex hi hT (by rw[zB];exact wg hn)
  ·rename_i id t m off hx;split at h
   case h_2=>cases h
   rename_i t' l hr;split at h
   case h_2=>cases h
   rename_i hn;split at h
   case isFalse=>cases h
   rename_i hm;obtain⟨rfl,hm⟩:=hm;refine⟨_,h, .agg _ (rj (oG (L.sU t _ nx) _) _),λρ=> ?_⟩;have ex:=hs.fO hx ρ;rw[jU]at ex;obtain⟨i,hi⟩:=hs.row hr ρ;rw[fm,xL,xB,L.clo];exact .ar0 i m ho ex hi hT rfl hm (wg hn)
  ·cases h
end
end Go.Iv
end
noncomputable section
namespace Go.Iv
variable [U:EU] [L:Ec]
open Go Go.RowKit
section
variable {P:Program} {E:Env} {σ:af cc} {o:Oper} {T T' e:TypeId} {x y z:Operand} {av:AV} {m:Int} {k:IntKind}
def Yp.at9{n':Nat}{cs:af AV}(ho:o.op= .index T x y)(hx:E.ev x=V (.agg cs))(hy:E.ev y=V (.n k m))(hT:P.underlying T=V (.array n' e))(h1:uj P e)(hs:(P.info? e).map (·.size)=V 1)(hm:0<=m/\m<n')(ha:cs[m.toNat]? =V av):Yp P E σ o av:=λA w ρ _ hρ=>by
 obtain⟨j,hj,hj'⟩:=zn.1 hs;obtain⟨us,q1,q2⟩:=(hρ _ _ hx).pY;have hy':=(hρ _ _ hy).cL;obtain⟨v,q3,q4⟩:=q2.get ha;refine⟨v,q4,λw' _=> ?_⟩;have hp:(part e us.toArray m.toNat).run P w'= .ok v w':=by
  unfold part;rw[Sem.run_bind,nJ h1];simp[q3]
 simp[execOp,ho,Instr.index,q1,hy',run_underlying hT,sizeOf,typeInfo,hj,hj',asIntOf,hm,hp]
end
section
variable {α:Type} {r:α} {P:Program} {o:Oper} {E:Env} {R:bt} {nx:Nat} {ev:Operand->aa AV} {rd:Nat->aa IR} {x y z:Operand} {d:AV} {A:Nat->Prop} {w:World} {ρ:Gh} {v:Value}
def l9(ρ:Gh)(d:AV):dU (d.sub ρ)=(dU d).map (b7.sub ρ):=by
 cases d<;>simp only[b7.sub,dU,yf,yT]
def Tt{d:AV}(h:jc d=J)(hn:∀id,d≠ .own id):jc (d.sub ρ)=J:=by
 cases d<;>first|(exact dS rfl (hn _))|(cases h;done)|(simp only[b7.sub,jc]at h ⊢;done)|(simp only[b7.sub]at h ⊢;first|exact h|rfl)
def HI(hs:kR ev rd nx E R)(h:Fv rd d=J)(hd:Hd A (bt.res ρ R) w)(hr:Rel A w (d.sub ρ) v):v.oneCell'=J:=by
 unfold Fv at h;split at h
 ·rename_i id;split at h
  ·rename_i t l hrd;obtain⟨i,hi⟩:=hs.row hrd ρ;rw[dx]at hr;rw[hr.cL];exact anQ i hi hd
  ·cases h
 ·rw[fG]at hr;rw[hr.cL];rfl
 ·cases h
 ·rename_i h1 _ _;exact hr.one (Tt h (λid e=>h1 id e))
def Aw(hs:kR ev rd nx E R)(h:Gj rd d=J)(hd:Hd A (bt.res ρ R) w)(hr:Rel A w (d.sub ρ) v):bN A w ((dU d).map (b7.sub ρ)) v.cells.toList/\∀u∈v.cells.toList,u.oneCell'=J:=by
 by_cases ha:∃cs,d= .agg cs
 ·obtain⟨cs,rfl⟩:=ha;rw[fm]at hr;obtain⟨us,rfl,h2⟩:=hr.pY;refine⟨by simpa [Value.cells,dU]using h2,λu hu=> ?_⟩;simp only[Value.cells]at hu;obtain⟨j,hj,rfl⟩:=xd hu;have hlt:j<zY cs:=by have:=h2.1;rw[zB]at this;omega
  have h3:=h2.2 j _ us[j] (by rw[ye,zm hlt];rfl) (zm hj);exact HI hs (zw.1 h _ (xP hlt)) hd h3
 ·have hc:Fv rd d=J:=by
   cases d<;>first|exact h|(exact dS ⟨_,rfl⟩ ha)
  have hac:dU d=[d]:=by
   cases d<;>first|rfl|(exact dS ⟨_,rfl⟩ ha)
  have h2:=HI hs hc hd hr;rw[hac,uf h2];exact⟨bN.cons hr bN.nil,λu hu=>by simp at hu;rw[hu];exact h2⟩
def JO(hs:kR ev rd nx E R)(h:Gj rd d=J):Pw (bt.res ρ R) (d.sub ρ):=λA w v hd hr=>by
 rw[l9];exact Aw hs h hd hr
def Bt(rd:Nat->aa IR)(place:Nat->aa (Nat×Nat))(cells:af AV):af (Nat×AV)->aa (af AV)
 |[]=>V cells
 |(i,a)::rest=>
  match place i with
  |none=>G
  |some (off,size)=>
   match zc (dU a).length size&&yp (off+size) cells.length&&Gj rd a with
   |true=>Bt rd place (cells.take off++dU a++cells.drop (off+size)) rest
   |false=>G
def JW{place:Nat->aa (Nat×Nat)}:∀{ps:af (Nat×AV)} {cs cs':af AV},(∀c∈cs,cV nx c)->(∀p∈ps,cV nx p.2)->Bt rd place cs ps=V cs'->∀c∈cs',cV nx c
 |[],cs,cs',h1,_,hf=>by cases hf;exact h1
 |(i,a)::ps,cs,cs',h1,h2,hf=>by
  unfold Bt at hf;split at hf
  ·cases hf
  ·split at hf
   ·exact JW (AA (AA (rj h1 _) (CG (h2 _ zk))) (oG h1 _)) (λp hp=>h2 p (zL _ hp)) hf
   ·cases hf
def Du(hs:kR ev rd nx E R)(hd:Hd A (bt.res ρ R) w){place:Nat->aa (Nat×Nat)}:∀{ps:af (Nat×AV)} {qs:af (Nat×Value)} {cs cs':af AV} {init:Array Value},bN A w (cs.map (b7.sub ρ)) init.toList->
  F2 (λ(p:Nat×AV) (q:Nat×Value)=>p.1=q.1/\Rel A w (p.2.sub ρ) q.2) ps qs->Bt rd place cs ps=V cs'->∃us:Array Value,Instr.fill place init qs=V us/\bN A w (cs'.map (b7.sub ρ)) us.toList
 |[],_,cs,cs',init,hi,hp,hf=>by
  cases hp;cases hf;exact⟨init,rfl,hi⟩
 |(i,a)::ps,_,cs,cs',init,hi,hp,hf=>by
  cases hp with
  |@cons _ q _ qs h1 h2=>
   obtain⟨j,v⟩:=q;obtain⟨h3,h4⟩:=h1;subst h3;unfold Bt at hf;unfold Instr.fill;cases hpl:place i with
   |none=>rw[hpl]at hf;cases hf
   |some os=>
    obtain⟨off,size⟩:=os;rw[hpl]at hf;simp only at hf ⊢;split at hf
    ·rename_i hc;simp only[zi,Nat.ble_eq]at hc;obtain⟨⟨hc1,hc2⟩,hc3⟩:=hc;have hc1:=xx hc1;obtain⟨h5,h6⟩:=Aw hs hc3 hd h4;have hvs:v.cells.size=size:=by rw[<-yo,h5.1,zB,hc1]
     have his:init.size=zY cs:=by rw[<-yo,hi.1,zB]
     rw[bL (by simp;omega)];refine Du hs hd (cs:=cs.take off++dU a++cs.drop (off+size)) ?_ h2 hf;have hvl:zY v.cells.toList=size:=by rw[yo,hvs]
     have e:(v.cells.zipIdx.foldl (λcs (x:Value×Nat)=>match x with|(c,j)=>cs.setIfInBounds (off+j) c) init).toList=init.toList.take off++v.cells.toList++init.toList.drop (off+size):=by
      have:=ZJ v.cells.toList 0 off init (by rw[hvl];omega);rw[hvl,yg]at this;rw[<-this,<-Array.foldl_toList,Array.toList_zipIdx]
     rw[e,zO,zO,xL,xB];exact((hi.take off).app h5).app (hi.drop (off+size))
    ·cases hf
def evp(ev:Operand->aa AV):af (Nat×Operand)->aa (af (Nat×AV))
 |[]=>V []
 |(i,x)::xs=>match ev x with
  |some a=>(evp ev xs).map λas0=>(i,a)::as0
  |none=>G
def Xx(hs:kR ev rd nx E R):∀{xs:af (Nat×Operand)} {as0:af (Nat×AV)},evp ev xs=V as0->∀p∈as0,cV nx p.2
 |[],as0,h=>by cases h;simp
 |(i,x)::xs,as0,h=>by
  unfold evp at h;split at h
  ·rename_i a ha;obtain⟨as',h1,rfl⟩:=zn.1 h;intro p hp;rcases zx.1 hp with rfl|hp
   ·exact hs.sU ha
   ·exact Xx hs h1 p hp
  ·cases h
def M9(hs:kR ev rd nx E R){j:Operand->Value}(h:RU A w (E.sub ρ) j):∀{xs:af (Nat×Operand)} {as0:af (Nat×AV)},evp ev xs=V as0->
  F2 (λ(p:Nat×AV) (q:Nat×Value)=>p.1=q.1/\Rel A w (p.2.sub ρ) q.2) as0 (xs.map λp=>(p.1,j p.2))
 |[],as0,he=>by cases he;exact .nil
 |(i,x)::xs,as0,he=>by
  unfold evp at he;split at he
  ·rename_i a ha;obtain⟨as',h1,rfl⟩:=zn.1 he;exact .cons ⟨rfl,h x _ (hs.fO ha ρ)⟩ (M9 hs h h1)
  ·cases he
def Pr(ev:Operand->aa AV):af Operand->aa (af AV)
 |[]=>V []
 |x::xs=>match ev x with
  |some a=>(Pr ev xs).map λas0=>a::as0
  |none=>G
def L1(hs:kR ev rd nx E R):∀{xs:af Operand} {as0:af AV},Pr ev xs=V as0->∀d∈as0,cV nx d
 |[],as0,h=>by cases h;simp
 |x::xs,as0,h=>by
  unfold Pr at h;split at h
  ·rename_i a ha;obtain⟨as',h1,rfl⟩:=zn.1 h;intro p hp;rcases zx.1 hp with rfl|hp
   ·exact hs.sU ha
   ·exact L1 hs h1 p hp
  ·cases h
def MN(hs:kR ev rd nx E R)(ρ:Gh):∀{xs:af Operand} {as0:af AV},Pr ev xs=V as0->(E.sub ρ).Pr xs=V (as0.map (b7.sub ρ))
 |[],as0,he=>by cases he;rfl
 |x::xs,as0,he=>by
  unfold Pr at he;split at he
  ·rename_i a ha;obtain⟨as',h1,rfl⟩:=zn.1 he;unfold Env.Pr;rw[hs.fO ha ρ,MN hs ρ h1];rfl
  ·cases he
def Uh(P:Program)(ev:Operand->aa AV)(rd:Nat->aa IR)(T:TypeId)(ps:af (Nat×Operand))(K:AV->aa α):aa α:=
 match evp ev ps,kD P T with
 |some as0,V zs=>match P.underlying T with
  |some (.struct _)=>match placesOf P T with
   |some places=>(Bt rd (places[·]?) (zs.map .lit) as0).bind λcs=>K (.agg cs)
   |none=>G
  |some (.array _ e)=>match (P.info? e).map (·.size)with
   |some sz=>(Bt rd (λi=>V (i*sz,sz)) (zs.map .lit) as0).bind λcs=>K (.agg cs)
   |none=>G
  |_=>G
 |_,_=>G
def Ge(ρ:Gh)(zs:af Value):(zs.map (b7.lit (de:=U.de))).map (b7.sub ρ)=zs.map .lit:=by
 rw[yt];exact zX λv _=>bV ρ v
def anU{T:TypeId}{ps:Array (Nat×Operand)}(hs:kR ev rd nx E R)(ho:o.op= .build T ps){K:AV->aa α}(h:Uh P ev rd T ps.toList K=V r):∃d,K d=V r/\Pu P o E R nx d:=by
 unfold Uh at h;split at h
 case h_2=>cases h
 rename_i as0 zs he hz;have main:∀(place:Nat->aa (Nat×Nat)) (cs:af AV),Bt rd place (zs.map .lit) as0=V cs->(∀(vs:af (Nat×Value)) (us:Array Value),Instr.fill place zs.toArray vs=V us->P.built T vs=V us)->Pu P o E R nx (.agg cs):=λplace cs hf hb=>by
  refine⟨.agg _ (JW (RQ nx zs) (Xx hs he) hf),λρ A w j hd hρ=> ?_⟩;have hzr:bN A w ((zs.map b7.lit).map (b7.sub ρ)) zs:=by rw[Ge];exact bN.lits _
  obtain⟨us,h1,h2⟩:=Du (init:=zs.toArray) hs hd hzr (M9 hs hρ he) hf;rw[fm];refine⟨.agg us,by simpa using Rel.qA h2,λw' _=> ?_⟩;have:=run_build (P:=P) w' T _ us (hb _ us h1);rw[<-Pe]at this;simp[execOp,ho,this]
 split at h
 ·rename_i fs hT;split at h
  case h_2=>cases h
  rename_i places hp;obtain⟨cs,hf,h⟩:=zu.1 h;refine⟨_,h,main _ cs hf λvs us hu=> ?_⟩;obtain⟨it,hit,hz1⟩:=zu.1 hz;obtain⟨zv,hz2,hz3⟩:=zn.1 hz1;unfold Program.built;unfold placesOf at hp;rw[hit,hT]at*;simp only[hz2,hp];have:zv.cells=zs.toArray:=by rw[<-hz3]
  rw[this];simpa using hu
 ·rename_i n e hT;split at h
  case h_2=>cases h
  rename_i sz hsz;obtain⟨cs,hf,h⟩:=zu.1 h;refine⟨_,h,main _ cs hf λvs us hu=> ?_⟩;obtain⟨it,hit,hz1⟩:=zu.1 hz;obtain⟨zv,hz2,hz3⟩:=zn.1 hz1;obtain⟨ie,hie,hse⟩:=zn.1 hsz;unfold Program.built;have:zv.cells=zs.toArray:=by rw[<-hz3]
  simp_all
 ·cases h
def Uw(P:Program)(rd:Nat->aa IR)(T T':TypeId)(x:aa AV)(K:AV->aa α):aa α:=match P.underlying T,P.underlying T' with
 |some (.int _),V (.int k')=>match x with
  |some (.lit (.int k n))=>match P.underlying T with
   |some (.int k0)=>if k0=k then K (.n k' (k'.wrap n))else G
   |_=>G
  |_=>G
 |some (.slice e),V .string=>match P.underlying e with
  |some (.int .u8)=>match x with
   |some (.sl t l)=>(L.nums t l).bind λns=>K (.s (strOfNums ns))
   |some (.own id)=>match rd id with
    |some (.row t l)=>(L.nums t l).bind λns=>K (.s (strOfNums ns))
    |_=>G
   |_=>G
  |_=>G
 |_,_=>G
def anI{T T':TypeId}(hs:kR ev rd nx E R)(ho:o.op= .convert T T' x){K:AV->aa α}(h:Uw P rd T T' (ev x) K=V r):∃d,K d=V r/\Pu P o E R nx d:=by
 unfold Uw at h;split at h
 ·rename_i k0 k' hT hT';split at h
  case h_2=>cases h
  rename_i k n hx;have ex:=λρ=>hs.fO hx ρ;simp only[bV]at ex;split at h
  case h_2=>cases h
  rename_i k1 hk1;split at h
  case isFalse=>cases h
  rename_i hk;subst hk;exact⟨_,h, .lit λρ=> .conv hk1 hT' ho (ex ρ)⟩
 ·rename_i e hT hT';split at h
  case h_2=>cases h
  rename_i he;split at h
  ·rename_i t l hx;obtain⟨ns,hn,h⟩:=zu.1 h;exact⟨_,h, .lit λρ=> .b2s ho (.inr (.inl (by have ex:=hs.fO hx ρ;rw[gP]at ex;exact ex))) (L.Bp t l ns hn).1 (L.Bp t l ns hn).2 hT he hT'⟩
  ·rename_i id hx;split at h
   case h_2=>cases h
   rename_i t l hr;obtain⟨ns,hn,h⟩:=zu.1 h;refine⟨_,h, .lit λρ=> ?_⟩;have ex:=hs.fO hx ρ;rw[dx]at ex;obtain⟨i,hi⟩:=hs.row hr ρ;exact .b2s ho (.inr (.inr ⟨i,_,ex,hi⟩)) (L.Bp t l ns hn).1 (L.Bp t l ns hn).2 hT he hT'
  ·cases h
 ·cases h
def TN(i:Nat)(x:aa AV)(K:AV->aa α):aa α:=match x with
 |some (.jo cs)=>(cs[i]?).bind K
 |_=>G
def ahF{i:Nat}(hs:kR ev rd nx E R)(ho:o.op= .extract x i){K:AV->aa α}(h:TN i (ev x) K=V r):∃d,K d=V r/\Pu P o E R nx d:=by
 unfold TN at h;split at h
 ·rename_i cs hx;obtain⟨d,hd,h⟩:=zu.1 h;exact⟨d,h,BD (hs.sU hx).Jg hd,λρ=>by have ex:=hs.fO hx ρ;rw[lQ]at ex;exact .extract ho ex (by rw[ye,hd];rfl)⟩
 ·cases h
def SB(ev:Operand->aa AV)(f:Go.Fn)(fs cs:af Operand)(K:AV->aa α):aa α:=match fs with
 |[]=>(Pr ev cs).bind λas0=>K (.fn f as0)
 |_=>G
def agI{f:Go.Fn}{fs cs:Array Operand}(hs:kR ev rd nx E R)(ho:o.op= .makeFunc f fs cs){K:AV->aa α}(h:SB ev f fs.toList cs.toList K=V r):∃d,K d=V r/\Pu P o E R nx d:=by
 unfold SB at h;split at h
 ·rename_i h0;obtain⟨as0,ha,h⟩:=zu.1 h;refine⟨_,h, .fn _ _ (L1 hs ha),λρ=> ?_⟩;rw[uF];exact .func ho (by rw[<-Array.toList_eq_nil_iff];exact h0) (MN hs ρ ha)
 ·cases h
def dh(s:ByteArray)(i:Nat):Int:=((s.data[i]!).toNat:Int)
def Yp.ava{T:TypeId}{E:Env}{σ:af cc}{s:ByteArray}{k:IntKind}{m:Int}(ho:o.op= .index T x y)(hx:E.ev x=V (.s s))(hy:E.ev y=V (.n k m))(hT:P.underlying T=V .string)(hm:0<=m/\m<(s.size:Int)):Yp P E σ o (.n .u8 (dh s m.toNat)):=λA w ρ _ hρ=>by
 refine⟨_, .lit _,λw' _=> ?_⟩;have hx':=(hρ _ _ hx).cL;have hy':=(hρ _ _ hy).cL;have h:=run_index_string (P:=P) w' T s k m hT;rw[dif_pos hm]at h;have e:dh s m.toNat=((s[m.toNat]'au).toNat:Int):=by
  unfold dh;have hlt:m.toNat<s.data.size:=by have:s.data.size=s.size:=rfl;omega
  rw[getElem!_pos s.data m.toNat hlt];rfl
 rw[<-e]at h;simp[execOp,ho,hx',hy',h]
def TV(P:Program)(T:TypeId)(x y:aa AV)(K:AV->aa α):aa α:=match P.underlying T with
 |some (.array n e)=>match ZY P e&&RD P e 1 with
  |true=>match x,y with
   |some (.agg cs),V (.lit (.int _ m))=>if 0<=m/\m<(n:Int)then(cs[m.toNat]?).bind K else G
   |_,_=>G
  |false=>G
 |some .string=>match x,y with
  |some (.lit (.string s)),V (.lit (.int _ m))=>if 0<=m/\m<(s.size:Int)then K (.n .u8 (dh s m.toNat))else G
  |_,_=>G
 |_=>G
def aj3{T:TypeId}(hs:kR ev rd nx E R)(ho:o.op= .index T x y){K:AV->aa α}(h:TV P T (ev x) (ev y) K=V r):∃d,K d=V r/\Pu P o E R nx d:=by
 unfold TV at h;split at h
 case h_3=>cases h
 case h_2=>
  rename_i hT;split at h
  case h_2=>cases h
  rename_i s k m hx hy;split at h
  case isFalse=>cases h
  rename_i hm;have ex:=λρ=>hs.fO hx ρ;have ey:=λρ=>hs.fO hy ρ;simp only[bV]at ex ey;exact⟨_,h, .lit λρ=> .ava ho (ex ρ) (ey ρ) hT hm⟩
 rename_i n e hT;split at h
 case h_2=>cases h
 rename_i he;simp only[zi]at he;split at h
 case h_2=>cases h
 rename_i cs k m hx hy;split at h
 case isFalse=>cases h
 rename_i hm;obtain⟨d,hd,h⟩:=zu.1 h;refine⟨d,h,BD (hs.sU hx).qA hd,λρ=> ?_⟩;have ex:=hs.fO hx ρ;have ey:=hs.fO hy ρ;rw[fm]at ex;rw[bV]at ey;exact .at9 ho ex ey hT (En he.1) (tC he.2) hm (by rw[ye,hd];rfl)
def TF(P:Program)(T:TypeId)(x:aa AV)(lo hi:aa (aa AV))(K:AV->aa α):aa α:=match P.underlying T with
 |some (.slice e)=>match x with
  |some (.sl t l)=>match RD P e (U.sz t)with
   |true=>match lo,hi with
    |some (V (.lit (.int _ a))),V (V (.lit (.int _ b)))=>if 0<=a/\a<=b/\b<=(zY l:Int)then K (.sl t ((l.take b.toNat).drop a.toNat))else G
    |none,V (V (.lit (.int _ b)))=>if 0<=b/\b<=(zY l:Int)then K (.sl t (l.take b.toNat))else G
    |some (V (.lit (.int _ a))),G=>if 0<=a/\a<=(zY l:Int)then K (.sl t (l.drop a.toNat))else G
    |_,_=>G
   |false=>G
  |some (.lit (.slice G 0 0))=>match P.info? e with
   |some _=>match lo,hi with
    |some (V (.lit (.int _ 0))),G=>K (.lit (.slice G 0 0))
    |_,_=>G
   |none=>G
  |_=>G
 |_=>G
def Yp.acT{P:Program}{E:Env}{σ:af cc}{o:Oper}{T e:TypeId}{x y:Operand}{k:IntKind}{j:TypeInfo}(ho:o.op= .slice T x (V y) G G)(hx:E.ev x=V (.lit (.slice G 0 0)))(hy:E.ev y=V (.lit (.int k 0)))(hT:P.underlying T=V (.slice e))(hj:P.info? e=V j):Yp P E σ o (.lit (.slice G 0 0)):=Yp.lits λρ hρ w=>by
 simp[execOp,ho,hρ _ _ hx,hρ _ _ hy,Instr.sliceAt,Instr.slice,Instr.sliceBounds,Instr.sliceBound,run_underlying hT,sizeOf,typeInfo,hj,asIntOf]
def aic{T:TypeId}{lo hi:aa Operand}(hs:kR ev rd nx E R)(ho:o.op= .slice T x lo hi G){K:AV->aa α}(h:TF P T (ev x) (lo.map ev) (hi.map ev) K=V r):∃d,K d=V r/\Pu P o E R nx d:=by
 unfold TF at h;split at h
 case h_2=>cases h
 rename_i e hT;split at h
 case h_3=>cases h
 case h_2=>
  rename_i hx;split at h
  case h_2=>cases h
  rename_i j hj;split at h
  case h_2=>cases h
  rename_i k hlo hhi;cases lo with
  |none=>cases hlo
  |some lo=>
   cases hi with
   |some hi=>cases hhi
   |none=>
    have ex:=λρ=>hs.fO hx ρ;have e1:=λρ=>hs.fO (zF.inj hlo) ρ;simp only[bV]at ex e1;exact⟨_,h, .lit _,λρ=>by rw[bV];exact .acT ho (ex ρ) (e1 ρ) hT hj⟩
 rename_i t l hx;split at h
 case h_2=>cases h
 rename_i hsz;have hsz:=tC hsz;have ex:=λρ=>hs.fO hx ρ;simp only[gP]at ex;split at h
 ·rename_i k a k' b hlo hhi;split at h
  case isFalse=>cases h
  rename_i hc;cases lo with
  |none=>cases hlo
  |some lo=>
   cases hi with
   |none=>cases hhi
   |some hi=>
    have e1:=λρ=>hs.fO (zF.inj hlo) ρ;have e2:=λρ=>hs.fO (zF.inj hhi) ρ;simp only[bV]at e1 e2;exact⟨_,h, .sl _ _,λρ=>by rw[gP];exact .arE ho (ex ρ) (e1 ρ) (e2 ρ) hT hsz hc⟩
 ·rename_i k' b hlo hhi;split at h
  case isFalse=>cases h
  rename_i hc;cases lo with
  |some lo=>cases hlo
  |none=>
   cases hi with
   |none=>cases hhi
   |some hi=>
    have e2:=λρ=>hs.fO (zF.inj hhi) ρ;simp only[bV]at e2;exact⟨_,h, .sl _ _,λρ=>by rw[gP];exact .agC ho (ex ρ) (e2 ρ) hT hsz hc⟩
 ·rename_i k a hlo hhi;split at h
  case isFalse=>cases h
  rename_i hc;cases lo with
  |none=>cases hlo
  |some lo=>
   cases hi with
   |some hi=>cases hhi
   |none=>
    have e1:=λρ=>hs.fO (zF.inj hlo) ρ;simp only[bV]at e1;exact⟨_,h, .sl _ _,λρ=>by rw[gP];exact .aiF ho (ex ρ) (e1 ρ) hT hsz hc⟩
 ·cases h
def Uq(P:Program)(rd:Nat->aa IR)(T:TypeId)(x:aa AV)(K:AV->aa α):aa α:=match P.underlying T with
 |some (.slice _)=>match x with
  |some (.sl _ l)=>K (.i (zY l:Int))
  |some (.own id)=>match rd id with
   |some (.row _ l)=>K (.i (zY l:Int))
   |_=>G
  |some (.lit (.slice G 0 0))=>K (.i 0)
  |_=>G
 |some .string=>match x with
  |some (.lit (.string s))=>K (.i (s.size:Int))
  |_=>G
 |_=>G
def alX{T:TypeId}(hs:kR ev rd nx E R)(ho:o.op= .call {callee:= .builtin .len,args:=#[x],argTypes:=#[T]}){K:AV->aa α}(h:Uq P rd T (ev x) K=V r):∃d,K d=V r/\Pu P o E R nx d:=by
 unfold Uq at h;split at h
 ·rename_i e hT;split at h
  ·rename_i t l hx;exact⟨_,h, .lit λρ=> .azX ho (by have ex:=hs.fO hx ρ;rw[gP]at ex;exact ex) hT⟩
  ·rename_i id hx;split at h
   case h_2=>cases h
   rename_i t l hr;refine⟨_,h, .lit λρ=> ?_⟩;have ex:=hs.fO hx ρ;rw[dx]at ex;obtain⟨i,hi⟩:=hs.row hr ρ;exact .asl i ho ex hi hT
  ·rename_i hx;exact⟨_,h, .lit λρ=> .asC ho (by have ex:=hs.fO hx ρ;rw[bV]at ex;exact ex) hT⟩
  ·cases h
 ·rename_i hT;split at h
  ·rename_i s hx;exact⟨_,h, .lit λρ=> .av4 ho (by have ex:=hs.fO hx ρ;rw[bV]at ex;exact ex) hT⟩
  ·cases h
 ·cases h
end
end Go.Iv
end
noncomputable section
namespace Go.Iv
variable [U:EU]
open Go Go.RowKit
def F5{zs:af Value}{sz:Nat}(hsz:zY zs=sz)(nn:Nat):(Builtin.zeroCells zs.toArray nn).toList=(zf nn zs).flatten:=by
 apply List.ext_getElem?;intro j;have hfl:zY (zf nn zs).flatten=nn*sz:=by simp[hsz]
 have hq:∀(q:Nat) (j:Nat),j<q*sz->(zf q zs).flatten[j]? =zs[j%sz]? :=by
  intro q;induction q with
  |zero=>intro j hj;simp at hj
  |succ q ih=>
   intro j hj;rw[yP,wD,xy];split
   ·rename_i h;rw[hsz]at h;rw[Nat.mod_eq_of_lt h]
   ·rename_i h;rw[hsz]at h;rw[hsz,ih _ (by rw[yO]at hj;omega),Nat.mod_eq_sub_mod (by omega:sz<=j)]
 by_cases hj:j<nn*sz
 ·rw[hq nn j hj];have h0:0<sz:=by
   rcases wA sz with h|h
   ·rw[h]at hj;omega
   ·exact h
  have hlt:j%sz<zY zs:=by rw[hsz];exact xe _ h0
  rw[zm hlt];simp[Builtin.zeroCells,hsz,hj,zm hlt]
 ·rw[wE (l:=(zf nn zs).flatten) (by rw[hfl];omega),wE];simp[Builtin.zeroCells,hsz];omega
def D7{P:Program}{w:World}{T tn ty e:TypeId}{kn:IntKind}{i:TypeInfo}{zz v:Value}{sz by' nn mm:Nat}{us:af Value}(ht:P.underlying T=V (.slice e))(htn:P.underlying tn=V (.int kn))(hi:P.info? e=V i)(hz:i.zero=V zz)(hs:i.size=sz)(hby:i.bytes=by')(hzs:zz.cells.size=sz)(hpos:0<sz)
  (hrow:gh w v e sz nn us) (h1:∀u∈(Builtin.zeroCells zz.cells mm).toList,u.oneCell'=J) (h63:nn+mm<=maxLen) (hb:(nn+mm)*by'<=140737488355328):
  ∃v' w',(Builtin.append_ #[T,tn] ty #[v, .int .i64 mm]).run P w= .ok v' w'/\gh w' v' e sz (nn+mm) (us++(Builtin.zeroCells zz.cells mm).toList)/\Kp (gD v).toList w w'/\(gD v'=gD v\/gD v'=V w.heap.size):=by
 subst hs hby
 have h63':((nn+mm:Nat):Int)<=9223372036854775807:=by unfold maxLen at h63;omega
 have hw:IntKind.i64.wrap (mm:Int)=mm:=by rw[IntKind.wrap_i64];omega
 have hneg:¬((mm:Int)<0):=au;have hmb:mm*i.bytes<=140737488355328:=zG (yh _ au) hb;have h48i:¬(281474976710656<(mm:Int)*(i.bytes:Int)):=by rw[<-wK];omega
 have hzl:zY (Builtin.zeroCells zz.cells mm).toList=mm*i.size:=by rw[yo,size_zeroCells,hzs]
 by_cases hm:mm=0
 ·subst hm;obtain⟨q,cap,rfl,hcap⟩:=hrow.len;have hrun:(Builtin.append_ #[T,tn] ty #[.slice q nn cap, .int .i64 (0:Nat)]).run P w= .ok (.slice q nn cap) w:=by
   cases q<;>simp[Builtin.append_,run_underlying ht,run_underlying htn,sizeOf,typeInfo,hi,asInt,asIntOf,hw,hcap,storeCells,IntKind.wrap_i64]
  exact⟨_,w,hrun,by simpa [Builtin.zeroCells]using hrow,Kp.refl _ _, .inl rfl⟩
 ·have hfit:∀old,Builtin.nextslicecap (nn+mm) old*i.bytes<=281474976710656\/¬old<nn+mm:=λold=>by
   by_cases h:old<nn+mm
   ·exact .inl (growslice_fits au hb)
   ·exact .inr h
  have grown:∀(olds:af Value) (old:Nat),zY olds=nn*i.size->old<nn+mm->us=olds->
    gh (w.drew.alloc (.cells (olds.toArray++Builtin.zeroCells zz.cells mm++Builtin.zeroCells zz.cells (grownCap w (nn+mm) old e-(nn+mm))) e)) (.slice (V ⟨w.heap.size,0,G⟩) (nn+mm) (grownCap w (nn+mm) old e)) e i.size (nn+mm) (us++(Builtin.zeroCells zz.cells mm).toList):=by
   intro olds old hol hlt hus;subst hus;have hge:=grownCap_ge w (nn+mm) old e;have hcm:=grownCap_le_maxLen w (nn+mm) old e h63;obtain⟨ck,hck⟩:∃ck,grownCap w (nn+mm) old e=ck+1:=⟨grownCap w (nn+mm) old e-1,au⟩;refine⟨by rw[zh,hol,hzl,zW], .inr ⟨w.heap.size,ck,_,by rw[hck],heap_alloc_new w.drew _,au,au,?_,?_⟩⟩
   ·rw[<-hck];simp only[Array.size_append,y4,size_zeroCells,hzs,hol,<-zW]
    congr 1
    omega
   ·simp only[Array.toList_append];rw[show (nn+mm)*i.size=zY (us++(Builtin.zeroCells zz.cells mm).toList) from by rw[zh,hol,hzl,zW]];exact List.take_left
  have grow:∀(base:aa Addr) (old:Nat),(Builtin.firstCells i.size nn (.slice base nn old)).run P w.drew= .ok us.toArray w.drew->zY us=nn*i.size->old<nn+mm->
    ∃v' w',(Builtin.append_ #[T,tn] ty #[.slice base nn old, .int .i64 mm]).run P w= .ok v' w'/\gh w' v' e i.size (nn+mm) (us++(Builtin.zeroCells zz.cells mm).toList)/\Kp [] w w'/\gD v'=V w.heap.size:=λbase old hf hul hlt=>by
   have hr:=Lib.run_append_grow_zeros (P:=P) w T tn ty e i zz .i64 kn ht htn hi hz base nn old us hf mm au hpos hlt h63' au ((hfit old).resolve_right au);refine⟨_,_,hr,grown us old hul hlt rfl,⟨rfl,rfl,rfl,yd _,by simp,λk hk _=>heap_alloc_old w.drew _ hk⟩,?_⟩;have hge:=grownCap_ge w (nn+mm) old e;obtain⟨ck,hck⟩:∃ck,grownCap w (nn+mm) old e=ck+1:=⟨grownCap w (nn+mm) old e-1,au⟩;rw[hck];rfl
  rcases hrow.2 with ⟨q,rfl,rfl⟩|⟨g,cap,cur,rfl,hg,hnc,hcm,hcs,htake⟩
  ·have hu:us=[]:=xg (by simpa using hrow.1);subst hu;obtain⟨v',w',r1,r2,r3,r4⟩:=grow q 0 (by cases q<;>simp[Builtin.firstCells,loadCells,loadCellsFrom]) (by simp) au;exact⟨v',w',r1,r2,⟨r3.os,r3.tape,r3.output,r3.drawn,r3.size,λk hk _=>r3.block k hk (by simp)⟩, .inr r4⟩
  ·by_cases hroom:nn+mm<=cap+1
   ·have hcl:nn*i.size+zY (Builtin.zeroCells zz.cells mm).toList<=cur.size:=by rw[hzl,hcs,<-zW];exact yh _ hroom
    have hst:=run_storeCells_at P g (nn*i.size) e (Builtin.zeroCells zz.cells mm).toList 0 cur w hg (by simpa using hcl) h1;simp only[yg]at hst;have hns:¬(mm*i.size=0):=Nat.mul_ne_zero hm au;have hr:(Builtin.append_ #[T,tn] ty #[.slice (V ⟨g,0,G⟩) nn (cap+1), .int .i64 mm]).run P w= .ok (.slice (V ⟨g,0,G⟩) (nn+mm) (cap+1)) (w.setRow g (cur.toList.take (nn*i.size)++(Builtin.zeroCells zz.cells mm).toList++cur.toList.drop (nn*i.size+zY (Builtin.zeroCells zz.cells mm).toList)).toArray):=by
     simp[Builtin.append_,run_underlying ht,run_underlying htn,sizeOf,typeInfo,zeroValue,hi,hz,asInt,asIntOf,hw,hneg,hns,h48i,hroom,Addr.add_lit,hst]
    refine⟨_,_,hr,⟨by rw[zh,hrow.1,hzl,zW], .inr ⟨g,cap,_,rfl,setRow_heap w g cur _ e _ hg,hroom,hcm,?_,?_⟩⟩,oJ w g _, .inl rfl⟩
    ·simp only[y4,zh,zD,zV,yo]at hcl ⊢;omega
    ·rw[htake,show (nn+mm)*i.size=zY (us++(Builtin.zeroCells zz.cells mm).toList) from by rw[zh,hrow.1,hzl,zW]];exact List.take_left
   ·have holds:∀j v,us[j]? =V v->w.cell? ((⟨g,0,G⟩:Addr).add j)=V v:=λj v hj=>by
     rw[q9,yj];exact hrow.cells rfl j v hj
    obtain⟨v',w',r1,r2,r3,r4⟩:=grow (V ⟨g,0,G⟩) (cap+1) (run_firstCells_some (P:=P) w.drew i.size nn ⟨g,0,G⟩ nn (cap+1) us hrow.1 (by simpa using holds)) hrow.1 au;exact⟨v',w',r1,r2,⟨r3.os,r3.tape,r3.output,r3.drawn,r3.size,λk hk _=>r3.block k hk (by simp)⟩, .inr r4⟩
def Iq{A:Nat->Prop}{w:World}{q:Nat}{d:U.de q}{zs:af Value}(hd:∀A w,bN A w (U.cells q d) zs):∀n,bN A w ((zf n d).flatMap (U.cells q)) (zf n zs).flatten
 |0=>bN.nil
 |n+1=>by
  rw[yP,yP,yR,wD];exact(hd A w).app (Iq hd n)
section
variable {P:Program} {C:Cx} {E:Env} {σ:af cc} {o:Oper} {x y:Operand} {T tn e:TypeId} {v:Value}
def Yv.aGB{by':Nat}{kn:IntKind}{l:af (U.de e)}{zs:af Value}{m:Int}(i:Nat)(d:U.de e)(ho:o.op= .call {callee:= .builtin .append,args:=#[x,y],argTypes:=#[T,tn]})(hx:E.ev x=V (.lit v))(hσ:σ[i]? =V (.row v e l))(hy:E.ev y=V (.i m))(hT:P.underlying T=V (.slice e))(htn:P.underlying tn=V (.int kn))(hs:(P.info? e).map (λi=>(i.size,i.bytes))=V ((U.sz e),by'))(hz:kD P e=V zs)(hzl:zY zs=(U.sz e))(hpos:0<(U.sz e))(hb:yp by' 4096=J)
  (hd:∀A w,bN A w (U.cells e d) zs) (hone:zs.all Value.oneCell'=J) (hlen:0<=m/\zY (l++zf m.toNat d)<=1073741824):Yv P E σ o C (xQ (gD v)) (λa σ'=>∃v',a= .lit v'/\σ'=σ.set i (.row v' e (l++zf m.toNat d))):=λw ρ hg hρ=>by
 obtain⟨it,hit,hz1⟩:=zu.1 hz;obtain⟨zv,hz2,hz3⟩:=zn.1 hz1;obtain⟨ie,hie,hse⟩:=zn.1 hs;have hee:it=ie:=by rw[hit]at hie;exact zF.inj hie
 subst hee;simp only[Prod.mk.injEq]at hse;obtain⟨s1,s2⟩:=hse;have hby:by'<=4096:=by simpa using hb
 obtain⟨us,g1,g2,g3⟩:=FW (hg.res _ (List.mem_of_getElem? hσ));have hx':=(hρ _ _ hx).cL;have hy':=(hρ _ _ hy).cL;obtain⟨mm,rfl⟩:∃mm:Nat,m=mm:=⟨m.toNat,au⟩;rw[zg]at hlen ⊢;obtain⟨_,hlen⟩:=hlen;rw[zh,y5]at hlen;have hbytes:(zY l+mm)*by'<=140737488355328:=by
  have:(zY l+mm)*by'<=1073741824*4096:=Nat.mul_le_mul hlen hby
  omega
 have hzc:zv.cells=zs.toArray:=by rw[<-hz3]
 have hzt:(Builtin.zeroCells zv.cells mm).toList=(zf mm zs).flatten:=by rw[hzc];exact F5 hzl mm
 obtain⟨v',w',r1,r2,r3,r4⟩:=D7 (P:=P) (T:=T) (tn:=tn) (ty:=o.type) hT htn hit hz2 s1 s2 (by rw[hzc,y4,hzl]) hpos g1 (mm:=mm) (by
  rw[hzt];intro u hu;obtain⟨q,hq,hu⟩:=List.mem_flatten.1 hu;rw[List.eq_of_mem_replicate hq]at hu;exact zw.1 hone u hu) (by unfold maxLen;omega) hbytes
 rw[hzt]at r2;refine⟨v',w',_,_,⟨v',rfl,rfl⟩,G6 (r:= .row v e l) hg hσ r3 r4 (Gr (by rw[zh,y5];exact r2) (PI g2 (λj hj=> ?_)) ?_),?_, .lit _⟩
 ·rw[y5]at hj;rw[getElem!_pos _ j (by simpa using hj),wF,<-(hd (λ_=>True) w).1,hzl]
 ·rw[xR];refine bN.app (g3.mono λb hb hA=>⟨⟨hA.1,λhx=> ?_⟩,r3.block b hb (λhx=>hA.2 (bQ.2 ⟨_,List.mem_of_getElem? hσ,by simpa [cc.blk]using hx⟩))⟩) (Iq hd mm);obtain⟨s,hs1,hs2⟩:=bQ.1 hx;rcases List.mem_or_eq_of_mem_set hs1 with h|h
  ·exact hA.2 (bQ.2 ⟨s,h,hs2⟩)
  ·rw[h]at hs2;rcases r4 with r4|r4
   ·exact hA.2 (bQ.2 ⟨_,List.mem_of_getElem? hσ,by rw[<-hs2];exact r4.symm⟩)
   ·have hs2':gD v'=V b:=hs2;rw[r4]at hs2';cases hs2';omega
 ·simp[execOp,ho,resolve,invoke,builtin,hx',hy',r1]
end
end Go.Iv
end
noncomputable section
namespace Go.Iv
open Go Go.RowKit
variable [U:EU] {P:Program} {C:Cx} {E:Env} {σ:af cc} {o:Oper} {T T':TypeId} {x y:Operand} {v:Value}
def Yv.ay8{q:Nat}{l l2:af (U.de q)}(i:Nat)(ho:o.op= .call {callee:= .builtin .copy,args:=#[x,y],argTypes:=#[T,T']})(hx:E.ev x=V (.lit v))(hσ:σ[i]? =V (.row v q l))(hs:Src σ E y q l2)
  (hT:P.underlying T=V (.slice q)) (hz:(P.info? q).map (·.size)=V 1) (hsz:U.sz q=1) (hlen:zY l2=zY l) (h0:0<zY l) (hone:∀a,(U.cells q a).all jc=J):
  Yv P E σ o C (xQ (gD v)) (λa σ'=>a= .i (zY l:Int)/\σ'=σ.set i (.row v q l2)):=λw ρ hg hρ=>by
 obtain⟨j,hj,hj'⟩:=zn.1 hz;obtain⟨us,h1,h2,h3⟩:=hg.res _ (List.mem_of_getElem? hσ);obtain⟨g,cap,cur,hv,hgb,hB,q1,q2,q3,q4⟩:=h1.at h0;obtain⟨p,cap2,news,r1,r2,r3,r4,r5,r6⟩:=Src.spec hs hg.hd hρ;have hx':=(hρ _ _ hx).cL;rcases r2 with r2|⟨a,rfl,r2⟩
 ·omega
 rw[hsz,xC]at r3 q3;have hone':(l2.flatMap (U.cells q)).all jc=J:=zw.2 λc hc=>by
  obtain⟨z,_,hz⟩:=xJ.1 hc;exact zw.1 (hone z) c hz
 have hl:=run_loadCells_list (P:=P) w a news r2;have hst:=run_storeCells_at P g 0 q news 0 cur w hB (by rw[r3,q3];omega) (r5.one hone');simp only[yg,yj,wh,yB]at hst;have hpart:∀b,al C (σ.set i (.row v q l2)) b↔al C σ b:=λb=>by
  have hbk:=FE (r':=cc.row v q l2) hσ rfl;unfold al;rw[hbk]
 have hal:∀b,b<w.heap.size->al C σ b->al C (σ.set i (.row v q l2)) b/\(w.setRow g (news++cur.toList.drop (zY news)).toArray).heap[b]? =w.heap[b]? :=λb hb hA=>
  ⟨(hpart b).2 hA,setRow_other w g b _ (λe=>hA.2 (bQ.2 ⟨_,List.mem_of_getElem? hσ,by rw[e];exact hgb⟩))⟩
 refine⟨.int .i64 (zY l),w.setRow g (news++cur.toList.drop (zY news)).toArray,_,_,⟨rfl,rfl⟩,G6 (r:= .row v q l) hg hσ (by show Kp (xQ (gD v)) _ _;rw[hgb];exact oJ w g _) (.inl rfl) (Gr (us:=news) ⟨by rw[hsz,xC,r3], .inr ⟨g,cap,_,by rw[hlen];exact hv,setRow_heap w g cur _ q (0,0) hB,by rw[hlen];exact q1,q2,?_,?_⟩⟩ r4 (r5.mono hal)),?_, .lit _⟩
 ·have hc:zY cur.toList=cap+1:=by rw[yo];exact q3
  simp only[y4,zh,zV,hc,hsz,xC,r3,hlen];omega
 ·rw[hsz,xC,<-r3];simp
 ·have hmin:min (zY l2) l.length=zY news:=by rw[r3];omega
  have hmin':Nat.min (zY l2) l.length=zY news:=hmin;have hnl:zY news=zY l:=by rw[r3,hlen]
  rw[<-hnl];simp[execOp,ho,resolve,invoke,builtin,hx',hv,r1,Builtin.copy_,run_underlying hT,Builtin.lenOf,Builtin.firstCells,sizeOf,typeInfo,hj,hj',hmin',hl,hst,goInt]
end Go.Iv
end
noncomputable section
namespace Go.Iv
variable [U:EU] [L:Ec]
open Go Go.RowKit
inductive gq:Type
 |val (d:AV)
 |new (d:AV) (r:IR)
 |set (id:Nat) (r:IR)
 |grow (id:Nat) (r:IR)
 |all (d:AV) (R:bt) (nx:Nat)
def gq.R(R:bt)(nx:Nat):gq->bt
 | .val _=>R
 | .new _ r=>(nx,r)::R
 | .set id r=>vP id r R
 | .grow id r=>(nx,r)::lH id R
 | .all _ R' _=>R'
def gq.nx(nx:Nat):gq->Nat
 | .val _=>nx
 | .new _ _=>nx+1
 | .set _ _=>nx
 | .grow _ _=>nx+1
 | .all _ _ m=>m
def gq.vl(nx:Nat):gq->aa AV
 | .val d=>V d
 | .new d _=>V d
 | .set _ _=>G
 | .grow _ _=>V (.own nx)
 | .all d _ _=>V d
section
variable {P:Program} {C:Cx} {E:Env} {σ σ':af cc} {o:Oper} {N:aa AV->af cc->Prop} {X:af Nat} {N0:AV->af cc->Prop} {av:AV}
def Ye(P:Program)(E:Env)(σ:af cc)(o:Oper)(C:Cx)(N:aa AV->af cc->Prop):Prop:=∀(w:World) (j:Operand->Value),Good C σ w->RU (al C σ) w E j->
 (∃v w' av σ',N (V av) σ'/\Tr C (bC σ) σ w σ' w'/\(execOp j o).run P w= .ok (.value v) w'/\Rel (al C σ') w' av v)\/
 (∃w' σ',N G σ'/\Tr C (bC σ) σ w σ' w'/\(execOp j o).run P w= .ok .skip w')\/
 (∃f args,(execOp j o).run P w= .ok (.enter f args) w/\Calls P f args w λe w'=>∃v av σ',e= .returned v/\N (V av) σ'/\Tr C (bC σ) σ w σ' w'/\Rel (al C σ') w' av v)
def Tr.wide{w w':World}(h:Tr C X σ w σ' w')(hX:∀b∈X,b∈bC σ):Tr C (bC σ) σ w σ' w':=
 ⟨h.good,⟨h.kp.os,h.kp.tape,h.kp.output,h.kp.drawn,h.kp.size,λk hk hn=>h.kp.block k hk λhx=>hn (hX k hx)⟩,λb hb hA=>⟨(h.al b hb hA).1,hA.2⟩⟩
def Tr.none{w:World}(h:Good C σ w):Tr C (bC σ) σ w σ w:=⟨h,Kp.refl _ _,λ_ _ hA=>⟨hA,hA.2⟩⟩
def Ye.ofP(h:Yp P E σ o av)(hN:N (V av) σ):Ye P E σ o C N:=λw j hg hρ=>by
 obtain⟨v,h1,h2⟩:=h _ w j hg.hd hρ;exact .inl ⟨v,w,av,σ,hN, .none hg,h2 w (λ_ _ _=>rfl),h1⟩
def Ye.ofV(h:Yv P E σ o C X N0)(hX:∀b∈X,b∈bC σ)(hN:∀a σ',N0 a σ'->N (V a) σ'):Ye P E σ o C N:=λw j hg hρ=>by
 obtain⟨v,w',av,σ',h1,h2,h3,h4⟩:=h w j hg hρ;exact .inl ⟨v,w',av,σ',hN _ _ h1,h2.wide hX,h3,h4⟩
def Ye.ofU(h:Yu P E σ o C X σ')(hX:∀b∈X,b∈bC σ)(hN:N G σ'):Ye P E σ o C N:=λw j hg hρ=>by
 obtain⟨w',h2,h3⟩:=h w j hg hρ;exact .inr (.inl ⟨w',σ',hN,h2.wide hX,h3⟩)
def Ye.ofC(h:Yc P E σ o C X N0)(hX:∀b∈X,b∈bC σ)(hN:∀a σ',N0 a σ'->N (V a) σ'):Ye P E σ o C N:=λw j hg hρ=>by
 obtain⟨f,args,h1,h2⟩:=h w j hg hρ;exact .inr (.inr ⟨f,args,h1,h2.mono λe w' ⟨v,av,σ',q1,q2,q3,q4⟩=>⟨v,av,σ',q1,hN _ _ q2,q3.wide hX,q4⟩⟩)
end
def Nx{α:Type}(R:bt)(nx:Nat)(K:gq->aa α)(r:α)(ρ:Gh):aa AV->af cc->Prop:=λa σ'=>∃eff:gq,K eff=V r/\nx<=eff.nx nx/\bt.cV (eff.nx nx) (eff.R R nx)/\(∀d,eff.vl nx=V d->cV (eff.nx nx) d)/\
 ∃ρ',qC nx ρ ρ'/\a=(eff.vl nx).map (b7.sub ρ')/\List.Perm σ' (bt.res ρ' (eff.R R nx))
def Zr{α:Type}(P:Program)(o:Oper)(E:Env)(R:bt)(nx:Nat)(K:gq->aa α)(r:α):Prop:=∀ρ C,Ye P (E.sub ρ) (bt.res ρ R) o C (Nx R nx K r ρ)
def Gh.gC(ρ:Gh)(n:Nat)(v:Value):Gh:=⟨λi=>if i=n then v else ρ.v i,ρ.b⟩
def Gh.gi(ρ:Gh)(n b:Nat):Gh:=⟨ρ.v,λi=>if i=n then b else ρ.b i⟩
def qC.gC(ρ:Gh)(n:Nat)(v:Value):qC n ρ (ρ.gC n v):=λi hi=>⟨by simp[Gh.gC,Nat.ne_of_lt hi],rfl⟩
def qC.gi(ρ:Gh)(n b:Nat):qC n ρ (ρ.gi n b):=λi hi=>⟨rfl,by simp[Gh.gi,Nat.ne_of_lt hi]⟩
section
variable {α:Type} {r:α} {P:Program} {o:Oper} {E:Env} {R:bt} {nx:Nat} {ev:Operand->aa AV} {rd:Nat->aa IR} {x y z:Operand} {d:AV} {K:gq->aa α}
def Zr.pu(hs:kR ev rd nx E R)(h:∃d,K (.val d)=V r/\Pu P o E R nx d):Zr P o E R nx K r:=λρ C=>by
 obtain⟨d,h1,h2,h3⟩:=h;exact .ofP (h3 ρ) ⟨.val d,h1,zl _,hs.lr,λd' hd=>by cases hd;exact h2,ρ, .refl _ _,rfl, .refl _⟩
def adM(hs:kR ev rd nx E R){d:AV}{rr:IR}{ρ ρ':Gh}{σ':af cc}{a:AV}(hK:K (.new d rr)=V r)(hd:cV (nx+1) d)(hr:rr.cV (nx+1))(hρ:qC nx ρ ρ')(ha:a=d.sub ρ')(hσ:σ'=rr.res ρ' nx::bt.res ρ R):Nx R nx K r ρ (V a) σ':=by
 refine⟨.new d rr,hK,yd nx,λp hp=> ?_,λd' h=>by cases h;exact hd,ρ',hρ,by rw[ha];rfl,?_⟩
 ·rcases zx.1 hp with rfl|hp
  ·exact⟨zC _,hr⟩
  ·exact(hs.lr.mono (yd nx)) p hp
 ·rw[hσ,hs.lr.res hρ];rfl
def Z1(P:Program)(nx:Nat)(T:TypeId)(K:gq->aa α):aa α:=((P.info? T).bind λi=>i.zero).bind λz=>K (.new (.ptr nx 0) (.box T (z.cells.toList.map .lit)))
def alU{T:TypeId}(hs:kR ev rd nx E R)(ho:o.op= .alloc T)(h:Z1 P nx T K=V r):Zr P o E R nx K r:=λρ C=>by
 obtain⟨z,h1,h⟩:=zu.1 h;obtain⟨i,h2,h3⟩:=zu.1 h1;refine .ofV (.alloc (zs:=z.cells.toList) ho (by rw[h2];simp[h3])) (by simp) λa σ' ⟨b,ha,hσ⟩=> ?_;refine adM hs (ρ':=ρ.gi nx b) h (.ptr _ _ (zC _)) (λc hc=>RQ _ _ c hc) (.gi ρ nx b) ?_ ?_
 ·rw[ha,fG];simp[Gh.gi]
 ·rw[hσ];simp only[IR.res,Ge];simp[Gh.gi]
def Ui(rd:Nat->aa IR)(nx:Nat)(T:TypeId)(x:aa AV)(K:gq->aa α):aa α:=match x with
 |some d=>match Gj rd d with
  |true=>K (.new (.ptr nx 0) (.box T (dU d)))
  |false=>G
 |none=>G
def aiz{T:TypeId}(hs:kR ev rd nx E R)(ho:o.op= .box T x)(h:Ui rd nx T (ev x) K=V r):Zr P o E R nx K r:=λρ C=>by
 unfold Ui at h;split at h
 case h_2=>cases h
 rename_i d hx;split at h
 case h_2=>cases h
 rename_i hp;refine .ofV (.box ho (hs.fO hx ρ) (JO hs hp)) (by simp) λa σ' ⟨b,ha,hσ⟩=> ?_;have hl:=CG (hs.sU hx);refine adM hs (ρ':=ρ.gi nx b) h (.ptr _ _ (zC _)) (λc hc=>(hl c hc).mono (yd nx)) (.gi ρ nx b) ?_ ?_
 ·rw[ha,fG];simp[Gh.gi]
 ·rw[hσ,l9,cV.abF hl (.gi ρ nx b)];simp[IR.res,Gh.gi]
def ZV:AV->Bool
 | .lit v=>v.oneCell'
 | .sl _ _=>J
 |_=>O
def adF:AV->Bool
 | .agg cs=>cs.all ZV
 |d=>ZV d
def Qy{d:AV}(h:ZV d=J)(ρ:Gh):d.sub ρ=d:=by
 cases d<;>first|(cases h;done)|simp only[b7.sub]
def QD{cs:af AV}(h:cs.all ZV=J)(ρ:Gh):cs.map (b7.sub ρ)=cs:=by
 have:cs.map (b7.sub ρ)=cs.map id:=zX λc hc=>Qy (zw.1 h c hc) ρ;simp_all
def Rh{d:AV}(h:adF d=J)(ρ:Gh):d.sub ρ=d:=by
 by_cases ha:∃cs,d= .agg cs
 ·obtain⟨cs,rfl⟩:=ha;rw[fm,QD h]
 ·exact Qy (by cases d<;>first|exact h|(exact dS ⟨_,rfl⟩ ha)) ρ
def Pg{d:AV}(h:ZV d=J):jc d=J:=by
 cases d<;>first|(cases h;done)|exact h|rfl
def FA{d:AV}(h:adF d=J):FZ d=J:=by
 by_cases ha:∃cs,d= .agg cs
 ·obtain⟨cs,rfl⟩:=ha;exact zw.2 λc hc=>Pg (zw.1 h c hc)
 ·have:=Pg (d:=d) (by cases d<;>first|exact h|(exact dS ⟨_,rfl⟩ ha));cases d<;>first|exact this|(exact dS ⟨_,rfl⟩ ha)
def SN(d:AV):aa Bool:=match dU d with
 |[.lit (.bool b)]=>V b
 |_=>G
def Y5{d:AV}{b:Bool}(h:SN d=V b):dU d=[.lit (.bool b)]:=by
 unfold SN at h;grind
def UN(P:Program)(rd:Nat->aa IR)(T:TypeId)(x y:aa AV)(K:gq->aa α):aa α:=match y with
  |some d=>match (P.info? T).map (·.size)with
    |some n=>match zc (dU d).length n&&Gj rd d with
      |true=>match x with
        |some (.ptr id off)=>match rd id with
          |some (.box T' cs)=>match yp (off+n) (zY cs) with
            |true=>K (.set id (.box T' (cs.take off++dU d++cs.drop (off+n))))
            |false=>G
          |_=>G
        |some (.ra id t m off)=>match rd id with
          |some (.row t' l)=>match bif L.arr t'&&adF d then SN d else G with
           |some b=>if t=t'/\m<zY l/\off<U.sz t' then K (.set id (.row t' (l.set m (L.stB t' l[m]! off b))))else G
           |none=>match yp (off+n) (U.sz t')&&adF d with
            |true=>if t=t'/\m<zY l then(L.parse t' ((U.cells t' l[m]!).take off++dU d++(U.cells t' l[m]!).drop (off+n))).bind λq=>K (.set id (.row t' (l.set m q)))else G
            |false=>G
          |_=>G
        |_=>G
      |false=>G
    |none=>G
  |none=>G
def ai7{T:TypeId}(hs:kR ev rd nx E R)(ho:o.op= .store T x y)(h:UN P rd T (ev x) (ev y) K=V r):Zr P o E R nx K r:=λρ C=>by
 unfold UN at h;split at h
 case h_2=>cases h
 rename_i d hy;split at h
 case h_2=>cases h
 rename_i n hn;split at h
 case h_2=>cases h
 rename_i hdn;simp only[zi]at hdn;obtain⟨hlen,hp⟩:=hdn;have hlen:=gZ hlen;split at h
 ·rename_i id off hx;split at h
  case h_2=>cases h
  rename_i T' cs hr;split at h
  case h_2=>cases h
  rename_i hle;have hle:=wg hle;have ex:=hs.fO hx ρ;rw[fG]at ex;obtain⟨i,hi1,hi2,_⟩:=eR (hs.r _ _ hr);have hres:=iG (ρ:=ρ) hi1;have hl:∀c∈cs.take off++dU d++cs.drop (off+n),cV nx c:=AA (AA (rj (hs.aiM hr) _) (CG (hs.sU hy))) (oG (hs.aiM hr) _);refine .ofU (.ati (cs:=cs.map (b7.sub ρ)) i ho ex (hs.fO hy ρ) hres hn (JO hs hp) (by rw[l9,zB,hlen]) (by rw[zB];exact hle)) (λb hb=> ?_) ⟨_,h,zl _,qR (hs.r _ _ hr) hs.lr hl,λd' hd=>(by cases hd),ρ, .refl _ _,rfl,?_⟩
  ·rw[zo]at hb;exact bQ.2 ⟨_,List.mem_of_getElem? hres,by rw[hb];rfl⟩
  ·show List.Perm _ (bt.res ρ (vP id _ R));rw[hi2,BN];simp only[IR.res,zO,xL,xB,l9];rfl
 ·rename_i id t m off hx;split at h
  case h_2=>cases h
  rename_i t' l hr;split at h
  ·rename_i b hbb;cases har:L.arr t'&&adF d with
   |false=>rw[har]at hbb;cases hbb
   |true=>
    rw[har]at hbb;simp only[zi]at har;obtain⟨har,hap⟩:=har;have hab:=Y5 hbb;rw[hab]at hlen;have hn1:n=1:=by simpa using hlen.symm
    split at h
    case isFalse=>cases h
    rename_i hm;obtain⟨rfl,hm,hoff⟩:=hm;have ex:=hs.fO hx ρ;rw[jU]at ex;obtain⟨i,hi1,hi2,_⟩:=eR (hs.r _ _ hr);have hres:=iG (ρ:=ρ) hi1;have hds:=Rh hap ρ;have hpl:FZ (d.sub ρ)=J:=by rw[hds];exact FA hap
    refine .ofU (.abP (of:=off) i (L.stB t l[m]! off b) ho ex (hs.fO hy ρ) hres hn hpl (by rw[hds,hab,hn1];rfl) rfl hm au (L.len _ _) (λA w us hr=> ?_)) (λb hb=> ?_) ⟨_,h,zl _,qR (hs.r _ _ hr) hs.lr trivial,λd' hd=>(by cases hd),ρ, .refl _ _,rfl,?_⟩
    ·rw[hds,hab,hn1]at hr;rw[L.agF t har _ off b hoff];exact hr
    ·obtain⟨g,hg⟩:∃g,gD (ρ.v id)=V g:=by
      simp_all
     rw[hg]at hb;simp only[xO,zo]at hb;exact bQ.2 ⟨_,List.mem_of_getElem? hres,by rw[hb];exact hg⟩
    ·show List.Perm _ (bt.res ρ (vP id _ R));rw[hi2,BN];rfl
  split at h
  case h_2=>cases h
  rename_i hle;simp only[zi]at hle;obtain⟨hle,hap⟩:=hle;have hle:=wg hle;split at h
  case isFalse=>cases h
  rename_i hm;obtain⟨rfl,hm⟩:=hm;obtain⟨q,hq,h⟩:=zu.1 h;have ex:=hs.fO hx ρ;rw[jU]at ex;obtain⟨i,hi1,hi2,_⟩:=eR (hs.r _ _ hr);have hres:=iG (ρ:=ρ) hi1;have hds:=Rh hap ρ;have hpl:FZ (d.sub ρ)=J:=by rw[hds];exact FA hap
  refine .ofU (.abP (of:=off) i q ho ex (hs.fO hy ρ) hres hn hpl (by rw[l9,zB,hlen]) rfl hm hle (L.len _ _) (λA w us hr=> ?_)) (λb hb=> ?_) ⟨_,h,zl _,qR (hs.r _ _ hr) hs.lr trivial,λd' hd=>(by cases hd),ρ, .refl _ _,rfl,?_⟩
  ·refine L.mD _ _ _ hq A w us ?_;rw[hds]at hr;exact hr
  ·obtain⟨g,hg⟩:∃g,gD (ρ.v id)=V g:=by
    simp_all
   rw[hg]at hb;simp only[xO,zo]at hb;exact bQ.2 ⟨_,List.mem_of_getElem? hres,by rw[hb];exact hg⟩
  ·show List.Perm _ (bt.res ρ (vP id _ R));rw[hi2,BN];rfl
 ·cases h
def prs(t:Nat):Nat->af AV->aa (af (U.de t))
 |0,[]=>V []
 |0,_=>G
 |n+1,cs=>(L.parse t (cs.take (U.sz t))).bind λx=>(prs t n (cs.drop (U.sz t))).map λl=>x::l
def abI{t:Nat}:∀{n:Nat} {cs:af AV} {l:af (U.de t)},prs t n cs=V l->zY cs=n*U.sz t->zY l=n/\∀A w us,bN A w cs us->bN A w (l.flatMap (U.cells t)) us
 |0,[],l,h,_=>by
  cases h;simp
 |0,_::_,l,h,_=>by cases h
 |n+1,cs,l,h,hl=>by
  obtain⟨x,h1,h⟩:=zu.1 h;obtain⟨l',h2,rfl⟩:=zn.1 h;rw[yO]at hl;obtain⟨h3,h4⟩:=abI h2 (by rw[zV];omega);refine⟨by simp[h3],λA w us hr=> ?_⟩;rw[yR,<-xA (U.sz t) us];exact(L.mD _ _ _ h1 A w _ (hr.take _)).app (h4 A w _ (hr.drop _))
def T3(P:Program)(ev:Operand->aa AV)(rd:Nat->aa IR)(nx:Nat)(T:TypeId)(n:Nat)(ps:af (Nat×Operand))(K:gq->aa α):aa α:=match P.underlying T with
 |some (.slice e)=>match RD P e (U.sz e)with
  |true=>match n with
   |0=>match ps with
    |[]=>K (.new (.own nx) (.row e []))
    |_=>G
   |n+1=>match evp ev ps,kD P e with
    |some as0,V zs=>match zc (zY zs) (U.sz e)&&zA 0 (U.sz e)&&yp ((n+1)*U.sz e) 16777216 with
     |true=>(Bt rd (λi=>V (i*U.sz e,U.sz e)) ((zf (n+1) zs).flatten.map .lit) as0).bind λcs=>match cs.all ZV&&zc (zY cs) ((n+1)*U.sz e)with
      |true=>(prs e (n+1) cs).bind λl=>K (.new (.own nx) (.row e l))
      |false=>G
     |false=>G
    |_,_=>G
  |false=>G
 |_=>G
def Kx(hs:kR ev rd nx E R){t:Nat}{l:af (U.de t)}{ρ:Gh}{σ':af cc}{a:AV}(hK:K (.new (.own nx) (.row t l))=V r)(h:∃v,a= .lit v/\σ'= .row v t l::bt.res ρ R):Nx R nx K r ρ (V a) σ':=by
 obtain⟨v,ha,hσ⟩:=h;refine adM hs (ρ':=ρ.gC nx v) hK (.own _ (zC _)) trivial (.gC ρ nx v) ?_ ?_
 ·rw[ha,dx];simp[Gh.gC]
 ·rw[hσ];simp[IR.res,Gh.gC]
def aiK{T:TypeId}{n:Nat}{ps:Array (Nat×Operand)}(hs:kR ev rd nx E R)(ho:o.op= .buildSlice T n ps)(h:T3 P ev rd nx T n ps.toList K=V r):Zr P o E R nx K r:=λρ C=>by
 unfold T3 at h;split at h
 case h_2=>cases h
 rename_i e hT;split at h
 case h_2=>cases h
 rename_i hsz;have hsz:=tC hsz;split at h
 ·split at h
  case h_2=>cases h
  rename_i h0;have h0:ps=#[]:=by rw[<-Array.toList_eq_nil_iff];exact h0
  subst h0;exact .ofV (.aGY ho hT hsz) (by simp) λa σ' hN=>Kx hs h hN
 ·rename_i n;split at h
  case h_2=>cases h
  rename_i as0 zs he hz;split at h
  case h_2=>cases h
  rename_i hc;simp only[zi]at hc;obtain⟨⟨hc1,hc2⟩,hc3⟩:=hc;have hc1:=gZ hc1;have hc2:0<U.sz e:=by simpa using hc2
  have hc3:=wg hc3;obtain⟨cs,hf,h⟩:=zu.1 h;split at h
  case h_2=>cases h
  rename_i hd;simp only[zi]at hd;obtain⟨hd1,hd2⟩:=hd;have hd2:=gZ hd2;obtain⟨l,hl,h⟩:=zu.1 h;obtain⟨hl1,hl2⟩:=abI hl hd2;refine .ofV (.lit l ho hT hsz hz hc1 (λA w j hd hρ=> ?_) hl1 (λi hi=>L.len _ _) (Nat.mul_pos (Nat.succ_pos _) hc2) hc3) (by simp) λa σ' hN=>Kx hs h hN;obtain⟨us,h1,h2⟩:=Du (init:=(zf (n+1) zs).flatten.toArray) hs hd (by rw[Ge];exact bN.lits _) (M9 hs hρ he) hf;rw[QD hd1]at h2;exact⟨us,h1,hl2 _ _ _ h2⟩
def mkE(P:Program)(nx:Nat)(T:TypeId)(x y:aa AV)(K:gq->aa α):aa α:=match P.underlying T,x,y with
 |some (.slice e),V (.lit (.int .i64 m)),V (.lit (.int .i64 n))=>match (P.info? e).map (λi=>(i.size,i.bytes)),kD P e with
  |some (sz,by'),V zs=>match zc sz (U.sz e)&&yp by' 4096&&zc (zY zs) (U.sz e)&&zA 0 (U.sz e)with
   |true=>(L.parse e (zs.map .lit)).bind λd=>if 0<=m/\m<=n/\n<=1073741824 then K (.new (.own nx) (.row e (zf m.toNat d)))else G
   |false=>G
  |_,_=>G
 |_,_,_=>G
def arB{T:TypeId}(hs:kR ev rd nx E R)(ho:o.op= .makeSlice T x y)(h:mkE P nx T (ev x) (ev y) K=V r):Zr P o E R nx K r:=λρ C=>by
 unfold mkE at h;split at h
 case h_2=>cases h
 rename_i e m n hT hx hy;split at h
 case h_2=>cases h
 rename_i sz by' zs hb hz;split at h
 case h_2=>cases h
 rename_i hc;simp only[zi]at hc;obtain⟨⟨⟨hc1,hc2⟩,hc3⟩,hc4⟩:=hc;have hc1:=gZ hc1;have hc3:=gZ hc3;have hc4:0<U.sz e:=by simpa using hc4
 subst hc1;obtain⟨d,hd,h⟩:=zu.1 h;split at h
 case isFalse=>cases h
 rename_i hm;have ex:=hs.fO hx ρ;have ey:=hs.fO hy ρ;rw[bV]at ex ey;exact .ofV (.make d ho ex ey hT hb hz hc2 hc3 (λA w=>L.mD _ _ _ hd A w _ (bN.lits _)) hc4 hm) (by simp) λa σ' hN=>Kx hs h hN
def emE(P:Program)(nx:Nat)(T:TypeId)(x:aa AV)(K:gq->aa α):aa α:=match P.underlying T with
 |some (.slice e)=>match P.info? e with
  |some _=>match x with
   |some (.sl _ _)=>K (.new (.own nx) (.row e []))
   |some (.lit (.slice G 0 0))=>K (.new (.own nx) (.row e []))
   |_=>G
  |none=>G
 |_=>G
def avJ{T:TypeId}{k k':IntKind}(hs:kR ev rd nx E R)(ho:o.op= .slice T x G (V (.const (.int k 0))) (V (.const (.int k' 0))))(h:emE P nx T (ev x) K=V r):Zr P o E R nx K r:=λρ C=>by
 unfold emE at h;split at h
 case h_2=>cases h
 rename_i e hT;split at h
 case h_2=>cases h
 rename_i i hi;split at h
 ·rename_i t l hx;have ex:=hs.fO hx ρ;rw[gP]at ex;exact .ofV (.XX ho (.inl ex) hT (by rw[hi];rfl)) (by simp) λa σ' hN=>Kx hs h hN
 ·rename_i hx;have ex:=hs.fO hx ρ;rw[bV]at ex;exact .ofV (.XX (q:=0) (l:=[]) ho (.inr ex) hT (by rw[hi];rfl)) (by simp) λa σ' hN=>Kx hs h hN
 ·cases h
def ahs(rd:Nat->aa IR)(e:Nat)(x:aa AV):aa (af (U.de e)):=match x with
 |some (.lit (.slice _ 0 _))=>V []
 |some (.sl t l)=>Bc t e l
 |some (.own id)=>match rd id with
  |some (.row t l)=>Bc t e l
  |_=>G
 |_=>G
def KU{e:Nat}{l:af (U.de e)}(hs:kR ev rd nx E R)(h:ahs rd e (ev x)=V l)(ρ:Gh):Src (bt.res ρ R) (E.sub ρ) x e l:=by
 unfold ahs at h;split at h
 ·rename_i hx;cases h;have ex:=hs.fO hx ρ;rw[bV]at ex;exact .inl ⟨_,_,ex,rfl⟩
 ·rename_i t l' hx;obtain⟨rfl,rfl⟩:=oH h;have ex:=hs.fO hx ρ;rw[gP]at ex;exact .inr (.inl ex)
 ·rename_i id hx;split at h
  case h_2=>cases h
  rename_i t l' hr;obtain⟨rfl,rfl⟩:=oH h;have ex:=hs.fO hx ρ;rw[dx]at ex;obtain⟨i,hi⟩:=hs.row hr ρ;exact .inr (.inr ⟨i,_,ex,hi⟩)
 ·cases h
def Src.cons{P:Program}{σ:af cc}{E:Env}{rr:cc}{q:Nat}{l:af (U.de q)}(h:Src σ E x q l):Src (rr::σ) E x q l:=by
 rcases h with h|h|⟨i,v,h1,h2⟩
 ·exact .inl h
 ·exact .inr (.inl h)
 ·exact .inr (.inr ⟨i+1,v,h1,h2⟩)
def Zh(P:Program)(T:TypeId)(K:Nat->af Value->aa α):aa α:=match P.underlying T with
 |some (.slice e)=>match (P.info? e).map (λi=>(i.size,i.bytes)),kD P e with
  |some (sz,by'),V zs=>match zc sz (U.sz e)&&yp by' 4096&&zc (zY zs) (U.sz e)with
   |true=>K e zs
   |false=>G
  |_,_=>G
 |_=>G
def akn{T:TypeId}{K:Nat->af Value->aa α}(h:Zh P T K=V r):∃e zs by',K e zs=V r/\P.underlying T=V (.slice e)/\(P.info? e).map (λi=>(i.size,i.bytes))=V (U.sz e,by')/\kD P e=V zs/\yp by' 4096=J/\zY zs=U.sz e:=by
 unfold Zh at h;split at h
 case h_2=>cases h
 rename_i e hT;split at h
 case h_2=>cases h
 rename_i sz by' zs hb hz;split at h
 case h_2=>cases h
 rename_i hc;simp only[zi]at hc;obtain⟨⟨hc1,hc2⟩,hc3⟩:=hc;have hc1:=gZ hc1;subst hc1;exact⟨e,zs,by',h,hT,hb,hz,hc2,gZ hc3⟩
def Ug(P:Program)(rd:Nat->aa IR)(e:Nat)(zs:af Value)(T':TypeId)(T:TypeId)(y:aa AV)(K:af (U.de e)->aa α):aa α:=match zc T T' with
 |true=>(ahs rd e y).bind K
 |false=>match P.underlying T',y with
  |some (.int _),V (.lit (.int .i64 m))=>match zA 0 (U.sz e)&&zs.all Value.oneCell' with
   |true=>(L.parse e (zs.map .lit)).bind λd=>if 0<=m then K (zf m.toNat d)else G
   |false=>G
  |_,_=>G
def aaV(P:Program)(rd:Nat->aa IR)(nx:Nat)(T T':TypeId)(x y:aa AV)(K:gq->aa α):aa α:=Zh P T λe zs=>match x with
 |some (.lit (.slice G 0 0))=>Ug P rd e zs T' T y λl2=>if zY l2<=1073741824 then K (.new (.own nx) (.row e l2))else G
 |some (.own id)=>match rd id with
  |some (.row t l)=>(Bc t e l).bind λl=>Ug P rd e zs T' T y λl2=>if(l++l2).length<=1073741824 then K (.grow id (.row e (l++l2)))else G
  |_=>G
 |_=>G
def UL(P:Program)(rd:Nat->aa IR)(R:bt)(nx:Nat)(T:TypeId)(x y:aa AV)(K:gq->aa α):aa α:=match P.underlying T with
 |some (.slice e)=>match RD P e 1&&zc (U.sz e) 1 with
  |true=>match x with
   |some (.own id)=>match rd id with
    |some (.row t l)=>(Bc t e l).bind λl=>(ahs rd e y).bind λl2=>if 0<zY l/\zY l2=zY l then K (.all (.i (zY l:Int)) (vP id (.row e l2) R) nx)else G
    |_=>G
   |_=>G
  |false=>G
 |_=>G
def aj0{T T':TypeId}(hs:kR ev rd nx E R)(ho:o.op= .call {callee:= .builtin .copy,args:=#[x,y],argTypes:=#[T,T']})(h:UL P rd R nx T (ev x) (ev y) K=V r):Zr P o E R nx K r:=λρ C=>by
 unfold UL at h;split at h
 case h_2=>cases h
 rename_i e hT;split at h
 case h_2=>cases h
 rename_i hc;rw[zi]at hc;split at h
 case h_2=>cases h
 rename_i id hx;split at h
 case h_2=>cases h
 rename_i t l hr;obtain⟨l',h1,h⟩:=zu.1 h;obtain⟨rfl,rfl⟩:=oH h1;obtain⟨l2,h2,h⟩:=zu.1 h;split at h
 case isFalse=>cases h
 rename_i hl;have ex:=hs.fO hx ρ;rw[dx]at ex;obtain⟨i,hi1,hi2,_⟩:=eR (hs.r _ _ hr);have hres:=iG (ρ:=ρ) hi1;refine .ofV (.ay8 i ho ex hres (KU hs h2 ρ) hT (tC hc.1) (gZ hc.2) hl.2 hl.1 (L.one _)) (λb hb=> ?_) λa σ' ⟨ha,hσ⟩=>⟨_,h,zl _,qR (hs.r _ _ hr) hs.lr trivial,λd' hd=>(by cases hd;exact .lit _),ρ, .refl _ _,by rw[ha];simp only[gq.vl,yI,b7.sub],?_⟩
 ·obtain⟨g,hg⟩:∃g,gD (ρ.v id)=V g:=by
   simp_all
  rw[hg]at hb;simp only[xO,zo]at hb;exact bQ.2 ⟨_,List.mem_of_getElem? hres,by rw[hb];exact hg⟩
 ·show List.Perm _ (bt.res ρ (vP id _ R));rw[hσ,hi2,BN];rfl
def set_perm{β:Type}{l:af β}{i:Nat}{a b:β}(h:l[i]? =V b):List.Perm (l.set i a) (a::l.eraseIdx i):=by
 have hi:=(z7.1 h).1;rw[wS,wR,bB hi];simp
def X8{T T':TypeId}{e by':Nat}{zs:af Value}{K':af (U.de e)->aa α}{rs:af cc}{ρ:Gh}{C:Cx}(hs:kR ev rd nx E R)(ho:o.op= .call {callee:= .builtin .append,args:=#[x,y],argTypes:=#[T,T']})(h:Ug P rd e zs T' T (ev y) K'=V r)
  (hT:P.underlying T=V (.slice e)) (hb:(P.info? e).map (λi=>(i.size,i.bytes))=V (U.sz e,by')) (hz:kD P e=V zs) (hb4:yp by' 4096=J) (hzl:zY zs=U.sz e):
  ∃l2,K' l2=V r/\∀(σ:af cc) (v:Value) (i:Nat) (l:af (U.de e)),(σ=bt.res ρ R\/∃rr,σ=rr::bt.res ρ R)->(E.sub ρ).ev x=V (.lit v)->σ[i]? =V (.row v e l)->zY (l++l2)<=1073741824->
   Yv P (E.sub ρ) σ o C (xQ (gD v)) (λa σ'=>∃v',a= .lit v'/\σ'=σ.set i (.row v' e (l++l2))):=by
 unfold Ug at h;split at h
 ·rename_i hTT;have:=gZ hTT;subst this;obtain⟨l2,h1,h⟩:=zu.1 h;refine⟨l2,h,λσ v i l hσ hx hi hlen=> ?_⟩;have hsrc:Src σ (E.sub ρ) y e l2:=by
   rcases hσ with rfl|⟨rr,rfl⟩
   ·exact KU hs h1 ρ
   ·exact Src.cons (P:=P) (KU hs h1 ρ)
  exact .app i ho hx hi hsrc hT hb hz hzl hb4 (L.one e) hlen
 ·split at h
  case h_2=>cases h
  rename_i kn m hT' hy;split at h
  case h_2=>cases h
  rename_i hc;simp only[zi]at hc;obtain⟨hc1,hc2⟩:=hc;obtain⟨d,hd,h⟩:=zu.1 h;split at h
  case isFalse=>cases h
  rename_i hm;refine⟨_,h,λσ v i l hσ hx hi hlen=> ?_⟩;have ey:=hs.fO hy ρ;rw[bV]at ey;exact .aGB i d ho hx hi ey hT hT' hb hz hzl (by simpa using hc1) hb4 (λA w=>L.mD _ _ _ hd A w _ (bN.lits _)) hc2 ⟨hm,hlen⟩
def aoe{T T':TypeId}(hs:kR ev rd nx E R)(ho:o.op= .call {callee:= .builtin .append,args:=#[x,y],argTypes:=#[T,T']})(h:aaV P rd nx T T' (ev x) (ev y) K=V r):Zr P o E R nx K r:=λρ C=>by
 obtain⟨e,zs,by',h,hT,hb,hz,hb4,hzl⟩:=akn h;split at h
 ·rename_i hx;obtain⟨l2,h,hY⟩:=X8 (rs:=[]) (ρ:=ρ) (C:=C) hs ho h hT hb hz hb4 hzl;split at h
  case isFalse=>cases h
  rename_i hlen;have ex:=hs.fO hx ρ;rw[bV]at ex;intro w j hg hρ;have ht:Tr C [] (bt.res ρ R) w (.row (.slice G 0 0) e []::bt.res ρ R) w:=Us G e hg;have hal:∀b,al C (bt.res ρ R) b->al C (.row (.slice G 0 0) e []::bt.res ρ R) b:=λb hA=>⟨hA.1,λhx=>hA.2 (by
   rw[fE]at hx;simpa [cc.blk,gD]using hx)⟩
  obtain⟨v,w',av,σ',⟨v',ha,hσ⟩,h2,h3,h4⟩:=hY _ (.slice G 0 0) 0 [] (.inr ⟨_,rfl⟩) ex rfl (by simpa using hlen) w j ht.good (λu d hu=>(hρ u d hu).mono λb _ hA=>⟨hal b hA,rfl⟩);refine .inl ⟨v,w',av,σ',Kx hs h ⟨v',ha,by rw[hσ];rfl⟩,⟨h2.good,⟨h2.kp.os,h2.kp.tape,h2.kp.output,h2.kp.drawn,h2.kp.size,λk hk _=>h2.kp.block k hk (by simp[gD])⟩,λb hb hA=>⟨(h2.al b hb (hal b hA)).1,hA.2⟩⟩,h3,h4⟩
 ·rename_i id hx;split at h
  case h_2=>cases h
  rename_i t l0 hr;obtain⟨l,hl,h⟩:=zu.1 h;obtain⟨rfl,rfl⟩:=oH hl;obtain⟨l2,h,hY⟩:=X8 (rs:=[]) (ρ:=ρ) (C:=C) hs ho h hT hb hz hb4 hzl;split at h
  case isFalse=>cases h
  rename_i hlen;have ex:=hs.fO hx ρ;rw[dx]at ex;obtain⟨i,hi1,_,hi3⟩:=eR (hs.r _ _ hr);have hres:=iG (ρ:=ρ) hi1;refine .ofV (hY _ _ i _ (.inl rfl) ex hres hlen) (λb hb=> ?_) λa σ' ⟨v',ha,hσ⟩=> ?_
  ·obtain⟨g,hg⟩:∃g,gD (ρ.v id)=V g:=by
    simp_all
   rw[hg]at hb;simp only[xO,zo]at hb;exact bQ.2 ⟨_,List.mem_of_getElem? hres,by rw[hb];exact hg⟩
  ·have hdl:=H7 (id:=id) hs.lr;refine⟨_,h,yd nx,λp hp=> ?_,λd' hd=>by cases hd;exact .own _ (zC _),ρ.gC nx v', .gC ρ nx v',?_,?_⟩
   ·rcases zx.1 hp with rfl|hp
    ·exact⟨zC _,trivial⟩
    ·exact(hdl.mono (yd nx)) p hp
   ·rw[ha];simp[gq.vl,dx,Gh.gC]
   ·rw[hσ];show List.Perm _ (bt.res _ ((nx,_)::lH id R));have e1:bt.res (ρ.gC nx v') ((nx,IR.row t (l0++l2))::lH id R)=cc.row v' t (l0++l2)::(bt.res ρ R).eraseIdx i:=by
     show _::bt.res _ (lH id R)=_;rw[<-hdl.res (.gC ρ nx v'),hi3,CV];simp[IR.res,Gh.gC]
    rw[e1];exact set_perm hres
 ·cases h
def mnV(mx:Bool)(xs:af (aa AV))(K:AV->aa α):aa α:=match xs with
 |[V (.lit (.int k m)),V (.lit (.int k' n))]=>if k=k' then(match mx with
  |true=>K (.n k (if m<n then n else m))
  |false=>K (.n k (if n<m then n else m)))else G
 |_=>G
abbrev bu:=(α:Type)->FuncId->af AV->bt->Nat->(AV->bt->Nat->aa α)->aa α
def iQ(P:Program)(F:bu):Prop:=∀(α:Type) f args R nx (k:AV->bt->Nat->aa α) r,F α f args R nx k=V r->(∀d∈args,cV nx d)->bt.cV nx R->vQ P f/\
 ∀ρ,Fn P f (args.map (b7.sub ρ)) (bt.res ρ R) λa s=>∃d R' nx',k d R' nx'=V r/\nx<=nx'/\cV nx' d/\bt.cV nx' R'/\∃ρ',qC nx ρ ρ'/\a=d.sub ρ'/\List.Perm s (bt.res ρ' R')
def Vd(F:bu)(ev:Operand->aa AV)(R:bt)(nx:Nat)(x:aa AV)(xs:af Operand)(K:gq->aa α):aa α:=match x with
 |some (.fn (.func f) caps)=>(Pr ev xs).bind λas0=>F α f (as0++caps) R nx λd R' nx'=>K (.all d R' nx')
 |_=>G
def ag5{F:bu}{xs:Array Operand}{ts:Array TypeId}(hF:iQ P F)(hs:kR ev rd nx E R)(ho:o.op= .call {callee:= .value x,args:=xs,argTypes:=ts})(h:Vd F ev R nx (ev x) xs.toList K=V r):Zr P o E R nx K r:=λρ C=>by
 unfold Vd at h;split at h
 case h_2=>cases h
 rename_i f caps hx;obtain⟨as0,ha,h⟩:=zu.1 h;have ex:=hs.fO hx ρ;rw[uF]at ex;obtain⟨hf,hfn⟩:=hF _ _ _ _ _ _ _ h (AA (L1 hs ha) (hs.sU hx).fnL) hs.lr;refine .ofC (.fn (σr:=[]) ho ex hf (MN hs ρ ha) (by rw[zO]) (yu _).symm (hfn ρ)) (λb hb=>hb) λa σ' ⟨σo,hN,hσ⟩=> ?_;obtain⟨d,R',nx',h1,h2,h3,h4,ρ',h5,h6,h7⟩:=hN;rw[yu]at hσ;exact⟨.all d R' nx',h1,h2,h4,λd' hd=>by cases hd;exact h3,ρ',h5,by rw[h6];rfl,by rw[hσ];exact h7⟩
end
def dQ{α:Type}(K:gq->aa α)(d:AV):aa α:=K (.val d)
def KW{α:Type}(P:Program)(F:bu)(ev:Operand->aa AV)(rd:Nat->aa IR)(R:bt)(nx:Nat)(o:Op)(K:gq->aa α):aa α:=match o with
 | .move x=>(ev x).bind (dQ K)
 | .assign x=>(ev x).bind (dQ K)
 | .pick c a b=>match ev c with
  |some (.lit (.bool J))=>(ev a).bind (dQ K)
  |some (.lit (.bool O))=>(ev b).bind (dQ K)
  |_=>G
 | .binOp b T x y _=>P9 P rd b T (ev x) (ev y) (dQ K)
 | .unOp b _ x=>unV b (ev x) (dQ K)
 | .convert T T' x=>Uw P rd T T' (ev x) (dQ K)
 | .nilCheck x=>UR (ev x) (dQ K)
 | .fieldAddr T x i=>Sc P T i (ev x) (dQ K)
 | .indexAddr T x y=>Sj P rd T (ev x) (ev y) (dQ K)
 | .index T x y=>TV P T (ev x) (ev y) (dQ K)
 | .load T x=>ldV P rd T (ev x) (dQ K)
 | .store T x y=>UN P rd T (ev x) (ev y) K
 | .makeFunc f fs cs=>SB ev f fs.toList cs.toList (dQ K)
 | .extract x i=>TN i (ev x) (dQ K)
 | .build T ps=>Uh P ev rd T ps.toList (dQ K)
 | .buildSlice T n ps=>T3 P ev rd nx T n ps.toList K
 | .makeSlice T x y=>mkE P nx T (ev x) (ev y) K
 | .alloc T=>Z1 P nx T K
 | .box T x=>Ui rd nx T (ev x) K
 | .slice T x lo hi mx=>match mx with
  |none=>TF P T (ev x) (lo.map ev) (hi.map ev) (dQ K)
  |some (.const (.int _ 0))=>match lo,hi with
   |none,V (.const (.int _ 0))=>emE P nx T (ev x) K
   |_,_=>G
  |_=>G
 | .call {callee:= .builtin .len,args:=as0,argTypes:=ts}=>match as0.toList,ts.toList with
  |[x],[T]=>Uq P rd T (ev x) (dQ K)
  |_,_=>G
 | .call {callee:= .builtin .max,args:=as0,argTypes:=ts}=>match as0.toList,ts.toList with
  |[x,y],[_,_]=>mnV J [ev x,ev y] (dQ K)
  |_,_=>G
 | .call {callee:= .builtin .min,args:=as0,argTypes:=ts}=>match as0.toList,ts.toList with
  |[x,y],[_,_]=>mnV O [ev x,ev y] (dQ K)
  |_,_=>G
 | .call {callee:= .builtin .append,args:=as0,argTypes:=ts}=>match as0.toList,ts.toList with
  |[x,y],[T,T']=>aaV P rd nx T T' (ev x) (ev y) K
  |_,_=>G
 | .call {callee:= .builtin .copy,args:=as0,argTypes:=ts}=>match as0.toList,ts.toList with
  |[x,y],[T,_]=>UL P rd R nx T (ev x) (ev y) K
  |_,_=>G
 | .call {callee:= .value x,args:=as0,argTypes:=_}=>Vd F ev R nx (ev x) as0.toList K
 |_=>G
section
variable {α:Type}
def VZ(x:Operand)(_:Program)(_:bu)(ev:Operand->aa AV)(_:Nat->aa IR)(_:bt)(_:Nat)(K:gq->aa α):aa α:=(ev x).bind (dQ K)
def BG(c a b:Operand)(_:Program)(_:bu)(ev:Operand->aa AV)(_:Nat->aa IR)(_:bt)(_:Nat)(K:gq->aa α):aa α:=match ev c with
 |some (.lit (.bool J))=>(ev a).bind (dQ K)
 |some (.lit (.bool O))=>(ev b).bind (dQ K)
 |_=>G
def aoW(b:BinOp)(T:TypeId)(x y:Operand)(P:Program)(_:bu)(ev:Operand->aa AV)(rd:Nat->aa IR)(_:bt)(_:Nat)(K:gq->aa α):aa α:=P9 P rd b T (ev x) (ev y) (dQ K)
def ay7(b:UnOp)(x:Operand)(_:Program)(_:bu)(ev:Operand->aa AV)(_:Nat->aa IR)(_:bt)(_:Nat)(K:gq->aa α):aa α:=unV b (ev x) (dQ K)
def ape(T T':TypeId)(x:Operand)(P:Program)(_:bu)(ev:Operand->aa AV)(rd:Nat->aa IR)(_:bt)(_:Nat)(K:gq->aa α):aa α:=Uw P rd T T' (ev x) (dQ K)
def ao6(x:Operand)(_:Program)(_:bu)(ev:Operand->aa AV)(_:Nat->aa IR)(_:bt)(_:Nat)(K:gq->aa α):aa α:=UR (ev x) (dQ K)
def ap6(T:TypeId)(x:Operand)(i:Nat)(P:Program)(_:bu)(ev:Operand->aa AV)(_:Nat->aa IR)(_:bt)(_:Nat)(K:gq->aa α):aa α:=Sc P T i (ev x) (dQ K)
def apc(T:TypeId)(x y:Operand)(P:Program)(_:bu)(ev:Operand->aa AV)(rd:Nat->aa IR)(_:bt)(_:Nat)(K:gq->aa α):aa α:=Sj P rd T (ev x) (ev y) (dQ K)
def aqi(T:TypeId)(x y:Operand)(P:Program)(_:bu)(ev:Operand->aa AV)(_:Nat->aa IR)(_:bt)(_:Nat)(K:gq->aa α):aa α:=TV P T (ev x) (ev y) (dQ K)
def ayO(T:TypeId)(x:Operand)(P:Program)(_:bu)(ev:Operand->aa AV)(rd:Nat->aa IR)(_:bt)(_:Nat)(K:gq->aa α):aa α:=ldV P rd T (ev x) (dQ K)
def ap1(T:TypeId)(x y:Operand)(P:Program)(_:bu)(ev:Operand->aa AV)(rd:Nat->aa IR)(_:bt)(_:Nat)(K:gq->aa α):aa α:=UN P rd T (ev x) (ev y) K
def aoO(f:Go.Fn)(fs cs:Array Operand)(_:Program)(_:bu)(ev:Operand->aa AV)(_:Nat->aa IR)(_:bt)(_:Nat)(K:gq->aa α):aa α:=SB ev f fs.toList cs.toList (dQ K)
def aqr(x:Operand)(i:Nat)(_:Program)(_:bu)(ev:Operand->aa AV)(_:Nat->aa IR)(_:bt)(_:Nat)(K:gq->aa α):aa α:=TN i (ev x) (dQ K)
def aok(T:TypeId)(ps:Array (Nat×Operand))(P:Program)(_:bu)(ev:Operand->aa AV)(rd:Nat->aa IR)(_:bt)(_:Nat)(K:gq->aa α):aa α:=Uh P ev rd T ps.toList (dQ K)
def apV(T:TypeId)(n:Nat)(ps:Array (Nat×Operand))(P:Program)(_:bu)(ev:Operand->aa AV)(rd:Nat->aa IR)(_:bt)(nx:Nat)(K:gq->aa α):aa α:=T3 P ev rd nx T n ps.toList K
def azG(T:TypeId)(x y:Operand)(P:Program)(_:bu)(ev:Operand->aa AV)(_:Nat->aa IR)(_:bt)(nx:Nat)(K:gq->aa α):aa α:=mkE P nx T (ev x) (ev y) K
def apB(T:TypeId)(P:Program)(_:bu)(_:Operand->aa AV)(_:Nat->aa IR)(_:bt)(nx:Nat)(K:gq->aa α):aa α:=Z1 P nx T K
def aoS(T:TypeId)(x:Operand)(_:Program)(_:bu)(ev:Operand->aa AV)(rd:Nat->aa IR)(_:bt)(nx:Nat)(K:gq->aa α):aa α:=Ui rd nx T (ev x) K
def Po(T:TypeId)(x:Operand)(lo hi mx:aa Operand)(P:Program)(_:bu)(ev:Operand->aa AV)(_:Nat->aa IR)(_:bt)(nx:Nat)(K:gq->aa α):aa α:=match mx with
 |none=>TF P T (ev x) (lo.map ev) (hi.map ev) (dQ K)
 |some (.const (.int _ 0))=>match lo,hi with
  |none,V (.const (.int _ 0))=>emE P nx T (ev x) K
  |_,_=>G
 |_=>G
def Gb(b:Builtin)(as0:Array Operand)(ts:Array TypeId)(P:Program)(ev:Operand->aa AV)(rd:Nat->aa IR)(R:bt)(nx:Nat)(K:gq->aa α):aa α:=match b with
 | .len=>match as0.toList,ts.toList with
  |[x],[T]=>Uq P rd T (ev x) (dQ K)
  |_,_=>G
 | .max=>match as0.toList,ts.toList with
  |[x,y],[_,_]=>mnV J [ev x,ev y] (dQ K)
  |_,_=>G
 | .min=>match as0.toList,ts.toList with
  |[x,y],[_,_]=>mnV O [ev x,ev y] (dQ K)
  |_,_=>G
 | .append=>match as0.toList,ts.toList with
  |[x,y],[T,T']=>aaV P rd nx T T' (ev x) (ev y) K
  |_,_=>G
 | .copy=>match as0.toList,ts.toList with
  |[x,y],[T,_]=>UL P rd R nx T (ev x) (ev y) K
  |_,_=>G
 |_=>G
def Gw(c:Call)(P:Program)(F:bu)(ev:Operand->aa AV)(rd:Nat->aa IR)(R:bt)(nx:Nat)(K:gq->aa α):aa α:=match c.callee with
 | .value x=>Vd F ev R nx (ev x) c.args.toList K
 | .builtin b=>Gb b c.args c.argTypes P ev rd R nx K
 |_=>G
def az6(_:Program)(_:bu)(_:Operand->aa AV)(_:Nat->aa IR)(_:bt)(_:Nat)(_:gq->aa α):aa α:=G
def qk(o:Op):Program->bu->(Operand->aa AV)->(Nat->aa IR)->bt->Nat->(gq->aa α)->aa α:=match o with
 | .move x=>VZ x
 | .assign x=>VZ x
 | .pick c a b=>BG c a b
 | .binOp b T x y _=>aoW b T x y
 | .unOp b _ x=>ay7 b x
 | .convert T T' x=>ape T T' x
 | .nilCheck x=>ao6 x
 | .fieldAddr T x i=>ap6 T x i
 | .indexAddr T x y=>apc T x y
 | .index T x y=>aqi T x y
 | .load T x=>ayO T x
 | .store T x y=>ap1 T x y
 | .makeFunc f fs cs=>aoO f fs cs
 | .extract x i=>aqr x i
 | .build T ps=>aok T ps
 | .buildSlice T n ps=>apV T n ps
 | .makeSlice T x y=>azG T x y
 | .alloc T=>apB T
 | .box T x=>aoS T x
 | .slice T x lo hi mx=>Po T x lo hi mx
 | .call c=>Gw c
 |_=>az6
def Q3(P:Program)(F:bu)(ev:Operand->aa AV)(rd:Nat->aa IR)(R:bt)(nx:Nat)(o:Op)(K:gq->aa α):qk o P F ev rd R nx K=KW P F ev rd R nx o K:=by
 cases o<;>first|rfl|skip
 case call c=>
  obtain⟨cal,as0,ts⟩:=c;cases cal with
  |builtin b=>cases b<;>rfl
  |_=>rfl
end
section
variable {α:Type} {r:α} {P:Program} {F:bu} {o:Oper} {E:Env} {R:bt} {nx:Nat} {ev:Operand->aa AV} {rd:Nat->aa IR} {K:gq->aa α} {C:Cx} {n:Nat}
def axr{β:Type}{a:Array β}{x:β}(h:a.toList=[x]):a=#[x]:=by rw[<-Array.toArray_toList (xs:=a),h]
def Qs{β:Type}{a:Array β}{x y:β}(h:a.toList=[x,y]):a=#[x,y]:=by rw[<-Array.toArray_toList (xs:=a),h]
def KA(hF:iQ P F)(hs:kR ev rd nx E R){op:Op}(ho:o.op=op)(h:KW P F ev rd R nx op K=V r):Zr P o E R nx K r:=by
 unfold KW at h;split at h
 ·obtain⟨d,hd,h⟩:=zu.1 h;exact .pu hs ⟨d,h,hs.sU hd,λρ=> .move ho (hs.fO hd ρ)⟩
 ·obtain⟨d,hd,h⟩:=zu.1 h;exact .pu hs ⟨d,h,hs.sU hd,λρ=> .assign ho (hs.fO hd ρ)⟩
 ·split at h
  ·rename_i hc;obtain⟨d,hd,h⟩:=zu.1 h;exact .pu hs ⟨d,h,hs.sU hd,λρ=> .ayc ho (by have:=hs.fO hc ρ;rw[bV]at this;exact this) (hs.fO hd ρ)⟩
  ·rename_i hc;obtain⟨d,hd,h⟩:=zu.1 h;exact .pu hs ⟨d,h,hs.sU hd,λρ=> .aCm ho (by have:=hs.fO hc ρ;rw[bV]at this;exact this) (hs.fO hd ρ)⟩
  ·cases h
 ·exact .pu hs (ahS hs ho h)
 ·exact .pu hs (aty hs ho h)
 ·exact .pu hs (anI hs ho h)
 ·exact .pu hs (akc hs ho h)
 ·exact .pu hs (aiW hs ho h)
 ·exact .pu hs (anf hs ho h)
 ·exact .pu hs (aj3 hs ho h)
 ·exact .pu hs (atM hs ho h)
 ·exact ai7 hs ho h
 ·exact .pu hs (agI hs ho h)
 ·exact .pu hs (ahF hs ho h)
 ·exact .pu hs (anU hs ho h)
 ·exact aiK hs ho h
 ·exact arB hs ho h
 ·exact alU hs ho h
 ·exact aiz hs ho h
 ·split at h
  ·exact .pu hs (aic hs ho h)
  ·split at h
   ·exact avJ hs ho h
   ·cases h
  ·cases h
 ·split at h
  ·rename_i h1 h2;rw[axr h1,axr h2]at ho;exact .pu hs (alX hs ho h)
  ·cases h
 ·split at h
  ·rename_i h1 h2;rw[Qs h1,Qs h2]at ho;unfold mnV at h;split at h
   ·rename_i q1;split at h
    ·rename_i hk;subst hk;simp only[List.cons.injEq,and_true]at q1;obtain⟨q1,q2⟩:=q1;exact .pu hs ⟨_,h, .lit λρ=> .max ho (by have:=hs.fO q1 ρ;rw[bV]at this;exact this) (by have:=hs.fO q2 ρ;rw[bV]at this;exact this)⟩
    ·cases h
   ·cases h
  ·cases h
 ·split at h
  ·rename_i h1 h2;rw[Qs h1,Qs h2]at ho;unfold mnV at h;split at h
   ·rename_i q1;split at h
    ·rename_i hk;subst hk;simp only[List.cons.injEq,and_true]at q1;obtain⟨q1,q2⟩:=q1;exact .pu hs ⟨_,h, .lit λρ=> .min ho (by have:=hs.fO q1 ρ;rw[bV]at this;exact this) (by have:=hs.fO q2 ρ;rw[bV]at this;exact this)⟩
    ·cases h
   ·cases h
  ·cases h
 ·split at h
  ·rename_i h1 h2;rw[Qs h1,Qs h2]at ho;exact aoe hs ho h
  ·cases h
 ·split at h
  ·rename_i h1 h2;rw[Qs h1,Qs h2]at ho;exact aj0 hs ho h
  ·cases h
 ·exact ag5 hF hs ho h
 ·cases h
def St.app(s:St)(dst:aa Nat)(e:gq):St:=
 {E:=match dst with
   |none=>s.E
   |some t=>match e.vl s.nx with
    |some d=>nI t d s.E
    |none=>nI t (.lit undef) s.E
  R:=e.R s.R s.nx
  nx:=e.nx s.nx}
def Qp(n:Nat):aa Nat->Bool
 |none=>J
 |some t=>zA t n
def kR.of{s:St}(hh:Ad s.E E)(hE:E.cV s.nx)(hR:bt.cV s.nx s.R):kR (LQ s.E) (gH s.R) s.nx E s.R:=⟨λx d h=>hh.ev x d h,λ_ _ h=>h,hE,hR⟩
def arz{C:Cg}{s:St}{a:Act}{w:World}{Q:Exit->Act->World->Prop}(hm:Mt C n s a w)(hd:Qp n o.dst=J)(h:∀E,kR (LQ s.E) (gH s.R) s.nx E s.R->Zr P o E s.R s.nx K r){K':Act->World->Prop}
  (hK:∀a' w' e,a'.defers=a.defers->K e=V r->s.nx<=e.nx s.nx->Mt C n (s.app o.dst e) a' w'->K' a' w'):o.wp P a w K' Q:=by
 obtain⟨E,hh,hE,hR,ρ,hag,hsim⟩:=hm;have h:=h E (kR.of hh hE hR);unfold Oper.wp;have fin:∀(e:gq) (ρ':Gh) (σ':af cc) (w':World) (v:Value),s.nx<=e.nx s.nx->bt.cV (e.nx s.nx) (e.R s.R s.nx)->(∀d,e.vl s.nx=V d->cV (e.nx s.nx) d)->qC s.nx ρ ρ'->List.Perm σ' (bt.res ρ' (e.R s.R s.nx))->
   Tr C.C (bC (bt.res ρ s.R)) (bt.res ρ s.R) w σ' w'->(∀d,e.vl s.nx=V d->Rel (al C.C σ') w' (d.sub ρ') v)->(e.vl s.nx=G->v=undef)->Mt C n (s.app o.dst e) (a.put o.dst v) w':=λe ρ' σ' w' v h1 h2 h3 h4 h5 h6 h7 h8=>by
  have hs1:=(hsim.tr h6).perm h5;rw[hE.sub h4]at hs1;have hE':E.cV (e.nx s.nx):=hE.mono h1;have hag':qC C.n C.ρ ρ'/\C.n<=e.nx s.nx:=⟨hag.1.trans h4 hag.2,zG hag.2 h1⟩;have hput:∀(t:Nat) (d:AV),o.dst=V t->cV (e.nx s.nx) d->Rel (al C.C (bt.res ρ' (e.R s.R s.nx))) w' (d.sub ρ') v->Mt C n {E:=nI t d s.E,R:=e.R s.R s.nx,nx:=e.nx s.nx} (a.put (V t) v) w':=λt d ht hd' hr=>
   ⟨(t,d)::E,hh.put t d,Env.AO hE' hd',h2,ρ',hag',hs1.put (by rw[ht]at hd;exact hd) hr⟩
  have hsub:∀d,e.vl s.nx=V d->Rel (al C.C (bt.res ρ' (e.R s.R s.nx))) w' (d.sub ρ') v:=λd hd'=>(h7 d hd').mono λb _ hA=>⟨Xv h5 b hA,rfl⟩;unfold St.app;cases hdst:o.dst with
  |none=>exact⟨E,hh,hE',h2,ρ',hag',hs1⟩
  |some t=>
   cases hv:e.vl s.nx with
   |some d=>exact hput t d hdst (h3 d hv) (hsub d hv)
   |none=>
    refine hput t (.lit undef) hdst (.lit _) ?_;rw[h8 hv,bV];exact .lit _
 rcases h ρ C.C w a.eval hsim.good hsim.slots.ops with ⟨v,w',av,σ',⟨e,q1,q2,q3,q4,ρ',q5,q6,q7⟩,h2,h3,h4⟩|⟨w',σ',⟨e,q1,q2,q3,q4,ρ',q5,q6,q7⟩,h2,h3⟩|⟨f,args,h1,h2⟩
 ·rw[h3];refine hK _ _ e (by cases o.dst<;>rfl) q1 q2 (fin e ρ' σ' w' v q2 q3 q4 q5 q7 h2 (λd hd'=> ?_) (λhn=> ?_))
  ·simp_all
  ·simp_all
 ·rw[h3];refine hK _ _ e (by cases o.dst<;>rfl) q1 q2 (fin e ρ' σ' w' undef q2 q3 q4 q5 q7 h2 (λd hd'=> ?_) (λhn=>rfl));rw[hd']at q6;cases q6
 ·rw[h1];refine Calls.mono h2 λee w' ⟨v,av,σ',q0,⟨e,q1,q2,q3,q4,ρ',q5,q6,q7⟩,h2,h4⟩=> ?_;subst q0;refine hK _ _ e (by cases o.dst<;>rfl) q1 q2 (fin e ρ' σ' w' v q2 q3 q4 q5 q7 h2 (λd hd'=> ?_) (λhn=> ?_))
  ·simp_all
  ·rw[hn]at q6;cases q6
end
def Zq(id t:Nat)(l:af (U.de t)):AV->AV
 | .own i=>match zc i id with
  |true=> .sl t l
  |false=> .own i
 |d=>d
def p7(id t:Nat)(l:af (U.de t)):Nat->AV->AV
 |0,d=>d
 |n+1, .agg cs=> .agg (cs.map (p7 id t l n))
 |n+1, .jo cs=> .jo (cs.map (p7 id t l n))
 |n+1, .fn f cs=> .fn f (cs.map (p7 id t l n))
 |_+1,d=>Zq id t l d
def Ao(id t:Nat)(l:af (U.de t)):IR->IR
 | .box T cs=> .box T (cs.map (p7 id t l 3))
 |r=>r
def St.N6(s:St)(id:Nat):St:=match gH s.R id with
 |some (.row t l)=>{E:=emap (p7 id t l 3) s.E,R:=(lH id s.R).map λp=>(p.1,Ao id t l p.2),nx:=s.nx}
 |_=>s
def abh{A:Nat->Prop}{w:World}{id t:Nat}{l:af (U.de t)}{ρ:Gh}(hd:Hd A [.row (ρ.v id) t l] w){d:AV}{v:Value}(h:Rel A w (d.sub ρ) v):Rel (λb=>A b\/b∈bC [.row (ρ.v id) t l]) w ((Zq id t l d).sub ρ) v:=by
 unfold Zq;split
 ·rename_i i;split
  ·rename_i hi;have:=gZ hi;subst this;rw[dx]at h;rw[gP];exact Vw.row 0 rfl A w v hd h
  ·exact h.mono λb _ hA=>⟨.inl hA,rfl⟩
 ·exact h.mono λb _ hA=>⟨.inl hA,rfl⟩
def IK{A:Nat->Prop}{w:World}{id t:Nat}{l:af (U.de t)}{ρ:Gh}(hd:Hd A [.row (ρ.v id) t l] w):∀(n:Nat) {d:AV} {v:Value},Rel A w (d.sub ρ) v->Rel (λb=>A b\/b∈bC [.row (ρ.v id) t l]) w ((p7 id t l n d).sub ρ) v
 |0,d,v,h=>h.mono λb _ hA=>⟨.inl hA,rfl⟩
 |n+1,d,v,h=>by
  have hL:∀{cs:af AV} {us:af Value},bN A w (cs.map (b7.sub ρ)) us->bN (λb=>A b\/b∈bC [.row (ρ.v id) t l]) w ((cs.map (p7 id t l n)).map (b7.sub ρ)) us:=λ{cs us} h=>by
   refine⟨by simpa using h.1,λj a v h1 h2=> ?_⟩;rw[yt,ye]at h1;obtain⟨c,hc,rfl⟩:=zn.1 h1;exact IK hd n (h.2 j _ v (by rw[ye,hc];rfl) h2)
  unfold p7;split
  ·omega
  ·rename_i cs h0;cases h0;rw[fm]at h ⊢;obtain⟨us,rfl,h2⟩:=h.pY;exact Rel.qA (hL h2)
  ·rename_i cs h0;cases h0;rw[lQ]at h ⊢;obtain⟨us,rfl,h2⟩:=h.Tz;exact Rel.Jg (hL h2)
  ·rename_i f cs h0;cases h0;rw[uF]at h ⊢;obtain⟨us,rfl,h2⟩:=h.ab5;exact .fn f _ us (hL h2).1 (hL h2).2
  ·rename_i h0 _ _ _;exact abh hd h
section
variable {α β:Type} (D:α->aa β)
def ad5{b:BinOp}{k:IntKind}{m n:Int}{K:AV->aa α}:(adY b k m n K).bind D=adY b k m n (λd=>(K d).bind D):=by
 unfold adY;cases b<;>first|rfl|(dsimp only;split<;>rfl)
def agY{P:Program}{b:BinOp}{T:TypeId}{cs ds:af AV}{K:AV->aa α}:(eqS P b T cs ds K).bind D=eqS P b T cs ds (λd=>(K d).bind D):=by
 unfold eqS;split
 ·split
  ·cases b<;>first|rfl|exact z6 ..
  ·rfl
 ·rfl
def QC{P:Program}{rd:Nat->aa IR}{b:BinOp}{T:TypeId}{x y:aa AV}{K:AV->aa α}:(P9 P rd b T x y K).bind D=P9 P rd b T x y (λd=>(K d).bind D):=by
 unfold P9
 repeat' split
 all_goals first|rfl|exact ad5 D|exact agY D|simp_all
def Wa{b:UnOp}{x:aa AV}{K:AV->aa α}:(unV b x K).bind D=unV b x (λd=>(K d).bind D):=by
 unfold unV
 repeat' split
 all_goals first|rfl|simp_all
def P3{x:aa AV}{K:AV->aa α}:(UR x K).bind D=UR x (λd=>(K d).bind D):=by
 unfold UR
 repeat' split
 all_goals first|rfl|simp_all
def Q9{P:Program}{T:TypeId}{i:Nat}{x:aa AV}{K:AV->aa α}:(Sc P T i x K).bind D=Sc P T i x (λd=>(K d).bind D):=by
 unfold Sc
 repeat' split
 all_goals first|rfl|simp_all
def PA{P:Program}{rd:Nat->aa IR}{T:TypeId}{x y:aa AV}{K:AV->aa α}:(Sj P rd T x y K).bind D=Sj P rd T x y (λd=>(K d).bind D):=by
 unfold Sj
 repeat' split
 all_goals first|rfl|simp_all
def XK{P:Program}{rd:Nat->aa IR}{T:TypeId}{x:aa AV}{K:AV->aa α}:(ldV P rd T x K).bind D=ldV P rd T x (λd=>(K d).bind D):=by
 unfold ldV
 repeat' split
 all_goals first|rfl|exact z6 .. |simp_all
def ac6{P:Program}{ev:Operand->aa AV}{rd:Nat->aa IR}{T:TypeId}{ps:af (Nat×Operand)}{K:AV->aa α}:(Uh P ev rd T ps K).bind D=Uh P ev rd T ps (λd=>(K d).bind D):=by
 unfold Uh
 repeat' split
 all_goals first|rfl|exact z6 .. |simp_all
def Qh{P:Program}{rd:Nat->aa IR}{T T':TypeId}{x:aa AV}{K:AV->aa α}:(Uw P rd T T' x K).bind D=Uw P rd T T' x (λd=>(K d).bind D):=by
 unfold Uw
 repeat' split
 all_goals first|rfl|exact z6 .. |simp_all
def OW{i:Nat}{x:aa AV}{K:AV->aa α}:(TN i x K).bind D=TN i x (λd=>(K d).bind D):=by
 unfold TN
 repeat' split
 all_goals first|rfl|exact z6 .. |simp_all
def ad4{ev:Operand->aa AV}{f:Go.Fn}{fs cs:af Operand}{K:AV->aa α}:(SB ev f fs cs K).bind D=SB ev f fs cs (λd=>(K d).bind D):=by
 unfold SB
 repeat' split
 all_goals first|rfl|exact z6 .. |simp_all
def OV{P:Program}{T:TypeId}{x y:aa AV}{K:AV->aa α}:(TV P T x y K).bind D=TV P T x y (λd=>(K d).bind D):=by
 unfold TV
 repeat' split
 all_goals first|rfl|exact z6 .. |simp_all
def afI{P:Program}{T:TypeId}{x:aa AV}{lo hi:aa (aa AV)}{K:AV->aa α}:(TF P T x lo hi K).bind D=TF P T x lo hi (λd=>(K d).bind D):=by
 unfold TF
 repeat' split
 all_goals first|rfl|exact z6 .. |simp_all
def OH{P:Program}{rd:Nat->aa IR}{T:TypeId}{x:aa AV}{K:AV->aa α}:(Uq P rd T x K).bind D=Uq P rd T x (λd=>(K d).bind D):=by
 unfold Uq
 repeat' split
 all_goals first|rfl|exact z6 .. |simp_all
def afY{P:Program}{nx:Nat}{T:TypeId}{K:gq->aa α}:(Z1 P nx T K).bind D=Z1 P nx T (λd=>(K d).bind D):=by
 unfold Z1;exact z6 ..
def acP{rd:Nat->aa IR}{nx:Nat}{T:TypeId}{x:aa AV}{K:gq->aa α}:(Ui rd nx T x K).bind D=Ui rd nx T x (λd=>(K d).bind D):=by
 unfold Ui
 repeat' split
 all_goals first|rfl|exact z6 .. |simp_all
def ae9{P:Program}{rd:Nat->aa IR}{T:TypeId}{x y:aa AV}{K:gq->aa α}:(UN P rd T x y K).bind D=UN P rd T x y (λd=>(K d).bind D):=by
 unfold UN
 repeat' split
 all_goals first|rfl|exact z6 .. |simp_all
def abc{P:Program}{rd:Nat->aa IR}{R:bt}{nx:Nat}{T:TypeId}{x y:aa AV}{K:gq->aa α}:(UL P rd R nx T x y K).bind D=UL P rd R nx T x y (λd=>(K d).bind D):=by
 unfold UL;split
 ·split
  ·split
   ·split
    ·rw[z6]
     congr 1
     funext l
     rw[z6]
     congr 1
     funext l2
     split<;>rfl
    ·rfl
   ·rfl
  ·rfl
 ·rfl
def abU{P:Program}{ev:Operand->aa AV}{rd:Nat->aa IR}{nx:Nat}{T:TypeId}{n:Nat}{ps:af (Nat×Operand)}{K:gq->aa α}:(T3 P ev rd nx T n ps K).bind D=T3 P ev rd nx T n ps (λd=>(K d).bind D):=by
 unfold T3;split
 ·split
  ·split
   ·split<;>rfl
   ·split
    ·split
     ·rw[z6]
      congr 1
      funext cs
      split
      ·exact z6 ..
      ·rfl
     ·rfl
    ·rfl
  ·rfl
 ·rfl
def ajw{P:Program}{nx:Nat}{T:TypeId}{x y:aa AV}{K:gq->aa α}:(mkE P nx T x y K).bind D=mkE P nx T x y (λd=>(K d).bind D):=by
 unfold mkE;split
 ·split
  ·split
   ·rw[z6]
    congr 1
    funext d
    split<;>rfl
   ·rfl
  ·rfl
 ·rfl
def agU{P:Program}{nx:Nat}{T:TypeId}{x:aa AV}{K:gq->aa α}:(emE P nx T x K).bind D=emE P nx T x (λd=>(K d).bind D):=by
 unfold emE
 repeat' split
 all_goals first|rfl|simp_all
def afy{P:Program}{T:TypeId}{K:Nat->af Value->aa α}:(Zh P T K).bind D=Zh P T (λe zs=>(K e zs).bind D):=by
 unfold Zh
 repeat' split
 all_goals first|rfl|simp_all
def RC{P:Program}{rd:Nat->aa IR}{e:Nat}{zs:af Value}{T' T:TypeId}{y:aa AV}{K:af (U.de e)->aa α}:(Ug P rd e zs T' T y K).bind D=Ug P rd e zs T' T y (λd=>(K d).bind D):=by
 unfold Ug;split
 ·exact z6 ..
 ·split
  ·split
   ·rw[z6]
    congr 1
    funext d
    split<;>rfl
   ·rfl
  ·rfl
def af5{P:Program}{rd:Nat->aa IR}{nx:Nat}{T T':TypeId}{x y:aa AV}{K:gq->aa α}:(aaV P rd nx T T' x y K).bind D=aaV P rd nx T T' x y (λd=>(K d).bind D):=by
 unfold aaV;rw[afy]
 congr 1
 funext e zs
 split
 ·rw[RC]
  congr 1
  funext l2
  split<;>rfl
 ·split
  ·rw[z6]
   congr 1
   funext l
   rw[RC]
   congr 1
   funext l2
   split<;>rfl
  ·rfl
 ·rfl
def Fc{mx:Bool}{xs:af (aa AV)}{K:AV->aa α}:(mnV mx xs K).bind D=mnV mx xs (λd=>(K d).bind D):=by
 unfold mnV;split
 ·split
  ·cases mx<;>rfl
  ·rfl
 ·rfl
def dX(F:bu):Prop:=∀(α β:Type) f args R nx (k:AV->bt->Nat->aa α) (D:α->aa β),(F α f args R nx k).bind D=F β f args R nx (λd R nx=>(k d R nx).bind D)
structure bD (P:Program) (F:bu):Prop where
 ok:iQ P F
 nat:dX F
def afo{F:bu}(hF:dX F){ev:Operand->aa AV}{R:bt}{nx:Nat}{x:aa AV}{xs:af Operand}{K:gq->aa α}:(Vd F ev R nx x xs K).bind D=Vd F ev R nx x xs (λd=>(K d).bind D):=by
 unfold Vd;split
 ·rw[z6]
  congr 1
  funext as0
  exact hF ..
 ·rfl
def CM{F:bu}(hF:dX F)(o:Op)(P:Program)(ev:Operand->aa AV)(rd:Nat->aa IR)(R:bt)(nx:Nat)(K:gq->aa α):(qk o P F ev rd R nx K).bind D=qk o P F ev rd R nx (λe=>(K e).bind D):=by
 have hP:(λd=>(dQ K d).bind D)=dQ (λe=>(K e).bind D):=rfl;cases o<;>first|rfl|exact z6 .. |exact Wa D|exact Qh D|exact P3 D|exact Q9 D|exact PA D|exact OV D|exact XK D|exact ae9 D|exact ad4 D|exact OW D|exact ac6 D|exact abU D|exact ajw D|exact afY D|exact acP D|skip
 case pick c a b=>
  show (BG c a b P F ev rd R nx K).bind D=BG c a b P F ev rd R nx _;unfold BG;split
  ·exact z6 ..
  ·exact z6 ..
  ·rfl
 case binOp b T x y t=>exact QC D
 case slice T x lo hi mx=>
  show (Po T x lo hi mx P F ev rd R nx K).bind D=Po T x lo hi mx P F ev rd R nx _;unfold Po;split
  ·exact afI D
  ·split
   ·exact agU D
   ·rfl
  ·rfl
 case call c=>
  show (Gw c P F ev rd R nx K).bind D=Gw c P F ev rd R nx _;unfold Gw;split
  ·exact afo D hF
  ·unfold Gb;split
   ·split
    ·exact OH D
    ·rfl
   ·split
    ·exact Fc D
    ·rfl
   ·split
    ·exact Fc D
    ·rfl
   ·split
    ·exact af5 D
    ·rfl
   ·split
    ·exact abc D
    ·rfl
   ·rfl
  ·rfl
end
end Go.Iv
end
noncomputable section
namespace Go.Iv
variable [U:EU]
open Go Go.RowKit Go.Shelf Go.Proofs
section
variable {P:Program} {C:Cx} {n:Nat} {c x y:Code} {Q Q':Exit->Env->af cc->Prop} {E E':Env} {σ σ':af cc}
end
def Vw.box{σ:af cc}{b:Nat}{T:TypeId}{cs:af AV}(i:Nat)(hσ:σ[i]? =V (.box b T cs)):Vw σ (.lit (.pointer (V ⟨b,0,G⟩))) (.fp cs):=λA w v hd hr=>by
 have hv:=hr.cL;subst hv;have hm:=List.mem_of_getElem? hσ;obtain⟨us,h1,h2⟩:=hd.1 _ hm;exact .fp cs b 0 us h1.lt (.inr (bQ.2 ⟨_,hm,rfl⟩)) h2.1 (λj v hj=>by rw[yj];exact h1.cell (by simpa using hj)) (λj a v q1 q2=>(h2.2 j a v q1 q2).mono λb _ hA=>⟨.inl hA,rfl⟩)
end Go.Iv
end
noncomputable section
namespace Go.Iv
variable [U:EU] [L:Ec]
open Go Go.RowKit
def rB{id t m:Nat}{l:af (U.de t)}:∀(n:Nat) {d:AV},cV m d->cV m (p7 id t l n d)
 |0,d,h=>h
 |n+1,d,h=>by
  have hL:∀{cs:af AV},(∀c∈cs,cV m c)->∀c∈cs.map (p7 id t l n),cV m c:=λh c hc=>by
   obtain⟨c',h1,rfl⟩:=zM.1 hc;exact rB n (h c' h1)
  unfold p7;split
  ·omega
  ·rename_i h0;cases h0;exact .agg _ (hL h.qA)
  ·rename_i h0;cases h0;exact .jo _ (hL h.Jg)
  ·rename_i h0;cases h0;exact .fn _ _ (hL h.fnL)
  ·unfold Zq;split
   ·split
    ·exact .sl _ _
    ·exact h
   ·exact h
def gX{f:AV->AV}(t:Nat):∀(E:Env),Env.get (E.map λp=>(p.1,f p.2)) t=(E.get t).map f
 |[]=>rfl
 |(k,v)::E=>by
  show Env.get ((k,f v)::E.map λp=>(p.1,f p.2)) t=_;unfold Env.get;cases hb:zc k t with
  |true=>rfl
  |false=>exact gX t E
section
variable {α:Type} {r:α} {P:Program} {F:bu} {o:Oper} {C:Cg} {n:Nat} {s:St} {a:Act} {w:World}
def Mt.N6(h:Mt C n s a w)(id:Nat):Mt C n (s.N6 id) a w:=by
 unfold St.N6;split
 case h_2=>exact h
 rename_i t l hr;obtain⟨E,hh,hE,hR,ρ,hag,hsim⟩:=h;obtain⟨i,hi1,_,hi3⟩:=eR hr;have hres:=iG (ρ:=ρ) hi1;have hg:=hsim.good;have hd:Hd (al C.C (bt.res ρ s.R)) [.row (ρ.v id) t l] w:=⟨λr hr=>by
   rw[zo]at hr;rw[hr];exact hg.res _ (List.mem_of_getElem? hres),λb hb hA=>hA.2 (by
   obtain⟨r,h1,h2⟩:=bQ.1 hb;rw[zo]at h1;rw[h1]at h2;exact bQ.2 ⟨_,List.mem_of_getElem? hres,h2⟩)⟩
 have hle:=Ri (C:=C.C) hres hg;have hbk:bC (bt.res ρ ((lH id s.R).map λp=>(p.1,Ao id t l p.2)))=bC ((bt.res ρ s.R).eraseIdx i):=by
  rw[<-CV,<-hi3];unfold bC bt.res;rw[yt,List.filterMap_map,List.filterMap_map]
  congr 1
  funext p
  obtain⟨q,rr⟩:=p;cases rr<;>rfl
 have hal:∀b,(al C.C (bt.res ρ s.R) b\/b∈bC [cc.row (ρ.v id) t l])->al C.C (bt.res ρ ((lH id s.R).map λp=>(p.1,Ao id t l p.2))) b:=λb hb=>by
  have:=hle b hb;exact⟨this.1,by rw[hbk];exact this.2⟩
 have hrel:∀{d:AV} {v:Value},Rel (al C.C (bt.res ρ s.R)) w (d.sub ρ) v->Rel (al C.C (bt.res ρ ((lH id s.R).map λp=>(p.1,Ao id t l p.2)))) w ((p7 id t l 3 d).sub ρ) v:=λh=>
  (IK hd 3 h).mono λb _ hA=>⟨hal b hA,rfl⟩
 refine⟨E.map λp=>(p.1,p7 id t l 3 p.2),λk d hk=> ?_,λp hp=> ?_,λp hp=> ?_,ρ,hag,hsim.defers.step (λb _ hA=>⟨hal b (.inl hA),rfl⟩),hsim.size,λk av hk=> ?_,⟨hg.kept,λrr hrr=> ?_,?_,λb hb=> ?_⟩⟩
 ·have hk':cU (emap (p7 id t l 3) s.E) k=V d:=hk;rw[BI]at hk';obtain⟨d',h1,rfl⟩:=zn.1 hk';rw[gX,hh k d' h1];rfl
 ·obtain⟨p',h1,rfl⟩:=zM.1 hp;exact rB 3 (hE p' h1)
 ·obtain⟨p',h1,rfl⟩:=zM.1 hp;have h2:=H7 (id:=id) hR p' h1;refine⟨h2.1,?_⟩;obtain⟨q,rr⟩:=p';cases rr with
  |row t' l'=>trivial
  |box T cs=>
   intro c hc;obtain⟨c',h3,rfl⟩:=zM.1 hc;exact rB 3 (h2.2 c' h3)
 ·rw[Env.fo,gX]at hk;obtain⟨d',h1,rfl⟩:=zn.1 hk;obtain⟨d,h2,rfl⟩:=zn.1 h1;obtain⟨v,h3,h4⟩:=hsim.slots k (d.sub ρ) (by rw[Env.fo,h2];rfl);exact⟨v,h3,hrel h4⟩
 ·obtain⟨p,h1,rfl⟩:=zM.1 hrr;obtain⟨p',h2,rfl⟩:=zM.1 h1;have hm:p'.2.res ρ p'.1∈bt.res ρ s.R:=by
   rw[hi3]at h2;exact zM.2 ⟨p',List.mem_of_mem_eraseIdx h2,rfl⟩
  have h3:=hg.res _ hm;obtain⟨q,rr⟩:=p';cases rr with
  |row t' l'=>exact h3.mono (λb _ hA=>⟨hal b (.inl hA),rfl⟩) (λ_ _=>rfl)
  |box T cs=>
   obtain⟨us,h4,h5⟩:=h3;refine⟨us,h4,by simpa using h5.1,λj av v q1 q2=> ?_⟩;rw[yt,ye]at q1;obtain⟨c,hc,rfl⟩:=zn.1 q1;exact hrel (h5.2 j (c.sub ρ) v (by rw[ye,hc];rfl) q2)
 ·rw[hbk];exact hg.Ju.sublist ((wT _ _).filterMap _)
 ·rw[hbk]at hb;exact hg.own b (rO (λr hr=>(wT _ _).subset hr) b hb)
def St.kW(s:St)(ids:af Nat):St:=match ids with
 |[]=>s
 |i::is=>(s.N6 i).kW is
def Mt.kW:∀(ids:af Nat) {s:St},Mt C n s a w->Mt C n (s.kW ids) a w
 |[],_,h=>h
 |i::is,_,h=>Mt.kW is (h.N6 i)
def asR:AV->af Nat
 | .own id=>[id]
 | .agg cs=>cs.filterMap λc=>match c with
  | .own id=>V id
  |_=>G
 |_=>[]
def acn(E:ET)(x:Operand):af Nat:=match LQ E x with
 |some d=>asR d
 |none=>[]
def jm(E:ET):Op->af Nat
 | .buildSlice _ _ ps=>ps.toList.flatMap λp=>acn E p.2
 | .store T x v=>match L.fz (Nat.add 1000000 T)with
  |true=>acn E v
  |false=>match LQ E x with
   |some (.ra _ _ _ _)=>acn E v
   |_=>[]
 | .slice _ x _ _ G=>acn E x
 | .call c=>match c.callee with
  | .value (.func f)=>match L.fz f with
   |true=>c.args.toList.flatMap (acn E)
   |false=>[]
  |_=>[]
 |_=>[]
def St.gi(s:St)(t:Nat)(b:Bool):St:={s with E:=nI t (.b b) s.E}
def Mt.gi{t:Nat}{b:Bool}(h:Mt C n s a w)(ht:cU s.E t=V (.lit (.bool b))):Mt C n (s.gi t b) a w:=by
 obtain⟨E,hh,hE,hR,ρ,hag,hsim⟩:=h;refine⟨E,λk d hk=> ?_,hE,hR,ρ,hag,hsim⟩;have hk':cU (nI t (.b b) s.E) k=V d:=hk;rcases sL hk' with ⟨rfl,rfl⟩|⟨_,h2⟩
 ·exact hh _ _ ht
 ·exact hh k d h2
def gate(ops:Array Oper)(o:Oper)(s:St)(yes no:St->aa α):aa α:=match o.guard with
 |none=>yes s
 |some (j,want)=>match (ops[j]?).bind (·.dst)with
  |none=>G
  |some t=>match cU s.E t with
   |some (.lit (.bool b))=>match b with
    |true=>match want with
     |true=>yes (s.gi t J)
     |false=>no (s.gi t J)
    |false=>match want with
     |true=>no (s.gi t O)
     |false=>yes (s.gi t O)
   |some (.lit (.tuple _))=>no s
   |_=>G
def Jz{ops:Array Oper}{j t:Nat}{want:Bool}{ρ:Gh}(hg:o.guard=V (j,want))(hj:(ops[j]?).bind (·.dst)=V t){E:Env}:
  (∀b,E.get t=V (.lit (.bool b))->qK (E.sub ρ) o ops=V (b==want))/\(∀vs,E.get t=V (.lit (.tuple vs))->qK (E.sub ρ) o ops=V O):=by
 constructor
 ·intro b hb;unfold qK;rw[hg];simp only[hj,Env.fo,hb,yI,bV]
 ·intro vs hb;unfold qK;rw[hg];simp only[hj,Env.fo,hb,yI,bV]
def amH{ops:Array Oper}{yes no:St->aa α}(h:gate ops o s yes no=V r)(hm:Mt C n s a w):∃s',Mt C n s' a w/\
  ((Region.wanted o (yielded ops a.tmps)=J/\yes s'=V r)\/(Region.wanted o (yielded ops a.tmps)=O/\no s'=V r)):=by
 unfold gate at h;split at h
 ·rename_i hg;exact⟨s,hm, .inl ⟨by simp[Region.wanted,hg],h⟩⟩
 ·rename_i j want hg;split at h
  ·cases h
  ·rename_i t hj;have hspec:∀{s':St},Mt C n s' a w->(∀b,cU s'.E t=V (.lit (.bool b))->Region.wanted o (yielded ops a.tmps)=(b==want))/\(∀vs,cU s'.E t=V (.lit (.tuple vs))->Region.wanted o (yielded ops a.tmps)=O):=λ{s'} hm'=>by
    obtain⟨E,hh,_,_,ρ,_,hsim⟩:=hm';obtain⟨h1,h2⟩:=Jz (ρ:=ρ) hg hj (E:=E);exact⟨λb hb=>qK.spec hsim.slots (h1 b (hh _ _ hb)),λvs hv=>qK.spec hsim.slots (h2 vs (hh _ _ hv))⟩
   split at h
   ·rename_i b hb;have hw:=(hspec hm).1 b hb;split at h
    ·split at h
     ·exact⟨_,hm.gi hb, .inl ⟨hw,h⟩⟩
     ·exact⟨_,hm.gi hb, .inr ⟨hw,h⟩⟩
    ·split at h
     ·exact⟨_,hm.gi hb, .inr ⟨hw,h⟩⟩
     ·exact⟨_,hm.gi hb, .inl ⟨hw,h⟩⟩
   ·rename_i vs hb;exact⟨s,hm, .inr ⟨(hspec hm).2 vs hb,h⟩⟩
   ·cases h
def Dz(o:Op)(s:St)(f:St->aa α):aa α:=match o with
 | .pick (.tmp t) _ _=>match cU s.E t with
  |some (.lit (.bool b))=>match b with
   |true=>f (s.gi t J)
   |false=>f (s.gi t O)
  |_=>G
 |_=>f s
def acE{op:Op}{f:St->aa α}(h:Dz op s f=V r)(hm:Mt C n s a w):∃s',Mt C n s' a w/\f s'=V r:=by
 unfold Dz at h;split at h
 ·split at h
  ·rename_i b hb;split at h
   ·exact⟨_,hm.gi hb,h⟩
   ·exact⟨_,hm.gi hb,h⟩
  ·cases h
 ·exact⟨s,hm,h⟩
def Ak(dst:aa Nat)(d:AV)(E:ET):ET:=match dst with
 |none=>E
 |some t=>nI t d E
def RF(dst:aa Nat)(E:ET)(R:bt)(nx:Nat)(ih:St->(St->aa α)->aa α)(k:St->aa α)(e:gq):aa α:=match e with
 | .val d=>ih ⟨Ak dst d E,R,nx⟩ k
 | .new d r=>ih ⟨Ak dst d E,(nx,r)::R,nx+1⟩ k
 | .set id r=>ih ⟨Ak dst (.lit undef) E,vP id r R,nx⟩ k
 | .grow id r=>ih ⟨Ak dst (.own nx) E,(nx,r)::lH id R,nx+1⟩ k
 | .all d R' m=>ih ⟨Ak dst d E,R',m⟩ k
def ahC(dst:aa Nat)(s:St)(ih:St->(St->aa α)->aa α)(k:St->aa α):RF dst s.E s.R s.nx ih k=λe=>ih (s.app dst e) k:=by
 funext e
 cases e<;>cases dst<;>rfl
def arM(P:Program)(F:bu)(o:Oper)(ih:St->(St->aa α)->aa α)(k:St->aa α)(s:St):aa α:=St.rec (λE R nx=>qk o.op P F (LQ E) (gH R) R nx (RF o.dst E R nx ih k)) s
def rDo(P:Program)(F:bu)(o:Oper)(ih:St->(St->aa α)->aa α)(k:St->aa α)(s:St):aa α:=arM P F o ih k (s.kW (jm s.E o.op))
abbrev OpK(α:Type):=Program->bu->aa Nat->ET->bt->Nat->(St->(St->aa α)->aa α)->(St->aa α)->aa α
abbrev StT(α:Type):=Program->bu->(Operand->aa AV)->(Nat->aa IR)->bt->Nat->(gq->aa α)->aa α
def Ki(f:StT α):OpK α:=λP F dst E R nx ih k=>f P F (LQ E) (gH R) R nx (RF dst E R nx ih k)
def stZ(ids:ET->af Nat)(f:StT α):OpK α:=λP F dst E R nx ih k=>St.rec (λE R nx=>f P F (LQ E) (gH R) R nx (RF dst E R nx ih k)) (St.kW ⟨E,R,nx⟩ (ids E))
def aFb(c a b:Operand):OpK α:=match c with
 | .tmp t=>λP F dst E R nx ih k=>match cU E t with
  |some (.lit (.bool v))=>match v with
   |true=>Ki (BG (.tmp t) a b) P F dst (nI t (.b J) E) R nx ih k
   |false=>Ki (BG (.tmp t) a b) P F dst (nI t (.b O) E) R nx ih k
  |_=>G
 |c=>Ki (BG c a b)
def opF(o:Op):OpK α:=match o with
 | .move x=>Ki (VZ x)
 | .assign x=>Ki (VZ x)
 | .pick c a b=>aFb c a b
 | .binOp b T x y _=>Ki (aoW b T x y)
 | .unOp b _ x=>Ki (ay7 b x)
 | .convert T T' x=>Ki (ape T T' x)
 | .nilCheck x=>Ki (ao6 x)
 | .fieldAddr T x i=>Ki (ap6 T x i)
 | .indexAddr T x y=>Ki (apc T x y)
 | .index T x y=>Ki (aqi T x y)
 | .load T x=>Ki (ayO T x)
 | .store T x y=>stZ (λE=>jm E (.store T x y)) (ap1 T x y)
 | .makeFunc f fs cs=>Ki (aoO f fs cs)
 | .extract x i=>Ki (aqr x i)
 | .build T ps=>Ki (aok T ps)
 | .buildSlice T n ps=>stZ (λE=>jm E (.buildSlice T n ps)) (apV T n ps)
 | .makeSlice T x y=>Ki (azG T x y)
 | .alloc T=>Ki (apB T)
 | .box T x=>Ki (aoS T x)
 | .slice T x lo hi mx=>stZ (λE=>jm E (.slice T x lo hi mx)) (Po T x lo hi mx)
 | .call c=>stZ (λE=>jm E (.call c)) (Gw c)
 |_=>Ki az6
def MR(P:Program)(F:bu)(o:Oper)(s:St)(ih:St->(St->aa α)->aa α)(k:St->aa α):opF o.op P F o.dst s.E s.R s.nx ih k=Dz o.op s (rDo P F o ih k):=by
 unfold rDo arM Dz;cases h:o.op<;>first|rfl|skip
 case pick c a b=>
  cases c<;>rfl
def aDH(P:Program)(F:bu)(o:Oper)(ih:St->(St->aa α)->aa α)(k:St->aa α)(s:St):aa α:=St.rec (λE R nx=>opF o.op P F o.dst E R nx ih k) s
def rNo(dst:aa Nat)(ih:St->(St->aa α)->aa α)(k:St->aa α)(s:St):aa α:=match dst with
 |some t=>ih {s with E:=nI t (.lit undef) s.E} k
 |none=>ih s k
def Oo(P:Program)(F:bu)(n:Nat)(ops:Array Oper)(o:Oper)(ih:St->(St->aa α)->aa α)(s:St)(k:St->aa α):aa α:=match Qp n o.dst with
 |true=>gate ops o s (aDH P F o ih k) (rNo o.dst ih k)
 |false=>G
def fu(P:Program)(F:bu)(n:Nat)(ops:Array Oper)(l:af Oper):St->(St->aa α)->aa α:=List.rec (λs k=>k s) (λo _ ih=>Oo P F n ops o ih) l
def Ii(hF:iQ P F){ops:Array Oper}{k:St->aa α}:∀(rest:af Oper) {s:St} {a:Act} {w:World},fu P F n ops rest s k=V r->Mt C n s a w->
  wpList P ops (λe a' w'=>e= .normal/\a'.defers=a.defers/\∃s',k s'=V r/\Mt C n s' a' w') rest a w
 |[],s,a,w,h,hm=>⟨rfl,rfl,s,h,hm⟩
 |o::rest,s,a,w,h,hm=>by
  change Oo P F n ops o (fu P F n ops rest) s k=V r at h;unfold Oo at h;split at h
  case h_2=>cases h
  rename_i hd;refine wpList_step λK' hK=> ?_;have cont:∀{s':St} {a':Act} {w':World},a'.defers=a.defers->fu P F n ops rest s' k=V r->Mt C n s' a' w'->K' a' w':=λ{s' a' w'} hda h1 h2=>hK _ _ (by
   have:=Ii hF rest h1 h2;rw[hda]at this;exact this)
  obtain⟨s1,hm1,⟨hw,h1⟩|⟨hw,h1⟩⟩:=amH h hm
  ·rw[bB hw];have h1':opF o.op P F o.dst s1.E s1.R s1.nx (fu P F n ops rest) k=V r:=h1;rw[MR]at h1';obtain⟨s2,hm2,h2⟩:=acE h1' hm1;unfold rDo at h2;have e2:∀s:St,arM P F o (fu P F n ops rest) k s=KW P F (LQ s.E) (gH s.R) s.R s.nx o.op (λe=>fu P F n ops rest (s.app o.dst e) k):=λs=>by
    show qk o.op P F (LQ s.E) (gH s.R) s.R s.nx (RF o.dst s.E s.R s.nx (fu P F n ops rest) k)=_;rw[Q3,ahC]
   rw[e2]at h2;have hm3:=Mt.kW (jm s2.E o.op) hm2;exact arz (K:=λe=>fu P F n ops rest ((s2.kW (jm s2.E o.op)).app o.dst e) k) (r:=r) hm3 hd (λE hs=>KA hF hs rfl h2) λa' w' e q1 q2 _ q4=>cont q1 q2 q4
  ·rw[bL (by rw[hw];exact Bool.false_ne_true)];cases hdst:o.dst with
   |none=>
    rw[hdst]at h1;exact cont rfl h1 hm1
   |some t=>
    rw[hdst]at h1 hd;obtain⟨E,hh,hE,hR,ρ,hag,hsim⟩:=hm1;exact cont rfl h1 ⟨(t, .lit undef)::E,hh.put t _,Env.AO hE (.lit _),hR,ρ,hag,by
     have:=hsim.put (av:= .lit undef) (v:=undef) hd (.lit _);show Ah C.C n ((t,b7.sub ρ (.lit undef))::E.sub ρ) _ _ _;rw[bV];exact this⟩
end
def InL(P:Program)(c:Code)(Q:Exit->Act->World->Prop)(a:Act)(w:World):Prop:=
 ∀(b:Frame) (k:af Item) (cs:af Frame),∃e a' w',Q e a' w'/\Arrives P (lone (b.at a (.inLoop c::k)) cs w) b k cs e a' w'
def Ks{P:Program}{c:Code}{Q:Exit->Act->World->Prop}{a:Act}{w:World}(h:c.wp P (Exit.then (InL P c Q) Q) a w)(b:Frame)(k:af Item)(cs:af Frame):
  ∃e a' w',Q e a' w'/\Arrives P (lone (b.at a (.code c:: .inLoop c::k)) cs w) b k cs e a' w':=by
 obtain⟨e,a₁,w₁,hq,harr⟩:=h b (.inLoop c::k) cs;cases e with
 |normal=>
  obtain⟨e₂,a₂,w₂,hq₂,harr₂⟩:=hq b k cs;exact⟨e₂,a₂,w₂,hq₂, .of_steps harr harr₂⟩
 |exit id=>exact⟨_,a₁,w₁,hq, .pass (x:= .inLoop c) rfl (λ_ _=> .inl (by simp)) harr⟩
 |goto l=>exact⟨_,a₁,w₁,hq, .pass (x:= .inLoop c) rfl (λ_ _=> .inl (by simp)) harr⟩
 |ret=>exact⟨_,a₁,w₁,hq, .pass (x:= .inLoop c) rfl (λ_ _=> .inl (by simp)) harr⟩
 |panic ch=>exact⟨_,a₁,w₁,hq, .pass (x:= .inLoop c) rfl (λ_ _=> .inl (by simp)) harr⟩
 |outgrown=>exact⟨_,a₁,w₁,hq, .pass (x:= .inLoop c) rfl (λ_ _=> .inl (by simp)) harr⟩
def JH{P:Program}{c:Code}{Q:Exit->Act->World->Prop}{a:Act}{w:World}(h:c.wp P (Exit.then (InL P c Q) Q) a w):(Code.loop c).wp P Q a w:=λb k cs=>
 let ⟨e,a',w',hq,harr⟩:=Ks h b k cs
 ⟨e,a',w',hq, .of_steps (.one step_loop) harr⟩
def Od{P:Program}{c:Code}{Q:Exit->Act->World->Prop}{a:Act}{w:World}(h:c.wp P (Exit.then (InL P c Q) Q) a w):InL P c Q a w:=λb k cs=>
 let ⟨e,a',w',hq,harr⟩:=Ks h b k cs
 ⟨e,a',w',hq, .of_steps (.one step_inLoop) harr⟩
section
variable {α:Type} {r:α} {P:Program} {F:bu} {C:Cx} {n:Nat}
abbrev gI(α:Type):=Exit->St->aa α
def RI(k:gI α)(ih:St->aa α):gI α:=λe s=>match e with
 | .normal=>ih s
 |e=>k e s
def Gk(b:St->gI α->aa α)(k:gI α)(m:Nat):St->aa α:=Nat.rec (λ_=>G) (λ_ ih s=>b s (RI k ih)) m
def agc(b:Bool)(t:Nat)(s:St)(x y:St->aa α):aa α:=match b with
 |true=>x (s.gi t J)
 |false=>y (s.gi t O)
def sA(c:Operand)(s:St)(x y:St->aa α):aa α:=match c with
 | .tmp t=>match cU s.E t with
  |some (.lit (.bool b))=>agc b t s x y
  |_=>G
 | .const (.bool J)=>x s
 | .const (.bool O)=>y s
 |_=>G
def alS(y:St->gI α->aa α)(k:gI α):gI α:=λe s=>match e with
 | .normal=>y s k
 |e=>k e s
def vT(id:Nat)(k:gI α):gI α:=λe s=>match e with
 | .exit i=>match zc i id with
  |true=>k .normal s
  |false=>k (.exit i) s
 |e=>k e s
def aeV(s:St)(k:gI α):aa α:=k .normal s
def aCZ(x y:St->gI α->aa α)(s:St)(k:gI α):aa α:=x s (alS y k)
def atw(c:Operand)(x y:St->gI α->aa α)(s:St)(k:gI α):aa α:=sA c s (λs=>x s k) (λs=>y s k)
def alW(id:Nat)(x:St->gI α->aa α)(s:St)(k:gI α):aa α:=x s (vT id k)
def adK(fuel:Nat)(x:St->gI α->aa α)(s:St)(k:gI α):aa α:=Gk x k fuel s
def adN(i:Nat)(s:St)(k:gI α):aa α:=k (.exit i) s
def aoE(s:St)(k:gI α):aa α:=k .ret s
def IT(_:St)(_:gI α):aa α:=G
def ae6(P:Program)(s:St):ResultVar->aa AV
 | .tmp t=>cU s.E t
 | .cell t ty=>match cU s.E t with
  |some (.ptr id 0)=>match gH s.R id with
   |some (.box _ cs)=>match ZY P ty with
    |true=>cs[0]?
    |false=>match VB P ty with
     |some m=>match zc (zY cs) m with
      |true=>V (.agg cs)
      |false=>G
     |none=>G
   |_=>G
  |_=>G
def I9(P:Program)(s:St):af ResultVar->aa (af AV)
 |[]=>V []
 |x::xs=>match ae6 P s x with
  |some d=>(I9 P s xs).map λds=>d::ds
  |none=>G
def fA:af AV->AV
 |[d]=>d
 |ds=> .jo ds
def kV:Nat->AV->af Nat
 |_, .own id=>[id]
 |_, .ptr id _=>[id]
 |_, .ra id _ _ _=>[id]
 |n+1, .agg cs=>cs.flatMap (kV n)
 |n+1, .jo cs=>cs.flatMap (kV n)
 |n+1, .fn _ cs=>cs.flatMap (kV n)
 |_,_=>[]
def dG(i:Nat):af Nat->Bool
 |[]=>O
 |j::js=>match zc i j with
  |true=>J
  |false=>dG i js
def aF9(R:bt)(ids:af Nat):af Nat:=ids.flatMap λi=>match gH R i with
 |some (.box _ cs)=>cs.flatMap (kV 3)
 |_=>[]
def reach(R:bt):Nat->af Nat->af Nat
 |0,ids=>ids
 |m+1,ids=>ids++reach R m (aF9 R ids)
def Qm(nx:Nat)(ids:af Nat)(R:bt):bt:=List.rec [] (λp R ih=>Bool.rec (Bool.rec ih (p::ih) (dG p.1 ids)) (p::R) (zA p.1 nx)) R
def uh(R:bt)(nx:Nat)(d:AV):bt:=Qm nx (reach R 3 (kV 3 d++zH nx)) R
def RJ(R:bt)(nx:Nat)(d:AV)(xs:af AV):bt:=Qm nx (reach R 3 (kV 3 d++xs.flatMap (kV 3))) R
def Pp(i:Nat)(l:af AV):ET->ET:=List.rec (λ_ T=>T) (λd _ ih i T=>ih (i+1) (nI i d T)) l i
end
end Go.Iv
end
noncomputable section
namespace Go.Iv
variable [U:EU]
open Go Go.RowKit
abbrev Fr:Type:=Nat->aa AV
structure Rc where
 dst:Option Nat
 v:AV
 (sl rd wr:List Nat)
 ef:Bool
 Lo:bt
def iO(rd:af Nat)(R:bt):bt:=R.filter λp=> !dG p.1 rd
def cC(rd:af Nat)(R:bt):bt:=R.filter λp=>dG p.1 rd
def Rc.F(c:Rc)(f:Fr):Fr:=λt=>if c.dst=V t then V c.v else f t
def Rc.R(c:Rc)(R:bt):bt:=match c.ef with
 |true=>c.Lo++iO c.wr R
 |false=>R
def hU:af Rc->af Bool->Fr->Fr
 |c::cs,b::bs,f=>hU cs bs (match b with|J=>c.F f|O=>f)
 |_,_,f=>f
def iq:af Rc->af Bool->bt->bt
 |c::cs,b::bs,R=>iq cs bs (match b with|J=>c.R R|O=>R)
 |_,_,R=>R
def fT{i:Nat}:∀{l:af Nat},dG i l=J↔i∈l
 |[]=>by simp[dG]
 |j::js=>by
  unfold dG;cases h:zc i j with
  |true=>have:=gZ h;subst this;simp
  |false=>
   have hne:i≠j:=λe=>by rw[e,Nat.beq_refl]at h;cases h
   simp only[zx,hne,false_or];exact fT
def jM{i:Nat}{l:af Nat}:dG i l=O↔i∉l:=by
 cases h:dG i l with
 |true=>simp[fT.1 h]
 |false=>simp only[true_iff];exact λhm=>by rw[fT.2 hm]at h;cases h
structure CF (c d:Rc):Prop where
 ds:∀t,c.dst=V t->t∉d.sl/\d.dst≠V t
 sd:∀t,d.dst=V t->t∉c.sl
 rc:c.ef=J->(∀i∈c.wr,i∉d.rd)/\(∀p∈c.Lo,p.1∉d.rd)/\∀p∈c.Lo,p.1∉d.wr
 rd:d.ef=J->(∀i∈d.wr,i∉c.rd)/\(∀p∈d.Lo,p.1∉c.rd)/\∀p∈d.Lo,p.1∉c.wr
def CF.symm{c d:Rc}(h:CF c d):CF d c:=⟨λt ht=>⟨h.sd t ht,λe=>(h.ds t e).2 ht⟩,λt ht=>(h.ds t ht).1,h.rd,h.rc⟩
def aEC{c i:Rc}(h:CF c i)(R:bt):cC i.rd (c.R R)=cC i.rd R:=by
 unfold Rc.R;cases he:c.ef with
 |false=>rfl
 |true=>
  obtain⟨h1,h2,_⟩:=h.rc he;simp only[cC,iO,xh,wj];have e1:c.Lo.filter (λp=>dG p.1 i.rd)=[]:=wU.2 λp hp=>by simp[jM.2 (h2 p hp)]
  rw[e1,yB];refine wL λp _=> ?_;cases hm:dG p.1 i.rd with
  |false=>rfl
  |true=>
   have:dG p.1 c.wr=O:=jM.2 λhc=>h1 _ hc (fT.1 hm);rw[this];rfl
def aE2{c i:Rc}(h:CF c i)(f:Fr){t:Nat}(ht:t∈i.sl):c.F f t=f t:=by
 unfold Rc.F;split
 ·rename_i hd;exact dS ht (h.ds t hd).1
 ·rfl
def ane{c:Rc}{rd:af Nat}{R R':bt}(h:cC rd R=cC rd R'):cC rd (c.R R)=cC rd (c.R R'):=by
 unfold Rc.R;cases c.ef with
 |false=>exact h
 |true=>
  simp only[cC,iO,xh,wj]at h ⊢
  congr 1
  have e:∀R:bt,R.filter (λp=>dG p.1 rd&& !dG p.1 c.wr)=(R.filter λp=>dG p.1 rd).filter λp=> !dG p.1 c.wr:=λR=>by
   rw[wj];exact wL λp _=>Bool.and_comm ..
  rw[e,e,h]
def M0{i:Rc}:∀(cs:af Rc) (bs bs':af Bool) (f f':Fr) (R R':bt),zY bs=zY cs->zY bs'=zY cs->
  (∀(j:Nat) c b b',cs[j]? =V c->bs[j]? =V b->bs'[j]? =V b'->b=b'\/CF c i)->
  (∀t∈i.sl,f t=f' t)->cC i.rd R=cC i.rd R'->(∀t∈i.sl,hU cs bs f t=hU cs bs' f' t)/\cC i.rd (iq cs bs R)=cC i.rd (iq cs bs' R')
 |[],_,_,f,f',R,R',_,_,_,h1,h2=>⟨by simpa [hU]using h1,by simpa [iq]using h2⟩
 |c::cs,[],_,_,_,_,_,hl,_,_,_,_=>by cases hl
 |c::cs,_::_,[],_,_,_,_,_,hl,_,_,_=>by cases hl
 |c::cs,b::bs,b'::bs',f,f',R,R',hl,hl',hb,h1,h2=>by
  have h0:=hb 0 c b b' rfl rfl rfl;have hrec:=λf f' R R'=>M0 (i:=i) cs bs bs' f f' R R' (by simpa using hl) (by simpa using hl') (λj c b b' q1 q2 q3=>hb (j+1) c b b' q1 q2 q3);unfold hU iq;refine hrec _ _ _ _ ?_ ?_
  ·intro t ht;rcases h0 with rfl|hcf
   ·cases b with
    |false=>exact h1 t ht
    |true=>show c.F f t=c.F f' t;unfold Rc.F;split<;>first|rfl|exact h1 t ht
   ·cases b<;>cases b'<;>simp only[aE2 hcf _ ht]<;>exact h1 t ht
  ·rcases h0 with rfl|hcf
   ·cases b with
    |false=>exact h2
    |true=>exact ane h2
   ·cases b<;>cases b'<;>simp only[aEC hcf]<;>exact h2
def avs{c d:Rc}(h:CF c d)(f:Fr):c.F (d.F f)=d.F (c.F f):=by
 funext t
 unfold Rc.F;by_cases h1:c.dst=V t
 ·rw[bB h1,bL (h.ds t h1).2,bB h1]
 ·by_cases h2:d.dst=V t
  ·rw[bL h1,bB h2,bB h2]
  ·rw[bL h1,bL h2,bL h2,bL h1]
def atn{c:Rc}{R R':bt}(h:List.Perm R R'):List.Perm (c.R R) (c.R R'):=by
 unfold Rc.R;cases c.ef with
 |false=>exact h
 |true=>exact(h.filter _).append_left _
def avN{c d:Rc}(h:CF c d)(R:bt):List.Perm (c.R (d.R R)) (d.R (c.R R)):=by
 unfold Rc.R;cases hc:c.ef with
 |false=>cases d.ef<;>exact .refl _
 |true=>
  cases hd:d.ef with
  |false=>exact .refl _
  |true=>
   obtain⟨h1,_,h2⟩:=h.rc hc;obtain⟨h3,_,h4⟩:=h.rd hd;simp only[iO,xh,wj];have e1:d.Lo.filter (λp=> !dG p.1 c.wr)=d.Lo:=wV.2 λp hp=>by simp[jM.2 (h4 p hp)]
   have e2:c.Lo.filter (λp=> !dG p.1 d.wr)=c.Lo:=wV.2 λp hp=>by simp[jM.2 (h2 p hp)]
   rw[e1,e2,<-yS,<-yS];refine(List.perm_append_comm).append ?_;rw[show (R.filter λa=> !dG a.1 c.wr&& !dG a.1 d.wr)=R.filter λa=> !dG a.1 d.wr&& !dG a.1 c.wr from wL λp _=>Bool.and_comm ..]
def late{i:Rc}:∀(cs:af Rc) (bs:af Bool) (f:Fr) (R R':bt),(∀(j:Nat) c,cs[j]? =V c->bs[j]? =V J->CF i c)->List.Perm R' (i.R R)->
  i.F (hU cs bs f)=hU cs bs (i.F f)/\List.Perm (i.R (iq cs bs R)) (iq cs bs R')
 |[],_,f,R,R',_,hp=>⟨rfl,hp.symm⟩
 |_::_,[],f,R,R',_,hp=>⟨rfl,hp.symm⟩
 |c::cs,b::bs,f,R,R',hb,hp=>by
  unfold hU iq;cases b with
  |false=>exact late cs bs f R R' (λj c q1 q2=>hb (j+1) c q1 q2) hp
  |true=>
   have hcf:=hb 0 c rfl rfl;have h1:=late cs bs (c.F f) (c.R R) (c.R R') (λj c q1 q2=>hb (j+1) c q1 q2) ((atn hp).trans (avN hcf.symm R));refine⟨?_,h1.2⟩;rw[h1.1,avs hcf]
def He:∀(pre:af Rc) (bp:af Bool) (cs:af Rc) (bs:af Bool) (f:Fr),zY bp=zY pre->hU (pre++cs) (bp++bs) f=hU cs bs (hU pre bp f)
 |[],[],_,_,_,_=>rfl
 |_::_,[],_,_,_,h=>by cases h
 |[],_::_,_,_,_,h=>by cases h
 |c::pre,b::bp,cs,bs,f,h=>by
  show hU (pre++cs) (bp++bs) _=_;rw[He pre bp cs bs _ (by simpa using h)];rfl
def F3:∀(pre:af Rc) (bp:af Bool) (cs:af Rc) (bs:af Bool) (R:bt),zY bp=zY pre->iq (pre++cs) (bp++bs) R=iq cs bs (iq pre bp R)
 |[],[],_,_,_,_=>rfl
 |_::_,[],_,_,_,h=>by cases h
 |[],_::_,_,_,_,h=>by cases h
 |c::pre,b::bp,cs,bs,R,h=>by
  show iq (pre++cs) (bp++bs) _=_;rw[F3 pre bp cs bs _ (by simpa using h)];rfl
def ae4{cs:af Rc}{bs:af Bool}{i:Nat}{c:Rc}(f:Fr)(R:bt)(hl:zY bs=zY cs)(hc:cs[i]? =V c)(hb:bs[i]? =V O)
  (hpre:∀(j:Nat) d,j<i->cs[j]? =V d->bs[j]? =V O->CF d c) (hpost:∀(j:Nat) d,i<j->cs[j]? =V d->bs[j]? =V J->CF d c):
  (∀t∈c.sl,hU cs bs f t=hU (cs.take i) (zf i J) f t)/\cC c.rd (iq cs bs R)=cC c.rd (iq (cs.take i) (zf i J) R)/\
  c.F (hU cs bs f)=hU cs (bs.set i J) f/\List.Perm (c.R (iq cs bs R)) (iq cs (bs.set i J) R):=by
 have hi:i<zY cs:=(z7.1 hc).1;have hib:i<zY bs:=au;have ec:cs=cs.take i++c::cs.drop (i+1):=by
  rw[<-(z7.1 hc).2,<-yQ hi,xA]
 have eb:bs=bs.take i++O::bs.drop (i+1):=by
  rw[<-(z7.1 hb).2,<-yQ hib,xA]
 have lp:zY (bs.take i)=zY (cs.take i):=by rw[zD,zD];omega
 have eb2:bs.set i J=bs.take i++J::bs.drop (i+1):=by
  rw[wR,bB hib]
 have hF:hU cs bs f=hU (cs.drop (i+1)) (bs.drop (i+1)) (hU (cs.take i) (bs.take i) f):=by
  conv=>lhs;rw[ec,eb]
  rw[He _ _ _ _ _ lp];rfl
 have hR:iq cs bs R=iq (cs.drop (i+1)) (bs.drop (i+1)) (iq (cs.take i) (bs.take i) R):=by
  conv=>lhs;rw[ec,eb]
  rw[F3 _ _ _ _ _ lp];rfl
 have hF2:hU cs (bs.set i J) f=hU (cs.drop (i+1)) (bs.drop (i+1)) (c.F (hU (cs.take i) (bs.take i) f)):=by
  rw[eb2]
  conv=>lhs;rw[ec]
  rw[He _ _ _ _ _ lp];rfl
 have hR2:iq cs (bs.set i J) R=iq (cs.drop (i+1)) (bs.drop (i+1)) (c.R (iq (cs.take i) (bs.take i) R)):=by
  rw[eb2]
  conv=>lhs;rw[ec]
  rw[F3 _ _ _ _ _ lp];rfl
 have hpo:∀(j:Nat) d,(cs.drop (i+1))[j]? =V d->(bs.drop (i+1))[j]? =V J->CF d c:=λj d q1 q2=>by
  rw[yG]at q1 q2;exact hpost (i+1+j) d au q1 q2
 have v2:=M0 (i:=c) (cs.drop (i+1)) (bs.drop (i+1)) (zf (zY cs-(i+1)) O) (hU (cs.take i) (bs.take i) f) (hU (cs.take i) (bs.take i) f) (iq (cs.take i) (bs.take i) R) (iq (cs.take i) (bs.take i) R)
  (by rw[zV,zV];omega) (by rw[y5,zV]) (λj d b b' q1 q2 q3=>by
   cases b with
   |true=>exact .inr (hpo j d q1 q2)
   |false=>
    rw[wW]at q3;split at q3
    ·cases q3;exact .inl rfl
    ·cases q3) (λt _=>rfl) rfl
 have none_F:∀(cs:af Rc) (n:Nat) (f:Fr),hU cs (zf n O) f=f:=λcs=>by
  induction cs with
  |nil=>intro n f;rfl
  |cons d cs ih=>
   intro n f;cases n with
   |zero=>rfl
   |succ n=>rw[yP];exact ih n f
 have none_R:∀(cs:af Rc) (n:Nat) (R:bt),iq cs (zf n O) R=R:=λcs=>by
  induction cs with
  |nil=>intro n f;rfl
  |cons d cs ih=>
   intro n f;cases n with
   |zero=>rfl
   |succ n=>rw[yP];exact ih n f
 have v1:=M0 (i:=c) (cs.take i) (bs.take i) (zf i J) f f R R lp (by rw[y5,zD];omega) (λj d b b' q1 q2 q3=>by
   rw[yF]at q1 q2;rw[wW]at q3;split at q1
   ·rename_i hji;rw[bB hji]at q2 q3;cases q3;cases b with
    |true=>exact .inl rfl
    |false=>exact .inr (hpre j d hji q1 q2)
   ·cases q1) (λt _=>rfl) rfl
 refine⟨λt ht=> ?_,?_,?_,?_⟩
 ·rw[hF,v2.1 t ht,none_F,v1.1 t ht]
 ·rw[hR,v2.2,none_R,v1.2]
 ·rw[hF,hF2];exact(late (i:=c) _ _ _ (iq (cs.take i) (bs.take i) R) _ (λj d q1 q2=>(hpo j d q1 q2).symm) (.refl _)).1
 ·rw[hR,hR2];exact(late (i:=c) _ _ (hU (cs.take i) (bs.take i) f) _ _ (λj d q1 q2=>(hpo j d q1 q2).symm) (.refl _)).2
end Go.Iv
end
