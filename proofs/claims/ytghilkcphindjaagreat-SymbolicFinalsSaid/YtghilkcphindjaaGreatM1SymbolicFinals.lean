/- Merged: Izo, Iv1, Iv2, Iv3, Iv4, Iv5, Iw1, Iv6, Iv10, Iv8, Ivr, Iw0, Iw2, Iw3, Ivc, Iw4. -/
import Derived.KernelRfl
import Derived.WalkKit
import Derived.OrdersHeld
import Derived.Maps.AppendAt
import Derived.WalkLawsBesides
import Derived.Laws.Tables
import Derived.Laws.PanicsMore
import Derived.Great.BuildSlice
import Derived.Laws.MakeOwn
import Derived.Lib.SliceRun
import Derived.RangeFuncLeaves
import Derived.RangeFuncNested
import Derived.Laws.BytesArg
import Derived.Lib.AppendZerosOnto
import Derived.RangeFuncBound
import Derived.Shelf.Abstract
import Derived.TacticsIn
import Derived.OwnWalkIn
import Derived.Laws.StructEq
open List renaming length -> zZ
open Nat renaming beq -> zg, le_refl -> zx, blt -> zB, le_trans -> zK, lt_succ_self -> zN, zero_add -> zY, ble -> z7, mul_one -> yb, le_succ -> yc, add_mul -> yw, add_zero -> yG, eq_of_beq_eq_true -> yI, succ_mul -> yL, beq_refl -> yQ, mul_le_mul_right -> yS, le_of_ble_eq_true -> yT, lt_of_lt_of_le -> yW, add_assoc -> xD, mod_lt -> xF, eq_zero_or_pos -> wD, mod_eq_of_lt -> wF, div_lt_iff_lt_mul -> wQ
open Bool renaming and_eq_true -> zh, true -> Z, false -> O
open Option renaming map_eq_some_iff -> zj, bind_eq_some_iff -> zl, some -> zJ, map_some -> z8, toList_some -> xE, toList -> xU, some -> M, none -> J
open List renaming mem_cons -> zk, mem_cons_self -> zm, all_eq_true -> zn, replicate -> zq, length_append -> zu, range -> zy, mem_singleton -> zA, mem_map -> zC, getElem?_eq_getElem -> zD, length_map -> zF, map_append -> zH, map_cons -> zI, length_take -> zL, mem_cons_of_mem -> zM, getElem?_map -> zP, mem_append -> zR, getElem?_eq_some_iff -> zU, map_congr_left -> zV, length_drop -> zX, length_cons -> ya, mem_append_left -> ye, map_map -> yg, take_length -> yh, nil_append -> yl, mem_append_right -> ym, size_toArray -> yp, length_set -> yq, finRange -> yt, map_nil -> yx, getElem?_take -> yA, cons_append -> yB, nodup_append -> yH, getElem?_append -> yJ, getElem?_drop -> yK, replicate_succ -> yM, append_nil -> yN, getElem_mem -> yR, drop_eq_getElem_cons -> yX, length_replicate -> yY, nodup_nil -> xg, getElem_of_mem -> xh, append_assoc -> xk, getElem_take -> xo, all_cons -> xu, eq_nil_of_length_eq_zero -> xG, range_succ -> xH, ext_getElem -> xI, take_append_drop -> xT, flatMap_cons -> xV, getElem_append_left -> xW, map_take -> xX, map_drop -> xY, length_range -> we, nodup_cons -> wg, drop_zero -> wh, getElem?_eq_none -> wj, mem_flatMap -> wk, getElem_drop -> wm, perm_middle -> wo, flatten_cons -> wE, mem_of_mem_drop -> wG, set_eq_take_append_cons_drop -> wP, getElem_append_right -> wR, eraseIdx_eq_take_drop_succ -> wS, length_pos_iff -> wT
open Int renaming toNat_natCast -> zw
open Array renaming getElem?_eq_some_iff -> yd, length_toList -> yf, getElem?_eq_getElem -> xC
open Decidable renaming decide -> w9
set_option linter.unusedSectionVars false
set_option linter.unusedVariables false
set_option linter.unusedSimpArgs false
set_option linter.defProp false
abbrev Prod.t{α β γ:Type _}(z:α×β×γ):γ:=z.2.2
abbrev Prod.q{α β γ δ ε:Type _}(z:α×β×γ×δ×ε):ε:=z.2.2.2.2
abbrev af(α:Type _):=Option α
abbrev aa(α:Type _):=List α
namespace Go
theorem iU:∀ {p:Prop} [inst:Decidable p],¬p→decide p=O:=@decide_eq_false
theorem l8:∀ {p:Prop} [inst:Decidable p],p→decide p=Z:=@decide_eq_true
theorem fO{α:Sort _}(a b:α):cond O a b=b:=rfl
theorem fZ{α:Sort _}(a b:α):cond Z a b=a:=rfl
theorem bO{c:Prop}{h:Decidable c}(hc:c){α:Sort _}{t e:α}:(ite c t e)=t:=if_pos hc
theorem bP{c:Prop}{h:Decidable c}(hnc:¬c){α:Sort _}{t e:α}:(ite c t e)=e:=if_neg hnc
theorem mG(h:Decidable True):@decide True h=Z:=decide_true h
theorem mF(h:Decidable False):@decide False h=O:=decide_false h
theorem dx{α:Sort _}{_:Decidable True}(t e:α):ite True t e=t:=if_true t e
theorem AE{α:Sort _}{_:Decidable False}(t e:α):ite False t e=e:=if_false t e
theorem Au(p:Prop):(p∧p)=p:=and_self p
def iy{a:Prop}{b:Sort _}(h1:a)(h2:¬a):b:=absurd h1 h2
end Go
noncomputable section
/- Proofs found by themselves. -/
namespace Go.Iv
open Go
abbrev cR:Type:=aa ((Int×Int×Int)×Int)
abbrev ga:Type:=aa (Int×Int)
def aj{p:Prop}(h:p:=by omega):p:=h
def aL{α:Sort _}{a b:α}(h:a=b:=by kernel_rfl):a=b:=h
abbrev ak(x:Int):Int:=IntKind.i64.wrap x
abbrev Z7(x:Int):Int:=IntKind.u64.wrap x
def w3{i n:Nat}(h:i<n)(hn:n<=1000000):(i:Int)<(n:Int)/\(0:Int)<=(i:Int)/\ak ((i:Int)+1)=((i+1:Nat):Int):=⟨by omega,by omega,by simp[ak,IntKind.wrap,IntKind.bits,IntKind.signed];omega⟩
universe u
def dS:(∀n:Nat,(n:Int).toNat=n)/\(∀h:Decidable True,@decide True h=Z)/\(∀h:Decidable False,@decide False h=O)/\(∀p:Prop,(p/\p)=p):=⟨zw,mG,mF,Au⟩
def dP:(∀(α:Type u) (a b:α),cond Z a b=a)/\∀(α:Type u) (a b:α),cond O a b=b:=⟨λ_ _ _=>rfl,λ_ _ _=>rfl⟩
def lG:(∀(α:Sort u) (h:Decidable True) (a b:α),@ite α True h a b=a)/\∀(α:Sort u) (h:Decidable False) (a b:α),@ite α False h a b=b:=⟨λ_ _ _ _=>bO trivial,λ_ _ _ _=>bP id⟩
end Go.Iv
namespace Go.Iv
open Go Go.RowKit
inductive bU (cQ:Nat->Type):Type
 |lit (v:Value)
 |sl (t:Nat) (l:List (cQ t))
 |fp (cs:List (bU cQ))
 |rp (v:Value) (k:Nat)
 |agg (cs:List (bU cQ))
 |iF (vs:List (bU cQ))
 |fn (f:Fn) (caps:List (bU cQ))
 |own (id:Nat)
 |ptr (id off:Nat)
 |ra (id t m off:Nat)
class HB where
 cQ:Nat->Type
 inh:(t:Nat)->Inhabited (cQ t)
 sz:Nat->Nat
 cells:(t:Nat)->cQ t->List (bU cQ)
instance [U:HB] (t:Nat):Inhabited (U.cQ t):=U.inh t
abbrev AV[U:HB]:Type:=bU U.cQ
variable [U:HB]
def fU:Value->af Nat
 | .slice (M a) _ (_+1)=>M a.block
 |_=>J
def gr(w:World)(v:Value)(T:TypeId)(sz n:Nat)(us:aa Value):Prop:=
 us.length=n*sz/\((∃p,v= .slice p 0 0/\n=0)\/
  ∃g cap cur,v= .slice (M ⟨g,0,J⟩) n (cap+1)/\w.heap[g]? =M (.cells cur T (0,0))/\n<=cap+1/\cap+1<=maxLen/\cur.size=(cap+1)*sz/\cur.toList.take (n*sz)=us)
def gr.lt{w:World}{v:Value}{T:TypeId}{sz n:Nat}{us:aa Value}(h:gr w v T sz n us){b:Nat}(hb:fU v=M b):b<w.heap.size:=by
 rcases h.2 with ⟨p,rfl,_⟩|⟨g,cap,cur,rfl,hg,_⟩
 ·cases p<;>cases hb
 ·cases hb;exact(yd.1 hg).1
def gr.kept{w w':World}{v:Value}{T:TypeId}{sz n:Nat}{us:aa Value}(h:gr w v T sz n us)(hb:∀b,fU v=M b->w'.heap[b]? =w.heap[b]?):gr w' v T sz n us:=by
 refine⟨h.1,?_⟩;rcases h.2 with h1|⟨g,cap,cur,rfl,q1,q2⟩
 ·exact .inl h1
 ·exact .inr ⟨g,cap,cur,rfl,(hb g rfl).trans q1,q2⟩
inductive Rel (A:Nat->Prop) (w:World):AV->Value->Prop
 |lit (v:Value):Rel A w (.lit v) v
 |sl (t:Nat) (l:List (U.cQ t)) (p:Option Addr) (cap:Nat) (u:Nat->Nat->Value)
   (hl:zZ l<=9223372036854775807) (hcap:zZ l<=cap) (hz:∀i,i<zZ l->zZ (U.cells t l[i]!)=U.sz t)
   (hc:∀i,i<zZ l->∃b off,p=M ⟨b,off,J⟩/\b<w.heap.size/\A b/\∀j,j<U.sz t->w.cell? ⟨b,off+i*U.sz t+j,J⟩=M (u i j))
   (hr:∀i j a,i<zZ l->(U.cells t l[i]!)[j]? =M a->Rel A w a (u i j)):Rel A w (.sl t l) (.slice p (zZ l) cap)
 |fp (cs:List AV) (b o:Nat) (us:List Value) (hb:b<w.heap.size) (hA:A b) (hl:zZ us=zZ cs)
   (hc:∀j v,us[j]? =M v->w.cell? ⟨b,o+j,J⟩=M v) (hr:∀(j:Nat) a v,cs[j]? =M a->us[j]? =M v->Rel A w a v):Rel A w (.fp cs) (.pointer (M ⟨b,o,J⟩))
 |rp (v:Value) (k g:Nat) (h:fU v=M g):Rel A w (.rp v k) (.pointer (M ⟨g,k,J⟩))
 |agg (cs:List AV) (us:List Value) (hl:zZ us=zZ cs) (hr:∀(j:Nat) a v,cs[j]? =M a->us[j]? =M v->Rel A w a v):Rel A w (.agg cs) (.agg us.toArray)
 |iF (cs:List AV) (us:List Value) (hl:zZ us=zZ cs) (hr:∀(j:Nat) a v,cs[j]? =M a->us[j]? =M v->Rel A w a v):Rel A w (.iF cs) (.tuple us.toArray)
 |fn (f:Fn) (cs:List AV) (us:List Value) (hl:zZ us=zZ cs) (hr:∀(j:Nat) a v,cs[j]? =M a->us[j]? =M v->Rel A w a v):Rel A w (.fn f cs) (.func f #[] us.toArray)
def Rel.mono{A A':Nat->Prop}{w w':World}{a:AV}{v:Value}(h:Rel A w a v)(hk:∀b,b<w.heap.size->A b->A' b/\w'.heap[b]? =w.heap[b]?):Rel A' w' a v:=by
 have hsz:∀b,b<w.heap.size->A b->b<w'.heap.size:=λb hb hA=>by
  have h1:=(hk b hb hA).2;rw[xC hb]at h1;exact(yd.1 h1).1
 have hcell:∀b o,b<w.heap.size->A b->w'.cell? ⟨b,o,J⟩=w.cell? ⟨b,o,J⟩:=λb o hb hA=>by
  simp[World.cell?,(hk b hb hA).2]
 induction h with
 |lit v=>exact .lit v
 |sl t l p cap u hl hcap hz hc hr ih=>
  refine .sl t l p cap u hl hcap hz (λi hi=> ?_) ih;obtain⟨b,off,h1,h2,h3,h4⟩:=hc i hi;exact⟨b,off,h1,hsz b h2 h3,(hk b h2 h3).1,λj hj=>by rw[hcell b _ h2 h3];exact h4 j hj⟩
 |fp cs b o us hb hA hl hc hr ih=>exact .fp cs b o us (hsz b hb hA) (hk b hb hA).1 hl (λj v hj=>by rw[hcell b _ hb hA];exact hc j v hj) ih
 |rp v k g h=>exact .rp v k g h
 |agg cs us hl hr ih=>exact .agg cs us hl ih
 |iF cs us hl hr ih=>exact .iF cs us hl ih
 |fn f cs us hl hr ih=>exact .fn f cs us hl ih
def bD(A:Nat->Prop)(w:World)(as0:aa AV)(us:aa Value):Prop:=zZ us=zZ as0/\∀(j:Nat) a v,as0[j]? =M a->us[j]? =M v->Rel A w a v
def bD.mono{A A':Nat->Prop}{w w':World}{as0:aa AV}{us:aa Value}(h:bD A w as0 us)(hk:∀b,b<w.heap.size->A b->A' b/\w'.heap[b]? =w.heap[b]?):bD A' w' as0 us:=⟨h.1,λj a v h1 h2=>(h.2 j a v h1 h2).mono hk⟩
def Rel.bR{A:Nat->Prop}{w:World}{u v:Value}(h:Rel A w (.lit u) v):v=u:=by
 generalize ha:bU.lit u=a at h;cases h with
 |lit v=>cases ha;rfl
 |_=>cases ha
def Blk(w:World)(b:Nat)(cs:Array Value)(T:TypeId):Prop:=w.heap[b]? =M (.cells cs T (0,0))
def Blk.lt{w:World}{b:Nat}{cs:Array Value}{T:TypeId}(h:Blk w b cs T):b<w.heap.size:=(yd.1 h).1
def Blk.cell{w:World}{b:Nat}{cs:Array Value}{T:TypeId}(h:Blk w b cs T){i:Nat}{v:Value}(hv:cs[i]? =M v):w.cell? ⟨b,i,J⟩=M v:=by
 unfold Blk at h;simp[World.cell?,h,hv]
inductive bM:Type
 |box (b:Nat) (T:TypeId) (cs:List AV)
 |row (v:Value) (t:Nat) (l:List (U.cQ t))
 |mp (v:Value) (es:List (AV×AV))
def afz:Value->af Nat
 | .map r=>r
 |_=>J
def bM.blk:bM->af Nat
 | .box b _ _=>M b
 | .row v _ _=>fU v
 | .mp v _=>afz v
def bM.ok(A:Nat->Prop)(w:World):bM->Prop
 | .box b T cs=>∃us:aa Value,Blk w b us.toArray T/\bD A w cs us
 | .row v t l=>∃us:aa Value,gr w v t (U.sz t) (zZ l) us/\(∀i,i<zZ l->zZ (U.cells t l[i]!)=U.sz t)/\∀i,i<zZ l->bD A w (U.cells t l[i]!) ((us.drop (i*U.sz t)).take (U.sz t))
 | .mp v es=>∃b ar cl,v= .map (M b)/\w.heap[b]? =M (.map ar cl)/\∃fs:aa (AV×AV),List.Perm fs es/\fs.Pairwise (λa b=>a.1≠b.1)/\ar.size=zZ fs/\∀(i:Nat) e m,fs[i]? =M e->ar[i]? =M m->Rel A w e.1 m.key/\Rel A w e.2 m.val
def bh(σ:aa bM):aa Nat:=σ.filterMap bM.blk
def bE{σ:aa bM}{b:Nat}:b∈bh σ↔∃r∈σ,r.blk=M b:=by simp[bh]
def bM.ok.lt{A:Nat->Prop}{w:World}{r:bM}(h:r.ok A w){b:Nat}(hb:r.blk=M b):b<w.heap.size:=by
 cases r with
 |box b' T cs=>obtain⟨us,h1,_⟩:=h;cases hb;exact h1.lt
 |row v t l=>obtain⟨us,h1,_⟩:=h;exact h1.lt hb
 |mp v es=>obtain⟨b',ar,cl,rfl,h1,_⟩:=h;cases hb;exact(yd.1 h1).1
def bM.ok.mono{A A':Nat->Prop}{w w':World}{r:bM}(h:r.ok A w)(hk:∀b,b<w.heap.size->A b->A' b/\w'.heap[b]? =w.heap[b]?)(hb:∀b,r.blk=M b->w'.heap[b]? =w.heap[b]?):r.ok A' w':=by
 cases r with
 |box b T cs=>
  obtain⟨us,h1,h2⟩:=h;exact⟨us,(hb b rfl).trans h1,h2.mono hk⟩
 |row v t l=>
  obtain⟨us,h1,h2,h3⟩:=h;exact⟨us,h1.kept hb,h2,λi h4=>(h3 i h4).mono hk⟩
 |mp v es=>
  obtain⟨b,ar,cl,rfl,h1,fs,hp,hq,h2,h3⟩:=h;exact⟨b,ar,cl,rfl,(hb b rfl).trans h1,fs,hp,hq,h2,λi e m q1 q2=>⟨(h3 i e m q1 q2).1.mono hk,(h3 i e m q1 q2).2.mono hk⟩⟩
structure Kp (X:List Nat) (w w':World):Prop where
 os:w'.os=w.os
 tape:w'.tape=w.tape
 output:w'.output=w.output
 size:w.heap.size<=w'.heap.size
 block:∀k,k<w.heap.size->k∉X->w'.heap[k]? =w.heap[k]?
def Kp.refl(X:aa Nat)(w:World):Kp X w w:=⟨rfl,rfl,rfl,zx _,λ_ _ _=>rfl⟩
def Kp.trans{X Y:aa Nat}{w w1 w2:World}(h:Kp X w w1)(h':Kp Y w1 w2)(hY:∀b,b∈Y->b<w.heap.size->b∈X):Kp X w w2:=
 ⟨h'.os.trans h.os,h'.tape.trans h.tape,h'.output.trans h.output,zK h.size h'.size,λk hk hX=>
  (h'.block k (yW hk h.size) (λhy=>hX (hY k hy hk))).trans (h.block k hk hX)⟩
def Kp.drew(w:World):Kp [] w w.drew:=⟨rfl,rfl,rfl,zx _,λ_ _ _=>rfl⟩
def Kp.below{w w':World}(h:Kp [] w w'):Below w.heap.size w w':=⟨h.os,h.tape,h.output,h.size,λk hk=>h.block k hk (by simp)⟩
structure Cx where
 w0:World
 A0:Nat->Prop
 O0:List Nat
def al(C:Cx)(σ:aa bM)(b:Nat):Prop:=(C.A0 b\/b∈C.O0\/C.w0.heap.size<=b)/\b∉bh σ
structure Good (C:Cx) (σ:List bM) (w:World):Prop where
 kept:Kp C.O0 C.w0 w
 res:∀r∈σ,r.ok (al C σ) w
 BR:(bh σ).Nodup
 own:∀b∈bh σ,b∈C.O0\/C.w0.heap.size<=b
structure Tr (C:Cx) (X:List Nat) (σ:List bM) (w:World) (σ':List bM) (w':World):Prop where
 good:Good C σ' w'
 kp:Kp X w w'
 al:∀b,b<w.heap.size->al C σ b->al C σ' b/\b∉X
def Tr.keep{C:Cx}{X:aa Nat}{σ σ':aa bM}{w w':World}(t:Tr C X σ w σ' w'):∀b,b<w.heap.size->Iv.al C σ b->Iv.al C σ' b/\w'.heap[b]? =w.heap[b]? :=
 λb hb h=>⟨(t.al b hb h).1,t.kp.block b hb (t.al b hb h).2⟩
abbrev Env:=aa (Nat×AV)
def Env.get:Env->Nat->af AV
 |[],_=>J
 |(k,v)::E,t=>match zg k t with
  |true=>M v
  |false=>Env.get E t
def Env.ev(E:Env):Operand->af AV
 | .tmp t=>Env.get E t
 | .const v=>M (.lit v)
 | .global g=>M (.lit (.pointer (M ⟨g,0,J⟩)))
 | .func f=>M (.fn (.func f) [])
def Env.ew(E:Env)(d:Nat)(v:AV):Env.get ((d,v)::E) d=M v:=by
 have h:zg d d=Z:=yQ d;simp only[Env.get,h]
def Env.dH(E:Env){d t:Nat}(v:AV)(h:d≠t):Env.get ((d,v)::E) t=Env.get E t:=by
 have h':zg d t=O:=by
  cases hb:zg d t with
  |false=>rfl
  |true=>exact iy (yI hb) h
 simp only[Env.get,h']
def gX(A:Nat->Prop)(w:World)(E:Env)(tmps:Array Value):Prop:=∀t av,Env.get E t=M av->∃v,tmps[t]? =M v/\Rel A w av v
def Dq(C:Cx)(σ:aa bM)(a:Act)(w:World):Prop:=∃Ds:aa Nat,a.defers=Ds.map (λD=>{target:= .collected D,args:=#[]})/\Ds.Nodup/\
 ∀D∈Ds,D<w.heap.size/\C.w0.heap.size<=D/\D∉bh σ/\w.heap[D]? =M (.deferred (M []))
def Dq.nil{C:Cx}{σ:aa bM}{a:Act}{w:World}(h:a.defers=[]):Dq C σ a w:=⟨[],h,xg,λ_ h=>by cases h⟩
def Dq.step{C:Cx}{σ σ':aa bM}{a:Act}{w w':World}(h:Dq C σ a w)(hk:∀b,b<w.heap.size->al C σ b->al C σ' b/\w'.heap[b]? =w.heap[b]?):Dq C σ' a w':=by
 obtain⟨Ds,h1,h2,h3⟩:=h;refine⟨Ds,h1,h2,λD hD=> ?_⟩;obtain⟨q1,q2,q3,q4⟩:=h3 D hD;obtain⟨p1,p2⟩:=hk D q1 ⟨.inr (.inr q2),q3⟩;have p3:=p2.trans q4;exact⟨(yd.1 p3).1,q2,p1.2,p3⟩
structure lH (C:Cx) (n:Nat) (E:Env) (σ:List bM) (a:Act) (w:World):Prop where
 defers:Dq C σ a w
 size:a.tmps.size=n
 slots:gX (al C σ) w E a.tmps
 good:Good C σ w
def Qj(A:Nat->Prop)(w:World)(E:Env)(ρ:Operand->Value):Prop:=∀x u,E.ev x=M u->Rel A w u (ρ x)
section
variable {C:Cx} {n:Nat} {E E':Env} {σ σ':aa bM} {a:Act} {w w':World} {x:Operand} {v:Value} {av:AV} {d:Nat} {A:Nat->Prop}
def gX.ops(h:gX A w E a.tmps):Qj A w E a.eval:=λx u hx=>by
 cases x with
 |tmp t=>
  obtain⟨v,h1,h2⟩:=h t u hx;simpa [Act.eval,h1]using h2
 |const u=>
  simp only[Env.ev,zJ.injEq]at hx;subst hx;exact .lit _
 |global g=>
  simp only[Env.ev,zJ.injEq]at hx;subst hx;exact .lit _
 |func f=>
  simp only[Env.ev,zJ.injEq]at hx;subst hx;exact .fn _ [] [] rfl (λj a v h=>by cases h)
def gX.put(h:gX A w E a.tmps)(hd:d<a.tmps.size)(hv:Rel A w av v):gX A w ((d,av)::E) (a.put (M d) v).tmps:=λt u ht=>by
 by_cases hdt:d=t
 ·subst hdt;rw[Env.ew]at ht;cases ht;exact⟨v,by simp[Act.put,hd],hv⟩
 ·rw[Env.dH _ _ hdt]at ht;obtain⟨v',h1,h2⟩:=h t u ht;exact⟨v',by simp[Act.put,Array.getElem?_setIfInBounds_ne hdt,h1],h2⟩
def lH.put(h:lH C n E σ a w)(hd:zB d n=Z)(hv:Rel (al C σ) w av v):lH C n ((d,av)::E) σ (a.put (M d) v) w:=
 ⟨h.defers,by simpa [Act.put]using h.size,h.slots.put (by rw[h.size];simpa using hd) hv,h.good⟩
def lH.tr{X:aa Nat}(h:lH C n E σ a w)(t:Tr C X σ w σ' w'):lH C n E σ' a w':=
 ⟨h.defers.step t.keep,h.size,λi u hi=>let ⟨v,h1,h2⟩:=h.slots i u hi;⟨v,h1,h2.mono t.keep⟩,t.good⟩
def Sub(E E':Env):Prop:=∀t v,Env.get E t=M v->Env.get E' t=M v
def Sub.nil:Sub [] E:=λ_ _ h=>by cases h
def Sub.cons(h:Env.get E' d=M av)(hs:Sub E E'):Sub ((d,av)::E) E':=λt u ht=>by
 by_cases hdt:d=t
 ·subst hdt;rw[Env.ew]at ht;simp_all
 ·rw[Env.dH _ _ hdt]at ht;exact hs t u ht
end
def Hd(A:Nat->Prop)(σ:aa bM)(w:World):Prop:=(∀r∈σ,r.ok A w)/\∀b∈bh σ,¬A b
def Good.hd{C:Cx}{σ:aa bM}{w:World}(h:Good C σ w):Hd (al C σ) σ w:=⟨h.res,λ_ hb hA=>hA.2 hb⟩
section
variable (P:Program) (E:Env) (σ:aa bM) (o:Oper)
def Yp(av:AV):Prop:=∀(A:Nat->Prop) (w:World) (ρ:Operand->Value),Hd A σ w->Qj A w E ρ->
 ∃v,Rel A w av v/\∀w':World,(∀b,b<w.heap.size->(A b\/b∈bh σ)->w'.heap[b]? =w.heap[b]?)->(execOp ρ o).run P w'= .ok (.value v) w'
def Yv(C:Cx)(X:aa Nat)(N:AV->aa bM->Prop):Prop:=∀(w:World) (ρ:Operand->Value),Good C σ w->Qj (al C σ) w E ρ->
 ∃v w' av σ',N av σ'/\Tr C X σ w σ' w'/\(execOp ρ o).run P w= .ok (.value v) w'/\Rel (al C σ') w' av v
def Yu(C:Cx)(X:aa Nat)(σ':aa bM):Prop:=∀(w:World) (ρ:Operand->Value),Good C σ w->Qj (al C σ) w E ρ->
 ∃w',Tr C X σ w σ' w'/\(execOp ρ o).run P w= .ok .skip w'
def Yc(C:Cx)(X:aa Nat)(N:AV->aa bM->Prop):Prop:=∀(w:World) (ρ:Operand->Value),Good C σ w->Qj (al C σ) w E ρ->
 ∃f args,(execOp ρ o).run P w= .ok (.enter f args) w/\Calls P f args w λe w'=>∃v av σ',e= .returned v/\N av σ'/\Tr C X σ w σ' w'/\Rel (al C σ') w' av v
def jN(ops:Array Oper):af Bool:=
 match o.guard with
 |none=>M Z
 |some (j,want)=>match (ops[j]?).bind (·.dst)with
  |none=>J
  |some t=>match Env.get E t with
   |some (.lit (.bool b))=>M (b==want)
   |some (.lit (.tuple _))=>M O
   |_=>J
end
def jN.spec{A:Nat->Prop}{w:World}{E:Env}{o:Oper}{ops:Array Oper}{tmps:Array Value}{b:Bool}(h:gX A w E tmps)(hw:jN E o ops=M b):Region.wanted o (yielded ops tmps)=b:=by
 unfold jN at hw;unfold Region.wanted;cases hg:o.guard with
 |none=>rw[hg]at hw;simpa using hw
 |some gw=>
  obtain⟨j,want⟩:=gw;rw[hg]at hw;simp only at hw ⊢;cases ht:(ops[j]?).bind (·.dst)with
  |none=>rw[ht]at hw;cases hw
  |some t=>
   rw[ht]at hw;simp only at hw;cases he:Env.get E t with
   |none=>rw[he]at hw;cases hw
   |some u=>
    obtain⟨v,hv,hr⟩:=h t u he;rw[he]at hw;have hy:yielded ops tmps j=match v with| .bool b=>M b|_=>J:=by
     unfold yielded;rw[ht];simp only[Option.bind_some,hv];cases v<;>rfl
    cases u with
    |lit u=>
     have hvu:=hr.bR;subst hvu;cases v<;>simp only at hw hy<;>first|(cases hw;done)|skip
     ·simp_all
     ·simp_all
    |_=>cases hw
def Q1(C:Cx)(n:Nat)(K:Env->aa bM->Prop)(ds:aa Deferred):Exit->Act->World->Prop:=λe a w=>e= .normal/\a.defers=ds/\∃E σ,lH C n E σ a w/\K E σ
def RW(P:Program)(C:Cx)(n:Nat)(ops:Array Oper)(K:Env->aa bM->Prop)(rest:aa Oper)(E:Env)(σ:aa bM):Prop:=
 ∀a w,lH C n E σ a w->wpList P ops (Q1 C n K a.defers) rest a w
section
variable {P:Program} {C:Cx} {n:Nat} {ops:Array Oper} {K:Env->aa bM->Prop} {rest:aa Oper} {E E':Env} {σ σ':aa bM} {o:Oper} {av:AV} {d:Nat} {X:aa Nat} {N:AV->aa bM->Prop}
def RW.nil(h:K E σ):RW P C n ops K [] E σ:=λ_ _ ha=>⟨rfl,rfl,E,σ,ha,h⟩
def RW.p(hg:jN E o ops=M Z)(hd:o.dst=M d)(hn:zB d n=Z)(hr:Yp P E σ o av)(next:RW P C n ops K rest ((d,av)::E) σ):RW P C n ops K (o::rest) E σ:=by
 intro a w ha;refine wpList_step λK' hK=> ?_;rw[bO (jN.spec ha.slots hg)];unfold Oper.wp;obtain⟨v,h1,h2⟩:=hr _ w a.eval ha.good.hd ha.slots.ops;rw[h2 w (λ_ _ _=>rfl)];show K' (a.put o.dst v) w;rw[hd];exact hK _ _ (next _ _ (ha.put hn h1))
def RW.v(hg:jN E o ops=M Z)(hd:o.dst=M d)(hn:zB d n=Z)(hr:Yv P E σ o C X N)(next:∀av σ',N av σ'->RW P C n ops K rest ((d,av)::E) σ'):RW P C n ops K (o::rest) E σ:=by
 intro a w ha;refine wpList_step λK' hK=> ?_;rw[bO (jN.spec ha.slots hg)];unfold Oper.wp;obtain⟨v,w',av,σ',h1,h2,h3,h4⟩:=hr w a.eval ha.good ha.slots.ops;rw[h3];show K' (a.put o.dst v) w';rw[hd];exact hK _ _ (next _ _ h1 _ _ ((ha.tr h2).put hn h4))
def RW.u(hg:jN E o ops=M Z)(hd:o.dst=J)(hr:Yu P E σ o C X σ')(next:RW P C n ops K rest E σ'):RW P C n ops K (o::rest) E σ:=by
 intro a w ha;refine wpList_step λK' hK=> ?_;rw[bO (jN.spec ha.slots hg)];unfold Oper.wp;obtain⟨w',h2,h3⟩:=hr w a.eval ha.good ha.slots.ops;rw[h3];show K' (a.put o.dst undef) w';rw[hd];exact hK _ _ (next _ _ (ha.tr h2))
end
structure Bs (X:List Nat) (A1:Nat->Prop) (w1:World) (σS:List bM):Prop where
 hd:Hd A1 σS w1
 nA:∀b,A1 b->b∉X
 nS:∀b∈bh σS,b∉X
def S1(X:aa Nat)(w1 w:World):Prop:=w1.heap.size<=w.heap.size/\∀b,b<w1.heap.size->b∉X->w.heap[b]? =w1.heap[b]?
section
variable {P:Program} {C:Cx} {n:Nat} {ops:Array Oper} {X X':aa Nat} {A1:Nat->Prop} {w1:World} {σS:aa bM} {K:Env->aa bM->Prop} {fuel:Nat} {listed:Array Bool} {i:Nat} {Eb E:Env} {σ σ':aa bM} {o:Oper} {av:AV} {d:Nat} {N:AV->aa bM->Prop}
end
def CW(P:Program)(C:Cx)(n:Nat)(c:Code)(Q:Exit->Env->aa bM->Prop)(E:Env)(σ:aa bM):Prop:=
 ∀a w,lH C n E σ a w->c.wp P (λe a' w'=>∃E' σ',lH C n E' σ' a' w'/\Q e E' σ') a w
def aLj(P:Program)(C:Cx)(n:Nat)(y:Code)(Q:Exit->Env->aa bM->Prop):Exit->Env->aa bM->Prop
 | .normal,E,σ=>CW P C n y Q E σ
 |e,E,σ=>Q e E σ
def KE(id:Nat)(Q:Exit->Env->aa bM->Prop):Exit->Env->aa bM->Prop
 | .exit id',E,σ=>match zg id' id with
  |true=>Q .normal E σ
  |false=>Q (.exit id') E σ
 |e,E,σ=>Q e E σ
section
variable {P:Program} {C:Cx} {n:Nat} {c x y:Code} {Q Q':Exit->Env->aa bM->Prop} {E E':Env} {σ σ':aa bM}
def CW.seq(h:CW P C n x (aLj P C n y Q) E σ):CW P C n (.seq x y) Q E σ:=λa w ha=>by
 refine wp_seq (wp_mono (h a w ha) λe a' w' ⟨E',σ',h1,h2⟩=> ?_);cases e with
 |normal=>exact h2 a' w' h1
 |_=>exact⟨E',σ',h1,h2⟩
def CW.block{id:Nat}(h:CW P C n c (KE id Q) E σ):CW P C n (.block id c) Q E σ:=λa w ha=>by
 refine wp_block (wp_mono (h a w ha) λe a' w' ⟨E',σ',h1,h2⟩=> ?_);cases e with
 |exit id'=>
  simp only[KE]at h2;simp only[Exit.inBlock];split
  ·rename_i he;subst he;have hb:zg id' id'=Z:=yQ _;simp only[hb]at h2;exact⟨E',σ',h1,h2⟩
  ·rename_i he;have hb:zg id' id=O:=by
    cases hb:zg id' id with
    |false=>rfl
    |true=>exact iy (yI hb) he
   grind
 |_=>exact⟨E',σ',h1,h2⟩
def CW.ret(h:Q .ret E σ):CW P C n .ret Q E σ:=λ_ _ ha=>wp_ret ⟨E,σ,ha,h⟩
def UT{a:Act}{w:World}{cnd:Operand}{b:Bool}(ha:lH C n E σ a w)(hc:E.ev cnd=M (.lit (.bool b))):a.eval cnd= .bool b:=by
 exact(ha.slots.ops _ _ hc).bR
def CW.region{id:Nat}{l:aa Oper}(h:RW P C n l.toArray (λE' σ'=>Q .normal E' σ') l E σ):CW P C n (.region id l.toArray O) Q E σ:=λa w ha=>by
 refine wp_mono (wp_region_lit (h a w ha)) λe a' w' ⟨he,_,E',σ',h1,h2⟩=> ?_;subst he;exact⟨E',σ',h1,h2⟩
def Good.drew{w:World}(h:Good C σ w):Good C σ w.drew:=
 ⟨h.kept.trans (Kp.drew w) (by simp),λr hr=>(h.res r hr).mono (λb _ hA=>⟨hA,rfl⟩) (λ_ _=>rfl),h.BR,h.own⟩
def lH.drew{a:Act}{w:World}(h:lH C n E σ a w):lH C n E σ a w.drew:=
 ⟨h.defers,h.size,λi u hi=>let ⟨v,h1,h2⟩:=h.slots i u hi;⟨v,h1,h2.mono λ_ _ hA=>⟨hA,rfl⟩⟩,h.good.drew⟩
def jk{σ σ':aa bM}(h:∀r∈σ',r∈σ):∀b∈bh σ',b∈bh σ:=λb hb=>by
 obtain⟨r,h1,h2⟩:=bE.1 hb;exact bE.2 ⟨r,h r h1,h2⟩
def lH.less{a:Act}{w:World}(h:lH C n E σ a w)(hs:List.Sublist σ' σ):lH C n E σ' a w:=by
 have hm:∀r∈σ',r∈σ:=λr hr=>hs.subset hr;have hal:∀b,al C σ b->al C σ' b:=λb hb=>⟨hb.1,λhx=>hb.2 (jk hm b hx)⟩;exact⟨h.defers.step (λb _ hA=>⟨hal b hA,rfl⟩),h.size,λi u hi=>let ⟨v,h1,h2⟩:=h.slots i u hi;⟨v,h1,h2.mono λb _ hA=>⟨hal b hA,rfl⟩⟩,
  ⟨h.good.kept,λr hr=>(h.good.res r (hm r hr)).mono (λb _ hA=>⟨hal b hA,rfl⟩) (λ_ _=>rfl),h.good.BR.sublist (hs.filterMap _),λb hb=>h.good.own b (jk hm b hb)⟩⟩
def lH.perm{a:Act}{w:World}(h:lH C n E σ a w)(hp:List.Perm σ σ'):lH C n E σ' a w:=by
 have hb:∀b,b∈bh σ'↔b∈bh σ:=λb=>(hp.filterMap _).symm.mem_iff;have hal:∀b,al C σ b->al C σ' b:=λb hA=>⟨hA.1,λhx=>hA.2 ((hb b).1 hx)⟩;exact⟨h.defers.step (λb _ hA=>⟨hal b hA,rfl⟩),h.size,λi u hi=>let ⟨v,h1,h2⟩:=h.slots i u hi;⟨v,h1,h2.mono λb _ hA=>⟨hal b hA,rfl⟩⟩,
  ⟨h.good.kept,λr hr=>(h.good.res r (hp.mem_iff.2 hr)).mono (λb _ hA=>⟨hal b hA,rfl⟩) (λ_ _=>rfl),(hp.filterMap _).nodup_iff.1 h.good.BR,λb hx=>h.good.own b ((hb b).1 hx)⟩⟩
end
end Go.Iv
namespace Go.Iv
variable [U:HB]
open Go Go.RowKit
def oT(k:IntKind)(x y:Int):Int:=k.wrap ((BitVec.ofInt k.bits x&&&BitVec.ofInt k.bits y).toNat)
def bOr(k:IntKind)(x y:Int):Int:=k.wrap ((BitVec.ofInt k.bits x|||BitVec.ofInt k.bits y).toNat)
def awm(k:IntKind)(x y:Int):Int:=k.wrap ((BitVec.ofInt k.bits x^^^BitVec.ofInt k.bits y).toNat)
def avf(k:IntKind)(x y:Int):Int:=k.wrap ((BitVec.ofInt k.bits x&&& ~~~ BitVec.ofInt k.bits y).toNat)
def FF(k:IntKind)(x y:Int):Int:=k.wrap (x*2^(min y.toNat k.bits))
def de(k:IntKind)(x y:Int):Int:=x.fdiv (2^(min y.toNat k.bits))
abbrev bU.i{cQ:Nat->Type}(n:Int):bU cQ:= .lit (.int .i64 n)
abbrev bU.n{cQ:Nat->Type}(k:IntKind)(n:Int):bU cQ:= .lit (.int k n)
abbrev bU.b{cQ:Nat->Type}(b:Bool):bU cQ:= .lit (.bool b)
abbrev bU.s{cQ:Nat->Type}(s:ByteArray):bU cQ:= .lit (.string s)
section
variable {A:Nat->Prop} {w:World} {as0 bs:aa AV} {us vs:aa Value} {a:AV} {v:Value}
def bD.nil:bD A w [] []:=⟨rfl,λj a v h=>by cases h⟩
def bD.cons(h:Rel A w a v)(hs:bD A w as0 us):bD A w (a::as0) (v::us):=by
 refine⟨by simp[hs.1],λj x y h1 h2=> ?_⟩;cases j with
 |zero=>simp at h1 h2;subst h1 h2;exact h
 |succ j=>exact hs.2 j x y (by simpa using h1) (by simpa using h2)
def bD.head(h:bD A w (a::as0) us):∃v us',us=v::us'/\Rel A w a v/\bD A w as0 us':=by
 match us,h with
 |[],h=>exact iy h.1 (by simp)
 |v::us',h=>exact⟨v,us',rfl,h.2 0 a v rfl rfl,by simpa using h.1,λj x y h1 h2=>h.2 (j+1) x y (by simpa using h1) (by simpa using h2)⟩
def bD.app(h:bD A w as0 us)(h':bD A w bs vs):bD A w (as0++bs) (us++vs):=by
 refine⟨by simp[h.1,h'.1],λj x y h1 h2=> ?_⟩;rw[yJ]at h1 h2;rw[h.1]at h2;split at h1
 ·rw[bO (by assumption)]at h2;exact h.2 j x y h1 h2
 ·rw[bP (by assumption)]at h2;exact h'.2 _ x y h1 h2
def bD.take(n:Nat)(h:bD A w as0 us):bD A w (as0.take n) (us.take n):=by
 refine⟨by simp[h.1],λj x y h1 h2=> ?_⟩;rw[yA]at h1 h2;split at h1
 ·rw[bO (by assumption)]at h2;exact h.2 j x y h1 h2
 ·cases h1
def bD.drop(n:Nat)(h:bD A w as0 us):bD A w (as0.drop n) (us.drop n):=by
 refine⟨by simp[h.1],λj x y h1 h2=> ?_⟩;rw[yK]at h1 h2;exact h.2 _ x y h1 h2
def bD.get(h:bD A w as0 us){j:Nat}(hj:as0[j]? =M a):∃v,us[j]? =M v/\Rel A w a v:=by
 have hlt:j<zZ us:=by rw[h.1];exact(zU.1 hj).1
 exact⟨us[j],zD hlt,h.2 j a _ hj (zD hlt)⟩
def bD.lits(us:aa Value):bD A w (us.map .lit) us:=⟨by simp,λj a v h1 h2=>by
 rw[zP,h2]at h1;cases h1;exact .lit v⟩
def Rel.nK{cs:aa AV}(h:bD A w cs us):Rel A w (.agg cs) (.agg us.toArray):= .agg cs us h.1 h.2
def Rel.EN{cs:aa AV}(h:bD A w cs us):Rel A w (.iF cs) (.tuple us.toArray):= .iF cs us h.1 h.2
end
section
variable {A:Nat->Prop} {w:World} {v:Value} {cs:aa AV}
def Rel.gO(h:Rel A w (.agg cs) v):∃us:aa Value,v= .agg us.toArray/\bD A w cs us:=by
 generalize ha:bU.agg cs=a at h;cases h with
 |agg cs us hl hr=>cases ha;exact⟨us,rfl,hl,hr⟩
 |_=>cases ha
def Rel.RC(h:Rel A w (.iF cs) v):∃us:aa Value,v= .tuple us.toArray/\bD A w cs us:=by
 generalize ha:bU.iF cs=a at h;cases h with
 |iF cs us hl hr=>cases ha;exact⟨us,rfl,hl,hr⟩
 |_=>cases ha
def Rel.V6{f:Fn}(h:Rel A w (.fn f cs) v):∃us:aa Value,v= .func f #[] us.toArray/\bD A w cs us:=by
 generalize ha:bU.fn f cs=a at h;cases h with
 |fn f cs us hl hr=>cases ha;exact⟨us,rfl,hl,hr⟩
 |_=>cases ha
def Rel.EE(h:Rel A w (.fp cs) v):∃b o us,v= .pointer (M ⟨b,o,J⟩)/\b<w.heap.size/\A b/\(∀(j:Nat) u,us[j]? =M u->w.cell? ⟨b,o+j,J⟩=M u)/\bD A w cs us:=by
 generalize ha:bU.fp cs=a at h;cases h with
 |fp cs b o us hb hA hl hc hr=>cases ha;exact⟨b,o,us,rfl,hb,hA,hc,hl,hr⟩
 |_=>cases ha
def Rel.IC{u:Value}{k:Nat}(h:Rel A w (.rp u k) v):∃g,fU u=M g/\v= .pointer (M ⟨g,k,J⟩):=by
 generalize ha:bU.rp u k=a at h;cases h with
 |rp u k g h=>cases ha;exact⟨g,h,rfl⟩
 |_=>cases ha
def Rel.sG{q:Nat}{l:aa (U.cQ q)}(h:Rel A w (.sl q l) v):∃p cap,∃u:Nat->Nat->Value,v= .slice p (zZ l) cap/\zZ l<=9223372036854775807/\zZ l<=cap/\(∀i,i<zZ l->zZ (U.cells q l[i]!)=(U.sz q))/\
  (∀i,i<zZ l->∃b off,p=M ⟨b,off,J⟩/\b<w.heap.size/\A b/\∀j,j<(U.sz q)->w.cell? ⟨b,off+i*(U.sz q)+j,J⟩=M (u i j))/\∀i j a,i<zZ l->(U.cells q l[i]!)[j]? =M a->Rel A w a (u i j):=by
 generalize ha:bU.sl q l=a at h;cases h with
 |sl q l p cap u hl hcap hz hc hr=>
  cases ha;exact⟨p,cap,u,rfl,hl,hcap,hz,hc,hr⟩
 |_=>cases ha
def Rel.aIn{q:Nat}{l:aa (U.cQ q)}{p:af Addr}{n cap:Nat}(h:Rel A w (.sl q l) (.slice p n cap)){i:Nat}(hi:i<zZ l):
  ∃b off us,p=M ⟨b,off,J⟩/\b<w.heap.size/\A b/\zZ us=(U.sz q)/\(∀(j:Nat) u,us[j]? =M u->w.cell? ⟨b,off+i*(U.sz q)+j,J⟩=M u)/\bD A w (U.cells q l[i]!) us:=by
 obtain⟨p',cap',u,hv,_,_,h1,h2,h3⟩:=h.sG;cases hv;obtain⟨b,off,hp,hb,hA,hc⟩:=h2 i hi;refine⟨b,off,(zy (U.sz q)).map (u i),hp,hb,hA,by simp,λj v hj=> ?_,by rw[zF,we,h1 i hi],λj a v ha hv=> ?_⟩
 ·rw[zP]at hj;by_cases hlt:j<(U.sz q)
  ·simp_all
  ·simp_all
 ·have hlt:j<(U.sz q):=by rw[<-h1 i hi];exact(zU.1 ha).1
  rw[zP,List.getElem?_range hlt]at hv;cases hv;exact h3 i j a hi ha
end
def gr.len{w:World}{v:Value}{T:TypeId}{sz n:Nat}{us:aa Value}(h:gr w v T sz n us):∃p cap,v= .slice p n cap/\n<=cap:=by
 rcases h.2 with ⟨p,rfl,rfl⟩|⟨g,cap,cur,rfl,hg,h1,_⟩
 ·simp
 ·exact⟨_,_,rfl,h1⟩
def gr.at{w:World}{v:Value}{T:TypeId}{sz n:Nat}{us:aa Value}(h:gr w v T sz n us)(hn:0<n):∃g cap cur,v= .slice (M ⟨g,0,J⟩) n (cap+1)/\fU v=M g/\Blk w g cur T/\n<=cap+1/\cap+1<=maxLen/\cur.size=(cap+1)*sz/\cur.toList.take (n*sz)=us:=by
 rcases h.2 with ⟨p,rfl,rfl⟩|⟨g,cap,cur,rfl,hg,h1⟩
 ·cases hn
 ·exact⟨g,cap,cur,rfl,rfl,hg,h1⟩
def gr.cells{w:World}{v:Value}{T:TypeId}{sz n:Nat}{us:aa Value}(h:gr w v T sz n us){g:Nat}(hg:fU v=M g):∀(j:Nat) u,us[j]? =M u->w.cell? ⟨g,j,J⟩=M u:=λj u hj=>by
 rcases h.2 with ⟨p,rfl,rfl⟩|⟨g',cap,cur,rfl,q1,_,_,_,q2⟩
 ·cases p<;>cases hg
 ·cases hg;rw[<-q2,yA]at hj;split at hj
  ·exact Blk.cell q1 (by simpa using hj)
  ·cases hj
def Env.PD(E:Env):aa Operand->af (aa AV)
 |[]=>M []
 |x::xs=>match E.ev x,Env.PD E xs with
  |some a,M as0=>M (a::as0)
  |_,_=>J
def Env.JI{A:Nat->Prop}{w:World}{E:Env}{ρ:Operand->Value}(h:Qj A w E ρ):∀{xs:aa Operand} {as0:aa AV},E.PD xs=M as0->bD A w as0 (xs.map ρ)
 |[],as0,he=>by cases he;exact bD.nil
 |x::xs,as0,he=>by
  unfold Env.PD at he;cases h1:E.ev x with
  |none=>rw[h1]at he;cases he
  |some a=>
   cases h2:E.PD xs with
   |none=>rw[h1,h2]at he;cases he
   |some as'=>
    rw[h1,h2]at he;cases he;exact bD.cons (h x a h1) (Env.JI h h2)
section
variable {P:Program} {E:Env} {σ:aa bM} {o:Oper} {T T' e:TypeId} {x y z:Operand} {av bv:AV} {v u:Value} {m n:Int} {b:Bool} {k:IntKind}
def Yp.lits(h:∀ρ:Operand->Value,(∀x u,E.ev x=M (.lit u)->ρ x=u)->∀w,(execOp ρ o).run P w= .ok (.value v) w):Yp P E σ o (.lit v):=λA w ρ _ hρ=>
 ⟨v, .lit v,λw' _=>h ρ (λx u hx=>(hρ x _ hx).bR) w'⟩
def Yp.move(ho:o.op= .move x)(hx:E.ev x=M av):Yp P E σ o av:=λA w ρ _ hρ=>
 ⟨ρ x,hρ _ _ hx,λw' _=>by simp[execOp,ho]⟩
def Yp.assign(ho:o.op= .assign x)(hx:E.ev x=M av):Yp P E σ o av:=λA w ρ _ hρ=>
 ⟨ρ x,hρ _ _ hx,λw' _=>by simp[execOp,ho]⟩
def Yp.azN(ho:o.op= .pick z x y)(hc:E.ev z=M (.b Z))(hx:E.ev x=M av):Yp P E σ o av:=λA w ρ _ hρ=>
 ⟨ρ x,hρ _ _ hx,λw' _=>by simp[execOp,ho,(hρ _ _ hc).bR,asBool]⟩
def Yp.aBi(ho:o.op= .pick z x y)(hc:E.ev z=M (.b O))(hx:E.ev y=M av):Yp P E σ o av:=λA w ρ _ hρ=>
 ⟨ρ y,hρ _ _ hx,λw' _=>by simp[execOp,ho,(hρ _ _ hc).bR,asBool]⟩
def Yp.add(ho:o.op= .binOp .add T x y T')(hx:E.ev x=M (.n k m))(hy:E.ev y=M (.n k n)):Yp P E σ o (.n k (k.wrap (m+n))):=Yp.lits λρ hρ w=>by
 simp[execOp,ho,hρ _ _ hx,hρ _ _ hy,eqGuard,binOp,Op.intArith]
def Yp.sub(ho:o.op= .binOp .sub T x y T')(hx:E.ev x=M (.n k m))(hy:E.ev y=M (.n k n)):Yp P E σ o (.n k (k.wrap (m-n))):=Yp.lits λρ hρ w=>by
 simp[execOp,ho,hρ _ _ hx,hρ _ _ hy,eqGuard,binOp,Op.intArith]
def Yp.mul(ho:o.op= .binOp .mul T x y T')(hx:E.ev x=M (.n k m))(hy:E.ev y=M (.n k n)):Yp P E σ o (.n k (k.wrap (m*n))):=Yp.lits λρ hρ w=>by
 simp[execOp,ho,hρ _ _ hx,hρ _ _ hy,eqGuard,binOp,Op.intArith]
def Yp.quo(ho:o.op= .binOp .quo T x y T')(hx:E.ev x=M (.n k m))(hy:E.ev y=M (.n k n))(h:n≠0):Yp P E σ o (.n k (k.wrap (m.tdiv n))):=Yp.lits λρ hρ w=>by
 simp[execOp,ho,hρ _ _ hx,hρ _ _ hy,eqGuard,binOp,Op.intDiv,h]
def Yp.rem(ho:o.op= .binOp .rem T x y T')(hx:E.ev x=M (.n k m))(hy:E.ev y=M (.n k n))(h:n≠0):Yp P E σ o (.n k (m.tmod n)):=Yp.lits λρ hρ w=>by
 simp[execOp,ho,hρ _ _ hx,hρ _ _ hy,eqGuard,binOp,Op.intDiv,h]
def Yp.and(ho:o.op= .binOp .and T x y T')(hx:E.ev x=M (.n k m))(hy:E.ev y=M (.n k n)):Yp P E σ o (.n k (oT k m n)):=Yp.lits λρ hρ w=>by
 simp[execOp,ho,hρ _ _ hx,hρ _ _ hy,eqGuard,binOp,Op.intBits,oT]
def Yp.or(ho:o.op= .binOp .or T x y T')(hx:E.ev x=M (.n k m))(hy:E.ev y=M (.n k n)):Yp P E σ o (.n k (bOr k m n)):=Yp.lits λρ hρ w=>by
 simp[execOp,ho,hρ _ _ hx,hρ _ _ hy,eqGuard,binOp,Op.intBits,bOr]
def Yp.xor(ho:o.op= .binOp .xor T x y T')(hx:E.ev x=M (.n k m))(hy:E.ev y=M (.n k n)):Yp P E σ o (.n k (awm k m n)):=Yp.lits λρ hρ w=>by
 simp[execOp,ho,hρ _ _ hx,hρ _ _ hy,eqGuard,binOp,Op.intBits,awm]
def Yp.andNot(ho:o.op= .binOp .andNot T x y T')(hx:E.ev x=M (.n k m))(hy:E.ev y=M (.n k n)):Yp P E σ o (.n k (avf k m n)):=Yp.lits λρ hρ w=>by
 simp[execOp,ho,hρ _ _ hx,hρ _ _ hy,eqGuard,binOp,Op.intBits,avf]
def Yp.shl{k':IntKind}(ho:o.op= .binOp .shl T x y T')(hx:E.ev x=M (.n k m))(hy:E.ev y=M (.n k' n))(h:0<=n):Yp P E σ o (.n k (FF k m n)):=Yp.lits λρ hρ w=>by
 have:¬n<0:=aj;simp[execOp,ho,hρ _ _ hx,hρ _ _ hy,eqGuard,binOp,Op.shift,FF,this]
def Yp.shr{k':IntKind}(ho:o.op= .binOp .shr T x y T')(hx:E.ev x=M (.n k m))(hy:E.ev y=M (.n k' n))(h:0<=n):Yp P E σ o (.n k (de k m n)):=Yp.lits λρ hρ w=>by
 have:¬n<0:=aj;simp[execOp,ho,hρ _ _ hx,hρ _ _ hy,eqGuard,binOp,Op.shift,de,this]
def Yp.lss(ho:o.op= .binOp .lss T x y T')(hx:E.ev x=M (.n k m))(hy:E.ev y=M (.n k n)):Yp P E σ o (.b (w9 (m<n))):=Yp.lits λρ hρ w=>by
 simp[execOp,ho,hρ _ _ hx,hρ _ _ hy,eqGuard,binOp,Op.intCmp]
def Yp.leq(ho:o.op= .binOp .leq T x y T')(hx:E.ev x=M (.n k m))(hy:E.ev y=M (.n k n)):Yp P E σ o (.b (w9 (m<=n))):=Yp.lits λρ hρ w=>by
 simp[execOp,ho,hρ _ _ hx,hρ _ _ hy,eqGuard,binOp,Op.intCmp]
def Yp.gtr(ho:o.op= .binOp .gtr T x y T')(hx:E.ev x=M (.n k m))(hy:E.ev y=M (.n k n)):Yp P E σ o (.b (w9 (n<m))):=Yp.lits λρ hρ w=>by
 simp[execOp,ho,hρ _ _ hx,hρ _ _ hy,eqGuard,binOp,Op.intCmp]
def Yp.geq(ho:o.op= .binOp .geq T x y T')(hx:E.ev x=M (.n k m))(hy:E.ev y=M (.n k n)):Yp P E σ o (.b (w9 (n<=m))):=Yp.lits λρ hρ w=>by
 simp[execOp,ho,hρ _ _ hx,hρ _ _ hy,eqGuard,binOp,Op.intCmp]
def Yp.eql(ho:o.op= .binOp .eql T x y T')(hx:E.ev x=M (.n k m))(hy:E.ev y=M (.n k n)):Yp P E σ o (.b (w9 (m=n))):=Yp.lits λρ hρ w=>by
 have:(m==n)=w9 (m=n):=rfl;simp[execOp,ho,hρ _ _ hx,hρ _ _ hy,eqGuard,binOp,Op.intCmp,this]
def Yp.neq(ho:o.op= .binOp .neq T x y T')(hx:E.ev x=M (.n k m))(hy:E.ev y=M (.n k n)):Yp P E σ o (.b (!w9 (m=n))):=Yp.lits λρ hρ w=>by
 have:(m !=n)= !w9 (m=n):=rfl;simp[execOp,ho,hρ _ _ hx,hρ _ _ hy,eqGuard,binOp,Op.intCmp,this]
def Yp.not(ho:o.op= .unOp .not T x)(hx:E.ev x=M (.b b)):Yp P E σ o (.b (!b)):=Yp.lits λρ hρ w=>by
 simp[execOp,ho,hρ _ _ hx,Op.unary]
def Yp.neg(ho:o.op= .unOp .neg T x)(hx:E.ev x=M (.n k n)):Yp P E σ o (.n k (k.wrap (0-n))):=Yp.lits λρ hρ w=>by
 simp[execOp,ho,hρ _ _ hx,Op.unary,Op.intArith]
def Yp.max(ho:o.op= .call {callee:= .builtin .max,args:=#[x,y],argTypes:=#[T,T']})(hx:E.ev x=M (.n k m))(hy:E.ev y=M (.n k n)):Yp P E σ o (.n k (if m<n then n else m)):=Yp.lits λρ hρ w=>by
 simp[execOp,ho,resolve,invoke,builtin,Builtin.max_,Builtin.max2,hρ _ _ hx,hρ _ _ hy]
def Yp.min(ho:o.op= .call {callee:= .builtin .min,args:=#[x,y],argTypes:=#[T,T']})(hx:E.ev x=M (.n k m))(hy:E.ev y=M (.n k n)):Yp P E σ o (.n k (if n<m then n else m)):=Yp.lits λρ hρ w=>by
 simp[execOp,ho,resolve,invoke,builtin,Builtin.min_,Builtin.min2,hρ _ _ hx,hρ _ _ hy]
def Yp.aso(ho:o.op= .call {callee:= .builtin .len,args:=#[x],argTypes:=#[T]})(hx:E.ev x=M (.lit (.slice J 0 0)))(hT:P.underlying T=M (.slice e)):Yp P E σ o (.i 0):=Yp.lits λρ hρ w=>by
 simp[execOp,ho,resolve,invoke,builtin,Builtin.len_,hρ _ _ hx,run_underlying hT,goInt]
def Yp.aBy{q:Nat}{l:aa (U.cQ q)}(ho:o.op= .call {callee:= .builtin .len,args:=#[x],argTypes:=#[T]})(hx:E.ev x=M (.sl q l))(hT:P.underlying T=M (.slice e)):Yp P E σ o (.i (zZ l:Int)):=λA w ρ _ hρ=>by
 obtain⟨p,cap,u,hv,_⟩:=(hρ _ _ hx).sG;exact⟨_, .lit _,λw' _=>by simp[execOp,ho,resolve,invoke,builtin,Builtin.len_,hv,run_underlying hT,goInt]⟩
def Yp.awt{q:Nat}{l:aa (U.cQ q)}(i:Nat)(ho:o.op= .call {callee:= .builtin .len,args:=#[x],argTypes:=#[T]})(hx:E.ev x=M (.lit v))(hσ:σ[i]? =M (.row v q l))(hT:P.underlying T=M (.slice e)):Yp P E σ o (.i (zZ l:Int)):=λA w ρ hd hρ=>by
 obtain⟨us,h1,_⟩:=hd.1 _ (List.mem_of_getElem? hσ);obtain⟨p,cap,hv,_⟩:=h1.len;have hx':=(hρ _ _ hx).bR;exact⟨_, .lit _,λw' _=>by simp[execOp,ho,resolve,invoke,builtin,Builtin.len_,hx',hv,run_underlying hT,goInt]⟩
def Yp.aw4{s:ByteArray}(ho:o.op= .call {callee:= .builtin .len,args:=#[x],argTypes:=#[T]})(hx:E.ev x=M (.s s))(hT:P.underlying T=M .string):Yp P E σ o (.i (s.size:Int)):=Yp.lits λρ hρ w=>by
 simp[execOp,ho,resolve,invoke,builtin,Builtin.len_,hρ _ _ hx,goInt,run_underlying hT]
def Yp.func{fn:Fn}{fs cs:Array Operand}{as0:aa AV}(ho:o.op= .makeFunc fn fs cs)(h0:fs=#[])(hc:E.PD cs.toList=M as0):Yp P E σ o (.fn fn as0):=λA w ρ _ hρ=>by
 have h:=Env.JI hρ hc;exact⟨_, .fn fn as0 _ h.1 h.2,λw' _=>by
  have:cs.map ρ=(cs.toList.map ρ).toArray:=by apply Array.ext';simp
  simp[execOp,ho,Instr.makeFunc,h0,this]⟩
def Yp.extract{i:Nat}{cs:aa AV}(ho:o.op= .extract x i)(hx:E.ev x=M (.iF cs))(hv:cs[i]? =M av):Yp P E σ o av:=λA w ρ _ hρ=>by
 obtain⟨us,h1,h2⟩:=(hρ _ _ hx).RC;obtain⟨v,h3,h4⟩:=h2.get hv;exact⟨v,h4,λw' _=>by simp[execOp,ho,Instr.extract,h1,h3]⟩
def Yp.ZE{a:Addr}(ho:o.op= .nilCheck x)(hx:E.ev x=M (.lit (.pointer (M a)))):Yp P E σ o (.lit (.pointer (M a))):=Yp.lits λρ hρ w=>by
 simp[execOp,ho,hρ _ _ hx]
def Yp.Zl{cs:aa AV}(ho:o.op= .nilCheck x)(hx:E.ev x=M (.fp cs)):Yp P E σ o (.fp cs):=λA w ρ _ hρ=>by
 obtain⟨b,of,us,h1,_⟩:=(hρ _ _ hx).EE;exact⟨ρ x,hρ _ _ hx,λw' _=>by simp[execOp,ho,h1]⟩
def Yp.Yn{k:Nat}(ho:o.op= .nilCheck x)(hx:E.ev x=M (.rp v k)):Yp P E σ o (.rp v k):=λA w ρ _ hρ=>by
 obtain⟨g,_,h1⟩:=(hρ _ _ hx).IC;exact⟨ρ x,hρ _ _ hx,λw' _=>by simp[execOp,ho,h1]⟩
def qQ(b of k:Nat):(⟨b,of,J⟩:Addr).add k=⟨b,of+k,J⟩:=by unfold Addr.add;split<;>simp_all
def Yp.auL{fs:Array Field}{f:Field}{i b' of sz:Nat}(ho:o.op= .fieldAddr T x i)(hx:E.ev x=M (.lit (.pointer (M ⟨b',of,J⟩))))(hT:P.underlying T=M (.struct fs))(hf:fs[i]? =M f)(hs:(P.info? f.type).map (·.size)=M (sz+1)):
  Yp P E σ o (.lit (.pointer (M ⟨b',of+f.offset,J⟩))):=Yp.lits λρ hρ w=>by
 obtain⟨j,hj,hj'⟩:=zj.1 hs;simp[execOp,ho,Instr.fieldAt,hρ _ _ hx,run_underlying hT,hf,Instr.sureAddr,fieldPlace,sizeOf,typeInfo,hj,hj',qQ]
def Yp.awO{fs:Array Field}{f:Field}{i sz:Nat}{cs:aa AV}(ho:o.op= .fieldAddr T x i)(hx:E.ev x=M (.fp cs))(hT:P.underlying T=M (.struct fs))(hf:fs[i]? =M f)(hs:(P.info? f.type).map (·.size)=M (sz+1)):
  Yp P E σ o (.fp (cs.drop f.offset)):=λA w ρ _ hρ=>by
 obtain⟨j,hj,hj'⟩:=zj.1 hs;obtain⟨b,of,us,h1,hb,hA,hc,hr⟩:=(hρ _ _ hx).EE;refine⟨_, .fp _ b (of+f.offset) (us.drop f.offset) hb hA (hr.drop _).1 (λj v hj=> ?_) (hr.drop _).2,λw' _=>by simp[execOp,ho,Instr.fieldAt,h1,run_underlying hT,hf,Instr.sureAddr,fieldPlace,sizeOf,typeInfo,hj,hj',qQ]⟩;rw[xD];simp_all
def Yp.atO{fs:Array Field}{f:Field}{i sz k:Nat}(ho:o.op= .fieldAddr T x i)(hx:E.ev x=M (.rp v k))(hT:P.underlying T=M (.struct fs))(hf:fs[i]? =M f)(hs:(P.info? f.type).map (·.size)=M (sz+1)):
  Yp P E σ o (.rp v (k+f.offset)):=λA w ρ _ hρ=>by
 obtain⟨j,hj,hj'⟩:=zj.1 hs;obtain⟨g,h1,h2⟩:=(hρ _ _ hx).IC;exact⟨_, .rp v _ g h1,λw' _=>by simp[execOp,ho,Instr.fieldAt,h2,run_underlying hT,hf,Instr.sureAddr,fieldPlace,sizeOf,typeInfo,hj,hj',qQ]⟩
def Yp.ail{q:Nat}{l:aa (U.cQ q)}(ho:o.op= .indexAddr T x y)(hx:E.ev x=M (.sl q l))(hy:E.ev y=M (.n k m))(hT:P.underlying T=M (.slice e))(hs:(P.info? e).map (·.size)=M (U.sz q))
  (hm:0<=m/\m<zZ l):Yp P E σ o (.fp (U.cells q l[m.toNat]!)):=λA w ρ _ hρ=>by
 obtain⟨j,hj,hj'⟩:=zj.1 hs;have hr:=hρ _ _ hx;obtain⟨p,cap,_,hv,_⟩:=hr.sG;rw[hv]at hr;obtain⟨b,off,us,hp,hb,hA,hl,hc,hL⟩:=hr.aIn (i:=m.toNat) aj;refine⟨_, .fp _ b (off+m.toNat*(U.sz q)) us hb hA hL.1 hc hL.2,λw' _=> ?_⟩;have hy':=(hρ _ _ hy).bR;simp[execOp,ho,Instr.indexAt,hv,hp,hy',run_underlying hT,sizeOf,typeInfo,hj,hj',qQ,asIntOf,hm]
def Yp.afu{q:Nat}{l:aa (U.cQ q)}(i:Nat)(ho:o.op= .indexAddr T x y)(hx:E.ev x=M (.lit v))(hσ:σ[i]? =M (.row v q l))(hy:E.ev y=M (.n k m))(hT:P.underlying T=M (.slice e))(hs:(P.info? e).map (·.size)=M (U.sz q))
  (hm:0<=m/\m<zZ l):Yp P E σ o (.rp v (m.toNat*(U.sz q))):=λA w ρ hd hρ=>by
 obtain⟨j,hj,hj'⟩:=zj.1 hs;obtain⟨us,h1,_⟩:=hd.1 _ (List.mem_of_getElem? hσ);obtain⟨g,cap,cur,hv,hg,_⟩:=h1.at aj;have hx':=(hρ _ _ hx).bR;have hy':=(hρ _ _ hy).bR;refine⟨_, .rp v _ g hg,λw' _=> ?_⟩;simp[execOp,ho,Instr.indexAt,hx',hv,hy',run_underlying hT,sizeOf,typeInfo,hj,hj',qQ,asIntOf,hm]
def Yp.asX{b' of sz n':Nat}(ho:o.op= .indexAddr T x y)(hx:E.ev x=M (.lit (.pointer (M ⟨b',of,J⟩))))(hy:E.ev y=M (.n k m))(hT:P.underlying T=M (.array n' e))(hs:(P.info? e).map (·.size)=M sz)
  (hm:0<=m/\m<n'):Yp P E σ o (.lit (.pointer (M ⟨b',of+m.toNat*sz,J⟩))):=Yp.lits λρ hρ w=>by
 obtain⟨j,hj,hj'⟩:=zj.1 hs;simp[execOp,ho,Instr.indexAt,hρ _ _ hx,hρ _ _ hy,run_underlying hT,sizeOf,typeInfo,hj,hj',qQ,asIntOf,hm,Instr.sureAddr]
def Yp.axN{k' sz n':Nat}(ho:o.op= .indexAddr T x y)(hx:E.ev x=M (.rp v k'))(hy:E.ev y=M (.n k m))(hT:P.underlying T=M (.array n' e))(hs:(P.info? e).map (·.size)=M sz)
  (hm:0<=m/\m<n'):Yp P E σ o (.rp v (k'+m.toNat*sz)):=λA w ρ _ hρ=>by
 obtain⟨j,hj,hj'⟩:=zj.1 hs;obtain⟨g,h1,h2⟩:=(hρ _ _ hx).IC;have hy':=(hρ _ _ hy).bR;exact⟨_, .rp v _ g h1,λw' _=>by simp[execOp,ho,Instr.indexAt,h2,hy',run_underlying hT,sizeOf,typeInfo,hj,hj',qQ,asIntOf,hm,Instr.sureAddr]⟩
def Yp.ax2{sz n':Nat}{cs:aa AV}(ho:o.op= .indexAddr T x y)(hx:E.ev x=M (.fp cs))(hy:E.ev y=M (.n k m))(hT:P.underlying T=M (.array n' e))(hs:(P.info? e).map (·.size)=M sz)
  (hm:0<=m/\m<n'):Yp P E σ o (.fp (cs.drop (m.toNat*sz))):=λA w ρ _ hρ=>by
 obtain⟨j,hj,hj'⟩:=zj.1 hs;obtain⟨b,of,us,h1,hb,hA,hc,hr⟩:=(hρ _ _ hx).EE;have hy':=(hρ _ _ hy).bR;refine⟨_, .fp _ b (of+m.toNat*sz) (us.drop (m.toNat*sz)) hb hA (hr.drop _).1 (λj v hj=> ?_) (hr.drop _).2,λw' _=>by simp[execOp,ho,Instr.indexAt,h1,hy',run_underlying hT,sizeOf,typeInfo,hj,hj',qQ,asIntOf,hm,Instr.sureAddr]⟩;rw[xD];simp_all
def nj(P:Program)(T:TypeId):Prop:=∃d,P.underlying T=M d/\match d with| .struct _| .array _ _=>False|_=>True
def mh(h:nj P T)(w:World):(isAgg T).run P w= .ok O w:=by
 obtain⟨d,hd,hm⟩:=h;unfold isAgg;cases d<;>first|exact hm.elim|simp[run_underlying hd]
def iT{w:World}{a:Addr}(h:nj P T)(hc:w.cell? a=M v):(loadVar T a).run P w= .ok v w:=by
 unfold loadVar;simp[mh h,Sem.run,hc]
def pJ(P:Program)(T:TypeId)(k:Nat):Prop:=(∃d,P.underlying T=M d/\match d with| .struct _| .array _ _=>True|_=>False)/\(P.info? T).map (·.size)=M k
def F7{k:Nat}(h:pJ P T k)(w:World):(isAgg T).run P w= .ok Z w:=by
 obtain⟨⟨d,hd,hm⟩,_⟩:=h;unfold isAgg;cases d<;>first|exact hm.elim|simp[run_underlying hd]
def run_loadCellsFrom{w:World}(a:Addr):∀(cs:aa Value) (i:Nat) (acc:Array Value),(∀j u,cs[j]? =M u->w.cell? (a.add (i+j))=M u)->(loadCellsFrom a i (zZ cs) acc).run P w= .ok (acc++cs.toArray) w
 |[],i,acc,_=>by simp[loadCellsFrom]
 |c::cs,i,acc,h=>by
  have h0:=h 0 c rfl;rw[yG]at h0;simp only[ya,loadCellsFrom];have ih:=run_loadCellsFrom a cs (i+1) (acc.push c) λj u hj=>by
   have:=h (j+1) u (by simpa using hj)
   rwa [show i+(j+1)=i+1+j from aj]at this
  simp[Sem.run,h0,ih]
def iC{w:World}{a:Addr}{cs:aa Value}(h:pJ P T (zZ cs))(hc:∀j u,cs[j]? =M u->w.cell? (a.add j)=M u):(loadVar T a).run P w= .ok (.agg cs.toArray) w:=by
 obtain⟨i,hi,hi'⟩:=zj.1 h.2;have:=run_loadCellsFrom (P:=P) (w:=w) a cs 0 #[] (by simpa using hc);unfold loadVar;simp[F7 h,sizeOf,typeInfo,hi,hi',loadCells,this]
def kB{w w':World}{b o:Nat}(h:w'.heap[b]? =w.heap[b]?):w'.cell? ⟨b,o,J⟩=w.cell? ⟨b,o,J⟩:=by simp[World.cell?,h]
def Yp.asT{cs:aa AV}(ho:o.op= .load T x)(hx:E.ev x=M (.fp cs))(hT:nj P T)(ha:cs[0]? =M av):Yp P E σ o av:=λA w ρ _ hρ=>by
 obtain⟨b,of,us,h1,hb,hA,hc,hr⟩:=(hρ _ _ hx).EE;obtain⟨v,h2,h3⟩:=hr.get ha;refine⟨v,h3,λw' hw=> ?_⟩;have hcell:w'.cell? ⟨b,of,J⟩=M v:=by rw[kB (hw b hb (.inl hA))];exact hc 0 v h2
 simp[execOp,ho,Instr.loadAt,h1,Instr.sureAddr,iT hT hcell]
def Yp.afo{cs:aa AV}{n:Nat}(ho:o.op= .load T x)(hx:E.ev x=M (.fp cs))(hT:pJ P T n)(hn:n<=zZ cs):Yp P E σ o (.agg (cs.take n)):=λA w ρ _ hρ=>by
 obtain⟨b,of,us,h1,hb,hA,hc,hr⟩:=(hρ _ _ hx).EE;refine⟨_,Rel.nK (hr.take n),λw' hw=> ?_⟩;have hcell:∀j u,(us.take n)[j]? =M u->w'.cell? ((⟨b,of,J⟩:Addr).add j)=M u:=λj u hj=>by
  rw[qQ,kB (hw b hb (.inl hA))];rw[yA]at hj;simp_all
 have hl:zZ (us.take n)=n:=by rw[zL,hr.1];omega
 simp[execOp,ho,Instr.loadAt,h1,Instr.sureAddr,iC (by rw[hl];exact hT) hcell]
def Yp.FM{b' of:Nat}{cs:aa AV}{t:TypeId}(i:Nat)(ho:o.op= .load T x)(hx:E.ev x=M (.lit (.pointer (M ⟨b',of,J⟩))))(hσ:σ[i]? =M (.box b' t cs))(hT:nj P T)(ha:cs[of]? =M av):Yp P E σ o av:=λA w ρ hd hρ=>by
 have hm:=List.mem_of_getElem? hσ;obtain⟨us,h1,hr⟩:=hd.1 _ hm;obtain⟨v,h2,h3⟩:=bD.get hr ha;have hx':=(hρ _ _ hx).bR;refine⟨v,h3,λw' hw=> ?_⟩;have hcell:w'.cell? ⟨b',of,J⟩=M v:=by rw[kB (hw b' h1.lt (.inr (bE.2 ⟨_,hm,rfl⟩)))];exact h1.cell (by simpa using h2)
 simp[execOp,ho,Instr.loadAt,hx',Instr.sureAddr,iT hT hcell]
def Yp.auC{b' of n:Nat}{cs:aa AV}{t:TypeId}(i:Nat)(ho:o.op= .load T x)(hx:E.ev x=M (.lit (.pointer (M ⟨b',of,J⟩))))(hσ:σ[i]? =M (.box b' t cs))(hT:pJ P T n)(hn:of+n<=zZ cs):Yp P E σ o (.agg ((cs.drop of).take n)):=λA w ρ hd hρ=>by
 have hm:=List.mem_of_getElem? hσ;obtain⟨us,h1,hr⟩:=hd.1 _ hm;have hx':=(hρ _ _ hx).bR;refine⟨_,Rel.nK ((bD.drop of hr).take n),λw' hw=> ?_⟩;have hcell:∀j u,((us.drop of).take n)[j]? =M u->w'.cell? ((⟨b',of,J⟩:Addr).add j)=M u:=λj u hj=>by
  rw[qQ,kB (hw b' h1.lt (.inr (bE.2 ⟨_,hm,rfl⟩)))];rw[yA]at hj;split at hj
  ·rw[yK]at hj;exact h1.cell (by simpa using hj)
  ·cases hj
 have hl:zZ ((us.drop of).take n)=n:=by rw[zL,zX,hr.1];omega
 simp[execOp,ho,Instr.loadAt,hx',Instr.sureAddr,iC (by rw[hl];exact hT) hcell]
def Yp.aeP{k of:Nat}{q:Nat}{l:aa (U.cQ q)}(i m:Nat)(ho:o.op= .load T x)(hx:E.ev x=M (.rp v k))(hσ:σ[i]? =M (.row v q l))(hT:nj P T)(hk:k=m*(U.sz q)+of)(hm:m<zZ l)(ha:(U.cells q l[m]!)[of]? =M av):Yp P E σ o av:=λA w ρ hd hρ=>by
 have hmem:=List.mem_of_getElem? hσ;obtain⟨us,h1,h2,h3⟩:=hd.1 _ hmem;obtain⟨g,hg,hv⟩:=(hρ _ _ hx).IC;obtain⟨u,h4,h5⟩:=(h3 m hm).get ha;refine⟨u,h5,λw' hw=> ?_⟩;rw[yA]at h4;split at h4
 ·rw[yK]at h4;have hcell:w'.cell? ⟨g,k,J⟩=M u:=by rw[kB (hw g (h1.lt hg) (.inr (bE.2 ⟨_,hmem,hg⟩))),hk];exact h1.cells hg _ u h4
  simp[execOp,ho,Instr.loadAt,hv,Instr.sureAddr,iT hT hcell]
 ·cases h4
def Yp.auv{k of n:Nat}{q:Nat}{l:aa (U.cQ q)}(i m:Nat)(ho:o.op= .load T x)(hx:E.ev x=M (.rp v k))(hσ:σ[i]? =M (.row v q l))(hT:pJ P T n)(hk:k=m*(U.sz q)+of)(hm:m<zZ l)(hn:of+n<=(U.sz q)):Yp P E σ o (.agg (((U.cells q l[m]!).drop of).take n)):=λA w ρ hd hρ=>by
 have hmem:=List.mem_of_getElem? hσ;obtain⟨us,h1,h2,h3⟩:=hd.1 _ hmem;obtain⟨g,hg,hv⟩:=(hρ _ _ hx).IC;have hL:=h3 m hm;refine⟨_,Rel.nK ((hL.drop of).take n),λw' hw=> ?_⟩;have hcell:∀j u,((((us.drop (m*(U.sz q))).take (U.sz q)).drop of).take n)[j]? =M u->w'.cell? ((⟨g,k,J⟩:Addr).add j)=M u:=λj u hj=>by
  rw[qQ,kB (hw g (h1.lt hg) (.inr (bE.2 ⟨_,hmem,hg⟩))),hk];rw[yA]at hj;split at hj
  ·rw[yK,yA]at hj;split at hj
   ·rw[yK]at hj;exact h1.cells hg _ u (by rw[xD];exact hj)
   ·cases hj
  ·cases hj
 have hl:zZ ((((us.drop (m*(U.sz q))).take (U.sz q)).drop of).take n)=n:=by rw[zL,zX,hL.1,h2 m hm];omega
 simp[execOp,ho,Instr.loadAt,hv,Instr.sureAddr,iC (by rw[hl];exact hT) hcell]
end
def eH(r:bM)(σ:aa bM):bh (r::σ)=r.blk.toList++bh σ:=by
 unfold bh;grind
def fk(σ j:aa bM):bh (σ++j)=bh σ++bh j:=by simp[bh]
def lX{C:Cx}{σ:aa bM}{w w':World}{r:bM}(h:Good C σ w)(hk:Kp [] w w')(hr:r.blk=J\/r.blk=M w.heap.size)(hok:r.ok (al C (r::σ)) w'):Tr C [] σ w (r::σ) w':=by
 have hlt:∀b∈bh σ,b<w.heap.size:=λb hb=>by
  obtain⟨s,h1,h2⟩:=bE.1 hb;exact(h.res s h1).lt h2
 have hal:∀b,b<w.heap.size->al C σ b->al C (r::σ) b:=λb hb hA=>⟨hA.1,λhx=>by
  rw[eH]at hx;rcases zR.1 hx with hx|hx
  ·simp_all
  ·exact hA.2 hx⟩
 have hsame:∀b,b<w.heap.size->w'.heap[b]? =w.heap[b]? :=λb hb=>hk.block b hb (by simp);refine⟨⟨h.kept.trans hk (by simp),λs hs=> ?_,?_,λb hb=> ?_⟩,hk,λb hb hA=>⟨hal b hb hA,by simp⟩⟩
 ·rcases zk.1 hs with rfl|hs
  ·omega
  ·exact(h.res s hs).mono (λb hb hA=>⟨hal b hb hA,hsame b hb⟩) (λb hb=>hsame b ((h.res s hs).lt hb))
 ·rw[eH];rcases hr with hr|hr
  ·rw[hr];simpa using h.BR
  ·rw[hr];simp only[xE,yB,wg];exact⟨λhx=>by have:=hlt _ hx;omega,h.BR⟩
 ·rw[eH]at hb;rcases zR.1 hb with hx|hx
  ·rcases hr with hr|hr<;>rw[hr]at hx<;>simp at hx;exact .inr (by rw[hx];exact h.kept.size)
  ·exact h.own b hx
def A6{σ:aa bM}{i:Nat}{r r':bM}(h:σ[i]? =M r):σ=σ.take i++r::σ.drop (i+1)/\σ.set i r'=σ.take i++r'::σ.drop (i+1):=by
 obtain⟨hi,hr⟩:=zU.1 h;refine⟨?_,wP .. |>.trans (by rw[bO hi])⟩;rw[<-hr,<-yX hi,xT]
def Ao{σ:aa bM}{i:Nat}{r r':bM}(h:σ[i]? =M r)(hb:r'.blk=r.blk):bh (σ.set i r')=bh σ:=by
 obtain⟨q1,q2⟩:=A6 (r':=r') h;have e:bh σ=bh (σ.take i++r::σ.drop (i+1)):=congrArg bh q1;rw[q2,e];simp[fk,eH,hb]
def pW{C:Cx}{σ:aa bM}{w w':World}{r r':bM}{i:Nat}(h:Good C σ w)(hi:σ[i]? =M r)(hk:Kp r.blk.toList w w')(hr:r'.blk=r.blk\/r'.blk=M w.heap.size)(hok:r'.ok (al C (σ.set i r')) w'):Tr C r.blk.toList σ w (σ.set i r') w':=by
 obtain⟨h1,h2⟩:=A6 (r':=r') hi;generalize σ.take i=σ1 at h1 h2;generalize σ.drop (i+1)=σ2 at h1 h2;rw[h2]at hok ⊢;clear h2 hi;subst h1;have hlt:∀b∈bh (σ1++r::σ2),b<w.heap.size:=λb hb=>by
  obtain⟨s,h1,h2⟩:=bE.1 hb;exact(h.res s h1).lt h2
 have hb0:bh (σ1++r::σ2)=bh σ1++(r.blk.toList++bh σ2):=by rw[fk,eH]
 have hb1:bh (σ1++r'::σ2)=bh σ1++(r'.blk.toList++bh σ2):=by rw[fk,eH]
 have hmem:∀b,b∈bh (σ1++r'::σ2)->b∈bh (σ1++r::σ2)\/b=w.heap.size:=λb hb=>by
  rw[hb1]at hb;rw[hb0];simp only[zR]at hb ⊢;rcases hb with hb|hb|hb
  ·exact .inl (.inl hb)
  ·rcases hr with hr|hr<;>rw[hr]at hb
   ·exact .inl (.inr (.inl hb))
   ·simp at hb;exact .inr hb
  ·exact .inl (.inr (.inr hb))
 have hal:∀b,b<w.heap.size->al C (σ1++r::σ2) b->al C (σ1++r'::σ2) b:=λb hb hA=>⟨hA.1,λhx=>by
  rcases hmem b hx with h|h
  ·exact hA.2 h
  ·omega⟩
 have hnr:∀b,al C (σ1++r::σ2) b->b∉r.blk.toList:=λb hA hx=>hA.2 (by rw[hb0];simp[hx]);have hother:∀s,s∈σ1\/s∈σ2->∀b,s.blk=M b->b∉r.blk.toList:=λs hs b hb hx=>by
  have hd:=h.BR;rw[hb0]at hd;rcases hs with hs|hs
  ·exact(yH.1 hd).2.2 b (bE.2 ⟨s,hs,hb⟩) b (ye _ hx) rfl
  ·exact(yH.1 (yH.1 hd).2.1).2.2 b hx b (bE.2 ⟨s,hs,hb⟩) rfl
 refine⟨⟨h.kept.trans hk (λb hb hlt0=> ?_),λs hs=> ?_,?_,λb hb=> ?_⟩,hk,λb hb hA=>⟨hal b hb hA,hnr b hA⟩⟩
 ·have:b∈bh (σ1++r::σ2):=by rw[hb0];simp[hb]
  rcases h.own b this with h|h
  ·exact h
  ·omega
 ·have hs':s=r'\/s∈σ1\/s∈σ2:=by
   simp only[zR,zk]at hs;rcases hs with h|h|h
   ·simp_all
   ·simp_all
   ·simp_all
  rcases hs' with rfl|hs'
  ·omega
  ·have hm:s∈σ1++r::σ2:=by rcases hs' with h|h<;>simp[h]
   exact(h.res s hm).mono (λb hb hA=>⟨hal b hb hA,hk.block b hb (hnr b hA)⟩) (λb hb=>hk.block b ((h.res s hm).lt hb) (hother s hs' b hb))
 ·have hd:=h.BR;rcases hr with hr|hr
  ·simp_all
  ·rw[hb1,hr];rw[hb0]at hd;have hn1:w.heap.size∉bh σ1:=λhx=>by have:=hlt w.heap.size (by rw[hb0];simp[zR,hx]);omega
   have hn2:w.heap.size∉bh σ2:=λhx=>by have:=hlt w.heap.size (by rw[hb0];simp[hx]);omega
   obtain⟨d1,d2,d3⟩:=yH.1 hd;obtain⟨d4,d5,d6⟩:=yH.1 d2;refine yH.2 ⟨d1,?_,λa ha b hb hab=> ?_⟩
   ·simp only[xE,yB,wg];exact⟨hn2,d5⟩
   ·subst hab;simp only[xE,yB,yl,zk]at hb;rcases hb with rfl|hb
    ·simp_all
    ·exact d3 a ha a (ym _ hb) rfl
 ·rcases hmem b hb with h1|h1
  ·exact h.own b h1
  ·exact .inr (by rw[h1];exact h.kept.size)
def awK{C:Cx}{σ:aa bM}{w:World}{r:bM}(h:r.blk=J\/r.blk=M w.heap.size):∀b,b<w.heap.size->al C σ b->al C (r::σ) b:=λb hb hA=>⟨hA.1,λhx=>by
 rw[eH]at hx;rcases zR.1 hx with hx|hx
 ·simp_all
 ·exact hA.2 hx⟩
def iI(w:World)(x:Obj):Kp [] w (w.alloc x):=⟨rfl,rfl,rfl,by simp,λk hk _=>heap_alloc_old w x hk⟩
def H6(w:World)(x:Obj):Kp [] w (w.drew.alloc x):=⟨rfl,rfl,rfl,by simp,λk hk _=>heap_alloc_old w.drew x hk⟩
def OS{C:Cx}{σ:aa bM}{w w':World}{r:bM}{as0:aa AV}{us:aa Value}(hr:bD (al C σ) w as0 us)(h:r.blk=J\/r.blk=M w.heap.size)(hk:Kp [] w w'):bD (al C (r::σ)) w' as0 us:=
 hr.mono λb hb hA=>⟨awK h b hb hA,hk.block b hb (by simp)⟩
def dD:AV->aa AV
 | .agg cs=>cs
 |a=>[a]
def iV:AV->Bool
 | .lit v=>v.oneCell'
 | .iF _=>O
 | .agg _=>O
 |_=>Z
def uu:AV->Bool
 | .agg cs=>cs.all iV
 |a=>iV a
def mq{v:Value}(h:v.oneCell'=true):v.cells=#[v]:=by cases v<;>first|rfl|cases h
def Rel.one{A:Nat->Prop}{w:World}{a:AV}{v:Value}(h:Rel A w a v)(h1:iV a=Z):v.oneCell'=Z:=by
 cases h with
 |lit v=>exact h1
 |agg=>cases h1
 |iF=>cases h1
 |_=>rfl
def bD.one{A:Nat->Prop}{w:World}{as0:aa AV}{us:aa Value}(h:bD A w as0 us)(h1:as0.all iV=Z):∀v∈us,v.oneCell'=Z:=λv hv=>by
 obtain⟨j,hj,rfl⟩:=xh hv;have hlt:j<zZ as0:=by rw[<-h.1];exact hj
 exact(h.2 j as0[j] us[j] (zD hlt) (zD hj)).one (zn.1 h1 _ (yR hlt))
def Rel.cells{A:Nat->Prop}{w:World}{a:AV}{v:Value}(h:Rel A w a v)(h1:uu a=Z):bD A w (dD a) v.cells.toList/\∀u∈v.cells.toList,u.oneCell'=Z:=by
 by_cases ha:∃cs,a= .agg cs
 ·obtain⟨cs,rfl⟩:=ha;obtain⟨us,rfl,h2⟩:=h.gO;exact⟨by simpa [Value.cells,dD]using h2,by simpa [Value.cells]using h2.one h1⟩
 ·have hc:iV a=Z:=by
   cases a<;>first|exact h1|(exact iy ⟨_,rfl⟩ ha)
  have hac:dD a=[a]:=by
   cases a<;>first|rfl|(exact iy ⟨_,rfl⟩ ha)
  have h2:=h.one hc;rw[hac,mq h2];refine⟨⟨rfl,λj x y hx hy=> ?_⟩,λu hu=>by simp at hu;rw[hu];exact h2⟩;cases j with
  |zero=>simp at hx hy;subst hx hy;exact h
  |succ j=>simp at hx
def Pw(σ:aa bM)(a:AV):Prop:=∀(A:Nat->Prop) (w:World) (v:Value),Hd A σ w->Rel A w a v->bD A w (dD a) v.cells.toList/\∀u∈v.cells.toList,u.oneCell'=Z
def Pw.p{σ:aa bM}{a:AV}(h:uu a=Z):Pw σ a:=λ_ _ _ _ hr=>hr.cells h
def Uw{σ:aa bM}{A:Nat->Prop}{w:World}{v:Value}{q:Nat}{l:aa (U.cQ q)}(i:Nat)(hσ:σ[i]? =M (.row v q l))(hd:Hd A σ w):v.oneCell'=Z:=by
 obtain⟨us,h1,_⟩:=hd.1 _ (List.mem_of_getElem? hσ);obtain⟨p,cap,rfl,_⟩:=h1.len;rfl
def Pw.own{σ:aa bM}{v:Value}{q:Nat}{l:aa (U.cQ q)}(i:Nat)(hσ:σ[i]? =M (.row v q l)):Pw σ (.lit v):=λA w u hd hr=>by
 have h1:=Uw i hσ hd;rw[hr.bR,mq h1];exact⟨bD.cons (.lit v) bD.nil,λx hx=>by simp at hx;rw[hx];exact h1⟩
section
variable {P:Program} {E:Env} {σ:aa bM} {o:Oper} {T T' e:TypeId} {x y z:Operand} {av bv:AV} {v u:Value} {m n:Int} {b:Bool} {k:IntKind} {C:Cx} {X:aa Nat}
def Yv.alloc{zs:aa Value}(ho:o.op= .alloc T)(hz:(P.info? T).bind (λi=>i.zero.map (·.cells))=M zs.toArray):Yv P E σ o C [] (λa σ'=>∃b,a= .lit (.pointer (M ⟨b,0,J⟩))/\σ'= .box b T (zs.map .lit)::σ):=λw ρ hg _=>by
 obtain⟨i,h1,h2⟩:=zl.1 hz;obtain⟨zv,h3,h4⟩:=zj.1 h2;refine⟨_,w.alloc (.cells zs.toArray T),_,_,⟨w.heap.size,rfl,rfl⟩,lX hg (iI w _) (.inr rfl) ⟨zs,heap_alloc_new w _,bD.lits _⟩,?_, .lit _⟩;simp[execOp,ho,Instr.alloc,zeroValue,typeInfo,h1,h3,newVar,newRow,h4]
def Yv.box(ho:o.op= .box T x)(hx:E.ev x=M av)(h1:Pw σ av):Yv P E σ o C [] (λa σ'=>∃b,a= .lit (.pointer (M ⟨b,0,J⟩))/\σ'= .box b T (dD av)::σ):=λw ρ hg hρ=>by
 have hr:=(h1 _ _ _ hg.hd (hρ _ _ hx)).1;refine⟨_,w.alloc (.cells (ρ x).cells T),_,_,⟨w.heap.size,rfl,rfl⟩,lX hg (iI w _) (.inr rfl) ⟨(ρ x).cells.toList,heap_alloc_new w _,OS hr (.inr rfl) (iI w _)⟩,?_, .lit _⟩;simp[execOp,ho,Instr.box,newVar,newRow]
def run_store{w:World}{g of:Nat}{cur:Array Value}{t:TypeId}{a:Value}{sz:Nat}(hs:(P.info? T).map (·.size)=M sz)(hb:Blk w g cur t)(hsz:a.cells.size=sz)(h1:∀u∈a.cells.toList,u.oneCell'=Z)(hlt:of+sz<=cur.size):
  (Instr.storeAt T (.pointer (M ⟨g,of,J⟩)) a).run P w= .ok () (w.setRow g (cur.toList.take of++a.cells.toList++cur.toList.drop (of+sz)).toArray):=by
 obtain⟨j,hj,hj'⟩:=zj.1 hs;have:=run_storeCells_at P g of t a.cells.toList 0 cur w hb (by rw[yf,hsz];omega) h1;simp only[Instr.storeAt,Instr.sureAddr,storeVar,sizeOf,typeInfo];simp[hj,hj',hsz,this]
def mU(w:World)(g:Nat)(cs:Array Value):Kp [g] w (w.setRow g cs):=⟨rfl,rfl,rfl,by simp,λk _ hk=>setRow_other w g k _ (λe=>hk (by simp[e]))⟩
def Yu.GX{g of sz:Nat}{cs:aa AV}{t:TypeId}(i:Nat)(ho:o.op= .store T x y)(hx:E.ev x=M (.lit (.pointer (M ⟨g,of,J⟩))))(hy:E.ev y=M av)(hσ:σ[i]? =M (.box g t cs))(hs:(P.info? T).map (·.size)=M sz)(hp:Pw σ av)(hsz:zZ (dD av)=sz)(hlt:of+sz<=zZ cs):
  Yu P E σ o C [g] (σ.set i (.box g t (cs.take of++dD av++cs.drop (of+sz)))):=λw ρ hg hρ=>by
 obtain⟨us,h1,h2⟩:=hg.res _ (List.mem_of_getElem? hσ);obtain⟨h3,h4⟩:=hp _ _ _ hg.hd (hρ _ _ hy);have hx':=(hρ _ _ hx).bR;have h5:(ρ y).cells.size=sz:=by rw[<-yf,h3.1,hsz]
 have hrun:=run_store (P:=P) (T:=T) (of:=of) (a:=ρ y) hs h1 h5 h4 (by simp;rw[h2.1];exact hlt);refine⟨w.setRow g (us.take of++(ρ y).cells.toList++us.drop (of+sz)).toArray,pW hg hσ (mU w g _) (.inl rfl) ⟨us.take of++(ρ y).cells.toList++us.drop (of+sz),?_,?_⟩,?_⟩
 ·have:=setRow_heap w g us.toArray (us.take of++(ρ y).cells.toList++us.drop (of+sz)).toArray t (0,0) h1;exact this
 ·have hal:∀b,b<w.heap.size->al C σ b->al C (σ.set i (.box g t (cs.take of++dD av++cs.drop (of+sz)))) b/\(w.setRow g (us.take of++(ρ y).cells.toList++us.drop (of+sz)).toArray).heap[b]? =w.heap[b]? :=λb hb hA=>by
   have hbk:=Ao (r':=bM.box g t (cs.take of++dD av++cs.drop (of+sz))) hσ rfl;refine⟨⟨hA.1,by rw[hbk];exact hA.2⟩,setRow_other w g b _ (λe=>hA.2 (bE.2 ⟨_,List.mem_of_getElem? hσ,by rw[<-e];rfl⟩))⟩
  exact(((h2.take of).app h3).app (h2.drop (of+sz))).mono hal
 ·simp[execOp,ho,hx',hrun]
def Yu.agC{kk of n m:Nat}{q:Nat}{l:aa (U.cQ q)}(i:Nat)(qq:U.cQ q)(ho:o.op= .store T x y)(hx:E.ev x=M (.rp v kk))(hy:E.ev y=M av)(hσ:σ[i]? =M (.row v q l))(hs:(P.info? T).map (·.size)=M n)(hp:uu av=Z)(hn:zZ (dD av)=n)
  (hk:kk=m*(U.sz q)+of) (hm:m<zZ l) (hlt:of+n<=(U.sz q)) (hql:zZ (U.cells q qq)=U.sz q) (hq:∀A w us,bD A w ((U.cells q l[m]!).take of++dD av++(U.cells q l[m]!).drop (of+n)) us->bD A w (U.cells q qq) us):
  Yu P E σ o C (xU (fU v)) (σ.set i (.row v q (l.set m qq))):=λw ρ hg hρ=>by
 obtain⟨us,h1,h2,h3⟩:=hg.res _ (List.mem_of_getElem? hσ);obtain⟨h4,h5⟩:=(hρ _ _ hy).cells hp;obtain⟨g,hgb,hv⟩:=(hρ _ _ hx).IC;obtain⟨g',cap,cur,hv',hgb',hB,q1,q2,q3,q4⟩:=h1.at aj;have hgg:g'=g:=by rw[hgb']at hgb;exact zJ.inj hgb
 subst hgg;have h6':zZ (ρ y).cells.toList=n:=by rw[h4.1,hn]
 have h6:(ρ y).cells.size=n:=by rw[<-yf,h6']
 have hmz:m*(U.sz q)+(U.sz q)<=zZ l*(U.sz q):=by rw[<-yL];exact yS _ hm
 have hcz:zZ l*(U.sz q)<=(cap+1)*(U.sz q):=yS _ q1;have hul:=h1.1;have hrun:=run_store (P:=P) (T:=T) (of:=kk) (a:=ρ y) hs hB h6 h5 (by rw[q3,hk];omega);have hlen:zZ us=zZ l*(U.sz q):=h1.1;have hmz2:∀j,j<zZ l->j*(U.sz q)+(U.sz q)<=zZ us:=λj hj=>by rw[hlen,<-yL];exact yS _ hj
 have hpart:∀b,al C (σ.set i (.row v q (l.set m qq))) b↔al C σ b:=λb=>by
  have hbk:=Ao (r':=bM.row v q (l.set m qq)) hσ rfl;unfold al;rw[hbk]
 have hal:∀b,b<w.heap.size->al C σ b->al C (σ.set i (.row v q (l.set m qq))) b/\(w.setRow g' (cur.toList.take kk++(ρ y).cells.toList++cur.toList.drop (kk+n)).toArray).heap[b]? =w.heap[b]? :=λb hb hA=>
  ⟨(hpart b).2 hA,setRow_other w g' b _ (λe=>hA.2 (bE.2 ⟨_,List.mem_of_getElem? hσ,by rw[e];exact hgb⟩))⟩
 refine⟨w.setRow g' (cur.toList.take kk++(ρ y).cells.toList++cur.toList.drop (kk+n)).toArray,pW (r:= .row v q l) hg hσ (by show Kp (xU (fU v)) _ _;rw[hgb];exact mU w g' _) (.inl rfl) ⟨us.take kk++(ρ y).cells.toList++us.drop (kk+n),⟨?_, .inr ⟨g',cap,(cur.toList.take kk++(ρ y).cells.toList++cur.toList.drop (kk+n)).toArray,?_,?_,?_,q2,?_,?_⟩⟩,?_,?_⟩,by simp[execOp,ho,hv,hrun]⟩
 ·have:=hmz2 m hm;rw[zu,zu,zL,zX,yq,h6',hlen];omega
 ·rw[yq];exact hv'
 ·exact setRow_heap w g' cur _ q (0,0) hB
 ·rw[yq];exact q1
 ·have:=hmz2 m hm;rw[yp,zu,zu,zL,zX,h6',yf,q3];omega
 ·have hk':kk+n<=zZ l*(U.sz q):=aj;have hc2:zZ l*(U.sz q)<=zZ cur.toList:=by rw[show zZ cur.toList=cur.size from yf,q3];exact hcz
  rw[<-q4,yq];apply List.ext_getElem?;intro j;simp only[yA,yJ,zu,zL,yK,h6',yf];have hcl:cur.size=(cap+1)*(U.sz q):=q3;by_cases e1:j<zZ l*(U.sz q)
  ·rw[bO e1];by_cases e2:j<kk
   ·rw[bO aj,bO aj,bO aj,bO aj,bO aj,bO aj];rw[bO aj]
   ·by_cases e3:j<kk+n
    ·rw[bO aj,bP aj,bO aj,bP aj]
     congr 1
     omega
    ·rw[bP aj,bP aj,bO aj]
     congr 1
     omega
  ·rw[bP e1];rw[bP aj,bP aj]
 ·intro j hj;rw[yq]at hj;by_cases hjm:j=m
  ·subst hjm;rw[getElem!_pos _ j (by rw[yq];exact hj),List.getElem_set_self];exact hql
  ·rw[getElem!_pos _ j (by rw[yq];exact hj),List.getElem_set_ne (Ne.symm hjm),<-getElem!_pos l j hj];exact h2 j hj
 ·intro j hj;rw[yq]at hj;have hb:=hmz2 j hj;have hbm:=hmz2 m hm;by_cases hjm:j=m
  ·subst hjm;rw[getElem!_pos _ j (by rw[yq];exact hj),List.getElem_set_self];refine hq _ _ _ ?_;have hL:=h3 j hj;have hz:=h2 j hj;have hR:=(((hL.take of).app h4).app (hL.drop (of+n))).mono hal;have e:((us.take kk++(ρ y).cells.toList++us.drop (kk+n)).drop (j*(U.sz q))).take (U.sz q)=((us.drop (j*(U.sz q))).take (U.sz q)).take of++(ρ y).cells.toList++((us.drop (j*(U.sz q))).take (U.sz q)).drop (of+n):=by
    apply List.ext_getElem?;intro a;simp only[yA,yJ,zu,zL,yK,h6',zX];by_cases e1:a<(U.sz q)
    ·rw[bO e1];by_cases e2:a<of
     ·rw[bO aj,bO aj,bO aj,bO aj,bO aj,bO aj];rw[bO aj]
     ·by_cases e3:a<of+n
      ·rw[bO aj,bP aj,bO aj,bP aj]
       congr 1
       omega
      ·rw[bP aj,bP aj,bO aj]
       congr 1
       omega
    ·rw[bP e1,bP aj,bP aj]
   rw[e];exact hR
  ·rw[getElem!_pos _ j (by rw[yq];exact hj),List.getElem_set_ne (Ne.symm hjm),<-getElem!_pos l j hj];have e:((us.take kk++(ρ y).cells.toList++us.drop (kk+n)).drop (j*(U.sz q))).take (U.sz q)=(us.drop (j*(U.sz q))).take (U.sz q):=by
    have hcase:j*(U.sz q)+(U.sz q)<=m*(U.sz q)\/m*(U.sz q)+(U.sz q)<=j*(U.sz q):=by
     rcases Nat.lt_or_gt_of_ne hjm with h|h
     ·left;rw[<-yL];exact yS _ h
     ·right;rw[<-yL];exact yS _ h
    apply List.ext_getElem?;intro a;simp only[yA,yJ,zu,zL,yK,h6',yf];by_cases e1:a<(U.sz q)
    ·rw[bO e1,bO e1];rcases hcase with hc|hc
     ·rw[bO aj,bO aj,bO aj]
     ·rw[bP aj]
      congr 1
      omega
    ·rw[bP e1,bP e1]
   rw[e];exact(h3 j hj).mono hal
end
inductive F2 {α:Type} {β:Type} (R:α->β->Prop):List α->List β->Prop
 |nil:F2 R [] []
 |cons {a:α} {b:β} {as0:List α} {bs:List β} (h:R a b) (hs:F2 R as0 bs):F2 R (a::as0) (b::bs)
def ab1(place:Nat->af (Nat×Nat))(cells:aa AV):aa (Nat×AV)->af (aa AV)
 |[]=>M cells
 |(i,a)::rest=>
  match place i with
  |none=>J
  |some (off,size)=>
   match zg (dD a).length size&&z7 (off+size) cells.length&&uu a with
   |true=>ab1 place (cells.take off++dD a++cells.drop (off+size)) rest
   |false=>J
def foldl_set(us:aa Value):∀(k off:Nat) (init:Array Value),off+k+zZ us<=init.size->
  ((us.zipIdx k).foldl (λcs (p:Value×Nat)=>cs.setIfInBounds (off+p.2) p.1) init).toList=init.toList.take (off+k)++us++init.toList.drop (off+k+zZ us):=by
 induction us with
 |nil=>intro k off init h;simp
 |cons u us ih=>
  intro k off init h;simp only[ya]at h;rw[List.zipIdx_cons,List.foldl_cons,ih (k+1) off _ (by simp;omega)];have h1:off+k<zZ init.toList:=by simp;omega
  rw[Array.toList_setIfInBounds];have e1:(init.toList.set (off+k) u).take (off+(k+1))=init.toList.take (off+k)++[u]:=by
   rw[wP,bO h1];have e:off+(k+1)=zZ (init.toList.take (off+k))+1:=by rw[zL];omega
   rw[e,List.take_length_add_append];simp
  have e2:(init.toList.set (off+k) u).drop (off+(k+1)+zZ us)=init.toList.drop (off+k+(zZ us+1)):=by
   rw[List.drop_set_of_lt aj]
   congr 1
   omega
  rw[e1,e2];simp
def Gq{A:Nat->Prop}{w:World}{place:Nat->af (Nat×Nat)}:∀{ps:aa (Nat×AV)} {qs:aa (Nat×Value)} {cs cs':aa AV} {init:Array Value},bD A w cs init.toList->
  F2 (λ(p:Nat×AV) (q:Nat×Value)=>p.1=q.1/\Rel A w p.2 q.2) ps qs->ab1 place cs ps=M cs'->∃us:Array Value,Instr.fill place init qs=M us/\bD A w cs' us.toList
 |[],_,cs,cs',init,hi,hp,hf=>by
  cases hp;cases hf;exact⟨init,rfl,hi⟩
 |(i,a)::ps,_,cs,cs',init,hi,hp,hf=>by
  cases hp with
  |@cons _ q _ qs h1 h2=>
   obtain⟨j,v⟩:=q;obtain⟨h3,h4⟩:=h1;subst h3;unfold ab1 at hf;unfold Instr.fill;cases hpl:place i with
   |none=>rw[hpl]at hf;cases hf
   |some os=>
    obtain⟨off,size⟩:=os;rw[hpl]at hf;simp only at hf ⊢;split at hf
    ·rename_i hc;simp only[zh,Nat.ble_eq]at hc;obtain⟨⟨hc1,hc2⟩,hc3⟩:=hc;have hc1:=yI hc1;obtain⟨h5,h6⟩:=h4.cells hc3;have hvs:v.cells.size=size:=by rw[<-yf,h5.1,hc1]
     have his:init.size=zZ cs:=by rw[<-yf,hi.1]
     rw[bP (by simp;omega)];refine Gq (cs:=cs.take off++dD a++cs.drop (off+size)) ?_ h2 hf;have hvl:zZ v.cells.toList=size:=by rw[yf,hvs]
     have e:(v.cells.zipIdx.foldl (λcs (x:Value×Nat)=>match x with|(c,j)=>cs.setIfInBounds (off+j) c) init).toList=init.toList.take off++v.cells.toList++init.toList.drop (off+size):=by
      have:=foldl_set v.cells.toList 0 off init (by rw[hvl];omega);rw[hvl,yG]at this;rw[<-this,<-Array.foldl_toList,Array.toList_zipIdx]
     rw[e];exact((hi.take off).app h5).app (hi.drop (off+size))
    ·cases hf
def Env.evp(E:Env):aa (Nat×Operand)->af (aa (Nat×AV))
 |[]=>M []
 |(i,x)::xs=>match E.ev x,Env.evp E xs with
  |some a,M as0=>M ((i,a)::as0)
  |_,_=>J
def Env.oH{A:Nat->Prop}{w:World}{E:Env}{ρ:Operand->Value}(h:Qj A w E ρ):∀{xs:aa (Nat×Operand)} {as0:aa (Nat×AV)},E.evp xs=M as0->
  F2 (λ(p:Nat×AV) (q:Nat×Value)=>p.1=q.1/\Rel A w p.2 q.2) as0 (xs.map λp=>(p.1,ρ p.2))
 |[],as0,he=>by cases he;exact .nil
 |(i,x)::xs,as0,he=>by
  unfold Env.evp at he;cases h1:E.ev x with
  |none=>rw[h1]at he;cases he
  |some a=>
   cases h2:E.evp xs with
   |none=>rw[h1,h2]at he;cases he
   |some as'=>
    rw[h1,h2]at he;cases he;exact .cons ⟨rfl,h x a h1⟩ (Env.oH h h2)
def placesOf(P:Program)(T:TypeId):af (aa (Nat×Nat)):=match P.underlying T with
 |some (.struct fields)=>fields.toList.mapM λf=>(P.info? f.type).map λi=>(f.offset,i.size)
 |_=>J
def iP(P:Program)(T:TypeId):af (aa Value):=(P.info? T).bind λi=>i.zero.map (·.cells.toList)
section
variable {P:Program} {E:Env} {σ:aa bM} {o:Oper} {T T' e:TypeId} {x y z:Operand} {av bv:AV} {v u:Value} {m n:Int} {b:Bool} {k:IntKind} {C:Cx} {X:aa Nat}
def O2{ps:Array (Nat×Operand)}{ρ:Operand->Value}:(ps.map λ(i,x)=>(i,ρ x)).toList=ps.toList.map λp=>(p.1,ρ p.2):=by
 simp
def kS{q:Nat}:∀(l:aa (U.cQ q)),(∀i,i<zZ l->zZ (U.cells q l[i]!)=(U.sz q))->zZ (l.flatMap (U.cells q))=zZ l*(U.sz q)/\∀i,i<zZ l->((l.flatMap (U.cells q)).drop (i*(U.sz q))).take (U.sz q)=U.cells q l[i]!
 |[],_=>⟨by simp,λi hi=>by cases hi⟩
 |x::l,h=>by
  have h0:zZ (U.cells q x)=(U.sz q):=h 0 (by simp);obtain⟨h1,h2⟩:=kS l λi hi=>by
   have:=h (i+1) (by simpa using hi)
   assumption
  refine⟨by rw[xV,zu,h0,h1,ya,yL];omega,λi hi=> ?_⟩;rw[xV];cases i with
  |zero=>
   rw[Nat.zero_mul,wh,<-h0,List.take_left']
   ·rfl
   ·rfl
  |succ i=>
   have hi':i<zZ l:=by simpa using hi
   rw[show (x::l)[i+1]! =l[i]! from by rw[getElem!_pos _ (i+1) (by simpa using hi'),getElem!_pos l i hi'];rfl,<-h2 i hi'];rw[show (i+1)*(U.sz q)=zZ (U.cells q x)+i*(U.sz q)from by rw[h0,yL];omega,<-List.drop_drop,List.drop_left'];rfl
def pN{A:Nat->Prop}{w:World}{q:Nat}{l:aa (U.cQ q)}{us:aa Value}(hr:gr w v q (U.sz q) (zZ l) us)(hz:∀i,i<zZ l->zZ (U.cells q l[i]!)=(U.sz q))(h:bD A w (l.flatMap (U.cells q)) us):bM.ok A w (.row v q l):=
 ⟨us,hr,hz,λi hi=>by rw[<-(kS l hz).2 i hi];exact(h.drop _).take _⟩
def lF{A:Nat->Prop}{w:World}{q:Nat}{l:aa (U.cQ q)}(h:bM.ok A w (.row v q l)):∃us,gr w v q (U.sz q) (zZ l) us/\(∀i,i<zZ l->zZ (U.cells q l[i]!)=(U.sz q))/\bD A w (l.flatMap (U.cells q)) us:=by
 obtain⟨us,h1,h2,h3⟩:=h;refine⟨us,h1,h2,?_⟩;obtain⟨f1,f2⟩:=kS l h2;refine⟨by rw[f1,h1.1],λj a u ha hu=> ?_⟩;have hj:j<zZ l*(U.sz q):=by rw[<-f1];exact(zU.1 ha).1
 have hsz:0<(U.sz q):=by
  rcases wD (U.sz q)with h|h
  ·simp_all
  ·exact h
 have hi:j/(U.sz q)<zZ l:=by rw[wQ hsz];exact hj
 have hm:j%(U.sz q)<(U.sz q):=xF _ hsz;have he:j/(U.sz q)*(U.sz q)+j%(U.sz q)=j:=by rw[Nat.mul_comm];exact Nat.div_add_mod j (U.sz q)
 refine(h3 _ hi).2 (j%(U.sz q)) a u ?_ ?_
 ·rw[<-f2 _ hi,yA,bO hm,yK,he];exact ha
 ·simp_all
def get_append_left!{q:Nat}(l l2:aa (U.cQ q))(i:Nat)(h:i<zZ l):(l++l2)[i]! =l[i]! :=by
 rw[getElem!_pos _ i (by rw[zu];omega),xW h,<-getElem!_pos l i h]
def get_append_right!{q:Nat}(l l2:aa (U.cQ q))(i:Nat)(h:zZ l<=i)(h2:i<zZ l+zZ l2):(l++l2)[i]! =l2[i-l.length]! :=by
 rw[getElem!_pos _ i (by rw[zu];exact h2),wR h,<-getElem!_pos l2 (i-l.length) aj]
def PY{q:Nat}{l l2:aa (U.cQ q)}(h:∀i,i<zZ l->zZ (U.cells q l[i]!)=(U.sz q))(h2:∀i,i<zZ l2->zZ (U.cells q l2[i]!)=(U.sz q)):∀i,i<zZ (l++l2)->zZ (U.cells q (l++l2)[i]!)=(U.sz q):=λi hi=>by
 rw[zu]at hi;by_cases hlt:i<zZ l
 ·rw[get_append_left! _ _ _ hlt];exact h i hlt
 ·rw[get_append_right! _ _ _ aj hi];exact h2 _ aj
def Rm{zs:aa Value}{sz n:Nat}(hsz:zZ zs=sz)(hpos:0<sz):((Array.range (n*sz)).map (zs.toArray[· %zs.toArray.size]!)).toList=(zq n zs).flatten:=by
 apply List.ext_getElem?;intro j;have hfl:zZ (zq n zs).flatten=n*sz:=by simp[hsz]
 have hq:∀(q:Nat) (j:Nat),j<q*sz->(zq q zs).flatten[j]? =zs[j%sz]? :=by
  intro q;induction q with
  |zero=>intro j hj;simp at hj
  |succ q ih=>
   intro j hj;rw[yM,wE,yJ];split
   ·rename_i h;rw[hsz]at h;rw[wF h]
   ·rename_i h;rw[hsz,ih _ (by rw[yL]at hj;omega),Nat.mod_eq_sub_mod (by omega:sz<=j)]
 by_cases hj:j<n*sz
 ·rw[hq n j hj];have hmod:j%sz<sz:=xF _ hpos;simp[hj,hsz,hmod]
 ·rw[wj (l:=(zq n zs).flatten) (by rw[hfl];omega)];simp[hj]
def Yv.lit{len:Nat}{ps:Array (Nat×Operand)}{zs:aa Value}(l:aa (U.cQ e))(ho:o.op= .buildSlice T len ps)(hT:P.underlying T=M (.slice e))(hs:(P.info? e).map (·.size)=M (U.sz e))(hz:iP P e=M zs)
  (hzl:zZ zs=(U.sz e)) (hf:∀A w ρ,Hd A σ w->Qj A w E ρ->∃us:Array Value,Instr.fill (λi=>M (i*(U.sz e),(U.sz e))) (zq len zs).flatten.toArray (ps.toList.map λp=>(p.1,ρ p.2))=M us/\bD A w (l.flatMap (U.cells e)) us.toList) (hl:zZ l=len) (hu:∀i,i<zZ l->zZ (U.cells e l[i]!)=(U.sz e)) (hpos:0<len*(U.sz e)) (hsm:len*(U.sz e)<=2^24):
  Yv P E σ o C [] (λa σ'=>∃v,a= .lit v/\σ'= .row v e l::σ):=λw ρ hg hρ=>by
 obtain⟨it,hit,hz1⟩:=zl.1 hz;obtain⟨zv,hz2,hz3⟩:=zj.1 hz1;obtain⟨ie,hie,hse⟩:=zj.1 hs;have hee:it=ie:=by rw[hit]at hie;exact zJ.inj hie
 subst hee;have hzc:zv.cells=zs.toArray:=by rw[<-hz3]
 obtain⟨us,h1,h2⟩:=hf _ w ρ hg.hd hρ;have hrun:=run_buildSlice (P:=P) w T e len (ps.map λ(i,x)=>(i,ρ x)) us it zv hT hit hz2 (by rw[hse];omega) (by rw[hse];omega) (by
  rw[hse,hzc,O2,<-h1]
  congr 1
  apply Array.ext';exact Rm hzl (Nat.pos_of_mul_pos_left hpos))
 have hlp:0<len:=Nat.pos_of_mul_pos_right hpos;have hlen:zZ us.toList=len*(U.sz e):=by rw[h2.1,(kS l hu).1,hl]
 refine⟨_,w.alloc (.cells us e),_,_,⟨.slice (M ⟨w.heap.size,0,J⟩) len len,rfl,rfl⟩,?_,by simp[execOp,ho,hrun], .lit _⟩;obtain⟨ln,rfl⟩:∃ln,len=ln+1:=⟨len-1,aj⟩;refine lX (r:= .row (.slice (M ⟨w.heap.size,0,J⟩) (ln+1) (ln+1)) e l) hg (iI w _) (.inr rfl) (pN (us:=us.toList) ?_ hu ?_)
 ·rw[hl];refine⟨hlen, .inr ⟨w.heap.size,ln,us,rfl,heap_alloc_new w _,zx _,?_,by rw[<-yf,hlen],by rw[<-hlen,yh]⟩⟩;have:ln+1<=(ln+1)*(U.sz e):=Nat.le_mul_of_pos_right _ (Nat.pos_of_mul_pos_left hpos);unfold maxLen;omega
 ·exact OS (r:= .row (.slice (M ⟨w.heap.size,0,J⟩) (ln+1) (ln+1)) e l) h2 (.inr rfl) (iI w _)
def Yv.aHW{s:Nat}(ho:o.op= .buildSlice T 0 #[])(hT:P.underlying T=M (.slice e))(hs:(P.info? e).map (·.size)=M s):Yv P E σ o C [] (λa σ'=>∃v,a= .lit v/\σ'= .row v e ([]:aa (U.cQ e))::σ):=λw ρ hg hρ=>by
 obtain⟨j,hj,hj'⟩:=zj.1 hs;refine⟨_,w.alloc (.cells #[] e),_,_,⟨.slice (M ⟨w.heap.size,0,J⟩) 0 0,rfl,rfl⟩,lX hg (iI w _) (.inl rfl) ⟨[],⟨by simp, .inl ⟨_,rfl,rfl⟩⟩,λi hi=>by simp at hi,λi hi=>by simp at hi⟩,?_, .lit _⟩;simp[execOp,ho,Instr.buildSlice,run_underlying hT,sizeOf,typeInfo,hj,Instr.fill,newRow];rw[show Array.range 0=#[]from rfl,Array.map_empty]
def Yv.make{by':Nat}{zs:aa Value}(d:U.cQ e)(ho:o.op= .makeSlice T x y)(hx:E.ev x=M (.i m))(hy:E.ev y=M (.i n))(hT:P.underlying T=M (.slice e))(hs:(P.info? e).map (λi=>(i.size,i.bytes))=M ((U.sz e),by'))(hz:iP P e=M zs)(hb:z7 by' 4096=Z)(hsz:zZ zs=(U.sz e))(hd:∀A w,bD A w (U.cells e d) zs)(hpos:0<(U.sz e))
  (hm:0<=m/\m<=n/\n<=1073741824):Yv P E σ o C [] (λa σ'=>∃v,a= .lit v/\σ'= .row v e (zq m.toNat d)::σ):=λw ρ hg hρ=>by
 obtain⟨it,hit,hz1⟩:=zl.1 hz;obtain⟨zv,hz2,hz3⟩:=zj.1 hz1;obtain⟨ie,hie,hse⟩:=zj.1 hs;have hee:it=ie:=by rw[hit]at hie;exact zJ.inj hie
 subst hee;simp only[Prod.mk.injEq]at hse;obtain⟨s1,s2⟩:=hse;have hzc:zv.cells=zs.toArray:=by rw[<-hz3]
 have hby:by'<=4096:=by simpa using hb
 obtain⟨mm,rfl⟩:∃mm:Nat,m=mm:=⟨m.toNat,aj⟩;obtain⟨nn,rfl⟩:∃nn:Nat,n=nn:=⟨n.toNat,aj⟩;have hbb:(it.bytes:Int)*(nn:Int)<=281474976710656:=by
  have h1:it.bytes*nn<=4096*1073741824:=Nat.mul_le_mul aj aj;omega
 have hrun:=run_make (P:=P) w T e it zv hT hit hz2 .i64 .i64 mm nn aj aj hbb aj;have hx':=(hρ _ _ hx).bR;have hy':=(hρ _ _ hy).bR;refine⟨.slice (M ⟨w.heap.size,0,J⟩) mm nn,w.alloc (.cells (madeCells zv.cells (nn*it.size)) e),_,_,⟨.slice (M ⟨w.heap.size,0,J⟩) mm nn,rfl,rfl⟩,?_,?_, .lit _⟩
 ·rw[zw];have hcells:(madeCells zv.cells (nn*it.size)).toList=(zq nn zs).flatten:=by
   rw[hzc,s1];unfold madeCells;apply List.ext_getElem?;intro j;have hfl:zZ (zq nn zs).flatten=nn*(U.sz e):=by simp[hsz]
   have hq:∀(q:Nat) (j:Nat),j<q*(U.sz e)->(zq q zs).flatten[j]? =zs[j%(U.sz e)]? :=by
    intro q;induction q with
    |zero=>intro j hj;simp at hj
    |succ q ih=>
     intro j hj;rw[yM,wE,yJ];split
     ·rename_i h;rw[hsz]at h;rw[wF h]
     ·rename_i h;rw[hsz,ih _ (by rw[yL]at hj;omega),Nat.mod_eq_sub_mod (by omega:(U.sz e)<=j)]
   by_cases hj:j<nn*(U.sz e)
   ·rw[hq nn j hj];have hmod:j%(U.sz e)<(U.sz e):=xF _ hpos;simp[hj,hsz,hmod]
   ·rw[wj (l:=(zq nn zs).flatten) (by rw[hfl];omega)];simp[hj]
  by_cases hn0:nn=0
  ·have hm0:mm=0:=aj;subst hn0 hm0;exact lX hg (iI w _) (.inl rfl) ⟨[],⟨by simp, .inl ⟨_,rfl,rfl⟩⟩,λi hi=>by simp at hi,λi hi=>by simp at hi⟩
  ·obtain⟨nk,rfl⟩:∃nk,nn=nk+1:=⟨nn-1,aj⟩;have hu:∀i,i<zZ (zq mm d)->zZ (U.cells e (zq mm d)[i]!)=(U.sz e):=λi hi=>by
    rw[getElem!_pos _ i hi,List.getElem_replicate,<-(hd (λ_=>True) w).1,hsz]
   have hfl:∀q,zZ (zq q zs).flatten=q*(U.sz e):=λq=>by simp[hsz]
   have hfl2:∀(A:Nat->Prop) (w:World) (q:Nat),bD A w ((zq q d).flatMap (U.cells e)) (zq q zs).flatten:=λA w q=>by
    induction q with
    |zero=>exact bD.nil
    |succ q ih=>rw[yM,yM,xV,wE];exact(hd A w).app ih
   have htk:∀q q':Nat,q<=q'->((zq q' zs).flatten).take (q*(U.sz e))=(zq q zs).flatten:=λq q' h=>by
    obtain⟨r,rfl⟩:∃r,q'=q+r:=⟨q'-q,aj⟩;rw[<-List.replicate_append_replicate,List.flatten_append,<-hfl q];simp
   refine lX (r:= .row (.slice (M ⟨w.heap.size,0,J⟩) mm (nk+1)) e (zq mm d)) hg (iI w _) (.inr rfl) (pN (us:=(zq mm zs).flatten) ?_ hu ?_)
   ·rw[yY];refine⟨hfl mm, .inr ⟨w.heap.size,nk,_,rfl,heap_alloc_new w _,aj,by unfold maxLen;omega,?_,by rw[hcells];exact htk _ _ aj⟩⟩;rw[<-yf,hcells,hfl]
   ·simp_all
 ·simp[execOp,ho,hx',hy',hrun]
def Eo{w:World}{ty:TypeId}{i:TypeInfo}{zz:Value}{sz by' nn mm:Nat}{us news:aa Value}{xs:Value}(ht:P.underlying T=M (.slice e))(hi:P.info? e=M i)(hz:i.zero=M zz)(hs:i.size=sz)(hby:i.bytes=by')(hzs:zz.cells.size=sz)
  (hrow:gr w v e sz nn us) (hx:∃p c,xs= .slice p mm c/\(mm=0\/∃a,p=M a/\∀j u,news[j]? =M u->w.cell? (a.add j)=M u)) (hl:zZ news=mm*sz) (h1:∀u∈news,u.oneCell'=Z) (h63:nn+mm<=maxLen) (hb:(nn+mm)*by'<=140737488355328):
  ∃v' w',(Builtin.append_ #[T,T] ty #[v,xs]).run P w= .ok v' w'/\gr w' v' e sz (nn+mm) (us++news)/\Kp (fU v).toList w w'/\(fU v'=fU v\/fU v'=M w.heap.size):=by
 subst hs hby
 obtain⟨p,cx,rfl,hx⟩:=hx;by_cases hm:mm=0
 ·subst hm;have hn:news=[]:=xG (by simpa using hl);subst hn;obtain⟨q,cap,rfl,hcap⟩:=hrow.len;have hf:∀w,(Builtin.firstCells i.size 0 (.slice p 0 cx)).run P w= .ok #[] w:=λw=>by
   cases p<;>simp[Builtin.firstCells,loadCells,loadCellsFrom]
  have hrun:(Builtin.append_ #[T,T] ty #[.slice q nn cap, .slice p 0 cx]).run P w= .ok (.slice q nn cap) w:=by
   cases q<;>simp[Builtin.append_,run_underlying ht,sizeOf,typeInfo,hi,Builtin.lenOf,hf,hcap,storeCells]
  exact⟨_,w,hrun,by simpa using hrow,Kp.refl _ _, .inl rfl⟩
 ·obtain⟨a,rfl,hc⟩:=hx.resolve_left hm;have grown:∀(olds:aa Value) (old:Nat),zZ olds=nn*i.size->old<nn+mm->us=olds->
    gr (w.drew.alloc (.cells (olds.toArray++news.toArray++Builtin.zeroCells zz.cells (grownCap w (nn+mm) old e-(nn+mm))) e)) (.slice (M ⟨w.heap.size,0,J⟩) (nn+mm) (grownCap w (nn+mm) old e)) e i.size (nn+mm) (us++news):=by
   intro olds old hol hlt hus;subst hus;have hge:=grownCap_ge w (nn+mm) old e;have hcm:=grownCap_le_maxLen w (nn+mm) old e h63;obtain⟨ck,hck⟩:∃ck,grownCap w (nn+mm) old e=ck+1:=⟨grownCap w (nn+mm) old e-1,aj⟩;refine⟨by rw[zu,hol,hl,yw], .inr ⟨w.heap.size,ck,_,by rw[hck],heap_alloc_new w.drew _,aj,aj,?_,?_⟩⟩
   ·rw[<-hck];simp only[Array.size_append,yp,size_zeroCells,hzs,hol,hl,<-yw]
    congr 1
    omega
   ·simp only[Array.toList_append,xk];rw[<-xk,show (nn+mm)*i.size=zZ (us++news) from by rw[zu,hol,hl,yw]];exact List.take_left
  rcases hrow.2 with ⟨q,rfl,rfl⟩|⟨g,cap,cur,rfl,hg,hnc,hcm,hcs,htake⟩
  ·have hu:us=[]:=xG (by simpa using hrow.1);have hgr:=grown [] 0 (by simp) aj hu;rw[zY]at hgr hb h63;have hgc:=grownCap_ge w mm 0 e;have hrb:fU (.slice (M ⟨w.heap.size,0,J⟩) mm (grownCap w mm 0 e))=M w.heap.size:=by
    obtain⟨ck,hck⟩:∃ck,grownCap w mm 0 e=ck+1:=⟨grownCap w mm 0 e-1,aj⟩;rw[hck];rfl
   have h63':(mm:Int)<=9223372036854775807:=by unfold maxLen at h63;omega
   cases q with
   |none=>
    have hr:=run_append_nil (P:=P) w T ty e i zz ht hi hz a mm cx news hl hc aj h63' aj;refine⟨_,_,hr,?_,H6 w _, .inr hrb⟩;rw[zY];simpa using hgr
   |some b=>
    have hr:=run_append_grow (P:=P) w T ty e i zz ht hi hz b 0 0 [] (by simp) (λj v hj=>by cases hj) a mm cx news hl hc aj (by simpa using h63') (growslice_fits aj (by rw[zY];exact hb));refine⟨_,_,hr,?_,H6 w _, .inr (by rw[zY];exact hrb)⟩;rw[zY];exact hgr
  ·by_cases hroom:nn+mm<=cap+1
   ·have hfit:nn*i.size+zZ news<=cur.size:=by rw[hl,hcs,<-yw];exact yS _ hroom
    have hr:=run_append_room (P:=P) w T ty e i ht hi g nn (cap+1) cur hg a mm cx news hl hc h1 hroom hfit;refine⟨_,_,hr,⟨by rw[zu,hrow.1,hl,yw], .inr ⟨g,cap,_,rfl,setRow_heap w g cur _ e _ hg,hroom,hcm,?_,?_⟩⟩,mU w g _, .inl rfl⟩
    ·simp only[yp,zu,zL,zX,yf];omega
    ·rw[htake,show (nn+mm)*i.size=zZ (us++news) from by rw[zu,hrow.1,hl,yw]];exact List.take_left
   ·have holds:∀j v,us[j]? =M v->w.cell? ((⟨g,0,J⟩:Addr).add j)=M v:=λj v hj=>by
     rw[qQ,zY];exact hrow.cells rfl j v hj
    have h63':((nn+mm:Nat):Int)<=9223372036854775807:=by unfold maxLen at h63;omega
    have hr:=run_append_grow (P:=P) w T ty e i zz ht hi hz ⟨g,0,J⟩ nn (cap+1) us hrow.1 holds a mm cx news hl hc aj h63' (growslice_fits aj hb);have hgr:=grown us (cap+1) hrow.1 aj rfl;have hgc:=grownCap_ge w (nn+mm) (cap+1) e;refine⟨_,_,hr,hgr,⟨rfl,rfl,rfl,by simp,λk hk _=>heap_alloc_old w.drew _ hk⟩, .inr ?_⟩;obtain⟨ck,hck⟩:∃ck,grownCap w (nn+mm) (cap+1) e=ck+1:=⟨grownCap w (nn+mm) (cap+1) e-1,aj⟩;rw[hck];rfl
def Src(σ:aa bM)(E:Env)(x:Operand)(e:TypeId)(l:aa (U.cQ e)):Prop:=
 (∃p c,E.ev x=M (.lit (.slice p 0 c))/\l=[])\/E.ev x=M (.sl e l)\/∃(i:Nat) (v:Value),E.ev x=M (.lit v)/\σ[i]? =M (.row v e l)
def Src.spec{q:Nat}{l:aa (U.cQ q)}{A:Nat->Prop}{w:World}{ρ:Operand->Value}(h:Src σ E x q l)(hd:Hd A σ w)(hρ:Qj A w E ρ):∃p cap news,ρ x= .slice p (zZ l) cap/\(zZ l=0\/∃a,p=M a/\∀j u,news[j]? =M u->w.cell? (a.add j)=M u)/\zZ news=zZ l*(U.sz q)/\(∀i,i<zZ l->zZ (U.cells q l[i]!)=(U.sz q))/\bD A w (l.flatMap (U.cells q)) news/\zZ l<=9223372036854775807:=by
 rcases h with ⟨p,c,h,rfl⟩|h|⟨i,v,h,hσ⟩
 ·exact⟨p,c,[],(hρ _ _ h).bR, .inl rfl,by simp,λi hi=>by simp at hi,bD.nil,by simp⟩
 ·have hr:=hρ _ _ h;obtain⟨p,cap,u,hv,hl,_,hz,hc,hcr⟩:=hr.sG;rw[hv]at hr
  let news:aa Value:=(zy (zZ l)).flatMap λi=>(zy (U.sz q)).map λj=>u i j
  have hnl:∀(z:aa Nat),zZ (z.flatMap λi=>(zy (U.sz q)).map λj=>u i j)=zZ z*(U.sz q):=λz=>by
   induction z with
   |nil=>simp
   |cons a z ih=>rw[xV,zu,ih,zF,we,ya,yL];omega
  have hnews:zZ news=zZ l*(U.sz q):=by rw[hnl,we]
  have hget:∀n i j,i<n->j<(U.sz q)->((zy n).flatMap λi=>(zy (U.sz q)).map λj=>u i j)[i*(U.sz q)+j]? =M (u i j):=by
   intro n;induction n with
   |zero=>intro i j hi _;omega
   |succ n ih=>
    intro i j hi hj;rw[xH,List.flatMap_append,yJ,hnl,we];by_cases hin:i<n
    ·have:i*(U.sz q)+(U.sz q)<=n*(U.sz q):=by rw[<-yL];exact yS _ hin
     rw[bO aj];simp_all
    ·have:i=n:=aj;subst this;rw[bP aj];simp[hj]
  refine⟨p,cap,news,hv,?_,hnews,hz,?_,hl⟩
  ·by_cases h0:zZ l=0
   ·omega
   ·obtain⟨b,off,hp,hb,hA,hcc⟩:=hc 0 aj;refine .inr ⟨⟨b,off,J⟩,hp,λj v hj=> ?_⟩;have hjl:j<zZ l*(U.sz q):=by rw[<-hnews];exact(zU.1 hj).1
    have hsz:0<(U.sz q):=by
     rcases wD (U.sz q)with h|h
     ·simp_all
     ·exact h
    have hi:j/(U.sz q)<zZ l:=by rw[wQ hsz];exact hjl
    have hm:j%(U.sz q)<(U.sz q):=xF _ hsz;have he:j/(U.sz q)*(U.sz q)+j%(U.sz q)=j:=by rw[Nat.mul_comm];exact Nat.div_add_mod j (U.sz q)
    have h2:=hget (zZ l) (j/(U.sz q)) (j%(U.sz q)) hi hm;rw[he]at h2;have h3:M v=M (u (j/(U.sz q)) (j%(U.sz q))):=by rw[<-hj,<-h2]
    cases h3;obtain⟨b',off',hp',_,_,hcc'⟩:=hc (j/(U.sz q)) hi;rw[hp]at hp';cases hp';have h4:=hcc' (j%(U.sz q)) hm;rw[qQ,show off+j=off+j/(U.sz q)*(U.sz q)+j%(U.sz q)from aj];exact h4
  ·obtain⟨f1,f2⟩:=kS l hz;refine⟨by rw[f1,hnews],λj a w' ha hw'=> ?_⟩;have hjl:j<zZ l*(U.sz q):=by rw[<-hnews];exact(zU.1 hw').1
   have hsz:0<(U.sz q):=by
    rcases wD (U.sz q)with h|h
    ·simp_all
    ·exact h
   have hi:j/(U.sz q)<zZ l:=by rw[wQ hsz];exact hjl
   have hm:j%(U.sz q)<(U.sz q):=xF _ hsz;have he:j/(U.sz q)*(U.sz q)+j%(U.sz q)=j:=by rw[Nat.mul_comm];exact Nat.div_add_mod j (U.sz q)
   have h2:=hget (zZ l) (j/(U.sz q)) (j%(U.sz q)) hi hm;rw[he]at h2;have h3:M w'=M (u (j/(U.sz q)) (j%(U.sz q))):=by rw[<-hw',<-h2]
   cases h3;refine hcr (j/(U.sz q)) (j%(U.sz q)) a hi ?_;rw[<-f2 _ hi,yA,bO hm,yK,he];exact ha
 ·obtain⟨us,h1,h2,h3⟩:=lF (hd.1 _ (List.mem_of_getElem? hσ));obtain⟨p,cap,hv,_⟩:=h1.len;have hx':=(hρ _ _ h).bR;have hlm:zZ l<=9223372036854775807:=by
   rcases h1.2 with ⟨_,_,h⟩|⟨_,_,_,_,_,q1,q2,_⟩
   ·omega
   ·unfold maxLen at q2;omega
  refine⟨p,cap,us,by rw[hx',hv],?_,h1.1,h2,h3,hlm⟩;by_cases h0:zZ l=0
  ·exact .inl h0
  ·obtain⟨g,ck,cur,hv2,hgb,_⟩:=h1.at aj;rw[hv2]at hv;cases hv;refine .inr ⟨_,rfl,λj u hj=> ?_⟩;rw[qQ,zY];exact h1.cells hgb j u hj
def Yv.app{by':Nat}{l l2:aa (U.cQ e)}{zs:aa Value}(i:Nat)(ho:o.op= .call {callee:= .builtin .append,args:=#[x,y],argTypes:=#[T,T]})(hx:E.ev x=M (.lit v))(hσ:σ[i]? =M (.row v e l))(hy:Src σ E y e l2)(hT:P.underlying T=M (.slice e))(hs:(P.info? e).map (λi=>(i.size,i.bytes))=M ((U.sz e),by'))(hz:iP P e=M zs)(hzl:zZ zs=(U.sz e))(hb:z7 by' 4096=Z)
  (h1:∀x:U.cQ e,(U.cells e x).all iV=Z) (hlen:zZ (l++l2)<=1073741824):Yv P E σ o C (xU (fU v)) (λa σ'=>∃v',a= .lit v'/\σ'=σ.set i (.row v' e (l++l2))):=λw ρ hg hρ=>by
 obtain⟨it,hit,hz1⟩:=zl.1 hz;obtain⟨zv,hz2,hz3⟩:=zj.1 hz1;obtain⟨ie,hie,hse⟩:=zj.1 hs;have hee:it=ie:=by rw[hit]at hie;exact zJ.inj hie
 subst hee;simp only[Prod.mk.injEq]at hse;obtain⟨s1,s2⟩:=hse;have hby:by'<=4096:=by simpa using hb
 obtain⟨us,g1,g2,g3⟩:=lF (hg.res _ (List.mem_of_getElem? hσ));obtain⟨p,cap,news,q1,q2,q3,q4,q5,q6⟩:=hy.spec hg.hd hρ;have hx':=(hρ _ _ hx).bR;have hone:∀u∈news,u.oneCell'=Z:=q5.one (by
  rw[zn];intro a ha;obtain⟨x,_,hx⟩:=wk.1 ha;exact zn.1 (h1 x) a hx)
 rw[zu]at hlen;have hbytes:(zZ l+zZ l2)*by'<=140737488355328:=by
  have:(zZ l+zZ l2)*by'<=1073741824*4096:=Nat.mul_le_mul hlen hby
  omega
 obtain⟨v',w',r1,r2,r3,r4⟩:=Eo (P:=P) (T:=T) (ty:=o.type) (xs:=ρ y) hT hit hz2 s1 s2 (by rw[<-yf,hz3,hzl]) g1 ⟨p,cap,q1,q2⟩ q3 hone (by unfold maxLen;omega) hbytes;refine⟨v',w',_,_,⟨v',rfl,rfl⟩,pW (r:= .row v e l) hg hσ r3 r4 (pN (by rw[zu];exact r2) (PY g2 q4) ?_),?_, .lit _⟩
 ·rw[List.flatMap_append];refine(g3.app q5).mono λb hb hA=>⟨⟨hA.1,λhx=> ?_⟩,r3.block b hb (λhx=>hA.2 (bE.2 ⟨_,List.mem_of_getElem? hσ,by simpa [bM.blk]using hx⟩))⟩;obtain⟨s,hs1,hs2⟩:=bE.1 hx;rcases List.mem_or_eq_of_mem_set hs1 with h|h
  ·exact hA.2 (bE.2 ⟨s,h,hs2⟩)
  ·rw[h]at hs2;rcases r4 with r4|r4
   ·exact hA.2 (bE.2 ⟨_,List.mem_of_getElem? hσ,r4.symm.trans hs2⟩)
   ·have:M w.heap.size=M b:=r4.symm.trans hs2;simp_all
 ·simp[execOp,ho,resolve,invoke,builtin,hx',r1]
end
def Rel.avE{A:Nat->Prop}{w:World}{qt:Nat}{l:aa (U.cQ qt)}{p:af Addr}{cap:Nat}(h:Rel A w (.sl qt l) (.slice p (zZ l) cap)){lo hi cap':Nat}(h1:lo<=hi)(h2:hi<=zZ l)(hc':hi-lo<=cap')(q:af Addr)(hq:hi-lo=0\/q=p.map (·.add (lo*(U.sz qt)))):
  Rel A w (.sl qt ((l.take hi).drop lo)) (.slice q (hi-lo) cap'):=by
 obtain⟨p',cp,u,hv,hl,hcap,hz,hc,hr⟩:=h.sG;cases hv;have hln:zZ ((l.take hi).drop lo)=hi-lo:=by rw[zX,zL];omega
 have hget:∀i,i<hi-lo->((l.take hi).drop lo)[i]! =l[lo+i]! :=λi hi'=>by
  rw[getElem!_pos _ i (by rw[hln];exact hi'),getElem!_pos l (lo+i) aj,wm,xo]
 have hgoal:Rel A w (.sl qt ((l.take hi).drop lo)) (.slice q ((l.take hi).drop lo).length cap'):=by
  refine .sl qt _ q cap' (λi j=>u (lo+i) j) aj aj (λi hi'=> ?_) (λi hi'=> ?_) (λi j a hi' ha=> ?_)
  ·rw[hln]at hi';rw[hget i hi'];exact hz _ aj
  ·rw[hln]at hi';obtain⟨b,off,hp,hb,hA,hcc⟩:=hc (lo+i) aj;refine⟨b,off+lo*(U.sz qt),?_,hb,hA,λj hj=> ?_⟩
   ·rcases hq with hq|hq
    ·omega
    ·rw[hq,hp,z8,qQ]
   ·have:=hcc j hj
    rwa [yw,<-xD]at this
  ·rw[hln]at hi';rw[hget i hi']at ha;exact hr _ j a aj ha
 simp_all
section
variable {P:Program} {E E':Env} {σ σ':aa bM} {o:Oper} {T T' e:TypeId} {x y z:Operand} {av bv:AV} {v u:Value} {m n:Int} {b:Bool} {k k':IntKind} {C:Cx} {X:aa Nat}
def YM{w:World}{a:af Addr}{len cap lo hi:Nat}{s:Nat}{L H:af Value}(hT:P.underlying T=M (.slice e))(hs:(P.info? e).map (·.size)=M s)
  (hb:(Instr.sliceBounds Z len cap L H J).run P w= .ok (lo,hi,cap) w):(Instr.slice T (.slice a len cap) L H J).run P w= .ok (.slice (if cap=lo then a else a.map (·.add (lo*s))) (hi-lo) (cap-lo)) w:=by
 obtain⟨j,hj,hj'⟩:=zj.1 hs;simp[Instr.slice,run_underlying hT,hb,sizeOf,typeInfo,hj,hj']
def NQ{w:World}{len cap:Nat}(hh:0<=m/\m<=n/\n<=(len:Int))(hc:len<=cap):(Instr.sliceBounds Z len cap (M (.int k m)) (M (.int k' n)) J).run P w= .ok (m.toNat,n.toNat,cap) w:=by
 have h1:0<=n/\n<=(cap:Int):=aj;simp[Instr.sliceBounds,Instr.sliceBound,asIntOf,h1];omega
def YT{w:World}{len cap:Nat}(hh:0<=n/\n<=(len:Int))(hc:len<=cap):(Instr.sliceBounds Z len cap J (M (.int k' n)) J).run P w= .ok (0,n.toNat,cap) w:=by
 have h1:0<=n/\n<=(cap:Int):=aj;simp[Instr.sliceBounds,Instr.sliceBound,asIntOf,h1]
def aaa{w:World}{len cap:Nat}(hh:0<=m/\m<=(len:Int)):(Instr.sliceBounds Z len cap (M (.int k m)) J J).run P w= .ok (m.toNat,len,cap) w:=by
 simp[Instr.sliceBounds,Instr.sliceBound,asIntOf,hh]
def BZ{A:Nat->Prop}{w:World}{ρ:Operand->Value}{q:Nat}{l:aa (U.cQ q)}{L H:af Operand}{lo hi:Nat}(ho:o.op= .slice T x L H J)(hx:Rel A w (.sl q l) (ρ x))(hT:P.underlying T=M (.slice e))(hs:(P.info? e).map (·.size)=M (U.sz q))(h1:lo<=hi)(h2:hi<=zZ l)
  (hb:∀cap,zZ l<=cap->∀w',(Instr.sliceBounds Z (zZ l) cap (L.map ρ) (H.map ρ) J).run P w'= .ok (lo,hi,cap) w'):∃v,Rel A w (.sl q ((l.take hi).drop lo)) v/\∀w':World,(execOp ρ o).run P w'= .ok (.value v) w':=by
 obtain⟨p,cap,u,hv,hl,hcap,_⟩:=hx.sG;rw[hv]at hx;refine⟨.slice (if cap=lo then p else p.map (·.add (lo*(U.sz q)))) (hi-lo) (cap-lo),hx.avE h1 h2 aj _ ?_,λw'=> ?_⟩
 ·by_cases h:cap=lo
  ·omega
  ·right;rw[bP h]
 ·have:=YM (P:=P) (T:=T) (w:=w') (a:=p) (len:=zZ l) hT hs (hb cap hcap w');simp[execOp,ho,hv,Instr.sliceAt,run_underlying hT,this]
def Yp.auH{q:Nat}{l:aa (U.cQ q)}(ho:o.op= .slice T x (M y) (M z) J)(hx:E.ev x=M (.sl q l))(hy:E.ev y=M (.n k m))(hz:E.ev z=M (.n k' n))(hT:P.underlying T=M (.slice e))(hs:(P.info? e).map (·.size)=M (U.sz q))
  (hm:0<=m/\m<=n/\n<=(zZ l:Int)):Yp P E σ o (.sl q ((l.take n.toNat).drop m.toNat)):=λA w ρ _ hρ=>by
 obtain⟨v,h1,h2⟩:=BZ (P:=P) (lo:=m.toNat) (hi:=n.toNat) ho (hρ _ _ hx) hT hs aj aj (λcap hc w'=>by
  simp only[z8,(hρ _ _ hy).bR,(hρ _ _ hz).bR];exact NQ hm hc)
 exact⟨v,h1,λw' _=>h2 w'⟩
def Yp.aob{q:Nat}{l:aa (U.cQ q)}(ho:o.op= .slice T x J (M z) J)(hx:E.ev x=M (.sl q l))(hz:E.ev z=M (.n k' n))(hT:P.underlying T=M (.slice e))(hs:(P.info? e).map (·.size)=M (U.sz q))
  (hm:0<=n/\n<=(zZ l:Int)):Yp P E σ o (.sl q (l.take n.toNat)):=λA w ρ _ hρ=>by
 obtain⟨v,h1,h2⟩:=BZ (P:=P) (lo:=0) (hi:=n.toNat) ho (hρ _ _ hx) hT hs aj aj (λcap hc w'=>by
  simp only[z8,(hρ _ _ hz).bR];exact YT hm hc)
 exact⟨v,h1,λw' _=>h2 w'⟩
def Yp.akM{q:Nat}{l:aa (U.cQ q)}(ho:o.op= .slice T x (M y) J J)(hx:E.ev x=M (.sl q l))(hy:E.ev y=M (.n k m))(hT:P.underlying T=M (.slice e))(hs:(P.info? e).map (·.size)=M (U.sz q))
  (hm:0<=m/\m<=(zZ l:Int)):Yp P E σ o (.sl q (l.drop m.toNat)):=λA w ρ _ hρ=>by
 obtain⟨v,h1,h2⟩:=BZ (P:=P) (lo:=m.toNat) (hi:=zZ l) ho (hρ _ _ hx) hT hs aj aj (λcap hc w'=>by
  simp only[z8,(hρ _ _ hy).bR];exact aaa hm)
 rw[yh]at h1;exact⟨v,h1,λw' _=>h2 w'⟩
def Yv.Wo{sz':Nat}{q:Nat}{l:aa (U.cQ q)}(ho:o.op= .slice T x J (M (.const (.int k 0))) (M (.const (.int k' 0))))(hx:E.ev x=M (.sl q l)\/E.ev x=M (.lit (.slice J 0 0)))(hT:P.underlying T=M (.slice e))(hs:(P.info? e).map (·.size)=M sz'):
  Yv P E σ o C [] (λa σ'=>∃v,a= .lit v/\σ'= .row v e ([]:aa (U.cQ e))::σ):=λw ρ hg hρ=>by
 obtain⟨j,hj,hj'⟩:=zj.1 hs;obtain⟨p,n,cap,hv⟩:∃p n cap,ρ x= .slice p n cap:=by
  rcases hx with hx|hx
  ·obtain⟨p,cap,u,hv,_⟩:=(hρ _ _ hx).sG;simp_all
  ·exact⟨J,0,0,(hρ _ _ hx).bR⟩
 have h0:ρ (.const (.int k 0))= .int k 0:=(hρ (.const (.int k 0)) _ rfl).bR;have h0':ρ (.const (.int k' 0))= .int k' 0:=(hρ (.const (.int k' 0)) _ rfl).bR;refine⟨.slice p 0 0,w,_,_,⟨_,rfl,rfl⟩,lX hg (Kp.refl [] w) (.inl (by cases p<;>rfl)) ⟨[],⟨by simp, .inl ⟨_,rfl,rfl⟩⟩,λi hi=>by simp at hi,λi hi=>by simp at hi⟩,?_, .lit _⟩;simp[execOp,ho,hv,h0,h0',Instr.sliceAt,Instr.slice,Instr.sliceBounds,Instr.sliceBound,run_underlying hT,sizeOf,typeInfo,hj,asIntOf]
def Yp.arY{p:af Addr}{l c:Nat}(ho:o.op= .binOp .eql T x y T')(hx:E.ev x=M (.lit (.slice p l c)))(hy:E.ev y=M (.lit (.slice J 0 0)))(hT:P.underlying T=M (.slice e)):Yp P E σ o (.b p.isNone):=Yp.lits λρ hρ w=>by
 have:=Lib.run_eql_slice_nil (P:=P) w T e p l c 0 0 hT;simp[execOp,ho,hρ _ _ hx,hρ _ _ hy,eqGuard,this]
def Me{w:World}(p:af Addr)(q:Nat)(h:Good C σ w):Tr C [] σ w (.row (.slice p 0 0) q ([]:aa (U.cQ q))::σ) w:=
 lX h (Kp.refl [] w) (.inl (by cases p<;>rfl)) ⟨[],⟨by simp, .inl ⟨_,rfl,rfl⟩⟩,λi hi=>by simp at hi,λi hi=>by simp at hi⟩
def CW.own{n:Nat}{cd:Code}{Q:Exit->Env->aa bM->Prop}(p:af Addr)(q:Nat)(h:CW P C n cd Q E (.row (.slice p 0 0) q ([]:aa (U.cQ q))::σ)):CW P C n cd Q E σ:=λa w ha=>
 h a w (ha.tr (Me p q ha.good))
def Vw(σ:aa bM)(a a':AV):Prop:=∀(A:Nat->Prop) (w:World) (v:Value),Hd A σ w->Rel A w a v->Rel (λb=>A b\/b∈bh σ) w a' v
def VwL(σ:aa bM)(as0 as':aa AV):Prop:=∀(A:Nat->Prop) (w:World) (us:aa Value),Hd A σ w->bD A w as0 us->bD (λb=>A b\/b∈bh σ) w as' us
def Vw.row{q:Nat}{l:aa (U.cQ q)}(i:Nat)(hσ:σ[i]? =M (.row v q l)):Vw σ (.lit v) (.sl q l):=λA w u hd h=>by
 have hu:=h.bR;subst hu;have hm:=List.mem_of_getElem? hσ;obtain⟨us,h1,h2,h3⟩:=hd.1 _ hm;have hlm:zZ l<=9223372036854775807:=by
  rcases h1.2 with ⟨_,_,h⟩|⟨_,_,_,_,_,q1,q2,_⟩
  ·omega
  ·unfold maxLen at q2;omega
 obtain⟨p,cap,hv,hcap⟩:=h1.len;by_cases h0:zZ l=0
 ·rw[hv];exact .sl q l p cap (λ_ _=>undef) hlm hcap (λi hi=>aj) (λi hi=>aj) (λi j a hi=>aj)
 ·obtain⟨g,ck,cur,hv2,hgb,hB,_⟩:=h1.at aj;rw[hv2]at hv;cases hv;rw[hv2];refine .sl q l _ (ck+1) (λi j=>(us[i*(U.sz q)+j]?).getD undef) hlm hcap h2 (λi hi=>⟨g,0,rfl,hB.lt, .inr (bE.2 ⟨_,hm,hgb⟩),λj hj=> ?_⟩) (λi j a hi ha=> ?_)
  ·have hlt:i*(U.sz q)+j<zZ us:=by
    have:i*(U.sz q)+(U.sz q)<=zZ l*(U.sz q):=by rw[<-yL];exact yS _ hi
    rw[h1.1];omega
   rw[zY,zD hlt];exact h1.cells hgb _ _ (zD hlt)
  ·obtain⟨u,q1,q2⟩:=(h3 i hi).get ha;rw[yA]at q1;split at q1
   ·rw[yK]at q1;rw[q1];exact q2.mono λb _ hA=>⟨.inl hA,rfl⟩
   ·cases q1
def Vw.nil(q:Nat):Vw σ (.lit (.slice J 0 0)) (.sl q ([]:aa (U.cQ q))):=λA w u _ h=>by
 have hu:=h.bR;subst hu;exact .sl q [] none 0 (λ_ _=>undef) (by simp) (by simp) (λi hi=>by cases hi) (λi hi=>by cases hi) (λi j a hi=>by cases hi)
def VwL.nil:VwL σ [] []:=λA w us _ h=>h.mono λb _ hA=>⟨.inl hA,rfl⟩
def VwL.cons{as0 as':aa AV}{a a':AV}(h:Vw σ a a')(hs:VwL σ as0 as'):VwL σ (a::as0) (a'::as'):=λA w us hd hr=>by
 obtain⟨v,us',rfl,h1,h2⟩:=hr.head;exact bD.cons (h A w v hd h1) (hs A w us' hd h2)
def Ed{r:bM}{i:Nat}(hσ:σ[i]? =M r):List.Perm (bh σ) (bh (r::σ.eraseIdx i)):=by
 obtain⟨h1,_⟩:=A6 (r':=r) hσ;have h2:σ.eraseIdx i=σ.take i++σ.drop (i+1):=wS ..;rw[h2];have hp:List.Perm (σ.take i++r::σ.drop (i+1)) (r::(σ.take i++σ.drop (i+1))):=wo;rw[<-h1]at hp;exact hp.filterMap _
def F4{r:bM}{i:Nat}{w:World}(hσ:σ[i]? =M r)(hg:Good C σ w):∀b,(al C σ b\/b∈bh [r])->al C (σ.eraseIdx i) b:=λb hb=>by
 have hp:=Ed hσ;have hnd:=hp.nodup_iff.1 hg.BR;rcases hb with hb|hb
 ·exact⟨hb.1,λhx=>hb.2 (hp.mem_iff.2 (by rw[eH];exact ym _ hx))⟩
 ·have hbs:b∈r.blk.toList:=by rw[eH]at hb;simpa [bh]using hb
  refine⟨?_,λhx=> ?_⟩
  ·rcases hg.own b (hp.mem_iff.2 (by rw[eH];exact ye _ hbs))with h|h
   ·simp_all
   ·omega
  ·rw[eH]at hnd;simp_all
def lH.Aw{n:Nat}{a:Act}{w:World}{r:bM}{i t:Nat}(h:lH C n E σ a w)(hσ:σ[i]? =M r)(ht:E.get t=M av)(hv:Vw [r] av bv):lH C n ((t,bv)::E) (σ.eraseIdx i) a w:=by
 have hal:=F4 hσ h.good;have hp:=Ed hσ;have hmem:∀s∈σ.eraseIdx i,s∈σ:=λs hs=>List.mem_of_mem_eraseIdx hs;have hd:Hd (al C σ) [r] w:=⟨λs hs=>by rw[zA]at hs;rw[hs];exact h.good.res r (List.mem_of_getElem? hσ),λb hb hA=>hA.2 (by
  obtain⟨s,h1,h2⟩:=bE.1 hb;rw[zA]at h1;rw[h1]at h2;exact bE.2 ⟨r,List.mem_of_getElem? hσ,h2⟩)⟩
 refine⟨h.defers.step (λb _ hA=>⟨hal b (.inl hA),rfl⟩),h.size,λs u hs=> ?_,⟨h.good.kept,λs hs=>(h.good.res s (hmem s hs)).mono (λb _ hA=>⟨hal b (.inl hA),rfl⟩) (λ_ _=>rfl),?_,λb hb=>h.good.own b (hp.mem_iff.2 (by rw[eH];exact ym _ hb))⟩⟩
 ·by_cases hts:t=s
  ·subst hts;rw[Env.ew]at hs;cases hs;obtain⟨v,h1,h2⟩:=h.slots t av ht;exact⟨v,h1,(hv _ w v hd h2).mono λb _ hb=>⟨hal b hb,rfl⟩⟩
  ·rw[Env.dH _ _ hts]at hs;obtain⟨v,h1,h2⟩:=h.slots s u hs;exact⟨v,h1,h2.mono λb _ hA=>⟨hal b (.inl hA),rfl⟩⟩
 ·have:=hp.nodup_iff.1 h.good.BR;rw[eH]at this;grind
def RW.Aw{n:Nat}{ops:Array Oper}{K:Env->aa bM->Prop}{rest:aa Oper}{r:bM}(i t:Nat)(hσ:σ[i]? =M r)(ht:E.get t=M av)(hv:Vw [r] av bv)(h:RW P C n ops K rest ((t,bv)::E) (σ.eraseIdx i)):RW P C n ops K rest E σ:=λa w ha=>h a w (ha.Aw hσ ht hv)
end
def Fn(P:Program)(f:FuncId)(args:aa AV)(σ:aa bM)(Φ:AV->aa bM->Prop):Prop:=
 ∀(w:World) (A:Nat->Prop) (vs:aa Value),bD A w args vs->Hd A σ w->(bh σ).Nodup->
  Calls P f vs.toArray w λe w'=>∃v av σ',e= .returned v/\Φ av σ'/\Tr ⟨w,A,bh σ⟩ (bh σ) σ w σ' w'/\Rel (al ⟨w,A,bh σ⟩ σ') w' av v
def Fn.mono{P:Program}{f:FuncId}{args:aa AV}{σ:aa bM}{Φ j:AV->aa bM->Prop}(h:Fn P f args σ Φ)(hp:∀a s,Φ a s->j a s):Fn P f args σ j:=λw A vs h1 h2 h3=>
 (h w A vs h1 h2 h3).mono λ_ _ ⟨v,av,σ',q1,q2,q3⟩=>⟨v,av,σ',q1,hp _ _ q2,q3⟩
def fD:Nat->aa AV->Env
 |_,[]=>[]
 |i,v::l=>(i,v)::fD (i+1) l
def Ce:∀(l:aa AV) (i t:Nat) (v:AV),Env.get (fD i l) t=M v->i<=t/\l[t-i]? =M v
 |[],_,_,_,h=>by cases h
 |u::l,i,t,v,h=>by
  by_cases hit:i=t
  ·subst hit;rw[fD,Env.ew]at h;cases h;simp
  ·rw[fD,Env.dH _ _ hit]at h;obtain⟨h1,h2⟩:=Ce l (i+1) t v h;grind
def aaD(P:Program)(C:Cx)(n:Nat)(fn:Func)(Φ:AV->aa bM->Prop):Exit->Env->aa bM->Prop:=λe E σ=>
 (e= .normal\/e= .ret)/\∀a w,lH C n E σ a w->∃v av σ',Φ av σ'/\(results fn a.tmps).run P w= .ok v w/\Good C σ' w/\(∀b,al C σ b->al C σ' b)/\Rel (al C σ') w av v
structure Tn0 (C:Cx) (w w':World):Prop where
 os:w'.os=w.os
 tape:w'.tape=w.tape
 output:w'.output=w.output
 size:w.heap.size<=w'.heap.size
 old:∀k,k<C.w0.heap.size->w'.heap[k]? =w.heap[k]?
 same:∀(b:Nat) cs T m,w.heap[b]? =M (Obj.cells cs T m)->w'.heap[b]? =w.heap[b]?
structure Tn (C:Cx) (w w':World):Prop extends Tn0 C w w' where
 mps:∀(b:Nat) ar cl,w.heap[b]? =M (Obj.map ar cl)->w'.heap[b]? =w.heap[b]?
def Rel.CL{C:Cx}{A:Nat->Prop}{w w':World}{av:AV}{v:Value}(h:Rel A w av v)(ht:Tn0 C w w'):Rel A w' av v:=by
 have hcell:∀b i u,w.cell? ⟨b,i,J⟩=M u->w'.cell? ⟨b,i,J⟩=M u:=λb i u hc=>by
  rw[<-hc];cases hb:w.heap[b]? with
  |none=>simp[World.cell?,hb]at hc
  |some o=>
   cases o with
   |cells cs T m=>exact World.cell?_of_block (ht.same b cs T m hb)
   |_=>simp[World.cell?,hb]at hc
 induction h with
 |lit v=>exact .lit v
 |sl q l p cap u hl hcap hz hc hr ih=>
  refine .sl q l p cap u hl hcap hz (λi hi=> ?_) ih;obtain⟨b,off,h1,h2,h3,h4⟩:=hc i hi;exact⟨b,off,h1,yW h2 ht.size,h3,λj hj=>hcell _ _ _ (h4 j hj)⟩
 |fp cs b o us hb hA hl hc hr ih=>exact .fp cs b o us (yW hb ht.size) hA hl (λj v hj=>hcell _ _ _ (hc j v hj)) ih
 |rp v k g h=>exact .rp v k g h
 |agg cs us hl hr ih=>exact .agg cs us hl ih
 |iF cs us hl hr ih=>exact .iF cs us hl ih
 |fn f cs us hl hr ih=>exact .fn f cs us hl ih
def bM.ok.PK{C:Cx}{A:Nat->Prop}{w w':World}{r:bM}(h:r.ok A w)(hm:∀v es,r≠ .mp v es)(ht:Tn0 C w w'):r.ok A w':=by
 cases r with
 |box b T cs=>
  obtain⟨us,h1,h2⟩:=h;exact⟨us,(ht.same _ _ _ _ h1).trans h1,h2.1,λj a v q1 q2=>(h2.2 j a v q1 q2).CL ht⟩
 |row v q l=>
  obtain⟨us,h1,h2,h3⟩:=h;refine⟨us,⟨h1.1,?_⟩,h2,λi hi=>⟨(h3 i hi).1,λj a v q1 q2=>((h3 i hi).2 j a v q1 q2).CL ht⟩⟩;rcases h1.2 with q|⟨g,cap,cur,rfl,q1,q2⟩
  ·exact .inl q
  ·exact .inr ⟨g,cap,cur,rfl,(ht.same _ _ _ _ q1).trans q1,q2⟩
 |mp v es=>exact iy rfl (hm v es)
def bM.ok.CL{C:Cx}{A:Nat->Prop}{w w':World}{r:bM}(h:r.ok A w)(ht:Tn C w w'):r.ok A w':=by
 cases r with
 |mp v es=>
  obtain⟨b,ar,cl,rfl,h1,fs,hp,hq,h2,h3⟩:=h;exact⟨b,ar,cl,rfl,(ht.mps _ _ _ h1).trans h1,fs,hp,hq,h2,λi e m q1 q2=>⟨(h3 i e m q1 q2).1.CL ht.toTn0,(h3 i e m q1 q2).2.CL ht.toTn0⟩⟩
 |_=>exact h.PK (λ_ _ e=>by cases e) ht.toTn0
def SE(σ:aa bM):Prop:=∀r∈σ,∀v es,r≠ .mp v es
def Good.PK{C:Cx}{σ:aa bM}{w w':World}(h:Good C σ w)(hm:SE σ)(ht:Tn0 C w w'):Good C σ w':=
 ⟨⟨ht.os.trans h.kept.os,ht.tape.trans h.kept.tape,ht.output.trans h.kept.output,zK h.kept.size ht.size,λk hk hX=>(ht.old k hk).trans (h.kept.block k hk hX)⟩,
  λr hr=>(h.res r hr).PK (hm r hr) ht,h.BR,h.own⟩
def Good.CL{C:Cx}{σ:aa bM}{w w':World}(h:Good C σ w)(ht:Tn C w w'):Good C σ w':=
 ⟨⟨ht.os.trans h.kept.os,ht.tape.trans h.kept.tape,ht.output.trans h.kept.output,zK h.kept.size ht.size,λk hk hX=>(ht.old k hk).trans (h.kept.block k hk hX)⟩,
  λr hr=>(h.res r hr).CL ht,h.BR,h.own⟩
def Tn.putObj{C:Cx}{w:World}{D:Nat}{o:Obj}(o':Obj)(hw:C.w0.heap.size<=D)(hD:w.heap[D]? =M o)(ho:o.isCells=O)(hm:∀ar cl,o≠ .map ar cl):Tn C w (w.putObj D o'):=
 ⟨⟨rfl,rfl,rfl,by simp[World.putObj],λk hk=>World.putObj_heap_other aj,λb cs T m hx=>World.putObj_heap_other λe=>by
  subst e;rw[hD]at hx;cases hx;cases ho⟩,λb ar cl hx=>World.putObj_heap_other λe=>by
  subst e;rw[hD]at hx;cases hx;exact hm _ _ rfl⟩
def gX.CL{C:Cx}{A:Nat->Prop}{w w':World}{E:Env}{tmps:Array Value}(h:gX A w E tmps)(ht:Tn0 C w w'):gX A w' E tmps:=λt av q=>let ⟨v,h1,h2⟩:=h t av q;⟨v,h1,h2.CL ht⟩
def Fn.of{P:Program}{f:FuncId}{fn:Func}{c:Code}{n:Nat}{args:aa AV}{σ:aa bM}{Φ:AV->aa bM->Prop}(hf:P.funcs[f]? =M fn)(hb:fn.body=M c)(hn:fn.ntmps=n)(hl:z7 (zZ args) n=Z)
  (h:∀C,CW P C n c (aaD P C n fn Φ) (fD 0 args) σ):Fn P f args σ Φ:=λw A vs hr hd hnd=>by
 have hl':zZ args<=n:=by simpa using hl
 have hvl:=hr.1;have hal:∀b,b<w.heap.size->A b->al ⟨w,A,bh σ⟩ σ b:=λb _ hA=>⟨.inl hA,λhx=>hd.2 b hx hA⟩;have hgood:Good ⟨w,A,bh σ⟩ σ w:=⟨Kp.refl _ _,λr hr=>(hd.1 r hr).mono (λb hb hA=>⟨hal b hb hA,rfl⟩) (λ_ _=>rfl),hnd,λb hb=> .inl hb⟩;refine callsIn_wide.1 (callsIn_of_wp_marks (n:=0) hf hb trivial (wpIn_wide.2 (wp_mono (h ⟨w,A,bh σ⟩ _ w ⟨.nil rfl,?_,λt v ht=> ?_,hgood⟩) ?_)))
 ·simp;omega
 ·obtain⟨_,h2⟩:=Ce args 0 t v ht;obtain⟨u,h3,h4⟩:=hr.get h2;have hlt:t<zZ vs:=(zU.1 h3).1;refine⟨u,?_,h4.mono λb hb hA=>⟨hal b hb hA,rfl⟩⟩;rw[Array.getElem?_append_left (by simpa using hlt)];simpa using h3
 ·rintro e a' w' ⟨E',σ',h1,he,h2⟩;have fin:∀(w'':World),lH ⟨w,A,bh σ⟩ n E' σ' {a' with defers:=[]} w''->∃v,(results fn a'.tmps).run P w''= .ok v w''/\∃v' av σ'',Ending.returned v= .returned v'/\Φ av σ''/\Tr ⟨w,A,bh σ⟩ (bh σ) σ w σ'' w''/\Rel (al ⟨w,A,bh σ⟩ σ'') w'' av v':=λw'' hs=>by
   obtain⟨v,av,σ'',h3,h4,h5,h6,h7⟩:=h2 _ w'' hs;have hex:Tr ⟨w,A,bh σ⟩ (bh σ) σ w σ'' w'':=⟨h5,h5.kept,λb hb hA=>⟨⟨hA.1,λhx=>by
    rcases h5.own b hx with h|h
    ·exact hA.2 h
    ·exact iy hb (by have:w.heap.size<=b:=h;omega)⟩,hA.2⟩⟩
   exact⟨v,h4,v,av,σ'',rfl,h3,hex,h7⟩
  have lv:LeavesInM Fence.wide 0 P fn a'.tmps (λe w'=>∃v av σ',e= .returned v/\Φ av σ'/\Tr ⟨w,A,bh σ⟩ (bh σ) σ w σ' w'/\Rel (al ⟨w,A,bh σ⟩ σ') w' av v) a'.defers .returning w':=by
   obtain⟨Ds,hd1,hd2,hd3⟩:=h1.defers;rw[hd1];have hsl:=h1.slots;have hgd:=h1.good;have hsz:=h1.size;clear hd1 h1;induction Ds generalizing w' with
   |nil=>exact fin w' ⟨.nil rfl,hsz,hsl,hgd⟩
   |cons D Ds ih=>
    obtain⟨q1,q2,q3,q4⟩:=hd3 D zm;rw[wg]at hd2;refine⟨by simp, .inl ⟨D,_,rfl,run_takeDeferred q4,?_⟩⟩;have ht:Tn ⟨w,A,bh σ⟩ w' (w'.putObj D (.deferred none)):= .putObj _ q2 q4 rfl (λ_ _ h=>by cases h);refine ih _ hd2.2 (λD' hD'=> ?_) (hsl.CL ht.toTn0) (hgd.CL ht);obtain⟨p1,p2,p3,p4⟩:=hd3 D' (zM _ hD');have hne:D'≠D:=λe=>hd2.1 (e▸hD');exact⟨yW p1 ht.size,p2,p3,(World.putObj_heap_other hne).trans p4⟩
  rcases he with rfl|rfl
  ·exact lv
  ·exact lv
def pX(tmps:Array Value):ResultVar->Sem Value
 | .tmp t=>pure (tmps.getD t undef)
 | .cell a t=>do loadVar t (<-asAddr (tmps.getD a undef))
def sH(P:Program)(E:Env)(σ:aa bM)(rv:ResultVar)(av:AV):Prop:=∀(A:Nat->Prop) (w:World) (tmps:Array Value),Hd A σ w->gX A w E tmps->∃v,(pX tmps rv).run P w= .ok v w/\Rel A w av v
section
variable {P:Program} {C:Cx} {n:Nat} {fn:Func} {E:Env} {σ σ':aa bM} {t u:Nat} {av:AV} {e:Exit} {Φ:AV->aa bM->Prop}
def sH.tmp(h:E.get t=M av):sH P E σ (.tmp t) av:=λA w tmps _ hs=>by
 obtain⟨v,h1,h2⟩:=hs t av h;exact⟨v,by simp[pX,h1],h2⟩
def sH.az7{g:Nat}{ty T:TypeId}{cs:aa AV}(i:Nat)(h:E.get t=M (.lit (.pointer (M ⟨g,0,J⟩))))(hσ:σ[i]? =M (.box g T cs))(hT:nj P ty)(ha:cs[0]? =M av):sH P E σ (.cell t ty) av:=λA w tmps hd hs=>by
 obtain⟨v,h1,h2⟩:=hs t _ h;have h2:=h2.bR;subst h2;obtain⟨us,h3,h4⟩:=hd.1 _ (List.mem_of_getElem? hσ);obtain⟨v,h5,h6⟩:=h4.get ha;exact⟨v,by simp[pX,h1,asAddr,iT hT (h3.cell (by simpa using h5))],h6⟩
def sH.aCl{g k:Nat}{ty T:TypeId}{cs:aa AV}(i:Nat)(h:E.get t=M (.lit (.pointer (M ⟨g,0,J⟩))))(hσ:σ[i]? =M (.box g T cs))(hT:pJ P ty k)(hk:zZ cs=k):sH P E σ (.cell t ty) (.agg cs):=λA w tmps hd hs=>by
 obtain⟨v,h1,h2⟩:=hs t _ h;have h2:=h2.bR;subst h2;obtain⟨us,h3,h4⟩:=hd.1 _ (List.mem_of_getElem? hσ);refine⟨_,?_,Rel.nK h4⟩;have:=iC (P:=P) (T:=ty) (w:=w) (a:=⟨g,0,J⟩) (cs:=us) (by rw[h4.1,hk];exact hT) (λj u hj=>by rw[qQ,zY];exact h3.cell (by simpa using hj));simp[pX,h1,asAddr,this]
def Ue(he:e= .normal\/e= .ret)(hs:List.Sublist σ' σ)(hΦ:Φ av σ')(h:∀A w tmps,Hd A σ w->gX A w E tmps->∃v,(results fn tmps).run P w= .ok v w/\Rel A w av v):aaD P C n fn Φ e E σ:=
 ⟨he,λa w ha=>by
  obtain⟨v,h1,h2⟩:=h _ w a.tmps ha.good.hd ha.slots;have hl:=ha.less hs;have hal:∀b,al C σ b->al C σ' b:=λb hb=>⟨hb.1,λhx=>hb.2 (jk (λr hr=>hs.subset hr) b hx)⟩;exact⟨v,av,σ',hΦ,h1,hl.good,hal,h2.mono λb _ hA=>⟨hal b hA,rfl⟩⟩⟩
def aFg{r1:ResultVar}(he:e= .normal\/e= .ret)(hr:fn.results=#[r1])(h1:sH P E σ r1 av)(hs:List.Sublist σ' σ)(hΦ:Φ av σ'):aaD P C n fn Φ e E σ:=
 Ue he hs hΦ λA w tmps hd hl=>by
  obtain⟨v,q1,q2⟩:=h1 A w tmps hd hl;refine⟨v,?_,q2⟩;show (do let vs <-fn.results.mapM (pX tmps);pure (if h:vs.size=1 then vs[0]else .tuple vs):Sem Value).run P w=_;simp[hr,q1]
end
def sL(P:Program)(f:FuncId):Prop:=∃fn,P.funcs[f]? =M fn/\(fn.name=="runtime.NumGoroutine")=O/\fn.body.isNone=O
def CJ{P:Program}{f:FuncId}{w:World}(hf:sL P f)(args:Array Value):(callFunc f args).run P w= .ok (.enter f args) w:=by
 obtain⟨fn,h1,h2,h3⟩:=hf;have h2':¬fn.name="runtime.NumGoroutine":=by simpa using h2
 have h3':¬fn.body=J:=by
  intro h;simp_all
 simp[callFunc,Sem.run,h1,h2',h3']
def Cl(a:AV):Prop:=∀A A' w v,Rel A w a v->Rel A' w a v
def Cl.lit(v:Value):Cl (.lit v):=λA A' w u h=>by rw[h.bR];exact .lit v
def MN(as0:aa AV):Prop:=∀A A' w us,bD A w as0 us->bD A' w as0 us
def MN.nil:MN []:=λA A' w us h=>by
 have:us=[]:=xG (by simpa using h.1);rw[this];exact bD.nil
def MN.cons{a:AV}{as0:aa AV}(h:Cl a)(hs:MN as0):MN (a::as0):=λA A' w us hr=>by
 obtain⟨v,us',rfl,h1,h2⟩:=hr.head;exact bD.cons (h A A' w v h1) (hs A A' w us' h2)
def Cl.agg{as0:aa AV}(h:MN as0):Cl (.agg as0):=λA A' w v hr=>by
 obtain⟨us,rfl,h1⟩:=hr.gO;exact Rel.nK (h A A' w us h1)
def Cl.iF{as0:aa AV}(h:MN as0):Cl (.iF as0):=λA A' w v hr=>by
 obtain⟨us,rfl,h1⟩:=hr.RC;exact Rel.EN (h A A' w us h1)
def ClR(r:bM):Prop:=∀A A' w,r.ok A w->r.ok A' w
def ClR.box{b:Nat}{T:TypeId}{cs:aa AV}(h:MN cs):ClR (.box b T cs):=λA A' w ⟨us,h1,h2⟩=>⟨us,h1,h A A' w us h2⟩
def ClR.row{v:Value}{q:Nat}{l:aa (U.cQ q)}(h:∀x,MN (U.cells q x)):ClR (.row v q l):=λA A' w ⟨us,h1,h2,h3⟩=>⟨us,h1,h2,λi hi=>h _ A A' w _ (h3 i hi)⟩
section
variable {P:Program} {C:Cx} {E:Env} {σ σp σr:aa bM} {o:Oper} {x:Operand} {f:FuncId} {xs:Array Operand} {ts:Array TypeId} {as0 caps args:aa AV} {Φ:AV->aa bM->Prop}
def aaw{A:Nat->Prop}{w:World}{ρ:Operand->Value}(ho:o.op= .call {callee:= .value x,args:=xs,argTypes:=ts})(hx:E.ev x=M (.fn (.func f) caps))(hf:sL P f)(he:E.PD xs.toList=M as0)(ha:as0++caps=args)(hρ:Qj A w E ρ):∃us:aa Value,bD A w args us/\(execOp ρ o).run P w= .ok (.enter f us.toArray) w:=by
 obtain⟨us,h1,h2⟩:=(hρ _ _ hx).V6;have h3:=Env.JI hρ he;refine⟨xs.toList.map ρ++us,ha▸h3.app h2,?_⟩;have h4:xs.map ρ=(xs.toList.map ρ).toArray:=by apply Array.ext';simp
 simp[execOp,ho,resolve,h1,Deferred.ofValue,invoke,CJ hf]
def bI{σp σr:aa bM}{b:Nat}:b∈bh (σp++σr)↔b∈bh σp\/b∈bh σr:=by rw[fk,zR]
def C8{w w':World}{A:Nat->Prop}{σo:aa bM}(hg:Good C (σp++σr) w)(hA:∀b,A b->b<w.heap.size->al C (σp++σr) b\/b∈bh σr)(ht:Tr ⟨w,A,bh σp⟩ (bh σp) σp w σo w')
  (hok:∀r∈σo,r.ok (al C (σo++σr)) w'):Tr C (bh σp) (σp++σr) w (σo++σr) w':=by
 have hlt:∀b∈bh (σp++σr),b<w.heap.size:=λb hb=>by
  obtain⟨s,h1,h2⟩:=bE.1 hb;exact(hg.res s h1).lt h2
 have hdis:=hg.BR;rw[fk]at hdis;obtain⟨d1,d2,d3⟩:=yH.1 hdis;have hown:∀b∈bh σo,b∈bh σp\/w.heap.size<=b:=ht.good.own;have hal:∀b,b<w.heap.size->al C (σp++σr) b->al C (σo++σr) b/\b∉bh σp:=λb hb hA=>by
  have h2:b∉bh σp/\b∉bh σr:=by
   have:=hA.2;rw[bI]at this;simp_all
  refine⟨⟨hA.1,λhx=> ?_⟩,h2.1⟩;rcases bI.1 hx with h|h
  ·rcases hown b h with h|h
   ·simp_all
   ·omega
  ·simp_all
 refine⟨⟨hg.kept.trans ht.kp (λb hb hlt0=> ?_),λr hr=> ?_,?_,λb hb=> ?_⟩,ht.kp,hal⟩
 ·rcases hg.own b (bI.2 (.inl hb))with h|h
  ·exact h
  ·omega
 ·rcases zR.1 hr with h|h
  ·simp_all
  ·refine(hg.res r (ym _ h)).mono (λb hb hA=>⟨(hal b hb hA).1,ht.kp.block b hb (hal b hb hA).2⟩) (λb hb=> ?_);have hbr:b∈bh σr:=bE.2 ⟨r,h,hb⟩;exact ht.kp.block b (hlt b (bI.2 (.inr hbr))) (λhp=>d3 b hp b hbr rfl)
 ·rw[fk];refine yH.2 ⟨ht.good.BR,d2,λa ha b hb hab=> ?_⟩;subst hab;rcases hown a ha with h|h
  ·exact d3 a h a hb rfl
  ·have:=hlt a (bI.2 (.inr hb));omega
 ·rcases bI.1 hb with h|h
  ·rcases hown b h with h|h
   ·exact hg.own b (bI.2 (.inl h))
   ·exact .inr (zK hg.kept.size h)
  ·exact hg.own b (bI.2 (.inr h))
def Yc.fn(ho:o.op= .call {callee:= .value x,args:=xs,argTypes:=ts})(hx:E.ev x=M (.fn (.func f) caps))(hf:sL P f)(he:E.PD xs.toList=M as0)(ha:as0++caps=args)(hσ:σ=σp++σr)(h:Fn P f args σp Φ):
  Yc P E σ o C (bh σp) (λav σ'=>∃σo,Φ av σo/\σ'=σo++σr):=λw ρ hg hρ=>by
 subst hσ;obtain⟨us,h1,h2⟩:=aaw ho hx hf he ha hρ;have hlt:∀b∈bh (σp++σr),b<w.heap.size:=λb hb=>by
  obtain⟨s,h1,h2⟩:=bE.1 hb;exact(hg.res s h1).lt h2
 have hd:Hd (al C (σp++σr)) σp w:=⟨λr hr=>hg.res r (ye _ hr),λb hb hA=>hA.2 (bI.2 (.inl hb))⟩;have hnd:(bh σp).Nodup:=by have:=hg.BR;rw[fk]at this;exact(yH.1 this).1
 refine⟨f,us.toArray,h2,(h w (al C (σp++σr)) us h1 hd hnd).mono λe w' ⟨v,av,σo,q1,q2,q3,q4⟩=> ?_⟩;have hsub:∀b,b<w'.heap.size->al ⟨w,al C (σp++σr),bh σp⟩ σo b->al C (σo++σr) b:=λb _ hb=>by
  obtain⟨hb1,hb2⟩:=hb;rcases hb1 with hb1|hb1|hb1
  ·exact⟨hb1.1,λhx=>(bI.1 hx).elim hb2 (λh=>hb1.2 (bI.2 (.inr h)))⟩
  ·have hbp:b∈bh σp:=hb1;refine⟨?_,λhx=>(bI.1 hx).elim hb2 (λh=> ?_)⟩
   ·rcases hg.own b (bI.2 (.inl hbp))with h|h
    ·simp_all
    ·omega
   ·have hdis:=hg.BR;rw[fk]at hdis;exact(yH.1 hdis).2.2 b hbp b h rfl
  ·have hbw:w.heap.size<=b:=hb1;exact⟨.inr (.inr (zK hg.kept.size hbw)),λhx=>(bI.1 hx).elim hb2 (λh=>by have:=hlt b (bI.2 (.inr h));omega)⟩
 exact⟨v,av,σo++σr,q1,⟨σo,q2,rfl⟩,C8 hg (λb hA _=> .inl hA) q3 (λr hr=>(q3.good.res r hr).mono (λb hb hA=>⟨hsub b hb hA,rfl⟩) (λ_ _=>rfl)),q4.mono λb hb hA=>⟨hsub b hb hA,rfl⟩⟩
end
end Go.Iv
namespace Go.Iv
variable [U:HB]
open Go Go.RowKit
section
variable {P:Program} {E E':Env} {σ σ':aa bM} {o:Oper} {x:Operand} {av bv:AV} {C:Cx} {X:aa Nat} {n:Nat}
def sel:aa bM->aa Nat->af (aa bM)
 |_,[]=>M []
 |σ,i::is=>match σ[i]?,sel (σ.eraseIdx i) is with
  |some r,M rs=>M (r::rs)
  |_,_=>J
end
def Aa{α:Type}{c:Prop}[Decidable c]{a:af α}{r:α}(h:(if c then a else J)=M r):c/\a=M r:=by
 simp_all
abbrev cN(k:IntKind)(n:Int):aa AV:=[.n k n]
abbrev cB(b:Bool):aa AV:=[.b b]
instance:Inhabited ByteArray:=⟨.empty⟩
end Go.Iv
namespace Go.Iv
variable [U:HB]
open Go Go.RowKit
section
variable {P:Program} {E E':Env} {σ σ':aa bM} {o:Oper} {x:Operand} {av bv:AV} {C:Cx} {X:aa Nat} {n:Nat}
def Yp.conv{T T':TypeId}{k k':IntKind}{m:Int}(hT:P.underlying T=M (.int k))(hT':P.underlying T'=M (.int k'))(ho:o.op= .convert T T' x)(hx:E.ev x=M (.n k m)):Yp P E σ o (.n k' (k'.wrap m)):=Yp.lits λρ hρ w=>by
 simp[execOp,ho,hρ _ _ hx,convert,run_underlying hT,run_underlying hT',Conv.intToInt]
end
structure Gh where
 v:Nat->Value
 b:Nat->Nat
def bU.sub(ρ:Gh):AV->AV
 | .lit v=> .lit v
 | .sl t l=> .sl t l
 | .fp cs=> .fp (cs.map (bU.sub ρ))
 | .rp v k=> .rp v k
 | .agg cs=> .agg (cs.map (bU.sub ρ))
 | .iF cs=> .iF (cs.map (bU.sub ρ))
 | .fn f cs=> .fn f (cs.map (bU.sub ρ))
 | .own id=> .lit (ρ.v id)
 | .ptr id off=> .lit (.pointer (M ⟨ρ.b id,off,J⟩))
 | .ra id t m off=> .rp (ρ.v id) (m*U.sz t+off)
inductive gV (p:Nat->Prop):AV->Prop
 |lit (v:Value):gV p (.lit v)
 |sl (t:Nat) (l:List (U.cQ t)):gV p (.sl t l)
 |fp (cs:List AV) (h:∀c∈cs,gV p c):gV p (.fp cs)
 |rp (v:Value) (k:Nat):gV p (.rp v k)
 |agg (cs:List AV) (h:∀c∈cs,gV p c):gV p (.agg cs)
 |iF (cs:List AV) (h:∀c∈cs,gV p c):gV p (.iF cs)
 |fn (f:Go.Fn) (cs:List AV) (h:∀c∈cs,gV p c):gV p (.fn f cs)
 |own (id:Nat) (h:p id):gV p (.own id)
 |ptr (id off:Nat) (h:p id):gV p (.ptr id off)
 |ra (id t m off:Nat) (h:p id):gV p (.ra id t m off)
abbrev cE(n:Nat):AV->Prop:=gV (λi=>i<n)
def Ags(p:Nat->Prop)(ρ ρ':Gh):Prop:=∀i,p i->ρ.v i=ρ'.v i/\ρ.b i=ρ'.b i
def gV.mono{p q:Nat->Prop}{d:AV}(h:gV p d)(hn:∀i,p i->q i):gV q d:=by
 induction h with
 |lit v=>exact .lit v
 |sl t l=>exact .sl t l
 |fp cs _ ih=>exact .fp cs ih
 |rp v k=>exact .rp v k
 |agg cs _ ih=>exact .agg cs ih
 |iF cs _ ih=>exact .iF cs ih
 |fn f cs _ ih=>exact .fn f cs ih
 |own id h=>exact .own id (hn _ h)
 |ptr id off h=>exact .ptr id off (hn _ h)
 |ra id t m off h=>exact .ra id t m off (hn _ h)
def gV.sub{p:Nat->Prop}{d:AV}{ρ ρ':Gh}(h:gV p d)(ha:Ags p ρ ρ'):d.sub ρ=d.sub ρ':=by
 have key:∀cs:aa AV,(∀c∈cs,c.sub ρ=c.sub ρ')->cs.map (bU.sub ρ)=cs.map (bU.sub ρ'):=λcs h=>zV h;induction h with
 |lit v=>simp only[bU.sub]
 |sl t l=>simp only[bU.sub]
 |fp cs _ ih=>simp only[bU.sub];rw[key cs ih]
 |rp v k=>simp only[bU.sub]
 |agg cs _ ih=>simp only[bU.sub];rw[key cs ih]
 |iF cs _ ih=>simp only[bU.sub];rw[key cs ih]
 |fn f cs _ ih=>simp only[bU.sub];rw[key cs ih]
 |own id h=>simp only[bU.sub];rw[(ha id h).1]
 |ptr id off h=>simp only[bU.sub];rw[(ha id h).2]
 |ra id t m off h=>simp only[bU.sub];rw[(ha id h).1]
def gV.aa0{p:Nat->Prop}{cs:aa AV}{ρ ρ':Gh}(h:∀c∈cs,gV p c)(ha:Ags p ρ ρ'):cs.map (bU.sub ρ)=cs.map (bU.sub ρ'):=zV λc hc=>(h c hc).sub ha
def nc(n:Nat)(ρ ρ':Gh):Prop:=∀i,i<n->ρ.v i=ρ'.v i/\ρ.b i=ρ'.b i
def nc.refl(n:Nat)(ρ:Gh):nc n ρ ρ:=λ_ _=>⟨rfl,rfl⟩
def nc.trans{n m:Nat}{ρ ρ' ρ'':Gh}(h:nc n ρ ρ')(h':nc m ρ' ρ'')(hn:n<=m):nc n ρ ρ'':=λi hi=>
 ⟨(h i hi).1.trans (h' i aj).1,(h i hi).2.trans (h' i aj).2⟩
def cE.mono{n m:Nat}{d:AV}(h:cE n d)(hn:n<=m):cE m d:=gV.mono h λ_ hi=>yW hi hn
def cE.sub{n:Nat}{d:AV}{ρ ρ':Gh}(h:cE n d)(ha:nc n ρ ρ'):d.sub ρ=d.sub ρ':=gV.sub h ha
def cE.aa0{n:Nat}{cs:aa AV}{ρ ρ':Gh}(h:∀c∈cs,cE n c)(ha:nc n ρ ρ'):cs.map (bU.sub ρ)=cs.map (bU.sub ρ'):=gV.aa0 h ha
inductive KK
 |k1
 |k2
 |k3
inductive VK
 |i
 |b
@[reducible] def KK.T:KK->Type
 | .k1=>Int
 | .k2=>Int×Int
 | .k3=>Int×Int×Int
@[reducible] def VK.T:VK->Type
 | .i=>Int
 | .b=>Bool
instance KK.dec:(k:KK)->DecidableEq k.T
 | .k1=>inferInstanceAs (DecidableEq Int)
 | .k2=>inferInstanceAs (DecidableEq (Int×Int))
 | .k3=>inferInstanceAs (DecidableEq (Int×Int×Int))
def KK.enc:(k:KK)->k.T->AV
 | .k1,x=> .lit (.int .i64 x)
 | .k2,x=> .agg [.lit (.int .i64 x.1), .lit (.int .i64 x.2)]
 | .k3,x=> .agg [.lit (.int .i64 x.1), .lit (.int .i64 x.2.1), .lit (.int .i64 x.2.2)]
def VK.enc:(e:VK)->e.T->AV
 | .i,x=> .lit (.int .i64 x)
 | .b,x=> .lit (.bool x)
def mW(k:KK)(e:VK)(p:k.T×e.T):AV×AV:=(k.enc p.1,e.enc p.2)
inductive IR:Type
 |box (T:Nat) (cs:List AV)
 |row (t:Nat) (l:List (U.cQ t))
 |mp (es:List (AV×AV))
 |md (k:KK) (e:VK) (l:List (k.T×e.T))
def IR.res(ρ:Gh)(id:Nat):IR->bM
 | .box T cs=> .box (ρ.b id) T (cs.map (bU.sub ρ))
 | .row t l=> .row (ρ.v id) t l
 | .mp es=> .mp (ρ.v id) es
 | .md k e l=> .mp (ρ.v id) (l.map (mW k e))
abbrev aS:Type:=aa (Nat×IR)
def aS.res(ρ:Gh)(R:aS):aa bM:=R.map λp=>p.2.res ρ p.1
def IR.cE(n:Nat):IR->Prop
 | .box _ cs=>∀c∈cs,Iv.cE n c
 | .row _ _=>True
 | .mp _=>True
 | .md _ _ _=>True
def aS.cE(n:Nat)(R:aS):Prop:=∀p∈R,p.1<n/\p.2.cE n
def IR.cE.mono{n m:Nat}{r:IR}(h:r.cE n)(hn:n<=m):r.cE m:=by
 cases r with
 |box T cs=>exact λc hc=>(h c hc).mono hn
 |row t l=>trivial
 |mp es=>trivial
 |md k e l=>trivial
def aS.cE.mono{n m:Nat}{R:aS}(h:aS.cE n R)(hn:n<=m):aS.cE m R:=λp hp=>⟨yW (h p hp).1 hn,(h p hp).2.mono hn⟩
def IR.cE.res{n id:Nat}{r:IR}{ρ ρ':Gh}(h:r.cE n)(hi:id<n)(ha:nc n ρ ρ'):r.res ρ id=r.res ρ' id:=by
 cases r with
 |box T cs=>simp only[IR.res];rw[(ha id hi).2,Iv.cE.aa0 h ha]
 |row t l=>simp only[IR.res];rw[(ha id hi).1]
 |mp es=>simp only[IR.res];rw[(ha id hi).1]
 |md k e l=>simp only[IR.res];rw[(ha id hi).1]
def aS.cE.res{n:Nat}{R:aS}{ρ ρ':Gh}(h:aS.cE n R)(ha:nc n ρ ρ'):aS.res ρ R=aS.res ρ' R:=zV λp hp=>(h p hp).2.res (h p hp).1 ha
def gj(R:aS)(id:Nat):af IR:=List.rec J (λp _ ih=>Bool.rec ih (M p.2) (zg p.1 id)) R
def pG(id:Nat)(r':IR)(R:aS):aS:=List.rec [] (λp R ih=>Bool.rec (p::ih) ((p.1,r')::R) (zg p.1 id)) R
def j6(id:Nat)(R:aS):aS:=List.rec [] (λp R ih=>Bool.rec (p::ih) R (zg p.1 id)) R
def IQ{i:Nat}{r:IR}{R:aS}{id:Nat}:gj ((i,r)::R) id=match zg i id with
  |true=>M r
  |false=>gj R id:=by
 show Bool.rec (motive:=λ_=>_) (gj R id) (M r) (zg i id)=_;cases zg i id<;>rfl
def BN{i:Nat}{r r':IR}{R:aS}{id:Nat}:pG id r' ((i,r)::R)=match zg i id with
  |true=>(i,r')::R
  |false=>(i,r)::pG id r' R:=by
 show Bool.rec (motive:=λ_=>_) ((i,r)::pG id r' R) ((i,r')::R) (zg i id)=_;cases zg i id<;>rfl
def BQ{i:Nat}{r:IR}{R:aS}{id:Nat}:j6 id ((i,r)::R)=match zg i id with
  |true=>R
  |false=>(i,r)::j6 id R:=by
 show Bool.rec (motive:=λ_=>_) ((i,r)::j6 id R) R (zg i id)=_;cases zg i id<;>rfl
def fL{a b:Nat}(h:zg a b=Z):a=b:=yI h
def dG:∀{R:aS} {id:Nat} {r:IR},gj R id=M r->∃i:Nat,R[i]? =M (id,r)/\(∀r',pG id r' R=R.set i (id,r'))/\j6 id R=R.eraseIdx i
 |[],_,_,h=>by cases h
 |(i,r)::R,id,r0,h=>by
  rw[IQ]at h;cases hb:zg i id with
  |true=>
   rw[hb]at h;cases h;cases fL hb;exact⟨0,rfl,λr'=>by rw[BN,hb];rfl,by rw[BQ,hb];rfl⟩
  |false=>
   rw[hb]at h;obtain⟨j,h1,h2,h3⟩:=dG h;exact⟨j+1,h1,λr'=>by rw[BN,hb];simp[h2],by rw[BQ,hb];simp[h3]⟩
def fB{R:aS}{ρ:Gh}{i id:Nat}{r:IR}(h:R[i]? =M (id,r)):(aS.res ρ R)[i]? =M (r.res ρ id):=by
 unfold aS.res;rw[zP,h];rfl
def rF{R:aS}{ρ:Gh}{i id:Nat}{r:IR}:aS.res ρ (R.set i (id,r))=(aS.res ρ R).set i (r.res ρ id):=by
 unfold aS.res;rw[List.map_set]
def AU{R:aS}{ρ:Gh}{i:Nat}:aS.res ρ (R.eraseIdx i)=(aS.res ρ R).eraseIdx i:=by
 unfold aS.res;rw[wS,wS,zH,xX,xY]
def FJ{R:aS}{id n:Nat}{r:IR}(h:gj R id=M r)(hR:aS.cE n R):id<n/\r.cE n:=by
 obtain⟨i,h1,_⟩:=dG h;exact hR _ (List.mem_of_getElem? h1)
def mS{R:aS}{id n:Nat}{r r':IR}(h:gj R id=M r)(hR:aS.cE n R)(hr:r'.cE n):aS.cE n (pG id r' R):=by
 obtain⟨i,h1,h2,_⟩:=dG h;rw[h2];intro p hp;rcases List.mem_or_eq_of_mem_set hp with hp|rfl
 ·exact hR p hp
 ·exact⟨(hR _ (List.mem_of_getElem? h1)).1,hr⟩
def G5{R:aS}{id n:Nat}(hR:aS.cE n R):aS.cE n (j6 id R):=by
 induction R with
 |nil=>exact hR
 |cons p R ih=>
  obtain⟨i,r⟩:=p;have h2:aS.cE n R:=λp hp=>hR p (zM _ hp);rw[BQ];split
  ·exact h2
  ·intro q hq;rcases zk.1 hq with rfl|hq
   ·exact hR _ zm
   ·exact ih h2 q hq
def Env.sub(ρ:Gh)(E:Env):Env:=E.map λp=>(p.1,p.2.sub ρ)
def Env.cE(n:Nat)(E:Env):Prop:=∀p∈E,Iv.cE n p.2
def Env.eR{ρ:Gh}(t:Nat):∀(E:Env),(E.sub ρ).get t=(E.get t).map (bU.sub ρ)
 |[]=>rfl
 |(k,v)::E=>by
  show Env.get ((k,v.sub ρ)::Env.sub ρ E) t=_;unfold Env.get;cases hb:zg k t with
  |true=>rfl
  |false=>exact Env.eR t E
def Env.Q4{ρ:Gh}{E:Env}(x:Operand):(E.sub ρ).ev x=(E.ev x).map (bU.sub ρ):=by
 cases x with
 |tmp t=>exact Env.eR t E
 |const v=>simp[Env.ev,bU.sub]
 |global g=>simp[Env.ev,bU.sub]
 |func f=>simp[Env.ev,bU.sub]
def Env.get_mem:∀{E:Env} {t:Nat} {d:AV},E.get t=M d->(t,d)∈E
 |[],_,_,h=>by cases h
 |(k,v)::E,t,d,h=>by
  unfold Env.get at h;cases hb:zg k t with
  |true=>
   rw[hb]at h;cases h;cases fL hb;exact zm
  |false=>
   rw[hb]at h;exact zM _ (Env.get_mem h)
def Env.abQ{E:Env}{n:Nat}{x:Operand}{d:AV}(hE:E.cE n)(h:E.ev x=M d):Iv.cE n d:=by
 cases x with
 |tmp t=>exact hE _ (Env.get_mem h)
 |const v=>cases h;exact .lit _
 |global g=>cases h;exact .lit _
 |func f=>cases h;exact .fn _ [] (by simp)
def Env.cE.mono{n m:Nat}{E:Env}(h:E.cE n)(hn:n<=m):E.cE m:=λp hp=>(h p hp).mono hn
def Env.cE.sub{n:Nat}{E:Env}{ρ ρ':Gh}(h:E.cE n)(ha:nc n ρ ρ'):E.sub ρ=E.sub ρ':=zV λp hp=>by rw[(h p hp).sub ha]
inductive ETq (cQ:Nat->Type):Type
 |e
 |n (v:Option (bU cQ)) (l r:ETq cQ)
abbrev ET:Type:=ETq U.cQ
def cF(T:ET):Nat->af AV:=ETq.rec (λ_=>J) (λv _ _ il ir k=>Bool.rec (Bool.rec (ir (Nat.div (Nat.sub k 1) 2)) (il (Nat.div (Nat.sub k 1) 2)) (zg (Nat.mod (Nat.sub k 1) 2) 0)) v (zg k 0)) T
def ETq.v:ET->af AV
 | .e=>J
 | .n v _ _=>v
def ETq.l:ET->ET
 | .e=> .e
 | .n _ l _=>l
def ETq.r:ET->ET
 | .e=> .e
 | .n _ _ r=>r
def agh(d:AV)(ih:ET->Nat->ET)(v:af AV)(l r:ET)(k:Nat):ET:=Bool.rec (Bool.rec (.n v l (ih r (Nat.div (Nat.sub k 1) 2))) (.n v (ih l (Nat.div (Nat.sub k 1) 2)) r) (zg (Nat.mod (Nat.sub k 1) 2) 0)) (.n (M d) l r) (zg k 0)
def rZ(d:AV)(m:Nat):ET->Nat->ET:=Nat.rec (λ_ _=> .e) (λ_ ih T k=>ETq.rec (agh d ih J .e .e k) (λv l r _ _=>agh d ih v l r k) T) m
def ig(t:Nat)(d:AV)(T:ET):ET:=rZ d 12 T t
def emap(f:AV->AV)(T:ET):ET:=ETq.rec .e (λv _ _ il ir=> .n (v.map f) il ir) T
def oG(v:af AV)(l r:ET)(k:Nat):cF (.n v l r) k=if k=0 then v else if(k-1)%2=0 then cF l ((k-1)/2)else cF r ((k-1)/2):=by
 show Bool.rec (motive:=λ_=>af AV) (Bool.rec (motive:=λ_=>af AV) (cF r ((k-1)/2)) (cF l ((k-1)/2)) (zg ((k-1)%2) 0)) v (zg k 0)=_;by_cases hk:k=0
 ·subst hk;rfl
 ·have h1:zg k 0=O:=by
   cases h:zg k 0 with
   |false=>rfl
   |true=>exact iy (yI h) hk
  rw[h1,bP hk];by_cases h2:(k-1)%2=0
  ·rw[h2];rfl
  ·have h3:zg ((k-1)%2) 0=O:=by
    cases h:zg ((k-1)%2) 0 with
    |false=>rfl
    |true=>exact iy (yI h) h2
   rw[h3,bP h2]
def auK(k:Nat):cF (.e:ET) k=J:=rfl
def NS(T:ET)(k:Nat):cF T k=if k=0 then T.v else if(k-1)%2=0 then cF T.l ((k-1)/2)else cF T.r ((k-1)/2):=by
 cases T with
 |e=>simp only[ETq.v,ETq.l,ETq.r,auK,ite_self]
 |n v l r=>exact oG v l r k
def X6(d:AV)(m:Nat)(T:ET)(k:Nat):rZ d (m+1) T k=if k=0 then .n (M d) T.l T.r else if(k-1)%2=0 then .n T.v (rZ d m T.l ((k-1)/2)) T.r else .n T.v T.l (rZ d m T.r ((k-1)/2)):=by
 have e:rZ d (m+1) T k=agh d (rZ d m) T.v T.l T.r k:=by cases T<;>rfl
 rw[e];show Bool.rec (motive:=λ_=>ET) (Bool.rec (motive:=λ_=>ET) (.n T.v T.l (rZ d m T.r ((k-1)/2))) (.n T.v (rZ d m T.l ((k-1)/2)) T.r) (zg ((k-1)%2) 0)) (.n (M d) T.l T.r) (zg k 0)=_;by_cases hk:k=0
 ·subst hk;rfl
 ·have h1:zg k 0=O:=by
   cases h:zg k 0 with
   |false=>rfl
   |true=>exact iy (yI h) hk
  rw[h1,bP hk];by_cases h2:(k-1)%2=0
  ·rw[h2];rfl
  ·have h3:zg ((k-1)%2) 0=O:=by
    cases h:zg ((k-1)%2) 0 with
    |false=>rfl
    |true=>exact iy (yI h) h2
   rw[h3,bP h2]
def Bf(d:AV):∀(m:Nat) (T:ET) (k s:Nat) (av:AV),cF (rZ d m T k) s=M av->(k=s/\av=d)\/(k≠s/\cF T s=M av)
 |0,T,k,s,av,h=>by cases h
 |m+1,T,k,s,av,h=>by
  rw[X6]at h;rw[NS T s];split at h
  ·rename_i hk;subst hk;rw[oG]at h;split at h
   ·rename_i hs;subst hs;cases h;exact .inl ⟨rfl,rfl⟩
   ·rename_i hs;rw[bP hs];exact .inr ⟨λe=>hs e.symm,h⟩
  ·rename_i hk;split at h
   ·rename_i hk2;rw[oG]at h;split at h
    ·rename_i hs;subst hs;exact .inr ⟨hk,by rw[bO rfl];exact h⟩
    ·rename_i hs;rw[bP hs];split at h
     ·rename_i hs2;rw[bO hs2];rcases Bf d m T.l _ _ av h with ⟨h1,h2⟩|⟨h1,h2⟩
      ·exact .inl ⟨aj,h2⟩
      ·exact .inr ⟨λe=>h1 (by rw[e]),h2⟩
     ·rename_i hs2;rw[bP hs2];exact .inr ⟨λe=>hs2 (by rw[<-e];exact hk2),h⟩
   ·rename_i hk2;rw[oG]at h;split at h
    ·rename_i hs;subst hs;exact .inr ⟨hk,by rw[bO rfl];exact h⟩
    ·rename_i hs;rw[bP hs];split at h
     ·rename_i hs2;rw[bO hs2];exact .inr ⟨λe=>hk2 (by rw[e];exact hs2),h⟩
     ·rename_i hs2;rw[bP hs2];rcases Bf d m T.r _ _ av h with ⟨h1,h2⟩|⟨h1,h2⟩
      ·exact .inl ⟨aj,h2⟩
      ·exact .inr ⟨λe=>h1 (by rw[e]),h2⟩
def qO{t s:Nat}{d av:AV}{T:ET}(h:cF (ig t d T) s=M av):(t=s/\av=d)\/(t≠s/\cF T s=M av):=Bf d 12 T t s av h
def Ar(f:AV->AV):∀(T:ET) (s:Nat),cF (emap f T) s=(cF T s).map f
 | .e,s=>rfl
 | .n v l r,s=>by
  show cF (.n (v.map f) (emap f l) (emap f r)) s=_;rw[oG,oG,Ar f l,Ar f r];split
  ·rfl
  ·split<;>rfl
def pP(T:ET)(E:Env):Prop:=∀t d,cF T t=M d->E.get t=M d
def pP.put{T:ET}{E:Env}(h:pP T E)(t:Nat)(d:AV):pP (ig t d T) ((t,d)::E):=λs av hs=>by
 rcases qO hs with ⟨rfl,rfl⟩|⟨h1,h2⟩
 ·exact Env.ew _ _ _
 ·rw[Env.dH _ _ h1];exact h s av h2
def ML(T:ET):Operand->af AV
 | .tmp t=>cF T t
 | .const v=>M (.lit v)
 | .global g=>M (.lit (.pointer (M ⟨g,0,J⟩)))
 | .func f=>M (.fn (.func f) [])
def pP.ev{T:ET}{E:Env}(h:pP T E)(x:Operand)(d:AV)(hx:ML T x=M d):E.ev x=M d:=by
 cases x with
 |tmp t=>exact h t d hx
 |_=>exact hx
structure St where
 E:ET
 R:aS
 nx:Nat
structure Cg where
 C:Cx
 ρ:Gh
 n:Nat
def Mt(C:Cg)(n:Nat)(s:St)(a:Act)(w:World):Prop:=∃E:Env,pP s.E E/\E.cE s.nx/\aS.cE s.nx s.R/\∃ρ,(nc C.n C.ρ ρ/\C.n<=s.nx)/\lH C.C n (E.sub ρ) (aS.res ρ s.R) a w
def Env.vq{E:Env}{n t:Nat}{d:AV}(hE:E.cE n)(hd:Iv.cE n d):Env.cE n ((t,d)::E):=λp hp=>by
 rcases zk.1 hp with rfl|hp
 ·exact hd
 ·exact hE p hp
def Good.perm{C:Cx}{σ σ':aa bM}{w:World}(h:Good C σ w)(hp:List.Perm σ σ'):Good C σ' w:=by
 have hb:∀b,b∈bh σ'↔b∈bh σ:=λb=>(hp.filterMap _).symm.mem_iff;have hal:∀b,al C σ b->al C σ' b:=λb hA=>⟨hA.1,λhx=>hA.2 ((hb b).1 hx)⟩;exact⟨h.kept,λr hr=>(h.res r (hp.mem_iff.2 hr)).mono (λb _ hA=>⟨hal b hA,rfl⟩) (λ_ _=>rfl),(hp.filterMap _).nodup_iff.1 h.BR,λb hx=>h.own b ((hb b).1 hx)⟩
def Uv{C:Cx}{σ σ':aa bM}(hp:List.Perm σ σ')(b:Nat):al C σ b->al C σ' b:=λhA=>⟨hA.1,λhx=>hA.2 ((hp.filterMap _).symm.mem_iff.1 hx)⟩
section
variable {P:Program} {E E':Env} {σ σ':aa bM} {o:Oper} {x y:Operand} {av bv:AV} {C:Cx} {X:aa Nat} {n:Nat} {T T' e:TypeId}
def Hd.keep{A:Nat->Prop}{w w':World}(h:Hd A σ w)(hw:∀b,b<w.heap.size->(A b\/b∈bh σ)->w'.heap[b]? =w.heap[b]?):Hd A σ w':=
 ⟨λr hr=>(h.1 r hr).mono (λb hb hA=>⟨hA,hw b hb (.inl hA)⟩) (λb hb=>hw b ((h.1 r hr).lt hb) (.inr (bE.2 ⟨r,hr,hb⟩))),h.2⟩
def Qj.keep{A:Nat->Prop}{w w':World}{ρ:Operand->Value}(h:Qj A w E ρ)(hw:∀b,b<w.heap.size->A b->w'.heap[b]? =w.heap[b]?):Qj A w' E ρ:=λx u hx=>(h x u hx).mono λb hb hA=>⟨hA,hw b hb hA⟩
def HQ{A:Nat->Prop}{w:World}{k:IntKind}:∀{l:aa Int} {us:aa Value},bD A w (l.map (bU.n k)) us->us=l.map (Value.int k)
 |[],us,h=>xG (by simpa using h.1)
 |x::l,us,h=>by
  obtain⟨v,us',rfl,h1,h2⟩:=bD.head (show bD A w (bU.n k x::l.map (bU.n k)) us from h);rw[h1.bR,HQ h2];rfl
def Yp.b2s{q:Nat}{l:aa Int}{l0:aa (U.cQ q)}(ho:o.op= .convert T T' x)(hx:Src σ E x q l0)(hn:l0.flatMap (U.cells q)=l.map (bU.n .u8))(hz:U.sz q=1)(hs:P.underlying T=M (.slice e))(he:P.underlying e=M (.int .u8))(hd:P.underlying T'=M .string):Yp P E σ o (.s (strOfNums l)):=λA w ρ h hρ=>
 ⟨_, .lit _,λw' hw=>by
  obtain⟨p,cap,news,h1,h2,h3,_,h5,_⟩:=hx.spec (h.keep hw) (hρ.keep λb hb hA=>hw b hb (.inl hA));have h6:=HQ (by rw[hn]at h5;exact h5);have hl0:zZ l0=zZ l:=by rw[hz,yb]at h3;rw[<-h3,h6,zF]
  rw[hl0]at h1 h2;have hconv:(convert T T' (.slice p (zZ l) cap)).run P w'= .ok (.string (strOfNums l)) w':=by
   cases p with
   |none=>
    have:l=[]:=by
     rcases h2 with h2|⟨a,h2,_⟩
     ·exact xG h2
     ·cases h2
    subst this;have hc:=run_convert_bytes_nil (P:=P) w' T e hs he 0 cap T' hd;have:strOfNums []=ByteArray.empty:=rfl;rw[this];simpa using hc
   |some a=>
    have hl:(loadCells a (zZ l)).run P w'= .ok (l.map (Value.int .u8)).toArray w':=by
     rcases h2 with h2|⟨a',h2,h4⟩
     ·have:l=[]:=xG h2;subst this;simp[loadCells,loadCellsFrom]
     ·cases h2;have:=run_loadCells_list (P:=P) w' a (l.map (Value.int .u8)) (λj v hj=>h4 j v (by rw[h6];exact hj));simpa using this
    rw[run_convert_bytes_string w' T T' e _ (zZ l) cap hs he hd,run_bytesToString w' _ (zZ l) cap l hl,foldl_push_bytes];simp[strOfNums,ByteArray.empty,ByteArray.emptyWithCapacity];rfl
  simp[execOp,ho,h1,hconv]⟩
def Yp.aJP{s t:ByteArray}(ho:o.op= .binOp .eql T x y T')(hx:E.ev x=M (.s s))(hy:E.ev y=M (.s t)):Yp P E σ o (.b (s.toList==t.toList)):=Yp.lits λρ hρ w=>by
 simp[execOp,ho,hρ _ _ hx,hρ _ _ hy,eqGuard,binOp,Op.stringOp]
def Yp.aKf{s t:ByteArray}(ho:o.op= .binOp .neq T x y T')(hx:E.ev x=M (.s s))(hy:E.ev y=M (.s t)):Yp P E σ o (.b (!(s.toList==t.toList))):=Yp.lits λρ hρ w=>by
 simp[execOp,ho,hρ _ _ hx,hρ _ _ hy,eqGuard,binOp,Op.stringOp]
def run_equal_bool{w:World}{b c:Bool}(hT:P.underlying T=M .bool):(Op.equal T (.bool b) (.bool c)).run P w= .ok (b==c) w:=by
 obtain⟨d,hd⟩:∃d,Op.maxDepth=d+1:=⟨Op.maxDepth-1,by decide⟩;unfold Op.equal;rw[hd];unfold Op.equalIn;simp only[Sem.run_bind,run_underlying hT,Result.andThen_ok];rfl
def Yp.aHS{b c:Bool}(ho:o.op= .binOp .eql T x y T')(hT:P.underlying T=M .bool)(hx:E.ev x=M (.b b))(hy:E.ev y=M (.b c)):Yp P E σ o (.b (b==c)):=Yp.lits λρ hρ w=>by
 have hbin:binOp .eql T (.bool b) (.bool c)=(do pure (.bool (<-Op.equal T (.bool b) (.bool c)))):=rfl;have h1:=run_equal_bool (P:=P) (T:=T) (w:=w) (b:=b) (c:=c) hT;simp only[execOp,ho,hρ _ _ hx,hρ _ _ hy,eqGuard,hbin];simp[h1]
def Yp.aJo{b c:Bool}(ho:o.op= .binOp .neq T x y T')(hT:P.underlying T=M .bool)(hx:E.ev x=M (.b b))(hy:E.ev y=M (.b c)):Yp P E σ o (.b (!(b==c))):=Yp.lits λρ hρ w=>by
 have hbin:binOp .neq T (.bool b) (.bool c)=(do pure (.bool (!(<-Op.equal T (.bool b) (.bool c))))):=rfl;have h1:=run_equal_bool (P:=P) (T:=T) (w:=w) (b:=b) (c:=c) hT;simp only[execOp,ho,hρ _ _ hx,hρ _ _ hy,eqGuard,hbin];simp[h1]
end
def EX{zs:aa Value}{sz:Nat}(hsz:zZ zs=sz)(nn:Nat):(Builtin.zeroCells zs.toArray nn).toList=(zq nn zs).flatten:=by
 apply List.ext_getElem?;intro j;have hfl:zZ (zq nn zs).flatten=nn*sz:=by simp[hsz]
 have hq:∀(q:Nat) (j:Nat),j<q*sz->(zq q zs).flatten[j]? =zs[j%sz]? :=by
  intro q;induction q with
  |zero=>intro j hj;simp at hj
  |succ q ih=>
   intro j hj;rw[yM,wE,yJ];split
   ·rename_i h;rw[hsz]at h;rw[wF h]
   ·rename_i h;rw[hsz]at h;rw[hsz,ih _ (by rw[yL]at hj;omega),Nat.mod_eq_sub_mod (by omega:sz<=j)]
 by_cases hj:j<nn*sz
 ·rw[hq nn j hj];have h0:0<sz:=by
   rcases wD sz with h|h
   ·rw[h]at hj;omega
   ·exact h
  have hlt:j%sz<zZ zs:=by rw[hsz];exact xF _ h0
  rw[zD hlt];simp[Builtin.zeroCells,hsz,hj,zD hlt]
 ·rw[wj (l:=(zq nn zs).flatten) (by rw[hfl];omega),wj];simp[Builtin.zeroCells,hsz];omega
def CP{P:Program}{w:World}{T tn ty e:TypeId}{kn:IntKind}{i:TypeInfo}{zz v:Value}{sz by' nn mm:Nat}{us:aa Value}(ht:P.underlying T=M (.slice e))(htn:P.underlying tn=M (.int kn))(hi:P.info? e=M i)(hz:i.zero=M zz)(hs:i.size=sz)(hby:i.bytes=by')(hzs:zz.cells.size=sz)(hpos:0<sz)
  (hrow:gr w v e sz nn us) (h1:∀u∈(Builtin.zeroCells zz.cells mm).toList,u.oneCell'=Z) (h63:nn+mm<=maxLen) (hb:(nn+mm)*by'<=140737488355328):
  ∃v' w',(Builtin.append_ #[T,tn] ty #[v, .int .i64 mm]).run P w= .ok v' w'/\gr w' v' e sz (nn+mm) (us++(Builtin.zeroCells zz.cells mm).toList)/\Kp (fU v).toList w w'/\(fU v'=fU v\/fU v'=M w.heap.size):=by
 subst hs hby
 have h63':((nn+mm:Nat):Int)<=9223372036854775807:=by unfold maxLen at h63;omega
 have hw:IntKind.i64.wrap (mm:Int)=mm:=by rw[IntKind.wrap_i64];omega
 have hneg:¬((mm:Int)<0):=aj;have hmb:mm*i.bytes<=140737488355328:=zK (yS _ aj) hb;have h48i:¬(281474976710656<(mm:Int)*(i.bytes:Int)):=by rw[<-Int.natCast_mul];omega
 have hzl:zZ (Builtin.zeroCells zz.cells mm).toList=mm*i.size:=by rw[yf,size_zeroCells,hzs]
 by_cases hm:mm=0
 ·subst hm;obtain⟨q,cap,rfl,hcap⟩:=hrow.len;have hrun:(Builtin.append_ #[T,tn] ty #[.slice q nn cap, .int .i64 (0:Nat)]).run P w= .ok (.slice q nn cap) w:=by
   cases q<;>simp[Builtin.append_,run_underlying ht,run_underlying htn,sizeOf,typeInfo,hi,asInt,asIntOf,hw,hcap,storeCells,IntKind.wrap_i64]
  exact⟨_,w,hrun,by simpa [Builtin.zeroCells]using hrow,Kp.refl _ _, .inl rfl⟩
 ·have hfit:∀old,Builtin.nextslicecap (nn+mm) old*i.bytes<=281474976710656\/¬old<nn+mm:=λold=>by
   by_cases h:old<nn+mm
   ·exact .inl (growslice_fits aj hb)
   ·exact .inr h
  have grown:∀(olds:aa Value) (old:Nat),zZ olds=nn*i.size->old<nn+mm->us=olds->
    gr (w.drew.alloc (.cells (olds.toArray++Builtin.zeroCells zz.cells mm++Builtin.zeroCells zz.cells (grownCap w (nn+mm) old e-(nn+mm))) e)) (.slice (M ⟨w.heap.size,0,J⟩) (nn+mm) (grownCap w (nn+mm) old e)) e i.size (nn+mm) (us++(Builtin.zeroCells zz.cells mm).toList):=by
   intro olds old hol hlt hus;subst hus;have hge:=grownCap_ge w (nn+mm) old e;have hcm:=grownCap_le_maxLen w (nn+mm) old e h63;obtain⟨ck,hck⟩:∃ck,grownCap w (nn+mm) old e=ck+1:=⟨grownCap w (nn+mm) old e-1,aj⟩;refine⟨by rw[zu,hol,hzl,yw], .inr ⟨w.heap.size,ck,_,by rw[hck],heap_alloc_new w.drew _,aj,aj,?_,?_⟩⟩
   ·rw[<-hck];simp only[Array.size_append,yp,size_zeroCells,hzs,hol,<-yw]
    congr 1
    omega
   ·simp only[Array.toList_append];rw[show (nn+mm)*i.size=zZ (us++(Builtin.zeroCells zz.cells mm).toList) from by rw[zu,hol,hzl,yw]];exact List.take_left
  have grow:∀(base:af Addr) (old:Nat),(Builtin.firstCells i.size nn (.slice base nn old)).run P w.drew= .ok us.toArray w.drew->zZ us=nn*i.size->old<nn+mm->
    ∃v' w',(Builtin.append_ #[T,tn] ty #[.slice base nn old, .int .i64 mm]).run P w= .ok v' w'/\gr w' v' e i.size (nn+mm) (us++(Builtin.zeroCells zz.cells mm).toList)/\Kp [] w w'/\fU v'=M w.heap.size:=λbase old hf hul hlt=>by
   have hr:=Lib.run_append_grow_zeros (P:=P) w T tn ty e i zz .i64 kn ht htn hi hz base nn old us hf mm aj hpos hlt h63' aj ((hfit old).resolve_right aj);refine⟨_,_,hr,grown us old hul hlt rfl,⟨rfl,rfl,rfl,by simp,λk hk _=>heap_alloc_old w.drew _ hk⟩,?_⟩;have hge:=grownCap_ge w (nn+mm) old e;obtain⟨ck,hck⟩:∃ck,grownCap w (nn+mm) old e=ck+1:=⟨grownCap w (nn+mm) old e-1,aj⟩;rw[hck];rfl
  rcases hrow.2 with ⟨q,rfl,rfl⟩|⟨g,cap,cur,rfl,hg,hnc,hcm,hcs,htake⟩
  ·have hu:us=[]:=xG (by simpa using hrow.1);subst hu;obtain⟨v',w',r1,r2,r3,r4⟩:=grow q 0 (by cases q<;>simp[Builtin.firstCells,loadCells,loadCellsFrom]) (by simp) aj;exact⟨v',w',r1,r2,⟨r3.os,r3.tape,r3.output,r3.size,λk hk _=>r3.block k hk (by simp)⟩, .inr r4⟩
  ·by_cases hroom:nn+mm<=cap+1
   ·have hcl:nn*i.size+zZ (Builtin.zeroCells zz.cells mm).toList<=cur.size:=by rw[hzl,hcs,<-yw];exact yS _ hroom
    have hst:=run_storeCells_at P g (nn*i.size) e (Builtin.zeroCells zz.cells mm).toList 0 cur w hg (by simpa using hcl) h1;simp only[yG]at hst;have hns:¬(mm*i.size=0):=Nat.mul_ne_zero hm aj;have hr:(Builtin.append_ #[T,tn] ty #[.slice (M ⟨g,0,J⟩) nn (cap+1), .int .i64 mm]).run P w= .ok (.slice (M ⟨g,0,J⟩) (nn+mm) (cap+1)) (w.setRow g (cur.toList.take (nn*i.size)++(Builtin.zeroCells zz.cells mm).toList++cur.toList.drop (nn*i.size+zZ (Builtin.zeroCells zz.cells mm).toList)).toArray):=by
     simp[Builtin.append_,run_underlying ht,run_underlying htn,sizeOf,typeInfo,zeroValue,hi,hz,asInt,asIntOf,hw,hneg,hns,h48i,hroom,Addr.add_lit,hst]
    refine⟨_,_,hr,⟨by rw[zu,hrow.1,hzl,yw], .inr ⟨g,cap,_,rfl,setRow_heap w g cur _ e _ hg,hroom,hcm,?_,?_⟩⟩,mU w g _, .inl rfl⟩
    ·simp only[yp,zu,zL,zX,yf]at hcl ⊢;omega
    ·rw[htake,show (nn+mm)*i.size=zZ (us++(Builtin.zeroCells zz.cells mm).toList) from by rw[zu,hrow.1,hzl,yw]];exact List.take_left
   ·have holds:∀j v,us[j]? =M v->w.cell? ((⟨g,0,J⟩:Addr).add j)=M v:=λj v hj=>by
     rw[qQ,zY];exact hrow.cells rfl j v hj
    obtain⟨v',w',r1,r2,r3,r4⟩:=grow (M ⟨g,0,J⟩) (cap+1) (run_firstCells_some (P:=P) w.drew i.size nn ⟨g,0,J⟩ nn (cap+1) us hrow.1 (by simpa using holds)) hrow.1 aj;exact⟨v',w',r1,r2,⟨r3.os,r3.tape,r3.output,r3.size,λk hk _=>r3.block k hk (by simp)⟩, .inr r4⟩
def GV{A:Nat->Prop}{w:World}{q:Nat}{d:U.cQ q}{zs:aa Value}(hd:∀A w,bD A w (U.cells q d) zs):∀n,bD A w ((zq n d).flatMap (U.cells q)) (zq n zs).flatten
 |0=>bD.nil
 |n+1=>by
  rw[yM,yM,xV,wE];exact(hd A w).app (GV hd n)
section
variable {P:Program} {C:Cx} {E:Env} {σ:aa bM} {o:Oper} {x y:Operand} {T tn e:TypeId} {v:Value}
def Yv.aJ0{by':Nat}{kn:IntKind}{l:aa (U.cQ e)}{zs:aa Value}{m:Int}(i:Nat)(d:U.cQ e)(ho:o.op= .call {callee:= .builtin .append,args:=#[x,y],argTypes:=#[T,tn]})(hx:E.ev x=M (.lit v))(hσ:σ[i]? =M (.row v e l))(hy:E.ev y=M (.i m))(hT:P.underlying T=M (.slice e))(htn:P.underlying tn=M (.int kn))(hs:(P.info? e).map (λi=>(i.size,i.bytes))=M ((U.sz e),by'))(hz:iP P e=M zs)(hzl:zZ zs=(U.sz e))(hpos:0<(U.sz e))(hb:z7 by' 4096=Z)
  (hd:∀A w,bD A w (U.cells e d) zs) (hone:zs.all Value.oneCell'=Z) (hlen:0<=m/\zZ (l++zq m.toNat d)<=1073741824):Yv P E σ o C (xU (fU v)) (λa σ'=>∃v',a= .lit v'/\σ'=σ.set i (.row v' e (l++zq m.toNat d))):=λw ρ hg hρ=>by
 obtain⟨it,hit,hz1⟩:=zl.1 hz;obtain⟨zv,hz2,hz3⟩:=zj.1 hz1;obtain⟨ie,hie,hse⟩:=zj.1 hs;have hee:it=ie:=by rw[hit]at hie;exact zJ.inj hie
 subst hee;simp only[Prod.mk.injEq]at hse;obtain⟨s1,s2⟩:=hse;have hby:by'<=4096:=by simpa using hb
 obtain⟨us,g1,g2,g3⟩:=lF (hg.res _ (List.mem_of_getElem? hσ));have hx':=(hρ _ _ hx).bR;have hy':=(hρ _ _ hy).bR;obtain⟨mm,rfl⟩:∃mm:Nat,m=mm:=⟨m.toNat,aj⟩;rw[zw]at hlen ⊢;obtain⟨_,hlen⟩:=hlen;rw[zu,yY]at hlen;have hbytes:(zZ l+mm)*by'<=140737488355328:=by
  have:(zZ l+mm)*by'<=1073741824*4096:=Nat.mul_le_mul hlen hby
  omega
 have hzc:zv.cells=zs.toArray:=by rw[<-hz3]
 have hzt:(Builtin.zeroCells zv.cells mm).toList=(zq mm zs).flatten:=by rw[hzc];exact EX hzl mm
 obtain⟨v',w',r1,r2,r3,r4⟩:=CP (P:=P) (T:=T) (tn:=tn) (ty:=o.type) hT htn hit hz2 s1 s2 (by rw[hzc,yp,hzl]) hpos g1 (mm:=mm) (by
  rw[hzt];intro u hu;obtain⟨q,hq,hu⟩:=List.mem_flatten.1 hu;rw[List.eq_of_mem_replicate hq]at hu;exact zn.1 hone u hu) (by unfold maxLen;omega) hbytes
 rw[hzt]at r2;refine⟨v',w',_,_,⟨v',rfl,rfl⟩,pW (r:= .row v e l) hg hσ r3 r4 (pN (by rw[zu,yY];exact r2) (PY g2 (λj hj=> ?_)) ?_),?_, .lit _⟩
 ·rw[yY]at hj;rw[getElem!_pos _ j (by simpa using hj),List.getElem_replicate,<-(hd (λ_=>True) w).1,hzl]
 ·rw[List.flatMap_append];refine bD.app (g3.mono λb hb hA=>⟨⟨hA.1,λhx=> ?_⟩,r3.block b hb (λhx=>hA.2 (bE.2 ⟨_,List.mem_of_getElem? hσ,by simpa [bM.blk]using hx⟩))⟩) (GV hd mm);obtain⟨s,hs1,hs2⟩:=bE.1 hx;rcases List.mem_or_eq_of_mem_set hs1 with h|h
  ·exact hA.2 (bE.2 ⟨s,h,hs2⟩)
  ·rw[h]at hs2;rcases r4 with r4|r4
   ·exact hA.2 (bE.2 ⟨_,List.mem_of_getElem? hσ,by rw[<-hs2];exact r4.symm⟩)
   ·have hs2':fU v'=M b:=hs2;rw[r4]at hs2';cases hs2';omega
 ·simp[execOp,ho,resolve,invoke,builtin,hx',hy',r1]
end
end Go.Iv
namespace Go.Iv
variable [U:HB]
open Go Go.RowKit Go.Shelf Go.Proofs
def iM(o:Oper):Bool:=match o.op with
 | .defer _=>O
 |_=>Z
def iM.ne{o:Oper}(h:iM o=Z):∀c,o.op≠ .defer c:=λc e=>by
 unfold iM at h;rw[e]at h;cases h
def Iw{P:Program}{l m:Nat}{o:Oper}{a:Act}{w:World}{K K':Act->World->Prop}{Q:Exit->Act->World->Prop}(hp:iM o=Z)(h:o.wp P a w K Q)(hK:∀a w,K a w->K' a w):o.wpIn (Fence.wide.inRound l) m P a w K' Q:=by
 refine⟨λ_ _=>trivial,?_⟩;rw[Fence.inRound_round,Oper.semAt_some l _ _ (iM.ne hp)];unfold Oper.wp at h;generalize (execOp a.eval o).run P w=r at h;cases r with
 |ok x w'=>
  cases x with
  |value v=>exact hK _ _ h
  |skip=>exact hK _ _ h
  |defer d=>exact hK _ _ h
  |enter f args=>
   refine⟨λh=>by simp[Fence.inRound,Fence.wide]at h,CallsIn.inRound l (callsIn_wide.2 (Calls.mono h λe w'' he=> ?_))⟩;cases e with
   |returned v=>exact hK _ _ he
   |panicked ch=>exact he
   |outgrown=>exact he
  |row row args=>
   refine⟨λh=>by simp[Fence.inRound,Fence.wide]at h,λc cs _=> ?_⟩;obtain⟨v,w'',q1,q2⟩:=h c cs;exact⟨v,w'',hK _ _ q1,stepsIn_wide.2 q2⟩
  |_=>exact h.elim
 |halt x w'=>
  cases x with
  |panic v=>exact h
  |_=>exact h.elim
def lM{P:Program}{l m:Nat}{ops:Array Oper}{Q:Exit->Act->World->Prop}(hQ:¬LetsOut Q):∀(rest:aa Oper) (a:Act) (w:World),rest.all iM=Z->wpList P ops Q rest a w->wpListIn (Fence.wide.inRound l) m P ops Q rest a w
 |[],_,_,_,h=>h
 |o::rest,a,w,hp,h=>by
  rw[xu,zh]at hp;unfold wpList at h;unfold wpListIn;by_cases hw:Region.wanted o (yielded ops a.tmps)=Z
  ·rw[bO hw]at h ⊢;rcases h with h|h
   ·exact Iw hp.1 h λa' w' h'=>lM hQ rest a' w' hp.2 h'
   ·exact iy h.2 hQ
  ·rw[bP hw]at h ⊢;exact⟨λ_ _=>trivial,lM hQ rest _ _ hp.2 h⟩
def HF(P:Program)(C:Cx)(n:Nat)(c:Code)(Q:Exit->Env->aa bM->Prop)(E:Env)(σ:aa bM):Prop:=
 ∀lp m a w,lH C n E σ a w->a.defers=[]->c.wpIn (Fence.wide.inRound lp) m P (λe a' w'=>a'.defers=[]/\∃E' σ',lH C n E' σ' a' w'/\Q e E' σ') a w
section
variable {P:Program} {C:Cx} {n:Nat} {c x y:Code} {Q Q':Exit->Env->aa bM->Prop} {E E':Env} {σ σ':aa bM}
def HF.mono(h:HF P C n c Q E σ)(hq:∀e E σ,Q e E σ->Q' e E σ):HF P C n c Q' E σ:=λlp m a w ha hd=>
 wpIn_mono (h lp m a w ha hd) λ_ _ _ ⟨hd',E',σ',h1,h2⟩=>⟨hd',E',σ',h1,hq _ _ _ h2⟩
def HF.block{id:Nat}(h:HF P C n c (KE id Q) E σ):HF P C n (.block id c) Q E σ:=λlp m a w ha hd=>by
 refine wpIn_block (wpIn_mono (h lp m a w ha hd) λe a' w' ⟨hd',E',σ',h1,h2⟩=> ?_);cases e with
 |exit id'=>
  simp only[KE]at h2;simp only[Exit.inBlock];split
  ·rename_i he;subst he;have hb:zg id' id'=Z:=yQ _;simp only[hb]at h2;exact⟨hd',E',σ',h1,h2⟩
  ·rename_i he;have hb:zg id' id=O:=by
    cases hb:zg id' id with
    |false=>rfl
    |true=>exact iy (yI hb) he
   simp only[hb]at h2;exact⟨hd',E',σ',h1,h2⟩
 |_=>exact⟨hd',E',σ',h1,h2⟩
def HF.region{id:Nat}{l:aa Oper}(hp:l.all iM=Z)(h:RW P C n l.toArray (λE' σ'=>Q .normal E' σ') l E σ):HF P C n (.region id l.toArray O) Q E σ:=λlp m a w ha hd=>by
 refine wpIn_mono (wpIn_region_lit (lM (λ⟨_,_,h⟩=>by cases h.1) l a w hp (h a w ha))) λe a' w' ⟨he,hd',E',σ',h1,h2⟩=> ?_;subst he;exact⟨hd'.trans hd,E',σ',h1,h2⟩
end
def Vw.box{σ:aa bM}{b:Nat}{T:TypeId}{cs:aa AV}(i:Nat)(hσ:σ[i]? =M (.box b T cs)):Vw σ (.lit (.pointer (M ⟨b,0,J⟩))) (.fp cs):=λA w v hd hr=>by
 have hv:=hr.bR;subst hv;have hm:=List.mem_of_getElem? hσ;obtain⟨us,h1,h2⟩:=hd.1 _ hm;exact .fp cs b 0 us h1.lt (.inr (bE.2 ⟨_,hm,rfl⟩)) h2.1 (λj v hj=>by rw[zY];exact h1.cell (by simpa using hj)) (λj a v q1 q2=>(h2.2 j a v q1 q2).mono λb _ hA=>⟨.inl hA,rfl⟩)
def Vw.fn{σ:aa bM}{f:Go.Fn}{cs cs':aa AV}(h:VwL σ cs cs'):Vw σ (.fn f cs) (.fn f cs'):=λA w v hd hr=>by
 obtain⟨us,rfl,h1⟩:=hr.V6;have:=h A w us hd h1;exact .fn f _ us this.1 this.2
def Iter(P:Program)(gf:FuncId)(caps:aa AV)(es:aa (aa AV)):Prop:=
 ∀(A:Nat->Prop) (w:World) (lb:aa Value),bD A w caps lb->∃us:aa (aa Value),zZ us=zZ es/\(∀i,i<zZ es->bD A w es[i]! us[i]!)/\
  SeqStopsK Fence.wide 1 P gf lb.toArray (λi:Fin es.length=>us[i.1]!.toArray) (λW W'=>∀b,b<w.heap.size->A b->W'.heap[b]? =W.heap[b]?) (λxs=>xs=yt (zZ es)) (λpre=>pre<+:yt (zZ es)) (zZ es) w
def Ex:aa Tmp->aa AV->Env->Env
 |p::ps,e::es,E=>Ex ps es ((p,e)::E)
 |_,_,E=>E
def gX.Ex{A:Nat->Prop}{w:World}:∀(ps:aa Tmp) (es:aa AV) (us:aa Value) (E:Env) (tmps:Array Value),gX A w E tmps->bD A w es us->(∀p∈ps,p<tmps.size)->zZ ps=zZ es->
  gX A w (Ex ps es E) ((ps.zip us).foldl (λt (p,v)=>t.setIfInBounds p v) tmps)
 |[],[],us,E,tmps,h,_,_,_=>by simpa [Iv.Ex]using h
 |[],_::_,_,_,_,_,_,_,hl=>by cases hl
 |_::_,[],_,_,_,_,_,_,hl=>by cases hl
 |p::ps,e::es,[],E,tmps,h,hr,_,_=>by have:=hr.1;simp at this
 |p::ps,e::es,u::us,E,tmps,h,hr,hp,hl=>by
  have h1:gX A w ((p,e)::E) (tmps.setIfInBounds p u):=gX.put (a:={tmps:=tmps,defers:=[]}) h (hp p zm) (hr.2 0 e u rfl rfl);exact gX.Ex ps es us _ _ h1 ⟨by have:=hr.1;simpa using this,λj a v q1 q2=>hr.2 (j+1) a v (by simpa using q1) (by simpa using q2)⟩ (λq hq=>by simpa using hp q (zM _ hq)) (by simpa using hl)
def RV(tmps:Array Value)(zs:aa (Tmp×Value)):Array Value:=zs.foldl (λt (p,v)=>t.setIfInBounds p v) tmps
def Cv:∀(zs:aa (Tmp×Value)) (tmps:Array Value),(RV tmps zs).size=tmps.size
 |[],_=>rfl
 |z::zs,tmps=>(Cv zs (tmps.setIfInBounds z.1 z.2)).trans (by simp)
def Y7(ps:Array Tmp)(us:aa Value)(tmps:Array Value):(ps.zip us.toArray).foldl (λt (p,v)=>t.setIfInBounds p v) tmps=RV tmps (ps.toList.zip us):=by
 rw[<-Array.foldl_toList,Array.toList_zip];rfl
def afl{C:Cx}{σ σ1:aa bM}{W W':World}(h:Good C σ W)(h':Good ⟨W,al C σ,bh σ⟩ σ1 W'):Tr C (bh σ) σ W σ1 W':=by
 have hal:∀b,al ⟨W,al C σ,bh σ⟩ σ1 b->al C σ1 b:=λb hb=>by
  refine⟨?_,hb.2⟩;rcases hb.1 with q|q|q
  ·exact q.1
  ·rcases h.own b q with q|q
   ·exact .inr (.inl q)
   ·exact .inr (.inr q)
  ·exact .inr (.inr (zK h.kept.size q))
 refine⟨⟨h.kept.trans h'.kept (λb hb hlt=>(h.own b hb).elim id (λq=>aj)),λr hr=>(h'.res r hr).mono (λb _ hA=>⟨hal b hA,rfl⟩) (λ_ _=>rfl),h'.BR,λb hb=> ?_⟩,h'.kept,λb hb hA=>⟨⟨hA.1,λhx=> ?_⟩,hA.2⟩⟩
 ·rcases h'.own b hb with q|q
  ·exact h.own b q
  ·exact .inr (zK h.kept.size q)
 ·rcases h'.own b hx with q|q
  ·exact hA.2 q
  ·have q':W.heap.size<=b:=q;omega
def aem{C:Cx}{σ σ1:aa bM}{W:World}(h:Good C σ W):∀b,al ⟨W,al C σ,bh σ⟩ σ1 b->al C σ1 b:=λb hb=>by
 refine⟨?_,hb.2⟩;rcases hb.1 with q|q|q
 ·exact q.1
 ·rcases h.own b q with q|q
  ·exact .inr (.inl q)
  ·exact .inr (.inr q)
 ·exact .inr (.inr (zK h.kept.size q))
def Good.fresh{C:Cx}{σ:aa bM}{W:World}(h:Good C σ W):Good ⟨W,al C σ,bh σ⟩ σ W:=
 ⟨Kp.refl _ _,λr hr=>(h.res r hr).mono (λb _ hA=>⟨⟨.inl hA,hA.2⟩,rfl⟩) (λ_ _=>rfl),h.BR,λb hb=> .inl hb⟩
def Good.less{C:Cx}{σ σ':aa bM}{W:World}(h:Good C σ W)(hs:List.Sublist σ' σ):Good C σ' W:=by
 have hm:∀r∈σ',r∈σ:=λr hr=>hs.subset hr;exact⟨h.kept,λr hr=>(h.res r (hm r hr)).mono (λb _ hA=>⟨⟨hA.1,λhx=>hA.2 (jk hm b hx)⟩,rfl⟩) (λ_ _=>rfl),h.BR.sublist (hs.filterMap _),λb hb=>h.own b (jk hm b hb)⟩
def Lay(C:Cx)(σ:aa bM)(w:World)(σ':aa bM)(W:World):Prop:=∀b,b<w.heap.size->al C σ b->al C σ' b/\W.heap[b]? =w.heap[b]?
def Lay.less{C:Cx}{σ σ' σ'':aa bM}{w W:World}(h:Lay C σ w σ' W)(hs:List.Sublist σ'' σ'):Lay C σ w σ'' W:=λb hb hA=>
 ⟨⟨(h b hb hA).1.1,λhx=>(h b hb hA).1.2 (jk (λ_ hr=>hs.subset hr) b hx)⟩,(h b hb hA).2⟩
def Lay.tr{C:Cx}{X:aa Nat}{σ σ' σ'':aa bM}{w W W':World}(h:Lay C σ w σ' W)(t:Tr C X σ' W σ'' W')(hs:w.heap.size<=W.heap.size):Lay C σ w σ'' W':=λb hb hA=>
 have q:=t.keep b (yW hb hs) (h b hb hA).1
 ⟨q.1,q.2.trans (h b hb hA).2⟩
def bM.ok.cells{A:Nat->Prop}{w:World}{r:bM}(h:r.ok A w)(hm:∀v es,r≠ .mp v es){b:Nat}(hb:r.blk=M b):∃cs T m,w.heap[b]? =M (Obj.cells cs T m):=by
 cases r with
 |box b' T cs=>obtain⟨us,h1,_⟩:=h;cases hb;exact⟨_,_,_,h1⟩
 |row v q l=>
  obtain⟨us,h1,_⟩:=h;rcases h1.2 with ⟨p,rfl,_⟩|⟨g,cap,cur,rfl,q1,_⟩
  ·cases p<;>cases hb
  ·cases hb;exact⟨_,_,_,q1⟩
 |mp v es=>exact iy rfl (hm v es)
def Pb{C:Cx}{W W':World}{row:af Nat}(hg:W.grownBy W' row)(hw:∀r,row=M r->C.w0.heap.size<=r/\∃o:Obj,W.heap[r]? =M o/\o.isCells=O)(h0:C.w0.heap.size<=W.heap.size):Tn0 C W W':=
 ⟨hg.os,hg.tape,hg.output,hg.size,λk hk=>hg.block k aj (λe=>by have:=(hw k e.symm).1;omega),λb cs T m hx=>hg.block b (yd.1 hx).1 (λe=>by
  obtain⟨_,o,h1,h2⟩:=hw b e.symm;rw[hx]at h1;cases h1;cases h2)⟩
def Mid(C:Cx)(σ:aa bM)(w:World)(ze:aa bM->Prop)(W:World):Prop:=
 ∃σ',ze σ'/\Good C σ' W/\Lay C σ w σ' W/\w.heap.size<=W.heap.size
def Mid.own{α:Type}{C:Cx}{σ:aa bM}{w:World}(hw:C.w0.heap.size<=w.heap.size)(ze:α->aa bM->Prop)(hn:∀a σ,ze a σ->SE σ):OwnFrom w.heap.size (λpre=>Mid C σ w (ze pre)):=λpre W W' row ⟨σ',h1,h2,h3,h4⟩ hg hr=>by
 refine⟨σ',h1,h2.PK (hn _ _ h1) (Pb hg (λr e=>⟨by have:=(hr r e).1;omega,(hr r e).2⟩) h2.kept.size),λb hb hA=>⟨(h3 b hb hA).1,?_⟩,zK h4 hg.size⟩;exact(hg.block b aj (λe=>by have:=(hr b e.symm).1;omega)).trans (h3 b hb hA).2
def vI{C:Cx}{σ σ':aa bM}{W W':World}(B:Nat)(h:Good C σ W)(hm:SE σ)(t:Tr C (bh σ) σ W σ' W'):KeepsFrom B W W':=
 ⟨t.kp.size,λk o _ hk ho=>(t.kp.block k (yd.1 hk).1 (λhx=>by
  obtain⟨r,h1,h2⟩:=bE.1 hx;obtain⟨cs,T,m,h3⟩:=(h.res r h1).cells (hm r h1) h2;rw[hk]at h3;cases h3;cases ho)).trans hk⟩
def aj1(C:Cx)(n:Nat)(σ:aa bM)(w:World)(ze:aa Nat->aa bM->Prop)(EA:Env)(a:Act)(W:World):Prop:=
 ∃σ1,(∃pre,ze pre σ1)/\lH C n EA σ1 a W/\a.defers=[]/\Lay C σ w σ1 W/\w.heap.size<=W.heap.size
def aj1.own{C:Cx}{n:Nat}{σ:aa bM}{w:World}(hw:C.w0.heap.size<=w.heap.size)(ze:aa Nat->aa bM->Prop)(hn:∀pre σ,ze pre σ->SE σ)(EA:Env)(a:Act):OwnFrom w.heap.size (λ(_:Unit)=>aj1 C n σ w ze EA a):=λ_ W W' row ⟨σ1,⟨pre,h1⟩,h2,h5,h3,h4⟩ hg hr=>by
 have ht:=Pb (C:=C) hg (λr e=>⟨by have:=(hr r e).1;omega,(hr r e).2⟩) h2.good.kept.size;refine⟨σ1,⟨pre,h1⟩,⟨.nil h5,h2.size,h2.slots.CL ht,h2.good.PK (hn _ _ h1) ht⟩,h5,λb hb hA=>⟨(h3 b hb hA).1,?_⟩,zK h4 hg.size⟩;exact(hg.block b aj (λe=>by have:=(hr b e.symm).1;omega)).trans (h3 b hb hA).2
def CW.rfa{P:Program}{C:Cx}{n:Nat}{Q:Exit->Env->aa bM->Prop}{E:Env}{σ:aa bM}{g:Operand}{ps:Array Tmp}{assign body:Code}{gf:Nat}{caps:aa AV}{es:aa (aa AV)}
  (ze:aa Nat->aa bM->Prop) (EA:Nat->Env) (nJ:∀pre σ,ze pre σ->SE σ) (hb:∀C W pre pre' σ σ',ze pre σ->ze pre' σ'->Good C σ W->Good C σ' W->bh σ=bh σ') (hg:E.ev g=M (.fn (.func gf) caps)) (eg:Enters P gf) (hit:Iter P gf caps es) (hps:∀i,i<zZ es->zZ es[i]! =ps.size) (hpn:∀p∈ps.toList,p<n) (h0:ze [] σ)
  (hassign:∀C' pre i σ',i<zZ es->ze pre σ'->HF P C' n assign (λe E1 σ1=>e= .normal/\Sub (EA i) E1/\∃σ2,ze pre σ2/\List.Sublist σ2 σ1) (Ex ps.toList es[i]! E) σ')
  (hbody:∀C' pre i σ',i<zZ es->zZ pre<zZ es->ze pre σ'->HF P C' n body (λe _ σ2=>e= .normal/\∃σ3,ze (pre++[i]) σ3/\List.Sublist σ3 σ2) (EA i) σ')
  (hdone:∀σ',ze (zy (zZ es)) σ'->Q .normal E σ'):CW P C n (.rangeFunc g ps assign body) Q E σ:=λa w ha=>by
 have hgv:=ha.slots.ops g _ hg;obtain⟨lb,hlb,hev⟩:∃lb:aa Value,bD (al C σ) w caps lb/\a.eval g= .func (.func gf) #[] lb.toArray:=by
  generalize hx:bU.fn (.func gf) caps=x at hgv;generalize a.eval g=v at hgv;cases hgv with
  |fn f cs us hl hr=>cases hx;exact⟨us,⟨hl,hr⟩,rfl⟩
  |_=>cases hx
 obtain⟨us,hul,hur,hseq⟩:=hit (al C σ) w lb hlb;have hw0:C.w0.heap.size<=w.heap.size:=ha.good.kept.size;have hKt:∀{A B D:World},(∀b,b<w.heap.size->al C σ b->B.heap[b]? =A.heap[b]?)->(∀b,b<w.heap.size->al C σ b->D.heap[b]? =B.heap[b]?)->(∀b,b<w.heap.size->al C σ b->D.heap[b]? =A.heap[b]?):=λh k b hb hA=>(k b hb hA).trans (h b hb hA);have after:∀(a:Act) D W σ',Lay C σ w σ' W->SE σ'->Good C σ' W->w.heap.size<=W.heap.size->w.heap.size<=D->W.heap[D]? =M (.deferred (M []))->lH C n E σ a w->lH C n E σ' {a with defers:={target:= .collected D,args:=#[]}::a.defers} W:=λa D W σ' hL hm hG hSz hD hdf ha=>by
  have hcell:∀(b:Nat) ds,W.heap[b]? =M (Obj.deferred ds)->b∉bh σ':=λb ds hb hx=>by
   obtain⟨r,h1,h2⟩:=bE.1 hx;obtain⟨cs,T,m,h3⟩:=(hG.res r h1).cells (hm r h1) h2;rw[hb]at h3;cases h3
  refine⟨?_,ha.size,λs av q=> ?_,hG⟩
  ·obtain⟨Ds,h1,h2,h3⟩:=ha.defers;refine⟨D::Ds,by simp[h1],wg.2 ⟨λhx=>by have:=(h3 D hx).1;omega,h2⟩,λD' hD'=> ?_⟩;rcases zk.1 hD' with rfl|hD'
   ·exact⟨(yd.1 hdf).1,aj,hcell _ _ hdf,hdf⟩
   ·obtain⟨q1,q2,q3,q4⟩:=h3 D' hD';have q5:=(hL D' q1 ⟨.inr (.inr q2),q3⟩).2.trans q4;exact⟨(yd.1 q5).1,q2,hcell _ _ q5,q5⟩
  ·obtain⟨v,q1,q2⟩:=ha.slots s av q;exact⟨v,q1,q2.mono λb hb hA=>hL b hb hA⟩
 refine wpIn_wide.1 (wpIn_rangeFunc_ownH (F:=Fence.wide) (n:=2) (g:=g) (ps:=ps) (assign:=assign) (body:=body) (α:=Fin (zZ es)) (w0:=w) (gf:=gf) (lb:=lb.toArray) rfl aj hev trivial eg hseq hKt (λW l o o' hl _ _ _ b hb _=>World.putObj_heap_other aj) (Below.refl _ _) (λx=> ?_)
  (λpre W=>Mid C σ w (ze (pre.map (·.1))) W) (λc pre W=>False)
  (Mid.own (α:=aa (Fin (zZ es))) hw0 (λpre=>ze (pre.map (·.1))) (λ_=>nJ _)) (λc pre W W' row h hg hr=>h.elim) ⟨σ,h0,ha.good,λb _ hA=>⟨hA,rfl⟩,zx _⟩
  (λx a'=>aj1 C n σ w ze (EA x.1) a') (λx a'=>aj1.own hw0 ze nJ _ a') ?_ ?_ ?_ ?_)
 ·have:=(hur x.1 x.2).1;rw[yp,this];exact hps x.1 x.2
 ·intro l pre x W K ⟨σ',hJ,hG,hL,hS⟩ hK;have hsl:gX (al ⟨W,al C σ',bh σ'⟩ σ') W (Ex ps.toList es[x.1]! E) (RV a.tmps (ps.toList.zip us[x.1]!)):=by
   refine gX.Ex _ _ _ _ _ (λt av ht=> ?_) ?_ (λp hp=>by rw[ha.size];exact hpn p hp) (by rw[hps x.1 x.2];simp)
   ·obtain⟨v,q1,q2⟩:=ha.slots t av ht;exact⟨v,q1,q2.mono λb hb hA=>⟨⟨.inl (hL b hb hA).1,(hL b hb hA).1.2⟩,(hL b hb hA).2⟩⟩
   ·exact(hur x.1 x.2).mono λb hb hA=>⟨⟨.inl (hL b hb hA).1,(hL b hb hA).1.2⟩,(hL b hb hA).2⟩
  rw[Y7];refine wpIn_mono (hassign ⟨W,al C σ',bh σ'⟩ _ x.1 σ' x.2 hJ l 0 _ W ⟨.nil rfl,(Cv _ _).trans ha.size,hsl,hG.fresh⟩ rfl) ?_
  ·rintro e a' W' ⟨hd1,E1,σ1,hs1,rfl,hka,σ2,hj2,hsub⟩;have t:=afl hG hs1.good;have hL2:=(hL.tr t hS).less hsub;have hS2:=zK hS t.kp.size;refine hK a' W' (vI _ hG (nJ _ _ hJ) t) (λb hb hA=>t.kp.block b (yW hb hS) (hL b hb hA).1.2) ⟨σ2,hj2,t.good.less hsub,hL2,hS2⟩ ?_;refine⟨σ2,⟨_,hj2⟩,⟨.nil hd1,hs1.size,λs av q=> ?_,t.good.less hsub⟩,hd1,hL2,hS2⟩;obtain⟨v,q1,q2⟩:=hs1.slots s av (hka s av q);exact⟨v,q1,q2.mono λb _ hA=>⟨⟨(aem hG b hA).1,λhx=>(aem hG b hA).2 (jk (λ_ hr=>hsub.subset hr) b hx)⟩,rfl⟩⟩
 ·intro l pre x a' W hl hr ⟨σ',hJ,hG,hL,hS⟩ ⟨σ1,⟨pre1,hJ1⟩,hs1,hd1,hL1,hS1⟩ hlt;have hbb:=hb C W _ _ _ _ hJ1 hJ hs1.good hG;have hs2:lH ⟨W,al C σ',bh σ'⟩ n (EA x.1) σ' a' W:=⟨.nil hd1,hs1.size,λs av q=>by
   obtain⟨v,q1,q2⟩:=hs1.slots s av q;have hA':∀b,al C σ1 b->al C σ' b:=λb hA=>⟨hA.1,by rw[<-hbb];exact hA.2⟩;exact⟨v,q1,q2.mono λb _ hA=>⟨⟨.inl (hA' b hA),(hA' b hA).2⟩,rfl⟩⟩,hG.fresh⟩
  refine wpIn_mono (hbody ⟨W,al C σ',bh σ'⟩ _ x.1 σ' x.2 (by simpa using hlt) hJ l 0 a' W hs2 hd1) ?_;rintro e a2 W' ⟨_,E2,σ2,hs3,rfl,σ3,hj3,hsub⟩;have t:=afl hG hs3.good;have hkf:=vI w.heap.size hG (nJ _ _ hJ) t;refine⟨hkf,λb hb hA=>t.kp.block b (yW hb hS) (hL b hb hA).1.2,σ3,?_,t.good.less hsub,(hL.tr t hS).less hsub,zK hS t.kp.size⟩;rw[zH];exact hj3
 ·intro D xs W hD hS ⟨σ',hJ,hG,hL,hSz⟩ hdf;subst hS;refine⟨E,σ',after a D W σ' hL (nJ _ _ hJ) hG hSz hD hdf ha,hdone σ' ?_⟩;have e:(yt (zZ es)).map (·.1)=zy es.length:=xI (by simp) λi h1 h2=>by simp
  rw[e]at hJ;exact hJ
 ·intro D c pre W hD hS h hdf;exact h.elim
end Go.Iv
namespace Go.Iv
open Go Go.RowKit
section
variable [U:HB] {β γ δ:Type}
def vL(t e:Nat)(l:aa (U.cQ t)):af (aa (U.cQ e)):=if h:t=e then M (h▸l)else J
def mT{t e:Nat}{l:aa (U.cQ t)}{l':aa (U.cQ e)}(h:vL t e l=M l'):∃he:t=e,he▸l=l':=by
 unfold vL at h;split at h
 ·rename_i he;exact⟨he,zJ.inj h⟩
 ·cases h
def jo(k:IntKind):AV->af Int
 | .lit (.int k' n)=>if k=k' then M n else J
 |_=>J
def asB:AV->af Bool
 | .lit (.bool b)=>M b
 |_=>J
def asS:AV->af ByteArray
 | .lit (.string s)=>M s
 |_=>J
def kG(t:Nat):AV->af (aa (U.cQ t))
 | .sl t' l=>vL t' t l
 | .lit (.slice J 0 0)=>M []
 |_=>J
def P1(f:AV->af β)(c:β->AV):Prop:=∀a b,f a=M b->∀A w v,Rel A w a v->Rel A w (c b) v
def P1.i(k:IntKind):P1 (jo k) (bU.n k):=λa b h A w v hr=>by
 unfold jo at h;split at h
 ·split at h
  ·rename_i hk;subst hk;cases h;exact hr
  ·cases h
 ·cases h
def P1.b:P1 asB bU.b:=λa b h A w v hr=>by
 unfold asB at h;split at h
 ·cases h;exact hr
 ·cases h
def P1.s:P1 asS bU.s:=λa b h A w v hr=>by
 unfold asS at h;split at h
 ·cases h;exact hr
 ·cases h
def P1.l(t:Nat):P1 (kG t) (bU.sl t):=λa b h A w v hr=>by
 unfold kG at h;split at h
 ·obtain⟨rfl,rfl⟩:=mT h;exact hr
 ·cases h;exact(Vw.nil (σ:=[]) t A w v ⟨λr h=>(by cases h),λb h=>(by cases h)⟩ hr).mono λb _ hA=>⟨hA.elim id (λh=>(by cases h)),rfl⟩
 ·cases h
def sR:aa AV->af Unit
 |[]=>M ()
 |_=>J
def eE(f:AV->af β)(q:aa AV->af γ):aa AV->af (β×γ)
 |a::cs=>(f a).bind λb=>(q cs).map λg=>(b,g)
 |[]=>J
def Pk(q:aa AV->af γ)(c:γ->aa AV):Prop:=∀cs g,q cs=M g->∀A w us,bD A w cs us->bD A w (c g) us
def Pk.nil:Pk sR (λ_=>[]):=λcs g h A w us hr=>by
 unfold sR at h;split at h
 ·exact hr
 ·cases h
def Pk.cons{f:AV->af β}{c:β->AV}{q:aa AV->af γ}{d:γ->aa AV}(h:P1 f c)(hq:Pk q d):Pk (eE f q) (λx=>c x.1::d x.2):=λcs g hg A w us hr=>by
 unfold eE at hg;split at hg
 ·obtain⟨b,h1,hg⟩:=zl.1 hg;obtain⟨g',h2,rfl⟩:=zj.1 hg;obtain⟨v,us',rfl,h3,h4⟩:=hr.head;exact bD.cons (h _ _ h1 A w v h3) (hq _ _ h2 A w us' h4)
 ·cases hg
def Pk.map{q:aa AV->af γ}{d:γ->aa AV}{c:δ->aa AV}(e:γ->δ)(hq:Pk q d)(hc:∀g,c (e g)=d g):Pk (λcs=>(q cs).map e) c:=λcs g hg A w us hr=>by
 obtain⟨g',h1,rfl⟩:=zj.1 hg;rw[hc];exact hq _ _ h1 A w us hr
def aqC:AV->Bool
 | .lit _=>Z
 | .sl _ _=>Z
 | .fn _ []=>Z
 |_=>O
def adF(cs:aa AV)(h:cs.all aqC=Z)(n:Nat):∀c∈cs,cE n c:=λc hc=>by
 have:=zn.1 h c hc;cases c with
 |fn f cs=>
  cases cs with
  |nil=>exact .fn _ _ λc hc=>by cases hc
  |cons a l=>cases this
 |_=>first|(cases this;done)|exact .lit _|exact .sl _ _
def aaX(cs:aa AV)(h:cs.all aqC=Z)(ρ:Gh):cs.map (bU.sub ρ)=cs:=by
 have:cs.map (bU.sub ρ)=cs.map id:=zV λc hc=>by
  have:=zn.1 h c hc;cases c with
  |fn f cs=>
   cases cs with
   |nil=>simp only[bU.sub,id,yx]
   |cons a l=>cases this
  |_=>first|(cases this;done)|simp only[bU.sub,id]
 rw[this,List.map_id]
def atx:aa AV->af Nat
 |[.fn (.func k) []]=>M k
 |_=>Option.none
def Pk.fn:Pk atx (λk=>[.fn (.func k) []]):=λcs g h A w us hr=>by
 unfold atx at h;split at h
 ·cases h;exact hr
 ·cases h
def Pk.none{c:γ->aa AV}:Pk (λ_=>Option.none) c:=λcs g hg=>by cases hg
end
end Go.Iv
namespace Go.Iv
variable [U:HB]
open Go Go.RowKit
class Ho [U:HB] where
 len:∀t x,zZ (U.cells t x)=U.sz t
 one:∀t x,(U.cells t x).all iV=Z
 clo:∀t x ρ,(U.cells t x).map (bU.sub ρ)=U.cells t x
 oZ:∀t x n,∀c∈U.cells t x,cE n c
 parse:(t:Nat)->List AV->Option (U.cQ t)
 k9:∀t cs x,parse t cs=M x->∀A w us,bD A w cs us->bD A w (U.cells t x) us
 amV:(t:Nat)->List (U.cQ t)->Option (List Int)
 vg:∀t l ns,amV t l=M ns->l.flatMap (U.cells t)=ns.map (.n .u8)/\U.sz t=1
 fz:Nat->Bool:=λ_=>O
 arr:Nat->Bool:=λ_=>O
 gtB:(t:Nat)->U.cQ t->Nat->Bool:=λ_ _ _=>O
 stB:(t:Nat)->U.cQ t->Nat->Bool->U.cQ t:=λ_ x _ _=>x
 ai5:∀t,arr t=Z->∀x i,i<U.sz t->(U.cells t x)[i]? =M (.lit (.bool (gtB t x i))):=by intro t h;exact Bool.noConfusion h
 alF:∀t,arr t=Z->∀x i b,i<U.sz t->U.cells t (stB t x i b)=(U.cells t x).take i++[.lit (.bool b)]++(U.cells t x).drop (i+1):=by intro t h;exact Bool.noConfusion h
variable [L:Ho]
def CI(P:Program)(t n:Nat):Bool:=match P.info? t with
 |some i=>zg i.size n
 |none=>O
def oE{P:Program}{t n:Nat}(h:CI P t n=Z):(P.info? t).map (·.size)=M n:=by
 unfold CI at h;cases hi:P.info? t with
 |none=>rw[hi]at h;cases h
 |some i=>
  simp_all
def Hq(P:Program)(t:Nat):Bool:=match P.underlying t with
 |some (.struct _)=>O
 |some (.array _ _)=>O
 |some _=>Z
 |none=>O
def rD{P:Program}{t:Nat}(h:Hq P t=Z):nj P t:=by
 unfold Hq at h;unfold nj;grind
def Vb(P:Program)(t:Nat):af Nat:=match P.underlying t with
 |some (.struct _)=>(P.info? t).map (·.size)
 |some (.array _ _)=>(P.info? t).map (·.size)
 |_=>J
def PE{P:Program}{t n:Nat}(h:Vb P t=M n):pJ P t n:=by
 unfold Vb at h;split at h
 ·rename_i hd;exact⟨⟨_,hd,trivial⟩,h⟩
 ·rename_i hd;exact⟨⟨_,hd,trivial⟩,h⟩
 ·cases h
def Ev(rd:Nat->af IR):AV->Bool
 | .own id=>match rd id with
  |some (.row _ _)=>Z
  |some (.mp _)=>Z
  |some (.md _ _ _)=>Z
  |_=>O
 | .ptr _ _=>Z
 | .ra _ _ _ _=>O
 |d=>iV d
def EF(rd:Nat->af IR):AV->Bool
 | .agg cs=>cs.all (Ev rd)
 |d=>Ev rd d
section
variable {α:Type} {r:α} {P:Program} {o:Oper} {E:Env} {R:aS} {nx:Nat} {ev:Operand->af AV} {rd:Nat->af IR} {x y z:Operand} {d:AV}
structure iO (ev:Operand->Option AV) (rd:Nat->Option IR) (nx:Nat) (E:Env) (R:aS):Prop where
 e:∀x d,ev x=M d->E.ev x=M d
 r:∀id r,rd id=M r->gj R id=M r
 le:E.cE nx
 lr:aS.cE nx R
def iO.fM(h:iO ev rd nx E R)(hx:ev x=M d)(ρ:Gh):(E.sub ρ).ev x=M (d.sub ρ):=by
 rw[Env.Q4,h.e _ _ hx];rfl
def iO.oZ(h:iO ev rd nx E R)(hx:ev x=M d):cE nx d:=Env.abQ h.le (h.e _ _ hx)
def iO.row(h:iO ev rd nx E R){id t:Nat}{l:aa (U.cQ t)}(hr:rd id=M (.row t l))(ρ:Gh):∃i:Nat,(aS.res ρ R)[i]? =M (.row (ρ.v id) t l):=by
 obtain⟨i,h1,_⟩:=dG (h.r _ _ hr);exact⟨i,fB h1⟩
def iO.box(h:iO ev rd nx E R){id t:Nat}{cs:aa AV}(hr:rd id=M (.box t cs))(ρ:Gh):∃i:Nat,(aS.res ρ R)[i]? =M (.box (ρ.b id) t (cs.map (bU.sub ρ))):=by
 obtain⟨i,h1,_⟩:=dG (h.r _ _ hr);exact⟨i,fB h1⟩
def iO.anN(h:iO ev rd nx E R){id t:Nat}{cs:aa AV}(hr:rd id=M (.box t cs)):∀c∈cs,cE nx c:=(FJ (h.r _ _ hr) h.lr).2
def Pu(P:Program)(o:Oper)(E:Env)(R:aS)(nx:Nat)(d:AV):Prop:=cE nx d/\∀ρ,Yp P (E.sub ρ) (aS.res ρ R) o (d.sub ρ)
def bL(ρ:Gh)(v:Value):bU.sub ρ (.lit v)= .lit v:=by simp only[bU.sub]
def fV(ρ:Gh)(t:Nat)(l:aa (U.cQ t)):bU.sub ρ (.sl t l)= .sl t l:=by simp only[bU.sub]
def cI(ρ:Gh)(id:Nat):bU.sub ρ (.own id)= .lit (ρ.v id):=by simp only[bU.sub]
def fT(ρ:Gh)(id off:Nat):bU.sub ρ (.ptr id off)= .lit (.pointer (M ⟨ρ.b id,off,J⟩)):=by simp only[bU.sub]
def jC(ρ:Gh)(id t m off:Nat):bU.sub ρ (.ra id t m off)= .rp (ρ.v id) (m*U.sz t+off):=by simp only[bU.sub]
def mB(ρ:Gh)(cs:aa AV):bU.sub ρ (.fp cs)= .fp (cs.map (bU.sub ρ)):=by simp only[bU.sub]
def eS(ρ:Gh)(cs:aa AV):bU.sub ρ (.agg cs)= .agg (cs.map (bU.sub ρ)):=by simp only[bU.sub]
def jJ(ρ:Gh)(cs:aa AV):bU.sub ρ (.iF cs)= .iF (cs.map (bU.sub ρ)):=by simp only[bU.sub]
def sV(ρ:Gh)(f:Go.Fn)(cs:aa AV):bU.sub ρ (.fn f cs)= .fn f (cs.map (bU.sub ρ)):=by simp only[bU.sub]
def Pu.lit{v:Value}(h:∀ρ,Yp P (E.sub ρ) (aS.res ρ R) o (.lit v)):Pu P o E R nx (.lit v):=⟨.lit v,λρ=>by rw[bL];exact h ρ⟩
def afA(b:BinOp)(k:IntKind)(m n:Int)(K:AV->af α):af α:=match b with
 | .add=>K (.n k (k.wrap (m+n)))
 | .sub=>K (.n k (k.wrap (m-n)))
 | .mul=>K (.n k (k.wrap (m*n)))
 | .quo=>if n≠0 then K (.n k (k.wrap (Int.tdiv m n)))else J
 | .rem=>if n≠0 then K (.n k (Int.tmod m n))else J
 | .and=>K (.n k (oT k m n))
 | .or=>K (.n k (bOr k m n))
 | .xor=>K (.n k (awm k m n))
 | .andNot=>K (.n k (avf k m n))
 | .lss=>K (.b (w9 (m<n)))
 | .leq=>K (.b (w9 (m<=n)))
 | .gtr=>K (.b (w9 (n<m)))
 | .geq=>K (.b (w9 (n<=m)))
 | .eql=>K (.b (w9 (m=n)))
 | .neq=>K (.b (!w9 (m=n)))
 |_=>J
def Yp.avB{T T' e q:Nat}{E:Env}{σ:aa bM}{l:aa (U.cQ q)}(ho:o.op= .binOp .eql T x y T')(hx:E.ev x=M (.sl q l))(hy:E.ev y=M (.lit (.slice J 0 0)))(hT:P.underlying T=M (.slice e))(hl:l≠[]):Yp P E σ o (.b O):=λA w ρ _ hρ=>by
 obtain⟨p,cap,u,hv,_,_,_,hc,_⟩:=(hρ _ _ hx).sG;have h2:=(hρ _ _ hy).bR;obtain⟨b,off,hp,_⟩:=hc 0 (wT.2 hl);subst hp;refine⟨_, .lit _,λw' _=> ?_⟩;have h1:=Lib.run_eql_slice_nil (P:=P) w' T e (M ⟨b,off,J⟩) (zZ l) cap 0 0 hT;simp[execOp,ho,hv,h2,eqGuard,h1]
def Yp.awD{T T' e q i:Nat}{v:Value}{E:Env}{σ:aa bM}{l:aa (U.cQ q)}(ho:o.op= .binOp .eql T x y T')(hx:E.ev x=M (.lit v))(hσ:σ[i]? =M (.row v q l))(hy:E.ev y=M (.lit (.slice J 0 0)))(hT:P.underlying T=M (.slice e))(hl:l≠[]):Yp P E σ o (.b O):=λA w ρ hd hρ=>by
 obtain⟨us,h1,_⟩:=hd.1 _ (List.mem_of_getElem? hσ);obtain⟨g,cap,cur,hv,_⟩:=h1.at (wT.2 hl);have hx':=(hρ _ _ hx).bR;have h2:=(hρ _ _ hy).bR;refine⟨_, .lit _,λw' _=> ?_⟩;have h1:=Lib.run_eql_slice_nil (P:=P) w' T e (M ⟨g,0,J⟩) (zZ l) (cap+1) 0 0 hT;simp[execOp,ho,hx',hv,h2,eqGuard,h1]
def gH(P:Program)(t:TypeId)(a b:AV):af Bool:=match P.underlying t with
 |some (.int _)=>match a,b with
  | .lit (.int k m), .lit (.int k' n)=>if k=k' then M (w9 (m=n))else J
  |_,_=>J
 |some .bool=>match a,b with
  | .lit (.bool p), .lit (.bool q)=>M (p==q)
  |_,_=>J
 |some .string=>match a,b with
  | .lit (.string p), .lit (.string q)=>M (p.toList==q.toList)
  |_,_=>J
 |_=>J
def uZ(P:Program)(xs ys:aa AV):aa Field->af Bool
 |[]=>M Z
 |f::fs=>match (f.name !="_")&&Hq P f.type with
  |true=>match xs[f.offset]?,ys[f.offset]? with
   |some a,M b=>(gH P f.type a b).bind λr=>(uZ P xs ys fs).map λq=>r&&q
   |_,_=>J
  |false=>J
def fP{P:Program}{t:TypeId}(h:nj P t){us:aa Value}{i:Nat}{v:Value}(hv:us[i]? =M v)(w:World):(part t us.toArray i).run P w= .ok v w:=by
 unfold part;rw[Sem.run_bind,mh h];simp[hv]
def GB{P:Program}{t:TypeId}{a b:AV}{q:Bool}(h:gH P t a b=M q){A A':Nat->Prop}{w w' w'':World}{u v:Value}{ρ ρ':Gh}(ha:Rel A w (a.sub ρ) u)(hb:Rel A' w' (b.sub ρ') v)(d:Nat):(Op.equalIn (d+1) t u v).run P w''= .ok q w'':=by
 unfold gH at h;split at h
 ·rename_i k0 ht;split at h
  ·split at h
   ·rename_i hk;subst hk;cases h;simp only[bU.sub]at ha hb;rw[ha.bR,hb.bR];exact run_equalIn_int _ d t _ k0 _ _ ht
   ·cases h
  ·cases h
 ·rename_i ht;split at h
  ·cases h;simp only[bU.sub]at ha hb;rw[ha.bR,hb.bR];exact run_equalIn_bool' _ d t _ _ ht
  ·cases h
 ·rename_i ht;split at h
  ·cases h;simp only[bU.sub]at ha hb;rw[ha.bR,hb.bR];exact run_equalIn_string _ d t _ _ ht
  ·cases h
 ·cases h
def Qk{P:Program}{xs ys:aa AV}{A A':Nat->Prop}{w w' w'':World}{us vs:aa Value}{ρ ρ':Gh}(ha:bD A w (xs.map (bU.sub ρ)) us)(hb:bD A' w' (ys.map (bU.sub ρ')) vs)(d:Nat):∀{fs:aa Field} {q:Bool},uZ P xs ys fs=M q->(Op.eqFields (d+1) us.toArray vs.toArray fs).run P w''= .ok q w''
 |[],q,h=>by cases h;simp[Op.eqFields]
 |f::fs,q,h=>by
  unfold uZ at h;split at h
  case h_2=>cases h
  rename_i hf;simp only[zh,bne_iff_ne]at hf;split at h
  case h_2=>cases h
  rename_i a b hx hy;obtain⟨r1,h1,h⟩:=zl.1 h;obtain⟨q1,h2,rfl⟩:=zj.1 h;obtain⟨u,hu,hu'⟩:=ha.get (a:=a.sub ρ) (j:=f.offset) (by rw[zP,hx];rfl);obtain⟨v,hv,hv'⟩:=hb.get (a:=b.sub ρ') (j:=f.offset) (by rw[zP,hy];rfl);have ih:=Qk (w'':=w'') ha hb d h2;have hone:=rD hf.2;unfold Op.eqFields;rw[bO hf.1];simp only[Sem.run_bind,fP hone hu,fP hone hv,Result.andThen_ok,GB (w'':=w'') h1 hu' hv' d];cases r1 with
  |true=>simpa using ih
  |false=>simp
def Yp.seq'{T T':TypeId}{E:Env}{σ:aa bM}{b:BinOp}{cs ds:aa AV}{fs:Array Field}{q:Bool}{ρ ρ':Gh}(ho:o.op= .binOp b T x y T')(hx:E.ev x=M (.agg (cs.map (bU.sub ρ))))(hy:E.ev y=M (.agg (ds.map (bU.sub ρ'))))(hT:P.underlying T=M (.struct fs))(hp:P.stoodInHeld T=O)(hg:P.eqGuardType P.depth T=O)(hq:uZ P cs ds fs.toList=M q)(hb:b= .eql\/b= .neq):
  Yp P E σ o (.b (match b with| .neq=> !q|_=>q)):=λA w j _ hρ=>by
 obtain⟨us,h1,h2⟩:=(hρ _ _ hx).gO;obtain⟨vs,h3,h4⟩:=(hρ _ _ hy).gO;refine⟨_, .lit _,λw' _=> ?_⟩;have hT':P.underlying T=M (.struct (P.fieldsOf T)):=by unfold Program.fieldsOf;rw[hT]
 have hfs:P.fieldsOf T=fs:=by unfold Program.fieldsOf;rw[hT]
 have he:=run_equalIn_struct (P:=P) w' 9999 T us.toArray vs.toArray hT' hp;rw[hfs,Qk (w'':=w') h2 h4 9998 hq]at he;have hgr:=run_eqGuard_agg (P:=P) w' b T x y us.toArray vs.toArray hg;rcases hb with rfl|rfl
 ·have h5:=run_eql_struct (P:=P) w' T us.toArray vs.toArray;rw[he]at h5;simp[execOp,ho,h1,h3,hgr,h5]
 ·have h5:=run_neq_struct (P:=P) w' T us.toArray vs.toArray;rw[he]at h5;simp[execOp,ho,h1,h3,hgr,h5]
def eqS(P:Program)(b:BinOp)(T:TypeId)(cs ds:aa AV)(K:AV->af α):af α:=match P.underlying T with
 |some (.struct fs)=>match !P.stoodInHeld T&& !P.eqGuardType P.depth T with
  |true=>match b with
   | .eql=>(uZ P cs ds fs.toList).bind λq=>K (.b q)
   | .neq=>(uZ P cs ds fs.toList).bind λq=>K (.b (!q))
   |_=>J
  |false=>J
 |_=>J
def asd{b:BinOp}{T T':TypeId}{cs ds:aa AV}(hs:iO ev rd nx E R)(ho:o.op= .binOp b T x y T')(hx:ev x=M (.agg cs))(hy:ev y=M (.agg ds)){K:AV->af α}(h:eqS P b T cs ds K=M r):∃d,K d=M r/\Pu P o E R nx d:=by
 unfold eqS at h;split at h
 case h_2=>cases h
 rename_i fs hT;split at h
 case h_2=>cases h
 rename_i hg;simp only[zh,Bool.not_eq_true']at hg;have ex:=λρ=>hs.fM hx ρ;have ey:=λρ=>hs.fM hy ρ;simp only[eS]at ex ey;split at h
 ·obtain⟨q,hq,h⟩:=zl.1 h;exact⟨_,h, .lit λρ=> .seq' ho (ex ρ) (ey ρ) hT hg.1 hg.2 hq (.inl rfl)⟩
 ·obtain⟨q,hq,h⟩:=zl.1 h;exact⟨_,h, .lit λρ=> .seq' ho (ex ρ) (ey ρ) hT hg.1 hg.2 hq (.inr rfl)⟩
 ·cases h
def pR(P:Program)(rd:Nat->af IR)(b:BinOp)(T:TypeId)(x y:af AV)(K:AV->af α):af α:=match x,y with
 |some (.lit (.int k m)),M (.lit (.int k' n))=>match b with
  | .shl=>if 0<=n then K (.n k (FF k m n))else J
  | .shr=>if 0<=n then K (.n k (de k m n))else J
  |_=>if k=k' then afA b k m n K else J
 |some (.lit (.bool p)),M (.lit (.bool q))=>match P.underlying T with
  |some .bool=>match b with
   | .eql=>K (.b (p==q))
   | .neq=>K (.b (!(p==q)))
   |_=>J
  |_=>J
 |some (.lit (.string s)),M (.lit (.string t))=>match b with
  | .eql=>K (.b (s.toList==t.toList))
  | .neq=>K (.b (!(s.toList==t.toList)))
  |_=>J
 |some (.lit (.slice p _ _)),M (.lit (.slice J 0 0))=>match b,P.underlying T with
  | .eql,M (.slice _)=>K (.b p.isNone)
  |_,_=>J
 |some (.sl _ l),M (.lit (.slice J 0 0))=>match b,P.underlying T with
  | .eql,M (.slice _)=>match l with
   |[]=>J
   |_::_=>K (.b O)
  |_,_=>J
 |some (.own id),M (.lit (.slice J 0 0))=>match b,P.underlying T with
  | .eql,M (.slice _)=>match rd id with
   |some (.row _ (_::_))=>K (.b O)
   |_=>J
  |_,_=>J
 |some (.agg cs),M (.agg ds)=>eqS P b T cs ds K
 |_,_=>J
def am0{b:BinOp}{T T':TypeId}(hs:iO ev rd nx E R)(ho:o.op= .binOp b T x y T'){K:AV->af α}(h:pR P rd b T (ev x) (ev y) K=M r):∃d,K d=M r/\Pu P o E R nx d:=by
 unfold pR at h;split at h
 ·rename_i k m k' n hx hy;have ex:=λρ=>hs.fM hx ρ;have ey:=λρ=>hs.fM hy ρ;simp only[bL]at ex ey;split at h
  ·split at h
   ·rename_i h0;exact⟨_,h, .lit λρ=> .shl ho (ex ρ) (ey ρ) h0⟩
   ·cases h
  ·split at h
   ·rename_i h0;exact⟨_,h, .lit λρ=> .shr ho (ex ρ) (ey ρ) h0⟩
   ·cases h
  ·split at h
   ·rename_i hk;subst hk;unfold afA at h;split at h
    ·exact⟨_,h, .lit λρ=> .add ho (ex ρ) (ey ρ)⟩
    ·exact⟨_,h, .lit λρ=> .sub ho (ex ρ) (ey ρ)⟩
    ·exact⟨_,h, .lit λρ=> .mul ho (ex ρ) (ey ρ)⟩
    ·split at h
     ·rename_i h0;exact⟨_,h, .lit λρ=> .quo ho (ex ρ) (ey ρ) h0⟩
     ·cases h
    ·split at h
     ·rename_i h0;exact⟨_,h, .lit λρ=> .rem ho (ex ρ) (ey ρ) h0⟩
     ·cases h
    ·exact⟨_,h, .lit λρ=> .and ho (ex ρ) (ey ρ)⟩
    ·exact⟨_,h, .lit λρ=> .or ho (ex ρ) (ey ρ)⟩
    ·exact⟨_,h, .lit λρ=> .xor ho (ex ρ) (ey ρ)⟩
    ·exact⟨_,h, .lit λρ=> .andNot ho (ex ρ) (ey ρ)⟩
    ·exact⟨_,h, .lit λρ=> .lss ho (ex ρ) (ey ρ)⟩
    ·exact⟨_,h, .lit λρ=> .leq ho (ex ρ) (ey ρ)⟩
    ·exact⟨_,h, .lit λρ=> .gtr ho (ex ρ) (ey ρ)⟩
    ·exact⟨_,h, .lit λρ=> .geq ho (ex ρ) (ey ρ)⟩
    ·exact⟨_,h, .lit λρ=> .eql ho (ex ρ) (ey ρ)⟩
    ·exact⟨_,h, .lit λρ=> .neq ho (ex ρ) (ey ρ)⟩
    ·cases h
   ·cases h
 ·rename_i p q hx hy;have ex:=λρ=>hs.fM hx ρ;have ey:=λρ=>hs.fM hy ρ;simp only[bL]at ex ey;split at h
  ·rename_i hT;split at h
   ·exact⟨_,h, .lit λρ=> .aHS ho hT (ex ρ) (ey ρ)⟩
   ·exact⟨_,h, .lit λρ=> .aJo ho hT (ex ρ) (ey ρ)⟩
   ·cases h
  ·cases h
 ·rename_i s t hx hy;have ex:=λρ=>hs.fM hx ρ;have ey:=λρ=>hs.fM hy ρ;simp only[bL]at ex ey;split at h
  ·exact⟨_,h, .lit λρ=> .aJP ho (ex ρ) (ey ρ)⟩
  ·exact⟨_,h, .lit λρ=> .aKf ho (ex ρ) (ey ρ)⟩
  ·cases h
 ·rename_i p l c hx hy;have ex:=λρ=>hs.fM hx ρ;have ey:=λρ=>hs.fM hy ρ;simp only[bL]at ex ey;split at h
  ·rename_i hT;exact⟨_,h, .lit λρ=> .arY ho (ex ρ) (ey ρ) hT⟩
  ·cases h
 ·rename_i t l hx hy;have ex:=λρ=>hs.fM hx ρ;have ey:=λρ=>hs.fM hy ρ;simp only[bL]at ey;simp only[fV]at ex;split at h
  ·rename_i hT;split at h
   ·cases h
   ·exact⟨_,h, .lit λρ=> .avB ho (ex ρ) (ey ρ) hT (by simp)⟩
  ·cases h
 ·rename_i id hx hy;have ex:=λρ=>hs.fM hx ρ;have ey:=λρ=>hs.fM hy ρ;simp only[bL]at ey;simp only[cI]at ex;split at h
  ·rename_i hT;split at h
   ·rename_i hr;exact⟨_,h, .lit λρ=>by
     obtain⟨i,hi⟩:=hs.row hr ρ;exact .awD ho (ex ρ) hi (ey ρ) hT (by simp)⟩
   ·cases h
  ·cases h
 ·rename_i cs ds hx hy;exact asd hs ho hx hy h
 ·cases h
def unV(b:UnOp)(x:af AV)(K:AV->af α):af α:=match b,x with
 | .not,M (.lit (.bool p))=>K (.b (!p))
 | .neg,M (.lit (.int k n))=>K (.n k (k.wrap (0-n)))
 |_,_=>J
def aun{b:UnOp}{T:TypeId}(hs:iO ev rd nx E R)(ho:o.op= .unOp b T x){K:AV->af α}(h:unV b (ev x) K=M r):∃d,K d=M r/\Pu P o E R nx d:=by
 unfold unV at h;split at h
 ·rename_i p hx;have ex:=λρ=>hs.fM hx ρ;simp only[bL]at ex;exact⟨_,h, .lit λρ=> .not ho (ex ρ)⟩
 ·rename_i p hx;have ex:=λρ=>hs.fM hx ρ;simp only[bL]at ex;exact⟨_,h, .lit λρ=> .neg ho (ex ρ)⟩
 ·cases h
def Ua(x:af AV)(K:AV->af α):af α:=match x with
 |some (.ptr id off)=>K (.ptr id off)
 |some (.fp cs)=>K (.fp cs)
 |some (.ra id t m off)=>K (.ra id t m off)
 |_=>J
def amk(hs:iO ev rd nx E R)(ho:o.op= .nilCheck x){K:AV->af α}(h:Ua (ev x) K=M r):∃d,K d=M r/\Pu P o E R nx d:=by
 unfold Ua at h;split at h
 ·rename_i hx;exact⟨_,h,hs.oZ hx,λρ=>by have ex:=hs.fM hx ρ;rw[fT]at ex ⊢;exact .ZE ho ex⟩
 ·rename_i hx;exact⟨_,h,hs.oZ hx,λρ=>by have ex:=hs.fM hx ρ;rw[mB]at ex ⊢;exact .Zl ho ex⟩
 ·rename_i hx;exact⟨_,h,hs.oZ hx,λρ=>by have ex:=hs.fM hx ρ;rw[jC]at ex ⊢;exact .Yn ho ex⟩
 ·cases h
def ni{n:Nat}{cs:aa AV}(h:∀c∈cs,cE n c)(k:Nat):∀c∈cs.drop k,cE n c:=λc hc=>h c (wG hc)
def pE{n:Nat}{cs:aa AV}(h:∀c∈cs,cE n c)(k:Nat):∀c∈cs.take k,cE n c:=λc hc=>h c (List.mem_of_mem_take hc)
def cE.fpL{n:Nat}{cs:aa AV}(h:cE n (.fp cs)):∀c∈cs,cE n c:=by cases h;assumption
def cE.nK{n:Nat}{cs:aa AV}(h:cE n (.agg cs)):∀c∈cs,cE n c:=by cases h;assumption
def cE.EN{n:Nat}{cs:aa AV}(h:cE n (.iF cs)):∀c∈cs,cE n c:=by cases h;assumption
def cE.fnL{n:Nat}{f:Go.Fn}{cs:aa AV}(h:cE n (.fn f cs)):∀c∈cs,cE n c:=by cases h;assumption
def cE.aF7{n id off:Nat}(h:cE n (.ptr id off)):id<n:=by cases h;assumption
def cE.raL{n id t m off:Nat}(h:cE n (.ra id t m off)):id<n:=by cases h;assumption
def cE.aIV{n id:Nat}(h:cE n (.own id)):id<n:=by cases h;assumption
def vX{n:Nat}{cs:aa AV}(h:∀c∈cs,cE n c){k:Nat}(hk:cs[k]? =M d):cE n d:=h d (List.mem_of_getElem? hk)
def Ac{n:Nat}{cs ds:aa AV}(h:∀c∈cs,cE n c)(h':∀c∈ds,cE n c):∀c∈cs++ds,cE n c:=λc hc=>(zR.1 hc).elim (h c) (h' c)
def AF{n:Nat}(h:cE n d):∀c∈dD d,cE n c:=by
 cases d<;>first|exact h.nK|(intro c hc;simp only[dD,zA]at hc;rw[hc];exact h)
def Nw(n:Nat)(zs:aa Value):∀c∈zs.map (bU.lit (cQ:=U.cQ)),cE n c:=λc hc=>by
 obtain⟨v,_,rfl⟩:=zC.1 hc;exact .lit v
def T5(P:Program)(T:TypeId)(i:Nat)(x:af AV)(K:AV->af α):af α:=match P.underlying T with
 |some (.struct fs)=>match fs[i]? with
  |some f=>match (P.info? f.type).map (·.size)with
   |some (_+1)=>match x with
    |some (.ptr id off)=>K (.ptr id (off+f.offset))
    |some (.fp cs)=>K (.fp (cs.drop f.offset))
    |some (.ra id t m off)=>K (.ra id t m (off+f.offset))
    |_=>J
   |_=>J
  |none=>J
 |_=>J
def akF{T:TypeId}{i:Nat}(hs:iO ev rd nx E R)(ho:o.op= .fieldAddr T x i){K:AV->af α}(h:T5 P T i (ev x) K=M r):∃d,K d=M r/\Pu P o E R nx d:=by
 unfold T5 at h;split at h
 case h_2=>cases h
 rename_i fs hT;split at h
 case h_2=>cases h
 rename_i f hf;split at h
 case h_2=>cases h
 rename_i sz hsz;split at h
 ·rename_i id off hx;exact⟨_,h, .ptr _ _ (hs.oZ hx).aF7,λρ=>by have ex:=hs.fM hx ρ;rw[fT]at ex ⊢;exact .auL ho ex hT hf hsz⟩
 ·rename_i cs hx;exact⟨_,h, .fp _ (ni (hs.oZ hx).fpL _),λρ=>by have ex:=hs.fM hx ρ;rw[mB]at ex ⊢;rw[xY];exact .awO ho ex hT hf hsz⟩
 ·rename_i id t m off hx;exact⟨_,h, .ra _ _ _ _ (hs.oZ hx).raL,λρ=>by have ex:=hs.fM hx ρ;rw[jC]at ex ⊢;rw[<-xD];exact .atO ho ex hT hf hsz⟩
 ·cases h
def T8(P:Program)(rd:Nat->af IR)(T:TypeId)(x y:af AV)(K:AV->af α):af α:=match y with
 |some (.lit (.int _ m))=>match P.underlying T with
  |some (.slice e)=>match x with
   |some (.sl t l)=>match CI P e (U.sz t)with
    |true=>if 0<=m/\m<(zZ l:Int)then K (.fp (U.cells t l[m.toNat]!))else J
    |false=>J
   |some (.own id)=>match rd id with
    |some (.row t l)=>match CI P e (U.sz t)with
     |true=>if 0<=m/\m<(zZ l:Int)then K (.ra id t m.toNat 0)else J
     |false=>J
    |_=>J
   |_=>J
  |some (.array n e)=>match (P.info? e).map (·.size)with
   |some sz=>if 0<=m/\m<(n:Int)then(match x with
    |some (.ptr id off)=>K (.ptr id (off+m.toNat*sz))
    |some (.fp cs)=>K (.fp (cs.drop (m.toNat*sz)))
    |some (.ra id t j off)=>K (.ra id t j (off+m.toNat*sz))
    |_=>J)else J
   |none=>J
  |_=>J
 |_=>J
def aj3{T:TypeId}(hs:iO ev rd nx E R)(ho:o.op= .indexAddr T x y){K:AV->af α}(h:T8 P rd T (ev x) (ev y) K=M r):∃d,K d=M r/\Pu P o E R nx d:=by
 unfold T8 at h;split at h
 case h_2=>cases h
 rename_i k m hy;have ey:=λρ=>hs.fM hy ρ;simp only[bL]at ey;split at h
 ·rename_i e hT;split at h
  ·rename_i t l hx;split at h
   case h_2=>cases h
   rename_i hsz;split at h
   ·rename_i hm;exact⟨_,h, .fp _ (L.oZ t _ nx),λρ=>by have ex:=hs.fM hx ρ;rw[fV]at ex;rw[mB,L.clo];exact .ail ho ex (ey ρ) hT (oE hsz) hm⟩
   ·cases h
  ·rename_i id hx;split at h
   case h_2=>cases h
   rename_i t l hr;split at h
   case h_2=>cases h
   rename_i hsz;split at h
   ·rename_i hm;refine⟨_,h, .ra _ _ _ _ (hs.oZ hx).aIV,λρ=> ?_⟩;have ex:=hs.fM hx ρ;rw[cI]at ex;obtain⟨i,hi⟩:=hs.row hr ρ;rw[jC,yG];exact .afu i ho ex hi (ey ρ) hT (oE hsz) hm
   ·cases h
  ·cases h
 ·rename_i n e hT;split at h
  case h_2=>cases h
  rename_i sz hsz;split at h
  case isFalse=>cases h
  rename_i hm;split at h
  ·rename_i id off hx;exact⟨_,h, .ptr _ _ (hs.oZ hx).aF7,λρ=>by have ex:=hs.fM hx ρ;rw[fT]at ex ⊢;exact .asX ho ex (ey ρ) hT hsz hm⟩
  ·rename_i cs hx;exact⟨_,h, .fp _ (ni (hs.oZ hx).fpL _),λρ=>by have ex:=hs.fM hx ρ;rw[mB]at ex ⊢;rw[xY];exact .ax2 ho ex (ey ρ) hT hsz hm⟩
  ·rename_i id t j off hx;exact⟨_,h, .ra _ _ _ _ (hs.oZ hx).raL,λρ=>by have ex:=hs.fM hx ρ;rw[jC]at ex ⊢;rw[<-xD];exact .axN ho ex (ey ρ) hT hsz hm⟩
  ·cases h
 ·cases h
def ldV(P:Program)(rd:Nat->af IR)(T:TypeId)(x:af AV)(K:AV->af α):af α:=match Hq P T with
 |true=>match x with
  |some (.fp cs)=>(cs[0]?).bind K
  |some (.ptr id off)=>match rd id with
   |some (.box _ cs)=>(cs[off]?).bind K
   |_=>J
  |some (.ra id t m off)=>match rd id with
   |some (.row t' l)=>match L.arr t' with
    |true=>if t=t'/\m<zZ l/\off<U.sz t' then K (.lit (.bool (L.gtB t' l[m]! off)))else J
    |false=>if t=t'/\m<zZ l then((U.cells t' l[m]!)[off]?).bind K else J
   |_=>J
  |_=>J
 |false=>match Vb P T with
  |some n=>match x with
   |some (.fp cs)=>match z7 n (zZ cs) with
    |true=>K (.agg (cs.take n))
    |false=>J
   |some (.ptr id off)=>match rd id with
    |some (.box _ cs)=>match z7 (off+n) (zZ cs) with
     |true=>K (.agg ((cs.drop off).take n))
     |false=>J
    |_=>J
   |some (.ra id t m off)=>match rd id with
    |some (.row t' l)=>match z7 (off+n) (U.sz t')with
     |true=>if t=t'/\m<zZ l then K (.agg (((U.cells t' l[m]!).drop off).take n))else J
     |false=>J
    |_=>J
   |_=>J
  |none=>J
def asw{T:TypeId}(hs:iO ev rd nx E R)(ho:o.op= .load T x){K:AV->af α}(h:ldV P rd T (ev x) K=M r):∃d,K d=M r/\Pu P o E R nx d:=by
 unfold ldV at h;split at h
 ·rename_i hT;have hT:=rD hT;split at h
  ·rename_i cs hx;obtain⟨d,hd,h⟩:=zl.1 h;exact⟨d,h,vX (hs.oZ hx).fpL hd,λρ=>by have ex:=hs.fM hx ρ;rw[mB]at ex;exact .asT ho ex hT (by rw[zP,hd];rfl)⟩
  ·rename_i id off hx;split at h
   case h_2=>cases h
   rename_i t cs hr;obtain⟨d,hd,h⟩:=zl.1 h;refine⟨d,h,vX (hs.anN hr) hd,λρ=> ?_⟩;have ex:=hs.fM hx ρ;rw[fT]at ex;obtain⟨i,hi⟩:=hs.box hr ρ;exact .FM i ho ex hi hT (by rw[zP,hd];rfl)
  ·rename_i id t m off hx;split at h
   case h_2=>cases h
   rename_i t' l hr;split at h
   ·rename_i har;split at h
    case isFalse=>cases h
    rename_i hm;obtain⟨rfl,hm,hoff⟩:=hm;refine⟨_,h, .lit _,λρ=> ?_⟩;have ex:=hs.fM hx ρ;rw[jC]at ex;obtain⟨i,hi⟩:=hs.row hr ρ;rw[show (bU.lit (.bool (L.gtB t l[m]! off)):AV).sub ρ= .lit (.bool (L.gtB t l[m]! off))by simp only[bU.sub]];exact .aeP i m ho ex hi hT rfl hm (L.ai5 t har l[m]! off hoff)
   split at h
   case isFalse=>cases h
   rename_i hm;obtain⟨rfl,hm⟩:=hm;obtain⟨d,hd,h⟩:=zl.1 h;refine⟨d,h,vX (L.oZ t _ nx) hd,λρ=> ?_⟩;have ex:=hs.fM hx ρ;rw[jC]at ex;obtain⟨i,hi⟩:=hs.row hr ρ;have hc:d.sub ρ=d:=by
    have:=L.clo t l[m]! ρ;have h2:((U.cells t l[m]!).map (bU.sub ρ))[off]? =M (d.sub ρ):=by rw[zP,hd];rfl
    rw[this,hd]at h2;exact(zJ.inj h2).symm
   rw[hc];exact .aeP i m ho ex hi hT rfl hm hd
  ·cases h
 ·split at h
  case h_2=>cases h
  rename_i n hT;have hT:=PE hT;split at h
  ·rename_i cs hx;split at h
   case h_2=>cases h
   rename_i hn;exact⟨_,h, .agg _ (pE (hs.oZ hx).fpL _),λρ=>by have ex:=hs.fM hx ρ;rw[mB]at ex;rw[eS,xX];exact .afo ho ex hT (by rw[zF];exact yT hn)⟩
  ·rename_i id off hx;split at h
   case h_2=>cases h
   rename_i t cs hr;split at h
   case h_2=>cases h
   rename_i hn;refine⟨_,h, .agg _ (pE (ni (hs.anN hr) _) _),λρ=> ?_⟩;have ex:=hs.fM hx ρ;rw[fT]at ex;obtain⟨i,hi⟩:=hs.box hr ρ;rw[eS,xX,xY];exact .auC i ho ex hi hT (by rw[zF];exact yT hn)
  ·rename_i id t m off hx;split at h
   case h_2=>cases h
   rename_i t' l hr;split at h
   case h_2=>cases h
   rename_i hn;split at h
   case isFalse=>cases h
   rename_i hm;obtain⟨rfl,hm⟩:=hm;refine⟨_,h, .agg _ (pE (ni (L.oZ t _ nx) _) _),λρ=> ?_⟩;have ex:=hs.fM hx ρ;rw[jC]at ex;obtain⟨i,hi⟩:=hs.row hr ρ;rw[eS,xX,xY,L.clo];exact .auv i m ho ex hi hT rfl hm (yT hn)
  ·cases h
end
end Go.Iv
namespace Go.Iv
variable [U:HB] [L:Ho]
open Go Go.RowKit
section
variable {P:Program} {E:Env} {σ:aa bM} {o:Oper} {T T' e:TypeId} {x y z:Operand} {av:AV} {m:Int} {k:IntKind}
def Yp.axk{n':Nat}{cs:aa AV}(ho:o.op= .index T x y)(hx:E.ev x=M (.agg cs))(hy:E.ev y=M (.n k m))(hT:P.underlying T=M (.array n' e))(h1:nj P e)(hs:(P.info? e).map (·.size)=M 1)(hm:0<=m/\m<n')(ha:cs[m.toNat]? =M av):Yp P E σ o av:=λA w ρ _ hρ=>by
 obtain⟨j,hj,hj'⟩:=zj.1 hs;obtain⟨us,q1,q2⟩:=(hρ _ _ hx).gO;have hy':=(hρ _ _ hy).bR;obtain⟨v,q3,q4⟩:=q2.get ha;refine⟨v,q4,λw' _=> ?_⟩;have hp:(part e us.toArray m.toNat).run P w'= .ok v w':=by
  unfold part;rw[Sem.run_bind,mh h1];simp[q3]
 simp[execOp,ho,Instr.index,q1,hy',run_underlying hT,sizeOf,typeInfo,hj,hj',asIntOf,hm,hp]
end
section
variable {α:Type} {r:α} {P:Program} {o:Oper} {E:Env} {R:aS} {nx:Nat} {ev:Operand->af AV} {rd:Nat->af IR} {x y z:Operand} {d:AV} {A:Nat->Prop} {w:World} {ρ:Gh} {v:Value}
def kW(ρ:Gh)(d:AV):dD (d.sub ρ)=(dD d).map (bU.sub ρ):=by
 cases d<;>simp only[bU.sub,dD,zI,yx]
def TR{d:AV}(h:iV d=Z)(hn:∀id,d≠ .own id):iV (d.sub ρ)=Z:=by
 cases d<;>first|(exact iy rfl (hn _))|(cases h;done)|(simp only[bU.sub,iV]at h ⊢;done)|(simp only[bU.sub]at h ⊢;first|exact h|rfl)
def DO(hs:iO ev rd nx E R)(h:Ev rd d=Z)(hd:Hd A (aS.res ρ R) w)(hr:Rel A w (d.sub ρ) v):v.oneCell'=Z:=by
 unfold Ev at h;split at h
 ·rename_i id;split at h
  ·rename_i t l hrd;obtain⟨i,hi⟩:=hs.row hrd ρ;rw[cI]at hr;rw[hr.bR];exact Uw i hi hd
  ·rename_i es hrd;obtain⟨i,hi,_⟩:=dG (hs.r _ _ hrd);obtain⟨b,ar,cl,q,_⟩:=hd.1 _ (List.mem_of_getElem? (fB (ρ:=ρ) hi));rw[cI]at hr;rw[hr.bR,q];rfl
  ·rename_i k e l hrd;obtain⟨i,hi,_⟩:=dG (hs.r _ _ hrd);obtain⟨b,ar,cl,q,_⟩:=hd.1 (.mp (ρ.v id) (l.map (mW k e))) (List.mem_of_getElem? (fB (ρ:=ρ) hi));rw[cI]at hr;rw[hr.bR,q];rfl
  ·cases h
 ·rw[fT]at hr;rw[hr.bR];rfl
 ·cases h
 ·rename_i h1 _ _;exact hr.one (TR h (λid e=>h1 id e))
def Aq(hs:iO ev rd nx E R)(h:EF rd d=Z)(hd:Hd A (aS.res ρ R) w)(hr:Rel A w (d.sub ρ) v):bD A w ((dD d).map (bU.sub ρ)) v.cells.toList/\∀u∈v.cells.toList,u.oneCell'=Z:=by
 by_cases ha:∃cs,d= .agg cs
 ·obtain⟨cs,rfl⟩:=ha;rw[eS]at hr;obtain⟨us,rfl,h2⟩:=hr.gO;refine⟨by simpa [Value.cells,dD]using h2,λu hu=> ?_⟩;simp only[Value.cells]at hu;obtain⟨j,hj,rfl⟩:=xh hu;have hlt:j<zZ cs:=by have:=h2.1;rw[zF]at this;omega
  have h3:=h2.2 j _ us[j] (by rw[zP,zD hlt];rfl) (zD hj);exact DO hs (zn.1 h _ (yR hlt)) hd h3
 ·have hc:Ev rd d=Z:=by
   cases d<;>first|exact h|(exact iy ⟨_,rfl⟩ ha)
  have hac:dD d=[d]:=by
   cases d<;>first|rfl|(exact iy ⟨_,rfl⟩ ha)
  have h2:=DO hs hc hd hr;rw[hac,mq h2];exact⟨bD.cons hr bD.nil,λu hu=>by simp at hu;rw[hu];exact h2⟩
def Ir(hs:iO ev rd nx E R)(h:EF rd d=Z):Pw (aS.res ρ R) (d.sub ρ):=λA w v hd hr=>by
 rw[kW];exact Aq hs h hd hr
def Ad(rd:Nat->af IR)(place:Nat->af (Nat×Nat))(cells:aa AV):aa (Nat×AV)->af (aa AV)
 |[]=>M cells
 |(i,a)::rest=>
  match place i with
  |none=>J
  |some (off,size)=>
   match zg (dD a).length size&&z7 (off+size) cells.length&&EF rd a with
   |true=>Ad rd place (cells.take off++dD a++cells.drop (off+size)) rest
   |false=>J
def HK{place:Nat->af (Nat×Nat)}:∀{ps:aa (Nat×AV)} {cs cs':aa AV},(∀c∈cs,cE nx c)->(∀p∈ps,cE nx p.2)->Ad rd place cs ps=M cs'->∀c∈cs',cE nx c
 |[],cs,cs',h1,_,hf=>by cases hf;exact h1
 |(i,a)::ps,cs,cs',h1,h2,hf=>by
  unfold Ad at hf;split at hf
  ·cases hf
  ·split at hf
   ·exact HK (Ac (Ac (pE h1 _) (AF (h2 _ zm))) (ni h1 _)) (λp hp=>h2 p (zM _ hp)) hf
   ·cases hf
def BL(hs:iO ev rd nx E R)(hd:Hd A (aS.res ρ R) w){place:Nat->af (Nat×Nat)}:∀{ps:aa (Nat×AV)} {qs:aa (Nat×Value)} {cs cs':aa AV} {init:Array Value},bD A w (cs.map (bU.sub ρ)) init.toList->
  F2 (λ(p:Nat×AV) (q:Nat×Value)=>p.1=q.1/\Rel A w (p.2.sub ρ) q.2) ps qs->Ad rd place cs ps=M cs'->∃us:Array Value,Instr.fill place init qs=M us/\bD A w (cs'.map (bU.sub ρ)) us.toList
 |[],_,cs,cs',init,hi,hp,hf=>by
  cases hp;cases hf;exact⟨init,rfl,hi⟩
 |(i,a)::ps,_,cs,cs',init,hi,hp,hf=>by
  cases hp with
  |@cons _ q _ qs h1 h2=>
   obtain⟨j,v⟩:=q;obtain⟨h3,h4⟩:=h1;subst h3;unfold Ad at hf;unfold Instr.fill;cases hpl:place i with
   |none=>rw[hpl]at hf;cases hf
   |some os=>
    obtain⟨off,size⟩:=os;rw[hpl]at hf;simp only at hf ⊢;split at hf
    ·rename_i hc;simp only[zh,Nat.ble_eq]at hc;obtain⟨⟨hc1,hc2⟩,hc3⟩:=hc;have hc1:=yI hc1;obtain⟨h5,h6⟩:=Aq hs hc3 hd h4;have hvs:v.cells.size=size:=by rw[<-yf,h5.1,zF,hc1]
     have his:init.size=zZ cs:=by rw[<-yf,hi.1,zF]
     rw[bP (by simp;omega)];refine BL hs hd (cs:=cs.take off++dD a++cs.drop (off+size)) ?_ h2 hf;have hvl:zZ v.cells.toList=size:=by rw[yf,hvs]
     have e:(v.cells.zipIdx.foldl (λcs (x:Value×Nat)=>match x with|(c,j)=>cs.setIfInBounds (off+j) c) init).toList=init.toList.take off++v.cells.toList++init.toList.drop (off+size):=by
      have:=foldl_set v.cells.toList 0 off init (by rw[hvl];omega);rw[hvl,yG]at this;rw[<-this,<-Array.foldl_toList,Array.toList_zipIdx]
     rw[e,zH,zH,xX,xY];exact((hi.take off).app h5).app (hi.drop (off+size))
    ·cases hf
def evp(ev:Operand->af AV):aa (Nat×Operand)->af (aa (Nat×AV))
 |[]=>M []
 |(i,x)::xs=>match ev x with
  |some a=>(evp ev xs).map λas0=>(i,a)::as0
  |none=>J
def UO(hs:iO ev rd nx E R):∀{xs:aa (Nat×Operand)} {as0:aa (Nat×AV)},evp ev xs=M as0->∀p∈as0,cE nx p.2
 |[],as0,h=>by cases h;simp
 |(i,x)::xs,as0,h=>by
  unfold evp at h;split at h
  ·rename_i a ha;obtain⟨as',h1,rfl⟩:=zj.1 h;intro p hp;rcases zk.1 hp with rfl|hp
   ·exact hs.oZ ha
   ·exact UO hs h1 p hp
  ·cases h
def oH(hs:iO ev rd nx E R){j:Operand->Value}(h:Qj A w (E.sub ρ) j):∀{xs:aa (Nat×Operand)} {as0:aa (Nat×AV)},evp ev xs=M as0->
  F2 (λ(p:Nat×AV) (q:Nat×Value)=>p.1=q.1/\Rel A w (p.2.sub ρ) q.2) as0 (xs.map λp=>(p.1,j p.2))
 |[],as0,he=>by cases he;exact .nil
 |(i,x)::xs,as0,he=>by
  unfold evp at he;split at he
  ·rename_i a ha;obtain⟨as',h1,rfl⟩:=zj.1 he;exact .cons ⟨rfl,h x _ (hs.fM ha ρ)⟩ (oH hs h h1)
  ·cases he
def PD(ev:Operand->af AV):aa Operand->af (aa AV)
 |[]=>M []
 |x::xs=>match ev x with
  |some a=>(PD ev xs).map λas0=>a::as0
  |none=>J
def JR(hs:iO ev rd nx E R):∀{xs:aa Operand} {as0:aa AV},PD ev xs=M as0->∀d∈as0,cE nx d
 |[],as0,h=>by cases h;simp
 |x::xs,as0,h=>by
  unfold PD at h;split at h
  ·rename_i a ha;obtain⟨as',h1,rfl⟩:=zj.1 h;intro p hp;rcases zk.1 hp with rfl|hp
   ·exact hs.oZ ha
   ·exact JR hs h1 p hp
  ·cases h
def MB(hs:iO ev rd nx E R)(ρ:Gh):∀{xs:aa Operand} {as0:aa AV},PD ev xs=M as0->(E.sub ρ).PD xs=M (as0.map (bU.sub ρ))
 |[],as0,he=>by cases he;rfl
 |x::xs,as0,he=>by
  unfold PD at he;split at he
  ·rename_i a ha;obtain⟨as',h1,rfl⟩:=zj.1 he;unfold Env.PD;rw[hs.fM ha ρ,MB hs ρ h1];rfl
  ·cases he
def TA(P:Program)(ev:Operand->af AV)(rd:Nat->af IR)(T:TypeId)(ps:aa (Nat×Operand))(K:AV->af α):af α:=
 match evp ev ps,iP P T with
 |some as0,M zs=>match P.underlying T with
  |some (.struct _)=>match placesOf P T with
   |some places=>(Ad rd (places[·]?) (zs.map .lit) as0).bind λcs=>K (.agg cs)
   |none=>J
  |some (.array _ e)=>match (P.info? e).map (·.size)with
   |some sz=>(Ad rd (λi=>M (i*sz,sz)) (zs.map .lit) as0).bind λcs=>K (.agg cs)
   |none=>J
  |_=>J
 |_,_=>J
def E8(ρ:Gh)(zs:aa Value):(zs.map (bU.lit (cQ:=U.cQ))).map (bU.sub ρ)=zs.map .lit:=by
 rw[yg];exact zV λv _=>bL ρ v
def ajU{T:TypeId}{ps:Array (Nat×Operand)}(hs:iO ev rd nx E R)(ho:o.op= .build T ps){K:AV->af α}(h:TA P ev rd T ps.toList K=M r):∃d,K d=M r/\Pu P o E R nx d:=by
 unfold TA at h;split at h
 case h_2=>cases h
 rename_i as0 zs he hz;have main:∀(place:Nat->af (Nat×Nat)) (cs:aa AV),Ad rd place (zs.map .lit) as0=M cs->(∀(vs:aa (Nat×Value)) (us:Array Value),Instr.fill place zs.toArray vs=M us->P.built T vs=M us)->Pu P o E R nx (.agg cs):=λplace cs hf hb=>by
  refine⟨.agg _ (HK (Nw nx zs) (UO hs he) hf),λρ A w j hd hρ=> ?_⟩;have hzr:bD A w ((zs.map bU.lit).map (bU.sub ρ)) zs:=by rw[E8];exact bD.lits _
  obtain⟨us,h1,h2⟩:=BL (init:=zs.toArray) hs hd hzr (oH hs hρ he) hf;rw[eS];refine⟨.agg us,by simpa using Rel.nK h2,λw' _=> ?_⟩;have:=run_build (P:=P) w' T _ us (hb _ us h1);rw[<-O2]at this;simp[execOp,ho,this]
 split at h
 ·rename_i fs hT;split at h
  case h_2=>cases h
  rename_i places hp;obtain⟨cs,hf,h⟩:=zl.1 h;refine⟨_,h,main _ cs hf λvs us hu=> ?_⟩;obtain⟨it,hit,hz1⟩:=zl.1 hz;obtain⟨zv,hz2,hz3⟩:=zj.1 hz1;unfold Program.built;unfold placesOf at hp;rw[hit,hT]at*;simp only[hz2,hp];have:zv.cells=zs.toArray:=by rw[<-hz3]
  rw[this];simpa using hu
 ·rename_i n e hT;split at h
  case h_2=>cases h
  rename_i sz hsz;obtain⟨cs,hf,h⟩:=zl.1 h;refine⟨_,h,main _ cs hf λvs us hu=> ?_⟩;obtain⟨it,hit,hz1⟩:=zl.1 hz;obtain⟨zv,hz2,hz3⟩:=zj.1 hz1;obtain⟨ie,hie,hse⟩:=zj.1 hsz;unfold Program.built;have:zv.cells=zs.toArray:=by rw[<-hz3]
  simp_all
 ·cases h
def Ts(P:Program)(rd:Nat->af IR)(T T':TypeId)(x:af AV)(K:AV->af α):af α:=match P.underlying T,P.underlying T' with
 |some (.int _),M (.int k')=>match x with
  |some (.lit (.int k n))=>match P.underlying T with
   |some (.int k0)=>if k0=k then K (.n k' (k'.wrap n))else J
   |_=>J
  |_=>J
 |some (.slice e),M .string=>match P.underlying e with
  |some (.int .u8)=>match x with
   |some (.sl t l)=>(L.amV t l).bind λns=>K (.s (strOfNums ns))
   |some (.own id)=>match rd id with
    |some (.row t l)=>(L.amV t l).bind λns=>K (.s (strOfNums ns))
    |_=>J
   |_=>J
  |_=>J
 |_,_=>J
def amG{T T':TypeId}(hs:iO ev rd nx E R)(ho:o.op= .convert T T' x){K:AV->af α}(h:Ts P rd T T' (ev x) K=M r):∃d,K d=M r/\Pu P o E R nx d:=by
 unfold Ts at h;split at h
 ·rename_i k0 k' hT hT';split at h
  case h_2=>cases h
  rename_i k n hx;have ex:=λρ=>hs.fM hx ρ;simp only[bL]at ex;split at h
  case h_2=>cases h
  rename_i k1 hk1;split at h
  case isFalse=>cases h
  rename_i hk;subst hk;exact⟨_,h, .lit λρ=> .conv hk1 hT' ho (ex ρ)⟩
 ·rename_i e hT hT';split at h
  case h_2=>cases h
  rename_i he;split at h
  ·rename_i t l hx;obtain⟨ns,hn,h⟩:=zl.1 h;exact⟨_,h, .lit λρ=> .b2s ho (.inr (.inl (by have ex:=hs.fM hx ρ;rw[fV]at ex;exact ex))) (L.vg t l ns hn).1 (L.vg t l ns hn).2 hT he hT'⟩
  ·rename_i id hx;split at h
   case h_2=>cases h
   rename_i t l hr;obtain⟨ns,hn,h⟩:=zl.1 h;refine⟨_,h, .lit λρ=> ?_⟩;have ex:=hs.fM hx ρ;rw[cI]at ex;obtain⟨i,hi⟩:=hs.row hr ρ;exact .b2s ho (.inr (.inr ⟨i,_,ex,hi⟩)) (L.vg t l ns hn).1 (L.vg t l ns hn).2 hT he hT'
  ·cases h
 ·cases h
def QO(i:Nat)(x:af AV)(K:AV->af α):af α:=match x with
 |some (.iF cs)=>(cs[i]?).bind K
 |_=>J
def amQ{i:Nat}(hs:iO ev rd nx E R)(ho:o.op= .extract x i){K:AV->af α}(h:QO i (ev x) K=M r):∃d,K d=M r/\Pu P o E R nx d:=by
 unfold QO at h;split at h
 ·rename_i cs hx;obtain⟨d,hd,h⟩:=zl.1 h;exact⟨d,h,vX (hs.oZ hx).EN hd,λρ=>by have ex:=hs.fM hx ρ;rw[jJ]at ex;exact .extract ho ex (by rw[zP,hd];rfl)⟩
 ·cases h
def RG(ev:Operand->af AV)(f:Go.Fn)(fs cs:aa Operand)(K:AV->af α):af α:=match fs with
 |[]=>(PD ev cs).bind λas0=>K (.fn f as0)
 |_=>J
def amN{f:Go.Fn}{fs cs:Array Operand}(hs:iO ev rd nx E R)(ho:o.op= .makeFunc f fs cs){K:AV->af α}(h:RG ev f fs.toList cs.toList K=M r):∃d,K d=M r/\Pu P o E R nx d:=by
 unfold RG at h;split at h
 ·rename_i h0;obtain⟨as0,ha,h⟩:=zl.1 h;refine⟨_,h, .fn _ _ (JR hs ha),λρ=> ?_⟩;rw[sV];exact .func ho (by rw[<-Array.toList_eq_nil_iff];exact h0) (MB hs ρ ha)
 ·cases h
def cO(s:ByteArray)(i:Nat):Int:=((s.data[i]!).toNat:Int)
def Yp.auR{T:TypeId}{E:Env}{σ:aa bM}{s:ByteArray}{k:IntKind}{m:Int}(ho:o.op= .index T x y)(hx:E.ev x=M (.s s))(hy:E.ev y=M (.n k m))(hT:P.underlying T=M .string)(hm:0<=m/\m<(s.size:Int)):Yp P E σ o (.n .u8 (cO s m.toNat)):=λA w ρ _ hρ=>by
 refine⟨_, .lit _,λw' _=> ?_⟩;have hx':=(hρ _ _ hx).bR;have hy':=(hρ _ _ hy).bR;have h:=run_index_string (P:=P) w' T s k m hT;rw[dif_pos hm]at h;have e:cO s m.toNat=((s[m.toNat]'aj).toNat:Int):=by
  unfold cO;have hlt:m.toNat<s.data.size:=by have:s.data.size=s.size:=rfl;omega
  rw[getElem!_pos s.data m.toNat hlt];rfl
 rw[<-e]at h;simp[execOp,ho,hx',hy',h]
def Tb(P:Program)(T:TypeId)(x y:af AV)(K:AV->af α):af α:=match P.underlying T with
 |some (.array n e)=>match Hq P e&&CI P e 1 with
  |true=>match x,y with
   |some (.agg cs),M (.lit (.int _ m))=>if 0<=m/\m<(n:Int)then(cs[m.toNat]?).bind K else J
   |_,_=>J
  |false=>J
 |some .string=>match x,y with
  |some (.lit (.string s)),M (.lit (.int _ m))=>if 0<=m/\m<(s.size:Int)then K (.n .u8 (cO s m.toNat))else J
  |_,_=>J
 |_=>J
def akv{T:TypeId}(hs:iO ev rd nx E R)(ho:o.op= .index T x y){K:AV->af α}(h:Tb P T (ev x) (ev y) K=M r):∃d,K d=M r/\Pu P o E R nx d:=by
 unfold Tb at h;split at h
 case h_3=>cases h
 case h_2=>
  rename_i hT;split at h
  case h_2=>cases h
  rename_i s k m hx hy;split at h
  case isFalse=>cases h
  rename_i hm;have ex:=λρ=>hs.fM hx ρ;have ey:=λρ=>hs.fM hy ρ;simp only[bL]at ex ey;exact⟨_,h, .lit λρ=> .auR ho (ex ρ) (ey ρ) hT hm⟩
 rename_i n e hT;split at h
 case h_2=>cases h
 rename_i he;simp only[zh]at he;split at h
 case h_2=>cases h
 rename_i cs k m hx hy;split at h
 case isFalse=>cases h
 rename_i hm;obtain⟨d,hd,h⟩:=zl.1 h;refine⟨d,h,vX (hs.oZ hx).nK hd,λρ=> ?_⟩;have ex:=hs.fM hx ρ;have ey:=hs.fM hy ρ;rw[eS]at ex;rw[bL]at ey;exact .axk ho ex ey hT (rD he.1) (oE he.2) hm (by rw[zP,hd];rfl)
def SV(P:Program)(T:TypeId)(x:af AV)(lo hi:af (af AV))(K:AV->af α):af α:=match P.underlying T with
 |some (.slice e)=>match x with
  |some (.sl t l)=>match CI P e (U.sz t)with
   |true=>match lo,hi with
    |some (M (.lit (.int _ a))),M (M (.lit (.int _ b)))=>if 0<=a/\a<=b/\b<=(zZ l:Int)then K (.sl t ((l.take b.toNat).drop a.toNat))else J
    |none,M (M (.lit (.int _ b)))=>if 0<=b/\b<=(zZ l:Int)then K (.sl t (l.take b.toNat))else J
    |some (M (.lit (.int _ a))),J=>if 0<=a/\a<=(zZ l:Int)then K (.sl t (l.drop a.toNat))else J
    |_,_=>J
   |false=>J
  |some (.lit (.slice J 0 0))=>match P.info? e with
   |some _=>match lo,hi with
    |some (M (.lit (.int _ 0))),J=>K (.lit (.slice J 0 0))
    |_,_=>J
   |none=>J
  |_=>J
 |_=>J
def Yp.agc{P:Program}{E:Env}{σ:aa bM}{o:Oper}{T e:TypeId}{x y:Operand}{k:IntKind}{j:TypeInfo}(ho:o.op= .slice T x (M y) J J)(hx:E.ev x=M (.lit (.slice J 0 0)))(hy:E.ev y=M (.lit (.int k 0)))(hT:P.underlying T=M (.slice e))(hj:P.info? e=M j):Yp P E σ o (.lit (.slice J 0 0)):=Yp.lits λρ hρ w=>by
 simp[execOp,ho,hρ _ _ hx,hρ _ _ hy,Instr.sliceAt,Instr.slice,Instr.sliceBounds,Instr.sliceBound,run_underlying hT,sizeOf,typeInfo,hj,asIntOf]
def alY{T:TypeId}{lo hi:af Operand}(hs:iO ev rd nx E R)(ho:o.op= .slice T x lo hi J){K:AV->af α}(h:SV P T (ev x) (lo.map ev) (hi.map ev) K=M r):∃d,K d=M r/\Pu P o E R nx d:=by
 unfold SV at h;split at h
 case h_2=>cases h
 rename_i e hT;split at h
 case h_3=>cases h
 case h_2=>
  rename_i hx;split at h
  case h_2=>cases h
  rename_i j hj;split at h
  case h_2=>cases h
  rename_i k hlo hhi;cases lo with
  |none=>cases hlo
  |some lo=>
   cases hi with
   |some hi=>cases hhi
   |none=>
    have ex:=λρ=>hs.fM hx ρ;have e1:=λρ=>hs.fM (zJ.inj hlo) ρ;simp only[bL]at ex e1;exact⟨_,h, .lit _,λρ=>by rw[bL];exact .agc ho (ex ρ) (e1 ρ) hT hj⟩
 rename_i t l hx;split at h
 case h_2=>cases h
 rename_i hsz;have hsz:=oE hsz;have ex:=λρ=>hs.fM hx ρ;simp only[fV]at ex;split at h
 ·rename_i k a k' b hlo hhi;split at h
  case isFalse=>cases h
  rename_i hc;cases lo with
  |none=>cases hlo
  |some lo=>
   cases hi with
   |none=>cases hhi
   |some hi=>
    have e1:=λρ=>hs.fM (zJ.inj hlo) ρ;have e2:=λρ=>hs.fM (zJ.inj hhi) ρ;simp only[bL]at e1 e2;exact⟨_,h, .sl _ _,λρ=>by rw[fV];exact .auH ho (ex ρ) (e1 ρ) (e2 ρ) hT hsz hc⟩
 ·rename_i k' b hlo hhi;split at h
  case isFalse=>cases h
  rename_i hc;cases lo with
  |some lo=>cases hlo
  |none=>
   cases hi with
   |none=>cases hhi
   |some hi=>
    have e2:=λρ=>hs.fM (zJ.inj hhi) ρ;simp only[bL]at e2;exact⟨_,h, .sl _ _,λρ=>by rw[fV];exact .aob ho (ex ρ) (e2 ρ) hT hsz hc⟩
 ·rename_i k a hlo hhi;split at h
  case isFalse=>cases h
  rename_i hc;cases lo with
  |none=>cases hlo
  |some lo=>
   cases hi with
   |some hi=>cases hhi
   |none=>
    have e1:=λρ=>hs.fM (zJ.inj hlo) ρ;simp only[bL]at e1;exact⟨_,h, .sl _ _,λρ=>by rw[fV];exact .akM ho (ex ρ) (e1 ρ) hT hsz hc⟩
 ·cases h
def S7(P:Program)(rd:Nat->af IR)(T:TypeId)(x:af AV)(K:AV->af α):af α:=match P.underlying T with
 |some (.slice _)=>match x with
  |some (.sl _ l)=>K (.i (zZ l:Int))
  |some (.own id)=>match rd id with
   |some (.row _ l)=>K (.i (zZ l:Int))
   |_=>J
  |some (.lit (.slice J 0 0))=>K (.i 0)
  |_=>J
 |some .string=>match x with
  |some (.lit (.string s))=>K (.i (s.size:Int))
  |_=>J
 |_=>J
def ajg{T:TypeId}(hs:iO ev rd nx E R)(ho:o.op= .call {callee:= .builtin .len,args:=#[x],argTypes:=#[T]}){K:AV->af α}(h:S7 P rd T (ev x) K=M r):∃d,K d=M r/\Pu P o E R nx d:=by
 unfold S7 at h;split at h
 ·rename_i e hT;split at h
  ·rename_i t l hx;exact⟨_,h, .lit λρ=> .aBy ho (by have ex:=hs.fM hx ρ;rw[fV]at ex;exact ex) hT⟩
  ·rename_i id hx;split at h
   case h_2=>cases h
   rename_i t l hr;refine⟨_,h, .lit λρ=> ?_⟩;have ex:=hs.fM hx ρ;rw[cI]at ex;obtain⟨i,hi⟩:=hs.row hr ρ;exact .awt i ho ex hi hT
  ·rename_i hx;exact⟨_,h, .lit λρ=> .aso ho (by have ex:=hs.fM hx ρ;rw[bL]at ex;exact ex) hT⟩
  ·cases h
 ·rename_i hT;split at h
  ·rename_i s hx;exact⟨_,h, .lit λρ=> .aw4 ho (by have ex:=hs.fM hx ρ;rw[bL]at ex;exact ex) hT⟩
  ·cases h
 ·cases h
end
end Go.Iv
namespace Go.Iv
open Go Go.RowKit
variable [U:HB] {P:Program} {C:Cx} {E:Env} {σ:aa bM} {o:Oper} {T T':TypeId} {x y:Operand} {v:Value}
def Yv.aCO{q:Nat}{l l2:aa (U.cQ q)}(i:Nat)(ho:o.op= .call {callee:= .builtin .copy,args:=#[x,y],argTypes:=#[T,T']})(hx:E.ev x=M (.lit v))(hσ:σ[i]? =M (.row v q l))(hs:Src σ E y q l2)
  (hT:P.underlying T=M (.slice q)) (hz:(P.info? q).map (·.size)=M 1) (hsz:U.sz q=1) (hlen:zZ l2=zZ l) (h0:0<zZ l) (hone:∀a,(U.cells q a).all iV=Z):
  Yv P E σ o C (xU (fU v)) (λa σ'=>a= .i (zZ l:Int)/\σ'=σ.set i (.row v q l2)):=λw ρ hg hρ=>by
 obtain⟨j,hj,hj'⟩:=zj.1 hz;obtain⟨us,h1,h2,h3⟩:=hg.res _ (List.mem_of_getElem? hσ);obtain⟨g,cap,cur,hv,hgb,hB,q1,q2,q3,q4⟩:=h1.at h0;obtain⟨p,cap2,news,r1,r2,r3,r4,r5,r6⟩:=Src.spec hs hg.hd hρ;have hx':=(hρ _ _ hx).bR;rcases r2 with r2|⟨a,rfl,r2⟩
 ·omega
 rw[hsz,yb]at r3 q3;have hone':(l2.flatMap (U.cells q)).all iV=Z:=zn.2 λc hc=>by
  obtain⟨z,_,hz⟩:=wk.1 hc;exact zn.1 (hone z) c hz
 have hl:=run_loadCells_list (P:=P) w a news r2;have hst:=run_storeCells_at P g 0 q news 0 cur w hB (by rw[r3,q3];omega) (r5.one hone');simp only[yG,zY,List.take_zero,yl]at hst;have hpart:∀b,al C (σ.set i (.row v q l2)) b↔al C σ b:=λb=>by
  have hbk:=Ao (r':=bM.row v q l2) hσ rfl;unfold al;rw[hbk]
 have hal:∀b,b<w.heap.size->al C σ b->al C (σ.set i (.row v q l2)) b/\(w.setRow g (news++cur.toList.drop (zZ news)).toArray).heap[b]? =w.heap[b]? :=λb hb hA=>
  ⟨(hpart b).2 hA,setRow_other w g b _ (λe=>hA.2 (bE.2 ⟨_,List.mem_of_getElem? hσ,by rw[e];exact hgb⟩))⟩
 refine⟨.int .i64 (zZ l),w.setRow g (news++cur.toList.drop (zZ news)).toArray,_,_,⟨rfl,rfl⟩,pW (r:= .row v q l) hg hσ (by show Kp (xU (fU v)) _ _;rw[hgb];exact mU w g _) (.inl rfl) (pN (us:=news) ⟨by rw[hsz,yb,r3], .inr ⟨g,cap,_,by rw[hlen];exact hv,setRow_heap w g cur _ q (0,0) hB,by rw[hlen];exact q1,q2,?_,?_⟩⟩ r4 (r5.mono hal)),?_, .lit _⟩
 ·have hc:zZ cur.toList=cap+1:=by rw[yf];exact q3
  simp only[yp,zu,zX,hc,hsz,yb,r3,hlen];omega
 ·rw[hsz,yb,<-r3];simp
 ·have hmin:min (zZ l2) l.length=zZ news:=by rw[r3];omega
  have hmin':Nat.min (zZ l2) l.length=zZ news:=hmin;have hnl:zZ news=zZ l:=by rw[r3,hlen]
  rw[<-hnl];simp[execOp,ho,resolve,invoke,builtin,hx',hv,r1,Builtin.copy_,run_underlying hT,Builtin.lenOf,Builtin.firstCells,sizeOf,typeInfo,hj,hj',hmin',hl,hst,goInt]
end Go.Iv
namespace Go.Iv
variable [U:HB] [L:Ho]
open Go Go.RowKit
inductive fq:Type
 |val (d:AV)
 |new (d:AV) (r:IR)
 |set (id:Nat) (r:IR)
 |grow (id:Nat) (r:IR)
 |all (d:AV) (R:aS) (nx:Nat)
def fq.R(R:aS)(nx:Nat):fq->aS
 | .val _=>R
 | .new _ r=>(nx,r)::R
 | .set id r=>pG id r R
 | .grow id r=>(nx,r)::j6 id R
 | .all _ R' _=>R'
def fq.nx(nx:Nat):fq->Nat
 | .val _=>nx
 | .new _ _=>nx+1
 | .set _ _=>nx
 | .grow _ _=>nx+1
 | .all _ _ m=>m
def fq.vl(nx:Nat):fq->af AV
 | .val d=>M d
 | .new d _=>M d
 | .set _ _=>J
 | .grow _ _=>M (.own nx)
 | .all d _ _=>M d
section
variable {P:Program} {C:Cx} {E:Env} {σ σ':aa bM} {o:Oper} {N:af AV->aa bM->Prop} {X:aa Nat} {N0:AV->aa bM->Prop} {av:AV}
def Ye(P:Program)(E:Env)(σ:aa bM)(o:Oper)(C:Cx)(N:af AV->aa bM->Prop):Prop:=∀(w:World) (j:Operand->Value),Good C σ w->Qj (al C σ) w E j->
 (∃v w' av σ',N (M av) σ'/\Tr C (bh σ) σ w σ' w'/\(execOp j o).run P w= .ok (.value v) w'/\Rel (al C σ') w' av v)\/
 (∃w' σ',N J σ'/\Tr C (bh σ) σ w σ' w'/\(execOp j o).run P w= .ok .skip w')\/
 (∃f args,(execOp j o).run P w= .ok (.enter f args) w/\Calls P f args w λe w'=>∃v av σ',e= .returned v/\N (M av) σ'/\Tr C (bh σ) σ w σ' w'/\Rel (al C σ') w' av v)
def Tr.wide{w w':World}(h:Tr C X σ w σ' w')(hX:∀b∈X,b∈bh σ):Tr C (bh σ) σ w σ' w':=
 ⟨h.good,⟨h.kp.os,h.kp.tape,h.kp.output,h.kp.size,λk hk hn=>h.kp.block k hk λhx=>hn (hX k hx)⟩,λb hb hA=>⟨(h.al b hb hA).1,hA.2⟩⟩
def Tr.none{w:World}(h:Good C σ w):Tr C (bh σ) σ w σ w:=⟨h,Kp.refl _ _,λ_ _ hA=>⟨hA,hA.2⟩⟩
def Ye.ofP(h:Yp P E σ o av)(hN:N (M av) σ):Ye P E σ o C N:=λw j hg hρ=>by
 obtain⟨v,h1,h2⟩:=h _ w j hg.hd hρ;exact .inl ⟨v,w,av,σ,hN, .none hg,h2 w (λ_ _ _=>rfl),h1⟩
def Ye.ofV(h:Yv P E σ o C X N0)(hX:∀b∈X,b∈bh σ)(hN:∀a σ',N0 a σ'->N (M a) σ'):Ye P E σ o C N:=λw j hg hρ=>by
 obtain⟨v,w',av,σ',h1,h2,h3,h4⟩:=h w j hg hρ;exact .inl ⟨v,w',av,σ',hN _ _ h1,h2.wide hX,h3,h4⟩
def Ye.ofU(h:Yu P E σ o C X σ')(hX:∀b∈X,b∈bh σ)(hN:N J σ'):Ye P E σ o C N:=λw j hg hρ=>by
 obtain⟨w',h2,h3⟩:=h w j hg hρ;exact .inr (.inl ⟨w',σ',hN,h2.wide hX,h3⟩)
def Ye.ofC(h:Yc P E σ o C X N0)(hX:∀b∈X,b∈bh σ)(hN:∀a σ',N0 a σ'->N (M a) σ'):Ye P E σ o C N:=λw j hg hρ=>by
 obtain⟨f,args,h1,h2⟩:=h w j hg hρ;exact .inr (.inr ⟨f,args,h1,h2.mono λe w' ⟨v,av,σ',q1,q2,q3,q4⟩=>⟨v,av,σ',q1,hN _ _ q2,q3.wide hX,q4⟩⟩)
end
def Nx{α:Type}(R:aS)(nx:Nat)(K:fq->af α)(r:α)(ρ:Gh):af AV->aa bM->Prop:=λa σ'=>∃eff:fq,K eff=M r/\nx<=eff.nx nx/\aS.cE (eff.nx nx) (eff.R R nx)/\(∀d,eff.vl nx=M d->cE (eff.nx nx) d)/\
 ∃ρ',nc nx ρ ρ'/\a=(eff.vl nx).map (bU.sub ρ')/\List.Perm σ' (aS.res ρ' (eff.R R nx))
def QC{α:Type}(P:Program)(o:Oper)(E:Env)(R:aS)(nx:Nat)(K:fq->af α)(r:α):Prop:=∀ρ C,Ye P (E.sub ρ) (aS.res ρ R) o C (Nx R nx K r ρ)
def Gh.eU(ρ:Gh)(n:Nat)(v:Value):Gh:=⟨λi=>if i=n then v else ρ.v i,ρ.b⟩
def Gh.gq(ρ:Gh)(n b:Nat):Gh:=⟨ρ.v,λi=>if i=n then b else ρ.b i⟩
def nc.eU(ρ:Gh)(n:Nat)(v:Value):nc n ρ (ρ.eU n v):=λi hi=>⟨by simp[Gh.eU,Nat.ne_of_lt hi],rfl⟩
def nc.gq(ρ:Gh)(n b:Nat):nc n ρ (ρ.gq n b):=λi hi=>⟨rfl,by simp[Gh.gq,Nat.ne_of_lt hi]⟩
section
variable {α:Type} {r:α} {P:Program} {o:Oper} {E:Env} {R:aS} {nx:Nat} {ev:Operand->af AV} {rd:Nat->af IR} {x y z:Operand} {d:AV} {K:fq->af α}
def QC.pu(hs:iO ev rd nx E R)(h:∃d,K (.val d)=M r/\Pu P o E R nx d):QC P o E R nx K r:=λρ C=>by
 obtain⟨d,h1,h2,h3⟩:=h;exact .ofP (h3 ρ) ⟨.val d,h1,zx _,hs.lr,λd' hd=>by cases hd;exact h2,ρ, .refl _ _,rfl, .refl _⟩
def Wq(hs:iO ev rd nx E R){d:AV}{rr:IR}{ρ ρ':Gh}{σ':aa bM}{a:AV}(hK:K (.new d rr)=M r)(hd:cE (nx+1) d)(hr:rr.cE (nx+1))(hρ:nc nx ρ ρ')(ha:a=d.sub ρ')(hσ:σ'=rr.res ρ' nx::aS.res ρ R):Nx R nx K r ρ (M a) σ':=by
 refine⟨.new d rr,hK,yc nx,λp hp=> ?_,λd' h=>by cases h;exact hd,ρ',hρ,by rw[ha];rfl,?_⟩
 ·rcases zk.1 hp with rfl|hp
  ·exact⟨zN _,hr⟩
  ·exact(hs.lr.mono (yc nx)) p hp
 ·rw[hσ,hs.lr.res hρ];rfl
def agy(P:Program)(nx:Nat)(T:TypeId)(K:fq->af α):af α:=((P.info? T).bind λi=>i.zero).bind λz=>K (.new (.ptr nx 0) (.box T (z.cells.toList.map .lit)))
def aly{T:TypeId}(hs:iO ev rd nx E R)(ho:o.op= .alloc T)(h:agy P nx T K=M r):QC P o E R nx K r:=λρ C=>by
 obtain⟨z,h1,h⟩:=zl.1 h;obtain⟨i,h2,h3⟩:=zl.1 h1;refine .ofV (.alloc (zs:=z.cells.toList) ho (by rw[h2];simp[h3])) (by simp) λa σ' ⟨b,ha,hσ⟩=> ?_;refine Wq hs (ρ':=ρ.gq nx b) h (.ptr _ _ (zN _)) (λc hc=>Nw _ _ c hc) (.gq ρ nx b) ?_ ?_
 ·rw[ha,fT];simp[Gh.gq]
 ·rw[hσ];simp only[IR.res,E8];simp[Gh.gq]
def QS(rd:Nat->af IR)(nx:Nat)(T:TypeId)(x:af AV)(K:fq->af α):af α:=match x with
 |some d=>match EF rd d with
  |true=>K (.new (.ptr nx 0) (.box T (dD d)))
  |false=>J
 |none=>J
def ai0{T:TypeId}(hs:iO ev rd nx E R)(ho:o.op= .box T x)(h:QS rd nx T (ev x) K=M r):QC P o E R nx K r:=λρ C=>by
 unfold QS at h;split at h
 case h_2=>cases h
 rename_i d hx;split at h
 case h_2=>cases h
 rename_i hp;refine .ofV (.box ho (hs.fM hx ρ) (Ir hs hp)) (by simp) λa σ' ⟨b,ha,hσ⟩=> ?_;have hl:=AF (hs.oZ hx);refine Wq hs (ρ':=ρ.gq nx b) h (.ptr _ _ (zN _)) (λc hc=>(hl c hc).mono (yc nx)) (.gq ρ nx b) ?_ ?_
 ·rw[ha,fT];simp[Gh.gq]
 ·rw[hσ,kW,cE.aa0 hl (.gq ρ nx b)];simp[IR.res,Gh.gq]
def Mj:AV->Bool
 | .lit v=>v.oneCell'
 | .sl _ _=>Z
 | .fn _ []=>Z
 |_=>O
def oA:AV->Bool
 | .agg cs=>cs.all Mj
 |d=>Mj d
def GC{d:AV}(h:Mj d=Z)(ρ:Gh):d.sub ρ=d:=by
 cases d with
 |fn f cs=>
  cases cs with
  |nil=>simp only[bU.sub,yx]
  |cons a l=>cases h
 |_=>first|(cases h;done)|simp only[bU.sub]
def Pa{cs:aa AV}(h:cs.all Mj=Z)(ρ:Gh):cs.map (bU.sub ρ)=cs:=by
 have:cs.map (bU.sub ρ)=cs.map id:=zV λc hc=>GC (zn.1 h c hc) ρ;simp_all
def lz{d:AV}(h:oA d=Z)(ρ:Gh):d.sub ρ=d:=by
 by_cases ha:∃cs,d= .agg cs
 ·obtain⟨cs,rfl⟩:=ha;rw[eS,Pa h]
 ·exact GC (by cases d<;>first|exact h|(exact iy ⟨_,rfl⟩ ha)) ρ
def Ng{d:AV}(h:Mj d=Z):iV d=Z:=by
 cases d<;>first|(cases h;done)|exact h|rfl
def Gc{d:AV}(h:oA d=Z):uu d=Z:=by
 by_cases ha:∃cs,d= .agg cs
 ·obtain⟨cs,rfl⟩:=ha;exact zn.2 λc hc=>Ng (zn.1 h c hc)
 ·have:=Ng (d:=d) (by cases d<;>first|exact h|(exact iy ⟨_,rfl⟩ ha));cases d<;>first|exact this|(exact iy ⟨_,rfl⟩ ha)
def Rk(d:AV):af Bool:=match dD d with
 |[.lit (.bool b)]=>M b
 |_=>J
def aae{d:AV}{b:Bool}(h:Rk d=M b):dD d=[.lit (.bool b)]:=by
 unfold Rk at h;grind
def T3(P:Program)(rd:Nat->af IR)(T:TypeId)(x y:af AV)(K:fq->af α):af α:=match y with
  |some d=>match (P.info? T).map (·.size)with
    |some n=>match zg (dD d).length n&&EF rd d with
      |true=>match x with
        |some (.ptr id off)=>match rd id with
          |some (.box T' cs)=>match z7 (off+n) (zZ cs) with
            |true=>K (.set id (.box T' (cs.take off++dD d++cs.drop (off+n))))
            |false=>J
          |_=>J
        |some (.ra id t m off)=>match rd id with
          |some (.row t' l)=>match bif L.arr t'&&oA d then Rk d else J with
           |some b=>if t=t'/\m<zZ l/\off<U.sz t' then K (.set id (.row t' (l.set m (L.stB t' l[m]! off b))))else J
           |none=>match z7 (off+n) (U.sz t')&&oA d with
            |true=>if t=t'/\m<zZ l then(L.parse t' ((U.cells t' l[m]!).take off++dD d++(U.cells t' l[m]!).drop (off+n))).bind λq=>K (.set id (.row t' (l.set m q)))else J
            |false=>J
          |_=>J
        |_=>J
      |false=>J
    |none=>J
  |none=>J
def akf{T:TypeId}(hs:iO ev rd nx E R)(ho:o.op= .store T x y)(h:T3 P rd T (ev x) (ev y) K=M r):QC P o E R nx K r:=λρ C=>by
 unfold T3 at h;split at h
 case h_2=>cases h
 rename_i d hy;split at h
 case h_2=>cases h
 rename_i n hn;split at h
 case h_2=>cases h
 rename_i hdn;simp only[zh]at hdn;obtain⟨hlen,hp⟩:=hdn;have hlen:=fL hlen;split at h
 ·rename_i id off hx;split at h
  case h_2=>cases h
  rename_i T' cs hr;split at h
  case h_2=>cases h
  rename_i hle;have hle:=yT hle;have ex:=hs.fM hx ρ;rw[fT]at ex;obtain⟨i,hi1,hi2,_⟩:=dG (hs.r _ _ hr);have hres:=fB (ρ:=ρ) hi1;have hl:∀c∈cs.take off++dD d++cs.drop (off+n),cE nx c:=Ac (Ac (pE (hs.anN hr) _) (AF (hs.oZ hy))) (ni (hs.anN hr) _);refine .ofU (.GX (cs:=cs.map (bU.sub ρ)) i ho ex (hs.fM hy ρ) hres hn (Ir hs hp) (by rw[kW,zF,hlen]) (by rw[zF];exact hle)) (λb hb=> ?_) ⟨_,h,zx _,mS (hs.r _ _ hr) hs.lr hl,λd' hd=>(by cases hd),ρ, .refl _ _,rfl,?_⟩
  ·rw[zA]at hb;exact bE.2 ⟨_,List.mem_of_getElem? hres,by rw[hb];rfl⟩
  ·show List.Perm _ (aS.res ρ (pG id _ R));rw[hi2,rF];simp only[IR.res,zH,xX,xY,kW];rfl
 ·rename_i id t m off hx;split at h
  case h_2=>cases h
  rename_i t' l hr;split at h
  ·rename_i b hbb;cases har:L.arr t'&&oA d with
   |false=>rw[har]at hbb;cases hbb
   |true=>
    rw[har]at hbb;simp only[zh]at har;obtain⟨har,hap⟩:=har;have hab:=aae hbb;rw[hab]at hlen;have hn1:n=1:=by simpa using hlen.symm
    split at h
    case isFalse=>cases h
    rename_i hm;obtain⟨rfl,hm,hoff⟩:=hm;have ex:=hs.fM hx ρ;rw[jC]at ex;obtain⟨i,hi1,hi2,_⟩:=dG (hs.r _ _ hr);have hres:=fB (ρ:=ρ) hi1;have hds:=lz hap ρ;have hpl:uu (d.sub ρ)=Z:=by rw[hds];exact Gc hap
    refine .ofU (.agC (of:=off) i (L.stB t l[m]! off b) ho ex (hs.fM hy ρ) hres hn hpl (by rw[hds,hab,hn1];rfl) rfl hm aj (L.len _ _) (λA w us hr=> ?_)) (λb hb=> ?_) ⟨_,h,zx _,mS (hs.r _ _ hr) hs.lr trivial,λd' hd=>(by cases hd),ρ, .refl _ _,rfl,?_⟩
    ·rw[hds,hab,hn1]at hr;rw[L.alF t har _ off b hoff];exact hr
    ·obtain⟨g,hg⟩:∃g,fU (ρ.v id)=M g:=by
      simp_all
     rw[hg]at hb;simp only[xE,zA]at hb;exact bE.2 ⟨_,List.mem_of_getElem? hres,by rw[hb];exact hg⟩
    ·show List.Perm _ (aS.res ρ (pG id _ R));rw[hi2,rF];rfl
  split at h
  case h_2=>cases h
  rename_i hle;simp only[zh]at hle;obtain⟨hle,hap⟩:=hle;have hle:=yT hle;split at h
  case isFalse=>cases h
  rename_i hm;obtain⟨rfl,hm⟩:=hm;obtain⟨q,hq,h⟩:=zl.1 h;have ex:=hs.fM hx ρ;rw[jC]at ex;obtain⟨i,hi1,hi2,_⟩:=dG (hs.r _ _ hr);have hres:=fB (ρ:=ρ) hi1;have hds:=lz hap ρ;have hpl:uu (d.sub ρ)=Z:=by rw[hds];exact Gc hap
  refine .ofU (.agC (of:=off) i q ho ex (hs.fM hy ρ) hres hn hpl (by rw[kW,zF,hlen]) rfl hm hle (L.len _ _) (λA w us hr=> ?_)) (λb hb=> ?_) ⟨_,h,zx _,mS (hs.r _ _ hr) hs.lr trivial,λd' hd=>(by cases hd),ρ, .refl _ _,rfl,?_⟩
  ·refine L.k9 _ _ _ hq A w us ?_;rw[hds]at hr;exact hr
  ·obtain⟨g,hg⟩:∃g,fU (ρ.v id)=M g:=by
    simp_all
   rw[hg]at hb;simp only[xE,zA]at hb;exact bE.2 ⟨_,List.mem_of_getElem? hres,by rw[hb];exact hg⟩
  ·show List.Perm _ (aS.res ρ (pG id _ R));rw[hi2,rF];rfl
 ·cases h
def prs(t:Nat):Nat->aa AV->af (aa (U.cQ t))
 |0,[]=>M []
 |0,_=>J
 |n+1,cs=>(L.parse t (cs.take (U.sz t))).bind λx=>(prs t n (cs.drop (U.sz t))).map λl=>x::l
def ahs{t:Nat}:∀{n:Nat} {cs:aa AV} {l:aa (U.cQ t)},prs t n cs=M l->zZ cs=n*U.sz t->zZ l=n/\∀A w us,bD A w cs us->bD A w (l.flatMap (U.cells t)) us
 |0,[],l,h,_=>by
  cases h;simp
 |0,_::_,l,h,_=>by cases h
 |n+1,cs,l,h,hl=>by
  obtain⟨x,h1,h⟩:=zl.1 h;obtain⟨l',h2,rfl⟩:=zj.1 h;rw[yL]at hl;obtain⟨h3,h4⟩:=ahs h2 (by rw[zX];omega);refine⟨by simp[h3],λA w us hr=> ?_⟩;rw[xV,<-xT (U.sz t) us];exact(L.k9 _ _ _ h1 A w _ (hr.take _)).app (h4 A w _ (hr.drop _))
def TJ(P:Program)(ev:Operand->af AV)(rd:Nat->af IR)(nx:Nat)(T:TypeId)(n:Nat)(ps:aa (Nat×Operand))(K:fq->af α):af α:=match P.underlying T with
 |some (.slice e)=>match CI P e (U.sz e)with
  |true=>match n with
   |0=>match ps with
    |[]=>K (.new (.own nx) (.row e []))
    |_=>J
   |n+1=>match evp ev ps,iP P e with
    |some as0,M zs=>match zg (zZ zs) (U.sz e)&&zB 0 (U.sz e)&&z7 ((n+1)*U.sz e) 16777216 with
     |true=>(Ad rd (λi=>M (i*U.sz e,U.sz e)) ((zq (n+1) zs).flatten.map .lit) as0).bind λcs=>match cs.all Mj&&zg (zZ cs) ((n+1)*U.sz e)with
      |true=>(prs e (n+1) cs).bind λl=>K (.new (.own nx) (.row e l))
      |false=>J
     |false=>J
    |_,_=>J
  |false=>J
 |_=>J
def Ie(hs:iO ev rd nx E R){t:Nat}{l:aa (U.cQ t)}{ρ:Gh}{σ':aa bM}{a:AV}(hK:K (.new (.own nx) (.row t l))=M r)(h:∃v,a= .lit v/\σ'= .row v t l::aS.res ρ R):Nx R nx K r ρ (M a) σ':=by
 obtain⟨v,ha,hσ⟩:=h;refine Wq hs (ρ':=ρ.eU nx v) hK (.own _ (zN _)) trivial (.eU ρ nx v) ?_ ?_
 ·rw[ha,cI];simp[Gh.eU]
 ·rw[hσ];simp[IR.res,Gh.eU]
def amj{T:TypeId}{n:Nat}{ps:Array (Nat×Operand)}(hs:iO ev rd nx E R)(ho:o.op= .buildSlice T n ps)(h:TJ P ev rd nx T n ps.toList K=M r):QC P o E R nx K r:=λρ C=>by
 unfold TJ at h;split at h
 case h_2=>cases h
 rename_i e hT;split at h
 case h_2=>cases h
 rename_i hsz;have hsz:=oE hsz;split at h
 ·split at h
  case h_2=>cases h
  rename_i h0;have h0:ps=#[]:=by rw[<-Array.toList_eq_nil_iff];exact h0
  subst h0;exact .ofV (.aHW ho hT hsz) (by simp) λa σ' hN=>Ie hs h hN
 ·rename_i n;split at h
  case h_2=>cases h
  rename_i as0 zs he hz;split at h
  case h_2=>cases h
  rename_i hc;simp only[zh]at hc;obtain⟨⟨hc1,hc2⟩,hc3⟩:=hc;have hc1:=fL hc1;have hc2:0<U.sz e:=by simpa using hc2
  have hc3:=yT hc3;obtain⟨cs,hf,h⟩:=zl.1 h;split at h
  case h_2=>cases h
  rename_i hd;simp only[zh]at hd;obtain⟨hd1,hd2⟩:=hd;have hd2:=fL hd2;obtain⟨l,hl,h⟩:=zl.1 h;obtain⟨hl1,hl2⟩:=ahs hl hd2;refine .ofV (.lit l ho hT hsz hz hc1 (λA w j hd hρ=> ?_) hl1 (λi hi=>L.len _ _) (Nat.mul_pos (Nat.succ_pos _) hc2) hc3) (by simp) λa σ' hN=>Ie hs h hN;obtain⟨us,h1,h2⟩:=BL (init:=(zq (n+1) zs).flatten.toArray) hs hd (by rw[E8];exact bD.lits _) (oH hs hρ he) hf;rw[Pa hd1]at h2;exact⟨us,h1,hl2 _ _ _ h2⟩
def mkE(P:Program)(nx:Nat)(T:TypeId)(x y:af AV)(K:fq->af α):af α:=match P.underlying T,x,y with
 |some (.slice e),M (.lit (.int .i64 m)),M (.lit (.int .i64 n))=>match (P.info? e).map (λi=>(i.size,i.bytes)),iP P e with
  |some (sz,by'),M zs=>match zg sz (U.sz e)&&z7 by' 4096&&zg (zZ zs) (U.sz e)&&zB 0 (U.sz e)with
   |true=>(L.parse e (zs.map .lit)).bind λd=>if 0<=m/\m<=n/\n<=1073741824 then K (.new (.own nx) (.row e (zq m.toNat d)))else J
   |false=>J
  |_,_=>J
 |_,_,_=>J
def axX{T:TypeId}(hs:iO ev rd nx E R)(ho:o.op= .makeSlice T x y)(h:mkE P nx T (ev x) (ev y) K=M r):QC P o E R nx K r:=λρ C=>by
 unfold mkE at h;split at h
 case h_2=>cases h
 rename_i e m n hT hx hy;split at h
 case h_2=>cases h
 rename_i sz by' zs hb hz;split at h
 case h_2=>cases h
 rename_i hc;simp only[zh]at hc;obtain⟨⟨⟨hc1,hc2⟩,hc3⟩,hc4⟩:=hc;have hc1:=fL hc1;have hc3:=fL hc3;have hc4:0<U.sz e:=by simpa using hc4
 subst hc1;obtain⟨d,hd,h⟩:=zl.1 h;split at h
 case isFalse=>cases h
 rename_i hm;have ex:=hs.fM hx ρ;have ey:=hs.fM hy ρ;rw[bL]at ex ey;exact .ofV (.make d ho ex ey hT hb hz hc2 hc3 (λA w=>L.k9 _ _ _ hd A w _ (bD.lits _)) hc4 hm) (by simp) λa σ' hN=>Ie hs h hN
def emE(P:Program)(nx:Nat)(T:TypeId)(x:af AV)(K:fq->af α):af α:=match P.underlying T with
 |some (.slice e)=>match P.info? e with
  |some _=>match x with
   |some (.sl _ _)=>K (.new (.own nx) (.row e []))
   |some (.lit (.slice J 0 0))=>K (.new (.own nx) (.row e []))
   |_=>J
  |none=>J
 |_=>J
def axm{T:TypeId}{k k':IntKind}(hs:iO ev rd nx E R)(ho:o.op= .slice T x J (M (.const (.int k 0))) (M (.const (.int k' 0))))(h:emE P nx T (ev x) K=M r):QC P o E R nx K r:=λρ C=>by
 unfold emE at h;split at h
 case h_2=>cases h
 rename_i e hT;split at h
 case h_2=>cases h
 rename_i i hi;split at h
 ·rename_i t l hx;have ex:=hs.fM hx ρ;rw[fV]at ex;exact .ofV (.Wo ho (.inl ex) hT (by rw[hi];rfl)) (by simp) λa σ' hN=>Ie hs h hN
 ·rename_i hx;have ex:=hs.fM hx ρ;rw[bL]at ex;exact .ofV (.Wo (q:=0) (l:=[]) ho (.inr ex) hT (by rw[hi];rfl)) (by simp) λa σ' hN=>Ie hs h hN
 ·cases h
def aiH(rd:Nat->af IR)(e:Nat)(x:af AV):af (aa (U.cQ e)):=match x with
 |some (.lit (.slice _ 0 _))=>M []
 |some (.sl t l)=>vL t e l
 |some (.own id)=>match rd id with
  |some (.row t l)=>vL t e l
  |_=>J
 |_=>J
def J7{e:Nat}{l:aa (U.cQ e)}(hs:iO ev rd nx E R)(h:aiH rd e (ev x)=M l)(ρ:Gh):Src (aS.res ρ R) (E.sub ρ) x e l:=by
 unfold aiH at h;split at h
 ·rename_i hx;cases h;have ex:=hs.fM hx ρ;rw[bL]at ex;exact .inl ⟨_,_,ex,rfl⟩
 ·rename_i t l' hx;obtain⟨rfl,rfl⟩:=mT h;have ex:=hs.fM hx ρ;rw[fV]at ex;exact .inr (.inl ex)
 ·rename_i id hx;split at h
  case h_2=>cases h
  rename_i t l' hr;obtain⟨rfl,rfl⟩:=mT h;have ex:=hs.fM hx ρ;rw[cI]at ex;obtain⟨i,hi⟩:=hs.row hr ρ;exact .inr (.inr ⟨i,_,ex,hi⟩)
 ·cases h
def Src.cons{P:Program}{σ:aa bM}{E:Env}{rr:bM}{q:Nat}{l:aa (U.cQ q)}(h:Src σ E x q l):Src (rr::σ) E x q l:=by
 rcases h with h|h|⟨i,v,h1,h2⟩
 ·exact .inl h
 ·exact .inr (.inl h)
 ·exact .inr (.inr ⟨i+1,v,h1,h2⟩)
def Zb(P:Program)(T:TypeId)(K:Nat->aa Value->af α):af α:=match P.underlying T with
 |some (.slice e)=>match (P.info? e).map (λi=>(i.size,i.bytes)),iP P e with
  |some (sz,by'),M zs=>match zg sz (U.sz e)&&z7 by' 4096&&zg (zZ zs) (U.sz e)with
   |true=>K e zs
   |false=>J
  |_,_=>J
 |_=>J
def aiA{T:TypeId}{K:Nat->aa Value->af α}(h:Zb P T K=M r):∃e zs by',K e zs=M r/\P.underlying T=M (.slice e)/\(P.info? e).map (λi=>(i.size,i.bytes))=M (U.sz e,by')/\iP P e=M zs/\z7 by' 4096=Z/\zZ zs=U.sz e:=by
 unfold Zb at h;split at h
 case h_2=>cases h
 rename_i e hT;split at h
 case h_2=>cases h
 rename_i sz by' zs hb hz;split at h
 case h_2=>cases h
 rename_i hc;simp only[zh]at hc;obtain⟨⟨hc1,hc2⟩,hc3⟩:=hc;have hc1:=fL hc1;subst hc1;exact⟨e,zs,by',h,hT,hb,hz,hc2,fL hc3⟩
def Rz(P:Program)(rd:Nat->af IR)(e:Nat)(zs:aa Value)(T':TypeId)(T:TypeId)(y:af AV)(K:aa (U.cQ e)->af α):af α:=match zg T T' with
 |true=>(aiH rd e y).bind K
 |false=>match P.underlying T',y with
  |some (.int _),M (.lit (.int .i64 m))=>match zB 0 (U.sz e)&&zs.all Value.oneCell' with
   |true=>(L.parse e (zs.map .lit)).bind λd=>if 0<=m then K (zq m.toNat d)else J
   |false=>J
  |_,_=>J
def ZI(P:Program)(rd:Nat->af IR)(nx:Nat)(T T':TypeId)(x y:af AV)(K:fq->af α):af α:=Zb P T λe zs=>match x with
 |some (.lit (.slice J 0 0))=>Rz P rd e zs T' T y λl2=>if zZ l2<=1073741824 then K (.new (.own nx) (.row e l2))else J
 |some (.own id)=>match rd id with
  |some (.row t l)=>(vL t e l).bind λl=>Rz P rd e zs T' T y λl2=>if(l++l2).length<=1073741824 then K (.grow id (.row e (l++l2)))else J
  |_=>J
 |_=>J
def Tg(P:Program)(rd:Nat->af IR)(R:aS)(nx:Nat)(T:TypeId)(x y:af AV)(K:fq->af α):af α:=match P.underlying T with
 |some (.slice e)=>match CI P e 1&&zg (U.sz e) 1 with
  |true=>match x with
   |some (.own id)=>match rd id with
    |some (.row t l)=>(vL t e l).bind λl=>(aiH rd e y).bind λl2=>if 0<zZ l/\zZ l2=zZ l then K (.all (.i (zZ l:Int)) (pG id (.row e l2) R) nx)else J
    |_=>J
   |_=>J
  |false=>J
 |_=>J
def akP{T T':TypeId}(hs:iO ev rd nx E R)(ho:o.op= .call {callee:= .builtin .copy,args:=#[x,y],argTypes:=#[T,T']})(h:Tg P rd R nx T (ev x) (ev y) K=M r):QC P o E R nx K r:=λρ C=>by
 unfold Tg at h;split at h
 case h_2=>cases h
 rename_i e hT;split at h
 case h_2=>cases h
 rename_i hc;rw[zh]at hc;split at h
 case h_2=>cases h
 rename_i id hx;split at h
 case h_2=>cases h
 rename_i t l hr;obtain⟨l',h1,h⟩:=zl.1 h;obtain⟨rfl,rfl⟩:=mT h1;obtain⟨l2,h2,h⟩:=zl.1 h;split at h
 case isFalse=>cases h
 rename_i hl;have ex:=hs.fM hx ρ;rw[cI]at ex;obtain⟨i,hi1,hi2,_⟩:=dG (hs.r _ _ hr);have hres:=fB (ρ:=ρ) hi1;refine .ofV (.aCO i ho ex hres (J7 hs h2 ρ) hT (oE hc.1) (fL hc.2) hl.2 hl.1 (L.one _)) (λb hb=> ?_) λa σ' ⟨ha,hσ⟩=>⟨_,h,zx _,mS (hs.r _ _ hr) hs.lr trivial,λd' hd=>(by cases hd;exact .lit _),ρ, .refl _ _,by rw[ha];simp only[fq.vl,z8,bU.sub],?_⟩
 ·obtain⟨g,hg⟩:∃g,fU (ρ.v id)=M g:=by
   simp_all
  rw[hg]at hb;simp only[xE,zA]at hb;exact bE.2 ⟨_,List.mem_of_getElem? hres,by rw[hb];exact hg⟩
 ·show List.Perm _ (aS.res ρ (pG id _ R));rw[hσ,hi2,rF];rfl
def set_perm{β:Type}{l:aa β}{i:Nat}{a b:β}(h:l[i]? =M b):List.Perm (l.set i a) (a::l.eraseIdx i):=by
 have hi:=(zU.1 h).1;rw[wS,wP,bO hi];simp
def Vs{T T':TypeId}{e by':Nat}{zs:aa Value}{K':aa (U.cQ e)->af α}{rs:aa bM}{ρ:Gh}{C:Cx}(hs:iO ev rd nx E R)(ho:o.op= .call {callee:= .builtin .append,args:=#[x,y],argTypes:=#[T,T']})(h:Rz P rd e zs T' T (ev y) K'=M r)
  (hT:P.underlying T=M (.slice e)) (hb:(P.info? e).map (λi=>(i.size,i.bytes))=M (U.sz e,by')) (hz:iP P e=M zs) (hb4:z7 by' 4096=Z) (hzl:zZ zs=U.sz e):
  ∃l2,K' l2=M r/\∀(σ:aa bM) (v:Value) (i:Nat) (l:aa (U.cQ e)),(σ=aS.res ρ R\/∃rr,σ=rr::aS.res ρ R)->(E.sub ρ).ev x=M (.lit v)->σ[i]? =M (.row v e l)->zZ (l++l2)<=1073741824->
   Yv P (E.sub ρ) σ o C (xU (fU v)) (λa σ'=>∃v',a= .lit v'/\σ'=σ.set i (.row v' e (l++l2))):=by
 unfold Rz at h;split at h
 ·rename_i hTT;have:=fL hTT;subst this;obtain⟨l2,h1,h⟩:=zl.1 h;refine⟨l2,h,λσ v i l hσ hx hi hlen=> ?_⟩;have hsrc:Src σ (E.sub ρ) y e l2:=by
   rcases hσ with rfl|⟨rr,rfl⟩
   ·exact J7 hs h1 ρ
   ·exact Src.cons (P:=P) (J7 hs h1 ρ)
  exact .app i ho hx hi hsrc hT hb hz hzl hb4 (L.one e) hlen
 ·split at h
  case h_2=>cases h
  rename_i kn m hT' hy;split at h
  case h_2=>cases h
  rename_i hc;simp only[zh]at hc;obtain⟨hc1,hc2⟩:=hc;obtain⟨d,hd,h⟩:=zl.1 h;split at h
  case isFalse=>cases h
  rename_i hm;refine⟨_,h,λσ v i l hσ hx hi hlen=> ?_⟩;have ey:=hs.fM hy ρ;rw[bL]at ey;exact .aJ0 i d ho hx hi ey hT hT' hb hz hzl (by simpa using hc1) hb4 (λA w=>L.k9 _ _ _ hd A w _ (bD.lits _)) hc2 ⟨hm,hlen⟩
def ali{T T':TypeId}(hs:iO ev rd nx E R)(ho:o.op= .call {callee:= .builtin .append,args:=#[x,y],argTypes:=#[T,T']})(h:ZI P rd nx T T' (ev x) (ev y) K=M r):QC P o E R nx K r:=λρ C=>by
 obtain⟨e,zs,by',h,hT,hb,hz,hb4,hzl⟩:=aiA h;split at h
 ·rename_i hx;obtain⟨l2,h,hY⟩:=Vs (rs:=[]) (ρ:=ρ) (C:=C) hs ho h hT hb hz hb4 hzl;split at h
  case isFalse=>cases h
  rename_i hlen;have ex:=hs.fM hx ρ;rw[bL]at ex;intro w j hg hρ;have ht:Tr C [] (aS.res ρ R) w (.row (.slice J 0 0) e []::aS.res ρ R) w:=Me J e hg;have hal:∀b,al C (aS.res ρ R) b->al C (.row (.slice J 0 0) e []::aS.res ρ R) b:=λb hA=>⟨hA.1,λhx=>hA.2 (by
   rw[eH]at hx;simpa [bM.blk,fU]using hx)⟩
  obtain⟨v,w',av,σ',⟨v',ha,hσ⟩,h2,h3,h4⟩:=hY _ (.slice J 0 0) 0 [] (.inr ⟨_,rfl⟩) ex rfl (by simpa using hlen) w j ht.good (λu d hu=>(hρ u d hu).mono λb _ hA=>⟨hal b hA,rfl⟩);refine .inl ⟨v,w',av,σ',Ie hs h ⟨v',ha,by rw[hσ];rfl⟩,⟨h2.good,⟨h2.kp.os,h2.kp.tape,h2.kp.output,h2.kp.size,λk hk _=>h2.kp.block k hk (by simp[fU])⟩,λb hb hA=>⟨(h2.al b hb (hal b hA)).1,hA.2⟩⟩,h3,h4⟩
 ·rename_i id hx;split at h
  case h_2=>cases h
  rename_i t l0 hr;obtain⟨l,hl,h⟩:=zl.1 h;obtain⟨rfl,rfl⟩:=mT hl;obtain⟨l2,h,hY⟩:=Vs (rs:=[]) (ρ:=ρ) (C:=C) hs ho h hT hb hz hb4 hzl;split at h
  case isFalse=>cases h
  rename_i hlen;have ex:=hs.fM hx ρ;rw[cI]at ex;obtain⟨i,hi1,_,hi3⟩:=dG (hs.r _ _ hr);have hres:=fB (ρ:=ρ) hi1;refine .ofV (hY _ _ i _ (.inl rfl) ex hres hlen) (λb hb=> ?_) λa σ' ⟨v',ha,hσ⟩=> ?_
  ·obtain⟨g,hg⟩:∃g,fU (ρ.v id)=M g:=by
    simp_all
   rw[hg]at hb;simp only[xE,zA]at hb;exact bE.2 ⟨_,List.mem_of_getElem? hres,by rw[hb];exact hg⟩
  ·have hdl:=G5 (id:=id) hs.lr;refine⟨_,h,yc nx,λp hp=> ?_,λd' hd=>by cases hd;exact .own _ (zN _),ρ.eU nx v', .eU ρ nx v',?_,?_⟩
   ·rcases zk.1 hp with rfl|hp
    ·exact⟨zN _,trivial⟩
    ·exact(hdl.mono (yc nx)) p hp
   ·rw[ha];simp[fq.vl,cI,Gh.eU]
   ·rw[hσ];show List.Perm _ (aS.res _ ((nx,_)::j6 id R));have e1:aS.res (ρ.eU nx v') ((nx,IR.row t (l0++l2))::j6 id R)=bM.row v' t (l0++l2)::(aS.res ρ R).eraseIdx i:=by
     show _::aS.res _ (j6 id R)=_;rw[<-hdl.res (.eU ρ nx v'),hi3,AU];simp[IR.res,Gh.eU]
    rw[e1];exact set_perm hres
 ·cases h
def mnV(mx:Bool)(xs:aa (af AV))(K:AV->af α):af α:=match xs with
 |[M (.lit (.int k m)),M (.lit (.int k' n))]=>if k=k' then(match mx with
  |true=>K (.n k (if m<n then n else m))
  |false=>K (.n k (if n<m then n else m)))else J
 |_=>J
abbrev aT:=(α:Type)->FuncId->aa AV->aS->Nat->(AV->aS->Nat->af α)->af α
def gR(P:Program)(F:aT):Prop:=∀(α:Type) f args R nx (k:AV->aS->Nat->af α) r,F α f args R nx k=M r->(∀d∈args,cE nx d)->aS.cE nx R->sL P f/\
 ∀ρ,Fn P f (args.map (bU.sub ρ)) (aS.res ρ R) λa s=>∃d R' nx',k d R' nx'=M r/\nx<=nx'/\cE nx' d/\aS.cE nx' R'/\∃ρ',nc nx ρ ρ'/\a=d.sub ρ'/\List.Perm s (aS.res ρ' R')
def QL(F:aT)(ev:Operand->af AV)(R:aS)(nx:Nat)(x:af AV)(xs:aa Operand)(K:fq->af α):af α:=match x with
 |some (.fn (.func f) caps)=>(PD ev xs).bind λas0=>F α f (as0++caps) R nx λd R' nx'=>K (.all d R' nx')
 |_=>J
def an7{F:aT}{xs:Array Operand}{ts:Array TypeId}(hF:gR P F)(hs:iO ev rd nx E R)(ho:o.op= .call {callee:= .value x,args:=xs,argTypes:=ts})(h:QL F ev R nx (ev x) xs.toList K=M r):QC P o E R nx K r:=λρ C=>by
 unfold QL at h;split at h
 case h_2=>cases h
 rename_i f caps hx;obtain⟨as0,ha,h⟩:=zl.1 h;have ex:=hs.fM hx ρ;rw[sV]at ex;obtain⟨hf,hfn⟩:=hF _ _ _ _ _ _ _ h (Ac (JR hs ha) (hs.oZ hx).fnL) hs.lr;refine .ofC (.fn (σr:=[]) ho ex hf (MB hs ρ ha) (by rw[zH]) (yN _).symm (hfn ρ)) (λb hb=>hb) λa σ' ⟨σo,hN,hσ⟩=> ?_;obtain⟨d,R',nx',h1,h2,h3,h4,ρ',h5,h6,h7⟩:=hN;rw[yN]at hσ;exact⟨.all d R' nx',h1,h2,h4,λd' hd=>by cases hd;exact h3,ρ',h5,by rw[h6];rfl,by rw[hσ];exact h7⟩
end
end Go.Iv
end
