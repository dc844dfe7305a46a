/- Merged: Imp, Iw5, Iwn, Iv8, Iw6, Iw7, Iw8, Iw9, Iw10, Iw11, Iw12, Iw13, Iw14, Iw15. -/
import Derived.Test.YtghilkcphindjaaGreatM1SymbolicDomain
import Derived.MapKept
import Derived.ChangeKeysEq
import Derived.RangeFuncNested
import Derived.RangeFuncBound
import Derived.Shelf.Abstract
import Derived.TacticsIn
import Derived.OwnWalkIn
open List renaming length -> yz
open Nat renaming beq -> zh, le_refl -> zA, blt -> zD, le_trans -> zY, lt_succ_self -> z7, ble -> z8, zero_add -> ya, zero_le -> yy, mul_one -> yF, beq_refl -> yH, eq_of_beq_eq_true -> yI, lt_of_lt_of_le -> yN, le_of_ble_eq_true -> yV, blt_eq -> y9, sub_self -> xy
open Bool renaming and_eq_true -> zj, or_eq_true -> yL, true -> O, false -> V
open Option renaming map_eq_some_iff -> zk, bind_eq_some_iff -> zn, some -> zG, bind_assoc -> zW, map_some -> zX, getD_some -> yl, toList_some -> xu, some -> Q, none -> J
open List renaming getElem?_eq_getElem -> zm, mem_cons_self -> zq, mem_cons -> zu, replicate -> zw, all_eq_true -> zx, mem_map -> zy, mem_singleton -> zC, length_append -> zF, mem_cons_of_mem -> zH, length_map -> zI, map_append -> zK, length_take -> zM, getElem?_map -> zN, map_cons -> zO, getElem?_eq_some_iff -> zQ, map_congr_left -> zR, mem_filter -> zS, range -> zU, mem_append -> zV, mem_append_left -> zZ, length_drop -> yc, map_map -> yg, mem_append_right -> yh, filter_append -> yj, length_cons -> yo, getElem?_take -> yw, nodup_append -> yx, getElem?_append -> yB, getElem?_drop -> yC, replicate_succ -> yE, size_toArray -> yK, nil_append -> yR, append_assoc -> yT, map_nil -> yU, append_nil -> yW, drop_eq_getElem_cons -> y7, length_eq_zero_iff -> y8, filterMap_cons -> xd, not_mem_nil -> xe, finRange -> xA, filter_filter -> xB, take_append_drop -> xF, map_id -> xK, all_cons -> xL, drop_of_length_le -> xM, filter_cons -> xN, getElem?_append_right -> xO, filter_congr -> xP, length_replicate -> xU, mem_flatMap -> xV, perm_middle -> xX, getElem?_append_left -> xY, filter_eq_self -> xZ, getD_eq_getElem?_getD -> x8, pairwise_cons -> wu, filter_eq_nil_iff -> wv, set_eq_take_append_cons_drop -> wF, pairwise_append -> wI, perm_append_comm -> wJ, eraseIdx_sublist -> wK, getElem?_replicate -> wL, filter_append_perm -> wM
open Array renaming getElem?_eq_some_iff -> ym, getElem?_toList -> xb, getElem?_eq_getElem -> xk, getElem?_modify -> xz
open Decidable renaming decide -> Z
set_option linter.unusedSectionVars false
set_option linter.unusedVariables false
set_option linter.unusedSimpArgs false
set_option linter.defProp false
noncomputable section
namespace Go.Iv
variable [U:tQ] [L:sG]
open Go Go.RowKit
def En(P:Program)(e:TypeId)(xs ys:aa AV):Nat->Nat->af Bool
 |0,_=>Q O
 |n+1,i=>match xs[i]?,ys[i]? with
  |some a,Q b=>(fo P e a b).bind λr=>(En P e xs ys n (i+1)).map λq=>r&&q
  |_,_=>J
def dB(P:Program)(K:TypeId)(a b:AV):af Bool:=match P.underlying K with
 |some (.int _)=>fo P K a b
 |some (.struct fs)=>match a,b with
  | .agg cs, .agg ds=>match P.stoodInHeld K with
   |false=>qR P cs ds fs.toList
   |true=>J
  |_,_=>J
 |some (.array n e)=>match a,b with
  | .agg cs, .agg ds=>match CL P e&&uy P e 1 with
   |true=>En P e cs ds n 0
   |false=>J
  |_,_=>J
 |_=>J
section
variable {P:Program} {K:TypeId} {A A':Nat->Prop} {w w' w'':World} {a b:AV} {u v:Value} {q:Bool} {xs ys:aa AV} {us vs:aa Value}
def Ag{t:TypeId}(h:fo P t a b=Q q):∃x y,a= .lit x/\b= .lit y:=by
 unfold fo at h;split at h<;>try split at h
 all_goals first|(cases h;done)|exact⟨_,_,rfl,rfl⟩
def nr{t:TypeId}(h:fo P t a b=Q q)(ha:Rel A w a u)(hb:Rel A' w' b v)(d:Nat):(Op.equalIn (d+1) t u v).run P w''= .ok q w'':=by
 obtain⟨x,y,rfl,rfl⟩:=Ag h;exact wS (ρ:=⟨λ_=>undef,λ_=>0⟩) (ρ':=⟨λ_=>undef,λ_=>0⟩) h (by rw[bF];exact ha) (by rw[bF];exact hb) d
def DM(ha:bn A w xs us)(hb:bn A' w' ys vs)(d:Nat):∀{fs:aa Field} {q:Bool},qR P xs ys fs=Q q->(Op.eqFields (d+1) us.toArray vs.toArray fs).run P w''= .ok q w''
 |[],q,h=>by cases h;simp[Op.eqFields]
 |f::fs,q,h=>by
  unfold qR at h;split at h
  case h_2=>cases h
  rename_i hf;simp only[zj,bne_iff_ne,ne_eq]at hf;split at h
  case h_2=>cases h
  rename_i a b hx hy;obtain⟨r1,h1,h⟩:=zn.1 h;obtain⟨q1,h2,rfl⟩:=zk.1 h;obtain⟨u,hu,hu'⟩:=ha.get hx;obtain⟨v,hv,hv'⟩:=hb.get hy;have ih:=DM ha hb d h2;have hone:=nC hf.2;unfold Op.eqFields;rw[bS hf.1];simp only[Sem.run_bind,eM hone hu,eM hone hv,Result.andThen_ok,nr (w'':=w'') h1 hu' hv' d];cases r1 with
  |true=>simpa using ih
  |false=>simp
def IG{e:TypeId}(h1:CL P e=O)(ha:bn A w xs us)(hb:bn A' w' ys vs)(d:Nat):∀{n i:Nat} {q:Bool},En P e xs ys n i=Q q->(Op.eqItems (d+1) e 1 us.toArray vs.toArray (List.range' i n)).run P w''= .ok q w''
 |0,i,q,h=>by cases h;simp[Op.eqItems]
 |n+1,i,q,h=>by
  unfold En at h;split at h
  case h_2=>cases h
  rename_i a b hx hy;obtain⟨r1,h2,h⟩:=zn.1 h;obtain⟨q1,h3,rfl⟩:=zk.1 h;obtain⟨u,hu,hu'⟩:=ha.get hx;obtain⟨v,hv,hv'⟩:=hb.get hy;have ih:=IG h1 ha hb d h3;have hone:=nC h1;rw[List.range'_succ];unfold Op.eqItems;simp only[Sem.run_bind,yF,eM hone hu,eM hone hv,Result.andThen_ok,nr (w'':=w'') h2 hu' hv' d];cases r1 with
  |true=>simpa using ih
  |false=>simp
def Ap{e:TypeId}{n:Nat}(h:uy P e n=O):P.cellsOf e=n/\∃i,P.info? e=Q i:=by
 have h:=kQ h;obtain⟨i,h1,h2⟩:=zk.1 h;exact⟨by simp[Program.cellsOf,h1,h2],i,h1⟩
def DO(h:dB P K a b=Q q)(ha:Rel A w a u)(hb:Rel A' w' b v):(Op.equal K u v).run P w''= .ok q w'':=by
 show (Op.equalIn (9999+1) K u v).run P w''=_;unfold dB at h;split at h
 ·exact nr h ha hb 9999
 ·rename_i fs hK;split at h
  case h_2=>cases h
  rename_i cs ds;split at h
  case h_2=>cases h
  rename_i hs;obtain⟨us,rfl,h1⟩:=ha.fG;obtain⟨vs,rfl,h2⟩:=hb.fG;have hfs:P.fieldsOf K=fs:=by unfold Program.fieldsOf;rw[hK]
  rw[run_equalIn_struct (P:=P) w'' 9999 K us.toArray vs.toArray (by rw[hfs];exact hK) hs,hfs];exact DM h1 h2 9998 h
 ·rename_i n e hK;split at h
  case h_2=>cases h
  rename_i cs ds;split at h
  case h_2=>cases h
  rename_i hs;rw[zj]at hs;obtain⟨hc,i,hi⟩:=Ap hs.2;obtain⟨us,rfl,h1⟩:=ha.fG;obtain⟨vs,rfl,h2⟩:=hb.fG;rw[run_equalIn_array w'' 9999 us.toArray vs.toArray hK hi,hc,List.range_eq_range'];exact IG hs.1 h1 h2 9998 h
 ·cases h
def mH{t:TypeId}(h:fo P t a a=Q q):q=O:=by
 obtain⟨x,_,rfl,_⟩:=Ag h;unfold fo at h;split at h<;>cases x<;>simp_all
def Du:∀{fs:aa Field} {q:Bool},qR P xs xs fs=Q q->q=O
 |[],q,h=>by cases h;rfl
 |f::fs,q,h=>by
  unfold qR at h;split at h
  case h_2=>cases h
  split at h
  case h_2=>cases h
  rename_i a b hx hy;rw[hx]at hy;cases hy;obtain⟨r1,h1,h⟩:=zn.1 h;obtain⟨q1,h2,rfl⟩:=zk.1 h;rw[mH h1,Du h2];rfl
def DQ{e:TypeId}:∀{n i:Nat} {q:Bool},En P e xs xs n i=Q q->q=O
 |0,i,q,h=>by cases h;rfl
 |n+1,i,q,h=>by
  unfold En at h;split at h
  case h_2=>cases h
  rename_i a b hx hy;rw[hx]at hy;cases hy;obtain⟨r1,h1,h⟩:=zn.1 h;obtain⟨q1,h2,rfl⟩:=zk.1 h;rw[mH h1,DQ h2];rfl
def Hj(h:dB P K a b=Q V):a≠b:=λe=>by
 subst e;unfold dB at h;split at h
 ·exact gI (mH h) (by simp)
 ·cases a with
  |agg cs=>
   dsimp only at h;split at h
   ·exact gI (Du h) (by simp)
   ·cases h
  |_=>cases h
 ·cases a with
  |agg cs=>
   dsimp only at h;split at h
   ·exact gI (DQ h) (by simp)
   ·cases h
  |_=>cases h
 ·cases h
def RN(A:Nat->Prop)(w:World)(es:aa (AV×AV))(ar:aa MapEntry):Prop:=yz ar=yz es/\∀(i:Nat) e m,es[i]? =Q e->ar[i]? =Q m->Rel A w e.1 m.key/\Rel A w e.2 m.val
def RN.tail{e:AV×AV}{m:MapEntry}{es:aa (AV×AV)}{ar:aa MapEntry}(h:RN A w (e::es) (m::ar)):RN A w es ar:=⟨by simpa using h.1,λi e m h1 h2=>h.2 (i+1) e m (by simpa using h1) (by simpa using h2)⟩
def noE(P:Program)(K:TypeId)(k:AV)(es:aa (AV×AV)):Bool:=List.rec O (λe _ ih=>match dB P K k e.1 with
 |some V=>ih
 |_=>V) es
def Wh{k:AV}:∀{es:aa (AV×AV)},noE P K k es=O->∀e∈es,dB P K k e.1=Q V
 |[],_,_,h=>by cases h
 |e::es,h,x,hx=>by
  change (match dB P K k e.1 with
   |some V=>noE P K k es
   |_=>V)=O at h
  split at h
  ·rename_i h1;rcases zu.1 hx with rfl|hx
   ·exact h1
   ·exact Wh h x hx
  ·cases h
def lkE{α:Type}(P:Program)(K:TypeId)(k:AV)(hit:Nat->AV×AV->af α)(nY:af α)(es:aa (AV×AV)):Nat->af α:=
 List.rec (λ_=>nY) (λe es ih i=>(dB P K k e.1).bind λq=>match q with
  |true=>match noE P K k es with
   |true=>hit i e
   |false=>J
  |false=>ih (i+1)) es
def lB{k0:IntKind}(hK:P.underlying K=Q (.int k0))(h:fo P K a b=Q q):∃k m n,a= .lit (.int k m)/\b= .lit (.int k n)/\q=(m==n):=by
 unfold fo at h;rw[hK]at h;dsimp only at h;split at h
 ·split at h
  ·rename_i hk;subst hk;cases h;exact⟨_,_,_,rfl,rfl,rfl⟩
  ·cases h
 ·cases h
def Pa{k0:IntKind}(hK:P.underlying K=Q (.int k0))(h:dB P K a b=Q q)(ha:Rel A w a u)(hb:Rel A' w' b v):Instr.sameNow (.int k0) u v=Q q:=by
 have h0:fo P K a b=Q q:=by
  unfold dB at h;rw[hK]at h;exact h
 obtain⟨kk,x,y,rfl,rfl,rfl⟩:=lB hK h0;rw[ha.bI,hb.bI];simp[Instr.sameNow]
def Fd(P:Program)(K:TypeId)(u:Value)(ar:aa MapEntry)(i:Nat)(o:af (Nat×Value)):Prop:=(∀w,(Instr.findAsking K u ar i).run P w= .ok o w)/\∀k0,P.underlying K=Q (.int k0)->Instr.findNow (.int k0) u ar i=Q o
def sF{α:Type}{r:α}{k:AV}{hit:Nat->AV×AV->af α}{nY:af α}:∀{es:aa (AV×AV)} {i:Nat},lkE P K k hit nY es i=Q r->
  (∃(e:AV×AV) (es1 es2:aa (AV×AV)),es=es1++e::es2/\hit (i+yz es1) e=Q r/\dB P K k e.1=Q O/\∀e'∈es1++es2,dB P K k e'.1=Q V)\/(nY=Q r/\∀e∈es,dB P K k e.1=Q V)
 |[],i,h=> .inr ⟨h,λ_ h=>by cases h⟩
 |e::es,i,h=>by
  obtain⟨q,h1,h2⟩:=zn.1 (show (dB P K k e.1).bind (λq=>match q with
   |true=>match noE P K k es with
    |true=>hit i e
    |false=>J
   |false=>lkE P K k hit nY es (i+1))=Q r from h)
  cases q with
  |true=>
   cases h3:noE P K k es with
   |true=>
    rw[h3]at h2;exact .inl ⟨e,[],es,rfl,h2,h1,Wh h3⟩
   |false=>
    rw[h3]at h2;cases h2
  |false=>
   rcases sF h2 with ⟨e',es1,es2,p1,p2,p3,p4⟩|⟨p1,p2⟩
   ·exact .inl ⟨e',e::es1,es2,by rw[p1];rfl,by rw[<-p2];congr 1;simp only[yo];omega,p3,λe'' he=>by
     rcases zu.1 he with rfl|he
     ·exact h1
     ·exact p4 e'' he⟩
   ·exact .inr ⟨p1,λx hx=>by
     rcases zu.1 hx with rfl|hx
     ·exact h1
     ·exact p2 x hx⟩
def Fd.step{m:MapEntry}{ar:aa MapEntry}{i:Nat}{o:af (Nat×Value)}(h:dB P K a b=Q V)(ha:Rel A w a u)(hb:Rel A' w' b m.key)(hn:Fd P K u ar (i+1) o):Fd P K u (m::ar) i o:=
 ⟨λw''=>by simp[Instr.findAsking,DO h ha hb,hn.1],λk0 hK=>by simp[Instr.findNow,Pa hK h ha hb,hn.2 k0 hK]⟩
def Fd.hit{k:AV}(hu:Rel A' w' k u):∀{es:aa (AV×AV)} {ar:aa MapEntry} {i j:Nat} {e:AV×AV},RN A w es ar->es[j]? =Q e->dB P K k e.1=Q O->(∀(j':Nat) e',j'<j->es[j']? =Q e'->dB P K k e'.1=Q V)->
  ∃m,ar[j]? =Q m/\Fd P K u ar i (Q (i+j,m.val))
 |[],ar,i,j,e,hr,hj,ht,hf=>by cases hj
 |e0::es,[],i,j,e,hr,hj,ht,hf=>gI hr.1 (by simp)
 |e0::es,m::ar,i,0,e,hr,hj,ht,hf=>by
  cases hj;have hk:=(hr.2 0 e0 m rfl rfl).1;exact⟨m,rfl,λw''=>by simp[Instr.findAsking,DO ht hu hk],λk0 hK=>by simp[Instr.findNow,Pa hK ht hu hk]⟩
 |e0::es,m::ar,i,j+1,e,hr,hj,ht,hf=>by
  obtain⟨m',h1,h2⟩:=Fd.hit hu (i:=i+1) hr.tail (by simpa using hj) ht (λj' e' hj he=>hf (j'+1) e' (by omega) (by simpa using he));refine⟨m',by simpa using h1,?_⟩;have e1:i+(j+1)=i+1+j:=by omega
  rw[e1];exact h2.step (hf 0 e0 (by omega) rfl) hu (hr.2 0 e0 m rfl rfl).1
def Uh{e:AV×AV}{fs es1 es2:aa (AV×AV)}(h:List.Perm fs (es1++e::es2)):∃fs1 fs2,fs=fs1++e::fs2/\List.Perm (fs1++fs2) (es1++es2):=by
 obtain⟨fs1,fs2,rfl⟩:=List.append_of_mem (h.mem_iff.2 (yh es1 zq));exact⟨fs1,fs2,rfl,(xX.symm.trans (h.trans xX)).cons_inv⟩
def Fd.aem{k:AV}(hu:Rel A' w' k u){e:AV×AV}{fs es1 es2:aa (AV×AV)}{ar:aa MapEntry}(hp:List.Perm fs (es1++e::es2))(hE:RN A w fs ar)(ht:dB P K k e.1=Q O)(hf:∀e'∈es1++es2,dB P K k e'.1=Q V):
  ∃fs1 fs2 m,fs=fs1++e::fs2/\List.Perm (fs1++fs2) (es1++es2)/\ar[yz fs1]? =Q m/\Fd P K u ar 0 (Q (yz fs1,m.val)):=by
 obtain⟨fs1,fs2,rfl,h2⟩:=Uh hp;obtain⟨m,q1,q2⟩:=Fd.hit (i:=0) (j:=yz fs1) hu hE (by simp) ht λj' e' hj he=>hf e' (h2.mem_iff.1 (zZ _ (by
  rw[xY hj]at he;exact List.mem_of_getElem? he)))
 rw[ya]at q2;exact⟨fs1,fs2,m,rfl,h2,q1,q2⟩
def Fd.nY{k:AV}(hu:Rel A' w' k u):∀{es:aa (AV×AV)} {ar:aa MapEntry} {i:Nat},RN A w es ar->(∀e∈es,dB P K k e.1=Q V)->Fd P K u ar i J
 |[],ar,i,hr,hf=>by
  have:ar=[]:=y8.1 hr.1;subst this;exact⟨λ_=>rfl,λ_ _=>rfl⟩
 |e0::es,[],i,hr,hf=>gI hr.1 (by simp)
 |e0::es,m::ar,i,hr,hf=>(Fd.nY hu hr.tail λe he=>hf e (zH _ he)).step (hf e0 zq) hu (hr.2 0 e0 m rfl rfl).1
def rQ(P:Program)(t:TypeId):Bool:=match P.underlying t with
 |some (.int _)=>O
 |_=>V
def sP(P:Program)(K:TypeId)(k:AV):Bool:=match P.underlying K with
 |some (.int _)=>O
 |some (.struct fs)=>match k with
  | .agg cs=>fs.toList.all λf=>rQ P f.type&&zD f.offset (yz cs)
  |_=>V
 |some (.array n e)=>match k with
  | .agg cs=>rQ P e&&uy P e 1&&z8 n (yz cs)
  |_=>V
 |_=>V
def BK{t:TypeId}(h:rQ P t=O):lR P t/\∀(em:Bool) (d:Nat) (v:Value) (w:World),(Instr.checkKey em (d+1) t v).run P w= .ok () w:=by
 unfold rQ at h;split at h
 ·rename_i k hk;exact⟨⟨_,hk,trivial⟩,λem d v w=>by
   unfold Instr.checkKey;simp only[Sem.run_bind,run_underlying hk,Result.andThen];cases v<;>rfl⟩
 ·cases h
def l7{k:AV}(h:sP P K k=O)(hu:Rel A w k u)(em:Bool):(Instr.checkKey em 10000 K u).run P w''= .ok () w'':=by
 show (Instr.checkKey em (9999+1) K u).run P w''=_;unfold sP at h;split at h
 ·rename_i k0 hK;exact(BK (by unfold rQ;rw[hK])).2 em 9999 u w''
 ·rename_i fs hK;split at h
  case h_2=>cases h
  rename_i cs;obtain⟨us,rfl,h1⟩:=hu.fG;unfold Instr.checkKey;simp only[Sem.run_bind,run_underlying hK,Result.andThen_ok];rw[<-Array.forIn_toList];generalize fs.toList=l at h;clear hK;induction l with
  |nil=>rfl
  |cons f l ih=>
   rw[xL,zj,zj]at h;obtain⟨⟨h2,h3⟩,h4⟩:=h;have h3:f.offset<yz us:=by rw[h1.1];simpa [y9]using h3
   obtain⟨h5,h6⟩:=BK h2;simp only[List.forIn_cons,Sem.run_bind,Sem.run_ite,eM h5 (zm h3),h6 em 9998,Result.andThen_ok,Sem.run_pure,ite_self];exact ih h4
 ·rename_i n e hK;split at h
  case h_2=>cases h
  rename_i cs;rw[zj,zj]at h;obtain⟨⟨h2,h3⟩,h4⟩:=h;obtain⟨hc,i,hi⟩:=Ap h3;obtain⟨us,rfl,h1⟩:=hu.fG;have h4:n<=yz us:=by rw[h1.1];exact yV h4
  obtain⟨h5,h6⟩:=BK h2;unfold Instr.checkKey;simp only[Sem.run_bind,run_underlying hK,Result.andThen_ok,run_sizeOf w'' hi,hc,yF];simp only[Std.Legacy.Range.forIn_eq_forIn_range',Std.Legacy.Range.size,Nat.sub_zero,Nat.add_one_sub_one,Nat.div_one];have key:∀(l:aa Nat),(∀j∈l,j<yz us)->(forIn (m:=Sem) l PUnit.unit λi r=>do
    let s <-sizeOf e
    let v <-part e us.toArray (i*s)
    Instr.checkKey em 9999 e v
    pure (ForInStep.yield PUnit.unit)).run P w''= .ok PUnit.unit w'':=λl=>by
   induction l with
   |nil=>intro _;rfl
   |cons j l ih=>
    intro hl;simp only[List.forIn_cons,Sem.run_bind,run_sizeOf w'' hi,hc,yF,eM h5 (zm (hl j zq)),h6 em 9998,Result.andThen_ok,Sem.run_pure];exact ih λx hx=>hl x (zH _ hx)
  have:=key (List.range' 0 n) λj hj=>by
   rw[List.mem_range'_1]at hj;omega
  rw[this];rfl
 ·cases h
def Iz{d:TypeDesc}{ar:aa MapEntry}{o:af (Nat×Value)}(hd:P.underlying K=Q d)(hn:∀x y,Instr.sameNow d x y=J)(h:∀w,(Instr.findAsking K u ar 0).run P w= .ok o w):(Instr.findKey K u ar).run P w''= .ok o w'':=by
 cases ar with
 |nil=>
  have:=h w'';simp only[Instr.findAsking,Sem.run_pure,Result.ok.injEq,and_true]at this;subst this;simp[Instr.findKey,run_underlying hd,Instr.findNow]
 |cons m ar=>
  have:=h w'';simp only[Instr.findKey,Sem.run_bind,run_underlying hd,Result.andThen_ok,Instr.findNow,hn];exact this
def Fd.key{ar:aa MapEntry}{o:af (Nat×Value)}{k:AV}(h:Fd P K u ar 0 o)(hk:sP P K k=O):(Instr.findKey K u ar).run P w''= .ok o w'':=by
 unfold sP at hk;split at hk
 ·rename_i k0 hK;exact MapKept.run_findKey hK (h.2 k0 hK)
 ·rename_i fs hK;exact Iz hK (λ_ _=>rfl) h.1
 ·rename_i n e hK;exact Iz hK (λ_ _=>rfl) h.1
 ·cases hk
end
def GY{d:AV}(h:lF d=O)(n:Nat):ct n d:=by
 have one:∀c:AV,Fk c=O->ct n c:=λc hc=>by
  cases c with
  |fn f cs=>
   cases cs with
   |nil=>exact .fn _ _ λc hc=>by cases hc
   |cons a l=>cases hc
  |_=>first|(cases hc;done)|exact .lit _|exact .sl _ _
 by_cases ha:∃cs,d= .agg cs
 ·obtain⟨cs,rfl⟩:=ha;exact .agg cs λc hc=>one c (zx.1 h c hc)
 ·exact one d (by cases d<;>first|exact h|(exact gI ⟨_,rfl⟩ ha))
section
variable {α:Type} {r:α} {P:Program} {o:Oper} {E:Env} {R:aM} {nx:Nat} {ev:Operand->af AV} {rd:Nat->af IR} {x y z:Operand} {d:AV}
def gC.map(h:gC ev rd nx E R){id:Nat}{es:aa (AV×AV)}(hr:rd id=Q (.mp es))(ρ:Gh):∃i:Nat,(aM.res ρ R)[i]? =Q (.mp (ρ.v id) es):=by
 obtain⟨i,h1,_⟩:=cU (h.r _ _ hr);exact⟨i,eu h1⟩
def Sj{A:Nat->Prop}{w:World}{v:Value}{es:aa (AV×AV)}(h:bH.ok A w (.mp v es)):∃b ar cl fs,v= .map (Q b)/\w.heap[b]? =Q (.map ar cl)/\List.Perm fs es/\fs.Pairwise (λa b=>a.1≠b.1)/\RN A w fs ar.toList:=by
 obtain⟨b,ar,cl,h1,h2,fs,hp,hq,h3,h4⟩:=h;exact⟨b,ar,cl,fs,h1,h2,hp,hq,by simpa using h3,λi e m q1 q2=>h4 i e m q1 (by simpa using q2)⟩
def Lj{A:Nat->Prop}{w:World}{b cl:Nat}{ar:Array MapEntry}{fs es:aa (AV×AV)}(h1:w.heap[b]? =Q (.map ar cl))(hp:List.Perm fs es)(hq:fs.Pairwise (λa b=>a.1≠b.1))(h2:RN A w fs ar.toList):bH.ok A w (.mp (.map (Q b)) es):=
 ⟨b,ar,cl,rfl,h1,fs,hp,hq,by simpa using h2.1,λi e m q1 q2=>h2.2 i e m q1 (by simpa using q2)⟩
def YI(ok:Bool)(d:AV)(b:Bool):AV:=match ok with
 |true=> .gH [d, .b b]
 |false=>d
def L8(P:Program)(rd:Nat->af IR)(T:TypeId)(x y:af AV)(ok:Bool)(K:AV->af α):af α:=match P.underlying T,x,y with
 |some (.map kt et),Q (.own id),Q k=>match rd id,(P.info? et).bind (·.zero),sP P kt k&&lF k with
  |some (.mp es),Q z,O=>lkE P kt k (λ_ e=>match lF e.2 with
   |true=>K (YI ok e.2 O)
   |false=>J) (K (YI ok (.lit z) V)) es 0
  |_,_,_=>J
 |_,_,_=>J
def LY{ok:Bool}{d:AV}{b:Bool}(hd:∀ρ,d.sub ρ=d)(hl:ct nx d)(h:∀ρ,Yp P (E.sub ρ) (aM.res ρ R) o (YI ok d b)):Pu P o E R nx (YI ok d b):=by
 cases ok with
 |false=>exact⟨hl,λρ=>by rw[show YI V d b=d from rfl,hd];exact h ρ⟩
 |true=>
  refine⟨.gH _ λc hc=> ?_,λρ=> ?_⟩
  ·rcases zu.1 hc with rfl|hc
   ·exact hl
   ·rw[zC.1 hc];exact .lit _
  ·rw[show YI O d b= .gH [d, .b b]from rfl,iq];simp only[zO,yU,hd,bF];exact h ρ
def abT{A:Nat->Prop}{w:World}{ok:Bool}{d:AV}{v:Value}{b:Bool}(h:Rel A w d v):Rel A w (YI ok d b) (if ok then .tuple #[v, .bool b]else v):=by
 cases ok with
 |false=>exact h
 |true=>exact Rel.w8 (bn.cons h (bn.cons (.lit _) bn.nil))
def Kw{T kt et id:Nat}{ok:Bool}{k:AV}{zv:Value}{es:aa (AV×AV)}(hs:gC ev rd nx E R)(ho:o.op= .lookup T x y ok)(hT:P.underlying T=Q (.map kt et))(hx:ev x=Q (.own id))(hy:ev y=Q k)(hz:(P.info? et).bind (·.zero)=Q zv)(hc:sP P kt k=O)(hd2:lF k=O)
  {ρ:Gh} {i:Nat} (hi:(aM.res ρ R)[i]? =Q (.mp (ρ.v id) es)) (d:AV) (b:Bool) (hf:∀(A:Nat->Prop) (w:World) (u:Value) (fs:aa (AV×AV)) (ar:aa MapEntry),Rel A w k u->List.Perm fs es->fs.Pairwise (λa b=>a.1≠b.1)->RN A w fs ar->∃v o,Rel A w d v/\Fd P kt u ar 0 o/\(match o with|Q (_,v')=>b=O/\v'=v|J=>b=V/\zv=v)):Yp P (E.sub ρ) (aM.res ρ R) o (YI ok d b):=λA w e hd hρ=>by
 obtain⟨ti,hz1,hz2⟩:=zn.1 hz;have ex:=hs.eF hx ρ;have ey:=hs.eF hy ρ;rw[cD]at ex;rw[iY hd2]at ey;obtain⟨bk,ar,cl,fs,q1,q2,qp,qw,q3⟩:=Sj (hd.1 _ (List.mem_of_getElem? hi));have hx':=(hρ _ _ ex).bI;have hu:=hρ _ _ ey;obtain⟨v,o',h1,h2,h3⟩:=hf A w _ _ _ hu qp qw q3;refine⟨_,abT h1,λw' hw=> ?_⟩;have hb:w'.heap[bk]? =Q (.map ar cl):=by
  rw[hw bk (ym.1 q2).1 (.inr (bw.2 ⟨_,List.mem_of_getElem? hi,by rw[q1];rfl⟩))];exact q2
 have hck:=l7 (w'':=w') hc hu ar.isEmpty;have hfk:=h2.key (w'':=w') hc;simp only[execOp,ho];cases o' with
 |none=>
  obtain⟨rfl,rfl⟩:=h3;simp[Instr.lookup,run_underlying hT,hx',q1,MapKept.run_getObj_map hb,hck,hfk,zeroValue,typeInfo,hz1,hz2]
 |some p=>
  obtain⟨j,v'⟩:=p;obtain⟨rfl,rfl⟩:=h3;simp[Instr.lookup,run_underlying hT,hx',q1,MapKept.run_getObj_map hb,hck,hfk]
def NN{T:TypeId}{ok:Bool}{K:AV->af α}(hs:gC ev rd nx E R)(ho:o.op= .lookup T x y ok)(h:L8 P rd T (ev x) (ev y) ok K=Q r):∃d,K d=Q r/\Pu P o E R nx d:=by
 unfold L8 at h;split at h
 case h_2=>cases h
 rename_i kt et id k hT hx hy;split at h
 case h_2=>cases h
 rename_i es zv hr hz hk;rw[zj]at hk;rcases sF h with ⟨e,es1,es2,rfl,h2,h3,h4⟩|⟨h1,h2⟩
 ·split at h2
  ·rename_i hdat
   refine⟨_,h2,LY (iY hdat) (GY hdat _) λρ=> ?_⟩;obtain⟨i,hi⟩:=hs.map hr ρ;refine Kw hs ho hT hx hy hz hk.1 hk.2 hi _ _ λA w u fs ar hu hp _ hr=> ?_;obtain⟨fs1,fs2,m,rfl,p0,p1,p2⟩:=Fd.aem hu hp hr h3 h4;exact⟨m.val,_,(hr.2 (yz fs1) e m (by simp) p1).2,p2,rfl,rfl⟩
  ·cases h2
 ·refine⟨_,h1,LY (λρ=>bF ρ zv) (.lit _) λρ=> ?_⟩;obtain⟨i,hi⟩:=hs.map hr ρ;exact Kw hs ho hT hx hy hz hk.1 hk.2 hi _ _ λA w u fs ar hu hp _ hr=>⟨zv,J, .lit _,Fd.nY hu hr (λe he=>h2 e (hp.mem_iff.1 he)),rfl,rfl⟩
def dA{K ze:Type}[DecidableEq K](l:aa (K×ze))(x:K):af ze:=(l.find? λp=>Z (x=p.1)).map (·.2)
def fQ{K ze:Type}[DecidableEq K](l:aa (K×ze))(x:K)(v:ze):aa (K×ze):=(x,v)::l.filter λp=> !Z (x=p.1)
def VK.zero:(e:VK)->e.T
 | .i=>0
 | .b=>V
def GQ(P:Program)(t:TypeId):Bool:=match P.underlying t with
 |some (.int .i64)=>O
 |_=>V
def RL(P:Program)(n:Nat):aa Field->Nat->Bool
 |[],i=>zh i n
 |f::fs,i=>(f.name !="_")&&GQ P f.type&&zh f.offset i&&RL P n fs (i+1)
def PG(P:Program)(t:TypeId)(n:Nat):Bool:=match P.underlying t with
 |some (.struct fs)=> !P.stoodInHeld t&&RL P n fs.toList 0
 |some (.array m e)=>zh m n&&GQ P e&&uy P e 1
 |_=>V
def kkB(P:Program)(t:TypeId):KK->Bool
 | .k1=>GQ P t
 | .k2=>PG P t 2
 | .k3=>PG P t 3
def vkB(P:Program)(t:TypeId):VK->Bool
 | .i=>match (P.info? t).bind (·.zero)with
  |some (.int .i64 z)=>Z (z=0)
  |_=>V
 | .b=>match (P.info? t).bind (·.zero)with
  |some (.bool z)=> !z
  |_=>V
def KK.rk:(k:KK)->AV->af k.T
 | .k1,a=>match a with
  | .lit (.int .i64 x)=>Q x
  |_=>J
 | .k2,a=>match a with
  | .agg [.lit (.int .i64 x), .lit (.int .i64 y)]=>Q (x,y)
  |_=>J
 | .k3,a=>match a with
  | .agg [.lit (.int .i64 x), .lit (.int .i64 y), .lit (.int .i64 z)]=>Q (x,y,z)
  |_=>J
def VK.rv:(e:VK)->AV->af e.T
 | .i,a=>match a with
  | .lit (.int .i64 x)=>Q x
  |_=>J
 | .b,a=>match a with
  | .lit (.bool x)=>Q x
  |_=>J
def KK.Yg{k:KK}{a:AV}{x:k.T}(h:k.rk a=Q x):a=k.enc x:=by
 cases k<;>simp only[KK.rk]at h<;>split at h<;>first|(cases h;rfl)|cases h
def VK.aia{e:VK}{a:AV}{x:e.T}(h:e.rv a=Q x):a=e.enc x:=by
 cases e<;>simp only[VK.rv]at h<;>split at h<;>first|(cases h;rfl)|cases h
def nW{t:TypeId}(h:GQ P t=O):P.underlying t=Q (.int .i64):=by
 unfold GQ at h;split at h
 ·assumption
 ·cases h
def Hh{t:TypeId}(h:GQ P t=O):CL P t=O:=by
 unfold CL;rw[nW h]
def pL{t:TypeId}(h:GQ P t=O)(m n:Int):fo P t (.lit (.int .i64 m)) (.lit (.int .i64 n))=Q (Z (m=n)):=by
 unfold fo;rw[nW h];simp
def HF{n:Nat}{xs ys:aa AV}{ms ns:aa Int}(hx:xs=ms.map λm=> .lit (.int .i64 m))(hy:ys=ns.map λm=> .lit (.int .i64 m))(hm:yz ms=n)(hn:yz ns=n):∀(fs:aa Field) (i:Nat),RL P n fs i=O->i<=n->qR P xs ys fs=Q (Z (ms.drop i=ns.drop i))
 |[],i,h,hi=>by
  have:=dX h;subst this;simp[qR,xM,hm,hn]
 |f::fs,i,h,hi=>by
  unfold RL at h;simp only[zj]at h;obtain⟨⟨⟨h1,h2⟩,h3⟩,h4⟩:=h;have h3:=dX h3;have hlt:i<n:=by
   cases fs with
   |nil=>have:=dX h4;omega
   |cons g fs=>
    rcases Nat.lt_or_ge i n with h|h
    ·exact h
    ·exfalso;have key:∀(fs:aa Field) (j:Nat),n<j->RL P n fs j=V:=λfs=>by
      induction fs with
      |nil=>
       intro j hj;cases hb:RL P n [] j with
       |false=>rfl
       |true=>have:=dX hb;omega
      |cons g fs ih=>intro j hj;unfold RL;rw[ih (j+1) (by omega),Bool.and_false]
     rw[key (g::fs) (i+1) (by omega)]at h4;cases h4
  have ih:=HF hx hy hm hn fs (i+1) h4 (by omega);unfold qR;rw[h1,Hh h2,h3,hx,hy,zN,zN,zm (by omega),zm (by omega)];simp only[Bool.and_self,zX,pL h2,Option.bind_some];rw[<-hx,<-hy,ih];have e1:ms.drop i=ms[i]'(by omega)::ms.drop (i+1):=y7 _;have e2:ns.drop i=ns[i]'(by omega)::ns.drop (i+1):=y7 _;have e3:(ms[i]'(by omega)=ns[i]'(by omega)/\ms.drop (i+1)=ns.drop (i+1))↔ms.drop i=ns.drop i:=by rw[e1,e2,List.cons.injEq]
  simp only[zX];rw[<-Bool.decide_and,decide_eq_decide.2 e3]
def GC{e:TypeId}(he:GQ P e=O){xs ys:aa AV}{ms ns:aa Int}(hx:xs=ms.map λm=> .lit (.int .i64 m))(hy:ys=ns.map λm=> .lit (.int .i64 m)):∀(n i:Nat),yz ms=i+n->yz ns=i+n->En P e xs ys n i=Q (Z (ms.drop i=ns.drop i))
 |0,i,hm,hn=>by simp[En,xM,hm,hn]
 |n+1,i,hm,hn=>by
  have ih:=GC he hx hy n (i+1) (by omega) (by omega);unfold En;rw[hx,hy,zN,zN,zm (by omega),zm (by omega)];simp only[zX,pL he,Option.bind_some];rw[<-hx,<-hy,ih];have e1:ms.drop i=ms[i]'(by omega)::ms.drop (i+1):=y7 _;have e2:ns.drop i=ns[i]'(by omega)::ns.drop (i+1):=y7 _;have e3:(ms[i]'(by omega)=ns[i]'(by omega)/\ms.drop (i+1)=ns.drop (i+1))↔ms.drop i=ns.drop i:=by rw[e1,e2,List.cons.injEq]
  simp only[zX];rw[<-Bool.decide_and,decide_eq_decide.2 e3]
def OR{t:TypeId}{n:Nat}(h:PG P t n=O){ms ns:aa Int}(hm:yz ms=n)(hn:yz ns=n):dB P t (.agg (ms.map λm=> .lit (.int .i64 m))) (.agg (ns.map λm=> .lit (.int .i64 m)))=Q (Z (ms=ns)):=by
 unfold PG at h;unfold dB;split at h
 ·rename_i fs ht;rw[zj,Bool.not_eq_true']at h;rw[ht];dsimp only;rw[h.1];exact HF rfl rfl hm hn fs.toList 0 h.2 (yy _)
 ·rename_i m e ht;simp only[zj]at h;have hmn:=dX h.1.1;subst hmn;rw[ht];dsimp only;rw[Hh h.1.2,h.2];exact GC h.1.2 rfl rfl m 0 (by omega) (by omega)
 ·cases h
def sI{t:TypeId}{k:KK}(h:kkB P t k=O)(x y:k.T):dB P t (k.enc x) (k.enc y)=Q (Z (x=y)):=by
 cases k with
 |k1=>
  unfold dB;rw[nW h];exact pL h x y
 |k2=>
  have:=OR (t:=t) (n:=2) h (ms:=[x.1,x.2]) (ns:=[y.1,y.2]) rfl rfl;refine this.trans (congrArg Q ?_);obtain⟨a,b⟩:=x;obtain⟨c,d⟩:=y;simp
 |k3=>
  have:=OR (t:=t) (n:=3) h (ms:=[x.1,x.2.1,x.2.2]) (ns:=[y.1,y.2.1,y.2.2]) rfl rfl;refine this.trans (congrArg Q ?_);obtain⟨a,b,c⟩:=x;obtain⟨d,e,f⟩:=y;simp
def NY{n m:Nat}(hm:n<=m):∀(fs:aa Field) (i:Nat),RL P n fs i=O->i<=n->(fs.all λf=>rQ P f.type&&zD f.offset m)=O
 |[],i,h,hi=>rfl
 |f::fs,i,h,hi=>by
  unfold RL at h;simp only[zj]at h;obtain⟨⟨⟨h1,h2⟩,h3⟩,h4⟩:=h;have h3:=dX h3;have hlt:i<n:=by
   rcases Nat.lt_or_ge i n with h|h
   ·exact h
   ·exfalso;have key:∀(fs:aa Field) (j:Nat),n<j->RL P n fs j=V:=λfs=>by
     induction fs with
     |nil=>
      intro j hj;cases hb:RL P n [] j with
      |false=>rfl
      |true=>have:=dX hb;omega
     |cons g fs ih=>intro j hj;unfold RL;rw[ih (j+1) (by omega),Bool.and_false]
    rw[key fs (i+1) (by omega)]at h4;cases h4
  rw[xL,NY hm fs (i+1) h4 (by omega),Bool.and_true,zj];exact⟨by unfold rQ;rw[nW h2],by rw[y9];omega⟩
def Xf{t:TypeId}{n:Nat}(h:PG P t n=O){cs:aa AV}(hc:yz cs=n):sP P t (.agg cs)=O:=by
 unfold PG at h;unfold sP;split at h
 ·rename_i fs ht;rw[zj]at h;rw[ht];exact NY (by omega) fs.toList 0 h.2 (yy _)
 ·rename_i m e ht;simp only[zj]at h;have:=dX h.1.1;rw[ht];dsimp only;rw[h.2,show rQ P e=O by unfold rQ;rw[nW h.1.2],show z8 m cs.length=O by rw[Nat.ble_eq];omega];rfl
 ·cases h
def Gq{t:TypeId}{k:KK}(h:kkB P t k=O)(x:k.T):sP P t (k.enc x)=O:=by
 cases k with
 |k1=>unfold sP;rw[nW h]
 |k2=>exact Xf (n:=2) h rfl
 |k3=>exact Xf (n:=3) h rfl
def Ol(k:KK)(x:k.T):lF (k.enc x)=true:=by cases k<;>rfl
def wV(e:VK)(x:e.T):lF (e.enc x)=true:=by cases e<;>rfl
def KK.val:(k:KK)->k.T->Value
 | .k1,x=> .int .i64 x
 | .k2,x=> .agg #[.int .i64 x.1, .int .i64 x.2]
 | .k3,x=> .agg #[.int .i64 x.1, .int .i64 x.2.1, .int .i64 x.2.2]
def NS{A:Nat->Prop}{w:World}{k:KK}{x:k.T}{u:Value}(h:Rel A w (k.enc x) u):u=k.val x:=by
 cases k with
 |k1=>exact h.bI
 |k2=>
  obtain⟨us,rfl,h1,h2⟩:=h.fG
  match us,h1 with
  |[a,b],_=>
   have e1:=(h2 0 _ a rfl rfl).bI;have e2:=(h2 1 _ b rfl rfl).bI;rw[e1,e2];rfl
 |k3=>
  obtain⟨us,rfl,h1,h2⟩:=h.fG
  match us,h1 with
  |[a,b,c],_=>
   have e1:=(h2 0 _ a rfl rfl).bI;have e2:=(h2 1 _ b rfl rfl).bI;have e3:=(h2 2 _ c rfl rfl).bI;rw[e1,e2,e3];rfl
def Uv(k:KK)(x:k.T):Instr.sameBits 10000 (k.val x) (k.val x)=O:=by
 cases k<;>simp[KK.val,Instr.sameBits]
def CV{K ze:Type}[DecidableEq K]{l:aa (K×ze)}(hl:l.Pairwise λa b=>a.1≠b.1)(x:K):(∃v l1 l2,dA l x=Q v/\l=l1++(x,v)::l2/\(∀p∈l1++l2,x≠p.1)/\fQ l x=λv'=>(x,v')::(l1++l2))\/(dA l x=J/\(∀p∈l,x≠p.1)/\fQ l x=λv'=>(x,v')::l):=by
 cases h:l.find? λp=>Z (x=p.1)with
 |none=>
  right;have h0:∀p∈l,x≠p.1:=λp hp e=>by
   have:=List.find?_eq_none.1 h p hp;simp[e]at this
  refine⟨by unfold dA;rw[h];rfl,h0,?_⟩
  funext v'
  unfold fQ;rw[xZ.2 λp hp=>by simp[h0 p hp]]
 |some p=>
  left;obtain⟨hp,l1,l2,rfl,h1⟩:=List.find?_eq_some_iff_append.1 h;have hx:x=p.1:=by simpa using hp
  obtain⟨y,v⟩:=p;simp only at hx;subst hx;have h2:∀p∈l1++l2,x≠p.1:=λp hp=>by
   rcases zV.1 hp with hp|hp
   ·have:=h1 p hp;simpa using this
   ·have:=(wI.1 hl).2.1;exact(wu.1 this).1 p hp
  refine⟨v,l1,l2,by unfold dA;rw[h];rfl,rfl,h2,?_⟩
  funext v'
  unfold fQ;have e1:(l1.filter λp=> !Z (x=p.1))=l1:=xZ.2 λp hp=>by simp[h2 p (zZ _ hp)]
  have e2:(l2.filter λp=> !Z (x=p.1))=l2:=xZ.2 λp hp=>by simp[h2 p (yh _ hp)]
  rw[yj,xN,e1,e2];simp
def ahf{k:KK}{e:VK}{l:aa (k.T×e.T)}{fs:aa (AV×AV)}(hp:List.Perm fs (l.map (kG k e)))(hq:fs.Pairwise (λa b=>a.1≠b.1)):l.Pairwise λa b=>a.1≠b.1:=by
 have h1:=(hp.pairwise_iff (λ{a b} h e=>h e.symm)).1 hq;exact(List.pairwise_map.1 h1).imp λh e=>h (by unfold kG;rw[e])
def aoq(P:Program)(k:KK)(e:VK)(l:aa (k.T×e.T))(T:TypeId)(y:af AV)(ok:Bool)(K:AV->af α):af α:=match P.underlying T,y with
 |some (.map kt et),Q kd=>match kkB P kt k&&vkB P et e,k.rk kd with
  |true,Q x=>K (YI ok (e.enc ((dA l x).getD e.zero)) (dA l x).isSome)
  |_,_=>J
 |_,_=>J
def Ma(P:Program)(rd:Nat->af IR)(T:TypeId)(x y:af AV)(ok:Bool)(K:AV->af α):af α:=match x with
 |some (.own id)=>match rd id with
  |some (.md k e l)=>aoq P k e l T y ok K
  |_=>L8 P rd T x y ok K
 |_=>L8 P rd T x y ok K
def Un{t:TypeId}{e:VK}(h:vkB P t e=O):∃zv,(P.info? t).bind (·.zero)=Q zv/\e.enc e.zero= .lit zv:=by
 cases e with
 |i=>
  unfold vkB at h;dsimp only at h;split at h
  ·rename_i z hz;have h:=of_decide_eq_true h;subst h;exact⟨_,hz,rfl⟩
  ·cases h
 |b=>
  unfold vkB at h;dsimp only at h;split at h
  ·rename_i z hz;rw[Bool.not_eq_true']at h;subst h;exact⟨_,hz,rfl⟩
  ·cases h
def afI{T:TypeId}{ok:Bool}{K:AV->af α}(hs:gC ev rd nx E R)(ho:o.op= .lookup T x y ok)(h:Ma P rd T (ev x) (ev y) ok K=Q r):∃d,K d=Q r/\Pu P o E R nx d:=by
 unfold Ma at h;split at h
 ·rename_i id hx;split at h
  ·rename_i k e l hr;unfold aoq at h;split at h
   case h_2=>cases h
   rename_i kt et kd hT hy;split at h
   case h_2=>cases h
   rename_i kx hb hk;rw[zj]at hb;have hk:=KK.Yg hk;subst hk;obtain⟨zv,hz,hze⟩:=Un hb.2;refine⟨_,h,LY (iY (wV _ _)) (GY (wV _ _) _) λρ=> ?_⟩;obtain⟨i,h1,_⟩:=cU (hs.r _ _ hr);have hi:(aM.res ρ R)[i]? =Q (.mp (ρ.v id) (l.map (kG k e))):=eu (ρ:=ρ) h1;refine Kw hs ho hT hx hy hz (Gq hb.1 kx) (Ol k kx) hi _ _ λA w u fs ar hu hp hq hE=> ?_;rcases CV (ahf hp hq) kx with ⟨v,l1,l2,e1,rfl,e2,_⟩|⟨e1,e2,_⟩
   ·rw[e1];rw[zK,zO]at hp;obtain⟨fs1,fs2,m,rfl,p0,p1,p2⟩:=Fd.aem hu hp hE (by show dB P kt (k.enc kx) (k.enc kx)=_;rw[sI hb.1];simp) (λe' he=>by
     rw[<-zK]at he;obtain⟨p,hp,rfl⟩:=zy.1 he;show dB P kt (k.enc kx) (k.enc p.1)=_;rw[sI hb.1];simp[e2 p hp])
    exact⟨m.val,_,(hE.2 (yz fs1) (kG k e (kx,v)) m (by simp) p1).2,p2,rfl,rfl⟩
   ·rw[e1];refine⟨zv,J,by show Rel A w (e.enc e.zero) zv;rw[hze];exact .lit _,Fd.nY hu hE λe' he=> ?_,rfl,rfl⟩;obtain⟨p,hp',rfl⟩:=zy.1 (hp.mem_iff.1 he);show dB P kt (k.enc kx) (k.enc p.1)=_;rw[sI hb.1];simp[e2 p hp']
  ·exact NN hs ho h
 ·exact NN hs ho h
def Yv.aym{C:Cx}{σ:aa bH}{T:TypeId}(ho:o.op= .makeMap T J):Yv P E σ o C [] (λa σ'=>∃v,a= .lit v/\σ'= .mp v []::σ):=λw ρ hg _=>by
 refine⟨_,w.alloc (.map #[] 0),_,_,⟨.map (some w.heap.size),rfl,rfl⟩,jA hg (gv w _) (.inr rfl) (Lj (heap_alloc_new w _) (.refl _) .nil ⟨rfl,λi e m h=>by cases h⟩),?_, .lit _⟩;simp[execOp,ho,Instr.makeMap]
def Yv.ak9{C:Cx}{σ:aa bH}{T kt et:TypeId}{k:IntKind}{n:Int}(ho:o.op= .makeMap T (Q x))(hT:P.underlying T=Q (.map kt et))(hx:E.ev x=Q (.n k n)):Yv P E σ o C [] (λa σ'=>∃v,a= .lit v/\σ'= .mp v []::σ):=λw ρ hg hρ=>by
 have hx':=(hρ _ _ hx).bI;refine⟨_,w.alloc (.map #[] 0),_,_,⟨.map (some w.heap.size),rfl,rfl⟩,jA hg (gv w _) (.inr rfl) (Lj (heap_alloc_new w _) (.refl _) .nil ⟨rfl,λi e m h=>by cases h⟩),?_, .lit _⟩;simp[execOp,ho,Instr.makeMap,run_underlying hT,hx',asInt,asIntOf]
def Mc(P:Program)(nx:Nat)(T:TypeId)(x:af (af AV))(K:ei->af α):af α:=match x with
 |none=>K (.new (.own nx) (.mp []))
 |some (Q (.lit (.int _ _)))=>match P.underlying T with
  |some (.map _ _)=>K (.new (.own nx) (.mp []))
  |_=>J
 |_=>J
variable {K:ei->af α}
def ah8(hs:gC ev rd nx E R){es:aa (AV×AV)}{ρ:Gh}{σ':aa bH}{a:AV}(hK:K (.new (.own nx) (.mp es))=Q r)(h:∃v,a= .lit v/\σ'= .mp v es::aM.res ρ R):Nx R nx K r ρ (Q a) σ':=by
 obtain⟨v,ha,hσ⟩:=h;refine Ns hs (ρ':=ρ.eC nx v) hK (.own _ (z7 _)) trivial (.eC ρ nx v) ?_ ?_
 ·rw[ha,cD];simp[Gh.eC]
 ·rw[hσ];simp[IR.res,Gh.eC]
def aeJ{T:TypeId}{rv:af Operand}(hs:gC ev rd nx E R)(ho:o.op= .makeMap T rv)(h:Mc P nx T (rv.map ev) K=Q r):Kt P o E R nx K r:=λρ C=>by
 unfold Mc at h;cases rv with
 |none=>exact .Ws (.aym ho) (by simp) λa σ' hN=>ah8 hs h hN
 |some x=>
  simp only[zX]at h;split at h
  ·rename_i h0;cases h0
  ·rename_i k n h0;split at h
   ·rename_i kt et hT;simp only[zG.injEq]at h0;have ex:=hs.eF h0 ρ;rw[bF]at ex;exact .Ws (.ak9 ho hT ex) (by simp) λa σ' hN=>ah8 hs h hN
   ·cases h
  ·cases h
def KT(P:Program)(rd:Nat->af IR)(T:TypeId)(m k v:af AV)(K:ei->af α):af α:=match P.underlying T,m,k,v with
 |some (.map kt _),Q (.own id),Q kd,Q vd=>match rd id,sP P kt kd&&lF kd&&lF vd with
  |some (.mp es),O=>lkE P kt kd (λj _=>match rQ P kt with
   |true=>K (.set id (.mp (es.set j (kd,vd))))
   |false=>J) (K (.set id (.mp (es++[(kd,vd)])))) es 0
  |_,_=>J
 |_,_,_,_=>J
def QJ{w:World}{b:Nat}(ob:Obj):Kp [b] w {w with heap:=w.heap.setIfInBounds b ob}:=⟨rfl,rfl,rfl,by simp,λk _ hk=>by
 have:b≠k:=λe=>hk (by simp[e]);simp[this]⟩
def Mu{T kt et id:Nat}{kd vd:AV}{es:aa (AV×AV)}(hs:gC ev rd nx E R)(ho:o.op= .mapUpdate T x y z\/o.op= .insert T x y z)(hT:P.underlying T=Q (.map kt et))(hx:ev x=Q (.own id))(hy:ev y=Q kd)(hz:ev z=Q vd){r0:IR}(hr:rd id=Q r0)(hc2:lF kd=O)(hc3:lF vd=O)(ρ:Gh)(C:Cx)
  (r1:IR) (es':aa (AV×AV)) (g0:r0.res ρ id= .mp (ρ.v id) es) (g1:r1.res ρ id= .mp (ρ.v id) es') (gl:r1.ct nx) (hK:K (.set id r1)=Q r) (hf:∀(w:World) (j:Operand->Value) (b cl:Nat) (ar:Array MapEntry) (fs:aa (AV×AV)),List.Perm fs es->fs.Pairwise (λa b=>a.1≠b.1)->w.heap[b]? =Q (.map ar cl)->(∃A w1,Rel A w1 kd (j y))->(∃A,RN A w fs ar.toList)->∃ar' cl' fs',List.Perm fs' es'/\fs'.Pairwise (λa b=>a.1≠b.1)/\(Instr.mapUpdate T (.map (Q b)) (j y) (j z)).run P w= .ok () {w with heap:=w.heap.setIfInBounds b (.map ar' cl')}/\
   ∀(A:Nat->Prop) (w':World),RN A w' fs ar.toList->Rel A w' kd (j y)->Rel A w' vd (j z)->RN A w' fs' ar'.toList):Ye P (E.sub ρ) (aM.res ρ R) o C (Nx R nx K r ρ):=by
 have ex:=hs.eF hx ρ;have ey:=hs.eF hy ρ;have ez:=hs.eF hz ρ;rw[cD]at ex;rw[iY hc2]at ey;rw[iY hc3]at ez;obtain⟨i,hi1,hi2,_⟩:=cU (hs.r _ _ hr);have hres:(aM.res ρ R)[i]? =Q (.mp (ρ.v id) es):=by rw[<-g0];exact eu (ρ:=ρ) hi1
 refine .ofU (X:=(bH.blk (.mp (ρ.v id) es)).toList) (σ':=(aM.res ρ R).set i (.mp (ρ.v id) es')) (λw j hg hρ=> ?_) (λb hb=> ?_) ⟨_,hK,zA _,jV (hs.r _ _ hr) hs.lr gl,λd' hd=>(by cases hd),ρ, .refl _ _,rfl,?_⟩
 ·obtain⟨b,ar,cl,fs,q1,q2,qp,qw,q3⟩:=Sj (hg.res _ (List.mem_of_getElem? hres));have hx':=(hρ _ _ ex).bI;obtain⟨ar',cl',fs',hp',hw',h1,h2⟩:=hf w j b cl ar fs qp qw q2 ⟨_,_,hρ _ _ ey⟩ ⟨_,q3⟩;have hb':=(MapKept.heap_set (o':= .map ar' cl') q2).1;rw[q1]at hres ⊢;have hbk:=qJ (r':=bH.mp (.map (Q b)) es') hres rfl;have hal:∀k,k<w.heap.size->al C (aM.res ρ R) k->al C ((aM.res ρ R).set i (.mp (.map (Q b)) es')) k/\({w with heap:=w.heap.setIfInBounds b (.map ar' cl')}:World).heap[k]? =w.heap[k]? :=λk _ hA=>
   ⟨⟨hA.1,by rw[hbk];exact hA.2⟩,(MapKept.heap_set q2).2 k λe=>hA.2 (bw.2 ⟨_,List.mem_of_getElem? hres,by rw[e];rfl⟩)⟩
  refine⟨_,oA hg hres (QJ (.map ar' cl')) (.inl rfl) (Lj hb' hp' hw' (h2 _ _ ⟨q3.1,λi e m p1 p2=>⟨(q3.2 i e m p1 p2).1.mono hal,(q3.2 i e m p1 p2).2.mono hal⟩⟩ ((hρ _ _ ey).mono hal) ((hρ _ _ ez).mono hal))),?_⟩;rcases ho with ho|ho<;>simp[execOp,ho,hx',q1,h1]
 ·obtain⟨g,hg⟩:∃g,U3 (ρ.v id)=Q g:=by
   cases hb':U3 (ρ.v id)with
   |none=>rw[show bH.blk (.mp (ρ.v id) es)=U3 (ρ.v id)from rfl,hb']at hb;simp at hb
   |some g=>exact⟨g,rfl⟩
  rw[show bH.blk (.mp (ρ.v id) es)=U3 (ρ.v id)from rfl,hg]at hb;simp only[xu,zC]at hb;exact bw.2 ⟨_,List.mem_of_getElem? hres,by rw[hb];exact hg⟩
 ·show List.Perm _ (aM.res ρ (mY id _ R));rw[hi2,nO,g1]
def Vl{fs:aa (AV×AV)}{kd vd:AV}(h:fs.Pairwise (λa b=>a.1≠b.1))(hk:∀e∈fs,kd≠e.1):(fs++[(kd,vd)]).Pairwise (λa b=>a.1≠b.1):=
 wI.2 ⟨h,List.pairwise_singleton _ _,λa ha b hb=>by rw[zC.1 hb];exact λe=>hk a ha e.symm⟩
def Um{fs1 fs2:aa (AV×AV)}{e:AV×AV}{kd vd:AV}(h:(fs1++e::fs2).Pairwise (λa b=>a.1≠b.1))(hk:kd=e.1):(fs1++(kd,vd)::fs2).Pairwise (λa b=>a.1≠b.1):=by
 subst hk;obtain⟨h1,h2,h3⟩:=wI.1 h;obtain⟨h4,h5⟩:=wu.1 h2;refine wI.2 ⟨h1,wu.2 ⟨h4,h5⟩,λa ha b hb=> ?_⟩;rcases zu.1 hb with rfl|hb
 ·exact h3 a ha e zq
 ·exact h3 a ha b (zH _ hb)
def Vi{T kt et id:Nat}{kd vd:AV}{es es':aa (AV×AV)}(hs:gC ev rd nx E R)(ho:o.op= .mapUpdate T x y z\/o.op= .insert T x y z)(hT:P.underlying T=Q (.map kt et))(hx:ev x=Q (.own id))(hy:ev y=Q kd)(hz:ev z=Q vd)(hr:rd id=Q (.mp es))(hc1:sP P kt kd=O)(hc2:lF kd=O)(hc3:lF vd=O)
  (h2:∀e∈es,dB P kt kd e.1=Q V) (hpe:List.Perm (es++[(kd,vd)]) es') (h1:K (.set id (.mp es'))=Q r) (ρ:Gh) (C:Cx):Ye P (E.sub ρ) (aM.res ρ R) o C (Nx R nx K r ρ):=
 Mu hs ho hT hx hy hz hr hc2 hc3 ρ C (.mp es') es' rfl rfl trivial h1 λw j b cl ar fs hp hq hb ⟨A,w1,hu⟩ ⟨A2,hE⟩=>by
  have p2:=Fd.nY (i:=0) hu hE λe he=>h2 e (hp.mem_iff.1 he);refine⟨ar.push {key:=j y,val:=j z,born:=cl},cl+1,fs++[(kd,vd)],(hp.append_right _).trans hpe,Vl hq (λe he=>Hj (h2 e (hp.mem_iff.1 he))),?_,λA w' q1 q2 q3=>⟨by simp[<-q1.1],λi' e' m' g1 g2=> ?_⟩⟩
  ·simp[Instr.mapUpdate,run_underlying hT,MapKept.run_getObj_map hb,l7 hc1 hu V,p2.key hc1,MapKept.run_setObj_map _ hb]
  ·rw[Array.toList_push]at g2;rw[yB]at g1 g2;rw[q1.1]at g2;split at g1
   ·rename_i hlt;rw[bS hlt]at g2;exact q1.2 i' e' m' g1 g2
   ·rename_i hlt;rw[bT hlt]at g2;generalize i'-fs.length=n at g1 g2;cases n with
    |zero=>cases g1;cases g2;exact⟨q2,q3⟩
    |succ n=>cases g1
def Nf{T:TypeId}(hs:gC ev rd nx E R)(ho:o.op= .mapUpdate T x y z\/o.op= .insert T x y z)(h:KT P rd T (ev x) (ev y) (ev z) K=Q r):Kt P o E R nx K r:=λρ C=>by
 unfold KT at h;split at h
 case h_2=>cases h
 rename_i kt et id kd vd hT hx hy hz;split at h
 case h_2=>cases h
 rename_i es hr hc;simp only[zj]at hc;obtain⟨⟨hc1,hc2⟩,hc3⟩:=hc;rcases sF h with ⟨e,es1,es2,rfl,h2,h3,h4⟩|⟨h1,h2⟩
 ·split at h2
  case h_2=>cases h2
  rename_i hib;rw[ya,List.set_append_right _ _ (zA _),xy,List.set_cons_zero]at h2;refine Mu hs ho hT hx hy hz hr hc2 hc3 ρ C (.mp (es1++(kd,vd)::es2)) (es1++(kd,vd)::es2) rfl rfl trivial h2 λw j b cl ar fs hp hq hb ⟨A,w1,hu⟩ ⟨A2,hE⟩=> ?_;obtain⟨fs1,fs2,m,rfl,p0,p1,p2⟩:=Fd.aem hu hp hE h3 h4;have hkd:kd=e.1:=by
   unfold rQ at hib;split at hib
   ·rename_i k0 hK;have h0:fo P kt kd e.1=Q O:=by
     unfold dB at h3;rw[hK]at h3;exact h3
    obtain⟨kk,a,c,e1,e2,e3⟩:=lB hK h0;rw[e1,e2,eq_of_beq e3.symm]
   ·cases hib
  have hm:m.key=j y:=by
   have hk:=(hE.2 (yz fs1) e m (by simp) p1).1;unfold rQ at hib;split at hib
   ·rename_i k0 hK;have h0:fo P kt kd e.1=Q O:=by
     unfold dB at h3;rw[hK]at h3;exact h3
    obtain⟨kk,a,c,e1,e2,e3⟩:=lB hK h0;rw[e1]at hu;rw[e2]at hk;rw[hu.bI,hk.bI];have:=eq_of_beq e3.symm;rw[this]
   ·cases hib
  have hj:ar[yz fs1]? =Q m:=by simpa using p1
  refine⟨ar.modify (yz fs1) λe=>{e with key:=j y,val:=j z},cl,fs1++(kd,vd)::fs2,xX.trans ((p0.cons _).trans xX.symm),Um hq hkd,?_,λA w' q1 q2 q3=>⟨by simpa using q1.1,λi' e' m' g1 g2=> ?_⟩⟩
  ·have hkt:(Instr.keyThatStays (j y) (j y)).run P w= .ok (j y) w:=by
    unfold rQ at hib;split at hib
    ·rename_i k0 hK;have h0:fo P kt kd e.1=Q O:=by
      unfold dB at h3;rw[hK]at h3;exact h3
     obtain⟨kk,a,c,e1,e2,e3⟩:=lB hK h0;rw[e1]at hu;rw[hu.bI];simp[Instr.keyThatStays,Instr.sameBits]
    ·cases hib
   simp[Instr.mapUpdate,run_underlying hT,MapKept.run_getObj_map hb,l7 hc1 hu V,p2.key hc1,hj,hm,hkt,MapKept.run_setObj_map _ hb]
  ·rw[xb,xz]at g2;by_cases hji:yz fs1=i'
   ·subst hji;rw[bS rfl,hj]at g2;rw[xO (zA _),xy]at g1;cases g1;cases g2;exact⟨q2,q3⟩
   ·rw[bT hji]at g2;refine q1.2 i' e' m' ?_ (by simpa using g2);rw[yB]at g1 ⊢;split
    ·rename_i hlt;rwa [bS hlt]at g1
    ·rename_i hlt;rw[bT hlt]at g1;obtain⟨n,hn⟩:∃n,i'-fs1.length=n+1:=⟨i'-fs1.length-1,by omega⟩;rw[hn]at g1 ⊢;exact g1
 ·exact Vi hs ho hT hx hy hz hr hc1 hc2 hc3 h2 (.refl _) h1 ρ C
def anS(P:Program)(id:Nat)(k:KK)(e:VK)(l:aa (k.T×e.T))(T:TypeId)(y z:af AV)(K:ei->af α):af α:=match P.underlying T,y,z with
 |some (.map kt _),Q kd,Q vd=>match kkB P kt k,k.rk kd,e.rv vd with
  |true,Q x,Q v=>K (.set id (.md k e (fQ l x v)))
  |_,_,_=>J
 |_,_,_=>J
def Jg(P:Program)(rd:Nat->af IR)(T:TypeId)(m k v:af AV)(K:ei->af α):af α:=match m with
 |some (.own id)=>match rd id with
  |some (.md k' e l)=>anS P id k' e l T k v K
  |_=>KT P rd T m k v K
 |_=>KT P rd T m k v K
def NZ{T:TypeId}(hs:gC ev rd nx E R)(ho:o.op= .mapUpdate T x y z\/o.op= .insert T x y z)(h:Jg P rd T (ev x) (ev y) (ev z) K=Q r):Kt P o E R nx K r:=λρ C=>by
 unfold Jg at h;split at h
 ·rename_i id hx;split at h
  ·rename_i k e l hr;unfold anS at h;split at h
   case h_2=>cases h
   rename_i kt et kd vd hT hy hz;split at h
   case h_2=>cases h
   rename_i kx v hb hk hv;have hk:=KK.Yg hk;have hv:=VK.aia hv;subst hk hv;refine Mu hs ho hT hx hy hz hr (Ol k kx) (wV e v) ρ C (.md k e (fQ l kx v)) ((fQ l kx v).map (kG k e)) rfl rfl trivial h λw j b cl ar fs hp hq hb' ⟨A,w1,hu⟩ ⟨A2,hE⟩=> ?_;have hyv:=NS hu;rcases CV (ahf hp hq) kx with ⟨v0,l1,l2,e1,rfl,e2,e3⟩|⟨e1,e2,e3⟩
   ·rw[e3];rw[zK,zO]at hp;obtain⟨fs1,fs2,m,rfl,p0,p1,p2⟩:=Fd.aem hu hp hE (by show dB P kt (k.enc kx) (k.enc kx)=_;rw[sI hb];simp) (λe' he=>by
     rw[<-zK]at he;obtain⟨p,hp,rfl⟩:=zy.1 he;show dB P kt (k.enc kx) (k.enc p.1)=_;rw[sI hb];simp[e2 p hp])
    have hm:m.key=j y:=by
     rw[hyv];exact NS (hE.2 (yz fs1) (kG k e (kx,v0)) m (by simp) p1).1
    have hj:ar[yz fs1]? =Q m:=by simpa using p1
    refine⟨ar.modify (yz fs1) λe=>{e with key:=j y,val:=j z},cl,fs1++(k.enc kx,e.enc v)::fs2,?_,Um hq rfl,?_,λA w' q1 q2 q3=>⟨by simpa using q1.1,λi' e' m' g1 g2=> ?_⟩⟩
    ·rw[zO,zK];exact xX.trans (p0.cons _)
    ·have hkt:(Instr.keyThatStays (j y) (j y)).run P w= .ok (j y) w:=by
      rw[hyv];simp[Instr.keyThatStays,Uv]
     simp[Instr.mapUpdate,run_underlying hT,MapKept.run_getObj_map hb',l7 (Gq hb kx) hu V,p2.key (Gq hb kx),hj,hm,hkt,MapKept.run_setObj_map _ hb']
    ·rw[xb,xz]at g2;by_cases hji:yz fs1=i'
     ·subst hji;rw[bS rfl,hj]at g2;rw[xO (zA _),xy]at g1;cases g1;cases g2;exact⟨q2,q3⟩
     ·rw[bT hji]at g2;refine q1.2 i' e' m' ?_ (by simpa using g2);rw[yB]at g1 ⊢;split
      ·rename_i hlt;rwa [bS hlt]at g1
      ·rename_i hlt;rw[bT hlt]at g1;obtain⟨n,hn⟩:∃n,i'-fs1.length=n+1:=⟨i'-fs1.length-1,by omega⟩;rw[hn]at g1 ⊢;exact g1
   ·rw[e3];have hne:∀e'∈fs,dB P kt (k.enc kx) e'.1=Q V:=λe' he=>by
     obtain⟨p,hp',rfl⟩:=zy.1 (hp.mem_iff.1 he);show dB P kt (k.enc kx) (k.enc p.1)=_;rw[sI hb];simp[e2 p hp']
    have p2:=Fd.nY (i:=0) hu hE hne;refine⟨ar.push {key:=j y,val:=j z,born:=cl},cl+1,fs++[(k.enc kx,e.enc v)],?_,Vl hq (λe' he=>Hj (hne e' he)),?_,λA w' q1 q2 q3=>⟨by simp[<-q1.1],λi' e' m' g1 g2=> ?_⟩⟩
    ·rw[zO];exact wJ.trans (hp.cons _)
    ·simp[Instr.mapUpdate,run_underlying hT,MapKept.run_getObj_map hb',l7 (Gq hb kx) hu V,p2.key (Gq hb kx),MapKept.run_setObj_map _ hb']
    ·rw[Array.toList_push]at g2;rw[yB]at g1 g2;rw[q1.1]at g2;split at g1
     ·rename_i hlt;rw[bS hlt]at g2;exact q1.2 i' e' m' g1 g2
     ·rename_i hlt;rw[bT hlt]at g2;generalize i'-fs.length=n at g1 g2;cases n with
      |zero=>cases g1;cases g2;exact⟨q2,q3⟩
      |succ n=>cases g1
  ·exact Nf hs ho h ρ C
 ·exact Nf hs ho h ρ C
end
def cV{α:Type}(K:ei->af α)(d:AV):af α:=K (.val d)
def E9{α:Type}(P:Program)(F:aI)(ev:Operand->af AV)(rd:Nat->af IR)(R:aM)(nx:Nat)(o:Op)(K:ei->af α):af α:=match o with
 | .move x=>(ev x).bind (cV K)
 | .assign x=>(ev x).bind (cV K)
 | .pick c a b=>match ev c with
  |some (.lit (.bool O))=>(ev a).bind (cV K)
  |some (.lit (.bool V))=>(ev b).bind (cV K)
  |_=>J
 | .binOp b T x y _=>LC P rd b T (ev x) (ev y) (cV K)
 | .unOp b _ x=>unV b (ev x) (cV K)
 | .convert T T' x=>KY P rd T T' (ev x) (cV K)
 | .nilCheck x=>Lx (ev x) (cV K)
 | .fieldAddr T x i=>Mw P T i (ev x) (cV K)
 | .indexAddr T x y=>LK P rd T (ev x) (ev y) (cV K)
 | .index T x y=>Mb P T (ev x) (ev y) (cV K)
 | .load T x=>ldV P rd T (ev x) (cV K)
 | .store T x y=>LN P rd T (ev x) (ev y) K
 | .makeFunc f fs cs=>LH ev f fs.toList cs.toList (cV K)
 | .extract x i=>KV i (ev x) (cV K)
 | .build T ps=>K6 P ev rd T ps.toList (cV K)
 | .buildSlice T n ps=>Mq P ev rd nx T n ps.toList K
 | .makeSlice T x y=>mkE P nx T (ev x) (ev y) K
 | .alloc T=>Q5 P nx T K
 | .box T x=>Mm rd nx T (ev x) K
 | .slice T x lo hi mx=>match mx with
  |none=>KO P T (ev x) (lo.map ev) (hi.map ev) (cV K)
  |some (.const (.int _ 0))=>match lo,hi with
   |none,Q (.const (.int _ 0))=>emE P nx T (ev x) K
   |_,_=>J
  |_=>J
 | .call {callee:= .builtin .len,args:=as0,argTypes:=ts}=>match as0.toList,ts.toList with
  |[x],[T]=>KW P rd T (ev x) (cV K)
  |_,_=>J
 | .call {callee:= .builtin .max,args:=as0,argTypes:=ts}=>match as0.toList,ts.toList with
  |[x,y],[_,_]=>mnV O [ev x,ev y] (cV K)
  |_,_=>J
 | .call {callee:= .builtin .min,args:=as0,argTypes:=ts}=>match as0.toList,ts.toList with
  |[x,y],[_,_]=>mnV V [ev x,ev y] (cV K)
  |_,_=>J
 | .call {callee:= .builtin .append,args:=as0,argTypes:=ts}=>match as0.toList,ts.toList with
  |[x,y],[T,T']=>Ri P rd nx T T' (ev x) (ev y) K
  |_,_=>J
 | .call {callee:= .builtin .copy,args:=as0,argTypes:=ts}=>match as0.toList,ts.toList with
  |[x,y],[T,_]=>Mx P rd R nx T (ev x) (ev y) K
  |_,_=>J
 | .call {callee:= .value x,args:=as0,argTypes:=_}=>La F ev R nx (ev x) as0.toList K
 | .lookup T x y ok=>Ma P rd T (ev x) (ev y) ok (cV K)
 | .makeMap T x=>Mc P nx T (x.map ev) K
 | .mapUpdate T x y z=>Jg P rd T (ev x) (ev y) (ev z) K
 | .insert T x y z=>Jg P rd T (ev x) (ev y) (ev z) K
 |_=>J
section
variable {α:Type}
def ND(x:Operand)(_:Program)(_:aI)(ev:Operand->af AV)(_:Nat->af IR)(_:aM)(_:Nat)(K:ei->af α):af α:=(ev x).bind (cV K)
def qG(c a b:Operand)(_:Program)(_:aI)(ev:Operand->af AV)(_:Nat->af IR)(_:aM)(_:Nat)(K:ei->af α):af α:=match ev c with
 |some (.lit (.bool O))=>(ev a).bind (cV K)
 |some (.lit (.bool V))=>(ev b).bind (cV K)
 |_=>J
def aji(b:BinOp)(T:TypeId)(x y:Operand)(P:Program)(_:aI)(ev:Operand->af AV)(rd:Nat->af IR)(_:aM)(_:Nat)(K:ei->af α):af α:=LC P rd b T (ev x) (ev y) (cV K)
def avo(b:UnOp)(x:Operand)(_:Program)(_:aI)(ev:Operand->af AV)(_:Nat->af IR)(_:aM)(_:Nat)(K:ei->af α):af α:=unV b (ev x) (cV K)
def ajl(T T':TypeId)(x:Operand)(P:Program)(_:aI)(ev:Operand->af AV)(rd:Nat->af IR)(_:aM)(_:Nat)(K:ei->af α):af α:=KY P rd T T' (ev x) (cV K)
def ag8(x:Operand)(_:Program)(_:aI)(ev:Operand->af AV)(_:Nat->af IR)(_:aM)(_:Nat)(K:ei->af α):af α:=Lx (ev x) (cV K)
def aie(T:TypeId)(x:Operand)(i:Nat)(P:Program)(_:aI)(ev:Operand->af AV)(_:Nat->af IR)(_:aM)(_:Nat)(K:ei->af α):af α:=Mw P T i (ev x) (cV K)
def aiY(T:TypeId)(x y:Operand)(P:Program)(_:aI)(ev:Operand->af AV)(rd:Nat->af IR)(_:aM)(_:Nat)(K:ei->af α):af α:=LK P rd T (ev x) (ev y) (cV K)
def agJ(T:TypeId)(x y:Operand)(P:Program)(_:aI)(ev:Operand->af AV)(_:Nat->af IR)(_:aM)(_:Nat)(K:ei->af α):af α:=Mb P T (ev x) (ev y) (cV K)
def arT(T:TypeId)(x:Operand)(P:Program)(_:aI)(ev:Operand->af AV)(rd:Nat->af IR)(_:aM)(_:Nat)(K:ei->af α):af α:=ldV P rd T (ev x) (cV K)
def af8(T:TypeId)(x y:Operand)(P:Program)(_:aI)(ev:Operand->af AV)(rd:Nat->af IR)(_:aM)(_:Nat)(K:ei->af α):af α:=LN P rd T (ev x) (ev y) K
def ah1(f:Go.Fn)(fs cs:Array Operand)(_:Program)(_:aI)(ev:Operand->af AV)(_:Nat->af IR)(_:aM)(_:Nat)(K:ei->af α):af α:=LH ev f fs.toList cs.toList (cV K)
def aiZ(x:Operand)(i:Nat)(_:Program)(_:aI)(ev:Operand->af AV)(_:Nat->af IR)(_:aM)(_:Nat)(K:ei->af α):af α:=KV i (ev x) (cV K)
def aho(T:TypeId)(ps:Array (Nat×Operand))(P:Program)(_:aI)(ev:Operand->af AV)(rd:Nat->af IR)(_:aM)(_:Nat)(K:ei->af α):af α:=K6 P ev rd T ps.toList (cV K)
def aiu(T:TypeId)(n:Nat)(ps:Array (Nat×Operand))(P:Program)(_:aI)(ev:Operand->af AV)(rd:Nat->af IR)(_:aM)(nx:Nat)(K:ei->af α):af α:=Mq P ev rd nx T n ps.toList K
def aqE(T:TypeId)(x y:Operand)(P:Program)(_:aI)(ev:Operand->af AV)(_:Nat->af IR)(_:aM)(nx:Nat)(K:ei->af α):af α:=mkE P nx T (ev x) (ev y) K
def ahn(T:TypeId)(P:Program)(_:aI)(_:Operand->af AV)(_:Nat->af IR)(_:aM)(nx:Nat)(K:ei->af α):af α:=Q5 P nx T K
def agZ(T:TypeId)(x:Operand)(_:Program)(_:aI)(ev:Operand->af AV)(rd:Nat->af IR)(_:aM)(nx:Nat)(K:ei->af α):af α:=Mm rd nx T (ev x) K
def Ge(T:TypeId)(x:Operand)(lo hi mx:af Operand)(P:Program)(_:aI)(ev:Operand->af AV)(_:Nat->af IR)(_:aM)(nx:Nat)(K:ei->af α):af α:=match mx with
 |none=>KO P T (ev x) (lo.map ev) (hi.map ev) (cV K)
 |some (.const (.int _ 0))=>match lo,hi with
  |none,Q (.const (.int _ 0))=>emE P nx T (ev x) K
  |_,_=>J
 |_=>J
def vo(b:Builtin)(as0:Array Operand)(ts:Array TypeId)(P:Program)(ev:Operand->af AV)(rd:Nat->af IR)(R:aM)(nx:Nat)(K:ei->af α):af α:=match b with
 | .len=>match as0.toList,ts.toList with
  |[x],[T]=>KW P rd T (ev x) (cV K)
  |_,_=>J
 | .max=>match as0.toList,ts.toList with
  |[x,y],[_,_]=>mnV O [ev x,ev y] (cV K)
  |_,_=>J
 | .min=>match as0.toList,ts.toList with
  |[x,y],[_,_]=>mnV V [ev x,ev y] (cV K)
  |_,_=>J
 | .append=>match as0.toList,ts.toList with
  |[x,y],[T,T']=>Ri P rd nx T T' (ev x) (ev y) K
  |_,_=>J
 | .copy=>match as0.toList,ts.toList with
  |[x,y],[T,_]=>Mx P rd R nx T (ev x) (ev y) K
  |_,_=>J
 |_=>J
def Cf(c:Call)(P:Program)(F:aI)(ev:Operand->af AV)(rd:Nat->af IR)(R:aM)(nx:Nat)(K:ei->af α):af α:=match c.callee with
 | .value x=>La F ev R nx (ev x) c.args.toList K
 | .builtin b=>vo b c.args c.argTypes P ev rd R nx K
 |_=>J
def agc(T:TypeId)(x y:Operand)(ok:Bool)(P:Program)(_:aI)(ev:Operand->af AV)(rd:Nat->af IR)(_:aM)(_:Nat)(K:ei->af α):af α:=Ma P rd T (ev x) (ev y) ok (cV K)
def age(T:TypeId)(x:af Operand)(P:Program)(_:aI)(ev:Operand->af AV)(_:Nat->af IR)(_:aM)(nx:Nat)(K:ei->af α):af α:=Mc P nx T (x.map ev) K
def N9(T:TypeId)(x y z:Operand)(P:Program)(_:aI)(ev:Operand->af AV)(rd:Nat->af IR)(_:aM)(_:Nat)(K:ei->af α):af α:=Jg P rd T (ev x) (ev y) (ev z) K
def ath(_:Program)(_:aI)(_:Operand->af AV)(_:Nat->af IR)(_:aM)(_:Nat)(_:ei->af α):af α:=J
def lU(o:Op):Program->aI->(Operand->af AV)->(Nat->af IR)->aM->Nat->(ei->af α)->af α:=match o with
 | .move x=>ND x
 | .assign x=>ND x
 | .pick c a b=>qG c a b
 | .binOp b T x y _=>aji b T x y
 | .unOp b _ x=>avo b x
 | .convert T T' x=>ajl T T' x
 | .nilCheck x=>ag8 x
 | .fieldAddr T x i=>aie T x i
 | .indexAddr T x y=>aiY T x y
 | .index T x y=>agJ T x y
 | .load T x=>arT T x
 | .store T x y=>af8 T x y
 | .makeFunc f fs cs=>ah1 f fs cs
 | .extract x i=>aiZ x i
 | .build T ps=>aho T ps
 | .buildSlice T n ps=>aiu T n ps
 | .makeSlice T x y=>aqE T x y
 | .alloc T=>ahn T
 | .box T x=>agZ T x
 | .slice T x lo hi mx=>Ge T x lo hi mx
 | .call c=>Cf c
 | .lookup T x y ok=>agc T x y ok
 | .makeMap T x=>age T x
 | .mapUpdate T x y z=>N9 T x y z
 | .insert T x y z=>N9 T x y z
 |_=>ath
def Gx(P:Program)(F:aI)(ev:Operand->af AV)(rd:Nat->af IR)(R:aM)(nx:Nat)(o:Op)(K:ei->af α):lU o P F ev rd R nx K=E9 P F ev rd R nx o K:=by
 cases o<;>first|rfl|skip
 case call c=>
  obtain⟨cal,as0,ts⟩:=c;cases cal with
  |builtin b=>cases b<;>rfl
  |_=>rfl
end
section
variable {α:Type} {r:α} {P:Program} {F:aI} {o:Oper} {E:Env} {R:aM} {nx:Nat} {ev:Operand->af AV} {rd:Nat->af IR} {K:ei->af α} {C:Cx} {n:Nat}
def arB{β:Type}{a:Array β}{x:β}(h:a.toList=[x]):a=#[x]:=by rw[<-Array.toArray_toList (xs:=a),h]
def Hi{β:Type}{a:Array β}{x y:β}(h:a.toList=[x,y]):a=#[x,y]:=by rw[<-Array.toArray_toList (xs:=a),h]
def CQ(hF:gu P F)(hs:gC ev rd nx E R){op:Op}(ho:o.op=op)(h:E9 P F ev rd R nx op K=Q r):Kt P o E R nx K r:=by
 unfold E9 at h;split at h
 ·obtain⟨d,hd,h⟩:=zn.1 h;exact .pu hs ⟨d,h,hs.nQ hd,λρ=> .move ho (hs.eF hd ρ)⟩
 ·obtain⟨d,hd,h⟩:=zn.1 h;exact .pu hs ⟨d,h,hs.nQ hd,λρ=> .assign ho (hs.eF hd ρ)⟩
 ·split at h
  ·rename_i hc;obtain⟨d,hd,h⟩:=zn.1 h;exact .pu hs ⟨d,h,hs.nQ hd,λρ=> .auy ho (by have:=hs.eF hc ρ;rw[bF]at this;exact this) (hs.eF hd ρ)⟩
  ·rename_i hc;obtain⟨d,hd,h⟩:=zn.1 h;exact .pu hs ⟨d,h,hs.nQ hd,λρ=> .aqX ho (by have:=hs.eF hc ρ;rw[bF]at this;exact this) (hs.eF hd ρ)⟩
  ·cases h
 ·exact .pu hs (acP hs ho h)
 ·exact .pu hs (alU hs ho h)
 ·exact .pu hs (aeB hs ho h)
 ·exact .pu hs (ZZ hs ho h)
 ·exact .pu hs (Zb hs ho h)
 ·exact .pu hs (afx hs ho h)
 ·exact .pu hs (ZB hs ho h)
 ·exact .pu hs (aoj hs ho h)
 ·exact aac hs ho h
 ·exact .pu hs (ad6 hs ho h)
 ·exact .pu hs (adq hs ho h)
 ·exact .pu hs (acI hs ho h)
 ·exact aex hs ho h
 ·exact ajV hs ho h
 ·exact abW hs ho h
 ·exact afB hs ho h
 ·split at h
  ·exact .pu hs (acN hs ho h)
  ·split at h
   ·exact amB hs ho h
   ·cases h
  ·cases h
 ·split at h
  ·rename_i h1 h2;rw[arB h1,arB h2]at ho;exact .pu hs (adX hs ho h)
  ·cases h
 ·split at h
  ·rename_i h1 h2;rw[Hi h1,Hi h2]at ho;unfold mnV at h;split at h
   ·rename_i q1;split at h
    ·rename_i hk;subst hk;simp only[List.cons.injEq,and_true]at q1;obtain⟨q1,q2⟩:=q1;exact .pu hs ⟨_,h, .lit λρ=> .max ho (by have:=hs.eF q1 ρ;rw[bF]at this;exact this) (by have:=hs.eF q2 ρ;rw[bF]at this;exact this)⟩
    ·cases h
   ·cases h
  ·cases h
 ·split at h
  ·rename_i h1 h2;rw[Hi h1,Hi h2]at ho;unfold mnV at h;split at h
   ·rename_i q1;split at h
    ·rename_i hk;subst hk;simp only[List.cons.injEq,and_true]at q1;obtain⟨q1,q2⟩:=q1;exact .pu hs ⟨_,h, .lit λρ=> .min ho (by have:=hs.eF q1 ρ;rw[bF]at this;exact this) (by have:=hs.eF q2 ρ;rw[bF]at this;exact this)⟩
    ·cases h
   ·cases h
  ·cases h
 ·split at h
  ·rename_i h1 h2;rw[Hi h1,Hi h2]at ho;exact abh hs ho h
  ·cases h
 ·split at h
  ·rename_i h1 h2;rw[Hi h1,Hi h2]at ho;exact afq hs ho h
  ·cases h
 ·exact aeT hF hs ho h
 ·exact .pu hs (afI hs ho h)
 ·exact aeJ hs ho h
 ·exact NZ hs (.inl ho) h
 ·exact NZ hs (.inr ho) h
 ·cases h
def St.app(s:St)(dst:af Nat)(e:ei):St:=
 {E:=match dst with
   |none=>s.E
   |some t=>match e.vl s.nx with
    |some d=>jE t d s.E
    |none=>jE t (.lit undef) s.E
  R:=e.R s.R s.nx
  nx:=e.nx s.nx}
def IV(n:Nat):af Nat->Bool
 |none=>O
 |some t=>zD t n
def gC.of{s:St}(hh:oR s.E E)(hE:E.ct s.nx)(hR:aM.ct s.nx s.R):gC (EH s.E) (fk s.R) s.nx E s.R:=⟨λx d h=>hh.ev x d h,λ_ _ h=>h,hE,hR⟩
def ajX{C:Cg}{s:St}{a:Act}{w:World}{zg:Exit->Act->World->Prop}(hm:Mt C n s a w)(hd:IV n o.dst=O)(h:∀E,gC (EH s.E) (fk s.R) s.nx E s.R->Kt P o E s.R s.nx K r){K':Act->World->Prop}
  (hK:∀a' w' e,a'.defers=a.defers->K e=Q r->s.nx<=e.nx s.nx->Mt C n (s.app o.dst e) a' w'->K' a' w'):o.wp P a w K' zg:=by
 obtain⟨E,hh,hE,hR,ρ,hag,hsim⟩:=hm;have h:=h E (gC.of hh hE hR);unfold Oper.wp;have fin:∀(e:ei) (ρ':Gh) (σ':aa bH) (w':World) (v:Value),s.nx<=e.nx s.nx->aM.ct (e.nx s.nx) (e.R s.R s.nx)->(∀d,e.vl s.nx=Q d->ct (e.nx s.nx) d)->l6 s.nx ρ ρ'->List.Perm σ' (aM.res ρ' (e.R s.R s.nx))->
   Tr C.C (aY (aM.res ρ s.R)) (aM.res ρ s.R) w σ' w'->(∀d,e.vl s.nx=Q d->Rel (al C.C σ') w' (d.sub ρ') v)->(e.vl s.nx=J->v=undef)->Mt C n (s.app o.dst e) (a.put o.dst v) w':=λe ρ' σ' w' v h1 h2 h3 h4 h5 h6 h7 h8=>by
  have hs1:=(hsim.tr h6).perm h5;rw[hE.sub h4]at hs1;have hE':E.ct (e.nx s.nx):=hE.mono h1;have hag':l6 C.n C.ρ ρ'/\C.n<=e.nx s.nx:=⟨hag.1.trans h4 hag.2,zY hag.2 h1⟩;have hput:∀(t:Nat) (d:AV),o.dst=Q t->ct (e.nx s.nx) d->Rel (al C.C (aM.res ρ' (e.R s.R s.nx))) w' (d.sub ρ') v->Mt C n {E:=jE t d s.E,R:=e.R s.R s.nx,nx:=e.nx s.nx} (a.put (Q t) v) w':=λt d ht hd' hr=>
   ⟨(t,d)::E,hh.put t d,Env.qW hE' hd',h2,ρ',hag',hs1.put (by rw[ht]at hd;exact hd) hr⟩
  have hsub:∀d,e.vl s.nx=Q d->Rel (al C.C (aM.res ρ' (e.R s.R s.nx))) w' (d.sub ρ') v:=λd hd'=>(h7 d hd').mono λb _ hA=>⟨Nb h5 b hA,rfl⟩;unfold St.app;cases hdst:o.dst with
  |none=>exact⟨E,hh,hE',h2,ρ',hag',hs1⟩
  |some t=>
   cases hv:e.vl s.nx with
   |some d=>exact hput t d hdst (h3 d hv) (hsub d hv)
   |none=>
    refine hput t (.lit undef) hdst (.lit _) ?_;rw[h8 hv,bF];exact .lit _
 rcases h ρ C.C w a.eval hsim.good hsim.slots.ops with ⟨v,w',av,σ',⟨e,q1,q2,q3,q4,ρ',q5,q6,q7⟩,h2,h3,h4⟩|⟨w',σ',⟨e,q1,q2,q3,q4,ρ',q5,q6,q7⟩,h2,h3⟩|⟨f,args,h1,h2⟩
 ·rw[h3];refine hK _ _ e (by cases o.dst<;>rfl) q1 q2 (fin e ρ' σ' w' v q2 q3 q4 q5 q7 h2 (λd hd'=> ?_) (λhn=> ?_))
  ·simp_all
  ·simp_all
 ·rw[h3];refine hK _ _ e (by cases o.dst<;>rfl) q1 q2 (fin e ρ' σ' w' undef q2 q3 q4 q5 q7 h2 (λd hd'=> ?_) (λhn=>rfl));rw[hd']at q6;cases q6
 ·rw[h1];refine Calls.mono h2 λee w' ⟨v,av,σ',q0,⟨e,q1,q2,q3,q4,ρ',q5,q6,q7⟩,h2,h4⟩=> ?_;subst q0;refine hK _ _ e (by cases o.dst<;>rfl) q1 q2 (fin e ρ' σ' w' v q2 q3 q4 q5 q7 h2 (λd hd'=> ?_) (λhn=> ?_))
  ·simp_all
  ·rw[hn]at q6;cases q6
end
def Rb(id t:Nat)(l:aa (U.cA t)):AV->AV
 | .own i=>match zh i id with
  |true=> .sl t l
  |false=> .own i
 |d=>d
def k8(id t:Nat)(l:aa (U.cA t)):Nat->AV->AV
 |0,d=>d
 |n+1, .agg cs=> .agg (cs.map (k8 id t l n))
 |n+1, .gH cs=> .gH (cs.map (k8 id t l n))
 |n+1, .fn f cs=> .fn f (cs.map (k8 id t l n))
 |_+1,d=>Rb id t l d
def ri(id t:Nat)(l:aa (U.cA t)):IR->IR
 | .box T cs=> .box T (cs.map (k8 id t l 3))
 |r=>r
def St.ug(s:St)(id:Nat):St:=match fk s.R id with
 |some (.row t l)=>{E:=emap (k8 id t l 3) s.E,R:=(iK id s.R).map λp=>(p.1,ri id t l p.2),nx:=s.nx}
 |_=>s
def Wt{A:Nat->Prop}{w:World}{id t:Nat}{l:aa (U.cA t)}{ρ:Gh}(hd:Hd A [.row (ρ.v id) t l] w){d:AV}{v:Value}(h:Rel A w (d.sub ρ) v):Rel (λb=>A b\/b∈aY [.row (ρ.v id) t l]) w ((Rb id t l d).sub ρ) v:=by
 unfold Rb;split
 ·rename_i i;split
  ·rename_i hi;have:=dX hi;subst this;rw[cD]at h;rw[fE];exact Vw.row 0 rfl A w v hd h
  ·exact h.mono λb _ hA=>⟨.inl hA,rfl⟩
 ·exact h.mono λb _ hA=>⟨.inl hA,rfl⟩
def AI{A:Nat->Prop}{w:World}{id t:Nat}{l:aa (U.cA t)}{ρ:Gh}(hd:Hd A [.row (ρ.v id) t l] w):∀(n:Nat) {d:AV} {v:Value},Rel A w (d.sub ρ) v->Rel (λb=>A b\/b∈aY [.row (ρ.v id) t l]) w ((k8 id t l n d).sub ρ) v
 |0,d,v,h=>h.mono λb _ hA=>⟨.inl hA,rfl⟩
 |n+1,d,v,h=>by
  have hL:∀{cs:aa AV} {us:aa Value},bn A w (cs.map (bM.sub ρ)) us->bn (λb=>A b\/b∈aY [.row (ρ.v id) t l]) w ((cs.map (k8 id t l n)).map (bM.sub ρ)) us:=λ{cs us} h=>by
   refine⟨by simpa using h.1,λj a v h1 h2=> ?_⟩;rw[yg,zN]at h1;obtain⟨c,hc,rfl⟩:=zk.1 h1;exact AI hd n (h.2 j _ v (by rw[zN,hc];rfl) h2)
  unfold k8;split
  ·omega
  ·rename_i cs h0;cases h0;rw[dS]at h ⊢;obtain⟨us,rfl,h2⟩:=h.fG;exact Rel.kj (hL h2)
  ·rename_i cs h0;cases h0;rw[iq]at h ⊢;obtain⟨us,rfl,h2⟩:=h.ME;exact Rel.w8 (hL h2)
  ·rename_i f cs h0;cases h0;rw[oI]at h ⊢;obtain⟨us,rfl,h2⟩:=h.Ud;exact .fn f _ us (hL h2).1 (hL h2).2
  ·rename_i h0 _ _ _;exact Wt hd h
section
variable {α β:Type} (D:α->af β)
def UE{b:BinOp}{k:IntKind}{m n:Int}{K:AV->af α}:(TW b k m n K).bind D=TW b k m n (λd=>(K d).bind D):=by
 unfold TW;cases b<;>first|rfl|(dsimp only;split<;>rfl)
def YY{P:Program}{b:BinOp}{T:TypeId}{cs ds:aa AV}{K:AV->af α}:(eqS P b T cs ds K).bind D=eqS P b T cs ds (λd=>(K d).bind D):=by
 unfold eqS;split
 ·split
  ·cases b<;>first|rfl|exact zW ..
  ·rfl
 ·rfl
def Jy{P:Program}{rd:Nat->af IR}{b:BinOp}{T:TypeId}{x y:af AV}{K:AV->af α}:(LC P rd b T x y K).bind D=LC P rd b T x y (λd=>(K d).bind D):=by
 unfold LC
 repeat' split
 all_goals first|rfl|exact UE D|exact YY D|simp_all
def Pb{b:UnOp}{x:af AV}{K:AV->af α}:(unV b x K).bind D=unV b x (λd=>(K d).bind D):=by
 unfold unV
 repeat' split
 all_goals first|rfl|simp_all
def IS{x:af AV}{K:AV->af α}:(Lx x K).bind D=Lx x (λd=>(K d).bind D):=by
 unfold Lx
 repeat' split
 all_goals first|rfl|simp_all
def Jd{P:Program}{T:TypeId}{i:Nat}{x:af AV}{K:AV->af α}:(Mw P T i x K).bind D=Mw P T i x (λd=>(K d).bind D):=by
 unfold Mw
 repeat' split
 all_goals first|rfl|simp_all
def Ib{P:Program}{rd:Nat->af IR}{T:TypeId}{x y:af AV}{K:AV->af α}:(LK P rd T x y K).bind D=LK P rd T x y (λd=>(K d).bind D):=by
 unfold LK
 repeat' split
 all_goals first|rfl|simp_all
def Of{P:Program}{rd:Nat->af IR}{T:TypeId}{x:af AV}{K:AV->af α}:(ldV P rd T x K).bind D=ldV P rd T x (λd=>(K d).bind D):=by
 unfold ldV
 repeat' split
 all_goals first|rfl|exact zW .. |simp_all
def Xm{P:Program}{ev:Operand->af AV}{rd:Nat->af IR}{T:TypeId}{ps:aa (Nat×Operand)}{K:AV->af α}:(K6 P ev rd T ps K).bind D=K6 P ev rd T ps (λd=>(K d).bind D):=by
 unfold K6
 repeat' split
 all_goals first|rfl|exact zW .. |simp_all
def Jc{P:Program}{rd:Nat->af IR}{T T':TypeId}{x:af AV}{K:AV->af α}:(KY P rd T T' x K).bind D=KY P rd T T' x (λd=>(K d).bind D):=by
 unfold KY
 repeat' split
 all_goals first|rfl|exact zW .. |simp_all
def I7{i:Nat}{x:af AV}{K:AV->af α}:(KV i x K).bind D=KV i x (λd=>(K d).bind D):=by
 unfold KV
 repeat' split
 all_goals first|rfl|exact zW .. |simp_all
def Vf{ev:Operand->af AV}{f:Go.Fn}{fs cs:aa Operand}{K:AV->af α}:(LH ev f fs cs K).bind D=LH ev f fs cs (λd=>(K d).bind D):=by
 unfold LH
 repeat' split
 all_goals first|rfl|exact zW .. |simp_all
def Gb{P:Program}{T:TypeId}{x y:af AV}{K:AV->af α}:(Mb P T x y K).bind D=Mb P T x y (λd=>(K d).bind D):=by
 unfold Mb
 repeat' split
 all_goals first|rfl|exact zW .. |simp_all
def U1{P:Program}{T:TypeId}{x:af AV}{lo hi:af (af AV)}{K:AV->af α}:(KO P T x lo hi K).bind D=KO P T x lo hi (λd=>(K d).bind D):=by
 unfold KO
 repeat' split
 all_goals first|rfl|exact zW .. |simp_all
def GN{P:Program}{rd:Nat->af IR}{T:TypeId}{x:af AV}{K:AV->af α}:(KW P rd T x K).bind D=KW P rd T x (λd=>(K d).bind D):=by
 unfold KW
 repeat' split
 all_goals first|rfl|exact zW .. |simp_all
def Uc{P:Program}{nx:Nat}{T:TypeId}{K:ei->af α}:(Q5 P nx T K).bind D=Q5 P nx T (λd=>(K d).bind D):=by
 unfold Q5;exact zW ..
def SA{rd:Nat->af IR}{nx:Nat}{T:TypeId}{x:af AV}{K:ei->af α}:(Mm rd nx T x K).bind D=Mm rd nx T x (λd=>(K d).bind D):=by
 unfold Mm
 repeat' split
 all_goals first|rfl|exact zW .. |simp_all
def U8{P:Program}{rd:Nat->af IR}{T:TypeId}{x y:af AV}{K:ei->af α}:(LN P rd T x y K).bind D=LN P rd T x y (λd=>(K d).bind D):=by
 unfold LN
 repeat' split
 all_goals first|rfl|exact zW .. |simp_all
def UQ{P:Program}{rd:Nat->af IR}{R:aM}{nx:Nat}{T:TypeId}{x y:af AV}{K:ei->af α}:(Mx P rd R nx T x y K).bind D=Mx P rd R nx T x y (λd=>(K d).bind D):=by
 unfold Mx;split
 ·split
  ·split
   ·split
    ·rw[zW]
     congr 1
     funext l
     rw[zW]
     congr 1
     funext l2
     split<;>rfl
    ·rfl
   ·rfl
  ·rfl
 ·rfl
def VX{P:Program}{ev:Operand->af AV}{rd:Nat->af IR}{nx:Nat}{T:TypeId}{n:Nat}{ps:aa (Nat×Operand)}{K:ei->af α}:(Mq P ev rd nx T n ps K).bind D=Mq P ev rd nx T n ps (λd=>(K d).bind D):=by
 unfold Mq;split
 ·split
  ·split
   ·split<;>rfl
   ·split
    ·split
     ·rw[zW]
      congr 1
      funext cs
      split
      ·exact zW ..
      ·rfl
     ·rfl
    ·rfl
  ·rfl
 ·rfl
def abu{P:Program}{nx:Nat}{T:TypeId}{x y:af AV}{K:ei->af α}:(mkE P nx T x y K).bind D=mkE P nx T x y (λd=>(K d).bind D):=by
 unfold mkE;split
 ·split
  ·split
   ·rw[zW]
    congr 1
    funext d
    split<;>rfl
   ·rfl
  ·rfl
 ·rfl
def Y0{P:Program}{nx:Nat}{T:TypeId}{x:af AV}{K:ei->af α}:(emE P nx T x K).bind D=emE P nx T x (λd=>(K d).bind D):=by
 unfold emE
 repeat' split
 all_goals first|rfl|simp_all
def Ur{P:Program}{T:TypeId}{K:Nat->aa Value->af α}:(Rx P T K).bind D=Rx P T (λe zs=>(K e zs).bind D):=by
 unfold Rx
 repeat' split
 all_goals first|rfl|simp_all
def Ii{P:Program}{rd:Nat->af IR}{e:Nat}{zs:aa Value}{T' T:TypeId}{y:af AV}{K:aa (U.cA e)->af α}:(LP P rd e zs T' T y K).bind D=LP P rd e zs T' T y (λd=>(K d).bind D):=by
 unfold LP;split
 ·exact zW ..
 ·split
  ·split
   ·rw[zW]
    congr 1
    funext d
    split<;>rfl
   ·rfl
  ·rfl
def X4{P:Program}{rd:Nat->af IR}{nx:Nat}{T T':TypeId}{x y:af AV}{K:ei->af α}:(Ri P rd nx T T' x y K).bind D=Ri P rd nx T T' x y (λd=>(K d).bind D):=by
 unfold Ri;rw[Ur]
 congr 1
 funext e zs
 split
 ·rw[Ii]
  congr 1
  funext l2
  split<;>rfl
 ·split
  ·rw[zW]
   congr 1
   funext l
   rw[Ii]
   congr 1
   funext l2
   split<;>rfl
  ·rfl
 ·rfl
def uW{mx:Bool}{xs:aa (af AV)}{K:AV->af α}:(mnV mx xs K).bind D=mnV mx xs (λd=>(K d).bind D):=by
 unfold mnV;split
 ·split
  ·cases mx<;>rfl
  ·rfl
 ·rfl
def EJ{P:Program}{K:TypeId}{k:AV}{hit:Nat->AV×AV->af α}{nY:af α}:∀(es:aa (AV×AV)) (i:Nat),(lkE P K k hit nY es i).bind D=lkE P K k (λj e=>(hit j e).bind D) (nY.bind D) es i
 |[],i=>rfl
 |e::es,i=>by
  show ((dB P K k e.1).bind λq=>match q with
   |true=>match noE P K k es with
    |true=>hit i e
    |false=>J
   |false=>lkE P K k hit nY es (i+1)).bind D=(dB P K k e.1).bind λq=>match q with
   |true=>match noE P K k es with
    |true=>(hit i e).bind D
    |false=>J
   |false=>lkE P K k (λj e=>(hit j e).bind D) (nY.bind D) es (i+1)
  rw[zW]
  congr 1
  funext q
  cases q with
  |true=>cases noE P K k es<;>rfl
  |false=>exact EJ es (i+1)
def Ic{P:Program}{rd:Nat->af IR}{T:TypeId}{x y:af AV}{ok:Bool}{K:AV->af α}:(L8 P rd T x y ok K).bind D=L8 P rd T x y ok (λd=>(K d).bind D):=by
 unfold L8;split
 ·split
  ·rw[EJ]
   congr 1
   funext j e
   split<;>rfl
  ·rfl
 ·rfl
def TJ{P:Program}{nx:Nat}{T:TypeId}{x:af (af AV)}{K:ei->af α}:(Mc P nx T x K).bind D=Mc P nx T x (λd=>(K d).bind D):=by
 unfold Mc
 repeat' split
 all_goals first|rfl|simp_all
def IF{P:Program}{rd:Nat->af IR}{T:TypeId}{m k v:af AV}{K:ei->af α}:(KT P rd T m k v K).bind D=KT P rd T m k v (λd=>(K d).bind D):=by
 unfold KT;split
 ·split
  ·rw[EJ]
   congr 1
   funext j e
   split<;>rfl
  ·rfl
 ·rfl
def dH(F:aI):Prop:=∀(α β:Type) f args R nx (k:AV->aM->Nat->af α) (D:α->af β),(F α f args R nx k).bind D=F β f args R nx (λd R nx=>(k d R nx).bind D)
structure ak (P:Program) (F:aI):Prop where
 ok:gu P F
 nat:dH F
def Wo{P:Program}{rd:Nat->af IR}{T:TypeId}{x y:af AV}{ok:Bool}{K:AV->af α}:(Ma P rd T x y ok K).bind D=Ma P rd T x y ok (λd=>(K d).bind D):=by
 unfold Ma;split
 ·split
  ·unfold aoq;split
   ·split<;>rfl
   ·rfl
  ·exact Ic D
 ·exact Ic D
def TE{P:Program}{rd:Nat->af IR}{T:TypeId}{m k v:af AV}{K:ei->af α}:(Jg P rd T m k v K).bind D=Jg P rd T m k v (λd=>(K d).bind D):=by
 unfold Jg;split
 ·split
  ·unfold anS;split
   ·split<;>rfl
   ·rfl
  ·exact IF D
 ·exact IF D
def Sr{F:aI}(hF:dH F){ev:Operand->af AV}{R:aM}{nx:Nat}{x:af AV}{xs:aa Operand}{K:ei->af α}:(La F ev R nx x xs K).bind D=La F ev R nx x xs (λd=>(K d).bind D):=by
 unfold La;split
 ·rw[zW]
  congr 1
  funext as0
  exact hF ..
 ·rfl
def rT{F:aI}(hF:dH F)(o:Op)(P:Program)(ev:Operand->af AV)(rd:Nat->af IR)(R:aM)(nx:Nat)(K:ei->af α):(lU o P F ev rd R nx K).bind D=lU o P F ev rd R nx (λe=>(K e).bind D):=by
 have hP:(λd=>(cV K d).bind D)=cV (λe=>(K e).bind D):=rfl;cases o<;>first|rfl|exact Wo D|exact TJ D|exact TE D|exact zW .. |exact Pb D|exact Jc D|exact IS D|exact Jd D|exact Ib D|exact Gb D|exact Of D|exact U8 D|exact Vf D|exact I7 D|exact Xm D|exact VX D|exact abu D|exact Uc D|exact SA D|skip
 case pick c a b=>
  show (qG c a b P F ev rd R nx K).bind D=qG c a b P F ev rd R nx _;unfold qG;split
  ·exact zW ..
  ·exact zW ..
  ·rfl
 case binOp b T x y t=>exact Jy D
 case slice T x lo hi mx=>
  show (Ge T x lo hi mx P F ev rd R nx K).bind D=Ge T x lo hi mx P F ev rd R nx _;unfold Ge;split
  ·exact U1 D
  ·split
   ·exact Y0 D
   ·rfl
  ·rfl
 case call c=>
  show (Cf c P F ev rd R nx K).bind D=Cf c P F ev rd R nx _;unfold Cf;split
  ·exact Sr D hF
  ·unfold vo;split
   ·split
    ·exact GN D
    ·rfl
   ·split
    ·exact uW D
    ·rfl
   ·split
    ·exact uW D
    ·rfl
   ·split
    ·exact X4 D
    ·rfl
   ·split
    ·exact UQ D
    ·rfl
   ·rfl
  ·rfl
end
end Go.Iv
end
noncomputable section
namespace Go.Iv
variable [U:tQ]
open Go Go.RowKit Go.Shelf Go.Proofs
def lz(o:Oper):Bool:=match o.op with
 | .defer _=>V
 |_=>O
def lz.ne{o:Oper}(h:lz o=O):∀c,o.op≠ .defer c:=λc e=>by
 unfold lz at h;rw[e]at h;cases h
def QA{P:Program}{l m:Nat}{o:Oper}{a:Act}{w:World}{K K':Act->World->Prop}{zg:Exit->Act->World->Prop}(hp:lz o=O)(h:o.wp P a w K zg)(hK:∀a w,K a w->K' a w):o.wpIn (Fence.wide.inRound l) m P a w K' zg:=by
 refine⟨λ_ _=>trivial,?_⟩;rw[Fence.inRound_round,Oper.semAt_some l _ _ (lz.ne hp)];unfold Oper.wp at h;generalize (execOp a.eval o).run P w=r at h;cases r with
 |ok x w'=>
  cases x with
  |value v=>exact hK _ _ h
  |skip=>exact hK _ _ h
  |defer d=>exact hK _ _ h
  |enter f args=>
   refine⟨λh=>by simp[Fence.inRound,Fence.wide]at h,CallsIn.inRound l (callsIn_wide.2 (Calls.mono h λe w'' he=> ?_))⟩;cases e with
   |returned v=>exact hK _ _ he
   |panicked ch=>exact he
   |outgrown=>exact he
  |row row args=>
   refine⟨λh=>by simp[Fence.inRound,Fence.wide]at h,λc cs _=> ?_⟩;obtain⟨v,w'',q1,q2⟩:=h c cs;exact⟨v,w'',hK _ _ q1,stepsIn_wide.2 q2⟩
  |_=>exact h.elim
 |halt x w'=>
  cases x with
  |panic v=>exact h
  |_=>exact h.elim
def mZ{P:Program}{l m:Nat}{ops:Array Oper}{zg:Exit->Act->World->Prop}(hQ:¬LetsOut zg):∀(rest:aa Oper) (a:Act) (w:World),rest.all lz=O->wpList P ops zg rest a w->wpListIn (Fence.wide.inRound l) m P ops zg rest a w
 |[],_,_,_,h=>h
 |o::rest,a,w,hp,h=>by
  rw[xL,zj]at hp;unfold wpList at h;unfold wpListIn;by_cases hw:Region.wanted o (yielded ops a.tmps)=O
  ·rw[bS hw]at h ⊢;rcases h with h|h
   ·exact QA hp.1 h λa' w' h'=>mZ hQ rest a' w' hp.2 h'
   ·exact gI h.2 hQ
  ·rw[bT hw]at h ⊢;exact⟨λ_ _=>trivial,mZ hQ rest _ _ hp.2 h⟩
def YH(P:Program)(C:Cx)(n:Nat)(c:Code)(zg:Exit->Env->aa bH->Prop)(E:Env)(σ:aa bH):Prop:=
 ∀lp m a w,jH C n E σ a w->a.defers=[]->c.wpIn (Fence.wide.inRound lp) m P (λe a' w'=>a'.defers=[]/\∃E' σ',jH C n E' σ' a' w'/\zg e E' σ') a w
section
variable {P:Program} {C:Cx} {n:Nat} {c x y:Code} {zg Q':Exit->Env->aa bH->Prop} {E E':Env} {σ σ':aa bH}
def YH.block{id:Nat}(h:YH P C n c (Fo id zg) E σ):YH P C n (.block id c) zg E σ:=λlp m a w ha hd=>by
 refine wpIn_block (wpIn_mono (h lp m a w ha hd) λe a' w' ⟨hd',E',σ',h1,h2⟩=> ?_);cases e with
 |exit id'=>
  simp only[Fo]at h2;simp only[Exit.inBlock];split
  ·rename_i he;subst he;have hb:zh id' id'=O:=yH _;simp only[hb]at h2;exact⟨hd',E',σ',h1,h2⟩
  ·rename_i he;have hb:zh id' id=V:=by
    cases hb:zh id' id with
    |false=>rfl
    |true=>exact gI (yI hb) he
   simp only[hb]at h2;exact⟨hd',E',σ',h1,h2⟩
 |_=>exact⟨hd',E',σ',h1,h2⟩
def YH.region{id:Nat}{l:aa Oper}(hp:l.all lz=O)(h:RW P C n l.toArray (λE' σ'=>zg .normal E' σ') l E σ):YH P C n (.region id l.toArray V) zg E σ:=λlp m a w ha hd=>by
 refine wpIn_mono (wpIn_region_lit (mZ (λ⟨_,_,h⟩=>by cases h.1) l a w hp (h a w ha))) λe a' w' ⟨he,hd',E',σ',h1,h2⟩=> ?_;subst he;exact⟨hd'.trans hd,E',σ',h1,h2⟩
end
def Vw.box{σ:aa bH}{b:Nat}{T:TypeId}{cs:aa AV}(i:Nat)(hσ:σ[i]? =Q (.box b T cs)):Vw σ (.lit (.pointer (Q ⟨b,0,J⟩))) (.fp cs):=λA w v hd hr=>by
 have hv:=hr.bI;subst hv;have hm:=List.mem_of_getElem? hσ;obtain⟨us,h1,h2⟩:=hd.1 _ hm;exact .fp cs b 0 us h1.lt (.inr (bw.2 ⟨_,hm,rfl⟩)) h2.1 (λj v hj=>by rw[ya];exact h1.cell (by simpa using hj)) (λj a v q1 q2=>(h2.2 j a v q1 q2).mono λb _ hA=>⟨.inl hA,rfl⟩)
def Iter(P:Program)(gf:FuncId)(caps:aa AV)(es:aa (aa AV)):Prop:=
 ∀(A:Nat->Prop) (w:World) (lb:aa Value),bn A w caps lb->∃us:aa (aa Value),yz us=yz es/\(∀i,i<yz es->bn A w es[i]! us[i]!)/\
  SeqStopsK Fence.wide 1 P gf lb.toArray (λi:Fin es.length=>us[i.1]!.toArray) (λW W'=>∀b,b<w.heap.size->A b->W'.heap[b]? =W.heap[b]?) (λxs=>xs=xA (yz es)) (λpre=>pre<+:xA (yz es)) (yz es) w
def Hy:aa Tmp->aa AV->Env->Env
 |p::ps,e::es,E=>Hy ps es ((p,e)::E)
 |_,_,E=>E
def fS.Hy{A:Nat->Prop}{w:World}:∀(ps:aa Tmp) (es:aa AV) (us:aa Value) (E:Env) (tmps:Array Value),fS A w E tmps->bn A w es us->(∀p∈ps,p<tmps.size)->yz ps=yz es->
  fS A w (Hy ps es E) ((ps.zip us).foldl (λt (p,v)=>t.setIfInBounds p v) tmps)
 |[],[],us,E,tmps,h,_,_,_=>by simpa [Iv.Hy]using h
 |[],_::_,_,_,_,_,_,_,hl=>by cases hl
 |_::_,[],_,_,_,_,_,_,hl=>by cases hl
 |p::ps,e::es,[],E,tmps,h,hr,_,_=>by have:=hr.1;simp at this
 |p::ps,e::es,u::us,E,tmps,h,hr,hp,hl=>by
  have h1:fS A w ((p,e)::E) (tmps.setIfInBounds p u):=fS.put (a:={tmps:=tmps,defers:=[]}) h (hp p zq) (hr.2 0 e u rfl rfl);exact fS.Hy ps es us _ _ h1 ⟨by have:=hr.1;simpa using this,λj a v q1 q2=>hr.2 (j+1) a v (by simpa using q1) (by simpa using q2)⟩ (λq hq=>by simpa using hp q (zH _ hq)) (by simpa using hl)
def LU(tmps:Array Value)(zs:aa (Tmp×Value)):Array Value:=zs.foldl (λt (p,v)=>t.setIfInBounds p v) tmps
def tG:∀(zs:aa (Tmp×Value)) (tmps:Array Value),(LU tmps zs).size=tmps.size
 |[],_=>rfl
 |z::zs,tmps=>(tG zs (tmps.setIfInBounds z.1 z.2)).trans (by simp)
def P6(ps:Array Tmp)(us:aa Value)(tmps:Array Value):(ps.zip us.toArray).foldl (λt (p,v)=>t.setIfInBounds p v) tmps=LU tmps (ps.toList.zip us):=by
 rw[<-Array.foldl_toList,Array.toList_zip];rfl
def Wn{C:Cx}{σ σ1:aa bH}{W W':World}(h:Good C σ W)(h':Good ⟨W,al C σ,aY σ⟩ σ1 W'):Tr C (aY σ) σ W σ1 W':=by
 have hal:∀b,al ⟨W,al C σ,aY σ⟩ σ1 b->al C σ1 b:=λb hb=>by
  refine⟨?_,hb.2⟩;rcases hb.1 with q|q|q
  ·exact q.1
  ·rcases h.own b q with q|q
   ·exact .inr (.inl q)
   ·exact .inr (.inr q)
  ·exact .inr (.inr (zY h.kept.size q))
 refine⟨⟨h.kept.trans h'.kept (λb hb hlt=>(h.own b hb).elim id (λq=>by omega)),λr hr=>(h'.res r hr).mono (λb _ hA=>⟨hal b hA,rfl⟩) (λ_ _=>rfl),h'.sN,λb hb=> ?_⟩,h'.kept,λb hb hA=>⟨⟨hA.1,λhx=> ?_⟩,hA.2⟩⟩
 ·rcases h'.own b hb with q|q
  ·exact h.own b q
  ·exact .inr (zY h.kept.size q)
 ·rcases h'.own b hx with q|q
  ·exact hA.2 q
  ·have q':W.heap.size<=b:=q;omega
def Uq{C:Cx}{σ σ1:aa bH}{W:World}(h:Good C σ W):∀b,al ⟨W,al C σ,aY σ⟩ σ1 b->al C σ1 b:=λb hb=>by
 refine⟨?_,hb.2⟩;rcases hb.1 with q|q|q
 ·exact q.1
 ·rcases h.own b q with q|q
  ·exact .inr (.inl q)
  ·exact .inr (.inr q)
 ·exact .inr (.inr (zY h.kept.size q))
def Good.fresh{C:Cx}{σ:aa bH}{W:World}(h:Good C σ W):Good ⟨W,al C σ,aY σ⟩ σ W:=
 ⟨Kp.refl _ _,λr hr=>(h.res r hr).mono (λb _ hA=>⟨⟨.inl hA,hA.2⟩,rfl⟩) (λ_ _=>rfl),h.sN,λb hb=> .inl hb⟩
def Good.less{C:Cx}{σ σ':aa bH}{W:World}(h:Good C σ W)(hs:List.Sublist σ' σ):Good C σ' W:=by
 have hm:∀r∈σ',r∈σ:=λr hr=>hs.subset hr;exact⟨h.kept,λr hr=>(h.res r (hm r hr)).mono (λb _ hA=>⟨⟨hA.1,λhx=>hA.2 (gJ hm b hx)⟩,rfl⟩) (λ_ _=>rfl),h.sN.sublist (hs.filterMap _),λb hb=>h.own b (gJ hm b hb)⟩
def Lay(C:Cx)(σ:aa bH)(w:World)(σ':aa bH)(W:World):Prop:=∀b,b<w.heap.size->al C σ b->al C σ' b/\W.heap[b]? =w.heap[b]?
def Lay.less{C:Cx}{σ σ' σ'':aa bH}{w W:World}(h:Lay C σ w σ' W)(hs:List.Sublist σ'' σ'):Lay C σ w σ'' W:=λb hb hA=>
 ⟨⟨(h b hb hA).1.1,λhx=>(h b hb hA).1.2 (gJ (λ_ hr=>hs.subset hr) b hx)⟩,(h b hb hA).2⟩
def Lay.tr{C:Cx}{X:aa Nat}{σ σ' σ'':aa bH}{w W W':World}(h:Lay C σ w σ' W)(t:Tr C X σ' W σ'' W')(hs:w.heap.size<=W.heap.size):Lay C σ w σ'' W':=λb hb hA=>
 have q:=t.keep b (yN hb hs) (h b hb hA).1
 ⟨q.1,q.2.trans (h b hb hA).2⟩
def bH.ok.cells{A:Nat->Prop}{w:World}{r:bH}(h:r.ok A w)(hm:∀v es,r≠ .mp v es){b:Nat}(hb:r.blk=Q b):∃cs T m,w.heap[b]? =Q (Obj.cells cs T m):=by
 cases r with
 |box b' T cs=>obtain⟨us,h1,_⟩:=h;cases hb;exact⟨_,_,_,h1⟩
 |row v q l=>
  obtain⟨us,h1,_⟩:=h;rcases h1.2 with ⟨p,rfl,_⟩|⟨g,cap,cur,rfl,q1,_⟩
  ·cases p<;>cases hb
  ·cases hb;exact⟨_,_,_,q1⟩
 |mp v es=>exact gI rfl (hm v es)
def IA{C:Cx}{W W':World}{row:af Nat}(hg:W.grownBy W' row)(hw:∀r,row=Q r->C.w0.heap.size<=r/\∃o:Obj,W.heap[r]? =Q o/\o.isCells=V)(h0:C.w0.heap.size<=W.heap.size):Tn0 C W W':=
 ⟨hg.os,hg.tape,hg.output,hg.size,λk hk=>hg.block k (by omega) (λe=>by have:=(hw k e.symm).1;omega),λb cs T m hx=>hg.block b (ym.1 hx).1 (λe=>by
  obtain⟨_,o,h1,h2⟩:=hw b e.symm;rw[hx]at h1;cases h1;cases h2)⟩
def Mid(C:Cx)(σ:aa bH)(w:World)(zf:aa bH->Prop)(W:World):Prop:=
 ∃σ',zf σ'/\Good C σ' W/\Lay C σ w σ' W/\w.heap.size<=W.heap.size
def Mid.own{α:Type}{C:Cx}{σ:aa bH}{w:World}(hw:C.w0.heap.size<=w.heap.size)(zf:α->aa bH->Prop)(hn:∀a σ,zf a σ->QF σ):OwnFrom w.heap.size (λpre=>Mid C σ w (zf pre)):=λpre W W' row ⟨σ',h1,h2,h3,h4⟩ hg hr=>by
 refine⟨σ',h1,h2.IC (hn _ _ h1) (IA hg (λr e=>⟨by have:=(hr r e).1;omega,(hr r e).2⟩) h2.kept.size),λb hb hA=>⟨(h3 b hb hA).1,?_⟩,zY h4 hg.size⟩;exact(hg.block b (by omega) (λe=>by have:=(hr b e.symm).1;omega)).trans (h3 b hb hA).2
def qL{C:Cx}{σ σ':aa bH}{W W':World}(B:Nat)(h:Good C σ W)(hm:QF σ)(t:Tr C (aY σ) σ W σ' W'):KeepsFrom B W W':=
 ⟨t.kp.size,λk o _ hk ho=>(t.kp.block k (ym.1 hk).1 (λhx=>by
  obtain⟨r,h1,h2⟩:=bw.1 hx;obtain⟨cs,T,m,h3⟩:=(h.res r h1).cells (hm r h1) h2;rw[hk]at h3;cases h3;cases ho)).trans hk⟩
end Go.Iv
end
noncomputable section
namespace Go.Iv
variable [U:tQ] [L:sG]
open Go Go.RowKit
def mg{id t m:Nat}{l:aa (U.cA t)}:∀(n:Nat) {d:AV},ct m d->ct m (k8 id t l n d)
 |0,d,h=>h
 |n+1,d,h=>by
  have hL:∀{cs:aa AV},(∀c∈cs,ct m c)->∀c∈cs.map (k8 id t l n),ct m c:=λh c hc=>by
   obtain⟨c',h1,rfl⟩:=zy.1 hc;exact mg n (h c' h1)
  unfold k8;split
  ·omega
  ·rename_i h0;cases h0;exact .agg _ (hL h.kj)
  ·rename_i h0;cases h0;exact .gH _ (hL h.w8)
  ·rename_i h0;cases h0;exact .fn _ _ (hL h.fnL)
  ·unfold Rb;split
   ·split
    ·exact .sl _ _
    ·exact h
   ·exact h
def qz{f:AV->AV}(t:Nat):∀(E:Env),Env.get (E.map λp=>(p.1,f p.2)) t=(E.get t).map f
 |[]=>rfl
 |(k,v)::E=>by
  show Env.get ((k,f v)::E.map λp=>(p.1,f p.2)) t=_;unfold Env.get;cases hb:zh k t with
  |true=>rfl
  |false=>exact qz t E
section
variable {α:Type} {r:α} {P:Program} {F:aI} {o:Oper} {C:Cg} {n:Nat} {s:St} {a:Act} {w:World}
def Mt.ug(h:Mt C n s a w)(id:Nat):Mt C n (s.ug id) a w:=by
 unfold St.ug;split
 case h_2=>exact h
 rename_i t l hr;obtain⟨E,hh,hE,hR,ρ,hag,hsim⟩:=h;obtain⟨i,hi1,_,hi3⟩:=cU hr;have hres:=eu (ρ:=ρ) hi1;have hg:=hsim.good;have hd:Hd (al C.C (aM.res ρ s.R)) [.row (ρ.v id) t l] w:=⟨λr hr=>by
   rw[zC]at hr;rw[hr];exact hg.res _ (List.mem_of_getElem? hres),λb hb hA=>hA.2 (by
   obtain⟨r,h1,h2⟩:=bw.1 hb;rw[zC]at h1;rw[h1]at h2;exact bw.2 ⟨_,List.mem_of_getElem? hres,h2⟩)⟩
 have hle:=Ai (C:=C.C) hres hg;have hbk:aY (aM.res ρ ((iK id s.R).map λp=>(p.1,ri id t l p.2)))=aY ((aM.res ρ s.R).eraseIdx i):=by
  rw[<-sD,<-hi3];unfold aY aM.res;rw[yg,List.filterMap_map,List.filterMap_map]
  congr 1
  funext p
  obtain⟨q,rr⟩:=p;cases rr<;>rfl
 have hal:∀b,(al C.C (aM.res ρ s.R) b\/b∈aY [bH.row (ρ.v id) t l])->al C.C (aM.res ρ ((iK id s.R).map λp=>(p.1,ri id t l p.2))) b:=λb hb=>by
  have:=hle b hb;exact⟨this.1,by rw[hbk];exact this.2⟩
 have hrel:∀{d:AV} {v:Value},Rel (al C.C (aM.res ρ s.R)) w (d.sub ρ) v->Rel (al C.C (aM.res ρ ((iK id s.R).map λp=>(p.1,ri id t l p.2)))) w ((k8 id t l 3 d).sub ρ) v:=λh=>
  (AI hd 3 h).mono λb _ hA=>⟨hal b hA,rfl⟩
 refine⟨E.map λp=>(p.1,k8 id t l 3 p.2),λk d hk=> ?_,λp hp=> ?_,λp hp=> ?_,ρ,hag,hsim.defers.step (λb _ hA=>⟨hal b (.inl hA),rfl⟩),hsim.size,λk av hk=> ?_,⟨hg.kept,λrr hrr=> ?_,?_,λb hb=> ?_⟩⟩
 ·have hk':cu (emap (k8 id t l 3) s.E) k=Q d:=hk;rw[qv]at hk';obtain⟨d',h1,rfl⟩:=zk.1 hk';rw[qz,hh k d' h1];rfl
 ·obtain⟨p',h1,rfl⟩:=zy.1 hp;exact mg 3 (hE p' h1)
 ·obtain⟨p',h1,rfl⟩:=zy.1 hp;have h2:=Bz (id:=id) hR p' h1;refine⟨h2.1,?_⟩;obtain⟨q,rr⟩:=p';cases rr with
  |row t' l'=>trivial
  |mp es=>trivial
  |md k e l=>trivial
  |box T cs=>
   intro c hc;obtain⟨c',h3,rfl⟩:=zy.1 hc;exact mg 3 (h2.2 c' h3)
 ·rw[Env.eA,qz]at hk;obtain⟨d',h1,rfl⟩:=zk.1 hk;obtain⟨d,h2,rfl⟩:=zk.1 h1;obtain⟨v,h3,h4⟩:=hsim.slots k (d.sub ρ) (by rw[Env.eA,h2];rfl);exact⟨v,h3,hrel h4⟩
 ·obtain⟨p,h1,rfl⟩:=zy.1 hrr;obtain⟨p',h2,rfl⟩:=zy.1 h1;have hm:p'.2.res ρ p'.1∈aM.res ρ s.R:=by
   rw[hi3]at h2;exact zy.2 ⟨p',List.mem_of_mem_eraseIdx h2,rfl⟩
  have h3:=hg.res _ hm;obtain⟨q,rr⟩:=p';cases rr with
  |row t' l'=>exact h3.mono (λb _ hA=>⟨hal b (.inl hA),rfl⟩) (λ_ _=>rfl)
  |mp es=>exact h3.mono (λb _ hA=>⟨hal b (.inl hA),rfl⟩) (λ_ _=>rfl)
  |md k e l=>exact h3.mono (λb _ hA=>⟨hal b (.inl hA),rfl⟩) (λ_ _=>rfl)
  |box T cs=>
   obtain⟨us,h4,h5⟩:=h3;refine⟨us,h4,by simpa using h5.1,λj av v q1 q2=> ?_⟩;rw[yg,zN]at q1;obtain⟨c,hc,rfl⟩:=zk.1 q1;exact hrel (h5.2 j (c.sub ρ) v (by rw[zN,hc];rfl) q2)
 ·rw[hbk];exact hg.sN.sublist ((wK _ _).filterMap _)
 ·rw[hbk]at hb;exact hg.own b (gJ (λr hr=>(wK _ _).subset hr) b hb)
def St.gU(s:St)(ids:aa Nat):St:=match ids with
 |[]=>s
 |i::is=>(s.ug i).gU is
def Mt.gU:∀(ids:aa Nat) {s:St},Mt C n s a w->Mt C n (s.gU ids) a w
 |[],_,h=>h
 |i::is,_,h=>Mt.gU is (h.ug i)
def amc:AV->aa Nat
 | .own id=>[id]
 | .agg cs=>cs.filterMap λc=>match c with
  | .own id=>Q id
  |_=>J
 |_=>[]
def Qe(E:ET)(x:Operand):aa Nat:=match EH E x with
 |some d=>amc d
 |none=>[]
def gr(E:ET):Op->aa Nat
 | .buildSlice _ _ ps=>ps.toList.flatMap λp=>Qe E p.2
 | .store T x v=>match L.fz (Nat.add 1000000 T)with
  |true=>Qe E v
  |false=>match EH E x with
   |some (.ra _ _ _ _)=>Qe E v
   |_=>[]
 | .slice _ x _ _ J=>Qe E x
 | .box T x=>match L.fz (Nat.add 1000000 T)with
  |true=>Qe E x
  |false=>[]
 | .call c=>match c.callee with
  | .value (.func f)=>match L.fz f with
   |true=>c.args.toList.flatMap (Qe E)
   |false=>[]
  |_=>[]
 |_=>[]
def St.fh(s:St)(t:Nat)(b:Bool):St:={s with E:=jE t (.b b) s.E}
def Mt.fh{t:Nat}{b:Bool}(h:Mt C n s a w)(ht:cu s.E t=Q (.lit (.bool b))):Mt C n (s.fh t b) a w:=by
 obtain⟨E,hh,hE,hR,ρ,hag,hsim⟩:=h;refine⟨E,λk d hk=> ?_,hE,hR,ρ,hag,hsim⟩;have hk':cu (jE t (.b b) s.E) k=Q d:=hk;rcases mc hk' with ⟨rfl,rfl⟩|⟨_,h2⟩
 ·exact hh _ _ ht
 ·exact hh k d h2
def gate(ops:Array Oper)(o:Oper)(s:St)(yes no:St->af α):af α:=match o.guard with
 |none=>yes s
 |some (j,want)=>match (ops[j]?).bind (·.dst)with
  |none=>J
  |some t=>match cu s.E t with
   |some (.lit (.bool b))=>match b with
    |true=>match want with
     |true=>yes (s.fh t O)
     |false=>no (s.fh t O)
    |false=>match want with
     |true=>no (s.fh t V)
     |false=>yes (s.fh t V)
   |some (.lit (.tuple _))=>no s
   |_=>J
def Dx{ops:Array Oper}{j t:Nat}{want:Bool}{ρ:Gh}(hg:o.guard=Q (j,want))(hj:(ops[j]?).bind (·.dst)=Q t){E:Env}:
  (∀b,E.get t=Q (.lit (.bool b))->iz (E.sub ρ) o ops=Q (b==want))/\(∀vs,E.get t=Q (.lit (.tuple vs))->iz (E.sub ρ) o ops=Q V):=by
 constructor
 ·intro b hb;unfold iz;rw[hg];simp only[hj,Env.eA,hb,zX,bF]
 ·intro vs hb;unfold iz;rw[hg];simp only[hj,Env.eA,hb,zX,bF]
def afo{ops:Array Oper}{yes no:St->af α}(h:gate ops o s yes no=Q r)(hm:Mt C n s a w):∃s',Mt C n s' a w/\
  ((Region.wanted o (yielded ops a.tmps)=O/\yes s'=Q r)\/(Region.wanted o (yielded ops a.tmps)=V/\no s'=Q r)):=by
 unfold gate at h;split at h
 ·rename_i hg;exact⟨s,hm, .inl ⟨by simp[Region.wanted,hg],h⟩⟩
 ·rename_i j want hg;split at h
  ·cases h
  ·rename_i t hj;have hspec:∀{s':St},Mt C n s' a w->(∀b,cu s'.E t=Q (.lit (.bool b))->Region.wanted o (yielded ops a.tmps)=(b==want))/\(∀vs,cu s'.E t=Q (.lit (.tuple vs))->Region.wanted o (yielded ops a.tmps)=V):=λ{s'} hm'=>by
    obtain⟨E,hh,_,_,ρ,_,hsim⟩:=hm';obtain⟨h1,h2⟩:=Dx (ρ:=ρ) hg hj (E:=E);exact⟨λb hb=>iz.spec hsim.slots (h1 b (hh _ _ hb)),λvs hv=>iz.spec hsim.slots (h2 vs (hh _ _ hv))⟩
   split at h
   ·rename_i b hb;have hw:=(hspec hm).1 b hb;split at h
    ·split at h
     ·exact⟨_,hm.fh hb, .inl ⟨hw,h⟩⟩
     ·exact⟨_,hm.fh hb, .inr ⟨hw,h⟩⟩
    ·split at h
     ·exact⟨_,hm.fh hb, .inr ⟨hw,h⟩⟩
     ·exact⟨_,hm.fh hb, .inl ⟨hw,h⟩⟩
   ·rename_i vs hb;exact⟨s,hm, .inr ⟨(hspec hm).2 vs hb,h⟩⟩
   ·cases h
def tJ(o:Op)(s:St)(f:St->af α):af α:=match o with
 | .pick (.tmp t) _ _=>match cu s.E t with
  |some (.lit (.bool b))=>match b with
   |true=>f (s.fh t O)
   |false=>f (s.fh t V)
  |_=>J
 |_=>f s
def Wc{op:Op}{f:St->af α}(h:tJ op s f=Q r)(hm:Mt C n s a w):∃s',Mt C n s' a w/\f s'=Q r:=by
 unfold tJ at h;split at h
 ·split at h
  ·rename_i b hb;split at h
   ·exact⟨_,hm.fh hb,h⟩
   ·exact⟨_,hm.fh hb,h⟩
  ·cases h
 ·exact⟨s,hm,h⟩
def mo(dst:af Nat)(d:AV)(E:ET):ET:=match dst with
 |none=>E
 |some t=>jE t d E
def HD(dst:af Nat)(E:ET)(R:aM)(nx:Nat)(ih:St->(St->af α)->af α)(k:St->af α)(e:ei):af α:=match e with
 | .val d=>ih ⟨mo dst d E,R,nx⟩ k
 | .new d r=>ih ⟨mo dst d E,(nx,r)::R,nx+1⟩ k
 | .set id r=>ih ⟨mo dst (.lit undef) E,mY id r R,nx⟩ k
 | .grow id r=>ih ⟨mo dst (.own nx) E,(nx,r)::iK id R,nx+1⟩ k
 | .all d R' m=>ih ⟨mo dst d E,R',m⟩ k
def ac5(dst:af Nat)(s:St)(ih:St->(St->af α)->af α)(k:St->af α):HD dst s.E s.R s.nx ih k=λe=>ih (s.app dst e) k:=by
 funext e
 cases e<;>cases dst<;>rfl
def ans(P:Program)(F:aI)(o:Oper)(ih:St->(St->af α)->af α)(k:St->af α)(s:St):af α:=St.rec (λE R nx=>lU o.op P F (EH E) (fk R) R nx (HD o.dst E R nx ih k)) s
def rDo(P:Program)(F:aI)(o:Oper)(ih:St->(St->af α)->af α)(k:St->af α)(s:St):af α:=ans P F o ih k (s.gU (gr s.E o.op))
abbrev OpK(α:Type):=Program->aI->af Nat->ET->aM->Nat->(St->(St->af α)->af α)->(St->af α)->af α
abbrev StT(α:Type):=Program->aI->(Operand->af AV)->(Nat->af IR)->aM->Nat->(ei->af α)->af α
def BR(f:StT α):OpK α:=λP F dst E R nx ih k=>f P F (EH E) (fk R) R nx (HD dst E R nx ih k)
def stZ(ids:ET->aa Nat)(f:StT α):OpK α:=λP F dst E R nx ih k=>St.rec (λE R nx=>f P F (EH E) (fk R) R nx (HD dst E R nx ih k)) (St.gU ⟨E,R,nx⟩ (ids E))
def aAr(c a b:Operand):OpK α:=match c with
 | .tmp t=>λP F dst E R nx ih k=>match cu E t with
  |some (.lit (.bool v))=>match v with
   |true=>BR (qG (.tmp t) a b) P F dst (jE t (.b O) E) R nx ih k
   |false=>BR (qG (.tmp t) a b) P F dst (jE t (.b V) E) R nx ih k
  |_=>J
 |c=>BR (qG c a b)
def opF(o:Op):OpK α:=match o with
 | .move x=>BR (ND x)
 | .assign x=>BR (ND x)
 | .pick c a b=>aAr c a b
 | .binOp b T x y _=>BR (aji b T x y)
 | .unOp b _ x=>BR (avo b x)
 | .convert T T' x=>BR (ajl T T' x)
 | .nilCheck x=>BR (ag8 x)
 | .fieldAddr T x i=>BR (aie T x i)
 | .indexAddr T x y=>BR (aiY T x y)
 | .index T x y=>BR (agJ T x y)
 | .load T x=>BR (arT T x)
 | .store T x y=>stZ (λE=>gr E (.store T x y)) (af8 T x y)
 | .makeFunc f fs cs=>BR (ah1 f fs cs)
 | .extract x i=>BR (aiZ x i)
 | .build T ps=>BR (aho T ps)
 | .buildSlice T n ps=>stZ (λE=>gr E (.buildSlice T n ps)) (aiu T n ps)
 | .makeSlice T x y=>BR (aqE T x y)
 | .alloc T=>BR (ahn T)
 | .box T x=>stZ (λE=>gr E (.box T x)) (agZ T x)
 | .slice T x lo hi mx=>stZ (λE=>gr E (.slice T x lo hi mx)) (Ge T x lo hi mx)
 | .call c=>stZ (λE=>gr E (.call c)) (Cf c)
 | .lookup T x y ok=>BR (agc T x y ok)
 | .makeMap T x=>BR (age T x)
 | .mapUpdate T x y z=>BR (N9 T x y z)
 | .insert T x y z=>BR (N9 T x y z)
 |_=>BR ath
def EL(P:Program)(F:aI)(o:Oper)(s:St)(ih:St->(St->af α)->af α)(k:St->af α):opF o.op P F o.dst s.E s.R s.nx ih k=tJ o.op s (rDo P F o ih k):=by
 unfold rDo ans tJ;cases h:o.op<;>first|rfl|skip
 case pick c a b=>
  cases c<;>rfl
def awh(P:Program)(F:aI)(o:Oper)(ih:St->(St->af α)->af α)(k:St->af α)(s:St):af α:=St.rec (λE R nx=>opF o.op P F o.dst E R nx ih k) s
def rNo(dst:af Nat)(ih:St->(St->af α)->af α)(k:St->af α)(s:St):af α:=match dst with
 |some t=>ih {s with E:=jE t (.lit undef) s.E} k
 |none=>ih s k
def Ht(P:Program)(F:aI)(n:Nat)(ops:Array Oper)(o:Oper)(ih:St->(St->af α)->af α)(s:St)(k:St->af α):af α:=match IV n o.dst with
 |true=>gate ops o s (awh P F o ih k) (rNo o.dst ih k)
 |false=>J
def eD(P:Program)(F:aI)(n:Nat)(ops:Array Oper)(l:aa Oper):St->(St->af α)->af α:=List.rec (λs k=>k s) (λo _ ih=>Ht P F n ops o ih) l
def vL(hF:gu P F){ops:Array Oper}{k:St->af α}:∀(rest:aa Oper) {s:St} {a:Act} {w:World},eD P F n ops rest s k=Q r->Mt C n s a w->
  wpList P ops (λe a' w'=>e= .normal/\a'.defers=a.defers/\∃s',k s'=Q r/\Mt C n s' a' w') rest a w
 |[],s,a,w,h,hm=>⟨rfl,rfl,s,h,hm⟩
 |o::rest,s,a,w,h,hm=>by
  change Ht P F n ops o (eD P F n ops rest) s k=Q r at h;unfold Ht at h;split at h
  case h_2=>cases h
  rename_i hd;refine wpList_step λK' hK=> ?_;have cont:∀{s':St} {a':Act} {w':World},a'.defers=a.defers->eD P F n ops rest s' k=Q r->Mt C n s' a' w'->K' a' w':=λ{s' a' w'} hda h1 h2=>hK _ _ (by
   have:=vL hF rest h1 h2;rw[hda]at this;exact this)
  obtain⟨s1,hm1,⟨hw,h1⟩|⟨hw,h1⟩⟩:=afo h hm
  ·rw[bS hw];have h1':opF o.op P F o.dst s1.E s1.R s1.nx (eD P F n ops rest) k=Q r:=h1;rw[EL]at h1';obtain⟨s2,hm2,h2⟩:=Wc h1' hm1;unfold rDo at h2;have e2:∀s:St,ans P F o (eD P F n ops rest) k s=E9 P F (EH s.E) (fk s.R) s.R s.nx o.op (λe=>eD P F n ops rest (s.app o.dst e) k):=λs=>by
    show lU o.op P F (EH s.E) (fk s.R) s.R s.nx (HD o.dst s.E s.R s.nx (eD P F n ops rest) k)=_;rw[Gx,ac5]
   rw[e2]at h2;have hm3:=Mt.gU (gr s2.E o.op) hm2;exact ajX (K:=λe=>eD P F n ops rest ((s2.gU (gr s2.E o.op)).app o.dst e) k) (r:=r) hm3 hd (λE hs=>CQ hF hs rfl h2) λa' w' e q1 q2 _ q4=>cont q1 q2 q4
  ·rw[bT (by rw[hw];exact Bool.false_ne_true)];cases hdst:o.dst with
   |none=>
    rw[hdst]at h1;exact cont rfl h1 hm1
   |some t=>
    rw[hdst]at h1 hd;obtain⟨E,hh,hE,hR,ρ,hag,hsim⟩:=hm1;exact cont rfl h1 ⟨(t, .lit undef)::E,hh.put t _,Env.qW hE (.lit _),hR,ρ,hag,by
     have:=hsim.put (av:= .lit undef) (v:=undef) hd (.lit _);show jH C.C n ((t,bM.sub ρ (.lit undef))::E.sub ρ) _ _ _;rw[bF];exact this⟩
end
def InL(P:Program)(c:Code)(zg:Exit->Act->World->Prop)(a:Act)(w:World):Prop:=
 ∀(b:Frame) (k:aa Item) (cs:aa Frame),∃e a' w',zg e a' w'/\Arrives P (lone (b.at a (.inLoop c::k)) cs w) b k cs e a' w'
def Dr{P:Program}{c:Code}{zg:Exit->Act->World->Prop}{a:Act}{w:World}(h:c.wp P (Exit.then (InL P c zg) zg) a w)(b:Frame)(k:aa Item)(cs:aa Frame):
  ∃e a' w',zg e a' w'/\Arrives P (lone (b.at a (.code c:: .inLoop c::k)) cs w) b k cs e a' w':=by
 obtain⟨e,a₁,w₁,hq,harr⟩:=h b (.inLoop c::k) cs;cases e with
 |normal=>
  obtain⟨e₂,a₂,w₂,hq₂,harr₂⟩:=hq b k cs;exact⟨e₂,a₂,w₂,hq₂, .of_steps harr harr₂⟩
 |exit id=>exact⟨_,a₁,w₁,hq, .pass (x:= .inLoop c) rfl (λ_ _=> .inl (by simp)) harr⟩
 |goto l=>exact⟨_,a₁,w₁,hq, .pass (x:= .inLoop c) rfl (λ_ _=> .inl (by simp)) harr⟩
 |ret=>exact⟨_,a₁,w₁,hq, .pass (x:= .inLoop c) rfl (λ_ _=> .inl (by simp)) harr⟩
 |panic ch=>exact⟨_,a₁,w₁,hq, .pass (x:= .inLoop c) rfl (λ_ _=> .inl (by simp)) harr⟩
 |outgrown=>exact⟨_,a₁,w₁,hq, .pass (x:= .inLoop c) rfl (λ_ _=> .inl (by simp)) harr⟩
def C1{P:Program}{c:Code}{zg:Exit->Act->World->Prop}{a:Act}{w:World}(h:c.wp P (Exit.then (InL P c zg) zg) a w):(Code.loop c).wp P zg a w:=λb k cs=>
 let ⟨e,a',w',hq,harr⟩:=Dr h b k cs
 ⟨e,a',w',hq, .of_steps (.one step_loop) harr⟩
def IU{P:Program}{c:Code}{zg:Exit->Act->World->Prop}{a:Act}{w:World}(h:c.wp P (Exit.then (InL P c zg) zg) a w):InL P c zg a w:=λb k cs=>
 let ⟨e,a',w',hq,harr⟩:=Dr h b k cs
 ⟨e,a',w',hq, .of_steps (.one step_inLoop) harr⟩
section
variable {α:Type} {r:α} {P:Program} {F:aI} {C:Cx} {n:Nat}
abbrev fA(α:Type):=Exit->St->af α
def Jj(k:fA α)(ih:St->af α):fA α:=λe s=>match e with
 | .normal=>ih s
 |e=>k e s
def AZ(b:St->fA α->af α)(k:fA α)(m:Nat):St->af α:=Nat.rec (λ_=>J) (λ_ ih s=>b s (Jj k ih)) m
def SV(b:Bool)(t:Nat)(s:St)(x y:St->af α):af α:=match b with
 |true=>x (s.fh t O)
 |false=>y (s.fh t V)
def mw(c:Operand)(s:St)(x y:St->af α):af α:=match c with
 | .tmp t=>match cu s.E t with
  |some (.lit (.bool b))=>SV b t s x y
  |_=>J
 | .const (.bool O)=>x s
 | .const (.bool V)=>y s
 |_=>J
def Zw(y:St->fA α->af α)(k:fA α):fA α:=λe s=>match e with
 | .normal=>y s k
 |e=>k e s
def o8(id:Nat)(k:fA α):fA α:=λe s=>match e with
 | .exit i=>match zh i id with
  |true=>k .normal s
  |false=>k (.exit i) s
 |e=>k e s
def Vn(s:St)(k:fA α):af α:=k .normal s
def awt(x y:St->fA α->af α)(s:St)(k:fA α):af α:=x s (Zw y k)
def aj3(c:Operand)(x y:St->fA α->af α)(s:St)(k:fA α):af α:=mw c s (λs=>x s k) (λs=>y s k)
def ad7(id:Nat)(x:St->fA α->af α)(s:St)(k:fA α):af α:=x s (o8 id k)
def TI(fuel:Nat)(x:St->fA α->af α)(s:St)(k:fA α):af α:=AZ x k fuel s
def TY(i:Nat)(s:St)(k:fA α):af α:=k (.exit i) s
def ahN(s:St)(k:fA α):af α:=k .ret s
def CC(_:St)(_:fA α):af α:=J
def Yf(P:Program)(s:St):ResultVar->af AV
 | .tmp t=>cu s.E t
 | .cell t ty=>match cu s.E t with
  |some (.ptr id 0)=>match fk s.R id with
   |some (.box _ cs)=>match CL P ty with
    |true=>cs[0]?
    |false=>match Ot P ty with
     |some m=>match zh (yz cs) m with
      |true=>Q (.agg cs)
      |false=>J
     |none=>J
   |_=>J
  |_=>J
def CK(P:Program)(s:St):aa ResultVar->af (aa AV)
 |[]=>Q []
 |x::xs=>match Yf P s x with
  |some d=>(CK P s xs).map λds=>d::ds
  |none=>J
def iH:aa AV->AV
 |[d]=>d
 |ds=> .gH ds
def ku:Nat->AV->aa Nat
 |_, .own id=>[id]
 |_, .ptr id _=>[id]
 |_, .ra id _ _ _=>[id]
 |n+1, .agg cs=>cs.flatMap (ku n)
 |n+1, .gH cs=>cs.flatMap (ku n)
 |n+1, .fn _ cs=>cs.flatMap (ku n)
 |_,_=>[]
def cC(i:Nat):aa Nat->Bool
 |[]=>V
 |j::js=>match zh i j with
  |true=>O
  |false=>cC i js
def aC0(R:aM)(ids:aa Nat):aa Nat:=ids.flatMap λi=>match fk R i with
 |some (.box _ cs)=>cs.flatMap (ku 3)
 |_=>[]
def reach(R:aM):Nat->aa Nat->aa Nat
 |0,ids=>ids
 |m+1,ids=>ids++reach R m (aC0 R ids)
def G8(nx:Nat)(ids:aa Nat)(R:aM):aM:=List.rec [] (λp R ih=>Bool.rec (Bool.rec ih (p::ih) (cC p.1 ids)) (p::R) (zD p.1 nx)) R
def DL(R:aM)(nx:Nat)(d:AV):aM:=G8 nx (reach R 3 (ku 3 d++zU nx)) R
def GK(R:aM)(nx:Nat)(d:AV)(xs:aa AV):aM:=G8 nx (reach R 3 (ku 3 d++xs.flatMap (ku 3))) R
def Hl(i:Nat)(l:aa AV):ET->ET:=List.rec (λ_ T=>T) (λd _ ih i T=>ih (i+1) (jE i d T)) l i
end
end Go.Iv
end
noncomputable section
namespace Go.Iv
variable [U:tQ]
open Go Go.RowKit
abbrev Fr:Type:=Nat->af AV
structure Ins where
 id:Nat
 n:Int
 v:AV
def lZ(n:Int)(v:AV)(es:aa (AV×AV)):aa (AV×AV):=es++[(.lit (.int .i64 n),v)]
inductive PM:aM->aM->Prop
 |perm {R R':aM} (h:List.Perm R R'):PM R R'
 |Pf {R1 R2:aM} {i:Nat} {es es':List (AV×AV)} (h:List.Perm es es'):PM (R1++(i, .mp es)::R2) (R1++(i, .mp es')::R2)
 |trans {R R' R'':aM} (h:PM R R') (h':PM R' R''):PM R R''
def PM.refl(R:aM):PM R R:= .perm (.refl _)
def PM.symm{R R':aM}(h:PM R R'):PM R' R:=by
 induction h with
 |perm h=>exact .perm h.symm
 |Pf h=>exact .Pf h.symm
 |trans _ _ a b=>exact b.trans a
def PM.append_left{R R':aM}(L:aM)(h:PM R R'):PM (L++R) (L++R'):=by
 induction h with
 |perm h=>exact .perm (h.append_left L)
 |@Pf R1 R2 i es es' h=>
  rw[<-yT,<-yT];exact .Pf h
 |trans _ _ a b=>exact a.trans b
def PM.filter{R R':aM}(p:Nat->Bool)(h:PM R R'):PM (R.filter λq=>p q.1) (R'.filter λq=>p q.1):=by
 induction h with
 |perm h=>exact .perm (h.filter _)
 |@Pf R1 R2 i es es' h=>
  rw[yj,yj,xN,xN];cases hp:p i with
  |true=>simp only[dU];exact .Pf h
  |false=>exact .refl _
 |trans _ _ a b=>exact a.trans b
def fH(s:Ins)(q:Nat×IR):Nat×IR:=match zh q.1 s.id with
 |true=>match q.2 with
  | .mp es=>(q.1, .mp (lZ s.n s.v es))
  |_=>q
 |false=>q
def gy(s:Ins)(R:aM):aM:=R.map (fH s)
def K4(s:Ins)(q:Nat×IR):(fH s q).1=q.1:=by
 unfold fH;split
 ·split<;>rfl
 ·rfl
def iI{s:Ins}{q:Nat×IR}(h:q.1≠s.id):fH s q=q:=by
 unfold fH;split
 ·rename_i hb;exact gI (dX hb) h
 ·rfl
def iL{s:Ins}{i:Nat}{es:aa (AV×AV)}(h:i=s.id):fH s (i, .mp es)=(i, .mp (lZ s.n s.v es)):=by
 subst h;unfold fH;rw[yH]
def Af(s:Ins){i T:Nat}{cs:aa AV}:fH s (i, .box T cs)=(i, .box T cs):=by unfold fH;split<;>rfl
def Bi(s:Ins){i t:Nat}{l:aa (U.cA t)}:fH s (i, .row t l)=(i, .row t l):=by unfold fH;split<;>rfl
def FM(s:Ins){i:Nat}{k:KK}{e:VK}{l:aa (k.T×e.T)}:fH s (i, .md k e l)=(i, .md k e l):=by unfold fH;split<;>rfl
def PR{s s':Ins}(q:Nat×IR):fH s (fH s' q)=fH s' (fH s q)\/∃es es',List.Perm es es'/\fH s (fH s' q)=(q.1, .mp es)/\fH s' (fH s q)=(q.1, .mp es'):=by
 obtain⟨i,r⟩:=q;cases r with
 |box T cs=>left;rw[Af,Af,Af]
 |row t l=>left;rw[Bi,Bi,Bi]
 |md k e l=>left;rw[FM,FM,FM]
 |mp es=>
  by_cases h1:i=s.id
  ·by_cases h2:i=s'.id
   ·right;refine⟨lZ s.n s.v (lZ s'.n s'.v es),lZ s'.n s'.v (lZ s.n s.v es),?_,by rw[iL h2,iL h1],by rw[iL h1,iL h2]⟩;unfold lZ;rw[yT,yT];exact List.Perm.append_left _ wJ
   ·left;rw[iI (s:=s') (q:=(i, .mp es)) h2,iI (s:=s') (by rw[K4];exact h2)]
  ·left;rw[iI (s:=s) (q:=(i, .mp es)) h1,iI (s:=s) (by rw[K4];exact h1)]
def C4(s s':Ins):∀R:aM,PM ((R.map (fH s')).map (fH s)) ((R.map (fH s)).map (fH s'))
 |[]=> .refl _
 |q::R=>by
  have ih:=C4 s s' R;simp only[zO];rcases PR (s:=s) (s':=s') q with h|⟨es,es',h1,h2,h3⟩
  ·rw[h];exact ih.append_left [_]
  ·rw[h2,h3];exact(PM.Pf (R1:=[]) h1).trans (ih.append_left [_])
def ac8(s:Ins){R R':aM}(h:PM R R'):PM (R.map (fH s)) (R'.map (fH s)):=by
 induction h with
 |perm h=>exact .perm (h.map _)
 |@Pf R1 R2 i es es' h=>
  rw[zK,zK,zO,zO];by_cases hi:i=s.id
  ·rw[iL hi,iL hi];exact .Pf (h.append_right _)
  ·rw[iI (q:=(i, .mp es)) hi,iI (q:=(i, .mp es')) hi];exact .Pf h
 |trans _ _ a b=>exact a.trans b
structure Rc where
 dst:Option Nat
 v:AV
 (sl rd wr:List Nat)
 ef:Bool
 Lo:aM
 ins:Option Ins
def ek(rd:aa Nat)(R:aM):aM:=R.filter λp=> !cC p.1 rd
def eV(rd:aa Nat)(R:aM):aM:=R.filter λp=>cC p.1 rd
def Rc.F(c:Rc)(f:Fr):Fr:=λt=>if c.dst=Q t then Q c.v else f t
def Rc.R(c:Rc)(R:aM):aM:=match c.ins with
 |some s=>gy s R
 |none=>match c.ef with
  |true=>c.Lo++ek c.wr R
  |false=>R
def iA(s:Ins)(p:Nat->Bool)(R:aM):(gy s R).filter (λq=>p q.1)=gy s (R.filter λq=>p q.1):=by
 unfold gy;rw[List.filter_map]
 congr 1
 refine xP λq _=> ?_;show p (fH s q).1=p q.1;rw[K4]
def tg{s:Ins}{R:aM}(h:∀q∈R,q.1≠s.id):gy s R=R:=by
 unfold gy
 conv=>rhs;rw[<-xK R]
 exact zR λq hq=>iI (h q hq)
def fC:aa Rc->aa Bool->Fr->Fr
 |c::cs,b::bs,f=>fC cs bs (match b with|O=>c.F f|V=>f)
 |_,_,f=>f
def dJ:aa Rc->aa Bool->aM->aM
 |c::cs,b::bs,R=>dJ cs bs (match b with|O=>c.R R|V=>R)
 |_,_,R=>R
def di{i:Nat}:∀{l:aa Nat},cC i l=O↔i∈l
 |[]=>by simp[cC]
 |j::js=>by
  unfold cC;cases h:zh i j with
  |true=>have:=dX h;subst this;simp
  |false=>
   have hne:i≠j:=λe=>by rw[e,yH]at h;cases h
   simp only[zu,hne,false_or];exact di
def fB{i:Nat}{l:aa Nat}:cC i l=V↔i∉l:=by
 cases h:cC i l with
 |true=>simp[di.1 h]
 |false=>simp only[true_iff];exact λhm=>by rw[di.2 hm]at h;cases h
structure CF (c d:Rc):Prop where
 ds:∀t,c.dst=Q t->t∉d.sl/\d.dst≠Q t
 sd:∀t,d.dst=Q t->t∉c.sl
 rc:c.ef=O->(∀i∈c.wr,i∉d.rd)/\(∀p∈c.Lo,p.1∉d.rd)/\∀p∈c.Lo,p.1∉d.wr
 rd:d.ef=O->(∀i∈d.wr,i∉c.rd)/\(∀p∈d.Lo,p.1∉c.rd)/\∀p∈d.Lo,p.1∉c.wr
 ic:∀s,c.ins=Q s->s.id∉d.rd/\s.id∉d.wr/\(∀p∈d.Lo,p.1≠s.id)/\∀s',d.ins=Q s'->s.id=s'.id->s.n≠s'.n
 id:∀s,d.ins=Q s->s.id∉c.rd/\s.id∉c.wr/\(∀p∈c.Lo,p.1≠s.id)/\∀s',c.ins=Q s'->s.id=s'.id->s.n≠s'.n
def CF.symm{c d:Rc}(h:CF c d):CF d c:=⟨λt ht=>⟨h.sd t ht,λe=>(h.ds t e).2 ht⟩,λt ht=>(h.ds t ht).1,h.rd,h.rc,h.id,h.ic⟩
def aBA{c i:Rc}(h:CF c i)(R:aM):eV i.rd (c.R R)=eV i.rd R:=by
 unfold Rc.R;cases hi:c.ins with
 |some s=>
  show (gy s R).filter _=_;rw[iA s (λj=>cC j i.rd),tg]
  ·rfl
  ·intro q hq e;have:=(zS.1 hq).2;rw[e]at this;exact(h.ic s hi).1 (di.1 this)
 |none=>
 cases he:c.ef with
 |false=>rfl
 |true=>
  obtain⟨h1,h2,_⟩:=h.rc he;dsimp only;simp only[eV,ek,yj,xB];have e1:c.Lo.filter (λp=>cC p.1 i.rd)=[]:=wv.2 λp hp=>by simp[fB.2 (h2 p hp)]
  rw[e1,yR];refine xP λp _=> ?_;cases hm:cC p.1 i.rd with
  |false=>rfl
  |true=>
   have:cC p.1 c.wr=V:=fB.2 λhc=>h1 _ hc (di.1 hm);rw[this];rfl
def aAm{c i:Rc}(h:CF c i)(f:Fr){t:Nat}(ht:t∈i.sl):c.F f t=f t:=by
 unfold Rc.F;split
 ·rename_i hd;exact gI ht (h.ds t hd).1
 ·rfl
def adZ{c:Rc}{rd:aa Nat}{R R':aM}(h:eV rd R=eV rd R'):eV rd (c.R R)=eV rd (c.R R'):=by
 unfold Rc.R;cases c.ins with
 |some s=>
  show (gy s R).filter _=(gy s R').filter _;rw[iA s (λj=>cC j rd),iA s (λj=>cC j rd)];exact congrArg (gy s) h
 |none=>
 cases c.ef with
 |false=>exact h
 |true=>
  dsimp only;simp only[eV,ek,yj,xB]at h ⊢
  congr 1
  have e:∀R:aM,R.filter (λp=>cC p.1 rd&& !cC p.1 c.wr)=(R.filter λp=>cC p.1 rd).filter λp=> !cC p.1 c.wr:=λR=>by
   rw[xB];exact xP λp _=>Bool.and_comm ..
  rw[e,e,h]
def Seen(s:Ins)(R:aM):Prop:=∃es,eV [s.id] R=[(s.id, .mp es)]/\∀e∈es,∃m,e.1= .lit (.int .i64 m)/\m≠s.n
def SR(s:Ins)(R R':aM):Prop:=(eV [s.id] R'=[]->eV [s.id] R=[])/\(Seen s R'->Seen s R)
def vR{n:Int}{v:AV}{es:aa (AV×AV)}{e:AV×AV}:e∈lZ n v es↔e∈es\/e=(.lit (.int .i64 n),v):=by
 unfold lZ;simp
def uY(s:Ins)(i:Nat)(R:aM):eV [i] (gy s R)=gy s (eV [i] R):=iA s (λj=>cC j [i]) R
def WI{i:Nat}{R:aM}{q:Nat×IR}(h:q∈eV [i] R):q.1=i:=by
 have:=di.1 (zS.1 h).2;simpa using this
def Gf{s:Ins}{R:aM}:gy s R=[]↔R=[]:=List.map_eq_nil_iff
def Seen.gy{s s':Ins}{R:aM}(h:Seen s R)(hn:s'.id=s.id->s'.n≠s.n):Seen s (gy s' R):=by
 obtain⟨es,h1,h2⟩:=h;unfold Seen;rw[uY,h1];by_cases hi:s'.id=s.id
 ·have hn:=hn hi;refine⟨lZ s'.n s'.v es,?_,λe he=> ?_⟩
  ·show [fH s' (s.id, .mp es)]=_;rw[iL hi.symm]
  ·rcases vR.1 he with he|rfl
   ·exact h2 e he
   ·exact⟨s'.n,rfl,hn⟩
 ·refine⟨es,?_,h2⟩;show [fH s' (s.id, .mp es)]=_;rw[iI (λe=>hi e.symm)]
def Seen.sub{s s':Ins}{R:aM}(h:Seen s (Iv.gy s' R)):Seen s R/\(s'.id=s.id->s'.n≠s.n):=by
 obtain⟨es,h1,h2⟩:=h;rw[uY]at h1;obtain⟨q,hq,h3⟩:∃q,eV [s.id] R=[q]/\fH s' q=(s.id, .mp es):=by
  cases hR:eV [s.id] R with
  |nil=>rw[hR]at h1;cases h1
  |cons q l=>
   rw[hR]at h1;simp only[Iv.gy,zO,List.cons.injEq,List.map_eq_nil_iff]at h1;exact⟨q,by rw[h1.2],h1.1⟩
 have hqi:q.1=s.id:=WI (by rw[hq];exact zC.2 rfl);obtain⟨i,r⟩:=q;simp only at hqi;subst hqi;by_cases hi:s'.id=s.id
 ·cases r with
  |mp fs=>
   rw[iL hi.symm]at h3;simp only[Prod.mk.injEq,true_and,IR.mp.injEq]at h3;subst h3;refine⟨⟨fs,hq,λe he=>h2 e (vR.2 (.inl he))⟩,λ_=> ?_⟩;obtain⟨m,e1,e2⟩:=h2 _ (vR.2 (.inr rfl));simp only[bM.lit.injEq,Value.int.injEq,true_and]at e1;rw[e1];exact e2
  |box T cs=>exfalso;unfold fH at h3;split at h3<;>simp at h3
  |row t l=>exfalso;unfold fH at h3;split at h3<;>simp at h3
  |md k e l=>exfalso;unfold fH at h3;split at h3<;>simp at h3
 ·rw[iI (λe=>hi e.symm)]at h3;exact⟨⟨es,by rw[hq,h3],h2⟩,λe=>gI e hi⟩
def Lg(i:Nat)(R R':aM):eV [i] (R++R')=eV [i] R++eV [i] R':=yj ..
def vJ{i:Nat}{wr:aa Nat}(R:aM)(h:i∈wr):eV [i] (ek wr R)=[]:=by
 unfold eV ek;rw[xB];refine wv.2 λq _=> ?_;intro hq;rw[zj]at hq;have:=di.1 hq.1;simp only[zC]at this;rw[this,di.2 h]at hq;simp at hq
def pE{i:Nat}{wr:aa Nat}(R:aM)(h:i∉wr):eV [i] (ek wr R)=eV [i] R:=by
 unfold eV ek;rw[xB];refine xP λq _=> ?_;cases hm:cC q.1 [i]with
 |false=>rfl
 |true=>
  have:=di.1 hm;simp only[zC]at this;rw[this,fB.2 h];rfl
def SR.both{s:Ins}{c:Rc}{R R':aM}(h:SR s R R'):SR s (c.R R) (c.R R'):=by
 unfold Rc.R;cases c.ins with
 |some s'=>
  refine⟨λh1=> ?_,λh1=> ?_⟩
  ·dsimp only at h1 ⊢;rw[uY,Gf]at h1 ⊢;exact h.1 h1
  ·obtain⟨h2,h3⟩:=Seen.sub h1;exact(h.2 h2).gy h3
 |none=>
 cases c.ef with
 |false=>exact h
 |true=>
  dsimp only;unfold SR Seen;rw[Lg,Lg];by_cases hi:s.id∈c.wr
  ·rw[vJ _ hi,vJ _ hi];exact⟨λh=>h,λh=>h⟩
  ·rw[pE _ hi,pE _ hi];refine⟨λh1=> ?_,λ⟨es,h1,h2⟩=> ?_⟩
   ·rw[List.append_eq_nil_iff]at h1 ⊢;exact⟨h1.1,h.1 h1.2⟩
   ·rcases List.append_eq_singleton_iff.1 h1 with ⟨h3,h4⟩|⟨h3,h4⟩
    ·obtain⟨es',q1,q2⟩:=h.2 ⟨es,h4,h2⟩;exact⟨es',by rw[h3,q1];rfl,q2⟩
    ·exact⟨es,by rw[h3,h.1 h4];rfl,h2⟩
def SR.one{s:Ins}{c i:Rc}{R:aM}(h:CF c i)(hs:i.ins=Q s):(eV [s.id] (c.R R)=[]↔eV [s.id] R=[])/\(Seen s (c.R R)↔Seen s R):=by
 obtain⟨h1,h2,h3,h4⟩:=h.id s hs;unfold Rc.R;cases hc:c.ins with
 |some s'=>
  refine⟨?_,λh=>(Seen.sub h).1,λh=>h.gy λe e2=>h4 s' hc e.symm e2.symm⟩;dsimp only;rw[uY,Gf]
 |none=>
 cases c.ef with
 |false=>exact⟨.rfl, .rfl⟩
 |true=>
  dsimp only;have e1:eV [s.id] c.Lo=[]:=wv.2 λq hq hm=>h3 q hq (by simpa using di.1 hm);unfold Seen;rw[Lg,e1,yR,pE _ h2];exact⟨.rfl, .rfl⟩
def Ez{i:Rc}:∀(cs:aa Rc) (bs bs':aa Bool) (f f':Fr) (R R':aM),yz bs=yz cs->yz bs'=yz cs->
  (∀(j:Nat) c b b',cs[j]? =Q c->bs[j]? =Q b->bs'[j]? =Q b'->b=b'\/CF c i)->
  (∀t∈i.sl,f t=f' t)->eV i.rd R=eV i.rd R'->(∀s,i.ins=Q s->SR s R R')->(∀t∈i.sl,fC cs bs f t=fC cs bs' f' t)/\eV i.rd (dJ cs bs R)=eV i.rd (dJ cs bs' R')/\∀s,i.ins=Q s->SR s (dJ cs bs R) (dJ cs bs' R')
 |[],_,_,f,f',R,R',_,_,_,h1,h2,h3=>⟨by simpa [fC]using h1,by simpa [dJ]using h2,by simpa [dJ]using h3⟩
 |c::cs,[],_,_,_,_,_,hl,_,_,_,_,_=>by cases hl
 |c::cs,_::_,[],_,_,_,_,_,hl,_,_,_,_=>by cases hl
 |c::cs,b::bs,b'::bs',f,f',R,R',hl,hl',hb,h1,h2,h3=>by
  have h0:=hb 0 c b b' rfl rfl rfl;have hrec:=λf f' R R'=>Ez (i:=i) cs bs bs' f f' R R' (by simpa using hl) (by simpa using hl') (λj c b b' q1 q2 q3=>hb (j+1) c b b' q1 q2 q3);unfold fC dJ;refine hrec _ _ _ _ ?_ ?_ ?_
  ·intro t ht;rcases h0 with rfl|hcf
   ·cases b with
    |false=>exact h1 t ht
    |true=>show c.F f t=c.F f' t;unfold Rc.F;split<;>first|rfl|exact h1 t ht
   ·cases b<;>cases b'<;>simp only[aAm hcf _ ht]<;>exact h1 t ht
  ·rcases h0 with rfl|hcf
   ·cases b with
    |false=>exact h2
    |true=>exact adZ h2
   ·cases b<;>cases b'<;>simp only[aBA hcf]<;>exact h2
  ·intro s hs;have h4:=h3 s hs;rcases h0 with rfl|hcf
   ·cases b with
    |false=>exact h4
    |true=>exact h4.both
   ·have o1:=SR.one (R:=R) hcf hs;have o2:=SR.one (R:=R') hcf hs;cases b<;>cases b'
    ·exact h4
    ·exact⟨λh=>h4.1 (o2.1.1 h),λh=>h4.2 (o2.2.1 h)⟩
    ·exact⟨λh=>o1.1.2 (h4.1 h),λh=>o1.2.2 (h4.2 h)⟩
    ·exact⟨λh=>o1.1.2 (h4.1 (o2.1.1 h)),λh=>o1.2.2 (h4.2 (o2.2.1 h))⟩
def apV{c d:Rc}(h:CF c d)(f:Fr):c.F (d.F f)=d.F (c.F f):=by
 funext t
 unfold Rc.F;by_cases h1:c.dst=Q t
 ·rw[bS h1,bT (h.ds t h1).2,bS h1]
 ·by_cases h2:d.dst=Q t
  ·rw[bT h1,bS h2,bS h2]
  ·rw[bT h1,bT h2,bT h2,bT h1]
def akr{c:Rc}{R R':aM}(h:PM R R'):PM (c.R R) (c.R R'):=by
 unfold Rc.R;cases c.ins with
 |some s=>exact ac8 s h
 |none=>
 cases c.ef with
 |false=>exact h
 |true=>exact(h.filter (λj=> !cC j c.wr)).append_left _
def aj7{c d:Rc}(h:CF c d)(R:aM):PM (c.R (d.R R)) (d.R (c.R R)):=by
 have one:∀{c d:Rc},CF c d->∀s,c.ins=Q s->d.ins=J->PM (c.R (d.R R)) (d.R (c.R R)):=λ{c d} h s hs hd=>by
  unfold Rc.R;rw[hs,hd];dsimp only;cases he:d.ef with
  |false=>exact .refl _
  |true=>
   dsimp only;have e1:gy s (d.Lo++ek d.wr R)=gy s d.Lo++gy s (ek d.wr R):=zK ..;have e2:ek d.wr (gy s R)=gy s (ek d.wr R):=iA s (λj=> !cC j d.wr) R;rw[e1,e2,tg (h.ic s hs).2.2.1];exact .refl _
 cases hci:c.ins with
 |some s=>
  cases hdi:d.ins with
  |none=>exact one h s hci hdi
  |some s'=>
   unfold Rc.R;rw[hci,hdi];exact C4 s s' R
 |none=>
 cases hdi:d.ins with
 |some s=>exact(one h.symm s hdi hci).symm
 |none=>
 unfold Rc.R;rw[hci,hdi];dsimp only;cases hc:c.ef with
 |false=>cases d.ef<;>exact .refl _
 |true=>
  cases hd:d.ef with
  |false=>exact .refl _
  |true=>
   obtain⟨h1,_,h2⟩:=h.rc hc;obtain⟨h3,_,h4⟩:=h.rd hd;simp only[ek,yj,xB];have e1:d.Lo.filter (λp=> !cC p.1 c.wr)=d.Lo:=xZ.2 λp hp=>by simp[fB.2 (h4 p hp)]
   have e2:c.Lo.filter (λp=> !cC p.1 d.wr)=c.Lo:=xZ.2 λp hp=>by simp[fB.2 (h2 p hp)]
   rw[e1,e2,<-yT,<-yT];refine .perm ((wJ).append ?_);rw[show (R.filter λa=> !cC a.1 c.wr&& !cC a.1 d.wr)=R.filter λa=> !cC a.1 d.wr&& !cC a.1 c.wr from xP λp _=>Bool.and_comm ..]
def late{i:Rc}:∀(cs:aa Rc) (bs:aa Bool) (f:Fr) (R R':aM),(∀(j:Nat) c,cs[j]? =Q c->bs[j]? =Q O->CF i c)->PM R' (i.R R)->
  i.F (fC cs bs f)=fC cs bs (i.F f)/\PM (i.R (dJ cs bs R)) (dJ cs bs R')
 |[],_,f,R,R',_,hp=>⟨rfl,hp.symm⟩
 |_::_,[],f,R,R',_,hp=>⟨rfl,hp.symm⟩
 |c::cs,b::bs,f,R,R',hb,hp=>by
  unfold fC dJ;cases b with
  |false=>exact late cs bs f R R' (λj c q1 q2=>hb (j+1) c q1 q2) hp
  |true=>
   have hcf:=hb 0 c rfl rfl;have h1:=late cs bs (c.F f) (c.R R) (c.R R') (λj c q1 q2=>hb (j+1) c q1 q2) ((akr hp).trans (aj7 hcf.symm R));refine⟨?_,h1.2⟩;rw[h1.1,apV hcf]
def A9:∀(pre:aa Rc) (bp:aa Bool) (cs:aa Rc) (bs:aa Bool) (f:Fr),yz bp=yz pre->fC (pre++cs) (bp++bs) f=fC cs bs (fC pre bp f)
 |[],[],_,_,_,_=>rfl
 |_::_,[],_,_,_,h=>by cases h
 |[],_::_,_,_,_,h=>by cases h
 |c::pre,b::bp,cs,bs,f,h=>by
  show fC (pre++cs) (bp++bs) _=_;rw[A9 pre bp cs bs _ (by simpa using h)];rfl
def vO:∀(pre:aa Rc) (bp:aa Bool) (cs:aa Rc) (bs:aa Bool) (R:aM),yz bp=yz pre->dJ (pre++cs) (bp++bs) R=dJ cs bs (dJ pre bp R)
 |[],[],_,_,_,_=>rfl
 |_::_,[],_,_,_,h=>by cases h
 |[],_::_,_,_,_,h=>by cases h
 |c::pre,b::bp,cs,bs,R,h=>by
  show dJ (pre++cs) (bp++bs) _=_;rw[vO pre bp cs bs _ (by simpa using h)];rfl
def Yi{cs:aa Rc}{bs:aa Bool}{i:Nat}{c:Rc}(f:Fr)(R:aM)(hl:yz bs=yz cs)(hc:cs[i]? =Q c)(hb:bs[i]? =Q V)
  (hpre:∀(j:Nat) d,j<i->cs[j]? =Q d->bs[j]? =Q V->CF d c) (hpost:∀(j:Nat) d,i<j->cs[j]? =Q d->bs[j]? =Q O->CF d c):
  (∀t∈c.sl,fC cs bs f t=fC (cs.take i) (zw i O) f t)/\eV c.rd (dJ cs bs R)=eV c.rd (dJ (cs.take i) (zw i O) R)/\
  c.F (fC cs bs f)=fC cs (bs.set i O) f/\PM (c.R (dJ cs bs R)) (dJ cs (bs.set i O) R)/\∀s,c.ins=Q s->Seen s (dJ (cs.take i) (zw i O) R)->Seen s (dJ cs bs R):=by
 have hi:i<yz cs:=(zQ.1 hc).1;have hib:i<yz bs:=by omega
 have ec:cs=cs.take i++c::cs.drop (i+1):=by
  rw[<-(zQ.1 hc).2,<-y7 hi,xF]
 have eb:bs=bs.take i++V::bs.drop (i+1):=by
  rw[<-(zQ.1 hb).2,<-y7 hib,xF]
 have lp:yz (bs.take i)=yz (cs.take i):=by rw[zM,zM];omega
 have eb2:bs.set i O=bs.take i++O::bs.drop (i+1):=by
  rw[wF,bS hib]
 have hF:fC cs bs f=fC (cs.drop (i+1)) (bs.drop (i+1)) (fC (cs.take i) (bs.take i) f):=by
  conv=>lhs;rw[ec,eb]
  rw[A9 _ _ _ _ _ lp];rfl
 have hR:dJ cs bs R=dJ (cs.drop (i+1)) (bs.drop (i+1)) (dJ (cs.take i) (bs.take i) R):=by
  conv=>lhs;rw[ec,eb]
  rw[vO _ _ _ _ _ lp];rfl
 have hF2:fC cs (bs.set i O) f=fC (cs.drop (i+1)) (bs.drop (i+1)) (c.F (fC (cs.take i) (bs.take i) f)):=by
  rw[eb2]
  conv=>lhs;rw[ec]
  rw[A9 _ _ _ _ _ lp];rfl
 have hR2:dJ cs (bs.set i O) R=dJ (cs.drop (i+1)) (bs.drop (i+1)) (c.R (dJ (cs.take i) (bs.take i) R)):=by
  rw[eb2]
  conv=>lhs;rw[ec]
  rw[vO _ _ _ _ _ lp];rfl
 have hpo:∀(j:Nat) d,(cs.drop (i+1))[j]? =Q d->(bs.drop (i+1))[j]? =Q O->CF d c:=λj d q1 q2=>by
  rw[yC]at q1 q2;exact hpost (i+1+j) d (by omega) q1 q2
 have v2:=Ez (i:=c) (cs.drop (i+1)) (bs.drop (i+1)) (zw (yz cs-(i+1)) V) (fC (cs.take i) (bs.take i) f) (fC (cs.take i) (bs.take i) f) (dJ (cs.take i) (bs.take i) R) (dJ (cs.take i) (bs.take i) R)
  (by rw[yc,yc];omega) (by rw[xU,yc]) (λj d b b' q1 q2 q3=>by
   cases b with
   |true=>exact .inr (hpo j d q1 q2)
   |false=>
    rw[wL]at q3;split at q3
    ·cases q3;exact .inl rfl
    ·cases q3) (λt _=>rfl) rfl (λs _=>⟨λh=>h,λh=>h⟩)
 have none_F:∀(cs:aa Rc) (n:Nat) (f:Fr),fC cs (zw n V) f=f:=λcs=>by
  induction cs with
  |nil=>intro n f;rfl
  |cons d cs ih=>
   intro n f;cases n with
   |zero=>rfl
   |succ n=>rw[yE];exact ih n f
 have none_R:∀(cs:aa Rc) (n:Nat) (R:aM),dJ cs (zw n V) R=R:=λcs=>by
  induction cs with
  |nil=>intro n f;rfl
  |cons d cs ih=>
   intro n f;cases n with
   |zero=>rfl
   |succ n=>rw[yE];exact ih n f
 have v1:=Ez (i:=c) (cs.take i) (bs.take i) (zw i O) f f R R lp (by rw[xU,zM];omega) (λj d b b' q1 q2 q3=>by
   rw[yw]at q1 q2;rw[wL]at q3;split at q1
   ·rename_i hji;rw[bS hji]at q2 q3;cases q3;cases b with
    |true=>exact .inl rfl
    |false=>exact .inr (hpre j d hji q1 q2)
   ·cases q1) (λt _=>rfl) rfl (λs _=>⟨λh=>h,λh=>h⟩)
 refine⟨λt ht=> ?_,?_,?_,?_,λs hs h=> ?_⟩
 ·rw[hF,v2.1 t ht,none_F,v1.1 t ht]
 ·rw[hR,v2.2.1,none_R,v1.2.1]
 ·rw[hF,hF2];exact(late (i:=c) _ _ _ (dJ (cs.take i) (bs.take i) R) _ (λj d q1 q2=>(hpo j d q1 q2).symm) (.refl _)).1
 ·rw[hR,hR2];exact(late (i:=c) _ _ (fC (cs.take i) (bs.take i) f) _ _ (λj d q1 q2=>(hpo j d q1 q2).symm) (.refl _)).2
 ·have e1:=v2.2.2 s hs;rw[none_R,<-hR]at e1;exact e1.2 ((v1.2.2 s hs).2 h)
end Go.Iv
end
noncomputable section
namespace Go.Iv
variable [U:tQ] [L:sG]
open Go Go.RowKit
def lm(l:aa Nat):Nat:=List.rec 0 (λt _ ih=>Nat.lor ih (Nat.pow 2 t)) l
def Mr:∀(l:aa Nat) (t:Nat),(lm l).testBit t=O↔t∈l
 |[],t=>by simp[lm]
 |a::l,t=>by
  show ((lm l)|||2^a).testBit t=O↔_;rw[Nat.testBit_or,yL,Mr l t,Nat.testBit_two_pow];grind
def and_zero{x y t:Nat}(h:Nat.land x y=0)(hx:x.testBit t=O)(hy:y.testBit t=O):False:=by
 have:=Nat.testBit_and x y t;simp_all
def msk(acc:aa Nat)(es:aa Edge):Nat:=List.rec 0 (λe _ ih=>match Region.binds .any e with
 |true=>Nat.lor ih (Nat.lor (Nat.pow 2 e.on) (acc.getD e.on 0))
 |false=>ih) es
def Fa{acc:aa Nat}:∀{es:aa Edge} {j:Nat},(msk acc es).testBit j=O->∃e∈es,Region.binds .any e=O/\(j=e.on\/(acc.getD e.on 0).testBit j=O)
 |[],j,h=>by simp[msk]at h
 |e::es,j,h=>by
  change (match Region.binds .any e with
   |true=>Nat.lor (msk acc es) (Nat.lor (Nat.pow 2 e.on) (acc.getD e.on 0))
   |false=>msk acc es).testBit j=O at h
  cases hb:Region.binds .any e with
  |false=>
   rw[hb]at h;obtain⟨e',h1,h2⟩:=Fa h;exact⟨e',zH _ h1,h2⟩
  |true=>
   rw[hb]at h;change ((msk acc es)|||((2^e.on)|||(acc.getD e.on 0))).testBit j=O at h;rw[Nat.testBit_or,Nat.testBit_or,yL,yL,Nat.testBit_two_pow]at h;rcases h with h|h|h
   ·obtain⟨e',h1,h2⟩:=Fa h;exact⟨e',zH _ h1,h2⟩
   ·exact⟨e,zq,hb, .inl (by simp only[decide_eq_true_eq]at h;exact h.symm)⟩
   ·exact⟨e,zq,hb, .inr h⟩
def Gg(l:aa Oper):aa Nat->aa Nat:=List.rec (λacc=>acc) (λo _ ih acc=>ih (acc++[msk acc o.after.toList])) l
def Rdy(bs:aa Bool)(o:Oper):Prop:=∀e∈o.after.toList,Region.binds .any e=O->bs[e.on]? =Q O
def BZ(ops:aa Oper)(bs:aa Bool):Prop:=∀(i:Nat) o,ops[i]? =Q o->bs[i]? =Q O->Rdy bs o
def R9(ops:aa Oper)(acc:aa Nat):Prop:=∀(i m:Nat) o,acc[i]? =Q m->ops[i]? =Q o->∀bs,BZ ops bs->Rdy bs o->∀j,m.testBit j=O->bs[j]? =Q O
def O8(ops:aa Oper):∀(l:aa Oper) (acc:aa Nat),(∃pre,ops=pre++l/\yz pre=yz acc)->R9 ops acc->R9 ops (Gg l acc)
 |[],acc,_,h=>h
 |o::l,acc,⟨pre,hp,hl⟩,h=>by
  refine O8 ops l _ ⟨pre++[o],by rw[hp];simp,by simp[hl]⟩ λi m o' hm ho bs hc hr j hj=> ?_;rw[yB]at hm;split at hm
  ·exact h i m o' hm ho bs hc hr j hj
  ·rename_i hlt;have hi:i=yz acc:=by
    have:=(zQ.1 hm).1;simp at this;omega
   subst hi;rw[xy]at hm;cases hm;have ho':o'=o:=by
    simp_all
   subst ho';obtain⟨e,h1,h2,h3⟩:=Fa hj;have h4:=hr e h1 h2;rcases h3 with rfl|h3
   ·exact h4
   ·cases ha:acc[e.on]? with
    |none=>rw[x8,ha]at h3;simp at h3
    |some m'=>
     rw[x8,ha]at h3;have hlt':=(zQ.1 ha).1;cases hoe:ops[e.on]? with
     |none=>
      rw[List.getElem?_eq_none_iff,hp,zF]at hoe;omega
     |some oe=>exact h e.on m' oe ha hoe bs hc (hc e.on oe hoe h4) j h3
def atB:Operand->aa Nat
 | .tmp t=>[t]
 |_=>[]
def af0(ops:Array Oper)(o:Oper):aa Nat:=match o.guard with
 |none=>[]
 |some (j,_)=>match (ops[j]?).bind (·.dst)with
  |some t=>[t]
  |none=>[]
def bP(ops:Array Oper)(o:Oper):aa Nat:=o.op.operands.toList.flatMap atB++af0 ops o
def Z3(o:Oper):Bool:=match o.op with
 | .store _ _ _=>O
 | .buildSlice _ _ _=>O
 | .makeSlice _ _ _=>O
 | .alloc _=>O
 | .box _ _=>O
 | .makeMap _ _=>O
 | .mapUpdate _ _ _ _=>O
 | .insert _ _ _ _=>O
 | .slice _ _ _ _ _=>O
 | .call {callee:= .builtin .len, ..}=>V
 | .call {callee:= .builtin .max, ..}=>V
 | .call {callee:= .builtin .min, ..}=>V
 | .call _=>O
 |_=>V
def dmk:af Nat->Nat
 |none=>0
 |some t=>Nat.pow 2 t
def uK{d:af Nat}{t:Nat}(h:d=Q t):(dmk d).testBit t=O:=by
 subst h;show (2^t).testBit t=O;simp
structure Sk where
 (anc sm dm:Nat)
 ef:Bool
def PI(j:Nat)(a b:Sk):Bool:=b.anc.testBit j||(zh (Nat.land a.dm b.sm) 0&&zh (Nat.land a.dm b.dm) 0&&zh (Nat.land b.dm a.sm) 0)
def OO(b:Sk)(i:Nat)(l:aa Sk):Nat->af (aa (Nat×Nat)):=List.rec (λ_=>Q []) (λa _ ih j=>match PI j a b with
 |true=>match !b.anc.testBit j&&(a.ef||b.ef)with
  |true=>(ih (j+1)).map λps=>(j,i)::ps
  |false=>ih (j+1)
 |false=>J) l
def aiv(l:aa Sk):aa Sk->Nat->af (aa (Nat×Nat)):=List.rec (λ_ _=>Q []) (λb _ ih pre i=>(OO b i pre 0).bind λps=>(ih (pre++[b]) (i+1)).map λqs=>ps++qs) l
def BW{b:Sk}{i:Nat}:∀{l:aa Sk} {k:Nat} {ps:aa (Nat×Nat)},OO b i l k=Q ps->∀(j:Nat) a,l[j]? =Q a->PI (k+j) a b=O/\(b.anc.testBit (k+j)=O\/(a.ef||b.ef)=V\/(k+j,i)∈ps)
 |[],k,ps,_,j,a,h=>by cases h
 |a0::l,k,ps,hs,j,a,h=>by
  change (match PI k a0 b with
   |true=>match !b.anc.testBit k&&(a0.ef||b.ef)with
    |true=>(OO b i l (k+1)).map λps=>(k,i)::ps
    |false=>OO b i l (k+1)
   |false=>J)=Q ps at hs
  cases h0:PI k a0 b with
  |false=>rw[h0]at hs;cases hs
  |true=>
   rw[h0]at hs;cases h1:(!b.anc.testBit k&&(a0.ef||b.ef))with
   |true=>
    rw[h1]at hs;obtain⟨ps',h2,rfl⟩:=zk.1 hs;cases j with
    |zero=>cases h;exact⟨h0, .inr (.inr zq)⟩
    |succ j=>
     obtain⟨h3,h4⟩:=BW h2 j a h;rw[show k+1+j=k+(j+1)from by omega]at h3 h4;exact⟨h3,h4.imp id (λh=>h.imp id λh=>zH _ h)⟩
   |false=>
    rw[h1]at hs;cases j with
    |zero=>
     cases h;refine⟨h0,?_⟩;cases hb:b.anc.testBit k with
     |true=>exact .inl rfl
     |false=>rw[hb]at h1;exact .inr (.inl (by simpa using h1))
    |succ j=>
     obtain⟨h3,h4⟩:=BW hs j a h;rw[show k+1+j=k+(j+1)from by omega]at h3 h4;exact⟨h3,h4⟩
def IN:∀{l pre:aa Sk} {k:Nat} {ps:aa (Nat×Nat)},aiv l pre k=Q ps->yz pre=k->∀(i j:Nat) a b,j<i->k<=i->(pre++l)[j]? =Q a->(pre++l)[i]? =Q b->PI j a b=O/\(b.anc.testBit j=O\/(a.ef||b.ef)=V\/(j,i)∈ps)
 |[],pre,k,ps,_,hk,i,j,a,b,_,hki,_,hb=>by
  rw[yW]at hb;have:=(zQ.1 hb).1;omega
 |b0::l,pre,k,ps,hs,hk,i,j,a,b,hji,hki,ha,hb=>by
  obtain⟨p1,h1,hs⟩:=zn.1 hs;obtain⟨p2,h2,rfl⟩:=zk.1 hs;by_cases hik:i=k
  ·subst hik;rw[xO (by omega),hk,xy]at hb;cases hb;rw[xY (by omega)]at ha;have:=BW h1 j a ha;rw[ya]at this;exact⟨this.1,this.2.imp id λh=>h.imp id λh=>zZ _ h⟩
  ·have h3:=IN h2 (by simp[hk]) i j a b hji (by omega) (by simpa using ha) (by simpa using hb);exact⟨h3.1,h3.2.imp id λh=>h.imp id λh=>yh _ h⟩
def aqt(ops:Array Oper)(l:aa Oper):aa Nat->aa Sk:=List.rec (λ_=>[]) (λo _ ih ms=>match ms with
 |m::ms=>⟨m,lm (bP ops o),dmk o.dst,Z3 o⟩::ih ms
 |[]=>[]) l
def plan(ops:Array Oper):af (aa (Nat×Nat)):=aiv (aqt ops ops.toList (Gg ops.toList [])) [] 0
def WL(l:aa Oper):∀acc:aa Nat,yz (Gg l acc)=yz acc+yz l:=by
 induction l with
 |nil=>intro acc;rfl
 |cons o l ih=>intro acc;show yz (Gg l (acc++[_]))=_;rw[ih];simp;omega
def Cv(ops:Array Oper):∀(l:aa Oper) (ms:aa Nat) (i:Nat) (o:Oper) (m:Nat),l[i]? =Q o->ms[i]? =Q m->(aqt ops l ms)[i]? =Q ⟨m,lm (bP ops o),dmk o.dst,Z3 o⟩
 |[],_,_,_,_,h,_=>by cases h
 |o0::l,[],_,_,_,_,h=>by cases h
 |o0::l,m0::ms,i,o,m,h1,h2=>by
  cases i with
  |zero=>cases h1;cases h2;rfl
  |succ i=>exact Cv ops l ms i o m h1 h2
def aaq(xs:aa Nat)(Lo:aM)(ys:aa Nat):Bool:=xs.all (λi=> !cC i ys)&&Lo.all λp=> !cC p.1 ys
def aev(c d:Rc):Bool:=match c.ins with
 |none=>O
 |some s=>match !cC s.id d.rd&& !cC s.id d.wr&&(d.Lo.all λp=> !zh p.1 s.id)with
  |true=>match d.ins with
   |none=>O
   |some s'=>match zh s.id s'.id with
    |true=> !Z (s.n=s'.n)
    |false=>O
  |false=>V
def Nt{c d:Rc}(h:aev c d=O):∀s,c.ins=Q s->s.id∉d.rd/\s.id∉d.wr/\(∀p∈d.Lo,p.1≠s.id)/\∀s',d.ins=Q s'->s.id=s'.id->s.n≠s'.n:=λs hs=>by
 unfold aev at h;rw[hs]at h;dsimp only at h;split at h
 case h_2=>cases h
 rename_i h0;simp only[zj,Bool.not_eq_true']at h0;obtain⟨⟨h1,h2⟩,h3⟩:=h0;refine⟨fB.1 h1,fB.1 h2,λp hp e=> ?_,λs' hs' he hn=> ?_⟩
 ·have:=zx.1 h3 p hp;rw[e,yH]at this;cases this
 ·rw[hs']at h;dsimp only at h;rw[he,hn,yH]at h;simp at h
def cfD(c d:Rc):Bool:=(!c.ef||aaq c.wr c.Lo d.rd)&&(!d.ef||aaq d.wr d.Lo c.rd)&&aev c d&&aev d c
def EF(ps:aa (Nat×Nat))(cs:aa Rc):Bool:=List.rec O (λp _ ih=>match cs[p.1]?,cs[p.2]? with
 |some c,Q d=>match cfD c d with
  |true=>ih
  |false=>V
 |_,_=>V) ps
def Dv{cs:aa Rc}:∀{ps:aa (Nat×Nat)},EF ps cs=O->∀p∈ps,(match cs[p.1]?,cs[p.2]? with
 |some c,Q d=>cfD c d
 |_,_=>V)=O
 |[],_,p,hp=>by cases hp
 |p0::ps,h,p,hp=>by
  change (match cs[p0.1]?,cs[p0.2]? with
   |some c,Q d=>match cfD c d with
    |true=>EF ps cs
    |false=>V
   |_,_=>V)=O at h
  split at h
  ·rename_i c d hc hd;split at h
   ·rename_i h1;rcases zu.1 hp with rfl|hp
    ·rw[hc,hd];exact h1
    ·exact Dv h p hp
   ·cases h
  ·cases h
def Nw{xs ys:aa Nat}{Lo:aM}(h:aaq xs Lo ys=O):(∀i∈xs,i∉ys)/\∀p∈Lo,p.1∉ys:=by
 unfold aaq at h;simp only[zj,zx,Bool.not_eq_true']at h;exact⟨λi hi=>fB.1 (h.1 i hi),λp hp=>fB.1 (h.2 p hp)⟩
def abl{ops:Array Oper}{ps:aa (Nat×Nat)}{cs:aa Rc}(hp:plan ops=Q ps)(ho:EF ps cs=O)(hcs:∀(i:Nat) c,cs[i]? =Q c->∃o,ops.toList[i]? =Q o/\c.dst=o.dst/\c.sl=bP ops o/\(c.ef=O->Z3 o=O)/\(∀i∈c.wr,i∈c.rd)/\(c.ins≠J->Z3 o=O))
  {i j:Nat} {c d:Rc} (hji:j<i) (hc:cs[j]? =Q c) (hd:cs[i]? =Q d):
  CF c d\/∀bs,BZ ops.toList bs->(∀o,ops.toList[i]? =Q o->Rdy bs o)->bs[j]? =Q O:=by
 obtain⟨o1,h1,h2,h3,h4,h5,h6⟩:=hcs j c hc;obtain⟨o2,g1,g2,g3,g4,g5,g6⟩:=hcs i d hd;have hl1:=(zQ.1 h1).1;have hl2:=(zQ.1 g1).1;have hml:yz (Gg ops.toList [])=yz ops.toList:=by rw[WL];simp
 obtain⟨m1,hm1⟩:∃m,(Gg ops.toList [])[j]? =Q m:=⟨_,zm (by rw[hml];exact hl1)⟩;obtain⟨m2,hm2⟩:∃m,(Gg ops.toList [])[i]? =Q m:=⟨_,zm (by rw[hml];exact hl2)⟩;have s1:=Cv ops ops.toList _ j o1 m1 h1 hm1;have s2:=Cv ops ops.toList _ i o2 m2 g1 hm2;obtain⟨q1,q2⟩:=IN hp rfl i j _ _ hji (yy _) s1 s2;have hmsk:R9 ops.toList (Gg ops.toList []):=O8 ops.toList ops.toList [] ⟨[],rfl,rfl⟩ λi m o h=>by cases h
 by_cases ha:m2.testBit j=O
 ·exact .inr λbs hcl hr=>hmsk i m2 o2 hm2 g1 bs hcl (hr o2 g1) j ha
 ·refine .inl ?_;have ha':m2.testBit j=V:=by simpa using ha
  unfold PI at q1;simp only[ha',Bool.false_or,zj]at q1;obtain⟨⟨r1,r2⟩,r3⟩:=q1;have r1:=dX r1;have r2:=dX r2;have r3:=dX r3;have hdyn:((c.ef||d.ef)=V/\c.ins=J/\d.ins=J)\/cfD c d=O:=by
   rcases q2 with q2|q2|q2
   ·exact gI q2 ha
   ·simp only[Bool.or_eq_false_iff]at q2;left;have e1:c.ef=V:=by
     simp_all
    have e2:d.ef=V:=by
     simp_all
    refine⟨by rw[e1,e2];rfl,?_,?_⟩
    ·cases hi:c.ins with
     |none=>rfl
     |some s=>have:=h6 (by rw[hi];simp);simp_all
    ·cases hi:d.ins with
     |none=>rfl
     |some s=>have:=g6 (by rw[hi];simp);simp_all
   ·right;have:=Dv ho _ q2;simp only[hc,hd]at this;omega
  refine⟨λt ht=>⟨λhm=> ?_,λe=> ?_⟩,λt ht hm=> ?_,λhe=> ?_,λhe=> ?_,λs hs=> ?_,λs hs=> ?_⟩
  ·rw[h2]at ht;rw[g3]at hm;exact and_zero r1 (uK ht) ((Mr _ _).2 hm)
  ·rw[h2]at ht;rw[g2]at e;exact and_zero r2 (uK ht) (uK e)
  ·rw[g2]at ht;rw[h3]at hm;exact and_zero r3 (uK ht) ((Mr _ _).2 hm)
  ·rcases hdyn with h|h
   ·rw[he]at h;simp at h
   ·unfold cfD at h;simp only[he,zj,yL,Bool.not_eq_true']at h;have q:=Nw (h.1.1.1.resolve_left (by simp));exact⟨q.1,q.2,λp hp hx=>q.2 p hp (g5 _ hx)⟩
  ·rcases hdyn with h|h
   ·rw[he]at h;simp at h
   ·unfold cfD at h;simp only[he,zj,yL,Bool.not_eq_true']at h;have q:=Nw (h.1.1.2.resolve_left (by simp));exact⟨q.1,q.2,λp hp hx=>q.2 p hp (h5 _ hx)⟩
  ·rcases hdyn with h|h
   ·rw[h.2.1]at hs;cases hs
   ·unfold cfD at h;simp only[zj]at h;exact Nt h.1.2 s hs
  ·rcases hdyn with h|h
   ·rw[h.2.2]at hs;cases hs
   ·unfold cfD at h;simp only[zj]at h;exact Nt h.2 s hs
def IR.fP(p:Nat->Prop):IR->Prop
 | .box _ cs=>∀c∈cs,Iv.fP p c
 | .row _ _=>True
 | .mp _=>True
 | .md _ _ _=>True
def aM.fP(p:Nat->Prop)(R:aM):Prop:=∀q∈R,p q.1/\q.2.fP p
def IR.fP.mono{p q:Nat->Prop}{r:IR}(h:r.fP p)(hn:∀i,p i->q i):r.fP q:=by
 cases r with
 |box T cs=>exact λc hc=>(h c hc).mono hn
 |row t l=>trivial
 |mp es=>trivial
 |md k e l=>trivial
def aM.fP.mono{p q:Nat->Prop}{R:aM}(h:aM.fP p R)(hn:∀i,p i->q i):aM.fP q R:=λx hx=>⟨hn _ (h x hx).1,(h x hx).2.mono hn⟩
def aM.fP.res{p:Nat->Prop}{R:aM}{ρ ρ':Gh}(h:aM.fP p R)(ha:Ags p ρ ρ'):aM.res ρ R=aM.res ρ' R:=zR λq hq=>by
 obtain⟨h1,h2⟩:=h q hq;obtain⟨i,r⟩:=q;cases r with
 |box T cs=>simp only[IR.res];rw[(ha i h1).2,Iv.fP.Vb h2 ha]
 |row t l=>simp only[IR.res];rw[(ha i h1).1]
 |mp es=>simp only[IR.res];rw[(ha i h1).1]
 |md k e l=>simp only[IR.res];rw[(ha i h1).1]
def aM.fP.perm{p:Nat->Prop}{R R':aM}(h:aM.fP p R)(hp:List.Perm R R'):aM.fP p R':=λq hq=>h q (hp.mem_iff.2 hq)
def aM.ct.lts{n:Nat}{R:aM}(h:aM.ct n R):aM.fP (λi=>i<n) R:=λq hq=>⟨(h q hq).1,by
 have:=(h q hq).2;cases hr:q.2 with
 |box T cs=>rw[hr]at this;exact this
 |row t l=>trivial
 |mp es=>trivial
 |md k e l=>trivial⟩
def aM.fP.nQ{n:Nat}{R:aM}(h:aM.fP (λi=>i<n) R):aM.ct n R:=λq hq=>⟨(h q hq).1,by
 have:=(h q hq).2;cases hr:q.2 with
 |box T cs=>rw[hr]at this;exact this
 |row t l=>trivial
 |mp es=>trivial
 |md k e l=>trivial⟩
def kD(f:Fr)(sl:aa Nat):Env:=sl.filterMap λt=>(f t).map λd=>(t,d)
def BB{f:Fr}{t:Nat}{d:AV}:∀{sl:aa Nat},(kD f sl).get t=Q d->f t=Q d
 |[],h=>by cases h
 |s::sl,h=>by
  unfold kD at h;rw[xd]at h;cases hs:f s with
  |none=>
   rw[hs]at h;exact BB (sl:=sl) h
  |some e=>
   rw[hs]at h;simp only[zX]at h;unfold Env.get at h;cases hb:zh s t with
   |true=>
    simp_all
   |false=>
    rw[hb]at h;exact BB (sl:=sl) h
def uV{f:Fr}{t:Nat}{d:AV}:∀{sl:aa Nat},t∈sl->f t=Q d->(kD f sl).get t=Q d
 |[],h,_=>by cases h
 |s::sl,h,hf=>by
  unfold kD;rw[xd];by_cases hst:s=t
  ·subst hst;rw[hf];exact Env.dP _ _ _
  ·have ht:t∈sl:=(zu.1 h).resolve_left λe=>hst e.symm;cases f s with
   |none=>exact uV ht hf
   |some e=>simp only[zX];rw[Env.cW _ _ hst];exact uV ht hf
def AU{f g:Fr}{sl:aa Nat}(h:∀t∈sl,f t=g t):kD f sl=kD g sl:=by
 unfold kD;induction sl with
 |nil=>rfl
 |cons s sl ih=>
  rw[xd,xd,h s zq,ih λt ht=>h t (zH _ ht)]
section
variable {P:Program} {C:Cx} {n:Nat} {o:Oper}
def Ty(C:Cg)(n:Nat)(p:Nat->Prop)(f:Fr)(R:aM)(a:Act)(w:World):Prop:=∃(E:Env) (ρ:Gh),(∀t d,f t=Q d->E.get t=Q d)/\(∀q∈E,fP p q.2)/\aM.fP p R/\l6 C.n C.ρ ρ/\jH C.C n (E.sub ρ) (aM.res ρ R) a w
def kB{ρ:Gh}{R R':aM}(h:List.Perm R R'):List.Perm (aM.res ρ R) (aM.res ρ R'):=h.map _
def eN{ρ:Gh}(R R':aM):aM.res ρ (R++R')=aM.res ρ R++aM.res ρ R':=zK ..
def Ty.perm{C:Cg}{p:Nat->Prop}{f:Fr}{R R':aM}{a:Act}{w:World}(h:Ty C n p f R a w)(hp:List.Perm R R'):Ty C n p f R' a w:=by
 obtain⟨E,ρ,h1,h2,h3,h5,h4⟩:=h;exact⟨E,ρ,h1,h2,h3.perm hp,h5,h4.perm (kB hp)⟩
def ZH{ρ:Gh}{R R':aM}(h:PM R R'):List.Perm (aY (aM.res ρ R)) (aY (aM.res ρ R')):=by
 induction h with
 |perm h=>exact(h.map _).filterMap _
 |@Pf R1 R2 i es es' h=>
  have:aY (aM.res ρ (R1++(i,IR.mp es)::R2))=aY (aM.res ρ (R1++(i,IR.mp es')::R2)):=by
   rw[eN,eN,dY,dY];rfl
  rw[this]
 |trans _ _ a b=>exact a.trans b
def Good.pm{C:Cx}{ρ:Gh}{R R':aM}{w:World}(h:PM R R'):Good C (aM.res ρ R) w->Good C (aM.res ρ R') w:=by
 induction h with
 |perm h=>exact λhg=>hg.perm (kB h)
 |@Pf R1 R2 i es es' h=>
  intro hg;have hb:aY (aM.res ρ (R1++(i,IR.mp es)::R2))=aY (aM.res ρ (R1++(i,IR.mp es')::R2)):=by
   rw[eN,eN,dY,dY];rfl
  have hal:∀b,al C (aM.res ρ (R1++(i,IR.mp es)::R2)) b->al C (aM.res ρ (R1++(i,IR.mp es')::R2)) b:=λb hA=>⟨hA.1,by rw[<-hb];exact hA.2⟩;refine⟨hg.kept,λr hr=> ?_,by rw[<-hb];exact hg.sN,λb hx=>hg.own b (by rw[hb];exact hx)⟩;have key:∀r∈aM.res ρ (R1++(i,IR.mp es)::R2),r.ok (al C (aM.res ρ (R1++(i,IR.mp es')::R2))) w:=λr hr=>(hg.res r hr).mono (λb _ hA=>⟨hal b hA,rfl⟩) (λ_ _=>rfl);rw[eN]at hr;rcases zV.1 hr with hr|hr
  ·exact key r (by rw[eN];exact zZ _ hr)
  ·rcases zu.1 hr with rfl|hr
   ·have:=key (.mp (ρ.v i) es) (by rw[eN];exact yh _ zq);obtain⟨b,ar,cl,h1,h2,fs,h3,h4⟩:=this;exact⟨b,ar,cl,h1,h2,fs,h3.trans h,h4⟩
   ·exact key r (by rw[eN];exact yh _ (zH _ hr))
 |trans _ _ a b=>exact λhg=>b (a hg)
def jH.pm{C:Cx}{n:Nat}{E:Env}{ρ:Gh}{R R':aM}{a:Act}{w:World}(h:PM R R')(hs:jH C n E (aM.res ρ R) a w):jH C n E (aM.res ρ R') a w:=by
 have hb:=ZH (ρ:=ρ) h;have hm:∀b,b∈aY (aM.res ρ R')↔b∈aY (aM.res ρ R):=λb=>hb.symm.mem_iff;have hal:∀b,al C (aM.res ρ R) b->al C (aM.res ρ R') b:=λb hA=>⟨hA.1,λhx=>hA.2 ((hm b).1 hx)⟩;obtain⟨Ds,d1,d2,d3⟩:=hs.defers;exact⟨⟨Ds,d1,d2,λD hD=>by
  obtain⟨q1,q2,q3,q4⟩:=d3 D hD;exact⟨q1,q2,λhx=>q3 ((hm D).1 hx),q4⟩⟩,hs.size,λs av q=>by
  obtain⟨v,q1,q2⟩:=hs.slots s av q;exact⟨v,q1,q2.mono λb _ hA=>⟨hal b hA,rfl⟩⟩,hs.good.pm h⟩
def al8{p:Nat->Prop}{R R':aM}(h:PM R R'):aM.fP p R->aM.fP p R':=by
 induction h with
 |perm h=>exact λhp=>hp.perm h
 |@Pf R1 R2 i es es' h=>
  intro hp q hq;rcases zV.1 hq with hq|hq
  ·exact hp q (zZ _ hq)
  ·rcases zu.1 hq with rfl|hq
   ·exact⟨(hp (i, .mp es) (yh _ zq)).1,trivial⟩
   ·exact hp q (yh _ (zH _ hq))
 |trans _ _ a b=>exact λhp=>b (a hp)
def Ty.pm{C:Cg}{p:Nat->Prop}{f:Fr}{R R':aM}{a:Act}{w:World}(h:Ty C n p f R a w)(hp:PM R R'):Ty C n p f R' a w:=by
 obtain⟨E,ρ,h1,h2,h3,h5,h4⟩:=h;exact⟨E,ρ,h1,h2,al8 hp h3,h5,h4.pm hp⟩
def Nlc(nx:Nat)(v:AV)(Ro:aM)(ρ:Gh):af AV->aa bH->Prop:=λa σ'=>∃ρ',l6 nx ρ ρ'/\(a=Q (v.sub ρ')\/a=J/\v= .lit undef)/\List.Perm σ' (aM.res ρ' Ro)
def aeV{wr rd:aa Nat}(h:∀i∈wr,i∈rd)(R:aM):List.Perm (ek wr (eV rd R)++ek rd R) (ek wr R):=by
 have e1:ek wr (eV rd R)=(ek wr R).filter λp=>cC p.1 rd:=by
  simp only[ek,eV,xB];grind
 have e2:ek rd R=(ek wr R).filter λp=> !cC p.1 rd:=by
  simp only[ek,xB];refine xP λp _=> ?_;cases hm:cC p.1 rd with
  |true=>rfl
  |false=>
   have:cC p.1 wr=V:=fB.2 λhw=>fB.1 hm (h _ hw);rw[this];rfl
 rw[e1,e2];exact wM _ _
def Sq{C:Cg}{p:Nat->Prop}{f:Fr}{R:aM}{a:Act}{w:World}{c:Rc}{nx nx':Nat}{zg:Exit->Act->World->Prop}{K':Act->World->Prop}
  (hci:c.ins=J) (hn:C.n<=nx) (hm:Ty C n p f R a w) (hdst:c.dst=o.dst) (hd:IV n o.dst=O) (hwr:∀i∈c.wr,i∈c.rd) (hloc:∀ρ C,Ye P ((kD f c.sl).sub ρ) (aM.res ρ (eV c.rd R)) o C (Nlc nx c.v (match c.ef with|O=>c.Lo++ek c.wr (eV c.rd R)|V=>eV c.rd R) ρ))
  (hp:∀i,p i->¬(nx<=i/\i<nx')) (hv:ct nx' c.v) (hLi:aM.ct nx (eV c.rd R)) (hLo:c.ef=O->aM.ct nx' c.Lo)
  (hv':fP (λi=>p i\/(nx<=i/\i<nx')) c.v) (hLo':c.ef=O->aM.fP (λi=>p i\/(nx<=i/\i<nx')) c.Lo)
  (hK:∀a' w',a'.defers=a.defers->Ty C n (λi=>p i\/(nx<=i/\i<nx')) (c.F f) (c.R R) a' w'->K' a' w'):o.wp P a w K' zg:=by
 obtain⟨E,ρ,h1,h2,h3,h0,hsim0⟩:=hm;have hpm:List.Perm (eV c.rd R++ek c.rd R) R:=wM _ _;have hsim:=hsim0.perm (kB (ρ:=ρ) hpm.symm);rw[eN]at hsim;generalize hσi:aM.res ρ (eV c.rd R)=σi at hsim;generalize hσr:aM.res ρ (ek c.rd R)=σr at hsim;have hg:=hsim.good;have hlt:∀b∈aY (σi++σr),b<w.heap.size:=λb hb=>by
  obtain⟨s,q1,q2⟩:=bw.1 hb;exact(hg.res s q1).lt q2
 have hal:∀b,al C.C (σi++σr) b->al ⟨w,al C.C (σi++σr),aY σi⟩ σi b:=λb hA=>⟨.inl hA,λhx=>hA.2 (bC.2 (.inl hx))⟩;have hgood:Good ⟨w,al C.C (σi++σr),aY σi⟩ σi w:=⟨Kp.refl _ _,λr hr=>(hg.res r (zZ _ hr)).mono (λb _ hA=>⟨hal b hA,rfl⟩) (λ_ _=>rfl),by
  have:=hg.sN;rw[dY]at this;exact(yx.1 this).1,λb hb=> .inl hb⟩
 have hops:JT (al ⟨w,al C.C (σi++σr),aY σi⟩ σi) w ((kD f c.sl).sub ρ) a.eval:=λx u hx=>by
  rw[Env.L5]at hx;obtain⟨d,hd1,rfl⟩:=zk.1 hx;have hE:E.ev x=Q d:=by
   cases x with
   |tmp t=>exact h1 t d (BB hd1)
   |_=>exact hd1
  exact(hsim.slots.ops x (d.sub ρ) (by rw[Env.L5,hE];rfl)).mono λb _ hA=>⟨hal b hA,rfl⟩
 have step:∀(ρ':Gh) (σo:aa bH) (w':World),l6 nx ρ ρ'->List.Perm σo (aM.res ρ' (match c.ef with|O=>c.Lo++ek c.wr (eV c.rd R)|V=>eV c.rd R))->Tr ⟨w,al C.C (σi++σr),aY σi⟩ (aY σi) σi w σo w'->
   ∃ρ'':Gh,l6 C.n C.ρ ρ''/\c.v.sub ρ'=c.v.sub ρ''/\jH C.C n (E.sub ρ'') (aM.res ρ'' (c.R R)) a w'/\(∀b,b<w'.heap.size->al ⟨w,al C.C (σi++σr),aY σi⟩ σo b->al C.C (aM.res ρ'' (c.R R)) b):=λρ' σo w' ha hσo ht=>by
  let ρ'':Gh:=⟨λi=>if nx<=i/\i<nx' then ρ'.v i else ρ.v i,λi=>if nx<=i/\i<nx' then ρ'.b i else ρ.b i⟩
  have hag:Ags p ρ ρ'':=λi hi=>by
   have:=hp i hi;exact⟨by simp only[ρ'',bT this],by simp only[ρ'',bT this]⟩
  have hag2:l6 nx' ρ' ρ'':=λi hi=>by
   by_cases hni:nx<=i
   ·exact⟨by simp only[ρ'',bS (And.intro hni hi)],by simp only[ρ'',bS (And.intro hni hi)]⟩
   ·have h0:¬(nx<=i/\i<nx'):=λh=>hni h.1;obtain⟨a1,a2⟩:=ha i (by omega);exact⟨by simp only[ρ'',bT h0];exact a1.symm,by simp only[ρ'',bT h0];exact a2.symm⟩
  have hnx:nx<=nx'\/nx'<nx:=by omega
  have hown:∀b∈aY σo,b∈aY σi\/w.heap.size<=b:=ht.good.own;have hsub:∀b,b<w'.heap.size->al ⟨w,al C.C (σi++σr),aY σi⟩ σo b->al C.C (σo++σr) b:=λb _ hb=>by
   obtain⟨hb1,hb2⟩:=hb;rcases hb1 with hb1|hb1|hb1
   ·exact⟨hb1.1,λhx=>(bC.1 hx).elim hb2 (λh=>hb1.2 (bC.2 (.inr h)))⟩
   ·have hbp:b∈aY σi:=hb1;refine⟨?_,λhx=>(bC.1 hx).elim hb2 (λh=> ?_)⟩
    ·rcases hg.own b (bC.2 (.inl hbp))with h|h
     ·simp_all
     ·omega
    ·have hdis:=hg.sN;rw[dY]at hdis;exact(yx.1 hdis).2.2 b hbp b h rfl
   ·have hbw:w.heap.size<=b:=hb1;exact⟨.inr (.inr (zY hg.kept.size hbw)),λhx=>(bC.1 hx).elim hb2 (λh=>by have:=hlt b (bC.2 (.inr h));omega)⟩
  have ht2:Tr C.C (aY σi) (σi++σr) w (σo++σr) w':=u6 hg (λb hA _=> .inl hA) ht (λr hr=>(ht.good.res r hr).mono (λb hb hA=>⟨hsub b hb hA,rfl⟩) (λ_ _=>rfl));have hs2:=hsim.tr ht2;have hout:aM.fP p (ek c.rd R):=λq hq=>h3 q (zS.1 hq).1;have hEs:E.sub ρ=E.sub ρ'':=zR λq hq=>by rw[(h2 q hq).sub hag]
  have hrs:σr=aM.res ρ'' (ek c.rd R):=by rw[<-hσr,hout.res hag]
  have hpo:List.Perm (σo++σr) (aM.res ρ'' (c.R R)):=by
   rw[hrs];unfold Rc.R;rw[hci];dsimp only;cases hce:c.ef with
   |true=>
    rw[hce]at hσo;simp only at hσo ⊢;have hin:aM.fP p (ek c.wr (eV c.rd R)):=λq hq=>h3 q (zS.1 (zS.1 hq).1).1;have hin2:aM.ct nx (ek c.wr (eV c.rd R)):=λq hq=>hLi q (zS.1 hq).1;have e1:aM.res ρ' (ek c.wr (eV c.rd R))=aM.res ρ'' (ek c.wr (eV c.rd R)):=by rw[<-hin2.res ha,hin.res hag]
    rw[eN,e1,(hLo hce).res hag2]at hσo;refine(hσo.append_right _).trans ?_;rw[yT,eN,<-eN (ek c.wr (eV c.rd R))];exact List.Perm.append_left _ (kB (aeV hwr R))
   |false=>
    rw[hce]at hσo;have hin:aM.fP p (eV c.rd R):=λq hq=>h3 q (zS.1 hq).1;have e1:aM.res ρ' (eV c.rd R)=aM.res ρ'' (eV c.rd R):=by rw[<-hLi.res ha,hin.res hag]
    rw[e1]at hσo;refine(hσo.append_right _).trans ?_;rw[<-eN];exact kB hpm
  refine⟨ρ'',h0.trans (λi hi=>⟨by simp only[ρ'',bT (show ¬(nx<=i/\i<nx')by omega)],by simp only[ρ'',bT (show ¬(nx<=i/\i<nx')by omega)]⟩) (zA C.n),hv.sub hag2,by rw[<-hEs];exact hs2.perm hpo,λb hb hA=>Nb hpo b (hsub b hb hA)⟩
 have fin:∀(ρ':Gh) (σo:aa bH) (w':World) (v:Value),l6 nx ρ ρ'->List.Perm σo (aM.res ρ' (match c.ef with|O=>c.Lo++ek c.wr (eV c.rd R)|V=>eV c.rd R))->Tr ⟨w,al C.C (σi++σr),aY σi⟩ (aY σi) σi w σo w'->
   Rel (al ⟨w,al C.C (σi++σr),aY σi⟩ σo) w' (c.v.sub ρ') v->K' (a.put o.dst v) w':=λρ' σo w' v q1 q2 q3 q4=>by
  obtain⟨ρ'',g1,g2,g3,g4⟩:=step ρ' σo w' q1 q2 q3;have hR':aM.fP (λi=>p i\/(nx<=i/\i<nx')) (c.R R):=by
   unfold Rc.R;rw[hci];dsimp only;cases hce:c.ef with
   |false=>exact h3.mono λi hi=> .inl hi
   |true=>exact λq hq=>(zV.1 hq).elim (hLo' hce q) λhq=>⟨.inl (h3 q (zS.1 hq).1).1,(h3 q (zS.1 hq).1).2.mono λi hi=> .inl hi⟩
  refine hK _ _ (by cases o.dst<;>rfl) ?_;rw[g2]at q4;cases hdo:o.dst with
  |none=>exact⟨E,ρ'',λt d ht=>h1 t d (by unfold Rc.F at ht;rw[hdst,hdo]at ht;simpa using ht),λq hq=>(h2 q hq).mono λi hi=> .inl hi,hR',g1,g3⟩
  |some t=>
   refine⟨(t,c.v)::E,ρ'',λs d hs=> ?_,λq hq=> ?_,hR',g1,?_⟩
   ·unfold Rc.F at hs;rw[hdst,hdo]at hs;by_cases hts:t=s
    ·subst hts;rw[bS rfl]at hs;cases hs;exact Env.dP _ _ _
    ·rw[bT (λe=>hts (zG.inj e))]at hs;rw[Env.cW _ _ hts];exact h1 s d hs
   ·rcases zu.1 hq with rfl|hq
    ·exact hv'
    ·exact(h2 q hq).mono λi hi=> .inl hi
   ·rw[hdo]at hd;exact g3.put hd (q4.mono λb hb hA=>⟨g4 b hb hA,rfl⟩)
 unfold Oper.wp;subst hσi;rcases hloc ρ _ w a.eval hgood hops with ⟨v,w',av,σ',⟨ρ',q1,q2,q3⟩,r1,r2,r3⟩|⟨w',σ',⟨ρ',q1,q2,q3⟩,r1,r2⟩|⟨g,args,r1,r2⟩
 ·rw[r2];rcases q2 with q2|⟨q2,_⟩
  ·cases q2;exact fin ρ' σ' w' v q1 q3 r1 r3
  ·cases q2
 ·rw[r2];rcases q2 with q2|⟨_,q2⟩
  ·cases q2
  ·exact fin ρ' σ' w' undef q1 q3 r1 (by rw[q2,bF];exact .lit _)
 ·rw[r1];refine Calls.mono r2 λee w' ⟨v,av,σ',q0,⟨ρ',q1,q2,q3⟩,s1,s2⟩=> ?_;subst q0;rcases q2 with q2|⟨q2,_⟩
  ·cases q2;exact fin ρ' σ' w' v q1 q3 s1 s2
  ·cases q2
end
section
variable {P:Program} {o:Oper} {C:Cx} {N:af AV->aa bH->Prop}
def Ye.Rb{E:Env}{R:aM}{ρ:Gh}{id t:Nat}{l:aa (U.cA t)}(hr:fk R id=Q (.row t l))
  (h:Ye P (Env.sub ρ (E.map λp=>(p.1,k8 id t l 3 p.2))) (aM.res ρ ((iK id R).map λp=>(p.1,ri id t l p.2))) o C N):Ye P (E.sub ρ) (aM.res ρ R) o C N:=λw S hg hρ=>by
 obtain⟨i,hi1,_,hi3⟩:=cU hr;have hres:=eu (ρ:=ρ) hi1;have hd:Hd (al C (aM.res ρ R)) [.row (ρ.v id) t l] w:=⟨λr hr=>by
   rw[zC]at hr;rw[hr];exact hg.res _ (List.mem_of_getElem? hres),λb hb hA=>hA.2 (by
   obtain⟨r,h1,h2⟩:=bw.1 hb;rw[zC]at h1;rw[h1]at h2;exact bw.2 ⟨_,List.mem_of_getElem? hres,h2⟩)⟩
 have hle:=Ai (C:=C) hres hg;have hbk:aY (aM.res ρ ((iK id R).map λp=>(p.1,ri id t l p.2)))=aY ((aM.res ρ R).eraseIdx i):=by
  rw[<-sD,<-hi3];unfold aY aM.res;rw[yg,List.filterMap_map,List.filterMap_map]
  congr 1
  funext p
  obtain⟨q,rr⟩:=p;cases rr<;>rfl
 have hal:∀b,(al C (aM.res ρ R) b\/b∈aY [bH.row (ρ.v id) t l])->al C (aM.res ρ ((iK id R).map λp=>(p.1,ri id t l p.2))) b:=λb hb=>by
  have:=hle b hb;exact⟨this.1,by rw[hbk];exact this.2⟩
 have hrel:∀{d:AV} {v:Value},Rel (al C (aM.res ρ R)) w (d.sub ρ) v->Rel (al C (aM.res ρ ((iK id R).map λp=>(p.1,ri id t l p.2)))) w ((k8 id t l 3 d).sub ρ) v:=λh=>
  (AI hd 3 h).mono λb _ hA=>⟨hal b hA,rfl⟩
 have hsubb:∀b∈aY (aM.res ρ ((iK id R).map λp=>(p.1,ri id t l p.2))),b∈aY (aM.res ρ R):=λb hb=>by
  rw[hbk]at hb;exact gJ (λr hr=>(wK _ _).subset hr) b hb
 have hg':Good C (aM.res ρ ((iK id R).map λp=>(p.1,ri id t l p.2))) w:=by
  refine⟨hg.kept,λrr hrr=> ?_,?_,λb hb=>hg.own b (hsubb b hb)⟩
  ·obtain⟨p,h1,rfl⟩:=zy.1 hrr;obtain⟨p',h2,rfl⟩:=zy.1 h1;have hm:p'.2.res ρ p'.1∈aM.res ρ R:=by
    rw[hi3]at h2;exact zy.2 ⟨p',List.mem_of_mem_eraseIdx h2,rfl⟩
   have h3:=hg.res _ hm;obtain⟨q,rr⟩:=p';cases rr with
   |row t' l'=>exact h3.mono (λb _ hA=>⟨hal b (.inl hA),rfl⟩) (λ_ _=>rfl)
   |mp es=>exact h3.mono (λb _ hA=>⟨hal b (.inl hA),rfl⟩) (λ_ _=>rfl)
   |md k e l=>exact h3.mono (λb _ hA=>⟨hal b (.inl hA),rfl⟩) (λ_ _=>rfl)
   |box T cs=>
    obtain⟨us,h4,h5⟩:=h3;refine⟨us,h4,by simpa using h5.1,λj av v q1 q2=> ?_⟩;rw[yg,zN]at q1;obtain⟨c,hc,rfl⟩:=zk.1 q1;exact hrel (h5.2 j (c.sub ρ) v (by rw[zN,hc];rfl) q2)
  ·rw[hbk];exact hg.sN.sublist ((wK _ _).filterMap _)
 have hops:JT (al C (aM.res ρ ((iK id R).map λp=>(p.1,ri id t l p.2)))) w (Env.sub ρ (E.map λp=>(p.1,k8 id t l 3 p.2))) S:=λx u hx=>by
  cases x with
  |tmp k=>
   have hx':Env.get (Env.sub ρ (E.map λp=>(p.1,k8 id t l 3 p.2))) k=Q u:=hx;rw[Env.eA,qz]at hx';obtain⟨d',h1,rfl⟩:=zk.1 hx';obtain⟨d,h2,rfl⟩:=zk.1 h1;exact hrel (hρ (.tmp k) (d.sub ρ) (by show Env.get (E.sub ρ) k=_;rw[Env.eA,h2];rfl))
  |const v=>exact(hρ (.const v) u hx).mono λb _ hA=>⟨hal b (.inl hA),rfl⟩
  |global g=>exact(hρ (.global g) u hx).mono λb _ hA=>⟨hal b (.inl hA),rfl⟩
  |func f=>exact(hρ (.func f) u hx).mono λb _ hA=>⟨hal b (.inl hA),rfl⟩
 have htr:∀{σ':aa bH} {w':World},Tr C (aY (aM.res ρ ((iK id R).map λp=>(p.1,ri id t l p.2)))) (aM.res ρ ((iK id R).map λp=>(p.1,ri id t l p.2))) w σ' w'->Tr C (aY (aM.res ρ R)) (aM.res ρ R) w σ' w':=λh=>
  ⟨h.good,⟨h.kp.os,h.kp.tape,h.kp.output,h.kp.size,λk hk hn=>h.kp.block k hk λhx=>hn (hsubb k hx)⟩,λb hb hA=>⟨(h.al b hb (hal b (.inl hA))).1,hA.2⟩⟩
 rcases h w S hg' hops with ⟨v,w',av,σ',h1,h2,h3,h4⟩|⟨w',σ',h1,h2,h3⟩|⟨f,args,h1,h2⟩
 ·exact .inl ⟨v,w',av,σ',h1,htr h2,h3,h4⟩
 ·exact .inr (.inl ⟨w',σ',h1,htr h2,h3⟩)
 ·exact .inr (.inr ⟨f,args,h1,h2.mono λe w' ⟨v,av,σ',q1,q2,q3,q4⟩=>⟨v,av,σ',q1,q2,htr q3,q4⟩⟩)
def Sm(sl:aa Nat)(T:ET)(E:Env):Prop:=∀t∈sl,∀d,cu T t=Q d->E.get t=Q d
def Ye.gU{sl:aa Nat}{nx:Nat}{ρ:Gh}:∀(ids:aa Nat) (T:ET) (E:Env) (R:aM),Sm sl T E->E.ct nx->aM.ct nx R->
  (∀E',Sm sl (St.gU ⟨T,R,nx⟩ ids).E E'->E'.ct nx->aM.ct nx (St.gU ⟨T,R,nx⟩ ids).R->Ye P (E'.sub ρ) (aM.res ρ (St.gU ⟨T,R,nx⟩ ids).R) o C N)->Ye P (E.sub ρ) (aM.res ρ R) o C N
 |[],T,E,R,hh,hE,hR,h=>h E hh hE hR
 |i::ids,T,E,R,hh,hE,hR,h=>by
  have e0:St.gU ⟨T,R,nx⟩ (i::ids)=(St.ug ⟨T,R,nx⟩ i).gU ids:=rfl;rw[e0]at h;have key:∀s:St,s.nx=nx->s=⟨s.E,s.R,nx⟩:=λs hs=>by obtain⟨a,b,c⟩:=s;simp only at hs;rw[hs]
  cases hr:fk R i with
  |none=>
   have e1:St.ug ⟨T,R,nx⟩ i=⟨T,R,nx⟩:=by unfold St.ug;simp only[hr]
   rw[e1]at h;exact Ye.gU ids T E R hh hE hR h
  |some rr=>
   cases rr with
   |box T0 cs=>
    have e1:St.ug ⟨T,R,nx⟩ i=⟨T,R,nx⟩:=by unfold St.ug;simp only[hr]
    rw[e1]at h;exact Ye.gU ids T E R hh hE hR h
   |mp es=>
    have e1:St.ug ⟨T,R,nx⟩ i=⟨T,R,nx⟩:=by unfold St.ug;simp only[hr]
    rw[e1]at h;exact Ye.gU ids T E R hh hE hR h
   |md k e l=>
    have e1:St.ug ⟨T,R,nx⟩ i=⟨T,R,nx⟩:=by unfold St.ug;simp only[hr]
    rw[e1]at h;exact Ye.gU ids T E R hh hE hR h
   |row t l=>
    have e1:St.ug ⟨T,R,nx⟩ i=⟨emap (k8 i t l 3) T,(iK i R).map λp=>(p.1,ri i t l p.2),nx⟩:=by unfold St.ug;simp only[hr]
    rw[e1]at h;refine Ye.Rb hr (Ye.gU ids _ _ _ (λk hk d hd=> ?_) (λp hp=> ?_) (λp hp=> ?_) h)
    ·rw[qv]at hd;obtain⟨d',h1,rfl⟩:=zk.1 hd;rw[qz,hh k hk d' h1];rfl
    ·obtain⟨p',h1,rfl⟩:=zy.1 hp;exact mg 3 (hE p' h1)
    ·obtain⟨p',h1,rfl⟩:=zy.1 hp;have h2:=Bz (id:=i) hR p' h1;refine⟨h2.1,?_⟩;obtain⟨q,rr⟩:=p';cases rr with
     |row t' l'=>trivial
     |mp es=>trivial
     |md k e l=>trivial
     |box T0 cs=>
      intro c hc;obtain⟨c',h3,rfl⟩:=zy.1 hc;exact mg 3 (h2.2 c' h3)
end
def XH(sl:aa Nat)(T:ET):Operand->af AV
 | .tmp t=>match cC t sl with
  |true=>cu T t
  |false=>J
 |x=>EH T x
def lK(R1:aM)(nx:Nat)(fz:Bool)(e:ei):af (AV×Bool×aM×Nat):=Q (match e.vl nx with
 |some d=>d
 |none=> .lit undef,match e with
 | .val _=>fz
 |_=>O,e.R R1 nx,e.nx nx)
def XG(P:Program)(F:aI)(o:Oper)(sl:aa Nat)(ids:aa Nat)(s:St):af (AV×Bool×aM×Nat):=St.rec (λE1 R1 nx1=>lU o.op P F (XH sl E1) (fk R1) R1 nx1 (lK R1 nx1 (!ids.isEmpty))) (s.gU ids)
def aaD(P:Program)(F:aI)(o:Oper)(sl:aa Nat)(E:ET)(Rl:aM)(nx:Nat):af (AV×Bool×aM×Nat):=XG P F o sl (gr E o.op) ⟨E,Rl,nx⟩
def Yo{α:Type}(P:Program)(F:aI)(o:Oper)(sl:aa Nat)(ids:aa Nat)(D:AV×Bool×aM×Nat->af α)(s:St):af α:=St.rec (λE1 R1 nx1=>lU o.op P F (XH sl E1) (fk R1) R1 nx1 (λe=>D (match e.vl nx1 with
 |some d=>d
 |none=> .lit undef,match e with
 | .val _=>(!ids.isEmpty)
 |_=>O,e.R R1 nx1,e.nx nx1))) (s.gU ids)
def Cq{α:Type}(P:Program)(F:aI)(o:Oper)(sl:aa Nat)(E:ET)(Rl:aM)(nx:Nat)(D:AV×Bool×aM×Nat->af α):af α:=Yo P F o sl (gr E o.op) D ⟨E,Rl,nx⟩
def vp{α:Type}{P:Program}{F:aI}(hN:dH F){o:Oper}{sl:aa Nat}{E:ET}{Rl:aM}{nx:Nat}(D:AV×Bool×aM×Nat->af α):(aaD P F o sl E Rl nx).bind D=Cq P F o sl E Rl nx D:=by
 unfold aaD Cq XG Yo;generalize St.gU ⟨E,Rl,nx⟩ (gr E o.op)=s1;obtain⟨E1,R1,n1⟩:=s1;exact rT D hN ..
def Oa:∀(ids:aa Nat) (s:St),(s.gU ids).nx=s.nx
 |[],s=>rfl
 |i::ids,s=>by
  show ((s.ug i).gU ids).nx=s.nx;rw[Oa ids];unfold St.ug;split<;>rfl
def aew{P:Program}{F:aI}{o:Oper}{sl:aa Nat}{T:ET}{E:Env}{Rl Lo:aM}{nx nx':Nat}{v:AV}{ef:Bool}(hF:gu P F)(h:aaD P F o sl T Rl nx=Q (v,ef,Lo,nx'))(hh:Sm sl T E)(hE:E.ct nx)(hR:aM.ct nx Rl):
  (∀ρ C,Ye P (E.sub ρ) (aM.res ρ Rl) o C (Nlc nx v Lo ρ))/\(ef=V->∀ρ C,Ye P (E.sub ρ) (aM.res ρ Rl) o C (Nlc nx v Rl ρ)):=by
 unfold aaD XG at h;generalize hs:St.gU ⟨T,Rl,nx⟩ (gr T o.op)=s1 at h;have hnx:s1.nx=nx:=by rw[<-hs,Oa]
 obtain⟨E1,R1,n1⟩:=s1;simp only at hnx;subst hnx;have h':lU o.op P F (XH sl E1) (fk R1) R1 n1 (lK R1 n1 (!(gr T o.op).isEmpty))=Q (v,ef,Lo,nx'):=h;rw[Gx]at h';have main:∀ρ C (Ro:aM),(∀e:ei,lK R1 n1 (!(gr T o.op).isEmpty) e=Q (v,ef,Lo,nx')->e.R R1 n1=Ro)->Ye P (E.sub ρ) (aM.res ρ Rl) o C (Nlc n1 v Ro ρ):=λρ C Ro hRo=>by
  refine Ye.gU (sl:=sl) (gr T o.op) T E Rl hh hE hR λE' hh' hE' hR'=> ?_;rw[hs]at hh' hR' ⊢;have hsee:gC (XH sl E1) (fk R1) n1 E' R1:=⟨λx d hx=>by
   cases x with
   |tmp t=>
    unfold XH at hx;simp only at hx;split at hx
    ·rename_i hm;exact hh' t (di.1 hm) d hx
    ·cases hx
   |_=>exact hx,λ_ _ h=>h,hE',hR'⟩
  have hst:=CQ (o:=o) hF hsee rfl h' ρ C;intro w j hg hρ;have conv:∀a σ',Nx R1 n1 (lK R1 n1 (!(gr T o.op).isEmpty)) (v,ef,Lo,nx') ρ a σ'->Nlc n1 v Ro ρ a σ':=λa σ' ⟨e,q1,q2,q3,q4,ρ',q5,q6,q7⟩=>by
   refine⟨ρ',q5,?_,by rw[<-hRo e q1];exact q7⟩;unfold lK at q1;simp only[zG.injEq,Prod.mk.injEq]at q1;cases hv:e.vl n1 with
   |some d=>
    rw[hv]at q1 q6;left;rw[q6,<-q1.1];rfl
   |none=>
    rw[hv]at q1 q6;right;exact⟨q6,q1.1.symm⟩
  rcases hst w j hg hρ with ⟨v',w',av,σ',h1,h2,h3,h4⟩|⟨w',σ',h1,h2,h3⟩|⟨f,args,h1,h2⟩
  ·exact .inl ⟨v',w',av,σ',conv _ _ h1,h2,h3,h4⟩
  ·exact .inr (.inl ⟨w',σ',conv _ _ h1,h2,h3⟩)
  ·exact .inr (.inr ⟨f,args,h1,h2.mono λe w' ⟨v',av,σ',q1,q2,q3,q4⟩=>⟨v',av,σ',q1,conv _ _ q2,q3,q4⟩⟩)
 refine⟨λρ C=>main ρ C Lo λe he=> ?_,λhef ρ C=>main ρ C Rl λe he=> ?_⟩
 ·unfold lK at he;simp only[zG.injEq,Prod.mk.injEq]at he;exact he.2.2.1
 ·unfold lK at he;simp only[zG.injEq,Prod.mk.injEq]at he;cases e with
  |val d=>
   have hemp:gr T o.op=[]:=by
    have h2:(!(gr T o.op).isEmpty)=V:=by rw[<-hef];exact he.2.1
    simpa using h2
   rw[hemp]at hs;have:(⟨T,Rl,n1⟩:St)=⟨E1,R1,n1⟩:=hs;exact(St.mk.inj this).2.1.symm
  |_=>exact gI (he.2.1.trans hef) (by simp)
def jG(p:Nat->Bool)(n:Nat):AV->Bool:=Nat.rec (λd=>match d with
 | .lit _=>O
 | .sl _ _=>O
 | .rp _ _=>O
 | .own i=>p i
 | .ptr i _=>p i
 | .ra i _ _ _=>p i
 |_=>V) (λ_ ih d=>match d with
 | .lit _=>O
 | .sl _ _=>O
 | .rp _ _=>O
 | .own i=>p i
 | .ptr i _=>p i
 | .ra i _ _ _=>p i
 | .agg cs=>cs.all ih
 | .gH cs=>cs.all ih
 | .fn _ cs=>cs.all ih
 | .fp cs=>cs.all ih) n
def uL{p:Nat->Bool}:∀(n:Nat) {d:AV},jG p n d=O->fP (λi=>p i=O) d
 |0,d,h=>by
  cases d<;>first|exact .lit _|exact .sl _ _|exact .rp _ _|exact .own _ h|exact .ptr _ _ h|exact .ra _ _ _ _ h|(cases h;done)
 |n+1,d,h=>by
  have hL:∀{cs:aa AV},cs.all (jG p n)=O->∀c∈cs,fP (λi=>p i=O) c:=λh c hc=>uL n (zx.1 h c hc);cases d<;>first|exact .lit _|exact .sl _ _|exact .rp _ _|exact .own _ h|exact .ptr _ _ h|exact .ra _ _ _ _ h|exact .agg _ (hL h)|exact .gH _ (hL h)|exact .fn _ _ (hL h)|exact .fp _ (hL h)
def Ee{p:Nat->Prop}:∀(n:Nat) {d:AV},fP p d->∀i∈ku n d,p i
 |0,d,h,i,hi=>by
  cases h<;>simp only[ku,zC,xe]at hi<;>(subst hi;assumption)
 |n+1,d,h,i,hi=>by
  have hL:∀{cs:aa AV},(∀c∈cs,fP p c)->i∈cs.flatMap (ku n)->p i:=λh hi=>by
   obtain⟨c,h1,h2⟩:=xV.1 hi;exact Ee n (h c h1) i h2
  cases h with
  |agg cs h=>exact hL h hi
  |gH cs h=>exact hL h hi
  |fn f cs h=>exact hL h hi
  |own id h=>simp only[ku,zC]at hi;rw[hi];exact h
  |ptr id off h=>simp only[ku,zC]at hi;rw[hi];exact h
  |ra id t m off h=>simp only[ku,zC]at hi;rw[hi];exact h
  |_=>simp[ku]at hi
def AR(sl:aa Nat)(T:ET):aa Nat:=sl.flatMap λt=>match cu T t with
 |some d=>ku 3 d
 |none=>[]
def Yq(R:aM):aa Nat:=R.flatMap λq=>q.1::match q.2 with
 | .box _ cs=>cs.flatMap (ku 3)
 | .row _ _=>[]
 | .mp _=>[]
 | .md _ _ _=>[]
def WJ(al:aa Nat)(nx nx' i:Nat):Bool:=cC i al||(z8 nx i&&zD i nx')
def okR(al:aa Nat)(nx nx':Nat)(R:aM):Bool:=R.all λq=>WJ al nx nx' q.1&&match q.2 with
 | .box _ cs=>cs.all (jG (WJ al nx nx') 3)
 | .row _ _=>O
 | .mp _=>O
 | .md _ _ _=>O
def EK{al:aa Nat}{nx nx' i:Nat}(h:WJ al nx nx' i=O):i∈al\/(nx<=i/\i<nx'):=by
 unfold WJ at h;simp only[yL,zj,Nat.ble_eq,y9]at h;exact h.imp di.1 id
def akH{al:aa Nat}{nx nx':Nat}{R:aM}(h:okR al nx nx' R=O):aM.fP (λi=>i∈al\/(nx<=i/\i<nx')) R:=λq hq=>by
 have:=zx.1 h q hq;simp only[zj]at this;refine⟨EK this.1,?_⟩;obtain⟨i,r⟩:=q;cases r with
 |row t l=>trivial
 |mp es=>trivial
 |md k e l=>trivial
 |box T cs=>exact λc hc=>(uL 3 (zx.1 this.2 c hc)).mono λi hi=>EK hi
def aus(o:Op):Bool:=match o with
 | .move _=>V
 | .assign _=>V
 | .pick _ _ _=>V
 | .unOp _ _ _=>V
 | .nilCheck _=>V
 | .fieldAddr _ _ _=>V
 | .extract _ _=>V
 | .makeFunc _ _ _=>V
 | .alloc _=>V
 |_=>O
def UB(o:Op):Bool:=match o with
 | .call {callee:= .value _, ..}=>O
 |_=>V
def jg(ops:Array Oper)(o:Oper)(E:ET)(R:aM):aa Nat:=match aus o.op with
 |false=>[]
 |true=>match UB o.op with
  |false=>AR (bP ops o) E
  |true=>reach R 3 (AR (bP ops o) E)
def YE(rd:aa Nat)(R:aM):aM:=match rd with
 |[]=>[]
 |rd=>eV rd R
def Yr(rd:aa Nat)(R:aM):YE rd R=eV rd R:=by
 cases rd with
 |nil=>exact(wv.2 λp _=>by simp[cC]).symm
 |cons a l=>rfl
def rcB(ops:Array Oper)(o:Oper)(E:ET)(Rl:aM)(nx:Nat)(v:AV)(ef:Bool)(Lo:aM)(nx':Nat):Bool:=(λal=>z8 nx nx'&&(!ef||Z3 o)&&jG (WJ al nx nx') 4 v&&(!ef||okR al nx nx' Lo)) (AR (bP ops o) E++Yq Rl)
def aas(e:AV->AV->Bool)(l:aa AV):aa AV->Bool:=List.rec (λm=>match m with
 |[]=>O
 |_=>V) (λa _ ih m=>match m with
 |b::m=>e a b&&ih m
 |[]=>V) l
def ao9(ih:AV->AV->Bool)(a b:AV):Bool:=match a,b with
 | .own i, .own j=>zh i j
 | .ptr i o, .ptr j p=>zh i j&&zh o p
 | .fn (.func f) cs, .fn (.func g) ds=>zh f g&&aas ih cs ds
 |_,_=>V
def eqA(n:Nat):AV->AV->Bool:=Nat.rec (λ_ _=>V) (λ_ ih=>ao9 ih) n
def apd(a b:IR):Bool:=match a,b with
 | .box T cs, .box T' ds=>zh T T'&&aas (eqA 2) cs ds
 |_,_=>V
def Tw(l:aM):aM->Bool:=List.rec (λm=>match m with
 |[]=>O
 |_=>V) (λa _ ih m=>match m with
 |b::m=>zh a.1 b.1&&apd a.2 b.2&&ih m
 |[]=>V) l
def Fb{e:AV->AV->Bool}(he:∀a b,e a b=O->a=b):∀{l m:aa AV},aas e l m=O->l=m
 |[],[],_=>rfl
 |[],_::_,h=>by cases h
 |_::_,[],h=>by cases h
 |a::l,b::m,h=>by
  change (e a b&&aas e l m)=O at h;rw[zj]at h;rw[he a b h.1,Fb he h.2]
def Ss:∀(n:Nat) {a b:AV},eqA n a b=O->a=b
 |0,a,b,h=>by cases h
 |n+1,a,b,h=>by
  change ao9 (eqA n) a b=O at h;unfold ao9 at h;split at h
  ·rw[dX h]
  ·rw[zj]at h;rw[dX h.1,dX h.2]
  ·rw[zj]at h;rw[dX h.1,Fb (λa b=>Ss n) h.2]
  ·cases h
def JV:∀{l m:aM},Tw l m=O->l=m
 |[],[],_=>rfl
 |[],_::_,h=>by cases h
 |_::_,[],h=>by cases h
 |(i,a)::l,(j,b)::m,h=>by
  change (zh i j&&apd a b&&Tw l m)=O at h;simp only[zj]at h;have h1:=dX h.1.1;subst h1;have h2:=h.1.2;unfold apd at h2;split at h2
  ·rw[zj]at h2;rw[dX h2.1,Fb (λa b=>Ss 2) h2.2,JV h.2]
  ·cases h2
def trim(K rd:aa Nat)(Rl Lo:aM):aa Nat×aM:=match K.filter λi=>cC i rd with
 |[]=>(rd,Lo)
 |k::K=>match Tw (eV (k::K) Lo) (eV (k::K) Rl)with
  |true=>(rd.filter λi=> !cC i (k::K),ek (k::K) Lo)
  |false=>(rd,Lo)
def aeq(K rd:aa Nat)(R Lo:aM):(∀i∈(trim K rd (eV rd R) Lo).1,i∈rd)/\(∀q∈(trim K rd (eV rd R) Lo).2,q∈Lo)/\List.Perm Lo ((trim K rd (eV rd R) Lo).2++ek (trim K rd (eV rd R) Lo).1 (eV rd R)):=by
 have h0:ek rd (eV rd R)=[]:=wv.2 λp hp=>by
  have:cC p.1 rd=O:=(zS.1 hp).2;rw[this];simp
 have triv:(∀i∈rd,i∈rd)/\(∀q∈Lo,q∈Lo)/\List.Perm Lo (Lo++ek rd (eV rd R)):=⟨λ_ h=>h,λ_ h=>h,by rw[h0,yW]⟩;unfold trim;split
 ·omega
 ·rename_i k K' hK;split
  case h_2=>exact triv
  rename_i he;have he:=JV he;refine⟨λi hi=>(zS.1 hi).1,λq hq=>(zS.1 hq).1,?_⟩;have e1:ek (rd.filter λi=> !cC i (k::K')) (eV rd R)=eV (k::K') (eV rd R):=by
   refine xP λp hp=> ?_;have hp:cC p.1 rd=O:=(zS.1 hp).2;cases hm:cC p.1 (k::K')with
   |true=>
    rw[fB.2 λhx=> ?_];rfl;simp_all
   |false=>
    rw[di.2 (zS.2 ⟨di.1 hp,by rw[hm];rfl⟩)];rfl
  rw[e1,<-he];exact(wJ.trans (wM _ _)).symm
def partner(ops:Array Oper)(ps:aa (Nat×Nat))(i:Nat):aa Nat:=ps.flatMap λp=>match zh p.1 i with
 |true=>match ops[p.2]? with
  |some o=>match UB o.op with
   |true=>[]
   |false=>bP ops o
  |none=>[]
 |false=>match zh p.2 i with
  |true=>match ops[p.1]? with
   |some o=>match UB o.op with
    |true=>[]
    |false=>bP ops o
   |none=>[]
  |false=>[]
def R3(ops:Array Oper)(ps:aa (Nat×Nat))(cs:aa Rc)(E:ET):aa Nat:=match ps with
 |[]=>[]
 |p::ps=>AR (partner ops (p::ps) (yz cs)) E
def dK2(o:Oper)(sl:aa Nat)(cs:aa Rc)(rd:aa Nat)(E:ET)(R:aM){α:Type}(ih:aa Rc->St->(aa Rc->St->af α)->af α)(k:aa Rc->St->af α)(v:AV)(ef:Bool)(nx':Nat)(t:aa Nat×aM):af α:=
 ih (cs++[⟨o.dst,v,sl,rd,t.1,ef,t.2,J⟩]) ⟨mo o.dst v E,match ef with
  |true=>t.2++ek t.1 R
  |false=>R,nx'⟩ k
def dK(ops:Array Oper)(ps:aa (Nat×Nat))(o:Oper)(cs:aa Rc)(rd:aa Nat)(E:ET)(R Rl:aM)(nx:Nat){α:Type}(ih:aa Rc->St->(aa Rc->St->af α)->af α)(k:aa Rc->St->af α)(x:AV×Bool×aM×Nat):af α:=
 match rcB ops o E Rl nx x.1 x.2.1 x.2.2.1 x.2.2.2 with
 |true=>dK2 o (bP ops o) cs rd E R ih k x.1 x.2.1 x.2.2.2 (trim (R3 ops ps cs E) rd Rl x.2.2.1)
 |false=>J
def ayc{α:Type}(P:Program)(F:aI)(ops:Array Oper)(ps:aa (Nat×Nat))(o:Oper)(ih:aa Rc->St->(aa Rc->St->af α)->af α)(cs:aa Rc)(k:aa Rc->St->af α)(E:ET)(R:aM)(nx:Nat)(rd:aa Nat)(Rl:aM):af α:=
 Cq P F o (bP ops o) E Rl nx (dK ops ps o cs rd E R Rl nx ih k)
def frE(n:Int)(es:aa (AV×AV)):Bool:=List.rec O (λe _ ih=>match e.1 with
 | .lit (.int .i64 m)=>match Z (m=n)with
  |true=>V
  |false=>ih
 |_=>V) es
def RS{n:Int}:∀{es:aa (AV×AV)},frE n es=O->∀e∈es,∃m,e.1= .lit (.int .i64 m)/\m≠n
 |[],_,e,he=>by cases he
 |e0::es,h,e,he=>by
  change (match e0.1 with
   | .lit (.int .i64 m)=>match Z (m=n)with
    |true=>V
    |false=>frE n es
   |_=>V)=O at h
  split at h
  ·rename_i m hm;split at h
   ·cases h
   ·rename_i hd;rcases zu.1 he with rfl|he
    ·exact⟨m,hm,of_decide_eq_false hd⟩
    ·exact RS h e he
  ·cases h
def Bn(P:Program)(ops:Array Oper)(o:Oper)(E:ET)(R:aM):af (Ins×Bool):=match o.op,o.dst with
 | .insert T x y z,J=>match P.underlying T,XH (bP ops o) E x,XH (bP ops o) E y,XH (bP ops o) E z with
  |some (.map kt _),Q (.own id),Q (.lit (.int .i64 n)),Q vd=>match eV [id] R,P.underlying kt with
   |[(_, .mp es)],Q (.int .i64)=>match lF vd with
    |true=>Q (⟨id,n,vd⟩,frE n es)
    |false=>J
   |_,_=>J
  |_,_,_,_=>J
 |_,_=>J
def awi{α:Type}(P:Program)(F:aI)(ops:Array Oper)(ps:aa (Nat×Nat))(o:Oper)(ih:aa Rc->St->(aa Rc->St->af α)->af α)(cs:aa Rc)(k:aa Rc->St->af α)(s:St):af α:=
 St.rec (λE R nx=>match Bn P ops o E R with
  |some i=>match i.2 with
   |true=>ih (cs++[⟨o.dst, .lit undef,bP ops o,[],[],V,[],Q i.1⟩]) ⟨mo o.dst (.lit undef) E,gy i.1 R,nx⟩ k
   |false=>J
  |none=>(λrd=>ayc P F ops ps o ih cs k E R nx rd (YE rd R)) (jg ops o E R)) s
def dNo{α:Type}(ops:Array Oper)(o:Oper)(ih:aa Rc->St->(aa Rc->St->af α)->af α)(cs:aa Rc)(k:aa Rc->St->af α)(s:St):af α:=
 ih (cs++[⟨o.dst, .lit undef,bP ops o,[],[],V,[],J⟩]) ⟨mo o.dst (.lit undef) s.E,s.R,s.nx⟩ k
def Qh{α:Type}(P:Program)(F:aI)(n:Nat)(ops:Array Oper)(ps:aa (Nat×Nat))(o:Oper)(ih:aa Rc->St->(aa Rc->St->af α)->af α)(cs:aa Rc)(s:St)(k:aa Rc->St->af α):af α:=match IV n o.dst with
 |true=>gate ops o s (awi P F ops ps o ih cs k) (dNo ops o ih cs k)
 |false=>J
def Ku{α:Type}(P:Program)(F:aI)(n:Nat)(ops:Array Oper)(ps:aa (Nat×Nat))(l:aa Oper):aa Rc->St->(aa Rc->St->af α)->af α:=List.rec (λcs s k=>k cs s) (λo _ ih=>Qh P F n ops ps o ih) l
def TX(l:aa Oper):Nat->Bool:=List.rec (λ_=>O) (λo _ ih i=>(o.after.toList.all λe=> !Region.binds .any e||zD e.on i)&&ih (i+1)) l
def GD:∀{l:aa Oper} {k:Nat},TX l k=O->∀(i:Nat) o,l[i]? =Q o->∀e∈o.after.toList,Region.binds .any e=O->e.on<k+i
 |[],k,_,i,o,h,_,_,_=>by cases h
 |o0::l,k,hb,i,o,h,e,he,hbe=>by
  change ((o0.after.toList.all λe=> !Region.binds .any e||zD e.on k)&&TX l (k+1))=O at hb;simp only[zj]at hb;cases i with
  |zero=>
   cases h;have:=zx.1 hb.1 e he;rw[hbe]at this;simpa using this
  |succ i=>
   have:=GD hb.2 i o h e he hbe;omega
def Df{α:Type}(P:Program)(F:aI)(n:Nat)(ops:Array Oper)(s:St)(k:St->af α):af α:=match P.follows .mixedOrders&&TX ops.toList 0 with
 |true=>match plan ops with
  |some ps=>Ku P F n ops ps ops.toList [] s λcs s'=>match EF ps cs with
   |true=>k s'
   |false=>J
  |none=>J
 |false=>J
def uf(ops:Array Oper)(o:Oper)(f:Fr)(wn:Bool):Prop:=match o.guard with
 |none=>wn=O
 |some (j,want)=>∃t,(ops[j]?).bind (·.dst)=Q t/\((∃b,f t=Q (.lit (.bool b))/\wn=(b==want))\/(∃vs,f t=Q (.lit (.tuple vs))/\wn=V))
structure pO (P:Program) (n:Nat) (ops:Array Oper) (o:Oper) (f:Fr) (R:aM) (nx:Nat) (c:Rc) (nx':Nat):Prop where
 dst:c.dst=o.dst
 sl:c.sl=bP ops o
 ef:c.ef=O->Z3 o=O
 dn:IV n o.dst=O
 le:nx<=nx'
 fi:c.ins≠J->Z3 o=O
 run:(uf ops o f V/\c.v= .lit undef/\c.ef=V/\c.ins=J)\/(∃s,uf ops o f O/\c.ins=Q s/\c.v= .lit undef/\s.id<nx/\Seen s R/\∀es:List (AV×AV),(∀e∈es,∃m,e.1= .lit (.int .i64 m)/\m≠s.n)->∀ρ C,Ye P ((kD f c.sl).sub ρ) [bH.mp (ρ.v s.id) es] o C (Nlc nx (.lit undef) [(s.id, .mp (lZ s.n s.v es))] ρ))\/
  (uf ops o f O/\c.ins=J/\∀ρ C,Ye P ((kD f c.sl).sub ρ) (aM.res ρ (eV c.rd R)) o C (Nlc nx c.v (match c.ef with|O=>c.Lo++ek c.wr (eV c.rd R)|V=>eV c.rd R) ρ))
 wr:∀i∈c.wr,i∈c.rd
 lin:aM.ct nx (eV c.rd R)
 lv:ct nx' c.v
 lo:c.ef=O->aM.ct nx' c.Lo
 ids:∀p:Nat->Prop,(∀t∈c.sl,∀d,f t=Q d->fP p d)->aM.fP p (eV c.rd R)->fP (λi=>p i\/(nx<=i/\i<nx')) c.v/\(c.ef=O->aM.fP (λi=>p i\/(nx<=i/\i<nx')) c.Lo)
inductive Ch (P:Program) (n:Nat) (ops:Array Oper):Fr->aM->Nat->List Oper->List Rc->Fr->aM->Nat->Prop
 |nil (f:Fr) (R:aM) (nx:Nat):Ch P n ops f R nx [] [] f R nx
 |cons {f f':Fr} {R R':aM} {nx nx1 nx':Nat} {o:Oper} {os:List Oper} {c:Rc} {cs:List Rc} (h:pO P n ops o f R nx c nx1) (hs:Ch P n ops (c.F f) (c.R R) nx1 os cs f' R' nx'):Ch P n ops f R nx (o::os) (c::cs) f' R' nx'
def anU{α:Type}{r:α}{ops:Array Oper}{o:Oper}{s:St}{yes no:St->af α}(h:gate ops o s yes no=Q r){f:Fr}(hf:∀t d,cu s.E t=Q d->f t=Q d):∃s':St,s'.R=s.R/\s'.nx=s.nx/\(∀t d,cu s'.E t=Q d->f t=Q d)/\
  ((uf ops o f O/\yes s'=Q r)\/(uf ops o f V/\no s'=Q r)):=by
 unfold gate at h;unfold uf;split at h
 ·rename_i hg;exact⟨s,rfl,rfl,hf, .inl ⟨by first|rw[hg]|rfl,h⟩⟩
 ·rename_i j want hg;split at h
  ·cases h
  ·rename_i t hj;have hput:∀b,cu s.E t=Q (.lit (.bool b))->∀k d,cu (s.fh t b).E k=Q d->f k=Q d:=λb hb k d hk=>by
    have hk':cu (jE t (.b b) s.E) k=Q d:=hk;rcases mc hk' with ⟨rfl,rfl⟩|⟨_,h2⟩
    ·simp_all
    ·simp_all
   split at h
   ·rename_i b hb;have hfb:=hf _ _ hb;split at h
    ·split at h
     ·exact⟨s.fh t O,rfl,rfl,hput _ hb, .inl ⟨by(try rw[hg]);exact⟨t,hj, .inl ⟨_,hfb,rfl⟩⟩,h⟩⟩
     ·exact⟨s.fh t O,rfl,rfl,hput _ hb, .inr ⟨by(try rw[hg]);exact⟨t,hj, .inl ⟨_,hfb,rfl⟩⟩,h⟩⟩
    ·split at h
     ·exact⟨s.fh t V,rfl,rfl,hput _ hb, .inr ⟨by(try rw[hg]);exact⟨t,hj, .inl ⟨_,hfb,rfl⟩⟩,h⟩⟩
     ·exact⟨s.fh t V,rfl,rfl,hput _ hb, .inl ⟨by(try rw[hg]);exact⟨t,hj, .inl ⟨_,hfb,rfl⟩⟩,h⟩⟩
   ·rename_i vs hb;exact⟨s,rfl,rfl,hf, .inr ⟨by(try rw[hg]);exact⟨t,hj, .inr ⟨_,hf _ _ hb,rfl⟩⟩,h⟩⟩
   ·cases h
def L4{dst:af Nat}{v:AV}{E:ET}{f:Fr}{c:Rc}(hc:c.dst=dst)(hv:c.v=v)(hf:∀t d,cu E t=Q d->f t=Q d):∀t d,cu (mo dst v E) t=Q d->c.F f t=Q d:=λt d h=>by
 unfold Rc.F;rw[hc,hv];cases dst with
 |none=>simpa using hf t d h
 |some s=>
  rcases mc h with ⟨rfl,rfl⟩|⟨h1,h2⟩
  ·simp
  ·rw[bT (λe=>h1 (zG.inj e))];simp_all
def Ye.mono{P:Program}{C:Cx}{E:Env}{σ:aa bH}{o:Oper}{N N':af AV->aa bH->Prop}(h:Ye P E σ o C N)(hN:∀a σ',N a σ'->N' a σ'):Ye P E σ o C N':=λw j hg hρ=>by
 rcases h w j hg hρ with ⟨v,w',av,σ',h1,h2,h3⟩|⟨w',σ',h1,h2,h3⟩|⟨f,args,h1,h2⟩
 ·exact .inl ⟨v,w',av,σ',hN _ _ h1,h2,h3⟩
 ·exact .inr (.inl ⟨w',σ',hN _ _ h1,h2,h3⟩)
 ·exact .inr (.inr ⟨f,args,h1,Calls.mono h2 λe w' ⟨v,av,σ',q1,q2,q3⟩=>⟨v,av,σ',q1,hN _ _ q2,q3⟩⟩)
def WY{s:Ins}{R:aM}{n:Nat}(h:aM.ct n R):aM.ct n (gy s R):=λq hq=>by
 obtain⟨q0,h0,rfl⟩:=zy.1 hq;have h1:=h q0 h0;unfold fH;split
 ·split
  ·exact⟨h1.1,trivial⟩
  ·exact h1
 ·exact h1
def UI{P:Program}{ops:Array Oper}{o:Oper}{E:ET}{R:aM}{nx:Nat}{f:Fr}{s:Ins}(h:Bn P ops o E R=Q (s,O))(hf:∀t d,cu E t=Q d->f t=Q d)(hfl:∀t d,f t=Q d->ct nx d)(hR:aM.ct nx R):
  o.dst=J/\Z3 o=O/\s.id<nx/\Seen s R/\∀es:aa (AV×AV),(∀e∈es,∃m,e.1= .lit (.int .i64 m)/\m≠s.n)->∀ρ C,Ye P ((kD f (bP ops o)).sub ρ) [bH.mp (ρ.v s.id) es] o C (Nlc nx (.lit undef) [(s.id, .mp (lZ s.n s.v es))] ρ):=by
 unfold Bn at h;split at h
 case h_2=>cases h
 rename_i T x y z hop hdst;split at h
 case h_2=>cases h
 rename_i kt et id n vd hT hx hy hz;split at h
 case h_2=>cases h
 rename_i j es0 hin hkt;split at h
 case h_2=>cases h
 rename_i hc1;rw[zG.injEq,Prod.mk.injEq]at h;have hc:lF vd=O/\frE n es0=O:=⟨hc1,h.2⟩;obtain⟨rfl,_⟩:=h;have hj:j=id:=WI (q:=(j, .mp es0)) (by rw[hin];exact zC.2 rfl);subst hj;have hmem:(j,IR.mp es0)∈R:=(zS.1 (show _∈eV [j] R by rw[hin];exact zC.2 rfl)).1;have hlt:j<nx:=(hR _ hmem).1;refine⟨hdst,by unfold Z3;rw[hop],hlt,⟨es0,hin,RS hc.2⟩,λes hes ρ C=> ?_⟩;have hev:∀u d,XH (bP ops o) E u=Q d->(kD f (bP ops o)).ev u=Q d:=λu d hu=>by
  cases u with
  |tmp t=>
   unfold XH at hu;simp only at hu;split at hu
   ·rename_i hm;exact uV (di.1 hm) (hf t d hu)
   ·cases hu
  |_=>exact hu
 have hsee:gC (XH (bP ops o) E) (fk [(j, .mp es)]) nx (kD f (bP ops o)) [(j, .mp es)]:=⟨hev,λ_ _ h=>h,λq hq=>by
  obtain⟨t,_,ht⟩:=List.mem_filterMap.1 hq;obtain⟨d,hd1,hd2⟩:=zk.1 ht;rw[<-hd2];exact hfl t d hd1,λq hq=>by
  rw[zC.1 hq];exact⟨hlt,trivial⟩⟩
 have hr:fk [(j,IR.mp es)] j=Q (.mp es):=by rw[DS,yH]
 have:=Vi (K:=λe:ei=>Q e) (es':=lZ n vd es) hsee (.inr hop) hT hx hy hz hr (by unfold sP;rw[hkt]) rfl hc.1 (λe he=>by
  obtain⟨m,h1,h2⟩:=hes e he;unfold dB fo;rw[hkt,h1];simp only[dU];rw[zG.injEq];exact dw λe=>h2 e.symm) (List.Perm.refl _) rfl ρ C
 refine Ye.mono this λa σ' ⟨e,q1,q2,q3,q4,ρ',q5,q6,q7⟩=> ?_;cases q1;refine⟨ρ',q5, .inr ⟨q6,rfl⟩,?_⟩;have e1:ei.R [(j,IR.mp es)] nx (.set j (.mp (lZ n vd es)))=[(j, .mp (lZ n vd es))]:=by
  show mY j _ [(j,IR.mp es)]=_;rw[sU,yH]
 rw[e1]at q7;exact q7
def El{α:Type}{r:α}{P:Program}{F:aI}{n:Nat}{ops:Array Oper}{ps:aa (Nat×Nat)}(hF:gu P F)(hN:dH F){k:aa Rc->St->af α}:∀(l:aa Oper) {cs:aa Rc} {s:St} {f:Fr},Ku P F n ops ps l cs s k=Q r->(∀t d,cu s.E t=Q d->f t=Q d)->(∀t d,f t=Q d->ct s.nx d)->aM.ct s.nx s.R->
  ∃(cs':aa Rc) (s':St) (f':Fr),k (cs++cs') s'=Q r/\Ch P n ops f s.R s.nx l cs' f' s'.R s'.nx/\(∀t d,cu s'.E t=Q d->f' t=Q d)
 |[],cs,s,f,h,hf,_,_=>⟨[],s,f,by rw[yW];exact h, .nil f s.R s.nx,hf⟩
 |o::l,cs,s,f,h,hf,hfl,hR=>by
  change Qh P F n ops ps o (Ku P F n ops ps l) cs s k=Q r at h;unfold Qh at h;split at h
  case h_2=>cases h
  rename_i hd;obtain⟨s1,e1,e2,hf1,⟨hg,h1⟩|⟨hg,h1⟩⟩:=anU h hf
  ·obtain⟨E,R,nx⟩:=s1;obtain⟨E0,R0,nx0⟩:=s;simp only at e1 e2 hf1;subst e1 e2;change (match Bn P ops o E R with
    |some i=>match i.2 with
     |true=>Ku P F n ops ps l (cs++[⟨o.dst, .lit undef,bP ops o,[],[],V,[],Q i.1⟩]) ⟨mo o.dst (.lit undef) E,gy i.1 R,nx⟩ k
     |false=>J
    |none=>Cq P F o (bP ops o) E (YE (jg ops o E R) R) nx (dK ops ps o cs (jg ops o E R) E R (YE (jg ops o E R) R) nx (Ku P F n ops ps l) k))=Q r at h1
   cases hins:Bn P ops o E R with
   |some ib=>
    rw[hins]at h1;obtain⟨i,bb⟩:=ib;cases bb with
    |false=>cases h1
    |true=>
    dsimp only at h1;obtain⟨z0,z1,z2,z3,z4⟩:=UI hins hf1 hfl hR;have hfact:pO P n ops o f R nx ⟨o.dst, .lit undef,bP ops o,[],[],false,[],some i⟩ nx:=⟨rfl,rfl,λh=>(by cases h),hd,zA _,λ_=>z1, .inr (.inl ⟨i,hg,rfl,rfl,z2,z3,z4⟩),λ_ h=>(by cases h),λq hq=>hR q (zS.1 hq).1, .lit _,λh=>(by cases h),λp _ _=>⟨.lit _,λh=>(by cases h)⟩⟩;obtain⟨cs',s',f',q1,q2,q3⟩:=El hF hN l (f:=Rc.F ⟨o.dst, .lit undef,bP ops o,[],[],V,[],Q i⟩ f) h1 (L4 rfl rfl hf1) (λt d hdd=>by
     unfold Rc.F at hdd;split at hdd
     ·cases hdd;exact .lit _
     ·exact hfl t d hdd) (WY hR)
    exact⟨_::cs',s',f',by simpa using q1, .cons hfact q2,q3⟩
   |none=>
   rw[hins]at h1;dsimp only at h1;rw[<-vp hN]at h1;generalize hrd:jg ops o E R=rd at h1;obtain⟨⟨v,ef,Lo,nx'⟩,h2,h3⟩:=zn.1 h1;unfold dK at h3;split at h3
   case h_2=>cases h3
   rename_i hb;rw[Yr]at h2 hb;simp only at h3 hb;unfold rcB at hb;simp only[zj,Nat.ble_eq,yL]at hb;obtain⟨⟨⟨hb1,hb2⟩,hb3⟩,hb4⟩:=hb;have hin:aM.ct nx (eV rd R):=λq hq=>hR q (zS.1 hq).1;have hlE:(kD f (bP ops o)).ct nx:=λq hq=>by
    obtain⟨t,_,ht⟩:=List.mem_filterMap.1 hq;obtain⟨d,hd1,hd2⟩:=zk.1 ht;rw[<-hd2];exact hfl t d hd1
   obtain⟨y1,y2⟩:=aew hF h2 (E:=kD f (bP ops o)) (λt ht d hdd=>uV ht (hf1 t d hdd)) hlE hin;have hal:∀p:Nat->Prop,(∀t∈bP ops o,∀d,f t=Q d->fP p d)->aM.fP p (eV rd R)->∀i∈AR (bP ops o) E++Yq (eV rd R),p i:=λp hp1 hp2 i hi=>by
    rcases zV.1 hi with hi|hi
    ·obtain⟨t,ht,hi⟩:=xV.1 hi;split at hi
     ·rename_i d hdd;exact Ee 3 (hp1 t ht d (hf1 t d hdd)) i hi
     ·cases hi
    ·obtain⟨q,hq,hi⟩:=xV.1 hi;obtain⟨g1,g2⟩:=hp2 q hq;rcases zu.1 hi with rfl|hi
     ·exact g1
     ·obtain⟨j,rr⟩:=q;cases rr with
      |row t l=>cases hi
      |mp es=>cases hi
      |md k e l=>cases hi
      |box T cs=>
       obtain⟨c,hc,hi⟩:=xV.1 hi;exact Ee 3 (g2 c hc) i hi
   obtain⟨t1,t2,t3⟩:=aeq (R3 ops ps cs E) rd R Lo;rw[Yr]at h3;generalize trim (R3 ops ps cs E) rd (eV rd R) Lo=tr at h3 t1 t2 t3;obtain⟨wr,Lo'⟩:=tr;have hids:∀p:Nat->Prop,(∀t∈bP ops o,∀d,f t=Q d->fP p d)->aM.fP p (eV rd R)->fP (λi=>p i\/(nx<=i/\i<nx')) v/\(ef=O->aM.fP (λi=>p i\/(nx<=i/\i<nx')) Lo'):=λp hp1 hp2=>
    ⟨(uL 4 hb3).mono λi hi=>(EK hi).imp (hal p hp1 hp2 i) id,λhe q hq=>((akH (hb4.resolve_left (by rw[he];simp))).mono λi hi=>hi.imp (hal p hp1 hp2 i) id) q (t2 q hq)⟩
   obtain⟨g1,g2⟩:=hids (λi=>i<nx) (λt _ d hdd=>hfl t d hdd) hin.lts;have hlt:∀i,(i<nx\/(nx<=i/\i<nx'))->i<nx':=λi hi=>by omega
   have hfact:pO P n ops o f R nx ⟨o.dst,v,bP ops o,rd,wr,ef,Lo',J⟩ nx':=⟨rfl,rfl,λhe=>hb2.resolve_left (by simp only at he;rw[he];simp),hd,hb1,λh=>gI rfl h, .inr (.inr ⟨hg,rfl,λρ C=>by
     cases ef with
     |true=>exact Ye.mono (y1 ρ C) λa σ' ⟨ρ',z1,z2,z3⟩=>⟨ρ',z1,z2,z3.trans (kB t3)⟩
     |false=>exact y2 rfl ρ C⟩),t1,hin,g1.mono hlt,λhe=>(aM.fP.mono (g2 he) hlt).nQ,hids⟩
   have hR':aM.ct nx' (Rc.R ⟨o.dst,v,bP ops o,rd,wr,ef,Lo',J⟩ R):=by
    cases ef with
    |false=>exact hR.mono hb1
    |true=>exact λq hq=>(zV.1 hq).elim (λhq=>((aM.fP.mono (g2 rfl) hlt).nQ) q hq) λhq=>(hR.mono hb1) q (zS.1 hq).1
   have h4:Ku P F n ops ps l (cs++[⟨o.dst,v,bP ops o,rd,wr,ef,Lo',J⟩]) ⟨mo o.dst v E,Rc.R ⟨o.dst,v,bP ops o,rd,wr,ef,Lo',J⟩ R,nx'⟩ k=Q r:=h3;obtain⟨cs',s',f',q1,q2,q3⟩:=El hF hN l (f:=Rc.F ⟨o.dst,v,bP ops o,rd,wr,ef,Lo',J⟩ f) h4 (L4 rfl rfl hf1) (λt d hdd=>by
    unfold Rc.F at hdd;split at hdd
    ·cases hdd;exact g1.mono hlt
    ·exact ct.mono (hfl t d hdd) hb1) hR'
   exact⟨_::cs',s',f',by simpa using q1, .cons hfact q2,q3⟩
  ·obtain⟨E,R,nx⟩:=s1;obtain⟨E0,R0,nx0⟩:=s;subst e1 e2;have hin:aM.ct nx (eV [] R):=λq hq=>hR q (zS.1 hq).1;have hfact:pO P n ops o f R nx ⟨o.dst, .lit undef,bP ops o,[],[],false,[],none⟩ nx:=⟨rfl,rfl,λh=>(by cases h),hd,zA _,λh=>gI rfl h, .inl ⟨hg,rfl,rfl,rfl⟩,λ_ h=>(by cases h),hin, .lit _,λh=>(by cases h),λp _ _=>⟨.lit _,λh=>(by cases h)⟩⟩;have h2:Ku P F n ops ps l (cs++[⟨o.dst, .lit undef,bP ops o,[],[],V,[],J⟩]) ⟨mo o.dst (.lit undef) E,R,nx⟩ k=Q r:=h1;obtain⟨cs',s',f',q1,q2,q3⟩:=El hF hN l (f:=Rc.F ⟨o.dst, .lit undef,bP ops o,[],[],V,[],J⟩ f) h2 (L4 rfl rfl hf1) (λt d hdd=>by
    unfold Rc.F at hdd;split at hdd
    ·cases hdd;exact .lit _
    ·exact hfl t d hdd) hR
   exact⟨_::cs',s',f',by simpa using q1, .cons hfact q2,q3⟩
section
variable {P:Program} {n:Nat} {ops:Array Oper}
def Ch.idx{f f':Fr}{R R':aM}{nx nx':Nat}{os:aa Oper}{cs:aa Rc}(h:Ch P n ops f R nx os cs f' R' nx'):yz cs=yz os/\f'=fC cs (zw (yz cs) O) f/\R'=dJ cs (zw (yz cs) O) R/\
  ∃g:Nat->Nat,g 0=nx/\g os.length=nx'/\(∀i,i<yz os->g i<=g (i+1))/\∀(i:Nat) o c,os[i]? =Q o->cs[i]? =Q c->pO P n ops o (fC (cs.take i) (zw i O) f) (dJ (cs.take i) (zw i O) R) (g i) c (g (i+1)):=by
 induction h with
 |nil f R nx=>exact⟨rfl,rfl,rfl,λ_=>nx,rfl,rfl,λi hi=>by simp at hi,λi o c h=>by cases h⟩
 |@cons f f' R R' nx nx1 nx' o os c cs h hs ih=>
  obtain⟨h1,h2,h3,g,g0,g1,g2,g3⟩:=ih;refine⟨by simp[h1],by rw[h2];rfl,by rw[h3];rfl,λi=>match i with|0=>nx|i+1=>g i,rfl,g1,λi hi=> ?_,λi o' c' q1 q2=> ?_⟩
  ·cases i with
   |zero=>show nx<=g 0;rw[g0];exact h.le
   |succ i=>exact g2 i (by simpa using hi)
  ·cases i with
   |zero=>cases q1;cases q2;show pO P n ops o f R nx c (g 0);rw[g0];exact h
   |succ i=>exact g3 i o' c' q1 q2
def R7{g:Nat->Nat}{N:Nat}(h:∀i,i<N->g i<=g (i+1)):∀i j,i<=j->j<=N->g i<=g j:=λi j hij hj=>by
  induction j with
  | zero => have : i = 0 := by omega
            subst this;exact zA _
  |succ j ih=>
    grind
def mE:aa Bool->Nat
 |[]=>0
 |b::bs=>(match b with|O=>0|V=>1)+mE bs
def HO:∀{bs:aa Bool} {i:Nat},bs[i]? =Q V->mE bs=mE (bs.set i O)+1
 |[],_,h=>by cases h
 |b::bs,0,h=>by
  simp only[List.getElem?_cons_zero,zG.injEq]at h;subst h;show 1+mE bs=(0+mE bs)+1;omega
 |b::bs,i+1,h=>by
  have:=HO (bs:=bs) (i:=i) (by simpa using h);cases b with
  |true=>
   show 0+mE bs=(0+mE (bs.set i O))+1;omega
  |false=>
   show 1+mE bs=(1+mE (bs.set i O))+1;omega
def J7:∀N:Nat,mE (zw N V)=N
 |0=>rfl
 |N+1=>by rw[yE];show 1+mE (zw N V)=N+1;rw[J7 N];omega
def CR:∀{bs:aa Bool},mE bs=0->bs=zw (yz bs) O
 |[],_=>rfl
 |b::bs,h=>by
  cases b with
  |true=>rw[yo,yE,<-CR (bs:=bs) (by have:0+mE bs=0:=h;omega)]
  |false=>have:1+mE bs=0:=h;omega
def Kn:∀{bs:aa Bool},mE bs≠0->∃i:Nat,bs[i]? =Q V/\∀j,j<i->bs[j]? =Q O
 |[],h=>gI rfl h
 |b::bs,h=>by
  cases b with
  |false=>exact⟨0,rfl,λj hj=>by omega⟩
  |true=>
   obtain⟨i,h1,h2⟩:=Kn (bs:=bs) (λe=>h (by show 0+mE bs=0;omega));refine⟨i+1,h1,λj hj=> ?_⟩;cases j with
   |zero=>rfl
   |succ j=>exact h2 j (by omega)
def mem_ready{listed:Array Bool}{i:Nat}:i∈Region.ready .any ops listed↔i<ops.size/\listed.getD i O=V/\∃o,ops[i]? =Q o/\∀e∈o.after.toList,Region.binds .any e=O->listed.getD e.on V=O:=by
 unfold Region.ready;simp only[zS,List.mem_range,zj,Bool.not_eq_true'];refine and_congr_right λhi=>and_congr_right λ_=> ?_;rw[xk hi];simp only[zX,yl,zG.injEq,exists_eq_left'];rw[Array.all_eq_true'];constructor
 ·intro h e he hb;have:=h e (by simpa using he);rw[hb]at this
  assumption
 ·intro h e he;cases hb:Region.binds .any e with
  |false=>rfl
  |true=>simpa using h e (by simpa using he) hb
def tq{listed:Array Bool}{i:Nat}(hi:i<listed.size):listed.getD i O=V↔listed.toList[i]? =Q V:=by
 rw[Array.getD_eq_getD_getElem?,xk hi,zm (by simpa using hi)];simp
def Bk{listed:Array Bool}{i:Nat}:listed.getD i V=O↔listed.toList[i]? =Q O:=by
 cases h:listed[i]? with
 |none=>simp[h]
 |some b=>simp[h]
def akn{C:Cg}{cs:aa Rc}{f0:Fr}{R0:aM}{nx0:Nat}{g:Nat->Nat}{ds:aa Deferred}{zg:Exit->Act->World->Prop}
  (hlen:yz cs=ops.size) (g0:g 0=nx0) (gn:C.n<=nx0) (g2:∀i,i<ops.size->g i<=g (i+1)) (hf:∀(i:Nat) o c,ops.toList[i]? =Q o->cs[i]? =Q c->pO P n ops o (fC (cs.take i) (zw i O) f0) (dJ (cs.take i) (zw i O) R0) (g i) c (g (i+1)))
  (hcf:∀(i j:Nat) (c d:Rc),j<i->cs[j]? =Q c->cs[i]? =Q d->CF c d\/∀bs,BZ ops.toList bs->(∀o,ops.toList[i]? =Q o->Rdy bs o)->bs[j]? =Q O)
  (hback:∀(i:Nat) o,ops.toList[i]? =Q o->∀e∈o.after.toList,Region.binds .any e=O->e.on<i)
  (hQ:∀a w,a.defers=ds->Ty C n (λi=>i<g ops.size) (fC cs (zw (yz cs) O) f0) (dJ cs (zw (yz cs) O) R0) a w->zg .normal a w):
  ∀(fuel:Nat) (listed:Array Bool) (a:Act) (w:World),listed.size=ops.size->mE listed.toList=fuel->BZ ops.toList listed.toList->a.defers=ds->
   Ty C n (λx=>x<nx0\/∃j:Nat,listed.toList[j]? =Q O/\g j<=x/\x<g (j+1)) (fC cs listed.toList f0) (dJ cs listed.toList R0) a w->wpAny P .any ops zg fuel listed a w:=by
 have hmono:=R7 (N:=ops.size) (g:=g) g2;intro fuel;induction fuel with
 |zero=>
  intro listed a w hs hc hcl hda hm;have hall:=CR hc;have hfin:zg .normal a w:=by
   refine hQ a w hda ?_;rw[hall,show yz listed.toList=yz cs from by rw[hlen,<-hs];simp]at hm;obtain⟨E,ρ,q1,q2,q3,q5,q4⟩:=hm;have hle:∀i,(i<nx0\/∃j:Nat,(zw (yz cs) O)[j]? =Q O/\g j<=i/\i<g (j+1))->i<g ops.size:=λi hi=>by
    rcases hi with hi|⟨j,hj,_,hj3⟩
    ·have:=hmono 0 ops.size (yy _) (zA _);omega
    ·have hj':j<yz cs:=by simpa using (zQ.1 hj).1
     have:=hmono (j+1) ops.size (by omega) (zA _);omega
   exact⟨E,ρ,q1,λq hq=>(q2 q hq).mono hle,q3.mono hle,q5,q4⟩
  refine⟨?_,hfin⟩;rw[List.eq_nil_iff_forall_not_mem];intro i hi;obtain⟨h1,h2,_⟩:=mem_ready.1 hi;rw[tq (by omega),hall,wL]at h2;split at h2<;>cases h2
 |succ fuel ih=>
  intro listed a w hs hc hcl hda hm;refine⟨λhr=> ?_,λi hi=> ?_⟩
  ·
   exfalso;obtain⟨i,h1,h2⟩:=Kn (bs:=listed.toList) (by omega);have hil:i<listed.size:=by simpa using (zQ.1 h1).1
   have hio:i<ops.size:=by omega
   have:i∈Region.ready .any ops listed:=mem_ready.2 ⟨hio,(tq hil).2 h1,ops[i],xk hio,λe he hb=>Bk.2 (h2 _ (hback i ops[i] (by simp[hio]) e he hb))⟩;simp_all
  ·obtain⟨hio,h2,o,ho,hrd⟩:=mem_ready.1 hi;have hil:i<listed.size:=by omega
   have hbi:=(tq hil).1 h2;have hol:ops.toList[i]? =Q o:=by simpa using ho
   have hRdy:Rdy listed.toList o:=λe he hb=>Bk.1 (hrd e he hb);obtain⟨c,hci⟩:∃c,cs[i]? =Q c:=⟨_,zm (by omega)⟩;have fact:=hf i o c hol hci;obtain⟨s1,s2,s3,s4,s5⟩:=Yi (cs:=cs) (bs:=listed.toList) (i:=i) (c:=c) f0 R0 (by rw[hlen,<-hs];simp) hci hbi
    (λj d hji hd hbj=>(hcf i j d c hji hd hci).resolve_right λh=>by
     have:=h listed.toList hcl (λo' ho'=>by rw[hol]at ho';cases ho';exact hRdy);rw[hbj]at this;cases this)
    (λj d hij hd hbj=>((hcf j i c d hij hci hd).resolve_right λh=>by
     have hjo:j<ops.size:=by have:=(zQ.1 hd).1;omega
     have:=h listed.toList hcl (λo' ho'=>hcl j o' ho' hbj);rw[hbi]at this;cases this).symm)
   have eset:(listed.setIfInBounds i O).toList=listed.toList.set i O:=Array.toList_setIfInBounds ..;have hcl':BZ ops.toList (listed.toList.set i O):=λj o' ho' hbj e he hb=>by
    have hmono':∀k,listed.toList[k]? =Q O->(listed.toList.set i O)[k]? =Q O:=λk hk=>by
     rw[List.getElem?_set];split
     ·rename_i hik;rw[bS (by simpa using hil)]
     ·exact hk
    by_cases hij:i=j
    ·subst hij;rw[hol]at ho';cases ho';exact hmono' _ (hRdy e he hb)
    ·rw[List.getElem?_set_ne hij]at hbj;exact hmono' _ (hcl j o' ho' hbj e he hb)
   have hpn:∀x,(x<nx0\/∃j:Nat,listed.toList[j]? =Q O/\g j<=x/\x<g (j+1))->¬(g i<=x/\x<g (i+1)):=λx hx hr=>by
    rcases hx with hx|⟨j,hj,hj2,hj3⟩
    ·have:=hmono 0 i (yy _) (by omega);omega
    ·have hne:j≠i:=λe=>by rw[e,hbi]at hj;cases hj
     have hjl:j<ops.size:=by
      have:j<yz listed.toList:=(zQ.1 hj).1;have h3:yz listed.toList=listed.size:=by simp
      omega
     by_cases hlt:j<i
     ·have:=hmono (j+1) i (by omega) (by omega);omega
     ·have:=hmono (i+1) j (by omega) (by omega);omega
   have hweak:∀x,((x<nx0\/∃j:Nat,listed.toList[j]? =Q O/\g j<=x/\x<g (j+1))\/(g i<=x/\x<g (i+1)))->(x<nx0\/∃j:Nat,(listed.toList.set i O)[j]? =Q O/\g j<=x/\x<g (j+1)):=λx hx=>by
    rcases hx with (hx|⟨j,hj,hj2⟩)|hx
    ·exact .inl hx
    ·refine .inr ⟨j,?_,hj2⟩;rw[List.getElem?_set];split
     ·rw[bS (by simpa using hil)]
     ·exact hj
    ·refine .inr ⟨i,?_,hx⟩;rw[List.getElem?_set_self (by simpa using hil)]
   have cont:∀a' w',a'.defers=ds->Ty C n (λx=>(x<nx0\/∃j:Nat,listed.toList[j]? =Q O/\g j<=x/\x<g (j+1))\/(g i<=x/\x<g (i+1))) (c.F (fC cs listed.toList f0)) (c.R (dJ cs listed.toList R0)) a' w'->wpAny P .any ops zg fuel (listed.setIfInBounds i O) a' w':=λa' w' hda' hm'=>by
    refine ih (listed.setIfInBounds i O) a' w' (by simp[hs]) ?_ (by rw[eset];exact hcl') hda' ?_
    ·rw[eset];have:=HO hbi;omega
    ·rw[eset,<-s3];obtain⟨E,ρ,q1,q2,q3,q5,q4⟩:=hm'.pm s4;exact⟨E,ρ,q1,λq hq=>(q2 q hq).mono hweak,q3.mono hweak,q5,q4⟩
   have hgate:∀wn,uf ops o (fC (cs.take i) (zw i O) f0) wn->Region.wanted o (yielded ops a.tmps)=wn:=λwn hg=>by
    unfold uf at hg;cases hgd:o.guard with
    |none=>
     rw[hgd]at hg;simp only at hg;rw[hg];unfold Region.wanted;rw[hgd]
    |some jw=>
     obtain⟨j,want⟩:=jw;rw[hgd]at hg;obtain⟨t,hj,hg⟩:=hg;have hts:t∈c.sl:=by
      rw[fact.sl];unfold bP af0;rw[hgd];simp only[hj];exact yh _ (zC.2 rfl)
     obtain⟨E,ρ,q1,_,_,_,q4⟩:=hm;obtain⟨w1,w2⟩:=Dx (ρ:=ρ) hgd hj (E:=E);rcases hg with ⟨b,hb,hw⟩|⟨vs,hb,hw⟩
     ·rw[hw];exact iz.spec q4.slots (w1 b (q1 _ _ (by rw[s1 t hts];exact hb)))
     ·rw[hw];exact iz.spec q4.slots (w2 vs (q1 _ _ (by rw[s1 t hts];exact hb)))
   unfold wpOp;simp only[ho];rcases fact.run with ⟨hg,hv,hef,hci0⟩|⟨si,hg,hci0,hv,hlt,hseen,hy⟩|⟨hg,hci0,hy⟩
   ·rw[bT (by rw[hgate _ hg];exact Bool.false_ne_true)];obtain⟨E,ρ,q1,q2,q3,q5,q4⟩:=hm;have hR:c.R (dJ cs listed.toList R0)=dJ cs listed.toList R0:=by unfold Rc.R;rw[hci0,hef]
    refine cont _ _ (by rw[<-hda];cases o.dst<;>rfl) ?_;rw[hR];cases hdo:o.dst with
    |none=>exact⟨E,ρ,λt d ht=>q1 t d (by unfold Rc.F at ht;rw[fact.dst,hdo]at ht;simpa using ht),λq hq=>(q2 q hq).mono λ_ h=> .inl h,q3.mono λ_ h=> .inl h,q5,q4⟩
    |some t=>
     refine⟨(t, .lit undef)::E,ρ,λs d hsd=> ?_,λq hq=> ?_,q3.mono λ_ h=> .inl h,q5,?_⟩
     ·unfold Rc.F at hsd;rw[fact.dst,hdo,hv]at hsd;by_cases hts:t=s
      ·subst hts;rw[bS rfl]at hsd;cases hsd;exact Env.dP _ _ _
      ·rw[bT (λe=>hts (zG.inj e))]at hsd;rw[Env.cW _ _ hts];exact q1 s d hsd
     ·rcases zu.1 hq with rfl|hq
      ·exact .lit _
      ·exact(q2 q hq).mono λ_ h=> .inl h
     ·have hdn:=fact.dn;rw[hdo]at hdn;have:=q4.put (av:= .lit undef) (v:=undef) hdn (.lit _);show jH C.C n ((t,bM.sub ρ (.lit undef))::E.sub ρ) _ _ _;rw[bF];exact this
   ·rw[bS (hgate _ hg)];refine .inl ?_;have hle:kD (fC cs listed.toList f0) c.sl=kD (fC (cs.take i) (zw i O) f0) c.sl:=AU s1;obtain⟨es,e1,e2⟩:=s5 si hci0 hseen;obtain⟨E,ρ,q1,q2,q3,q5,q4⟩:=hm;have hmem:(si.id,IR.mp es)∈dJ cs listed.toList R0:=(zS.1 (show _∈eV [si.id] _ by rw[e1];exact zC.2 rfl)).1;have hgi:g i<=g (i+1):=g2 i hio;have eo:ek [si.id] [(si.id,IR.mp es)]=[]:=by simp[ek,cC]
    have hRR:List.Perm (Rc.R ⟨c.dst,c.v,c.sl,[si.id],[si.id],O,[(si.id, .mp (lZ si.n si.v es))],J⟩ (dJ cs listed.toList R0)) (c.R (dJ cs listed.toList R0)):=by
     have h1:c.R (dJ cs listed.toList R0)=gy si (dJ cs listed.toList R0):=by unfold Rc.R;rw[hci0]
     have h2:List.Perm (eV [si.id] (dJ cs listed.toList R0)++ek [si.id] (dJ cs listed.toList R0)) (dJ cs listed.toList R0):=wM _ _;have h3:gy si (eV [si.id] (dJ cs listed.toList R0)++ek [si.id] (dJ cs listed.toList R0))=[(si.id, .mp (lZ si.n si.v es))]++ek [si.id] (dJ cs listed.toList R0):=by
      have h4:gy si (ek [si.id] (dJ cs listed.toList R0))=ek [si.id] (dJ cs listed.toList R0):=tg λq hq e=>by
       have:=(zS.1 hq).2;rw[e]at this;simp[cC]at this
      unfold gy at h4 ⊢;rw[zK,h4,e1];show [fH si (si.id, .mp es)]++_=_;rw[iL rfl]
     rw[h1];have h5:=h2.map (fH si);exact(List.Perm.of_eq h3.symm).trans h5
    refine Sq (c:=⟨c.dst,c.v,c.sl,[si.id],[si.id],O,[(si.id, .mp (lZ si.n si.v es))],J⟩) rfl (nx:=g i) (nx':=g (i+1)) (by have:=hmono 0 i (yy _) (by omega);omega) ⟨E,ρ,q1,q2,q3,q5,q4⟩ fact.dst fact.dn (λ_ h=>h) (by
      dsimp only;rw[hle,hv,e1,eo,yW];exact hy es e2) hpn fact.lv (by
      dsimp only;rw[e1];intro q hq;rw[zC.1 hq];exact⟨hlt,trivial⟩) (λ_ q hq=>by
      rw[zC.1 hq];exact⟨yN hlt hgi,trivial⟩) (by
      dsimp only;rw[hv];exact .lit _) (λ_ q hq=>by
      rw[zC.1 hq];exact⟨.inl (q3 _ hmem).1,trivial⟩) λa' w' hd' hm'=>cont a' w' (hd'.trans hda) (hm'.perm hRR)
   ·rw[bS (hgate _ hg)];refine .inl ?_;have hle:kD (fC cs listed.toList f0) c.sl=kD (fC (cs.take i) (zw i O) f0) c.sl:=AU s1;obtain⟨E,ρ,q1,q2,q3,q5,q4⟩:=hm;have hids:=fact.ids (λx=>x<nx0\/∃j:Nat,listed.toList[j]? =Q O/\g j<=x/\x<g (j+1)) (λt ht d hd=>by
     rw[<-s1 t ht]at hd;exact q2 _ (Env.get_mem (q1 t d hd))) (by rw[<-s2];exact λq hq=>q3 q (zS.1 hq).1)
    exact Sq hci0 (nx:=g i) (nx':=g (i+1)) (by have:=hmono 0 i (yy _) (by omega);omega) ⟨E,ρ,q1,q2,q3,q5,q4⟩ fact.dst fact.dn fact.wr (by rw[hle,s2];exact hy) hpn fact.lv (by rw[s2];exact fact.lin) fact.lo hids.1 hids.2 λa' w' hd' hm'=>cont a' w' (hd'.trans hda) hm'
def VZ{α:Type}{r:α}{F:aI}{C:Cg}{s:St}{a:Act}{w:World}{id:Nat}{k:St->af α}(hF:gu P F)(hN:dH F)(h:Df P F n ops s k=Q r)(hm:Mt C n s a w):
  (Code.region id ops O).wp P (λe a' w'=>e= .normal/\a'.defers=a.defers/\∃s',k s'=Q r/\Mt C n s' a' w') a w:=by
 unfold Df at h;split at h
 case h_2=>cases h
 rename_i hb;simp only[zj]at hb;split at h
 case h_2=>cases h
 rename_i ps hps;obtain⟨E,hh,hE,hR,ρ,hag,hsim⟩:=hm;obtain⟨cs,s',f',q1,q2,q3⟩:=El hF hN ops.toList (f:=cu s.E) h (λt d h=>h) (λt d hd=>Env.Wv (x:= .tmp t) hE (hh t d hd)) hR;split at q1
 case h_2=>cases q1
 rename_i hpo;obtain⟨l1,l2,l3,g,g0,g1,g2,g3⟩:=q2.idx;have hN:yz ops.toList=ops.size:=by simp
 refine wp_region_any hb.1 ?_;refine akn (C:=C) (cs:=cs) (f0:=cu s.E) (R0:=s.R) (nx0:=s.nx) (g:=g) (ds:=a.defers) (by rw[l1,hN]) g0 hag.2 (by rw[<-hN];exact g2) g3 (λi j c d hji hc hd=>abl hps hpo (λi c hc=>by
   obtain⟨o,ho⟩:∃o,ops.toList[i]? =Q o:=⟨_,zm (by rw[<-l1];exact(zQ.1 hc).1)⟩;have:=g3 i o c ho hc;exact⟨o,ho,this.dst,this.sl,this.ef,this.wr,this.fi⟩) hji hc hd) (λi o ho e he hbe=>by have:=GD hb.2 i o ho e he hbe;omega) (λa' w' hd' hm'=> ?_) ops.size (Array.replicate ops.size V) a _ (by simp) (by rw[Array.toList_replicate,J7]) (λi o _ hbi=> ?_) rfl ?_
 ·refine⟨rfl,hd',s',q1,?_⟩;rw[<-l2,<-l3]at hm';obtain⟨E',ρ',p1,p2,p3,p5,p4⟩:=hm';rw[hN]at g1;rw[g1]at p2 p3;exact⟨E',λt d hd=>p1 t d (q3 t d hd),p2,p3.nQ,ρ',⟨p5,by have:=R7 (N:=yz ops.toList) g2 0 (yz ops.toList) (yy _) (zA _);rw[g0,hN,g1]at this;have h7:=hag.2;omega⟩,p4⟩
 ·rw[Array.toList_replicate,wL]at hbi;split at hbi<;>cases hbi
 ·have nF:∀(cs:aa Rc) (n:Nat) (f:Fr),fC cs (zw n V) f=f:=λcs=>by
   induction cs with
   |nil=>intro n f;rfl
   |cons d cs ih=>
    intro n f;cases n with
    |zero=>rfl
    |succ n=>rw[yE];exact ih n f
  have nR:∀(cs:aa Rc) (n:Nat) (R:aM),dJ cs (zw n V) R=R:=λcs=>by
   induction cs with
   |nil=>intro n f;rfl
   |cons d cs ih=>
    intro n f;cases n with
    |zero=>rfl
    |succ n=>rw[yE];exact ih n f
  rw[Array.toList_replicate,nF,nR];exact⟨E,ρ,hh,λq hq=>fP.mono (hE q hq) λi hi=> .inl hi,(aM.fP.mono hR.lts λi hi=> .inl hi),hag.1,hsim.drew⟩
end
section
variable {α:Type} {r:α} {P:Program} {F:aI} {C:Cg} {n:Nat}
def uh(P:Program)(F:aI)(n:Nat)(_:Nat)(ops:Array Oper)(draw:Bool)(s:St)(k:fA α):af α:=match draw with
 |false=>eD P F n ops ops.toList s (k .normal)
 |true=>Df P F n ops s (k .normal)
def exec(P:Program)(F:aI)(n:Nat)(fuel:Nat)(c:Code):St->fA α->af α:=
 Code.rec Vn (uh P F n) (λ_ _=>awt) (λc _ _=>aj3 c) (λid _=>ad7 id) (λ_=>TI fuel) (λ_ _ _ _ _ _=>CC) TY (λ_ _=>CC) (λ_=>CC) (λ_=>CC) ahN (λ_=>CC) c
def mu(P:Program)(F:aI)(fuel:Nat)(f:FuncId)(args:aa AV)(R:aM)(nx:Nat)(k:AV->aM->Nat->af α):af α:=match P.funcs[f]? with
 |some fn=>match fn.body with
  |some c=>match z8 (yz args) fn.ntmps&& !(fn.name=="runtime.NumGoroutine")with
   |true=>exec (α:=α) P F fn.ntmps fuel c ⟨Hl 0 args .e,R,nx⟩ λe s=>match e with
    | .normal=>(CK P s fn.results.toList).bind λds=>k (iH ds) (GK s.R nx (iH ds) args) s.nx
    | .ret=>(CK P s fn.results.toList).bind λds=>k (iH ds) (GK s.R nx (iH ds) args) s.nx
    |_=>J
   |false=>J
  |none=>J
 |none=>J
def jr(P:Program)(F0:aI)(has:FuncId->Bool)(fuel:Nat):Nat->aI
 |0=>F0
 |m+1=>λα f args R nx k=>match has f with
  |true=>F0 α f args R nx k
  |false=>mu P (jr P F0 has fuel m) fuel f args R nx k
def Ends(P:Program)(C:Cg)(n:Nat)(c:Code)(k:fA α)(r:α)(a:Act)(w:World):Prop:=c.wp P (λe a' w'=>∃s',k e s'=Q r/\Mt C n s' a' w') a w
def Qk(P:Program)(C:Cg)(n:Nat)(c:Code)(x:St->fA α->af α):Prop:=∀(r:α) (s:St) (k:fA α) (a:Act) (w:World),x s k=Q r->Mt C n s a w->Ends P C n c k r a w
def Gs{c:Operand}{s:St}{x y:St->af α}(h:mw c s x y=Q r){a:Act}{w:World}(hm:Mt C n s a w):∃(b:Bool) (s':St),a.eval c= .bool b/\Mt C n s' a w/\(match b with|O=>x s'|V=>y s')=Q r:=by
 unfold mw at h;split at h
 ·rename_i t;split at h
  case h_2=>cases h
  rename_i b hb;have hev:a.eval (.tmp t)= .bool b:=by
   obtain⟨E,hh,_,_,ρ,_,hs⟩:=hm;refine MH hs ?_;have h1:=hh t _ hb;show Env.get (E.sub ρ) t=_;rw[Env.eA,h1,zX,bF]
  refine⟨b,s.fh t b,hev,hm.fh hb,?_⟩;unfold SV at h;cases b<;>exact h
 ·exact⟨O,s,rfl,hm,h⟩
 ·exact⟨V,s,rfl,hm,h⟩
 ·cases h
def Bf(hF:gu P F)(hN:dH F)(id:Nat)(ops:Array Oper)(draw:Bool):Qk (α:=α) P C n (.region id ops draw) (uh P F n id ops draw):=λr s k a w h hm=>by
 unfold uh at h;cases draw with
 |false=>
  refine wp_mono (wp_region_lit (vL hF _ h hm)) λe a' w' ⟨he,_,s',h1,h2⟩=> ?_;subst he;exact⟨s',h1,h2⟩
 |true=>
  refine wp_mono (VZ hF hN h hm) λe a' w' ⟨he,_,s',h1,h2⟩=> ?_;subst he;exact⟨s',h1,h2⟩
def CU{c:Code}{x:St->fA α->af α}(hx:Qk P C n c x)(fuel:Nat):Qk P C n (.loop c) (TI fuel x):=λr s k a w h hm=>by
 have key:∀(m:Nat) (s:St) (a:Act) (w:World),AZ x k m s=Q r->Mt C n s a w->c.wp P (Exit.then (InL P c λe a' w'=>∃s',k e s'=Q r/\Mt C n s' a' w') λe a' w'=>∃s',k e s'=Q r/\Mt C n s' a' w') a w:=by
  intro m;induction m with
  |zero=>intro s a w h;cases h
  |succ m ih=>
   intro s a w h hm;refine wp_mono (hx r s _ a w h hm) λe a' w' ⟨s',h1,h2⟩=> ?_;cases e with
   |normal=>exact IU (ih s' a' w' h1 h2)
   |_=>exact⟨s',h1,h2⟩
 exact C1 (key fuel s a w h hm)
def ZR(hF:gu P F)(hN:dH F)(fuel:Nat)(c:Code):Qk (α:=α) P C n c (exec P F n fuel c):=by
 induction c with
 |skip=>exact λr s k a w h hm=>wp_skip ⟨s,h,hm⟩
 |region id ops draw=>exact Bf hF hN id ops draw
 |seq x y hx hy=>
  intro r s k a w h hm;refine wp_seq (wp_mono (hx r s _ a w h hm) λe a' w' ⟨s',h1,h2⟩=> ?_);cases e with
  |normal=>exact hy r s' k a' w' h1 h2
  |_=>exact⟨s',h1,h2⟩
 |cond c x y hx hy=>
  intro r s k a w h hm;obtain⟨b,s',he,hm',h'⟩:=Gs (show mw c s _ _=Q r from h) hm;cases b with
  |true=>exact wp_cond_true he (hx r s' k a w h' hm')
  |false=>exact wp_cond_false he (hy r s' k a w h' hm')
 |block id x hx=>
  intro r s k a w h hm;refine wp_block (wp_mono (hx r s _ a w h hm) λe a' w' ⟨s',h1,h2⟩=> ?_);cases e with
  |exit id'=>
   simp only[o8]at h1;simp only[Exit.inBlock];split
   ·rename_i he;subst he;have hb:zh id' id'=O:=yH _;simp only[hb]at h1;exact⟨s',h1,h2⟩
   ·rename_i he;have hb:zh id' id=V:=by
     cases hb:zh id' id with
     |false=>rfl
     |true=>exact gI (yI hb) he
    simp only[hb]at h1;exact⟨s',h1,h2⟩
  |_=>exact⟨s',h1,h2⟩
 |loop c hc=>exact CU hc fuel
 |exit i=>exact λr s k a w h hm=>wp_exit ⟨s,h,hm⟩
 |ret=>exact λr s k a w h hm=>wp_ret ⟨s,h,hm⟩
 |_=>exact λr s k a w h hm=>by cases h
def se(nx:Nat)(ids:aa Nat):∀R:aM,List.Sublist (G8 nx ids R) R
 |[]=> .slnil
 |p::R=>by
  have ih:=se nx ids R;show List.Sublist (Bool.rec (Bool.rec (G8 nx ids R) (p::G8 nx ids R) (cC p.1 ids)) (p::R) (zD p.1 nx)) (p::R);cases zD p.1 nx with
  |true=>exact List.Sublist.refl _
  |false=>
   cases cC p.1 ids with
   |true=>exact ih.cons_cons p
   |false=>exact ih.cons p
def YN{s:St}{E:Env}{ρ:Gh}{rv:ResultVar}{d:AV}(h:Yf P s rv=Q d)(hh:oR s.E E):rA P (E.sub ρ) (aM.res ρ s.R) rv (d.sub ρ):=by
 unfold Yf at h;split at h
 ·rename_i t;refine .tmp ?_;rw[Env.eA,hh t d h];rfl
 ·rename_i t ty;split at h
  case h_2=>cases h
  rename_i id hp;have hp':Env.get (E.sub ρ) t=Q (.lit (.pointer (Q ⟨ρ.b id,0,J⟩))):=by
   rw[Env.eA,hh t _ hp,zX,bM.sub]
  split at h
  case h_2=>cases h
  rename_i T cs hr;obtain⟨i,hi,_⟩:=cU hr;have hres:=eu (ρ:=ρ) hi;split at h
  ·rename_i h1;refine .axX i hp' hres (nC h1) ?_;rw[zN,h];rfl
  ·split at h
   case h_2=>cases h
   rename_i m hm;split at h
   case h_2=>cases h
   rename_i hl;cases h;rw[dS];refine .axx i hp' hres (Jo hm) ?_;rw[zI];exact dX hl
def UX{s:St}{nx:Nat}{rv:ResultVar}{d:AV}(h:Yf P s rv=Q d){E:Env}(hh:oR s.E E)(hE:E.ct nx)(hR:aM.ct nx s.R):ct nx d:=by
 unfold Yf at h;split at h
 ·rename_i t;exact hE _ (Env.get_mem (hh t d h))
 ·split at h
  case h_2=>cases h
  split at h
  case h_2=>cases h
  rename_i id _ T cs hr;have hL:=Be hr hR;split at h
  ·exact hL.2 _ (List.mem_of_getElem? h)
  ·split at h
   case h_2=>cases h
   split at h
   case h_2=>cases h
   cases h;exact .agg _ hL.2
def Fe{s:St}{E:Env}{ρ:Gh}(hh:oR s.E E){A:Nat->Prop}{w:World}{tmps:Array Value}(hd:Hd A (aM.res ρ s.R) w)(hs:fS A w (E.sub ρ) tmps):∀{l:aa ResultVar} {ds:aa AV},CK P s l=Q ds->
  ∃us,(l.mapM (mK tmps)).run P w= .ok us w/\bn A w (ds.map (bM.sub ρ)) us
 |[],ds,h=>by cases h;exact⟨[],rfl,bn.nil⟩
 |x::l,ds,h=>by
  unfold CK at h;split at h
  case h_2=>cases h
  rename_i d hx;obtain⟨ds',h1,h2⟩:=zk.1 h;subst h2;obtain⟨v,q1,q2⟩:=YN (ρ:=ρ) hx hh A w tmps hd hs;obtain⟨us,q3,q4⟩:=Fe hh hd hs h1;refine⟨v::us,?_,bn.cons q2 q4⟩;rw[List.mapM_cons];simp[q1,q3]
def Is{s:St}{nx:Nat}{E:Env}(hh:oR s.E E)(hE:E.ct nx)(hR:aM.ct nx s.R):∀{l:aa ResultVar} {ds:aa AV},CK P s l=Q ds->∀d∈ds,ct nx d
 |[],ds,h=>by cases h;simp
 |x::l,ds,h=>by
  unfold CK at h;split at h
  case h_2=>cases h
  rename_i d hx;obtain⟨ds',h1,h2⟩:=zk.1 h;subst h2;intro d' hd';rcases zu.1 hd' with rfl|hd'
  ·exact UX hx hh hE hR
  ·exact Is hh hE hR h1 d' hd'
def We{nx:Nat}{ds:aa AV}(h:∀d∈ds,ct nx d):ct nx (iH ds):=by
 unfold iH;split
 ·exact h _ (by simp)
 ·exact .gH _ h
def Ij{ρ:Gh}{A:Nat->Prop}{w:World}{ds:aa AV}{us:aa Value}(h:bn A w (ds.map (bM.sub ρ)) us):Rel A w ((iH ds).sub ρ) (if h:us.toArray.size=1 then us.toArray[0]else .tuple us.toArray):=by
 unfold iH;split
 ·rename_i d;obtain⟨h1,h2⟩:=h
  match us,h1,h2 with
  |[u],_,h2=>exact h2 0 _ _ rfl rfl
 ·rename_i hn;have hl:yz us=yz ds:=by have:=h.1;simpa using this
  rw[dif_neg (by
   intro e
   match ds,hn with
   |[],_=>rw[yK,hl]at e;cases e
   |[d],hn=>exact hn d rfl
   |_::_::_,_=>rw[yK,hl]at e;simp at e),iq]
  exact Rel.w8 h
def tC:∀(l:aa AV) (i:Nat) (T:ET) (E:Env),oR T E->(∀t d,cu T t=Q d->t<i)->oR (Hl i l T) (ew i l++E)
 |[],_,_,_,h,_=>h
 |d::l,i,T,E,h,hT=>by
  have h2:∀t d',cu (jE i d T) t=Q d'->t<i+1:=λt d' ht=>by
   rcases mc ht with ⟨rfl,_⟩|⟨_,q⟩
   ·omega
   ·have:=hT t d' q;omega
  have:=tC l (i+1) (jE i d T) ((i,d)::E) (h.put i d) h2;intro t v ht;have h1:Env.get (ew (i+1) l++(i,d)::E) t=Q v:=this t v ht;show Env.get ((i,d)::(ew (i+1) l++E)) t=Q v;have key:∀(l:aa AV) (j:Nat),i<j->Env.get (ew j l++(i,d)::E) t=Env.get ((i,d)::(ew j l++E)) t:=λl=>by
   induction l with
   |nil=>intro j _;rfl
   |cons u l ih=>
    intro j hj;show Env.get ((j,u)::(ew (j+1) l++(i,d)::E)) t=Env.get ((i,d)::(j,u)::(ew (j+1) l++E)) t;by_cases h1:j=t
    ·subst h1;rw[Env.dP,Env.cW _ _ (by omega),Env.dP]
    ·rw[Env.cW _ _ h1,ih (j+1) (by omega)];by_cases h2:i=t
     ·subst h2;rw[Env.dP,Env.dP]
     ·rw[Env.cW _ _ h2,Env.cW _ _ h2,Env.cW _ _ h1]
  rw[<-key l (i+1) (z7 i)];exact h1
def l8(ρ:Gh):∀(l:aa AV) (i:Nat),(ew i l).sub ρ=ew i (l.map (bM.sub ρ))
 |[],_=>rfl
 |d::l,i=>by show (i,d.sub ρ)::(ew (i+1) l).sub ρ=_;rw[l8 ρ l];rfl
def mD:∀{l:aa AV} {i:Nat} {q:Nat×AV},q∈ew i l->q.2∈l
 |d::l,i,q,h=>by
  rcases zu.1 h with rfl|h
  ·exact zq
  ·exact zH _ (mD h)
def Tl{xs:aa AV}{fn:Func}{C:Cx}{ρ:Gh}{nx:Nat}{s:St}{a:Act}{w:World}{k:AV->aM->Nat->af α}{e:Exit}(he:e= .normal\/e= .ret)(h:((CK P s fn.results.toList).bind λds=>k (iH ds) (GK s.R nx (iH ds) xs) s.nx)=Q r)(hm:Mt ⟨C,ρ,nx⟩ n s a w):
  ∃E' σ',jH C n E' σ' a w/\UU P C n fn (λa s=>∃d R' nx',k d R' nx'=Q r/\nx<=nx'/\ct nx' d/\aM.ct nx' R'/\∃ρ',l6 nx ρ ρ'/\a=d.sub ρ'/\List.Perm s (aM.res ρ' R')) e E' σ':=by
 obtain⟨E,hh,hE,hR,ρ',⟨hag,hnx⟩,hsim⟩:=hm;obtain⟨ds,h1,h2⟩:=zn.1 h;have hsub:List.Sublist (GK s.R nx (iH ds) xs) s.R:=se _ _ _;refine⟨_,_,hsim,LS (σ':=aM.res ρ' (GK s.R nx (iH ds) xs)) (av:=(iH ds).sub ρ') he (hsub.map _) ⟨_,_,_,h2,hnx,We (Is hh hE hR h1),λq hq=>hR q (hsub.subset hq),ρ',hag,rfl,List.Perm.refl _⟩ λA w' tmps hd hs=> ?_⟩;obtain⟨us,q1,q2⟩:=Fe hh hd hs h1;refine⟨_,?_,Ij q2⟩;show (do let vs <-fn.results.mapM (mK tmps);pure (if h:vs.size=1 then vs[0]else .tuple vs):Sem Value).run P w'=_;have e1:fn.results=fn.results.toList.toArray:=by simp
 rw[e1,List.mapM_toArray];simp[q1]
section
variable {β:Type}
def GO{ops:Array Oper}{o:Oper}{s:St}{y n:St->af α}(D:α->af β):(gate ops o s y n).bind D=gate ops o s (λs=>(y s).bind D) (λs=>(n s).bind D):=by
 unfold gate
 repeat' split
 all_goals first|rfl|simp_all
def Qn{o:Op}{s:St}{f:St->af α}(D:α->af β):(tJ o s f).bind D=tJ o s (λs=>(f s).bind D):=by
 unfold tJ
 repeat' split
 all_goals first|rfl|simp_all
def aaX(hN:dH F){o:Oper}{ih:St->(St->af α)->af α}{ih':St->(St->af β)->af β}{k:St->af α}{D:α->af β}(hi:∀s k,(ih s k).bind D=ih' s (λs=>(k s).bind D))(s:St):(rDo P F o ih k s).bind D=rDo P F o ih' (λs=>(k s).bind D) s:=by
 unfold rDo;generalize s.gU (gr s.E o.op)=s1;obtain⟨E,R,nx⟩:=s1;show (lU o.op P F (EH E) (fk R) R nx (HD o.dst E R nx ih k)).bind D=lU o.op P F (EH E) (fk R) R nx (HD o.dst E R nx ih' λs=>(k s).bind D);rw[rT D hN]
 congr 1
 funext e
 cases e<;>exact hi ..
def nU(hN:dH F){ops:Array Oper}(D:α->af β):∀(l:aa Oper) (s:St) (k:St->af α),(eD P F n ops l s k).bind D=eD P F n ops l s (λs=>(k s).bind D)
 |[],s,k=>rfl
 |o::l,s,k=>by
  show (Ht P F n ops o (eD P F n ops l) s k).bind D=Ht P F n ops o (eD P F n ops l) s (λs=>(k s).bind D);unfold Ht;split
  ·rw[GO]
   congr 1
   ·funext s1
    obtain⟨E,R,nx⟩:=s1;show (opF o.op P F o.dst E R nx (eD P F n ops l) k).bind D=opF o.op P F o.dst E R nx (eD P F n ops l) (λs=>(k s).bind D);have e1:=EL P F o ⟨E,R,nx⟩ (eD (α:=α) P F n ops l) k;have e2:=EL P F o ⟨E,R,nx⟩ (eD (α:=β) P F n ops l) (λs=>(k s).bind D);dsimp only at e1 e2;rw[e1,e2,Qn]
    congr 1
    funext s2
    exact aaX hN (λs k=>nU hN D l s k) s2
   ·funext s1
    unfold rNo;split<;>exact nU hN D l _ _
  ·rfl
def uM(hN:dH F){ops:Array Oper}{ps:aa (Nat×Nat)}(D:α->af β):∀(l:aa Oper) (cs:aa Rc) (s:St) (k:aa Rc->St->af α),(Ku P F n ops ps l cs s k).bind D=Ku P F n ops ps l cs s (λcs s=>(k cs s).bind D)
 |[],cs,s,k=>rfl
 |o::l,cs,s,k=>by
  show (Qh P F n ops ps o (Ku P F n ops ps l) cs s k).bind D=Qh P F n ops ps o (Ku P F n ops ps l) cs s (λcs s=>(k cs s).bind D);unfold Qh;split
  ·rw[GO]
   congr 1
   ·funext s1
    obtain⟨E,R,nx⟩:=s1;have he:∀{γ:Type} (k:aa Rc->St->af γ),awi P F ops ps o (Ku P F n ops ps l) cs k ⟨E,R,nx⟩=match Bn P ops o E R with
     |some i=>match i.2 with
      |true=>Ku P F n ops ps l (cs++[⟨o.dst, .lit undef,bP ops o,[],[],V,[],Q i.1⟩]) ⟨mo o.dst (.lit undef) E,gy i.1 R,nx⟩ k
      |false=>J
     |none=>Cq P F o (bP ops o) E (YE (jg ops o E R) R) nx (dK ops ps o cs (jg ops o E R) E R (YE (jg ops o E R) R) nx (Ku P F n ops ps l) k):=λ_=>rfl
    rw[he,he];cases Bn P ops o E R with
    |some i=>
     obtain⟨i,bb⟩:=i;cases bb with
     |true=>exact uM hN D l _ _ _
     |false=>rfl
    |none=>
    show (Cq P F o (bP ops o) E (YE (jg ops o E R) R) nx (dK ops ps o cs (jg ops o E R) E R (YE (jg ops o E R) R) nx (Ku P F n ops ps l) k)).bind D=Cq P F o (bP ops o) E (YE (jg ops o E R) R) nx (dK ops ps o cs (jg ops o E R) E R (YE (jg ops o E R) R) nx (Ku P F n ops ps l) (λcs s=>(k cs s).bind D));rw[<-vp hN,<-vp hN,zW]
    congr 1
    funext x
    unfold dK;split
    ·exact uM hN D l _ _ _
    ·rfl
   ·funext s1
    exact uM hN D l _ _ _
  ·rfl
def Qo(hN:dH F)(id:Nat)(ops:Array Oper)(draw:Bool)(D:α->af β)(s:St)(k:fA α):(uh P F n id ops draw s k).bind D=uh P F n id ops draw s (λe s=>(k e s).bind D):=by
 unfold uh;cases draw with
 |false=>exact nU hN D _ _ _
 |true=>
  show (Df P F n ops s (k .normal)).bind D=Df P F n ops s (λs=>(k .normal s).bind D);unfold Df;split
  ·split
   ·rw[uM hN D]
    congr 1
    funext cs s'
    split<;>rfl
   ·rfl
  ·rfl
def RC{c:Operand}{s:St}{x y:St->af α}(D:α->af β):(mw c s x y).bind D=mw c s (λs=>(x s).bind D) (λs=>(y s).bind D):=by
 unfold mw
 repeat' split
 all_goals first|rfl|(unfold SV;split<;>rfl)|simp_all
def J1{x:St->fA α->af α}{x':St->fA β->af β}{D:α->af β}(hx:∀s k,(x s k).bind D=x' s (λe s=>(k e s).bind D))(k:fA α):∀(m:Nat) (s:St),(AZ x k m s).bind D=AZ x' (λe s=>(k e s).bind D) m s
 |0,s=>rfl
 |m+1,s=>by
  show (x s (Jj k (AZ x k m))).bind D=x' s (Jj (λe s=>(k e s).bind D) (AZ x' (λe s=>(k e s).bind D) m));rw[hx]
  congr 1
  funext e s'
  cases e<;>first|exact J1 hx k m s'|rfl
def S6(hN:dH F)(fuel:Nat)(D:α->af β)(c:Code):∀(s:St) (k:fA α),(exec P F n fuel c s k).bind D=exec P F n fuel c s (λe s=>(k e s).bind D):=by
 induction c with
 |region id ops draw=>exact Qo hN id ops draw D
 |seq x y hx hy=>
  intro s k;show (exec P F n fuel x s (Zw (exec P F n fuel y) k)).bind D=exec P F n fuel x s (Zw (exec P F n fuel y) (λe s=>(k e s).bind D));rw[hx]
  congr 1
  funext e s'
  cases e<;>first|exact hy s' k|rfl
 |cond c x y hx hy=>
  intro s k;show (mw c s (λs=>exec P F n fuel x s k) (λs=>exec P F n fuel y s k)).bind D=mw c s (λs=>exec P F n fuel x s _) (λs=>exec P F n fuel y s _);rw[RC]
  congr 1
  ·funext s;exact hx s k
  ·funext s;exact hy s k
 |block id x hx=>
  intro s k;show (exec P F n fuel x s (o8 id k)).bind D=exec P F n fuel x s (o8 id (λe s=>(k e s).bind D));rw[hx]
  congr 1
  funext e s'
  cases e<;>first|rfl|(simp only[o8];split<;>rfl)
 |loop c hc=>exact λs k=>J1 hc k fuel s
 |_=>exact λs k=>rfl
def Qc(hN:dH F)(fuel:Nat):dH (λα=>mu (α:=α) P F fuel):=λα β f args R nx k D=>by
 show (mu P F fuel f args R nx k).bind D=mu P F fuel f args R nx _;unfold mu;split
 ·split
  ·split
   ·rw[S6 hN]
    congr 1
    funext e s
    cases e<;>first|rfl|exact zW ..
   ·rfl
  ·rfl
 ·rfl
def ga{F0:aI}{has:FuncId->Bool}(hN:dH F0)(fuel:Nat):∀m:Nat,dH (jr P F0 has fuel m)
 |0=>hN
 |m+1=>λα β f args R nx k D=>by
  show (match has f with|O=>F0 α f args R nx k|V=>mu P (jr P F0 has fuel m) fuel f args R nx k).bind D=_;show _=(match has f with|O=>F0 β f args R nx _|V=>mu P (jr P F0 has fuel m) fuel f args R nx _);cases has f with
  |true=>exact hN ..
  |false=>exact Qc (ga hN fuel m) fuel α β f args R nx k D
end
def Wl(hF:gu P F)(hN:dH F)(fuel:Nat):gu P (λα=>mu (α:=α) P F fuel):=λα f args R nx k r h hargs hR=>by
 have h:mu P F fuel f args R nx k=Q r:=h;unfold mu at h;split at h
 case h_2=>cases h
 rename_i fn hf;split at h
 case h_2=>cases h
 rename_i c hb;split at h
 case h_2=>cases h
 rename_i hc;rw[zj]at hc;obtain⟨hl,hnm⟩:=hc;refine⟨⟨fn,hf,by simpa using hnm,by rw[hb];rfl⟩,λρ=>Fn.of hf hb rfl (by rw[zI];exact hl) λC a w ha=> ?_⟩;have hm:Mt ⟨C,ρ,nx⟩ fn.ntmps ⟨Hl 0 args .e,R,nx⟩ a w:=by
  refine⟨ew 0 args,?_,λq hq=>hargs _ (mD hq),hR,ρ,⟨.refl _ _,zA _⟩,?_⟩
  ·have:=tC args 0 .e [] (λt d ht=>by cases t<;>cases ht) (λt d ht=>by cases t<;>cases ht)
   rwa [yW]at this
  ·rw[l8];exact ha
 refine wp_mono (ZR hF hN fuel c r _ _ a w h hm) λe a' w' ⟨s',h1,h2⟩=> ?_;cases e with
 |normal=>exact Tl (.inl rfl) h1 h2
 |ret=>exact Tl (.inr rfl) h1 h2
 |_=>cases h1
def gM{F0:aI}{has:FuncId->Bool}(hF:gu P F0)(hN:dH F0)(fuel:Nat):∀m:Nat,gu P (jr P F0 has fuel m)
 |0=>hF
 |m+1=>λα f args R nx k r h hargs hR=>by
  change (match has f with|O=>F0 α f args R nx k|V=>mu P (jr P F0 has fuel m) fuel f args R nx k)=Q r at h;split at h
  ·exact hF α f args R nx k r h hargs hR
  ·exact Wl (gM hF hN fuel m) (ga hN fuel m) fuel α f args R nx k r h hargs hR
end
def scB:Nat->AV->Bool
 |_, .lit _=>O
 |n+1, .agg cs=>cs.all (scB n)
 |n+1, .gH cs=>cs.all (scB n)
 |_,_=>V
def uF:Nat->AV->Bool
 |_, .lit _=>O
 |_, .sl _ _=>O
 |_, .rp _ _=>O
 |n+1, .agg cs=>cs.all (uF n)
 |n+1, .gH cs=>cs.all (uF n)
 |_,_=>V
def iB:∀(n:Nat) {d:AV} {ρ:Gh},uF n d=O->d.sub ρ=d
 |n,d,ρ,h=>by
  have hL:∀{m:Nat} {cs:aa AV},m<n->cs.all (uF m)=O->cs.map (bM.sub ρ)=cs:=λ{m cs} hm h=>by
   have:cs.map (bM.sub ρ)=cs.map id:=zR λc hc=>iB m (zx.1 h c hc);rw[this,xK]
  cases n with
  |zero=>cases d<;>first|(cases h;done)|simp only[bM.sub]
  |succ n=>
   cases d<;>first|(cases h;done)|(simp only[bM.sub];done)|skip
   ·rw[dS,hL (z7 n) h]
   ·rw[iq,hL (z7 n) h]
def arP(rd:Nat->af IR)(n:Nat):AV->AV:=Nat.rec (λd=>match d with
 | .own id=>match rd id with
  |some (.row t l)=> .sl t l
  |_=> .own id
 |d=>d) (λ_ ih d=>match d with
 | .own id=>match rd id with
  |some (.row t l)=> .sl t l
  |_=> .own id
 | .agg cs=> .agg (cs.map ih)
 |d=>d) n
def TO{R:aM}{ρ:Gh}{A:Nat->Prop}{w:World}{v:Value}{id:Nat}(hd:Hd A (aM.res ρ R) w)(hr:Rel A w ((bM.own (cA:=U.cA) id).sub ρ) v):Rel (λb=>A b\/b∈aY (aM.res ρ R)) w ((match fk R id with
  |some (.row t l)=>bM.sl t l
  |_=> .own id).sub ρ) v:=by
 have base:Rel (λb=>A b\/b∈aY (aM.res ρ R)) w ((bM.own (cA:=U.cA) id).sub ρ) v:=hr.mono λb _ hA=>⟨.inl hA,rfl⟩;split
 ·rename_i t l hg;obtain⟨i,hi,_⟩:=cU hg;have hres:=eu (ρ:=ρ) hi;have hm:=List.mem_of_getElem? hres;rw[cD]at hr;rw[fE];have hd1:Hd A [.row (ρ.v id) t l] w:=⟨λr hr=>by
   rw[zC]at hr;rw[hr];exact hd.1 _ hm,λb hb=>hd.2 b (by
    obtain⟨r,h1,h2⟩:=bw.1 hb;rw[zC]at h1;rw[h1]at h2;exact bw.2 ⟨_,hm,h2⟩)⟩
  refine(Vw.row 0 rfl A w v hd1 hr).mono λb _ hA=>⟨hA.imp (λh=>h) λhx=> ?_,rfl⟩;obtain⟨r,h1,h2⟩:=bw.1 hx;rw[zC]at h1;rw[h1]at h2;exact bw.2 ⟨_,hm,h2⟩
 ·exact base
def aAZ{γ:Type}(q:aa AV->af γ)(m:γ->AV){α:Type}(R:aM)(nx:Nat)(k:AV->aM->Nat->af α)(l:aa AV):af α:=match l.all (uF 2)with
 |true=>match q l with
  |some g=>k (m g) R nx
  |none=>J
 |false=>J
def Pf{γ:Type}(q:aa AV->af γ)(m:γ->AV){α:Type}(args:aa AV)(R:aM)(nx:Nat)(k:AV->aM->Nat->af α):af α:=aAZ q m R nx k (args.map (arP (fk R) 2))
def cw:aI:=λ_ _ _ _ _ _=>J
def aj9{P:Program}:gu P cw:=λ_ _ _ _ _ _ _ h=>by cases h
def UJ{β:Type}(e:AV->af β)(d:AV)(R:aM)(_:Nat):af β:=match R with
 |[]=>e d
 |_=>J
def P0{β:Type}(e:AV->af β)(m:β->AV):Prop:=∀d x,e d=Q x->d=m x/\uF 2 d=O
def P0.b:P0 RM bM.b:=λd x h=>by
 unfold RM at h;split at h
 ·cases h;exact⟨rfl,rfl⟩
 ·cases h
def SM{P:Program}{F:aI}(hF:gu P F){f:FuncId}{args:aa AV}{β:Type}{e:AV->af β}{m:β->AV}{x:β}(he:P0 e m)(hc:args.all (uF 2)=O)(hl:∀d∈args,ct 0 d)(h:F β f args [] 0 (UJ e)=Q x):rP P f/\Fn P f args [] (λa s=>a=m x/\s=[]):=by
 obtain⟨h1,h2⟩:=hF β f args [] 0 (UJ e) x h hl (λq hq=>by cases hq);refine⟨h1,?_⟩;have:=h2 ⟨λ_=>undef,λ_=>0⟩;have ea:args.map (bM.sub ⟨λ_=>undef,λ_=>0⟩)=args:=by
  have:args.map (bM.sub ⟨λ_=>undef,λ_=>0⟩)=args.map id:=zR λc hcm=>iB 2 (zx.1 hc c hcm);rw[this,xK]
 rw[ea]at this;refine Fn.mono this λa s ⟨d,R',nx',q1,_,_,_,ρ',_,q2,q3⟩=> ?_;unfold UJ at q1;split at q1
 ·obtain⟨q4,q5⟩:=he _ _ q1;rw[q2,iB 2 q5,q4];exact⟨rfl,by simpa [aM.res]using q3⟩
 ·cases q1
end Go.Iv
end
