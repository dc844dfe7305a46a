/- Merged: Imp, Iw5, Iwn, Iw6, Iw7, Iw8, Iw9, Iw10, Iw11, Iw12, Iw13, Iw14, Iw15, Ixa, Ix1, Ix2. -/
import Derived.Test.YtghilkcphindjaaGreatM1SymbolicFinals
import Derived.MapKept
import Derived.ChangeKeysEq
open List renaming length -> zZ
open Nat renaming beq -> zg, le_refl -> zx, blt -> zB, le_trans -> zK, lt_succ_self -> zN, zero_add -> zY, ble -> z7, mul_one -> yb, zero_le -> yu, eq_of_beq_eq_true -> yI, beq_refl -> yQ, le_of_ble_eq_true -> yT, lt_of_lt_of_le -> yW, sub_self -> xb, blt_eq -> xw, lt_or_ge -> xJ
open Bool renaming and_eq_true -> zh, or_eq_true -> yO, true -> Z, false -> O
open Option renaming map_eq_some_iff -> zj, bind_eq_some_iff -> zl, some -> zJ, bind_assoc -> z6, map_some -> z8, getD_some -> yE, toList_some -> xE, some -> M, none -> J
open List renaming mem_cons -> zk, mem_cons_self -> zm, all_eq_true -> zn, replicate -> zq, length_append -> zu, range -> zy, mem_singleton -> zA, mem_map -> zC, getElem?_eq_getElem -> zD, length_map -> zF, map_append -> zH, map_cons -> zI, length_take -> zL, mem_cons_of_mem -> zM, getElem?_map -> zP, mem_append -> zR, getElem?_eq_some_iff -> zU, map_congr_left -> zV, mem_filter -> zW, length_drop -> zX, length_cons -> ya, mem_append_left -> ye, map_map -> yg, filter_append -> yj, nil_append -> yl, mem_append_right -> ym, size_toArray -> yp, getElem?_take -> yA, length_eq_zero_iff -> yC, not_mem_nil -> yD, nodup_append -> yH, getElem?_append -> yJ, getElem?_drop -> yK, replicate_succ -> yM, append_nil -> yN, drop_eq_getElem_cons -> yX, length_replicate -> yY, filter_cons -> yZ, filterMap_cons -> xd, append_assoc -> xk, all_cons -> xu, filter_filter -> xL, mem_range -> xM, take_append_drop -> xT, mem_flatMap -> wk, perm_middle -> wo, filter_eq_self -> wu, filter_congr -> wv, getD_eq_getElem?_getD -> wA, getElem?_append_left -> wH, pairwise_append -> wI, pairwise_cons -> wJ, getElem?_append_right -> wK, filter_eq_nil_iff -> wL, set_eq_take_append_cons_drop -> wP, perm_append_comm -> wU, eraseIdx_sublist -> wV, getElem?_replicate -> wW, filter_append_perm -> wX
open Array renaming getElem?_eq_some_iff -> yd, getElem?_toList -> y7, getElem?_eq_getElem -> xC, getElem?_modify -> xK
open Decidable renaming decide -> w9
set_option linter.unusedSectionVars false
set_option linter.unusedVariables false
set_option linter.unusedSimpArgs false
set_option linter.defProp false
noncomputable section
namespace Go.Iv
variable [U:HB] [L:Ho]
open Go Go.RowKit
def JE(P:Program)(e:TypeId)(xs ys:aa AV):Nat->Nat->af Bool
 |0,_=>M Z
 |n+1,i=>match xs[i]?,ys[i]? with
  |some a,M b=>(gH P e a b).bind λr=>(JE P e xs ys n (i+1)).map λq=>r&&q
  |_,_=>J
def dY(P:Program)(K:TypeId)(a b:AV):af Bool:=match P.underlying K with
 |some (.int _)=>gH P K a b
 |some (.struct fs)=>match a,b with
  | .agg cs, .agg ds=>match P.stoodInHeld K with
   |false=>uZ P cs ds fs.toList
   |true=>J
  |_,_=>J
 |some (.array n e)=>match a,b with
  | .agg cs, .agg ds=>match Hq P e&&CI P e 1 with
   |true=>JE P e cs ds n 0
   |false=>J
  |_,_=>J
 |_=>J
section
variable {P:Program} {K:TypeId} {A A':Nat->Prop} {w w' w'':World} {a b:AV} {u v:Value} {q:Bool} {xs ys:aa AV} {us vs:aa Value}
def DP{t:TypeId}(h:gH P t a b=M q):∃x y,a= .lit x/\b= .lit y:=by
 unfold gH at h;split at h<;>try split at h
 all_goals first|(cases h;done)|exact⟨_,_,rfl,rfl⟩
def qL{t:TypeId}(h:gH P t a b=M q)(ha:Rel A w a u)(hb:Rel A' w' b v)(d:Nat):(Op.equalIn (d+1) t u v).run P w''= .ok q w'':=by
 obtain⟨x,y,rfl,rfl⟩:=DP h;exact GB (ρ:=⟨λ_=>undef,λ_=>0⟩) (ρ':=⟨λ_=>undef,λ_=>0⟩) h (by rw[bL];exact ha) (by rw[bL];exact hb) d
def IU(ha:bD A w xs us)(hb:bD A' w' ys vs)(d:Nat):∀{fs:aa Field} {q:Bool},uZ P xs ys fs=M q->(Op.eqFields (d+1) us.toArray vs.toArray fs).run P w''= .ok q w''
 |[],q,h=>by cases h;simp[Op.eqFields]
 |f::fs,q,h=>by
  unfold uZ at h;split at h
  case h_2=>cases h
  rename_i hf;simp only[zh,bne_iff_ne]at hf;split at h
  case h_2=>cases h
  rename_i a b hx hy;obtain⟨r1,h1,h⟩:=zl.1 h;obtain⟨q1,h2,rfl⟩:=zj.1 h;obtain⟨u,hu,hu'⟩:=ha.get hx;obtain⟨v,hv,hv'⟩:=hb.get hy;have ih:=IU ha hb d h2;have hone:=rD hf.2;unfold Op.eqFields;rw[bO hf.1];simp only[Sem.run_bind,fP hone hu,fP hone hv,Result.andThen_ok,qL (w'':=w'') h1 hu' hv' d];cases r1 with
  |true=>simpa using ih
  |false=>simp
def MV{e:TypeId}(h1:Hq P e=Z)(ha:bD A w xs us)(hb:bD A' w' ys vs)(d:Nat):∀{n i:Nat} {q:Bool},JE P e xs ys n i=M q->(Op.eqItems (d+1) e 1 us.toArray vs.toArray (List.range' i n)).run P w''= .ok q w''
 |0,i,q,h=>by cases h;simp[Op.eqItems]
 |n+1,i,q,h=>by
  unfold JE at h;split at h
  case h_2=>cases h
  rename_i a b hx hy;obtain⟨r1,h2,h⟩:=zl.1 h;obtain⟨q1,h3,rfl⟩:=zj.1 h;obtain⟨u,hu,hu'⟩:=ha.get hx;obtain⟨v,hv,hv'⟩:=hb.get hy;have ih:=MV h1 ha hb d h3;have hone:=rD h1;rw[List.range'_succ];unfold Op.eqItems;simp only[Sem.run_bind,yb,fP hone hu,fP hone hv,Result.andThen_ok,qL (w'':=w'') h2 hu' hv' d];cases r1 with
  |true=>simpa using ih
  |false=>simp
def GL{e:TypeId}{n:Nat}(h:CI P e n=Z):P.cellsOf e=n/\∃i,P.info? e=M i:=by
 have h:=oE h;obtain⟨i,h1,h2⟩:=zj.1 h;exact⟨by simp[Program.cellsOf,h1,h2],i,h1⟩
def Ij(h:dY P K a b=M q)(ha:Rel A w a u)(hb:Rel A' w' b v):(Op.equal K u v).run P w''= .ok q w'':=by
 show (Op.equalIn (9999+1) K u v).run P w''=_;unfold dY at h;split at h
 ·exact qL h ha hb 9999
 ·rename_i fs hK;split at h
  case h_2=>cases h
  split at h
  case h_2=>cases h
  rename_i hs;obtain⟨us,rfl,h1⟩:=ha.gO;obtain⟨vs,rfl,h2⟩:=hb.gO;have hfs:P.fieldsOf K=fs:=by unfold Program.fieldsOf;rw[hK]
  rw[run_equalIn_struct (P:=P) w'' 9999 K us.toArray vs.toArray (by rw[hfs];exact hK) hs,hfs];exact IU h1 h2 9998 h
 ·rename_i n e hK;split at h
  case h_2=>cases h
  split at h
  case h_2=>cases h
  rename_i hs;rw[zh]at hs;obtain⟨hc,i,hi⟩:=GL hs.2;obtain⟨us,rfl,h1⟩:=ha.gO;obtain⟨vs,rfl,h2⟩:=hb.gO;rw[run_equalIn_array w'' 9999 us.toArray vs.toArray hK hi,hc,List.range_eq_range'];exact MV hs.1 h1 h2 9998 h
 ·cases h
def pL{t:TypeId}(h:gH P t a a=M q):q=Z:=by
 obtain⟨x,_,rfl,_⟩:=DP h;unfold gH at h;split at h<;>cases x<;>simp_all
def II:∀{fs:aa Field} {q:Bool},uZ P xs xs fs=M q->q=Z
 |[],q,h=>by cases h;rfl
 |f::fs,q,h=>by
  unfold uZ at h;split at h
  case h_2=>cases h
  split at h
  case h_2=>cases h
  rename_i a b hx hy;rw[hx]at hy;cases hy;obtain⟨r1,h1,h⟩:=zl.1 h;obtain⟨q1,h2,rfl⟩:=zj.1 h;rw[pL h1,II h2];rfl
def IP{e:TypeId}:∀{n i:Nat} {q:Bool},JE P e xs xs n i=M q->q=Z
 |0,i,q,h=>by cases h;rfl
 |n+1,i,q,h=>by
  unfold JE at h;split at h
  case h_2=>cases h
  rename_i a b hx hy;rw[hx]at hy;cases hy;obtain⟨r1,h1,h⟩:=zl.1 h;obtain⟨q1,h2,rfl⟩:=zj.1 h;rw[pL h1,IP h2];rfl
def O8(h:dY P K a b=M O):a≠b:=λe=>by
 subst e;unfold dY at h;split at h
 ·exact iy (pL h) (by simp)
 ·cases a with
  |agg cs=>
   dsimp only at h;split at h
   ·exact iy (II h) (by simp)
   ·cases h
  |_=>cases h
 ·cases a with
  |agg cs=>
   dsimp only at h;split at h
   ·exact iy (IP h) (by simp)
   ·cases h
  |_=>cases h
 ·cases h
def EnR(A:Nat->Prop)(w:World)(es:aa (AV×AV))(ar:aa MapEntry):Prop:=zZ ar=zZ es/\∀(i:Nat) e m,es[i]? =M e->ar[i]? =M m->Rel A w e.1 m.key/\Rel A w e.2 m.val
def EnR.tail{e:AV×AV}{m:MapEntry}{es:aa (AV×AV)}{ar:aa MapEntry}(h:EnR A w (e::es) (m::ar)):EnR A w es ar:=⟨by simpa using h.1,λi e m h1 h2=>h.2 (i+1) e m (by simpa using h1) (by simpa using h2)⟩
def noE(P:Program)(K:TypeId)(k:AV)(es:aa (AV×AV)):Bool:=List.rec Z (λe _ ih=>match dY P K k e.1 with
 |some O=>ih
 |_=>O) es
def abm{k:AV}:∀{es:aa (AV×AV)},noE P K k es=Z->∀e∈es,dY P K k e.1=M O
 |[],_,_,h=>by cases h
 |e::es,h,x,hx=>by
  change (match dY P K k e.1 with
   |some O=>noE P K k es
   |_=>O)=Z at h
  split at h
  ·rename_i h1;rcases zk.1 hx with rfl|hx
   ·exact h1
   ·exact abm h x hx
  ·cases h
def lkE{α:Type}(P:Program)(K:TypeId)(k:AV)(hit:Nat->AV×AV->af α)(rM:af α)(es:aa (AV×AV)):Nat->af α:=
 List.rec (λ_=>rM) (λe es ih i=>(dY P K k e.1).bind λq=>match q with
  |true=>match noE P K k es with
   |true=>hit i e
   |false=>J
  |false=>ih (i+1)) es
def od{k0:IntKind}(hK:P.underlying K=M (.int k0))(h:gH P K a b=M q):∃k m n,a= .lit (.int k m)/\b= .lit (.int k n)/\q=(m==n):=by
 unfold gH at h;rw[hK]at h;dsimp only at h;split at h
 ·split at h
  ·rename_i hk;subst hk;cases h;exact⟨_,_,_,rfl,rfl,rfl⟩
  ·cases h
 ·cases h
def Wv{k0:IntKind}(hK:P.underlying K=M (.int k0))(h:dY P K a b=M q)(ha:Rel A w a u)(hb:Rel A' w' b v):Instr.sameNow (.int k0) u v=M q:=by
 have h0:gH P K a b=M q:=by
  unfold dY at h;simp_all
 obtain⟨kk,x,y,rfl,rfl,rfl⟩:=od hK h0;rw[ha.bR,hb.bR];simp[Instr.sameNow]
def Fd(P:Program)(K:TypeId)(u:Value)(ar:aa MapEntry)(i:Nat)(o:af (Nat×Value)):Prop:=(∀w,(Instr.findAsking K u ar i).run P w= .ok o w)/\∀k0,P.underlying K=M (.int k0)->Instr.findNow (.int k0) u ar i=M o
def B0{α:Type}{r:α}{k:AV}{hit:Nat->AV×AV->af α}{rM:af α}:∀{es:aa (AV×AV)} {i:Nat},lkE P K k hit rM es i=M r->
  (∃(e:AV×AV) (es1 es2:aa (AV×AV)),es=es1++e::es2/\hit (i+zZ es1) e=M r/\dY P K k e.1=M Z/\∀e'∈es1++es2,dY P K k e'.1=M O)\/(rM=M r/\∀e∈es,dY P K k e.1=M O)
 |[],i,h=> .inr ⟨h,λ_ h=>by cases h⟩
 |e::es,i,h=>by
  obtain⟨q,h1,h2⟩:=zl.1 (show (dY P K k e.1).bind (λq=>match q with
   |true=>match noE P K k es with
    |true=>hit i e
    |false=>J
   |false=>lkE P K k hit rM es (i+1))=M r from h)
  cases q with
  |true=>
   cases h3:noE P K k es with
   |true=>
    rw[h3]at h2;exact .inl ⟨e,[],es,rfl,h2,h1,abm h3⟩
   |false=>
    rw[h3]at h2;cases h2
  |false=>
   rcases B0 h2 with ⟨e',es1,es2,p1,p2,p3,p4⟩|⟨p1,p2⟩
   ·exact .inl ⟨e',e::es1,es2,by rw[p1];rfl,by rw[<-p2];congr 1;simp only[ya];omega,p3,λe'' he=>by
     rcases zk.1 he with rfl|he
     ·exact h1
     ·exact p4 e'' he⟩
   ·exact .inr ⟨p1,λx hx=>by
     rcases zk.1 hx with rfl|hx
     ·exact h1
     ·exact p2 x hx⟩
def Fd.step{m:MapEntry}{ar:aa MapEntry}{i:Nat}{o:af (Nat×Value)}(h:dY P K a b=M O)(ha:Rel A w a u)(hb:Rel A' w' b m.key)(hn:Fd P K u ar (i+1) o):Fd P K u (m::ar) i o:=
 ⟨λw''=>by simp[Instr.findAsking,Ij h ha hb,hn.1],λk0 hK=>by simp[Instr.findNow,Wv hK h ha hb,hn.2 k0 hK]⟩
def Fd.hit{k:AV}(hu:Rel A' w' k u):∀{es:aa (AV×AV)} {ar:aa MapEntry} {i j:Nat} {e:AV×AV},EnR A w es ar->es[j]? =M e->dY P K k e.1=M Z->(∀(j':Nat) e',j'<j->es[j']? =M e'->dY P K k e'.1=M O)->
  ∃m,ar[j]? =M m/\Fd P K u ar i (M (i+j,m.val))
 |[],ar,i,j,e,hr,hj,ht,hf=>by cases hj
 |e0::es,[],i,j,e,hr,hj,ht,hf=>iy hr.1 (by simp)
 |e0::es,m::ar,i,0,e,hr,hj,ht,hf=>by
  cases hj;have hk:=(hr.2 0 e0 m rfl rfl).1;exact⟨m,rfl,λw''=>by simp[Instr.findAsking,Ij ht hu hk],λk0 hK=>by simp[Instr.findNow,Wv hK ht hu hk]⟩
 |e0::es,m::ar,i,j+1,e,hr,hj,ht,hf=>by
  obtain⟨m',h1,h2⟩:=Fd.hit hu (i:=i+1) hr.tail (by simpa using hj) ht (λj' e' hj he=>hf (j'+1) e' aj (by simpa using he));refine⟨m',by simpa using h1,?_⟩;have e1:i+(j+1)=i+1+j:=aj;rw[e1];exact h2.step (hf 0 e0 aj rfl) hu (hr.2 0 e0 m rfl rfl).1
def acX{e:AV×AV}{fs es1 es2:aa (AV×AV)}(h:List.Perm fs (es1++e::es2)):∃fs1 fs2,fs=fs1++e::fs2/\List.Perm (fs1++fs2) (es1++es2):=by
 obtain⟨fs1,fs2,rfl⟩:=List.append_of_mem (h.mem_iff.2 (ym es1 zm));exact⟨fs1,fs2,rfl,(wo.symm.trans (h.trans wo)).cons_inv⟩
def Fd.anZ{k:AV}(hu:Rel A' w' k u){e:AV×AV}{fs es1 es2:aa (AV×AV)}{ar:aa MapEntry}(hp:List.Perm fs (es1++e::es2))(hE:EnR A w fs ar)(ht:dY P K k e.1=M Z)(hf:∀e'∈es1++es2,dY P K k e'.1=M O):
  ∃fs1 fs2 m,fs=fs1++e::fs2/\List.Perm (fs1++fs2) (es1++es2)/\ar[zZ fs1]? =M m/\Fd P K u ar 0 (M (zZ fs1,m.val)):=by
 obtain⟨fs1,fs2,rfl,h2⟩:=acX hp;obtain⟨m,q1,q2⟩:=Fd.hit (i:=0) (j:=zZ fs1) hu hE (by simp) ht λj' e' hj he=>hf e' (h2.mem_iff.1 (ye _ (by
  rw[wH hj]at he;exact List.mem_of_getElem? he)))
 rw[zY]at q2;exact⟨fs1,fs2,m,rfl,h2,q1,q2⟩
def Fd.rM{k:AV}(hu:Rel A' w' k u):∀{es:aa (AV×AV)} {ar:aa MapEntry} {i:Nat},EnR A w es ar->(∀e∈es,dY P K k e.1=M O)->Fd P K u ar i J
 |[],ar,i,hr,hf=>by
  have:ar=[]:=yC.1 hr.1;subst this;exact⟨λ_=>rfl,λ_ _=>rfl⟩
 |e0::es,[],i,hr,hf=>iy hr.1 (by simp)
 |e0::es,m::ar,i,hr,hf=>(Fd.rM hu hr.tail λe he=>hf e (zM _ he)).step (hf e0 zm) hu (hr.2 0 e0 m rfl rfl).1
def AX(P:Program)(t:TypeId):Bool:=match P.underlying t with
 |some (.int _)=>Z
 |_=>O
def By(P:Program)(K:TypeId)(k:AV):Bool:=match P.underlying K with
 |some (.int _)=>Z
 |some (.struct fs)=>match k with
  | .agg cs=>fs.toList.all λf=>AX P f.type&&zB f.offset (zZ cs)
  |_=>O
 |some (.array n e)=>match k with
  | .agg cs=>AX P e&&CI P e 1&&z7 n (zZ cs)
  |_=>O
 |_=>O
def EH{t:TypeId}(h:AX P t=Z):nj P t/\∀(em:Bool) (d:Nat) (v:Value) (w:World),(Instr.checkKey em (d+1) t v).run P w= .ok () w:=by
 unfold AX at h;split at h
 ·rename_i k hk;exact⟨⟨_,hk,trivial⟩,λem d v w=>by
   unfold Instr.checkKey;simp only[Sem.run_bind,run_underlying hk];cases v<;>rfl⟩
 ·cases h
def pV{k:AV}(h:By P K k=Z)(hu:Rel A w k u)(em:Bool):(Instr.checkKey em 10000 K u).run P w''= .ok () w'':=by
 unfold By at h;split at h
 ·rename_i k0 hK;exact(EH (by unfold AX;rw[hK])).2 em 9999 u w''
 ·rename_i fs hK;split at h
  case h_2=>cases h
  obtain⟨us,rfl,h1⟩:=hu.gO;unfold Instr.checkKey;simp only[Sem.run_bind,run_underlying hK,Result.andThen_ok];rw[<-Array.forIn_toList];generalize fs.toList=l at h;induction l with
  |nil=>rfl
  |cons f l ih=>
   rw[xu,zh,zh]at h;obtain⟨⟨h2,h3⟩,h4⟩:=h;have h3:f.offset<zZ us:=by rw[h1.1];simpa using h3
   obtain⟨h5,h6⟩:=EH h2;simp only[List.forIn_cons,Sem.run_bind,Sem.run_ite,fP h5 (zD h3),h6 em 9998,Result.andThen_ok,ite_self];exact ih h4
 ·rename_i n e hK;split at h
  case h_2=>cases h
  rw[zh,zh]at h;obtain⟨⟨h2,h3⟩,h4⟩:=h;obtain⟨hc,i,hi⟩:=GL h3;obtain⟨us,rfl,h1⟩:=hu.gO;have h4:n<=zZ us:=by rw[h1.1];exact yT h4
  obtain⟨h5,h6⟩:=EH h2;unfold Instr.checkKey;simp only[Sem.run_bind,run_underlying hK,Result.andThen_ok];simp only[Std.Legacy.Range.forIn_eq_forIn_range',Std.Legacy.Range.size,Nat.sub_zero,Nat.add_one_sub_one,Nat.div_one];have key:∀(l:aa Nat),(∀j∈l,j<zZ us)->(forIn (m:=Sem) l PUnit.unit λi r=>do
    let s <-sizeOf e
    let v <-part e us.toArray (i*s)
    Instr.checkKey em 9999 e v
    pure (ForInStep.yield PUnit.unit)).run P w''= .ok PUnit.unit w'':=λl=>by
   induction l with
   |nil=>intro _;rfl
   |cons j l ih=>
    intro hl;simp only[List.forIn_cons,Sem.run_bind,run_sizeOf w'' hi,hc,yb,fP h5 (zD (hl j zm)),h6 em 9998,Result.andThen_ok];exact ih λx hx=>hl x (zM _ hx)
  have:=key (List.range' 0 n) λj hj=>by
   rw[List.mem_range'_1]at hj;omega
  rw[this];rfl
 ·cases h
def Oa{d:TypeDesc}{ar:aa MapEntry}{o:af (Nat×Value)}(hd:P.underlying K=M d)(hn:∀x y,Instr.sameNow d x y=J)(h:∀w,(Instr.findAsking K u ar 0).run P w= .ok o w):(Instr.findKey K u ar).run P w''= .ok o w'':=by
 cases ar with
 |nil=>
  have:=h w'';simp only[Instr.findAsking,Sem.run_pure,Result.ok.injEq,and_true]at this;subst this;simp[Instr.findKey,run_underlying hd,Instr.findNow]
 |cons m ar=>
  have:=h w'';simp only[Instr.findKey,Sem.run_bind,run_underlying hd,Result.andThen_ok,Instr.findNow,hn];omega
def Fd.key{ar:aa MapEntry}{o:af (Nat×Value)}{k:AV}(h:Fd P K u ar 0 o)(hk:By P K k=Z):(Instr.findKey K u ar).run P w''= .ok o w'':=by
 unfold By at hk;split at hk
 ·rename_i k0 hK;exact MapKept.run_findKey hK (h.2 k0 hK)
 ·rename_i fs hK;exact Oa hK (λ_ _=>rfl) h.1
 ·rename_i n e hK;exact Oa hK (λ_ _=>rfl) h.1
 ·cases hk
end
def M0{d:AV}(h:oA d=Z)(n:Nat):cE n d:=by
 have one:∀c:AV,Mj c=Z->cE n c:=λc hc=>by
  cases c with
  |fn f cs=>
   cases cs with
   |nil=>exact .fn _ _ λc hc=>by cases hc
   |cons a l=>cases hc
  |_=>first|(cases hc;done)|exact .lit _|exact .sl _ _
 by_cases ha:∃cs,d= .agg cs
 ·obtain⟨cs,rfl⟩:=ha;exact .agg cs λc hc=>one c (zn.1 h c hc)
 ·exact one d (by cases d<;>first|exact h|(exact iy ⟨_,rfl⟩ ha))
section
variable {α:Type} {r:α} {P:Program} {o:Oper} {E:Env} {R:aS} {nx:Nat} {ev:Operand->af AV} {rd:Nat->af IR} {x y z:Operand} {d:AV}
def iO.map(h:iO ev rd nx E R){id:Nat}{es:aa (AV×AV)}(hr:rd id=M (.mp es))(ρ:Gh):∃i:Nat,(aS.res ρ R)[i]? =M (.mp (ρ.v id) es):=by
 obtain⟨i,h1,_⟩:=dG (h.r _ _ hr);exact⟨i,fB h1⟩
def aa2{A:Nat->Prop}{w:World}{v:Value}{es:aa (AV×AV)}(h:bM.ok A w (.mp v es)):∃b ar cl fs,v= .map (M b)/\w.heap[b]? =M (.map ar cl)/\List.Perm fs es/\fs.Pairwise (λa b=>a.1≠b.1)/\EnR A w fs ar.toList:=by
 obtain⟨b,ar,cl,h1,h2,fs,hp,hq,h3,h4⟩:=h;exact⟨b,ar,cl,fs,h1,h2,hp,hq,by simpa using h3,λi e m q1 q2=>h4 i e m q1 (by simpa using q2)⟩
def RP{A:Nat->Prop}{w:World}{b cl:Nat}{ar:Array MapEntry}{fs es:aa (AV×AV)}(h1:w.heap[b]? =M (.map ar cl))(hp:List.Perm fs es)(hq:fs.Pairwise (λa b=>a.1≠b.1))(h2:EnR A w fs ar.toList):bM.ok A w (.mp (.map (M b)) es):=
 ⟨b,ar,cl,rfl,h1,fs,hp,hq,by simpa using h2.1,λi e m q1 q2=>h2.2 i e m q1 (by simpa using q2)⟩
def lkR(ok:Bool)(d:AV)(b:Bool):AV:=match ok with
 |true=> .iF [d, .b b]
 |false=>d
def Sy(P:Program)(rd:Nat->af IR)(T:TypeId)(x y:af AV)(ok:Bool)(K:AV->af α):af α:=match P.underlying T,x,y with
 |some (.map kt et),M (.own id),M k=>match rd id,(P.info? et).bind (·.zero),By P kt k&&oA k with
  |some (.mp es),M z,Z=>lkE P kt k (λ_ e=>match oA e.2 with
   |true=>K (lkR ok e.2 Z)
   |false=>J) (K (lkR ok (.lit z) O)) es 0
  |_,_,_=>J
 |_,_,_=>J
def Sz{ok:Bool}{d:AV}{b:Bool}(hd:∀ρ,d.sub ρ=d)(hl:cE nx d)(h:∀ρ,Yp P (E.sub ρ) (aS.res ρ R) o (lkR ok d b)):Pu P o E R nx (lkR ok d b):=by
 cases ok with
 |false=>exact⟨hl,λρ=>by rw[show lkR O d b=d from rfl,hd];exact h ρ⟩
 |true=>
  refine⟨.iF _ λc hc=> ?_,λρ=> ?_⟩
  ·rcases zk.1 hc with rfl|hc
   ·exact hl
   ·rw[zA.1 hc];exact .lit _
  ·rw[show lkR Z d b= .iF [d, .b b]from rfl,jJ];simp only[zI,hd,bL];exact h ρ
def alU{A:Nat->Prop}{w:World}{ok:Bool}{d:AV}{v:Value}{b:Bool}(h:Rel A w d v):Rel A w (lkR ok d b) (if ok then .tuple #[v, .bool b]else v):=by
 cases ok with
 |false=>exact h
 |true=>exact Rel.EN (bD.cons h (bD.cons (.lit _) bD.nil))
def SA{T kt et id:Nat}{ok:Bool}{k:AV}{zv:Value}{es:aa (AV×AV)}(hs:iO ev rd nx E R)(ho:o.op= .lookup T x y ok)(hT:P.underlying T=M (.map kt et))(hx:ev x=M (.own id))(hy:ev y=M k)(hz:(P.info? et).bind (·.zero)=M zv)(hc:By P kt k=Z)(hd2:oA k=Z)
  {ρ:Gh} {i:Nat} (hi:(aS.res ρ R)[i]? =M (.mp (ρ.v id) es)) (d:AV) (b:Bool) (hf:∀(A:Nat->Prop) (w:World) (u:Value) (fs:aa (AV×AV)) (ar:aa MapEntry),Rel A w k u->List.Perm fs es->fs.Pairwise (λa b=>a.1≠b.1)->EnR A w fs ar->∃v o,Rel A w d v/\Fd P kt u ar 0 o/\(match o with|M (_,v')=>b=Z/\v'=v|J=>b=O/\zv=v)):Yp P (E.sub ρ) (aS.res ρ R) o (lkR ok d b):=λA w j hd hρ=>by
 obtain⟨ti,hz1,hz2⟩:=zl.1 hz;have ex:=hs.fM hx ρ;have ey:=hs.fM hy ρ;rw[cI]at ex;rw[lz hd2]at ey;obtain⟨bk,ar,cl,fs,q1,q2,qp,qw,q3⟩:=aa2 (hd.1 _ (List.mem_of_getElem? hi));have hx':=(hρ _ _ ex).bR;have hu:=hρ _ _ ey;obtain⟨v,o',h1,h2,h3⟩:=hf A w _ _ _ hu qp qw q3;refine⟨_,alU h1,λw' hw=> ?_⟩;have hb:w'.heap[bk]? =M (.map ar cl):=by
  rw[hw bk (yd.1 q2).1 (.inr (bE.2 ⟨_,List.mem_of_getElem? hi,by rw[q1];rfl⟩))];exact q2
 have hck:=pV (w'':=w') hc hu ar.isEmpty;have hfk:=h2.key (w'':=w') hc;simp only[execOp,ho];cases o' with
 |none=>
  obtain⟨rfl,rfl⟩:=h3;simp[Instr.lookup,run_underlying hT,hx',q1,MapKept.run_getObj_map hb,hck,hfk,zeroValue,typeInfo,hz1,hz2]
 |some p=>
  obtain⟨rfl,rfl⟩:=h3;simp[Instr.lookup,run_underlying hT,hx',q1,MapKept.run_getObj_map hb,hck,hfk]
def W5{T:TypeId}{ok:Bool}{K:AV->af α}(hs:iO ev rd nx E R)(ho:o.op= .lookup T x y ok)(h:Sy P rd T (ev x) (ev y) ok K=M r):∃d,K d=M r/\Pu P o E R nx d:=by
 unfold Sy at h;split at h
 case h_2=>cases h
 rename_i kt et id k hT hx hy;split at h
 case h_2=>cases h
 rename_i es zv hr hz hk;rw[zh]at hk;rcases B0 h with ⟨e,es1,es2,rfl,h2,h3,h4⟩|⟨h1,h2⟩
 ·split at h2
  ·rename_i hdat
   refine⟨_,h2,Sz (lz hdat) (M0 hdat _) λρ=> ?_⟩;obtain⟨i,hi⟩:=hs.map hr ρ;refine SA hs ho hT hx hy hz hk.1 hk.2 hi _ _ λA w u fs ar hu hp _ hr=> ?_;obtain⟨fs1,fs2,m,rfl,p0,p1,p2⟩:=Fd.anZ hu hp hr h3 h4;exact⟨m.val,_,(hr.2 (zZ fs1) e m (by simp) p1).2,p2,rfl,rfl⟩
  ·cases h2
 ·refine⟨_,h1,Sz (λρ=>bL ρ zv) (.lit _) λρ=> ?_⟩;obtain⟨i,hi⟩:=hs.map hr ρ;exact SA hs ho hT hx hy hz hk.1 hk.2 hi _ _ λA w u fs ar hu hp _ hr=>⟨zv,J, .lit _,Fd.rM hu hr (λe he=>h2 e (hp.mem_iff.1 he)),rfl,rfl⟩
def ei{K V:Type}[DecidableEq K](l:aa (K×V))(x:K):af V:=(l.find? λp=>w9 (x=p.1)).map (·.2)
def gB{K V:Type}[DecidableEq K](l:aa (K×V))(x:K)(v:V):aa (K×V):=(x,v)::l.filter λp=> !w9 (x=p.1)
def VK.zero:(e:VK)->e.T
 | .i=>0
 | .b=>O
def PA(P:Program)(t:TypeId):Bool:=match P.underlying t with
 |some (.int .i64)=>Z
 |_=>O
def fsB(P:Program)(n:Nat):aa Field->Nat->Bool
 |[],i=>zg i n
 |f::fs,i=>(f.name !="_")&&PA P f.type&&zg f.offset i&&fsB P n fs (i+1)
def Zx(P:Program)(t:TypeId)(n:Nat):Bool:=match P.underlying t with
 |some (.struct fs)=> !P.stoodInHeld t&&fsB P n fs.toList 0
 |some (.array m e)=>zg m n&&PA P e&&CI P e 1
 |_=>O
def kkB(P:Program)(t:TypeId):KK->Bool
 | .k1=>PA P t
 | .k2=>Zx P t 2
 | .k3=>Zx P t 3
def vkB(P:Program)(t:TypeId):VK->Bool
 | .i=>match (P.info? t).bind (·.zero)with
  |some (.int .i64 z)=>w9 (z=0)
  |_=>O
 | .b=>match (P.info? t).bind (·.zero)with
  |some (.bool z)=> !z
  |_=>O
def KK.rk:(k:KK)->AV->af k.T
 | .k1,a=>match a with
  | .lit (.int .i64 x)=>M x
  |_=>J
 | .k2,a=>match a with
  | .agg [.lit (.int .i64 x), .lit (.int .i64 y)]=>M (x,y)
  |_=>J
 | .k3,a=>match a with
  | .agg [.lit (.int .i64 x), .lit (.int .i64 y), .lit (.int .i64 z)]=>M (x,y,z)
  |_=>J
def VK.rv:(e:VK)->AV->af e.T
 | .i,a=>match a with
  | .lit (.int .i64 x)=>M x
  |_=>J
 | .b,a=>match a with
  | .lit (.bool x)=>M x
  |_=>J
def KK.abP{k:KK}{a:AV}{x:k.T}(h:k.rk a=M x):a=k.enc x:=by
 cases k<;>simp only[KK.rk]at h<;>split at h<;>first|(cases h;rfl)|cases h
def VK.arq{e:VK}{a:AV}{x:e.T}(h:e.rv a=M x):a=e.enc x:=by
 cases e<;>simp only[VK.rv]at h<;>split at h<;>first|(cases h;rfl)|cases h
def rI{t:TypeId}(h:PA P t=Z):P.underlying t=M (.int .i64):=by
 unfold PA at h;grind
def Qq{t:TypeId}(h:PA P t=Z):Hq P t=Z:=by
 unfold Hq;rw[rI h]
def tu{t:TypeId}(h:PA P t=Z)(m n:Int):gH P t (.lit (.int .i64 m)) (.lit (.int .i64 n))=M (w9 (m=n)):=by
 unfold gH;rw[rI h];simp
def Nt{n:Nat}{xs ys:aa AV}{ms ns:aa Int}(hx:xs=ms.map λm=> .lit (.int .i64 m))(hy:ys=ns.map λm=> .lit (.int .i64 m))(hm:zZ ms=n)(hn:zZ ns=n):∀(fs:aa Field) (i:Nat),fsB P n fs i=Z->i<=n->uZ P xs ys fs=M (w9 (ms.drop i=ns.drop i))
 |[],i,h,hi=>by
  have:=fL h;subst this;simp[uZ,List.drop_of_length_le,hm,hn]
 |f::fs,i,h,hi=>by
  unfold fsB at h;simp only[zh]at h;obtain⟨⟨⟨h1,h2⟩,h3⟩,h4⟩:=h;have h3:=fL h3;have hlt:i<n:=by
   cases fs with
   |nil=>have:=fL h4;omega
   |cons g fs=>
    rcases xJ i n with h|h
    ·exact h
    ·exfalso;have key:∀(fs:aa Field) (j:Nat),n<j->fsB P n fs j=O:=λfs=>by
      induction fs with
      |nil=>
       intro j hj;cases hb:fsB P n [] j with
       |false=>rfl
       |true=>have:=fL hb;omega
      |cons g fs ih=>intro j hj;unfold fsB;rw[ih (j+1) aj,Bool.and_false]
     rw[key (g::fs) (i+1) aj]at h4;cases h4
  have ih:=Nt hx hy hm hn fs (i+1) h4 aj;unfold uZ;rw[h1,Qq h2,h3,hx,hy,zP,zP,zD aj,zD aj];simp only[Bool.and_self,z8,tu h2,Option.bind_some];rw[<-hx,<-hy,ih];have e1:ms.drop i=ms[i]'aj::ms.drop (i+1):=yX _;have e2:ns.drop i=ns[i]'aj::ns.drop (i+1):=yX _;have e3:(ms[i]'aj=ns[i]'aj/\ms.drop (i+1)=ns.drop (i+1))↔ms.drop i=ns.drop i:=by rw[e1,e2,List.cons.injEq]
  simp only[z8];rw[<-Bool.decide_and,decide_eq_decide.2 e3]
def NY{e:TypeId}(he:PA P e=Z){xs ys:aa AV}{ms ns:aa Int}(hx:xs=ms.map λm=> .lit (.int .i64 m))(hy:ys=ns.map λm=> .lit (.int .i64 m)):∀(n i:Nat),zZ ms=i+n->zZ ns=i+n->JE P e xs ys n i=M (w9 (ms.drop i=ns.drop i))
 |0,i,hm,hn=>by simp[JE,List.drop_of_length_le,hm,hn]
 |n+1,i,hm,hn=>by
  have ih:=NY he hx hy n (i+1) aj aj;unfold JE;rw[hx,hy,zP,zP,zD aj,zD aj];simp only[z8,tu he,Option.bind_some];rw[<-hx,<-hy,ih];have e1:ms.drop i=ms[i]'aj::ms.drop (i+1):=yX _;have e2:ns.drop i=ns[i]'aj::ns.drop (i+1):=yX _;have e3:(ms[i]'aj=ns[i]'aj/\ms.drop (i+1)=ns.drop (i+1))↔ms.drop i=ns.drop i:=by rw[e1,e2,List.cons.injEq]
  simp only[z8];rw[<-Bool.decide_and,decide_eq_decide.2 e3]
def V5{t:TypeId}{n:Nat}(h:Zx P t n=Z){ms ns:aa Int}(hm:zZ ms=n)(hn:zZ ns=n):dY P t (.agg (ms.map λm=> .lit (.int .i64 m))) (.agg (ns.map λm=> .lit (.int .i64 m)))=M (w9 (ms=ns)):=by
 unfold Zx at h;unfold dY;split at h
 ·rename_i fs ht;rw[zh,Bool.not_eq_true']at h;rw[ht];rw[h.1];exact Nt rfl rfl hm hn fs.toList 0 h.2 (yu _)
 ·rename_i m e ht;simp only[zh]at h;have hmn:=fL h.1.1;rw[ht];dsimp only;rw[Qq h.1.2,h.2];exact NY h.1.2 rfl rfl m 0 aj aj
 ·cases h
def BD{t:TypeId}{k:KK}(h:kkB P t k=Z)(x y:k.T):dY P t (k.enc x) (k.enc y)=M (w9 (x=y)):=by
 cases k with
 |k1=>
  unfold dY;rw[rI h];exact tu h x y
 |k2=>
  have:=V5 (t:=t) (n:=2) h (ms:=[x.1,x.2]) (ns:=[y.1,y.2]) rfl rfl;refine this.trans (congrArg M ?_);obtain⟨a,b⟩:=x;obtain⟨c,d⟩:=y;simp
 |k3=>
  have:=V5 (t:=t) (n:=3) h (ms:=[x.1,x.2.1,x.2.2]) (ns:=[y.1,y.2.1,y.2.2]) rfl rfl;refine this.trans (congrArg M ?_);obtain⟨a,b,c⟩:=x;obtain⟨d,e,f⟩:=y;simp
def Vl{n m:Nat}(hm:n<=m):∀(fs:aa Field) (i:Nat),fsB P n fs i=Z->i<=n->(fs.all λf=>AX P f.type&&zB f.offset m)=Z
 |[],i,h,hi=>rfl
 |f::fs,i,h,hi=>by
  unfold fsB at h;simp only[zh]at h;obtain⟨⟨⟨h1,h2⟩,h3⟩,h4⟩:=h;have h3:=fL h3;have hlt:i<n:=by
   rcases xJ i n with h|h
   ·exact h
   ·exfalso;have key:∀(fs:aa Field) (j:Nat),n<j->fsB P n fs j=O:=λfs=>by
     induction fs with
     |nil=>
      intro j hj;cases hb:fsB P n [] j with
      |false=>rfl
      |true=>have:=fL hb;omega
     |cons g fs ih=>intro j hj;unfold fsB;rw[ih (j+1) aj,Bool.and_false]
    rw[key fs (i+1) aj]at h4;cases h4
  rw[xu,Vl hm fs (i+1) h4 aj,Bool.and_true,zh];exact⟨by unfold AX;rw[rI h2],by rw[xw];omega⟩
def af3{t:TypeId}{n:Nat}(h:Zx P t n=Z){cs:aa AV}(hc:zZ cs=n):By P t (.agg cs)=Z:=by
 unfold Zx at h;unfold By;split at h
 ·rename_i fs ht;rw[zh]at h;rw[ht];exact Vl aj fs.toList 0 h.2 (yu _)
 ·rename_i m e ht;simp only[zh]at h;have:=fL h.1.1;rw[ht];dsimp only;rw[h.2,show AX P e=Z by unfold AX;rw[rI h.1.2],show z7 m cs.length=Z by rw[Nat.ble_eq];omega];rfl
 ·cases h
def Pz{t:TypeId}{k:KK}(h:kkB P t k=Z)(x:k.T):By P t (k.enc x)=Z:=by
 cases k with
 |k1=>unfold By;rw[rI h]
 |k2=>exact af3 (n:=2) h rfl
 |k3=>exact af3 (n:=3) h rfl
def WY(k:KK)(x:k.T):oA (k.enc x)=true:=by cases k<;>rfl
def E7(e:VK)(x:e.T):oA (e.enc x)=true:=by cases e<;>rfl
def KK.val:(k:KK)->k.T->Value
 | .k1,x=> .int .i64 x
 | .k2,x=> .agg #[.int .i64 x.1, .int .i64 x.2]
 | .k3,x=> .agg #[.int .i64 x.1, .int .i64 x.2.1, .int .i64 x.2.2]
def Ww{A:Nat->Prop}{w:World}{k:KK}{x:k.T}{u:Value}(h:Rel A w (k.enc x) u):u=k.val x:=by
 cases k with
 |k1=>exact h.bR
 |k2=>
  obtain⟨us,rfl,h1,h2⟩:=h.gO
  match us,h1 with
  |[a,b],_=>
   have e1:=(h2 0 _ a rfl rfl).bR;have e2:=(h2 1 _ b rfl rfl).bR;rw[e1,e2];rfl
 |k3=>
  obtain⟨us,rfl,h1,h2⟩:=h.gO
  match us,h1 with
  |[a,b,c],_=>
   have e1:=(h2 0 _ a rfl rfl).bR;have e2:=(h2 1 _ b rfl rfl).bR;have e3:=(h2 2 _ c rfl rfl).bR;rw[e1,e2,e3];rfl
def acV(k:KK)(x:k.T):Instr.sameBits 10000 (k.val x) (k.val x)=Z:=by
 cases k<;>simp[KK.val,Instr.sameBits]
def HX{K V:Type}[DecidableEq K]{l:aa (K×V)}(hl:l.Pairwise λa b=>a.1≠b.1)(x:K):(∃v l1 l2,ei l x=M v/\l=l1++(x,v)::l2/\(∀p∈l1++l2,x≠p.1)/\gB l x=λv'=>(x,v')::(l1++l2))\/(ei l x=J/\(∀p∈l,x≠p.1)/\gB l x=λv'=>(x,v')::l):=by
 cases h:l.find? λp=>w9 (x=p.1)with
 |none=>
  right;have h0:∀p∈l,x≠p.1:=λp hp e=>by
   have:=List.find?_eq_none.1 h p hp;simp_all
  refine⟨by unfold ei;rw[h];rfl,h0,?_⟩;unfold gB;rw[wu.2 λp hp=>by simp[h0 p hp]]
 |some p=>
  left;obtain⟨hp,l1,l2,rfl,h1⟩:=List.find?_eq_some_iff_append.1 h;have hx:x=p.1:=by simpa using hp
  obtain⟨y,v⟩:=p;subst hx;have h2:∀p∈l1++l2,x≠p.1:=λp hp=>by
   rcases zR.1 hp with hp|hp
   ·have:=h1 p hp;simpa using this
   ·have:=(wI.1 hl).2.1;exact(wJ.1 this).1 p hp
  refine⟨v,l1,l2,by unfold ei;rw[h];rfl,rfl,h2,?_⟩;unfold gB;have e1:(l1.filter λp=> !w9 (x=p.1))=l1:=wu.2 λp hp=>by simp[h2 p (ye _ hp)]
  have e2:(l2.filter λp=> !w9 (x=p.1))=l2:=wu.2 λp hp=>by simp[h2 p (ym _ hp)]
  rw[yj,yZ,e1,e2];simp
def aoI{k:KK}{e:VK}{l:aa (k.T×e.T)}{fs:aa (AV×AV)}(hp:List.Perm fs (l.map (mW k e)))(hq:fs.Pairwise (λa b=>a.1≠b.1)):l.Pairwise λa b=>a.1≠b.1:=by
 have h1:=(hp.pairwise_iff (λ{a b} h e=>h e.symm)).1 hq;exact(List.pairwise_map.1 h1).imp λh e=>h (by unfold mW;rw[e])
def ate(P:Program)(k:KK)(e:VK)(l:aa (k.T×e.T))(T:TypeId)(y:af AV)(ok:Bool)(K:AV->af α):af α:=match P.underlying T,y with
 |some (.map kt et),M kd=>match kkB P kt k&&vkB P et e,k.rk kd with
  |true,M x=>K (lkR ok (e.enc ((ei l x).getD e.zero)) (ei l x).isSome)
  |_,_=>J
 |_,_=>J
def RM(P:Program)(rd:Nat->af IR)(T:TypeId)(x y:af AV)(ok:Bool)(K:AV->af α):af α:=match x with
 |some (.own id)=>match rd id with
  |some (.md k e l)=>ate P k e l T y ok K
  |_=>Sy P rd T x y ok K
 |_=>Sy P rd T x y ok K
def aaT{t:TypeId}{e:VK}(h:vkB P t e=Z):∃zv,(P.info? t).bind (·.zero)=M zv/\e.enc e.zero= .lit zv:=by
 cases e with
 |i=>
  unfold vkB at h;dsimp only at h;split at h
  ·rename_i z hz;have h:=of_decide_eq_true h;subst h;exact⟨_,hz,rfl⟩
  ·cases h
 |b=>
  unfold vkB at h;dsimp only at h;split at h
  ·rename_i z hz;rw[Bool.not_eq_true']at h;subst h;exact⟨_,hz,rfl⟩
  ·cases h
def ait{T:TypeId}{ok:Bool}{K:AV->af α}(hs:iO ev rd nx E R)(ho:o.op= .lookup T x y ok)(h:RM P rd T (ev x) (ev y) ok K=M r):∃d,K d=M r/\Pu P o E R nx d:=by
 unfold RM at h;split at h
 ·rename_i id hx;split at h
  ·rename_i k e l hr;unfold ate at h;split at h
   case h_2=>cases h
   rename_i kt et kd hT hy;split at h
   case h_2=>cases h
   rename_i kx hb hk;rw[zh]at hb;have hk:=KK.abP hk;subst hk;obtain⟨zv,hz,hze⟩:=aaT hb.2;refine⟨_,h,Sz (lz (E7 _ _)) (M0 (E7 _ _) _) λρ=> ?_⟩;obtain⟨i,h1,_⟩:=dG (hs.r _ _ hr);have hi:(aS.res ρ R)[i]? =M (.mp (ρ.v id) (l.map (mW k e))):=fB (ρ:=ρ) h1;refine SA hs ho hT hx hy hz (Pz hb.1 kx) (WY k kx) hi _ _ λA w u fs ar hu hp hq hE=> ?_;rcases HX (aoI hp hq) kx with ⟨v,l1,l2,e1,rfl,e2,_⟩|⟨e1,e2,_⟩
   ·rw[e1];rw[zH,zI]at hp;obtain⟨fs1,fs2,m,rfl,p0,p1,p2⟩:=Fd.anZ hu hp hE (by show dY P kt (k.enc kx) (k.enc kx)=_;rw[BD hb.1];simp) (λe' he=>by
     rw[<-zH]at he;obtain⟨p,hp,rfl⟩:=zC.1 he;show dY P kt (k.enc kx) (k.enc p.1)=_;rw[BD hb.1];simp[e2 p hp])
    exact⟨m.val,_,(hE.2 (zZ fs1) (mW k e (kx,v)) m (by simp) p1).2,p2,rfl,rfl⟩
   ·rw[e1];refine⟨zv,J,by show Rel A w (e.enc e.zero) zv;rw[hze];exact .lit _,Fd.rM hu hE λe' he=> ?_,rfl,rfl⟩;obtain⟨p,hp',rfl⟩:=zC.1 (hp.mem_iff.1 he);show dY P kt (k.enc kx) (k.enc p.1)=_;rw[BD hb.1];simp[e2 p hp']
  ·exact W5 hs ho h
 ·exact W5 hs ho h
def Yv.aBF{C:Cx}{σ:aa bM}{T:TypeId}(ho:o.op= .makeMap T J):Yv P E σ o C [] (λa σ'=>∃v,a= .lit v/\σ'= .mp v []::σ):=λw ρ hg _=>by
 refine⟨_,w.alloc (.map #[] 0),_,_,⟨.map (some w.heap.size),rfl,rfl⟩,lX hg (iI w _) (.inr rfl) (RP (heap_alloc_new w _) (.refl _) .nil ⟨rfl,λi e m h=>by cases h⟩),?_, .lit _⟩;simp[execOp,ho,Instr.makeMap]
def Yv.aum{C:Cx}{σ:aa bM}{T kt et:TypeId}{k:IntKind}{n:Int}(ho:o.op= .makeMap T (M x))(hT:P.underlying T=M (.map kt et))(hx:E.ev x=M (.n k n)):Yv P E σ o C [] (λa σ'=>∃v,a= .lit v/\σ'= .mp v []::σ):=λw ρ hg hρ=>by
 have hx':=(hρ _ _ hx).bR;refine⟨_,w.alloc (.map #[] 0),_,_,⟨.map (some w.heap.size),rfl,rfl⟩,lX hg (iI w _) (.inr rfl) (RP (heap_alloc_new w _) (.refl _) .nil ⟨rfl,λi e m h=>by cases h⟩),?_, .lit _⟩;simp[execOp,ho,Instr.makeMap,run_underlying hT,hx',asInt,asIntOf]
def RB(P:Program)(nx:Nat)(T:TypeId)(x:af (af AV))(K:fq->af α):af α:=match x with
 |none=>K (.new (.own nx) (.mp []))
 |some (M (.lit (.int _ _)))=>match P.underlying T with
  |some (.map _ _)=>K (.new (.own nx) (.mp []))
  |_=>J
 |_=>J
variable {K:fq->af α}
def ars(hs:iO ev rd nx E R){es:aa (AV×AV)}{ρ:Gh}{σ':aa bM}{a:AV}(hK:K (.new (.own nx) (.mp es))=M r)(h:∃v,a= .lit v/\σ'= .mp v es::aS.res ρ R):Nx R nx K r ρ (M a) σ':=by
 obtain⟨v,ha,hσ⟩:=h;refine Wq hs (ρ':=ρ.eU nx v) hK (.own _ (zN _)) trivial (.eU ρ nx v) ?_ ?_
 ·rw[ha,cI];simp[Gh.eU]
 ·rw[hσ];simp[IR.res,Gh.eU]
def ajp{T:TypeId}{rv:af Operand}(hs:iO ev rd nx E R)(ho:o.op= .makeMap T rv)(h:RB P nx T (rv.map ev) K=M r):QC P o E R nx K r:=λρ C=>by
 unfold RB at h;cases rv with
 |none=>exact .ofV (.aBF ho) (by simp) λa σ' hN=>ars hs h hN
 |some x=>
  simp only[z8]at h;split at h
  ·simp_all
  ·rename_i k n h0;split at h
   ·rename_i kt et hT;simp only[zJ.injEq]at h0;have ex:=hs.fM h0 ρ;rw[bL]at ex;exact .ofV (.aum ho hT ex) (by simp) λa σ' hN=>ars hs h hN
   ·cases h
  ·cases h
def TF(P:Program)(rd:Nat->af IR)(T:TypeId)(m k v:af AV)(K:fq->af α):af α:=match P.underlying T,m,k,v with
 |some (.map kt _),M (.own id),M kd,M vd=>match rd id,By P kt kd&&oA kd&&oA vd with
  |some (.mp es),Z=>lkE P kt kd (λj _=>match AX P kt with
   |true=>K (.set id (.mp (es.set j (kd,vd))))
   |false=>J) (K (.set id (.mp (es++[(kd,vd)])))) es 0
  |_,_=>J
 |_,_,_,_=>J
def ZK{w:World}{b:Nat}(ob:Obj):Kp [b] w {w with heap:=w.heap.setIfInBounds b ob}:=⟨rfl,rfl,rfl,by simp,λk _ hk=>by
 have:b≠k:=λe=>hk (by simp[e]);simp[this]⟩
def RK{T kt et id:Nat}{kd vd:AV}{es:aa (AV×AV)}(hs:iO ev rd nx E R)(ho:o.op= .mapUpdate T x y z\/o.op= .insert T x y z)(hT:P.underlying T=M (.map kt et))(hx:ev x=M (.own id))(hy:ev y=M kd)(hz:ev z=M vd){r0:IR}(hr:rd id=M r0)(hc2:oA kd=Z)(hc3:oA vd=Z)(ρ:Gh)(C:Cx)
  (r1:IR) (es':aa (AV×AV)) (g0:r0.res ρ id= .mp (ρ.v id) es) (g1:r1.res ρ id= .mp (ρ.v id) es') (gl:r1.cE nx) (hK:K (.set id r1)=M r) (hf:∀(w:World) (j:Operand->Value) (b cl:Nat) (ar:Array MapEntry) (fs:aa (AV×AV)),List.Perm fs es->fs.Pairwise (λa b=>a.1≠b.1)->w.heap[b]? =M (.map ar cl)->(∃A w1,Rel A w1 kd (j y))->(∃A,EnR A w fs ar.toList)->∃ar' cl' fs',List.Perm fs' es'/\fs'.Pairwise (λa b=>a.1≠b.1)/\(Instr.mapUpdate T (.map (M b)) (j y) (j z)).run P w= .ok () {w with heap:=w.heap.setIfInBounds b (.map ar' cl')}/\
   ∀(A:Nat->Prop) (w':World),EnR A w' fs ar.toList->Rel A w' kd (j y)->Rel A w' vd (j z)->EnR A w' fs' ar'.toList):Ye P (E.sub ρ) (aS.res ρ R) o C (Nx R nx K r ρ):=by
 have ex:=hs.fM hx ρ;have ey:=hs.fM hy ρ;have ez:=hs.fM hz ρ;rw[cI]at ex;rw[lz hc2]at ey;rw[lz hc3]at ez;obtain⟨i,hi1,hi2,_⟩:=dG (hs.r _ _ hr);have hres:(aS.res ρ R)[i]? =M (.mp (ρ.v id) es):=by rw[<-g0];exact fB (ρ:=ρ) hi1
 refine .ofU (X:=(bM.blk (.mp (ρ.v id) es)).toList) (σ':=(aS.res ρ R).set i (.mp (ρ.v id) es')) (λw j hg hρ=> ?_) (λb hb=> ?_) ⟨_,hK,zx _,mS (hs.r _ _ hr) hs.lr gl,λd' hd=>(by cases hd),ρ, .refl _ _,rfl,?_⟩
 ·obtain⟨b,ar,cl,fs,q1,q2,qp,qw,q3⟩:=aa2 (hg.res _ (List.mem_of_getElem? hres));have hx':=(hρ _ _ ex).bR;obtain⟨ar',cl',fs',hp',hw',h1,h2⟩:=hf w j b cl ar fs qp qw q2 ⟨_,_,hρ _ _ ey⟩ ⟨_,q3⟩;have hb':=(MapKept.heap_set (o':= .map ar' cl') q2).1;rw[q1]at hres ⊢;have hbk:=Ao (r':=bM.mp (.map (M b)) es') hres rfl;have hal:∀k,k<w.heap.size->al C (aS.res ρ R) k->al C ((aS.res ρ R).set i (.mp (.map (M b)) es')) k/\({w with heap:=w.heap.setIfInBounds b (.map ar' cl')}:World).heap[k]? =w.heap[k]? :=λk _ hA=>
   ⟨⟨hA.1,by rw[hbk];exact hA.2⟩,(MapKept.heap_set q2).2 k λe=>hA.2 (bE.2 ⟨_,List.mem_of_getElem? hres,by rw[e];rfl⟩)⟩
  refine⟨_,pW hg hres (ZK (.map ar' cl')) (.inl rfl) (RP hb' hp' hw' (h2 _ _ ⟨q3.1,λi e m p1 p2=>⟨(q3.2 i e m p1 p2).1.mono hal,(q3.2 i e m p1 p2).2.mono hal⟩⟩ ((hρ _ _ ey).mono hal) ((hρ _ _ ez).mono hal))),?_⟩;rcases ho with ho|ho<;>simp[execOp,ho,hx',q1,h1]
 ·obtain⟨g,hg⟩:∃g,afz (ρ.v id)=M g:=by
   cases hb':afz (ρ.v id)with
   |none=>rw[show bM.blk (.mp (ρ.v id) es)=afz (ρ.v id)from rfl,hb']at hb;simp at hb
   |some g=>exact⟨g,rfl⟩
  rw[show bM.blk (.mp (ρ.v id) es)=afz (ρ.v id)from rfl,hg]at hb;simp only[xE,zA]at hb;exact bE.2 ⟨_,List.mem_of_getElem? hres,by rw[hb];exact hg⟩
 ·show List.Perm _ (aS.res ρ (pG id _ R));rw[hi2,rF,g1]
def abR{fs:aa (AV×AV)}{kd vd:AV}(h:fs.Pairwise (λa b=>a.1≠b.1))(hk:∀e∈fs,kd≠e.1):(fs++[(kd,vd)]).Pairwise (λa b=>a.1≠b.1):=
 wI.2 ⟨h,List.pairwise_singleton _ _,λa ha b hb=>by rw[zA.1 hb];exact λe=>hk a ha e.symm⟩
def aaK{fs1 fs2:aa (AV×AV)}{e:AV×AV}{kd vd:AV}(h:(fs1++e::fs2).Pairwise (λa b=>a.1≠b.1))(hk:kd=e.1):(fs1++(kd,vd)::fs2).Pairwise (λa b=>a.1≠b.1):=by
 subst hk;obtain⟨h1,h2,h3⟩:=wI.1 h;obtain⟨h4,h5⟩:=wJ.1 h2;refine wI.2 ⟨h1,wJ.2 ⟨h4,h5⟩,λa ha b hb=> ?_⟩;rcases zk.1 hb with rfl|hb
 ·exact h3 a ha e zm
 ·exact h3 a ha b (zM _ hb)
def ae7{T kt et id:Nat}{kd vd:AV}{es es':aa (AV×AV)}(hs:iO ev rd nx E R)(ho:o.op= .mapUpdate T x y z\/o.op= .insert T x y z)(hT:P.underlying T=M (.map kt et))(hx:ev x=M (.own id))(hy:ev y=M kd)(hz:ev z=M vd)(hr:rd id=M (.mp es))(hc1:By P kt kd=Z)(hc2:oA kd=Z)(hc3:oA vd=Z)
  (h2:∀e∈es,dY P kt kd e.1=M O) (hpe:List.Perm (es++[(kd,vd)]) es') (h1:K (.set id (.mp es'))=M r) (ρ:Gh) (C:Cx):Ye P (E.sub ρ) (aS.res ρ R) o C (Nx R nx K r ρ):=
 RK hs ho hT hx hy hz hr hc2 hc3 ρ C (.mp es') es' rfl rfl trivial h1 λw j b cl ar fs hp hq hb ⟨A,w1,hu⟩ ⟨A2,hE⟩=>by
  have p2:=Fd.rM (i:=0) hu hE λe he=>h2 e (hp.mem_iff.1 he);refine⟨ar.push {key:=j y,val:=j z,born:=cl},cl+1,fs++[(kd,vd)],(hp.append_right _).trans hpe,abR hq (λe he=>O8 (h2 e (hp.mem_iff.1 he))),?_,λA w' q1 q2 q3=>⟨by simp[<-q1.1],λi' e' m' g1 g2=> ?_⟩⟩
  ·simp[Instr.mapUpdate,run_underlying hT,MapKept.run_getObj_map hb,pV hc1 hu O,p2.key hc1,MapKept.run_setObj_map _ hb]
  ·rw[Array.toList_push]at g2;rw[yJ]at g1 g2;rw[q1.1]at g2;split at g1
   ·rename_i hlt;rw[bO hlt]at g2;exact q1.2 i' e' m' g1 g2
   ·rename_i hlt;rw[bP hlt]at g2;generalize i'-fs.length=n at g1 g2;cases n with
    |zero=>cases g1;cases g2;exact⟨q2,q3⟩
    |succ n=>cases g1
def WI{T:TypeId}(hs:iO ev rd nx E R)(ho:o.op= .mapUpdate T x y z\/o.op= .insert T x y z)(h:TF P rd T (ev x) (ev y) (ev z) K=M r):QC P o E R nx K r:=λρ C=>by
 unfold TF at h;split at h
 case h_2=>cases h
 rename_i kt et id kd vd hT hx hy hz;split at h
 case h_2=>cases h
 rename_i es hr hc;simp only[zh]at hc;obtain⟨⟨hc1,hc2⟩,hc3⟩:=hc;rcases B0 h with ⟨e,es1,es2,rfl,h2,h3,h4⟩|⟨h1,h2⟩
 ·split at h2
  case h_2=>cases h2
  rename_i hib;rw[zY,List.set_append_right _ _ (zx _),xb,List.set_cons_zero]at h2;refine RK hs ho hT hx hy hz hr hc2 hc3 ρ C (.mp (es1++(kd,vd)::es2)) (es1++(kd,vd)::es2) rfl rfl trivial h2 λw j b cl ar fs hp hq hb ⟨A,w1,hu⟩ ⟨A2,hE⟩=> ?_;obtain⟨fs1,fs2,m,rfl,p0,p1,p2⟩:=Fd.anZ hu hp hE h3 h4;have hkd:kd=e.1:=by
   unfold AX at hib;split at hib
   ·rename_i k0 hK;have h0:gH P kt kd e.1=M Z:=by
     unfold dY at h3;simp_all
    obtain⟨kk,a,c,e1,e2,e3⟩:=od hK h0;simp_all
   ·grind
  have hm:m.key=j y:=by
   have hk:=(hE.2 (zZ fs1) e m (by simp) p1).1;unfold AX at hib;split at hib
   ·rename_i k0 hK;have h0:gH P kt kd e.1=M Z:=by
     unfold dY at h3;simp_all
    obtain⟨kk,a,c,e1,e2,e3⟩:=od hK h0;rw[e1]at hu;rw[e2]at hk;rw[hu.bR,hk.bR];have:=eq_of_beq e3.symm;rw[this]
   ·grind
  have hj:ar[zZ fs1]? =M m:=by simpa using p1
  refine⟨ar.modify (zZ fs1) λe=>{e with key:=j y,val:=j z},cl,fs1++(kd,vd)::fs2,wo.trans ((p0.cons _).trans wo.symm),aaK hq hkd,?_,λA w' q1 q2 q3=>⟨by simpa using q1.1,λi' e' m' g1 g2=> ?_⟩⟩
  ·have hkt:(Instr.keyThatStays (j y) (j y)).run P w= .ok (j y) w:=by
    unfold AX at hib;split at hib
    ·rename_i k0 hK;have h0:gH P kt kd e.1=M Z:=by
      unfold dY at h3;simp_all
     obtain⟨kk,a,c,e1,e2,e3⟩:=od hK h0;rw[e1]at hu;rw[hu.bR];simp[Instr.keyThatStays,Instr.sameBits]
    ·cases hib
   simp[Instr.mapUpdate,run_underlying hT,MapKept.run_getObj_map hb,pV hc1 hu O,p2.key hc1,hj,hm,hkt,MapKept.run_setObj_map _ hb]
  ·rw[y7,xK]at g2;by_cases hji:zZ fs1=i'
   ·subst hji;rw[bO rfl,hj]at g2;rw[wK (zx _),xb]at g1;cases g1;cases g2;exact⟨q2,q3⟩
   ·rw[bP hji]at g2;refine q1.2 i' e' m' ?_ (by simpa using g2);rw[yJ]at g1 ⊢;split
    ·rename_i hlt;rwa [bO hlt]at g1
    ·rename_i hlt;rw[bP hlt]at g1;obtain⟨n,hn⟩:∃n,i'-fs1.length=n+1:=⟨i'-fs1.length-1,aj⟩;rw[hn]at g1 ⊢;exact g1
 ·exact ae7 hs ho hT hx hy hz hr hc1 hc2 hc3 h2 (.refl _) h1 ρ C
def av0(P:Program)(id:Nat)(k:KK)(e:VK)(l:aa (k.T×e.T))(T:TypeId)(y z:af AV)(K:fq->af α):af α:=match P.underlying T,y,z with
 |some (.map kt _),M kd,M vd=>match kkB P kt k,k.rk kd,e.rv vd with
  |true,M x,M v=>K (.set id (.md k e (gB l x v)))
  |_,_,_=>J
 |_,_,_=>J
def PZ(P:Program)(rd:Nat->af IR)(T:TypeId)(m k v:af AV)(K:fq->af α):af α:=match m with
 |some (.own id)=>match rd id with
  |some (.md k' e l)=>av0 P id k' e l T k v K
  |_=>TF P rd T m k v K
 |_=>TF P rd T m k v K
def Ug{T:TypeId}(hs:iO ev rd nx E R)(ho:o.op= .mapUpdate T x y z\/o.op= .insert T x y z)(h:PZ P rd T (ev x) (ev y) (ev z) K=M r):QC P o E R nx K r:=λρ C=>by
 unfold PZ at h;split at h
 ·rename_i id hx;split at h
  ·rename_i k e l hr;unfold av0 at h;split at h
   case h_2=>cases h
   rename_i kt et kd vd hT hy hz;split at h
   case h_2=>cases h
   rename_i kx v hb hk hv;have hk:=KK.abP hk;have hv:=VK.arq hv;subst hk hv;refine RK hs ho hT hx hy hz hr (WY k kx) (E7 e v) ρ C (.md k e (gB l kx v)) ((gB l kx v).map (mW k e)) rfl rfl trivial h λw j b cl ar fs hp hq hb' ⟨A,w1,hu⟩ ⟨A2,hE⟩=> ?_;have hyv:=Ww hu;rcases HX (aoI hp hq) kx with ⟨v0,l1,l2,e1,rfl,e2,e3⟩|⟨e1,e2,e3⟩
   ·rw[e3];rw[zH,zI]at hp;obtain⟨fs1,fs2,m,rfl,p0,p1,p2⟩:=Fd.anZ hu hp hE (by show dY P kt (k.enc kx) (k.enc kx)=_;rw[BD hb];simp) (λe' he=>by
     rw[<-zH]at he;obtain⟨p,hp,rfl⟩:=zC.1 he;show dY P kt (k.enc kx) (k.enc p.1)=_;rw[BD hb];simp[e2 p hp])
    have hm:m.key=j y:=by
     rw[hyv];exact Ww (hE.2 (zZ fs1) (mW k e (kx,v0)) m (by simp) p1).1
    have hj:ar[zZ fs1]? =M m:=by simpa using p1
    refine⟨ar.modify (zZ fs1) λe=>{e with key:=j y,val:=j z},cl,fs1++(k.enc kx,e.enc v)::fs2,?_,aaK hq rfl,?_,λA w' q1 q2 q3=>⟨by simpa using q1.1,λi' e' m' g1 g2=> ?_⟩⟩
    ·rw[zI,zH];exact wo.trans (p0.cons _)
    ·have hkt:(Instr.keyThatStays (j y) (j y)).run P w= .ok (j y) w:=by
      rw[hyv];simp[Instr.keyThatStays,acV]
     simp[Instr.mapUpdate,run_underlying hT,MapKept.run_getObj_map hb',pV (Pz hb kx) hu O,p2.key (Pz hb kx),hj,hm,hkt,MapKept.run_setObj_map _ hb']
    ·rw[y7,xK]at g2;by_cases hji:zZ fs1=i'
     ·subst hji;rw[bO rfl,hj]at g2;rw[wK (zx _),xb]at g1;cases g1;cases g2;exact⟨q2,q3⟩
     ·rw[bP hji]at g2;refine q1.2 i' e' m' ?_ (by simpa using g2);rw[yJ]at g1 ⊢;split
      ·simp_all
      ·rename_i hlt;obtain⟨n,hn⟩:∃n,i'-fs1.length=n+1:=⟨i'-fs1.length-1,aj⟩;simp_all
   ·rw[e3];have hne:∀e'∈fs,dY P kt (k.enc kx) e'.1=M O:=λe' he=>by
     obtain⟨p,hp',rfl⟩:=zC.1 (hp.mem_iff.1 he);show dY P kt (k.enc kx) (k.enc p.1)=_;rw[BD hb];simp[e2 p hp']
    have p2:=Fd.rM (i:=0) hu hE hne;refine⟨ar.push {key:=j y,val:=j z,born:=cl},cl+1,fs++[(k.enc kx,e.enc v)],?_,abR hq (λe' he=>O8 (hne e' he)),?_,λA w' q1 q2 q3=>⟨by simp[<-q1.1],λi' e' m' g1 g2=> ?_⟩⟩
    ·rw[zI];exact wU.trans (hp.cons _)
    ·simp[Instr.mapUpdate,run_underlying hT,MapKept.run_getObj_map hb',pV (Pz hb kx) hu O,p2.key (Pz hb kx),MapKept.run_setObj_map _ hb']
    ·rw[Array.toList_push]at g2;rw[yJ]at g1 g2;rw[q1.1]at g2;split at g1
     ·rename_i hlt;rw[bO hlt]at g2;exact q1.2 i' e' m' g1 g2
     ·rename_i hlt;rw[bP hlt]at g2;generalize i'-fs.length=n at g1 g2;cases n with
      |zero=>cases g1;cases g2;exact⟨q2,q3⟩
      |succ n=>cases g1
  ·exact WI hs ho h ρ C
 ·exact WI hs ho h ρ C
end
def dA{α:Type}(K:fq->af α)(d:AV):af α:=K (.val d)
def L5{α:Type}(P:Program)(F:aT)(ev:Operand->af AV)(rd:Nat->af IR)(R:aS)(nx:Nat)(o:Op)(K:fq->af α):af α:=match o with
 | .move x=>(ev x).bind (dA K)
 | .assign x=>(ev x).bind (dA K)
 | .pick c a b=>match ev c with
  |some (.lit (.bool Z))=>(ev a).bind (dA K)
  |some (.lit (.bool O))=>(ev b).bind (dA K)
  |_=>J
 | .binOp b T x y _=>pR P rd b T (ev x) (ev y) (dA K)
 | .unOp b _ x=>unV b (ev x) (dA K)
 | .convert T T' x=>Ts P rd T T' (ev x) (dA K)
 | .nilCheck x=>Ua (ev x) (dA K)
 | .fieldAddr T x i=>T5 P T i (ev x) (dA K)
 | .indexAddr T x y=>T8 P rd T (ev x) (ev y) (dA K)
 | .index T x y=>Tb P T (ev x) (ev y) (dA K)
 | .load T x=>ldV P rd T (ev x) (dA K)
 | .store T x y=>T3 P rd T (ev x) (ev y) K
 | .makeFunc f fs cs=>RG ev f fs.toList cs.toList (dA K)
 | .extract x i=>QO i (ev x) (dA K)
 | .build T ps=>TA P ev rd T ps.toList (dA K)
 | .buildSlice T n ps=>TJ P ev rd nx T n ps.toList K
 | .makeSlice T x y=>mkE P nx T (ev x) (ev y) K
 | .alloc T=>agy P nx T K
 | .box T x=>QS rd nx T (ev x) K
 | .slice T x lo hi mx=>match mx with
  |none=>SV P T (ev x) (lo.map ev) (hi.map ev) (dA K)
  |some (.const (.int _ 0))=>match lo,hi with
   |none,M (.const (.int _ 0))=>emE P nx T (ev x) K
   |_,_=>J
  |_=>J
 | .call {callee:= .builtin .len,args:=as0,argTypes:=ts}=>match as0.toList,ts.toList with
  |[x],[T]=>S7 P rd T (ev x) (dA K)
  |_,_=>J
 | .call {callee:= .builtin .max,args:=as0,argTypes:=ts}=>match as0.toList,ts.toList with
  |[x,y],[_,_]=>mnV Z [ev x,ev y] (dA K)
  |_,_=>J
 | .call {callee:= .builtin .min,args:=as0,argTypes:=ts}=>match as0.toList,ts.toList with
  |[x,y],[_,_]=>mnV O [ev x,ev y] (dA K)
  |_,_=>J
 | .call {callee:= .builtin .append,args:=as0,argTypes:=ts}=>match as0.toList,ts.toList with
  |[x,y],[T,T']=>ZI P rd nx T T' (ev x) (ev y) K
  |_,_=>J
 | .call {callee:= .builtin .copy,args:=as0,argTypes:=ts}=>match as0.toList,ts.toList with
  |[x,y],[T,_]=>Tg P rd R nx T (ev x) (ev y) K
  |_,_=>J
 | .call {callee:= .value x,args:=as0,argTypes:=_}=>QL F ev R nx (ev x) as0.toList K
 | .lookup T x y ok=>RM P rd T (ev x) (ev y) ok (dA K)
 | .makeMap T x=>RB P nx T (x.map ev) K
 | .mapUpdate T x y z=>PZ P rd T (ev x) (ev y) (ev z) K
 | .insert T x y z=>PZ P rd T (ev x) (ev y) (ev z) K
 |_=>J
section
variable {α:Type}
def Uq(x:Operand)(_:Program)(_:aT)(ev:Operand->af AV)(_:Nat->af IR)(_:aS)(_:Nat)(K:fq->af α):af α:=(ev x).bind (dA K)
def vD(c a b:Operand)(_:Program)(_:aT)(ev:Operand->af AV)(_:Nat->af IR)(_:aS)(_:Nat)(K:fq->af α):af α:=match ev c with
 |some (.lit (.bool Z))=>(ev a).bind (dA K)
 |some (.lit (.bool O))=>(ev b).bind (dA K)
 |_=>J
def aqw(b:BinOp)(T:TypeId)(x y:Operand)(P:Program)(_:aT)(ev:Operand->af AV)(rd:Nat->af IR)(_:aS)(_:Nat)(K:fq->af α):af α:=pR P rd b T (ev x) (ev y) (dA K)
def azq(b:UnOp)(x:Operand)(_:Program)(_:aT)(ev:Operand->af AV)(_:Nat->af IR)(_:aS)(_:Nat)(K:fq->af α):af α:=unV b (ev x) (dA K)
def arA(T T':TypeId)(x:Operand)(P:Program)(_:aT)(ev:Operand->af AV)(rd:Nat->af IR)(_:aS)(_:Nat)(K:fq->af α):af α:=Ts P rd T T' (ev x) (dA K)
def ap4(x:Operand)(_:Program)(_:aT)(ev:Operand->af AV)(_:Nat->af IR)(_:aS)(_:Nat)(K:fq->af α):af α:=Ua (ev x) (dA K)
def aq3(T:TypeId)(x:Operand)(i:Nat)(P:Program)(_:aT)(ev:Operand->af AV)(_:Nat->af IR)(_:aS)(_:Nat)(K:fq->af α):af α:=T5 P T i (ev x) (dA K)
def apm(T:TypeId)(x y:Operand)(P:Program)(_:aT)(ev:Operand->af AV)(rd:Nat->af IR)(_:aS)(_:Nat)(K:fq->af α):af α:=T8 P rd T (ev x) (ev y) (dA K)
def aqs(T:TypeId)(x y:Operand)(P:Program)(_:aT)(ev:Operand->af AV)(_:Nat->af IR)(_:aS)(_:Nat)(K:fq->af α):af α:=Tb P T (ev x) (ev y) (dA K)
def aDe(T:TypeId)(x:Operand)(P:Program)(_:aT)(ev:Operand->af AV)(rd:Nat->af IR)(_:aS)(_:Nat)(K:fq->af α):af α:=ldV P rd T (ev x) (dA K)
def aps(T:TypeId)(x y:Operand)(P:Program)(_:aT)(ev:Operand->af AV)(rd:Nat->af IR)(_:aS)(_:Nat)(K:fq->af α):af α:=T3 P rd T (ev x) (ev y) K
def aoV(f:Go.Fn)(fs cs:Array Operand)(_:Program)(_:aT)(ev:Operand->af AV)(_:Nat->af IR)(_:aS)(_:Nat)(K:fq->af α):af α:=RG ev f fs.toList cs.toList (dA K)
def aoS(x:Operand)(i:Nat)(_:Program)(_:aT)(ev:Operand->af AV)(_:Nat->af IR)(_:aS)(_:Nat)(K:fq->af α):af α:=QO i (ev x) (dA K)
def ari(T:TypeId)(ps:Array (Nat×Operand))(P:Program)(_:aT)(ev:Operand->af AV)(rd:Nat->af IR)(_:aS)(_:Nat)(K:fq->af α):af α:=TA P ev rd T ps.toList (dA K)
def aoj(T:TypeId)(n:Nat)(ps:Array (Nat×Operand))(P:Program)(_:aT)(ev:Operand->af AV)(rd:Nat->af IR)(_:aS)(nx:Nat)(K:fq->af α):af α:=TJ P ev rd nx T n ps.toList K
def aBQ(T:TypeId)(x y:Operand)(P:Program)(_:aT)(ev:Operand->af AV)(_:Nat->af IR)(_:aS)(nx:Nat)(K:fq->af α):af α:=mkE P nx T (ev x) (ev y) K
def ao5(T:TypeId)(P:Program)(_:aT)(_:Operand->af AV)(_:Nat->af IR)(_:aS)(nx:Nat)(K:fq->af α):af α:=agy P nx T K
def arc(T:TypeId)(x:Operand)(_:Program)(_:aT)(ev:Operand->af AV)(rd:Nat->af IR)(_:aS)(nx:Nat)(K:fq->af α):af α:=QS rd nx T (ev x) K
def Of(T:TypeId)(x:Operand)(lo hi mx:af Operand)(P:Program)(_:aT)(ev:Operand->af AV)(_:Nat->af IR)(_:aS)(nx:Nat)(K:fq->af α):af α:=match mx with
 |none=>SV P T (ev x) (lo.map ev) (hi.map ev) (dA K)
 |some (.const (.int _ 0))=>match lo,hi with
  |none,M (.const (.int _ 0))=>emE P nx T (ev x) K
  |_,_=>J
 |_=>J
def GA(b:Builtin)(as0:Array Operand)(ts:Array TypeId)(P:Program)(ev:Operand->af AV)(rd:Nat->af IR)(R:aS)(nx:Nat)(K:fq->af α):af α:=match b with
 | .len=>match as0.toList,ts.toList with
  |[x],[T]=>S7 P rd T (ev x) (dA K)
  |_,_=>J
 | .max=>match as0.toList,ts.toList with
  |[x,y],[_,_]=>mnV Z [ev x,ev y] (dA K)
  |_,_=>J
 | .min=>match as0.toList,ts.toList with
  |[x,y],[_,_]=>mnV O [ev x,ev y] (dA K)
  |_,_=>J
 | .append=>match as0.toList,ts.toList with
  |[x,y],[T,T']=>ZI P rd nx T T' (ev x) (ev y) K
  |_,_=>J
 | .copy=>match as0.toList,ts.toList with
  |[x,y],[T,_]=>Tg P rd R nx T (ev x) (ev y) K
  |_,_=>J
 |_=>J
def GJ(c:Call)(P:Program)(F:aT)(ev:Operand->af AV)(rd:Nat->af IR)(R:aS)(nx:Nat)(K:fq->af α):af α:=match c.callee with
 | .value x=>QL F ev R nx (ev x) c.args.toList K
 | .builtin b=>GA b c.args c.argTypes P ev rd R nx K
 |_=>J
def apw(T:TypeId)(x y:Operand)(ok:Bool)(P:Program)(_:aT)(ev:Operand->af AV)(rd:Nat->af IR)(_:aS)(_:Nat)(K:fq->af α):af α:=RM P rd T (ev x) (ev y) ok (dA K)
def aqG(T:TypeId)(x:af Operand)(P:Program)(_:aT)(ev:Operand->af AV)(_:Nat->af IR)(_:aS)(nx:Nat)(K:fq->af α):af α:=RB P nx T (x.map ev) K
def Vq(T:TypeId)(x y z:Operand)(P:Program)(_:aT)(ev:Operand->af AV)(rd:Nat->af IR)(_:aS)(_:Nat)(K:fq->af α):af α:=PZ P rd T (ev x) (ev y) (ev z) K
def aDJ(_:Program)(_:aT)(_:Operand->af AV)(_:Nat->af IR)(_:aS)(_:Nat)(_:fq->af α):af α:=J
def oN(o:Op):Program->aT->(Operand->af AV)->(Nat->af IR)->aS->Nat->(fq->af α)->af α:=match o with
 | .move x=>Uq x
 | .assign x=>Uq x
 | .pick c a b=>vD c a b
 | .binOp b T x y _=>aqw b T x y
 | .unOp b _ x=>azq b x
 | .convert T T' x=>arA T T' x
 | .nilCheck x=>ap4 x
 | .fieldAddr T x i=>aq3 T x i
 | .indexAddr T x y=>apm T x y
 | .index T x y=>aqs T x y
 | .load T x=>aDe T x
 | .store T x y=>aps T x y
 | .makeFunc f fs cs=>aoV f fs cs
 | .extract x i=>aoS x i
 | .build T ps=>ari T ps
 | .buildSlice T n ps=>aoj T n ps
 | .makeSlice T x y=>aBQ T x y
 | .alloc T=>ao5 T
 | .box T x=>arc T x
 | .slice T x lo hi mx=>Of T x lo hi mx
 | .call c=>GJ c
 | .lookup T x y ok=>apw T x y ok
 | .makeMap T x=>aqG T x
 | .mapUpdate T x y z=>Vq T x y z
 | .insert T x y z=>Vq T x y z
 |_=>aDJ
def OZ(P:Program)(F:aT)(ev:Operand->af AV)(rd:Nat->af IR)(R:aS)(nx:Nat)(o:Op)(K:fq->af α):oN o P F ev rd R nx K=L5 P F ev rd R nx o K:=by
 cases o<;>first|rfl|skip
 case call c=>
  obtain⟨cal,as0,ts⟩:=c;cases cal with
  |builtin b=>cases b<;>rfl
  |_=>rfl
end
section
variable {α:Type} {r:α} {P:Program} {F:aT} {o:Oper} {E:Env} {R:aS} {nx:Nat} {ev:Operand->af AV} {rd:Nat->af IR} {K:fq->af α} {C:Cx} {n:Nat}
def aC9{β:Type}{a:Array β}{x:β}(h:a.toList=[x]):a=#[x]:=by rw[<-Array.toArray_toList (xs:=a),h]
def Qg{β:Type}{a:Array β}{x y:β}(h:a.toList=[x,y]):a=#[x,y]:=by rw[<-Array.toArray_toList (xs:=a),h]
def Ik(hF:gR P F)(hs:iO ev rd nx E R){op:Op}(ho:o.op=op)(h:L5 P F ev rd R nx op K=M r):QC P o E R nx K r:=by
 unfold L5 at h;split at h
 ·obtain⟨d,hd,h⟩:=zl.1 h;exact .pu hs ⟨d,h,hs.oZ hd,λρ=> .move ho (hs.fM hd ρ)⟩
 ·obtain⟨d,hd,h⟩:=zl.1 h;exact .pu hs ⟨d,h,hs.oZ hd,λρ=> .assign ho (hs.fM hd ρ)⟩
 ·split at h
  ·rename_i hc;obtain⟨d,hd,h⟩:=zl.1 h;exact .pu hs ⟨d,h,hs.oZ hd,λρ=> .azN ho (by have:=hs.fM hc ρ;rw[bL]at this;exact this) (hs.fM hd ρ)⟩
  ·rename_i hc;obtain⟨d,hd,h⟩:=zl.1 h;exact .pu hs ⟨d,h,hs.oZ hd,λρ=> .aBi ho (by have:=hs.fM hc ρ;rw[bL]at this;exact this) (hs.fM hd ρ)⟩
  ·cases h
 ·exact .pu hs (am0 hs ho h)
 ·exact .pu hs (aun hs ho h)
 ·exact .pu hs (amG hs ho h)
 ·exact .pu hs (amk hs ho h)
 ·exact .pu hs (akF hs ho h)
 ·exact .pu hs (aj3 hs ho h)
 ·exact .pu hs (akv hs ho h)
 ·exact .pu hs (asw hs ho h)
 ·exact akf hs ho h
 ·exact .pu hs (amN hs ho h)
 ·exact .pu hs (amQ hs ho h)
 ·exact .pu hs (ajU hs ho h)
 ·exact amj hs ho h
 ·exact axX hs ho h
 ·exact aly hs ho h
 ·exact ai0 hs ho h
 ·split at h
  ·exact .pu hs (alY hs ho h)
  ·split at h
   ·exact axm hs ho h
   ·cases h
  ·cases h
 ·split at h
  ·rename_i h1 h2;rw[aC9 h1,aC9 h2]at ho;exact .pu hs (ajg hs ho h)
  ·cases h
 ·split at h
  ·rename_i h1 h2;rw[Qg h1,Qg h2]at ho;unfold mnV at h;split at h
   ·rename_i q1;split at h
    ·rename_i hk;subst hk;simp only[List.cons.injEq,and_true]at q1;obtain⟨q1,q2⟩:=q1;exact .pu hs ⟨_,h, .lit λρ=> .max ho (by have:=hs.fM q1 ρ;rw[bL]at this;exact this) (by have:=hs.fM q2 ρ;rw[bL]at this;exact this)⟩
    ·cases h
   ·cases h
  ·cases h
 ·split at h
  ·rename_i h1 h2;rw[Qg h1,Qg h2]at ho;unfold mnV at h;split at h
   ·rename_i q1;split at h
    ·rename_i hk;subst hk;simp only[List.cons.injEq,and_true]at q1;obtain⟨q1,q2⟩:=q1;exact .pu hs ⟨_,h, .lit λρ=> .min ho (by have:=hs.fM q1 ρ;rw[bL]at this;exact this) (by have:=hs.fM q2 ρ;rw[bL]at this;exact this)⟩
    ·cases h
   ·cases h
  ·cases h
 ·split at h
  ·rename_i h1 h2;rw[Qg h1,Qg h2]at ho;exact ali hs ho h
  ·cases h
 ·split at h
  ·rename_i h1 h2;rw[Qg h1,Qg h2]at ho;exact akP hs ho h
  ·cases h
 ·exact an7 hF hs ho h
 ·exact .pu hs (ait hs ho h)
 ·exact ajp hs ho h
 ·exact Ug hs (.inl ho) h
 ·exact Ug hs (.inr ho) h
 ·cases h
def St.app(s:St)(dst:af Nat)(e:fq):St:=
 {E:=match dst with
   |none=>s.E
   |some t=>match e.vl s.nx with
    |some d=>ig t d s.E
    |none=>ig t (.lit undef) s.E
  R:=e.R s.R s.nx
  nx:=e.nx s.nx}
def Nv(n:Nat):af Nat->Bool
 |none=>Z
 |some t=>zB t n
def iO.of{s:St}(hh:pP s.E E)(hE:E.cE s.nx)(hR:aS.cE s.nx s.R):iO (ML s.E) (gj s.R) s.nx E s.R:=⟨λx d h=>hh.ev x d h,λ_ _ h=>h,hE,hR⟩
def axV{C:Cg}{s:St}{a:Act}{w:World}{Q:Exit->Act->World->Prop}(hm:Mt C n s a w)(hd:Nv n o.dst=Z)(h:∀E,iO (ML s.E) (gj s.R) s.nx E s.R->QC P o E s.R s.nx K r){K':Act->World->Prop}
  (hK:∀a' w' e,a'.defers=a.defers->K e=M r->s.nx<=e.nx s.nx->Mt C n (s.app o.dst e) a' w'->K' a' w'):o.wp P a w K' Q:=by
 obtain⟨E,hh,hE,hR,ρ,hag,hsim⟩:=hm;have h:=h E (iO.of hh hE hR);unfold Oper.wp;have fin:∀(e:fq) (ρ':Gh) (σ':aa bM) (w':World) (v:Value),s.nx<=e.nx s.nx->aS.cE (e.nx s.nx) (e.R s.R s.nx)->(∀d,e.vl s.nx=M d->cE (e.nx s.nx) d)->nc s.nx ρ ρ'->List.Perm σ' (aS.res ρ' (e.R s.R s.nx))->
   Tr C.C (bh (aS.res ρ s.R)) (aS.res ρ s.R) w σ' w'->(∀d,e.vl s.nx=M d->Rel (al C.C σ') w' (d.sub ρ') v)->(e.vl s.nx=J->v=undef)->Mt C n (s.app o.dst e) (a.put o.dst v) w':=λe ρ' σ' w' v h1 h2 h3 h4 h5 h6 h7 h8=>by
  have hs1:=(hsim.tr h6).perm h5;rw[hE.sub h4]at hs1;have hE':E.cE (e.nx s.nx):=hE.mono h1;have hag':nc C.n C.ρ ρ'/\C.n<=e.nx s.nx:=⟨hag.1.trans h4 hag.2,zK hag.2 h1⟩;have hput:∀(t:Nat) (d:AV),o.dst=M t->cE (e.nx s.nx) d->Rel (al C.C (aS.res ρ' (e.R s.R s.nx))) w' (d.sub ρ') v->Mt C n {E:=ig t d s.E,R:=e.R s.R s.nx,nx:=e.nx s.nx} (a.put (M t) v) w':=λt d ht hd' hr=>
   ⟨(t,d)::E,hh.put t d,Env.vq hE' hd',h2,ρ',hag',hs1.put (by rw[ht]at hd;exact hd) hr⟩
  have hsub:∀d,e.vl s.nx=M d->Rel (al C.C (aS.res ρ' (e.R s.R s.nx))) w' (d.sub ρ') v:=λd hd'=>(h7 d hd').mono λb _ hA=>⟨Uv h5 b hA,rfl⟩;unfold St.app;cases hdst:o.dst with
  |none=>exact⟨E,hh,hE',h2,ρ',hag',hs1⟩
  |some t=>
   cases hv:e.vl s.nx with
   |some d=>exact hput t d hdst (h3 d hv) (hsub d hv)
   |none=>
    refine hput t (.lit undef) hdst (.lit _) ?_;rw[h8 hv,bL];exact .lit _
 rcases h ρ C.C w a.eval hsim.good hsim.slots.ops with ⟨v,w',av,σ',⟨e,q1,q2,q3,q4,ρ',q5,q6,q7⟩,h2,h3,h4⟩|⟨w',σ',⟨e,q1,q2,q3,q4,ρ',q5,q6,q7⟩,h2,h3⟩|⟨f,args,h1,h2⟩
 ·rw[h3];refine hK _ _ e (by cases o.dst<;>rfl) q1 q2 (fin e ρ' σ' w' v q2 q3 q4 q5 q7 h2 (λd hd'=> ?_) (λhn=> ?_))
  ·simp_all
  ·simp_all
 ·rw[h3];refine hK _ _ e (by cases o.dst<;>rfl) q1 q2 (fin e ρ' σ' w' undef q2 q3 q4 q5 q7 h2 (λd hd'=> ?_) (λhn=>rfl));rw[hd']at q6;cases q6
 ·rw[h1];refine Calls.mono h2 λee w' ⟨v,av,σ',q0,⟨e,q1,q2,q3,q4,ρ',q5,q6,q7⟩,h2,h4⟩=> ?_;subst q0;refine hK _ _ e (by cases o.dst<;>rfl) q1 q2 (fin e ρ' σ' w' v q2 q3 q4 q5 q7 h2 (λd hd'=> ?_) (λhn=> ?_))
  ·simp_all
  ·rw[hn]at q6;cases q6
end
def YJ(id t:Nat)(l:aa (U.cQ t)):AV->AV
 | .own i=>match zg i id with
  |true=> .sl t l
  |false=> .own i
 |d=>d
def ow(id t:Nat)(l:aa (U.cQ t)):Nat->AV->AV
 |0,d=>d
 |n+1, .agg cs=> .agg (cs.map (ow id t l n))
 |n+1, .iF cs=> .iF (cs.map (ow id t l n))
 |n+1, .fn f cs=> .fn f (cs.map (ow id t l n))
 |_+1,d=>YJ id t l d
def ve(id t:Nat)(l:aa (U.cQ t)):IR->IR
 | .box T cs=> .box T (cs.map (ow id t l 3))
 |r=>r
def St.Aw(s:St)(id:Nat):St:=match gj s.R id with
 |some (.row t l)=>{E:=emap (ow id t l 3) s.E,R:=(j6 id s.R).map λp=>(p.1,ve id t l p.2),nx:=s.nx}
 |_=>s
def afc{A:Nat->Prop}{w:World}{id t:Nat}{l:aa (U.cQ t)}{ρ:Gh}(hd:Hd A [.row (ρ.v id) t l] w){d:AV}{v:Value}(h:Rel A w (d.sub ρ) v):Rel (λb=>A b\/b∈bh [.row (ρ.v id) t l]) w ((YJ id t l d).sub ρ) v:=by
 unfold YJ;split
 ·rename_i i;split
  ·rename_i hi;have:=fL hi;subst this;rw[cI]at h;rw[fV];exact Vw.row 0 rfl A w v hd h
  ·exact h.mono λb _ hA=>⟨.inl hA,rfl⟩
 ·exact h.mono λb _ hA=>⟨.inl hA,rfl⟩
def Ek{A:Nat->Prop}{w:World}{id t:Nat}{l:aa (U.cQ t)}{ρ:Gh}(hd:Hd A [.row (ρ.v id) t l] w):∀(n:Nat) {d:AV} {v:Value},Rel A w (d.sub ρ) v->Rel (λb=>A b\/b∈bh [.row (ρ.v id) t l]) w ((ow id t l n d).sub ρ) v
 |0,d,v,h=>h.mono λb _ hA=>⟨.inl hA,rfl⟩
 |n+1,d,v,h=>by
  have hL:∀{cs:aa AV} {us:aa Value},bD A w (cs.map (bU.sub ρ)) us->bD (λb=>A b\/b∈bh [.row (ρ.v id) t l]) w ((cs.map (ow id t l n)).map (bU.sub ρ)) us:=λ{cs us} h=>by
   refine⟨by simpa using h.1,λj a v h1 h2=> ?_⟩;rw[yg,zP]at h1;obtain⟨c,hc,rfl⟩:=zj.1 h1;exact Ek hd n (h.2 j _ v (by rw[zP,hc];rfl) h2)
  unfold ow;split
  ·omega
  ·rename_i cs h0;cases h0;rw[eS]at h ⊢;obtain⟨us,rfl,h2⟩:=h.gO;exact Rel.nK (hL h2)
  ·rename_i cs h0;cases h0;rw[jJ]at h ⊢;obtain⟨us,rfl,h2⟩:=h.RC;exact Rel.EN (hL h2)
  ·rename_i f cs h0;cases h0;rw[sV]at h ⊢;obtain⟨us,rfl,h2⟩:=h.V6;exact .fn f _ us (hL h2).1 (hL h2).2
  ·rename_i h0 _ _ _;exact afc hd h
section
variable {α β:Type} (D:α->af β)
def afk{b:BinOp}{k:IntKind}{m n:Int}{K:AV->af α}:(afA b k m n K).bind D=afA b k m n (λd=>(K d).bind D):=by
 unfold afA;cases b<;>first|rfl|(dsimp only;split<;>rfl)
def ang{P:Program}{b:BinOp}{T:TypeId}{cs ds:aa AV}{K:AV->af α}:(eqS P b T cs ds K).bind D=eqS P b T cs ds (λd=>(K d).bind D):=by
 unfold eqS;split
 ·split
  ·cases b<;>first|rfl|exact z6 ..
  ·rfl
 ·rfl
def NX{P:Program}{rd:Nat->af IR}{b:BinOp}{T:TypeId}{x y:af AV}{K:AV->af α}:(pR P rd b T x y K).bind D=pR P rd b T x y (λd=>(K d).bind D):=by
 unfold pR
 repeat' split
 all_goals first|rfl|exact afk D|exact ang D|simp_all
def VR{b:UnOp}{x:af AV}{K:AV->af α}:(unV b x K).bind D=unV b x (λd=>(K d).bind D):=by
 unfold unV
 repeat' split
 all_goals first|rfl|simp_all
def MW{x:af AV}{K:AV->af α}:(Ua x K).bind D=Ua x (λd=>(K d).bind D):=by
 unfold Ua
 repeat' split
 all_goals first|rfl|simp_all
def NG{P:Program}{T:TypeId}{i:Nat}{x:af AV}{K:AV->af α}:(T5 P T i x K).bind D=T5 P T i x (λd=>(K d).bind D):=by
 unfold T5
 repeat' split
 all_goals first|rfl|simp_all
def N5{P:Program}{rd:Nat->af IR}{T:TypeId}{x y:af AV}{K:AV->af α}:(T8 P rd T x y K).bind D=T8 P rd T x y (λd=>(K d).bind D):=by
 unfold T8
 repeat' split
 all_goals first|rfl|simp_all
def Yd{P:Program}{rd:Nat->af IR}{T:TypeId}{x:af AV}{K:AV->af α}:(ldV P rd T x K).bind D=ldV P rd T x (λd=>(K d).bind D):=by
 unfold ldV
 repeat' split
 all_goals first|rfl|exact z6 .. |simp_all
def aa4{P:Program}{ev:Operand->af AV}{rd:Nat->af IR}{T:TypeId}{ps:aa (Nat×Operand)}{K:AV->af α}:(TA P ev rd T ps K).bind D=TA P ev rd T ps (λd=>(K d).bind D):=by
 unfold TA
 repeat' split
 all_goals first|rfl|exact z6 .. |simp_all
def Pe{P:Program}{rd:Nat->af IR}{T T':TypeId}{x:af AV}{K:AV->af α}:(Ts P rd T T' x K).bind D=Ts P rd T T' x (λd=>(K d).bind D):=by
 unfold Ts
 repeat' split
 all_goals first|rfl|exact z6 .. |simp_all
def Nl{i:Nat}{x:af AV}{K:AV->af α}:(QO i x K).bind D=QO i x (λd=>(K d).bind D):=by
 unfold QO;grind
def agn{ev:Operand->af AV}{f:Go.Fn}{fs cs:aa Operand}{K:AV->af α}:(RG ev f fs cs K).bind D=RG ev f fs cs (λd=>(K d).bind D):=by
 unfold RG
 repeat' split
 all_goals first|rfl|exact z6 .. |simp_all
def Oe{P:Program}{T:TypeId}{x y:af AV}{K:AV->af α}:(Tb P T x y K).bind D=Tb P T x y (λd=>(K d).bind D):=by
 unfold Tb
 repeat' split
 all_goals first|rfl|exact z6 .. |simp_all
def afS{P:Program}{T:TypeId}{x:af AV}{lo hi:af (af AV)}{K:AV->af α}:(SV P T x lo hi K).bind D=SV P T x lo hi (λd=>(K d).bind D):=by
 unfold SV
 repeat' split
 all_goals first|rfl|exact z6 .. |simp_all
def Nh{P:Program}{rd:Nat->af IR}{T:TypeId}{x:af AV}{K:AV->af α}:(S7 P rd T x K).bind D=S7 P rd T x (λd=>(K d).bind D):=by
 unfold S7
 repeat' split
 all_goals first|rfl|exact z6 .. |simp_all
def abj{P:Program}{nx:Nat}{T:TypeId}{K:fq->af α}:(agy P nx T K).bind D=agy P nx T (λd=>(K d).bind D):=by
 exact z6 ..
def abN{rd:Nat->af IR}{nx:Nat}{T:TypeId}{x:af AV}{K:fq->af α}:(QS rd nx T x K).bind D=QS rd nx T x (λd=>(K d).bind D):=by
 unfold QS
 repeat' split
 all_goals first|rfl|exact z6 .. |simp_all
def aa1{P:Program}{rd:Nat->af IR}{T:TypeId}{x y:af AV}{K:fq->af α}:(T3 P rd T x y K).bind D=T3 P rd T x y (λd=>(K d).bind D):=by
 unfold T3
 repeat' split
 all_goals first|rfl|exact z6 .. |simp_all
def aaM{P:Program}{rd:Nat->af IR}{R:aS}{nx:Nat}{T:TypeId}{x y:af AV}{K:fq->af α}:(Tg P rd R nx T x y K).bind D=Tg P rd R nx T x y (λd=>(K d).bind D):=by
 unfold Tg;split
 ·split
  ·split
   ·split
    ·rw[z6]
     congr 1
     funext l
     rw[z6]
     congr 1
     funext l2
     split<;>rfl
    ·rfl
   ·rfl
  ·rfl
 ·rfl
def ahi{P:Program}{ev:Operand->af AV}{rd:Nat->af IR}{nx:Nat}{T:TypeId}{n:Nat}{ps:aa (Nat×Operand)}{K:fq->af α}:(TJ P ev rd nx T n ps K).bind D=TJ P ev rd nx T n ps (λd=>(K d).bind D):=by
 unfold TJ;split
 ·split
  ·split
   ·split<;>rfl
   ·split
    ·split
     ·rw[z6]
      congr 1
      funext cs
      split
      ·exact z6 ..
      ·rfl
     ·rfl
    ·rfl
  ·rfl
 ·rfl
def amt{P:Program}{nx:Nat}{T:TypeId}{x y:af AV}{K:fq->af α}:(mkE P nx T x y K).bind D=mkE P nx T x y (λd=>(K d).bind D):=by
 unfold mkE;split
 ·split
  ·split
   ·rw[z6];split<;>rfl
   ·rfl
  ·rfl
 ·rfl
def aif{P:Program}{nx:Nat}{T:TypeId}{x:af AV}{K:fq->af α}:(emE P nx T x K).bind D=emE P nx T x (λd=>(K d).bind D):=by
 unfold emE
 repeat' split
 all_goals first|rfl|simp_all
def agZ{P:Program}{T:TypeId}{K:Nat->aa Value->af α}:(Zb P T K).bind D=Zb P T (λe zs=>(K e zs).bind D):=by
 unfold Zb
 repeat' split
 all_goals first|rfl|simp_all
def Pd{P:Program}{rd:Nat->af IR}{e:Nat}{zs:aa Value}{T' T:TypeId}{y:af AV}{K:aa (U.cQ e)->af α}:(Rz P rd e zs T' T y K).bind D=Rz P rd e zs T' T y (λd=>(K d).bind D):=by
 unfold Rz;split
 ·exact z6 ..
 ·split
  ·split
   ·rw[z6];split<;>rfl
   ·rfl
  ·rfl
def aeq{P:Program}{rd:Nat->af IR}{nx:Nat}{T T':TypeId}{x y:af AV}{K:fq->af α}:(ZI P rd nx T T' x y K).bind D=ZI P rd nx T T' x y (λd=>(K d).bind D):=by
 unfold ZI;rw[agZ]
 congr 1
 funext e zs
 split
 ·rw[Pd]
  congr 1
  funext l2
  split<;>rfl
 ·split
  ·rw[z6]
   congr 1
   funext l
   rw[Pd]
   congr 1
   funext l2
   split<;>rfl
  ·rfl
 ·rfl
def Di{mx:Bool}{xs:aa (af AV)}{K:AV->af α}:(mnV mx xs K).bind D=mnV mx xs (λd=>(K d).bind D):=by
 unfold mnV;split
 ·split
  ·cases mx<;>rfl
  ·rfl
 ·rfl
def LW{P:Program}{K:TypeId}{k:AV}{hit:Nat->AV×AV->af α}{rM:af α}:∀(es:aa (AV×AV)) (i:Nat),(lkE P K k hit rM es i).bind D=lkE P K k (λj e=>(hit j e).bind D) (rM.bind D) es i
 |[],i=>rfl
 |e::es,i=>by
  show ((dY P K k e.1).bind λq=>match q with
   |true=>match noE P K k es with
    |true=>hit i e
    |false=>J
   |false=>lkE P K k hit rM es (i+1)).bind D=(dY P K k e.1).bind λq=>match q with
   |true=>match noE P K k es with
    |true=>(hit i e).bind D
    |false=>J
   |false=>lkE P K k (λj e=>(hit j e).bind D) (rM.bind D) es (i+1)
  rw[z6]
  congr 1
  funext q
  cases q with
  |true=>cases noE P K k es<;>rfl
  |false=>exact LW es (i+1)
def PF{P:Program}{rd:Nat->af IR}{T:TypeId}{x y:af AV}{ok:Bool}{K:AV->af α}:(Sy P rd T x y ok K).bind D=Sy P rd T x y ok (λd=>(K d).bind D):=by
 unfold Sy;split
 ·split
  ·rw[LW]
   congr 1
   funext j e
   split<;>rfl
  ·rfl
 ·rfl
def aep{P:Program}{nx:Nat}{T:TypeId}{x:af (af AV)}{K:fq->af α}:(RB P nx T x K).bind D=RB P nx T x (λd=>(K d).bind D):=by
 unfold RB
 repeat' split
 all_goals first|rfl|simp_all
def MX{P:Program}{rd:Nat->af IR}{T:TypeId}{m k v:af AV}{K:fq->af α}:(TF P rd T m k v K).bind D=TF P rd T m k v (λd=>(K d).bind D):=by
 unfold TF;split
 ·split
  ·rw[LW];split<;>rfl
  ·rfl
 ·rfl
def dF(F:aT):Prop:=∀(α β:Type) f args R nx (k:AV->aS->Nat->af α) (D:α->af β),(F α f args R nx k).bind D=F β f args R nx (λd R nx=>(k d R nx).bind D)
structure bK (P:Program) (F:aT):Prop where
 ok:gR P F
 nat:dF F
def aaV{P:Program}{rd:Nat->af IR}{T:TypeId}{x y:af AV}{ok:Bool}{K:AV->af α}:(RM P rd T x y ok K).bind D=RM P rd T x y ok (λd=>(K d).bind D):=by
 unfold RM;split
 ·split
  ·unfold ate;split
   ·split<;>rfl
   ·rfl
  ·exact PF D
 ·exact PF D
def agK{P:Program}{rd:Nat->af IR}{T:TypeId}{m k v:af AV}{K:fq->af α}:(PZ P rd T m k v K).bind D=PZ P rd T m k v (λd=>(K d).bind D):=by
 unfold PZ;split
 ·split
  ·unfold av0;split
   ·split<;>rfl
   ·rfl
  ·exact MX D
 ·exact MX D
def ae1{F:aT}(hF:dF F){ev:Operand->af AV}{R:aS}{nx:Nat}{x:af AV}{xs:aa Operand}{K:fq->af α}:(QL F ev R nx x xs K).bind D=QL F ev R nx x xs (λd=>(K d).bind D):=by
 unfold QL;split
 ·rw[z6]
  congr 1
  funext as0
  exact hF ..
 ·rfl
def AM{F:aT}(hF:dF F)(o:Op)(P:Program)(ev:Operand->af AV)(rd:Nat->af IR)(R:aS)(nx:Nat)(K:fq->af α):(oN o P F ev rd R nx K).bind D=oN o P F ev rd R nx (λe=>(K e).bind D):=by
 have hP:(λd=>(dA K d).bind D)=dA (λe=>(K e).bind D):=rfl;cases o<;>first|rfl|exact aaV D|exact aep D|exact agK D|exact z6 .. |exact VR D|exact Pe D|exact MW D|exact NG D|exact N5 D|exact Oe D|exact Yd D|exact aa1 D|exact agn D|exact Nl D|exact aa4 D|exact ahi D|exact amt D|exact abj D|exact abN D|skip
 case pick c a b=>
  show (vD c a b P F ev rd R nx K).bind D=vD c a b P F ev rd R nx _;unfold vD;grind
 case binOp b T x y t=>exact NX D
 case slice T x lo hi mx=>
  show (Of T x lo hi mx P F ev rd R nx K).bind D=Of T x lo hi mx P F ev rd R nx _;unfold Of;split
  ·exact afS D
  ·split
   ·exact aif D
   ·rfl
  ·rfl
 case call c=>
  show (GJ c P F ev rd R nx K).bind D=GJ c P F ev rd R nx _;unfold GJ;split
  ·exact ae1 D hF
  ·unfold GA;split
   ·split
    ·exact Nh D
    ·rfl
   ·split
    ·exact Di D
    ·rfl
   ·split
    ·exact Di D
    ·rfl
   ·split
    ·exact aeq D
    ·rfl
   ·split
    ·exact aaM D
    ·rfl
   ·rfl
  ·rfl
end
def qF{id t m:Nat}{l:aa (U.cQ t)}:∀(n:Nat) {d:AV},cE m d->cE m (ow id t l n d)
 |0,d,h=>h
 |n+1,d,h=>by
  have hL:∀{cs:aa AV},(∀c∈cs,cE m c)->∀c∈cs.map (ow id t l n),cE m c:=λh c hc=>by
   obtain⟨c',h1,rfl⟩:=zC.1 hc;exact qF n (h c' h1)
  unfold ow;split
  ·omega
  ·rename_i h0;cases h0;exact .agg _ (hL h.nK)
  ·rename_i h0;cases h0;exact .iF _ (hL h.EN)
  ·rename_i h0;cases h0;exact .fn _ _ (hL h.fnL)
  ·unfold YJ;split
   ·split
    ·exact .sl _ _
    ·exact h
   ·exact h
def v8{f:AV->AV}(t:Nat):∀(E:Env),Env.get (E.map λp=>(p.1,f p.2)) t=(E.get t).map f
 |[]=>rfl
 |(k,v)::E=>by
  show Env.get ((k,f v)::E.map λp=>(p.1,f p.2)) t=_;unfold Env.get;cases hb:zg k t with
  |true=>rfl
  |false=>exact v8 t E
section
variable {α:Type} {r:α} {P:Program} {F:aT} {o:Oper} {C:Cg} {n:Nat} {s:St} {a:Act} {w:World}
def Mt.Aw(h:Mt C n s a w)(id:Nat):Mt C n (s.Aw id) a w:=by
 unfold St.Aw;split
 case h_2=>exact h
 rename_i t l hr;obtain⟨E,hh,hE,hR,ρ,hag,hsim⟩:=h;obtain⟨i,hi1,_,hi3⟩:=dG hr;have hres:=fB (ρ:=ρ) hi1;have hg:=hsim.good;have hd:Hd (al C.C (aS.res ρ s.R)) [.row (ρ.v id) t l] w:=⟨λr hr=>by
   rw[zA]at hr;rw[hr];exact hg.res _ (List.mem_of_getElem? hres),λb hb hA=>hA.2 (by
   obtain⟨r,h1,h2⟩:=bE.1 hb;rw[zA]at h1;rw[h1]at h2;exact bE.2 ⟨_,List.mem_of_getElem? hres,h2⟩)⟩
 have hle:=F4 (C:=C.C) hres hg;have hbk:bh (aS.res ρ ((j6 id s.R).map λp=>(p.1,ve id t l p.2)))=bh ((aS.res ρ s.R).eraseIdx i):=by
  rw[<-AU,<-hi3];unfold bh aS.res;rw[yg,List.filterMap_map,List.filterMap_map]
  congr 1
  funext p
  obtain⟨q,rr⟩:=p;cases rr<;>rfl
 have hal:∀b,(al C.C (aS.res ρ s.R) b\/b∈bh [bM.row (ρ.v id) t l])->al C.C (aS.res ρ ((j6 id s.R).map λp=>(p.1,ve id t l p.2))) b:=λb hb=>by
  have:=hle b hb;exact⟨this.1,by rw[hbk];exact this.2⟩
 have hrel:∀{d:AV} {v:Value},Rel (al C.C (aS.res ρ s.R)) w (d.sub ρ) v->Rel (al C.C (aS.res ρ ((j6 id s.R).map λp=>(p.1,ve id t l p.2)))) w ((ow id t l 3 d).sub ρ) v:=λh=>
  (Ek hd 3 h).mono λb _ hA=>⟨hal b hA,rfl⟩
 refine⟨E.map λp=>(p.1,ow id t l 3 p.2),λk d hk=> ?_,λp hp=> ?_,λp hp=> ?_,ρ,hag,hsim.defers.step (λb _ hA=>⟨hal b (.inl hA),rfl⟩),hsim.size,λk av hk=> ?_,⟨hg.kept,λrr hrr=> ?_,?_,λb hb=> ?_⟩⟩
 ·have hk':cF (emap (ow id t l 3) s.E) k=M d:=hk;rw[Ar]at hk';obtain⟨d',h1,rfl⟩:=zj.1 hk';rw[v8,hh k d' h1];rfl
 ·obtain⟨p',h1,rfl⟩:=zC.1 hp;exact qF 3 (hE p' h1)
 ·obtain⟨p',h1,rfl⟩:=zC.1 hp;have h2:=G5 (id:=id) hR p' h1;refine⟨h2.1,?_⟩;obtain⟨q,rr⟩:=p';cases rr with
  |row t' l'=>trivial
  |mp es=>trivial
  |md k e l=>trivial
  |box T cs=>
   intro c hc;obtain⟨c',h3,rfl⟩:=zC.1 hc;exact qF 3 (h2.2 c' h3)
 ·rw[Env.eR,v8]at hk;obtain⟨d',h1,rfl⟩:=zj.1 hk;obtain⟨d,h2,rfl⟩:=zj.1 h1;obtain⟨v,h3,h4⟩:=hsim.slots k (d.sub ρ) (by rw[Env.eR,h2];rfl);exact⟨v,h3,hrel h4⟩
 ·obtain⟨p,h1,rfl⟩:=zC.1 hrr;obtain⟨p',h2,rfl⟩:=zC.1 h1;have hm:p'.2.res ρ p'.1∈aS.res ρ s.R:=by
   rw[hi3]at h2;exact zC.2 ⟨p',List.mem_of_mem_eraseIdx h2,rfl⟩
  have h3:=hg.res _ hm;obtain⟨q,rr⟩:=p';cases rr with
  |row t' l'=>exact h3.mono (λb _ hA=>⟨hal b (.inl hA),rfl⟩) (λ_ _=>rfl)
  |mp es=>exact h3.mono (λb _ hA=>⟨hal b (.inl hA),rfl⟩) (λ_ _=>rfl)
  |md k e l=>exact h3.mono (λb _ hA=>⟨hal b (.inl hA),rfl⟩) (λ_ _=>rfl)
  |box T cs=>
   obtain⟨us,h4,h5⟩:=h3;refine⟨us,h4,by simpa using h5.1,λj av v q1 q2=> ?_⟩;rw[yg,zP]at q1;obtain⟨c,hc,rfl⟩:=zj.1 q1;exact hrel (h5.2 j (c.sub ρ) v (by rw[zP,hc];rfl) q2)
 ·rw[hbk];exact hg.BR.sublist ((wV _ _).filterMap _)
 ·rw[hbk]at hb;exact hg.own b (jk (λr hr=>(wV _ _).subset hr) b hb)
def St.jB(s:St)(ids:aa Nat):St:=match ids with
 |[]=>s
 |i::is=>(s.Aw i).jB is
def Mt.jB:∀(ids:aa Nat) {s:St},Mt C n s a w->Mt C n (s.jB ids) a w
 |[],_,h=>h
 |i::is,_,h=>Mt.jB is (h.Aw i)
def at3:AV->aa Nat
 | .own id=>[id]
 | .agg cs=>cs.filterMap λc=>match c with
  | .own id=>M id
  |_=>J
 |_=>[]
def ZO(E:ET)(x:Operand):aa Nat:=match ML E x with
 |some d=>at3 d
 |none=>[]
def iJ(E:ET):Op->aa Nat
 | .buildSlice _ _ ps=>ps.toList.flatMap λp=>ZO E p.2
 | .store T x v=>match L.fz (Nat.add 1000000 T)with
  |true=>ZO E v
  |false=>match ML E x with
   |some (.ra _ _ _ _)=>ZO E v
   |_=>[]
 | .slice _ x _ _ J=>ZO E x
 | .box T x=>match L.fz (Nat.add 1000000 T)with
  |true=>ZO E x
  |false=>[]
 | .call c=>match c.callee with
  | .value (.func f)=>match L.fz f with
   |true=>c.args.toList.flatMap (ZO E)
   |false=>[]
  |_=>[]
 |_=>[]
def St.gq(s:St)(t:Nat)(b:Bool):St:={s with E:=ig t (.b b) s.E}
def Mt.gq{t:Nat}{b:Bool}(h:Mt C n s a w)(ht:cF s.E t=M (.lit (.bool b))):Mt C n (s.gq t b) a w:=by
 obtain⟨E,hh,hE,hR,ρ,hag,hsim⟩:=h;refine⟨E,λk d hk=> ?_,hE,hR,ρ,hag,hsim⟩;have hk':cF (ig t (.b b) s.E) k=M d:=hk;rcases qO hk' with ⟨rfl,rfl⟩|⟨_,h2⟩
 ·exact hh _ _ ht
 ·exact hh k d h2
def gate(ops:Array Oper)(o:Oper)(s:St)(yes no:St->af α):af α:=match o.guard with
 |none=>yes s
 |some (j,want)=>match (ops[j]?).bind (·.dst)with
  |none=>J
  |some t=>match cF s.E t with
   |some (.lit (.bool b))=>match b with
    |true=>match want with
     |true=>yes (s.gq t Z)
     |false=>no (s.gq t Z)
    |false=>match want with
     |true=>no (s.gq t O)
     |false=>yes (s.gq t O)
   |some (.lit (.tuple _))=>no s
   |_=>J
def I9{ops:Array Oper}{j t:Nat}{want:Bool}{ρ:Gh}(hg:o.guard=M (j,want))(hj:(ops[j]?).bind (·.dst)=M t){E:Env}:
  (∀b,E.get t=M (.lit (.bool b))->jN (E.sub ρ) o ops=M (b==want))/\(∀vs,E.get t=M (.lit (.tuple vs))->jN (E.sub ρ) o ops=M O):=by
 constructor
 ·intro b hb;unfold jN;rw[hg];simp only[hj,Env.eR,hb,z8,bL]
 ·intro vs hb;unfold jN;rw[hg];simp only[hj,Env.eR,hb,z8,bL]
def ak3{ops:Array Oper}{yes no:St->af α}(h:gate ops o s yes no=M r)(hm:Mt C n s a w):∃s',Mt C n s' a w/\
  ((Region.wanted o (yielded ops a.tmps)=Z/\yes s'=M r)\/(Region.wanted o (yielded ops a.tmps)=O/\no s'=M r)):=by
 unfold gate at h;split at h
 ·rename_i hg;exact⟨s,hm, .inl ⟨by simp[Region.wanted,hg],h⟩⟩
 ·rename_i j want hg;split at h
  ·cases h
  ·rename_i t hj;have hspec:∀{s':St},Mt C n s' a w->(∀b,cF s'.E t=M (.lit (.bool b))->Region.wanted o (yielded ops a.tmps)=(b==want))/\(∀vs,cF s'.E t=M (.lit (.tuple vs))->Region.wanted o (yielded ops a.tmps)=O):=λ{s'} hm'=>by
    obtain⟨E,hh,_,_,ρ,_,hsim⟩:=hm';obtain⟨h1,h2⟩:=I9 (ρ:=ρ) hg hj (E:=E);exact⟨λb hb=>jN.spec hsim.slots (h1 b (hh _ _ hb)),λvs hv=>jN.spec hsim.slots (h2 vs (hh _ _ hv))⟩
   split at h
   ·rename_i b hb;have hw:=(hspec hm).1 b hb;split at h
    ·split at h
     ·exact⟨_,hm.gq hb, .inl ⟨hw,h⟩⟩
     ·exact⟨_,hm.gq hb, .inr ⟨hw,h⟩⟩
    ·split at h
     ·exact⟨_,hm.gq hb, .inr ⟨hw,h⟩⟩
     ·exact⟨_,hm.gq hb, .inl ⟨hw,h⟩⟩
   ·rename_i vs hb;exact⟨s,hm, .inr ⟨(hspec hm).2 vs hb,h⟩⟩
   ·cases h
def Cb(o:Op)(s:St)(f:St->af α):af α:=match o with
 | .pick (.tmp t) _ _=>match cF s.E t with
  |some (.lit (.bool b))=>match b with
   |true=>f (s.gq t Z)
   |false=>f (s.gq t O)
  |_=>J
 |_=>f s
def ac0{op:Op}{f:St->af α}(h:Cb op s f=M r)(hm:Mt C n s a w):∃s',Mt C n s' a w/\f s'=M r:=by
 unfold Cb at h;split at h
 ·split at h
  ·rename_i b hb;split at h
   ·exact⟨_,hm.gq hb,h⟩
   ·exact⟨_,hm.gq hb,h⟩
  ·cases h
 ·exact⟨s,hm,h⟩
def pe(dst:af Nat)(d:AV)(E:ET):ET:=match dst with
 |none=>E
 |some t=>ig t d E
def Ov(dst:af Nat)(E:ET)(R:aS)(nx:Nat)(ih:St->(St->af α)->af α)(k:St->af α)(e:fq):af α:=match e with
 | .val d=>ih ⟨pe dst d E,R,nx⟩ k
 | .new d r=>ih ⟨pe dst d E,(nx,r)::R,nx+1⟩ k
 | .set id r=>ih ⟨pe dst (.lit undef) E,pG id r R,nx⟩ k
 | .grow id r=>ih ⟨pe dst (.own nx) E,(nx,r)::j6 id R,nx+1⟩ k
 | .all d R' m=>ih ⟨pe dst d E,R',m⟩ k
def am3(dst:af Nat)(s:St)(ih:St->(St->af α)->af α)(k:St->af α):Ov dst s.E s.R s.nx ih k=λe=>ih (s.app dst e) k:=by
 funext e
 cases e<;>cases dst<;>rfl
def atk(P:Program)(F:aT)(o:Oper)(ih:St->(St->af α)->af α)(k:St->af α)(s:St):af α:=St.rec (λE R nx=>oN o.op P F (ML E) (gj R) R nx (Ov o.dst E R nx ih k)) s
def rDo(P:Program)(F:aT)(o:Oper)(ih:St->(St->af α)->af α)(k:St->af α)(s:St):af α:=atk P F o ih k (s.jB (iJ s.E o.op))
abbrev OpK(α:Type):=Program->aT->af Nat->ET->aS->Nat->(St->(St->af α)->af α)->(St->af α)->af α
abbrev StT(α:Type):=Program->aT->(Operand->af AV)->(Nat->af IR)->aS->Nat->(fq->af α)->af α
def D7(f:StT α):OpK α:=λP F dst E R nx ih k=>f P F (ML E) (gj R) R nx (Ov dst E R nx ih k)
def stZ(ids:ET->aa Nat)(f:StT α):OpK α:=λP F dst E R nx ih k=>St.rec (λE R nx=>f P F (ML E) (gj R) R nx (Ov dst E R nx ih k)) (St.jB ⟨E,R,nx⟩ (ids E))
def aKq(c a b:Operand):OpK α:=match c with
 | .tmp t=>λP F dst E R nx ih k=>match cF E t with
  |some (.lit (.bool v))=>match v with
   |true=>D7 (vD (.tmp t) a b) P F dst (ig t (.b Z) E) R nx ih k
   |false=>D7 (vD (.tmp t) a b) P F dst (ig t (.b O) E) R nx ih k
  |_=>J
 |c=>D7 (vD c a b)
def opF(o:Op):OpK α:=match o with
 | .move x=>D7 (Uq x)
 | .assign x=>D7 (Uq x)
 | .pick c a b=>aKq c a b
 | .binOp b T x y _=>D7 (aqw b T x y)
 | .unOp b _ x=>D7 (azq b x)
 | .convert T T' x=>D7 (arA T T' x)
 | .nilCheck x=>D7 (ap4 x)
 | .fieldAddr T x i=>D7 (aq3 T x i)
 | .indexAddr T x y=>D7 (apm T x y)
 | .index T x y=>D7 (aqs T x y)
 | .load T x=>D7 (aDe T x)
 | .store T x y=>stZ (λE=>iJ E (.store T x y)) (aps T x y)
 | .makeFunc f fs cs=>D7 (aoV f fs cs)
 | .extract x i=>D7 (aoS x i)
 | .build T ps=>D7 (ari T ps)
 | .buildSlice T n ps=>stZ (λE=>iJ E (.buildSlice T n ps)) (aoj T n ps)
 | .makeSlice T x y=>D7 (aBQ T x y)
 | .alloc T=>D7 (ao5 T)
 | .box T x=>stZ (λE=>iJ E (.box T x)) (arc T x)
 | .slice T x lo hi mx=>stZ (λE=>iJ E (.slice T x lo hi mx)) (Of T x lo hi mx)
 | .call c=>stZ (λE=>iJ E (.call c)) (GJ c)
 | .lookup T x y ok=>D7 (apw T x y ok)
 | .makeMap T x=>D7 (aqG T x)
 | .mapUpdate T x y z=>D7 (Vq T x y z)
 | .insert T x y z=>D7 (Vq T x y z)
 |_=>D7 aDJ
def MJ(P:Program)(F:aT)(o:Oper)(s:St)(ih:St->(St->af α)->af α)(k:St->af α):opF o.op P F o.dst s.E s.R s.nx ih k=Cb o.op s (rDo P F o ih k):=by
 unfold rDo atk Cb;cases h:o.op<;>first|rfl|skip
 case pick c a b=>
  cases c<;>rfl
def aBJ(P:Program)(F:aT)(o:Oper)(ih:St->(St->af α)->af α)(k:St->af α)(s:St):af α:=St.rec (λE R nx=>opF o.op P F o.dst E R nx ih k) s
def rNo(dst:af Nat)(ih:St->(St->af α)->af α)(k:St->af α)(s:St):af α:=match dst with
 |some t=>ih {s with E:=ig t (.lit undef) s.E} k
 |none=>ih s k
def PI(P:Program)(F:aT)(n:Nat)(ops:Array Oper)(o:Oper)(ih:St->(St->af α)->af α)(s:St)(k:St->af α):af α:=match Nv n o.dst with
 |true=>gate ops o s (aBJ P F o ih k) (rNo o.dst ih k)
 |false=>J
def fJ(P:Program)(F:aT)(n:Nat)(ops:Array Oper)(l:aa Oper):St->(St->af α)->af α:=List.rec (λs k=>k s) (λo _ ih=>PI P F n ops o ih) l
def vA(hF:gR P F){ops:Array Oper}{k:St->af α}:∀(rest:aa Oper) {s:St} {a:Act} {w:World},fJ P F n ops rest s k=M r->Mt C n s a w->
  wpList P ops (λe a' w'=>e= .normal/\a'.defers=a.defers/\∃s',k s'=M r/\Mt C n s' a' w') rest a w
 |[],s,a,w,h,hm=>⟨rfl,rfl,s,h,hm⟩
 |o::rest,s,a,w,h,hm=>by
  change PI P F n ops o (fJ P F n ops rest) s k=M r at h;unfold PI at h;split at h
  case h_2=>cases h
  rename_i hd;refine wpList_step λK' hK=> ?_;have cont:∀{s':St} {a':Act} {w':World},a'.defers=a.defers->fJ P F n ops rest s' k=M r->Mt C n s' a' w'->K' a' w':=λ{s' a' w'} hda h1 h2=>hK _ _ (by
   have:=vA hF rest h1 h2;rw[hda]at this;exact this)
  obtain⟨s1,hm1,⟨hw,h1⟩|⟨hw,h1⟩⟩:=ak3 h hm
  ·rw[bO hw];have h1':opF o.op P F o.dst s1.E s1.R s1.nx (fJ P F n ops rest) k=M r:=h1;rw[MJ]at h1';obtain⟨s2,hm2,h2⟩:=ac0 h1' hm1;unfold rDo at h2;have e2:∀s:St,atk P F o (fJ P F n ops rest) k s=L5 P F (ML s.E) (gj s.R) s.R s.nx o.op (λe=>fJ P F n ops rest (s.app o.dst e) k):=λs=>by
    show oN o.op P F (ML s.E) (gj s.R) s.R s.nx (Ov o.dst s.E s.R s.nx (fJ P F n ops rest) k)=_;rw[OZ,am3]
   rw[e2]at h2;have hm3:=Mt.jB (iJ s2.E o.op) hm2;exact axV (K:=λe=>fJ P F n ops rest ((s2.jB (iJ s2.E o.op)).app o.dst e) k) (r:=r) hm3 hd (λE hs=>Ik hF hs rfl h2) λa' w' e q1 q2 _ q4=>cont q1 q2 q4
  ·rw[bP (by rw[hw];exact Bool.false_ne_true)];cases hdst:o.dst with
   |none=>
    rw[hdst]at h1;exact cont rfl h1 hm1
   |some t=>
    rw[hdst]at h1 hd;obtain⟨E,hh,hE,hR,ρ,hag,hsim⟩:=hm1;exact cont rfl h1 ⟨(t, .lit undef)::E,hh.put t _,Env.vq hE (.lit _),hR,ρ,hag,by
     have:=hsim.put (av:= .lit undef) (v:=undef) hd (.lit _);show lH C.C n ((t,bU.sub ρ (.lit undef))::E.sub ρ) _ _ _;rw[bL];exact this⟩
end
def InL(P:Program)(c:Code)(Q:Exit->Act->World->Prop)(a:Act)(w:World):Prop:=
 ∀(b:Frame) (k:aa Item) (cs:aa Frame),∃e a' w',Q e a' w'/\Arrives P (lone (b.at a (.inLoop c::k)) cs w) b k cs e a' w'
def IA{P:Program}{c:Code}{Q:Exit->Act->World->Prop}{a:Act}{w:World}(h:c.wp P (Exit.then (InL P c Q) Q) a w)(b:Frame)(k:aa Item)(cs:aa Frame):
  ∃e a' w',Q e a' w'/\Arrives P (lone (b.at a (.code c:: .inLoop c::k)) cs w) b k cs e a' w':=by
 obtain⟨e,a₁,w₁,hq,harr⟩:=h b (.inLoop c::k) cs;cases e with
 |normal=>
  obtain⟨e₂,a₂,w₂,hq₂,harr₂⟩:=hq b k cs;exact⟨e₂,a₂,w₂,hq₂, .of_steps harr harr₂⟩
 |exit id=>exact⟨_,a₁,w₁,hq, .pass (x:= .inLoop c) rfl (λ_ _=> .inl (by simp)) harr⟩
 |goto l=>exact⟨_,a₁,w₁,hq, .pass (x:= .inLoop c) rfl (λ_ _=> .inl (by simp)) harr⟩
 |ret=>exact⟨_,a₁,w₁,hq, .pass (x:= .inLoop c) rfl (λ_ _=> .inl (by simp)) harr⟩
 |panic ch=>exact⟨_,a₁,w₁,hq, .pass (x:= .inLoop c) rfl (λ_ _=> .inl (by simp)) harr⟩
 |outgrown=>exact⟨_,a₁,w₁,hq, .pass (x:= .inLoop c) rfl (λ_ _=> .inl (by simp)) harr⟩
def Il{P:Program}{c:Code}{Q:Exit->Act->World->Prop}{a:Act}{w:World}(h:c.wp P (Exit.then (InL P c Q) Q) a w):(Code.loop c).wp P Q a w:=λb k cs=>
 let ⟨e,a',w',hq,harr⟩:=IA h b k cs
 ⟨e,a',w',hq, .of_steps (.one step_loop) harr⟩
def P3{P:Program}{c:Code}{Q:Exit->Act->World->Prop}{a:Act}{w:World}(h:c.wp P (Exit.then (InL P c Q) Q) a w):InL P c Q a w:=λb k cs=>
 let ⟨e,a',w',hq,harr⟩:=IA h b k cs
 ⟨e,a',w',hq, .of_steps (.one step_inLoop) harr⟩
section
variable {α:Type} {r:α} {P:Program} {F:aT} {C:Cx} {n:Nat}
abbrev gz(α:Type):=Exit->St->af α
def Qv(k:gz α)(ih:St->af α):gz α:=λe s=>match e with
 | .normal=>ih s
 |e=>k e s
def FP(b:St->gz α->af α)(k:gz α)(m:Nat):St->af α:=Nat.rec (λ_=>J) (λ_ ih s=>b s (Qv k ih)) m
def afY(b:Bool)(t:Nat)(s:St)(x y:St->af α):af α:=match b with
 |true=>x (s.gq t Z)
 |false=>y (s.gq t O)
def pZ(c:Operand)(s:St)(x y:St->af α):af α:=match c with
 | .tmp t=>match cF s.E t with
  |some (.lit (.bool b))=>afY b t s x y
  |_=>J
 | .const (.bool Z)=>x s
 | .const (.bool O)=>y s
 |_=>J
def amo(y:St->gz α->af α)(k:gz α):gz α:=λe s=>match e with
 | .normal=>y s k
 |e=>k e s
def pF(id:Nat)(k:gz α):gz α:=λe s=>match e with
 | .exit i=>match zg i id with
  |true=>k .normal s
  |false=>k (.exit i) s
 |e=>k e s
def agG(s:St)(k:gz α):af α:=k .normal s
def aAT(x y:St->gz α->af α)(s:St)(k:gz α):af α:=x s (amo y k)
def at9(c:Operand)(x y:St->gz α->af α)(s:St)(k:gz α):af α:=pZ c s (λs=>x s k) (λs=>y s k)
def ams(id:Nat)(x:St->gz α->af α)(s:St)(k:gz α):af α:=x s (pF id k)
def ab0(fuel:Nat)(x:St->gz α->af α)(s:St)(k:gz α):af α:=FP x k fuel s
def agJ(i:Nat)(s:St)(k:gz α):af α:=k (.exit i) s
def aph(s:St)(k:gz α):af α:=k .ret s
def JL(_:St)(_:gz α):af α:=J
def ahu(P:Program)(s:St):ResultVar->af AV
 | .tmp t=>cF s.E t
 | .cell t ty=>match cF s.E t with
  |some (.ptr id 0)=>match gj s.R id with
   |some (.box _ cs)=>match Hq P ty with
    |true=>cs[0]?
    |false=>match Vb P ty with
     |some m=>match zg (zZ cs) m with
      |true=>M (.agg cs)
      |false=>J
     |none=>J
   |_=>J
  |_=>J
def HG(P:Program)(s:St):aa ResultVar->af (aa AV)
 |[]=>M []
 |x::xs=>match ahu P s x with
  |some d=>(HG P s xs).map λds=>d::ds
  |none=>J
def iK:aa AV->AV
 |[d]=>d
 |ds=> .iF ds
def jY:Nat->AV->aa Nat
 |_, .own id=>[id]
 |_, .ptr id _=>[id]
 |_, .ra id _ _ _=>[id]
 |n+1, .agg cs=>cs.flatMap (jY n)
 |n+1, .iF cs=>cs.flatMap (jY n)
 |n+1, .fn _ cs=>cs.flatMap (jY n)
 |_,_=>[]
def cS(i:Nat):aa Nat->Bool
 |[]=>O
 |j::js=>match zg i j with
  |true=>Z
  |false=>cS i js
def aJz(R:aS)(ids:aa Nat):aa Nat:=ids.flatMap λi=>match gj R i with
 |some (.box _ cs)=>cs.flatMap (jY 3)
 |_=>[]
def reach(R:aS):Nat->aa Nat->aa Nat
 |0,ids=>ids
 |m+1,ids=>ids++reach R m (aJz R ids)
def PT(nx:Nat)(ids:aa Nat)(R:aS):aS:=List.rec [] (λp R ih=>Bool.rec (Bool.rec ih (p::ih) (cS p.1 ids)) (p::R) (zB p.1 nx)) R
def sI(R:aS)(nx:Nat)(d:AV):aS:=PT nx (reach R 3 (jY 3 d++zy nx)) R
def Qn(R:aS)(nx:Nat)(d:AV)(xs:aa AV):aS:=PT nx (reach R 3 (jY 3 d++xs.flatMap (jY 3))) R
def NI(i:Nat)(l:aa AV):ET->ET:=List.rec (λ_ T=>T) (λd _ ih i T=>ih (i+1) (ig i d T)) l i
end
end Go.Iv
namespace Go.Iv
variable [U:HB]
open Go Go.RowKit
abbrev Fr:Type:=Nat->af AV
structure Ins where
 id:Nat
 n:Int
 v:AV
def oV(n:Int)(v:AV)(es:aa (AV×AV)):aa (AV×AV):=es++[(.lit (.int .i64 n),v)]
inductive PM:aS->aS->Prop
 |perm {R R':aS} (h:List.Perm R R'):PM R R'
 |XG {R1 R2:aS} {i:Nat} {es es':List (AV×AV)} (h:List.Perm es es'):PM (R1++(i, .mp es)::R2) (R1++(i, .mp es')::R2)
 |trans {R R' R'':aS} (h:PM R R') (h':PM R' R''):PM R R''
def PM.refl(R:aS):PM R R:= .perm (.refl _)
def PM.symm{R R':aS}(h:PM R R'):PM R' R:=by
 induction h with
 |perm h=>exact .perm h.symm
 |XG h=>exact .XG h.symm
 |trans _ _ a b=>exact b.trans a
def PM.append_left{R R':aS}(L:aS)(h:PM R R'):PM (L++R) (L++R'):=by
 induction h with
 |perm h=>exact .perm (h.append_left L)
 |@XG R1 R2 i es es' h=>
  rw[<-xk,<-xk];exact .XG h
 |trans _ _ a b=>exact a.trans b
def PM.filter{R R':aS}(p:Nat->Bool)(h:PM R R'):PM (R.filter λq=>p q.1) (R'.filter λq=>p q.1):=by
 induction h with
 |perm h=>exact .perm (h.filter _)
 |@XG R1 R2 i es es' h=>
  rw[yj,yj,yZ,yZ];cases hp:p i with
  |true=>simp only;exact .XG h
  |false=>exact .refl _
 |trans _ _ a b=>exact a.trans b
def gN(s:Ins)(q:Nat×IR):Nat×IR:=match zg q.1 s.id with
 |true=>match q.2 with
  | .mp es=>(q.1, .mp (oV s.n s.v es))
  |_=>q
 |false=>q
def iW(s:Ins)(R:aS):aS:=R.map (gN s)
def QN(s:Ins)(q:Nat×IR):(gN s q).1=q.1:=by
 unfold gN;grind
def kj{s:Ins}{q:Nat×IR}(h:q.1≠s.id):gN s q=q:=by
 unfold gN;split
 ·simp_all
 ·rfl
def ku{s:Ins}{i:Nat}{es:aa (AV×AV)}(h:i=s.id):gN s (i, .mp es)=(i, .mp (oV s.n s.v es)):=by
 subst h;unfold gN;simp
def GW(s:Ins){i T:Nat}{cs:aa AV}:gN s (i, .box T cs)=(i, .box T cs):=by unfold gN;split<;>rfl
def ER(s:Ins){i t:Nat}{l:aa (U.cQ t)}:gN s (i, .row t l)=(i, .row t l):=by unfold gN;split<;>rfl
def Jq(s:Ins){i:Nat}{k:KK}{e:VK}{l:aa (k.T×e.T)}:gN s (i, .md k e l)=(i, .md k e l):=by unfold gN;split<;>rfl
def Zz{s s':Ins}(q:Nat×IR):gN s (gN s' q)=gN s' (gN s q)\/∃es es',List.Perm es es'/\gN s (gN s' q)=(q.1, .mp es)/\gN s' (gN s q)=(q.1, .mp es'):=by
 obtain⟨i,r⟩:=q;cases r with
 |box T cs=>left;rw[GW,GW,GW]
 |row t l=>left;rw[ER,ER,ER]
 |md k e l=>left;rw[Jq,Jq,Jq]
 |mp es=>
  by_cases h1:i=s.id
  ·by_cases h2:i=s'.id
   ·right;refine⟨oV s.n s.v (oV s'.n s'.v es),oV s'.n s'.v (oV s.n s.v es),?_,by rw[ku h2,ku h1],by rw[ku h1,ku h2]⟩;unfold oV;rw[xk,xk];exact List.Perm.append_left _ wU
   ·left;rw[kj (s:=s') (q:=(i, .mp es)) h2,kj (s:=s') (by rw[QN];exact h2)]
  ·left;rw[kj (s:=s) (q:=(i, .mp es)) h1,kj (s:=s) (by rw[QN];exact h1)]
def H7(s s':Ins):∀R:aS,PM ((R.map (gN s')).map (gN s)) ((R.map (gN s)).map (gN s'))
 |[]=> .refl _
 |q::R=>by
  have ih:=H7 s s' R;simp only[zI];rcases Zz (s:=s) (s':=s') q with h|⟨es,es',h1,h2,h3⟩
  ·rw[h];exact ih.append_left [_]
  ·rw[h2,h3];exact(PM.XG (R1:=[]) h1).trans (ih.append_left [_])
def akG(s:Ins){R R':aS}(h:PM R R'):PM (R.map (gN s)) (R'.map (gN s)):=by
 induction h with
 |perm h=>exact .perm (h.map _)
 |@XG R1 R2 i es es' h=>
  rw[zH,zH,zI,zI];by_cases hi:i=s.id
  ·rw[ku hi,ku hi];exact .XG (h.append_right _)
  ·rw[kj (q:=(i, .mp es)) hi,kj (q:=(i, .mp es')) hi];exact .XG h
 |trans _ _ a b=>exact a.trans b
structure Rc where
 dst:Option Nat
 v:AV
 (sl rd wr:List Nat)
 ef:Bool
 Lo:aS
 ins:Option Ins
def fm(rd:aa Nat)(R:aS):aS:=R.filter λp=> !cS p.1 rd
def gm(rd:aa Nat)(R:aS):aS:=R.filter λp=>cS p.1 rd
def Rc.F(c:Rc)(f:Fr):Fr:=λt=>if c.dst=M t then M c.v else f t
def Rc.R(c:Rc)(R:aS):aS:=match c.ins with
 |some s=>iW s R
 |none=>match c.ef with
  |true=>c.Lo++fm c.wr R
  |false=>R
def jU(s:Ins)(p:Nat->Bool)(R:aS):(iW s R).filter (λq=>p q.1)=iW s (R.filter λq=>p q.1):=by
 unfold iW;rw[List.filter_map]
 congr 1
 refine wv λq _=> ?_;show p (gN s q).1=p q.1;rw[QN]
def BX{s:Ins}{R:aS}(h:∀q∈R,q.1≠s.id):iW s R=R:=by
 conv=>rhs;rw[<-List.map_id R]
 exact zV λq hq=>kj (h q hq)
def gL:aa Rc->aa Bool->Fr->Fr
 |c::cs,b::bs,f=>gL cs bs (match b with|Z=>c.F f|O=>f)
 |_,_,f=>f
def eD:aa Rc->aa Bool->aS->aS
 |c::cs,b::bs,R=>eD cs bs (match b with|Z=>c.R R|O=>R)
 |_,_,R=>R
def dN{i:Nat}:∀{l:aa Nat},cS i l=Z↔i∈l
 |[]=>by simp[cS]
 |j::js=>by
  unfold cS;cases h:zg i j with
  |true=>have:=fL h;subst this;simp
  |false=>
   have hne:i≠j:=λe=>by rw[e,yQ]at h;cases h
   simp only[zk,hne,false_or];exact dN
def gJ{i:Nat}{l:aa Nat}:cS i l=O↔i∉l:=by
 cases h:cS i l with
 |true=>simp[dN.1 h]
 |false=>simp only[true_iff];exact λhm=>by rw[dN.2 hm]at h;cases h
structure CF (c d:Rc):Prop where
 ds:∀t,c.dst=M t->t∉d.sl/\d.dst≠M t
 sd:∀t,d.dst=M t->t∉c.sl
 rc:c.ef=Z->(∀i∈c.wr,i∉d.rd)/\(∀p∈c.Lo,p.1∉d.rd)/\∀p∈c.Lo,p.1∉d.wr
 rd:d.ef=Z->(∀i∈d.wr,i∉c.rd)/\(∀p∈d.Lo,p.1∉c.rd)/\∀p∈d.Lo,p.1∉c.wr
 ic:∀s,c.ins=M s->s.id∉d.rd/\s.id∉d.wr/\(∀p∈d.Lo,p.1≠s.id)/\∀s',d.ins=M s'->s.id=s'.id->s.n≠s'.n
 id:∀s,d.ins=M s->s.id∉c.rd/\s.id∉c.wr/\(∀p∈c.Lo,p.1≠s.id)/\∀s',c.ins=M s'->s.id=s'.id->s.n≠s'.n
def CF.symm{c d:Rc}(h:CF c d):CF d c:=⟨λt ht=>⟨h.sd t ht,λe=>(h.ds t e).2 ht⟩,λt ht=>(h.ds t ht).1,h.rd,h.rc,h.id,h.ic⟩
def aKE{c i:Rc}(h:CF c i)(R:aS):gm i.rd (c.R R)=gm i.rd R:=by
 unfold Rc.R;cases hi:c.ins with
 |some s=>
  show (iW s R).filter _=_;rw[jU s (λj=>cS j i.rd),BX]
  ·rfl
  ·intro q hq e;have:=(zW.1 hq).2;rw[e]at this;exact(h.ic s hi).1 (dN.1 this)
 |none=>
 cases he:c.ef with
 |false=>rfl
 |true=>
  obtain⟨h1,h2,_⟩:=h.rc he;simp only[gm,fm,yj,xL];have e1:c.Lo.filter (λp=>cS p.1 i.rd)=[]:=wL.2 λp hp=>by simp[gJ.2 (h2 p hp)]
  rw[e1,yl];refine wv λp _=> ?_;cases hm:cS p.1 i.rd with
  |false=>rfl
  |true=>
   have:cS p.1 c.wr=O:=gJ.2 λhc=>h1 _ hc (dN.1 hm);rw[this];rfl
def aIh{c i:Rc}(h:CF c i)(f:Fr){t:Nat}(ht:t∈i.sl):c.F f t=f t:=by
 unfold Rc.F;split
 ·rename_i hd;exact iy ht (h.ds t hd).1
 ·rfl
def aiO{c:Rc}{rd:aa Nat}{R R':aS}(h:gm rd R=gm rd R'):gm rd (c.R R)=gm rd (c.R R'):=by
 unfold Rc.R;cases c.ins with
 |some s=>
  show (iW s R).filter _=(iW s R').filter _;rw[jU s (λj=>cS j rd),jU s (λj=>cS j rd)];exact congrArg (iW s) h
 |none=>
 cases c.ef with
 |false=>exact h
 |true=>
  simp only[gm,fm,yj,xL]at h ⊢;have e:∀R:aS,R.filter (λp=>cS p.1 rd&& !cS p.1 c.wr)=(R.filter λp=>cS p.1 rd).filter λp=> !cS p.1 c.wr:=λR=>by
   rw[xL];grind
  rw[e,e,h]
def Seen(s:Ins)(R:aS):Prop:=∃es,gm [s.id] R=[(s.id, .mp es)]/\∀e∈es,∃m,e.1= .lit (.int .i64 m)/\m≠s.n
def SR(s:Ins)(R R':aS):Prop:=(gm [s.id] R'=[]->gm [s.id] R=[])/\(Seen s R'->Seen s R)
def El{n:Int}{v:AV}{es:aa (AV×AV)}{e:AV×AV}:e∈oV n v es↔e∈es\/e=(.lit (.int .i64 n),v):=by
 unfold oV;simp
def C4(s:Ins)(i:Nat)(R:aS):gm [i] (iW s R)=iW s (gm [i] R):=jU s (λj=>cS j [i]) R
def aby{i:Nat}{R:aS}{q:Nat×IR}(h:q∈gm [i] R):q.1=i:=by
 have:=dN.1 (zW.1 h).2;simp_all
def MO{s:Ins}{R:aS}:iW s R=[]↔R=[]:=List.map_eq_nil_iff
def Seen.iW{s s':Ins}{R:aS}(h:Seen s R)(hn:s'.id=s.id->s'.n≠s.n):Seen s (iW s' R):=by
 obtain⟨es,h1,h2⟩:=h;unfold Seen;rw[C4,h1];by_cases hi:s'.id=s.id
 ·have hn:=hn hi;refine⟨oV s'.n s'.v es,?_,λe he=> ?_⟩
  ·show [gN s' (s.id, .mp es)]=_;rw[ku hi.symm]
  ·rcases El.1 he with he|rfl
   ·exact h2 e he
   ·exact⟨s'.n,rfl,hn⟩
 ·refine⟨es,?_,h2⟩;show [gN s' (s.id, .mp es)]=_;rw[kj (λe=>hi e.symm)]
def Seen.sub{s s':Ins}{R:aS}(h:Seen s (Iv.iW s' R)):Seen s R/\(s'.id=s.id->s'.n≠s.n):=by
 obtain⟨es,h1,h2⟩:=h;rw[C4]at h1;obtain⟨q,hq,h3⟩:∃q,gm [s.id] R=[q]/\gN s' q=(s.id, .mp es):=by
  cases hR:gm [s.id] R with
  |nil=>rw[hR]at h1;cases h1
  |cons q l=>
   rw[hR]at h1;simp only[Iv.iW,zI,List.cons.injEq,List.map_eq_nil_iff]at h1;exact⟨q,by rw[h1.2],h1.1⟩
 have hqi:q.1=s.id:=aby (by rw[hq];exact zA.2 rfl);obtain⟨i,r⟩:=q;subst hqi;by_cases hi:s'.id=s.id
 ·cases r with
  |mp fs=>
   rw[ku hi.symm]at h3;simp only[Prod.mk.injEq,true_and,IR.mp.injEq]at h3;subst h3;refine⟨⟨fs,hq,λe he=>h2 e (El.2 (.inl he))⟩,λ_=> ?_⟩;obtain⟨m,e1,e2⟩:=h2 _ (El.2 (.inr rfl));simp only[bU.lit.injEq,Value.int.injEq]at e1;omega
  |box T cs=>exfalso;unfold gN at h3;split at h3<;>simp at h3
  |row t l=>exfalso;unfold gN at h3;split at h3<;>simp at h3
  |md k e l=>exfalso;unfold gN at h3;split at h3<;>simp at h3
 ·rw[kj (λe=>hi e.symm)]at h3;exact⟨⟨es,by rw[hq,h3],h2⟩,λe=>iy e hi⟩
def SB(i:Nat)(R R':aS):gm [i] (R++R')=gm [i] R++gm [i] R':=yj ..
def D6{i:Nat}{wr:aa Nat}(R:aS)(h:i∈wr):gm [i] (fm wr R)=[]:=by
 unfold gm fm;rw[xL];refine wL.2 λq _=> ?_;intro hq;rw[zh]at hq;have:=dN.1 hq.1;simp only[zA]at this;rw[this,dN.2 h]at hq;grind
def tq{i:Nat}{wr:aa Nat}(R:aS)(h:i∉wr):gm [i] (fm wr R)=gm [i] R:=by
 unfold gm fm;rw[xL];refine wv λq _=> ?_;cases hm:cS q.1 [i]with
 |false=>rfl
 |true=>
  have:=dN.1 hm;simp only[zA]at this;rw[this,gJ.2 h];rfl
def SR.both{s:Ins}{c:Rc}{R R':aS}(h:SR s R R'):SR s (c.R R) (c.R R'):=by
 unfold Rc.R;cases c.ins with
 |some s'=>
  refine⟨λh1=> ?_,λh1=> ?_⟩
  ·dsimp only at h1 ⊢;rw[C4,MO]at h1 ⊢;exact h.1 h1
  ·obtain⟨h2,h3⟩:=Seen.sub h1;exact(h.2 h2).iW h3
 |none=>
 cases c.ef with
 |false=>exact h
 |true=>
  unfold SR Seen;rw[SB,SB];by_cases hi:s.id∈c.wr
  ·rw[D6 _ hi,D6 _ hi];simp
  ·rw[tq _ hi,tq _ hi];refine⟨λh1=> ?_,λ⟨es,h1,h2⟩=> ?_⟩
   ·rw[List.append_eq_nil_iff]at h1 ⊢;exact⟨h1.1,h.1 h1.2⟩
   ·rcases List.append_eq_singleton_iff.1 h1 with ⟨h3,h4⟩|⟨h3,h4⟩
    ·obtain⟨es',q1,q2⟩:=h.2 ⟨es,h4,h2⟩;exact⟨es',by rw[h3,q1];rfl,q2⟩
    ·exact⟨es,by rw[h3,h.1 h4];rfl,h2⟩
def SR.one{s:Ins}{c i:Rc}{R:aS}(h:CF c i)(hs:i.ins=M s):(gm [s.id] (c.R R)=[]↔gm [s.id] R=[])/\(Seen s (c.R R)↔Seen s R):=by
 obtain⟨h1,h2,h3,h4⟩:=h.id s hs;unfold Rc.R;cases hc:c.ins with
 |some s'=>
  refine⟨?_,λh=>(Seen.sub h).1,λh=>h.iW λe e2=>h4 s' hc e.symm e2.symm⟩;rw[C4,MO]
 |none=>
 cases c.ef with
 |false=>exact⟨.rfl, .rfl⟩
 |true=>
  have e1:gm [s.id] c.Lo=[]:=wL.2 λq hq hm=>h3 q hq (by simpa using dN.1 hm);unfold Seen;rw[SB,e1,yl,tq _ h2];simp
def LZ{i:Rc}:∀(cs:aa Rc) (bs bs':aa Bool) (f f':Fr) (R R':aS),zZ bs=zZ cs->zZ bs'=zZ cs->
  (∀(j:Nat) c b b',cs[j]? =M c->bs[j]? =M b->bs'[j]? =M b'->b=b'\/CF c i)->
  (∀t∈i.sl,f t=f' t)->gm i.rd R=gm i.rd R'->(∀s,i.ins=M s->SR s R R')->(∀t∈i.sl,gL cs bs f t=gL cs bs' f' t)/\gm i.rd (eD cs bs R)=gm i.rd (eD cs bs' R')/\∀s,i.ins=M s->SR s (eD cs bs R) (eD cs bs' R')
 |[],_,_,f,f',R,R',_,_,_,h1,h2,h3=>⟨by simpa [gL]using h1,by simpa [eD]using h2,by simpa [eD]using h3⟩
 |c::cs,[],_,_,_,_,_,hl,_,_,_,_,_=>by cases hl
 |c::cs,_::_,[],_,_,_,_,_,hl,_,_,_,_=>by cases hl
 |c::cs,b::bs,b'::bs',f,f',R,R',hl,hl',hb,h1,h2,h3=>by
  have h0:=hb 0 c b b' rfl rfl rfl;have hrec:=λf f' R R'=>LZ (i:=i) cs bs bs' f f' R R' (by simpa using hl) (by simpa using hl') (λj c b b' q1 q2 q3=>hb (j+1) c b b' q1 q2 q3);refine hrec _ _ _ _ ?_ ?_ ?_
  ·intro t ht;rcases h0 with rfl|hcf
   ·cases b with
    |false=>exact h1 t ht
    |true=>show c.F f t=c.F f' t;unfold Rc.F;split<;>first|rfl|exact h1 t ht
   ·cases b<;>cases b'<;>simp only[aIh hcf _ ht]<;>exact h1 t ht
  ·rcases h0 with rfl|hcf
   ·cases b with
    |false=>exact h2
    |true=>exact aiO h2
   ·cases b<;>cases b'<;>simp only[aKE hcf]<;>exact h2
  ·intro s hs;have h4:=h3 s hs;rcases h0 with rfl|hcf
   ·cases b with
    |false=>exact h4
    |true=>exact h4.both
   ·have o1:=SR.one (R:=R) hcf hs;have o2:=SR.one (R:=R') hcf hs;cases b<;>cases b'
    ·exact h4
    ·exact⟨λh=>h4.1 (o2.1.1 h),λh=>h4.2 (o2.2.1 h)⟩
    ·exact⟨λh=>o1.1.2 (h4.1 h),λh=>o1.2.2 (h4.2 h)⟩
    ·exact⟨λh=>o1.1.2 (h4.1 (o2.1.1 h)),λh=>o1.2.2 (h4.2 (o2.2.1 h))⟩
def awL{c d:Rc}(h:CF c d)(f:Fr):c.F (d.F f)=d.F (c.F f):=by
 funext t
 unfold Rc.F;by_cases h1:c.dst=M t
 ·rw[bO h1,bP (h.ds t h1).2,bO h1]
 ·simp_all
def awI{c:Rc}{R R':aS}(h:PM R R'):PM (c.R R) (c.R R'):=by
 unfold Rc.R;cases c.ins with
 |some s=>exact akG s h
 |none=>
 cases c.ef with
 |false=>exact h
 |true=>exact(h.filter (λj=> !cS j c.wr)).append_left _
def awg{c d:Rc}(h:CF c d)(R:aS):PM (c.R (d.R R)) (d.R (c.R R)):=by
 have one:∀{c d:Rc},CF c d->∀s,c.ins=M s->d.ins=J->PM (c.R (d.R R)) (d.R (c.R R)):=λ{c d} h s hs hd=>by
  unfold Rc.R;rw[hs,hd];dsimp only;cases he:d.ef with
  |false=>exact .refl _
  |true=>
   have e1:iW s (d.Lo++fm d.wr R)=iW s d.Lo++iW s (fm d.wr R):=zH ..;have e2:fm d.wr (iW s R)=iW s (fm d.wr R):=jU s (λj=> !cS j d.wr) R;rw[e1,e2,BX (h.ic s hs).2.2.1];exact .refl _
 cases hci:c.ins with
 |some s=>
  cases hdi:d.ins with
  |none=>exact one h s hci hdi
  |some s'=>
   unfold Rc.R;rw[hci,hdi];exact H7 s s' R
 |none=>
 cases hdi:d.ins with
 |some s=>exact(one h.symm s hdi hci).symm
 |none=>
 unfold Rc.R;rw[hci,hdi];cases hc:c.ef with
 |false=>cases d.ef<;>exact .refl _
 |true=>
  cases hd:d.ef with
  |false=>exact .refl _
  |true=>
   obtain⟨h1,_,h2⟩:=h.rc hc;obtain⟨h3,_,h4⟩:=h.rd hd;simp only[fm,yj,xL];have e1:d.Lo.filter (λp=> !cS p.1 c.wr)=d.Lo:=wu.2 λp hp=>by simp[gJ.2 (h4 p hp)]
   have e2:c.Lo.filter (λp=> !cS p.1 d.wr)=c.Lo:=wu.2 λp hp=>by simp[gJ.2 (h2 p hp)]
   rw[e1,e2,<-xk,<-xk];refine .perm ((wU).append ?_);rw[show (R.filter λa=> !cS a.1 c.wr&& !cS a.1 d.wr)=R.filter λa=> !cS a.1 d.wr&& !cS a.1 c.wr from wv λp _=>Bool.and_comm ..]
def late{i:Rc}:∀(cs:aa Rc) (bs:aa Bool) (f:Fr) (R R':aS),(∀(j:Nat) c,cs[j]? =M c->bs[j]? =M Z->CF i c)->PM R' (i.R R)->
  i.F (gL cs bs f)=gL cs bs (i.F f)/\PM (i.R (eD cs bs R)) (eD cs bs R')
 |[],_,f,R,R',_,hp=>⟨rfl,hp.symm⟩
 |_::_,[],f,R,R',_,hp=>⟨rfl,hp.symm⟩
 |c::cs,b::bs,f,R,R',hb,hp=>by
  unfold gL eD;cases b with
  |false=>exact late cs bs f R R' (λj c q1 q2=>hb (j+1) c q1 q2) hp
  |true=>
   have hcf:=hb 0 c rfl rfl;have h1:=late cs bs (c.F f) (c.R R) (c.R R') (λj c q1 q2=>hb (j+1) c q1 q2) ((awI hp).trans (awg hcf.symm R));refine⟨?_,h1.2⟩;rw[h1.1,awL hcf]
def FH:∀(pre:aa Rc) (bp:aa Bool) (cs:aa Rc) (bs:aa Bool) (f:Fr),zZ bp=zZ pre->gL (pre++cs) (bp++bs) f=gL cs bs (gL pre bp f)
 |[],[],_,_,_,_=>rfl
 |_::_,[],_,_,_,h=>by cases h
 |[],_::_,_,_,_,h=>by cases h
 |c::pre,b::bp,cs,bs,f,h=>by
  show gL (pre++cs) (bp++bs) _=_;rw[FH pre bp cs bs _ (by simpa using h)];rfl
def EZ:∀(pre:aa Rc) (bp:aa Bool) (cs:aa Rc) (bs:aa Bool) (R:aS),zZ bp=zZ pre->eD (pre++cs) (bp++bs) R=eD cs bs (eD pre bp R)
 |[],[],_,_,_,_=>rfl
 |_::_,[],_,_,_,h=>by cases h
 |[],_::_,_,_,_,h=>by cases h
 |c::pre,b::bp,cs,bs,R,h=>by
  show eD (pre++cs) (bp++bs) _=_;rw[EZ pre bp cs bs _ (by simpa using h)];rfl
def aew{cs:aa Rc}{bs:aa Bool}{i:Nat}{c:Rc}(f:Fr)(R:aS)(hl:zZ bs=zZ cs)(hc:cs[i]? =M c)(hb:bs[i]? =M O)
  (hpre:∀(j:Nat) d,j<i->cs[j]? =M d->bs[j]? =M O->CF d c) (hpost:∀(j:Nat) d,i<j->cs[j]? =M d->bs[j]? =M Z->CF d c):
  (∀t∈c.sl,gL cs bs f t=gL (cs.take i) (zq i Z) f t)/\gm c.rd (eD cs bs R)=gm c.rd (eD (cs.take i) (zq i Z) R)/\
  c.F (gL cs bs f)=gL cs (bs.set i Z) f/\PM (c.R (eD cs bs R)) (eD cs (bs.set i Z) R)/\∀s,c.ins=M s->Seen s (eD (cs.take i) (zq i Z) R)->Seen s (eD cs bs R):=by
 have hi:i<zZ cs:=(zU.1 hc).1;have hib:i<zZ bs:=aj;have ec:cs=cs.take i++c::cs.drop (i+1):=by
  rw[<-(zU.1 hc).2,<-yX hi,xT]
 have eb:bs=bs.take i++O::bs.drop (i+1):=by
  rw[<-(zU.1 hb).2,<-yX hib,xT]
 have lp:zZ (bs.take i)=zZ (cs.take i):=by rw[zL,zL];omega
 have eb2:bs.set i Z=bs.take i++Z::bs.drop (i+1):=by
  rw[wP,bO hib]
 have hF:gL cs bs f=gL (cs.drop (i+1)) (bs.drop (i+1)) (gL (cs.take i) (bs.take i) f):=by
  conv=>lhs;rw[ec,eb]
  rw[FH _ _ _ _ _ lp];rfl
 have hR:eD cs bs R=eD (cs.drop (i+1)) (bs.drop (i+1)) (eD (cs.take i) (bs.take i) R):=by
  conv=>lhs;rw[ec,eb]
  rw[EZ _ _ _ _ _ lp];rfl
 have hF2:gL cs (bs.set i Z) f=gL (cs.drop (i+1)) (bs.drop (i+1)) (c.F (gL (cs.take i) (bs.take i) f)):=by
  rw[eb2]
  conv=>lhs;rw[ec]
  rw[FH _ _ _ _ _ lp];rfl
 have hR2:eD cs (bs.set i Z) R=eD (cs.drop (i+1)) (bs.drop (i+1)) (c.R (eD (cs.take i) (bs.take i) R)):=by
  rw[eb2]
  conv=>lhs;rw[ec]
  rw[EZ _ _ _ _ _ lp];rfl
 have hpo:∀(j:Nat) d,(cs.drop (i+1))[j]? =M d->(bs.drop (i+1))[j]? =M Z->CF d c:=λj d q1 q2=>by
  rw[yK]at q1 q2;exact hpost (i+1+j) d aj q1 q2
 have v2:=LZ (i:=c) (cs.drop (i+1)) (bs.drop (i+1)) (zq (zZ cs-(i+1)) O) (gL (cs.take i) (bs.take i) f) (gL (cs.take i) (bs.take i) f) (eD (cs.take i) (bs.take i) R) (eD (cs.take i) (bs.take i) R)
  (by rw[zX,zX];omega) (by rw[yY,zX]) (λj d b b' q1 q2 q3=>by
   cases b with
   |true=>exact .inr (hpo j d q1 q2)
   |false=>
    rw[wW]at q3;split at q3
    ·cases q3;exact .inl rfl
    ·cases q3) (λt _=>rfl) rfl (λs _=>⟨λh=>h,λh=>h⟩)
 have none_F:∀(cs:aa Rc) (n:Nat) (f:Fr),gL cs (zq n O) f=f:=λcs=>by
  induction cs with
  |nil=>intro n f;rfl
  |cons d cs ih=>
   intro n f;cases n with
   |zero=>rfl
   |succ n=>rw[yM];exact ih n f
 have none_R:∀(cs:aa Rc) (n:Nat) (R:aS),eD cs (zq n O) R=R:=λcs=>by
  induction cs with
  |nil=>intro n f;rfl
  |cons d cs ih=>
   intro n f;cases n with
   |zero=>rfl
   |succ n=>rw[yM];exact ih n f
 have v1:=LZ (i:=c) (cs.take i) (bs.take i) (zq i Z) f f R R lp (by rw[yY,zL];omega) (λj d b b' q1 q2 q3=>by
   rw[yA]at q1 q2;rw[wW]at q3;split at q1
   ·rename_i hji;rw[bO hji]at q2 q3;cases q3;cases b with
    |true=>exact .inl rfl
    |false=>exact .inr (hpre j d hji q1 q2)
   ·cases q1) (λt _=>rfl) rfl (λs _=>⟨λh=>h,λh=>h⟩)
 refine⟨λt ht=> ?_,?_,?_,?_,λs hs h=> ?_⟩
 ·rw[hF,v2.1 t ht,none_F,v1.1 t ht]
 ·rw[hR,v2.2.1,none_R,v1.2.1]
 ·rw[hF,hF2];exact(late (i:=c) _ _ _ (eD (cs.take i) (bs.take i) R) _ (λj d q1 q2=>(hpo j d q1 q2).symm) (.refl _)).1
 ·rw[hR,hR2];exact(late (i:=c) _ _ (gL (cs.take i) (bs.take i) f) _ _ (λj d q1 q2=>(hpo j d q1 q2).symm) (.refl _)).2
 ·have e1:=v2.2.2 s hs;rw[none_R,<-hR]at e1;exact e1.2 ((v1.2.2 s hs).2 h)
end Go.Iv
namespace Go.Iv
variable [U:HB] [L:Ho]
open Go Go.RowKit
def lm(l:aa Nat):Nat:=List.rec 0 (λt _ ih=>Nat.lor ih (Nat.pow 2 t)) l
def Sm:∀(l:aa Nat) (t:Nat),(lm l).testBit t=Z↔t∈l
 |[],t=>by simp[lm]
 |a::l,t=>by
  show ((lm l)|||2^a).testBit t=Z↔_;rw[Nat.testBit_or,yO,Sm l t,Nat.testBit_two_pow];grind
def and_zero{x y t:Nat}(h:Nat.land x y=0)(hx:x.testBit t=Z)(hy:y.testBit t=Z):False:=by
 have:=Nat.testBit_and x y t;simp_all
def msk(acc:aa Nat)(es:aa Edge):Nat:=List.rec 0 (λe _ ih=>match Region.binds .any e with
 |true=>Nat.lor ih (Nat.lor (Nat.pow 2 e.on) (acc.getD e.on 0))
 |false=>ih) es
def KM{acc:aa Nat}:∀{es:aa Edge} {j:Nat},(msk acc es).testBit j=Z->∃e∈es,Region.binds .any e=Z/\(j=e.on\/(acc.getD e.on 0).testBit j=Z)
 |[],j,h=>by simp[msk]at h
 |e::es,j,h=>by
  change (match Region.binds .any e with
   |true=>Nat.lor (msk acc es) (Nat.lor (Nat.pow 2 e.on) (acc.getD e.on 0))
   |false=>msk acc es).testBit j=Z at h
  cases hb:Region.binds .any e with
  |false=>
   rw[hb]at h;obtain⟨e',h1,h2⟩:=KM h;exact⟨e',zM _ h1,h2⟩
  |true=>
   rw[hb]at h;change ((msk acc es)|||((2^e.on)|||(acc.getD e.on 0))).testBit j=Z at h;rw[Nat.testBit_or,Nat.testBit_or,yO,yO,Nat.testBit_two_pow]at h;rcases h with h|h|h
   ·obtain⟨e',h1,h2⟩:=KM h;exact⟨e',zM _ h1,h2⟩
   ·exact⟨e,zm,hb, .inl (by simp only[decide_eq_true_eq]at h;exact h.symm)⟩
   ·exact⟨e,zm,hb, .inr h⟩
def Qm(l:aa Oper):aa Nat->aa Nat:=List.rec (λacc=>acc) (λo _ ih acc=>ih (acc++[msk acc o.after.toList])) l
def Rdy(bs:aa Bool)(o:Oper):Prop:=∀e∈o.after.toList,Region.binds .any e=Z->bs[e.on]? =M Z
def GK(ops:aa Oper)(bs:aa Bool):Prop:=∀(i:Nat) o,ops[i]? =M o->bs[i]? =M Z->Rdy bs o
def ahv(ops:aa Oper)(acc:aa Nat):Prop:=∀(i m:Nat) o,acc[i]? =M m->ops[i]? =M o->∀bs,GK ops bs->Rdy bs o->∀j,m.testBit j=Z->bs[j]? =M Z
def VB(ops:aa Oper):∀(l:aa Oper) (acc:aa Nat),(∃pre,ops=pre++l/\zZ pre=zZ acc)->ahv ops acc->ahv ops (Qm l acc)
 |[],acc,_,h=>h
 |o::l,acc,⟨pre,hp,hl⟩,h=>by
  refine VB ops l _ ⟨pre++[o],by rw[hp];simp,by simp[hl]⟩ λi m o' hm ho bs hc hr j hj=> ?_;rw[yJ]at hm;split at hm
  ·exact h i m o' hm ho bs hc hr j hj
  ·rename_i hlt;have hi:i=zZ acc:=by
    have:=(zU.1 hm).1;simp at this;omega
   subst hi;rw[xb]at hm;cases hm;have ho':o'=o:=by
    simp_all
   subst ho';obtain⟨e,h1,h2,h3⟩:=KM hj;have h4:=hr e h1 h2;rcases h3 with rfl|h3
   ·exact h4
   ·cases ha:acc[e.on]? with
    |none=>rw[wA,ha]at h3;simp at h3
    |some m'=>
     rw[wA,ha]at h3;have hlt':=(zU.1 ha).1;cases hoe:ops[e.on]? with
     |none=>
      rw[List.getElem?_eq_none_iff,hp,zu]at hoe;omega
     |some oe=>exact h e.on m' oe ha hoe bs hc (hc e.on oe hoe h4) j h3
def aAz:Operand->aa Nat
 | .tmp t=>[t]
 |_=>[]
def apF(ops:Array Oper)(o:Oper):aa Nat:=match o.guard with
 |none=>[]
 |some (j,_)=>match (ops[j]?).bind (·.dst)with
  |some t=>[t]
  |none=>[]
def ct(ops:Array Oper)(o:Oper):aa Nat:=o.op.operands.toList.flatMap aAz++apF ops o
def efk(o:Oper):Bool:=match o.op with
 | .store _ _ _=>Z
 | .buildSlice _ _ _=>Z
 | .makeSlice _ _ _=>Z
 | .alloc _=>Z
 | .box _ _=>Z
 | .makeMap _ _=>Z
 | .mapUpdate _ _ _ _=>Z
 | .insert _ _ _ _=>Z
 | .slice _ _ _ _ _=>Z
 | .call {callee:= .builtin .len, ..}=>O
 | .call {callee:= .builtin .max, ..}=>O
 | .call {callee:= .builtin .min, ..}=>O
 | .call _=>Z
 |_=>O
def dmk:af Nat->Nat
 |none=>0
 |some t=>Nat.pow 2 t
def Dh{d:af Nat}{t:Nat}(h:d=M t):(dmk d).testBit t=Z:=by
 subst h;show (2^t).testBit t=Z;simp
structure Sk where
 (anc sm dm:Nat)
 ef:Bool
def ZR(j:Nat)(a b:Sk):Bool:=b.anc.testBit j||(zg (Nat.land a.dm b.sm) 0&&zg (Nat.land a.dm b.dm) 0&&zg (Nat.land b.dm a.sm) 0)
def Xl(b:Sk)(i:Nat)(l:aa Sk):Nat->af (aa (Nat×Nat)):=List.rec (λ_=>M []) (λa _ ih j=>match ZR j a b with
 |true=>match !b.anc.testBit j&&(a.ef||b.ef)with
  |true=>(ih (j+1)).map λps=>(j,i)::ps
  |false=>ih (j+1)
 |false=>J) l
def arz(l:aa Sk):aa Sk->Nat->af (aa (Nat×Nat)):=List.rec (λ_ _=>M []) (λb _ ih pre i=>(Xl b i pre 0).bind λps=>(ih (pre++[b]) (i+1)).map λqs=>ps++qs) l
def DH{b:Sk}{i:Nat}:∀{l:aa Sk} {k:Nat} {ps:aa (Nat×Nat)},Xl b i l k=M ps->∀(j:Nat) a,l[j]? =M a->ZR (k+j) a b=Z/\(b.anc.testBit (k+j)=Z\/(a.ef||b.ef)=O\/(k+j,i)∈ps)
 |[],k,ps,_,j,a,h=>by cases h
 |a0::l,k,ps,hs,j,a,h=>by
  change (match ZR k a0 b with
   |true=>match !b.anc.testBit k&&(a0.ef||b.ef)with
    |true=>(Xl b i l (k+1)).map λps=>(k,i)::ps
    |false=>Xl b i l (k+1)
   |false=>J)=M ps at hs
  cases h0:ZR k a0 b with
  |false=>rw[h0]at hs;cases hs
  |true=>
   rw[h0]at hs;cases h1:(!b.anc.testBit k&&(a0.ef||b.ef))with
   |true=>
    rw[h1]at hs;obtain⟨ps',h2,rfl⟩:=zj.1 hs;cases j with
    |zero=>cases h;exact⟨h0, .inr (.inr zm)⟩
    |succ j=>
     obtain⟨h3,h4⟩:=DH h2 j a h;rw[show k+1+j=k+(j+1)from aj]at h3 h4;exact⟨h3,h4.imp id (λh=>h.imp id λh=>zM _ h)⟩
   |false=>
    rw[h1]at hs;cases j with
    |zero=>
     cases h;refine⟨h0,?_⟩;cases hb:b.anc.testBit k with
     |true=>exact .inl rfl
     |false=>rw[hb]at h1;exact .inr (.inl (by simpa using h1))
    |succ j=>
     obtain⟨h3,h4⟩:=DH hs j a h;rw[show k+1+j=k+(j+1)from aj]at h3 h4;exact⟨h3,h4⟩
def M8:∀{l pre:aa Sk} {k:Nat} {ps:aa (Nat×Nat)},arz l pre k=M ps->zZ pre=k->∀(i j:Nat) a b,j<i->k<=i->(pre++l)[j]? =M a->(pre++l)[i]? =M b->ZR j a b=Z/\(b.anc.testBit j=Z\/(a.ef||b.ef)=O\/(j,i)∈ps)
 |[],pre,k,ps,_,hk,i,j,a,b,_,hki,_,hb=>by
  rw[yN]at hb;have:=(zU.1 hb).1;omega
 |b0::l,pre,k,ps,hs,hk,i,j,a,b,hji,hki,ha,hb=>by
  obtain⟨p1,h1,hs⟩:=zl.1 hs;obtain⟨p2,h2,rfl⟩:=zj.1 hs;by_cases hik:i=k
  ·subst hik;rw[wK aj,hk,xb]at hb;cases hb;rw[wH aj]at ha;have:=DH h1 j a ha;rw[zY]at this;exact⟨this.1,this.2.imp id λh=>h.imp id λh=>ye _ h⟩
  ·have h3:=M8 h2 (by simp[hk]) i j a b hji aj (by simpa using ha) (by simpa using hb);exact⟨h3.1,h3.2.imp id λh=>h.imp id λh=>ym _ h⟩
def aFT(ops:Array Oper)(l:aa Oper):aa Nat->aa Sk:=List.rec (λ_=>[]) (λo _ ih ms=>match ms with
 |m::ms=>⟨m,lm (ct ops o),dmk o.dst,efk o⟩::ih ms
 |[]=>[]) l
def plan(ops:Array Oper):af (aa (Nat×Nat)):=arz (aFT ops ops.toList (Qm ops.toList [])) [] 0
def ahB(l:aa Oper):∀acc:aa Nat,zZ (Qm l acc)=zZ acc+zZ l:=by
 induction l with
 |nil=>intro acc;rfl
 |cons o l ih=>intro acc;show zZ (Qm l (acc++[_]))=_;rw[ih];simp;omega
def FU(ops:Array Oper):∀(l:aa Oper) (ms:aa Nat) (i:Nat) (o:Oper) (m:Nat),l[i]? =M o->ms[i]? =M m->(aFT ops l ms)[i]? =M ⟨m,lm (ct ops o),dmk o.dst,efk o⟩
 |[],_,_,_,_,h,_=>by cases h
 |o0::l,[],_,_,_,_,h=>by cases h
 |o0::l,m0::ms,i,o,m,h1,h2=>by
  cases i with
  |zero=>cases h1;cases h2;rfl
  |succ i=>exact FU ops l ms i o m h1 h2
def ajk(xs:aa Nat)(Lo:aS)(ys:aa Nat):Bool:=xs.all (λi=> !cS i ys)&&Lo.all λp=> !cS p.1 ys
def aj8(c d:Rc):Bool:=match c.ins with
 |none=>Z
 |some s=>match !cS s.id d.rd&& !cS s.id d.wr&&(d.Lo.all λp=> !zg p.1 s.id)with
  |true=>match d.ins with
   |none=>Z
   |some s'=>match zg s.id s'.id with
    |true=> !w9 (s.n=s'.n)
    |false=>Z
  |false=>O
def Vp{c d:Rc}(h:aj8 c d=Z):∀s,c.ins=M s->s.id∉d.rd/\s.id∉d.wr/\(∀p∈d.Lo,p.1≠s.id)/\∀s',d.ins=M s'->s.id=s'.id->s.n≠s'.n:=λs hs=>by
 unfold aj8 at h;rw[hs]at h;dsimp only at h;split at h
 case h_2=>cases h
 rename_i h0;simp only[zh,Bool.not_eq_true']at h0;obtain⟨⟨h1,h2⟩,h3⟩:=h0;refine⟨gJ.1 h1,gJ.1 h2,λp hp e=> ?_,λs' hs' he hn=> ?_⟩
 ·have:=zn.1 h3 p hp;rw[e,yQ]at this;cases this
 ·rw[hs']at h;dsimp only at h;rw[he,hn,yQ]at h;simp at h
def cfD(c d:Rc):Bool:=(!c.ef||ajk c.wr c.Lo d.rd)&&(!d.ef||ajk d.wr d.Lo c.rd)&&aj8 c d&&aj8 d c
def Mn(ps:aa (Nat×Nat))(cs:aa Rc):Bool:=List.rec Z (λp _ ih=>match cs[p.1]?,cs[p.2]? with
 |some c,M d=>match cfD c d with
  |true=>ih
  |false=>O
 |_,_=>O) ps
def IK{cs:aa Rc}:∀{ps:aa (Nat×Nat)},Mn ps cs=Z->∀p∈ps,(match cs[p.1]?,cs[p.2]? with
 |some c,M d=>cfD c d
 |_,_=>O)=Z
 |[],_,p,hp=>by cases hp
 |p0::ps,h,p,hp=>by
  change (match cs[p0.1]?,cs[p0.2]? with
   |some c,M d=>match cfD c d with
    |true=>Mn ps cs
    |false=>O
   |_,_=>O)=Z at h
  split at h
  ·rename_i c d hc hd;split at h
   ·rename_i h1;rcases zk.1 hp with rfl|hp
    ·rw[hc,hd];exact h1
    ·exact IK h p hp
   ·cases h
  ·cases h
def Up{xs ys:aa Nat}{Lo:aS}(h:ajk xs Lo ys=Z):(∀i∈xs,i∉ys)/\∀p∈Lo,p.1∉ys:=by
 unfold ajk at h;simp only[zh,zn,Bool.not_eq_true']at h;exact⟨λi hi=>gJ.1 (h.1 i hi),λp hp=>gJ.1 (h.2 p hp)⟩
def aky{ops:Array Oper}{ps:aa (Nat×Nat)}{cs:aa Rc}(hp:plan ops=M ps)(ho:Mn ps cs=Z)(hcs:∀(i:Nat) c,cs[i]? =M c->∃o,ops.toList[i]? =M o/\c.dst=o.dst/\c.sl=ct ops o/\(c.ef=Z->efk o=Z)/\(∀i∈c.wr,i∈c.rd)/\(c.ins≠J->efk o=Z))
  {i j:Nat} {c d:Rc} (hji:j<i) (hc:cs[j]? =M c) (hd:cs[i]? =M d):
  CF c d\/∀bs,GK ops.toList bs->(∀o,ops.toList[i]? =M o->Rdy bs o)->bs[j]? =M Z:=by
 obtain⟨o1,h1,h2,h3,h4,h5,h6⟩:=hcs j c hc;obtain⟨o2,g1,g2,g3,g4,g5,g6⟩:=hcs i d hd;have hl1:=(zU.1 h1).1;have hl2:=(zU.1 g1).1;have hml:zZ (Qm ops.toList [])=zZ ops.toList:=by rw[ahB];simp
 obtain⟨m1,hm1⟩:∃m,(Qm ops.toList [])[j]? =M m:=⟨_,zD (by rw[hml];exact hl1)⟩;obtain⟨m2,hm2⟩:∃m,(Qm ops.toList [])[i]? =M m:=⟨_,zD (by rw[hml];exact hl2)⟩;have s1:=FU ops ops.toList _ j o1 m1 h1 hm1;have s2:=FU ops ops.toList _ i o2 m2 g1 hm2;obtain⟨q1,q2⟩:=M8 hp rfl i j _ _ hji (yu _) s1 s2;have hmsk:ahv ops.toList (Qm ops.toList []):=VB ops.toList ops.toList [] ⟨[],rfl,rfl⟩ λi m o h=>by cases h
 by_cases ha:m2.testBit j=Z
 ·exact .inr λbs hcl hr=>hmsk i m2 o2 hm2 g1 bs hcl (hr o2 g1) j ha
 ·refine .inl ?_;have ha':m2.testBit j=O:=by simpa using ha
  unfold ZR at q1;simp only[ha',Bool.false_or,zh]at q1;obtain⟨⟨r1,r2⟩,r3⟩:=q1;have r1:=fL r1;have r2:=fL r2;have r3:=fL r3;have hdyn:((c.ef||d.ef)=O/\c.ins=J/\d.ins=J)\/cfD c d=Z:=by
   rcases q2 with q2|q2|q2
   ·exact iy q2 ha
   ·simp only[Bool.or_eq_false_iff]at q2;left;have e1:c.ef=O:=by
     simp_all
    have e2:d.ef=O:=by
     simp_all
    refine⟨by rw[e1,e2];rfl,?_,?_⟩
    ·cases hi:c.ins with
     |none=>rfl
     |some s=>have:=h6 (by rw[hi];simp);simp_all
    ·cases hi:d.ins with
     |none=>rfl
     |some s=>have:=g6 (by rw[hi];simp);simp_all
   ·right;have:=IK ho _ q2;simp only[hc,hd]at this;omega
  refine⟨λt ht=>⟨λhm=> ?_,λe=> ?_⟩,λt ht hm=> ?_,λhe=> ?_,λhe=> ?_,λs hs=> ?_,λs hs=> ?_⟩
  ·rw[h2]at ht;rw[g3]at hm;exact and_zero r1 (Dh ht) ((Sm _ _).2 hm)
  ·rw[h2]at ht;rw[g2]at e;exact and_zero r2 (Dh ht) (Dh e)
  ·rw[g2]at ht;rw[h3]at hm;exact and_zero r3 (Dh ht) ((Sm _ _).2 hm)
  ·rcases hdyn with h|h
   ·rw[he]at h;simp at h
   ·unfold cfD at h;simp only[he,zh,yO,Bool.not_eq_true']at h;have q:=Up (h.1.1.1.resolve_left (by simp));exact⟨q.1,q.2,λp hp hx=>q.2 p hp (g5 _ hx)⟩
  ·rcases hdyn with h|h
   ·rw[he]at h;simp at h
   ·unfold cfD at h;simp only[he,zh,yO,Bool.not_eq_true']at h;have q:=Up (h.1.1.2.resolve_left (by simp));exact⟨q.1,q.2,λp hp hx=>q.2 p hp (h5 _ hx)⟩
  ·rcases hdyn with h|h
   ·rw[h.2.1]at hs;cases hs
   ·unfold cfD at h;simp only[zh]at h;exact Vp h.1.2 s hs
  ·rcases hdyn with h|h
   ·rw[h.2.2]at hs;cases hs
   ·unfold cfD at h;simp only[zh]at h;exact Vp h.2 s hs
def IR.gV(p:Nat->Prop):IR->Prop
 | .box _ cs=>∀c∈cs,Iv.gV p c
 | .row _ _=>True
 | .mp _=>True
 | .md _ _ _=>True
def aS.gV(p:Nat->Prop)(R:aS):Prop:=∀q∈R,p q.1/\q.2.gV p
def IR.gV.mono{p q:Nat->Prop}{r:IR}(h:r.gV p)(hn:∀i,p i->q i):r.gV q:=by
 cases r with
 |box T cs=>exact λc hc=>(h c hc).mono hn
 |row t l=>trivial
 |mp es=>trivial
 |md k e l=>trivial
def aS.gV.mono{p q:Nat->Prop}{R:aS}(h:aS.gV p R)(hn:∀i,p i->q i):aS.gV q R:=λx hx=>⟨hn _ (h x hx).1,(h x hx).2.mono hn⟩
def aS.gV.res{p:Nat->Prop}{R:aS}{ρ ρ':Gh}(h:aS.gV p R)(ha:Ags p ρ ρ'):aS.res ρ R=aS.res ρ' R:=zV λq hq=>by
 obtain⟨h1,h2⟩:=h q hq;obtain⟨i,r⟩:=q;cases r with
 |box T cs=>simp only[IR.res];rw[(ha i h1).2,Iv.gV.aa0 h2 ha]
 |row t l=>simp only[IR.res];rw[(ha i h1).1]
 |mp es=>simp only[IR.res];rw[(ha i h1).1]
 |md k e l=>simp only[IR.res];rw[(ha i h1).1]
def aS.gV.perm{p:Nat->Prop}{R R':aS}(h:aS.gV p R)(hp:List.Perm R R'):aS.gV p R':=λq hq=>h q (hp.mem_iff.2 hq)
def aS.cE.lts{n:Nat}{R:aS}(h:aS.cE n R):aS.gV (λi=>i<n) R:=λq hq=>⟨(h q hq).1,by
 have:=(h q hq).2;cases hr:q.2 with
 |box T cs=>rw[hr]at this;exact this
 |row t l=>trivial
 |mp es=>trivial
 |md k e l=>trivial⟩
def aS.gV.oZ{n:Nat}{R:aS}(h:aS.gV (λi=>i<n) R):aS.cE n R:=λq hq=>⟨(h q hq).1,by
 have:=(h q hq).2;cases hr:q.2 with
 |box T cs=>rw[hr]at this;exact this
 |row t l=>trivial
 |mp es=>trivial
 |md k e l=>trivial⟩
def mJ(f:Fr)(sl:aa Nat):Env:=sl.filterMap λt=>(f t).map λd=>(t,d)
def FI{f:Fr}{t:Nat}{d:AV}:∀{sl:aa Nat},(mJ f sl).get t=M d->f t=M d
 |[],h=>by cases h
 |s::sl,h=>by
  unfold mJ at h;rw[xd]at h;cases hs:f s with
  |none=>
   rw[hs]at h;exact FI (sl:=sl) h
  |some e=>
   rw[hs]at h;simp only[z8]at h;unfold Env.get at h;cases hb:zg s t with
   |true=>
    simp_all
   |false=>
    rw[hb]at h;exact FI (sl:=sl) h
def Dw{f:Fr}{t:Nat}{d:AV}:∀{sl:aa Nat},t∈sl->f t=M d->(mJ f sl).get t=M d
 |[],h,_=>by cases h
 |s::sl,h,hf=>by
  unfold mJ;rw[xd];by_cases hst:s=t
  ·subst hst;rw[hf];exact Env.ew _ _ _
  ·have ht:t∈sl:=(zk.1 h).resolve_left λe=>hst e.symm;cases f s with
   |none=>exact Dw ht hf
   |some e=>simp only[z8];rw[Env.dH _ _ hst];exact Dw ht hf
def F5{f g:Fr}{sl:aa Nat}(h:∀t∈sl,f t=g t):mJ f sl=mJ g sl:=by
 unfold mJ;induction sl with
 |nil=>rfl
 |cons s sl ih=>
  rw[xd,xd,h s zm,ih λt ht=>h t (zM _ ht)]
section
variable {P:Program} {C:Cx} {n:Nat} {o:Oper}
def MtS(C:Cg)(n:Nat)(p:Nat->Prop)(f:Fr)(R:aS)(a:Act)(w:World):Prop:=∃(E:Env) (ρ:Gh),(∀t d,f t=M d->E.get t=M d)/\(∀q∈E,gV p q.2)/\aS.gV p R/\nc C.n C.ρ ρ/\lH C.C n (E.sub ρ) (aS.res ρ R) a w
def mO{ρ:Gh}{R R':aS}(h:List.Perm R R'):List.Perm (aS.res ρ R) (aS.res ρ R'):=h.map _
def fR{ρ:Gh}(R R':aS):aS.res ρ (R++R')=aS.res ρ R++aS.res ρ R':=zH ..
def MtS.perm{C:Cg}{p:Nat->Prop}{f:Fr}{R R':aS}{a:Act}{w:World}(h:MtS C n p f R a w)(hp:List.Perm R R'):MtS C n p f R' a w:=by
 obtain⟨E,ρ,h1,h2,h3,h5,h4⟩:=h;exact⟨E,ρ,h1,h2,h3.perm hp,h5,h4.perm (mO hp)⟩
def amU{ρ:Gh}{R R':aS}(h:PM R R'):List.Perm (bh (aS.res ρ R)) (bh (aS.res ρ R')):=by
 induction h with
 |perm h=>exact(h.map _).filterMap _
 |@XG R1 R2 i es es' h=>
  have:bh (aS.res ρ (R1++(i,IR.mp es)::R2))=bh (aS.res ρ (R1++(i,IR.mp es')::R2)):=by
   rw[fR,fR,fk,fk];rfl
  rw[this]
 |trans _ _ a b=>exact a.trans b
def Good.pm{C:Cx}{ρ:Gh}{R R':aS}{w:World}(h:PM R R'):Good C (aS.res ρ R) w->Good C (aS.res ρ R') w:=by
 induction h with
 |perm h=>exact λhg=>hg.perm (mO h)
 |@XG R1 R2 i es es' h=>
  intro hg;have hb:bh (aS.res ρ (R1++(i,IR.mp es)::R2))=bh (aS.res ρ (R1++(i,IR.mp es')::R2)):=by
   rw[fR,fR,fk,fk];rfl
  have hal:∀b,al C (aS.res ρ (R1++(i,IR.mp es)::R2)) b->al C (aS.res ρ (R1++(i,IR.mp es')::R2)) b:=λb hA=>⟨hA.1,by rw[<-hb];exact hA.2⟩;refine⟨hg.kept,λr hr=> ?_,by rw[<-hb];exact hg.BR,λb hx=>hg.own b (by rw[hb];exact hx)⟩;have key:∀r∈aS.res ρ (R1++(i,IR.mp es)::R2),r.ok (al C (aS.res ρ (R1++(i,IR.mp es')::R2))) w:=λr hr=>(hg.res r hr).mono (λb _ hA=>⟨hal b hA,rfl⟩) (λ_ _=>rfl);rw[fR]at hr;rcases zR.1 hr with hr|hr
  ·exact key r (by rw[fR];exact ye _ hr)
  ·rcases zk.1 hr with rfl|hr
   ·have:=key (.mp (ρ.v i) es) (by rw[fR];exact ym _ zm);obtain⟨b,ar,cl,h1,h2,fs,h3,h4⟩:=this;exact⟨b,ar,cl,h1,h2,fs,h3.trans h,h4⟩
   ·exact key r (by rw[fR];exact ym _ (zM _ hr))
 |trans _ _ a b=>exact λhg=>b (a hg)
def lH.pm{C:Cx}{n:Nat}{E:Env}{ρ:Gh}{R R':aS}{a:Act}{w:World}(h:PM R R')(hs:lH C n E (aS.res ρ R) a w):lH C n E (aS.res ρ R') a w:=by
 have hb:=amU (ρ:=ρ) h;have hm:∀b,b∈bh (aS.res ρ R')↔b∈bh (aS.res ρ R):=λb=>hb.symm.mem_iff;have hal:∀b,al C (aS.res ρ R) b->al C (aS.res ρ R') b:=λb hA=>⟨hA.1,λhx=>hA.2 ((hm b).1 hx)⟩;obtain⟨Ds,d1,d2,d3⟩:=hs.defers;exact⟨⟨Ds,d1,d2,λD hD=>by
  obtain⟨q1,q2,q3,q4⟩:=d3 D hD;exact⟨q1,q2,λhx=>q3 ((hm D).1 hx),q4⟩⟩,hs.size,λs av q=>by
  obtain⟨v,q1,q2⟩:=hs.slots s av q;exact⟨v,q1,q2.mono λb _ hA=>⟨hal b hA,rfl⟩⟩,hs.good.pm h⟩
def awU{p:Nat->Prop}{R R':aS}(h:PM R R'):aS.gV p R->aS.gV p R':=by
 induction h with
 |perm h=>exact λhp=>hp.perm h
 |@XG R1 R2 i es es' h=>
  intro hp q hq;rcases zR.1 hq with hq|hq
  ·exact hp q (ye _ hq)
  ·rcases zk.1 hq with rfl|hq
   ·exact⟨(hp (i, .mp es) (ym _ zm)).1,trivial⟩
   ·exact hp q (ym _ (zM _ hq))
 |trans _ _ a b=>exact λhp=>b (a hp)
def MtS.pm{C:Cg}{p:Nat->Prop}{f:Fr}{R R':aS}{a:Act}{w:World}(h:MtS C n p f R a w)(hp:PM R R'):MtS C n p f R' a w:=by
 obtain⟨E,ρ,h1,h2,h3,h5,h4⟩:=h;exact⟨E,ρ,h1,h2,awU hp h3,h5,h4.pm hp⟩
def Nlc(nx:Nat)(v:AV)(Ro:aS)(ρ:Gh):af AV->aa bM->Prop:=λa σ'=>∃ρ',nc nx ρ ρ'/\(a=M (v.sub ρ')\/a=J/\v= .lit undef)/\List.Perm σ' (aS.res ρ' Ro)
def aim{wr rd:aa Nat}(h:∀i∈wr,i∈rd)(R:aS):List.Perm (fm wr (gm rd R)++fm rd R) (fm wr R):=by
 have e1:fm wr (gm rd R)=(fm wr R).filter λp=>cS p.1 rd:=by
  simp only[fm,gm,xL];grind
 have e2:fm rd R=(fm wr R).filter λp=> !cS p.1 rd:=by
  simp only[fm,xL];refine wv λp _=> ?_;cases hm:cS p.1 rd with
  |true=>rfl
  |false=>
   have:cS p.1 wr=O:=gJ.2 λhw=>gJ.1 hm (h _ hw);rw[this];rfl
 rw[e1,e2];exact wX _ _
def abD{C:Cg}{p:Nat->Prop}{f:Fr}{R:aS}{a:Act}{w:World}{c:Rc}{nx nx':Nat}{Q:Exit->Act->World->Prop}{K':Act->World->Prop}
  (hci:c.ins=J) (hn:C.n<=nx) (hm:MtS C n p f R a w) (hdst:c.dst=o.dst) (hd:Nv n o.dst=Z) (hwr:∀i∈c.wr,i∈c.rd) (hloc:∀ρ C,Ye P ((mJ f c.sl).sub ρ) (aS.res ρ (gm c.rd R)) o C (Nlc nx c.v (match c.ef with|Z=>c.Lo++fm c.wr (gm c.rd R)|O=>gm c.rd R) ρ))
  (hp:∀i,p i->¬(nx<=i/\i<nx')) (hv:cE nx' c.v) (hLi:aS.cE nx (gm c.rd R)) (hLo:c.ef=Z->aS.cE nx' c.Lo)
  (hv':gV (λi=>p i\/(nx<=i/\i<nx')) c.v) (hLo':c.ef=Z->aS.gV (λi=>p i\/(nx<=i/\i<nx')) c.Lo)
  (hK:∀a' w',a'.defers=a.defers->MtS C n (λi=>p i\/(nx<=i/\i<nx')) (c.F f) (c.R R) a' w'->K' a' w'):o.wp P a w K' Q:=by
 obtain⟨E,ρ,h1,h2,h3,h0,hsim0⟩:=hm;have hpm:List.Perm (gm c.rd R++fm c.rd R) R:=wX _ _;have hsim:=hsim0.perm (mO (ρ:=ρ) hpm.symm);rw[fR]at hsim;generalize hσi:aS.res ρ (gm c.rd R)=σi at hsim;generalize hσr:aS.res ρ (fm c.rd R)=σr at hsim;have hg:=hsim.good;have hlt:∀b∈bh (σi++σr),b<w.heap.size:=λb hb=>by
  obtain⟨s,q1,q2⟩:=bE.1 hb;exact(hg.res s q1).lt q2
 have hal:∀b,al C.C (σi++σr) b->al ⟨w,al C.C (σi++σr),bh σi⟩ σi b:=λb hA=>⟨.inl hA,λhx=>hA.2 (bI.2 (.inl hx))⟩;have hgood:Good ⟨w,al C.C (σi++σr),bh σi⟩ σi w:=⟨Kp.refl _ _,λr hr=>(hg.res r (ye _ hr)).mono (λb _ hA=>⟨hal b hA,rfl⟩) (λ_ _=>rfl),by
  have:=hg.BR;rw[fk]at this;exact(yH.1 this).1,λb hb=> .inl hb⟩
 have hops:Qj (al ⟨w,al C.C (σi++σr),bh σi⟩ σi) w ((mJ f c.sl).sub ρ) a.eval:=λx u hx=>by
  rw[Env.Q4]at hx;obtain⟨d,hd1,rfl⟩:=zj.1 hx;have hE:E.ev x=M d:=by
   cases x with
   |tmp t=>exact h1 t d (FI hd1)
   |_=>exact hd1
  exact(hsim.slots.ops x (d.sub ρ) (by rw[Env.Q4,hE];rfl)).mono λb _ hA=>⟨hal b hA,rfl⟩
 have step:∀(ρ':Gh) (σo:aa bM) (w':World),nc nx ρ ρ'->List.Perm σo (aS.res ρ' (match c.ef with|Z=>c.Lo++fm c.wr (gm c.rd R)|O=>gm c.rd R))->Tr ⟨w,al C.C (σi++σr),bh σi⟩ (bh σi) σi w σo w'->
   ∃ρ'':Gh,nc C.n C.ρ ρ''/\c.v.sub ρ'=c.v.sub ρ''/\lH C.C n (E.sub ρ'') (aS.res ρ'' (c.R R)) a w'/\(∀b,b<w'.heap.size->al ⟨w,al C.C (σi++σr),bh σi⟩ σo b->al C.C (aS.res ρ'' (c.R R)) b):=λρ' σo w' ha hσo ht=>by
  let ρ'':Gh:=⟨λi=>if nx<=i/\i<nx' then ρ'.v i else ρ.v i,λi=>if nx<=i/\i<nx' then ρ'.b i else ρ.b i⟩
  have hag:Ags p ρ ρ'':=λi hi=>by
   have:=hp i hi;exact⟨by simp only[ρ'',bP this],by simp only[ρ'',bP this]⟩
  have hag2:nc nx' ρ' ρ'':=λi hi=>by
   by_cases hni:nx<=i
   ·exact⟨by simp only[ρ'',bO (And.intro hni hi)],by simp only[ρ'',bO (And.intro hni hi)]⟩
   ·have h0:¬(nx<=i/\i<nx'):=λh=>hni h.1;obtain⟨a1,a2⟩:=ha i aj;exact⟨by simp only[ρ'',bP h0];exact a1.symm,by simp only[ρ'',bP h0];exact a2.symm⟩
  have hnx:nx<=nx'\/nx'<nx:=aj;have hown:∀b∈bh σo,b∈bh σi\/w.heap.size<=b:=ht.good.own;have hsub:∀b,b<w'.heap.size->al ⟨w,al C.C (σi++σr),bh σi⟩ σo b->al C.C (σo++σr) b:=λb _ hb=>by
   obtain⟨hb1,hb2⟩:=hb;rcases hb1 with hb1|hb1|hb1
   ·exact⟨hb1.1,λhx=>(bI.1 hx).elim hb2 (λh=>hb1.2 (bI.2 (.inr h)))⟩
   ·have hbp:b∈bh σi:=hb1;refine⟨?_,λhx=>(bI.1 hx).elim hb2 (λh=> ?_)⟩
    ·rcases hg.own b (bI.2 (.inl hbp))with h|h
     ·simp_all
     ·omega
    ·have hdis:=hg.BR;rw[fk]at hdis;exact(yH.1 hdis).2.2 b hbp b h rfl
   ·have hbw:w.heap.size<=b:=hb1;exact⟨.inr (.inr (zK hg.kept.size hbw)),λhx=>(bI.1 hx).elim hb2 (λh=>by have:=hlt b (bI.2 (.inr h));omega)⟩
  have ht2:Tr C.C (bh σi) (σi++σr) w (σo++σr) w':=C8 hg (λb hA _=> .inl hA) ht (λr hr=>(ht.good.res r hr).mono (λb hb hA=>⟨hsub b hb hA,rfl⟩) (λ_ _=>rfl));have hs2:=hsim.tr ht2;have hout:aS.gV p (fm c.rd R):=λq hq=>h3 q (zW.1 hq).1;have hEs:E.sub ρ=E.sub ρ'':=zV λq hq=>by rw[(h2 q hq).sub hag]
  have hrs:σr=aS.res ρ'' (fm c.rd R):=by rw[<-hσr,hout.res hag]
  have hpo:List.Perm (σo++σr) (aS.res ρ'' (c.R R)):=by
   rw[hrs];unfold Rc.R;rw[hci];dsimp only;cases hce:c.ef with
   |true=>
    rw[hce]at hσo;simp only at hσo ⊢;have hin:aS.gV p (fm c.wr (gm c.rd R)):=λq hq=>h3 q (zW.1 (zW.1 hq).1).1;have hin2:aS.cE nx (fm c.wr (gm c.rd R)):=λq hq=>hLi q (zW.1 hq).1;have e1:aS.res ρ' (fm c.wr (gm c.rd R))=aS.res ρ'' (fm c.wr (gm c.rd R)):=by rw[<-hin2.res ha,hin.res hag]
    rw[fR,e1,(hLo hce).res hag2]at hσo;refine(hσo.append_right _).trans ?_;rw[xk,fR,<-fR (fm c.wr (gm c.rd R))];exact List.Perm.append_left _ (mO (aim hwr R))
   |false=>
    rw[hce]at hσo;have hin:aS.gV p (gm c.rd R):=λq hq=>h3 q (zW.1 hq).1;have e1:aS.res ρ' (gm c.rd R)=aS.res ρ'' (gm c.rd R):=by rw[<-hLi.res ha,hin.res hag]
    rw[e1]at hσo;refine(hσo.append_right _).trans ?_;rw[<-fR];exact mO hpm
  refine⟨ρ'',h0.trans (λi hi=>⟨by simp only[ρ'',bP (show ¬(nx<=i/\i<nx')by omega)],by simp only[ρ'',bP (show ¬(nx<=i/\i<nx')by omega)]⟩) (zx C.n),hv.sub hag2,by rw[<-hEs];exact hs2.perm hpo,λb hb hA=>Uv hpo b (hsub b hb hA)⟩
 have fin:∀(ρ':Gh) (σo:aa bM) (w':World) (v:Value),nc nx ρ ρ'->List.Perm σo (aS.res ρ' (match c.ef with|Z=>c.Lo++fm c.wr (gm c.rd R)|O=>gm c.rd R))->Tr ⟨w,al C.C (σi++σr),bh σi⟩ (bh σi) σi w σo w'->
   Rel (al ⟨w,al C.C (σi++σr),bh σi⟩ σo) w' (c.v.sub ρ') v->K' (a.put o.dst v) w':=λρ' σo w' v q1 q2 q3 q4=>by
  obtain⟨ρ'',g1,g2,g3,g4⟩:=step ρ' σo w' q1 q2 q3;have hR':aS.gV (λi=>p i\/(nx<=i/\i<nx')) (c.R R):=by
   unfold Rc.R;rw[hci];dsimp only;cases hce:c.ef with
   |false=>exact h3.mono λi hi=> .inl hi
   |true=>exact λq hq=>(zR.1 hq).elim (hLo' hce q) λhq=>⟨.inl (h3 q (zW.1 hq).1).1,(h3 q (zW.1 hq).1).2.mono λi hi=> .inl hi⟩
  refine hK _ _ (by cases o.dst<;>rfl) ?_;rw[g2]at q4;cases hdo:o.dst with
  |none=>exact⟨E,ρ'',λt d ht=>h1 t d (by unfold Rc.F at ht;rw[hdst,hdo]at ht;simpa using ht),λq hq=>(h2 q hq).mono λi hi=> .inl hi,hR',g1,g3⟩
  |some t=>
   refine⟨(t,c.v)::E,ρ'',λs d hs=> ?_,λq hq=> ?_,hR',g1,?_⟩
   ·unfold Rc.F at hs;rw[hdst,hdo]at hs;by_cases hts:t=s
    ·subst hts;rw[bO rfl]at hs;cases hs;exact Env.ew _ _ _
    ·rw[bP (λe=>hts (zJ.inj e))]at hs;rw[Env.dH _ _ hts];exact h1 s d hs
   ·rcases zk.1 hq with rfl|hq
    ·exact hv'
    ·exact(h2 q hq).mono λi hi=> .inl hi
   ·rw[hdo]at hd;exact g3.put hd (q4.mono λb hb hA=>⟨g4 b hb hA,rfl⟩)
 unfold Oper.wp;subst hσi;rcases hloc ρ _ w a.eval hgood hops with ⟨v,w',av,σ',⟨ρ',q1,q2,q3⟩,r1,r2,r3⟩|⟨w',σ',⟨ρ',q1,q2,q3⟩,r1,r2⟩|⟨g,args,r1,r2⟩
 ·rw[r2];rcases q2 with q2|⟨q2,_⟩
  ·cases q2;exact fin ρ' σ' w' v q1 q3 r1 r3
  ·cases q2
 ·rw[r2];rcases q2 with q2|⟨_,q2⟩
  ·cases q2
  ·exact fin ρ' σ' w' undef q1 q3 r1 (by rw[q2,bL];exact .lit _)
 ·rw[r1];refine Calls.mono r2 λee w' ⟨v,av,σ',q0,⟨ρ',q1,q2,q3⟩,s1,s2⟩=> ?_;subst q0;rcases q2 with q2|⟨q2,_⟩
  ·cases q2;exact fin ρ' σ' w' v q1 q3 s1 s2
  ·cases q2
end
section
variable {P:Program} {o:Oper} {C:Cx} {N:af AV->aa bM->Prop}
def Ye.YJ{E:Env}{R:aS}{ρ:Gh}{id t:Nat}{l:aa (U.cQ t)}(hr:gj R id=M (.row t l))
  (h:Ye P (Env.sub ρ (E.map λp=>(p.1,ow id t l 3 p.2))) (aS.res ρ ((j6 id R).map λp=>(p.1,ve id t l p.2))) o C N):Ye P (E.sub ρ) (aS.res ρ R) o C N:=λw S hg hρ=>by
 obtain⟨i,hi1,_,hi3⟩:=dG hr;have hres:=fB (ρ:=ρ) hi1;have hd:Hd (al C (aS.res ρ R)) [.row (ρ.v id) t l] w:=⟨λr hr=>by
   rw[zA]at hr;rw[hr];exact hg.res _ (List.mem_of_getElem? hres),λb hb hA=>hA.2 (by
   obtain⟨r,h1,h2⟩:=bE.1 hb;rw[zA]at h1;rw[h1]at h2;exact bE.2 ⟨_,List.mem_of_getElem? hres,h2⟩)⟩
 have hle:=F4 (C:=C) hres hg;have hbk:bh (aS.res ρ ((j6 id R).map λp=>(p.1,ve id t l p.2)))=bh ((aS.res ρ R).eraseIdx i):=by
  rw[<-AU,<-hi3];unfold bh aS.res;rw[yg,List.filterMap_map,List.filterMap_map]
  congr 1
  funext p
  obtain⟨q,rr⟩:=p;cases rr<;>rfl
 have hal:∀b,(al C (aS.res ρ R) b\/b∈bh [bM.row (ρ.v id) t l])->al C (aS.res ρ ((j6 id R).map λp=>(p.1,ve id t l p.2))) b:=λb hb=>by
  have:=hle b hb;exact⟨this.1,by rw[hbk];exact this.2⟩
 have hrel:∀{d:AV} {v:Value},Rel (al C (aS.res ρ R)) w (d.sub ρ) v->Rel (al C (aS.res ρ ((j6 id R).map λp=>(p.1,ve id t l p.2)))) w ((ow id t l 3 d).sub ρ) v:=λh=>
  (Ek hd 3 h).mono λb _ hA=>⟨hal b hA,rfl⟩
 have hsubb:∀b∈bh (aS.res ρ ((j6 id R).map λp=>(p.1,ve id t l p.2))),b∈bh (aS.res ρ R):=λb hb=>by
  rw[hbk]at hb;exact jk (λr hr=>(wV _ _).subset hr) b hb
 have hg':Good C (aS.res ρ ((j6 id R).map λp=>(p.1,ve id t l p.2))) w:=by
  refine⟨hg.kept,λrr hrr=> ?_,?_,λb hb=>hg.own b (hsubb b hb)⟩
  ·obtain⟨p,h1,rfl⟩:=zC.1 hrr;obtain⟨p',h2,rfl⟩:=zC.1 h1;have hm:p'.2.res ρ p'.1∈aS.res ρ R:=by
    rw[hi3]at h2;exact zC.2 ⟨p',List.mem_of_mem_eraseIdx h2,rfl⟩
   have h3:=hg.res _ hm;obtain⟨q,rr⟩:=p';cases rr with
   |row t' l'=>exact h3.mono (λb _ hA=>⟨hal b (.inl hA),rfl⟩) (λ_ _=>rfl)
   |mp es=>exact h3.mono (λb _ hA=>⟨hal b (.inl hA),rfl⟩) (λ_ _=>rfl)
   |md k e l=>exact h3.mono (λb _ hA=>⟨hal b (.inl hA),rfl⟩) (λ_ _=>rfl)
   |box T cs=>
    obtain⟨us,h4,h5⟩:=h3;refine⟨us,h4,by simpa using h5.1,λj av v q1 q2=> ?_⟩;rw[yg,zP]at q1;obtain⟨c,hc,rfl⟩:=zj.1 q1;exact hrel (h5.2 j (c.sub ρ) v (by rw[zP,hc];rfl) q2)
  ·rw[hbk];exact hg.BR.sublist ((wV _ _).filterMap _)
 have hops:Qj (al C (aS.res ρ ((j6 id R).map λp=>(p.1,ve id t l p.2)))) w (Env.sub ρ (E.map λp=>(p.1,ow id t l 3 p.2))) S:=λx u hx=>by
  cases x with
  |tmp k=>
   have hx':Env.get (Env.sub ρ (E.map λp=>(p.1,ow id t l 3 p.2))) k=M u:=hx;rw[Env.eR,v8]at hx';obtain⟨d',h1,rfl⟩:=zj.1 hx';obtain⟨d,h2,rfl⟩:=zj.1 h1;exact hrel (hρ (.tmp k) (d.sub ρ) (by show Env.get (E.sub ρ) k=_;rw[Env.eR,h2];rfl))
  |const v=>exact(hρ (.const v) u hx).mono λb _ hA=>⟨hal b (.inl hA),rfl⟩
  |global g=>exact(hρ (.global g) u hx).mono λb _ hA=>⟨hal b (.inl hA),rfl⟩
  |func f=>exact(hρ (.func f) u hx).mono λb _ hA=>⟨hal b (.inl hA),rfl⟩
 have htr:∀{σ':aa bM} {w':World},Tr C (bh (aS.res ρ ((j6 id R).map λp=>(p.1,ve id t l p.2)))) (aS.res ρ ((j6 id R).map λp=>(p.1,ve id t l p.2))) w σ' w'->Tr C (bh (aS.res ρ R)) (aS.res ρ R) w σ' w':=λh=>
  ⟨h.good,⟨h.kp.os,h.kp.tape,h.kp.output,h.kp.size,λk hk hn=>h.kp.block k hk λhx=>hn (hsubb k hx)⟩,λb hb hA=>⟨(h.al b hb (hal b (.inl hA))).1,hA.2⟩⟩
 rcases h w S hg' hops with ⟨v,w',av,σ',h1,h2,h3,h4⟩|⟨w',σ',h1,h2,h3⟩|⟨f,args,h1,h2⟩
 ·exact .inl ⟨v,w',av,σ',h1,htr h2,h3,h4⟩
 ·exact .inr (.inl ⟨w',σ',h1,htr h2,h3⟩)
 ·exact .inr (.inr ⟨f,args,h1,h2.mono λe w' ⟨v,av,σ',q1,q2,q3,q4⟩=>⟨v,av,σ',q1,q2,htr q3,q4⟩⟩)
def agR(sl:aa Nat)(T:ET)(E:Env):Prop:=∀t∈sl,∀d,cF T t=M d->E.get t=M d
def Ye.jB{sl:aa Nat}{nx:Nat}{ρ:Gh}:∀(ids:aa Nat) (T:ET) (E:Env) (R:aS),agR sl T E->E.cE nx->aS.cE nx R->
  (∀E',agR sl (St.jB ⟨T,R,nx⟩ ids).E E'->E'.cE nx->aS.cE nx (St.jB ⟨T,R,nx⟩ ids).R->Ye P (E'.sub ρ) (aS.res ρ (St.jB ⟨T,R,nx⟩ ids).R) o C N)->Ye P (E.sub ρ) (aS.res ρ R) o C N
 |[],T,E,R,hh,hE,hR,h=>h E hh hE hR
 |i::ids,T,E,R,hh,hE,hR,h=>by
  have e0:St.jB ⟨T,R,nx⟩ (i::ids)=(St.Aw ⟨T,R,nx⟩ i).jB ids:=rfl;rw[e0]at h;have key:∀s:St,s.nx=nx->s=⟨s.E,s.R,nx⟩:=λs hs=>by obtain⟨a,b,c⟩:=s;simp only at hs;rw[hs]
  cases hr:gj R i with
  |none=>
   have e1:St.Aw ⟨T,R,nx⟩ i=⟨T,R,nx⟩:=by unfold St.Aw;simp only[hr]
   rw[e1]at h;exact Ye.jB ids T E R hh hE hR h
  |some rr=>
   cases rr with
   |box T0 cs=>
    have e1:St.Aw ⟨T,R,nx⟩ i=⟨T,R,nx⟩:=by unfold St.Aw;simp only[hr]
    rw[e1]at h;exact Ye.jB ids T E R hh hE hR h
   |mp es=>
    have e1:St.Aw ⟨T,R,nx⟩ i=⟨T,R,nx⟩:=by unfold St.Aw;simp only[hr]
    rw[e1]at h;exact Ye.jB ids T E R hh hE hR h
   |md k e l=>
    have e1:St.Aw ⟨T,R,nx⟩ i=⟨T,R,nx⟩:=by unfold St.Aw;simp only[hr]
    rw[e1]at h;exact Ye.jB ids T E R hh hE hR h
   |row t l=>
    have e1:St.Aw ⟨T,R,nx⟩ i=⟨emap (ow i t l 3) T,(j6 i R).map λp=>(p.1,ve i t l p.2),nx⟩:=by unfold St.Aw;simp only[hr]
    rw[e1]at h;refine Ye.YJ hr (Ye.jB ids _ _ _ (λk hk d hd=> ?_) (λp hp=> ?_) (λp hp=> ?_) h)
    ·rw[Ar]at hd;obtain⟨d',h1,rfl⟩:=zj.1 hd;rw[v8,hh k hk d' h1];rfl
    ·obtain⟨p',h1,rfl⟩:=zC.1 hp;exact qF 3 (hE p' h1)
    ·obtain⟨p',h1,rfl⟩:=zC.1 hp;have h2:=G5 (id:=i) hR p' h1;refine⟨h2.1,?_⟩;obtain⟨q,rr⟩:=p';cases rr with
     |row t' l'=>trivial
     |mp es=>trivial
     |md k e l=>trivial
     |box T0 cs=>
      intro c hc;obtain⟨c',h3,rfl⟩:=zC.1 hc;exact qF 3 (h2.2 c' h3)
end
def evL(sl:aa Nat)(T:ET):Operand->af AV
 | .tmp t=>match cS t sl with
  |true=>cF T t
  |false=>J
 |x=>ML T x
def lK(R1:aS)(nx:Nat)(fz:Bool)(e:fq):af (AV×Bool×aS×Nat):=M (match e.vl nx with
 |some d=>d
 |none=> .lit undef,match e with
 | .val _=>fz
 |_=>Z,e.R R1 nx,e.nx nx)
def aas(P:Program)(F:aT)(o:Oper)(sl:aa Nat)(ids:aa Nat)(s:St):af (AV×Bool×aS×Nat):=St.rec (λE1 R1 nx1=>oN o.op P F (evL sl E1) (gj R1) R1 nx1 (lK R1 nx1 (!ids.isEmpty))) (s.jB ids)
def ak5(P:Program)(F:aT)(o:Oper)(sl:aa Nat)(E:ET)(Rl:aS)(nx:Nat):af (AV×Bool×aS×Nat):=aas P F o sl (iJ E o.op) ⟨E,Rl,nx⟩
def adG{α:Type}(P:Program)(F:aT)(o:Oper)(sl:aa Nat)(ids:aa Nat)(D:AV×Bool×aS×Nat->af α)(s:St):af α:=St.rec (λE1 R1 nx1=>oN o.op P F (evL sl E1) (gj R1) R1 nx1 (λe=>D (match e.vl nx1 with
 |some d=>d
 |none=> .lit undef,match e with
 | .val _=>(!ids.isEmpty)
 |_=>Z,e.R R1 nx1,e.nx nx1))) (s.jB ids)
def Qi{α:Type}(P:Program)(F:aT)(o:Oper)(sl:aa Nat)(E:ET)(Rl:aS)(nx:Nat)(D:AV×Bool×aS×Nat->af α):af α:=adG P F o sl (iJ E o.op) D ⟨E,Rl,nx⟩
def G8{α:Type}{P:Program}{F:aT}(hN:dF F){o:Oper}{sl:aa Nat}{E:ET}{Rl:aS}{nx:Nat}(D:AV×Bool×aS×Nat->af α):(ak5 P F o sl E Rl nx).bind D=Qi P F o sl E Rl nx D:=by
 unfold ak5 Qi aas adG;generalize St.jB ⟨E,Rl,nx⟩ (iJ E o.op)=s1;obtain⟨E1,R1,n1⟩:=s1;exact AM D hN ..
def XA:∀(ids:aa Nat) (s:St),(s.jB ids).nx=s.nx
 |[],s=>rfl
 |i::ids,s=>by
  show ((s.Aw i).jB ids).nx=s.nx;rw[XA ids];unfold St.Aw;split<;>rfl
def ai6{P:Program}{F:aT}{o:Oper}{sl:aa Nat}{T:ET}{E:Env}{Rl Lo:aS}{nx nx':Nat}{v:AV}{ef:Bool}(hF:gR P F)(h:ak5 P F o sl T Rl nx=M (v,ef,Lo,nx'))(hh:agR sl T E)(hE:E.cE nx)(hR:aS.cE nx Rl):
  (∀ρ C,Ye P (E.sub ρ) (aS.res ρ Rl) o C (Nlc nx v Lo ρ))/\(ef=O->∀ρ C,Ye P (E.sub ρ) (aS.res ρ Rl) o C (Nlc nx v Rl ρ)):=by
 unfold ak5 aas at h;generalize hs:St.jB ⟨T,Rl,nx⟩ (iJ T o.op)=s1 at h;have hnx:s1.nx=nx:=by rw[<-hs,XA]
 obtain⟨E1,R1,n1⟩:=s1;simp only at hnx;subst hnx;have h':oN o.op P F (evL sl E1) (gj R1) R1 n1 (lK R1 n1 (!(iJ T o.op).isEmpty))=M (v,ef,Lo,nx'):=h;rw[OZ]at h';have main:∀ρ C (Ro:aS),(∀e:fq,lK R1 n1 (!(iJ T o.op).isEmpty) e=M (v,ef,Lo,nx')->e.R R1 n1=Ro)->Ye P (E.sub ρ) (aS.res ρ Rl) o C (Nlc n1 v Ro ρ):=λρ C Ro hRo=>by
  refine Ye.jB (sl:=sl) (iJ T o.op) T E Rl hh hE hR λE' hh' hE' hR'=> ?_;rw[hs]at hh' hR' ⊢;have hsee:iO (evL sl E1) (gj R1) n1 E' R1:=⟨λx d hx=>by
   cases x with
   |tmp t=>
    unfold evL at hx;simp only at hx;split at hx
    ·rename_i hm;exact hh' t (dN.1 hm) d hx
    ·cases hx
   |_=>exact hx,λ_ _ h=>h,hE',hR'⟩
  have hst:=Ik (o:=o) hF hsee rfl h' ρ C;intro w j hg hρ;have conv:∀a σ',Nx R1 n1 (lK R1 n1 (!(iJ T o.op).isEmpty)) (v,ef,Lo,nx') ρ a σ'->Nlc n1 v Ro ρ a σ':=λa σ' ⟨e,q1,q2,q3,q4,ρ',q5,q6,q7⟩=>by
   refine⟨ρ',q5,?_,by rw[<-hRo e q1];exact q7⟩;unfold lK at q1;simp only[zJ.injEq,Prod.mk.injEq]at q1;cases hv:e.vl n1 with
   |some d=>
    rw[hv]at q1 q6;left;rw[q6,<-q1.1];rfl
   |none=>
    rw[hv]at q1 q6;right;exact⟨q6,q1.1.symm⟩
  rcases hst w j hg hρ with ⟨v',w',av,σ',h1,h2,h3,h4⟩|⟨w',σ',h1,h2,h3⟩|⟨f,args,h1,h2⟩
  ·exact .inl ⟨v',w',av,σ',conv _ _ h1,h2,h3,h4⟩
  ·exact .inr (.inl ⟨w',σ',conv _ _ h1,h2,h3⟩)
  ·exact .inr (.inr ⟨f,args,h1,h2.mono λe w' ⟨v',av,σ',q1,q2,q3,q4⟩=>⟨v',av,σ',q1,conv _ _ q2,q3,q4⟩⟩)
 refine⟨λρ C=>main ρ C Lo λe he=> ?_,λhef ρ C=>main ρ C Rl λe he=> ?_⟩
 ·unfold lK at he;simp only[zJ.injEq,Prod.mk.injEq]at he;exact he.2.2.1
 ·unfold lK at he;simp only[zJ.injEq,Prod.mk.injEq]at he;cases e with
  |val d=>
   have hemp:iJ T o.op=[]:=by
    have h2:(!(iJ T o.op).isEmpty)=O:=by rw[<-hef];exact he.2.1
    simpa using h2
   rw[hemp]at hs;have:(⟨T,Rl,n1⟩:St)=⟨E1,R1,n1⟩:=hs;exact(St.mk.inj this).2.1.symm
  |_=>exact iy (he.2.1.trans hef) (by simp)
def jr(p:Nat->Bool)(n:Nat):AV->Bool:=Nat.rec (λd=>match d with
 | .lit _=>Z
 | .sl _ _=>Z
 | .rp _ _=>Z
 | .own i=>p i
 | .ptr i _=>p i
 | .ra i _ _ _=>p i
 |_=>O) (λ_ ih d=>match d with
 | .lit _=>Z
 | .sl _ _=>Z
 | .rp _ _=>Z
 | .own i=>p i
 | .ptr i _=>p i
 | .ra i _ _ _=>p i
 | .agg cs=>cs.all ih
 | .iF cs=>cs.all ih
 | .fn _ cs=>cs.all ih
 | .fp cs=>cs.all ih) n
def DA{p:Nat->Bool}:∀(n:Nat) {d:AV},jr p n d=Z->gV (λi=>p i=Z) d
 |0,d,h=>by
  cases d<;>first|exact .lit _|exact .sl _ _|exact .rp _ _|exact .own _ h|exact .ptr _ _ h|exact .ra _ _ _ _ h|(cases h;done)
 |n+1,d,h=>by
  have hL:∀{cs:aa AV},cs.all (jr p n)=Z->∀c∈cs,gV (λi=>p i=Z) c:=λh c hc=>DA n (zn.1 h c hc);cases d<;>first|exact .lit _|exact .sl _ _|exact .rp _ _|exact .own _ h|exact .ptr _ _ h|exact .ra _ _ _ _ h|exact .agg _ (hL h)|exact .iF _ (hL h)|exact .fn _ _ (hL h)|exact .fp _ (hL h)
def Lw{p:Nat->Prop}:∀(n:Nat) {d:AV},gV p d->∀i∈jY n d,p i
 |0,d,h,i,hi=>by
  cases h<;>simp only[jY,zA,yD]at hi<;>(subst hi;assumption)
 |n+1,d,h,i,hi=>by
  have hL:∀{cs:aa AV},(∀c∈cs,gV p c)->i∈cs.flatMap (jY n)->p i:=λh hi=>by
   obtain⟨c,h1,h2⟩:=wk.1 hi;exact Lw n (h c h1) i h2
  cases h with
  |agg cs h=>exact hL h hi
  |iF cs h=>exact hL h hi
  |fn f cs h=>exact hL h hi
  |own id h=>simp only[jY,zA]at hi;rw[hi];exact h
  |ptr id off h=>simp only[jY,zA]at hi;rw[hi];exact h
  |ra id t m off h=>simp only[jY,zA]at hi;rw[hi];exact h
  |_=>simp[jY]at hi
def GD(sl:aa Nat)(T:ET):aa Nat:=sl.flatMap λt=>match cF T t with
 |some d=>jY 3 d
 |none=>[]
def aba(R:aS):aa Nat:=R.flatMap λq=>q.1::match q.2 with
 | .box _ cs=>cs.flatMap (jY 3)
 | .row _ _=>[]
 | .mp _=>[]
 | .md _ _ _=>[]
def aeH(al:aa Nat)(nx nx' i:Nat):Bool:=cS i al||(z7 nx i&&zB i nx')
def okR(al:aa Nat)(nx nx':Nat)(R:aS):Bool:=R.all λq=>aeH al nx nx' q.1&&match q.2 with
 | .box _ cs=>cs.all (jr (aeH al nx nx') 3)
 | .row _ _=>Z
 | .mp _=>Z
 | .md _ _ _=>Z
def KP{al:aa Nat}{nx nx' i:Nat}(h:aeH al nx nx' i=Z):i∈al\/(nx<=i/\i<nx'):=by
 unfold aeH at h;simp only[yO,zh,Nat.ble_eq,xw]at h;exact h.imp dN.1 id
def awa{al:aa Nat}{nx nx':Nat}{R:aS}(h:okR al nx nx' R=Z):aS.gV (λi=>i∈al\/(nx<=i/\i<nx')) R:=λq hq=>by
 have:=zn.1 h q hq;simp only[zh]at this;refine⟨KP this.1,?_⟩;obtain⟨i,r⟩:=q;cases r with
 |row t l=>trivial
 |mp es=>trivial
 |md k e l=>trivial
 |box T cs=>exact λc hc=>(DA 3 (zn.1 this.2 c hc)).mono λi hi=>KP hi
def aAI(o:Op):Bool:=match o with
 | .move _=>O
 | .assign _=>O
 | .pick _ _ _=>O
 | .unOp _ _ _=>O
 | .nilCheck _=>O
 | .fieldAddr _ _ _=>O
 | .extract _ _=>O
 | .makeFunc _ _ _=>O
 | .alloc _=>O
 |_=>Z
def aaY(o:Op):Bool:=match o with
 | .call {callee:= .value _, ..}=>Z
 |_=>O
def Cq(ops:Array Oper)(o:Oper)(E:ET)(R:aS):aa Nat:=match aAI o.op with
 |false=>[]
 |true=>match aaY o.op with
  |false=>GD (ct ops o) E
  |true=>reach R 3 (GD (ct ops o) E)
def inQ(rd:aa Nat)(R:aS):aS:=match rd with
 |[]=>[]
 |rd=>gm rd R
def aer(rd:aa Nat)(R:aS):inQ rd R=gm rd R:=by
 cases rd with
 |nil=>exact(wL.2 λp _=>by simp[cS]).symm
 |cons a l=>rfl
def rcB(ops:Array Oper)(o:Oper)(E:ET)(Rl:aS)(nx:Nat)(v:AV)(ef:Bool)(Lo:aS)(nx':Nat):Bool:=(λal=>z7 nx nx'&&(!ef||efk o)&&jr (aeH al nx nx') 4 v&&(!ef||okR al nx nx' Lo)) (GD (ct ops o) E++aba Rl)
def anB(e:AV->AV->Bool)(l:aa AV):aa AV->Bool:=List.rec (λm=>match m with
 |[]=>Z
 |_=>O) (λa _ ih m=>match m with
 |b::m=>e a b&&ih m
 |[]=>O) l
def as8(ih:AV->AV->Bool)(a b:AV):Bool:=match a,b with
 | .own i, .own j=>zg i j
 | .ptr i o, .ptr j p=>zg i j&&zg o p
 | .fn (.func f) cs, .fn (.func g) ds=>zg f g&&anB ih cs ds
 |_,_=>O
def eqA(n:Nat):AV->AV->Bool:=Nat.rec (λ_ _=>O) (λ_ ih=>as8 ih) n
def auS(a b:IR):Bool:=match a,b with
 | .box T cs, .box T' ds=>zg T T'&&anB (eqA 2) cs ds
 |_,_=>O
def acp(l:aS):aS->Bool:=List.rec (λm=>match m with
 |[]=>Z
 |_=>O) (λa _ ih m=>match m with
 |b::m=>zg a.1 b.1&&auS a.2 b.2&&ih m
 |[]=>O) l
def Jy{e:AV->AV->Bool}(he:∀a b,e a b=Z->a=b):∀{l m:aa AV},anB e l m=Z->l=m
 |[],[],_=>rfl
 |[],_::_,h=>by cases h
 |_::_,[],h=>by cases h
 |a::l,b::m,h=>by
  change (e a b&&anB e l m)=Z at h;rw[zh]at h;rw[he a b h.1,Jy he h.2]
def abp:∀(n:Nat) {a b:AV},eqA n a b=Z->a=b
 |0,a,b,h=>by cases h
 |n+1,a,b,h=>by
  change as8 (eqA n) a b=Z at h;unfold as8 at h;split at h
  ·rw[fL h]
  ·rw[zh]at h;rw[fL h.1,fL h.2]
  ·rw[zh]at h;rw[fL h.1,Jy (λa b=>abp n) h.2]
  ·cases h
def OG:∀{l m:aS},acp l m=Z->l=m
 |[],[],_=>rfl
 |[],_::_,h=>by cases h
 |_::_,[],h=>by cases h
 |(i,a)::l,(j,b)::m,h=>by
  change (zg i j&&auS a b&&acp l m)=Z at h;simp only[zh]at h;have h1:=fL h.1.1;subst h1;have h2:=h.1.2;unfold auS at h2;split at h2
  ·rw[zh]at h2;rw[fL h2.1,Jy (λa b=>abp 2) h2.2,OG h.2]
  ·cases h2
def trim(K rd:aa Nat)(Rl Lo:aS):aa Nat×aS:=match K.filter λi=>cS i rd with
 |[]=>(rd,Lo)
 |k::K=>match acp (gm (k::K) Lo) (gm (k::K) Rl)with
  |true=>(rd.filter λi=> !cS i (k::K),fm (k::K) Lo)
  |false=>(rd,Lo)
def ai3(K rd:aa Nat)(R Lo:aS):(∀i∈(trim K rd (gm rd R) Lo).1,i∈rd)/\(∀q∈(trim K rd (gm rd R) Lo).2,q∈Lo)/\List.Perm Lo ((trim K rd (gm rd R) Lo).2++fm (trim K rd (gm rd R) Lo).1 (gm rd R)):=by
 have h0:fm rd (gm rd R)=[]:=wL.2 λp hp=>by
  have:cS p.1 rd=Z:=(zW.1 hp).2;rw[this];simp
 have triv:(∀i∈rd,i∈rd)/\(∀q∈Lo,q∈Lo)/\List.Perm Lo (Lo++fm rd (gm rd R)):=⟨λ_ h=>h,λ_ h=>h,by rw[h0,yN]⟩;unfold trim;split
 ·omega
 ·rename_i k K' hK;split
  case h_2=>exact triv
  rename_i he;have he:=OG he;refine⟨λi hi=>(zW.1 hi).1,λq hq=>(zW.1 hq).1,?_⟩;have e1:fm (rd.filter λi=> !cS i (k::K')) (gm rd R)=gm (k::K') (gm rd R):=by
   refine wv λp hp=> ?_;have hp:cS p.1 rd=Z:=(zW.1 hp).2;cases hm:cS p.1 (k::K')with
   |true=>
    rw[gJ.2 λhx=> ?_];rfl;simp_all
   |false=>
    rw[dN.2 (zW.2 ⟨dN.1 hp,by rw[hm];rfl⟩)];rfl
  rw[e1,<-he];exact(wU.trans (wX _ _)).symm
def partner(ops:Array Oper)(ps:aa (Nat×Nat))(i:Nat):aa Nat:=ps.flatMap λp=>match zg p.1 i with
 |true=>match ops[p.2]? with
  |some o=>match aaY o.op with
   |true=>[]
   |false=>ct ops o
  |none=>[]
 |false=>match zg p.2 i with
  |true=>match ops[p.1]? with
   |some o=>match aaY o.op with
    |true=>[]
    |false=>ct ops o
   |none=>[]
  |false=>[]
def ahp(ops:Array Oper)(ps:aa (Nat×Nat))(cs:aa Rc)(E:ET):aa Nat:=match ps with
 |[]=>[]
 |p::ps=>GD (partner ops (p::ps) (zZ cs)) E
def dK2(o:Oper)(sl:aa Nat)(cs:aa Rc)(rd:aa Nat)(E:ET)(R:aS){α:Type}(ih:aa Rc->St->(aa Rc->St->af α)->af α)(k:aa Rc->St->af α)(v:AV)(ef:Bool)(nx':Nat)(t:aa Nat×aS):af α:=
 ih (cs++[⟨o.dst,v,sl,rd,t.1,ef,t.2,J⟩]) ⟨pe o.dst v E,match ef with
  |true=>t.2++fm t.1 R
  |false=>R,nx'⟩ k
def dK(ops:Array Oper)(ps:aa (Nat×Nat))(o:Oper)(cs:aa Rc)(rd:aa Nat)(E:ET)(R Rl:aS)(nx:Nat){α:Type}(ih:aa Rc->St->(aa Rc->St->af α)->af α)(k:aa Rc->St->af α)(x:AV×Bool×aS×Nat):af α:=
 match rcB ops o E Rl nx x.1 x.2.1 x.2.2.1 x.2.2.2 with
 |true=>dK2 o (ct ops o) cs rd E R ih k x.1 x.2.1 x.2.2.2 (trim (ahp ops ps cs E) rd Rl x.2.2.1)
 |false=>J
def aDz{α:Type}(P:Program)(F:aT)(ops:Array Oper)(ps:aa (Nat×Nat))(o:Oper)(ih:aa Rc->St->(aa Rc->St->af α)->af α)(cs:aa Rc)(k:aa Rc->St->af α)(E:ET)(R:aS)(nx:Nat)(rd:aa Nat)(Rl:aS):af α:=
 Qi P F o (ct ops o) E Rl nx (dK ops ps o cs rd E R Rl nx ih k)
def frE(n:Int)(es:aa (AV×AV)):Bool:=List.rec Z (λe _ ih=>match e.1 with
 | .lit (.int .i64 m)=>match w9 (m=n)with
  |true=>O
  |false=>ih
 |_=>O) es
def agr{n:Int}:∀{es:aa (AV×AV)},frE n es=Z->∀e∈es,∃m,e.1= .lit (.int .i64 m)/\m≠n
 |[],_,e,he=>by cases he
 |e0::es,h,e,he=>by
  change (match e0.1 with
   | .lit (.int .i64 m)=>match w9 (m=n)with
    |true=>O
    |false=>frE n es
   |_=>O)=Z at h
  split at h
  ·rename_i m hm;split at h
   ·cases h
   ·rename_i hd;rcases zk.1 he with rfl|he
    ·exact⟨m,hm,of_decide_eq_false hd⟩
    ·exact agr h e he
  ·cases h
def Ee(P:Program)(ops:Array Oper)(o:Oper)(E:ET)(R:aS):af (Ins×Bool):=match o.op,o.dst with
 | .insert T x y z,J=>match P.underlying T,evL (ct ops o) E x,evL (ct ops o) E y,evL (ct ops o) E z with
  |some (.map kt _),M (.own id),M (.lit (.int .i64 n)),M vd=>match gm [id] R,P.underlying kt with
   |[(_, .mp es)],M (.int .i64)=>match oA vd with
    |true=>M (⟨id,n,vd⟩,frE n es)
    |false=>J
   |_,_=>J
  |_,_,_,_=>J
 |_,_=>J
def aDP{α:Type}(P:Program)(F:aT)(ops:Array Oper)(ps:aa (Nat×Nat))(o:Oper)(ih:aa Rc->St->(aa Rc->St->af α)->af α)(cs:aa Rc)(k:aa Rc->St->af α)(s:St):af α:=
 St.rec (λE R nx=>match Ee P ops o E R with
  |some i=>match i.2 with
   |true=>ih (cs++[⟨o.dst, .lit undef,ct ops o,[],[],O,[],M i.1⟩]) ⟨pe o.dst (.lit undef) E,iW i.1 R,nx⟩ k
   |false=>J
  |none=>(λrd=>aDz P F ops ps o ih cs k E R nx rd (inQ rd R)) (Cq ops o E R)) s
def dNo{α:Type}(ops:Array Oper)(o:Oper)(ih:aa Rc->St->(aa Rc->St->af α)->af α)(cs:aa Rc)(k:aa Rc->St->af α)(s:St):af α:=
 ih (cs++[⟨o.dst, .lit undef,ct ops o,[],[],O,[],J⟩]) ⟨pe o.dst (.lit undef) s.E,s.R,s.nx⟩ k
def ZN{α:Type}(P:Program)(F:aT)(n:Nat)(ops:Array Oper)(ps:aa (Nat×Nat))(o:Oper)(ih:aa Rc->St->(aa Rc->St->af α)->af α)(cs:aa Rc)(s:St)(k:aa Rc->St->af α):af α:=match Nv n o.dst with
 |true=>gate ops o s (aDP P F ops ps o ih cs k) (dNo ops o ih cs k)
 |false=>J
def Yl{α:Type}(P:Program)(F:aT)(n:Nat)(ops:Array Oper)(ps:aa (Nat×Nat))(l:aa Oper):aa Rc->St->(aa Rc->St->af α)->af α:=List.rec (λcs s k=>k cs s) (λo _ ih=>ZN P F n ops ps o ih) l
def agQ(l:aa Oper):Nat->Bool:=List.rec (λ_=>Z) (λo _ ih i=>(o.after.toList.all λe=> !Region.binds .any e||zB e.on i)&&ih (i+1)) l
def Qs:∀{l:aa Oper} {k:Nat},agQ l k=Z->∀(i:Nat) o,l[i]? =M o->∀e∈o.after.toList,Region.binds .any e=Z->e.on<k+i
 |[],k,_,i,o,h,_,_,_=>by cases h
 |o0::l,k,hb,i,o,h,e,he,hbe=>by
  change ((o0.after.toList.all λe=> !Region.binds .any e||zB e.on k)&&agQ l (k+1))=Z at hb;simp only[zh]at hb;cases i with
  |zero=>
   cases h;have:=zn.1 hb.1 e he;rw[hbe]at this;simpa using this
  |succ i=>
   have:=Qs hb.2 i o h e he hbe;omega
def Ft{α:Type}(P:Program)(F:aT)(n:Nat)(ops:Array Oper)(s:St)(k:St->af α):af α:=match P.follows .mixedOrders&&agQ ops.toList 0 with
 |true=>match plan ops with
  |some ps=>Yl P F n ops ps ops.toList [] s λcs s'=>match Mn ps cs with
   |true=>k s'
   |false=>J
  |none=>J
 |false=>J
def Cd(ops:Array Oper)(o:Oper)(f:Fr)(wn:Bool):Prop:=match o.guard with
 |none=>wn=Z
 |some (j,want)=>∃t,(ops[j]?).bind (·.dst)=M t/\((∃b,f t=M (.lit (.bool b))/\wn=(b==want))\/(∃vs,f t=M (.lit (.tuple vs))/\wn=O))
structure ue (P:Program) (n:Nat) (ops:Array Oper) (o:Oper) (f:Fr) (R:aS) (nx:Nat) (c:Rc) (nx':Nat):Prop where
 dst:c.dst=o.dst
 sl:c.sl=ct ops o
 ef:c.ef=Z->efk o=Z
 dn:Nv n o.dst=Z
 le:nx<=nx'
 fi:c.ins≠J->efk o=Z
 run:(Cd ops o f O/\c.v= .lit undef/\c.ef=O/\c.ins=J)\/(∃s,Cd ops o f Z/\c.ins=M s/\c.v= .lit undef/\s.id<nx/\Seen s R/\∀es:List (AV×AV),(∀e∈es,∃m,e.1= .lit (.int .i64 m)/\m≠s.n)->∀ρ C,Ye P ((mJ f c.sl).sub ρ) [bM.mp (ρ.v s.id) es] o C (Nlc nx (.lit undef) [(s.id, .mp (oV s.n s.v es))] ρ))\/
  (Cd ops o f Z/\c.ins=J/\∀ρ C,Ye P ((mJ f c.sl).sub ρ) (aS.res ρ (gm c.rd R)) o C (Nlc nx c.v (match c.ef with|Z=>c.Lo++fm c.wr (gm c.rd R)|O=>gm c.rd R) ρ))
 wr:∀i∈c.wr,i∈c.rd
 lin:aS.cE nx (gm c.rd R)
 lv:cE nx' c.v
 lo:c.ef=Z->aS.cE nx' c.Lo
 ids:∀p:Nat->Prop,(∀t∈c.sl,∀d,f t=M d->gV p d)->aS.gV p (gm c.rd R)->gV (λi=>p i\/(nx<=i/\i<nx')) c.v/\(c.ef=Z->aS.gV (λi=>p i\/(nx<=i/\i<nx')) c.Lo)
inductive Ch (P:Program) (n:Nat) (ops:Array Oper):Fr->aS->Nat->List Oper->List Rc->Fr->aS->Nat->Prop
 |nil (f:Fr) (R:aS) (nx:Nat):Ch P n ops f R nx [] [] f R nx
 |cons {f f':Fr} {R R':aS} {nx nx1 nx':Nat} {o:Oper} {os:List Oper} {c:Rc} {cs:List Rc} (h:ue P n ops o f R nx c nx1) (hs:Ch P n ops (c.F f) (c.R R) nx1 os cs f' R' nx'):Ch P n ops f R nx (o::os) (c::cs) f' R' nx'
def asF{α:Type}{r:α}{ops:Array Oper}{o:Oper}{s:St}{yes no:St->af α}(h:gate ops o s yes no=M r){f:Fr}(hf:∀t d,cF s.E t=M d->f t=M d):∃s':St,s'.R=s.R/\s'.nx=s.nx/\(∀t d,cF s'.E t=M d->f t=M d)/\
  ((Cd ops o f Z/\yes s'=M r)\/(Cd ops o f O/\no s'=M r)):=by
 unfold gate at h;unfold Cd;split at h
 ·rename_i hg;exact⟨s,rfl,rfl,hf, .inl ⟨by first|rw[hg]|rfl,h⟩⟩
 ·rename_i j want hg;split at h
  ·cases h
  ·rename_i t hj;have hput:∀b,cF s.E t=M (.lit (.bool b))->∀k d,cF (s.gq t b).E k=M d->f k=M d:=λb hb k d hk=>by
    have hk':cF (ig t (.b b) s.E) k=M d:=hk;rcases qO hk' with ⟨rfl,rfl⟩|⟨_,h2⟩
    ·simp_all
    ·simp_all
   split at h
   ·rename_i b hb;have hfb:=hf _ _ hb;split at h
    ·split at h
     ·exact⟨s.gq t Z,rfl,rfl,hput _ hb, .inl ⟨by(try rw[hg]);exact⟨t,hj, .inl ⟨_,hfb,rfl⟩⟩,h⟩⟩
     ·exact⟨s.gq t Z,rfl,rfl,hput _ hb, .inr ⟨by(try rw[hg]);exact⟨t,hj, .inl ⟨_,hfb,rfl⟩⟩,h⟩⟩
    ·split at h
     ·exact⟨s.gq t O,rfl,rfl,hput _ hb, .inr ⟨by(try rw[hg]);exact⟨t,hj, .inl ⟨_,hfb,rfl⟩⟩,h⟩⟩
     ·exact⟨s.gq t O,rfl,rfl,hput _ hb, .inl ⟨by(try rw[hg]);exact⟨t,hj, .inl ⟨_,hfb,rfl⟩⟩,h⟩⟩
   ·rename_i vs hb;exact⟨s,rfl,rfl,hf, .inr ⟨by(try rw[hg]);exact⟨t,hj, .inr ⟨_,hf _ _ hb,rfl⟩⟩,h⟩⟩
   ·cases h
def QW{dst:af Nat}{v:AV}{E:ET}{f:Fr}{c:Rc}(hc:c.dst=dst)(hv:c.v=v)(hf:∀t d,cF E t=M d->f t=M d):∀t d,cF (pe dst v E) t=M d->c.F f t=M d:=λt d h=>by
 unfold Rc.F;rw[hc,hv];cases dst with
 |none=>simpa using hf t d h
 |some s=>
  rcases qO h with ⟨rfl,rfl⟩|⟨h1,h2⟩
  ·simp
  ·rw[bP (λe=>h1 (zJ.inj e))];simp_all
def Ye.mono{P:Program}{C:Cx}{E:Env}{σ:aa bM}{o:Oper}{N N':af AV->aa bM->Prop}(h:Ye P E σ o C N)(hN:∀a σ',N a σ'->N' a σ'):Ye P E σ o C N':=λw j hg hρ=>by
 rcases h w j hg hρ with ⟨v,w',av,σ',h1,h2,h3⟩|⟨w',σ',h1,h2,h3⟩|⟨f,args,h1,h2⟩
 ·exact .inl ⟨v,w',av,σ',hN _ _ h1,h2,h3⟩
 ·exact .inr (.inl ⟨w',σ',hN _ _ h1,h2,h3⟩)
 ·exact .inr (.inr ⟨f,args,h1,Calls.mono h2 λe w' ⟨v,av,σ',q1,q2,q3⟩=>⟨v,av,σ',q1,hN _ _ q2,q3⟩⟩)
def acs{s:Ins}{R:aS}{n:Nat}(h:aS.cE n R):aS.cE n (iW s R):=λq hq=>by
 obtain⟨q0,h0,rfl⟩:=zC.1 hq;have h1:=h q0 h0;unfold gN;split
 ·split
  ·exact⟨h1.1,trivial⟩
  ·exact h1
 ·exact h1
def afO{P:Program}{ops:Array Oper}{o:Oper}{E:ET}{R:aS}{nx:Nat}{f:Fr}{s:Ins}(h:Ee P ops o E R=M (s,Z))(hf:∀t d,cF E t=M d->f t=M d)(hfl:∀t d,f t=M d->cE nx d)(hR:aS.cE nx R):
  o.dst=J/\efk o=Z/\s.id<nx/\Seen s R/\∀es:aa (AV×AV),(∀e∈es,∃m,e.1= .lit (.int .i64 m)/\m≠s.n)->∀ρ C,Ye P ((mJ f (ct ops o)).sub ρ) [bM.mp (ρ.v s.id) es] o C (Nlc nx (.lit undef) [(s.id, .mp (oV s.n s.v es))] ρ):=by
 unfold Ee at h;split at h
 case h_2=>cases h
 rename_i T x y z hop hdst;split at h
 case h_2=>cases h
 rename_i kt et id n vd hT hx hy hz;split at h
 case h_2=>cases h
 rename_i j es0 hin hkt;split at h
 case h_2=>cases h
 rename_i hc1;rw[zJ.injEq,Prod.mk.injEq]at h;have hc:oA vd=Z/\frE n es0=Z:=⟨hc1,h.2⟩;obtain⟨rfl,_⟩:=h;have hj:j=id:=aby (q:=(j, .mp es0)) (by rw[hin];exact zA.2 rfl);subst hj;have hmem:(j,IR.mp es0)∈R:=(zW.1 (show _∈gm [j] R by rw[hin];exact zA.2 rfl)).1;have hlt:j<nx:=(hR _ hmem).1;refine⟨hdst,by unfold efk;rw[hop],hlt,⟨es0,hin,agr hc.2⟩,λes hes ρ C=> ?_⟩;have hev:∀u d,evL (ct ops o) E u=M d->(mJ f (ct ops o)).ev u=M d:=λu d hu=>by
  cases u with
  |tmp t=>
   unfold evL at hu;simp only at hu;split at hu
   ·rename_i hm;exact Dw (dN.1 hm) (hf t d hu)
   ·cases hu
  |_=>exact hu
 have hsee:iO (evL (ct ops o) E) (gj [(j, .mp es)]) nx (mJ f (ct ops o)) [(j, .mp es)]:=⟨hev,λ_ _ h=>h,λq hq=>by
  obtain⟨t,_,ht⟩:=List.mem_filterMap.1 hq;obtain⟨d,hd1,hd2⟩:=zj.1 ht;rw[<-hd2];exact hfl t d hd1,λq hq=>by
  rw[zA.1 hq];exact⟨hlt,trivial⟩⟩
 have hr:gj [(j,IR.mp es)] j=M (.mp es):=by rw[IQ,yQ]
 have:=ae7 (K:=λe:fq=>M e) (es':=oV n vd es) hsee (.inr hop) hT hx hy hz hr (by unfold By;rw[hkt]) rfl hc.1 (λe he=>by
  obtain⟨m,h1,h2⟩:=hes e he;unfold dY gH;rw[hkt,h1];simp only[dx];rw[zJ.injEq];exact iU λe=>h2 e.symm) (List.Perm.refl _) rfl ρ C
 refine Ye.mono this λa σ' ⟨e,q1,q2,q3,q4,ρ',q5,q6,q7⟩=> ?_;cases q1;refine⟨ρ',q5, .inr ⟨q6,rfl⟩,?_⟩;have e1:fq.R [(j,IR.mp es)] nx (.set j (.mp (oV n vd es)))=[(j, .mp (oV n vd es))]:=by
  show pG j _ [(j,IR.mp es)]=_;rw[BN,yQ]
 rw[e1]at q7;exact q7
def Mo{α:Type}{r:α}{P:Program}{F:aT}{n:Nat}{ops:Array Oper}{ps:aa (Nat×Nat)}(hF:gR P F)(hN:dF F){k:aa Rc->St->af α}:∀(l:aa Oper) {cs:aa Rc} {s:St} {f:Fr},Yl P F n ops ps l cs s k=M r->(∀t d,cF s.E t=M d->f t=M d)->(∀t d,f t=M d->cE s.nx d)->aS.cE s.nx s.R->
  ∃(cs':aa Rc) (s':St) (f':Fr),k (cs++cs') s'=M r/\Ch P n ops f s.R s.nx l cs' f' s'.R s'.nx/\(∀t d,cF s'.E t=M d->f' t=M d)
 |[],cs,s,f,h,hf,_,_=>⟨[],s,f,by rw[yN];exact h, .nil f s.R s.nx,hf⟩
 |o::l,cs,s,f,h,hf,hfl,hR=>by
  change ZN P F n ops ps o (Yl P F n ops ps l) cs s k=M r at h;unfold ZN at h;split at h
  case h_2=>cases h
  rename_i hd;obtain⟨s1,e1,e2,hf1,⟨hg,h1⟩|⟨hg,h1⟩⟩:=asF h hf
  ·obtain⟨E,R,nx⟩:=s1;obtain⟨E0,R0,nx0⟩:=s;simp only at e1 e2 hf1;subst e1 e2;change (match Ee P ops o E R with
    |some i=>match i.2 with
     |true=>Yl P F n ops ps l (cs++[⟨o.dst, .lit undef,ct ops o,[],[],O,[],M i.1⟩]) ⟨pe o.dst (.lit undef) E,iW i.1 R,nx⟩ k
     |false=>J
    |none=>Qi P F o (ct ops o) E (inQ (Cq ops o E R) R) nx (dK ops ps o cs (Cq ops o E R) E R (inQ (Cq ops o E R) R) nx (Yl P F n ops ps l) k))=M r at h1
   cases hins:Ee P ops o E R with
   |some ib=>
    rw[hins]at h1;obtain⟨i,bb⟩:=ib;cases bb with
    |false=>cases h1
    |true=>
    dsimp only at h1;obtain⟨z0,z1,z2,z3,z4⟩:=afO hins hf1 hfl hR;have hfact:ue P n ops o f R nx ⟨o.dst, .lit undef,ct ops o,[],[],false,[],some i⟩ nx:=⟨rfl,rfl,λh=>(by cases h),hd,zx _,λ_=>z1, .inr (.inl ⟨i,hg,rfl,rfl,z2,z3,z4⟩),λ_ h=>(by cases h),λq hq=>hR q (zW.1 hq).1, .lit _,λh=>(by cases h),λp _ _=>⟨.lit _,λh=>(by cases h)⟩⟩;obtain⟨cs',s',f',q1,q2,q3⟩:=Mo hF hN l (f:=Rc.F ⟨o.dst, .lit undef,ct ops o,[],[],O,[],M i⟩ f) h1 (QW rfl rfl hf1) (λt d hdd=>by
     unfold Rc.F at hdd;split at hdd
     ·cases hdd;exact .lit _
     ·exact hfl t d hdd) (acs hR)
    exact⟨_::cs',s',f',by simpa using q1, .cons hfact q2,q3⟩
   |none=>
   rw[hins]at h1;dsimp only at h1;rw[<-G8 hN]at h1;generalize hrd:Cq ops o E R=rd at h1;obtain⟨⟨v,ef,Lo,nx'⟩,h2,h3⟩:=zl.1 h1;unfold dK at h3;split at h3
   case h_2=>cases h3
   rename_i hb;rw[aer]at h2 hb;simp only at h3 hb;unfold rcB at hb;simp only[zh,Nat.ble_eq,yO]at hb;obtain⟨⟨⟨hb1,hb2⟩,hb3⟩,hb4⟩:=hb;have hin:aS.cE nx (gm rd R):=λq hq=>hR q (zW.1 hq).1;have hlE:(mJ f (ct ops o)).cE nx:=λq hq=>by
    obtain⟨t,_,ht⟩:=List.mem_filterMap.1 hq;obtain⟨d,hd1,hd2⟩:=zj.1 ht;rw[<-hd2];exact hfl t d hd1
   obtain⟨y1,y2⟩:=ai6 hF h2 (E:=mJ f (ct ops o)) (λt ht d hdd=>Dw ht (hf1 t d hdd)) hlE hin;have hal:∀p:Nat->Prop,(∀t∈ct ops o,∀d,f t=M d->gV p d)->aS.gV p (gm rd R)->∀i∈GD (ct ops o) E++aba (gm rd R),p i:=λp hp1 hp2 i hi=>by
    rcases zR.1 hi with hi|hi
    ·obtain⟨t,ht,hi⟩:=wk.1 hi;split at hi
     ·rename_i d hdd;exact Lw 3 (hp1 t ht d (hf1 t d hdd)) i hi
     ·cases hi
    ·obtain⟨q,hq,hi⟩:=wk.1 hi;obtain⟨g1,g2⟩:=hp2 q hq;rcases zk.1 hi with rfl|hi
     ·exact g1
     ·obtain⟨j,rr⟩:=q;cases rr with
      |row t l=>cases hi
      |mp es=>cases hi
      |md k e l=>cases hi
      |box T cs=>
       obtain⟨c,hc,hi⟩:=wk.1 hi;exact Lw 3 (g2 c hc) i hi
   obtain⟨t1,t2,t3⟩:=ai3 (ahp ops ps cs E) rd R Lo;rw[aer]at h3;generalize trim (ahp ops ps cs E) rd (gm rd R) Lo=tr at h3 t1 t2 t3;obtain⟨wr,Lo'⟩:=tr;have hids:∀p:Nat->Prop,(∀t∈ct ops o,∀d,f t=M d->gV p d)->aS.gV p (gm rd R)->gV (λi=>p i\/(nx<=i/\i<nx')) v/\(ef=Z->aS.gV (λi=>p i\/(nx<=i/\i<nx')) Lo'):=λp hp1 hp2=>
    ⟨(DA 4 hb3).mono λi hi=>(KP hi).imp (hal p hp1 hp2 i) id,λhe q hq=>((awa (hb4.resolve_left (by rw[he];simp))).mono λi hi=>hi.imp (hal p hp1 hp2 i) id) q (t2 q hq)⟩
   obtain⟨g1,g2⟩:=hids (λi=>i<nx) (λt _ d hdd=>hfl t d hdd) hin.lts;have hlt:∀i,(i<nx\/(nx<=i/\i<nx'))->i<nx':=λi hi=>aj;have hfact:ue P n ops o f R nx ⟨o.dst,v,ct ops o,rd,wr,ef,Lo',J⟩ nx':=⟨rfl,rfl,λhe=>hb2.resolve_left (by simp only at he;rw[he];simp),hd,hb1,λh=>iy rfl h, .inr (.inr ⟨hg,rfl,λρ C=>by
     cases ef with
     |true=>exact Ye.mono (y1 ρ C) λa σ' ⟨ρ',z1,z2,z3⟩=>⟨ρ',z1,z2,z3.trans (mO t3)⟩
     |false=>exact y2 rfl ρ C⟩),t1,hin,g1.mono hlt,λhe=>(aS.gV.mono (g2 he) hlt).oZ,hids⟩
   have hR':aS.cE nx' (Rc.R ⟨o.dst,v,ct ops o,rd,wr,ef,Lo',J⟩ R):=by
    cases ef with
    |false=>exact hR.mono hb1
    |true=>exact λq hq=>(zR.1 hq).elim (λhq=>((aS.gV.mono (g2 rfl) hlt).oZ) q hq) λhq=>(hR.mono hb1) q (zW.1 hq).1
   have h4:Yl P F n ops ps l (cs++[⟨o.dst,v,ct ops o,rd,wr,ef,Lo',J⟩]) ⟨pe o.dst v E,Rc.R ⟨o.dst,v,ct ops o,rd,wr,ef,Lo',J⟩ R,nx'⟩ k=M r:=h3;obtain⟨cs',s',f',q1,q2,q3⟩:=Mo hF hN l (f:=Rc.F ⟨o.dst,v,ct ops o,rd,wr,ef,Lo',J⟩ f) h4 (QW rfl rfl hf1) (λt d hdd=>by
    unfold Rc.F at hdd;split at hdd
    ·cases hdd;exact g1.mono hlt
    ·exact cE.mono (hfl t d hdd) hb1) hR'
   exact⟨_::cs',s',f',by simpa using q1, .cons hfact q2,q3⟩
  ·obtain⟨E,R,nx⟩:=s1;obtain⟨E0,R0,nx0⟩:=s;subst e1 e2;have hin:aS.cE nx (gm [] R):=λq hq=>hR q (zW.1 hq).1;have hfact:ue P n ops o f R nx ⟨o.dst, .lit undef,ct ops o,[],[],false,[],none⟩ nx:=⟨rfl,rfl,λh=>(by cases h),hd,zx _,λh=>iy rfl h, .inl ⟨hg,rfl,rfl,rfl⟩,λ_ h=>(by cases h),hin, .lit _,λh=>(by cases h),λp _ _=>⟨.lit _,λh=>(by cases h)⟩⟩;have h2:Yl P F n ops ps l (cs++[⟨o.dst, .lit undef,ct ops o,[],[],O,[],J⟩]) ⟨pe o.dst (.lit undef) E,R,nx⟩ k=M r:=h1;obtain⟨cs',s',f',q1,q2,q3⟩:=Mo hF hN l (f:=Rc.F ⟨o.dst, .lit undef,ct ops o,[],[],O,[],J⟩ f) h2 (QW rfl rfl hf1) (λt d hdd=>by
    unfold Rc.F at hdd;split at hdd
    ·cases hdd;exact .lit _
    ·exact hfl t d hdd) hR
   exact⟨_::cs',s',f',by simpa using q1, .cons hfact q2,q3⟩
section
variable {P:Program} {n:Nat} {ops:Array Oper}
def Ch.idx{f f':Fr}{R R':aS}{nx nx':Nat}{os:aa Oper}{cs:aa Rc}(h:Ch P n ops f R nx os cs f' R' nx'):zZ cs=zZ os/\f'=gL cs (zq (zZ cs) Z) f/\R'=eD cs (zq (zZ cs) Z) R/\
  ∃g:Nat->Nat,g 0=nx/\g os.length=nx'/\(∀i,i<zZ os->g i<=g (i+1))/\∀(i:Nat) o c,os[i]? =M o->cs[i]? =M c->ue P n ops o (gL (cs.take i) (zq i Z) f) (eD (cs.take i) (zq i Z) R) (g i) c (g (i+1)):=by
 induction h with
 |nil f R nx=>exact⟨rfl,rfl,rfl,λ_=>nx,rfl,rfl,λi hi=>by simp at hi,λi o c h=>by cases h⟩
 |@cons f f' R R' nx nx1 nx' o os c cs h hs ih=>
  obtain⟨h1,h2,h3,g,g0,g1,g2,g3⟩:=ih;refine⟨by simp[h1],by rw[h2];rfl,by rw[h3];rfl,λi=>match i with|0=>nx|i+1=>g i,rfl,g1,λi hi=> ?_,λi o' c' q1 q2=> ?_⟩
  ·cases i with
   |zero=>show nx<=g 0;rw[g0];exact h.le
   |succ i=>exact g2 i (by simpa using hi)
  ·cases i with
   |zero=>cases q1;cases q2;show ue P n ops o f R nx c (g 0);rw[g0];exact h
   |succ i=>exact g3 i o' c' q1 q2
def ahM{g:Nat->Nat}{N:Nat}(h:∀i,i<N->g i<=g (i+1)):∀i j,i<=j->j<=N->g i<=g j:=λi j hij hj=>by
 induction j with
 |zero=>
  have:i=0:=aj;subst this;exact zx _
 |succ j ih=>
  grind
def pg:aa Bool->Nat
 |[]=>0
 |b::bs=>(match b with|Z=>0|O=>1)+pg bs
def PW:∀{bs:aa Bool} {i:Nat},bs[i]? =M O->pg bs=pg (bs.set i Z)+1
 |[],_,h=>by cases h
 |b::bs,0,h=>by
  simp only[List.getElem?_cons_zero,zJ.injEq]at h;subst h;show 1+pg bs=(0+pg bs)+1;omega
 |b::bs,i+1,h=>by
  have:=PW (bs:=bs) (i:=i) (by simpa using h);cases b with
  |true=>
   show 0+pg bs=(0+pg (bs.set i Z))+1;omega
  |false=>
   show 1+pg bs=(1+pg (bs.set i Z))+1;omega
def Om:∀N:Nat,pg (zq N O)=N
 |0=>rfl
 |N+1=>by rw[yM];show 1+pg (zq N O)=N+1;rw[Om N];omega
def IW:∀{bs:aa Bool},pg bs=0->bs=zq (zZ bs) Z
 |[],_=>rfl
 |b::bs,h=>by
  cases b with
  |true=>rw[ya,yM,<-IW (bs:=bs) (by have:0+pg bs=0:=h;omega)]
  |false=>have:1+pg bs=0:=h;omega
def NC:∀{bs:aa Bool},pg bs≠0->∃i:Nat,bs[i]? =M O/\∀j,j<i->bs[j]? =M Z
 |[],h=>iy rfl h
 |b::bs,h=>by
  cases b with
  |false=>exact⟨0,rfl,λj hj=>aj⟩
  |true=>
   obtain⟨i,h1,h2⟩:=NC (bs:=bs) (λe=>h (by show 0+pg bs=0;omega));refine⟨i+1,h1,λj hj=> ?_⟩;cases j with
   |zero=>rfl
   |succ j=>exact h2 j aj
def mem_ready{listed:Array Bool}{i:Nat}:i∈Region.ready .any ops listed↔i<ops.size/\listed.getD i Z=O/\∃o,ops[i]? =M o/\∀e∈o.after.toList,Region.binds .any e=Z->listed.getD e.on O=Z:=by
 unfold Region.ready;simp only[zW,xM,zh,Bool.not_eq_true'];refine and_congr_right λhi=>and_congr_right λ_=> ?_;rw[xC hi];simp only[z8,yE,zJ.injEq,exists_eq_left'];rw[Array.all_eq_true'];constructor
 ·intro h e he hb;have:=h e (by simpa using he);rw[hb]at this
  assumption
 ·intro h e he;cases hb:Region.binds .any e with
  |false=>rfl
  |true=>simpa using h e (by simpa using he) hb
def Bi{listed:Array Bool}{i:Nat}(hi:i<listed.size):listed.getD i Z=O↔listed.toList[i]? =M O:=by
 rw[Array.getD_eq_getD_getElem?,xC hi,zD (by simpa using hi)];simp
def GS{listed:Array Bool}{i:Nat}:listed.getD i O=Z↔listed.toList[i]? =M Z:=by
 cases h:listed[i]? with
 |none=>simp[h]
 |some b=>simp[h]
def axQ{C:Cg}{cs:aa Rc}{f0:Fr}{R0:aS}{nx0:Nat}{g:Nat->Nat}{ds:aa Deferred}{Q:Exit->Act->World->Prop}
  (hlen:zZ cs=ops.size) (g0:g 0=nx0) (gn:C.n<=nx0) (g2:∀i,i<ops.size->g i<=g (i+1)) (hf:∀(i:Nat) o c,ops.toList[i]? =M o->cs[i]? =M c->ue P n ops o (gL (cs.take i) (zq i Z) f0) (eD (cs.take i) (zq i Z) R0) (g i) c (g (i+1)))
  (hcf:∀(i j:Nat) (c d:Rc),j<i->cs[j]? =M c->cs[i]? =M d->CF c d\/∀bs,GK ops.toList bs->(∀o,ops.toList[i]? =M o->Rdy bs o)->bs[j]? =M Z)
  (hback:∀(i:Nat) o,ops.toList[i]? =M o->∀e∈o.after.toList,Region.binds .any e=Z->e.on<i)
  (hQ:∀a w,a.defers=ds->MtS C n (λi=>i<g ops.size) (gL cs (zq (zZ cs) Z) f0) (eD cs (zq (zZ cs) Z) R0) a w->Q .normal a w):
  ∀(fuel:Nat) (listed:Array Bool) (a:Act) (w:World),listed.size=ops.size->pg listed.toList=fuel->GK ops.toList listed.toList->a.defers=ds->
   MtS C n (λx=>x<nx0\/∃j:Nat,listed.toList[j]? =M Z/\g j<=x/\x<g (j+1)) (gL cs listed.toList f0) (eD cs listed.toList R0) a w->wpAny P .any ops Q fuel listed a w:=by
 have hmono:=ahM (N:=ops.size) (g:=g) g2;intro fuel;induction fuel with
 |zero=>
  intro listed a w hs hc hcl hda hm;have hall:=IW hc;have hfin:Q .normal a w:=by
   refine hQ a w hda ?_;rw[hall,show zZ listed.toList=zZ cs from by rw[hlen,<-hs];simp]at hm;obtain⟨E,ρ,q1,q2,q3,q5,q4⟩:=hm;have hle:∀i,(i<nx0\/∃j:Nat,(zq (zZ cs) Z)[j]? =M Z/\g j<=i/\i<g (j+1))->i<g ops.size:=λi hi=>by
    rcases hi with hi|⟨j,hj,_,hj3⟩
    ·have:=hmono 0 ops.size (yu _) (zx _);omega
    ·have hj':j<zZ cs:=by simpa using (zU.1 hj).1
     have:=hmono (j+1) ops.size aj (zx _);omega
   exact⟨E,ρ,q1,λq hq=>(q2 q hq).mono hle,q3.mono hle,q5,q4⟩
  refine⟨?_,hfin⟩;rw[List.eq_nil_iff_forall_not_mem];intro i hi;obtain⟨h1,h2,_⟩:=mem_ready.1 hi;rw[Bi aj,hall,wW]at h2;split at h2<;>cases h2
 |succ fuel ih=>
  intro listed a w hs hc hcl hda hm;refine⟨λhr=> ?_,λi hi=> ?_⟩
  ·
   exfalso;obtain⟨i,h1,h2⟩:=NC (bs:=listed.toList) aj;have hil:i<listed.size:=by simpa using (zU.1 h1).1
   have hio:i<ops.size:=aj;have:i∈Region.ready .any ops listed:=mem_ready.2 ⟨hio,(Bi hil).2 h1,ops[i],xC hio,λe he hb=>GS.2 (h2 _ (hback i ops[i] (by simp[hio]) e he hb))⟩;simp_all
  ·obtain⟨hio,h2,o,ho,hrd⟩:=mem_ready.1 hi;have hil:i<listed.size:=aj;have hbi:=(Bi hil).1 h2;have hol:ops.toList[i]? =M o:=by simpa using ho
   have hRdy:Rdy listed.toList o:=λe he hb=>GS.1 (hrd e he hb);obtain⟨c,hci⟩:∃c,cs[i]? =M c:=⟨_,zD aj⟩;have fact:=hf i o c hol hci;obtain⟨s1,s2,s3,s4,s5⟩:=aew (cs:=cs) (bs:=listed.toList) (i:=i) (c:=c) f0 R0 (by rw[hlen,<-hs];simp) hci hbi
    (λj d hji hd hbj=>(hcf i j d c hji hd hci).resolve_right λh=>by
     have:=h listed.toList hcl (λo' ho'=>by rw[hol]at ho';cases ho';exact hRdy);rw[hbj]at this;cases this)
    (λj d hij hd hbj=>((hcf j i c d hij hci hd).resolve_right λh=>by
     have hjo:j<ops.size:=by have:=(zU.1 hd).1;omega
     have:=h listed.toList hcl (λo' ho'=>hcl j o' ho' hbj);rw[hbi]at this;cases this).symm)
   have eset:(listed.setIfInBounds i Z).toList=listed.toList.set i Z:=Array.toList_setIfInBounds ..;have hcl':GK ops.toList (listed.toList.set i Z):=λj o' ho' hbj e he hb=>by
    have hmono':∀k,listed.toList[k]? =M Z->(listed.toList.set i Z)[k]? =M Z:=λk hk=>by
     rw[List.getElem?_set];split
     ·rename_i hik;rw[bO (by simpa using hil)]
     ·exact hk
    by_cases hij:i=j
    ·subst hij;rw[hol]at ho';cases ho';exact hmono' _ (hRdy e he hb)
    ·rw[List.getElem?_set_ne hij]at hbj;exact hmono' _ (hcl j o' ho' hbj e he hb)
   have hpn:∀x,(x<nx0\/∃j:Nat,listed.toList[j]? =M Z/\g j<=x/\x<g (j+1))->¬(g i<=x/\x<g (i+1)):=λx hx hr=>by
    rcases hx with hx|⟨j,hj,hj2,hj3⟩
    ·have:=hmono 0 i (yu _) aj;omega
    ·have hne:j≠i:=λe=>by rw[e,hbi]at hj;cases hj
     have hjl:j<ops.size:=by
      have:j<zZ listed.toList:=(zU.1 hj).1;have h3:zZ listed.toList=listed.size:=by simp
      omega
     by_cases hlt:j<i
     ·have:=hmono (j+1) i aj aj;omega
     ·have:=hmono (i+1) j aj aj;omega
   have hweak:∀x,((x<nx0\/∃j:Nat,listed.toList[j]? =M Z/\g j<=x/\x<g (j+1))\/(g i<=x/\x<g (i+1)))->(x<nx0\/∃j:Nat,(listed.toList.set i Z)[j]? =M Z/\g j<=x/\x<g (j+1)):=λx hx=>by
    rcases hx with (hx|⟨j,hj,hj2⟩)|hx
    ·exact .inl hx
    ·refine .inr ⟨j,?_,hj2⟩;rw[List.getElem?_set];split
     ·rw[bO (by simpa using hil)]
     ·exact hj
    ·refine .inr ⟨i,?_,hx⟩;rw[List.getElem?_set_self (by simpa using hil)]
   have cont:∀a' w',a'.defers=ds->MtS C n (λx=>(x<nx0\/∃j:Nat,listed.toList[j]? =M Z/\g j<=x/\x<g (j+1))\/(g i<=x/\x<g (i+1))) (c.F (gL cs listed.toList f0)) (c.R (eD cs listed.toList R0)) a' w'->wpAny P .any ops Q fuel (listed.setIfInBounds i Z) a' w':=λa' w' hda' hm'=>by
    refine ih (listed.setIfInBounds i Z) a' w' (by simp[hs]) ?_ (by rw[eset];exact hcl') hda' ?_
    ·rw[eset];have:=PW hbi;omega
    ·rw[eset,<-s3];obtain⟨E,ρ,q1,q2,q3,q5,q4⟩:=hm'.pm s4;exact⟨E,ρ,q1,λq hq=>(q2 q hq).mono hweak,q3.mono hweak,q5,q4⟩
   have hgate:∀wn,Cd ops o (gL (cs.take i) (zq i Z) f0) wn->Region.wanted o (yielded ops a.tmps)=wn:=λwn hg=>by
    unfold Cd at hg;cases hgd:o.guard with
    |none=>
     rw[hgd]at hg;simp only at hg;rw[hg];unfold Region.wanted;rw[hgd]
    |some jw=>
     obtain⟨j,want⟩:=jw;rw[hgd]at hg;obtain⟨t,hj,hg⟩:=hg;have hts:t∈c.sl:=by
      rw[fact.sl];unfold ct apF;rw[hgd];simp only[hj];exact ym _ (zA.2 rfl)
     obtain⟨E,ρ,q1,_,_,_,q4⟩:=hm;obtain⟨w1,w2⟩:=I9 (ρ:=ρ) hgd hj (E:=E);rcases hg with ⟨b,hb,hw⟩|⟨vs,hb,hw⟩
     ·rw[hw];exact jN.spec q4.slots (w1 b (q1 _ _ (by rw[s1 t hts];exact hb)))
     ·rw[hw];exact jN.spec q4.slots (w2 vs (q1 _ _ (by rw[s1 t hts];exact hb)))
   unfold wpOp;simp only[ho];rcases fact.run with ⟨hg,hv,hef,hci0⟩|⟨si,hg,hci0,hv,hlt,hseen,hy⟩|⟨hg,hci0,hy⟩
   ·rw[bP (by rw[hgate _ hg];exact Bool.false_ne_true)];obtain⟨E,ρ,q1,q2,q3,q5,q4⟩:=hm;have hR:c.R (eD cs listed.toList R0)=eD cs listed.toList R0:=by unfold Rc.R;rw[hci0,hef]
    refine cont _ _ (by rw[<-hda];cases o.dst<;>rfl) ?_;rw[hR];cases hdo:o.dst with
    |none=>exact⟨E,ρ,λt d ht=>q1 t d (by unfold Rc.F at ht;rw[fact.dst,hdo]at ht;simpa using ht),λq hq=>(q2 q hq).mono λ_ h=> .inl h,q3.mono λ_ h=> .inl h,q5,q4⟩
    |some t=>
     refine⟨(t, .lit undef)::E,ρ,λs d hsd=> ?_,λq hq=> ?_,q3.mono λ_ h=> .inl h,q5,?_⟩
     ·unfold Rc.F at hsd;rw[fact.dst,hdo,hv]at hsd;by_cases hts:t=s
      ·subst hts;rw[bO rfl]at hsd;cases hsd;exact Env.ew _ _ _
      ·rw[bP (λe=>hts (zJ.inj e))]at hsd;rw[Env.dH _ _ hts];exact q1 s d hsd
     ·rcases zk.1 hq with rfl|hq
      ·exact .lit _
      ·exact(q2 q hq).mono λ_ h=> .inl h
     ·have hdn:=fact.dn;rw[hdo]at hdn;have:=q4.put (av:= .lit undef) (v:=undef) hdn (.lit _);show lH C.C n ((t,bU.sub ρ (.lit undef))::E.sub ρ) _ _ _;rw[bL];exact this
   ·rw[bO (hgate _ hg)];refine .inl ?_;have hle:mJ (gL cs listed.toList f0) c.sl=mJ (gL (cs.take i) (zq i Z) f0) c.sl:=F5 s1;obtain⟨es,e1,e2⟩:=s5 si hci0 hseen;obtain⟨E,ρ,q1,q2,q3,q5,q4⟩:=hm;have hmem:(si.id,IR.mp es)∈eD cs listed.toList R0:=(zW.1 (show _∈gm [si.id] _ by rw[e1];exact zA.2 rfl)).1;have hgi:g i<=g (i+1):=g2 i hio;have eo:fm [si.id] [(si.id,IR.mp es)]=[]:=by simp[fm,cS]
    have hRR:List.Perm (Rc.R ⟨c.dst,c.v,c.sl,[si.id],[si.id],Z,[(si.id, .mp (oV si.n si.v es))],J⟩ (eD cs listed.toList R0)) (c.R (eD cs listed.toList R0)):=by
     have h1:c.R (eD cs listed.toList R0)=iW si (eD cs listed.toList R0):=by unfold Rc.R;rw[hci0]
     have h2:List.Perm (gm [si.id] (eD cs listed.toList R0)++fm [si.id] (eD cs listed.toList R0)) (eD cs listed.toList R0):=wX _ _;have h3:iW si (gm [si.id] (eD cs listed.toList R0)++fm [si.id] (eD cs listed.toList R0))=[(si.id, .mp (oV si.n si.v es))]++fm [si.id] (eD cs listed.toList R0):=by
      have h4:iW si (fm [si.id] (eD cs listed.toList R0))=fm [si.id] (eD cs listed.toList R0):=BX λq hq e=>by
       have:=(zW.1 hq).2;rw[e]at this;simp[cS]at this
      unfold iW at h4 ⊢;rw[zH,h4,e1];show [gN si (si.id, .mp es)]++_=_;rw[ku rfl]
     rw[h1];have h5:=h2.map (gN si);exact(List.Perm.of_eq h3.symm).trans h5
    refine abD (c:=⟨c.dst,c.v,c.sl,[si.id],[si.id],Z,[(si.id, .mp (oV si.n si.v es))],J⟩) rfl (nx:=g i) (nx':=g (i+1)) (by have:=hmono 0 i (yu _) aj;omega) ⟨E,ρ,q1,q2,q3,q5,q4⟩ fact.dst fact.dn (λ_ h=>h) (by
      dsimp only;rw[hle,hv,e1,eo,yN];exact hy es e2) hpn fact.lv (by
      dsimp only;rw[e1];intro q hq;rw[zA.1 hq];exact⟨hlt,trivial⟩) (λ_ q hq=>by
      rw[zA.1 hq];exact⟨yW hlt hgi,trivial⟩) (by
      dsimp only;rw[hv];exact .lit _) (λ_ q hq=>by
      rw[zA.1 hq];exact⟨.inl (q3 _ hmem).1,trivial⟩) λa' w' hd' hm'=>cont a' w' (hd'.trans hda) (hm'.perm hRR)
   ·rw[bO (hgate _ hg)];refine .inl ?_;have hle:mJ (gL cs listed.toList f0) c.sl=mJ (gL (cs.take i) (zq i Z) f0) c.sl:=F5 s1;obtain⟨E,ρ,q1,q2,q3,q5,q4⟩:=hm;have hids:=fact.ids (λx=>x<nx0\/∃j:Nat,listed.toList[j]? =M Z/\g j<=x/\x<g (j+1)) (λt ht d hd=>by
     rw[<-s1 t ht]at hd;exact q2 _ (Env.get_mem (q1 t d hd))) (by rw[<-s2];exact λq hq=>q3 q (zW.1 hq).1)
    exact abD hci0 (nx:=g i) (nx':=g (i+1)) (by have:=hmono 0 i (yu _) aj;omega) ⟨E,ρ,q1,q2,q3,q5,q4⟩ fact.dst fact.dn fact.wr (by rw[hle,s2];exact hy) hpn fact.lv (by rw[s2];exact fact.lin) fact.lo hids.1 hids.2 λa' w' hd' hm'=>cont a' w' (hd'.trans hda) hm'
def H9{α:Type}{r:α}{F:aT}{C:Cg}{s:St}{a:Act}{w:World}{k:St->af α}(hF:gR P F)(hN:dF F)(h:Ft P F n ops s k=M r)(hm:Mt C n s a w):
  P.follows .mixedOrders=Z/\wpAny P .any ops (λe a' w'=>e= .normal/\a'.defers=a.defers/\∃s',k s'=M r/\Mt C n s' a' w') ops.size (Array.replicate ops.size O) a {w with drawn:=w.drawn+1}:=by
 unfold Ft at h;split at h
 case h_2=>cases h
 rename_i hb;simp only[zh]at hb;split at h
 case h_2=>cases h
 rename_i ps hps;obtain⟨E,hh,hE,hR,ρ,hag,hsim⟩:=hm;obtain⟨cs,s',f',q1,q2,q3⟩:=Mo hF hN ops.toList (f:=cF s.E) h (λt d h=>h) (λt d hd=>Env.abQ (x:= .tmp t) hE (hh t d hd)) hR;split at q1
 case h_2=>cases q1
 rename_i hpo;obtain⟨l1,l2,l3,g,g0,g1,g2,g3⟩:=q2.idx;have hN:zZ ops.toList=ops.size:=by simp
 refine⟨hb.1,?_⟩;refine axQ (C:=C) (cs:=cs) (f0:=cF s.E) (R0:=s.R) (nx0:=s.nx) (g:=g) (ds:=a.defers) (by rw[l1,hN]) g0 hag.2 (by rw[<-hN];exact g2) g3 (λi j c d hji hc hd=>aky hps hpo (λi c hc=>by
   obtain⟨o,ho⟩:∃o,ops.toList[i]? =M o:=⟨_,zD (by rw[<-l1];exact(zU.1 hc).1)⟩;have:=g3 i o c ho hc;exact⟨o,ho,this.dst,this.sl,this.ef,this.wr,this.fi⟩) hji hc hd) (λi o ho e he hbe=>by have:=Qs hb.2 i o ho e he hbe;omega) (λa' w' hd' hm'=> ?_) ops.size (Array.replicate ops.size O) a _ (by simp) (by rw[Array.toList_replicate,Om]) (λi o _ hbi=> ?_) rfl ?_
 ·refine⟨rfl,hd',s',q1,?_⟩;rw[<-l2,<-l3]at hm';obtain⟨E',ρ',p1,p2,p3,p5,p4⟩:=hm';rw[hN]at g1;rw[g1]at p2 p3;exact⟨E',λt d hd=>p1 t d (q3 t d hd),p2,p3.oZ,ρ',⟨p5,by have:=ahM (N:=zZ ops.toList) g2 0 (zZ ops.toList) (yu _) (zx _);rw[g0,hN,g1]at this;have h7:=hag.2;omega⟩,p4⟩
 ·rw[Array.toList_replicate,wW]at hbi;split at hbi<;>cases hbi
 ·have nF:∀(cs:aa Rc) (n:Nat) (f:Fr),gL cs (zq n O) f=f:=λcs=>by
   induction cs with
   |nil=>intro n f;rfl
   |cons d cs ih=>
    intro n f;cases n with
    |zero=>rfl
    |succ n=>rw[yM];exact ih n f
  have nR:∀(cs:aa Rc) (n:Nat) (R:aS),eD cs (zq n O) R=R:=λcs=>by
   induction cs with
   |nil=>intro n f;rfl
   |cons d cs ih=>
    intro n f;cases n with
    |zero=>rfl
    |succ n=>rw[yM];exact ih n f
  rw[Array.toList_replicate,nF,nR];exact⟨E,ρ,hh,λq hq=>gV.mono (hE q hq) λi hi=> .inl hi,(aS.gV.mono hR.lts λi hi=> .inl hi),hag.1,hsim.drew⟩
def acr{α:Type}{r:α}{F:aT}{C:Cg}{s:St}{a:Act}{w:World}{id:Nat}{k:St->af α}(hF:gR P F)(hN:dF F)(h:Ft P F n ops s k=M r)(hm:Mt C n s a w):
  (Code.region id ops Z).wp P (λe a' w'=>e= .normal/\a'.defers=a.defers/\∃s',k s'=M r/\Mt C n s' a' w') a w:=by
 obtain⟨h1,h2⟩:=H9 hF hN h hm;exact wp_region_any h1 h2
end
section
variable {α:Type} {r:α} {P:Program} {F:aT} {C:Cg} {n:Nat}
def Cr(P:Program)(F:aT)(n:Nat)(_:Nat)(ops:Array Oper)(draw:Bool)(s:St)(k:gz α):af α:=match draw with
 |false=>fJ P F n ops ops.toList s (k .normal)
 |true=>Ft P F n ops s (k .normal)
def exec(P:Program)(F:aT)(n:Nat)(fuel:Nat)(c:Code):St->gz α->af α:=
 Code.rec agG (Cr P F n) (λ_ _=>aAT) (λc _ _=>at9 c) (λid _=>ams id) (λ_=>ab0 fuel) (λ_ _ _ _ _ _=>JL) agJ (λ_ _=>JL) (λ_=>JL) (λ_=>JL) aph (λ_=>JL) c
def qK(P:Program)(F:aT)(fuel:Nat)(f:FuncId)(args:aa AV)(R:aS)(nx:Nat)(k:AV->aS->Nat->af α):af α:=match P.funcs[f]? with
 |some fn=>match fn.body with
  |some c=>match z7 (zZ args) fn.ntmps&& !(fn.name=="runtime.NumGoroutine")with
   |true=>exec (α:=α) P F fn.ntmps fuel c ⟨NI 0 args .e,R,nx⟩ λe s=>match e with
    | .normal=>(HG P s fn.results.toList).bind λds=>k (iK ds) (Qn s.R nx (iK ds) args) s.nx
    | .ret=>(HG P s fn.results.toList).bind λds=>k (iK ds) (Qn s.R nx (iK ds) args) s.nx
    |_=>J
   |false=>J
  |none=>J
 |none=>J
def oK(P:Program)(F0:aT)(has:FuncId->Bool)(fuel:Nat):Nat->aT
 |0=>F0
 |m+1=>λα f args R nx k=>match has f with
  |true=>F0 α f args R nx k
  |false=>qK P (oK P F0 has fuel m) fuel f args R nx k
def Ends(P:Program)(C:Cg)(n:Nat)(c:Code)(k:gz α)(r:α)(a:Act)(w:World):Prop:=c.wp P (λe a' w'=>∃s',k e s'=M r/\Mt C n s' a' w') a w
def YV(P:Program)(C:Cg)(n:Nat)(c:Code)(x:St->gz α->af α):Prop:=∀(r:α) (s:St) (k:gz α) (a:Act) (w:World),x s k=M r->Mt C n s a w->Ends P C n c k r a w
def MS{c:Operand}{s:St}{x y:St->af α}(h:pZ c s x y=M r){a:Act}{w:World}(hm:Mt C n s a w):∃(b:Bool) (s':St),a.eval c= .bool b/\Mt C n s' a w/\(match b with|Z=>x s'|O=>y s')=M r:=by
 unfold pZ at h;split at h
 ·rename_i t;split at h
  case h_2=>cases h
  rename_i b hb;have hev:a.eval (.tmp t)= .bool b:=by
   obtain⟨E,hh,_,_,ρ,_,hs⟩:=hm;refine UT hs ?_;have h1:=hh t _ hb;show Env.get (E.sub ρ) t=_;rw[Env.eR,h1,z8,bL]
  refine⟨b,s.gq t b,hev,hm.gq hb,?_⟩;unfold afY at h;grind
 ·exact⟨Z,s,rfl,hm,h⟩
 ·exact⟨O,s,rfl,hm,h⟩
 ·cases h
def GY(hF:gR P F)(hN:dF F)(id:Nat)(ops:Array Oper)(draw:Bool):YV (α:=α) P C n (.region id ops draw) (Cr P F n id ops draw):=λr s k a w h hm=>by
 cases draw with
 |false=>
  refine wp_mono (wp_region_lit (vA hF _ h hm)) λe a' w' ⟨he,_,s',h1,h2⟩=> ?_;simp_all
 |true=>
  refine wp_mono (acr hF hN h hm) λe a' w' ⟨he,_,s',h1,h2⟩=> ?_;simp_all
def Ii{c:Code}{x:St->gz α->af α}(hx:YV P C n c x)(fuel:Nat):YV P C n (.loop c) (ab0 fuel x):=λr s k a w h hm=>by
 have key:∀(m:Nat) (s:St) (a:Act) (w:World),FP x k m s=M r->Mt C n s a w->c.wp P (Exit.then (InL P c λe a' w'=>∃s',k e s'=M r/\Mt C n s' a' w') λe a' w'=>∃s',k e s'=M r/\Mt C n s' a' w') a w:=by
  intro m;induction m with
  |zero=>intro s a w h;cases h
  |succ m ih=>
   intro s a w h hm;refine wp_mono (hx r s _ a w h hm) λe a' w' ⟨s',h1,h2⟩=> ?_;cases e with
   |normal=>exact P3 (ih s' a' w' h1 h2)
   |_=>exact⟨s',h1,h2⟩
 exact Il (key fuel s a w h hm)
def ak4(hF:gR P F)(hN:dF F)(fuel:Nat)(c:Code):YV (α:=α) P C n c (exec P F n fuel c):=by
 induction c with
 |skip=>exact λr s k a w h hm=>wp_skip ⟨s,h,hm⟩
 |region id ops draw=>exact GY hF hN id ops draw
 |seq x y hx hy=>
  intro r s k a w h hm;refine wp_seq (wp_mono (hx r s _ a w h hm) λe a' w' ⟨s',h1,h2⟩=> ?_);cases e with
  |normal=>exact hy r s' k a' w' h1 h2
  |_=>exact⟨s',h1,h2⟩
 |cond c x y hx hy=>
  intro r s k a w h hm;obtain⟨b,s',he,hm',h'⟩:=MS (show pZ c s _ _=M r from h) hm;cases b with
  |true=>exact wp_cond_true he (hx r s' k a w h' hm')
  |false=>exact wp_cond_false he (hy r s' k a w h' hm')
 |block id x hx=>
  intro r s k a w h hm;refine wp_block (wp_mono (hx r s _ a w h hm) λe a' w' ⟨s',h1,h2⟩=> ?_);cases e with
  |exit id'=>
   simp only[pF]at h1;simp only[Exit.inBlock];split
   ·rename_i he;subst he;have hb:zg id' id'=Z:=yQ _;simp only[hb]at h1;exact⟨s',h1,h2⟩
   ·rename_i he;have hb:zg id' id=O:=by
     cases hb:zg id' id with
     |false=>rfl
     |true=>exact iy (yI hb) he
    grind
  |_=>exact⟨s',h1,h2⟩
 |loop c hc=>exact Ii hc fuel
 |exit i=>exact λr s k a w h hm=>wp_exit ⟨s,h,hm⟩
 |ret=>exact λr s k a w h hm=>wp_ret ⟨s,h,hm⟩
 |_=>exact λr s k a w h hm=>by cases h
def AR(nx:Nat)(ids:aa Nat):∀R:aS,List.Sublist (PT nx ids R) R
 |[]=> .slnil
 |p::R=>by
  have ih:=AR nx ids R;show List.Sublist (Bool.rec (Bool.rec (PT nx ids R) (p::PT nx ids R) (cS p.1 ids)) (p::R) (zB p.1 nx)) (p::R);cases zB p.1 nx with
  |true=>exact List.Sublist.refl _
  |false=>
   cases cS p.1 ids with
   |true=>exact ih.cons_cons p
   |false=>exact ih.cons p
def ajO{s:St}{E:Env}{ρ:Gh}{rv:ResultVar}{d:AV}(h:ahu P s rv=M d)(hh:pP s.E E):sH P (E.sub ρ) (aS.res ρ s.R) rv (d.sub ρ):=by
 unfold ahu at h;split at h
 ·rename_i t;refine .tmp ?_;rw[Env.eR,hh t d h];rfl
 ·rename_i t ty;split at h
  case h_2=>cases h
  rename_i id hp;have hp':Env.get (E.sub ρ) t=M (.lit (.pointer (M ⟨ρ.b id,0,J⟩))):=by
   rw[Env.eR,hh t _ hp,z8,bU.sub]
  split at h
  case h_2=>cases h
  rename_i T cs hr;obtain⟨i,hi,_⟩:=dG hr;have hres:=fB (ρ:=ρ) hi;split at h
  ·rename_i h1;refine .az7 i hp' hres (rD h1) ?_;rw[zP,h];rfl
  ·split at h
   case h_2=>cases h
   rename_i m hm;split at h
   case h_2=>cases h
   rename_i hl;cases h;rw[eS];refine .aCl i hp' hres (PE hm) ?_;rw[zF];exact fL hl
def adU{s:St}{nx:Nat}{rv:ResultVar}{d:AV}(h:ahu P s rv=M d){E:Env}(hh:pP s.E E)(hE:E.cE nx)(hR:aS.cE nx s.R):cE nx d:=by
 unfold ahu at h;split at h
 ·rename_i t;exact hE _ (Env.get_mem (hh t d h))
 ·split at h
  case h_2=>cases h
  split at h
  case h_2=>cases h
  rename_i id _ T cs hr;have hL:=FJ hr hR;split at h
  ·exact hL.2 _ (List.mem_of_getElem? h)
  ·split at h
   case h_2=>cases h
   split at h
   case h_2=>cases h
   cases h;exact .agg _ hL.2
def Mg{s:St}{E:Env}{ρ:Gh}(hh:pP s.E E){A:Nat->Prop}{w:World}{tmps:Array Value}(hd:Hd A (aS.res ρ s.R) w)(hs:gX A w (E.sub ρ) tmps):∀{l:aa ResultVar} {ds:aa AV},HG P s l=M ds->
  ∃us,(l.mapM (pX tmps)).run P w= .ok us w/\bD A w (ds.map (bU.sub ρ)) us
 |[],ds,h=>by cases h;exact⟨[],rfl,bD.nil⟩
 |x::l,ds,h=>by
  unfold HG at h;split at h
  case h_2=>cases h
  rename_i d hx;obtain⟨ds',h1,h2⟩:=zj.1 h;subst h2;obtain⟨v,q1,q2⟩:=ajO (ρ:=ρ) hx hh A w tmps hd hs;obtain⟨us,q3,q4⟩:=Mg hh hd hs h1;refine⟨v::us,?_,bD.cons q2 q4⟩;simp[q1,q3]
def PL{s:St}{nx:Nat}{E:Env}(hh:pP s.E E)(hE:E.cE nx)(hR:aS.cE nx s.R):∀{l:aa ResultVar} {ds:aa AV},HG P s l=M ds->∀d∈ds,cE nx d
 |[],ds,h=>by cases h;simp
 |x::l,ds,h=>by
  unfold HG at h;split at h
  case h_2=>cases h
  rename_i d hx;obtain⟨ds',h1,h2⟩:=zj.1 h;subst h2;intro d' hd';rcases zk.1 hd' with rfl|hd'
  ·exact adU hx hh hE hR
  ·exact PL hh hE hR h1 d' hd'
def adr{nx:Nat}{ds:aa AV}(h:∀d∈ds,cE nx d):cE nx (iK ds):=by
 unfold iK;split
 ·simp_all
 ·exact .iF _ h
def NZ{ρ:Gh}{A:Nat->Prop}{w:World}{ds:aa AV}{us:aa Value}(h:bD A w (ds.map (bU.sub ρ)) us):Rel A w ((iK ds).sub ρ) (if h:us.toArray.size=1 then us.toArray[0]else .tuple us.toArray):=by
 unfold iK;split
 ·rename_i d;obtain⟨h1,h2⟩:=h
  match us,h1,h2 with
  |[u],_,h2=>exact h2 0 _ _ rfl rfl
 ·rename_i hn;have hl:zZ us=zZ ds:=by have:=h.1;simpa using this
  rw[dif_neg (by
   intro e
   match ds,hn with
   |[],_=>rw[yp,hl]at e;cases e
   |[d],hn=>exact hn d rfl
   |_::_::_,_=>rw[yp,hl]at e;simp at e),jJ]
  exact Rel.EN h
def AQ:∀(l:aa AV) (i:Nat) (T:ET) (E:Env),pP T E->(∀t d,cF T t=M d->t<i)->pP (NI i l T) (fD i l++E)
 |[],_,_,_,h,_=>h
 |d::l,i,T,E,h,hT=>by
  have h2:∀t d',cF (ig i d T) t=M d'->t<i+1:=λt d' ht=>by
   rcases qO ht with ⟨rfl,_⟩|⟨_,q⟩
   ·omega
   ·have:=hT t d' q;omega
  have:=AQ l (i+1) (ig i d T) ((i,d)::E) (h.put i d) h2;intro t v ht;have h1:Env.get (fD (i+1) l++(i,d)::E) t=M v:=this t v ht;show Env.get ((i,d)::(fD (i+1) l++E)) t=M v;have key:∀(l:aa AV) (j:Nat),i<j->Env.get (fD j l++(i,d)::E) t=Env.get ((i,d)::(fD j l++E)) t:=λl=>by
   induction l with
   |nil=>intro j _;rfl
   |cons u l ih=>
    intro j hj;show Env.get ((j,u)::(fD (j+1) l++(i,d)::E)) t=Env.get ((i,d)::(j,u)::(fD (j+1) l++E)) t;by_cases h1:j=t
    ·subst h1;rw[Env.ew,Env.dH _ _ aj,Env.ew]
    ·rw[Env.dH _ _ h1,ih (j+1) aj];by_cases h2:i=t
     ·subst h2;rw[Env.ew,Env.ew]
     ·rw[Env.dH _ _ h2,Env.dH _ _ h2,Env.dH _ _ h1]
  simp_all
def qI(ρ:Gh):∀(l:aa AV) (i:Nat),(fD i l).sub ρ=fD i (l.map (bU.sub ρ))
 |[],_=>rfl
 |d::l,i=>by show (i,d.sub ρ)::(fD (i+1) l).sub ρ=_;rw[qI ρ l];rfl
def qx:∀{l:aa AV} {i:Nat} {q:Nat×AV},q∈fD i l->q.2∈l
 |d::l,i,q,h=>by
  rcases zk.1 h with rfl|h
  ·simp
  ·exact zM _ (qx h)
def adB{xs:aa AV}{fn:Func}{C:Cx}{ρ:Gh}{nx:Nat}{s:St}{a:Act}{w:World}{k:AV->aS->Nat->af α}{e:Exit}(he:e= .normal\/e= .ret)(h:((HG P s fn.results.toList).bind λds=>k (iK ds) (Qn s.R nx (iK ds) xs) s.nx)=M r)(hm:Mt ⟨C,ρ,nx⟩ n s a w):
  ∃E' σ',lH C n E' σ' a w/\aaD P C n fn (λa s=>∃d R' nx',k d R' nx'=M r/\nx<=nx'/\cE nx' d/\aS.cE nx' R'/\∃ρ',nc nx ρ ρ'/\a=d.sub ρ'/\List.Perm s (aS.res ρ' R')) e E' σ':=by
 obtain⟨E,hh,hE,hR,ρ',⟨hag,hnx⟩,hsim⟩:=hm;obtain⟨ds,h1,h2⟩:=zl.1 h;have hsub:List.Sublist (Qn s.R nx (iK ds) xs) s.R:=AR _ _ _;refine⟨_,_,hsim,Ue (σ':=aS.res ρ' (Qn s.R nx (iK ds) xs)) (av:=(iK ds).sub ρ') he (hsub.map _) ⟨_,_,_,h2,hnx,adr (PL hh hE hR h1),λq hq=>hR q (hsub.subset hq),ρ',hag,rfl,List.Perm.refl _⟩ λA w' tmps hd hs=> ?_⟩;obtain⟨us,q1,q2⟩:=Mg hh hd hs h1;refine⟨_,?_,NZ q2⟩;show (do let vs <-fn.results.mapM (pX tmps);pure (if h:vs.size=1 then vs[0]else .tuple vs):Sem Value).run P w'=_;have e1:fn.results=fn.results.toList.toArray:=by simp
 rw[e1,List.mapM_toArray];simp[q1]
section
variable {β:Type}
def MQ{ops:Array Oper}{o:Oper}{s:St}{y n:St->af α}(D:α->af β):(gate ops o s y n).bind D=gate ops o s (λs=>(y s).bind D) (λs=>(n s).bind D):=by
 unfold gate
 repeat' split
 all_goals first|rfl|simp_all
def Zs{o:Op}{s:St}{f:St->af α}(D:α->af β):(Cb o s f).bind D=Cb o s (λs=>(f s).bind D):=by
 unfold Cb
 repeat' split
 all_goals first|rfl|simp_all
def anF(hN:dF F){o:Oper}{ih:St->(St->af α)->af α}{ih':St->(St->af β)->af β}{k:St->af α}{D:α->af β}(hi:∀s k,(ih s k).bind D=ih' s (λs=>(k s).bind D))(s:St):(rDo P F o ih k s).bind D=rDo P F o ih' (λs=>(k s).bind D) s:=by
 unfold rDo;generalize s.jB (iJ s.E o.op)=s1;obtain⟨E,R,nx⟩:=s1;show (oN o.op P F (ML E) (gj R) R nx (Ov o.dst E R nx ih k)).bind D=oN o.op P F (ML E) (gj R) R nx (Ov o.dst E R nx ih' λs=>(k s).bind D);rw[AM D hN]
 congr 1
 funext e
 cases e<;>exact hi ..
def qZ(hN:dF F){ops:Array Oper}(D:α->af β):∀(l:aa Oper) (s:St) (k:St->af α),(fJ P F n ops l s k).bind D=fJ P F n ops l s (λs=>(k s).bind D)
 |[],s,k=>rfl
 |o::l,s,k=>by
  show (PI P F n ops o (fJ P F n ops l) s k).bind D=PI P F n ops o (fJ P F n ops l) s (λs=>(k s).bind D);unfold PI;split
  ·rw[MQ]
   congr 1
   ·funext s1
    obtain⟨E,R,nx⟩:=s1;show (opF o.op P F o.dst E R nx (fJ P F n ops l) k).bind D=opF o.op P F o.dst E R nx (fJ P F n ops l) (λs=>(k s).bind D);have e1:=MJ P F o ⟨E,R,nx⟩ (fJ (α:=α) P F n ops l) k;have e2:=MJ P F o ⟨E,R,nx⟩ (fJ (α:=β) P F n ops l) (λs=>(k s).bind D);rw[e1,e2,Zs]
    congr 1
    funext s2
    exact anF hN (λs k=>qZ hN D l s k) s2
   ·funext s1
    unfold rNo;split<;>exact qZ hN D l _ _
  ·rfl
def Dj(hN:dF F){ops:Array Oper}{ps:aa (Nat×Nat)}(D:α->af β):∀(l:aa Oper) (cs:aa Rc) (s:St) (k:aa Rc->St->af α),(Yl P F n ops ps l cs s k).bind D=Yl P F n ops ps l cs s (λcs s=>(k cs s).bind D)
 |[],cs,s,k=>rfl
 |o::l,cs,s,k=>by
  show (ZN P F n ops ps o (Yl P F n ops ps l) cs s k).bind D=ZN P F n ops ps o (Yl P F n ops ps l) cs s (λcs s=>(k cs s).bind D);unfold ZN;split
  ·rw[MQ]
   congr 1
   ·funext s1
    obtain⟨E,R,nx⟩:=s1;have he:∀{γ:Type} (k:aa Rc->St->af γ),aDP P F ops ps o (Yl P F n ops ps l) cs k ⟨E,R,nx⟩=match Ee P ops o E R with
     |some i=>match i.2 with
      |true=>Yl P F n ops ps l (cs++[⟨o.dst, .lit undef,ct ops o,[],[],O,[],M i.1⟩]) ⟨pe o.dst (.lit undef) E,iW i.1 R,nx⟩ k
      |false=>J
     |none=>Qi P F o (ct ops o) E (inQ (Cq ops o E R) R) nx (dK ops ps o cs (Cq ops o E R) E R (inQ (Cq ops o E R) R) nx (Yl P F n ops ps l) k):=λ_=>rfl
    rw[he,he];cases Ee P ops o E R with
    |some i=>
     obtain⟨i,bb⟩:=i;cases bb with
     |true=>exact Dj hN D l _ _ _
     |false=>rfl
    |none=>
    rw[<-G8 hN,<-G8 hN,z6]
    congr 1
    funext x
    unfold dK;split
    ·exact Dj hN D l _ _ _
    ·rfl
   ·funext s1
    exact Dj hN D l _ _ _
  ·rfl
def ZL(hN:dF F)(id:Nat)(ops:Array Oper)(draw:Bool)(D:α->af β)(s:St)(k:gz α):(Cr P F n id ops draw s k).bind D=Cr P F n id ops draw s (λe s=>(k e s).bind D):=by
 cases draw with
 |false=>exact qZ hN D _ _ _
 |true=>
  show (Ft P F n ops s (k .normal)).bind D=Ft P F n ops s (λs=>(k .normal s).bind D);unfold Ft;split
  ·split
   ·rw[Dj hN D]
    congr 1
    funext cs s'
    split<;>rfl
   ·rfl
  ·rfl
def Y2{c:Operand}{s:St}{x y:St->af α}(D:α->af β):(pZ c s x y).bind D=pZ c s (λs=>(x s).bind D) (λs=>(y s).bind D):=by
 unfold pZ
 repeat' split
 all_goals first|rfl|(unfold afY;split<;>rfl)|simp_all
def Oc{x:St->gz α->af α}{x':St->gz β->af β}{D:α->af β}(hx:∀s k,(x s k).bind D=x' s (λe s=>(k e s).bind D))(k:gz α):∀(m:Nat) (s:St),(FP x k m s).bind D=FP x' (λe s=>(k e s).bind D) m s
 |0,s=>rfl
 |m+1,s=>by
  show (x s (Qv k (FP x k m))).bind D=x' s (Qv (λe s=>(k e s).bind D) (FP x' (λe s=>(k e s).bind D) m));rw[hx]
  congr 1
  funext e s'
  cases e<;>first|exact Oc hx k m s'|rfl
def agY(hN:dF F)(fuel:Nat)(D:α->af β)(c:Code):∀(s:St) (k:gz α),(exec P F n fuel c s k).bind D=exec P F n fuel c s (λe s=>(k e s).bind D):=by
 induction c with
 |region id ops draw=>exact ZL hN id ops draw D
 |seq x y hx hy=>
  intro s k;show (exec P F n fuel x s (amo (exec P F n fuel y) k)).bind D=exec P F n fuel x s (amo (exec P F n fuel y) (λe s=>(k e s).bind D));rw[hx]
  congr 1
  funext e s'
  cases e<;>first|exact hy s' k|rfl
 |cond c x y hx hy=>
  intro s k;show (pZ c s (λs=>exec P F n fuel x s k) (λs=>exec P F n fuel y s k)).bind D=pZ c s (λs=>exec P F n fuel x s _) (λs=>exec P F n fuel y s _);rw[Y2];simp_all
 |block id x hx=>
  intro s k;show (exec P F n fuel x s (pF id k)).bind D=exec P F n fuel x s (pF id (λe s=>(k e s).bind D));rw[hx]
  congr 1
  funext e s'
  cases e<;>first|rfl|(simp only[pF];split<;>rfl)
 |loop c hc=>exact λs k=>Oc hc k fuel s
 |_=>exact λs k=>rfl
def Yw(hN:dF F)(fuel:Nat):dF (λα=>qK (α:=α) P F fuel):=λα β f args R nx k D=>by
 show (qK P F fuel f args R nx k).bind D=qK P F fuel f args R nx _;unfold qK;split
 ·split
  ·split
   ·rw[agY hN]
    congr 1
    funext e s
    cases e<;>first|rfl|exact z6 ..
   ·rfl
  ·rfl
 ·rfl
def kF{F0:aT}{has:FuncId->Bool}(hN:dF F0)(fuel:Nat):∀m:Nat,dF (oK P F0 has fuel m)
 |0=>hN
 |m+1=>λα β f args R nx k D=>by
  show (match has f with|Z=>F0 α f args R nx k|O=>qK P (oK P F0 has fuel m) fuel f args R nx k).bind D=_;show _=(match has f with|Z=>F0 β f args R nx _|O=>qK P (oK P F0 has fuel m) fuel f args R nx _);cases has f with
  |true=>exact hN ..
  |false=>exact Yw (kF hN fuel m) fuel α β f args R nx k D
end
def adg(hF:gR P F)(hN:dF F)(fuel:Nat):gR P (λα=>qK (α:=α) P F fuel):=λα f args R nx k r h hargs hR=>by
 have h:qK P F fuel f args R nx k=M r:=h;unfold qK at h;split at h
 case h_2=>cases h
 rename_i fn hf;split at h
 case h_2=>cases h
 rename_i c hb;split at h
 case h_2=>cases h
 rename_i hc;rw[zh]at hc;obtain⟨hl,hnm⟩:=hc;refine⟨⟨fn,hf,by simpa using hnm,by rw[hb];rfl⟩,λρ=>Fn.of hf hb rfl (by rw[zF];exact hl) λC a w ha=> ?_⟩;have hm:Mt ⟨C,ρ,nx⟩ fn.ntmps ⟨NI 0 args .e,R,nx⟩ a w:=by
  refine⟨fD 0 args,?_,λq hq=>hargs _ (qx hq),hR,ρ,⟨.refl _ _,zx _⟩,?_⟩
  ·have:=AQ args 0 .e [] (λt d ht=>by cases t<;>cases ht) (λt d ht=>by cases t<;>cases ht)
   rwa [yN]at this
  ·rw[qI];exact ha
 refine wp_mono (ak4 hF hN fuel c r _ _ a w h hm) λe a' w' ⟨s',h1,h2⟩=> ?_;cases e with
 |normal=>exact adB (.inl rfl) h1 h2
 |ret=>exact adB (.inr rfl) h1 h2
 |_=>cases h1
def nD{F0:aT}{has:FuncId->Bool}(hF:gR P F0)(hN:dF F0)(fuel:Nat):∀m:Nat,gR P (oK P F0 has fuel m)
 |0=>hF
 |m+1=>λα f args R nx k r h hargs hR=>by
  change (match has f with|Z=>F0 α f args R nx k|O=>qK P (oK P F0 has fuel m) fuel f args R nx k)=M r at h;split at h
  ·exact hF α f args R nx k r h hargs hR
  ·exact adg (nD hF hN fuel m) (kF hN fuel m) fuel α f args R nx k r h hargs hR
end
def scB:Nat->AV->Bool
 |_, .lit _=>Z
 |n+1, .agg cs=>cs.all (scB n)
 |n+1, .iF cs=>cs.all (scB n)
 |_,_=>O
def CM:Nat->AV->Bool
 |_, .lit _=>Z
 |_, .sl _ _=>Z
 |_, .rp _ _=>Z
 |n+1, .agg cs=>cs.all (CM n)
 |n+1, .iF cs=>cs.all (CM n)
 |_,_=>O
def jK:∀(n:Nat) {d:AV} {ρ:Gh},CM n d=Z->d.sub ρ=d
 |n,d,ρ,h=>by
  have hL:∀{m:Nat} {cs:aa AV},m<n->cs.all (CM m)=Z->cs.map (bU.sub ρ)=cs:=λ{m cs} hm h=>by
   have:cs.map (bU.sub ρ)=cs.map id:=zV λc hc=>jK m (zn.1 h c hc);rw[this,List.map_id]
  cases n with
  |zero=>cases d<;>first|(cases h;done)|simp only[bU.sub]
  |succ n=>
   cases d<;>first|(cases h;done)|(simp only[bU.sub];done)|skip
   ·rw[eS,hL (zN n) h]
   ·rw[jJ,hL (zN n) h]
def aBE(rd:Nat->af IR)(n:Nat):AV->AV:=Nat.rec (λd=>match d with
 | .own id=>match rd id with
  |some (.row t l)=> .sl t l
  |_=> .own id
 |d=>d) (λ_ ih d=>match d with
 | .own id=>match rd id with
  |some (.row t l)=> .sl t l
  |_=> .own id
 | .agg cs=> .agg (cs.map ih)
 |d=>d) n
def aee{R:aS}{ρ:Gh}{A:Nat->Prop}{w:World}{v:Value}{id:Nat}(hd:Hd A (aS.res ρ R) w)(hr:Rel A w ((bU.own (cQ:=U.cQ) id).sub ρ) v):Rel (λb=>A b\/b∈bh (aS.res ρ R)) w ((match gj R id with
  |some (.row t l)=>bU.sl t l
  |_=> .own id).sub ρ) v:=by
 have base:Rel (λb=>A b\/b∈bh (aS.res ρ R)) w ((bU.own (cQ:=U.cQ) id).sub ρ) v:=hr.mono λb _ hA=>⟨.inl hA,rfl⟩;split
 ·rename_i t l hg;obtain⟨i,hi,_⟩:=dG hg;have hres:=fB (ρ:=ρ) hi;have hm:=List.mem_of_getElem? hres;rw[cI]at hr;rw[fV];have hd1:Hd A [.row (ρ.v id) t l] w:=⟨λr hr=>by
   rw[zA]at hr;rw[hr];exact hd.1 _ hm,λb hb=>hd.2 b (by
    obtain⟨r,h1,h2⟩:=bE.1 hb;rw[zA]at h1;rw[h1]at h2;exact bE.2 ⟨_,hm,h2⟩)⟩
  refine(Vw.row 0 rfl A w v hd1 hr).mono λb _ hA=>⟨hA.imp (λh=>h) λhx=> ?_,rfl⟩;obtain⟨r,h1,h2⟩:=bE.1 hx;rw[zA]at h1;rw[h1]at h2;exact bE.2 ⟨_,hm,h2⟩
 ·exact base
def aLo{γ:Type}(q:aa AV->af γ)(m:γ->AV){α:Type}(R:aS)(nx:Nat)(k:AV->aS->Nat->af α)(l:aa AV):af α:=match l.all (CM 2)with
 |true=>match q l with
  |some g=>k (m g) R nx
  |none=>J
 |false=>J
def XG{γ:Type}(q:aa AV->af γ)(m:γ->AV){α:Type}(args:aa AV)(R:aS)(nx:Nat)(k:AV->aS->Nat->af α):af α:=aLo q m R nx k (args.map (aBE (gj R) 2))
def dz:aT:=λ_ _ _ _ _ _=>J
def auu{P:Program}:gR P dz:=λ_ _ _ _ _ _ _ h=>by cases h
def abk{β:Type}(e:AV->af β)(d:AV)(R:aS)(_:Nat):af β:=match R with
 |[]=>e d
 |_=>J
def P0{β:Type}(e:AV->af β)(m:β->AV):Prop:=∀d x,e d=M x->d=m x/\CM 2 d=Z
def P0.b:P0 asB bU.b:=λd x h=>by
 unfold asB at h;split at h
 ·cases h;exact⟨rfl,rfl⟩
 ·cases h
def abv{P:Program}{F:aT}(hF:gR P F){f:FuncId}{args:aa AV}{β:Type}{e:AV->af β}{m:β->AV}{x:β}(he:P0 e m)(hc:args.all (CM 2)=Z)(hl:∀d∈args,cE 0 d)(h:F β f args [] 0 (abk e)=M x):sL P f/\Fn P f args [] (λa s=>a=m x/\s=[]):=by
 obtain⟨h1,h2⟩:=hF β f args [] 0 (abk e) x h hl (λq hq=>by cases hq);refine⟨h1,?_⟩;have:=h2 ⟨λ_=>undef,λ_=>0⟩;have ea:args.map (bU.sub ⟨λ_=>undef,λ_=>0⟩)=args:=by
  have:args.map (bU.sub ⟨λ_=>undef,λ_=>0⟩)=args.map id:=zV λc hcm=>jK 2 (zn.1 hc c hcm);rw[this,List.map_id]
 rw[ea]at this;refine Fn.mono this λa s ⟨d,R',nx',q1,_,_,_,ρ',_,q2,q3⟩=> ?_;unfold abk at q1;split at q1
 ·obtain⟨q4,q5⟩:=he _ _ q1;rw[q2,jK 2 q5,q4];exact⟨rfl,by simpa [aS.res]using q3⟩
 ·cases q1
def ug(d:AV):∀(m:Nat) (T:ET) (k s:Nat),k<2^m-1->cF (rZ d m T k) s=if k=s then M d else cF T s
 |0,T,k,s,h=>by simp at h
 |m+1,T,k,s,h=>by
  rw[X6,NS T s];by_cases hk:k=0
  ·rw[bO hk,oG];by_cases hs:s=0
   ·simp_all
   ·have h0:¬(0=s):=λe=>hs e.symm;simp_all
  ·rw[bP hk];by_cases hk2:(k-1)%2=0
   ·rw[bO hk2,oG];by_cases hs:s=0
    ·rw[bO hs,bO hs,bP aj]
    ·rw[bP hs,bP hs];by_cases hs2:(s-1)%2=0
     ·rw[bO hs2,bO hs2,ug d m T.l _ _ aj];by_cases hks:k=s
      ·rw[bO hks,bO aj]
      ·rw[bP hks,bP aj]
     ·rw[bP hs2,bP hs2,bP (λe=>hs2 (by rw[<-e];exact hk2))]
   ·rw[bP hk2,oG];by_cases hs:s=0
    ·grind
    ·rw[bP hs,bP hs];by_cases hs2:(s-1)%2=0
     ·rw[bO hs2,bO hs2,bP (λe=>hk2 (by rw[e];exact hs2))]
     ·rw[bP hs2,bP hs2,ug d m T.r _ _ aj];by_cases hks:k=s
      ·rw[bO hks,bO aj]
      ·rw[bP hks,bP aj]
def Be{t s:Nat}{d:AV}{T:ET}(h:t<4095):cF (ig t d T) s=if t=s then M d else cF T s:=ug d 12 T t s h
def bH(F:aT)(f:FuncId):Prop:=∀args R nx d R' nx',F (AV×aS×Nat) f args R nx (λd R nx=>M (d,R,nx))=M (d,R',nx')->R'=R
def M7(fs:aa Nat):Op->Bool
 | .move _=>Z
 | .assign _=>Z
 | .pick c _ _=>match c with
  | .tmp t=>zB t 4095
  |_=>Z
 | .binOp _ _ _ _ _=>Z
 | .unOp _ _ _=>Z
 | .fieldAddr _ _ _=>Z
 | .indexAddr _ _ _=>Z
 | .index _ _ _=>Z
 | .load _ _=>Z
 | .nilCheck _=>Z
 | .convert _ _ _=>Z
 | .extract _ _=>Z
 | .call c=>match c.callee with
  | .value (.func f)=>cS f fs&& !L.fz f
  | .builtin .len=>Z
  | .builtin .max=>Z
  | .builtin .min=>Z
  |_=>O
 |_=>O
def Ia:af Nat->Bool
 |some t=>zB t 4095
 |none=>Z
section
variable {P:Program} {F:aT} {n:Nat} {fs:aa Nat}
def aaA{E:ET}{o:Op}(h:M7 fs o=Z):iJ E o=[]:=by
 cases o<;>first|rfl|(cases h;done)|skip
 case call c=>
  unfold M7 at h;unfold iJ;grind
def oP{g:(K:AV->af fq)->af fq}{g0:af AV}{e:fq}(hg:g (λd=>M (.val d))=g0.bind λd=>M (.val d))(h:g (dA M)=M e):∃d,e= .val d:=by
 have h:g (λd=>M (.val d))=M e:=h;rw[hg]at h;obtain⟨d,_,h2⟩:=zl.1 h;cases h2;simp
def aai(hN:dF F)(hp:∀f∈fs,bH F f){o:Op}{E:ET}{rd:Nat->af IR}{R:aS}{nx:Nat}{e:fq}(ho:M7 fs o=Z)(h:oN o P F (ML E) rd R nx M=M e):∃d nx',e= .all d R nx'\/e= .val d:=by
 have fin:(∃d,e= .val d)->∃d nx',e=fq.all d R nx'\/e= .val d:=λ⟨d,h⟩=>⟨d,0, .inr h⟩;have fb:∀{x:af AV},x.bind (dA M)=M e->∃d,e= .val d:=λ{x} h=>by
  obtain⟨d,_,h2⟩:=zl.1 h;cases h2;simp
 cases o<;>first|(cases ho;done)|exact fin (fb h)|skip
 case pick c a b=>
  have h:vD c a b P F (ML E) rd R nx M=M e:=h;unfold vD at h;split at h
  ·exact fin (fb h)
  ·exact fin (fb h)
  ·cases h
 case binOp b T x y t=>exact fin (oP (NX (K:=M) (λd=>M (fq.val d))).symm h)
 case unOp b T x=>exact fin (oP (VR (K:=M) (λd=>M (fq.val d))).symm h)
 case fieldAddr T x i=>exact fin (oP (NG (K:=M) (λd=>M (fq.val d))).symm h)
 case indexAddr T x y=>exact fin (oP (N5 (K:=M) (λd=>M (fq.val d))).symm h)
 case index T x y=>exact fin (oP (Oe (K:=M) (λd=>M (fq.val d))).symm h)
 case load T x=>exact fin (oP (Yd (K:=M) (λd=>M (fq.val d))).symm h)
 case nilCheck x=>exact fin (oP (MW (K:=M) (λd=>M (fq.val d))).symm h)
 case convert T T' x=>exact fin (oP (Pe (K:=M) (λd=>M (fq.val d))).symm h)
 case extract x i=>exact fin (oP (Nl (K:=M) (λd=>M (fq.val d))).symm h)
 case call c=>
  have h:GJ c P F (ML E) rd R nx M=M e:=h;unfold GJ at h;unfold M7 at ho;dsimp only at ho;split at ho
  ·rename_i f hf;rw[hf]at h;rw[zh]at ho;obtain⟨xs,_,h2⟩:=zl.1 h;have h3:=hN (AV×aS×Nat) fq f (xs++[]) R nx (λd R nx=>M (d,R,nx)) (λx=>M (.all x.1 x.2.1 x.2.2));have h3':(F (AV×aS×Nat) f (xs++[]) R nx (λd R nx=>M (d,R,nx))).bind (λx=>M (.all x.1 x.2.1 x.2.2))=M e:=h3.trans h2;obtain⟨⟨d,R',nx'⟩,h4,h5⟩:=zl.1 h3';have h6:=hp f (dN.1 ho.1) _ _ _ _ _ _ h4;subst h6;cases h5;exact⟨d,nx', .inl rfl⟩
  ·rename_i hc;rw[hc]at h;unfold GA at h;dsimp only at h;split at h
   ·exact fin (oP (Nh (K:=M) (λd=>M (fq.val d))).symm h)
   ·cases h
  ·rename_i hc;rw[hc]at h;have h:GA .max c.args c.argTypes P (ML E) rd R nx M=M e:=h;unfold GA at h;dsimp only at h;split at h
   ·exact fin (oP (Di (K:=M) (λd=>M (fq.val d))).symm h)
   ·cases h
  ·rename_i hc;rw[hc]at h;have h:GA .min c.args c.argTypes P (ML E) rd R nx M=M e:=h;unfold GA at h;dsimp only at h;split at h
   ·exact fin (oP (Di (K:=M) (λd=>M (fq.val d))).symm h)
   ·cases h
  ·cases ho
def aeA(l:aa Oper)(s s0:St):Prop:=s0.R=s.R/\∀u d,(∀o∈l,o.dst≠M u)->cF s.E u=M d->cF s0.E u=M d
def nN{s:St}{t:Nat}{b:Bool}(ht:t<4095)(h:cF s.E t=M (.lit (.bool b))){u:Nat}{d:AV}(hu:cF s.E u=M d):cF (s.gq t b).E u=M d:=by
 show cF (ig t (.b b) s.E) u=_;rw[Be ht];split
 ·rename_i e;subst e;rw[h]at hu;exact hu
 ·exact hu
def DR(hN:dF F)(hp:∀f∈fs,bH F f){ops:Array Oper}(hops:∀o∈ops.toList,Ia o.dst=Z):∀(l:aa Oper) {s s0:St},(∀o∈l,M7 fs o.op=Z/\Ia o.dst=Z)->fJ P F n ops l s M=M s0->aeA l s s0
 |[],s,s0,_,h=>by cases h;exact⟨rfl,λu d _ hu=>hu⟩
 |o::l,s,s0,hl,h=>by
  have ho:=hl o zm;have hl':=λo' h'=>hl o' (zM _ h');change PI P F n ops o (fJ P F n ops l) s M=M s0 at h;unfold PI at h;split at h
  case h_2=>cases h
  have putG:∀{s2:St} {d:AV} {nx':Nat},fJ P F n ops l ⟨pe o.dst d s2.E,s2.R,nx'⟩ M=M s0->s2.R=s.R->(∀u d,cF s.E u=M d->cF s2.E u=M d)->aeA (o::l) s s0:=λ{s2 d nx'} h1 h2 h3=>by
   obtain⟨q1,q2⟩:=DR hN hp hops l hl' h1;refine⟨q1.trans h2,λu d' hu hd=>q2 u d' (λo' h'=>hu o' (zM _ h')) ?_⟩;show cF (pe o.dst d s2.E) u=M d';have hne:=hu o zm;have hod:=ho.2;unfold pe;split
   ·simp_all
   ·rename_i t ht;rw[ht]at hod hne;rw[Be (by simpa [Ia]using hod),bP (λe=>hne (by rw[e]))];simp_all
  have yes:∀s1:St,aBJ P F o (fJ P F n ops l) M s1=M s0->s1.R=s.R->(∀u d,cF s.E u=M d->cF s1.E u=M d)->aeA (o::l) s s0:=λs1 h1 h2 h3=>by
   obtain⟨E1,R1,nx1⟩:=s1;have h1:opF o.op P F o.dst E1 R1 nx1 (fJ P F n ops l) M=M s0:=h1;have e1:=MJ P F o ⟨E1,R1,nx1⟩ (fJ (α:=St) P F n ops l) M;rw[e1]at h1;have go:∀s2:St,rDo P F o (fJ P F n ops l) M s2=M s0->s2.R=s.R->(∀u d,cF s.E u=M d->cF s2.E u=M d)->aeA (o::l) s s0:=λs2 g1 g2 g3=>by
    unfold rDo at g1;rw[aaA ho.1]at g1;obtain⟨E2,R2,nx2⟩:=s2;have g4:(oN o.op P F (ML E2) (gj R2) R2 nx2 M).bind (Ov o.dst E2 R2 nx2 (fJ P F n ops l) M)=M s0:=(AM _ hN ..).trans g1;obtain⟨e,g5,g6⟩:=zl.1 g4;obtain⟨d,nx',he⟩:=aai hN hp ho.1 g5;rcases he with he|he
    ·subst he;exact putG (s2:=⟨E2,R2,nx2⟩) g6 g2 g3
    ·subst he;exact putG (s2:=⟨E2,R2,nx2⟩) g6 g2 g3
   unfold Cb at h1;split at h1
   ·rename_i t a b hop;have ht:t<4095:=by
     have:=ho.1;rw[hop]at this;simpa [M7]using this
    split at h1
    ·rename_i b hb;split at h1
     ·exact go _ h1 h2 λu d hu=>nN (s:=⟨E1,R1,nx1⟩) ht hb (h3 u d hu)
     ·exact go _ h1 h2 λu d hu=>nN (s:=⟨E1,R1,nx1⟩) ht hb (h3 u d hu)
    ·cases h1
   ·exact go _ h1 h2 h3
  have no:∀s1:St,rNo o.dst (fJ P F n ops l) M s1=M s0->s1.R=s.R->(∀u d,cF s.E u=M d->cF s1.E u=M d)->aeA (o::l) s s0:=λs1 h1 h2 h3=>by
   have:rNo o.dst (fJ P F n ops l) M s1=fJ P F n ops l ⟨pe o.dst (.lit undef) s1.E,s1.R,s1.nx⟩ M:=by
    cases o.dst<;>rfl
   rw[this]at h1;exact putG (s2:=s1) h1 h2 h3
  unfold gate at h;split at h
  ·exact yes s h rfl λ_ _ h=>h
  ·rename_i j want hg;split at h
   ·cases h
   ·rename_i t hj;have ht:t<4095:=by
     obtain⟨o',ho',hd'⟩:=zl.1 hj;have hm:o'∈ops.toList:=Array.mem_toList_iff.2 (Array.mem_of_getElem? ho');have:=hops o' hm;rw[hd']at this;simpa [Ia]using this
    split at h
    ·rename_i b hb;split at h
     ·split at h
      ·exact yes _ h rfl λu d hu=>nN ht hb hu
      ·exact no _ h rfl λu d hu=>nN ht hb hu
     ·split at h
      ·exact no _ h rfl λu d hu=>nN ht hb hu
      ·exact yes _ h rfl λu d hu=>nN ht hb hu
    ·exact no _ h rfl λ_ _ h=>h
    ·cases h
def aCs(fs:aa Nat)(t:Nat)(E:ET)(ops:aa Oper):Bool:=zB t 4095&&ops.all λo=>M7 fs o.op&&Ia o.dst&&match o.dst with
 |some u=>zg u t||match cF E u with
  |none=>Z
  |some _=>O
 |none=>Z
def rbK(t:Nat)(s:St):af Bool:=match cF s.E t with
 |some (.lit (.bool b))=>M b
 |_=>J
def Sb{α:Type}(P:Program)(F:aT)(n:Nat)(fs:aa Nat)(t:Nat)(ops:Array Oper)(s:St)(k:gz α):af α:=match aCs fs t s.E ops.toList with
 |true=>match fJ (α:=Bool) P F n ops ops.toList s (rbK t)with
  |some b=>k .normal ⟨ig t (.b b) s.E,s.R,s.nx⟩
  |none=>J
 |false=>J
def Env.uB{T:ET}:∀(E:Env) (u:Nat) (d:AV),Env.get (E.filter λp=>@w9 (cF T p.1=M p.2) (Classical.propDecidable _)) u=M d->cF T u=M d
 |[],_,_,h=>by cases h
 |(k,v)::E,u,d,h=>by
  by_cases hk:cF T k=M v
  ·rw[yZ,bO (by simp[hk])]at h;by_cases hku:k=u
   ·subst hku;rw[Env.ew]at h;simp_all
   ·rw[Env.dH _ _ hku]at h;exact Env.uB E u d h
  ·rw[yZ,bP (by simp[hk])]at h;exact Env.uB E u d h
def Env.pK{T:ET}:∀(E:Env) (u:Nat) (d:AV),cF T u=M d->E.get u=M d->Env.get (E.filter λp=>@w9 (cF T p.1=M p.2) (Classical.propDecidable _)) u=M d
 |[],_,_,_,h=>by cases h
 |(k,v)::E,u,d,ht,h=>by
  by_cases hku:k=u
  ·subst hku;rw[Env.ew]at h;cases h;rw[yZ,bO (by simp[ht])];exact Env.ew _ _ _
  ·rw[Env.dH _ _ hku]at h;rw[yZ];split
   ·rw[Env.dH _ _ hku];exact Env.pK E u d ht h
   ·exact Env.pK E u d ht h
def Z9{α:Type}{C:Cg}(hF:gR P F)(hN:dF F)(hp:∀f∈fs,bH F f)(id t:Nat)(ops:Array Oper):YV (α:=α) P C n (.region id ops O) (Sb P F n fs t ops):=λr s k a w h hm=>by
 unfold Sb at h;split at h
 case h_2=>cases h
 rename_i hrb;split at h
 case h_2=>cases h
 rename_i b hb;unfold aCs at hrb;rw[zh,xw]at hrb;obtain⟨ht,hall⟩:=hrb;have hall:∀o∈ops.toList,(M7 fs o.op=Z/\Ia o.dst=Z)/\∀u,o.dst=M u->u=t\/cF s.E u=J:=λo ho=>by
  have h1:=zn.1 hall o ho;rw[zh,zh]at h1;refine⟨h1.1,λu hu=> ?_⟩;have h2:=h1.2;rw[hu]at h2;dsimp only at h2;rw[yO]at h2;rcases h2 with h2|h2
  ·simp_all
  ·right;split at h2
   ·assumption
   ·cases h2
 have hnat:=qZ hN (P:=P) (n:=n) (ops:=ops) (rbK t) ops.toList s M;have hb':(fJ P F n ops ops.toList s M).bind (rbK t)=M b:=hnat.trans hb;obtain⟨s0,h1,h2⟩:=zl.1 hb';obtain⟨q1,q2⟩:=DR hN hp (λo ho=>(hall o ho).1.2) ops.toList (λo ho=>(hall o ho).1) h1;have hend:Ends P C n (.region id ops O) (λe s'=>match e with
  | .normal=>M s'
  |_=>J) s0 a w:=by
  refine wp_mono (wp_region_lit (vA hF _ h1 hm)) λe a' w' ⟨he,_,s',h3,h4⟩=> ?_;subst he;exact⟨s',h3,h4⟩
 refine wp_mono hend λe a' w' ⟨s',h3,h4⟩=> ?_;cases e<;>first|(cases h3;done)|skip
 cases h3;refine⟨_,h,?_⟩;have hbt:cF s0.E t=M (.b b):=by
  unfold rbK at h2;split at h2
  ·simp_all
  ·cases h2
 obtain⟨E,hh,hE,hR,ρ,hag,hsim⟩:=hm;obtain⟨E0,hh0,hE0,hR0,ρ0,hag0,hsim0⟩:=h4
 let E1:Env:=(t, .b b)::E.filter λp=>@w9 (cF s.E p.1=M p.2) (Classical.propDecidable _)
 have hkey:∀u d,E1.get u=M d->cF s0.E u=M d:=λu d hu=>by
  by_cases htu:t=u
  ·subst htu;rw[Env.ew]at hu;cases hu;exact hbt
  ·rw[Env.dH _ _ htu]at hu;have h5:=Env.uB E u d hu;refine q2 u d (λo ho hd=> ?_) h5;rcases (hall o ho).2 u hd with h6|h6
   ·exact htu h6.symm
   ·simp_all
 refine⟨E1,λu d hu=> ?_,Env.vq (λp hp=>hE p (zW.1 hp).1) (.lit _),hR,ρ0,⟨hag0.1,hag.2⟩,?_⟩
 ·have hu:cF (ig t (.b b) s.E) u=M d:=hu;rw[Be ht]at hu;split at hu
  ·rename_i e;rw[<-e,<-zJ.inj hu];exact Env.ew _ _ _
  ·rename_i e;rw[Env.dH _ _ e];exact Env.pK E u d hu (hh u d hu)
 ·rw[q1]at hsim0;refine⟨hsim0.defers,hsim0.size,λu av hu=> ?_,hsim0.good⟩;rw[Env.eR]at hu;obtain⟨d,hd,rfl⟩:=zj.1 hu;exact hsim0.slots u _ (by rw[Env.eR,hh0 u d (hkey u d hd)];rfl)
end
inductive An:Type 1
 |no
 |two (l r:An)
 |lp (γ:Type) (rd:St->Option γ) (pat:γ->St) (o5:γ->Option γ) (body:An)
 |jn (γ:Type) (rd:St->Option γ) (pat:γ->St) (l r:An)
 |rb (fs:List Nat) (t:Nat)
 |rf (γ:Type) (rd:St->Option γ) (pat pat2:γ->St) (o5:γ->Option γ)
def An.l:An->An
 | .two l _=>l
 | .jn _ _ _ l _=>l
 |_=> .no
def An.r:An->An
 | .two _ r=>r
 | .jn _ _ _ _ r=>r
 |_=> .no
abbrev noTwo (a:An):An:= .two .no a
abbrev XT:=An->(α:Type)->St->gz α->af α
def aLd{γ:Type}(b:Bool)(p q:γ):γ:=match b with
 |true=>p
 |false=>q
def kOn{γ:Type}(rd:St->af γ):gz (af γ):=λe s=>match e with
 | .normal=>(rd s).map M
 |_=>M J
def Zf{γ:Type}(rd:St->af γ):gz γ:=λe s=>match e with
 | .normal=>rd s
 |_=>J
def aeD{γ α:Type}(rd:St->af γ)(pat:γ->St)(c:Operand)(s:St)(x y:(α:Type)->St->gz α->af α)(k:gz α):af α:=match c with
 | .tmp t=>match cF s.E t with
  |some (.lit (.bool b))=>match x γ (s.gq t Z) (Zf rd)with
   |some p=>match y γ (s.gq t O) (Zf rd)with
    |some q=>k .normal (pat (aLd b p q))
    |none=>J
   |none=>J
  |_=>J
 |_=>J
def aEl(P:Program)(F:aT)(n:Nat)(id:Nat)(ops:Array Oper)(draw:Bool):XT:=λan _ s k=>match an with
 | .rb fs t=>match draw with
  |false=>Sb P F n fs t ops s k
  |true=>Cr P F n id ops Z s k
 |_=>Cr P F n id ops draw s k
def aGp(x y:XT):XT:=λan α s k=>x an.l α s (amo (y an.r α) k)
def awH(c:Operand)(x y:XT):XT:=λan α s k=>match an with
 | .jn _ rd pat l r=>aeD rd pat c s (x l) (y r) k
 |an=>pZ c s (λs=>x an.l α s k) (λs=>y an.r α s k)
def ajn(id:Nat)(x:XT):XT:=λan α s k=>x an α s (pF id k)
def aty(fuel:Nat)(x:XT):XT:=λan α s k=>match an with
 | .lp _ rd pat o5 b=>match rd s with
  |some p=>match o5 p with
   |some q=>x b α (pat q) (Qv k λ_=>J)
   |none=>J
  |none=>J
 |an=>FP (x an α) k fuel s
def aJn:XT:=λan _ s k=>match an with
 | .rf _ rd _ pat2 o5=>match rd s with
  |some p=>match o5 p with
   |some q=>k .normal (pat2 q)
   |none=>J
  |none=>J
 |_=>J
def kO(P:Program)(F:aT)(n:Nat)(fuel:Nat)(c:Code):XT:=
 Code.rec (λ_ _ s k=>agG s k) (aEl P F n) (λ_ _=>aGp) (λc _ _=>awH c) (λid _=>ajn id) (λ_=>aty fuel) (λ_ _ _ _ _ _=>aJn) (λi _ _ s k=>agJ i s k) (λ_ _ _ _ s k=>JL s k) (λ_ _ _ s k=>JL s k) (λ_ _ _ s k=>JL s k) (λ_ _ s k=>aph s k) (λ_ _ _ s k=>JL s k) c
def lI{γ:Type}(n0 n:Nat)(rd:St->af γ)(pat:γ->St):Prop:=∀(C:Cg) s p a w,C.n=n0->rd s=M p->Mt C n s a w->Mt C n (pat p) a w
def Wc{γ:Type}(x:XT)(rd:St->af γ)(pat:γ->St)(b:An):Nat->γ->γ->Prop
 |0,p,q=>p=q
 |n+1,p,q=>∃p',x b (af γ) (pat p) (kOn rd)=M (M p')/\Wc x rd pat b n p' q
def XP{γ:Type}(x:XT)(rd:St->af γ)(pat:γ->St)(o5:γ->af γ)(b:An):Prop:=
 ∀p q,o5 p=M q->∃n,Wc x rd pat b n p q
def YI{γ:Type}(P:Program)(n0 n:Nat)(c:Code)(pat pat2:γ->St)(o5:γ->af γ):Prop:=∀(C:Cg) p q a w,C.n=n0->o5 p=M q->Mt C n (pat p) a w->c.wp P (λe a' w'=>e= .normal/\Mt C n (pat2 q) a' w') a w
def OY(P:Program)(F:aT)(n0 n:Nat)(fuel:Nat)(c:Code):An->Prop:=
 Code.rec (λ_=>True) (λ_ _ _ an=>match an with
  | .rb fs _=>∀f∈fs,bH F f
  |_=>True) (λ_ _ x y an=>x an.l/\y an.r) (λ_ _ _ x y an=>(∀γ rd pat l r,an= .jn γ rd pat l r->lI n0 n rd pat)/\x an.l/\y an.r) (λ_ _ x=>x)
  (λc x an=>match an with
   | .lp _ rd pat o5 b=>lI n0 n rd pat/\XP (kO P F n fuel c) rd pat o5 b/\x b
   |an=>x an) (λg ps x y _ _ an=>match an with
   | .rf _ rd pat pat2 o5=>lI n0 n rd pat/\YI P n0 n (.rangeFunc g ps x y) pat pat2 o5
   |_=>True) (λ_ _=>True) (λ_ _ _=>True) (λ_ _=>True) (λ_ _=>True) (λ_=>True) (λ_ _=>True) c
section
variable {P:Program} {F:aT} {C:Cg} {n0 n:Nat}
def ahc(hF:gR P F)(hN:dF F)(hC:C.n=n0)(fuel:Nat)(c:Code):∀an,OY P F n0 n fuel c an->∀(α:Type),YV (α:=α) P C n c (kO P F n fuel c an α):=by
 induction c with
 |skip=>exact λan _ α r s k a w h hm=>wp_skip ⟨s,h,hm⟩
 |region id ops draw=>
  intro an ho α;cases an with
  |rb fs t=>
   cases draw with
   |false=>exact Z9 hF hN ho id t ops
   |true=>exact GY hF hN id ops Z
  |_=>exact GY hF hN id ops draw
 |seq x y hx hy=>
  intro an ho α r s k a w h hm;obtain⟨h1,h2⟩:OY P F n0 n fuel x an.l/\OY P F n0 n fuel y an.r:=ho;refine wp_seq (wp_mono (hx an.l h1 α r s _ a w h hm) λe a' w' ⟨s',g1,g2⟩=> ?_);cases e with
  |normal=>exact hy an.r h2 α r s' k a' w' g1 g2
  |_=>exact⟨s',g1,g2⟩
 |cond c x y hx hy=>
  intro an ho α r s k a w h hm;obtain⟨h0,h1,h2⟩:(∀γ rd pat l r,an= .jn γ rd pat l r->lI n0 n rd pat)/\OY P F n0 n fuel x an.l/\OY P F n0 n fuel y an.r:=ho;have plain:pZ c s (λs=>kO P F n fuel x an.l α s k) (λs=>kO P F n fuel y an.r α s k)=M r->Ends P C n (.cond c x y) k r a w:=λh=>by
   obtain⟨b,s',he,hm',h'⟩:=MS h hm;cases b with
   |true=>exact wp_cond_true he (hx an.l h1 α r s' k a w h' hm')
   |false=>exact wp_cond_false he (hy an.r h2 α r s' k a w h' hm')
  cases an with
  |jn γ rd pat l r'=>
   have hrd:=h0 γ rd pat l r' rfl;change aeD rd pat c s (kO P F n fuel x l) (kO P F n fuel y r') k=M r at h;unfold aeD at h;split at h
   case h_2=>cases h
   rename_i t;split at h
   case h_2=>cases h
   rename_i b hb;split at h
   case h_2=>cases h
   rename_i p hp;split at h
   case h_2=>cases h
   rename_i q hq;have hev:a.eval (.tmp t)= .bool b:=by
    obtain⟨E,hh,_,_,ρ,_,hs⟩:=hm;refine UT hs ?_;have g1:=hh t _ hb;show Env.get (E.sub ρ) t=_;rw[Env.eR,g1,z8,bL]
   have fin:∀(p:γ),k .normal (pat p)=M r->∀e a' w',(∃s',Zf rd e s'=M p/\Mt C n s' a' w')->∃s',k e s'=M r/\Mt C n s' a' w':=λp hk e a' w' ⟨s',g1,g2⟩=>by
    cases e with
    |normal=>exact⟨_,hk,hrd C s' p a' w' hC g1 g2⟩
    |_=>cases g1
   cases b with
   |true=>exact wp_cond_true hev (wp_mono (hx l h1 γ p _ _ a w hp (hm.gq hb)) (fin p h))
   |false=>exact wp_cond_false hev (wp_mono (hy r' h2 γ q _ _ a w hq (hm.gq hb)) (fin q h))
  |_=>exact plain h
 |block id x hx=>
  intro an ho α r s k a w h hm;refine wp_block (wp_mono (hx an ho α r s _ a w h hm) λe a' w' ⟨s',h1,h2⟩=> ?_);cases e with
  |exit id'=>
   simp only[pF]at h1;simp only[Exit.inBlock];split
   ·rename_i he;subst he;have hb:zg id' id'=Z:=yQ _;simp only[hb]at h1;exact⟨s',h1,h2⟩
   ·rename_i he;have hb:zg id' id=O:=by
     cases hb:zg id' id with
     |false=>rfl
     |true=>exact iy (yI hb) he
    simp only[hb]at h1;exact⟨s',h1,h2⟩
  |_=>exact⟨s',h1,h2⟩
 |loop c hc=>
  intro an ho α r s k a w h hm;cases an with
  |lp γ rd pat o5 b=>
   obtain⟨hrd,hadv,hb⟩:lI n0 n rd pat/\XP (kO P F n fuel c) rd pat o5 b/\OY P F n0 n fuel c b:=ho;change (match rd s with
    |some p=>match o5 p with
     |some q=>kO P F n fuel c b α (pat q) (Qv k λ_=>J)
     |none=>J
    |none=>J)=M r at h
   split at h
   case h_2=>cases h
   rename_i p hp;split at h
   case h_2=>cases h
   rename_i q hq;obtain⟨m,hgo⟩:=hadv p q hq;have key:∀(m:Nat) (p:γ),Wc (kO P F n fuel c) rd pat b m p q->∀(a:Act) (w:World),Mt C n (pat p) a w->
     c.wp P (Exit.then (InL P c λe a' w'=>∃s',k e s'=M r/\Mt C n s' a' w') λe a' w'=>∃s',k e s'=M r/\Mt C n s' a' w') a w:=by
    intro m;induction m with
    |zero=>
     intro p hg a w hm;have hg:p=q:=hg;subst hg;refine wp_mono (hc b hb α r _ _ a w h hm) λe a' w' ⟨s',q1,q2⟩=> ?_;cases e with
     |normal=>cases q1
     |_=>exact⟨s',q1,q2⟩
    |succ m ih=>
     intro p hg a w hm;obtain⟨p',g1,g3⟩:=hg;refine wp_mono (hc b hb (af γ) (M p') _ _ a w g1 hm) λe a' w' ⟨s',q1,q2⟩=> ?_;cases e with
     |normal=>
      obtain⟨p'',q3,q4⟩:=zj.1 (show (rd s').map M=M (M p')from q1);cases q4;exact P3 (ih p' g3 a' w' (hrd C s' p' a' w' hC q3 q2))
     |_=>cases q1
   exact Il (key m p hgo a w (hrd C s p a w hC hp hm))
  |_=>exact Ii (hc _ ho α) fuel r s k a w h hm
 |rangeFunc g ps x y _ _=>
  intro an ho α r s k a w h hm;cases an with
  |rf γ rd pat pat2 o5=>
   obtain⟨hrd,hrf⟩:lI n0 n rd pat/\YI P n0 n (.rangeFunc g ps x y) pat pat2 o5:=ho;change (match rd s with
    |some p=>match o5 p with
     |some q=>k .normal (pat2 q)
     |none=>J
    |none=>J)=M r at h
   split at h
   case h_2=>cases h
   rename_i p hp;split at h
   case h_2=>cases h
   rename_i q hq;refine wp_mono (hrf C p q a w hC hq (hrd C s p a w hC hp hm)) λe a' w' ⟨he,h1⟩=> ?_;subst he;exact⟨_,h,h1⟩
  |_=>cases h
 |exit i=>exact λan _ α r s k a w h hm=>wp_exit ⟨s,h,hm⟩
 |ret=>exact λan _ α r s k a w h hm=>wp_ret ⟨s,h,hm⟩
 |_=>exact λan _ α r s k a w h hm=>by cases h
def bY(P:Program)(F:aT)(fuel:Nat)(an:An){α:Type}(f:FuncId)(args:aa AV)(R:aS)(nx:Nat)(k:St->af α):af α:=match P.funcs[f]? with
 |some fn=>match fn.body with
  |some c=>match z7 (zZ args) fn.ntmps&& !(fn.name=="runtime.NumGoroutine")with
   |true=>kO P F fn.ntmps fuel c an α ⟨NI 0 args .e,R,nx⟩ λe s=>match e with
    | .normal=>k s
    | .ret=>k s
    |_=>J
   |false=>J
  |none=>J
 |none=>J
def dB(P:Program)(F:aT)(n0:Nat)(fuel:Nat)(f:FuncId)(an:An):Prop:=∀fn c,P.funcs[f]? =M fn->fn.body=M c->OY P F n0 fn.ntmps fuel c an
def mZ(P:Program)(f:FuncId)(s:St):af (aa AV):=match P.funcs[f]? with
 |some fn=>HG P s fn.results.toList
 |none=>J
structure Out where
 d:AV
 R:aS
 c:Nat
def Ht(P:Program)(f:FuncId)(args:aa AV)(R0:aS)(n0:Nat)(x:Out):Prop:=∀ρ:Gh,Fn P f (args.map (bU.sub ρ)) (aS.res ρ R0) (λa s=>∃ρ':Gh,nc n0 ρ ρ'/\a=x.d.sub ρ'/\List.Perm s (aS.res ρ' x.R))
def hU(hF:bK P F){n0 fuel:Nat}{f:FuncId}{an:An}(han:dB P F n0 fuel f an){args:aa AV}{R0:aS}{γ:Type}{rd:St->af γ}{pat:γ->St}{out:γ->Out}{p:γ}
  (hrd:∀n,lI n0 n rd pat) (ho:∀p,(match mZ P f (pat p)with
   |some ds=>M (Out.mk (iK ds) (sI (pat p).R n0 (iK ds)) (pat p).nx)
   |none=>J)=M (out p))
  (hargs:∀d∈args,cE n0 d) (hR:aS.cE n0 R0) (h:bY P F fuel an f args R0 n0 rd=M p):sL P f/\Ht P f args R0 n0 (out p):=by
 unfold bY at h;split at h
 case h_2=>cases h
 rename_i fn hf;split at h
 case h_2=>cases h
 rename_i c hb;split at h
 case h_2=>cases h
 rename_i hc;rw[zh]at hc;obtain⟨hl,hnm⟩:=hc;have hop:=ho p;split at hop
 case h_2=>cases hop
 rename_i ds hds;have hds:HG P (pat p) fn.results.toList=M ds:=by
  unfold mZ at hds;rw[hf]at hds;exact hds
 have hop:=zJ.inj hop;refine⟨⟨fn,hf,by simpa using hnm,by rw[hb];rfl⟩,λρ=>Fn.of hf hb rfl (by rw[zF];exact hl) λC a w ha=> ?_⟩;have hm:Mt ⟨C,ρ,n0⟩ fn.ntmps ⟨NI 0 args .e,R0,n0⟩ a w:=by
  refine⟨fD 0 args,?_,λq hq=>hargs _ (qx hq),hR,ρ,⟨.refl _ _,zx _⟩,?_⟩
  ·have:=AQ args 0 .e [] (λt d ht=>by cases t<;>cases ht) (λt d ht=>by cases t<;>cases ht)
   rwa [yN]at this
  ·rw[qI];exact ha
 refine wp_mono (ahc (C:=⟨C,ρ,n0⟩) hF.ok hF.nat rfl fuel c an (han fn c hf hb) γ p _ _ a w h hm) λe a' w' ⟨s',h1,h2⟩=> ?_;have fin:∀e:Exit,(e= .normal\/e= .ret)->rd s'=M p->∃E' σ',lH C fn.ntmps E' σ' a' w'/\aaD P C fn.ntmps fn (λa s=>∃ρ':Gh,nc n0 ρ ρ'/\a=(out p).d.sub ρ'/\List.Perm s (aS.res ρ' (out p).R)) e E' σ':=λe he hp=>by
  have hm':=hrd fn.ntmps ⟨C,ρ,n0⟩ s' p a' w' rfl hp h2;obtain⟨E,hh,hE,hR,ρ',⟨hag,hnx⟩,hsim⟩:=hm';have hsub:List.Sublist (sI (pat p).R n0 (iK ds)) (pat p).R:=AR _ _ _;refine⟨_,_,hsim,Ue (σ':=aS.res ρ' (sI (pat p).R n0 (iK ds))) (av:=(iK ds).sub ρ') he (hsub.map _) ⟨ρ',hag,by rw[<-hop],by rw[<-hop]⟩ λA w' tmps hd hs=> ?_⟩;obtain⟨us,q1,q2⟩:=Mg hh hd hs hds;refine⟨_,?_,NZ q2⟩;show (do let vs <-fn.results.mapM (pX tmps);pure (if h:vs.size=1 then vs[0]else .tuple vs):Sem Value).run P w'=_;have e1:fn.results=fn.results.toList.toArray:=by simp
  rw[e1,List.mapM_toArray];simp[q1]
 cases e with
 |normal=>exact fin _ (.inl rfl) h1
 |ret=>exact fin _ (.inr rfl) h1
 |_=>cases h1
end
section
variable {γ:Type} (rnd:γ->af (af γ))
def rQ:Nat->γ->γ->Prop
 |0,p,q=>p=q/\∀r,rnd p≠M (M r)
 |n+1,p,q=>∃p',rnd p=M (M p')/\rQ n p' q
open Classical in
def bX(p:γ):af γ:=if h:∃q n,rQ rnd n p q then M (Classical.choose h)else J
variable {rnd}
def rQ.oU:∀{n m:Nat} {p q q':γ},rQ rnd n p q->rQ rnd m p q'->n=m/\q=q'
 |0,0,p,q,q',⟨h1,_⟩,⟨h2,_⟩=>⟨rfl,h1▸h2⟩
 |0,m+1,p,q,q',⟨h1,h3⟩,⟨p',h2,_⟩=>iy h2 (h3 p')
 |n+1,0,p,q,q',⟨p',h2,_⟩,⟨h1,h3⟩=>iy h2 (h3 p')
 |n+1,m+1,p,q,q',⟨p',h1,h2⟩,⟨p'',h3,h4⟩=>by
  rw[h1]at h3;cases h3;obtain⟨e1,e2⟩:=rQ.oU h2 h4;exact⟨by rw[e1],e2⟩
def rQ.o5{n:Nat}{p q:γ}(h:rQ rnd n p q):bX rnd p=M q:=by
 have hx:∃q n,rQ rnd n p q:=⟨q,n,h⟩;unfold bX;rw[dif_pos hx];obtain⟨m,hm⟩:=Classical.choose_spec hx;rw[(rQ.oU hm h).2]
def BJ{p q:γ}(h:bX rnd p=M q):∃n,rQ rnd n p q:=by
 unfold bX at h;split at h
 ·rename_i hx;cases h;exact Classical.choose_spec hx
 ·cases h
def cT{p p':γ}(h:rnd p=M (M p')):bX rnd p=bX rnd p':=by
 cases h2:bX rnd p' with
 |some q=>
  obtain⟨n,hn⟩:=BJ h2;exact(show rQ rnd (n+1) p q from⟨p',h,hn⟩).o5
 |none=>
  cases h1:bX rnd p with
  |none=>rfl
  |some q=>
   obtain⟨n,hn⟩:=BJ h1;cases n with
   |zero=>exact iy h (hn.2 p')
   |succ n=>
    obtain⟨p'',h3,h4⟩:=hn;rw[h]at h3;cases h3;rw[h4.o5]at h2;cases h2
def cW{p:γ}(h:∀r,rnd p≠M (M r)):bX rnd p=M p:=(show rQ rnd 0 p p from⟨rfl,h⟩).o5
def rQ.x{x:XT}{rd:St->af γ}{pat:γ->St}{b:An}(hx:∀p,x b (af γ) (pat p) (kOn rd)=rnd p):∀{n:Nat} {p q:γ},rQ rnd n p q->Wc x rd pat b n p q
 |0,_,_,h=>h.1
 |_+1,_,_,⟨p',h1,h2⟩=>⟨p',by rw[hx];exact h1,rQ.x hx h2⟩
def DD{x:XT}{rd:St->af γ}{pat:γ->St}{b:An}(hx:∀p,x b (af γ) (pat p) (kOn rd)=rnd p):XP x rd pat (bX rnd) b:=λp q h=>by
 obtain⟨n,hn⟩:=BJ h;exact⟨n,hn.x hx⟩
end
section
variable {β γ δ:Type}
def PN(f:AV->af β)(c:β->AV):Prop:=∀a b,f a=M b->(∀(ρ:Gh) A w v,Rel A w (a.sub ρ) v->Rel A w ((c b).sub ρ) v)/\∀n,cE n a->cE n (c b)
def PN.of{f:AV->af β}{c:β->AV}(h:P1 f c)(hc:∀a b,f a=M b->CM 2 a=Z)(hl:∀b,(∀ρ,(c b).sub ρ=c b)/\∀n,cE n (c b)):PN f c:=λa b hb=>
 ⟨λρ A w v hr=>by rw[jK 2 (hc a b hb)]at hr;rw[(hl b).1];exact h a b hb A w v hr,λn _=>(hl b).2 n⟩
def PN.i(k:IntKind):PN (jo k) (bU.n k):= .of (.i k) (λa b h=>by
 unfold jo at h;split at h
 ·rfl
 ·cases h) λb=>⟨λρ=>bL ρ _,λn=> .lit _⟩
def PN.b:PN asB bU.b:= .of .b (λa b h=>by
 unfold asB at h;split at h
 ·rfl
 ·cases h) λb=>⟨λρ=>bL ρ _,λn=> .lit _⟩
def PN.s:PN asS bU.s:= .of .s (λa b h=>by
 unfold asS at h;split at h
 ·rfl
 ·cases h) λb=>⟨λρ=>bL ρ _,λn=> .lit _⟩
def PN.l(t:Nat):PN (kG t) (bU.sl t):= .of (.l t) (λa b h=>by
 unfold kG at h;split at h
 ·rfl
 ·rfl
 ·cases h) λb=>⟨λρ=>fV ρ _ _,λn=> .sl _ _⟩
def ako(t:Nat):AV->af (U.cQ t)
 | .agg cs=>match cs.all (CM 1)with
  |true=>L.parse t cs
  |false=>J
 |_=>J
def PN.g(t:Nat):PN (ako t) (λx=> .agg (U.cells t x)):= .of (λa b h A w v hr=>by
 unfold ako at h;split at h
 ·split at h
  ·obtain⟨us,rfl,h2⟩:=hr.gO;exact Rel.nK (L.k9 _ _ _ h A w us h2)
  ·cases h
 ·cases h) (λa b h=>by
 unfold ako at h;split at h
 ·split at h
  ·assumption
  ·cases h
 ·cases h) λb=>⟨λρ=>by rw[eS,L.clo],λn=> .agg _ (L.oZ t b n)⟩
def asP(id off:Nat):AV->af Unit
 | .ptr i o=>match zg i id&&zg o off with
  |true=>M ()
  |false=>J
 |_=>J
def PN.p(id off:Nat):PN (asP id off) (λ_=> .ptr id off):=λa b h=>by
 unfold asP at h;split at h
 ·split at h
  ·rename_i hc;rw[zh]at hc;rw[fL hc.1,fL hc.2];simp
  ·cases h
 ·cases h
def asO(id:Nat):AV->af Unit
 | .own i=>match zg i id with
  |true=>M ()
  |false=>J
 |_=>J
def PN.o(id:Nat):PN (asO id) (λ_=> .own id):=λa b h=>by
 unfold asO at h;split at h
 ·split at h
  ·rename_i hc;rw[fL hc];simp
  ·cases h
 ·cases h
def Nz(q:aa AV->af γ)(c:γ->aa AV):Prop:=∀cs g,q cs=M g->(∀(ρ:Gh) A w us,bD A w (cs.map (bU.sub ρ)) us->bD A w ((c g).map (bU.sub ρ)) us)/\∀n,(∀a∈cs,cE n a)->∀a∈c g,cE n a
def Nz.nil:Nz sR (λ_=>[]):=λcs g h=>by
 unfold sR at h;split at h
 ·simp
 ·cases h
def Nz.cons{f:AV->af β}{c:β->AV}{q:aa AV->af γ}{d:γ->aa AV}(h:PN f c)(hq:Nz q d):Nz (eE f q) (λx=>c x.1::d x.2):=λcs g hg=>by
 unfold eE at hg;split at hg
 ·obtain⟨b,h1,hg⟩:=zl.1 hg;obtain⟨g',h2,rfl⟩:=zj.1 hg;obtain⟨h3,h4⟩:=h _ _ h1;obtain⟨h5,h6⟩:=hq _ _ h2;refine⟨λρ A w us hr=> ?_,λn hn a ha=> ?_⟩
  ·rw[zI]at hr ⊢;obtain⟨v,us',rfl,h7,h8⟩:=hr.head;exact bD.cons (h3 ρ A w v h7) (h5 ρ A w us' h8)
  ·rcases zk.1 ha with rfl|ha
   ·exact h4 n (hn _ zm)
   ·simp_all
 ·cases hg
def axl(q:aa AV->af γ):AV->af γ
 | .agg cs=>q cs
 |_=>J
def PN.ag{q:aa AV->af γ}{c:γ->aa AV}(h:Nz q c):PN (axl q) (λx=> .agg (c x)):=λa b hb=>by
 unfold axl at hb;split at hb
 ·rename_i cs;obtain⟨h1,h2⟩:=h _ _ hb;refine⟨λρ A w v hr=> ?_,λn hn=> .agg _ (h2 n hn.nK)⟩;rw[eS]at hr ⊢;obtain⟨us,rfl,h3⟩:=hr.gO;exact Rel.nK (h1 ρ A w us h3)
 ·cases hb
def ar5(k:Nat)(q:aa AV->af γ):AV->af γ
 | .fn (.func i) cs=>match zg i k with
  |true=>q cs
  |false=>J
 |_=>J
def PN.ff(k:Nat){q:aa AV->af γ}{c:γ->aa AV}(h:Nz q c):PN (ar5 k q) (λx=> .fn (.func k) (c x)):=λa b hb=>by
 unfold ar5 at hb;split at hb
 ·rename_i i cs;split at hb
  ·rename_i hi;have hi:=fL hi;subst hi;obtain⟨h1,h2⟩:=h _ _ hb;refine⟨λρ A w v hr=> ?_,λn hn=> .fn _ _ (h2 n hn.fnL)⟩;rw[sV]at hr ⊢;generalize ha:bU.fn (Fn.func i) (cs.map (bU.sub ρ))=a at hr;cases hr with
   |fn f cs' us hl hr=>
    cases ha;obtain⟨h3,h4⟩:=h1 ρ A w us ⟨hl,hr⟩;exact .fn _ _ us h3 h4
   |_=>cases ha
  ·cases hb
 ·cases hb
def ar3(q:aa AV->af γ):AV->af γ
 | .fp cs=>q cs
 |_=>J
def PN.fp{q:aa AV->af γ}{c:γ->aa AV}(h:Nz q c):PN (ar3 q) (λx=> .fp (c x)):=λa b hb=>by
 unfold ar3 at hb;split at hb
 ·rename_i cs;obtain⟨h1,h2⟩:=h _ _ hb;refine⟨λρ A w v hr=> ?_,λn hn=> ?_⟩
  ·rw[mB]at hr ⊢;generalize ha:bU.fp (cs.map (bU.sub ρ))=a at hr;cases hr with
   |fp cs' b o us hb hA hl hc hr=>
    cases ha;obtain⟨h3,h4⟩:=h1 ρ A w us ⟨hl,hr⟩;exact .fp _ b o us hb hA h3 hc h4
   |_=>cases ha
  ·generalize ha:bU.fp cs=a at hn;cases hn with
   |fp cs' h5=>cases ha;exact .fp _ (h2 n h5)
   |_=>cases ha
 ·cases hb
def arZ:AV->af Unit
 | .lit (.slice J 0 0)=>M ()
 |_=>J
def PN.ns:PN arZ (λ_=> .lit (.slice J 0 0)):=λa b hb=>by
 unfold arZ at hb;split at hb
 ·simp
 ·cases hb
def aww:AV->af Unit
 | .lit (.pointer J)=>M ()
 |_=>J
def PN.np:PN aww (λ_=> .lit (.pointer J)):=λa b hb=>by
 unfold aww at hb;split at hb
 ·simp
 ·cases hb
def avL(t:Nat)(cs:aa AV):af (U.cQ t):=match cs.all (λc=>CM 1 c||Mj c)with
 |true=>L.parse t cs
 |false=>J
def Nz.parse(t:Nat):Nz (avL t) (λx=>U.cells t x):=λcs g h=>by
 unfold avL at h;split at h
 ·rename_i hc;have e:∀ρ,cs.map (bU.sub ρ)=cs:=λρ=>by
   have:cs.map (bU.sub ρ)=cs.map id:=zV λa ha=>(yO _ _▸zn.1 hc a ha:CM 1 a=Z\/Mj a=Z).elim (λh=>jK 1 h) λh=>GC h ρ;simp_all
  exact⟨λρ A w us hr=>by rw[e]at hr;rw[L.clo];exact L.k9 _ _ _ h A w us hr,λn _=>L.oZ t g n⟩
 ·cases h
def slN(_:ET):af Unit:=M ()
def slC(t:Nat)(f:AV->af β)(q:ET->af γ)(T:ET):af (β×γ):=match cF T t with
 |some a=>(f a).bind λb=>(q T).map λg=>(b,g)
 |none=>J
def oR(q:ET->af γ)(d:γ->Env):Prop:=∀T g,q T=M g->∀(E:Env),pP T E->(∀(ρ:Gh) A w tmps,gX A w (E.sub ρ) tmps->gX A w ((d g).sub ρ) tmps)/\∀n,E.cE n->(d g).cE n
def oR.nil:oR slN (λ_=>[]):=λT g _ E _=>⟨λρ A w tmps _ t av h=>(by cases h),λn _ p hp=>(by cases hp)⟩
def oR.cons{t:Nat}{f:AV->af β}{c:β->AV}{q:ET->af γ}{d:γ->Env}(hf:PN f c)(hq:oR q d):oR (slC t f q) (λx=>(t,c x.1)::d x.2):=λT g h E hh=>by
 unfold slC at h;split at h
 case h_2=>cases h
 rename_i a ha;obtain⟨b,hb,h⟩:=zl.1 h;obtain⟨g',hg,rfl⟩:=zj.1 h;obtain⟨h1,h2⟩:=hf a b hb;obtain⟨h3,h4⟩:=hq T g' hg E hh;refine⟨λρ A w tmps hs s av hx=> ?_,λn hn p hp=> ?_⟩
 ·have hx:Env.get ((t,(c b).sub ρ)::(d g').sub ρ) s=M av:=hx;by_cases hts:t=s
  ·subst hts;rw[Env.ew]at hx;cases hx;obtain⟨v,q1,q2⟩:=hs t (a.sub ρ) (by rw[Env.eR,hh t a ha];rfl);simp_all
  ·rw[Env.dH _ _ hts]at hx;exact h3 ρ A w tmps hs s av hx
 ·rcases zk.1 hp with rfl|hp
  ·exact h2 n (hn _ (Env.get_mem (hh t a ha)))
  ·exact h4 n hn p hp
def asD(E:Env):ET:=List.rec .e (λp _ T=>ig p.1 p.2 T) E
def Bo:∀E:Env,pP (asD E) E
 |[]=>λt d h=>by cases t<;>cases h
 |p::E=>(Bo E).put p.1 p.2
def leR(p p':Nat×IR):Prop:=p.1=p'.1/\(∀(ρ:Gh) A w,(p.2.res ρ p.1).ok A w->(p'.2.res ρ p'.1).ok A w)/\(∀ρ:Gh,(p.2.res ρ p.1).blk=(p'.2.res ρ p'.1).blk)/\∀n,p.2.cE n->p'.2.cE n
inductive HE:aS->aS->Prop
 |nil:HE [] []
 |cons {p p':Nat×IR} {R R':aS} (h:leR p p') (hs:HE R R'):HE (p::R) (p'::R')
def rsN:aS->af Unit
 |[]=>M ()
 |_=>J
def rsR(id t:Nat)(q:aS->af γ):aS->af (aa (U.cQ t)×γ)
 |(i, .row t' l)::R=>match zg i id with
  |true=>(vL t' t l).bind λl=>(q R).map λg=>(l,g)
  |false=>J
 |_=>J
def vW(q:aS->af γ)(d:γ->aS):Prop:=∀R g,q R=M g->HE R (d g)
def vW.nil:vW rsN (λ_=>[]):=λR g h=>by
 cases R with
 |nil=>exact .nil
 |cons p R=>cases h
def vW.row{id t:Nat}{q:aS->af γ}{d:γ->aS}(hq:vW q d):vW (rsR id t q) (λx=>(id, .row t x.1)::d x.2):=λR g h=>by
 obtain⟨i,t',l,R',rfl,hcd,h9⟩:∃i t' l R',R=(i,IR.row t' l)::R'/\zg i id=Z/\((vL t' t l).bind λl=>(q R').map λg=>(l,g))=M g:=by
  unfold rsR at h;split at h
  ·split at h
   ·rename_i hcd;exact⟨_,_,_,_,rfl,hcd,h⟩
   ·cases h
  ·cases h
 have e1:=fL hcd;subst e1;obtain⟨l',hl,h9⟩:=zl.1 h9;obtain⟨g',hg,rfl⟩:=zj.1 h9;obtain⟨rfl,rfl⟩:=mT hl;exact .cons ⟨rfl,λρ A w h=>h,λρ=>rfl,λn h=>h⟩ (hq _ _ hg)
def aow:(k' k:KK)->(e' e:VK)->aa (k'.T×e'.T)->af (aa (k.T×e.T))
 | .k1, .k1, .i, .i,l=>M l
 | .k1, .k1, .b, .b,l=>M l
 | .k2, .k2, .i, .i,l=>M l
 | .k2, .k2, .b, .b,l=>M l
 | .k3, .k3, .i, .i,l=>M l
 | .k3, .k3, .b, .b,l=>M l
 |_,_,_,_,_=>J
def Zu{k' k:KK}{e' e:VK}{l:aa (k'.T×e'.T)}{l':aa (k.T×e.T)}(h:aow k' k e' e l=M l'):l.map (mW k' e')=l'.map (mW k e):=by
 cases k'<;>cases k<;>cases e'<;>cases e<;>first|(cases h;rfl)|cases h
def axL(k:KK)(e:VK)(es:aa (AV×AV)):af (aa (k.T×e.T)):=List.rec (M []) (λp _ ih=>(k.rk p.1).bind λx=>(e.rv p.2).bind λv=>ih.map λl=>(x,v)::l) es
def Ym{k:KK}{e:VK}:∀{es:aa (AV×AV)} {l:aa (k.T×e.T)},axL k e es=M l->es=l.map (mW k e)
 |[],l,h=>by cases h;rfl
 |(a,b)::es,l,h=>by
  obtain⟨x,h1,h⟩:=zl.1 (show ((k.rk a).bind λx=>(e.rv b).bind λv=>(axL k e es).map λl=>(x,v)::l)=M l from h);obtain⟨v,h2,h⟩:=zl.1 h;obtain⟨l',h3,rfl⟩:=zj.1 h;rw[KK.abP h1,VK.arq h2,Ym h3];rfl
def rsM(id:Nat)(k:KK)(e:VK)(q:aS->af γ):aS->af (aa (k.T×e.T)×γ)
 |(i, .md k' e' l)::R=>match zg i id with
  |true=>(aow k' k e' e l).bind λl=>(q R).map λg=>(l,g)
  |false=>J
 |(i, .mp es)::R=>match zg i id with
  |true=>(axL k e es).bind λl=>(q R).map λg=>(l,g)
  |false=>J
 |_=>J
def vW.map{id:Nat}{k:KK}{e:VK}{q:aS->af γ}{d:γ->aS}(hq:vW q d):vW (rsM id k e q) (λx=>(id, .md k e x.1)::d x.2):=λR g h=>by
 have fin:∀(r:IR) (R':aS) (es:aa (AV×AV)) (l:aa (k.T×e.T)) (g':γ),(∀(ρ:Gh) i,r.res ρ i= .mp (ρ.v i) es)->es=l.map (mW k e)->q R'=M g'->HE ((id,r)::R') ((id, .md k e l)::d g'):=λr R' es l g' h1 h2 h3=>by
  subst h2;have e1:∀ρ:Gh,r.res ρ id=(IR.md k e l).res ρ id:=λρ=>h1 ρ id;exact .cons ⟨rfl,λρ A w h=>by rw[<-e1];exact h,λρ=>by rw[e1],λn _=>trivial⟩ (hq _ _ h3)
 unfold rsM at h;split at h
 ·rename_i i k' e' l R';split at h
  case h_2=>cases h
  rename_i hi;have hi:=fL hi;subst hi;obtain⟨l',hl,h9⟩:=zl.1 h;obtain⟨g',hg,rfl⟩:=zj.1 h9;exact fin _ _ _ _ _ (λ_ _=>rfl) (Zu hl) hg
 ·rename_i i es R';split at h
  case h_2=>cases h
  rename_i hi;have hi:=fL hi;subst hi;obtain⟨l',hl,h9⟩:=zl.1 h;obtain⟨g',hg,rfl⟩:=zj.1 h9;exact fin _ _ _ _ _ (λ_ _=>rfl) (Ym hl) hg
 ·cases h
def axt(id T:Nat)(f:aa AV->af β)(q:aS->af γ):aS->af (β×γ)
 |(i, .box T' cs)::R=>match zg i id&&zg T' T with
  |true=>(f cs).bind λb=>(q R).map λg=>(b,g)
  |false=>J
 |_=>J
def vW.aLU{id T:Nat}{f:aa AV->af β}{c:β->aa AV}{q:aS->af γ}{d:γ->aS}(hf:Nz f c)(hq:vW q d):vW (axt id T f q) (λx=>(id, .box T (c x.1))::d x.2):=λR g h=>by
 obtain⟨i,T',cs,R',rfl,hcd,h9⟩:∃i T' cs R',R=(i,IR.box T' cs)::R'/\(zg i id&&zg T' T)=Z/\((f cs).bind λb=>(q R').map λg=>(b,g))=M g:=by
  unfold axt at h;split at h
  ·split at h
   ·rename_i hcd;exact⟨_,_,_,_,rfl,hcd,h⟩
   ·cases h
  ·cases h
 rw[zh]at hcd;have e1:=fL hcd.1;have e2:=fL hcd.2;subst e1 e2;obtain⟨b,hb,h9⟩:=zl.1 h9;obtain⟨g',hg,rfl⟩:=zj.1 h9;obtain⟨k1,k2⟩:=hf _ _ hb;exact .cons ⟨rfl,λρ A w ⟨us,h1,h2⟩=>⟨us,h1,k1 ρ A w us h2⟩,λρ=>rfl,λn hn=>k2 n hn⟩ (hq _ _ hg)
def GG{ρ:Gh}:∀{R R':aS},HE R R'->bh (aS.res ρ R)=bh (aS.res ρ R')
 |_,_, .nil=>rfl
 |_,_, .cons (p:=p) (p':=p') h hs=>by
  unfold bh aS.res;rw[zI,zI,xd,xd,h.2.2.1 ρ];have:=GG (ρ:=ρ) hs;unfold bh aS.res at this;rw[this]
def RF{ρ:Gh}{A:Nat->Prop}{w:World}:∀{R R':aS},HE R R'->(∀r∈aS.res ρ R,r.ok A w)->∀r∈aS.res ρ R',r.ok A w
 |_,_, .nil,_=>λr hr=>by cases hr
 |_,_, .cons (p:=p) (p':=p') h hs,h0=>λr hr=>by
  rcases zk.1 hr with rfl|hr
  ·exact h.2.1 ρ A w (h0 _ zm)
  ·exact RF hs (λr hr=>h0 r (zM _ hr)) r hr
def Wk{n:Nat}:∀{R R':aS},HE R R'->aS.cE n R->aS.cE n R'
 |_,_, .nil,h=>h
 |_,_, .cons (p:=p) (p':=p') h hs,h0=>λq hq=>by
  rcases zk.1 hq with rfl|hq
  ·exact⟨by rw[<-h.1];exact(h0 _ zm).1,h.2.2.2 n (h0 _ zm).2⟩
  ·exact Wk hs (λq hq=>h0 q (zM _ hq)) q hq
def stR(m:Nat)(q:ET->af γ)(r:aS->af δ)(s:St):af (γ×δ):=match zg s.nx m with
 |true=>(q s.E).bind λg=>(r s.R).map λh=>(g,h)
 |false=>J
def stP(m:Nat)(d:γ->Env)(e:δ->aS)(p:γ×δ):St:=⟨asD (d p.1),e p.2,m⟩
def ar7{n0 n m:Nat}{q:ET->af γ}{r:aS->af δ}{d:γ->Env}{e:δ->aS}(hq:oR q d)(hr:vW r e):lI n0 n (stR m q r) (stP m d e):=λC s p a w _ h hm=>by
 unfold stR at h;split at h
 case h_2=>cases h
 rename_i hnx;have hnx:=fL hnx;obtain⟨g,hg,h⟩:=zl.1 h;obtain⟨g',hg',rfl⟩:=zj.1 h;obtain⟨E,hh,hE,hR,ρ,hag,hsim⟩:=hm;obtain⟨h1,h2⟩:=hq _ _ hg E hh;have h3:=hr _ _ hg';have hb:bh (aS.res ρ (e g'))=bh (aS.res ρ s.R):=(GG h3).symm;have hal:∀b,al C.C (aS.res ρ s.R) b->al C.C (aS.res ρ (e g')) b:=λb hA=>⟨hA.1,by rw[hb];exact hA.2⟩;subst hnx;have hdis:(bh (aS.res ρ (e g'))).Nodup:=by rw[hb];exact hsim.good.BR
 refine⟨d g,Bo _,h2 _ hE,Wk h3 hR,ρ,hag,hsim.defers.step (λb _ hA=>⟨hal b hA,rfl⟩),hsim.size,λt av ht=> ?_,hsim.good.kept,λx hx=> ?_,hdis,λb hx=>hsim.good.own b (by rw[<-hb];exact hx)⟩
 ·obtain⟨v,q1,q2⟩:=h1 ρ _ w a.tmps hsim.slots t av ht;exact⟨v,q1,q2.mono λb _ hA=>⟨hal b hA,rfl⟩⟩
 ·exact(RF h3 hsim.good.res x hx).mono (λb _ hA=>⟨hal b hA,rfl⟩) (λ_ _=>rfl)
end
def rdM{γ γ':Type}(e:γ->γ')(rd:St->af γ)(s:St):af γ':=match rd s with
 |some p=>M (e p)
 |none=>J
def lI.m{γ γ':Type}{n0 n:Nat}{rd:St->af γ}{pat:γ->St}(h:lI n0 n rd pat)(e:γ->γ'){pat':γ'->St}(he:∀p,pat' (e p)=pat p):lI n0 n (rdM e rd) pat':=λC s p a w hC hr hm=>by
 unfold rdM at hr;split at hr
 ·rename_i p' hp;cases hr;rw[he];exact h C s p' a w hC hp hm
 ·cases hr
def Z1(c:Code):An->aa (Code×An):=
 Code.rec (λ_=>[]) (λ_ _ _ an=>match an with
   | .rb fs t=>[(.skip, .rb fs t)]
   |_=>[]) (λ_ _ x y an=>x an.l++y an.r) (λ_ _ _ x y an=>(match an with
   | .jn γ rd pat l r=>[(.skip, .jn γ rd pat l r)]
   |_=>[])++(x an.l++y an.r)) (λ_ _ x=>x)
  (λc x an=>match an with
   | .lp γ rd pat o5 b=>(c, .lp γ rd pat o5 b)::x b
   |an=>x an) (λg ps x y _ _ an=>match an with
   | .rf γ rd pat pat2 o5=>[(.rangeFunc g ps x y, .rf γ rd pat pat2 o5)]
   |_=>[]) (λ_ _=>[]) (λ_ _ _=>[]) (λ_ _=>[]) (λ_ _=>[]) (λ_=>[]) (λ_ _=>[]) c
def FD(P:Program)(F:aT)(n0 n:Nat)(fuel:Nat)(p:Code×An):Prop:=match p.2 with
 | .lp _ rd pat o5 b=>lI n0 n rd pat/\XP (kO P F n fuel p.1) rd pat o5 b
 | .jn _ rd pat _ _=>lI n0 n rd pat
 | .rb fs _=>∀f∈fs,bH F f
 | .rf _ rd pat pat2 o5=>lI n0 n rd pat/\YI P n0 n p.1 pat pat2 o5
 |_=>True
def aiE{P:Program}{F:aT}{n0 n fuel:Nat}(c:Code):∀an,(∀p∈Z1 c an,FD P F n0 n fuel p)->OY P F n0 n fuel c an:=by
 induction c with
 |region id ops draw=>
  intro an h;cases an with
  |rb fs t=>exact h (.skip, .rb fs t) (zA.2 rfl)
  |_=>exact trivial
 |seq x y hx hy=>
  intro an h;exact⟨hx an.l λp hp=>h p (ye _ hp),hy an.r λp hp=>h p (ym _ hp)⟩
 |cond c x y hx hy=>
  intro an h;refine⟨λγ rd pat l r he=> ?_,hx an.l λp hp=>h p (ym _ (ye _ hp)),hy an.r λp hp=>h p (ym _ (ym _ hp))⟩;subst he;exact h (.skip, .jn γ rd pat l r) (ye _ (zA.2 rfl))
 |block id x hx=>exact λan h=>hx an h
 |loop c hc=>
  intro an h;cases an with
  |lp γ rd pat o5 b=>
   have h0:=h (c, .lp γ rd pat o5 b) zm;exact⟨h0.1,h0.2,hc b λp hp=>h p (zM _ hp)⟩
  |no=>exact hc _ h
  |two l r=>exact hc _ h
  |jn γ rd pat l r=>exact hc _ h
  |rb fs t=>exact hc _ h
  |rf γ rd pat pat2 o5=>exact hc _ h
 |rangeFunc g ps x y _ _=>
  intro an h;cases an with
  |rf γ rd pat pat2 o5=>exact h (.rangeFunc g ps x y, .rf γ rd pat pat2 o5) (zA.2 rfl)
  |_=>exact trivial
 |_=>exact λan h=>trivial
def bF{P:Program}{F:aT}{n0 fuel f:Nat}{fn:Func}{c:Code}{an:An}{l:aa (Code×An)}(hf:P.funcs[f]? =M fn)(hb:fn.body=M c)(ho:Z1 c an=l)(h:∀p∈l,FD P F n0 fn.ntmps fuel p):dB P F n0 fuel f an:=λfn' c' h1 h2=>by
 rw[hf]at h1;cases h1;rw[hb]at h2;cases h2;exact aiE c an (by rw[ho];exact h)
def qJ(fn:Func):Code:=match fn.body with
 |some c=>c
 |none=> .skip
def aY{fn:Func}(h:fn.body.isNone=O):fn.body=M (qJ fn):=by
 unfold qJ;cases hb:fn.body with
 |none=>rw[hb]at h;cases h
 |some c=>rfl
def aiZ(c:Code):aa Code:=Code.rec [] (λ_ _ _=>[]) (λ_ _ x y=>x++y) (λ_ _ _ x y=>x++y) (λ_ _ x=>x) (λc x=>c::x) (λ_ _ _ _ _ _=>[]) (λ_=>[]) (λ_ _=>[]) (λ_=>[]) (λ_=>[]) [] (λ_=>[]) c
def afN(c:Code):aa Code:=Code.rec [] (λ_ _ _=>[]) (λ_ _ x y=>x++y) (λ_ _ _ x y=>x++y) (λ_ _ x=>x) (λ_ x=>x) (λg ps a b _ _=>[.rangeFunc g ps a b]) (λ_=>[]) (λ_ _=>[]) (λ_=>[]) (λ_=>[]) [] (λ_=>[]) c
def gU(fn:Func)(i:Nat):Code:=(afN (qJ fn)).getD i .skip
def bz(fn:Func)(i:Nat):Code:=(aiZ (qJ fn)).getD i .skip
end Go.Iv
end
