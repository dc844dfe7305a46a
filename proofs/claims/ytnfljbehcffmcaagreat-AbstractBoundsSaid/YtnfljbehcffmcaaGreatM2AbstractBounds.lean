/- Merged: Iwn, Iv8, Iw6, Iw7, Iw8, Iw9, Iw10, Iw11, Iw12, Iw13, Iw14, Iw15, Ixa, Ix1, Ix2, Ua, Ix3, Ix4, Us. -/
import Derived.Test.YtnfljbehcffmcaaGreatM1AbstractBounds
import Derived.RangeFuncNested
import Derived.RangeFuncBound
import Derived.Shelf.Abstract
import Derived.TacticsIn
import Derived.OwnWalkIn
import Derived.Test.YtnfljbehcffmcaaGreatProg
open Nat renaming beq → zb, lt_succ_self → zn, blt → zq, le_refl → zx, le_trans → zy, ble → ya, add_zero → yb, blt_eq → yl, le_succ → yo, zero_add → yu, eq_of_beq_eq_true → yX, zero_le → xj
open Bool renaming and_eq_true → ze, or_eq_true → yH, true → wE, false → wD
open Option renaming map_eq_some_iff → zf, bind_eq_some_iff → zi, some → zB, bind_assoc → zR, map_some → yg, some → O, none → wC
open List renaming mem_cons_self → zg, length_append → zh, replicate → zj, getElem?_eq_getElem → zl, all_eq_true → zm, mem_cons → zu, length_map → zA, mem_cons_of_mem → zC, mem_singleton → zD, mem_map → zH, mem_append → zP, map_congr_left → zQ, getElem?_eq_some_iff → zS, length_take → zU, map_cons → zV, mem_filter → zW, getElem?_map → zX, map_append → zY, nil_append → z8, map_map → yc, append_nil → yd, length_drop → ye, getElem?_drop → ym, getElem?_take → yq, nodup_append → yy, mem_append_left → yz, mem_append_right → yA, replicate_succ → yF, filter_cons → yK, eq_nil_of_length_eq_zero → yR, append_assoc → yS, getElem?_append → yY, size_toArray → yZ, filterMap_cons → xd, take_append_drop → xg, getElem_mem → xo, flatMap_cons → xq, filter_append → xy, drop_eq_getElem_cons → xJ, length_replicate → xL, mem_flatMap → xM, filter_filter → xP, filter_congr → xQ, getD_eq_getElem?_getD → xR, length_cons → xX, set_eq_take_append_cons_drop → wh, eraseIdx_sublist → wm, getElem?_replicate → wo, getElem?_append_right → wq
open Decidable renaming decide → wF
set_option linter.unusedSectionVars false
set_option linter.unusedVariables false
set_option linter.unusedSimpArgs false
noncomputable section
namespace Go.Iv
variable [U:qT] [L:mQ]
open Go Go.RowKit
section
variable {α β:Type} (D:α->Option β)
theorem V5{b:BinOp}{k:IntKind}{m n:Int}{K:AV->Option α}:(U9 b k m n K).bind D=U9 b k m n (fun d=>(K d).bind D):=by
 unfold U9
 cases b<;>first|rfl|(dsimp only;split<;>rfl)
theorem aaD{P:Program}{b:BinOp}{T:TypeId}{cs ds:List AV}{K:AV->Option α}:(eqS P b T cs ds K).bind D=eqS P b T cs ds (fun d=>(K d).bind D):=by
 unfold eqS
 split
 ·split
  ·cases b<;>first|rfl|exact zR ..
  ·rfl
 ·rfl
theorem H6{P:Program}{rd:Nat->Option IR}{b:BinOp}{T:TypeId}{x y:Option AV}{K:AV->Option α}:(Kr P rd b T x y K).bind D=Kr P rd b T x y (fun d=>(K d).bind D):=by
 unfold Kr
 repeat' split
 all_goals first|rfl|exact V5 D|exact aaD D|simp_all
theorem Pn{b:UnOp}{x:Option AV}{K:AV->Option α}:(unV b x K).bind D=unV b x (fun d=>(K d).bind D):=by
 unfold unV
 repeat' split
 all_goals first|rfl|simp_all
theorem Kj{x:Option AV}{K:AV->Option α}:(KW x K).bind D=KW x (fun d=>(K d).bind D):=by
 unfold KW
 repeat' split
 all_goals first|rfl|simp_all
theorem Jm{P:Program}{T:TypeId}{i:Nat}{x:Option AV}{K:AV->Option α}:(LK P T i x K).bind D=LK P T i x (fun d=>(K d).bind D):=by
 unfold LK
 repeat' split
 all_goals first|rfl|simp_all
theorem Iz{P:Program}{rd:Nat->Option IR}{T:TypeId}{x y:Option AV}{K:AV->Option α}:(L4 P rd T x y K).bind D=L4 P rd T x y (fun d=>(K d).bind D):=by
 unfold L4
 repeat' split
 all_goals first|rfl|simp_all
theorem PY{P:Program}{rd:Nat->Option IR}{T:TypeId}{x:Option AV}{K:AV->Option α}:(ldV P rd T x K).bind D=ldV P rd T x (fun d=>(K d).bind D):=by
 unfold ldV
 repeat' split
 all_goals first|rfl|exact zR .. |simp_all
theorem Uc{P:Program}{ev:Operand->Option AV}{rd:Nat->Option IR}{T:TypeId}{ps:List (Nat×Operand)}{K:AV->Option α}:(LZ P ev rd T ps K).bind D=LZ P ev rd T ps (fun d=>(K d).bind D):=by
 unfold LZ
 repeat' split
 all_goals first|rfl|exact zR .. |simp_all
theorem IQ{P:Program}{rd:Nat->Option IR}{T T':TypeId}{x:Option AV}{K:AV->Option α}:(K6 P rd T T' x K).bind D=K6 P rd T T' x (fun d=>(K d).bind D):=by
 unfold K6
 repeat' split
 all_goals first|rfl|exact zR .. |simp_all
theorem KM{i:Nat}{x:Option AV}{K:AV->Option α}:(M8 i x K).bind D=M8 i x (fun d=>(K d).bind D):=by
 unfold M8
 repeat' split
 all_goals first|rfl|exact zR .. |simp_all
theorem Xn{ev:Operand->Option AV}{f:Go.Fn}{fs cs:List Operand}{K:AV->Option α}:(L0 ev f fs cs K).bind D=L0 ev f fs cs (fun d=>(K d).bind D):=by
 unfold L0
 repeat' split
 all_goals first|rfl|exact zR .. |simp_all
theorem IN{P:Program}{T:TypeId}{x y:Option AV}{K:AV->Option α}:(LG P T x y K).bind D=LG P T x y (fun d=>(K d).bind D):=by
 unfold LG
 repeat' split
 all_goals first|rfl|exact zR .. |simp_all
theorem VW{P:Program}{T:TypeId}{x:Option AV}{lo hi:Option (Option AV)}{K:AV->Option α}:(LV P T x lo hi K).bind D=LV P T x lo hi (fun d=>(K d).bind D):=by
 unfold LV
 repeat' split
 all_goals first|rfl|exact zR .. |simp_all
theorem Kc{P:Program}{rd:Nat->Option IR}{T:TypeId}{x:Option AV}{K:AV->Option α}:(K9 P rd T x K).bind D=K9 P rd T x (fun d=>(K d).bind D):=by
 unfold K9
 repeat' split
 all_goals first|rfl|exact zR .. |simp_all
theorem WC{P:Program}{nx:Nat}{T:TypeId}{K:eX->Option α}:(SH P nx T K).bind D=SH P nx T (fun d=>(K d).bind D):=by
 unfold SH
 exact zR ..
theorem VU{rd:Nat->Option IR}{nx:Nat}{T:TypeId}{x:Option AV}{K:eX->Option α}:(Mi rd nx T x K).bind D=Mi rd nx T x (fun d=>(K d).bind D):=by
 unfold Mi
 repeat' split
 all_goals first|rfl|exact zR .. |simp_all
theorem V8{P:Program}{rd:Nat->Option IR}{T:TypeId}{x y:Option AV}{K:eX->Option α}:(MD P rd T x y K).bind D=MD P rd T x y (fun d=>(K d).bind D):=by
 unfold MD
 repeat' split
 all_goals first|rfl|exact zR .. |simp_all
theorem UQ{P:Program}{rd:Nat->Option IR}{R:aP}{nx:Nat}{T:TypeId}{x y:Option AV}{K:eX->Option α}:(Lk P rd R nx T x y K).bind D=Lk P rd R nx T x y (fun d=>(K d).bind D):=by
 unfold Lk
 split
 ·split
  ·split
   ·split
    ·rw[zR]
     congr 1
     funext l
     rw[zR]
     congr 1
     funext l2
     split<;>rfl
    ·rfl
   ·rfl
  ·rfl
 ·rfl
theorem VI{P:Program}{ev:Operand->Option AV}{rd:Nat->Option IR}{nx:Nat}{T:TypeId}{n:Nat}{ps:List (Nat×Operand)}{K:eX->Option α}:(Ma P ev rd nx T n ps K).bind D=Ma P ev rd nx T n ps (fun d=>(K d).bind D):=by
 unfold Ma
 split
 ·split
  ·split
   ·split<;>rfl
   ·split
    ·split
     ·rw[zR]
      congr 1
      funext cs
      split
      ·exact zR ..
      ·rfl
     ·rfl
    ·rfl
  ·rfl
 ·rfl
theorem Y2{P:Program}{nx:Nat}{T:TypeId}{x y:Option AV}{K:eX->Option α}:(mkE P nx T x y K).bind D=mkE P nx T x y (fun d=>(K d).bind D):=by
 unfold mkE
 split
 ·split
  ·split
   ·rw[zR]
    congr 1
    funext d
    split<;>rfl
   ·rfl
  ·rfl
 ·rfl
theorem acG{P:Program}{nx:Nat}{T:TypeId}{x:Option AV}{K:eX->Option α}:(emE P nx T x K).bind D=emE P nx T x (fun d=>(K d).bind D):=by
 unfold emE
 repeat' split
 all_goals first|rfl|simp_all
theorem Uz{P:Program}{T:TypeId}{K:Nat->List Value->Option α}:(SK P T K).bind D=SK P T (fun e zs=>(K e zs).bind D):=by
 unfold SK
 repeat' split
 all_goals first|rfl|simp_all
theorem ID{P:Program}{rd:Nat->Option IR}{e:Nat}{zs:List Value}{T' T:TypeId}{y:Option AV}{K:List (U.cH e)->Option α}:(K2 P rd e zs T' T y K).bind D=K2 P rd e zs T' T y (fun d=>(K d).bind D):=by
 unfold K2
 split
 ·exact zR ..
 ·split
  ·split
   ·rw[zR]
    congr 1
    funext d
    split<;>rfl
   ·rfl
  ·rfl
theorem U4{P:Program}{rd:Nat->Option IR}{nx:Nat}{T T':TypeId}{x y:Option AV}{K:eX->Option α}:(SD P rd nx T T' x y K).bind D=SD P rd nx T T' x y (fun d=>(K d).bind D):=by
 unfold SD
 rw[Uz]
 congr 1
 funext e zs
 split
 ·rw[ID]
  congr 1
  funext l2
  split<;>rfl
 ·split
  ·rw[zR]
   congr 1
   funext l
   rw[ID]
   congr 1
   funext l2
   split<;>rfl
  ·rfl
 ·rfl
theorem As{mx:Bool}{xs:List (Option AV)}{K:AV->Option α}:(mnV mx xs K).bind D=mnV mx xs (fun d=>(K d).bind D):=by
 unfold mnV
 split
 ·split
  ·cases mx<;>rfl
  ·rfl
 ·rfl
def cY(F:aI):Prop:=∀(α β:Type) f args R nx (k:AV->aP->Nat->Option α) (D:α->Option β),(F α f args R nx k).bind D=F β f args R nx (fun d R nx=>(k d R nx).bind D)
structure bf (P:Program) (F:aI):Prop where
 ok:gF P F
 nat:cY F
theorem TD{F:aI}(hF:cY F){ev:Operand->Option AV}{R:aP}{nx:Nat}{x:Option AV}{xs:List Operand}{K:eX->Option α}:(HV F ev R nx x xs K).bind D=HV F ev R nx x xs (fun d=>(K d).bind D):=by
 unfold HV
 split
 ·rw[zR]
  congr 1
  funext as0
  exact hF ..
 ·rfl
theorem vW{F:aI}(hF:cY F)(o:Op)(P:Program)(ev:Operand->Option AV)(rd:Nat->Option IR)(R:aP)(nx:Nat)(K:eX->Option α):(l6 o P F ev rd R nx K).bind D=l6 o P F ev rd R nx (fun e=>(K e).bind D):=by
 have hP:(fun d=>(cO K d).bind D)=cO (fun e=>(K e).bind D):=rfl
 cases o<;>first|rfl|exact zR .. |exact Pn D|exact IQ D|exact Kj D|exact Jm D|exact Iz D|exact IN D|exact PY D|exact V8 D|exact Xn D|exact KM D|exact Uc D|exact VI D|exact Y2 D|exact WC D|exact VU D|skip
 case pick c a b=>
  show (tZ c a b P F ev rd R nx K).bind D=tZ c a b P F ev rd R nx _
  unfold tZ
  split
  ·exact zR ..
  ·exact zR ..
  ·rfl
 case binOp b T x y t=>exact H6 D
 case slice T x lo hi mx=>
  show (Jr T x lo hi mx P F ev rd R nx K).bind D=Jr T x lo hi mx P F ev rd R nx _
  unfold Jr
  split
  ·exact VW D
  ·split
   ·exact acG D
   ·rfl
  ·rfl
 case call c=>
  show (Df c P F ev rd R nx K).bind D=Df c P F ev rd R nx _
  unfold Df
  split
  ·exact TD D hF
  ·unfold wK
   split
   ·split
    ·exact Kc D
    ·rfl
   ·split
    ·exact As D
    ·rfl
   ·split
    ·exact As D
    ·rfl
   ·split
    ·exact U4 D
    ·rfl
   ·split
    ·exact UQ D
    ·rfl
   ·rfl
  ·rfl
end
end Go.Iv
end
noncomputable section
namespace Go.Iv
variable [U:qT]
open Go Go.RowKit Go.Shelf Go.Proofs
section
variable {P:Program} {C:Cx} {n:Nat} {c x y:Code} {Q Q':Exit->Env->List cc->Prop} {E E':Env} {σ σ':List cc}
end
theorem Vw.box{σ:List cc}{b:Nat}{T:TypeId}{cs:List AV}(i:Nat)(hσ:σ[i]? =O (.box b T cs)):Vw σ (.lit (.pointer (O ⟨b,0,wC⟩))) (.fp cs):=fun A w v hd hr=>by
 have hv:=hr.cg
 subst hv
 have hm:=List.mem_of_getElem? hσ
 obtain⟨us,h1,h2⟩:=hd.1 _ hm
 exact .fp cs b 0 us h1.lt (.inr (bD.2 ⟨_,hm,rfl⟩)) h2.1 (fun j v hj=>by rw[yu];exact h1.cell (by simpa using hj)) (fun j a v q1 q2=>(h2.2 j a v q1 q2).mono fun b _ hA=>⟨.inl hA,rfl⟩)
def Lay(C:Cx)(σ:List cc)(w:World)(σ':List cc)(W:World):Prop:=∀b,b<w.heap.size->al C σ b->al C σ' b/\W.heap[b]? =w.heap[b]?
def Mid(C:Cx)(σ:List cc)(w:World)(J:List cc->Prop)(W:World):Prop:=
 ∃σ',J σ'/\Good C σ' W/\Lay C σ w σ' W/\w.heap.size<=W.heap.size
end Go.Iv
end
noncomputable section
namespace Go.Iv
variable [U:qT] [L:mQ]
open Go Go.RowKit
theorem oD{id t m:Nat}{l:List (U.cH t)}:∀(n:Nat) {d:AV},cj m d->cj m (mB id t l n d)
 |0,d,h=>h
 |n+1,d,h=>by
  have hL:∀{cs:List AV},(∀c∈cs,cj m c)->∀c∈cs.map (mB id t l n),cj m c:=fun h c hc=>by
   obtain⟨c',h1,rfl⟩:=zH.1 hc
   exact oD n (h c' h1)
  unfold mB
  split
  ·rename_i h0;cases h0
  ·rename_i h0;cases h0;exact .agg _ (hL h.nO)
  ·rename_i h0;cases h0;exact .iA _ (hL h.DJ)
  ·rename_i h0;cases h0;exact .fn _ _ (hL h.fnL)
  ·unfold Sc
   split
   ·split
    ·exact .sl _ _
    ·exact h
   ·exact h
theorem tc{f:AV->AV}(t:Nat):∀(E:Env),Env.get (E.map fun p=>(p.1,f p.2)) t=(E.get t).map f
 |[]=>rfl
 |(k,v)::E=>by
  show Env.get ((k,f v)::E.map fun p=>(p.1,f p.2)) t=_
  unfold Env.get
  cases hb:zb k t with
  |true=>rfl
  |false=>exact tc t E
section
variable {α:Type} {r:α} {P:Program} {F:aI} {o:Oper} {C:Cg} {n:Nat} {s:St} {a:Act} {w:World}
theorem Mt.KP(h:Mt C n s a w)(id:Nat):Mt C n (s.KP id) a w:=by
 unfold St.KP
 split
 case h_2=>exact h
 rename_i t l hr
 obtain⟨E,hh,hE,hR,ρ,hag,hsim⟩:=h
 obtain⟨i,hi1,_,hi3⟩:=dA hr
 have hres:=gv (ρ:=ρ) hi1
 have hg:=hsim.good
 have hd:Hd (al C.C (aP.res ρ s.R)) [.row (ρ.v id) t l] w:=⟨fun r hr=>by
   rw[zD]at hr
   rw[hr]
   exact hg.res _ (List.mem_of_getElem? hres),fun b hb hA=>hA.2 (by
   obtain⟨r,h1,h2⟩:=bD.1 hb
   rw[zD]at h1
   rw[h1]at h2
   exact bD.2 ⟨_,List.mem_of_getElem? hres,h2⟩)⟩
 have hle:=Is (C:=C.C) hres hg
 have hbk:bh (aP.res ρ ((jL id s.R).map fun p=>(p.1,tG id t l p.2)))=bh ((aP.res ρ s.R).eraseIdx i):=by
  rw[<-vT,<-hi3]
  unfold bh aP.res
  rw[yc,List.filterMap_map,List.filterMap_map]
  congr 1
  funext p
  obtain⟨q,rr⟩:=p
  cases rr<;>rfl
 have hal:∀b,(al C.C (aP.res ρ s.R) b\/b∈bh [cc.row (ρ.v id) t l])->al C.C (aP.res ρ ((jL id s.R).map fun p=>(p.1,tG id t l p.2))) b:=fun b hb=>by
  have:=hle b hb
  exact⟨this.1,by rw[hbk];exact this.2⟩
 have hrel:∀{d:AV} {v:Value},Rel (al C.C (aP.res ρ s.R)) w (d.sub ρ) v->Rel (al C.C (aP.res ρ ((jL id s.R).map fun p=>(p.1,tG id t l p.2)))) w ((mB id t l 3 d).sub ρ) v:=fun h=>
  (CO hd 3 h).mono fun b _ hA=>⟨hal b hA,rfl⟩
 refine⟨E.map fun p=>(p.1,mB id t l 3 p.2),fun k d hk=> ?_,fun p hp=> ?_,fun p hp=> ?_,ρ,hag,hsim.defers.step (fun b _ hA=>⟨hal b (.inl hA),rfl⟩),hsim.size,fun k av hk=> ?_,⟨hg.kept,fun rr hrr=> ?_,?_,fun b hb=> ?_⟩⟩
 ·have hk':cn (emap (mB id t l 3) s.E) k=O d:=hk
  rw[tF]at hk'
  obtain⟨d',h1,rfl⟩:=zf.1 hk'
  rw[tc,hh k d' h1]
  rfl
 ·obtain⟨p',h1,rfl⟩:=zH.1 hp
  exact oD 3 (hE p' h1)
 ·obtain⟨p',h1,rfl⟩:=zH.1 hp
  have h2:=Dj (id:=id) hR p' h1
  refine⟨h2.1,?_⟩
  obtain⟨q,rr⟩:=p'
  cases rr with
  |row t' l'=>trivial
  |box T cs=>
   intro c hc
   obtain⟨c',h3,rfl⟩:=zH.1 hc
   exact oD 3 (h2.2 c' h3)
 ·rw[Env.dP,tc]at hk
  obtain⟨d',h1,rfl⟩:=zf.1 hk
  obtain⟨d,h2,rfl⟩:=zf.1 h1
  obtain⟨v,h3,h4⟩:=hsim.slots k (d.sub ρ) (by rw[Env.dP,h2];rfl)
  exact⟨v,h3,hrel h4⟩
 ·obtain⟨p,h1,rfl⟩:=zH.1 hrr
  obtain⟨p',h2,rfl⟩:=zH.1 h1
  have hm:p'.2.res ρ p'.1∈aP.res ρ s.R:=by
   rw[hi3]at h2
   exact zH.2 ⟨p',List.mem_of_mem_eraseIdx h2,rfl⟩
  have h3:=hg.res _ hm
  obtain⟨q,rr⟩:=p'
  cases rr with
  |row t' l'=>exact h3.mono (fun b _ hA=>⟨hal b (.inl hA),rfl⟩) (fun _ _=>rfl)
  |box T cs=>
   obtain⟨us,h4,h5⟩:=h3
   refine⟨us,h4,by simpa using h5.1,fun j av v q1 q2=> ?_⟩
   rw[yc,zX]at q1
   obtain⟨c,hc,rfl⟩:=zf.1 q1
   exact hrel (h5.2 j (c.sub ρ) v (by rw[zX,hc];rfl) q2)
 ·rw[hbk]
  exact hg.DW.sublist ((wm _ _).filterMap _)
 ·rw[hbk]at hb
  exact hg.own b (nZ (fun r hr=>(wm _ _).subset hr) b hb)
def St.jj(s:St)(ids:List Nat):St:=match ids with
 |[]=>s
 |i::is=>(s.KP i).jj is
theorem Mt.jj:∀(ids:List Nat) {s:St},Mt C n s a w->Mt C n (s.jj ids) a w
 |[],_,h=>h
 |i::is,_,h=>Mt.jj is (h.KP i)
def aht:AV->List Nat
 | .own id=>[id]
 | .agg cs=>cs.filterMap fun c=>match c with
  | .own id=>O id
  |_=>wC
 |_=>[]
def VV(E:ET)(x:Operand):List Nat:=match Du E x with
 |some d=>aht d
 |none=>[]
def gV(E:ET):Op->List Nat
 | .buildSlice _ _ ps=>ps.toList.flatMap fun p=>VV E p.2
 | .store T x v=>match L.fz (Nat.add 1000000 T)with
  |true=>VV E v
  |false=>match Du E x with
   |some (.ra _ _ _ _)=>VV E v
   |_=>[]
 | .slice _ x _ _ wC=>VV E x
 | .call c=>match c.callee with
  | .value (.func f)=>match L.fz f with
   |true=>c.args.toList.flatMap (VV E)
   |false=>[]
  |_=>[]
 |_=>[]
def St.eM(s:St)(t:Nat)(b:Bool):St:={s with E:=kW t (.b b) s.E}
theorem Mt.eM{t:Nat}{b:Bool}(h:Mt C n s a w)(ht:cn s.E t=O (.lit (.bool b))):Mt C n (s.eM t b) a w:=by
 obtain⟨E,hh,hE,hR,ρ,hag,hsim⟩:=h
 refine⟨E,fun k d hk=> ?_,hE,hR,ρ,hag,hsim⟩
 have hk':cn (kW t (.b b) s.E) k=O d:=hk
 rcases ou hk' with ⟨rfl,rfl⟩|⟨_,h2⟩
 ·exact hh _ _ ht
 ·exact hh k d h2
def gate(ops:Array Oper)(o:Oper)(s:St)(yes no:St->Option α):Option α:=match o.guard with
 |none=>yes s
 |some (j,want)=>match (ops[j]?).bind (·.dst)with
  |none=>wC
  |some t=>match cn s.E t with
   |some (.lit (.bool b))=>match b with
    |true=>match want with
     |true=>yes (s.eM t wE)
     |false=>no (s.eM t wE)
    |false=>match want with
     |true=>no (s.eM t wD)
     |false=>yes (s.eM t wD)
   |some (.lit (.tuple _))=>no s
   |_=>wC
theorem Ed{ops:Array Oper}{j t:Nat}{want:Bool}{ρ:Gh}(hg:o.guard=O (j,want))(hj:(ops[j]?).bind (·.dst)=O t){E:Env}:
  (∀b,E.get t=O (.lit (.bool b))->oE (E.sub ρ) o ops=O (b==want))/\(∀vs,E.get t=O (.lit (.tuple vs))->oE (E.sub ρ) o ops=O wD):=by
 constructor
 ·intro b hb
  unfold oE
  rw[hg]
  simp only[hj,Env.dP,hb,yg,bE]
 ·intro vs hb
  unfold oE
  rw[hg]
  simp only[hj,Env.dP,hb,yg,bE]
theorem ZS{ops:Array Oper}{yes no:St->Option α}(h:gate ops o s yes no=O r)(hm:Mt C n s a w):∃s',Mt C n s' a w/\
  ((Region.wanted o (yielded ops a.tmps)=wE/\yes s'=O r)\/(Region.wanted o (yielded ops a.tmps)=wD/\no s'=O r)):=by
 unfold gate at h
 split at h
 ·rename_i hg
  exact⟨s,hm, .inl ⟨by simp[Region.wanted,hg],h⟩⟩
 ·rename_i j want hg
  split at h
  ·cases h
  ·rename_i t hj
   have hspec:∀{s':St},Mt C n s' a w->(∀b,cn s'.E t=O (.lit (.bool b))->Region.wanted o (yielded ops a.tmps)=(b==want))/\(∀vs,cn s'.E t=O (.lit (.tuple vs))->Region.wanted o (yielded ops a.tmps)=wD):=fun{s'} hm'=>by
    obtain⟨E,hh,_,_,ρ,_,hsim⟩:=hm'
    obtain⟨h1,h2⟩:=Ed (ρ:=ρ) hg hj (E:=E)
    exact⟨fun b hb=>oE.spec hsim.slots (h1 b (hh _ _ hb)),fun vs hv=>oE.spec hsim.slots (h2 vs (hh _ _ hv))⟩
   split at h
   ·rename_i b hb
    have hw:=(hspec hm).1 b hb
    split at h
    ·split at h
     ·exact⟨_,hm.eM hb, .inl ⟨hw,h⟩⟩
     ·exact⟨_,hm.eM hb, .inr ⟨hw,h⟩⟩
    ·split at h
     ·exact⟨_,hm.eM hb, .inr ⟨hw,h⟩⟩
     ·exact⟨_,hm.eM hb, .inl ⟨hw,h⟩⟩
   ·rename_i vs hb
    exact⟨s,hm, .inr ⟨(hspec hm).2 vs hb,h⟩⟩
   ·cases h
def w9(o:Op)(s:St)(f:St->Option α):Option α:=match o with
 | .pick (.tmp t) _ _=>match cn s.E t with
  |some (.lit (.bool b))=>match b with
   |true=>f (s.eM t wE)
   |false=>f (s.eM t wD)
  |_=>wC
 |_=>f s
theorem UE{op:Op}{f:St->Option α}(h:w9 op s f=O r)(hm:Mt C n s a w):∃s',Mt C n s' a w/\f s'=O r:=by
 unfold w9 at h
 split at h
 ·split at h
  ·rename_i b hb
   split at h
   ·exact⟨_,hm.eM hb,h⟩
   ·exact⟨_,hm.eM hb,h⟩
  ·cases h
 ·exact⟨s,hm,h⟩
def qE(dst:Option Nat)(d:AV)(E:ET):ET:=match dst with
 |none=>E
 |some t=>kW t d E
def Fa(dst:Option Nat)(E:ET)(R:aP)(nx:Nat)(ih:St->(St->Option α)->Option α)(k:St->Option α)(e:eX):Option α:=match e with
 | .val d=>ih ⟨qE dst d E,R,nx⟩ k
 | .new d r=>ih ⟨qE dst d E,(nx,r)::R,nx+1⟩ k
 | .set id r=>ih ⟨qE dst (.lit undef) E,rM id r R,nx⟩ k
 | .grow id r=>ih ⟨qE dst (.own nx) E,(nx,r)::jL id R,nx+1⟩ k
 | .all d R' m=>ih ⟨qE dst d E,R',m⟩ k
theorem Yg(dst:Option Nat)(s:St)(ih:St->(St->Option α)->Option α)(k:St->Option α):Fa dst s.E s.R s.nx ih k=fun e=>ih (s.app dst e) k:=by
 funext e
 cases e<;>cases dst<;>rfl
def akv(P:Program)(F:aI)(o:Oper)(ih:St->(St->Option α)->Option α)(k:St->Option α)(s:St):Option α:=St.rec (fun E R nx=>l6 o.op P F (Du E) (fh R) R nx (Fa o.dst E R nx ih k)) s
def rDo(P:Program)(F:aI)(o:Oper)(ih:St->(St->Option α)->Option α)(k:St->Option α)(s:St):Option α:=akv P F o ih k (s.jj (gV s.E o.op))
abbrev OpK(α:Type):=Program->aI->Option Nat->ET->aP->Nat->(St->(St->Option α)->Option α)->(St->Option α)->Option α
abbrev StT(α:Type):=Program->aI->(Operand->Option AV)->(Nat->Option IR)->aP->Nat->(eX->Option α)->Option α
def DU(f:StT α):OpK α:=fun P F dst E R nx ih k=>f P F (Du E) (fh R) R nx (Fa dst E R nx ih k)
def stZ(ids:ET->List Nat)(f:StT α):OpK α:=fun P F dst E R nx ih k=>St.rec (fun E R nx=>f P F (Du E) (fh R) R nx (Fa dst E R nx ih k)) (St.jj ⟨E,R,nx⟩ (ids E))
def ase(c a b:Operand):OpK α:=match c with
 | .tmp t=>fun P F dst E R nx ih k=>match cn E t with
  |some (.lit (.bool v))=>match v with
   |true=>DU (tZ (.tmp t) a b) P F dst (kW t (.b wE) E) R nx ih k
   |false=>DU (tZ (.tmp t) a b) P F dst (kW t (.b wD) E) R nx ih k
  |_=>wC
 |c=>DU (tZ c a b)
def opF(o:Op):OpK α:=match o with
 | .move x=>DU (Qz x)
 | .assign x=>DU (Qz x)
 | .pick c a b=>ase c a b
 | .binOp b T x y _=>DU (agB b T x y)
 | .unOp b _ x=>DU (al8 b x)
 | .convert T T' x=>DU (agf T T' x)
 | .nilCheck x=>DU (af6 x)
 | .fieldAddr T x i=>DU (afY T x i)
 | .indexAddr T x y=>DU (agD T x y)
 | .index T x y=>DU (aeL T x y)
 | .load T x=>DU (anV T x)
 | .store T x y=>stZ (fun E=>gV E (.store T x y)) (agx T x y)
 | .makeFunc f fs cs=>DU (agn f fs cs)
 | .extract x i=>DU (afB x i)
 | .build T ps=>DU (agG T ps)
 | .buildSlice T n ps=>stZ (fun E=>gV E (.buildSlice T n ps)) (afQ T n ps)
 | .makeSlice T x y=>DU (ann T x y)
 | .alloc T=>DU (agz T)
 | .box T x=>DU (afA T x)
 | .slice T x lo hi mx=>stZ (fun E=>gV E (.slice T x lo hi mx)) (Jr T x lo hi mx)
 | .call c=>stZ (fun E=>gV E (.call c)) (Df c)
 |_=>DU ank
theorem GC(P:Program)(F:aI)(o:Oper)(s:St)(ih:St->(St->Option α)->Option α)(k:St->Option α):opF o.op P F o.dst s.E s.R s.nx ih k=w9 o.op s (rDo P F o ih k):=by
 unfold rDo akv w9
 cases h:o.op<;>first|rfl|skip
 case pick c a b=>
  cases c<;>rfl
def am8(P:Program)(F:aI)(o:Oper)(ih:St->(St->Option α)->Option α)(k:St->Option α)(s:St):Option α:=St.rec (fun E R nx=>opF o.op P F o.dst E R nx ih k) s
def rNo(dst:Option Nat)(ih:St->(St->Option α)->Option α)(k:St->Option α)(s:St):Option α:=match dst with
 |some t=>ih {s with E:=kW t (.lit undef) s.E} k
 |none=>ih s k
def I5(P:Program)(F:aI)(n:Nat)(ops:Array Oper)(o:Oper)(ih:St->(St->Option α)->Option α)(s:St)(k:St->Option α):Option α:=match J7 n o.dst with
 |true=>gate ops o s (am8 P F o ih k) (rNo o.dst ih k)
 |false=>wC
def dL(P:Program)(F:aI)(n:Nat)(ops:Array Oper)(l:List Oper):St->(St->Option α)->Option α:=List.rec (fun s k=>k s) (fun o _ ih=>I5 P F n ops o ih) l
theorem B9(hF:gF P F){ops:Array Oper}{k:St->Option α}:∀(rest:List Oper) {s:St} {a:Act} {w:World},dL P F n ops rest s k=O r->Mt C n s a w->
  wpList P ops (fun e a' w'=>e= .normal/\a'.defers=a.defers/\∃s',k s'=O r/\Mt C n s' a' w') rest a w
 |[],s,a,w,h,hm=>⟨rfl,rfl,s,h,hm⟩
 |o::rest,s,a,w,h,hm=>by
  change I5 P F n ops o (dL P F n ops rest) s k=O r at h
  unfold I5 at h
  split at h
  case h_2=>cases h
  rename_i hd
  refine wpList_step fun K' hK=> ?_
  have cont:∀{s':St} {a':Act} {w':World},a'.defers=a.defers->dL P F n ops rest s' k=O r->Mt C n s' a' w'->K' a' w':=fun{s' a' w'} hda h1 h2=>hK _ _ (by
   have:=B9 hF rest h1 h2
   rw[hda]at this
   exact this)
  obtain⟨s1,hm1,⟨hw,h1⟩|⟨hw,h1⟩⟩:=ZS h hm
  ·rw[if_pos hw]
   have h1':opF o.op P F o.dst s1.E s1.R s1.nx (dL P F n ops rest) k=O r:=h1
   rw[GC]at h1'
   obtain⟨s2,hm2,h2⟩:=UE h1' hm1
   unfold rDo at h2
   have e2:∀s:St,akv P F o (dL P F n ops rest) k s=Fk P F (Du s.E) (fh s.R) s.R s.nx o.op (fun e=>dL P F n ops rest (s.app o.dst e) k):=fun s=>by
    show l6 o.op P F (Du s.E) (fh s.R) s.R s.nx (Fa o.dst s.E s.R s.nx (dL P F n ops rest) k)=_
    rw[Ka,Yg]
   rw[e2]at h2
   have hm3:=Mt.jj (gV s2.E o.op) hm2
   exact akp (K:=fun e=>dL P F n ops rest ((s2.jj (gV s2.E o.op)).app o.dst e) k) (r:=r) hm3 hd (fun E hs=>Em hF hs rfl h2) fun a' w' e q1 q2 _ q4=>cont q1 q2 q4
  ·rw[if_neg (by rw[hw];exact Bool.false_ne_true)]
   cases hdst:o.dst with
   |none=>
    rw[hdst]at h1
    exact cont rfl h1 hm1
   |some t=>
    rw[hdst]at h1 hd
    obtain⟨E,hh,hE,hR,ρ,hag,hsim⟩:=hm1
    exact cont rfl h1 ⟨(t, .lit undef)::E,hh.put t _,Env.uC hE (.lit _),hR,ρ,hag,by
     have:=hsim.put (av:= .lit undef) (v:=undef) hd (.lit _)
     show sM C.C n ((t,bP.sub ρ (.lit undef))::E.sub ρ) _ _ _
     rw[bE]
     exact this⟩
end
def InL(P:Program)(c:Code)(Q:Exit->Act->World->Prop)(a:Act)(w:World):Prop:=
 ∀(b:Frame) (k:List Item) (cs:List Frame),∃e a' w',Q e a' w'/\Arrives P (lone (b.at a (.inLoop c::k)) cs w) b k cs e a' w'
theorem El{P:Program}{c:Code}{Q:Exit->Act->World->Prop}{a:Act}{w:World}(h:c.wp P (Exit.then (InL P c Q) Q) a w)(b:Frame)(k:List Item)(cs:List Frame):
  ∃e a' w',Q e a' w'/\Arrives P (lone (b.at a (.code c:: .inLoop c::k)) cs w) b k cs e a' w':=by
 obtain⟨e,a₁,w₁,hq,harr⟩:=h b (.inLoop c::k) cs
 cases e with
 |normal=>
  obtain⟨e₂,a₂,w₂,hq₂,harr₂⟩:=hq b k cs
  exact⟨e₂,a₂,w₂,hq₂, .of_steps harr harr₂⟩
 |exit id=>exact⟨_,a₁,w₁,hq, .pass (x:= .inLoop c) rfl (fun _ _=> .inl (by simp)) harr⟩
 |goto l=>exact⟨_,a₁,w₁,hq, .pass (x:= .inLoop c) rfl (fun _ _=> .inl (by simp)) harr⟩
 |ret=>exact⟨_,a₁,w₁,hq, .pass (x:= .inLoop c) rfl (fun _ _=> .inl (by simp)) harr⟩
 |panic ch=>exact⟨_,a₁,w₁,hq, .pass (x:= .inLoop c) rfl (fun _ _=> .inl (by simp)) harr⟩
 |outgrown=>exact⟨_,a₁,w₁,hq, .pass (x:= .inLoop c) rfl (fun _ _=> .inl (by simp)) harr⟩
theorem D4{P:Program}{c:Code}{Q:Exit->Act->World->Prop}{a:Act}{w:World}(h:c.wp P (Exit.then (InL P c Q) Q) a w):(Code.loop c).wp P Q a w:=fun b k cs=>
 let ⟨e,a',w',hq,harr⟩:=El h b k cs
 ⟨e,a',w',hq, .of_steps (.one step_loop) harr⟩
theorem J0{P:Program}{c:Code}{Q:Exit->Act->World->Prop}{a:Act}{w:World}(h:c.wp P (Exit.then (InL P c Q) Q) a w):InL P c Q a w:=fun b k cs=>
 let ⟨e,a',w',hq,harr⟩:=El h b k cs
 ⟨e,a',w',hq, .of_steps (.one step_inLoop) harr⟩
section
variable {α:Type} {r:α} {P:Program} {F:aI} {C:Cx} {n:Nat}
abbrev fC(α:Type):=Exit->St->Option α
def KB(k:fC α)(ih:St->Option α):fC α:=fun e s=>match e with
 | .normal=>ih s
 |e=>k e s
def Bu(b:St->fC α->Option α)(k:fC α)(m:Nat):St->Option α:=Nat.rec (fun _=>wC) (fun _ ih s=>b s (KB k ih)) m
def UP(b:Bool)(t:Nat)(s:St)(x y:St->Option α):Option α:=match b with
 |true=>x (s.eM t wE)
 |false=>y (s.eM t wD)
def o7(c:Operand)(s:St)(x y:St->Option α):Option α:=match c with
 | .tmp t=>match cn s.E t with
  |some (.lit (.bool b))=>UP b t s x y
  |_=>wC
 | .const (.bool wE)=>x s
 | .const (.bool wD)=>y s
 |_=>wC
def YK(y:St->fC α->Option α)(k:fC α):fC α:=fun e s=>match e with
 | .normal=>y s k
 |e=>k e s
def rB(id:Nat)(k:fC α):fC α:=fun e s=>match e with
 | .exit i=>match zb i id with
  |true=>k .normal s
  |false=>k (.exit i) s
 |e=>k e s
def WO(s:St)(k:fC α):Option α:=k .normal s
def amM(x y:St->fC α->Option α)(s:St)(k:fC α):Option α:=x s (YK y k)
def ahd(c:Operand)(x y:St->fC α->Option α)(s:St)(k:fC α):Option α:=o7 c s (fun s=>x s k) (fun s=>y s k)
def aec(id:Nat)(x:St->fC α->Option α)(s:St)(k:fC α):Option α:=x s (rB id k)
def Vi(fuel:Nat)(x:St->fC α->Option α)(s:St)(k:fC α):Option α:=Bu x k fuel s
def VH(i:Nat)(s:St)(k:fC α):Option α:=k (.exit i) s
def aeX(s:St)(k:fC α):Option α:=k .ret s
def DB(_:St)(_:fC α):Option α:=wC
def VL(P:Program)(s:St):ResultVar->Option AV
 | .tmp t=>cn s.E t
 | .cell t ty=>match cn s.E t with
  |some (.ptr id 0)=>match fh s.R id with
   |some (.box _ cs)=>match SE P ty with
    |true=>cs[0]?
    |false=>match Ra P ty with
     |some m=>match zb cs.length m with
      |true=>O (.agg cs)
      |false=>wC
     |none=>wC
   |_=>wC
  |_=>wC
def DI(P:Program)(s:St):List ResultVar->Option (List AV)
 |[]=>O []
 |x::xs=>match VL P s x with
  |some d=>(DI P s xs).map fun ds=>d::ds
  |none=>wC
def fH:List AV->AV
 |[d]=>d
 |ds=> .iA ds
def nL:Nat->AV->List Nat
 |_, .own id=>[id]
 |_, .ptr id _=>[id]
 |_, .ra id _ _ _=>[id]
 |n+1, .agg cs=>cs.flatMap (nL n)
 |n+1, .iA cs=>cs.flatMap (nL n)
 |n+1, .fn _ cs=>cs.flatMap (nL n)
 |_,_=>[]
def cL(i:Nat):List Nat->Bool
 |[]=>wD
 |j::js=>match zb i j with
  |true=>wE
  |false=>cL i js
def auq(R:aP)(ids:List Nat):List Nat:=ids.flatMap fun i=>match fh R i with
 |some (.box _ cs)=>cs.flatMap (nL 3)
 |_=>[]
def reach(R:aP):Nat->List Nat->List Nat
 |0,ids=>ids
 |m+1,ids=>ids++reach R m (auq R ids)
def OQ(nx:Nat)(ids:List Nat)(R:aP):aP:=List.rec [] (fun p R ih=>Bool.rec (Bool.rec ih (p::ih) (cL p.1 ids)) (p::R) (zq p.1 nx)) R
def nD(R:aP)(nx:Nat)(d:AV):aP:=OQ nx (reach R 3 (nL 3 d)) R
def KF(i:Nat)(l:List AV):ET->ET:=List.rec (fun _ T=>T) (fun d _ ih i T=>ih (i+1) (kW i d T)) l i
end
end Go.Iv
end
noncomputable section
namespace Go.Iv
variable [U:qT]
open Go Go.RowKit
abbrev Fr:Type:=Nat->Option AV
structure Rc where
 dst:Option Nat
 v:AV
 sl:List Nat
 rd:List Nat
 wr:List Nat
 ef:Bool
 Lo:aP
def gh(rd:List Nat)(R:aP):aP:=R.filter fun p=> !cL p.1 rd
def bO(rd:List Nat)(R:aP):aP:=R.filter fun p=>cL p.1 rd
def Rc.F(c:Rc)(f:Fr):Fr:=fun t=>if c.dst=O t then O c.v else f t
def Rc.R(c:Rc)(R:aP):aP:=match c.ef with
 |true=>c.Lo++gh c.wr R
 |false=>R
def fL:List Rc->List Bool->Fr->Fr
 |c::cs,b::bs,f=>fL cs bs (match b with|wE=>c.F f|wD=>f)
 |_,_,f=>f
def gj:List Rc->List Bool->aP->aP
 |c::cs,b::bs,R=>gj cs bs (match b with|wE=>c.R R|wD=>R)
 |_,_,R=>R
theorem eH{i:Nat}:∀{l:List Nat},cL i l=wE↔i∈l
 |[]=>by simp[cL]
 |j::js=>by
  unfold cL
  cases h:zb i j with
  |true=>have:=fB h;subst this;simp
  |false=>
   have hne:i≠j:=fun e=>by rw[e,Nat.beq_refl]at h;cases h
   simp only[zu,hne,false_or]
   exact eH
theorem ia{i:Nat}{l:List Nat}:cL i l=wD↔i∉l:=by
 cases h:cL i l with
 |true=>simp[eH.1 h]
 |false=>simp only[true_iff];exact fun hm=>by rw[eH.2 hm]at h;cases h
structure CF (c d:Rc):Prop where
 ds:∀t,c.dst=O t->t∉d.sl/\d.dst≠O t
 sd:∀t,d.dst=O t->t∉c.sl
 rc:c.ef=wE->(∀i∈c.wr,i∉d.rd)/\(∀p∈c.Lo,p.1∉d.rd)/\∀p∈c.Lo,p.1∉d.wr
 rd:d.ef=wE->(∀i∈d.wr,i∉c.rd)/\(∀p∈d.Lo,p.1∉c.rd)/\∀p∈d.Lo,p.1∉c.wr
theorem CF.symm{c d:Rc}(h:CF c d):CF d c:=⟨fun t ht=>⟨h.sd t ht,fun e=>(h.ds t e).2 ht⟩,fun t ht=>(h.ds t ht).1,h.rd,h.rc⟩
theorem auH{c i:Rc}(h:CF c i)(R:aP):bO i.rd (c.R R)=bO i.rd R:=by
 unfold Rc.R
 cases he:c.ef with
 |false=>rfl
 |true=>
  obtain⟨h1,h2,_⟩:=h.rc he
  simp only[bO,gh,xy,xP]
  have e1:c.Lo.filter (fun p=>cL p.1 i.rd)=[]:=List.filter_eq_nil_iff.2 fun p hp=>by simp[ia.2 (h2 p hp)]
  rw[e1,z8]
  refine xQ fun p _=> ?_
  cases hm:cL p.1 i.rd with
  |false=>rfl
  |true=>
   have:cL p.1 c.wr=wD:=ia.2 fun hc=>h1 _ hc (eH.1 hm)
   rw[this];rfl
theorem at3{c i:Rc}(h:CF c i)(f:Fr){t:Nat}(ht:t∈i.sl):c.F f t=f t:=by
 unfold Rc.F
 split
 ·rename_i hd;exact absurd ht (h.ds t hd).1
 ·rfl
theorem aa3{c:Rc}{rd:List Nat}{R R':aP}(h:bO rd R=bO rd R'):bO rd (c.R R)=bO rd (c.R R'):=by
 unfold Rc.R
 cases c.ef with
 |false=>exact h
 |true=>
  simp only[bO,gh,xy,xP]at h ⊢
  congr 1
  have e:∀R:aP,R.filter (fun p=>cL p.1 rd&& !cL p.1 c.wr)=(R.filter fun p=>cL p.1 rd).filter fun p=> !cL p.1 c.wr:=fun R=>by
   rw[xP]
   exact xQ fun p _=>Bool.and_comm ..
  rw[e,e,h]
theorem Hp{i:Rc}:∀(cs:List Rc) (bs bs':List Bool) (f f':Fr) (R R':aP),bs.length=cs.length->bs'.length=cs.length->
  (∀(j:Nat) c b b',cs[j]? =O c->bs[j]? =O b->bs'[j]? =O b'->b=b'\/CF c i)->
  (∀t∈i.sl,f t=f' t)->bO i.rd R=bO i.rd R'->(∀t∈i.sl,fL cs bs f t=fL cs bs' f' t)/\bO i.rd (gj cs bs R)=bO i.rd (gj cs bs' R')
 |[],_,_,f,f',R,R',_,_,_,h1,h2=>⟨by simpa [fL]using h1,by simpa [gj]using h2⟩
 |c::cs,[],_,_,_,_,_,hl,_,_,_,_=>by cases hl
 |c::cs,_::_,[],_,_,_,_,_,hl,_,_,_=>by cases hl
 |c::cs,b::bs,b'::bs',f,f',R,R',hl,hl',hb,h1,h2=>by
  have h0:=hb 0 c b b' rfl rfl rfl
  have hrec:=fun f f' R R'=>Hp (i:=i) cs bs bs' f f' R R' (by simpa using hl) (by simpa using hl') (fun j c b b' q1 q2 q3=>hb (j+1) c b b' q1 q2 q3)
  unfold fL gj
  refine hrec _ _ _ _ ?_ ?_
  ·intro t ht
   rcases h0 with rfl|hcf
   ·cases b with
    |false=>exact h1 t ht
    |true=>show c.F f t=c.F f' t;unfold Rc.F;split<;>first|rfl|exact h1 t ht
   ·cases b<;>cases b'<;>simp only[at3 hcf _ ht]<;>exact h1 t ht
  ·rcases h0 with rfl|hcf
   ·cases b with
    |false=>exact h2
    |true=>exact aa3 h2
   ·cases b<;>cases b'<;>simp only[auH hcf]<;>exact h2
theorem ajl{c d:Rc}(h:CF c d)(f:Fr):c.F (d.F f)=d.F (c.F f):=by
 funext t
 unfold Rc.F
 by_cases h1:c.dst=O t
 ·rw[if_pos h1,if_neg (h.ds t h1).2,if_pos h1]
 ·by_cases h2:d.dst=O t
  ·rw[if_neg h1,if_pos h2,if_pos h2]
  ·rw[if_neg h1,if_neg h2,if_neg h2,if_neg h1]
theorem ajf{c:Rc}{R R':aP}(h:List.Perm R R'):List.Perm (c.R R) (c.R R'):=by
 unfold Rc.R
 cases c.ef with
 |false=>exact h
 |true=>exact(h.filter _).append_left _
theorem aiP{c d:Rc}(h:CF c d)(R:aP):List.Perm (c.R (d.R R)) (d.R (c.R R)):=by
 unfold Rc.R
 cases hc:c.ef with
 |false=>cases d.ef<;>exact .refl _
 |true=>
  cases hd:d.ef with
  |false=>exact .refl _
  |true=>
   obtain⟨h1,_,h2⟩:=h.rc hc
   obtain⟨h3,_,h4⟩:=h.rd hd
   simp only[gh,xy,xP]
   have e1:d.Lo.filter (fun p=> !cL p.1 c.wr)=d.Lo:=List.filter_eq_self.2 fun p hp=>by simp[ia.2 (h4 p hp)]
   have e2:c.Lo.filter (fun p=> !cL p.1 d.wr)=c.Lo:=List.filter_eq_self.2 fun p hp=>by simp[ia.2 (h2 p hp)]
   rw[e1,e2,<-yS,<-yS]
   refine(List.perm_append_comm).append ?_
   rw[show (R.filter fun a=> !cL a.1 c.wr&& !cL a.1 d.wr)=R.filter fun a=> !cL a.1 d.wr&& !cL a.1 c.wr from xQ fun p _=>Bool.and_comm ..]
theorem late{i:Rc}:∀(cs:List Rc) (bs:List Bool) (f:Fr) (R R':aP),(∀(j:Nat) c,cs[j]? =O c->bs[j]? =O wE->CF i c)->List.Perm R' (i.R R)->
  i.F (fL cs bs f)=fL cs bs (i.F f)/\List.Perm (i.R (gj cs bs R)) (gj cs bs R')
 |[],_,f,R,R',_,hp=>⟨rfl,hp.symm⟩
 |_::_,[],f,R,R',_,hp=>⟨rfl,hp.symm⟩
 |c::cs,b::bs,f,R,R',hb,hp=>by
  unfold fL gj
  cases b with
  |false=>exact late cs bs f R R' (fun j c q1 q2=>hb (j+1) c q1 q2) hp
  |true=>
   have hcf:=hb 0 c rfl rfl
   have h1:=late cs bs (c.F f) (c.R R) (c.R R') (fun j c q1 q2=>hb (j+1) c q1 q2) ((ajf hp).trans (aiP hcf.symm R))
   refine⟨?_,h1.2⟩
   rw[h1.1,ajl hcf]
theorem BR:∀(pre:List Rc) (bp:List Bool) (cs:List Rc) (bs:List Bool) (f:Fr),bp.length=pre.length->fL (pre++cs) (bp++bs) f=fL cs bs (fL pre bp f)
 |[],[],_,_,_,_=>rfl
 |_::_,[],_,_,_,h=>by cases h
 |[],_::_,_,_,_,h=>by cases h
 |c::pre,b::bp,cs,bs,f,h=>by
  show fL (pre++cs) (bp++bs) _=_
  rw[BR pre bp cs bs _ (by simpa using h)]
  rfl
theorem Cj:∀(pre:List Rc) (bp:List Bool) (cs:List Rc) (bs:List Bool) (R:aP),bp.length=pre.length->gj (pre++cs) (bp++bs) R=gj cs bs (gj pre bp R)
 |[],[],_,_,_,_=>rfl
 |_::_,[],_,_,_,h=>by cases h
 |[],_::_,_,_,_,h=>by cases h
 |c::pre,b::bp,cs,bs,R,h=>by
  show gj (pre++cs) (bp++bs) _=_
  rw[Cj pre bp cs bs _ (by simpa using h)]
  rfl
theorem US{cs:List Rc}{bs:List Bool}{i:Nat}{c:Rc}(f:Fr)(R:aP)(hl:bs.length=cs.length)(hc:cs[i]? =O c)(hb:bs[i]? =O wD)
  (hpre:∀(j:Nat) d,j<i->cs[j]? =O d->bs[j]? =O wD->CF d c) (hpost:∀(j:Nat) d,i<j->cs[j]? =O d->bs[j]? =O wE->CF d c):
  (∀t∈c.sl,fL cs bs f t=fL (cs.take i) (zj i wE) f t)/\bO c.rd (gj cs bs R)=bO c.rd (gj (cs.take i) (zj i wE) R)/\
  c.F (fL cs bs f)=fL cs (bs.set i wE) f/\List.Perm (c.R (gj cs bs R)) (gj cs (bs.set i wE) R):=by
 have hi:i<cs.length:=(zS.1 hc).1
 have hib:i<bs.length:=by omega
 have ec:cs=cs.take i++c::cs.drop (i+1):=by
  rw[<-(zS.1 hc).2,<-xJ hi,xg]
 have eb:bs=bs.take i++wD::bs.drop (i+1):=by
  rw[<-(zS.1 hb).2,<-xJ hib,xg]
 have lp:(bs.take i).length=(cs.take i).length:=by rw[zU,zU];omega
 have eb2:bs.set i wE=bs.take i++wE::bs.drop (i+1):=by
  rw[wh,if_pos hib]
 have hF:fL cs bs f=fL (cs.drop (i+1)) (bs.drop (i+1)) (fL (cs.take i) (bs.take i) f):=by
  conv=>lhs;rw[ec,eb]
  rw[BR _ _ _ _ _ lp];rfl
 have hR:gj cs bs R=gj (cs.drop (i+1)) (bs.drop (i+1)) (gj (cs.take i) (bs.take i) R):=by
  conv=>lhs;rw[ec,eb]
  rw[Cj _ _ _ _ _ lp];rfl
 have hF2:fL cs (bs.set i wE) f=fL (cs.drop (i+1)) (bs.drop (i+1)) (c.F (fL (cs.take i) (bs.take i) f)):=by
  rw[eb2]
  conv=>lhs;rw[ec]
  rw[BR _ _ _ _ _ lp];rfl
 have hR2:gj cs (bs.set i wE) R=gj (cs.drop (i+1)) (bs.drop (i+1)) (c.R (gj (cs.take i) (bs.take i) R)):=by
  rw[eb2]
  conv=>lhs;rw[ec]
  rw[Cj _ _ _ _ _ lp];rfl
 have hpo:∀(j:Nat) d,(cs.drop (i+1))[j]? =O d->(bs.drop (i+1))[j]? =O wE->CF d c:=fun j d q1 q2=>by
  rw[ym]at q1 q2
  exact hpost (i+1+j) d (by omega) q1 q2
 have v2:=Hp (i:=c) (cs.drop (i+1)) (bs.drop (i+1)) (zj (cs.length-(i+1)) wD) (fL (cs.take i) (bs.take i) f) (fL (cs.take i) (bs.take i) f) (gj (cs.take i) (bs.take i) R) (gj (cs.take i) (bs.take i) R)
  (by rw[ye,ye];omega) (by rw[xL,ye]) (fun j d b b' q1 q2 q3=>by
   cases b with
   |true=>exact .inr (hpo j d q1 q2)
   |false=>
    rw[wo]at q3
    split at q3
    ·cases q3;exact .inl rfl
    ·cases q3) (fun t _=>rfl) rfl
 have none_F:∀(cs:List Rc) (n:Nat) (f:Fr),fL cs (zj n wD) f=f:=fun cs=>by
  induction cs with
  |nil=>intro n f;rfl
  |cons d cs ih=>
   intro n f
   cases n with
   |zero=>rfl
   |succ n=>rw[yF];exact ih n f
 have none_R:∀(cs:List Rc) (n:Nat) (R:aP),gj cs (zj n wD) R=R:=fun cs=>by
  induction cs with
  |nil=>intro n f;rfl
  |cons d cs ih=>
   intro n f
   cases n with
   |zero=>rfl
   |succ n=>rw[yF];exact ih n f
 have v1:=Hp (i:=c) (cs.take i) (bs.take i) (zj i wE) f f R R lp (by rw[xL,zU];omega) (fun j d b b' q1 q2 q3=>by
   rw[yq]at q1 q2
   rw[wo]at q3
   split at q1
   ·rename_i hji
    rw[if_pos hji]at q2 q3
    cases q3
    cases b with
    |true=>exact .inl rfl
    |false=>exact .inr (hpre j d hji q1 q2)
   ·cases q1) (fun t _=>rfl) rfl
 refine⟨fun t ht=> ?_,?_,?_,?_⟩
 ·rw[hF,v2.1 t ht,none_F,v1.1 t ht]
 ·rw[hR,v2.2,none_R,v1.2]
 ·rw[hF,hF2]
  exact(late (i:=c) _ _ _ (gj (cs.take i) (bs.take i) R) _ (fun j d q1 q2=>(hpo j d q1 q2).symm) (.refl _)).1
 ·rw[hR,hR2]
  exact(late (i:=c) _ _ (fL (cs.take i) (bs.take i) f) _ _ (fun j d q1 q2=>(hpo j d q1 q2).symm) (.refl _)).2
end Go.Iv
end
noncomputable section
namespace Go.Iv
variable [U:qT] [L:mQ]
open Go Go.RowKit
def lm(l:List Nat):Nat:=List.rec 0 (fun t _ ih=>Nat.lor ih (Nat.pow 2 t)) l
theorem Ni:∀(l:List Nat) (t:Nat),(lm l).testBit t=wE↔t∈l
 |[],t=>by simp[lm]
 |a::l,t=>by
  show ((lm l)|||2^a).testBit t=wE↔_
  rw[Nat.testBit_or,yH,Ni l t,Nat.testBit_two_pow]
  simp only[decide_eq_true_eq,zu]
  constructor
  ·rintro(h|h)
   ·exact .inr h
   ·exact .inl h.symm
  ·rintro(h|h)
   ·exact .inr h.symm
   ·exact .inl h
theorem and_zero{x y t:Nat}(h:Nat.land x y=0)(hx:x.testBit t=wE)(hy:y.testBit t=wE):False:=by
 have h':x&&&y=0:=h
 have:=Nat.testBit_and x y t
 rw[h',hx,hy]at this
 simp at this
def msk(acc:List Nat)(es:List Edge):Nat:=List.rec 0 (fun e _ ih=>match Region.binds .any e with
 |true=>Nat.lor ih (Nat.lor (Nat.pow 2 e.on) (acc.getD e.on 0))
 |false=>ih) es
theorem HF{acc:List Nat}:∀{es:List Edge} {j:Nat},(msk acc es).testBit j=wE->∃e∈es,Region.binds .any e=wE/\(j=e.on\/(acc.getD e.on 0).testBit j=wE)
 |[],j,h=>by simp[msk]at h
 |e::es,j,h=>by
  change (match Region.binds .any e with
   |true=>Nat.lor (msk acc es) (Nat.lor (Nat.pow 2 e.on) (acc.getD e.on 0))
   |false=>msk acc es).testBit j=wE at h
  cases hb:Region.binds .any e with
  |false=>
   rw[hb]at h
   obtain⟨e',h1,h2⟩:=HF h
   exact⟨e',zC _ h1,h2⟩
  |true=>
   rw[hb]at h
   change ((msk acc es)|||((2^e.on)|||(acc.getD e.on 0))).testBit j=wE at h
   rw[Nat.testBit_or,Nat.testBit_or,yH,yH,Nat.testBit_two_pow]at h
   rcases h with h|h|h
   ·obtain⟨e',h1,h2⟩:=HF h
    exact⟨e',zC _ h1,h2⟩
   ·exact⟨e,zg,hb, .inl (by simp only[decide_eq_true_eq]at h;exact h.symm)⟩
   ·exact⟨e,zg,hb, .inr h⟩
def JI(l:List Oper):List Nat->List Nat:=List.rec (fun acc=>acc) (fun o _ ih acc=>ih (acc++[msk acc o.after.toList])) l
def Rdy(bs:List Bool)(o:Oper):Prop:=∀e∈o.after.toList,Region.binds .any e=wE->bs[e.on]? =O wE
def Co(ops:List Oper)(bs:List Bool):Prop:=∀(i:Nat) o,ops[i]? =O o->bs[i]? =O wE->Rdy bs o
def Vg(ops:List Oper)(acc:List Nat):Prop:=∀(i m:Nat) o,acc[i]? =O m->ops[i]? =O o->∀bs,Co ops bs->Rdy bs o->∀j,m.testBit j=wE->bs[j]? =O wE
theorem QF(ops:List Oper):∀(l:List Oper) (acc:List Nat),(∃pre,ops=pre++l/\pre.length=acc.length)->Vg ops acc->Vg ops (JI l acc)
 |[],acc,_,h=>h
 |o::l,acc,⟨pre,hp,hl⟩,h=>by
  refine QF ops l _ ⟨pre++[o],by rw[hp];simp,by simp[hl]⟩ fun i m o' hm ho bs hc hr j hj=> ?_
  rw[yY]at hm
  split at hm
  ·exact h i m o' hm ho bs hc hr j hj
  ·rename_i hlt
   have hi:i=acc.length:=by
    have:=(zS.1 hm).1
    simp at this
    omega
   subst hi
   rw[Nat.sub_self]at hm
   cases hm
   have ho':o'=o:=by
    rw[hp,<-hl,wq (zx _),Nat.sub_self]at ho
    exact(zB.inj ho).symm
   subst ho'
   obtain⟨e,h1,h2,h3⟩:=HF hj
   have h4:=hr e h1 h2
   rcases h3 with rfl|h3
   ·exact h4
   ·cases ha:acc[e.on]? with
    |none=>rw[xR,ha]at h3;simp at h3
    |some m'=>
     rw[xR,ha]at h3
     have hlt':=(zS.1 ha).1
     cases hoe:ops[e.on]? with
     |none=>
      rw[List.getElem?_eq_none_iff,hp,zh]at hoe
      omega
     |some oe=>exact h e.on m' oe ha hoe bs hc (hc e.on oe hoe h4) j h3
def aq9:Operand->List Nat
 | .tmp t=>[t]
 |_=>[]
def ae0(ops:Array Oper)(o:Oper):List Nat:=match o.guard with
 |none=>[]
 |some (j,_)=>match (ops[j]?).bind (·.dst)with
  |some t=>[t]
  |none=>[]
def cv(ops:Array Oper)(o:Oper):List Nat:=o.op.operands.toList.flatMap aq9++ae0 ops o
def efk(o:Oper):Bool:=match o.op with
 | .store _ _ _=>wE
 | .buildSlice _ _ _=>wE
 | .makeSlice _ _ _=>wE
 | .alloc _=>wE
 | .box _ _=>wE
 | .slice _ _ _ _ _=>wE
 | .call {callee:= .builtin .len, ..}=>wD
 | .call {callee:= .builtin .max, ..}=>wD
 | .call {callee:= .builtin .min, ..}=>wD
 | .call _=>wE
 |_=>wD
def dmk:Option Nat->Nat
 |none=>0
 |some t=>Nat.pow 2 t
theorem AB{d:Option Nat}{t:Nat}(h:d=O t):(dmk d).testBit t=wE:=by
 subst h
 show (2^t).testBit t=wE
 rw[Nat.testBit_two_pow];simp
structure Sk where
 anc:Nat
 sm:Nat
 dm:Nat
 ef:Bool
def S3(j:Nat)(a b:Sk):Bool:=b.anc.testBit j||(zb (Nat.land a.dm b.sm) 0&&zb (Nat.land a.dm b.dm) 0&&zb (Nat.land b.dm a.sm) 0)
def KN(b:Sk)(i:Nat)(l:List Sk):Nat->Option (List (Nat×Nat)):=List.rec (fun _=>O []) (fun a _ ih j=>match S3 j a b with
 |true=>match !b.anc.testBit j&&(a.ef||b.ef)with
  |true=>(ih (j+1)).map fun ps=>(j,i)::ps
  |false=>ih (j+1)
 |false=>wC) l
def Vd(l:List Sk):List Sk->Nat->Option (List (Nat×Nat)):=List.rec (fun _ _=>O []) (fun b _ ih pre i=>(KN b i pre 0).bind fun ps=>(ih (pre++[b]) (i+1)).map fun qs=>ps++qs) l
theorem Cw{b:Sk}{i:Nat}:∀{l:List Sk} {k:Nat} {ps:List (Nat×Nat)},KN b i l k=O ps->∀(j:Nat) a,l[j]? =O a->S3 (k+j) a b=wE/\(b.anc.testBit (k+j)=wE\/(a.ef||b.ef)=wD\/(k+j,i)∈ps)
 |[],k,ps,_,j,a,h=>by cases h
 |a0::l,k,ps,hs,j,a,h=>by
  change (match S3 k a0 b with
   |true=>match !b.anc.testBit k&&(a0.ef||b.ef)with
    |true=>(KN b i l (k+1)).map fun ps=>(k,i)::ps
    |false=>KN b i l (k+1)
   |false=>wC)=O ps at hs
  cases h0:S3 k a0 b with
  |false=>rw[h0]at hs;cases hs
  |true=>
   rw[h0]at hs
   simp only at hs
   cases h1:(!b.anc.testBit k&&(a0.ef||b.ef))with
   |true=>
    rw[h1]at hs
    obtain⟨ps',h2,rfl⟩:=zf.1 hs
    cases j with
    |zero=>cases h;exact⟨h0, .inr (.inr zg)⟩
    |succ j=>
     obtain⟨h3,h4⟩:=Cw h2 j a h
     rw[show k+1+j=k+(j+1)from by omega]at h3 h4
     exact⟨h3,h4.imp id (fun h=>h.imp id fun h=>zC _ h)⟩
   |false=>
    rw[h1]at hs
    cases j with
    |zero=>
     cases h
     refine⟨h0,?_⟩
     simp only[yb]
     cases hb:b.anc.testBit k with
     |true=>exact .inl rfl
     |false=>rw[hb]at h1;exact .inr (.inl (by simpa using h1))
    |succ j=>
     obtain⟨h3,h4⟩:=Cw hs j a h
     rw[show k+1+j=k+(j+1)from by omega]at h3 h4
     exact⟨h3,h4⟩
theorem JE:∀{l pre:List Sk} {k:Nat} {ps:List (Nat×Nat)},Vd l pre k=O ps->pre.length=k->∀(i j:Nat) a b,j<i->k<=i->(pre++l)[j]? =O a->(pre++l)[i]? =O b->S3 j a b=wE/\(b.anc.testBit j=wE\/(a.ef||b.ef)=wD\/(j,i)∈ps)
 |[],pre,k,ps,_,hk,i,j,a,b,_,hki,_,hb=>by
  rw[yd]at hb
  have:=(zS.1 hb).1
  omega
 |b0::l,pre,k,ps,hs,hk,i,j,a,b,hji,hki,ha,hb=>by
  change ((KN b0 k pre 0).bind fun ps=>(Vd l (pre++[b0]) (k+1)).map fun qs=>ps++qs)=O ps at hs
  obtain⟨p1,h1,hs⟩:=zi.1 hs
  obtain⟨p2,h2,rfl⟩:=zf.1 hs
  by_cases hik:i=k
  ·subst hik
   rw[wq (by omega),hk,Nat.sub_self]at hb
   cases hb
   rw[List.getElem?_append_left (by omega)]at ha
   have:=Cw h1 j a ha
   rw[yu]at this
   exact⟨this.1,this.2.imp id fun h=>h.imp id fun h=>yz _ h⟩
  ·have h3:=JE h2 (by simp[hk]) i j a b hji (by omega) (by simpa using ha) (by simpa using hb)
   exact⟨h3.1,h3.2.imp id fun h=>h.imp id fun h=>yA _ h⟩
def ai7(ops:Array Oper)(l:List Oper):List Nat->List Sk:=List.rec (fun _=>[]) (fun o _ ih ms=>match ms with
 |m::ms=>⟨m,lm (cv ops o),dmk o.dst,efk o⟩::ih ms
 |[]=>[]) l
def plan(ops:Array Oper):Option (List (Nat×Nat)):=Vd (ai7 ops ops.toList (JI ops.toList [])) [] 0
theorem Ws(l:List Oper):∀acc:List Nat,(JI l acc).length=acc.length+l.length:=by
 induction l with
 |nil=>intro acc;rfl
 |cons o l ih=>intro acc;show (JI l (acc++[_])).length=_;rw[ih];simp;omega
theorem Dh(ops:Array Oper):∀(l:List Oper) (ms:List Nat) (i:Nat) (o:Oper) (m:Nat),l[i]? =O o->ms[i]? =O m->(ai7 ops l ms)[i]? =O ⟨m,lm (cv ops o),dmk o.dst,efk o⟩
 |[],_,_,_,_,h,_=>by cases h
 |o0::l,[],_,_,_,_,h=>by cases h
 |o0::l,m0::ms,i,o,m,h1,h2=>by
  show (_::ai7 ops l ms)[i]? =_
  cases i with
  |zero=>cases h1;cases h2;rfl
  |succ i=>exact Dh ops l ms i o m h1 h2
def YP(xs:List Nat)(Lo:aP)(ys:List Nat):Bool:=xs.all (fun i=> !cL i ys)&&Lo.all fun p=> !cL p.1 ys
def cfD(c d:Rc):Bool:=(!c.ef||YP c.wr c.Lo d.rd)&&(!d.ef||YP d.wr d.Lo c.rd)
def UZ(ps:List (Nat×Nat))(cs:List Rc):Bool:=ps.all fun p=>match cs[p.1]?,cs[p.2]? with
 |some c,O d=>cfD c d
 |_,_=>wD
theorem Qi{xs ys:List Nat}{Lo:aP}(h:YP xs Lo ys=wE):(∀i∈xs,i∉ys)/\∀p∈Lo,p.1∉ys:=by
 unfold YP at h
 simp only[ze,zm,Bool.not_eq_true']at h
 exact⟨fun i hi=>ia.1 (h.1 i hi),fun p hp=>ia.1 (h.2 p hp)⟩
theorem aeB{ops:Array Oper}{ps:List (Nat×Nat)}{cs:List Rc}(hp:plan ops=O ps)(ho:UZ ps cs=wE)(hcs:∀(i:Nat) c,cs[i]? =O c->∃o,ops.toList[i]? =O o/\c.dst=o.dst/\c.sl=cv ops o/\(c.ef=wE->efk o=wE)/\∀i∈c.wr,i∈c.rd)
  {i j:Nat} {c d:Rc} (hji:j<i) (hc:cs[j]? =O c) (hd:cs[i]? =O d):
  CF c d\/∀bs,Co ops.toList bs->(∀o,ops.toList[i]? =O o->Rdy bs o)->bs[j]? =O wE:=by
 obtain⟨o1,h1,h2,h3,h4,h5⟩:=hcs j c hc
 obtain⟨o2,g1,g2,g3,g4,g5⟩:=hcs i d hd
 have hl1:=(zS.1 h1).1
 have hl2:=(zS.1 g1).1
 have hml:(JI ops.toList []).length=ops.toList.length:=by rw[Ws];simp
 obtain⟨m1,hm1⟩:∃m,(JI ops.toList [])[j]? =O m:=⟨_,zl (by rw[hml];exact hl1)⟩
 obtain⟨m2,hm2⟩:∃m,(JI ops.toList [])[i]? =O m:=⟨_,zl (by rw[hml];exact hl2)⟩
 have s1:=Dh ops ops.toList _ j o1 m1 h1 hm1
 have s2:=Dh ops ops.toList _ i o2 m2 g1 hm2
 obtain⟨q1,q2⟩:=JE hp rfl i j _ _ hji (xj _) s1 s2
 have hmsk:Vg ops.toList (JI ops.toList []):=QF ops.toList ops.toList [] ⟨[],rfl,rfl⟩ fun i m o h=>by cases h
 by_cases ha:m2.testBit j=wE
 ·exact .inr fun bs hcl hr=>hmsk i m2 o2 hm2 g1 bs hcl (hr o2 g1) j ha
 ·refine .inl ?_
  have ha':m2.testBit j=wD:=by simpa using ha
  unfold S3 at q1
  simp only[ha',Bool.false_or,ze]at q1
  obtain⟨⟨r1,r2⟩,r3⟩:=q1
  have r1:=fB r1
  have r2:=fB r2
  have r3:=fB r3
  have hdyn:(c.ef||d.ef)=wD\/cfD c d=wE:=by
   rcases q2 with q2|q2|q2
   ·exact absurd q2 ha
   ·simp only[Bool.or_eq_false_iff]at q2
    left
    have e1:c.ef=wD:=by
     cases h:c.ef with
     |false=>rfl
     |true=>exact absurd q2.1 (by rw[h4 h];simp)
    have e2:d.ef=wD:=by
     cases h:d.ef with
     |false=>rfl
     |true=>exact absurd q2.2 (by rw[g4 h];simp)
    rw[e1,e2];rfl
   ·right
    have:=zm.1 ho _ q2
    simp only[hc,hd]at this
    exact this
  refine⟨fun t ht=>⟨fun hm=> ?_,fun e=> ?_⟩,fun t ht hm=> ?_,fun he=> ?_,fun he=> ?_⟩
  ·rw[h2]at ht
   rw[g3]at hm
   exact and_zero r1 (AB ht) ((Ni _ _).2 hm)
  ·rw[h2]at ht
   rw[g2]at e
   exact and_zero r2 (AB ht) (AB e)
  ·rw[g2]at ht
   rw[h3]at hm
   exact and_zero r3 (AB ht) ((Ni _ _).2 hm)
  ·rcases hdyn with h|h
   ·rw[he]at h;simp at h
   ·unfold cfD at h
    simp only[he,ze,yH,Bool.not_eq_true']at h
    have q:=Qi (h.1.resolve_left (by simp))
    exact⟨q.1,q.2,fun p hp hx=>q.2 p hp (g5 _ hx)⟩
  ·rcases hdyn with h|h
   ·rw[he]at h;simp at h
   ·unfold cfD at h
    simp only[he,ze,yH,Bool.not_eq_true']at h
    have q:=Qi (h.2.resolve_left (by simp))
    exact⟨q.1,q.2,fun p hp hx=>q.2 p hp (h5 _ hx)⟩
def IR.fR(p:Nat->Prop):IR->Prop
 | .box _ cs=>∀c∈cs,Iv.fR p c
 | .row _ _=>True
def aP.fR(p:Nat->Prop)(R:aP):Prop:=∀q∈R,p q.1/\q.2.fR p
theorem IR.fR.mono{p q:Nat->Prop}{r:IR}(h:r.fR p)(hn:∀i,p i->q i):r.fR q:=by
 cases r with
 |box T cs=>exact fun c hc=>(h c hc).mono hn
 |row t l=>trivial
theorem aP.fR.mono{p q:Nat->Prop}{R:aP}(h:aP.fR p R)(hn:∀i,p i->q i):aP.fR q R:=fun x hx=>⟨hn _ (h x hx).1,(h x hx).2.mono hn⟩
theorem aP.fR.res{p:Nat->Prop}{R:aP}{ρ ρ':Gh}(h:aP.fR p R)(ha:Ags p ρ ρ'):aP.res ρ R=aP.res ρ' R:=zQ fun q hq=>by
 obtain⟨h1,h2⟩:=h q hq
 obtain⟨i,r⟩:=q
 cases r with
 |box T cs=>simp only[IR.res];rw[(ha i h1).2,Iv.fR.VK h2 ha]
 |row t l=>simp only[IR.res];rw[(ha i h1).1]
theorem aP.fR.perm{p:Nat->Prop}{R R':aP}(h:aP.fR p R)(hp:List.Perm R R'):aP.fR p R':=fun q hq=>h q (hp.mem_iff.2 hq)
theorem aP.cj.lts{n:Nat}{R:aP}(h:aP.cj n R):aP.fR (fun i=>i<n) R:=fun q hq=>⟨(h q hq).1,by
 have:=(h q hq).2
 cases hr:q.2 with
 |box T cs=>rw[hr]at this;exact this
 |row t l=>trivial⟩
theorem aP.fR.p9{n:Nat}{R:aP}(h:aP.fR (fun i=>i<n) R):aP.cj n R:=fun q hq=>⟨(h q hq).1,by
 have:=(h q hq).2
 cases hr:q.2 with
 |box T cs=>rw[hr]at this;exact this
 |row t l=>trivial⟩
def tU(f:Fr)(sl:List Nat):Env:=sl.filterMap fun t=>(f t).map fun d=>(t,d)
theorem A8{f:Fr}{t:Nat}{d:AV}:∀{sl:List Nat},(tU f sl).get t=O d->f t=O d
 |[],h=>by cases h
 |s::sl,h=>by
  unfold tU at h
  rw[xd]at h
  cases hs:f s with
  |none=>
   rw[hs]at h
   exact A8 (sl:=sl) h
  |some e=>
   rw[hs]at h
   simp only[yg]at h
   unfold Env.get at h
   cases hb:zb s t with
   |true=>
    rw[hb]at h
    cases h
    rw[<-fB hb]
    exact hs
   |false=>
    rw[hb]at h
    exact A8 (sl:=sl) h
theorem Ga{f:Fr}{t:Nat}{d:AV}:∀{sl:List Nat},t∈sl->f t=O d->(tU f sl).get t=O d
 |[],h,_=>by cases h
 |s::sl,h,hf=>by
  unfold tU
  rw[xd]
  by_cases hst:s=t
  ·subst hst
   rw[hf]
   exact Env.dN _ _ _
  ·have ht:t∈sl:=(zu.1 h).resolve_left fun e=>hst e.symm
   cases f s with
   |none=>exact Ga ht hf
   |some e=>simp only[yg];rw[Env.cV _ _ hst];exact Ga ht hf
theorem Lh{f g:Fr}{sl:List Nat}(h:∀t∈sl,f t=g t):tU f sl=tU g sl:=by
 unfold tU
 induction sl with
 |nil=>rfl
 |cons s sl ih=>
  rw[xd,xd,h s zg,ih fun t ht=>h t (zC _ ht)]
section
variable {P:Program} {C:Cx} {n:Nat} {o:Oper}
def MtS(C:Cg)(n:Nat)(p:Nat->Prop)(f:Fr)(R:aP)(a:Act)(w:World):Prop:=∃(E:Env) (ρ:Gh),(∀t d,f t=O d->E.get t=O d)/\(∀q∈E,fR p q.2)/\aP.fR p R/\p6 C.n C.ρ ρ/\sM C.C n (E.sub ρ) (aP.res ρ R) a w
theorem o9{ρ:Gh}{R R':aP}(h:List.Perm R R'):List.Perm (aP.res ρ R) (aP.res ρ R'):=h.map _
theorem jD{ρ:Gh}(R R':aP):aP.res ρ (R++R')=aP.res ρ R++aP.res ρ R':=zY ..
theorem MtS.perm{C:Cg}{p:Nat->Prop}{f:Fr}{R R':aP}{a:Act}{w:World}(h:MtS C n p f R a w)(hp:List.Perm R R'):MtS C n p f R' a w:=by
 obtain⟨E,ρ,h1,h2,h3,h5,h4⟩:=h
 exact⟨E,ρ,h1,h2,h3.perm hp,h5,h4.perm (o9 hp)⟩
def Nlc(nx:Nat)(v:AV)(Ro:aP)(ρ:Gh):Option AV->List cc->Prop:=fun a σ'=>∃ρ',p6 nx ρ ρ'/\(a=O (v.sub ρ')\/a=wC/\v= .lit undef)/\List.Perm σ' (aP.res ρ' Ro)
theorem adq{wr rd:List Nat}(h:∀i∈wr,i∈rd)(R:aP):List.Perm (gh wr (bO rd R)++gh rd R) (gh wr R):=by
 have e1:gh wr (bO rd R)=(gh wr R).filter fun p=>cL p.1 rd:=by
  simp only[gh,bO,xP]
  exact xQ fun p _=>Bool.and_comm ..
 have e2:gh rd R=(gh wr R).filter fun p=> !cL p.1 rd:=by
  simp only[gh,xP]
  refine xQ fun p _=> ?_
  cases hm:cL p.1 rd with
  |true=>rfl
  |false=>
   have:cL p.1 wr=wD:=ia.2 fun hw=>ia.1 hm (h _ hw)
   rw[this];rfl
 rw[e1,e2]
 exact List.filter_append_perm _ _
theorem ah3{C:Cg}{p:Nat->Prop}{f:Fr}{R:aP}{a:Act}{w:World}{c:Rc}{nx nx':Nat}{Q:Exit->Act->World->Prop}{K':Act->World->Prop}
  (hn:C.n<=nx) (hm:MtS C n p f R a w) (hdst:c.dst=o.dst) (hd:J7 n o.dst=wE) (hwr:∀i∈c.wr,i∈c.rd) (hloc:∀ρ C,Ye P ((tU f c.sl).sub ρ) (aP.res ρ (bO c.rd R)) o C (Nlc nx c.v (match c.ef with|wE=>c.Lo++gh c.wr (bO c.rd R)|wD=>bO c.rd R) ρ))
  (hp:∀i,p i->¬(nx<=i/\i<nx')) (hv:cj nx' c.v) (hLi:aP.cj nx (bO c.rd R)) (hLo:c.ef=wE->aP.cj nx' c.Lo)
  (hv':fR (fun i=>p i\/(nx<=i/\i<nx')) c.v) (hLo':c.ef=wE->aP.fR (fun i=>p i\/(nx<=i/\i<nx')) c.Lo)
  (hK:∀a' w',a'.defers=a.defers->MtS C n (fun i=>p i\/(nx<=i/\i<nx')) (c.F f) (c.R R) a' w'->K' a' w'):o.wp P a w K' Q:=by
 obtain⟨E,ρ,h1,h2,h3,h0,hsim0⟩:=hm
 have hpm:List.Perm (bO c.rd R++gh c.rd R) R:=List.filter_append_perm _ _
 have hsim:=hsim0.perm (o9 (ρ:=ρ) hpm.symm)
 rw[jD]at hsim
 generalize hσi:aP.res ρ (bO c.rd R)=σi at hsim
 generalize hσr:aP.res ρ (gh c.rd R)=σr at hsim
 have hg:=hsim.good
 have hlt:∀b∈bh (σi++σr),b<w.heap.size:=fun b hb=>by
  obtain⟨s,q1,q2⟩:=bD.1 hb
  exact(hg.res s q1).lt q2
 have hal:∀b,al C.C (σi++σr) b->al ⟨w,al C.C (σi++σr),bh σi⟩ σi b:=fun b hA=>⟨.inl hA,fun hx=>hA.2 (bt.2 (.inl hx))⟩
 have hgood:Good ⟨w,al C.C (σi++σr),bh σi⟩ σi w:=⟨Kp.refl _ _,fun r hr=>(hg.res r (yz _ hr)).mono (fun b _ hA=>⟨hal b hA,rfl⟩) (fun _ _=>rfl),by
  have:=hg.DW;rw[fZ]at this;exact(yy.1 this).1,fun b hb=> .inl hb⟩
 have hops:KQ (al ⟨w,al C.C (σi++σr),bh σi⟩ σi) w ((tU f c.sl).sub ρ) a.eval:=fun x u hx=>by
  rw[Env.LN]at hx
  obtain⟨d,hd1,rfl⟩:=zf.1 hx
  have hE:E.ev x=O d:=by
   cases x with
   |tmp t=>exact h1 t d (A8 hd1)
   |_=>exact hd1
  exact(hsim.slots.ops x (d.sub ρ) (by rw[Env.LN,hE];rfl)).mono fun b _ hA=>⟨hal b hA,rfl⟩
 have step:∀(ρ':Gh) (σo:List cc) (w':World),p6 nx ρ ρ'->List.Perm σo (aP.res ρ' (match c.ef with|wE=>c.Lo++gh c.wr (bO c.rd R)|wD=>bO c.rd R))->Tr ⟨w,al C.C (σi++σr),bh σi⟩ (bh σi) σi w σo w'->
   ∃ρ'':Gh,p6 C.n C.ρ ρ''/\c.v.sub ρ'=c.v.sub ρ''/\sM C.C n (E.sub ρ'') (aP.res ρ'' (c.R R)) a w'/\(∀b,b<w'.heap.size->al ⟨w,al C.C (σi++σr),bh σi⟩ σo b->al C.C (aP.res ρ'' (c.R R)) b):=fun ρ' σo w' ha hσo ht=>by
  let ρ'':Gh:=⟨fun i=>if nx<=i/\i<nx' then ρ'.v i else ρ.v i,fun i=>if nx<=i/\i<nx' then ρ'.b i else ρ.b i⟩
  have hag:Ags p ρ ρ'':=fun i hi=>by
   have:=hp i hi
   exact⟨by simp only[ρ'',if_neg this],by simp only[ρ'',if_neg this]⟩
  have hag2:p6 nx' ρ' ρ'':=fun i hi=>by
   by_cases hni:nx<=i
   ·exact⟨by simp only[ρ'',if_pos (And.intro hni hi)],by simp only[ρ'',if_pos (And.intro hni hi)]⟩
   ·have h0:¬(nx<=i/\i<nx'):=fun h=>hni h.1
    obtain⟨a1,a2⟩:=ha i (by omega)
    exact⟨by simp only[ρ'',if_neg h0];exact a1.symm,by simp only[ρ'',if_neg h0];exact a2.symm⟩
  have hnx:nx<=nx'\/nx'<nx:=by omega
  have hown:∀b∈bh σo,b∈bh σi\/w.heap.size<=b:=ht.good.own
  have hsub:∀b,b<w'.heap.size->al ⟨w,al C.C (σi++σr),bh σi⟩ σo b->al C.C (σo++σr) b:=fun b _ hb=>by
   obtain⟨hb1,hb2⟩:=hb
   rcases hb1 with hb1|hb1|hb1
   ·exact⟨hb1.1,fun hx=>(bt.1 hx).elim hb2 (fun h=>hb1.2 (bt.2 (.inr h)))⟩
   ·have hbp:b∈bh σi:=hb1
    refine⟨?_,fun hx=>(bt.1 hx).elim hb2 (fun h=> ?_)⟩
    ·rcases hg.own b (bt.2 (.inl hbp))with h|h
     ·exact .inr (.inl h)
     ·exact .inr (.inr h)
    ·have hdis:=hg.DW
     rw[fZ]at hdis
     exact(yy.1 hdis).2.2 b hbp b h rfl
   ·have hbw:w.heap.size<=b:=hb1
    exact⟨.inr (.inr (zy hg.kept.size hbw)),fun hx=>(bt.1 hx).elim hb2 (fun h=>by have:=hlt b (bt.2 (.inr h));omega)⟩
  have ht2:Tr C.C (bh σi) (σi++σr) w (σo++σr) w':=Av hg (fun b hA _=> .inl hA) ht (fun r hr=>(ht.good.res r hr).mono (fun b hb hA=>⟨hsub b hb hA,rfl⟩) (fun _ _=>rfl))
  have hs2:=hsim.tr ht2
  have hout:aP.fR p (gh c.rd R):=fun q hq=>h3 q (zW.1 hq).1
  have hEs:E.sub ρ=E.sub ρ'':=zQ fun q hq=>by rw[(h2 q hq).sub hag]
  have hrs:σr=aP.res ρ'' (gh c.rd R):=by rw[<-hσr,hout.res hag]
  have hpo:List.Perm (σo++σr) (aP.res ρ'' (c.R R)):=by
   rw[hrs]
   unfold Rc.R
   cases hce:c.ef with
   |true=>
    rw[hce]at hσo
    simp only at hσo ⊢
    have hin:aP.fR p (gh c.wr (bO c.rd R)):=fun q hq=>h3 q (zW.1 (zW.1 hq).1).1
    have hin2:aP.cj nx (gh c.wr (bO c.rd R)):=fun q hq=>hLi q (zW.1 hq).1
    have e1:aP.res ρ' (gh c.wr (bO c.rd R))=aP.res ρ'' (gh c.wr (bO c.rd R)):=by rw[<-hin2.res ha,hin.res hag]
    rw[jD,e1,(hLo hce).res hag2]at hσo
    refine(hσo.append_right _).trans ?_
    rw[yS,jD,<-jD (gh c.wr (bO c.rd R))]
    exact List.Perm.append_left _ (o9 (adq hwr R))
   |false=>
    rw[hce]at hσo
    simp only at hσo ⊢
    have hin:aP.fR p (bO c.rd R):=fun q hq=>h3 q (zW.1 hq).1
    have e1:aP.res ρ' (bO c.rd R)=aP.res ρ'' (bO c.rd R):=by rw[<-hLi.res ha,hin.res hag]
    rw[e1]at hσo
    refine(hσo.append_right _).trans ?_
    rw[<-jD]
    exact o9 hpm
  refine⟨ρ'',h0.trans (fun i hi=>⟨by simp only[ρ'',if_neg (show ¬(nx<=i/\i<nx')by omega)],by simp only[ρ'',if_neg (show ¬(nx<=i/\i<nx')by omega)]⟩) (zx C.n),hv.sub hag2,by rw[<-hEs];exact hs2.perm hpo,fun b hb hA=>Rf hpo b (hsub b hb hA)⟩
 have fin:∀(ρ':Gh) (σo:List cc) (w':World) (v:Value),p6 nx ρ ρ'->List.Perm σo (aP.res ρ' (match c.ef with|wE=>c.Lo++gh c.wr (bO c.rd R)|wD=>bO c.rd R))->Tr ⟨w,al C.C (σi++σr),bh σi⟩ (bh σi) σi w σo w'->
   Rel (al ⟨w,al C.C (σi++σr),bh σi⟩ σo) w' (c.v.sub ρ') v->K' (a.put o.dst v) w':=fun ρ' σo w' v q1 q2 q3 q4=>by
  obtain⟨ρ'',g1,g2,g3,g4⟩:=step ρ' σo w' q1 q2 q3
  have hR':aP.fR (fun i=>p i\/(nx<=i/\i<nx')) (c.R R):=by
   unfold Rc.R
   cases hce:c.ef with
   |false=>exact h3.mono fun i hi=> .inl hi
   |true=>exact fun q hq=>(zP.1 hq).elim (hLo' hce q) fun hq=>⟨.inl (h3 q (zW.1 hq).1).1,(h3 q (zW.1 hq).1).2.mono fun i hi=> .inl hi⟩
  refine hK _ _ (by cases o.dst<;>rfl) ?_
  rw[g2]at q4
  cases hdo:o.dst with
  |none=>exact⟨E,ρ'',fun t d ht=>h1 t d (by unfold Rc.F at ht;rw[hdst,hdo]at ht;simpa using ht),fun q hq=>(h2 q hq).mono fun i hi=> .inl hi,hR',g1,g3⟩
  |some t=>
   refine⟨(t,c.v)::E,ρ'',fun s d hs=> ?_,fun q hq=> ?_,hR',g1,?_⟩
   ·unfold Rc.F at hs
    rw[hdst,hdo]at hs
    by_cases hts:t=s
    ·subst hts
     rw[if_pos rfl]at hs
     cases hs
     exact Env.dN _ _ _
    ·rw[if_neg (fun e=>hts (zB.inj e))]at hs
     rw[Env.cV _ _ hts]
     exact h1 s d hs
   ·rcases zu.1 hq with rfl|hq
    ·exact hv'
    ·exact(h2 q hq).mono fun i hi=> .inl hi
   ·rw[hdo]at hd
    exact g3.put hd (q4.mono fun b hb hA=>⟨g4 b hb hA,rfl⟩)
 unfold Oper.wp
 subst hσi
 rcases hloc ρ _ w a.eval hgood hops with ⟨v,w',av,σ',⟨ρ',q1,q2,q3⟩,r1,r2,r3⟩|⟨w',σ',⟨ρ',q1,q2,q3⟩,r1,r2⟩|⟨g,args,r1,r2⟩
 ·rw[r2]
  rcases q2 with q2|⟨q2,_⟩
  ·cases q2;exact fin ρ' σ' w' v q1 q3 r1 r3
  ·cases q2
 ·rw[r2]
  rcases q2 with q2|⟨_,q2⟩
  ·cases q2
  ·exact fin ρ' σ' w' undef q1 q3 r1 (by rw[q2,bE];exact .lit _)
 ·rw[r1]
  refine Calls.mono r2 fun ee w' ⟨v,av,σ',q0,⟨ρ',q1,q2,q3⟩,s1,s2⟩=> ?_
  subst q0
  rcases q2 with q2|⟨q2,_⟩
  ·cases q2;exact fin ρ' σ' w' v q1 q3 s1 s2
  ·cases q2
end
end Go.Iv
end
noncomputable section
namespace Go.Iv
variable [U:qT] [L:mQ]
open Go Go.RowKit
section
variable {P:Program} {o:Oper} {C:Cx} {N:Option AV->List cc->Prop}
theorem Ye.Sc{E:Env}{R:aP}{ρ:Gh}{id t:Nat}{l:List (U.cH t)}(hr:fh R id=O (.row t l))
  (h:Ye P (Env.sub ρ (E.map fun p=>(p.1,mB id t l 3 p.2))) (aP.res ρ ((jL id R).map fun p=>(p.1,tG id t l p.2))) o C N):Ye P (E.sub ρ) (aP.res ρ R) o C N:=fun w ϱ hg hρ=>by
 obtain⟨i,hi1,_,hi3⟩:=dA hr
 have hres:=gv (ρ:=ρ) hi1
 have hd:Hd (al C (aP.res ρ R)) [.row (ρ.v id) t l] w:=⟨fun r hr=>by
   rw[zD]at hr
   rw[hr]
   exact hg.res _ (List.mem_of_getElem? hres),fun b hb hA=>hA.2 (by
   obtain⟨r,h1,h2⟩:=bD.1 hb
   rw[zD]at h1
   rw[h1]at h2
   exact bD.2 ⟨_,List.mem_of_getElem? hres,h2⟩)⟩
 have hle:=Is (C:=C) hres hg
 have hbk:bh (aP.res ρ ((jL id R).map fun p=>(p.1,tG id t l p.2)))=bh ((aP.res ρ R).eraseIdx i):=by
  rw[<-vT,<-hi3]
  unfold bh aP.res
  rw[yc,List.filterMap_map,List.filterMap_map]
  congr 1
  funext p
  obtain⟨q,rr⟩:=p
  cases rr<;>rfl
 have hal:∀b,(al C (aP.res ρ R) b\/b∈bh [cc.row (ρ.v id) t l])->al C (aP.res ρ ((jL id R).map fun p=>(p.1,tG id t l p.2))) b:=fun b hb=>by
  have:=hle b hb
  exact⟨this.1,by rw[hbk];exact this.2⟩
 have hrel:∀{d:AV} {v:Value},Rel (al C (aP.res ρ R)) w (d.sub ρ) v->Rel (al C (aP.res ρ ((jL id R).map fun p=>(p.1,tG id t l p.2)))) w ((mB id t l 3 d).sub ρ) v:=fun h=>
  (CO hd 3 h).mono fun b _ hA=>⟨hal b hA,rfl⟩
 have hsubb:∀b∈bh (aP.res ρ ((jL id R).map fun p=>(p.1,tG id t l p.2))),b∈bh (aP.res ρ R):=fun b hb=>by
  rw[hbk]at hb
  exact nZ (fun r hr=>(wm _ _).subset hr) b hb
 have hg':Good C (aP.res ρ ((jL id R).map fun p=>(p.1,tG id t l p.2))) w:=by
  refine⟨hg.kept,fun rr hrr=> ?_,?_,fun b hb=>hg.own b (hsubb b hb)⟩
  ·obtain⟨p,h1,rfl⟩:=zH.1 hrr
   obtain⟨p',h2,rfl⟩:=zH.1 h1
   have hm:p'.2.res ρ p'.1∈aP.res ρ R:=by
    rw[hi3]at h2
    exact zH.2 ⟨p',List.mem_of_mem_eraseIdx h2,rfl⟩
   have h3:=hg.res _ hm
   obtain⟨q,rr⟩:=p'
   cases rr with
   |row t' l'=>exact h3.mono (fun b _ hA=>⟨hal b (.inl hA),rfl⟩) (fun _ _=>rfl)
   |box T cs=>
    obtain⟨us,h4,h5⟩:=h3
    refine⟨us,h4,by simpa using h5.1,fun j av v q1 q2=> ?_⟩
    rw[yc,zX]at q1
    obtain⟨c,hc,rfl⟩:=zf.1 q1
    exact hrel (h5.2 j (c.sub ρ) v (by rw[zX,hc];rfl) q2)
  ·rw[hbk]
   exact hg.DW.sublist ((wm _ _).filterMap _)
 have hops:KQ (al C (aP.res ρ ((jL id R).map fun p=>(p.1,tG id t l p.2)))) w (Env.sub ρ (E.map fun p=>(p.1,mB id t l 3 p.2))) ϱ:=fun x u hx=>by
  cases x with
  |tmp k=>
   have hx':Env.get (Env.sub ρ (E.map fun p=>(p.1,mB id t l 3 p.2))) k=O u:=hx
   rw[Env.dP,tc]at hx'
   obtain⟨d',h1,rfl⟩:=zf.1 hx'
   obtain⟨d,h2,rfl⟩:=zf.1 h1
   exact hrel (hρ (.tmp k) (d.sub ρ) (by show Env.get (E.sub ρ) k=_;rw[Env.dP,h2];rfl))
  |const v=>exact(hρ (.const v) u hx).mono fun b _ hA=>⟨hal b (.inl hA),rfl⟩
  |global g=>exact(hρ (.global g) u hx).mono fun b _ hA=>⟨hal b (.inl hA),rfl⟩
  |func f=>exact(hρ (.func f) u hx).mono fun b _ hA=>⟨hal b (.inl hA),rfl⟩
 have htr:∀{σ':List cc} {w':World},Tr C (bh (aP.res ρ ((jL id R).map fun p=>(p.1,tG id t l p.2)))) (aP.res ρ ((jL id R).map fun p=>(p.1,tG id t l p.2))) w σ' w'->Tr C (bh (aP.res ρ R)) (aP.res ρ R) w σ' w':=fun h=>
  ⟨h.good,⟨h.kp.os,h.kp.tape,h.kp.output,h.kp.size,fun k hk hn=>h.kp.block k hk fun hx=>hn (hsubb k hx)⟩,fun b hb hA=>⟨(h.al b hb (hal b (.inl hA))).1,hA.2⟩⟩
 rcases h w ϱ hg' hops with ⟨v,w',av,σ',h1,h2,h3,h4⟩|⟨w',σ',h1,h2,h3⟩|⟨f,args,h1,h2⟩
 ·exact .inl ⟨v,w',av,σ',h1,htr h2,h3,h4⟩
 ·exact .inr (.inl ⟨w',σ',h1,htr h2,h3⟩)
 ·exact .inr (.inr ⟨f,args,h1,h2.mono fun e w' ⟨v,av,σ',q1,q2,q3,q4⟩=>⟨v,av,σ',q1,q2,htr q3,q4⟩⟩)
def Wm(sl:List Nat)(T:ET)(E:Env):Prop:=∀t∈sl,∀d,cn T t=O d->E.get t=O d
theorem Ye.jj{sl:List Nat}{nx:Nat}{ρ:Gh}:∀(ids:List Nat) (T:ET) (E:Env) (R:aP),Wm sl T E->E.cj nx->aP.cj nx R->
  (∀E',Wm sl (St.jj ⟨T,R,nx⟩ ids).E E'->E'.cj nx->aP.cj nx (St.jj ⟨T,R,nx⟩ ids).R->Ye P (E'.sub ρ) (aP.res ρ (St.jj ⟨T,R,nx⟩ ids).R) o C N)->Ye P (E.sub ρ) (aP.res ρ R) o C N
 |[],T,E,R,hh,hE,hR,h=>h E hh hE hR
 |i::ids,T,E,R,hh,hE,hR,h=>by
  have e0:St.jj ⟨T,R,nx⟩ (i::ids)=(St.KP ⟨T,R,nx⟩ i).jj ids:=rfl
  rw[e0]at h
  have key:∀s:St,s.nx=nx->s=⟨s.E,s.R,nx⟩:=fun s hs=>by obtain⟨a,b,c⟩:=s;simp only at hs;rw[hs]
  cases hr:fh R i with
  |none=>
   have e1:St.KP ⟨T,R,nx⟩ i=⟨T,R,nx⟩:=by unfold St.KP;simp only[hr]
   rw[e1]at h
   exact Ye.jj ids T E R hh hE hR h
  |some rr=>
   cases rr with
   |box T0 cs=>
    have e1:St.KP ⟨T,R,nx⟩ i=⟨T,R,nx⟩:=by unfold St.KP;simp only[hr]
    rw[e1]at h
    exact Ye.jj ids T E R hh hE hR h
   |row t l=>
    have e1:St.KP ⟨T,R,nx⟩ i=⟨emap (mB i t l 3) T,(jL i R).map fun p=>(p.1,tG i t l p.2),nx⟩:=by unfold St.KP;simp only[hr]
    rw[e1]at h
    refine Ye.Sc hr (Ye.jj ids _ _ _ (fun k hk d hd=> ?_) (fun p hp=> ?_) (fun p hp=> ?_) h)
    ·rw[tF]at hd
     obtain⟨d',h1,rfl⟩:=zf.1 hd
     rw[tc,hh k hk d' h1]
     rfl
    ·obtain⟨p',h1,rfl⟩:=zH.1 hp
     exact oD 3 (hE p' h1)
    ·obtain⟨p',h1,rfl⟩:=zH.1 hp
     have h2:=Dj (id:=i) hR p' h1
     refine⟨h2.1,?_⟩
     obtain⟨q,rr⟩:=p'
     cases rr with
     |row t' l'=>trivial
     |box T0 cs=>
      intro c hc
      obtain⟨c',h3,rfl⟩:=zH.1 hc
      exact oD 3 (h2.2 c' h3)
end
def evL(sl:List Nat)(T:ET):Operand->Option AV
 | .tmp t=>match cL t sl with
  |true=>cn T t
  |false=>wC
 |x=>Du T x
def lK(R1:aP)(nx:Nat)(fz:Bool)(e:eX):Option (AV×Bool×aP×Nat):=O (match e.vl nx with
 |some d=>d
 |none=> .lit undef,match e with
 | .val _=>fz
 |_=>wE,e.R R1 nx,e.nx nx)
def WN(P:Program)(F:aI)(o:Oper)(sl:List Nat)(ids:List Nat)(s:St):Option (AV×Bool×aP×Nat):=St.rec (fun E1 R1 nx1=>l6 o.op P F (evL sl E1) (fh R1) R1 nx1 (lK R1 nx1 (!ids.isEmpty))) (s.jj ids)
def Z9(P:Program)(F:aI)(o:Oper)(sl:List Nat)(E:ET)(Rl:aP)(nx:Nat):Option (AV×Bool×aP×Nat):=WN P F o sl (gV E o.op) ⟨E,Rl,nx⟩
def U0{α:Type}(P:Program)(F:aI)(o:Oper)(sl:List Nat)(ids:List Nat)(D:AV×Bool×aP×Nat->Option α)(s:St):Option α:=St.rec (fun E1 R1 nx1=>l6 o.op P F (evL sl E1) (fh R1) R1 nx1 (fun e=>D (match e.vl nx1 with
 |some d=>d
 |none=> .lit undef,match e with
 | .val _=>(!ids.isEmpty)
 |_=>wE,e.R R1 nx1,e.nx nx1))) (s.jj ids)
def Er{α:Type}(P:Program)(F:aI)(o:Oper)(sl:List Nat)(E:ET)(Rl:aP)(nx:Nat)(D:AV×Bool×aP×Nat->Option α):Option α:=U0 P F o sl (gV E o.op) D ⟨E,Rl,nx⟩
theorem C9{α:Type}{P:Program}{F:aI}(hN:cY F){o:Oper}{sl:List Nat}{E:ET}{Rl:aP}{nx:Nat}(D:AV×Bool×aP×Nat->Option α):(Z9 P F o sl E Rl nx).bind D=Er P F o sl E Rl nx D:=by
 unfold Z9 Er WN U0
 generalize St.jj ⟨E,Rl,nx⟩ (gV E o.op)=s1
 obtain⟨E1,R1,n1⟩:=s1
 exact vW D hN ..
theorem PR:∀(ids:List Nat) (s:St),(s.jj ids).nx=s.nx
 |[],s=>rfl
 |i::ids,s=>by
  show ((s.KP i).jj ids).nx=s.nx
  rw[PR ids]
  unfold St.KP
  split<;>rfl
theorem ad1{P:Program}{F:aI}{o:Oper}{sl:List Nat}{T:ET}{E:Env}{Rl Lo:aP}{nx nx':Nat}{v:AV}{ef:Bool}(hF:gF P F)(h:Z9 P F o sl T Rl nx=O (v,ef,Lo,nx'))(hh:Wm sl T E)(hE:E.cj nx)(hR:aP.cj nx Rl):
  (∀ρ C,Ye P (E.sub ρ) (aP.res ρ Rl) o C (Nlc nx v Lo ρ))/\(ef=wD->∀ρ C,Ye P (E.sub ρ) (aP.res ρ Rl) o C (Nlc nx v Rl ρ)):=by
 unfold Z9 WN at h
 generalize hs:St.jj ⟨T,Rl,nx⟩ (gV T o.op)=s1 at h
 have hnx:s1.nx=nx:=by rw[<-hs,PR]
 obtain⟨E1,R1,n1⟩:=s1
 simp only at hnx
 subst hnx
 have h':l6 o.op P F (evL sl E1) (fh R1) R1 n1 (lK R1 n1 (!(gV T o.op).isEmpty))=O (v,ef,Lo,nx'):=h
 rw[Ka]at h'
 have main:∀ρ C (Ro:aP),(∀e:eX,lK R1 n1 (!(gV T o.op).isEmpty) e=O (v,ef,Lo,nx')->e.R R1 n1=Ro)->Ye P (E.sub ρ) (aP.res ρ Rl) o C (Nlc n1 v Ro ρ):=fun ρ C Ro hRo=>by
  refine Ye.jj (sl:=sl) (gV T o.op) T E Rl hh hE hR fun E' hh' hE' hR'=> ?_
  rw[hs]at hh' hR' ⊢
  have hsee:jf (evL sl E1) (fh R1) n1 E' R1:=⟨fun x d hx=>by
   cases x with
   |tmp t=>
    unfold evL at hx
    simp only at hx
    split at hx
    ·rename_i hm;exact hh' t (eH.1 hm) d hx
    ·cases hx
   |_=>exact hx,fun _ _ h=>h,hE',hR'⟩
  have hst:=Em (o:=o) hF hsee rfl h' ρ C
  intro w ϱ hg hρ
  have conv:∀a σ',Nx R1 n1 (lK R1 n1 (!(gV T o.op).isEmpty)) (v,ef,Lo,nx') ρ a σ'->Nlc n1 v Ro ρ a σ':=fun a σ' ⟨e,q1,q2,q3,q4,ρ',q5,q6,q7⟩=>by
   refine⟨ρ',q5,?_,by rw[<-hRo e q1];exact q7⟩
   unfold lK at q1
   simp only[zB.injEq,Prod.mk.injEq]at q1
   cases hv:e.vl n1 with
   |some d=>
    rw[hv]at q1 q6
    left
    rw[q6,<-q1.1]
    rfl
   |none=>
    rw[hv]at q1 q6
    right
    exact⟨q6,q1.1.symm⟩
  rcases hst w ϱ hg hρ with ⟨v',w',av,σ',h1,h2,h3,h4⟩|⟨w',σ',h1,h2,h3⟩|⟨f,args,h1,h2⟩
  ·exact .inl ⟨v',w',av,σ',conv _ _ h1,h2,h3,h4⟩
  ·exact .inr (.inl ⟨w',σ',conv _ _ h1,h2,h3⟩)
  ·exact .inr (.inr ⟨f,args,h1,h2.mono fun e w' ⟨v',av,σ',q1,q2,q3,q4⟩=>⟨v',av,σ',q1,conv _ _ q2,q3,q4⟩⟩)
 refine⟨fun ρ C=>main ρ C Lo fun e he=> ?_,fun hef ρ C=>main ρ C Rl fun e he=> ?_⟩
 ·unfold lK at he
  simp only[zB.injEq,Prod.mk.injEq]at he
  exact he.2.2.1
 ·unfold lK at he
  simp only[zB.injEq,Prod.mk.injEq]at he
  cases e with
  |val d=>
   have hemp:gV T o.op=[]:=by
    have h2:(!(gV T o.op).isEmpty)=wD:=by rw[<-hef];exact he.2.1
    simpa using h2
   rw[hemp]at hs
   have:(⟨T,Rl,n1⟩:St)=⟨E1,R1,n1⟩:=hs
   exact(St.mk.inj this).2.1.symm
  |_=>exact absurd (he.2.1.trans hef) (by simp)
end Go.Iv
end
noncomputable section
namespace Go.Iv
variable [U:qT] [L:mQ]
open Go Go.RowKit
def kC(p:Nat->Bool)(n:Nat):AV->Bool:=Nat.rec (fun d=>match d with
 | .lit _=>wE
 | .sl _ _=>wE
 | .rp _ _=>wE
 | .own i=>p i
 | .ptr i _=>p i
 | .ra i _ _ _=>p i
 |_=>wD) (fun _ ih d=>match d with
 | .lit _=>wE
 | .sl _ _=>wE
 | .rp _ _=>wE
 | .own i=>p i
 | .ptr i _=>p i
 | .ra i _ _ _=>p i
 | .agg cs=>cs.all ih
 | .iA cs=>cs.all ih
 | .fn _ cs=>cs.all ih
 | .fp cs=>cs.all ih) n
theorem AD{p:Nat->Bool}:∀(n:Nat) {d:AV},kC p n d=wE->fR (fun i=>p i=wE) d
 |0,d,h=>by
  cases d<;>first|exact .lit _|exact .sl _ _|exact .rp _ _|exact .own _ h|exact .ptr _ _ h|exact .ra _ _ _ _ h|(cases h;done)
 |n+1,d,h=>by
  have hL:∀{cs:List AV},cs.all (kC p n)=wE->∀c∈cs,fR (fun i=>p i=wE) c:=fun h c hc=>AD n (zm.1 h c hc)
  cases d<;>first|exact .lit _|exact .sl _ _|exact .rp _ _|exact .own _ h|exact .ptr _ _ h|exact .ra _ _ _ _ h|exact .agg _ (hL h)|exact .iA _ (hL h)|exact .fn _ _ (hL h)|exact .fp _ (hL h)
theorem F9{p:Nat->Prop}:∀(n:Nat) {d:AV},fR p d->∀i∈nL n d,p i
 |0,d,h,i,hi=>by
  cases h<;>simp only[nL,zD,List.not_mem_nil]at hi<;>(subst hi;assumption)
 |n+1,d,h,i,hi=>by
  have hL:∀{cs:List AV},(∀c∈cs,fR p c)->i∈cs.flatMap (nL n)->p i:=fun h hi=>by
   obtain⟨c,h1,h2⟩:=xM.1 hi
   exact F9 n (h c h1) i h2
  cases h with
  |agg cs h=>exact hL h hi
  |iA cs h=>exact hL h hi
  |fn f cs h=>exact hL h hi
  |own id h=>simp only[nL,zD]at hi;rw[hi];exact h
  |ptr id off h=>simp only[nL,zD]at hi;rw[hi];exact h
  |ra id t m off h=>simp only[nL,zD]at hi;rw[hi];exact h
  |_=>simp[nL]at hi
def Dn(sl:List Nat)(T:ET):List Nat:=sl.flatMap fun t=>match cn T t with
 |some d=>nL 3 d
 |none=>[]
def WK(R:aP):List Nat:=R.flatMap fun q=>q.1::match q.2 with
 | .box _ cs=>cs.flatMap (nL 3)
 | .row _ _=>[]
def Un(al:List Nat)(nx nx' i:Nat):Bool:=cL i al||(ya nx i&&zq i nx')
def okR(al:List Nat)(nx nx':Nat)(R:aP):Bool:=R.all fun q=>Un al nx nx' q.1&&match q.2 with
 | .box _ cs=>cs.all (kC (Un al nx nx') 3)
 | .row _ _=>wE
theorem HJ{al:List Nat}{nx nx' i:Nat}(h:Un al nx nx' i=wE):i∈al\/(nx<=i/\i<nx'):=by
 unfold Un at h
 simp only[yH,ze,Nat.ble_eq,yl]at h
 exact h.imp eH.1 id
theorem ahL{al:List Nat}{nx nx':Nat}{R:aP}(h:okR al nx nx' R=wE):aP.fR (fun i=>i∈al\/(nx<=i/\i<nx')) R:=fun q hq=>by
 have:=zm.1 h q hq
 simp only[ze]at this
 refine⟨HJ this.1,?_⟩
 obtain⟨i,r⟩:=q
 cases r with
 |row t l=>trivial
 |box T cs=>exact fun c hc=>(AD 3 (zm.1 this.2 c hc)).mono fun i hi=>HJ hi
def aqE(o:Op):Bool:=match o with
 | .move _=>wD
 | .assign _=>wD
 | .pick _ _ _=>wD
 | .unOp _ _ _=>wD
 | .nilCheck _=>wD
 | .fieldAddr _ _ _=>wD
 | .extract _ _=>wD
 | .makeFunc _ _ _=>wD
 | .alloc _=>wD
 |_=>wE
def UM(o:Op):Bool:=match o with
 | .call {callee:= .value _, ..}=>wE
 |_=>wD
def n6(ops:Array Oper)(o:Oper)(E:ET)(R:aP):List Nat:=match aqE o.op with
 |false=>[]
 |true=>match UM o.op with
  |false=>Dn (cv ops o) E
  |true=>reach R 3 (Dn (cv ops o) E)
def inQ(rd:List Nat)(R:aP):aP:=match rd with
 |[]=>[]
 |rd=>bO rd R
theorem Uo(rd:List Nat)(R:aP):inQ rd R=bO rd R:=by
 cases rd with
 |nil=>exact(List.filter_eq_nil_iff.2 fun p _=>by simp[cL]).symm
 |cons a l=>rfl
def rcB(ops:Array Oper)(o:Oper)(E:ET)(Rl:aP)(nx:Nat)(v:AV)(ef:Bool)(Lo:aP)(nx':Nat):Bool:=(fun al=>ya nx nx'&&(!ef||efk o)&&kC (Un al nx nx') 4 v&&(!ef||okR al nx nx' Lo)) (Dn (cv ops o) E++WK Rl)
def Ze(e:AV->AV->Bool)(l:List AV):List AV->Bool:=List.rec (fun m=>match m with
 |[]=>wE
 |_=>wD) (fun a _ ih m=>match m with
 |b::m=>e a b&&ih m
 |[]=>wD) l
def akT(ih:AV->AV->Bool)(a b:AV):Bool:=match a,b with
 | .own i, .own j=>zb i j
 | .ptr i o, .ptr j p=>zb i j&&zb o p
 | .fn (.func f) cs, .fn (.func g) ds=>zb f g&&Ze ih cs ds
 |_,_=>wD
def eqA(n:Nat):AV->AV->Bool:=Nat.rec (fun _ _=>wD) (fun _ ih=>akT ih) n
def ajt(a b:IR):Bool:=match a,b with
 | .box T cs, .box T' ds=>zb T T'&&Ze (eqA 2) cs ds
 |_,_=>wD
def Ur(l:aP):aP->Bool:=List.rec (fun m=>match m with
 |[]=>wE
 |_=>wD) (fun a _ ih m=>match m with
 |b::m=>zb a.1 b.1&&ajt a.2 b.2&&ih m
 |[]=>wD) l
theorem G6{e:AV->AV->Bool}(he:∀a b,e a b=wE->a=b):∀{l m:List AV},Ze e l m=wE->l=m
 |[],[],_=>rfl
 |[],_::_,h=>by cases h
 |_::_,[],h=>by cases h
 |a::l,b::m,h=>by
  change (e a b&&Ze e l m)=wE at h
  rw[ze]at h
  rw[he a b h.1,G6 he h.2]
theorem TA:∀(n:Nat) {a b:AV},eqA n a b=wE->a=b
 |0,a,b,h=>by cases h
 |n+1,a,b,h=>by
  change akT (eqA n) a b=wE at h
  unfold akT at h
  split at h
  ·rw[fB h]
  ·rw[ze]at h;rw[fB h.1,fB h.2]
  ·rw[ze]at h;rw[fB h.1,G6 (fun a b=>TA n) h.2]
  ·cases h
theorem IT:∀{l m:aP},Ur l m=wE->l=m
 |[],[],_=>rfl
 |[],_::_,h=>by cases h
 |_::_,[],h=>by cases h
 |(i,a)::l,(j,b)::m,h=>by
  change (zb i j&&ajt a b&&Ur l m)=wE at h
  simp only[ze]at h
  have h1:=fB h.1.1
  subst h1
  have h2:=h.1.2
  unfold ajt at h2
  split at h2
  ·rw[ze]at h2
   rw[fB h2.1,G6 (fun a b=>TA 2) h2.2,IT h.2]
  ·cases h2
def trim(K rd:List Nat)(Rl Lo:aP):List Nat×aP:=match K.filter fun i=>cL i rd with
 |[]=>(rd,Lo)
 |k::K=>match Ur (bO (k::K) Lo) (bO (k::K) Rl)with
  |true=>(rd.filter fun i=> !cL i (k::K),gh (k::K) Lo)
  |false=>(rd,Lo)
theorem adO(K rd:List Nat)(R Lo:aP):(∀i∈(trim K rd (bO rd R) Lo).1,i∈rd)/\(∀q∈(trim K rd (bO rd R) Lo).2,q∈Lo)/\List.Perm Lo ((trim K rd (bO rd R) Lo).2++gh (trim K rd (bO rd R) Lo).1 (bO rd R)):=by
 have h0:gh rd (bO rd R)=[]:=List.filter_eq_nil_iff.2 fun p hp=>by
  have:cL p.1 rd=wE:=(zW.1 hp).2
  rw[this];simp
 have triv:(∀i∈rd,i∈rd)/\(∀q∈Lo,q∈Lo)/\List.Perm Lo (Lo++gh rd (bO rd R)):=⟨fun _ h=>h,fun _ h=>h,by rw[h0,yd]⟩
 unfold trim
 split
 ·exact triv
 ·rename_i k K' hK
  split
  case h_2=>exact triv
  rename_i he
  have he:=IT he
  refine⟨fun i hi=>(zW.1 hi).1,fun q hq=>(zW.1 hq).1,?_⟩
  have e1:gh (rd.filter fun i=> !cL i (k::K')) (bO rd R)=bO (k::K') (bO rd R):=by
   unfold gh bO
   refine xQ fun p hp=> ?_
   have hp:cL p.1 rd=wE:=(zW.1 hp).2
   cases hm:cL p.1 (k::K')with
   |true=>
    rw[ia.2 fun hx=> ?_];rfl
    have:=(zW.1 hx).2
    rw[hm]at this;cases this
   |false=>
    rw[eH.2 (zW.2 ⟨eH.1 hp,by rw[hm];rfl⟩)];rfl
  show List.Perm Lo (gh (k::K') Lo++gh (rd.filter fun i=> !cL i (k::K')) (bO rd R))
  rw[e1,<-he]
  exact(List.perm_append_comm.trans (List.filter_append_perm _ _)).symm
def partner(ops:Array Oper)(ps:List (Nat×Nat))(i:Nat):List Nat:=ps.flatMap fun p=>match zb p.1 i with
 |true=>match ops[p.2]? with
  |some o=>match UM o.op with
   |true=>[]
   |false=>cv ops o
  |none=>[]
 |false=>match zb p.2 i with
  |true=>match ops[p.1]? with
   |some o=>match UM o.op with
    |true=>[]
    |false=>cv ops o
   |none=>[]
  |false=>[]
def Ux(ops:Array Oper)(ps:List (Nat×Nat))(cs:List Rc)(E:ET):List Nat:=match ps with
 |[]=>[]
 |p::ps=>Dn (partner ops (p::ps) cs.length) E
def dK2(o:Oper)(sl:List Nat)(cs:List Rc)(rd:List Nat)(E:ET)(R:aP){α:Type}(ih:List Rc->St->(List Rc->St->Option α)->Option α)(k:List Rc->St->Option α)(v:AV)(ef:Bool)(nx':Nat)(t:List Nat×aP):Option α:=
 ih (cs++[⟨o.dst,v,sl,rd,t.1,ef,t.2⟩]) ⟨qE o.dst v E,match ef with
  |true=>t.2++gh t.1 R
  |false=>R,nx'⟩ k
def dK(ops:Array Oper)(ps:List (Nat×Nat))(o:Oper)(cs:List Rc)(rd:List Nat)(E:ET)(R Rl:aP)(nx:Nat){α:Type}(ih:List Rc->St->(List Rc->St->Option α)->Option α)(k:List Rc->St->Option α)(x:AV×Bool×aP×Nat):Option α:=
 match rcB ops o E Rl nx x.1 x.2.1 x.2.2.1 x.2.2.2 with
 |true=>dK2 o (cv ops o) cs rd E R ih k x.1 x.2.1 x.2.2.2 (trim (Ux ops ps cs E) rd Rl x.2.2.1)
 |false=>wC
def apC{α:Type}(P:Program)(F:aI)(ops:Array Oper)(ps:List (Nat×Nat))(o:Oper)(ih:List Rc->St->(List Rc->St->Option α)->Option α)(cs:List Rc)(k:List Rc->St->Option α)(E:ET)(R:aP)(nx:Nat)(rd:List Nat)(Rl:aP):Option α:=
 Er P F o (cv ops o) E Rl nx (dK ops ps o cs rd E R Rl nx ih k)
def atl{α:Type}(P:Program)(F:aI)(ops:Array Oper)(ps:List (Nat×Nat))(o:Oper)(ih:List Rc->St->(List Rc->St->Option α)->Option α)(cs:List Rc)(k:List Rc->St->Option α)(s:St):Option α:=
 St.rec (fun E R nx=>(fun rd=>apC P F ops ps o ih cs k E R nx rd (inQ rd R)) (n6 ops o E R)) s
def dNo{α:Type}(ops:Array Oper)(o:Oper)(ih:List Rc->St->(List Rc->St->Option α)->Option α)(cs:List Rc)(k:List Rc->St->Option α)(s:St):Option α:=
 ih (cs++[⟨o.dst, .lit undef,cv ops o,[],[],wD,[]⟩]) ⟨qE o.dst (.lit undef) s.E,s.R,s.nx⟩ k
def RQ{α:Type}(P:Program)(F:aI)(n:Nat)(ops:Array Oper)(ps:List (Nat×Nat))(o:Oper)(ih:List Rc->St->(List Rc->St->Option α)->Option α)(cs:List Rc)(s:St)(k:List Rc->St->Option α):Option α:=match J7 n o.dst with
 |true=>gate ops o s (atl P F ops ps o ih cs k) (dNo ops o ih cs k)
 |false=>wC
def Ta{α:Type}(P:Program)(F:aI)(n:Nat)(ops:Array Oper)(ps:List (Nat×Nat))(l:List Oper):List Rc->St->(List Rc->St->Option α)->Option α:=List.rec (fun cs s k=>k cs s) (fun o _ ih=>RQ P F n ops ps o ih) l
def UO(l:List Oper):Nat->Bool:=List.rec (fun _=>wE) (fun o _ ih i=>(o.after.toList.all fun e=> !Region.binds .any e||zq e.on i)&&ih (i+1)) l
theorem KG:∀{l:List Oper} {k:Nat},UO l k=wE->∀(i:Nat) o,l[i]? =O o->∀e∈o.after.toList,Region.binds .any e=wE->e.on<k+i
 |[],k,_,i,o,h,_,_,_=>by cases h
 |o0::l,k,hb,i,o,h,e,he,hbe=>by
  change ((o0.after.toList.all fun e=> !Region.binds .any e||zq e.on k)&&UO l (k+1))=wE at hb
  simp only[ze]at hb
  cases i with
  |zero=>
   cases h
   have:=zm.1 hb.1 e he
   rw[hbe]at this
   simpa [yl]using this
  |succ i=>
   have:=KG hb.2 i o h e he hbe
   omega
def Ec{α:Type}(P:Program)(F:aI)(n:Nat)(ops:Array Oper)(s:St)(k:St->Option α):Option α:=match P.follows .mixedOrders&&UO ops.toList 0 with
 |true=>match plan ops with
  |some ps=>Ta P F n ops ps ops.toList [] s fun cs s'=>match UZ ps cs with
   |true=>k s'
   |false=>wC
  |none=>wC
 |false=>wC
def CV(ops:Array Oper)(o:Oper)(f:Fr)(wn:Bool):Prop:=match o.guard with
 |none=>wn=wE
 |some (j,want)=>∃t,(ops[j]?).bind (·.dst)=O t/\((∃b,f t=O (.lit (.bool b))/\wn=(b==want))\/(∃vs,f t=O (.lit (.tuple vs))/\wn=wD))
structure u6 (P:Program) (n:Nat) (ops:Array Oper) (o:Oper) (f:Fr) (R:aP) (nx:Nat) (c:Rc) (nx':Nat):Prop where
 dst:c.dst=o.dst
 sl:c.sl=cv ops o
 ef:c.ef=wE->efk o=wE
 dn:J7 n o.dst=wE
 le:nx<=nx'
 run:(CV ops o f wD/\c.v= .lit undef/\c.ef=wD)\/(CV ops o f wE/\∀ρ C,Ye P ((tU f c.sl).sub ρ) (aP.res ρ (bO c.rd R)) o C (Nlc nx c.v (match c.ef with|wE=>c.Lo++gh c.wr (bO c.rd R)|wD=>bO c.rd R) ρ))
 wr:∀i∈c.wr,i∈c.rd
 lin:aP.cj nx (bO c.rd R)
 lv:cj nx' c.v
 lo:c.ef=wE->aP.cj nx' c.Lo
 ids:∀p:Nat->Prop,(∀t∈c.sl,∀d,f t=O d->fR p d)->aP.fR p (bO c.rd R)->fR (fun i=>p i\/(nx<=i/\i<nx')) c.v/\(c.ef=wE->aP.fR (fun i=>p i\/(nx<=i/\i<nx')) c.Lo)
inductive Ch (P:Program) (n:Nat) (ops:Array Oper):Fr->aP->Nat->List Oper->List Rc->Fr->aP->Nat->Prop
 |nil (f:Fr) (R:aP) (nx:Nat):Ch P n ops f R nx [] [] f R nx
 |cons {f f':Fr} {R R':aP} {nx nx1 nx':Nat} {o:Oper} {os:List Oper} {c:Rc} {cs:List Rc} (h:u6 P n ops o f R nx c nx1) (hs:Ch P n ops (c.F f) (c.R R) nx1 os cs f' R' nx'):Ch P n ops f R nx (o::os) (c::cs) f' R' nx'
theorem ahS{α:Type}{r:α}{ops:Array Oper}{o:Oper}{s:St}{yes no:St->Option α}(h:gate ops o s yes no=O r){f:Fr}(hf:∀t d,cn s.E t=O d->f t=O d):∃s':St,s'.R=s.R/\s'.nx=s.nx/\(∀t d,cn s'.E t=O d->f t=O d)/\
  ((CV ops o f wE/\yes s'=O r)\/(CV ops o f wD/\no s'=O r)):=by
 unfold gate at h
 unfold CV
 split at h
 ·rename_i hg
  exact⟨s,rfl,rfl,hf, .inl ⟨by first|rw[hg]|rfl,h⟩⟩
 ·rename_i j want hg
  split at h
  ·cases h
  ·rename_i t hj
   have hput:∀b,cn s.E t=O (.lit (.bool b))->∀k d,cn (s.eM t b).E k=O d->f k=O d:=fun b hb k d hk=>by
    have hk':cn (kW t (.b b) s.E) k=O d:=hk
    rcases ou hk' with ⟨rfl,rfl⟩|⟨_,h2⟩
    ·exact hf _ _ hb
    ·exact hf k d h2
   split at h
   ·rename_i b hb
    have hfb:=hf _ _ hb
    split at h
    ·split at h
     ·exact⟨s.eM t wE,rfl,rfl,hput _ hb, .inl ⟨by(try rw[hg]);exact⟨t,hj, .inl ⟨_,hfb,rfl⟩⟩,h⟩⟩
     ·exact⟨s.eM t wE,rfl,rfl,hput _ hb, .inr ⟨by(try rw[hg]);exact⟨t,hj, .inl ⟨_,hfb,rfl⟩⟩,h⟩⟩
    ·split at h
     ·exact⟨s.eM t wD,rfl,rfl,hput _ hb, .inr ⟨by(try rw[hg]);exact⟨t,hj, .inl ⟨_,hfb,rfl⟩⟩,h⟩⟩
     ·exact⟨s.eM t wD,rfl,rfl,hput _ hb, .inl ⟨by(try rw[hg]);exact⟨t,hj, .inl ⟨_,hfb,rfl⟩⟩,h⟩⟩
   ·rename_i vs hb
    exact⟨s,rfl,rfl,hf, .inr ⟨by(try rw[hg]);exact⟨t,hj, .inr ⟨_,hf _ _ hb,rfl⟩⟩,h⟩⟩
   ·cases h
theorem Wn{dst:Option Nat}{v:AV}{E:ET}{f:Fr}{c:Rc}(hc:c.dst=dst)(hv:c.v=v)(hf:∀t d,cn E t=O d->f t=O d):∀t d,cn (qE dst v E) t=O d->c.F f t=O d:=fun t d h=>by
 unfold qE at h
 unfold Rc.F
 rw[hc,hv]
 cases dst with
 |none=>simpa using hf t d h
 |some s=>
  rcases ou h with ⟨rfl,rfl⟩|⟨h1,h2⟩
  ·rw[if_pos rfl]
  ·rw[if_neg (fun e=>h1 (zB.inj e))]
   exact hf t d h2
theorem Ye.mono{P:Program}{C:Cx}{E:Env}{σ:List cc}{o:Oper}{N N':Option AV->List cc->Prop}(h:Ye P E σ o C N)(hN:∀a σ',N a σ'->N' a σ'):Ye P E σ o C N':=fun w ϱ hg hρ=>by
 rcases h w ϱ hg hρ with ⟨v,w',av,σ',h1,h2,h3⟩|⟨w',σ',h1,h2,h3⟩|⟨f,args,h1,h2⟩
 ·exact .inl ⟨v,w',av,σ',hN _ _ h1,h2,h3⟩
 ·exact .inr (.inl ⟨w',σ',hN _ _ h1,h2,h3⟩)
 ·exact .inr (.inr ⟨f,args,h1,Calls.mono h2 fun e w' ⟨v,av,σ',q1,q2,q3⟩=>⟨v,av,σ',q1,hN _ _ q2,q3⟩⟩)
theorem NA{α:Type}{r:α}{P:Program}{F:aI}{n:Nat}{ops:Array Oper}{ps:List (Nat×Nat)}(hF:gF P F)(hN:cY F){k:List Rc->St->Option α}:∀(l:List Oper) {cs:List Rc} {s:St} {f:Fr},Ta P F n ops ps l cs s k=O r->(∀t d,cn s.E t=O d->f t=O d)->(∀t d,f t=O d->cj s.nx d)->aP.cj s.nx s.R->
  ∃(cs':List Rc) (s':St) (f':Fr),k (cs++cs') s'=O r/\Ch P n ops f s.R s.nx l cs' f' s'.R s'.nx/\(∀t d,cn s'.E t=O d->f' t=O d)
 |[],cs,s,f,h,hf,_,_=>⟨[],s,f,by rw[yd];exact h, .nil f s.R s.nx,hf⟩
 |o::l,cs,s,f,h,hf,hfl,hR=>by
  change RQ P F n ops ps o (Ta P F n ops ps l) cs s k=O r at h
  unfold RQ at h
  split at h
  case h_2=>cases h
  rename_i hd
  obtain⟨s1,e1,e2,hf1,⟨hg,h1⟩|⟨hg,h1⟩⟩:=ahS h hf
  ·obtain⟨E,R,nx⟩:=s1
   obtain⟨E0,R0,nx0⟩:=s
   simp only at e1 e2 hf1
   subst e1 e2
   change Er P F o (cv ops o) E (inQ (n6 ops o E R) R) nx (dK ops ps o cs (n6 ops o E R) E R (inQ (n6 ops o E R) R) nx (Ta P F n ops ps l) k)=O r at h1
   rw[<-C9 hN]at h1
   generalize hrd:n6 ops o E R=rd at h1
   obtain⟨⟨v,ef,Lo,nx'⟩,h2,h3⟩:=zi.1 h1
   unfold dK at h3
   split at h3
   case h_2=>cases h3
   rename_i hb
   rw[Uo]at h2 hb
   simp only at h3 hb
   unfold rcB at hb
   simp only[ze,Nat.ble_eq,yH,Bool.not_eq_true']at hb
   obtain⟨⟨⟨hb1,hb2⟩,hb3⟩,hb4⟩:=hb
   have hin:aP.cj nx (bO rd R):=fun q hq=>hR q (zW.1 hq).1
   have hlE:(tU f (cv ops o)).cj nx:=fun q hq=>by
    obtain⟨t,_,ht⟩:=List.mem_filterMap.1 hq
    obtain⟨d,hd1,hd2⟩:=zf.1 ht
    rw[<-hd2]
    exact hfl t d hd1
   obtain⟨y1,y2⟩:=ad1 hF h2 (E:=tU f (cv ops o)) (fun t ht d hdd=>Ga ht (hf1 t d hdd)) hlE hin
   have hal:∀p:Nat->Prop,(∀t∈cv ops o,∀d,f t=O d->fR p d)->aP.fR p (bO rd R)->∀i∈Dn (cv ops o) E++WK (bO rd R),p i:=fun p hp1 hp2 i hi=>by
    rcases zP.1 hi with hi|hi
    ·obtain⟨t,ht,hi⟩:=xM.1 hi
     split at hi
     ·rename_i d hdd;exact F9 3 (hp1 t ht d (hf1 t d hdd)) i hi
     ·cases hi
    ·obtain⟨q,hq,hi⟩:=xM.1 hi
     obtain⟨g1,g2⟩:=hp2 q hq
     rcases zu.1 hi with rfl|hi
     ·exact g1
     ·obtain⟨j,rr⟩:=q
      cases rr with
      |row t l=>cases hi
      |box T cs=>
       obtain⟨c,hc,hi⟩:=xM.1 hi
       exact F9 3 (g2 c hc) i hi
   obtain⟨t1,t2,t3⟩:=adO (Ux ops ps cs E) rd R Lo
   rw[Uo]at h3
   generalize trim (Ux ops ps cs E) rd (bO rd R) Lo=tr at h3 t1 t2 t3
   obtain⟨wr,Lo'⟩:=tr
   simp only at t1 t2 t3
   have hids:∀p:Nat->Prop,(∀t∈cv ops o,∀d,f t=O d->fR p d)->aP.fR p (bO rd R)->fR (fun i=>p i\/(nx<=i/\i<nx')) v/\(ef=wE->aP.fR (fun i=>p i\/(nx<=i/\i<nx')) Lo'):=fun p hp1 hp2=>
    ⟨(AD 4 hb3).mono fun i hi=>(HJ hi).imp (hal p hp1 hp2 i) id,fun he q hq=>((ahL (hb4.resolve_left (by rw[he];simp))).mono fun i hi=>hi.imp (hal p hp1 hp2 i) id) q (t2 q hq)⟩
   obtain⟨g1,g2⟩:=hids (fun i=>i<nx) (fun t _ d hdd=>hfl t d hdd) hin.lts
   have hlt:∀i,(i<nx\/(nx<=i/\i<nx'))->i<nx':=fun i hi=>by omega
   have hfact:u6 P n ops o f R nx ⟨o.dst,v,cv ops o,rd,wr,ef,Lo'⟩ nx':=⟨rfl,rfl,fun he=>hb2.resolve_left (by simp only at he;rw[he];simp),hd,hb1, .inr ⟨hg,fun ρ C=>by
     cases ef with
     |true=>exact Ye.mono (y1 ρ C) fun a σ' ⟨ρ',z1,z2,z3⟩=>⟨ρ',z1,z2,z3.trans (o9 t3)⟩
     |false=>exact y2 rfl ρ C⟩,t1,hin,g1.mono hlt,fun he=>(aP.fR.mono (g2 he) hlt).p9,hids⟩
   have hR':aP.cj nx' (Rc.R ⟨o.dst,v,cv ops o,rd,wr,ef,Lo'⟩ R):=by
    unfold Rc.R
    cases ef with
    |false=>exact hR.mono hb1
    |true=>exact fun q hq=>(zP.1 hq).elim (fun hq=>((aP.fR.mono (g2 rfl) hlt).p9) q hq) fun hq=>(hR.mono hb1) q (zW.1 hq).1
   have h4:Ta P F n ops ps l (cs++[⟨o.dst,v,cv ops o,rd,wr,ef,Lo'⟩]) ⟨qE o.dst v E,Rc.R ⟨o.dst,v,cv ops o,rd,wr,ef,Lo'⟩ R,nx'⟩ k=O r:=h3
   obtain⟨cs',s',f',q1,q2,q3⟩:=NA hF hN l (f:=Rc.F ⟨o.dst,v,cv ops o,rd,wr,ef,Lo'⟩ f) h4 (Wn rfl rfl hf1) (fun t d hdd=>by
    unfold Rc.F at hdd
    split at hdd
    ·cases hdd;exact g1.mono hlt
    ·exact cj.mono (hfl t d hdd) hb1) hR'
   exact⟨_::cs',s',f',by simpa using q1, .cons hfact q2,q3⟩
  ·obtain⟨E,R,nx⟩:=s1
   obtain⟨E0,R0,nx0⟩:=s
   simp only at e1 e2 hf1
   subst e1 e2
   have hin:aP.cj nx (bO [] R):=fun q hq=>hR q (zW.1 hq).1
   have hfact:u6 P n ops o f R nx ⟨o.dst, .lit undef,cv ops o,[],[],false,[]⟩ nx:=⟨rfl,rfl,fun h=>(by cases h),hd,zx _, .inl ⟨hg,rfl,rfl⟩,fun _ h=>(by cases h),hin, .lit _,fun h=>(by cases h),fun p _ _=>⟨.lit _,fun h=>(by cases h)⟩⟩
   have h2:Ta P F n ops ps l (cs++[⟨o.dst, .lit undef,cv ops o,[],[],wD,[]⟩]) ⟨qE o.dst (.lit undef) E,R,nx⟩ k=O r:=h1
   obtain⟨cs',s',f',q1,q2,q3⟩:=NA hF hN l (f:=Rc.F ⟨o.dst, .lit undef,cv ops o,[],[],wD,[]⟩ f) h2 (Wn rfl rfl hf1) (fun t d hdd=>by
    unfold Rc.F at hdd
    split at hdd
    ·cases hdd;exact .lit _
    ·exact hfl t d hdd) hR
   exact⟨_::cs',s',f',by simpa using q1, .cons hfact q2,q3⟩
end Go.Iv
end
noncomputable section
namespace Go.Iv
variable [U:qT] [L:mQ]
open Go Go.RowKit
section
variable {P:Program} {n:Nat} {ops:Array Oper}
theorem Ch.idx{f f':Fr}{R R':aP}{nx nx':Nat}{os:List Oper}{cs:List Rc}(h:Ch P n ops f R nx os cs f' R' nx'):cs.length=os.length/\f'=fL cs (zj cs.length wE) f/\R'=gj cs (zj cs.length wE) R/\
  ∃g:Nat->Nat,g 0=nx/\g os.length=nx'/\(∀i,i<os.length->g i<=g (i+1))/\∀(i:Nat) o c,os[i]? =O o->cs[i]? =O c->u6 P n ops o (fL (cs.take i) (zj i wE) f) (gj (cs.take i) (zj i wE) R) (g i) c (g (i+1)):=by
 induction h with
 |nil f R nx=>exact⟨rfl,rfl,rfl,fun _=>nx,rfl,rfl,fun i hi=>by simp at hi,fun i o c h=>by cases h⟩
 |@cons f f' R R' nx nx1 nx' o os c cs h hs ih=>
  obtain⟨h1,h2,h3,g,g0,g1,g2,g3⟩:=ih
  refine⟨by simp[h1],by rw[h2];rfl,by rw[h3];rfl,fun i=>match i with|0=>nx|i+1=>g i,rfl,g1,fun i hi=> ?_,fun i o' c' q1 q2=> ?_⟩
  ·cases i with
   |zero=>show nx<=g 0;rw[g0];exact h.le
   |succ i=>exact g2 i (by simpa using hi)
  ·cases i with
   |zero=>cases q1;cases q2;show u6 P n ops o f R nx c (g 0);rw[g0];exact h
   |succ i=>exact g3 i o' c' q1 q2
theorem WV{g:Nat->Nat}{N:Nat}(h:∀i,i<N->g i<=g (i+1)):∀i j,i<=j->j<=N->g i<=g j:=fun i j hij hj=>by
 induction j with
 |zero=>
  have:i=0:=by omega
  subst this;exact zx _
 |succ j ih=>
  by_cases hi:i=j+1
  ·subst hi;exact zx _
  ·exact zy (ih (by omega) (by omega)) (h j (by omega))
def oX:List Bool->Nat
 |[]=>0
 |b::bs=>(match b with|wE=>0|wD=>1)+oX bs
theorem Jv:∀{bs:List Bool} {i:Nat},bs[i]? =O wD->oX bs=oX (bs.set i wE)+1
 |[],_,h=>by cases h
 |b::bs,0,h=>by
  simp only[List.getElem?_cons_zero,zB.injEq]at h
  subst h
  show 1+oX bs=(0+oX bs)+1
  omega
 |b::bs,i+1,h=>by
  have:=Jv (bs:=bs) (i:=i) (by simpa using h)
  cases b with
  |true=>
   show 0+oX bs=(0+oX (bs.set i wE))+1
   omega
  |false=>
   show 1+oX bs=(1+oX (bs.set i wE))+1
   omega
theorem JK:∀N:Nat,oX (zj N wD)=N
 |0=>rfl
 |N+1=>by rw[yF];show 1+oX (zj N wD)=N+1;rw[JK N];omega
theorem D7:∀{bs:List Bool},oX bs=0->bs=zj bs.length wE
 |[],_=>rfl
 |b::bs,h=>by
  cases b with
  |true=>rw[xX,yF,<-D7 (bs:=bs) (by have:0+oX bs=0:=h;omega)]
  |false=>have:1+oX bs=0:=h;omega
theorem Jq:∀{bs:List Bool},oX bs≠0->∃i:Nat,bs[i]? =O wD/\∀j,j<i->bs[j]? =O wE
 |[],h=>absurd rfl h
 |b::bs,h=>by
  cases b with
  |false=>exact⟨0,rfl,fun j hj=>by omega⟩
  |true=>
   obtain⟨i,h1,h2⟩:=Jq (bs:=bs) (fun e=>h (by show 0+oX bs=0;omega))
   refine⟨i+1,h1,fun j hj=> ?_⟩
   cases j with
   |zero=>rfl
   |succ j=>exact h2 j (by omega)
theorem mem_ready{listed:Array Bool}{i:Nat}:i∈Region.ready .any ops listed↔i<ops.size/\listed.getD i wE=wD/\∃o,ops[i]? =O o/\∀e∈o.after.toList,Region.binds .any e=wE->listed.getD e.on wD=wE:=by
 unfold Region.ready
 simp only[zW,List.mem_range,ze,Bool.not_eq_true']
 refine and_congr_right fun hi=>and_congr_right fun _=> ?_
 rw[Array.getElem?_eq_getElem hi]
 simp only[yg,Option.getD_some,zB.injEq,exists_eq_left']
 rw[Array.all_eq_true']
 constructor
 ·intro h e he hb
  have:=h e (by simpa using he)
  rw[hb]at this
  simpa using this
 ·intro h e he
  cases hb:Region.binds .any e with
  |false=>rfl
  |true=>simpa using h e (by simpa using he) hb
theorem vt{listed:Array Bool}{i:Nat}(hi:i<listed.size):listed.getD i wE=wD↔listed.toList[i]? =O wD:=by
 rw[Array.getD_eq_getD_getElem?,Array.getElem?_eq_getElem hi,zl (by simpa using hi)]
 simp
theorem Ct{listed:Array Bool}{i:Nat}:listed.getD i wD=wE↔listed.toList[i]? =O wE:=by
 rw[Array.getD_eq_getD_getElem?]
 cases h:listed[i]? with
 |none=>simp[h]
 |some b=>simp[h]
theorem ajk{C:Cg}{cs:List Rc}{f0:Fr}{R0:aP}{nx0:Nat}{g:Nat->Nat}{ds:List Deferred}{Q:Exit->Act->World->Prop}
  (hlen:cs.length=ops.size) (g0:g 0=nx0) (gn:C.n<=nx0) (g2:∀i,i<ops.size->g i<=g (i+1)) (hf:∀(i:Nat) o c,ops.toList[i]? =O o->cs[i]? =O c->u6 P n ops o (fL (cs.take i) (zj i wE) f0) (gj (cs.take i) (zj i wE) R0) (g i) c (g (i+1)))
  (hcf:∀(i j:Nat) (c d:Rc),j<i->cs[j]? =O c->cs[i]? =O d->CF c d\/∀bs,Co ops.toList bs->(∀o,ops.toList[i]? =O o->Rdy bs o)->bs[j]? =O wE)
  (hback:∀(i:Nat) o,ops.toList[i]? =O o->∀e∈o.after.toList,Region.binds .any e=wE->e.on<i)
  (hQ:∀a w,a.defers=ds->MtS C n (fun i=>i<g ops.size) (fL cs (zj cs.length wE) f0) (gj cs (zj cs.length wE) R0) a w->Q .normal a w):
  ∀(fuel:Nat) (listed:Array Bool) (a:Act) (w:World),listed.size=ops.size->oX listed.toList=fuel->Co ops.toList listed.toList->a.defers=ds->
   MtS C n (fun x=>x<nx0\/∃j:Nat,listed.toList[j]? =O wE/\g j<=x/\x<g (j+1)) (fL cs listed.toList f0) (gj cs listed.toList R0) a w->wpAny P .any ops Q fuel listed a w:=by
 have hmono:=WV (N:=ops.size) (g:=g) g2
 intro fuel
 induction fuel with
 |zero=>
  intro listed a w hs hc hcl hda hm
  have hall:=D7 hc
  have hfin:Q .normal a w:=by
   refine hQ a w hda ?_
   rw[hall,show listed.toList.length=cs.length from by rw[hlen,<-hs];simp]at hm
   obtain⟨E,ρ,q1,q2,q3,q5,q4⟩:=hm
   have hle:∀i,(i<nx0\/∃j:Nat,(zj cs.length wE)[j]? =O wE/\g j<=i/\i<g (j+1))->i<g ops.size:=fun i hi=>by
    rcases hi with hi|⟨j,hj,_,hj3⟩
    ·have:=hmono 0 ops.size (xj _) (zx _);omega
    ·have hj':j<cs.length:=by simpa using (zS.1 hj).1
     have:=hmono (j+1) ops.size (by omega) (zx _);omega
   exact⟨E,ρ,q1,fun q hq=>(q2 q hq).mono hle,q3.mono hle,q5,q4⟩
  refine⟨?_,hfin⟩
  rw[List.eq_nil_iff_forall_not_mem]
  intro i hi
  obtain⟨h1,h2,_⟩:=mem_ready.1 hi
  rw[vt (by omega),hall,wo]at h2
  split at h2<;>cases h2
 |succ fuel ih=>
  intro listed a w hs hc hcl hda hm
  refine⟨fun hr=> ?_,fun i hi=> ?_⟩
  ·
   exfalso
   obtain⟨i,h1,h2⟩:=Jq (bs:=listed.toList) (by omega)
   have hil:i<listed.size:=by simpa using (zS.1 h1).1
   have hio:i<ops.size:=by omega
   have:i∈Region.ready .any ops listed:=mem_ready.2 ⟨hio,(vt hil).2 h1,ops[i],Array.getElem?_eq_getElem hio,fun e he hb=>Ct.2 (h2 _ (hback i ops[i] (by simp[hio]) e he hb))⟩
   rw[hr]at this
   cases this
  ·obtain⟨hio,h2,o,ho,hrd⟩:=mem_ready.1 hi
   have hil:i<listed.size:=by omega
   have hbi:=(vt hil).1 h2
   have hol:ops.toList[i]? =O o:=by simpa using ho
   have hRdy:Rdy listed.toList o:=fun e he hb=>Ct.1 (hrd e he hb)
   obtain⟨c,hci⟩:∃c,cs[i]? =O c:=⟨_,zl (by omega)⟩
   have fact:=hf i o c hol hci
   obtain⟨s1,s2,s3,s4⟩:=US (cs:=cs) (bs:=listed.toList) (i:=i) (c:=c) f0 R0 (by rw[hlen,<-hs];simp) hci hbi
    (fun j d hji hd hbj=>(hcf i j d c hji hd hci).resolve_right fun h=>by
     have:=h listed.toList hcl (fun o' ho'=>by rw[hol]at ho';cases ho';exact hRdy)
     rw[hbj]at this;cases this)
    (fun j d hij hd hbj=>((hcf j i c d hij hci hd).resolve_right fun h=>by
     have hjo:j<ops.size:=by have:=(zS.1 hd).1;omega
     have:=h listed.toList hcl (fun o' ho'=>hcl j o' ho' hbj)
     rw[hbi]at this;cases this).symm)
   have eset:(listed.setIfInBounds i wE).toList=listed.toList.set i wE:=Array.toList_setIfInBounds ..
   have hcl':Co ops.toList (listed.toList.set i wE):=fun j o' ho' hbj e he hb=>by
    have hmono':∀k,listed.toList[k]? =O wE->(listed.toList.set i wE)[k]? =O wE:=fun k hk=>by
     rw[List.getElem?_set]
     split
     ·rename_i hik;rw[if_pos (by simpa using hil)]
     ·exact hk
    by_cases hij:i=j
    ·subst hij
     rw[hol]at ho'
     cases ho'
     exact hmono' _ (hRdy e he hb)
    ·rw[List.getElem?_set_ne hij]at hbj
     exact hmono' _ (hcl j o' ho' hbj e he hb)
   have hpn:∀x,(x<nx0\/∃j:Nat,listed.toList[j]? =O wE/\g j<=x/\x<g (j+1))->¬(g i<=x/\x<g (i+1)):=fun x hx hr=>by
    rcases hx with hx|⟨j,hj,hj2,hj3⟩
    ·have:=hmono 0 i (xj _) (by omega);omega
    ·have hne:j≠i:=fun e=>by rw[e,hbi]at hj;cases hj
     have hjl:j<ops.size:=by
      have:j<listed.toList.length:=(zS.1 hj).1
      have h3:listed.toList.length=listed.size:=by simp
      omega
     by_cases hlt:j<i
     ·have:=hmono (j+1) i (by omega) (by omega);omega
     ·have:=hmono (i+1) j (by omega) (by omega);omega
   have hweak:∀x,((x<nx0\/∃j:Nat,listed.toList[j]? =O wE/\g j<=x/\x<g (j+1))\/(g i<=x/\x<g (i+1)))->(x<nx0\/∃j:Nat,(listed.toList.set i wE)[j]? =O wE/\g j<=x/\x<g (j+1)):=fun x hx=>by
    rcases hx with (hx|⟨j,hj,hj2⟩)|hx
    ·exact .inl hx
    ·refine .inr ⟨j,?_,hj2⟩
     rw[List.getElem?_set]
     split
     ·rw[if_pos (by simpa using hil)]
     ·exact hj
    ·refine .inr ⟨i,?_,hx⟩
     rw[List.getElem?_set_self (by simpa using hil)]
   have cont:∀a' w',a'.defers=ds->MtS C n (fun x=>(x<nx0\/∃j:Nat,listed.toList[j]? =O wE/\g j<=x/\x<g (j+1))\/(g i<=x/\x<g (i+1))) (c.F (fL cs listed.toList f0)) (c.R (gj cs listed.toList R0)) a' w'->wpAny P .any ops Q fuel (listed.setIfInBounds i wE) a' w':=fun a' w' hda' hm'=>by
    refine ih (listed.setIfInBounds i wE) a' w' (by simp[hs]) ?_ (by rw[eset];exact hcl') hda' ?_
    ·rw[eset]
     have:=Jv hbi
     omega
    ·rw[eset,<-s3]
     obtain⟨E,ρ,q1,q2,q3,q5,q4⟩:=hm'.perm s4
     exact⟨E,ρ,q1,fun q hq=>(q2 q hq).mono hweak,q3.mono hweak,q5,q4⟩
   have hgate:∀wn,CV ops o (fL (cs.take i) (zj i wE) f0) wn->Region.wanted o (yielded ops a.tmps)=wn:=fun wn hg=>by
    unfold CV at hg
    cases hgd:o.guard with
    |none=>
     rw[hgd]at hg
     simp only at hg
     rw[hg]
     unfold Region.wanted
     rw[hgd]
    |some jw=>
     obtain⟨j,want⟩:=jw
     rw[hgd]at hg
     obtain⟨t,hj,hg⟩:=hg
     have hts:t∈c.sl:=by
      rw[fact.sl]
      unfold cv ae0
      rw[hgd]
      simp only[hj]
      exact yA _ (zD.2 rfl)
     obtain⟨E,ρ,q1,_,_,_,q4⟩:=hm
     obtain⟨w1,w2⟩:=Ed (ρ:=ρ) hgd hj (E:=E)
     rcases hg with ⟨b,hb,hw⟩|⟨vs,hb,hw⟩
     ·rw[hw]
      exact oE.spec q4.slots (w1 b (q1 _ _ (by rw[s1 t hts];exact hb)))
     ·rw[hw]
      exact oE.spec q4.slots (w2 vs (q1 _ _ (by rw[s1 t hts];exact hb)))
   unfold wpOp
   simp only[ho]
   rcases fact.run with ⟨hg,hv,hef⟩|⟨hg,hy⟩
   ·rw[if_neg (by rw[hgate _ hg];exact Bool.false_ne_true)]
    obtain⟨E,ρ,q1,q2,q3,q5,q4⟩:=hm
    have hR:c.R (gj cs listed.toList R0)=gj cs listed.toList R0:=by unfold Rc.R;rw[hef]
    refine cont _ _ (by rw[<-hda];cases o.dst<;>rfl) ?_
    rw[hR]
    cases hdo:o.dst with
    |none=>exact⟨E,ρ,fun t d ht=>q1 t d (by unfold Rc.F at ht;rw[fact.dst,hdo]at ht;simpa using ht),fun q hq=>(q2 q hq).mono fun _ h=> .inl h,q3.mono fun _ h=> .inl h,q5,q4⟩
    |some t=>
     refine⟨(t, .lit undef)::E,ρ,fun s d hsd=> ?_,fun q hq=> ?_,q3.mono fun _ h=> .inl h,q5,?_⟩
     ·unfold Rc.F at hsd
      rw[fact.dst,hdo,hv]at hsd
      by_cases hts:t=s
      ·subst hts
       rw[if_pos rfl]at hsd
       cases hsd
       exact Env.dN _ _ _
      ·rw[if_neg (fun e=>hts (zB.inj e))]at hsd
       rw[Env.cV _ _ hts]
       exact q1 s d hsd
     ·rcases zu.1 hq with rfl|hq
      ·exact .lit _
      ·exact(q2 q hq).mono fun _ h=> .inl h
     ·have hdn:=fact.dn
      rw[hdo]at hdn
      have:=q4.put (av:= .lit undef) (v:=undef) hdn (.lit _)
      show sM C.C n ((t,bP.sub ρ (.lit undef))::E.sub ρ) _ _ _
      rw[bE]
      exact this
   ·rw[if_pos (hgate _ hg)]
    refine .inl ?_
    have hle:tU (fL cs listed.toList f0) c.sl=tU (fL (cs.take i) (zj i wE) f0) c.sl:=Lh s1
    obtain⟨E,ρ,q1,q2,q3,q5,q4⟩:=hm
    have hids:=fact.ids (fun x=>x<nx0\/∃j:Nat,listed.toList[j]? =O wE/\g j<=x/\x<g (j+1)) (fun t ht d hd=>by
     rw[<-s1 t ht]at hd
     exact q2 _ (Env.get_mem (q1 t d hd))) (by rw[<-s2];exact fun q hq=>q3 q (zW.1 hq).1)
    exact ah3 (nx:=g i) (nx':=g (i+1)) (by have:=hmono 0 i (xj _) (by omega);omega) ⟨E,ρ,q1,q2,q3,q5,q4⟩ fact.dst fact.dn fact.wr (by rw[hle,s2];exact hy) hpn fact.lv (by rw[s2];exact fact.lin) fact.lo hids.1 hids.2 fun a' w' hd' hm'=>cont a' w' (hd'.trans hda) hm'
theorem Xj{α:Type}{r:α}{F:aI}{C:Cg}{s:St}{a:Act}{w:World}{id:Nat}{k:St->Option α}(hF:gF P F)(hN:cY F)(h:Ec P F n ops s k=O r)(hm:Mt C n s a w):
  (Code.region id ops wE).wp P (fun e a' w'=>e= .normal/\a'.defers=a.defers/\∃s',k s'=O r/\Mt C n s' a' w') a w:=by
 unfold Ec at h
 split at h
 case h_2=>cases h
 rename_i hb
 simp only[ze]at hb
 split at h
 case h_2=>cases h
 rename_i ps hps
 obtain⟨E,hh,hE,hR,ρ,hag,hsim⟩:=hm
 obtain⟨cs,s',f',q1,q2,q3⟩:=NA hF hN ops.toList (f:=cn s.E) h (fun t d h=>h) (fun t d hd=>Env.Te (x:= .tmp t) hE (hh t d hd)) hR
 rw[z8]at q1
 split at q1
 case h_2=>cases q1
 rename_i hpo
 obtain⟨l1,l2,l3,g,g0,g1,g2,g3⟩:=q2.idx
 have hN:ops.toList.length=ops.size:=by simp
 refine wp_region_any hb.1 ?_
 refine ajk (C:=C) (cs:=cs) (f0:=cn s.E) (R0:=s.R) (nx0:=s.nx) (g:=g) (ds:=a.defers) (by rw[l1,hN]) g0 hag.2 (by rw[<-hN];exact g2) g3 (fun i j c d hji hc hd=>aeB hps hpo (fun i c hc=>by
   obtain⟨o,ho⟩:∃o,ops.toList[i]? =O o:=⟨_,zl (by rw[<-l1];exact(zS.1 hc).1)⟩
   have:=g3 i o c ho hc
   exact⟨o,ho,this.dst,this.sl,this.ef,this.wr⟩) hji hc hd) (fun i o ho e he hbe=>by have:=KG hb.2 i o ho e he hbe;omega) (fun a' w' hd' hm'=> ?_) ops.size (Array.replicate ops.size wD) a _ (by simp) (by rw[Array.toList_replicate,JK]) (fun i o _ hbi=> ?_) rfl ?_
 ·refine⟨rfl,hd',s',q1,?_⟩
  rw[<-l2,<-l3]at hm'
  obtain⟨E',ρ',p1,p2,p3,p5,p4⟩:=hm'
  rw[hN]at g1
  rw[g1]at p2 p3
  exact⟨E',fun t d hd=>p1 t d (q3 t d hd),p2,p3.p9,ρ',⟨p5,by have:=WV (N:=ops.toList.length) g2 0 ops.toList.length (xj _) (zx _);rw[g0,hN,g1]at this;have h7:=hag.2;omega⟩,p4⟩
 ·rw[Array.toList_replicate,wo]at hbi
  split at hbi<;>cases hbi
 ·have nF:∀(cs:List Rc) (n:Nat) (f:Fr),fL cs (zj n wD) f=f:=fun cs=>by
   induction cs with
   |nil=>intro n f;rfl
   |cons d cs ih=>
    intro n f
    cases n with
    |zero=>rfl
    |succ n=>rw[yF];exact ih n f
  have nR:∀(cs:List Rc) (n:Nat) (R:aP),gj cs (zj n wD) R=R:=fun cs=>by
   induction cs with
   |nil=>intro n f;rfl
   |cons d cs ih=>
    intro n f
    cases n with
    |zero=>rfl
    |succ n=>rw[yF];exact ih n f
  rw[Array.toList_replicate,nF,nR]
  exact⟨E,ρ,hh,fun q hq=>fR.mono (hE q hq) fun i hi=> .inl hi,(aP.fR.mono hR.lts fun i hi=> .inl hi),hag.1,hsim.drew⟩
end
end Go.Iv
end
noncomputable section
namespace Go.Iv
variable [U:qT] [L:mQ]
open Go Go.RowKit
section
variable {α:Type} {r:α} {P:Program} {F:aI} {C:Cg} {n:Nat}
def wT(P:Program)(F:aI)(n:Nat)(_:Nat)(ops:Array Oper)(draw:Bool)(s:St)(k:fC α):Option α:=match draw with
 |false=>dL P F n ops ops.toList s (k .normal)
 |true=>Ec P F n ops s (k .normal)
def exec(P:Program)(F:aI)(n:Nat)(fuel:Nat)(c:Code):St->fC α->Option α:=
 Code.rec WO (wT P F n) (fun _ _=>amM) (fun c _ _=>ahd c) (fun id _=>aec id) (fun _=>Vi fuel) (fun _ _ _ _ _ _=>DB) VH (fun _ _=>DB) (fun _=>DB) (fun _=>DB) aeX (fun _=>DB) c
def pe(P:Program)(F:aI)(fuel:Nat)(f:FuncId)(args:List AV)(R:aP)(nx:Nat)(k:AV->aP->Nat->Option α):Option α:=match P.funcs[f]? with
 |some fn=>match fn.body with
  |some c=>match ya args.length fn.ntmps&& !(fn.name=="runtime.NumGoroutine")with
   |true=>exec (α:=α) P F fn.ntmps fuel c ⟨KF 0 args .e,R,nx⟩ fun e s=>match e with
    | .normal=>(DI P s fn.results.toList).bind fun ds=>k (fH ds) (nD s.R nx (fH ds)) s.nx
    | .ret=>(DI P s fn.results.toList).bind fun ds=>k (fH ds) (nD s.R nx (fH ds)) s.nx
    |_=>wC
   |false=>wC
  |none=>wC
 |none=>wC
def BO(P:Program)(F0:aI)(has:FuncId->Bool)(fuel:Nat):Nat->aI
 |0=>F0
 |m+1=>fun α f args R nx k=>match has f with
  |true=>F0 α f args R nx k
  |false=>pe P (BO P F0 has fuel m) fuel f args R nx k
def Ends(P:Program)(C:Cg)(n:Nat)(c:Code)(k:fC α)(r:α)(a:Act)(w:World):Prop:=c.wp P (fun e a' w'=>∃s',k e s'=O r/\Mt C n s' a' w') a w
def RJ(P:Program)(C:Cg)(n:Nat)(c:Code)(x:St->fC α->Option α):Prop:=∀(r:α) (s:St) (k:fC α) (a:Act) (w:World),x s k=O r->Mt C n s a w->Ends P C n c k r a w
theorem Ih{c:Operand}{s:St}{x y:St->Option α}(h:o7 c s x y=O r){a:Act}{w:World}(hm:Mt C n s a w):∃(b:Bool) (s':St),a.eval c= .bool b/\Mt C n s' a w/\(match b with|wE=>x s'|wD=>y s')=O r:=by
 unfold o7 at h
 split at h
 ·rename_i t
  split at h
  case h_2=>cases h
  rename_i b hb
  have hev:a.eval (.tmp t)= .bool b:=by
   obtain⟨E,hh,_,_,ρ,_,hs⟩:=hm
   refine PJ hs ?_
   have h1:=hh t _ hb
   show Env.get (E.sub ρ) t=_
   rw[Env.dP,h1,yg,bE]
  refine⟨b,s.eM t b,hev,hm.eM hb,?_⟩
  unfold UP at h
  cases b<;>exact h
 ·exact⟨wE,s,rfl,hm,h⟩
 ·exact⟨wD,s,rfl,hm,h⟩
 ·cases h
theorem CT(hF:gF P F)(hN:cY F)(id:Nat)(ops:Array Oper)(draw:Bool):RJ (α:=α) P C n (.region id ops draw) (wT P F n id ops draw):=fun r s k a w h hm=>by
 unfold wT at h
 cases draw with
 |false=>
  refine wp_mono (wp_region_lit (B9 hF _ h hm)) fun e a' w' ⟨he,_,s',h1,h2⟩=> ?_
  subst he
  exact⟨s',h1,h2⟩
 |true=>
  refine wp_mono (Xj hF hN h hm) fun e a' w' ⟨he,_,s',h1,h2⟩=> ?_
  subst he
  exact⟨s',h1,h2⟩
theorem D0{c:Code}{x:St->fC α->Option α}(hx:RJ P C n c x)(fuel:Nat):RJ P C n (.loop c) (Vi fuel x):=fun r s k a w h hm=>by
 have key:∀(m:Nat) (s:St) (a:Act) (w:World),Bu x k m s=O r->Mt C n s a w->c.wp P (Exit.then (InL P c fun e a' w'=>∃s',k e s'=O r/\Mt C n s' a' w') fun e a' w'=>∃s',k e s'=O r/\Mt C n s' a' w') a w:=by
  intro m
  induction m with
  |zero=>intro s a w h;cases h
  |succ m ih=>
   intro s a w h hm
   refine wp_mono (hx r s _ a w h hm) fun e a' w' ⟨s',h1,h2⟩=> ?_
   cases e with
   |normal=>exact J0 (ih s' a' w' h1 h2)
   |_=>exact⟨s',h1,h2⟩
 exact D4 (key fuel s a w h hm)
theorem aau(hF:gF P F)(hN:cY F)(fuel:Nat)(c:Code):RJ (α:=α) P C n c (exec P F n fuel c):=by
 induction c with
 |skip=>exact fun r s k a w h hm=>wp_skip ⟨s,h,hm⟩
 |region id ops draw=>exact CT hF hN id ops draw
 |seq x y hx hy=>
  intro r s k a w h hm
  refine wp_seq (wp_mono (hx r s _ a w h hm) fun e a' w' ⟨s',h1,h2⟩=> ?_)
  cases e with
  |normal=>exact hy r s' k a' w' h1 h2
  |_=>exact⟨s',h1,h2⟩
 |cond c x y hx hy=>
  intro r s k a w h hm
  obtain⟨b,s',he,hm',h'⟩:=Ih (show o7 c s _ _=O r from h) hm
  cases b with
  |true=>exact wp_cond_true he (hx r s' k a w h' hm')
  |false=>exact wp_cond_false he (hy r s' k a w h' hm')
 |block id x hx=>
  intro r s k a w h hm
  refine wp_block (wp_mono (hx r s _ a w h hm) fun e a' w' ⟨s',h1,h2⟩=> ?_)
  cases e with
  |exit id'=>
   simp only[rB]at h1
   simp only[Exit.inBlock]
   split
   ·rename_i he
    subst he
    have hb:zb id' id'=wE:=Nat.beq_refl _
    simp only[hb]at h1
    exact⟨s',h1,h2⟩
   ·rename_i he
    have hb:zb id' id=wD:=by
     cases hb:zb id' id with
     |false=>rfl
     |true=>exact absurd (yX hb) he
    simp only[hb]at h1
    exact⟨s',h1,h2⟩
  |_=>exact⟨s',h1,h2⟩
 |loop c hc=>exact D0 hc fuel
 |exit i=>exact fun r s k a w h hm=>wp_exit ⟨s,h,hm⟩
 |ret=>exact fun r s k a w h hm=>wp_ret ⟨s,h,hm⟩
 |_=>exact fun r s k a w h hm=>by cases h
theorem vY(nx:Nat)(ids:List Nat):∀R:aP,List.Sublist (OQ nx ids R) R
 |[]=> .slnil
 |p::R=>by
  have ih:=vY nx ids R
  show List.Sublist (Bool.rec (Bool.rec (OQ nx ids R) (p::OQ nx ids R) (cL p.1 ids)) (p::R) (zq p.1 nx)) (p::R)
  cases zq p.1 nx with
  |true=>exact List.Sublist.refl _
  |false=>
   cases cL p.1 ids with
   |true=>exact ih.cons_cons p
   |false=>exact ih.cons p
theorem aav{s:St}{E:Env}{ρ:Gh}{rv:ResultVar}{d:AV}(h:VL P s rv=O d)(hh:rY s.E E):Bn P (E.sub ρ) (aP.res ρ s.R) rv (d.sub ρ):=by
 unfold VL at h
 split at h
 ·rename_i t
  refine .tmp ?_
  rw[Env.dP,hh t d h];rfl
 ·rename_i t ty
  split at h
  case h_2=>cases h
  rename_i id hp
  have hp':Env.get (E.sub ρ) t=O (.lit (.pointer (O ⟨ρ.b id,0,wC⟩))):=by
   rw[Env.dP,hh t _ hp,yg,bP.sub]
  split at h
  case h_2=>cases h
  rename_i T cs hr
  obtain⟨i,hi,_⟩:=dA hr
  have hres:=gv (ρ:=ρ) hi
  split at h
  ·rename_i h1
   refine .aqP i hp' hres (AN h1) ?_
   rw[zX,h];rfl
  ·split at h
   case h_2=>cases h
   rename_i m hm
   split at h
   case h_2=>cases h
   rename_i hl
   cases h
   rw[dQ]
   refine .aoN i hp' hres (Ku hm) ?_
   rw[zA];exact fB hl
theorem Xh{s:St}{nx:Nat}{rv:ResultVar}{d:AV}(h:VL P s rv=O d){E:Env}(hh:rY s.E E)(hE:E.cj nx)(hR:aP.cj nx s.R):cj nx d:=by
 unfold VL at h
 split at h
 ·rename_i t
  exact hE _ (Env.get_mem (hh t d h))
 ·split at h
  case h_2=>cases h
  split at h
  case h_2=>cases h
  rename_i id _ T cs hr
  have hL:=Ck hr hR
  split at h
  ·exact hL.2 _ (List.mem_of_getElem? h)
  ·split at h
   case h_2=>cases h
   split at h
   case h_2=>cases h
   cases h
   exact .agg _ hL.2
theorem Fq{s:St}{E:Env}{ρ:Gh}(hh:rY s.E E){A:Nat->Prop}{w:World}{tmps:Array Value}(hd:Hd A (aP.res ρ s.R) w)(hs:kj A w (E.sub ρ) tmps):∀{l:List ResultVar} {ds:List AV},DI P s l=O ds->
  ∃us,(l.mapM (sD tmps)).run P w= .ok us w/\bq A w (ds.map (bP.sub ρ)) us
 |[],ds,h=>by cases h;exact⟨[],rfl,bq.nil⟩
 |x::l,ds,h=>by
  unfold DI at h
  split at h
  case h_2=>cases h
  rename_i d hx
  obtain⟨ds',h1,h2⟩:=zf.1 h
  subst h2
  obtain⟨v,q1,q2⟩:=aav (ρ:=ρ) hx hh A w tmps hd hs
  obtain⟨us,q3,q4⟩:=Fq hh hd hs h1
  refine⟨v::us,?_,bq.cons q2 q4⟩
  rw[List.mapM_cons]
  simp[q1,q3]
theorem Il{s:St}{nx:Nat}{E:Env}(hh:rY s.E E)(hE:E.cj nx)(hR:aP.cj nx s.R):∀{l:List ResultVar} {ds:List AV},DI P s l=O ds->∀d∈ds,cj nx d
 |[],ds,h=>by cases h;simp
 |x::l,ds,h=>by
  unfold DI at h
  split at h
  case h_2=>cases h
  rename_i d hx
  obtain⟨ds',h1,h2⟩:=zf.1 h
  subst h2
  intro d' hd'
  rcases zu.1 hd' with rfl|hd'
  ·exact Xh hx hh hE hR
  ·exact Il hh hE hR h1 d' hd'
theorem Uu{nx:Nat}{ds:List AV}(h:∀d∈ds,cj nx d):cj nx (fH ds):=by
 unfold fH
 split
 ·exact h _ (by simp)
 ·exact .iA _ h
theorem JX{ρ:Gh}{A:Nat->Prop}{w:World}{ds:List AV}{us:List Value}(h:bq A w (ds.map (bP.sub ρ)) us):Rel A w ((fH ds).sub ρ) (if h:us.toArray.size=1 then us.toArray[0]else .tuple us.toArray):=by
 unfold fH
 split
 ·rename_i d
  obtain⟨h1,h2⟩:=h
  match us,h1,h2 with
  |[u],_,h2=>exact h2 0 _ _ rfl rfl
 ·rename_i hn
  have hl:us.length=ds.length:=by have:=h.1;simpa using this
  rw[dif_neg (by
   intro e
   match ds,hn with
   |[],_=>rw[yZ,hl]at e;cases e
   |[d],hn=>exact hn d rfl
   |_::_::_,_=>rw[yZ,hl]at e;simp at e),jC]
  exact Rel.DJ h
theorem vD:∀(l:List AV) (i:Nat) (T:ET) (E:Env),rY T E->(∀t d,cn T t=O d->t<i)->rY (KF i l T) (dM i l++E)
 |[],_,_,_,h,_=>h
 |d::l,i,T,E,h,hT=>by
  have h2:∀t d',cn (kW i d T) t=O d'->t<i+1:=fun t d' ht=>by
   rcases ou ht with ⟨rfl,_⟩|⟨_,q⟩
   ·omega
   ·have:=hT t d' q;omega
  have:=vD l (i+1) (kW i d T) ((i,d)::E) (h.put i d) h2
  intro t v ht
  have h1:Env.get (dM (i+1) l++(i,d)::E) t=O v:=this t v ht
  show Env.get ((i,d)::(dM (i+1) l++E)) t=O v
  have key:∀(l:List AV) (j:Nat),i<j->Env.get (dM j l++(i,d)::E) t=Env.get ((i,d)::(dM j l++E)) t:=fun l=>by
   induction l with
   |nil=>intro j _;rfl
   |cons u l ih=>
    intro j hj
    show Env.get ((j,u)::(dM (j+1) l++(i,d)::E)) t=Env.get ((i,d)::(j,u)::(dM (j+1) l++E)) t
    by_cases h1:j=t
    ·subst h1
     rw[Env.dN,Env.cV _ _ (by omega),Env.dN]
    ·rw[Env.cV _ _ h1,ih (j+1) (by omega)]
     by_cases h2:i=t
     ·subst h2;rw[Env.dN,Env.dN]
     ·rw[Env.cV _ _ h2,Env.cV _ _ h2,Env.cV _ _ h1]
  rw[<-key l (i+1) (zn i)]
  exact h1
theorem oW(ρ:Gh):∀(l:List AV) (i:Nat),(dM i l).sub ρ=dM i (l.map (bP.sub ρ))
 |[],_=>rfl
 |d::l,i=>by show (i,d.sub ρ)::(dM (i+1) l).sub ρ=_;rw[oW ρ l];rfl
theorem n7:∀{l:List AV} {i:Nat} {q:Nat×AV},q∈dM i l->q.2∈l
 |d::l,i,q,h=>by
  rcases zu.1 h with rfl|h
  ·exact zg
  ·exact zC _ (n7 h)
theorem WI{fn:Func}{C:Cx}{ρ:Gh}{nx:Nat}{s:St}{a:Act}{w:World}{k:AV->aP->Nat->Option α}{e:Exit}(he:e= .normal\/e= .ret)(h:((DI P s fn.results.toList).bind fun ds=>k (fH ds) (nD s.R nx (fH ds)) s.nx)=O r)(hm:Mt ⟨C,ρ,nx⟩ n s a w):
  ∃E' σ',sM C n E' σ' a w/\YL P C n fn (fun a s=>∃d R' nx',k d R' nx'=O r/\nx<=nx'/\cj nx' d/\aP.cj nx' R'/\∃ρ',p6 nx ρ ρ'/\a=d.sub ρ'/\List.Perm s (aP.res ρ' R')) e E' σ':=by
 obtain⟨E,hh,hE,hR,ρ',⟨hag,hnx⟩,hsim⟩:=hm
 obtain⟨ds,h1,h2⟩:=zi.1 h
 have hsub:List.Sublist (nD s.R nx (fH ds)) s.R:=vY _ _ _
 refine⟨_,_,hsim,Vk (σ':=aP.res ρ' (nD s.R nx (fH ds))) (av:=(fH ds).sub ρ') he (hsub.map _) ⟨_,_,_,h2,hnx,Uu (Il hh hE hR h1),fun q hq=>hR q (hsub.subset hq),ρ',hag,rfl,List.Perm.refl _⟩ fun A w' tmps hd hs=> ?_⟩
 obtain⟨us,q1,q2⟩:=Fq hh hd hs h1
 refine⟨_,?_,JX q2⟩
 show (do let vs <-fn.results.mapM (sD tmps);pure (if h:vs.size=1 then vs[0]else .tuple vs):Sem Value).run P w'=_
 have e1:fn.results=fn.results.toList.toArray:=by simp
 rw[e1,List.mapM_toArray]
 simp[q1]
section
variable {β:Type}
theorem Iy{ops:Array Oper}{o:Oper}{s:St}{y n:St->Option α}(D:α->Option β):(gate ops o s y n).bind D=gate ops o s (fun s=>(y s).bind D) (fun s=>(n s).bind D):=by
 unfold gate
 repeat' split
 all_goals first|rfl|simp_all
theorem Rh{o:Op}{s:St}{f:St->Option α}(D:α->Option β):(w9 o s f).bind D=w9 o s (fun s=>(f s).bind D):=by
 unfold w9
 repeat' split
 all_goals first|rfl|simp_all
theorem acD(hN:cY F){o:Oper}{ih:St->(St->Option α)->Option α}{ih':St->(St->Option β)->Option β}{k:St->Option α}{D:α->Option β}(hi:∀s k,(ih s k).bind D=ih' s (fun s=>(k s).bind D))(s:St):(rDo P F o ih k s).bind D=rDo P F o ih' (fun s=>(k s).bind D) s:=by
 unfold rDo
 generalize s.jj (gV s.E o.op)=s1
 obtain⟨E,R,nx⟩:=s1
 show (l6 o.op P F (Du E) (fh R) R nx (Fa o.dst E R nx ih k)).bind D=l6 o.op P F (Du E) (fh R) R nx (Fa o.dst E R nx ih' fun s=>(k s).bind D)
 rw[vW D hN]
 congr 1
 funext e
 cases e<;>exact hi ..
theorem pQ(hN:cY F){ops:Array Oper}(D:α->Option β):∀(l:List Oper) (s:St) (k:St->Option α),(dL P F n ops l s k).bind D=dL P F n ops l s (fun s=>(k s).bind D)
 |[],s,k=>rfl
 |o::l,s,k=>by
  show (I5 P F n ops o (dL P F n ops l) s k).bind D=I5 P F n ops o (dL P F n ops l) s (fun s=>(k s).bind D)
  unfold I5
  split
  ·rw[Iy]
   congr 1
   ·funext s1
    obtain⟨E,R,nx⟩:=s1
    show (opF o.op P F o.dst E R nx (dL P F n ops l) k).bind D=opF o.op P F o.dst E R nx (dL P F n ops l) (fun s=>(k s).bind D)
    have e1:=GC P F o ⟨E,R,nx⟩ (dL (α:=α) P F n ops l) k
    have e2:=GC P F o ⟨E,R,nx⟩ (dL (α:=β) P F n ops l) (fun s=>(k s).bind D)
    dsimp only at e1 e2
    rw[e1,e2,Rh]
    congr 1
    funext s2
    exact acD hN (fun s k=>pQ hN D l s k) s2
   ·funext s1
    unfold rNo
    split<;>exact pQ hN D l _ _
  ·rfl
theorem FR(hN:cY F){ops:Array Oper}{ps:List (Nat×Nat)}(D:α->Option β):∀(l:List Oper) (cs:List Rc) (s:St) (k:List Rc->St->Option α),(Ta P F n ops ps l cs s k).bind D=Ta P F n ops ps l cs s (fun cs s=>(k cs s).bind D)
 |[],cs,s,k=>rfl
 |o::l,cs,s,k=>by
  show (RQ P F n ops ps o (Ta P F n ops ps l) cs s k).bind D=RQ P F n ops ps o (Ta P F n ops ps l) cs s (fun cs s=>(k cs s).bind D)
  unfold RQ
  split
  ·rw[Iy]
   congr 1
   ·funext s1
    obtain⟨E,R,nx⟩:=s1
    show (Er P F o (cv ops o) E (inQ (n6 ops o E R) R) nx (dK ops ps o cs (n6 ops o E R) E R (inQ (n6 ops o E R) R) nx (Ta P F n ops ps l) k)).bind D=Er P F o (cv ops o) E (inQ (n6 ops o E R) R) nx (dK ops ps o cs (n6 ops o E R) E R (inQ (n6 ops o E R) R) nx (Ta P F n ops ps l) (fun cs s=>(k cs s).bind D))
    rw[<-C9 hN,<-C9 hN,zR]
    congr 1
    funext x
    unfold dK
    split
    ·exact FR hN D l _ _ _
    ·rfl
   ·funext s1
    exact FR hN D l _ _ _
  ·rfl
theorem S2(hN:cY F)(id:Nat)(ops:Array Oper)(draw:Bool)(D:α->Option β)(s:St)(k:fC α):(wT P F n id ops draw s k).bind D=wT P F n id ops draw s (fun e s=>(k e s).bind D):=by
 unfold wT
 cases draw with
 |false=>exact pQ hN D _ _ _
 |true=>
  show (Ec P F n ops s (k .normal)).bind D=Ec P F n ops s (fun s=>(k .normal s).bind D)
  unfold Ec
  split
  ·split
   ·rw[FR hN D]
    congr 1
    funext cs s'
    split<;>rfl
   ·rfl
  ·rfl
theorem SF{c:Operand}{s:St}{x y:St->Option α}(D:α->Option β):(o7 c s x y).bind D=o7 c s (fun s=>(x s).bind D) (fun s=>(y s).bind D):=by
 unfold o7
 repeat' split
 all_goals first|rfl|(unfold UP;split<;>rfl)|simp_all
theorem HZ{x:St->fC α->Option α}{x':St->fC β->Option β}{D:α->Option β}(hx:∀s k,(x s k).bind D=x' s (fun e s=>(k e s).bind D))(k:fC α):∀(m:Nat) (s:St),(Bu x k m s).bind D=Bu x' (fun e s=>(k e s).bind D) m s
 |0,s=>rfl
 |m+1,s=>by
  show (x s (KB k (Bu x k m))).bind D=x' s (KB (fun e s=>(k e s).bind D) (Bu x' (fun e s=>(k e s).bind D) m))
  rw[hx]
  congr 1
  funext e s'
  cases e<;>first|exact HZ hx k m s'|rfl
theorem Tg(hN:cY F)(fuel:Nat)(D:α->Option β)(c:Code):∀(s:St) (k:fC α),(exec P F n fuel c s k).bind D=exec P F n fuel c s (fun e s=>(k e s).bind D):=by
 induction c with
 |region id ops draw=>exact S2 hN id ops draw D
 |seq x y hx hy=>
  intro s k
  show (exec P F n fuel x s (YK (exec P F n fuel y) k)).bind D=exec P F n fuel x s (YK (exec P F n fuel y) (fun e s=>(k e s).bind D))
  rw[hx]
  congr 1
  funext e s'
  cases e<;>first|exact hy s' k|rfl
 |cond c x y hx hy=>
  intro s k
  show (o7 c s (fun s=>exec P F n fuel x s k) (fun s=>exec P F n fuel y s k)).bind D=o7 c s (fun s=>exec P F n fuel x s _) (fun s=>exec P F n fuel y s _)
  rw[SF]
  congr 1
  ·funext s;exact hx s k
  ·funext s;exact hy s k
 |block id x hx=>
  intro s k
  show (exec P F n fuel x s (rB id k)).bind D=exec P F n fuel x s (rB id (fun e s=>(k e s).bind D))
  rw[hx]
  congr 1
  funext e s'
  cases e<;>first|rfl|(simp only[rB];split<;>rfl)
 |loop c hc=>exact fun s k=>HZ hc k fuel s
 |_=>exact fun s k=>rfl
theorem Rz(hN:cY F)(fuel:Nat):cY (fun α=>pe (α:=α) P F fuel):=fun α β f args R nx k D=>by
 show (pe P F fuel f args R nx k).bind D=pe P F fuel f args R nx _
 unfold pe
 split
 ·split
  ·split
   ·rw[Tg hN]
    congr 1
    funext e s
    cases e<;>first|rfl|exact zR ..
   ·rfl
  ·rfl
 ·rfl
theorem Eg{F0:aI}{has:FuncId->Bool}(hN:cY F0)(fuel:Nat):∀m:Nat,cY (BO P F0 has fuel m)
 |0=>hN
 |m+1=>fun α β f args R nx k D=>by
  show (match has f with|wE=>F0 α f args R nx k|wD=>pe P (BO P F0 has fuel m) fuel f args R nx k).bind D=_
  show _=(match has f with|wE=>F0 β f args R nx _|wD=>pe P (BO P F0 has fuel m) fuel f args R nx _)
  cases has f with
  |true=>exact hN ..
  |false=>exact Rz (Eg hN fuel m) fuel α β f args R nx k D
end
theorem VA(hF:gF P F)(hN:cY F)(fuel:Nat):gF P (fun α=>pe (α:=α) P F fuel):=fun α f args R nx k r h hargs hR=>by
 have h:pe P F fuel f args R nx k=O r:=h
 unfold pe at h
 split at h
 case h_2=>cases h
 rename_i fn hf
 split at h
 case h_2=>cases h
 rename_i c hb
 split at h
 case h_2=>cases h
 rename_i hc
 rw[ze]at hc
 obtain⟨hl,hnm⟩:=hc
 refine⟨⟨fn,hf,by simpa using hnm,by rw[hb];rfl⟩,fun ρ=>Fn.of hf hb rfl (by rw[zA];exact hl) fun C a w ha=> ?_⟩
 have hm:Mt ⟨C,ρ,nx⟩ fn.ntmps ⟨KF 0 args .e,R,nx⟩ a w:=by
  refine⟨dM 0 args,?_,fun q hq=>hargs _ (n7 hq),hR,ρ,⟨.refl _ _,zx _⟩,?_⟩
  ·have:=vD args 0 .e [] (fun t d ht=>by cases t<;>cases ht) (fun t d ht=>by cases t<;>cases ht)
   rwa [yd]at this
  ·rw[oW];exact ha
 refine wp_mono (aau hF hN fuel c r _ _ a w h hm) fun e a' w' ⟨s',h1,h2⟩=> ?_
 cases e with
 |normal=>exact WI (.inl rfl) h1 h2
 |ret=>exact WI (.inr rfl) h1 h2
 |_=>cases h1
theorem KC{F0:aI}{has:FuncId->Bool}(hF:gF P F0)(hN:cY F0)(fuel:Nat):∀m:Nat,gF P (BO P F0 has fuel m)
 |0=>hF
 |m+1=>fun α f args R nx k r h hargs hR=>by
  change (match has f with|wE=>F0 α f args R nx k|wD=>pe P (BO P F0 has fuel m) fuel f args R nx k)=O r at h
  split at h
  ·exact hF α f args R nx k r h hargs hR
  ·exact VA (KC hF hN fuel m) (Eg hN fuel m) fuel α f args R nx k r h hargs hR
end
end Go.Iv
end
noncomputable section
namespace Go.Iv
variable [U:qT] [L:mQ]
open Go Go.RowKit
def ZO:Nat->AV->Bool
 |_, .lit _=>wE
 |n+1, .agg cs=>cs.all (ZO n)
 |n+1, .iA cs=>cs.all (ZO n)
 |_,_=>wD
def DA:Nat->AV->Bool
 |_, .lit _=>wE
 |_, .sl _ _=>wE
 |_, .rp _ _=>wE
 |n+1, .agg cs=>cs.all (DA n)
 |n+1, .iA cs=>cs.all (DA n)
 |_,_=>wD
theorem jc:∀(n:Nat) {d:AV} {ρ:Gh},DA n d=wE->d.sub ρ=d
 |n,d,ρ,h=>by
  have hL:∀{m:Nat} {cs:List AV},m<n->cs.all (DA m)=wE->cs.map (bP.sub ρ)=cs:=fun{m cs} hm h=>by
   have:cs.map (bP.sub ρ)=cs.map id:=zQ fun c hc=>jc m (zm.1 h c hc)
   rw[this,List.map_id]
  cases n with
  |zero=>cases d<;>first|(cases h;done)|simp only[bP.sub]
  |succ n=>
   cases d<;>first|(cases h;done)|(simp only[bP.sub];done)|skip
   ·rw[dQ,hL (zn n) h]
   ·rw[jC,hL (zn n) h]
theorem TW{R:aP}{ρ:Gh}{A:Nat->Prop}{w:World}{v:Value}{id:Nat}(hd:Hd A (aP.res ρ R) w)(hr:Rel A w ((bP.own (cH:=U.cH) id).sub ρ) v):Rel (fun b=>A b\/b∈bh (aP.res ρ R)) w ((match fh R id with
  |some (.row t l)=>bP.sl t l
  |_=> .own id).sub ρ) v:=by
 have base:Rel (fun b=>A b\/b∈bh (aP.res ρ R)) w ((bP.own (cH:=U.cH) id).sub ρ) v:=hr.mono fun b _ hA=>⟨.inl hA,rfl⟩
 split
 ·rename_i t l hg
  obtain⟨i,hi,_⟩:=dA hg
  have hres:=gv (ρ:=ρ) hi
  have hm:=List.mem_of_getElem? hres
  rw[cX]at hr
  rw[fG]
  have hd1:Hd A [.row (ρ.v id) t l] w:=⟨fun r hr=>by
   rw[zD]at hr
   rw[hr]
   exact hd.1 _ hm,fun b hb=>hd.2 b (by
    obtain⟨r,h1,h2⟩:=bD.1 hb
    rw[zD]at h1
    rw[h1]at h2
    exact bD.2 ⟨_,hm,h2⟩)⟩
  refine(Vw.row 0 rfl A w v hd1 hr).mono fun b _ hA=>⟨hA.imp (fun h=>h) fun hx=> ?_,rfl⟩
  obtain⟨r,h1,h2⟩:=bD.1 hx
  rw[zD]at h1
  rw[h1]at h2
  exact bD.2 ⟨_,hm,h2⟩
 ·exact base
def cQ:aI:=fun _ _ _ _ _ _=>wC
theorem ahq{P:Program}:gF P cQ:=fun _ _ _ _ _ _ _ h=>by cases h
def X9{β:Type}(e:AV->Option β)(d:AV)(R:aP)(_:Nat):Option β:=match R with
 |[]=>e d
 |_=>wC
def P0{β:Type}(e:AV->Option β)(m:β->AV):Prop:=∀d x,e d=O x->d=m x/\DA 2 d=wE
theorem P0.b:P0 RO bP.b:=fun d x h=>by
 unfold RO at h
 split at h
 ·cases h;exact⟨rfl,rfl⟩
 ·cases h
theorem aic{P:Program}{F:aI}(hF:gF P F){f:FuncId}{args:List AV}{β:Type}{e:AV->Option β}{m:β->AV}{x:β}(he:P0 e m)(hc:args.all (DA 2)=wE)(hl:∀d∈args,cj 0 d)(h:F β f args [] 0 (X9 e)=O x):vq P f/\Fn P f args [] (fun a s=>a=m x/\s=[]):=by
 obtain⟨h1,h2⟩:=hF β f args [] 0 (X9 e) x h hl (fun q hq=>by cases hq)
 refine⟨h1,?_⟩
 have:=h2 ⟨fun _=>undef,fun _=>0⟩
 have ea:args.map (bP.sub ⟨fun _=>undef,fun _=>0⟩)=args:=by
  have:args.map (bP.sub ⟨fun _=>undef,fun _=>0⟩)=args.map id:=zQ fun c hcm=>jc 2 (zm.1 hc c hcm)
  rw[this,List.map_id]
 rw[ea]at this
 refine Fn.mono this fun a s ⟨d,R',nx',q1,_,_,_,ρ',_,q2,q3⟩=> ?_
 unfold X9 at q1
 split at q1
 ·obtain⟨q4,q5⟩:=he _ _ q1
  rw[q2,jc 2 q5,q4]
  exact⟨rfl,by simpa [aP.res]using q3⟩
 ·cases q1
theorem rF(d:AV):∀(m:Nat) (T:ET) (k s:Nat),k<2^m-1->cn (q9 d m T k) s=if k=s then O d else cn T s
 |0,T,k,s,h=>by simp at h
 |m+1,T,k,s,h=>by
  have hp:2^(m+1)=2*2^m:=by rw[Nat.pow_succ];omega
  rw[QV,Jx T s]
  by_cases hk:k=0
  ·rw[if_pos hk,mH]
   subst hk
   by_cases hs:s=0
   ·rw[if_pos hs,if_pos hs.symm]
   ·have h0:¬(0=s):=fun e=>hs e.symm
    rw[if_neg h0,if_neg hs]
    split<;>simp_all
  ·rw[if_neg hk]
   by_cases hk2:(k-1)%2=0
   ·rw[if_pos hk2,mH]
    by_cases hs:s=0
    ·rw[if_pos hs,if_pos hs,if_neg (by omega)]
    ·rw[if_neg hs,if_neg hs]
     by_cases hs2:(s-1)%2=0
     ·rw[if_pos hs2,if_pos hs2,rF d m T.l _ _ (by omega)]
      by_cases hks:k=s
      ·rw[if_pos hks,if_pos (by omega)]
      ·rw[if_neg hks,if_neg (by omega)]
     ·rw[if_neg hs2,if_neg hs2,if_neg (fun e=>hs2 (by rw[<-e];exact hk2))]
   ·rw[if_neg hk2,mH]
    by_cases hs:s=0
    ·rw[if_pos hs,if_pos hs,if_neg (by omega)]
    ·rw[if_neg hs,if_neg hs]
     by_cases hs2:(s-1)%2=0
     ·rw[if_pos hs2,if_pos hs2,if_neg (fun e=>hk2 (by rw[e];exact hs2))]
     ·rw[if_neg hs2,if_neg hs2,rF d m T.r _ _ (by omega)]
      by_cases hks:k=s
      ·rw[if_pos hks,if_pos (by omega)]
      ·rw[if_neg hks,if_neg (by omega)]
theorem vv{t s:Nat}{d:AV}{T:ET}(h:t<4095):cn (kW t d T) s=if t=s then O d else cn T s:=rF d 12 T t s h
def aV(F:aI)(f:FuncId):Prop:=∀args R nx d R' nx',F (AV×aP×Nat) f args R nx (fun d R nx=>O (d,R,nx))=O (d,R',nx')->R'=R
def Kl(fs:List Nat):Op->Bool
 | .move _=>wE
 | .assign _=>wE
 | .pick c _ _=>match c with
  | .tmp t=>zq t 4095
  |_=>wE
 | .binOp _ _ _ _ _=>wE
 | .unOp _ _ _=>wE
 | .fieldAddr _ _ _=>wE
 | .indexAddr _ _ _=>wE
 | .index _ _ _=>wE
 | .load _ _=>wE
 | .nilCheck _=>wE
 | .convert _ _ _=>wE
 | .extract _ _=>wE
 | .call c=>match c.callee with
  | .value (.func f)=>cL f fs&& !L.fz f
  | .builtin .len=>wE
  | .builtin .max=>wE
  | .builtin .min=>wE
  |_=>wD
 |_=>wD
def DK:Option Nat->Bool
 |some t=>zq t 4095
 |none=>wE
section
variable {P:Program} {F:aI} {n:Nat} {fs:List Nat}
theorem WT{E:ET}{o:Op}(h:Kl fs o=wE):gV E o=[]:=by
 cases o<;>first|rfl|(cases h;done)|skip
 case call c=>
  unfold Kl at h
  unfold gV
  dsimp only at h ⊢
  split at h
  ·rename_i f hf
   rw[ze,Bool.not_eq_true']at h
   rw[hf]
   dsimp only
   rw[h.2]
  ·rename_i hc;rw[hc]
  ·rename_i hc;rw[hc]
  ·rename_i hc;rw[hc]
  ·cases h
theorem nw{g:(K:AV->Option eX)->Option eX}{g0:Option AV}{e:eX}(hg:g (fun d=>O (.val d))=g0.bind fun d=>O (.val d))(h:g (cO O)=O e):∃d,e= .val d:=by
 have h:g (fun d=>O (.val d))=O e:=h
 rw[hg]at h
 obtain⟨d,_,h2⟩:=zi.1 h
 cases h2
 exact⟨d,rfl⟩
theorem Si(hN:cY F)(hp:∀f∈fs,aV F f){o:Op}{E:ET}{rd:Nat->Option IR}{R:aP}{nx:Nat}{e:eX}(ho:Kl fs o=wE)(h:l6 o P F (Du E) rd R nx O=O e):∃d nx',e= .all d R nx'\/e= .val d:=by
 have fin:(∃d,e= .val d)->∃d nx',e=eX.all d R nx'\/e= .val d:=fun⟨d,h⟩=>⟨d,0, .inr h⟩
 have fb:∀{x:Option AV},x.bind (cO O)=O e->∃d,e= .val d:=fun{x} h=>by
  obtain⟨d,_,h2⟩:=zi.1 h
  cases h2
  exact⟨d,rfl⟩
 cases o<;>first|(cases ho;done)|exact fin (fb h)|skip
 case pick c a b=>
  have h:tZ c a b P F (Du E) rd R nx O=O e:=h
  unfold tZ at h
  split at h
  ·exact fin (fb h)
  ·exact fin (fb h)
  ·cases h
 case binOp b T x y t=>exact fin (nw (H6 (K:=O) (fun d=>O (eX.val d))).symm h)
 case unOp b T x=>exact fin (nw (Pn (K:=O) (fun d=>O (eX.val d))).symm h)
 case fieldAddr T x i=>exact fin (nw (Jm (K:=O) (fun d=>O (eX.val d))).symm h)
 case indexAddr T x y=>exact fin (nw (Iz (K:=O) (fun d=>O (eX.val d))).symm h)
 case index T x y=>exact fin (nw (IN (K:=O) (fun d=>O (eX.val d))).symm h)
 case load T x=>exact fin (nw (PY (K:=O) (fun d=>O (eX.val d))).symm h)
 case nilCheck x=>exact fin (nw (Kj (K:=O) (fun d=>O (eX.val d))).symm h)
 case convert T T' x=>exact fin (nw (IQ (K:=O) (fun d=>O (eX.val d))).symm h)
 case extract x i=>exact fin (nw (KM (K:=O) (fun d=>O (eX.val d))).symm h)
 case call c=>
  have h:Df c P F (Du E) rd R nx O=O e:=h
  unfold Df at h
  unfold Kl at ho
  dsimp only at ho
  split at ho
  ·rename_i f hf
   rw[hf]at h
   rw[ze]at ho
   have h:HV F (Du E) R nx (O (.fn (.func f) [])) c.args.toList O=O e:=h
   unfold HV at h
   dsimp only at h
   obtain⟨xs,_,h2⟩:=zi.1 h
   have h3:=hN (AV×aP×Nat) eX f (xs++[]) R nx (fun d R nx=>O (d,R,nx)) (fun x=>O (.all x.1 x.2.1 x.2.2))
   have h3':(F (AV×aP×Nat) f (xs++[]) R nx (fun d R nx=>O (d,R,nx))).bind (fun x=>O (.all x.1 x.2.1 x.2.2))=O e:=h3.trans h2
   obtain⟨⟨d,R',nx'⟩,h4,h5⟩:=zi.1 h3'
   have h6:=hp f (eH.1 ho.1) _ _ _ _ _ _ h4
   subst h6
   cases h5
   exact⟨d,nx', .inl rfl⟩
  ·rename_i hc
   rw[hc]at h
   have h:wK .len c.args c.argTypes P (Du E) rd R nx O=O e:=h
   unfold wK at h
   dsimp only at h
   split at h
   ·exact fin (nw (Kc (K:=O) (fun d=>O (eX.val d))).symm h)
   ·cases h
  ·rename_i hc
   rw[hc]at h
   have h:wK .max c.args c.argTypes P (Du E) rd R nx O=O e:=h
   unfold wK at h
   dsimp only at h
   split at h
   ·exact fin (nw (As (K:=O) (fun d=>O (eX.val d))).symm h)
   ·cases h
  ·rename_i hc
   rw[hc]at h
   have h:wK .min c.args c.argTypes P (Du E) rd R nx O=O e:=h
   unfold wK at h
   dsimp only at h
   split at h
   ·exact fin (nw (As (K:=O) (fun d=>O (eX.val d))).symm h)
   ·cases h
  ·cases ho
def Uf(l:List Oper)(s s0:St):Prop:=s0.R=s.R/\∀u d,(∀o∈l,o.dst≠O u)->cn s.E u=O d->cn s0.E u=O d
theorem lP{s:St}{t:Nat}{b:Bool}(ht:t<4095)(h:cn s.E t=O (.lit (.bool b))){u:Nat}{d:AV}(hu:cn s.E u=O d):cn (s.eM t b).E u=O d:=by
 show cn (kW t (.b b) s.E) u=_
 rw[vv ht]
 split
 ·rename_i e;subst e;rw[h]at hu;exact hu
 ·exact hu
theorem BC(hN:cY F)(hp:∀f∈fs,aV F f){ops:Array Oper}(hops:∀o∈ops.toList,DK o.dst=wE):∀(l:List Oper) {s s0:St},(∀o∈l,Kl fs o.op=wE/\DK o.dst=wE)->dL P F n ops l s O=O s0->Uf l s s0
 |[],s,s0,_,h=>by cases h;exact⟨rfl,fun u d _ hu=>hu⟩
 |o::l,s,s0,hl,h=>by
  have ho:=hl o zg
  have hl':=fun o' h'=>hl o' (zC _ h')
  change I5 P F n ops o (dL P F n ops l) s O=O s0 at h
  unfold I5 at h
  split at h
  case h_2=>cases h
  have putG:∀{s2:St} {d:AV} {nx':Nat},dL P F n ops l ⟨qE o.dst d s2.E,s2.R,nx'⟩ O=O s0->s2.R=s.R->(∀u d,cn s.E u=O d->cn s2.E u=O d)->Uf (o::l) s s0:=fun{s2 d nx'} h1 h2 h3=>by
   obtain⟨q1,q2⟩:=BC hN hp hops l hl' h1
   refine⟨q1.trans h2,fun u d' hu hd=>q2 u d' (fun o' h'=>hu o' (zC _ h')) ?_⟩
   show cn (qE o.dst d s2.E) u=O d'
   have hne:=hu o zg
   have hod:=ho.2
   unfold qE
   split
   ·exact h3 u d' hd
   ·rename_i t ht
    rw[ht]at hod hne
    rw[vv (by simpa [DK]using hod),if_neg (fun e=>hne (by rw[e]))]
    exact h3 u d' hd
  have yes:∀s1:St,am8 P F o (dL P F n ops l) O s1=O s0->s1.R=s.R->(∀u d,cn s.E u=O d->cn s1.E u=O d)->Uf (o::l) s s0:=fun s1 h1 h2 h3=>by
   obtain⟨E1,R1,nx1⟩:=s1
   have h1:opF o.op P F o.dst E1 R1 nx1 (dL P F n ops l) O=O s0:=h1
   have e1:=GC P F o ⟨E1,R1,nx1⟩ (dL (α:=St) P F n ops l) O
   dsimp only at e1
   rw[e1]at h1
   have go:∀s2:St,rDo P F o (dL P F n ops l) O s2=O s0->s2.R=s.R->(∀u d,cn s.E u=O d->cn s2.E u=O d)->Uf (o::l) s s0:=fun s2 g1 g2 g3=>by
    unfold rDo at g1
    rw[WT ho.1]at g1
    obtain⟨E2,R2,nx2⟩:=s2
    have g1:l6 o.op P F (Du E2) (fh R2) R2 nx2 (Fa o.dst E2 R2 nx2 (dL P F n ops l) O)=O s0:=g1
    have g4:(l6 o.op P F (Du E2) (fh R2) R2 nx2 O).bind (Fa o.dst E2 R2 nx2 (dL P F n ops l) O)=O s0:=(vW _ hN ..).trans g1
    obtain⟨e,g5,g6⟩:=zi.1 g4
    obtain⟨d,nx',he⟩:=Si hN hp ho.1 g5
    rcases he with he|he
    ·subst he;exact putG (s2:=⟨E2,R2,nx2⟩) g6 g2 g3
    ·subst he;exact putG (s2:=⟨E2,R2,nx2⟩) g6 g2 g3
   unfold w9 at h1
   split at h1
   ·rename_i t a b hop
    have ht:t<4095:=by
     have:=ho.1
     rw[hop]at this
     simpa [Kl,yl]using this
    split at h1
    ·rename_i b hb
     split at h1
     ·exact go _ h1 h2 fun u d hu=>lP (s:=⟨E1,R1,nx1⟩) ht hb (h3 u d hu)
     ·exact go _ h1 h2 fun u d hu=>lP (s:=⟨E1,R1,nx1⟩) ht hb (h3 u d hu)
    ·cases h1
   ·exact go _ h1 h2 h3
  have no:∀s1:St,rNo o.dst (dL P F n ops l) O s1=O s0->s1.R=s.R->(∀u d,cn s.E u=O d->cn s1.E u=O d)->Uf (o::l) s s0:=fun s1 h1 h2 h3=>by
   have:rNo o.dst (dL P F n ops l) O s1=dL P F n ops l ⟨qE o.dst (.lit undef) s1.E,s1.R,s1.nx⟩ O:=by
    unfold rNo qE
    cases o.dst<;>rfl
   rw[this]at h1
   exact putG (s2:=s1) h1 h2 h3
  unfold gate at h
  split at h
  ·exact yes s h rfl fun _ _ h=>h
  ·rename_i j want hg
   split at h
   ·cases h
   ·rename_i t hj
    have ht:t<4095:=by
     obtain⟨o',ho',hd'⟩:=zi.1 hj
     have hm:o'∈ops.toList:=Array.mem_toList_iff.2 (Array.mem_of_getElem? ho')
     have:=hops o' hm
     rw[hd']at this
     simpa [DK,yl]using this
    split at h
    ·rename_i b hb
     split at h
     ·split at h
      ·exact yes _ h rfl fun u d hu=>lP ht hb hu
      ·exact no _ h rfl fun u d hu=>lP ht hb hu
     ·split at h
      ·exact no _ h rfl fun u d hu=>lP ht hb hu
      ·exact yes _ h rfl fun u d hu=>lP ht hb hu
    ·exact no _ h rfl fun _ _ h=>h
    ·cases h
def alS(fs:List Nat)(t:Nat)(E:ET)(ops:List Oper):Bool:=zq t 4095&&ops.all fun o=>Kl fs o.op&&DK o.dst&&match o.dst with
 |some u=>zb u t||match cn E u with
  |none=>wE
  |some _=>wD
 |none=>wE
def rbK(t:Nat)(s:St):Option Bool:=match cn s.E t with
 |some (.lit (.bool b))=>O b
 |_=>wC
def LB{α:Type}(P:Program)(F:aI)(n:Nat)(fs:List Nat)(t:Nat)(ops:Array Oper)(s:St)(k:fC α):Option α:=match alS fs t s.E ops.toList with
 |true=>match dL (α:=Bool) P F n ops ops.toList s (rbK t)with
  |some b=>k .normal ⟨kW t (.b b) s.E,s.R,s.nx⟩
  |none=>wC
 |false=>wC
theorem Env.sC{T:ET}:∀(E:Env) (u:Nat) (d:AV),Env.get (E.filter fun p=>@wF (cn T p.1=O p.2) (Classical.propDecidable _)) u=O d->cn T u=O d
 |[],_,_,h=>by cases h
 |(k,v)::E,u,d,h=>by
  by_cases hk:cn T k=O v
  ·rw[yK,if_pos (by simp[hk])]at h
   by_cases hku:k=u
   ·subst hku
    rw[Env.dN]at h
    cases h
    exact hk
   ·rw[Env.cV _ _ hku]at h
    exact Env.sC E u d h
  ·rw[yK,if_neg (by simp[hk])]at h
   exact Env.sC E u d h
theorem Env.pO{T:ET}:∀(E:Env) (u:Nat) (d:AV),cn T u=O d->E.get u=O d->Env.get (E.filter fun p=>@wF (cn T p.1=O p.2) (Classical.propDecidable _)) u=O d
 |[],_,_,_,h=>by cases h
 |(k,v)::E,u,d,ht,h=>by
  by_cases hku:k=u
  ·subst hku
   rw[Env.dN]at h
   cases h
   rw[yK,if_pos (by simp[ht])]
   exact Env.dN _ _ _
  ·rw[Env.cV _ _ hku]at h
   rw[yK]
   split
   ·rw[Env.cV _ _ hku];exact Env.pO E u d ht h
   ·exact Env.pO E u d ht h
theorem SU{α:Type}{C:Cg}(hF:gF P F)(hN:cY F)(hp:∀f∈fs,aV F f)(id t:Nat)(ops:Array Oper):RJ (α:=α) P C n (.region id ops wD) (LB P F n fs t ops):=fun r s k a w h hm=>by
 unfold LB at h
 split at h
 case h_2=>cases h
 rename_i hrb
 split at h
 case h_2=>cases h
 rename_i b hb
 unfold alS at hrb
 rw[ze,yl]at hrb
 obtain⟨ht,hall⟩:=hrb
 have hall:∀o∈ops.toList,(Kl fs o.op=wE/\DK o.dst=wE)/\∀u,o.dst=O u->u=t\/cn s.E u=wC:=fun o ho=>by
  have h1:=zm.1 hall o ho
  rw[ze,ze]at h1
  refine⟨h1.1,fun u hu=> ?_⟩
  have h2:=h1.2
  rw[hu]at h2
  dsimp only at h2
  rw[yH]at h2
  rcases h2 with h2|h2
  ·exact .inl (fB h2)
  ·right
   split at h2
   ·assumption
   ·cases h2
 have hnat:=pQ hN (P:=P) (n:=n) (ops:=ops) (rbK t) ops.toList s O
 have hb':(dL P F n ops ops.toList s O).bind (rbK t)=O b:=hnat.trans hb
 obtain⟨s0,h1,h2⟩:=zi.1 hb'
 obtain⟨q1,q2⟩:=BC hN hp (fun o ho=>(hall o ho).1.2) ops.toList (fun o ho=>(hall o ho).1) h1
 have hend:Ends P C n (.region id ops wD) (fun e s'=>match e with
  | .normal=>O s'
  |_=>wC) s0 a w:=by
  refine wp_mono (wp_region_lit (B9 hF _ h1 hm)) fun e a' w' ⟨he,_,s',h3,h4⟩=> ?_
  subst he
  exact⟨s',h3,h4⟩
 refine wp_mono hend fun e a' w' ⟨s',h3,h4⟩=> ?_
 cases e<;>first|(cases h3;done)|skip
 have h3:O s'=O s0:=h3
 cases h3
 refine⟨_,h,?_⟩
 have hbt:cn s0.E t=O (.b b):=by
  unfold rbK at h2
  split at h2
  ·rename_i b' hb';cases h2;exact hb'
  ·cases h2
 obtain⟨E,hh,hE,hR,ρ,hag,hsim⟩:=hm
 obtain⟨E0,hh0,hE0,hR0,ρ0,hag0,hsim0⟩:=h4
 let E1:Env:=(t, .b b)::E.filter fun p=>@wF (cn s.E p.1=O p.2) (Classical.propDecidable _)
 have hkey:∀u d,E1.get u=O d->cn s0.E u=O d:=fun u d hu=>by
  by_cases htu:t=u
  ·subst htu
   rw[Env.dN]at hu
   cases hu
   exact hbt
  ·rw[Env.cV _ _ htu]at hu
   have h5:=Env.sC E u d hu
   refine q2 u d (fun o ho hd=> ?_) h5
   rcases (hall o ho).2 u hd with h6|h6
   ·exact htu h6.symm
   ·rw[h5]at h6;cases h6
 refine⟨E1,fun u d hu=> ?_,Env.uC (fun p hp=>hE p (zW.1 hp).1) (.lit _),hR,ρ0,⟨hag0.1,hag.2⟩,?_⟩
 ·have hu:cn (kW t (.b b) s.E) u=O d:=hu
  rw[vv ht]at hu
  split at hu
  ·rename_i e;rw[<-e,<-zB.inj hu];exact Env.dN _ _ _
  ·rename_i e
   show Env.get ((t,_)::_) u=_
   rw[Env.cV _ _ e]
   exact Env.pO E u d hu (hh u d hu)
 ·rw[q1]at hsim0
  refine⟨hsim0.defers,hsim0.size,fun u av hu=> ?_,hsim0.good⟩
  rw[Env.dP]at hu
  obtain⟨d,hd,rfl⟩:=zf.1 hu
  exact hsim0.slots u _ (by rw[Env.dP,hh0 u d (hkey u d hd)];rfl)
end
inductive An:Type 1
 |no
 |two (l r:An)
 |lp (γ:Type) (rd:St->Option γ) (pat:γ->St) (Ea:γ->Option γ) (body:An)
 |jn (γ:Type) (rd:St->Option γ) (pat:γ->St) (l r:An)
 |rb (fs:List Nat) (t:Nat)
def An.l:An->An
 | .two l _=>l
 | .jn _ _ _ l _=>l
 |_=> .no
def An.r:An->An
 | .two _ r=>r
 | .jn _ _ _ _ r=>r
 |_=> .no
abbrev XT:=An->(α:Type)->St->fC α->Option α
def at5{γ:Type}(b:Bool)(p q:γ):γ:=match b with
 |true=>p
 |false=>q
def kOn{γ:Type}(rd:St->Option γ):fC (Option γ):=fun e s=>match e with
 | .normal=>(rd s).map O
 |_=>O wC
def aj1{γ:Type}(rd:St->Option γ):fC γ:=fun e s=>match e with
 | .normal=>rd s
 |_=>wC
def T7{γ α:Type}(rd:St->Option γ)(pat:γ->St)(c:Operand)(s:St)(x y:(α:Type)->St->fC α->Option α)(k:fC α):Option α:=match c with
 | .tmp t=>match cn s.E t with
  |some (.lit (.bool b))=>match x γ (s.eM t wE) (aj1 rd)with
   |some p=>match y γ (s.eM t wD) (aj1 rd)with
    |some q=>k .normal (pat (at5 b p q))
    |none=>wC
   |none=>wC
  |_=>wC
 |_=>wC
def amu(P:Program)(F:aI)(n:Nat)(id:Nat)(ops:Array Oper)(draw:Bool):XT:=fun an _ s k=>match an with
 | .rb fs t=>match draw with
  |false=>LB P F n fs t ops s k
  |true=>wT P F n id ops wE s k
 |_=>wT P F n id ops draw s k
def aqn(x y:XT):XT:=fun an α s k=>x an.l α s (YK (y an.r α) k)
def ahR(c:Operand)(x y:XT):XT:=fun an α s k=>match an with
 | .jn _ rd pat l r=>T7 rd pat c s (x l) (y r) k
 |an=>o7 c s (fun s=>x an.l α s k) (fun s=>y an.r α s k)
def XB(id:Nat)(x:XT):XT:=fun an α s k=>x an α s (rB id k)
def agR(fuel:Nat)(x:XT):XT:=fun an α s k=>match an with
 | .lp _ rd pat Ea b=>match rd s with
  |some p=>match Ea p with
   |some q=>x b α (pat q) (KB k fun _=>wC)
   |none=>wC
  |none=>wC
 |an=>Bu (x an α) k fuel s
def nu(P:Program)(F:aI)(n:Nat)(fuel:Nat)(c:Code):XT:=
 Code.rec (fun _ _ s k=>WO s k) (amu P F n) (fun _ _=>aqn) (fun c _ _=>ahR c) (fun id _=>XB id) (fun _=>agR fuel) (fun _ _ _ _ _ _ _ _ s k=>DB s k) (fun i _ _ s k=>VH i s k) (fun _ _ _ _ s k=>DB s k) (fun _ _ _ s k=>DB s k) (fun _ _ _ s k=>DB s k) (fun _ _ s k=>aeX s k) (fun _ _ _ s k=>DB s k) c
def qG{γ:Type}(n0 n:Nat)(rd:St->Option γ)(pat:γ->St):Prop:=∀(C:Cg) s p a w,C.n=n0->rd s=O p->Mt C n s a w->Mt C n (pat p) a w
def Ph{γ:Type}(x:XT)(rd:St->Option γ)(pat:γ->St)(b:An):Nat->γ->γ->Prop
 |0,p,q=>p=q
 |n+1,p,q=>∃p',x b (Option γ) (pat p) (kOn rd)=O (O p')/\Ph x rd pat b n p' q
def OB{γ:Type}(x:XT)(rd:St->Option γ)(pat:γ->St)(Ea:γ->Option γ)(b:An):Prop:=
 ∀p q,Ea p=O q->∃n,Ph x rd pat b n p q
def KA(P:Program)(F:aI)(n0 n:Nat)(fuel:Nat)(c:Code):An->Prop:=
 Code.rec (fun _=>True) (fun _ _ _ an=>match an with
  | .rb fs _=>∀f∈fs,aV F f
  |_=>True) (fun _ _ x y an=>x an.l/\y an.r) (fun _ _ _ x y an=>(∀γ rd pat l r,an= .jn γ rd pat l r->qG n0 n rd pat)/\x an.l/\y an.r) (fun _ _ x=>x)
  (fun c x an=>match an with
   | .lp _ rd pat Ea b=>qG n0 n rd pat/\OB (nu P F n fuel c) rd pat Ea b/\x b
   |an=>x an) (fun _ _ _ _ _ _ _=>True) (fun _ _=>True) (fun _ _ _=>True) (fun _ _=>True) (fun _ _=>True) (fun _=>True) (fun _ _=>True) c
section
variable {P:Program} {F:aI} {C:Cg} {n0 n:Nat}
theorem VN(hF:gF P F)(hN:cY F)(hC:C.n=n0)(fuel:Nat)(c:Code):∀an,KA P F n0 n fuel c an->∀(α:Type),RJ (α:=α) P C n c (nu P F n fuel c an α):=by
 induction c with
 |skip=>exact fun an _ α r s k a w h hm=>wp_skip ⟨s,h,hm⟩
 |region id ops draw=>
  intro an ho α
  cases an with
  |rb fs t=>
   cases draw with
   |false=>exact SU hF hN ho id t ops
   |true=>exact CT hF hN id ops wE
  |_=>exact CT hF hN id ops draw
 |seq x y hx hy=>
  intro an ho α r s k a w h hm
  obtain⟨h1,h2⟩:KA P F n0 n fuel x an.l/\KA P F n0 n fuel y an.r:=ho
  refine wp_seq (wp_mono (hx an.l h1 α r s _ a w h hm) fun e a' w' ⟨s',g1,g2⟩=> ?_)
  cases e with
  |normal=>exact hy an.r h2 α r s' k a' w' g1 g2
  |_=>exact⟨s',g1,g2⟩
 |cond c x y hx hy=>
  intro an ho α r s k a w h hm
  obtain⟨h0,h1,h2⟩:(∀γ rd pat l r,an= .jn γ rd pat l r->qG n0 n rd pat)/\KA P F n0 n fuel x an.l/\KA P F n0 n fuel y an.r:=ho
  have plain:o7 c s (fun s=>nu P F n fuel x an.l α s k) (fun s=>nu P F n fuel y an.r α s k)=O r->Ends P C n (.cond c x y) k r a w:=fun h=>by
   obtain⟨b,s',he,hm',h'⟩:=Ih h hm
   cases b with
   |true=>exact wp_cond_true he (hx an.l h1 α r s' k a w h' hm')
   |false=>exact wp_cond_false he (hy an.r h2 α r s' k a w h' hm')
  cases an with
  |jn γ rd pat l r'=>
   have hrd:=h0 γ rd pat l r' rfl
   change T7 rd pat c s (nu P F n fuel x l) (nu P F n fuel y r') k=O r at h
   unfold T7 at h
   split at h
   case h_2=>cases h
   rename_i t
   split at h
   case h_2=>cases h
   rename_i b hb
   split at h
   case h_2=>cases h
   rename_i p hp
   split at h
   case h_2=>cases h
   rename_i q hq
   have hev:a.eval (.tmp t)= .bool b:=by
    obtain⟨E,hh,_,_,ρ,_,hs⟩:=hm
    refine PJ hs ?_
    have g1:=hh t _ hb
    show Env.get (E.sub ρ) t=_
    rw[Env.dP,g1,yg,bE]
   have fin:∀(p:γ),k .normal (pat p)=O r->∀e a' w',(∃s',aj1 rd e s'=O p/\Mt C n s' a' w')->∃s',k e s'=O r/\Mt C n s' a' w':=fun p hk e a' w' ⟨s',g1,g2⟩=>by
    cases e with
    |normal=>exact⟨_,hk,hrd C s' p a' w' hC g1 g2⟩
    |_=>cases g1
   cases b with
   |true=>exact wp_cond_true hev (wp_mono (hx l h1 γ p _ _ a w hp (hm.eM hb)) (fin p h))
   |false=>exact wp_cond_false hev (wp_mono (hy r' h2 γ q _ _ a w hq (hm.eM hb)) (fin q h))
  |_=>exact plain h
 |block id x hx=>
  intro an ho α r s k a w h hm
  refine wp_block (wp_mono (hx an ho α r s _ a w h hm) fun e a' w' ⟨s',h1,h2⟩=> ?_)
  cases e with
  |exit id'=>
   simp only[rB]at h1
   simp only[Exit.inBlock]
   split
   ·rename_i he
    subst he
    have hb:zb id' id'=wE:=Nat.beq_refl _
    simp only[hb]at h1
    exact⟨s',h1,h2⟩
   ·rename_i he
    have hb:zb id' id=wD:=by
     cases hb:zb id' id with
     |false=>rfl
     |true=>exact absurd (yX hb) he
    simp only[hb]at h1
    exact⟨s',h1,h2⟩
  |_=>exact⟨s',h1,h2⟩
 |loop c hc=>
  intro an ho α r s k a w h hm
  cases an with
  |lp γ rd pat Ea b=>
   obtain⟨hrd,hadv,hb⟩:qG n0 n rd pat/\OB (nu P F n fuel c) rd pat Ea b/\KA P F n0 n fuel c b:=ho
   change (match rd s with
    |some p=>match Ea p with
     |some q=>nu P F n fuel c b α (pat q) (KB k fun _=>wC)
     |none=>wC
    |none=>wC)=O r at h
   split at h
   case h_2=>cases h
   rename_i p hp
   split at h
   case h_2=>cases h
   rename_i q hq
   obtain⟨m,hgo⟩:=hadv p q hq
   have key:∀(m:Nat) (p:γ),Ph (nu P F n fuel c) rd pat b m p q->∀(a:Act) (w:World),Mt C n (pat p) a w->
     c.wp P (Exit.then (InL P c fun e a' w'=>∃s',k e s'=O r/\Mt C n s' a' w') fun e a' w'=>∃s',k e s'=O r/\Mt C n s' a' w') a w:=by
    intro m
    induction m with
    |zero=>
     intro p hg a w hm
     have hg:p=q:=hg
     subst hg
     refine wp_mono (hc b hb α r _ _ a w h hm) fun e a' w' ⟨s',q1,q2⟩=> ?_
     cases e with
     |normal=>cases q1
     |_=>exact⟨s',q1,q2⟩
    |succ m ih=>
     intro p hg a w hm
     obtain⟨p',g1,g3⟩:=hg
     refine wp_mono (hc b hb (Option γ) (O p') _ _ a w g1 hm) fun e a' w' ⟨s',q1,q2⟩=> ?_
     cases e with
     |normal=>
      obtain⟨p'',q3,q4⟩:=zf.1 (show (rd s').map O=O (O p')from q1)
      cases q4
      exact J0 (ih p' g3 a' w' (hrd C s' p' a' w' hC q3 q2))
     |_=>cases q1
   exact D4 (key m p hgo a w (hrd C s p a w hC hp hm))
  |_=>exact D0 (hc _ ho α) fuel r s k a w h hm
 |exit i=>exact fun an _ α r s k a w h hm=>wp_exit ⟨s,h,hm⟩
 |ret=>exact fun an _ α r s k a w h hm=>wp_ret ⟨s,h,hm⟩
 |_=>exact fun an _ α r s k a w h hm=>by cases h
def bN(P:Program)(F:aI)(fuel:Nat)(an:An){α:Type}(f:FuncId)(args:List AV)(R:aP)(nx:Nat)(k:St->Option α):Option α:=match P.funcs[f]? with
 |some fn=>match fn.body with
  |some c=>match ya args.length fn.ntmps&& !(fn.name=="runtime.NumGoroutine")with
   |true=>nu P F fn.ntmps fuel c an α ⟨KF 0 args .e,R,nx⟩ fun e s=>match e with
    | .normal=>k s
    | .ret=>k s
    |_=>wC
   |false=>wC
  |none=>wC
 |none=>wC
def eW(P:Program)(F:aI)(n0:Nat)(fuel:Nat)(f:FuncId)(an:An):Prop:=∀fn c,P.funcs[f]? =O fn->fn.body=O c->KA P F n0 fn.ntmps fuel c an
def CD(P:Program)(f:FuncId)(s:St):Option (List AV):=match P.funcs[f]? with
 |some fn=>DI P s fn.results.toList
 |none=>wC
structure Out where
 d:AV
 R:aP
 c:Nat
def PA(P:Program)(f:FuncId)(args:List AV)(R0:aP)(n0:Nat)(x:Out):Prop:=∀ρ:Gh,Fn P f (args.map (bP.sub ρ)) (aP.res ρ R0) (fun a s=>∃ρ':Gh,p6 n0 ρ ρ'/\a=x.d.sub ρ'/\List.Perm s (aP.res ρ' x.R))
theorem oF(hF:bf P F){n0 fuel:Nat}{f:FuncId}{an:An}(han:eW P F n0 fuel f an){args:List AV}{R0:aP}{γ:Type}{rd:St->Option γ}{pat:γ->St}{out:γ->Out}{p:γ}
  (hrd:∀n,qG n0 n rd pat) (ho:∀p,(match CD P f (pat p)with
   |some ds=>O (Out.mk (fH ds) (nD (pat p).R n0 (fH ds)) (pat p).nx)
   |none=>wC)=O (out p))
  (hargs:∀d∈args,cj n0 d) (hR:aP.cj n0 R0) (h:bN P F fuel an f args R0 n0 rd=O p):vq P f/\PA P f args R0 n0 (out p):=by
 unfold bN at h
 split at h
 case h_2=>cases h
 rename_i fn hf
 split at h
 case h_2=>cases h
 rename_i c hb
 split at h
 case h_2=>cases h
 rename_i hc
 rw[ze]at hc
 obtain⟨hl,hnm⟩:=hc
 have hop:=ho p
 split at hop
 case h_2=>cases hop
 rename_i ds hds
 have hds:DI P (pat p) fn.results.toList=O ds:=by
  unfold CD at hds
  rw[hf]at hds
  exact hds
 have hop:=zB.inj hop
 refine⟨⟨fn,hf,by simpa using hnm,by rw[hb];rfl⟩,fun ρ=>Fn.of hf hb rfl (by rw[zA];exact hl) fun C a w ha=> ?_⟩
 have hm:Mt ⟨C,ρ,n0⟩ fn.ntmps ⟨KF 0 args .e,R0,n0⟩ a w:=by
  refine⟨dM 0 args,?_,fun q hq=>hargs _ (n7 hq),hR,ρ,⟨.refl _ _,zx _⟩,?_⟩
  ·have:=vD args 0 .e [] (fun t d ht=>by cases t<;>cases ht) (fun t d ht=>by cases t<;>cases ht)
   rwa [yd]at this
  ·rw[oW];exact ha
 refine wp_mono (VN (C:=⟨C,ρ,n0⟩) hF.ok hF.nat rfl fuel c an (han fn c hf hb) γ p _ _ a w h hm) fun e a' w' ⟨s',h1,h2⟩=> ?_
 have fin:∀e:Exit,(e= .normal\/e= .ret)->rd s'=O p->∃E' σ',sM C fn.ntmps E' σ' a' w'/\YL P C fn.ntmps fn (fun a s=>∃ρ':Gh,p6 n0 ρ ρ'/\a=(out p).d.sub ρ'/\List.Perm s (aP.res ρ' (out p).R)) e E' σ':=fun e he hp=>by
  have hm':=hrd fn.ntmps ⟨C,ρ,n0⟩ s' p a' w' rfl hp h2
  obtain⟨E,hh,hE,hR,ρ',⟨hag,hnx⟩,hsim⟩:=hm'
  have hsub:List.Sublist (nD (pat p).R n0 (fH ds)) (pat p).R:=vY _ _ _
  refine⟨_,_,hsim,Vk (σ':=aP.res ρ' (nD (pat p).R n0 (fH ds))) (av:=(fH ds).sub ρ') he (hsub.map _) ⟨ρ',hag,by rw[<-hop],by rw[<-hop]⟩ fun A w' tmps hd hs=> ?_⟩
  obtain⟨us,q1,q2⟩:=Fq hh hd hs hds
  refine⟨_,?_,JX q2⟩
  show (do let vs <-fn.results.mapM (sD tmps);pure (if h:vs.size=1 then vs[0]else .tuple vs):Sem Value).run P w'=_
  have e1:fn.results=fn.results.toList.toArray:=by simp
  rw[e1,List.mapM_toArray]
  simp[q1]
 cases e with
 |normal=>exact fin _ (.inl rfl) h1
 |ret=>exact fin _ (.inr rfl) h1
 |_=>cases h1
end
section
variable {γ:Type} (rnd:γ->Option (Option γ))
def kE:Nat->γ->γ->Prop
 |0,p,q=>p=q/\∀r,rnd p≠O (O r)
 |n+1,p,q=>∃p',rnd p=O (O p')/\kE n p' q
open Classical in
def bw(p:γ):Option γ:=if h:∃q n,kE rnd n p q then O (Classical.choose h)else wC
variable {rnd}
theorem kE.det:∀{n m:Nat} {p q q':γ},kE rnd n p q->kE rnd m p q'->n=m/\q=q'
 |0,0,p,q,q',⟨h1,_⟩,⟨h2,_⟩=>⟨rfl,h1▸h2⟩
 |0,m+1,p,q,q',⟨h1,h3⟩,⟨p',h2,_⟩=>absurd h2 (h3 p')
 |n+1,0,p,q,q',⟨p',h2,_⟩,⟨h1,h3⟩=>absurd h2 (h3 p')
 |n+1,m+1,p,q,q',⟨p',h1,h2⟩,⟨p'',h3,h4⟩=>by
  rw[h1]at h3
  cases h3
  obtain⟨e1,e2⟩:=kE.det h2 h4
  exact⟨by rw[e1],e2⟩
theorem kE.Ea{n:Nat}{p q:γ}(h:kE rnd n p q):bw rnd p=O q:=by
 have hx:∃q n,kE rnd n p q:=⟨q,n,h⟩
 unfold bw
 rw[dif_pos hx]
 obtain⟨m,hm⟩:=Classical.choose_spec hx
 rw[(kE.det hm h).2]
theorem kE.last{n:Nat}{p q:γ}(h:kE rnd n p q):∀r,rnd q≠O (O r):=by
 induction n generalizing p with
 |zero=>obtain⟨h1,h2⟩:=h;rw[<-h1];exact h2
 |succ n ih=>obtain⟨p',_,h2⟩:=h;exact ih h2
theorem kE.ex(I:γ->Prop)(m:γ->Nat)(h:∀p q,I p->rnd p=O (O q)->I q/\m q<m p):∀(k:Nat) (p:γ),m p<=k->I p->∃n q,kE rnd n p q/\I q
 |k,p,hk,hp=>by
  by_cases hq:∃q,rnd p=O (O q)
  ·obtain⟨q,hq⟩:=hq
   obtain⟨h1,h2⟩:=h p q hp hq
   match k with
   |0=>omega
   |k+1=>
    obtain⟨n,r,h3,h4⟩:=kE.ex I m h k q (by omega) h1
    exact⟨n+1,r,⟨q,hq,h3⟩,h4⟩
  ·exact⟨0,p,⟨rfl,fun r hr=>hq ⟨r,hr⟩⟩,hp⟩
theorem uS{p q:γ}(h:bw rnd p=O q):∃n,kE rnd n p q:=by
 unfold bw at h
 split at h
 ·rename_i hx
  cases h
  exact Classical.choose_spec hx
 ·cases h
theorem kr(I:γ->Prop)(m:γ->Nat)(h:∀p q,I p->rnd p=O (O q)->I q/\m q<m p){p:γ}(hp:I p):∃q,bw rnd p=O q/\I q/\∀r,rnd q≠O (O r):=by
 obtain⟨n,q,h1,h2⟩:=kE.ex I m h (m p) p (zx _) hp
 exact⟨q,h1.Ea,h2,h1.last⟩
theorem bF{p p':γ}(h:rnd p=O (O p')):bw rnd p=bw rnd p':=by
 cases h2:bw rnd p' with
 |some q=>
  obtain⟨n,hn⟩:=uS h2
  exact(show kE rnd (n+1) p q from⟨p',h,hn⟩).Ea
 |none=>
  cases h1:bw rnd p with
  |none=>rfl
  |some q=>
   obtain⟨n,hn⟩:=uS h1
   cases n with
   |zero=>exact absurd h (hn.2 p')
   |succ n=>
    obtain⟨p'',h3,h4⟩:=hn
    rw[h]at h3
    cases h3
    rw[h4.Ea]at h2
    cases h2
theorem bW{p:γ}(h:∀r,rnd p≠O (O r)):bw rnd p=O p:=(show kE rnd 0 p p from⟨rfl,h⟩).Ea
theorem kE.x{x:XT}{rd:St->Option γ}{pat:γ->St}{b:An}(hx:∀p,x b (Option γ) (pat p) (kOn rd)=rnd p):∀{n:Nat} {p q:γ},kE rnd n p q->Ph x rd pat b n p q
 |0,_,_,h=>h.1
 |_+1,_,_,⟨p',h1,h2⟩=>⟨p',by rw[hx];exact h1,kE.x hx h2⟩
theorem aa8{x:XT}{rd:St->Option γ}{pat:γ->St}{b:An}(hx:∀p,x b (Option γ) (pat p) (kOn rd)=rnd p):OB x rd pat (bw rnd) b:=fun p q h=>by
 obtain⟨n,hn⟩:=uS h
 exact⟨n,hn.x hx⟩
end
end Go.Iv
end
noncomputable section
namespace Go.Iv
variable [U:qT] [L:mQ]
open Go Go.RowKit
section
variable {β γ δ:Type}
def PN(f:AV->Option β)(c:β->AV):Prop:=∀a b,f a=O b->(∀(ρ:Gh) A w v,Rel A w (a.sub ρ) v->Rel A w ((c b).sub ρ) v)/\∀n,cj n a->cj n (c b)
theorem PN.of{f:AV->Option β}{c:β->AV}(h:P1 f c)(hc:∀a b,f a=O b->DA 2 a=wE)(hl:∀b,(∀ρ,(c b).sub ρ=c b)/\∀n,cj n (c b)):PN f c:=fun a b hb=>
 ⟨fun ρ A w v hr=>by rw[jc 2 (hc a b hb)]at hr;rw[(hl b).1];exact h a b hb A w v hr,fun n _=>(hl b).2 n⟩
theorem PN.i(k:IntKind):PN (gH k) (bP.n k):= .of (.i k) (fun a b h=>by
 unfold gH at h
 split at h
 ·rfl
 ·cases h) fun b=>⟨fun ρ=>bE ρ _,fun n=> .lit _⟩
theorem PN.b:PN RO bP.b:= .of .b (fun a b h=>by
 unfold RO at h
 split at h
 ·rfl
 ·cases h) fun b=>⟨fun ρ=>bE ρ _,fun n=> .lit _⟩
theorem PN.s:PN asS bP.s:= .of .s (fun a b h=>by
 unfold asS at h
 split at h
 ·rfl
 ·cases h) fun b=>⟨fun ρ=>bE ρ _,fun n=> .lit _⟩
theorem PN.l(t:Nat):PN (iW t) (bP.sl t):= .of (.l t) (fun a b h=>by
 unfold iW at h
 split at h
 ·rfl
 ·rfl
 ·cases h) fun b=>⟨fun ρ=>fG ρ _ _,fun n=> .sl _ _⟩
def aaB(t:Nat):AV->Option (U.cH t)
 | .agg cs=>match cs.all (DA 1)with
  |true=>L.parse t cs
  |false=>wC
 |_=>wC
theorem PN.g(t:Nat):PN (aaB t) (fun x=> .agg (U.cells t x)):= .of (fun a b h A w v hr=>by
 unfold aaB at h
 split at h
 ·split at h
  ·obtain⟨us,rfl,h2⟩:=hr.mX
   exact Rel.nO (L.kB _ _ _ h A w us h2)
  ·cases h
 ·cases h) (fun a b h=>by
 unfold aaB at h
 split at h
 ·split at h
  ·rename_i hc;exact hc
  ·cases h
 ·cases h) fun b=>⟨fun ρ=>by rw[dQ,L.clo],fun n=> .agg _ (L.p9 t b n)⟩
def asP(id off:Nat):AV->Option Unit
 | .ptr i o=>match zb i id&&zb o off with
  |true=>O ()
  |false=>wC
 |_=>wC
theorem PN.p(id off:Nat):PN (asP id off) (fun _=> .ptr id off):=fun a b h=>by
 unfold asP at h
 split at h
 ·split at h
  ·rename_i hc
   rw[ze]at hc
   rw[fB hc.1,fB hc.2]
   exact⟨fun _ _ _ _ h=>h,fun _ h=>h⟩
  ·cases h
 ·cases h
def asO(id:Nat):AV->Option Unit
 | .own i=>match zb i id with
  |true=>O ()
  |false=>wC
 |_=>wC
theorem PN.o(id:Nat):PN (asO id) (fun _=> .own id):=fun a b h=>by
 unfold asO at h
 split at h
 ·split at h
  ·rename_i hc
   rw[fB hc]
   exact⟨fun _ _ _ _ h=>h,fun _ h=>h⟩
  ·cases h
 ·cases h
def KO(q:List AV->Option γ)(c:γ->List AV):Prop:=∀cs g,q cs=O g->(∀(ρ:Gh) A w us,bq A w (cs.map (bP.sub ρ)) us->bq A w ((c g).map (bP.sub ρ)) us)/\∀n,(∀a∈cs,cj n a)->∀a∈c g,cj n a
theorem KO.nil:KO nU (fun _=>[]):=fun cs g h=>by
 unfold nU at h
 split at h
 ·exact⟨fun ρ A w us hr=>hr,fun n h=>h⟩
 ·cases h
theorem KO.cons{f:AV->Option β}{c:β->AV}{q:List AV->Option γ}{d:γ->List AV}(h:PN f c)(hq:KO q d):KO (cS f q) (fun x=>c x.1::d x.2):=fun cs g hg=>by
 unfold cS at hg
 split at hg
 ·obtain⟨b,h1,hg⟩:=zi.1 hg
  obtain⟨g',h2,rfl⟩:=zf.1 hg
  obtain⟨h3,h4⟩:=h _ _ h1
  obtain⟨h5,h6⟩:=hq _ _ h2
  refine⟨fun ρ A w us hr=> ?_,fun n hn a ha=> ?_⟩
  ·rw[zV]at hr ⊢
   obtain⟨v,us',rfl,h7,h8⟩:=hr.head
   exact bq.cons (h3 ρ A w v h7) (h5 ρ A w us' h8)
  ·rcases zu.1 ha with rfl|ha
   ·exact h4 n (hn _ zg)
   ·exact h6 n (fun a ha=>hn a (zC _ ha)) a ha
 ·cases hg
def alg(k:Nat)(q:List AV->Option γ):AV->Option γ
 | .fn (.func i) cs=>match zb i k with
  |true=>q cs
  |false=>wC
 |_=>wC
theorem PN.ff(k:Nat){q:List AV->Option γ}{c:γ->List AV}(h:KO q c):PN (alg k q) (fun x=> .fn (.func k) (c x)):=fun a b hb=>by
 unfold alg at hb
 split at hb
 ·rename_i i cs
  split at hb
  ·rename_i hi
   have hi:=fB hi
   subst hi
   obtain⟨h1,h2⟩:=h _ _ hb
   refine⟨fun ρ A w v hr=> ?_,fun n hn=> .fn _ _ (h2 n hn.fnL)⟩
   rw[sH]at hr ⊢
   generalize ha:bP.fn (Fn.func i) (cs.map (bP.sub ρ))=a at hr
   cases hr with
   |fn f cs' us hl hr=>
    cases ha
    obtain⟨h3,h4⟩:=h1 ρ A w us ⟨hl,hr⟩
    exact .fn _ _ us h3 h4
   |_=>cases ha
  ·cases hb
 ·cases hb
def aiG(q:List AV->Option γ):AV->Option γ
 | .fp cs=>q cs
 |_=>wC
theorem PN.fp{q:List AV->Option γ}{c:γ->List AV}(h:KO q c):PN (aiG q) (fun x=> .fp (c x)):=fun a b hb=>by
 unfold aiG at hb
 split at hb
 ·rename_i cs
  obtain⟨h1,h2⟩:=h _ _ hb
  refine⟨fun ρ A w v hr=> ?_,fun n hn=> ?_⟩
  ·rw[lu]at hr ⊢
   generalize ha:bP.fp (cs.map (bP.sub ρ))=a at hr
   cases hr with
   |fp cs' b o us hb hA hl hc hr=>
    cases ha
    obtain⟨h3,h4⟩:=h1 ρ A w us ⟨hl,hr⟩
    exact .fp _ b o us hb hA h3 hc h4
   |_=>cases ha
  ·generalize ha:bP.fp cs=a at hn
   cases hn with
   |fp cs' h5=>cases ha;exact .fp _ (h2 n h5)
   |_=>cases ha
 ·cases hb
def akz:AV->Option Unit
 | .lit (.slice wC 0 0)=>O ()
 |_=>wC
theorem PN.ns:PN akz (fun _=> .lit (.slice wC 0 0)):=fun a b hb=>by
 unfold akz at hb
 split at hb
 ·exact⟨fun _ _ _ _ h=>h,fun _ h=>h⟩
 ·cases hb
def akk(t:Nat)(cs:List AV):Option (U.cH t):=match cs.all (DA 1)with
 |true=>L.parse t cs
 |false=>wC
theorem KO.parse(t:Nat):KO (akk t) (fun x=>U.cells t x):=fun cs g h=>by
 unfold akk at h
 split at h
 ·rename_i hc
  have e:∀ρ,cs.map (bP.sub ρ)=cs:=fun ρ=>by
   have:cs.map (bP.sub ρ)=cs.map id:=zQ fun a ha=>jc 1 (zm.1 hc a ha)
   rw[this,List.map_id]
  exact⟨fun ρ A w us hr=>by rw[e]at hr;rw[L.clo];exact L.kB _ _ _ h A w us hr,fun n _=>L.p9 t g n⟩
 ·cases h
def slN(_:ET):Option Unit:=O ()
def slC(t:Nat)(f:AV->Option β)(q:ET->Option γ)(T:ET):Option (β×γ):=match cn T t with
 |some a=>(f a).bind fun b=>(q T).map fun g=>(b,g)
 |none=>wC
def La(q:ET->Option γ)(d:γ->Env):Prop:=∀T g,q T=O g->∀(E:Env),rY T E->(∀(ρ:Gh) A w tmps,kj A w (E.sub ρ) tmps->kj A w ((d g).sub ρ) tmps)/\∀n,E.cj n->(d g).cj n
theorem La.nil:La slN (fun _=>[]):=fun T g _ E _=>⟨fun ρ A w tmps _ t av h=>(by cases h),fun n _ p hp=>(by cases hp)⟩
theorem La.cons{t:Nat}{f:AV->Option β}{c:β->AV}{q:ET->Option γ}{d:γ->Env}(hf:PN f c)(hq:La q d):La (slC t f q) (fun x=>(t,c x.1)::d x.2):=fun T g h E hh=>by
 unfold slC at h
 split at h
 case h_2=>cases h
 rename_i a ha
 obtain⟨b,hb,h⟩:=zi.1 h
 obtain⟨g',hg,rfl⟩:=zf.1 h
 obtain⟨h1,h2⟩:=hf a b hb
 obtain⟨h3,h4⟩:=hq T g' hg E hh
 refine⟨fun ρ A w tmps hs s av hx=> ?_,fun n hn p hp=> ?_⟩
 ·have hx:Env.get ((t,(c b).sub ρ)::(d g').sub ρ) s=O av:=hx
  by_cases hts:t=s
  ·subst hts
   rw[Env.dN]at hx
   cases hx
   obtain⟨v,q1,q2⟩:=hs t (a.sub ρ) (by rw[Env.dP,hh t a ha];rfl)
   exact⟨v,q1,h1 ρ A w v q2⟩
  ·rw[Env.cV _ _ hts]at hx
   exact h3 ρ A w tmps hs s av hx
 ·rcases zu.1 hp with rfl|hp
  ·exact h2 n (hn _ (Env.get_mem (hh t a ha)))
  ·exact h4 n hn p hp
def ahH(E:Env):ET:=List.rec .e (fun p _ T=>kW p.1 p.2 T) E
theorem vV:∀E:Env,rY (ahH E) E
 |[]=>fun t d h=>by cases t<;>cases h
 |p::E=>(vV E).put p.1 p.2
def leR(p p':Nat×IR):Prop:=p.1=p'.1/\(∀(ρ:Gh) A w,(p.2.res ρ p.1).ok A w->(p'.2.res ρ p'.1).ok A w)/\(∀ρ:Gh,(p.2.res ρ p.1).blk=(p'.2.res ρ p'.1).blk)/\∀n,p.2.cj n->p'.2.cj n
inductive G3:aP->aP->Prop
 |nil:G3 [] []
 |cons {p p':Nat×IR} {R R':aP} (h:leR p p') (hs:G3 R R'):G3 (p::R) (p'::R')
def rsN:aP->Option Unit
 |[]=>O ()
 |_=>wC
def rsR(id t:Nat)(q:aP->Option γ):aP->Option (List (U.cH t)×γ)
 |(i, .row t' l)::R=>match zb i id with
  |true=>(tK t' t l).bind fun l=>(q R).map fun g=>(l,g)
  |false=>wC
 |_=>wC
def CP(q:aP->Option γ)(d:γ->aP):Prop:=∀R g,q R=O g->G3 R (d g)
theorem CP.nil:CP rsN (fun _=>[]):=fun R g h=>by
 cases R with
 |nil=>exact .nil
 |cons p R=>cases h
theorem CP.row{id t:Nat}{q:aP->Option γ}{d:γ->aP}(hq:CP q d):CP (rsR id t q) (fun x=>(id, .row t x.1)::d x.2):=fun R g h=>by
 obtain⟨i,t',l,R',rfl,hcd,h9⟩:∃i t' l R',R=(i,IR.row t' l)::R'/\zb i id=wE/\((tK t' t l).bind fun l=>(q R').map fun g=>(l,g))=O g:=by
  unfold rsR at h
  split at h
  ·split at h
   ·rename_i hcd;exact⟨_,_,_,_,rfl,hcd,h⟩
   ·cases h
  ·cases h
 have e1:=fB hcd
 subst e1
 obtain⟨l',hl,h9⟩:=zi.1 h9
 obtain⟨g',hg,rfl⟩:=zf.1 h9
 obtain⟨rfl,rfl⟩:=l8 hl
 exact .cons ⟨rfl,fun ρ A w h=>h,fun ρ=>rfl,fun n h=>h⟩ (hq _ _ hg)
def ajW(id T:Nat)(f:List AV->Option β)(q:aP->Option γ):aP->Option (β×γ)
 |(i, .box T' cs)::R=>match zb i id&&zb T' T with
  |true=>(f cs).bind fun b=>(q R).map fun g=>(b,g)
  |false=>wC
 |_=>wC
theorem CP.atT{id T:Nat}{f:List AV->Option β}{c:β->List AV}{q:aP->Option γ}{d:γ->aP}(hf:KO f c)(hq:CP q d):CP (ajW id T f q) (fun x=>(id, .box T (c x.1))::d x.2):=fun R g h=>by
 obtain⟨i,T',cs,R',rfl,hcd,h9⟩:∃i T' cs R',R=(i,IR.box T' cs)::R'/\(zb i id&&zb T' T)=wE/\((f cs).bind fun b=>(q R').map fun g=>(b,g))=O g:=by
  unfold ajW at h
  split at h
  ·split at h
   ·rename_i hcd;exact⟨_,_,_,_,rfl,hcd,h⟩
   ·cases h
  ·cases h
 rw[ze]at hcd
 have e1:=fB hcd.1
 have e2:=fB hcd.2
 subst e1 e2
 obtain⟨b,hb,h9⟩:=zi.1 h9
 obtain⟨g',hg,rfl⟩:=zf.1 h9
 obtain⟨k1,k2⟩:=hf _ _ hb
 exact .cons ⟨rfl,fun ρ A w ⟨us,h1,h2⟩=>⟨us,h1,k1 ρ A w us h2⟩,fun ρ=>rfl,fun n hn=>k2 n hn⟩ (hq _ _ hg)
theorem BZ{ρ:Gh}:∀{R R':aP},G3 R R'->bh (aP.res ρ R)=bh (aP.res ρ R')
 |_,_, .nil=>rfl
 |_,_, .cons (p:=p) (p':=p') h hs=>by
  unfold bh aP.res
  rw[zV,zV,xd,xd,h.2.2.1 ρ]
  have:=BZ (ρ:=ρ) hs
  unfold bh aP.res at this
  rw[this]
theorem Lt{ρ:Gh}{A:Nat->Prop}{w:World}:∀{R R':aP},G3 R R'->(∀r∈aP.res ρ R,r.ok A w)->∀r∈aP.res ρ R',r.ok A w
 |_,_, .nil,_=>fun r hr=>by cases hr
 |_,_, .cons (p:=p) (p':=p') h hs,h0=>fun r hr=>by
  rcases zu.1 hr with rfl|hr
  ·exact h.2.1 ρ A w (h0 _ zg)
  ·exact Lt hs (fun r hr=>h0 r (zC _ hr)) r hr
theorem PG{n:Nat}:∀{R R':aP},G3 R R'->aP.cj n R->aP.cj n R'
 |_,_, .nil,h=>h
 |_,_, .cons (p:=p) (p':=p') h hs,h0=>fun q hq=>by
  rcases zu.1 hq with rfl|hq
  ·exact⟨by rw[<-h.1];exact(h0 _ zg).1,h.2.2.2 n (h0 _ zg).2⟩
  ·exact PG hs (fun q hq=>h0 q (zC _ hq)) q hq
def stR(m:Nat)(q:ET->Option γ)(r:aP->Option δ)(s:St):Option (γ×δ):=match zb s.nx m with
 |true=>(q s.E).bind fun g=>(r s.R).map fun h=>(g,h)
 |false=>wC
def iF(m:Nat)(d:γ->Env)(e:δ->aP)(p:γ×δ):St:=⟨ahH (d p.1),e p.2,m⟩
theorem ahO{n0 n m:Nat}{q:ET->Option γ}{r:aP->Option δ}{d:γ->Env}{e:δ->aP}(hq:La q d)(hr:CP r e):qG n0 n (stR m q r) (iF m d e):=fun C s p a w _ h hm=>by
 unfold stR at h
 split at h
 case h_2=>cases h
 rename_i hnx
 have hnx:=fB hnx
 obtain⟨g,hg,h⟩:=zi.1 h
 obtain⟨g',hg',rfl⟩:=zf.1 h
 obtain⟨E,hh,hE,hR,ρ,hag,hsim⟩:=hm
 obtain⟨h1,h2⟩:=hq _ _ hg E hh
 have h3:=hr _ _ hg'
 have hb:bh (aP.res ρ (e g'))=bh (aP.res ρ s.R):=(BZ h3).symm
 have hal:∀b,al C.C (aP.res ρ s.R) b->al C.C (aP.res ρ (e g')) b:=fun b hA=>⟨hA.1,by rw[hb];exact hA.2⟩
 subst hnx
 have hdis:(bh (aP.res ρ (e g'))).Nodup:=by rw[hb];exact hsim.good.DW
 refine⟨d g,vV _,h2 _ hE,PG h3 hR,ρ,hag,hsim.defers.step (fun b _ hA=>⟨hal b hA,rfl⟩),hsim.size,fun t av ht=> ?_,hsim.good.kept,fun x hx=> ?_,hdis,fun b hx=>hsim.good.own b (by rw[<-hb];exact hx)⟩
 ·obtain⟨v,q1,q2⟩:=h1 ρ _ w a.tmps hsim.slots t av ht
  exact⟨v,q1,q2.mono fun b _ hA=>⟨hal b hA,rfl⟩⟩
 ·exact(Lt h3 hsim.good.res x hx).mono (fun b _ hA=>⟨hal b hA,rfl⟩) (fun _ _=>rfl)
end
def rdM{γ γ':Type}(e:γ->γ')(rd:St->Option γ)(s:St):Option γ':=match rd s with
 |some p=>O (e p)
 |none=>wC
theorem qG.m{γ γ':Type}{n0 n:Nat}{rd:St->Option γ}{pat:γ->St}(h:qG n0 n rd pat)(e:γ->γ'){pat':γ'->St}(he:∀p,pat' (e p)=pat p):qG n0 n (rdM e rd) pat':=fun C s p a w hC hr hm=>by
 unfold rdM at hr
 split at hr
 ·rename_i p' hp
  cases hr
  rw[he]
  exact h C s p' a w hC hp hm
 ·cases hr
def ako(c:Code):An->List (Code×An):=
 Code.rec (fun _=>[]) (fun _ _ _ an=>match an with
   | .rb fs t=>[(.skip, .rb fs t)]
   |_=>[]) (fun _ _ x y an=>x an.l++y an.r) (fun _ _ _ x y an=>(match an with
   | .jn γ rd pat l r=>[(.skip, .jn γ rd pat l r)]
   |_=>[])++(x an.l++y an.r)) (fun _ _ x=>x)
  (fun c x an=>match an with
   | .lp γ rd pat Ea b=>(c, .lp γ rd pat Ea b)::x b
   |an=>x an) (fun _ _ _ _ _ _ _=>[]) (fun _ _=>[]) (fun _ _ _=>[]) (fun _ _=>[]) (fun _ _=>[]) (fun _=>[]) (fun _ _=>[]) c
def OM(P:Program)(F:aI)(n0 n:Nat)(fuel:Nat)(p:Code×An):Prop:=match p.2 with
 | .lp _ rd pat Ea b=>qG n0 n rd pat/\OB (nu P F n fuel p.1) rd pat Ea b
 | .jn _ rd pat _ _=>qG n0 n rd pat
 | .rb fs _=>∀f∈fs,aV F f
 |_=>True
theorem aaI{P:Program}{F:aI}{n0 n fuel:Nat}(c:Code):∀an,(∀p∈ako c an,OM P F n0 n fuel p)->KA P F n0 n fuel c an:=by
 induction c with
 |region id ops draw=>
  intro an h
  cases an with
  |rb fs t=>exact h (.skip, .rb fs t) (zD.2 rfl)
  |_=>exact trivial
 |seq x y hx hy=>
  intro an h
  exact⟨hx an.l fun p hp=>h p (yz _ hp),hy an.r fun p hp=>h p (yA _ hp)⟩
 |cond c x y hx hy=>
  intro an h
  refine⟨fun γ rd pat l r he=> ?_,hx an.l fun p hp=>h p (yA _ (yz _ hp)),hy an.r fun p hp=>h p (yA _ (yA _ hp))⟩
  subst he
  exact h (.skip, .jn γ rd pat l r) (yz _ (zD.2 rfl))
 |block id x hx=>exact fun an h=>hx an h
 |loop c hc=>
  intro an h
  cases an with
  |lp γ rd pat Ea b=>
   have h0:=h (c, .lp γ rd pat Ea b) zg
   exact⟨h0.1,h0.2,hc b fun p hp=>h p (zC _ hp)⟩
  |no=>exact hc _ h
  |two l r=>exact hc _ h
  |jn γ rd pat l r=>exact hc _ h
  |rb fs t=>exact hc _ h
 |_=>exact fun an h=>trivial
theorem bV{P:Program}{F:aI}{n0 fuel f:Nat}{fn:Func}{c:Code}{an:An}{l:List (Code×An)}(hf:P.funcs[f]? =O fn)(hb:fn.body=O c)(ho:ako c an=l)(h:∀p∈l,OM P F n0 fn.ntmps fuel p):eW P F n0 fuel f an:=fun fn' c' h1 h2=>by
 rw[hf]at h1
 cases h1
 rw[hb]at h2
 cases h2
 exact aaI c an (by rw[ho];exact h)
def EZ(fn:Func):Code:=match fn.body with
 |some c=>c
 |none=> .skip
theorem bB{fn:Func}(h:fn.body.isNone=wD):fn.body=O (EZ fn):=by
 unfold EZ
 cases hb:fn.body with
 |none=>rw[hb]at h;cases h
 |some c=>rfl
def abE(c:Code):List Code:=Code.rec [] (fun _ _ _=>[]) (fun _ _ x y=>x++y) (fun _ _ _ x y=>x++y) (fun _ _ x=>x) (fun c x=>c::x) (fun _ _ _ _ _ _=>[]) (fun _=>[]) (fun _ _=>[]) (fun _=>[]) (fun _=>[]) [] (fun _=>[]) c
def aU(fn:Func)(i:Nat):Code:=(abE (EZ fn)).getD i .skip
end Go.Iv
end
noncomputable section
namespace Go.Proofs.YtnfljbehcffmcaaGreat
open Go Go.Iv
structure aq where
 aW:Int
 fN:Int
 ak:List aq
instance:Inhabited aq:=⟨⟨0,0,[]⟩⟩
structure GStep where
 bH:Int
 aL:Int
 cG:Int
 fN:Int
 ay:aq
 aG:List GStep
 aJ:List GStep
 aH:List Int
instance:Inhabited GStep:=⟨⟨0,0,0,0,⟨0,0,[]⟩,[],[],[]⟩⟩
structure aN where
 fName:ByteArray
 aY:Int
 aa:Int
 af:Int
 dc:Int
 deriving Inhabited,DecidableEq
structure cA where
 fName:ByteArray
 aa:Int
 af:Int
 ay:aq
 deriving Inhabited
structure Flat where
 ag:List aN
 ai:List cA
 bk:List GStep
 deriving Inhabited
structure View where
 aS:List Int
 nj:Bool
 deriving Inhabited,DecidableEq
structure aD where
 aa:Int
 af:Int
 ah:Int
 deriving Inhabited,DecidableEq
structure Abstract where
 au:aD
 ax:List aD
 aA:aD
 NX:List aD
 deriving Inhabited,DecidableEq
structure bg where
 bG:List Int
 aA:Int
 deriving Inhabited,DecidableEq
structure kV where
 HG:List Int
 aS:List Int
 Ho:List Int
 deriving Inhabited,DecidableEq
structure mS where
 GX:List Int
 bG:List Int
 aA:Int
 deriving Inhabited,DecidableEq
structure Cell where
 BY:Int
 fAt:Int
 ak:List Int
 EA:List Int
 Nj:Int
 deriving Inhabited,DecidableEq
structure iG where
 EA:List bg
 Lj:List Cell
 deriving Inhabited,DecidableEq
structure Part where
 BY:Int
 fAt:Int
 ak:List Int
 aip:List aD
 deriving Inhabited,DecidableEq
structure aj where
 ag:List aD
 au:aD
 ax:List aD
 aA:aD
 deriving Inhabited,DecidableEq
structure Runner where
 fF:Flat
 ai:List aD
 deriving Inhabited
structure aB where
 ag:List aD
 au:aD
 ax:List aD
 aA:aD
 deriving Inhabited,DecidableEq
structure wO where
 aip:List aD
 BY:Int
 fAt:Int
 ak:List Int
 Nj:Int
 adA:Bool
 EA:bg
 deriving Inhabited,DecidableEq
structure Tree where
 fF:Flat
 fV:View
 Lj:List wO
 deriving Inhabited
structure aM where
 aX:Int
 eo:Bool
 deriving Inhabited,DecidableEq
structure pz where
 eT:Int
 bG:Int
 aA:Int
 deriving Inhabited,DecidableEq
structure Machine where
 fF:Flat
 GX:List Int
 ai:List Int
 bG:List Int
 aA:Int
 deriving Inhabited
structure Span where
 aa:Int
 af:Int
 deriving Inhabited,DecidableEq
inductive Ky
 |k3
 |k4
 |k5
 |k24
 |k26
 |k27
 |k29
 |k30
 |k34
 |k36
 |k37
 |k47
 |k52
 |k56
 |k84
 |k90
 |k117
 |k128
 |k129
 |k131
 |k133
 |k137
 |k139
 |k147
 |k166
 |k172
 |k174
 |k256
 |k260
 |k313
 |k331
 |no
def ky:Nat->Ky
 |3=> .k3
 |4=> .k4
 |5=> .k5
 |24=> .k24
 |26=> .k26
 |27=> .k27
 |29=> .k29
 |30=> .k30
 |34=> .k34
 |36=> .k36
 |37=> .k37
 |47=> .k47
 |52=> .k52
 |56=> .k56
 |84=> .k84
 |90=> .k90
 |117=> .k117
 |128=> .k128
 |129=> .k129
 |131=> .k131
 |133=> .k133
 |137=> .k137
 |139=> .k139
 |147=> .k147
 |166=> .k166
 |172=> .k172
 |174=> .k174
 |256=> .k256
 |260=> .k260
 |313=> .k313
 |331=> .k331
 |_=> .no
def CK:Ky->Type
 | .k3=>Int
 | .k4=>Bool
 | .k5=>Int
 | .k24=>List GStep
 | .k26=>Flat
 | .k27=>List Int
 | .k29=>View
 | .k30=>List aD
 | .k34=>aD
 | .k36=>Abstract
 | .k37=>Int
 | .k47=>bg
 | .k52=>kV
 | .k56=>mS
 | .k84=>iG
 | .k90=>Part
 | .k117=>Cell
 | .k128=>aj
 | .k129=>Int
 | .k131=>aN
 | .k133=>Runner
 | .k137=>aq
 | .k139=>cA
 | .k147=>aB
 | .k166=>GStep
 | .k172=>Tree
 | .k174=>wO
 | .k256=>aM
 | .k260=>pz
 | .k313=>Machine
 | .k331=>Span
 | .no=>Unit
abbrev bT(t:Nat):Type:=CK (ky t)
@[reducible] def inhK:(k:Ky)->Inhabited (CK k)
 | .k3=>⟨(default:Int)⟩
 | .k4=>⟨(default:Bool)⟩
 | .k5=>⟨(default:Int)⟩
 | .k24=>⟨(default:List GStep)⟩
 | .k26=>⟨(default:Flat)⟩
 | .k27=>⟨(default:List Int)⟩
 | .k29=>⟨(default:View)⟩
 | .k30=>⟨(default:List aD)⟩
 | .k34=>⟨(default:aD)⟩
 | .k36=>⟨(default:Abstract)⟩
 | .k37=>⟨(default:Int)⟩
 | .k47=>⟨(default:bg)⟩
 | .k52=>⟨(default:kV)⟩
 | .k56=>⟨(default:mS)⟩
 | .k84=>⟨(default:iG)⟩
 | .k90=>⟨(default:Part)⟩
 | .k117=>⟨(default:Cell)⟩
 | .k128=>⟨(default:aj)⟩
 | .k129=>⟨(default:Int)⟩
 | .k131=>⟨(default:aN)⟩
 | .k133=>⟨(default:Runner)⟩
 | .k137=>⟨(default:aq)⟩
 | .k139=>⟨(default:cA)⟩
 | .k147=>⟨(default:aB)⟩
 | .k166=>⟨(default:GStep)⟩
 | .k172=>⟨(default:Tree)⟩
 | .k174=>⟨(default:wO)⟩
 | .k256=>⟨(default:aM)⟩
 | .k260=>⟨(default:pz)⟩
 | .k313=>⟨(default:Machine)⟩
 | .k331=>⟨(default:Span)⟩
 | .no=>⟨()⟩
def szK:Ky->Nat
 | .k3=>1
 | .k4=>1
 | .k5=>1
 | .k24=>1
 | .k26=>3
 | .k27=>1
 | .k29=>2
 | .k30=>1
 | .k34=>3
 | .k36=>8
 | .k37=>1
 | .k47=>2
 | .k52=>3
 | .k56=>3
 | .k84=>2
 | .k90=>4
 | .k117=>5
 | .k128=>8
 | .k129=>1
 | .k131=>5
 | .k133=>4
 | .k137=>3
 | .k139=>6
 | .k147=>8
 | .k166=>10
 | .k172=>6
 | .k174=>8
 | .k256=>2
 | .k260=>3
 | .k313=>7
 | .k331=>2
 | .no=>0
def mK:(k:Ky)->CK k->List (bP bT)
 | .k3,x=>(fun x:Int=>[.n .i64 x]) x
 | .k4,x=>(fun x:Bool=>[.b x]) x
 | .k5,x=>(fun x:Int=>[.n .u8 x]) x
 | .k24,x=>(fun x:List GStep=>[.sl 166 x]) x
 | .k26,x=>(fun x:Flat=>[.sl 131 x.ag, .sl 139 x.ai, .sl 166 x.bk]) x
 | .k27,x=>(fun x:List Int=>[.sl 3 x]) x
 | .k29,x=>(fun x:View=>[.sl 3 x.aS, .b x.nj]) x
 | .k30,x=>(fun x:List aD=>[.sl 34 x]) x
 | .k34,x=>(fun x:aD=>[.n .i64 x.aa, .n .i64 x.af, .n .i64 x.ah]) x
 | .k36,x=>(fun x:Abstract=>[.n .i64 x.au.aa, .n .i64 x.au.af, .n .i64 x.au.ah, .sl 34 x.ax, .n .i64 x.aA.aa, .n .i64 x.aA.af, .n .i64 x.aA.ah, .sl 34 x.NX]) x
 | .k37,x=>(fun x:Int=>[.n .i64 x]) x
 | .k47,x=>(fun x:bg=>[.sl 3 x.bG, .n .i64 x.aA]) x
 | .k52,x=>(fun x:kV=>[.sl 3 x.HG, .sl 3 x.aS, .sl 3 x.Ho]) x
 | .k56,x=>(fun x:mS=>[.sl 3 x.GX, .sl 3 x.bG, .n .i64 x.aA]) x
 | .k84,x=>(fun x:iG=>[.sl 47 x.EA, .sl 117 x.Lj]) x
 | .k90,x=>(fun x:Part=>[.n .i64 x.BY, .n .i64 x.fAt, .sl 3 x.ak, .sl 34 x.aip]) x
 | .k117,x=>(fun x:Cell=>[.n .i64 x.BY, .n .i64 x.fAt, .sl 3 x.ak, .sl 3 x.EA, .n .i64 x.Nj]) x
 | .k128,x=>(fun x:aj=>[.sl 34 x.ag, .n .i64 x.au.aa, .n .i64 x.au.af, .n .i64 x.au.ah, .sl 34 x.ax, .n .i64 x.aA.aa, .n .i64 x.aA.af, .n .i64 x.aA.ah]) x
 | .k129,x=>(fun x:Int=>[.n .i64 x]) x
 | .k131,x=>(fun x:aN=>[.s x.fName, .n .i64 x.aY, .n .i64 x.aa, .n .i64 x.af, .n .i64 x.dc]) x
 | .k133,x=>(fun x:Runner=>[.sl 131 x.fF.ag, .sl 139 x.fF.ai, .sl 166 x.fF.bk, .sl 34 x.ai]) x
 | .k137,x=>(fun x:aq=>[.n .i64 x.aW, .n .i64 x.fN, .sl 137 x.ak]) x
 | .k139,x=>(fun x:cA=>[.s x.fName, .n .i64 x.aa, .n .i64 x.af, .n .i64 x.ay.aW, .n .i64 x.ay.fN, .sl 137 x.ay.ak]) x
 | .k147,x=>(fun x:aB=>[.sl 34 x.ag, .n .i64 x.au.aa, .n .i64 x.au.af, .n .i64 x.au.ah, .sl 34 x.ax, .n .i64 x.aA.aa, .n .i64 x.aA.af, .n .i64 x.aA.ah]) x
 | .k166,x=>(fun x:GStep=>[.n .i64 x.bH, .n .i64 x.aL, .n .i64 x.cG, .n .i64 x.fN, .n .i64 x.ay.aW, .n .i64 x.ay.fN, .sl 137 x.ay.ak, .sl 166 x.aG, .sl 166 x.aJ, .sl 3 x.aH]) x
 | .k172,x=>(fun x:Tree=>[.sl 131 x.fF.ag, .sl 139 x.fF.ai, .sl 166 x.fF.bk, .sl 3 x.fV.aS, .b x.fV.nj, .sl 174 x.Lj]) x
 | .k174,x=>(fun x:wO=>[.sl 34 x.aip, .n .i64 x.BY, .n .i64 x.fAt, .sl 3 x.ak, .n .i64 x.Nj, .b x.adA, .sl 3 x.EA.bG, .n .i64 x.EA.aA]) x
 | .k256,x=>(fun x:aM=>[.n .i64 x.aX, .b x.eo]) x
 | .k260,x=>(fun x:pz=>[.n .i64 x.eT, .n .i64 x.bG, .n .i64 x.aA]) x
 | .k313,x=>(fun x:Machine=>[.sl 131 x.fF.ag, .sl 139 x.fF.ai, .sl 166 x.fF.bk, .sl 3 x.GX, .sl 3 x.ai, .sl 3 x.bG, .n .i64 x.aA]) x
 | .k331,x=>(fun x:Span=>[.n .i64 x.aa, .n .i64 x.af]) x
 | .no,_=>[]
instance uni:qT:=⟨bT,fun t=>inhK (ky t),fun t=>szK (ky t),fun t=>mK (ky t)⟩
def Xk:(k:Ky)->List AV->Option (CK k)
 | .k3=>fun cs=>((cS (gH .i64) nU) cs).map (fun g:Int×Unit=>(g.1:Int))
 | .k4=>fun cs=>((cS RO nU) cs).map (fun g:Bool×Unit=>(g.1:Bool))
 | .k5=>fun cs=>((cS (gH .u8) nU) cs).map (fun g:Int×Unit=>(g.1:Int))
 | .k24=>fun cs=>((cS (iW 166) nU) cs).map (fun g:(List (bT 166))×Unit=>(g.1:List GStep))
 | .k26=>fun cs=>((cS (iW 131) (cS (iW 139) (cS (iW 166) nU))) cs).map (fun g:(List (bT 131))×(List (bT 139))×(List (bT 166))×Unit=>((Flat.mk g.1 g.2.1 g.2.2.1):Flat))
 | .k27=>fun cs=>((cS (iW 3) nU) cs).map (fun g:(List (bT 3))×Unit=>(g.1:List Int))
 | .k29=>fun cs=>((cS (iW 3) (cS RO nU)) cs).map (fun g:(List (bT 3))×Bool×Unit=>((View.mk g.1 g.2.1):View))
 | .k30=>fun cs=>((cS (iW 34) nU) cs).map (fun g:(List (bT 34))×Unit=>(g.1:List aD))
 | .k34=>fun cs=>((cS (gH .i64) (cS (gH .i64) (cS (gH .i64) nU))) cs).map (fun g:Int×Int×Int×Unit=>((aD.mk g.1 g.2.1 g.2.2.1):aD))
 | .k36=>fun cs=>((cS (gH .i64) (cS (gH .i64) (cS (gH .i64) (cS (iW 34) (cS (gH .i64) (cS (gH .i64) (cS (gH .i64) (cS (iW 34) nU)))))))) cs).map (fun g:Int×Int×Int×(List (bT 34))×Int×Int×Int×(List (bT 34))×Unit=>((Abstract.mk (aD.mk g.1 g.2.1 g.2.2.1) g.2.2.2.1 (aD.mk g.2.2.2.2.1 g.2.2.2.2.2.1 g.2.2.2.2.2.2.1) g.2.2.2.2.2.2.2.1):Abstract))
 | .k37=>fun cs=>((cS (gH .i64) nU) cs).map (fun g:Int×Unit=>(g.1:Int))
 | .k47=>fun cs=>((cS (iW 3) (cS (gH .i64) nU)) cs).map (fun g:(List (bT 3))×Int×Unit=>((bg.mk g.1 g.2.1):bg))
 | .k52=>fun cs=>((cS (iW 3) (cS (iW 3) (cS (iW 3) nU))) cs).map (fun g:(List (bT 3))×(List (bT 3))×(List (bT 3))×Unit=>((kV.mk g.1 g.2.1 g.2.2.1):kV))
 | .k56=>fun cs=>((cS (iW 3) (cS (iW 3) (cS (gH .i64) nU))) cs).map (fun g:(List (bT 3))×(List (bT 3))×Int×Unit=>((mS.mk g.1 g.2.1 g.2.2.1):mS))
 | .k84=>fun cs=>((cS (iW 47) (cS (iW 117) nU)) cs).map (fun g:(List (bT 47))×(List (bT 117))×Unit=>((iG.mk g.1 g.2.1):iG))
 | .k90=>fun cs=>((cS (gH .i64) (cS (gH .i64) (cS (iW 3) (cS (iW 34) nU)))) cs).map (fun g:Int×Int×(List (bT 3))×(List (bT 34))×Unit=>((Part.mk g.1 g.2.1 g.2.2.1 g.2.2.2.1):Part))
 | .k117=>fun cs=>((cS (gH .i64) (cS (gH .i64) (cS (iW 3) (cS (iW 3) (cS (gH .i64) nU))))) cs).map (fun g:Int×Int×(List (bT 3))×(List (bT 3))×Int×Unit=>((Cell.mk g.1 g.2.1 g.2.2.1 g.2.2.2.1 g.2.2.2.2.1):Cell))
 | .k128=>fun cs=>((cS (iW 34) (cS (gH .i64) (cS (gH .i64) (cS (gH .i64) (cS (iW 34) (cS (gH .i64) (cS (gH .i64) (cS (gH .i64) nU)))))))) cs).map (fun g:(List (bT 34))×Int×Int×Int×(List (bT 34))×Int×Int×Int×Unit=>((aj.mk g.1 (aD.mk g.2.1 g.2.2.1 g.2.2.2.1) g.2.2.2.2.1 (aD.mk g.2.2.2.2.2.1 g.2.2.2.2.2.2.1 g.2.2.2.2.2.2.2.1)):aj))
 | .k129=>fun cs=>((cS (gH .i64) nU) cs).map (fun g:Int×Unit=>(g.1:Int))
 | .k131=>fun cs=>((cS asS (cS (gH .i64) (cS (gH .i64) (cS (gH .i64) (cS (gH .i64) nU))))) cs).map (fun g:ByteArray×Int×Int×Int×Int×Unit=>((aN.mk g.1 g.2.1 g.2.2.1 g.2.2.2.1 g.2.2.2.2.1):aN))
 | .k133=>fun cs=>((cS (iW 131) (cS (iW 139) (cS (iW 166) (cS (iW 34) nU)))) cs).map (fun g:(List (bT 131))×(List (bT 139))×(List (bT 166))×(List (bT 34))×Unit=>((Runner.mk (Flat.mk g.1 g.2.1 g.2.2.1) g.2.2.2.1):Runner))
 | .k137=>fun cs=>((cS (gH .i64) (cS (gH .i64) (cS (iW 137) nU))) cs).map (fun g:Int×Int×(List (bT 137))×Unit=>((aq.mk g.1 g.2.1 g.2.2.1):aq))
 | .k139=>fun cs=>((cS asS (cS (gH .i64) (cS (gH .i64) (cS (gH .i64) (cS (gH .i64) (cS (iW 137) nU)))))) cs).map (fun g:ByteArray×Int×Int×Int×Int×(List (bT 137))×Unit=>((cA.mk g.1 g.2.1 g.2.2.1 (aq.mk g.2.2.2.1 g.2.2.2.2.1 g.2.2.2.2.2.1)):cA))
 | .k147=>fun cs=>((cS (iW 34) (cS (gH .i64) (cS (gH .i64) (cS (gH .i64) (cS (iW 34) (cS (gH .i64) (cS (gH .i64) (cS (gH .i64) nU)))))))) cs).map (fun g:(List (bT 34))×Int×Int×Int×(List (bT 34))×Int×Int×Int×Unit=>((aB.mk g.1 (aD.mk g.2.1 g.2.2.1 g.2.2.2.1) g.2.2.2.2.1 (aD.mk g.2.2.2.2.2.1 g.2.2.2.2.2.2.1 g.2.2.2.2.2.2.2.1)):aB))
 | .k166=>fun cs=>((cS (gH .i64) (cS (gH .i64) (cS (gH .i64) (cS (gH .i64) (cS (gH .i64) (cS (gH .i64) (cS (iW 137) (cS (iW 166) (cS (iW 166) (cS (iW 3) nU)))))))))) cs).map (fun g:Int×Int×Int×Int×Int×Int×(List (bT 137))×(List (bT 166))×(List (bT 166))×(List (bT 3))×Unit=>((GStep.mk g.1 g.2.1 g.2.2.1 g.2.2.2.1 (aq.mk g.2.2.2.2.1 g.2.2.2.2.2.1 g.2.2.2.2.2.2.1) g.2.2.2.2.2.2.2.1 g.2.2.2.2.2.2.2.2.1 g.2.2.2.2.2.2.2.2.2.1):GStep))
 | .k172=>fun cs=>((cS (iW 131) (cS (iW 139) (cS (iW 166) (cS (iW 3) (cS RO (cS (iW 174) nU)))))) cs).map (fun g:(List (bT 131))×(List (bT 139))×(List (bT 166))×(List (bT 3))×Bool×(List (bT 174))×Unit=>((Tree.mk (Flat.mk g.1 g.2.1 g.2.2.1) (View.mk g.2.2.2.1 g.2.2.2.2.1) g.2.2.2.2.2.1):Tree))
 | .k174=>fun cs=>((cS (iW 34) (cS (gH .i64) (cS (gH .i64) (cS (iW 3) (cS (gH .i64) (cS RO (cS (iW 3) (cS (gH .i64) nU)))))))) cs).map (fun g:(List (bT 34))×Int×Int×(List (bT 3))×Int×Bool×(List (bT 3))×Int×Unit=>((wO.mk g.1 g.2.1 g.2.2.1 g.2.2.2.1 g.2.2.2.2.1 g.2.2.2.2.2.1 (bg.mk g.2.2.2.2.2.2.1 g.2.2.2.2.2.2.2.1)):wO))
 | .k256=>fun cs=>((cS (gH .i64) (cS RO nU)) cs).map (fun g:Int×Bool×Unit=>((aM.mk g.1 g.2.1):aM))
 | .k260=>fun cs=>((cS (gH .i64) (cS (gH .i64) (cS (gH .i64) nU))) cs).map (fun g:Int×Int×Int×Unit=>((pz.mk g.1 g.2.1 g.2.2.1):pz))
 | .k313=>fun cs=>((cS (iW 131) (cS (iW 139) (cS (iW 166) (cS (iW 3) (cS (iW 3) (cS (iW 3) (cS (gH .i64) nU))))))) cs).map (fun g:(List (bT 131))×(List (bT 139))×(List (bT 166))×(List (bT 3))×(List (bT 3))×(List (bT 3))×Int×Unit=>((Machine.mk (Flat.mk g.1 g.2.1 g.2.2.1) g.2.2.2.1 g.2.2.2.2.1 g.2.2.2.2.2.1 g.2.2.2.2.2.2.1):Machine))
 | .k331=>fun cs=>((cS (gH .i64) (cS (gH .i64) nU)) cs).map (fun g:Int×Int×Unit=>((Span.mk g.1 g.2.1):Span))
 | .no=>fun _=>wC
theorem SY:(k:Ky)->Pk (Xk k) (mK k)
 | .k3=>Pk.map (fun g:Int×Unit=>(g.1:Int)) (.cons (.i .i64) .nil) (fun _=>rfl)
 | .k4=>Pk.map (fun g:Bool×Unit=>(g.1:Bool)) (.cons .b .nil) (fun _=>rfl)
 | .k5=>Pk.map (fun g:Int×Unit=>(g.1:Int)) (.cons (.i .u8) .nil) (fun _=>rfl)
 | .k24=>Pk.map (fun g:(List (bT 166))×Unit=>(g.1:List GStep)) (.cons (.l 166) .nil) (fun _=>rfl)
 | .k26=>Pk.map (fun g:(List (bT 131))×(List (bT 139))×(List (bT 166))×Unit=>((Flat.mk g.1 g.2.1 g.2.2.1):Flat)) (.cons (.l 131) (.cons (.l 139) (.cons (.l 166) .nil))) (fun _=>rfl)
 | .k27=>Pk.map (fun g:(List (bT 3))×Unit=>(g.1:List Int)) (.cons (.l 3) .nil) (fun _=>rfl)
 | .k29=>Pk.map (fun g:(List (bT 3))×Bool×Unit=>((View.mk g.1 g.2.1):View)) (.cons (.l 3) (.cons .b .nil)) (fun _=>rfl)
 | .k30=>Pk.map (fun g:(List (bT 34))×Unit=>(g.1:List aD)) (.cons (.l 34) .nil) (fun _=>rfl)
 | .k34=>Pk.map (fun g:Int×Int×Int×Unit=>((aD.mk g.1 g.2.1 g.2.2.1):aD)) (.cons (.i .i64) (.cons (.i .i64) (.cons (.i .i64) .nil))) (fun _=>rfl)
 | .k36=>Pk.map (fun g:Int×Int×Int×(List (bT 34))×Int×Int×Int×(List (bT 34))×Unit=>((Abstract.mk (aD.mk g.1 g.2.1 g.2.2.1) g.2.2.2.1 (aD.mk g.2.2.2.2.1 g.2.2.2.2.2.1 g.2.2.2.2.2.2.1) g.2.2.2.2.2.2.2.1):Abstract)) (.cons (.i .i64) (.cons (.i .i64) (.cons (.i .i64) (.cons (.l 34) (.cons (.i .i64) (.cons (.i .i64) (.cons (.i .i64) (.cons (.l 34) .nil)))))))) (fun _=>rfl)
 | .k37=>Pk.map (fun g:Int×Unit=>(g.1:Int)) (.cons (.i .i64) .nil) (fun _=>rfl)
 | .k47=>Pk.map (fun g:(List (bT 3))×Int×Unit=>((bg.mk g.1 g.2.1):bg)) (.cons (.l 3) (.cons (.i .i64) .nil)) (fun _=>rfl)
 | .k52=>Pk.map (fun g:(List (bT 3))×(List (bT 3))×(List (bT 3))×Unit=>((kV.mk g.1 g.2.1 g.2.2.1):kV)) (.cons (.l 3) (.cons (.l 3) (.cons (.l 3) .nil))) (fun _=>rfl)
 | .k56=>Pk.map (fun g:(List (bT 3))×(List (bT 3))×Int×Unit=>((mS.mk g.1 g.2.1 g.2.2.1):mS)) (.cons (.l 3) (.cons (.l 3) (.cons (.i .i64) .nil))) (fun _=>rfl)
 | .k84=>Pk.map (fun g:(List (bT 47))×(List (bT 117))×Unit=>((iG.mk g.1 g.2.1):iG)) (.cons (.l 47) (.cons (.l 117) .nil)) (fun _=>rfl)
 | .k90=>Pk.map (fun g:Int×Int×(List (bT 3))×(List (bT 34))×Unit=>((Part.mk g.1 g.2.1 g.2.2.1 g.2.2.2.1):Part)) (.cons (.i .i64) (.cons (.i .i64) (.cons (.l 3) (.cons (.l 34) .nil)))) (fun _=>rfl)
 | .k117=>Pk.map (fun g:Int×Int×(List (bT 3))×(List (bT 3))×Int×Unit=>((Cell.mk g.1 g.2.1 g.2.2.1 g.2.2.2.1 g.2.2.2.2.1):Cell)) (.cons (.i .i64) (.cons (.i .i64) (.cons (.l 3) (.cons (.l 3) (.cons (.i .i64) .nil))))) (fun _=>rfl)
 | .k128=>Pk.map (fun g:(List (bT 34))×Int×Int×Int×(List (bT 34))×Int×Int×Int×Unit=>((aj.mk g.1 (aD.mk g.2.1 g.2.2.1 g.2.2.2.1) g.2.2.2.2.1 (aD.mk g.2.2.2.2.2.1 g.2.2.2.2.2.2.1 g.2.2.2.2.2.2.2.1)):aj)) (.cons (.l 34) (.cons (.i .i64) (.cons (.i .i64) (.cons (.i .i64) (.cons (.l 34) (.cons (.i .i64) (.cons (.i .i64) (.cons (.i .i64) .nil)))))))) (fun _=>rfl)
 | .k129=>Pk.map (fun g:Int×Unit=>(g.1:Int)) (.cons (.i .i64) .nil) (fun _=>rfl)
 | .k131=>Pk.map (fun g:ByteArray×Int×Int×Int×Int×Unit=>((aN.mk g.1 g.2.1 g.2.2.1 g.2.2.2.1 g.2.2.2.2.1):aN)) (.cons .s (.cons (.i .i64) (.cons (.i .i64) (.cons (.i .i64) (.cons (.i .i64) .nil))))) (fun _=>rfl)
 | .k133=>Pk.map (fun g:(List (bT 131))×(List (bT 139))×(List (bT 166))×(List (bT 34))×Unit=>((Runner.mk (Flat.mk g.1 g.2.1 g.2.2.1) g.2.2.2.1):Runner)) (.cons (.l 131) (.cons (.l 139) (.cons (.l 166) (.cons (.l 34) .nil)))) (fun _=>rfl)
 | .k137=>Pk.map (fun g:Int×Int×(List (bT 137))×Unit=>((aq.mk g.1 g.2.1 g.2.2.1):aq)) (.cons (.i .i64) (.cons (.i .i64) (.cons (.l 137) .nil))) (fun _=>rfl)
 | .k139=>Pk.map (fun g:ByteArray×Int×Int×Int×Int×(List (bT 137))×Unit=>((cA.mk g.1 g.2.1 g.2.2.1 (aq.mk g.2.2.2.1 g.2.2.2.2.1 g.2.2.2.2.2.1)):cA)) (.cons .s (.cons (.i .i64) (.cons (.i .i64) (.cons (.i .i64) (.cons (.i .i64) (.cons (.l 137) .nil)))))) (fun _=>rfl)
 | .k147=>Pk.map (fun g:(List (bT 34))×Int×Int×Int×(List (bT 34))×Int×Int×Int×Unit=>((aB.mk g.1 (aD.mk g.2.1 g.2.2.1 g.2.2.2.1) g.2.2.2.2.1 (aD.mk g.2.2.2.2.2.1 g.2.2.2.2.2.2.1 g.2.2.2.2.2.2.2.1)):aB)) (.cons (.l 34) (.cons (.i .i64) (.cons (.i .i64) (.cons (.i .i64) (.cons (.l 34) (.cons (.i .i64) (.cons (.i .i64) (.cons (.i .i64) .nil)))))))) (fun _=>rfl)
 | .k166=>Pk.map (fun g:Int×Int×Int×Int×Int×Int×(List (bT 137))×(List (bT 166))×(List (bT 166))×(List (bT 3))×Unit=>((GStep.mk g.1 g.2.1 g.2.2.1 g.2.2.2.1 (aq.mk g.2.2.2.2.1 g.2.2.2.2.2.1 g.2.2.2.2.2.2.1) g.2.2.2.2.2.2.2.1 g.2.2.2.2.2.2.2.2.1 g.2.2.2.2.2.2.2.2.2.1):GStep)) (.cons (.i .i64) (.cons (.i .i64) (.cons (.i .i64) (.cons (.i .i64) (.cons (.i .i64) (.cons (.i .i64) (.cons (.l 137) (.cons (.l 166) (.cons (.l 166) (.cons (.l 3) .nil)))))))))) (fun _=>rfl)
 | .k172=>Pk.map (fun g:(List (bT 131))×(List (bT 139))×(List (bT 166))×(List (bT 3))×Bool×(List (bT 174))×Unit=>((Tree.mk (Flat.mk g.1 g.2.1 g.2.2.1) (View.mk g.2.2.2.1 g.2.2.2.2.1) g.2.2.2.2.2.1):Tree)) (.cons (.l 131) (.cons (.l 139) (.cons (.l 166) (.cons (.l 3) (.cons .b (.cons (.l 174) .nil)))))) (fun _=>rfl)
 | .k174=>Pk.map (fun g:(List (bT 34))×Int×Int×(List (bT 3))×Int×Bool×(List (bT 3))×Int×Unit=>((wO.mk g.1 g.2.1 g.2.2.1 g.2.2.2.1 g.2.2.2.2.1 g.2.2.2.2.2.1 (bg.mk g.2.2.2.2.2.2.1 g.2.2.2.2.2.2.2.1)):wO)) (.cons (.l 34) (.cons (.i .i64) (.cons (.i .i64) (.cons (.l 3) (.cons (.i .i64) (.cons .b (.cons (.l 3) (.cons (.i .i64) .nil)))))))) (fun _=>rfl)
 | .k256=>Pk.map (fun g:Int×Bool×Unit=>((aM.mk g.1 g.2.1):aM)) (.cons (.i .i64) (.cons .b .nil)) (fun _=>rfl)
 | .k260=>Pk.map (fun g:Int×Int×Int×Unit=>((pz.mk g.1 g.2.1 g.2.2.1):pz)) (.cons (.i .i64) (.cons (.i .i64) (.cons (.i .i64) .nil))) (fun _=>rfl)
 | .k313=>Pk.map (fun g:(List (bT 131))×(List (bT 139))×(List (bT 166))×(List (bT 3))×(List (bT 3))×(List (bT 3))×Int×Unit=>((Machine.mk (Flat.mk g.1 g.2.1 g.2.2.1) g.2.2.2.1 g.2.2.2.2.1 g.2.2.2.2.2.1 g.2.2.2.2.2.2.1):Machine)) (.cons (.l 131) (.cons (.l 139) (.cons (.l 166) (.cons (.l 3) (.cons (.l 3) (.cons (.l 3) (.cons (.i .i64) .nil))))))) (fun _=>rfl)
 | .k331=>Pk.map (fun g:Int×Int×Unit=>((Span.mk g.1 g.2.1):Span)) (.cons (.i .i64) (.cons (.i .i64) .nil)) (fun _=>rfl)
 | .no=> .none
def ae8:(k:Ky)->List (CK k)->Option (List Int)
 | .k5,l=>O l
 |_,_=>wC
theorem Vy(l:List Int):l.flatMap (fun x=>[bP.n (cH:=bT) .u8 x])=l.map (.n .u8):=by
 induction l with
 |nil=>rfl
 |cons a l ih=>rw[xq,ih];rfl
theorem UN:(k:Ky)->(l:List (CK k))->(ns:List Int)->ae8 k l=O ns->l.flatMap (mK k)=ns.map (.n .u8)/\szK k=1:=by
 intro k l ns h
 cases k<;>first|(cases h;done)|(cases h;exact⟨Vy _,rfl⟩)
theorem asb(k:Ky)(x:CK k):(mK k x).length=szK k:=by cases k<;>rfl
theorem atD(k:Ky)(x:CK k):(mK k x).all gz=true:=by cases k<;>rfl
theorem asz(k:Ky)(x:CK k)(ρ:Gh):(mK k x).map (bP.sub ρ)=mK k x:=Tf _ (by cases k<;>rfl) ρ
theorem auo(k:Ky)(x:CK k)(n:Nat):∀c∈mK k x,cj n c:=Vx _ (by cases k<;>rfl) n
instance uniL:mQ where
 len:=fun t x=>asb (ky t) x
 one:=fun t x=>atD (ky t) x
 clo:=fun t x ρ=>asz (ky t) x ρ
 p9:=fun t x n=>auo (ky t) x n
 parse:=fun t=>Xk (ky t)
 kB:=fun t=>SY (ky t)
 acI:=fun t=>ae8 (ky t)
 tP:=fun t=>UN (ky t)
 fz:=fun f=>zb f 20||zb f 26||zb f 83||zb f 156||zb f 160||zb f 236||zb f 96||zb f 179||zb f 88||zb f 167||zb f 171||zb f 247
end Go.Proofs.YtnfljbehcffmcaaGreat
end
noncomputable section
namespace Go.Iv
variable [U:qT] [L:mQ]
open Go Go.RowKit
def kR(f:Nat->Nat)(n:Nat):AV->AV:=Nat.rec (fun d=>match d with
 | .own i=> .own (f i)
 | .ptr i o=> .ptr (f i) o
 | .ra i t m o=> .ra (f i) t m o
 |d=>d) (fun _ ih d=>match d with
 | .own i=> .own (f i)
 | .ptr i o=> .ptr (f i) o
 | .ra i t m o=> .ra (f i) t m o
 | .agg cs=> .agg (cs.map ih)
 | .iA cs=> .iA (cs.map ih)
 | .fn g cs=> .fn g (cs.map ih)
 | .fp cs=> .fp (cs.map ih)
 |d=>d) n
theorem iz{f:Nat->Nat}{ρ ρ':Gh}{p:Nat->Bool}(hp:∀i,p i=wE->ρ'.v (f i)=ρ.v i/\ρ'.b (f i)=ρ.b i):∀(n:Nat) {d:AV},kC p n d=wE->(kR f n d).sub ρ'=d.sub ρ
 |0,d,h=>by
  cases d with
  |lit v=>show bP.sub ρ' (.lit v)=_;rw[bE,bE]
  |sl t l=>show bP.sub ρ' (.sl t l)=_;rw[fG,fG]
  |rp v k=>show bP.sub ρ' (.rp v k)=_;simp only[bP.sub]
  |own i=>show bP.sub ρ' (.own (f i))=_;rw[cX,cX,(hp _ h).1]
  |ptr i o=>show bP.sub ρ' (.ptr (f i) o)=_;rw[ep,ep,(hp _ h).2]
  |ra i t m o=>show bP.sub ρ' (.ra (f i) t m o)=_;rw[iH,iH,(hp _ h).1]
  |_=>cases h
 |n+1,d,h=>by
  have hL:∀{cs:List AV},cs.all (kC p n)=wE->(cs.map (kR f n)).map (bP.sub ρ')=cs.map (bP.sub ρ):=fun{cs} h=>by
   rw[yc]
   exact zQ fun c hc=>iz hp n (zm.1 h c hc)
  cases d with
  |lit v=>show bP.sub ρ' (.lit v)=_;rw[bE,bE]
  |sl t l=>show bP.sub ρ' (.sl t l)=_;rw[fG,fG]
  |rp v k=>show bP.sub ρ' (.rp v k)=_;simp only[bP.sub]
  |own i=>show bP.sub ρ' (.own (f i))=_;rw[cX,cX,(hp _ h).1]
  |ptr i o=>show bP.sub ρ' (.ptr (f i) o)=_;rw[ep,ep,(hp _ h).2]
  |ra i t m o=>show bP.sub ρ' (.ra (f i) t m o)=_;rw[iH,iH,(hp _ h).1]
  |fp cs=>show bP.sub ρ' (.fp (List.map (kR f n) cs))=_;rw[lu,lu,hL h]
  |agg cs=>show bP.sub ρ' (.agg (List.map (kR f n) cs))=_;rw[dQ,dQ,hL h]
  |iA cs=>show bP.sub ρ' (.iA (List.map (kR f n) cs))=_;rw[jC,jC,hL h]
  |fn g cs=>show bP.sub ρ' (.fn g (List.map (kR f n) cs))=_;rw[sH,sH,hL h]
theorem kz{f:Nat->Nat}{p:Nat->Bool}{m:Nat}(hp:∀i,p i=wE->f i<m):∀(n:Nat) {d:AV},kC p n d=wE->cj m (kR f n d)
 |0,d,h=>by
  cases d<;>first|exact .lit _|exact .sl _ _|exact .rp _ _|exact .own _ (hp _ h)|exact .ptr _ _ (hp _ h)|exact .ra _ _ _ _ (hp _ h)|(cases h;done)
 |n+1,d,h=>by
  have hL:∀{cs:List AV},cs.all (kC p n)=wE->∀c∈cs.map (kR f n),cj m c:=fun{cs} h c hc=>by
   obtain⟨c',h1,rfl⟩:=zH.1 hc
   exact kz hp n (zm.1 h c' h1)
  cases d<;>first|exact .lit _|exact .sl _ _|exact .rp _ _|exact .own _ (hp _ h)|exact .ptr _ _ (hp _ h)|exact .ra _ _ _ _ (hp _ h)|exact .agg _ (hL h)|exact .iA _ (hL h)|exact .fn _ _ (hL h)|exact .fp _ (hL h)
def Kg(f:Nat->Nat):IR->IR
 | .box T cs=> .box T (cs.map (kR f 4))
 |r=>r
def mc(l:List Nat)(i:Nat):Nat:=List.rec 0 (fun j _ ih=>match zb j i with
 |true=>0
 |false=>ih+1) l
theorem uE:∀{l:List Nat} {i:Nat},i∈l->l[mc l i]? =O i
 |j::l,i,h=>by
  show (j::l)[match zb j i with
   |true=>0
   |false=>mc l i+1]? =O i
  cases hb:zb j i with
  |true=>have:=fB hb;subst this;rfl
  |false=>
   have hne:i≠j:=fun e=>by subst e;rw[Nat.beq_refl]at hb;cases hb
   exact uE ((zu.1 h).resolve_left hne)
def JG(ts:List Nat)(E:ET):Env:=ts.filterMap fun t=>(cn E t).map fun d=>(t,d)
theorem Rj{E:ET}:∀(ts:List Nat) t d,Env.get (JG ts E) t=O d->cn E t=O d:=fun ts=>by
 induction ts with
 |nil=>intro t d h;cases h
 |cons u ts ih=>
  intro t d h
  unfold JG at h
  rw[xd]at h
  cases hu:cn E u with
  |none=>rw[hu]at h;exact ih t d h
  |some x=>
   rw[hu]at h
   by_cases hut:u=t
   ·subst hut
    have h:Env.get ((u,x)::_) u=O d:=h
    rw[Env.dN]at h
    rw[hu,h]
   ·have h:Env.get ((u,x)::_) t=O d:=h
    rw[Env.cV _ _ hut]at h
    exact ih t d h
def pick(i:Nat)(R:aP):Option ((Nat×IR)×aP):=List.rec wC (fun p R ih=>match zb p.1 i with
 |true=>O (p,R)
 |false=>match ih with
  |some x=>O (x.1,p::x.2)
  |none=>wC) R
theorem ED{i:Nat}:∀{R:aP} {x},pick i R=O x->List.Perm R (x.1::x.2)
 |[],x,h=>by cases h
 |p::R,x,h=>by
  have h:(match zb p.1 i with
   |true=>O (p,R)
   |false=>match pick i R with
    |some x=>O (x.1,p::x.2)
    |none=>wC)=O x:=h
  split at h
  ·cases h;exact .refl _
  ·split at h
   ·rename_i y hy
    cases h
    exact((ED hy).cons p).trans (.swap _ _ _)
   ·cases h
def ny(ns:List Nat):aP->aP×aP:=List.rec (fun R=>([],R)) (fun i _ ih R=>match pick i R with
 |some x=>(x.1::(ih x.2).1,(ih x.2).2)
 |none=>ih R) ns
theorem mz:∀(ns:List Nat) (R:aP),List.Perm R ((ny ns R).1++(ny ns R).2)
 |[],R=> .refl _
 |i::ns,R=>by
  show List.Perm R ((match pick i R with
   |some x=>(x.1::(ny ns x.2).1,(ny ns x.2).2)
   |none=>ny ns R).1++(match pick i R with
   |some x=>(x.1::(ny ns x.2).1,(ny ns x.2).2)
   |none=>ny ns R).2)
  split
  ·rename_i x hx
   exact(ED hx).trans ((mz ns x.2).cons _)
  ·exact mz ns R
def upto(n:Nat):List Nat:=Nat.rec [] (fun i ih=>ih++[i]) n
theorem Ve{n i:Nat}(h:i<n):i∈upto n:=by
 induction n with
 |zero=>omega
 |succ n ih=>
  show i∈upto n++[n]
  by_cases hi:i=n
  ·subst hi;simp
  ·exact yz _ (ih (by omega))
theorem Vo{n i:Nat}(h:i<n):(upto n)[i]? =O i:=by
 induction n with
 |zero=>omega
 |succ n ih=>
  show (upto n++[n])[i]? =O i
  have hl:∀n,(upto n).length=n:=fun n=>by
   induction n with
   |zero=>rfl
   |succ n ih=>show (upto n++[n]).length=n+1;simp[ih]
  by_cases hi:i=n
  ·subst hi;rw[wq (by rw[hl];exact zx _),hl,Nat.sub_self];rfl
  ·rw[List.getElem?_append_left (by rw[hl];omega)];exact ih (by omega)
theorem uq:∀n,(upto n).length=n:=fun n=>by
 induction n with
 |zero=>rfl
 |succ n ih=>show (upto n++[n]).length=n+1;simp[ih]
def mZ(n0:Nat)(dr rest:List Nat)(i:Nat):Nat:=match cL i dr with
 |true=>n0+mc rest i
 |false=>mc (upto n0++rest) i
def U5(n0:Nat)(dr:List Nat)(l:Env)(R:aP)(rest:List Nat):Option St:=match l.all (fun q=>kC (fun i=>cL i rest|| !cL i dr&&zq i n0) 4 q.2)&&R.all (fun q=>(cL q.1 rest|| !cL q.1 dr&&zq q.1 n0)&&match q.2 with
  | .box _ cs=>cs.all (kC (fun i=>cL i rest|| !cL i dr&&zq i n0) 4)
  | .row _ _=>wE)with
 |true=>O ⟨ahH (l.map fun q=>(q.1,kR (mZ n0 dr rest) 4 q.2)),R.map fun q=>(mZ n0 dr rest q.1,Kg (mZ n0 dr rest) q.2),n0+rest.length⟩
 |false=>wC
def Wx(n0:Nat)(dr:List Nat)(l:Env)(R:aP):Option St:=U5 n0 dr l R ((R.map fun q=>q.1).filter fun i=>cL i dr|| !zq i n0)
def canon(n0:Nat)(dr:List Nat)(ts:List Nat)(s:St):Option St:=Wx n0 dr (JG ts s.E) (ny ((upto n0).filter (fun i=> !cL i dr)++reach s.R 3 ((JG ts s.E).flatMap fun q=>nL 4 q.2)) s.R).1
theorem Uk{n0 n:Nat}{dr ts:List Nat}{C:Cg}{s s':St}{a:Act}{w:World}(hC:C.n=n0)(h:canon n0 dr ts s=O s')(hm:Mt C n s a w):Mt C n s' a w:=by
 unfold canon Wx at h
 generalize hl:JG ts s.E=l at h
 generalize hR:(ny ((upto n0).filter (fun i=> !cL i dr)++reach s.R 3 (l.flatMap fun q=>nL 4 q.2)) s.R)=R2 at h
 have hperm:List.Perm s.R (R2.1++R2.2):=by rw[<-hR];exact mz _ _
 obtain⟨R,Rr⟩:=R2
 dsimp only at h hperm
 generalize hns:((R.map fun q=>q.1).filter fun i=>cL i dr|| !zq i n0)=rest at h
 unfold U5 at h
 split at h
 case h_2=>cases h
 rename_i hb
 cases h
 rw[ze]at hb
 obtain⟨hb1,hb2⟩:=hb
 obtain⟨E,hh,hE,hR0,ρ,hag,hsim⟩:=hm
 let ρ':Gh:=⟨fun j=>ρ.v ((upto n0++rest).getD j 0),fun j=>ρ.b ((upto n0++rest).getD j 0)⟩
 have hget:∀i,(cL i rest|| !cL i dr&&zq i n0)=wE->(upto n0++rest)[mZ n0 dr rest i]? =O i:=fun i hi=>by
  unfold mZ
  cases hd:cL i dr with
  |true=>
   rw[hd]at hi
   have hi:cL i rest=wE:=by simpa using hi
   show (upto n0++rest)[n0+mc rest i]? =O i
   rw[wq (by rw[uq];omega),uq,Nat.add_sub_cancel_left]
   exact uE (eH.1 hi)
  |false=>
   rw[hd]at hi
   show (upto n0++rest)[mc (upto n0++rest) i]? =O i
   refine uE ?_
   rw[yH]at hi
   rcases hi with hi|hi
   ·exact yA _ (eH.1 hi)
   ·refine yz _ (Ve ?_)
    simpa [yl]using hi
 have hp:∀i,(cL i rest|| !cL i dr&&zq i n0)=wE->ρ'.v (mZ n0 dr rest i)=ρ.v i/\ρ'.b (mZ n0 dr rest i)=ρ.b i:=fun i hi=>by
  have e:(upto n0++rest).getD (mZ n0 dr rest i) 0=i:=by rw[xR,hget i hi];rfl
  exact⟨by show ρ.v ((upto n0++rest).getD (mZ n0 dr rest i) 0)=_;rw[e],by show ρ.b ((upto n0++rest).getD (mZ n0 dr rest i) 0)=_;rw[e]⟩
 have hll:(upto n0++rest).length=n0+rest.length:=by rw[zh,uq]
 have hlt:∀i,(cL i rest|| !cL i dr&&zq i n0)=wE->mZ n0 dr rest i<n0+rest.length:=fun i hi=>by
  rw[<-hll];exact(zS.1 (hget i hi)).1
 have hres:aP.res ρ' (R.map fun q=>(mZ n0 dr rest q.1,Kg (mZ n0 dr rest) q.2))=aP.res ρ R:=by
  unfold aP.res
  rw[yc]
  refine zQ fun q hq=> ?_
  have hbq:=zm.1 hb2 q hq
  rw[ze]at hbq
  have hm:=hbq.1
  have hbq:=hbq.2
  obtain⟨i,r⟩:=q
  cases r with
  |row t l=>show cc.row (ρ'.v (mZ n0 dr rest i)) t l= .row (ρ.v i) t l;rw[(hp i hm).1]
  |box T cs=>
   show cc.box (ρ'.b (mZ n0 dr rest i)) T ((cs.map (kR (mZ n0 dr rest) 4)).map (bP.sub ρ'))= .box (ρ.b i) T (cs.map (bP.sub ρ))
   rw[(hp i hm).2,yc]
   congr 1
   exact zQ fun c hc=>iz hp 4 (zm.1 hbq c hc)
 have hp2:List.Perm (aP.res ρ s.R) (aP.res ρ (R++Rr)):=hperm.map _
 have hsim2:=hsim.perm hp2
 rw[jD]at hsim2
 have hless:=hsim2.less (List.sublist_append_left _ _)
 refine⟨l.map fun q=>(q.1,kR (mZ n0 dr rest) 4 q.2),vV _,fun q hq=> ?_,fun q hq=> ?_,ρ',⟨fun i hi=> ?_,?_⟩,?_⟩
 ·obtain⟨q',h1,rfl⟩:=zH.1 hq
  exact kz hlt 4 (zm.1 hb1 q' h1)
 ·obtain⟨q',h1,rfl⟩:=zH.1 hq
  have hbq:=zm.1 hb2 q' h1
  rw[ze]at hbq
  have hm:=hbq.1
  have hbq:=hbq.2
  refine⟨hlt _ hm,?_⟩
  obtain⟨i,r⟩:=q'
  cases r with
  |row t l=>trivial
  |box T cs=>
   intro c hc
   obtain⟨c',h3,rfl⟩:=zH.1 hc
   exact kz hlt 4 (zm.1 hbq c' h3)
 ·rw[hC]at hi
  have e:(upto n0++rest).getD i 0=i:=by
   rw[xR,List.getElem?_append_left (by rw[uq];exact hi),Vo hi];rfl
  have:=hag.1 i (by rw[hC];exact hi)
  exact⟨by show C.ρ.v i=ρ.v ((upto n0++rest).getD i 0);rw[e];exact this.1,by show C.ρ.b i=ρ.b ((upto n0++rest).getD i 0);rw[e];exact this.2⟩
 ·rw[hC]
  show n0<=n0+rest.length
  exact Nat.le_add_right _ _
 ·rw[hres]
  refine⟨hless.defers,hless.size,fun t av ht=> ?_,hless.good⟩
  have e:∀(l:Env),(∀q∈l,kC (fun i=>cL i rest|| !cL i dr&&zq i n0) 4 q.2=wE)->Env.sub ρ' (l.map fun q=>(q.1,kR (mZ n0 dr rest) 4 q.2))=Env.sub ρ l:=fun l hl=>by
   unfold Env.sub
   rw[yc]
   exact zQ fun q hq=>by
    show (q.1,(kR (mZ n0 dr rest) 4 q.2).sub ρ')=_
    rw[iz hp 4 (hl q hq)]
  rw[e l (fun q hq=>zm.1 hb1 q hq),Env.dP]at ht
  obtain⟨d,hd,rfl⟩:=zf.1 ht
  rw[<-hl]at hd
  exact hless.slots t _ (by rw[Env.dP,hh t d (Rj ts t d hd)];rfl)
def rdC{γ:Type}(n0:Nat)(dr ts:List Nat)(rd:St->Option γ)(s:St):Option γ:=(canon n0 dr ts s).bind rd
theorem aiJ{γ:Type}{n0 n:Nat}{dr ts:List Nat}{rd:St->Option γ}{pat:γ->St}(h:qG n0 n rd pat):qG n0 n (rdC n0 dr ts rd) pat:=fun C s p a w hC hr hm=>by
 obtain⟨s',h1,h2⟩:=zi.1 hr
 exact h C s' p a w hC h2 (Uk hC h1 hm)
def sk{β:Type}(f:β->β)(j:Nat)(l:List β):List β:=List.rec (fun _=>[]) (fun b l ih j=>match zb j 0 with
 |true=>f b::l
 |false=>b::ih (j-1)) l j
theorem uI{β γ:Type}{f:β->β}{g g':β->γ}:∀(l:List β) (j:Nat),(∀b∈l,g (f b)=g' b)->(∀b∈l,g b=g' b)->(sk f j l).map g=l.map g'
 |[],_,_,_=>rfl
 |b::l,j,h1,h2=>by
  show (match zb j 0 with
   |true=>f b::l
   |false=>b::sk f (j-1) l).map g=_
  split
  ·rw[zV,zV,h1 b zg,zQ fun c hc=>h2 c (zC _ hc)]
  ·rw[zV,zV,h2 b zg,uI l (j-1) (fun c hc=>h1 c (zC _ hc)) (fun c hc=>h2 c (zC _ hc))]
theorem uf{β:Type}{f:β->β}{p:β->Prop}:∀(l:List β) (j:Nat),(∀b∈l,p (f b))->(∀b∈l,p b)->∀b∈sk f j l,p b
 |[],_,_,_,b,hb=>by cases hb
 |c::l,j,h1,h2,b,hb=>by
  have hb:b∈(match zb j 0 with
   |true=>f c::l
   |false=>c::sk f (j-1) l):=hb
  split at hb
  ·rcases zu.1 hb with rfl|hb
   ·exact h1 c zg
   ·exact h2 b (zC _ hb)
  ·rcases zu.1 hb with rfl|hb
   ·exact h2 b zg
   ·exact uf l (j-1) (fun c hc=>h1 c (zC _ hc)) (fun c hc=>h2 c (zC _ hc)) b hb
def uA(nx:Nat)(p:List Nat):AV->AV:=List.rec (fun d=>match d with
 | .lit (.slice wC 0 0)=> .own nx
 |d=>d) (fun j _ ih d=>match d with
 | .agg cs=> .agg (sk ih j cs)
 | .iA cs=> .iA (sk ih j cs)
 |d=>d) p
theorem sV{ρ:Gh}{nx:Nat}:∀(p:List Nat) (d:AV),cj nx d->(uA nx p d).sub (ρ.fm nx (.slice wC 0 0))=d.sub ρ
 |[],d,h=>by
  show bP.sub _ (match d with
   | .lit (.slice wC 0 0)=> .own nx
   |d=>d)=_
  split
  ·rw[cX,bE];simp[Gh.fm]
  ·exact(h.sub (.fm ρ nx _)).symm
 |j::p,d,h=>by
  show bP.sub _ (match d with
   | .agg cs=> .agg (sk (uA nx p) j cs)
   | .iA cs=> .iA (sk (uA nx p) j cs)
   |d=>d)=_
  split
  ·rw[dQ,dQ,uI _ j (fun b hb=>sV p b (h.nO b hb)) (fun b hb=>((h.nO b hb).sub (.fm ρ nx _)).symm)]
  ·rw[jC,jC,uI _ j (fun b hb=>sV p b (h.DJ b hb)) (fun b hb=>((h.DJ b hb).sub (.fm ρ nx _)).symm)]
  ·exact(h.sub (.fm ρ nx _)).symm
theorem tO{nx:Nat}:∀(p:List Nat) (d:AV),cj nx d->cj (nx+1) (uA nx p d)
 |[],d,h=>by
  show cj (nx+1) (match d with
   | .lit (.slice wC 0 0)=> .own nx
   |d=>d)
  split
  ·exact .own _ (zn _)
  ·exact h.mono (yo _)
 |j::p,d,h=>by
  show cj (nx+1) (match d with
   | .agg cs=> .agg (sk (uA nx p) j cs)
   | .iA cs=> .iA (sk (uA nx p) j cs)
   |d=>d)
  split
  ·exact .agg _ (uf _ j (fun b hb=>tO p b (h.nO b hb)) (fun b hb=>(h.nO b hb).mono (yo _)))
  ·exact .iA _ (uf _ j (fun b hb=>tO p b (h.DJ b hb)) (fun b hb=>(h.DJ b hb).mono (yo _)))
  ·exact h.mono (yo _)
def akU(t:Nat)(p:List Nat)(e:Nat)(s:St):St:=match cn s.E t with
 |some d=>⟨kW t (uA s.nx p d) s.E,(s.nx, .row e [])::s.R,s.nx+1⟩
 |none=>s
def nP(id j:Nat)(p:List Nat)(e:Nat)(s:St):St:=match fh s.R id with
 |some (.box T cs)=>⟨s.E,(s.nx, .row e [])::rM id (.box T (sk (uA s.nx p) j cs)) s.R,s.nx+1⟩
 |_=>s
theorem OT{ρ:Gh}{R:aP}{nx e:Nat}:aP.res (ρ.fm nx (.slice wC 0 0)) ((nx,IR.row e [])::R)=cc.row (.slice wC 0 0) e []::aP.res (ρ.fm nx (.slice wC 0 0)) R:=by
 show cc.row ((ρ.fm nx (.slice wC 0 0)).v nx) e []::_=_
 simp[Gh.fm,aP.res]
theorem aej{C:Cg}{n t e:Nat}{p:List Nat}{s:St}{a:Act}{w:World}(hm:Mt C n s a w):Mt C n (akU t p e s) a w:=by
 unfold akU
 split
 case h_2=>exact hm
 rename_i d hg
 obtain⟨E,hh,hE,hR,ρ,hag,hsim⟩:=hm
 have ht:=NU (C:=C.C) wC e hsim.good
 have hs:=hsim.tr ht
 have hs1:E.sub ρ=E.sub (ρ.fm s.nx (.slice wC 0 0)):=hE.sub (.fm ρ s.nx _)
 have hr1:aP.res ρ s.R=aP.res (ρ.fm s.nx (.slice wC 0 0)) s.R:=hR.res (.fm ρ s.nx _)
 have hd:cj s.nx d:=hE _ (Env.get_mem (hh t d hg))
 refine⟨(t,uA s.nx p d)::E,hh.put t _,Env.uC (hE.mono (yo _)) (tO p d hd),fun q hq=> ?_,ρ.fm s.nx (.slice wC 0 0),⟨hag.1.trans (.fm ρ s.nx _) hag.2,zy hag.2 (yo _)⟩,?_⟩
 ·rcases zu.1 hq with rfl|hq
  ·exact⟨zn _,trivial⟩
  ·exact(hR.mono (yo _)) q hq
 ·show sM C.C n ((t,bP.sub _ (uA s.nx p d))::E.sub _) (aP.res _ ((s.nx,IR.row e [])::s.R)) a w
  rw[OT,<-hr1,<-hs1,sV p d hd]
  refine⟨hs.defers,hs.size,fun u av hu=> ?_,hs.good⟩
  by_cases htu:t=u
  ·subst htu
   rw[Env.dN]at hu
   cases hu
   exact hs.slots t _ (by rw[Env.dP,hh t _ hg,yg])
  ·rw[Env.cV _ _ htu]at hu
   exact hs.slots u av hu
theorem abx{C:Cg}{n id j e:Nat}{p:List Nat}{s:St}{a:Act}{w:World}(hm:Mt C n s a w):Mt C n (nP id j p e s) a w:=by
 unfold nP
 split
 case h_2=>exact hm
 rename_i T cs hg
 obtain⟨E,hh,hE,hR,ρ,hag,hsim⟩:=hm
 have ht:=NU (C:=C.C) wC e hsim.good
 have hs:=hsim.tr ht
 have hs1:E.sub ρ=E.sub (ρ.fm s.nx (.slice wC 0 0)):=hE.sub (.fm ρ s.nx _)
 have hr1:aP.res ρ s.R=aP.res (ρ.fm s.nx (.slice wC 0 0)) s.R:=hR.res (.fm ρ s.nx _)
 obtain⟨hid,hcs⟩:=Ck hg hR
 have hr2:aP.res (ρ.fm s.nx (.slice wC 0 0)) (rM id (.box T (sk (uA s.nx p) j cs)) s.R)=aP.res ρ s.R:=by
  obtain⟨i,h1,h2,_⟩:=dA hg
  rw[h2,tj,<-hr1]
  have e1:IR.res (ρ.fm s.nx (.slice wC 0 0)) id (.box T (sk (uA s.nx p) j cs))=IR.res ρ id (.box T cs):=by
   show cc.box ((ρ.fm s.nx (.slice wC 0 0)).b id) T ((sk (uA s.nx p) j cs).map (bP.sub _))= .box (ρ.b id) T (cs.map (bP.sub ρ))
   rw[uI cs j (fun b hb=>sV p b (hcs b hb)) (fun b hb=>((hcs b hb).sub (.fm ρ s.nx _)).symm)]
   rfl
  rw[e1]
  have h3:=gv (ρ:=ρ) h1
  exact List.ext_getElem? fun k=>by
   by_cases hk:i=k
   ·subst hk
    rw[List.getElem?_set_self (zS.1 h3).1,h3]
   ·rw[List.getElem?_set_ne hk]
 refine⟨E,hh,hE.mono (yo _),fun q hq=> ?_,ρ.fm s.nx (.slice wC 0 0),⟨hag.1.trans (.fm ρ s.nx _) hag.2,zy hag.2 (yo _)⟩,?_⟩
 ·rcases zu.1 hq with rfl|hq
  ·exact⟨zn _,trivial⟩
  ·refine oh hg (hR.mono (yo _)) ?_ q hq
   exact uf cs j (fun b hb=>tO p b (hcs b hb)) (fun b hb=>(hcs b hb).mono (yo _))
 ·show sM C.C n (E.sub _) (aP.res _ ((s.nx,IR.row e [])::rM id (.box T (sk (uA s.nx p) j cs)) s.R)) a w
  rw[OT,hr2,<-hs1]
  exact hs
def atA(p:List Nat):AV->Option Nat:=List.rec (fun d=>match d with
 | .own i=>O i
 |_=>wC) (fun j _ ih d=>match d with
 | .agg cs=>(cs[j]?).bind ih
 | .iA cs=>(cs[j]?).bind ih
 |_=>wC) p
def anw(id j:Nat)(p:List Nat)(s:St):St:=match fh s.R id with
 |some (.box _ cs)=>match (cs[j]?).bind (atA p)with
  |some i=>s.KP i
  |none=>s
 |_=>s
def rdF{γ:Type}(f:St->St)(rd:St->Option γ)(s:St):Option γ:=rd (f s)
def cq(f:St->St):Prop:=∀(C:Cg) n s a w,Mt C n s a w->Mt C n (f s) a w
theorem cq.s(t:Nat)(p:List Nat)(e:Nat):cq (akU t p e):=fun _ _ _ _ _ h=>aej h
theorem cq.c(id j:Nat)(p:List Nat)(e:Nat):cq (nP id j p e):=fun _ _ _ _ _ h=>abx h
theorem cq.fc(id j:Nat)(p:List Nat):cq (anw id j p):=fun _ _ _ _ _ h=>by
 unfold anw
 split
 ·split
  ·exact h.KP _
  ·exact h
 ·exact h
theorem aiS{γ:Type}{n0 n:Nat}{f:St->St}{rd:St->Option γ}{pat:γ->St}(hf:cq f)(h:qG n0 n rd pat):qG n0 n (rdF f rd) pat:=fun C s p a w hC hr hm=>h C (f s) p a w hC hr (hf C n s a w hm)
end Go.Iv
end
noncomputable section
namespace Go.Iv
variable [U:qT] [L:mQ]
open Go Go.RowKit
section
variable {P:Program} {f:FuncId} {args:List AV} {σp σr:List cc} {Φ:AV->List cc->Prop}
theorem Dc{σ:List cc}{w:World}{A:Nat->Prop}(hd:Hd A σ w)(hnd:(bh σ).Nodup):Good ⟨w,A,bh σ⟩ σ w:=
 have hal:∀b,A b->al ⟨w,A,bh σ⟩ σ b:=fun b hA=>⟨.inl hA,fun hx=>hd.2 b hx hA⟩
 ⟨Kp.refl _ _,fun r hr=>(hd.1 r hr).mono (fun b _ hA=>⟨hal b hA,rfl⟩) (fun _ _=>rfl),hnd,fun b hb=> .inl hb⟩
theorem J6{σ σ':List cc}{X:List Nat}{C:Cx}{w w':World}(h:Tr C X σ w σ' w')(hX:∀b∈X,b∈bh σ):Tr C (bh σ) σ w σ' w':=
 ⟨h.good,⟨h.kp.os,h.kp.tape,h.kp.output,h.kp.size,fun k hk hn=>h.kp.block k hk fun hx=>hn (hX k hx)⟩,fun b hb hA=>⟨(h.al b hb hA).1,hA.2⟩⟩
theorem Fn.YW(h:Fn P f args σp Φ):Fn P f args (σp++σr) (fun a s=>∃so,Φ a so/\s=so++σr):=fun w A vs hrel hd0 hnd0=>by
 have hg:=Dc hd0 hnd0
 generalize hC:(⟨w,A,bh (σp++σr)⟩:Cx)=C at hg ⊢
 have hdis:=hg.DW
 rw[fZ]at hdis
 obtain⟨d1,d2,d3⟩:=yy.1 hdis
 have hlt:∀b∈bh (σp++σr),b<w.heap.size:=fun b hb=>by
  obtain⟨s,h1,h2⟩:=bD.1 hb
  exact(hg.res s h1).lt h2
 have hal0:∀b,A b->al C (σp++σr) b:=fun b hA=>by
  subst hC;exact⟨.inl hA,fun hx=>hd0.2 b hx hA⟩
 have hd:Hd (al C (σp++σr)) σp w:=⟨fun r hr=>hg.res r (yz _ hr),fun b hb hA=>hA.2 (bt.2 (.inl hb))⟩
 refine(h w (al C (σp++σr)) vs (hrel.mono fun b _ hA=>⟨hal0 b hA,rfl⟩) hd d1).mono fun e w' ⟨v,av,σo,q1,q2,q3,q4⟩=> ?_
 have hown:∀b∈bh σo,b∈bh σp\/w.heap.size<=b:=q3.good.own
 have hsub:∀b,al ⟨w,al C (σp++σr),bh σp⟩ σo b->al C (σo++σr) b:=fun b hb=>by
  obtain⟨hb1,hb2⟩:=hb
  rcases hb1 with hb1|hb1|hb1
  ·exact⟨hb1.1,fun hx=>(bt.1 hx).elim hb2 (fun h=>hb1.2 (bt.2 (.inr h)))⟩
  ·have hbp:b∈bh σp:=hb1
   refine⟨?_,fun hx=>(bt.1 hx).elim hb2 (fun h=>d3 b hbp b h rfl)⟩
   rcases hg.own b (bt.2 (.inl hbp))with h|h
   ·exact .inr (.inl h)
   ·exact .inr (.inr h)
  ·have hbw:w.heap.size<=b:=hb1
   exact⟨.inr (.inr (zy hg.kept.size hbw)),fun hx=>(bt.1 hx).elim hb2 (fun h=>by have:=hlt b (bt.2 (.inr h));omega)⟩
 have ht:=Av hg (fun b hA _=> .inl hA) q3 (fun r hr=>(q3.good.res r hr).mono (fun b hb hA=>⟨hsub b hA,rfl⟩) (fun _ _=>rfl))
 exact⟨v,av,σo++σr,q1,⟨σo,q2,rfl⟩,J6 ht (fun b hb=>bt.2 (.inl hb)),q4.mono fun b hb hA=>⟨hsub b hA,rfl⟩⟩
theorem Fn.avl{args':List AV}{σr:List cc}(h:Fn P f args' [] Φ)(hv:∀(A:Nat->Prop) (w:World) (us:List Value),Hd A σr w->bq A w args us->bq (fun b=>A b\/b∈bh σr) w args' us)
  (hc:∀av σo,Φ av σo->Cl av/\∀r∈σo,ClR r):Fn P f args σr (fun a s=>∃so,Φ a so/\s=so++σr):=fun w A vs hrel hd0 hnd0=>by
 have hg:=Dc hd0 hnd0
 generalize hC:(⟨w,A,bh σr⟩:Cx)=C at hg ⊢
 have hal0:∀b,A b->al C σr b:=fun b hA=>by
  subst hC;exact⟨.inl hA,fun hx=>hd0.2 b hx hA⟩
 have h3:=hv (al C σr) w vs hg.hd (hrel.mono fun b _ hA=>⟨hal0 b hA,rfl⟩)
 refine(h w _ vs h3 ⟨fun r hr=>(by cases hr),fun b hb=>(by cases hb)⟩ List.nodup_nil).mono fun e w' ⟨v,av,σo,q1,q2,q3,q4⟩=> ?_
 obtain⟨c1,c2⟩:=hc av σo q2
 have ht:=Av (σp:=[]) (σr:=σr) hg (fun b hA _=>hA) q3 (fun r hr=>c2 r hr _ _ w' (q3.good.res r hr))
 exact⟨v,av,σo++σr,q1,⟨σo,q2,rfl⟩,J6 (σ:=σr) ht (fun b hb=>by cases hb),c1 _ _ w' v q4⟩
end
def asJ(n:Nat):AV->Bool:=kC (fun _=>wD) n
theorem Cv{A:Nat->Prop}{w:World}{cs:List AV}{v:Value}(h:Rel A w (.fp cs) v):∃(b o:Nat) (us:List Value),v= .pointer (O ⟨b,o,wC⟩)/\b<w.heap.size/\A b/\(∀j v,us[j]? =O v->w.cell? ⟨b,o+j,wC⟩=O v)/\bq A w cs us:=by
 generalize ha:bP.fp cs=a at h
 cases h with
 |fp cs' b o us hb hA hl hc hr=>cases ha;exact⟨b,o,us,rfl,hb,hA,hc,hl,hr⟩
 |_=>cases ha
def D5(lb:Bool)(rd:Nat->Option IR)(n:Nat):AV->AV:=Nat.rec (fun d=>match d with
 | .own id=>match rd id with
  |some (.row t l)=> .sl t l
  |_=> .own id
 |d=>d) (fun _ ih d=>match d with
 | .own id=>match rd id with
  |some (.row t l)=> .sl t l
  |_=> .own id
 | .ptr id 0=>match lb with
  |true=>match rd id with
   |some (.box _ cs)=> .fp (cs.map ih)
   |_=> .ptr id 0
  |false=> .ptr id 0
 | .agg cs=> .agg (cs.map ih)
 | .fn f cs=> .fn f (cs.map ih)
 |d=>d) n
theorem Tm{R:aP}{ρ:Gh}{A:Nat->Prop}{w:World}{v:Value}{id T:Nat}{cs:List AV}(hd:Hd A (aP.res ρ R) w)(hg:fh R id=O (.box T cs))(hr:Rel A w ((bP.ptr (cH:=U.cH) id 0).sub ρ) v):
  Rel (fun b=>A b\/b∈bh (aP.res ρ R)) w (.fp (cs.map (bP.sub ρ))) v:=by
 obtain⟨i,hi,_⟩:=dA hg
 have hres:=gv (ρ:=ρ) hi
 rw[ep]at hr
 exact Vw.box i hres A w v hd hr
theorem R7{lb:Bool}{R:aP}{ρ:Gh}{A:Nat->Prop}{w:World}(hd:Hd A (aP.res ρ R) w):∀(n:Nat) {d:AV} {v:Value},Rel (fun b=>A b\/b∈bh (aP.res ρ R)) w (d.sub ρ) v->Rel (fun b=>A b\/b∈bh (aP.res ρ R)) w ((D5 lb (fh R) n d).sub ρ) v:=by
 have hown:∀{id:Nat} {v:Value},Rel (fun b=>A b\/b∈bh (aP.res ρ R)) w ((bP.own (cH:=U.cH) id).sub ρ) v->Rel (fun b=>A b\/b∈bh (aP.res ρ R)) w ((match fh R id with
  |some (.row t l)=>bP.sl t l
  |_=> .own id).sub ρ) v:=fun{id v} h=>by
  rw[cX]at h
  rw[h.cg]
  exact TW hd (by rw[cX];exact .lit _)
 intro n
 induction n with
 |zero=>
  intro d v h
  cases d<;>first|exact h|exact hown h
 |succ n ih=>
  have hL:∀{cs:List AV} {us:List Value},bq (fun b=>A b\/b∈bh (aP.res ρ R)) w (cs.map (bP.sub ρ)) us->bq (fun b=>A b\/b∈bh (aP.res ρ R)) w ((cs.map (D5 lb (fh R) n)).map (bP.sub ρ)) us:=fun{cs us} h=>
   ⟨by simpa using h.1,fun j a u q1 q2=>by
    rw[yc,zX]at q1
    obtain⟨c,hc,rfl⟩:=zf.1 q1
    exact ih (h.2 j _ u (by rw[zX,hc];rfl) q2)⟩
  intro d v h
  cases d with
  |own id=>exact hown h
  |agg cs=>
   show Rel _ w ((bP.agg (cs.map (D5 lb (fh R) n))).sub ρ) v
   rw[dQ]at h ⊢
   obtain⟨us,rfl,h2⟩:=h.mX
   exact Rel.nO (hL h2)
  |fn f cs=>
   show Rel _ w ((bP.fn f (cs.map (D5 lb (fh R) n))).sub ρ) v
   rw[sH]at h ⊢
   obtain⟨us,rfl,h2⟩:=h.Vp
   have h3:=hL h2
   exact .fn f _ us h3.1 h3.2
  |ptr id off=>
   cases off with
   |succ o=>exact h
   |zero=>
    cases lb with
    |false=>exact h
    |true=>
     show Rel _ w (bP.sub ρ (match fh R id with
      |some (.box _ cs)=> .fp (cs.map (D5 wE (fh R) n))
      |_=> .ptr id 0)) v
     split
     ·rename_i T cs hg
      have h0:Rel A w ((bP.ptr (cH:=U.cH) id 0).sub ρ) v:=by
       rw[ep]at h ⊢
       rw[h.cg];exact .lit _
      obtain⟨b,o,us,rfl,q1,q2,q3,q4⟩:=Cv (Tm hd hg h0)
      rw[lu]
      have q5:=hL q4
      exact .fp _ b o us q1 q2 q5.1 q3 q5.2
     ·exact h
  |_=>exact h
def nC(l:List Nat)(n0 nx:Nat)(i:Nat):Nat:=match zq i n0 with
 |true=>l.getD i 0
 |false=>nx+(i-n0)
def Out.okB(n0:Nat)(x:Out):Bool:=ya n0 x.c&&kC (fun i=>zq i x.c) 4 x.d&&x.R.all fun q=>zq q.1 x.c&&match q.2 with
 | .box _ cs=>cs.all (kC (fun i=>zq i x.c) 4)
 | .row _ _=>wE
def W9{α γ β:Type}(q:List AV->aP->Option γ)(t:γ->Option β)(out:β->Out)(n0:Nat)(args:List AV)(nx:Nat)(k:AV->aP->Nat->Option α)(F:Option α)(Rp Rr:aP)(ns:List Nat):Option α:=
 match zb Rp.length n0&&args.all (kC (fun i=>cL i ns) 4)&&Rp.all (fun q=>match q.2 with
  | .box _ cs=>cs.all (kC (fun i=>cL i ns) 4)
  | .row _ _=>wE)with
 |true=>match q (args.map (kR (mc ns) 4)) (Rp.map fun q=>(mc ns q.1,Kg (mc ns) q.2))with
  |some g=>match t g with
   |some b=>k (kR (nC ns n0 nx) 4 (out b).d) ((out b).R.map (fun q=>(nC ns n0 nx q.1,Kg (nC ns n0 nx) q.2))++Rr) (nx+((out b).c-n0))
   |none=>wC
  |none=>F
 |false=>F
def Vf{α γ β:Type}(q:List AV->aP->Option γ)(t:γ->Option β)(out:β->Out)(n0:Nat)(args:List AV)(nx:Nat)(k:AV->aP->Nat->Option α)(F:Option α)(R2:aP×aP):Option α:=
 W9 q t out n0 args nx k F R2.1 R2.2 (R2.1.map fun q=>q.1)
def orY{γ β:Type}(f0 n0:Nat)(q:List AV->aP->Option γ)(t:γ->Option β)(out:β->Out)(F:aI):aI:=fun _ f args R nx k=>match zb f f0 with
 |true=>Vf q t out n0 args nx k (F _ f args R nx k) (ny (reach R 3 (args.flatMap (nL 4))) R)
 |false=>F _ f args R nx k
def QY{γ:Type}(q:List AV->aP->Option γ)(ca:γ->List AV)(cr:γ->aP):Prop:=∀xs R g,q xs R=O g->(∀(ρ:Gh) A w us,bq A w (xs.map (bP.sub ρ)) us->bq A w ((ca g).map (bP.sub ρ)) us)/\G3 R (cr g)
theorem Fn.pre{P:Program}{f:FuncId}{args args':List AV}{R R':aP}{ρ:Gh}{Φ:AV->List cc->Prop}(h:Fn P f args' (aP.res ρ R') Φ)(ha:∀A w us,bq A w args us->bq A w args' us)(hr:G3 R R'):Fn P f args (aP.res ρ R) Φ:=fun w A vs h1 h2 h3=>by
 have hb:bh (aP.res ρ R)=bh (aP.res ρ R'):=BZ hr
 rw[hb]
 refine(h w A vs (ha A w vs h1) ⟨Lt hr h2.1,fun b hb'=>h2.2 b (by rw[hb];exact hb')⟩ (by rw[<-hb];exact h3)).mono fun e w' ⟨v,av,σ',q1,q2,q3,q4⟩=>⟨v,av,σ',q1,q2,⟨q3.good,q3.kp,fun b hb' hA=> ?_⟩,q4⟩
 refine q3.al b hb' ⟨hA.1,?_⟩
 rw[<-hb];exact hA.2
theorem aiz{P:Program}{F:aI}{γ β:Type}{f0 n0:Nat}{q:List AV->aP->Option γ}{ca:γ->List AV}{cr:γ->aP}{t:γ->Option β}{out:β->Out}(hF:gF P F)(hf:vq P f0)(hq:QY q ca cr)(hm:∀b,(out b).okB n0=wE)
  (h:∀g b,t g=O b->PA P f0 (ca g) (cr g) n0 (out b)):gF P (orY f0 n0 q t out F):=fun α f args R nx k r hr hargs hR=>by
 unfold orY at hr
 split at hr
 case h_2=>exact hF α f args R nx k r hr hargs hR
 rename_i hb
 have hb:=fB hb
 subst hb
 unfold Vf at hr
 generalize hR2:ny (reach R 3 (args.flatMap (nL 4))) R=R2 at hr
 have hperm:List.Perm R (R2.1++R2.2):=by rw[<-hR2];exact mz _ _
 obtain⟨Rp,Rr⟩:=R2
 dsimp only at hr hperm
 generalize hns:(Rp.map fun q=>q.1)=ns at hr
 unfold W9 at hr
 split at hr
 case h_2=>exact hF α f args R nx k r hr hargs hR
 rename_i hchk
 rw[ze,ze]at hchk
 obtain⟨⟨hc0,hc1⟩,hc2⟩:=hchk
 have hc0:=fB hc0
 split at hr
 case h_2=>exact hF α f args R nx k r hr hargs hR
 rename_i g hg
 split at hr
 case h_2=>cases hr
 rename_i b hb
 have hlen:ns.length=n0:=by rw[<-hns,zA,hc0]
 have hRs:∀p∈Rp++Rr,p.1<nx/\p.2.cj nx:=fun p hp=>hR p (hperm.mem_iff.2 hp)
 have hnsl:∀i∈ns,i<nx:=fun i hi=>by
  rw[<-hns]at hi
  obtain⟨p,hp,rfl⟩:=zH.1 hi
  exact(hRs p (yz _ hp)).1
 obtain⟨hqa,hqr⟩:=hq _ _ g hg
 have hok:=hm b
 unfold Out.okB at hok
 rw[ze,ze]at hok
 obtain⟨⟨ho0,ho1⟩,ho2⟩:=hok
 have ho0:n0<=(out b).c:=by simpa using ho0
 refine⟨hf,fun ρ=> ?_⟩
 let ρ0:Gh:=⟨fun j=>ρ.v (ns.getD j 0),fun j=>ρ.b (ns.getD j 0)⟩
 have hp:∀i,cL i ns=wE->ρ0.v (mc ns i)=ρ.v i/\ρ0.b (mc ns i)=ρ.b i:=fun i hi=>by
  have:=uE (eH.1 hi)
  have e:ns.getD (mc ns i) 0=i:=by rw[xR,this];rfl
  exact⟨by show ρ.v (ns.getD (mc ns i) 0)=_;rw[e],by show ρ.b (ns.getD (mc ns i) 0)=_;rw[e]⟩
 have ea:(args.map (kR (mc ns) 4)).map (bP.sub ρ0)=args.map (bP.sub ρ):=by
  rw[yc]
  exact zQ fun c hc=>iz hp 4 (zm.1 hc1 c hc)
 have er:aP.res ρ0 (Rp.map fun q=>(mc ns q.1,Kg (mc ns) q.2))=aP.res ρ Rp:=by
  unfold aP.res
  rw[yc]
  refine zQ fun q hq=> ?_
  have hm:cL q.1 ns=wE:=eH.2 (by rw[<-hns];exact zH.2 ⟨q,hq,rfl⟩)
  have hbq:=zm.1 hc2 q hq
  obtain⟨i,rr⟩:=q
  cases rr with
  |row t l=>show cc.row (ρ0.v (mc ns i)) t l= .row (ρ.v i) t l;rw[(hp i hm).1]
  |box T cs=>
   show cc.box (ρ0.b (mc ns i)) T ((cs.map (kR (mc ns) 4)).map (bP.sub ρ0))= .box (ρ.b i) T (cs.map (bP.sub ρ))
   rw[(hp i hm).2,yc]
   congr 1
   exact zQ fun c hc=>iz hp 4 (zm.1 hbq c hc)
 have h1:=Fn.pre (h g b hb ρ0) (hqa ρ0) hqr
 rw[ea,er]at h1
 have h2:=Fn.YW (σr:=aP.res ρ Rr) h1
 rw[<-jD]at h2
 have hp2:List.Perm (aP.res ρ R) (aP.res ρ (Rp++Rr)):=hperm.map _
 have h3:Fn P f (args.map (bP.sub ρ)) (aP.res ρ R) (fun a s=>∃so,(∃ρ':Gh,p6 n0 ρ0 ρ'/\a=(out b).d.sub ρ'/\List.Perm so (aP.res ρ' (out b).R))/\s=so++aP.res ρ Rr):=fun w A vs q1 q2 q3=>by
  have hbm:∀x,x∈bh (aP.res ρ (Rp++Rr))↔x∈bh (aP.res ρ R):=fun x=>(hp2.symm.filterMap _).mem_iff
  refine(h2 w A vs q1 ⟨fun r hr=>q2.1 r (hp2.mem_iff.2 hr),fun x hx=>q2.2 x ((hbm x).1 hx)⟩ ((hp2.filterMap _).nodup_iff.1 q3)).mono fun e w' ⟨v,av,σ',g1,g2,g3,g4⟩=> ?_
  have hal:∀s x,al ⟨w,A,bh (aP.res ρ (Rp++Rr))⟩ s x->al ⟨w,A,bh (aP.res ρ R)⟩ s x:=fun s x hx=>⟨hx.1.imp id (Or.imp (fun h=>(hbm x).1 h) id),hx.2⟩
  refine⟨v,av,σ',g1,g2,⟨⟨⟨g3.kp.os,g3.kp.tape,g3.kp.output,g3.kp.size,fun k hk hn=>g3.kp.block k hk fun hx=>hn ((hbm k).1 hx)⟩,fun rr hrr=>(g3.good.res rr hrr).mono (fun x _ hA=>⟨hal _ x hA,rfl⟩) (fun _ _=>rfl),g3.good.DW,fun x hx=>(g3.good.own x hx).imp (fun h=>(hbm x).1 h) id⟩,⟨g3.kp.os,g3.kp.tape,g3.kp.output,g3.kp.size,fun k hk hn=>g3.kp.block k hk fun hx=>hn ((hbm k).1 hx)⟩,fun x hx hA=> ?_⟩,g4.mono fun x _ hA=>⟨hal _ x hA,rfl⟩⟩
  have hA':al ⟨w,A,bh (aP.res ρ (Rp++Rr))⟩ (aP.res ρ (Rp++Rr)) x:=⟨hA.1.imp id (Or.imp (fun h=>(hbm x).2 h) id),fun h=>hA.2 ((hbm x).1 h)⟩
  exact⟨hal _ x (g3.al x hx hA').1,fun h=>hA.2 h⟩
 refine Fn.mono h3 fun a s ⟨so,⟨ρ1,g0,g1,g2⟩,g3⟩=> ?_
 let ρ2:Gh:=⟨fun i=>if i<nx then ρ.v i else ρ1.v (n0+(i-nx)),fun i=>if i<nx then ρ.b i else ρ1.b (n0+(i-nx))⟩
 have hag:p6 nx ρ ρ2:=fun i hi=>⟨by simp only[ρ2,if_pos hi],by simp only[ρ2,if_pos hi]⟩
 have hb2:∀i,zq i (out b).c=wE->(ρ2.v (nC ns n0 nx i)=ρ1.v i/\ρ2.b (nC ns n0 nx i)=ρ1.b i)/\nC ns n0 nx i<nx+((out b).c-n0):=fun i hi=>by
  have hi:i<(out b).c:=by simpa [yl]using hi
  unfold nC
  split
  ·rename_i hlt
   have hlt:i<n0:=by simpa [yl]using hlt
   obtain⟨e1,e2⟩:=g0 i hlt
   have hlt2:i<ns.length:=by rw[hlen];exact hlt
   have hmem:ns.getD i 0∈ns:=by rw[xR,zl hlt2];exact xo hlt2
   have h4:=hnsl _ hmem
   refine⟨⟨?_,?_⟩,by omega⟩
   ·show (if ns.getD i 0<nx then ρ.v (ns.getD i 0)else _)=_
    rw[if_pos h4];exact e1
   ·show (if ns.getD i 0<nx then ρ.b (ns.getD i 0)else _)=_
    rw[if_pos h4];exact e2
  ·rename_i hlt
   have hlt:¬i<n0:=by
    intro hx
    have:zq i n0=wE:=by rw[yl];exact hx
    rw[this]at hlt;cases hlt
   have h5:¬nx+(i-n0)<nx:=by omega
   have h6:n0+(nx+(i-n0)-nx)=i:=by omega
   refine⟨⟨?_,?_⟩,by omega⟩
   ·show (if nx+(i-n0)<nx then _ else ρ1.v (n0+(nx+(i-n0)-nx)))=_
    rw[if_neg h5,h6]
   ·show (if nx+(i-n0)<nx then _ else ρ1.b (n0+(nx+(i-n0)-nx)))=_
    rw[if_neg h5,h6]
 have hres:aP.res ρ2 ((out b).R.map fun q=>(nC ns n0 nx q.1,Kg (nC ns n0 nx) q.2))=aP.res ρ1 (out b).R:=by
  unfold aP.res
  rw[yc]
  refine zQ fun q hq=> ?_
  have hbq:=zm.1 ho2 q hq
  rw[ze]at hbq
  obtain⟨i,rr⟩:=q
  cases rr with
  |row t l=>show cc.row (ρ2.v (nC ns n0 nx i)) t l= .row (ρ1.v i) t l;rw[(hb2 i hbq.1).1.1]
  |box T cs=>
   show cc.box (ρ2.b (nC ns n0 nx i)) T ((cs.map (kR (nC ns n0 nx) 4)).map (bP.sub ρ2))= .box (ρ1.b i) T (cs.map (bP.sub ρ1))
   rw[(hb2 i hbq.1).1.2,yc]
   congr 1
   exact zQ fun c hc=>iz (fun i hi=>(hb2 i hi).1) 4 (zm.1 hbq.2 c hc)
 refine⟨_,_,_,hr,by omega,kz (fun i hi=>(hb2 i hi).2) 4 ho1,fun q hq=> ?_,ρ2,hag,?_,?_⟩
 ·rcases zP.1 hq with hq|hq
  ·obtain⟨q',h4,rfl⟩:=zH.1 hq
   have hbq:=zm.1 ho2 q' h4
   rw[ze]at hbq
   refine⟨(hb2 _ hbq.1).2,?_⟩
   obtain⟨i,rr⟩:=q'
   cases rr with
   |row t l=>trivial
   |box T cs=>
    intro c hc
    obtain⟨c',h5,rfl⟩:=zH.1 hc
    exact kz (fun i hi=>(hb2 i hi).2) 4 (zm.1 hbq.2 c' h5)
  ·have:=hRs q (yA _ hq)
   exact⟨by omega,this.2.mono (by omega)⟩
 ·rw[g1];exact(iz (fun i hi=>(hb2 i hi).1) 4 ho1).symm
 ·rw[g3,jD,hres,<-aP.cj.res (R:=Rr) (fun q hq=>hRs q (yA _ hq)) hag]
  exact g2.append_right _
def scD(n:Nat):AV->Bool:=Nat.rec (fun d=>match d with
 | .lit _=>wE
 | .own _=>wE
 | .ptr _ _=>wE
 |_=>wD) (fun _ ih d=>match d with
 | .lit _=>wE
 | .own _=>wE
 | .ptr _ _=>wE
 | .agg cs=>cs.all ih
 | .iA cs=>cs.all ih
 |_=>wD) n
theorem TI{ρ:Gh}:∀(n:Nat) {d:AV},scD n d=wE->Cl (d.sub ρ):=fun n=>by
 induction n with
 |zero=>
  intro d h
  cases d<;>first|(cases h;done)|(rw[bE];exact .lit _)|(rw[cX];exact .lit _)|(rw[ep];exact .lit _)
 |succ n ih=>
  have hL:∀{cs:List AV},cs.all (scD n)=wE->HX (cs.map (bP.sub ρ)):=fun{cs} h=>by
   induction cs with
   |nil=>exact .nil
   |cons c cs ihc=>
    rw[List.all_cons,ze]at h
    exact .cons (ih h.1) (ihc h.2)
  intro d h
  cases d<;>first|(cases h;done)|(rw[bE];exact .lit _)|(rw[cX];exact .lit _)|(rw[ep];exact .lit _)|skip
  ·rw[dQ];exact .agg (hL h)
  ·rw[jC];exact .iA (hL h)
theorem Ov{n:Nat}{ρ:Gh}:∀cs:List AV,cs.all (scD n)=wE->HX (cs.map (bP.sub ρ))
 |[],_=> .nil
 |c::cs,h=>by
  rw[List.all_cons,ze]at h
  exact .cons (TI n h.1) (Ov cs h.2)
def Out.ZO(sc:Nat->Bool)(x:Out):Bool:=scD 4 x.d&&x.R.all fun q=>match q.2 with
 | .row t _=>sc t
 | .box _ cs=>cs.all (scD 3)
theorem aaJ{sc:Nat->Bool}(hsc:∀t,sc t=wE->∀x,HX (U.cells t x)){x:Out}(h:x.ZO sc=wE)(ρ:Gh):Cl (x.d.sub ρ)/\∀r∈aP.res ρ x.R,ClR r:=by
 unfold Out.ZO at h
 rw[ze]at h
 refine⟨TI 4 h.1,fun r hr=> ?_⟩
 obtain⟨q,hq,rfl⟩:=zH.1 hr
 have hb:=zm.1 h.2 q hq
 obtain⟨i,rr⟩:=q
 cases rr with
 |row t l=>exact ClR.row (hsc t hb)
 |box T cs=>
  exact ClR.box (Ov cs hb)
def Pp{α γ β:Type}(q:List AV->Option γ)(t:γ->Option β)(out:β->Out)(args:List AV)(R:aP)(nx:Nat)(k:AV->aP->Nat->Option α)(F:Option α):Option α:=
 match args.all (asJ 4)with
 |true=>match q args with
  |some g=>match t g with
   |some b=>k (kR (fun i=>i+nx) 4 (out b).d) ((out b).R.map (fun q=>(q.1+nx,Kg (fun i=>i+nx) q.2))++R) ((out b).c+nx)
   |none=>wC
  |none=>F
 |false=>F
def Xu{γ β:Type}(f0:Nat)(lb:Bool)(q:List AV->Option γ)(t:γ->Option β)(out:β->Out)(F:aI):aI:=fun _ f args R nx k=>match zb f f0 with
 |true=>Pp q t out (args.map (D5 lb (fh R) 3)) R nx k (F _ f args R nx k)
 |false=>F _ f args R nx k
theorem aiX{P:Program}{F:aI}{γ β:Type}{f0:Nat}{lb:Bool}{q:List AV->Option γ}{ca:γ->List AV}{t:γ->Option β}{out:β->Out}{sc:Nat->Bool}(hF:gF P F)(hsc:∀t,sc t=wE->∀x,HX (U.cells t x))(hf:vq P f0)(hq:KO q ca)(hm:∀b,(out b).okB 0=wE)(hs:∀b,(out b).ZO sc=wE)
  (h:∀g b,t g=O b->PA P f0 (ca g) [] 0 (out b)):gF P (Xu f0 lb q t out F):=fun α f args R nx k r hr hargs hR=>by
 unfold Xu at hr
 split at hr
 case h_2=>exact hF α f args R nx k r hr hargs hR
 rename_i hb
 have hb:=fB hb
 subst hb
 unfold Pp at hr
 split at hr
 case h_2=>exact hF α f args R nx k r hr hargs hR
 rename_i hcl
 split at hr
 case h_2=>exact hF α f args R nx k r hr hargs hR
 rename_i g hg
 split at hr
 case h_2=>cases hr
 rename_i b hb
 obtain⟨hqa,_⟩:=hq _ g hg
 have hok:=hm b
 unfold Out.okB at hok
 rw[ze,ze]at hok
 obtain⟨⟨_,ho1⟩,ho2⟩:=hok
 refine⟨hf,fun ρ=> ?_⟩
 have h1:Fn P f ((ca g).map (bP.sub ρ)) [] _:=h g b hb ρ
 have h2:=Fn.avl (args:=args.map (bP.sub ρ)) (σr:=aP.res ρ R) h1 (fun A w us hd hrel=>by
  refine hqa ρ _ w us ⟨by simpa using hrel.1,fun j a v q1 q2=> ?_⟩
  rw[yc,zX]at q1
  obtain⟨c,hc,rfl⟩:=zf.1 q1
  exact R7 hd 3 ((hrel.2 j _ v (by rw[zX,hc];rfl) q2).mono fun b _ hA=>⟨.inl hA,rfl⟩)) (fun av σo ⟨ρ',_,e1,e2⟩=>by
   obtain⟨c1,c2⟩:=aaJ hsc (hs b) ρ'
   subst e1
   exact⟨c1,fun r hr=>c2 r (e2.mem_iff.1 hr)⟩)
 have hlt:∀i,zq i (out b).c=wE->i+nx<(out b).c+nx:=fun i hi=>by rw[yl]at hi;omega
 refine Fn.mono h2 fun a s ⟨s',⟨ρ1,_,g1,g2⟩,g3⟩=> ?_
 let ρ2:Gh:=⟨fun i=>if i<nx then ρ.v i else ρ1.v (i-nx),fun i=>if i<nx then ρ.b i else ρ1.b (i-nx)⟩
 have hag:p6 nx ρ ρ2:=fun i hi=>⟨by simp only[ρ2,if_pos hi],by simp only[ρ2,if_pos hi]⟩
 have hp:∀i,zq i (out b).c=wE->ρ2.v (i+nx)=ρ1.v i/\ρ2.b (i+nx)=ρ1.b i:=fun i _=>by
  have:¬i+nx<nx:=by omega
  exact⟨by simp only[ρ2,if_neg this,Nat.add_sub_cancel],by simp only[ρ2,if_neg this,Nat.add_sub_cancel]⟩
 have hres:aP.res ρ2 ((out b).R.map fun q=>(q.1+nx,Kg (fun i=>i+nx) q.2))=aP.res ρ1 (out b).R:=by
  unfold aP.res
  rw[yc]
  refine zQ fun q hq=> ?_
  have hbq:=zm.1 ho2 q hq
  rw[ze]at hbq
  obtain⟨i,rr⟩:=q
  cases rr with
  |row t l=>show cc.row (ρ2.v (i+nx)) t l= .row (ρ1.v i) t l;rw[(hp i hbq.1).1]
  |box T cs=>
   show cc.box (ρ2.b (i+nx)) T ((cs.map (kR (fun i=>i+nx) 4)).map (bP.sub ρ2))= .box (ρ1.b i) T (cs.map (bP.sub ρ1))
   rw[(hp i hbq.1).2,yc]
   congr 1
   exact zQ fun c hc=>iz hp 4 (zm.1 hbq.2 c hc)
 refine⟨_,_,_,hr,Nat.le_add_left _ _,kz hlt 4 ho1,fun q hq=> ?_,ρ2,hag,?_,?_⟩
 ·rcases zP.1 hq with hq|hq
  ·obtain⟨q',h4,rfl⟩:=zH.1 hq
   have hbq:=zm.1 ho2 q' h4
   rw[ze]at hbq
   refine⟨hlt _ hbq.1,?_⟩
   obtain⟨i,rr⟩:=q'
   cases rr with
   |row t l=>trivial
   |box T cs=>
    intro c hc
    obtain⟨c',h5,rfl⟩:=zH.1 hc
    exact kz hlt 4 (zm.1 hbq.2 c' h5)
  ·exact(hR.mono (Nat.le_add_left _ _)) q hq
 ·rw[g1];exact(iz hp 4 ho1).symm
 ·rw[g3,jD,hres,<-hR.res hag]
  exact g2.append_right _
theorem aK{P:Program}:bf P cQ:=⟨ahq,fun _ _ _ _ _ _ _ _=>rfl⟩
theorem aey{γ δ:Type}{f0 n0:Nat}{q:List AV->aP->Option γ}{t:γ->Option δ}{out:δ->Out}{F:aI}(hN:cY F):cY (orY f0 n0 q t out F):=fun α β f args R nx k D=>by
 unfold orY
 split
 ·unfold Vf W9
  split
  ·split
   ·split<;>rfl
   ·exact hN ..
  ·exact hN ..
 ·exact hN ..
theorem X4{γ δ:Type}{f0:Nat}{lb:Bool}{q:List AV->Option γ}{t:γ->Option δ}{out:δ->Out}{F:aI}(hN:cY F):cY (Xu f0 lb q t out F):=fun α β f args R nx k D=>by
 unfold Xu
 split
 ·unfold Pp
  split
  ·split
   ·split<;>rfl
   ·exact hN ..
  ·exact hN ..
 ·exact hN ..
theorem agL{P:Program}{F:aI}{γ β:Type}{f0 n0:Nat}{q:List AV->aP->Option γ}{ca:γ->List AV}{cr:γ->aP}{t:γ->Option β}{out:β->Out}(hF:bf P F)(hf:vq P f0)(hq:QY q ca cr)(hm:∀b,(out b).okB n0=wE)
 (h:∀g b,t g=O b->PA P f0 (ca g) (cr g) n0 (out b)):bf P (orY f0 n0 q t out F):=⟨aiz hF.ok hf hq hm h,aey hF.nat⟩
theorem apr{P:Program}{F:aI}{γ β:Type}{f0:Nat}{lb:Bool}{q:List AV->Option γ}{ca:γ->List AV}{t:γ->Option β}{out:β->Out}{sc:Nat->Bool}(hF:bf P F)(hsc:∀t,sc t=wE->∀x,HX (U.cells t x))(hf:vq P f0)(hq:KO q ca)(hm:∀b,(out b).okB 0=wE)(hs:∀b,(out b).ZO sc=wE)
 (h:∀g b,t g=O b->PA P f0 (ca g) [] 0 (out b)):bf P (Xu f0 lb q t out F):=⟨aiX hF.ok hsc hf hq hm hs h,X4 hF.nat⟩
theorem aZ{f:FuncId}:aV cQ f:=fun _ _ _ _ _ _ h=>by cases h
theorem fW{γ β:Type}{f0:Nat}{lb:Bool}{q:List AV->Option γ}{t:γ->Option β}{out:β->Out}{F:aI}{f:FuncId}(h:aV F f)(hm:∀b,(out b).R=[]):aV (Xu f0 lb q t out F) f:=fun args R nx d R' nx' hr=>by
 unfold Xu at hr
 split at hr
 ·unfold Pp at hr
  split at hr
  ·split at hr
   ·split at hr
    ·rw[hm]at hr
     cases hr
     rfl
    ·cases hr
   ·exact h _ _ _ _ _ _ hr
  ·exact h _ _ _ _ _ _ hr
 ·exact h _ _ _ _ _ _ hr
theorem JH{γ β:Type}{f0:Nat}{lb:Bool}{q:List AV->Option γ}{t:γ->Option β}{out:β->Out}{F:aI}{f:FuncId}(hne:zb f f0=wD)(h:aV F f):aV (Xu f0 lb q t out F) f:=fun args R nx d R' nx' hr=>by
 unfold Xu at hr
 rw[hne]at hr
 exact h _ _ _ _ _ _ hr
theorem IE{γ β:Type}{f0 n0:Nat}{q:List AV->aP->Option γ}{t:γ->Option β}{out:β->Out}{F:aI}{f:FuncId}(hne:zb f f0=wD)(h:aV F f):aV (orY f0 n0 q t out F) f:=fun args R nx d R' nx' hr=>by
 unfold orY at hr
 rw[hne]at hr
 exact h _ _ _ _ _ _ hr
theorem bZ{α:Type}(b:Bool)(x y:α):(bif b then some x else some y)=some (bif b then x else y):=by cases b<;>rfl
theorem cu{α:Type}(p:Prop)[Decidable p](x y:α):(if p then O x else O y)=O (if p then x else y):=by split<;>rfl
theorem m5{n0:Nat}{args:List AV}(h:args.all (kC (fun i=>zq i n0) 4)=wE):∀d∈args,cj n0 d:=fun d hd=>(AD 4 (zm.1 h d hd)).mono fun i hi=>by rw[yl]at hi;exact hi
theorem kI{n0:Nat}{R:aP}(h:R.all (fun q=>zq q.1 n0&&match q.2 with
  | .box _ cs=>cs.all (kC (fun i=>zq i n0) 4)
  | .row _ _=>wE)=wE):aP.cj n0 R:=fun q hq=>by
 have hb:=zm.1 h q hq
 rw[ze,yl]at hb
 refine⟨hb.1,?_⟩
 obtain⟨i,rr⟩:=q
 cases rr with
 |row t l=>trivial
 |box T cs=>exact m5 hb.2
def qy0{γ:Type}(q:List AV->Option γ)(xs:List AV)(R:aP):Option γ:=match R with
 |[]=>q xs
 |_=>wC
theorem air{γ:Type}{q:List AV->Option γ}{ca:γ->List AV}(h:KO q ca):QY (qy0 q) ca (fun _=>[]):=fun xs R g hg=>by
 unfold qy0 at hg
 split at hg
 ·exact⟨(h xs g hg).1, .nil⟩
 ·cases hg
def qyR{γ δ:Type}(q:List AV->Option γ)(r:aP->Option δ)(xs:List AV)(R:aP):Option (γ×δ):=match q xs with
 |some g=>match r R with
  |some h=>O (g,h)
  |none=>wC
 |none=>wC
theorem ajC{γ δ:Type}{q:List AV->Option γ}{ca:γ->List AV}{r:aP->Option δ}{cr:δ->aP}(hq:KO q ca)(hr:CP r cr):QY (qyR q r) (fun g=>ca g.1) (fun g=>cr g.2):=fun xs R g hg=>by
 unfold qyR at hg
 split at hg
 ·rename_i g' h1
  split at hg
  ·rename_i h' h2
   cases hg
   exact⟨(hq xs g' h1).1,hr R h' h2⟩
  ·cases hg
 ·cases hg
open Classical in
def lim{β:Type}(m:Nat->Option β):Option β:=if h:∃b N,∀n,N<=n->m n=O b then O (Classical.choose h)else wC
theorem cD{β:Type}{m:Nat->Option β}{b:β}(h:lim m=O b):∃n,m n=O b:=by
 unfold lim at h
 split at h
 ·rename_i hx
  cases h
  obtain⟨N,hN⟩:=Classical.choose_spec hx
  exact⟨N,hN N (zx _)⟩
 ·cases h
theorem dy{β:Type}{m:Nat->Option β}{b:β}(N:Nat)(h:∀n,N<=n->m n=O b):lim m=O b:=by
 have hx:∃b N,∀n,N<=n->m n=O b:=⟨b,N,h⟩
 unfold lim
 rw[dif_pos hx]
 obtain⟨M,hM⟩:=Classical.choose_spec hx
 have h1:=hM (max M N) (Nat.le_max_left _ _)
 rw[h (max M N) (Nat.le_max_right _ _)]at h1
 exact h1.symm
theorem PX{P:Program}{f:FuncId}{t:Nat}{x:Out}(h1:∀c,PA P f [.lit (.slice wC 0 c)] [] 0 x)(h2:∀a c,PA P f [.lit (.slice (O a) 0 c)] [] 0 x):PA P f [.sl t []] [] 0 x:=fun ρ w A vs hr hd hn=>by
 have hr':bq A w [(bP.sl t []:AV).sub ρ] vs:=hr
 obtain⟨v,us,rfl,h3,h4⟩:=hr'.head
 rw[fG]at h3
 obtain⟨p,c,g,hv,_⟩:=h3.tX
 have hz:us=[]:=yR (by simpa using h4.1)
 subst hz hv
 cases p with
 |none=>exact h1 c ρ w A _ (bq.cons (by rw[bE];exact .lit _) bq.nil) hd hn
 |some a=>exact h2 a c ρ w A _ (bq.cons (by rw[bE];exact .lit _) bq.nil) hd hn
def asv:AV->Bool
 | .lit _=>wE
 |_=>wD
theorem QU:∀(cs:List AV),cs.all asv=wE->HX cs
 |[],_=> .nil
 |c::cs,h=>by
  rw[List.all_cons,ze]at h
  refine .cons ?_ (QU cs h.2)
  cases c<;>first|(cases h.1;done)|exact .lit _
end Go.Iv
end
noncomputable section
namespace Go.Proofs.YtnfljbehcffmcaaGreat
open Go Go.Iv
def scK:Ky->Bool
 | .k3=>wE
 | .k4=>wE
 | .k5=>wE
 | .k34=>wE
 | .k37=>wE
 | .k129=>wE
 | .k131=>wE
 | .k256=>wE
 | .k260=>wE
 | .k331=>wE
 |_=>wD
def Ay(t:Nat):Bool:=scK (ky t)
theorem aiC:(k:Ky)->scK k=wE->(x:CK k)->HX (mK k x):=by
 intro k h x
 cases k<;>first|(cases h;done)|exact QU _ rfl
theorem dS(t:Nat)(h:Ay t=wE)(x:uni.cH t):HX (uni.cells t x):=aiC (ky t) h x
end Go.Proofs.YtnfljbehcffmcaaGreat
end
