/- Merged: Iwn, Iv8, Iw6, Iw7, Iw8, Iw9, Iw10, Iw11, Iw12, Iw13, Iw14, Iw15, Ixa, Ix1, Ix2, Ua, Ix3, Ix4, Us. -/
import Derived.Test.YtnfljbehcffmcaaGreatM1AbstractRuns
import Derived.RangeFuncNested
import Derived.RangeFuncBound
import Derived.Shelf.Abstract
import Derived.TacticsIn
import Derived.OwnWalkIn
import Derived.Test.YtnfljbehcffmcaaGreatProg
set_option linter.unusedSectionVars false
set_option linter.unusedVariables false
set_option linter.unusedSimpArgs false
noncomputable section
namespace Go.Iv
variable [U:qz] [L:lY]
open Go Go.RowKit
section
variable {α β:Type} (D:α->Option β)
theorem QH{b:BinOp}{k:IntKind}{m n:Int}{K:AV->Option α}:(S6 b k m n K).bind D=S6 b k m n (fun d=>(K d).bind D):=by
 unfold S6
 cases b<;>first|rfl|(dsimp only;split<;>rfl)
theorem W5{P:Program}{b:BinOp}{T:TypeId}{cs ds:List AV}{K:AV->Option α}:(eqS P b T cs ds K).bind D=eqS P b T cs ds (fun d=>(K d).bind D):=by
 unfold eqS
 split
 ·split
  ·cases b<;>first|rfl|exact Option.bind_assoc ..
  ·rfl
 ·rfl
theorem Gx{P:Program}{rd:Nat->Option IR}{b:BinOp}{T:TypeId}{x y:Option AV}{K:AV->Option α}:(Gp P rd b T x y K).bind D=Gp P rd b T x y (fun d=>(K d).bind D):=by
 unfold Gp
 repeat' split
 all_goals first|rfl|exact QH D|exact W5 D|simp_all
theorem KQ{b:UnOp}{x:Option AV}{K:AV->Option α}:(unV b x K).bind D=unV b x (fun d=>(K d).bind D):=by
 unfold unV
 repeat' split
 all_goals first|rfl|simp_all
theorem GL{x:Option AV}{K:AV->Option α}:(H7 x K).bind D=H7 x (fun d=>(K d).bind D):=by
 unfold H7
 repeat' split
 all_goals first|rfl|simp_all
theorem Gm{P:Program}{T:TypeId}{i:Nat}{x:Option AV}{K:AV->Option α}:(JH P T i x K).bind D=JH P T i x (fun d=>(K d).bind D):=by
 unfold JH
 repeat' split
 all_goals first|rfl|simp_all
theorem D5{P:Program}{rd:Nat->Option IR}{T:TypeId}{x y:Option AV}{K:AV->Option α}:(JN P rd T x y K).bind D=JN P rd T x y (fun d=>(K d).bind D):=by
 unfold JN
 repeat' split
 all_goals first|rfl|simp_all
theorem KF{P:Program}{rd:Nat->Option IR}{T:TypeId}{x:Option AV}{K:AV->Option α}:(ldV P rd T x K).bind D=ldV P rd T x (fun d=>(K d).bind D):=by
 unfold ldV
 repeat' split
 all_goals first|rfl|exact Option.bind_assoc .. |simp_all
theorem Q7{P:Program}{ev:Operand->Option AV}{rd:Nat->Option IR}{T:TypeId}{ps:List (Nat×Operand)}{K:AV->Option α}:(Iy P ev rd T ps K).bind D=Iy P ev rd T ps (fun d=>(K d).bind D):=by
 unfold Iy
 repeat' split
 all_goals first|rfl|exact Option.bind_assoc .. |simp_all
theorem EE{P:Program}{rd:Nat->Option IR}{T T':TypeId}{x:Option AV}{K:AV->Option α}:(Je P rd T T' x K).bind D=Je P rd T T' x (fun d=>(K d).bind D):=by
 unfold Je
 repeat' split
 all_goals first|rfl|exact Option.bind_assoc .. |simp_all
theorem Fb{i:Nat}{x:Option AV}{K:AV->Option α}:(JI i x K).bind D=JI i x (fun d=>(K d).bind D):=by
 unfold JI
 repeat' split
 all_goals first|rfl|exact Option.bind_assoc .. |simp_all
theorem QX{ev:Operand->Option AV}{f:Go.Fn}{fs cs:List Operand}{K:AV->Option α}:(HA ev f fs cs K).bind D=HA ev f fs cs (fun d=>(K d).bind D):=by
 unfold HA
 repeat' split
 all_goals first|rfl|exact Option.bind_assoc .. |simp_all
theorem Ge{P:Program}{T:TypeId}{x y:Option AV}{K:AV->Option α}:(Ho P T x y K).bind D=Ho P T x y (fun d=>(K d).bind D):=by
 unfold Ho
 repeat' split
 all_goals first|rfl|exact Option.bind_assoc .. |simp_all
theorem Rz{P:Program}{T:TypeId}{x:Option AV}{lo hi:Option (Option AV)}{K:AV->Option α}:(Hp P T x lo hi K).bind D=Hp P T x lo hi (fun d=>(K d).bind D):=by
 unfold Hp
 repeat' split
 all_goals first|rfl|exact Option.bind_assoc .. |simp_all
theorem Gb{P:Program}{rd:Nat->Option IR}{T:TypeId}{x:Option AV}{K:AV->Option α}:(JJ P rd T x K).bind D=JJ P rd T x (fun d=>(K d).bind D):=by
 unfold JJ
 repeat' split
 all_goals first|rfl|exact Option.bind_assoc .. |simp_all
theorem Rh{P:Program}{nx:Nat}{T:TypeId}{K:eE->Option α}:(N7 P nx T K).bind D=N7 P nx T (fun d=>(K d).bind D):=by
 unfold N7
 exact Option.bind_assoc ..
theorem PM{rd:Nat->Option IR}{nx:Nat}{T:TypeId}{x:Option AV}{K:eE->Option α}:(HS rd nx T x K).bind D=HS rd nx T x (fun d=>(K d).bind D):=by
 unfold HS
 repeat' split
 all_goals first|rfl|exact Option.bind_assoc .. |simp_all
theorem To{P:Program}{rd:Nat->Option IR}{T:TypeId}{x y:Option AV}{K:eE->Option α}:(Ie P rd T x y K).bind D=Ie P rd T x y (fun d=>(K d).bind D):=by
 unfold Ie
 repeat' split
 all_goals first|rfl|exact Option.bind_assoc .. |simp_all
theorem OV{P:Program}{rd:Nat->Option IR}{R:aP}{nx:Nat}{T:TypeId}{x y:Option AV}{K:eE->Option α}:(G7 P rd R nx T x y K).bind D=G7 P rd R nx T x y (fun d=>(K d).bind D):=by
 unfold G7
 split
 ·split
  ·split
   ·split
    ·rw[Option.bind_assoc]
     congr 1
     funext l
     rw[Option.bind_assoc]
     congr 1
     funext l2
     split<;>rfl
    ·rfl
   ·rfl
  ·rfl
 ·rfl
theorem Pz{P:Program}{ev:Operand->Option AV}{rd:Nat->Option IR}{nx:Nat}{T:TypeId}{n:Nat}{ps:List (Nat×Operand)}{K:eE->Option α}:(Hg P ev rd nx T n ps K).bind D=Hg P ev rd nx T n ps (fun d=>(K d).bind D):=by
 unfold Hg
 split
 ·split
  ·split
   ·split<;>rfl
   ·split
    ·split
     ·rw[Option.bind_assoc]
      congr 1
      funext cs
      split
      ·exact Option.bind_assoc ..
      ·rfl
     ·rfl
    ·rfl
  ·rfl
 ·rfl
theorem YX{P:Program}{nx:Nat}{T:TypeId}{x y:Option AV}{K:eE->Option α}:(mkE P nx T x y K).bind D=mkE P nx T x y (fun d=>(K d).bind D):=by
 unfold mkE
 split
 ·split
  ·split
   ·rw[Option.bind_assoc]
    congr 1
    funext d
    split<;>rfl
   ·rfl
  ·rfl
 ·rfl
theorem V0{P:Program}{nx:Nat}{T:TypeId}{x:Option AV}{K:eE->Option α}:(emE P nx T x K).bind D=emE P nx T x (fun d=>(K d).bind D):=by
 unfold emE
 repeat' split
 all_goals first|rfl|simp_all
theorem SZ{P:Program}{T:TypeId}{K:Nat->List Value->Option α}:(OA P T K).bind D=OA P T (fun e zs=>(K e zs).bind D):=by
 unfold OA
 repeat' split
 all_goals first|rfl|simp_all
theorem E7{P:Program}{rd:Nat->Option IR}{e:Nat}{zs:List Value}{T' T:TypeId}{y:Option AV}{K:List (U.cE e)->Option α}:(J4 P rd e zs T' T y K).bind D=J4 P rd e zs T' T y (fun d=>(K d).bind D):=by
 unfold J4
 split
 ·exact Option.bind_assoc ..
 ·split
  ·split
   ·rw[Option.bind_assoc]
    congr 1
    funext d
    split<;>rfl
   ·rfl
  ·rfl
theorem QZ{P:Program}{rd:Nat->Option IR}{nx:Nat}{T T':TypeId}{x y:Option AV}{K:eE->Option α}:(Oz P rd nx T T' x y K).bind D=Oz P rd nx T T' x y (fun d=>(K d).bind D):=by
 unfold Oz
 rw[SZ]
 congr 1
 funext e zs
 split
 ·rw[E7]
  congr 1
  funext l2
  split<;>rfl
 ·split
  ·rw[Option.bind_assoc]
   congr 1
   funext l
   rw[E7]
   congr 1
   funext l2
   split<;>rfl
  ·rfl
 ·rfl
theorem wN{mx:Bool}{xs:List (Option AV)}{K:AV->Option α}:(mnV mx xs K).bind D=mnV mx xs (fun d=>(K d).bind D):=by
 unfold mnV
 split
 ·split
  ·cases mx<;>rfl
  ·rfl
 ·rfl
def cS(F:aI):Prop:=∀(α β:Type) f args R nx (k:AV->aP->Nat->Option α) (D:α->Option β),(F α f args R nx k).bind D=F β f args R nx (fun d R nx=>(k d R nx).bind D)
structure aZ (P:Program) (F:aI):Prop where
 ok:gi P F
 nat:cS F
theorem PA{F:aI}(hF:cS F){ev:Operand->Option AV}{R:aP}{nx:Nat}{x:Option AV}{xs:List Operand}{K:eE->Option α}:(DN F ev R nx x xs K).bind D=DN F ev R nx x xs (fun d=>(K d).bind D):=by
 unfold DN
 split
 ·rw[Option.bind_assoc]
  congr 1
  funext as0
  exact hF ..
 ·rfl
theorem uF{F:aI}(hF:cS F)(o:Op)(P:Program)(ev:Operand->Option AV)(rd:Nat->Option IR)(R:aP)(nx:Nat)(K:eE->Option α):(kZ o P F ev rd R nx K).bind D=kZ o P F ev rd R nx (fun e=>(K e).bind D):=by
 have hP:(fun d=>(cJ K d).bind D)=cJ (fun e=>(K e).bind D):=rfl
 cases o<;>first|rfl|exact Option.bind_assoc .. |exact KQ D|exact EE D|exact GL D|exact Gm D|exact D5 D|exact Ge D|exact KF D|exact To D|exact QX D|exact Fb D|exact Q7 D|exact Pz D|exact YX D|exact Rh D|exact PM D|skip
 case pick c a b=>
  show (s8 c a b P F ev rd R nx K).bind D=s8 c a b P F ev rd R nx _
  unfold s8
  split
  ·exact Option.bind_assoc ..
  ·exact Option.bind_assoc ..
  ·rfl
 case binOp b T x y t=>exact Gx D
 case slice T x lo hi mx=>
  show (Et T x lo hi mx P F ev rd R nx K).bind D=Et T x lo hi mx P F ev rd R nx _
  unfold Et
  split
  ·exact Rz D
  ·split
   ·exact V0 D
   ·rfl
  ·rfl
 case call c=>
  show (yj c P F ev rd R nx K).bind D=yj c P F ev rd R nx _
  unfold yj
  split
  ·exact PA D hF
  ·unfold vF
   split
   ·split
    ·exact Gb D
    ·rfl
   ·split
    ·exact wN D
    ·rfl
   ·split
    ·exact wN D
    ·rfl
   ·split
    ·exact QZ D
    ·rfl
   ·split
    ·exact OV D
    ·rfl
   ·rfl
  ·rfl
end
end Go.Iv
end
noncomputable section
namespace Go.Iv
variable [U:qz]
open Go Go.RowKit Go.Shelf Go.Proofs
section
variable {P:Program} {C:Cx} {n:Nat} {c x y:Code} {Q Q':Exit->Env->List b9->Prop} {E E':Env} {σ σ':List b9}
end
theorem Vw.box{σ:List b9}{b:Nat}{T:TypeId}{cs:List AV}(i:Nat)(hσ:σ[i]? =some (.box b T cs)):Vw σ (.lit (.pointer (some ⟨b,0,none⟩))) (.fp cs):=fun A w v hd hr=>by
 have hv:=hr.cc
 subst hv
 have hm:=List.mem_of_getElem? hσ
 obtain⟨us,h1,h2⟩:=hd.1 _ hm
 exact .fp cs b 0 us h1.lt (.inr (bB.2 ⟨_,hm,rfl⟩)) h2.1 (fun j v hj=>by rw[Nat.zero_add];exact h1.cell (by simpa using hj)) (fun j a v q1 q2=>(h2.2 j a v q1 q2).mono fun b _ hA=>⟨.inl hA,rfl⟩)
def Lay(C:Cx)(σ:List b9)(w:World)(σ':List b9)(W:World):Prop:=∀b,b<w.heap.size->al C σ b->al C σ' b/\W.heap[b]? =w.heap[b]?
def Mid(C:Cx)(σ:List b9)(w:World)(J:List b9->Prop)(W:World):Prop:=
 ∃σ',J σ'/\Good C σ' W/\Lay C σ w σ' W/\w.heap.size<=W.heap.size
end Go.Iv
end
noncomputable section
namespace Go.Iv
variable [U:qz] [L:lY]
open Go Go.RowKit
theorem nU{id t m:Nat}{l:List (U.cE t)}:∀(n:Nat) {d:AV},cg m d->cg m (l6 id t l n d)
 |0,d,h=>h
 |n+1,d,h=>by
  have hL:∀{cs:List AV},(∀c∈cs,cg m c)->∀c∈cs.map (l6 id t l n),cg m c:=fun h c hc=>by
   obtain⟨c',h1,rfl⟩:=List.mem_map.1 hc
   exact nU n (h c' h1)
  unfold l6
  split
  ·rename_i h0;cases h0
  ·rename_i h0;cases h0;exact .agg _ (hL h.mY)
  ·rename_i h0;cases h0;exact .gY _ (hL h.zS)
  ·rename_i h0;cases h0;exact .fn _ _ (hL h.fnL)
  ·unfold Nj
   split
   ·split
    ·exact .sl _ _
    ·exact h
   ·exact h
theorem sW{f:AV->AV}(t:Nat):∀(E:Env),Env.get (E.map fun p=>(p.1,f p.2)) t=(E.get t).map f
 |[]=>rfl
 |(k,v)::E=>by
  show Env.get ((k,f v)::E.map fun p=>(p.1,f p.2)) t=_
  unfold Env.get
  cases hb:Nat.beq k t with
  |true=>rfl
  |false=>exact sW t E
section
variable {α:Type} {r:α} {P:Program} {F:aI} {o:Oper} {C:Cg} {n:Nat} {s:St} {a:Act} {w:World}
theorem Mt.GW(h:Mt C n s a w)(id:Nat):Mt C n (s.GW id) a w:=by
 unfold St.GW
 split
 case h_2=>exact h
 rename_i t l hr
 obtain⟨E,hh,hE,hR,ρ,hag,hsim⟩:=h
 obtain⟨i,hi1,_,hi3⟩:=dc hr
 have hres:=fR (ρ:=ρ) hi1
 have hg:=hsim.good
 have hd:Hd (al C.C (aP.res ρ s.R)) [.row (ρ.v id) t l] w:=⟨fun r hr=>by
   rw[List.mem_singleton]at hr
   rw[hr]
   exact hg.res _ (List.mem_of_getElem? hres),fun b hb hA=>hA.2 (by
   obtain⟨r,h1,h2⟩:=bB.1 hb
   rw[List.mem_singleton]at h1
   rw[h1]at h2
   exact bB.2 ⟨_,List.mem_of_getElem? hres,h2⟩)⟩
 have hle:=EW (C:=C.C) hres hg
 have hbk:bg (aP.res ρ ((jd id s.R).map fun p=>(p.1,sP id t l p.2)))=bg ((aP.res ρ s.R).eraseIdx i):=by
  rw[<-ux,<-hi3]
  unfold bg aP.res
  rw[List.map_map,List.filterMap_map,List.filterMap_map]
  congr 1
  funext p
  obtain⟨q,rr⟩:=p
  cases rr<;>rfl
 have hal:∀b,(al C.C (aP.res ρ s.R) b\/b∈bg [b9.row (ρ.v id) t l])->al C.C (aP.res ρ ((jd id s.R).map fun p=>(p.1,sP id t l p.2))) b:=fun b hb=>by
  have:=hle b hb
  exact⟨this.1,by rw[hbk];exact this.2⟩
 have hrel:∀{d:AV} {v:Value},Rel (al C.C (aP.res ρ s.R)) w (d.sub ρ) v->Rel (al C.C (aP.res ρ ((jd id s.R).map fun p=>(p.1,sP id t l p.2)))) w ((l6 id t l 3 d).sub ρ) v:=fun h=>
  (yB hd 3 h).mono fun b _ hA=>⟨hal b hA,rfl⟩
 refine⟨E.map fun p=>(p.1,l6 id t l 3 p.2),fun k d hk=> ?_,fun p hp=> ?_,fun p hp=> ?_,ρ,hag,hsim.defers.step (fun b _ hA=>⟨hal b (.inl hA),rfl⟩),hsim.size,fun k av hk=> ?_,⟨hg.kept,fun rr hrr=> ?_,?_,fun b hb=> ?_⟩⟩
 ·have hk':cj (emap (l6 id t l 3) s.E) k=some d:=hk
  rw[sN]at hk'
  obtain⟨d',h1,rfl⟩:=Option.map_eq_some_iff.1 hk'
  rw[sW,hh k d' h1]
  rfl
 ·obtain⟨p',h1,rfl⟩:=List.mem_map.1 hp
  exact nU 3 (hE p' h1)
 ·obtain⟨p',h1,rfl⟩:=List.mem_map.1 hp
  have h2:=yT (id:=id) hR p' h1
  refine⟨h2.1,?_⟩
  obtain⟨q,rr⟩:=p'
  cases rr with
  |row t' l'=>trivial
  |box T cs=>
   intro c hc
   obtain⟨c',h3,rfl⟩:=List.mem_map.1 hc
   exact nU 3 (h2.2 c' h3)
 ·rw[Env.dD,sW]at hk
  obtain⟨d',h1,rfl⟩:=Option.map_eq_some_iff.1 hk
  obtain⟨d,h2,rfl⟩:=Option.map_eq_some_iff.1 h1
  obtain⟨v,h3,h4⟩:=hsim.slots k (d.sub ρ) (by rw[Env.dD,h2];rfl)
  exact⟨v,h3,hrel h4⟩
 ·obtain⟨p,h1,rfl⟩:=List.mem_map.1 hrr
  obtain⟨p',h2,rfl⟩:=List.mem_map.1 h1
  have hm:p'.2.res ρ p'.1∈aP.res ρ s.R:=by
   rw[hi3]at h2
   exact List.mem_map.2 ⟨p',List.mem_of_mem_eraseIdx h2,rfl⟩
  have h3:=hg.res _ hm
  obtain⟨q,rr⟩:=p'
  cases rr with
  |row t' l'=>exact h3.mono (fun b _ hA=>⟨hal b (.inl hA),rfl⟩) (fun _ _=>rfl)
  |box T cs=>
   obtain⟨us,h4,h5⟩:=h3
   refine⟨us,h4,by simpa using h5.1,fun j av v q1 q2=> ?_⟩
   rw[List.map_map,List.getElem?_map]at q1
   obtain⟨c,hc,rfl⟩:=Option.map_eq_some_iff.1 q1
   exact hrel (h5.2 j (c.sub ρ) v (by rw[List.getElem?_map,hc];rfl) q2)
 ·rw[hbk]
  exact hg.Ac.sublist ((List.eraseIdx_sublist _ _).filterMap _)
 ·rw[hbk]at hb
  exact hg.own b (nI (fun r hr=>(List.eraseIdx_sublist _ _).subset hr) b hb)
def St.iU(s:St)(ids:List Nat):St:=match ids with
 |[]=>s
 |i::is=>(s.GW i).iU is
theorem Mt.iU:∀(ids:List Nat) {s:St},Mt C n s a w->Mt C n (s.iU ids) a w
 |[],_,h=>h
 |i::is,_,h=>Mt.iU is (h.GW i)
def adP:AV->List Nat
 | .own id=>[id]
 | .agg cs=>cs.filterMap fun c=>match c with
  | .own id=>some id
  |_=>none
 |_=>[]
def RM(E:ET)(x:Operand):List Nat:=match zB E x with
 |some d=>adP d
 |none=>[]
def gG(E:ET):Op->List Nat
 | .buildSlice _ _ ps=>ps.toList.flatMap fun p=>RM E p.2
 | .store T x v=>match L.fz (Nat.add 1000000 T)with
  |true=>RM E v
  |false=>match zB E x with
   |some (.ra _ _ _ _)=>RM E v
   |_=>[]
 | .slice _ x _ _ none=>RM E x
 | .call c=>match c.callee with
  | .value (.func f)=>match L.fz f with
   |true=>c.args.toList.flatMap (RM E)
   |false=>[]
  |_=>[]
 |_=>[]
def St.ei(s:St)(t:Nat)(b:Bool):St:={s with E:=kg t (.b b) s.E}
theorem Mt.ei{t:Nat}{b:Bool}(h:Mt C n s a w)(ht:cj s.E t=some (.lit (.bool b))):Mt C n (s.ei t b) a w:=by
 obtain⟨E,hh,hE,hR,ρ,hag,hsim⟩:=h
 refine⟨E,fun k d hk=> ?_,hE,hR,ρ,hag,hsim⟩
 have hk':cj (kg t (.b b) s.E) k=some d:=hk
 rcases nN hk' with ⟨rfl,rfl⟩|⟨_,h2⟩
 ·exact hh _ _ ht
 ·exact hh k d h2
def gate(ops:Array Oper)(o:Oper)(s:St)(yes no:St->Option α):Option α:=match o.guard with
 |none=>yes s
 |some (j,want)=>match (ops[j]?).bind (·.dst)with
  |none=>none
  |some t=>match cj s.E t with
   |some (.lit (.bool b))=>match b with
    |true=>match want with
     |true=>yes (s.ei t true)
     |false=>no (s.ei t true)
    |false=>match want with
     |true=>no (s.ei t false)
     |false=>yes (s.ei t false)
   |some (.lit (.tuple _))=>no s
   |_=>none
theorem AS{ops:Array Oper}{j t:Nat}{want:Bool}{ρ:Gh}(hg:o.guard=some (j,want))(hj:(ops[j]?).bind (·.dst)=some t){E:Env}:
  (∀b,E.get t=some (.lit (.bool b))->oP (E.sub ρ) o ops=some (b==want))/\(∀vs,E.get t=some (.lit (.tuple vs))->oP (E.sub ρ) o ops=some false):=by
 constructor
 ·intro b hb
  unfold oP
  rw[hg]
  simp only[hj,Env.dD,hb,Option.map_some,bC]
 ·intro vs hb
  unfold oP
  rw[hg]
  simp only[hj,Env.dD,hb,Option.map_some,bC]
theorem Zt{ops:Array Oper}{yes no:St->Option α}(h:gate ops o s yes no=some r)(hm:Mt C n s a w):∃s',Mt C n s' a w/\
  ((Region.wanted o (yielded ops a.tmps)=true/\yes s'=some r)\/(Region.wanted o (yielded ops a.tmps)=false/\no s'=some r)):=by
 unfold gate at h
 split at h
 ·rename_i hg
  exact⟨s,hm, .inl ⟨by simp[Region.wanted,hg],h⟩⟩
 ·rename_i j want hg
  split at h
  ·cases h
  ·rename_i t hj
   have hspec:∀{s':St},Mt C n s' a w->(∀b,cj s'.E t=some (.lit (.bool b))->Region.wanted o (yielded ops a.tmps)=(b==want))/\(∀vs,cj s'.E t=some (.lit (.tuple vs))->Region.wanted o (yielded ops a.tmps)=false):=fun{s'} hm'=>by
    obtain⟨E,hh,_,_,ρ,_,hsim⟩:=hm'
    obtain⟨h1,h2⟩:=AS (ρ:=ρ) hg hj (E:=E)
    exact⟨fun b hb=>oP.spec hsim.slots (h1 b (hh _ _ hb)),fun vs hv=>oP.spec hsim.slots (h2 vs (hh _ _ hv))⟩
   split at h
   ·rename_i b hb
    have hw:=(hspec hm).1 b hb
    split at h
    ·split at h
     ·exact⟨_,hm.ei hb, .inl ⟨hw,h⟩⟩
     ·exact⟨_,hm.ei hb, .inr ⟨hw,h⟩⟩
    ·split at h
     ·exact⟨_,hm.ei hb, .inr ⟨hw,h⟩⟩
     ·exact⟨_,hm.ei hb, .inl ⟨hw,h⟩⟩
   ·rename_i vs hb
    exact⟨s,hm, .inr ⟨(hspec hm).2 vs hb,h⟩⟩
   ·cases h
def vq(o:Op)(s:St)(f:St->Option α):Option α:=match o with
 | .pick (.tmp t) _ _=>match cj s.E t with
  |some (.lit (.bool b))=>match b with
   |true=>f (s.ei t true)
   |false=>f (s.ei t false)
  |_=>none
 |_=>f s
theorem Rw{op:Op}{f:St->Option α}(h:vq op s f=some r)(hm:Mt C n s a w):∃s',Mt C n s' a w/\f s'=some r:=by
 unfold vq at h
 split at h
 ·split at h
  ·rename_i b hb
   split at h
   ·exact⟨_,hm.ei hb,h⟩
   ·exact⟨_,hm.ei hb,h⟩
  ·cases h
 ·exact⟨s,hm,h⟩
def p7(dst:Option Nat)(d:AV)(E:ET):ET:=match dst with
 |none=>E
 |some t=>kg t d E
def By(dst:Option Nat)(E:ET)(R:aP)(nx:Nat)(ih:St->(St->Option α)->Option α)(k:St->Option α)(e:eE):Option α:=match e with
 | .val d=>ih ⟨p7 dst d E,R,nx⟩ k
 | .new d r=>ih ⟨p7 dst d E,(nx,r)::R,nx+1⟩ k
 | .set id r=>ih ⟨p7 dst (.lit undef) E,rV id r R,nx⟩ k
 | .grow id r=>ih ⟨p7 dst (.own nx) E,(nx,r)::jd id R,nx+1⟩ k
 | .all d R' m=>ih ⟨p7 dst d E,R',m⟩ k
theorem Xl(dst:Option Nat)(s:St)(ih:St->(St->Option α)->Option α)(k:St->Option α):By dst s.E s.R s.nx ih k=fun e=>ih (s.app dst e) k:=by
 funext e
 cases e<;>cases dst<;>rfl
def adJ(P:Program)(F:aI)(o:Oper)(ih:St->(St->Option α)->Option α)(k:St->Option α)(s:St):Option α:=St.rec (fun E R nx=>kZ o.op P F (zB E) (eO R) R nx (By o.dst E R nx ih k)) s
def rDo(P:Program)(F:aI)(o:Oper)(ih:St->(St->Option α)->Option α)(k:St->Option α)(s:St):Option α:=adJ P F o ih k (s.iU (gG s.E o.op))
abbrev OpK(α:Type):=Program->aI->Option Nat->ET->aP->Nat->(St->(St->Option α)->Option α)->(St->Option α)->Option α
abbrev StT(α:Type):=Program->aI->(Operand->Option AV)->(Nat->Option IR)->aP->Nat->(eE->Option α)->Option α
def Ak(f:StT α):OpK α:=fun P F dst E R nx ih k=>f P F (zB E) (eO R) R nx (By dst E R nx ih k)
def stZ(ids:ET->List Nat)(f:StT α):OpK α:=fun P F dst E R nx ih k=>St.rec (fun E R nx=>f P F (zB E) (eO R) R nx (By dst E R nx ih k)) (St.iU ⟨E,R,nx⟩ (ids E))
def apu(c a b:Operand):OpK α:=match c with
 | .tmp t=>fun P F dst E R nx ih k=>match cj E t with
  |some (.lit (.bool v))=>match v with
   |true=>Ak (s8 (.tmp t) a b) P F dst (kg t (.b true) E) R nx ih k
   |false=>Ak (s8 (.tmp t) a b) P F dst (kg t (.b false) E) R nx ih k
  |_=>none
 |c=>Ak (s8 c a b)
def opF(o:Op):OpK α:=match o with
 | .move x=>Ak (MF x)
 | .assign x=>Ak (MF x)
 | .pick c a b=>apu c a b
 | .binOp b T x y _=>Ak (abg b T x y)
 | .unOp b _ x=>Ak (ah3 b x)
 | .convert T T' x=>Ak (aby T T' x)
 | .nilCheck x=>Ak (abH x)
 | .fieldAddr T x i=>Ak (acy T x i)
 | .indexAddr T x y=>Ak (aaI T x y)
 | .index T x y=>Ak (aaH T x y)
 | .load T x=>Ak (amF T x)
 | .store T x y=>stZ (fun E=>gG E (.store T x y)) (aba T x y)
 | .makeFunc f fs cs=>Ak (abP f fs cs)
 | .extract x i=>Ak (aa8 x i)
 | .build T ps=>Ak (abt T ps)
 | .buildSlice T n ps=>stZ (fun E=>gG E (.buildSlice T n ps)) (aaA T n ps)
 | .makeSlice T x y=>Ak (ai5 T x y)
 | .alloc T=>Ak (abp T)
 | .box T x=>Ak (acw T x)
 | .slice T x lo hi mx=>stZ (fun E=>gG E (.slice T x lo hi mx)) (Et T x lo hi mx)
 | .call c=>stZ (fun E=>gG E (.call c)) (yj c)
 |_=>Ak ah9
theorem DZ(P:Program)(F:aI)(o:Oper)(s:St)(ih:St->(St->Option α)->Option α)(k:St->Option α):opF o.op P F o.dst s.E s.R s.nx ih k=vq o.op s (rDo P F o ih k):=by
 unfold rDo adJ vq
 cases h:o.op<;>first|rfl|skip
 case pick c a b=>
  cases c<;>rfl
def akY(P:Program)(F:aI)(o:Oper)(ih:St->(St->Option α)->Option α)(k:St->Option α)(s:St):Option α:=St.rec (fun E R nx=>opF o.op P F o.dst E R nx ih k) s
def rNo(dst:Option Nat)(ih:St->(St->Option α)->Option α)(k:St->Option α)(s:St):Option α:=match dst with
 |some t=>ih {s with E:=kg t (.lit undef) s.E} k
 |none=>ih s k
def Gl(P:Program)(F:aI)(n:Nat)(ops:Array Oper)(o:Oper)(ih:St->(St->Option α)->Option α)(s:St)(k:St->Option α):Option α:=match Er n o.dst with
 |true=>gate ops o s (akY P F o ih k) (rNo o.dst ih k)
 |false=>none
def dB(P:Program)(F:aI)(n:Nat)(ops:Array Oper)(l:List Oper):St->(St->Option α)->Option α:=List.rec (fun s k=>k s) (fun o _ ih=>Gl P F n ops o ih) l
theorem yF(hF:gi P F){ops:Array Oper}{k:St->Option α}:∀(rest:List Oper) {s:St} {a:Act} {w:World},dB P F n ops rest s k=some r->Mt C n s a w->
  wpList P ops (fun e a' w'=>e= .normal/\a'.defers=a.defers/\∃s',k s'=some r/\Mt C n s' a' w') rest a w
 |[],s,a,w,h,hm=>⟨rfl,rfl,s,h,hm⟩
 |o::rest,s,a,w,h,hm=>by
  change Gl P F n ops o (dB P F n ops rest) s k=some r at h
  unfold Gl at h
  split at h
  case h_2=>cases h
  rename_i hd
  refine wpList_step fun K' hK=> ?_
  have cont:∀{s':St} {a':Act} {w':World},a'.defers=a.defers->dB P F n ops rest s' k=some r->Mt C n s' a' w'->K' a' w':=fun{s' a' w'} hda h1 h2=>hK _ _ (by
   have:=yF hF rest h1 h2
   rw[hda]at this
   exact this)
  obtain⟨s1,hm1,⟨hw,h1⟩|⟨hw,h1⟩⟩:=Zt h hm
  ·rw[if_pos hw]
   have h1':opF o.op P F o.dst s1.E s1.R s1.nx (dB P F n ops rest) k=some r:=h1
   rw[DZ]at h1'
   obtain⟨s2,hm2,h2⟩:=Rw h1' hm1
   unfold rDo at h2
   have e2:∀s:St,adJ P F o (dB P F n ops rest) k s=C5 P F (zB s.E) (eO s.R) s.R s.nx o.op (fun e=>dB P F n ops rest (s.app o.dst e) k):=fun s=>by
    show kZ o.op P F (zB s.E) (eO s.R) s.R s.nx (By o.dst s.E s.R s.nx (dB P F n ops rest) k)=_
    rw[D9,Xl]
   rw[e2]at h2
   have hm3:=Mt.iU (gG s2.E o.op) hm2
   exact afk (K:=fun e=>dB P F n ops rest ((s2.iU (gG s2.E o.op)).app o.dst e) k) (r:=r) hm3 hd (fun E hs=>Ag hF hs rfl h2) fun a' w' e q1 q2 _ q4=>cont q1 q2 q4
  ·rw[if_neg (by rw[hw];exact Bool.false_ne_true)]
   cases hdst:o.dst with
   |none=>
    rw[hdst]at h1
    exact cont rfl h1 hm1
   |some t=>
    rw[hdst]at h1 hd
    obtain⟨E,hh,hE,hR,ρ,hag,hsim⟩:=hm1
    exact cont rfl h1 ⟨(t, .lit undef)::E,hh.put t _,Env.tc hE (.lit _),hR,ρ,hag,by
     have:=hsim.put (av:= .lit undef) (v:=undef) hd (.lit _)
     show rZ C.C n ((t,bL.sub ρ (.lit undef))::E.sub ρ) _ _ _
     rw[bC]
     exact this⟩
end
def InL(P:Program)(c:Code)(Q:Exit->Act->World->Prop)(a:Act)(w:World):Prop:=
 ∀(b:Frame) (k:List Item) (cs:List Frame),∃e a' w',Q e a' w'/\Arrives P (lone (b.at a (.inLoop c::k)) cs w) b k cs e a' w'
theorem zX{P:Program}{c:Code}{Q:Exit->Act->World->Prop}{a:Act}{w:World}(h:c.wp P (Exit.then (InL P c Q) Q) a w)(b:Frame)(k:List Item)(cs:List Frame):
  ∃e a' w',Q e a' w'/\Arrives P (lone (b.at a (.code c:: .inLoop c::k)) cs w) b k cs e a' w':=by
 obtain⟨e,a₁,w₁,hq,harr⟩:=h b (.inLoop c::k) cs
 cases e with
 |normal=>
  obtain⟨e₂,a₂,w₂,hq₂,harr₂⟩:=hq b k cs
  exact⟨e₂,a₂,w₂,hq₂, .of_steps harr harr₂⟩
 |exit id=>exact⟨_,a₁,w₁,hq, .pass (x:= .inLoop c) rfl (fun _ _=> .inl (by simp)) harr⟩
 |goto l=>exact⟨_,a₁,w₁,hq, .pass (x:= .inLoop c) rfl (fun _ _=> .inl (by simp)) harr⟩
 |ret=>exact⟨_,a₁,w₁,hq, .pass (x:= .inLoop c) rfl (fun _ _=> .inl (by simp)) harr⟩
 |panic ch=>exact⟨_,a₁,w₁,hq, .pass (x:= .inLoop c) rfl (fun _ _=> .inl (by simp)) harr⟩
 |outgrown=>exact⟨_,a₁,w₁,hq, .pass (x:= .inLoop c) rfl (fun _ _=> .inl (by simp)) harr⟩
theorem AF{P:Program}{c:Code}{Q:Exit->Act->World->Prop}{a:Act}{w:World}(h:c.wp P (Exit.then (InL P c Q) Q) a w):(Code.loop c).wp P Q a w:=fun b k cs=>
 let ⟨e,a',w',hq,harr⟩:=zX h b k cs
 ⟨e,a',w',hq, .of_steps (.one step_loop) harr⟩
theorem Gd{P:Program}{c:Code}{Q:Exit->Act->World->Prop}{a:Act}{w:World}(h:c.wp P (Exit.then (InL P c Q) Q) a w):InL P c Q a w:=fun b k cs=>
 let ⟨e,a',w',hq,harr⟩:=zX h b k cs
 ⟨e,a',w',hq, .of_steps (.one step_inLoop) harr⟩
section
variable {α:Type} {r:α} {P:Program} {F:aI} {C:Cx} {n:Nat}
abbrev eW(α:Type):=Exit->St->Option α
def Ey(k:eW α)(ih:St->Option α):eW α:=fun e s=>match e with
 | .normal=>ih s
 |e=>k e s
def xM(b:St->eW α->Option α)(k:eW α)(m:Nat):St->Option α:=Nat.rec (fun _=>none) (fun _ ih s=>b s (Ey k ih)) m
def PB(b:Bool)(t:Nat)(s:St)(x y:St->Option α):Option α:=match b with
 |true=>x (s.ei t true)
 |false=>y (s.ei t false)
def oS(c:Operand)(s:St)(x y:St->Option α):Option α:=match c with
 | .tmp t=>match cj s.E t with
  |some (.lit (.bool b))=>PB b t s x y
  |_=>none
 | .const (.bool true)=>x s
 | .const (.bool false)=>y s
 |_=>none
def YM(y:St->eW α->Option α)(k:eW α):eW α:=fun e s=>match e with
 | .normal=>y s k
 |e=>k e s
def qJ(id:Nat)(k:eW α):eW α:=fun e s=>match e with
 | .exit i=>match Nat.beq i id with
  |true=>k .normal s
  |false=>k (.exit i) s
 |e=>k e s
def RT(s:St)(k:eW α):Option α:=k .normal s
def aiD(x y:St->eW α->Option α)(s:St)(k:eW α):Option α:=x s (YM y k)
def adw(c:Operand)(x y:St->eW α->Option α)(s:St)(k:eW α):Option α:=oS c s (fun s=>x s k) (fun s=>y s k)
def ZV(id:Nat)(x:St->eW α->Option α)(s:St)(k:eW α):Option α:=x s (qJ id k)
def RC(fuel:Nat)(x:St->eW α->Option α)(s:St)(k:eW α):Option α:=xM x k fuel s
def S8(i:Nat)(s:St)(k:eW α):Option α:=k (.exit i) s
def abS(s:St)(k:eW α):Option α:=k .ret s
def zM(_:St)(_:eW α):Option α:=none
def OW(P:Program)(s:St):ResultVar->Option AV
 | .tmp t=>cj s.E t
 | .cell t ty=>match cj s.E t with
  |some (.ptr id 0)=>match eO s.R id with
   |some (.box _ cs)=>match Ng P ty with
    |true=>cs[0]?
    |false=>match ML P ty with
     |some m=>match Nat.beq cs.length m with
      |true=>some (.agg cs)
      |false=>none
     |none=>none
   |_=>none
  |_=>none
def zF(P:Program)(s:St):List ResultVar->Option (List AV)
 |[]=>some []
 |x::xs=>match OW P s x with
  |some d=>(zF P s xs).map fun ds=>d::ds
  |none=>none
def fG:List AV->AV
 |[d]=>d
 |ds=> .gY ds
def mU:Nat->AV->List Nat
 |_, .own id=>[id]
 |_, .ptr id _=>[id]
 |_, .ra id _ _ _=>[id]
 |n+1, .agg cs=>cs.flatMap (mU n)
 |n+1, .gY cs=>cs.flatMap (mU n)
 |n+1, .fn _ cs=>cs.flatMap (mU n)
 |_,_=>[]
def cH(i:Nat):List Nat->Bool
 |[]=>false
 |j::js=>match Nat.beq i j with
  |true=>true
  |false=>cH i js
def aop(R:aP)(ids:List Nat):List Nat:=ids.flatMap fun i=>match eO R i with
 |some (.box _ cs)=>cs.flatMap (mU 3)
 |_=>[]
def reach(R:aP):Nat->List Nat->List Nat
 |0,ids=>ids
 |m+1,ids=>ids++reach R m (aop R ids)
def K5(nx:Nat)(ids:List Nat)(R:aP):aP:=List.rec [] (fun p R ih=>Bool.rec (Bool.rec ih (p::ih) (cH p.1 ids)) (p::R) (Nat.blt p.1 nx)) R
def mO(R:aP)(nx:Nat)(d:AV):aP:=K5 nx (reach R 3 (mU 3 d)) R
def Gk(i:Nat)(l:List AV):ET->ET:=List.rec (fun _ T=>T) (fun d _ ih i T=>ih (i+1) (kg i d T)) l i
end
end Go.Iv
end
noncomputable section
namespace Go.Iv
variable [U:qz]
open Go Go.RowKit
abbrev Fr:Type:=Nat->Option AV
structure Rc where
 dst:Option Nat
 v:AV
 sl:List Nat
 rd:List Nat
 wr:List Nat
 ef:Bool
 Lo:aP
def fL(rd:List Nat)(R:aP):aP:=R.filter fun p=> !cH p.1 rd
def bN(rd:List Nat)(R:aP):aP:=R.filter fun p=>cH p.1 rd
def Rc.F(c:Rc)(f:Fr):Fr:=fun t=>if c.dst=some t then some c.v else f t
def Rc.R(c:Rc)(R:aP):aP:=match c.ef with
 |true=>c.Lo++fL c.wr R
 |false=>R
def fo:List Rc->List Bool->Fr->Fr
 |c::cs,b::bs,f=>fo cs bs (match b with|true=>c.F f|false=>f)
 |_,_,f=>f
def fO:List Rc->List Bool->aP->aP
 |c::cs,b::bs,R=>fO cs bs (match b with|true=>c.R R|false=>R)
 |_,_,R=>R
theorem dX{i:Nat}:∀{l:List Nat},cH i l=true↔i∈l
 |[]=>by simp[cH]
 |j::js=>by
  unfold cH
  cases h:Nat.beq i j with
  |true=>have:=eV h;subst this;simp
  |false=>
   have hne:i≠j:=fun e=>by rw[e,Nat.beq_refl]at h;cases h
   simp only[List.mem_cons,hne,false_or]
   exact dX
theorem gV{i:Nat}{l:List Nat}:cH i l=false↔i∉l:=by
 cases h:cH i l with
 |true=>simp[dX.1 h]
 |false=>simp only[true_iff];exact fun hm=>by rw[dX.2 hm]at h;cases h
structure CF (c d:Rc):Prop where
 ds:∀t,c.dst=some t->t∉d.sl/\d.dst≠some t
 sd:∀t,d.dst=some t->t∉c.sl
 rc:c.ef=true->(∀i∈c.wr,i∉d.rd)/\(∀p∈c.Lo,p.1∉d.rd)/\∀p∈c.Lo,p.1∉d.wr
 rd:d.ef=true->(∀i∈d.wr,i∉c.rd)/\(∀p∈d.Lo,p.1∉c.rd)/\∀p∈d.Lo,p.1∉c.wr
theorem CF.symm{c d:Rc}(h:CF c d):CF d c:=⟨fun t ht=>⟨h.sd t ht,fun e=>(h.ds t e).2 ht⟩,fun t ht=>(h.ds t ht).1,h.rd,h.rc⟩
theorem apc{c i:Rc}(h:CF c i)(R:aP):bN i.rd (c.R R)=bN i.rd R:=by
 unfold Rc.R
 cases he:c.ef with
 |false=>rfl
 |true=>
  obtain⟨h1,h2,_⟩:=h.rc he
  simp only[bN,fL,List.filter_append,List.filter_filter]
  have e1:c.Lo.filter (fun p=>cH p.1 i.rd)=[]:=List.filter_eq_nil_iff.2 fun p hp=>by simp[gV.2 (h2 p hp)]
  rw[e1,List.nil_append]
  refine List.filter_congr fun p _=> ?_
  cases hm:cH p.1 i.rd with
  |false=>rfl
  |true=>
   have:cH p.1 c.wr=false:=gV.2 fun hc=>h1 _ hc (dX.1 hm)
   rw[this];rfl
theorem aoO{c i:Rc}(h:CF c i)(f:Fr){t:Nat}(ht:t∈i.sl):c.F f t=f t:=by
 unfold Rc.F
 split
 ·rename_i hd;exact absurd ht (h.ds t hd).1
 ·rfl
theorem ZO{c:Rc}{rd:List Nat}{R R':aP}(h:bN rd R=bN rd R'):bN rd (c.R R)=bN rd (c.R R'):=by
 unfold Rc.R
 cases c.ef with
 |false=>exact h
 |true=>
  simp only[bN,fL,List.filter_append,List.filter_filter]at h ⊢
  congr 1
  have e:∀R:aP,R.filter (fun p=>cH p.1 rd&& !cH p.1 c.wr)=(R.filter fun p=>cH p.1 rd).filter fun p=> !cH p.1 c.wr:=fun R=>by
   rw[List.filter_filter]
   exact List.filter_congr fun p _=>Bool.and_comm ..
  rw[e,e,h]
theorem Dx{i:Rc}:∀(cs:List Rc) (bs bs':List Bool) (f f':Fr) (R R':aP),bs.length=cs.length->bs'.length=cs.length->
  (∀(j:Nat) c b b',cs[j]? =some c->bs[j]? =some b->bs'[j]? =some b'->b=b'\/CF c i)->
  (∀t∈i.sl,f t=f' t)->bN i.rd R=bN i.rd R'->(∀t∈i.sl,fo cs bs f t=fo cs bs' f' t)/\bN i.rd (fO cs bs R)=bN i.rd (fO cs bs' R')
 |[],_,_,f,f',R,R',_,_,_,h1,h2=>⟨by simpa [fo]using h1,by simpa [fO]using h2⟩
 |c::cs,[],_,_,_,_,_,hl,_,_,_,_=>by cases hl
 |c::cs,_::_,[],_,_,_,_,_,hl,_,_,_=>by cases hl
 |c::cs,b::bs,b'::bs',f,f',R,R',hl,hl',hb,h1,h2=>by
  have h0:=hb 0 c b b' rfl rfl rfl
  have hrec:=fun f f' R R'=>Dx (i:=i) cs bs bs' f f' R R' (by simpa using hl) (by simpa using hl') (fun j c b b' q1 q2 q3=>hb (j+1) c b b' q1 q2 q3)
  unfold fo fO
  refine hrec _ _ _ _ ?_ ?_
  ·intro t ht
   rcases h0 with rfl|hcf
   ·cases b with
    |false=>exact h1 t ht
    |true=>show c.F f t=c.F f' t;unfold Rc.F;split<;>first|rfl|exact h1 t ht
   ·cases b<;>cases b'<;>simp only[aoO hcf _ ht]<;>exact h1 t ht
  ·rcases h0 with rfl|hcf
   ·cases b with
    |false=>exact h2
    |true=>exact ZO h2
   ·cases b<;>cases b'<;>simp only[apc hcf]<;>exact h2
theorem adx{c d:Rc}(h:CF c d)(f:Fr):c.F (d.F f)=d.F (c.F f):=by
 funext t
 unfold Rc.F
 by_cases h1:c.dst=some t
 ·rw[if_pos h1,if_neg (h.ds t h1).2,if_pos h1]
 ·by_cases h2:d.dst=some t
  ·rw[if_neg h1,if_pos h2,if_pos h2]
  ·rw[if_neg h1,if_neg h2,if_neg h2,if_neg h1]
theorem ag4{c:Rc}{R R':aP}(h:List.Perm R R'):List.Perm (c.R R) (c.R R'):=by
 unfold Rc.R
 cases c.ef with
 |false=>exact h
 |true=>exact(h.filter _).append_left _
theorem aei{c d:Rc}(h:CF c d)(R:aP):List.Perm (c.R (d.R R)) (d.R (c.R R)):=by
 unfold Rc.R
 cases hc:c.ef with
 |false=>cases d.ef<;>exact .refl _
 |true=>
  cases hd:d.ef with
  |false=>exact .refl _
  |true=>
   obtain⟨h1,_,h2⟩:=h.rc hc
   obtain⟨h3,_,h4⟩:=h.rd hd
   simp only[fL,List.filter_append,List.filter_filter]
   have e1:d.Lo.filter (fun p=> !cH p.1 c.wr)=d.Lo:=List.filter_eq_self.2 fun p hp=>by simp[gV.2 (h4 p hp)]
   have e2:c.Lo.filter (fun p=> !cH p.1 d.wr)=c.Lo:=List.filter_eq_self.2 fun p hp=>by simp[gV.2 (h2 p hp)]
   rw[e1,e2,<-List.append_assoc,<-List.append_assoc]
   refine(List.perm_append_comm).append ?_
   rw[show (R.filter fun a=> !cH a.1 c.wr&& !cH a.1 d.wr)=R.filter fun a=> !cH a.1 d.wr&& !cH a.1 c.wr from List.filter_congr fun p _=>Bool.and_comm ..]
theorem late{i:Rc}:∀(cs:List Rc) (bs:List Bool) (f:Fr) (R R':aP),(∀(j:Nat) c,cs[j]? =some c->bs[j]? =some true->CF i c)->List.Perm R' (i.R R)->
  i.F (fo cs bs f)=fo cs bs (i.F f)/\List.Perm (i.R (fO cs bs R)) (fO cs bs R')
 |[],_,f,R,R',_,hp=>⟨rfl,hp.symm⟩
 |_::_,[],f,R,R',_,hp=>⟨rfl,hp.symm⟩
 |c::cs,b::bs,f,R,R',hb,hp=>by
  unfold fo fO
  cases b with
  |false=>exact late cs bs f R R' (fun j c q1 q2=>hb (j+1) c q1 q2) hp
  |true=>
   have hcf:=hb 0 c rfl rfl
   have h1:=late cs bs (c.F f) (c.R R) (c.R R') (fun j c q1 q2=>hb (j+1) c q1 q2) ((ag4 hp).trans (aei hcf.symm R))
   refine⟨?_,h1.2⟩
   rw[h1.1,adx hcf]
theorem y5:∀(pre:List Rc) (bp:List Bool) (cs:List Rc) (bs:List Bool) (f:Fr),bp.length=pre.length->fo (pre++cs) (bp++bs) f=fo cs bs (fo pre bp f)
 |[],[],_,_,_,_=>rfl
 |_::_,[],_,_,_,h=>by cases h
 |[],_::_,_,_,_,h=>by cases h
 |c::pre,b::bp,cs,bs,f,h=>by
  show fo (pre++cs) (bp++bs) _=_
  rw[y5 pre bp cs bs _ (by simpa using h)]
  rfl
theorem w9:∀(pre:List Rc) (bp:List Bool) (cs:List Rc) (bs:List Bool) (R:aP),bp.length=pre.length->fO (pre++cs) (bp++bs) R=fO cs bs (fO pre bp R)
 |[],[],_,_,_,_=>rfl
 |_::_,[],_,_,_,h=>by cases h
 |[],_::_,_,_,_,h=>by cases h
 |c::pre,b::bp,cs,bs,R,h=>by
  show fO (pre++cs) (bp++bs) _=_
  rw[w9 pre bp cs bs _ (by simpa using h)]
  rfl
theorem Sq{cs:List Rc}{bs:List Bool}{i:Nat}{c:Rc}(f:Fr)(R:aP)(hl:bs.length=cs.length)(hc:cs[i]? =some c)(hb:bs[i]? =some false)
  (hpre:∀(j:Nat) d,j<i->cs[j]? =some d->bs[j]? =some false->CF d c) (hpost:∀(j:Nat) d,i<j->cs[j]? =some d->bs[j]? =some true->CF d c):
  (∀t∈c.sl,fo cs bs f t=fo (cs.take i) (List.replicate i true) f t)/\bN c.rd (fO cs bs R)=bN c.rd (fO (cs.take i) (List.replicate i true) R)/\
  c.F (fo cs bs f)=fo cs (bs.set i true) f/\List.Perm (c.R (fO cs bs R)) (fO cs (bs.set i true) R):=by
 have hi:i<cs.length:=(List.getElem?_eq_some_iff.1 hc).1
 have hib:i<bs.length:=by omega
 have ec:cs=cs.take i++c::cs.drop (i+1):=by
  rw[<-(List.getElem?_eq_some_iff.1 hc).2,<-List.drop_eq_getElem_cons hi,List.take_append_drop]
 have eb:bs=bs.take i++false::bs.drop (i+1):=by
  rw[<-(List.getElem?_eq_some_iff.1 hb).2,<-List.drop_eq_getElem_cons hib,List.take_append_drop]
 have lp:(bs.take i).length=(cs.take i).length:=by rw[List.length_take,List.length_take];omega
 have eb2:bs.set i true=bs.take i++true::bs.drop (i+1):=by
  rw[List.set_eq_take_append_cons_drop,if_pos hib]
 have hF:fo cs bs f=fo (cs.drop (i+1)) (bs.drop (i+1)) (fo (cs.take i) (bs.take i) f):=by
  conv=>lhs;rw[ec,eb]
  rw[y5 _ _ _ _ _ lp];rfl
 have hR:fO cs bs R=fO (cs.drop (i+1)) (bs.drop (i+1)) (fO (cs.take i) (bs.take i) R):=by
  conv=>lhs;rw[ec,eb]
  rw[w9 _ _ _ _ _ lp];rfl
 have hF2:fo cs (bs.set i true) f=fo (cs.drop (i+1)) (bs.drop (i+1)) (c.F (fo (cs.take i) (bs.take i) f)):=by
  rw[eb2]
  conv=>lhs;rw[ec]
  rw[y5 _ _ _ _ _ lp];rfl
 have hR2:fO cs (bs.set i true) R=fO (cs.drop (i+1)) (bs.drop (i+1)) (c.R (fO (cs.take i) (bs.take i) R)):=by
  rw[eb2]
  conv=>lhs;rw[ec]
  rw[w9 _ _ _ _ _ lp];rfl
 have hpo:∀(j:Nat) d,(cs.drop (i+1))[j]? =some d->(bs.drop (i+1))[j]? =some true->CF d c:=fun j d q1 q2=>by
  rw[List.getElem?_drop]at q1 q2
  exact hpost (i+1+j) d (by omega) q1 q2
 have v2:=Dx (i:=c) (cs.drop (i+1)) (bs.drop (i+1)) (List.replicate (cs.length-(i+1)) false) (fo (cs.take i) (bs.take i) f) (fo (cs.take i) (bs.take i) f) (fO (cs.take i) (bs.take i) R) (fO (cs.take i) (bs.take i) R)
  (by rw[List.length_drop,List.length_drop];omega) (by rw[List.length_replicate,List.length_drop]) (fun j d b b' q1 q2 q3=>by
   cases b with
   |true=>exact .inr (hpo j d q1 q2)
   |false=>
    rw[List.getElem?_replicate]at q3
    split at q3
    ·cases q3;exact .inl rfl
    ·cases q3) (fun t _=>rfl) rfl
 have none_F:∀(cs:List Rc) (n:Nat) (f:Fr),fo cs (List.replicate n false) f=f:=fun cs=>by
  induction cs with
  |nil=>intro n f;rfl
  |cons d cs ih=>
   intro n f
   cases n with
   |zero=>rfl
   |succ n=>rw[List.replicate_succ];exact ih n f
 have none_R:∀(cs:List Rc) (n:Nat) (R:aP),fO cs (List.replicate n false) R=R:=fun cs=>by
  induction cs with
  |nil=>intro n f;rfl
  |cons d cs ih=>
   intro n f
   cases n with
   |zero=>rfl
   |succ n=>rw[List.replicate_succ];exact ih n f
 have v1:=Dx (i:=c) (cs.take i) (bs.take i) (List.replicate i true) f f R R lp (by rw[List.length_replicate,List.length_take];omega) (fun j d b b' q1 q2 q3=>by
   rw[List.getElem?_take]at q1 q2
   rw[List.getElem?_replicate]at q3
   split at q1
   ·rename_i hji
    rw[if_pos hji]at q2 q3
    cases q3
    cases b with
    |true=>exact .inl rfl
    |false=>exact .inr (hpre j d hji q1 q2)
   ·cases q1) (fun t _=>rfl) rfl
 refine⟨fun t ht=> ?_,?_,?_,?_⟩
 ·rw[hF,v2.1 t ht,none_F,v1.1 t ht]
 ·rw[hR,v2.2,none_R,v1.2]
 ·rw[hF,hF2]
  exact(late (i:=c) _ _ _ (fO (cs.take i) (bs.take i) R) _ (fun j d q1 q2=>(hpo j d q1 q2).symm) (.refl _)).1
 ·rw[hR,hR2]
  exact(late (i:=c) _ _ (fo (cs.take i) (bs.take i) f) _ _ (fun j d q1 q2=>(hpo j d q1 q2).symm) (.refl _)).2
end Go.Iv
end
noncomputable section
namespace Go.Iv
variable [U:qz] [L:lY]
open Go Go.RowKit
def lm(l:List Nat):Nat:=List.rec 0 (fun t _ ih=>Nat.lor ih (Nat.pow 2 t)) l
theorem Iu:∀(l:List Nat) (t:Nat),(lm l).testBit t=true↔t∈l
 |[],t=>by simp[lm]
 |a::l,t=>by
  show ((lm l)|||2^a).testBit t=true↔_
  rw[Nat.testBit_or,Bool.or_eq_true,Iu l t,Nat.testBit_two_pow]
  simp only[decide_eq_true_eq,List.mem_cons]
  constructor
  ·rintro(h|h)
   ·exact .inr h
   ·exact .inl h.symm
  ·rintro(h|h)
   ·exact .inr h.symm
   ·exact .inl h
theorem and_zero{x y t:Nat}(h:Nat.land x y=0)(hx:x.testBit t=true)(hy:y.testBit t=true):False:=by
 have h':x&&&y=0:=h
 have:=Nat.testBit_and x y t
 rw[h',hx,hy]at this
 simp at this
def msk(acc:List Nat)(es:List Edge):Nat:=List.rec 0 (fun e _ ih=>match Region.binds .any e with
 |true=>Nat.lor ih (Nat.lor (Nat.pow 2 e.on) (acc.getD e.on 0))
 |false=>ih) es
theorem BK{acc:List Nat}:∀{es:List Edge} {j:Nat},(msk acc es).testBit j=true->∃e∈es,Region.binds .any e=true/\(j=e.on\/(acc.getD e.on 0).testBit j=true)
 |[],j,h=>by simp[msk]at h
 |e::es,j,h=>by
  change (match Region.binds .any e with
   |true=>Nat.lor (msk acc es) (Nat.lor (Nat.pow 2 e.on) (acc.getD e.on 0))
   |false=>msk acc es).testBit j=true at h
  cases hb:Region.binds .any e with
  |false=>
   rw[hb]at h
   obtain⟨e',h1,h2⟩:=BK h
   exact⟨e',List.mem_cons_of_mem _ h1,h2⟩
  |true=>
   rw[hb]at h
   change ((msk acc es)|||((2^e.on)|||(acc.getD e.on 0))).testBit j=true at h
   rw[Nat.testBit_or,Nat.testBit_or,Bool.or_eq_true,Bool.or_eq_true,Nat.testBit_two_pow]at h
   rcases h with h|h|h
   ·obtain⟨e',h1,h2⟩:=BK h
    exact⟨e',List.mem_cons_of_mem _ h1,h2⟩
   ·exact⟨e,List.mem_cons_self,hb, .inl (by simp only[decide_eq_true_eq]at h;exact h.symm)⟩
   ·exact⟨e,List.mem_cons_self,hb, .inr h⟩
def ES(l:List Oper):List Nat->List Nat:=List.rec (fun acc=>acc) (fun o _ ih acc=>ih (acc++[msk acc o.after.toList])) l
def Rdy(bs:List Bool)(o:Oper):Prop:=∀e∈o.after.toList,Region.binds .any e=true->bs[e.on]? =some true
def yt(ops:List Oper)(bs:List Bool):Prop:=∀(i:Nat) o,ops[i]? =some o->bs[i]? =some true->Rdy bs o
def S7(ops:List Oper)(acc:List Nat):Prop:=∀(i m:Nat) o,acc[i]? =some m->ops[i]? =some o->∀bs,yt ops bs->Rdy bs o->∀j,m.testBit j=true->bs[j]? =some true
theorem Ls(ops:List Oper):∀(l:List Oper) (acc:List Nat),(∃pre,ops=pre++l/\pre.length=acc.length)->S7 ops acc->S7 ops (ES l acc)
 |[],acc,_,h=>h
 |o::l,acc,⟨pre,hp,hl⟩,h=>by
  refine Ls ops l _ ⟨pre++[o],by rw[hp];simp,by simp[hl]⟩ fun i m o' hm ho bs hc hr j hj=> ?_
  rw[List.getElem?_append]at hm
  split at hm
  ·exact h i m o' hm ho bs hc hr j hj
  ·rename_i hlt
   have hi:i=acc.length:=by
    have:=(List.getElem?_eq_some_iff.1 hm).1
    simp at this
    omega
   subst hi
   rw[Nat.sub_self]at hm
   cases hm
   have ho':o'=o:=by
    rw[hp,<-hl,List.getElem?_append_right (Nat.le_refl _),Nat.sub_self]at ho
    exact(Option.some.inj ho).symm
   subst ho'
   obtain⟨e,h1,h2,h3⟩:=BK hj
   have h4:=hr e h1 h2
   rcases h3 with rfl|h3
   ·exact h4
   ·cases ha:acc[e.on]? with
    |none=>rw[List.getD_eq_getElem?_getD,ha]at h3;simp at h3
    |some m'=>
     rw[List.getD_eq_getElem?_getD,ha]at h3
     have hlt':=(List.getElem?_eq_some_iff.1 ha).1
     cases hoe:ops[e.on]? with
     |none=>
      rw[List.getElem?_eq_none_iff,hp,List.length_append]at hoe
      omega
     |some oe=>exact h e.on m' oe ha hoe bs hc (hc e.on oe hoe h4) j h3
def ama:Operand->List Nat
 | .tmp t=>[t]
 |_=>[]
def acB(ops:Array Oper)(o:Oper):List Nat:=match o.guard with
 |none=>[]
 |some (j,_)=>match (ops[j]?).bind (·.dst)with
  |some t=>[t]
  |none=>[]
def ct(ops:Array Oper)(o:Oper):List Nat:=o.op.operands.toList.flatMap ama++acB ops o
def efk(o:Oper):Bool:=match o.op with
 | .store _ _ _=>true
 | .buildSlice _ _ _=>true
 | .makeSlice _ _ _=>true
 | .alloc _=>true
 | .box _ _=>true
 | .slice _ _ _ _ _=>true
 | .call {callee:= .builtin .len, ..}=>false
 | .call {callee:= .builtin .max, ..}=>false
 | .call {callee:= .builtin .min, ..}=>false
 | .call _=>true
 |_=>false
def dmk:Option Nat->Nat
 |none=>0
 |some t=>Nat.pow 2 t
theorem wz{d:Option Nat}{t:Nat}(h:d=some t):(dmk d).testBit t=true:=by
 subst h
 show (2^t).testBit t=true
 rw[Nat.testBit_two_pow];simp
structure Sk where
 anc:Nat
 sm:Nat
 dm:Nat
 ef:Bool
def N6(j:Nat)(a b:Sk):Bool:=b.anc.testBit j||(Nat.beq (Nat.land a.dm b.sm) 0&&Nat.beq (Nat.land a.dm b.dm) 0&&Nat.beq (Nat.land b.dm a.sm) 0)
def FB(b:Sk)(i:Nat)(l:List Sk):Nat->Option (List (Nat×Nat)):=List.rec (fun _=>some []) (fun a _ ih j=>match N6 j a b with
 |true=>match !b.anc.testBit j&&(a.ef||b.ef)with
  |true=>(ih (j+1)).map fun ps=>(j,i)::ps
  |false=>ih (j+1)
 |false=>none) l
def QN(l:List Sk):List Sk->Nat->Option (List (Nat×Nat)):=List.rec (fun _ _=>some []) (fun b _ ih pre i=>(FB b i pre 0).bind fun ps=>(ih (pre++[b]) (i+1)).map fun qs=>ps++qs) l
theorem y8{b:Sk}{i:Nat}:∀{l:List Sk} {k:Nat} {ps:List (Nat×Nat)},FB b i l k=some ps->∀(j:Nat) a,l[j]? =some a->N6 (k+j) a b=true/\(b.anc.testBit (k+j)=true\/(a.ef||b.ef)=false\/(k+j,i)∈ps)
 |[],k,ps,_,j,a,h=>by cases h
 |a0::l,k,ps,hs,j,a,h=>by
  change (match N6 k a0 b with
   |true=>match !b.anc.testBit k&&(a0.ef||b.ef)with
    |true=>(FB b i l (k+1)).map fun ps=>(k,i)::ps
    |false=>FB b i l (k+1)
   |false=>none)=some ps at hs
  cases h0:N6 k a0 b with
  |false=>rw[h0]at hs;cases hs
  |true=>
   rw[h0]at hs
   simp only at hs
   cases h1:(!b.anc.testBit k&&(a0.ef||b.ef))with
   |true=>
    rw[h1]at hs
    obtain⟨ps',h2,rfl⟩:=Option.map_eq_some_iff.1 hs
    cases j with
    |zero=>cases h;exact⟨h0, .inr (.inr List.mem_cons_self)⟩
    |succ j=>
     obtain⟨h3,h4⟩:=y8 h2 j a h
     rw[show k+1+j=k+(j+1)from by omega]at h3 h4
     exact⟨h3,h4.imp id (fun h=>h.imp id fun h=>List.mem_cons_of_mem _ h)⟩
   |false=>
    rw[h1]at hs
    cases j with
    |zero=>
     cases h
     refine⟨h0,?_⟩
     simp only[Nat.add_zero]
     cases hb:b.anc.testBit k with
     |true=>exact .inl rfl
     |false=>rw[hb]at h1;exact .inr (.inl (by simpa using h1))
    |succ j=>
     obtain⟨h3,h4⟩:=y8 hs j a h
     rw[show k+1+j=k+(j+1)from by omega]at h3 h4
     exact⟨h3,h4⟩
theorem FN:∀{l pre:List Sk} {k:Nat} {ps:List (Nat×Nat)},QN l pre k=some ps->pre.length=k->∀(i j:Nat) a b,j<i->k<=i->(pre++l)[j]? =some a->(pre++l)[i]? =some b->N6 j a b=true/\(b.anc.testBit j=true\/(a.ef||b.ef)=false\/(j,i)∈ps)
 |[],pre,k,ps,_,hk,i,j,a,b,_,hki,_,hb=>by
  rw[List.append_nil]at hb
  have:=(List.getElem?_eq_some_iff.1 hb).1
  omega
 |b0::l,pre,k,ps,hs,hk,i,j,a,b,hji,hki,ha,hb=>by
  change ((FB b0 k pre 0).bind fun ps=>(QN l (pre++[b0]) (k+1)).map fun qs=>ps++qs)=some ps at hs
  obtain⟨p1,h1,hs⟩:=Option.bind_eq_some_iff.1 hs
  obtain⟨p2,h2,rfl⟩:=Option.map_eq_some_iff.1 hs
  by_cases hik:i=k
  ·subst hik
   rw[List.getElem?_append_right (by omega),hk,Nat.sub_self]at hb
   cases hb
   rw[List.getElem?_append_left (by omega)]at ha
   have:=y8 h1 j a ha
   rw[Nat.zero_add]at this
   exact⟨this.1,this.2.imp id fun h=>h.imp id fun h=>List.mem_append_left _ h⟩
  ·have h3:=FN h2 (by simp[hk]) i j a b hji (by omega) (by simpa using ha) (by simpa using hb)
   exact⟨h3.1,h3.2.imp id fun h=>h.imp id fun h=>List.mem_append_right _ h⟩
def agn(ops:Array Oper)(l:List Oper):List Nat->List Sk:=List.rec (fun _=>[]) (fun o _ ih ms=>match ms with
 |m::ms=>⟨m,lm (ct ops o),dmk o.dst,efk o⟩::ih ms
 |[]=>[]) l
def plan(ops:Array Oper):Option (List (Nat×Nat)):=QN (agn ops ops.toList (ES ops.toList [])) [] 0
theorem Py(l:List Oper):∀acc:List Nat,(ES l acc).length=acc.length+l.length:=by
 induction l with
 |nil=>intro acc;rfl
 |cons o l ih=>intro acc;show (ES l (acc++[_])).length=_;rw[ih];simp;omega
theorem yN(ops:Array Oper):∀(l:List Oper) (ms:List Nat) (i:Nat) (o:Oper) (m:Nat),l[i]? =some o->ms[i]? =some m->(agn ops l ms)[i]? =some ⟨m,lm (ct ops o),dmk o.dst,efk o⟩
 |[],_,_,_,_,h,_=>by cases h
 |o0::l,[],_,_,_,_,h=>by cases h
 |o0::l,m0::ms,i,o,m,h1,h2=>by
  show (_::agn ops l ms)[i]? =_
  cases i with
  |zero=>cases h1;cases h2;rfl
  |succ i=>exact yN ops l ms i o m h1 h2
def Yf(xs:List Nat)(Lo:aP)(ys:List Nat):Bool:=xs.all (fun i=> !cH i ys)&&Lo.all fun p=> !cH p.1 ys
def cfD(c d:Rc):Bool:=(!c.ef||Yf c.wr c.Lo d.rd)&&(!d.ef||Yf d.wr d.Lo c.rd)
def Sn(ps:List (Nat×Nat))(cs:List Rc):Bool:=ps.all fun p=>match cs[p.1]?,cs[p.2]? with
 |some c,some d=>cfD c d
 |_,_=>false
theorem L0{xs ys:List Nat}{Lo:aP}(h:Yf xs Lo ys=true):(∀i∈xs,i∉ys)/\∀p∈Lo,p.1∉ys:=by
 unfold Yf at h
 simp only[Bool.and_eq_true,List.all_eq_true,Bool.not_eq_true']at h
 exact⟨fun i hi=>gV.1 (h.1 i hi),fun p hp=>gV.1 (h.2 p hp)⟩
theorem VP{ops:Array Oper}{ps:List (Nat×Nat)}{cs:List Rc}(hp:plan ops=some ps)(ho:Sn ps cs=true)(hcs:∀(i:Nat) c,cs[i]? =some c->∃o,ops.toList[i]? =some o/\c.dst=o.dst/\c.sl=ct ops o/\(c.ef=true->efk o=true)/\∀i∈c.wr,i∈c.rd)
  {i j:Nat} {c d:Rc} (hji:j<i) (hc:cs[j]? =some c) (hd:cs[i]? =some d):
  CF c d\/∀bs,yt ops.toList bs->(∀o,ops.toList[i]? =some o->Rdy bs o)->bs[j]? =some true:=by
 obtain⟨o1,h1,h2,h3,h4,h5⟩:=hcs j c hc
 obtain⟨o2,g1,g2,g3,g4,g5⟩:=hcs i d hd
 have hl1:=(List.getElem?_eq_some_iff.1 h1).1
 have hl2:=(List.getElem?_eq_some_iff.1 g1).1
 have hml:(ES ops.toList []).length=ops.toList.length:=by rw[Py];simp
 obtain⟨m1,hm1⟩:∃m,(ES ops.toList [])[j]? =some m:=⟨_,List.getElem?_eq_getElem (by rw[hml];exact hl1)⟩
 obtain⟨m2,hm2⟩:∃m,(ES ops.toList [])[i]? =some m:=⟨_,List.getElem?_eq_getElem (by rw[hml];exact hl2)⟩
 have s1:=yN ops ops.toList _ j o1 m1 h1 hm1
 have s2:=yN ops ops.toList _ i o2 m2 g1 hm2
 obtain⟨q1,q2⟩:=FN hp rfl i j _ _ hji (Nat.zero_le _) s1 s2
 have hmsk:S7 ops.toList (ES ops.toList []):=Ls ops.toList ops.toList [] ⟨[],rfl,rfl⟩ fun i m o h=>by cases h
 by_cases ha:m2.testBit j=true
 ·exact .inr fun bs hcl hr=>hmsk i m2 o2 hm2 g1 bs hcl (hr o2 g1) j ha
 ·refine .inl ?_
  have ha':m2.testBit j=false:=by simpa using ha
  unfold N6 at q1
  simp only[ha',Bool.false_or,Bool.and_eq_true]at q1
  obtain⟨⟨r1,r2⟩,r3⟩:=q1
  have r1:=eV r1
  have r2:=eV r2
  have r3:=eV r3
  have hdyn:(c.ef||d.ef)=false\/cfD c d=true:=by
   rcases q2 with q2|q2|q2
   ·exact absurd q2 ha
   ·simp only[Bool.or_eq_false_iff]at q2
    left
    have e1:c.ef=false:=by
     cases h:c.ef with
     |false=>rfl
     |true=>exact absurd q2.1 (by rw[h4 h];simp)
    have e2:d.ef=false:=by
     cases h:d.ef with
     |false=>rfl
     |true=>exact absurd q2.2 (by rw[g4 h];simp)
    rw[e1,e2];rfl
   ·right
    have:=List.all_eq_true.1 ho _ q2
    simp only[hc,hd]at this
    exact this
  refine⟨fun t ht=>⟨fun hm=> ?_,fun e=> ?_⟩,fun t ht hm=> ?_,fun he=> ?_,fun he=> ?_⟩
  ·rw[h2]at ht
   rw[g3]at hm
   exact and_zero r1 (wz ht) ((Iu _ _).2 hm)
  ·rw[h2]at ht
   rw[g2]at e
   exact and_zero r2 (wz ht) (wz e)
  ·rw[g2]at ht
   rw[h3]at hm
   exact and_zero r3 (wz ht) ((Iu _ _).2 hm)
  ·rcases hdyn with h|h
   ·rw[he]at h;simp at h
   ·unfold cfD at h
    simp only[he,Bool.and_eq_true,Bool.or_eq_true,Bool.not_eq_true']at h
    have q:=L0 (h.1.resolve_left (by simp))
    exact⟨q.1,q.2,fun p hp hx=>q.2 p hp (g5 _ hx)⟩
  ·rcases hdyn with h|h
   ·rw[he]at h;simp at h
   ·unfold cfD at h
    simp only[he,Bool.and_eq_true,Bool.or_eq_true,Bool.not_eq_true']at h
    have q:=L0 (h.2.resolve_left (by simp))
    exact⟨q.1,q.2,fun p hp hx=>q.2 p hp (h5 _ hx)⟩
def IR.fD(p:Nat->Prop):IR->Prop
 | .box _ cs=>∀c∈cs,Iv.fD p c
 | .row _ _=>True
def aP.fD(p:Nat->Prop)(R:aP):Prop:=∀q∈R,p q.1/\q.2.fD p
theorem IR.fD.mono{p q:Nat->Prop}{r:IR}(h:r.fD p)(hn:∀i,p i->q i):r.fD q:=by
 cases r with
 |box T cs=>exact fun c hc=>(h c hc).mono hn
 |row t l=>trivial
theorem aP.fD.mono{p q:Nat->Prop}{R:aP}(h:aP.fD p R)(hn:∀i,p i->q i):aP.fD q R:=fun x hx=>⟨hn _ (h x hx).1,(h x hx).2.mono hn⟩
theorem aP.fD.res{p:Nat->Prop}{R:aP}{ρ ρ':Gh}(h:aP.fD p R)(ha:Ags p ρ ρ'):aP.res ρ R=aP.res ρ' R:=List.map_congr_left fun q hq=>by
 obtain⟨h1,h2⟩:=h q hq
 obtain⟨i,r⟩:=q
 cases r with
 |box T cs=>simp only[IR.res];rw[(ha i h1).2,Iv.fD.RQ h2 ha]
 |row t l=>simp only[IR.res];rw[(ha i h1).1]
theorem aP.fD.perm{p:Nat->Prop}{R R':aP}(h:aP.fD p R)(hp:List.Perm R R'):aP.fD p R':=fun q hq=>h q (hp.mem_iff.2 hq)
theorem aP.cg.lts{n:Nat}{R:aP}(h:aP.cg n R):aP.fD (fun i=>i<n) R:=fun q hq=>⟨(h q hq).1,by
 have:=(h q hq).2
 cases hr:q.2 with
 |box T cs=>rw[hr]at this;exact this
 |row t l=>trivial⟩
theorem aP.fD.o8{n:Nat}{R:aP}(h:aP.fD (fun i=>i<n) R):aP.cg n R:=fun q hq=>⟨(h q hq).1,by
 have:=(h q hq).2
 cases hr:q.2 with
 |box T cs=>rw[hr]at this;exact this
 |row t l=>trivial⟩
def sU(f:Fr)(sl:List Nat):Env:=sl.filterMap fun t=>(f t).map fun d=>(t,d)
theorem zf{f:Fr}{t:Nat}{d:AV}:∀{sl:List Nat},(sU f sl).get t=some d->f t=some d
 |[],h=>by cases h
 |s::sl,h=>by
  unfold sU at h
  rw[List.filterMap_cons]at h
  cases hs:f s with
  |none=>
   rw[hs]at h
   exact zf (sl:=sl) h
  |some e=>
   rw[hs]at h
   simp only[Option.map_some]at h
   unfold Env.get at h
   cases hb:Nat.beq s t with
   |true=>
    rw[hb]at h
    cases h
    rw[<-eV hb]
    exact hs
   |false=>
    rw[hb]at h
    exact zf (sl:=sl) h
theorem Bn{f:Fr}{t:Nat}{d:AV}:∀{sl:List Nat},t∈sl->f t=some d->(sU f sl).get t=some d
 |[],h,_=>by cases h
 |s::sl,h,hf=>by
  unfold sU
  rw[List.filterMap_cons]
  by_cases hst:s=t
  ·subst hst
   rw[hf]
   exact Env.dH _ _ _
  ·have ht:t∈sl:=(List.mem_cons.1 h).resolve_left fun e=>hst e.symm
   cases f s with
   |none=>exact Bn ht hf
   |some e=>simp only[Option.map_some];rw[Env.cP _ _ hst];exact Bn ht hf
theorem JT{f g:Fr}{sl:List Nat}(h:∀t∈sl,f t=g t):sU f sl=sU g sl:=by
 unfold sU
 induction sl with
 |nil=>rfl
 |cons s sl ih=>
  rw[List.filterMap_cons,List.filterMap_cons,h s List.mem_cons_self,ih fun t ht=>h t (List.mem_cons_of_mem _ ht)]
section
variable {P:Program} {C:Cx} {n:Nat} {o:Oper}
def MtS(C:Cg)(n:Nat)(p:Nat->Prop)(f:Fr)(R:aP)(a:Act)(w:World):Prop:=∃(E:Env) (ρ:Gh),(∀t d,f t=some d->E.get t=some d)/\(∀q∈E,fD p q.2)/\aP.fD p R/\oV C.n C.ρ ρ/\rZ C.C n (E.sub ρ) (aP.res ρ R) a w
theorem ob{ρ:Gh}{R R':aP}(h:List.Perm R R'):List.Perm (aP.res ρ R) (aP.res ρ R'):=h.map _
theorem jl{ρ:Gh}(R R':aP):aP.res ρ (R++R')=aP.res ρ R++aP.res ρ R':=List.map_append ..
theorem MtS.perm{C:Cg}{p:Nat->Prop}{f:Fr}{R R':aP}{a:Act}{w:World}(h:MtS C n p f R a w)(hp:List.Perm R R'):MtS C n p f R' a w:=by
 obtain⟨E,ρ,h1,h2,h3,h5,h4⟩:=h
 exact⟨E,ρ,h1,h2,h3.perm hp,h5,h4.perm (ob hp)⟩
def Nlc(nx:Nat)(v:AV)(Ro:aP)(ρ:Gh):Option AV->List b9->Prop:=fun a σ'=>∃ρ',oV nx ρ ρ'/\(a=some (v.sub ρ')\/a=none/\v= .lit undef)/\List.Perm σ' (aP.res ρ' Ro)
theorem VF{wr rd:List Nat}(h:∀i∈wr,i∈rd)(R:aP):List.Perm (fL wr (bN rd R)++fL rd R) (fL wr R):=by
 have e1:fL wr (bN rd R)=(fL wr R).filter fun p=>cH p.1 rd:=by
  simp only[fL,bN,List.filter_filter]
  exact List.filter_congr fun p _=>Bool.and_comm ..
 have e2:fL rd R=(fL wr R).filter fun p=> !cH p.1 rd:=by
  simp only[fL,List.filter_filter]
  refine List.filter_congr fun p _=> ?_
  cases hm:cH p.1 rd with
  |true=>rfl
  |false=>
   have:cH p.1 wr=false:=gV.2 fun hw=>gV.1 hm (h _ hw)
   rw[this];rfl
 rw[e1,e2]
 exact List.filter_append_perm _ _
theorem ad4{C:Cg}{p:Nat->Prop}{f:Fr}{R:aP}{a:Act}{w:World}{c:Rc}{nx nx':Nat}{Q:Exit->Act->World->Prop}{K':Act->World->Prop}
  (hn:C.n<=nx) (hm:MtS C n p f R a w) (hdst:c.dst=o.dst) (hd:Er n o.dst=true) (hwr:∀i∈c.wr,i∈c.rd) (hloc:∀ρ C,Ye P ((sU f c.sl).sub ρ) (aP.res ρ (bN c.rd R)) o C (Nlc nx c.v (match c.ef with|true=>c.Lo++fL c.wr (bN c.rd R)|false=>bN c.rd R) ρ))
  (hp:∀i,p i->¬(nx<=i/\i<nx')) (hv:cg nx' c.v) (hLi:aP.cg nx (bN c.rd R)) (hLo:c.ef=true->aP.cg nx' c.Lo)
  (hv':fD (fun i=>p i\/(nx<=i/\i<nx')) c.v) (hLo':c.ef=true->aP.fD (fun i=>p i\/(nx<=i/\i<nx')) c.Lo)
  (hK:∀a' w',a'.defers=a.defers->MtS C n (fun i=>p i\/(nx<=i/\i<nx')) (c.F f) (c.R R) a' w'->K' a' w'):o.wp P a w K' Q:=by
 obtain⟨E,ρ,h1,h2,h3,h0,hsim0⟩:=hm
 have hpm:List.Perm (bN c.rd R++fL c.rd R) R:=List.filter_append_perm _ _
 have hsim:=hsim0.perm (ob (ρ:=ρ) hpm.symm)
 rw[jl]at hsim
 generalize hσi:aP.res ρ (bN c.rd R)=σi at hsim
 generalize hσr:aP.res ρ (fL c.rd R)=σr at hsim
 have hg:=hsim.good
 have hlt:∀b∈bg (σi++σr),b<w.heap.size:=fun b hb=>by
  obtain⟨s,q1,q2⟩:=bB.1 hb
  exact(hg.res s q1).lt q2
 have hal:∀b,al C.C (σi++σr) b->al ⟨w,al C.C (σi++σr),bg σi⟩ σi b:=fun b hA=>⟨.inl hA,fun hx=>hA.2 (bq.2 (.inl hx))⟩
 have hgood:Good ⟨w,al C.C (σi++σr),bg σi⟩ σi w:=⟨Kp.refl _ _,fun r hr=>(hg.res r (List.mem_append_left _ hr)).mono (fun b _ hA=>⟨hal b hA,rfl⟩) (fun _ _=>rfl),by
  have:=hg.Ac;rw[fJ]at this;exact(List.nodup_append.1 this).1,fun b hb=> .inl hb⟩
 have hops:GX (al ⟨w,al C.C (σi++σr),bg σi⟩ σi) w ((sU f c.sl).sub ρ) a.eval:=fun x u hx=>by
  rw[Env.He]at hx
  obtain⟨d,hd1,rfl⟩:=Option.map_eq_some_iff.1 hx
  have hE:E.ev x=some d:=by
   cases x with
   |tmp t=>exact h1 t d (zf hd1)
   |_=>exact hd1
  exact(hsim.slots.ops x (d.sub ρ) (by rw[Env.He,hE];rfl)).mono fun b _ hA=>⟨hal b hA,rfl⟩
 have step:∀(ρ':Gh) (σo:List b9) (w':World),oV nx ρ ρ'->List.Perm σo (aP.res ρ' (match c.ef with|true=>c.Lo++fL c.wr (bN c.rd R)|false=>bN c.rd R))->Tr ⟨w,al C.C (σi++σr),bg σi⟩ (bg σi) σi w σo w'->
   ∃ρ'':Gh,oV C.n C.ρ ρ''/\c.v.sub ρ'=c.v.sub ρ''/\rZ C.C n (E.sub ρ'') (aP.res ρ'' (c.R R)) a w'/\(∀b,b<w'.heap.size->al ⟨w,al C.C (σi++σr),bg σi⟩ σo b->al C.C (aP.res ρ'' (c.R R)) b):=fun ρ' σo w' ha hσo ht=>by
  let ρ'':Gh:=⟨fun i=>if nx<=i/\i<nx' then ρ'.v i else ρ.v i,fun i=>if nx<=i/\i<nx' then ρ'.b i else ρ.b i⟩
  have hag:Ags p ρ ρ'':=fun i hi=>by
   have:=hp i hi
   exact⟨by simp only[ρ'',if_neg this],by simp only[ρ'',if_neg this]⟩
  have hag2:oV nx' ρ' ρ'':=fun i hi=>by
   by_cases hni:nx<=i
   ·exact⟨by simp only[ρ'',if_pos (And.intro hni hi)],by simp only[ρ'',if_pos (And.intro hni hi)]⟩
   ·have h0:¬(nx<=i/\i<nx'):=fun h=>hni h.1
    obtain⟨a1,a2⟩:=ha i (by omega)
    exact⟨by simp only[ρ'',if_neg h0];exact a1.symm,by simp only[ρ'',if_neg h0];exact a2.symm⟩
  have hnx:nx<=nx'\/nx'<nx:=by omega
  have hown:∀b∈bg σo,b∈bg σi\/w.heap.size<=b:=ht.good.own
  have hsub:∀b,b<w'.heap.size->al ⟨w,al C.C (σi++σr),bg σi⟩ σo b->al C.C (σo++σr) b:=fun b _ hb=>by
   obtain⟨hb1,hb2⟩:=hb
   rcases hb1 with hb1|hb1|hb1
   ·exact⟨hb1.1,fun hx=>(bq.1 hx).elim hb2 (fun h=>hb1.2 (bq.2 (.inr h)))⟩
   ·have hbp:b∈bg σi:=hb1
    refine⟨?_,fun hx=>(bq.1 hx).elim hb2 (fun h=> ?_)⟩
    ·rcases hg.own b (bq.2 (.inl hbp))with h|h
     ·exact .inr (.inl h)
     ·exact .inr (.inr h)
    ·have hdis:=hg.Ac
     rw[fJ]at hdis
     exact(List.nodup_append.1 hdis).2.2 b hbp b h rfl
   ·have hbw:w.heap.size<=b:=hb1
    exact⟨.inr (.inr (Nat.le_trans hg.kept.size hbw)),fun hx=>(bq.1 hx).elim hb2 (fun h=>by have:=hlt b (bq.2 (.inr h));omega)⟩
  have ht2:Tr C.C (bg σi) (σi++σr) w (σo++σr) w':=v7 hg (fun b hA _=> .inl hA) ht (fun r hr=>(ht.good.res r hr).mono (fun b hb hA=>⟨hsub b hb hA,rfl⟩) (fun _ _=>rfl))
  have hs2:=hsim.tr ht2
  have hout:aP.fD p (fL c.rd R):=fun q hq=>h3 q (List.mem_filter.1 hq).1
  have hEs:E.sub ρ=E.sub ρ'':=List.map_congr_left fun q hq=>by rw[(h2 q hq).sub hag]
  have hrs:σr=aP.res ρ'' (fL c.rd R):=by rw[<-hσr,hout.res hag]
  have hpo:List.Perm (σo++σr) (aP.res ρ'' (c.R R)):=by
   rw[hrs]
   unfold Rc.R
   cases hce:c.ef with
   |true=>
    rw[hce]at hσo
    simp only at hσo ⊢
    have hin:aP.fD p (fL c.wr (bN c.rd R)):=fun q hq=>h3 q (List.mem_filter.1 (List.mem_filter.1 hq).1).1
    have hin2:aP.cg nx (fL c.wr (bN c.rd R)):=fun q hq=>hLi q (List.mem_filter.1 hq).1
    have e1:aP.res ρ' (fL c.wr (bN c.rd R))=aP.res ρ'' (fL c.wr (bN c.rd R)):=by rw[<-hin2.res ha,hin.res hag]
    rw[jl,e1,(hLo hce).res hag2]at hσo
    refine(hσo.append_right _).trans ?_
    rw[List.append_assoc,jl,<-jl (fL c.wr (bN c.rd R))]
    exact List.Perm.append_left _ (ob (VF hwr R))
   |false=>
    rw[hce]at hσo
    simp only at hσo ⊢
    have hin:aP.fD p (bN c.rd R):=fun q hq=>h3 q (List.mem_filter.1 hq).1
    have e1:aP.res ρ' (bN c.rd R)=aP.res ρ'' (bN c.rd R):=by rw[<-hLi.res ha,hin.res hag]
    rw[e1]at hσo
    refine(hσo.append_right _).trans ?_
    rw[<-jl]
    exact ob hpm
  refine⟨ρ'',h0.trans (fun i hi=>⟨by simp only[ρ'',if_neg (show ¬(nx<=i/\i<nx')by omega)],by simp only[ρ'',if_neg (show ¬(nx<=i/\i<nx')by omega)]⟩) (Nat.le_refl C.n),hv.sub hag2,by rw[<-hEs];exact hs2.perm hpo,fun b hb hA=>MI hpo b (hsub b hb hA)⟩
 have fin:∀(ρ':Gh) (σo:List b9) (w':World) (v:Value),oV nx ρ ρ'->List.Perm σo (aP.res ρ' (match c.ef with|true=>c.Lo++fL c.wr (bN c.rd R)|false=>bN c.rd R))->Tr ⟨w,al C.C (σi++σr),bg σi⟩ (bg σi) σi w σo w'->
   Rel (al ⟨w,al C.C (σi++σr),bg σi⟩ σo) w' (c.v.sub ρ') v->K' (a.put o.dst v) w':=fun ρ' σo w' v q1 q2 q3 q4=>by
  obtain⟨ρ'',g1,g2,g3,g4⟩:=step ρ' σo w' q1 q2 q3
  have hR':aP.fD (fun i=>p i\/(nx<=i/\i<nx')) (c.R R):=by
   unfold Rc.R
   cases hce:c.ef with
   |false=>exact h3.mono fun i hi=> .inl hi
   |true=>exact fun q hq=>(List.mem_append.1 hq).elim (hLo' hce q) fun hq=>⟨.inl (h3 q (List.mem_filter.1 hq).1).1,(h3 q (List.mem_filter.1 hq).1).2.mono fun i hi=> .inl hi⟩
  refine hK _ _ (by cases o.dst<;>rfl) ?_
  rw[g2]at q4
  cases hdo:o.dst with
  |none=>exact⟨E,ρ'',fun t d ht=>h1 t d (by unfold Rc.F at ht;rw[hdst,hdo]at ht;simpa using ht),fun q hq=>(h2 q hq).mono fun i hi=> .inl hi,hR',g1,g3⟩
  |some t=>
   refine⟨(t,c.v)::E,ρ'',fun s d hs=> ?_,fun q hq=> ?_,hR',g1,?_⟩
   ·unfold Rc.F at hs
    rw[hdst,hdo]at hs
    by_cases hts:t=s
    ·subst hts
     rw[if_pos rfl]at hs
     cases hs
     exact Env.dH _ _ _
    ·rw[if_neg (fun e=>hts (Option.some.inj e))]at hs
     rw[Env.cP _ _ hts]
     exact h1 s d hs
   ·rcases List.mem_cons.1 hq with rfl|hq
    ·exact hv'
    ·exact(h2 q hq).mono fun i hi=> .inl hi
   ·rw[hdo]at hd
    exact g3.put hd (q4.mono fun b hb hA=>⟨g4 b hb hA,rfl⟩)
 unfold Oper.wp
 subst hσi
 rcases hloc ρ _ w a.eval hgood hops with ⟨v,w',av,σ',⟨ρ',q1,q2,q3⟩,r1,r2,r3⟩|⟨w',σ',⟨ρ',q1,q2,q3⟩,r1,r2⟩|⟨g,args,r1,r2⟩
 ·rw[r2]
  rcases q2 with q2|⟨q2,_⟩
  ·cases q2;exact fin ρ' σ' w' v q1 q3 r1 r3
  ·cases q2
 ·rw[r2]
  rcases q2 with q2|⟨_,q2⟩
  ·cases q2
  ·exact fin ρ' σ' w' undef q1 q3 r1 (by rw[q2,bC];exact .lit _)
 ·rw[r1]
  refine Calls.mono r2 fun ee w' ⟨v,av,σ',q0,⟨ρ',q1,q2,q3⟩,s1,s2⟩=> ?_
  subst q0
  rcases q2 with q2|⟨q2,_⟩
  ·cases q2;exact fin ρ' σ' w' v q1 q3 s1 s2
  ·cases q2
end
end Go.Iv
end
noncomputable section
namespace Go.Iv
variable [U:qz] [L:lY]
open Go Go.RowKit
section
variable {P:Program} {o:Oper} {C:Cx} {N:Option AV->List b9->Prop}
theorem Ye.Nj{E:Env}{R:aP}{ρ:Gh}{id t:Nat}{l:List (U.cE t)}(hr:eO R id=some (.row t l))
  (h:Ye P (Env.sub ρ (E.map fun p=>(p.1,l6 id t l 3 p.2))) (aP.res ρ ((jd id R).map fun p=>(p.1,sP id t l p.2))) o C N):Ye P (E.sub ρ) (aP.res ρ R) o C N:=fun w ϱ hg hρ=>by
 obtain⟨i,hi1,_,hi3⟩:=dc hr
 have hres:=fR (ρ:=ρ) hi1
 have hd:Hd (al C (aP.res ρ R)) [.row (ρ.v id) t l] w:=⟨fun r hr=>by
   rw[List.mem_singleton]at hr
   rw[hr]
   exact hg.res _ (List.mem_of_getElem? hres),fun b hb hA=>hA.2 (by
   obtain⟨r,h1,h2⟩:=bB.1 hb
   rw[List.mem_singleton]at h1
   rw[h1]at h2
   exact bB.2 ⟨_,List.mem_of_getElem? hres,h2⟩)⟩
 have hle:=EW (C:=C) hres hg
 have hbk:bg (aP.res ρ ((jd id R).map fun p=>(p.1,sP id t l p.2)))=bg ((aP.res ρ R).eraseIdx i):=by
  rw[<-ux,<-hi3]
  unfold bg aP.res
  rw[List.map_map,List.filterMap_map,List.filterMap_map]
  congr 1
  funext p
  obtain⟨q,rr⟩:=p
  cases rr<;>rfl
 have hal:∀b,(al C (aP.res ρ R) b\/b∈bg [b9.row (ρ.v id) t l])->al C (aP.res ρ ((jd id R).map fun p=>(p.1,sP id t l p.2))) b:=fun b hb=>by
  have:=hle b hb
  exact⟨this.1,by rw[hbk];exact this.2⟩
 have hrel:∀{d:AV} {v:Value},Rel (al C (aP.res ρ R)) w (d.sub ρ) v->Rel (al C (aP.res ρ ((jd id R).map fun p=>(p.1,sP id t l p.2)))) w ((l6 id t l 3 d).sub ρ) v:=fun h=>
  (yB hd 3 h).mono fun b _ hA=>⟨hal b hA,rfl⟩
 have hsubb:∀b∈bg (aP.res ρ ((jd id R).map fun p=>(p.1,sP id t l p.2))),b∈bg (aP.res ρ R):=fun b hb=>by
  rw[hbk]at hb
  exact nI (fun r hr=>(List.eraseIdx_sublist _ _).subset hr) b hb
 have hg':Good C (aP.res ρ ((jd id R).map fun p=>(p.1,sP id t l p.2))) w:=by
  refine⟨hg.kept,fun rr hrr=> ?_,?_,fun b hb=>hg.own b (hsubb b hb)⟩
  ·obtain⟨p,h1,rfl⟩:=List.mem_map.1 hrr
   obtain⟨p',h2,rfl⟩:=List.mem_map.1 h1
   have hm:p'.2.res ρ p'.1∈aP.res ρ R:=by
    rw[hi3]at h2
    exact List.mem_map.2 ⟨p',List.mem_of_mem_eraseIdx h2,rfl⟩
   have h3:=hg.res _ hm
   obtain⟨q,rr⟩:=p'
   cases rr with
   |row t' l'=>exact h3.mono (fun b _ hA=>⟨hal b (.inl hA),rfl⟩) (fun _ _=>rfl)
   |box T cs=>
    obtain⟨us,h4,h5⟩:=h3
    refine⟨us,h4,by simpa using h5.1,fun j av v q1 q2=> ?_⟩
    rw[List.map_map,List.getElem?_map]at q1
    obtain⟨c,hc,rfl⟩:=Option.map_eq_some_iff.1 q1
    exact hrel (h5.2 j (c.sub ρ) v (by rw[List.getElem?_map,hc];rfl) q2)
  ·rw[hbk]
   exact hg.Ac.sublist ((List.eraseIdx_sublist _ _).filterMap _)
 have hops:GX (al C (aP.res ρ ((jd id R).map fun p=>(p.1,sP id t l p.2)))) w (Env.sub ρ (E.map fun p=>(p.1,l6 id t l 3 p.2))) ϱ:=fun x u hx=>by
  cases x with
  |tmp k=>
   have hx':Env.get (Env.sub ρ (E.map fun p=>(p.1,l6 id t l 3 p.2))) k=some u:=hx
   rw[Env.dD,sW]at hx'
   obtain⟨d',h1,rfl⟩:=Option.map_eq_some_iff.1 hx'
   obtain⟨d,h2,rfl⟩:=Option.map_eq_some_iff.1 h1
   exact hrel (hρ (.tmp k) (d.sub ρ) (by show Env.get (E.sub ρ) k=_;rw[Env.dD,h2];rfl))
  |const v=>exact(hρ (.const v) u hx).mono fun b _ hA=>⟨hal b (.inl hA),rfl⟩
  |global g=>exact(hρ (.global g) u hx).mono fun b _ hA=>⟨hal b (.inl hA),rfl⟩
  |func f=>exact(hρ (.func f) u hx).mono fun b _ hA=>⟨hal b (.inl hA),rfl⟩
 have htr:∀{σ':List b9} {w':World},Tr C (bg (aP.res ρ ((jd id R).map fun p=>(p.1,sP id t l p.2)))) (aP.res ρ ((jd id R).map fun p=>(p.1,sP id t l p.2))) w σ' w'->Tr C (bg (aP.res ρ R)) (aP.res ρ R) w σ' w':=fun h=>
  ⟨h.good,⟨h.kp.os,h.kp.tape,h.kp.output,h.kp.size,fun k hk hn=>h.kp.block k hk fun hx=>hn (hsubb k hx)⟩,fun b hb hA=>⟨(h.al b hb (hal b (.inl hA))).1,hA.2⟩⟩
 rcases h w ϱ hg' hops with ⟨v,w',av,σ',h1,h2,h3,h4⟩|⟨w',σ',h1,h2,h3⟩|⟨f,args,h1,h2⟩
 ·exact .inl ⟨v,w',av,σ',h1,htr h2,h3,h4⟩
 ·exact .inr (.inl ⟨w',σ',h1,htr h2,h3⟩)
 ·exact .inr (.inr ⟨f,args,h1,h2.mono fun e w' ⟨v,av,σ',q1,q2,q3,q4⟩=>⟨v,av,σ',q1,q2,htr q3,q4⟩⟩)
def Tj(sl:List Nat)(T:ET)(E:Env):Prop:=∀t∈sl,∀d,cj T t=some d->E.get t=some d
theorem Ye.iU{sl:List Nat}{nx:Nat}{ρ:Gh}:∀(ids:List Nat) (T:ET) (E:Env) (R:aP),Tj sl T E->E.cg nx->aP.cg nx R->
  (∀E',Tj sl (St.iU ⟨T,R,nx⟩ ids).E E'->E'.cg nx->aP.cg nx (St.iU ⟨T,R,nx⟩ ids).R->Ye P (E'.sub ρ) (aP.res ρ (St.iU ⟨T,R,nx⟩ ids).R) o C N)->Ye P (E.sub ρ) (aP.res ρ R) o C N
 |[],T,E,R,hh,hE,hR,h=>h E hh hE hR
 |i::ids,T,E,R,hh,hE,hR,h=>by
  have e0:St.iU ⟨T,R,nx⟩ (i::ids)=(St.GW ⟨T,R,nx⟩ i).iU ids:=rfl
  rw[e0]at h
  have key:∀s:St,s.nx=nx->s=⟨s.E,s.R,nx⟩:=fun s hs=>by obtain⟨a,b,c⟩:=s;simp only at hs;rw[hs]
  cases hr:eO R i with
  |none=>
   have e1:St.GW ⟨T,R,nx⟩ i=⟨T,R,nx⟩:=by unfold St.GW;simp only[hr]
   rw[e1]at h
   exact Ye.iU ids T E R hh hE hR h
  |some rr=>
   cases rr with
   |box T0 cs=>
    have e1:St.GW ⟨T,R,nx⟩ i=⟨T,R,nx⟩:=by unfold St.GW;simp only[hr]
    rw[e1]at h
    exact Ye.iU ids T E R hh hE hR h
   |row t l=>
    have e1:St.GW ⟨T,R,nx⟩ i=⟨emap (l6 i t l 3) T,(jd i R).map fun p=>(p.1,sP i t l p.2),nx⟩:=by unfold St.GW;simp only[hr]
    rw[e1]at h
    refine Ye.Nj hr (Ye.iU ids _ _ _ (fun k hk d hd=> ?_) (fun p hp=> ?_) (fun p hp=> ?_) h)
    ·rw[sN]at hd
     obtain⟨d',h1,rfl⟩:=Option.map_eq_some_iff.1 hd
     rw[sW,hh k hk d' h1]
     rfl
    ·obtain⟨p',h1,rfl⟩:=List.mem_map.1 hp
     exact nU 3 (hE p' h1)
    ·obtain⟨p',h1,rfl⟩:=List.mem_map.1 hp
     have h2:=yT (id:=i) hR p' h1
     refine⟨h2.1,?_⟩
     obtain⟨q,rr⟩:=p'
     cases rr with
     |row t' l'=>trivial
     |box T0 cs=>
      intro c hc
      obtain⟨c',h3,rfl⟩:=List.mem_map.1 hc
      exact nU 3 (h2.2 c' h3)
end
def evL(sl:List Nat)(T:ET):Operand->Option AV
 | .tmp t=>match cH t sl with
  |true=>cj T t
  |false=>none
 |x=>zB T x
def lK(R1:aP)(nx:Nat)(fz:Bool)(e:eE):Option (AV×Bool×aP×Nat):=some (match e.vl nx with
 |some d=>d
 |none=> .lit undef,match e with
 | .val _=>fz
 |_=>true,e.R R1 nx,e.nx nx)
def PU(P:Program)(F:aI)(o:Oper)(sl:List Nat)(ids:List Nat)(s:St):Option (AV×Bool×aP×Nat):=St.rec (fun E1 R1 nx1=>kZ o.op P F (evL sl E1) (eO R1) R1 nx1 (lK R1 nx1 (!ids.isEmpty))) (s.iU ids)
def ZW(P:Program)(F:aI)(o:Oper)(sl:List Nat)(E:ET)(Rl:aP)(nx:Nat):Option (AV×Bool×aP×Nat):=PU P F o sl (gG E o.op) ⟨E,Rl,nx⟩
def SN{α:Type}(P:Program)(F:aI)(o:Oper)(sl:List Nat)(ids:List Nat)(D:AV×Bool×aP×Nat->Option α)(s:St):Option α:=St.rec (fun E1 R1 nx1=>kZ o.op P F (evL sl E1) (eO R1) R1 nx1 (fun e=>D (match e.vl nx1 with
 |some d=>d
 |none=> .lit undef,match e with
 | .val _=>(!ids.isEmpty)
 |_=>true,e.R R1 nx1,e.nx nx1))) (s.iU ids)
def Ad{α:Type}(P:Program)(F:aI)(o:Oper)(sl:List Nat)(E:ET)(Rl:aP)(nx:Nat)(D:AV×Bool×aP×Nat->Option α):Option α:=SN P F o sl (gG E o.op) D ⟨E,Rl,nx⟩
theorem zl{α:Type}{P:Program}{F:aI}(hN:cS F){o:Oper}{sl:List Nat}{E:ET}{Rl:aP}{nx:Nat}(D:AV×Bool×aP×Nat->Option α):(ZW P F o sl E Rl nx).bind D=Ad P F o sl E Rl nx D:=by
 unfold ZW Ad PU SN
 generalize St.iU ⟨E,Rl,nx⟩ (gG E o.op)=s1
 obtain⟨E1,R1,n1⟩:=s1
 exact uF D hN ..
theorem MP:∀(ids:List Nat) (s:St),(s.iU ids).nx=s.nx
 |[],s=>rfl
 |i::ids,s=>by
  show ((s.GW i).iU ids).nx=s.nx
  rw[MP ids]
  unfold St.GW
  split<;>rfl
theorem WC{P:Program}{F:aI}{o:Oper}{sl:List Nat}{T:ET}{E:Env}{Rl Lo:aP}{nx nx':Nat}{v:AV}{ef:Bool}(hF:gi P F)(h:ZW P F o sl T Rl nx=some (v,ef,Lo,nx'))(hh:Tj sl T E)(hE:E.cg nx)(hR:aP.cg nx Rl):
  (∀ρ C,Ye P (E.sub ρ) (aP.res ρ Rl) o C (Nlc nx v Lo ρ))/\(ef=false->∀ρ C,Ye P (E.sub ρ) (aP.res ρ Rl) o C (Nlc nx v Rl ρ)):=by
 unfold ZW PU at h
 generalize hs:St.iU ⟨T,Rl,nx⟩ (gG T o.op)=s1 at h
 have hnx:s1.nx=nx:=by rw[<-hs,MP]
 obtain⟨E1,R1,n1⟩:=s1
 simp only at hnx
 subst hnx
 have h':kZ o.op P F (evL sl E1) (eO R1) R1 n1 (lK R1 n1 (!(gG T o.op).isEmpty))=some (v,ef,Lo,nx'):=h
 rw[D9]at h'
 have main:∀ρ C (Ro:aP),(∀e:eE,lK R1 n1 (!(gG T o.op).isEmpty) e=some (v,ef,Lo,nx')->e.R R1 n1=Ro)->Ye P (E.sub ρ) (aP.res ρ Rl) o C (Nlc n1 v Ro ρ):=fun ρ C Ro hRo=>by
  refine Ye.iU (sl:=sl) (gG T o.op) T E Rl hh hE hR fun E' hh' hE' hR'=> ?_
  rw[hs]at hh' hR' ⊢
  have hsee:iO (evL sl E1) (eO R1) n1 E' R1:=⟨fun x d hx=>by
   cases x with
   |tmp t=>
    unfold evL at hx
    simp only at hx
    split at hx
    ·rename_i hm;exact hh' t (dX.1 hm) d hx
    ·cases hx
   |_=>exact hx,fun _ _ h=>h,hE',hR'⟩
  have hst:=Ag (o:=o) hF hsee rfl h' ρ C
  intro w ϱ hg hρ
  have conv:∀a σ',Nx R1 n1 (lK R1 n1 (!(gG T o.op).isEmpty)) (v,ef,Lo,nx') ρ a σ'->Nlc n1 v Ro ρ a σ':=fun a σ' ⟨e,q1,q2,q3,q4,ρ',q5,q6,q7⟩=>by
   refine⟨ρ',q5,?_,by rw[<-hRo e q1];exact q7⟩
   unfold lK at q1
   simp only[Option.some.injEq,Prod.mk.injEq]at q1
   cases hv:e.vl n1 with
   |some d=>
    rw[hv]at q1 q6
    left
    rw[q6,<-q1.1]
    rfl
   |none=>
    rw[hv]at q1 q6
    right
    exact⟨q6,q1.1.symm⟩
  rcases hst w ϱ hg hρ with ⟨v',w',av,σ',h1,h2,h3,h4⟩|⟨w',σ',h1,h2,h3⟩|⟨f,args,h1,h2⟩
  ·exact .inl ⟨v',w',av,σ',conv _ _ h1,h2,h3,h4⟩
  ·exact .inr (.inl ⟨w',σ',conv _ _ h1,h2,h3⟩)
  ·exact .inr (.inr ⟨f,args,h1,h2.mono fun e w' ⟨v',av,σ',q1,q2,q3,q4⟩=>⟨v',av,σ',q1,conv _ _ q2,q3,q4⟩⟩)
 refine⟨fun ρ C=>main ρ C Lo fun e he=> ?_,fun hef ρ C=>main ρ C Rl fun e he=> ?_⟩
 ·unfold lK at he
  simp only[Option.some.injEq,Prod.mk.injEq]at he
  exact he.2.2.1
 ·unfold lK at he
  simp only[Option.some.injEq,Prod.mk.injEq]at he
  cases e with
  |val d=>
   have hemp:gG T o.op=[]:=by
    have h2:(!(gG T o.op).isEmpty)=false:=by rw[<-hef];exact he.2.1
    simpa using h2
   rw[hemp]at hs
   have:(⟨T,Rl,n1⟩:St)=⟨E1,R1,n1⟩:=hs
   exact(St.mk.inj this).2.1.symm
  |_=>exact absurd (he.2.1.trans hef) (by simp)
end Go.Iv
end
noncomputable section
namespace Go.Iv
variable [U:qz] [L:lY]
open Go Go.RowKit
def jW(p:Nat->Bool)(n:Nat):AV->Bool:=Nat.rec (fun d=>match d with
 | .lit _=>true
 | .sl _ _=>true
 | .rp _ _=>true
 | .own i=>p i
 | .ptr i _=>p i
 | .ra i _ _ _=>p i
 |_=>false) (fun _ ih d=>match d with
 | .lit _=>true
 | .sl _ _=>true
 | .rp _ _=>true
 | .own i=>p i
 | .ptr i _=>p i
 | .ra i _ _ _=>p i
 | .agg cs=>cs.all ih
 | .gY cs=>cs.all ih
 | .fn _ cs=>cs.all ih
 | .fp cs=>cs.all ih) n
theorem we{p:Nat->Bool}:∀(n:Nat) {d:AV},jW p n d=true->fD (fun i=>p i=true) d
 |0,d,h=>by
  cases d<;>first|exact .lit _|exact .sl _ _|exact .rp _ _|exact .own _ h|exact .ptr _ _ h|exact .ra _ _ _ _ h|(cases h;done)
 |n+1,d,h=>by
  have hL:∀{cs:List AV},cs.all (jW p n)=true->∀c∈cs,fD (fun i=>p i=true) c:=fun h c hc=>we n (List.all_eq_true.1 h c hc)
  cases d<;>first|exact .lit _|exact .sl _ _|exact .rp _ _|exact .own _ h|exact .ptr _ _ h|exact .ra _ _ _ _ h|exact .agg _ (hL h)|exact .gY _ (hL h)|exact .fn _ _ (hL h)|exact .fp _ (hL h)
theorem CR{p:Nat->Prop}:∀(n:Nat) {d:AV},fD p d->∀i∈mU n d,p i
 |0,d,h,i,hi=>by
  cases h<;>simp only[mU,List.mem_singleton,List.not_mem_nil]at hi<;>(subst hi;assumption)
 |n+1,d,h,i,hi=>by
  have hL:∀{cs:List AV},(∀c∈cs,fD p c)->i∈cs.flatMap (mU n)->p i:=fun h hi=>by
   obtain⟨c,h1,h2⟩:=List.mem_flatMap.1 hi
   exact CR n (h c h1) i h2
  cases h with
  |agg cs h=>exact hL h hi
  |gY cs h=>exact hL h hi
  |fn f cs h=>exact hL h hi
  |own id h=>simp only[mU,List.mem_singleton]at hi;rw[hi];exact h
  |ptr id off h=>simp only[mU,List.mem_singleton]at hi;rw[hi];exact h
  |ra id t m off h=>simp only[mU,List.mem_singleton]at hi;rw[hi];exact h
  |_=>simp[mU]at hi
def za(sl:List Nat)(T:ET):List Nat:=sl.flatMap fun t=>match cj T t with
 |some d=>mU 3 d
 |none=>[]
def Qh(R:aP):List Nat:=R.flatMap fun q=>q.1::match q.2 with
 | .box _ cs=>cs.flatMap (mU 3)
 | .row _ _=>[]
def Rn(al:List Nat)(nx nx' i:Nat):Bool:=cH i al||(Nat.ble nx i&&Nat.blt i nx')
def okR(al:List Nat)(nx nx':Nat)(R:aP):Bool:=R.all fun q=>Rn al nx nx' q.1&&match q.2 with
 | .box _ cs=>cs.all (jW (Rn al nx nx') 3)
 | .row _ _=>true
theorem DM{al:List Nat}{nx nx' i:Nat}(h:Rn al nx nx' i=true):i∈al\/(nx<=i/\i<nx'):=by
 unfold Rn at h
 simp only[Bool.or_eq_true,Bool.and_eq_true,Nat.ble_eq,Nat.blt_eq]at h
 exact h.imp dX.1 id
theorem ag1{al:List Nat}{nx nx':Nat}{R:aP}(h:okR al nx nx' R=true):aP.fD (fun i=>i∈al\/(nx<=i/\i<nx')) R:=fun q hq=>by
 have:=List.all_eq_true.1 h q hq
 simp only[Bool.and_eq_true]at this
 refine⟨DM this.1,?_⟩
 obtain⟨i,r⟩:=q
 cases r with
 |row t l=>trivial
 |box T cs=>exact fun c hc=>(we 3 (List.all_eq_true.1 this.2 c hc)).mono fun i hi=>DM hi
def ald(o:Op):Bool:=match o with
 | .move _=>false
 | .assign _=>false
 | .pick _ _ _=>false
 | .unOp _ _ _=>false
 | .nilCheck _=>false
 | .fieldAddr _ _ _=>false
 | .extract _ _=>false
 | .makeFunc _ _ _=>false
 | .alloc _=>false
 |_=>true
def Tc(o:Op):Bool:=match o with
 | .call {callee:= .value _, ..}=>true
 |_=>false
def oE(ops:Array Oper)(o:Oper)(E:ET)(R:aP):List Nat:=match ald o.op with
 |false=>[]
 |true=>match Tc o.op with
  |false=>za (ct ops o) E
  |true=>reach R 3 (za (ct ops o) E)
def inQ(rd:List Nat)(R:aP):aP:=match rd with
 |[]=>[]
 |rd=>bN rd R
theorem O3(rd:List Nat)(R:aP):inQ rd R=bN rd R:=by
 cases rd with
 |nil=>exact(List.filter_eq_nil_iff.2 fun p _=>by simp[cH]).symm
 |cons a l=>rfl
def rcB(ops:Array Oper)(o:Oper)(E:ET)(Rl:aP)(nx:Nat)(v:AV)(ef:Bool)(Lo:aP)(nx':Nat):Bool:=(fun al=>Nat.ble nx nx'&&(!ef||efk o)&&jW (Rn al nx nx') 4 v&&(!ef||okR al nx nx' Lo)) (za (ct ops o) E++Qh Rl)
def V1(e:AV->AV->Bool)(l:List AV):List AV->Bool:=List.rec (fun m=>match m with
 |[]=>true
 |_=>false) (fun a _ ih m=>match m with
 |b::m=>e a b&&ih m
 |[]=>false) l
def ag0(ih:AV->AV->Bool)(a b:AV):Bool:=match a,b with
 | .own i, .own j=>Nat.beq i j
 | .ptr i o, .ptr j p=>Nat.beq i j&&Nat.beq o p
 | .fn (.func f) cs, .fn (.func g) ds=>Nat.beq f g&&V1 ih cs ds
 |_,_=>false
def eqA(n:Nat):AV->AV->Bool:=Nat.rec (fun _ _=>false) (fun _ ih=>ag0 ih) n
def aew(a b:IR):Bool:=match a,b with
 | .box T cs, .box T' ds=>Nat.beq T T'&&V1 (eqA 2) cs ds
 |_,_=>false
def P6(l:aP):aP->Bool:=List.rec (fun m=>match m with
 |[]=>true
 |_=>false) (fun a _ ih m=>match m with
 |b::m=>Nat.beq a.1 b.1&&aew a.2 b.2&&ih m
 |[]=>false) l
theorem CZ{e:AV->AV->Bool}(he:∀a b,e a b=true->a=b):∀{l m:List AV},V1 e l m=true->l=m
 |[],[],_=>rfl
 |[],_::_,h=>by cases h
 |_::_,[],h=>by cases h
 |a::l,b::m,h=>by
  change (e a b&&V1 e l m)=true at h
  rw[Bool.and_eq_true]at h
  rw[he a b h.1,CZ he h.2]
theorem QC:∀(n:Nat) {a b:AV},eqA n a b=true->a=b
 |0,a,b,h=>by cases h
 |n+1,a,b,h=>by
  change ag0 (eqA n) a b=true at h
  unfold ag0 at h
  split at h
  ·rw[eV h]
  ·rw[Bool.and_eq_true]at h;rw[eV h.1,eV h.2]
  ·rw[Bool.and_eq_true]at h;rw[eV h.1,CZ (fun a b=>QC n) h.2]
  ·cases h
theorem EI:∀{l m:aP},P6 l m=true->l=m
 |[],[],_=>rfl
 |[],_::_,h=>by cases h
 |_::_,[],h=>by cases h
 |(i,a)::l,(j,b)::m,h=>by
  change (Nat.beq i j&&aew a b&&P6 l m)=true at h
  simp only[Bool.and_eq_true]at h
  have h1:=eV h.1.1
  subst h1
  have h2:=h.1.2
  unfold aew at h2
  split at h2
  ·rw[Bool.and_eq_true]at h2
   rw[eV h2.1,CZ (fun a b=>QC 2) h2.2,EI h.2]
  ·cases h2
def trim(K rd:List Nat)(Rl Lo:aP):List Nat×aP:=match K.filter fun i=>cH i rd with
 |[]=>(rd,Lo)
 |k::K=>match P6 (bN (k::K) Lo) (bN (k::K) Rl)with
  |true=>(rd.filter fun i=> !cH i (k::K),fL (k::K) Lo)
  |false=>(rd,Lo)
theorem TP(K rd:List Nat)(R Lo:aP):(∀i∈(trim K rd (bN rd R) Lo).1,i∈rd)/\(∀q∈(trim K rd (bN rd R) Lo).2,q∈Lo)/\List.Perm Lo ((trim K rd (bN rd R) Lo).2++fL (trim K rd (bN rd R) Lo).1 (bN rd R)):=by
 have h0:fL rd (bN rd R)=[]:=List.filter_eq_nil_iff.2 fun p hp=>by
  have:cH p.1 rd=true:=(List.mem_filter.1 hp).2
  rw[this];simp
 have triv:(∀i∈rd,i∈rd)/\(∀q∈Lo,q∈Lo)/\List.Perm Lo (Lo++fL rd (bN rd R)):=⟨fun _ h=>h,fun _ h=>h,by rw[h0,List.append_nil]⟩
 unfold trim
 split
 ·exact triv
 ·rename_i k K' hK
  split
  case h_2=>exact triv
  rename_i he
  have he:=EI he
  refine⟨fun i hi=>(List.mem_filter.1 hi).1,fun q hq=>(List.mem_filter.1 hq).1,?_⟩
  have e1:fL (rd.filter fun i=> !cH i (k::K')) (bN rd R)=bN (k::K') (bN rd R):=by
   unfold fL bN
   refine List.filter_congr fun p hp=> ?_
   have hp:cH p.1 rd=true:=(List.mem_filter.1 hp).2
   cases hm:cH p.1 (k::K')with
   |true=>
    rw[gV.2 fun hx=> ?_];rfl
    have:=(List.mem_filter.1 hx).2
    rw[hm]at this;cases this
   |false=>
    rw[dX.2 (List.mem_filter.2 ⟨dX.1 hp,by rw[hm];rfl⟩)];rfl
  show List.Perm Lo (fL (k::K') Lo++fL (rd.filter fun i=> !cH i (k::K')) (bN rd R))
  rw[e1,<-he]
  exact(List.perm_append_comm.trans (List.filter_append_perm _ _)).symm
def partner(ops:Array Oper)(ps:List (Nat×Nat))(i:Nat):List Nat:=ps.flatMap fun p=>match Nat.beq p.1 i with
 |true=>match ops[p.2]? with
  |some o=>match Tc o.op with
   |true=>[]
   |false=>ct ops o
  |none=>[]
 |false=>match Nat.beq p.2 i with
  |true=>match ops[p.1]? with
   |some o=>match Tc o.op with
    |true=>[]
    |false=>ct ops o
   |none=>[]
  |false=>[]
def OY(ops:Array Oper)(ps:List (Nat×Nat))(cs:List Rc)(E:ET):List Nat:=match ps with
 |[]=>[]
 |p::ps=>za (partner ops (p::ps) cs.length) E
def dK2(o:Oper)(sl:List Nat)(cs:List Rc)(rd:List Nat)(E:ET)(R:aP){α:Type}(ih:List Rc->St->(List Rc->St->Option α)->Option α)(k:List Rc->St->Option α)(v:AV)(ef:Bool)(nx':Nat)(t:List Nat×aP):Option α:=
 ih (cs++[⟨o.dst,v,sl,rd,t.1,ef,t.2⟩]) ⟨p7 o.dst v E,match ef with
  |true=>t.2++fL t.1 R
  |false=>R,nx'⟩ k
def dK(ops:Array Oper)(ps:List (Nat×Nat))(o:Oper)(cs:List Rc)(rd:List Nat)(E:ET)(R Rl:aP)(nx:Nat){α:Type}(ih:List Rc->St->(List Rc->St->Option α)->Option α)(k:List Rc->St->Option α)(x:AV×Bool×aP×Nat):Option α:=
 match rcB ops o E Rl nx x.1 x.2.1 x.2.2.1 x.2.2.2 with
 |true=>dK2 o (ct ops o) cs rd E R ih k x.1 x.2.1 x.2.2.2 (trim (OY ops ps cs E) rd Rl x.2.2.1)
 |false=>none
def amA{α:Type}(P:Program)(F:aI)(ops:Array Oper)(ps:List (Nat×Nat))(o:Oper)(ih:List Rc->St->(List Rc->St->Option α)->Option α)(cs:List Rc)(k:List Rc->St->Option α)(E:ET)(R:aP)(nx:Nat)(rd:List Nat)(Rl:aP):Option α:=
 Ad P F o (ct ops o) E Rl nx (dK ops ps o cs rd E R Rl nx ih k)
def aoe{α:Type}(P:Program)(F:aI)(ops:Array Oper)(ps:List (Nat×Nat))(o:Oper)(ih:List Rc->St->(List Rc->St->Option α)->Option α)(cs:List Rc)(k:List Rc->St->Option α)(s:St):Option α:=
 St.rec (fun E R nx=>(fun rd=>amA P F ops ps o ih cs k E R nx rd (inQ rd R)) (oE ops o E R)) s
def dNo{α:Type}(ops:Array Oper)(o:Oper)(ih:List Rc->St->(List Rc->St->Option α)->Option α)(cs:List Rc)(k:List Rc->St->Option α)(s:St):Option α:=
 ih (cs++[⟨o.dst, .lit undef,ct ops o,[],[],false,[]⟩]) ⟨p7 o.dst (.lit undef) s.E,s.R,s.nx⟩ k
def Np{α:Type}(P:Program)(F:aI)(n:Nat)(ops:Array Oper)(ps:List (Nat×Nat))(o:Oper)(ih:List Rc->St->(List Rc->St->Option α)->Option α)(cs:List Rc)(s:St)(k:List Rc->St->Option α):Option α:=match Er n o.dst with
 |true=>gate ops o s (aoe P F ops ps o ih cs k) (dNo ops o ih cs k)
 |false=>none
def OO{α:Type}(P:Program)(F:aI)(n:Nat)(ops:Array Oper)(ps:List (Nat×Nat))(l:List Oper):List Rc->St->(List Rc->St->Option α)->Option α:=List.rec (fun cs s k=>k cs s) (fun o _ ih=>Np P F n ops ps o ih) l
def Pf(l:List Oper):Nat->Bool:=List.rec (fun _=>true) (fun o _ ih i=>(o.after.toList.all fun e=> !Region.binds .any e||Nat.blt e.on i)&&ih (i+1)) l
theorem Eg:∀{l:List Oper} {k:Nat},Pf l k=true->∀(i:Nat) o,l[i]? =some o->∀e∈o.after.toList,Region.binds .any e=true->e.on<k+i
 |[],k,_,i,o,h,_,_,_=>by cases h
 |o0::l,k,hb,i,o,h,e,he,hbe=>by
  change ((o0.after.toList.all fun e=> !Region.binds .any e||Nat.blt e.on k)&&Pf l (k+1))=true at hb
  simp only[Bool.and_eq_true]at hb
  cases i with
  |zero=>
   cases h
   have:=List.all_eq_true.1 hb.1 e he
   rw[hbe]at this
   simpa [Nat.blt_eq]using this
  |succ i=>
   have:=Eg hb.2 i o h e he hbe
   omega
def Ai{α:Type}(P:Program)(F:aI)(n:Nat)(ops:Array Oper)(s:St)(k:St->Option α):Option α:=match P.follows .mixedOrders&&Pf ops.toList 0 with
 |true=>match plan ops with
  |some ps=>OO P F n ops ps ops.toList [] s fun cs s'=>match Sn ps cs with
   |true=>k s'
   |false=>none
  |none=>none
 |false=>none
def xm(ops:Array Oper)(o:Oper)(f:Fr)(wn:Bool):Prop:=match o.guard with
 |none=>wn=true
 |some (j,want)=>∃t,(ops[j]?).bind (·.dst)=some t/\((∃b,f t=some (.lit (.bool b))/\wn=(b==want))\/(∃vs,f t=some (.lit (.tuple vs))/\wn=false))
structure ua (P:Program) (n:Nat) (ops:Array Oper) (o:Oper) (f:Fr) (R:aP) (nx:Nat) (c:Rc) (nx':Nat):Prop where
 dst:c.dst=o.dst
 sl:c.sl=ct ops o
 ef:c.ef=true->efk o=true
 dn:Er n o.dst=true
 le:nx<=nx'
 run:(xm ops o f false/\c.v= .lit undef/\c.ef=false)\/(xm ops o f true/\∀ρ C,Ye P ((sU f c.sl).sub ρ) (aP.res ρ (bN c.rd R)) o C (Nlc nx c.v (match c.ef with|true=>c.Lo++fL c.wr (bN c.rd R)|false=>bN c.rd R) ρ))
 wr:∀i∈c.wr,i∈c.rd
 lin:aP.cg nx (bN c.rd R)
 lv:cg nx' c.v
 lo:c.ef=true->aP.cg nx' c.Lo
 ids:∀p:Nat->Prop,(∀t∈c.sl,∀d,f t=some d->fD p d)->aP.fD p (bN c.rd R)->fD (fun i=>p i\/(nx<=i/\i<nx')) c.v/\(c.ef=true->aP.fD (fun i=>p i\/(nx<=i/\i<nx')) c.Lo)
inductive Ch (P:Program) (n:Nat) (ops:Array Oper):Fr->aP->Nat->List Oper->List Rc->Fr->aP->Nat->Prop
 |nil (f:Fr) (R:aP) (nx:Nat):Ch P n ops f R nx [] [] f R nx
 |cons {f f':Fr} {R R':aP} {nx nx1 nx':Nat} {o:Oper} {os:List Oper} {c:Rc} {cs:List Rc} (h:ua P n ops o f R nx c nx1) (hs:Ch P n ops (c.F f) (c.R R) nx1 os cs f' R' nx'):Ch P n ops f R nx (o::os) (c::cs) f' R' nx'
theorem ad1{α:Type}{r:α}{ops:Array Oper}{o:Oper}{s:St}{yes no:St->Option α}(h:gate ops o s yes no=some r){f:Fr}(hf:∀t d,cj s.E t=some d->f t=some d):∃s':St,s'.R=s.R/\s'.nx=s.nx/\(∀t d,cj s'.E t=some d->f t=some d)/\
  ((xm ops o f true/\yes s'=some r)\/(xm ops o f false/\no s'=some r)):=by
 unfold gate at h
 unfold xm
 split at h
 ·rename_i hg
  exact⟨s,rfl,rfl,hf, .inl ⟨by first|rw[hg]|rfl,h⟩⟩
 ·rename_i j want hg
  split at h
  ·cases h
  ·rename_i t hj
   have hput:∀b,cj s.E t=some (.lit (.bool b))->∀k d,cj (s.ei t b).E k=some d->f k=some d:=fun b hb k d hk=>by
    have hk':cj (kg t (.b b) s.E) k=some d:=hk
    rcases nN hk' with ⟨rfl,rfl⟩|⟨_,h2⟩
    ·exact hf _ _ hb
    ·exact hf k d h2
   split at h
   ·rename_i b hb
    have hfb:=hf _ _ hb
    split at h
    ·split at h
     ·exact⟨s.ei t true,rfl,rfl,hput _ hb, .inl ⟨by(try rw[hg]);exact⟨t,hj, .inl ⟨_,hfb,rfl⟩⟩,h⟩⟩
     ·exact⟨s.ei t true,rfl,rfl,hput _ hb, .inr ⟨by(try rw[hg]);exact⟨t,hj, .inl ⟨_,hfb,rfl⟩⟩,h⟩⟩
    ·split at h
     ·exact⟨s.ei t false,rfl,rfl,hput _ hb, .inr ⟨by(try rw[hg]);exact⟨t,hj, .inl ⟨_,hfb,rfl⟩⟩,h⟩⟩
     ·exact⟨s.ei t false,rfl,rfl,hput _ hb, .inl ⟨by(try rw[hg]);exact⟨t,hj, .inl ⟨_,hfb,rfl⟩⟩,h⟩⟩
   ·rename_i vs hb
    exact⟨s,rfl,rfl,hf, .inr ⟨by(try rw[hg]);exact⟨t,hj, .inr ⟨_,hf _ _ hb,rfl⟩⟩,h⟩⟩
   ·cases h
theorem Qm{dst:Option Nat}{v:AV}{E:ET}{f:Fr}{c:Rc}(hc:c.dst=dst)(hv:c.v=v)(hf:∀t d,cj E t=some d->f t=some d):∀t d,cj (p7 dst v E) t=some d->c.F f t=some d:=fun t d h=>by
 unfold p7 at h
 unfold Rc.F
 rw[hc,hv]
 cases dst with
 |none=>simpa using hf t d h
 |some s=>
  rcases nN h with ⟨rfl,rfl⟩|⟨h1,h2⟩
  ·rw[if_pos rfl]
  ·rw[if_neg (fun e=>h1 (Option.some.inj e))]
   exact hf t d h2
theorem Ye.mono{P:Program}{C:Cx}{E:Env}{σ:List b9}{o:Oper}{N N':Option AV->List b9->Prop}(h:Ye P E σ o C N)(hN:∀a σ',N a σ'->N' a σ'):Ye P E σ o C N':=fun w ϱ hg hρ=>by
 rcases h w ϱ hg hρ with ⟨v,w',av,σ',h1,h2,h3⟩|⟨w',σ',h1,h2,h3⟩|⟨f,args,h1,h2⟩
 ·exact .inl ⟨v,w',av,σ',hN _ _ h1,h2,h3⟩
 ·exact .inr (.inl ⟨w',σ',hN _ _ h1,h2,h3⟩)
 ·exact .inr (.inr ⟨f,args,h1,Calls.mono h2 fun e w' ⟨v,av,σ',q1,q2,q3⟩=>⟨v,av,σ',q1,hN _ _ q2,q3⟩⟩)
theorem Iq{α:Type}{r:α}{P:Program}{F:aI}{n:Nat}{ops:Array Oper}{ps:List (Nat×Nat)}(hF:gi P F)(hN:cS F){k:List Rc->St->Option α}:∀(l:List Oper) {cs:List Rc} {s:St} {f:Fr},OO P F n ops ps l cs s k=some r->(∀t d,cj s.E t=some d->f t=some d)->(∀t d,f t=some d->cg s.nx d)->aP.cg s.nx s.R->
  ∃(cs':List Rc) (s':St) (f':Fr),k (cs++cs') s'=some r/\Ch P n ops f s.R s.nx l cs' f' s'.R s'.nx/\(∀t d,cj s'.E t=some d->f' t=some d)
 |[],cs,s,f,h,hf,_,_=>⟨[],s,f,by rw[List.append_nil];exact h, .nil f s.R s.nx,hf⟩
 |o::l,cs,s,f,h,hf,hfl,hR=>by
  change Np P F n ops ps o (OO P F n ops ps l) cs s k=some r at h
  unfold Np at h
  split at h
  case h_2=>cases h
  rename_i hd
  obtain⟨s1,e1,e2,hf1,⟨hg,h1⟩|⟨hg,h1⟩⟩:=ad1 h hf
  ·obtain⟨E,R,nx⟩:=s1
   obtain⟨E0,R0,nx0⟩:=s
   simp only at e1 e2 hf1
   subst e1 e2
   change Ad P F o (ct ops o) E (inQ (oE ops o E R) R) nx (dK ops ps o cs (oE ops o E R) E R (inQ (oE ops o E R) R) nx (OO P F n ops ps l) k)=some r at h1
   rw[<-zl hN]at h1
   generalize hrd:oE ops o E R=rd at h1
   obtain⟨⟨v,ef,Lo,nx'⟩,h2,h3⟩:=Option.bind_eq_some_iff.1 h1
   unfold dK at h3
   split at h3
   case h_2=>cases h3
   rename_i hb
   rw[O3]at h2 hb
   simp only at h3 hb
   unfold rcB at hb
   simp only[Bool.and_eq_true,Nat.ble_eq,Bool.or_eq_true,Bool.not_eq_true']at hb
   obtain⟨⟨⟨hb1,hb2⟩,hb3⟩,hb4⟩:=hb
   have hin:aP.cg nx (bN rd R):=fun q hq=>hR q (List.mem_filter.1 hq).1
   have hlE:(sU f (ct ops o)).cg nx:=fun q hq=>by
    obtain⟨t,_,ht⟩:=List.mem_filterMap.1 hq
    obtain⟨d,hd1,hd2⟩:=Option.map_eq_some_iff.1 ht
    rw[<-hd2]
    exact hfl t d hd1
   obtain⟨y1,y2⟩:=WC hF h2 (E:=sU f (ct ops o)) (fun t ht d hdd=>Bn ht (hf1 t d hdd)) hlE hin
   have hal:∀p:Nat->Prop,(∀t∈ct ops o,∀d,f t=some d->fD p d)->aP.fD p (bN rd R)->∀i∈za (ct ops o) E++Qh (bN rd R),p i:=fun p hp1 hp2 i hi=>by
    rcases List.mem_append.1 hi with hi|hi
    ·obtain⟨t,ht,hi⟩:=List.mem_flatMap.1 hi
     split at hi
     ·rename_i d hdd;exact CR 3 (hp1 t ht d (hf1 t d hdd)) i hi
     ·cases hi
    ·obtain⟨q,hq,hi⟩:=List.mem_flatMap.1 hi
     obtain⟨g1,g2⟩:=hp2 q hq
     rcases List.mem_cons.1 hi with rfl|hi
     ·exact g1
     ·obtain⟨j,rr⟩:=q
      cases rr with
      |row t l=>cases hi
      |box T cs=>
       obtain⟨c,hc,hi⟩:=List.mem_flatMap.1 hi
       exact CR 3 (g2 c hc) i hi
   obtain⟨t1,t2,t3⟩:=TP (OY ops ps cs E) rd R Lo
   rw[O3]at h3
   generalize trim (OY ops ps cs E) rd (bN rd R) Lo=tr at h3 t1 t2 t3
   obtain⟨wr,Lo'⟩:=tr
   simp only at t1 t2 t3
   have hids:∀p:Nat->Prop,(∀t∈ct ops o,∀d,f t=some d->fD p d)->aP.fD p (bN rd R)->fD (fun i=>p i\/(nx<=i/\i<nx')) v/\(ef=true->aP.fD (fun i=>p i\/(nx<=i/\i<nx')) Lo'):=fun p hp1 hp2=>
    ⟨(we 4 hb3).mono fun i hi=>(DM hi).imp (hal p hp1 hp2 i) id,fun he q hq=>((ag1 (hb4.resolve_left (by rw[he];simp))).mono fun i hi=>hi.imp (hal p hp1 hp2 i) id) q (t2 q hq)⟩
   obtain⟨g1,g2⟩:=hids (fun i=>i<nx) (fun t _ d hdd=>hfl t d hdd) hin.lts
   have hlt:∀i,(i<nx\/(nx<=i/\i<nx'))->i<nx':=fun i hi=>by omega
   have hfact:ua P n ops o f R nx ⟨o.dst,v,ct ops o,rd,wr,ef,Lo'⟩ nx':=⟨rfl,rfl,fun he=>hb2.resolve_left (by simp only at he;rw[he];simp),hd,hb1, .inr ⟨hg,fun ρ C=>by
     cases ef with
     |true=>exact Ye.mono (y1 ρ C) fun a σ' ⟨ρ',z1,z2,z3⟩=>⟨ρ',z1,z2,z3.trans (ob t3)⟩
     |false=>exact y2 rfl ρ C⟩,t1,hin,g1.mono hlt,fun he=>(aP.fD.mono (g2 he) hlt).o8,hids⟩
   have hR':aP.cg nx' (Rc.R ⟨o.dst,v,ct ops o,rd,wr,ef,Lo'⟩ R):=by
    unfold Rc.R
    cases ef with
    |false=>exact hR.mono hb1
    |true=>exact fun q hq=>(List.mem_append.1 hq).elim (fun hq=>((aP.fD.mono (g2 rfl) hlt).o8) q hq) fun hq=>(hR.mono hb1) q (List.mem_filter.1 hq).1
   have h4:OO P F n ops ps l (cs++[⟨o.dst,v,ct ops o,rd,wr,ef,Lo'⟩]) ⟨p7 o.dst v E,Rc.R ⟨o.dst,v,ct ops o,rd,wr,ef,Lo'⟩ R,nx'⟩ k=some r:=h3
   obtain⟨cs',s',f',q1,q2,q3⟩:=Iq hF hN l (f:=Rc.F ⟨o.dst,v,ct ops o,rd,wr,ef,Lo'⟩ f) h4 (Qm rfl rfl hf1) (fun t d hdd=>by
    unfold Rc.F at hdd
    split at hdd
    ·cases hdd;exact g1.mono hlt
    ·exact cg.mono (hfl t d hdd) hb1) hR'
   exact⟨_::cs',s',f',by simpa using q1, .cons hfact q2,q3⟩
  ·obtain⟨E,R,nx⟩:=s1
   obtain⟨E0,R0,nx0⟩:=s
   simp only at e1 e2 hf1
   subst e1 e2
   have hin:aP.cg nx (bN [] R):=fun q hq=>hR q (List.mem_filter.1 hq).1
   have hfact:ua P n ops o f R nx ⟨o.dst, .lit undef,ct ops o,[],[],false,[]⟩ nx:=⟨rfl,rfl,fun h=>(by cases h),hd,Nat.le_refl _, .inl ⟨hg,rfl,rfl⟩,fun _ h=>(by cases h),hin, .lit _,fun h=>(by cases h),fun p _ _=>⟨.lit _,fun h=>(by cases h)⟩⟩
   have h2:OO P F n ops ps l (cs++[⟨o.dst, .lit undef,ct ops o,[],[],false,[]⟩]) ⟨p7 o.dst (.lit undef) E,R,nx⟩ k=some r:=h1
   obtain⟨cs',s',f',q1,q2,q3⟩:=Iq hF hN l (f:=Rc.F ⟨o.dst, .lit undef,ct ops o,[],[],false,[]⟩ f) h2 (Qm rfl rfl hf1) (fun t d hdd=>by
    unfold Rc.F at hdd
    split at hdd
    ·cases hdd;exact .lit _
    ·exact hfl t d hdd) hR
   exact⟨_::cs',s',f',by simpa using q1, .cons hfact q2,q3⟩
end Go.Iv
end
noncomputable section
namespace Go.Iv
variable [U:qz] [L:lY]
open Go Go.RowKit
section
variable {P:Program} {n:Nat} {ops:Array Oper}
theorem Ch.idx{f f':Fr}{R R':aP}{nx nx':Nat}{os:List Oper}{cs:List Rc}(h:Ch P n ops f R nx os cs f' R' nx'):cs.length=os.length/\f'=fo cs (List.replicate cs.length true) f/\R'=fO cs (List.replicate cs.length true) R/\
  ∃g:Nat->Nat,g 0=nx/\g os.length=nx'/\(∀i,i<os.length->g i<=g (i+1))/\∀(i:Nat) o c,os[i]? =some o->cs[i]? =some c->ua P n ops o (fo (cs.take i) (List.replicate i true) f) (fO (cs.take i) (List.replicate i true) R) (g i) c (g (i+1)):=by
 induction h with
 |nil f R nx=>exact⟨rfl,rfl,rfl,fun _=>nx,rfl,rfl,fun i hi=>by simp at hi,fun i o c h=>by cases h⟩
 |@cons f f' R R' nx nx1 nx' o os c cs h hs ih=>
  obtain⟨h1,h2,h3,g,g0,g1,g2,g3⟩:=ih
  refine⟨by simp[h1],by rw[h2];rfl,by rw[h3];rfl,fun i=>match i with|0=>nx|i+1=>g i,rfl,g1,fun i hi=> ?_,fun i o' c' q1 q2=> ?_⟩
  ·cases i with
   |zero=>show nx<=g 0;rw[g0];exact h.le
   |succ i=>exact g2 i (by simpa using hi)
  ·cases i with
   |zero=>cases q1;cases q2;show ua P n ops o f R nx c (g 0);rw[g0];exact h
   |succ i=>exact g3 i o' c' q1 q2
theorem QW{g:Nat->Nat}{N:Nat}(h:∀i,i<N->g i<=g (i+1)):∀i j,i<=j->j<=N->g i<=g j:=fun i j hij hj=>by
 induction j with
 |zero=>
  have:i=0:=by omega
  subst this;exact Nat.le_refl _
 |succ j ih=>
  by_cases hi:i=j+1
  ·subst hi;exact Nat.le_refl _
  ·exact Nat.le_trans (ih (by omega) (by omega)) (h j (by omega))
def nQ:List Bool->Nat
 |[]=>0
 |b::bs=>(match b with|true=>0|false=>1)+nQ bs
theorem Em:∀{bs:List Bool} {i:Nat},bs[i]? =some false->nQ bs=nQ (bs.set i true)+1
 |[],_,h=>by cases h
 |b::bs,0,h=>by
  simp only[List.getElem?_cons_zero,Option.some.injEq]at h
  subst h
  show 1+nQ bs=(0+nQ bs)+1
  omega
 |b::bs,i+1,h=>by
  have:=Em (bs:=bs) (i:=i) (by simpa using h)
  cases b with
  |true=>
   show 0+nQ bs=(0+nQ (bs.set i true))+1
   omega
  |false=>
   show 1+nQ bs=(1+nQ (bs.set i true))+1
   omega
theorem F5:∀N:Nat,nQ (List.replicate N false)=N
 |0=>rfl
 |N+1=>by rw[List.replicate_succ];show 1+nQ (List.replicate N false)=N+1;rw[F5 N];omega
theorem Ah:∀{bs:List Bool},nQ bs=0->bs=List.replicate bs.length true
 |[],_=>rfl
 |b::bs,h=>by
  cases b with
  |true=>rw[List.length_cons,List.replicate_succ,<-Ah (bs:=bs) (by have:0+nQ bs=0:=h;omega)]
  |false=>have:1+nQ bs=0:=h;omega
theorem Fm:∀{bs:List Bool},nQ bs≠0->∃i:Nat,bs[i]? =some false/\∀j,j<i->bs[j]? =some true
 |[],h=>absurd rfl h
 |b::bs,h=>by
  cases b with
  |false=>exact⟨0,rfl,fun j hj=>by omega⟩
  |true=>
   obtain⟨i,h1,h2⟩:=Fm (bs:=bs) (fun e=>h (by show 0+nQ bs=0;omega))
   refine⟨i+1,h1,fun j hj=> ?_⟩
   cases j with
   |zero=>rfl
   |succ j=>exact h2 j (by omega)
theorem mem_ready{listed:Array Bool}{i:Nat}:i∈Region.ready .any ops listed↔i<ops.size/\listed.getD i true=false/\∃o,ops[i]? =some o/\∀e∈o.after.toList,Region.binds .any e=true->listed.getD e.on false=true:=by
 unfold Region.ready
 simp only[List.mem_filter,List.mem_range,Bool.and_eq_true,Bool.not_eq_true']
 refine and_congr_right fun hi=>and_congr_right fun _=> ?_
 rw[Array.getElem?_eq_getElem hi]
 simp only[Option.map_some,Option.getD_some,Option.some.injEq,exists_eq_left']
 rw[Array.all_eq_true']
 constructor
 ·intro h e he hb
  have:=h e (by simpa using he)
  rw[hb]at this
  simpa using this
 ·intro h e he
  cases hb:Region.binds .any e with
  |false=>rfl
  |true=>simpa using h e (by simpa using he) hb
theorem tT{listed:Array Bool}{i:Nat}(hi:i<listed.size):listed.getD i true=false↔listed.toList[i]? =some false:=by
 rw[Array.getD_eq_getD_getElem?,Array.getElem?_eq_getElem hi,List.getElem?_eq_getElem (by simpa using hi)]
 simp
theorem zg{listed:Array Bool}{i:Nat}:listed.getD i false=true↔listed.toList[i]? =some true:=by
 rw[Array.getD_eq_getD_getElem?]
 cases h:listed[i]? with
 |none=>simp[h]
 |some b=>simp[h]
theorem ac4{C:Cg}{cs:List Rc}{f0:Fr}{R0:aP}{nx0:Nat}{g:Nat->Nat}{ds:List Deferred}{Q:Exit->Act->World->Prop}
  (hlen:cs.length=ops.size) (g0:g 0=nx0) (gn:C.n<=nx0) (g2:∀i,i<ops.size->g i<=g (i+1)) (hf:∀(i:Nat) o c,ops.toList[i]? =some o->cs[i]? =some c->ua P n ops o (fo (cs.take i) (List.replicate i true) f0) (fO (cs.take i) (List.replicate i true) R0) (g i) c (g (i+1)))
  (hcf:∀(i j:Nat) (c d:Rc),j<i->cs[j]? =some c->cs[i]? =some d->CF c d\/∀bs,yt ops.toList bs->(∀o,ops.toList[i]? =some o->Rdy bs o)->bs[j]? =some true)
  (hback:∀(i:Nat) o,ops.toList[i]? =some o->∀e∈o.after.toList,Region.binds .any e=true->e.on<i)
  (hQ:∀a w,a.defers=ds->MtS C n (fun i=>i<g ops.size) (fo cs (List.replicate cs.length true) f0) (fO cs (List.replicate cs.length true) R0) a w->Q .normal a w):
  ∀(fuel:Nat) (listed:Array Bool) (a:Act) (w:World),listed.size=ops.size->nQ listed.toList=fuel->yt ops.toList listed.toList->a.defers=ds->
   MtS C n (fun x=>x<nx0\/∃j:Nat,listed.toList[j]? =some true/\g j<=x/\x<g (j+1)) (fo cs listed.toList f0) (fO cs listed.toList R0) a w->wpAny P .any ops Q fuel listed a w:=by
 have hmono:=QW (N:=ops.size) (g:=g) g2
 intro fuel
 induction fuel with
 |zero=>
  intro listed a w hs hc hcl hda hm
  have hall:=Ah hc
  have hfin:Q .normal a w:=by
   refine hQ a w hda ?_
   rw[hall,show listed.toList.length=cs.length from by rw[hlen,<-hs];simp]at hm
   obtain⟨E,ρ,q1,q2,q3,q5,q4⟩:=hm
   have hle:∀i,(i<nx0\/∃j:Nat,(List.replicate cs.length true)[j]? =some true/\g j<=i/\i<g (j+1))->i<g ops.size:=fun i hi=>by
    rcases hi with hi|⟨j,hj,_,hj3⟩
    ·have:=hmono 0 ops.size (Nat.zero_le _) (Nat.le_refl _);omega
    ·have hj':j<cs.length:=by simpa using (List.getElem?_eq_some_iff.1 hj).1
     have:=hmono (j+1) ops.size (by omega) (Nat.le_refl _);omega
   exact⟨E,ρ,q1,fun q hq=>(q2 q hq).mono hle,q3.mono hle,q5,q4⟩
  refine⟨?_,hfin⟩
  rw[List.eq_nil_iff_forall_not_mem]
  intro i hi
  obtain⟨h1,h2,_⟩:=mem_ready.1 hi
  rw[tT (by omega),hall,List.getElem?_replicate]at h2
  split at h2<;>cases h2
 |succ fuel ih=>
  intro listed a w hs hc hcl hda hm
  refine⟨fun hr=> ?_,fun i hi=> ?_⟩
  ·
   exfalso
   obtain⟨i,h1,h2⟩:=Fm (bs:=listed.toList) (by omega)
   have hil:i<listed.size:=by simpa using (List.getElem?_eq_some_iff.1 h1).1
   have hio:i<ops.size:=by omega
   have:i∈Region.ready .any ops listed:=mem_ready.2 ⟨hio,(tT hil).2 h1,ops[i],Array.getElem?_eq_getElem hio,fun e he hb=>zg.2 (h2 _ (hback i ops[i] (by simp[hio]) e he hb))⟩
   rw[hr]at this
   cases this
  ·obtain⟨hio,h2,o,ho,hrd⟩:=mem_ready.1 hi
   have hil:i<listed.size:=by omega
   have hbi:=(tT hil).1 h2
   have hol:ops.toList[i]? =some o:=by simpa using ho
   have hRdy:Rdy listed.toList o:=fun e he hb=>zg.1 (hrd e he hb)
   obtain⟨c,hci⟩:∃c,cs[i]? =some c:=⟨_,List.getElem?_eq_getElem (by omega)⟩
   have fact:=hf i o c hol hci
   obtain⟨s1,s2,s3,s4⟩:=Sq (cs:=cs) (bs:=listed.toList) (i:=i) (c:=c) f0 R0 (by rw[hlen,<-hs];simp) hci hbi
    (fun j d hji hd hbj=>(hcf i j d c hji hd hci).resolve_right fun h=>by
     have:=h listed.toList hcl (fun o' ho'=>by rw[hol]at ho';cases ho';exact hRdy)
     rw[hbj]at this;cases this)
    (fun j d hij hd hbj=>((hcf j i c d hij hci hd).resolve_right fun h=>by
     have hjo:j<ops.size:=by have:=(List.getElem?_eq_some_iff.1 hd).1;omega
     have:=h listed.toList hcl (fun o' ho'=>hcl j o' ho' hbj)
     rw[hbi]at this;cases this).symm)
   have eset:(listed.setIfInBounds i true).toList=listed.toList.set i true:=Array.toList_setIfInBounds ..
   have hcl':yt ops.toList (listed.toList.set i true):=fun j o' ho' hbj e he hb=>by
    have hmono':∀k,listed.toList[k]? =some true->(listed.toList.set i true)[k]? =some true:=fun k hk=>by
     rw[List.getElem?_set]
     split
     ·rename_i hik;rw[if_pos (by simpa using hil)]
     ·exact hk
    by_cases hij:i=j
    ·subst hij
     rw[hol]at ho'
     cases ho'
     exact hmono' _ (hRdy e he hb)
    ·rw[List.getElem?_set_ne hij]at hbj
     exact hmono' _ (hcl j o' ho' hbj e he hb)
   have hpn:∀x,(x<nx0\/∃j:Nat,listed.toList[j]? =some true/\g j<=x/\x<g (j+1))->¬(g i<=x/\x<g (i+1)):=fun x hx hr=>by
    rcases hx with hx|⟨j,hj,hj2,hj3⟩
    ·have:=hmono 0 i (Nat.zero_le _) (by omega);omega
    ·have hne:j≠i:=fun e=>by rw[e,hbi]at hj;cases hj
     have hjl:j<ops.size:=by
      have:j<listed.toList.length:=(List.getElem?_eq_some_iff.1 hj).1
      have h3:listed.toList.length=listed.size:=by simp
      omega
     by_cases hlt:j<i
     ·have:=hmono (j+1) i (by omega) (by omega);omega
     ·have:=hmono (i+1) j (by omega) (by omega);omega
   have hweak:∀x,((x<nx0\/∃j:Nat,listed.toList[j]? =some true/\g j<=x/\x<g (j+1))\/(g i<=x/\x<g (i+1)))->(x<nx0\/∃j:Nat,(listed.toList.set i true)[j]? =some true/\g j<=x/\x<g (j+1)):=fun x hx=>by
    rcases hx with (hx|⟨j,hj,hj2⟩)|hx
    ·exact .inl hx
    ·refine .inr ⟨j,?_,hj2⟩
     rw[List.getElem?_set]
     split
     ·rw[if_pos (by simpa using hil)]
     ·exact hj
    ·refine .inr ⟨i,?_,hx⟩
     rw[List.getElem?_set_self (by simpa using hil)]
   have cont:∀a' w',a'.defers=ds->MtS C n (fun x=>(x<nx0\/∃j:Nat,listed.toList[j]? =some true/\g j<=x/\x<g (j+1))\/(g i<=x/\x<g (i+1))) (c.F (fo cs listed.toList f0)) (c.R (fO cs listed.toList R0)) a' w'->wpAny P .any ops Q fuel (listed.setIfInBounds i true) a' w':=fun a' w' hda' hm'=>by
    refine ih (listed.setIfInBounds i true) a' w' (by simp[hs]) ?_ (by rw[eset];exact hcl') hda' ?_
    ·rw[eset]
     have:=Em hbi
     omega
    ·rw[eset,<-s3]
     obtain⟨E,ρ,q1,q2,q3,q5,q4⟩:=hm'.perm s4
     exact⟨E,ρ,q1,fun q hq=>(q2 q hq).mono hweak,q3.mono hweak,q5,q4⟩
   have hgate:∀wn,xm ops o (fo (cs.take i) (List.replicate i true) f0) wn->Region.wanted o (yielded ops a.tmps)=wn:=fun wn hg=>by
    unfold xm at hg
    cases hgd:o.guard with
    |none=>
     rw[hgd]at hg
     simp only at hg
     rw[hg]
     unfold Region.wanted
     rw[hgd]
    |some jw=>
     obtain⟨j,want⟩:=jw
     rw[hgd]at hg
     obtain⟨t,hj,hg⟩:=hg
     have hts:t∈c.sl:=by
      rw[fact.sl]
      unfold ct acB
      rw[hgd]
      simp only[hj]
      exact List.mem_append_right _ (List.mem_singleton.2 rfl)
     obtain⟨E,ρ,q1,_,_,_,q4⟩:=hm
     obtain⟨w1,w2⟩:=AS (ρ:=ρ) hgd hj (E:=E)
     rcases hg with ⟨b,hb,hw⟩|⟨vs,hb,hw⟩
     ·rw[hw]
      exact oP.spec q4.slots (w1 b (q1 _ _ (by rw[s1 t hts];exact hb)))
     ·rw[hw]
      exact oP.spec q4.slots (w2 vs (q1 _ _ (by rw[s1 t hts];exact hb)))
   unfold wpOp
   simp only[ho]
   rcases fact.run with ⟨hg,hv,hef⟩|⟨hg,hy⟩
   ·rw[if_neg (by rw[hgate _ hg];exact Bool.false_ne_true)]
    obtain⟨E,ρ,q1,q2,q3,q5,q4⟩:=hm
    have hR:c.R (fO cs listed.toList R0)=fO cs listed.toList R0:=by unfold Rc.R;rw[hef]
    refine cont _ _ (by rw[<-hda];cases o.dst<;>rfl) ?_
    rw[hR]
    cases hdo:o.dst with
    |none=>exact⟨E,ρ,fun t d ht=>q1 t d (by unfold Rc.F at ht;rw[fact.dst,hdo]at ht;simpa using ht),fun q hq=>(q2 q hq).mono fun _ h=> .inl h,q3.mono fun _ h=> .inl h,q5,q4⟩
    |some t=>
     refine⟨(t, .lit undef)::E,ρ,fun s d hsd=> ?_,fun q hq=> ?_,q3.mono fun _ h=> .inl h,q5,?_⟩
     ·unfold Rc.F at hsd
      rw[fact.dst,hdo,hv]at hsd
      by_cases hts:t=s
      ·subst hts
       rw[if_pos rfl]at hsd
       cases hsd
       exact Env.dH _ _ _
      ·rw[if_neg (fun e=>hts (Option.some.inj e))]at hsd
       rw[Env.cP _ _ hts]
       exact q1 s d hsd
     ·rcases List.mem_cons.1 hq with rfl|hq
      ·exact .lit _
      ·exact(q2 q hq).mono fun _ h=> .inl h
     ·have hdn:=fact.dn
      rw[hdo]at hdn
      have:=q4.put (av:= .lit undef) (v:=undef) hdn (.lit _)
      show rZ C.C n ((t,bL.sub ρ (.lit undef))::E.sub ρ) _ _ _
      rw[bC]
      exact this
   ·rw[if_pos (hgate _ hg)]
    refine .inl ?_
    have hle:sU (fo cs listed.toList f0) c.sl=sU (fo (cs.take i) (List.replicate i true) f0) c.sl:=JT s1
    obtain⟨E,ρ,q1,q2,q3,q5,q4⟩:=hm
    have hids:=fact.ids (fun x=>x<nx0\/∃j:Nat,listed.toList[j]? =some true/\g j<=x/\x<g (j+1)) (fun t ht d hd=>by
     rw[<-s1 t ht]at hd
     exact q2 _ (Env.get_mem (q1 t d hd))) (by rw[<-s2];exact fun q hq=>q3 q (List.mem_filter.1 hq).1)
    exact ad4 (nx:=g i) (nx':=g (i+1)) (by have:=hmono 0 i (Nat.zero_le _) (by omega);omega) ⟨E,ρ,q1,q2,q3,q5,q4⟩ fact.dst fact.dn fact.wr (by rw[hle,s2];exact hy) hpn fact.lv (by rw[s2];exact fact.lin) fact.lo hids.1 hids.2 fun a' w' hd' hm'=>cont a' w' (hd'.trans hda) hm'
theorem RZ{α:Type}{r:α}{F:aI}{C:Cg}{s:St}{a:Act}{w:World}{id:Nat}{k:St->Option α}(hF:gi P F)(hN:cS F)(h:Ai P F n ops s k=some r)(hm:Mt C n s a w):
  (Code.region id ops true).wp P (fun e a' w'=>e= .normal/\a'.defers=a.defers/\∃s',k s'=some r/\Mt C n s' a' w') a w:=by
 unfold Ai at h
 split at h
 case h_2=>cases h
 rename_i hb
 simp only[Bool.and_eq_true]at hb
 split at h
 case h_2=>cases h
 rename_i ps hps
 obtain⟨E,hh,hE,hR,ρ,hag,hsim⟩:=hm
 obtain⟨cs,s',f',q1,q2,q3⟩:=Iq hF hN ops.toList (f:=cj s.E) h (fun t d h=>h) (fun t d hd=>Env.QJ (x:= .tmp t) hE (hh t d hd)) hR
 rw[List.nil_append]at q1
 split at q1
 case h_2=>cases q1
 rename_i hpo
 obtain⟨l1,l2,l3,g,g0,g1,g2,g3⟩:=q2.idx
 have hN:ops.toList.length=ops.size:=by simp
 refine wp_region_any hb.1 ?_
 refine ac4 (C:=C) (cs:=cs) (f0:=cj s.E) (R0:=s.R) (nx0:=s.nx) (g:=g) (ds:=a.defers) (by rw[l1,hN]) g0 hag.2 (by rw[<-hN];exact g2) g3 (fun i j c d hji hc hd=>VP hps hpo (fun i c hc=>by
   obtain⟨o,ho⟩:∃o,ops.toList[i]? =some o:=⟨_,List.getElem?_eq_getElem (by rw[<-l1];exact(List.getElem?_eq_some_iff.1 hc).1)⟩
   have:=g3 i o c ho hc
   exact⟨o,ho,this.dst,this.sl,this.ef,this.wr⟩) hji hc hd) (fun i o ho e he hbe=>by have:=Eg hb.2 i o ho e he hbe;omega) (fun a' w' hd' hm'=> ?_) ops.size (Array.replicate ops.size false) a _ (by simp) (by rw[Array.toList_replicate,F5]) (fun i o _ hbi=> ?_) rfl ?_
 ·refine⟨rfl,hd',s',q1,?_⟩
  rw[<-l2,<-l3]at hm'
  obtain⟨E',ρ',p1,p2,p3,p5,p4⟩:=hm'
  rw[hN]at g1
  rw[g1]at p2 p3
  exact⟨E',fun t d hd=>p1 t d (q3 t d hd),p2,p3.o8,ρ',⟨p5,by have:=QW (N:=ops.toList.length) g2 0 ops.toList.length (Nat.zero_le _) (Nat.le_refl _);rw[g0,hN,g1]at this;have h7:=hag.2;omega⟩,p4⟩
 ·rw[Array.toList_replicate,List.getElem?_replicate]at hbi
  split at hbi<;>cases hbi
 ·have nF:∀(cs:List Rc) (n:Nat) (f:Fr),fo cs (List.replicate n false) f=f:=fun cs=>by
   induction cs with
   |nil=>intro n f;rfl
   |cons d cs ih=>
    intro n f
    cases n with
    |zero=>rfl
    |succ n=>rw[List.replicate_succ];exact ih n f
  have nR:∀(cs:List Rc) (n:Nat) (R:aP),fO cs (List.replicate n false) R=R:=fun cs=>by
   induction cs with
   |nil=>intro n f;rfl
   |cons d cs ih=>
    intro n f
    cases n with
    |zero=>rfl
    |succ n=>rw[List.replicate_succ];exact ih n f
  rw[Array.toList_replicate,nF,nR]
  exact⟨E,ρ,hh,fun q hq=>fD.mono (hE q hq) fun i hi=> .inl hi,(aP.fD.mono hR.lts fun i hi=> .inl hi),hag.1,hsim.drew⟩
end
end Go.Iv
end
noncomputable section
namespace Go.Iv
variable [U:qz] [L:lY]
open Go Go.RowKit
section
variable {α:Type} {r:α} {P:Program} {F:aI} {C:Cg} {n:Nat}
def vw(P:Program)(F:aI)(n:Nat)(_:Nat)(ops:Array Oper)(draw:Bool)(s:St)(k:eW α):Option α:=match draw with
 |false=>dB P F n ops ops.toList s (k .normal)
 |true=>Ai P F n ops s (k .normal)
def exec(P:Program)(F:aI)(n:Nat)(fuel:Nat)(c:Code):St->eW α->Option α:=
 Code.rec RT (vw P F n) (fun _ _=>aiD) (fun c _ _=>adw c) (fun id _=>ZV id) (fun _=>RC fuel) (fun _ _ _ _ _ _=>zM) S8 (fun _ _=>zM) (fun _=>zM) (fun _=>zM) abS (fun _=>zM) c
def nW(P:Program)(F:aI)(fuel:Nat)(f:FuncId)(args:List AV)(R:aP)(nx:Nat)(k:AV->aP->Nat->Option α):Option α:=match P.funcs[f]? with
 |some fn=>match fn.body with
  |some c=>match Nat.ble args.length fn.ntmps&& !(fn.name=="runtime.NumGoroutine")with
   |true=>exec (α:=α) P F fn.ntmps fuel c ⟨Gk 0 args .e,R,nx⟩ fun e s=>match e with
    | .normal=>(zF P s fn.results.toList).bind fun ds=>k (fG ds) (mO s.R nx (fG ds)) s.nx
    | .ret=>(zF P s fn.results.toList).bind fun ds=>k (fG ds) (mO s.R nx (fG ds)) s.nx
    |_=>none
   |false=>none
  |none=>none
 |none=>none
def yD(P:Program)(F0:aI)(has:FuncId->Bool)(fuel:Nat):Nat->aI
 |0=>F0
 |m+1=>fun α f args R nx k=>match has f with
  |true=>F0 α f args R nx k
  |false=>nW P (yD P F0 has fuel m) fuel f args R nx k
def Ends(P:Program)(C:Cg)(n:Nat)(c:Code)(k:eW α)(r:α)(a:Act)(w:World):Prop:=c.wp P (fun e a' w'=>∃s',k e s'=some r/\Mt C n s' a' w') a w
def N2(P:Program)(C:Cg)(n:Nat)(c:Code)(x:St->eW α->Option α):Prop:=∀(r:α) (s:St) (k:eW α) (a:Act) (w:World),x s k=some r->Mt C n s a w->Ends P C n c k r a w
theorem GC{c:Operand}{s:St}{x y:St->Option α}(h:oS c s x y=some r){a:Act}{w:World}(hm:Mt C n s a w):∃(b:Bool) (s':St),a.eval c= .bool b/\Mt C n s' a w/\(match b with|true=>x s'|false=>y s')=some r:=by
 unfold oS at h
 split at h
 ·rename_i t
  split at h
  case h_2=>cases h
  rename_i b hb
  have hev:a.eval (.tmp t)= .bool b:=by
   obtain⟨E,hh,_,_,ρ,_,hs⟩:=hm
   refine Mq hs ?_
   have h1:=hh t _ hb
   show Env.get (E.sub ρ) t=_
   rw[Env.dD,h1,Option.map_some,bC]
  refine⟨b,s.ei t b,hev,hm.ei hb,?_⟩
  unfold PB at h
  cases b<;>exact h
 ·exact⟨true,s,rfl,hm,h⟩
 ·exact⟨false,s,rfl,hm,h⟩
 ·cases h
theorem zm(hF:gi P F)(hN:cS F)(id:Nat)(ops:Array Oper)(draw:Bool):N2 (α:=α) P C n (.region id ops draw) (vw P F n id ops draw):=fun r s k a w h hm=>by
 unfold vw at h
 cases draw with
 |false=>
  refine wp_mono (wp_region_lit (yF hF _ h hm)) fun e a' w' ⟨he,_,s',h1,h2⟩=> ?_
  subst he
  exact⟨s',h1,h2⟩
 |true=>
  refine wp_mono (RZ hF hN h hm) fun e a' w' ⟨he,_,s',h1,h2⟩=> ?_
  subst he
  exact⟨s',h1,h2⟩
theorem Az{c:Code}{x:St->eW α->Option α}(hx:N2 P C n c x)(fuel:Nat):N2 P C n (.loop c) (RC fuel x):=fun r s k a w h hm=>by
 have key:∀(m:Nat) (s:St) (a:Act) (w:World),xM x k m s=some r->Mt C n s a w->c.wp P (Exit.then (InL P c fun e a' w'=>∃s',k e s'=some r/\Mt C n s' a' w') fun e a' w'=>∃s',k e s'=some r/\Mt C n s' a' w') a w:=by
  intro m
  induction m with
  |zero=>intro s a w h;cases h
  |succ m ih=>
   intro s a w h hm
   refine wp_mono (hx r s _ a w h hm) fun e a' w' ⟨s',h1,h2⟩=> ?_
   cases e with
   |normal=>exact Gd (ih s' a' w' h1 h2)
   |_=>exact⟨s',h1,h2⟩
 exact AF (key fuel s a w h hm)
theorem Uk(hF:gi P F)(hN:cS F)(fuel:Nat)(c:Code):N2 (α:=α) P C n c (exec P F n fuel c):=by
 induction c with
 |skip=>exact fun r s k a w h hm=>wp_skip ⟨s,h,hm⟩
 |region id ops draw=>exact zm hF hN id ops draw
 |seq x y hx hy=>
  intro r s k a w h hm
  refine wp_seq (wp_mono (hx r s _ a w h hm) fun e a' w' ⟨s',h1,h2⟩=> ?_)
  cases e with
  |normal=>exact hy r s' k a' w' h1 h2
  |_=>exact⟨s',h1,h2⟩
 |cond c x y hx hy=>
  intro r s k a w h hm
  obtain⟨b,s',he,hm',h'⟩:=GC (show oS c s _ _=some r from h) hm
  cases b with
  |true=>exact wp_cond_true he (hx r s' k a w h' hm')
  |false=>exact wp_cond_false he (hy r s' k a w h' hm')
 |block id x hx=>
  intro r s k a w h hm
  refine wp_block (wp_mono (hx r s _ a w h hm) fun e a' w' ⟨s',h1,h2⟩=> ?_)
  cases e with
  |exit id'=>
   simp only[qJ]at h1
   simp only[Exit.inBlock]
   split
   ·rename_i he
    subst he
    have hb:Nat.beq id' id'=true:=Nat.beq_refl _
    simp only[hb]at h1
    exact⟨s',h1,h2⟩
   ·rename_i he
    have hb:Nat.beq id' id=false:=by
     cases hb:Nat.beq id' id with
     |false=>rfl
     |true=>exact absurd (Nat.eq_of_beq_eq_true hb) he
    simp only[hb]at h1
    exact⟨s',h1,h2⟩
  |_=>exact⟨s',h1,h2⟩
 |loop c hc=>exact Az hc fuel
 |exit i=>exact fun r s k a w h hm=>wp_exit ⟨s,h,hm⟩
 |ret=>exact fun r s k a w h hm=>wp_ret ⟨s,h,hm⟩
 |_=>exact fun r s k a w h hm=>by cases h
theorem uv(nx:Nat)(ids:List Nat):∀R:aP,List.Sublist (K5 nx ids R) R
 |[]=> .slnil
 |p::R=>by
  have ih:=uv nx ids R
  show List.Sublist (Bool.rec (Bool.rec (K5 nx ids R) (p::K5 nx ids R) (cH p.1 ids)) (p::R) (Nat.blt p.1 nx)) (p::R)
  cases Nat.blt p.1 nx with
  |true=>exact List.Sublist.refl _
  |false=>
   cases cH p.1 ids with
   |true=>exact ih.cons_cons p
   |false=>exact ih.cons p
theorem YS{s:St}{E:Env}{ρ:Gh}{rv:ResultVar}{d:AV}(h:OW P s rv=some d)(hh:rC s.E E):yy P (E.sub ρ) (aP.res ρ s.R) rv (d.sub ρ):=by
 unfold OW at h
 split at h
 ·rename_i t
  refine .tmp ?_
  rw[Env.dD,hh t d h];rfl
 ·rename_i t ty
  split at h
  case h_2=>cases h
  rename_i id hp
  have hp':Env.get (E.sub ρ) t=some (.lit (.pointer (some ⟨ρ.b id,0,none⟩))):=by
   rw[Env.dD,hh t _ hp,Option.map_some,bL.sub]
  split at h
  case h_2=>cases h
  rename_i T cs hr
  obtain⟨i,hi,_⟩:=dc hr
  have hres:=fR (ρ:=ρ) hi
  split at h
  ·rename_i h1
   refine .aiu i hp' hres (vY h1) ?_
   rw[List.getElem?_map,h];rfl
  ·split at h
   case h_2=>cases h
   rename_i m hm
   split at h
   case h_2=>cases h
   rename_i hl
   cases h
   rw[dG]
   refine .aiL i hp' hres (E4 hm) ?_
   rw[List.length_map];exact eV hl
theorem OQ{s:St}{nx:Nat}{rv:ResultVar}{d:AV}(h:OW P s rv=some d){E:Env}(hh:rC s.E E)(hE:E.cg nx)(hR:aP.cg nx s.R):cg nx d:=by
 unfold OW at h
 split at h
 ·rename_i t
  exact hE _ (Env.get_mem (hh t d h))
 ·split at h
  case h_2=>cases h
  split at h
  case h_2=>cases h
  rename_i id _ T cs hr
  have hL:=xO hr hR
  split at h
  ·exact hL.2 _ (List.mem_of_getElem? h)
  ·split at h
   case h_2=>cases h
   split at h
   case h_2=>cases h
   cases h
   exact .agg _ hL.2
theorem BZ{s:St}{E:Env}{ρ:Gh}(hh:rC s.E E){A:Nat->Prop}{w:World}{tmps:Array Value}(hd:Hd A (aP.res ρ s.R) w)(hs:jM A w (E.sub ρ) tmps):∀{l:List ResultVar} {ds:List AV},zF P s l=some ds->
  ∃us,(l.mapM (q9 tmps)).run P w= .ok us w/\bk A w (ds.map (bL.sub ρ)) us
 |[],ds,h=>by cases h;exact⟨[],rfl,bk.nil⟩
 |x::l,ds,h=>by
  unfold zF at h
  split at h
  case h_2=>cases h
  rename_i d hx
  obtain⟨ds',h1,h2⟩:=Option.map_eq_some_iff.1 h
  subst h2
  obtain⟨v,q1,q2⟩:=YS (ρ:=ρ) hx hh A w tmps hd hs
  obtain⟨us,q3,q4⟩:=BZ hh hd hs h1
  refine⟨v::us,?_,bk.cons q2 q4⟩
  rw[List.mapM_cons]
  simp[q1,q3]
theorem FR{s:St}{nx:Nat}{E:Env}(hh:rC s.E E)(hE:E.cg nx)(hR:aP.cg nx s.R):∀{l:List ResultVar} {ds:List AV},zF P s l=some ds->∀d∈ds,cg nx d
 |[],ds,h=>by cases h;simp
 |x::l,ds,h=>by
  unfold zF at h
  split at h
  case h_2=>cases h
  rename_i d hx
  obtain⟨ds',h1,h2⟩:=Option.map_eq_some_iff.1 h
  subst h2
  intro d' hd'
  rcases List.mem_cons.1 hd' with rfl|hd'
  ·exact OQ hx hh hE hR
  ·exact FR hh hE hR h1 d' hd'
theorem Qp{nx:Nat}{ds:List AV}(h:∀d∈ds,cg nx d):cg nx (fG ds):=by
 unfold fG
 split
 ·exact h _ (by simp)
 ·exact .gY _ h
theorem Gt{ρ:Gh}{A:Nat->Prop}{w:World}{ds:List AV}{us:List Value}(h:bk A w (ds.map (bL.sub ρ)) us):Rel A w ((fG ds).sub ρ) (if h:us.toArray.size=1 then us.toArray[0]else .tuple us.toArray):=by
 unfold fG
 split
 ·rename_i d
  obtain⟨h1,h2⟩:=h
  match us,h1,h2 with
  |[u],_,h2=>exact h2 0 _ _ rfl rfl
 ·rename_i hn
  have hl:us.length=ds.length:=by have:=h.1;simpa using this
  rw[dif_neg (by
   intro e
   match ds,hn with
   |[],_=>rw[List.size_toArray,hl]at e;cases e
   |[d],hn=>exact hn d rfl
   |_::_::_,_=>rw[List.size_toArray,hl]at e;simp at e),jm]
  exact Rel.zS h
theorem uB:∀(l:List AV) (i:Nat) (T:ET) (E:Env),rC T E->(∀t d,cj T t=some d->t<i)->rC (Gk i l T) (dF i l++E)
 |[],_,_,_,h,_=>h
 |d::l,i,T,E,h,hT=>by
  have h2:∀t d',cj (kg i d T) t=some d'->t<i+1:=fun t d' ht=>by
   rcases nN ht with ⟨rfl,_⟩|⟨_,q⟩
   ·omega
   ·have:=hT t d' q;omega
  have:=uB l (i+1) (kg i d T) ((i,d)::E) (h.put i d) h2
  intro t v ht
  have h1:Env.get (dF (i+1) l++(i,d)::E) t=some v:=this t v ht
  show Env.get ((i,d)::(dF (i+1) l++E)) t=some v
  have key:∀(l:List AV) (j:Nat),i<j->Env.get (dF j l++(i,d)::E) t=Env.get ((i,d)::(dF j l++E)) t:=fun l=>by
   induction l with
   |nil=>intro j _;rfl
   |cons u l ih=>
    intro j hj
    show Env.get ((j,u)::(dF (j+1) l++(i,d)::E)) t=Env.get ((i,d)::(j,u)::(dF (j+1) l++E)) t
    by_cases h1:j=t
    ·subst h1
     rw[Env.dH,Env.cP _ _ (by omega),Env.dH]
    ·rw[Env.cP _ _ h1,ih (j+1) (by omega)]
     by_cases h2:i=t
     ·subst h2;rw[Env.dH,Env.dH]
     ·rw[Env.cP _ _ h2,Env.cP _ _ h2,Env.cP _ _ h1]
  rw[<-key l (i+1) (Nat.lt_succ_self i)]
  exact h1
theorem ni(ρ:Gh):∀(l:List AV) (i:Nat),(dF i l).sub ρ=dF i (l.map (bL.sub ρ))
 |[],_=>rfl
 |d::l,i=>by show (i,d.sub ρ)::(dF (i+1) l).sub ρ=_;rw[ni ρ l];rfl
theorem nP:∀{l:List AV} {i:Nat} {q:Nat×AV},q∈dF i l->q.2∈l
 |d::l,i,q,h=>by
  rcases List.mem_cons.1 h with rfl|h
  ·exact List.mem_cons_self
  ·exact List.mem_cons_of_mem _ (nP h)
theorem OZ{fn:Func}{C:Cx}{ρ:Gh}{nx:Nat}{s:St}{a:Act}{w:World}{k:AV->aP->Nat->Option α}{e:Exit}(he:e= .normal\/e= .ret)(h:((zF P s fn.results.toList).bind fun ds=>k (fG ds) (mO s.R nx (fG ds)) s.nx)=some r)(hm:Mt ⟨C,ρ,nx⟩ n s a w):
  ∃E' σ',rZ C n E' σ' a w/\UI P C n fn (fun a s=>∃d R' nx',k d R' nx'=some r/\nx<=nx'/\cg nx' d/\aP.cg nx' R'/\∃ρ',oV nx ρ ρ'/\a=d.sub ρ'/\List.Perm s (aP.res ρ' R')) e E' σ':=by
 obtain⟨E,hh,hE,hR,ρ',⟨hag,hnx⟩,hsim⟩:=hm
 obtain⟨ds,h1,h2⟩:=Option.bind_eq_some_iff.1 h
 have hsub:List.Sublist (mO s.R nx (fG ds)) s.R:=uv _ _ _
 refine⟨_,_,hsim,PE (σ':=aP.res ρ' (mO s.R nx (fG ds))) (av:=(fG ds).sub ρ') he (hsub.map _) ⟨_,_,_,h2,hnx,Qp (FR hh hE hR h1),fun q hq=>hR q (hsub.subset hq),ρ',hag,rfl,List.Perm.refl _⟩ fun A w' tmps hd hs=> ?_⟩
 obtain⟨us,q1,q2⟩:=BZ hh hd hs h1
 refine⟨_,?_,Gt q2⟩
 show (do let vs <-fn.results.mapM (q9 tmps);pure (if h:vs.size=1 then vs[0]else .tuple vs):Sem Value).run P w'=_
 have e1:fn.results=fn.results.toList.toArray:=by simp
 rw[e1,List.mapM_toArray]
 simp[q1]
section
variable {β:Type}
theorem Fk{ops:Array Oper}{o:Oper}{s:St}{y n:St->Option α}(D:α->Option β):(gate ops o s y n).bind D=gate ops o s (fun s=>(y s).bind D) (fun s=>(n s).bind D):=by
 unfold gate
 repeat' split
 all_goals first|rfl|simp_all
theorem NQ{o:Op}{s:St}{f:St->Option α}(D:α->Option β):(vq o s f).bind D=vq o s (fun s=>(f s).bind D):=by
 unfold vq
 repeat' split
 all_goals first|rfl|simp_all
theorem XC(hN:cS F){o:Oper}{ih:St->(St->Option α)->Option α}{ih':St->(St->Option β)->Option β}{k:St->Option α}{D:α->Option β}(hi:∀s k,(ih s k).bind D=ih' s (fun s=>(k s).bind D))(s:St):(rDo P F o ih k s).bind D=rDo P F o ih' (fun s=>(k s).bind D) s:=by
 unfold rDo
 generalize s.iU (gG s.E o.op)=s1
 obtain⟨E,R,nx⟩:=s1
 show (kZ o.op P F (zB E) (eO R) R nx (By o.dst E R nx ih k)).bind D=kZ o.op P F (zB E) (eO R) R nx (By o.dst E R nx ih' fun s=>(k s).bind D)
 rw[uF D hN]
 congr 1
 funext e
 cases e<;>exact hi ..
theorem pg(hN:cS F){ops:Array Oper}(D:α->Option β):∀(l:List Oper) (s:St) (k:St->Option α),(dB P F n ops l s k).bind D=dB P F n ops l s (fun s=>(k s).bind D)
 |[],s,k=>rfl
 |o::l,s,k=>by
  show (Gl P F n ops o (dB P F n ops l) s k).bind D=Gl P F n ops o (dB P F n ops l) s (fun s=>(k s).bind D)
  unfold Gl
  split
  ·rw[Fk]
   congr 1
   ·funext s1
    obtain⟨E,R,nx⟩:=s1
    show (opF o.op P F o.dst E R nx (dB P F n ops l) k).bind D=opF o.op P F o.dst E R nx (dB P F n ops l) (fun s=>(k s).bind D)
    have e1:=DZ P F o ⟨E,R,nx⟩ (dB (α:=α) P F n ops l) k
    have e2:=DZ P F o ⟨E,R,nx⟩ (dB (α:=β) P F n ops l) (fun s=>(k s).bind D)
    dsimp only at e1 e2
    rw[e1,e2,NQ]
    congr 1
    funext s2
    exact XC hN (fun s k=>pg hN D l s k) s2
   ·funext s1
    unfold rNo
    split<;>exact pg hN D l _ _
  ·rfl
theorem Dp(hN:cS F){ops:Array Oper}{ps:List (Nat×Nat)}(D:α->Option β):∀(l:List Oper) (cs:List Rc) (s:St) (k:List Rc->St->Option α),(OO P F n ops ps l cs s k).bind D=OO P F n ops ps l cs s (fun cs s=>(k cs s).bind D)
 |[],cs,s,k=>rfl
 |o::l,cs,s,k=>by
  show (Np P F n ops ps o (OO P F n ops ps l) cs s k).bind D=Np P F n ops ps o (OO P F n ops ps l) cs s (fun cs s=>(k cs s).bind D)
  unfold Np
  split
  ·rw[Fk]
   congr 1
   ·funext s1
    obtain⟨E,R,nx⟩:=s1
    show (Ad P F o (ct ops o) E (inQ (oE ops o E R) R) nx (dK ops ps o cs (oE ops o E R) E R (inQ (oE ops o E R) R) nx (OO P F n ops ps l) k)).bind D=Ad P F o (ct ops o) E (inQ (oE ops o E R) R) nx (dK ops ps o cs (oE ops o E R) E R (inQ (oE ops o E R) R) nx (OO P F n ops ps l) (fun cs s=>(k cs s).bind D))
    rw[<-zl hN,<-zl hN,Option.bind_assoc]
    congr 1
    funext x
    unfold dK
    split
    ·exact Dp hN D l _ _ _
    ·rfl
   ·funext s1
    exact Dp hN D l _ _ _
  ·rfl
theorem OJ(hN:cS F)(id:Nat)(ops:Array Oper)(draw:Bool)(D:α->Option β)(s:St)(k:eW α):(vw P F n id ops draw s k).bind D=vw P F n id ops draw s (fun e s=>(k e s).bind D):=by
 unfold vw
 cases draw with
 |false=>exact pg hN D _ _ _
 |true=>
  show (Ai P F n ops s (k .normal)).bind D=Ai P F n ops s (fun s=>(k .normal s).bind D)
  unfold Ai
  split
  ·split
   ·rw[Dp hN D]
    congr 1
    funext cs s'
    split<;>rfl
   ·rfl
  ·rfl
theorem MY{c:Operand}{s:St}{x y:St->Option α}(D:α->Option β):(oS c s x y).bind D=oS c s (fun s=>(x s).bind D) (fun s=>(y s).bind D):=by
 unfold oS
 repeat' split
 all_goals first|rfl|(unfold PB;split<;>rfl)|simp_all
theorem FP{x:St->eW α->Option α}{x':St->eW β->Option β}{D:α->Option β}(hx:∀s k,(x s k).bind D=x' s (fun e s=>(k e s).bind D))(k:eW α):∀(m:Nat) (s:St),(xM x k m s).bind D=xM x' (fun e s=>(k e s).bind D) m s
 |0,s=>rfl
 |m+1,s=>by
  show (x s (Ey k (xM x k m))).bind D=x' s (Ey (fun e s=>(k e s).bind D) (xM x' (fun e s=>(k e s).bind D) m))
  rw[hx]
  congr 1
  funext e s'
  cases e<;>first|exact FP hx k m s'|rfl
theorem SR(hN:cS F)(fuel:Nat)(D:α->Option β)(c:Code):∀(s:St) (k:eW α),(exec P F n fuel c s k).bind D=exec P F n fuel c s (fun e s=>(k e s).bind D):=by
 induction c with
 |region id ops draw=>exact OJ hN id ops draw D
 |seq x y hx hy=>
  intro s k
  show (exec P F n fuel x s (YM (exec P F n fuel y) k)).bind D=exec P F n fuel x s (YM (exec P F n fuel y) (fun e s=>(k e s).bind D))
  rw[hx]
  congr 1
  funext e s'
  cases e<;>first|exact hy s' k|rfl
 |cond c x y hx hy=>
  intro s k
  show (oS c s (fun s=>exec P F n fuel x s k) (fun s=>exec P F n fuel y s k)).bind D=oS c s (fun s=>exec P F n fuel x s _) (fun s=>exec P F n fuel y s _)
  rw[MY]
  congr 1
  ·funext s;exact hx s k
  ·funext s;exact hy s k
 |block id x hx=>
  intro s k
  show (exec P F n fuel x s (qJ id k)).bind D=exec P F n fuel x s (qJ id (fun e s=>(k e s).bind D))
  rw[hx]
  congr 1
  funext e s'
  cases e<;>first|rfl|(simp only[qJ];split<;>rfl)
 |loop c hc=>exact fun s k=>FP hc k fuel s
 |_=>exact fun s k=>rfl
theorem OB(hN:cS F)(fuel:Nat):cS (fun α=>nW (α:=α) P F fuel):=fun α β f args R nx k D=>by
 show (nW P F fuel f args R nx k).bind D=nW P F fuel f args R nx _
 unfold nW
 split
 ·split
  ·split
   ·rw[SR hN]
    congr 1
    funext e s
    cases e<;>first|rfl|exact Option.bind_assoc ..
   ·rfl
  ·rfl
 ·rfl
theorem Aj{F0:aI}{has:FuncId->Bool}(hN:cS F0)(fuel:Nat):∀m:Nat,cS (yD P F0 has fuel m)
 |0=>hN
 |m+1=>fun α β f args R nx k D=>by
  show (match has f with|true=>F0 α f args R nx k|false=>nW P (yD P F0 has fuel m) fuel f args R nx k).bind D=_
  show _=(match has f with|true=>F0 β f args R nx _|false=>nW P (yD P F0 has fuel m) fuel f args R nx _)
  cases has f with
  |true=>exact hN ..
  |false=>exact OB (Aj hN fuel m) fuel α β f args R nx k D
end
theorem SY(hF:gi P F)(hN:cS F)(fuel:Nat):gi P (fun α=>nW (α:=α) P F fuel):=fun α f args R nx k r h hargs hR=>by
 have h:nW P F fuel f args R nx k=some r:=h
 unfold nW at h
 split at h
 case h_2=>cases h
 rename_i fn hf
 split at h
 case h_2=>cases h
 rename_i c hb
 split at h
 case h_2=>cases h
 rename_i hc
 rw[Bool.and_eq_true]at hc
 obtain⟨hl,hnm⟩:=hc
 refine⟨⟨fn,hf,by simpa using hnm,by rw[hb];rfl⟩,fun ρ=>Fn.of hf hb rfl (by rw[List.length_map];exact hl) fun C a w ha=> ?_⟩
 have hm:Mt ⟨C,ρ,nx⟩ fn.ntmps ⟨Gk 0 args .e,R,nx⟩ a w:=by
  refine⟨dF 0 args,?_,fun q hq=>hargs _ (nP hq),hR,ρ,⟨.refl _ _,Nat.le_refl _⟩,?_⟩
  ·have:=uB args 0 .e [] (fun t d ht=>by cases t<;>cases ht) (fun t d ht=>by cases t<;>cases ht)
   rwa [List.append_nil]at this
  ·rw[ni];exact ha
 refine wp_mono (Uk hF hN fuel c r _ _ a w h hm) fun e a' w' ⟨s',h1,h2⟩=> ?_
 cases e with
 |normal=>exact OZ (.inl rfl) h1 h2
 |ret=>exact OZ (.inr rfl) h1 h2
 |_=>cases h1
theorem Ec{F0:aI}{has:FuncId->Bool}(hF:gi P F0)(hN:cS F0)(fuel:Nat):∀m:Nat,gi P (yD P F0 has fuel m)
 |0=>hF
 |m+1=>fun α f args R nx k r h hargs hR=>by
  change (match has f with|true=>F0 α f args R nx k|false=>nW P (yD P F0 has fuel m) fuel f args R nx k)=some r at h
  split at h
  ·exact hF α f args R nx k r h hargs hR
  ·exact SY (Ec hF hN fuel m) (Aj hN fuel m) fuel α f args R nx k r h hargs hR
end
end Go.Iv
end
noncomputable section
namespace Go.Iv
variable [U:qz] [L:lY]
open Go Go.RowKit
def scB:Nat->AV->Bool
 |_, .lit _=>true
 |n+1, .agg cs=>cs.all (scB n)
 |n+1, .gY cs=>cs.all (scB n)
 |_,_=>false
def zH:Nat->AV->Bool
 |_, .lit _=>true
 |_, .sl _ _=>true
 |_, .rp _ _=>true
 |n+1, .agg cs=>cs.all (zH n)
 |n+1, .gY cs=>cs.all (zH n)
 |_,_=>false
theorem iL:∀(n:Nat) {d:AV} {ρ:Gh},zH n d=true->d.sub ρ=d
 |n,d,ρ,h=>by
  have hL:∀{m:Nat} {cs:List AV},m<n->cs.all (zH m)=true->cs.map (bL.sub ρ)=cs:=fun{m cs} hm h=>by
   have:cs.map (bL.sub ρ)=cs.map id:=List.map_congr_left fun c hc=>iL m (List.all_eq_true.1 h c hc)
   rw[this,List.map_id]
  cases n with
  |zero=>cases d<;>first|(cases h;done)|simp only[bL.sub]
  |succ n=>
   cases d<;>first|(cases h;done)|(simp only[bL.sub];done)|skip
   ·rw[dG,hL (Nat.lt_succ_self n) h]
   ·rw[jm,hL (Nat.lt_succ_self n) h]
theorem Rt{R:aP}{ρ:Gh}{A:Nat->Prop}{w:World}{v:Value}{id:Nat}(hd:Hd A (aP.res ρ R) w)(hr:Rel A w ((bL.own (cE:=U.cE) id).sub ρ) v):Rel (fun b=>A b\/b∈bg (aP.res ρ R)) w ((match eO R id with
  |some (.row t l)=>bL.sl t l
  |_=> .own id).sub ρ) v:=by
 have base:Rel (fun b=>A b\/b∈bg (aP.res ρ R)) w ((bL.own (cE:=U.cE) id).sub ρ) v:=hr.mono fun b _ hA=>⟨.inl hA,rfl⟩
 split
 ·rename_i t l hg
  obtain⟨i,hi,_⟩:=dc hg
  have hres:=fR (ρ:=ρ) hi
  have hm:=List.mem_of_getElem? hres
  rw[cQ]at hr
  rw[e9]
  have hd1:Hd A [.row (ρ.v id) t l] w:=⟨fun r hr=>by
   rw[List.mem_singleton]at hr
   rw[hr]
   exact hd.1 _ hm,fun b hb=>hd.2 b (by
    obtain⟨r,h1,h2⟩:=bB.1 hb
    rw[List.mem_singleton]at h1
    rw[h1]at h2
    exact bB.2 ⟨_,hm,h2⟩)⟩
  refine(Vw.row 0 rfl A w v hd1 hr).mono fun b _ hA=>⟨hA.imp (fun h=>h) fun hx=> ?_,rfl⟩
  obtain⟨r,h1,h2⟩:=bB.1 hx
  rw[List.mem_singleton]at h1
  rw[h1]at h2
  exact bB.2 ⟨_,hm,h2⟩
 ·exact base
def cL:aI:=fun _ _ _ _ _ _=>none
theorem afY{P:Program}:gi P cL:=fun _ _ _ _ _ _ _ h=>by cases h
def Ve{β:Type}(e:AV->Option β)(d:AV)(R:aP)(_:Nat):Option β:=match R with
 |[]=>e d
 |_=>none
def P0{β:Type}(e:AV->Option β)(m:β->AV):Prop:=∀d x,e d=some x->d=m x/\zH 2 d=true
theorem P0.b:P0 NZ bL.b:=fun d x h=>by
 unfold NZ at h
 split at h
 ·cases h;exact⟨rfl,rfl⟩
 ·cases h
theorem aeE{P:Program}{F:aI}(hF:gi P F){f:FuncId}{args:List AV}{β:Type}{e:AV->Option β}{m:β->AV}{x:β}(he:P0 e m)(hc:args.all (zH 2)=true)(hl:∀d∈args,cg 0 d)(h:F β f args [] 0 (Ve e)=some x):uw P f/\Fn P f args [] (fun a s=>a=m x/\s=[]):=by
 obtain⟨h1,h2⟩:=hF β f args [] 0 (Ve e) x h hl (fun q hq=>by cases hq)
 refine⟨h1,?_⟩
 have:=h2 ⟨fun _=>undef,fun _=>0⟩
 have ea:args.map (bL.sub ⟨fun _=>undef,fun _=>0⟩)=args:=by
  have:args.map (bL.sub ⟨fun _=>undef,fun _=>0⟩)=args.map id:=List.map_congr_left fun c hcm=>iL 2 (List.all_eq_true.1 hc c hcm)
  rw[this,List.map_id]
 rw[ea]at this
 refine Fn.mono this fun a s ⟨d,R',nx',q1,_,_,_,ρ',_,q2,q3⟩=> ?_
 unfold Ve at q1
 split at q1
 ·obtain⟨q4,q5⟩:=he _ _ q1
  rw[q2,iL 2 q5,q4]
  exact⟨rfl,by simpa [aP.res]using q3⟩
 ·cases q1
theorem rM(d:AV):∀(m:Nat) (T:ET) (k s:Nat),k<2^m-1->cj (qk d m T k) s=if k=s then some d else cj T s
 |0,T,k,s,h=>by simp at h
 |m+1,T,k,s,h=>by
  have hp:2^(m+1)=2*2^m:=by rw[Nat.pow_succ];omega
  rw[Lm,EZ T s]
  by_cases hk:k=0
  ·rw[if_pos hk,l7]
   subst hk
   by_cases hs:s=0
   ·rw[if_pos hs,if_pos hs.symm]
   ·have h0:¬(0=s):=fun e=>hs e.symm
    rw[if_neg h0,if_neg hs]
    split<;>simp_all
  ·rw[if_neg hk]
   by_cases hk2:(k-1)%2=0
   ·rw[if_pos hk2,l7]
    by_cases hs:s=0
    ·rw[if_pos hs,if_pos hs,if_neg (by omega)]
    ·rw[if_neg hs,if_neg hs]
     by_cases hs2:(s-1)%2=0
     ·rw[if_pos hs2,if_pos hs2,rM d m T.l _ _ (by omega)]
      by_cases hks:k=s
      ·rw[if_pos hks,if_pos (by omega)]
      ·rw[if_neg hks,if_neg (by omega)]
     ·rw[if_neg hs2,if_neg hs2,if_neg (fun e=>hs2 (by rw[<-e];exact hk2))]
   ·rw[if_neg hk2,l7]
    by_cases hs:s=0
    ·rw[if_pos hs,if_pos hs,if_neg (by omega)]
    ·rw[if_neg hs,if_neg hs]
     by_cases hs2:(s-1)%2=0
     ·rw[if_pos hs2,if_pos hs2,if_neg (fun e=>hk2 (by rw[e];exact hs2))]
     ·rw[if_neg hs2,if_neg hs2,rM d m T.r _ _ (by omega)]
      by_cases hks:k=s
      ·rw[if_pos hks,if_pos (by omega)]
      ·rw[if_neg hks,if_neg (by omega)]
theorem u7{t s:Nat}{d:AV}{T:ET}(h:t<4095):cj (kg t d T) s=if t=s then some d else cj T s:=rM d 12 T t s h
def aV(F:aI)(f:FuncId):Prop:=∀args R nx d R' nx',F (AV×aP×Nat) f args R nx (fun d R nx=>some (d,R,nx))=some (d,R',nx')->R'=R
def E9(fs:List Nat):Op->Bool
 | .move _=>true
 | .assign _=>true
 | .pick c _ _=>match c with
  | .tmp t=>Nat.blt t 4095
  |_=>true
 | .binOp _ _ _ _ _=>true
 | .unOp _ _ _=>true
 | .fieldAddr _ _ _=>true
 | .indexAddr _ _ _=>true
 | .index _ _ _=>true
 | .load _ _=>true
 | .nilCheck _=>true
 | .convert _ _ _=>true
 | .extract _ _=>true
 | .call c=>match c.callee with
  | .value (.func f)=>cH f fs&& !L.fz f
  | .builtin .len=>true
  | .builtin .max=>true
  | .builtin .min=>true
  |_=>false
 |_=>false
def AB:Option Nat->Bool
 |some t=>Nat.blt t 4095
 |none=>true
section
variable {P:Program} {F:aI} {n:Nat} {fs:List Nat}
theorem RY{E:ET}{o:Op}(h:E9 fs o=true):gG E o=[]:=by
 cases o<;>first|rfl|(cases h;done)|skip
 case call c=>
  unfold E9 at h
  unfold gG
  dsimp only at h ⊢
  split at h
  ·rename_i f hf
   rw[Bool.and_eq_true,Bool.not_eq_true']at h
   rw[hf]
   dsimp only
   rw[h.2]
  ·rename_i hc;rw[hc]
  ·rename_i hc;rw[hc]
  ·rename_i hc;rw[hc]
  ·cases h
theorem mR{g:(K:AV->Option eE)->Option eE}{g0:Option AV}{e:eE}(hg:g (fun d=>some (.val d))=g0.bind fun d=>some (.val d))(h:g (cJ some)=some e):∃d,e= .val d:=by
 have h:g (fun d=>some (.val d))=some e:=h
 rw[hg]at h
 obtain⟨d,_,h2⟩:=Option.bind_eq_some_iff.1 h
 cases h2
 exact⟨d,rfl⟩
theorem Na(hN:cS F)(hp:∀f∈fs,aV F f){o:Op}{E:ET}{rd:Nat->Option IR}{R:aP}{nx:Nat}{e:eE}(ho:E9 fs o=true)(h:kZ o P F (zB E) rd R nx some=some e):∃d nx',e= .all d R nx'\/e= .val d:=by
 have fin:(∃d,e= .val d)->∃d nx',e=eE.all d R nx'\/e= .val d:=fun⟨d,h⟩=>⟨d,0, .inr h⟩
 have fb:∀{x:Option AV},x.bind (cJ some)=some e->∃d,e= .val d:=fun{x} h=>by
  obtain⟨d,_,h2⟩:=Option.bind_eq_some_iff.1 h
  cases h2
  exact⟨d,rfl⟩
 cases o<;>first|(cases ho;done)|exact fin (fb h)|skip
 case pick c a b=>
  have h:s8 c a b P F (zB E) rd R nx some=some e:=h
  unfold s8 at h
  split at h
  ·exact fin (fb h)
  ·exact fin (fb h)
  ·cases h
 case binOp b T x y t=>exact fin (mR (Gx (K:=some) (fun d=>some (eE.val d))).symm h)
 case unOp b T x=>exact fin (mR (KQ (K:=some) (fun d=>some (eE.val d))).symm h)
 case fieldAddr T x i=>exact fin (mR (Gm (K:=some) (fun d=>some (eE.val d))).symm h)
 case indexAddr T x y=>exact fin (mR (D5 (K:=some) (fun d=>some (eE.val d))).symm h)
 case index T x y=>exact fin (mR (Ge (K:=some) (fun d=>some (eE.val d))).symm h)
 case load T x=>exact fin (mR (KF (K:=some) (fun d=>some (eE.val d))).symm h)
 case nilCheck x=>exact fin (mR (GL (K:=some) (fun d=>some (eE.val d))).symm h)
 case convert T T' x=>exact fin (mR (EE (K:=some) (fun d=>some (eE.val d))).symm h)
 case extract x i=>exact fin (mR (Fb (K:=some) (fun d=>some (eE.val d))).symm h)
 case call c=>
  have h:yj c P F (zB E) rd R nx some=some e:=h
  unfold yj at h
  unfold E9 at ho
  dsimp only at ho
  split at ho
  ·rename_i f hf
   rw[hf]at h
   rw[Bool.and_eq_true]at ho
   have h:DN F (zB E) R nx (some (.fn (.func f) [])) c.args.toList some=some e:=h
   unfold DN at h
   dsimp only at h
   obtain⟨xs,_,h2⟩:=Option.bind_eq_some_iff.1 h
   have h3:=hN (AV×aP×Nat) eE f (xs++[]) R nx (fun d R nx=>some (d,R,nx)) (fun x=>some (.all x.1 x.2.1 x.2.2))
   have h3':(F (AV×aP×Nat) f (xs++[]) R nx (fun d R nx=>some (d,R,nx))).bind (fun x=>some (.all x.1 x.2.1 x.2.2))=some e:=h3.trans h2
   obtain⟨⟨d,R',nx'⟩,h4,h5⟩:=Option.bind_eq_some_iff.1 h3'
   have h6:=hp f (dX.1 ho.1) _ _ _ _ _ _ h4
   subst h6
   cases h5
   exact⟨d,nx', .inl rfl⟩
  ·rename_i hc
   rw[hc]at h
   have h:vF .len c.args c.argTypes P (zB E) rd R nx some=some e:=h
   unfold vF at h
   dsimp only at h
   split at h
   ·exact fin (mR (Gb (K:=some) (fun d=>some (eE.val d))).symm h)
   ·cases h
  ·rename_i hc
   rw[hc]at h
   have h:vF .max c.args c.argTypes P (zB E) rd R nx some=some e:=h
   unfold vF at h
   dsimp only at h
   split at h
   ·exact fin (mR (wN (K:=some) (fun d=>some (eE.val d))).symm h)
   ·cases h
  ·rename_i hc
   rw[hc]at h
   have h:vF .min c.args c.argTypes P (zB E) rd R nx some=some e:=h
   unfold vF at h
   dsimp only at h
   split at h
   ·exact fin (mR (wN (K:=some) (fun d=>some (eE.val d))).symm h)
   ·cases h
  ·cases ho
def Rj(l:List Oper)(s s0:St):Prop:=s0.R=s.R/\∀u d,(∀o∈l,o.dst≠some u)->cj s.E u=some d->cj s0.E u=some d
theorem lu{s:St}{t:Nat}{b:Bool}(ht:t<4095)(h:cj s.E t=some (.lit (.bool b))){u:Nat}{d:AV}(hu:cj s.E u=some d):cj (s.ei t b).E u=some d:=by
 show cj (kg t (.b b) s.E) u=_
 rw[u7 ht]
 split
 ·rename_i e;subst e;rw[h]at hu;exact hu
 ·exact hu
theorem xj(hN:cS F)(hp:∀f∈fs,aV F f){ops:Array Oper}(hops:∀o∈ops.toList,AB o.dst=true):∀(l:List Oper) {s s0:St},(∀o∈l,E9 fs o.op=true/\AB o.dst=true)->dB P F n ops l s some=some s0->Rj l s s0
 |[],s,s0,_,h=>by cases h;exact⟨rfl,fun u d _ hu=>hu⟩
 |o::l,s,s0,hl,h=>by
  have ho:=hl o List.mem_cons_self
  have hl':=fun o' h'=>hl o' (List.mem_cons_of_mem _ h')
  change Gl P F n ops o (dB P F n ops l) s some=some s0 at h
  unfold Gl at h
  split at h
  case h_2=>cases h
  have putG:∀{s2:St} {d:AV} {nx':Nat},dB P F n ops l ⟨p7 o.dst d s2.E,s2.R,nx'⟩ some=some s0->s2.R=s.R->(∀u d,cj s.E u=some d->cj s2.E u=some d)->Rj (o::l) s s0:=fun{s2 d nx'} h1 h2 h3=>by
   obtain⟨q1,q2⟩:=xj hN hp hops l hl' h1
   refine⟨q1.trans h2,fun u d' hu hd=>q2 u d' (fun o' h'=>hu o' (List.mem_cons_of_mem _ h')) ?_⟩
   show cj (p7 o.dst d s2.E) u=some d'
   have hne:=hu o List.mem_cons_self
   have hod:=ho.2
   unfold p7
   split
   ·exact h3 u d' hd
   ·rename_i t ht
    rw[ht]at hod hne
    rw[u7 (by simpa [AB]using hod),if_neg (fun e=>hne (by rw[e]))]
    exact h3 u d' hd
  have yes:∀s1:St,akY P F o (dB P F n ops l) some s1=some s0->s1.R=s.R->(∀u d,cj s.E u=some d->cj s1.E u=some d)->Rj (o::l) s s0:=fun s1 h1 h2 h3=>by
   obtain⟨E1,R1,nx1⟩:=s1
   have h1:opF o.op P F o.dst E1 R1 nx1 (dB P F n ops l) some=some s0:=h1
   have e1:=DZ P F o ⟨E1,R1,nx1⟩ (dB (α:=St) P F n ops l) some
   dsimp only at e1
   rw[e1]at h1
   have go:∀s2:St,rDo P F o (dB P F n ops l) some s2=some s0->s2.R=s.R->(∀u d,cj s.E u=some d->cj s2.E u=some d)->Rj (o::l) s s0:=fun s2 g1 g2 g3=>by
    unfold rDo at g1
    rw[RY ho.1]at g1
    obtain⟨E2,R2,nx2⟩:=s2
    have g1:kZ o.op P F (zB E2) (eO R2) R2 nx2 (By o.dst E2 R2 nx2 (dB P F n ops l) some)=some s0:=g1
    have g4:(kZ o.op P F (zB E2) (eO R2) R2 nx2 some).bind (By o.dst E2 R2 nx2 (dB P F n ops l) some)=some s0:=(uF _ hN ..).trans g1
    obtain⟨e,g5,g6⟩:=Option.bind_eq_some_iff.1 g4
    obtain⟨d,nx',he⟩:=Na hN hp ho.1 g5
    rcases he with he|he
    ·subst he;exact putG (s2:=⟨E2,R2,nx2⟩) g6 g2 g3
    ·subst he;exact putG (s2:=⟨E2,R2,nx2⟩) g6 g2 g3
   unfold vq at h1
   split at h1
   ·rename_i t a b hop
    have ht:t<4095:=by
     have:=ho.1
     rw[hop]at this
     simpa [E9,Nat.blt_eq]using this
    split at h1
    ·rename_i b hb
     split at h1
     ·exact go _ h1 h2 fun u d hu=>lu (s:=⟨E1,R1,nx1⟩) ht hb (h3 u d hu)
     ·exact go _ h1 h2 fun u d hu=>lu (s:=⟨E1,R1,nx1⟩) ht hb (h3 u d hu)
    ·cases h1
   ·exact go _ h1 h2 h3
  have no:∀s1:St,rNo o.dst (dB P F n ops l) some s1=some s0->s1.R=s.R->(∀u d,cj s.E u=some d->cj s1.E u=some d)->Rj (o::l) s s0:=fun s1 h1 h2 h3=>by
   have:rNo o.dst (dB P F n ops l) some s1=dB P F n ops l ⟨p7 o.dst (.lit undef) s1.E,s1.R,s1.nx⟩ some:=by
    unfold rNo p7
    cases o.dst<;>rfl
   rw[this]at h1
   exact putG (s2:=s1) h1 h2 h3
  unfold gate at h
  split at h
  ·exact yes s h rfl fun _ _ h=>h
  ·rename_i j want hg
   split at h
   ·cases h
   ·rename_i t hj
    have ht:t<4095:=by
     obtain⟨o',ho',hd'⟩:=Option.bind_eq_some_iff.1 hj
     have hm:o'∈ops.toList:=Array.mem_toList_iff.2 (Array.mem_of_getElem? ho')
     have:=hops o' hm
     rw[hd']at this
     simpa [AB,Nat.blt_eq]using this
    split at h
    ·rename_i b hb
     split at h
     ·split at h
      ·exact yes _ h rfl fun u d hu=>lu ht hb hu
      ·exact no _ h rfl fun u d hu=>lu ht hb hu
     ·split at h
      ·exact no _ h rfl fun u d hu=>lu ht hb hu
      ·exact yes _ h rfl fun u d hu=>lu ht hb hu
    ·exact no _ h rfl fun _ _ h=>h
    ·cases h
def ajY(fs:List Nat)(t:Nat)(E:ET)(ops:List Oper):Bool:=Nat.blt t 4095&&ops.all fun o=>E9 fs o.op&&AB o.dst&&match o.dst with
 |some u=>Nat.beq u t||match cj E u with
  |none=>true
  |some _=>false
 |none=>true
def rbK(t:Nat)(s:St):Option Bool:=match cj s.E t with
 |some (.lit (.bool b))=>some b
 |_=>none
def G1{α:Type}(P:Program)(F:aI)(n:Nat)(fs:List Nat)(t:Nat)(ops:Array Oper)(s:St)(k:eW α):Option α:=match ajY fs t s.E ops.toList with
 |true=>match dB (α:=Bool) P F n ops ops.toList s (rbK t)with
  |some b=>k .normal ⟨kg t (.b b) s.E,s.R,s.nx⟩
  |none=>none
 |false=>none
theorem Env.rN{T:ET}:∀(E:Env) (u:Nat) (d:AV),Env.get (E.filter fun p=>@decide (cj T p.1=some p.2) (Classical.propDecidable _)) u=some d->cj T u=some d
 |[],_,_,h=>by cases h
 |(k,v)::E,u,d,h=>by
  by_cases hk:cj T k=some v
  ·rw[List.filter_cons,if_pos (by simp[hk])]at h
   by_cases hku:k=u
   ·subst hku
    rw[Env.dH]at h
    cases h
    exact hk
   ·rw[Env.cP _ _ hku]at h
    exact Env.rN E u d h
  ·rw[List.filter_cons,if_neg (by simp[hk])]at h
   exact Env.rN E u d h
theorem Env.nj{T:ET}:∀(E:Env) (u:Nat) (d:AV),cj T u=some d->E.get u=some d->Env.get (E.filter fun p=>@decide (cj T p.1=some p.2) (Classical.propDecidable _)) u=some d
 |[],_,_,_,h=>by cases h
 |(k,v)::E,u,d,ht,h=>by
  by_cases hku:k=u
  ·subst hku
   rw[Env.dH]at h
   cases h
   rw[List.filter_cons,if_pos (by simp[ht])]
   exact Env.dH _ _ _
  ·rw[Env.cP _ _ hku]at h
   rw[List.filter_cons]
   split
   ·rw[Env.cP _ _ hku];exact Env.nj E u d ht h
   ·exact Env.nj E u d ht h
theorem Oj{α:Type}{C:Cg}(hF:gi P F)(hN:cS F)(hp:∀f∈fs,aV F f)(id t:Nat)(ops:Array Oper):N2 (α:=α) P C n (.region id ops false) (G1 P F n fs t ops):=fun r s k a w h hm=>by
 unfold G1 at h
 split at h
 case h_2=>cases h
 rename_i hrb
 split at h
 case h_2=>cases h
 rename_i b hb
 unfold ajY at hrb
 rw[Bool.and_eq_true,Nat.blt_eq]at hrb
 obtain⟨ht,hall⟩:=hrb
 have hall:∀o∈ops.toList,(E9 fs o.op=true/\AB o.dst=true)/\∀u,o.dst=some u->u=t\/cj s.E u=none:=fun o ho=>by
  have h1:=List.all_eq_true.1 hall o ho
  rw[Bool.and_eq_true,Bool.and_eq_true]at h1
  refine⟨h1.1,fun u hu=> ?_⟩
  have h2:=h1.2
  rw[hu]at h2
  dsimp only at h2
  rw[Bool.or_eq_true]at h2
  rcases h2 with h2|h2
  ·exact .inl (eV h2)
  ·right
   split at h2
   ·assumption
   ·cases h2
 have hnat:=pg hN (P:=P) (n:=n) (ops:=ops) (rbK t) ops.toList s some
 have hb':(dB P F n ops ops.toList s some).bind (rbK t)=some b:=hnat.trans hb
 obtain⟨s0,h1,h2⟩:=Option.bind_eq_some_iff.1 hb'
 obtain⟨q1,q2⟩:=xj hN hp (fun o ho=>(hall o ho).1.2) ops.toList (fun o ho=>(hall o ho).1) h1
 have hend:Ends P C n (.region id ops false) (fun e s'=>match e with
  | .normal=>some s'
  |_=>none) s0 a w:=by
  refine wp_mono (wp_region_lit (yF hF _ h1 hm)) fun e a' w' ⟨he,_,s',h3,h4⟩=> ?_
  subst he
  exact⟨s',h3,h4⟩
 refine wp_mono hend fun e a' w' ⟨s',h3,h4⟩=> ?_
 cases e<;>first|(cases h3;done)|skip
 have h3:some s'=some s0:=h3
 cases h3
 refine⟨_,h,?_⟩
 have hbt:cj s0.E t=some (.b b):=by
  unfold rbK at h2
  split at h2
  ·rename_i b' hb';cases h2;exact hb'
  ·cases h2
 obtain⟨E,hh,hE,hR,ρ,hag,hsim⟩:=hm
 obtain⟨E0,hh0,hE0,hR0,ρ0,hag0,hsim0⟩:=h4
 let E1:Env:=(t, .b b)::E.filter fun p=>@decide (cj s.E p.1=some p.2) (Classical.propDecidable _)
 have hkey:∀u d,E1.get u=some d->cj s0.E u=some d:=fun u d hu=>by
  by_cases htu:t=u
  ·subst htu
   rw[Env.dH]at hu
   cases hu
   exact hbt
  ·rw[Env.cP _ _ htu]at hu
   have h5:=Env.rN E u d hu
   refine q2 u d (fun o ho hd=> ?_) h5
   rcases (hall o ho).2 u hd with h6|h6
   ·exact htu h6.symm
   ·rw[h5]at h6;cases h6
 refine⟨E1,fun u d hu=> ?_,Env.tc (fun p hp=>hE p (List.mem_filter.1 hp).1) (.lit _),hR,ρ0,⟨hag0.1,hag.2⟩,?_⟩
 ·have hu:cj (kg t (.b b) s.E) u=some d:=hu
  rw[u7 ht]at hu
  split at hu
  ·rename_i e;rw[<-e,<-Option.some.inj hu];exact Env.dH _ _ _
  ·rename_i e
   show Env.get ((t,_)::_) u=_
   rw[Env.cP _ _ e]
   exact Env.nj E u d hu (hh u d hu)
 ·rw[q1]at hsim0
  refine⟨hsim0.defers,hsim0.size,fun u av hu=> ?_,hsim0.good⟩
  rw[Env.dD]at hu
  obtain⟨d,hd,rfl⟩:=Option.map_eq_some_iff.1 hu
  exact hsim0.slots u _ (by rw[Env.dD,hh0 u d (hkey u d hd)];rfl)
end
inductive An:Type 1
 |no
 |two (l r:An)
 |lp (γ:Type) (rd:St->Option γ) (pat:γ->St) (AQ:γ->Option γ) (body:An)
 |jn (γ:Type) (rd:St->Option γ) (pat:γ->St) (l r:An)
 |rb (fs:List Nat) (t:Nat)
def An.l:An->An
 | .two l _=>l
 | .jn _ _ _ l _=>l
 |_=> .no
def An.r:An->An
 | .two _ r=>r
 | .jn _ _ _ _ r=>r
 |_=> .no
abbrev XT:=An->(α:Type)->St->eW α->Option α
def apv{γ:Type}(b:Bool)(p q:γ):γ:=match b with
 |true=>p
 |false=>q
def kOn{γ:Type}(rd:St->Option γ):eW (Option γ):=fun e s=>match e with
 | .normal=>(rd s).map some
 |_=>some none
def afj{γ:Type}(rd:St->Option γ):eW γ:=fun e s=>match e with
 | .normal=>rd s
 |_=>none
def OR{γ α:Type}(rd:St->Option γ)(pat:γ->St)(c:Operand)(s:St)(x y:(α:Type)->St->eW α->Option α)(k:eW α):Option α:=match c with
 | .tmp t=>match cj s.E t with
  |some (.lit (.bool b))=>match x γ (s.ei t true) (afj rd)with
   |some p=>match y γ (s.ei t false) (afj rd)with
    |some q=>k .normal (pat (apv b p q))
    |none=>none
   |none=>none
  |_=>none
 |_=>none
def akX(P:Program)(F:aI)(n:Nat)(id:Nat)(ops:Array Oper)(draw:Bool):XT:=fun an _ s k=>match an with
 | .rb fs t=>match draw with
  |false=>G1 P F n fs t ops s k
  |true=>vw P F n id ops true s k
 |_=>vw P F n id ops draw s k
def aij(x y:XT):XT:=fun an α s k=>x an.l α s (YM (y an.r α) k)
def ad8(c:Operand)(x y:XT):XT:=fun an α s k=>match an with
 | .jn _ rd pat l r=>OR rd pat c s (x l) (y r) k
 |an=>oS c s (fun s=>x an.l α s k) (fun s=>y an.r α s k)
def WJ(id:Nat)(x:XT):XT:=fun an α s k=>x an α s (qJ id k)
def ag7(fuel:Nat)(x:XT):XT:=fun an α s k=>match an with
 | .lp _ rd pat AQ b=>match rd s with
  |some p=>match AQ p with
   |some q=>x b α (pat q) (Ey k fun _=>none)
   |none=>none
  |none=>none
 |an=>xM (x an α) k fuel s
def mM(P:Program)(F:aI)(n:Nat)(fuel:Nat)(c:Code):XT:=
 Code.rec (fun _ _ s k=>RT s k) (akX P F n) (fun _ _=>aij) (fun c _ _=>ad8 c) (fun id _=>WJ id) (fun _=>ag7 fuel) (fun _ _ _ _ _ _ _ _ s k=>zM s k) (fun i _ _ s k=>S8 i s k) (fun _ _ _ _ s k=>zM s k) (fun _ _ _ s k=>zM s k) (fun _ _ _ s k=>zM s k) (fun _ _ s k=>abS s k) (fun _ _ _ s k=>zM s k) c
def pP{γ:Type}(n0 n:Nat)(rd:St->Option γ)(pat:γ->St):Prop:=∀(C:Cg) s p a w,C.n=n0->rd s=some p->Mt C n s a w->Mt C n (pat p) a w
def LN{γ:Type}(x:XT)(rd:St->Option γ)(pat:γ->St)(b:An):Nat->γ->γ->Prop
 |0,p,q=>p=q
 |n+1,p,q=>∃p',x b (Option γ) (pat p) (kOn rd)=some (some p')/\LN x rd pat b n p' q
def Mu{γ:Type}(x:XT)(rd:St->Option γ)(pat:γ->St)(AQ:γ->Option γ)(b:An):Prop:=
 ∀p q,AQ p=some q->∃n,LN x rd pat b n p q
def GN(P:Program)(F:aI)(n0 n:Nat)(fuel:Nat)(c:Code):An->Prop:=
 Code.rec (fun _=>True) (fun _ _ _ an=>match an with
  | .rb fs _=>∀f∈fs,aV F f
  |_=>True) (fun _ _ x y an=>x an.l/\y an.r) (fun _ _ _ x y an=>(∀γ rd pat l r,an= .jn γ rd pat l r->pP n0 n rd pat)/\x an.l/\y an.r) (fun _ _ x=>x)
  (fun c x an=>match an with
   | .lp _ rd pat AQ b=>pP n0 n rd pat/\Mu (mM P F n fuel c) rd pat AQ b/\x b
   |an=>x an) (fun _ _ _ _ _ _ _=>True) (fun _ _=>True) (fun _ _ _=>True) (fun _ _=>True) (fun _ _=>True) (fun _=>True) (fun _ _=>True) c
section
variable {P:Program} {F:aI} {C:Cg} {n0 n:Nat}
theorem Pc(hF:gi P F)(hN:cS F)(hC:C.n=n0)(fuel:Nat)(c:Code):∀an,GN P F n0 n fuel c an->∀(α:Type),N2 (α:=α) P C n c (mM P F n fuel c an α):=by
 induction c with
 |skip=>exact fun an _ α r s k a w h hm=>wp_skip ⟨s,h,hm⟩
 |region id ops draw=>
  intro an ho α
  cases an with
  |rb fs t=>
   cases draw with
   |false=>exact Oj hF hN ho id t ops
   |true=>exact zm hF hN id ops true
  |_=>exact zm hF hN id ops draw
 |seq x y hx hy=>
  intro an ho α r s k a w h hm
  obtain⟨h1,h2⟩:GN P F n0 n fuel x an.l/\GN P F n0 n fuel y an.r:=ho
  refine wp_seq (wp_mono (hx an.l h1 α r s _ a w h hm) fun e a' w' ⟨s',g1,g2⟩=> ?_)
  cases e with
  |normal=>exact hy an.r h2 α r s' k a' w' g1 g2
  |_=>exact⟨s',g1,g2⟩
 |cond c x y hx hy=>
  intro an ho α r s k a w h hm
  obtain⟨h0,h1,h2⟩:(∀γ rd pat l r,an= .jn γ rd pat l r->pP n0 n rd pat)/\GN P F n0 n fuel x an.l/\GN P F n0 n fuel y an.r:=ho
  have plain:oS c s (fun s=>mM P F n fuel x an.l α s k) (fun s=>mM P F n fuel y an.r α s k)=some r->Ends P C n (.cond c x y) k r a w:=fun h=>by
   obtain⟨b,s',he,hm',h'⟩:=GC h hm
   cases b with
   |true=>exact wp_cond_true he (hx an.l h1 α r s' k a w h' hm')
   |false=>exact wp_cond_false he (hy an.r h2 α r s' k a w h' hm')
  cases an with
  |jn γ rd pat l r'=>
   have hrd:=h0 γ rd pat l r' rfl
   change OR rd pat c s (mM P F n fuel x l) (mM P F n fuel y r') k=some r at h
   unfold OR at h
   split at h
   case h_2=>cases h
   rename_i t
   split at h
   case h_2=>cases h
   rename_i b hb
   split at h
   case h_2=>cases h
   rename_i p hp
   split at h
   case h_2=>cases h
   rename_i q hq
   have hev:a.eval (.tmp t)= .bool b:=by
    obtain⟨E,hh,_,_,ρ,_,hs⟩:=hm
    refine Mq hs ?_
    have g1:=hh t _ hb
    show Env.get (E.sub ρ) t=_
    rw[Env.dD,g1,Option.map_some,bC]
   have fin:∀(p:γ),k .normal (pat p)=some r->∀e a' w',(∃s',afj rd e s'=some p/\Mt C n s' a' w')->∃s',k e s'=some r/\Mt C n s' a' w':=fun p hk e a' w' ⟨s',g1,g2⟩=>by
    cases e with
    |normal=>exact⟨_,hk,hrd C s' p a' w' hC g1 g2⟩
    |_=>cases g1
   cases b with
   |true=>exact wp_cond_true hev (wp_mono (hx l h1 γ p _ _ a w hp (hm.ei hb)) (fin p h))
   |false=>exact wp_cond_false hev (wp_mono (hy r' h2 γ q _ _ a w hq (hm.ei hb)) (fin q h))
  |_=>exact plain h
 |block id x hx=>
  intro an ho α r s k a w h hm
  refine wp_block (wp_mono (hx an ho α r s _ a w h hm) fun e a' w' ⟨s',h1,h2⟩=> ?_)
  cases e with
  |exit id'=>
   simp only[qJ]at h1
   simp only[Exit.inBlock]
   split
   ·rename_i he
    subst he
    have hb:Nat.beq id' id'=true:=Nat.beq_refl _
    simp only[hb]at h1
    exact⟨s',h1,h2⟩
   ·rename_i he
    have hb:Nat.beq id' id=false:=by
     cases hb:Nat.beq id' id with
     |false=>rfl
     |true=>exact absurd (Nat.eq_of_beq_eq_true hb) he
    simp only[hb]at h1
    exact⟨s',h1,h2⟩
  |_=>exact⟨s',h1,h2⟩
 |loop c hc=>
  intro an ho α r s k a w h hm
  cases an with
  |lp γ rd pat AQ b=>
   obtain⟨hrd,hadv,hb⟩:pP n0 n rd pat/\Mu (mM P F n fuel c) rd pat AQ b/\GN P F n0 n fuel c b:=ho
   change (match rd s with
    |some p=>match AQ p with
     |some q=>mM P F n fuel c b α (pat q) (Ey k fun _=>none)
     |none=>none
    |none=>none)=some r at h
   split at h
   case h_2=>cases h
   rename_i p hp
   split at h
   case h_2=>cases h
   rename_i q hq
   obtain⟨m,hgo⟩:=hadv p q hq
   have key:∀(m:Nat) (p:γ),LN (mM P F n fuel c) rd pat b m p q->∀(a:Act) (w:World),Mt C n (pat p) a w->
     c.wp P (Exit.then (InL P c fun e a' w'=>∃s',k e s'=some r/\Mt C n s' a' w') fun e a' w'=>∃s',k e s'=some r/\Mt C n s' a' w') a w:=by
    intro m
    induction m with
    |zero=>
     intro p hg a w hm
     have hg:p=q:=hg
     subst hg
     refine wp_mono (hc b hb α r _ _ a w h hm) fun e a' w' ⟨s',q1,q2⟩=> ?_
     cases e with
     |normal=>cases q1
     |_=>exact⟨s',q1,q2⟩
    |succ m ih=>
     intro p hg a w hm
     obtain⟨p',g1,g3⟩:=hg
     refine wp_mono (hc b hb (Option γ) (some p') _ _ a w g1 hm) fun e a' w' ⟨s',q1,q2⟩=> ?_
     cases e with
     |normal=>
      obtain⟨p'',q3,q4⟩:=Option.map_eq_some_iff.1 (show (rd s').map some=some (some p')from q1)
      cases q4
      exact Gd (ih p' g3 a' w' (hrd C s' p' a' w' hC q3 q2))
     |_=>cases q1
   exact AF (key m p hgo a w (hrd C s p a w hC hp hm))
  |_=>exact Az (hc _ ho α) fuel r s k a w h hm
 |exit i=>exact fun an _ α r s k a w h hm=>wp_exit ⟨s,h,hm⟩
 |ret=>exact fun an _ α r s k a w h hm=>wp_ret ⟨s,h,hm⟩
 |_=>exact fun an _ α r s k a w h hm=>by cases h
def bK(P:Program)(F:aI)(fuel:Nat)(an:An){α:Type}(f:FuncId)(args:List AV)(R:aP)(nx:Nat)(k:St->Option α):Option α:=match P.funcs[f]? with
 |some fn=>match fn.body with
  |some c=>match Nat.ble args.length fn.ntmps&& !(fn.name=="runtime.NumGoroutine")with
   |true=>mM P F fn.ntmps fuel c an α ⟨Gk 0 args .e,R,nx⟩ fun e s=>match e with
    | .normal=>k s
    | .ret=>k s
    |_=>none
   |false=>none
  |none=>none
 |none=>none
def eC(P:Program)(F:aI)(n0:Nat)(fuel:Nat)(f:FuncId)(an:An):Prop:=∀fn c,P.funcs[f]? =some fn->fn.body=some c->GN P F n0 fn.ntmps fuel c an
def zo(P:Program)(f:FuncId)(s:St):Option (List AV):=match P.funcs[f]? with
 |some fn=>zF P s fn.results.toList
 |none=>none
structure Out where
 d:AV
 R:aP
 c:Nat
def Mj(P:Program)(f:FuncId)(args:List AV)(R0:aP)(n0:Nat)(x:Out):Prop:=∀ρ:Gh,Fn P f (args.map (bL.sub ρ)) (aP.res ρ R0) (fun a s=>∃ρ':Gh,oV n0 ρ ρ'/\a=x.d.sub ρ'/\List.Perm s (aP.res ρ' x.R))
theorem nH(hF:aZ P F){n0 fuel:Nat}{f:FuncId}{an:An}(han:eC P F n0 fuel f an){args:List AV}{R0:aP}{γ:Type}{rd:St->Option γ}{pat:γ->St}{out:γ->Out}{p:γ}
  (hrd:∀n,pP n0 n rd pat) (ho:∀p,(match zo P f (pat p)with
   |some ds=>some (Out.mk (fG ds) (mO (pat p).R n0 (fG ds)) (pat p).nx)
   |none=>none)=some (out p))
  (hargs:∀d∈args,cg n0 d) (hR:aP.cg n0 R0) (h:bK P F fuel an f args R0 n0 rd=some p):uw P f/\Mj P f args R0 n0 (out p):=by
 unfold bK at h
 split at h
 case h_2=>cases h
 rename_i fn hf
 split at h
 case h_2=>cases h
 rename_i c hb
 split at h
 case h_2=>cases h
 rename_i hc
 rw[Bool.and_eq_true]at hc
 obtain⟨hl,hnm⟩:=hc
 have hop:=ho p
 split at hop
 case h_2=>cases hop
 rename_i ds hds
 have hds:zF P (pat p) fn.results.toList=some ds:=by
  unfold zo at hds
  rw[hf]at hds
  exact hds
 have hop:=Option.some.inj hop
 refine⟨⟨fn,hf,by simpa using hnm,by rw[hb];rfl⟩,fun ρ=>Fn.of hf hb rfl (by rw[List.length_map];exact hl) fun C a w ha=> ?_⟩
 have hm:Mt ⟨C,ρ,n0⟩ fn.ntmps ⟨Gk 0 args .e,R0,n0⟩ a w:=by
  refine⟨dF 0 args,?_,fun q hq=>hargs _ (nP hq),hR,ρ,⟨.refl _ _,Nat.le_refl _⟩,?_⟩
  ·have:=uB args 0 .e [] (fun t d ht=>by cases t<;>cases ht) (fun t d ht=>by cases t<;>cases ht)
   rwa [List.append_nil]at this
  ·rw[ni];exact ha
 refine wp_mono (Pc (C:=⟨C,ρ,n0⟩) hF.ok hF.nat rfl fuel c an (han fn c hf hb) γ p _ _ a w h hm) fun e a' w' ⟨s',h1,h2⟩=> ?_
 have fin:∀e:Exit,(e= .normal\/e= .ret)->rd s'=some p->∃E' σ',rZ C fn.ntmps E' σ' a' w'/\UI P C fn.ntmps fn (fun a s=>∃ρ':Gh,oV n0 ρ ρ'/\a=(out p).d.sub ρ'/\List.Perm s (aP.res ρ' (out p).R)) e E' σ':=fun e he hp=>by
  have hm':=hrd fn.ntmps ⟨C,ρ,n0⟩ s' p a' w' rfl hp h2
  obtain⟨E,hh,hE,hR,ρ',⟨hag,hnx⟩,hsim⟩:=hm'
  have hsub:List.Sublist (mO (pat p).R n0 (fG ds)) (pat p).R:=uv _ _ _
  refine⟨_,_,hsim,PE (σ':=aP.res ρ' (mO (pat p).R n0 (fG ds))) (av:=(fG ds).sub ρ') he (hsub.map _) ⟨ρ',hag,by rw[<-hop],by rw[<-hop]⟩ fun A w' tmps hd hs=> ?_⟩
  obtain⟨us,q1,q2⟩:=BZ hh hd hs hds
  refine⟨_,?_,Gt q2⟩
  show (do let vs <-fn.results.mapM (q9 tmps);pure (if h:vs.size=1 then vs[0]else .tuple vs):Sem Value).run P w'=_
  have e1:fn.results=fn.results.toList.toArray:=by simp
  rw[e1,List.mapM_toArray]
  simp[q1]
 cases e with
 |normal=>exact fin _ (.inl rfl) h1
 |ret=>exact fin _ (.inr rfl) h1
 |_=>cases h1
end
section
variable {γ:Type} (rnd:γ->Option (Option γ))
def jX:Nat->γ->γ->Prop
 |0,p,q=>p=q/\∀r,rnd p≠some (some r)
 |n+1,p,q=>∃p',rnd p=some (some p')/\jX n p' q
open Classical in
def bt(p:γ):Option γ:=if h:∃q n,jX rnd n p q then some (Classical.choose h)else none
variable {rnd}
theorem jX.det:∀{n m:Nat} {p q q':γ},jX rnd n p q->jX rnd m p q'->n=m/\q=q'
 |0,0,p,q,q',⟨h1,_⟩,⟨h2,_⟩=>⟨rfl,h1▸h2⟩
 |0,m+1,p,q,q',⟨h1,h3⟩,⟨p',h2,_⟩=>absurd h2 (h3 p')
 |n+1,0,p,q,q',⟨p',h2,_⟩,⟨h1,h3⟩=>absurd h2 (h3 p')
 |n+1,m+1,p,q,q',⟨p',h1,h2⟩,⟨p'',h3,h4⟩=>by
  rw[h1]at h3
  cases h3
  obtain⟨e1,e2⟩:=jX.det h2 h4
  exact⟨by rw[e1],e2⟩
theorem jX.AQ{n:Nat}{p q:γ}(h:jX rnd n p q):bt rnd p=some q:=by
 have hx:∃q n,jX rnd n p q:=⟨q,n,h⟩
 unfold bt
 rw[dif_pos hx]
 obtain⟨m,hm⟩:=Classical.choose_spec hx
 rw[(jX.det hm h).2]
theorem jX.last{n:Nat}{p q:γ}(h:jX rnd n p q):∀r,rnd q≠some (some r):=by
 induction n generalizing p with
 |zero=>obtain⟨h1,h2⟩:=h;rw[<-h1];exact h2
 |succ n ih=>obtain⟨p',_,h2⟩:=h;exact ih h2
theorem jX.ex(I:γ->Prop)(m:γ->Nat)(h:∀p q,I p->rnd p=some (some q)->I q/\m q<m p):∀(k:Nat) (p:γ),m p<=k->I p->∃n q,jX rnd n p q/\I q
 |k,p,hk,hp=>by
  by_cases hq:∃q,rnd p=some (some q)
  ·obtain⟨q,hq⟩:=hq
   obtain⟨h1,h2⟩:=h p q hp hq
   match k with
   |0=>omega
   |k+1=>
    obtain⟨n,r,h3,h4⟩:=jX.ex I m h k q (by omega) h1
    exact⟨n+1,r,⟨q,hq,h3⟩,h4⟩
  ·exact⟨0,p,⟨rfl,fun r hr=>hq ⟨r,hr⟩⟩,hp⟩
theorem tS{p q:γ}(h:bt rnd p=some q):∃n,jX rnd n p q:=by
 unfold bt at h
 split at h
 ·rename_i hx
  cases h
  exact Classical.choose_spec hx
 ·cases h
theorem jN(I:γ->Prop)(m:γ->Nat)(h:∀p q,I p->rnd p=some (some q)->I q/\m q<m p){p:γ}(hp:I p):∃q,bt rnd p=some q/\I q/\∀r,rnd q≠some (some r):=by
 obtain⟨n,q,h1,h2⟩:=jX.ex I m h (m p) p (Nat.le_refl _) hp
 exact⟨q,h1.AQ,h2,h1.last⟩
theorem bD{p p':γ}(h:rnd p=some (some p')):bt rnd p=bt rnd p':=by
 cases h2:bt rnd p' with
 |some q=>
  obtain⟨n,hn⟩:=tS h2
  exact(show jX rnd (n+1) p q from⟨p',h,hn⟩).AQ
 |none=>
  cases h1:bt rnd p with
  |none=>rfl
  |some q=>
   obtain⟨n,hn⟩:=tS h1
   cases n with
   |zero=>exact absurd h (hn.2 p')
   |succ n=>
    obtain⟨p'',h3,h4⟩:=hn
    rw[h]at h3
    cases h3
    rw[h4.AQ]at h2
    cases h2
theorem bU{p:γ}(h:∀r,rnd p≠some (some r)):bt rnd p=some p:=(show jX rnd 0 p p from⟨rfl,h⟩).AQ
theorem jX.x{x:XT}{rd:St->Option γ}{pat:γ->St}{b:An}(hx:∀p,x b (Option γ) (pat p) (kOn rd)=rnd p):∀{n:Nat} {p q:γ},jX rnd n p q->LN x rd pat b n p q
 |0,_,_,h=>h.1
 |_+1,_,_,⟨p',h1,h2⟩=>⟨p',by rw[hx];exact h1,jX.x hx h2⟩
theorem UR{x:XT}{rd:St->Option γ}{pat:γ->St}{b:An}(hx:∀p,x b (Option γ) (pat p) (kOn rd)=rnd p):Mu x rd pat (bt rnd) b:=fun p q h=>by
 obtain⟨n,hn⟩:=tS h
 exact⟨n,hn.x hx⟩
end
end Go.Iv
end
noncomputable section
namespace Go.Iv
variable [U:qz] [L:lY]
open Go Go.RowKit
section
variable {β γ δ:Type}
def PN(f:AV->Option β)(c:β->AV):Prop:=∀a b,f a=some b->(∀(ρ:Gh) A w v,Rel A w (a.sub ρ) v->Rel A w ((c b).sub ρ) v)/\∀n,cg n a->cg n (c b)
theorem PN.of{f:AV->Option β}{c:β->AV}(h:P1 f c)(hc:∀a b,f a=some b->zH 2 a=true)(hl:∀b,(∀ρ,(c b).sub ρ=c b)/\∀n,cg n (c b)):PN f c:=fun a b hb=>
 ⟨fun ρ A w v hr=>by rw[iL 2 (hc a b hb)]at hr;rw[(hl b).1];exact h a b hb A w v hr,fun n _=>(hl b).2 n⟩
theorem PN.i(k:IntKind):PN (gz k) (bL.n k):= .of (.i k) (fun a b h=>by
 unfold gz at h
 split at h
 ·rfl
 ·cases h) fun b=>⟨fun ρ=>bC ρ _,fun n=> .lit _⟩
theorem PN.b:PN NZ bL.b:= .of .b (fun a b h=>by
 unfold NZ at h
 split at h
 ·rfl
 ·cases h) fun b=>⟨fun ρ=>bC ρ _,fun n=> .lit _⟩
theorem PN.s:PN asS bL.s:= .of .s (fun a b h=>by
 unfold asS at h
 split at h
 ·rfl
 ·cases h) fun b=>⟨fun ρ=>bC ρ _,fun n=> .lit _⟩
theorem PN.l(t:Nat):PN (iC t) (bL.sl t):= .of (.l t) (fun a b h=>by
 unfold iC at h
 split at h
 ·rfl
 ·rfl
 ·cases h) fun b=>⟨fun ρ=>e9 ρ _ _,fun n=> .sl _ _⟩
def US(t:Nat):AV->Option (U.cE t)
 | .agg cs=>match cs.all (zH 1)with
  |true=>L.parse t cs
  |false=>none
 |_=>none
theorem PN.g(t:Nat):PN (US t) (fun x=> .agg (U.cells t x)):= .of (fun a b h A w v hr=>by
 unfold US at h
 split at h
 ·split at h
  ·obtain⟨us,rfl,h2⟩:=hr.lR
   exact Rel.mY (L.jU _ _ _ h A w us h2)
  ·cases h
 ·cases h) (fun a b h=>by
 unfold US at h
 split at h
 ·split at h
  ·rename_i hc;exact hc
  ·cases h
 ·cases h) fun b=>⟨fun ρ=>by rw[dG,L.clo],fun n=> .agg _ (L.o8 t b n)⟩
def asP(id off:Nat):AV->Option Unit
 | .ptr i o=>match Nat.beq i id&&Nat.beq o off with
  |true=>some ()
  |false=>none
 |_=>none
theorem PN.p(id off:Nat):PN (asP id off) (fun _=> .ptr id off):=fun a b h=>by
 unfold asP at h
 split at h
 ·split at h
  ·rename_i hc
   rw[Bool.and_eq_true]at hc
   rw[eV hc.1,eV hc.2]
   exact⟨fun _ _ _ _ h=>h,fun _ h=>h⟩
  ·cases h
 ·cases h
def asO(id:Nat):AV->Option Unit
 | .own i=>match Nat.beq i id with
  |true=>some ()
  |false=>none
 |_=>none
theorem PN.o(id:Nat):PN (asO id) (fun _=> .own id):=fun a b h=>by
 unfold asO at h
 split at h
 ·split at h
  ·rename_i hc
   rw[eV hc]
   exact⟨fun _ _ _ _ h=>h,fun _ h=>h⟩
  ·cases h
 ·cases h
def G0(q:List AV->Option γ)(c:γ->List AV):Prop:=∀cs g,q cs=some g->(∀(ρ:Gh) A w us,bk A w (cs.map (bL.sub ρ)) us->bk A w ((c g).map (bL.sub ρ)) us)/\∀n,(∀a∈cs,cg n a)->∀a∈c g,cg n a
theorem G0.nil:G0 nc (fun _=>[]):=fun cs g h=>by
 unfold nc at h
 split at h
 ·exact⟨fun ρ A w us hr=>hr,fun n h=>h⟩
 ·cases h
theorem G0.cons{f:AV->Option β}{c:β->AV}{q:List AV->Option γ}{d:γ->List AV}(h:PN f c)(hq:G0 q d):G0 (cM f q) (fun x=>c x.1::d x.2):=fun cs g hg=>by
 unfold cM at hg
 split at hg
 ·obtain⟨b,h1,hg⟩:=Option.bind_eq_some_iff.1 hg
  obtain⟨g',h2,rfl⟩:=Option.map_eq_some_iff.1 hg
  obtain⟨h3,h4⟩:=h _ _ h1
  obtain⟨h5,h6⟩:=hq _ _ h2
  refine⟨fun ρ A w us hr=> ?_,fun n hn a ha=> ?_⟩
  ·rw[List.map_cons]at hr ⊢
   obtain⟨v,us',rfl,h7,h8⟩:=hr.head
   exact bk.cons (h3 ρ A w v h7) (h5 ρ A w us' h8)
  ·rcases List.mem_cons.1 ha with rfl|ha
   ·exact h4 n (hn _ List.mem_cons_self)
   ·exact h6 n (fun a ha=>hn a (List.mem_cons_of_mem _ ha)) a ha
 ·cases hg
def agO(k:Nat)(q:List AV->Option γ):AV->Option γ
 | .fn (.func i) cs=>match Nat.beq i k with
  |true=>q cs
  |false=>none
 |_=>none
theorem PN.ff(k:Nat){q:List AV->Option γ}{c:γ->List AV}(h:G0 q c):PN (agO k q) (fun x=> .fn (.func k) (c x)):=fun a b hb=>by
 unfold agO at hb
 split at hb
 ·rename_i i cs
  split at hb
  ·rename_i hi
   have hi:=eV hi
   subst hi
   obtain⟨h1,h2⟩:=h _ _ hb
   refine⟨fun ρ A w v hr=> ?_,fun n hn=> .fn _ _ (h2 n hn.fnL)⟩
   rw[rf]at hr ⊢
   generalize ha:bL.fn (Fn.func i) (cs.map (bL.sub ρ))=a at hr
   cases hr with
   |fn f cs' us hl hr=>
    cases ha
    obtain⟨h3,h4⟩:=h1 ρ A w us ⟨hl,hr⟩
    exact .fn _ _ us h3 h4
   |_=>cases ha
  ·cases hb
 ·cases hb
def acP(q:List AV->Option γ):AV->Option γ
 | .fp cs=>q cs
 |_=>none
theorem PN.fp{q:List AV->Option γ}{c:γ->List AV}(h:G0 q c):PN (acP q) (fun x=> .fp (c x)):=fun a b hb=>by
 unfold acP at hb
 split at hb
 ·rename_i cs
  obtain⟨h1,h2⟩:=h _ _ hb
  refine⟨fun ρ A w v hr=> ?_,fun n hn=> ?_⟩
  ·rw[kE]at hr ⊢
   generalize ha:bL.fp (cs.map (bL.sub ρ))=a at hr
   cases hr with
   |fp cs' b o us hb hA hl hc hr=>
    cases ha
    obtain⟨h3,h4⟩:=h1 ρ A w us ⟨hl,hr⟩
    exact .fp _ b o us hb hA h3 hc h4
   |_=>cases ha
  ·generalize ha:bL.fp cs=a at hn
   cases hn with
   |fp cs' h5=>cases ha;exact .fp _ (h2 n h5)
   |_=>cases ha
 ·cases hb
def afH:AV->Option Unit
 | .lit (.slice none 0 0)=>some ()
 |_=>none
theorem PN.ns:PN afH (fun _=> .lit (.slice none 0 0)):=fun a b hb=>by
 unfold afH at hb
 split at hb
 ·exact⟨fun _ _ _ _ h=>h,fun _ h=>h⟩
 ·cases hb
def ags(t:Nat)(cs:List AV):Option (U.cE t):=match cs.all (zH 1)with
 |true=>L.parse t cs
 |false=>none
theorem G0.parse(t:Nat):G0 (ags t) (fun x=>U.cells t x):=fun cs g h=>by
 unfold ags at h
 split at h
 ·rename_i hc
  have e:∀ρ,cs.map (bL.sub ρ)=cs:=fun ρ=>by
   have:cs.map (bL.sub ρ)=cs.map id:=List.map_congr_left fun a ha=>iL 1 (List.all_eq_true.1 hc a ha)
   rw[this,List.map_id]
  exact⟨fun ρ A w us hr=>by rw[e]at hr;rw[L.clo];exact L.jU _ _ _ h A w us hr,fun n _=>L.o8 t g n⟩
 ·cases h
def slN(_:ET):Option Unit:=some ()
def slC(t:Nat)(f:AV->Option β)(q:ET->Option γ)(T:ET):Option (β×γ):=match cj T t with
 |some a=>(f a).bind fun b=>(q T).map fun g=>(b,g)
 |none=>none
def Jd(q:ET->Option γ)(d:γ->Env):Prop:=∀T g,q T=some g->∀(E:Env),rC T E->(∀(ρ:Gh) A w tmps,jM A w (E.sub ρ) tmps->jM A w ((d g).sub ρ) tmps)/\∀n,E.cg n->(d g).cg n
theorem Jd.nil:Jd slN (fun _=>[]):=fun T g _ E _=>⟨fun ρ A w tmps _ t av h=>(by cases h),fun n _ p hp=>(by cases hp)⟩
theorem Jd.cons{t:Nat}{f:AV->Option β}{c:β->AV}{q:ET->Option γ}{d:γ->Env}(hf:PN f c)(hq:Jd q d):Jd (slC t f q) (fun x=>(t,c x.1)::d x.2):=fun T g h E hh=>by
 unfold slC at h
 split at h
 case h_2=>cases h
 rename_i a ha
 obtain⟨b,hb,h⟩:=Option.bind_eq_some_iff.1 h
 obtain⟨g',hg,rfl⟩:=Option.map_eq_some_iff.1 h
 obtain⟨h1,h2⟩:=hf a b hb
 obtain⟨h3,h4⟩:=hq T g' hg E hh
 refine⟨fun ρ A w tmps hs s av hx=> ?_,fun n hn p hp=> ?_⟩
 ·have hx:Env.get ((t,(c b).sub ρ)::(d g').sub ρ) s=some av:=hx
  by_cases hts:t=s
  ·subst hts
   rw[Env.dH]at hx
   cases hx
   obtain⟨v,q1,q2⟩:=hs t (a.sub ρ) (by rw[Env.dD,hh t a ha];rfl)
   exact⟨v,q1,h1 ρ A w v q2⟩
  ·rw[Env.cP _ _ hts]at hx
   exact h3 ρ A w tmps hs s av hx
 ·rcases List.mem_cons.1 hp with rfl|hp
  ·exact h2 n (hn _ (Env.get_mem (hh t a ha)))
  ·exact h4 n hn p hp
def agc(E:Env):ET:=List.rec .e (fun p _ T=>kg p.1 p.2 T) E
theorem uK:∀E:Env,rC (agc E) E
 |[]=>fun t d h=>by cases t<;>cases h
 |p::E=>(uK E).put p.1 p.2
def leR(p p':Nat×IR):Prop:=p.1=p'.1/\(∀(ρ:Gh) A w,(p.2.res ρ p.1).ok A w->(p'.2.res ρ p'.1).ok A w)/\(∀ρ:Gh,(p.2.res ρ p.1).blk=(p'.2.res ρ p'.1).blk)/\∀n,p.2.cg n->p'.2.cg n
inductive C1:aP->aP->Prop
 |nil:C1 [] []
 |cons {p p':Nat×IR} {R R':aP} (h:leR p p') (hs:C1 R R'):C1 (p::R) (p'::R')
def rsN:aP->Option Unit
 |[]=>some ()
 |_=>none
def rsR(id t:Nat)(q:aP->Option γ):aP->Option (List (U.cE t)×γ)
 |(i, .row t' l)::R=>match Nat.beq i id with
  |true=>(tN t' t l).bind fun l=>(q R).map fun g=>(l,g)
  |false=>none
 |_=>none
def y7(q:aP->Option γ)(d:γ->aP):Prop:=∀R g,q R=some g->C1 R (d g)
theorem y7.nil:y7 rsN (fun _=>[]):=fun R g h=>by
 cases R with
 |nil=>exact .nil
 |cons p R=>cases h
theorem y7.row{id t:Nat}{q:aP->Option γ}{d:γ->aP}(hq:y7 q d):y7 (rsR id t q) (fun x=>(id, .row t x.1)::d x.2):=fun R g h=>by
 obtain⟨i,t',l,R',rfl,hcd,h9⟩:∃i t' l R',R=(i,IR.row t' l)::R'/\Nat.beq i id=true/\((tN t' t l).bind fun l=>(q R').map fun g=>(l,g))=some g:=by
  unfold rsR at h
  split at h
  ·split at h
   ·rename_i hcd;exact⟨_,_,_,_,rfl,hcd,h⟩
   ·cases h
  ·cases h
 have e1:=eV hcd
 subst e1
 obtain⟨l',hl,h9⟩:=Option.bind_eq_some_iff.1 h9
 obtain⟨g',hg,rfl⟩:=Option.map_eq_some_iff.1 h9
 obtain⟨rfl,rfl⟩:=kV hl
 exact .cons ⟨rfl,fun ρ A w h=>h,fun ρ=>rfl,fun n h=>h⟩ (hq _ _ hg)
def ad9(id T:Nat)(f:List AV->Option β)(q:aP->Option γ):aP->Option (β×γ)
 |(i, .box T' cs)::R=>match Nat.beq i id&&Nat.beq T' T with
  |true=>(f cs).bind fun b=>(q R).map fun g=>(b,g)
  |false=>none
 |_=>none
theorem y7.aqt{id T:Nat}{f:List AV->Option β}{c:β->List AV}{q:aP->Option γ}{d:γ->aP}(hf:G0 f c)(hq:y7 q d):y7 (ad9 id T f q) (fun x=>(id, .box T (c x.1))::d x.2):=fun R g h=>by
 obtain⟨i,T',cs,R',rfl,hcd,h9⟩:∃i T' cs R',R=(i,IR.box T' cs)::R'/\(Nat.beq i id&&Nat.beq T' T)=true/\((f cs).bind fun b=>(q R').map fun g=>(b,g))=some g:=by
  unfold ad9 at h
  split at h
  ·split at h
   ·rename_i hcd;exact⟨_,_,_,_,rfl,hcd,h⟩
   ·cases h
  ·cases h
 rw[Bool.and_eq_true]at hcd
 have e1:=eV hcd.1
 have e2:=eV hcd.2
 subst e1 e2
 obtain⟨b,hb,h9⟩:=Option.bind_eq_some_iff.1 h9
 obtain⟨g',hg,rfl⟩:=Option.map_eq_some_iff.1 h9
 obtain⟨k1,k2⟩:=hf _ _ hb
 exact .cons ⟨rfl,fun ρ A w ⟨us,h1,h2⟩=>⟨us,h1,k1 ρ A w us h2⟩,fun ρ=>rfl,fun n hn=>k2 n hn⟩ (hq _ _ hg)
theorem yz{ρ:Gh}:∀{R R':aP},C1 R R'->bg (aP.res ρ R)=bg (aP.res ρ R')
 |_,_, .nil=>rfl
 |_,_, .cons (p:=p) (p':=p') h hs=>by
  unfold bg aP.res
  rw[List.map_cons,List.map_cons,List.filterMap_cons,List.filterMap_cons,h.2.2.1 ρ]
  have:=yz (ρ:=ρ) hs
  unfold bg aP.res at this
  rw[this]
theorem HP{ρ:Gh}{A:Nat->Prop}{w:World}:∀{R R':aP},C1 R R'->(∀r∈aP.res ρ R,r.ok A w)->∀r∈aP.res ρ R',r.ok A w
 |_,_, .nil,_=>fun r hr=>by cases hr
 |_,_, .cons (p:=p) (p':=p') h hs,h0=>fun r hr=>by
  rcases List.mem_cons.1 hr with rfl|hr
  ·exact h.2.1 ρ A w (h0 _ List.mem_cons_self)
  ·exact HP hs (fun r hr=>h0 r (List.mem_cons_of_mem _ hr)) r hr
theorem LV{n:Nat}:∀{R R':aP},C1 R R'->aP.cg n R->aP.cg n R'
 |_,_, .nil,h=>h
 |_,_, .cons (p:=p) (p':=p') h hs,h0=>fun q hq=>by
  rcases List.mem_cons.1 hq with rfl|hq
  ·exact⟨by rw[<-h.1];exact(h0 _ List.mem_cons_self).1,h.2.2.2 n (h0 _ List.mem_cons_self).2⟩
  ·exact LV hs (fun q hq=>h0 q (List.mem_cons_of_mem _ hq)) q hq
def stR(m:Nat)(q:ET->Option γ)(r:aP->Option δ)(s:St):Option (γ×δ):=match Nat.beq s.nx m with
 |true=>(q s.E).bind fun g=>(r s.R).map fun h=>(g,h)
 |false=>none
def stP(m:Nat)(d:γ->Env)(e:δ->aP)(p:γ×δ):St:=⟨agc (d p.1),e p.2,m⟩
theorem agD{n0 n m:Nat}{q:ET->Option γ}{r:aP->Option δ}{d:γ->Env}{e:δ->aP}(hq:Jd q d)(hr:y7 r e):pP n0 n (stR m q r) (stP m d e):=fun C s p a w _ h hm=>by
 unfold stR at h
 split at h
 case h_2=>cases h
 rename_i hnx
 have hnx:=eV hnx
 obtain⟨g,hg,h⟩:=Option.bind_eq_some_iff.1 h
 obtain⟨g',hg',rfl⟩:=Option.map_eq_some_iff.1 h
 obtain⟨E,hh,hE,hR,ρ,hag,hsim⟩:=hm
 obtain⟨h1,h2⟩:=hq _ _ hg E hh
 have h3:=hr _ _ hg'
 have hb:bg (aP.res ρ (e g'))=bg (aP.res ρ s.R):=(yz h3).symm
 have hal:∀b,al C.C (aP.res ρ s.R) b->al C.C (aP.res ρ (e g')) b:=fun b hA=>⟨hA.1,by rw[hb];exact hA.2⟩
 subst hnx
 have hdis:(bg (aP.res ρ (e g'))).Nodup:=by rw[hb];exact hsim.good.Ac
 refine⟨d g,uK _,h2 _ hE,LV h3 hR,ρ,hag,hsim.defers.step (fun b _ hA=>⟨hal b hA,rfl⟩),hsim.size,fun t av ht=> ?_,hsim.good.kept,fun x hx=> ?_,hdis,fun b hx=>hsim.good.own b (by rw[<-hb];exact hx)⟩
 ·obtain⟨v,q1,q2⟩:=h1 ρ _ w a.tmps hsim.slots t av ht
  exact⟨v,q1,q2.mono fun b _ hA=>⟨hal b hA,rfl⟩⟩
 ·exact(HP h3 hsim.good.res x hx).mono (fun b _ hA=>⟨hal b hA,rfl⟩) (fun _ _=>rfl)
end
def rdM{γ γ':Type}(e:γ->γ')(rd:St->Option γ)(s:St):Option γ':=match rd s with
 |some p=>some (e p)
 |none=>none
theorem pP.m{γ γ':Type}{n0 n:Nat}{rd:St->Option γ}{pat:γ->St}(h:pP n0 n rd pat)(e:γ->γ'){pat':γ'->St}(he:∀p,pat' (e p)=pat p):pP n0 n (rdM e rd) pat':=fun C s p a w hC hr hm=>by
 unfold rdM at hr
 split at hr
 ·rename_i p' hp
  cases hr
  rw[he]
  exact h C s p' a w hC hp hm
 ·cases hr
def adj(c:Code):An->List (Code×An):=
 Code.rec (fun _=>[]) (fun _ _ _ an=>match an with
   | .rb fs t=>[(.skip, .rb fs t)]
   |_=>[]) (fun _ _ x y an=>x an.l++y an.r) (fun _ _ _ x y an=>(match an with
   | .jn γ rd pat l r=>[(.skip, .jn γ rd pat l r)]
   |_=>[])++(x an.l++y an.r)) (fun _ _ x=>x)
  (fun c x an=>match an with
   | .lp γ rd pat AQ b=>(c, .lp γ rd pat AQ b)::x b
   |an=>x an) (fun _ _ _ _ _ _ _=>[]) (fun _ _=>[]) (fun _ _ _=>[]) (fun _ _=>[]) (fun _ _=>[]) (fun _=>[]) (fun _ _=>[]) c
def ME(P:Program)(F:aI)(n0 n:Nat)(fuel:Nat)(p:Code×An):Prop:=match p.2 with
 | .lp _ rd pat AQ b=>pP n0 n rd pat/\Mu (mM P F n fuel p.1) rd pat AQ b
 | .jn _ rd pat _ _=>pP n0 n rd pat
 | .rb fs _=>∀f∈fs,aV F f
 |_=>True
theorem Wk{P:Program}{F:aI}{n0 n fuel:Nat}(c:Code):∀an,(∀p∈adj c an,ME P F n0 n fuel p)->GN P F n0 n fuel c an:=by
 induction c with
 |region id ops draw=>
  intro an h
  cases an with
  |rb fs t=>exact h (.skip, .rb fs t) (List.mem_singleton.2 rfl)
  |_=>exact trivial
 |seq x y hx hy=>
  intro an h
  exact⟨hx an.l fun p hp=>h p (List.mem_append_left _ hp),hy an.r fun p hp=>h p (List.mem_append_right _ hp)⟩
 |cond c x y hx hy=>
  intro an h
  refine⟨fun γ rd pat l r he=> ?_,hx an.l fun p hp=>h p (List.mem_append_right _ (List.mem_append_left _ hp)),hy an.r fun p hp=>h p (List.mem_append_right _ (List.mem_append_right _ hp))⟩
  subst he
  exact h (.skip, .jn γ rd pat l r) (List.mem_append_left _ (List.mem_singleton.2 rfl))
 |block id x hx=>exact fun an h=>hx an h
 |loop c hc=>
  intro an h
  cases an with
  |lp γ rd pat AQ b=>
   have h0:=h (c, .lp γ rd pat AQ b) List.mem_cons_self
   exact⟨h0.1,h0.2,hc b fun p hp=>h p (List.mem_cons_of_mem _ hp)⟩
  |no=>exact hc _ h
  |two l r=>exact hc _ h
  |jn γ rd pat l r=>exact hc _ h
  |rb fs t=>exact hc _ h
 |_=>exact fun an h=>trivial
theorem bT{P:Program}{F:aI}{n0 fuel f:Nat}{fn:Func}{c:Code}{an:An}{l:List (Code×An)}(hf:P.funcs[f]? =some fn)(hb:fn.body=some c)(ho:adj c an=l)(h:∀p∈l,ME P F n0 fn.ntmps fuel p):eC P F n0 fuel f an:=fun fn' c' h1 h2=>by
 rw[hf]at h1
 cases h1
 rw[hb]at h2
 cases h2
 exact Wk c an (by rw[ho];exact h)
def B8(fn:Func):Code:=match fn.body with
 |some c=>c
 |none=> .skip
theorem bA{fn:Func}(h:fn.body.isNone=false):fn.body=some (B8 fn):=by
 unfold B8
 cases hb:fn.body with
 |none=>rw[hb]at h;cases h
 |some c=>rfl
def Wy(c:Code):List Code:=Code.rec [] (fun _ _ _=>[]) (fun _ _ x y=>x++y) (fun _ _ _ x y=>x++y) (fun _ _ x=>x) (fun c x=>c::x) (fun _ _ _ _ _ _=>[]) (fun _=>[]) (fun _ _=>[]) (fun _=>[]) (fun _=>[]) [] (fun _=>[]) c
def aS(fn:Func)(i:Nat):Code:=(Wy (B8 fn)).getD i .skip
end Go.Iv
end
noncomputable section
namespace Go.Proofs.YtnfljbehcffmcaaGreat
open Go Go.Iv
structure aq where
 aW:Int
 fN:Int
 aj:List aq
instance:Inhabited aq:=⟨⟨0,0,[]⟩⟩
structure GStep where
 bG:Int
 aL:Int
 cC:Int
 fN:Int
 au:aq
 aH:List GStep
 aJ:List GStep
 aG:List Int
instance:Inhabited GStep:=⟨⟨0,0,0,0,⟨0,0,[]⟩,[],[],[]⟩⟩
structure aN where
 fName:ByteArray
 bf:Int
 aa:Int
 af:Int
 cW:Int
 deriving Inhabited,DecidableEq
structure cy where
 fName:ByteArray
 aa:Int
 af:Int
 au:aq
 deriving Inhabited
structure Flat where
 ah:List aN
 ai:List cy
 bw:List GStep
 deriving Inhabited
structure View where
 aR:List Int
 rR:Bool
 deriving Inhabited,DecidableEq
structure aD where
 aa:Int
 af:Int
 ag:Int
 deriving Inhabited,DecidableEq
structure Abstract where
 ay:aD
 az:List aD
 aB:aD
 uJ:List aD
 deriving Inhabited,DecidableEq
structure bh where
 bF:List Int
 aB:Int
 deriving Inhabited,DecidableEq
structure kH where
 Dv:List Int
 aR:List Int
 Bb:List Int
 deriving Inhabited,DecidableEq
structure lN where
 Cs:List Int
 bF:List Int
 aB:Int
 deriving Inhabited,DecidableEq
structure Cell where
 xD:Int
 fAt:Int
 aj:List Int
 z7:List Int
 Kh:Int
 deriving Inhabited,DecidableEq
structure ia where
 z7:List bh
 HF:List Cell
 deriving Inhabited,DecidableEq
structure Part where
 xD:Int
 fAt:Int
 aj:List Int
 aeb:List aD
 deriving Inhabited,DecidableEq
structure ak where
 ah:List aD
 ay:aD
 az:List aD
 aB:aD
 deriving Inhabited,DecidableEq
structure Runner where
 fF:Flat
 ai:List aD
 deriving Inhabited
structure aA where
 ah:List aD
 ay:aD
 az:List aD
 aB:aD
 deriving Inhabited,DecidableEq
structure vp where
 aeb:List aD
 xD:Int
 fAt:Int
 aj:List Int
 Kh:Int
 Y1:Bool
 z7:bh
 deriving Inhabited,DecidableEq
structure Tree where
 fF:Flat
 fV:View
 HF:List vp
 deriving Inhabited
structure aM where
 aX:Int
 dR:Bool
 deriving Inhabited,DecidableEq
structure nO where
 ek:Int
 bF:Int
 aB:Int
 deriving Inhabited,DecidableEq
structure Machine where
 fF:Flat
 Cs:List Int
 ai:List Int
 bF:List Int
 aB:Int
 deriving Inhabited
structure Span where
 aa:Int
 af:Int
 deriving Inhabited,DecidableEq
inductive Ky
 |k3
 |k4
 |k5
 |k24
 |k26
 |k27
 |k29
 |k30
 |k34
 |k36
 |k37
 |k47
 |k52
 |k56
 |k84
 |k90
 |k117
 |k128
 |k129
 |k131
 |k133
 |k137
 |k139
 |k147
 |k166
 |k172
 |k174
 |k256
 |k260
 |k313
 |k331
 |no
def ky:Nat->Ky
 |3=> .k3
 |4=> .k4
 |5=> .k5
 |24=> .k24
 |26=> .k26
 |27=> .k27
 |29=> .k29
 |30=> .k30
 |34=> .k34
 |36=> .k36
 |37=> .k37
 |47=> .k47
 |52=> .k52
 |56=> .k56
 |84=> .k84
 |90=> .k90
 |117=> .k117
 |128=> .k128
 |129=> .k129
 |131=> .k131
 |133=> .k133
 |137=> .k137
 |139=> .k139
 |147=> .k147
 |166=> .k166
 |172=> .k172
 |174=> .k174
 |256=> .k256
 |260=> .k260
 |313=> .k313
 |331=> .k331
 |_=> .no
def wV:Ky->Type
 | .k3=>Int
 | .k4=>Bool
 | .k5=>Int
 | .k24=>List GStep
 | .k26=>Flat
 | .k27=>List Int
 | .k29=>View
 | .k30=>List aD
 | .k34=>aD
 | .k36=>Abstract
 | .k37=>Int
 | .k47=>bh
 | .k52=>kH
 | .k56=>lN
 | .k84=>ia
 | .k90=>Part
 | .k117=>Cell
 | .k128=>ak
 | .k129=>Int
 | .k131=>aN
 | .k133=>Runner
 | .k137=>aq
 | .k139=>cy
 | .k147=>aA
 | .k166=>GStep
 | .k172=>Tree
 | .k174=>vp
 | .k256=>aM
 | .k260=>nO
 | .k313=>Machine
 | .k331=>Span
 | .no=>Unit
abbrev bP(t:Nat):Type:=wV (ky t)
@[reducible] def inhK:(k:Ky)->Inhabited (wV k)
 | .k3=>⟨(default:Int)⟩
 | .k4=>⟨(default:Bool)⟩
 | .k5=>⟨(default:Int)⟩
 | .k24=>⟨(default:List GStep)⟩
 | .k26=>⟨(default:Flat)⟩
 | .k27=>⟨(default:List Int)⟩
 | .k29=>⟨(default:View)⟩
 | .k30=>⟨(default:List aD)⟩
 | .k34=>⟨(default:aD)⟩
 | .k36=>⟨(default:Abstract)⟩
 | .k37=>⟨(default:Int)⟩
 | .k47=>⟨(default:bh)⟩
 | .k52=>⟨(default:kH)⟩
 | .k56=>⟨(default:lN)⟩
 | .k84=>⟨(default:ia)⟩
 | .k90=>⟨(default:Part)⟩
 | .k117=>⟨(default:Cell)⟩
 | .k128=>⟨(default:ak)⟩
 | .k129=>⟨(default:Int)⟩
 | .k131=>⟨(default:aN)⟩
 | .k133=>⟨(default:Runner)⟩
 | .k137=>⟨(default:aq)⟩
 | .k139=>⟨(default:cy)⟩
 | .k147=>⟨(default:aA)⟩
 | .k166=>⟨(default:GStep)⟩
 | .k172=>⟨(default:Tree)⟩
 | .k174=>⟨(default:vp)⟩
 | .k256=>⟨(default:aM)⟩
 | .k260=>⟨(default:nO)⟩
 | .k313=>⟨(default:Machine)⟩
 | .k331=>⟨(default:Span)⟩
 | .no=>⟨()⟩
def szK:Ky->Nat
 | .k3=>1
 | .k4=>1
 | .k5=>1
 | .k24=>1
 | .k26=>3
 | .k27=>1
 | .k29=>2
 | .k30=>1
 | .k34=>3
 | .k36=>8
 | .k37=>1
 | .k47=>2
 | .k52=>3
 | .k56=>3
 | .k84=>2
 | .k90=>4
 | .k117=>5
 | .k128=>8
 | .k129=>1
 | .k131=>5
 | .k133=>4
 | .k137=>3
 | .k139=>6
 | .k147=>8
 | .k166=>10
 | .k172=>6
 | .k174=>8
 | .k256=>2
 | .k260=>3
 | .k313=>7
 | .k331=>2
 | .no=>0
def mj:(k:Ky)->wV k->List (bL bP)
 | .k3,x=>(fun x:Int=>[.n .i64 x]) x
 | .k4,x=>(fun x:Bool=>[.b x]) x
 | .k5,x=>(fun x:Int=>[.n .u8 x]) x
 | .k24,x=>(fun x:List GStep=>[.sl 166 x]) x
 | .k26,x=>(fun x:Flat=>[.sl 131 x.ah, .sl 139 x.ai, .sl 166 x.bw]) x
 | .k27,x=>(fun x:List Int=>[.sl 3 x]) x
 | .k29,x=>(fun x:View=>[.sl 3 x.aR, .b x.rR]) x
 | .k30,x=>(fun x:List aD=>[.sl 34 x]) x
 | .k34,x=>(fun x:aD=>[.n .i64 x.aa, .n .i64 x.af, .n .i64 x.ag]) x
 | .k36,x=>(fun x:Abstract=>[.n .i64 x.ay.aa, .n .i64 x.ay.af, .n .i64 x.ay.ag, .sl 34 x.az, .n .i64 x.aB.aa, .n .i64 x.aB.af, .n .i64 x.aB.ag, .sl 34 x.uJ]) x
 | .k37,x=>(fun x:Int=>[.n .i64 x]) x
 | .k47,x=>(fun x:bh=>[.sl 3 x.bF, .n .i64 x.aB]) x
 | .k52,x=>(fun x:kH=>[.sl 3 x.Dv, .sl 3 x.aR, .sl 3 x.Bb]) x
 | .k56,x=>(fun x:lN=>[.sl 3 x.Cs, .sl 3 x.bF, .n .i64 x.aB]) x
 | .k84,x=>(fun x:ia=>[.sl 47 x.z7, .sl 117 x.HF]) x
 | .k90,x=>(fun x:Part=>[.n .i64 x.xD, .n .i64 x.fAt, .sl 3 x.aj, .sl 34 x.aeb]) x
 | .k117,x=>(fun x:Cell=>[.n .i64 x.xD, .n .i64 x.fAt, .sl 3 x.aj, .sl 3 x.z7, .n .i64 x.Kh]) x
 | .k128,x=>(fun x:ak=>[.sl 34 x.ah, .n .i64 x.ay.aa, .n .i64 x.ay.af, .n .i64 x.ay.ag, .sl 34 x.az, .n .i64 x.aB.aa, .n .i64 x.aB.af, .n .i64 x.aB.ag]) x
 | .k129,x=>(fun x:Int=>[.n .i64 x]) x
 | .k131,x=>(fun x:aN=>[.s x.fName, .n .i64 x.bf, .n .i64 x.aa, .n .i64 x.af, .n .i64 x.cW]) x
 | .k133,x=>(fun x:Runner=>[.sl 131 x.fF.ah, .sl 139 x.fF.ai, .sl 166 x.fF.bw, .sl 34 x.ai]) x
 | .k137,x=>(fun x:aq=>[.n .i64 x.aW, .n .i64 x.fN, .sl 137 x.aj]) x
 | .k139,x=>(fun x:cy=>[.s x.fName, .n .i64 x.aa, .n .i64 x.af, .n .i64 x.au.aW, .n .i64 x.au.fN, .sl 137 x.au.aj]) x
 | .k147,x=>(fun x:aA=>[.sl 34 x.ah, .n .i64 x.ay.aa, .n .i64 x.ay.af, .n .i64 x.ay.ag, .sl 34 x.az, .n .i64 x.aB.aa, .n .i64 x.aB.af, .n .i64 x.aB.ag]) x
 | .k166,x=>(fun x:GStep=>[.n .i64 x.bG, .n .i64 x.aL, .n .i64 x.cC, .n .i64 x.fN, .n .i64 x.au.aW, .n .i64 x.au.fN, .sl 137 x.au.aj, .sl 166 x.aH, .sl 166 x.aJ, .sl 3 x.aG]) x
 | .k172,x=>(fun x:Tree=>[.sl 131 x.fF.ah, .sl 139 x.fF.ai, .sl 166 x.fF.bw, .sl 3 x.fV.aR, .b x.fV.rR, .sl 174 x.HF]) x
 | .k174,x=>(fun x:vp=>[.sl 34 x.aeb, .n .i64 x.xD, .n .i64 x.fAt, .sl 3 x.aj, .n .i64 x.Kh, .b x.Y1, .sl 3 x.z7.bF, .n .i64 x.z7.aB]) x
 | .k256,x=>(fun x:aM=>[.n .i64 x.aX, .b x.dR]) x
 | .k260,x=>(fun x:nO=>[.n .i64 x.ek, .n .i64 x.bF, .n .i64 x.aB]) x
 | .k313,x=>(fun x:Machine=>[.sl 131 x.fF.ah, .sl 139 x.fF.ai, .sl 166 x.fF.bw, .sl 3 x.Cs, .sl 3 x.ai, .sl 3 x.bF, .n .i64 x.aB]) x
 | .k331,x=>(fun x:Span=>[.n .i64 x.aa, .n .i64 x.af]) x
 | .no,_=>[]
instance uni:qz:=⟨bP,fun t=>inhK (ky t),fun t=>szK (ky t),fun t=>mj (ky t)⟩
def PJ:(k:Ky)->List AV->Option (wV k)
 | .k3=>fun cs=>((cM (gz .i64) nc) cs).map (fun g:Int×Unit=>(g.1:Int))
 | .k4=>fun cs=>((cM NZ nc) cs).map (fun g:Bool×Unit=>(g.1:Bool))
 | .k5=>fun cs=>((cM (gz .u8) nc) cs).map (fun g:Int×Unit=>(g.1:Int))
 | .k24=>fun cs=>((cM (iC 166) nc) cs).map (fun g:(List (bP 166))×Unit=>(g.1:List GStep))
 | .k26=>fun cs=>((cM (iC 131) (cM (iC 139) (cM (iC 166) nc))) cs).map (fun g:(List (bP 131))×(List (bP 139))×(List (bP 166))×Unit=>((Flat.mk g.1 g.2.1 g.2.2.1):Flat))
 | .k27=>fun cs=>((cM (iC 3) nc) cs).map (fun g:(List (bP 3))×Unit=>(g.1:List Int))
 | .k29=>fun cs=>((cM (iC 3) (cM NZ nc)) cs).map (fun g:(List (bP 3))×Bool×Unit=>((View.mk g.1 g.2.1):View))
 | .k30=>fun cs=>((cM (iC 34) nc) cs).map (fun g:(List (bP 34))×Unit=>(g.1:List aD))
 | .k34=>fun cs=>((cM (gz .i64) (cM (gz .i64) (cM (gz .i64) nc))) cs).map (fun g:Int×Int×Int×Unit=>((aD.mk g.1 g.2.1 g.2.2.1):aD))
 | .k36=>fun cs=>((cM (gz .i64) (cM (gz .i64) (cM (gz .i64) (cM (iC 34) (cM (gz .i64) (cM (gz .i64) (cM (gz .i64) (cM (iC 34) nc)))))))) cs).map (fun g:Int×Int×Int×(List (bP 34))×Int×Int×Int×(List (bP 34))×Unit=>((Abstract.mk (aD.mk g.1 g.2.1 g.2.2.1) g.2.2.2.1 (aD.mk g.2.2.2.2.1 g.2.2.2.2.2.1 g.2.2.2.2.2.2.1) g.2.2.2.2.2.2.2.1):Abstract))
 | .k37=>fun cs=>((cM (gz .i64) nc) cs).map (fun g:Int×Unit=>(g.1:Int))
 | .k47=>fun cs=>((cM (iC 3) (cM (gz .i64) nc)) cs).map (fun g:(List (bP 3))×Int×Unit=>((bh.mk g.1 g.2.1):bh))
 | .k52=>fun cs=>((cM (iC 3) (cM (iC 3) (cM (iC 3) nc))) cs).map (fun g:(List (bP 3))×(List (bP 3))×(List (bP 3))×Unit=>((kH.mk g.1 g.2.1 g.2.2.1):kH))
 | .k56=>fun cs=>((cM (iC 3) (cM (iC 3) (cM (gz .i64) nc))) cs).map (fun g:(List (bP 3))×(List (bP 3))×Int×Unit=>((lN.mk g.1 g.2.1 g.2.2.1):lN))
 | .k84=>fun cs=>((cM (iC 47) (cM (iC 117) nc)) cs).map (fun g:(List (bP 47))×(List (bP 117))×Unit=>((ia.mk g.1 g.2.1):ia))
 | .k90=>fun cs=>((cM (gz .i64) (cM (gz .i64) (cM (iC 3) (cM (iC 34) nc)))) cs).map (fun g:Int×Int×(List (bP 3))×(List (bP 34))×Unit=>((Part.mk g.1 g.2.1 g.2.2.1 g.2.2.2.1):Part))
 | .k117=>fun cs=>((cM (gz .i64) (cM (gz .i64) (cM (iC 3) (cM (iC 3) (cM (gz .i64) nc))))) cs).map (fun g:Int×Int×(List (bP 3))×(List (bP 3))×Int×Unit=>((Cell.mk g.1 g.2.1 g.2.2.1 g.2.2.2.1 g.2.2.2.2.1):Cell))
 | .k128=>fun cs=>((cM (iC 34) (cM (gz .i64) (cM (gz .i64) (cM (gz .i64) (cM (iC 34) (cM (gz .i64) (cM (gz .i64) (cM (gz .i64) nc)))))))) cs).map (fun g:(List (bP 34))×Int×Int×Int×(List (bP 34))×Int×Int×Int×Unit=>((ak.mk g.1 (aD.mk g.2.1 g.2.2.1 g.2.2.2.1) g.2.2.2.2.1 (aD.mk g.2.2.2.2.2.1 g.2.2.2.2.2.2.1 g.2.2.2.2.2.2.2.1)):ak))
 | .k129=>fun cs=>((cM (gz .i64) nc) cs).map (fun g:Int×Unit=>(g.1:Int))
 | .k131=>fun cs=>((cM asS (cM (gz .i64) (cM (gz .i64) (cM (gz .i64) (cM (gz .i64) nc))))) cs).map (fun g:ByteArray×Int×Int×Int×Int×Unit=>((aN.mk g.1 g.2.1 g.2.2.1 g.2.2.2.1 g.2.2.2.2.1):aN))
 | .k133=>fun cs=>((cM (iC 131) (cM (iC 139) (cM (iC 166) (cM (iC 34) nc)))) cs).map (fun g:(List (bP 131))×(List (bP 139))×(List (bP 166))×(List (bP 34))×Unit=>((Runner.mk (Flat.mk g.1 g.2.1 g.2.2.1) g.2.2.2.1):Runner))
 | .k137=>fun cs=>((cM (gz .i64) (cM (gz .i64) (cM (iC 137) nc))) cs).map (fun g:Int×Int×(List (bP 137))×Unit=>((aq.mk g.1 g.2.1 g.2.2.1):aq))
 | .k139=>fun cs=>((cM asS (cM (gz .i64) (cM (gz .i64) (cM (gz .i64) (cM (gz .i64) (cM (iC 137) nc)))))) cs).map (fun g:ByteArray×Int×Int×Int×Int×(List (bP 137))×Unit=>((cy.mk g.1 g.2.1 g.2.2.1 (aq.mk g.2.2.2.1 g.2.2.2.2.1 g.2.2.2.2.2.1)):cy))
 | .k147=>fun cs=>((cM (iC 34) (cM (gz .i64) (cM (gz .i64) (cM (gz .i64) (cM (iC 34) (cM (gz .i64) (cM (gz .i64) (cM (gz .i64) nc)))))))) cs).map (fun g:(List (bP 34))×Int×Int×Int×(List (bP 34))×Int×Int×Int×Unit=>((aA.mk g.1 (aD.mk g.2.1 g.2.2.1 g.2.2.2.1) g.2.2.2.2.1 (aD.mk g.2.2.2.2.2.1 g.2.2.2.2.2.2.1 g.2.2.2.2.2.2.2.1)):aA))
 | .k166=>fun cs=>((cM (gz .i64) (cM (gz .i64) (cM (gz .i64) (cM (gz .i64) (cM (gz .i64) (cM (gz .i64) (cM (iC 137) (cM (iC 166) (cM (iC 166) (cM (iC 3) nc)))))))))) cs).map (fun g:Int×Int×Int×Int×Int×Int×(List (bP 137))×(List (bP 166))×(List (bP 166))×(List (bP 3))×Unit=>((GStep.mk g.1 g.2.1 g.2.2.1 g.2.2.2.1 (aq.mk g.2.2.2.2.1 g.2.2.2.2.2.1 g.2.2.2.2.2.2.1) g.2.2.2.2.2.2.2.1 g.2.2.2.2.2.2.2.2.1 g.2.2.2.2.2.2.2.2.2.1):GStep))
 | .k172=>fun cs=>((cM (iC 131) (cM (iC 139) (cM (iC 166) (cM (iC 3) (cM NZ (cM (iC 174) nc)))))) cs).map (fun g:(List (bP 131))×(List (bP 139))×(List (bP 166))×(List (bP 3))×Bool×(List (bP 174))×Unit=>((Tree.mk (Flat.mk g.1 g.2.1 g.2.2.1) (View.mk g.2.2.2.1 g.2.2.2.2.1) g.2.2.2.2.2.1):Tree))
 | .k174=>fun cs=>((cM (iC 34) (cM (gz .i64) (cM (gz .i64) (cM (iC 3) (cM (gz .i64) (cM NZ (cM (iC 3) (cM (gz .i64) nc)))))))) cs).map (fun g:(List (bP 34))×Int×Int×(List (bP 3))×Int×Bool×(List (bP 3))×Int×Unit=>((vp.mk g.1 g.2.1 g.2.2.1 g.2.2.2.1 g.2.2.2.2.1 g.2.2.2.2.2.1 (bh.mk g.2.2.2.2.2.2.1 g.2.2.2.2.2.2.2.1)):vp))
 | .k256=>fun cs=>((cM (gz .i64) (cM NZ nc)) cs).map (fun g:Int×Bool×Unit=>((aM.mk g.1 g.2.1):aM))
 | .k260=>fun cs=>((cM (gz .i64) (cM (gz .i64) (cM (gz .i64) nc))) cs).map (fun g:Int×Int×Int×Unit=>((nO.mk g.1 g.2.1 g.2.2.1):nO))
 | .k313=>fun cs=>((cM (iC 131) (cM (iC 139) (cM (iC 166) (cM (iC 3) (cM (iC 3) (cM (iC 3) (cM (gz .i64) nc))))))) cs).map (fun g:(List (bP 131))×(List (bP 139))×(List (bP 166))×(List (bP 3))×(List (bP 3))×(List (bP 3))×Int×Unit=>((Machine.mk (Flat.mk g.1 g.2.1 g.2.2.1) g.2.2.2.1 g.2.2.2.2.1 g.2.2.2.2.2.1 g.2.2.2.2.2.2.1):Machine))
 | .k331=>fun cs=>((cM (gz .i64) (cM (gz .i64) nc)) cs).map (fun g:Int×Int×Unit=>((Span.mk g.1 g.2.1):Span))
 | .no=>fun _=>none
theorem OC:(k:Ky)->Pk (PJ k) (mj k)
 | .k3=>Pk.map (fun g:Int×Unit=>(g.1:Int)) (.cons (.i .i64) .nil) (fun _=>rfl)
 | .k4=>Pk.map (fun g:Bool×Unit=>(g.1:Bool)) (.cons .b .nil) (fun _=>rfl)
 | .k5=>Pk.map (fun g:Int×Unit=>(g.1:Int)) (.cons (.i .u8) .nil) (fun _=>rfl)
 | .k24=>Pk.map (fun g:(List (bP 166))×Unit=>(g.1:List GStep)) (.cons (.l 166) .nil) (fun _=>rfl)
 | .k26=>Pk.map (fun g:(List (bP 131))×(List (bP 139))×(List (bP 166))×Unit=>((Flat.mk g.1 g.2.1 g.2.2.1):Flat)) (.cons (.l 131) (.cons (.l 139) (.cons (.l 166) .nil))) (fun _=>rfl)
 | .k27=>Pk.map (fun g:(List (bP 3))×Unit=>(g.1:List Int)) (.cons (.l 3) .nil) (fun _=>rfl)
 | .k29=>Pk.map (fun g:(List (bP 3))×Bool×Unit=>((View.mk g.1 g.2.1):View)) (.cons (.l 3) (.cons .b .nil)) (fun _=>rfl)
 | .k30=>Pk.map (fun g:(List (bP 34))×Unit=>(g.1:List aD)) (.cons (.l 34) .nil) (fun _=>rfl)
 | .k34=>Pk.map (fun g:Int×Int×Int×Unit=>((aD.mk g.1 g.2.1 g.2.2.1):aD)) (.cons (.i .i64) (.cons (.i .i64) (.cons (.i .i64) .nil))) (fun _=>rfl)
 | .k36=>Pk.map (fun g:Int×Int×Int×(List (bP 34))×Int×Int×Int×(List (bP 34))×Unit=>((Abstract.mk (aD.mk g.1 g.2.1 g.2.2.1) g.2.2.2.1 (aD.mk g.2.2.2.2.1 g.2.2.2.2.2.1 g.2.2.2.2.2.2.1) g.2.2.2.2.2.2.2.1):Abstract)) (.cons (.i .i64) (.cons (.i .i64) (.cons (.i .i64) (.cons (.l 34) (.cons (.i .i64) (.cons (.i .i64) (.cons (.i .i64) (.cons (.l 34) .nil)))))))) (fun _=>rfl)
 | .k37=>Pk.map (fun g:Int×Unit=>(g.1:Int)) (.cons (.i .i64) .nil) (fun _=>rfl)
 | .k47=>Pk.map (fun g:(List (bP 3))×Int×Unit=>((bh.mk g.1 g.2.1):bh)) (.cons (.l 3) (.cons (.i .i64) .nil)) (fun _=>rfl)
 | .k52=>Pk.map (fun g:(List (bP 3))×(List (bP 3))×(List (bP 3))×Unit=>((kH.mk g.1 g.2.1 g.2.2.1):kH)) (.cons (.l 3) (.cons (.l 3) (.cons (.l 3) .nil))) (fun _=>rfl)
 | .k56=>Pk.map (fun g:(List (bP 3))×(List (bP 3))×Int×Unit=>((lN.mk g.1 g.2.1 g.2.2.1):lN)) (.cons (.l 3) (.cons (.l 3) (.cons (.i .i64) .nil))) (fun _=>rfl)
 | .k84=>Pk.map (fun g:(List (bP 47))×(List (bP 117))×Unit=>((ia.mk g.1 g.2.1):ia)) (.cons (.l 47) (.cons (.l 117) .nil)) (fun _=>rfl)
 | .k90=>Pk.map (fun g:Int×Int×(List (bP 3))×(List (bP 34))×Unit=>((Part.mk g.1 g.2.1 g.2.2.1 g.2.2.2.1):Part)) (.cons (.i .i64) (.cons (.i .i64) (.cons (.l 3) (.cons (.l 34) .nil)))) (fun _=>rfl)
 | .k117=>Pk.map (fun g:Int×Int×(List (bP 3))×(List (bP 3))×Int×Unit=>((Cell.mk g.1 g.2.1 g.2.2.1 g.2.2.2.1 g.2.2.2.2.1):Cell)) (.cons (.i .i64) (.cons (.i .i64) (.cons (.l 3) (.cons (.l 3) (.cons (.i .i64) .nil))))) (fun _=>rfl)
 | .k128=>Pk.map (fun g:(List (bP 34))×Int×Int×Int×(List (bP 34))×Int×Int×Int×Unit=>((ak.mk g.1 (aD.mk g.2.1 g.2.2.1 g.2.2.2.1) g.2.2.2.2.1 (aD.mk g.2.2.2.2.2.1 g.2.2.2.2.2.2.1 g.2.2.2.2.2.2.2.1)):ak)) (.cons (.l 34) (.cons (.i .i64) (.cons (.i .i64) (.cons (.i .i64) (.cons (.l 34) (.cons (.i .i64) (.cons (.i .i64) (.cons (.i .i64) .nil)))))))) (fun _=>rfl)
 | .k129=>Pk.map (fun g:Int×Unit=>(g.1:Int)) (.cons (.i .i64) .nil) (fun _=>rfl)
 | .k131=>Pk.map (fun g:ByteArray×Int×Int×Int×Int×Unit=>((aN.mk g.1 g.2.1 g.2.2.1 g.2.2.2.1 g.2.2.2.2.1):aN)) (.cons .s (.cons (.i .i64) (.cons (.i .i64) (.cons (.i .i64) (.cons (.i .i64) .nil))))) (fun _=>rfl)
 | .k133=>Pk.map (fun g:(List (bP 131))×(List (bP 139))×(List (bP 166))×(List (bP 34))×Unit=>((Runner.mk (Flat.mk g.1 g.2.1 g.2.2.1) g.2.2.2.1):Runner)) (.cons (.l 131) (.cons (.l 139) (.cons (.l 166) (.cons (.l 34) .nil)))) (fun _=>rfl)
 | .k137=>Pk.map (fun g:Int×Int×(List (bP 137))×Unit=>((aq.mk g.1 g.2.1 g.2.2.1):aq)) (.cons (.i .i64) (.cons (.i .i64) (.cons (.l 137) .nil))) (fun _=>rfl)
 | .k139=>Pk.map (fun g:ByteArray×Int×Int×Int×Int×(List (bP 137))×Unit=>((cy.mk g.1 g.2.1 g.2.2.1 (aq.mk g.2.2.2.1 g.2.2.2.2.1 g.2.2.2.2.2.1)):cy)) (.cons .s (.cons (.i .i64) (.cons (.i .i64) (.cons (.i .i64) (.cons (.i .i64) (.cons (.l 137) .nil)))))) (fun _=>rfl)
 | .k147=>Pk.map (fun g:(List (bP 34))×Int×Int×Int×(List (bP 34))×Int×Int×Int×Unit=>((aA.mk g.1 (aD.mk g.2.1 g.2.2.1 g.2.2.2.1) g.2.2.2.2.1 (aD.mk g.2.2.2.2.2.1 g.2.2.2.2.2.2.1 g.2.2.2.2.2.2.2.1)):aA)) (.cons (.l 34) (.cons (.i .i64) (.cons (.i .i64) (.cons (.i .i64) (.cons (.l 34) (.cons (.i .i64) (.cons (.i .i64) (.cons (.i .i64) .nil)))))))) (fun _=>rfl)
 | .k166=>Pk.map (fun g:Int×Int×Int×Int×Int×Int×(List (bP 137))×(List (bP 166))×(List (bP 166))×(List (bP 3))×Unit=>((GStep.mk g.1 g.2.1 g.2.2.1 g.2.2.2.1 (aq.mk g.2.2.2.2.1 g.2.2.2.2.2.1 g.2.2.2.2.2.2.1) g.2.2.2.2.2.2.2.1 g.2.2.2.2.2.2.2.2.1 g.2.2.2.2.2.2.2.2.2.1):GStep)) (.cons (.i .i64) (.cons (.i .i64) (.cons (.i .i64) (.cons (.i .i64) (.cons (.i .i64) (.cons (.i .i64) (.cons (.l 137) (.cons (.l 166) (.cons (.l 166) (.cons (.l 3) .nil)))))))))) (fun _=>rfl)
 | .k172=>Pk.map (fun g:(List (bP 131))×(List (bP 139))×(List (bP 166))×(List (bP 3))×Bool×(List (bP 174))×Unit=>((Tree.mk (Flat.mk g.1 g.2.1 g.2.2.1) (View.mk g.2.2.2.1 g.2.2.2.2.1) g.2.2.2.2.2.1):Tree)) (.cons (.l 131) (.cons (.l 139) (.cons (.l 166) (.cons (.l 3) (.cons .b (.cons (.l 174) .nil)))))) (fun _=>rfl)
 | .k174=>Pk.map (fun g:(List (bP 34))×Int×Int×(List (bP 3))×Int×Bool×(List (bP 3))×Int×Unit=>((vp.mk g.1 g.2.1 g.2.2.1 g.2.2.2.1 g.2.2.2.2.1 g.2.2.2.2.2.1 (bh.mk g.2.2.2.2.2.2.1 g.2.2.2.2.2.2.2.1)):vp)) (.cons (.l 34) (.cons (.i .i64) (.cons (.i .i64) (.cons (.l 3) (.cons (.i .i64) (.cons .b (.cons (.l 3) (.cons (.i .i64) .nil)))))))) (fun _=>rfl)
 | .k256=>Pk.map (fun g:Int×Bool×Unit=>((aM.mk g.1 g.2.1):aM)) (.cons (.i .i64) (.cons .b .nil)) (fun _=>rfl)
 | .k260=>Pk.map (fun g:Int×Int×Int×Unit=>((nO.mk g.1 g.2.1 g.2.2.1):nO)) (.cons (.i .i64) (.cons (.i .i64) (.cons (.i .i64) .nil))) (fun _=>rfl)
 | .k313=>Pk.map (fun g:(List (bP 131))×(List (bP 139))×(List (bP 166))×(List (bP 3))×(List (bP 3))×(List (bP 3))×Int×Unit=>((Machine.mk (Flat.mk g.1 g.2.1 g.2.2.1) g.2.2.2.1 g.2.2.2.2.1 g.2.2.2.2.2.1 g.2.2.2.2.2.2.1):Machine)) (.cons (.l 131) (.cons (.l 139) (.cons (.l 166) (.cons (.l 3) (.cons (.l 3) (.cons (.l 3) (.cons (.i .i64) .nil))))))) (fun _=>rfl)
 | .k331=>Pk.map (fun g:Int×Int×Unit=>((Span.mk g.1 g.2.1):Span)) (.cons (.i .i64) (.cons (.i .i64) .nil)) (fun _=>rfl)
 | .no=> .none
def aaE:(k:Ky)->List (wV k)->Option (List Int)
 | .k5,l=>some l
 |_,_=>none
theorem Qg(l:List Int):l.flatMap (fun x=>[bL.n (cE:=bP) .u8 x])=l.map (.n .u8):=by
 induction l with
 |nil=>rfl
 |cons a l ih=>rw[List.flatMap_cons,ih];rfl
theorem Tg:(k:Ky)->(l:List (wV k))->(ns:List Int)->aaE k l=some ns->l.flatMap (mj k)=ns.map (.n .u8)/\szK k=1:=by
 intro k l ns h
 cases k<;>first|(cases h;done)|(cases h;exact⟨Qg _,rfl⟩)
theorem anT(k:Ky)(x:wV k):(mj k x).length=szK k:=by cases k<;>rfl
theorem aof(k:Ky)(x:wV k):(mj k x).all fY=true:=by cases k<;>rfl
theorem aod(k:Ky)(x:wV k)(ρ:Gh):(mj k x).map (bL.sub ρ)=mj k x:=SF _ (by cases k<;>rfl) ρ
theorem aqH(k:Ky)(x:wV k)(n:Nat):∀c∈mj k x,cg n c:=Qa _ (by cases k<;>rfl) n
instance uniL:lY where
 len:=fun t x=>anT (ky t) x
 one:=fun t x=>aof (ky t) x
 clo:=fun t x ρ=>aod (ky t) x ρ
 o8:=fun t x n=>aqH (ky t) x n
 parse:=fun t=>PJ (ky t)
 jU:=fun t=>OC (ky t)
 Zr:=fun t=>aaE (ky t)
 tL:=fun t=>Tg (ky t)
 fz:=fun f=>Nat.beq f 20||Nat.beq f 26||Nat.beq f 83||Nat.beq f 156||Nat.beq f 160||Nat.beq f 236||Nat.beq f 96||Nat.beq f 179||Nat.beq f 88||Nat.beq f 167||Nat.beq f 171||Nat.beq f 247
end Go.Proofs.YtnfljbehcffmcaaGreat
end
noncomputable section
namespace Go.Iv
variable [U:qz] [L:lY]
open Go Go.RowKit
def kf(f:Nat->Nat)(n:Nat):AV->AV:=Nat.rec (fun d=>match d with
 | .own i=> .own (f i)
 | .ptr i o=> .ptr (f i) o
 | .ra i t m o=> .ra (f i) t m o
 |d=>d) (fun _ ih d=>match d with
 | .own i=> .own (f i)
 | .ptr i o=> .ptr (f i) o
 | .ra i t m o=> .ra (f i) t m o
 | .agg cs=> .agg (cs.map ih)
 | .gY cs=> .gY (cs.map ih)
 | .fn g cs=> .fn g (cs.map ih)
 | .fp cs=> .fp (cs.map ih)
 |d=>d) n
theorem gX{f:Nat->Nat}{ρ ρ':Gh}{p:Nat->Bool}(hp:∀i,p i=true->ρ'.v (f i)=ρ.v i/\ρ'.b (f i)=ρ.b i):∀(n:Nat) {d:AV},jW p n d=true->(kf f n d).sub ρ'=d.sub ρ
 |0,d,h=>by
  cases d with
  |lit v=>show bL.sub ρ' (.lit v)=_;rw[bC,bC]
  |sl t l=>show bL.sub ρ' (.sl t l)=_;rw[e9,e9]
  |rp v k=>show bL.sub ρ' (.rp v k)=_;simp only[bL.sub]
  |own i=>show bL.sub ρ' (.own (f i))=_;rw[cQ,cQ,(hp _ h).1]
  |ptr i o=>show bL.sub ρ' (.ptr (f i) o)=_;rw[dQ,dQ,(hp _ h).2]
  |ra i t m o=>show bL.sub ρ' (.ra (f i) t m o)=_;rw[iz,iz,(hp _ h).1]
  |_=>cases h
 |n+1,d,h=>by
  have hL:∀{cs:List AV},cs.all (jW p n)=true->(cs.map (kf f n)).map (bL.sub ρ')=cs.map (bL.sub ρ):=fun{cs} h=>by
   rw[List.map_map]
   exact List.map_congr_left fun c hc=>gX hp n (List.all_eq_true.1 h c hc)
  cases d with
  |lit v=>show bL.sub ρ' (.lit v)=_;rw[bC,bC]
  |sl t l=>show bL.sub ρ' (.sl t l)=_;rw[e9,e9]
  |rp v k=>show bL.sub ρ' (.rp v k)=_;simp only[bL.sub]
  |own i=>show bL.sub ρ' (.own (f i))=_;rw[cQ,cQ,(hp _ h).1]
  |ptr i o=>show bL.sub ρ' (.ptr (f i) o)=_;rw[dQ,dQ,(hp _ h).2]
  |ra i t m o=>show bL.sub ρ' (.ra (f i) t m o)=_;rw[iz,iz,(hp _ h).1]
  |fp cs=>show bL.sub ρ' (.fp (List.map (kf f n) cs))=_;rw[kE,kE,hL h]
  |agg cs=>show bL.sub ρ' (.agg (List.map (kf f n) cs))=_;rw[dG,dG,hL h]
  |gY cs=>show bL.sub ρ' (.gY (List.map (kf f n) cs))=_;rw[jm,jm,hL h]
  |fn g cs=>show bL.sub ρ' (.fn g (List.map (kf f n) cs))=_;rw[rf,rf,hL h]
theorem jR{f:Nat->Nat}{p:Nat->Bool}{m:Nat}(hp:∀i,p i=true->f i<m):∀(n:Nat) {d:AV},jW p n d=true->cg m (kf f n d)
 |0,d,h=>by
  cases d<;>first|exact .lit _|exact .sl _ _|exact .rp _ _|exact .own _ (hp _ h)|exact .ptr _ _ (hp _ h)|exact .ra _ _ _ _ (hp _ h)|(cases h;done)
 |n+1,d,h=>by
  have hL:∀{cs:List AV},cs.all (jW p n)=true->∀c∈cs.map (kf f n),cg m c:=fun{cs} h c hc=>by
   obtain⟨c',h1,rfl⟩:=List.mem_map.1 hc
   exact jR hp n (List.all_eq_true.1 h c' h1)
  cases d<;>first|exact .lit _|exact .sl _ _|exact .rp _ _|exact .own _ (hp _ h)|exact .ptr _ _ (hp _ h)|exact .ra _ _ _ _ (hp _ h)|exact .agg _ (hL h)|exact .gY _ (hL h)|exact .fn _ _ (hL h)|exact .fp _ (hL h)
def Ea(f:Nat->Nat):IR->IR
 | .box T cs=> .box T (cs.map (kf f 4))
 |r=>r
def kS(l:List Nat)(i:Nat):Nat:=List.rec 0 (fun j _ ih=>match Nat.beq j i with
 |true=>0
 |false=>ih+1) l
theorem sM:∀{l:List Nat} {i:Nat},i∈l->l[kS l i]? =some i
 |j::l,i,h=>by
  show (j::l)[match Nat.beq j i with
   |true=>0
   |false=>kS l i+1]? =some i
  cases hb:Nat.beq j i with
  |true=>have:=eV hb;subst this;rfl
  |false=>
   have hne:i≠j:=fun e=>by subst e;rw[Nat.beq_refl]at hb;cases hb
   exact sM ((List.mem_cons.1 h).resolve_left hne)
def EX(ts:List Nat)(E:ET):Env:=ts.filterMap fun t=>(cj E t).map fun d=>(t,d)
theorem Nn{E:ET}:∀(ts:List Nat) t d,Env.get (EX ts E) t=some d->cj E t=some d:=fun ts=>by
 induction ts with
 |nil=>intro t d h;cases h
 |cons u ts ih=>
  intro t d h
  unfold EX at h
  rw[List.filterMap_cons]at h
  cases hu:cj E u with
  |none=>rw[hu]at h;exact ih t d h
  |some x=>
   rw[hu]at h
   by_cases hut:u=t
   ·subst hut
    have h:Env.get ((u,x)::_) u=some d:=h
    rw[Env.dH]at h
    rw[hu,h]
   ·have h:Env.get ((u,x)::_) t=some d:=h
    rw[Env.cP _ _ hut]at h
    exact ih t d h
def pick(i:Nat)(R:aP):Option ((Nat×IR)×aP):=List.rec none (fun p R ih=>match Nat.beq p.1 i with
 |true=>some (p,R)
 |false=>match ih with
  |some x=>some (x.1,p::x.2)
  |none=>none) R
theorem AO{i:Nat}:∀{R:aP} {x},pick i R=some x->List.Perm R (x.1::x.2)
 |[],x,h=>by cases h
 |p::R,x,h=>by
  have h:(match Nat.beq p.1 i with
   |true=>some (p,R)
   |false=>match pick i R with
    |some x=>some (x.1,p::x.2)
    |none=>none)=some x:=h
  split at h
  ·cases h;exact .refl _
  ·split at h
   ·rename_i y hy
    cases h
    exact((AO hy).cons p).trans (.swap _ _ _)
   ·cases h
def mQ(ns:List Nat):aP->aP×aP:=List.rec (fun R=>([],R)) (fun i _ ih R=>match pick i R with
 |some x=>(x.1::(ih x.2).1,(ih x.2).2)
 |none=>ih R) ns
theorem mg:∀(ns:List Nat) (R:aP),List.Perm R ((mQ ns R).1++(mQ ns R).2)
 |[],R=> .refl _
 |i::ns,R=>by
  show List.Perm R ((match pick i R with
   |some x=>(x.1::(mQ ns x.2).1,(mQ ns x.2).2)
   |none=>mQ ns R).1++(match pick i R with
   |some x=>(x.1::(mQ ns x.2).1,(mQ ns x.2).2)
   |none=>mQ ns R).2)
  split
  ·rename_i x hx
   exact(AO hx).trans ((mg ns x.2).cons _)
  ·exact mg ns R
def upto(n:Nat):List Nat:=Nat.rec [] (fun i ih=>ih++[i]) n
theorem SH{n i:Nat}(h:i<n):i∈upto n:=by
 induction n with
 |zero=>omega
 |succ n ih=>
  show i∈upto n++[n]
  by_cases hi:i=n
  ·subst hi;simp
  ·exact List.mem_append_left _ (ih (by omega))
theorem RF{n i:Nat}(h:i<n):(upto n)[i]? =some i:=by
 induction n with
 |zero=>omega
 |succ n ih=>
  show (upto n++[n])[i]? =some i
  have hl:∀n,(upto n).length=n:=fun n=>by
   induction n with
   |zero=>rfl
   |succ n ih=>show (upto n++[n]).length=n+1;simp[ih]
  by_cases hi:i=n
  ·subst hi;rw[List.getElem?_append_right (by rw[hl];exact Nat.le_refl _),hl,Nat.sub_self];rfl
  ·rw[List.getElem?_append_left (by rw[hl];omega)];exact ih (by omega)
theorem sw:∀n,(upto n).length=n:=fun n=>by
 induction n with
 |zero=>rfl
 |succ n ih=>show (upto n++[n]).length=n+1;simp[ih]
def lM(n0:Nat)(dr rest:List Nat)(i:Nat):Nat:=match cH i dr with
 |true=>n0+kS rest i
 |false=>kS (upto n0++rest) i
def Ty(n0:Nat)(dr:List Nat)(l:Env)(R:aP)(rest:List Nat):Option St:=match l.all (fun q=>jW (fun i=>cH i rest|| !cH i dr&&Nat.blt i n0) 4 q.2)&&R.all (fun q=>(cH q.1 rest|| !cH q.1 dr&&Nat.blt q.1 n0)&&match q.2 with
  | .box _ cs=>cs.all (jW (fun i=>cH i rest|| !cH i dr&&Nat.blt i n0) 4)
  | .row _ _=>true)with
 |true=>some ⟨agc (l.map fun q=>(q.1,kf (lM n0 dr rest) 4 q.2)),R.map fun q=>(lM n0 dr rest q.1,Ea (lM n0 dr rest) q.2),n0+rest.length⟩
 |false=>none
def P9(n0:Nat)(dr:List Nat)(l:Env)(R:aP):Option St:=Ty n0 dr l R ((R.map fun q=>q.1).filter fun i=>cH i dr|| !Nat.blt i n0)
def canon(n0:Nat)(dr:List Nat)(ts:List Nat)(s:St):Option St:=P9 n0 dr (EX ts s.E) (mQ ((upto n0).filter (fun i=> !cH i dr)++reach s.R 3 ((EX ts s.E).flatMap fun q=>mU 4 q.2)) s.R).1
theorem RL{n0 n:Nat}{dr ts:List Nat}{C:Cg}{s s':St}{a:Act}{w:World}(hC:C.n=n0)(h:canon n0 dr ts s=some s')(hm:Mt C n s a w):Mt C n s' a w:=by
 unfold canon P9 at h
 generalize hl:EX ts s.E=l at h
 generalize hR:(mQ ((upto n0).filter (fun i=> !cH i dr)++reach s.R 3 (l.flatMap fun q=>mU 4 q.2)) s.R)=R2 at h
 have hperm:List.Perm s.R (R2.1++R2.2):=by rw[<-hR];exact mg _ _
 obtain⟨R,Rr⟩:=R2
 dsimp only at h hperm
 generalize hns:((R.map fun q=>q.1).filter fun i=>cH i dr|| !Nat.blt i n0)=rest at h
 unfold Ty at h
 split at h
 case h_2=>cases h
 rename_i hb
 cases h
 rw[Bool.and_eq_true]at hb
 obtain⟨hb1,hb2⟩:=hb
 obtain⟨E,hh,hE,hR0,ρ,hag,hsim⟩:=hm
 let ρ':Gh:=⟨fun j=>ρ.v ((upto n0++rest).getD j 0),fun j=>ρ.b ((upto n0++rest).getD j 0)⟩
 have hget:∀i,(cH i rest|| !cH i dr&&Nat.blt i n0)=true->(upto n0++rest)[lM n0 dr rest i]? =some i:=fun i hi=>by
  unfold lM
  cases hd:cH i dr with
  |true=>
   rw[hd]at hi
   have hi:cH i rest=true:=by simpa using hi
   show (upto n0++rest)[n0+kS rest i]? =some i
   rw[List.getElem?_append_right (by rw[sw];omega),sw,Nat.add_sub_cancel_left]
   exact sM (dX.1 hi)
  |false=>
   rw[hd]at hi
   show (upto n0++rest)[kS (upto n0++rest) i]? =some i
   refine sM ?_
   rw[Bool.or_eq_true]at hi
   rcases hi with hi|hi
   ·exact List.mem_append_right _ (dX.1 hi)
   ·refine List.mem_append_left _ (SH ?_)
    simpa [Nat.blt_eq]using hi
 have hp:∀i,(cH i rest|| !cH i dr&&Nat.blt i n0)=true->ρ'.v (lM n0 dr rest i)=ρ.v i/\ρ'.b (lM n0 dr rest i)=ρ.b i:=fun i hi=>by
  have e:(upto n0++rest).getD (lM n0 dr rest i) 0=i:=by rw[List.getD_eq_getElem?_getD,hget i hi];rfl
  exact⟨by show ρ.v ((upto n0++rest).getD (lM n0 dr rest i) 0)=_;rw[e],by show ρ.b ((upto n0++rest).getD (lM n0 dr rest i) 0)=_;rw[e]⟩
 have hll:(upto n0++rest).length=n0+rest.length:=by rw[List.length_append,sw]
 have hlt:∀i,(cH i rest|| !cH i dr&&Nat.blt i n0)=true->lM n0 dr rest i<n0+rest.length:=fun i hi=>by
  rw[<-hll];exact(List.getElem?_eq_some_iff.1 (hget i hi)).1
 have hres:aP.res ρ' (R.map fun q=>(lM n0 dr rest q.1,Ea (lM n0 dr rest) q.2))=aP.res ρ R:=by
  unfold aP.res
  rw[List.map_map]
  refine List.map_congr_left fun q hq=> ?_
  have hbq:=List.all_eq_true.1 hb2 q hq
  rw[Bool.and_eq_true]at hbq
  have hm:=hbq.1
  have hbq:=hbq.2
  obtain⟨i,r⟩:=q
  cases r with
  |row t l=>show b9.row (ρ'.v (lM n0 dr rest i)) t l= .row (ρ.v i) t l;rw[(hp i hm).1]
  |box T cs=>
   show b9.box (ρ'.b (lM n0 dr rest i)) T ((cs.map (kf (lM n0 dr rest) 4)).map (bL.sub ρ'))= .box (ρ.b i) T (cs.map (bL.sub ρ))
   rw[(hp i hm).2,List.map_map]
   congr 1
   exact List.map_congr_left fun c hc=>gX hp 4 (List.all_eq_true.1 hbq c hc)
 have hp2:List.Perm (aP.res ρ s.R) (aP.res ρ (R++Rr)):=hperm.map _
 have hsim2:=hsim.perm hp2
 rw[jl]at hsim2
 have hless:=hsim2.less (List.sublist_append_left _ _)
 refine⟨l.map fun q=>(q.1,kf (lM n0 dr rest) 4 q.2),uK _,fun q hq=> ?_,fun q hq=> ?_,ρ',⟨fun i hi=> ?_,?_⟩,?_⟩
 ·obtain⟨q',h1,rfl⟩:=List.mem_map.1 hq
  exact jR hlt 4 (List.all_eq_true.1 hb1 q' h1)
 ·obtain⟨q',h1,rfl⟩:=List.mem_map.1 hq
  have hbq:=List.all_eq_true.1 hb2 q' h1
  rw[Bool.and_eq_true]at hbq
  have hm:=hbq.1
  have hbq:=hbq.2
  refine⟨hlt _ hm,?_⟩
  obtain⟨i,r⟩:=q'
  cases r with
  |row t l=>trivial
  |box T cs=>
   intro c hc
   obtain⟨c',h3,rfl⟩:=List.mem_map.1 hc
   exact jR hlt 4 (List.all_eq_true.1 hbq c' h3)
 ·rw[hC]at hi
  have e:(upto n0++rest).getD i 0=i:=by
   rw[List.getD_eq_getElem?_getD,List.getElem?_append_left (by rw[sw];exact hi),RF hi];rfl
  have:=hag.1 i (by rw[hC];exact hi)
  exact⟨by show C.ρ.v i=ρ.v ((upto n0++rest).getD i 0);rw[e];exact this.1,by show C.ρ.b i=ρ.b ((upto n0++rest).getD i 0);rw[e];exact this.2⟩
 ·rw[hC]
  show n0<=n0+rest.length
  exact Nat.le_add_right _ _
 ·rw[hres]
  refine⟨hless.defers,hless.size,fun t av ht=> ?_,hless.good⟩
  have e:∀(l:Env),(∀q∈l,jW (fun i=>cH i rest|| !cH i dr&&Nat.blt i n0) 4 q.2=true)->Env.sub ρ' (l.map fun q=>(q.1,kf (lM n0 dr rest) 4 q.2))=Env.sub ρ l:=fun l hl=>by
   unfold Env.sub
   rw[List.map_map]
   exact List.map_congr_left fun q hq=>by
    show (q.1,(kf (lM n0 dr rest) 4 q.2).sub ρ')=_
    rw[gX hp 4 (hl q hq)]
  rw[e l (fun q hq=>List.all_eq_true.1 hb1 q hq),Env.dD]at ht
  obtain⟨d,hd,rfl⟩:=Option.map_eq_some_iff.1 ht
  rw[<-hl]at hd
  exact hless.slots t _ (by rw[Env.dD,hh t d (Nn ts t d hd)];rfl)
def rdC{γ:Type}(n0:Nat)(dr ts:List Nat)(rd:St->Option γ)(s:St):Option γ:=(canon n0 dr ts s).bind rd
theorem adS{γ:Type}{n0 n:Nat}{dr ts:List Nat}{rd:St->Option γ}{pat:γ->St}(h:pP n0 n rd pat):pP n0 n (rdC n0 dr ts rd) pat:=fun C s p a w hC hr hm=>by
 obtain⟨s',h1,h2⟩:=Option.bind_eq_some_iff.1 hr
 exact h C s' p a w hC h2 (RL hC h1 hm)
def qU{β:Type}(f:β->β)(j:Nat)(l:List β):List β:=List.rec (fun _=>[]) (fun b l ih j=>match Nat.beq j 0 with
 |true=>f b::l
 |false=>b::ih (j-1)) l j
theorem sY{β γ:Type}{f:β->β}{g g':β->γ}:∀(l:List β) (j:Nat),(∀b∈l,g (f b)=g' b)->(∀b∈l,g b=g' b)->(qU f j l).map g=l.map g'
 |[],_,_,_=>rfl
 |b::l,j,h1,h2=>by
  show (match Nat.beq j 0 with
   |true=>f b::l
   |false=>b::qU f (j-1) l).map g=_
  split
  ·rw[List.map_cons,List.map_cons,h1 b List.mem_cons_self,List.map_congr_left fun c hc=>h2 c (List.mem_cons_of_mem _ hc)]
  ·rw[List.map_cons,List.map_cons,h2 b List.mem_cons_self,sY l (j-1) (fun c hc=>h1 c (List.mem_cons_of_mem _ hc)) (fun c hc=>h2 c (List.mem_cons_of_mem _ hc))]
theorem sQ{β:Type}{f:β->β}{p:β->Prop}:∀(l:List β) (j:Nat),(∀b∈l,p (f b))->(∀b∈l,p b)->∀b∈qU f j l,p b
 |[],_,_,_,b,hb=>by cases hb
 |c::l,j,h1,h2,b,hb=>by
  have hb:b∈(match Nat.beq j 0 with
   |true=>f c::l
   |false=>c::qU f (j-1) l):=hb
  split at hb
  ·rcases List.mem_cons.1 hb with rfl|hb
   ·exact h1 c List.mem_cons_self
   ·exact h2 b (List.mem_cons_of_mem _ hb)
  ·rcases List.mem_cons.1 hb with rfl|hb
   ·exact h2 b List.mem_cons_self
   ·exact sQ l (j-1) (fun c hc=>h1 c (List.mem_cons_of_mem _ hc)) (fun c hc=>h2 c (List.mem_cons_of_mem _ hc)) b hb
def si(nx:Nat)(p:List Nat):AV->AV:=List.rec (fun d=>match d with
 | .lit (.slice none 0 0)=> .own nx
 |d=>d) (fun j _ ih d=>match d with
 | .agg cs=> .agg (qU ih j cs)
 | .gY cs=> .gY (qU ih j cs)
 |d=>d) p
theorem sS{ρ:Gh}{nx:Nat}:∀(p:List Nat) (d:AV),cg nx d->(si nx p d).sub (ρ.eH nx (.slice none 0 0))=d.sub ρ
 |[],d,h=>by
  show bL.sub _ (match d with
   | .lit (.slice none 0 0)=> .own nx
   |d=>d)=_
  split
  ·rw[cQ,bC];simp[Gh.eH]
  ·exact(h.sub (.eH ρ nx _)).symm
 |j::p,d,h=>by
  show bL.sub _ (match d with
   | .agg cs=> .agg (qU (si nx p) j cs)
   | .gY cs=> .gY (qU (si nx p) j cs)
   |d=>d)=_
  split
  ·rw[dG,dG,sY _ j (fun b hb=>sS p b (h.mY b hb)) (fun b hb=>((h.mY b hb).sub (.eH ρ nx _)).symm)]
  ·rw[jm,jm,sY _ j (fun b hb=>sS p b (h.zS b hb)) (fun b hb=>((h.zS b hb).sub (.eH ρ nx _)).symm)]
  ·exact(h.sub (.eH ρ nx _)).symm
theorem sZ{nx:Nat}:∀(p:List Nat) (d:AV),cg nx d->cg (nx+1) (si nx p d)
 |[],d,h=>by
  show cg (nx+1) (match d with
   | .lit (.slice none 0 0)=> .own nx
   |d=>d)
  split
  ·exact .own _ (Nat.lt_succ_self _)
  ·exact h.mono (Nat.le_succ _)
 |j::p,d,h=>by
  show cg (nx+1) (match d with
   | .agg cs=> .agg (qU (si nx p) j cs)
   | .gY cs=> .gY (qU (si nx p) j cs)
   |d=>d)
  split
  ·exact .agg _ (sQ _ j (fun b hb=>sZ p b (h.mY b hb)) (fun b hb=>(h.mY b hb).mono (Nat.le_succ _)))
  ·exact .gY _ (sQ _ j (fun b hb=>sZ p b (h.zS b hb)) (fun b hb=>(h.zS b hb).mono (Nat.le_succ _)))
  ·exact h.mono (Nat.le_succ _)
def afe(t:Nat)(p:List Nat)(e:Nat)(s:St):St:=match cj s.E t with
 |some d=>⟨kg t (si s.nx p d) s.E,(s.nx, .row e [])::s.R,s.nx+1⟩
 |none=>s
def mW(id j:Nat)(p:List Nat)(e:Nat)(s:St):St:=match eO s.R id with
 |some (.box T cs)=>⟨s.E,(s.nx, .row e [])::rV id (.box T (qU (si s.nx p) j cs)) s.R,s.nx+1⟩
 |_=>s
theorem Kj{ρ:Gh}{R:aP}{nx e:Nat}:aP.res (ρ.eH nx (.slice none 0 0)) ((nx,IR.row e [])::R)=b9.row (.slice none 0 0) e []::aP.res (ρ.eH nx (.slice none 0 0)) R:=by
 show b9.row ((ρ.eH nx (.slice none 0 0)).v nx) e []::_=_
 simp[Gh.eH,aP.res]
theorem WR{C:Cg}{n t e:Nat}{p:List Nat}{s:St}{a:Act}{w:World}(hm:Mt C n s a w):Mt C n (afe t p e s) a w:=by
 unfold afe
 split
 case h_2=>exact hm
 rename_i d hg
 obtain⟨E,hh,hE,hR,ρ,hag,hsim⟩:=hm
 have ht:=JL (C:=C.C) none e hsim.good
 have hs:=hsim.tr ht
 have hs1:E.sub ρ=E.sub (ρ.eH s.nx (.slice none 0 0)):=hE.sub (.eH ρ s.nx _)
 have hr1:aP.res ρ s.R=aP.res (ρ.eH s.nx (.slice none 0 0)) s.R:=hR.res (.eH ρ s.nx _)
 have hd:cg s.nx d:=hE _ (Env.get_mem (hh t d hg))
 refine⟨(t,si s.nx p d)::E,hh.put t _,Env.tc (hE.mono (Nat.le_succ _)) (sZ p d hd),fun q hq=> ?_,ρ.eH s.nx (.slice none 0 0),⟨hag.1.trans (.eH ρ s.nx _) hag.2,Nat.le_trans hag.2 (Nat.le_succ _)⟩,?_⟩
 ·rcases List.mem_cons.1 hq with rfl|hq
  ·exact⟨Nat.lt_succ_self _,trivial⟩
  ·exact(hR.mono (Nat.le_succ _)) q hq
 ·show rZ C.C n ((t,bL.sub _ (si s.nx p d))::E.sub _) (aP.res _ ((s.nx,IR.row e [])::s.R)) a w
  rw[Kj,<-hr1,<-hs1,sS p d hd]
  refine⟨hs.defers,hs.size,fun u av hu=> ?_,hs.good⟩
  by_cases htu:t=u
  ·subst htu
   rw[Env.dH]at hu
   cases hu
   exact hs.slots t _ (by rw[Env.dD,hh t _ hg,Option.map_some])
  ·rw[Env.cP _ _ htu]at hu
   exact hs.slots u av hu
theorem UC{C:Cg}{n id j e:Nat}{p:List Nat}{s:St}{a:Act}{w:World}(hm:Mt C n s a w):Mt C n (mW id j p e s) a w:=by
 unfold mW
 split
 case h_2=>exact hm
 rename_i T cs hg
 obtain⟨E,hh,hE,hR,ρ,hag,hsim⟩:=hm
 have ht:=JL (C:=C.C) none e hsim.good
 have hs:=hsim.tr ht
 have hs1:E.sub ρ=E.sub (ρ.eH s.nx (.slice none 0 0)):=hE.sub (.eH ρ s.nx _)
 have hr1:aP.res ρ s.R=aP.res (ρ.eH s.nx (.slice none 0 0)) s.R:=hR.res (.eH ρ s.nx _)
 obtain⟨hid,hcs⟩:=xO hg hR
 have hr2:aP.res (ρ.eH s.nx (.slice none 0 0)) (rV id (.box T (qU (si s.nx p) j cs)) s.R)=aP.res ρ s.R:=by
  obtain⟨i,h1,h2,_⟩:=dc hg
  rw[h2,sC,<-hr1]
  have e1:IR.res (ρ.eH s.nx (.slice none 0 0)) id (.box T (qU (si s.nx p) j cs))=IR.res ρ id (.box T cs):=by
   show b9.box ((ρ.eH s.nx (.slice none 0 0)).b id) T ((qU (si s.nx p) j cs).map (bL.sub _))= .box (ρ.b id) T (cs.map (bL.sub ρ))
   rw[sY cs j (fun b hb=>sS p b (hcs b hb)) (fun b hb=>((hcs b hb).sub (.eH ρ s.nx _)).symm)]
   rfl
  rw[e1]
  have h3:=fR (ρ:=ρ) h1
  exact List.ext_getElem? fun k=>by
   by_cases hk:i=k
   ·subst hk
    rw[List.getElem?_set_self (List.getElem?_eq_some_iff.1 h3).1,h3]
   ·rw[List.getElem?_set_ne hk]
 refine⟨E,hh,hE.mono (Nat.le_succ _),fun q hq=> ?_,ρ.eH s.nx (.slice none 0 0),⟨hag.1.trans (.eH ρ s.nx _) hag.2,Nat.le_trans hag.2 (Nat.le_succ _)⟩,?_⟩
 ·rcases List.mem_cons.1 hq with rfl|hq
  ·exact⟨Nat.lt_succ_self _,trivial⟩
  ·refine nw hg (hR.mono (Nat.le_succ _)) ?_ q hq
   exact sQ cs j (fun b hb=>sZ p b (hcs b hb)) (fun b hb=>(hcs b hb).mono (Nat.le_succ _))
 ·show rZ C.C n (E.sub _) (aP.res _ ((s.nx,IR.row e [])::rV id (.box T (qU (si s.nx p) j cs)) s.R)) a w
  rw[Kj,hr2,<-hs1]
  exact hs
def atA(p:List Nat):AV->Option Nat:=List.rec (fun d=>match d with
 | .own i=>some i
 |_=>none) (fun j _ ih d=>match d with
 | .agg cs=>(cs[j]?).bind ih
 | .gY cs=>(cs[j]?).bind ih
 |_=>none) p
def am8(id j:Nat)(p:List Nat)(s:St):St:=match eO s.R id with
 |some (.box _ cs)=>match (cs[j]?).bind (atA p)with
  |some i=>s.GW i
  |none=>s
 |_=>s
def rdF{γ:Type}(f:St->St)(rd:St->Option γ)(s:St):Option γ:=rd (f s)
def cl(f:St->St):Prop:=∀(C:Cg) n s a w,Mt C n s a w->Mt C n (f s) a w
theorem cl.s(t:Nat)(p:List Nat)(e:Nat):cl (afe t p e):=fun _ _ _ _ _ h=>WR h
theorem cl.c(id j:Nat)(p:List Nat)(e:Nat):cl (mW id j p e):=fun _ _ _ _ _ h=>UC h
theorem cl.fc(id j:Nat)(p:List Nat):cl (am8 id j p):=fun _ _ _ _ _ h=>by
 unfold am8
 split
 ·split
  ·exact h.GW _
  ·exact h
 ·exact h
theorem ac7{γ:Type}{n0 n:Nat}{f:St->St}{rd:St->Option γ}{pat:γ->St}(hf:cl f)(h:pP n0 n rd pat):pP n0 n (rdF f rd) pat:=fun C s p a w hC hr hm=>h C (f s) p a w hC hr (hf C n s a w hm)
end Go.Iv
end
noncomputable section
namespace Go.Iv
variable [U:qz] [L:lY]
open Go Go.RowKit
section
variable {P:Program} {f:FuncId} {args:List AV} {σp σr:List b9} {Φ:AV->List b9->Prop}
theorem xH{σ:List b9}{w:World}{A:Nat->Prop}(hd:Hd A σ w)(hnd:(bg σ).Nodup):Good ⟨w,A,bg σ⟩ σ w:=
 have hal:∀b,A b->al ⟨w,A,bg σ⟩ σ b:=fun b hA=>⟨.inl hA,fun hx=>hd.2 b hx hA⟩
 ⟨Kp.refl _ _,fun r hr=>(hd.1 r hr).mono (fun b _ hA=>⟨hal b hA,rfl⟩) (fun _ _=>rfl),hnd,fun b hb=> .inl hb⟩
theorem FJ{σ σ':List b9}{X:List Nat}{C:Cx}{w w':World}(h:Tr C X σ w σ' w')(hX:∀b∈X,b∈bg σ):Tr C (bg σ) σ w σ' w':=
 ⟨h.good,⟨h.kp.os,h.kp.tape,h.kp.output,h.kp.size,fun k hk hn=>h.kp.block k hk fun hx=>hn (hX k hx)⟩,fun b hb hA=>⟨(h.al b hb hA).1,hA.2⟩⟩
theorem Fn.Zw(h:Fn P f args σp Φ):Fn P f args (σp++σr) (fun a s=>∃so,Φ a so/\s=so++σr):=fun w A vs hrel hd0 hnd0=>by
 have hg:=xH hd0 hnd0
 generalize hC:(⟨w,A,bg (σp++σr)⟩:Cx)=C at hg ⊢
 have hdis:=hg.Ac
 rw[fJ]at hdis
 obtain⟨d1,d2,d3⟩:=List.nodup_append.1 hdis
 have hlt:∀b∈bg (σp++σr),b<w.heap.size:=fun b hb=>by
  obtain⟨s,h1,h2⟩:=bB.1 hb
  exact(hg.res s h1).lt h2
 have hal0:∀b,A b->al C (σp++σr) b:=fun b hA=>by
  subst hC;exact⟨.inl hA,fun hx=>hd0.2 b hx hA⟩
 have hd:Hd (al C (σp++σr)) σp w:=⟨fun r hr=>hg.res r (List.mem_append_left _ hr),fun b hb hA=>hA.2 (bq.2 (.inl hb))⟩
 refine(h w (al C (σp++σr)) vs (hrel.mono fun b _ hA=>⟨hal0 b hA,rfl⟩) hd d1).mono fun e w' ⟨v,av,σo,q1,q2,q3,q4⟩=> ?_
 have hown:∀b∈bg σo,b∈bg σp\/w.heap.size<=b:=q3.good.own
 have hsub:∀b,al ⟨w,al C (σp++σr),bg σp⟩ σo b->al C (σo++σr) b:=fun b hb=>by
  obtain⟨hb1,hb2⟩:=hb
  rcases hb1 with hb1|hb1|hb1
  ·exact⟨hb1.1,fun hx=>(bq.1 hx).elim hb2 (fun h=>hb1.2 (bq.2 (.inr h)))⟩
  ·have hbp:b∈bg σp:=hb1
   refine⟨?_,fun hx=>(bq.1 hx).elim hb2 (fun h=>d3 b hbp b h rfl)⟩
   rcases hg.own b (bq.2 (.inl hbp))with h|h
   ·exact .inr (.inl h)
   ·exact .inr (.inr h)
  ·have hbw:w.heap.size<=b:=hb1
   exact⟨.inr (.inr (Nat.le_trans hg.kept.size hbw)),fun hx=>(bq.1 hx).elim hb2 (fun h=>by have:=hlt b (bq.2 (.inr h));omega)⟩
 have ht:=v7 hg (fun b hA _=> .inl hA) q3 (fun r hr=>(q3.good.res r hr).mono (fun b hb hA=>⟨hsub b hA,rfl⟩) (fun _ _=>rfl))
 exact⟨v,av,σo++σr,q1,⟨σo,q2,rfl⟩,FJ ht (fun b hb=>bq.2 (.inl hb)),q4.mono fun b hb hA=>⟨hsub b hA,rfl⟩⟩
theorem Fn.an9{args':List AV}{σr:List b9}(h:Fn P f args' [] Φ)(hv:∀(A:Nat->Prop) (w:World) (us:List Value),Hd A σr w->bk A w args us->bk (fun b=>A b\/b∈bg σr) w args' us)
  (hc:∀av σo,Φ av σo->Cl av/\∀r∈σo,ClR r):Fn P f args σr (fun a s=>∃so,Φ a so/\s=so++σr):=fun w A vs hrel hd0 hnd0=>by
 have hg:=xH hd0 hnd0
 generalize hC:(⟨w,A,bg σr⟩:Cx)=C at hg ⊢
 have hal0:∀b,A b->al C σr b:=fun b hA=>by
  subst hC;exact⟨.inl hA,fun hx=>hd0.2 b hx hA⟩
 have h3:=hv (al C σr) w vs hg.hd (hrel.mono fun b _ hA=>⟨hal0 b hA,rfl⟩)
 refine(h w _ vs h3 ⟨fun r hr=>(by cases hr),fun b hb=>(by cases hb)⟩ List.nodup_nil).mono fun e w' ⟨v,av,σo,q1,q2,q3,q4⟩=> ?_
 obtain⟨c1,c2⟩:=hc av σo q2
 have ht:=v7 (σp:=[]) (σr:=σr) hg (fun b hA _=>hA) q3 (fun r hr=>c2 r hr _ _ w' (q3.good.res r hr))
 exact⟨v,av,σo++σr,q1,⟨σo,q2,rfl⟩,FJ (σ:=σr) ht (fun b hb=>by cases hb),c1 _ _ w' v q4⟩
end
def apO(n:Nat):AV->Bool:=jW (fun _=>false) n
theorem xR{A:Nat->Prop}{w:World}{cs:List AV}{v:Value}(h:Rel A w (.fp cs) v):∃(b o:Nat) (us:List Value),v= .pointer (some ⟨b,o,none⟩)/\b<w.heap.size/\A b/\(∀j v,us[j]? =some v->w.cell? ⟨b,o+j,none⟩=some v)/\bk A w cs us:=by
 generalize ha:bL.fp cs=a at h
 cases h with
 |fp cs' b o us hb hA hl hc hr=>cases ha;exact⟨b,o,us,rfl,hb,hA,hc,hl,hr⟩
 |_=>cases ha
def zW(lb:Bool)(rd:Nat->Option IR)(n:Nat):AV->AV:=Nat.rec (fun d=>match d with
 | .own id=>match rd id with
  |some (.row t l)=> .sl t l
  |_=> .own id
 |d=>d) (fun _ ih d=>match d with
 | .own id=>match rd id with
  |some (.row t l)=> .sl t l
  |_=> .own id
 | .ptr id 0=>match lb with
  |true=>match rd id with
   |some (.box _ cs)=> .fp (cs.map ih)
   |_=> .ptr id 0
  |false=> .ptr id 0
 | .agg cs=> .agg (cs.map ih)
 | .fn f cs=> .fn f (cs.map ih)
 |d=>d) n
theorem Qx{R:aP}{ρ:Gh}{A:Nat->Prop}{w:World}{v:Value}{id T:Nat}{cs:List AV}(hd:Hd A (aP.res ρ R) w)(hg:eO R id=some (.box T cs))(hr:Rel A w ((bL.ptr (cE:=U.cE) id 0).sub ρ) v):
  Rel (fun b=>A b\/b∈bg (aP.res ρ R)) w (.fp (cs.map (bL.sub ρ))) v:=by
 obtain⟨i,hi,_⟩:=dc hg
 have hres:=fR (ρ:=ρ) hi
 rw[dQ]at hr
 exact Vw.box i hres A w v hd hr
theorem OG{lb:Bool}{R:aP}{ρ:Gh}{A:Nat->Prop}{w:World}(hd:Hd A (aP.res ρ R) w):∀(n:Nat) {d:AV} {v:Value},Rel (fun b=>A b\/b∈bg (aP.res ρ R)) w (d.sub ρ) v->Rel (fun b=>A b\/b∈bg (aP.res ρ R)) w ((zW lb (eO R) n d).sub ρ) v:=by
 have hown:∀{id:Nat} {v:Value},Rel (fun b=>A b\/b∈bg (aP.res ρ R)) w ((bL.own (cE:=U.cE) id).sub ρ) v->Rel (fun b=>A b\/b∈bg (aP.res ρ R)) w ((match eO R id with
  |some (.row t l)=>bL.sl t l
  |_=> .own id).sub ρ) v:=fun{id v} h=>by
  rw[cQ]at h
  rw[h.cc]
  exact Rt hd (by rw[cQ];exact .lit _)
 intro n
 induction n with
 |zero=>
  intro d v h
  cases d<;>first|exact h|exact hown h
 |succ n ih=>
  have hL:∀{cs:List AV} {us:List Value},bk (fun b=>A b\/b∈bg (aP.res ρ R)) w (cs.map (bL.sub ρ)) us->bk (fun b=>A b\/b∈bg (aP.res ρ R)) w ((cs.map (zW lb (eO R) n)).map (bL.sub ρ)) us:=fun{cs us} h=>
   ⟨by simpa using h.1,fun j a u q1 q2=>by
    rw[List.map_map,List.getElem?_map]at q1
    obtain⟨c,hc,rfl⟩:=Option.map_eq_some_iff.1 q1
    exact ih (h.2 j _ u (by rw[List.getElem?_map,hc];rfl) q2)⟩
  intro d v h
  cases d with
  |own id=>exact hown h
  |agg cs=>
   show Rel _ w ((bL.agg (cs.map (zW lb (eO R) n))).sub ρ) v
   rw[dG]at h ⊢
   obtain⟨us,rfl,h2⟩:=h.lR
   exact Rel.mY (hL h2)
  |fn f cs=>
   show Rel _ w ((bL.fn f (cs.map (zW lb (eO R) n))).sub ρ) v
   rw[rf]at h ⊢
   obtain⟨us,rfl,h2⟩:=h.Ru
   have h3:=hL h2
   exact .fn f _ us h3.1 h3.2
  |ptr id off=>
   cases off with
   |succ o=>exact h
   |zero=>
    cases lb with
    |false=>exact h
    |true=>
     show Rel _ w (bL.sub ρ (match eO R id with
      |some (.box _ cs)=> .fp (cs.map (zW true (eO R) n))
      |_=> .ptr id 0)) v
     split
     ·rename_i T cs hg
      have h0:Rel A w ((bL.ptr (cE:=U.cE) id 0).sub ρ) v:=by
       rw[dQ]at h ⊢
       rw[h.cc];exact .lit _
      obtain⟨b,o,us,rfl,q1,q2,q3,q4⟩:=xR (Qx hd hg h0)
      rw[kE]
      have q5:=hL q4
      exact .fp _ b o us q1 q2 q5.1 q3 q5.2
     ·exact h
  |_=>exact h
def mS(l:List Nat)(n0 nx:Nat)(i:Nat):Nat:=match Nat.blt i n0 with
 |true=>l.getD i 0
 |false=>nx+(i-n0)
def Out.okB(n0:Nat)(x:Out):Bool:=Nat.ble n0 x.c&&jW (fun i=>Nat.blt i x.c) 4 x.d&&x.R.all fun q=>Nat.blt q.1 x.c&&match q.2 with
 | .box _ cs=>cs.all (jW (fun i=>Nat.blt i x.c) 4)
 | .row _ _=>true
def Qz{α γ β:Type}(q:List AV->aP->Option γ)(t:γ->Option β)(out:β->Out)(n0:Nat)(args:List AV)(nx:Nat)(k:AV->aP->Nat->Option α)(F:Option α)(Rp Rr:aP)(ns:List Nat):Option α:=
 match Nat.beq Rp.length n0&&args.all (jW (fun i=>cH i ns) 4)&&Rp.all (fun q=>match q.2 with
  | .box _ cs=>cs.all (jW (fun i=>cH i ns) 4)
  | .row _ _=>true)with
 |true=>match q (args.map (kf (kS ns) 4)) (Rp.map fun q=>(kS ns q.1,Ea (kS ns) q.2))with
  |some g=>match t g with
   |some b=>k (kf (mS ns n0 nx) 4 (out b).d) ((out b).R.map (fun q=>(mS ns n0 nx q.1,Ea (mS ns n0 nx) q.2))++Rr) (nx+((out b).c-n0))
   |none=>none
  |none=>F
 |false=>F
def Te{α γ β:Type}(q:List AV->aP->Option γ)(t:γ->Option β)(out:β->Out)(n0:Nat)(args:List AV)(nx:Nat)(k:AV->aP->Nat->Option α)(F:Option α)(R2:aP×aP):Option α:=
 Qz q t out n0 args nx k F R2.1 R2.2 (R2.1.map fun q=>q.1)
def XJ{γ β:Type}(f0 n0:Nat)(q:List AV->aP->Option γ)(t:γ->Option β)(out:β->Out)(F:aI):aI:=fun _ f args R nx k=>match Nat.beq f f0 with
 |true=>Te q t out n0 args nx k (F _ f args R nx k) (mQ (reach R 3 (args.flatMap (mU 4))) R)
 |false=>F _ f args R nx k
def QY{γ:Type}(q:List AV->aP->Option γ)(ca:γ->List AV)(cr:γ->aP):Prop:=∀xs R g,q xs R=some g->(∀(ρ:Gh) A w us,bk A w (xs.map (bL.sub ρ)) us->bk A w ((ca g).map (bL.sub ρ)) us)/\C1 R (cr g)
theorem Fn.pre{P:Program}{f:FuncId}{args args':List AV}{R R':aP}{ρ:Gh}{Φ:AV->List b9->Prop}(h:Fn P f args' (aP.res ρ R') Φ)(ha:∀A w us,bk A w args us->bk A w args' us)(hr:C1 R R'):Fn P f args (aP.res ρ R) Φ:=fun w A vs h1 h2 h3=>by
 have hb:bg (aP.res ρ R)=bg (aP.res ρ R'):=yz hr
 rw[hb]
 refine(h w A vs (ha A w vs h1) ⟨HP hr h2.1,fun b hb'=>h2.2 b (by rw[hb];exact hb')⟩ (by rw[<-hb];exact h3)).mono fun e w' ⟨v,av,σ',q1,q2,q3,q4⟩=>⟨v,av,σ',q1,q2,⟨q3.good,q3.kp,fun b hb' hA=> ?_⟩,q4⟩
 refine q3.al b hb' ⟨hA.1,?_⟩
 rw[<-hb];exact hA.2
theorem ady{P:Program}{F:aI}{γ β:Type}{f0 n0:Nat}{q:List AV->aP->Option γ}{ca:γ->List AV}{cr:γ->aP}{t:γ->Option β}{out:β->Out}(hF:gi P F)(hf:uw P f0)(hq:QY q ca cr)(hm:∀b,(out b).okB n0=true)
  (h:∀g b,t g=some b->Mj P f0 (ca g) (cr g) n0 (out b)):gi P (XJ f0 n0 q t out F):=fun α f args R nx k r hr hargs hR=>by
 unfold XJ at hr
 split at hr
 case h_2=>exact hF α f args R nx k r hr hargs hR
 rename_i hb
 have hb:=eV hb
 subst hb
 unfold Te at hr
 generalize hR2:mQ (reach R 3 (args.flatMap (mU 4))) R=R2 at hr
 have hperm:List.Perm R (R2.1++R2.2):=by rw[<-hR2];exact mg _ _
 obtain⟨Rp,Rr⟩:=R2
 dsimp only at hr hperm
 generalize hns:(Rp.map fun q=>q.1)=ns at hr
 unfold Qz at hr
 split at hr
 case h_2=>exact hF α f args R nx k r hr hargs hR
 rename_i hchk
 rw[Bool.and_eq_true,Bool.and_eq_true]at hchk
 obtain⟨⟨hc0,hc1⟩,hc2⟩:=hchk
 have hc0:=eV hc0
 split at hr
 case h_2=>exact hF α f args R nx k r hr hargs hR
 rename_i g hg
 split at hr
 case h_2=>cases hr
 rename_i b hb
 have hlen:ns.length=n0:=by rw[<-hns,List.length_map,hc0]
 have hRs:∀p∈Rp++Rr,p.1<nx/\p.2.cg nx:=fun p hp=>hR p (hperm.mem_iff.2 hp)
 have hnsl:∀i∈ns,i<nx:=fun i hi=>by
  rw[<-hns]at hi
  obtain⟨p,hp,rfl⟩:=List.mem_map.1 hi
  exact(hRs p (List.mem_append_left _ hp)).1
 obtain⟨hqa,hqr⟩:=hq _ _ g hg
 have hok:=hm b
 unfold Out.okB at hok
 rw[Bool.and_eq_true,Bool.and_eq_true]at hok
 obtain⟨⟨ho0,ho1⟩,ho2⟩:=hok
 have ho0:n0<=(out b).c:=by simpa using ho0
 refine⟨hf,fun ρ=> ?_⟩
 let ρ0:Gh:=⟨fun j=>ρ.v (ns.getD j 0),fun j=>ρ.b (ns.getD j 0)⟩
 have hp:∀i,cH i ns=true->ρ0.v (kS ns i)=ρ.v i/\ρ0.b (kS ns i)=ρ.b i:=fun i hi=>by
  have:=sM (dX.1 hi)
  have e:ns.getD (kS ns i) 0=i:=by rw[List.getD_eq_getElem?_getD,this];rfl
  exact⟨by show ρ.v (ns.getD (kS ns i) 0)=_;rw[e],by show ρ.b (ns.getD (kS ns i) 0)=_;rw[e]⟩
 have ea:(args.map (kf (kS ns) 4)).map (bL.sub ρ0)=args.map (bL.sub ρ):=by
  rw[List.map_map]
  exact List.map_congr_left fun c hc=>gX hp 4 (List.all_eq_true.1 hc1 c hc)
 have er:aP.res ρ0 (Rp.map fun q=>(kS ns q.1,Ea (kS ns) q.2))=aP.res ρ Rp:=by
  unfold aP.res
  rw[List.map_map]
  refine List.map_congr_left fun q hq=> ?_
  have hm:cH q.1 ns=true:=dX.2 (by rw[<-hns];exact List.mem_map.2 ⟨q,hq,rfl⟩)
  have hbq:=List.all_eq_true.1 hc2 q hq
  obtain⟨i,rr⟩:=q
  cases rr with
  |row t l=>show b9.row (ρ0.v (kS ns i)) t l= .row (ρ.v i) t l;rw[(hp i hm).1]
  |box T cs=>
   show b9.box (ρ0.b (kS ns i)) T ((cs.map (kf (kS ns) 4)).map (bL.sub ρ0))= .box (ρ.b i) T (cs.map (bL.sub ρ))
   rw[(hp i hm).2,List.map_map]
   congr 1
   exact List.map_congr_left fun c hc=>gX hp 4 (List.all_eq_true.1 hbq c hc)
 have h1:=Fn.pre (h g b hb ρ0) (hqa ρ0) hqr
 rw[ea,er]at h1
 have h2:=Fn.Zw (σr:=aP.res ρ Rr) h1
 rw[<-jl]at h2
 have hp2:List.Perm (aP.res ρ R) (aP.res ρ (Rp++Rr)):=hperm.map _
 have h3:Fn P f (args.map (bL.sub ρ)) (aP.res ρ R) (fun a s=>∃so,(∃ρ':Gh,oV n0 ρ0 ρ'/\a=(out b).d.sub ρ'/\List.Perm so (aP.res ρ' (out b).R))/\s=so++aP.res ρ Rr):=fun w A vs q1 q2 q3=>by
  have hbm:∀x,x∈bg (aP.res ρ (Rp++Rr))↔x∈bg (aP.res ρ R):=fun x=>(hp2.symm.filterMap _).mem_iff
  refine(h2 w A vs q1 ⟨fun r hr=>q2.1 r (hp2.mem_iff.2 hr),fun x hx=>q2.2 x ((hbm x).1 hx)⟩ ((hp2.filterMap _).nodup_iff.1 q3)).mono fun e w' ⟨v,av,σ',g1,g2,g3,g4⟩=> ?_
  have hal:∀s x,al ⟨w,A,bg (aP.res ρ (Rp++Rr))⟩ s x->al ⟨w,A,bg (aP.res ρ R)⟩ s x:=fun s x hx=>⟨hx.1.imp id (Or.imp (fun h=>(hbm x).1 h) id),hx.2⟩
  refine⟨v,av,σ',g1,g2,⟨⟨⟨g3.kp.os,g3.kp.tape,g3.kp.output,g3.kp.size,fun k hk hn=>g3.kp.block k hk fun hx=>hn ((hbm k).1 hx)⟩,fun rr hrr=>(g3.good.res rr hrr).mono (fun x _ hA=>⟨hal _ x hA,rfl⟩) (fun _ _=>rfl),g3.good.Ac,fun x hx=>(g3.good.own x hx).imp (fun h=>(hbm x).1 h) id⟩,⟨g3.kp.os,g3.kp.tape,g3.kp.output,g3.kp.size,fun k hk hn=>g3.kp.block k hk fun hx=>hn ((hbm k).1 hx)⟩,fun x hx hA=> ?_⟩,g4.mono fun x _ hA=>⟨hal _ x hA,rfl⟩⟩
  have hA':al ⟨w,A,bg (aP.res ρ (Rp++Rr))⟩ (aP.res ρ (Rp++Rr)) x:=⟨hA.1.imp id (Or.imp (fun h=>(hbm x).2 h) id),fun h=>hA.2 ((hbm x).1 h)⟩
  exact⟨hal _ x (g3.al x hx hA').1,fun h=>hA.2 h⟩
 refine Fn.mono h3 fun a s ⟨so,⟨ρ1,g0,g1,g2⟩,g3⟩=> ?_
 let ρ2:Gh:=⟨fun i=>if i<nx then ρ.v i else ρ1.v (n0+(i-nx)),fun i=>if i<nx then ρ.b i else ρ1.b (n0+(i-nx))⟩
 have hag:oV nx ρ ρ2:=fun i hi=>⟨by simp only[ρ2,if_pos hi],by simp only[ρ2,if_pos hi]⟩
 have hb2:∀i,Nat.blt i (out b).c=true->(ρ2.v (mS ns n0 nx i)=ρ1.v i/\ρ2.b (mS ns n0 nx i)=ρ1.b i)/\mS ns n0 nx i<nx+((out b).c-n0):=fun i hi=>by
  have hi:i<(out b).c:=by simpa [Nat.blt_eq]using hi
  unfold mS
  split
  ·rename_i hlt
   have hlt:i<n0:=by simpa [Nat.blt_eq]using hlt
   obtain⟨e1,e2⟩:=g0 i hlt
   have hlt2:i<ns.length:=by rw[hlen];exact hlt
   have hmem:ns.getD i 0∈ns:=by rw[List.getD_eq_getElem?_getD,List.getElem?_eq_getElem hlt2];exact List.getElem_mem hlt2
   have h4:=hnsl _ hmem
   refine⟨⟨?_,?_⟩,by omega⟩
   ·show (if ns.getD i 0<nx then ρ.v (ns.getD i 0)else _)=_
    rw[if_pos h4];exact e1
   ·show (if ns.getD i 0<nx then ρ.b (ns.getD i 0)else _)=_
    rw[if_pos h4];exact e2
  ·rename_i hlt
   have hlt:¬i<n0:=by
    intro hx
    have:Nat.blt i n0=true:=by rw[Nat.blt_eq];exact hx
    rw[this]at hlt;cases hlt
   have h5:¬nx+(i-n0)<nx:=by omega
   have h6:n0+(nx+(i-n0)-nx)=i:=by omega
   refine⟨⟨?_,?_⟩,by omega⟩
   ·show (if nx+(i-n0)<nx then _ else ρ1.v (n0+(nx+(i-n0)-nx)))=_
    rw[if_neg h5,h6]
   ·show (if nx+(i-n0)<nx then _ else ρ1.b (n0+(nx+(i-n0)-nx)))=_
    rw[if_neg h5,h6]
 have hres:aP.res ρ2 ((out b).R.map fun q=>(mS ns n0 nx q.1,Ea (mS ns n0 nx) q.2))=aP.res ρ1 (out b).R:=by
  unfold aP.res
  rw[List.map_map]
  refine List.map_congr_left fun q hq=> ?_
  have hbq:=List.all_eq_true.1 ho2 q hq
  rw[Bool.and_eq_true]at hbq
  obtain⟨i,rr⟩:=q
  cases rr with
  |row t l=>show b9.row (ρ2.v (mS ns n0 nx i)) t l= .row (ρ1.v i) t l;rw[(hb2 i hbq.1).1.1]
  |box T cs=>
   show b9.box (ρ2.b (mS ns n0 nx i)) T ((cs.map (kf (mS ns n0 nx) 4)).map (bL.sub ρ2))= .box (ρ1.b i) T (cs.map (bL.sub ρ1))
   rw[(hb2 i hbq.1).1.2,List.map_map]
   congr 1
   exact List.map_congr_left fun c hc=>gX (fun i hi=>(hb2 i hi).1) 4 (List.all_eq_true.1 hbq.2 c hc)
 refine⟨_,_,_,hr,by omega,jR (fun i hi=>(hb2 i hi).2) 4 ho1,fun q hq=> ?_,ρ2,hag,?_,?_⟩
 ·rcases List.mem_append.1 hq with hq|hq
  ·obtain⟨q',h4,rfl⟩:=List.mem_map.1 hq
   have hbq:=List.all_eq_true.1 ho2 q' h4
   rw[Bool.and_eq_true]at hbq
   refine⟨(hb2 _ hbq.1).2,?_⟩
   obtain⟨i,rr⟩:=q'
   cases rr with
   |row t l=>trivial
   |box T cs=>
    intro c hc
    obtain⟨c',h5,rfl⟩:=List.mem_map.1 hc
    exact jR (fun i hi=>(hb2 i hi).2) 4 (List.all_eq_true.1 hbq.2 c' h5)
  ·have:=hRs q (List.mem_append_right _ hq)
   exact⟨by omega,this.2.mono (by omega)⟩
 ·rw[g1];exact(gX (fun i hi=>(hb2 i hi).1) 4 ho1).symm
 ·rw[g3,jl,hres,<-aP.cg.res (R:=Rr) (fun q hq=>hRs q (List.mem_append_right _ hq)) hag]
  exact g2.append_right _
def scD(n:Nat):AV->Bool:=Nat.rec (fun d=>match d with
 | .lit _=>true
 | .own _=>true
 | .ptr _ _=>true
 |_=>false) (fun _ ih d=>match d with
 | .lit _=>true
 | .own _=>true
 | .ptr _ _=>true
 | .agg cs=>cs.all ih
 | .gY cs=>cs.all ih
 |_=>false) n
theorem PF{ρ:Gh}:∀(n:Nat) {d:AV},scD n d=true->Cl (d.sub ρ):=fun n=>by
 induction n with
 |zero=>
  intro d h
  cases d<;>first|(cases h;done)|(rw[bC];exact .lit _)|(rw[cQ];exact .lit _)|(rw[dQ];exact .lit _)
 |succ n ih=>
  have hL:∀{cs:List AV},cs.all (scD n)=true->D4 (cs.map (bL.sub ρ)):=fun{cs} h=>by
   induction cs with
   |nil=>exact .nil
   |cons c cs ihc=>
    rw[List.all_cons,Bool.and_eq_true]at h
    exact .cons (ih h.1) (ihc h.2)
  intro d h
  cases d<;>first|(cases h;done)|(rw[bC];exact .lit _)|(rw[cQ];exact .lit _)|(rw[dQ];exact .lit _)|skip
  ·rw[dG];exact .agg (hL h)
  ·rw[jm];exact .gY (hL h)
theorem KJ{n:Nat}{ρ:Gh}:∀cs:List AV,cs.all (scD n)=true->D4 (cs.map (bL.sub ρ))
 |[],_=> .nil
 |c::cs,h=>by
  rw[List.all_cons,Bool.and_eq_true]at h
  exact .cons (PF n h.1) (KJ cs h.2)
def Out.scB(sc:Nat->Bool)(x:Out):Bool:=scD 4 x.d&&x.R.all fun q=>match q.2 with
 | .row t _=>sc t
 | .box _ cs=>cs.all (scD 3)
theorem Vi{sc:Nat->Bool}(hsc:∀t,sc t=true->∀x,D4 (U.cells t x)){x:Out}(h:x.scB sc=true)(ρ:Gh):Cl (x.d.sub ρ)/\∀r∈aP.res ρ x.R,ClR r:=by
 unfold Out.scB at h
 rw[Bool.and_eq_true]at h
 refine⟨PF 4 h.1,fun r hr=> ?_⟩
 obtain⟨q,hq,rfl⟩:=List.mem_map.1 hr
 have hb:=List.all_eq_true.1 h.2 q hq
 obtain⟨i,rr⟩:=q
 cases rr with
 |row t l=>exact ClR.row (hsc t hb)
 |box T cs=>
  exact ClR.box (KJ cs hb)
def LL{α γ β:Type}(q:List AV->Option γ)(t:γ->Option β)(out:β->Out)(args:List AV)(R:aP)(nx:Nat)(k:AV->aP->Nat->Option α)(F:Option α):Option α:=
 match args.all (apO 4)with
 |true=>match q args with
  |some g=>match t g with
   |some b=>k (kf (fun i=>i+nx) 4 (out b).d) ((out b).R.map (fun q=>(q.1+nx,Ea (fun i=>i+nx) q.2))++R) ((out b).c+nx)
   |none=>none
  |none=>F
 |false=>F
def TE{γ β:Type}(f0:Nat)(lb:Bool)(q:List AV->Option γ)(t:γ->Option β)(out:β->Out)(F:aI):aI:=fun _ f args R nx k=>match Nat.beq f f0 with
 |true=>LL q t out (args.map (zW lb (eO R) 3)) R nx k (F _ f args R nx k)
 |false=>F _ f args R nx k
theorem adm{P:Program}{F:aI}{γ β:Type}{f0:Nat}{lb:Bool}{q:List AV->Option γ}{ca:γ->List AV}{t:γ->Option β}{out:β->Out}{sc:Nat->Bool}(hF:gi P F)(hsc:∀t,sc t=true->∀x,D4 (U.cells t x))(hf:uw P f0)(hq:G0 q ca)(hm:∀b,(out b).okB 0=true)(hs:∀b,(out b).scB sc=true)
  (h:∀g b,t g=some b->Mj P f0 (ca g) [] 0 (out b)):gi P (TE f0 lb q t out F):=fun α f args R nx k r hr hargs hR=>by
 unfold TE at hr
 split at hr
 case h_2=>exact hF α f args R nx k r hr hargs hR
 rename_i hb
 have hb:=eV hb
 subst hb
 unfold LL at hr
 split at hr
 case h_2=>exact hF α f args R nx k r hr hargs hR
 rename_i hcl
 split at hr
 case h_2=>exact hF α f args R nx k r hr hargs hR
 rename_i g hg
 split at hr
 case h_2=>cases hr
 rename_i b hb
 obtain⟨hqa,_⟩:=hq _ g hg
 have hok:=hm b
 unfold Out.okB at hok
 rw[Bool.and_eq_true,Bool.and_eq_true]at hok
 obtain⟨⟨_,ho1⟩,ho2⟩:=hok
 refine⟨hf,fun ρ=> ?_⟩
 have h1:Fn P f ((ca g).map (bL.sub ρ)) [] _:=h g b hb ρ
 have h2:=Fn.an9 (args:=args.map (bL.sub ρ)) (σr:=aP.res ρ R) h1 (fun A w us hd hrel=>by
  refine hqa ρ _ w us ⟨by simpa using hrel.1,fun j a v q1 q2=> ?_⟩
  rw[List.map_map,List.getElem?_map]at q1
  obtain⟨c,hc,rfl⟩:=Option.map_eq_some_iff.1 q1
  exact OG hd 3 ((hrel.2 j _ v (by rw[List.getElem?_map,hc];rfl) q2).mono fun b _ hA=>⟨.inl hA,rfl⟩)) (fun av σo ⟨ρ',_,e1,e2⟩=>by
   obtain⟨c1,c2⟩:=Vi hsc (hs b) ρ'
   subst e1
   exact⟨c1,fun r hr=>c2 r (e2.mem_iff.1 hr)⟩)
 have hlt:∀i,Nat.blt i (out b).c=true->i+nx<(out b).c+nx:=fun i hi=>by rw[Nat.blt_eq]at hi;omega
 refine Fn.mono h2 fun a s ⟨s',⟨ρ1,_,g1,g2⟩,g3⟩=> ?_
 let ρ2:Gh:=⟨fun i=>if i<nx then ρ.v i else ρ1.v (i-nx),fun i=>if i<nx then ρ.b i else ρ1.b (i-nx)⟩
 have hag:oV nx ρ ρ2:=fun i hi=>⟨by simp only[ρ2,if_pos hi],by simp only[ρ2,if_pos hi]⟩
 have hp:∀i,Nat.blt i (out b).c=true->ρ2.v (i+nx)=ρ1.v i/\ρ2.b (i+nx)=ρ1.b i:=fun i _=>by
  have:¬i+nx<nx:=by omega
  exact⟨by simp only[ρ2,if_neg this,Nat.add_sub_cancel],by simp only[ρ2,if_neg this,Nat.add_sub_cancel]⟩
 have hres:aP.res ρ2 ((out b).R.map fun q=>(q.1+nx,Ea (fun i=>i+nx) q.2))=aP.res ρ1 (out b).R:=by
  unfold aP.res
  rw[List.map_map]
  refine List.map_congr_left fun q hq=> ?_
  have hbq:=List.all_eq_true.1 ho2 q hq
  rw[Bool.and_eq_true]at hbq
  obtain⟨i,rr⟩:=q
  cases rr with
  |row t l=>show b9.row (ρ2.v (i+nx)) t l= .row (ρ1.v i) t l;rw[(hp i hbq.1).1]
  |box T cs=>
   show b9.box (ρ2.b (i+nx)) T ((cs.map (kf (fun i=>i+nx) 4)).map (bL.sub ρ2))= .box (ρ1.b i) T (cs.map (bL.sub ρ1))
   rw[(hp i hbq.1).2,List.map_map]
   congr 1
   exact List.map_congr_left fun c hc=>gX hp 4 (List.all_eq_true.1 hbq.2 c hc)
 refine⟨_,_,_,hr,Nat.le_add_left _ _,jR hlt 4 ho1,fun q hq=> ?_,ρ2,hag,?_,?_⟩
 ·rcases List.mem_append.1 hq with hq|hq
  ·obtain⟨q',h4,rfl⟩:=List.mem_map.1 hq
   have hbq:=List.all_eq_true.1 ho2 q' h4
   rw[Bool.and_eq_true]at hbq
   refine⟨hlt _ hbq.1,?_⟩
   obtain⟨i,rr⟩:=q'
   cases rr with
   |row t l=>trivial
   |box T cs=>
    intro c hc
    obtain⟨c',h5,rfl⟩:=List.mem_map.1 hc
    exact jR hlt 4 (List.all_eq_true.1 hbq.2 c' h5)
  ·exact(hR.mono (Nat.le_add_left _ _)) q hq
 ·rw[g1];exact(gX hp 4 ho1).symm
 ·rw[g3,jl,hres,<-hR.res hag]
  exact g2.append_right _
theorem aK{P:Program}:aZ P cL:=⟨afY,fun _ _ _ _ _ _ _ _=>rfl⟩
theorem Wf{γ δ:Type}{f0 n0:Nat}{q:List AV->aP->Option γ}{t:γ->Option δ}{out:δ->Out}{F:aI}(hN:cS F):cS (XJ f0 n0 q t out F):=fun α β f args R nx k D=>by
 unfold XJ
 split
 ·unfold Te Qz
  split
  ·split
   ·split<;>rfl
   ·exact hN ..
  ·exact hN ..
 ·exact hN ..
theorem X8{γ δ:Type}{f0:Nat}{lb:Bool}{q:List AV->Option γ}{t:γ->Option δ}{out:δ->Out}{F:aI}(hN:cS F):cS (TE f0 lb q t out F):=fun α β f args R nx k D=>by
 unfold TE
 split
 ·unfold LL
  split
  ·split
   ·split<;>rfl
   ·exact hN ..
  ·exact hN ..
 ·exact hN ..
theorem acu{P:Program}{F:aI}{γ β:Type}{f0 n0:Nat}{q:List AV->aP->Option γ}{ca:γ->List AV}{cr:γ->aP}{t:γ->Option β}{out:β->Out}(hF:aZ P F)(hf:uw P f0)(hq:QY q ca cr)(hm:∀b,(out b).okB n0=true)
 (h:∀g b,t g=some b->Mj P f0 (ca g) (cr g) n0 (out b)):aZ P (XJ f0 n0 q t out F):=⟨ady hF.ok hf hq hm h,Wf hF.nat⟩
theorem ahG{P:Program}{F:aI}{γ β:Type}{f0:Nat}{lb:Bool}{q:List AV->Option γ}{ca:γ->List AV}{t:γ->Option β}{out:β->Out}{sc:Nat->Bool}(hF:aZ P F)(hsc:∀t,sc t=true->∀x,D4 (U.cells t x))(hf:uw P f0)(hq:G0 q ca)(hm:∀b,(out b).okB 0=true)(hs:∀b,(out b).scB sc=true)
 (h:∀g b,t g=some b->Mj P f0 (ca g) [] 0 (out b)):aZ P (TE f0 lb q t out F):=⟨adm hF.ok hsc hf hq hm hs h,X8 hF.nat⟩
theorem aY{f:FuncId}:aV cL f:=fun _ _ _ _ _ _ h=>by cases h
theorem fy{γ β:Type}{f0:Nat}{lb:Bool}{q:List AV->Option γ}{t:γ->Option β}{out:β->Out}{F:aI}{f:FuncId}(h:aV F f)(hm:∀b,(out b).R=[]):aV (TE f0 lb q t out F) f:=fun args R nx d R' nx' hr=>by
 unfold TE at hr
 split at hr
 ·unfold LL at hr
  split at hr
  ·split at hr
   ·split at hr
    ·rw[hm]at hr
     cases hr
     rfl
    ·cases hr
   ·exact h _ _ _ _ _ _ hr
  ·exact h _ _ _ _ _ _ hr
 ·exact h _ _ _ _ _ _ hr
theorem Fp{γ β:Type}{f0:Nat}{lb:Bool}{q:List AV->Option γ}{t:γ->Option β}{out:β->Out}{F:aI}{f:FuncId}(hne:Nat.beq f f0=false)(h:aV F f):aV (TE f0 lb q t out F) f:=fun args R nx d R' nx' hr=>by
 unfold TE at hr
 rw[hne]at hr
 exact h _ _ _ _ _ _ hr
theorem FC{γ β:Type}{f0 n0:Nat}{q:List AV->aP->Option γ}{t:γ->Option β}{out:β->Out}{F:aI}{f:FuncId}(hne:Nat.beq f f0=false)(h:aV F f):aV (XJ f0 n0 q t out F) f:=fun args R nx d R' nx' hr=>by
 unfold XJ at hr
 rw[hne]at hr
 exact h _ _ _ _ _ _ hr
theorem bX{α:Type}(b:Bool)(x y:α):(bif b then some x else some y)=some (bif b then x else y):=by cases b<;>rfl
theorem cn{α:Type}(p:Prop)[Decidable p](x y:α):(if p then some x else some y)=some (if p then x else y):=by split<;>rfl
theorem mG{n0:Nat}{args:List AV}(h:args.all (jW (fun i=>Nat.blt i n0) 4)=true):∀d∈args,cg n0 d:=fun d hd=>(we 4 (List.all_eq_true.1 h d hd)).mono fun i hi=>by rw[Nat.blt_eq]at hi;exact hi
theorem j7{n0:Nat}{R:aP}(h:R.all (fun q=>Nat.blt q.1 n0&&match q.2 with
  | .box _ cs=>cs.all (jW (fun i=>Nat.blt i n0) 4)
  | .row _ _=>true)=true):aP.cg n0 R:=fun q hq=>by
 have hb:=List.all_eq_true.1 h q hq
 rw[Bool.and_eq_true,Nat.blt_eq]at hb
 refine⟨hb.1,?_⟩
 obtain⟨i,rr⟩:=q
 cases rr with
 |row t l=>trivial
 |box T cs=>exact mG hb.2
def qy0{γ:Type}(q:List AV->Option γ)(xs:List AV)(R:aP):Option γ:=match R with
 |[]=>q xs
 |_=>none
theorem aem{γ:Type}{q:List AV->Option γ}{ca:γ->List AV}(h:G0 q ca):QY (qy0 q) ca (fun _=>[]):=fun xs R g hg=>by
 unfold qy0 at hg
 split at hg
 ·exact⟨(h xs g hg).1, .nil⟩
 ·cases hg
def qyR{γ δ:Type}(q:List AV->Option γ)(r:aP->Option δ)(xs:List AV)(R:aP):Option (γ×δ):=match q xs with
 |some g=>match r R with
  |some h=>some (g,h)
  |none=>none
 |none=>none
theorem aeF{γ δ:Type}{q:List AV->Option γ}{ca:γ->List AV}{r:aP->Option δ}{cr:δ->aP}(hq:G0 q ca)(hr:y7 r cr):QY (qyR q r) (fun g=>ca g.1) (fun g=>cr g.2):=fun xs R g hg=>by
 unfold qyR at hg
 split at hg
 ·rename_i g' h1
  split at hg
  ·rename_i h' h2
   cases hg
   exact⟨(hq xs g' h1).1,hr R h' h2⟩
  ·cases hg
 ·cases hg
open Classical in
def lim{β:Type}(m:Nat->Option β):Option β:=if h:∃b N,∀n,N<=n->m n=some b then some (Classical.choose h)else none
theorem cz{β:Type}{m:Nat->Option β}{b:β}(h:lim m=some b):∃n,m n=some b:=by
 unfold lim at h
 split at h
 ·rename_i hx
  cases h
  obtain⟨N,hN⟩:=Classical.choose_spec hx
  exact⟨N,hN N (Nat.le_refl _)⟩
 ·cases h
theorem cZ{β:Type}{m:Nat->Option β}{b:β}(N:Nat)(h:∀n,N<=n->m n=some b):lim m=some b:=by
 have hx:∃b N,∀n,N<=n->m n=some b:=⟨b,N,h⟩
 unfold lim
 rw[dif_pos hx]
 obtain⟨M,hM⟩:=Classical.choose_spec hx
 have h1:=hM (max M N) (Nat.le_max_left _ _)
 rw[h (max M N) (Nat.le_max_right _ _)]at h1
 exact h1.symm
theorem MG{P:Program}{f:FuncId}{t:Nat}{x:Out}(h1:∀c,Mj P f [.lit (.slice none 0 c)] [] 0 x)(h2:∀a c,Mj P f [.lit (.slice (some a) 0 c)] [] 0 x):Mj P f [.sl t []] [] 0 x:=fun ρ w A vs hr hd hn=>by
 have hr':bk A w [(bL.sl t []:AV).sub ρ] vs:=hr
 obtain⟨v,us,rfl,h3,h4⟩:=hr'.head
 rw[e9]at h3
 obtain⟨p,c,g,hv,_⟩:=h3.sG
 have hz:us=[]:=List.eq_nil_of_length_eq_zero (by simpa using h4.1)
 subst hz hv
 cases p with
 |none=>exact h1 c ρ w A _ (bk.cons (by rw[bC];exact .lit _) bk.nil) hd hn
 |some a=>exact h2 a c ρ w A _ (bk.cons (by rw[bC];exact .lit _) bk.nil) hd hn
def aoo:AV->Bool
 | .lit _=>true
 |_=>false
theorem K9:∀(cs:List AV),cs.all aoo=true->D4 cs
 |[],_=> .nil
 |c::cs,h=>by
  rw[List.all_cons,Bool.and_eq_true]at h
  refine .cons ?_ (K9 cs h.2)
  cases c<;>first|(cases h.1;done)|exact .lit _
end Go.Iv
end
noncomputable section
namespace Go.Proofs.YtnfljbehcffmcaaGreat
open Go Go.Iv
def scK:Ky->Bool
 | .k3=>true
 | .k4=>true
 | .k5=>true
 | .k34=>true
 | .k37=>true
 | .k129=>true
 | .k131=>true
 | .k256=>true
 | .k260=>true
 | .k331=>true
 |_=>false
def wQ(t:Nat):Bool:=scK (ky t)
theorem ahe:(k:Ky)->scK k=true->(x:wV k)->D4 (mj k x):=by
 intro k h x
 cases k<;>first|(cases h;done)|exact K9 _ rfl
theorem dL(t:Nat)(h:wQ t=true)(x:uni.cE t):D4 (uni.cells t x):=ahe (ky t) h x
end Go.Proofs.YtnfljbehcffmcaaGreat
end
