/- Merged: Ne1, Pl2, Ne2, Ne3, Ne4, Ne5, Ne6, Ne7, Ne8, Ne11, Ne12, Ne13, Ne14, Ne15, Ne16, Ne17, Ne18, Ne19, Ne20, Ne21, Ne22, Ne23, Ne24, Ne25, Ne26, Ne27, Ne28, Ne29, Ga, Pfew, Pd. -/
import Derived.Test.YtnfljbehcffmcaaGreatM3AbstractRuns
import Derived.Test.YtnfljbehcffmcaaGreatM2AbstractRuns
set_option linter.unusedSectionVars false
set_option linter.unusedVariables false
set_option linter.unusedSimpArgs false
noncomputable section
namespace Go.Proofs.YtnfljbehcffmcaaGreat
open Go Go.Iv
def bJ(a b:Int):Int:=((Int.gcd a b:Nat):Int)
theorem n9{a b:Int}(h1:0<=a)(h2:0<=b):Int.gcd b (a.tmod b)=Int.gcd a b:=by
 obtain⟨x,rfl⟩:=Int.eq_ofNat_of_zero_le h1
 obtain⟨y,rfl⟩:=Int.eq_ofNat_of_zero_le h2
 rw[iZ h1]
 show Nat.gcd y ((x:Int)%(y:Int)).natAbs=Nat.gcd x y
 rw[<-Int.natCast_emod,Int.natAbs_natCast,Nat.gcd_comm,<-Nat.gcd_rec,Nat.gcd_comm]
theorem acg{a:Int}(h:0<=a):((Int.gcd a 0:Nat):Int)=a:=by
 rw[Int.gcd_zero_right];omega
theorem vN{x:Int}:(bif decide (x=0)then false else true)=decide (¬x=0):=by
 by_cases h:x=0
 ·rw[decide_eq_true h,decide_eq_false (fun k=>k h)];rfl
 ·rw[decide_eq_false h,decide_eq_true h];rfl
theorem aff{a b:Int}(h1:0<=a)(h2:0<=b):zq (jA.mk a b)=some (jA.mk (Int.gcd a b) 0):=by
 obtain⟨z,e,⟨x,y,rfl,hx,hy,hg⟩,hs⟩:=jN (rnd:=qG) (fun p=>∃x y,p=jA.mk x y/\0<=x/\0<=y/\Int.gcd x y=Int.gcd a b) (fun p=>p.t1.toNat) (fun p p' ⟨x,y,hp,hx,hy,hg⟩ hn=>by
  subst hp
  have hn:qG (jA.mk x y)=some (some p'):=hn
  simp only[qG,vN]at hn
  by_cases h0:y=0
  ·rw[eF,cond_false]at hn;cases hn
  ·rw[decide_eq_true h0,cond_true,if_pos h0]at hn
   simp only[Option.some.injEq]at hn
   subst hn
   have m0:=Int.emod_nonneg x (b:=y) h0
   have m1:=Int.emod_lt_of_pos x (b:=y) (by omega)
   refine⟨⟨y,x.tmod y,rfl,hy,by rw[iZ hx];exact m0,by rw[n9 hx hy,hg]⟩,?_⟩
   show (x.tmod y).toNat<y.toNat
   rw[iZ hx];omega) ⟨a,b,rfl,h1,h2,rfl⟩
 have h0:y=0:=Decidable.byContradiction fun h0=>hs _ (show qG _=some (some _)by
  simp only[qG,vN]
  rw[decide_eq_true h0,cond_true,if_pos h0])
 subst h0
 rw[show zq=bt qG from rfl,e,<-hg,acg hx]
theorem v8{a b:Int}(h1:0<=a)(h2:0<=b):vM a b=some (bJ a b):=by
 unfold vM
 rw[aff h1 h2]
 rfl
theorem afK{a b k n:Int}{l:List Int}(h1:0<=a)(h2:0<=b):tU (iS.mk a b l n k)=some (iS.mk (Int.gcd a b) 0 l n k):=by
 obtain⟨z,e,⟨x,y,rfl,hx,hy,hg⟩,hs⟩:=jN (rnd:=rP) (fun p=>∃x y,p=iS.mk x y l n k/\0<=x/\0<=y/\Int.gcd x y=Int.gcd a b) (fun p=>p.t5.toNat) (fun p p' ⟨x,y,hp,hx,hy,hg⟩ hn=>by
  subst hp
  have hn:rP (iS.mk x y l n k)=some (some p'):=hn
  simp only[rP,vN]at hn
  by_cases h0:y=0
  ·rw[eF,cond_false]at hn;cases hn
  ·rw[decide_eq_true h0,cond_true,if_pos h0]at hn
   simp only[Option.some.injEq]at hn
   subst hn
   have m0:=Int.emod_nonneg x (b:=y) h0
   have m1:=Int.emod_lt_of_pos x (b:=y) (by omega)
   refine⟨⟨y,x.tmod y,rfl,hy,by rw[iZ hx];exact m0,by rw[n9 hx hy,hg]⟩,?_⟩
   show (x.tmod y).toNat<y.toNat
   rw[iZ hx];omega) ⟨a,b,rfl,h1,h2,rfl⟩
 have h0:y=0:=Decidable.byContradiction fun h0=>hs _ (show rP _=some (some _)by
  simp only[rP,vN]
  rw[decide_eq_true h0,cond_true,if_pos h0])
 subst h0
 rw[show tU=bt rP from rfl,e,<-hg,acg hx]
theorem wS{a k k1:Int}{l:List Int}(i:Nat)(h1:0<=a)(hk:k=i)(hk1:k1=i+1)(hi:i<l.length)(hl:l.length<=1000)(h2:0<=l[i]!):rK (lU.mk a l l.length k)=some (some (lU.mk (bJ a l[i]!) l l.length k1)):=by
 subst hk hk1
 unfold rK
 simp only
 rw[pU,cond_true,fA,Int.toNat_natCast,afK h1 h2]
 simp only
 rw[decide_eq_true trivial,cond_true,cond_false,aF]
 rfl
theorem yZ{a b:Int}(h1:0<=a)(h2:0<=b):vS [a,b]=some (bJ a b):=by
 unfold vS
 rw[show yM=bt rK from rfl,
  bD (wS (l:=[a,b]) (k:=0) (k1:=1) 0 (Int.le_refl 0) rfl rfl (by simp) (by simp) h1),bD (wS (l:=[a,b]) (k:=1) (k1:=2) 1 (by unfold bJ;omega) rfl rfl (by simp) (by simp) h2)]
 rw[bU (by intro r hr;simp[rK]at hr)]
 simp only
 rw[decide_eq_false (by simp),cond_false]
 show some (bJ (bJ 0 a) b)=_
 unfold bJ
 rw[Int.gcd_zero_left,show ((a.natAbs:Nat):Int)=a by omega]
theorem xJ{a b c:Int}(h1:0<=a)(h2:0<=b)(h3:0<=c):vS [a,b,c]=some (bJ (bJ a b) c):=by
 unfold vS
 rw[show yM=bt rK from rfl,
  bD (wS (l:=[a,b,c]) (k:=0) (k1:=1) 0 (Int.le_refl 0) rfl rfl (by simp) (by simp) h1),bD (wS (l:=[a,b,c]) (k:=1) (k1:=2) 1 (by unfold bJ;omega) rfl rfl (by simp) (by simp) h2),
  bD (wS (l:=[a,b,c]) (k:=2) (k1:=3) 2 (by unfold bJ;omega) rfl rfl (by simp) (by simp) h3)]
 rw[bU (by intro r hr;simp[rK]at hr)]
 simp only
 rw[decide_eq_false (by simp),cond_false]
 show some (bJ (bJ (bJ 0 a) b) c)=_
 rw[show bJ 0 a=a from by unfold bJ;rw[Int.gcd_zero_left];omega]
end Go.Proofs.YtnfljbehcffmcaaGreat
end
noncomputable section
namespace Go.Iv
open Go
variable [U:qz] [L:lY]
def JF{α β ρ τ:Type}(step:Nat->β->α->β ⊕ ρ)(out:ρ->τ)(fin:β->τ):List α->Nat->β->τ
 |[],_,b=>fin b
 |x::xs,i,b=>match step i b x with
  | .inl b'=>JF step out fin xs (i+1) b'
  | .inr r=>out r
theorem tg{α β ρ τ:Type}{step:Nat->β->α->β ⊕ ρ}{out:ρ->τ}{fin:β->τ}{x:α}{xs:List α}{i:Nat}{b b':β}(h:step i b x= .inl b'):JF step out fin (x::xs) i b=JF step out fin xs (i+1) b':=by
 simp only[JF,h]
theorem wk{α β ρ τ:Type}{step:Nat->β->α->β ⊕ ρ}{out:ρ->τ}{fin:β->τ}{x:α}{xs:List α}{i:Nat}{b:β}{r:ρ}(h:step i b x= .inr r):JF step out fin (x::xs) i b=out r:=by
 simp only[JF,h]
theorem R4{γ α β ρ τ:Type}[Inhabited α]{rnd:γ->Option (Option γ)}(l:List α)(mk:Nat->β->γ)(step:Nat->β->α->β ⊕ ρ)(out:ρ->τ)(fin:β->τ)(I:Nat->β->Prop)
  (h1:∀i b,i<l.length->I i b->(∀b',step i b l[i]! = .inl b'->rnd (mk i b)=some (some (mk (i+1) b'))/\I (i+1) b')/\∀r,step i b l[i]! = .inr r->rnd (mk i b)=some none)
  (h2:∀b,I l.length b->rnd (mk l.length b)=some none) {b:β} (hb:I 0 b):
  ∃i v,bt rnd (mk 0 b)=some (mk i v)/\I i v/\((i=l.length/\JF step out fin l 0 b=fin v)\/(i<l.length/\∃r,step i v l[i]! = .inr r/\JF step out fin l 0 b=out r)):=by
 have key:∀(xs:List α) (i:Nat) (b:β),l.drop i=xs->i<=l.length->I i b->∃j v,bt rnd (mk i b)=some (mk j v)/\I j v/\((j=l.length/\JF step out fin xs i b=fin v)\/(j<l.length/\∃r,step j v l[j]! = .inr r/\JF step out fin xs i b=out r)):=by
  intro xs
  induction xs with
  |nil=>
   intro i b hd hi hb
   have:i=l.length:=by have:=congrArg List.length hd;simp at this;omega
   subst this
   exact⟨_,b,bU (fun r=>by rw[h2 b hb];simp),hb, .inl ⟨rfl,rfl⟩⟩
  |cons x xs ih=>
   intro i b hd hi hb
   have hil:i<l.length:=by have:=congrArg List.length hd;simp at this;omega
   have hx:l[i]! =x:=by
    have:=congrArg List.head? hd
    rw[List.head?_drop,List.getElem?_eq_getElem hil]at this
    rw[getElem!_pos l i hil]
    simpa using this
   have hd':l.drop (i+1)=xs:=by
    have:=congrArg List.tail hd
    rw[List.tail_drop]at this
    simpa using this
   obtain⟨p1,p2⟩:=h1 i b hil hb
   cases hs:step i b x with
   |inl b'=>
    obtain⟨q1,q2⟩:=p1 b' (by rw[hx];exact hs)
    obtain⟨j,v,e2,e3,e4⟩:=ih (i+1) b' hd' hil q2
    rw[tg hs]
    exact⟨j,v,by rw[bD q1];exact e2,e3,e4⟩
   |inr r=>
    rw[wk hs]
    exact⟨i,b,bU (fun r'=>by rw[p2 r (by rw[hx];exact hs)];simp),hb, .inr ⟨hil,r,by rw[hx];exact hs,rfl⟩⟩
 exact key l 0 b rfl (Nat.zero_le _) hb
theorem aU{α:Type}[Inhabited α]{l:List α}{i:Nat}(h:i<l.length):l[i]!∈l:=by rw[getElem!_pos l i h];exact List.getElem_mem h
theorem fh{i n:Nat}(h:i<n)(hn:n<=1000000):IntKind.i64.wrap ((i:Int)+1)=((i+1:Nat):Int):=by rw[aF];omega
theorem mT{γ β:Type}{rnd:γ->Option (Option γ)}(n:Nat)(mk:Nat->β->γ)(I S:Nat->β->Prop)
  (h1:∀i b,i<n->I i b->(∃b',rnd (mk i b)=some (some (mk (i+1) b'))/\I (i+1) b')\/(rnd (mk i b)=some none/\S i b))
  (h2:∀b,I n b->rnd (mk n b)=some none) {b:β} (hb:I 0 b):
  ∃i v,bt rnd (mk 0 b)=some (mk i v)/\I i v/\(i=n\/(i<n/\S i v)):=by
 have key:∀(k i:Nat) (b:β),i+k=n->I i b->∃j v,bt rnd (mk i b)=some (mk j v)/\I j v/\(j=n\/(j<n/\S j v)):=by
  intro k
  induction k with
  |zero=>
   intro i b hi hb
   have:i=n:=by omega
   subst this
   exact⟨_,b,bU (fun r=>by rw[h2 b hb];simp),hb, .inl rfl⟩
  |succ k ih=>
   intro i b hi hb
   rcases h1 i b (by omega) hb with ⟨b',q1,q2⟩|⟨q1,q2⟩
   ·rw[bD q1]
    exact ih (i+1) b' (by omega) q2
   ·exact⟨i,b,bU (fun r=>by rw[q1];simp),hb, .inr ⟨by omega,q2⟩⟩
 exact key n 0 b (by omega) hb
theorem cK{γ β:Type}{rnd:γ->Option (Option γ)}(n:Nat)(mk:Nat->β->γ)(I:Nat->β->Prop)
  (h1:∀i b,i<n->I i b->∃b',rnd (mk i b)=some (some (mk (i+1) b'))/\I (i+1) b')
  (h2:∀b,I n b->rnd (mk n b)=some none) {b:β} (hb:I 0 b):∃v,bt rnd (mk 0 b)=some (mk n v)/\I n v:=by
 obtain⟨i,v,e,hi,h⟩:=mT n mk I (fun _ _=>False) (fun i b hi hb=> .inl (h1 i b hi hb)) h2 hb
 rcases h with rfl|⟨_,h⟩
 ·exact⟨v,e,hi⟩
 ·exact h.elim
def bW{α:Type}(c:Nat->α->Int):List α->Nat->Int
 |[],_=>0
 |x::xs,i=>if c i x=0 then bW c xs (i+1)else c i x
theorem qy{γ α:Type}[Inhabited α]{rnd:γ->Option (Option γ)}(l:List α)(mk:Nat->γ)(c:Nat->α->Int)
  (h1:∀i,i<l.length->(c i l[i]! =0->rnd (mk i)=some (some (mk (i+1))))/\(c i l[i]!≠0->rnd (mk i)=some none))
  (h2:rnd (mk l.length)=some none):
  ∃i,bt rnd (mk 0)=some (mk i)/\((i=l.length/\bW c l 0=0)\/(i<l.length/\c i l[i]!≠0/\bW c l 0=c i l[i]!)):=by
 have key:∀(xs:List α) (i:Nat),l.drop i=xs->i<=l.length->∃j,bt rnd (mk i)=some (mk j)/\((j=l.length/\bW c xs i=0)\/(j<l.length/\c j l[j]!≠0/\bW c xs i=c j l[j]!)):=by
  intro xs
  induction xs with
  |nil=>
   intro i hd hi
   have:i=l.length:=by have:=congrArg List.length hd;simp at this;omega
   subst this
   exact⟨_,bU (fun r=>by rw[h2];simp), .inl ⟨rfl,rfl⟩⟩
  |cons x xs ih=>
   intro i hd hi
   have hil:i<l.length:=by have:=congrArg List.length hd;simp at this;omega
   have hx:l[i]! =x:=by
    have:=congrArg List.head? hd
    rw[List.head?_drop,List.getElem?_eq_getElem hil]at this
    rw[getElem!_pos l i hil]
    simpa using this
   have hd':l.drop (i+1)=xs:=by
    have:=congrArg List.tail hd
    rw[List.tail_drop]at this
    simpa using this
   obtain⟨p1,p2⟩:=h1 i hil
   unfold bW
   rw[hx]at p1 p2
   by_cases hc:c i x=0
   ·rw[if_pos hc,bD (p1 hc)]
    exact ih (i+1) hd' hil
   ·rw[if_neg hc]
    exact⟨i,bU (fun r=>by rw[p2 hc];simp), .inr ⟨hil,by rw[hx];exact hc,by rw[hx]⟩⟩
 exact key l 0 rfl (Nat.zero_le _)
theorem nV{γ α:Type}[Inhabited α]{rnd:γ->Option (Option γ)}(l:List α)(mk:Nat->γ)(c:Nat->α->Bool)
  (h1:∀i,i<l.length->(c i l[i]! =true->rnd (mk i)=some (some (mk (i+1))))/\(c i l[i]! =false->rnd (mk i)=some none))
  (h2:rnd (mk l.length)=some none):
  ∃i,bt rnd (mk 0)=some (mk i)/\((i=l.length/\∀j,j<l.length->c j l[j]! =true)\/(i<l.length/\c i l[i]! =false)):=by
 obtain⟨i,v,e,hI,h⟩:=mT (β:=Unit) (rnd:=rnd) l.length (fun i _=>mk i) (fun i _=>∀j,j<i->c j l[j]! =true) (fun i _=>c i l[i]! =false) (fun i b hi hI=>by
   obtain⟨p1,p2⟩:=h1 i hi
   cases hc:c i l[i]! with
   |true=>exact .inl ⟨(),p1 hc,fun j hj=>by
     rcases Nat.lt_succ_iff_lt_or_eq.1 hj with h|h
     ·exact hI j h
     ·subst h;exact hc⟩
   |false=>exact .inr ⟨p2 hc,rfl⟩) (fun b _=>h2) (b:=()) (fun j hj=>absurd hj (by omega))
 refine⟨i,e,?_⟩
 rcases h with h|h
 ·subst h;exact .inl ⟨rfl,hI⟩
 ·exact .inr h
theorem x9{α:Type}[Inhabited α]{l:List α}{p:α->Bool}(h:∀j,j<l.length->p l[j]! =true):l.all p=true:=by
 rw[List.all_eq_true]
 intro x hx
 obtain⟨i,hi,e⟩:=List.getElem_of_mem hx
 have:=h i hi
 rw[getElem!_pos l i hi,e]at this
 exact this
theorem tI{α:Type}[Inhabited α]{l:List α}{p:α->Bool}{i:Nat}(hi:i<l.length)(h:p l[i]! =false):l.all p=false:=by
 cases ha:l.all p with
 |false=>rfl
 |true=>
  rw[List.all_eq_true]at ha
  rw[ha _ (aU hi)]at h
  exact absurd h (by decide)
theorem tC{α:Type}[Inhabited α]{l:List α}{p:α->Bool}(h:∀j,j<l.length->p l[j]! =false):l.any p=false:=by
 cases ha:l.any p with
 |false=>rfl
 |true=>
  obtain⟨x,hx,e⟩:=List.any_eq_true.1 ha
  obtain⟨i,hi,e2⟩:=List.getElem_of_mem hx
  have:=h i hi
  rw[getElem!_pos l i hi,e2,e]at this
  exact absurd this (by decide)
theorem y9{α:Type}[Inhabited α]{l:List α}{p:α->Bool}{i:Nat}(hi:i<l.length)(h:p l[i]! =true):l.any p=true:=
 List.any_eq_true.2 ⟨_,aU hi,h⟩
theorem bE{α:Type}[Inhabited α]{l:List α}{i:Nat}(h:i<l.length):l.take (i+1)=l.take i++[l[i]!]:=by
 rw[getElem!_pos l i h]
 exact(List.take_append_getElem h).symm
end Go.Iv
end
noncomputable section
namespace Go.Proofs.YtnfljbehcffmcaaGreat
open Go Go.Iv
def bS:aD:=aD.mk 1 0 0
structure NN (a:aD):Prop where
 lo: -1099511627776<=a.aa
 hi:a.af<=1099511627776
 le:a.aa<=a.af
 st:(a.aa=a.af/\a.ag=0)\/(a.aa<a.af/\1<=a.ag/\(a.af-a.aa)%a.ag=0)
def NV(a:aD):Prop:=a=bS\/NN a
theorem NN.s0{a:aD}(h:NN a):0<=a.ag:=by rcases h.st with ⟨_,h⟩|⟨_,h,_⟩<;>omega
theorem NN.dvd{a:aD}(h:NN a):a.ag∣a.af-a.aa:=by
 rcases h.st with ⟨h1,h2⟩|⟨_,_,h3⟩
 ·rw[h2,h1];exact⟨0,by omega⟩
 ·exact Int.dvd_of_emod_eq_zero h3
theorem NN.sle{a:aD}(h:NN a):a.ag<=a.af-a.aa:=by
 rcases h.st with ⟨h1,h2⟩|⟨h1,_,h3⟩
 ·omega
 ·exact Int.le_of_dvd (by omega) (Int.dvd_of_emod_eq_zero h3)
theorem NN.ne{a:aD}(h:NN a):a≠bS:=fun e=>by
 have:=h.le
 rw[e]at this
 exact absurd this (by decide)
theorem wm{a b:aD}(h1:a.aa=b.aa)(h2:a.af=b.af)(h3:a.ag=b.ag):a=b:=by
 cases a;cases b;simp only at h1 h2 h3;subst h1 h2 h3;rfl
def cV(x:Int):aD:=aD.mk x x 0
theorem NN.one{x:Int}(h1: -1099511627776<=x)(h2:x<=1099511627776):NN (cV x):=⟨h1,h2,Int.le_refl _, .inl ⟨rfl,rfl⟩⟩
structure cv (P:Int->Prop) (c:aD):Prop where
 lo:P c.aa
 hi:P c.af
 all:∀x,P x->c.aa<=x/\x<=c.af/\c.ag∣x-c.aa
 nn:0<=c.ag
 best:∀d,(∀x,P x->d∣x-c.aa)->d∣c.ag
theorem cv.uniq{P:Int->Prop}{c d:aD}(h:cv P c)(k:cv P d):c=d:=by
 have e1:c.aa=d.aa:=Int.le_antisymm (h.all _ k.lo).1 (k.all _ h.lo).1
 have e2:c.af=d.af:=Int.le_antisymm (k.all _ h.hi).2.1 (h.all _ k.hi).2.1
 refine wm e1 e2 (Int.dvd_antisymm h.nn k.nn (k.best _ fun x hx=>by rw[<-e1];exact(h.all x hx).2.2) (h.best _ fun x hx=>by rw[e1];exact(k.all x hx).2.2))
theorem cv.congr{P Q:Int->Prop}{c:aD}(h:cv P c)(k:∀x,P x↔Q x):cv Q c:=
 ⟨(k _).mp h.lo,(k _).mp h.hi,fun x hx=>h.all x ((k x).mpr hx),h.nn,fun d hd=>h.best d fun x hx=>hd x ((k x).mp hx)⟩
theorem cv.valid{P:Int->Prop}{c:aD}(h:cv P c)(hP:∀x,P x-> -1099511627776<=x/\x<=1099511627776):NN c:=by
 have h1:=hP _ h.lo
 have h2:=hP _ h.hi
 obtain⟨h3,_,h4⟩:=h.all _ h.hi
 refine⟨h1.1,h2.2,h3,?_⟩
 have h5:=h.nn
 rcases Int.lt_or_eq_of_le h3 with h6|h6
 ·refine .inr ⟨h6,?_,Int.emod_eq_zero_of_dvd h4⟩
  rcases Int.lt_or_eq_of_le h5 with h7|h7
  ·omega
  ·rw[<-h7]at h4
   have:=Int.zero_dvd.mp h4
   omega
 ·refine .inl ⟨h6,?_⟩
  have:=h.best 0 fun x hx=>by
   obtain⟨a1,a2,_⟩:=h.all x hx
   exact⟨0,by omega⟩
  exact Int.zero_dvd.mp this
def bz(a:aD)(x:Int):Prop:=a.aa<=x/\x<=a.af/\a.ag∣x-a.aa
theorem NN.dZ{a:aD}(h:NN a):cv (bz a) a:=by
 refine⟨⟨Int.le_refl _,h.le,⟨0,by omega⟩⟩,⟨h.le,Int.le_refl _,h.dvd⟩,fun x hx=>hx,h.s0,fun d hd=> ?_⟩
 rcases h.st with ⟨h1,h2⟩|⟨h1,h2,h3⟩
 ·rw[h2];exact Int.dvd_zero d
 ·have:=hd (a.aa+a.ag) ⟨by omega,by have:=h.sle;omega,⟨1,by omega⟩⟩
  rwa [show a.aa+a.ag-a.aa=a.ag by omega]at this
theorem yY(x:Int):cv (· =x) (cV x):=
 ⟨rfl,rfl,fun y hy=>⟨Int.le_of_eq hy.symm,Int.le_of_eq hy,⟨0,by rw[hy];simp[cV]⟩⟩,Int.le_refl _,fun d _=>Int.dvd_zero d⟩
theorem iJ(a b:Int):bJ a b∣a:=Int.gcd_dvd_left ..
theorem nM(a b:Int):bJ a b∣b:=Int.gcd_dvd_right ..
theorem gT{d a b:Int}(h1:d∣a)(h2:d∣b):d∣bJ a b:=Int.dvd_coe_gcd h1 h2
theorem jT(a b:Int):0<=bJ a b:=by unfold bJ;omega
theorem gcd_neg(a b:Int):bJ a (-b)=bJ a b:=by unfold bJ;rw[Int.gcd_neg]
def jn(a b:aD):aD:=aD.mk (min a.aa b.aa) (max a.af b.af) (bJ (bJ a.ag b.ag) (a.aa-b.aa))
def bQ(a b:aD):aD:=open Classical in if a=bS then b else if b=bS then a else jn a b
theorem cv.join{P Q:Int->Prop}{a b:aD}(h:cv P a)(k:cv Q b):cv (fun x=>P x\/Q x) (jn a b):=by
 have g1:bJ (bJ a.ag b.ag) (a.aa-b.aa)∣a.ag:=Int.dvd_trans (iJ _ _) (iJ _ _)
 have g2:bJ (bJ a.ag b.ag) (a.aa-b.aa)∣b.ag:=Int.dvd_trans (iJ _ _) (nM _ _)
 have g3:bJ (bJ a.ag b.ag) (a.aa-b.aa)∣a.aa-b.aa:=nM _ _
 refine⟨?_,?_,fun x hx=> ?_,jT _ _,fun d hd=> ?_⟩
 ·show P (min a.aa b.aa)\/Q (min a.aa b.aa)
  rcases Int.le_total a.aa b.aa with e|e
  ·rw[Int.min_eq_left e];exact .inl h.lo
  ·rw[Int.min_eq_right e];exact .inr k.lo
 ·show P (max a.af b.af)\/Q (max a.af b.af)
  rcases Int.le_total a.af b.af with e|e
  ·rw[Int.max_eq_right e];exact .inr k.hi
  ·rw[Int.max_eq_left e];exact .inl h.hi
 ·show min a.aa b.aa<=x/\x<=max a.af b.af/\bJ (bJ a.ag b.ag) (a.aa-b.aa)∣x-min a.aa b.aa
  have h0:=Int.min_le_left a.aa b.aa
  have h1:=Int.min_le_right a.aa b.aa
  have h2:=Int.le_max_left a.af b.af
  have h3:=Int.le_max_right a.af b.af
  have both:bJ (bJ a.ag b.ag) (a.aa-b.aa)∣x-a.aa/\bJ (bJ a.ag b.ag) (a.aa-b.aa)∣x-b.aa:=by
   rcases hx with hx|hx
   ·have e:=Int.dvd_trans g1 (h.all x hx).2.2
    refine⟨e,?_⟩
    have:=Int.dvd_add e g3
    rwa [show x-a.aa+(a.aa-b.aa)=x-b.aa by omega]at this
   ·have e:=Int.dvd_trans g2 (k.all x hx).2.2
    refine⟨?_,e⟩
    have:=Int.dvd_sub e g3
    rwa [show x-b.aa-(a.aa-b.aa)=x-a.aa by omega]at this
  refine⟨?_,?_,?_⟩
  ·rcases hx with hx|hx
   ·have:=(h.all x hx).1;omega
   ·have:=(k.all x hx).1;omega
  ·rcases hx with hx|hx
   ·have:=(h.all x hx).2.1;omega
   ·have:=(k.all x hx).2.1;omega
  ·rcases Int.le_total a.aa b.aa with e|e
   ·rw[Int.min_eq_left e];exact both.1
   ·rw[Int.min_eq_right e];exact both.2
 ·show d∣bJ (bJ a.ag b.ag) (a.aa-b.aa)
  have hd:∀x,P x\/Q x->d∣x-min a.aa b.aa:=hd
  have d1:=hd _ (.inl h.lo)
  have d2:=hd _ (.inr k.lo)
  refine gT (gT (h.best d fun x hx=> ?_) (k.best d fun x hx=> ?_)) ?_
  ·have:=Int.dvd_sub (hd x (.inl hx)) d1
   rwa [show x-min a.aa b.aa-(a.aa-min a.aa b.aa)=x-a.aa by omega]at this
  ·have:=Int.dvd_sub (hd x (.inr hx)) d2
   rwa [show x-min a.aa b.aa-(b.aa-min a.aa b.aa)=x-b.aa by omega]at this
  ·have:=Int.dvd_sub d1 d2
   rwa [show a.aa-min a.aa b.aa-(b.aa-min a.aa b.aa)=a.aa-b.aa by omega]at this
theorem eT{a b:aD}(h:NN a)(k:NN b):bQ a b=jn a b:=by
 unfold bQ
 rw[if_neg h.ne,if_neg k.ne]
theorem gN{b:aD}:bQ bS b=b:=by unfold bQ;rw[if_pos rfl]
theorem tj{a:aD}:bQ a bS=a:=by
 unfold bQ
 by_cases h:a=bS
 ·rw[if_pos h,h]
 ·rw[if_neg h,if_pos rfl]
theorem jP{a b:aD}(h:NN a)(k:NN b):NN (jn a b):=(h.dZ.join k.dZ).valid fun x hx=>by
 have:=h.lo;have:=h.hi;have:=k.lo;have:=k.hi
 rcases hx with ⟨h1,h2,_⟩|⟨h1,h2,_⟩<;>omega
theorem dz{a b:aD}(h:NV a)(k:NV b):NV (bQ a b):=by
 rcases h with rfl|h
 ·rw[gN];exact k
 ·rcases k with rfl|k
  ·rw[tj];exact .inr h
  ·rw[eT h k];exact .inr (jP h k)
theorem MW{a:aD}(h:NN a):jn a a=a:=
 ((h.dZ.join h.dZ).congr (fun x=>⟨fun k=>k.elim id id, .inl⟩)).uniq h.dZ
end Go.Proofs.YtnfljbehcffmcaaGreat
end
noncomputable section
namespace Go.Proofs.YtnfljbehcffmcaaGreat
open Go Go.Iv
open Go.IntKind (i64)
theorem AI(a:aD):(bif decide (a.aa=a.aa)then bif decide (a.af=a.af)then bif decide (a.ag=a.ag)then true else false else false else false)=true:=by
 rw[decide_eq_true rfl,decide_eq_true rfl,decide_eq_true rfl];rfl
theorem z8{a b:aD}(h:a≠b):(bif decide (a.aa=b.aa)then bif decide (a.af=b.af)then bif decide (a.ag=b.ag)then true else false else false else false)=false:=by
 by_cases h1:a.aa=b.aa
 ·by_cases h2:a.af=b.af
  ·by_cases h3:a.ag=b.ag
   ·exact absurd (wm h1 h2 h3) h
   ·rw[decide_eq_true h1,decide_eq_true h2,decide_eq_false h3];rfl
  ·rw[decide_eq_true h1,decide_eq_false h2];rfl
 ·rw[decide_eq_false h1];rfl
theorem gD:dI bS=true:=AI bS
theorem cY{a:aD}(h:a≠bS):dI a=false:=z8 (b:=bS) h
theorem kB:jK bS=true:=rfl
theorem fC{a:aD}(h:NN a):jK a=false:=decide_eq_false (by have:=h.le;omega)
theorem iE(x:Int):ig x=decide (-1099511627776<=x/\x<=1099511627776):=by
 unfold ig
 by_cases h: -1099511627776<=x
 ·by_cases k:x<=1099511627776
  ·rw[decide_eq_true h,decide_eq_true k,decide_eq_true ⟨h,k⟩];rfl
  ·rw[decide_eq_true h,decide_eq_false k,decide_eq_false (show ¬(-1099511627776<=x/\x<=1099511627776)from fun e=>k e.2)];rfl
 ·rw[decide_eq_false h,decide_eq_false (show ¬(-1099511627776<=x/\x<=1099511627776)from fun e=>h e.1)];rfl
theorem tF(x:Int):m7 x=decide (-1099511627776<=x/\x<=1099511627776):=iE x
def M4(a:aD):Bool:=open Classical in decide (NV a)
theorem LX{a:aD}:M4 a=true↔NV a:=by unfold M4;exact @decide_eq_true_iff _ (Classical.propDecidable _)
theorem cR{a:aD}(h:NV a):M4 a=true:=LX.mpr h
theorem sx{a:aD}(h:¬NV a):M4 a=false:=by
 cases e:M4 a with
 |false=>rfl
 |true=>exact absurd (LX.mp e) h
theorem KI{a:aD}(h0:a≠bS):(match bif bif ig a.aa then false else true then some true else bif bif ig a.af then false else true then some true else some (decide (a.af<a.aa))with|none=>none|some r1=>bif r1 then some false else bif decide (a.aa=a.af)then some (decide (a.ag=0))else match bif decide (1<=a.ag)then if¬a.ag=(0:Int)then some (decide ((i64.wrap (a.af-a.aa)).tmod a.ag=0))else none else some false with|none=>none|some r2=>some r2)=some (M4 a):=by
 rw[iE,iE]
 by_cases h1: -1099511627776<=a.aa/\a.aa<=1099511627776
 ·by_cases h2: -1099511627776<=a.af/\a.af<=1099511627776
  ·by_cases h3:a.af<a.aa
   ·rw[decide_eq_true h1,decide_eq_true h2,decide_eq_true h3,sx (fun k=>by rcases k with k|k;exact h0 k;have:=k.le;omega)];rfl
   ·rw[decide_eq_true h1,decide_eq_true h2,decide_eq_false h3]
    simp only[cond_true,cond_false]
    by_cases h4:a.aa=a.af
    ·rw[decide_eq_true h4,cond_true]
     congr 1
     by_cases h5:a.ag=0
     ·rw[decide_eq_true h5,cR (.inr ⟨h1.1,h2.2,by omega, .inl ⟨h4,h5⟩⟩)]
     ·rw[decide_eq_false h5,sx (fun k=>by rcases k with k|k;exact h0 k;rcases k.st with k|k<;>omega)]
    ·rw[decide_eq_false h4,cond_false]
     by_cases h5:1<=a.ag
     ·rw[decide_eq_true h5,cond_true,fA,aF,iZ]
      simp only
      congr 1
      by_cases h6:(a.af-a.aa)%a.ag=0
      ·rw[decide_eq_true h6,cR (.inr ⟨h1.1,h2.2,by omega, .inr ⟨by omega,h5,h6⟩⟩)]
      ·rw[decide_eq_false h6,sx (fun k=>by rcases k with k|k;exact h0 k;rcases k.st with k|k;omega;exact h6 k.2.2)]
     ·rw[decide_eq_false h5,cond_false]
      simp only
      rw[sx (fun k=>by rcases k with k|k;exact h0 k;rcases k.st with k|k<;>omega)]
  ·rw[decide_eq_true h1,decide_eq_false h2,sx (fun k=>by rcases k with k|k;exact h0 k;have:=k.lo;have:=k.hi;have:=k.le;omega)];rfl
 ·rw[decide_eq_false h1,sx (fun k=>by rcases k with k|k;exact h0 k;have:=k.lo;have:=k.hi;have:=k.le;omega)];rfl
theorem di(a:aD):qZ a=some (M4 a):=by
 unfold qZ
 by_cases h0:a=bS
 ·subst h0;rw[gD,cond_true,cR (.inl rfl)]
 ·rw[cY h0,cond_false];exact KI h0
theorem dW(a:aD):OL a=some (M4 a):=by
 unfold OL
 by_cases h0:a=bS
 ·subst h0;rw[show oy=bS from rfl,AI,cond_true,cR (.inl rfl)]
 ·rw[show oy=bS from rfl,z8 h0,cond_false,<-KI h0,show m7=ig from rfl,iE,iE]
  by_cases h1: -1099511627776<=a.aa/\a.aa<=1099511627776
  ·by_cases h2: -1099511627776<=a.af/\a.af<=1099511627776
   ·rw[decide_eq_true h1,decide_eq_true h2]
    simp only[cond_true,cond_false]
    by_cases h3:a.af<a.aa
    ·rw[decide_eq_false (show ¬a.aa=a.af by omega),decide_eq_true h3,decide_eq_false (show ¬a.aa<a.af by omega)];rfl
    ·rw[decide_eq_false h3,cond_false]
     by_cases h4:a.aa=a.af
     ·rw[decide_eq_true h4];rfl
     ·rw[decide_eq_false h4,cond_false,cond_false,decide_eq_true (show a.aa<a.af by omega),cond_true];rfl
   ·rw[decide_eq_true h1,decide_eq_false h2];rfl
  ·rw[decide_eq_false h1];rfl
def cA(a:aD):Int:=open Classical in if a=bS then 0 else if a.ag=0 then 1 else(a.af-a.aa)/a.ag+1
theorem wsz{a:aD}(h:NN a)(h0:a.ag≠0):i64.wrap (i64.wrap ((i64.wrap (a.af-a.aa)).tdiv a.ag)+1)=(a.af-a.aa)/a.ag+1:=by
 have:=h.lo;have:=h.hi;have:=h.le;have:=h.s0
 have q0:0<=(a.af-a.aa)/a.ag:=Int.ediv_nonneg (by omega) (by omega)
 have q1:(a.af-a.aa)/a.ag<=a.af-a.aa:=Int.ediv_le_self _ (by omega)
 rw[aF (n:=a.af-a.aa),iK,aF (n:=(a.af-a.aa)/a.ag),aF]
theorem jg{a:aD}(h:NV a):tW a=some (cA a):=by
 unfold tW cA
 rcases h with rfl|h
 ·rw[gD,if_pos rfl];rfl
 ·rw[cY h.ne,if_neg h.ne,cond_false]
  by_cases h0:a.ag=0
  ·rw[decide_eq_true h0,if_pos h0];rfl
  ·rw[decide_eq_false h0,if_neg h0,cond_false,if_pos h0,wsz h h0]
theorem eR{a:aD}(h:NV a):qa a=some (cA a):=by
 unfold qa cA
 rw[dW,cR h]
 simp only[cond_true,cond_false]
 rcases h with rfl|h
 ·rw[kB,if_pos rfl];rfl
 ·rw[fC h,if_neg h.ne,cond_false]
  by_cases h0:a.ag=0
  ·rw[decide_eq_true h0,if_pos h0];rfl
  ·rw[decide_eq_false h0,if_neg h0,cond_false,if_pos h0,wsz h h0]
theorem Zo{a:aD}(h:¬NV a):qa a=some 0:=by
 unfold qa
 rw[dW,sx h];rfl
theorem ae9{a:aD}(h:NV a):DX a=some (cA a):=by
 unfold DX
 rw[di,cR h]
 simp only[cond_true,cond_false]
 rw[jg h]
theorem XU{a:aD}(h:¬NV a):DX a=some 0:=by
 unfold DX
 rw[di,sx h];rfl
def bZ(a:aD)(x:Int):Bool:=open Classical in decide (bz a x)
theorem kO{a:aD}{x:Int}:bZ a x=true↔bz a x:=by unfold bZ;exact @decide_eq_true_iff _ (Classical.propDecidable _)
theorem gP{a:aD}{x:Int}(h:¬bz a x):bZ a x=false:=by
 cases e:bZ a x with
 |false=>rfl
 |true=>exact absurd (kO.mp e) h
theorem ko{a:aD}{x:Int}(h:bz a x):bZ a x=true:=kO.mpr h
theorem vU{x:Int}:¬bz bS x:=fun h=>by
 obtain⟨h1,h2,_⟩:=h
 have h1:(1:Int)<=x:=h1
 have h2:x<=0:=h2
 omega
theorem GD{a:aD}(h:NN a)(x:Int)(h1:a.aa<=x)(h2:x<=a.af):(match bif decide (a.ag=0)then some true else if¬a.ag=(0:Int)then some (decide ((i64.wrap (x-a.aa)).tmod a.ag=0))else none with|none=>none|some r2=>some r2)=some (bZ a x):=by
 have:=h.lo;have:=h.hi
 by_cases h0:a.ag=0
 ·rw[decide_eq_true h0,cond_true,ko ⟨h1,h2,by rcases h.st with k|k;(rw[h0];exact⟨0,by omega⟩);omega⟩]
 ·rw[decide_eq_false h0,cond_false,if_pos h0,aF,iZ]
  simp only
  congr 1
  by_cases k:(x-a.aa)%a.ag=0
  ·rw[decide_eq_true k,ko ⟨h1,h2,Int.dvd_of_emod_eq_zero k⟩]
  ·rw[decide_eq_false k,gP (fun e=>k (Int.emod_eq_zero_of_dvd e.2.2))]
theorem A7{a:aD}(h:NV a)(x:Int):Nt a x=some (bZ a x):=by
 unfold Nt
 rcases h with rfl|h
 ·rw[gD,gP vU];rfl
 ·rw[cY h.ne,cond_false]
  by_cases h1:x<a.aa
  ·rw[decide_eq_true h1,gP (fun k=>by have:=k.1;omega)];rfl
  ·by_cases h2:a.af<x
   ·rw[decide_eq_false h1,decide_eq_true h2,gP (fun k=>by have:=k.2.1;omega)];rfl
   ·rw[decide_eq_false h1,decide_eq_false h2]
    simp only[cond_false]
    exact GD h x (by omega) (by omega)
theorem lV{a:aD}(h:NV a)(x:Int):m32 a x=some (bZ a x):=by
 unfold m32
 rw[dW,cR h]
 simp only[cond_true,cond_false]
 rcases h with rfl|h
 ·by_cases h1:x<1
  ·rw[show bS.aa=1 from rfl,decide_eq_true h1,gP vU];rfl
  ·rw[show bS.aa=1 from rfl,show bS.af=0 from rfl,decide_eq_false h1,decide_eq_true (show 0<x by omega),gP vU];rfl
 ·by_cases h1:x<a.aa
  ·rw[decide_eq_true h1,gP (fun k=>by have:=k.1;omega)];rfl
  ·by_cases h2:a.af<x
   ·rw[decide_eq_false h1,decide_eq_true h2,gP (fun k=>by have:=k.2.1;omega)];rfl
   ·rw[decide_eq_false h1,decide_eq_false h2]
    simp only[cond_false]
    exact GD h x (by omega) (by omega)
theorem CD{a:aD}(h:NV a)(x:Int):m92 a x=some (bZ a x):=by
 unfold m92
 rw[di,cR h]
 simp only[cond_true]
 rw[A7 h]
def hO(lo hi st:Int):aD:=if hi<lo then bS else if st=0 then cV lo else if lo=lo+(hi-lo)/st*st then cV lo else aD.mk lo (lo+(hi-lo)/st*st) st
theorem abA{lo hi st:Int}(h1: -2305843009213693952<=lo)(h2:hi<=2305843009213693952)(h3:lo<=hi)(h4:1<=st):i64.wrap (lo+i64.wrap (i64.wrap ((i64.wrap (hi-lo)).tdiv st)*st))=lo+(hi-lo)/st*st:=by
 have q0:0<=(hi-lo)/st:=Int.ediv_nonneg (by omega) (by omega)
 have q1:(hi-lo)/st<=hi-lo:=Int.ediv_le_self _ (by omega)
 have q2:(hi-lo)/st*st<=hi-lo:=Int.ediv_mul_le _ (by omega)
 have q3:0<=(hi-lo)/st*st:=Int.mul_nonneg q0 (by omega)
 rw[aF (n:=hi-lo),iK,aF (n:=(hi-lo)/st),aF (n:=(hi-lo)/st*st),aF]
theorem mw{lo hi st:Int}(h1: -2305843009213693952<=lo)(h2:hi<=2305843009213693952)(h4:0<=st):k9 lo hi st=some (hO lo hi st):=by
 unfold k9 hO
 by_cases c1:hi<lo
 ·rw[decide_eq_true c1,if_pos c1];rfl
 ·rw[decide_eq_false c1,if_neg c1,cond_false]
  by_cases c2:st=0
  ·rw[decide_eq_true c2,if_pos c2];rfl
  ·rw[decide_eq_false c2,if_neg c2,cond_false,if_pos c2,abA h1 h2 (by omega) (by omega)]
   by_cases c3:lo=lo+(hi-lo)/st*st
   ·rw[decide_eq_true c3,if_pos c3];rfl
   ·rw[decide_eq_false c3,if_neg c3];rfl
theorem j6{lo hi st:Int}(h1: -1099511627776<=lo/\lo<=1099511627776)(h2: -1099511627776<=hi/\hi<=1099511627776)(h4:1<=st):jj lo hi st=some (hO lo hi st,0):=by
 unfold jj hO
 rw[tF,tF,decide_eq_true h1,decide_eq_true h2,decide_eq_false (show ¬st<1 by omega)]
 simp only[cond_true,cond_false]
 by_cases c1:hi<lo
 ·rw[decide_eq_true c1,if_pos c1];rfl
 ·rw[decide_eq_false c1,if_neg c1,cond_false,if_neg (show ¬st=0 by omega),fA,abA (by omega) (by omega) (by omega) h4]
  by_cases c3:lo=lo+(hi-lo)/st*st
  ·rw[<-c3,decide_eq_true rfl,if_pos rfl];rfl
  ·rw[decide_eq_false c3,if_neg c3];rfl
theorem En{lo hi st:Int}(h1:lo<=hi)(h2:0<=st)(h3:st∣hi-lo)(h4:lo=hi->st=0):hO lo hi st=aD.mk lo hi st:=by
 unfold hO
 rw[u6]
 by_cases c:st=0
 ·rw[if_pos c]
  subst c
  have:=Int.zero_dvd.mp h3
  unfold cV
  rw[show hi=lo by omega]
 ·rw[if_neg c,Int.ediv_mul_cancel h3,show lo+(hi-lo)=hi by omega,if_neg (fun e=>c (h4 e))]
theorem j0{lo hi st:Int}(h1: -1099511627776<=lo)(h2:hi<=1099511627776)(h3:lo<=hi)(h4:0<=st):NN (hO lo hi st):=by
 unfold hO
 rw[u6]
 by_cases c:st=0
 ·rw[if_pos c];exact NN.one h1 (by omega)
 ·rw[if_neg c]
  have q0:0<=(hi-lo)/st:=Int.ediv_nonneg (by omega) (by omega)
  have q2:(hi-lo)/st*st<=hi-lo:=Int.ediv_mul_le _ (by omega)
  have q3:0<=(hi-lo)/st*st:=Int.mul_nonneg q0 (by omega)
  by_cases c3:lo=lo+(hi-lo)/st*st
  ·rw[if_pos c3];exact NN.one h1 (by omega)
  ·rw[if_neg c3]
   refine⟨h1,by show lo+(hi-lo)/st*st<=_;omega,by show lo<=lo+(hi-lo)/st*st;omega, .inr ⟨by show lo<lo+(hi-lo)/st*st;omega,by show 1<=st;omega,?_⟩⟩
   show (lo+(hi-lo)/st*st-lo)%st=0
   rw[show lo+(hi-lo)/st*st-lo=(hi-lo)/st*st by omega]
   exact Int.mul_emod_left _ _
theorem Ga{lo hi st x:Int}(h3:lo<=hi)(h4:1<=st):bz (hO lo hi st) x↔lo<=x/\x<=hi/\st∣x-lo:=by
 unfold hO
 rw[u6,u6]
 have q2:(hi-lo)/st*st<=hi-lo:=Int.ediv_mul_le _ (by omega)
 have q4:=Int.lt_ediv_add_one_mul_self (hi-lo) (show 0<st by omega)
 rw[Int.add_mul,Int.one_mul]at q4
 by_cases c3:lo=lo+(hi-lo)/st*st
 ·rw[if_pos c3]
  constructor
  ·rintro⟨k1,k2,_⟩
   have k1:lo<=x:=k1
   have k2:x<=lo:=k2
   exact⟨k1,by omega,⟨0,by omega⟩⟩
  ·rintro⟨k1,k2,k3⟩
   have:x-lo<st:=by omega
   have e:x-lo=0:=Decidable.byContradiction fun h=>absurd (Int.le_of_dvd (by omega) k3) (by omega)
   exact⟨k1,by show x<=lo;omega,by show 0∣x-lo;rw[e];exact⟨0,rfl⟩⟩
 ·rw[if_neg c3]
  constructor
  ·rintro⟨k1,k2,k3⟩
   have k2:x<=lo+(hi-lo)/st*st:=k2
   exact⟨k1,by omega,k3⟩
  ·rintro⟨k1,k2,k3⟩
   refine⟨k1,?_,k3⟩
   show x<=lo+(hi-lo)/st*st
   obtain⟨q,hq⟩:=k3
   rw[Int.mul_comm]at hq
   have:q<(hi-lo)/st+1:=Int.lt_of_mul_lt_mul_right (a:=st) (by rw[Int.add_mul,Int.one_mul];omega) (by omega)
   have:q*st<=(hi-lo)/st*st:=Int.mul_le_mul_of_nonneg_right (by omega) (by omega)
   omega
theorem GB(g x v:Int)(hx: -1099511627776<=x/\x<=1099511627776)(hv: -1099511627776<=v/\v<=1099511627776):(0:Int)<=gQ x v/\bJ g (gQ x v)=bJ g (x-v):=by
 unfold gQ
 by_cases c:x<v
 ·rw[decide_eq_true c,cond_true,aF]
  exact⟨by omega,by rw[<-gcd_neg,show-(v-x)=x-v by omega]⟩
 ·rw[decide_eq_false c,cond_false,aF]
  exact⟨by omega,rfl⟩
theorem cv.snoc{P:Int->Prop}{c:aD}{v:Int}(h:cv P c)(hv:P v)(x:Int):cv (fun y=>P y\/y=x) (aD.mk (min c.aa x) (max c.af x) (bJ c.ag (x-v))):=by
 have e:bJ (bJ c.ag 0) (c.aa-x)=bJ c.ag (x-v):=by
  have d:=(h.all v hv).2.2
  refine Int.dvd_antisymm (jT _ _) (jT _ _) (gT (Int.dvd_trans (iJ _ _) (iJ _ _)) ?_) (gT (gT (iJ _ _) (Int.dvd_zero _)) ?_)
  ·have k1:bJ (bJ c.ag 0) (c.aa-x)∣c.aa-x:=nM _ _
   have k2:bJ (bJ c.ag 0) (c.aa-x)∣v-c.aa:=Int.dvd_trans (Int.dvd_trans (iJ _ _) (iJ _ _)) d
   have:=Int.dvd_neg.mpr (Int.dvd_add k1 k2)
   rwa [show-(c.aa-x+(v-c.aa))=x-v by omega]at this
  ·have k1:bJ c.ag (x-v)∣x-v:=nM _ _
   have k2:bJ c.ag (x-v)∣v-c.aa:=Int.dvd_trans (iJ _ _) d
   have:=Int.dvd_neg.mpr (Int.dvd_add k1 k2)
   rwa [show-(x-v+(v-c.aa))=c.aa-x by omega]at this
 have:=h.join (yY x)
 unfold jn cV at this
 rw[e]at this
 exact this
end Go.Proofs.YtnfljbehcffmcaaGreat
end
noncomputable section
namespace Go.Proofs.YtnfljbehcffmcaaGreat
open Go Go.Iv
def bN(x:Int):Prop:= -1099511627776<=x/\x<=1099511627776
instance (x:Int):Decidable (bN x):=inferInstanceAs (Decidable (_/\_))
theorem xk(x:Int):m7 x=decide (bN x):=tF x
theorem agV{l:List Int}{b0 c:aD}(i:Nat)(hi:i+1<l.length)(hl:l.length<=1000000)(hr:∀x∈l,bN x)(hc:cv (· ∈l.take (i+1)) c):
  ∃c',qX (gA.mk l (i+1:Nat) b0 c)=some (some (gA.mk l (i+1+1:Nat) b0 c'))/\cv (· ∈l.take (i+1+1)) c':=by
 have hx:bN l[i+1]! :=hr _ (aU hi)
 have h0:bN l[0]! :=hr _ (aU (by omega))
 have hm:l[0]!∈l.take (i+1):=by
  have:(l.take (i+1))[0]! =l[0]! :=by
   rw[getElem!_pos _ 0 (by rw[List.length_take];omega),getElem!_pos l 0 (by omega),List.getElem_take]
  rw[<-this]
  exact aU (by rw[List.length_take];omega)
 have hs:=hc.snoc hm l[i+1]!
 obtain⟨g0,g1⟩:=GB c.ag l[i+1]! l[0]! hx h0
 refine⟨_,?_,hs.congr fun y=> ?_⟩
 ·unfold qX
  simp only
  rw[pU,cond_true,fA,fA,Int.toNat_natCast,v8 hc.nn g0,g1]
  simp only
  rw[aF,show ((i+1:Nat):Int)+1=((i+1+1:Nat):Int)by omega]
  have hci:(0:Int)<=((i+1:Nat):Int)/\((i+1:Nat):Int)<(l.length:Int):=by omega
  by_cases c1:l[i+1]! <c.aa
  ·rw[Int.min_eq_right (by omega)]
   by_cases c2:c.af<l[i+1]!
   ·have:=(hc.all _ hc.lo).2.1
    omega
   ·rw[Int.max_eq_left (by omega)]
    simp only[decide_eq_true c1,decide_eq_false c2,if_pos hci,cond_true,cond_false]
  ·rw[Int.min_eq_left (by omega)]
   by_cases c2:c.af<l[i+1]!
   ·rw[Int.max_eq_right (by omega)]
    simp only[decide_eq_false c1,decide_eq_true c2,if_pos hci,cond_true,cond_false]
   ·rw[Int.max_eq_left (by omega)]
    simp only[decide_eq_false c1,decide_eq_false c2,if_pos hci,cond_false]
 ·rw[bE (i:=i+1) hi,List.mem_append,List.mem_singleton]
theorem Bo{l:List Int}(hn:l≠[])(hl:l.length<=1000000)(hr:∀x∈l,bN x):∃c,NS l=some (c,0)/\cv (· ∈l) c:=by
 have hp:0<l.length:=List.length_pos_iff.mpr hn
 obtain⟨c,e1,hc⟩:=cK (rnd:=qX) (l.length-1) (fun i (c:aD)=>gA.mk l (i+1:Nat) (aD.mk 0 0 0) c) (fun i c=>cv (· ∈l.take (i+1)) c)
  (fun i c hi hI=>agV i (by omega) hl hr hI)
  (fun c hI=>by
   unfold qX
   simp only
   rw[eF]
   rfl) (b:=cV l[0]!) ((yY l[0]!).congr fun x=>by
   rw[bE hp]
   simp)
 have e0:bt uj (kj.mk l 0 (aD.mk 0 0 0))=some (kj.mk l (l.length:Nat) (aD.mk 0 0 0)):=FA (rnd:=uj) (fun i=>kj.mk l (i:Nat) (aD.mk 0 0 0)) l.length (fun i hi=>by
  unfold uj
  simp only
  rw[pU,cond_true,fA,Int.toNat_natCast,xk,decide_eq_true (hr _ (aU hi)),fh hi hl]
  rfl) (fun r=>by
  unfold uj
  simp only
  rw[eF]
  intro h
  cases h)
 refine⟨c,?_,hc.congr fun x=>by rw[show l.length-1+1=l.length by omega,List.take_length]⟩
 unfold NS
 rw[show DD=bt uj from rfl,e0]
 simp only
 rw[eF,cond_false,eF,cond_false,fA,fA]
 have e1:bt qX (gA.mk l 1 (aD.mk 0 0 0) (aD.mk l[0]! l[0]! 0))=some (gA.mk l ((l.length-1+1:Nat):Int) (aD.mk 0 0 0) c):=e1
 rw[show DL=bt qX from rfl,e1]
 simp only
 rw[eF]
 rfl
theorem NN.qc{a:aD}(h:NN a):bN a.aa:=⟨h.lo,by have:=h.le;have:=h.hi;omega⟩
theorem NN.vR{a:aD}(h:NN a):bN a.af:=⟨by have:=h.le;have:=h.lo;omega,h.hi⟩
theorem BY{x:Int}(h1: -2199023255552<=x)(h2:x<=2199023255552):(0:Int)<=gZ x/\((gZ x:Int)=x\/(gZ x:Int)= -x):=by
 unfold gZ
 rw[aF (n:=0-x)]
 by_cases c:x<0-x
 ·rw[if_pos c];exact⟨by omega, .inr (show (0:Int)-x= -x by omega)⟩
 ·rw[if_neg c];exact⟨by omega, .inl rfl⟩
theorem Pq(g:Int){x:Int}(h1: -2199023255552<=x)(h2:x<=2199023255552):bJ g (gZ x)=bJ g x:=by
 rcases (BY h1 h2).2 with e|e
 ·rw[e]
 ·rw[e,gcd_neg]
theorem gp{a b:aD}(ha:NV a)(hb:NV b):jY a b=some (bQ a b):=by
 unfold jY
 rcases ha with rfl|ha
 ·rw[gD,gN];rfl
 rw[cY ha.ne,cond_false]
 rcases hb with rfl|hb
 ·rw[gD,tj];rfl
 rw[cY hb.ne,cond_false]
 by_cases e:a=b
 ·subst e
  rw[AI,eT ha ha,MW ha];rfl
 ·rw[z8 e]
  simp only[cond_false]
  have:=ha.lo;have:=ha.hi;have:=ha.le;have:=hb.lo;have:=hb.hi;have:=hb.le
  rw[aF (n:=a.aa-b.aa),xJ ha.s0 hb.s0 (BY (by omega) (by omega)).1,Pq _ (by omega) (by omega)]
  simp only
  rw[show (if b.aa<a.aa then b.aa else a.aa)=min a.aa b.aa by split<;>omega,show (if a.af<b.af then b.af else a.af)=max a.af b.af by split<;>omega,mw (by omega) (by omega) (jT _ _)]
  simp only
  have hj:=jP ha hb
  rw[eT ha hb]
  exact congrArg some (En hj.le hj.s0 hj.dvd (fun k=>by rcases hj.st with h|h;exact h.2;exact absurd k (Int.ne_of_lt h.1)))
theorem eN{a b:aD}(ha:NV a)(hb:NV b):jk a b=some (bQ a b):=by
 unfold jk
 rcases ha with rfl|ha
 ·rw[kB,gN];rfl
 rw[fC ha,cond_false]
 rcases hb with rfl|hb
 ·rw[kB,tj];rfl
 rw[fC hb,cond_false]
 obtain⟨c,e,hc⟩:=Bo (l:=[a.aa,a.af,b.aa,b.af]) (by simp) (by simp) (fun x hx=>by
  simp only[List.mem_cons,List.not_mem_nil,or_false]at hx
  rcases hx with rfl|rfl|rfl|rfl
  ·exact ha.qc
  ·exact ha.vR
  ·exact hb.qc
  ·exact hb.vR)
 rw[e]
 simp only
 have m:∀x,(x=a.aa\/x=a.af\/x=b.aa\/x=b.af)->x∈[a.aa,a.af,b.aa,b.af]:=fun x hx=>by simpa using hx
 have h1:=hc.lo
 have h2:=hc.hi
 simp only[List.mem_cons,List.not_mem_nil,or_false]at h1 h2
 have p1:=hc.all _ (m a.aa (by simp))
 have p2:=hc.all _ (m a.af (by simp))
 have p3:=hc.all _ (m b.aa (by simp))
 have p4:=hc.all _ (m b.af (by simp))
 have:=ha.le
 have:=hb.le
 have e1:c.aa=min a.aa b.aa:=by omega
 have e2:c.af=max a.af b.af:=by omega
 have hj:=jP ha hb
 rw[eT ha hb]
 by_cases k:c.aa<c.af
 ·rw[decide_eq_true k,cond_true,v8 ha.s0 hb.s0]
  simp only
  obtain⟨g0,g1⟩:=GB (bJ a.ag b.ag) a.aa b.aa ha.qc hb.qc
  rw[v8 (jT _ _) g0,g1,e1,e2]
  rfl
 ·rw[decide_eq_false k,cond_false]
  congr 1
  refine wm e1 e2 ?_
  have hcv:NN c:=hc.valid (fun x hx=>by
   simp only[List.mem_cons,List.not_mem_nil,or_false]at hx
   rcases hx with rfl|rfl|rfl|rfl
   ·exact ha.qc
   ·exact ha.vR
   ·exact hb.qc
   ·exact hb.vR)
  have s1:c.ag=0:=by rcases hcv.st with h|h;exact h.2;omega
  have s2:(jn a b).ag=0:=by
   rcases hj.st with h|h
   ·exact h.2
   ·have:min a.aa b.aa<max a.af b.af:=h.1
    omega
  rw[s1,s2]
theorem Uu{a b:aD}(ha:NV a)(hb:NV b):Xd a b=some (bQ a b,0):=by
 unfold Xd
 rw[di,di,cR ha,cR hb]
 simp only[cond_true,cond_false]
 rw[gp ha hb]
theorem Im{a:aD}(h:NV a):bQ a a=a:=by
 rcases h with rfl|h
 ·exact gN
 ·rw[eT h h,MW h]
theorem mh{a b:aD}(ha:NV a)(hb:NV b):sH a b=some (bQ a b):=by
 unfold sH
 by_cases e:a=b
 ·subst e
  rw[AI,Im ha];rfl
 ·rw[z8 e,cond_false,Uu ha hb]
def bO(a:aD):Bool:=if 1<cA a then true else if cA a=1 then !bZ a 0 else false
theorem wC{a:aD}(h:NN a):cA a=if a.ag=0 then 1 else(a.af-a.aa)/a.ag+1:=by
 unfold cA
 rw[if_neg h.ne]
theorem size_pos{a:aD}(h:NN a):1<=cA a:=by
 rw[wC h]
 split
 ·omega
 ·have:0<=(a.af-a.aa)/a.ag:=Int.ediv_nonneg (by have:=h.le;omega) h.s0
  omega
theorem iM{a:aD}(h:NN a):cA a=1↔a.aa=a.af:=by
 rw[wC h]
 have hl:=h.le
 rcases h.st with ⟨h1,h2⟩|⟨h1,h2,h3⟩
 ·rw[if_pos h2];exact⟨fun _=>h1,fun _=>rfl⟩
 ·rw[u6]
  constructor
  ·intro k
   have:=Int.ediv_mul_cancel (Int.dvd_of_emod_eq_zero h3)
   rw[show (a.af-a.aa)/a.ag=0 by omega,Int.zero_mul]at this
   omega
  ·omega
theorem wK{a:aD}(h:NV a):HC a=some (bZ a 0,bO a):=by
 unfold HC bO
 rw[A7 h,jg h]
 simp only
 by_cases c:1<cA a
 ·rw[decide_eq_true c,if_pos c];rfl
 ·rw[decide_eq_false c,if_neg c,cond_false]
  by_cases c1:cA a=1
  ·rw[decide_eq_true c1,if_pos c1,cond_true]
   rcases h with rfl|h
   ·exfalso
    unfold cA at c1
    rw[if_pos rfl]at c1
    omega
   ·have e:=(iM h).mp c1
    have s:a.ag=0:=by rcases h.st with k|k;exact k.2;omega
    by_cases c2:a.aa=0
    ·rw[decide_eq_true c2,ko (show bz a 0 from⟨by omega,by omega,⟨0,by omega⟩⟩)];rfl
    ·rw[decide_eq_false c2,gP (show ¬bz a 0 from fun k=>by have:=k.1;have:=k.2.1;omega)];rfl
  ·rw[decide_eq_false c1,if_neg c1];rfl
theorem mK{a:aD}(h:NV a):zu a=some (bZ a 0,bO a):=by
 unfold zu bO
 rw[lV h,eR h]
 simp only
 by_cases c:1<cA a
 ·rw[decide_eq_true c,if_pos c];rfl
 ·rw[decide_eq_false c,if_neg c,cond_false]
  by_cases c1:cA a=1
  ·rw[decide_eq_true c1,if_pos c1,cond_true]
   cases bZ a 0<;>rfl
  ·rw[decide_eq_false c1,if_neg c1];rfl
theorem wv{a:aD}(h:NV a):HE a=some (bZ a 0,bO a):=by
 unfold HE
 rw[di,cR h]
 simp only[cond_true,cond_false]
 rw[wK h]
def gB:Bool->Bool->aD
 |true,true=>aD.mk 0 1 1
 |true,false=>aD.mk 0 0 0
 |false,true=>aD.mk 1 1 0
 |false,false=>bS
theorem Mn{a b:Bool}(h:(a||b)=true):gO a b=gB a b:=by
 cases a<;>cases b<;>first|rfl|cases h
theorem Lr(a b:Bool):mZ a b=some (gB a b):=by
 have v0:NN (cV 0):=NN.one (by omega) (by omega)
 have v1:NN (cV 1):=NN.one (by omega) (by omega)
 have e:bQ (cV 0) (cV 1)=aD.mk 0 1 1:=by rw[eT v0 v1];rfl
 unfold mZ
 cases a<;>cases b
 ·rfl
 ·simp only[cond_false,cond_true]
  rw[show gF=bS from rfl,gp (.inl rfl) (.inr (show NN (fu 1)from v1)),gN]
  rfl
 ·simp only[cond_false,cond_true]
  rw[show gF=bS from rfl,gp (.inl rfl) (.inr (show NN (fu 0)from v0)),gN]
  rfl
 ·simp only[cond_true]
  rw[show gF=bS from rfl,gp (.inl rfl) (.inr (show NN (fu 0)from v0)),gN]
  simp only
  rw[gp (.inr (show NN (fu 0)from v0)) (.inr (show NN (fu 1)from v1)),show bQ (fu 0) (fu 1)=bQ (cV 0) (cV 1)from rfl,e]
  rfl
theorem tG(a b:Bool):NV (gB a b):=by
 cases a<;>cases b
 ·exact .inl rfl
 ·exact .inr (NN.one (x:=1) (by omega) (by omega))
 ·exact .inr (NN.one (x:=0) (by omega) (by omega))
 ·exact .inr ⟨by decide,by decide,by decide, .inr ⟨by decide,by decide,by decide⟩⟩
def kz(P:Int->Prop)(c:aD):Prop:=(c=bS/\∀x,¬P x)\/(cv P c)
theorem kz.uniq{P:Int->Prop}{c d:aD}(h:kz P c)(k:kz P d):c=d:=by
 rcases h with ⟨h1,h2⟩|h<;>rcases k with ⟨k1,k2⟩|k
 ·rw[h1,k1]
 ·exact absurd k.lo (h2 _)
 ·exact absurd h.lo (k2 _)
 ·exact h.uniq k
theorem kz.congr{P Q:Int->Prop}{c:aD}(h:kz P c)(k:∀x,P x↔Q x):kz Q c:=by
 rcases h with ⟨h1,h2⟩|h
 ·exact .inl ⟨h1,fun x hx=>h2 x ((k x).mpr hx)⟩
 ·exact .inr (h.congr k)
theorem kz.valid{P:Int->Prop}{c:aD}(h:kz P c)(hP:∀x,P x->bN x):NV c:=by
 rcases h with ⟨h1,h2⟩|h
 ·exact .inl h1
 ·exact .inr (h.valid hP)
theorem kz.none{P:Int->Prop}(h:∀x,¬P x):kz P bS:= .inl ⟨rfl,h⟩
theorem kz.join{P Q:Int->Prop}{a b:aD}(h:kz P a)(k:kz Q b)(ha:NV a)(hb:NV b):kz (fun x=>P x\/Q x) (bQ a b):=by
 rcases h with ⟨rfl,h2⟩|h
 ·rw[gN]
  exact k.congr fun x=>⟨.inr,fun e=>e.elim (fun e=>absurd e (h2 x)) id⟩
 ·rcases k with ⟨rfl,k2⟩|k
  ·rw[tj]
   exact .inr (h.congr fun x=>⟨.inl,fun e=>e.elim id (fun e=>absurd e (k2 x))⟩)
  ·have hn:∀{P:Int->Prop} {c:aD},cv P c->NV c->NN c:=fun{P c} e v=>by
    rcases v with rfl|v
    ·have:=(e.all _ e.lo).2.1
     exact absurd this (by decide)
    ·exact v
   rw[eT (hn h ha) (hn k hb)]
   exact .inr (h.join k)
theorem kz.mem{a:aD}(h:NV a):kz (bz a) a:=by
 rcases h with rfl|h
 ·exact .inl ⟨rfl,fun x=>vU⟩
 ·exact .inr h.dZ
theorem NX{a:aD}(h:NV a){x:Int}(hx:bz a x):bN x:=by
 rcases h with rfl|h
 ·exact absurd hx vU
 ·have:=h.lo;have:=h.hi;have:=hx.1;have:=hx.2.1
  exact⟨by omega,by omega⟩
theorem XY{lo hi st:Int}(h1:lo<=hi)(h2:1<=st):(hO lo hi st).af=lo+(hi-lo)/st*st:=by
 unfold hO
 rw[u6,u6]
 by_cases c3:lo=lo+(hi-lo)/st*st
 ·rw[if_pos c3];exact c3
 ·rw[if_neg c3]
theorem NN.st1{a:aD}(h:NN a)(k:a.aa<a.af):1<=a.ag:=by rcases h.st with h|h<;>omega
def Ex(P:Int->Prop)(c:aD):Prop:=NV c/\∀x,bz c x↔P x
theorem Ex.rep{P:Int->Prop}{c:aD}(h:Ex P c):kz P c:=(kz.mem h.1).congr h.2
theorem KE{a:aD}(h:NN a){at_:Int}(h1:a.aa<=at_)(h2:at_<a.af):Ex (fun x=>bz a x/\x<=at_) (hO a.aa at_ a.ag):=by
 have hs:=h.st1 (by omega)
 have hl:=h.lo;have hh:=h.hi
 refine⟨.inr (j0 hl (by omega) h1 h.s0),fun x=> ?_⟩
 rw[Ga h1 hs]
 exact⟨fun⟨k1,k2,k3⟩=>⟨⟨k1,by omega,k3⟩,k2⟩,fun⟨⟨k1,_,k3⟩,k2⟩=>⟨k1,k2,k3⟩⟩
theorem GM{a:aD}(h:NN a){at_:Int}(h1:a.aa<=at_)(h2:at_<a.af):
  Ex (fun x=>bz a x/\at_<x) (hO (a.aa+((at_-a.aa)/a.ag+1)*a.ag) a.af a.ag)/\a.aa<a.aa+((at_-a.aa)/a.ag+1)*a.ag/\a.aa+((at_-a.aa)/a.ag+1)*a.ag<=a.af:=by
 have hs:=h.st1 (by omega)
 have hl:=h.lo;have hh:=h.hi
 have q2:(at_-a.aa)/a.ag*a.ag<=at_-a.aa:=Int.ediv_mul_le _ (by omega)
 have q4:=Int.lt_ediv_add_one_mul_self (at_-a.aa) (show 0<a.ag by omega)
 have up:∀x,a.ag∣x-a.aa->at_<x->a.aa+((at_-a.aa)/a.ag+1)*a.ag<=x:=fun x hd hx=>by
  obtain⟨q,hq⟩:=hd
  rw[Int.mul_comm]at hq
  have:(at_-a.aa)/a.ag<q:=Int.lt_of_mul_lt_mul_right (a:=a.ag) (by omega) (by omega)
  have:((at_-a.aa)/a.ag+1)*a.ag<=q*a.ag:=Int.mul_le_mul_of_nonneg_right (by omega) (by omega)
  omega
 have hle:=up a.af h.dvd h2
 have hd:a.ag∣((at_-a.aa)/a.ag+1)*a.ag:=Int.dvd_mul_left ..
 refine⟨⟨.inr (j0 (by omega) hh hle h.s0),fun x=> ?_⟩,by omega,hle⟩
 rw[Ga hle hs]
 constructor
 ·rintro⟨k1,k2,k3⟩
  have:=Int.dvd_add k3 hd
  rw[show x-(a.aa+((at_-a.aa)/a.ag+1)*a.ag)+((at_-a.aa)/a.ag+1)*a.ag=x-a.aa by omega]at this
  exact⟨⟨by omega,k2,this⟩,by omega⟩
 ·rintro⟨⟨k1,k2,k3⟩,k4⟩
  have:=Int.dvd_sub k3 hd
  rw[show x-a.aa-((at_-a.aa)/a.ag+1)*a.ag=x-(a.aa+((at_-a.aa)/a.ag+1)*a.ag)by omega]at this
  exact⟨up x k3 k4,k2,this⟩
theorem vW{a:aD}(h:NV a){Q:Int->Prop}(k:∀x,bz a x->Q x):Ex (fun x=>bz a x/\Q x) a:=⟨h,fun x=>⟨fun e=>⟨e,k x e⟩,fun e=>e.1⟩⟩
theorem n6{a:aD}{Q:Int->Prop}(k:∀x,bz a x->¬Q x):Ex (fun x=>bz a x/\Q x) bS:=⟨.inl rfl,fun x=>⟨fun e=>absurd e vU,fun e=>absurd e.2 (k x e.1)⟩⟩
theorem sq{a:aD}(h:NV a)(at_:Int):∃l u,vP a at_=some (l,u)/\Ex (fun x=>bz a x/\x<=at_) l/\Ex (fun x=>bz a x/\at_<x) u:=by
 unfold vP
 rcases h with rfl|h
 ·refine⟨bS,bS,?_,n6 fun x hx=>absurd hx vU,n6 fun x hx=>absurd hx vU⟩
  rw[gD];rfl
 ·rw[cY h.ne,cond_false]
  have hle:=h.le;have hl:=h.lo;have hh:=h.hi
  by_cases c1:at_<a.aa
  ·rw[decide_eq_true c1]
   exact⟨bS,a,rfl,n6 fun x hx k=>by have:=hx.1;omega,vW (.inr h) fun x hx=>by have:=hx.1;omega⟩
  ·rw[decide_eq_false c1]
   simp only[cond_false]
   by_cases c2:a.af<=at_
   ·rw[decide_eq_true c2]
    exact⟨a,bS,rfl,vW (.inr h) fun x hx=>by have:=hx.2.1;omega,n6 fun x hx k=>by have:=hx.2.1;omega⟩
   ·have hs:=h.st1 (by omega)
    obtain⟨r1,r2,r3⟩:=GM h (at_:=at_) (by omega) (by omega)
    have e:a.aa+((at_-a.aa)/a.ag+1)*a.ag=a.aa+(at_-a.aa)/a.ag*a.ag+a.ag:=by rw[Int.add_mul,Int.one_mul];omega
    rw[e]at r1 r2 r3
    rw[decide_eq_false c2,cond_false,mw (by omega) (by omega) h.s0]
    simp only
    rw[XY (by omega) hs,aF,mw (by omega) (by omega) h.s0]
    exact⟨_,_,rfl,KE h (by omega) (by omega),r1⟩
theorem C0{a:aD}(h:NV a)(at_:Int):∃l,m41 a at_=some l/\Ex (fun x=>bz a x/\x<=at_) l:=by
 unfold m41
 rcases h with rfl|h
 ·exact⟨bS,rfl,n6 fun x hx=>absurd hx vU⟩
 ·rw[fC h,cond_false]
  have hle:=h.le;have hl:=h.lo;have hh:=h.hi
  by_cases c1:at_<a.aa
  ·rw[decide_eq_true c1]
   exact⟨bS,rfl,n6 fun x hx k=>by have:=hx.1;omega⟩
  ·rw[decide_eq_false c1]
   simp only[cond_false]
   by_cases c2:a.af<=at_
   ·rw[decide_eq_true c2]
    exact⟨a,rfl,vW (.inr h) fun x hx=>by have:=hx.2.1;omega⟩
   ·rw[decide_eq_false c2,cond_false,j6 h.qc ⟨by omega,by omega⟩ (h.st1 (by omega))]
    exact⟨_,rfl,KE h (by omega) (by omega)⟩
theorem uk{a:aD}(h:NV a)(at_:Int):∃u,OM a at_=some u/\Ex (fun x=>bz a x/\at_<x) u:=by
 unfold OM
 rcases h with rfl|h
 ·refine⟨bS,?_,n6 fun x hx=>absurd hx vU⟩
  rw[kB];rfl
 ·rw[fC h,cond_false]
  have hle:=h.le;have hl:=h.lo;have hh:=h.hi
  by_cases c1:a.af<=at_
  ·rw[decide_eq_true c1]
   exact⟨bS,rfl,n6 fun x hx k=>by have:=hx.2.1;omega⟩
  ·rw[decide_eq_false c1]
   simp only[cond_false]
   by_cases c2:at_<a.aa
   ·rw[decide_eq_true c2]
    exact⟨a,rfl,vW (.inr h) fun x hx=>by have:=hx.1;omega⟩
   ·have hs:=h.st1 (by omega)
    obtain⟨r1,r2,r3⟩:=GM h (at_:=at_) (by omega) (by omega)
    have q0:0<=(at_-a.aa)/a.ag:=Int.ediv_nonneg (by omega) (by omega)
    have q1:(at_-a.aa)/a.ag<=at_-a.aa:=Int.ediv_le_self _ (by omega)
    rw[decide_eq_false c2,cond_false,fA,aF (n:=at_-a.aa),iK,aF (n:=(at_-a.aa)/a.ag),aF (n:=(at_-a.aa)/a.ag+1),
     aF (n:=((at_-a.aa)/a.ag+1)*a.ag),aF,j6 ⟨by omega,by omega⟩ h.vR hs]
    exact⟨_,rfl,r1⟩
theorem kz.empty{P:Int->Prop}{c:aD}(h:kz P c)(hv:NV c):dI c=jK c/\((dI c=true/\c=bS/\∀x,¬P x)\/(dI c=false/\NN c/\cv P c)):=by
 rcases h with ⟨rfl,h⟩|h
 ·exact⟨by rw[gD];rfl, .inl ⟨gD,rfl,h⟩⟩
 ·rcases hv with rfl|hv
  ·exact absurd (h.all _ h.lo).2.1 (by decide)
  ·exact⟨by rw[cY hv.ne,fC hv], .inr ⟨cY hv.ne,hv,h⟩⟩
def rQ(a:aD)(lo hi:Int)(y:Int):Prop:=∃x,bz a x/\y=max lo (min x hi)
theorem SE{a:aD}{lo hi y:Int}(h1:bN lo)(h2:bN hi)(h3:lo<=hi)(h:rQ a lo hi y):bN y:=by
 obtain⟨x,_,rfl⟩:=h
 obtain⟨a1,a2⟩:=h1
 obtain⟨b1,b2⟩:=h2
 exact⟨by omega,by omega⟩
theorem Ck(x:Int):kz (· =x) (cV x):= .inr (yY x)
theorem ox{x:Int}(h:bN x):NV (cV x):= .inr (NN.one h.1 h.2)
theorem ld{Q R:Int->Prop}{c d:aD}{b:Int}(hc:kz Q c)(vc:NV c)(hb:bN b)(hd:kz R d)(vd:NV d):
  (dI d=true->kz (fun y=>Q y\/(y=b/\∃x,R x)) c)/\(dI d=false->kz (fun y=>Q y\/(y=b/\∃x,R x)) (bQ c (cV b))):=by
 rcases (hd.empty vd).2 with ⟨e1,rfl,e3⟩|⟨e1,e2,e3⟩
 ·refine⟨fun _=>hc.congr fun x=>⟨.inl,fun h=>h.elim id fun h=>absurd h.2.choose_spec (e3 _)⟩,fun h=> ?_⟩
  rw[e1]at h;cases h
 ·refine⟨fun h=> ?_,fun _=>((hc.join (Ck b) vc (ox hb)).congr fun x=>⟨fun h=>h.elim .inl fun h=> .inr ⟨h,_,e3.lo⟩,fun h=>h.elim .inl fun h=> .inr h.1⟩)⟩
  rw[e1]at h;cases h
theorem Hj{a:aD}(h:NV a)(lo hi:Int):(∃c,TH a lo hi=some (c,0)/\TB a lo hi=some (c,0)/\kz (rQ a lo hi) c/\NV c/\bN lo/\bN hi/\lo<=hi)\/
  (TH a lo hi=some (aD.mk 0 0 0,3)/\TB a lo hi=some (aD.mk 0 0 0,3)/\¬(bN lo/\bN hi/\lo<=hi)):=by
 unfold TH TB
 rw[di,dW,cR h,iE,iE,tF,tF]
 simp only[cond_true,cond_false]
 by_cases h1: -1099511627776<=lo/\lo<=1099511627776
 ·by_cases h2: -1099511627776<=hi/\hi<=1099511627776
  ·by_cases h3:hi<lo
   ·right
    rw[decide_eq_true h1,decide_eq_true h2,decide_eq_true h3]
    exact⟨rfl,rfl,fun k=>by have:=k.2.2;omega⟩
   ·left
    rw[decide_eq_true h1,decide_eq_true h2,decide_eq_false h3]
    simp only[cond_true,cond_false]
    rw[aF (n:=lo-1)]
    obtain⟨un,re,e1,r1,r2⟩:=sq h (lo-1)
    obtain⟨ins,ov,e2,r3,r4⟩:=sq r2.1 hi
    have mi:∀x,bz ins x↔bz a x/\lo<=x/\x<=hi:=fun x=>⟨fun k=>let ⟨k1,k2⟩:=(r3.2 x).mp k;let ⟨k3,k4⟩:=(r2.2 x).mp k1;⟨k3,by omega,k2⟩,fun⟨k1,k2,k3⟩=>(r3.2 x).mpr ⟨(r2.2 x).mpr ⟨k1,by omega⟩,k3⟩⟩
    have mo:∀x,bz ov x↔bz a x/\hi<x:=fun x=>⟨fun k=>let ⟨k1,k2⟩:=(r4.2 x).mp k;let ⟨k3,k4⟩:=(r2.2 x).mp k1;⟨k3,k2⟩,fun⟨k1,k2⟩=>(r4.2 x).mpr ⟨(r2.2 x).mpr ⟨k1,by omega⟩,k2⟩⟩
    obtain⟨x1,f1,s1⟩:=uk h (lo-1)
    obtain⟨x2,f2,s2⟩:=C0 s1.1 hi
    obtain⟨x3,f3,s3⟩:=C0 h lo
    obtain⟨x4,f4,s4⟩:=uk h hi
    have m2:∀x,bz x2 x↔bz a x/\lo<=x/\x<=hi:=fun x=>⟨fun k=>let ⟨k1,k2⟩:=(s2.2 x).mp k;let ⟨k3,k4⟩:=(s1.2 x).mp k1;⟨k3,by omega,k2⟩,fun⟨k1,k2,k3⟩=>(s2.2 x).mpr ⟨(s1.2 x).mpr ⟨k1,by omega⟩,k3⟩⟩
    have rlo:bN lo:=h1
    have rhi:bN hi:=h2
    have nb:∀b:Bool,(match b with|true=>true|false=>false)=b:=fun b=>by cases b<;>rfl
    obtain⟨t1,t2⟩:=ld (Ex.rep ⟨r3.1,mi⟩) r3.1 rlo r1.rep r1.1
    have P:∃c,(match vP a (lo-1)with|none=>none|some r3=>match vP r3.snd hi with|none=>none|some r4=>bif bif dI r3.fst then false else true then match jY r4.fst (fu lo)with|none=>none|some r5=>bif bif dI r4.snd then false else true then match jY r5 (fu hi)with|none=>none|some r6=>some (r6,(0:Int))else some (r5,0)else bif bif dI r4.snd then false else true then match jY r4.fst (fu hi)with|none=>none|some r7=>some (r7,0)else some (r4.fst,0))=some (c,0)/\kz (rQ a lo hi) c:=by
     have fin:∀c,NV c->kz (fun y=>(bz a y/\lo<=y/\y<=hi)\/(y=lo/\∃x,bz a x/\x<=lo-1)) c->∃d,(bif bif dI ov then false else true then match jY c (fu hi)with|none=>none|some r6=>some (r6,(0:Int))else some (c,0))=some (d,0)/\kz (rQ a lo hi) d:=fun c vc hc=>by
      obtain⟨u1,u2⟩:=ld hc vc rhi (Ex.rep ⟨r4.1,mo⟩) r4.1
      have eq:∀y,(((bz a y/\lo<=y/\y<=hi)\/(y=lo/\∃x,bz a x/\x<=lo-1))\/(y=hi/\∃x,bz a x/\hi<x))↔rQ a lo hi y:=fun y=>by
       constructor
       ·rintro((⟨k1,k2,k3⟩|⟨rfl,x,k1,k2⟩)|⟨rfl,x,k1,k2⟩)
        ·exact⟨y,k1,by omega⟩
        ·exact⟨x,k1,by omega⟩
        ·exact⟨x,k1,by omega⟩
       ·rintro⟨x,k1,rfl⟩
        rcases (show x<lo\/hi<x\/(lo<=x/\x<=hi)by omega)with k|k|k
        ·exact .inl (.inr ⟨by omega,x,k1,by omega⟩)
        ·exact .inr ⟨by omega,x,k1,k⟩
        ·rw[show max lo (min x hi)=x by omega]
         exact .inl (.inl ⟨k1,k.1,k.2⟩)
      cases ho:dI ov with
      |true=>exact⟨c,rfl,(u1 ho).congr eq⟩
      |false=>
       simp only[cond_false,cond_true]
       rw[gp vc (.inr (show NN (fu hi)from NN.one h2.1 h2.2))]
       exact⟨_,rfl,(u2 ho).congr eq⟩
     rw[e1]
     simp only
     rw[e2]
     simp only
     cases hu:dI un with
     |true=>
      simp only[cond_false,cond_true]
      exact fin ins r3.1 (t1 hu)
     |false=>
      simp only[cond_false,cond_true]
      rw[gp r3.1 (.inr (show NN (fu lo)from NN.one h1.1 h1.2))]
      exact fin (bQ ins (cV lo)) (dz r3.1 (ox rlo)) (t2 hu)
    obtain⟨c,P1,P2⟩:=P
    have vc:NV c:=P2.valid fun x hx=>SE rlo rhi (by omega) hx
    refine⟨c,P1,?_,P2,vc,rlo,rhi,by omega⟩
    have fin:∀c',NV c'->kz (fun y=>(bz a y/\lo<=y/\y<=hi)\/(y=lo/\∃x,bz a x/\x<=lo)) c'->(match OM a hi with|none=>none|some r7=>bif bif jK r7 then false else true then match jk c' (aD.mk hi hi 0)with|none=>none|some r8=>some (r8,(0:Int))else some (c',0))=some (c,0):=fun c' vc' hc'=>by
     obtain⟨u1,u2⟩:=ld hc' vc' rhi s4.rep s4.1
     have eq:∀y,(((bz a y/\lo<=y/\y<=hi)\/(y=lo/\∃x,bz a x/\x<=lo))\/(y=hi/\∃x,bz a x/\hi<x))↔rQ a lo hi y:=fun y=>by
      constructor
      ·rintro((⟨k1,k2,k3⟩|⟨rfl,x,k1,k2⟩)|⟨rfl,x,k1,k2⟩)
       ·exact⟨y,k1,by omega⟩
       ·exact⟨x,k1,by omega⟩
       ·exact⟨x,k1,by omega⟩
      ·rintro⟨x,k1,rfl⟩
       rcases (show x<lo\/hi<x\/(lo<=x/\x<=hi)by omega)with k|k|k
       ·exact .inl (.inr ⟨by omega,x,k1,by omega⟩)
       ·exact .inr ⟨by omega,x,k1,k⟩
       ·rw[show max lo (min x hi)=x by omega]
        exact .inl (.inl ⟨k1,k.1,k.2⟩)
     rw[f4]
     simp only
     rw[<-(s4.rep.empty s4.1).1]
     cases ho:dI x4 with
     |true=>
      rw[((u1 ho).congr eq).uniq P2];rfl
     |false=>
      simp only[cond_false,cond_true]
      rw[eN vc' (.inr (show NN (aD.mk hi hi 0)from NN.one h2.1 h2.2))]
      simp only
      rw[show bQ c' (aD.mk hi hi 0)=c from((u2 ho).congr eq).uniq P2]
    obtain⟨t1,t2⟩:=ld (Ex.rep ⟨s2.1,m2⟩) s2.1 rlo s3.rep s3.1
    rw[f1]
    simp only
    rw[f2]
    simp only
    rw[f3]
    simp only
    rw[<-(s3.rep.empty s3.1).1]
    cases hu:dI x3 with
    |true=>
     simp only[cond_false,cond_true]
     exact fin x2 s2.1 (t1 hu)
    |false=>
     simp only[cond_false,cond_true]
     rw[eN s2.1 (.inr (show NN (aD.mk lo lo 0)from NN.one h1.1 h1.2))]
     exact fin _ (dz s2.1 (ox rlo)) (t2 hu)
  ·right
   rw[decide_eq_true h1,decide_eq_false h2]
   refine⟨?_,rfl,fun k=>h2 k.2.1⟩
   cases decide (hi<lo)<;>rfl
 ·right
  rw[decide_eq_false h1]
  refine⟨?_,rfl,fun k=>h1 k.1⟩
  cases decide (hi<lo)<;>rfl
theorem jJ{a:aD}(h:NV a):bO a=true↔∃x,bz a x/\x≠0:=by
 unfold bO
 rcases h with rfl|h
 ·rw[show cA bS=0 from by unfold cA;rw[if_pos rfl],u6,u6]
  exact⟨fun k=>(by cases k),fun⟨x,k,_⟩=>absurd k vU⟩
 ·have hp:=size_pos h
  have h1:=iM h
  have hle:=h.le
  have mlo:bz a a.aa:=⟨Int.le_refl _,h.le,⟨0,by omega⟩⟩
  have mhi:bz a a.af:=⟨h.le,Int.le_refl _,h.dvd⟩
  by_cases c:1<cA a
  ·rw[if_pos c]
   refine⟨fun _=> ?_,fun _=>rfl⟩
   by_cases z:a.aa=0
   ·exact⟨a.af,mhi,fun k=>by have:=h1.mpr (by omega);omega⟩
   ·exact⟨a.aa,mlo,z⟩
  ·rw[if_neg c,if_pos (show cA a=1 by omega)]
   have e:=h1.mp (by omega)
   constructor
   ·intro k
    refine⟨a.aa,mlo,fun z=> ?_⟩
    rw[ko (show bz a 0 by rw[<-z];exact mlo)]at k
    cases k
   ·rintro⟨x,k1,k2⟩
    rw[gP (show ¬bz a 0 from fun k=>by have:=k.1;have:=k.2.1;have:=k1.1;have:=k1.2.1;omega)]
    rfl
theorem zero_or{a:aD}(h:NN a):(bO a||bZ a 0)=true:=by
 have mlo:bz a a.aa:=⟨Int.le_refl _,h.le,⟨0,by omega⟩⟩
 by_cases z:a.aa=0
 ·rw[ko (show bz a 0 by rw[<-z];exact mlo),Bool.or_true]
 ·rw[(jJ (.inr h)).mpr ⟨_,mlo,z⟩,Bool.true_or]
def ahK(a:aD):aD:=aD.mk (-a.af) (-a.aa) a.ag
theorem We{a:aD}(h:NN a):NN (ahK a):=by
 have:=h.lo;have:=h.hi;have:=h.le
 refine⟨by show _<= -a.af;omega,by show-a.aa<=_;omega,by show-a.af<= -a.aa;omega,?_⟩
 rcases h.st with ⟨h1,h2⟩|⟨h1,h2,h3⟩
 ·exact .inl ⟨by show-a.af= -a.aa;omega,h2⟩
 ·refine .inr ⟨by show-a.af< -a.aa;omega,h2,?_⟩
  show (-a.aa- -a.af)%a.ag=0
  rw[show-a.aa- -a.af=a.af-a.aa by omega]
  exact h3
def nZ(op:Int)(a:aD):aD×Int:=open Classical in
 if¬NV a\/(op≠6/\op≠7)then(aD.mk 0 0 0,1)else if a=bS then(bS,0)else if op=7 then(gB (bO a) (bZ a 0),0)else(ahK a,0)
theorem AK(op:Int):(bif bif decide (op=6)then false else true then some (bif decide (op=7)then false else true)else some false)=some (decide (op≠6/\op≠7)):=by
 by_cases h:op=6
 ·rw[decide_eq_true h,decide_eq_false (show ¬(op≠6/\op≠7)from fun k=>k.1 h)];rfl
 ·by_cases k:op=7
  ·rw[decide_eq_false h,decide_eq_true k,decide_eq_false (show ¬(op≠6/\op≠7)from fun e=>e.2 k)];rfl
  ·rw[decide_eq_false h,decide_eq_false k,decide_eq_true (show op≠6/\op≠7 from⟨h,k⟩)];rfl
theorem Kl{a:aD}(h:NV a)(op:Int):TL op a=some (nZ op a):=by
 unfold TL nZ
 rw[di,cR h]
 simp only[cond_true,cond_false]
 rw[AK]
 by_cases ho:op≠6/\op≠7
 ·rw[decide_eq_true ho,if_pos (.inr ho)];rfl
 ·rw[decide_eq_false ho,if_neg (fun k=>k.elim (fun e=>e h) ho)]
  simp only[cond_false]
  rcases h with rfl|h
  ·rw[gD,if_pos rfl];rfl
  ·rw[cY h.ne,if_neg h.ne,cond_false]
   by_cases h7:op=7
   ·rw[decide_eq_true h7,if_pos h7,cond_true,wK (.inr h)]
    simp only
    rw[Lr]
   ·rw[decide_eq_false h7,if_neg h7,cond_false]
    have:=h.lo;have:=h.hi;have:=h.le
    rw[aF (n:=0-a.af),aF (n:=0-a.aa),Int.zero_sub,Int.zero_sub]
    rfl
theorem KP{a:aD}(h:NV a)(op:Int):Sm op a=some (nZ op a):=by
 unfold Sm nZ
 rw[dW,cR h]
 simp only[cond_true,cond_false]
 rw[AK]
 by_cases ho:op≠6/\op≠7
 ·rw[decide_eq_true ho,if_pos (.inr ho)];rfl
 ·rw[decide_eq_false ho,if_neg (fun k=>k.elim (fun e=>e h) ho)]
  simp only[cond_false]
  rcases h with rfl|h
  ·rw[kB,if_pos rfl];rfl
  ·rw[fC h,if_neg h.ne,cond_false]
   by_cases h7:op=7
   ·rw[decide_eq_false (show ¬op=6 by omega),if_pos h7,cond_false,mK (.inr h)]
    simp only
    rw[Mn (zero_or h)]
   ·rw[decide_eq_true (show op=6 by omega),if_neg h7,cond_true]
    have:=h.lo;have:=h.hi;have:=h.le
    rw[aF (n:=0-a.af),aF (n:=0-a.aa),Int.zero_sub,Int.zero_sub]
    rfl
theorem J8:NV (aD.mk 0 0 0):= .inr (NN.one (x:=0) (by omega) (by omega))
def lS(x y:Int):Int:=if y=0 then 0 else if x.tmod y≠0/\(decide (x<0))≠(decide (y<0))then x.tdiv y-1 else x.tdiv y
theorem rS{x y:Int}(hy:y≠0):∃q r:Int,x.tdiv y=q/\x.tmod y=r/\y*q+r=x/\r.natAbs<y.natAbs/\q.natAbs<=x.natAbs/\(0<=x->0<=r)/\(x<=0->r<=0)/\(r≠0->q.natAbs<x.natAbs):=by
 refine⟨_,_,rfl,rfl,Int.mul_tdiv_add_tmod x y,?_,?_,fun h=>Int.tmod_nonneg _ h,fun h=> ?_,fun h=> ?_⟩
 ·rw[Int.natAbs_tmod];exact Nat.mod_lt _ (by omega)
 ·rw[Int.natAbs_tdiv];exact Nat.div_le_self _ _
 ·have:=Int.tmod_nonneg (a:= -x) y (by omega)
  rw[Int.neg_tmod]at this
  omega
 ·have e:=Nat.div_add_mod x.natAbs y.natAbs
  have hr:(x.tmod y).natAbs≠0:=by omega
  rw[Int.natAbs_tmod]at hr
  rw[Int.natAbs_tdiv]
  have h1:x.natAbs/y.natAbs<=y.natAbs*(x.natAbs/y.natAbs):=Nat.le_mul_of_pos_left _ (by omega)
  show x.natAbs/y.natAbs<x.natAbs
  omega
theorem HV{x y:Int}(hx:bN x):bN (lS x y)/\(lS x y).natAbs<=x.natAbs:=by
 unfold lS
 obtain⟨h1,h2⟩:=hx
 by_cases hy:y=0
 ·rw[if_pos hy];exact⟨⟨by omega,by omega⟩,by omega⟩
 ·rw[if_neg hy]
  obtain⟨q,r,e1,e2,e3,e4,e5,_,_,e6⟩:=rS (x:=x) hy
  rw[e1,e2]
  split
  ·rename_i h
   have:=e6 h.1
   exact⟨⟨by omega,by omega⟩,by omega⟩
  ·exact⟨⟨by omega,by omega⟩,by omega⟩
theorem Kb{x y:Int}(hy:bN y)(h0:y≠0):bN (x-y*lS x y)/\(0<y->0<=x-y*lS x y/\x-y*lS x y<y)/\(y<0->x-y*lS x y<=0/\y<x-y*lS x y):=by
 unfold lS
 rw[if_neg h0]
 obtain⟨h1,h2⟩:=hy
 obtain⟨q,r,e1,e2,e3,e4,e5,e7,e8,e6⟩:=rS (x:=x) h0
 rw[e1,e2]
 by_cases h:r≠0/\decide (x<0)≠decide (y<0)
 ·rw[if_pos h,Int.mul_sub,Int.mul_one]
  obtain⟨k1,k2⟩:=h
  by_cases c:x<0
  ·have c2:¬y<0:=fun k=>k2 (by rw[decide_eq_true c,decide_eq_true k])
   have:=e8 (by omega)
   exact⟨⟨by omega,by omega⟩,fun _=>by omega,fun _=>by omega⟩
  ·have c2:y<0:=Decidable.byContradiction fun k=>k2 (by rw[decide_eq_false c,decide_eq_false k])
   have:=e7 (by omega)
   exact⟨⟨by omega,by omega⟩,fun _=>by omega,fun _=>by omega⟩
 ·rw[if_neg h]
  by_cases k1:r=0
  ·exact⟨⟨by omega,by omega⟩,fun _=>by omega,fun _=>by omega⟩
  ·have k2:decide (x<0)=decide (y<0):=Decidable.byContradiction fun k=>h ⟨k1,k⟩
   by_cases c:x<0
   ·have c2:y<0:=by
     rw[decide_eq_true c]at k2
     exact of_decide_eq_true k2.symm
    have:=e8 (by omega)
    exact⟨⟨by omega,by omega⟩,fun _=>by omega,fun _=>by omega⟩
   ·have c2:¬y<0:=by
     rw[decide_eq_false c]at k2
     exact of_decide_eq_false k2.symm
    have:=e7 (by omega)
    exact⟨⟨by omega,by omega⟩,fun _=>by omega,fun _=>by omega⟩
theorem Br{x y:Int}(hx:bN x)(hy:bN y):RJ x y=some (lS x y):=by
 have hR:=HV (y:=y) hx
 unfold RJ
 unfold lS at hR ⊢
 obtain⟨h1,h2⟩:=hx
 by_cases h0:y=0
 ·rw[decide_eq_true h0,if_pos h0];rfl
 ·rw[if_neg h0]at hR
  rw[decide_eq_false h0,if_neg h0,cond_false,if_pos h0,if_pos h0,vN]
  obtain⟨q,r,e1,e2,e3,e4,e5,e7,e8,e6⟩:=rS (x:=x) h0
  rw[e1,e2]at hR ⊢
  by_cases k1:r=0
  ·rw[decide_eq_false (show ¬¬r=0 by omega),if_neg (fun k=>k.1 k1)]
   simp only[cond_false]
   rw[aF]
  ·rw[decide_eq_true k1]
   simp only[cond_true]
   by_cases k2:decide (x<0)=decide (y<0)
   ·rw[if_neg (fun k=>k.2 k2),k2]
    have:(bif decide (y<0)==decide (y<0)then false else true)=false:=by cases decide (y<0)<;>rfl
    rw[this]
    simp only[cond_false]
    rw[aF]
   ·rw[if_pos ⟨k1,k2⟩]at hR ⊢
    have:(bif decide (x<0)==decide (y<0)then false else true)=true:=by
     revert k2
     cases decide (x<0)<;>cases decide (y<0)<;>first|(intro k2;exact absurd rfl k2)|(intro _;rfl)
    rw[this]
    simp only[cond_true]
    rw[aF (n:=q),aF (n:=q-1)]
theorem Mw{x y:Int}(hx:bN x)(hy:bN y):VL x y=some (lS x y):=Br hx hy
def lI(b:Bool):Int:=if b then 1 else 0
def dU(op x y:Int):Int:=
 if op=8 then x+y else if op=9 then x-y else if op=10 then x*y else if op=11 then lS x y else if op=12 then(if y=0 then 0 else x-y*lS x y)
 else if op=13 then lI (decide (x=y))else if op=14 then lI (!decide (x=y))else if op=15 then lI (decide (x<y))else if op=16 then lI (decide (x<=y))else if op=17 then lI (decide (y<x))else if op=18 then lI (decide (y<=x))
 else if op=19 then lI (decide (x≠0/\y≠0))else if op=20 then lI (decide (x≠0\/y≠0))else if op=21 then min x y else max x y
theorem qm(b:Bool):bN (lI b):=by cases b<;>exact⟨by decide,by decide⟩
theorem WE{op x y:Int}(hx:bN x)(hy:bN y)(ho:op=11\/op=12\/op=21\/op=22):N1 op x y=some (dU op x y):=by
 unfold N1 dU
 rcases ho with rfl|rfl|rfl|rfl
 ·rw[decide_eq_true rfl,cond_true,Br hx hy];rfl
 ·rw[decide_eq_false (by decide),decide_eq_true rfl,cond_false,cond_true]
  show _=some (if y=0 then 0 else x-y*lS x y)
  by_cases h0:y=0
  ·rw[decide_eq_true h0,if_pos h0];rfl
  ·rw[decide_eq_false h0,if_neg h0,cond_false,Br hx hy]
   simp only
   have hm:=Kb (x:=x) hy h0
   obtain⟨a1,a2⟩:=hx
   obtain⟨b1,b2⟩:=hy
   obtain⟨⟨c1,c2⟩,_⟩:=hm
   rw[aF (n:=y*lS x y),aF]
 ·rw[decide_eq_false (by decide),decide_eq_false (by decide),decide_eq_true rfl]
  simp only[cond_false,cond_true]
  rw[show (if y<x then y else x)=min x y by split<;>omega]
  rfl
 ·rw[decide_eq_false (show ¬(22:Int)=11 by decide),decide_eq_false (show ¬(22:Int)=12 by decide),decide_eq_false (show ¬(22:Int)=21 by decide)]
  simp only[cond_false]
  rw[show (if x<y then y else x)=max x y by split<;>omega]
  rfl
def binop(op:Int):Prop:=8<=op/\op<=22
theorem tH{x:Int}(hx:bN x):@Eq Int (gQ x 0) ((x.natAbs:Nat):Int):=by
 unfold gQ
 obtain⟨h1,h2⟩:=hx
 by_cases c:x<0
 ·rw[decide_eq_true c,cond_true,aF];show @Eq Int (0-x) ((x.natAbs:Nat):Int);omega
 ·rw[decide_eq_false c,cond_false,aF];show @Eq Int (x-0) ((x.natAbs:Nat):Int);omega
theorem kY{x:Int}(hx:bN x):@Eq Int (gZ x) ((x.natAbs:Nat):Int):=by
 obtain⟨h1,h2⟩:=hx
 obtain⟨k1,k2⟩:=BY (x:=x) (by omega) (by omega)
 generalize gZ x=z at*
 have k1:(0:Int)<=z:=k1
 have k2:@Eq Int z x\/@Eq Int z (-x):=k2
 show @Eq Int z ((x.natAbs:Nat):Int)
 omega
theorem Gf{x y:Int}(h0:x≠0):((1099511627776:Int)/x.natAbs<y.natAbs)↔¬bN (x*y):=by
 have hp:(0:Int)<(x.natAbs:Int):=by omega
 have e:((x*y).natAbs:Int)=(y.natAbs:Int)*(x.natAbs:Int):=by rw[Int.natAbs_mul,Int.natCast_mul,Int.mul_comm]
 have hi:bN (x*y)↔((x*y).natAbs:Int)<=1099511627776:=⟨fun⟨h1,h2⟩=>by omega,fun h=>⟨by omega,by omega⟩⟩
 rw[hi,e,<-Int.le_ediv_iff_mul_le hp]
 omega
theorem WO(b:Bool):tB b=lI b:=by cases b<;>rfl
theorem cU{op x y v:Int}(h:v=dU op x y)(hr:bN (dU op x y)):∃w,some (v,true)=some (w,decide (bN (dU op x y)))/\(bN (dU op x y)->w=dU op x y):=⟨v,by rw[decide_eq_true hr],fun _=>h⟩
theorem VQ{x y:Int}(hx:bN x)(hy:bN y):∃v,UM x y=some (v,decide (bN (x*y)))/\(bN (x*y)->v=x*y):=by
 unfold UM
 rw[vN,vN,tH hx,tH hy]
 by_cases h0:x=0
 ·subst h0
  rw[decide_eq_false (show ¬¬(0:Int)=0 from fun k=>k rfl)]
  simp only[cond_false]
  rw[Int.zero_mul,aF,decide_eq_true (show bN 0 from⟨by omega,by omega⟩)]
  exact⟨0,rfl,fun _=>rfl⟩
 ·rw[decide_eq_true h0,cond_true]
  by_cases h1:y=0
  ·subst h1
   rw[decide_eq_false (show ¬¬(0:Int)=0 from fun k=>k rfl)]
   simp only[cond_false]
   rw[Int.mul_zero,aF,decide_eq_true (show bN 0 from⟨by omega,by omega⟩)]
   exact⟨0,rfl,fun _=>rfl⟩
  ·rw[decide_eq_true h1,cond_true,if_pos (show ¬@Eq Int ((y.natAbs:Nat):Int) 0 by omega),iK]
   have q0:0<=(1099511627776:Int)/((y.natAbs:Nat):Int):=Int.ediv_nonneg (by omega) (by omega)
   have q1:(1099511627776:Int)/((y.natAbs:Nat):Int)<=1099511627776:=Int.ediv_le_self _ (by omega)
   rw[aF]
   simp only
   have k:=Gf (x:=y) (y:=x) h1
   rw[Int.mul_comm]at k
   by_cases c:(1099511627776:Int)/((y.natAbs:Nat):Int)<((x.natAbs:Nat):Int)
   ·rw[decide_eq_true c,decide_eq_false (k.mp c)]
    exact⟨0,rfl,fun e=>absurd e (k.mp c)⟩
   ·have hR:bN (x*y):=Decidable.byContradiction fun e=>c (k.mpr e)
    rw[decide_eq_false c,decide_eq_true hR,aF (by have:=hR.1;omega) (by have:=hR.2;omega)]
    exact⟨x*y,rfl,fun _=>rfl⟩
theorem wL{x y:Int}(hx:bN x)(hy:bN y):∃v,J2 x y=some (v,decide (bN (x*y)))/\(bN (x*y)->v=x*y):=by
 unfold J2
 rw[vN,kY hx,kY hy]
 by_cases h0:x=0
 ·subst h0
  rw[decide_eq_false (show ¬¬(0:Int)=0 from fun k=>k rfl)]
  simp only[cond_false]
  rw[Int.zero_mul,aF,decide_eq_true (show bN 0 from⟨by omega,by omega⟩)]
  exact⟨0,rfl,fun _=>rfl⟩
 ·rw[decide_eq_true h0,cond_true,if_pos (show ¬@Eq Int ((x.natAbs:Nat):Int) 0 by omega),iK]
  have q0:0<=(1099511627776:Int)/((x.natAbs:Nat):Int):=Int.ediv_nonneg (by omega) (by omega)
  have q1:(1099511627776:Int)/((x.natAbs:Nat):Int)<=1099511627776:=Int.ediv_le_self _ (by omega)
  rw[aF]
  simp only
  have k:=Gf (x:=x) (y:=y) h0
  by_cases c:(1099511627776:Int)/((x.natAbs:Nat):Int)<((y.natAbs:Nat):Int)
  ·rw[decide_eq_true c,decide_eq_false (k.mp c)]
   exact⟨0,rfl,fun e=>absurd e (k.mp c)⟩
  ·have hR:bN (x*y):=Decidable.byContradiction fun e=>c (k.mpr e)
   rw[decide_eq_false c,decide_eq_true hR,aF (by have:=hR.1;omega) (by have:=hR.2;omega)]
   exact⟨x*y,rfl,fun _=>rfl⟩
theorem j8{op x y:Int}(hx:bN x)(hy:bN y)(ho:binop op):∃v,xB op x y=some (v,decide (bN (dU op x y)))/\(bN (dU op x y)->v=dU op x y):=by
 obtain⟨o1,o2⟩:=ho
 have hx':=hx
 have hy':=hy
 obtain⟨a1,a2⟩:=hx'
 obtain⟨b1,b2⟩:=hy'
 have cases15:op=8\/op=9\/op=10\/op=11\/op=12\/op=13\/op=14\/op=15\/op=16\/op=17\/op=18\/op=19\/op=20\/op=21\/op=22:=by omega
 unfold xB
 simp only[xk,WO]
 rcases cases15 with rfl|rfl|rfl|rfl|rfl|rfl|rfl|rfl|rfl|rfl|rfl|rfl|rfl|rfl|rfl
 all_goals simp only[Int.reduceEq,decide_false,decide_true,cond_false,cond_true]
 ·rw[aF]
  exact⟨x+y,rfl,fun _=>rfl⟩
 ·rw[aF]
  exact⟨x-y,rfl,fun _=>rfl⟩
 ·obtain⟨v,e,h⟩:=VQ hx hy
  rw[e]
  exact⟨v,rfl,h⟩
 ·rw[Mw hx hy]
  exact cU (op:=11) rfl (HV hx).1
 ·by_cases h0:y=0
  ·rw[decide_eq_true h0]
   have e:dU 12 x y=0:=if_pos h0
   exact cU (op:=12) e.symm (by rw[e];exact⟨by omega,by omega⟩)
  ·rw[decide_eq_false h0,cond_false,Mw hx hy]
   simp only
   have e:dU 12 x y=x-y*lS x y:=if_neg h0
   have hm:=(Kb (x:=x) hy h0).1
   obtain⟨c1,c2⟩:=hm
   rw[aF (n:=y*lS x y),aF]
   exact cU (op:=12) e.symm (by rw[e];exact⟨c1,c2⟩)
 ·exact cU (op:=13) rfl (qm _)
 ·refine cU (op:=14) ?_ (qm _)
  show lI _=lI _
  congr 1
 ·exact cU (op:=15) rfl (qm _)
 ·exact cU (op:=16) rfl (qm _)
 ·exact cU (op:=17) rfl (qm _)
 ·exact cU (op:=18) rfl (qm _)
 ·rw[vN,vN]
  by_cases h0:x=0
  ·rw[decide_eq_false (show ¬¬x=0 from fun k=>k h0),cond_false]
   refine cU (op:=19) ?_ (qm _)
   show lI false=lI (decide (x≠0/\y≠0))
   rw[decide_eq_false (fun k=>k.1 h0)]
  ·rw[decide_eq_true h0,cond_true]
   refine cU (op:=19) ?_ (qm _)
   show lI _=lI (decide (x≠0/\y≠0))
   congr 1
   exact decide_eq_decide.mpr ⟨fun k=>⟨h0,k⟩,fun k=>k.2⟩
 ·rw[vN,vN]
  by_cases h0:x=0
  ·rw[decide_eq_false (show ¬¬x=0 from fun k=>k h0),cond_false]
   refine cU (op:=20) ?_ (qm _)
   show lI _=lI (decide (x≠0\/y≠0))
   congr 1
   exact decide_eq_decide.mpr ⟨.inr,fun k=>k.elim (fun e=>absurd h0 e) id⟩
  ·rw[decide_eq_true h0,cond_true]
   refine cU (op:=20) ?_ (qm _)
   show lI true=lI (decide (x≠0\/y≠0))
   rw[decide_eq_true (.inl h0)]
 ·by_cases c:x<y
  ·rw[decide_eq_true c]
   have e:dU 21 x y=x:=Int.min_eq_left (by omega)
   exact cU (op:=21) e.symm (by rw[e];exact hx)
  ·rw[decide_eq_false c]
   have e:dU 21 x y=y:=Int.min_eq_right (by omega)
   exact cU (op:=21) e.symm (by rw[e];exact hy)
 ·by_cases c:y<x
  ·rw[decide_eq_true c]
   have e:dU 22 x y=x:=Int.max_eq_left (by omega)
   exact cU (op:=22) e.symm (by rw[e];exact hx)
  ·rw[decide_eq_false c]
   have e:dU 22 x y=y:=Int.max_eq_right (by omega)
   exact cU (op:=22) e.symm (by rw[e];exact hy)
def jq(a:aD)(k:Nat):Int:=a.aa+(k:Int)*a.ag
def cnt(a:aD):Nat:=(cA a).toNat
theorem eM{a:aD}(h:NN a):cA a=(cnt a:Int):=by have:=size_pos h;unfold cnt;omega
theorem gv{a:aD}(h:NN a):1<=cnt a:=by have:=size_pos h;unfold cnt;omega
theorem Rb{a:aD}(h:NN a){k:Nat}(hk:k<cnt a):a.aa<=jq a k/\jq a k<=a.af:=by
 have e:=eM h
 rw[wC h]at e
 have hs:=h.s0
 have k0:0<=(k:Int)*a.ag:=Int.mul_nonneg (by omega) hs
 unfold jq
 refine⟨by omega,?_⟩
 rcases h.st with ⟨h1,h2⟩|⟨h1,h2,h3⟩
 ·rw[h2,Int.mul_zero];omega
 ·rw[u6]at e
  have:(k:Int)*a.ag<=(a.af-a.aa)/a.ag*a.ag:=Int.mul_le_mul_of_nonneg_right (by omega) hs
  rw[Int.ediv_mul_cancel (Int.dvd_of_emod_eq_zero h3)]at this
  omega
theorem fP{a:aD}(h:NN a)(x:Int):bz a x↔∃k:Nat,k<cnt a/\x=jq a k:=by
 constructor
 ·rintro⟨h1,h2,q,hq⟩
  have e:=eM h
  rw[wC h]at e
  rcases h.st with ⟨k1,k2⟩|⟨k1,k2,k3⟩
  ·exact⟨0,gv h,by unfold jq;omega⟩
  ·rw[u6]at e
   rw[Int.mul_comm]at hq
   have q0:0<=q:=Decidable.byContradiction fun c=>by
    have:q*a.ag<= -1*a.ag:=Int.mul_le_mul_of_nonneg_right (by omega) (by omega)
    omega
   have q1:q<=(a.af-a.aa)/a.ag:=Int.le_ediv_of_mul_le (by omega) (by omega)
   refine⟨q.toNat,by omega,?_⟩
   unfold jq
   rw[show ((q.toNat:Nat):Int)=q by omega,<-hq]
   omega
 ·rintro⟨k,hk,rfl⟩
  obtain⟨h1,h2⟩:=Rb h hk
  exact⟨h1,h2,by unfold jq;rw[show a.aa+(k:Int)*a.ag-a.aa=(k:Int)*a.ag by omega];exact Int.dvd_mul_left ..⟩
theorem qA{a:aD}(h:NN a){k:Nat}(hk:k<cnt a):bN (jq a k):=NX (.inr h) ((fP h _).mpr ⟨k,hk,rfl⟩)
theorem lW{a:aD}(h:NN a){k:Nat}(hk:k<cnt a):zI a (k:Int)=jq a k:=by
 have:=Rb h hk
 have:=h.lo
 have:=h.hi
 have k0:0<=(k:Int)*a.ag:=Int.mul_nonneg (by omega) h.s0
 unfold zI
 unfold jq at*
 rw[aF (n:=(k:Int)*a.ag),aF]
def pY(op:Int)(a b:aD)(y:Int):Prop:=∃x z,bz a x/\bz b z/\y=dU op x z
def pref(op:Int)(a b:aD)(i:Nat)(l:List Int):Prop:=(∀y,y∈l↔∃k,k<i/\∃j,j<cnt b/\y=dU op (jq a k) (jq b j))/\l.length=i*cnt b/\∀y∈l,bN y
def abn(op:Int)(a b:aD)(i j:Nat)(l:List Int):Prop:=(∀y,y∈l↔(∃k,k<i/\∃m,m<cnt b/\y=dU op (jq a k) (jq b m))\/∃m,m<j/\y=dU op (jq a i) (jq b m))/\l.length=i*cnt b+j/\∀y∈l,bN y
theorem Ov{op:Int}{a b:aD}{i:Nat}{l:List Int}(h:abn op a b i (cnt b) l):pref op a b (i+1) l:=by
 refine⟨fun y=>(h.1 y).trans ⟨?_,?_⟩,by rw[h.2.1,Nat.add_mul,Nat.one_mul],h.2.2⟩
 ·rintro(⟨k,hk,m,hm,e⟩|⟨m,hm,e⟩)
  ·exact⟨k,by omega,m,hm,e⟩
  ·exact⟨i,by omega,m,hm,e⟩
 ·rintro⟨k,hk,m,hm,e⟩
  rcases Nat.lt_succ_iff_lt_or_eq.mp hk with c|rfl
  ·exact .inl ⟨k,c,m,hm,e⟩
  ·exact .inr ⟨m,hm,e⟩
theorem Qe{op:Int}{a b c:aD}(ho:binop op)(ha:NN a)(hb:NN b)(hs:cnt a*cnt b<=1000000){i:Nat}(hi:i<cnt a){l:List Int}(hl:pref op a b i l):
  (∃l',rq (fM.mk op l i 0 a b c)=some (fM.mk op l' i (cnt b:Nat) a b c)/\pref op a b (i+1) l')\/
  (∃l' j,j<cnt b/\rq (fM.mk op l i 0 a b c)=some (fM.mk op l' i (j:Nat) a b c)/\¬bN (dU op (jq a i) (jq b j))):=by
 have hcb:cnt b<=1000000:=Nat.le_trans (Nat.le_mul_of_pos_left _ (gv ha)) hs
 have hlen:(i+1)*cnt b<=1000000:=Nat.le_trans (Nat.mul_le_mul_right _ hi) hs
 rw[Nat.add_mul,Nat.one_mul]at hlen
 obtain⟨j,l',e,hI,h⟩:=mT (rnd:=yc) (cnt b) (fun j (l:List Int)=>fM.mk op l i (j:Nat) a b c) (fun j l=>abn op a b i j l) (fun j l=>¬bN (dU op (jq a i) (jq b j)))
  (fun j l hj hI=>by
   obtain⟨v,ev,hv⟩:=j8 (qA ha hi) (qA hb hj) ho
   unfold yc
   simp only
   rw[eR (.inr hb),eM hb]
   simp only
   rw[pU,cond_true,lW ha hi,lW hb hj,ev]
   simp only
   by_cases hr:bN (dU op (jq a i) (jq b j))
   ·left
    rw[decide_eq_true hr]
    simp only[cond_true,cond_false]
    rw[if_pos (by rw[List.length_append,hI.2.1];simp;omega),fh hj hcb,hv hr]
    refine⟨_,rfl,fun y=> ?_,by rw[List.length_append,hI.2.1];simp;omega,fun y hy=> ?_⟩
    ·rw[List.mem_append,List.mem_singleton,hI.1 y]
     constructor
     ·rintro((h|⟨m,hm,h⟩)|rfl)
      ·exact .inl h
      ·exact .inr ⟨m,by omega,h⟩
      ·exact .inr ⟨j,by omega,rfl⟩
     ·rintro(h|⟨m,hm,h⟩)
      ·exact .inl (.inl h)
      ·rcases Nat.lt_succ_iff_lt_or_eq.mp hm with c|rfl
       ·exact .inl (.inr ⟨m,c,h⟩)
       ·exact .inr h
    ·rcases List.mem_append.mp hy with hy|hy
     ·exact hI.2.2 y hy
     ·rw[List.mem_singleton.mp hy];exact hr
   ·right
    rw[decide_eq_false hr]
    exact⟨rfl,hr⟩)
  (fun l hI=>by
   unfold yc
   simp only
   rw[eR (.inr hb),eM hb]
   simp only
   rw[eF]
   rfl) (b:=l) ⟨fun y=>(hl.1 y).trans ⟨.inl,fun h=>h.elim id fun⟨m,hm,_⟩=>absurd hm (Nat.not_lt_zero _)⟩,by rw[hl.2.1];rfl,hl.2.2⟩
 have e:bt yc (fM.mk op l i 0 a b c)=some (fM.mk op l' i (j:Nat) a b c):=e
 rcases h with rfl|⟨hj,h⟩
 ·exact .inl ⟨l',e,Ov hI⟩
 ·exact .inr ⟨l',j,hj,e,h⟩
theorem wj{op:Int}{a b:aD}(ho:binop op)(ha:NN a)(hb:NN b)(hs:cnt a*cnt b<=1000000):
  ((∀y,pY op a b y->bN y)/\∃c,IM op a b=some (c,0)/\cv (pY op a b) c)\/((¬∀y,pY op a b y->bN y)/\IM op a b=some (aD.mk 0 0 0,3)):=by
 have hca:cnt a<=1000000:=Nat.le_trans (Nat.le_mul_of_pos_right _ (gv hb)) hs
 unfold IM
 obtain⟨i,l,e,hI,h⟩:=mT (rnd:=ur) (cnt a) (fun i (l:List Int)=>kF.mk op l (i:Nat) a b (aD.mk 0 0 0)) (fun i l=>pref op a b i l) (fun i l=>∃l' j,j<cnt b/\rq (fM.mk op l i 0 a b (aD.mk 0 0 0))=some (fM.mk op l' i (j:Nat) a b (aD.mk 0 0 0))/\¬bN (dU op (jq a i) (jq b j)))
  (fun i l hi hI=>by
   unfold ur
   simp only
   rw[eR (.inr ha),eM ha]
   simp only
   rw[pU,cond_true]
   rcases Qe (c:=aD.mk 0 0 0) ho ha hb hs hi hI with ⟨l',e,h⟩|⟨l',j,hj,e,h⟩
   ·left
    rw[e]
    simp only
    rw[eR (.inr hb),eM hb]
    simp only
    rw[eF,cond_false,fh hi hca]
    exact⟨l',rfl,h⟩
   ·right
    refine⟨?_,l',j,hj,e,h⟩
    rw[e]
    simp only
    rw[eR (.inr hb),eM hb]
    simp only
    obtain⟨v,ev,hv⟩:=j8 (qA ha hi) (qA hb hj) ho
    rw[pU,cond_true,lW ha hi,lW hb hj,ev]
    simp only
    rw[decide_eq_false h]
    rfl)
  (fun l hI=>by
   unfold ur
   simp only
   rw[eR (.inr ha),eM ha]
   simp only
   rw[eF]
   rfl) (b:=[]) ⟨fun y=>⟨fun h=>absurd h (by simp),fun⟨k,hk,_⟩=>absurd hk (Nat.not_lt_zero _)⟩,by simp,fun y hy=>absurd hy (by simp)⟩
 have e:bt ur (kF.mk op [] 0 a b (aD.mk 0 0 0))=some (kF.mk op l (i:Nat) a b (aD.mk 0 0 0)):=e
 rw[show Dk=bt ur from rfl,e]
 simp only
 rw[eR (.inr ha),eM ha]
 simp only
 rcases h with rfl|⟨hi,l',j,hj,e1,h⟩
 ·left
  have mem:∀y,y∈l↔pY op a b y:=fun y=>(hI.1 y).trans ⟨fun⟨k,hk,m,hm,e⟩=>⟨_,_,(fP ha _).mpr ⟨k,hk,rfl⟩,(fP hb _).mpr ⟨m,hm,rfl⟩,e⟩,fun⟨x,z,hx,hz,e⟩=>by
   obtain⟨k,hk,rfl⟩:=(fP ha _).mp hx
   obtain⟨m,hm,rfl⟩:=(fP hb _).mp hz
   exact⟨k,hk,m,hm,e⟩⟩
  rw[eF,cond_false]
  have hne:l≠[]:=fun e=>by
   have:=hI.2.1
   rw[e]at this
   have:=Nat.mul_pos (gv ha) (gv hb)
   simp at*
   omega
  obtain⟨c,e2,hc⟩:=Bo hne (by rw[hI.2.1];exact hs) hI.2.2
  rw[e2]
  exact⟨fun y hy=>hI.2.2 y ((mem y).mpr hy),c,rfl,hc.congr mem⟩
 ·right
  refine⟨fun k=>h (k _ ⟨_,_,(fP ha _).mpr ⟨i,hi,rfl⟩,(fP hb _).mpr ⟨j,hj,rfl⟩,rfl⟩),?_⟩
  rw[pU,cond_true,e1]
  simp only
  rw[eR (.inr hb),eM hb]
  simp only
  obtain⟨v,ev,hv⟩:=j8 (qA ha hi) (qA hb hj) ho
  rw[pU,cond_true,lW ha hi,lW hb hj,ev]
  simp only
  rw[decide_eq_false h]
  rfl
theorem Mc{a:aD}(h:NN a)(hs:cnt a<=1000000):NH a=some ((List.range (cnt a)).map (jq a)):=by
 unfold NH
 rw[jg (.inr h),eM h]
 simp only
 have e:bt qO (iW.mk [] (cnt a:Nat) 0 a)=some (iW.mk ((List.range (cnt a)).map (jq a)) (cnt a:Nat) (cnt a:Nat) a):=by
  obtain⟨l,e,hl⟩:=cK (rnd:=qO) (cnt a) (fun i (l:List Int)=>iW.mk l (cnt a:Nat) (i:Nat) a) (fun i l=>l=(List.range i).map (jq a))
   (fun i l hi hl=>by
    subst hl
    unfold qO
    simp only
    have:=lW h hi
    unfold zI at this
    rw[pU,cond_true,this,if_pos (by simp;omega),fh hi hs]
    exact⟨_,rfl,by rw[List.range_succ,List.map_append];rfl⟩)
   (fun l hl=>by
    unfold qO
    simp only
    rw[eF]
    rfl) (b:=[]) rfl
  have e:bt qO (iW.mk [] (cnt a:Nat) 0 a)=some (iW.mk l (cnt a:Nat) (cnt a:Nat) a):=e
  rw[e,hl]
 rw[show BC=bt qO from rfl,e]
 simp only
 rw[eF]
 rfl
theorem nv(a:aD):((List.range (cnt a)).map (jq a)).length=cnt a:=by simp
theorem Gj(a:aD){k:Nat}(h:k<cnt a):((List.range (cnt a)).map (jq a))[k]! =jq a k:=by
 rw[getElem!_pos _ k (by rw[nv];exact h),List.getElem_map,List.getElem_range]
def Gq(op:Int):Prop:=op=11\/op=12\/op=21\/op=22
theorem Me{op x y:Int}(hx:bN x)(hy:bN y)(ho:Gq op):bN (dU op x y):=by
 rcases ho with rfl|rfl|rfl|rfl
 ·exact(HV hx).1
 ·show bN (if y=0 then 0 else x-y*lS x y)
  by_cases h0:y=0
  ·rw[if_pos h0];exact⟨by omega,by omega⟩
  ·rw[if_neg h0];exact(Kb hy h0).1
 ·show bN (min x y)
  obtain⟨h1,h2⟩:=hx
  obtain⟨h3,h4⟩:=hy
  exact⟨by omega,by omega⟩
 ·show bN (max x y)
  obtain⟨h1,h2⟩:=hx
  obtain⟨h3,h4⟩:=hy
  exact⟨by omega,by omega⟩
def Sf(op:Int)(a b:aD)(i j:Nat)(y:Int):Prop:=(∃k,k<i/\∃m,m<cnt b/\y=dU op (jq a k) (jq b m))\/∃m,m<j/\y=dU op (jq a i) (jq b m)
theorem O9{op:Int}{a b c:aD}(ho:Gq op)(ha:NN a)(hb:NN b)(hs:cnt b<=1000000){i:Nat}(hi:i<cnt a){o:aD}{l:List Int}{n t:Int}(hr:kz (Sf op a b i 0) o)(hv:NV o):
  ∃o',yS (jO.mk op (jq a i) l n t ((List.range (cnt b)).map (jq b)) (cnt b:Nat) 0 b c o)=some (jO.mk op (jq a i) l n t ((List.range (cnt b)).map (jq b)) (cnt b:Nat) (cnt b:Nat) b c o')/\kz (Sf op a b (i+1) 0) o'/\NV o':=by
 obtain⟨o',e,hI,hv'⟩:=cK (rnd:=Ct) (cnt b) (fun j (o:aD)=>jO.mk op (jq a i) l n t ((List.range (cnt b)).map (jq b)) (cnt b:Nat) (j:Nat) b c o) (fun j o=>kz (Sf op a b i j) o/\NV o)
  (fun j o hj hI=>by
   have hR:=Me (qA ha hi) (qA hb hj) ho
   unfold Ct
   simp only
   rw[pU,cond_true,nv,fA,Int.toNat_natCast,if_pos ⟨trivial,hj⟩,Gj b hj,WE (qA ha hi) (qA hb hj) ho]
   simp only
   rw[gp hI.2 (.inr (show NN (fu (dU op (jq a i) (jq b j)))from NN.one hR.1 hR.2)),fh hj hs]
   refine⟨_,rfl,(hI.1.join (Ck _) hI.2 (ox hR)).congr fun y=> ?_,dz hI.2 (ox hR)⟩
   constructor
   ·rintro((h|⟨m,hm,h⟩)|rfl)
    ·exact .inl h
    ·exact .inr ⟨m,by omega,h⟩
    ·exact .inr ⟨j,by omega,rfl⟩
   ·rintro(h|⟨m,hm,h⟩)
    ·exact .inl (.inl h)
    ·rcases Nat.lt_succ_iff_lt_or_eq.mp hm with c|rfl
     ·exact .inl (.inr ⟨m,c,h⟩)
     ·exact .inr h)
  (fun o hI=>by
   unfold Ct
   simp only
   rw[eF]
   rfl) (b:=o) ⟨hr,hv⟩
 refine⟨o',e,hI.congr fun y=> ?_,hv'⟩
 constructor
 ·rintro(⟨k,hk,h⟩|⟨m,hm,h⟩)
  ·exact .inl ⟨k,by omega,h⟩
  ·exact .inl ⟨i,by omega,m,hm,h⟩
 ·rintro(⟨k,hk,h⟩|⟨m,hm,_⟩)
  ·rcases Nat.lt_succ_iff_lt_or_eq.mp hk with c|rfl
   ·exact .inl ⟨k,c,h⟩
   ·obtain⟨m,hm,h⟩:=h
    exact .inr ⟨m,hm,h⟩
  ·exact absurd hm (Nat.not_lt_zero _)
theorem Hv{op:Int}{a b:aD}(ho:Gq op)(ha:NN a)(hb:NN b)(hs:cnt a*cnt b<=4096):∃c,tK op a b=some c/\cv (pY op a b) c:=by
 have hca:cnt a<=4096:=Nat.le_trans (Nat.le_mul_of_pos_right _ (gv hb)) hs
 have hcb:cnt b<=4096:=Nat.le_trans (Nat.le_mul_of_pos_left _ (gv ha)) hs
 unfold tK
 rw[jg (.inr ha),jg (.inr hb),eM ha,eM hb]
 simp only
 have hp:((cnt a:Nat):Int)*((cnt b:Nat):Int)<=4096:=by rw[<-Int.natCast_mul];omega
 have hp0:0<=((cnt a:Nat):Int)*((cnt b:Nat):Int):=by rw[<-Int.natCast_mul];omega
 rw[decide_eq_false (show ¬(4096:Int)<((cnt a:Nat):Int)by omega),decide_eq_false (show ¬(4096:Int)<((cnt b:Nat):Int)by omega),cond_false,cond_false,aF,eF,cond_false,Mc ha (by omega)]
 simp only
 rw[nv]
 obtain⟨o,e,hI,hv⟩:=cK (rnd:=uI) (cnt a) (fun i (o:aD)=>kA.mk op ((List.range (cnt a)).map (jq a)) (cnt a:Nat) (i:Nat) b (aD.mk 0 0 0) o) (fun i o=>kz (Sf op a b i 0) o/\NV o)
  (fun i o hi hI=>by
   unfold uI
   simp only
   rw[pU,cond_true,nv,fA,Int.toNat_natCast,if_pos ⟨trivial,hi⟩,Gj a hi,Mc hb (by omega)]
   simp only
   rw[nv]
   obtain⟨o',e,h1,h2⟩:=O9 (c:=aD.mk 0 0 0) (l:=(List.range (cnt a)).map (jq a)) (n:=(cnt a:Nat)) (t:=(i:Nat)) ho ha hb (by omega) hi hI.1 hI.2
   rw[e]
   simp only
   rw[eF,cond_false,fh hi (by omega)]
   exact⟨o',rfl,h1,h2⟩)
  (fun o hI=>by
   unfold uI
   simp only
   rw[eF]
   rfl) (b:=bS) ⟨.none fun y h=>by
    rcases h with ⟨k,hk,_⟩|⟨m,hm,_⟩
    ·exact absurd hk (Nat.not_lt_zero _)
    ·exact absurd hm (Nat.not_lt_zero _), .inl rfl⟩
 have e:bt uI (kA.mk op ((List.range (cnt a)).map (jq a)) (cnt a:Nat) 0 b (aD.mk 0 0 0) gF)=some (kA.mk op ((List.range (cnt a)).map (jq a)) (cnt a:Nat) (cnt a:Nat) b (aD.mk 0 0 0) o):=e
 rw[show Db=bt uI from rfl,e]
 simp only
 rw[eF,cond_false]
 refine⟨o,rfl,?_⟩
 have mem:∀y,Sf op a b (cnt a) 0 y↔pY op a b y:=fun y=>⟨fun h=>by
  rcases h with ⟨k,hk,m,hm,e⟩|⟨m,hm,_⟩
  ·exact⟨_,_,(fP ha _).mpr ⟨k,hk,rfl⟩,(fP hb _).mpr ⟨m,hm,rfl⟩,e⟩
  ·exact absurd hm (Nat.not_lt_zero _),fun⟨x,z,hx,hz,e⟩=>by
  obtain⟨k,hk,rfl⟩:=(fP ha _).mp hx
  obtain⟨m,hm,rfl⟩:=(fP hb _).mp hz
  exact .inl ⟨k,hk,m,hm,e⟩⟩
 rcases hI.congr mem with ⟨_,k⟩|k
 ·exact absurd ⟨_,_,(fP ha _).mpr ⟨0,gv ha,rfl⟩,(fP hb _).mpr ⟨0,gv hb,rfl⟩,rfl⟩ (k (dU op (jq a 0) (jq b 0)))
 ·exact k
theorem QF{op:Int}{a b:aD}(ha:NN a)(hb:NN b)(hs:¬cnt a*cnt b<=4096):tK op a b=M7 op a b:=by
 have idm:∀r:Option aD,(match r with|none=>none|some r8=>some r8)=r:=fun r=>by cases r<;>rfl
 unfold tK
 rw[jg (.inr ha),jg (.inr hb),eM ha,eM hb]
 simp only
 by_cases c1:(4096:Int)<((cnt a:Nat):Int)
 ·rw[decide_eq_true c1,cond_true]
  exact idm _
 ·rw[decide_eq_false c1,cond_false]
  by_cases c2:(4096:Int)<((cnt b:Nat):Int)
  ·rw[decide_eq_true c2,cond_true]
   exact idm _
  ·have hb':((cnt a:Nat):Int)*((cnt b:Nat):Int)<=4096*4096:=Int.mul_le_mul (by omega) (by omega) (by omega) (by omega)
   have hp:(4096:Int)<((cnt a:Nat):Int)*((cnt b:Nat):Int):=by rw[<-Int.natCast_mul];omega
   rw[decide_eq_false c2,cond_false,aF,decide_eq_true hp,cond_true]
   exact idm _
instance (op:Int):Decidable (binop op):=inferInstanceAs (Decidable (_/\_))
theorem idm{α:Type}(r:Option α):(match r with|none=>none|some x=>some x)=r:=by cases r<;>rfl
theorem iG(op:Int):vO op=decide (binop op):=by
 unfold vO
 by_cases h:binop op
 ·obtain⟨o1,o2⟩:=h
  have cases15:op=8\/op=9\/op=10\/op=11\/op=12\/op=13\/op=14\/op=15\/op=16\/op=17\/op=18\/op=19\/op=20\/op=21\/op=22:=by omega
  rcases cases15 with rfl|rfl|rfl|rfl|rfl|rfl|rfl|rfl|rfl|rfl|rfl|rfl|rfl|rfl|rfl<;>rfl
 ·have k:∀n:Int,8<=n->n<=22->¬op=n:=fun n h1 h2 e=>h (by unfold binop;omega)
  rw[show decide (binop op)=false from decide_eq_false h]
  rw[decide_eq_false (k 8 (by decide) (by decide)),decide_eq_false (k 9 (by decide) (by decide)),decide_eq_false (k 10 (by decide) (by decide)),decide_eq_false (k 11 (by decide) (by decide)),decide_eq_false (k 12 (by decide) (by decide)),
   decide_eq_false (k 13 (by decide) (by decide)),decide_eq_false (k 14 (by decide) (by decide)),decide_eq_false (k 15 (by decide) (by decide)),decide_eq_false (k 16 (by decide) (by decide)),decide_eq_false (k 17 (by decide) (by decide)),
   decide_eq_false (k 18 (by decide) (by decide)),decide_eq_false (k 19 (by decide) (by decide)),decide_eq_false (k 20 (by decide) (by decide)),decide_eq_false (k 21 (by decide) (by decide)),decide_eq_false (k 22 (by decide) (by decide))]
  rfl
theorem Aa{a b:aD}(hb:NN b):((cnt a:Nat):Int)<=(4096:Int)/((cnt b:Nat):Int)↔cnt a*cnt b<=4096:=by
 have:=gv hb
 rw[Int.le_ediv_iff_mul_le (by omega),<-Int.natCast_mul]
 omega
theorem l9{op:Int}{a b:aD}(ho:binop op)(ha:NN a)(hb:NN b)(hs:cnt a*cnt b<=4096):mC op a b=IM op a b:=by
 have:=gv hb
 unfold mC
 rw[dW,dW,cR (.inr ha),cR (.inr hb),show zD op=vO op from rfl,iG,decide_eq_true ho]
 simp only[cond_true,cond_false]
 rw[fC ha,fC hb,eR (.inr ha),eR (.inr hb),eM ha,eM hb]
 simp only[cond_false]
 have q0:0<=(4096:Int)/((cnt b:Nat):Int):=Int.ediv_nonneg (by omega) (by omega)
 have q1:(4096:Int)/((cnt b:Nat):Int)<=4096:=Int.ediv_le_self _ (by omega)
 rw[if_pos (show ¬@Eq Int ((cnt b:Nat):Int) 0 by omega),iK,aF,decide_eq_true ((Aa hb).mpr hs),cond_true]
 cases IM op a b<;>rfl
def OF(a0:Int)(a1 a2:aD):Option (aD×Int):=
 bif decide (a0=8)then tA a0 a1 a2 else bif decide (a0=9)then tA a0 a1 a2 else bif decide (a0=10)then tA a0 a1 a2 else bif decide (a0=11)then
  (bif(decide (0<=a1.aa)&&decide (0<=a2.aa))then jj 0 (max a1.aa.natAbs a1.af.natAbs:Nat) 1 else jj (-((max a1.aa.natAbs a1.af.natAbs:Nat):Int)) (max a1.aa.natAbs a1.af.natAbs:Nat) 1)
 else bif decide (a0=12)then jj (if a2.aa<0 then a2.aa+1 else 0) (if 0<a2.af then a2.af-1 else 0) 1
 else bif decide (a0=21)then(match m41 (bQ a1 a2) (min a1.af a2.af)with|none=>none|some c=>some (c,0))
 else bif decide (a0=22)then(match OM (bQ a1 a2) (max a1.aa a2.aa-1)with|none=>none|some c=>some (c,0))
 else(match uo a0 a1 a2 with|none=>none|some c=>some (c,0))
theorem th{op:Int}{a b:aD}(ho:binop op)(ha:NN a)(hb:NN b)(hs:¬cnt a*cnt b<=4096):mC op a b=OF op a b:=by
 have:=gv hb
 have r1:=ha.qc
 have r2:=ha.vR
 have r3:=hb.qc
 have r4:=hb.vR
 obtain⟨a1,a2⟩:=r1
 obtain⟨a3,a4⟩:=r2
 obtain⟨b1,b2⟩:=r3
 obtain⟨b3,b4⟩:=r4
 unfold mC OF
 rw[dW,dW,cR (.inr ha),cR (.inr hb),show zD op=vO op from rfl,iG,decide_eq_true ho]
 simp only[cond_true,cond_false]
 rw[fC ha,fC hb,eR (.inr ha),eR (.inr hb),eM ha,eM hb]
 simp only[cond_false]
 have q0:0<=(4096:Int)/((cnt b:Nat):Int):=Int.ediv_nonneg (by omega) (by omega)
 have q1:(4096:Int)/((cnt b:Nat):Int)<=4096:=Int.ediv_le_self _ (by omega)
 rw[if_pos (show ¬@Eq Int ((cnt b:Nat):Int) 0 by omega),iK,aF (n:=(4096:Int)/((cnt b:Nat):Int)),decide_eq_false (fun k=>hs ((Aa hb).mp k)),cond_false]
 have cases15:op=8\/op=9\/op=10\/op=11\/op=12\/op=13\/op=14\/op=15\/op=16\/op=17\/op=18\/op=19\/op=20\/op=21\/op=22:=by
  obtain⟨o1,o2⟩:=ho
  omega
 have ez:(bif decide (0<=a.aa)then some (decide (0<=b.aa))else some false)=some (decide (0<=a.aa)&&decide (0<=b.aa)):=by cases decide (0<=a.aa)<;>rfl
 rcases cases15 with rfl|rfl|rfl|rfl|rfl|rfl|rfl|rfl|rfl|rfl|rfl|rfl|rfl|rfl|rfl
 all_goals simp only[Int.reduceEq,decide_false,decide_true,cond_false,cond_true]
 ·cases tA 8 a b<;>rfl
 ·cases tA 9 a b<;>rfl
 ·cases tA 10 a b<;>rfl
 ·rw[tH ha.qc,tH ha.vR,ez]
  simp only
  by_cases c:((a.aa.natAbs:Nat):Int)<((a.af.natAbs:Nat):Int)
  ·rw[decide_eq_true c,cond_true,aF,Int.zero_sub,Nat.max_eq_right (by omega)]
   cases (decide (0<=a.aa)&&decide (0<=b.aa))with
   |true=>(simp only[cond_true,cond_false];generalize jj _ _ _=z;cases z<;>rfl)
   |false=>(simp only[cond_true,cond_false];generalize jj _ _ _=z;cases z<;>rfl)
  ·rw[decide_eq_false c,cond_false,aF,Int.zero_sub,Nat.max_eq_left (by omega)]
   cases (decide (0<=a.aa)&&decide (0<=b.aa))with
   |true=>(simp only[cond_true,cond_false];generalize jj _ _ _=z;cases z<;>rfl)
   |false=>(simp only[cond_true,cond_false];generalize jj _ _ _=z;cases z<;>rfl)
 ·rw[aF (n:=b.aa+1),aF (n:=b.af-1)]
  by_cases c:b.aa<0<;>by_cases d:0<b.af
  ·rw[decide_eq_true c,decide_eq_true d,if_pos c,if_pos d];(simp only[cond_true,cond_false];generalize jj _ _ _=z;cases z<;>rfl)
  ·rw[decide_eq_true c,decide_eq_false d,if_pos c,if_neg d];(simp only[cond_true,cond_false];generalize jj _ _ _=z;cases z<;>rfl)
  ·rw[decide_eq_false c,decide_eq_true d,if_neg c,if_pos d];(simp only[cond_true,cond_false];generalize jj _ _ _=z;cases z<;>rfl)
  ·rw[decide_eq_false c,decide_eq_false d,if_neg c,if_neg d];(simp only[cond_true,cond_false];generalize jj _ _ _=z;cases z<;>rfl)
 ·cases uo 13 a b<;>rfl
 ·cases uo 14 a b<;>rfl
 ·cases uo 15 a b<;>rfl
 ·cases uo 16 a b<;>rfl
 ·cases uo 17 a b<;>rfl
 ·cases uo 18 a b<;>rfl
 ·cases uo 19 a b<;>rfl
 ·cases uo 20 a b<;>rfl
 ·obtain⟨v,ev,hv⟩:=j8 (op:=21) ha.vR hb.vR ⟨by decide,by decide⟩
  have hv:v=min a.af b.af:=hv (Me ha.vR hb.vR (.inr (.inr (.inl rfl))))
  rw[ev,eN (.inr ha) (.inr hb)]
  simp only
  rw[hv]
  cases m41 (bQ a b) (min a.af b.af)<;>rfl
 ·obtain⟨v,ev,hv⟩:=j8 (op:=22) ha.qc hb.qc ⟨by decide,by decide⟩
  have hv:v=max a.aa b.aa:=hv (Me ha.qc hb.qc (.inr (.inr (.inr rfl))))
  rw[ev,eN (.inr ha) (.inr hb)]
  simp only
  rw[hv,aF]
  cases OM (bQ a b) (max a.aa b.aa-1)<;>rfl
theorem RO{op:Int}{a b:aD}(ho:Gq op)(ha:NN a)(hb:NN b):∃c,tK op a b=some c/\mC op a b=some (c,0)/\NV c:=by
 have hbin:binop op:=by unfold binop;rcases ho with rfl|rfl|rfl|rfl<;>decide
 have r1:=ha.qc
 have r2:=ha.vR
 have r3:=hb.qc
 have r4:=hb.vR
 by_cases hs:cnt a*cnt b<=4096
 ·obtain⟨c,e1,h1⟩:=Hv ho ha hb hs
  have hR:∀y,pY op a b y->bN y:=fun y ⟨x,z,hx,hz,e⟩=>by rw[e];exact Me (NX (.inr ha) hx) (NX (.inr hb) hz) ho
  rw[l9 hbin ha hb hs]
  rcases wj hbin ha hb (by omega)with ⟨_,d,e2,h2⟩|⟨k,_⟩
  ·rw[h2.uniq h1]at e2
   exact⟨c,e1,e2, .inr (h1.valid hR)⟩
  ·exact absurd hR k
 ·rw[QF ha hb hs,th hbin ha hb hs]
  obtain⟨a1,a2⟩:=r1
  obtain⟨a3,a4⟩:=r2
  obtain⟨b1,b2⟩:=r3
  obtain⟨b3,b4⟩:=r4
  unfold M7 OF
  rcases ho with rfl|rfl|rfl|rfl
  all_goals simp only[Int.reduceEq,decide_false,decide_true,cond_false,cond_true]
  ·rw[kY ha.qc,kY ha.vR]
   have em:(if((a.aa.natAbs:Nat):Int)<((a.af.natAbs:Nat):Int)then((a.af.natAbs:Nat):Int)else((a.aa.natAbs:Nat):Int))=((max a.aa.natAbs a.af.natAbs:Nat):Int):=by split<;>omega
   rw[em]
   have ez:(bif decide (0<=a.aa)then some (decide (0<=b.aa))else some false)=some (decide (0<=a.aa)&&decide (0<=b.aa)):=by cases decide (0<=a.aa)<;>rfl
   rw[ez]
   simp only
   have hm:((max a.aa.natAbs a.af.natAbs:Nat):Int)<=1099511627776:=by omega
   generalize max a.aa.natAbs a.af.natAbs=m at*
   rw[aF,Int.zero_sub,mw (by omega) (by omega) (by omega),mw (by omega) (by omega) (by omega),j6 ⟨by omega,by omega⟩ ⟨by omega,by omega⟩ (by omega),j6 ⟨by omega,by omega⟩ ⟨by omega,by omega⟩ (by omega)]
   cases (decide (0<=a.aa)&&decide (0<=b.aa))with
   |true=>exact⟨_,rfl,rfl, .inr (j0 (by omega) (by omega) (by omega) (by omega))⟩
   |false=>exact⟨_,rfl,rfl, .inr (j0 (by omega) (by omega) (by omega) (by omega))⟩
  ·rw[aF (n:=b.aa+1),aF (n:=b.af-1)]
   rw[show (if 0<b.aa+1 then 0 else b.aa+1)=(if b.aa<0 then b.aa+1 else 0)by split<;>split<;>omega,show (if b.af-1<0 then 0 else b.af-1)=(if 0<b.af then b.af-1 else 0)by split<;>split<;>omega]
   have hp:(if b.aa<0 then b.aa+1 else 0)<=0/\ -1099511627776<=(if b.aa<0 then b.aa+1 else 0):=by split<;>omega
   have hq:0<=(if 0<b.af then b.af-1 else 0)/\(if 0<b.af then b.af-1 else 0)<=1099511627776:=by split<;>omega
   generalize (if b.aa<0 then b.aa+1 else 0)=p at*
   generalize (if 0<b.af then b.af-1 else 0)=q at*
   rw[mw (by omega) (by omega) (by omega),j6 ⟨by omega,by omega⟩ ⟨by omega,by omega⟩ (by omega)]
   exact⟨_,rfl,rfl, .inr (j0 (by omega) (by omega) (by omega) (by omega))⟩
  ·rw[gp (.inr ha) (.inr hb)]
   simp only
   rw[show (if b.af<a.af then b.af else a.af)=min a.af b.af by split<;>omega]
   have vj:=dz (.inr ha) (.inr hb)
   obtain⟨l,u,e1,h1,_⟩:=sq vj (min a.af b.af)
   obtain⟨l',e2,h2⟩:=C0 vj (min a.af b.af)
   rw[e1,e2,h2.rep.uniq h1.rep]
   exact⟨l,rfl,rfl,h1.1⟩
  ·rw[gp (.inr ha) (.inr hb)]
   simp only
   rw[show (if a.aa<b.aa then b.aa else a.aa)=max a.aa b.aa by split<;>omega,aF]
   have vj:=dz (.inr ha) (.inr hb)
   obtain⟨l,u,e1,_,h1⟩:=sq vj (max a.aa b.aa-1)
   obtain⟨u',e2,h2⟩:=uk vj (max a.aa b.aa-1)
   rw[e1,e2,h2.rep.uniq h1.rep]
   exact⟨u,rfl,rfl,h1.1⟩
theorem ssc(a b c:Int):a-c-(b-c)=a-b:=by omega
theorem cu{a:aD}(h:NN a):bz a a.aa:=⟨Int.le_refl _,h.le,⟨0,by omega⟩⟩
theorem eS{a:aD}(h:NN a):bz a a.af:=⟨h.le,Int.le_refl _,h.dvd⟩
theorem Mk{a:aD}(h:NN a):bz a (a.aa+a.ag):=⟨by have:=h.s0;omega,by have:=h.sle;omega,⟨1,by omega⟩⟩
def GI(a:aD)(x:Int):Prop:=x=a.aa\/x=a.aa+a.ag\/x=a.af
theorem nu{a:aD}(h:NN a){x:Int}(hx:GI a x):bz a x:=by
 rcases hx with rfl|rfl|rfl
 ·exact cu h
 ·exact Mk h
 ·exact eS h
structure Mid (op:Int) (a b:aD) (Q:Int->Prop):Prop where
 c:∀x z,GI a x->GI b z->Q (dU op x z)
 v:∀y,Q y->pY op a b y
def yK(op:Int)(a b:aD)(y:Int):Prop:=∃x z,GI a x/\GI b z/\y=dU op x z
theorem ace{op:Int}{a b:aD}(ha:NN a)(hb:NN b):Mid op a b (pY op a b):=⟨fun x z hx hz=>⟨x,z,nu ha hx,nu hb hz,rfl⟩,fun _ h=>h⟩
theorem aaU{op:Int}{a b:aD}(ha:NN a)(hb:NN b):Mid op a b (yK op a b):=⟨fun x z hx hz=>⟨x,z,hx,hz,rfl⟩,fun _ ⟨x,z,hx,hz,e⟩=>⟨x,z,nu ha hx,nu hb hz,e⟩⟩
theorem FF{a b:aD}(ha:NN a)(hb:NN b){Q:Int->Prop}(h:Mid 8 a b Q):cv Q (aD.mk (a.aa+b.aa) (a.af+b.af) (bJ a.ag b.ag)):=by
 refine⟨h.c a.aa b.aa (.inl rfl) (.inl rfl),h.c a.af b.af (.inr (.inr rfl)) (.inr (.inr rfl)),fun y hy=> ?_,jT _ _,fun d hd=>gT ?_ ?_⟩
 ·obtain⟨x,z,⟨x1,x2,x3⟩,⟨z1,z2,z3⟩,rfl⟩:=h.v y hy
  show a.aa+b.aa<=x+z/\x+z<=a.af+b.af/\bJ a.ag b.ag∣x+z-(a.aa+b.aa)
  refine⟨by omega,by omega,?_⟩
  have:=Int.dvd_add (Int.dvd_trans (iJ a.ag b.ag) x3) (Int.dvd_trans (nM a.ag b.ag) z3)
  rwa [show x-a.aa+(z-b.aa)=x+z-(a.aa+b.aa)by omega]at this
 ·have:=hd _ (h.c (a.aa+a.ag) b.aa (.inr (.inl rfl)) (.inl rfl))
  have this:d∣a.aa+a.ag+b.aa-(a.aa+b.aa):=this
  rwa [show a.aa+a.ag+b.aa-(a.aa+b.aa)=a.ag by omega]at this
 ·have:=hd _ (h.c a.aa (b.aa+b.ag) (.inl rfl) (.inr (.inl rfl)))
  have this:d∣a.aa+(b.aa+b.ag)-(a.aa+b.aa):=this
  rwa [show a.aa+(b.aa+b.ag)-(a.aa+b.aa)=b.ag by omega]at this
theorem Eo{a b:aD}(ha:NN a)(hb:NN b){Q:Int->Prop}(h:Mid 9 a b Q):cv Q (aD.mk (a.aa-b.af) (a.af-b.aa) (bJ a.ag b.ag)):=by
 refine⟨h.c a.aa b.af (.inl rfl) (.inr (.inr rfl)),h.c a.af b.aa (.inr (.inr rfl)) (.inl rfl),fun y hy=> ?_,jT _ _,fun d hd=>gT ?_ ?_⟩
 ·obtain⟨x,z,⟨x1,x2,x3⟩,⟨z1,z2,z3⟩,rfl⟩:=h.v y hy
  show a.aa-b.af<=x-z/\x-z<=a.af-b.aa/\bJ a.ag b.ag∣x-z-(a.aa-b.af)
  refine⟨by omega,by omega,?_⟩
  have k:=Int.dvd_sub hb.dvd z3
  have:=Int.dvd_add (Int.dvd_trans (iJ a.ag b.ag) x3) (Int.dvd_trans (nM a.ag b.ag) k)
  rwa [show x-a.aa+(b.af-b.aa-(z-b.aa))=x-z-(a.aa-b.af)by omega]at this
 ·have:=hd _ (h.c (a.aa+a.ag) b.af (.inr (.inl rfl)) (.inr (.inr rfl)))
  have this:d∣a.aa+a.ag-b.af-(a.aa-b.af):=this
  rwa [show a.aa+a.ag-b.af-(a.aa-b.af)=a.ag by omega]at this
 ·have k1:=hd _ (h.c a.aa b.aa (.inl rfl) (.inl rfl))
  have k2:=hd _ (h.c a.aa (b.aa+b.ag) (.inl rfl) (.inr (.inl rfl)))
  have k1:d∣a.aa-b.aa-(a.aa-b.af):=k1
  have k2:d∣a.aa-(b.aa+b.ag)-(a.aa-b.af):=k2
  have:=Int.dvd_sub k1 k2
  rwa [show a.aa-b.aa-(a.aa-b.af)-(a.aa-(b.aa+b.ag)-(a.aa-b.af))=b.ag by omega]at this
theorem HJ{l h x z:Int}(h1:l<=x)(h2:x<=h):min (l*z) (h*z)<=x*z/\x*z<=max (l*z) (h*z):=by
 rcases Int.le_total 0 z with c|c
 ·have k1:=Int.mul_le_mul_of_nonneg_right h1 c
  have k2:=Int.mul_le_mul_of_nonneg_right h2 c
  omega
 ·have k1:=Int.mul_le_mul_of_nonpos_right h1 c
  have k2:=Int.mul_le_mul_of_nonpos_right h2 c
  omega
def OE(p q r s:Int):Int:=min (min p q) (min r s)
def hi4(p q r s:Int):Int:=max (max p q) (max r s)
theorem Lh{a b:aD}{x z:Int}(hx:a.aa<=x/\x<=a.af)(hz:b.aa<=z/\z<=b.af):
  OE (a.aa*b.aa) (a.aa*b.af) (a.af*b.aa) (a.af*b.af)<=x*z/\x*z<=hi4 (a.aa*b.aa) (a.aa*b.af) (a.af*b.aa) (a.af*b.af):=by
 have k1:=HJ (z:=x) hz.1 hz.2
 have k2:=HJ (z:=b.aa) hx.1 hx.2
 have k3:=HJ (z:=b.af) hx.1 hx.2
 rw[Int.mul_comm b.aa x,Int.mul_comm b.af x,Int.mul_comm z x]at k1
 unfold OE hi4
 omega
theorem abk{P:Int->Prop}{p q r s:Int}(h1:P p)(h2:P q)(h3:P r)(h4:P s):P (OE p q r s)/\P (hi4 p q r s):=by
 have e1:OE p q r s=p\/OE p q r s=q\/OE p q r s=r\/OE p q r s=s:=by unfold OE;omega
 have e2:hi4 p q r s=p\/hi4 p q r s=q\/hi4 p q r s=r\/hi4 p q r s=s:=by unfold hi4;omega
 constructor
 ·rcases e1 with e|e|e|e<;>rw[e]<;>assumption
 ·rcases e2 with e|e|e|e<;>rw[e]<;>assumption
def ae6(a b:aD):aD:=aD.mk (OE (a.aa*b.aa) (a.aa*b.af) (a.af*b.aa) (a.af*b.af)) (hi4 (a.aa*b.aa) (a.aa*b.af) (a.af*b.aa) (a.af*b.af)) (bJ (bJ (a.ag*b.aa) (b.ag*a.aa)) (a.ag*b.ag))
theorem Ee{a b:aD}(ha:NN a)(hb:NN b){Q:Int->Prop}(h:Mid 10 a b Q):cv Q (ae6 a b):=by
 have h00:Q (a.aa*b.aa):=h.c a.aa b.aa (.inl rfl) (.inl rfl)
 have h01:Q (a.aa*b.af):=h.c a.aa b.af (.inl rfl) (.inr (.inr rfl))
 have h10:Q (a.af*b.aa):=h.c a.af b.aa (.inr (.inr rfl)) (.inl rfl)
 have h11:Q (a.af*b.af):=h.c a.af b.af (.inr (.inr rfl)) (.inr (.inr rfl))
 obtain⟨q1,q2⟩:=abk (P:=Q) h00 h01 h10 h11
 have g1:bJ (bJ (a.ag*b.aa) (b.ag*a.aa)) (a.ag*b.ag)∣a.ag*b.aa:=Int.dvd_trans (iJ _ _) (iJ _ _)
 have g2:bJ (bJ (a.ag*b.aa) (b.ag*a.aa)) (a.ag*b.ag)∣b.ag*a.aa:=Int.dvd_trans (iJ _ _) (nM _ _)
 have g3:bJ (bJ (a.ag*b.aa) (b.ag*a.aa)) (a.ag*b.ag)∣a.ag*b.ag:=nM _ _
 have base:∀y,Q y->bJ (bJ (a.ag*b.aa) (b.ag*a.aa)) (a.ag*b.ag)∣y-a.aa*b.aa:=fun y hy=>by
  obtain⟨x,z,⟨_,_,i,x3⟩,⟨_,_,j,z3⟩,rfl⟩:=h.v y hy
  show _∣x*z-a.aa*b.aa
  have e:x*z-a.aa*b.aa=i*(a.ag*b.aa)+j*(b.ag*a.aa)+i*j*(a.ag*b.ag):=by
   have ex:x=a.aa+a.ag*i:=by omega
   have ez:z=b.aa+b.ag*j:=by omega
   rw[ex,ez,Int.add_mul,Int.mul_add,Int.mul_add]
   have t1:a.aa*(b.ag*j)=j*(b.ag*a.aa):=by rw[<-Int.mul_assoc,Int.mul_comm (a.aa*b.ag) j,Int.mul_comm a.aa b.ag]
   have t2:a.ag*i*b.aa=i*(a.ag*b.aa):=by rw[Int.mul_comm a.ag i,Int.mul_assoc]
   have t3:a.ag*i*(b.ag*j)=i*j*(a.ag*b.ag):=by
    rw[Int.mul_comm a.ag i,Int.mul_comm b.ag j,Int.mul_assoc,Int.mul_left_comm a.ag j,<-Int.mul_assoc]
   rw[t1,t2,t3]
   omega
  rw[e]
  exact Int.dvd_add (Int.dvd_add (Int.dvd_trans g1 (Int.dvd_mul_left ..)) (Int.dvd_trans g2 (Int.dvd_mul_left ..))) (Int.dvd_trans g3 (Int.dvd_mul_left ..))
 refine⟨q1,q2,fun y hy=> ?_,jT _ _,fun d hd=> ?_⟩
 ·obtain⟨x,z,hx,hz,e⟩:=h.v y hy
  have e:y=x*z:=e
  have k:=Lh ⟨hx.1,hx.2.1⟩ ⟨hz.1,hz.2.1⟩
  refine⟨by rw[e];exact k.1,by rw[e];exact k.2,?_⟩
  have:=Int.dvd_sub (base y hy) (base _ q1)
  rwa [ssc]at this
 ·have diff:∀y y',Q y->Q y'->d∣y-y':=fun y y' hy hy'=>by
   have:=Int.dvd_sub (hd y hy) (hd y' hy')
   rwa [ssc]at this
  have p10:Q ((a.aa+a.ag)*b.aa):=h.c _ _ (.inr (.inl rfl)) (.inl rfl)
  have p01:Q (a.aa*(b.aa+b.ag)):=h.c _ _ (.inl rfl) (.inr (.inl rfl))
  have p11:Q ((a.aa+a.ag)*(b.aa+b.ag)):=h.c _ _ (.inr (.inl rfl)) (.inr (.inl rfl))
  have d1:=diff _ _ p10 h00
  rw[Int.add_mul,Int.add_comm (a.aa*b.aa),Int.add_sub_cancel]at d1
  have d2:=diff _ _ p01 h00
  rw[Int.mul_add,Int.add_comm (a.aa*b.aa),Int.add_sub_cancel,Int.mul_comm]at d2
  have d3:=Int.dvd_sub (diff _ _ p11 p10) d2
  rw[Int.mul_add (a.aa+a.ag),Int.add_comm ((a.aa+a.ag)*b.aa),Int.add_sub_cancel,Int.add_mul,Int.mul_comm b.ag a.aa,Int.add_comm (a.aa*b.ag),Int.add_sub_cancel]at d3
  exact gT (gT d1 d2) d3
end Go.Proofs.YtnfljbehcffmcaaGreat
end
noncomputable section
namespace Go.Proofs.YtnfljbehcffmcaaGreat
open Go Go.Iv
open Go.IntKind (i64)
def eo(a:aD):List Int:=[a.aa,a.aa+a.ag,a.af]
theorem mF(a:aD)(x:Int):GI a x↔∃k,k<3/\x=(eo a)[k]! :=by
 constructor
 ·rintro(rfl|rfl|rfl)
  ·exact⟨0,by omega,rfl⟩
  ·exact⟨1,by omega,rfl⟩
  ·exact⟨2,by omega,rfl⟩
 ·rintro⟨k,hk,rfl⟩
  rcases (show k=0\/k=1\/k=2 by omega)with rfl|rfl|rfl
  ·exact .inl rfl
  ·exact .inr (.inl rfl)
  ·exact .inr (.inr rfl)
theorem Am{a:aD}(h:NN a){k:Nat}(hk:k<3):bN (eo a)[k]! :=NX (.inr h) (nu h ((mF a _).mpr ⟨k,hk,rfl⟩))
def prC(op:Int)(a b:aD)(i j:Nat)(l:List Int):Prop:=(∀y,y∈l↔(∃k,k<i/\∃m,m<3/\y=dU op (eo a)[k]! (eo b)[m]!)\/∃m,m<j/\y=dU op (eo a)[i]! (eo b)[m]!)/\l.length=i*3+j/\∀y∈l,bN y
theorem Xj{op:Int}{a b:aD}{i:Nat}{l:List Int}(h:prC op a b i 3 l):prC op a b (i+1) 0 l:=by
 refine⟨fun y=>(h.1 y).trans ⟨?_,?_⟩,by rw[h.2.1];omega,h.2.2⟩
 ·rintro(⟨k,hk,m,hm,e⟩|⟨m,hm,e⟩)
  ·exact .inl ⟨k,by omega,m,hm,e⟩
  ·exact .inl ⟨i,by omega,m,hm,e⟩
 ·rintro(⟨k,hk,m,hm,e⟩|⟨m,hm,e⟩)
  ·rcases Nat.lt_succ_iff_lt_or_eq.mp hk with c|rfl
   ·exact .inl ⟨k,c,m,hm,e⟩
   ·exact .inr ⟨m,hm,e⟩
  ·exact absurd hm (Nat.not_lt_zero _)
theorem S2{op:Int}{a b c:aD}(ho:binop op)(ha:NN a)(hb:NN b){i:Nat}(hi:i<3){l:List Int}(hl:prC op a b i 0 l):
  (∃l',qF (fB.mk op l (eo a) (eo b) i 0 c)=some (fB.mk op l' (eo a) (eo b) i 3 c)/\prC op a b (i+1) 0 l')\/
  (∃l' j,j<3/\qF (fB.mk op l (eo a) (eo b) i 0 c)=some (fB.mk op l' (eo a) (eo b) i (j:Nat) c)/\¬bN (dU op (eo a)[i]! (eo b)[j]!)):=by
 have ll:∀a:aD,(eo a).length=3:=fun _=>rfl
 obtain⟨j,l',e,hI,h⟩:=mT (rnd:=xA) 3 (fun j (l:List Int)=>fB.mk op l (eo a) (eo b) i (j:Nat) c) (fun j l=>prC op a b i j l) (fun j l=>¬bN (dU op (eo a)[i]! (eo b)[j]!))
  (fun j l hj hI=>by
   obtain⟨v,ev,hv⟩:=j8 (Am ha hi) (Am hb hj) ho
   unfold xA
   simp only
   rw[pU,cond_true,ll,ll,fA,Int.toNat_natCast,if_pos ⟨trivial,hi⟩,fA,Int.toNat_natCast,if_pos ⟨trivial,hj⟩,ev]
   simp only
   by_cases hr:bN (dU op (eo a)[i]! (eo b)[j]!)
   ·left
    rw[decide_eq_true hr]
    simp only[cond_true,cond_false]
    rw[if_pos (by rw[List.length_append,hI.2.1];simp;omega),fh hj (by omega),hv hr]
    refine⟨_,rfl,fun y=> ?_,by rw[List.length_append,hI.2.1];simp;omega,fun y hy=> ?_⟩
    ·rw[List.mem_append,List.mem_singleton,hI.1 y]
     constructor
     ·rintro((h|⟨m,hm,h⟩)|rfl)
      ·exact .inl h
      ·exact .inr ⟨m,by omega,h⟩
      ·exact .inr ⟨j,by omega,rfl⟩
     ·rintro(h|⟨m,hm,h⟩)
      ·exact .inl (.inl h)
      ·rcases Nat.lt_succ_iff_lt_or_eq.mp hm with c|rfl
       ·exact .inl (.inr ⟨m,c,h⟩)
       ·exact .inr h
    ·rcases List.mem_append.mp hy with hy|hy
     ·exact hI.2.2 y hy
     ·rw[List.mem_singleton.mp hy];exact hr
   ·right
    rw[decide_eq_false hr]
    exact⟨rfl,hr⟩)
  (fun l hI=>by
   unfold xA
   simp only
   rw[eF]
   rfl) (b:=l) hl
 have e:bt xA (fB.mk op l (eo a) (eo b) i 0 c)=some (fB.mk op l' (eo a) (eo b) i (j:Nat) c):=e
 rcases h with rfl|⟨hj,h⟩
 ·exact .inl ⟨l',e,Xj hI⟩
 ·exact .inr ⟨l',j,hj,e,h⟩
theorem Wr{op:Int}{a b:aD}(ho:binop op)(ha:NN a)(hb:NN b):
  ((∀y,yK op a b y->bN y)/\∃c,tA op a b=some (c,0)/\cv (yK op a b) c)\/((¬∀y,yK op a b y->bN y)/\tA op a b=some (aD.mk 0 0 0,3)):=by
 have ll:∀a:aD,(eo a).length=3:=fun _=>rfl
 have wc:∀{a:aD},NN a->[a.aa,i64.wrap (a.aa+a.ag),a.af]=eo a:=fun{a} h=>by
  have:=NX (.inr h) (Mk h)
  rw[aF (by have:=this.1;omega) (by have:=this.2;omega)]
  rfl
 unfold tA
 rw[wc ha,wc hb]
 obtain⟨i,l,e,hI,h⟩:=mT (rnd:=uq) 3 (fun i (l:List Int)=>kI.mk op l (eo a) (eo b) (i:Nat) (aD.mk 0 0 0)) (fun i l=>prC op a b i 0 l) (fun i l=>∃l' j,j<3/\qF (fB.mk op l (eo a) (eo b) i 0 (aD.mk 0 0 0))=some (fB.mk op l' (eo a) (eo b) i (j:Nat) (aD.mk 0 0 0))/\¬bN (dU op (eo a)[i]! (eo b)[j]!))
  (fun i l hi hI=>by
   unfold uq
   simp only
   rw[pU,cond_true]
   rcases S2 (c:=aD.mk 0 0 0) ho ha hb hi hI with ⟨l',e,h⟩|⟨l',j,hj,e,h⟩
   ·left
    rw[e]
    simp only
    rw[eF,cond_false,fh hi (by omega)]
    exact⟨l',rfl,h⟩
   ·right
    refine⟨?_,l',j,hj,e,h⟩
    rw[e]
    simp only
    obtain⟨v,ev,hv⟩:=j8 (Am ha hi) (Am hb hj) ho
    rw[pU,cond_true,ll,ll,fA,Int.toNat_natCast,if_pos ⟨trivial,hi⟩,fA,Int.toNat_natCast,if_pos ⟨trivial,hj⟩,ev]
    simp only
    rw[decide_eq_false h]
    rfl)
  (fun l hI=>by
   unfold uq
   simp only
   rw[eF]
   rfl) (b:=[]) ⟨fun y=>⟨fun h=>absurd h (by simp),fun h=>by
    rcases h with ⟨k,hk,_⟩|⟨m,hm,_⟩
    ·exact absurd hk (Nat.not_lt_zero _)
    ·exact absurd hm (Nat.not_lt_zero _)⟩,by simp,fun y hy=>absurd hy (by simp)⟩
 have e:bt uq (kI.mk op [] (eo a) (eo b) 0 (aD.mk 0 0 0))=some (kI.mk op l (eo a) (eo b) (i:Nat) (aD.mk 0 0 0)):=e
 rw[show BA=bt uq from rfl,e]
 simp only
 rcases h with rfl|⟨hi,l',j,hj,e1,h⟩
 ·left
  have mem:∀y,y∈l↔yK op a b y:=fun y=>(hI.1 y).trans ⟨fun h=>by
   rcases h with ⟨k,hk,m,hm,e⟩|⟨m,hm,_⟩
   ·exact⟨_,_,(mF a _).mpr ⟨k,hk,rfl⟩,(mF b _).mpr ⟨m,hm,rfl⟩,e⟩
   ·exact absurd hm (Nat.not_lt_zero _),fun⟨x,z,hx,hz,e⟩=>by
   obtain⟨k,hk,rfl⟩:=(mF a _).mp hx
   obtain⟨m,hm,rfl⟩:=(mF b _).mp hz
   exact .inl ⟨k,hk,m,hm,e⟩⟩
  rw[eF,cond_false]
  have hne:l≠[]:=fun e=>by
   have:=hI.2.1
   rw[e]at this
   simp at this
  obtain⟨c,e2,hc⟩:=Bo hne (by rw[hI.2.1];omega) hI.2.2
  rw[e2]
  exact⟨fun y hy=>hI.2.2 y ((mem y).mpr hy),c,rfl,hc.congr mem⟩
 ·right
  refine⟨fun k=>h (k _ ⟨_,_,(mF a _).mpr ⟨i,hi,rfl⟩,(mF b _).mpr ⟨j,hj,rfl⟩,rfl⟩),?_⟩
  rw[pU,cond_true,e1]
  simp only
  obtain⟨v,ev,hv⟩:=j8 (Am ha hi) (Am hb hj) ho
  rw[pU,cond_true,ll,ll,fA,Int.toNat_natCast,if_pos ⟨trivial,hi⟩,fA,Int.toNat_natCast,if_pos ⟨trivial,hj⟩,ev]
  simp only
  rw[decide_eq_false h]
  rfl
theorem iq{op:Int}{a b c:aD}(ho:op=8\/op=9\/op=10)(ha:NN a)(hb:NN b)(hc:∀Q,Mid op a b Q->cv Q c)(hR:(∀y,yK op a b y->bN y)->∀y,pY op a b y->bN y):
  ((∀y,pY op a b y->bN y)/\mC op a b=some (c,0)/\NN c)\/((¬∀y,pY op a b y->bN y)/\mC op a b=some (aD.mk 0 0 0,3)):=by
 have hbin:binop op:=by unfold binop;omega
 by_cases hs:cnt a*cnt b<=4096
 ·rw[l9 hbin ha hb hs]
  rcases wj hbin ha hb (by omega)with ⟨h1,d,e,h2⟩|⟨h1,e⟩
  ·have k:=hc _ (ace ha hb)
   rw[h2.uniq k]at e
   exact .inl ⟨h1,e,k.valid h1⟩
  ·exact .inr ⟨h1,e⟩
 ·have e0:mC op a b=tA op a b:=by
   rw[th hbin ha hb hs]
   unfold OF
   rcases ho with rfl|rfl|rfl<;>rfl
  rw[e0]
  rcases Wr hbin ha hb with ⟨h1,d,e,h2⟩|⟨h1,e⟩
  ·rw[h2.uniq (hc _ (aaU ha hb))]at e
   exact .inl ⟨hR h1,e,(hc _ (ace ha hb)).valid (hR h1)⟩
  ·exact .inr ⟨fun k=>h1 fun y hy=>k y ((aaU ha hb).v y hy),e⟩
theorem Ns{c:aD}(h:NN c):hO c.aa c.af c.ag=c:=by
 rw[En h.le h.s0 h.dvd (fun k=>by rcases h.st with e|e;exact e.2;omega)]
theorem uM{c:aD}(h:NN c):k9 c.aa c.af c.ag=some c:=by
 have:=h.lo;have:=h.hi
 rw[mw (by omega) (by omega) h.s0,Ns h]
theorem lB{op:Int}{a b:aD}(ho:binop op)(ha:NN a)(hb:NN b){r:Option (aD×Int)}
  (h:(bif decide (op=9)then
   match bif bif ig (i64.wrap (a.aa+i64.wrap (0-b.af)))then false else true then some true else some (bif ig (i64.wrap (a.af+i64.wrap (0-b.aa)))then false else true)with
   |none=>none
   |some r5=>bif r5 then some (aD.mk 0 0 0,3)else match vS [a.ag,b.ag]with
    |none=>none
    |some r6=>match k9 (i64.wrap (a.aa+i64.wrap (0-b.af))) (i64.wrap (a.af+i64.wrap (0-b.aa))) r6 with
     |none=>none
     |some r7=>some (r7,0)
  else bif decide (op=8)then
   match bif bif ig (i64.wrap (a.aa+b.aa))then false else true then some true else some (bif ig (i64.wrap (a.af+b.af))then false else true)with
   |none=>none
   |some r8=>bif r8 then some (aD.mk 0 0 0,3)else match vS [a.ag,b.ag]with
    |none=>none
    |some r9=>match k9 (i64.wrap (a.aa+b.aa)) (i64.wrap (a.af+b.af)) r9 with
     |none=>none
     |some r10=>some (r10,0)
  else bif decide (op=10)then match Nr a b with
   |none=>none
   |some r11=>some r11
  else bif decide (op=11)then match tK op a b with
   |none=>none
   |some r12=>some (r12,0)
  else bif decide (op=12)then match tK op a b with
   |none=>none
   |some r13=>some (r13,0)
  else bif decide (op=21)then match tK op a b with
   |none=>none
   |some r14=>some (r14,0)
  else bif decide (op=22)then match tK op a b with
   |none=>none
   |some r15=>some (r15,0)
  else match S3 op a b with
   |none=>none
   |some r16=>some (r16,0))=r):sE op a b=r:=by
 unfold sE
 rw[di,di,cR (.inr ha),cR (.inr hb),iG,decide_eq_true ho]
 simp only[cond_true,cond_false]
 rw[cY ha.ne,cY hb.ne]
 simp only[cond_false]
 exact h
theorem pG{a b:aD}(ha:NN a)(hb:NN b):(∀y,pY 8 a b y->bN y)↔bN (a.aa+b.aa)/\bN (a.af+b.af):=by
 constructor
 ·intro h
  exact⟨h _ ⟨_,_,cu ha,cu hb,rfl⟩,h _ ⟨_,_,eS ha,eS hb,rfl⟩⟩
 ·rintro⟨⟨h1,h2⟩,⟨h3,h4⟩⟩ y ⟨x,z,⟨x1,x2,_⟩,⟨z1,z2,_⟩,rfl⟩
  exact⟨by show _<=x+z;omega,by show x+z<=_;omega⟩
theorem pN{a b:aD}(ha:NN a)(hb:NN b):(∀y,pY 9 a b y->bN y)↔bN (a.aa-b.af)/\bN (a.af-b.aa):=by
 constructor
 ·intro h
  exact⟨h _ ⟨_,_,cu ha,eS hb,rfl⟩,h _ ⟨_,_,eS ha,cu hb,rfl⟩⟩
 ·rintro⟨⟨h1,h2⟩,⟨h3,h4⟩⟩ y ⟨x,z,⟨x1,x2,_⟩,⟨z1,z2,_⟩,rfl⟩
  exact⟨by show _<=x-z;omega,by show x-z<=_;omega⟩
theorem ic{a b:aD}(ha:NN a)(hb:NN b):(∀y,pY 10 a b y->bN y)↔bN (a.aa*b.aa)/\bN (a.aa*b.af)/\bN (a.af*b.aa)/\bN (a.af*b.af):=by
 constructor
 ·intro h
  exact⟨h _ ⟨_,_,cu ha,cu hb,rfl⟩,h _ ⟨_,_,cu ha,eS hb,rfl⟩,h _ ⟨_,_,eS ha,cu hb,rfl⟩,h _ ⟨_,_,eS ha,eS hb,rfl⟩⟩
 ·rintro⟨h1,h2,h3,h4⟩ y ⟨x,z,⟨x1,x2,_⟩,⟨z1,z2,_⟩,rfl⟩
  have k:=Lh (a:=a) (b:=b) ⟨x1,x2⟩ ⟨z1,z2⟩
  obtain⟨⟨p1,p2⟩,⟨p3,p4⟩⟩:=abk (P:=bN) h1 h2 h3 h4
  exact⟨by show _<=x*z;omega,by show x*z<=_;omega⟩
theorem Vq{x y u v:Int}(h1:x.natAbs=u.natAbs)(h2:y.natAbs=v.natAbs):bJ x y=bJ u v:=by
 unfold bJ Int.gcd
 rw[h1,h2]
theorem NG(p q r s:Int):Wl ([p]++[q]++[r]++[s])=some (OE p q r s):=by
 unfold Wl
 rw[decide_eq_false (by simp),cond_false,if_pos (by simp),show CC=bt zA from rfl]
 have st:∀m k,k=1\/k=2\/k=3->zA (mq.mk ([p]++[q]++[r]++[s]) m k)=some (some (mq.mk ([p]++[q]++[r]++[s]) (min m ([p]++[q]++[r]++[s])[k.toNat]!) (k+1))):=fun m k hk=>by
  unfold zA
  simp only
  rw[decide_eq_true (by simp;omega),cond_true,if_pos (by simp;omega),aF]
  have e:∀w:Int,(if w<m then w else m)=min m w:=fun w=>by split<;>omega
  rw[e]
 rw[bD (st _ 1 (.inl rfl)),bD (st _ (1+1) (.inr (.inl rfl))),bD (st _ (1+1+1) (.inr (.inr rfl))),bU (by intro x hx;simp[zA]at hx)]
 simp only
 rw[decide_eq_false (by simp),cond_false]
 show some (min (min (min p q) r) s)=some (OE p q r s)
 unfold OE
 congr 1
 omega
theorem M9(p q r s:Int):Vv ([p]++[q]++[r]++[s])=some (hi4 p q r s):=by
 unfold Vv
 rw[decide_eq_false (by simp),cond_false,if_pos (by simp),show Df=bt xI from rfl]
 have st:∀m k,k=1\/k=2\/k=3->xI (me.mk ([p]++[q]++[r]++[s]) m k)=some (some (me.mk ([p]++[q]++[r]++[s]) (max m ([p]++[q]++[r]++[s])[k.toNat]!) (k+1))):=fun m k hk=>by
  unfold xI
  simp only
  rw[decide_eq_true (by simp;omega),cond_true,if_pos (by simp;omega),aF]
  have e:∀w:Int,(if m<w then w else m)=max m w:=fun w=>by split<;>omega
  rw[e]
 rw[bD (st _ 1 (.inl rfl)),bD (st _ (1+1) (.inr (.inl rfl))),bD (st _ (1+1+1) (.inr (.inr rfl))),bU (by intro x hx;simp[xI]at hx)]
 simp only
 rw[decide_eq_false (by simp),cond_false]
 show some (max (max (max p q) r) s)=some (hi4 p q r s)
 unfold hi4
 congr 1
 omega
end Go.Proofs.YtnfljbehcffmcaaGreat
end
noncomputable section
namespace Go.Proofs.YtnfljbehcffmcaaGreat
open Go Go.Iv
theorem ahD(x y:Int):(bif bif ig x then false else true then some true else some (bif ig y then false else true))=some (!(decide (bN x)&&decide (bN y))):=by
 rw[show ig x=decide (bN x)from iE x,show ig y=decide (bN y)from iE y]
 cases decide (bN x)<;>cases decide (bN y)<;>rfl
theorem dV{op:Int}{a b:aD}(h:∀y,yK op a b y->bN y){x z:Int}(hx:GI a x)(hz:GI b z):bN (dU op x z):=h _ ⟨x,z,hx,hz,rfl⟩
def Kg(op:Int)(a b:aD):Prop:=∃r,sE op a b=some r/\mC op a b=some r/\NV r.1
theorem Rk{a b:aD}(ha:NN a)(hb:NN b):Kg 8 a b:=by
 have r1:=ha.qc
 have r2:=ha.vR
 have r3:=hb.qc
 have r4:=hb.vR
 obtain⟨a1,a2⟩:=r1
 obtain⟨a3,a4⟩:=r2
 obtain⟨b1,b2⟩:=r3
 obtain⟨b3,b4⟩:=r4
 have key:=iq (op:=8) (.inl rfl) ha hb (fun Q h=>FF ha hb h) (fun h=>(pG ha hb).mpr ⟨dV h (.inl rfl) (.inl rfl),dV h (.inr (.inr rfl)) (.inr (.inr rfl))⟩)
 have prog:∀r,(match some (!(decide (bN (a.aa+b.aa))&&decide (bN (a.af+b.af))))with
   |none=>none
   |some r8=>bif r8 then some (aD.mk 0 0 0,(3:Int))else match k9 (a.aa+b.aa) (a.af+b.af) (bJ a.ag b.ag)with
     |none=>none
     |some r10=>some (r10,0))=r->sE 8 a b=r:=fun r h=>lB ⟨by decide,by decide⟩ ha hb (by
  simp only[Int.reduceEq,decide_false,decide_true,cond_false,cond_true]
  rw[ahD,aF (n:=a.aa+b.aa),aF (n:=a.af+b.af),yZ ha.s0 hb.s0]
  exact h)
 rcases key with ⟨h1,e,hv⟩|⟨h1,e⟩
 ·obtain⟨k1,k2⟩:=(pG ha hb).mp h1
  refine⟨_,prog _ ?_,e, .inr hv⟩
  rw[decide_eq_true k1,decide_eq_true k2]
  have:=uM hv
  have this:k9 (a.aa+b.aa) (a.af+b.af) (bJ a.ag b.ag)=some _:=this
  rw[this]
  rfl
 ·refine⟨_,prog _ ?_,e,J8⟩
  have:(decide (bN (a.aa+b.aa))&&decide (bN (a.af+b.af)))=false:=by
   cases c1:decide (bN (a.aa+b.aa))<;>cases c2:decide (bN (a.af+b.af))<;>first|rfl|exact absurd ((pG ha hb).mpr ⟨of_decide_eq_true c1,of_decide_eq_true c2⟩) h1
  rw[this]
  rfl
theorem SC{a b:aD}(ha:NN a)(hb:NN b):Kg 9 a b:=by
 have r1:=ha.qc
 have r2:=ha.vR
 have r3:=hb.qc
 have r4:=hb.vR
 obtain⟨a1,a2⟩:=r1
 obtain⟨a3,a4⟩:=r2
 obtain⟨b1,b2⟩:=r3
 obtain⟨b3,b4⟩:=r4
 have key:=iq (op:=9) (.inr (.inl rfl)) ha hb (fun Q h=>Eo ha hb h) (fun h=>(pN ha hb).mpr ⟨dV h (.inl rfl) (.inr (.inr rfl)),dV h (.inr (.inr rfl)) (.inl rfl)⟩)
 have prog:∀r,(match some (!(decide (bN (a.aa-b.af))&&decide (bN (a.af-b.aa))))with
   |none=>none
   |some r8=>bif r8 then some (aD.mk 0 0 0,(3:Int))else match k9 (a.aa-b.af) (a.af-b.aa) (bJ a.ag b.ag)with
     |none=>none
     |some r10=>some (r10,0))=r->sE 9 a b=r:=fun r h=>lB ⟨by decide,by decide⟩ ha hb (by
  simp only[Int.reduceEq,decide_false,decide_true,cond_false,cond_true]
  rw[ahD,aF (n:=0-b.af),aF (n:=0-b.aa),aF (n:=a.aa+(0-b.af)),aF (n:=a.af+(0-b.aa)),yZ ha.s0 hb.s0,
   show a.aa+(0-b.af)=a.aa-b.af by omega,show a.af+(0-b.aa)=a.af-b.aa by omega]
  exact h)
 rcases key with ⟨h1,e,hv⟩|⟨h1,e⟩
 ·obtain⟨k1,k2⟩:=(pN ha hb).mp h1
  refine⟨_,prog _ ?_,e, .inr hv⟩
  rw[decide_eq_true k1,decide_eq_true k2]
  have:=uM hv
  have this:k9 (a.aa-b.af) (a.af-b.aa) (bJ a.ag b.ag)=some _:=this
  rw[this]
  rfl
 ·refine⟨_,prog _ ?_,e,J8⟩
  have:(decide (bN (a.aa-b.af))&&decide (bN (a.af-b.aa)))=false:=by
   cases c1:decide (bN (a.aa-b.af))<;>cases c2:decide (bN (a.af-b.aa))<;>first|rfl|exact absurd ((pN ha hb).mpr ⟨of_decide_eq_true c1,of_decide_eq_true c2⟩) h1
  rw[this]
  rfl
theorem SQ{a b:aD}(ha:NN a)(hb:NN b):Kg 10 a b:=by
 have key:=iq (op:=10) (.inr (.inr rfl)) ha hb (fun Q h=>Ee ha hb h) (fun h=>(ic ha hb).mpr ⟨dV h (.inl rfl) (.inl rfl),dV h (.inl rfl) (.inr (.inr rfl)),dV h (.inr (.inr rfl)) (.inl rfl),dV h (.inr (.inr rfl)) (.inr (.inr rfl))⟩)
 have prog:sE 10 a b=Nr a b:=lB ⟨by decide,by decide⟩ ha hb (by
  simp only[Int.reduceEq,decide_false,decide_true,cond_false,cond_true]
  cases Nr a b<;>rfl)
 unfold Kg
 rw[prog]
 obtain⟨v1,e1,q1⟩:=wL ha.qc hb.qc
 obtain⟨v2,e2,q2⟩:=wL ha.qc hb.vR
 obtain⟨v3,e3,q3⟩:=wL ha.vR hb.qc
 obtain⟨v4,e4,q4⟩:=wL ha.vR hb.vR
 unfold Nr
 rw[e1]
 simp only
 by_cases c1:bN (a.aa*b.aa)
 ·rw[decide_eq_true c1,e2]
  simp only[cond_true,cond_false]
  by_cases c2:bN (a.aa*b.af)
  ·rw[decide_eq_true c2,e3]
   simp only[cond_true,cond_false]
   by_cases c3:bN (a.af*b.aa)
   ·rw[decide_eq_true c3,e4]
    simp only[cond_true,cond_false]
    by_cases c4:bN (a.af*b.af)
    ·rw[decide_eq_true c4]
     simp only[cond_true,cond_false]
     have hr:=(ic ha hb).mpr ⟨c1,c2,c3,c4⟩
     rcases key with ⟨_,e,hv⟩|⟨h1,_⟩
     ·have r1:=ha.qc
      have r3:=hb.qc
      obtain⟨a1,a2⟩:=r1
      obtain⟨b1,b2⟩:=r3
      have s1:=ha.s0
      have s2:=hb.s0
      have l1:=ha.sle
      have l2:=hb.sle
      obtain⟨w1,w2⟩:=c1
      obtain⟨w3,w4⟩:=c2
      obtain⟨w5,w6⟩:=c3
      obtain⟨w7,w8⟩:=c4
      have n1:0<=a.ag*((b.aa.natAbs:Nat):Int):=Int.mul_nonneg s1 (by omega)
      have n2:0<=b.ag*((a.aa.natAbs:Nat):Int):=Int.mul_nonneg s2 (by omega)
      have n3:0<=a.ag*b.ag:=Int.mul_nonneg s1 s2
      have k1:a.ag*((b.aa.natAbs:Nat):Int)<=2199023255552:=by
       have t:=Int.mul_le_mul_of_nonneg_right l1 (show 0<=((b.aa.natAbs:Nat):Int)by omega)
       have t2:(a.af-a.aa)*((b.aa.natAbs:Nat):Int)<=2199023255552:=by
        rcases Int.le_total 0 b.aa with c|c
        ·rw[show ((b.aa.natAbs:Nat):Int)=b.aa by omega,Int.sub_mul];omega
        ·rw[show ((b.aa.natAbs:Nat):Int)= -b.aa by omega,Int.mul_neg,Int.sub_mul];omega
       omega
      have k2:b.ag*((a.aa.natAbs:Nat):Int)<=2199023255552:=by
       have t:=Int.mul_le_mul_of_nonneg_right l2 (show 0<=((a.aa.natAbs:Nat):Int)by omega)
       have t2:(b.af-b.aa)*((a.aa.natAbs:Nat):Int)<=2199023255552:=by
        rcases Int.le_total 0 a.aa with c|c
        ·rw[show ((a.aa.natAbs:Nat):Int)=a.aa by omega,Int.sub_mul,Int.mul_comm b.af,Int.mul_comm b.aa];omega
        ·rw[show ((a.aa.natAbs:Nat):Int)= -a.aa by omega,Int.mul_neg,Int.sub_mul,Int.mul_comm b.af,Int.mul_comm b.aa];omega
       omega
      have k3:a.ag*b.ag<=4398046511104:=by
       have t:=Int.mul_le_mul l1 l2 s2 (by omega)
       rw[Int.sub_mul,Int.mul_sub,Int.mul_sub]at t
       omega
      rw[kY hb.qc,kY ha.qc,aF (n:=a.ag*((b.aa.natAbs:Nat):Int)),aF (n:=b.ag*((a.aa.natAbs:Nat):Int)),aF (n:=a.ag*b.ag),
       xJ n1 n2 n3,NG,M9,q1 ⟨w1,w2⟩,q2 ⟨w3,w4⟩,q3 ⟨w5,w6⟩,q4 ⟨w7,w8⟩]
      simp only
      have eg:bJ (bJ (a.ag*((b.aa.natAbs:Nat):Int)) (b.ag*((a.aa.natAbs:Nat):Int))) (a.ag*b.ag)=(ae6 a b).ag:=by
       show _=bJ (bJ (a.ag*b.aa) (b.ag*a.aa)) (a.ag*b.ag)
       rw[Vq (x:=a.ag*((b.aa.natAbs:Nat):Int)) (u:=a.ag*b.aa) (by rw[Int.natAbs_mul,Int.natAbs_mul,Int.natAbs_natCast]) (y:=b.ag*((a.aa.natAbs:Nat):Int)) (v:=b.ag*a.aa) (by rw[Int.natAbs_mul,Int.natAbs_mul,Int.natAbs_natCast])]
      rw[eg]
      have:=uM hv
      have this:k9 (OE (a.aa*b.aa) (a.aa*b.af) (a.af*b.aa) (a.af*b.af)) (hi4 (a.aa*b.aa) (a.aa*b.af) (a.af*b.aa) (a.af*b.af)) (ae6 a b).ag=some _:=this
      rw[this]
      exact⟨_,rfl,e, .inr hv⟩
     ·exact absurd hr h1
    ·rcases key with ⟨h1,_⟩|⟨_,e⟩
     ·exact absurd ((ic ha hb).mp h1).2.2.2 c4
     ·rw[decide_eq_false c4];exact⟨_,rfl,e,J8⟩
   ·rcases key with ⟨h1,_⟩|⟨_,e⟩
    ·exact absurd ((ic ha hb).mp h1).2.2.1 c3
    ·rw[decide_eq_false c3];exact⟨_,rfl,e,J8⟩
  ·rcases key with ⟨h1,_⟩|⟨_,e⟩
   ·exact absurd ((ic ha hb).mp h1).2.1 c2
   ·rw[decide_eq_false c2];exact⟨_,rfl,e,J8⟩
 ·rcases key with ⟨h1,_⟩|⟨_,e⟩
  ·exact absurd ((ic ha hb).mp h1).1 c1
  ·rw[decide_eq_false c1];exact⟨_,rfl,e,J8⟩
end Go.Proofs.YtnfljbehcffmcaaGreat
end
noncomputable section
namespace Go.Proofs.YtnfljbehcffmcaaGreat
open Go Go.Iv
open Go.IntKind (i64)
structure Eu (x m a b u v:Int):Prop where
 a0:0<=a
 b2:2<=b
 ab:a<b
 g:Int.gcd a b=1
 du:m∣u*x-a
 dv:m∣v*x-b
 s:(0<=u/\v<=0/\b*u-a*v=m)\/(u<=0/\0<=v/\a*v-b*u=m)
theorem Eu.next{x m a b u v:Int}(h:Eu x m a b u v)(ha:1<a):Eu x m (b%a) a (v-b/a*u) u:=by
 have e:=Int.mul_ediv_add_emod b a
 have m0:=Int.emod_nonneg b (b:=a) (by omega)
 have m1:=Int.emod_lt_of_pos b (b:=a) (by omega)
 refine⟨m0,by omega,m1,?_,?_,h.du,?_⟩
 ·have:=n9 (a:=b) (b:=a) (by have:=h.b2;omega) (by omega)
  rw[iZ (by have:=h.b2;omega)]at this
  rw[Int.gcd_comm,this,Int.gcd_comm]
  exact h.g
 ·have k:=Int.dvd_sub h.dv (Int.dvd_trans h.du (Int.dvd_mul_left (b/a) _))
  have:v*x-b-b/a*(u*x-a)=(v-b/a*u)*x-b%a:=by
   rw[Int.mul_sub,Int.sub_mul,Int.mul_assoc,Int.mul_comm (b/a) a]
   omega
  rwa [this]at k
 ·have t1:(b%a)*u=b*u-a*(b/a*u):=by
   rw[<-Int.mul_assoc,<-Int.sub_mul]
   congr 1
   omega
  have t2:a*(v-b/a*u)=a*v-a*(b/a*u):=Int.mul_sub ..
  have q0:0<=b/a:=Int.ediv_nonneg (by have:=h.b2;omega) (by omega)
  rcases h.s with ⟨s1,s2,s3⟩|⟨s1,s2,s3⟩
  ·have:=Int.mul_nonneg q0 s1
   exact .inr ⟨by omega,s1,by omega⟩
  ·have:=Int.mul_nonneg q0 (show 0<= -u by omega)
   rw[Int.mul_neg]at this
   exact .inl ⟨by omega,s1,by omega⟩
theorem Eu.bd{x m a b u v:Int}(h:Eu x m a b u v): -m<=u/\u<=m:=by
 have hb:=h.b2
 have ha:=h.a0
 rcases h.s with ⟨s1,s2,s3⟩|⟨s1,s2,s3⟩
 ·have k1:=Int.mul_nonneg ha (show 0<= -v by omega)
  rw[Int.mul_neg]at k1
  have k2:1*u<=b*u:=Int.mul_le_mul_of_nonneg_right (by omega) s1
  omega
 ·have k1:=Int.mul_nonneg ha s2
  have k2:1*(-u)<=b*(-u):=Int.mul_le_mul_of_nonneg_right (by omega) (by omega)
  simp only[Int.mul_neg,Int.one_mul]at k2
  omega
theorem Eu.bv{x m a b u v:Int}(h:Eu x m a b u v)(ha:1<a): -m<=v/\v<=m:=by
 have hb:=h.b2
 rcases h.s with ⟨s1,s2,s3⟩|⟨s1,s2,s3⟩
 ·have k1:=Int.mul_nonneg (show 0<=b by omega) s1
  have k2:1*(-v)<=a*(-v):=Int.mul_le_mul_of_nonneg_right (by omega) (by omega)
  simp only[Int.mul_neg,Int.one_mul]at k2
  omega
 ·have k1:=Int.mul_nonneg (show 0<=b by omega) (show 0<= -u by omega)
  rw[Int.mul_neg]at k1
  have k2:1*v<=a*v:=Int.mul_le_mul_of_nonneg_right (by omega) s2
  omega
theorem afL{x m a b u v:Int}(hm:m<1152921504606846976)(hbm:b<=m)(h:Eu x m a b u v):∃b' u' v',AY (iR.mk m a b u v)=some (iR.mk m 1 b' u' v')/\m∣u'*x-1/\ -m<=u'/\u'<=m:=by
 obtain⟨z,e1,⟨a',b',u',v',rfl,hI,hb⟩,hs⟩:=jN (rnd:=xP) (fun p=>∃a b u v,p=iR.mk m a b u v/\Eu x m a b u v/\b<=m) (fun p=>p.t5.toNat) (fun p p' ⟨a,b,u,v,hp,hI,hbm⟩ hn=>by
  subst hp
  have hn:xP (iR.mk m a b u v)=some (some p'):=hn
  unfold xP at hn
  simp only at hn
  by_cases c:1<a
  ·have hN:=hI.next c
   have q0:0<=b/a:=Int.ediv_nonneg (by have:=hI.b2;omega) (by omega)
   have q1:b/a<=b:=Int.ediv_le_self _ (by have:=hI.b2;omega)
   have e:=Int.mul_ediv_add_emod b a
   rw[Int.mul_comm]at e
   have m0:=hN.a0
   have m1:=hN.ab
   have bu:=hI.bd
   have bv:=hI.bv c
   have bn:=hN.bd
   have hb2:=hI.b2
   have hab:=hI.ab
   rw[decide_eq_true c,cond_true,fA,iK,aF (n:=b/a),aF (n:=b/a*a),aF (n:=b-b/a*a),aF (n:=b/a*u),aF (n:=v-b/a*u)]at hn
   simp only[Option.some.injEq]at hn
   subst hn
   rw[show b-b/a*a=b%a by omega]
   exact⟨⟨b%a,a,_,_,rfl,hN,by have:=hI.ab;omega⟩,by show (b%a).toNat<a.toNat;omega⟩
  ·rw[decide_eq_false c]at hn;cases hn) ⟨a,b,u,v,rfl,h,hbm⟩
 have hle:¬1<a':=fun c=>by
  have hN:=hI.next c
  have q0:0<=b'/a':=Int.ediv_nonneg (by have:=hI.b2;omega) (by omega)
  refine hs (iR.mk m (i64.wrap (b'-i64.wrap (i64.wrap (b'.tdiv a')*a'))) a' (i64.wrap (v'-i64.wrap (i64.wrap (b'.tdiv a')*u'))) u') ?_
  unfold xP
  simp only
  rw[decide_eq_true c,cond_true,fA]
 have a1:a'=1:=by
  have:=hI.a0
  rcases (show a'=0\/a'=1 by omega)with rfl|rfl
  ·have g:=hI.g
   rw[Int.gcd_zero_left]at g
   have:=hI.b2
   omega
  ·rfl
 subst a1
 exact⟨b',u',v',e1,hI.du,hI.bd⟩
theorem U1{x m:Int}(h0:0<=x)(h1:2<=m)(h2:m<1152921504606846976)(hg:Int.gcd x m=1):∃v:Int,Wj x m=some v/\0<=v/\v<m/\m∣v*x-1:=by
 have m0:=Int.emod_nonneg x (b:=m) (by omega)
 have m1:=Int.emod_lt_of_pos x (b:=m) (by omega)
 have e:=Int.mul_ediv_add_emod x m
 obtain⟨b',u',v',e1,d1,d2,d3⟩:=afL (x:=x) (m:=m) (a:=x%m) (b:=m) (u:=1) (v:=0) h2 (Int.le_refl _) ⟨m0,h1,m1,by
   have:=n9 (a:=x) (b:=m) h0 (by omega)
   rw[iZ h0]at this
   rw[Int.gcd_comm,this,hg],⟨x/m,by omega⟩,⟨-1,by omega⟩, .inl ⟨by omega,by omega,by omega⟩⟩
 unfold Wj
 rw[fA,iZ h0,e1]
 simp only
 rw[eF,cond_false,fA,fA]
 have t:=Int.mul_tdiv_add_tmod u' m
 have tb:(u'.tmod m).natAbs<m.natAbs:=by rw[Int.natAbs_tmod];exact Nat.mod_lt _ (by omega)
 rw[aF,iZ]
 have ev:(u'.tmod m+m)%m=u'%m:=by
  rw[Int.add_emod_right]
  conv=>rhs;rw[<-t]
  rw[Int.mul_add_emod_self_left]
 rw[ev]
 refine⟨u'%m,rfl,Int.emod_nonneg _ (by omega),Int.emod_lt_of_pos _ (by omega),?_⟩
 have e2:=Int.mul_ediv_add_emod u' m
 have:u'%m*x-1=u'*x-1-m*(u'/m*x):=by
  rw[<-Int.mul_assoc]
  have:u'%m*x=u'*x-m*(u'/m)*x:=by
   rw[<-Int.sub_mul]
   congr 1
   omega
  omega
 rw[this]
 exact Int.dvd_sub d1 (Int.dvd_mul_right ..)
theorem Tl{x m:Int}(hm:1<=m):(x.tmod m+m).tmod m=x%m/\0<=x.tmod m+m/\x.tmod m+m<2*m/\ -m<x.tmod m:=by
 have t:=Int.mul_tdiv_add_tmod x m
 have tb:(x.tmod m).natAbs<m.natAbs:=by rw[Int.natAbs_tmod];exact Nat.mod_lt _ (by omega)
 refine⟨?_,by omega,by omega,by omega⟩
 rw[iZ,Int.add_emod_right]
 conv=>rhs;rw[<-t]
 rw[Int.mul_add_emod_self_left]
def B4(X Y Z:Int->Int)(sa P M K:Int):Option aD:=
 bif decide (M<K)then some gF else if¬P=(0:Int)then bif decide (K=i64.wrap (K+i64.wrap (i64.wrap ((i64.wrap (M-K)).tdiv P)*P)))then some (fu (X K))else some (aD.mk (Y K) (Z K) (i64.wrap (P*sa)))else none
theorem AN{X Y Z:Int->Int}{sa P M K:Int}(h1:1<=sa)(h2:1<=P)(h3:0<=K)(h4:M<=4398046511104)(h5:M*sa<=4398046511104):∃c,B4 X Y Z sa P M K=some c/\dI c=decide (M<K):=by
 unfold B4
 by_cases c:M<K
 ·rw[decide_eq_true c]
  exact⟨bS,rfl,gD⟩
 ·rw[decide_eq_false c,cond_false,fA]
  have q0:0<=(M-K)/P:=Int.ediv_nonneg (by omega) (by omega)
  have q1:(M-K)/P<=M-K:=Int.ediv_le_self _ (by omega)
  have q2:(M-K)/P*P<=M-K:=Int.ediv_mul_le _ (by omega)
  have q3:0<=(M-K)/P*P:=Int.mul_nonneg q0 (by omega)
  rw[aF (n:=M-K),iK,aF (n:=(M-K)/P),aF (n:=(M-K)/P*P),aF (n:=K+(M-K)/P*P)]
  by_cases e:K=K+(M-K)/P*P
  ·rw[decide_eq_true e]
   refine⟨fu (X K),rfl,cY fun k=> ?_⟩
   have k1:X K=1:=congrArg aD.aa k
   have k2:X K=0:=congrArg aD.af k
   omega
  ·rw[decide_eq_false e]
   refine⟨_,rfl,cY fun k=> ?_⟩
   have k3:i64.wrap (P*sa)=0:=congrArg aD.ag k
   have q5:1<=(M-K)/P:=by
    rcases (show (M-K)/P=0\/1<=(M-K)/P by omega)with z|z
    ·rw[z,Int.zero_mul]at e;omega
    ·exact z
   have q6:1*P<=(M-K)/P*P:=Int.mul_le_mul_of_nonneg_right q5 (by omega)
   have q7:P*sa<=M*sa:=Int.mul_le_mul_of_nonneg_right (by omega) (by omega)
   have q8:1*1<=P*sa:=Int.mul_le_mul h2 h1 (by omega) (by omega)
   rw[aF]at k3
   omega
def Kq(X Y Z:Int->Int)(sa P M L k:Int):Option aD:=
 if¬sa=(0:Int)then if¬sa=(0:Int)then bif decide (k<L)then if¬P=(0:Int)then B4 X Y Z sa P M (i64.wrap (k+i64.wrap (i64.wrap ((i64.wrap (i64.wrap (i64.wrap (L-k)+P)-1)).tdiv P)*P)))else none else B4 X Y Z sa P M k else none else none
theorem xE{X Y Z:Int->Int}{sa P M L k:Int}(h1:1<=sa)(h2:1<=P)(h3:0<=k)(hk:k<P)(hP:P<=4398046511104)(h4:M<=4398046511104)(h5:M*sa<=4398046511104)(hL:0<=L)(hL2:L<=4398046511104):
  ∃c,Kq X Y Z sa P M L k=some c/\(dI c=false↔∃j,L<=j/\j<=M/\P∣j-k):=by
 unfold Kq
 rw[fA,fA]
 by_cases c:k<L
 ·have q0:0<=(L-k+P-1)/P:=Int.ediv_nonneg (by omega) (by omega)
  have q2:(L-k+P-1)/P*P<=L-k+P-1:=Int.ediv_mul_le _ (by omega)
  have q1:(L-k+P-1)/P<=L-k+P-1:=Int.ediv_le_self _ (by omega)
  have q3:0<=(L-k+P-1)/P*P:=Int.mul_nonneg q0 (by omega)
  have q4:=Int.lt_ediv_add_one_mul_self (L-k+P-1) (show 0<P by omega)
  rw[Int.add_mul,Int.one_mul]at q4
  rw[decide_eq_true c,cond_true,fA,aF (n:=L-k),aF (n:=L-k+P),aF (n:=L-k+P-1),iK,aF (n:=(L-k+P-1)/P),aF (n:=(L-k+P-1)/P*P),aF (n:=k+(L-k+P-1)/P*P)]
  obtain⟨r,e,hr⟩:=AN (X:=X) (Y:=Y) (Z:=Z) (K:=k+(L-k+P-1)/P*P) h1 h2 (by omega) h4 h5
  refine⟨r,e,?_⟩
  rw[hr]
  constructor
  ·intro hd
   have:=of_decide_eq_false hd
   exact⟨k+(L-k+P-1)/P*P,by omega,by omega,by rw[show k+(L-k+P-1)/P*P-k=(L-k+P-1)/P*P by omega];exact Int.dvd_mul_left ..⟩
  ·rintro⟨j,j1,j2,t,j3⟩
   rw[Int.mul_comm]at j3
   refine decide_eq_false ?_
   have:(L-k+P-1)/P<=t:=by
    have:(L-k+P-1)/P<t+1:=Int.lt_of_mul_lt_mul_right (a:=P) (by rw[Int.add_mul,Int.one_mul];omega) (by omega)
    omega
   have:=Int.mul_le_mul_of_nonneg_right this (show 0<=P by omega)
   omega
 ·rw[decide_eq_false c,cond_false]
  obtain⟨r,e,hr⟩:=AN (X:=X) (Y:=Y) (Z:=Z) (K:=k) h1 h2 h3 h4 h5
  refine⟨r,e,?_⟩
  rw[hr]
  constructor
  ·intro hd
   have:=of_decide_eq_false hd
   exact⟨k,by omega,by omega,⟨0,by omega⟩⟩
  ·rintro⟨j,j1,j2,t,j3⟩
   rw[Int.mul_comm]at j3
   refine decide_eq_false ?_
   have:0<=t:=Decidable.byContradiction fun h=>by
    have:t*P<= -1*P:=Int.mul_le_mul_of_nonneg_right (by omega) (by omega)
    omega
   have:=Int.mul_nonneg this (show 0<=P by omega)
   omega
theorem jB{a b:aD}(ha:NN a)(hb:NN b)(h1:1<=a.ag)(x:Int):(bz a x/\bz b x)↔∃j:Int,x=a.aa+j*a.ag/\max a.aa b.aa<=x/\x<=min a.af b.af/\b.ag∣j*a.ag-(b.aa-a.aa):=by
 constructor
 ·rintro⟨⟨x1,x2,j,x3⟩,⟨z1,z2,z3⟩⟩
  rw[Int.mul_comm]at x3
  exact⟨j,by omega,by omega,by omega,by rw[<-x3,show x-a.aa-(b.aa-a.aa)=x-b.aa by omega];exact z3⟩
 ·rintro⟨j,e,h2,h3,h4⟩
  refine⟨⟨by omega,by omega,⟨j,by rw[Int.mul_comm];omega⟩⟩,⟨by omega,by omega,?_⟩⟩
  rw[show x-b.aa=j*a.ag-(b.aa-a.aa)by omega]
  exact h4
theorem kM{lo s x low high j:Int}(hs:1<=s)(hl:lo<=low)(hx:x=lo+j*s):(low<=x/\x<=high)↔((low-lo+s-1)/s<=j/\j<=(high-lo)/s):=by
 have q2:(low-lo+s-1)/s*s<=low-lo+s-1:=Int.ediv_mul_le _ (by omega)
 have q4:=Int.lt_ediv_add_one_mul_self (low-lo+s-1) (show 0<s by omega)
 rw[Int.add_mul,Int.one_mul]at q4
 constructor
 ·rintro⟨h1,h2⟩
  refine⟨?_,Int.le_ediv_of_mul_le (by omega) (by omega)⟩
  have:(low-lo+s-1)/s<j+1:=Int.lt_of_mul_lt_mul_right (a:=s) (by rw[Int.add_mul,Int.one_mul];omega) (by omega)
  omega
 ·rintro⟨h1,h2⟩
  have k1:=Int.mul_le_mul_of_nonneg_right h1 (show 0<=s by omega)
  have k2:j*s<=high-lo:=Int.le_trans (Int.mul_le_mul_of_nonneg_right h2 (by omega)) (Int.ediv_mul_le _ (by omega))
  exact⟨by omega,by omega⟩
theorem WW{a b:aD}(ha:NN a)(hb:NN b)(h1:1<=a.ag)(h2:1<=b.ag):∃c,WB a b=some c/\(dI c=false↔∃x,bz a x/\bz b x):=by
 have a1:=ha.lo
 have a2:=ha.hi
 have a3:=ha.le
 have a4:=ha.sle
 have b1:=hb.lo
 have b2:=hb.hi
 have b3:=hb.le
 have b4:=hb.sle
 have g0:=jT a.ag b.ag
 have gl:=iJ a.ag b.ag
 have gr:=nM a.ag b.ag
 have gpos:1<=bJ a.ag b.ag:=by
  rcases (show bJ a.ag b.ag=0\/1<=bJ a.ag b.ag by omega)with z|z
  ·rw[z]at gl
   have:=Int.zero_dvd.mp gl
   omega
  ·exact z
 have hcop:Int.gcd (a.ag/bJ a.ag b.ag) (b.ag/bJ a.ag b.ag)=1:=Int.gcd_ediv_gcd_ediv_gcd (show 0<Int.gcd a.ag b.ag by unfold bJ at gpos;omega)
 unfold WB
 rw[yZ (by omega) (by omega)]
 simp only
 generalize bJ a.ag b.ag=g at*
 rw[show (if b.af<a.af then b.af else a.af)=min a.af b.af by split<;>omega,show (if a.aa<b.aa then b.aa else a.aa)=max a.aa b.aa by split<;>omega]
 by_cases c1:min a.af b.af<max a.aa b.aa
 ·rw[decide_eq_true c1]
  refine⟨bS,rfl,?_⟩
  rw[gD]
  exact⟨fun k=>(by cases k),fun⟨x,x1,x2⟩=>by have:=x1.1;have:=x1.2.1;have:=x2.1;have:=x2.2.1;omega⟩
 ·rw[decide_eq_false c1,cond_false,if_pos (show ¬@Eq Int g 0 by omega),aF (n:=b.aa-a.aa)]
  simp only
  by_cases c2:(b.aa-a.aa).tmod g=0
  ·rw[decide_eq_true c2]
   simp only[cond_true,cond_false]
   have eA:i64.wrap (a.ag.tdiv g)=a.ag/g:=by
    have:=Int.ediv_le_self (a:=a.ag) g (by omega)
    have:=Int.ediv_nonneg (a:=a.ag) (b:=g) (by omega) (by omega)
    rw[iK,aF]
   have eP:i64.wrap (b.ag.tdiv g)=b.ag/g:=by
    have:=Int.ediv_le_self (a:=b.ag) g (by omega)
    have:=Int.ediv_nonneg (a:=b.ag) (b:=g) (by omega) (by omega)
    rw[iK,aF]
   have mA:a.ag/g*g=a.ag:=Int.ediv_mul_cancel gl
   have mP:b.ag/g*g=b.ag:=Int.ediv_mul_cancel gr
   have hA0:0<=a.ag/g:=Int.ediv_nonneg (by omega) (by omega)
   have hA1:a.ag/g<=a.ag:=Int.ediv_le_self _ (by omega)
   have hP1:b.ag/g<=b.ag:=Int.ediv_le_self _ (by omega)
   have hP0:1<=b.ag/g:=by
    have:0<=b.ag/g:=Int.ediv_nonneg (by omega) (by omega)
    rcases (show b.ag/g=0\/1<=b.ag/g by omega)with z|z
    ·rw[z,Int.zero_mul]at mP;omega
    ·exact z
   rw[eA,eP]
   obtain⟨D,hD⟩:=Int.dvd_of_tmod_eq_zero c2
   have eD:(b.aa-a.aa).tdiv g=D:=by rw[hD];exact Int.mul_tdiv_cancel_left _ (by omega)
   have dnat:D.natAbs<=(b.aa-a.aa).natAbs:=by rw[<-eD,Int.natAbs_tdiv];exact Nat.div_le_self _ _
   rw[eD]
   generalize a.ag/g=A at*
   generalize b.ag/g=P at*
   have el:i64.wrap (i64.wrap (i64.wrap (max a.aa b.aa-a.aa)+a.ag)-1)=max a.aa b.aa-a.aa+a.ag-1:=by
    rw[aF (n:=max a.aa b.aa-a.aa),aF (n:=max a.aa b.aa-a.aa+a.ag),aF]
   have l0:0<=(max a.aa b.aa-a.aa+a.ag-1)/a.ag:=Int.ediv_nonneg (by omega) (by omega)
   have l1:(max a.aa b.aa-a.aa+a.ag-1)/a.ag<=max a.aa b.aa-a.aa+a.ag-1:=Int.ediv_le_self _ (by omega)
   have h0:0<=(min a.af b.af-a.aa)/a.ag:=Int.ediv_nonneg (by omega) (by omega)
   have hh1:(min a.af b.af-a.aa)/a.ag<=min a.af b.af-a.aa:=Int.ediv_le_self _ (by omega)
   have hh2:(min a.af b.af-a.aa)/a.ag*a.ag<=min a.af b.af-a.aa:=Int.ediv_mul_le _ (by omega)
   rw[el,aF (n:=min a.af b.af-a.aa),iK (a:=max a.aa b.aa-a.aa+a.ag-1) (by omega),iK (a:=min a.af b.af-a.aa) (by omega),
    aF (n:=(max a.aa b.aa-a.aa+a.ag-1)/a.ag),aF (n:=(min a.af b.af-a.aa)/a.ag)]
   have cm:∀k,P∣k*A-D↔b.ag∣k*a.ag-(b.aa-a.aa):=fun k=>by
    have e:k*a.ag-(b.aa-a.aa)=(k*A-D)*g:=by rw[hD,<-mA,Int.sub_mul,Int.mul_assoc,Int.mul_comm D g]
    rw[e,<-mP]
    exact⟨fun h=>Int.mul_dvd_mul_right _ h,fun h=>Int.dvd_of_mul_dvd_mul_right (by omega) h⟩
   have fin:∀k0,(∀k,P∣k*A-D↔P∣k-k0)->((∃j,(max a.aa b.aa-a.aa+a.ag-1)/a.ag<=j/\j<=(min a.af b.af-a.aa)/a.ag/\P∣j-k0)↔∃x,bz a x/\bz b x):=fun k0 hk=>by
    constructor
    ·rintro⟨j,j1,j2,j3⟩
     have r:=(kM (lo:=a.aa) (s:=a.ag) (low:=max a.aa b.aa) (high:=min a.af b.af) (j:=j) h1 (by omega) rfl).mpr ⟨j1,j2⟩
     exact⟨_,(jB ha hb h1 _).mpr ⟨j,rfl,r.1,r.2,(cm j).mp ((hk j).mpr j3)⟩⟩
    ·rintro⟨x,hx⟩
     obtain⟨j,e,x1,x2,x3⟩:=(jB ha hb h1 x).mp hx
     have r:=(kM (lo:=a.aa) (s:=a.ag) (low:=max a.aa b.aa) (high:=min a.af b.af) (j:=j) h1 (by omega) e).mp ⟨x1,x2⟩
     exact⟨j,r.1,r.2,(hk j).mp ((cm j).mpr x3)⟩
   rw[if_pos (show ¬@Eq Int g 0 by omega)]
   by_cases c3:1<P
   ·rw[decide_eq_true c3,cond_true,if_pos (show ¬@Eq Int g 0 by omega),fA,fA,if_pos (show ¬@Eq Int g 0 by omega),fA]
    have m0:=Int.emod_nonneg A (b:=P) (by omega)
    have m1:=Int.emod_lt_of_pos A (b:=P) (by omega)
    have hg:Int.gcd (A%P) P=1:=by
     have:=n9 (a:=A) (b:=P) hA0 (by omega)
     rw[iZ hA0]at this
     rw[Int.gcd_comm,this,hcop]
    obtain⟨v,e1,v0,v1,v2⟩:=U1 (x:=A%P) (m:=P) m0 (by omega) (by omega) hg
    rw[iZ hA0,e1]
    simp only
    obtain⟨f1,f2,f3,f4⟩:=Tl (x:=D) (m:=P) (by omega)
    have d0:=Int.emod_nonneg D (b:=P) (by omega)
    have d1:=Int.emod_lt_of_pos D (b:=P) (by omega)
    rw[aF (n:=D),aF (n:=D.tmod P+P),f1,aez d0 d1 v0 v1 (by omega)]
    simp only
    have k0:=Int.emod_nonneg (D%P*v) (b:=P) (by omega)
    have k1:=Int.emod_lt_of_pos (D%P*v) (b:=P) (by omega)
    have vA:P∣v*A-1:=by
     have e:=Int.mul_ediv_add_emod A P
     have t:v*A-1=v*(A%P)-1+P*(v*(A/P)):=by
      conv=>lhs;rw[<-e]
      rw[Int.mul_add,Int.mul_left_comm v P]
      omega
     rw[t]
     exact Int.dvd_add v2 (Int.dvd_mul_right ..)
    have hk:∀k,P∣k*A-D↔P∣k-D%P*v%P:=fun k=>by
     have e1:P∣D*v-D%P*v%P:=by
      have t1:=Int.mul_ediv_add_emod (D%P*v) P
      have t2:=Int.mul_ediv_add_emod D P
      have:D*v-D%P*v%P=P*(D/P*v)+P*(D%P*v/P):=by
       have:D*v=P*(D/P*v)+D%P*v:=by
        conv=>lhs;rw[<-t2]
        rw[Int.add_mul,Int.mul_assoc]
       omega
      rw[this]
      exact Int.dvd_add (Int.dvd_mul_right ..) (Int.dvd_mul_right ..)
     constructor
     ·intro h
      have t:=Int.dvd_sub (Int.dvd_trans h (Int.dvd_mul_right _ v)) (Int.dvd_trans vA (Int.dvd_mul_right _ k))
      have t2:(k*A-D)*v-(v*A-1)*k=k-D*v:=by
       rw[Int.sub_mul,Int.sub_mul,Int.one_mul,Int.mul_assoc,Int.mul_comm (v*A) k,Int.mul_comm A v]
       omega
      rw[t2]at t
      have:=Int.dvd_add t e1
      rwa [show k-D*v+(D*v-D%P*v%P)=k-D%P*v%P by omega]at this
     ·intro h
      have t:=Int.dvd_sub h e1
      rw[show k-D%P*v%P-(D*v-D%P*v%P)=k-D*v by omega]at t
      have t2:=Int.dvd_add (Int.dvd_trans t (Int.dvd_mul_right _ A)) (Int.dvd_trans vA (Int.dvd_mul_right _ D))
      have t3:(k-D*v)*A+(v*A-1)*D=k*A-D:=by
       rw[Int.sub_mul,Int.sub_mul,Int.one_mul,Int.mul_assoc,Int.mul_comm (v*A) D]
       omega
      rwa [t3]at t2
    obtain⟨c,e,hc⟩:=xE (X:=fun K=>i64.wrap (a.aa+i64.wrap (K*a.ag))) (Y:=fun K=>i64.wrap (a.aa+i64.wrap (K*a.ag))) (Z:=fun K=>i64.wrap (a.aa+i64.wrap (i64.wrap (K+i64.wrap (i64.wrap ((i64.wrap ((min a.af b.af-a.aa)/a.ag-K)).tdiv P)*P))*a.ag)))
     h1 hP0 k0 k1 (by omega) (M:=(min a.af b.af-a.aa)/a.ag) (by omega) (by omega) l0 (by omega)
    exact⟨c,e,hc.trans (fin _ hk)⟩
   ·have p1:P=1:=by omega
    rw[decide_eq_false c3,cond_false]
    obtain⟨c,e,hc⟩:=xE (X:=fun K=>i64.wrap (a.aa+i64.wrap (K*a.ag))) (Y:=fun K=>i64.wrap (a.aa+i64.wrap (K*a.ag))) (Z:=fun K=>i64.wrap (a.aa+i64.wrap (i64.wrap (K+i64.wrap (i64.wrap ((i64.wrap ((min a.af b.af-a.aa)/a.ag-K)).tdiv P)*P))*a.ag)))
     h1 hP0 (k:=0) (by omega) (by omega) (by omega) (M:=(min a.af b.af-a.aa)/a.ag) (by omega) (by omega) l0 (by omega)
    exact⟨c,e,hc.trans (fin 0 fun k=>by subst p1;exact⟨fun _=>Int.one_dvd _,fun _=>Int.one_dvd _⟩)⟩
  ·rw[decide_eq_false c2]
   refine⟨bS,rfl,?_⟩
   rw[gD]
   refine⟨fun k=>(by cases k),fun⟨x,hx⟩=> ?_⟩
   obtain⟨j,e,x1,x2,x3⟩:=(jB ha hb h1 x).mp hx
   exfalso
   apply c2
   have k1:=Int.dvd_trans gr x3
   have k2:=Int.dvd_sub (Int.dvd_trans gl (Int.dvd_mul_left j _)) k1
   rw[show j*a.ag-(j*a.ag-(b.aa-a.aa))=b.aa-a.aa by omega]at k2
   exact Int.tmod_eq_zero_of_dvd k2
end Go.Proofs.YtnfljbehcffmcaaGreat
end
noncomputable section
namespace Go.Proofs.YtnfljbehcffmcaaGreat
open Go Go.Iv
theorem yb{a:aD}(h:NN a)(h0:a.ag=0)(x:Int):bz a x↔x=a.aa:=by
 constructor
 ·rintro⟨h1,h2,h3⟩
  rw[h0]at h3
  have:=Int.zero_dvd.mp h3
  omega
 ·rintro rfl
  exact cu h
theorem xY{M:aD->aD->Option aD}{a b:aD}(ha:NN a)(hb:NN b)(h0:a.ag=0):∃c,sj M a b=some c/\(dI c=false↔∃x,bz a x/\bz b x):=by
 unfold sj
 rw[cY ha.ne,cY hb.ne]
 simp only[cond_false]
 rw[decide_eq_true h0,cond_true,A7 (.inr hb)]
 simp only
 by_cases h:bz b a.aa
 ·rw[ko h]
  exact⟨a,rfl,fun _=>⟨_,cu ha,h⟩,fun _=>cY ha.ne⟩
 ·rw[gP h]
  refine⟨bS,rfl,fun k=> ?_,fun⟨x,h1,h2⟩=> ?_⟩
  ·rw[gD]at k;cases k
  ·rw[(yb ha h0 x).mp h1]at h2
   exact absurd h2 h
theorem Zl{a b:aD}(ha:NN a)(hb:NN b):∃c,YH a b=some c/\(dI c=false↔∃x,bz a x/\bz b x):=by
 have cm:(∃x,bz b x/\bz a x)↔∃x,bz a x/\bz b x:=⟨fun⟨x,h1,h2⟩=>⟨x,h2,h1⟩,fun⟨x,h1,h2⟩=>⟨x,h2,h1⟩⟩
 have s0:=ha.s0
 have t0:=hb.s0
 by_cases h0:a.ag=0
 ·obtain⟨c,e,h⟩:=xY (M:=fun _ _=>none) ha hb h0
  refine⟨c,cZ 1 fun n hn=> ?_,h⟩
  obtain⟨k,rfl⟩:∃k,n=k+1:=⟨n-1,by omega⟩
  obtain⟨c',e',h'⟩:=xY (M:=vD k) ha hb h0
  have:sj (vD k) a b=sj (fun _ _=>none) a b:=by
   unfold sj
   rw[cY ha.ne,cY hb.ne]
   simp only[cond_false]
   rw[decide_eq_true h0]
   simp only[cond_true]
  exact this.trans e
 ·by_cases k0:b.ag=0
  ·obtain⟨c,e,h⟩:=xY (M:=fun _ _=>none) hb ha k0
   refine⟨c,cZ 2 fun n hn=> ?_,h.trans cm⟩
   obtain⟨k,rfl⟩:∃k,n=k+1+1:=⟨n-2,by omega⟩
   have:sj (vD k) b a=sj (fun _ _=>none) b a:=by
    unfold sj
    rw[cY ha.ne,cY hb.ne]
    simp only[cond_false]
    rw[decide_eq_true k0]
    simp only[cond_true]
   have e1:vD (k+1) b a=some c:=this.trans e
   show sj (vD (k+1)) a b=some c
   unfold sj
   rw[cY ha.ne,cY hb.ne]
   simp only[cond_false]
   rw[decide_eq_false h0,cond_false,decide_eq_true k0,cond_true,e1]
  ·obtain⟨c,e,h⟩:=WW ha hb (by omega) (by omega)
   refine⟨c,cZ 1 fun n hn=> ?_,h⟩
   obtain⟨k,rfl⟩:∃k,n=k+1:=⟨n-1,by omega⟩
   show sj (vD k) a b=some c
   unfold sj
   rw[cY ha.ne,cY hb.ne]
   simp only[cond_false]
   rw[decide_eq_false h0,cond_false,decide_eq_false k0,cond_false,e]
theorem Mv{a:aD}(h:NN a)(k:1<cA a):1<=a.ag:=by
 have:=iM h
 have:=h.le
 rcases h.st with ⟨e,_⟩|⟨_,e,_⟩
 ·have:=(iM h).mpr e;omega
 ·exact e
theorem early{a b:aD}(ha:NN a)(hb:NN b)(h1:1<=a.ag)(h2:1<=b.ag){low high:Int}(el:low=max a.aa b.aa)(eh:high=min a.af b.af):
  (∃x,bz a x/\bz b x)↔∃k:Nat,(k:Int)<b.ag/bJ a.ag b.ag/\a.aa+((low-a.aa+a.ag-1)/a.ag)*a.ag+(k:Int)*a.ag<=high/\bz b (a.aa+((low-a.aa+a.ag-1)/a.ag)*a.ag+(k:Int)*a.ag):=by
 have gl:=iJ a.ag b.ag
 have gr:=nM a.ag b.ag
 have g0:=jT a.ag b.ag
 have mP:b.ag/bJ a.ag b.ag*bJ a.ag b.ag=b.ag:=Int.ediv_mul_cancel gr
 have gpos:1<=bJ a.ag b.ag:=by
  rcases (show bJ a.ag b.ag=0\/1<=bJ a.ag b.ag by omega)with z|z
  ·rw[z]at gl
   have:=Int.zero_dvd.mp gl
   omega
  ·exact z
 have hP0:1<=b.ag/bJ a.ag b.ag:=by
  have:0<=b.ag/bJ a.ag b.ag:=Int.ediv_nonneg (by omega) (by omega)
  rcases (show b.ag/bJ a.ag b.ag=0\/1<=b.ag/bJ a.ag b.ag by omega)with z|z
  ·rw[z,Int.zero_mul]at mP;omega
  ·exact z
 have per:b.ag∣b.ag/bJ a.ag b.ag*a.ag:=by
  obtain⟨q,hq⟩:=gl
  generalize bJ a.ag b.ag=g at*
  rw[hq,<-Int.mul_assoc,mP]
  exact Int.dvd_mul_right ..
 generalize b.ag/bJ a.ag b.ag=P at*
 subst el eh
 generalize hL:(max a.aa b.aa-a.aa+a.ag-1)/a.ag=L
 constructor
 ·rintro⟨x,hx⟩
  obtain⟨j,e,x1,x2,x3⟩:=(jB ha hb h1 x).mp hx
  have r:=(kM (lo:=a.aa) (s:=a.ag) (low:=max a.aa b.aa) (high:=min a.af b.af) (j:=j) h1 (by omega) e).mp ⟨x1,x2⟩
  rw[hL]at r
  have m0:=Int.emod_nonneg (j-L) (b:=P) (by omega)
  have m1:=Int.emod_lt_of_pos (j-L) (b:=P) (by omega)
  have m2:=Int.mul_ediv_add_emod (j-L) P
  have q0:0<=(j-L)/P:=Int.ediv_nonneg (by omega) (by omega)
  have ex:a.aa+L*a.ag+(j-L)%P*a.ag=x-(j-L)/P*(P*a.ag):=by
   have:j*a.ag=(P*((j-L)/P)+(j-L)%P+L)*a.ag:=by congr 1;omega
   rw[Int.add_mul,Int.add_mul,Int.mul_comm P,Int.mul_assoc]at this
   omega
  have hp:0<=(j-L)/P*(P*a.ag):=Int.mul_nonneg q0 (Int.mul_nonneg (by omega) (by omega))
  have r2:=(kM (lo:=a.aa) (s:=a.ag) (low:=max a.aa b.aa) (high:=min a.af b.af) (x:=a.aa+(L+(j-L)%P)*a.ag) (j:=L+(j-L)%P) h1 (by omega) rfl).mpr
   ⟨by rw[hL];omega,by
    have:(j-L)%P<=j-L:=by
     have:=Int.mul_nonneg (show 0<=P by omega) q0
     omega
    omega⟩
  rw[Int.add_mul,<-Int.add_assoc]at r2
  refine⟨((j-L)%P).toNat,by omega,?_⟩
  rw[Int.toNat_of_nonneg m0]
  refine⟨r2.2,by omega,by omega,?_⟩
  rw[ex,show x-(j-L)/P*(P*a.ag)-b.aa=x-b.aa-(j-L)/P*(P*a.ag)by omega]
  exact Int.dvd_sub hx.2.2.2 (Int.dvd_trans per (Int.dvd_mul_left ..))
 ·rintro⟨k,k1,k2,k3⟩
  have e:a.aa+L*a.ag+(k:Int)*a.ag=a.aa+(L+(k:Int))*a.ag:=by rw[Int.add_mul];omega
  rw[e]at k2 k3
  have l0:=(kM (lo:=a.aa) (s:=a.ag) (low:=max a.aa b.aa) (high:=a.aa+(L+(k:Int))*a.ag) (x:=a.aa+(L+(k:Int))*a.ag) (j:=L+(k:Int)) h1 (by omega) rfl).mpr
   ⟨by rw[hL];omega,by rw[show a.aa+(L+(k:Int))*a.ag-a.aa=(L+(k:Int))*a.ag by omega,Int.mul_ediv_cancel _ (by omega)];exact Int.le_refl _⟩
  exact⟨_,(jB ha hb h1 _).mpr ⟨_,rfl,l0.1,k2,by
   have:=k3.2.2
   rwa [show a.aa+(L+(k:Int))*a.ag-b.aa=(L+(k:Int))*a.ag-(b.aa-a.aa)by omega]at this⟩⟩
end Go.Proofs.YtnfljbehcffmcaaGreat
end
noncomputable section
namespace Go.Proofs.YtnfljbehcffmcaaGreat
open Go Go.Iv
open Go.IntKind (i64)
theorem Jg{g P k n high sb:Int}(hg:1<=g)(hP:i64.wrap (sb.tdiv g)=P):(if¬g=(0:Int)then bif decide (k<i64.wrap (sb.tdiv g))then some (decide (n<=high))else some false else none)=some (decide (k<P/\n<=high)):=by
 rw[fA,hP]
 by_cases c:k<P
 ·rw[decide_eq_true c,cond_true]
  by_cases d:n<=high
  ·rw[decide_eq_true d,decide_eq_true ⟨c,d⟩]
  ·rw[decide_eq_false d,decide_eq_false (fun e=>d e.2)]
 ·rw[decide_eq_false c,cond_false,decide_eq_false (fun e=>c e.1)]
theorem Ub{M:aD->aD->Option Bool}{a b:aD}(hb:NN b){g P high n0:Int}(hg:1<=g)(hP:i64.wrap (b.ag.tdiv g)=P)(hP1:P<=4398046511104)(hs:1<=a.ag)(hs2:a.ag<=4398046511104)(hh:high<=1099511627776)(hn: -1099511627776<=n0)(hP0:0<=P):
  (match mc M (gd.mk high g n0 0 a b)with
   |none=>none
   |some r10=>match if¬r10.t7=(0:Int)then bif decide (r10.t9<i64.wrap (r10.b1.ag.tdiv r10.t7))then some (decide (r10.t8<=r10.t6))else some false else none with
    |none=>none
    |some r11=>bif r11 then match m32 r10.b1 r10.t8 with
     |none=>none
     |some r12=>bif r12 then some true else none
     else some false)=some (open Classical in decide (∃k:Nat,(k:Int)<P/\n0+(k:Int)*a.ag<=high/\bz b (n0+(k:Int)*a.ag))):=by
 obtain⟨z,e1,⟨k,rfl,hk,hI⟩,hstop⟩:=jN (rnd:=ve M) (fun p=>∃k:Nat,p=gd.mk high g (n0+(k:Int)*a.ag) (k:Int) a b/\(k:Int)<=P/\∀i:Nat,i<k->¬bz b (n0+(i:Int)*a.ag))
  (fun p=>(P-p.t9).toNat) (fun p p' ⟨k,hp,hk,hI⟩ hq=>by
   subst hp
   have hq:ve M (gd.mk high g (n0+(k:Int)*a.ag) (k:Int) a b)=some (some p'):=hq
   unfold ve at hq
   simp only at hq
   rw[Jg hg hP]at hq
   by_cases c:(k:Int)<P/\n0+(k:Int)*a.ag<=high
   ·rw[decide_eq_true c]at hq
    simp only[cond_true]at hq
    rw[lV (.inr hb)]at hq
    simp only at hq
    by_cases d:bz b (n0+(k:Int)*a.ag)
    ·rw[ko d]at hq;cases hq
    ·rw[gP d]at hq
     have k0:0<=(k:Int)*a.ag:=Int.mul_nonneg (by omega) (by omega)
     rw[cond_false,aF (n:=n0+(k:Int)*a.ag+a.ag),aF (n:=(k:Int)+1)]at hq
     simp only[Option.some.injEq]at hq
     subst hq
     refine⟨⟨k+1,?_,by omega,fun i hi=> ?_⟩,by show (P-((k:Int)+1)).toNat<(P-(k:Int)).toNat;omega⟩
     ·rw[show ((k+1:Nat):Int)=(k:Int)+1 by omega,Int.add_mul,Int.one_mul,Int.add_assoc]
     ·rcases Nat.lt_succ_iff_lt_or_eq.mp hi with q|rfl
      ·exact hI i q
      ·exact d
   ·rw[decide_eq_false c]at hq
    cases hq) (p:=gd.mk high g n0 0 a b) ⟨0,by simp,by simpa using hP0,fun i hi=>absurd hi (Nat.not_lt_zero _)⟩
 rw[show mc M=bt (ve M)from rfl,e1]
 simp only
 rw[Jg hg hP]
 by_cases c:(k:Int)<P/\n0+(k:Int)*a.ag<=high
 ·rw[decide_eq_true c]
  simp only[cond_true]
  rw[lV (.inr hb)]
  simp only
  by_cases d:bz b (n0+(k:Int)*a.ag)
  ·rw[ko d,cond_true]
   congr 1
   exact(@decide_eq_true _ (Classical.propDecidable _) ⟨k,c.1,c.2,d⟩).symm
  ·exfalso
   refine hstop (gd.mk high g (i64.wrap (n0+(k:Int)*a.ag+a.ag)) (i64.wrap ((k:Int)+1)) a b) ?_
   unfold ve
   simp only
   rw[Jg hg hP,decide_eq_true c]
   simp only[cond_true]
   rw[lV (.inr hb),gP d]
   rfl
 ·rw[decide_eq_false c]
  simp only[cond_false]
  congr 1
  refine(@decide_eq_false _ (Classical.propDecidable _) ?_).symm
  rintro⟨i,i1,i2,i3⟩
  rcases Nat.lt_or_ge i k with q|q
  ·exact hI i q i3
  ·apply c
   have:(k:Int)*a.ag<=(i:Int)*a.ag:=Int.mul_le_mul_of_nonneg_right (by omega) (by omega)
   exact⟨by omega,by omega⟩
def gm(a b:aD):Bool:=open Classical in decide (∃x,bz a x/\bz b x)
theorem gL{a b:aD}:gm a b=true↔∃x,bz a x/\bz b x:=by unfold gm;exact @decide_eq_true_iff _ (Classical.propDecidable _)
theorem mz{a b:aD}(h:¬∃x,bz a x/\bz b x):gm a b=false:=by
 cases e:gm a b with
 |false=>rfl
 |true=>exact absurd (gL.mp e) h
theorem It(a b:aD):gm a b=gm b a:=by
 by_cases h:∃x,bz a x/\bz b x
 ·obtain⟨x,h1,h2⟩:=h
  rw[gL.mpr ⟨x,h1,h2⟩,gL.mpr ⟨x,h2,h1⟩]
 ·rw[mz h,mz (fun⟨x,h1,h2⟩=>h ⟨x,h2,h1⟩)]
theorem wu{M:aD->aD->Option Bool}{a b:aD}(ha:NN a)(hb:NN b)(h1:1<=a.ag)(h2:1<=b.ag){low high:Int}(el:low=max a.aa b.aa)(eh:high=min a.af b.af):
  (match vM a.ag b.ag with
   |none=>none
   |some r8=>match bif decide (high<low)then some true else if¬r8=(0:Int)then some (bif decide (Int.tmod (gQ a.aa b.aa) r8=0)then false else true)else none with
    |none=>none
    |some r9=>bif r9 then some false else if¬a.ag=(0:Int)then
     match mc M (gd.mk high r8 (i64.wrap (a.aa+i64.wrap (i64.wrap ((i64.wrap (i64.wrap (i64.wrap (low-a.aa)+a.ag)-1)).tdiv a.ag)*a.ag))) 0 a b)with
     |none=>none
     |some r10=>match if¬r10.t7=(0:Int)then bif decide (r10.t9<i64.wrap (r10.b1.ag.tdiv r10.t7))then some (decide (r10.t8<=r10.t6))else some false else none with
      |none=>none
      |some r11=>bif r11 then match m32 r10.b1 r10.t8 with
       |none=>none
       |some r12=>bif r12 then some true else none
       else some false
     else none)=some (gm a b):=by
 have a1:=ha.lo
 have a2:=ha.hi
 have a3:=ha.le
 have a4:=ha.sle
 have b1:=hb.lo
 have b2:=hb.hi
 have b3:=hb.le
 have b4:=hb.sle
 have gl:=iJ a.ag b.ag
 have gr:=nM a.ag b.ag
 have g0:=jT a.ag b.ag
 have gpos:1<=bJ a.ag b.ag:=by
  rcases (show bJ a.ag b.ag=0\/1<=bJ a.ag b.ag by omega)with z|z
  ·rw[z]at gl
   have:=Int.zero_dvd.mp gl
   omega
  ·exact z
 have hE:=early ha hb h1 h2 el eh
 rw[v8 (by omega) (by omega)]
 simp only
 by_cases c1:high<low
 ·rw[decide_eq_true c1,mz (fun⟨x,x1,x2⟩=>by have:=x1.1;have:=x1.2.1;have:=x2.1;have:=x2.2.1;omega)]
  rfl
 ·rw[decide_eq_false c1,cond_false,if_pos (show ¬@Eq Int (bJ a.ag b.ag) 0 by omega)]
  simp only
  by_cases c2:Int.tmod (gQ a.aa b.aa) (bJ a.ag b.ag)=0
  ·rw[decide_eq_true c2]
   simp only[cond_true,cond_false]
   have l1:(low-a.aa+a.ag-1)/a.ag<=low-a.aa+a.ag-1:=Int.ediv_le_self _ (by omega)
   have l0:0<=(low-a.aa+a.ag-1)/a.ag:=Int.ediv_nonneg (by omega) (by omega)
   have l2:(low-a.aa+a.ag-1)/a.ag*a.ag<=low-a.aa+a.ag-1:=Int.ediv_mul_le _ (by omega)
   have l3:0<=(low-a.aa+a.ag-1)/a.ag*a.ag:=Int.mul_nonneg l0 (by omega)
   have p0:0<=b.ag/bJ a.ag b.ag:=Int.ediv_nonneg (by omega) (by omega)
   have p1:b.ag/bJ a.ag b.ag<=b.ag:=Int.ediv_le_self _ (by omega)
   have eP:i64.wrap (b.ag.tdiv (bJ a.ag b.ag))=b.ag/bJ a.ag b.ag:=by
    rw[iK,aF]
   rw[fA,aF (n:=low-a.aa),aF (n:=low-a.aa+a.ag),aF (n:=low-a.aa+a.ag-1),iK,
    aF (n:=(low-a.aa+a.ag-1)/a.ag),aF (n:=(low-a.aa+a.ag-1)/a.ag*a.ag),aF (n:=a.aa+(low-a.aa+a.ag-1)/a.ag*a.ag)]
   refine(Ub hb gpos eP (by omega) h1 (by omega) (by omega) (by omega) p0).trans ?_
   congr 1
   by_cases h:∃x,bz a x/\bz b x
   ·rw[gL.mpr h]
    exact @decide_eq_true _ (Classical.propDecidable _) (hE.mp h)
   ·rw[mz h]
    exact @decide_eq_false _ (Classical.propDecidable _) (fun k=>h (hE.mpr k))
  ·have hno:¬∃x,bz a x/\bz b x:=by
    rintro⟨x,x1,x2⟩
    apply c2
    have k1:=Int.dvd_trans gl x1.2.2
    have k2:=Int.dvd_trans gr x2.2.2
    have k3:=Int.dvd_sub k2 k1
    rw[show x-b.aa-(x-a.aa)=a.aa-b.aa by omega]at k3
    apply Int.tmod_eq_zero_of_dvd
    obtain⟨r1,r2⟩:=ha.qc
    obtain⟨r3,r4⟩:=hb.qc
    unfold gQ
    by_cases c:a.aa<b.aa
    ·rw[decide_eq_true c,cond_true,aF]
     have:=Int.dvd_neg.mpr k3
     rwa [show-(a.aa-b.aa)=b.aa-a.aa by omega]at this
    ·rw[decide_eq_false c,cond_false,aF]
     exact k3
   rw[decide_eq_false c2,mz hno]
   rfl
theorem Kr{M:aD->aD->Option Bool}{a b:aD}(ha:NN a)(hb:NN b)(hs:cA a<=cA b):Nv M a b=some (gm a b):=by
 unfold Nv
 rw[eR (.inr ha),eR (.inr hb)]
 simp only
 rw[decide_eq_false (show ¬@LT.lt Int _ (cA b) (cA a)by omega),cond_false]
 have hp:=size_pos ha
 by_cases c:cA a=1
 ·rw[decide_eq_true c,cond_true,lV (.inr hb)]
  simp only
  congr 1
  have e:=(iM ha).mp c
  have s:a.ag=0:=by rcases ha.st with k|k;exact k.2;omega
  by_cases h:bz b a.aa
  ·rw[ko h,gL.mpr ⟨_,cu ha,h⟩]
  ·rw[gP h,mz (fun⟨x,x1,x2⟩=>h (by rw[<-(yb ha s x).mp x1];exact x2))]
 ·rw[decide_eq_false c,cond_false]
  have h1:=Mv ha (by omega)
  have h2:=Mv hb (by omega)
  by_cases d:a.aa<b.aa<;>by_cases e:b.af<a.af
  ·rw[decide_eq_true d,decide_eq_true e]
   exact wu ha hb h1 h2 (by omega) (by omega)
  ·rw[decide_eq_true d,decide_eq_false e]
   exact wu ha hb h1 h2 (by omega) (by omega)
  ·rw[decide_eq_false d,decide_eq_true e]
   exact wu ha hb h1 h2 (by omega) (by omega)
  ·rw[decide_eq_false d,decide_eq_false e]
   exact wu ha hb h1 h2 (by omega) (by omega)
theorem T9{a b:aD}(ha:NN a)(hb:NN b):Ra a b=some (gm a b):=cZ 2 fun n hn=>by
 obtain⟨k,rfl⟩:∃k,n=k+1+1:=⟨n-2,by omega⟩
 by_cases hs:cA a<=cA b
 ·exact Kr (M:=AE (k+1)) ha hb hs
 ·have e1:AE (k+1) b a=some (gm b a):=Kr (M:=AE k) hb ha (by omega)
  show Nv (AE (k+1)) a b=_
  unfold Nv
  rw[eR (.inr ha),eR (.inr hb)]
  simp only
  rw[decide_eq_true (show @LT.lt Int _ (cA b) (cA a)by omega),cond_true,e1,It]
end Go.Proofs.YtnfljbehcffmcaaGreat
end
noncomputable section
namespace Go.Proofs.YtnfljbehcffmcaaGreat
open Go Go.Iv
def ja(a b:aD):Bool:=decide (1<cA a)||decide (1<cA b)||decide (a.aa≠b.aa)
theorem pH{a:aD}(h:NN a)(k:¬1<cA a):a.aa=a.af:=(iM h).mp (by have:=size_pos h;omega)
theorem AR{a b:aD}(ha:NN a)(hb:NN b):ja a b=true↔∃x z,bz a x/\bz b z/\x≠z:=by
 have a3:=ha.le
 have b3:=hb.le
 unfold ja
 by_cases c1:1<cA a
 ·rw[decide_eq_true c1]
  refine⟨fun _=> ?_,fun _=>rfl⟩
  have:a.aa≠a.af:=fun e=>by have:=(iM ha).mpr e;omega
  by_cases e:a.aa=b.aa
  ·exact⟨_,_,eS ha,cu hb,by omega⟩
  ·exact⟨_,_,cu ha,cu hb,e⟩
 ·by_cases c2:1<cA b
  ·rw[decide_eq_false c1,decide_eq_true c2]
   refine⟨fun _=> ?_,fun _=>rfl⟩
   have:b.aa≠b.af:=fun e=>by have:=(iM hb).mpr e;omega
   by_cases e:a.aa=b.aa
   ·exact⟨_,_,cu ha,eS hb,by omega⟩
   ·exact⟨_,_,cu ha,cu hb,e⟩
  ·have e1:=pH ha c1
   have e2:=pH hb c2
   by_cases e:a.aa=b.aa
   ·rw[decide_eq_false c1,decide_eq_false c2,decide_eq_false (fun k=>k e)]
    exact⟨fun k=>(by cases k),fun⟨x,z,hx,hz,k⟩=>by have:=hx.1;have:=hx.2.1;have:=hz.1;have:=hz.2.1;omega⟩
   ·rw[decide_eq_false c1,decide_eq_false c2,decide_eq_true e]
    exact⟨fun _=>⟨_,_,cu ha,cu hb,e⟩,fun _=>rfl⟩
def sK(op:Int)(a b:aD):Bool×Bool:=
 if op=13 then(ja a b,gm a b)else if op=14 then(gm a b,ja a b)
 else if op=15 then(decide (b.aa<=a.af),decide (a.aa<b.af))else if op=16 then(decide (b.aa<a.af),decide (a.aa<=b.af))
 else if op=17 then(decide (a.aa<=b.af),decide (b.aa<a.af))else if op=18 then(decide (a.aa<b.af),decide (b.aa<=a.af))
 else if op=19 then(bZ a 0||bZ b 0,bO a&&bO b)else(bZ a 0&&bZ b 0,bO a||bO b)
def sB(op:Int):Prop:=13<=op/\op<=20
theorem nK(p:Bool):lI p=1↔p=true:=by cases p<;>decide
theorem oq(p:Bool):lI p=0↔p=false:=by cases p<;>decide
theorem gI{op:Int}(h:sB op):op=13\/op=14\/op=15\/op=16\/op=17\/op=18\/op=19\/op=20:=by
 obtain⟨h1,h2⟩:=h
 omega
theorem xZ{op:Int}(h:sB op)(x z:Int):dU op x z=0\/dU op x z=1:=by
 have k:∀p:Bool,lI p=0\/lI p=1:=fun p=>by cases p<;>decide
 rcases gI h with rfl|rfl|rfl|rfl|rfl|rfl|rfl|rfl<;>exact k _
theorem L6{op:Int}{a b:aD}(h:sB op)(ha:NN a)(hb:NN b):(sK op a b).2=true↔∃x z,bz a x/\bz b z/\dU op x z=1:=by
 rcases gI h with rfl|rfl|rfl|rfl|rfl|rfl|rfl|rfl
 ·show gm a b=true↔∃x z,bz a x/\bz b z/\lI (decide (x=z))=1
  rw[gL]
  exact⟨fun⟨x,h1,h2⟩=>⟨x,x,h1,h2,by rw[nK];exact decide_eq_true rfl⟩,fun⟨x,z,h1,h2,h3⟩=>by
   rw[nK]at h3
   have:=of_decide_eq_true h3
   subst this
   exact⟨x,h1,h2⟩⟩
 ·show ja a b=true↔∃x z,bz a x/\bz b z/\lI (!decide (x=z))=1
  rw[AR ha hb]
  exact⟨fun⟨x,z,h1,h2,h3⟩=>⟨x,z,h1,h2,by rw[nK,decide_eq_false h3];rfl⟩,fun⟨x,z,h1,h2,h3⟩=>⟨x,z,h1,h2,fun e=>by rw[nK,decide_eq_true e]at h3;cases h3⟩⟩
 ·show decide (a.aa<b.af)=true↔∃x z,bz a x/\bz b z/\lI (decide (x<z))=1
  refine⟨fun k=>⟨_,_,cu ha,eS hb,by rw[nK];exact k⟩,fun⟨x,z,h1,h2,h3⟩=> ?_⟩
  rw[nK]at h3
  have:=of_decide_eq_true h3
  exact decide_eq_true (by have:=h1.1;have:=h2.2.1;omega)
 ·show decide (a.aa<=b.af)=true↔∃x z,bz a x/\bz b z/\lI (decide (x<=z))=1
  refine⟨fun k=>⟨_,_,cu ha,eS hb,by rw[nK];exact k⟩,fun⟨x,z,h1,h2,h3⟩=> ?_⟩
  rw[nK]at h3
  have:=of_decide_eq_true h3
  exact decide_eq_true (by have:=h1.1;have:=h2.2.1;omega)
 ·show decide (b.aa<a.af)=true↔∃x z,bz a x/\bz b z/\lI (decide (z<x))=1
  refine⟨fun k=>⟨_,_,eS ha,cu hb,by rw[nK];exact k⟩,fun⟨x,z,h1,h2,h3⟩=> ?_⟩
  rw[nK]at h3
  have:=of_decide_eq_true h3
  exact decide_eq_true (by have:=h1.2.1;have:=h2.1;omega)
 ·show decide (b.aa<=a.af)=true↔∃x z,bz a x/\bz b z/\lI (decide (z<=x))=1
  refine⟨fun k=>⟨_,_,eS ha,cu hb,by rw[nK];exact k⟩,fun⟨x,z,h1,h2,h3⟩=> ?_⟩
  rw[nK]at h3
  have:=of_decide_eq_true h3
  exact decide_eq_true (by have:=h1.2.1;have:=h2.1;omega)
 ·show (bO a&&bO b)=true↔∃x z,bz a x/\bz b z/\lI (decide (x≠0/\z≠0))=1
  rw[Bool.and_eq_true,jJ (.inr ha),jJ (.inr hb)]
  constructor
  ·rintro⟨⟨x,h1,h2⟩,⟨z,h3,h4⟩⟩
   exact⟨x,z,h1,h3,by rw[nK];exact decide_eq_true ⟨h2,h4⟩⟩
  ·rintro⟨x,z,h1,h2,h3⟩
   rw[nK]at h3
   have:=of_decide_eq_true h3
   exact⟨⟨x,h1,this.1⟩,⟨z,h2,this.2⟩⟩
 ·show (bO a||bO b)=true↔∃x z,bz a x/\bz b z/\lI (decide (x≠0\/z≠0))=1
  rw[Bool.or_eq_true,jJ (.inr ha),jJ (.inr hb)]
  constructor
  ·rintro(⟨x,h1,h2⟩|⟨z,h3,h4⟩)
   ·exact⟨x,_,h1,cu hb,by rw[nK];exact decide_eq_true (.inl h2)⟩
   ·exact⟨_,z,cu ha,h3,by rw[nK];exact decide_eq_true (.inr h4)⟩
  ·rintro⟨x,z,h1,h2,h3⟩
   rw[nK]at h3
   rcases of_decide_eq_true h3 with k|k
   ·exact .inl ⟨x,h1,k⟩
   ·exact .inr ⟨z,h2,k⟩
theorem R5{op:Int}{a b:aD}(h:sB op)(ha:NN a)(hb:NN b):(sK op a b).1=true↔∃x z,bz a x/\bz b z/\dU op x z=0:=by
 rcases gI h with rfl|rfl|rfl|rfl|rfl|rfl|rfl|rfl
 ·show ja a b=true↔∃x z,bz a x/\bz b z/\lI (decide (x=z))=0
  rw[AR ha hb]
  exact⟨fun⟨x,z,h1,h2,h3⟩=>⟨x,z,h1,h2,by rw[oq];exact decide_eq_false h3⟩,fun⟨x,z,h1,h2,h3⟩=>⟨x,z,h1,h2,fun e=>by rw[oq,decide_eq_true e]at h3;cases h3⟩⟩
 ·show gm a b=true↔∃x z,bz a x/\bz b z/\lI (!decide (x=z))=0
  rw[gL]
  exact⟨fun⟨x,h1,h2⟩=>⟨x,x,h1,h2,by rw[oq,decide_eq_true rfl];rfl⟩,fun⟨x,z,h1,h2,h3⟩=>by
   rw[oq]at h3
   by_cases e:x=z
   ·subst e;exact⟨x,h1,h2⟩
   ·rw[decide_eq_false e]at h3;cases h3⟩
 ·show decide (b.aa<=a.af)=true↔∃x z,bz a x/\bz b z/\lI (decide (x<z))=0
  refine⟨fun k=>⟨_,_,eS ha,cu hb,by rw[oq];exact decide_eq_false (by have:=of_decide_eq_true k;omega)⟩,fun⟨x,z,h1,h2,h3⟩=> ?_⟩
  rw[oq]at h3
  have:=of_decide_eq_false h3
  exact decide_eq_true (by have:=h1.2.1;have:=h2.1;omega)
 ·show decide (b.aa<a.af)=true↔∃x z,bz a x/\bz b z/\lI (decide (x<=z))=0
  refine⟨fun k=>⟨_,_,eS ha,cu hb,by rw[oq];exact decide_eq_false (by have:=of_decide_eq_true k;omega)⟩,fun⟨x,z,h1,h2,h3⟩=> ?_⟩
  rw[oq]at h3
  have:=of_decide_eq_false h3
  exact decide_eq_true (by have:=h1.2.1;have:=h2.1;omega)
 ·show decide (a.aa<=b.af)=true↔∃x z,bz a x/\bz b z/\lI (decide (z<x))=0
  refine⟨fun k=>⟨_,_,cu ha,eS hb,by rw[oq];exact decide_eq_false (by have:=of_decide_eq_true k;omega)⟩,fun⟨x,z,h1,h2,h3⟩=> ?_⟩
  rw[oq]at h3
  have:=of_decide_eq_false h3
  exact decide_eq_true (by have:=h1.1;have:=h2.2.1;omega)
 ·show decide (a.aa<b.af)=true↔∃x z,bz a x/\bz b z/\lI (decide (z<=x))=0
  refine⟨fun k=>⟨_,_,cu ha,eS hb,by rw[oq];exact decide_eq_false (by have:=of_decide_eq_true k;omega)⟩,fun⟨x,z,h1,h2,h3⟩=> ?_⟩
  rw[oq]at h3
  have:=of_decide_eq_false h3
  exact decide_eq_true (by have:=h1.1;have:=h2.2.1;omega)
 ·show (bZ a 0||bZ b 0)=true↔∃x z,bz a x/\bz b z/\lI (decide (x≠0/\z≠0))=0
  rw[Bool.or_eq_true,kO,kO]
  constructor
  ·rintro(h1|h1)
   ·exact⟨0,_,h1,cu hb,by rw[oq];exact decide_eq_false (fun k=>k.1 rfl)⟩
   ·exact⟨_,0,cu ha,h1,by rw[oq];exact decide_eq_false (fun k=>k.2 rfl)⟩
  ·rintro⟨x,z,h1,h2,h3⟩
   rw[oq]at h3
   have:=of_decide_eq_false h3
   by_cases e:x=0
   ·subst e;exact .inl h1
   ·by_cases e2:z=0
    ·subst e2;exact .inr h2
    ·exact absurd ⟨e,e2⟩ this
 ·show (bZ a 0&&bZ b 0)=true↔∃x z,bz a x/\bz b z/\lI (decide (x≠0\/z≠0))=0
  rw[Bool.and_eq_true,kO,kO]
  constructor
  ·rintro⟨h1,h2⟩
   exact⟨0,0,h1,h2,by rw[oq];exact decide_eq_false (fun k=>k.elim (fun e=>e rfl) (fun e=>e rfl))⟩
  ·rintro⟨x,z,h1,h2,h3⟩
   rw[oq]at h3
   have:=of_decide_eq_false h3
   by_cases e:x=0
   ·by_cases e2:z=0
    ·subst e e2;exact⟨h1,h2⟩
    ·exact absurd (.inr e2) this
   ·exact absurd (.inl e) this
theorem Jw{op:Int}{a b:aD}(h:sB op)(ha:NN a)(hb:NN b):((sK op a b).1||(sK op a b).2)=true:=by
 rw[Bool.or_eq_true]
 rcases xZ h a.aa b.aa with e|e
 ·exact .inl ((R5 h ha hb).mpr ⟨_,_,cu ha,cu hb,e⟩)
 ·exact .inr ((L6 h ha hb).mpr ⟨_,_,cu ha,cu hb,e⟩)
theorem I4{P:Int->Prop}{no yes:Bool}(h:∀y,P y->y=0\/y=1)(h0:no=true↔P 0)(h1:yes=true↔P 1)(ho:(no||yes)=true):cv P (gB no yes):=by
 cases no with
 |true=>
  have p0:=h0.mp rfl
  cases yes with
  |true=>
   have p1:=h1.mp rfl
   refine⟨p0,p1,fun y hy=> ?_,by decide,fun d hd=> ?_⟩
   ·rcases h y hy with rfl|rfl
    ·exact⟨by decide,by decide,⟨0,rfl⟩⟩
    ·exact⟨by decide,by decide,⟨1,rfl⟩⟩
   ·exact hd 1 p1
  |false=>
   refine⟨p0,p0,fun y hy=> ?_,by decide,fun d _=>Int.dvd_zero d⟩
   rcases h y hy with rfl|rfl
   ·exact⟨by decide,by decide,⟨0,rfl⟩⟩
   ·exact absurd (h1.mpr hy) (by decide)
 |false=>
  cases yes with
  |true=>
   have p1:=h1.mp rfl
   refine⟨p1,p1,fun y hy=> ?_,by decide,fun d _=>Int.dvd_zero d⟩
   rcases h y hy with rfl|rfl
   ·exact absurd (h0.mpr hy) (by decide)
   ·exact⟨by decide,by decide,⟨0,rfl⟩⟩
  |false=>cases ho
theorem Sl{op:Int}{a b:aD}(h:sB op)(ha:NN a)(hb:NN b):cv (pY op a b) (gB (sK op a b).1 (sK op a b).2):=
 I4 (fun y ⟨x,z,_,_,e⟩=>by rw[e];exact xZ h x z)
  ((R5 h ha hb).trans ⟨fun⟨x,z,h1,h2,e⟩=>⟨x,z,h1,h2,e.symm⟩,fun⟨x,z,h1,h2,e⟩=>⟨x,z,h1,h2,e.symm⟩⟩)
  ((L6 h ha hb).trans ⟨fun⟨x,z,h1,h2,e⟩=>⟨x,z,h1,h2,e.symm⟩,fun⟨x,z,h1,h2,e⟩=>⟨x,z,h1,h2,e.symm⟩⟩) (Jw h ha hb)
theorem aqy{x y:Int}:(bif decide (x=y)then false else true)=decide (x≠y):=by
 by_cases h:x=y
 ·rw[decide_eq_true h,decide_eq_false (fun k=>k h)];rfl
 ·rw[decide_eq_false h,decide_eq_true h];rfl
theorem Uj{op:Int}{a b:aD}(h:sB op)(ha:NN a)(hb:NN b):S3 op a b=some (gB (sK op a b).1 (sK op a b).2):=by
 obtain⟨c,e,hc⟩:=Zl ha hb
 have em:dI c= !gm a b:=by
  cases k:dI c with
  |true=>rw[mz (fun x=>by have:=hc.mpr x;rw[k]at this;cases this)];rfl
  |false=>rw[gL.mpr (hc.mp k)];rfl
 have ed:(bif decide (1<cA a)then some true else bif decide (1<cA b)then some true else some (decide (a.aa≠b.aa)))=some (ja a b):=by
  unfold ja
  cases decide (1<cA a)<;>cases decide (1<cA b)<;>rfl
 unfold S3
 rw[e]
 simp only
 rw[jg (.inr ha),jg (.inr hb)]
 simp only
 rw[aqy,ed,wK (.inr ha),wK (.inr hb)]
 simp only
 rw[em]
 simp only[Lr]
 rcases gI h with rfl|rfl|rfl|rfl|rfl|rfl|rfl|rfl
 all_goals simp only[Int.reduceEq,decide_false,decide_true,cond_false,cond_true]
 ·show _=some (gB (ja a b) (gm a b))
  cases gm a b<;>rfl
 ·show _=some (gB (gm a b) (ja a b))
  cases gm a b<;>rfl
 ·rfl
 ·rfl
 ·rfl
 ·rfl
 ·show _=some (gB (bZ a 0||bZ b 0) (bO a&&bO b))
  cases bZ a 0<;>cases bO a<;>cases bZ b 0<;>cases bO b<;>rfl
 ·show _=some (gB (bZ a 0&&bZ b 0) (bO a||bO b))
  cases bZ a 0<;>cases bO a<;>cases bZ b 0<;>cases bO b<;>rfl
theorem diff_eq{a:aD}(h:NN a):ja a a=decide (1<cA a):=by
 unfold ja
 rw[decide_eq_false (show ¬a.aa≠a.aa from fun k=>k rfl)]
 cases decide (1<cA a)<;>rfl
theorem MJ{a b:aD}(ha:NN a)(hb:NN b)(h:a≠b):ja a b=true:=by
 unfold ja
 by_cases c1:1<cA a
 ·rw[decide_eq_true c1];rfl
 ·by_cases c2:1<cA b
  ·rw[decide_eq_false c1,decide_eq_true c2];rfl
  ·by_cases c3:a.aa=b.aa
   ·exfalso
    have e1:=pH ha c1
    have e2:=pH hb c2
    exact h (wm c3 (by omega) (by rcases ha.st with k|k<;>rcases hb.st with l|l<;>omega))
   ·rw[decide_eq_true c3,Bool.or_true]
theorem KM{op:Int}{a b:aD}(h:sB op)(ha:NN a)(hb:NN b):uo op a b=some (gB (sK op a b).1 (sK op a b).2):=by
 have ho:=Jw h ha hb
 rw[<-Mn ho]
 unfold uo
 rw[T9 ha hb,mK (.inr ha),mK (.inr hb)]
 simp only
 rw[eR (.inr ha)]
 simp only
 rcases gI h with rfl|rfl|rfl|rfl|rfl|rfl|rfl|rfl
 all_goals simp only[Int.reduceEq,decide_false,decide_true,cond_false,cond_true]
 ·show _=some (gO (ja a b) (gm a b))
  by_cases e:a=b
  ·subst e;rw[AI,diff_eq ha];rfl
  ·rw[z8 e,MJ ha hb e];rfl
 ·show _=some (gO (gm a b) (ja a b))
  by_cases e:a=b
  ·subst e;rw[AI,diff_eq ha];rfl
  ·rw[z8 e,MJ ha hb e];rfl
 ·rfl
 ·rfl
 ·rfl
 ·rfl
 ·show _=some (gO (bZ a 0||bZ b 0) (bO a&&bO b))
  cases bZ a 0<;>cases bO a<;>cases bZ b 0<;>cases bO b<;>rfl
 ·show _=some (gO (bZ a 0&&bZ b 0) (bO a||bO b))
  cases bZ a 0<;>cases bO a<;>cases bZ b 0<;>cases bO b<;>rfl
theorem RX{op:Int}{a b:aD}(h:sB op)(ha:NN a)(hb:NN b):Kg op a b:=by
 have hbin:binop op:=by
  obtain⟨h1,h2⟩:=h
  exact⟨by omega,by omega⟩
 refine⟨(gB (sK op a b).1 (sK op a b).2,0),lB hbin ha hb ?_,?_,tG _ _⟩
 ·rw[Uj h ha hb]
  rcases gI h with rfl|rfl|rfl|rfl|rfl|rfl|rfl|rfl<;>rfl
 ·by_cases hs:cnt a*cnt b<=4096
  ·rw[l9 hbin ha hb hs]
   rcases wj hbin ha hb (by omega)with ⟨_,c,e,k⟩|⟨k,_⟩
   ·rw[e,k.uniq (Sl h ha hb)]
   ·exact absurd (fun y ⟨x,z,_,_,e⟩=>by rw[e];rcases xZ h x z with q|q<;>rw[q]<;>exact⟨by decide,by decide⟩) k
  ·rw[th hbin ha hb hs]
   unfold OF
   rw[KM h ha hb]
   rcases gI h with rfl|rfl|rfl|rfl|rfl|rfl|rfl|rfl<;>rfl
theorem Pd{op:Int}{a b:aD}(h:Gq op)(ha:NN a)(hb:NN b):Kg op a b:=by
 obtain⟨c,e1,e2,hv⟩:=RO h ha hb
 have hbin:binop op:=by unfold binop;rcases h with rfl|rfl|rfl|rfl<;>decide
 refine⟨(c,0),lB hbin ha hb ?_,e2,hv⟩
 rw[e1]
 rcases h with rfl|rfl|rfl|rfl<;>rfl
theorem D7(op:Int){a b:aD}(ha:NV a)(hb:NV b):Kg op a b:=by
 by_cases ho:binop op
 ·rcases ha with rfl|ha
  ·refine⟨(bS,0),?_,?_, .inl rfl⟩
   ·unfold sE
    rw[di,di,cR (.inl rfl),cR hb,iG,decide_eq_true ho,gD]
    rfl
   ·unfold mC
    rw[dW,dW,cR (.inl rfl),cR hb,show zD op=vO op from rfl,iG,decide_eq_true ho,kB]
    rfl
  ·rcases hb with rfl|hb
   ·refine⟨(bS,0),?_,?_, .inl rfl⟩
    ·unfold sE
     rw[di,di,cR (.inl rfl),cR (.inr ha),iG,decide_eq_true ho,gD,cY ha.ne]
     rfl
    ·unfold mC
     rw[dW,dW,cR (.inl rfl),cR (.inr ha),show zD op=vO op from rfl,iG,decide_eq_true ho,kB,fC ha]
     rfl
   ·obtain⟨o1,o2⟩:=ho
    rcases (show op=8\/op=9\/op=10\/(op=11\/op=12\/op=21\/op=22)\/(13<=op/\op<=20)by omega)with rfl|rfl|rfl|h|h
    ·exact Rk ha hb
    ·exact SC ha hb
    ·exact SQ ha hb
    ·exact Pd h ha hb
    ·exact RX h ha hb
 ·refine⟨(aD.mk 0 0 0,1),?_,?_,J8⟩
  ·unfold sE
   rw[di,di,cR ha,cR hb,iG,decide_eq_false ho]
   rfl
  ·unfold mC
   rw[dW,dW,cR ha,cR hb,show zD op=vO op from rfl,iG,decide_eq_false ho]
   rfl
end Go.Proofs.YtnfljbehcffmcaaGreat
end
noncomputable section
set_option maxRecDepth 100000
namespace Go.Proofs.YtnfljbehcffmcaaGreat
open Go Go.Iv
open Go.IntKind (i64)
abbrev mV:Type:=Int
def d117:Td 0 mV:= .c [] [4] (.r 0 0 (ec 4 (qi .i64) en) sn (fun z=>z.1.1) (fun x=>((x,()),(()))) fun _=>rfl)
def ac8:=(lc (qg 137) (lc (qi .i64) ln))
def aeQ(M:aq->Int->Option mV):aI->aI:=eL Tryz.prog 117 false ac8 d117 (fun g=>M g.1 g.2.1)
def WZ(M:aq->Int->Option mV):Prop:=HL Tryz.prog 117 ac8 d117 (fun g=>M g.1 g.2.1)
theorem MR{M:aq->Int->Option mV}(hM:WZ M){F:aI}(h:aZ Tryz.prog F):aZ Tryz.prog (aeQ M F):=fW (sc:=wQ) dL hM ⟨_,Tryz.func117,by kernel_rfl,by kernel_rfl⟩ (fun _=>by kernel_rfl) (fun _=>by kernel_rfl) h
def W0(M117:aq->Int->Option mV):aI:=(aeQ M117 cL)
theorem V9{M117}(h117:WZ M117):aZ Tryz.prog (W0 M117):=(MR h117 aK)
structure qP where
 (t1 t5:Int)
 b0:aq
def J9:Td 0 qP:= .c [] [1,2,5] (.r 0 1 (ec 1 (qi .i64) (ec 2 (qp 0 0) (ec 5 (qi .i64) en))) (sb 0 137 (lg 137) sn) (fun z=>⟨z.1.1,z.1.2.2.1,z.2.1⟩) (fun x=>((x.t1,(),x.t5,()),(x.b0,()))) fun _=>rfl)
def BN(M117:aq->Int->Option mV)(p:qP):Option (Option qP):=
 match bif decide (p.t5<(↑p.b0.aj.length:Int))then some (decide (0<=p.t1))else some (false)with|none=>none|some r1=>bif r1 then if(0:Int)<=p.t5/\p.t5<(↑p.b0.aj.length:Int)then match M117 (aq.mk p.b0.aj[p.t5.toNat]!.aW p.b0.aj[p.t5.toNat]!.fN p.b0.aj[p.t5.toNat]!.aj) p.t1 with|none=>none|some r2=>some (some (qP.mk r2 (i64.wrap (p.t5+1)) (aq.mk p.b0.aW p.b0.fN p.b0.aj)))else none else some (none)
def PC(M117:aq->Int->Option mV):An:=(.two (.two (.rb [] 16) .no) .no)
def C3(M117:aq->Int->Option mV):qP->Option qP:=bt (BN M117)
def abV(M117:aq->Int->Option mV):An:=(.two .no (.two .no (.two (.two .no (J9.lp (C3 M117) (PC M117))) .no)))
theorem aio{M117}:∀f∈([]:List Nat),aV (W0 M117) f:=aC
theorem ajv(M117:aq->Int->Option mV):eC Tryz.prog (W0 M117) 0 300 117 (abV M117):=bT (l:=[(aS Tryz.f117 0,(J9.lp (C3 M117) (PC M117))),(.skip,(.rb [] 16))]) Tryz.func117 (bA (by kernel_rfl)) (by kernel_rfl) (ax (aO J9) (ax aio aC))
def Z5(M117:aq->Int->Option mV)(a0:aq)(a1:Int):Option mV:=
 match C3 M117 (qP.mk (i64.wrap (a1-1)) (0) (aq.mk a0.aW a0.fN a0.aj))with|none=>none|some r3=>match bif decide (r3.t5<(↑r3.b0.aj.length:Int))then some (decide (0<=r3.t1))else some (false)with|none=>none|some r4=>bif r4 then if(0:Int)<=r3.t5/\r3.t5<(↑r3.b0.aj.length:Int)then match M117 (aq.mk r3.b0.aj[r3.t5.toNat]!.aW r3.b0.aj[r3.t5.toNat]!.fN r3.b0.aj[r3.t5.toNat]!.aj) r3.t1 with|none=>none|some r5=>none else none else some (r3.t1)
theorem aos(M117:aq->Int->Option mV)(a0:aq)(a1:Int):bK Tryz.prog (W0 M117) 300 (abV M117) 117 (ac8.c (a0,a1,())) [] 0 d117.rd=Z5 M117 a0 a1:=by kernel_rfl
def acA:Nat->(aq->Int->Option mV)
 |0=>(fun _ _=>none)
 |n+1=>(Z5 (acA n))
def JP(n:Nat):aq->Int->Option mV:=(acA n)
theorem Fs:∀n,WZ (JP n)
 |0=>fun _ _ h=>(by cases h)
 |n+1=>by
  have ih:=Fs n
  have i117:=ih
  exact(dx (V9 i117) (ajv (JP n)) (fun _=>by kernel_rfl) (fun _=>by kernel_rfl) fun g=>aos (JP n) g.1 g.2.1)
def JY:aq->Int->Option mV:=fun a0 a1=>lim (fun n=>JP n a0 a1)
theorem Wa:WZ JY:=fun g b h=>by
 obtain⟨n,hn⟩:=cz (show lim (fun n=>JP n g.1 g.2.1)=some b from h)
 exact(Fs n) g b hn
def ad7(F:aI):aI:=aeQ JY F
theorem K4{F:aI}(h:aZ Tryz.prog F):aZ Tryz.prog (ad7 F):=MR Wa h
abbrev oN:Type:=Int
def d116:Td 0 oN:= .c [] [4] (.r 0 0 (ec 4 (qi .i64) en) sn (fun z=>z.1.1) (fun x=>((x,()),(()))) fun _=>rfl)
def agX:=(lc (ql 166) (lc (qi .i64) ln))
def aeW(M:(List GStep)->Int->Option oN):aI->aI:=eL Tryz.prog 116 false agX d116 (fun g=>M g.1 g.2.1)
def Zi(M:(List GStep)->Int->Option oN):Prop:=HL Tryz.prog 116 agX d116 (fun g=>M g.1 g.2.1)
theorem KO{M:(List GStep)->Int->Option oN}(hM:Zi M){F:aI}(h:aZ Tryz.prog F):aZ Tryz.prog (aeW M F):=fW (sc:=wQ) dL hM ⟨_,Tryz.func116,by kernel_rfl,by kernel_rfl⟩ (fun _=>by kernel_rfl) (fun _=>by kernel_rfl) h
def Xt(M116:(List GStep)->Int->Option oN):aI:=(ad7 (aeW M116 cL))
theorem U0{M116}(h116:Zi M116):aZ Tryz.prog (Xt M116):=(K4 (KO h116 aK))
structure rY where
 t0:List GStep
 (t1 t5:Int)
def IE:Td 0 rY:= .c [] [0,1,5] (.r 0 0 (ec 0 (ql 166) (ec 1 (qi .i64) (ec 5 (qi .i64) en))) sn (fun z=>⟨z.1.1,z.1.2.1,z.1.2.2.1⟩) (fun x=>((x.t0,x.t1,x.t5,()),(()))) fun _=>rfl)
def xC(M116:(List GStep)->Int->Option oN)(p:rY):Option (Option rY):=
 match bif decide (p.t5<(↑p.t0.length:Int))then some (decide (0<=p.t1))else some (false)with|none=>none|some r1=>bif r1 then if(0:Int)<=p.t5/\p.t5<(↑p.t0.length:Int)then match JY (aq.mk p.t0[p.t5.toNat]!.au.aW p.t0[p.t5.toNat]!.au.fN p.t0[p.t5.toNat]!.au.aj) (i64.wrap (p.t1-1))with|none=>none|some r2=>if(0:Int)<=p.t5/\p.t5<(↑p.t0.length:Int)then bif decide (r2<(↑p.t0[p.t5.toNat]!.aG.length:Int))then some (none)else if(0:Int)<=p.t5/\p.t5<(↑p.t0.length:Int)then if(0:Int)<=p.t5/\p.t5<(↑p.t0.length:Int)then if(0:Int)<=p.t5/\p.t5<(↑p.t0.length:Int)then match M116 p.t0[p.t5.toNat]!.aH (i64.wrap (r2-(↑p.t0[p.t5.toNat]!.aG.length:Int)))with|none=>none|some r3=>match M116 p.t0[p.t5.toNat]!.aJ r3 with|none=>none|some r4=>some (some (rY.mk p.t0 r4 (i64.wrap (p.t5+1))))else none else none else none else none else none else some (none)
def Qs(M116:(List GStep)->Int->Option oN):An:=(.two (.two (.rb [] 13) .no) .no)
def Bq(M116:(List GStep)->Int->Option oN):rY->Option rY:=bt (xC M116)
def acq(M116:(List GStep)->Int->Option oN):An:=(.two .no (.two (.two .no (IE.lp (Bq M116) (Qs M116))) .no))
theorem akK{M116}:∀f∈([]:List Nat),aV (Xt M116) f:=aC
theorem alT(M116:(List GStep)->Int->Option oN):eC Tryz.prog (Xt M116) 0 300 116 (acq M116):=bT (l:=[(aS Tryz.f116 0,(IE.lp (Bq M116) (Qs M116))),(.skip,(.rb [] 13))]) Tryz.func116 (bA (by kernel_rfl)) (by kernel_rfl) (ax (aO IE) (ax akK aC))
def YT(M116:(List GStep)->Int->Option oN)(a0:List GStep)(a1:Int):Option oN:=
 match Bq M116 (rY.mk a0 a1 (0))with|none=>none|some r5=>match bif decide (r5.t5<(↑r5.t0.length:Int))then some (decide (0<=r5.t1))else some (false)with|none=>none|some r6=>bif r6 then if(0:Int)<=r5.t5/\r5.t5<(↑r5.t0.length:Int)then match JY (aq.mk r5.t0[r5.t5.toNat]!.au.aW r5.t0[r5.t5.toNat]!.au.fN r5.t0[r5.t5.toNat]!.au.aj) (i64.wrap (r5.t1-1))with|none=>none|some r7=>if(0:Int)<=r5.t5/\r5.t5<(↑r5.t0.length:Int)then bif decide (r7<(↑r5.t0[r5.t5.toNat]!.aG.length:Int))then some (-1)else if(0:Int)<=r5.t5/\r5.t5<(↑r5.t0.length:Int)then if(0:Int)<=r5.t5/\r5.t5<(↑r5.t0.length:Int)then if(0:Int)<=r5.t5/\r5.t5<(↑r5.t0.length:Int)then match M116 r5.t0[r5.t5.toNat]!.aH (i64.wrap (r7-(↑r5.t0[r5.t5.toNat]!.aG.length:Int)))with|none=>none|some r8=>match M116 r5.t0[r5.t5.toNat]!.aJ r8 with|none=>none|some r9=>none else none else none else none else none else none else some (r5.t1)
theorem an0(M116:(List GStep)->Int->Option oN)(a0:List GStep)(a1:Int):bK Tryz.prog (Xt M116) 300 (acq M116) 116 (agX.c (a0,a1,())) [] 0 d116.rd=YT M116 a0 a1:=by kernel_rfl
def aat:Nat->((List GStep)->Int->Option oN)
 |0=>(fun _ _=>none)
 |n+1=>(YT (aat n))
def Jr(n:Nat):(List GStep)->Int->Option oN:=(aat n)
theorem Ep:∀n,Zi (Jr n)
 |0=>fun _ _ h=>(by cases h)
 |n+1=>by
  have ih:=Ep n
  have i116:=ih
  exact(dx (U0 i116) (alT (Jr n)) (fun _=>by kernel_rfl) (fun _=>by kernel_rfl) fun g=>an0 (Jr n) g.1 g.2.1)
def Un:(List GStep)->Int->Option oN:=fun a0 a1=>lim (fun n=>Jr n a0 a1)
theorem Wx:Zi Un:=fun g b h=>by
 obtain⟨n,hn⟩:=cz (show lim (fun n=>Jr n g.1 g.2.1)=some b from h)
 exact(Ep n) g b hn
def amS(F:aI):aI:=aeW Un F
theorem XF{F:aI}(h:aZ Tryz.prog F):aZ Tryz.prog (amS F):=KO Wx h
def F53:aI:=(ad7 (amS cL))
structure yU where
 t7:Int
 t27:List cy
 (t28 t29:Int)
def QA:Td 0 yU:= .c [] [7,27,28,29] (.r 0 0 (ec 7 (qi .i64) (ec 27 (ql 139) (ec 28 (qi .i64) (ec 29 (qi .i64) en)))) sn (fun z=>⟨z.1.1,z.1.2.1,z.1.2.2.1,z.1.2.2.2.1⟩) (fun x=>((x.t7,x.t27,x.t28,x.t29,()),(()))) fun _=>rfl)
def Gy(p:yU):Option (Option yU):=
 bif decide (p.t29<p.t28)then if(0:Int)<=p.t29/\p.t29<(↑p.t27.length:Int)then match JY (aq.mk p.t27[p.t29.toNat]!.au.aW p.t27[p.t29.toNat]!.au.fN p.t27[p.t29.toNat]!.au.aj) p.t7 with|none=>none|some r1=>some (some (yU.mk r1 p.t27 p.t28 (i64.wrap (p.t29+1))))else none else some (none)
def Le:yU->Option yU:=bt (Gy)
abbrev E53:Type:=Bool
def d53:Td 0 E53:= .c [] [6] (.r 0 0 (ec 6 qb en) sn (fun z=>z.1.1) (fun x=>((x,()),(()))) fun _=>rfl)
theorem apC:∀f∈([]:List Nat),aV (F53) f:=aC
def m53(a0:Flat)(a1:Int)(a2:Int):Option E53:=
 match bif decide (a1<(↑a0.ah.length:Int))then some (true)else some (decide (a1<(↑a0.ai.length:Int)))with|none=>none|some r2=>bif r2 then some (false)else match Un a0.bw a2 with|none=>none|some r3=>match Le (yU.mk r3 a0.ai (↑a0.ai.length:Int) (0))with|none=>none|some r4=>bif decide (r4.t29<r4.t28)then if(0:Int)<=r4.t29/\r4.t29<(↑r4.t27.length:Int)then match JY (aq.mk r4.t27[r4.t29.toNat]!.au.aW r4.t27[r4.t29.toNat]!.au.fN r4.t27[r4.t29.toNat]!.au.aj) r4.t7 with|none=>none|some r5=>none else none else some (decide (0<=r4.t7))
def e53:aI->aI:=eL Tryz.prog 53 false (lc (qg 26) (lc (qi .i64) (lc (qi .i64) ln))) d53 (fun g=>m53 g.1 g.2.1 g.2.2.1)
theorem Tk:EO e53:=fun h=>kL (F:=F53) (an:=(.two .no (.two (.two (.rb [] 21) .no) (.two .no (.two (.two .no (QA.lp Le .no)) .no))))) (l:=[(.skip,(.rb [] 21)),(aS Tryz.f53 0,(QA.lp Le .no))]) Tryz.func53 (K4 (XF aK)) (ax apC (ax (aO QA) aC)) h
theorem oH:EP e53:=fun h=>kP h
end Go.Proofs.YtnfljbehcffmcaaGreat
end
noncomputable section
namespace Go.Proofs.YtnfljbehcffmcaaGreat
open Go Go.Iv
open Go.IntKind (i64)
theorem aq.eta(t:aq):aq.mk t.aW t.fN t.aj=t:=by cases t;rfl
theorem aq.dh{t k:aq}(h:k∈t.aj):SizeOf.sizeOf k<SizeOf.sizeOf t:=by
 cases t
 have:=List.sizeOf_lt_of_mem h
 simp only[aq.mk.sizeOf_spec]
 simp only at this
 omega
def nT(t:aq):Nat:=1+(t.aj.attach.map fun k=>nT k.1).sum
termination_by SizeOf.sizeOf t
decreasing_by exact aq.dh k.2
def iA(l:List aq):Nat:=(l.map nT).sum
theorem sL(t:aq):nT t=1+iA t.aj:=by
 rw[nT,iA]
 congr 2
 exact List.attach_map_val (f:=nT)
theorem ny(k:aq)(ks:List aq):iA (k::ks)=nT k+iA ks:=by simp[iA]
theorem LW{k:aq}{ks:List aq}(h:k∈ks):nT k<=iA ks:=by
 induction ks with
 |nil=>cases h
 |cons a ks ih=>
  rw[ny]
  rcases List.mem_cons.1 h with rfl|h
  ·omega
  ·have:=ih h;omega
theorem C4(t:aq):0<nT t:=by rw[sL];omega
def tl(t:aq)(left:Int):Int:=if(nT t:Int)<=left then left-nT t else if 0<=left then-1 else left-1
def tls:List aq->Int->Int
 |[],l=>l
 |k::ks,l=>if 0<=l then tls ks (tl k l)else l
theorem Pa:∀(ks:List aq) (l:Int),tls ks l=if 0<=l then(if(iA ks:Int)<=l then l-iA ks else-1)else l
 |[],l=>by simp[tls,iA];omega
 |k::ks,l=>by
  have e:=ny k ks
  have:=C4 k
  unfold tls
  by_cases h:0<=l
  ·rw[if_pos h,if_pos h,Pa ks,e]
   unfold tl
   grind
  ·rw[if_neg h,if_neg h]
theorem aiO(t:aq)(left:Int):tl t left=tls t.aj (left-1):=by
 rw[Pa,tl,sL]
 grind
theorem Qj(t:aq)(l:Int):(0<=l-> -1<=tl t l/\tl t l<=l-1)/\(l<0->tl t l=l-1):=by
 have:=C4 t
 unfold tl
 grind
theorem SL(M:aq->Int->Option mV)(t:aq)(hM:∀k∈t.aj,∀l:Int,0<=l->l<=1000->M k l=some (tl k l)):
  ∀(ks:List aq) (i:Nat) (l:Int),t.aj.drop i=ks->i+ks.length=t.aj.length->l<=1000-i->∃q,C3 M ⟨l,i,t⟩=some q/\q.t1=tls ks l/\q.b0=t/\(q.t5<t.aj.length->q.t1<0)
 |[],i,l,hd,hl,_=>by
  refine⟨_,bU fun r=> ?_,rfl,rfl,fun h=> ?_⟩
  ·have:¬((i:Int)<t.aj.length):=by simp at hl;omega
   simp[BN,this]
  ·simp at hl h;omega
 |k::ks,i,l,hd,hl,h2=>by
  have hil:i<t.aj.length:=by simp at hl;omega
  have hki:t.aj[i]! =k:=by
   have:t.aj[i]? =some k:=by
    have:=congrArg List.head? hd
    rw[List.head?_drop]at this
    simpa using this
   rw[List.getElem!_eq_getElem?_getD,this];rfl
  have hmem:k∈t.aj:=by rw[<-hki,getElem!_pos t.aj i hil];exact List.getElem_mem hil
  by_cases h0:0<=l
  ·have hd':t.aj.drop (i+1)=ks:=by
    have:=congrArg List.tail hd
    rw[List.tail_drop]at this
    simpa using this
   have b3:=((Qj k l).1 h0).2
   obtain⟨q,e1,e2,e3,e4⟩:=SL M t hM ks (i+1) (tl k l) hd' (by simp at hl;omega) (by omega)
   refine⟨q,?_,?_,e3,e4⟩
   ·rw[<-e1]
    refine bD ?_
    have hw:i64.wrap ((i:Int)+1)=((i+1:Nat):Int):=by rw[aF];omega
    have hk2:t.aj[i]=k:=by rw[<-hki,getElem!_pos t.aj i hil]
    simp[BN,hil,h0,hk2,aq.eta,hM k hmem l h0 (by omega)]
    exact hw
   ·rw[e2]
    show _=if 0<=l then _ else _
    rw[if_pos h0]
  ·refine⟨_,bU fun r=> ?_,?_,rfl,fun h=> ?_⟩
   ·simp[BN,hil,h0]
   ·show l=if 0<=l then _ else l
    rw[if_neg h0]
   ·simp only;omega
theorem Wd(M:aq->Int->Option mV)(t:aq)(hM:∀k∈t.aj,∀l:Int,0<=l->l<=1000->M k l=some (tl k l))(l:Int)(h1: -1000000<=l)(h2:l<=1000):Z5 M t l=some (tl t l):=by
 obtain⟨q,e1,e2,e3,e4⟩:=SL M t hM t.aj 0 (l-1) rfl (by simp) (by omega)
 have hw:i64.wrap (l-1)=l-1:=aF
 rw[aiO,<-e2]
 unfold Z5
 rw[hw,aq.eta,show ((0:Nat):Int)=0 from rfl]at*
 rw[e1]
 obtain⟨q1,q5,qb⟩:=q
 subst e3
 dsimp only at*
 by_cases h5:q5<(qb.aj.length:Int)
 ·have:=e4 h5
  simp[h5,show ¬(0<=q1)by omega]
 ·simp[h5]
theorem KX:∀(n:Nat) (t:aq) (l:Int),SizeOf.sizeOf t<n-> -1000000<=l->l<=1000->JP n t l=some (tl t l)
 |0,_,_,h,_,_=>by omega
 |n+1,t,l,h,h1,h2=>Wd (JP n) t (fun k hk l h3 h4=>KX n k l (by have:=aq.dh hk;omega) (by omega) h4) l h1 h2
theorem DA(t:aq)(l:Int)(h1: -1000000<=l)(h2:l<=1000):JY t l=some (tl t l):=cZ (SizeOf.sizeOf t+1) fun n hn=>KX n t l (by omega) h1 h2
theorem GStep.then_lt{s k:GStep}(h:k∈s.aH):SizeOf.sizeOf k<SizeOf.sizeOf s:=by
 cases s
 have:=List.sizeOf_lt_of_mem h
 simp only[GStep.mk.sizeOf_spec]
 simp only at this
 omega
theorem GStep.WA{s k:GStep}(h:k∈s.aJ):SizeOf.sizeOf k<SizeOf.sizeOf s:=by
 cases s
 have:=List.sizeOf_lt_of_mem h
 simp only[GStep.mk.sizeOf_spec]
 simp only at this
 omega
theorem GStep.eta(s:GStep):GStep.mk s.bG s.aL s.cC s.fN s.au s.aH s.aJ s.aG=s:=by cases s;rfl
def nS(s:GStep):Nat:=1+nT s.au+s.aG.length+(s.aH.attach.map fun k=>nS k.1).sum+(s.aJ.attach.map fun k=>nS k.1).sum
termination_by SizeOf.sizeOf s
decreasing_by
 ·exact GStep.then_lt k.2
 ·exact GStep.WA k.2
def dS(l:List GStep):Nat:=(l.map nS).sum
theorem mL(s:GStep):nS s=1+nT s.au+s.aG.length+dS s.aH+dS s.aJ:=by
 rw[nS,dS,dS]
 congr 2
 ·congr 1
  exact List.attach_map_val (f:=nS)
 ·exact List.attach_map_val (f:=nS)
theorem kW(k:GStep)(ks:List GStep):dS (k::ks)=nS k+dS ks:=by simp[dS]
def sl(l:List GStep)(left:Int):Int:=if left<0 then left else if(dS l:Int)<=left then left-dS l else-1
def qw(left:Int)(s:GStep):Option Int:=if left<0 then none else if tl s.au (left-1)<s.aG.length then none else some (sl s.aJ (sl s.aH (tl s.au (left-1)-s.aG.length)))
theorem EL{left x:Int}{s:GStep}(h:qw left s=some x):0<=left/\ -1<=x/\x<=left-1/\x=if(nS s:Int)<=left then left-nS s else-1:=by
 unfold qw at h
 have e:=mL s
 unfold tl sl at h
 grind
theorem IK{left:Int}{s:GStep}(h:qw left s=none)(h0:0<=left):left<nS s:=by
 unfold qw at h
 have e:=mL s
 unfold tl at h
 grind
theorem abu:∀(l:List GStep) (left:Int),jb qw (fun v _=>if v<0 then v else-1) id l left=sl l left
 |[],left=>by unfold sl;simp[dS,jb];omega
 |s::l,left=>by
  have e:=kW s l
  unfold jb
  cases hs:qw left s with
  |none=>
   have:=IK hs
   unfold sl
   grind
  |some x=>
   obtain⟨h1,h2,h3,h4⟩:=EL hs
   dsimp only
   rw[abu l x]
   unfold sl
   grind
theorem Ya(M:List GStep->Int->Option oN)(l:List GStep)(hM:∀s∈l,(∀x:Int,-1<=x->x<=1000->M s.aH x=some (sl s.aH x))/\(∀x:Int,-1<=x->x<=1000->M s.aJ x=some (sl s.aJ x)))(left:Int)(h1: -1<=left)(h2:left<=1000):
  YT M l left=some (sl l left):=by
 have hstep:∀(i:Nat) (b:Int) (hi:i<l.length),b<=1000-i-> -1<=b->xC M ⟨l,b,i⟩=if b<0 then some none else if tl l[i].au (b-1)<l[i].aG.length then some none else some (some ⟨l,sl l[i].aJ (sl l[i].aH (tl l[i].au (b-1)-l[i].aG.length)),((i+1:Nat):Int)⟩):=fun i b hi hb hb2=>by
  obtain⟨m1,m2⟩:=hM l[i] (List.getElem_mem hi)
  unfold xC
  by_cases h0:b<0
  ·simp[hi,h0,show ¬0<=b by omega]
  ·have e1:i64.wrap (b-1)=b-1:=aF
   have e2:=DA l[i].au (b-1) (by omega) (by omega)
   have e3:=Qj l[i].au (b-1)
   have hT: -2<=tl l[i].au (b-1)/\tl l[i].au (b-1)<=1000:=by grind
   by_cases h4:tl l[i].au (b-1)<l[i].aG.length
   ·simp[hi,h0,e1,aq.eta,e2,h4,show 0<=b by omega]
   ·have e5:i64.wrap (tl l[i].au (b-1)-l[i].aG.length)=tl l[i].au (b-1)-l[i].aG.length:=aF
    have e6:=m1 (tl l[i].au (b-1)-l[i].aG.length) (by omega) (by omega)
    have hS: -1<=sl l[i].aH (tl l[i].au (b-1)-l[i].aG.length)/\sl l[i].aH (tl l[i].au (b-1)-l[i].aG.length)<=1000:=by unfold sl;grind
    have e7:=m2 _ hS.1 hS.2
    have e8:i64.wrap ((i:Int)+1)=((i+1:Nat):Int):=by rw[aF];omega
    simp[hi,h0,e1,aq.eta,e2,h4,e5,e6,e7,show 0<=b by omega]
    exact e8
 obtain⟨i,v,hi,e1,⟨e2,e3⟩,e4⟩:=Aw (rnd:=xC M) l (fun i b=>⟨l,b,(i:Int)⟩) qw (fun v _=>if v<0 then v else-1) id (fun i b=>b<=1000-i/\ -1<=b) (fun i b hi hI b' hs=>by
   obtain⟨q1,q2,q3,q4⟩:=EL hs
   refine⟨?_,by omega,q2⟩
   rw[hstep i b hi hI.1 hI.2]
   unfold qw at hs
   grind) (fun i b hi hI hs r=>by
   rw[hstep i b hi hI.1 hI.2]
   unfold qw at hs
   grind) (fun b hI r=>by simp[xC]) (b:=left) ⟨by omega,h1⟩
 have e1':Bq M ⟨l,left,0⟩=some ⟨l,v,i⟩:=e1
 unfold YT
 rw[e1']
 rw[abu]at e4
 rcases e4 with ⟨h5,e4⟩|⟨h5,hn,e4⟩
 ·simp[h5,e4]
 ·rw[e4]
  by_cases h0:v<0
  ·simp[h5,h0,show ¬(0<=v)by omega]
  ·have e1:i64.wrap (v-1)=v-1:=aF
   have e2:=DA l[i].au (v-1) (by omega) (by omega)
   have h4:tl l[i].au (v-1)<l[i].aG.length:=by unfold qw at hn;grind
   simp[h5,h0,show 0<=v by omega,e1,aq.eta,e2,h4]
theorem aQ{s:GStep}{l:List GStep}(h:s∈l):SizeOf.sizeOf s.aH<SizeOf.sizeOf l/\SizeOf.sizeOf s.aJ<SizeOf.sizeOf l:=by
 have:=List.sizeOf_lt_of_mem h
 cases s
 simp only[GStep.mk.sizeOf_spec]at this
 simp only
 omega
theorem CT:∀(n:Nat) (l:List GStep) (x:Int),SizeOf.sizeOf l<n-> -1<=x->x<=1000->Jr n l x=some (sl l x)
 |0,_,_,h,_,_=>by omega
 |n+1,l,x,h,h1,h2=>Ya (Jr n) l (fun s hs=>⟨fun x h3 h4=>CT n _ x (by have:=aQ hs;omega) h3 h4,fun x h3 h4=>CT n _ x (by have:=aQ hs;omega) h3 h4⟩) x h1 h2
theorem VD(l:List GStep)(x:Int)(h1: -1<=x)(h2:x<=1000):Un l x=some (sl l x):=cZ (SizeOf.sizeOf l+1) fun n hn=>CT n l x (by omega) h1 h2
def NF(f:Flat)(vars nodes:Int):Bool:=decide ((f.ah.length:Int)<=vars/\(f.ai.length:Int)<=vars/\(dS f.bw+iA (f.ai.map (·.au)):Int)<=nodes)
theorem PR(f:Flat)(vars nodes:Int)(h1:0<=vars)(h2:vars<=1000)(h3:0<=nodes)(h4:nodes<=1000):m53 f vars nodes=some (NF f vars nodes):=by
 unfold m53
 by_cases q1:vars<f.ah.length
 ·simp[q1,NF];omega
 ·by_cases q2:vars<f.ai.length
  ·simp[q1,q2,NF];omega
  ·rw[VD _ _ (by omega) (by omega)]
   have hb:sl f.bw nodes<=1000/\ -1<=sl f.bw nodes:=by unfold sl;grind
   have hstep:∀(i:Nat) (b:Int) (hi:i<f.ai.length),b<=1000-> -1-(i:Int)<=b->Gy ⟨b,f.ai,f.ai.length,i⟩=some (some ⟨tl f.ai[i].au b,f.ai,f.ai.length,((i+1:Nat):Int)⟩):=fun i b hi hb hb2=>by
    have e2:=DA f.ai[i].au b (by omega) (by omega)
    have e8:i64.wrap ((i:Int)+1)=((i+1:Nat):Int):=by rw[aF];omega
    unfold Gy
    simp[hi,aq.eta,e2]
    exact e8
   obtain⟨i,v,hi,e1,_,e4⟩:=Aw (rnd:=Gy) f.ai (fun i b=>⟨b,f.ai,f.ai.length,(i:Int)⟩) (fun b h=>some (tl h.au b)) (fun v _=>v) id (fun i b=>b<=1000/\ -1-(i:Int)<=b) (fun i b hi hI b' hs=>by
     cases hs
     refine⟨hstep i b hi hI.1 hI.2,?_⟩
     have:=Qj f.ai[i].au b
     grind) (fun i b hi hI hs r=>by cases hs) (fun b hI r=>by simp[Gy]) (b:=sl f.bw nodes) ⟨hb.1,by omega⟩
   have e1':Le ⟨sl f.bw nodes,f.ai,f.ai.length,0⟩=some ⟨v,f.ai,f.ai.length,i⟩:=e1
   rcases e4 with ⟨h5,e4⟩|⟨_,hn,_⟩
   case inr=>cases hn
   have key:∀(l:List cy) (b:Int),0<=jb (ρ:=Int) (fun b h=>some (tl h.au b)) (fun v _=>v) id l b↔(iA (l.map (·.au)):Int)<=b:=fun l=>by
    induction l with
    |nil=>intro b;simp[jb,iA]
    |cons h l ih=>
     intro b
     unfold jb
     dsimp only
     rw[ih,List.map_cons,ny]
     have:=C4 h.au
     unfold tl
     grind
   have k2:=key f.ai (sl f.bw nodes)
   rw[e4]at k2
   have k3:(0<=v)↔(iA (f.ai.map (·.au)):Int)<=sl f.bw nodes:=k2
   simp only[q1,q2,decide_false,cond_false,e1',h5,Int.lt_irrefl,NF]
   congr 1
   rw[decide_eq_decide,k3]
   unfold sl
   grind
end Go.Proofs.YtnfljbehcffmcaaGreat
end
noncomputable section
namespace Go.Proofs.YtnfljbehcffmcaaGreat
open Go Go.Iv
theorem Z0:((0:Nat):Int)=(0:Int):=rfl
def ZS(i:Nat)(c:Int):Bool:=decide ((97<=c/\c<=122)\/(i≠0/\((48<=c/\c<=57)\/c=46\/c=95)))
def gJ(s:ByteArray):Bool:=decide (1<=s.size)&&decide (s.size<=40)&&(List.range s.size).all fun i=>ZS i (bM s i)
def fE(low high:Int):Bool:=decide (low<=high/\ -1048576<=low/\high<=1048576)
def lD(vars:List aN)(i:Nat)(v:aN):Int:=
 if gJ v.fName=false then 7
 else if((vars.take i).any fun w=>w.fName.toList==v.fName.toList)=true then 8
 else if v.bf<0\/3<v.bf then 1
 else if fE v.aa v.af=false then 3
 else if v.bf=0 then(if v.cW<v.aa\/v.af<v.cW then 3 else 0)
 else if v.cW=0 then 0 else 3
def vC(kind:Int):List aN->Int->Option Int
 |[],n=>some n
 |v::vs,n=>if v.bf=kind then(if 4096<n*(v.af-v.aa+1)then none else vC kind vs (n*(v.af-v.aa+1)))else vC kind vs n
def G9(vars:List aN):Bool:=(vC 1 vars 1).isSome&&(vC 2 vars 1).isSome&&(match vC 3 vars 1 with|some n=>decide (n<=256)|none=>false)
def j9(vars:List aN):Int:=if bW (lD vars) vars 0≠0 then bW (lD vars) vars 0 else if G9 vars=true then 0 else 4
def bI(o:Int):Int×Int:=if o=0\/o=24 then(0,0)else if o=6\/o=7 then(1,1)else if 8<=o/\o<=22 then(2,2)else if o=23 then(3,3)else if o=25 then(2,33)else(-1,-1)
def vE(vars:List aN)(inp:Bool)(t:aq):Bool:=decide (0<=(bI t.aW).1/\(bI t.aW).1<=t.aj.length/\(t.aj.length:Int)<=(bI t.aW).2)&&
 (if t.aW=0 then true else if t.aW=24 then decide (0<=t.fN/\t.fN<vars.length)&& !(inp&&decide (vars[t.fN.toNat]!.bf=0))else decide (t.fN=0))
def cD(vars:List aN)(inp:Bool)(t:aq):Bool:=vE vars inp t&&t.aj.attach.all fun k=>cD vars inp k.1
termination_by SizeOf.sizeOf t
decreasing_by exact aq.dh k.2
theorem jL(vars:List aN)(inp:Bool)(t:aq):cD vars inp t=(vE vars inp t&&t.aj.all (cD vars inp)):=by
 rw[cD]
 congr 1
 rw[List.all_eq,List.all_eq]
 simp
def dZ(a b:Span):Span:=⟨if b.aa<a.aa then b.aa else a.aa,if a.af<b.af then b.af else a.af⟩
def gH(vars:List aN)(t:aq)(k:List Span):Span:=
 if t.aW=0 then⟨t.fN,t.fN⟩
 else if t.aW=24 then⟨vars[t.fN.toNat]!.aa,vars[t.fN.toNat]!.af⟩
 else if t.aW=6 then⟨-k[0]!.af,-k[0]!.aa⟩
 else if t.aW=8 then⟨k[0]!.aa+k[1]!.aa,k[0]!.af+k[1]!.af⟩
 else if t.aW=9 then⟨k[0]!.aa-k[1]!.af,k[0]!.af-k[1]!.aa⟩
 else if t.aW=10 then
  dZ (dZ (dZ ⟨k[0]!.aa*k[1]!.aa,k[0]!.aa*k[1]!.aa⟩ ⟨k[0]!.aa*k[1]!.af,k[0]!.aa*k[1]!.af⟩) ⟨k[0]!.af*k[1]!.aa,k[0]!.af*k[1]!.aa⟩) ⟨k[0]!.af*k[1]!.af,k[0]!.af*k[1]!.af⟩
 else if t.aW=11 then
  (if(0:Int)<=k[0]!.aa/\(0:Int)<=k[1]!.aa then⟨0,if k[0]!.af< -k[0]!.aa then-k[0]!.aa else k[0]!.af⟩else⟨-(if k[0]!.af< -k[0]!.aa then-k[0]!.aa else k[0]!.af),if k[0]!.af< -k[0]!.aa then-k[0]!.aa else k[0]!.af⟩)
 else if t.aW=12 then⟨if k[1]!.aa<0 then k[1]!.aa+1 else 0,if(0:Int)<k[1]!.af then k[1]!.af-1 else 0⟩
 else if t.aW=21 then⟨if k[1]!.aa<k[0]!.aa then k[1]!.aa else k[0]!.aa,if k[1]!.af<k[0]!.af then k[1]!.af else k[0]!.af⟩
 else if t.aW=22 then⟨if k[0]!.aa<k[1]!.aa then k[1]!.aa else k[0]!.aa,if k[0]!.af<k[1]!.af then k[1]!.af else k[0]!.af⟩
 else if t.aW=23\/t.aW=25 then(k.drop 2).foldl dZ k[1]!
 else⟨0,1⟩
def tv(s:Span):Bool:=decide (-1048576<=s.aa/\s.af<=1048576)
def jf:List (Option Span)->Option (List Span)
 |[]=>some []
 |none::_=>none
 |some s::xs=>match jf xs with|some l=>some (s::l)|none=>none
def fe(vars:List aN)(t:aq):Option Span:=match jf (t.aj.attach.map fun k=>fe vars k.1)with
 |none=>none
 |some l=>if tv (gH vars t l)=true then some (gH vars t l)else none
termination_by SizeOf.sizeOf t
decreasing_by exact aq.dh k.2
theorem tP(vars:List aN)(t:aq):fe vars t=match jf (t.aj.map (fe vars))with
 |none=>none
 |some l=>if tv (gH vars t l)=true then some (gH vars t l)else none:=by
 rw[fe]
 rw[show (t.aj.attach.map fun k=>fe vars k.1)=t.aj.map (fe vars)from List.attach_map_val (f:=fe vars)]
def dy(vars:List aN)(inp:Bool)(t:aq):Int:=if cD vars inp t=false then 1 else if(fe vars t).isSome then 0 else 3
def jE(f:Flat)(i:Nat)(h:cy):Int:=
 if gJ h.fName=false then 7
 else if((f.ai.take i).any fun w=>w.fName.toList==h.fName.toList)=true then 8
 else if fE h.aa h.af=false then 3
 else dy f.ah true h.au
def dT(t:aq):Int:=1+(t.aj.attach.map fun k=>dT k.1).foldl max 0
termination_by SizeOf.sizeOf t
decreasing_by exact aq.dh k.2
def GY(l:List aq):Int:=(l.map dT).foldl max 0
theorem K1(t:aq):dT t=1+GY t.aj:=by
 rw[dT,GY]
 rw[show (t.aj.attach.map fun k=>dT k.1)=t.aj.map dT from List.attach_map_val (f:=dT)]
theorem uD(l:List Int)(a x:Int):(l++[x]).foldl max a=max (l.foldl max a) x:=by simp[List.foldl_append]
theorem xL(l:List aq)(k:aq):GY (l++[k])=max (GY l) (dT k):=by
 unfold GY
 rw[List.map_append,List.map_cons,List.map_nil,uD]
theorem oC(l:List aq)(k:aq):iA (l++[k])=iA l+nT k:=by
 simp[iA]
theorem tQ:∀(l:List Int) (a:Int),a<=l.foldl max a
 |[],a=>Int.le_refl _
 |x::l,a=>Int.le_trans (Int.le_max_left a x) (tQ l (max a x))
theorem DF(l:List aq):0<=GY l:=tQ _ _
theorem agf(t:aq):1<=dT t:=by have:=DF t.aj;rw[K1];omega
theorem cT(s:GStep)(l:List GStep):SizeOf.sizeOf l<SizeOf.sizeOf (s::l):=by
 rw[List.cons.sizeOf_spec]
 omega
def hU:List GStep->Int
 |[]=>0
 |s::l=>max (max (hU s.aH+1) (hU s.aJ+1)) (hU l)
termination_by l=>SizeOf.sizeOf l
decreasing_by
 ·exact(aQ (List.mem_cons_self ..)).1
 ·exact(aQ (List.mem_cons_self ..)).2
 ·exact cT _ _
def dP:List GStep->Bool
 |[]=>false
 |s::l=>decide (12<dT s.au)||dP s.aH||dP s.aJ||dP l
termination_by l=>SizeOf.sizeOf l
decreasing_by
 ·exact(aQ (List.mem_cons_self ..)).1
 ·exact(aQ (List.mem_cons_self ..)).2
 ·exact cT _ _
theorem oZ(l:List GStep):0<=hU l:=by
 induction l with
 |nil=>rw[hU];omega
 |cons s l ih=>rw[hU];omega
theorem Rv(l:List GStep)(s:GStep):hU (l++[s])=max (hU l) (max (hU s.aH+1) (hU s.aJ+1)):=by
 induction l with
 |nil=>
  have:=oZ s.aH
  rw[List.nil_append,show hU []=0 by rw[hU],hU,show hU []=0 by rw[hU]]
  omega
 |cons a l ih=>rw[List.cons_append,hU,hU,ih];omega
theorem Gi(l:List GStep)(k:GStep):dS (l++[k])=dS l+nS k:=by simp[dS]
def qS(f:Flat):Bool:=decide (f.ah.length<=64)&&decide (f.ai.length<=8)&&f.ai.all (fun h=>decide (dT h.au<=12))&&decide (hU f.bw<=12)&& !dP f.bw
def eB:List Int->Bool
 |a::b::l=>decide (a<b)&&eB (b::l)
 |_=>true
def tw(t:aq):Bool:=decide (t.aW=0/\t.fN=0/\t.aj.length=0)
def rA(f:Flat)(s:GStep):Bool:=decide (0<=s.cC/\s.cC<f.ah.length)&&decide (f.ah[s.cC.toNat]!.bf=0)
def cF(f:Flat)(s:GStep)(last:Bool):Bool:=
 let free:=decide (s.aH.length=0/\s.aJ.length=0)
 let nob:=decide (s.aG.length=0)
 if s.bG=0 then free&&rA f s&&decide (s.fN=0)&&nob
 else if s.bG=1 then free&&decide (s.cC=0)&&decide (s.fN=0)&&nob
 else if s.bG=2 then free&&decide (s.cC=0)&&decide (s.fN=0)&&nob&&tw s.au
 else if s.bG=3 then decide (s.cC=0)&&decide (s.fN=0)&&nob
 else if s.bG=4 then decide (s.cC=0)&&decide (s.aJ.length=0)&&nob
 else if s.bG=5 then free&&rA f s&&decide (0<=s.fN/\s.fN<f.ai.length)&&nob&&tw s.au
 else if s.bG=6 then free&&last&&decide (s.cC=0)&&decide (s.fN=0)&&tw s.au&&(decide (1<=s.aG.length/\s.aG.length<=32)&&decide ((0:Int)<=s.aG[0]!)&&eB s.aG)
 else false
def rB(s:GStep):Bool:=decide (0<=s.aL/\s.aL<=(if s.bG=2 then 67108864 else 10000))&&(if s.bG=4 then decide (0<=s.fN/\s.fN<=4096)else true)&&(if s.bG=6 then decide (s.aG[s.aG.length-1]!<=67108864)else true)
def mW(f:Flat)(last:Bool)(s:GStep):Int:=if cF f s last=false then 1 else if rB s=false then 3 else dy f.ah false s.au
def bH(f:Flat)(top:Bool):List GStep->Int
 |[]=>0
 |s::l=>if mW f (top&&l.isEmpty) s≠0 then mW f (top&&l.isEmpty) s else if bH f false s.aH≠0 then bH f false s.aH else if bH f false s.aJ≠0 then bH f false s.aJ else bH f top l
termination_by l=>SizeOf.sizeOf l
decreasing_by
 all_goals first|exact(aQ (List.mem_cons_self ..)).1|exact(aQ (List.mem_cons_self ..)).2|exact cT _ _
def ON(f:Flat)(top:Bool)(n i:Nat)(s:GStep):Int:=if mW f (top&&decide (i+1=n)) s≠0 then mW f (top&&decide (i+1=n)) s else if bH f false s.aH≠0 then bH f false s.aH else bH f false s.aJ
theorem od(f:Flat)(top:Bool)(n:Nat):∀(l:List GStep) (i:Nat),i+l.length=n->bW (ON f top n) l i=bH f top l
 |[],i,_=>by rw[bH];rfl
 |s::l,i,h=>by
  have ih:=od f top n l (i+1) (by simp at h;omega)
  have he:l.isEmpty=decide (i+1=n):=by
   cases l with
   |nil=>simp at h;simp[h]
   |cons a l=>simp at h;simp;omega
  unfold bW
  rw[bH,ih,he]
  unfold ON
  grind
def dw:List GStep->Int×Int×Int
 |[]=>(0,0,0)
 |s::l=>match dw s.aH,dw s.aJ,dw l with
  |a,b,c=>if s.bG=1 then(1+c.1,1+c.2.1,s.aL+c.2.2)
   else if s.bG=3 then(1+max a.1 b.1+c.1,max a.2.1 b.2.1+c.2.1,s.aL+max a.2.2 b.2.2+c.2.2)
   else if s.bG=4 then(1+s.fN*(1+a.1)+c.1,s.fN*a.2.1+c.2.1,s.fN*(s.aL+a.2.2)+c.2.2)
   else(1+c.1,c.2.1,s.aL+c.2.2)
termination_by l=>SizeOf.sizeOf l
decreasing_by
 ·exact(aQ (List.mem_cons_self ..)).1
 ·exact(aQ (List.mem_cons_self ..)).2
 ·exact cT _ _
def Md(f:Flat):Bool:=decide (4096<(dw f.bw).1\/8<(dw f.bw).2.1\/67108864<(dw f.bw).2.2)
def xq(f:Flat):Int:=if qS f=false then 4 else if j9 f.ah≠0 then j9 f.ah else if bW (jE f) f.ai 0≠0 then bW (jE f) f.ai 0 else if bH f true f.bw≠0 then bH f true f.bw else if Md f=true then 4 else 0
end Go.Proofs.YtnfljbehcffmcaaGreat
end
