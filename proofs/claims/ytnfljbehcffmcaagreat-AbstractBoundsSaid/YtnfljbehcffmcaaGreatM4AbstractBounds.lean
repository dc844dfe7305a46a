/- Merged: Ne1, Pl2, Ne2, Ne3, Ne4, Ne5, Ne6, Ne7, Ne8, Ne11, Ne12, Ne13, Ne14, Ne15, Ne16, Ne17, Ne18, Ne19, Ne20, Ne21, Ne22, Ne23, Ne24, Ne25, Ne26, Ne27, Ne28, Ne29, Ga, Pfew, Pd. -/
import Derived.Test.YtnfljbehcffmcaaGreatM3AbstractBounds
import Derived.Test.YtnfljbehcffmcaaGreatM2AbstractBounds
open Int renaming toNat_natCast → za, le_refl → zk, mul_nonneg → zo, mul_comm → zw, mul_le_mul_of_nonneg_right → zF, mul_assoc → zI, ediv_nonneg → zL, add_mul → zM, one_mul → zN, dvd_trans → zO, ediv_le_self → z7, sub_mul → yf, dvd_sub → yh, gcd → yp, mul_ediv_add_emod → yL, emod_nonneg → yM, mul_le_mul → yN, dvd_add → yO, emod_lt_of_pos → yP, mul_add → yQ, dvd_zero → yV, ediv_mul_le → yW, dvd_mul_left → y7, dvd_mul_right → y9, natCast_mul → xh, zero_mul → xz, le_trans → xA, zero_dvd → xB, min_eq_right → xC, zero_sub → xD, mul_neg → xE, ediv_mul_cancel → xT, lt_irrefl → xV, lt_of_mul_lt_mul_right → x8, dvd_of_emod_eq_zero → x9, min_eq_left → we, eq_ofNat_of_zero_le → wv, lt_ediv_add_one_mul_self → wz
open Nat renaming le_trans → zy, add_mul → zZ, mul_le_mul_right → yt, not_lt_zero → yw, lt_succ_iff_lt_or_eq → yU, mod_lt → y4, one_mul → y8, zero_le → xj
open Bool renaming and_eq_true → ze, or_eq_true → yH, true → wE, false → wD
open Option renaming some → zB, some → O, none → wC
open List renaming mem_cons_self → zg, length_append → zh, getElem?_eq_getElem → zl, all_eq_true → zm, mem_cons → zu, mem_singleton → zD, take_length → zG, range → zJ, mem_append → zP, length_take → zU, map_cons → zV, map_append → zY, nil_append → z8, getElem_map → yx, length → yC, map_nil → yG, cons_append → xe, getElem_mem → xo, getElem_of_mem → xK, attach_map_val → xU, sizeOf_lt_of_mem → wA
open Decidable renaming decide → wF
open Go.Proofs.Tryz renaming prog → wG
open Go.Proofs.Tryz
set_option linter.unusedSectionVars false
set_option linter.unusedVariables false
set_option linter.unusedSimpArgs false
noncomputable section
namespace Go.Proofs.YtnfljbehcffmcaaGreat
open Go Go.Iv
def bL(a b:Int):Int:=((yp a b:Nat):Int)
theorem ox{a b:Int}(h1:0<=a)(h2:0<=b):yp b (a.tmod b)=yp a b:=by
 obtain⟨x,rfl⟩:=wv h1
 obtain⟨y,rfl⟩:=wv h2
 rw[jx h1]
 show Nat.gcd y ((x:Int)%(y:Int)).natAbs=Nat.gcd x y
 rw[<-Int.natCast_emod,Int.natAbs_natCast,Nat.gcd_comm,<-Nat.gcd_rec,Nat.gcd_comm]
theorem aeW{a:Int}(h:0<=a):((yp a 0:Nat):Int)=a:=by
 rw[Int.gcd_zero_right];omega
theorem Aj{x:Int}:(bif wF (x=0)then wD else wE)=wF (¬x=0):=by
 by_cases h:x=0
 ·rw[decide_eq_true h,decide_eq_false (fun k=>k h)];rfl
 ·rw[decide_eq_false h,decide_eq_true h];rfl
theorem aja{a b:Int}(h1:0<=a)(h2:0<=b):Bp (j8.mk a b)=O (j8.mk (yp a b) 0):=by
 obtain⟨z,e,⟨x,y,rfl,hx,hy,hg⟩,hs⟩:=kr (rnd:=si) (fun p=>∃x y,p=j8.mk x y/\0<=x/\0<=y/\yp x y=yp a b) (fun p=>p.t1.toNat) (fun p p' ⟨x,y,hp,hx,hy,hg⟩ hn=>by
  subst hp
  have hn:si (j8.mk x y)=O (O p'):=hn
  simp only[si,Aj]at hn
  by_cases h0:y=0
  ·rw[dZ,cond_false]at hn;cases hn
  ·rw[decide_eq_true h0,cond_true,if_pos h0]at hn
   simp only[zB.injEq]at hn
   subst hn
   have m0:=yM x (b:=y) h0
   have m1:=yP x (b:=y) (by omega)
   refine⟨⟨y,x.tmod y,rfl,hy,by rw[jx hx];exact m0,by rw[ox hx hy,hg]⟩,?_⟩
   show (x.tmod y).toNat<y.toNat
   rw[jx hx];omega) ⟨a,b,rfl,h1,h2,rfl⟩
 have h0:y=0:=Decidable.byContradiction fun h0=>hs _ (show si _=O (O _)by
  simp only[si,Aj]
  rw[decide_eq_true h0,cond_true,if_pos h0])
 subst h0
 rw[show Bp=bw si from rfl,e,<-hg,aeW hx]
theorem Aw{a b:Int}(h1:0<=a)(h2:0<=b):Af a b=O (bL a b):=by
 unfold Af
 rw[aja h1 h2]
 rfl
theorem aiB{a b k n:Int}{l:List Int}(h1:0<=a)(h2:0<=b):vQ (ji.mk a b l n k)=O (ji.mk (yp a b) 0 l n k):=by
 obtain⟨z,e,⟨x,y,rfl,hx,hy,hg⟩,hs⟩:=kr (rnd:=rQ) (fun p=>∃x y,p=ji.mk x y l n k/\0<=x/\0<=y/\yp x y=yp a b) (fun p=>p.t5.toNat) (fun p p' ⟨x,y,hp,hx,hy,hg⟩ hn=>by
  subst hp
  have hn:rQ (ji.mk x y l n k)=O (O p'):=hn
  simp only[rQ,Aj]at hn
  by_cases h0:y=0
  ·rw[dZ,cond_false]at hn;cases hn
  ·rw[decide_eq_true h0,cond_true,if_pos h0]at hn
   simp only[zB.injEq]at hn
   subst hn
   have m0:=yM x (b:=y) h0
   have m1:=yP x (b:=y) (by omega)
   refine⟨⟨y,x.tmod y,rfl,hy,by rw[jx hx];exact m0,by rw[ox hx hy,hg]⟩,?_⟩
   show (x.tmod y).toNat<y.toNat
   rw[jx hx];omega) ⟨a,b,rfl,h1,h2,rfl⟩
 have h0:y=0:=Decidable.byContradiction fun h0=>hs _ (show rQ _=O (O _)by
  simp only[rQ,Aj]
  rw[decide_eq_true h0,cond_true,if_pos h0])
 subst h0
 rw[show vQ=bw rQ from rfl,e,<-hg,aeW hx]
theorem Bj{a k k1:Int}{l:List Int}(i:Nat)(h1:0<=a)(hk:k=i)(hk1:k1=i+1)(hi:i<l.length)(hl:l.length<=1000)(h2:0<=l[i]!):rL (m7.mk a l l.length k)=O (O (m7.mk (bL a l[i]!) l l.length k1)):=by
 subst hk hk1
 unfold rL
 simp only
 rw[qz,cond_true,fK,za,aiB h1 h2]
 simp only
 rw[decide_eq_true trivial,cond_true,cond_false,aF]
 rfl
theorem BI{a b:Int}(h1:0<=a)(h2:0<=b):Al [a,b]=O (bL a b):=by
 unfold Al
 rw[show Cu=bw rL from rfl,
  bF (Bj (l:=[a,b]) (k:=0) (k1:=1) 0 (zk 0) rfl rfl (by simp) (by simp) h1),bF (Bj (l:=[a,b]) (k:=1) (k1:=2) 1 (by unfold bL;omega) rfl rfl (by simp) (by simp) h2)]
 rw[bW (by intro r hr;simp[rL]at hr)]
 simp only
 rw[decide_eq_false (by simp),cond_false]
 show O (bL (bL 0 a) b)=_
 unfold bL
 rw[Int.gcd_zero_left,show ((a.natAbs:Nat):Int)=a by omega]
theorem By{a b c:Int}(h1:0<=a)(h2:0<=b)(h3:0<=c):Al [a,b,c]=O (bL (bL a b) c):=by
 unfold Al
 rw[show Cu=bw rL from rfl,
  bF (Bj (l:=[a,b,c]) (k:=0) (k1:=1) 0 (zk 0) rfl rfl (by simp) (by simp) h1),bF (Bj (l:=[a,b,c]) (k:=1) (k1:=2) 1 (by unfold bL;omega) rfl rfl (by simp) (by simp) h2),
  bF (Bj (l:=[a,b,c]) (k:=2) (k1:=3) 2 (by unfold bL;omega) rfl rfl (by simp) (by simp) h3)]
 rw[bW (by intro r hr;simp[rL]at hr)]
 simp only
 rw[decide_eq_false (by simp),cond_false]
 show O (bL (bL (bL 0 a) b) c)=_
 rw[show bL 0 a=a from by unfold bL;rw[Int.gcd_zero_left];omega]
end Go.Proofs.YtnfljbehcffmcaaGreat
end
noncomputable section
namespace Go.Iv
open Go
variable [U:qT] [L:mQ]
def Mj{α β ρ τ:Type}(step:Nat->β->α->β ⊕ ρ)(out:ρ->τ)(fin:β->τ):List α->Nat->β->τ
 |[],_,b=>fin b
 |x::xs,i,b=>match step i b x with
  | .inl b'=>Mj step out fin xs (i+1) b'
  | .inr r=>out r
theorem sY{α β ρ τ:Type}{step:Nat->β->α->β ⊕ ρ}{out:ρ->τ}{fin:β->τ}{x:α}{xs:List α}{i:Nat}{b b':β}(h:step i b x= .inl b'):Mj step out fin (x::xs) i b=Mj step out fin xs (i+1) b':=by
 simp only[Mj,h]
theorem AJ{α β ρ τ:Type}{step:Nat->β->α->β ⊕ ρ}{out:ρ->τ}{fin:β->τ}{x:α}{xs:List α}{i:Nat}{b:β}{r:ρ}(h:step i b x= .inr r):Mj step out fin (x::xs) i b=out r:=by
 simp only[Mj,h]
theorem Xl{γ α β ρ τ:Type}[Inhabited α]{rnd:γ->Option (Option γ)}(l:List α)(mk:Nat->β->γ)(step:Nat->β->α->β ⊕ ρ)(out:ρ->τ)(fin:β->τ)(I:Nat->β->Prop)
  (h1:∀i b,i<l.length->I i b->(∀b',step i b l[i]! = .inl b'->rnd (mk i b)=O (O (mk (i+1) b'))/\I (i+1) b')/\∀r,step i b l[i]! = .inr r->rnd (mk i b)=O wC)
  (h2:∀b,I l.length b->rnd (mk l.length b)=O wC) {b:β} (hb:I 0 b):
  ∃i v,bw rnd (mk 0 b)=O (mk i v)/\I i v/\((i=l.length/\Mj step out fin l 0 b=fin v)\/(i<l.length/\∃r,step i v l[i]! = .inr r/\Mj step out fin l 0 b=out r)):=by
 have key:∀(xs:List α) (i:Nat) (b:β),l.drop i=xs->i<=l.length->I i b->∃j v,bw rnd (mk i b)=O (mk j v)/\I j v/\((j=l.length/\Mj step out fin xs i b=fin v)\/(j<l.length/\∃r,step j v l[j]! = .inr r/\Mj step out fin xs i b=out r)):=by
  intro xs
  induction xs with
  |nil=>
   intro i b hd hi hb
   have:i=l.length:=by have:=congrArg yC hd;simp at this;omega
   subst this
   exact⟨_,b,bW (fun r=>by rw[h2 b hb];simp),hb, .inl ⟨rfl,rfl⟩⟩
  |cons x xs ih=>
   intro i b hd hi hb
   have hil:i<l.length:=by have:=congrArg yC hd;simp at this;omega
   have hx:l[i]! =x:=by
    have:=congrArg List.head? hd
    rw[List.head?_drop,zl hil]at this
    rw[getElem!_pos l i hil]
    simpa using this
   have hd':l.drop (i+1)=xs:=by
    have:=congrArg List.tail hd
    rw[List.tail_drop]at this
    simpa using this
   obtain⟨p1,p2⟩:=h1 i b hil hb
   cases hs:step i b x with
   |inl b'=>
    obtain⟨q1,q2⟩:=p1 b' (by rw[hx];exact hs)
    obtain⟨j,v,e2,e3,e4⟩:=ih (i+1) b' hd' hil q2
    rw[sY hs]
    exact⟨j,v,by rw[bF q1];exact e2,e3,e4⟩
   |inr r=>
    rw[AJ hs]
    exact⟨i,b,bW (fun r'=>by rw[p2 r (by rw[hx];exact hs)];simp),hb, .inr ⟨hil,r,by rw[hx];exact hs,rfl⟩⟩
 exact key l 0 b rfl (xj _) hb
theorem aR{α:Type}[Inhabited α]{l:List α}{i:Nat}(h:i<l.length):l[i]!∈l:=by rw[getElem!_pos l i h];exact xo h
theorem fq{i n:Nat}(h:i<n)(hn:n<=1000000):IntKind.i64.wrap ((i:Int)+1)=((i+1:Nat):Int):=by rw[aF];omega
theorem nB{γ β:Type}{rnd:γ->Option (Option γ)}(n:Nat)(mk:Nat->β->γ)(I S:Nat->β->Prop)
  (h1:∀i b,i<n->I i b->(∃b',rnd (mk i b)=O (O (mk (i+1) b'))/\I (i+1) b')\/(rnd (mk i b)=O wC/\S i b))
  (h2:∀b,I n b->rnd (mk n b)=O wC) {b:β} (hb:I 0 b):
  ∃i v,bw rnd (mk 0 b)=O (mk i v)/\I i v/\(i=n\/(i<n/\S i v)):=by
 have key:∀(k i:Nat) (b:β),i+k=n->I i b->∃j v,bw rnd (mk i b)=O (mk j v)/\I j v/\(j=n\/(j<n/\S j v)):=by
  intro k
  induction k with
  |zero=>
   intro i b hi hb
   have:i=n:=by omega
   subst this
   exact⟨_,b,bW (fun r=>by rw[h2 b hb];simp),hb, .inl rfl⟩
  |succ k ih=>
   intro i b hi hb
   rcases h1 i b (by omega) hb with ⟨b',q1,q2⟩|⟨q1,q2⟩
   ·rw[bF q1]
    exact ih (i+1) b' (by omega) q2
   ·exact⟨i,b,bW (fun r=>by rw[q1];simp),hb, .inr ⟨by omega,q2⟩⟩
 exact key n 0 b (by omega) hb
theorem cz{γ β:Type}{rnd:γ->Option (Option γ)}(n:Nat)(mk:Nat->β->γ)(I:Nat->β->Prop)
  (h1:∀i b,i<n->I i b->∃b',rnd (mk i b)=O (O (mk (i+1) b'))/\I (i+1) b')
  (h2:∀b,I n b->rnd (mk n b)=O wC) {b:β} (hb:I 0 b):∃v,bw rnd (mk 0 b)=O (mk n v)/\I n v:=by
 obtain⟨i,v,e,hi,h⟩:=nB n mk I (fun _ _=>False) (fun i b hi hb=> .inl (h1 i b hi hb)) h2 hb
 rcases h with rfl|⟨_,h⟩
 ·exact⟨v,e,hi⟩
 ·exact h.elim
def bY{α:Type}(c:Nat->α->Int):List α->Nat->Int
 |[],_=>0
 |x::xs,i=>if c i x=0 then bY c xs (i+1)else c i x
theorem qZ{γ α:Type}[Inhabited α]{rnd:γ->Option (Option γ)}(l:List α)(mk:Nat->γ)(c:Nat->α->Int)
  (h1:∀i,i<l.length->(c i l[i]! =0->rnd (mk i)=O (O (mk (i+1))))/\(c i l[i]!≠0->rnd (mk i)=O wC))
  (h2:rnd (mk l.length)=O wC):
  ∃i,bw rnd (mk 0)=O (mk i)/\((i=l.length/\bY c l 0=0)\/(i<l.length/\c i l[i]!≠0/\bY c l 0=c i l[i]!)):=by
 have key:∀(xs:List α) (i:Nat),l.drop i=xs->i<=l.length->∃j,bw rnd (mk i)=O (mk j)/\((j=l.length/\bY c xs i=0)\/(j<l.length/\c j l[j]!≠0/\bY c xs i=c j l[j]!)):=by
  intro xs
  induction xs with
  |nil=>
   intro i hd hi
   have:i=l.length:=by have:=congrArg yC hd;simp at this;omega
   subst this
   exact⟨_,bW (fun r=>by rw[h2];simp), .inl ⟨rfl,rfl⟩⟩
  |cons x xs ih=>
   intro i hd hi
   have hil:i<l.length:=by have:=congrArg yC hd;simp at this;omega
   have hx:l[i]! =x:=by
    have:=congrArg List.head? hd
    rw[List.head?_drop,zl hil]at this
    rw[getElem!_pos l i hil]
    simpa using this
   have hd':l.drop (i+1)=xs:=by
    have:=congrArg List.tail hd
    rw[List.tail_drop]at this
    simpa using this
   obtain⟨p1,p2⟩:=h1 i hil
   unfold bY
   rw[hx]at p1 p2
   by_cases hc:c i x=0
   ·rw[if_pos hc,bF (p1 hc)]
    exact ih (i+1) hd' hil
   ·rw[if_neg hc]
    exact⟨i,bW (fun r=>by rw[p2 hc];simp), .inr ⟨hil,by rw[hx];exact hc,by rw[hx]⟩⟩
 exact key l 0 rfl (xj _)
theorem pg{γ α:Type}[Inhabited α]{rnd:γ->Option (Option γ)}(l:List α)(mk:Nat->γ)(c:Nat->α->Bool)
  (h1:∀i,i<l.length->(c i l[i]! =wE->rnd (mk i)=O (O (mk (i+1))))/\(c i l[i]! =wD->rnd (mk i)=O wC))
  (h2:rnd (mk l.length)=O wC):
  ∃i,bw rnd (mk 0)=O (mk i)/\((i=l.length/\∀j,j<l.length->c j l[j]! =wE)\/(i<l.length/\c i l[i]! =wD)):=by
 obtain⟨i,v,e,hI,h⟩:=nB (β:=Unit) (rnd:=rnd) l.length (fun i _=>mk i) (fun i _=>∀j,j<i->c j l[j]! =wE) (fun i _=>c i l[i]! =wD) (fun i b hi hI=>by
   obtain⟨p1,p2⟩:=h1 i hi
   cases hc:c i l[i]! with
   |true=>exact .inl ⟨(),p1 hc,fun j hj=>by
     rcases yU.1 hj with h|h
     ·exact hI j h
     ·subst h;exact hc⟩
   |false=>exact .inr ⟨p2 hc,rfl⟩) (fun b _=>h2) (b:=()) (fun j hj=>absurd hj (by omega))
 refine⟨i,e,?_⟩
 rcases h with h|h
 ·subst h;exact .inl ⟨rfl,hI⟩
 ·exact .inr h
theorem BK{α:Type}[Inhabited α]{l:List α}{p:α->Bool}(h:∀j,j<l.length->p l[j]! =wE):l.all p=wE:=by
 rw[zm]
 intro x hx
 obtain⟨i,hi,e⟩:=xK hx
 have:=h i hi
 rw[getElem!_pos l i hi,e]at this
 exact this
theorem tD{α:Type}[Inhabited α]{l:List α}{p:α->Bool}{i:Nat}(hi:i<l.length)(h:p l[i]! =wD):l.all p=wD:=by
 cases ha:l.all p with
 |false=>rfl
 |true=>
  rw[zm]at ha
  rw[ha _ (aR hi)]at h
  exact absurd h (by decide)
theorem sP{α:Type}[Inhabited α]{l:List α}{p:α->Bool}(h:∀j,j<l.length->p l[j]! =wD):l.any p=wD:=by
 cases ha:l.any p with
 |false=>rfl
 |true=>
  obtain⟨x,hx,e⟩:=List.any_eq_true.1 ha
  obtain⟨i,hi,e2⟩:=xK hx
  have:=h i hi
  rw[getElem!_pos l i hi,e2,e]at this
  exact absurd this (by decide)
theorem Dg{α:Type}[Inhabited α]{l:List α}{p:α->Bool}{i:Nat}(hi:i<l.length)(h:p l[i]! =wE):l.any p=wE:=
 List.any_eq_true.2 ⟨_,aR hi,h⟩
theorem bA{α:Type}[Inhabited α]{l:List α}{i:Nat}(h:i<l.length):l.take (i+1)=l.take i++[l[i]!]:=by
 rw[getElem!_pos l i h]
 exact(List.take_append_getElem h).symm
end Go.Iv
end
noncomputable section
namespace Go.Proofs.YtnfljbehcffmcaaGreat
open Go Go.Iv
def bU:aD:=aD.mk 1 0 0
structure NN (a:aD):Prop where
 lo: -1099511627776<=a.aa
 hi:a.af<=1099511627776
 le:a.aa<=a.af
 st:(a.aa=a.af/\a.ah=0)\/(a.aa<a.af/\1<=a.ah/\(a.af-a.aa)%a.ah=0)
def NV(a:aD):Prop:=a=bU\/NN a
theorem NN.s0{a:aD}(h:NN a):0<=a.ah:=by rcases h.st with ⟨_,h⟩|⟨_,h,_⟩<;>omega
theorem NN.dvd{a:aD}(h:NN a):a.ah∣a.af-a.aa:=by
 rcases h.st with ⟨h1,h2⟩|⟨_,_,h3⟩
 ·rw[h2,h1];exact⟨0,by omega⟩
 ·exact x9 h3
theorem NN.sle{a:aD}(h:NN a):a.ah<=a.af-a.aa:=by
 rcases h.st with ⟨h1,h2⟩|⟨h1,_,h3⟩
 ·omega
 ·exact Int.le_of_dvd (by omega) (x9 h3)
theorem NN.ne{a:aD}(h:NN a):a≠bU:=fun e=>by
 have:=h.le
 rw[e]at this
 exact absurd this (by decide)
theorem AZ{a b:aD}(h1:a.aa=b.aa)(h2:a.af=b.af)(h3:a.ah=b.ah):a=b:=by
 cases a;cases b;simp only at h1 h2 h3;subst h1 h2 h3;rfl
def cR(x:Int):aD:=aD.mk x x 0
theorem NN.one{x:Int}(h1: -1099511627776<=x)(h2:x<=1099511627776):NN (cR x):=⟨h1,h2,zk _, .inl ⟨rfl,rfl⟩⟩
structure ct (P:Int->Prop) (c:aD):Prop where
 lo:P c.aa
 hi:P c.af
 all:∀x,P x->c.aa<=x/\x<=c.af/\c.ah∣x-c.aa
 nn:0<=c.ah
 best:∀d,(∀x,P x->d∣x-c.aa)->d∣c.ah
theorem ct.uniq{P:Int->Prop}{c d:aD}(h:ct P c)(k:ct P d):c=d:=by
 have e1:c.aa=d.aa:=Int.le_antisymm (h.all _ k.lo).1 (k.all _ h.lo).1
 have e2:c.af=d.af:=Int.le_antisymm (k.all _ h.hi).2.1 (h.all _ k.hi).2.1
 refine AZ e1 e2 (Int.dvd_antisymm h.nn k.nn (k.best _ fun x hx=>by rw[<-e1];exact(h.all x hx).2.2) (h.best _ fun x hx=>by rw[e1];exact(k.all x hx).2.2))
theorem ct.congr{P Q:Int->Prop}{c:aD}(h:ct P c)(k:∀x,P x↔Q x):ct Q c:=
 ⟨(k _).mp h.lo,(k _).mp h.hi,fun x hx=>h.all x ((k x).mpr hx),h.nn,fun d hd=>h.best d fun x hx=>hd x ((k x).mp hx)⟩
theorem ct.valid{P:Int->Prop}{c:aD}(h:ct P c)(hP:∀x,P x-> -1099511627776<=x/\x<=1099511627776):NN c:=by
 have h1:=hP _ h.lo
 have h2:=hP _ h.hi
 obtain⟨h3,_,h4⟩:=h.all _ h.hi
 refine⟨h1.1,h2.2,h3,?_⟩
 have h5:=h.nn
 rcases Int.lt_or_eq_of_le h3 with h6|h6
 ·refine .inr ⟨h6,?_,Int.emod_eq_zero_of_dvd h4⟩
  rcases Int.lt_or_eq_of_le h5 with h7|h7
  ·omega
  ·rw[<-h7]at h4
   have:=xB.mp h4
   omega
 ·refine .inl ⟨h6,?_⟩
  have:=h.best 0 fun x hx=>by
   obtain⟨a1,a2,_⟩:=h.all x hx
   exact⟨0,by omega⟩
  exact xB.mp this
def bz(a:aD)(x:Int):Prop:=a.aa<=x/\x<=a.af/\a.ah∣x-a.aa
theorem NN.eV{a:aD}(h:NN a):ct (bz a) a:=by
 refine⟨⟨zk _,h.le,⟨0,by omega⟩⟩,⟨h.le,zk _,h.dvd⟩,fun x hx=>hx,h.s0,fun d hd=> ?_⟩
 rcases h.st with ⟨h1,h2⟩|⟨h1,h2,h3⟩
 ·rw[h2];exact yV d
 ·have:=hd (a.aa+a.ah) ⟨by omega,by have:=h.sle;omega,⟨1,by omega⟩⟩
  rwa [show a.aa+a.ah-a.aa=a.ah by omega]at this
theorem Dr(x:Int):ct (· =x) (cR x):=
 ⟨rfl,rfl,fun y hy=>⟨Int.le_of_eq hy.symm,Int.le_of_eq hy,⟨0,by rw[hy];simp[cR]⟩⟩,zk _,fun d _=>yV d⟩
theorem jd(a b:Int):bL a b∣a:=Int.gcd_dvd_left ..
theorem n9(a b:Int):bL a b∣b:=Int.gcd_dvd_right ..
theorem hU{d a b:Int}(h1:d∣a)(h2:d∣b):d∣bL a b:=Int.dvd_coe_gcd h1 h2
theorem jT(a b:Int):0<=bL a b:=by unfold bL;omega
theorem gcd_neg(a b:Int):bL a (-b)=bL a b:=by unfold bL;rw[Int.gcd_neg]
def jn(a b:aD):aD:=aD.mk (min a.aa b.aa) (max a.af b.af) (bL (bL a.ah b.ah) (a.aa-b.aa))
def bJ(a b:aD):aD:=open Classical in if a=bU then b else if b=bU then a else jn a b
theorem ct.join{P Q:Int->Prop}{a b:aD}(h:ct P a)(k:ct Q b):ct (fun x=>P x\/Q x) (jn a b):=by
 have g1:bL (bL a.ah b.ah) (a.aa-b.aa)∣a.ah:=zO (jd _ _) (jd _ _)
 have g2:bL (bL a.ah b.ah) (a.aa-b.aa)∣b.ah:=zO (jd _ _) (n9 _ _)
 have g3:bL (bL a.ah b.ah) (a.aa-b.aa)∣a.aa-b.aa:=n9 _ _
 refine⟨?_,?_,fun x hx=> ?_,jT _ _,fun d hd=> ?_⟩
 ·show P (min a.aa b.aa)\/Q (min a.aa b.aa)
  rcases Int.le_total a.aa b.aa with e|e
  ·rw[we e];exact .inl h.lo
  ·rw[xC e];exact .inr k.lo
 ·show P (max a.af b.af)\/Q (max a.af b.af)
  rcases Int.le_total a.af b.af with e|e
  ·rw[Int.max_eq_right e];exact .inr k.hi
  ·rw[Int.max_eq_left e];exact .inl h.hi
 ·show min a.aa b.aa<=x/\x<=max a.af b.af/\bL (bL a.ah b.ah) (a.aa-b.aa)∣x-min a.aa b.aa
  have h0:=Int.min_le_left a.aa b.aa
  have h1:=Int.min_le_right a.aa b.aa
  have h2:=Int.le_max_left a.af b.af
  have h3:=Int.le_max_right a.af b.af
  have both:bL (bL a.ah b.ah) (a.aa-b.aa)∣x-a.aa/\bL (bL a.ah b.ah) (a.aa-b.aa)∣x-b.aa:=by
   rcases hx with hx|hx
   ·have e:=zO g1 (h.all x hx).2.2
    refine⟨e,?_⟩
    have:=yO e g3
    rwa [show x-a.aa+(a.aa-b.aa)=x-b.aa by omega]at this
   ·have e:=zO g2 (k.all x hx).2.2
    refine⟨?_,e⟩
    have:=yh e g3
    rwa [show x-b.aa-(a.aa-b.aa)=x-a.aa by omega]at this
  refine⟨?_,?_,?_⟩
  ·rcases hx with hx|hx
   ·have:=(h.all x hx).1;omega
   ·have:=(k.all x hx).1;omega
  ·rcases hx with hx|hx
   ·have:=(h.all x hx).2.1;omega
   ·have:=(k.all x hx).2.1;omega
  ·rcases Int.le_total a.aa b.aa with e|e
   ·rw[we e];exact both.1
   ·rw[xC e];exact both.2
 ·show d∣bL (bL a.ah b.ah) (a.aa-b.aa)
  have hd:∀x,P x\/Q x->d∣x-min a.aa b.aa:=hd
  have d1:=hd _ (.inl h.lo)
  have d2:=hd _ (.inr k.lo)
  refine hU (hU (h.best d fun x hx=> ?_) (k.best d fun x hx=> ?_)) ?_
  ·have:=yh (hd x (.inl hx)) d1
   rwa [show x-min a.aa b.aa-(a.aa-min a.aa b.aa)=x-a.aa by omega]at this
  ·have:=yh (hd x (.inr hx)) d2
   rwa [show x-min a.aa b.aa-(b.aa-min a.aa b.aa)=x-b.aa by omega]at this
  ·have:=yh d1 d2
   rwa [show a.aa-min a.aa b.aa-(b.aa-min a.aa b.aa)=a.aa-b.aa by omega]at this
theorem dX{a b:aD}(h:NN a)(k:NN b):bJ a b=jn a b:=by
 unfold bJ
 rw[if_neg h.ne,if_neg k.ne]
theorem gG{b:aD}:bJ bU b=b:=by unfold bJ;rw[if_pos rfl]
theorem uD{a:aD}:bJ a bU=a:=by
 unfold bJ
 by_cases h:a=bU
 ·rw[if_pos h,h]
 ·rw[if_neg h,if_pos rfl]
theorem ku{a b:aD}(h:NN a)(k:NN b):NN (jn a b):=(h.eV.join k.eV).valid fun x hx=>by
 have:=h.lo;have:=h.hi;have:=k.lo;have:=k.hi
 rcases hx with ⟨h1,h2,_⟩|⟨h1,h2,_⟩<;>omega
theorem dG{a b:aD}(h:NV a)(k:NV b):NV (bJ a b):=by
 rcases h with rfl|h
 ·rw[gG];exact k
 ·rcases k with rfl|k
  ·rw[uD];exact .inr h
  ·rw[dX h k];exact .inr (ku h k)
theorem Q4{a:aD}(h:NN a):jn a a=a:=
 ((h.eV.join h.eV).congr (fun x=>⟨fun k=>k.elim id id, .inl⟩)).uniq h.eV
end Go.Proofs.YtnfljbehcffmcaaGreat
end
noncomputable section
namespace Go.Proofs.YtnfljbehcffmcaaGreat
open Go Go.Iv
open Go.IntKind (i64)
theorem Ep(a:aD):(bif wF (a.aa=a.aa)then bif wF (a.af=a.af)then bif wF (a.ah=a.ah)then wE else wD else wD else wD)=wE:=by
 rw[decide_eq_true rfl,decide_eq_true rfl,decide_eq_true rfl];rfl
theorem D6{a b:aD}(h:a≠b):(bif wF (a.aa=b.aa)then bif wF (a.af=b.af)then bif wF (a.ah=b.ah)then wE else wD else wD else wD)=wD:=by
 by_cases h1:a.aa=b.aa
 ·by_cases h2:a.af=b.af
  ·by_cases h3:a.ah=b.ah
   ·exact absurd (AZ h1 h2 h3) h
   ·rw[decide_eq_true h1,decide_eq_true h2,decide_eq_false h3];rfl
  ·rw[decide_eq_true h1,decide_eq_false h2];rfl
 ·rw[decide_eq_false h1];rfl
theorem gM:dR bU=wE:=Ep bU
theorem dx{a:aD}(h:a≠bU):dR a=wD:=D6 (b:=bU) h
theorem kT:j0 bU=wE:=rfl
theorem fS{a:aD}(h:NN a):j0 a=wD:=decide_eq_false (by have:=h.le;omega)
theorem iX(x:Int):iR x=wF (-1099511627776<=x/\x<=1099511627776):=by
 unfold iR
 by_cases h: -1099511627776<=x
 ·by_cases k:x<=1099511627776
  ·rw[decide_eq_true h,decide_eq_true k,decide_eq_true ⟨h,k⟩];rfl
  ·rw[decide_eq_true h,decide_eq_false k,decide_eq_false (show ¬(-1099511627776<=x/\x<=1099511627776)from fun e=>k e.2)];rfl
 ·rw[decide_eq_false h,decide_eq_false (show ¬(-1099511627776<=x/\x<=1099511627776)from fun e=>h e.1)];rfl
theorem tA(x:Int):nJ x=wF (-1099511627776<=x/\x<=1099511627776):=iX x
def RL(a:aD):Bool:=open Classical in wF (NV a)
theorem P4{a:aD}:RL a=wE↔NV a:=by unfold RL;exact @decide_eq_true_iff _ (Classical.propDecidable _)
theorem cU{a:aD}(h:NV a):RL a=wE:=P4.mpr h
theorem tW{a:aD}(h:¬NV a):RL a=wD:=by
 cases e:RL a with
 |false=>rfl
 |true=>exact absurd (P4.mp e) h
theorem OG{a:aD}(h0:a≠bU):(match bif bif iR a.aa then wD else wE then O wE else bif bif iR a.af then wD else wE then O wE else O (wF (a.af<a.aa))with|wC=>wC|O r1=>bif r1 then O wD else bif wF (a.aa=a.af)then O (wF (a.ah=0))else match bif wF (1<=a.ah)then if¬a.ah=(0:Int)then O (wF ((i64.wrap (a.af-a.aa)).tmod a.ah=0))else wC else O wD with|wC=>wC|O r2=>O r2)=O (RL a):=by
 rw[iX,iX]
 by_cases h1: -1099511627776<=a.aa/\a.aa<=1099511627776
 ·by_cases h2: -1099511627776<=a.af/\a.af<=1099511627776
  ·by_cases h3:a.af<a.aa
   ·rw[decide_eq_true h1,decide_eq_true h2,decide_eq_true h3,tW (fun k=>by rcases k with k|k;exact h0 k;have:=k.le;omega)];rfl
   ·rw[decide_eq_true h1,decide_eq_true h2,decide_eq_false h3]
    simp only[cond_true,cond_false]
    by_cases h4:a.aa=a.af
    ·rw[decide_eq_true h4,cond_true]
     congr 1
     by_cases h5:a.ah=0
     ·rw[decide_eq_true h5,cU (.inr ⟨h1.1,h2.2,by omega, .inl ⟨h4,h5⟩⟩)]
     ·rw[decide_eq_false h5,tW (fun k=>by rcases k with k|k;exact h0 k;rcases k.st with k|k<;>omega)]
    ·rw[decide_eq_false h4,cond_false]
     by_cases h5:1<=a.ah
     ·rw[decide_eq_true h5,cond_true,fK,aF,jx]
      simp only
      congr 1
      by_cases h6:(a.af-a.aa)%a.ah=0
      ·rw[decide_eq_true h6,cU (.inr ⟨h1.1,h2.2,by omega, .inr ⟨by omega,h5,h6⟩⟩)]
      ·rw[decide_eq_false h6,tW (fun k=>by rcases k with k|k;exact h0 k;rcases k.st with k|k;omega;exact h6 k.2.2)]
     ·rw[decide_eq_false h5,cond_false]
      simp only
      rw[tW (fun k=>by rcases k with k|k;exact h0 k;rcases k.st with k|k<;>omega)]
  ·rw[decide_eq_true h1,decide_eq_false h2,tW (fun k=>by rcases k with k|k;exact h0 k;have:=k.lo;have:=k.hi;have:=k.le;omega)];rfl
 ·rw[decide_eq_false h1,tW (fun k=>by rcases k with k|k;exact h0 k;have:=k.lo;have:=k.hi;have:=k.le;omega)];rfl
theorem dD(a:aD):rE a=O (RL a):=by
 unfold rE
 by_cases h0:a=bU
 ·subst h0;rw[gM,cond_true,cU (.inl rfl)]
 ·rw[dx h0,cond_false];exact OG h0
theorem dU(a:aD):Tb a=O (RL a):=by
 unfold Tb
 by_cases h0:a=bU
 ·subst h0;rw[show oH=bU from rfl,Ep,cond_true,cU (.inl rfl)]
 ·rw[show oH=bU from rfl,D6 h0,cond_false,<-OG h0,show nJ=iR from rfl,iX,iX]
  by_cases h1: -1099511627776<=a.aa/\a.aa<=1099511627776
  ·by_cases h2: -1099511627776<=a.af/\a.af<=1099511627776
   ·rw[decide_eq_true h1,decide_eq_true h2]
    simp only[cond_true,cond_false]
    by_cases h3:a.af<a.aa
    ·rw[decide_eq_false (show ¬a.aa=a.af by omega),decide_eq_true h3,decide_eq_false (show ¬a.aa<a.af by omega)];rfl
    ·rw[decide_eq_false h3,cond_false]
     by_cases h4:a.aa=a.af
     ·rw[decide_eq_true h4];rfl
     ·rw[decide_eq_false h4,cond_false,cond_false,decide_eq_true (show a.aa<a.af by omega),cond_true];rfl
   ·rw[decide_eq_true h1,decide_eq_false h2];rfl
  ·rw[decide_eq_false h1];rfl
def bC(a:aD):Int:=open Classical in if a=bU then 0 else if a.ah=0 then 1 else(a.af-a.aa)/a.ah+1
theorem wsz{a:aD}(h:NN a)(h0:a.ah≠0):i64.wrap (i64.wrap ((i64.wrap (a.af-a.aa)).tdiv a.ah)+1)=(a.af-a.aa)/a.ah+1:=by
 have:=h.lo;have:=h.hi;have:=h.le;have:=h.s0
 have q0:0<=(a.af-a.aa)/a.ah:=zL (by omega) (by omega)
 have q1:(a.af-a.aa)/a.ah<=a.af-a.aa:=z7 _ (by omega)
 rw[aF (n:=a.af-a.aa),ja,aF (n:=(a.af-a.aa)/a.ah),aF]
theorem jG{a:aD}(h:NV a):uX a=O (bC a):=by
 unfold uX bC
 rcases h with rfl|h
 ·rw[gM,if_pos rfl];rfl
 ·rw[dx h.ne,if_neg h.ne,cond_false]
  by_cases h0:a.ah=0
  ·rw[decide_eq_true h0,if_pos h0];rfl
  ·rw[decide_eq_false h0,if_neg h0,cond_false,if_pos h0,wsz h h0]
theorem de{a:aD}(h:NV a):qB a=O (bC a):=by
 unfold qB bC
 rw[dU,cU h]
 simp only[cond_true,cond_false]
 rcases h with rfl|h
 ·rw[kT,if_pos rfl];rfl
 ·rw[fS h,if_neg h.ne,cond_false]
  by_cases h0:a.ah=0
  ·rw[decide_eq_true h0,if_pos h0];rfl
  ·rw[decide_eq_false h0,if_neg h0,cond_false,if_pos h0,wsz h h0]
theorem Yw{a:aD}(h:¬NV a):qB a=O 0:=by
 unfold qB
 rw[dU,tW h];rfl
theorem o8{a:aD}(h:NV a):GY a=O (bC a):=by
 unfold GY
 rw[dD,cU h]
 simp only[cond_true,cond_false]
 rw[jG h]
theorem acC{a:aD}(h:¬NV a):GY a=O 0:=by
 unfold GY
 rw[dD,tW h];rfl
def bQ(a:aD)(x:Int):Bool:=open Classical in wF (bz a x)
theorem fO{a:aD}{x:Int}:bQ a x=wE↔bz a x:=by unfold bQ;exact @decide_eq_true_iff _ (Classical.propDecidable _)
theorem iq{a:aD}{x:Int}(h:¬bz a x):bQ a x=wD:=by
 cases e:bQ a x with
 |false=>rfl
 |true=>exact absurd (fO.mp e) h
theorem jt{a:aD}{x:Int}(h:bz a x):bQ a x=wE:=fO.mpr h
theorem Ag{x:Int}:¬bz bU x:=fun h=>by
 obtain⟨h1,h2,_⟩:=h
 have h1:(1:Int)<=x:=h1
 have h2:x<=0:=h2
 omega
theorem Kw{a:aD}(h:NN a)(x:Int)(h1:a.aa<=x)(h2:x<=a.af):(match bif wF (a.ah=0)then O wE else if¬a.ah=(0:Int)then O (wF ((i64.wrap (x-a.aa)).tmod a.ah=0))else wC with|wC=>wC|O r2=>O r2)=O (bQ a x):=by
 have:=h.lo;have:=h.hi
 by_cases h0:a.ah=0
 ·rw[decide_eq_true h0,cond_true,jt ⟨h1,h2,by rcases h.st with k|k;(rw[h0];exact⟨0,by omega⟩);omega⟩]
 ·rw[decide_eq_false h0,cond_false,if_pos h0,aF,jx]
  simp only
  congr 1
  by_cases k:(x-a.aa)%a.ah=0
  ·rw[decide_eq_true k,jt ⟨h1,h2,x9 k⟩]
  ·rw[decide_eq_false k,iq (fun e=>k (Int.emod_eq_zero_of_dvd e.2.2))]
theorem ER{a:aD}(h:NV a)(x:Int):SQ a x=O (bQ a x):=by
 unfold SQ
 rcases h with rfl|h
 ·rw[gM,iq Ag];rfl
 ·rw[dx h.ne,cond_false]
  by_cases h1:x<a.aa
  ·rw[decide_eq_true h1,iq (fun k=>by have:=k.1;omega)];rfl
  ·by_cases h2:a.af<x
   ·rw[decide_eq_false h1,decide_eq_true h2,iq (fun k=>by have:=k.2.1;omega)];rfl
   ·rw[decide_eq_false h1,decide_eq_false h2]
    simp only[cond_false]
    exact Kw h x (by omega) (by omega)
theorem iQ{a:aD}(h:NV a)(x:Int):m32 a x=O (bQ a x):=by
 unfold m32
 rw[dU,cU h]
 simp only[cond_true,cond_false]
 rcases h with rfl|h
 ·by_cases h1:x<1
  ·rw[show bU.aa=1 from rfl,decide_eq_true h1,iq Ag];rfl
  ·rw[show bU.aa=1 from rfl,show bU.af=0 from rfl,decide_eq_false h1,decide_eq_true (show 0<x by omega),iq Ag];rfl
 ·by_cases h1:x<a.aa
  ·rw[decide_eq_true h1,iq (fun k=>by have:=k.1;omega)];rfl
  ·by_cases h2:a.af<x
   ·rw[decide_eq_false h1,decide_eq_true h2,iq (fun k=>by have:=k.2.1;omega)];rfl
   ·rw[decide_eq_false h1,decide_eq_false h2]
    simp only[cond_false]
    exact Kw h x (by omega) (by omega)
theorem oU{a:aD}(h:NV a)(x:Int):XO a x=O (bQ a x):=by
 unfold XO
 rw[dD,cU h]
 simp only[cond_true]
 rw[ER h]
def iC(lo hi st:Int):aD:=if hi<lo then bU else if st=0 then cR lo else if lo=lo+(hi-lo)/st*st then cR lo else aD.mk lo (lo+(hi-lo)/st*st) st
theorem agp{lo hi st:Int}(h1: -2305843009213693952<=lo)(h2:hi<=2305843009213693952)(h3:lo<=hi)(h4:1<=st):i64.wrap (lo+i64.wrap (i64.wrap ((i64.wrap (hi-lo)).tdiv st)*st))=lo+(hi-lo)/st*st:=by
 have q0:0<=(hi-lo)/st:=zL (by omega) (by omega)
 have q1:(hi-lo)/st<=hi-lo:=z7 _ (by omega)
 have q2:(hi-lo)/st*st<=hi-lo:=yW _ (by omega)
 have q3:0<=(hi-lo)/st*st:=zo q0 (by omega)
 rw[aF (n:=hi-lo),ja,aF (n:=(hi-lo)/st),aF (n:=(hi-lo)/st*st),aF]
theorem mO{lo hi st:Int}(h1: -2305843009213693952<=lo)(h2:hi<=2305843009213693952)(h4:0<=st):lS lo hi st=O (iC lo hi st):=by
 unfold lS iC
 by_cases c1:hi<lo
 ·rw[decide_eq_true c1,if_pos c1];rfl
 ·rw[decide_eq_false c1,if_neg c1,cond_false]
  by_cases c2:st=0
  ·rw[decide_eq_true c2,if_pos c2];rfl
  ·rw[decide_eq_false c2,if_neg c2,cond_false,if_pos c2,agp h1 h2 (by omega) (by omega)]
   by_cases c3:lo=lo+(hi-lo)/st*st
   ·rw[decide_eq_true c3,if_pos c3];rfl
   ·rw[decide_eq_false c3,if_neg c3];rfl
theorem kH{lo hi st:Int}(h1: -1099511627776<=lo/\lo<=1099511627776)(h2: -1099511627776<=hi/\hi<=1099511627776)(h4:1<=st):jA lo hi st=O (iC lo hi st,0):=by
 unfold jA iC
 rw[tA,tA,decide_eq_true h1,decide_eq_true h2,decide_eq_false (show ¬st<1 by omega)]
 simp only[cond_true,cond_false]
 by_cases c1:hi<lo
 ·rw[decide_eq_true c1,if_pos c1];rfl
 ·rw[decide_eq_false c1,if_neg c1,cond_false,if_neg (show ¬st=0 by omega),fK,agp (by omega) (by omega) (by omega) h4]
  by_cases c3:lo=lo+(hi-lo)/st*st
  ·rw[<-c3,decide_eq_true rfl,if_pos rfl];rfl
  ·rw[decide_eq_false c3,if_neg c3];rfl
theorem IB{lo hi st:Int}(h1:lo<=hi)(h2:0<=st)(h3:st∣hi-lo)(h4:lo=hi->st=0):iC lo hi st=aD.mk lo hi st:=by
 unfold iC
 rw[nH]
 by_cases c:st=0
 ·rw[if_pos c]
  subst c
  have:=xB.mp h3
  unfold cR
  rw[show hi=lo by omega]
 ·rw[if_neg c,xT h3,show lo+(hi-lo)=hi by omega,if_neg (fun e=>c (h4 e))]
theorem kM{lo hi st:Int}(h1: -1099511627776<=lo)(h2:hi<=1099511627776)(h3:lo<=hi)(h4:0<=st):NN (iC lo hi st):=by
 unfold iC
 rw[nH]
 by_cases c:st=0
 ·rw[if_pos c];exact NN.one h1 (by omega)
 ·rw[if_neg c]
  have q0:0<=(hi-lo)/st:=zL (by omega) (by omega)
  have q2:(hi-lo)/st*st<=hi-lo:=yW _ (by omega)
  have q3:0<=(hi-lo)/st*st:=zo q0 (by omega)
  by_cases c3:lo=lo+(hi-lo)/st*st
  ·rw[if_pos c3];exact NN.one h1 (by omega)
  ·rw[if_neg c3]
   refine⟨h1,by show lo+(hi-lo)/st*st<=_;omega,by show lo<=lo+(hi-lo)/st*st;omega, .inr ⟨by show lo<lo+(hi-lo)/st*st;omega,by show 1<=st;omega,?_⟩⟩
   show (lo+(hi-lo)/st*st-lo)%st=0
   rw[show lo+(hi-lo)/st*st-lo=(hi-lo)/st*st by omega]
   exact Int.mul_emod_left _ _
theorem Je{lo hi st x:Int}(h3:lo<=hi)(h4:1<=st):bz (iC lo hi st) x↔lo<=x/\x<=hi/\st∣x-lo:=by
 unfold iC
 rw[nH,nH]
 have q2:(hi-lo)/st*st<=hi-lo:=yW _ (by omega)
 have q4:=wz (hi-lo) (show 0<st by omega)
 rw[zM,zN]at q4
 by_cases c3:lo=lo+(hi-lo)/st*st
 ·rw[if_pos c3]
  constructor
  ·rintro⟨k1,k2,_⟩
   have k1:lo<=x:=k1
   have k2:x<=lo:=k2
   exact⟨k1,by omega,⟨0,by omega⟩⟩
  ·rintro⟨k1,k2,k3⟩
   have:x-lo<st:=by omega
   have e:x-lo=0:=Decidable.byContradiction fun h=>absurd (Int.le_of_dvd (by omega) k3) (by omega)
   exact⟨k1,by show x<=lo;omega,by show 0∣x-lo;rw[e];exact⟨0,rfl⟩⟩
 ·rw[if_neg c3]
  constructor
  ·rintro⟨k1,k2,k3⟩
   have k2:x<=lo+(hi-lo)/st*st:=k2
   exact⟨k1,by omega,k3⟩
  ·rintro⟨k1,k2,k3⟩
   refine⟨k1,?_,k3⟩
   show x<=lo+(hi-lo)/st*st
   obtain⟨q,hq⟩:=k3
   rw[zw]at hq
   have:q<(hi-lo)/st+1:=x8 (a:=st) (by rw[zM,zN];omega) (by omega)
   have:q*st<=(hi-lo)/st*st:=zF (by omega) (by omega)
   omega
theorem I3(g x v:Int)(hx: -1099511627776<=x/\x<=1099511627776)(hv: -1099511627776<=v/\v<=1099511627776):(0:Int)<=ig x v/\bL g (ig x v)=bL g (x-v):=by
 unfold ig
 by_cases c:x<v
 ·rw[decide_eq_true c,cond_true,aF]
  exact⟨by omega,by rw[<-gcd_neg,show-(v-x)=x-v by omega]⟩
 ·rw[decide_eq_false c,cond_false,aF]
  exact⟨by omega,rfl⟩
theorem ct.snoc{P:Int->Prop}{c:aD}{v:Int}(h:ct P c)(hv:P v)(x:Int):ct (fun y=>P y\/y=x) (aD.mk (min c.aa x) (max c.af x) (bL c.ah (x-v))):=by
 have e:bL (bL c.ah 0) (c.aa-x)=bL c.ah (x-v):=by
  have d:=(h.all v hv).2.2
  refine Int.dvd_antisymm (jT _ _) (jT _ _) (hU (zO (jd _ _) (jd _ _)) ?_) (hU (hU (jd _ _) (yV _)) ?_)
  ·have k1:bL (bL c.ah 0) (c.aa-x)∣c.aa-x:=n9 _ _
   have k2:bL (bL c.ah 0) (c.aa-x)∣v-c.aa:=zO (zO (jd _ _) (jd _ _)) d
   have:=Int.dvd_neg.mpr (yO k1 k2)
   rwa [show-(c.aa-x+(v-c.aa))=x-v by omega]at this
  ·have k1:bL c.ah (x-v)∣x-v:=n9 _ _
   have k2:bL c.ah (x-v)∣v-c.aa:=zO (jd _ _) d
   have:=Int.dvd_neg.mpr (yO k1 k2)
   rwa [show-(x-v+(v-c.aa))=c.aa-x by omega]at this
 have:=h.join (Dr x)
 unfold jn cR at this
 rw[e]at this
 exact this
end Go.Proofs.YtnfljbehcffmcaaGreat
end
noncomputable section
namespace Go.Proofs.YtnfljbehcffmcaaGreat
open Go Go.Iv
def bO(x:Int):Prop:= -1099511627776<=x/\x<=1099511627776
instance (x:Int):Decidable (bO x):=inferInstanceAs (Decidable (_/\_))
theorem BB(x:Int):nJ x=wF (bO x):=tA x
theorem ajm{l:List Int}{b0 c:aD}(i:Nat)(hi:i+1<l.length)(hl:l.length<=1000000)(hr:∀x∈l,bO x)(hc:ct (· ∈l.take (i+1)) c):
  ∃c',rS (gO.mk l (i+1:Nat) b0 c)=O (O (gO.mk l (i+1+1:Nat) b0 c'))/\ct (· ∈l.take (i+1+1)) c':=by
 have hx:bO l[i+1]! :=hr _ (aR hi)
 have h0:bO l[0]! :=hr _ (aR (by omega))
 have hm:l[0]!∈l.take (i+1):=by
  have:(l.take (i+1))[0]! =l[0]! :=by
   rw[getElem!_pos _ 0 (by rw[zU];omega),getElem!_pos l 0 (by omega),List.getElem_take]
  rw[<-this]
  exact aR (by rw[zU];omega)
 have hs:=hc.snoc hm l[i+1]!
 obtain⟨g0,g1⟩:=I3 c.ah l[i+1]! l[0]! hx h0
 refine⟨_,?_,hs.congr fun y=> ?_⟩
 ·unfold rS
  simp only
  rw[qz,cond_true,fK,fK,za,Aw hc.nn g0,g1]
  simp only
  rw[aF,show ((i+1:Nat):Int)+1=((i+1+1:Nat):Int)by omega]
  have hci:(0:Int)<=((i+1:Nat):Int)/\((i+1:Nat):Int)<(l.length:Int):=by omega
  by_cases c1:l[i+1]! <c.aa
  ·rw[xC (by omega)]
   by_cases c2:c.af<l[i+1]!
   ·have:=(hc.all _ hc.lo).2.1
    omega
   ·rw[Int.max_eq_left (by omega)]
    simp only[decide_eq_true c1,decide_eq_false c2,if_pos hci,cond_true,cond_false]
  ·rw[we (by omega)]
   by_cases c2:c.af<l[i+1]!
   ·rw[Int.max_eq_right (by omega)]
    simp only[decide_eq_false c1,decide_eq_true c2,if_pos hci,cond_true,cond_false]
   ·rw[Int.max_eq_left (by omega)]
    simp only[decide_eq_false c1,decide_eq_false c2,if_pos hci,cond_false]
 ·rw[bA (i:=i+1) hi,zP,zD]
theorem F1{l:List Int}(hn:l≠[])(hl:l.length<=1000000)(hr:∀x∈l,bO x):∃c,RK l=O (c,0)/\ct (· ∈l) c:=by
 have hp:0<l.length:=List.length_pos_iff.mpr hn
 obtain⟨c,e1,hc⟩:=cz (rnd:=rS) (l.length-1) (fun i (c:aD)=>gO.mk l (i+1:Nat) (aD.mk 0 0 0) c) (fun i c=>ct (· ∈l.take (i+1)) c)
  (fun i c hi hI=>ajm i (by omega) hl hr hI)
  (fun c hI=>by
   unfold rS
   simp only
   rw[dZ]
   rfl) (b:=cR l[0]!) ((Dr l[0]!).congr fun x=>by
   rw[bA hp]
   simp)
 have e0:bw vR (k8.mk l 0 (aD.mk 0 0 0))=O (k8.mk l (l.length:Nat) (aD.mk 0 0 0)):=Jh (rnd:=vR) (fun i=>k8.mk l (i:Nat) (aD.mk 0 0 0)) l.length (fun i hi=>by
  unfold vR
  simp only
  rw[qz,cond_true,fK,za,BB,decide_eq_true (hr _ (aR hi)),fq hi hl]
  rfl) (fun r=>by
  unfold vR
  simp only
  rw[dZ]
  intro h
  cases h)
 refine⟨c,?_,hc.congr fun x=>by rw[show l.length-1+1=l.length by omega,zG]⟩
 unfold RK
 rw[show FI=bw vR from rfl,e0]
 simp only
 rw[dZ,cond_false,dZ,cond_false,fK,fK]
 have e1:bw rS (gO.mk l 1 (aD.mk 0 0 0) (aD.mk l[0]! l[0]! 0))=O (gO.mk l ((l.length-1+1:Nat):Int) (aD.mk 0 0 0) c):=e1
 rw[show GG=bw rS from rfl,e1]
 simp only
 rw[dZ]
 rfl
theorem NN.pT{a:aD}(h:NN a):bO a.aa:=⟨h.lo,by have:=h.le;have:=h.hi;omega⟩
theorem NN.wQ{a:aD}(h:NN a):bO a.af:=⟨by have:=h.le;have:=h.lo;omega,h.hi⟩
theorem GI{x:Int}(h1: -2199023255552<=x)(h2:x<=2199023255552):(0:Int)<=iB x/\((iB x:Int)=x\/(iB x:Int)= -x):=by
 unfold iB
 rw[aF (n:=0-x)]
 by_cases c:x<0-x
 ·rw[if_pos c];exact⟨by omega, .inr (show (0:Int)-x= -x by omega)⟩
 ·rw[if_neg c];exact⟨by omega, .inl rfl⟩
theorem Uv(g:Int){x:Int}(h1: -2199023255552<=x)(h2:x<=2199023255552):bL g (iB x)=bL g x:=by
 rcases (GI h1 h2).2 with e|e
 ·rw[e]
 ·rw[e,gcd_neg]
theorem gI{a b:aD}(ha:NV a)(hb:NV b):kF a b=O (bJ a b):=by
 unfold kF
 rcases ha with rfl|ha
 ·rw[gM,gG];rfl
 rw[dx ha.ne,cond_false]
 rcases hb with rfl|hb
 ·rw[gM,uD];rfl
 rw[dx hb.ne,cond_false]
 by_cases e:a=b
 ·subst e
  rw[Ep,dX ha ha,Q4 ha];rfl
 ·rw[D6 e]
  simp only[cond_false]
  have:=ha.lo;have:=ha.hi;have:=ha.le;have:=hb.lo;have:=hb.hi;have:=hb.le
  rw[aF (n:=a.aa-b.aa),By ha.s0 hb.s0 (GI (by omega) (by omega)).1,Uv _ (by omega) (by omega)]
  simp only
  rw[show (if b.aa<a.aa then b.aa else a.aa)=min a.aa b.aa by split<;>omega,show (if a.af<b.af then b.af else a.af)=max a.af b.af by split<;>omega,mO (by omega) (by omega) (jT _ _)]
  simp only
  have hj:=ku ha hb
  rw[dX ha hb]
  exact congrArg some (IB hj.le hj.s0 hj.dvd (fun k=>by rcases hj.st with h|h;exact h.2;exact absurd k (Int.ne_of_lt h.1)))
theorem e9{a b:aD}(ha:NV a)(hb:NV b):jF a b=O (bJ a b):=by
 unfold jF
 rcases ha with rfl|ha
 ·rw[kT,gG];rfl
 rw[fS ha,cond_false]
 rcases hb with rfl|hb
 ·rw[kT,uD];rfl
 rw[fS hb,cond_false]
 obtain⟨c,e,hc⟩:=F1 (l:=[a.aa,a.af,b.aa,b.af]) (by simp) (by simp) (fun x hx=>by
  simp only[zu,List.not_mem_nil,or_false]at hx
  rcases hx with rfl|rfl|rfl|rfl
  ·exact ha.pT
  ·exact ha.wQ
  ·exact hb.pT
  ·exact hb.wQ)
 rw[e]
 simp only
 have m:∀x,(x=a.aa\/x=a.af\/x=b.aa\/x=b.af)->x∈[a.aa,a.af,b.aa,b.af]:=fun x hx=>by simpa using hx
 have h1:=hc.lo
 have h2:=hc.hi
 simp only[zu,List.not_mem_nil,or_false]at h1 h2
 have p1:=hc.all _ (m a.aa (by simp))
 have p2:=hc.all _ (m a.af (by simp))
 have p3:=hc.all _ (m b.aa (by simp))
 have p4:=hc.all _ (m b.af (by simp))
 have:=ha.le
 have:=hb.le
 have e1:c.aa=min a.aa b.aa:=by omega
 have e2:c.af=max a.af b.af:=by omega
 have hj:=ku ha hb
 rw[dX ha hb]
 by_cases k:c.aa<c.af
 ·rw[decide_eq_true k,cond_true,Aw ha.s0 hb.s0]
  simp only
  obtain⟨g0,g1⟩:=I3 (bL a.ah b.ah) a.aa b.aa ha.pT hb.pT
  rw[Aw (jT _ _) g0,g1,e1,e2]
  rfl
 ·rw[decide_eq_false k,cond_false]
  congr 1
  refine AZ e1 e2 ?_
  have hcv:NN c:=hc.valid (fun x hx=>by
   simp only[zu,List.not_mem_nil,or_false]at hx
   rcases hx with rfl|rfl|rfl|rfl
   ·exact ha.pT
   ·exact ha.wQ
   ·exact hb.pT
   ·exact hb.wQ)
  have s1:c.ah=0:=by rcases hcv.st with h|h;exact h.2;omega
  have s2:(jn a b).ah=0:=by
   rcases hj.st with h|h
   ·exact h.2
   ·have:min a.aa b.aa<max a.af b.af:=h.1
    omega
  rw[s1,s2]
theorem Zx{a b:aD}(ha:NV a)(hb:NV b):ad5 a b=O (bJ a b,0):=by
 unfold ad5
 rw[dD,dD,cU ha,cU hb]
 simp only[cond_true,cond_false]
 rw[gI ha hb]
theorem Ll{a:aD}(h:NV a):bJ a a=a:=by
 rcases h with rfl|h
 ·exact gG
 ·rw[dX h h,Q4 h]
theorem mL{a b:aD}(ha:NV a)(hb:NV b):ue a b=O (bJ a b):=by
 unfold ue
 by_cases e:a=b
 ·subst e
  rw[Ep,Ll ha];rfl
 ·rw[D6 e,cond_false,Zx ha hb]
def bM(a:aD):Bool:=if 1<bC a then wE else if bC a=1 then !bQ a 0 else wD
theorem uk{a:aD}(h:NN a):bC a=if a.ah=0 then 1 else(a.af-a.aa)/a.ah+1:=by
 unfold bC
 rw[if_neg h.ne]
theorem size_pos{a:aD}(h:NN a):1<=bC a:=by
 rw[uk h]
 split
 ·omega
 ·have:0<=(a.af-a.aa)/a.ah:=zL (by have:=h.le;omega) h.s0
  omega
theorem dJ{a:aD}(h:NN a):bC a=1↔a.aa=a.af:=by
 rw[uk h]
 have hl:=h.le
 rcases h.st with ⟨h1,h2⟩|⟨h1,h2,h3⟩
 ·rw[if_pos h2];exact⟨fun _=>h1,fun _=>rfl⟩
 ·rw[nH]
  constructor
  ·intro k
   have:=xT (x9 h3)
   rw[show (a.af-a.aa)/a.ah=0 by omega,xz]at this
   omega
  ·omega
theorem AA{a:aD}(h:NV a):MH a=O (bQ a 0,bM a):=by
 unfold MH bM
 rw[ER h,jG h]
 simp only
 by_cases c:1<bC a
 ·rw[decide_eq_true c,if_pos c];rfl
 ·rw[decide_eq_false c,if_neg c,cond_false]
  by_cases c1:bC a=1
  ·rw[decide_eq_true c1,if_pos c1,cond_true]
   rcases h with rfl|h
   ·exfalso
    unfold bC at c1
    rw[if_pos rfl]at c1
    omega
   ·have e:=(dJ h).mp c1
    have s:a.ah=0:=by rcases h.st with k|k;exact k.2;omega
    by_cases c2:a.aa=0
    ·rw[decide_eq_true c2,jt (show bz a 0 from⟨by omega,by omega,⟨0,by omega⟩⟩)];rfl
    ·rw[decide_eq_false c2,iq (show ¬bz a 0 from fun k=>by have:=k.1;have:=k.2.1;omega)];rfl
  ·rw[decide_eq_false c1,if_neg c1];rfl
theorem ni{a:aD}(h:NV a):BL a=O (bQ a 0,bM a):=by
 unfold BL bM
 rw[iQ h,de h]
 simp only
 by_cases c:1<bC a
 ·rw[decide_eq_true c,if_pos c];rfl
 ·rw[decide_eq_false c,if_neg c,cond_false]
  by_cases c1:bC a=1
  ·rw[decide_eq_true c1,if_pos c1,cond_true]
   cases bQ a 0<;>rfl
  ·rw[decide_eq_false c1,if_neg c1];rfl
theorem Ap{a:aD}(h:NV a):Mc a=O (bQ a 0,bM a):=by
 unfold Mc
 rw[dD,cU h]
 simp only[cond_true,cond_false]
 rw[AA h]
def gR:Bool->Bool->aD
 |true,wE=>aD.mk 0 1 1
 |true,wD=>aD.mk 0 0 0
 |false,wE=>aD.mk 1 1 0
 |false,wD=>bU
theorem NY{a b:Bool}(h:(a||b)=wE):iu a b=gR a b:=by
 cases a<;>cases b<;>first|rfl|cases h
theorem Qe(a b:Bool):nN a b=O (gR a b):=by
 have v0:NN (cR 0):=NN.one (by omega) (by omega)
 have v1:NN (cR 1):=NN.one (by omega) (by omega)
 have e:bJ (cR 0) (cR 1)=aD.mk 0 1 1:=by rw[dX v0 v1];rfl
 unfold nN
 cases a<;>cases b
 ·rfl
 ·simp only[cond_false,cond_true]
  rw[show gQ=bU from rfl,gI (.inl rfl) (.inr (show NN (fT 1)from v1)),gG]
  rfl
 ·simp only[cond_false,cond_true]
  rw[show gQ=bU from rfl,gI (.inl rfl) (.inr (show NN (fT 0)from v0)),gG]
  rfl
 ·simp only[cond_true]
  rw[show gQ=bU from rfl,gI (.inl rfl) (.inr (show NN (fT 0)from v0)),gG]
  simp only
  rw[gI (.inr (show NN (fT 0)from v0)) (.inr (show NN (fT 1)from v1)),show bJ (fT 0) (fT 1)=bJ (cR 0) (cR 1)from rfl,e]
  rfl
theorem th(a b:Bool):NV (gR a b):=by
 cases a<;>cases b
 ·exact .inl rfl
 ·exact .inr (NN.one (x:=1) (by omega) (by omega))
 ·exact .inr (NN.one (x:=0) (by omega) (by omega))
 ·exact .inr ⟨by decide,by decide,by decide, .inr ⟨by decide,by decide,by decide⟩⟩
def ld(P:Int->Prop)(c:aD):Prop:=(c=bU/\∀x,¬P x)\/(ct P c)
theorem ld.uniq{P:Int->Prop}{c d:aD}(h:ld P c)(k:ld P d):c=d:=by
 rcases h with ⟨h1,h2⟩|h<;>rcases k with ⟨k1,k2⟩|k
 ·rw[h1,k1]
 ·exact absurd k.lo (h2 _)
 ·exact absurd h.lo (k2 _)
 ·exact h.uniq k
theorem ld.congr{P Q:Int->Prop}{c:aD}(h:ld P c)(k:∀x,P x↔Q x):ld Q c:=by
 rcases h with ⟨h1,h2⟩|h
 ·exact .inl ⟨h1,fun x hx=>h2 x ((k x).mpr hx)⟩
 ·exact .inr (h.congr k)
theorem ld.valid{P:Int->Prop}{c:aD}(h:ld P c)(hP:∀x,P x->bO x):NV c:=by
 rcases h with ⟨h1,h2⟩|h
 ·exact .inl h1
 ·exact .inr (h.valid hP)
theorem ld.none{P:Int->Prop}(h:∀x,¬P x):ld P bU:= .inl ⟨rfl,h⟩
theorem ld.join{P Q:Int->Prop}{a b:aD}(h:ld P a)(k:ld Q b)(ha:NV a)(hb:NV b):ld (fun x=>P x\/Q x) (bJ a b):=by
 rcases h with ⟨rfl,h2⟩|h
 ·rw[gG]
  exact k.congr fun x=>⟨.inr,fun e=>e.elim (fun e=>absurd e (h2 x)) id⟩
 ·rcases k with ⟨rfl,k2⟩|k
  ·rw[uD]
   exact .inr (h.congr fun x=>⟨.inl,fun e=>e.elim id (fun e=>absurd e (k2 x))⟩)
  ·have hn:∀{P:Int->Prop} {c:aD},ct P c->NV c->NN c:=fun{P c} e v=>by
    rcases v with rfl|v
    ·have:=(e.all _ e.lo).2.1
     exact absurd this (by decide)
    ·exact v
   rw[dX (hn h ha) (hn k hb)]
   exact .inr (h.join k)
theorem ld.mem{a:aD}(h:NV a):ld (bz a) a:=by
 rcases h with rfl|h
 ·exact .inl ⟨rfl,fun x=>Ag⟩
 ·exact .inr h.eV
theorem Sh{a:aD}(h:NV a){x:Int}(hx:bz a x):bO x:=by
 rcases h with rfl|h
 ·exact absurd hx Ag
 ·have:=h.lo;have:=h.hi;have:=hx.1;have:=hx.2.1
  exact⟨by omega,by omega⟩
theorem abc{lo hi st:Int}(h1:lo<=hi)(h2:1<=st):(iC lo hi st).af=lo+(hi-lo)/st*st:=by
 unfold iC
 rw[nH,nH]
 by_cases c3:lo=lo+(hi-lo)/st*st
 ·rw[if_pos c3];exact c3
 ·rw[if_neg c3]
theorem NN.st1{a:aD}(h:NN a)(k:a.aa<a.af):1<=a.ah:=by rcases h.st with h|h<;>omega
def Ex(P:Int->Prop)(c:aD):Prop:=NV c/\∀x,bz c x↔P x
theorem Ex.rep{P:Int->Prop}{c:aD}(h:Ex P c):ld P c:=(ld.mem h.1).congr h.2
theorem OR{a:aD}(h:NN a){at_:Int}(h1:a.aa<=at_)(h2:at_<a.af):Ex (fun x=>bz a x/\x<=at_) (iC a.aa at_ a.ah):=by
 have hs:=h.st1 (by omega)
 have hl:=h.lo;have hh:=h.hi
 refine⟨.inr (kM hl (by omega) h1 h.s0),fun x=> ?_⟩
 rw[Je h1 hs]
 exact⟨fun⟨k1,k2,k3⟩=>⟨⟨k1,by omega,k3⟩,k2⟩,fun⟨⟨k1,_,k3⟩,k2⟩=>⟨k1,k2,k3⟩⟩
theorem IG{a:aD}(h:NN a){at_:Int}(h1:a.aa<=at_)(h2:at_<a.af):
  Ex (fun x=>bz a x/\at_<x) (iC (a.aa+((at_-a.aa)/a.ah+1)*a.ah) a.af a.ah)/\a.aa<a.aa+((at_-a.aa)/a.ah+1)*a.ah/\a.aa+((at_-a.aa)/a.ah+1)*a.ah<=a.af:=by
 have hs:=h.st1 (by omega)
 have hl:=h.lo;have hh:=h.hi
 have q2:(at_-a.aa)/a.ah*a.ah<=at_-a.aa:=yW _ (by omega)
 have q4:=wz (at_-a.aa) (show 0<a.ah by omega)
 have up:∀x,a.ah∣x-a.aa->at_<x->a.aa+((at_-a.aa)/a.ah+1)*a.ah<=x:=fun x hd hx=>by
  obtain⟨q,hq⟩:=hd
  rw[zw]at hq
  have:(at_-a.aa)/a.ah<q:=x8 (a:=a.ah) (by omega) (by omega)
  have:((at_-a.aa)/a.ah+1)*a.ah<=q*a.ah:=zF (by omega) (by omega)
  omega
 have hle:=up a.af h.dvd h2
 have hd:a.ah∣((at_-a.aa)/a.ah+1)*a.ah:=y7 ..
 refine⟨⟨.inr (kM (by omega) hh hle h.s0),fun x=> ?_⟩,by omega,hle⟩
 rw[Je hle hs]
 constructor
 ·rintro⟨k1,k2,k3⟩
  have:=yO k3 hd
  rw[show x-(a.aa+((at_-a.aa)/a.ah+1)*a.ah)+((at_-a.aa)/a.ah+1)*a.ah=x-a.aa by omega]at this
  exact⟨⟨by omega,k2,this⟩,by omega⟩
 ·rintro⟨⟨k1,k2,k3⟩,k4⟩
  have:=yh k3 hd
  rw[show x-a.aa-((at_-a.aa)/a.ah+1)*a.ah=x-(a.aa+((at_-a.aa)/a.ah+1)*a.ah)by omega]at this
  exact⟨up x k3 k4,k2,this⟩
theorem AG{a:aD}(h:NV a){Q:Int->Prop}(k:∀x,bz a x->Q x):Ex (fun x=>bz a x/\Q x) a:=⟨h,fun x=>⟨fun e=>⟨e,k x e⟩,fun e=>e.1⟩⟩
theorem om{a:aD}{Q:Int->Prop}(k:∀x,bz a x->¬Q x):Ex (fun x=>bz a x/\Q x) bU:=⟨.inl rfl,fun x=>⟨fun e=>absurd e Ag,fun e=>absurd e.2 (k x e.1)⟩⟩
theorem tM{a:aD}(h:NV a)(at_:Int):∃l u,Ac a at_=O (l,u)/\Ex (fun x=>bz a x/\x<=at_) l/\Ex (fun x=>bz a x/\at_<x) u:=by
 unfold Ac
 rcases h with rfl|h
 ·refine⟨bU,bU,?_,om fun x hx=>absurd hx Ag,om fun x hx=>absurd hx Ag⟩
  rw[gM];rfl
 ·rw[dx h.ne,cond_false]
  have hle:=h.le;have hl:=h.lo;have hh:=h.hi
  by_cases c1:at_<a.aa
  ·rw[decide_eq_true c1]
   exact⟨bU,a,rfl,om fun x hx k=>by have:=hx.1;omega,AG (.inr h) fun x hx=>by have:=hx.1;omega⟩
  ·rw[decide_eq_false c1]
   simp only[cond_false]
   by_cases c2:a.af<=at_
   ·rw[decide_eq_true c2]
    exact⟨a,bU,rfl,AG (.inr h) fun x hx=>by have:=hx.2.1;omega,om fun x hx k=>by have:=hx.2.1;omega⟩
   ·have hs:=h.st1 (by omega)
    obtain⟨r1,r2,r3⟩:=IG h (at_:=at_) (by omega) (by omega)
    have e:a.aa+((at_-a.aa)/a.ah+1)*a.ah=a.aa+(at_-a.aa)/a.ah*a.ah+a.ah:=by rw[zM,zN];omega
    rw[e]at r1 r2 r3
    rw[decide_eq_false c2,cond_false,mO (by omega) (by omega) h.s0]
    simp only
    rw[abc (by omega) hs,aF,mO (by omega) (by omega) h.s0]
    exact⟨_,_,rfl,OR h (by omega) (by omega),r1⟩
theorem Gb{a:aD}(h:NV a)(at_:Int):∃l,m41 a at_=O l/\Ex (fun x=>bz a x/\x<=at_) l:=by
 unfold m41
 rcases h with rfl|h
 ·exact⟨bU,rfl,om fun x hx=>absurd hx Ag⟩
 ·rw[fS h,cond_false]
  have hle:=h.le;have hl:=h.lo;have hh:=h.hi
  by_cases c1:at_<a.aa
  ·rw[decide_eq_true c1]
   exact⟨bU,rfl,om fun x hx k=>by have:=hx.1;omega⟩
  ·rw[decide_eq_false c1]
   simp only[cond_false]
   by_cases c2:a.af<=at_
   ·rw[decide_eq_true c2]
    exact⟨a,rfl,AG (.inr h) fun x hx=>by have:=hx.2.1;omega⟩
   ·rw[decide_eq_false c2,cond_false,kH h.pT ⟨by omega,by omega⟩ (h.st1 (by omega))]
    exact⟨_,rfl,OR h (by omega) (by omega)⟩
theorem v8{a:aD}(h:NV a)(at_:Int):∃u,S9 a at_=O u/\Ex (fun x=>bz a x/\at_<x) u:=by
 unfold S9
 rcases h with rfl|h
 ·refine⟨bU,?_,om fun x hx=>absurd hx Ag⟩
  rw[kT];rfl
 ·rw[fS h,cond_false]
  have hle:=h.le;have hl:=h.lo;have hh:=h.hi
  by_cases c1:a.af<=at_
  ·rw[decide_eq_true c1]
   exact⟨bU,rfl,om fun x hx k=>by have:=hx.2.1;omega⟩
  ·rw[decide_eq_false c1]
   simp only[cond_false]
   by_cases c2:at_<a.aa
   ·rw[decide_eq_true c2]
    exact⟨a,rfl,AG (.inr h) fun x hx=>by have:=hx.1;omega⟩
   ·have hs:=h.st1 (by omega)
    obtain⟨r1,r2,r3⟩:=IG h (at_:=at_) (by omega) (by omega)
    have q0:0<=(at_-a.aa)/a.ah:=zL (by omega) (by omega)
    have q1:(at_-a.aa)/a.ah<=at_-a.aa:=z7 _ (by omega)
    rw[decide_eq_false c2,cond_false,fK,aF (n:=at_-a.aa),ja,aF (n:=(at_-a.aa)/a.ah),aF (n:=(at_-a.aa)/a.ah+1),
     aF (n:=((at_-a.aa)/a.ah+1)*a.ah),aF,kH ⟨by omega,by omega⟩ h.wQ hs]
    exact⟨_,rfl,r1⟩
theorem ld.empty{P:Int->Prop}{c:aD}(h:ld P c)(hv:NV c):dR c=j0 c/\((dR c=wE/\c=bU/\∀x,¬P x)\/(dR c=wD/\NN c/\ct P c)):=by
 rcases h with ⟨rfl,h⟩|h
 ·exact⟨by rw[gM];rfl, .inl ⟨gM,rfl,h⟩⟩
 ·rcases hv with rfl|hv
  ·exact absurd (h.all _ h.lo).2.1 (by decide)
  ·exact⟨by rw[dx hv.ne,fS hv], .inr ⟨dx hv.ne,hv,h⟩⟩
def sq(a:aD)(lo hi:Int)(y:Int):Prop:=∃x,bz a x/\y=max lo (min x hi)
theorem Vu{a:aD}{lo hi y:Int}(h1:bO lo)(h2:bO hi)(h3:lo<=hi)(h:sq a lo hi y):bO y:=by
 obtain⟨x,_,rfl⟩:=h
 obtain⟨a1,a2⟩:=h1
 obtain⟨b1,b2⟩:=h2
 exact⟨by omega,by omega⟩
theorem ES(x:Int):ld (· =x) (cR x):= .inr (Dr x)
theorem pI{x:Int}(h:bO x):NV (cR x):= .inr (NN.one h.1 h.2)
theorem lQ{Q R:Int->Prop}{c d:aD}{b:Int}(hc:ld Q c)(vc:NV c)(hb:bO b)(hd:ld R d)(vd:NV d):
  (dR d=wE->ld (fun y=>Q y\/(y=b/\∃x,R x)) c)/\(dR d=wD->ld (fun y=>Q y\/(y=b/\∃x,R x)) (bJ c (cR b))):=by
 rcases (hd.empty vd).2 with ⟨e1,rfl,e3⟩|⟨e1,e2,e3⟩
 ·refine⟨fun _=>hc.congr fun x=>⟨.inl,fun h=>h.elim id fun h=>absurd h.2.choose_spec (e3 _)⟩,fun h=> ?_⟩
  rw[e1]at h;cases h
 ·refine⟨fun h=> ?_,fun _=>((hc.join (ES b) vc (pI hb)).congr fun x=>⟨fun h=>h.elim .inl fun h=> .inr ⟨h,_,e3.lo⟩,fun h=>h.elim .inl fun h=> .inr h.1⟩)⟩
  rw[e1]at h;cases h
theorem Ba{a:aD}(h:NV a)(lo hi:Int):(∃c,Zy a lo hi=O (c,0)/\Xx a lo hi=O (c,0)/\ld (sq a lo hi) c/\NV c/\bO lo/\bO hi/\lo<=hi)\/
  (Zy a lo hi=O (aD.mk 0 0 0,3)/\Xx a lo hi=O (aD.mk 0 0 0,3)/\¬(bO lo/\bO hi/\lo<=hi)):=by
 unfold Zy Xx
 rw[dD,dU,cU h,iX,iX,tA,tA]
 simp only[cond_true,cond_false]
 by_cases h1: -1099511627776<=lo/\lo<=1099511627776
 ·by_cases h2: -1099511627776<=hi/\hi<=1099511627776
  ·by_cases h3:hi<lo
   ·right
    rw[decide_eq_true h1,decide_eq_true h2,decide_eq_true h3]
    exact⟨rfl,rfl,fun k=>by have:=k.2.2;omega⟩
   ·left
    rw[decide_eq_true h1,decide_eq_true h2,decide_eq_false h3]
    simp only[cond_true,cond_false]
    rw[aF (n:=lo-1)]
    obtain⟨un,re,e1,r1,r2⟩:=tM h (lo-1)
    obtain⟨ins,ov,e2,r3,r4⟩:=tM r2.1 hi
    have mi:∀x,bz ins x↔bz a x/\lo<=x/\x<=hi:=fun x=>⟨fun k=>let ⟨k1,k2⟩:=(r3.2 x).mp k;let ⟨k3,k4⟩:=(r2.2 x).mp k1;⟨k3,by omega,k2⟩,fun⟨k1,k2,k3⟩=>(r3.2 x).mpr ⟨(r2.2 x).mpr ⟨k1,by omega⟩,k3⟩⟩
    have mo:∀x,bz ov x↔bz a x/\hi<x:=fun x=>⟨fun k=>let ⟨k1,k2⟩:=(r4.2 x).mp k;let ⟨k3,k4⟩:=(r2.2 x).mp k1;⟨k3,k2⟩,fun⟨k1,k2⟩=>(r4.2 x).mpr ⟨(r2.2 x).mpr ⟨k1,by omega⟩,k2⟩⟩
    obtain⟨x1,f1,s1⟩:=v8 h (lo-1)
    obtain⟨x2,f2,s2⟩:=Gb s1.1 hi
    obtain⟨x3,f3,s3⟩:=Gb h lo
    obtain⟨x4,f4,s4⟩:=v8 h hi
    have m2:∀x,bz x2 x↔bz a x/\lo<=x/\x<=hi:=fun x=>⟨fun k=>let ⟨k1,k2⟩:=(s2.2 x).mp k;let ⟨k3,k4⟩:=(s1.2 x).mp k1;⟨k3,by omega,k2⟩,fun⟨k1,k2,k3⟩=>(s2.2 x).mpr ⟨(s1.2 x).mpr ⟨k1,by omega⟩,k3⟩⟩
    have rlo:bO lo:=h1
    have rhi:bO hi:=h2
    have nb:∀b:Bool,(match b with|true=>true|false=>false)=b:=fun b=>by cases b<;>rfl
    obtain⟨t1,t2⟩:=lQ (Ex.rep ⟨r3.1,mi⟩) r3.1 rlo r1.rep r1.1
    have P:∃c,(match Ac a (lo-1)with|wC=>wC|O r3=>match Ac r3.snd hi with|wC=>wC|O r4=>bif bif dR r3.fst then wD else wE then match kF r4.fst (fT lo)with|wC=>wC|O r5=>bif bif dR r4.snd then wD else wE then match kF r5 (fT hi)with|wC=>wC|O r6=>O (r6,(0:Int))else O (r5,0)else bif bif dR r4.snd then wD else wE then match kF r4.fst (fT hi)with|wC=>wC|O r7=>O (r7,0)else O (r4.fst,0))=O (c,0)/\ld (sq a lo hi) c:=by
     have fin:∀c,NV c->ld (fun y=>(bz a y/\lo<=y/\y<=hi)\/(y=lo/\∃x,bz a x/\x<=lo-1)) c->∃d,(bif bif dR ov then wD else wE then match kF c (fT hi)with|wC=>wC|O r6=>O (r6,(0:Int))else O (c,0))=O (d,0)/\ld (sq a lo hi) d:=fun c vc hc=>by
      obtain⟨u1,u2⟩:=lQ hc vc rhi (Ex.rep ⟨r4.1,mo⟩) r4.1
      have eq:∀y,(((bz a y/\lo<=y/\y<=hi)\/(y=lo/\∃x,bz a x/\x<=lo-1))\/(y=hi/\∃x,bz a x/\hi<x))↔sq a lo hi y:=fun y=>by
       constructor
       ·rintro((⟨k1,k2,k3⟩|⟨rfl,x,k1,k2⟩)|⟨rfl,x,k1,k2⟩)
        ·exact⟨y,k1,by omega⟩
        ·exact⟨x,k1,by omega⟩
        ·exact⟨x,k1,by omega⟩
       ·rintro⟨x,k1,rfl⟩
        rcases (show x<lo\/hi<x\/(lo<=x/\x<=hi)by omega)with k|k|k
        ·exact .inl (.inr ⟨by omega,x,k1,by omega⟩)
        ·exact .inr ⟨by omega,x,k1,k⟩
        ·rw[show max lo (min x hi)=x by omega]
         exact .inl (.inl ⟨k1,k.1,k.2⟩)
      cases ho:dR ov with
      |true=>exact⟨c,rfl,(u1 ho).congr eq⟩
      |false=>
       simp only[cond_false,cond_true]
       rw[gI vc (.inr (show NN (fT hi)from NN.one h2.1 h2.2))]
       exact⟨_,rfl,(u2 ho).congr eq⟩
     rw[e1]
     simp only
     rw[e2]
     simp only
     cases hu:dR un with
     |true=>
      simp only[cond_false,cond_true]
      exact fin ins r3.1 (t1 hu)
     |false=>
      simp only[cond_false,cond_true]
      rw[gI r3.1 (.inr (show NN (fT lo)from NN.one h1.1 h1.2))]
      exact fin (bJ ins (cR lo)) (dG r3.1 (pI rlo)) (t2 hu)
    obtain⟨c,P1,P2⟩:=P
    have vc:NV c:=P2.valid fun x hx=>Vu rlo rhi (by omega) hx
    refine⟨c,P1,?_,P2,vc,rlo,rhi,by omega⟩
    have fin:∀c',NV c'->ld (fun y=>(bz a y/\lo<=y/\y<=hi)\/(y=lo/\∃x,bz a x/\x<=lo)) c'->(match S9 a hi with|wC=>wC|O r7=>bif bif j0 r7 then wD else wE then match jF c' (aD.mk hi hi 0)with|wC=>wC|O r8=>O (r8,(0:Int))else O (c',0))=O (c,0):=fun c' vc' hc'=>by
     obtain⟨u1,u2⟩:=lQ hc' vc' rhi s4.rep s4.1
     have eq:∀y,(((bz a y/\lo<=y/\y<=hi)\/(y=lo/\∃x,bz a x/\x<=lo))\/(y=hi/\∃x,bz a x/\hi<x))↔sq a lo hi y:=fun y=>by
      constructor
      ·rintro((⟨k1,k2,k3⟩|⟨rfl,x,k1,k2⟩)|⟨rfl,x,k1,k2⟩)
       ·exact⟨y,k1,by omega⟩
       ·exact⟨x,k1,by omega⟩
       ·exact⟨x,k1,by omega⟩
      ·rintro⟨x,k1,rfl⟩
       rcases (show x<lo\/hi<x\/(lo<=x/\x<=hi)by omega)with k|k|k
       ·exact .inl (.inr ⟨by omega,x,k1,by omega⟩)
       ·exact .inr ⟨by omega,x,k1,k⟩
       ·rw[show max lo (min x hi)=x by omega]
        exact .inl (.inl ⟨k1,k.1,k.2⟩)
     rw[f4]
     simp only
     rw[<-(s4.rep.empty s4.1).1]
     cases ho:dR x4 with
     |true=>
      rw[((u1 ho).congr eq).uniq P2];rfl
     |false=>
      simp only[cond_false,cond_true]
      rw[e9 vc' (.inr (show NN (aD.mk hi hi 0)from NN.one h2.1 h2.2))]
      simp only
      rw[show bJ c' (aD.mk hi hi 0)=c from((u2 ho).congr eq).uniq P2]
    obtain⟨t1,t2⟩:=lQ (Ex.rep ⟨s2.1,m2⟩) s2.1 rlo s3.rep s3.1
    rw[f1]
    simp only
    rw[f2]
    simp only
    rw[f3]
    simp only
    rw[<-(s3.rep.empty s3.1).1]
    cases hu:dR x3 with
    |true=>
     simp only[cond_false,cond_true]
     exact fin x2 s2.1 (t1 hu)
    |false=>
     simp only[cond_false,cond_true]
     rw[e9 s2.1 (.inr (show NN (aD.mk lo lo 0)from NN.one h1.1 h1.2))]
     exact fin _ (dG s2.1 (pI rlo)) (t2 hu)
  ·right
   rw[decide_eq_true h1,decide_eq_false h2]
   refine⟨?_,rfl,fun k=>h2 k.2.1⟩
   cases wF (hi<lo)<;>rfl
 ·right
  rw[decide_eq_false h1]
  refine⟨?_,rfl,fun k=>h1 k.1⟩
  cases wF (hi<lo)<;>rfl
theorem iS{a:aD}(h:NV a):bM a=wE↔∃x,bz a x/\x≠0:=by
 unfold bM
 rcases h with rfl|h
 ·rw[show bC bU=0 from by unfold bC;rw[if_pos rfl],nH,nH]
  exact⟨fun k=>(by cases k),fun⟨x,k,_⟩=>absurd k Ag⟩
 ·have hp:=size_pos h
  have h1:=dJ h
  have hle:=h.le
  have mlo:bz a a.aa:=⟨zk _,h.le,⟨0,by omega⟩⟩
  have mhi:bz a a.af:=⟨h.le,zk _,h.dvd⟩
  by_cases c:1<bC a
  ·rw[if_pos c]
   refine⟨fun _=> ?_,fun _=>rfl⟩
   by_cases z:a.aa=0
   ·exact⟨a.af,mhi,fun k=>by have:=h1.mpr (by omega);omega⟩
   ·exact⟨a.aa,mlo,z⟩
  ·rw[if_neg c,if_pos (show bC a=1 by omega)]
   have e:=h1.mp (by omega)
   constructor
   ·intro k
    refine⟨a.aa,mlo,fun z=> ?_⟩
    rw[jt (show bz a 0 by rw[<-z];exact mlo)]at k
    cases k
   ·rintro⟨x,k1,k2⟩
    rw[iq (show ¬bz a 0 from fun k=>by have:=k.1;have:=k.2.1;have:=k1.1;have:=k1.2.1;omega)]
    rfl
theorem zero_or{a:aD}(h:NN a):(bM a||bQ a 0)=wE:=by
 have mlo:bz a a.aa:=⟨zk _,h.le,⟨0,by omega⟩⟩
 by_cases z:a.aa=0
 ·rw[jt (show bz a 0 by rw[<-z];exact mlo),Bool.or_true]
 ·rw[(iS (.inr h)).mpr ⟨_,mlo,z⟩,Bool.true_or]
def anh(a:aD):aD:=aD.mk (-a.af) (-a.aa) a.ah
theorem YC{a:aD}(h:NN a):NN (anh a):=by
 have:=h.lo;have:=h.hi;have:=h.le
 refine⟨by show _<= -a.af;omega,by show-a.aa<=_;omega,by show-a.af<= -a.aa;omega,?_⟩
 rcases h.st with ⟨h1,h2⟩|⟨h1,h2,h3⟩
 ·exact .inl ⟨by show-a.af= -a.aa;omega,h2⟩
 ·refine .inr ⟨by show-a.af< -a.aa;omega,h2,?_⟩
  show (-a.aa- -a.af)%a.ah=0
  rw[show-a.aa- -a.af=a.af-a.aa by omega]
  exact h3
def lf(op:Int)(a:aD):aD×Int:=open Classical in
 if¬NV a\/(op≠6/\op≠7)then(aD.mk 0 0 0,1)else if a=bU then(bU,0)else if op=7 then(gR (bM a) (bQ a 0),0)else(anh a,0)
theorem Ef(op:Int):(bif bif wF (op=6)then wD else wE then O (bif wF (op=7)then wD else wE)else O wD)=O (wF (op≠6/\op≠7)):=by
 by_cases h:op=6
 ·rw[decide_eq_true h,decide_eq_false (show ¬(op≠6/\op≠7)from fun k=>k.1 h)];rfl
 ·by_cases k:op=7
  ·rw[decide_eq_false h,decide_eq_true k,decide_eq_false (show ¬(op≠6/\op≠7)from fun e=>e.2 k)];rfl
  ·rw[decide_eq_false h,decide_eq_false k,decide_eq_true (show op≠6/\op≠7 from⟨h,k⟩)];rfl
theorem P9{a:aD}(h:NV a)(op:Int):abU op a=O (lf op a):=by
 unfold abU lf
 rw[dD,cU h]
 simp only[cond_true,cond_false]
 rw[Ef]
 by_cases ho:op≠6/\op≠7
 ·rw[decide_eq_true ho,if_pos (.inr ho)];rfl
 ·rw[decide_eq_false ho,if_neg (fun k=>k.elim (fun e=>e h) ho)]
  simp only[cond_false]
  rcases h with rfl|h
  ·rw[gM,if_pos rfl];rfl
  ·rw[dx h.ne,if_neg h.ne,cond_false]
   by_cases h7:op=7
   ·rw[decide_eq_true h7,if_pos h7,cond_true,AA (.inr h)]
    simp only
    rw[Qe]
   ·rw[decide_eq_false h7,if_neg h7,cond_false]
    have:=h.lo;have:=h.hi;have:=h.le
    rw[aF (n:=0-a.af),aF (n:=0-a.aa),xD,xD]
    rfl
theorem Oy{a:aD}(h:NV a)(op:Int):Xo op a=O (lf op a):=by
 unfold Xo lf
 rw[dU,cU h]
 simp only[cond_true,cond_false]
 rw[Ef]
 by_cases ho:op≠6/\op≠7
 ·rw[decide_eq_true ho,if_pos (.inr ho)];rfl
 ·rw[decide_eq_false ho,if_neg (fun k=>k.elim (fun e=>e h) ho)]
  simp only[cond_false]
  rcases h with rfl|h
  ·rw[kT,if_pos rfl];rfl
  ·rw[fS h,if_neg h.ne,cond_false]
   by_cases h7:op=7
   ·rw[decide_eq_false (show ¬op=6 by omega),if_pos h7,cond_false,ni (.inr h)]
    simp only
    rw[NY (zero_or h)]
   ·rw[decide_eq_true (show op=6 by omega),if_neg h7,cond_true]
    have:=h.lo;have:=h.hi;have:=h.le
    rw[aF (n:=0-a.af),aF (n:=0-a.aa),xD,xD]
    rfl
theorem MI:NV (aD.mk 0 0 0):= .inr (NN.one (x:=0) (by omega) (by omega))
def mN(x y:Int):Int:=if y=0 then 0 else if x.tmod y≠0/\(wF (x<0))≠(wF (y<0))then x.tdiv y-1 else x.tdiv y
theorem rX{x y:Int}(hy:y≠0):∃q r:Int,x.tdiv y=q/\x.tmod y=r/\y*q+r=x/\r.natAbs<y.natAbs/\q.natAbs<=x.natAbs/\(0<=x->0<=r)/\(x<=0->r<=0)/\(r≠0->q.natAbs<x.natAbs):=by
 refine⟨_,_,rfl,rfl,Int.mul_tdiv_add_tmod x y,?_,?_,fun h=>Int.tmod_nonneg _ h,fun h=> ?_,fun h=> ?_⟩
 ·rw[Int.natAbs_tmod];exact y4 _ (by omega)
 ·rw[Int.natAbs_tdiv];exact Nat.div_le_self _ _
 ·have:=Int.tmod_nonneg (a:= -x) y (by omega)
  rw[Int.neg_tmod]at this
  omega
 ·have e:=Nat.div_add_mod x.natAbs y.natAbs
  have hr:(x.tmod y).natAbs≠0:=by omega
  rw[Int.natAbs_tmod]at hr
  rw[Int.natAbs_tdiv]
  have h1:x.natAbs/y.natAbs<=y.natAbs*(x.natAbs/y.natAbs):=Nat.le_mul_of_pos_left _ (by omega)
  show x.natAbs/y.natAbs<x.natAbs
  omega
theorem Nt{x y:Int}(hx:bO x):bO (mN x y)/\(mN x y).natAbs<=x.natAbs:=by
 unfold mN
 obtain⟨h1,h2⟩:=hx
 by_cases hy:y=0
 ·rw[if_pos hy];exact⟨⟨by omega,by omega⟩,by omega⟩
 ·rw[if_neg hy]
  obtain⟨q,r,e1,e2,e3,e4,e5,_,_,e6⟩:=rX (x:=x) hy
  rw[e1,e2]
  split
  ·rename_i h
   have:=e6 h.1
   exact⟨⟨by omega,by omega⟩,by omega⟩
  ·exact⟨⟨by omega,by omega⟩,by omega⟩
theorem Nw{x y:Int}(hy:bO y)(h0:y≠0):bO (x-y*mN x y)/\(0<y->0<=x-y*mN x y/\x-y*mN x y<y)/\(y<0->x-y*mN x y<=0/\y<x-y*mN x y):=by
 unfold mN
 rw[if_neg h0]
 obtain⟨h1,h2⟩:=hy
 obtain⟨q,r,e1,e2,e3,e4,e5,e7,e8,e6⟩:=rX (x:=x) h0
 rw[e1,e2]
 by_cases h:r≠0/\wF (x<0)≠wF (y<0)
 ·rw[if_pos h,Int.mul_sub,Int.mul_one]
  obtain⟨k1,k2⟩:=h
  by_cases c:x<0
  ·have c2:¬y<0:=fun k=>k2 (by rw[decide_eq_true c,decide_eq_true k])
   have:=e8 (by omega)
   exact⟨⟨by omega,by omega⟩,fun _=>by omega,fun _=>by omega⟩
  ·have c2:y<0:=Decidable.byContradiction fun k=>k2 (by rw[decide_eq_false c,decide_eq_false k])
   have:=e7 (by omega)
   exact⟨⟨by omega,by omega⟩,fun _=>by omega,fun _=>by omega⟩
 ·rw[if_neg h]
  by_cases k1:r=0
  ·exact⟨⟨by omega,by omega⟩,fun _=>by omega,fun _=>by omega⟩
  ·have k2:wF (x<0)=wF (y<0):=Decidable.byContradiction fun k=>h ⟨k1,k⟩
   by_cases c:x<0
   ·have c2:y<0:=by
     rw[decide_eq_true c]at k2
     exact of_decide_eq_true k2.symm
    have:=e8 (by omega)
    exact⟨⟨by omega,by omega⟩,fun _=>by omega,fun _=>by omega⟩
   ·have c2:¬y<0:=by
     rw[decide_eq_false c]at k2
     exact of_decide_eq_false k2.symm
    have:=e7 (by omega)
    exact⟨⟨by omega,by omega⟩,fun _=>by omega,fun _=>by omega⟩
theorem Hx{x y:Int}(hx:bO x)(hy:bO y):WJ x y=O (mN x y):=by
 have hR:=Nt (y:=y) hx
 unfold WJ
 unfold mN at hR ⊢
 obtain⟨h1,h2⟩:=hx
 by_cases h0:y=0
 ·rw[decide_eq_true h0,if_pos h0];rfl
 ·rw[if_neg h0]at hR
  rw[decide_eq_false h0,if_neg h0,cond_false,if_pos h0,if_pos h0,Aj]
  obtain⟨q,r,e1,e2,e3,e4,e5,e7,e8,e6⟩:=rX (x:=x) h0
  rw[e1,e2]at hR ⊢
  by_cases k1:r=0
  ·rw[decide_eq_false (show ¬¬r=0 by omega),if_neg (fun k=>k.1 k1)]
   simp only[cond_false]
   rw[aF]
  ·rw[decide_eq_true k1]
   simp only[cond_true]
   by_cases k2:wF (x<0)=wF (y<0)
   ·rw[if_neg (fun k=>k.2 k2),k2]
    have:(bif wF (y<0)==wF (y<0)then false else true)=false:=by cases wF (y<0)<;>rfl
    rw[this]
    simp only[cond_false]
    rw[aF]
   ·rw[if_pos ⟨k1,k2⟩]at hR ⊢
    have:(bif wF (x<0)==wF (y<0)then wD else wE)=wE:=by
     revert k2
     cases wF (x<0)<;>cases wF (y<0)<;>first|(intro k2;exact absurd rfl k2)|(intro _;rfl)
    rw[this]
    simp only[cond_true]
    rw[aF (n:=q),aF (n:=q-1)]
theorem Qt{x y:Int}(hx:bO x)(hy:bO y):aeh x y=O (mN x y):=Hx hx hy
def mq(b:Bool):Int:=if b then 1 else 0
def eC(op x y:Int):Int:=
 if op=8 then x+y else if op=9 then x-y else if op=10 then x*y else if op=11 then mN x y else if op=12 then(if y=0 then 0 else x-y*mN x y)
 else if op=13 then mq (wF (x=y))else if op=14 then mq (!wF (x=y))else if op=15 then mq (wF (x<y))else if op=16 then mq (wF (x<=y))else if op=17 then mq (wF (y<x))else if op=18 then mq (wF (y<=x))
 else if op=19 then mq (wF (x≠0/\y≠0))else if op=20 then mq (wF (x≠0\/y≠0))else if op=21 then min x y else max x y
theorem qU(b:Bool):bO (mq b):=by cases b<;>exact⟨by decide,by decide⟩
theorem abj{op x y:Int}(hx:bO x)(hy:bO y)(ho:op=11\/op=12\/op=21\/op=22):RY op x y=O (eC op x y):=by
 unfold RY eC
 rcases ho with rfl|rfl|rfl|rfl
 ·rw[decide_eq_true rfl,cond_true,Hx hx hy];rfl
 ·rw[decide_eq_false (by decide),decide_eq_true rfl,cond_false,cond_true]
  show _=O (if y=0 then 0 else x-y*mN x y)
  by_cases h0:y=0
  ·rw[decide_eq_true h0,if_pos h0];rfl
  ·rw[decide_eq_false h0,if_neg h0,cond_false,Hx hx hy]
   simp only
   have hm:=Nw (x:=x) hy h0
   obtain⟨a1,a2⟩:=hx
   obtain⟨b1,b2⟩:=hy
   obtain⟨⟨c1,c2⟩,_⟩:=hm
   rw[aF (n:=y*mN x y),aF]
 ·rw[decide_eq_false (by decide),decide_eq_false (by decide),decide_eq_true rfl]
  simp only[cond_false,cond_true]
  rw[show (if y<x then y else x)=min x y by split<;>omega]
  rfl
 ·rw[decide_eq_false (show ¬(22:Int)=11 by decide),decide_eq_false (show ¬(22:Int)=12 by decide),decide_eq_false (show ¬(22:Int)=21 by decide)]
  simp only[cond_false]
  rw[show (if x<y then y else x)=max x y by split<;>omega]
  rfl
def binop(op:Int):Prop:=8<=op/\op<=22
theorem uG{x:Int}(hx:bO x):@Eq Int (ig x 0) ((x.natAbs:Nat):Int):=by
 unfold ig
 obtain⟨h1,h2⟩:=hx
 by_cases c:x<0
 ·rw[decide_eq_true c,cond_true,aF];show @Eq Int (0-x) ((x.natAbs:Nat):Int);omega
 ·rw[decide_eq_false c,cond_false,aF];show @Eq Int (x-0) ((x.natAbs:Nat):Int);omega
theorem lE{x:Int}(hx:bO x):@Eq Int (iB x) ((x.natAbs:Nat):Int):=by
 obtain⟨h1,h2⟩:=hx
 obtain⟨k1,k2⟩:=GI (x:=x) (by omega) (by omega)
 generalize iB x=z at*
 have k1:(0:Int)<=z:=k1
 have k2:@Eq Int z x\/@Eq Int z (-x):=k2
 show @Eq Int z ((x.natAbs:Nat):Int)
 omega
theorem H8{x y:Int}(h0:x≠0):((1099511627776:Int)/x.natAbs<y.natAbs)↔¬bO (x*y):=by
 have hp:(0:Int)<(x.natAbs:Int):=by omega
 have e:((x*y).natAbs:Int)=(y.natAbs:Int)*(x.natAbs:Int):=by rw[Int.natAbs_mul,xh,zw]
 have hi:bO (x*y)↔((x*y).natAbs:Int)<=1099511627776:=⟨fun⟨h1,h2⟩=>by omega,fun h=>⟨by omega,by omega⟩⟩
 rw[hi,e,<-Int.le_ediv_iff_mul_le hp]
 omega
theorem ab0(b:Bool):tJ b=mq b:=by cases b<;>rfl
theorem dg{op x y v:Int}(h:v=eC op x y)(hr:bO (eC op x y)):∃w,O (v,wE)=O (w,wF (bO (eC op x y)))/\(bO (eC op x y)->w=eC op x y):=⟨v,by rw[decide_eq_true hr],fun _=>h⟩
theorem Z8{x y:Int}(hx:bO x)(hy:bO y):∃v,XA x y=O (v,wF (bO (x*y)))/\(bO (x*y)->v=x*y):=by
 unfold XA
 rw[Aj,Aj,uG hx,uG hy]
 by_cases h0:x=0
 ·subst h0
  rw[decide_eq_false (show ¬¬(0:Int)=0 from fun k=>k rfl)]
  simp only[cond_false]
  rw[xz,aF,decide_eq_true (show bO 0 from⟨by omega,by omega⟩)]
  exact⟨0,rfl,fun _=>rfl⟩
 ·rw[decide_eq_true h0,cond_true]
  by_cases h1:y=0
  ·subst h1
   rw[decide_eq_false (show ¬¬(0:Int)=0 from fun k=>k rfl)]
   simp only[cond_false]
   rw[Int.mul_zero,aF,decide_eq_true (show bO 0 from⟨by omega,by omega⟩)]
   exact⟨0,rfl,fun _=>rfl⟩
  ·rw[decide_eq_true h1,cond_true,if_pos (show ¬@Eq Int ((y.natAbs:Nat):Int) 0 by omega),ja]
   have q0:0<=(1099511627776:Int)/((y.natAbs:Nat):Int):=zL (by omega) (by omega)
   have q1:(1099511627776:Int)/((y.natAbs:Nat):Int)<=1099511627776:=z7 _ (by omega)
   rw[aF]
   simp only
   have k:=H8 (x:=y) (y:=x) h1
   rw[zw]at k
   by_cases c:(1099511627776:Int)/((y.natAbs:Nat):Int)<((x.natAbs:Nat):Int)
   ·rw[decide_eq_true c,decide_eq_false (k.mp c)]
    exact⟨0,rfl,fun e=>absurd e (k.mp c)⟩
   ·have hR:bO (x*y):=Decidable.byContradiction fun e=>c (k.mpr e)
    rw[decide_eq_false c,decide_eq_true hR,aF (by have:=hR.1;omega) (by have:=hR.2;omega)]
    exact⟨x*y,rfl,fun _=>rfl⟩
theorem AQ{x y:Int}(hx:bO x)(hy:bO y):∃v,NK x y=O (v,wF (bO (x*y)))/\(bO (x*y)->v=x*y):=by
 unfold NK
 rw[Aj,lE hx,lE hy]
 by_cases h0:x=0
 ·subst h0
  rw[decide_eq_false (show ¬¬(0:Int)=0 from fun k=>k rfl)]
  simp only[cond_false]
  rw[xz,aF,decide_eq_true (show bO 0 from⟨by omega,by omega⟩)]
  exact⟨0,rfl,fun _=>rfl⟩
 ·rw[decide_eq_true h0,cond_true,if_pos (show ¬@Eq Int ((x.natAbs:Nat):Int) 0 by omega),ja]
  have q0:0<=(1099511627776:Int)/((x.natAbs:Nat):Int):=zL (by omega) (by omega)
  have q1:(1099511627776:Int)/((x.natAbs:Nat):Int)<=1099511627776:=z7 _ (by omega)
  rw[aF]
  simp only
  have k:=H8 (x:=x) (y:=y) h0
  by_cases c:(1099511627776:Int)/((x.natAbs:Nat):Int)<((y.natAbs:Nat):Int)
  ·rw[decide_eq_true c,decide_eq_false (k.mp c)]
   exact⟨0,rfl,fun e=>absurd e (k.mp c)⟩
  ·have hR:bO (x*y):=Decidable.byContradiction fun e=>c (k.mpr e)
   rw[decide_eq_false c,decide_eq_true hR,aF (by have:=hR.1;omega) (by have:=hR.2;omega)]
   exact⟨x*y,rfl,fun _=>rfl⟩
theorem kG{op x y:Int}(hx:bO x)(hy:bO y)(ho:binop op):∃v,Bi op x y=O (v,wF (bO (eC op x y)))/\(bO (eC op x y)->v=eC op x y):=by
 obtain⟨o1,o2⟩:=ho
 have hx':=hx
 have hy':=hy
 obtain⟨a1,a2⟩:=hx'
 obtain⟨b1,b2⟩:=hy'
 have cases15:op=8\/op=9\/op=10\/op=11\/op=12\/op=13\/op=14\/op=15\/op=16\/op=17\/op=18\/op=19\/op=20\/op=21\/op=22:=by omega
 unfold Bi
 simp only[BB,ab0]
 rcases cases15 with rfl|rfl|rfl|rfl|rfl|rfl|rfl|rfl|rfl|rfl|rfl|rfl|rfl|rfl|rfl
 all_goals simp only[Int.reduceEq,decide_false,decide_true,cond_false,cond_true]
 ·rw[aF]
  exact⟨x+y,rfl,fun _=>rfl⟩
 ·rw[aF]
  exact⟨x-y,rfl,fun _=>rfl⟩
 ·obtain⟨v,e,h⟩:=Z8 hx hy
  rw[e]
  exact⟨v,rfl,h⟩
 ·rw[Qt hx hy]
  exact dg (op:=11) rfl (Nt hx).1
 ·by_cases h0:y=0
  ·rw[decide_eq_true h0]
   have e:eC 12 x y=0:=if_pos h0
   exact dg (op:=12) e.symm (by rw[e];exact⟨by omega,by omega⟩)
  ·rw[decide_eq_false h0,cond_false,Qt hx hy]
   simp only
   have e:eC 12 x y=x-y*mN x y:=if_neg h0
   have hm:=(Nw (x:=x) hy h0).1
   obtain⟨c1,c2⟩:=hm
   rw[aF (n:=y*mN x y),aF]
   exact dg (op:=12) e.symm (by rw[e];exact⟨c1,c2⟩)
 ·exact dg (op:=13) rfl (qU _)
 ·refine dg (op:=14) ?_ (qU _)
  show mq _=mq _
  congr 1
 ·exact dg (op:=15) rfl (qU _)
 ·exact dg (op:=16) rfl (qU _)
 ·exact dg (op:=17) rfl (qU _)
 ·exact dg (op:=18) rfl (qU _)
 ·rw[Aj,Aj]
  by_cases h0:x=0
  ·rw[decide_eq_false (show ¬¬x=0 from fun k=>k h0),cond_false]
   refine dg (op:=19) ?_ (qU _)
   show mq wD=mq (wF (x≠0/\y≠0))
   rw[decide_eq_false (fun k=>k.1 h0)]
  ·rw[decide_eq_true h0,cond_true]
   refine dg (op:=19) ?_ (qU _)
   show mq _=mq (wF (x≠0/\y≠0))
   congr 1
   exact decide_eq_decide.mpr ⟨fun k=>⟨h0,k⟩,fun k=>k.2⟩
 ·rw[Aj,Aj]
  by_cases h0:x=0
  ·rw[decide_eq_false (show ¬¬x=0 from fun k=>k h0),cond_false]
   refine dg (op:=20) ?_ (qU _)
   show mq _=mq (wF (x≠0\/y≠0))
   congr 1
   exact decide_eq_decide.mpr ⟨.inr,fun k=>k.elim (fun e=>absurd h0 e) id⟩
  ·rw[decide_eq_true h0,cond_true]
   refine dg (op:=20) ?_ (qU _)
   show mq wE=mq (wF (x≠0\/y≠0))
   rw[decide_eq_true (.inl h0)]
 ·by_cases c:x<y
  ·rw[decide_eq_true c]
   have e:eC 21 x y=x:=we (by omega)
   exact dg (op:=21) e.symm (by rw[e];exact hx)
  ·rw[decide_eq_false c]
   have e:eC 21 x y=y:=xC (by omega)
   exact dg (op:=21) e.symm (by rw[e];exact hy)
 ·by_cases c:y<x
  ·rw[decide_eq_true c]
   have e:eC 22 x y=x:=Int.max_eq_left (by omega)
   exact dg (op:=22) e.symm (by rw[e];exact hx)
  ·rw[decide_eq_false c]
   have e:eC 22 x y=y:=Int.max_eq_right (by omega)
   exact dg (op:=22) e.symm (by rw[e];exact hy)
def jO(a:aD)(k:Nat):Int:=a.aa+(k:Int)*a.ah
def cnt(a:aD):Nat:=(bC a).toNat
theorem eG{a:aD}(h:NN a):bC a=(cnt a:Int):=by have:=size_pos h;unfold cnt;omega
theorem gJ{a:aD}(h:NN a):1<=cnt a:=by have:=size_pos h;unfold cnt;omega
theorem TS{a:aD}(h:NN a){k:Nat}(hk:k<cnt a):a.aa<=jO a k/\jO a k<=a.af:=by
 have e:=eG h
 rw[uk h]at e
 have hs:=h.s0
 have k0:0<=(k:Int)*a.ah:=zo (by omega) hs
 unfold jO
 refine⟨by omega,?_⟩
 rcases h.st with ⟨h1,h2⟩|⟨h1,h2,h3⟩
 ·rw[h2,Int.mul_zero];omega
 ·rw[nH]at e
  have:(k:Int)*a.ah<=(a.af-a.aa)/a.ah*a.ah:=zF (by omega) hs
  rw[xT (x9 h3)]at this
  omega
theorem gm{a:aD}(h:NN a)(x:Int):bz a x↔∃k:Nat,k<cnt a/\x=jO a k:=by
 constructor
 ·rintro⟨h1,h2,q,hq⟩
  have e:=eG h
  rw[uk h]at e
  rcases h.st with ⟨k1,k2⟩|⟨k1,k2,k3⟩
  ·exact⟨0,gJ h,by unfold jO;omega⟩
  ·rw[nH]at e
   rw[zw]at hq
   have q0:0<=q:=Decidable.byContradiction fun c=>by
    have:q*a.ah<= -1*a.ah:=zF (by omega) (by omega)
    omega
   have q1:q<=(a.af-a.aa)/a.ah:=Int.le_ediv_of_mul_le (by omega) (by omega)
   refine⟨q.toNat,by omega,?_⟩
   unfold jO
   rw[show ((q.toNat:Nat):Int)=q by omega,<-hq]
   omega
 ·rintro⟨k,hk,rfl⟩
  obtain⟨h1,h2⟩:=TS h hk
  exact⟨h1,h2,by unfold jO;rw[show a.aa+(k:Int)*a.ah-a.aa=(k:Int)*a.ah by omega];exact y7 ..⟩
theorem qQ{a:aD}(h:NN a){k:Nat}(hk:k<cnt a):bO (jO a k):=Sh (.inr h) ((gm h _).mpr ⟨k,hk,rfl⟩)
theorem mG{a:aD}(h:NN a){k:Nat}(hk:k<cnt a):DG a (k:Int)=jO a k:=by
 have:=TS h hk
 have:=h.lo
 have:=h.hi
 have k0:0<=(k:Int)*a.ah:=zo (by omega) h.s0
 unfold DG
 unfold jO at*
 rw[aF (n:=(k:Int)*a.ah),aF]
def qM(op:Int)(a b:aD)(y:Int):Prop:=∃x z,bz a x/\bz b z/\y=eC op x z
def pref(op:Int)(a b:aD)(i:Nat)(l:List Int):Prop:=(∀y,y∈l↔∃k,k<i/\∃j,j<cnt b/\y=eC op (jO a k) (jO b j))/\l.length=i*cnt b/\∀y∈l,bO y
def afj(op:Int)(a b:aD)(i j:Nat)(l:List Int):Prop:=(∀y,y∈l↔(∃k,k<i/\∃m,m<cnt b/\y=eC op (jO a k) (jO b m))\/∃m,m<j/\y=eC op (jO a i) (jO b m))/\l.length=i*cnt b+j/\∀y∈l,bO y
theorem S4{op:Int}{a b:aD}{i:Nat}{l:List Int}(h:afj op a b i (cnt b) l):pref op a b (i+1) l:=by
 refine⟨fun y=>(h.1 y).trans ⟨?_,?_⟩,by rw[h.2.1,zZ,y8],h.2.2⟩
 ·rintro(⟨k,hk,m,hm,e⟩|⟨m,hm,e⟩)
  ·exact⟨k,by omega,m,hm,e⟩
  ·exact⟨i,by omega,m,hm,e⟩
 ·rintro⟨k,hk,m,hm,e⟩
  rcases yU.mp hk with c|rfl
  ·exact .inl ⟨k,c,m,hm,e⟩
  ·exact .inr ⟨m,hm,e⟩
theorem Xg{op:Int}{a b c:aD}(ho:binop op)(ha:NN a)(hb:NN b)(hs:cnt a*cnt b<=1000000){i:Nat}(hi:i<cnt a){l:List Int}(hl:pref op a b i l):
  (∃l',su (fP.mk op l i 0 a b c)=O (fP.mk op l' i (cnt b:Nat) a b c)/\pref op a b (i+1) l')\/
  (∃l' j,j<cnt b/\su (fP.mk op l i 0 a b c)=O (fP.mk op l' i (j:Nat) a b c)/\¬bO (eC op (jO a i) (jO b j))):=by
 have hcb:cnt b<=1000000:=zy (Nat.le_mul_of_pos_left _ (gJ ha)) hs
 have hlen:(i+1)*cnt b<=1000000:=zy (yt _ hi) hs
 rw[zZ,y8]at hlen
 obtain⟨j,l',e,hI,h⟩:=nB (rnd:=Dm) (cnt b) (fun j (l:List Int)=>fP.mk op l i (j:Nat) a b c) (fun j l=>afj op a b i j l) (fun j l=>¬bO (eC op (jO a i) (jO b j)))
  (fun j l hj hI=>by
   obtain⟨v,ev,hv⟩:=kG (qQ ha hi) (qQ hb hj) ho
   unfold Dm
   simp only
   rw[de (.inr hb),eG hb]
   simp only
   rw[qz,cond_true,mG ha hi,mG hb hj,ev]
   simp only
   by_cases hr:bO (eC op (jO a i) (jO b j))
   ·left
    rw[decide_eq_true hr]
    simp only[cond_true,cond_false]
    rw[if_pos (by rw[zh,hI.2.1];simp;omega),fq hj hcb,hv hr]
    refine⟨_,rfl,fun y=> ?_,by rw[zh,hI.2.1];simp;omega,fun y hy=> ?_⟩
    ·rw[zP,zD,hI.1 y]
     constructor
     ·rintro((h|⟨m,hm,h⟩)|rfl)
      ·exact .inl h
      ·exact .inr ⟨m,by omega,h⟩
      ·exact .inr ⟨j,by omega,rfl⟩
     ·rintro(h|⟨m,hm,h⟩)
      ·exact .inl (.inl h)
      ·rcases yU.mp hm with c|rfl
       ·exact .inl (.inr ⟨m,c,h⟩)
       ·exact .inr h
    ·rcases zP.mp hy with hy|hy
     ·exact hI.2.2 y hy
     ·rw[zD.mp hy];exact hr
   ·right
    rw[decide_eq_false hr]
    exact⟨rfl,hr⟩)
  (fun l hI=>by
   unfold Dm
   simp only
   rw[de (.inr hb),eG hb]
   simp only
   rw[dZ]
   rfl) (b:=l) ⟨fun y=>(hl.1 y).trans ⟨.inl,fun h=>h.elim id fun⟨m,hm,_⟩=>absurd hm (yw _)⟩,by rw[hl.2.1];rfl,hl.2.2⟩
 have e:bw Dm (fP.mk op l i 0 a b c)=O (fP.mk op l' i (j:Nat) a b c):=e
 rcases h with rfl|⟨hj,h⟩
 ·exact .inl ⟨l',e,S4 hI⟩
 ·exact .inr ⟨l',j,hj,e,h⟩
theorem tg{op:Int}{a b:aD}(ho:binop op)(ha:NN a)(hb:NN b)(hs:cnt a*cnt b<=1000000):
  ((∀y,qM op a b y->bO y)/\∃c,LC op a b=O (c,0)/\ct (qM op a b) c)\/((¬∀y,qM op a b y->bO y)/\LC op a b=O (aD.mk 0 0 0,3)):=by
 have hca:cnt a<=1000000:=zy (Nat.le_mul_of_pos_right _ (gJ hb)) hs
 unfold LC
 obtain⟨i,l,e,hI,h⟩:=nB (rnd:=vS) (cnt a) (fun i (l:List Int)=>kX.mk op l (i:Nat) a b (aD.mk 0 0 0)) (fun i l=>pref op a b i l) (fun i l=>∃l' j,j<cnt b/\su (fP.mk op l i 0 a b (aD.mk 0 0 0))=O (fP.mk op l' i (j:Nat) a b (aD.mk 0 0 0))/\¬bO (eC op (jO a i) (jO b j)))
  (fun i l hi hI=>by
   unfold vS
   simp only
   rw[de (.inr ha),eG ha]
   simp only
   rw[qz,cond_true]
   rcases Xg (c:=aD.mk 0 0 0) ho ha hb hs hi hI with ⟨l',e,h⟩|⟨l',j,hj,e,h⟩
   ·left
    rw[e]
    simp only
    rw[de (.inr hb),eG hb]
    simp only
    rw[dZ,cond_false,fq hi hca]
    exact⟨l',rfl,h⟩
   ·right
    refine⟨?_,l',j,hj,e,h⟩
    rw[e]
    simp only
    rw[de (.inr hb),eG hb]
    simp only
    obtain⟨v,ev,hv⟩:=kG (qQ ha hi) (qQ hb hj) ho
    rw[qz,cond_true,mG ha hi,mG hb hj,ev]
    simp only
    rw[decide_eq_false h]
    rfl)
  (fun l hI=>by
   unfold vS
   simp only
   rw[de (.inr ha),eG ha]
   simp only
   rw[dZ]
   rfl) (b:=[]) ⟨fun y=>⟨fun h=>absurd h (by simp),fun⟨k,hk,_⟩=>absurd hk (yw _)⟩,by simp,fun y hy=>absurd hy (by simp)⟩
 have e:bw vS (kX.mk op [] 0 a b (aD.mk 0 0 0))=O (kX.mk op l (i:Nat) a b (aD.mk 0 0 0)):=e
 rw[show EY=bw vS from rfl,e]
 simp only
 rw[de (.inr ha),eG ha]
 simp only
 rcases h with rfl|⟨hi,l',j,hj,e1,h⟩
 ·left
  have mem:∀y,y∈l↔qM op a b y:=fun y=>(hI.1 y).trans ⟨fun⟨k,hk,m,hm,e⟩=>⟨_,_,(gm ha _).mpr ⟨k,hk,rfl⟩,(gm hb _).mpr ⟨m,hm,rfl⟩,e⟩,fun⟨x,z,hx,hz,e⟩=>by
   obtain⟨k,hk,rfl⟩:=(gm ha _).mp hx
   obtain⟨m,hm,rfl⟩:=(gm hb _).mp hz
   exact⟨k,hk,m,hm,e⟩⟩
  rw[dZ,cond_false]
  have hne:l≠[]:=fun e=>by
   have:=hI.2.1
   rw[e]at this
   have:=Nat.mul_pos (gJ ha) (gJ hb)
   simp at*
   omega
  obtain⟨c,e2,hc⟩:=F1 hne (by rw[hI.2.1];exact hs) hI.2.2
  rw[e2]
  exact⟨fun y hy=>hI.2.2 y ((mem y).mpr hy),c,rfl,hc.congr mem⟩
 ·right
  refine⟨fun k=>h (k _ ⟨_,_,(gm ha _).mpr ⟨i,hi,rfl⟩,(gm hb _).mpr ⟨j,hj,rfl⟩,rfl⟩),?_⟩
  rw[qz,cond_true,e1]
  simp only
  rw[de (.inr hb),eG hb]
  simp only
  obtain⟨v,ev,hv⟩:=kG (qQ ha hi) (qQ hb hj) ho
  rw[qz,cond_true,mG ha hi,mG hb hj,ev]
  simp only
  rw[decide_eq_false h]
  rfl
theorem Qv{a:aD}(h:NN a)(hs:cnt a<=1000000):SS a=O ((zJ (cnt a)).map (jO a)):=by
 unfold SS
 rw[jG (.inr h),eG h]
 simp only
 have e:bw sJ (jm.mk [] (cnt a:Nat) 0 a)=O (jm.mk ((zJ (cnt a)).map (jO a)) (cnt a:Nat) (cnt a:Nat) a):=by
  obtain⟨l,e,hl⟩:=cz (rnd:=sJ) (cnt a) (fun i (l:List Int)=>jm.mk l (cnt a:Nat) (i:Nat) a) (fun i l=>l=(zJ i).map (jO a))
   (fun i l hi hl=>by
    subst hl
    unfold sJ
    simp only
    have:=mG h hi
    unfold DG at this
    rw[qz,cond_true,this,if_pos (by simp;omega),fq hi hs]
    exact⟨_,rfl,by rw[List.range_succ,zY];rfl⟩)
   (fun l hl=>by
    unfold sJ
    simp only
    rw[dZ]
    rfl) (b:=[]) rfl
  have e:bw sJ (jm.mk [] (cnt a:Nat) 0 a)=O (jm.mk l (cnt a:Nat) (cnt a:Nat) a):=e
  rw[e,hl]
 rw[show Gj=bw sJ from rfl,e]
 simp only
 rw[dZ]
 rfl
theorem pJ(a:aD):((zJ (cnt a)).map (jO a)).length=cnt a:=by simp
theorem JP(a:aD){k:Nat}(h:k<cnt a):((zJ (cnt a)).map (jO a))[k]! =jO a k:=by
 rw[getElem!_pos _ k (by rw[pJ];exact h),yx,List.getElem_range]
def JS(op:Int):Prop:=op=11\/op=12\/op=21\/op=22
theorem Pv{op x y:Int}(hx:bO x)(hy:bO y)(ho:JS op):bO (eC op x y):=by
 rcases ho with rfl|rfl|rfl|rfl
 ·exact(Nt hx).1
 ·show bO (if y=0 then 0 else x-y*mN x y)
  by_cases h0:y=0
  ·rw[if_pos h0];exact⟨by omega,by omega⟩
  ·rw[if_neg h0];exact(Nw hy h0).1
 ·show bO (min x y)
  obtain⟨h1,h2⟩:=hx
  obtain⟨h3,h4⟩:=hy
  exact⟨by omega,by omega⟩
 ·show bO (max x y)
  obtain⟨h1,h2⟩:=hx
  obtain⟨h3,h4⟩:=hy
  exact⟨by omega,by omega⟩
def TU(op:Int)(a b:aD)(i j:Nat)(y:Int):Prop:=(∃k,k<i/\∃m,m<cnt b/\y=eC op (jO a k) (jO b m))\/∃m,m<j/\y=eC op (jO a i) (jO b m)
theorem Tx{op:Int}{a b c:aD}(ho:JS op)(ha:NN a)(hb:NN b)(hs:cnt b<=1000000){i:Nat}(hi:i<cnt a){o:aD}{l:List Int}{n t:Int}(hr:ld (TU op a b i 0) o)(hv:NV o):
  ∃o',CZ (kg.mk op (jO a i) l n t ((zJ (cnt b)).map (jO b)) (cnt b:Nat) 0 b c o)=O (kg.mk op (jO a i) l n t ((zJ (cnt b)).map (jO b)) (cnt b:Nat) (cnt b:Nat) b c o')/\ld (TU op a b (i+1) 0) o'/\NV o':=by
 obtain⟨o',e,hI,hv'⟩:=cz (rnd:=Hf) (cnt b) (fun j (o:aD)=>kg.mk op (jO a i) l n t ((zJ (cnt b)).map (jO b)) (cnt b:Nat) (j:Nat) b c o) (fun j o=>ld (TU op a b i j) o/\NV o)
  (fun j o hj hI=>by
   have hR:=Pv (qQ ha hi) (qQ hb hj) ho
   unfold Hf
   simp only
   rw[qz,cond_true,pJ,fK,za,if_pos ⟨trivial,hj⟩,JP b hj,abj (qQ ha hi) (qQ hb hj) ho]
   simp only
   rw[gI hI.2 (.inr (show NN (fT (eC op (jO a i) (jO b j)))from NN.one hR.1 hR.2)),fq hj hs]
   refine⟨_,rfl,(hI.1.join (ES _) hI.2 (pI hR)).congr fun y=> ?_,dG hI.2 (pI hR)⟩
   constructor
   ·rintro((h|⟨m,hm,h⟩)|rfl)
    ·exact .inl h
    ·exact .inr ⟨m,by omega,h⟩
    ·exact .inr ⟨j,by omega,rfl⟩
   ·rintro(h|⟨m,hm,h⟩)
    ·exact .inl (.inl h)
    ·rcases yU.mp hm with c|rfl
     ·exact .inl (.inr ⟨m,c,h⟩)
     ·exact .inr h)
  (fun o hI=>by
   unfold Hf
   simp only
   rw[dZ]
   rfl) (b:=o) ⟨hr,hv⟩
 refine⟨o',e,hI.congr fun y=> ?_,hv'⟩
 constructor
 ·rintro(⟨k,hk,h⟩|⟨m,hm,h⟩)
  ·exact .inl ⟨k,by omega,h⟩
  ·exact .inl ⟨i,by omega,m,hm,h⟩
 ·rintro(⟨k,hk,h⟩|⟨m,hm,_⟩)
  ·rcases yU.mp hk with c|rfl
   ·exact .inl ⟨k,c,h⟩
   ·obtain⟨m,hm,h⟩:=h
    exact .inr ⟨m,hm,h⟩
  ·exact absurd hm (yw _)
theorem Np{op:Int}{a b:aD}(ho:JS op)(ha:NN a)(hb:NN b)(hs:cnt a*cnt b<=4096):∃c,uH op a b=O c/\ct (qM op a b) c:=by
 have hca:cnt a<=4096:=zy (Nat.le_mul_of_pos_right _ (gJ hb)) hs
 have hcb:cnt b<=4096:=zy (Nat.le_mul_of_pos_left _ (gJ ha)) hs
 unfold uH
 rw[jG (.inr ha),jG (.inr hb),eG ha,eG hb]
 simp only
 have hp:((cnt a:Nat):Int)*((cnt b:Nat):Int)<=4096:=by rw[<-xh];omega
 have hp0:0<=((cnt a:Nat):Int)*((cnt b:Nat):Int):=by rw[<-xh];omega
 rw[decide_eq_false (show ¬(4096:Int)<((cnt a:Nat):Int)by omega),decide_eq_false (show ¬(4096:Int)<((cnt b:Nat):Int)by omega),cond_false,cond_false,aF,dZ,cond_false,Qv ha (by omega)]
 simp only
 rw[pJ]
 obtain⟨o,e,hI,hv⟩:=cz (rnd:=vm) (cnt a) (fun i (o:aD)=>kS.mk op ((zJ (cnt a)).map (jO a)) (cnt a:Nat) (i:Nat) b (aD.mk 0 0 0) o) (fun i o=>ld (TU op a b i 0) o/\NV o)
  (fun i o hi hI=>by
   unfold vm
   simp only
   rw[qz,cond_true,pJ,fK,za,if_pos ⟨trivial,hi⟩,JP a hi,Qv hb (by omega)]
   simp only
   rw[pJ]
   obtain⟨o',e,h1,h2⟩:=Tx (c:=aD.mk 0 0 0) (l:=(zJ (cnt a)).map (jO a)) (n:=(cnt a:Nat)) (t:=(i:Nat)) ho ha hb (by omega) hi hI.1 hI.2
   rw[e]
   simp only
   rw[dZ,cond_false,fq hi (by omega)]
   exact⟨o',rfl,h1,h2⟩)
  (fun o hI=>by
   unfold vm
   simp only
   rw[dZ]
   rfl) (b:=bU) ⟨.none fun y h=>by
    rcases h with ⟨k,hk,_⟩|⟨m,hm,_⟩
    ·exact absurd hk (yw _)
    ·exact absurd hm (yw _), .inl rfl⟩
 have e:bw vm (kS.mk op ((zJ (cnt a)).map (jO a)) (cnt a:Nat) 0 b (aD.mk 0 0 0) gQ)=O (kS.mk op ((zJ (cnt a)).map (jO a)) (cnt a:Nat) (cnt a:Nat) b (aD.mk 0 0 0) o):=e
 rw[show HC=bw vm from rfl,e]
 simp only
 rw[dZ,cond_false]
 refine⟨o,rfl,?_⟩
 have mem:∀y,TU op a b (cnt a) 0 y↔qM op a b y:=fun y=>⟨fun h=>by
  rcases h with ⟨k,hk,m,hm,e⟩|⟨m,hm,_⟩
  ·exact⟨_,_,(gm ha _).mpr ⟨k,hk,rfl⟩,(gm hb _).mpr ⟨m,hm,rfl⟩,e⟩
  ·exact absurd hm (yw _),fun⟨x,z,hx,hz,e⟩=>by
  obtain⟨k,hk,rfl⟩:=(gm ha _).mp hx
  obtain⟨m,hm,rfl⟩:=(gm hb _).mp hz
  exact .inl ⟨k,hk,m,hm,e⟩⟩
 rcases hI.congr mem with ⟨_,k⟩|k
 ·exact absurd ⟨_,_,(gm ha _).mpr ⟨0,gJ ha,rfl⟩,(gm hb _).mpr ⟨0,gJ hb,rfl⟩,rfl⟩ (k (eC op (jO a 0) (jO b 0)))
 ·exact k
theorem Ud{op:Int}{a b:aD}(ha:NN a)(hb:NN b)(hs:¬cnt a*cnt b<=4096):uH op a b=SB op a b:=by
 have idm:∀r:Option aD,(match r with|none=>none|some r8=>some r8)=r:=fun r=>by cases r<;>rfl
 unfold uH
 rw[jG (.inr ha),jG (.inr hb),eG ha,eG hb]
 simp only
 by_cases c1:(4096:Int)<((cnt a:Nat):Int)
 ·rw[decide_eq_true c1,cond_true]
  exact idm _
 ·rw[decide_eq_false c1,cond_false]
  by_cases c2:(4096:Int)<((cnt b:Nat):Int)
  ·rw[decide_eq_true c2,cond_true]
   exact idm _
  ·have hb':((cnt a:Nat):Int)*((cnt b:Nat):Int)<=4096*4096:=yN (by omega) (by omega) (by omega) (by omega)
   have hp:(4096:Int)<((cnt a:Nat):Int)*((cnt b:Nat):Int):=by rw[<-xh];omega
   rw[decide_eq_false c2,cond_false,aF,decide_eq_true hp,cond_true]
   exact idm _
instance (op:Int):Decidable (binop op):=inferInstanceAs (Decidable (_/\_))
theorem idm{α:Type}(r:Option α):(match r with|none=>none|some x=>some x)=r:=by cases r<;>rfl
theorem iy(op:Int):uK op=wF (binop op):=by
 unfold uK
 by_cases h:binop op
 ·obtain⟨o1,o2⟩:=h
  have cases15:op=8\/op=9\/op=10\/op=11\/op=12\/op=13\/op=14\/op=15\/op=16\/op=17\/op=18\/op=19\/op=20\/op=21\/op=22:=by omega
  rcases cases15 with rfl|rfl|rfl|rfl|rfl|rfl|rfl|rfl|rfl|rfl|rfl|rfl|rfl|rfl|rfl<;>rfl
 ·have k:∀n:Int,8<=n->n<=22->¬op=n:=fun n h1 h2 e=>h (by unfold binop;omega)
  rw[show wF (binop op)=wD from decide_eq_false h]
  rw[decide_eq_false (k 8 (by decide) (by decide)),decide_eq_false (k 9 (by decide) (by decide)),decide_eq_false (k 10 (by decide) (by decide)),decide_eq_false (k 11 (by decide) (by decide)),decide_eq_false (k 12 (by decide) (by decide)),
   decide_eq_false (k 13 (by decide) (by decide)),decide_eq_false (k 14 (by decide) (by decide)),decide_eq_false (k 15 (by decide) (by decide)),decide_eq_false (k 16 (by decide) (by decide)),decide_eq_false (k 17 (by decide) (by decide)),
   decide_eq_false (k 18 (by decide) (by decide)),decide_eq_false (k 19 (by decide) (by decide)),decide_eq_false (k 20 (by decide) (by decide)),decide_eq_false (k 21 (by decide) (by decide)),decide_eq_false (k 22 (by decide) (by decide))]
  rfl
theorem D9{a b:aD}(hb:NN b):((cnt a:Nat):Int)<=(4096:Int)/((cnt b:Nat):Int)↔cnt a*cnt b<=4096:=by
 have:=gJ hb
 rw[Int.le_ediv_iff_mul_le (by omega),<-xh]
 omega
theorem kA{op:Int}{a b:aD}(ho:binop op)(ha:NN a)(hb:NN b)(hs:cnt a*cnt b<=4096):lB op a b=LC op a b:=by
 have:=gJ hb
 unfold lB
 rw[dU,dU,cU (.inr ha),cU (.inr hb),show Dk op=uK op from rfl,iy,decide_eq_true ho]
 simp only[cond_true,cond_false]
 rw[fS ha,fS hb,de (.inr ha),de (.inr hb),eG ha,eG hb]
 simp only[cond_false]
 have q0:0<=(4096:Int)/((cnt b:Nat):Int):=zL (by omega) (by omega)
 have q1:(4096:Int)/((cnt b:Nat):Int)<=4096:=z7 _ (by omega)
 rw[if_pos (show ¬@Eq Int ((cnt b:Nat):Int) 0 by omega),ja,aF,decide_eq_true ((D9 hb).mpr hs),cond_true]
 cases LC op a b<;>rfl
def R5(a0:Int)(a1 a2:aD):Option (aD×Int):=
 bif wF (a0=8)then tB a0 a1 a2 else bif wF (a0=9)then tB a0 a1 a2 else bif wF (a0=10)then tB a0 a1 a2 else bif wF (a0=11)then
  (bif(wF (0<=a1.aa)&&wF (0<=a2.aa))then jA 0 (max a1.aa.natAbs a1.af.natAbs:Nat) 1 else jA (-((max a1.aa.natAbs a1.af.natAbs:Nat):Int)) (max a1.aa.natAbs a1.af.natAbs:Nat) 1)
 else bif wF (a0=12)then jA (if a2.aa<0 then a2.aa+1 else 0) (if 0<a2.af then a2.af-1 else 0) 1
 else bif wF (a0=21)then(match m41 (bJ a1 a2) (min a1.af a2.af)with|wC=>wC|O c=>O (c,0))
 else bif wF (a0=22)then(match S9 (bJ a1 a2) (max a1.aa a2.aa-1)with|wC=>wC|O c=>O (c,0))
 else(match vK a0 a1 a2 with|wC=>wC|O c=>O (c,0))
theorem uy{op:Int}{a b:aD}(ho:binop op)(ha:NN a)(hb:NN b)(hs:¬cnt a*cnt b<=4096):lB op a b=R5 op a b:=by
 have:=gJ hb
 have r1:=ha.pT
 have r2:=ha.wQ
 have r3:=hb.pT
 have r4:=hb.wQ
 obtain⟨a1,a2⟩:=r1
 obtain⟨a3,a4⟩:=r2
 obtain⟨b1,b2⟩:=r3
 obtain⟨b3,b4⟩:=r4
 unfold lB R5
 rw[dU,dU,cU (.inr ha),cU (.inr hb),show Dk op=uK op from rfl,iy,decide_eq_true ho]
 simp only[cond_true,cond_false]
 rw[fS ha,fS hb,de (.inr ha),de (.inr hb),eG ha,eG hb]
 simp only[cond_false]
 have q0:0<=(4096:Int)/((cnt b:Nat):Int):=zL (by omega) (by omega)
 have q1:(4096:Int)/((cnt b:Nat):Int)<=4096:=z7 _ (by omega)
 rw[if_pos (show ¬@Eq Int ((cnt b:Nat):Int) 0 by omega),ja,aF (n:=(4096:Int)/((cnt b:Nat):Int)),decide_eq_false (fun k=>hs ((D9 hb).mp k)),cond_false]
 have cases15:op=8\/op=9\/op=10\/op=11\/op=12\/op=13\/op=14\/op=15\/op=16\/op=17\/op=18\/op=19\/op=20\/op=21\/op=22:=by
  obtain⟨o1,o2⟩:=ho
  omega
 have ez:(bif wF (0<=a.aa)then some (wF (0<=b.aa))else some false)=some (wF (0<=a.aa)&&wF (0<=b.aa)):=by cases wF (0<=a.aa)<;>rfl
 rcases cases15 with rfl|rfl|rfl|rfl|rfl|rfl|rfl|rfl|rfl|rfl|rfl|rfl|rfl|rfl|rfl
 all_goals simp only[Int.reduceEq,decide_false,decide_true,cond_false,cond_true]
 ·cases tB 8 a b<;>rfl
 ·cases tB 9 a b<;>rfl
 ·cases tB 10 a b<;>rfl
 ·rw[uG ha.pT,uG ha.wQ,ez]
  simp only
  by_cases c:((a.aa.natAbs:Nat):Int)<((a.af.natAbs:Nat):Int)
  ·rw[decide_eq_true c,cond_true,aF,xD,Nat.max_eq_right (by omega)]
   cases (wF (0<=a.aa)&&wF (0<=b.aa))with
   |true=>(simp only[cond_true,cond_false];generalize jA _ _ _=z;cases z<;>rfl)
   |false=>(simp only[cond_true,cond_false];generalize jA _ _ _=z;cases z<;>rfl)
  ·rw[decide_eq_false c,cond_false,aF,xD,Nat.max_eq_left (by omega)]
   cases (wF (0<=a.aa)&&wF (0<=b.aa))with
   |true=>(simp only[cond_true,cond_false];generalize jA _ _ _=z;cases z<;>rfl)
   |false=>(simp only[cond_true,cond_false];generalize jA _ _ _=z;cases z<;>rfl)
 ·rw[aF (n:=b.aa+1),aF (n:=b.af-1)]
  by_cases c:b.aa<0<;>by_cases d:0<b.af
  ·rw[decide_eq_true c,decide_eq_true d,if_pos c,if_pos d];(simp only[cond_true,cond_false];generalize jA _ _ _=z;cases z<;>rfl)
  ·rw[decide_eq_true c,decide_eq_false d,if_pos c,if_neg d];(simp only[cond_true,cond_false];generalize jA _ _ _=z;cases z<;>rfl)
  ·rw[decide_eq_false c,decide_eq_true d,if_neg c,if_pos d];(simp only[cond_true,cond_false];generalize jA _ _ _=z;cases z<;>rfl)
  ·rw[decide_eq_false c,decide_eq_false d,if_neg c,if_neg d];(simp only[cond_true,cond_false];generalize jA _ _ _=z;cases z<;>rfl)
 ·cases vK 13 a b<;>rfl
 ·cases vK 14 a b<;>rfl
 ·cases vK 15 a b<;>rfl
 ·cases vK 16 a b<;>rfl
 ·cases vK 17 a b<;>rfl
 ·cases vK 18 a b<;>rfl
 ·cases vK 19 a b<;>rfl
 ·cases vK 20 a b<;>rfl
 ·obtain⟨v,ev,hv⟩:=kG (op:=21) ha.wQ hb.wQ ⟨by decide,by decide⟩
  have hv:v=min a.af b.af:=hv (Pv ha.wQ hb.wQ (.inr (.inr (.inl rfl))))
  rw[ev,e9 (.inr ha) (.inr hb)]
  simp only
  rw[hv]
  cases m41 (bJ a b) (min a.af b.af)<;>rfl
 ·obtain⟨v,ev,hv⟩:=kG (op:=22) ha.pT hb.pT ⟨by decide,by decide⟩
  have hv:v=max a.aa b.aa:=hv (Pv ha.pT hb.pT (.inr (.inr (.inr rfl))))
  rw[ev,e9 (.inr ha) (.inr hb)]
  simp only
  rw[hv,aF]
  cases S9 (bJ a b) (max a.aa b.aa-1)<;>rfl
theorem VD{op:Int}{a b:aD}(ho:JS op)(ha:NN a)(hb:NN b):∃c,uH op a b=O c/\lB op a b=O (c,0)/\NV c:=by
 have hbin:binop op:=by unfold binop;rcases ho with rfl|rfl|rfl|rfl<;>decide
 have r1:=ha.pT
 have r2:=ha.wQ
 have r3:=hb.pT
 have r4:=hb.wQ
 by_cases hs:cnt a*cnt b<=4096
 ·obtain⟨c,e1,h1⟩:=Np ho ha hb hs
  have hR:∀y,qM op a b y->bO y:=fun y ⟨x,z,hx,hz,e⟩=>by rw[e];exact Pv (Sh (.inr ha) hx) (Sh (.inr hb) hz) ho
  rw[kA hbin ha hb hs]
  rcases tg hbin ha hb (by omega)with ⟨_,d,e2,h2⟩|⟨k,_⟩
  ·rw[h2.uniq h1]at e2
   exact⟨c,e1,e2, .inr (h1.valid hR)⟩
  ·exact absurd hR k
 ·rw[Ud ha hb hs,uy hbin ha hb hs]
  obtain⟨a1,a2⟩:=r1
  obtain⟨a3,a4⟩:=r2
  obtain⟨b1,b2⟩:=r3
  obtain⟨b3,b4⟩:=r4
  unfold SB R5
  rcases ho with rfl|rfl|rfl|rfl
  all_goals simp only[Int.reduceEq,decide_false,decide_true,cond_false,cond_true]
  ·rw[lE ha.pT,lE ha.wQ]
   have em:(if((a.aa.natAbs:Nat):Int)<((a.af.natAbs:Nat):Int)then((a.af.natAbs:Nat):Int)else((a.aa.natAbs:Nat):Int))=((max a.aa.natAbs a.af.natAbs:Nat):Int):=by split<;>omega
   rw[em]
   have ez:(bif wF (0<=a.aa)then some (wF (0<=b.aa))else some false)=some (wF (0<=a.aa)&&wF (0<=b.aa)):=by cases wF (0<=a.aa)<;>rfl
   rw[ez]
   simp only
   have hm:((max a.aa.natAbs a.af.natAbs:Nat):Int)<=1099511627776:=by omega
   generalize max a.aa.natAbs a.af.natAbs=m at*
   rw[aF,xD,mO (by omega) (by omega) (by omega),mO (by omega) (by omega) (by omega),kH ⟨by omega,by omega⟩ ⟨by omega,by omega⟩ (by omega),kH ⟨by omega,by omega⟩ ⟨by omega,by omega⟩ (by omega)]
   cases (wF (0<=a.aa)&&wF (0<=b.aa))with
   |true=>exact⟨_,rfl,rfl, .inr (kM (by omega) (by omega) (by omega) (by omega))⟩
   |false=>exact⟨_,rfl,rfl, .inr (kM (by omega) (by omega) (by omega) (by omega))⟩
  ·rw[aF (n:=b.aa+1),aF (n:=b.af-1)]
   rw[show (if 0<b.aa+1 then 0 else b.aa+1)=(if b.aa<0 then b.aa+1 else 0)by split<;>split<;>omega,show (if b.af-1<0 then 0 else b.af-1)=(if 0<b.af then b.af-1 else 0)by split<;>split<;>omega]
   have hp:(if b.aa<0 then b.aa+1 else 0)<=0/\ -1099511627776<=(if b.aa<0 then b.aa+1 else 0):=by split<;>omega
   have hq:0<=(if 0<b.af then b.af-1 else 0)/\(if 0<b.af then b.af-1 else 0)<=1099511627776:=by split<;>omega
   generalize (if b.aa<0 then b.aa+1 else 0)=p at*
   generalize (if 0<b.af then b.af-1 else 0)=q at*
   rw[mO (by omega) (by omega) (by omega),kH ⟨by omega,by omega⟩ ⟨by omega,by omega⟩ (by omega)]
   exact⟨_,rfl,rfl, .inr (kM (by omega) (by omega) (by omega) (by omega))⟩
  ·rw[gI (.inr ha) (.inr hb)]
   simp only
   rw[show (if b.af<a.af then b.af else a.af)=min a.af b.af by split<;>omega]
   have vj:=dG (.inr ha) (.inr hb)
   obtain⟨l,u,e1,h1,_⟩:=tM vj (min a.af b.af)
   obtain⟨l',e2,h2⟩:=Gb vj (min a.af b.af)
   rw[e1,e2,h2.rep.uniq h1.rep]
   exact⟨l,rfl,rfl,h1.1⟩
  ·rw[gI (.inr ha) (.inr hb)]
   simp only
   rw[show (if a.aa<b.aa then b.aa else a.aa)=max a.aa b.aa by split<;>omega,aF]
   have vj:=dG (.inr ha) (.inr hb)
   obtain⟨l,u,e1,_,h1⟩:=tM vj (max a.aa b.aa-1)
   obtain⟨u',e2,h2⟩:=v8 vj (max a.aa b.aa-1)
   rw[e1,e2,h2.rep.uniq h1.rep]
   exact⟨u,rfl,rfl,h1.1⟩
theorem ssc(a b c:Int):a-c-(b-c)=a-b:=by omega
theorem cy{a:aD}(h:NN a):bz a a.aa:=⟨zk _,h.le,⟨0,by omega⟩⟩
theorem fl{a:aD}(h:NN a):bz a a.af:=⟨h.le,zk _,h.dvd⟩
theorem O3{a:aD}(h:NN a):bz a (a.aa+a.ah):=⟨by have:=h.s0;omega,by have:=h.sle;omega,⟨1,by omega⟩⟩
def Ip(a:aD)(x:Int):Prop:=x=a.aa\/x=a.aa+a.ah\/x=a.af
theorem oo{a:aD}(h:NN a){x:Int}(hx:Ip a x):bz a x:=by
 rcases hx with rfl|rfl|rfl
 ·exact cy h
 ·exact O3 h
 ·exact fl h
structure Mid (op:Int) (a b:aD) (Q:Int->Prop):Prop where
 c:∀x z,Ip a x->Ip b z->Q (eC op x z)
 v:∀y,Q y->qM op a b y
def CY(op:Int)(a b:aD)(y:Int):Prop:=∃x z,Ip a x/\Ip b z/\y=eC op x z
theorem afm{op:Int}{a b:aD}(ha:NN a)(hb:NN b):Mid op a b (qM op a b):=⟨fun x z hx hz=>⟨x,z,oo ha hx,oo hb hz,rfl⟩,fun _ h=>h⟩
theorem afF{op:Int}{a b:aD}(ha:NN a)(hb:NN b):Mid op a b (CY op a b):=⟨fun x z hx hz=>⟨x,z,hx,hz,rfl⟩,fun _ ⟨x,z,hx,hz,e⟩=>⟨x,z,oo ha hx,oo hb hz,e⟩⟩
theorem C5{a b:aD}(ha:NN a)(hb:NN b){Q:Int->Prop}(h:Mid 8 a b Q):ct Q (aD.mk (a.aa+b.aa) (a.af+b.af) (bL a.ah b.ah)):=by
 refine⟨h.c a.aa b.aa (.inl rfl) (.inl rfl),h.c a.af b.af (.inr (.inr rfl)) (.inr (.inr rfl)),fun y hy=> ?_,jT _ _,fun d hd=>hU ?_ ?_⟩
 ·obtain⟨x,z,⟨x1,x2,x3⟩,⟨z1,z2,z3⟩,rfl⟩:=h.v y hy
  show a.aa+b.aa<=x+z/\x+z<=a.af+b.af/\bL a.ah b.ah∣x+z-(a.aa+b.aa)
  refine⟨by omega,by omega,?_⟩
  have:=yO (zO (jd a.ah b.ah) x3) (zO (n9 a.ah b.ah) z3)
  rwa [show x-a.aa+(z-b.aa)=x+z-(a.aa+b.aa)by omega]at this
 ·have:=hd _ (h.c (a.aa+a.ah) b.aa (.inr (.inl rfl)) (.inl rfl))
  have this:d∣a.aa+a.ah+b.aa-(a.aa+b.aa):=this
  rwa [show a.aa+a.ah+b.aa-(a.aa+b.aa)=a.ah by omega]at this
 ·have:=hd _ (h.c a.aa (b.aa+b.ah) (.inl rfl) (.inr (.inl rfl)))
  have this:d∣a.aa+(b.aa+b.ah)-(a.aa+b.aa):=this
  rwa [show a.aa+(b.aa+b.ah)-(a.aa+b.aa)=b.ah by omega]at this
theorem JL{a b:aD}(ha:NN a)(hb:NN b){Q:Int->Prop}(h:Mid 9 a b Q):ct Q (aD.mk (a.aa-b.af) (a.af-b.aa) (bL a.ah b.ah)):=by
 refine⟨h.c a.aa b.af (.inl rfl) (.inr (.inr rfl)),h.c a.af b.aa (.inr (.inr rfl)) (.inl rfl),fun y hy=> ?_,jT _ _,fun d hd=>hU ?_ ?_⟩
 ·obtain⟨x,z,⟨x1,x2,x3⟩,⟨z1,z2,z3⟩,rfl⟩:=h.v y hy
  show a.aa-b.af<=x-z/\x-z<=a.af-b.aa/\bL a.ah b.ah∣x-z-(a.aa-b.af)
  refine⟨by omega,by omega,?_⟩
  have k:=yh hb.dvd z3
  have:=yO (zO (jd a.ah b.ah) x3) (zO (n9 a.ah b.ah) k)
  rwa [show x-a.aa+(b.af-b.aa-(z-b.aa))=x-z-(a.aa-b.af)by omega]at this
 ·have:=hd _ (h.c (a.aa+a.ah) b.af (.inr (.inl rfl)) (.inr (.inr rfl)))
  have this:d∣a.aa+a.ah-b.af-(a.aa-b.af):=this
  rwa [show a.aa+a.ah-b.af-(a.aa-b.af)=a.ah by omega]at this
 ·have k1:=hd _ (h.c a.aa b.aa (.inl rfl) (.inl rfl))
  have k2:=hd _ (h.c a.aa (b.aa+b.ah) (.inl rfl) (.inr (.inl rfl)))
  have k1:d∣a.aa-b.aa-(a.aa-b.af):=k1
  have k2:d∣a.aa-(b.aa+b.ah)-(a.aa-b.af):=k2
  have:=yh k1 k2
  rwa [show a.aa-b.aa-(a.aa-b.af)-(a.aa-(b.aa+b.ah)-(a.aa-b.af))=b.ah by omega]at this
theorem Lz{l h x z:Int}(h1:l<=x)(h2:x<=h):min (l*z) (h*z)<=x*z/\x*z<=max (l*z) (h*z):=by
 rcases Int.le_total 0 z with c|c
 ·have k1:=zF h1 c
  have k2:=zF h2 c
  omega
 ·have k1:=Int.mul_le_mul_of_nonpos_right h1 c
  have k2:=Int.mul_le_mul_of_nonpos_right h2 c
  omega
def Rt(p q r s:Int):Int:=min (min p q) (min r s)
def hi4(p q r s:Int):Int:=max (max p q) (max r s)
theorem Pe{a b:aD}{x z:Int}(hx:a.aa<=x/\x<=a.af)(hz:b.aa<=z/\z<=b.af):
  Rt (a.aa*b.aa) (a.aa*b.af) (a.af*b.aa) (a.af*b.af)<=x*z/\x*z<=hi4 (a.aa*b.aa) (a.aa*b.af) (a.af*b.aa) (a.af*b.af):=by
 have k1:=Lz (z:=x) hz.1 hz.2
 have k2:=Lz (z:=b.aa) hx.1 hx.2
 have k3:=Lz (z:=b.af) hx.1 hx.2
 rw[zw b.aa x,zw b.af x,zw z x]at k1
 unfold Rt hi4
 omega
theorem afM{P:Int->Prop}{p q r s:Int}(h1:P p)(h2:P q)(h3:P r)(h4:P s):P (Rt p q r s)/\P (hi4 p q r s):=by
 have e1:Rt p q r s=p\/Rt p q r s=q\/Rt p q r s=r\/Rt p q r s=s:=by unfold Rt;omega
 have e2:hi4 p q r s=p\/hi4 p q r s=q\/hi4 p q r s=r\/hi4 p q r s=s:=by unfold hi4;omega
 constructor
 ·rcases e1 with e|e|e|e<;>rw[e]<;>assumption
 ·rcases e2 with e|e|e|e<;>rw[e]<;>assumption
def ah8(a b:aD):aD:=aD.mk (Rt (a.aa*b.aa) (a.aa*b.af) (a.af*b.aa) (a.af*b.af)) (hi4 (a.aa*b.aa) (a.aa*b.af) (a.af*b.aa) (a.af*b.af)) (bL (bL (a.ah*b.aa) (b.ah*a.aa)) (a.ah*b.ah))
theorem I7{a b:aD}(ha:NN a)(hb:NN b){Q:Int->Prop}(h:Mid 10 a b Q):ct Q (ah8 a b):=by
 have h00:Q (a.aa*b.aa):=h.c a.aa b.aa (.inl rfl) (.inl rfl)
 have h01:Q (a.aa*b.af):=h.c a.aa b.af (.inl rfl) (.inr (.inr rfl))
 have h10:Q (a.af*b.aa):=h.c a.af b.aa (.inr (.inr rfl)) (.inl rfl)
 have h11:Q (a.af*b.af):=h.c a.af b.af (.inr (.inr rfl)) (.inr (.inr rfl))
 obtain⟨q1,q2⟩:=afM (P:=Q) h00 h01 h10 h11
 have g1:bL (bL (a.ah*b.aa) (b.ah*a.aa)) (a.ah*b.ah)∣a.ah*b.aa:=zO (jd _ _) (jd _ _)
 have g2:bL (bL (a.ah*b.aa) (b.ah*a.aa)) (a.ah*b.ah)∣b.ah*a.aa:=zO (jd _ _) (n9 _ _)
 have g3:bL (bL (a.ah*b.aa) (b.ah*a.aa)) (a.ah*b.ah)∣a.ah*b.ah:=n9 _ _
 have base:∀y,Q y->bL (bL (a.ah*b.aa) (b.ah*a.aa)) (a.ah*b.ah)∣y-a.aa*b.aa:=fun y hy=>by
  obtain⟨x,z,⟨_,_,i,x3⟩,⟨_,_,j,z3⟩,rfl⟩:=h.v y hy
  show _∣x*z-a.aa*b.aa
  have e:x*z-a.aa*b.aa=i*(a.ah*b.aa)+j*(b.ah*a.aa)+i*j*(a.ah*b.ah):=by
   have ex:x=a.aa+a.ah*i:=by omega
   have ez:z=b.aa+b.ah*j:=by omega
   rw[ex,ez,zM,yQ,yQ]
   have t1:a.aa*(b.ah*j)=j*(b.ah*a.aa):=by rw[<-zI,zw (a.aa*b.ah) j,zw a.aa b.ah]
   have t2:a.ah*i*b.aa=i*(a.ah*b.aa):=by rw[zw a.ah i,zI]
   have t3:a.ah*i*(b.ah*j)=i*j*(a.ah*b.ah):=by
    rw[zw a.ah i,zw b.ah j,zI,Int.mul_left_comm a.ah j,<-zI]
   rw[t1,t2,t3]
   omega
  rw[e]
  exact yO (yO (zO g1 (y7 ..)) (zO g2 (y7 ..))) (zO g3 (y7 ..))
 refine⟨q1,q2,fun y hy=> ?_,jT _ _,fun d hd=> ?_⟩
 ·obtain⟨x,z,hx,hz,e⟩:=h.v y hy
  have e:y=x*z:=e
  have k:=Pe ⟨hx.1,hx.2.1⟩ ⟨hz.1,hz.2.1⟩
  refine⟨by rw[e];exact k.1,by rw[e];exact k.2,?_⟩
  have:=yh (base y hy) (base _ q1)
  rwa [ssc]at this
 ·have diff:∀y y',Q y->Q y'->d∣y-y':=fun y y' hy hy'=>by
   have:=yh (hd y hy) (hd y' hy')
   rwa [ssc]at this
  have p10:Q ((a.aa+a.ah)*b.aa):=h.c _ _ (.inr (.inl rfl)) (.inl rfl)
  have p01:Q (a.aa*(b.aa+b.ah)):=h.c _ _ (.inl rfl) (.inr (.inl rfl))
  have p11:Q ((a.aa+a.ah)*(b.aa+b.ah)):=h.c _ _ (.inr (.inl rfl)) (.inr (.inl rfl))
  have d1:=diff _ _ p10 h00
  rw[zM,Int.add_comm (a.aa*b.aa),Int.add_sub_cancel]at d1
  have d2:=diff _ _ p01 h00
  rw[yQ,Int.add_comm (a.aa*b.aa),Int.add_sub_cancel,zw]at d2
  have d3:=yh (diff _ _ p11 p10) d2
  rw[yQ (a.aa+a.ah),Int.add_comm ((a.aa+a.ah)*b.aa),Int.add_sub_cancel,zM,zw b.ah a.aa,Int.add_comm (a.aa*b.ah),Int.add_sub_cancel]at d3
  exact hU (hU d1 d2) d3
end Go.Proofs.YtnfljbehcffmcaaGreat
end
noncomputable section
namespace Go.Proofs.YtnfljbehcffmcaaGreat
open Go Go.Iv
open Go.IntKind (i64)
def eO(a:aD):List Int:=[a.aa,a.aa+a.ah,a.af]
theorem nq(a:aD)(x:Int):Ip a x↔∃k,k<3/\x=(eO a)[k]! :=by
 constructor
 ·rintro(rfl|rfl|rfl)
  ·exact⟨0,by omega,rfl⟩
  ·exact⟨1,by omega,rfl⟩
  ·exact⟨2,by omega,rfl⟩
 ·rintro⟨k,hk,rfl⟩
  rcases (show k=0\/k=1\/k=2 by omega)with rfl|rfl|rfl
  ·exact .inl rfl
  ·exact .inr (.inl rfl)
  ·exact .inr (.inr rfl)
theorem Ei{a:aD}(h:NN a){k:Nat}(hk:k<3):bO (eO a)[k]! :=Sh (.inr h) (oo h ((nq a _).mpr ⟨k,hk,rfl⟩))
def prC(op:Int)(a b:aD)(i j:Nat)(l:List Int):Prop:=(∀y,y∈l↔(∃k,k<i/\∃m,m<3/\y=eC op (eO a)[k]! (eO b)[m]!)\/∃m,m<j/\y=eC op (eO a)[i]! (eO b)[m]!)/\l.length=i*3+j/\∀y∈l,bO y
theorem aaf{op:Int}{a b:aD}{i:Nat}{l:List Int}(h:prC op a b i 3 l):prC op a b (i+1) 0 l:=by
 refine⟨fun y=>(h.1 y).trans ⟨?_,?_⟩,by rw[h.2.1];omega,h.2.2⟩
 ·rintro(⟨k,hk,m,hm,e⟩|⟨m,hm,e⟩)
  ·exact .inl ⟨k,by omega,m,hm,e⟩
  ·exact .inl ⟨i,by omega,m,hm,e⟩
 ·rintro(⟨k,hk,m,hm,e⟩|⟨m,hm,e⟩)
  ·rcases yU.mp hk with c|rfl
   ·exact .inl ⟨k,c,m,hm,e⟩
   ·exact .inr ⟨m,hm,e⟩
  ·exact absurd hm (yw _)
theorem WG{op:Int}{a b c:aD}(ho:binop op)(ha:NN a)(hb:NN b){i:Nat}(hi:i<3){l:List Int}(hl:prC op a b i 0 l):
  (∃l',rG (fM.mk op l (eO a) (eO b) i 0 c)=O (fM.mk op l' (eO a) (eO b) i 3 c)/\prC op a b (i+1) 0 l')\/
  (∃l' j,j<3/\rG (fM.mk op l (eO a) (eO b) i 0 c)=O (fM.mk op l' (eO a) (eO b) i (j:Nat) c)/\¬bO (eC op (eO a)[i]! (eO b)[j]!)):=by
 have ll:∀a:aD,(eO a).length=3:=fun _=>rfl
 obtain⟨j,l',e,hI,h⟩:=nB (rnd:=Cz) 3 (fun j (l:List Int)=>fM.mk op l (eO a) (eO b) i (j:Nat) c) (fun j l=>prC op a b i j l) (fun j l=>¬bO (eC op (eO a)[i]! (eO b)[j]!))
  (fun j l hj hI=>by
   obtain⟨v,ev,hv⟩:=kG (Ei ha hi) (Ei hb hj) ho
   unfold Cz
   simp only
   rw[qz,cond_true,ll,ll,fK,za,if_pos ⟨trivial,hi⟩,fK,za,if_pos ⟨trivial,hj⟩,ev]
   simp only
   by_cases hr:bO (eC op (eO a)[i]! (eO b)[j]!)
   ·left
    rw[decide_eq_true hr]
    simp only[cond_true,cond_false]
    rw[if_pos (by rw[zh,hI.2.1];simp;omega),fq hj (by omega),hv hr]
    refine⟨_,rfl,fun y=> ?_,by rw[zh,hI.2.1];simp;omega,fun y hy=> ?_⟩
    ·rw[zP,zD,hI.1 y]
     constructor
     ·rintro((h|⟨m,hm,h⟩)|rfl)
      ·exact .inl h
      ·exact .inr ⟨m,by omega,h⟩
      ·exact .inr ⟨j,by omega,rfl⟩
     ·rintro(h|⟨m,hm,h⟩)
      ·exact .inl (.inl h)
      ·rcases yU.mp hm with c|rfl
       ·exact .inl (.inr ⟨m,c,h⟩)
       ·exact .inr h
    ·rcases zP.mp hy with hy|hy
     ·exact hI.2.2 y hy
     ·rw[zD.mp hy];exact hr
   ·right
    rw[decide_eq_false hr]
    exact⟨rfl,hr⟩)
  (fun l hI=>by
   unfold Cz
   simp only
   rw[dZ]
   rfl) (b:=l) hl
 have e:bw Cz (fM.mk op l (eO a) (eO b) i 0 c)=O (fM.mk op l' (eO a) (eO b) i (j:Nat) c):=e
 rcases h with rfl|⟨hj,h⟩
 ·exact .inl ⟨l',e,aaf hI⟩
 ·exact .inr ⟨l',j,hj,e,h⟩
theorem adJ{op:Int}{a b:aD}(ho:binop op)(ha:NN a)(hb:NN b):
  ((∀y,CY op a b y->bO y)/\∃c,tB op a b=O (c,0)/\ct (CY op a b) c)\/((¬∀y,CY op a b y->bO y)/\tB op a b=O (aD.mk 0 0 0,3)):=by
 have ll:∀a:aD,(eO a).length=3:=fun _=>rfl
 have wc:∀{a:aD},NN a->[a.aa,i64.wrap (a.aa+a.ah),a.af]=eO a:=fun{a} h=>by
  have:=Sh (.inr h) (O3 h)
  rw[aF (by have:=this.1;omega) (by have:=this.2;omega)]
  rfl
 unfold tB
 rw[wc ha,wc hb]
 obtain⟨i,l,e,hI,h⟩:=nB (rnd:=vh) 3 (fun i (l:List Int)=>lz.mk op l (eO a) (eO b) (i:Nat) (aD.mk 0 0 0)) (fun i l=>prC op a b i 0 l) (fun i l=>∃l' j,j<3/\rG (fM.mk op l (eO a) (eO b) i 0 (aD.mk 0 0 0))=O (fM.mk op l' (eO a) (eO b) i (j:Nat) (aD.mk 0 0 0))/\¬bO (eC op (eO a)[i]! (eO b)[j]!))
  (fun i l hi hI=>by
   unfold vh
   simp only
   rw[qz,cond_true]
   rcases WG (c:=aD.mk 0 0 0) ho ha hb hi hI with ⟨l',e,h⟩|⟨l',j,hj,e,h⟩
   ·left
    rw[e]
    simp only
    rw[dZ,cond_false,fq hi (by omega)]
    exact⟨l',rfl,h⟩
   ·right
    refine⟨?_,l',j,hj,e,h⟩
    rw[e]
    simp only
    obtain⟨v,ev,hv⟩:=kG (Ei ha hi) (Ei hb hj) ho
    rw[qz,cond_true,ll,ll,fK,za,if_pos ⟨trivial,hi⟩,fK,za,if_pos ⟨trivial,hj⟩,ev]
    simp only
    rw[decide_eq_false h]
    rfl)
  (fun l hI=>by
   unfold vh
   simp only
   rw[dZ]
   rfl) (b:=[]) ⟨fun y=>⟨fun h=>absurd h (by simp),fun h=>by
    rcases h with ⟨k,hk,_⟩|⟨m,hm,_⟩
    ·exact absurd hk (yw _)
    ·exact absurd hm (yw _)⟩,by simp,fun y hy=>absurd hy (by simp)⟩
 have e:bw vh (lz.mk op [] (eO a) (eO b) 0 (aD.mk 0 0 0))=O (lz.mk op l (eO a) (eO b) (i:Nat) (aD.mk 0 0 0)):=e
 rw[show Gz=bw vh from rfl,e]
 simp only
 rcases h with rfl|⟨hi,l',j,hj,e1,h⟩
 ·left
  have mem:∀y,y∈l↔CY op a b y:=fun y=>(hI.1 y).trans ⟨fun h=>by
   rcases h with ⟨k,hk,m,hm,e⟩|⟨m,hm,_⟩
   ·exact⟨_,_,(nq a _).mpr ⟨k,hk,rfl⟩,(nq b _).mpr ⟨m,hm,rfl⟩,e⟩
   ·exact absurd hm (yw _),fun⟨x,z,hx,hz,e⟩=>by
   obtain⟨k,hk,rfl⟩:=(nq a _).mp hx
   obtain⟨m,hm,rfl⟩:=(nq b _).mp hz
   exact .inl ⟨k,hk,m,hm,e⟩⟩
  rw[dZ,cond_false]
  have hne:l≠[]:=fun e=>by
   have:=hI.2.1
   rw[e]at this
   simp at this
  obtain⟨c,e2,hc⟩:=F1 hne (by rw[hI.2.1];omega) hI.2.2
  rw[e2]
  exact⟨fun y hy=>hI.2.2 y ((mem y).mpr hy),c,rfl,hc.congr mem⟩
 ·right
  refine⟨fun k=>h (k _ ⟨_,_,(nq a _).mpr ⟨i,hi,rfl⟩,(nq b _).mpr ⟨j,hj,rfl⟩,rfl⟩),?_⟩
  rw[qz,cond_true,e1]
  simp only
  obtain⟨v,ev,hv⟩:=kG (Ei ha hi) (Ei hb hj) ho
  rw[qz,cond_true,ll,ll,fK,za,if_pos ⟨trivial,hi⟩,fK,za,if_pos ⟨trivial,hj⟩,ev]
  simp only
  rw[decide_eq_false h]
  rfl
theorem gP{op:Int}{a b c:aD}(ho:op=8\/op=9\/op=10)(ha:NN a)(hb:NN b)(hc:∀Q,Mid op a b Q->ct Q c)(hR:(∀y,CY op a b y->bO y)->∀y,qM op a b y->bO y):
  ((∀y,qM op a b y->bO y)/\lB op a b=O (c,0)/\NN c)\/((¬∀y,qM op a b y->bO y)/\lB op a b=O (aD.mk 0 0 0,3)):=by
 have hbin:binop op:=by unfold binop;omega
 by_cases hs:cnt a*cnt b<=4096
 ·rw[kA hbin ha hb hs]
  rcases tg hbin ha hb (by omega)with ⟨h1,d,e,h2⟩|⟨h1,e⟩
  ·have k:=hc _ (afm ha hb)
   rw[h2.uniq k]at e
   exact .inl ⟨h1,e,k.valid h1⟩
  ·exact .inr ⟨h1,e⟩
 ·have e0:lB op a b=tB op a b:=by
   rw[uy hbin ha hb hs]
   unfold R5
   rcases ho with rfl|rfl|rfl<;>rfl
  rw[e0]
  rcases adJ hbin ha hb with ⟨h1,d,e,h2⟩|⟨h1,e⟩
  ·rw[h2.uniq (hc _ (afF ha hb))]at e
   exact .inl ⟨hR h1,e,(hc _ (afm ha hb)).valid (hR h1)⟩
  ·exact .inr ⟨fun k=>h1 fun y hy=>k y ((afF ha hb).v y hy),e⟩
theorem Ru{c:aD}(h:NN c):iC c.aa c.af c.ah=c:=by
 rw[IB h.le h.s0 h.dvd (fun k=>by rcases h.st with e|e;exact e.2;omega)]
theorem vX{c:aD}(h:NN c):lS c.aa c.af c.ah=O c:=by
 have:=h.lo;have:=h.hi
 rw[mO (by omega) (by omega) h.s0,Ru h]
theorem lR{op:Int}{a b:aD}(ho:binop op)(ha:NN a)(hb:NN b){r:Option (aD×Int)}
  (h:(bif wF (op=9)then
   match bif bif iR (i64.wrap (a.aa+i64.wrap (0-b.af)))then wD else wE then O wE else O (bif iR (i64.wrap (a.af+i64.wrap (0-b.aa)))then wD else wE)with
   |none=>wC
   |some r5=>bif r5 then O (aD.mk 0 0 0,3)else match Al [a.ah,b.ah]with
    |none=>wC
    |some r6=>match lS (i64.wrap (a.aa+i64.wrap (0-b.af))) (i64.wrap (a.af+i64.wrap (0-b.aa))) r6 with
     |none=>wC
     |some r7=>O (r7,0)
  else bif wF (op=8)then
   match bif bif iR (i64.wrap (a.aa+b.aa))then wD else wE then O wE else O (bif iR (i64.wrap (a.af+b.af))then wD else wE)with
   |none=>wC
   |some r8=>bif r8 then O (aD.mk 0 0 0,3)else match Al [a.ah,b.ah]with
    |none=>wC
    |some r9=>match lS (i64.wrap (a.aa+b.aa)) (i64.wrap (a.af+b.af)) r9 with
     |none=>wC
     |some r10=>O (r10,0)
  else bif wF (op=10)then match S5 a b with
   |none=>wC
   |some r11=>O r11
  else bif wF (op=11)then match uH op a b with
   |none=>wC
   |some r12=>O (r12,0)
  else bif wF (op=12)then match uH op a b with
   |none=>wC
   |some r13=>O (r13,0)
  else bif wF (op=21)then match uH op a b with
   |none=>wC
   |some r14=>O (r14,0)
  else bif wF (op=22)then match uH op a b with
   |none=>wC
   |some r15=>O (r15,0)
  else match VB op a b with
   |none=>wC
   |some r16=>O (r16,0))=r):tN op a b=r:=by
 unfold tN
 rw[dD,dD,cU (.inr ha),cU (.inr hb),iy,decide_eq_true ho]
 simp only[cond_true,cond_false]
 rw[dx ha.ne,dx hb.ne]
 simp only[cond_false]
 exact h
theorem mb{a b:aD}(ha:NN a)(hb:NN b):(∀y,qM 8 a b y->bO y)↔bO (a.aa+b.aa)/\bO (a.af+b.af):=by
 constructor
 ·intro h
  exact⟨h _ ⟨_,_,cy ha,cy hb,rfl⟩,h _ ⟨_,_,fl ha,fl hb,rfl⟩⟩
 ·rintro⟨⟨h1,h2⟩,⟨h3,h4⟩⟩ y ⟨x,z,⟨x1,x2,_⟩,⟨z1,z2,_⟩,rfl⟩
  exact⟨by show _<=x+z;omega,by show x+z<=_;omega⟩
theorem pP{a b:aD}(ha:NN a)(hb:NN b):(∀y,qM 9 a b y->bO y)↔bO (a.aa-b.af)/\bO (a.af-b.aa):=by
 constructor
 ·intro h
  exact⟨h _ ⟨_,_,cy ha,fl hb,rfl⟩,h _ ⟨_,_,fl ha,cy hb,rfl⟩⟩
 ·rintro⟨⟨h1,h2⟩,⟨h3,h4⟩⟩ y ⟨x,z,⟨x1,x2,_⟩,⟨z1,z2,_⟩,rfl⟩
  exact⟨by show _<=x-z;omega,by show x-z<=_;omega⟩
theorem iO{a b:aD}(ha:NN a)(hb:NN b):(∀y,qM 10 a b y->bO y)↔bO (a.aa*b.aa)/\bO (a.aa*b.af)/\bO (a.af*b.aa)/\bO (a.af*b.af):=by
 constructor
 ·intro h
  exact⟨h _ ⟨_,_,cy ha,cy hb,rfl⟩,h _ ⟨_,_,cy ha,fl hb,rfl⟩,h _ ⟨_,_,fl ha,cy hb,rfl⟩,h _ ⟨_,_,fl ha,fl hb,rfl⟩⟩
 ·rintro⟨h1,h2,h3,h4⟩ y ⟨x,z,⟨x1,x2,_⟩,⟨z1,z2,_⟩,rfl⟩
  have k:=Pe (a:=a) (b:=b) ⟨x1,x2⟩ ⟨z1,z2⟩
  obtain⟨⟨p1,p2⟩,⟨p3,p4⟩⟩:=afM (P:=bO) h1 h2 h3 h4
  exact⟨by show _<=x*z;omega,by show x*z<=_;omega⟩
theorem adm{x y u v:Int}(h1:x.natAbs=u.natAbs)(h2:y.natAbs=v.natAbs):bL x y=bL u v:=by
 unfold bL yp
 rw[h1,h2]
theorem SI(p q r s:Int):Yk ([p]++[q]++[r]++[s])=O (Rt p q r s):=by
 unfold Yk
 rw[decide_eq_false (by simp),cond_false,if_pos (by simp),show F5=bw CQ from rfl]
 have st:∀m k,k=1\/k=2\/k=3->CQ (m9.mk ([p]++[q]++[r]++[s]) m k)=O (O (m9.mk ([p]++[q]++[r]++[s]) (min m ([p]++[q]++[r]++[s])[k.toNat]!) (k+1))):=fun m k hk=>by
  unfold CQ
  simp only
  rw[decide_eq_true (by simp;omega),cond_true,if_pos (by simp;omega),aF]
  have e:∀w:Int,(if w<m then w else m)=min m w:=fun w=>by split<;>omega
  rw[e]
 rw[bF (st _ 1 (.inl rfl)),bF (st _ (1+1) (.inr (.inl rfl))),bF (st _ (1+1+1) (.inr (.inr rfl))),bW (by intro x hx;simp[CQ]at hx)]
 simp only
 rw[decide_eq_false (by simp),cond_false]
 show O (min (min (min p q) r) s)=O (Rt p q r s)
 unfold Rt
 congr 1
 omega
theorem Rm(p q r s:Int):ac4 ([p]++[q]++[r]++[s])=O (hi4 p q r s):=by
 unfold ac4
 rw[decide_eq_false (by simp),cond_false,if_pos (by simp),show Ft=bw BV from rfl]
 have st:∀m k,k=1\/k=2\/k=3->BV (mE.mk ([p]++[q]++[r]++[s]) m k)=O (O (mE.mk ([p]++[q]++[r]++[s]) (max m ([p]++[q]++[r]++[s])[k.toNat]!) (k+1))):=fun m k hk=>by
  unfold BV
  simp only
  rw[decide_eq_true (by simp;omega),cond_true,if_pos (by simp;omega),aF]
  have e:∀w:Int,(if m<w then w else m)=max m w:=fun w=>by split<;>omega
  rw[e]
 rw[bF (st _ 1 (.inl rfl)),bF (st _ (1+1) (.inr (.inl rfl))),bF (st _ (1+1+1) (.inr (.inr rfl))),bW (by intro x hx;simp[BV]at hx)]
 simp only
 rw[decide_eq_false (by simp),cond_false]
 show O (max (max (max p q) r) s)=O (hi4 p q r s)
 unfold hi4
 congr 1
 omega
end Go.Proofs.YtnfljbehcffmcaaGreat
end
noncomputable section
namespace Go.Proofs.YtnfljbehcffmcaaGreat
open Go Go.Iv
theorem amx(x y:Int):(bif bif iR x then wD else wE then O wE else O (bif iR y then wD else wE))=O (!(wF (bO x)&&wF (bO y))):=by
 rw[show iR x=wF (bO x)from iX x,show iR y=wF (bO y)from iX y]
 cases wF (bO x)<;>cases wF (bO y)<;>rfl
theorem dO{op:Int}{a b:aD}(h:∀y,CY op a b y->bO y){x z:Int}(hx:Ip a x)(hz:Ip b z):bO (eC op x z):=h _ ⟨x,z,hx,hz,rfl⟩
def LQ(op:Int)(a b:aD):Prop:=∃r,tN op a b=O r/\lB op a b=O r/\NV r.1
theorem Wy{a b:aD}(ha:NN a)(hb:NN b):LQ 8 a b:=by
 have r1:=ha.pT
 have r2:=ha.wQ
 have r3:=hb.pT
 have r4:=hb.wQ
 obtain⟨a1,a2⟩:=r1
 obtain⟨a3,a4⟩:=r2
 obtain⟨b1,b2⟩:=r3
 obtain⟨b3,b4⟩:=r4
 have key:=gP (op:=8) (.inl rfl) ha hb (fun Q h=>C5 ha hb h) (fun h=>(mb ha hb).mpr ⟨dO h (.inl rfl) (.inl rfl),dO h (.inr (.inr rfl)) (.inr (.inr rfl))⟩)
 have prog:∀r,(match O (!(wF (bO (a.aa+b.aa))&&wF (bO (a.af+b.af))))with
   |none=>wC
   |some r8=>bif r8 then O (aD.mk 0 0 0,(3:Int))else match lS (a.aa+b.aa) (a.af+b.af) (bL a.ah b.ah)with
     |none=>wC
     |some r10=>O (r10,0))=r->tN 8 a b=r:=fun r h=>lR ⟨by decide,by decide⟩ ha hb (by
  simp only[Int.reduceEq,decide_false,decide_true,cond_false,cond_true]
  rw[amx,aF (n:=a.aa+b.aa),aF (n:=a.af+b.af),BI ha.s0 hb.s0]
  exact h)
 rcases key with ⟨h1,e,hv⟩|⟨h1,e⟩
 ·obtain⟨k1,k2⟩:=(mb ha hb).mp h1
  refine⟨_,prog _ ?_,e, .inr hv⟩
  rw[decide_eq_true k1,decide_eq_true k2]
  have:=vX hv
  have this:lS (a.aa+b.aa) (a.af+b.af) (bL a.ah b.ah)=O _:=this
  rw[this]
  rfl
 ·refine⟨_,prog _ ?_,e,MI⟩
  have:(wF (bO (a.aa+b.aa))&&wF (bO (a.af+b.af)))=wD:=by
   cases c1:wF (bO (a.aa+b.aa))<;>cases c2:wF (bO (a.af+b.af))<;>first|rfl|exact absurd ((mb ha hb).mpr ⟨of_decide_eq_true c1,of_decide_eq_true c2⟩) h1
  rw[this]
  rfl
theorem UF{a b:aD}(ha:NN a)(hb:NN b):LQ 9 a b:=by
 have r1:=ha.pT
 have r2:=ha.wQ
 have r3:=hb.pT
 have r4:=hb.wQ
 obtain⟨a1,a2⟩:=r1
 obtain⟨a3,a4⟩:=r2
 obtain⟨b1,b2⟩:=r3
 obtain⟨b3,b4⟩:=r4
 have key:=gP (op:=9) (.inr (.inl rfl)) ha hb (fun Q h=>JL ha hb h) (fun h=>(pP ha hb).mpr ⟨dO h (.inl rfl) (.inr (.inr rfl)),dO h (.inr (.inr rfl)) (.inl rfl)⟩)
 have prog:∀r,(match O (!(wF (bO (a.aa-b.af))&&wF (bO (a.af-b.aa))))with
   |none=>wC
   |some r8=>bif r8 then O (aD.mk 0 0 0,(3:Int))else match lS (a.aa-b.af) (a.af-b.aa) (bL a.ah b.ah)with
     |none=>wC
     |some r10=>O (r10,0))=r->tN 9 a b=r:=fun r h=>lR ⟨by decide,by decide⟩ ha hb (by
  simp only[Int.reduceEq,decide_false,decide_true,cond_false,cond_true]
  rw[amx,aF (n:=0-b.af),aF (n:=0-b.aa),aF (n:=a.aa+(0-b.af)),aF (n:=a.af+(0-b.aa)),BI ha.s0 hb.s0,
   show a.aa+(0-b.af)=a.aa-b.af by omega,show a.af+(0-b.aa)=a.af-b.aa by omega]
  exact h)
 rcases key with ⟨h1,e,hv⟩|⟨h1,e⟩
 ·obtain⟨k1,k2⟩:=(pP ha hb).mp h1
  refine⟨_,prog _ ?_,e, .inr hv⟩
  rw[decide_eq_true k1,decide_eq_true k2]
  have:=vX hv
  have this:lS (a.aa-b.af) (a.af-b.aa) (bL a.ah b.ah)=O _:=this
  rw[this]
  rfl
 ·refine⟨_,prog _ ?_,e,MI⟩
  have:(wF (bO (a.aa-b.af))&&wF (bO (a.af-b.aa)))=wD:=by
   cases c1:wF (bO (a.aa-b.af))<;>cases c2:wF (bO (a.af-b.aa))<;>first|rfl|exact absurd ((pP ha hb).mpr ⟨of_decide_eq_true c1,of_decide_eq_true c2⟩) h1
  rw[this]
  rfl
theorem W2{a b:aD}(ha:NN a)(hb:NN b):LQ 10 a b:=by
 have key:=gP (op:=10) (.inr (.inr rfl)) ha hb (fun Q h=>I7 ha hb h) (fun h=>(iO ha hb).mpr ⟨dO h (.inl rfl) (.inl rfl),dO h (.inl rfl) (.inr (.inr rfl)),dO h (.inr (.inr rfl)) (.inl rfl),dO h (.inr (.inr rfl)) (.inr (.inr rfl))⟩)
 have prog:tN 10 a b=S5 a b:=lR ⟨by decide,by decide⟩ ha hb (by
  simp only[Int.reduceEq,decide_false,decide_true,cond_false,cond_true]
  cases S5 a b<;>rfl)
 unfold LQ
 rw[prog]
 obtain⟨v1,e1,q1⟩:=AQ ha.pT hb.pT
 obtain⟨v2,e2,q2⟩:=AQ ha.pT hb.wQ
 obtain⟨v3,e3,q3⟩:=AQ ha.wQ hb.pT
 obtain⟨v4,e4,q4⟩:=AQ ha.wQ hb.wQ
 unfold S5
 rw[e1]
 simp only
 by_cases c1:bO (a.aa*b.aa)
 ·rw[decide_eq_true c1,e2]
  simp only[cond_true,cond_false]
  by_cases c2:bO (a.aa*b.af)
  ·rw[decide_eq_true c2,e3]
   simp only[cond_true,cond_false]
   by_cases c3:bO (a.af*b.aa)
   ·rw[decide_eq_true c3,e4]
    simp only[cond_true,cond_false]
    by_cases c4:bO (a.af*b.af)
    ·rw[decide_eq_true c4]
     simp only[cond_true,cond_false]
     have hr:=(iO ha hb).mpr ⟨c1,c2,c3,c4⟩
     rcases key with ⟨_,e,hv⟩|⟨h1,_⟩
     ·have r1:=ha.pT
      have r3:=hb.pT
      obtain⟨a1,a2⟩:=r1
      obtain⟨b1,b2⟩:=r3
      have s1:=ha.s0
      have s2:=hb.s0
      have l1:=ha.sle
      have l2:=hb.sle
      obtain⟨w1,w2⟩:=c1
      obtain⟨w3,w4⟩:=c2
      obtain⟨w5,w6⟩:=c3
      obtain⟨w7,w8⟩:=c4
      have n1:0<=a.ah*((b.aa.natAbs:Nat):Int):=zo s1 (by omega)
      have n2:0<=b.ah*((a.aa.natAbs:Nat):Int):=zo s2 (by omega)
      have n3:0<=a.ah*b.ah:=zo s1 s2
      have k1:a.ah*((b.aa.natAbs:Nat):Int)<=2199023255552:=by
       have t:=zF l1 (show 0<=((b.aa.natAbs:Nat):Int)by omega)
       have t2:(a.af-a.aa)*((b.aa.natAbs:Nat):Int)<=2199023255552:=by
        rcases Int.le_total 0 b.aa with c|c
        ·rw[show ((b.aa.natAbs:Nat):Int)=b.aa by omega,yf];omega
        ·rw[show ((b.aa.natAbs:Nat):Int)= -b.aa by omega,xE,yf];omega
       omega
      have k2:b.ah*((a.aa.natAbs:Nat):Int)<=2199023255552:=by
       have t:=zF l2 (show 0<=((a.aa.natAbs:Nat):Int)by omega)
       have t2:(b.af-b.aa)*((a.aa.natAbs:Nat):Int)<=2199023255552:=by
        rcases Int.le_total 0 a.aa with c|c
        ·rw[show ((a.aa.natAbs:Nat):Int)=a.aa by omega,yf,zw b.af,zw b.aa];omega
        ·rw[show ((a.aa.natAbs:Nat):Int)= -a.aa by omega,xE,yf,zw b.af,zw b.aa];omega
       omega
      have k3:a.ah*b.ah<=4398046511104:=by
       have t:=yN l1 l2 s2 (by omega)
       rw[yf,Int.mul_sub,Int.mul_sub]at t
       omega
      rw[lE hb.pT,lE ha.pT,aF (n:=a.ah*((b.aa.natAbs:Nat):Int)),aF (n:=b.ah*((a.aa.natAbs:Nat):Int)),aF (n:=a.ah*b.ah),
       By n1 n2 n3,SI,Rm,q1 ⟨w1,w2⟩,q2 ⟨w3,w4⟩,q3 ⟨w5,w6⟩,q4 ⟨w7,w8⟩]
      simp only
      have eg:bL (bL (a.ah*((b.aa.natAbs:Nat):Int)) (b.ah*((a.aa.natAbs:Nat):Int))) (a.ah*b.ah)=(ah8 a b).ah:=by
       show _=bL (bL (a.ah*b.aa) (b.ah*a.aa)) (a.ah*b.ah)
       rw[adm (x:=a.ah*((b.aa.natAbs:Nat):Int)) (u:=a.ah*b.aa) (by rw[Int.natAbs_mul,Int.natAbs_mul,Int.natAbs_natCast]) (y:=b.ah*((a.aa.natAbs:Nat):Int)) (v:=b.ah*a.aa) (by rw[Int.natAbs_mul,Int.natAbs_mul,Int.natAbs_natCast])]
      rw[eg]
      have:=vX hv
      have this:lS (Rt (a.aa*b.aa) (a.aa*b.af) (a.af*b.aa) (a.af*b.af)) (hi4 (a.aa*b.aa) (a.aa*b.af) (a.af*b.aa) (a.af*b.af)) (ah8 a b).ah=O _:=this
      rw[this]
      exact⟨_,rfl,e, .inr hv⟩
     ·exact absurd hr h1
    ·rcases key with ⟨h1,_⟩|⟨_,e⟩
     ·exact absurd ((iO ha hb).mp h1).2.2.2 c4
     ·rw[decide_eq_false c4];exact⟨_,rfl,e,MI⟩
   ·rcases key with ⟨h1,_⟩|⟨_,e⟩
    ·exact absurd ((iO ha hb).mp h1).2.2.1 c3
    ·rw[decide_eq_false c3];exact⟨_,rfl,e,MI⟩
  ·rcases key with ⟨h1,_⟩|⟨_,e⟩
   ·exact absurd ((iO ha hb).mp h1).2.1 c2
   ·rw[decide_eq_false c2];exact⟨_,rfl,e,MI⟩
 ·rcases key with ⟨h1,_⟩|⟨_,e⟩
  ·exact absurd ((iO ha hb).mp h1).1 c1
  ·rw[decide_eq_false c1];exact⟨_,rfl,e,MI⟩
end Go.Proofs.YtnfljbehcffmcaaGreat
end
noncomputable section
namespace Go.Proofs.YtnfljbehcffmcaaGreat
open Go Go.Iv
open Go.IntKind (i64)
structure Eu (x m a b u v:Int):Prop where
 a0:0<=a
 b2:2<=b
 ab:a<b
 g:yp a b=1
 du:m∣u*x-a
 dv:m∣v*x-b
 s:(0<=u/\v<=0/\b*u-a*v=m)\/(u<=0/\0<=v/\a*v-b*u=m)
theorem Eu.next{x m a b u v:Int}(h:Eu x m a b u v)(ha:1<a):Eu x m (b%a) a (v-b/a*u) u:=by
 have e:=yL b a
 have m0:=yM b (b:=a) (by omega)
 have m1:=yP b (b:=a) (by omega)
 refine⟨m0,by omega,m1,?_,?_,h.du,?_⟩
 ·have:=ox (a:=b) (b:=a) (by have:=h.b2;omega) (by omega)
  rw[jx (by have:=h.b2;omega)]at this
  rw[Int.gcd_comm,this,Int.gcd_comm]
  exact h.g
 ·have k:=yh h.dv (zO h.du (y7 (b/a) _))
  have:v*x-b-b/a*(u*x-a)=(v-b/a*u)*x-b%a:=by
   rw[Int.mul_sub,yf,zI,zw (b/a) a]
   omega
  rwa [this]at k
 ·have t1:(b%a)*u=b*u-a*(b/a*u):=by
   rw[<-zI,<-yf]
   congr 1
   omega
  have t2:a*(v-b/a*u)=a*v-a*(b/a*u):=Int.mul_sub ..
  have q0:0<=b/a:=zL (by have:=h.b2;omega) (by omega)
  rcases h.s with ⟨s1,s2,s3⟩|⟨s1,s2,s3⟩
  ·have:=zo q0 s1
   exact .inr ⟨by omega,s1,by omega⟩
  ·have:=zo q0 (show 0<= -u by omega)
   rw[xE]at this
   exact .inl ⟨by omega,s1,by omega⟩
theorem Eu.bd{x m a b u v:Int}(h:Eu x m a b u v): -m<=u/\u<=m:=by
 have hb:=h.b2
 have ha:=h.a0
 rcases h.s with ⟨s1,s2,s3⟩|⟨s1,s2,s3⟩
 ·have k1:=zo ha (show 0<= -v by omega)
  rw[xE]at k1
  have k2:1*u<=b*u:=zF (by omega) s1
  omega
 ·have k1:=zo ha s2
  have k2:1*(-u)<=b*(-u):=zF (by omega) (by omega)
  simp only[xE,zN]at k2
  omega
theorem Eu.bv{x m a b u v:Int}(h:Eu x m a b u v)(ha:1<a): -m<=v/\v<=m:=by
 have hb:=h.b2
 rcases h.s with ⟨s1,s2,s3⟩|⟨s1,s2,s3⟩
 ·have k1:=zo (show 0<=b by omega) s1
  have k2:1*(-v)<=a*(-v):=zF (by omega) (by omega)
  simp only[xE,zN]at k2
  omega
 ·have k1:=zo (show 0<=b by omega) (show 0<= -u by omega)
  rw[xE]at k1
  have k2:1*v<=a*v:=zF (by omega) s2
  omega
theorem ajb{x m a b u v:Int}(hm:m<1152921504606846976)(hbm:b<=m)(h:Eu x m a b u v):∃b' u' v',FZ (jl.mk m a b u v)=O (jl.mk m 1 b' u' v')/\m∣u'*x-1/\ -m<=u'/\u'<=m:=by
 obtain⟨z,e1,⟨a',b',u',v',rfl,hI,hb⟩,hs⟩:=kr (rnd:=Bo) (fun p=>∃a b u v,p=jl.mk m a b u v/\Eu x m a b u v/\b<=m) (fun p=>p.t5.toNat) (fun p p' ⟨a,b,u,v,hp,hI,hbm⟩ hn=>by
  subst hp
  have hn:Bo (jl.mk m a b u v)=O (O p'):=hn
  unfold Bo at hn
  simp only at hn
  by_cases c:1<a
  ·have hN:=hI.next c
   have q0:0<=b/a:=zL (by have:=hI.b2;omega) (by omega)
   have q1:b/a<=b:=z7 _ (by have:=hI.b2;omega)
   have e:=yL b a
   rw[zw]at e
   have m0:=hN.a0
   have m1:=hN.ab
   have bu:=hI.bd
   have bv:=hI.bv c
   have bn:=hN.bd
   have hb2:=hI.b2
   have hab:=hI.ab
   rw[decide_eq_true c,cond_true,fK,ja,aF (n:=b/a),aF (n:=b/a*a),aF (n:=b-b/a*a),aF (n:=b/a*u),aF (n:=v-b/a*u)]at hn
   simp only[zB.injEq]at hn
   subst hn
   rw[show b-b/a*a=b%a by omega]
   exact⟨⟨b%a,a,_,_,rfl,hN,by have:=hI.ab;omega⟩,by show (b%a).toNat<a.toNat;omega⟩
  ·rw[decide_eq_false c]at hn;cases hn) ⟨a,b,u,v,rfl,h,hbm⟩
 have hle:¬1<a':=fun c=>by
  have hN:=hI.next c
  have q0:0<=b'/a':=zL (by have:=hI.b2;omega) (by omega)
  refine hs (jl.mk m (i64.wrap (b'-i64.wrap (i64.wrap (b'.tdiv a')*a'))) a' (i64.wrap (v'-i64.wrap (i64.wrap (b'.tdiv a')*u'))) u') ?_
  unfold Bo
  simp only
  rw[decide_eq_true c,cond_true,fK]
 have a1:a'=1:=by
  have:=hI.a0
  rcases (show a'=0\/a'=1 by omega)with rfl|rfl
  ·have g:=hI.g
   rw[Int.gcd_zero_left]at g
   have:=hI.b2
   omega
  ·rfl
 subst a1
 exact⟨b',u',v',e1,hI.du,hI.bd⟩
theorem adL{x m:Int}(h0:0<=x)(h1:2<=m)(h2:m<1152921504606846976)(hg:yp x m=1):∃v:Int,YN x m=O v/\0<=v/\v<m/\m∣v*x-1:=by
 have m0:=yM x (b:=m) (by omega)
 have m1:=yP x (b:=m) (by omega)
 have e:=yL x m
 obtain⟨b',u',v',e1,d1,d2,d3⟩:=ajb (x:=x) (m:=m) (a:=x%m) (b:=m) (u:=1) (v:=0) h2 (zk _) ⟨m0,h1,m1,by
   have:=ox (a:=x) (b:=m) h0 (by omega)
   rw[jx h0]at this
   rw[Int.gcd_comm,this,hg],⟨x/m,by omega⟩,⟨-1,by omega⟩, .inl ⟨by omega,by omega,by omega⟩⟩
 unfold YN
 rw[fK,jx h0,e1]
 simp only
 rw[dZ,cond_false,fK,fK]
 have t:=Int.mul_tdiv_add_tmod u' m
 have tb:(u'.tmod m).natAbs<m.natAbs:=by rw[Int.natAbs_tmod];exact y4 _ (by omega)
 rw[aF,jx]
 have ev:(u'.tmod m+m)%m=u'%m:=by
  rw[Int.add_emod_right]
  conv=>rhs;rw[<-t]
  rw[Int.mul_add_emod_self_left]
 rw[ev]
 refine⟨u'%m,rfl,yM _ (by omega),yP _ (by omega),?_⟩
 have e2:=yL u' m
 have:u'%m*x-1=u'*x-1-m*(u'/m*x):=by
  rw[<-zI]
  have:u'%m*x=u'*x-m*(u'/m)*x:=by
   rw[<-yf]
   congr 1
   omega
  omega
 rw[this]
 exact yh d1 (y9 ..)
theorem T8{x m:Int}(hm:1<=m):(x.tmod m+m).tmod m=x%m/\0<=x.tmod m+m/\x.tmod m+m<2*m/\ -m<x.tmod m:=by
 have t:=Int.mul_tdiv_add_tmod x m
 have tb:(x.tmod m).natAbs<m.natAbs:=by rw[Int.natAbs_tmod];exact y4 _ (by omega)
 refine⟨?_,by omega,by omega,by omega⟩
 rw[jx,Int.add_emod_right]
 conv=>rhs;rw[<-t]
 rw[Int.mul_add_emod_self_left]
def EJ(X Y Z:Int->Int)(sa P M K:Int):Option aD:=
 bif wF (M<K)then O gQ else if¬P=(0:Int)then bif wF (K=i64.wrap (K+i64.wrap (i64.wrap ((i64.wrap (M-K)).tdiv P)*P)))then O (fT (X K))else O (aD.mk (Y K) (Z K) (i64.wrap (P*sa)))else wC
theorem DS{X Y Z:Int->Int}{sa P M K:Int}(h1:1<=sa)(h2:1<=P)(h3:0<=K)(h4:M<=4398046511104)(h5:M*sa<=4398046511104):∃c,EJ X Y Z sa P M K=O c/\dR c=wF (M<K):=by
 unfold EJ
 by_cases c:M<K
 ·rw[decide_eq_true c]
  exact⟨bU,rfl,gM⟩
 ·rw[decide_eq_false c,cond_false,fK]
  have q0:0<=(M-K)/P:=zL (by omega) (by omega)
  have q1:(M-K)/P<=M-K:=z7 _ (by omega)
  have q2:(M-K)/P*P<=M-K:=yW _ (by omega)
  have q3:0<=(M-K)/P*P:=zo q0 (by omega)
  rw[aF (n:=M-K),ja,aF (n:=(M-K)/P),aF (n:=(M-K)/P*P),aF (n:=K+(M-K)/P*P)]
  by_cases e:K=K+(M-K)/P*P
  ·rw[decide_eq_true e]
   refine⟨fT (X K),rfl,dx fun k=> ?_⟩
   have k1:X K=1:=congrArg aD.aa k
   have k2:X K=0:=congrArg aD.af k
   omega
  ·rw[decide_eq_false e]
   refine⟨_,rfl,dx fun k=> ?_⟩
   have k3:i64.wrap (P*sa)=0:=congrArg aD.ah k
   have q5:1<=(M-K)/P:=by
    rcases (show (M-K)/P=0\/1<=(M-K)/P by omega)with z|z
    ·rw[z,xz]at e;omega
    ·exact z
   have q6:1*P<=(M-K)/P*P:=zF q5 (by omega)
   have q7:P*sa<=M*sa:=zF (by omega) (by omega)
   have q8:1*1<=P*sa:=yN h2 h1 (by omega) (by omega)
   rw[aF]at k3
   omega
def Ql(X Y Z:Int->Int)(sa P M L k:Int):Option aD:=
 if¬sa=(0:Int)then if¬sa=(0:Int)then bif wF (k<L)then if¬P=(0:Int)then EJ X Y Z sa P M (i64.wrap (k+i64.wrap (i64.wrap ((i64.wrap (i64.wrap (i64.wrap (L-k)+P)-1)).tdiv P)*P)))else wC else EJ X Y Z sa P M k else wC else wC
theorem A9{X Y Z:Int->Int}{sa P M L k:Int}(h1:1<=sa)(h2:1<=P)(h3:0<=k)(hk:k<P)(hP:P<=4398046511104)(h4:M<=4398046511104)(h5:M*sa<=4398046511104)(hL:0<=L)(hL2:L<=4398046511104):
  ∃c,Ql X Y Z sa P M L k=O c/\(dR c=wD↔∃j,L<=j/\j<=M/\P∣j-k):=by
 unfold Ql
 rw[fK,fK]
 by_cases c:k<L
 ·have q0:0<=(L-k+P-1)/P:=zL (by omega) (by omega)
  have q2:(L-k+P-1)/P*P<=L-k+P-1:=yW _ (by omega)
  have q1:(L-k+P-1)/P<=L-k+P-1:=z7 _ (by omega)
  have q3:0<=(L-k+P-1)/P*P:=zo q0 (by omega)
  have q4:=wz (L-k+P-1) (show 0<P by omega)
  rw[zM,zN]at q4
  rw[decide_eq_true c,cond_true,fK,aF (n:=L-k),aF (n:=L-k+P),aF (n:=L-k+P-1),ja,aF (n:=(L-k+P-1)/P),aF (n:=(L-k+P-1)/P*P),aF (n:=k+(L-k+P-1)/P*P)]
  obtain⟨r,e,hr⟩:=DS (X:=X) (Y:=Y) (Z:=Z) (K:=k+(L-k+P-1)/P*P) h1 h2 (by omega) h4 h5
  refine⟨r,e,?_⟩
  rw[hr]
  constructor
  ·intro hd
   have:=of_decide_eq_false hd
   exact⟨k+(L-k+P-1)/P*P,by omega,by omega,by rw[show k+(L-k+P-1)/P*P-k=(L-k+P-1)/P*P by omega];exact y7 ..⟩
  ·rintro⟨j,j1,j2,t,j3⟩
   rw[zw]at j3
   refine decide_eq_false ?_
   have:(L-k+P-1)/P<=t:=by
    have:(L-k+P-1)/P<t+1:=x8 (a:=P) (by rw[zM,zN];omega) (by omega)
    omega
   have:=zF this (show 0<=P by omega)
   omega
 ·rw[decide_eq_false c,cond_false]
  obtain⟨r,e,hr⟩:=DS (X:=X) (Y:=Y) (Z:=Z) (K:=k) h1 h2 h3 h4 h5
  refine⟨r,e,?_⟩
  rw[hr]
  constructor
  ·intro hd
   have:=of_decide_eq_false hd
   exact⟨k,by omega,by omega,⟨0,by omega⟩⟩
  ·rintro⟨j,j1,j2,t,j3⟩
   rw[zw]at j3
   refine decide_eq_false ?_
   have:0<=t:=Decidable.byContradiction fun h=>by
    have:t*P<= -1*P:=zF (by omega) (by omega)
    omega
   have:=zo this (show 0<=P by omega)
   omega
theorem jS{a b:aD}(ha:NN a)(hb:NN b)(h1:1<=a.ah)(x:Int):(bz a x/\bz b x)↔∃j:Int,x=a.aa+j*a.ah/\max a.aa b.aa<=x/\x<=min a.af b.af/\b.ah∣j*a.ah-(b.aa-a.aa):=by
 constructor
 ·rintro⟨⟨x1,x2,j,x3⟩,⟨z1,z2,z3⟩⟩
  rw[zw]at x3
  exact⟨j,by omega,by omega,by omega,by rw[<-x3,show x-a.aa-(b.aa-a.aa)=x-b.aa by omega];exact z3⟩
 ·rintro⟨j,e,h2,h3,h4⟩
  refine⟨⟨by omega,by omega,⟨j,by rw[zw];omega⟩⟩,⟨by omega,by omega,?_⟩⟩
  rw[show x-b.aa=j*a.ah-(b.aa-a.aa)by omega]
  exact h4
theorem lH{lo s x low high j:Int}(hs:1<=s)(hl:lo<=low)(hx:x=lo+j*s):(low<=x/\x<=high)↔((low-lo+s-1)/s<=j/\j<=(high-lo)/s):=by
 have q2:(low-lo+s-1)/s*s<=low-lo+s-1:=yW _ (by omega)
 have q4:=wz (low-lo+s-1) (show 0<s by omega)
 rw[zM,zN]at q4
 constructor
 ·rintro⟨h1,h2⟩
  refine⟨?_,Int.le_ediv_of_mul_le (by omega) (by omega)⟩
  have:(low-lo+s-1)/s<j+1:=x8 (a:=s) (by rw[zM,zN];omega) (by omega)
  omega
 ·rintro⟨h1,h2⟩
  have k1:=zF h1 (show 0<=s by omega)
  have k2:j*s<=high-lo:=xA (zF h2 (by omega)) (yW _ (by omega))
  exact⟨by omega,by omega⟩
theorem acr{a b:aD}(ha:NN a)(hb:NN b)(h1:1<=a.ah)(h2:1<=b.ah):∃c,abm a b=O c/\(dR c=wD↔∃x,bz a x/\bz b x):=by
 have a1:=ha.lo
 have a2:=ha.hi
 have a3:=ha.le
 have a4:=ha.sle
 have b1:=hb.lo
 have b2:=hb.hi
 have b3:=hb.le
 have b4:=hb.sle
 have g0:=jT a.ah b.ah
 have gl:=jd a.ah b.ah
 have gr:=n9 a.ah b.ah
 have gpos:1<=bL a.ah b.ah:=by
  rcases (show bL a.ah b.ah=0\/1<=bL a.ah b.ah by omega)with z|z
  ·rw[z]at gl
   have:=xB.mp gl
   omega
  ·exact z
 have hcop:yp (a.ah/bL a.ah b.ah) (b.ah/bL a.ah b.ah)=1:=Int.gcd_ediv_gcd_ediv_gcd (show 0<yp a.ah b.ah by unfold bL at gpos;omega)
 unfold abm
 rw[BI (by omega) (by omega)]
 simp only
 generalize bL a.ah b.ah=g at*
 rw[show (if b.af<a.af then b.af else a.af)=min a.af b.af by split<;>omega,show (if a.aa<b.aa then b.aa else a.aa)=max a.aa b.aa by split<;>omega]
 by_cases c1:min a.af b.af<max a.aa b.aa
 ·rw[decide_eq_true c1]
  refine⟨bU,rfl,?_⟩
  rw[gM]
  exact⟨fun k=>(by cases k),fun⟨x,x1,x2⟩=>by have:=x1.1;have:=x1.2.1;have:=x2.1;have:=x2.2.1;omega⟩
 ·rw[decide_eq_false c1,cond_false,if_pos (show ¬@Eq Int g 0 by omega),aF (n:=b.aa-a.aa)]
  simp only
  by_cases c2:(b.aa-a.aa).tmod g=0
  ·rw[decide_eq_true c2]
   simp only[cond_true,cond_false]
   have eA:i64.wrap (a.ah.tdiv g)=a.ah/g:=by
    have:=z7 (a:=a.ah) g (by omega)
    have:=zL (a:=a.ah) (b:=g) (by omega) (by omega)
    rw[ja,aF]
   have eP:i64.wrap (b.ah.tdiv g)=b.ah/g:=by
    have:=z7 (a:=b.ah) g (by omega)
    have:=zL (a:=b.ah) (b:=g) (by omega) (by omega)
    rw[ja,aF]
   have mA:a.ah/g*g=a.ah:=xT gl
   have mP:b.ah/g*g=b.ah:=xT gr
   have hA0:0<=a.ah/g:=zL (by omega) (by omega)
   have hA1:a.ah/g<=a.ah:=z7 _ (by omega)
   have hP1:b.ah/g<=b.ah:=z7 _ (by omega)
   have hP0:1<=b.ah/g:=by
    have:0<=b.ah/g:=zL (by omega) (by omega)
    rcases (show b.ah/g=0\/1<=b.ah/g by omega)with z|z
    ·rw[z,xz]at mP;omega
    ·exact z
   rw[eA,eP]
   obtain⟨D,hD⟩:=Int.dvd_of_tmod_eq_zero c2
   have eD:(b.aa-a.aa).tdiv g=D:=by rw[hD];exact Int.mul_tdiv_cancel_left _ (by omega)
   have dnat:D.natAbs<=(b.aa-a.aa).natAbs:=by rw[<-eD,Int.natAbs_tdiv];exact Nat.div_le_self _ _
   rw[eD]
   generalize a.ah/g=A at*
   generalize b.ah/g=P at*
   have el:i64.wrap (i64.wrap (i64.wrap (max a.aa b.aa-a.aa)+a.ah)-1)=max a.aa b.aa-a.aa+a.ah-1:=by
    rw[aF (n:=max a.aa b.aa-a.aa),aF (n:=max a.aa b.aa-a.aa+a.ah),aF]
   have l0:0<=(max a.aa b.aa-a.aa+a.ah-1)/a.ah:=zL (by omega) (by omega)
   have l1:(max a.aa b.aa-a.aa+a.ah-1)/a.ah<=max a.aa b.aa-a.aa+a.ah-1:=z7 _ (by omega)
   have h0:0<=(min a.af b.af-a.aa)/a.ah:=zL (by omega) (by omega)
   have hh1:(min a.af b.af-a.aa)/a.ah<=min a.af b.af-a.aa:=z7 _ (by omega)
   have hh2:(min a.af b.af-a.aa)/a.ah*a.ah<=min a.af b.af-a.aa:=yW _ (by omega)
   rw[el,aF (n:=min a.af b.af-a.aa),ja (a:=max a.aa b.aa-a.aa+a.ah-1) (by omega),ja (a:=min a.af b.af-a.aa) (by omega),
    aF (n:=(max a.aa b.aa-a.aa+a.ah-1)/a.ah),aF (n:=(min a.af b.af-a.aa)/a.ah)]
   have cm:∀k,P∣k*A-D↔b.ah∣k*a.ah-(b.aa-a.aa):=fun k=>by
    have e:k*a.ah-(b.aa-a.aa)=(k*A-D)*g:=by rw[hD,<-mA,yf,zI,zw D g]
    rw[e,<-mP]
    exact⟨fun h=>Int.mul_dvd_mul_right _ h,fun h=>Int.dvd_of_mul_dvd_mul_right (by omega) h⟩
   have fin:∀k0,(∀k,P∣k*A-D↔P∣k-k0)->((∃j,(max a.aa b.aa-a.aa+a.ah-1)/a.ah<=j/\j<=(min a.af b.af-a.aa)/a.ah/\P∣j-k0)↔∃x,bz a x/\bz b x):=fun k0 hk=>by
    constructor
    ·rintro⟨j,j1,j2,j3⟩
     have r:=(lH (lo:=a.aa) (s:=a.ah) (low:=max a.aa b.aa) (high:=min a.af b.af) (j:=j) h1 (by omega) rfl).mpr ⟨j1,j2⟩
     exact⟨_,(jS ha hb h1 _).mpr ⟨j,rfl,r.1,r.2,(cm j).mp ((hk j).mpr j3)⟩⟩
    ·rintro⟨x,hx⟩
     obtain⟨j,e,x1,x2,x3⟩:=(jS ha hb h1 x).mp hx
     have r:=(lH (lo:=a.aa) (s:=a.ah) (low:=max a.aa b.aa) (high:=min a.af b.af) (j:=j) h1 (by omega) e).mp ⟨x1,x2⟩
     exact⟨j,r.1,r.2,(hk j).mp ((cm j).mpr x3)⟩
   rw[if_pos (show ¬@Eq Int g 0 by omega)]
   by_cases c3:1<P
   ·rw[decide_eq_true c3,cond_true,if_pos (show ¬@Eq Int g 0 by omega),fK,fK,if_pos (show ¬@Eq Int g 0 by omega),fK]
    have m0:=yM A (b:=P) (by omega)
    have m1:=yP A (b:=P) (by omega)
    have hg:yp (A%P) P=1:=by
     have:=ox (a:=A) (b:=P) hA0 (by omega)
     rw[jx hA0]at this
     rw[Int.gcd_comm,this,hcop]
    obtain⟨v,e1,v0,v1,v2⟩:=adL (x:=A%P) (m:=P) m0 (by omega) (by omega) hg
    rw[jx hA0,e1]
    simp only
    obtain⟨f1,f2,f3,f4⟩:=T8 (x:=D) (m:=P) (by omega)
    have d0:=yM D (b:=P) (by omega)
    have d1:=yP D (b:=P) (by omega)
    rw[aF (n:=D),aF (n:=D.tmod P+P),f1,ajn d0 d1 v0 v1 (by omega)]
    simp only
    have k0:=yM (D%P*v) (b:=P) (by omega)
    have k1:=yP (D%P*v) (b:=P) (by omega)
    have vA:P∣v*A-1:=by
     have e:=yL A P
     have t:v*A-1=v*(A%P)-1+P*(v*(A/P)):=by
      conv=>lhs;rw[<-e]
      rw[yQ,Int.mul_left_comm v P]
      omega
     rw[t]
     exact yO v2 (y9 ..)
    have hk:∀k,P∣k*A-D↔P∣k-D%P*v%P:=fun k=>by
     have e1:P∣D*v-D%P*v%P:=by
      have t1:=yL (D%P*v) P
      have t2:=yL D P
      have:D*v-D%P*v%P=P*(D/P*v)+P*(D%P*v/P):=by
       have:D*v=P*(D/P*v)+D%P*v:=by
        conv=>lhs;rw[<-t2]
        rw[zM,zI]
       omega
      rw[this]
      exact yO (y9 ..) (y9 ..)
     constructor
     ·intro h
      have t:=yh (zO h (y9 _ v)) (zO vA (y9 _ k))
      have t2:(k*A-D)*v-(v*A-1)*k=k-D*v:=by
       rw[yf,yf,zN,zI,zw (v*A) k,zw A v]
       omega
      rw[t2]at t
      have:=yO t e1
      rwa [show k-D*v+(D*v-D%P*v%P)=k-D%P*v%P by omega]at this
     ·intro h
      have t:=yh h e1
      rw[show k-D%P*v%P-(D*v-D%P*v%P)=k-D*v by omega]at t
      have t2:=yO (zO t (y9 _ A)) (zO vA (y9 _ D))
      have t3:(k-D*v)*A+(v*A-1)*D=k*A-D:=by
       rw[yf,yf,zN,zI,zw (v*A) D]
       omega
      rwa [t3]at t2
    obtain⟨c,e,hc⟩:=A9 (X:=fun K=>i64.wrap (a.aa+i64.wrap (K*a.ah))) (Y:=fun K=>i64.wrap (a.aa+i64.wrap (K*a.ah))) (Z:=fun K=>i64.wrap (a.aa+i64.wrap (i64.wrap (K+i64.wrap (i64.wrap ((i64.wrap ((min a.af b.af-a.aa)/a.ah-K)).tdiv P)*P))*a.ah)))
     h1 hP0 k0 k1 (by omega) (M:=(min a.af b.af-a.aa)/a.ah) (by omega) (by omega) l0 (by omega)
    exact⟨c,e,hc.trans (fin _ hk)⟩
   ·have p1:P=1:=by omega
    rw[decide_eq_false c3,cond_false]
    obtain⟨c,e,hc⟩:=A9 (X:=fun K=>i64.wrap (a.aa+i64.wrap (K*a.ah))) (Y:=fun K=>i64.wrap (a.aa+i64.wrap (K*a.ah))) (Z:=fun K=>i64.wrap (a.aa+i64.wrap (i64.wrap (K+i64.wrap (i64.wrap ((i64.wrap ((min a.af b.af-a.aa)/a.ah-K)).tdiv P)*P))*a.ah)))
     h1 hP0 (k:=0) (by omega) (by omega) (by omega) (M:=(min a.af b.af-a.aa)/a.ah) (by omega) (by omega) l0 (by omega)
    exact⟨c,e,hc.trans (fin 0 fun k=>by subst p1;exact⟨fun _=>Int.one_dvd _,fun _=>Int.one_dvd _⟩)⟩
  ·rw[decide_eq_false c2]
   refine⟨bU,rfl,?_⟩
   rw[gM]
   refine⟨fun k=>(by cases k),fun⟨x,hx⟩=> ?_⟩
   obtain⟨j,e,x1,x2,x3⟩:=(jS ha hb h1 x).mp hx
   exfalso
   apply c2
   have k1:=zO gr x3
   have k2:=yh (zO gl (y7 j _)) k1
   rw[show j*a.ah-(j*a.ah-(b.aa-a.aa))=b.aa-a.aa by omega]at k2
   exact Int.tmod_eq_zero_of_dvd k2
end Go.Proofs.YtnfljbehcffmcaaGreat
end
noncomputable section
namespace Go.Proofs.YtnfljbehcffmcaaGreat
open Go Go.Iv
theorem C0{a:aD}(h:NN a)(h0:a.ah=0)(x:Int):bz a x↔x=a.aa:=by
 constructor
 ·rintro⟨h1,h2,h3⟩
  rw[h0]at h3
  have:=xB.mp h3
  omega
 ·rintro rfl
  exact cy h
theorem Bv{M:aD->aD->Option aD}{a b:aD}(ha:NN a)(hb:NN b)(h0:a.ah=0):∃c,uh M a b=O c/\(dR c=wD↔∃x,bz a x/\bz b x):=by
 unfold uh
 rw[dx ha.ne,dx hb.ne]
 simp only[cond_false]
 rw[decide_eq_true h0,cond_true,ER (.inr hb)]
 simp only
 by_cases h:bz b a.aa
 ·rw[jt h]
  exact⟨a,rfl,fun _=>⟨_,cy ha,h⟩,fun _=>dx ha.ne⟩
 ·rw[iq h]
  refine⟨bU,rfl,fun k=> ?_,fun⟨x,h1,h2⟩=> ?_⟩
  ·rw[gM]at k;cases k
  ·rw[(C0 ha h0 x).mp h1]at h2
   exact absurd h2 h
theorem YR{a b:aD}(ha:NN a)(hb:NN b):∃c,acE a b=O c/\(dR c=wD↔∃x,bz a x/\bz b x):=by
 have cm:(∃x,bz b x/\bz a x)↔∃x,bz a x/\bz b x:=⟨fun⟨x,h1,h2⟩=>⟨x,h2,h1⟩,fun⟨x,h1,h2⟩=>⟨x,h2,h1⟩⟩
 have s0:=ha.s0
 have t0:=hb.s0
 by_cases h0:a.ah=0
 ·obtain⟨c,e,h⟩:=Bv (M:=fun _ _=>wC) ha hb h0
  refine⟨c,dy 1 fun n hn=> ?_,h⟩
  obtain⟨k,rfl⟩:∃k,n=k+1:=⟨n-1,by omega⟩
  obtain⟨c',e',h'⟩:=Bv (M:=wU k) ha hb h0
  have:uh (wU k) a b=uh (fun _ _=>wC) a b:=by
   unfold uh
   rw[dx ha.ne,dx hb.ne]
   simp only[cond_false]
   rw[decide_eq_true h0]
   simp only[cond_true]
  exact this.trans e
 ·by_cases k0:b.ah=0
  ·obtain⟨c,e,h⟩:=Bv (M:=fun _ _=>wC) hb ha k0
   refine⟨c,dy 2 fun n hn=> ?_,h.trans cm⟩
   obtain⟨k,rfl⟩:∃k,n=k+1+1:=⟨n-2,by omega⟩
   have:uh (wU k) b a=uh (fun _ _=>wC) b a:=by
    unfold uh
    rw[dx ha.ne,dx hb.ne]
    simp only[cond_false]
    rw[decide_eq_true k0]
    simp only[cond_true]
   have e1:wU (k+1) b a=O c:=this.trans e
   show uh (wU (k+1)) a b=O c
   unfold uh
   rw[dx ha.ne,dx hb.ne]
   simp only[cond_false]
   rw[decide_eq_false h0,cond_false,decide_eq_true k0,cond_true,e1]
  ·obtain⟨c,e,h⟩:=acr ha hb (by omega) (by omega)
   refine⟨c,dy 1 fun n hn=> ?_,h⟩
   obtain⟨k,rfl⟩:∃k,n=k+1:=⟨n-1,by omega⟩
   show uh (wU k) a b=O c
   unfold uh
   rw[dx ha.ne,dx hb.ne]
   simp only[cond_false]
   rw[decide_eq_false h0,cond_false,decide_eq_false k0,cond_false,e]
theorem Q3{a:aD}(h:NN a)(k:1<bC a):1<=a.ah:=by
 have:=dJ h
 have:=h.le
 rcases h.st with ⟨e,_⟩|⟨_,e,_⟩
 ·have:=(dJ h).mpr e;omega
 ·exact e
theorem early{a b:aD}(ha:NN a)(hb:NN b)(h1:1<=a.ah)(h2:1<=b.ah){low high:Int}(el:low=max a.aa b.aa)(eh:high=min a.af b.af):
  (∃x,bz a x/\bz b x)↔∃k:Nat,(k:Int)<b.ah/bL a.ah b.ah/\a.aa+((low-a.aa+a.ah-1)/a.ah)*a.ah+(k:Int)*a.ah<=high/\bz b (a.aa+((low-a.aa+a.ah-1)/a.ah)*a.ah+(k:Int)*a.ah):=by
 have gl:=jd a.ah b.ah
 have gr:=n9 a.ah b.ah
 have g0:=jT a.ah b.ah
 have mP:b.ah/bL a.ah b.ah*bL a.ah b.ah=b.ah:=xT gr
 have gpos:1<=bL a.ah b.ah:=by
  rcases (show bL a.ah b.ah=0\/1<=bL a.ah b.ah by omega)with z|z
  ·rw[z]at gl
   have:=xB.mp gl
   omega
  ·exact z
 have hP0:1<=b.ah/bL a.ah b.ah:=by
  have:0<=b.ah/bL a.ah b.ah:=zL (by omega) (by omega)
  rcases (show b.ah/bL a.ah b.ah=0\/1<=b.ah/bL a.ah b.ah by omega)with z|z
  ·rw[z,xz]at mP;omega
  ·exact z
 have per:b.ah∣b.ah/bL a.ah b.ah*a.ah:=by
  obtain⟨q,hq⟩:=gl
  generalize bL a.ah b.ah=g at*
  rw[hq,<-zI,mP]
  exact y9 ..
 generalize b.ah/bL a.ah b.ah=P at*
 subst el eh
 generalize hL:(max a.aa b.aa-a.aa+a.ah-1)/a.ah=L
 constructor
 ·rintro⟨x,hx⟩
  obtain⟨j,e,x1,x2,x3⟩:=(jS ha hb h1 x).mp hx
  have r:=(lH (lo:=a.aa) (s:=a.ah) (low:=max a.aa b.aa) (high:=min a.af b.af) (j:=j) h1 (by omega) e).mp ⟨x1,x2⟩
  rw[hL]at r
  have m0:=yM (j-L) (b:=P) (by omega)
  have m1:=yP (j-L) (b:=P) (by omega)
  have m2:=yL (j-L) P
  have q0:0<=(j-L)/P:=zL (by omega) (by omega)
  have ex:a.aa+L*a.ah+(j-L)%P*a.ah=x-(j-L)/P*(P*a.ah):=by
   have:j*a.ah=(P*((j-L)/P)+(j-L)%P+L)*a.ah:=by congr 1;omega
   rw[zM,zM,zw P,zI]at this
   omega
  have hp:0<=(j-L)/P*(P*a.ah):=zo q0 (zo (by omega) (by omega))
  have r2:=(lH (lo:=a.aa) (s:=a.ah) (low:=max a.aa b.aa) (high:=min a.af b.af) (x:=a.aa+(L+(j-L)%P)*a.ah) (j:=L+(j-L)%P) h1 (by omega) rfl).mpr
   ⟨by rw[hL];omega,by
    have:(j-L)%P<=j-L:=by
     have:=zo (show 0<=P by omega) q0
     omega
    omega⟩
  rw[zM,<-Int.add_assoc]at r2
  refine⟨((j-L)%P).toNat,by omega,?_⟩
  rw[Int.toNat_of_nonneg m0]
  refine⟨r2.2,by omega,by omega,?_⟩
  rw[ex,show x-(j-L)/P*(P*a.ah)-b.aa=x-b.aa-(j-L)/P*(P*a.ah)by omega]
  exact yh hx.2.2.2 (zO per (y7 ..))
 ·rintro⟨k,k1,k2,k3⟩
  have e:a.aa+L*a.ah+(k:Int)*a.ah=a.aa+(L+(k:Int))*a.ah:=by rw[zM];omega
  rw[e]at k2 k3
  have l0:=(lH (lo:=a.aa) (s:=a.ah) (low:=max a.aa b.aa) (high:=a.aa+(L+(k:Int))*a.ah) (x:=a.aa+(L+(k:Int))*a.ah) (j:=L+(k:Int)) h1 (by omega) rfl).mpr
   ⟨by rw[hL];omega,by rw[show a.aa+(L+(k:Int))*a.ah-a.aa=(L+(k:Int))*a.ah by omega,Int.mul_ediv_cancel _ (by omega)];exact zk _⟩
  exact⟨_,(jS ha hb h1 _).mpr ⟨_,rfl,l0.1,k2,by
   have:=k3.2.2
   rwa [show a.aa+(L+(k:Int))*a.ah-b.aa=(L+(k:Int))*a.ah-(b.aa-a.aa)by omega]at this⟩⟩
end Go.Proofs.YtnfljbehcffmcaaGreat
end
noncomputable section
namespace Go.Proofs.YtnfljbehcffmcaaGreat
open Go Go.Iv
open Go.IntKind (i64)
theorem M1{g P k n high sb:Int}(hg:1<=g)(hP:i64.wrap (sb.tdiv g)=P):(if¬g=(0:Int)then bif wF (k<i64.wrap (sb.tdiv g))then O (wF (n<=high))else O wD else wC)=O (wF (k<P/\n<=high)):=by
 rw[fK,hP]
 by_cases c:k<P
 ·rw[decide_eq_true c,cond_true]
  by_cases d:n<=high
  ·rw[decide_eq_true d,decide_eq_true ⟨c,d⟩]
  ·rw[decide_eq_false d,decide_eq_false (fun e=>d e.2)]
 ·rw[decide_eq_false c,cond_false,decide_eq_false (fun e=>c e.1)]
theorem acm{M:aD->aD->Option Bool}{a b:aD}(hb:NN b){g P high n0:Int}(hg:1<=g)(hP:i64.wrap (b.ah.tdiv g)=P)(hP1:P<=4398046511104)(hs:1<=a.ah)(hs2:a.ah<=4398046511104)(hh:high<=1099511627776)(hn: -1099511627776<=n0)(hP0:0<=P):
  (match mC M (gB.mk high g n0 0 a b)with
   |none=>wC
   |some r10=>match if¬r10.t7=(0:Int)then bif wF (r10.t9<i64.wrap (r10.b1.ah.tdiv r10.t7))then O (wF (r10.t8<=r10.t6))else O wD else wC with
    |none=>wC
    |some r11=>bif r11 then match m32 r10.b1 r10.t8 with
     |none=>wC
     |some r12=>bif r12 then O wE else wC
     else O wD)=O (open Classical in wF (∃k:Nat,(k:Int)<P/\n0+(k:Int)*a.ah<=high/\bz b (n0+(k:Int)*a.ah))):=by
 obtain⟨z,e1,⟨k,rfl,hk,hI⟩,hstop⟩:=kr (rnd:=vi M) (fun p=>∃k:Nat,p=gB.mk high g (n0+(k:Int)*a.ah) (k:Int) a b/\(k:Int)<=P/\∀i:Nat,i<k->¬bz b (n0+(i:Int)*a.ah))
  (fun p=>(P-p.t9).toNat) (fun p p' ⟨k,hp,hk,hI⟩ hq=>by
   subst hp
   have hq:vi M (gB.mk high g (n0+(k:Int)*a.ah) (k:Int) a b)=O (O p'):=hq
   unfold vi at hq
   simp only at hq
   rw[M1 hg hP]at hq
   by_cases c:(k:Int)<P/\n0+(k:Int)*a.ah<=high
   ·rw[decide_eq_true c]at hq
    simp only[cond_true]at hq
    rw[iQ (.inr hb)]at hq
    simp only at hq
    by_cases d:bz b (n0+(k:Int)*a.ah)
    ·rw[jt d]at hq;cases hq
    ·rw[iq d]at hq
     have k0:0<=(k:Int)*a.ah:=zo (by omega) (by omega)
     rw[cond_false,aF (n:=n0+(k:Int)*a.ah+a.ah),aF (n:=(k:Int)+1)]at hq
     simp only[zB.injEq]at hq
     subst hq
     refine⟨⟨k+1,?_,by omega,fun i hi=> ?_⟩,by show (P-((k:Int)+1)).toNat<(P-(k:Int)).toNat;omega⟩
     ·rw[show ((k+1:Nat):Int)=(k:Int)+1 by omega,zM,zN,Int.add_assoc]
     ·rcases yU.mp hi with q|rfl
      ·exact hI i q
      ·exact d
   ·rw[decide_eq_false c]at hq
    cases hq) (p:=gB.mk high g n0 0 a b) ⟨0,by simp,by simpa using hP0,fun i hi=>absurd hi (yw _)⟩
 rw[show mC M=bw (vi M)from rfl,e1]
 simp only
 rw[M1 hg hP]
 by_cases c:(k:Int)<P/\n0+(k:Int)*a.ah<=high
 ·rw[decide_eq_true c]
  simp only[cond_true]
  rw[iQ (.inr hb)]
  simp only
  by_cases d:bz b (n0+(k:Int)*a.ah)
  ·rw[jt d,cond_true]
   congr 1
   exact(@decide_eq_true _ (Classical.propDecidable _) ⟨k,c.1,c.2,d⟩).symm
  ·exfalso
   refine hstop (gB.mk high g (i64.wrap (n0+(k:Int)*a.ah+a.ah)) (i64.wrap ((k:Int)+1)) a b) ?_
   unfold vi
   simp only
   rw[M1 hg hP,decide_eq_true c]
   simp only[cond_true]
   rw[iQ (.inr hb),iq d]
   rfl
 ·rw[decide_eq_false c]
  simp only[cond_false]
  congr 1
  refine(@decide_eq_false _ (Classical.propDecidable _) ?_).symm
  rintro⟨i,i1,i2,i3⟩
  rcases Nat.lt_or_ge i k with q|q
  ·exact hI i q i3
  ·apply c
   have:(k:Int)*a.ah<=(i:Int)*a.ah:=zF (by omega) (by omega)
   exact⟨by omega,by omega⟩
def gE(a b:aD):Bool:=open Classical in wF (∃x,bz a x/\bz b x)
theorem gW{a b:aD}:gE a b=wE↔∃x,bz a x/\bz b x:=by unfold gE;exact @decide_eq_true_iff _ (Classical.propDecidable _)
theorem mY{a b:aD}(h:¬∃x,bz a x/\bz b x):gE a b=wD:=by
 cases e:gE a b with
 |false=>rfl
 |true=>exact absurd (gW.mp e) h
theorem Nz(a b:aD):gE a b=gE b a:=by
 by_cases h:∃x,bz a x/\bz b x
 ·obtain⟨x,h1,h2⟩:=h
  rw[gW.mpr ⟨x,h1,h2⟩,gW.mpr ⟨x,h2,h1⟩]
 ·rw[mY h,mY (fun⟨x,h1,h2⟩=>h ⟨x,h2,h1⟩)]
theorem AK{M:aD->aD->Option Bool}{a b:aD}(ha:NN a)(hb:NN b)(h1:1<=a.ah)(h2:1<=b.ah){low high:Int}(el:low=max a.aa b.aa)(eh:high=min a.af b.af):
  (match Af a.ah b.ah with
   |none=>wC
   |some r8=>match bif wF (high<low)then O wE else if¬r8=(0:Int)then O (bif wF (Int.tmod (ig a.aa b.aa) r8=0)then wD else wE)else wC with
    |none=>wC
    |some r9=>bif r9 then O wD else if¬a.ah=(0:Int)then
     match mC M (gB.mk high r8 (i64.wrap (a.aa+i64.wrap (i64.wrap ((i64.wrap (i64.wrap (i64.wrap (low-a.aa)+a.ah)-1)).tdiv a.ah)*a.ah))) 0 a b)with
     |none=>wC
     |some r10=>match if¬r10.t7=(0:Int)then bif wF (r10.t9<i64.wrap (r10.b1.ah.tdiv r10.t7))then O (wF (r10.t8<=r10.t6))else O wD else wC with
      |none=>wC
      |some r11=>bif r11 then match m32 r10.b1 r10.t8 with
       |none=>wC
       |some r12=>bif r12 then O wE else wC
       else O wD
     else wC)=O (gE a b):=by
 have a1:=ha.lo
 have a2:=ha.hi
 have a3:=ha.le
 have a4:=ha.sle
 have b1:=hb.lo
 have b2:=hb.hi
 have b3:=hb.le
 have b4:=hb.sle
 have gl:=jd a.ah b.ah
 have gr:=n9 a.ah b.ah
 have g0:=jT a.ah b.ah
 have gpos:1<=bL a.ah b.ah:=by
  rcases (show bL a.ah b.ah=0\/1<=bL a.ah b.ah by omega)with z|z
  ·rw[z]at gl
   have:=xB.mp gl
   omega
  ·exact z
 have hE:=early ha hb h1 h2 el eh
 rw[Aw (by omega) (by omega)]
 simp only
 by_cases c1:high<low
 ·rw[decide_eq_true c1,mY (fun⟨x,x1,x2⟩=>by have:=x1.1;have:=x1.2.1;have:=x2.1;have:=x2.2.1;omega)]
  rfl
 ·rw[decide_eq_false c1,cond_false,if_pos (show ¬@Eq Int (bL a.ah b.ah) 0 by omega)]
  simp only
  by_cases c2:Int.tmod (ig a.aa b.aa) (bL a.ah b.ah)=0
  ·rw[decide_eq_true c2]
   simp only[cond_true,cond_false]
   have l1:(low-a.aa+a.ah-1)/a.ah<=low-a.aa+a.ah-1:=z7 _ (by omega)
   have l0:0<=(low-a.aa+a.ah-1)/a.ah:=zL (by omega) (by omega)
   have l2:(low-a.aa+a.ah-1)/a.ah*a.ah<=low-a.aa+a.ah-1:=yW _ (by omega)
   have l3:0<=(low-a.aa+a.ah-1)/a.ah*a.ah:=zo l0 (by omega)
   have p0:0<=b.ah/bL a.ah b.ah:=zL (by omega) (by omega)
   have p1:b.ah/bL a.ah b.ah<=b.ah:=z7 _ (by omega)
   have eP:i64.wrap (b.ah.tdiv (bL a.ah b.ah))=b.ah/bL a.ah b.ah:=by
    rw[ja,aF]
   rw[fK,aF (n:=low-a.aa),aF (n:=low-a.aa+a.ah),aF (n:=low-a.aa+a.ah-1),ja,
    aF (n:=(low-a.aa+a.ah-1)/a.ah),aF (n:=(low-a.aa+a.ah-1)/a.ah*a.ah),aF (n:=a.aa+(low-a.aa+a.ah-1)/a.ah*a.ah)]
   refine(acm hb gpos eP (by omega) h1 (by omega) (by omega) (by omega) p0).trans ?_
   congr 1
   by_cases h:∃x,bz a x/\bz b x
   ·rw[gW.mpr h]
    exact @decide_eq_true _ (Classical.propDecidable _) (hE.mp h)
   ·rw[mY h]
    exact @decide_eq_false _ (Classical.propDecidable _) (fun k=>h (hE.mpr k))
  ·have hno:¬∃x,bz a x/\bz b x:=by
    rintro⟨x,x1,x2⟩
    apply c2
    have k1:=zO gl x1.2.2
    have k2:=zO gr x2.2.2
    have k3:=yh k2 k1
    rw[show x-b.aa-(x-a.aa)=a.aa-b.aa by omega]at k3
    apply Int.tmod_eq_zero_of_dvd
    obtain⟨r1,r2⟩:=ha.pT
    obtain⟨r3,r4⟩:=hb.pT
    unfold ig
    by_cases c:a.aa<b.aa
    ·rw[decide_eq_true c,cond_true,aF]
     have:=Int.dvd_neg.mpr k3
     rwa [show-(a.aa-b.aa)=b.aa-a.aa by omega]at this
    ·rw[decide_eq_false c,cond_false,aF]
     exact k3
   rw[decide_eq_false c2,mY hno]
   rfl
theorem Of{M:aD->aD->Option Bool}{a b:aD}(ha:NN a)(hb:NN b)(hs:bC a<=bC b):Se M a b=O (gE a b):=by
 unfold Se
 rw[de (.inr ha),de (.inr hb)]
 simp only
 rw[decide_eq_false (show ¬@LT.lt Int _ (bC b) (bC a)by omega),cond_false]
 have hp:=size_pos ha
 by_cases c:bC a=1
 ·rw[decide_eq_true c,cond_true,iQ (.inr hb)]
  simp only
  congr 1
  have e:=(dJ ha).mp c
  have s:a.ah=0:=by rcases ha.st with k|k;exact k.2;omega
  by_cases h:bz b a.aa
  ·rw[jt h,gW.mpr ⟨_,cy ha,h⟩]
  ·rw[iq h,mY (fun⟨x,x1,x2⟩=>h (by rw[<-(C0 ha s x).mp x1];exact x2))]
 ·rw[decide_eq_false c,cond_false]
  have h1:=Q3 ha (by omega)
  have h2:=Q3 hb (by omega)
  by_cases d:a.aa<b.aa<;>by_cases e:b.af<a.af
  ·rw[decide_eq_true d,decide_eq_true e]
   exact AK ha hb h1 h2 (by omega) (by omega)
  ·rw[decide_eq_true d,decide_eq_false e]
   exact AK ha hb h1 h2 (by omega) (by omega)
  ·rw[decide_eq_false d,decide_eq_true e]
   exact AK ha hb h1 h2 (by omega) (by omega)
  ·rw[decide_eq_false d,decide_eq_false e]
   exact AK ha hb h1 h2 (by omega) (by omega)
theorem aat{a b:aD}(ha:NN a)(hb:NN b):Wk a b=O (gE a b):=dy 2 fun n hn=>by
 obtain⟨k,rfl⟩:∃k,n=k+1+1:=⟨n-2,by omega⟩
 by_cases hs:bC a<=bC b
 ·exact Of (M:=EH (k+1)) ha hb hs
 ·have e1:EH (k+1) b a=O (gE b a):=Of (M:=EH k) hb ha (by omega)
  show Se (EH (k+1)) a b=_
  unfold Se
  rw[de (.inr ha),de (.inr hb)]
  simp only
  rw[decide_eq_true (show @LT.lt Int _ (bC b) (bC a)by omega),cond_true,e1,Nz]
end Go.Proofs.YtnfljbehcffmcaaGreat
end
noncomputable section
namespace Go.Proofs.YtnfljbehcffmcaaGreat
open Go Go.Iv
def jy(a b:aD):Bool:=wF (1<bC a)||wF (1<bC b)||wF (a.aa≠b.aa)
theorem qk{a:aD}(h:NN a)(k:¬1<bC a):a.aa=a.af:=(dJ h).mp (by have:=size_pos h;omega)
theorem Ew{a b:aD}(ha:NN a)(hb:NN b):jy a b=wE↔∃x z,bz a x/\bz b z/\x≠z:=by
 have a3:=ha.le
 have b3:=hb.le
 unfold jy
 by_cases c1:1<bC a
 ·rw[decide_eq_true c1]
  refine⟨fun _=> ?_,fun _=>rfl⟩
  have:a.aa≠a.af:=fun e=>by have:=(dJ ha).mpr e;omega
  by_cases e:a.aa=b.aa
  ·exact⟨_,_,fl ha,cy hb,by omega⟩
  ·exact⟨_,_,cy ha,cy hb,e⟩
 ·by_cases c2:1<bC b
  ·rw[decide_eq_false c1,decide_eq_true c2]
   refine⟨fun _=> ?_,fun _=>rfl⟩
   have:b.aa≠b.af:=fun e=>by have:=(dJ hb).mpr e;omega
   by_cases e:a.aa=b.aa
   ·exact⟨_,_,cy ha,fl hb,by omega⟩
   ·exact⟨_,_,cy ha,cy hb,e⟩
  ·have e1:=qk ha c1
   have e2:=qk hb c2
   by_cases e:a.aa=b.aa
   ·rw[decide_eq_false c1,decide_eq_false c2,decide_eq_false (fun k=>k e)]
    exact⟨fun k=>(by cases k),fun⟨x,z,hx,hz,k⟩=>by have:=hx.1;have:=hx.2.1;have:=hz.1;have:=hz.2.1;omega⟩
   ·rw[decide_eq_false c1,decide_eq_false c2,decide_eq_true e]
    exact⟨fun _=>⟨_,_,cy ha,cy hb,e⟩,fun _=>rfl⟩
def sZ(op:Int)(a b:aD):Bool×Bool:=
 if op=13 then(jy a b,gE a b)else if op=14 then(gE a b,jy a b)
 else if op=15 then(wF (b.aa<=a.af),wF (a.aa<b.af))else if op=16 then(wF (b.aa<a.af),wF (a.aa<=b.af))
 else if op=17 then(wF (a.aa<=b.af),wF (b.aa<a.af))else if op=18 then(wF (a.aa<b.af),wF (b.aa<=a.af))
 else if op=19 then(bQ a 0||bQ b 0,bM a&&bM b)else(bQ a 0&&bQ b 0,bM a||bM b)
def tu(op:Int):Prop:=13<=op/\op<=20
theorem oO(p:Bool):mq p=1↔p=true:=by cases p<;>decide
theorem oy(p:Bool):mq p=0↔p=false:=by cases p<;>decide
theorem gU{op:Int}(h:tu op):op=13\/op=14\/op=15\/op=16\/op=17\/op=18\/op=19\/op=20:=by
 obtain⟨h1,h2⟩:=h
 omega
theorem Cn{op:Int}(h:tu op)(x z:Int):eC op x z=0\/eC op x z=1:=by
 have k:∀p:Bool,mq p=0\/mq p=1:=fun p=>by cases p<;>decide
 rcases gU h with rfl|rfl|rfl|rfl|rfl|rfl|rfl|rfl<;>exact k _
theorem QA{op:Int}{a b:aD}(h:tu op)(ha:NN a)(hb:NN b):(sZ op a b).2=wE↔∃x z,bz a x/\bz b z/\eC op x z=1:=by
 rcases gU h with rfl|rfl|rfl|rfl|rfl|rfl|rfl|rfl
 ·show gE a b=wE↔∃x z,bz a x/\bz b z/\mq (wF (x=z))=1
  rw[gW]
  exact⟨fun⟨x,h1,h2⟩=>⟨x,x,h1,h2,by rw[oO];exact decide_eq_true rfl⟩,fun⟨x,z,h1,h2,h3⟩=>by
   rw[oO]at h3
   have:=of_decide_eq_true h3
   subst this
   exact⟨x,h1,h2⟩⟩
 ·show jy a b=wE↔∃x z,bz a x/\bz b z/\mq (!wF (x=z))=1
  rw[Ew ha hb]
  exact⟨fun⟨x,z,h1,h2,h3⟩=>⟨x,z,h1,h2,by rw[oO,decide_eq_false h3];rfl⟩,fun⟨x,z,h1,h2,h3⟩=>⟨x,z,h1,h2,fun e=>by rw[oO,decide_eq_true e]at h3;cases h3⟩⟩
 ·show wF (a.aa<b.af)=wE↔∃x z,bz a x/\bz b z/\mq (wF (x<z))=1
  refine⟨fun k=>⟨_,_,cy ha,fl hb,by rw[oO];exact k⟩,fun⟨x,z,h1,h2,h3⟩=> ?_⟩
  rw[oO]at h3
  have:=of_decide_eq_true h3
  exact decide_eq_true (by have:=h1.1;have:=h2.2.1;omega)
 ·show wF (a.aa<=b.af)=wE↔∃x z,bz a x/\bz b z/\mq (wF (x<=z))=1
  refine⟨fun k=>⟨_,_,cy ha,fl hb,by rw[oO];exact k⟩,fun⟨x,z,h1,h2,h3⟩=> ?_⟩
  rw[oO]at h3
  have:=of_decide_eq_true h3
  exact decide_eq_true (by have:=h1.1;have:=h2.2.1;omega)
 ·show wF (b.aa<a.af)=wE↔∃x z,bz a x/\bz b z/\mq (wF (z<x))=1
  refine⟨fun k=>⟨_,_,fl ha,cy hb,by rw[oO];exact k⟩,fun⟨x,z,h1,h2,h3⟩=> ?_⟩
  rw[oO]at h3
  have:=of_decide_eq_true h3
  exact decide_eq_true (by have:=h1.2.1;have:=h2.1;omega)
 ·show wF (b.aa<=a.af)=wE↔∃x z,bz a x/\bz b z/\mq (wF (z<=x))=1
  refine⟨fun k=>⟨_,_,fl ha,cy hb,by rw[oO];exact k⟩,fun⟨x,z,h1,h2,h3⟩=> ?_⟩
  rw[oO]at h3
  have:=of_decide_eq_true h3
  exact decide_eq_true (by have:=h1.2.1;have:=h2.1;omega)
 ·show (bM a&&bM b)=wE↔∃x z,bz a x/\bz b z/\mq (wF (x≠0/\z≠0))=1
  rw[ze,iS (.inr ha),iS (.inr hb)]
  constructor
  ·rintro⟨⟨x,h1,h2⟩,⟨z,h3,h4⟩⟩
   exact⟨x,z,h1,h3,by rw[oO];exact decide_eq_true ⟨h2,h4⟩⟩
  ·rintro⟨x,z,h1,h2,h3⟩
   rw[oO]at h3
   have:=of_decide_eq_true h3
   exact⟨⟨x,h1,this.1⟩,⟨z,h2,this.2⟩⟩
 ·show (bM a||bM b)=wE↔∃x z,bz a x/\bz b z/\mq (wF (x≠0\/z≠0))=1
  rw[yH,iS (.inr ha),iS (.inr hb)]
  constructor
  ·rintro(⟨x,h1,h2⟩|⟨z,h3,h4⟩)
   ·exact⟨x,_,h1,cy hb,by rw[oO];exact decide_eq_true (.inl h2)⟩
   ·exact⟨_,z,cy ha,h3,by rw[oO];exact decide_eq_true (.inr h4)⟩
  ·rintro⟨x,z,h1,h2,h3⟩
   rw[oO]at h3
   rcases of_decide_eq_true h3 with k|k
   ·exact .inl ⟨x,h1,k⟩
   ·exact .inr ⟨z,h2,k⟩
theorem TN{op:Int}{a b:aD}(h:tu op)(ha:NN a)(hb:NN b):(sZ op a b).1=wE↔∃x z,bz a x/\bz b z/\eC op x z=0:=by
 rcases gU h with rfl|rfl|rfl|rfl|rfl|rfl|rfl|rfl
 ·show jy a b=wE↔∃x z,bz a x/\bz b z/\mq (wF (x=z))=0
  rw[Ew ha hb]
  exact⟨fun⟨x,z,h1,h2,h3⟩=>⟨x,z,h1,h2,by rw[oy];exact decide_eq_false h3⟩,fun⟨x,z,h1,h2,h3⟩=>⟨x,z,h1,h2,fun e=>by rw[oy,decide_eq_true e]at h3;cases h3⟩⟩
 ·show gE a b=wE↔∃x z,bz a x/\bz b z/\mq (!wF (x=z))=0
  rw[gW]
  exact⟨fun⟨x,h1,h2⟩=>⟨x,x,h1,h2,by rw[oy,decide_eq_true rfl];rfl⟩,fun⟨x,z,h1,h2,h3⟩=>by
   rw[oy]at h3
   by_cases e:x=z
   ·subst e;exact⟨x,h1,h2⟩
   ·rw[decide_eq_false e]at h3;cases h3⟩
 ·show wF (b.aa<=a.af)=wE↔∃x z,bz a x/\bz b z/\mq (wF (x<z))=0
  refine⟨fun k=>⟨_,_,fl ha,cy hb,by rw[oy];exact decide_eq_false (by have:=of_decide_eq_true k;omega)⟩,fun⟨x,z,h1,h2,h3⟩=> ?_⟩
  rw[oy]at h3
  have:=of_decide_eq_false h3
  exact decide_eq_true (by have:=h1.2.1;have:=h2.1;omega)
 ·show wF (b.aa<a.af)=wE↔∃x z,bz a x/\bz b z/\mq (wF (x<=z))=0
  refine⟨fun k=>⟨_,_,fl ha,cy hb,by rw[oy];exact decide_eq_false (by have:=of_decide_eq_true k;omega)⟩,fun⟨x,z,h1,h2,h3⟩=> ?_⟩
  rw[oy]at h3
  have:=of_decide_eq_false h3
  exact decide_eq_true (by have:=h1.2.1;have:=h2.1;omega)
 ·show wF (a.aa<=b.af)=wE↔∃x z,bz a x/\bz b z/\mq (wF (z<x))=0
  refine⟨fun k=>⟨_,_,cy ha,fl hb,by rw[oy];exact decide_eq_false (by have:=of_decide_eq_true k;omega)⟩,fun⟨x,z,h1,h2,h3⟩=> ?_⟩
  rw[oy]at h3
  have:=of_decide_eq_false h3
  exact decide_eq_true (by have:=h1.1;have:=h2.2.1;omega)
 ·show wF (a.aa<b.af)=wE↔∃x z,bz a x/\bz b z/\mq (wF (z<=x))=0
  refine⟨fun k=>⟨_,_,cy ha,fl hb,by rw[oy];exact decide_eq_false (by have:=of_decide_eq_true k;omega)⟩,fun⟨x,z,h1,h2,h3⟩=> ?_⟩
  rw[oy]at h3
  have:=of_decide_eq_false h3
  exact decide_eq_true (by have:=h1.1;have:=h2.2.1;omega)
 ·show (bQ a 0||bQ b 0)=wE↔∃x z,bz a x/\bz b z/\mq (wF (x≠0/\z≠0))=0
  rw[yH,fO,fO]
  constructor
  ·rintro(h1|h1)
   ·exact⟨0,_,h1,cy hb,by rw[oy];exact decide_eq_false (fun k=>k.1 rfl)⟩
   ·exact⟨_,0,cy ha,h1,by rw[oy];exact decide_eq_false (fun k=>k.2 rfl)⟩
  ·rintro⟨x,z,h1,h2,h3⟩
   rw[oy]at h3
   have:=of_decide_eq_false h3
   by_cases e:x=0
   ·subst e;exact .inl h1
   ·by_cases e2:z=0
    ·subst e2;exact .inr h2
    ·exact absurd ⟨e,e2⟩ this
 ·show (bQ a 0&&bQ b 0)=wE↔∃x z,bz a x/\bz b z/\mq (wF (x≠0\/z≠0))=0
  rw[ze,fO,fO]
  constructor
  ·rintro⟨h1,h2⟩
   exact⟨0,0,h1,h2,by rw[oy];exact decide_eq_false (fun k=>k.elim (fun e=>e rfl) (fun e=>e rfl))⟩
  ·rintro⟨x,z,h1,h2,h3⟩
   rw[oy]at h3
   have:=of_decide_eq_false h3
   by_cases e:x=0
   ·by_cases e2:z=0
    ·subst e e2;exact⟨h1,h2⟩
    ·exact absurd (.inr e2) this
   ·exact absurd (.inl e) this
theorem Ln{op:Int}{a b:aD}(h:tu op)(ha:NN a)(hb:NN b):((sZ op a b).1||(sZ op a b).2)=wE:=by
 rw[yH]
 rcases Cn h a.aa b.aa with e|e
 ·exact .inl ((TN h ha hb).mpr ⟨_,_,cy ha,cy hb,e⟩)
 ·exact .inr ((QA h ha hb).mpr ⟨_,_,cy ha,cy hb,e⟩)
theorem LW{P:Int->Prop}{no yes:Bool}(h:∀y,P y->y=0\/y=1)(h0:no=wE↔P 0)(h1:yes=wE↔P 1)(ho:(no||yes)=wE):ct P (gR no yes):=by
 cases no with
 |true=>
  have p0:=h0.mp rfl
  cases yes with
  |true=>
   have p1:=h1.mp rfl
   refine⟨p0,p1,fun y hy=> ?_,by decide,fun d hd=> ?_⟩
   ·rcases h y hy with rfl|rfl
    ·exact⟨by decide,by decide,⟨0,rfl⟩⟩
    ·exact⟨by decide,by decide,⟨1,rfl⟩⟩
   ·exact hd 1 p1
  |false=>
   refine⟨p0,p0,fun y hy=> ?_,by decide,fun d _=>yV d⟩
   rcases h y hy with rfl|rfl
   ·exact⟨by decide,by decide,⟨0,rfl⟩⟩
   ·exact absurd (h1.mpr hy) (by decide)
 |false=>
  cases yes with
  |true=>
   have p1:=h1.mp rfl
   refine⟨p1,p1,fun y hy=> ?_,by decide,fun d _=>yV d⟩
   rcases h y hy with rfl|rfl
   ·exact absurd (h0.mpr hy) (by decide)
   ·exact⟨by decide,by decide,⟨0,rfl⟩⟩
  |false=>cases ho
theorem Ue{op:Int}{a b:aD}(h:tu op)(ha:NN a)(hb:NN b):ct (qM op a b) (gR (sZ op a b).1 (sZ op a b).2):=
 LW (fun y ⟨x,z,_,_,e⟩=>by rw[e];exact Cn h x z)
  ((TN h ha hb).trans ⟨fun⟨x,z,h1,h2,e⟩=>⟨x,z,h1,h2,e.symm⟩,fun⟨x,z,h1,h2,e⟩=>⟨x,z,h1,h2,e.symm⟩⟩)
  ((QA h ha hb).trans ⟨fun⟨x,z,h1,h2,e⟩=>⟨x,z,h1,h2,e.symm⟩,fun⟨x,z,h1,h2,e⟩=>⟨x,z,h1,h2,e.symm⟩⟩) (Ln h ha hb)
theorem atg{x y:Int}:(bif wF (x=y)then wD else wE)=wF (x≠y):=by
 by_cases h:x=y
 ·rw[decide_eq_true h,decide_eq_false (fun k=>k h)];rfl
 ·rw[decide_eq_false h,decide_eq_true h];rfl
theorem aa1{op:Int}{a b:aD}(h:tu op)(ha:NN a)(hb:NN b):VB op a b=O (gR (sZ op a b).1 (sZ op a b).2):=by
 obtain⟨c,e,hc⟩:=YR ha hb
 have em:dR c= !gE a b:=by
  cases k:dR c with
  |true=>rw[mY (fun x=>by have:=hc.mpr x;rw[k]at this;cases this)];rfl
  |false=>rw[gW.mpr (hc.mp k)];rfl
 have ed:(bif wF (1<bC a)then O wE else bif wF (1<bC b)then O wE else O (wF (a.aa≠b.aa)))=O (jy a b):=by
  unfold jy
  cases wF (1<bC a)<;>cases wF (1<bC b)<;>rfl
 unfold VB
 rw[e]
 simp only
 rw[jG (.inr ha),jG (.inr hb)]
 simp only
 rw[atg,ed,AA (.inr ha),AA (.inr hb)]
 simp only
 rw[em]
 simp only[Qe]
 rcases gU h with rfl|rfl|rfl|rfl|rfl|rfl|rfl|rfl
 all_goals simp only[Int.reduceEq,decide_false,decide_true,cond_false,cond_true]
 ·show _=O (gR (jy a b) (gE a b))
  cases gE a b<;>rfl
 ·show _=O (gR (gE a b) (jy a b))
  cases gE a b<;>rfl
 ·rfl
 ·rfl
 ·rfl
 ·rfl
 ·show _=O (gR (bQ a 0||bQ b 0) (bM a&&bM b))
  cases bQ a 0<;>cases bM a<;>cases bQ b 0<;>cases bM b<;>rfl
 ·show _=O (gR (bQ a 0&&bQ b 0) (bM a||bM b))
  cases bQ a 0<;>cases bM a<;>cases bQ b 0<;>cases bM b<;>rfl
theorem diff_eq{a:aD}(h:NN a):jy a a=wF (1<bC a):=by
 unfold jy
 rw[decide_eq_false (show ¬a.aa≠a.aa from fun k=>k rfl)]
 cases wF (1<bC a)<;>rfl
theorem OF{a b:aD}(ha:NN a)(hb:NN b)(h:a≠b):jy a b=wE:=by
 unfold jy
 by_cases c1:1<bC a
 ·rw[decide_eq_true c1];rfl
 ·by_cases c2:1<bC b
  ·rw[decide_eq_false c1,decide_eq_true c2];rfl
  ·by_cases c3:a.aa=b.aa
   ·exfalso
    have e1:=qk ha c1
    have e2:=qk hb c2
    exact h (AZ c3 (by omega) (by rcases ha.st with k|k<;>rcases hb.st with l|l<;>omega))
   ·rw[decide_eq_true c3,Bool.or_true]
theorem Qx{op:Int}{a b:aD}(h:tu op)(ha:NN a)(hb:NN b):vK op a b=O (gR (sZ op a b).1 (sZ op a b).2):=by
 have ho:=Ln h ha hb
 rw[<-NY ho]
 unfold vK
 rw[aat ha hb,ni (.inr ha),ni (.inr hb)]
 simp only
 rw[de (.inr ha)]
 simp only
 rcases gU h with rfl|rfl|rfl|rfl|rfl|rfl|rfl|rfl
 all_goals simp only[Int.reduceEq,decide_false,decide_true,cond_false,cond_true]
 ·show _=O (iu (jy a b) (gE a b))
  by_cases e:a=b
  ·subst e;rw[Ep,diff_eq ha];rfl
  ·rw[D6 e,OF ha hb e];rfl
 ·show _=O (iu (gE a b) (jy a b))
  by_cases e:a=b
  ·subst e;rw[Ep,diff_eq ha];rfl
  ·rw[D6 e,OF ha hb e];rfl
 ·rfl
 ·rfl
 ·rfl
 ·rfl
 ·show _=O (iu (bQ a 0||bQ b 0) (bM a&&bM b))
  cases bQ a 0<;>cases bM a<;>cases bQ b 0<;>cases bM b<;>rfl
 ·show _=O (iu (bQ a 0&&bQ b 0) (bM a||bM b))
  cases bQ a 0<;>cases bM a<;>cases bQ b 0<;>cases bM b<;>rfl
theorem VM{op:Int}{a b:aD}(h:tu op)(ha:NN a)(hb:NN b):LQ op a b:=by
 have hbin:binop op:=by
  obtain⟨h1,h2⟩:=h
  exact⟨by omega,by omega⟩
 refine⟨(gR (sZ op a b).1 (sZ op a b).2,0),lR hbin ha hb ?_,?_,th _ _⟩
 ·rw[aa1 h ha hb]
  rcases gU h with rfl|rfl|rfl|rfl|rfl|rfl|rfl|rfl<;>rfl
 ·by_cases hs:cnt a*cnt b<=4096
  ·rw[kA hbin ha hb hs]
   rcases tg hbin ha hb (by omega)with ⟨_,c,e,k⟩|⟨k,_⟩
   ·rw[e,k.uniq (Ue h ha hb)]
   ·exact absurd (fun y ⟨x,z,_,_,e⟩=>by rw[e];rcases Cn h x z with q|q<;>rw[q]<;>exact⟨by decide,by decide⟩) k
  ·rw[uy hbin ha hb hs]
   unfold R5
   rw[Qx h ha hb]
   rcases gU h with rfl|rfl|rfl|rfl|rfl|rfl|rfl|rfl<;>rfl
theorem Xm{op:Int}{a b:aD}(h:JS op)(ha:NN a)(hb:NN b):LQ op a b:=by
 obtain⟨c,e1,e2,hv⟩:=VD h ha hb
 have hbin:binop op:=by unfold binop;rcases h with rfl|rfl|rfl|rfl<;>decide
 refine⟨(c,0),lR hbin ha hb ?_,e2,hv⟩
 rw[e1]
 rcases h with rfl|rfl|rfl|rfl<;>rfl
theorem Ju(op:Int){a b:aD}(ha:NV a)(hb:NV b):LQ op a b:=by
 by_cases ho:binop op
 ·rcases ha with rfl|ha
  ·refine⟨(bU,0),?_,?_, .inl rfl⟩
   ·unfold tN
    rw[dD,dD,cU (.inl rfl),cU hb,iy,decide_eq_true ho,gM]
    rfl
   ·unfold lB
    rw[dU,dU,cU (.inl rfl),cU hb,show Dk op=uK op from rfl,iy,decide_eq_true ho,kT]
    rfl
  ·rcases hb with rfl|hb
   ·refine⟨(bU,0),?_,?_, .inl rfl⟩
    ·unfold tN
     rw[dD,dD,cU (.inl rfl),cU (.inr ha),iy,decide_eq_true ho,gM,dx ha.ne]
     rfl
    ·unfold lB
     rw[dU,dU,cU (.inl rfl),cU (.inr ha),show Dk op=uK op from rfl,iy,decide_eq_true ho,kT,fS ha]
     rfl
   ·obtain⟨o1,o2⟩:=ho
    rcases (show op=8\/op=9\/op=10\/(op=11\/op=12\/op=21\/op=22)\/(13<=op/\op<=20)by omega)with rfl|rfl|rfl|h|h
    ·exact Wy ha hb
    ·exact UF ha hb
    ·exact W2 ha hb
    ·exact Xm h ha hb
    ·exact VM h ha hb
 ·refine⟨(aD.mk 0 0 0,1),?_,?_,MI⟩
  ·unfold tN
   rw[dD,dD,cU ha,cU hb,iy,decide_eq_false ho]
   rfl
  ·unfold lB
   rw[dU,dU,cU ha,cU hb,show Dk op=uK op from rfl,iy,decide_eq_false ho]
   rfl
end Go.Proofs.YtnfljbehcffmcaaGreat
end
noncomputable section
set_option maxRecDepth 100000
namespace Go.Proofs.YtnfljbehcffmcaaGreat
open Go Go.Iv
open Go.IntKind (i64)
abbrev nI:Type:=Int
def d117:Td 0 nI:= .c [] [4] (.r 0 0 (ec 4 (qi .i64) en) sn (fun z=>z.1.1) (fun x=>((x,()),(()))) fun _=>rfl)
def ajE:=(lc (qg 137) (lc (qi .i64) ln))
def ajU(M:aq->Int->Option nI):aI->aI:=eL wG 117 wD ajE d117 (fun g=>M g.1 g.2.1)
def ac7(M:aq->Int->Option nI):Prop:=HL wG 117 ajE d117 (fun g=>M g.1 g.2.1)
theorem On{M:aq->Int->Option nI}(hM:ac7 M){F:aI}(h:bf wG F):bf wG (ajU M F):=gx (sc:=Ay) dS hM ⟨_,func117,by kernel_rfl,by kernel_rfl⟩ (fun _=>by kernel_rfl) (fun _=>by kernel_rfl) h
def aaY(M117:aq->Int->Option nI):aI:=(ajU M117 cQ)
theorem aeg{M117}(h117:ac7 M117):bf wG (aaY M117):=(On h117 aK)
structure rK where
 (t1 t5:Int)
 b0:aq
def NI:Td 0 rK:= .c [] [1,2,5] (.r 0 1 (ec 1 (qi .i64) (ec 2 (qp 0 0) (ec 5 (qi .i64) en))) (sb 0 137 (lg 137) sn) (fun z=>⟨z.1.1,z.1.2.2.1,z.2.1⟩) (fun x=>((x.t1,(),x.t5,()),(x.b0,()))) fun _=>rfl)
def Fy(M117:aq->Int->Option nI)(p:rK):Option (Option rK):=
 match bif wF (p.t5<(↑p.b0.ak.length:Int))then O (wF (0<=p.t1))else O (wD)with|wC=>wC|O r1=>bif r1 then if(0:Int)<=p.t5/\p.t5<(↑p.b0.ak.length:Int)then match M117 (aq.mk p.b0.ak[p.t5.toNat]!.aW p.b0.ak[p.t5.toNat]!.fN p.b0.ak[p.t5.toNat]!.ak) p.t1 with|wC=>wC|O r2=>O (O (rK.mk r2 (i64.wrap (p.t5+1)) (aq.mk p.b0.aW p.b0.fN p.b0.ak)))else wC else O (wC)
def U6(M117:aq->Int->Option nI):An:=(.two (.two (.rb [] 16) .no) .no)
def FO(M117:aq->Int->Option nI):rK->Option rK:=bw (Fy M117)
def afO(M117:aq->Int->Option nI):An:=(.two .no (.two .no (.two (.two .no (NI.lp (FO M117) (U6 M117))) .no)))
theorem alZ{M117}:∀f∈([]:List Nat),aV (aaY M117) f:=aC
theorem amA(M117:aq->Int->Option nI):eW wG (aaY M117) 0 300 117 (afO M117):=bV (l:=[(aU f117 0,(NI.lp (FO M117) (U6 M117))),(.skip,(.rb [] 16))]) func117 (bB (by kernel_rfl)) (by kernel_rfl) (az (aO NI) (az alZ aC))
def adW(M117:aq->Int->Option nI)(a0:aq)(a1:Int):Option nI:=
 match FO M117 (rK.mk (i64.wrap (a1-1)) (0) (aq.mk a0.aW a0.fN a0.ak))with|wC=>wC|O r3=>match bif wF (r3.t5<(↑r3.b0.ak.length:Int))then O (wF (0<=r3.t1))else O (wD)with|wC=>wC|O r4=>bif r4 then if(0:Int)<=r3.t5/\r3.t5<(↑r3.b0.ak.length:Int)then match M117 (aq.mk r3.b0.ak[r3.t5.toNat]!.aW r3.b0.ak[r3.t5.toNat]!.fN r3.b0.ak[r3.t5.toNat]!.ak) r3.t1 with|wC=>wC|O r5=>wC else wC else O (r3.t1)
theorem atw(M117:aq->Int->Option nI)(a0:aq)(a1:Int):bN wG (aaY M117) 300 (afO M117) 117 (ajE.c (a0,a1,())) [] 0 d117.rd=adW M117 a0 a1:=by kernel_rfl
def aeO:Nat->(aq->Int->Option nI)
 |0=>(fun _ _=>wC)
 |n+1=>(adW (aeO n))
def LA(n:Nat):aq->Int->Option nI:=(aeO n)
theorem JZ:∀n,ac7 (LA n)
 |0=>fun _ _ h=>(by cases h)
 |n+1=>by
  have ih:=JZ n
  have i117:=ih
  exact(dH (aeg i117) (amA (LA n)) (fun _=>by kernel_rfl) (fun _=>by kernel_rfl) fun g=>atw (LA n) g.1 g.2.1)
def M6:aq->Int->Option nI:=fun a0 a1=>lim (fun n=>LA n a0 a1)
theorem acj:ac7 M6:=fun g b h=>by
 obtain⟨n,hn⟩:=cD (show lim (fun n=>LA n g.1 g.2.1)=O b from h)
 exact(JZ n) g b hn
def ahG(F:aI):aI:=ajU M6 F
theorem OA{F:aI}(h:bf wG F):bf wG (ahG F):=On acj h
abbrev o6:Type:=Int
def d116:Td 0 o6:= .c [] [4] (.r 0 0 (ec 4 (qi .i64) en) sn (fun z=>z.1.1) (fun x=>((x,()),(()))) fun _=>rfl)
def ajR:=(lc (ql 166) (lc (qi .i64) ln))
def aha(M:(List GStep)->Int->Option o6):aI->aI:=eL wG 116 wD ajR d116 (fun g=>M g.1 g.2.1)
def aaN(M:(List GStep)->Int->Option o6):Prop:=HL wG 116 ajR d116 (fun g=>M g.1 g.2.1)
theorem QL{M:(List GStep)->Int->Option o6}(hM:aaN M){F:aI}(h:bf wG F):bf wG (aha M F):=gx (sc:=Ay) dS hM ⟨_,func116,by kernel_rfl,by kernel_rfl⟩ (fun _=>by kernel_rfl) (fun _=>by kernel_rfl) h
def abD(M116:(List GStep)->Int->Option o6):aI:=(ahG (aha M116 cQ))
theorem aeD{M116}(h116:aaN M116):bf wG (abD M116):=(OA (QL h116 aK))
structure sw where
 t0:List GStep
 (t1 t5:Int)
def MP:Td 0 sw:= .c [] [0,1,5] (.r 0 0 (ec 0 (ql 166) (ec 1 (qi .i64) (ec 5 (qi .i64) en))) sn (fun z=>⟨z.1.1,z.1.2.1,z.1.2.2.1⟩) (fun x=>((x.t0,x.t1,x.t5,()),(()))) fun _=>rfl)
def De(M116:(List GStep)->Int->Option o6)(p:sw):Option (Option sw):=
 match bif wF (p.t5<(↑p.t0.length:Int))then O (wF (0<=p.t1))else O (wD)with|wC=>wC|O r1=>bif r1 then if(0:Int)<=p.t5/\p.t5<(↑p.t0.length:Int)then match M6 (aq.mk p.t0[p.t5.toNat]!.ay.aW p.t0[p.t5.toNat]!.ay.fN p.t0[p.t5.toNat]!.ay.ak) (i64.wrap (p.t1-1))with|wC=>wC|O r2=>if(0:Int)<=p.t5/\p.t5<(↑p.t0.length:Int)then bif wF (r2<(↑p.t0[p.t5.toNat]!.aH.length:Int))then O (wC)else if(0:Int)<=p.t5/\p.t5<(↑p.t0.length:Int)then if(0:Int)<=p.t5/\p.t5<(↑p.t0.length:Int)then if(0:Int)<=p.t5/\p.t5<(↑p.t0.length:Int)then match M116 p.t0[p.t5.toNat]!.aG (i64.wrap (r2-(↑p.t0[p.t5.toNat]!.aH.length:Int)))with|wC=>wC|O r3=>match M116 p.t0[p.t5.toNat]!.aJ r3 with|wC=>wC|O r4=>O (O (sw.mk p.t0 r4 (i64.wrap (p.t5+1))))else wC else wC else wC else wC else wC else O (wC)
def Wf(M116:(List GStep)->Int->Option o6):An:=(.two (.two (.rb [] 13) .no) .no)
def FW(M116:(List GStep)->Int->Option o6):sw->Option sw:=bw (De M116)
def aeP(M116:(List GStep)->Int->Option o6):An:=(.two .no (.two (.two .no (MP.lp (FW M116) (Wf M116))) .no))
theorem ap2{M116}:∀f∈([]:List Nat),aV (abD M116) f:=aC
theorem aqX(M116:(List GStep)->Int->Option o6):eW wG (abD M116) 0 300 116 (aeP M116):=bV (l:=[(aU f116 0,(MP.lp (FW M116) (Wf M116))),(.skip,(.rb [] 13))]) func116 (bB (by kernel_rfl)) (by kernel_rfl) (az (aO MP) (az ap2 aC))
def aaV(M116:(List GStep)->Int->Option o6)(a0:List GStep)(a1:Int):Option o6:=
 match FW M116 (sw.mk a0 a1 (0))with|wC=>wC|O r5=>match bif wF (r5.t5<(↑r5.t0.length:Int))then O (wF (0<=r5.t1))else O (wD)with|wC=>wC|O r6=>bif r6 then if(0:Int)<=r5.t5/\r5.t5<(↑r5.t0.length:Int)then match M6 (aq.mk r5.t0[r5.t5.toNat]!.ay.aW r5.t0[r5.t5.toNat]!.ay.fN r5.t0[r5.t5.toNat]!.ay.ak) (i64.wrap (r5.t1-1))with|wC=>wC|O r7=>if(0:Int)<=r5.t5/\r5.t5<(↑r5.t0.length:Int)then bif wF (r7<(↑r5.t0[r5.t5.toNat]!.aH.length:Int))then O (-1)else if(0:Int)<=r5.t5/\r5.t5<(↑r5.t0.length:Int)then if(0:Int)<=r5.t5/\r5.t5<(↑r5.t0.length:Int)then if(0:Int)<=r5.t5/\r5.t5<(↑r5.t0.length:Int)then match M116 r5.t0[r5.t5.toNat]!.aG (i64.wrap (r7-(↑r5.t0[r5.t5.toNat]!.aH.length:Int)))with|wC=>wC|O r8=>match M116 r5.t0[r5.t5.toNat]!.aJ r8 with|wC=>wC|O r9=>wC else wC else wC else wC else wC else wC else O (r5.t1)
theorem atk(M116:(List GStep)->Int->Option o6)(a0:List GStep)(a1:Int):bN wG (abD M116) 300 (aeP M116) 116 (ajR.c (a0,a1,())) [] 0 d116.rd=aaV M116 a0 a1:=by kernel_rfl
def aeN:Nat->((List GStep)->Int->Option o6)
 |0=>(fun _ _=>wC)
 |n+1=>(aaV (aeN n))
def No(n:Nat):(List GStep)->Int->Option o6:=(aeN n)
theorem Jd:∀n,aaN (No n)
 |0=>fun _ _ h=>(by cases h)
 |n+1=>by
  have ih:=Jd n
  have i116:=ih
  exact(dH (aeD i116) (aqX (No n)) (fun _=>by kernel_rfl) (fun _=>by kernel_rfl) fun g=>atk (No n) g.1 g.2.1)
def ado:(List GStep)->Int->Option o6:=fun a0 a1=>lim (fun n=>No n a0 a1)
theorem adj:aaN ado:=fun g b h=>by
 obtain⟨n,hn⟩:=cD (show lim (fun n=>No n g.1 g.2.1)=O b from h)
 exact(Jd n) g b hn
def aq0(F:aI):aI:=aha ado F
theorem adS{F:aI}(h:bf wG F):bf wG (aq0 F):=QL adj h
def F53:aI:=(ahG (aq0 cQ))
structure Db where
 t7:Int
 t27:List cA
 (t28 t29:Int)
def TE:Td 0 Db:= .c [] [7,27,28,29] (.r 0 0 (ec 7 (qi .i64) (ec 27 (ql 139) (ec 28 (qi .i64) (ec 29 (qi .i64) en)))) sn (fun z=>⟨z.1.1,z.1.2.1,z.1.2.2.1,z.1.2.2.2.1⟩) (fun x=>((x.t7,x.t27,x.t28,x.t29,()),(()))) fun _=>rfl)
def J8(p:Db):Option (Option Db):=
 bif wF (p.t29<p.t28)then if(0:Int)<=p.t29/\p.t29<(↑p.t27.length:Int)then match M6 (aq.mk p.t27[p.t29.toNat]!.ay.aW p.t27[p.t29.toNat]!.ay.fN p.t27[p.t29.toNat]!.ay.ak) p.t7 with|wC=>wC|O r1=>O (O (Db.mk r1 p.t27 p.t28 (i64.wrap (p.t29+1))))else wC else O (wC)
def Qu:Db->Option Db:=bw (J8)
abbrev E53:Type:=Bool
def d53:Td 0 E53:= .c [] [6] (.r 0 0 (ec 6 qb en) sn (fun z=>z.1.1) (fun x=>((x,()),(()))) fun _=>rfl)
theorem at2:∀f∈([]:List Nat),aV (F53) f:=aC
def m53(a0:Flat)(a1:Int)(a2:Int):Option E53:=
 match bif wF (a1<(↑a0.ag.length:Int))then O (wE)else O (wF (a1<(↑a0.ai.length:Int)))with|wC=>wC|O r2=>bif r2 then O (wD)else match ado a0.bk a2 with|wC=>wC|O r3=>match Qu (Db.mk r3 a0.ai (↑a0.ai.length:Int) (0))with|wC=>wC|O r4=>bif wF (r4.t29<r4.t28)then if(0:Int)<=r4.t29/\r4.t29<(↑r4.t27.length:Int)then match M6 (aq.mk r4.t27[r4.t29.toNat]!.ay.aW r4.t27[r4.t29.toNat]!.ay.fN r4.t27[r4.t29.toNat]!.ay.ak) r4.t7 with|wC=>wC|O r5=>wC else wC else O (wF (0<=r4.t7))
def e53:aI->aI:=eL wG 53 wD (lc (qg 26) (lc (qi .i64) (lc (qi .i64) ln))) d53 (fun g=>m53 g.1 g.2.1 g.2.2.1)
theorem Wu:EO e53:=fun h=>kL (F:=F53) (an:=(.two .no (.two (.two (.rb [] 21) .no) (.two .no (.two (.two .no (TE.lp Qu .no)) .no))))) (l:=[(.skip,(.rb [] 21)),(aU f53 0,(TE.lp Qu .no))]) func53 (OA (adS aK)) (az at2 (az (aO TE) aC)) h
theorem pG:EP e53:=fun h=>kP h
end Go.Proofs.YtnfljbehcffmcaaGreat
end
noncomputable section
namespace Go.Proofs.YtnfljbehcffmcaaGreat
open Go Go.Iv
open Go.IntKind (i64)
theorem aq.eta(t:aq):aq.mk t.aW t.fN t.ak=t:=by cases t;rfl
theorem aq.dh{t k:aq}(h:k∈t.ak):SizeOf.sizeOf k<SizeOf.sizeOf t:=by
 cases t
 have:=wA h
 simp only[aq.mk.sizeOf_spec]
 simp only at this
 omega
def nT(t:aq):Nat:=1+(t.ak.attach.map fun k=>nT k.1).sum
termination_by SizeOf.sizeOf t
decreasing_by exact aq.dh k.2
def iM(l:List aq):Nat:=(l.map nT).sum
theorem tE(t:aq):nT t=1+iM t.ak:=by
 rw[nT,iM]
 congr 2
 exact xU (f:=nT)
theorem oP(k:aq)(ks:List aq):iM (k::ks)=nT k+iM ks:=by simp[iM]
theorem Qb{k:aq}{ks:List aq}(h:k∈ks):nT k<=iM ks:=by
 induction ks with
 |nil=>cases h
 |cons a ks ih=>
  rw[oP]
  rcases zu.1 h with rfl|h
  ·omega
  ·have:=ih h;omega
theorem HS(t:aq):0<nT t:=by rw[tE];omega
def tl(t:aq)(left:Int):Int:=if(nT t:Int)<=left then left-nT t else if 0<=left then-1 else left-1
def tls:List aq->Int->Int
 |[],l=>l
 |k::ks,l=>if 0<=l then tls ks (tl k l)else l
theorem T3:∀(ks:List aq) (l:Int),tls ks l=if 0<=l then(if(iM ks:Int)<=l then l-iM ks else-1)else l
 |[],l=>by simp[tls,iM];omega
 |k::ks,l=>by
  have e:=oP k ks
  have:=HS k
  unfold tls
  by_cases h:0<=l
  ·rw[if_pos h,if_pos h,T3 ks,e]
   unfold tl
   grind
  ·rw[if_neg h,if_neg h]
theorem alR(t:aq)(left:Int):tl t left=tls t.ak (left-1):=by
 rw[T3,tl,tE]
 grind
theorem Xr(t:aq)(l:Int):(0<=l-> -1<=tl t l/\tl t l<=l-1)/\(l<0->tl t l=l-1):=by
 have:=HS t
 unfold tl
 grind
theorem Wl(M:aq->Int->Option nI)(t:aq)(hM:∀k∈t.ak,∀l:Int,0<=l->l<=1000->M k l=O (tl k l)):
  ∀(ks:List aq) (i:Nat) (l:Int),t.ak.drop i=ks->i+ks.length=t.ak.length->l<=1000-i->∃q,FO M ⟨l,i,t⟩=O q/\q.t1=tls ks l/\q.b0=t/\(q.t5<t.ak.length->q.t1<0)
 |[],i,l,hd,hl,_=>by
  refine⟨_,bW fun r=> ?_,rfl,rfl,fun h=> ?_⟩
  ·have:¬((i:Int)<t.ak.length):=by simp at hl;omega
   simp[Fy,this]
  ·simp at hl h;omega
 |k::ks,i,l,hd,hl,h2=>by
  have hil:i<t.ak.length:=by simp at hl;omega
  have hki:t.ak[i]! =k:=by
   have:t.ak[i]? =O k:=by
    have:=congrArg List.head? hd
    rw[List.head?_drop]at this
    simpa using this
   rw[List.getElem!_eq_getElem?_getD,this];rfl
  have hmem:k∈t.ak:=by rw[<-hki,getElem!_pos t.ak i hil];exact xo hil
  by_cases h0:0<=l
  ·have hd':t.ak.drop (i+1)=ks:=by
    have:=congrArg List.tail hd
    rw[List.tail_drop]at this
    simpa using this
   have b3:=((Xr k l).1 h0).2
   obtain⟨q,e1,e2,e3,e4⟩:=Wl M t hM ks (i+1) (tl k l) hd' (by simp at hl;omega) (by omega)
   refine⟨q,?_,?_,e3,e4⟩
   ·rw[<-e1]
    refine bF ?_
    have hw:i64.wrap ((i:Int)+1)=((i+1:Nat):Int):=by rw[aF];omega
    have hk2:t.ak[i]=k:=by rw[<-hki,getElem!_pos t.ak i hil]
    simp[Fy,hil,h0,hk2,aq.eta,hM k hmem l h0 (by omega)]
    exact hw
   ·rw[e2]
    show _=if 0<=l then _ else _
    rw[if_pos h0]
  ·refine⟨_,bW fun r=> ?_,?_,rfl,fun h=> ?_⟩
   ·simp[Fy,hil,h0]
   ·show l=if 0<=l then _ else l
    rw[if_neg h0]
   ·simp only;omega
theorem Yx(M:aq->Int->Option nI)(t:aq)(hM:∀k∈t.ak,∀l:Int,0<=l->l<=1000->M k l=O (tl k l))(l:Int)(h1: -1000000<=l)(h2:l<=1000):adW M t l=O (tl t l):=by
 obtain⟨q,e1,e2,e3,e4⟩:=Wl M t hM t.ak 0 (l-1) rfl (by simp) (by omega)
 have hw:i64.wrap (l-1)=l-1:=aF
 rw[alR,<-e2]
 unfold adW
 rw[hw,aq.eta,show ((0:Nat):Int)=0 from rfl]at*
 rw[e1]
 obtain⟨q1,q5,qb⟩:=q
 subst e3
 dsimp only at*
 by_cases h5:q5<(qb.ak.length:Int)
 ·have:=e4 h5
  simp[h5,show ¬(0<=q1)by omega]
 ·simp[h5]
theorem QO:∀(n:Nat) (t:aq) (l:Int),SizeOf.sizeOf t<n-> -1000000<=l->l<=1000->LA n t l=O (tl t l)
 |0,_,_,h,_,_=>by omega
 |n+1,t,l,h,h1,h2=>Yx (LA n) t (fun k hk l h3 h4=>QO n k l (by have:=aq.dh hk;omega) (by omega) h4) l h1 h2
theorem Gi(t:aq)(l:Int)(h1: -1000000<=l)(h2:l<=1000):M6 t l=O (tl t l):=dy (SizeOf.sizeOf t+1) fun n hn=>QO n t l (by omega) h1 h2
theorem GStep.then_lt{s k:GStep}(h:k∈s.aG):SizeOf.sizeOf k<SizeOf.sizeOf s:=by
 cases s
 have:=wA h
 simp only[GStep.mk.sizeOf_spec]
 simp only at this
 omega
theorem GStep.aax{s k:GStep}(h:k∈s.aJ):SizeOf.sizeOf k<SizeOf.sizeOf s:=by
 cases s
 have:=wA h
 simp only[GStep.mk.sizeOf_spec]
 simp only at this
 omega
theorem GStep.eta(s:GStep):GStep.mk s.bH s.aL s.cG s.fN s.ay s.aG s.aJ s.aH=s:=by cases s;rfl
def nS(s:GStep):Nat:=1+nT s.ay+s.aH.length+(s.aG.attach.map fun k=>nS k.1).sum+(s.aJ.attach.map fun k=>nS k.1).sum
termination_by SizeOf.sizeOf s
decreasing_by
 ·exact GStep.then_lt k.2
 ·exact GStep.aax k.2
def ew(l:List GStep):Nat:=(l.map nS).sum
theorem nr(s:GStep):nS s=1+nT s.ay+s.aH.length+ew s.aG+ew s.aJ:=by
 rw[nS,ew,ew]
 congr 2
 ·congr 1
  exact xU (f:=nS)
 ·exact xU (f:=nS)
theorem lU(k:GStep)(ks:List GStep):ew (k::ks)=nS k+ew ks:=by simp[ew]
def sl(l:List GStep)(left:Int):Int:=if left<0 then left else if(ew l:Int)<=left then left-ew l else-1
def qV(left:Int)(s:GStep):Option Int:=if left<0 then wC else if tl s.ay (left-1)<s.aH.length then wC else O (sl s.aJ (sl s.aG (tl s.ay (left-1)-s.aH.length)))
theorem Iu{left x:Int}{s:GStep}(h:qV left s=O x):0<=left/\ -1<=x/\x<=left-1/\x=if(nS s:Int)<=left then left-nS s else-1:=by
 unfold qV at h
 have e:=nr s
 unfold tl sl at h
 grind
theorem MS{left:Int}{s:GStep}(h:qV left s=wC)(h0:0<=left):left<nS s:=by
 unfold qV at h
 have e:=nr s
 unfold tl at h
 grind
theorem ae5:∀(l:List GStep) (left:Int),ju qV (fun v _=>if v<0 then v else-1) id l left=sl l left
 |[],left=>by unfold sl;simp[ew,ju];omega
 |s::l,left=>by
  have e:=lU s l
  unfold ju
  cases hs:qV left s with
  |none=>
   have:=MS hs
   unfold sl
   grind
  |some x=>
   obtain⟨h1,h2,h3,h4⟩:=Iu hs
   dsimp only
   rw[ae5 l x]
   unfold sl
   grind
theorem adw(M:List GStep->Int->Option o6)(l:List GStep)(hM:∀s∈l,(∀x:Int,-1<=x->x<=1000->M s.aG x=O (sl s.aG x))/\(∀x:Int,-1<=x->x<=1000->M s.aJ x=O (sl s.aJ x)))(left:Int)(h1: -1<=left)(h2:left<=1000):
  aaV M l left=O (sl l left):=by
 have hstep:∀(i:Nat) (b:Int) (hi:i<l.length),b<=1000-i-> -1<=b->De M ⟨l,b,i⟩=if b<0 then O wC else if tl l[i].ay (b-1)<l[i].aH.length then O wC else O (O ⟨l,sl l[i].aJ (sl l[i].aG (tl l[i].ay (b-1)-l[i].aH.length)),((i+1:Nat):Int)⟩):=fun i b hi hb hb2=>by
  obtain⟨m1,m2⟩:=hM l[i] (xo hi)
  unfold De
  by_cases h0:b<0
  ·simp[hi,h0,show ¬0<=b by omega]
  ·have e1:i64.wrap (b-1)=b-1:=aF
   have e2:=Gi l[i].ay (b-1) (by omega) (by omega)
   have e3:=Xr l[i].ay (b-1)
   have hT: -2<=tl l[i].ay (b-1)/\tl l[i].ay (b-1)<=1000:=by grind
   by_cases h4:tl l[i].ay (b-1)<l[i].aH.length
   ·simp[hi,h0,e1,aq.eta,e2,h4,show 0<=b by omega]
   ·have e5:i64.wrap (tl l[i].ay (b-1)-l[i].aH.length)=tl l[i].ay (b-1)-l[i].aH.length:=aF
    have e6:=m1 (tl l[i].ay (b-1)-l[i].aH.length) (by omega) (by omega)
    have hS: -1<=sl l[i].aG (tl l[i].ay (b-1)-l[i].aH.length)/\sl l[i].aG (tl l[i].ay (b-1)-l[i].aH.length)<=1000:=by unfold sl;grind
    have e7:=m2 _ hS.1 hS.2
    have e8:i64.wrap ((i:Int)+1)=((i+1:Nat):Int):=by rw[aF];omega
    simp[hi,h0,e1,aq.eta,e2,h4,e5,e6,e7,show 0<=b by omega]
    exact e8
 obtain⟨i,v,hi,e1,⟨e2,e3⟩,e4⟩:=DL (rnd:=De M) l (fun i b=>⟨l,b,(i:Int)⟩) qV (fun v _=>if v<0 then v else-1) id (fun i b=>b<=1000-i/\ -1<=b) (fun i b hi hI b' hs=>by
   obtain⟨q1,q2,q3,q4⟩:=Iu hs
   refine⟨?_,by omega,q2⟩
   rw[hstep i b hi hI.1 hI.2]
   unfold qV at hs
   grind) (fun i b hi hI hs r=>by
   rw[hstep i b hi hI.1 hI.2]
   unfold qV at hs
   grind) (fun b hI r=>by simp[De]) (b:=left) ⟨by omega,h1⟩
 have e1':FW M ⟨l,left,0⟩=O ⟨l,v,i⟩:=e1
 unfold aaV
 rw[e1']
 rw[ae5]at e4
 rcases e4 with ⟨h5,e4⟩|⟨h5,hn,e4⟩
 ·simp[h5,e4]
 ·rw[e4]
  by_cases h0:v<0
  ·simp[h5,h0,show ¬(0<=v)by omega]
  ·have e1:i64.wrap (v-1)=v-1:=aF
   have e2:=Gi l[i].ay (v-1) (by omega) (by omega)
   have h4:tl l[i].ay (v-1)<l[i].aH.length:=by unfold qV at hn;grind
   simp[h5,h0,show 0<=v by omega,e1,aq.eta,e2,h4]
theorem aQ{s:GStep}{l:List GStep}(h:s∈l):SizeOf.sizeOf s.aG<SizeOf.sizeOf l/\SizeOf.sizeOf s.aJ<SizeOf.sizeOf l:=by
 have:=wA h
 cases s
 simp only[GStep.mk.sizeOf_spec]at this
 simp only
 omega
theorem Fx:∀(n:Nat) (l:List GStep) (x:Int),SizeOf.sizeOf l<n-> -1<=x->x<=1000->No n l x=O (sl l x)
 |0,_,_,h,_,_=>by omega
 |n+1,l,x,h,h1,h2=>adw (No n) l (fun s hs=>⟨fun x h3 h4=>Fx n _ x (by have:=aQ hs;omega) h3 h4,fun x h3 h4=>Fx n _ x (by have:=aQ hs;omega) h3 h4⟩) x h1 h2
theorem X0(l:List GStep)(x:Int)(h1: -1<=x)(h2:x<=1000):ado l x=O (sl l x):=dy (SizeOf.sizeOf l+1) fun n hn=>Fx n l x (by omega) h1 h2
def R3(f:Flat)(vars nodes:Int):Bool:=wF ((f.ag.length:Int)<=vars/\(f.ai.length:Int)<=vars/\(ew f.bk+iM (f.ai.map (·.ay)):Int)<=nodes)
theorem Ul(f:Flat)(vars nodes:Int)(h1:0<=vars)(h2:vars<=1000)(h3:0<=nodes)(h4:nodes<=1000):m53 f vars nodes=O (R3 f vars nodes):=by
 unfold m53
 by_cases q1:vars<f.ag.length
 ·simp[q1,R3];omega
 ·by_cases q2:vars<f.ai.length
  ·simp[q1,q2,R3];omega
  ·rw[X0 _ _ (by omega) (by omega)]
   have hb:sl f.bk nodes<=1000/\ -1<=sl f.bk nodes:=by unfold sl;grind
   have hstep:∀(i:Nat) (b:Int) (hi:i<f.ai.length),b<=1000-> -1-(i:Int)<=b->J8 ⟨b,f.ai,f.ai.length,i⟩=O (O ⟨tl f.ai[i].ay b,f.ai,f.ai.length,((i+1:Nat):Int)⟩):=fun i b hi hb hb2=>by
    have e2:=Gi f.ai[i].ay b (by omega) (by omega)
    have e8:i64.wrap ((i:Int)+1)=((i+1:Nat):Int):=by rw[aF];omega
    unfold J8
    simp[hi,aq.eta,e2]
    exact e8
   obtain⟨i,v,hi,e1,_,e4⟩:=DL (rnd:=J8) f.ai (fun i b=>⟨b,f.ai,f.ai.length,(i:Int)⟩) (fun b h=>O (tl h.ay b)) (fun v _=>v) id (fun i b=>b<=1000/\ -1-(i:Int)<=b) (fun i b hi hI b' hs=>by
     cases hs
     refine⟨hstep i b hi hI.1 hI.2,?_⟩
     have:=Xr f.ai[i].ay b
     grind) (fun i b hi hI hs r=>by cases hs) (fun b hI r=>by simp[J8]) (b:=sl f.bk nodes) ⟨hb.1,by omega⟩
   have e1':Qu ⟨sl f.bk nodes,f.ai,f.ai.length,0⟩=O ⟨v,f.ai,f.ai.length,i⟩:=e1
   rcases e4 with ⟨h5,e4⟩|⟨_,hn,_⟩
   case inr=>cases hn
   have key:∀(l:List cA) (b:Int),0<=ju (ρ:=Int) (fun b h=>O (tl h.ay b)) (fun v _=>v) id l b↔(iM (l.map (·.ay)):Int)<=b:=fun l=>by
    induction l with
    |nil=>intro b;simp[ju,iM]
    |cons h l ih=>
     intro b
     unfold ju
     dsimp only
     rw[ih,zV,oP]
     have:=HS h.ay
     unfold tl
     grind
   have k2:=key f.ai (sl f.bk nodes)
   rw[e4]at k2
   have k3:(0<=v)↔(iM (f.ai.map (·.ay)):Int)<=sl f.bk nodes:=k2
   simp only[q1,q2,decide_false,cond_false,e1',h5,xV,R3]
   congr 1
   rw[decide_eq_decide,k3]
   unfold sl
   grind
end Go.Proofs.YtnfljbehcffmcaaGreat
end
noncomputable section
namespace Go.Proofs.YtnfljbehcffmcaaGreat
open Go Go.Iv
theorem Z0:((0:Nat):Int)=(0:Int):=rfl
def YE(i:Nat)(c:Int):Bool:=wF ((97<=c/\c<=122)\/(i≠0/\((48<=c/\c<=57)\/c=46\/c=95)))
def gY(s:ByteArray):Bool:=wF (1<=s.size)&&wF (s.size<=40)&&(zJ s.size).all fun i=>YE i (bR s i)
def fX(low high:Int):Bool:=wF (low<=high/\ -1048576<=low/\high<=1048576)
def kU(vars:List aN)(i:Nat)(v:aN):Int:=
 if gY v.fName=wD then 7
 else if((vars.take i).any fun w=>w.fName.toList==v.fName.toList)=wE then 8
 else if v.aY<0\/3<v.aY then 1
 else if fX v.aa v.af=wD then 3
 else if v.aY=0 then(if v.dc<v.aa\/v.af<v.dc then 3 else 0)
 else if v.dc=0 then 0 else 3
def sN(kind:Int):List aN->Int->Option Int
 |[],n=>O n
 |v::vs,n=>if v.aY=kind then(if 4096<n*(v.af-v.aa+1)then wC else sN kind vs (n*(v.af-v.aa+1)))else sN kind vs n
def uT(vars:List aN):Bool:=(sN 1 vars 1).isSome&&(sN 2 vars 1).isSome&&(match sN 3 vars 1 with|O n=>wF (n<=256)|wC=>wD)
def jv(vars:List aN):Int:=if bY (kU vars) vars 0≠0 then bY (kU vars) vars 0 else if uT vars=wE then 0 else 4
def bK(o:Int):Int×Int:=if o=0\/o=24 then(0,0)else if o=6\/o=7 then(1,1)else if 8<=o/\o<=22 then(2,2)else if o=23 then(3,3)else if o=25 then(2,33)else(-1,-1)
def wP(vars:List aN)(inp:Bool)(t:aq):Bool:=wF (0<=(bK t.aW).1/\(bK t.aW).1<=t.ak.length/\(t.ak.length:Int)<=(bK t.aW).2)&&
 (if t.aW=0 then wE else if t.aW=24 then wF (0<=t.fN/\t.fN<vars.length)&& !(inp&&wF (vars[t.fN.toNat]!.aY=0))else wF (t.fN=0))
def cC(vars:List aN)(inp:Bool)(t:aq):Bool:=wP vars inp t&&t.ak.attach.all fun k=>cC vars inp k.1
termination_by SizeOf.sizeOf t
decreasing_by exact aq.dh k.2
theorem j5(vars:List aN)(inp:Bool)(t:aq):cC vars inp t=(wP vars inp t&&t.ak.all (cC vars inp)):=by
 rw[cC]
 congr 1
 rw[List.all_eq,List.all_eq]
 simp
def eV(a b:Span):Span:=⟨if b.aa<a.aa then b.aa else a.aa,if a.af<b.af then b.af else a.af⟩
def gX(vars:List aN)(t:aq)(k:List Span):Span:=
 if t.aW=0 then⟨t.fN,t.fN⟩
 else if t.aW=24 then⟨vars[t.fN.toNat]!.aa,vars[t.fN.toNat]!.af⟩
 else if t.aW=6 then⟨-k[0]!.af,-k[0]!.aa⟩
 else if t.aW=8 then⟨k[0]!.aa+k[1]!.aa,k[0]!.af+k[1]!.af⟩
 else if t.aW=9 then⟨k[0]!.aa-k[1]!.af,k[0]!.af-k[1]!.aa⟩
 else if t.aW=10 then
  eV (eV (eV ⟨k[0]!.aa*k[1]!.aa,k[0]!.aa*k[1]!.aa⟩ ⟨k[0]!.aa*k[1]!.af,k[0]!.aa*k[1]!.af⟩) ⟨k[0]!.af*k[1]!.aa,k[0]!.af*k[1]!.aa⟩) ⟨k[0]!.af*k[1]!.af,k[0]!.af*k[1]!.af⟩
 else if t.aW=11 then
  (if(0:Int)<=k[0]!.aa/\(0:Int)<=k[1]!.aa then⟨0,if k[0]!.af< -k[0]!.aa then-k[0]!.aa else k[0]!.af⟩else⟨-(if k[0]!.af< -k[0]!.aa then-k[0]!.aa else k[0]!.af),if k[0]!.af< -k[0]!.aa then-k[0]!.aa else k[0]!.af⟩)
 else if t.aW=12 then⟨if k[1]!.aa<0 then k[1]!.aa+1 else 0,if(0:Int)<k[1]!.af then k[1]!.af-1 else 0⟩
 else if t.aW=21 then⟨if k[1]!.aa<k[0]!.aa then k[1]!.aa else k[0]!.aa,if k[1]!.af<k[0]!.af then k[1]!.af else k[0]!.af⟩
 else if t.aW=22 then⟨if k[0]!.aa<k[1]!.aa then k[1]!.aa else k[0]!.aa,if k[0]!.af<k[1]!.af then k[1]!.af else k[0]!.af⟩
 else if t.aW=23\/t.aW=25 then(k.drop 2).foldl eV k[1]!
 else⟨0,1⟩
def tQ(s:Span):Bool:=wF (-1048576<=s.aa/\s.af<=1048576)
def jB:List (Option Span)->Option (List Span)
 |[]=>O []
 |none::_=>wC
 |some s::xs=>match jB xs with|O l=>O (s::l)|wC=>wC
def fA(vars:List aN)(t:aq):Option Span:=match jB (t.ak.attach.map fun k=>fA vars k.1)with
 |none=>wC
 |some l=>if tQ (gX vars t l)=wE then O (gX vars t l)else wC
termination_by SizeOf.sizeOf t
decreasing_by exact aq.dh k.2
theorem sO(vars:List aN)(t:aq):fA vars t=match jB (t.ak.map (fA vars))with
 |none=>wC
 |some l=>if tQ (gX vars t l)=wE then O (gX vars t l)else wC:=by
 rw[fA]
 rw[show (t.ak.attach.map fun k=>fA vars k.1)=t.ak.map (fA vars)from xU (f:=fA vars)]
def di(vars:List aN)(inp:Bool)(t:aq):Int:=if cC vars inp t=wD then 1 else if(fA vars t).isSome then 0 else 3
def kf(f:Flat)(i:Nat)(h:cA):Int:=
 if gY h.fName=wD then 7
 else if((f.ai.take i).any fun w=>w.fName.toList==h.fName.toList)=wE then 8
 else if fX h.aa h.af=wD then 3
 else di f.ag wE h.ay
def dT(t:aq):Int:=1+(t.ak.attach.map fun k=>dT k.1).foldl max 0
termination_by SizeOf.sizeOf t
decreasing_by exact aq.dh k.2
def KR(l:List aq):Int:=(l.map dT).foldl max 0
theorem QJ(t:aq):dT t=1+KR t.ak:=by
 rw[dT,KR]
 rw[show (t.ak.attach.map fun k=>dT k.1)=t.ak.map dT from xU (f:=dT)]
theorem vz(l:List Int)(a x:Int):(l++[x]).foldl max a=max (l.foldl max a) x:=by simp[List.foldl_append]
theorem C2(l:List aq)(k:aq):KR (l++[k])=max (KR l) (dT k):=by
 unfold KR
 rw[zY,zV,yG,vz]
theorem oK(l:List aq)(k:aq):iM (l++[k])=iM l+nT k:=by
 simp[iM]
theorem sS:∀(l:List Int) (a:Int),a<=l.foldl max a
 |[],a=>zk _
 |x::l,a=>xA (Int.le_max_left a x) (sS l (max a x))
theorem FV(l:List aq):0<=KR l:=sS _ _
theorem aj9(t:aq):1<=dT t:=by have:=FV t.ak;rw[QJ];omega
theorem cP(s:GStep)(l:List GStep):SizeOf.sizeOf l<SizeOf.sizeOf (s::l):=by
 rw[List.cons.sizeOf_spec]
 omega
def iL:List GStep->Int
 |[]=>0
 |s::l=>max (max (iL s.aG+1) (iL s.aJ+1)) (iL l)
termination_by l=>SizeOf.sizeOf l
decreasing_by
 ·exact(aQ (zg ..)).1
 ·exact(aQ (zg ..)).2
 ·exact cP _ _
def ei:List GStep->Bool
 |[]=>wD
 |s::l=>wF (12<dT s.ay)||ei s.aG||ei s.aJ||ei l
termination_by l=>SizeOf.sizeOf l
decreasing_by
 ·exact(aQ (zg ..)).1
 ·exact(aQ (zg ..)).2
 ·exact cP _ _
theorem qm(l:List GStep):0<=iL l:=by
 induction l with
 |nil=>rw[iL];omega
 |cons s l ih=>rw[iL];omega
theorem TB(l:List GStep)(s:GStep):iL (l++[s])=max (iL l) (max (iL s.aG+1) (iL s.aJ+1)):=by
 induction l with
 |nil=>
  have:=qm s.aG
  rw[z8,show iL []=0 by rw[iL],iL,show iL []=0 by rw[iL]]
  omega
 |cons a l ih=>rw[xe,iL,iL,ih];omega
theorem JN(l:List GStep)(k:GStep):ew (l++[k])=ew l+nS k:=by simp[ew]
def pK(f:Flat):Bool:=wF (f.ag.length<=64)&&wF (f.ai.length<=8)&&f.ai.all (fun h=>wF (dT h.ay<=12))&&wF (iL f.bk<=12)&& !ei f.bk
def eB:List Int->Bool
 |a::b::l=>wF (a<b)&&eB (b::l)
 |_=>wE
def td(t:aq):Bool:=wF (t.aW=0/\t.fN=0/\t.ak.length=0)
def rN(f:Flat)(s:GStep):Bool:=wF (0<=s.cG/\s.cG<f.ag.length)&&wF (f.ag[s.cG.toNat]!.aY=0)
def cK(f:Flat)(s:GStep)(last:Bool):Bool:=
 let free:=wF (s.aG.length=0/\s.aJ.length=0)
 let nob:=wF (s.aH.length=0)
 if s.bH=0 then free&&rN f s&&wF (s.fN=0)&&nob
 else if s.bH=1 then free&&wF (s.cG=0)&&wF (s.fN=0)&&nob
 else if s.bH=2 then free&&wF (s.cG=0)&&wF (s.fN=0)&&nob&&td s.ay
 else if s.bH=3 then wF (s.cG=0)&&wF (s.fN=0)&&nob
 else if s.bH=4 then wF (s.cG=0)&&wF (s.aJ.length=0)&&nob
 else if s.bH=5 then free&&rN f s&&wF (0<=s.fN/\s.fN<f.ai.length)&&nob&&td s.ay
 else if s.bH=6 then free&&last&&wF (s.cG=0)&&wF (s.fN=0)&&td s.ay&&(wF (1<=s.aH.length/\s.aH.length<=32)&&wF ((0:Int)<=s.aH[0]!)&&eB s.aH)
 else wD
def sI(s:GStep):Bool:=wF (0<=s.aL/\s.aL<=(if s.bH=2 then 67108864 else 10000))&&(if s.bH=4 then wF (0<=s.fN/\s.fN<=4096)else wE)&&(if s.bH=6 then wF (s.aH[s.aH.length-1]!<=67108864)else wE)
def nP(f:Flat)(last:Bool)(s:GStep):Int:=if cK f s last=wD then 1 else if sI s=wD then 3 else di f.ag wD s.ay
def bI(f:Flat)(top:Bool):List GStep->Int
 |[]=>0
 |s::l=>if nP f (top&&l.isEmpty) s≠0 then nP f (top&&l.isEmpty) s else if bI f wD s.aG≠0 then bI f wD s.aG else if bI f wD s.aJ≠0 then bI f wD s.aJ else bI f top l
termination_by l=>SizeOf.sizeOf l
decreasing_by
 all_goals first|exact(aQ (zg ..)).1|exact(aQ (zg ..)).2|exact cP _ _
def Tc(f:Flat)(top:Bool)(n i:Nat)(s:GStep):Int:=if nP f (top&&wF (i+1=n)) s≠0 then nP f (top&&wF (i+1=n)) s else if bI f wD s.aG≠0 then bI f wD s.aG else bI f wD s.aJ
theorem oJ(f:Flat)(top:Bool)(n:Nat):∀(l:List GStep) (i:Nat),i+l.length=n->bY (Tc f top n) l i=bI f top l
 |[],i,_=>by rw[bI];rfl
 |s::l,i,h=>by
  have ih:=oJ f top n l (i+1) (by simp at h;omega)
  have he:l.isEmpty=wF (i+1=n):=by
   cases l with
   |nil=>simp at h;simp[h]
   |cons a l=>simp at h;simp;omega
  unfold bY
  rw[bI,ih,he]
  unfold Tc
  grind
def dw:List GStep->Int×Int×Int
 |[]=>(0,0,0)
 |s::l=>match dw s.aG,dw s.aJ,dw l with
  |a,b,c=>if s.bH=1 then(1+c.1,1+c.2.1,s.aL+c.2.2)
   else if s.bH=3 then(1+max a.1 b.1+c.1,max a.2.1 b.2.1+c.2.1,s.aL+max a.2.2 b.2.2+c.2.2)
   else if s.bH=4 then(1+s.fN*(1+a.1)+c.1,s.fN*a.2.1+c.2.1,s.fN*(s.aL+a.2.2)+c.2.2)
   else(1+c.1,c.2.1,s.aL+c.2.2)
termination_by l=>SizeOf.sizeOf l
decreasing_by
 ·exact(aQ (zg ..)).1
 ·exact(aQ (zg ..)).2
 ·exact cP _ _
def Q6(f:Flat):Bool:=wF (4096<(dw f.bk).1\/8<(dw f.bk).2.1\/67108864<(dw f.bk).2.2)
def wW(f:Flat):Int:=if pK f=wD then 4 else if jv f.ag≠0 then jv f.ag else if bY (kf f) f.ai 0≠0 then bY (kf f) f.ai 0 else if bI f wE f.bk≠0 then bI f wE f.bk else if Q6 f=wE then 4 else 0
end Go.Proofs.YtnfljbehcffmcaaGreat
end
