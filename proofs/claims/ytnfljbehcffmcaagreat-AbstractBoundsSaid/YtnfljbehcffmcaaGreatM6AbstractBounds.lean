/- Merged: Pv6, Pv7, Qr, Qs, Ne31, Ne32, Hx, Hy, Ne33, Ne34, Ne35, Ne36, Ne37, Ne38, Qx, Qy, Hz. -/
import Derived.Test.YtnfljbehcffmcaaGreatM5AbstractBounds
import Derived.Test.YtnfljbehcffmcaaGreatM3AbstractBounds
open Int renaming toNat_natCast → za, le_refl → zk, mul_nonneg → zo, mul_le_mul_of_nonneg_right → zF, le_of_lt → yT, dvd_zero → yV, min_eq_right → xC, min_eq_left → we
open Nat renaming beq → zb, lt_succ_self → zn, le_refl → zx, le_trans → zy, add_mul → zZ, mul_le_mul_right → yt, lt_succ_iff_lt_or_eq → yU, one_mul → y8
open Bool renaming and_eq_true → ze, false_eq_true → yD, true_and → xF, true_eq_false → wg, true → wE, false → wD
open Option renaming some → O, none → wC
open List renaming mem_cons_self → zg, length_append → zh, getElem?_eq_getElem → zl, mem_cons → zu, length_map → zA, mem_cons_of_mem → zC, mem_singleton → zD, take_length → zG, mem_map → zH, range → zJ, mem_append → zP, map_congr_left → zQ, length_take → zU, map_cons → zV, mem_filter → zW, map_append → zY, drop → z6, nil_append → z8, append_nil → yd, length_drop → ye, length_singleton → yj, getElem_map → yx, length_set → yB, map_nil → yG, length_filter_le → yJ, filter_cons → yK, append_assoc → yS, map_drop → y5, cons_append → xe, getElem_mem → xo, drop_zero → xu, map_take → xw, take_zero → xx, filter_append → xy, filter_nil → xG, drop_eq_getElem_cons → xJ, mem_of_mem_drop → xN, attach_map_val → xU, getElem_drop → xZ, mem_of_mem_take → wk, mem_iff_getElem → wB
open Decidable renaming decide → wF
open Go.Proofs.Tryz renaming prog → wG
open Go.Proofs.Tryz
set_option linter.unusedSectionVars false
set_option linter.unusedVariables false
set_option linter.unusedSimpArgs false
noncomputable section
namespace Go.Proofs.YtnfljbehcffmcaaGreat
open Go Go.Iv
open Go.IntKind (i64)
theorem aaM(M:Flat->List GStep->Bool->Option m8)(f:Flat)(hv:cJ f.ag)(l:List GStep)(hl:l.length<=1000000)(hB:∀s∈l,s.aH.length<=1000000)(top:Bool)(hM:∀s∈l,M f s.aG wD=O (bI f wD s.aG)/\M f s.aJ wD=O (bI f wD s.aJ))(i:Nat)(hi:i<l.length):
  (Tc f top l.length i l[i]! =0->wI M ⟨l,top,(i:Int),f⟩=O (O ⟨l,top,((i+1:Nat):Int),f⟩))/\(Tc f top l.length i l[i]!≠0->wI M ⟨l,top,(i:Int),f⟩=O wC):=by
 have hw:=fq hi hl
 obtain⟨k1,k2⟩:=hM _ (aR hi)
 have hb:=hB _ (aR hi)
 have hi1:(i:Int)<(l.length:Int):=by omega
 have hi0:(0:Int)<=(i:Int):=by omega
 unfold wI Tc nP
 dsimp only
 simp only[za,aq.eta,GStep.eta,O8 f l[i]! _ hb,OE l.length i hl,AX f.ag hv,hw,hi1,hi0,decide_true,cond_true,and_self,if_true]
 have e1':(bif top then some (bif cK f l[i]! (wF (i+1=l.length))then false else true)else some (bif cK f l[i]! false then false else true))=some (bif cK f l[i]! (top&&wF (i+1=l.length))then false else true):=by cases top<;>rfl
 rw[e1']
 cases hS:cK f l[i]! (top&&wF (i+1=l.length))with
 |false=>simp
 |true=>
  have hn:=N6 hS
  rw[PS hS]
  unfold sI
  generalize (if l[i]!.bH=6 then wF (l[i]!.aH[l[i]!.aH.length-1]!<=67108864)else wE)=B6
  by_cases h2:l[i]!.bH=2
  ·rw[if_pos h2]at hn ⊢
   rw[decide_eq_true h2,hn 67108864 rfl]
   generalize (wF (0<=l[i]!.aL/\l[i]!.aL<=67108864)&&(if l[i]!.bH=4 then wF (0<=l[i]!.fN/\l[i]!.fN<=4096)else wE))=N
   generalize di f.ag wD l[i]!.ay=T
   generalize l[i]!.aG=A at k1 ⊢
   generalize l[i]!.aJ=B at k2 ⊢
   generalize bI f wD A=a at*
   generalize bI f wD B=b at*
   cases N with
   |false=>simp
   |true=>
    cases B6 with
    |false=>simp
    |true=>
     by_cases hT:T=0
     ·by_cases ha:a=0
      ·by_cases hb:b=0
       ·simp[hT,ha,hb,k1,k2]
       ·simp[hT,ha,hb,k1,k2]
      ·simp[hT,ha,k1]
     ·simp[hT]
  ·rw[if_neg h2]at hn ⊢
   rw[decide_eq_false h2,hn 10000 rfl]
   generalize (wF (0<=l[i]!.aL/\l[i]!.aL<=10000)&&(if l[i]!.bH=4 then wF (0<=l[i]!.fN/\l[i]!.fN<=4096)else wE))=N
   generalize di f.ag wD l[i]!.ay=T
   generalize l[i]!.aG=A at k1 ⊢
   generalize l[i]!.aJ=B at k2 ⊢
   generalize bI f wD A=a at*
   generalize bI f wD B=b at*
   cases N with
   |false=>simp
   |true=>
    cases B6 with
    |false=>simp
    |true=>
     by_cases hT:T=0
     ·by_cases ha:a=0
      ·by_cases hb:b=0
       ·simp[hT,ha,hb,k1,k2]
       ·simp[hT,ha,hb,k1,k2]
      ·simp[hT,ha,k1]
     ·simp[hT]
theorem aaF(M:Flat->List GStep->Bool->Option m8)(f:Flat)(hv:cJ f.ag)(l:List GStep)(hl:l.length<=1000000)(hB:∀s∈l,s.aH.length<=1000000)(top:Bool)(hM:∀s∈l,M f s.aG wD=O (bI f wD s.aG)/\M f s.aJ wD=O (bI f wD s.aJ)):aa2 M f l top=O (bI f top l):=by
 obtain⟨i,e1,hc⟩:=qZ (rnd:=wI M) l (fun i=>⟨l,top,(i:Int),f⟩) (Tc f top l.length) (fun i hi=>aaM M f hv l hl hB top hM i hi) (by unfold wI;simp)
 have e1':Fb M ⟨l,top,0,f⟩=O ⟨l,top,(i:Int),f⟩:=e1
 rw[oJ f top l.length l 0 (by omega)]at hc
 unfold aa2
 rw[e1']
 dsimp only
 rcases hc with ⟨rfl,hc⟩|⟨hi,h0,hc⟩
 ·rw[hc]
  simp
 ·rw[hc]
  obtain⟨k1,k2⟩:=hM _ (aR hi)
  have hb:=hB _ (aR hi)
  have hi1:(i:Int)<(l.length:Int):=by omega
  have hi0:(0:Int)<=(i:Int):=by omega
  revert h0
  unfold Tc nP
  simp only[za,aq.eta,GStep.eta,O8 f l[i]! _ hb,OE l.length i hl,AX f.ag hv,hi1,hi0,decide_true,cond_true,and_self,if_true]
  have e1':(bif top then some (bif cK f l[i]! (wF (i+1=l.length))then false else true)else some (bif cK f l[i]! false then false else true))=some (bif cK f l[i]! (top&&wF (i+1=l.length))then false else true):=by cases top<;>rfl
  rw[e1']
  cases hS:cK f l[i]! (top&&wF (i+1=l.length))with
  |false=>simp
  |true=>
   have hn:=N6 hS
   rw[PS hS]
   unfold sI
   generalize (if l[i]!.bH=6 then wF (l[i]!.aH[l[i]!.aH.length-1]!<=67108864)else wE)=B6
   by_cases h2:l[i]!.bH=2
   ·rw[if_pos h2]at hn ⊢
    rw[decide_eq_true h2,hn 67108864 rfl]
    generalize (wF (0<=l[i]!.aL/\l[i]!.aL<=67108864)&&(if l[i]!.bH=4 then wF (0<=l[i]!.fN/\l[i]!.fN<=4096)else wE))=N
    generalize di f.ag wD l[i]!.ay=T
    generalize l[i]!.aG=A at k1 ⊢
    generalize l[i]!.aJ=B at k2 ⊢
    generalize bI f wD A=a at*
    generalize bI f wD B=b at*
    cases N with
    |false=>simp
    |true=>
     cases B6 with
     |false=>simp
     |true=>
      by_cases hT:T=0
      ·by_cases ha:a=0
       ·by_cases hb:b=0
        ·simp[hT,ha,hb,k1,k2]
        ·simp[hT,ha,hb,k1,k2]
       ·simp[hT,ha,k1]
      ·simp[hT]
   ·rw[if_neg h2]at hn ⊢
    rw[decide_eq_false h2,hn 10000 rfl]
    generalize (wF (0<=l[i]!.aL/\l[i]!.aL<=10000)&&(if l[i]!.bH=4 then wF (0<=l[i]!.fN/\l[i]!.fN<=4096)else wE))=N
    generalize di f.ag wD l[i]!.ay=T
    generalize l[i]!.aG=A at k1 ⊢
    generalize l[i]!.aJ=B at k2 ⊢
    generalize bI f wD A=a at*
    generalize bI f wD B=b at*
    cases N with
    |false=>simp
    |true=>
     cases B6 with
     |false=>simp
     |true=>
      by_cases hT:T=0
      ·by_cases ha:a=0
       ·by_cases hb:b=0
        ·simp[hT,ha,hb,k1,k2]
        ·simp[hT,ha,hb,k1,k2]
       ·simp[hT,ha,k1]
      ·simp[hT]
theorem HP(f:Flat)(hv:cJ f.ag):∀(n:Nat) (l:List GStep) (top:Bool),SizeOf.sizeOf l<n->ew l<=1000->LL n f l top=O (bI f top l)
 |0,_,_,h,_=>by omega
 |n+1,l,top,h,h2=>aaF (LL n) f hv l (by have:=iY l;omega) (fun s hs=>by have:=AS hs;have:=nr s;omega) top (fun s hs=>⟨HP f hv n _ _ (by have:=aQ hs;omega) (by have:=fk hs;omega),HP f hv n _ _ (by have:=aQ hs;omega) (by have:=fk hs;omega)⟩)
theorem acN(f:Flat)(hv:cJ f.ag)(l:List GStep)(top:Bool)(h:ew l<=1000):aaR f l top=O (bI f top l):=dy (SizeOf.sizeOf l+1) fun n hn=>HP f hv n l top (by omega) h
theorem Vz(f:Flat)(hv:cJ f.ag)(hl:f.ai.length<=1000000)(i:Nat)(hi:i<f.ai.length):
  (kf f i f.ai[i]! =0->vk ⟨f.ai,(f.ai.length:Int),(i:Int),f⟩=O (O ⟨f.ai,(f.ai.length:Int),((i+1:Nat):Int),f⟩))/\(kf f i f.ai[i]!≠0->vk ⟨f.ai,(f.ai.length:Int),(i:Int),f⟩=O wC):=by
 have hw:=fq hi hl
 have h2:=Qg (f.ai.take i) (by rw[zU];omega) f.ai[i]!
 unfold vk kf
 dsimp only
 simp only[za,aq.eta,cA.eta,AH,AO,h2,AP f.ag hv,hw]
 generalize gY f.ai[i]!.fName=B
 generalize ((f.ai.take i).any fun w=>w.fName.toList==f.ai[i]!.fName.toList)=A
 generalize fX f.ai[i]!.aa f.ai[i]!.af=C
 generalize di f.ag wE f.ai[i]!.ay=T
 have hi1:(i:Int)<(f.ai.length:Int):=by omega
 have hi0:(0:Int)<=(i:Int):=by omega
 have hi2:(i:Int)<=(f.ai.length:Int):=by omega
 simp only[hi0,hi1,hi2,and_self,if_true,decide_true,cond_true]
 cases A<;>cases B<;>cases C<;>by_cases hT:T=0<;>simp[hT]
theorem adx(f:Flat)(hv:cJ f.ag)(hl:f.ai.length<=1000000):ZM f=O (bY (kf f) f.ai 0):=by
 obtain⟨i,e1,hc⟩:=qZ (rnd:=vk) f.ai (fun i=>⟨f.ai,(f.ai.length:Int),(i:Int),f⟩) (kf f) (fun i hi=>Vz f hv hl i hi) (by unfold vk;simp)
 have e1':Gr ⟨f.ai,(f.ai.length:Int),0,f⟩=O ⟨f.ai,(f.ai.length:Int),(i:Int),f⟩:=e1
 unfold ZM
 rw[e1']
 dsimp only
 rcases hc with ⟨rfl,hc⟩|⟨hi,h0,hc⟩
 ·rw[hc]
  simp
 ·rw[hc]
  have h2:=Qg (f.ai.take i) (by rw[zU];omega) f.ai[i]!
  revert h0
  unfold kf
  simp only[za,aq.eta,cA.eta,AH,AO,h2,AP f.ag hv]
  generalize gY f.ai[i]!.fName=B
  generalize ((f.ai.take i).any fun w=>w.fName.toList==f.ai[i]!.fName.toList)=A
  generalize fX f.ai[i]!.aa f.ai[i]!.af=C
  generalize di f.ag wE f.ai[i]!.ay=T
  have hi1:(i:Int)<(f.ai.length:Int):=by omega
  have hi0:(0:Int)<=(i:Int):=by omega
  have hi2:(i:Int)<=(f.ai.length:Int):=by omega
  simp only[hi0,hi1,hi2,and_self,if_true,decide_true,cond_true]
  cases A<;>cases B<;>cases C<;>by_cases hT:T=0<;>simp[hT]
theorem acO(f:Flat)(hv:cJ f.ag)(hl:f.ai.length<=1000000)(i:Nat)(hi:i<f.ai.length):
  (kf f i f.ai[i]! =0->Ek ⟨(i:Int),f⟩=O (O ⟨((i+1:Nat):Int),f⟩))/\(kf f i f.ai[i]!≠0->Ek ⟨(i:Int),f⟩=O wC):=by
 have hw:=fq hi hl
 obtain⟨j,h2,h3⟩:=IJ f hl i (by omega) f.ai[i]!
 unfold Ek kf
 dsimp only
 simp only[za,aq.eta,cA.eta,A4,Au,h2,AX f.ag hv,hw]
 generalize gY f.ai[i]!.fName=B
 generalize ((f.ai.take i).any fun w=>w.fName.toList==f.ai[i]!.fName.toList)=A at h3
 generalize fX f.ai[i]!.aa f.ai[i]!.af=C
 generalize di f.ag wE f.ai[i]!.ay=T
 have hi1:(i:Int)<(f.ai.length:Int):=by omega
 have hi0:(0:Int)<=(i:Int):=by omega
 simp only[hi0,hi1,and_self,if_true,decide_true,cond_true]
 rcases h3 with ⟨rfl,rfl⟩|⟨hj,h4,rfl⟩
 ·cases B<;>cases C<;>by_cases hT:T=0<;>simp[hT]
 ·have hj1:(j:Int)<(i:Int):=by omega
  have hj2:(j:Int)<(f.ai.length:Int):=by omega
  have hj0:(0:Int)<=(j:Int):=by omega
  simp only[hj0,hj1,hj2,h4,and_self,if_true,decide_true,cond_true]
  cases B<;>simp
theorem WU(f:Flat)(hv:cJ f.ag)(hl:f.ai.length<=1000000):∃i:Nat,P7 ⟨0,f⟩=O ⟨(i:Int),f⟩/\((i=f.ai.length/\bY (kf f) f.ai 0=0)\/(i<f.ai.length/\kf f i f.ai[i]!≠0/\bY (kf f) f.ai 0=kf f i f.ai[i]!)):=
 qZ (rnd:=Ek) f.ai (fun i=>⟨(i:Int),f⟩) (kf f) (fun i hi=>acO f hv hl i hi) (by unfold Ek;simp)
theorem uQ{f:Flat}{i:Nat}(hi:i<f.ai.length):iM ((f.ai.take i).map (·.ay))+nT f.ai[i]!.ay<=iM (f.ai.map (·.ay)):=by
 have h:=Ce (f.ai.map (·.ay)) (i+1)
 rw[<-xw,bA hi,zY,AU]at h
 simpa [iM]using h
theorem Zw(f:Flat)(h:ew f.bk+iM (f.ai.map (·.ay))<=900)(hl:f.ai.length<=1000000):acT f=O (pK f):=by
 unfold acT pK
 by_cases h1:64<(f.ag.length:Int)
 ·simp[h1,show ¬f.ag.length<=64 by omega]
 by_cases h2:8<(f.ai.length:Int)
 ·simp[h1,h2,show ¬f.ai.length<=8 by omega]
 rw[decide_eq_false h1,decide_eq_false h2,decide_eq_true (show f.ag.length<=64 by omega),decide_eq_true (show f.ai.length<=8 by omega)]
 dsimp only[cond_false,cond_true]
 have hb:=AT f.bk
 rw[Zd f.bk (by omega)]
 obtain⟨i,b,e1,hI,hc⟩:=nB (rnd:=Dd) f.ai.length (fun i (b:Int)=>⟨b,(i:Int),f⟩) (fun i b=>(0<=b/\b<=ew f.bk+iM ((f.ai.take i).map (·.ay)))/\∀j,j<i->dT f.ai[j]!.ay<=12) (fun i _=>12<dT f.ai[i]!.ay) (fun i b hi hI=>by
  have hn:=uQ hi
  have hw:=fq hi hl
  have k1:=FH f.ai[i]!.ay (by omega)
  have k2:=Hu f.ai[i]!.ay (by omega)
  have hi1:(i:Int)<(f.ai.length:Int):=by omega
  have hi0:(0:Int)<=(i:Int):=by omega
  by_cases hd:12<dT f.ai[i]!.ay
  ·refine .inr ⟨?_,hd⟩
   unfold Dd
   dsimp only
   simp only[za,aq.eta,k1,k2,hi1,hi0,decide_true,cond_true,and_self,if_true,hd]
  ·refine .inl ⟨b+nT f.ai[i]!.ay,?_,⟨by omega,?_⟩,fun j hj=> ?_⟩
   ·have hw2:i64.wrap (b+(nT f.ai[i]!.ay:Int))=b+nT f.ai[i]!.ay:=aF
    unfold Dd
    dsimp only
    simp only[za,aq.eta,k1,k2,hi1,hi0,decide_true,cond_true,and_self,if_true,hd,decide_false,cond_false,hw,hw2]
   ·rw[bA hi,zY,AU]
    simp only[zV,yG,oP,show iM []=0 from rfl]
    omega
   ·rcases yU.1 hj with h|h
    ·exact hI.2 j h
    ·subst h;omega) (fun b _=>by unfold Dd;simp) (b:=fI f.bk) ⟨⟨by omega,by simp only[xx,yG,show iM []=0 from rfl];omega⟩,fun j hj=>absurd hj (by omega)⟩
 have e1':FY ⟨fI f.bk,0,f⟩=O ⟨b,(i:Int),f⟩:=e1
 dsimp only
 rw[e1']
 dsimp only
 rcases hc with rfl|⟨hi,hd⟩
 ·rw[decide_eq_false (show ¬((f.ai.length:Int)<(f.ai.length:Int))by omega),cond_false]
  have ha:f.ai.all (fun h=>wF (dT h.ay<=12))=wE:=BK fun j hj=>by simpa using hI.2 j hj
  have hn:=hI.1.2
  rw[zG]at hn
  rw[ha,decide_eq_true (show b<=1024 by omega),cond_true,aak f.bk (by omega),adI f.bk (by omega)]
  by_cases h5:iL f.bk<=12
  ·cases ei f.bk<;>simp[h5]
  ·simp[h5]
 ·have hn:=uQ hi
  have k1:=FH f.ai[i]!.ay (by omega)
  have k2:=Hu f.ai[i]!.ay (by omega)
  have hi1:(i:Int)<(f.ai.length:Int):=by omega
  have hi0:(0:Int)<=(i:Int):=by omega
  have ha:f.ai.all (fun h=>wF (dT h.ay<=12))=wD:=tD hi (by simpa using hd)
  simp only[za,aq.eta,k1,k2,hi1,hi0,decide_true,cond_true,and_self,if_true,hd,ha,Bool.and_false,Bool.false_and]
theorem ac5(M:List GStep->Int->aM->Option qK)(l:List GStep)(hM:∀s∈l,∀(d:Int) (b:aM),0<=d->d<=13->0<=b.aX->(b.aX+ew s.aG<=1000->M s.aG d b=O (mj d s.aG b))/\(b.aX+ew s.aJ<=1000->M s.aJ d b=O (mj d s.aJ b)))(d:Int)(b:aM)(h0:0<=d)(hd:d<=13)(h1:0<=b.aX)(h2:b.aX+ew l<=1000):Zi M l d b=O (mj d l b):=by
 have hL:=iY l
 have hw1:i64.wrap (d+1)=d+1:=aF
 have hgo:∀(l:List GStep) (i:Nat) (b:aM),Mj (fun _ (b:aM) (s:GStep)=>if dI (cF d b)=wE then(.inr (cF d b):aM ⊕ aM)else .inl (mj (d+1) s.aJ (mj (d+1) s.aG (rJ s.ay 1 (cF d b))))) id id l i b=mj d l b:=by
  intro l
  induction l with
  |nil=>intro i b;rw[mj];rfl
  |cons s l ih=>
   intro i b
   rw[mj]
   by_cases ho:dI (cF d b)=wE
   ·rw[if_pos ho,AJ (r:=cF d b) (by rw[if_pos ho])];rfl
   ·rw[if_neg ho,sY (b':=mj (d+1) s.aJ (mj (d+1) s.aG (rJ s.ay 1 (cF d b)))) (by rw[if_neg ho])]
    exact ih (i+1) _
 have hm:∀(b:aM) (x:Bool),-1000000<=b.aX->b.aX<=1000000->x=(b.eo||wF (12<d))->gZ ⟨i64.wrap (b.aX+1),x⟩=(dI (cF d b),cF d b):=fun b x b1 b2 hx=>by
  rw[uo,aF,hx]
  rfl
 have hs:∀(i:Nat) (b:aM),i<l.length->0<=b.aX->b.aX+nS l[i]!<=1000->dI (cF d b)=wD->d<=12/\Dy l[i]!.ay 1 (cF d b)=O (rJ l[i]!.ay 1 (cF d b))/\M l[i]!.aG (d+1) (rJ l[i]!.ay 1 (cF d b))=O (mj (d+1) l[i]!.aG (rJ l[i]!.ay 1 (cF d b)))/\M l[i]!.aJ (d+1) (mj (d+1) l[i]!.aG (rJ l[i]!.ay 1 (cF d b)))=O (mj (d+1) l[i]!.aJ (mj (d+1) l[i]!.aG (rJ l[i]!.ay 1 (cF d b))))/\0<=(mj (d+1) l[i]!.aJ (mj (d+1) l[i]!.aG (rJ l[i]!.ay 1 (cF d b)))).aX/\(mj (d+1) l[i]!.aJ (mj (d+1) l[i]!.aG (rJ l[i]!.ay 1 (cF d b)))).aX<=b.aX+nS l[i]! :=fun i b hi b1 b2 ho=>by
  have hd2:d<=12:=by unfold dI cF at ho;grind
  have hN:=nr l[i]!
  have hp:(cF d b).aX=b.aX+1:=rfl
  obtain⟨a1,a2,a3⟩:=Gt l[i]!.ay 1 (cF d b) (by omega) (by omega) (by omega)
  obtain⟨c1,c2,c3⟩:=MX (d+1) l[i]!.aG (rJ l[i]!.ay 1 (cF d b)) (by omega) (by omega) (by omega) (by omega)
  obtain⟨g1,g2,g3⟩:=MX (d+1) l[i]!.aJ (mj (d+1) l[i]!.aG (rJ l[i]!.ay 1 (cF d b))) (by omega) (by omega) (by omega) (by omega)
  exact⟨hd2,N5 _ 1 _ (by omega) (by omega) (by omega) (by omega),(hM _ (aR hi) (d+1) _ (by omega) (by omega) (by omega)).1 (by omega),(hM _ (aR hi) (d+1) _ (by omega) (by omega) (by omega)).2 (by omega),by omega,by omega⟩
 obtain⟨i,v,e1,hI,hc⟩:=Xl (rnd:=Cs M) l (fun i (b:aM)=>⟨d,l,(l.length:Int),(i:Int),b⟩) (fun _ (b:aM) (s:GStep)=>if dI (cF d b)=wE then(.inr (cF d b):aM ⊕ aM)else .inl (mj (d+1) s.aJ (mj (d+1) s.aG (rJ s.ay 1 (cF d b))))) id id (fun i x=>0<=x.aX/\x.aX<=b.aX+ew (l.take i)) (fun i x hi hx=>by
   have hn:=Bf hi
   have hw:=fq hi (by omega)
   have hi1:(i:Int)<(l.length:Int):=by omega
   have hi0:(0:Int)<=(i:Int):=by omega
   have hmx:=hm x
   cases ho:dI (cF d x)with
   |true=>
    refine⟨fun b' hb'=>by simp at hb',fun r hr=> ?_⟩
    unfold Cs
    dsimp only
    simp only[za,hi1,hi0,decide_true,cond_true,and_self,if_true]
    cases hb:x.eo with
    |true=>rw[hmx wE (by omega) (by omega) (by rw[hb];rfl),ho];rfl
    |false=>rw[hmx (wF (12<d)) (by omega) (by omega) (by rw[hb];rfl),ho];rfl
   |false=>
    obtain⟨q0,q1,q2,q3,q4,q5⟩:=hs i x hi hx.1 (by omega) ho
    refine⟨fun b' hb'=> ?_,fun r hr=>by simp at hr⟩
    have hb':mj (d+1) l[i]!.aJ (mj (d+1) l[i]!.aG (rJ l[i]!.ay 1 (cF d x)))=b':=by simpa using hb'
    subst hb'
    refine⟨?_,⟨q4,by rw[bA hi,JN];omega⟩⟩
    unfold Cs
    dsimp only
    simp only[za,hi1,hi0,decide_true,cond_true,and_self,if_true]
    cases hb:x.eo with
    |true=>rw[hmx wE (by omega) (by omega) (by rw[hb];rfl),ho];simp only[aq.eta,q1,q2,q3,hw1,hw,cond_true,cond_false]
    |false=>rw[hmx (wF (12<d)) (by omega) (by omega) (by rw[hb];rfl),ho];simp only[aq.eta,q1,q2,q3,hw1,hw,cond_true,cond_false]) (fun x _=>by unfold Cs;simp) (b:=b) ⟨h1,by simp[ew]⟩
 have e1':Gx M ⟨d,l,(l.length:Int),0,b⟩=O ⟨d,l,(l.length:Int),(i:Int),v⟩:=e1
 rw[hgo]at hc
 unfold Zi
 rw[e1']
 dsimp only
 rcases hc with ⟨rfl,hc⟩|⟨hi,r,hr,hc⟩
 ·rw[hc,dZ]
  rfl
 ·have hn:=Bf hi
  have hi1:(i:Int)<(l.length:Int):=by omega
  have hi0:(0:Int)<=(i:Int):=by omega
  have ho:dI (cF d v)=wE:=by
   by_cases ho:dI (cF d v)=wE
   ·exact ho
   ·rw[if_neg ho]at hr;cases hr
  rw[if_pos ho]at hr
  cases hr
  rw[hc]
  have hmx:=hm v
  simp only[za,hi1,hi0,decide_true,cond_true,and_self,if_true]
  cases hb:v.eo with
  |true=>rw[hmx wE (by omega) (by omega) (by rw[hb];rfl),ho];rfl
  |false=>rw[hmx (wF (12<d)) (by omega) (by omega) (by rw[hb];rfl),ho];rfl
theorem GB:∀(n:Nat) (l:List GStep) (d:Int) (b:aM),SizeOf.sizeOf l<n->0<=d->d<=13->0<=b.aX->b.aX+ew l<=1000->LS n l d b=O (mj d l b)
 |0,_,_,_,h,_,_,_,_=>by omega
 |n+1,l,d,b,h,h0,hd,h1,h2=>ac5 (LS n) l (fun s hs d b a1 a2 a3=>⟨fun a4=>GB n _ d b (by have:=aQ hs;omega) a1 a2 a3 a4,fun a4=>GB n _ d b (by have:=aQ hs;omega) a1 a2 a3 a4⟩) d b h0 hd h1 h2
theorem aeC(l:List GStep)(d:Int)(b:aM)(h0:0<=d)(hd:d<=13)(h1:0<=b.aX)(h2:b.aX+ew l<=1000):VZ l d b=O (mj d l b):=dy (SizeOf.sizeOf l+1) fun n hn=>GB n l d b (by omega) h0 hd h1 h2
theorem acg(f:Flat)(h:ew f.bk+iM (f.ai.map (·.ay))<=900)(hl:f.ai.length<=1000000):∃r q,VZ f.bk 1 ⟨0,wD⟩=O r/\B8 ⟨f.ai,(f.ai.length:Int),0,f,r⟩=O ⟨f.ai,(f.ai.length:Int),(f.ai.length:Int),f,q⟩/\dI q= !(f.ai.all (fun h=>wF (dT h.ay<=12))&&wF (iL f.bk<=12)&& !ei f.bk):=by
 obtain⟨p1,p2,p3⟩:=MX 1 f.bk ⟨0,wD⟩ (by omega) (by omega) (zk 0) (by show (0:Int)+_<=_;omega)
 have p2:0<=(mj 1 f.bk ⟨0,wD⟩).aX:=p2
 have p3:(mj 1 f.bk ⟨0,wD⟩).aX<=0+ew f.bk:=p3
 refine⟨mj 1 f.bk ⟨0,wD⟩,?_⟩
 have p4:=aeC f.bk 1 ⟨0,wD⟩ (by omega) (by omega) (zk 0) (by show (0:Int)+_<=_;omega)
 generalize mj 1 f.bk ⟨0,wD⟩=r at*
 obtain⟨q,e1,hI⟩:=cz (rnd:=Cy) f.ai.length (fun i (q:aM)=>⟨f.ai,(f.ai.length:Int),(i:Int),f,q⟩) (fun i q=>q.eo=(r.eo||(f.ai.take i).any fun h=>wF (12<dT h.ay))/\0<=q.aX/\q.aX<=r.aX+iM ((f.ai.take i).map (·.ay))) (fun i q hi hI=>by
  have hn:=uQ hi
  have hw:=fq hi hl
  have hi1:(i:Int)<(f.ai.length:Int):=by omega
  have hi0:(0:Int)<=(i:Int):=by omega
  have hn2:iM ((f.ai.take (i+1)).map (·.ay))=iM ((f.ai.take i).map (·.ay))+nT f.ai[i]!.ay:=by
   rw[bA hi,zY,AU]
   simp[iM]
  have ha:((f.ai.take (i+1)).any fun h=>wF (12<dT h.ay))=(((f.ai.take i).any fun h=>wF (12<dT h.ay))||wF (12<dT f.ai[i]!.ay)):=by
   rw[bA hi,List.any_append,List.any_cons,List.any_nil,Bool.or_false]
  rw[ha,hn2]
  obtain⟨q1,q2,q3⟩:=hI
  cases ho:dI q with
  |true=>
   refine⟨q,?_,?_,q2,by omega⟩
   ·unfold Cy
    dsimp only
    simp only[za,hi1,hi0,decide_true,cond_true,cond_false,and_self,if_true,uo,ho,hw]
   ·unfold dI at ho
    rw[decide_eq_false (show ¬1024<q.aX by omega),Bool.or_false]at ho
    rw[<-Bool.or_assoc,<-q1,ho]
    rfl
  |false=>
   obtain⟨c1,c2,c3⟩:=Gt f.ai[i]!.ay 1 q (by omega) q2 (by omega)
   have k:=N5 f.ai[i]!.ay 1 q (by omega) (by omega) q2 (by omega)
   refine⟨rJ f.ai[i]!.ay 1 q,?_,?_,by omega,by omega⟩
   ·unfold Cy
    dsimp only
    simp only[za,aq.eta,hi1,hi0,decide_true,cond_true,cond_false,and_self,if_true,uo,ho,hw,k]
   ·rw[c1,q1,Bool.or_assoc]
    rw[show wF (12<1-1+dT f.ai[i]!.ay)=wF (12<dT f.ai[i]!.ay)from decide_eq_decide.2 (by omega)]) (fun q _=>by unfold Cy;simp) (b:=r) ⟨by simp,p2,by simp[iM]⟩
 have e1':B8 ⟨f.ai,(f.ai.length:Int),0,f,r⟩=O ⟨f.ai,(f.ai.length:Int),(f.ai.length:Int),f,q⟩:=e1
 refine⟨q,p4,e1',?_⟩
 rw[zG]at hI
 obtain⟨q1,q2,q3⟩:=hI
 unfold dI
 rw[decide_eq_false (show ¬1024<q.aX by omega),Bool.or_false,q1,p1]
 have e2:(f.ai.any fun h=>wF (12<dT h.ay))= !(f.ai.all fun h=>wF (dT h.ay<=12)):=by
  rw[List.not_all_eq_any_not]
  congr 1
  funext h
  by_cases hd:dT h.ay<=12
  ·simp[hd]
  ·simp[hd];omega
 have e3:wF (12<1-1+iL f.bk)= !wF (iL f.bk<=12):=by
  by_cases hd:iL f.bk<=12
  ·simp[hd]
  ·simp[hd];omega
 rw[e2,e3]
 generalize (f.ai.all fun h=>wF (dT h.ay<=12))=x
 generalize wF (iL f.bk<=12)=y
 generalize ei f.bk=z
 cases x<;>cases y<;>cases z<;>rfl
def uZ:List GStep->Prop
 |[]=>True
 |s::l=>(0<=s.aL/\s.aL<=67108864)/\(s.bH=4->0<=s.fN/\s.fN<=4096)/\(s.bH≠3->s.bH≠4->s.aG=[])/\(s.bH≠3->s.aJ=[])/\uZ s.aG/\uZ s.aJ/\uZ l
termination_by l=>SizeOf.sizeOf l
decreasing_by
 ·exact(aQ (zg ..)).1
 ·exact(aQ (zg ..)).2
 ·exact cP _ _
theorem agO{s:GStep}(h:sI s=wE):(0<=s.aL/\s.aL<=67108864)/\(s.bH=4->0<=s.fN/\s.fN<=4096):=by
 unfold sI at h
 simp only[ze,decide_eq_true_eq]at h
 grind
theorem vF(f:Flat):∀(n:Nat) (l:List GStep) (top:Bool),SizeOf.sizeOf l<n->bI f top l=0->uZ l
 |0,_,_,h,_=>by omega
 |n+1,[],top,h,hc=>by rw[uZ];trivial
 |n+1,s::l,top,h,hc=>by
  rw[bI]at hc
  have hz:=aQ (l:=s::l) (zg ..)
  have hz2:=cP s l
  by_cases h1:nP f (top&&l.isEmpty) s≠0
  ·rw[if_pos h1]at hc;exact absurd hc h1
  rw[if_neg h1]at hc
  by_cases h2:bI f wD s.aG≠0
  ·rw[if_pos h2]at hc;exact absurd hc h2
  rw[if_neg h2]at hc
  by_cases h3:bI f wD s.aJ≠0
  ·rw[if_pos h3]at hc;exact absurd hc h3
  rw[if_neg h3]at hc
  have q1:=vF f n s.aG wD (by omega) (by omega)
  have q2:=vF f n s.aJ wD (by omega) (by omega)
  have q3:=vF f n l top (by omega) hc
  have h1:nP f (top&&l.isEmpty) s=0:=by omega
  unfold nP at h1
  cases hS:cK f s (top&&l.isEmpty)with
  |false=>rw[hS]at h1;simp at h1
  |true=>
   rw[hS]at h1
   cases hN:sI s with
   |false=>rw[hN]at h1;simp at h1
   |true=>
    obtain⟨n1,n2⟩:=agO hN
    obtain⟨b1,b2,b3,b4,b5⟩:=hO hS
    rw[uZ]
    exact⟨n1,n2,b3,b4,q1,q2,q3⟩
def DE(s:GStep)(a b:Int×Int×Int):Int×Int×Int:=
 if s.bH=1 then(1,1,s.aL)
 else if s.bH=3 then(1+max a.1 b.1,max a.2.1 b.2.1,s.aL+max a.2.2 b.2.2)
 else if s.bH=4 then(1+s.fN*(1+a.1),s.fN*a.2.1,s.fN*(s.aL+a.2.2))
 else(1,0,s.aL)
def IY(a b:Int×Int×Int):Int×Int×Int:=(a.1+b.1,a.2.1+b.2.1,a.2.2+b.2.2)
theorem sX(s:GStep)(l:List GStep):dw (s::l)=IY (DE s (dw s.aG) (dw s.aJ)) (dw l):=by
 rw[dw]
 unfold DE IY
 dsimp only
 split
 ·rfl
 ·split
  ·rfl
  ·split
   ·rfl
   ·simp
theorem Jk(l:List GStep)(s:GStep):dw (l++[s])=IY (dw l) (DE s (dw s.aG) (dw s.aJ)):=by
 have h0:dw []=(0,0,0):=by rw[dw]
 induction l with
 |nil=>rw[z8,sX,h0];unfold IY;simp
 |cons a l ih=>
  rw[xe,sX,sX,ih]
  unfold IY
  simp only[Int.add_assoc]
def qN(c:Int×Int×Int)(a:Int×Int×Int):Int×Int×Int:=(min a.1 c.1,min a.2.1 c.2.1,min a.2.2 c.2.2)
theorem adk{n x c k:Int}(hn:0<=n)(hk:0<=k)(hx:0<=x)(hc:0<=c):min (n*(k+min x c)) c=min (n*(k+x)) c:=by
 by_cases h:x<=c
 ·rw[we h]
 ·rw[xC (show c<=x by omega)]
  by_cases h0:n=0
  ·subst h0;simp
  ·have e1:1*(k+c)<=n*(k+c):=zF (by omega) (by omega)
   have e2:1*(k+x)<=n*(k+x):=zF (by omega) (by omega)
   rw[xC (by omega),xC (by omega)]
theorem mW:∀{l:List GStep},uZ l->∀s∈l,(0<=s.aL/\s.aL<=67108864)/\(s.bH=4->0<=s.fN/\s.fN<=4096)/\(s.bH≠3->s.bH≠4->s.aG=[])/\(s.bH≠3->s.aJ=[])/\uZ s.aG/\uZ s.aJ
 |[],_,s,hs=>by cases hs
 |a::l,h,s,hs=>by
  rw[uZ]at h
  rcases zu.1 hs with rfl|hs
  ·exact⟨h.1,h.2.1,h.2.2.1,h.2.2.2.1,h.2.2.2.2.1,h.2.2.2.2.2.1⟩
  ·exact mW h.2.2.2.2.2.2 s hs
def nn3(a:Int×Int×Int):Prop:=0<=a.1/\0<=a.2.1/\0<=a.2.2
theorem akK{s:GStep}{a b:Int×Int×Int}(hc:0<=s.aL)(hN:s.bH=4->0<=s.fN)(ha:nn3 a)(hb:nn3 b):nn3 (DE s a b):=by
 unfold nn3 at*
 unfold DE
 split
 ·exact⟨yT (by decide:(0:Int)<1),yT (by decide:(0:Int)<1),hc⟩
 ·split
  ·dsimp only;omega
  ·split
   ·rename_i h4
    have:=hN h4
    have e1:0<=s.fN*(1+a.1):=zo this (by omega)
    have e2:0<=s.fN*a.2.1:=zo this (by omega)
    have e3:0<=s.fN*(s.aL+a.2.2):=zo this (by omega)
    dsimp only;omega
   ·exact⟨yT (by decide:(0:Int)<1),zk (0:Int),hc⟩
theorem Ge:∀(n:Nat) (l:List GStep),SizeOf.sizeOf l<n->uZ l->nn3 (dw l)
 |0,_,h,_=>by omega
 |n+1,[],h,_=>by rw[show dw []=(0,0,0)by rw[dw]];exact⟨by decide,by decide,by decide⟩
 |n+1,s::l,h,ho=>by
  have hz:=aQ (l:=s::l) (zg ..)
  have hz2:=cP s l
  rw[uZ]at ho
  have q1:=Ge n s.aG (by omega) ho.2.2.2.2.1
  have q2:=Ge n s.aJ (by omega) ho.2.2.2.2.2.1
  have q3:=Ge n l (by omega) ho.2.2.2.2.2.2
  have q4:=akK ho.1.1 (fun h=>(ho.2.1 h).1) q1 q2
  rw[sX]
  unfold nn3 IY at*
  dsimp only
  omega
theorem qe{l:List GStep}(h:uZ l):nn3 (dw l):=Ge _ l (zn _) h
theorem Dl:∀{l:List GStep} (i:Nat),uZ l->uZ (l.take i)
 |[],i,h=>by rw[List.take_nil];exact h
 |s::l,0,h=>by rw[xx,uZ];trivial
 |s::l,i+1,h=>by
  rw[uZ]at h
  rw[List.take_succ_cons,uZ]
  exact⟨h.1,h.2.1,h.2.2.1,h.2.2.2.1,h.2.2.2.2.1,h.2.2.2.2.2.1,Dl i h.2.2.2.2.2.2⟩
def M3(a:Int×Int×Int):pz:=⟨a.1,a.2.1,a.2.2⟩
def MO:Int×Int×Int:=(1099511627776,1099511627776,1099511627776)
def GM:Int×Int×Int:=(4097,9,67108865)
theorem XE{n x:Int}(h1:0<=n)(h2:n<=4096)(h3:0<=x)(h4:x<=1200000000000):0<=n*x/\n*x<=4915200000000000:=by
 have e1:n*x<=4096*x:=zF h2 h3
 have e2:0<=n*x:=zo h1 h3
 omega
theorem jq(w c:Int):(if c<w then c else w)=min w c:=by omega
theorem ajM(w c:Int):(if w<c then w else c)=min w c:=by omega
theorem MN(a b c:Int):(if min a c<min b c then min b c else min a c)=min (max a b) c:=by omega
theorem aaZ(a b c:Int):(if min b c<min a c then min a c else min b c)=min (max a b) c:=by omega
section
variable {C x y m k n a:Int} (h0:0<=C) (h1:C<=1099511627776) (hx:0<=x)
include h0 h1 hx
theorem KT(hy:0<=y)(hy2:y<=67108864):min (i64.wrap (min x C+y)) C=min (x+y) C:=by
 rw[aF]
 omega
theorem RR(hm:0<=m)(hk:0<=k)(hk2:k<=67108864):min (i64.wrap (min x C+i64.wrap (k+min m C))) C=min (x+(k+m)) C:=by
 have:i64.wrap (k+min m C)=k+min m C:=aF
 rw[this,aF]
 omega
theorem ae2(hm:0<=m):min (i64.wrap (min x C+min m C)) C=min (x+m) C:=by
 rw[aF]
 omega
theorem ak1{z:Int}(hz:0<=z)(hy:0<=y)(hy2:y<=4915200000000001)(h:min y C=min z C):min (i64.wrap (min x C+y)) C=min (x+z) C:=by
 rw[aF]
 omega
omit hx in
theorem Uy(hn:0<=n)(hn2:n<=4096)(ha:0<=a)(hk:0<=k)(hk2:k<=67108864):i64.wrap (n*i64.wrap (k+min a C))=n*(k+min a C)/\0<=n*(k+min a C)/\n*(k+min a C)<=4915200000000000/\0<=n*(k+a)/\min (n*(k+min a C)) C=min (n*(k+a)) C:=by
 have e1:i64.wrap (k+min a C)=k+min a C:=aF
 have e2:=XE (x:=k+min a C) hn hn2 (by omega) (by omega)
 rw[e1]
 exact⟨aF,e2.1,e2.2,zo hn (by omega),adk hn hk ha h0⟩
theorem apw(hn:0<=n)(hn2:n<=4096)(ha:0<=a)(hk:0<=k)(hk2:k<=67108864):min (i64.wrap (min x C+i64.wrap (n*i64.wrap (k+min a C)))) C=min (x+n*(k+a)) C:=by
 obtain⟨q1,q2,q3,q4,q5⟩:=Uy h0 h1 hn hn2 ha hk hk2
 rw[q1]
 exact ak1 h0 h1 hx q4 q2 (by omega) q5
theorem afK(hn:0<=n)(hn2:n<=4096)(ha:0<=a):min (i64.wrap (min x C+i64.wrap (1+i64.wrap (n*i64.wrap (1+min a C))))) C=min (x+(1+n*(1+a))) C:=by
 obtain⟨q1,q2,q3,q4,q5⟩:=Uy (k:=1) h0 h1 hn hn2 ha (by omega) (by omega)
 rw[q1]
 generalize n*(1+min a C)=y at*
 generalize n*(1+a)=z at*
 rw[show i64.wrap (1+y)=1+y from aF]
 exact ak1 h0 h1 hx (by omega) (by omega) (by omega) (by omega)
theorem agj(hn:0<=n)(hn2:n<=4096)(ha:0<=a):min (i64.wrap (min x C+i64.wrap (n*min a C))) C=min (x+n*a) C:=by
 obtain⟨q1,q2,q3,q4,q5⟩:=Uy (k:=0) h0 h1 hn hn2 ha (by omega) (by omega)
 rw[Int.zero_add]at q2 q3 q4 q5
 rw[Int.zero_add]at q5
 rw[show i64.wrap (n*min a C)=n*min a C from aF]
 exact ak1 h0 h1 hx q4 q2 (by omega) q5
end
theorem acy(M:List GStep->Option qH)(l:List GStep)(hl:l.length<=1000000)(ho:uZ l)(hM:∀s∈l,M s.aG=O (M3 (qN MO (dw s.aG)))/\M s.aJ=O (M3 (qN MO (dw s.aJ)))):aar M l=O (M3 (qN MO (dw l))):=by
 obtain⟨v,e1,hv⟩:=cz (rnd:=HA M) l.length (fun i (b:pz)=>⟨l,(l.length:Int),(i:Int),⟨0,0,0⟩,b⟩) (fun i b=>b=M3 (qN MO (dw (l.take i)))) (fun i bb hi hb=>by
  have hw:=fq hi hl
  obtain⟨k1,k2⟩:=hM _ (aR hi)
  obtain⟨⟨c1,c2⟩,hN,_,_,o1,o2⟩:=mW ho _ (aR hi)
  obtain⟨x1,x2,x3⟩:=qe (Dl i ho)
  obtain⟨a1,a2,a3⟩:=qe o1
  obtain⟨b1,b2,b3⟩:=qe o2
  refine⟨M3 (qN MO (dw (l.take (i+1)))),?_,rfl⟩
  have hi1:(i:Int)<(l.length:Int):=by omega
  have hi0:(0:Int)<=(i:Int):=by omega
  rw[bA hi,Jk]
  generalize dw (l.take i)=x at*
  generalize dw l[i]!.aG=a at*
  generalize dw l[i]!.aJ=b at*
  obtain⟨X1,X2,X3⟩:=x
  obtain⟨A1,A2,A3⟩:=a
  obtain⟨B1,B2,B3⟩:=b
  have hb:bb=⟨min X1 1099511627776,min X2 1099511627776,min X3 1099511627776⟩:=hb
  have k1:M l[i]!.aG=O ⟨min A1 1099511627776,min A2 1099511627776,min A3 1099511627776⟩:=k1
  have k2:M l[i]!.aJ=O ⟨min B1 1099511627776,min B2 1099511627776,min B3 1099511627776⟩:=k2
  subst hb
  have z0:(0:Int)<=1099511627776:=by decide
  have z1:(1099511627776:Int)<=1099511627776:=by decide
  dsimp only at x1 x2 x3 a1 a2 a3 b1 b2 b3
  unfold HA
  dsimp only
  simp only[za,hi1,hi0,decide_true,cond_true,and_self,if_true,k1,k2,hw]
  by_cases h1:l[i]!.bH=1
  ·have e:DE l[i]! (A1,A2,A3) (B1,B2,B3)=(1,1,l[i]!.aL):=by unfold DE;rw[if_pos h1]
   rw[decide_eq_true h1,cond_true,e,jq,jq,jq,KT z0 z1 x1 (by omega) (by omega),KT z0 z1 x2 (by omega) (by omega),KT z0 z1 x3 c1 c2]
   rfl
  ·rw[decide_eq_false h1,cond_false]
   by_cases h3:l[i]!.bH=3
   ·have e:DE l[i]! (A1,A2,A3) (B1,B2,B3)=(1+max A1 B1,max A2 B2,l[i]!.aL+max A3 B3):=by unfold DE;rw[if_neg h1,if_pos h3]
    rw[decide_eq_true h3,cond_true,e,MN,MN,MN,jq,jq,jq,RR z0 z1 x1 (by omega) (by omega) (by omega),ae2 z0 z1 x2 (by omega),RR z0 z1 x3 (by omega) c1 c2]
    rfl
   ·rw[decide_eq_false h3,cond_false]
    by_cases h4:l[i]!.bH=4
    ·obtain⟨n1,n2⟩:=hN h4
     have e:DE l[i]! (A1,A2,A3) (B1,B2,B3)=(1+l[i]!.fN*(1+A1),l[i]!.fN*A2,l[i]!.fN*(l[i]!.aL+A3)):=by unfold DE;rw[if_neg h1,if_neg h3,if_pos h4]
     rw[decide_eq_true h4,cond_true,e,jq,jq,jq,afK z0 z1 x1 n1 n2 a1,agj z0 z1 x2 n1 n2 a2,apw z0 z1 x3 n1 n2 a3 c1 c2]
     rfl
    ·have e:DE l[i]! (A1,A2,A3) (B1,B2,B3)=(1,0,l[i]!.aL):=by unfold DE;rw[if_neg h1,if_neg h3,if_neg h4]
     rw[decide_eq_false h4,cond_false,e,jq,jq,jq,KT z0 z1 x1 (by omega) (by omega),KT z0 z1 x2 (by omega) (by omega),KT z0 z1 x3 c1 c2]
     rfl) (fun b _=>by unfold HA;simp) (b:=⟨0,0,0⟩) (by rw[xx,show dw []=(0,0,0)by rw[dw]];rfl)
 have e1':HH M ⟨l,(l.length:Int),0,⟨0,0,0⟩,⟨0,0,0⟩⟩=O ⟨l,(l.length:Int),(l.length:Int),⟨0,0,0⟩,v⟩:=e1
 unfold aar
 rw[e1']
 rw[zG]at hv
 rw[hv]
 simp
theorem Gu:∀(n:Nat) (l:List GStep),SizeOf.sizeOf l<n->ew l<=1000->uZ l->Nq n l=O (M3 (qN MO (dw l)))
 |0,_,h,_,_=>by omega
 |n+1,l,h,h2,ho=>acy (Nq n) l (by have:=iY l;omega) ho (fun s hs=>⟨Gu n _ (by have:=aQ hs;omega) (by have:=fk hs;omega) (mW ho s hs).2.2.2.2.1,Gu n _ (by have:=aQ hs;omega) (by have:=fk hs;omega) (mW ho s hs).2.2.2.2.2⟩)
theorem Zk(l:List GStep)(h:ew l<=1000)(ho:uZ l):UW l=O (M3 (qN MO (dw l))):=dy (SizeOf.sizeOf l+1) fun n hn=>Gu n l (by omega) h ho
theorem ajI(M:List GStep->Option IM)(l:List GStep)(hl:l.length<=1000000)(ho:uZ l)(hM:∀s∈l,M s.aG=O (qN GM (dw s.aG))/\M s.aJ=O (qN GM (dw s.aJ))):s90 M l=O (qN GM (dw l)):=by
 obtain⟨v,e1,hv⟩:=cz (rnd:=PK M) l.length (fun i (b:Int×Int×Int)=>⟨l,b.1,b.2.1,b.2.2,(i:Int)⟩) (fun i b=>b=qN GM (dw (l.take i))) (fun i bb hi hb=>by
  have hw:=fq hi hl
  obtain⟨k1,k2⟩:=hM _ (aR hi)
  obtain⟨⟨c1,c2⟩,hN,hT,hE,o1,o2⟩:=mW ho _ (aR hi)
  obtain⟨x1,x2,x3⟩:=qe (Dl i ho)
  obtain⟨a1,a2,a3⟩:=qe o1
  obtain⟨b1,b2,b3⟩:=qe o2
  have zT:l[i]!.bH≠3->l[i]!.bH≠4->dw l[i]!.aG=(0,0,0):=fun h3 h4=>by rw[hT h3 h4,dw]
  have zE:l[i]!.bH≠3->dw l[i]!.aJ=(0,0,0):=fun h3=>by rw[hE h3,dw]
  refine⟨qN GM (dw (l.take (i+1))),?_,rfl⟩
  have hi1:(i:Int)<(l.length:Int):=by omega
  have hi0:(0:Int)<=(i:Int):=by omega
  rw[bA hi,Jk]
  generalize dw (l.take i)=x at*
  generalize dw l[i]!.aG=a at*
  generalize dw l[i]!.aJ=b at*
  obtain⟨X1,X2,X3⟩:=x
  obtain⟨A1,A2,A3⟩:=a
  obtain⟨B1,B2,B3⟩:=b
  have hb:bb=(min X1 4097,min X2 9,min X3 67108865):=hb
  have k1:M l[i]!.aG=O (min A1 4097,min A2 9,min A3 67108865):=k1
  have k2:M l[i]!.aJ=O (min B1 4097,min B2 9,min B3 67108865):=k2
  subst hb
  have z0:(0:Int)<=4097:=by decide
  have z1:(4097:Int)<=1099511627776:=by decide
  have y0:(0:Int)<=9:=by decide
  have y1:(9:Int)<=1099511627776:=by decide
  have u0:(0:Int)<=67108865:=by decide
  have u1:(67108865:Int)<=1099511627776:=by decide
  dsimp only at x1 x2 x3 a1 a2 a3 b1 b2 b3
  unfold PK
  dsimp only
  simp only[za,hi1,hi0,decide_true,cond_true,and_self,if_true,k1,k2,hw,qv,mD,ajM,aaZ]
  by_cases h4:l[i]!.bH=4
  ·obtain⟨n1,n2⟩:=hN h4
   have h1:¬l[i]!.bH=1:=by omega
   have h3:¬l[i]!.bH=3:=by omega
   have e:DE l[i]! (A1,A2,A3) (B1,B2,B3)=(1+l[i]!.fN*(1+A1),l[i]!.fN*A2,l[i]!.fN*(l[i]!.aL+A3)):=by unfold DE;rw[if_neg h1,if_neg h3,if_pos h4]
   rw[decide_eq_true h4,decide_eq_false h1,cond_true,cond_false,e,afK z0 z1 x1 n1 n2 a1,agj y0 y1 x2 n1 n2 a2,apw u0 u1 x3 n1 n2 a3 c1 c2]
   rfl
  ·rw[decide_eq_false h4,cond_false]
   by_cases h1:l[i]!.bH=1
   ·have h3:¬l[i]!.bH=3:=by omega
    have ea:=zT h3 h4
    have eb:=zE h3
    cases ea
    cases eb
    have e:DE l[i]! (0,0,0) (0,0,0)=(1,1,l[i]!.aL):=by unfold DE;rw[if_pos h1]
    rw[decide_eq_true h1,cond_true,e,RR z0 z1 x1 (by omega) (by omega) (by omega),KT y0 y1 x2 (by omega) (by omega),RR u0 u1 x3 (by omega) c1 c2]
    simp only[qN,GM,IY,Int.max_self,Int.add_zero]
   ·rw[decide_eq_false h1,cond_false,RR z0 z1 x1 (by omega) (by omega) (by omega),ae2 y0 y1 x2 (by omega),RR u0 u1 x3 (by omega) c1 c2]
    by_cases h3:l[i]!.bH=3
    ·have e:DE l[i]! (A1,A2,A3) (B1,B2,B3)=(1+max A1 B1,max A2 B2,l[i]!.aL+max A3 B3):=by unfold DE;rw[if_neg h1,if_pos h3]
     rw[e]
     rfl
    ·have ea:=zT h3 h4
     have eb:=zE h3
     cases ea
     cases eb
     have e:DE l[i]! (0,0,0) (0,0,0)=(1,0,l[i]!.aL):=by unfold DE;rw[if_neg h1,if_neg h3,if_neg h4]
     rw[e]
     simp only[qN,GM,IY,Int.max_self,Int.add_zero]) (fun b _=>by unfold PK;simp) (b:=(0,0,0)) (by rw[xx,show dw []=(0,0,0)by rw[dw]];rfl)
 have e1':Pd M ⟨l,0,0,0,0⟩=O ⟨l,v.1,v.2.1,v.2.2,(l.length:Int)⟩:=e1
 unfold s90
 rw[e1']
 rw[zG]at hv
 rw[hv]
 simp
theorem KZ:∀(n:Nat) (l:List GStep),SizeOf.sizeOf l<n->ew l<=1000->uZ l->m90 n l=O (qN GM (dw l))
 |0,_,h,_,_=>by omega
 |n+1,l,h,h2,ho=>ajI (m90 n) l (by have:=iY l;omega) ho (fun s hs=>⟨KZ n _ (by have:=aQ hs;omega) (by have:=fk hs;omega) (mW ho s hs).2.2.2.2.1,KZ n _ (by have:=aQ hs;omega) (by have:=fk hs;omega) (mW ho s hs).2.2.2.2.2⟩)
theorem VT(l:List GStep)(h:ew l<=1000)(ho:uZ l):r90 l=O (qN GM (dw l)):=dy (SizeOf.sizeOf l+1) fun n hn=>KZ n l (by omega) h ho
theorem XW(f:Flat)(h:ew f.bk+iM (f.ai.map (·.ay))<=900)(hh:f.ai.length<=1000000)(hvl:f.ag.length<=1000000):abW f=O (wW f):=by
 obtain⟨r,q,e1,e2,e3⟩:=acg f h hh
 unfold abW wW
 rw[e1]
 dsimp only
 rw[e2]
 dsimp only
 rw[decide_eq_false (show ¬((f.ai.length:Int)<(f.ai.length:Int))by omega),cond_false,uo,e3]
 unfold pK
 generalize (f.ai.all fun h=>wF (dT h.ay<=12))=x
 generalize wF (iL f.bk<=12)=y
 generalize ei f.bk=z
 by_cases h1:64<(f.ag.length:Int)
 ·simp[h1,show ¬f.ag.length<=64 by omega]
 by_cases h2:8<(f.ai.length:Int)
 ·simp[h1,h2,show ¬f.ai.length<=8 by omega]
 rw[decide_eq_false h1,decide_eq_false h2,decide_eq_true (show f.ag.length<=64 by omega),decide_eq_true (show f.ai.length<=8 by omega)]
 dsimp only[cond_false,xF]
 simp only[xF]
 cases hx:(x&&y&& !z)with
 |false=>rfl
 |true=>
  rw[aaA f.ag hvl]
  dsimp only[Bool.not_true,cond_false]
  rw[if_neg (by decide)]
  by_cases hvc:jv f.ag=0
  case neg=>simp[hvc]
  have hv:cJ f.ag:=by
   apply lG
   unfold jv at hvc
   by_cases h0:bY (kU f.ag) f.ag 0=0
   ·exact h0
   ·rw[if_pos h0]at hvc;exact absurd hvc h0
  rw[decide_eq_true hvc,cond_true,cond_false,if_neg (by simpa using hvc),adx f hv hh]
  dsimp only
  by_cases hhc:bY (kf f) f.ai 0=0
  case neg=>simp[hhc]
  rw[decide_eq_true hhc,cond_true,cond_false,if_neg (by simpa using hhc),aa6 f hv f.bk wE (by omega)]
  dsimp only
  by_cases hsc:bI f wE f.bk=0
  case neg=>simp[hsc]
  have ho:uZ f.bk:=vF f _ f.bk wE (zn _) hsc
  rw[decide_eq_true hsc,cond_true,cond_false,if_neg (by simpa using hsc)]
  have e:=Zk f.bk (by omega) ho
  unfold Q6
  generalize dw f.bk=u at e ⊢
  obtain⟨a,b,c⟩:=u
  have e:UW f.bk=O ⟨min a 1099511627776,min b 1099511627776,min c 1099511627776⟩:=e
  rw[e]
  dsimp only
  by_cases a1:4096<a
  ·simp[a1,show 4096<min a 1099511627776 by omega]
  ·by_cases b1:8<b
   ·simp[a1,b1,show ¬4096<min a 1099511627776 by omega,show 8<min b 1099511627776 by omega]
   ·by_cases d1:67108864<c
    ·simp[a1,b1,d1,show ¬4096<min a 1099511627776 by omega,show ¬8<min b 1099511627776 by omega,show 67108864<min c 1099511627776 by omega]
    ·simp[a1,b1,d1,show ¬4096<min a 1099511627776 by omega,show ¬8<min b 1099511627776 by omega,show ¬67108864<min c 1099511627776 by omega]
theorem NL(f:Flat)(h:ew f.bk+iM (f.ai.map (·.ay))<=900)(hh:f.ai.length<=1000000)(hvl:f.ag.length<=1000000):m78 f=O (wW f):=by
 unfold m78 wW
 rw[Zw f h hh]
 dsimp only
 cases hx:pK f with
 |false=>rfl
 |true=>
  rw[abw f.ag hvl]
  dsimp only[cond_true,cond_false]
  rw[if_neg (by decide)]
  by_cases hvc:jv f.ag=0
  case neg=>simp[hvc]
  have hv:cJ f.ag:=by
   apply lG
   unfold jv at hvc
   by_cases h0:bY (kU f.ag) f.ag 0=0
   ·exact h0
   ·rw[if_pos h0]at hvc;exact absurd hvc h0
  obtain⟨i,e1,hc⟩:=WU f hv hh
  rw[decide_eq_true hvc,cond_true,cond_false,if_neg (by simpa using hvc),e1]
  dsimp only
  rcases hc with ⟨rfl,hc⟩|⟨hi,h0,hc⟩
  ·rw[if_neg (show ¬(bY (kf f) f.ai 0≠0)by rw[hc];simp),decide_eq_false (show ¬((f.ai.length:Int)<(f.ai.length:Int))by omega),cond_false,acN f hv f.bk wE (by omega)]
   dsimp only
   by_cases hsc:bI f wE f.bk=0
   case neg=>simp[hsc]
   have ho:uZ f.bk:=vF f _ f.bk wE (zn _) hsc
   rw[decide_eq_true hsc,cond_true,cond_false,if_neg (show ¬(bI f wE f.bk≠0)by rw[hsc];simp)]
   have e:=VT f.bk (by omega) ho
   unfold Q6
   generalize dw f.bk=u at e ⊢
   obtain⟨a,b,c⟩:=u
   have e:r90 f.bk=O (min a 4097,min b 9,min c 67108865):=e
   rw[e]
   dsimp only
   by_cases a1:4096<a
   ·simp[a1,show 4096<min a 4097 by omega]
   ·by_cases b1:8<b
    ·simp[a1,b1,show ¬4096<min a 4097 by omega,show 8<min b 9 by omega]
    ·by_cases d1:67108864<c
     ·simp[a1,b1,d1,show ¬4096<min a 4097 by omega,show ¬8<min b 9 by omega,show 67108864<min c 67108865 by omega]
     ·simp[a1,b1,d1,show ¬4096<min a 4097 by omega,show ¬8<min b 9 by omega,show ¬67108864<min c 67108865 by omega]
  ·obtain⟨j,h2,h3⟩:=IJ f hh i (by omega) f.ai[i]!
   rw[if_pos (show bY (kf f) f.ai 0≠0 by rw[hc];exact h0),hc]
   have hi1:(i:Int)<(f.ai.length:Int):=by omega
   have hi0:(0:Int)<=(i:Int):=by omega
   revert h0
   unfold kf
   simp only[za,aq.eta,cA.eta,A4,Au,h2,AX f.ag hv,hi0,hi1,and_self,if_true,decide_true,cond_true]
   generalize gY f.ai[i]!.fName=B
   generalize ((f.ai.take i).any fun w=>w.fName.toList==f.ai[i]!.fName.toList)=A at h3
   generalize fX f.ai[i]!.aa f.ai[i]!.af=C
   generalize di f.ag wE f.ai[i]!.ay=T
   rcases h3 with ⟨rfl,rfl⟩|⟨hj,h4,rfl⟩
   ·cases B<;>cases C<;>by_cases hT:T=0<;>simp[hT]
   ·have hj1:(j:Int)<(i:Int):=by omega
    have hj2:(j:Int)<(f.ai.length:Int):=by omega
    have hj0:(0:Int)<=(j:Int):=by omega
    simp only[hj0,hj1,hj2,h4,and_self,if_true,decide_true,cond_true]
    cases B<;>simp
theorem ua{f:Flat}(h:wW f=0):cJ f.ag:=by
 unfold wW at h
 by_cases h1:pK f=wD
 ·rw[if_pos h1]at h;exact absurd h (by decide)
 rw[if_neg h1]at h
 by_cases hvc:jv f.ag=0
 ·apply lG
  unfold jv at hvc
  by_cases h0:bY (kU f.ag) f.ag 0=0
  ·exact h0
  ·rw[if_pos h0]at hvc;exact absurd hvc h0
 ·rw[if_pos hvc]at h;exact absurd h hvc
end Go.Proofs.YtnfljbehcffmcaaGreat
end
noncomputable section
namespace Go.Proofs.YtnfljbehcffmcaaGreat
open Go Go.Iv
structure CS where
 vals:List Int
 outs:List Int
 time:Int
theorem fe{f:Flat}{top:Bool}{x:GStep}{l:List GStep}(h:bI f top (x::l)=0):nP f (top&&l.isEmpty) x=0/\bI f wD x.aG=0/\bI f wD x.aJ=0/\bI f top l=0:=by
 rw[bI]at h
 split at h
 ·exact absurd h ‹_›
 rename_i h1
 split at h
 ·exact absurd h ‹_›
 rename_i h2
 split at h
 ·exact absurd h ‹_›
 rename_i h3
 exact⟨by simpa using h1,by simpa using h2,by simpa using h3,h⟩
structure Rk (f:Flat) (last:Bool) (x:GStep):Prop where
 do_:0<=x.bH/\x.bH<=6
 cost:0<=x.aL/\x.aL<=67108864
 n4:x.bH=4->0<=x.fN/\x.fN<=4096
 var:x.bH=0\/x.bH=5->0<=x.cG/\x.cG<f.ag.length
 n5:x.bH=5->0<=x.fN/\x.fN<f.ai.length
 OI:x.bH=6->last=wE/\(1<=x.aH.length/\x.aH.length<=32)/\(0:Int)<=x.aH[0]!/\eB x.aH=wE/\x.aH[x.aH.length-1]!<=67108864
 term:di f.ag wD x.ay=0
theorem kK{f:Flat}{last:Bool}{x:GStep}(h:nP f last x=0):Rk f last x:=by
 unfold nP at h
 by_cases h1:cK f x last=wD
 ·rw[if_pos h1]at h;cases h
 rw[if_neg h1]at h
 by_cases h2:sI x=wD
 ·rw[if_pos h2]at h;cases h
 rw[if_neg h2]at h
 have h1:cK f x last=wE:=by simpa using h1
 have h2:sI x=wE:=by simpa using h2
 unfold sI at h2
 simp only[ze,decide_eq_true_eq]at h2
 obtain⟨⟨g1,g2⟩,g3⟩:=h2
 unfold cK rN at h1
 dsimp only at h1
 have hd:0<=x.bH/\x.bH<=6:=by
  by_cases a0:x.bH=0
  ·omega
  by_cases a1:x.bH=1
  ·omega
  by_cases a2:x.bH=2
  ·omega
  by_cases a3:x.bH=3
  ·omega
  by_cases a4:x.bH=4
  ·omega
  by_cases a5:x.bH=5
  ·omega
  by_cases a6:x.bH=6
  ·omega
  ·simp[a0,a1,a2,a3,a4,a5,a6]at h1
 refine⟨hd,⟨g1.1,?_⟩,fun q=> ?_,fun q=> ?_,fun q=> ?_,fun q=> ?_,h⟩
 ·have:=g1.2
  split at this<;>omega
 ·rw[if_pos q]at g2
  simpa using g2
 ·rcases q with q|q
  ·simp[q]at h1;omega
  ·simp[q]at h1;omega
 ·simp[q]at h1;omega
 ·rw[if_pos q]at g3
  simp only[q,Int.reduceEq,if_true,if_false,ze,decide_eq_true_eq]at h1 g3
  exact⟨h1.1.1.1.1.2,h1.2.1.1,h1.2.1.2,h1.2.2,g3⟩
theorem O7(x:GStep)(l:List GStep):dw (x::l)=
  (if x.bH=1 then(1+(dw l).1,1+(dw l).2.1,x.aL+(dw l).2.2)
   else if x.bH=3 then(1+max (dw x.aG).1 (dw x.aJ).1+(dw l).1,max (dw x.aG).2.1 (dw x.aJ).2.1+(dw l).2.1,x.aL+max (dw x.aG).2.2 (dw x.aJ).2.2+(dw l).2.2)
   else if x.bH=4 then(1+x.fN*(1+(dw x.aG).1)+(dw l).1,x.fN*(dw x.aG).2.1+(dw l).2.1,x.fN*(x.aL+(dw x.aG).2.2)+(dw l).2.2)
   else(1+(dw l).1,(dw l).2.1,x.aL+(dw l).2.2)):=by rw[dw]
theorem eF(f:Flat):∀(n:Nat) (l:List GStep) (top:Bool),SizeOf.sizeOf l<n->bI f top l=0->0<=(dw l).2.1/\0<=(dw l).2.2
 |0,_,_,h,_=>by omega
 |n+1,[],_,_,_=>by rw[dw];exact⟨zk _,zk _⟩
 |n+1,x::l,top,h,hc=>by
  obtain⟨h1,h2,h3,h4⟩:=fe hc
  have ho:=kK h1
  have hs:=aQ (zg (a:=x) (l:=l))
  have ht:=cP x l
  have i1:=eF f n x.aG wD (by omega) h2
  have i2:=eF f n x.aJ wD (by omega) h3
  have i3:=eF f n l top (by omega) h4
  have hcost:=ho.cost
  rw[O7]
  by_cases a1:x.bH=1
  ·rw[if_pos a1];dsimp only;omega
  by_cases a3:x.bH=3
  ·rw[if_neg a1,if_pos a3];dsimp only;omega
  by_cases a4:x.bH=4
  ·rw[if_neg a1,if_neg a3,if_pos a4]
   have hn:=ho.n4 a4
   have p1:=zo hn.1 i1.1
   have p2:=zo hn.1 (show 0<=x.aL+(dw x.aG).2.2 by omega)
   dsimp only
   omega
  ·rw[if_neg a1,if_neg a3,if_neg a4];dsimp only;omega
structure Aft (vars:List aN) (s r:CS) (o t:Int):Prop where
 vals:VIn vars r.vals
 outs:(s.outs.length:Int)<=r.outs.length/\(r.outs.length:Int)<=s.outs.length+o
 time:s.time<=r.time/\r.time<=s.time+t
def uO(x:GStep):Int×Int:=if x.bH=1 then(1,x.aL)else if x.bH=3 then(max (dw x.aG).2.1 (dw x.aJ).2.1,x.aL+max (dw x.aG).2.2 (dw x.aJ).2.2)
 else if x.bH=4 then(x.fN*(dw x.aG).2.1,x.fN*(x.aL+(dw x.aG).2.2))else(0,x.aL)
theorem adp(x:GStep)(l:List GStep):(dw (x::l)).2.1=(uO x).1+(dw l).2.1/\(dw (x::l)).2.2=(uO x).2+(dw l).2.2:=by
 rw[O7]
 unfold uO
 split
 ·exact⟨rfl,rfl⟩
 split
 ·exact⟨rfl,rfl⟩
 split
 ·exact⟨rfl,rfl⟩
 ·refine⟨?_,rfl⟩
  dsimp only
  omega
theorem QX{l:List Int}(h:eB l=wE):∀{i j:Nat},i<j->j<l.length->l[i]! <l[j]! :=by
 intro i j hij hj
 induction j with
 |zero=>omega
 |succ j ih=>
  have h1:=(iK l).1 h j hj
  by_cases hi:i=j
  ·subst hi;exact h1
  ·have:=ih (by omega) (by omega)
   omega
structure Bud (f:Flat) (top:Bool) (l:List GStep) (s:CS):Prop where
 hc:bI f top l=0
 vals:VIn f.ag s.vals
 t0:0<=s.time
 t:s.time+(dw l).2.2<=134217728
 o:(s.outs.length:Int)+(dw l).2.1<=8
structure awU (f:Flat) (x:GStep) (n:Nat) (s:CS):Prop where
 hc:bI f wD x.aG=0
 term:di f.ag wD x.ay=0
 cost:0<=x.aL
 vals:VIn f.ag s.vals
 t0:0<=s.time
 t:s.time+n*(x.aL+(dw x.aG).2.2)<=134217728
 o:(s.outs.length:Int)+n*(dw x.aG).2.1<=8
theorem drop_cons{α:Type}[Inhabited α]{l:List α}{i:Nat}(h:i<l.length):l.drop i=l[i]! ::l.drop (i+1):=by rw[getElem!_pos l i h];exact xJ h
theorem uv{x:GStep}{l:List GStep}(hx:x∈l):ew x.aG<=ew l/\ew x.aJ<=ew l:=by have:=AS hx;have:=nr x;omega
theorem tq{f:Flat}{x:GStep}:∀{top:Bool} {l:List GStep},bI f top l=0->x∈l->∃last,Rk f last x
 |_,[],_,h=>by cases h
 |_,y::l,hc,h=>by
  obtain⟨h1,h2,h3,h4⟩:=fe hc
  rcases zu.1 h with rfl|h
  ·exact⟨_,kK h1⟩
  ·exact tq h4 h
def iD(n:Nat)(g:Nat->aD):List aD:=(zJ n).map g
theorem dF(n:Nat)(g:Nat->aD):(iD n g).length=n:=by simp[iD]
theorem jJ{n:Nat}{g:Nat->aD}{i:Nat}(h:i<n):(iD n g)[i]! =g i:=by
 rw[getElem!_pos _ i (by rw[dF];exact h)]
 simp[iD]
theorem oc(n:Nat)(g:Nat->aD):iD (n+1) g=iD n g++[g n]:=by simp[iD,List.range_succ]
theorem gq{n:Nat}{g g':Nat->aD}(h:∀i,i<n->g i=g' i):iD n g=iD n g':=
 zQ fun i hi=>h i (List.mem_range.1 hi)
theorem E8{n:Nat}{g:Nat->aD}{i:Nat}(x:aD):(iD n g).set i x=iD n (fun j=>if j=i then x else g j):=by
 apply List.ext_getElem
 ·simp[iD]
 ·intro j h1 h2
  simp only[iD,List.getElem_set,yx,List.getElem_range]
  by_cases c:i=j
  ·subst c;simp
  ·rw[if_neg c,if_neg (fun e=>c e.symm)]
theorem Wz(l:List aD):iD l.length (fun i=>l[i]!)=l:=by
 apply List.ext_getElem
 ·simp[iD]
 ·intro j h1 h2
  simp only[iD,yx,List.getElem_range]
  exact getElem!_pos l j h2
theorem Lr{n:Nat}{g:Nat->aD}{l:List aD}(h1:l.length=n)(h2:∀i,i<n->g i=l[i]!):iD n g=l:=by
 subst h1
 rw[gq h2,Wz]
def tr(s:aj):aB:=⟨s.ag,s.au,s.ax,s.aA⟩
structure cI (n m:Nat) (s:aj):Prop where
 len:s.ag.length=n
 vars:∀i,i<n->NN s.ag[i]!
 count:NN s.au
 sl:s.ax.length<=m
 slots:∀i,i<s.ax.length->NN s.ax[i]!
 time:NN s.aA
theorem cI.weak{n m m':Nat}{s:aj}(h:cI n m s)(k:m<=m'):cI n m' s:=⟨h.len,h.vars,h.count,zy h.sl k,h.slots,h.time⟩
def ek(s:aj)(c:Int):aj:=⟨s.ag,s.au,s.ax,jb 8 s.aA (cR c)⟩
def Hj(f:Flat)(s:aj)(v:Int)(n:aD):aj:=⟨s.ag.set v.toNat (fo n f.ag[v.toNat]!.aa f.ag[v.toNat]!.af),s.au,s.ax,s.aA⟩
def DH(s:aj)(v:aD):aj:=
 ⟨s.ag,jb 8 s.au (cR 1),iD s.ax.length (fun k=>if bQ s.au k=wE then bJ s.ax[k]! v else s.ax[k]!)++[v],s.aA⟩
def KK(a b:List aD)(i:Nat):aD:=if a.length<=i then b[i]! else if b.length<=i then a[i]! else bJ a[i]! b[i]!
def iE(a b:aj):aj:=
 ⟨iD a.ag.length (fun i=>bJ a.ag[i]! b.ag[i]!),bJ a.au b.au,iD (max a.ax.length b.ax.length) (KK a.ax b.ax),bJ a.aA b.aA⟩
theorem iw{c:Int}(h:bO c):NN (cR c):=NN.one h.1 h.2
theorem gL{n m:Nat}{s:aj}(h:cI n m s){c:Int}(hc:bO c):cI n m (ek s c):=
 ⟨h.len,h.vars,h.count,h.sl,h.slots,let ⟨_,_,_,k⟩:=mJ 8 h.time (iw hc);k⟩
theorem Pj{f:Flat}{n m:Nat}{s:aj}(h:cI n m s){v:Int}{x:aD}(hx:NN x):cI n m (Hj f s v x):=by
 refine⟨?_,fun i hi=> ?_,h.count,h.sl,h.slots,h.time⟩
 ·show (s.ag.set _ _).length=n
  rw[yB];exact h.len
 ·show NN (s.ag.set _ _)[i]!
  have hl:=h.len
  rw[getElem!_pos _ i (by rw[yB];omega),List.getElem_set]
  split
  ·exact let ⟨_,_,_,k,_⟩:=fE hx f.ag[v.toNat]!.aa f.ag[v.toNat]!.af;k
  ·have:=h.vars i hi
   rw[getElem!_pos _ i (by omega)]at this
   exact this
theorem aac{n m:Nat}{s:aj}(h:cI n m s){x:aD}(hx:NN x):cI n (m+1) (DH s x):=by
 have hs:=h.sl
 have hl:(DH s x).ax.length=s.ax.length+1:=by simp[DH,dF]
 refine⟨h.len,h.vars,let ⟨_,_,_,k⟩:=mJ 8 h.count (iw (c:=1) ⟨by decide,by decide⟩);k,by omega,fun i hi=> ?_,h.time⟩
 rw[hl]at hi
 have hlt:=dF s.ax.length (fun k=>if bQ s.au k=wE then bJ s.ax[k]! x else s.ax[k]!)
 show NN (iD s.ax.length (fun k=>if bQ s.au k=wE then bJ s.ax[k]! x else s.ax[k]!)++[x])[i]!
 by_cases c:i<s.ax.length
 ·have hg:=jJ (g:=(fun k=>if bQ s.au k=wE then bJ s.ax[k]! x else s.ax[k]!)) c
  generalize iD s.ax.length (fun k=>if bQ s.au k=wE then bJ s.ax[k]! x else s.ax[k]!)=T at*
  rw[getElem!_pos _ i (by rw[zh];omega),List.getElem_append_left (by omega),<-getElem!_pos T i (by omega),hg]
  split
  ·exact iI (h.slots i c) hx
  ·exact h.slots i c
 ·generalize iD s.ax.length (fun k=>if bQ s.au k=wE then bJ s.ax[k]! x else s.ax[k]!)=T at*
  rw[getElem!_pos _ i (by rw[zh,yj];omega),List.getElem_append_right (by omega)]
  simpa using hx
theorem akG{a b:List aD}(ha:∀i,i<a.length->NN a[i]!)(hb:∀i,i<b.length->NN b[i]!){i:Nat}(hi:i<max a.length b.length):NN (KK a b i):=by
 unfold KK
 split
 ·exact hb i (by omega)
 split
 ·exact ha i (by omega)
 ·exact iI (ha i (by omega)) (hb i (by omega))
theorem ux{n m:Nat}{s t:aj}(h:cI n m s)(k:cI n m t):cI n m (iE s t):=by
 have h1:=h.len
 have h2:=h.sl
 have k2:=k.sl
 refine⟨by show (iD _ _).length=n;rw[dF];exact h1,fun i hi=> ?_,iI h.count k.count,by show (iD _ _).length<=m;rw[dF];omega,fun i hi=> ?_,iI h.time k.time⟩
 ·show NN (iD _ _)[i]!
  rw[jJ (by omega)]
  exact iI (h.vars i hi) (k.vars i hi)
 ·have hi:i<(iD (max s.ax.length t.ax.length) (KK s.ax t.ax)).length:=hi
  rw[dF]at hi
  show NN (iD _ _)[i]!
  rw[jJ hi]
  exact akG h.slots k.slots hi
end Go.Proofs.YtnfljbehcffmcaaGreat
end
noncomputable section
namespace Go.Proofs.YtnfljbehcffmcaaGreat
open Go Go.Iv
open Go.IntKind (i64)
def nM(i:aD)(ks:List aD):Nat->aD
 |0=>bU
 |n+1=>if bQ i n=wE then bJ (nM i ks n) ks[n]! else nM i ks n
def JM(vars:List aD)(t:aq)(k:List aD):aD:=
 if t.aW=0 then cR t.fN else if t.aW=24 then vars[t.fN.toNat]! else if t.aW=6 then(lf 6 k[0]!).1 else if t.aW=7 then(lf 7 k[0]!).1
 else if t.aW=23 then(if bQ k[0]! 0=wD then k[1]! else if bM k[0]! =wD then k[2]! else bJ k[1]! k[2]!)
 else if t.aW=25 then nM (fo k[0]! 0 ((k.length:Int)-2)) (k.drop 1) (k.drop 1).length else jb t.aW k[0]! k[1]!
def bS(vars:List aD)(t:aq):aD:=JM vars t (t.ak.attach.map fun k=>bS vars k.1)
termination_by SizeOf.sizeOf t
decreasing_by exact aq.dh k.2
theorem FL(vars:List aD)(t:aq):bS vars t=JM vars t (t.ak.map (bS vars)):=by
 rw[bS]
 rw[show (t.ak.attach.map fun k=>bS vars k.1)=t.ak.map (bS vars)from xU (f:=bS vars)]
theorem mapA{vars:List aD}{t:aq}{i:Nat}(h:i<t.ak.length):(t.ak.map (bS vars))[i]! =bS vars t.ak[i]! :=by
 rw[getElem!_pos _ i (by simpa using h),getElem!_pos _ i h,yx]
theorem Ao{i:aD}{ks:List aD}(hk:∀j,j<ks.length->NN ks[j]!):∀n,n<=ks.length->NV (nM i ks n)/\((∃j,j<n/\bQ i (j:Nat)=wE)->NN (nM i ks n))
 |0,_=>⟨.inl rfl,fun⟨j,h,_⟩=>by omega⟩
 |n+1,hn=>by
  obtain⟨h1,h2⟩:=Ao (i:=i) hk n (by omega)
  rw[nM]
  by_cases c:bQ i (n:Nat)=wE
  ·rw[if_pos c]
   have hv:=dG h1 (.inr (hk n (by omega)))
   have:NN (bJ (nM i ks n) ks[n]!):=by
    rcases h1 with e|h
    ·rw[e,gG];exact hk n (by omega)
    ·exact iI h (hk n (by omega))
   exact⟨hv,fun _=>this⟩
  ·rw[if_neg c]
   refine⟨h1,fun⟨j,h,k⟩=>h2 ⟨j,?_,k⟩⟩
   by_cases e:j=n
   ·subst e;exact absurd k c
   ·omega
theorem DY{a:aD}(ha:NN a){n:Nat}(h0:1<=n)(hn:n<=1000000):∃j:Nat,j<n/\bQ (fo a 0 ((n:Int)-1)) (j:Nat)=wE:=by
 obtain⟨_,_,_,hv,hr⟩:=fE ha 0 ((n:Int)-1)
 have hr:=hr ⟨by decide,by decide⟩ ⟨by omega,by omega⟩ (by omega)
 rcases hr with ⟨e,_⟩|hr
 ·exact absurd e hv.ne
 ·obtain⟨x,_,h2⟩:=hr.lo
  refine⟨(fo a 0 ((n:Int)-1)).aa.toNat,by omega,?_⟩
  rw[show (((fo a 0 ((n:Int)-1)).aa.toNat:Nat):Int)=(fo a 0 ((n:Int)-1)).aa by omega]
  exact jt ⟨zk _,hv.le,by rw[Int.sub_self];exact yV _⟩
theorem p8(x:Int):Qd x=cR x:=rfl
theorem AW(x:Int):Tw x=cR x:=rfl
theorem oq{vars:List aN}{t:aq}(h:(fA vars t).isSome=wE):∀k∈t.ak,(fA vars k).isSome=wE:=fun k hk=>by
 rw[sO]at h
 cases ha:jB (t.ak.map (fA vars))with
 |none=>rw[ha]at h;cases h
 |some r=>
  have hr:=qy ha
  have hm:fA vars k∈r.map O:=by rw[<-hr];exact List.mem_map_of_mem hk
  obtain⟨s,h1,h2⟩:=zH.1 hm
  rw[<-h2];rfl
theorem YU{vars:List aN}{t:aq}(h0:t.aW=0)(h:(fA vars t).isSome=wE):bO t.fN:=by
 rw[sO]at h
 cases ha:jB (t.ak.map (fA vars))with
 |none=>rw[ha]at h;cases h
 |some r=>
  rw[ha]at h
  dsimp only at h
  split at h
  ·rename_i hl
   unfold tQ gX at hl
   simp only[h0,if_true,ze,decide_eq_true_eq]at hl
   unfold bO
   omega
  ·cases h
theorem Ts(M:aq->aj->Option pq){vars:List aD}{st:aj}{ks:List aq}(hl:ks.length<=1000000)(hK:∀j,j<ks.length->M ks[j]! st=O (bS vars ks[j]!,st)/\NN (bS vars ks[j]!)){H:aD}(hH:NN H)(z:aD):
  Hg M ⟨ks,(ks.length:Int),0,st,z,H,bU⟩=O ⟨ks,(ks.length:Int),(ks.length:Int),st,z,H,nM H (ks.map (bS vars)) ks.length⟩:=by
 have hmap:∀j,j<ks.length->(ks.map (bS vars))[j]! =bS vars ks[j]! :=fun j h=>by rw[getElem!_pos _ j (by simpa using h),getElem!_pos _ j h,yx]
 have hkn:∀j,j<(ks.map (bS vars)).length->NN (ks.map (bS vars))[j]! :=fun j h=>by
  have h:j<ks.length:=by simpa using h
  rw[hmap j h];exact(hK j h).2
 obtain⟨v,e1,hv⟩:=cz (rnd:=GO M) ks.length (fun i (_:Unit)=>⟨ks,(ks.length:Int),(i:Int),st,z,H,nM H (ks.map (bS vars)) i⟩) (fun i _=>True) (fun i b hi _=>by
  have hw:=fq hi hl
  obtain⟨k1,k2⟩:=hK i hi
  have i1:(i:Int)<(ks.length:Int):=by omega
  have i2:(0:Int)<=(i:Int):=by omega
  refine⟨(),?_,trivial⟩
  unfold GO
  by_cases hc:bQ H (i:Nat)=wE
  ·simp only[za,i1,i2,decide_true,cond_true,and_self,if_true,oU (.inr hH),hc,aq.eta,k1,mL (Ao hkn i (by simp;omega)).1 (.inr k2),hw,nM,hmap i hi]
  ·have hc:bQ H (i:Nat)=wD:=by simpa using hc
   simp only[za,i1,i2,decide_true,cond_true,cond_false,and_self,if_true,oU (.inr hH),hc,hw,nM,yD,if_false]) (fun b _=>by unfold GO;simp) (b:=()) trivial
 exact e1
theorem aiY(M:aq->aj->Option pq){vars:List aN}{inp:Bool}{m:Nat}{st:aj}(hst:cI vars.length m st)(t:aq)(hf:cC vars inp t=wE)(hs:(fA vars t).isSome=wE)
  (hM:∀k∈t.ak,M k st=O (bS st.ag k,st)/\NN (bS st.ag k)):Z4 M t st=O (bS st.ag t,st)/\NN (bS st.ag t):=by
 obtain⟨⟨g1,g2,g3⟩,h24⟩:=EN hf
 have K:∀i,i<t.ak.length->M t.ak[i]! st=O (bS st.ag t.ak[i]!,st)/\NN (bS st.ag t.ak[i]!):=fun i hi=>hM _ (aR hi)
 rw[FL]
 unfold Z4 JM
 simp only[aq.eta,zA]
 rcases Bh t.aW g1 with ⟨h,e⟩|⟨h,e⟩|⟨h,e⟩|⟨h,e⟩|⟨h,e⟩<;>rw[e]at g2 g3<;>dsimp only at g2 g3
 ·rcases h with h|h
  ·simp only[h,decide_true,cond_true,if_true,p8]
   exact⟨trivial,iw (YU h hs)⟩
  ·obtain⟨q1,q2⟩:=h24 h
   have hl:=hst.len
   simp only[h,Int.reduceEq,decide_false,decide_true,cond_true,cond_false,if_true,if_false]
   rw[fK]
   exact⟨rfl,hst.vars _ (by omega)⟩
 ·obtain⟨k1,k2⟩:=K 0 (by omega)
  have m0:=mapA (vars:=st.ag) (show 0<t.ak.length by omega)
  have i1:(t.ak.length:Int)=1:=by omega
  rcases h with h|h
  ·simp only[h,Int.reduceEq,decide_false,decide_true,cond_true,cond_false,i1,if_true,if_false,k1,m0,and_self,P9 (.inr k2),Int.reduceLT,Int.reduceLE,true_and]
   exact D3 _ k2
  ·simp only[h,Int.reduceEq,decide_false,decide_true,cond_true,cond_false,i1,if_true,if_false,k1,m0,and_self,P9 (.inr k2),Int.reduceLT,Int.reduceLE,true_and]
   exact D3 _ k2
 ·obtain⟨k1,k2⟩:=K 0 (by omega)
  obtain⟨l1,l2⟩:=K 1 (by omega)
  have m0:=mapA (vars:=st.ag) (show 0<t.ak.length by omega)
  have m1:=mapA (vars:=st.ag) (show 1<t.ak.length by omega)
  have hlen:(t.ak.length:Int)=2:=by omega
  obtain⟨c,hb,_,hn⟩:=mJ t.aW k2 l2
  have n0:t.aW≠0:=by omega
  have n1:t.aW≠24:=by omega
  have n2:t.aW≠6:=by omega
  have n3:t.aW≠7:=by omega
  have n4:t.aW≠23:=by omega
  have n5:t.aW≠25:=by omega
  simp only[n0,n1,n2,n3,n4,n5,decide_false,cond_false,hlen,if_false,k1,l1,hb,m0,m1,Int.reduceEq,Int.reduceLT,Int.reduceLE,and_self,if_true,true_and]
  exact hn
 ·obtain⟨k1,k2⟩:=K 0 (by omega)
  obtain⟨l1,l2⟩:=K 1 (by omega)
  obtain⟨p1,p2⟩:=K 2 (by omega)
  have m0:=mapA (vars:=st.ag) (show 0<t.ak.length by omega)
  have m1:=mapA (vars:=st.ag) (show 1<t.ak.length by omega)
  have m2:=mapA (vars:=st.ag) (show 2<t.ak.length by omega)
  have hlen:(t.ak.length:Int)=3:=by omega
  simp only[h,Int.reduceEq,decide_false,decide_true,cond_true,cond_false,hlen,if_true,if_false,k1,l1,p1,m0,m1,m2,Ap (.inr k2),mL (.inr l2) (.inr p2),Int.reduceLT,Int.reduceLE,and_self]
  cases bQ (bS st.ag t.ak[0]!) 0<;>cases bM (bS st.ag t.ak[0]!)
  ·exact⟨rfl,l2⟩
  ·exact⟨rfl,l2⟩
  ·exact⟨rfl,p2⟩
  ·exact⟨rfl,iI l2 p2⟩
 ·obtain⟨k1,k2⟩:=K 0 (by omega)
  have m0:=mapA (vars:=st.ag) (show 0<t.ak.length by omega)
  have w:i64.wrap ((t.ak.length:Int)-(2:Int))=(t.ak.length:Int)-(2:Int):=aF
  obtain⟨c,hcl,_,hcn,_⟩:=fE k2 0 ((t.ak.length:Int)-(2:Int))
  obtain⟨j,hj1,hj2⟩:=DY k2 (n:=t.ak.length-1) (by omega) (by omega)
  rw[show (((t.ak.length-1:Nat):Int)-1)=(t.ak.length:Int)-(2:Int)by omega]at hj2
  simp only[h,Int.reduceEq,decide_false,decide_true,cond_true,cond_false,if_true,if_false,k1,m0,w]
  rw[fK,hcl]
  generalize fo (bS st.ag t.ak[0]!) 0 ((t.ak.length:Int)-(2:Int))=H at*
  have hd:(t.ak.drop 1).length=t.ak.length-1:=ye ..
  have e2:=Ts M (vars:=st.ag) (st:=st) (ks:=t.ak.drop 1) (by omega) (fun j hj=>hM _ (xN (aR hj))) (H:=H) hcn ⟨0,0,0⟩
  dsimp only
  rw[fK]
  rw[show ad0=bU from rfl,e2]
  dsimp only
  rw[dZ,cond_false,<-y5,zA]
  refine⟨rfl,(Ao (fun j hj=> ?_) _ (by simp)).2 ⟨j,by omega,hj2⟩⟩
  have hj:j<(t.ak.drop 1).length:=by simpa using hj
  rw[getElem!_pos _ j (by simpa using hj),yx]
  exact(hM _ (xN (xo ..))).2
theorem BN{vars:List aN}{inp:Bool}{m:Nat}{st:aj}(hst:cI vars.length m st):∀(n:Nat) (t:aq),SizeOf.sizeOf t<n->cC vars inp t=wE->(fA vars t).isSome=wE->Ms n t st=O (bS st.ag t,st)/\NN (bS st.ag t)
 |0,_,h,_,_=>by omega
 |n+1,t,h,hf,hs=>aiY (Ms n) hst t hf hs (fun k hk=>BN hst n k (by have:=aq.dh hk;omega) (ke hf hk) (oq hs k hk))
theorem kJ{vars:List aN}{inp:Bool}{t:aq}(hc:di vars inp t=0):cC vars inp t=wE/\(fA vars t).isSome=wE:=by
 unfold di at hc
 cases hf:cC vars inp t with
 |false=>rw[hf]at hc;simp at hc
 |true=>
  rw[hf]at hc
  cases hs:(fA vars t).isSome with
  |false=>rw[hs]at hc;simp at hc
  |true=>exact⟨rfl,rfl⟩
theorem aeb(M:aB->aq->Option JU){vars:List aD}{st:aB}{t:aq}(hl:t.ak.length<=1000000)(h1:1<=t.ak.length)(hK:∀j,j<t.ak.length->M st t.ak[j]! =O (bS vars t.ak[j]!)/\NN (bS vars t.ak[j]!)){H:aD}(hH:NN H)(z:aD):
  Jw M ⟨(t.ak.length:Int)-1,0,st,t,z,H,bU⟩=O ⟨(t.ak.length:Int)-1,(t.ak.length:Int)-1,st,t,z,H,nM H ((t.ak.drop 1).map (bS vars)) (t.ak.drop 1).length⟩:=by
 have hd:(t.ak.drop 1).length=t.ak.length-1:=ye ..
 have hmap:∀j,j<t.ak.length-1->((t.ak.drop 1).map (bS vars))[j]! =bS vars t.ak[1+j]! :=fun j h=>by
  rw[getElem!_pos _ j (by simp;omega),getElem!_pos _ (1+j) (by omega),yx,xZ]
 have hkn:∀j,j<((t.ak.drop 1).map (bS vars)).length->NN ((t.ak.drop 1).map (bS vars))[j]! :=fun j h=>by
  have h:j<t.ak.length-1:=by simpa using h
  rw[hmap j h];exact(hK (1+j) (by omega)).2
 obtain⟨v,e1,hv⟩:=cz (rnd:=PO M) (t.ak.length-1) (fun i (_:Unit)=>⟨(t.ak.length:Int)-1,(i:Int),st,t,z,H,nM H ((t.ak.drop 1).map (bS vars)) i⟩) (fun i _=>True) (fun i b hi _=>by
  have hw:=fq hi (show t.ak.length-1<=1000000 by omega)
  obtain⟨k1,k2⟩:=hK (1+i) (by omega)
  have i1:(i:Int)<(t.ak.length:Int)-1:=by omega
  have i2:i64.wrap ((1:Int)+(i:Int))=((1+i:Nat):Int):=by rw[aF];omega
  have i3:(0:Int)<=((1+i:Nat):Int)/\((1+i:Nat):Int)<(t.ak.length:Int):=by omega
  refine⟨(),?_,trivial⟩
  unfold PO
  by_cases hc:bQ H (i:Nat)=wE
  ·simp only[i1,decide_true,cond_true,iQ (.inr hH),hc,i2,i3.1,i3.2,and_self,if_true,za,aq.eta,k1,e9 (Ao hkn i (by simp;omega)).1 (.inr k2),hw,nM,hmap i hi]
  ·have hc:bQ H (i:Nat)=wD:=by simpa using hc
   simp only[i1,decide_true,cond_true,cond_false,iQ (.inr hH),hc,hw,nM,yD,if_false,aq.eta]) (fun b _=>by
    unfold PO
    rw[decide_eq_false (by dsimp only;omega)]
    rfl) (b:=()) trivial
 have e1:Jw M ⟨(t.ak.length:Int)-1,((0:Nat):Int),st,t,z,H,bU⟩=_:=e1
 rw[hd]
 rw[show ((0:Nat):Int)=0 from rfl]at e1
 rw[e1,show ((t.ak.length-1:Nat):Int)=(t.ak.length:Int)-1 by omega]
theorem amQ(M:aB->aq->Option JU){vars:List aN}{inp:Bool}{m:Nat}{st:aj}(hst:cI vars.length m st)(t:aq)(hf:cC vars inp t=wE)
  (hM:∀k∈t.ak,M (tr st) k=O (bS st.ag k)/\NN (bS st.ag k)):s87 M (tr st) t=O (bS st.ag t):=by
 obtain⟨⟨g1,g2,g3⟩,h24⟩:=EN hf
 have K:∀i,i<t.ak.length->M (tr st) t.ak[i]! =O (bS st.ag t.ak[i]!)/\NN (bS st.ag t.ak[i]!):=fun i hi=>hM _ (aR hi)
 rw[FL]
 unfold s87 JM
 simp only[aq.eta,zA]
 rcases Bh t.aW g1 with ⟨h,e⟩|⟨h,e⟩|⟨h,e⟩|⟨h,e⟩|⟨h,e⟩<;>rw[e]at g2 g3<;>dsimp only at g2 g3
 ·rcases h with h|h
  ·simp only[h,decide_true,cond_true,if_true,AW]
  ·obtain⟨q1,q2⟩:=h24 h
   have hl:=hst.len
   simp only[h,Int.reduceEq,decide_false,decide_true,cond_true,cond_false,if_true,if_false]
   rw[if_pos (show (0:Int)<=t.fN/\t.fN<((tr st).ag.length:Int)from⟨q1,by show t.fN<(st.ag.length:Int);omega⟩)]
   rfl
 ·obtain⟨k1,k2⟩:=K 0 (by omega)
  have m0:=mapA (vars:=st.ag) (show 0<t.ak.length by omega)
  have i1:(t.ak.length:Int)=1:=by omega
  rcases h with h|h
  ·simp only[h,Int.reduceEq,decide_false,decide_true,cond_true,cond_false,i1,if_true,if_false,k1,m0,and_self,Oy (.inr k2),Int.reduceLT,Int.reduceLE]
  ·simp only[h,Int.reduceEq,decide_false,decide_true,cond_true,cond_false,i1,if_true,if_false,k1,m0,and_self,Oy (.inr k2),Int.reduceLT,Int.reduceLE]
 ·obtain⟨k1,k2⟩:=K 0 (by omega)
  obtain⟨l1,l2⟩:=K 1 (by omega)
  have m0:=mapA (vars:=st.ag) (show 0<t.ak.length by omega)
  have m1:=mapA (vars:=st.ag) (show 1<t.ak.length by omega)
  have hlen:(t.ak.length:Int)=2:=by omega
  obtain⟨c,_,hb,hn⟩:=mJ t.aW k2 l2
  have n0:t.aW≠0:=by omega
  have n1:t.aW≠24:=by omega
  have n2:t.aW≠6:=by omega
  have n3:t.aW≠7:=by omega
  have n4:t.aW≠23:=by omega
  have n5:t.aW≠25:=by omega
  simp only[n0,n1,n2,n3,n4,n5,decide_false,cond_false,hlen,if_false,k1,l1,hb,m0,m1,Int.reduceEq,Int.reduceLT,Int.reduceLE,and_self,if_true]
 ·obtain⟨k1,k2⟩:=K 0 (by omega)
  obtain⟨l1,l2⟩:=K 1 (by omega)
  obtain⟨p1,p2⟩:=K 2 (by omega)
  have m0:=mapA (vars:=st.ag) (show 0<t.ak.length by omega)
  have m1:=mapA (vars:=st.ag) (show 1<t.ak.length by omega)
  have m2:=mapA (vars:=st.ag) (show 2<t.ak.length by omega)
  have hlen:(t.ak.length:Int)=3:=by omega
  simp only[h,Int.reduceEq,decide_false,decide_true,cond_true,cond_false,hlen,if_true,if_false,k1,l1,p1,m0,m1,m2,ni (.inr k2),e9 (.inr l2) (.inr p2),Int.reduceLT,Int.reduceLE,and_self]
  cases bQ (bS st.ag t.ak[0]!) 0<;>cases bM (bS st.ag t.ak[0]!)<;>rfl
 ·obtain⟨k1,k2⟩:=K 0 (by omega)
  have m0:=mapA (vars:=st.ag) (show 0<t.ak.length by omega)
  have w:i64.wrap ((t.ak.length:Int)-(2:Int))=(t.ak.length:Int)-(2:Int):=aF
  have w1:i64.wrap ((t.ak.length:Int)-(1:Int))=(t.ak.length:Int)-(1:Int):=aF
  obtain⟨c,_,hcl,hcn,_⟩:=fE k2 0 ((t.ak.length:Int)-(2:Int))
  simp only[h,Int.reduceEq,decide_false,decide_true,cond_true,cond_false,if_true,if_false,k1,m0,w,w1]
  rw[fK,hcl]
  generalize fo (bS st.ag t.ak[0]!) 0 ((t.ak.length:Int)-(2:Int))=H at*
  have e2:=aeb M (vars:=st.ag) (st:=tr st) (t:=t) (by omega) (by omega) K (H:=H) hcn ⟨0,0,0⟩
  dsimp only
  rw[show oH=bU from rfl,e2]
  dsimp only
  rw[dZ,cond_false,<-y5,zA]
theorem afW{vars:List aN}{inp:Bool}{m:Nat}{st:aj}(hst:cI vars.length m st):∀(n:Nat) (t:aq),SizeOf.sizeOf t<n->cC vars inp t=wE->(fA vars t).isSome=wE->m87 n (tr st) t=O (bS st.ag t)
 |0,_,h,_,_=>by omega
 |n+1,t,h,hf,hs=>amQ (m87 n) hst t hf (fun k hk=>⟨afW hst n k (by have:=aq.dh hk;omega) (ke hf hk) (oq hs k hk),(BN hst (SizeOf.sizeOf k+1) k (by omega) (ke hf hk) (oq hs k hk)).2⟩)
theorem Oa{vars:List aN}{inp:Bool}{m:Nat}{st:aj}(hst:cI vars.length m st)(t:aq)(hc:di vars inp t=0):KS (tr st) t=O (bS st.ag t):=
 dy (SizeOf.sizeOf t+1) fun n hn=>afW hst n t (by omega) (kJ hc).1 (kJ hc).2
theorem fu{vars:List aN}{inp:Bool}{m:Nat}{st:aj}(hst:cI vars.length m st)(t:aq)(hc:di vars inp t=0):NN (bS st.ag t):=
 (BN hst (SizeOf.sizeOf t+1) t (by omega) (kJ hc).1 (kJ hc).2).2
end Go.Proofs.YtnfljbehcffmcaaGreat
end
noncomputable section
set_option maxRecDepth 100000
namespace Go.Proofs.YtnfljbehcffmcaaGreat
open Go Go.Iv
open Go.IntKind (i64)
abbrev E82:Type:=aD
def d82:Td 0 E82:= .c [] [4] (.r 0 1 (ec 4 (qp 0 0) en) (sb 0 34 (lg 34) sn) (fun z=>z.2.1) (fun x=>(((),()),(x,()))) fun _=>rfl)
def LY(a0:aj)(a1:aq):Option E82:=
 match ad3 (aq.mk a1.aW a1.fN a1.ak) a0 with|wC=>wC|O r1=>O (r1.fst)
def e82:aI->aI:=eL wG 82 wD (lc (qg 128) (lc (qg 137) ln)) d82 (fun g=>LY g.1 g.2.1)
theorem G8:EO e82:=fun h=>kL (an:= .no) func82 (Y0 aK) aC h
abbrev E40:Type:=List aD
def d40:Td 0 E40:= .c [] [2] (.t (cq.s 2 [] 34) (.c [] [2] (.r 0 1 (ec 2 (qo 0) en) (sr 0 34 sn) (fun z=>z.2.1) (fun x=>(((),()),(x,()))) fun _=>rfl)))
def A40:=(lc (ql 34) ln)
def m40(a0:List aD):Option E40:=if a0.length<=1073741824 then O a0 else wC
theorem akL:eW wG cQ 0 300 40 .no:=bV (l:=[]) func40 (bB (by kernel_rfl)) (by kernel_rfl) aC
theorem asK(x:aD)(xs:List aD):bN wG cQ 300 .no 40 [.sl 34 (x::xs)] [] 0 d40.rd=if([]++(x::xs)).length<=1073741824 then O ([]++(x::xs))else wC:=by kernel_rfl
theorem auO(c:Nat):bN wG cQ 300 .no 40 [.lit (.slice wC 0 c)] [] 0 d40.rd=O []:=by kernel_rfl
theorem ave(a:Addr)(c:Nat):bN wG cQ 300 .no 40 [.lit (.slice (O a) 0 c)] [] 0 d40.rd=O []:=by kernel_rfl
theorem h40:HL wG 40 A40 d40 (fun g=>m40 g.1):=fun g r h=>by
 obtain⟨a0,_⟩:=g
 have h:m40 a0=O r:=h
 cases a0 with
 |cons x xs=>exact(oF (out:=fun p=>jh wG 40 0 (d40.pat p)) (p:=r) aK akL d40.ok (fun p=>by kernel_rfl) (m5 (by kernel_rfl)) (kI (by kernel_rfl)) ((asK x xs).trans (by rw[z8];exact h))).2
 |nil=>
  cases h
  exact PX (fun c=>(oF (out:=fun p=>jh wG 40 0 (d40.pat p)) (p:=[]) aK akL d40.ok (fun p=>by kernel_rfl) (m5 (by kernel_rfl)) (kI (by kernel_rfl)) (auO c)).2) (fun a c=>(oF (out:=fun p=>jh wG 40 0 (d40.pat p)) (p:=[]) aK akL d40.ok (fun p=>by kernel_rfl) (m5 (by kernel_rfl)) (kI (by kernel_rfl)) (ave a c)).2)
def e40:aI->aI:=eL wG 40 wD A40 d40 (fun g=>m40 g.1)
theorem ahK{F:aI}(h:bf wG F):bf wG (e40 F):=gx (sc:=Ay) dS h40 ⟨_,func40,by kernel_rfl,by kernel_rfl⟩ (fun _=>by kernel_rfl) (fun _=>by kernel_rfl) h
abbrev anR:Type:=aj
def d235:Td 0 anR:= .c [] [2] (.r 0 3 (ec 2 (qp 0 0) en) (sb 0 128 (lc (qo 1) (lc (qi .i64) (lc (qi .i64) (lc (qi .i64) (lc (qo 2) (lc (qi .i64) (lc (qi .i64) (lc (qi .i64) ln)))))))) (sr 1 34 (sr 2 34 sn))) (fun z=>(aj.mk z.2.2.1 (aD.mk z.2.1.2.1 z.2.1.2.2.1 z.2.1.2.2.2.1) z.2.2.2.1 (aD.mk z.2.1.2.2.2.2.2.1 z.2.1.2.2.2.2.2.2.1 z.2.1.2.2.2.2.2.2.2.1))) (fun x=>(((),()),(((),x.au.aa,x.au.af,x.au.ah,(),x.aA.aa,x.aA.af,x.aA.ah,()),x.ag,x.ax,()))) fun _=>rfl)
def DC(a0:aj):Option anR:=
 match m40 a0.ag with|wC=>wC|O r1=>match m40 a0.ax with|wC=>wC|O r2=>O (aj.mk r1 a0.au r2 a0.aA)
def aij:aI->aI:=eL wG 235 wD (lc (qg 128) ln) d235 (fun g=>DC g.1)
theorem uz:EO aij:=fun h=>kL (an:= .no) func235 (ahK aK) aC h
structure oA where
 t46:List aD
 (t47 t48:Int)
 (b0 b1:aj)
def NP:Td 0 oA:= .c [] [4,5,46,47,48] (.r 0 4 (ec 4 (qp 0 0) (ec 5 (qp 1 0) (ec 46 (ql 34) (ec 47 (qi .i64) (ec 48 (qi .i64) en))))) (sb 0 128 (lc qn (lc (qi .i64) (lc (qi .i64) (lc (qi .i64) (lc qn (lc (qi .i64) (lc (qi .i64) (lc (qi .i64) ln)))))))) (sb 1 128 (lc (qo 2) (lc (qi .i64) (lc (qi .i64) (lc (qi .i64) (lc (qo 3) (lc (qi .i64) (lc (qi .i64) (lc (qi .i64) ln)))))))) (sr 2 34 (sr 3 34 sn)))) (fun z=>⟨z.1.2.2.1,z.1.2.2.2.1,z.1.2.2.2.2.1,(aj.mk [] (aD.mk z.2.1.2.1 z.2.1.2.2.1 z.2.1.2.2.2.1) [] (aD.mk z.2.1.2.2.2.2.2.1 z.2.1.2.2.2.2.2.2.1 z.2.1.2.2.2.2.2.2.2.1)),(aj.mk z.2.2.2.1 (aD.mk z.2.2.1.2.1 z.2.2.1.2.2.1 z.2.2.1.2.2.2.1) z.2.2.2.2.1 (aD.mk z.2.2.1.2.2.2.2.2.1 z.2.2.1.2.2.2.2.2.2.1 z.2.2.1.2.2.2.2.2.2.2.1))⟩) (fun x=>(((),(),x.t46,x.t47,x.t48,()),(((),x.b0.au.aa,x.b0.au.af,x.b0.au.ah,(),x.b0.aA.aa,x.b0.aA.af,x.b0.aA.ah,()),((),x.b1.au.aa,x.b1.au.af,x.b1.au.ah,(),x.b1.aA.aa,x.b1.aA.af,x.b1.aA.ah,()),x.b1.ag,x.b1.ax,()))) fun _=>rfl)
def HU(p:oA):Option (Option oA):=
 bif wF (p.t48<p.t47)then if(0:Int)<=p.t48/\p.t48<(↑p.t46.length:Int)then bif wF (p.t48<(↑p.b1.ax.length:Int))then if(0:Int)<=p.t48/\p.t48<(↑p.b1.ax.length:Int)then if 34=34/\p.t48.toNat<p.b1.ax.length then match ue p.b1.ax[p.t48.toNat]! p.t46[p.t48.toNat]! with|wC=>wC|O r2=>if(0:Int)<=p.t48/\p.t48<(↑p.b1.ax.length:Int)then if 34=34/\p.t48.toNat<p.b1.ax.length then O (O (oA.mk p.t46 p.t47 (i64.wrap (p.t48+1)) (aj.mk [] p.b0.au [] p.b0.aA) (aj.mk p.b1.ag p.b1.au (p.b1.ax.set p.t48.toNat r2) p.b1.aA)))else wC else wC else wC else wC else if(p.b1.ax++[p.t46[p.t48.toNat]!]).length<=1073741824 then O (O (oA.mk p.t46 p.t47 (i64.wrap (p.t48+1)) (aj.mk [] p.b0.au [] p.b0.aA) (aj.mk p.b1.ag p.b1.au (p.b1.ax++[p.t46[p.t48.toNat]!]) p.b1.aA)))else wC else wC else O (wC)
def Gc:oA->Option oA:=bw (HU)
structure sj where
 (t13 t14:Int)
 (b0 b1 b2:aj)
def Ld:Td 0 sj:= .c [] [3,4,5,13,14] (.r 0 5 (ec 3 (qp 0 0) (ec 4 (qp 1 0) (ec 5 (qp 2 0) (ec 13 (qi .i64) (ec 14 (qi .i64) en))))) (sb 0 128 (lg 128) (sb 1 128 (lc qn (lc (qi .i64) (lc (qi .i64) (lc (qi .i64) (lc qn (lc (qi .i64) (lc (qi .i64) (lc (qi .i64) ln)))))))) (sb 2 128 (lc (qo 3) (lc (qi .i64) (lc (qi .i64) (lc (qi .i64) (lc (qo 4) (lc (qi .i64) (lc (qi .i64) (lc (qi .i64) ln)))))))) (sr 3 34 (sr 4 34 sn))))) (fun z=>⟨z.1.2.2.2.1,z.1.2.2.2.2.1,z.2.1,(aj.mk [] (aD.mk z.2.2.1.2.1 z.2.2.1.2.2.1 z.2.2.1.2.2.2.1) [] (aD.mk z.2.2.1.2.2.2.2.2.1 z.2.2.1.2.2.2.2.2.2.1 z.2.2.1.2.2.2.2.2.2.2.1)),(aj.mk z.2.2.2.2.1 (aD.mk z.2.2.2.1.2.1 z.2.2.2.1.2.2.1 z.2.2.2.1.2.2.2.1) z.2.2.2.2.2.1 (aD.mk z.2.2.2.1.2.2.2.2.2.1 z.2.2.2.1.2.2.2.2.2.2.1 z.2.2.2.1.2.2.2.2.2.2.2.1))⟩) (fun x=>(((),(),(),x.t13,x.t14,()),(x.b0,((),x.b1.au.aa,x.b1.au.af,x.b1.au.ah,(),x.b1.aA.aa,x.b1.aA.af,x.b1.aA.ah,()),((),x.b2.au.aa,x.b2.au.af,x.b2.au.ah,(),x.b2.aA.aa,x.b2.aA.af,x.b2.aA.ah,()),x.b2.ag,x.b2.ax,()))) fun _=>rfl)
def GA(p:sj):Option (Option sj):=
 bif wF (p.t14<p.t13)then if(0:Int)<=p.t14/\p.t14<(↑p.b2.ag.length:Int)then if 34=34/\p.t14.toNat<p.b2.ag.length then if(0:Int)<=p.t14/\p.t14<(↑p.b0.ag.length:Int)then match ue p.b2.ag[p.t14.toNat]! p.b0.ag[p.t14.toNat]! with|wC=>wC|O r1=>if(0:Int)<=p.t14/\p.t14<(↑p.b2.ag.length:Int)then if 34=34/\p.t14.toNat<p.b2.ag.length then O (O (sj.mk p.t13 (i64.wrap (p.t14+1)) p.b0 (aj.mk [] p.b1.au [] p.b1.aA) (aj.mk (p.b2.ag.set p.t14.toNat r1) p.b2.au p.b2.ax p.b2.aA)))else wC else wC else wC else wC else wC else O (wC)
def GZ:sj->Option sj:=bw (GA)
abbrev amP:Type:=aj
def d236:Td 0 amP:= .c [] [4] (.r 0 3 (ec 4 (qp 0 0) en) (sb 0 128 (lc (qo 1) (lc (qi .i64) (lc (qi .i64) (lc (qi .i64) (lc (qo 2) (lc (qi .i64) (lc (qi .i64) (lc (qi .i64) ln)))))))) (sr 1 34 (sr 2 34 sn))) (fun z=>(aj.mk z.2.2.1 (aD.mk z.2.1.2.1 z.2.1.2.2.1 z.2.1.2.2.2.1) z.2.2.2.1 (aD.mk z.2.1.2.2.2.2.2.1 z.2.1.2.2.2.2.2.2.1 z.2.1.2.2.2.2.2.2.2.1))) (fun x=>(((),()),(((),x.au.aa,x.au.af,x.au.ah,(),x.aA.aa,x.aA.af,x.aA.ah,()),x.ag,x.ax,()))) fun _=>rfl)
def Fg(a0:aj)(a1:aj):Option amP:=
 match DC a0 with|wC=>wC|O r3=>match GZ (sj.mk (↑r3.ag.length:Int) (0) a1 (aj.mk [] (aD.mk (0) (0) (0)) [] (aD.mk (0) (0) (0))) r3)with|wC=>wC|O r4=>bif wF (r4.t14<r4.t13)then if(0:Int)<=r4.t14/\r4.t14<(↑r4.b2.ag.length:Int)then if 34=34/\r4.t14.toNat<r4.b2.ag.length then if(0:Int)<=r4.t14/\r4.t14<(↑r4.b0.ag.length:Int)then match ue r4.b2.ag[r4.t14.toNat]! r4.b0.ag[r4.t14.toNat]! with|wC=>wC|O r5=>if(0:Int)<=r4.t14/\r4.t14<(↑r4.b2.ag.length:Int)then if 34=34/\r4.t14.toNat<r4.b2.ag.length then wC else wC else wC else wC else wC else wC else match ue r4.b2.au r4.b0.au with|wC=>wC|O r6=>match ue r4.b2.aA r4.b0.aA with|wC=>wC|O r7=>match Gc (oA.mk r4.b0.ax (↑r4.b0.ax.length:Int) (0) (aj.mk [] r4.b1.au [] r4.b1.aA) (aj.mk r4.b2.ag r6 r4.b2.ax r7))with|wC=>wC|O r8=>bif wF (r8.t48<r8.t47)then if(0:Int)<=r8.t48/\r8.t48<(↑r8.t46.length:Int)then bif wF (r8.t48<(↑r8.b1.ax.length:Int))then if(0:Int)<=r8.t48/\r8.t48<(↑r8.b1.ax.length:Int)then if 34=34/\r8.t48.toNat<r8.b1.ax.length then match ue r8.b1.ax[r8.t48.toNat]! r8.t46[r8.t48.toNat]! with|wC=>wC|O r9=>if(0:Int)<=r8.t48/\r8.t48<(↑r8.b1.ax.length:Int)then if 34=34/\r8.t48.toNat<r8.b1.ax.length then wC else wC else wC else wC else wC else if(r8.b1.ax++[r8.t46[r8.t48.toNat]!]).length<=1073741824 then wC else wC else wC else O (r8.b1)
def ahE:aI->aI:=eL wG 236 wD (lc (qg 128) (lc (qg 128) ln)) d236 (fun g=>Fg g.1 g.2.1)
theorem Po:EO ahE:=fun h=>kL (an:=(.two .no (.two .no (.two (.two .no (Ld.lp GZ .no)) (.two .no (.two .no (.two (.two .no (NP.lp Gc .no)) .no))))))) (l:=[(aU f236 0,(Ld.lp GZ .no)),(aU f236 1,(NP.lp Gc .no))]) func236 (uz (FU aK)) (az (aO Ld) (az (aO NP) aC)) h
def aju:aI:=(ajq (e80 cQ))
theorem adf:bf wG aju:=(Fv (Gm aK))
abbrev amo:Type:=aj
def d157:Td 0 amo:= .c [] [4] (.r 0 1 (ec 4 (qp 0 0) en) (sb 0 128 (lg 128) sn) (fun z=>z.2.1) (fun x=>(((),()),(x,()))) fun _=>rfl)
def aqC:=(lc (qg 128) (lc (qi .i64) ln))
def aeT:An:= .no
theorem aqp:eW wG (aju) 0 300 157 (aeT):=bV (l:=[]) func157 (bB (by kernel_rfl)) (by kernel_rfl) aC
def IP(a0:aj)(a1:Int):Option amo:=
 match tN (8) a0.aA (Qd a1)with|wC=>wC|O r1=>O (aj.mk a0.ag a0.au a0.ax r1.fst)
theorem asG(a0:aj)(a1:Int):bN wG (aju) 300 (aeT) 157 (aqC.c (a0,a1,())) [] 0 d157.rd=IP a0 a1:=by kernel_rfl
def ajJ:aI->aI:=eZ wG 157 aqC d157 (fun g=>IP g.1 g.2.1)
theorem QN{F:aI}(h:bf wG F):bf wG (ajJ F):=oT (dH adf aqp (fun _=>by kernel_rfl) (fun _=>by kernel_rfl) fun g=>asG g.1 g.2.1) ⟨_,func157,by kernel_rfl,by kernel_rfl⟩ (fun _=>by kernel_rfl) h
abbrev anI:Type:=aj
def d158:Td 0 anI:= .c [] [8] (.r 0 3 (ec 8 (qp 0 0) en) (sb 0 128 (lc (qo 1) (lc (qi .i64) (lc (qi .i64) (lc (qi .i64) (lc (qo 2) (lc (qi .i64) (lc (qi .i64) (lc (qi .i64) ln)))))))) (sr 1 34 (sr 2 34 sn))) (fun z=>(aj.mk z.2.2.1 (aD.mk z.2.1.2.1 z.2.1.2.2.1 z.2.1.2.2.2.1) z.2.2.2.1 (aD.mk z.2.1.2.2.2.2.2.1 z.2.1.2.2.2.2.2.2.1 z.2.1.2.2.2.2.2.2.2.1))) (fun x=>(((),()),(((),x.au.aa,x.au.af,x.au.ah,(),x.aA.aa,x.aA.af,x.aA.ah,()),x.ag,x.ax,()))) fun _=>rfl)
def NF(a0:Runner)(a1:aj)(a2:Int)(a3:aD):Option anI:=
 match DC a1 with|wC=>wC|O r1=>if(0:Int)<=a2/\a2<(↑a0.fF.ag.length:Int)then match Zy a3 a0.fF.ag[a2.toNat]!.aa a0.fF.ag[a2.toNat]!.af with|wC=>wC|O r2=>if(0:Int)<=a2/\a2<(↑r1.ag.length:Int)then if 34=34/\a2.toNat<r1.ag.length then O (aj.mk (r1.ag.set a2.toNat r2.fst) r1.au r1.ax r1.aA)else wC else wC else wC
def arn:aI->aI:=eL wG 158 wD (lc (qg 133) (lc (qg 128) (lc (qi .i64) (lc (qg 34) ln)))) d158 (fun g=>NF g.1 g.2.1 g.2.2.1 g.2.2.2.1)
theorem XQ:EO arn:=fun h=>kL (an:= .no) func158 (uz (NC aK)) aC h
structure oz where
 (t10 t11:Int)
 b0:aj
 b1:aD
 b2:aj
def Le:Td 0 oz:= .c [] [2,3,4,10,11] (.r 0 5 (ec 2 (qp 0 0) (ec 3 (qp 1 0) (ec 4 (qp 2 0) (ec 10 (qi .i64) (ec 11 (qi .i64) en))))) (sb 0 128 (lc (qo 3) (lc (qi .i64) (lc (qi .i64) (lc (qi .i64) (lc (qo 4) (lc (qi .i64) (lc (qi .i64) (lc (qi .i64) ln)))))))) (sb 1 34 (lg 34) (sb 2 128 (lc qn (lc (qi .i64) (lc (qi .i64) (lc (qi .i64) (lc qn (lc (qi .i64) (lc (qi .i64) (lc (qi .i64) ln)))))))) (sr 3 34 (sr 4 34 sn))))) (fun z=>⟨z.1.2.2.2.1,z.1.2.2.2.2.1,(aj.mk z.2.2.2.2.1 (aD.mk z.2.1.2.1 z.2.1.2.2.1 z.2.1.2.2.2.1) z.2.2.2.2.2.1 (aD.mk z.2.1.2.2.2.2.2.1 z.2.1.2.2.2.2.2.2.1 z.2.1.2.2.2.2.2.2.2.1)),z.2.2.1,(aj.mk [] (aD.mk z.2.2.2.1.2.1 z.2.2.2.1.2.2.1 z.2.2.2.1.2.2.2.1) [] (aD.mk z.2.2.2.1.2.2.2.2.2.1 z.2.2.2.1.2.2.2.2.2.2.1 z.2.2.2.1.2.2.2.2.2.2.2.1))⟩) (fun x=>(((),(),(),x.t10,x.t11,()),(((),x.b0.au.aa,x.b0.au.af,x.b0.au.ah,(),x.b0.aA.aa,x.b0.aA.af,x.b0.aA.ah,()),x.b1,((),x.b2.au.aa,x.b2.au.af,x.b2.au.ah,(),x.b2.aA.aa,x.b2.aA.af,x.b2.aA.ah,()),x.b0.ag,x.b0.ax,()))) fun _=>rfl)
def Fl(p:oz):Option (Option oz):=
 bif wF (p.t11<p.t10)then match XO p.b0.au p.t11 with|wC=>wC|O r1=>bif r1 then if(0:Int)<=p.t11/\p.t11<(↑p.b0.ax.length:Int)then if 34=34/\p.t11.toNat<p.b0.ax.length then match ue p.b0.ax[p.t11.toNat]! p.b1 with|wC=>wC|O r2=>if(0:Int)<=p.t11/\p.t11<(↑p.b0.ax.length:Int)then if 34=34/\p.t11.toNat<p.b0.ax.length then O (O (oz.mk p.t10 (i64.wrap (p.t11+1)) (aj.mk p.b0.ag p.b0.au (p.b0.ax.set p.t11.toNat r2) p.b0.aA) p.b1 (aj.mk [] p.b2.au [] p.b2.aA)))else wC else wC else wC else wC else O (O (oz.mk p.t10 (i64.wrap (p.t11+1)) p.b0 p.b1 (aj.mk [] p.b2.au [] p.b2.aA)))else O (wC)
def FX:oz->Option oz:=bw (Fl)
abbrev amw:Type:=aj
def d159:Td 0 amw:= .c [] [4] (.r 0 3 (ec 4 (qp 0 0) en) (sb 0 128 (lc (qo 1) (lc (qi .i64) (lc (qi .i64) (lc (qi .i64) (lc (qo 2) (lc (qi .i64) (lc (qi .i64) (lc (qi .i64) ln)))))))) (sr 1 34 (sr 2 34 sn))) (fun z=>(aj.mk z.2.2.1 (aD.mk z.2.1.2.1 z.2.1.2.2.1 z.2.1.2.2.2.1) z.2.2.2.1 (aD.mk z.2.1.2.2.2.2.2.1 z.2.1.2.2.2.2.2.2.1 z.2.1.2.2.2.2.2.2.2.1))) (fun x=>(((),()),(((),x.au.aa,x.au.af,x.au.ah,(),x.aA.aa,x.aA.af,x.aA.ah,()),x.ag,x.ax,()))) fun _=>rfl)
def Tz(a0:aj)(a1:aD):Option amw:=
 match DC a0 with|wC=>wC|O r3=>match FX (oz.mk (↑r3.ax.length:Int) (0) r3 a1 (aj.mk [] (aD.mk (0) (0) (0)) [] (aD.mk (0) (0) (0))))with|wC=>wC|O r4=>bif wF (r4.t11<r4.t10)then match XO r4.b0.au r4.t11 with|wC=>wC|O r5=>bif r5 then if(0:Int)<=r4.t11/\r4.t11<(↑r4.b0.ax.length:Int)then if 34=34/\r4.t11.toNat<r4.b0.ax.length then match ue r4.b0.ax[r4.t11.toNat]! r4.b1 with|wC=>wC|O r6=>if(0:Int)<=r4.t11/\r4.t11<(↑r4.b0.ax.length:Int)then if 34=34/\r4.t11.toNat<r4.b0.ax.length then wC else wC else wC else wC else wC else wC else if(r4.b0.ax++[r4.b1]).length<=1073741824 then match tN (8) r4.b0.au (Qd (1))with|wC=>wC|O r7=>O (aj.mk r4.b0.ag r7.fst (r4.b0.ax++[r4.b1]) r4.b0.aA)else wC
def amL:aI->aI:=eL wG 159 wD (lc (qg 128) (lc (qg 34) ln)) d159 (fun g=>Tz g.1 g.2.1)
theorem aaO:EO amL:=fun h=>kL (an:=(.two .no (.two .no (.two (.two .no (Le.lp FX .no)) .no)))) (l:=[(aU f159 0,(Le.lp FX .no))]) func159 (uz (Fv (FU (NJ (Gm aK))))) (az (aO Le) aC) h
abbrev qx:Type:=aj
def d83:Td 0 qx:= .c [] [6] (.r 0 1 (ec 6 (qp 0 0) en) (sb 0 128 (lg 128) sn) (fun z=>z.2.1) (fun x=>(((),()),(x,()))) fun _=>rfl)
def A83:=(lc (qg 133) (lc (ql 166) (lc (qg 128) ln)))
def x83(M:Runner->(List GStep)->aj->Option qx):aI->aI:=eZ wG 83 A83 d83 (fun g=>M g.1 g.2.1 g.2.2.1)
def H83(M:Runner->(List GStep)->aj->Option qx):Prop:=HL wG 83 A83 d83 (fun g=>M g.1 g.2.1 g.2.2.1)
theorem K7{M:Runner->(List GStep)->aj->Option qx}(hM:H83 M){F:aI}(h:bf wG F):bf wG (x83 M F):=oT hM ⟨_,func83,by kernel_rfl,by kernel_rfl⟩ (fun _=>by kernel_rfl) h
abbrev gA:Type:=aj
def d156:Td 0 gA:= .c [] [6] (.r 0 1 (ec 6 (qp 0 0) en) (sb 0 128 (lg 128) sn) (fun z=>z.2.1) (fun x=>(((),()),(x,()))) fun _=>rfl)
def ajA:=(lc (qg 133) (lc (qg 166) (lc (qg 128) ln)))
def apD(M:Runner->GStep->aj->Option gA):aI->aI:=eZ wG 156 ajA d156 (fun g=>M g.1 g.2.1 g.2.2.1)
def VF(M:Runner->GStep->aj->Option gA):Prop:=HL wG 156 ajA d156 (fun g=>M g.1 g.2.1 g.2.2.1)
theorem ab5{M:Runner->GStep->aj->Option gA}(hM:VF M){F:aI}(h:bf wG F):bf wG (apD M F):=oT hM ⟨_,func156,by kernel_rfl,by kernel_rfl⟩ (fun _=>by kernel_rfl) h
abbrev gC:Type:=aj
def d160:Td 0 gC:= .c [] [6] (.t (cq.fc 0 0 []) (.t (cq.fc 0 4 []) (.c [] [6] (.r 0 1 (ec 6 (qp 0 0) en) (sb 0 128 (lg 128) sn) (fun z=>z.2.1) (fun x=>(((),()),(x,()))) fun _=>rfl))))
def ahC:=(lc (qg 133) (lc (qg 166) (lc (qg 128) ln)))
def aoX(M:Runner->GStep->aj->Option gC):aI->aI:=eZ wG 160 ahC d160 (fun g=>M g.1 g.2.1 g.2.2.1)
def Wg(M:Runner->GStep->aj->Option gC):Prop:=HL wG 160 ahC d160 (fun g=>M g.1 g.2.1 g.2.2.1)
theorem ady{M:Runner->GStep->aj->Option gC}(hM:Wg M){F:aI}(h:bf wG F):bf wG (aoX M F):=oT hM ⟨_,func160,by kernel_rfl,by kernel_rfl⟩ (fun _=>by kernel_rfl) h
def F83(M83:Runner->(List GStep)->aj->Option qx)(M156:Runner->GStep->aj->Option gA)(M160:Runner->GStep->aj->Option gC):aI:=(an9 (aoX M160 (amL (arn (ajJ (apD M156 (e82 cQ)))))))
theorem akn{M83 M156 M160}(h83:H83 M83)(h156:VF M156)(h160:Wg M160):bf wG (F83 M83 M156 M160):=(Zz (ady h160 (aaO (XQ (QN (ab5 h156 (G8 aK)))))))
structure l7 where
 t9:List GStep
 (t10 t11:Int)
 b0:Runner
 (b1 b2:aj)
def Ut:Td 0 l7:= .c [] [3,5,6,9,10,11] (.t (cq.fc 1 0 []) (.t (cq.fc 1 4 []) (.c [] [3,5,6,9,10,11] (.r 0 3 (ec 3 (qp 0 0) (ec 5 (qp 1 0) (ec 6 (qp 2 0) (ec 9 (ql 166) (ec 10 (qi .i64) (ec 11 (qi .i64) en)))))) (sb 0 133 (lg 133) (sb 1 128 (lg 128) (sb 2 128 (lc qn (lc (qi .i64) (lc (qi .i64) (lc (qi .i64) (lc qn (lc (qi .i64) (lc (qi .i64) (lc (qi .i64) ln)))))))) sn))) (fun z=>⟨z.1.2.2.2.1,z.1.2.2.2.2.1,z.1.2.2.2.2.2.1,z.2.1,z.2.2.1,(aj.mk [] (aD.mk z.2.2.2.1.2.1 z.2.2.2.1.2.2.1 z.2.2.2.1.2.2.2.1) [] (aD.mk z.2.2.2.1.2.2.2.2.2.1 z.2.2.2.1.2.2.2.2.2.2.1 z.2.2.2.1.2.2.2.2.2.2.2.1))⟩) (fun x=>(((),(),(),x.t9,x.t10,x.t11,()),(x.b0,x.b1,((),x.b2.au.aa,x.b2.au.af,x.b2.au.ah,(),x.b2.aA.aa,x.b2.aA.af,x.b2.aA.ah,()),()))) fun _=>rfl))))
def Oo(M83:Runner->(List GStep)->aj->Option qx)(M156:Runner->GStep->aj->Option gA)(M160:Runner->GStep->aj->Option gC)(p:l7):Option (Option l7):=
 bif wF (p.t11<p.t10)then if(0:Int)<=p.t11/\p.t11<(↑p.t9.length:Int)then bif wF (p.t9[p.t11.toNat]!.bH=4)then match M156 p.b0 (GStep.mk p.t9[p.t11.toNat]!.bH p.t9[p.t11.toNat]!.aL p.t9[p.t11.toNat]!.cG p.t9[p.t11.toNat]!.fN (aq.mk p.t9[p.t11.toNat]!.ay.aW p.t9[p.t11.toNat]!.ay.fN p.t9[p.t11.toNat]!.ay.ak) p.t9[p.t11.toNat]!.aG p.t9[p.t11.toNat]!.aJ p.t9[p.t11.toNat]!.aH) p.b1 with|wC=>wC|O r1=>O (O (l7.mk p.t9 p.t10 (i64.wrap (p.t11+1)) p.b0 r1 (aj.mk [] p.b2.au [] p.b2.aA)))else match IP p.b1 p.t9[p.t11.toNat]!.aL with|wC=>wC|O r2=>bif wF (p.t9[p.t11.toNat]!.bH=0)then match LY r2 (aq.mk p.t9[p.t11.toNat]!.ay.aW p.t9[p.t11.toNat]!.ay.fN p.t9[p.t11.toNat]!.ay.ak)with|wC=>wC|O r3=>match NF p.b0 r2 p.t9[p.t11.toNat]!.cG r3 with|wC=>wC|O r4=>O (O (l7.mk p.t9 p.t10 (i64.wrap (p.t11+1)) p.b0 r4 (aj.mk [] p.b2.au [] p.b2.aA)))else bif wF (p.t9[p.t11.toNat]!.bH=5)then if(0:Int)<=p.t9[p.t11.toNat]!.fN/\p.t9[p.t11.toNat]!.fN<(↑p.b0.ai.length:Int)then match NF p.b0 r2 p.t9[p.t11.toNat]!.cG p.b0.ai[p.t9[p.t11.toNat]!.fN.toNat]! with|wC=>wC|O r5=>O (O (l7.mk p.t9 p.t10 (i64.wrap (p.t11+1)) p.b0 r5 (aj.mk [] p.b2.au [] p.b2.aA)))else wC else bif wF (p.t9[p.t11.toNat]!.bH=1)then match LY r2 (aq.mk p.t9[p.t11.toNat]!.ay.aW p.t9[p.t11.toNat]!.ay.fN p.t9[p.t11.toNat]!.ay.ak)with|wC=>wC|O r6=>match Tz r2 r6 with|wC=>wC|O r7=>O (O (l7.mk p.t9 p.t10 (i64.wrap (p.t11+1)) p.b0 r7 (aj.mk [] p.b2.au [] p.b2.aA)))else bif wF (p.t9[p.t11.toNat]!.bH=3)then match M160 p.b0 (GStep.mk p.t9[p.t11.toNat]!.bH p.t9[p.t11.toNat]!.aL p.t9[p.t11.toNat]!.cG p.t9[p.t11.toNat]!.fN (aq.mk p.t9[p.t11.toNat]!.ay.aW p.t9[p.t11.toNat]!.ay.fN p.t9[p.t11.toNat]!.ay.ak) p.t9[p.t11.toNat]!.aG p.t9[p.t11.toNat]!.aJ p.t9[p.t11.toNat]!.aH) r2 with|wC=>wC|O r8=>O (O (l7.mk p.t9 p.t10 (i64.wrap (p.t11+1)) p.b0 r8 (aj.mk [] p.b2.au [] p.b2.aA)))else bif wF (p.t9[p.t11.toNat]!.bH=6)then match JD r2.aA p.t9[p.t11.toNat]!.aH with|wC=>wC|O r9=>O (O (l7.mk p.t9 p.t10 (i64.wrap (p.t11+1)) p.b0 (aj.mk r2.ag r2.au r2.ax r9.fst) (aj.mk [] p.b2.au [] p.b2.aA)))else O (O (l7.mk p.t9 p.t10 (i64.wrap (p.t11+1)) p.b0 r2 (aj.mk [] p.b2.au [] p.b2.aA)))else wC else O (wC)
def PI(M83:Runner->(List GStep)->aj->Option qx)(M156:Runner->GStep->aj->Option gA)(M160:Runner->GStep->aj->Option gC):l7->Option l7:=bw (Oo M83 M156 M160)
def al5(M83:Runner->(List GStep)->aj->Option qx)(M156:Runner->GStep->aj->Option gA)(M160:Runner->GStep->aj->Option gC):An:=(.two .no (.two (.two .no (Ut.lp (PI M83 M156 M160) .no)) .no))
theorem auj(M83:Runner->(List GStep)->aj->Option qx)(M156:Runner->GStep->aj->Option gA)(M160:Runner->GStep->aj->Option gC):eW wG (F83 M83 M156 M160) 0 300 83 (al5 M83 M156 M160):=bV (l:=[(aU f83 0,(Ut.lp (PI M83 M156 M160) .no))]) func83 (bB (by kernel_rfl)) (by kernel_rfl) (az (aO Ut) aC)
def s83(M83:Runner->(List GStep)->aj->Option qx)(M156:Runner->GStep->aj->Option gA)(M160:Runner->GStep->aj->Option gC)(a0:Runner)(a1:List GStep)(a2:aj):Option qx:=
 match PI M83 M156 M160 (l7.mk a1 (↑a1.length:Int) (0) a0 a2 (aj.mk [] (aD.mk (0) (0) (0)) [] (aD.mk (0) (0) (0))))with|wC=>wC|O r10=>bif wF (r10.t11<r10.t10)then if(0:Int)<=r10.t11/\r10.t11<(↑r10.t9.length:Int)then bif wF (r10.t9[r10.t11.toNat]!.bH=4)then match M156 r10.b0 (GStep.mk r10.t9[r10.t11.toNat]!.bH r10.t9[r10.t11.toNat]!.aL r10.t9[r10.t11.toNat]!.cG r10.t9[r10.t11.toNat]!.fN (aq.mk r10.t9[r10.t11.toNat]!.ay.aW r10.t9[r10.t11.toNat]!.ay.fN r10.t9[r10.t11.toNat]!.ay.ak) r10.t9[r10.t11.toNat]!.aG r10.t9[r10.t11.toNat]!.aJ r10.t9[r10.t11.toNat]!.aH) r10.b1 with|wC=>wC|O r11=>wC else match IP r10.b1 r10.t9[r10.t11.toNat]!.aL with|wC=>wC|O r12=>bif wF (r10.t9[r10.t11.toNat]!.bH=0)then match LY r12 (aq.mk r10.t9[r10.t11.toNat]!.ay.aW r10.t9[r10.t11.toNat]!.ay.fN r10.t9[r10.t11.toNat]!.ay.ak)with|wC=>wC|O r13=>match NF r10.b0 r12 r10.t9[r10.t11.toNat]!.cG r13 with|wC=>wC|O r14=>wC else bif wF (r10.t9[r10.t11.toNat]!.bH=5)then if(0:Int)<=r10.t9[r10.t11.toNat]!.fN/\r10.t9[r10.t11.toNat]!.fN<(↑r10.b0.ai.length:Int)then match NF r10.b0 r12 r10.t9[r10.t11.toNat]!.cG r10.b0.ai[r10.t9[r10.t11.toNat]!.fN.toNat]! with|wC=>wC|O r15=>wC else wC else bif wF (r10.t9[r10.t11.toNat]!.bH=1)then match LY r12 (aq.mk r10.t9[r10.t11.toNat]!.ay.aW r10.t9[r10.t11.toNat]!.ay.fN r10.t9[r10.t11.toNat]!.ay.ak)with|wC=>wC|O r16=>match Tz r12 r16 with|wC=>wC|O r17=>wC else bif wF (r10.t9[r10.t11.toNat]!.bH=3)then match M160 r10.b0 (GStep.mk r10.t9[r10.t11.toNat]!.bH r10.t9[r10.t11.toNat]!.aL r10.t9[r10.t11.toNat]!.cG r10.t9[r10.t11.toNat]!.fN (aq.mk r10.t9[r10.t11.toNat]!.ay.aW r10.t9[r10.t11.toNat]!.ay.fN r10.t9[r10.t11.toNat]!.ay.ak) r10.t9[r10.t11.toNat]!.aG r10.t9[r10.t11.toNat]!.aJ r10.t9[r10.t11.toNat]!.aH) r12 with|wC=>wC|O r18=>wC else bif wF (r10.t9[r10.t11.toNat]!.bH=6)then match JD r12.aA r10.t9[r10.t11.toNat]!.aH with|wC=>wC|O r19=>wC else wC else wC else O (r10.b1)
theorem c83(M83:Runner->(List GStep)->aj->Option qx)(M156:Runner->GStep->aj->Option gA)(M160:Runner->GStep->aj->Option gC)(a0:Runner)(a1:List GStep)(a2:aj):bN wG (F83 M83 M156 M160) 300 (al5 M83 M156 M160) 83 (A83.c (a0,a1,a2,())) [] 0 d83.rd=s83 M83 M156 M160 a0 a1 a2:=by kernel_rfl
def ahp(M83:Runner->(List GStep)->aj->Option qx)(M156:Runner->GStep->aj->Option gA)(M160:Runner->GStep->aj->Option gC):aI:=(ahE (aij (ajJ (ZL (x83 M83 (e82 cQ))))))
theorem aev{M83 M156 M160}(h83:H83 M83)(h156:VF M156)(h160:Wg M160):bf wG (ahp M83 M156 M160):=(Po (uz (QN (Gw (K7 h83 (G8 aK))))))
structure jo where
 t53:List aj
 (t54 t55:Int)
 (b0 b1:aj)
def NW:Td 0 jo:= .c [] [6,11,53,54,55] (.t (cq.fc 1 0 []) (.t (cq.fc 1 4 []) (.c [] [6,11,53,54,55] (.r 0 2 (ec 6 (qp 0 0) (ec 11 (qp 1 0) (ec 53 (ql 128) (ec 54 (qi .i64) (ec 55 (qi .i64) en))))) (sb 0 128 (lc qn (lc (qi .i64) (lc (qi .i64) (lc (qi .i64) (lc qn (lc (qi .i64) (lc (qi .i64) (lc (qi .i64) ln)))))))) (sb 1 128 (lg 128) sn)) (fun z=>⟨z.1.2.2.1,z.1.2.2.2.1,z.1.2.2.2.2.1,(aj.mk [] (aD.mk z.2.1.2.1 z.2.1.2.2.1 z.2.1.2.2.2.1) [] (aD.mk z.2.1.2.2.2.2.2.1 z.2.1.2.2.2.2.2.2.1 z.2.1.2.2.2.2.2.2.2.1)),z.2.2.1⟩) (fun x=>(((),(),x.t53,x.t54,x.t55,()),(((),x.b0.au.aa,x.b0.au.af,x.b0.au.ah,(),x.b0.aA.aa,x.b0.aA.af,x.b0.aA.ah,()),x.b1,()))) fun _=>rfl))))
def Hy(M83:Runner->(List GStep)->aj->Option qx)(M156:Runner->GStep->aj->Option gA)(M160:Runner->GStep->aj->Option gC)(p:jo):Option (Option jo):=
 bif wF (p.t55<p.t54)then if(0:Int)<=p.t55/\p.t55<(↑p.t53.length:Int)then match Fg p.b1 p.t53[p.t55.toNat]! with|wC=>wC|O r7=>O (O (jo.mk p.t53 p.t54 (i64.wrap (p.t55+1)) (aj.mk [] p.b0.au [] p.b0.aA) r7))else wC else O (wC)
def n8(M83:Runner->(List GStep)->aj->Option qx)(M156:Runner->GStep->aj->Option gA)(M160:Runner->GStep->aj->Option gC):jo->Option jo:=bw (Hy M83 M156 M160)
structure oZ where
 t7:List aj
 t8:Bool
 (t15 t16:Int)
 b0:Runner
 b1:GStep
 (b2 b3:aj)
def L6:Td 0 oZ:= .c [] [3,4,5,6,7,8,15,16] (.t (cq.s 7 [] 128) (.c [] [3,4,5,6,7,8,15,16] (.r 0 5 (ec 3 (qp 0 0) (ec 4 (qp 1 0) (ec 5 (qp 2 0) (ec 6 (qp 3 0) (ec 7 (qo 4) (ec 8 qb (ec 15 (qi .i64) (ec 16 (qi .i64) en)))))))) (sb 0 133 (lg 133) (sb 1 166 (lg 166) (sb 2 128 (lg 128) (sb 3 128 (lc qn (lc (qi .i64) (lc (qi .i64) (lc (qi .i64) (lc qn (lc (qi .i64) (lc (qi .i64) (lc (qi .i64) ln)))))))) (sr 4 128 sn))))) (fun z=>⟨z.2.2.2.2.2.1,z.1.2.2.2.2.2.1,z.1.2.2.2.2.2.2.1,z.1.2.2.2.2.2.2.2.1,z.2.1,z.2.2.1,z.2.2.2.1,(aj.mk [] (aD.mk z.2.2.2.2.1.2.1 z.2.2.2.2.1.2.2.1 z.2.2.2.2.1.2.2.2.1) [] (aD.mk z.2.2.2.2.1.2.2.2.2.2.1 z.2.2.2.2.1.2.2.2.2.2.2.1 z.2.2.2.2.1.2.2.2.2.2.2.2.1))⟩) (fun x=>(((),(),(),(),(),x.t8,x.t15,x.t16,()),(x.b0,x.b1,x.b2,((),x.b3.au.aa,x.b3.au.af,x.b3.au.ah,(),x.b3.aA.aa,x.b3.aA.af,x.b3.aA.ah,()),x.t7,()))) fun _=>rfl)))
def vb(M83:Runner->(List GStep)->aj->Option qx)(M156:Runner->GStep->aj->Option gA)(M160:Runner->GStep->aj->Option gC)(p:oZ):Option (Option oZ):=
 bif wF (p.t16<p.t15)then match IP p.b2 p.b1.aL with|wC=>wC|O r1=>match LY r1 (aq.mk p.b1.ay.aW p.b1.ay.fN p.b1.ay.ak)with|wC=>wC|O r2=>match Mc r2 with|wC=>wC|O r3=>bif r3.fst then match DC r1 with|wC=>wC|O r4=>if(p.t7++[r4]).length<=1073741824 then bif bif r3.snd then wD else wE then O (wC)else match M83 p.b0 p.b1.aG r1 with|wC=>wC|O r5=>O (O (oZ.mk (p.t7++[r4]) p.t8 p.t15 (i64.wrap (p.t16+1)) p.b0 (GStep.mk p.b1.bH p.b1.aL p.b1.cG p.b1.fN (aq.mk p.b1.ay.aW p.b1.ay.fN p.b1.ay.ak) p.b1.aG p.b1.aJ p.b1.aH) r5 (aj.mk [] p.b3.au [] p.b3.aA)))else wC else bif bif r3.snd then wD else wE then O (wC)else match M83 p.b0 p.b1.aG r1 with|wC=>wC|O r6=>O (O (oZ.mk p.t7 p.t8 p.t15 (i64.wrap (p.t16+1)) p.b0 (GStep.mk p.b1.bH p.b1.aL p.b1.cG p.b1.fN (aq.mk p.b1.ay.aW p.b1.ay.fN p.b1.ay.ak) p.b1.aG p.b1.aJ p.b1.aH) r6 (aj.mk [] p.b3.au [] p.b3.aA)))else O (wC)
def F7(M83:Runner->(List GStep)->aj->Option qx)(M156:Runner->GStep->aj->Option gA)(M160:Runner->GStep->aj->Option gC):oZ->Option oZ:=bw (vb M83 M156 M160)
def afT(M83:Runner->(List GStep)->aj->Option qx)(M156:Runner->GStep->aj->Option gA)(M160:Runner->GStep->aj->Option gC):An:=(.two .no (.two .no (.two .no (.two (.two .no (L6.lp (F7 M83 M156 M160) .no)) (.two .no (.two .no (.two (.two .no (NW.lp (n8 M83 M156 M160) .no)) .no)))))))
theorem aqI(M83:Runner->(List GStep)->aj->Option qx)(M156:Runner->GStep->aj->Option gA)(M160:Runner->GStep->aj->Option gC):eW wG (ahp M83 M156 M160) 0 300 156 (afT M83 M156 M160):=bV (l:=[(aU f156 0,(L6.lp (F7 M83 M156 M160) .no)),(aU f156 1,(NW.lp (n8 M83 M156 M160) .no))]) func156 (bB (by kernel_rfl)) (by kernel_rfl) (az (aO L6) (az (aO NW) aC))
def adi(M83:Runner->(List GStep)->aj->Option qx)(M156:Runner->GStep->aj->Option gA)(M160:Runner->GStep->aj->Option gC)(a0:Runner)(a1:GStep)(a2:aj):Option gA:=
 match F7 M83 M156 M160 (oZ.mk [] wE a1.fN (0) a0 (GStep.mk a1.bH a1.aL a1.cG a1.fN (aq.mk a1.ay.aW a1.ay.fN a1.ay.ak) a1.aG a1.aJ a1.aH) a2 (aj.mk [] (aD.mk (0) (0) (0)) [] (aD.mk (0) (0) (0))))with|wC=>wC|O r8=>bif wF (r8.t16<r8.t15)then match IP r8.b2 r8.b1.aL with|wC=>wC|O r9=>match LY r9 (aq.mk r8.b1.ay.aW r8.b1.ay.fN r8.b1.ay.ak)with|wC=>wC|O r10=>match Mc r10 with|wC=>wC|O r11=>bif r11.fst then match DC r9 with|wC=>wC|O r12=>if(r8.t7++[r12]).length<=1073741824 then bif bif r11.snd then wD else wE then if(0:Int)<=(0:Int)/\(0:Int)<(↑(r8.t7++[r12]).length:Int)then if 128=128/\0<(r8.t7++[r12]).length then if(0:Int)<=(1:Int)/\(1:Int)<=(↑(r8.t7++[r12]).length:Int)then match n8 M83 M156 M160 (jo.mk (z6 1 (r8.t7++[r12])) (↑(z6 1 (r8.t7++[r12])).length:Int) (0) (aj.mk [] r8.b3.au [] r8.b3.aA) (r8.t7++[r12])[0]!)with|wC=>wC|O r13=>bif wF (r13.t55<r13.t54)then if(0:Int)<=r13.t55/\r13.t55<(↑r13.t53.length:Int)then match Fg r13.b1 r13.t53[r13.t55.toNat]! with|wC=>wC|O r14=>wC else wC else O (r13.b1)else wC else wC else wC else match M83 r8.b0 r8.b1.aG r9 with|wC=>wC|O r15=>wC else wC else bif bif r11.snd then wD else wE then if(0:Int)<=(0:Int)/\(0:Int)<(↑r8.t7.length:Int)then if 128=128/\0<r8.t7.length then if(0:Int)<=(1:Int)/\(1:Int)<=(↑r8.t7.length:Int)then match n8 M83 M156 M160 (jo.mk (z6 1 r8.t7) (↑(z6 1 r8.t7).length:Int) (0) (aj.mk [] r8.b3.au [] r8.b3.aA) r8.t7[0]!)with|wC=>wC|O r16=>bif wF (r16.t55<r16.t54)then if(0:Int)<=r16.t55/\r16.t55<(↑r16.t53.length:Int)then match Fg r16.b1 r16.t53[r16.t55.toNat]! with|wC=>wC|O r17=>wC else wC else O (r16.b1)else wC else wC else wC else match M83 r8.b0 r8.b1.aG r9 with|wC=>wC|O r18=>wC else bif r8.t8 then if(r8.t7++[r8.b2]).length<=1073741824 then if(0:Int)<=(0:Int)/\(0:Int)<(↑(r8.t7++[r8.b2]).length:Int)then if 128=128/\0<(r8.t7++[r8.b2]).length then if(0:Int)<=(1:Int)/\(1:Int)<=(↑(r8.t7++[r8.b2]).length:Int)then match n8 M83 M156 M160 (jo.mk (z6 1 (r8.t7++[r8.b2])) (↑(z6 1 (r8.t7++[r8.b2])).length:Int) (0) (aj.mk [] r8.b3.au [] r8.b3.aA) (r8.t7++[r8.b2])[0]!)with|wC=>wC|O r19=>bif wF (r19.t55<r19.t54)then if(0:Int)<=r19.t55/\r19.t55<(↑r19.t53.length:Int)then match Fg r19.b1 r19.t53[r19.t55.toNat]! with|wC=>wC|O r20=>wC else wC else O (r19.b1)else wC else wC else wC else wC else if(0:Int)<=(0:Int)/\(0:Int)<(↑r8.t7.length:Int)then if 128=128/\0<r8.t7.length then if(0:Int)<=(1:Int)/\(1:Int)<=(↑r8.t7.length:Int)then match n8 M83 M156 M160 (jo.mk (z6 1 r8.t7) (↑(z6 1 r8.t7).length:Int) (0) (aj.mk [] r8.b3.au [] r8.b3.aA) r8.t7[0]!)with|wC=>wC|O r21=>bif wF (r21.t55<r21.t54)then if(0:Int)<=r21.t55/\r21.t55<(↑r21.t53.length:Int)then match Fg r21.b1 r21.t53[r21.t55.toNat]! with|wC=>wC|O r22=>wC else wC else O (r21.b1)else wC else wC else wC
theorem auI(M83:Runner->(List GStep)->aj->Option qx)(M156:Runner->GStep->aj->Option gA)(M160:Runner->GStep->aj->Option gC)(a0:Runner)(a1:GStep)(a2:aj):bN wG (ahp M83 M156 M160) 300 (afT M83 M156 M160) 156 (ajA.c (a0,a1,a2,())) [] 0 d156.rd=adi M83 M156 M160 a0 a1 a2:=by kernel_rfl
def alh(M83:Runner->(List GStep)->aj->Option qx)(M156:Runner->GStep->aj->Option gA)(M160:Runner->GStep->aj->Option gC):aI:=(ahE (aij (ZL (x83 M83 (e82 cQ)))))
theorem ada{M83 M156 M160}(h83:H83 M83)(h156:VF M156)(h160:Wg M160):bf wG (alh M83 M156 M160):=(Po (uz (Gw (K7 h83 (G8 aK)))))
def aga(M83:Runner->(List GStep)->aj->Option qx)(M156:Runner->GStep->aj->Option gA)(M160:Runner->GStep->aj->Option gC):An:= .no
theorem am4(M83:Runner->(List GStep)->aj->Option qx)(M156:Runner->GStep->aj->Option gA)(M160:Runner->GStep->aj->Option gC):eW wG (alh M83 M156 M160) 0 300 160 (aga M83 M156 M160):=bV (l:=[]) func160 (bB (by kernel_rfl)) (by kernel_rfl) aC
def abK(M83:Runner->(List GStep)->aj->Option qx)(M156:Runner->GStep->aj->Option gA)(M160:Runner->GStep->aj->Option gC)(a0:Runner)(a1:GStep)(a2:aj):Option gC:=
 match LY a2 (aq.mk a1.ay.aW a1.ay.fN a1.ay.ak)with|wC=>wC|O r1=>match Mc r1 with|wC=>wC|O r2=>bif bif r2.fst then wD else wE then match M83 a0 a1.aG a2 with|wC=>wC|O r3=>O (r3)else bif bif r2.snd then wD else wE then match M83 a0 a1.aJ a2 with|wC=>wC|O r4=>O (r4)else match DC a2 with|wC=>wC|O r5=>match M83 a0 a1.aG r5 with|wC=>wC|O r6=>match DC a2 with|wC=>wC|O r7=>match M83 a0 a1.aJ r7 with|wC=>wC|O r8=>match Fg r6 r8 with|wC=>wC|O r9=>O (r9)
theorem avh(M83:Runner->(List GStep)->aj->Option qx)(M156:Runner->GStep->aj->Option gA)(M160:Runner->GStep->aj->Option gC)(a0:Runner)(a1:GStep)(a2:aj):bN wG (alh M83 M156 M160) 300 (aga M83 M156 M160) 160 (ahC.c (a0,a1,a2,())) [] 0 d160.rd=abK M83 M156 M160 a0 a1 a2:=by kernel_rfl
def cM:Nat->(Runner->(List GStep)->aj->Option qx)×(Runner->GStep->aj->Option gA)×(Runner->GStep->aj->Option gC)
 |0=>(fun _ _ _=>wC,fun _ _ _=>wC,fun _ _ _=>wC)
 |n+1=>(s83 (cM n).1 (cM n).2.1 (cM n).2.2,adi (cM n).1 (cM n).2.1 (cM n).2.2,abK (cM n).1 (cM n).2.1 (cM n).2.2)
def RE(n:Nat):Runner->(List GStep)->aj->Option qx:=(cM n).1
def Ci(n:Nat):Runner->GStep->aj->Option gA:=(cM n).2.1
def Bb(n:Nat):Runner->GStep->aj->Option gC:=(cM n).2.2
theorem nE:∀n,H83 (RE n)/\VF (Ci n)/\Wg (Bb n)
 |0=>⟨fun _ _ h=>(by cases h),fun _ _ h=>(by cases h),fun _ _ h=>(by cases h)⟩
 |n+1=>by
  have ih:=nE n
  obtain⟨i83,i156,i160⟩:=ih
  refine⟨?_,?_,?_⟩
  ·exact(dH (akn i83 i156 i160) (auj (RE n) (Ci n) (Bb n)) (fun _=>by kernel_rfl) (fun _=>by kernel_rfl) fun g=>c83 (RE n) (Ci n) (Bb n) g.1 g.2.1 g.2.2.1)
  ·exact(dH (aev i83 i156 i160) (aqI (RE n) (Ci n) (Bb n)) (fun _=>by kernel_rfl) (fun _=>by kernel_rfl) fun g=>auI (RE n) (Ci n) (Bb n) g.1 g.2.1 g.2.2.1)
  ·exact(dH (ada i83 i156 i160) (am4 (RE n) (Ci n) (Bb n)) (fun _=>by kernel_rfl) (fun _=>by kernel_rfl) fun g=>avh (RE n) (Ci n) (Bb n) g.1 g.2.1 g.2.2.1)
def r83:Runner->(List GStep)->aj->Option qx:=fun a0 a1 a2=>lim (fun n=>RE n a0 a1 a2)
theorem aiA:H83 r83:=fun g b h=>by
 obtain⟨n,hn⟩:=cD (show lim (fun n=>RE n g.1 g.2.1 g.2.2.1)=O b from h)
 exact(nE n).1 g b hn
def e83(F:aI):aI:=x83 r83 F
theorem ahh{F:aI}(h:bf wG F):bf wG (e83 F):=K7 aiA h
abbrev amE:Type:=aD
def d168:Td 0 amE:= .c [] [4] (.r 0 1 (ec 4 (qp 0 0) en) (sb 0 34 (lg 34) sn) (fun z=>z.2.1) (fun x=>(((),()),(x,()))) fun _=>rfl)
def Br(a0:aD)(a1:Int):Option amE:=
 match lB (8) a0 (Tw a1)with|wC=>wC|O r1=>O (r1.fst)
def Zs:aI->aI:=eL wG 168 wD (lc (qg 34) (lc (qi .i64) ln)) d168 (fun g=>Br g.1 g.2.1)
theorem FC:EO Zs:=fun h=>kL (an:= .no) func168 (OO (F8 aK)) aC h
structure mF where
 (t48 t49:Int)
 (b0 b1 b2 b3:aB)
def Mw:Td 0 mF:= .c [] [2,3,4,5,48,49] (.t (cq.c 3 4 [] 34) (.c [] [2,3,4,5,48,49] (.r 0 6 (ec 2 (qp 0 0) (ec 3 (qp 1 0) (ec 4 (qp 2 0) (ec 5 (qp 3 0) (ec 48 (qi .i64) (ec 49 (qi .i64) en)))))) (sb 0 147 (lg 147) (sb 1 147 (lg 147) (sb 2 147 (lc qn (lc (qi .i64) (lc (qi .i64) (lc (qi .i64) (lc qn (lc (qi .i64) (lc (qi .i64) (lc (qi .i64) ln)))))))) (sb 3 147 (lc (qo 4) (lc (qi .i64) (lc (qi .i64) (lc (qi .i64) (lc (qo 5) (lc (qi .i64) (lc (qi .i64) (lc (qi .i64) ln)))))))) (sr 4 34 (sr 5 34 sn)))))) (fun z=>⟨z.1.2.2.2.2.1,z.1.2.2.2.2.2.1,z.2.1,z.2.2.1,(aB.mk [] (aD.mk z.2.2.2.1.2.1 z.2.2.2.1.2.2.1 z.2.2.2.1.2.2.2.1) [] (aD.mk z.2.2.2.1.2.2.2.2.2.1 z.2.2.2.1.2.2.2.2.2.2.1 z.2.2.2.1.2.2.2.2.2.2.2.1)),(aB.mk z.2.2.2.2.2.1 (aD.mk z.2.2.2.2.1.2.1 z.2.2.2.2.1.2.2.1 z.2.2.2.2.1.2.2.2.1) z.2.2.2.2.2.2.1 (aD.mk z.2.2.2.2.1.2.2.2.2.2.1 z.2.2.2.2.1.2.2.2.2.2.2.1 z.2.2.2.2.1.2.2.2.2.2.2.2.1))⟩) (fun x=>(((),(),(),(),x.t48,x.t49,()),(x.b0,x.b1,((),x.b2.au.aa,x.b2.au.af,x.b2.au.ah,(),x.b2.aA.aa,x.b2.aA.af,x.b2.aA.ah,()),((),x.b3.au.aa,x.b3.au.af,x.b3.au.ah,(),x.b3.aA.aa,x.b3.aA.af,x.b3.aA.ah,()),x.b3.ag,x.b3.ax,()))) fun _=>rfl)))
def HB(p:mF):Option (Option mF):=
 bif wF (p.t49<p.t48)then bif wF ((↑p.b0.ax.length:Int)<=p.t49)then if(0:Int)<=p.t49/\p.t49<(↑p.b1.ax.length:Int)then if(p.b3.ax++[p.b1.ax[p.t49.toNat]!]).length<=1073741824 then O (O (mF.mk p.t48 (i64.wrap (p.t49+1)) p.b0 p.b1 (aB.mk [] p.b2.au [] p.b2.aA) (aB.mk p.b3.ag p.b3.au (p.b3.ax++[p.b1.ax[p.t49.toNat]!]) p.b3.aA)))else wC else wC else bif wF ((↑p.b1.ax.length:Int)<=p.t49)then if(0:Int)<=p.t49/\p.t49<(↑p.b0.ax.length:Int)then if(p.b3.ax++[p.b0.ax[p.t49.toNat]!]).length<=1073741824 then O (O (mF.mk p.t48 (i64.wrap (p.t49+1)) p.b0 p.b1 (aB.mk [] p.b2.au [] p.b2.aA) (aB.mk p.b3.ag p.b3.au (p.b3.ax++[p.b0.ax[p.t49.toNat]!]) p.b3.aA)))else wC else wC else if(0:Int)<=p.t49/\p.t49<(↑p.b0.ax.length:Int)then if(0:Int)<=p.t49/\p.t49<(↑p.b1.ax.length:Int)then match jF p.b0.ax[p.t49.toNat]! p.b1.ax[p.t49.toNat]! with|wC=>wC|O r2=>if(p.b3.ax++[r2]).length<=1073741824 then O (O (mF.mk p.t48 (i64.wrap (p.t49+1)) p.b0 p.b1 (aB.mk [] p.b2.au [] p.b2.aA) (aB.mk p.b3.ag p.b3.au (p.b3.ax++[r2]) p.b3.aA)))else wC else wC else wC else O (wC)
def EM:mF->Option mF:=bw (HB)
structure rA where
 (t21 t22:Int)
 (b0 b1 b2 b3:aB)
def NB:Td 0 rA:= .c [] [2,3,4,5,21,22] (.t (cq.c 3 0 [] 34) (.c [] [2,3,4,5,21,22] (.r 0 5 (ec 2 (qp 0 0) (ec 3 (qp 1 0) (ec 4 (qp 2 0) (ec 5 (qp 3 0) (ec 21 (qi .i64) (ec 22 (qi .i64) en)))))) (sb 0 147 (lg 147) (sb 1 147 (lg 147) (sb 2 147 (lc qn (lc (qi .i64) (lc (qi .i64) (lc (qi .i64) (lc qn (lc (qi .i64) (lc (qi .i64) (lc (qi .i64) ln)))))))) (sb 3 147 (lc (qo 4) (lc (qi .i64) (lc (qi .i64) (lc (qi .i64) (lc qn (lc (qi .i64) (lc (qi .i64) (lc (qi .i64) ln)))))))) (sr 4 34 sn))))) (fun z=>⟨z.1.2.2.2.2.1,z.1.2.2.2.2.2.1,z.2.1,z.2.2.1,(aB.mk [] (aD.mk z.2.2.2.1.2.1 z.2.2.2.1.2.2.1 z.2.2.2.1.2.2.2.1) [] (aD.mk z.2.2.2.1.2.2.2.2.2.1 z.2.2.2.1.2.2.2.2.2.2.1 z.2.2.2.1.2.2.2.2.2.2.2.1)),(aB.mk z.2.2.2.2.2.1 (aD.mk z.2.2.2.2.1.2.1 z.2.2.2.2.1.2.2.1 z.2.2.2.2.1.2.2.2.1) [] (aD.mk z.2.2.2.2.1.2.2.2.2.2.1 z.2.2.2.2.1.2.2.2.2.2.2.1 z.2.2.2.2.1.2.2.2.2.2.2.2.1))⟩) (fun x=>(((),(),(),(),x.t21,x.t22,()),(x.b0,x.b1,((),x.b2.au.aa,x.b2.au.af,x.b2.au.ah,(),x.b2.aA.aa,x.b2.aA.af,x.b2.aA.ah,()),((),x.b3.au.aa,x.b3.au.af,x.b3.au.ah,(),x.b3.aA.aa,x.b3.aA.af,x.b3.aA.ah,()),x.b3.ag,()))) fun _=>rfl)))
def He(p:rA):Option (Option rA):=
 bif wF (p.t22<p.t21)then if(0:Int)<=p.t22/\p.t22<(↑p.b0.ag.length:Int)then if(0:Int)<=p.t22/\p.t22<(↑p.b1.ag.length:Int)then match jF p.b0.ag[p.t22.toNat]! p.b1.ag[p.t22.toNat]! with|wC=>wC|O r1=>if(p.b3.ag++[r1]).length<=1073741824 then O (O (rA.mk p.t21 (i64.wrap (p.t22+1)) p.b0 p.b1 (aB.mk [] p.b2.au [] p.b2.aA) (aB.mk (p.b3.ag++[r1]) p.b3.au [] p.b3.aA)))else wC else wC else wC else O (wC)
def HI:rA->Option rA:=bw (He)
abbrev al0:Type:=aB
def d171:Td 0 al0:= .c [] [4] (.r 0 3 (ec 4 (qp 0 0) en) (sb 0 147 (lc (qo 1) (lc (qi .i64) (lc (qi .i64) (lc (qi .i64) (lc (qo 2) (lc (qi .i64) (lc (qi .i64) (lc (qi .i64) ln)))))))) (sr 1 34 (sr 2 34 sn))) (fun z=>(aB.mk z.2.2.1 (aD.mk z.2.1.2.1 z.2.1.2.2.1 z.2.1.2.2.2.1) z.2.2.2.1 (aD.mk z.2.1.2.2.2.2.2.1 z.2.1.2.2.2.2.2.2.1 z.2.1.2.2.2.2.2.2.2.1))) (fun x=>(((),()),(((),x.au.aa,x.au.af,x.au.ah,(),x.aA.aa,x.aA.af,x.aA.ah,()),x.ag,x.ax,()))) fun _=>rfl)
def K3(a0:aB)(a1:aB):Option al0:=
 match jF a0.au a1.au with|wC=>wC|O r3=>match jF a0.aA a1.aA with|wC=>wC|O r4=>match HI (rA.mk (↑a0.ag.length:Int) (0) a0 a1 (aB.mk [] (aD.mk (0) (0) (0)) [] (aD.mk (0) (0) (0))) (aB.mk [] r3 [] r4))with|wC=>wC|O r5=>bif wF (r5.t22<r5.t21)then if(0:Int)<=r5.t22/\r5.t22<(↑r5.b0.ag.length:Int)then if(0:Int)<=r5.t22/\r5.t22<(↑r5.b1.ag.length:Int)then match jF r5.b0.ag[r5.t22.toNat]! r5.b1.ag[r5.t22.toNat]! with|wC=>wC|O r6=>if(r5.b3.ag++[r6]).length<=1073741824 then wC else wC else wC else wC else match EM (mF.mk (if(↑r5.b0.ax.length:Int)<(↑r5.b1.ax.length:Int)then(↑r5.b1.ax.length:Int)else(↑r5.b0.ax.length:Int)) (0) r5.b0 r5.b1 (aB.mk [] r5.b2.au [] r5.b2.aA) (aB.mk r5.b3.ag r5.b3.au [] r5.b3.aA))with|wC=>wC|O r7=>bif wF (r7.t49<r7.t48)then bif wF ((↑r7.b0.ax.length:Int)<=r7.t49)then if(0:Int)<=r7.t49/\r7.t49<(↑r7.b1.ax.length:Int)then if(r7.b3.ax++[r7.b1.ax[r7.t49.toNat]!]).length<=1073741824 then wC else wC else wC else bif wF ((↑r7.b1.ax.length:Int)<=r7.t49)then if(0:Int)<=r7.t49/\r7.t49<(↑r7.b0.ax.length:Int)then if(r7.b3.ax++[r7.b0.ax[r7.t49.toNat]!]).length<=1073741824 then wC else wC else wC else if(0:Int)<=r7.t49/\r7.t49<(↑r7.b0.ax.length:Int)then if(0:Int)<=r7.t49/\r7.t49<(↑r7.b1.ax.length:Int)then match jF r7.b0.ax[r7.t49.toNat]! r7.b1.ax[r7.t49.toNat]! with|wC=>wC|O r8=>if(r7.b3.ax++[r8]).length<=1073741824 then wC else wC else wC else wC else O (r7.b3)
def aiW:aI->aI:=eL wG 171 wD (lc (qg 147) (lc (qg 147) ln)) d171 (fun g=>K3 g.1 g.2.1)
theorem QH:EO aiW:=fun h=>kL (an:=(.two .no (.two .no (.two (.two .no (NB.lp HI .no)) (.two (.two .no (Mw.lp EM .no)) .no))))) (l:=[(aU f171 0,(NB.lp HI .no)),(aU f171 1,(Mw.lp EM .no))]) func171 (pX aK) (az (aO NB) (az (aO Mw) aC)) h
def akR:aI:=(aiW cQ)
theorem aew:bf wG akR:=(QH aK)
structure ru where
 t10:List aB
 (t11 t12:Int)
 (b0 b1:aB)
def Lf:Td 0 ru:= .c [] [2,3,10,11,12] (.t (cq.fc 1 0 []) (.t (cq.fc 1 4 []) (.c [] [2,3,10,11,12] (.r 0 2 (ec 2 (qp 0 0) (ec 3 (qp 1 0) (ec 10 (ql 147) (ec 11 (qi .i64) (ec 12 (qi .i64) en))))) (sb 0 147 (lc qn (lc (qi .i64) (lc (qi .i64) (lc (qi .i64) (lc qn (lc (qi .i64) (lc (qi .i64) (lc (qi .i64) ln)))))))) (sb 1 147 (lg 147) sn)) (fun z=>⟨z.1.2.2.1,z.1.2.2.2.1,z.1.2.2.2.2.1,(aB.mk [] (aD.mk z.2.1.2.1 z.2.1.2.2.1 z.2.1.2.2.2.1) [] (aD.mk z.2.1.2.2.2.2.2.1 z.2.1.2.2.2.2.2.2.1 z.2.1.2.2.2.2.2.2.2.1)),z.2.2.1⟩) (fun x=>(((),(),x.t10,x.t11,x.t12,()),(((),x.b0.au.aa,x.b0.au.af,x.b0.au.ah,(),x.b0.aA.aa,x.b0.aA.af,x.b0.aA.ah,()),x.b1,()))) fun _=>rfl))))
def Hw(p:ru):Option (Option ru):=
 bif wF (p.t12<p.t11)then if(0:Int)<=p.t12/\p.t12<(↑p.t10.length:Int)then match K3 p.b1 p.t10[p.t12.toNat]! with|wC=>wC|O r1=>O (O (ru.mk p.t10 p.t11 (i64.wrap (p.t12+1)) (aB.mk [] p.b0.au [] p.b0.aA) r1))else wC else O (wC)
def Fu:ru->Option ru:=bw (Hw)
abbrev aqt:Type:=aB
def d247:Td 0 aqt:= .c [] [2] (.r 0 1 (ec 2 (qp 0 0) en) (sb 0 147 (lg 147) sn) (fun z=>z.2.1) (fun x=>(((),()),(x,()))) fun _=>rfl)
def amR:=(lc (ql 147) ln)
def af8:An:=(.two .no (.two .no (.two (.two .no (Lf.lp Fu .no)) .no)))
theorem anu:eW wG (akR) 0 300 247 (af8):=bV (l:=[(aU f247 0,(Lf.lp Fu .no))]) func247 (bB (by kernel_rfl)) (by kernel_rfl) (az (aO Lf) aC)
def Gk(a0:List aB):Option aqt:=
 if(0:Int)<=(0:Int)/\(0:Int)<(↑a0.length:Int)then if(0:Int)<=(1:Int)/\(1:Int)<=(↑a0.length:Int)then match Fu (ru.mk (z6 1 a0) (↑(z6 1 a0).length:Int) (0) (aB.mk [] (aD.mk (0) (0) (0)) [] (aD.mk (0) (0) (0))) a0[0]!)with|wC=>wC|O r2=>bif wF (r2.t12<r2.t11)then if(0:Int)<=r2.t12/\r2.t12<(↑r2.t10.length:Int)then match K3 r2.b1 r2.t10[r2.t12.toNat]! with|wC=>wC|O r3=>wC else wC else O (r2.b1)else wC else wC
theorem aui(a0:List aB):bN wG (akR) 300 (af8) 247 (amR.c (a0,())) [] 0 d247.rd=Gk a0:=by kernel_rfl
def TV:aI->aI:=eZ wG 247 amR d247 (fun g=>Gk g.1)
theorem aaE{F:aI}(h:bf wG F):bf wG (TV F):=oT (dH aew anu (fun _=>by kernel_rfl) (fun _=>by kernel_rfl) fun g=>aui g.1) ⟨_,func247,by kernel_rfl,by kernel_rfl⟩ (fun _=>by kernel_rfl) h
def akN:aI:=(e86 cQ)
theorem Zu:bf wG akN:=(L5 aK)
abbrev alJ:Type:=aB
def d169:Td 0 alJ:= .c [] [8] (.r 0 2 (ec 8 (qp 0 0) en) (sb 0 147 (lc (qo 1) (lc (qi .i64) (lc (qi .i64) (lc (qi .i64) (lc (ql 34) (lc (qi .i64) (lc (qi .i64) (lc (qi .i64) ln)))))))) (sr 1 34 sn)) (fun z=>(aB.mk z.2.2.1 (aD.mk z.2.1.2.1 z.2.1.2.2.1 z.2.1.2.2.2.1) z.2.1.2.2.2.2.1 (aD.mk z.2.1.2.2.2.2.2.1 z.2.1.2.2.2.2.2.2.1 z.2.1.2.2.2.2.2.2.2.1))) (fun x=>(((),()),(((),x.au.aa,x.au.af,x.au.ah,x.ax,x.aA.aa,x.aA.af,x.aA.ah,()),x.ag,()))) fun _=>rfl)
def anN:=(lc (qg 26) (lc (qg 147) (lc (qi .i64) (lc (qg 34) ln))))
def af7:An:= .no
theorem alQ:eW wG (akN) 0 300 169 (af7):=bV (l:=[]) func169 (bB (by kernel_rfl)) (by kernel_rfl) aC
def IW(a0:Flat)(a1:aB)(a2:Int)(a3:aD):Option alJ:=
 if([]++a1.ag).length<=1073741824 then if(0:Int)<=a2/\a2<(↑a0.ag.length:Int)then if(0:Int)<=a2/\a2<(↑a0.ag.length:Int)then match Xx a3 a0.ag[a2.toNat]!.aa a0.ag[a2.toNat]!.af with|wC=>wC|O r1=>if(0:Int)<=a2/\a2<(↑([]++a1.ag).length:Int)then if 34=34/\a2.toNat<([]++a1.ag).length then O (aB.mk (([]++a1.ag).set a2.toNat r1.fst) a1.au a1.ax a1.aA)else wC else wC else wC else wC else wC
theorem asx(a0:Flat)(a1:aB)(a2:Int)(a3:aD):bN wG (akN) 300 (af7) 169 (anN.c (a0,a1,a2,a3,())) [] 0 d169.rd=IW a0 a1 a2 a3:=by kernel_rfl
def api:aI->aI:=eZ wG 169 anN d169 (fun g=>IW g.1 g.2.1 g.2.2.1 g.2.2.2.1)
theorem ad4{F:aI}(h:bf wG F):bf wG (api F):=oT (dH Zu alQ (fun _=>by kernel_rfl) (fun _=>by kernel_rfl) fun g=>asx g.1 g.2.1 g.2.2.1 g.2.2.2.1) ⟨_,func169,by kernel_rfl,by kernel_rfl⟩ (fun _=>by kernel_rfl) h
def akS:aI:=(Zs (S7 (e32 cQ)))
theorem abp:bf wG akS:=(FC (pX (Bt aK)))
structure ot where
 t5:List aD
 (t12 t13:Int)
 b0:aB
 b1:aD
 b2:aB
def K5:Td 0 ot:= .c [] [2,3,4,5,12,13] (.r 0 4 (ec 2 (qp 0 0) (ec 3 (qp 1 0) (ec 4 (qp 2 0) (ec 5 (qo 3) (ec 12 (qi .i64) (ec 13 (qi .i64) en)))))) (sb 0 147 (lg 147) (sb 1 34 (lg 34) (sb 2 147 (lc qn (lc (qi .i64) (lc (qi .i64) (lc (qi .i64) (lc qn (lc (qi .i64) (lc (qi .i64) (lc (qi .i64) ln)))))))) (sr 3 34 sn)))) (fun z=>⟨z.2.2.2.2.1,z.1.2.2.2.2.1,z.1.2.2.2.2.2.1,z.2.1,z.2.2.1,(aB.mk [] (aD.mk z.2.2.2.1.2.1 z.2.2.2.1.2.2.1 z.2.2.2.1.2.2.2.1) [] (aD.mk z.2.2.2.1.2.2.2.2.2.1 z.2.2.2.1.2.2.2.2.2.2.1 z.2.2.2.1.2.2.2.2.2.2.2.1))⟩) (fun x=>(((),(),(),(),x.t12,x.t13,()),(x.b0,x.b1,((),x.b2.au.aa,x.b2.au.af,x.b2.au.ah,(),x.b2.aA.aa,x.b2.aA.af,x.b2.aA.ah,()),x.t5,()))) fun _=>rfl)
def HK(p:ot):Option (Option ot):=
 bif wF (p.t13<p.t12)then match m32 p.b0.au p.t13 with|wC=>wC|O r1=>bif r1 then if(0:Int)<=p.t13/\p.t13<(↑p.t5.length:Int)then if 34=34/\p.t13.toNat<p.t5.length then match jF p.t5[p.t13.toNat]! p.b1 with|wC=>wC|O r2=>if(0:Int)<=p.t13/\p.t13<(↑p.t5.length:Int)then if 34=34/\p.t13.toNat<p.t5.length then O (O (ot.mk (p.t5.set p.t13.toNat r2) p.t12 (i64.wrap (p.t13+1)) p.b0 p.b1 (aB.mk [] p.b2.au [] p.b2.aA)))else wC else wC else wC else wC else O (O (ot.mk p.t5 p.t12 (i64.wrap (p.t13+1)) p.b0 p.b1 (aB.mk [] p.b2.au [] p.b2.aA)))else O (wC)
def FD:ot->Option ot:=bw (HK)
abbrev aqz:Type:=aB
def d170:Td 0 aqz:= .c [] [4] (.r 0 2 (ec 4 (qp 0 0) en) (sb 0 147 (lc (ql 34) (lc (qi .i64) (lc (qi .i64) (lc (qi .i64) (lc (qo 1) (lc (qi .i64) (lc (qi .i64) (lc (qi .i64) ln)))))))) (sr 1 34 sn)) (fun z=>(aB.mk z.2.1.1 (aD.mk z.2.1.2.1 z.2.1.2.2.1 z.2.1.2.2.2.1) z.2.2.1 (aD.mk z.2.1.2.2.2.2.2.1 z.2.1.2.2.2.2.2.2.1 z.2.1.2.2.2.2.2.2.2.1))) (fun x=>(((),()),((x.ag,x.au.aa,x.au.af,x.au.ah,(),x.aA.aa,x.aA.af,x.aA.ah,()),x.ax,()))) fun _=>rfl)
def alN:=(lc (qg 147) (lc (qg 34) ln))
def afJ:An:=(.two .no (.two .no (.two (.two .no (K5.lp FD .no)) .no)))
theorem anP:eW wG (akS) 0 300 170 (afJ):=bV (l:=[(aU f170 0,(K5.lp FD .no))]) func170 (bB (by kernel_rfl)) (by kernel_rfl) (az (aO K5) aC)
def Sy(a0:aB)(a1:aD):Option aqz:=
 if([]++a0.ax).length<=1073741824 then match FD (ot.mk ([]++a0.ax) (↑([]++a0.ax).length:Int) (0) a0 a1 (aB.mk [] (aD.mk (0) (0) (0)) [] (aD.mk (0) (0) (0))))with|wC=>wC|O r3=>bif wF (r3.t13<r3.t12)then match m32 r3.b0.au r3.t13 with|wC=>wC|O r4=>bif r4 then if(0:Int)<=r3.t13/\r3.t13<(↑r3.t5.length:Int)then if 34=34/\r3.t13.toNat<r3.t5.length then match jF r3.t5[r3.t13.toNat]! r3.b1 with|wC=>wC|O r5=>if(0:Int)<=r3.t13/\r3.t13<(↑r3.t5.length:Int)then if 34=34/\r3.t13.toNat<r3.t5.length then wC else wC else wC else wC else wC else wC else if(r3.t5++[r3.b1]).length<=1073741824 then match Br r3.b0.au (1)with|wC=>wC|O r6=>O (aB.mk r3.b0.ag r6 (r3.t5++[r3.b1]) r3.b0.aA)else wC else wC
theorem ati(a0:aB)(a1:aD):bN wG (akS) 300 (afJ) 170 (alN.c (a0,a1,())) [] 0 d170.rd=Sy a0 a1:=by kernel_rfl
def aqs:aI->aI:=eZ wG 170 alN d170 (fun g=>Sy g.1 g.2.1)
theorem aay{F:aI}(h:bf wG F):bf wG (aqs F):=oT (dH abp anP (fun _=>by kernel_rfl) (fun _=>by kernel_rfl) fun g=>ati g.1 g.2.1) ⟨_,func170,by kernel_rfl,by kernel_rfl⟩ (fun _=>by kernel_rfl) h
abbrev AF:Type:=aB
def d88:Td 0 AF:= .c [] [8] (.r 0 1 (ec 8 (qp 0 0) en) (sb 0 147 (lg 147) sn) (fun z=>z.2.1) (fun x=>(((),()),(x,()))) fun _=>rfl)
def A88:=(lc (qg 26) (lc (ql 34) (lc (ql 166) (lc (qg 147) ln))))
def x88(M:Flat->(List aD)->(List GStep)->aB->Option AF):aI->aI:=eZ wG 88 A88 d88 (fun g=>M g.1 g.2.1 g.2.2.1 g.2.2.2.1)
def H88(M:Flat->(List aD)->(List GStep)->aB->Option AF):Prop:=HL wG 88 A88 d88 (fun g=>M g.1 g.2.1 g.2.2.1 g.2.2.2.1)
theorem Mr{M:Flat->(List aD)->(List GStep)->aB->Option AF}(hM:H88 M){F:aI}(h:bf wG F):bf wG (x88 M F):=oT hM ⟨_,func88,by kernel_rfl,by kernel_rfl⟩ (fun _=>by kernel_rfl) h
abbrev ki:Type:=aB
def d167:Td 0 ki:= .c [] [8] (.r 0 1 (ec 8 (qp 0 0) en) (sb 0 147 (lg 147) sn) (fun z=>z.2.1) (fun x=>(((),()),(x,()))) fun _=>rfl)
def agU:=(lc (qg 26) (lc (ql 34) (lc (qg 166) (lc (qg 147) ln))))
def apW(M:Flat->(List aD)->GStep->aB->Option ki):aI->aI:=eZ wG 167 agU d167 (fun g=>M g.1 g.2.1 g.2.2.1 g.2.2.2.1)
def acX(M:Flat->(List aD)->GStep->aB->Option ki):Prop:=HL wG 167 agU d167 (fun g=>M g.1 g.2.1 g.2.2.1 g.2.2.2.1)
theorem Yo{M:Flat->(List aD)->GStep->aB->Option ki}(hM:acX M){F:aI}(h:bf wG F):bf wG (apW M F):=oT hM ⟨_,func167,by kernel_rfl,by kernel_rfl⟩ (fun _=>by kernel_rfl) h
def F88(M88:Flat->(List aD)->(List GStep)->aB->Option AF)(M167:Flat->(List aD)->GStep->aB->Option ki):aI:=(aq3 (aiW (aqs (api (Zs (apW M167 (RU (x88 M88 (e87 cQ)))))))))
theorem ahy{M88 M167}(h88:H88 M88)(h167:acX M167):bf wG (F88 M88 M167):=(aap (QH (aay (ad4 (FC (Yo h167 (s9 (Mr h88 (Mm aK)))))))))
structure j7 where
 t1:List aD
 t13:List GStep
 (t14 t15:Int)
 b0:Flat
 (b1 b2:aB)
def W8:Td 0 j7:= .c [] [1,4,7,8,13,14,15] (.t (cq.fc 1 0 []) (.t (cq.fc 1 4 []) (.c [] [1,4,7,8,13,14,15] (.r 0 3 (ec 1 (ql 34) (ec 4 (qp 0 0) (ec 7 (qp 1 0) (ec 8 (qp 2 0) (ec 13 (ql 166) (ec 14 (qi .i64) (ec 15 (qi .i64) en))))))) (sb 0 26 (lg 26) (sb 1 147 (lg 147) (sb 2 147 (lc qn (lc (qi .i64) (lc (qi .i64) (lc (qi .i64) (lc qn (lc (qi .i64) (lc (qi .i64) (lc (qi .i64) ln)))))))) sn))) (fun z=>⟨z.1.1,z.1.2.2.2.2.1,z.1.2.2.2.2.2.1,z.1.2.2.2.2.2.2.1,z.2.1,z.2.2.1,(aB.mk [] (aD.mk z.2.2.2.1.2.1 z.2.2.2.1.2.2.1 z.2.2.2.1.2.2.2.1) [] (aD.mk z.2.2.2.1.2.2.2.2.2.1 z.2.2.2.1.2.2.2.2.2.2.1 z.2.2.2.1.2.2.2.2.2.2.2.1))⟩) (fun x=>((x.t1,(),(),(),x.t13,x.t14,x.t15,()),(x.b0,x.b1,((),x.b2.au.aa,x.b2.au.af,x.b2.au.ah,(),x.b2.aA.aa,x.b2.aA.af,x.b2.aA.ah,()),()))) fun _=>rfl))))
def N7(M88:Flat->(List aD)->(List GStep)->aB->Option AF)(M167:Flat->(List aD)->GStep->aB->Option ki)(p:j7):Option (Option j7):=
 bif wF (p.t15<p.t14)then if(0:Int)<=p.t15/\p.t15<(↑p.t13.length:Int)then bif wF (p.t13[p.t15.toNat]!.bH=4)then match M167 p.b0 p.t1 (GStep.mk p.t13[p.t15.toNat]!.bH p.t13[p.t15.toNat]!.aL p.t13[p.t15.toNat]!.cG p.t13[p.t15.toNat]!.fN (aq.mk p.t13[p.t15.toNat]!.ay.aW p.t13[p.t15.toNat]!.ay.fN p.t13[p.t15.toNat]!.ay.ak) p.t13[p.t15.toNat]!.aG p.t13[p.t15.toNat]!.aJ p.t13[p.t15.toNat]!.aH) p.b1 with|wC=>wC|O r1=>O (O (j7.mk p.t1 p.t13 p.t14 (i64.wrap (p.t15+1)) p.b0 r1 (aB.mk [] p.b2.au [] p.b2.aA)))else match Br p.b1.aA p.t13[p.t15.toNat]!.aL with|wC=>wC|O r2=>bif wF (p.t13[p.t15.toNat]!.bH=0)then match KS (aB.mk p.b1.ag p.b1.au p.b1.ax r2) (aq.mk p.t13[p.t15.toNat]!.ay.aW p.t13[p.t15.toNat]!.ay.fN p.t13[p.t15.toNat]!.ay.ak)with|wC=>wC|O r3=>match IW p.b0 (aB.mk p.b1.ag p.b1.au p.b1.ax r2) p.t13[p.t15.toNat]!.cG r3 with|wC=>wC|O r4=>O (O (j7.mk p.t1 p.t13 p.t14 (i64.wrap (p.t15+1)) p.b0 r4 (aB.mk [] p.b2.au [] p.b2.aA)))else bif wF (p.t13[p.t15.toNat]!.bH=5)then if(0:Int)<=p.t13[p.t15.toNat]!.fN/\p.t13[p.t15.toNat]!.fN<(↑p.t1.length:Int)then match IW p.b0 (aB.mk p.b1.ag p.b1.au p.b1.ax r2) p.t13[p.t15.toNat]!.cG p.t1[p.t13[p.t15.toNat]!.fN.toNat]! with|wC=>wC|O r5=>O (O (j7.mk p.t1 p.t13 p.t14 (i64.wrap (p.t15+1)) p.b0 r5 (aB.mk [] p.b2.au [] p.b2.aA)))else wC else bif wF (p.t13[p.t15.toNat]!.bH=1)then match KS (aB.mk p.b1.ag p.b1.au p.b1.ax r2) (aq.mk p.t13[p.t15.toNat]!.ay.aW p.t13[p.t15.toNat]!.ay.fN p.t13[p.t15.toNat]!.ay.ak)with|wC=>wC|O r6=>match Sy (aB.mk p.b1.ag p.b1.au p.b1.ax r2) r6 with|wC=>wC|O r7=>O (O (j7.mk p.t1 p.t13 p.t14 (i64.wrap (p.t15+1)) p.b0 r7 (aB.mk [] p.b2.au [] p.b2.aA)))else bif wF (p.t13[p.t15.toNat]!.bH=3)then match KS (aB.mk p.b1.ag p.b1.au p.b1.ax r2) (aq.mk p.t13[p.t15.toNat]!.ay.aW p.t13[p.t15.toNat]!.ay.fN p.t13[p.t15.toNat]!.ay.ak)with|wC=>wC|O r8=>match BL r8 with|wC=>wC|O r9=>bif bif r9.fst then wD else wE then match M88 p.b0 p.t1 p.t13[p.t15.toNat]!.aG (aB.mk p.b1.ag p.b1.au p.b1.ax r2)with|wC=>wC|O r10=>O (O (j7.mk p.t1 p.t13 p.t14 (i64.wrap (p.t15+1)) p.b0 r10 (aB.mk [] p.b2.au [] p.b2.aA)))else bif bif r9.snd then wD else wE then match M88 p.b0 p.t1 p.t13[p.t15.toNat]!.aJ (aB.mk p.b1.ag p.b1.au p.b1.ax r2)with|wC=>wC|O r11=>O (O (j7.mk p.t1 p.t13 p.t14 (i64.wrap (p.t15+1)) p.b0 r11 (aB.mk [] p.b2.au [] p.b2.aA)))else match M88 p.b0 p.t1 p.t13[p.t15.toNat]!.aG (aB.mk p.b1.ag p.b1.au p.b1.ax r2)with|wC=>wC|O r12=>match M88 p.b0 p.t1 p.t13[p.t15.toNat]!.aJ (aB.mk p.b1.ag p.b1.au p.b1.ax r2)with|wC=>wC|O r13=>match K3 r12 r13 with|wC=>wC|O r14=>O (O (j7.mk p.t1 p.t13 p.t14 (i64.wrap (p.t15+1)) p.b0 r14 (aB.mk [] p.b2.au [] p.b2.aA)))else bif wF (p.t13[p.t15.toNat]!.bH=6)then match J9 r2 p.t13[p.t15.toNat]!.aH with|wC=>wC|O r15=>O (O (j7.mk p.t1 p.t13 p.t14 (i64.wrap (p.t15+1)) p.b0 (aB.mk p.b1.ag p.b1.au p.b1.ax r15.fst) (aB.mk [] p.b2.au [] p.b2.aA)))else O (O (j7.mk p.t1 p.t13 p.t14 (i64.wrap (p.t15+1)) p.b0 (aB.mk p.b1.ag p.b1.au p.b1.ax r2) (aB.mk [] p.b2.au [] p.b2.aA)))else wC else O (wC)
def OL(M88:Flat->(List aD)->(List GStep)->aB->Option AF)(M167:Flat->(List aD)->GStep->aB->Option ki):j7->Option j7:=bw (N7 M88 M167)
def amG(M88:Flat->(List aD)->(List GStep)->aB->Option AF)(M167:Flat->(List aD)->GStep->aB->Option ki):An:=(.two .no (.two (.two .no (W8.lp (OL M88 M167) .no)) .no))
theorem ar8(M88:Flat->(List aD)->(List GStep)->aB->Option AF)(M167:Flat->(List aD)->GStep->aB->Option ki):eW wG (F88 M88 M167) 0 300 88 (amG M88 M167):=bV (l:=[(aU f88 0,(W8.lp (OL M88 M167) .no))]) func88 (bB (by kernel_rfl)) (by kernel_rfl) (az (aO W8) aC)
def s88(M88:Flat->(List aD)->(List GStep)->aB->Option AF)(M167:Flat->(List aD)->GStep->aB->Option ki)(a0:Flat)(a1:List aD)(a2:List GStep)(a3:aB):Option AF:=
 match OL M88 M167 (j7.mk a1 a2 (↑a2.length:Int) (0) a0 a3 (aB.mk [] (aD.mk (0) (0) (0)) [] (aD.mk (0) (0) (0))))with|wC=>wC|O r16=>bif wF (r16.t15<r16.t14)then if(0:Int)<=r16.t15/\r16.t15<(↑r16.t13.length:Int)then bif wF (r16.t13[r16.t15.toNat]!.bH=4)then match M167 r16.b0 r16.t1 (GStep.mk r16.t13[r16.t15.toNat]!.bH r16.t13[r16.t15.toNat]!.aL r16.t13[r16.t15.toNat]!.cG r16.t13[r16.t15.toNat]!.fN (aq.mk r16.t13[r16.t15.toNat]!.ay.aW r16.t13[r16.t15.toNat]!.ay.fN r16.t13[r16.t15.toNat]!.ay.ak) r16.t13[r16.t15.toNat]!.aG r16.t13[r16.t15.toNat]!.aJ r16.t13[r16.t15.toNat]!.aH) r16.b1 with|wC=>wC|O r17=>wC else match Br r16.b1.aA r16.t13[r16.t15.toNat]!.aL with|wC=>wC|O r18=>bif wF (r16.t13[r16.t15.toNat]!.bH=0)then match KS (aB.mk r16.b1.ag r16.b1.au r16.b1.ax r18) (aq.mk r16.t13[r16.t15.toNat]!.ay.aW r16.t13[r16.t15.toNat]!.ay.fN r16.t13[r16.t15.toNat]!.ay.ak)with|wC=>wC|O r19=>match IW r16.b0 (aB.mk r16.b1.ag r16.b1.au r16.b1.ax r18) r16.t13[r16.t15.toNat]!.cG r19 with|wC=>wC|O r20=>wC else bif wF (r16.t13[r16.t15.toNat]!.bH=5)then if(0:Int)<=r16.t13[r16.t15.toNat]!.fN/\r16.t13[r16.t15.toNat]!.fN<(↑r16.t1.length:Int)then match IW r16.b0 (aB.mk r16.b1.ag r16.b1.au r16.b1.ax r18) r16.t13[r16.t15.toNat]!.cG r16.t1[r16.t13[r16.t15.toNat]!.fN.toNat]! with|wC=>wC|O r21=>wC else wC else bif wF (r16.t13[r16.t15.toNat]!.bH=1)then match KS (aB.mk r16.b1.ag r16.b1.au r16.b1.ax r18) (aq.mk r16.t13[r16.t15.toNat]!.ay.aW r16.t13[r16.t15.toNat]!.ay.fN r16.t13[r16.t15.toNat]!.ay.ak)with|wC=>wC|O r22=>match Sy (aB.mk r16.b1.ag r16.b1.au r16.b1.ax r18) r22 with|wC=>wC|O r23=>wC else bif wF (r16.t13[r16.t15.toNat]!.bH=3)then match KS (aB.mk r16.b1.ag r16.b1.au r16.b1.ax r18) (aq.mk r16.t13[r16.t15.toNat]!.ay.aW r16.t13[r16.t15.toNat]!.ay.fN r16.t13[r16.t15.toNat]!.ay.ak)with|wC=>wC|O r24=>match BL r24 with|wC=>wC|O r25=>bif bif r25.fst then wD else wE then match M88 r16.b0 r16.t1 r16.t13[r16.t15.toNat]!.aG (aB.mk r16.b1.ag r16.b1.au r16.b1.ax r18)with|wC=>wC|O r26=>wC else bif bif r25.snd then wD else wE then match M88 r16.b0 r16.t1 r16.t13[r16.t15.toNat]!.aJ (aB.mk r16.b1.ag r16.b1.au r16.b1.ax r18)with|wC=>wC|O r27=>wC else match M88 r16.b0 r16.t1 r16.t13[r16.t15.toNat]!.aG (aB.mk r16.b1.ag r16.b1.au r16.b1.ax r18)with|wC=>wC|O r28=>match M88 r16.b0 r16.t1 r16.t13[r16.t15.toNat]!.aJ (aB.mk r16.b1.ag r16.b1.au r16.b1.ax r18)with|wC=>wC|O r29=>match K3 r28 r29 with|wC=>wC|O r30=>wC else bif wF (r16.t13[r16.t15.toNat]!.bH=6)then match J9 r18 r16.t13[r16.t15.toNat]!.aH with|wC=>wC|O r31=>wC else wC else wC else O (r16.b1)
theorem c88(M88:Flat->(List aD)->(List GStep)->aB->Option AF)(M167:Flat->(List aD)->GStep->aB->Option ki)(a0:Flat)(a1:List aD)(a2:List GStep)(a3:aB):bN wG (F88 M88 M167) 300 (amG M88 M167) 88 (A88.c (a0,a1,a2,a3,())) [] 0 d88.rd=s88 M88 M167 a0 a1 a2 a3:=by kernel_rfl
def aik(M88:Flat->(List aD)->(List GStep)->aB->Option AF)(M167:Flat->(List aD)->GStep->aB->Option ki):aI:=(TV (Zs (RU (x88 M88 (e87 cQ)))))
theorem ael{M88 M167}(h88:H88 M88)(h167:acX M167):bf wG (aik M88 M167):=(aaE (FC (s9 (Mr h88 (Mm aK)))))
structure o5 where
 t1:List aD
 t9:List aB
 (t13 t14:Int)
 b0:Flat
 b1:GStep
 (b2 b3:aB)
def MF:Td 0 o5:= .c [] [1,4,6,7,8,9,13,14] (.t (cq.s 9 [] 147) (.c [] [1,4,6,7,8,9,13,14] (.r 0 5 (ec 1 (ql 34) (ec 4 (qp 0 0) (ec 6 (qp 1 0) (ec 7 (qp 2 0) (ec 8 (qp 3 0) (ec 9 (qo 4) (ec 13 (qi .i64) (ec 14 (qi .i64) en)))))))) (sb 0 26 (lg 26) (sb 1 166 (lg 166) (sb 2 147 (lg 147) (sb 3 147 (lc qn (lc (qi .i64) (lc (qi .i64) (lc (qi .i64) (lc qn (lc (qi .i64) (lc (qi .i64) (lc (qi .i64) ln)))))))) (sr 4 147 sn))))) (fun z=>⟨z.1.1,z.2.2.2.2.2.1,z.1.2.2.2.2.2.2.1,z.1.2.2.2.2.2.2.2.1,z.2.1,z.2.2.1,z.2.2.2.1,(aB.mk [] (aD.mk z.2.2.2.2.1.2.1 z.2.2.2.2.1.2.2.1 z.2.2.2.2.1.2.2.2.1) [] (aD.mk z.2.2.2.2.1.2.2.2.2.2.1 z.2.2.2.2.1.2.2.2.2.2.2.1 z.2.2.2.2.1.2.2.2.2.2.2.2.1))⟩) (fun x=>((x.t1,(),(),(),(),(),x.t13,x.t14,()),(x.b0,x.b1,x.b2,((),x.b3.au.aa,x.b3.au.af,x.b3.au.ah,(),x.b3.aA.aa,x.b3.aA.af,x.b3.aA.ah,()),x.t9,()))) fun _=>rfl)))
def vE(M88:Flat->(List aD)->(List GStep)->aB->Option AF)(M167:Flat->(List aD)->GStep->aB->Option ki)(p:o5):Option (Option o5):=
 bif wF (p.t14<p.t13)then match Br p.b2.aA p.b1.aL with|wC=>wC|O r1=>match KS (aB.mk p.b2.ag p.b2.au p.b2.ax r1) (aq.mk p.b1.ay.aW p.b1.ay.fN p.b1.ay.ak)with|wC=>wC|O r2=>match BL r2 with|wC=>wC|O r3=>bif r3.fst then if(p.t9++[aB.mk p.b2.ag p.b2.au p.b2.ax r1]).length<=1073741824 then bif bif r3.snd then wD else wE then match Gk (p.t9++[aB.mk p.b2.ag p.b2.au p.b2.ax r1])with|wC=>wC|O r4=>O (wC)else match M88 p.b0 p.t1 p.b1.aG (aB.mk p.b2.ag p.b2.au p.b2.ax r1)with|wC=>wC|O r5=>O (O (o5.mk p.t1 (p.t9++[aB.mk p.b2.ag p.b2.au p.b2.ax r1]) p.t13 (i64.wrap (p.t14+1)) p.b0 (GStep.mk p.b1.bH p.b1.aL p.b1.cG p.b1.fN (aq.mk p.b1.ay.aW p.b1.ay.fN p.b1.ay.ak) p.b1.aG p.b1.aJ p.b1.aH) r5 (aB.mk [] p.b3.au [] p.b3.aA)))else wC else bif bif r3.snd then wD else wE then match Gk p.t9 with|wC=>wC|O r6=>O (wC)else match M88 p.b0 p.t1 p.b1.aG (aB.mk p.b2.ag p.b2.au p.b2.ax r1)with|wC=>wC|O r7=>O (O (o5.mk p.t1 p.t9 p.t13 (i64.wrap (p.t14+1)) p.b0 (GStep.mk p.b1.bH p.b1.aL p.b1.cG p.b1.fN (aq.mk p.b1.ay.aW p.b1.ay.fN p.b1.ay.ak) p.b1.aG p.b1.aJ p.b1.aH) r7 (aB.mk [] p.b3.au [] p.b3.aA)))else O (wC)
def FK(M88:Flat->(List aD)->(List GStep)->aB->Option AF)(M167:Flat->(List aD)->GStep->aB->Option ki):o5->Option o5:=bw (vE M88 M167)
def af3(M88:Flat->(List aD)->(List GStep)->aB->Option AF)(M167:Flat->(List aD)->GStep->aB->Option ki):An:=(.two .no (.two .no (.two (.two .no (MF.lp (FK M88 M167) .no)) .no)))
theorem aoc(M88:Flat->(List aD)->(List GStep)->aB->Option AF)(M167:Flat->(List aD)->GStep->aB->Option ki):eW wG (aik M88 M167) 0 300 167 (af3 M88 M167):=bV (l:=[(aU f167 0,(MF.lp (FK M88 M167) .no))]) func167 (bB (by kernel_rfl)) (by kernel_rfl) (az (aO MF) aC)
def ab7(M88:Flat->(List aD)->(List GStep)->aB->Option AF)(M167:Flat->(List aD)->GStep->aB->Option ki)(a0:Flat)(a1:List aD)(a2:GStep)(a3:aB):Option ki:=
 match FK M88 M167 (o5.mk a1 [] a2.fN (0) a0 (GStep.mk a2.bH a2.aL a2.cG a2.fN (aq.mk a2.ay.aW a2.ay.fN a2.ay.ak) a2.aG a2.aJ a2.aH) a3 (aB.mk [] (aD.mk (0) (0) (0)) [] (aD.mk (0) (0) (0))))with|wC=>wC|O r8=>bif wF (r8.t14<r8.t13)then match Br r8.b2.aA r8.b1.aL with|wC=>wC|O r9=>match KS (aB.mk r8.b2.ag r8.b2.au r8.b2.ax r9) (aq.mk r8.b1.ay.aW r8.b1.ay.fN r8.b1.ay.ak)with|wC=>wC|O r10=>match BL r10 with|wC=>wC|O r11=>bif r11.fst then if(r8.t9++[aB.mk r8.b2.ag r8.b2.au r8.b2.ax r9]).length<=1073741824 then bif bif r11.snd then wD else wE then match Gk (r8.t9++[aB.mk r8.b2.ag r8.b2.au r8.b2.ax r9])with|wC=>wC|O r12=>O (r12)else match M88 r8.b0 r8.t1 r8.b1.aG (aB.mk r8.b2.ag r8.b2.au r8.b2.ax r9)with|wC=>wC|O r13=>wC else wC else bif bif r11.snd then wD else wE then match Gk r8.t9 with|wC=>wC|O r14=>O (r14)else match M88 r8.b0 r8.t1 r8.b1.aG (aB.mk r8.b2.ag r8.b2.au r8.b2.ax r9)with|wC=>wC|O r15=>wC else if(r8.t9++[r8.b2]).length<=1073741824 then match Gk (r8.t9++[r8.b2])with|wC=>wC|O r16=>O (r16)else wC
theorem asr(M88:Flat->(List aD)->(List GStep)->aB->Option AF)(M167:Flat->(List aD)->GStep->aB->Option ki)(a0:Flat)(a1:List aD)(a2:GStep)(a3:aB):bN wG (aik M88 M167) 300 (af3 M88 M167) 167 (agU.c (a0,a1,a2,a3,())) [] 0 d167.rd=ab7 M88 M167 a0 a1 a2 a3:=by kernel_rfl
def lW:Nat->(Flat->(List aD)->(List GStep)->aB->Option AF)×(Flat->(List aD)->GStep->aB->Option ki)
 |0=>(fun _ _ _ _=>wC,fun _ _ _ _=>wC)
 |n+1=>(s88 (lW n).1 (lW n).2,ab7 (lW n).1 (lW n).2)
def Xw(n:Nat):Flat->(List aD)->(List GStep)->aB->Option AF:=(lW n).1
def Kz(n:Nat):Flat->(List aD)->GStep->aB->Option ki:=(lW n).2
theorem wN:∀n,H88 (Xw n)/\acX (Kz n)
 |0=>⟨fun _ _ h=>(by cases h),fun _ _ h=>(by cases h)⟩
 |n+1=>by
  have ih:=wN n
  obtain⟨i88,i167⟩:=ih
  refine⟨?_,?_⟩
  ·exact(dH (ahy i88 i167) (ar8 (Xw n) (Kz n)) (fun _=>by kernel_rfl) (fun _=>by kernel_rfl) fun g=>c88 (Xw n) (Kz n) g.1 g.2.1 g.2.2.1 g.2.2.2.1)
  ·exact(dH (ael i88 i167) (aoc (Xw n) (Kz n)) (fun _=>by kernel_rfl) (fun _=>by kernel_rfl) fun g=>asr (Xw n) (Kz n) g.1 g.2.1 g.2.2.1 g.2.2.2.1)
def r88:Flat->(List aD)->(List GStep)->aB->Option AF:=fun a0 a1 a2 a3=>lim (fun n=>Xw n a0 a1 a2 a3)
theorem akD:H88 r88:=fun g b h=>by
 obtain⟨n,hn⟩:=cD (show lim (fun n=>Xw n g.1 g.2.1 g.2.2.1 g.2.2.2.1)=O b from h)
 exact(wN n).1 g b hn
def e88(F:aI):aI:=x88 r88 F
theorem aiZ{F:aI}(h:bf wG F):bf wG (e88 F):=Mr akD h
end Go.Proofs.YtnfljbehcffmcaaGreat
end
noncomputable section
namespace Go.Proofs.YtnfljbehcffmcaaGreat
open Go Go.Iv
theorem WM{l:List aD}(h:l.length<=1000000):m40 l=O l:=by unfold m40;rw[fK]
theorem qw{s:aj}(h1:s.ag.length<=1000000)(h2:s.ax.length<=1000000):DC s=O s:=by
 unfold DC
 rw[WM h1]
 dsimp only
 rw[WM h2]
theorem M5{n m:Nat}{s:aj}(h:cI n m s){c:Int}(hc:bO c):IP s c=O (ek s c):=by
 obtain⟨z,e,_,_⟩:=mJ 8 h.time (iw hc)
 unfold IP ek
 rw[p8,e]
theorem Fm{a:aD}(h:NN a){c:Int}(hc:bO c):Br a c=O (jb 8 a (cR c)):=by
 obtain⟨z,_,e,_⟩:=mJ 8 h (iw hc)
 unfold Br
 rw[AW,e]
theorem U2{r:Runner}{m:Nat}{s:aj}(h:cI r.fF.ag.length m s)(hn:r.fF.ag.length<=1000000)(hm:m<=1000000){v:Int}{x:aD}(h1:0<=v)(h2:v<r.fF.ag.length)(hx:NN x):NF r s v x=O (Hj r.fF s v x):=by
 have hl:=h.len
 have hs:=h.sl
 obtain⟨z,e,_,_⟩:=fE hx r.fF.ag[v.toNat]!.aa r.fF.ag[v.toNat]!.af
 unfold NF Hj
 rw[qw (by omega) (by omega)]
 dsimp only
 rw[if_pos ⟨h1,h2⟩,e]
 dsimp only
 rw[fK,if_pos ⟨rfl,by omega⟩]
theorem V7{f:Flat}{m:Nat}{s:aj}(h:cI f.ag.length m s)(hn:f.ag.length<=1000000){v:Int}{x:aD}(h1:0<=v)(h2:v<f.ag.length)(hx:NN x):IW f (tr s) v x=O (tr (Hj f s v x)):=by
 have hl:=h.len
 obtain⟨z,_,e,_⟩:=fE hx f.ag[v.toNat]!.aa f.ag[v.toNat]!.af
 unfold IW Hj tr
 dsimp only
 simp only[z8]
 rw[fK,if_pos ⟨h1,h2⟩,if_pos ⟨h1,h2⟩,e]
 dsimp only
 rw[fK,if_pos ⟨trivial,by omega⟩]
theorem Ib{vars:List aN}{inp:Bool}{m:Nat}{st:aj}(hst:cI vars.length m st){t:aq}(hc:di vars inp t=0):LY st t=O (bS st.ag t):=by
 have e:ad3 t st=O (bS st.ag t,st):=dy (SizeOf.sizeOf t+1) fun n hn=>(BN hst n t (by omega) (kJ hc).1 (kJ hc).2).1
 unfold LY
 rw[aq.eta,e]
def Ab(s:aj)(v:aD)(i:Nat):List aD:=iD s.ax.length (fun k=>if k<i/\bQ s.au k=wE then bJ s.ax[k]! v else s.ax[k]!)
theorem uc(s:aj)(v:aD)(i:Nat):(Ab s v i).length=s.ax.length:=dF ..
theorem U7(s:aj)(v:aD):Ab s v 0=s.ax:=Lr rfl fun i _=>by rw[if_neg (fun h=>by omega)]
theorem IV(s:aj)(v:aD):Ab s v s.ax.length=iD s.ax.length (fun k=>if bQ s.au k=wE then bJ s.ax[k]! v else s.ax[k]!):=gq fun i hi=>by
 by_cases c:bQ s.au (i:Nat)=wE
 ·rw[if_pos ⟨hi,c⟩,if_pos c]
 ·rw[if_neg (fun h=>c h.2),if_neg c]
theorem JY{s:aj}{v:aD}{i:Nat}(h:i<s.ax.length):(Ab s v i)[i]! =s.ax[i]! :=by
 rw[Ab,jJ h,if_neg (fun h=>by omega)]
theorem Ia{s:aj}{v:aD}{i:Nat}(c:bQ s.au (i:Nat)=wE):(Ab s v i).set i (bJ s.ax[i]! v)=Ab s v (i+1):=by
 rw[Ab,E8]
 refine gq fun j _=> ?_
 by_cases e:j=i
 ·subst e;rw[if_pos rfl,if_pos ⟨by omega,c⟩]
 ·rw[if_neg e]
  by_cases c2:j<i/\bQ s.au (j:Nat)=wE
  ·rw[if_pos c2,if_pos ⟨by omega,c2.2⟩]
  ·rw[if_neg c2,if_neg (fun h=>c2 ⟨by omega,h.2⟩)]
theorem PM{s:aj}{v:aD}{i:Nat}(c:bQ s.au (i:Nat)=wD):Ab s v i=Ab s v (i+1):=by
 refine gq fun j _=> ?_
 by_cases e:j=i
 ·subst e;rw[if_neg (fun h=>by omega),if_neg (fun h=>by rw[c]at h;cases h.2)]
 ·by_cases c2:j<i/\bQ s.au (j:Nat)=wE
  ·rw[if_pos c2,if_pos ⟨by omega,c2.2⟩]
  ·rw[if_neg c2,if_neg (fun h=>c2 ⟨by omega,h.2⟩)]
theorem aio{n m:Nat}{s:aj}(h:cI n m s)(hn:n<=1000000)(hm:m<=1000000){x:aD}(hx:NN x):Tz s x=O (DH s x):=by
 have hs:=h.sl
 have hl:=h.len
 obtain⟨v,e1,_⟩:=cz (rnd:=Fl) s.ax.length (fun i (_:Unit)=>⟨(s.ax.length:Int),(i:Int),⟨s.ag,s.au,Ab s x i,s.aA⟩,x,⟨[],⟨0,0,0⟩,[],⟨0,0,0⟩⟩⟩) (fun i _=>True) (fun i b hi _=>by
  have hw:=fq hi (by omega)
  have i1:(i:Int)<(s.ax.length:Int):=by omega
  have i2:(0:Int)<=(i:Int):=by omega
  refine⟨(),?_,trivial⟩
  unfold Fl
  dsimp only
  by_cases hc:bQ s.au (i:Nat)=wE
  ·simp only[za,i1,i2,hi,decide_true,cond_true,and_self,if_true,oU (.inr h.count),hc,uc,JY hi,mL (.inr (h.slots i hi)) (.inr hx),hw,Ia hc]
  ·have hc:bQ s.au (i:Nat)=wD:=by simpa using hc
   simp only[i1,decide_true,cond_true,cond_false,oU (.inr h.count),hc,hw,PM hc]) (fun b _=>by unfold Fl;simp) (b:=()) trivial
 rw[U7]at e1
 have e1':FX ⟨(s.ax.length:Int),0,s,x,⟨[],⟨0,0,0⟩,[],⟨0,0,0⟩⟩⟩=_:=e1
 obtain⟨z,eb,_,_⟩:=mJ 8 h.count (iw (c:=1) ⟨by decide,by decide⟩)
 unfold Tz
 rw[qw (by omega) (by omega)]
 dsimp only
 rw[e1']
 dsimp only
 rw[dZ,cond_false,if_pos (by rw[zh,uc];simp;omega),p8,eb,IV]
 rfl
theorem aiR{n m:Nat}{s:aj}(h:cI n m s)(hm:m<=1000000){x:aD}(hx:NN x):Sy (tr s) x=O (tr (DH s x)):=by
 have hs:=h.sl
 obtain⟨v,e1,_⟩:=cz (rnd:=HK) s.ax.length (fun i (_:Unit)=>⟨Ab s x i,(s.ax.length:Int),(i:Int),tr s,x,⟨[],⟨0,0,0⟩,[],⟨0,0,0⟩⟩⟩) (fun i _=>True) (fun i b hi _=>by
  have hw:=fq hi (by omega)
  have i1:(i:Int)<(s.ax.length:Int):=by omega
  have i2:(0:Int)<=(i:Int):=by omega
  refine⟨(),?_,trivial⟩
  unfold HK
  dsimp only[tr]
  by_cases hc:bQ s.au (i:Nat)=wE
  ·simp only[za,i1,i2,hi,decide_true,cond_true,and_self,if_true,iQ (.inr h.count),hc,uc,JY hi,e9 (.inr (h.slots i hi)) (.inr hx),hw,Ia hc]
  ·have hc:bQ s.au (i:Nat)=wD:=by simpa using hc
   simp only[i1,decide_true,cond_true,cond_false,iQ (.inr h.count),hc,hw,PM hc]) (fun b _=>by unfold HK;simp) (b:=()) trivial
 rw[U7]at e1
 have e1':FD ⟨s.ax,(s.ax.length:Int),0,tr s,x,⟨[],⟨0,0,0⟩,[],⟨0,0,0⟩⟩⟩=_:=e1
 unfold Sy
 rw[show (tr s).ax=s.ax from rfl]
 simp only[z8]
 rw[fK,e1']
 dsimp only
 rw[dZ,cond_false,if_pos (by rw[zh,uc];simp;omega),show (tr s).au=s.au from rfl,Fm h.count ⟨by decide,by decide⟩,IV]
 rfl
def Cc(a b:List aD)(i:Nat):List aD:=iD a.length (fun k=>if k<i then bJ a[k]! b[k]! else a[k]!)
theorem U8(a b:List aD)(i:Nat):(Cc a b i).length=a.length:=dF ..
theorem aks(a b:List aD):Cc a b 0=a:=Lr rfl fun i _=>by rw[nH]
theorem WD(a b:List aD):Cc a b a.length=iD a.length (fun k=>bJ a[k]! b[k]!):=gq fun i hi=>by rw[if_pos hi]
theorem W1{a b:List aD}{i:Nat}(h:i<a.length):(Cc a b i)[i]! =a[i]! :=by rw[Cc,jJ h,nH]
theorem Vq(a b:List aD)(i:Nat):(Cc a b i).set i (bJ a[i]! b[i]!)=Cc a b (i+1):=by
 rw[Cc,E8]
 refine gq fun j _=> ?_
 by_cases e:j=i
 ·subst e;rw[if_pos rfl,fK]
 ·rw[if_neg e]
  by_cases c:j<i
  ·rw[if_pos c,fK]
  ·rw[if_neg c,nH]
def nQ(a b:List aD)(i:Nat):List aD:=iD (max a.length i) (fun k=>if k<i then KK a b k else a[k]!)
theorem C7(a b:List aD)(i:Nat):(nQ a b i).length=max a.length i:=dF ..
theorem ahs(a b:List aD):nQ a b 0=a:=Lr (by omega) fun i _=>by rw[nH]
theorem Ti(a b:List aD):nQ a b b.length=iD (max a.length b.length) (KK a b):=gq fun i hi=>by
 by_cases c:i<b.length
 ·rw[if_pos c]
 ·rw[if_neg c]
  unfold KK
  rw[nH,fK]
theorem Vh{a b:List aD}{i:Nat}(h:i<a.length):(nQ a b i)[i]! =a[i]! :=by rw[nQ,jJ (by omega),nH]
theorem V9{a b:List aD}{i:Nat}(h:i<a.length)(k:i<b.length):(nQ a b i).set i (bJ a[i]! b[i]!)=nQ a b (i+1):=by
 rw[nQ,E8,nQ,show max a.length i=max a.length (i+1)by omega]
 refine gq fun j _=> ?_
 by_cases e:j=i
 ·subst e;rw[if_pos rfl,fK];unfold KK;rw[nH,nH]
 ·rw[if_neg e]
  by_cases c:j<i
  ·rw[if_pos c,fK]
  ·rw[if_neg c,nH]
theorem TY{a b:List aD}{i:Nat}(h:a.length<=i):nQ a b i++[b[i]!]=nQ a b (i+1):=by
 rw[nQ,nQ,show max a.length i=i by omega,show max a.length (i+1)=i+1 by omega,oc]
 congr 1
 ·refine gq fun j hj=> ?_
  rw[if_pos hj,fK]
 ·rw[fK]
  unfold KK
  rw[if_pos h]
theorem TL{n m:Nat}{s t:aj}(h:cI n m s)(k:cI n m t)(hn:n<=1000000)(hm:m<=1000000):Fg s t=O (iE s t):=by
 have hs:=h.sl
 have hl:=h.len
 have ks:=k.sl
 have kl:=k.len
 obtain⟨v,e1,_⟩:=cz (rnd:=GA) s.ag.length (fun i (_:Unit)=>⟨(s.ag.length:Int),(i:Int),t,⟨[],⟨0,0,0⟩,[],⟨0,0,0⟩⟩,⟨Cc s.ag t.ag i,s.au,s.ax,s.aA⟩⟩) (fun i _=>True) (fun i b hi _=>by
  have hw:=fq hi (by omega)
  have i1:(i:Int)<(s.ag.length:Int):=by omega
  have i2:(0:Int)<=(i:Int):=by omega
  have i3:(i:Int)<(t.ag.length:Int):=by omega
  refine⟨(),?_,trivial⟩
  unfold GA
  dsimp only
  simp only[za,i1,i2,i3,hi,decide_true,cond_true,and_self,if_true,U8,W1 hi,mL (.inr (h.vars i (by omega))) (.inr (k.vars i (by omega))),hw,Vq]) (fun b _=>by unfold GA;simp) (b:=()) trivial
 rw[aks]at e1
 have e1':GZ ⟨(s.ag.length:Int),0,t,⟨[],⟨0,0,0⟩,[],⟨0,0,0⟩⟩,s⟩=_:=e1
 obtain⟨v2,e2,_⟩:=cz (rnd:=HU) t.ax.length (fun i (_:Unit)=>⟨t.ax,(t.ax.length:Int),(i:Int),⟨[],⟨0,0,0⟩,[],⟨0,0,0⟩⟩,⟨Cc s.ag t.ag s.ag.length,bJ s.au t.au,nQ s.ax t.ax i,bJ s.aA t.aA⟩⟩) (fun i _=>True) (fun i b hi _=>by
  have hw:=fq hi (by omega)
  have i1:(i:Int)<(t.ax.length:Int):=by omega
  have i2:(0:Int)<=(i:Int):=by omega
  refine⟨(),?_,trivial⟩
  unfold HU
  dsimp only
  by_cases c:i<s.ax.length
  ·have i3:(i:Int)<((nQ s.ax t.ax i).length:Int):=by rw[C7];omega
   have i4:i<(nQ s.ax t.ax i).length:=by omega
   simp only[za,i1,i2,i3,i4,decide_true,cond_true,and_self,if_true,Vh c,mL (.inr (h.slots i c)) (.inr (k.slots i hi)),hw,V9 c hi]
  ·have i3:¬(i:Int)<((nQ s.ax t.ax i).length:Int):=by rw[C7];omega
   have i4:(nQ s.ax t.ax (i+1)).length<=1073741824:=by rw[C7];omega
   simp only[za,i1,i2,i3,i4,decide_true,decide_false,cond_true,cond_false,and_self,if_true,hw,TY (show s.ax.length<=i by omega)]) (fun b _=>by unfold HU;simp) (b:=()) trivial
 rw[ahs]at e2
 have e2':Gc ⟨t.ax,(t.ax.length:Int),0,⟨[],⟨0,0,0⟩,[],⟨0,0,0⟩⟩,⟨Cc s.ag t.ag s.ag.length,bJ s.au t.au,s.ax,bJ s.aA t.aA⟩⟩=_:=e2
 unfold Fg
 rw[qw (by omega) (by omega)]
 dsimp only
 rw[e1']
 dsimp only
 rw[dZ,cond_false,mL (.inr h.count) (.inr k.count)]
 dsimp only
 rw[mL (.inr h.time) (.inr k.time)]
 dsimp only
 rw[e2']
 dsimp only
 rw[dZ,cond_false,WD,Ti]
 rfl
theorem TO{n m:Nat}{s t:aj}(h:cI n m s)(k:cI n m t)(hn:n<=1000000)(hm:m<=1000000):K3 (tr s) (tr t)=O (tr (iE s t)):=by
 have hs:=h.sl
 have hl:=h.len
 have ks:=k.sl
 have kl:=k.len
 obtain⟨v,e1,_⟩:=cz (rnd:=He) s.ag.length (fun i (_:Unit)=>⟨(s.ag.length:Int),(i:Int),tr s,tr t,⟨[],⟨0,0,0⟩,[],⟨0,0,0⟩⟩,⟨iD i (fun k=>bJ s.ag[k]! t.ag[k]!),bJ s.au t.au,[],bJ s.aA t.aA⟩⟩) (fun i _=>True) (fun i b hi _=>by
  have hw:=fq hi (by omega)
  have i1:(i:Int)<(s.ag.length:Int):=by omega
  have i2:(0:Int)<=(i:Int):=by omega
  have i3:(i:Int)<(t.ag.length:Int):=by omega
  have i4:(iD i (fun k=>bJ s.ag[k]! t.ag[k]!)++[bJ s.ag[i]! t.ag[i]!]).length<=1073741824:=by rw[zh,dF,yj];omega
  refine⟨(),?_,trivial⟩
  unfold He
  dsimp only[tr]
  simp only[za,i1,i2,i3,i4,decide_true,cond_true,and_self,if_true,e9 (.inr (h.vars i (by omega))) (.inr (k.vars i (by omega))),hw,oc]) (fun b _=>by unfold He;simp) (b:=()) trivial
 have e1':HI ⟨(s.ag.length:Int),0,tr s,tr t,⟨[],⟨0,0,0⟩,[],⟨0,0,0⟩⟩,⟨[],bJ s.au t.au,[],bJ s.aA t.aA⟩⟩=_:=e1
 have emax:(if(s.ax.length:Int)<(t.ax.length:Int)then(t.ax.length:Int)else(s.ax.length:Int))=((max s.ax.length t.ax.length:Nat):Int):=by split<;>omega
 obtain⟨v2,e2,_⟩:=cz (rnd:=HB) (max s.ax.length t.ax.length) (fun i (_:Unit)=>⟨((max s.ax.length t.ax.length:Nat):Int),(i:Int),tr s,tr t,⟨[],⟨0,0,0⟩,[],⟨0,0,0⟩⟩,⟨iD s.ag.length (fun k=>bJ s.ag[k]! t.ag[k]!),bJ s.au t.au,iD i (KK s.ax t.ax),bJ s.aA t.aA⟩⟩) (fun i _=>True) (fun i b hi _=>by
  have hw:=fq hi (by omega)
  have i1:(i:Int)<((max s.ax.length t.ax.length:Nat):Int):=by omega
  have i2:(0:Int)<=(i:Int):=by omega
  have i4:∀x,(iD i (KK s.ax t.ax)++[x]).length<=1073741824:=fun x=>by rw[zh,dF,yj];omega
  refine⟨(),?_,trivial⟩
  rw[oc]
  unfold HB
  dsimp only[tr]
  by_cases c:s.ax.length<=i
  ·have c1:(s.ax.length:Int)<=(i:Int):=by omega
   have c2:(i:Int)<(t.ax.length:Int):=by omega
   have eJ:KK s.ax t.ax i=t.ax[i]! :=by unfold KK;rw[if_pos c]
   simp only[za,i1,i2,i4,c1,c2,eJ,decide_true,cond_true,and_self,if_true,hw]
  ·by_cases d:t.ax.length<=i
   ·have c1:¬(s.ax.length:Int)<=(i:Int):=by omega
    have c2:(t.ax.length:Int)<=(i:Int):=by omega
    have c3:(i:Int)<(s.ax.length:Int):=by omega
    have eJ:KK s.ax t.ax i=s.ax[i]! :=by unfold KK;rw[if_neg c,if_pos d]
    simp only[za,i1,i2,i4,c1,c2,c3,eJ,decide_true,decide_false,cond_true,cond_false,and_self,if_true,if_false,hw]
   ·have c1:¬(s.ax.length:Int)<=(i:Int):=by omega
    have c2:¬(t.ax.length:Int)<=(i:Int):=by omega
    have c3:(i:Int)<(s.ax.length:Int):=by omega
    have c4:(i:Int)<(t.ax.length:Int):=by omega
    have eJ:KK s.ax t.ax i=bJ s.ax[i]! t.ax[i]! :=by unfold KK;rw[if_neg c,if_neg d]
    simp only[za,i1,i2,i4,c1,c2,c3,c4,eJ,decide_true,decide_false,cond_true,cond_false,and_self,if_true,if_false,hw,e9 (.inr (h.slots i (by omega))) (.inr (k.slots i (by omega)))]) (fun b _=>by unfold HB;simp) (b:=()) trivial
 have e2':EM ⟨((max s.ax.length t.ax.length:Nat):Int),0,tr s,tr t,⟨[],⟨0,0,0⟩,[],⟨0,0,0⟩⟩,⟨iD s.ag.length (fun k=>bJ s.ag[k]! t.ag[k]!),bJ s.au t.au,[],bJ s.aA t.aA⟩⟩=_:=e2
 unfold K3
 rw[show (tr s).au=s.au from rfl,show (tr t).au=t.au from rfl,show (tr s).aA=s.aA from rfl,show (tr t).aA=t.aA from rfl,show (tr s).ag=s.ag from rfl]
 rw[e9 (.inr h.count) (.inr k.count)]
 dsimp only
 rw[e9 (.inr h.time) (.inr k.time)]
 dsimp only
 rw[e1']
 dsimp only
 rw[dZ,cond_false,show (tr s).ax=s.ax from rfl,show (tr t).ax=t.ax from rfl,emax,e2']
 dsimp only
 rw[dZ,cond_false]
 rfl
def gN(body:aj->aj)(t:aq)(c:Int):Nat->aj->List aj
 |0,s=>[s]
 |n+1,s=>(if bQ (bS s.ag t) 0=wE then[ek s c]else[])++(if bM (bS s.ag t)=wE then gN body t c n (body (ek s c))else[])
def jW:List aj->aj
 |[]=>⟨[],bU,[],bU⟩
 |x::l=>l.foldl iE x
def Xt(v:aD)(a b:aj->aj)(s:aj):aj:=
 if bQ v 0=wD then a s else if bM v=wD then b s else iE (a s) (b s)
def nv(f:Flat)(hv:List aD)(a b:aj->aj)(x:GStep)(s:aj):aj:=
 if x.bH=4 then jW (gN a x.ay x.aL x.fN.toNat s)
 else if x.bH=0 then Hj f (ek s x.aL) x.cG (bS s.ag x.ay)
 else if x.bH=1 then DH (ek s x.aL) (bS s.ag x.ay)
 else if x.bH=5 then Hj f (ek s x.aL) x.cG hv[x.fN.toNat]!
 else if x.bH=3 then Xt (bS s.ag x.ay) a b (ek s x.aL)
 else if x.bH=6 then⟨s.ag,s.au,s.ax,mT (jb 8 s.aA (cR x.aL)) x.aH⟩
 else ek s x.aL
def fy(f:Flat)(hv:List aD):List GStep->aj->aj
 |[],s=>s
 |x::l,s=>fy f hv l (nv f hv (fun s=>fy f hv x.aG s) (fun s=>fy f hv x.aJ s) x s)
termination_by l=>SizeOf.sizeOf l
decreasing_by
 all_goals first|exact(aQ (zg ..)).1|exact(aQ (zg ..)).2|exact cP _ _
theorem oS(f:Flat)(hv:List aD)(s:aj):fy f hv [] s=s:=by rw[fy]
theorem lV(f:Flat)(hv:List aD)(x:GStep)(l:List GStep)(s:aj):fy f hv (x::l) s=fy f hv l (nv f hv (fy f hv x.aG) (fy f hv x.aJ) x s):=by rw[fy]
theorem SC{n m:Nat}:∀{l:List aj},l≠[]->(∀q∈l,cI n m q)->cI n m (jW l)
 |[],h,_=>absurd rfl h
 |x::l,_,h=>by
  have key:∀(l:List aj) (x:aj),cI n m x->(∀q∈l,cI n m q)->cI n m (l.foldl iE x):=fun l=>by
   induction l with
   |nil=>intro x hx _;exact hx
   |cons y l ih=>intro x hx hl;exact ih (iE x y) (ux hx (hl y (zg ..))) (fun q hq=>hl q (zC _ hq))
  exact key l x (h x (zg ..)) (fun q hq=>h q (zC _ hq))
theorem sR{vars:List aN}{a:aj->aj}{t:aq}{c:Int}{o:Nat}(hc:bO c)(ht:di vars wD t=0)(ha:∀s m,cI vars.length m s->cI vars.length (m+o) (a s)):∀(N:Nat) (s:aj) (m:Nat),cI vars.length m s->(∀q∈gN a t c N s,cI vars.length (m+N*o) q)/\gN a t c N s≠[]
 |0,s,m,h=>by
  rw[gN]
  refine⟨fun q hq=> ?_,by simp⟩
  rw[zD.1 hq]
  exact h.weak (by omega)
 |n+1,s,m,h=>by
  rw[gN]
  have hz:=zero_or (fu h t ht)
  have h1:=gL h hc
  obtain⟨i1,i2⟩:=sR hc ht ha n (a (ek s c)) (m+o) (ha _ _ h1)
  have e:m+o+n*o=m+(n+1)*o:=by rw[zZ,y8];omega
  refine⟨fun q hq=> ?_,fun e=> ?_⟩
  ·rcases zP.1 hq with hq|hq
   ·split at hq
    ·rw[zD.1 hq];exact h1.weak (by omega)
    ·cases hq
   ·split at hq
    ·rw[<-e];exact i1 q hq
    ·cases hq
  ·obtain⟨e1,e2⟩:=List.append_eq_nil_iff.1 e
   cases hn:bM (bS s.ag t)with
   |true=>rw[hn,if_pos rfl]at e2;exact i2 e2
   |false=>
    rw[hn]at hz
    have hz:bQ (bS s.ag t) 0=wE:=by simpa using hz
    rw[hz,if_pos rfl]at e1;cases e1
def cl(l:List GStep):Nat:=(dw l).2.1.toNat
theorem AR{l:List Int}(h1:1<=l.length/\l.length<=32)(h0:(0:Int)<=l[0]!)(hr:eB l=wE)(h6:l[l.length-1]!<=67108864):∀b∈l,bO b:=fun b hb=>by
 obtain⟨i,hi,e⟩:=wB.1 hb
 have e:l[i]! =b:=by rw[getElem!_pos l i hi];exact e
 have a1:l[0]!<=l[i]! :=by
  by_cases h:i=0
  ·subst h;exact zk _
  ·exact yT (QX hr (by omega) hi)
 have a2:l[i]!<=l[l.length-1]! :=by
  by_cases h:i=l.length-1
  ·subst h;exact zk _
  ·exact yT (QX hr (by omega) (by omega))
 rw[<-e]
 unfold bO
 omega
theorem jV{f:Flat}{last:Bool}{x:GStep}(hx:Rk f last x):bO x.aL:=by
 have:=hx.cost
 unfold bO
 omega
theorem aj5{n m o p:Nat}{v:aD}{a b:aj->aj}{s:aj}(h:cI n m s)(ha:∀s m,cI n m s->cI n (m+o) (a s))(hb:∀s m,cI n m s->cI n (m+p) (b s)):cI n (m+max o p) (Xt v a b s):=by
 unfold Xt
 split
 ·exact(ha _ _ h).weak (by omega)
 split
 ·exact(hb _ _ h).weak (by omega)
 ·exact ux ((ha _ _ h).weak (by omega)) ((hb _ _ h).weak (by omega))
theorem pN{f:Flat}{hv:List aD}(hh:hv.length=f.ai.length)(hvn:∀i,i<hv.length->NN hv[i]!){a b:aj->aj}{last:Bool}{x:GStep}(hx:Rk f last x)
  (p1:0<=(dw x.aG).2.1) (p2:0<=(dw x.aJ).2.1)
  (ha:∀s m,cI f.ag.length m s->cI f.ag.length (m+cl x.aG) (a s)) (hb:∀s m,cI f.ag.length m s->cI f.ag.length (m+cl x.aJ) (b s))
  {s:aj} {m:Nat} (h:cI f.ag.length m s):cI f.ag.length (m+(uO x).1.toNat) (nv f hv a b x s):=by
 have hc:=jV hx
 have h1:=gL h hc
 have hvl:=fu h x.ay hx.term
 unfold nv uO
 by_cases a4:x.bH=4
 ·simp only[a4,Int.reduceEq,if_true,if_false]
  have hn:=hx.n4 a4
  obtain⟨i1,i2⟩:=sR hc hx.term ha x.fN.toNat s m h
  have e:(x.fN*(dw x.aG).2.1).toNat=x.fN.toNat*cl x.aG:=by rw[cl,Int.toNat_mul hn.1 p1]
  rw[e]
  exact SC i2 i1
 by_cases a0:x.bH=0
 ·simp only[a0,Int.reduceEq,if_true,if_false]
  exact Pj h1 hvl
 by_cases a1:x.bH=1
 ·simp only[a1,Int.reduceEq,if_true,if_false]
  exact aac h1 hvl
 by_cases a5:x.bH=5
 ·simp only[a5,Int.reduceEq,if_true,if_false]
  obtain⟨n1,n2⟩:=hx.n5 a5
  exact Pj h1 (hvn _ (by omega))
 by_cases a3:x.bH=3
 ·simp only[a3,Int.reduceEq,if_true,if_false]
  have:=aj5 (v:=bS s.ag x.ay) h1 ha hb
  unfold cl at this
  refine this.weak ?_
  omega
 by_cases a6:x.bH=6
 ·simp only[a6,Int.reduceEq,if_true,if_false]
  obtain⟨_,q2,q3,q4,q5⟩:=hx.OI a6
  have k:=(mV (a:=jb 8 s.aA (cR x.aL)) h1.time q4 (by omega) (AR q2 q3 q4 q5)).2.2.1
  exact⟨h.len,h.vars,h.count,h.sl,h.slots,k⟩
 ·simp only[a0,a1,a3,a4,a5,a6,if_false]
  exact h1
theorem lF{f:Flat}{top:Bool}{x:GStep}{l:List GStep}(h:bI f top (x::l)=0):cl (x::l)=(uO x).1.toNat+cl l:=by
 obtain⟨h1,h2,h3,h4⟩:=fe h
 have ho:=kK h1
 have p1:=(eF f _ _ _ (zn _) h2).1
 have p2:=(eF f _ _ _ (zn _) h3).1
 have p3:=(eF f _ _ _ (zn _) h4).1
 have e1:0<=(uO x).1:=by
  unfold uO
  by_cases a1:x.bH=1
  ·rw[if_pos a1];show (0:Int)<=1;decide
  by_cases a3:x.bH=3
  ·rw[if_neg a1,if_pos a3];dsimp only;omega
  by_cases a4:x.bH=4
  ·rw[if_neg a1,if_neg a3,if_pos a4]
   exact zo (ho.n4 a4).1 p1
  ·rw[if_neg a1,if_neg a3,if_neg a4];exact zk _
 unfold cl
 rw[(adp x l).1]
 omega
theorem eE{f:Flat}{hv:List aD}(hh:hv.length=f.ai.length)(hvn:∀i,i<hv.length->NN hv[i]!):∀(n:Nat) (l:List GStep) (top:Bool),SizeOf.sizeOf l<n->bI f top l=0->∀(s:aj) (m:Nat),cI f.ag.length m s->cI f.ag.length (m+cl l) (fy f hv l s)
 |0,_,_,h,_,_,_,_=>by omega
 |n+1,[],_,_,_,s,m,h=>by rw[oS];exact h.weak (by omega)
 |n+1,x::l,top,hn,hc,s,m,h=>by
  obtain⟨h1,h2,h3,h4⟩:=fe hc
  have ho:=kK h1
  have hsz:=aQ (zg (a:=x) (l:=l))
  have ht:=cP x l
  have p1:=(eF f n x.aG wD (by omega) h2).1
  have p2:=(eF f n x.aJ wD (by omega) h3).1
  rw[lV,lF hc]
  have i1:=pN hh hvn ho p1 p2 (eE hh hvn n x.aG wD (by omega) h2) (eE hh hvn n x.aJ wD (by omega) h3) h
  exact(eE hh hvn n l top (by omega) h4 _ _ i1).weak (by omega)
end Go.Proofs.YtnfljbehcffmcaaGreat
end
noncomputable section
namespace Go.Proofs.YtnfljbehcffmcaaGreat
open Go Go.Iv
open Go.IntKind (i64)
theorem C6{α:Type}[Inhabited α](g:α->α->α)(l:List α)(x:α){i:Nat}(h:i<l.length):(l.take (i+1)).foldl g x=g ((l.take i).foldl g x) l[i]! :=by
 rw[List.take_add_one,List.foldl_append,zl h,getElem!_pos l i h]
 rfl
theorem Bw{n m:Nat}:∀(l:List aj) (x:aj),cI n m x->(∀q∈l,cI n m q)->cI n m (l.foldl iE x)
 |[],x,hx,_=>hx
 |y::l,x,hx,hl=>Bw l (iE x y) (ux hx (hl y (zg ..))) (fun q hq=>hl q (zC _ hq))
theorem Ty(M83:Runner->(List GStep)->aj->Option qx)(M156:Runner->GStep->aj->Option gA)(M160:Runner->GStep->aj->Option gC){n m:Nat}(hn:n<=1000000)(hm:m<=1000000){l:List aj}{x:aj}(hl:l.length<=1000000)(hx:cI n m x)(hq:∀q∈l,cI n m q)(c t:aD):
  n8 M83 M156 M160 ⟨l,(l.length:Int),0,⟨[],c,[],t⟩,x⟩=O ⟨l,(l.length:Int),(l.length:Int),⟨[],c,[],t⟩,l.foldl iE x⟩:=by
 obtain⟨v,e1,_⟩:=cz (rnd:=Hy M83 M156 M160) l.length (fun i (_:Unit)=>⟨l,(l.length:Int),(i:Int),⟨[],c,[],t⟩,(l.take i).foldl iE x⟩) (fun i _=>True) (fun i b hi _=>by
  have hw:=fq hi hl
  have i1:(i:Int)<(l.length:Int):=by omega
  have i2:(0:Int)<=(i:Int):=by omega
  have e:=TL (Bw (l.take i) x hx (fun q k=>hq q (wk k))) (hq _ (aR hi)) hn hm
  refine⟨(),?_,trivial⟩
  unfold Hy
  dsimp only
  simp only[za,i1,i2,decide_true,cond_true,and_self,if_true,e,hw,C6 iE l x hi]) (fun b _=>by unfold Hy;simp) (b:=()) trivial
 rw[zG]at e1
 exact e1
theorem QE(M83:Runner->(List GStep)->aj->Option qx)(M156:Runner->GStep->aj->Option gA)(M160:Runner->GStep->aj->Option gC){n m:Nat}(hn:n<=1000000)(hm:m<=1000000){L:List aj}(h0:L≠[])(hl:L.length<=1000000)(hq:∀q∈L,cI n m q)(c t:aD):
  1<=L.length/\n8 M83 M156 M160 (jo.mk (z6 1 L) ((z6 1 L).length:Int) (0) (aj.mk [] c [] t) L[0]!)=O (jo.mk (z6 1 L) ((z6 1 L).length:Int) ((z6 1 L).length:Int) (aj.mk [] c [] t) (jW L)):=by
 cases L with
 |nil=>exact absurd rfl h0
 |cons x l=>
  have hx:=hq x (zg ..)
  have hq2:∀q∈l,cI n m q:=fun q k=>hq q (zC _ k)
  exact⟨by simp,Ty M83 M156 M160 hn hm (l:=l) (x:=x) (by simp at hl;omega) hx hq2 c t⟩
theorem Di(a:aj->aj)(t:aq)(c:Int):∀(N:Nat) (s:aj),(gN a t c N s).length<=N+1
 |0,s=>by rw[gN];simp
 |n+1,s=>by
  rw[gN,zh]
  have:=Di a t c n (a (ek s c))
  split<;>split<;>simp<;>omega
theorem aki(M83:Runner->(List GStep)->aj->Option qx)(M156:Runner->GStep->aj->Option gA)(M160:Runner->GStep->aj->Option gC){r:Runner}(hn:r.fF.ag.length<=1000000){a:aj->aj}{o:Nat}{x:GStep}(hN:0<=x.fN/\x.fN<=4096)(hc:bO x.aL)(ht:di r.fF.ag wD x.ay=0)
  (ha:∀s m,cI r.fF.ag.length m s->cI r.fF.ag.length (m+o) (a s)) {s:aj} {m:Nat} (h:cI r.fF.ag.length m s) (hm:m+x.fN.toNat*o<=1000000)
  (h1:∀s m,cI r.fF.ag.length m s->m+o<=1000000->M83 r x.aG s=O (a s)):
  adi M83 M156 M160 r x s=O (jW (gN a x.ay x.aL x.fN.toNat s)):=by
 obtain⟨okAll,neAll⟩:=sR hc ht ha x.fN.toNat s m h
 have lenAll:=Di a x.ay x.aL x.fN.toNat s
 obtain⟨i,v,e1,⟨hi,hV1,hV2,hV3,hV4⟩,hcc⟩:=nB (rnd:=vb M83 M156 M160) x.fN.toNat (fun i (b:List aj×aj×aj)=>⟨b.1,wE,x.fN,(i:Int),r,x,b.2.1,⟨[],b.2.2.au,[],b.2.2.aA⟩⟩)
  (fun i b=>i<=x.fN.toNat/\cI r.fF.ag.length (m+i*o) b.2.1/\b.1.length<=i/\b.1++gN a x.ay x.aL (x.fN.toNat-i) b.2.1=gN a x.ay x.aL x.fN.toNat s/\True) (fun i b=>bM (bS b.2.1.ag x.ay)=wD) (fun i b hi hb=>by
  obtain⟨L,b,z⟩:=b
  obtain⟨_,hb,hL,hr,_⟩:=hb
  dsimp only at hb hr hL
  obtain⟨k,hk⟩:∃k,x.fN.toNat-i=k+1:=⟨x.fN.toNat-i-1,by omega⟩
  have hk2:x.fN.toNat-(i+1)=k:=by omega
  rw[hk,gN]at hr
  have hio:i*o+o<=x.fN.toNat*o:=by
   have:=yt o (show i+1<=x.fN.toNat by omega)
   rw[zZ,y8]at this
   exact this
  have hw:i64.wrap ((i:Int)+1)=((i+1:Nat):Int):=by rw[aF];omega
  have i1:(i:Int)<x.fN:=by omega
  have hA:=gL hb hc
  have ea:=M5 hb hc
  have hsl:=hA.sl
  have hln:=hA.len
  have hnn:=fu hA x.ay ht
  have ev:LY (ek b x.aL) x.ay=O (bS b.ag x.ay):=Ib hA ht
  have et:=Ap (a:=bS b.ag x.ay) (.inr hnn)
  have hz:(bM (bS b.ag x.ay)||bQ (bS b.ag x.ay) 0)=wE:=zero_or hnn
  have e:=h1 _ _ hA (by omega)
  have ec:=qw (s:=ek b x.aL) (by omega) (by omega)
  have el:(L++[ek b x.aL]).length<=1073741824:=by rw[zh,yj];omega
  by_cases hno:bM (bS b.ag x.ay)=wE
  ·rw[if_pos hno]at hr
   refine .inl ?_
   have hnext:cI r.fF.ag.length (m+(i+1)*o) (a (ek b x.aL)):=by
    have:=ha _ _ hA
    rw[zZ,y8]
    exact this.weak (by omega)
   by_cases hh:bQ (bS b.ag x.ay) 0=wE
   ·rw[if_pos hh]at hr
    refine⟨(L++[ek b x.aL],a (ek b x.aL),z),?_,by omega,hnext,by rw[zh,yj];omega,by rw[hk2,yS];exact hr,trivial⟩
    unfold vb
    simp only[i1,decide_true,cond_true,aq.eta,ea,ev,et,ec,el,hh,hno,cond_false,if_true,e,GStep.eta,hw]
   ·rw[if_neg hh,z8]at hr
    have hh:bQ (bS b.ag x.ay) 0=wD:=by simpa using hh
    refine⟨(L,a (ek b x.aL),z),?_,by omega,hnext,Nat.le_succ_of_le hL,by rw[hk2];exact hr,trivial⟩
    unfold vb
    simp only[i1,decide_true,cond_true,aq.eta,ea,ev,et,hh,hno,cond_false,e,GStep.eta,hw]
  ·have hno:bM (bS b.ag x.ay)=wD:=by simpa using hno
   refine .inr ⟨?_,hno⟩
   have hh:bQ (bS b.ag x.ay) 0=wE:=by rw[hno]at hz;simpa using hz
   unfold vb
   simp only[i1,decide_true,cond_true,aq.eta,ea,ev,et,ec,el,hh,hno,cond_false,if_true]) (fun b _=>by
   unfold vb
   dsimp only
   rw[dZ];rfl) (b:=([],s,⟨[],⟨0,0,0⟩,[],⟨0,0,0⟩⟩)) ⟨by omega,h.weak (by omega),by simp,rfl,trivial⟩
 obtain⟨L,b,z⟩:=v
 dsimp only at hV1 hV2 hV3 hcc
 have e1':F7 M83 M156 M160 ⟨[],wE,x.fN,0,r,x,s,⟨[],⟨0,0,0⟩,[],⟨0,0,0⟩⟩⟩=O ⟨L,wE,x.fN,(i:Int),r,x,b,⟨[],z.au,[],z.aA⟩⟩:=e1
 unfold adi
 rw[aq.eta,GStep.eta,e1']
 rcases hcc with rfl|⟨hi2,hno⟩
 ·rw[Nat.sub_self,gN]at hV3
  dsimp only
  rw[dZ,cond_false]
  simp only[cond_true]
  rw[if_pos (by rw[zh,yj];omega),hV3]
  obtain⟨j1,j2⟩:=QE M83 M156 M160 hn hm neAll (by omega) okAll z.au z.aA
  rw[fK,if_pos (by first|exact⟨rfl,j1⟩|exact⟨trivial,j1⟩),fK,j2]
  dsimp only
  rw[dZ,cond_false]
 ·obtain⟨k,hk⟩:∃k,x.fN.toNat-i=k+1:=⟨x.fN.toNat-i-1,by omega⟩
  rw[hk,gN]at hV3
  have hA:=gL hV1 hc
  have ea:=M5 hV1 hc
  have hio:i*o<=x.fN.toNat*o:=yt o hi
  have hsl:=hA.sl
  have hln:=hA.len
  have hnn:=fu hA x.ay ht
  have ev:LY (ek b x.aL) x.ay=O (bS b.ag x.ay):=Ib hA ht
  have et:=Ap (a:=bS b.ag x.ay) (.inr hnn)
  have hz:(bM (bS b.ag x.ay)||bQ (bS b.ag x.ay) 0)=wE:=zero_or hnn
  have ec:=qw (s:=ek b x.aL) (by omega) (by omega)
  have hh:bQ (bS b.ag x.ay) 0=wE:=by rw[hno]at hz;simpa using hz
  rw[hh,hno,if_pos rfl,if_neg (by decide),yd]at hV3
  dsimp only
  rw[qz,cond_true,ea]
  dsimp only
  rw[aq.eta,ev]
  dsimp only
  rw[et]
  dsimp only
  rw[hh,hno,cond_true,ec]
  dsimp only
  rw[if_pos (by rw[zh,yj];omega),hV3]
  obtain⟨j1,j2⟩:=QE M83 M156 M160 hn hm neAll (by omega) okAll z.au z.aA
  rw[fK,if_pos (by first|exact⟨rfl,j1⟩|exact⟨trivial,j1⟩),fK,j2]
  dsimp only
  rw[dZ,cond_false]
  rfl
theorem aiN{l:List aj}{i:Nat}(h:i<l.length):(l.map tr)[i]! =tr l[i]! :=by
 rw[getElem!_pos _ i (by simpa using h),getElem!_pos l i h,yx]
theorem Tk{n m:Nat}(hn:n<=1000000)(hm:m<=1000000){l:List aj}{x:aj}(hl:l.length<=1000000)(hx:cI n m x)(hq:∀q∈l,cI n m q)(c t:aD):
  Fu ⟨l.map tr,(l.length:Int),0,⟨[],c,[],t⟩,tr x⟩=O ⟨l.map tr,(l.length:Int),(l.length:Int),⟨[],c,[],t⟩,tr (l.foldl iE x)⟩:=by
 obtain⟨v,e1,_⟩:=cz (rnd:=Hw) l.length (fun i (_:Unit)=>⟨l.map tr,(l.length:Int),(i:Int),⟨[],c,[],t⟩,tr ((l.take i).foldl iE x)⟩) (fun i _=>True) (fun i b hi _=>by
  have hw:=fq hi hl
  have i1:(i:Int)<(l.length:Int):=by omega
  have i2:(0:Int)<=(i:Int):=by omega
  have e:=TO (Bw (l.take i) x hx (fun q k=>hq q (wk k))) (hq _ (aR hi)) hn hm
  refine⟨(),?_,trivial⟩
  unfold Hw
  dsimp only
  simp only[zA,za,i1,i2,decide_true,cond_true,and_self,if_true,aiN hi,e,hw,C6 iE l x hi]) (fun b _=>by unfold Hw;simp) (b:=()) trivial
 rw[zG]at e1
 exact e1
theorem K8{n m:Nat}(hn:n<=1000000)(hm:m<=1000000){L:List aj}(h0:L≠[])(hl:L.length<=1000000)(hq:∀q∈L,cI n m q):Gk (L.map tr)=O (tr (jW L)):=by
 cases L with
 |nil=>exact absurd rfl h0
 |cons x l=>
  have hx:=hq x (zg ..)
  have hq2:∀q∈l,cI n m q:=fun q k=>hq q (zC _ k)
  have e:=Tk hn hm (l:=l) (x:=x) (by simp at hl;omega) hx hq2 ⟨0,0,0⟩ ⟨0,0,0⟩
  unfold Gk
  rw[if_pos (by simp<;>omega),if_pos (by simp<;>omega)]
  rw[zV,show z6 1 (tr x::l.map tr)=l.map tr from rfl,show (tr x::l.map tr)[0]! =tr x from rfl,zA,e]
  dsimp only
  rw[dZ,cond_false]
  rfl
theorem ajF(M88:Flat->(List aD)->(List GStep)->aB->Option AF)(M167:Flat->(List aD)->GStep->aB->Option ki){f:Flat}{hv:List aD}(hn:f.ag.length<=1000000){a:aj->aj}{o:Nat}{x:GStep}(hN:0<=x.fN/\x.fN<=4096)(hc:bO x.aL)(ht:di f.ag wD x.ay=0)
  (ha:∀s m,cI f.ag.length m s->cI f.ag.length (m+o) (a s)) {s:aj} {m:Nat} (h:cI f.ag.length m s) (hm:m+x.fN.toNat*o<=1000000)
  (h1:∀s m,cI f.ag.length m s->m+o<=1000000->M88 f hv x.aG (tr s)=O (tr (a s))):
  ab7 M88 M167 f hv x (tr s)=O (tr (jW (gN a x.ay x.aL x.fN.toNat s))):=by
 obtain⟨okAll,neAll⟩:=sR hc ht ha x.fN.toNat s m h
 have lenAll:=Di a x.ay x.aL x.fN.toNat s
 obtain⟨i,v,e1,⟨hi,hV1,hV2,hV3,hV4⟩,hcc⟩:=nB (rnd:=vE M88 M167) x.fN.toNat (fun i (b:List aj×aj×aB)=>⟨hv,b.1.map tr,x.fN,(i:Int),f,x,tr b.2.1,⟨[],b.2.2.au,[],b.2.2.aA⟩⟩)
  (fun i b=>i<=x.fN.toNat/\cI f.ag.length (m+i*o) b.2.1/\b.1.length<=i/\b.1++gN a x.ay x.aL (x.fN.toNat-i) b.2.1=gN a x.ay x.aL x.fN.toNat s/\True) (fun i b=>bM (bS b.2.1.ag x.ay)=wD) (fun i b hi hb=>by
  obtain⟨L,b,z⟩:=b
  obtain⟨_,hb,hL,hr,_⟩:=hb
  dsimp only at hb hr hL
  obtain⟨k,hk⟩:∃k,x.fN.toNat-i=k+1:=⟨x.fN.toNat-i-1,by omega⟩
  have hk2:x.fN.toNat-(i+1)=k:=by omega
  rw[hk,gN]at hr
  have hio:i*o+o<=x.fN.toNat*o:=by
   have:=yt o (show i+1<=x.fN.toNat by omega)
   rw[zZ,y8]at this
   exact this
  have hw:i64.wrap ((i:Int)+1)=((i+1:Nat):Int):=by rw[aF];omega
  have i1:(i:Int)<x.fN:=by omega
  have hA:=gL hb hc
  have ea:Br b.aA x.aL=O (jb 8 b.aA (cR x.aL)):=Fm hb.time hc
  have hnn:=fu hA x.ay ht
  have ev:KS (tr (ek b x.aL)) x.ay=O (bS b.ag x.ay):=Oa hA x.ay ht
  have et:=ni (a:=bS b.ag x.ay) (.inr hnn)
  have hz:(bM (bS b.ag x.ay)||bQ (bS b.ag x.ay) 0)=wE:=zero_or hnn
  have e:=h1 _ _ hA (by omega)
  have etr:(aB.mk b.ag b.au b.ax (jb 8 b.aA (cR x.aL)))=tr (ek b x.aL):=rfl
  have el:(L.map tr++[tr (ek b x.aL)]).length<=1073741824:=by rw[zh,yj,zA];omega
  by_cases hno:bM (bS b.ag x.ay)=wE
  ·rw[if_pos hno]at hr
   refine .inl ?_
   have hnext:cI f.ag.length (m+(i+1)*o) (a (ek b x.aL)):=by
    have:=ha _ _ hA
    rw[zZ,y8]
    exact this.weak (by omega)
   by_cases hh:bQ (bS b.ag x.ay) 0=wE
   ·rw[if_pos hh]at hr
    refine⟨(L++[ek b x.aL],a (ek b x.aL),z),?_,by omega,hnext,by rw[zh,yj];omega,by rw[hk2,yS];exact hr,trivial⟩
    unfold vE
    simp only[show (tr b).ag=b.ag from rfl,show (tr b).au=b.au from rfl,show (tr b).ax=b.ax from rfl,show (tr b).aA=b.aA from rfl,i1,decide_true,cond_true,aq.eta,ea,etr,ev,et,el,hh,hno,cond_false,if_true,e,GStep.eta,hw,zY,zV,yG]
   ·rw[if_neg hh,z8]at hr
    have hh:bQ (bS b.ag x.ay) 0=wD:=by simpa using hh
    refine⟨(L,a (ek b x.aL),z),?_,by omega,hnext,Nat.le_succ_of_le hL,by rw[hk2];exact hr,trivial⟩
    unfold vE
    simp only[show (tr b).ag=b.ag from rfl,show (tr b).au=b.au from rfl,show (tr b).ax=b.ax from rfl,show (tr b).aA=b.aA from rfl,i1,decide_true,cond_true,aq.eta,ea,etr,ev,et,hh,hno,cond_false,e,GStep.eta,hw]
  ·have hno:bM (bS b.ag x.ay)=wD:=by simpa using hno
   refine .inr ⟨?_,hno⟩
   have hh:bQ (bS b.ag x.ay) 0=wE:=by rw[hno]at hz;simpa using hz
   rw[hh,hno,if_pos rfl,if_neg (by decide),yd]at hr
   have em:L.map tr++[tr (ek b x.aL)]=(L++[ek b x.aL]).map tr:=by rw[zY];rfl
   have TV:=K8 hn hm neAll (by omega) okAll
   rw[<-hr,<-em]at TV
   unfold vE
   simp only[show (tr b).ag=b.ag from rfl,show (tr b).au=b.au from rfl,show (tr b).ax=b.ax from rfl,show (tr b).aA=b.aA from rfl,i1,decide_true,cond_true,aq.eta,ea,etr,ev,et,el,hh,hno,cond_false,if_true,TV]) (fun b _=>by
   unfold vE
   dsimp only
   rw[dZ];rfl) (b:=([],s,⟨[],⟨0,0,0⟩,[],⟨0,0,0⟩⟩)) ⟨by omega,h.weak (by omega),by simp,rfl,trivial⟩
 obtain⟨L,b,z⟩:=v
 dsimp only at hV1 hV2 hV3 hcc
 have e1':FK M88 M167 ⟨hv,[],x.fN,0,f,x,tr s,⟨[],⟨0,0,0⟩,[],⟨0,0,0⟩⟩⟩=O ⟨hv,L.map tr,x.fN,(i:Int),f,x,tr b,⟨[],z.au,[],z.aA⟩⟩:=e1
 unfold ab7
 rw[aq.eta,GStep.eta,e1']
 rcases hcc with rfl|⟨hi2,hno⟩
 ·rw[Nat.sub_self,gN]at hV3
  dsimp only
  rw[dZ,cond_false]
  have em:L.map tr++[tr b]=(L++[b]).map tr:=by rw[zY];rfl
  rw[if_pos (by rw[zh,yj,zA];omega),em,hV3,K8 hn hm neAll (by omega) okAll]
 ·obtain⟨k,hk⟩:∃k,x.fN.toNat-i=k+1:=⟨x.fN.toNat-i-1,by omega⟩
  rw[hk,gN]at hV3
  have hA:=gL hV1 hc
  have ea:Br (tr b).aA x.aL=O (jb 8 b.aA (cR x.aL)):=Fm hV1.time hc
  have hio:i*o<=x.fN.toNat*o:=yt o hi
  have hnn:=fu hA x.ay ht
  have ev:KS (tr (ek b x.aL)) x.ay=O (bS b.ag x.ay):=Oa hA x.ay ht
  have et:=ni (a:=bS b.ag x.ay) (.inr hnn)
  have hz:(bM (bS b.ag x.ay)||bQ (bS b.ag x.ay) 0)=wE:=zero_or hnn
  have hh:bQ (bS b.ag x.ay) 0=wE:=by rw[hno]at hz;simpa using hz
  have etr:(aB.mk (tr b).ag (tr b).au (tr b).ax (jb 8 b.aA (cR x.aL)))=tr (ek b x.aL):=rfl
  rw[hh,hno,if_pos rfl,if_neg (by decide),yd]at hV3
  have em:L.map tr++[tr (ek b x.aL)]=(L++[ek b x.aL]).map tr:=by rw[zY];rfl
  dsimp only
  rw[qz,cond_true,ea]
  dsimp only
  rw[aq.eta,etr,ev]
  dsimp only
  rw[et]
  dsimp only
  rw[hh,hno,cond_true,if_pos (by rw[zh,yj,zA];omega),em,hV3,K8 hn hm neAll (by omega) okAll]
  rfl
end Go.Proofs.YtnfljbehcffmcaaGreat
end
noncomputable section
namespace Go.Proofs.YtnfljbehcffmcaaGreat
open Go Go.Iv
theorem aiT(M83:Runner->(List GStep)->aj->Option qx)(M156:Runner->GStep->aj->Option gA)(M160:Runner->GStep->aj->Option gC){r:Runner}(hn:r.fF.ag.length<=1000000){a b:aj->aj}{o p:Nat}{x:GStep}{s:aj}{m:Nat}(h:cI r.fF.ag.length m s)(hc:di r.fF.ag wD x.ay=0)(hm:m+max o p<=1000000)
  (ha:∀s m,cI r.fF.ag.length m s->cI r.fF.ag.length (m+o) (a s)) (hb:∀s m,cI r.fF.ag.length m s->cI r.fF.ag.length (m+p) (b s))
  (h1:M83 r x.aG s=O (a s)) (h2:M83 r x.aJ s=O (b s)):
  abK M83 M156 M160 r x s=O (Xt (bS s.ag x.ay) a b s):=by
 have hsl:=h.sl
 have hln:=h.len
 unfold abK Xt
 rw[aq.eta,Ib h hc]
 dsimp only
 rw[Ap (.inr (fu h x.ay hc))]
 have ec:=qw (s:=s) (by omega) (by omega)
 have ej:=TL ((ha _ _ h).weak (show m+o<=m+max o p by omega)) ((hb _ _ h).weak (show m+p<=m+max o p by omega)) hn hm
 dsimp only
 cases bQ (bS s.ag x.ay) 0 with
 |false=>simp only[cond_false,cond_true,h1,if_true]
 |true=>
  cases bM (bS s.ag x.ay)with
  |false=>simp only[cond_false,cond_true,h2,if_true,if_false,wg]
  |true=>simp only[cond_false,cond_true,h1,h2,ec,ej,if_false,wg]
theorem aof(M83:Runner->(List GStep)->aj->Option qx)(M156:Runner->GStep->aj->Option gA)(M160:Runner->GStep->aj->Option gC){r:Runner}(hn:r.fF.ag.length<=1000000)(hh:r.ai.length=r.fF.ai.length)(hvn:∀i,i<r.ai.length->NN r.ai[i]!)
  {top:Bool} {l:List GStep} (hl:l.length<=1000000) (hc:bI r.fF top l=0) {s:aj} {m:Nat} (h:cI r.fF.ag.length m s) (hm:m+cl l<=1000000)
  (h1:∀x∈l,∀s m,x.bH=3->cI r.fF.ag.length m s->m+max (cl x.aG) (cl x.aJ)<=1000000->M160 r x s=O (Xt (bS s.ag x.ay) (fy r.fF r.ai x.aG) (fy r.fF r.ai x.aJ) s))
  (h3:∀x∈l,∀s m,x.bH=4->cI r.fF.ag.length m s->m+x.fN.toNat*cl x.aG<=1000000->M156 r x s=O (jW (gN (fy r.fF r.ai x.aG) x.ay x.aL x.fN.toNat s))):
  s83 M83 M156 M160 r l s=O (fy r.fF r.ai l s):=by
 obtain⟨v,e1,hV⟩:=cz (rnd:=Oo M83 M156 M160) l.length (fun i (b:aj×aj)=>⟨l,(l.length:Int),(i:Int),r,b.1,⟨[],b.2.au,[],b.2.aA⟩⟩)
  (fun i b=>(∃k,cI r.fF.ag.length k b.1/\k+cl (l.drop i)<=1000000)/\bI r.fF top (l.drop i)=0/\fy r.fF r.ai (l.drop i) b.1=fy r.fF r.ai l s) (fun i b hi hb=>by
  obtain⟨b,z⟩:=b
  obtain⟨⟨k,hb,hk⟩,hst,hr⟩:=hb
  dsimp only at hb hr
  rw[drop_cons hi]at hk hst hr
  rw[lV]at hr
  have hmem:=aR hi
  generalize hx:l[i]! =x at*
  obtain⟨g1,g2,g3,g4⟩:=fe hst
  have ho:=kK g1
  have p1:=(eF r.fF _ _ _ (zn _) g2).1
  have p2:=(eF r.fF _ _ _ (zn _) g3).1
  have aT:=eE hh hvn _ x.aG wD (zn _) g2
  have aE:=eE hh hvn _ x.aJ wD (zn _) g3
  rw[lF hst]at hk
  have hnext:=pN hh hvn ho p1 p2 aT aE hb
  refine⟨(nv r.fF r.ai (fy r.fF r.ai x.aG) (fy r.fF r.ai x.aJ) x b,z),?_,⟨_,hnext,by omega⟩,g4,hr⟩
  have hw:=fq hi hl
  have i1:(i:Int)<(l.length:Int):=by omega
  have i2:(0:Int)<=(i:Int):=by omega
  have hcost:=jV ho
  unfold Oo
  dsimp only
  simp only[za,i1,i2,hx,decide_true,cond_true,and_self,if_true,GStep.eta,aq.eta,hw]
  unfold nv
  by_cases d4:x.bH=4
  ·have hN:=ho.n4 d4
   have eu:(uO x).1.toNat=x.fN.toNat*cl x.aG:=by
    unfold uO
    simp only[d4,Int.reduceEq,if_true,if_false]
    rw[cl,Int.toNat_mul hN.1 p1]
   have e:=h3 x hmem b k d4 hb (by omega)
   simp only[d4,Int.reduceEq,decide_true,cond_true,if_true,e]
  have ea:=M5 hb hcost
  have hA:=gL hb hcost
  have ev:LY (ek b x.aL) x.ay=O (bS b.ag x.ay):=Ib hA ho.term
  have hnn:NN (bS b.ag x.ay):=fu hb x.ay ho.term
  simp only[d4,decide_false,cond_false,ea,if_false]
  by_cases d0:x.bH=0
  ·obtain⟨v1,v2⟩:=ho.var (.inl d0)
   simp only[d0,Int.reduceEq,decide_true,decide_false,cond_true,cond_false,if_true,if_false,ev,U2 hA hn (by omega) v1 v2 hnn]
  by_cases d1:x.bH=1
  ·have e:=aio hA hn (by omega) hnn
   simp only[d1,Int.reduceEq,decide_true,decide_false,cond_true,cond_false,if_true,if_false,ev,e]
  by_cases d5:x.bH=5
  ·obtain⟨v1,v2⟩:=ho.var (.inr d5)
   obtain⟨n1,n2⟩:=ho.n5 d5
   have hlt:x.fN.toNat<r.ai.length:=by omega
   have e:=U2 hA hn (by omega) v1 v2 (hvn _ hlt)
   simp only[d5,Int.reduceEq,decide_true,decide_false,cond_true,cond_false,if_true,if_false]
   rw[fK,e]
  by_cases d3:x.bH=3
  ·have eu:(uO x).1.toNat=max (cl x.aG) (cl x.aJ):=by
    unfold uO cl
    simp only[d3,Int.reduceEq,if_true,if_false]
    omega
   have e:=h1 x hmem (ek b x.aL) k d3 hA (by omega)
   simp only[d3,Int.reduceEq,decide_true,decide_false,cond_true,cond_false,if_true,if_false,e]
   rfl
  by_cases d6:x.bH=6
  ·obtain⟨_,q2,q3,q4,q5⟩:=ho.OI d6
   have e:=(mV (a:=jb 8 b.aA (cR x.aL)) hA.time q4 (by omega) (AR q2 q3 q4 q5)).1
   have e:JD (ek b x.aL).aA x.aH=_:=e
   simp only[d6,Int.reduceEq,decide_true,decide_false,cond_true,cond_false,if_true,if_false]
   rw[e]
   rfl
  ·simp only[d0,d1,d3,d5,d6,decide_false,cond_false,if_false]) (fun b _=>by unfold Oo;simp) (b:=(s,⟨[],⟨0,0,0⟩,[],⟨0,0,0⟩⟩)) ⟨⟨m,h,by rw[xu];exact hm⟩,by rw[xu];exact hc,by rw[xu]⟩
 obtain⟨b,z⟩:=v
 have e1':PI M83 M156 M160 ⟨l,(l.length:Int),0,r,s,⟨[],⟨0,0,0⟩,[],⟨0,0,0⟩⟩⟩=O ⟨l,(l.length:Int),(l.length:Int),r,b,⟨[],z.au,[],z.aA⟩⟩:=e1
 have hr:=hV.2.2
 dsimp only at hr
 rw[List.drop_length,oS]at hr
 unfold s83
 rw[e1',<-hr]
 dsimp only
 rw[dZ,cond_false]
theorem jN{f:Flat}{x:GStep}:∀{top:Bool} {l:List GStep},bI f top l=0->x∈l->bI f wD x.aG=0/\bI f wD x.aJ=0
 |_,[],_,h=>by cases h
 |top,y::l,hc,h=>by
  obtain⟨h1,h2,h3,h4⟩:=fe hc
  rcases zu.1 h with rfl|h
  ·exact⟨h2,h3⟩
  ·exact jN h4 h
theorem agd{r:Runner}(hn:r.fF.ag.length<=1000000)(hh:r.ai.length=r.fF.ai.length)(hvn:∀i,i<r.ai.length->NN r.ai[i]!):∀n:Nat,
  (∀(top:Bool) (l:List GStep) (s:aj) (m:Nat),2*SizeOf.sizeOf l<n->ew l<=1000000->bI r.fF top l=0->cI r.fF.ag.length m s->m+cl l<=1000000->RE n r l s=O (fy r.fF r.ai l s))/\
  (∀(x:GStep) (s:aj) (m:Nat),2*SizeOf.sizeOf x.aG+1<n->ew x.aG<=1000000->(0<=x.fN/\x.fN<=4096)->bO x.aL->di r.fF.ag wD x.ay=0->bI r.fF wD x.aG=0->cI r.fF.ag.length m s->m+x.fN.toNat*cl x.aG<=1000000->Ci n r x s=O (jW (gN (fy r.fF r.ai x.aG) x.ay x.aL x.fN.toNat s)))/\
  (∀(x:GStep) (s:aj) (m:Nat),2*SizeOf.sizeOf x.aG+1<n->2*SizeOf.sizeOf x.aJ+1<n->ew x.aG<=1000000->ew x.aJ<=1000000->di r.fF.ag wD x.ay=0->bI r.fF wD x.aG=0->bI r.fF wD x.aJ=0->cI r.fF.ag.length m s->m+max (cl x.aG) (cl x.aJ)<=1000000->Bb n r x s=O (Xt (bS s.ag x.ay) (fy r.fF r.ai x.aG) (fy r.fF r.ai x.aJ) s))
 |0=>⟨fun _ _ _ _ h=>by omega,fun _ _ _ h=>by omega,fun _ _ _ h=>by omega⟩
 |n+1=>by
  obtain⟨i1,i2,i3⟩:=agd hn hh hvn n
  refine⟨fun top l s m h hN hc hs hm=> ?_,fun x s m h hN hx hc ht hst hs hm=> ?_,fun x s m h h' hN hN' ht hst hst' hs hm=> ?_⟩
  ·refine aof (RE n) (Ci n) (Bb n) hn hh hvn (zy (iY l) hN) hc hs hm (fun x hx s m h3 hs hm=> ?_) (fun x hx s m h4 hs hm=> ?_)
   ·have:=aQ hx
    have:=uv hx
    obtain⟨_,k⟩:=tq hc hx
    obtain⟨k1,k2⟩:=jN hc hx
    exact i3 x s m (by omega) (by omega) (by omega) (by omega) k.term k1 k2 hs hm
   ·have:=(aQ hx).1
    obtain⟨_,k⟩:=tq hc hx
    obtain⟨k1,k2⟩:=jN hc hx
    exact i2 x s m (by omega) (zy (uv hx).1 hN) (k.n4 h4) (jV k) k.term k1 hs hm
  ·refine aki (RE n) (Ci n) (Bb n) hn hx hc ht (eE hh hvn _ x.aG wD (zn _) hst) hs hm (fun s m hs hm=>i1 wD x.aG s m (by omega) hN hst hs hm)
  ·exact aiT (RE n) (Ci n) (Bb n) hn hs ht hm (eE hh hvn _ x.aG wD (zn _) hst) (eE hh hvn _ x.aJ wD (zn _) hst') (i1 wD x.aG s m (by omega) hN hst hs (by omega)) (i1 wD x.aJ s m (by omega) hN' hst' hs (by omega))
theorem apa(M88:Flat->(List aD)->(List GStep)->aB->Option AF)(M167:Flat->(List aD)->GStep->aB->Option ki){f:Flat}{hv:List aD}(hn:f.ag.length<=1000000)(hh:hv.length=f.ai.length)(hvn:∀i,i<hv.length->NN hv[i]!)
  {top:Bool} {l:List GStep} (hl:l.length<=1000000) (hc:bI f top l=0) {s:aj} {m:Nat} (h:cI f.ag.length m s) (hm:m+cl l<=1000000)
  (h1:∀x∈l,∀s m,cI f.ag.length m s->m+cl x.aG<=1000000->M88 f hv x.aG (tr s)=O (tr (fy f hv x.aG s)))
  (h2:∀x∈l,∀s m,cI f.ag.length m s->m+cl x.aJ<=1000000->M88 f hv x.aJ (tr s)=O (tr (fy f hv x.aJ s)))
  (h3:∀x∈l,∀s m,x.bH=4->cI f.ag.length m s->m+x.fN.toNat*cl x.aG<=1000000->M167 f hv x (tr s)=O (tr (jW (gN (fy f hv x.aG) x.ay x.aL x.fN.toNat s)))):
  s88 M88 M167 f hv l (tr s)=O (tr (fy f hv l s)):=by
 obtain⟨v,e1,hV⟩:=cz (rnd:=N7 M88 M167) l.length (fun i (b:aj×aB)=>⟨hv,l,(l.length:Int),(i:Int),f,tr b.1,⟨[],b.2.au,[],b.2.aA⟩⟩)
  (fun i b=>(∃k,cI f.ag.length k b.1/\k+cl (l.drop i)<=1000000)/\bI f top (l.drop i)=0/\fy f hv (l.drop i) b.1=fy f hv l s) (fun i b hi hb=>by
  obtain⟨b,z⟩:=b
  obtain⟨⟨k,hb,hk⟩,hst,hr⟩:=hb
  dsimp only at hb hr
  rw[drop_cons hi]at hk hst hr
  rw[lV]at hr
  have hmem:=aR hi
  generalize hx:l[i]! =x at*
  obtain⟨g1,g2,g3,g4⟩:=fe hst
  have ho:=kK g1
  have p1:=(eF f _ _ _ (zn _) g2).1
  have p2:=(eF f _ _ _ (zn _) g3).1
  have aT:=eE hh hvn _ x.aG wD (zn _) g2
  have aE:=eE hh hvn _ x.aJ wD (zn _) g3
  rw[lF hst]at hk
  have hnext:=pN hh hvn ho p1 p2 aT aE hb
  refine⟨(nv f hv (fy f hv x.aG) (fy f hv x.aJ) x b,z),?_,⟨_,hnext,by omega⟩,g4,hr⟩
  have hw:=fq hi hl
  have i1:(i:Int)<(l.length:Int):=by omega
  have i2:(0:Int)<=(i:Int):=by omega
  have hcost:=jV ho
  have t1:(tr b).ag=b.ag:=rfl
  have t2:(tr b).au=b.au:=rfl
  have t3:(tr b).ax=b.ax:=rfl
  have t4:(tr b).aA=b.aA:=rfl
  have etr:(aB.mk b.ag b.au b.ax (jb 8 b.aA (cR x.aL)))=tr (ek b x.aL):=rfl
  unfold N7
  dsimp only
  simp only[za,i1,i2,hx,decide_true,cond_true,and_self,if_true,GStep.eta,aq.eta,hw]
  unfold nv
  by_cases d4:x.bH=4
  ·have hN:=ho.n4 d4
   have eu:(uO x).1.toNat=x.fN.toNat*cl x.aG:=by
    unfold uO
    simp only[d4,Int.reduceEq,if_true,if_false]
    rw[cl,Int.toNat_mul hN.1 p1]
   have e:=h3 x hmem b k d4 hb (by omega)
   simp only[d4,Int.reduceEq,decide_true,cond_true,if_true,e]
  have ea:Br b.aA x.aL=O (jb 8 b.aA (cR x.aL)):=Fm hb.time hcost
  have hA:=gL hb hcost
  have ev:KS (tr (ek b x.aL)) x.ay=O (bS b.ag x.ay):=Oa hA x.ay ho.term
  have hnn:NN (bS b.ag x.ay):=fu hb x.ay ho.term
  simp only[t1,t2,t3,t4,d4,decide_false,cond_false,ea,etr,if_false]
  by_cases d0:x.bH=0
  ·obtain⟨v1,v2⟩:=ho.var (.inl d0)
   simp only[d0,Int.reduceEq,decide_true,decide_false,cond_true,cond_false,if_true,if_false,ev,V7 hA hn v1 v2 hnn]
  by_cases d1:x.bH=1
  ·have e:=aiR hA (by omega) hnn
   simp only[d1,Int.reduceEq,decide_true,decide_false,cond_true,cond_false,if_true,if_false,ev,e]
  by_cases d5:x.bH=5
  ·obtain⟨v1,v2⟩:=ho.var (.inr d5)
   obtain⟨n1,n2⟩:=ho.n5 d5
   have hlt:x.fN.toNat<hv.length:=by omega
   have e:=V7 hA hn v1 v2 (hvn _ hlt)
   simp only[d5,Int.reduceEq,decide_true,decide_false,cond_true,cond_false,if_true,if_false]
   rw[fK,e]
  by_cases d3:x.bH=3
  ·have eu:(uO x).1.toNat=max (cl x.aG) (cl x.aJ):=by
    unfold uO cl
    simp only[d3,Int.reduceEq,if_true,if_false]
    omega
   have e:=h1 x hmem (ek b x.aL) k hA (by omega)
   have e':=h2 x hmem (ek b x.aL) k hA (by omega)
   have ej:=TO ((aT _ _ hA).weak (show k+cl x.aG<=k+max (cl x.aG) (cl x.aJ)by omega)) ((aE _ _ hA).weak (show k+cl x.aJ<=k+max (cl x.aG) (cl x.aJ)by omega)) hn (by omega)
   have et:=ni (a:=bS b.ag x.ay) (.inr hnn)
   unfold Xt
   simp only[d3,Int.reduceEq,decide_true,decide_false,cond_true,cond_false,if_true,if_false,ev,et]
   cases bQ (bS b.ag x.ay) 0 with
   |false=>simp only[cond_false,cond_true,e,if_true]
   |true=>
    cases bM (bS b.ag x.ay)with
    |false=>simp only[cond_false,cond_true,e',if_true,if_false,wg]
    |true=>simp only[cond_false,cond_true,e,e',ej,if_false,wg]
  by_cases d6:x.bH=6
  ·obtain⟨_,q2,q3,q4,q5⟩:=ho.OI d6
   have e:=(mV (a:=jb 8 b.aA (cR x.aL)) hA.time q4 (by omega) (AR q2 q3 q4 q5)).2.1
   simp only[d6,Int.reduceEq,decide_true,decide_false,cond_true,cond_false,if_true,if_false]
   rw[e]
   rfl
  ·simp only[d0,d1,d3,d5,d6,decide_false,cond_false,if_false]) (fun b _=>by unfold N7;simp) (b:=(s,⟨[],⟨0,0,0⟩,[],⟨0,0,0⟩⟩)) ⟨⟨m,h,by rw[xu];exact hm⟩,by rw[xu];exact hc,by rw[xu]⟩
 obtain⟨b,z⟩:=v
 have e1':OL M88 M167 ⟨hv,l,(l.length:Int),0,f,tr s,⟨[],⟨0,0,0⟩,[],⟨0,0,0⟩⟩⟩=O ⟨hv,l,(l.length:Int),(l.length:Int),f,tr b,⟨[],z.au,[],z.aA⟩⟩:=e1
 have hr:=hV.2.2
 dsimp only at hr
 rw[List.drop_length,oS]at hr
 unfold s88
 rw[e1',<-hr]
 dsimp only
 rw[dZ,cond_false]
theorem afv{f:Flat}{hv:List aD}(hn:f.ag.length<=1000000)(hh:hv.length=f.ai.length)(hvn:∀i,i<hv.length->NN hv[i]!):∀n:Nat,
  (∀(top:Bool) (l:List GStep) (s:aj) (m:Nat),2*SizeOf.sizeOf l<n->ew l<=1000000->bI f top l=0->cI f.ag.length m s->m+cl l<=1000000->Xw n f hv l (tr s)=O (tr (fy f hv l s)))/\
  (∀(x:GStep) (s:aj) (m:Nat),2*SizeOf.sizeOf x.aG+1<n->ew x.aG<=1000000->(0<=x.fN/\x.fN<=4096)->bO x.aL->di f.ag wD x.ay=0->bI f wD x.aG=0->cI f.ag.length m s->m+x.fN.toNat*cl x.aG<=1000000->Kz n f hv x (tr s)=O (tr (jW (gN (fy f hv x.aG) x.ay x.aL x.fN.toNat s))))
 |0=>⟨fun _ _ _ _ h=>by omega,fun _ _ _ h=>by omega⟩
 |n+1=>by
  obtain⟨i1,i2⟩:=afv hn hh hvn n
  refine⟨fun top l s m h hN hc hs hm=> ?_,fun x s m h hN hx hc ht hst hs hm=> ?_⟩
  ·refine apa (Xw n) (Kz n) hn hh hvn (zy (iY l) hN) hc hs hm (fun x hx s m hs hm=> ?_) (fun x hx s m hs hm=> ?_) (fun x hx s m h4 hs hm=> ?_)
   ·have:=aQ hx
    exact i1 wD x.aG s m (by omega) (zy (uv hx).1 hN) (jN hc hx).1 hs hm
   ·have:=aQ hx
    exact i1 wD x.aJ s m (by omega) (zy (uv hx).2 hN) (jN hc hx).2 hs hm
   ·have:=(aQ hx).1
    obtain⟨_,k⟩:=tq hc hx
    exact i2 x s m (by omega) (zy (uv hx).1 hN) (k.n4 h4) (jV k) k.term (jN hc hx).1 hs hm
  ·exact ajF (Xw n) (Kz n) hn hx hc ht (eE hh hvn _ x.aG wD (zn _) hst) hs hm (fun s m hs hm=>i1 wD x.aG s m (by omega) hN hst hs hm)
theorem anz{r:Runner}(hn:r.fF.ag.length<=1000000)(hh:r.ai.length=r.fF.ai.length)(hvn:∀i,i<r.ai.length->NN r.ai[i]!){top:Bool}{l:List GStep}{s:aj}{m:Nat}(hN:ew l<=1000000)(hc:bI r.fF top l=0)(hs:cI r.fF.ag.length m s)(hm:m+cl l<=1000000):r83 r l s=O (fy r.fF r.ai l s):=
 dy (2*SizeOf.sizeOf l+1) fun n h=>(agd hn hh hvn n).1 top l s m (by omega) hN hc hs hm
theorem amy{f:Flat}{hv:List aD}(hn:f.ag.length<=1000000)(hh:hv.length=f.ai.length)(hvn:∀i,i<hv.length->NN hv[i]!){top:Bool}{l:List GStep}{s:aj}{m:Nat}(hN:ew l<=1000000)(hc:bI f top l=0)(hs:cI f.ag.length m s)(hm:m+cl l<=1000000):r88 f hv l (tr s)=O (tr (fy f hv l s)):=
 dy (2*SizeOf.sizeOf l+1) fun n h=>(afv hn hh hvn n).1 top l s m (by omega) hN hc hs hm
end Go.Proofs.YtnfljbehcffmcaaGreat
end
noncomputable section
namespace Go.Proofs.YtnfljbehcffmcaaGreat
open Go Go.Iv
open Go.IntKind (i64)
def kd(k:Int)(v:aN):Bool:=wF (v.aY=k)
def bX(vars:List aN)(k:Int)(i:Nat):Nat:=((vars.take i).filter (kd k)).length
theorem fD{vars:List aN}{i:Nat}(h:i<vars.length)(k:Int):bX vars k (i+1)=bX vars k i+if vars[i]!.aY=k then 1 else 0:=by
 unfold bX
 rw[bA h,xy,zh]
 by_cases hk:vars[i]!.aY=k
 ·rw[if_pos hk];simp only[yK,xG,kd,hk,decide_true,if_true,yj]
 ·rw[if_neg hk];simp only[yK,xG,kd,hk,decide_false,yD,if_false,List.length_nil]
theorem iV(vars:List aN)(k:Int)(i:Nat):bX vars k i<=i:=by
 unfold bX
 exact zy (yJ _ _) (by rw[zU];omega)
theorem iN{vars:List aN}{k:Int}{i j:Nat}(hij:i<=j)(hj:j<=vars.length):bX vars k i<=bX vars k j:=by
 induction j with
 |zero=>
  have:i=0:=by omega
  subst this;exact zx _
 |succ j ih=>
  by_cases h:i=j+1
  ·subst h;exact zx _
  ·rw[fD (by omega)]
   have:=ih (by omega) (by omega)
   omega
theorem l9(vars:List aN)(k:Int):bX vars k vars.length=(vars.filter (kd k)).length:=by unfold bX;rw[zG]
theorem adB(vars:List aN)(hl:vars.length<=1000000)(k:Int):aas vars k=O (vars.filter (kd k)):=by
 obtain⟨v,e1,hV⟩:=cz (rnd:=FB) vars.length (fun i (b:List aN)=>⟨vars,k,b,(i:Int)⟩) (fun i b=>b=(vars.take i).filter (kd k)) (fun i b hi hb=>by
  have hw:=fq hi hl
  have i1:(i:Int)<(vars.length:Int):=by omega
  have i2:(0:Int)<=(i:Int):=by omega
  refine⟨_,?_,rfl⟩
  have hlen:b.length<=1000000:=by rw[hb];exact zy (iV vars k i) (by omega)
  rw[bA hi,xy,<-hb]
  unfold FB
  by_cases hk:vars[i]!.aY=k
  ·have h2:(b++[vars[i]!]).length<=1073741824:=by rw[zh,yj];omega
   simp only[za,i1,i2,hk,h2,hw,decide_true,cond_true,and_self,if_true,kd,yK,xG]
  ·simp only[za,i1,i2,hk,hw,decide_true,decide_false,cond_true,cond_false,and_self,if_true,kd,yK,xG,yd,yD,if_false]) (fun b _=>by unfold FB;simp) (b:=[]) (by simp)
 rw[zG]at hV
 have e1':Gf ⟨vars,k,[],0⟩=O ⟨vars,k,v,(vars.length:Int)⟩:=e1
 unfold aas
 rw[e1']
 simp[hV]
theorem B4(vars:List aN)(hv:cJ vars)(hl:vars.length<=1000000){k:Int}(hk:k=1\/k=2\/k=3):∃p,m89 vars k=O p:=by
 have hm:=adB vars hl k
 generalize hF:vars.filter (kd k)=L at hm
 have hL:∀v∈L,-1048576<=v.aa/\v.aa<=v.af/\v.af<=1048576:=fun v h=>by rw[<-hF]at h;exact hv v (zW.1 h).1
 have hll:L.length<=1000000:=by rw[<-hF];exact zy (yJ _ _) hl
 obtain⟨v,e1,_⟩:=cz (rnd:=OC) L.length (fun i (_:Unit)=>⟨L,(i:Int)⟩) (fun _ _=>True) (fun i b hi _=>by
  have hw:=fq hi hll
  obtain⟨q1,q2,q3⟩:=hL _ (aR hi)
  have i1:(i:Int)<(L.length:Int):=by omega
  have i2:(0:Int)<=(i:Int):=by omega
  refine⟨(),?_,trivial⟩
  unfold OC
  simp only[za,i1,i2,hi,hw,decide_true,cond_true,and_self,if_true,show ¬L[i]!.af<L[i]!.aa by omega,show ¬L[i]!.aa< -1048576 by omega,show ¬1048576<L[i]!.af by omega,decide_false,cond_false]) (fun b _=>by unfold OC;simp) (b:=()) trivial
 have e1':OK ⟨L,0⟩=O ⟨L,(L.length:Int)⟩:=e1
 have hsz:∀i,i<L.length->∀n:Int,1<=n->n<=4096->i64.wrap (n*i64.wrap (i64.wrap (L[i]!.af-L[i]!.aa)+1))=n*(L[i]!.af-L[i]!.aa+1)/\1<=n*(L[i]!.af-L[i]!.aa+1):=fun i hi n h1 h2=>by
  obtain⟨q1,q2,q3⟩:=hL _ (aR hi)
  have p1:n*(L[i]!.af-L[i]!.aa+1)<=4096*(L[i]!.af-L[i]!.aa+1):=zF h2 (by omega)
  have p2:1*(L[i]!.af-L[i]!.aa+1)<=n*(L[i]!.af-L[i]!.aa+1):=zF h1 (by omega)
  rw[aF (n:=L[i]!.af-L[i]!.aa),aF (n:=L[i]!.af-L[i]!.aa+1),aF]
  exact⟨rfl,by omega⟩
 obtain⟨i,n,e2,hI,hc⟩:=nB (rnd:=J2) L.length (fun i (b:Int)=>⟨L,b,(i:Int)⟩) (fun _ b=>1<=b/\b<=4096) (fun i b=>4096<b*(L[i]!.af-L[i]!.aa+1)) (fun i b hi hb=>by
  have hw:=fq hi hll
  obtain⟨s1,s2⟩:=hsz i hi b hb.1 hb.2
  have i1:(i:Int)<(L.length:Int):=by omega
  have i2:(0:Int)<=(i:Int):=by omega
  by_cases h:4096<b*(L[i]!.af-L[i]!.aa+1)
  ·refine .inr ⟨?_,h⟩
   unfold J2
   simp only[za,i1,i2,hi,decide_true,cond_true,and_self,if_true,s1,h]
  ·refine .inl ⟨b*(L[i]!.af-L[i]!.aa+1),?_,s2,by omega⟩
   unfold J2
   simp only[za,i1,i2,hi,hw,decide_true,cond_true,and_self,if_true,s1,h,decide_false,cond_false]) (fun b _=>by unfold J2;simp) (b:=1) ⟨by omega,by omega⟩
 have e2':Pr ⟨L,1,0⟩=O ⟨L,n,(i:Int)⟩:=e2
 have hk1:(bif bif wF (k=0)then wD else wE then
   bif bif wF (k=1)then wD else wE then
    bif bif wF (k=2)then wD else wE then O (bif wF (k=3)then wD else wE)else O wD
   else O wD
  else some false)=some false:=by rcases hk with h|h|h<;>simp[h]
 unfold m89
 rw[hk1]
 simp only[cond_false,hm,e1']
 rw[dZ,cond_false,e2']
 dsimp only
 rcases hc with rfl|⟨hi,h⟩
 ·rw[dZ]
  exact⟨_,rfl⟩
 ·obtain⟨s1,s2⟩:=hsz i hi n hI.1 hI.2
  have i1:(i:Int)<(L.length:Int):=by omega
  have i2:(0:Int)<=(i:Int):=by omega
  simp only[za,i1,i2,hi,decide_true,cond_true,and_self,if_true,s1,h]
  exact⟨_,rfl⟩
theorem Rx{f:Flat}(h:R3 f 10 80=wE):ew f.bk+iM (f.ai.map (·.ay))<=80/\f.ai.length<=10/\f.ag.length<=10:=by
 unfold R3 at h
 rw[decide_eq_true_eq]at h
 omega
theorem R6{f:Flat}(h:wW f=0):bI f wE f.bk=0:=by
 unfold wW at h
 split at h
 ·cases h
 split at h
 ·exact absurd h ‹_›
 split at h
 ·exact absurd h ‹_›
 split at h
 ·exact absurd h ‹_›
 rename_i h4
 simpa using h4
theorem aix(f:Flat)(a b c:Int):∃r,m24 f a b c=O r/\(r=wE->R3 f 10 80=wE/\wW f=0):=by
 unfold m24
 rw[Ul f 10 80 (by decide) (by decide) (by decide) (by decide)]
 cases hf:R3 f 10 80 with
 |false=>exact⟨false,rfl,fun h=>by cases h⟩
 |true=>
  obtain⟨h1,h2,h3⟩:=Rx hf
  rw[NL f (by omega) (by omega) (by omega)]
  by_cases hc:wW f=0
  ·have hv:=ua hc
   obtain⟨p1,e1⟩:=B4 f.ag hv (by omega) (k:=1) (.inl rfl)
   obtain⟨p2,e2⟩:=B4 f.ag hv (by omega) (k:=2) (.inr (.inl rfl))
   obtain⟨p3,e3⟩:=B4 f.ag hv (by omega) (k:=3) (.inr (.inr rfl))
   have hS:uZ f.bk:=vF f _ f.bk wE (zn _) (R6 hc)
   rw[e1,e2,e3,VT f.bk (by omega) hS]
   simp only[hc,decide_true,cond_true,cond_false]
   cases wF (p1.fst<=a)<;>cases wF (p2.fst<=b)<;>cases wF (p3.fst<=c)<;>exact⟨_,rfl,fun _=>⟨trivial,trivial⟩⟩
  ·simp only[hc,decide_false,cond_true,cond_false]
   exact⟨false,rfl,fun h=>by cases h⟩
end Go.Proofs.YtnfljbehcffmcaaGreat
end
noncomputable section
namespace Go.Proofs.YtnfljbehcffmcaaGreat
open Go Go.Iv
def agK(vars:List aN)(inp:kV)(i:Nat):Int:=
 if vars[i]!.aY=1 then inp.HG[bX vars 1 i]! else if vars[i]!.aY=2 then inp.aS[bX vars 2 i]! else if vars[i]!.aY=3 then inp.Ho[bX vars 3 i]! else vars[i]!.dc
structure arE (vars:List aN) (inp:kV):Prop where
 s:inp.HG.length=bX vars 1 vars.length
 p:inp.aS.length=bX vars 2 vars.length
 r:inp.Ho.length=bX vars 3 vars.length
 b:∀i,i<vars.length->vars[i]!.aa<=agK vars inp i/\agK vars inp i<=vars[i]!.af
theorem lT{α:Type}[Inhabited α]{c:Nat->α->Int}:∀{l:List α} {i:Nat},bY c l i=0->∀j,j<l.length->c (i+j) l[j]! =0
 |[],_,_,j,h=>by simp at h
 |x::l,i,h,j,hj=>by
  unfold bY at h
  split at h
  case isFalse h1=>exact absurd h h1
  rename_i h0
  cases j with
  |zero=>simpa using h0
  |succ j=>
   have:=lT h j (by simpa using hj)
   rw[show i+(j+1)=i+1+j by omega]
   exact this
theorem agQ{f:Flat}{i:Nat}{h:cA}(hc:kf f i h=0):(-1048576<=h.aa/\h.aa<=h.af/\h.af<=1048576)/\di f.ag wE h.ay=0:=by
 unfold kf at hc
 split at hc
 ·cases hc
 split at hc
 ·cases hc
 split at hc
 ·cases hc
 rename_i hb
 have hb:fX h.aa h.af=wE:=by simpa using hb
 unfold fX at hb
 rw[decide_eq_true_eq]at hb
 exact⟨⟨hb.2.1,hb.1,hb.2.2⟩,hc⟩
structure JQ (f:Flat):Prop where
 vars:cJ f.ag
 hat:∀i,i<f.ai.length->(-1048576<=f.ai[i]!.aa/\f.ai[i]!.aa<=f.ai[i]!.af/\f.ai[i]!.af<=1048576)/\di f.ag wE f.ai[i]!.ay=0
 steps:bI f wE f.bk=0
 o:(dw f.bk).2.1<=8
 t:(dw f.bk).2.2<=67108864
theorem BP{f:Flat}(h:wW f=0):JQ f:=by
 have hv:=ua h
 unfold wW at h
 split at h
 ·cases h
 split at h
 ·exact absurd h ‹_›
 split at h
 ·exact absurd h ‹_›
 rename_i h3
 split at h
 ·exact absurd h ‹_›
 rename_i h4
 split at h
 ·cases h
 rename_i h5
 have h3:bY (kf f) f.ai 0=0:=by simpa using h3
 have h4:bI f wE f.bk=0:=by simpa using h4
 unfold Q6 at h5
 simp only[decide_eq_true_eq]at h5
 exact⟨hv,fun i hi=>agQ (i:=0+i) (lT h3 i hi),h4,by omega,by omega⟩
end Go.Proofs.YtnfljbehcffmcaaGreat
end
noncomputable section
set_option maxRecDepth 100000
namespace Go.Proofs.YtnfljbehcffmcaaGreat
open Go Go.Iv
open Go.IntKind (i64)
def F79:aI:=(Ks (ak5 (e91 cQ)))
structure BF where
 t2:List aD
 t100:List aN
 (t101 t102:Int)
def Vb:Td 0 BF:= .c [] [2,100,101,102] (.r 0 1 (ec 2 (ql 34) (ec 100 (qo 0) (ec 101 (qi .i64) (ec 102 (qi .i64) en)))) (sr 0 131 sn) (fun z=>⟨z.1.1,z.2.1,z.1.2.2.1,z.1.2.2.2.1⟩) (fun x=>((x.t2,(),x.t101,x.t102,()),(x.t100,()))) fun _=>rfl)
def Ic(p:BF):Option (Option BF):=
 bif wF (p.t102<p.t101)then if(0:Int)<=p.t102/\p.t102<(↑p.t100.length:Int)then if 131=131/\p.t102.toNat<p.t100.length then match if(0:Int)<=p.t102/\p.t102<(↑p.t2.length:Int)then match rE p.t2[p.t102.toNat]! with|wC=>wC|O r2=>bif bif r2 then wD else wE then O (wE)else if(0:Int)<=p.t102/\p.t102<(↑p.t2.length:Int)then match GY p.t2[p.t102.toNat]! with|wC=>wC|O r3=>O (wF (r3=0))else wC else wC with|wC=>wC|O r4=>bif r4 then O (wC)else if(0:Int)<=p.t102/\p.t102<(↑p.t2.length:Int)then bif wF (p.t2[p.t102.toNat]!.aa<p.t100[p.t102.toNat]!.aa)then O (wC)else if(0:Int)<=p.t102/\p.t102<(↑p.t2.length:Int)then bif wF (p.t100[p.t102.toNat]!.af<p.t2[p.t102.toNat]!.af)then O (wC)else O (O (BF.mk p.t2 p.t100 p.t101 (i64.wrap (p.t102+1))))else wC else wC else wC else wC else O (wC)
def afn:An:=(.two .no (.two .no (.two (.two .no (.two (.two (.rb [91,144] 120) .no) .no)) .no)))
def Pz:BF->Option BF:=bw (Ic)
structure Cd where
 t2:List aD
 (t9 t69:List aN)
 (t70 t71:Int)
 b0:View
def Wq:Td 0 Cd:= .c [] [2,4,9,69,70,71] (.r 0 3 (ec 2 (ql 34) (ec 4 (qp 0 0) (ec 9 (qo 1) (ec 69 (qo 2) (ec 70 (qi .i64) (ec 71 (qi .i64) en)))))) (sb 0 29 (lg 29) (sr 1 131 (sr 2 131 sn))) (fun z=>⟨z.1.1,z.2.2.1,z.2.2.2.1,z.1.2.2.2.2.1,z.1.2.2.2.2.2.1,z.2.1⟩) (fun x=>((x.t2,(),(),(),x.t70,x.t71,()),(x.b0,x.t9,x.t69,()))) fun _=>rfl)
def Ie(p:Cd):Option (Option Cd):=
 bif wF (p.t71<p.t70)then if(0:Int)<=p.t71/\p.t71<(↑p.t69.length:Int)then if 131=131/\p.t71.toNat<p.t69.length then if(0:Int)<=p.t71/\p.t71<(↑p.b0.aS.length:Int)then bif wF (((p.t2,(),(),(),p.t70,p.t71,()),p.b0,p.t9,p.t69,()).snd.fst.aS[((p.t2,(),(),(),p.t70,p.t71,()),p.b0,p.t9,p.t69,()).fst.snd.snd.snd.snd.snd.fst.toNat]! <((p.t2,(),(),(),p.t70,p.t71,()),p.b0,p.t9,p.t69,()).snd.snd.snd.fst[((p.t2,(),(),(),p.t70,p.t71,()),p.b0,p.t9,p.t69,()).fst.snd.snd.snd.snd.snd.fst.toNat]!.aa)then O (wC)else if(0:Int)<=p.t71/\p.t71<(↑p.b0.aS.length:Int)then bif wF (((p.t2,(),(),(),p.t70,p.t71,()),p.b0,p.t9,p.t69,()).snd.snd.snd.fst[((p.t2,(),(),(),p.t70,p.t71,()),p.b0,p.t9,p.t69,()).fst.snd.snd.snd.snd.snd.fst.toNat]!.af<((p.t2,(),(),(),p.t70,p.t71,()),p.b0,p.t9,p.t69,()).snd.fst.aS[((p.t2,(),(),(),p.t70,p.t71,()),p.b0,p.t9,p.t69,()).fst.snd.snd.snd.snd.snd.fst.toNat]!)then O (wC)else O (O (Cd.mk p.t2 p.t9 p.t69 p.t70 (i64.wrap (p.t71+1)) p.b0))else wC else wC else wC else wC else O (wC)
def Qo:Cd->Option Cd:=bw (Ie)
structure tH where
 t2:List aD
 (t8 t9:List aN)
 t13:Int
 t40:List Int
 (t41 t42:Int)
 t47:List aN
 (t48 t49:Int)
 b0:Flat
 b1:View
def Xe:Td 0 tH:= .c [] [2,3,4,8,9,13,40,41,42,47,48,49] (.r 0 5 (ec 2 (ql 34) (ec 3 (qp 0 0) (ec 4 (qp 1 0) (ec 8 (qo 2) (ec 9 (qo 3) (ec 13 (qi .i64) (ec 40 (qo 4) (ec 41 (qi .i64) (ec 42 (qi .i64) (ec 47 (ql 131) (ec 48 (qi .i64) (ec 49 (qi .i64) en)))))))))))) (sb 0 26 (lg 26) (sb 1 29 (lg 29) (sr 2 131 (sr 3 131 (sr 4 129 sn))))) (fun z=>⟨z.1.1,z.2.2.2.1,z.2.2.2.2.1,z.1.2.2.2.2.2.1,z.2.2.2.2.2.1,z.1.2.2.2.2.2.2.2.1,z.1.2.2.2.2.2.2.2.2.1,z.1.2.2.2.2.2.2.2.2.2.1,z.1.2.2.2.2.2.2.2.2.2.2.1,z.1.2.2.2.2.2.2.2.2.2.2.2.1,z.2.1,z.2.2.1⟩) (fun x=>((x.t2,(),(),(),(),x.t13,(),x.t41,x.t42,x.t47,x.t48,x.t49,()),(x.b0,x.b1,x.t8,x.t9,x.t40,()))) fun _=>rfl)
def Pq(p:tH):Option (Option tH):=
 bif wF (p.t49<p.t48)then if(0:Int)<=p.t49/\p.t49<(↑p.t47.length:Int)then bif wF (p.t47[p.t49.toNat]!.aY=p.t13)then if(p.t9++[p.t47[p.t49.toNat]!]).length<=1073741824 then O (O (tH.mk p.t2 p.t8 (p.t9++[p.t47[p.t49.toNat]!]) p.t13 p.t40 p.t41 p.t42 p.t47 p.t48 (i64.wrap (p.t49+1)) p.b0 p.b1))else wC else O (O (tH.mk p.t2 p.t8 p.t9 p.t13 p.t40 p.t41 p.t42 p.t47 p.t48 (i64.wrap (p.t49+1)) p.b0 p.b1))else wC else O (wC)
def EG:tH->Option tH:=bw (Pq)
structure Bx where
 t2:List aD
 (t8 t9:List aN)
 t40:List Int
 (t41 t42:Int)
 b0:Flat
 b1:View
def WE:Td 0 Bx:= .c [] [2,3,4,8,9,40,41,42] (.t (cq.s 9 [] 131) (.c [] [2,3,4,8,9,40,41,42] (.r 0 5 (ec 2 (ql 34) (ec 3 (qp 0 0) (ec 4 (qp 1 0) (ec 8 (qo 2) (ec 9 (qo 3) (ec 40 (qo 4) (ec 41 (qi .i64) (ec 42 (qi .i64) en)))))))) (sb 0 26 (lg 26) (sb 1 29 (lg 29) (sr 2 131 (sr 3 131 (sr 4 129 sn))))) (fun z=>⟨z.1.1,z.2.2.2.1,z.2.2.2.2.1,z.2.2.2.2.2.1,z.1.2.2.2.2.2.2.1,z.1.2.2.2.2.2.2.2.1,z.2.1,z.2.2.1⟩) (fun x=>((x.t2,(),(),(),(),(),x.t41,x.t42,()),(x.b0,x.b1,x.t8,x.t9,x.t40,()))) fun _=>rfl)))
def O1(p:Bx):Option (Option Bx):=
 bif wF (p.t42<p.t41)then if(0:Int)<=p.t42/\p.t42<(↑p.t40.length:Int)then if 129=129/\p.t42.toNat<p.t40.length then match EG (tH.mk p.t2 p.t8 p.t9 p.t40[p.t42.toNat]! p.t40 p.t41 p.t42 p.b0.ag (↑p.b0.ag.length:Int) (0) p.b0 p.b1)with|wC=>wC|O r1=>bif wF (r1.t49<r1.t48)then if(0:Int)<=r1.t49/\r1.t49<(↑r1.t47.length:Int)then bif wF (r1.t47[r1.t49.toNat]!.aY=r1.t13)then if(r1.t9++[r1.t47[r1.t49.toNat]!]).length<=1073741824 then wC else wC else wC else wC else O (O (Bx.mk r1.t2 r1.t8 r1.t9 r1.t40 r1.t41 (i64.wrap (r1.t42+1)) r1.b0 r1.b1))else wC else wC else O (wC)
def ae1:An:=(.two .no (.two .no (.two (.two .no (.two .no (Xe.lp EG .no))) .no)))
def IF:Bx->Option Bx:=bw (O1)
structure wV where
 t2:List aD
 (t8 t26:List aN)
 (t27 t28:Int)
 b0:Flat
 b1:View
def Tq:Td 0 wV:= .c [] [2,3,4,8,9,26,27,28] (.t (cq.s 8 [] 131) (.c [] [2,3,4,8,9,26,27,28] (.r 0 3 (ec 2 (ql 34) (ec 3 (qp 0 0) (ec 4 (qp 1 0) (ec 8 (qo 2) (ec 9 qn (ec 26 (ql 131) (ec 27 (qi .i64) (ec 28 (qi .i64) en)))))))) (sb 0 26 (lg 26) (sb 1 29 (lg 29) (sr 2 131 sn))) (fun z=>⟨z.1.1,z.2.2.2.1,z.1.2.2.2.2.2.1,z.1.2.2.2.2.2.2.1,z.1.2.2.2.2.2.2.2.1,z.2.1,z.2.2.1⟩) (fun x=>((x.t2,(),(),(),(),x.t26,x.t27,x.t28,()),(x.b0,x.b1,x.t8,()))) fun _=>rfl)))
def Pb(p:wV):Option (Option wV):=
 bif wF (p.t28<p.t27)then if(0:Int)<=p.t28/\p.t28<(↑p.t26.length:Int)then bif wF (p.t26[p.t28.toNat]!.aY=2)then if(p.t8++[p.t26[p.t28.toNat]!]).length<=1073741824 then O (O (wV.mk p.t2 (p.t8++[p.t26[p.t28.toNat]!]) p.t26 p.t27 (i64.wrap (p.t28+1)) p.b0 p.b1))else wC else O (O (wV.mk p.t2 p.t8 p.t26 p.t27 (i64.wrap (p.t28+1)) p.b0 p.b1))else wC else O (wC)
def Oe:wV->Option wV:=bw (Pb)
abbrev E79:Type:=Int
def d79:Td 0 E79:= .c [] [6] (.r 0 0 (ec 6 (qi .i64) en) sn (fun z=>z.1.1) (fun x=>((x,()),(()))) fun _=>rfl)
theorem ava:∀f∈([91,144]:List Nat),aV (F79) f:=(az (eN (DO (Da aZ))) (az (eN (DO (Da aZ))) aC))
def m79(a0:Flat)(a1:View)(a2:List aD):Option E79:=
 match abW a0 with|wC=>wC|O r5=>bif bif wF (r5=0)then wD else wE then O (r5)else match Oe (wV.mk a2 [] a0.ag (↑a0.ag.length:Int) (0) a0 a1)with|wC=>wC|O r6=>bif wF (r6.t28<r6.t27)then if(0:Int)<=r6.t28/\r6.t28<(↑r6.t26.length:Int)then bif wF (r6.t26[r6.t28.toNat]!.aY=2)then if(r6.t8++[r6.t26[r6.t28.toNat]!]).length<=1073741824 then wC else wC else wC else wC else match IF (Bx.mk r6.t2 r6.t8 [] [1,3] (↑2:Int) (0) r6.b0 r6.b1)with|wC=>wC|O r7=>bif wF (r7.t42<r7.t41)then if(0:Int)<=r7.t42/\r7.t42<(↑r7.t40.length:Int)then if 129=129/\r7.t42.toNat<r7.t40.length then match EG (tH.mk r7.t2 r7.t8 r7.t9 r7.t40[r7.t42.toNat]! r7.t40 r7.t41 r7.t42 r7.b0.ag (↑r7.b0.ag.length:Int) (0) r7.b0 r7.b1)with|wC=>wC|O r8=>bif wF (r8.t49<r8.t48)then if(0:Int)<=r8.t49/\r8.t49<(↑r8.t47.length:Int)then bif wF (r8.t47[r8.t49.toNat]!.aY=r8.t13)then if(r8.t9++[r8.t47[r8.t49.toNat]!]).length<=1073741824 then wC else wC else wC else wC else wC else wC else wC else bif bif wF ((↑r7.b1.aS.length:Int)=(↑r7.t8.length:Int))then wD else wE then O (1)else match Qo (Cd.mk r7.t2 r7.t9 r7.t8 (↑r7.t8.length:Int) (0) r7.b1)with|wC=>wC|O r9=>bif wF (r9.t71<r9.t70)then if(0:Int)<=r9.t71/\r9.t71<(↑r9.t69.length:Int)then if 131=131/\r9.t71.toNat<r9.t69.length then if(0:Int)<=r9.t71/\r9.t71<(↑r9.b0.aS.length:Int)then bif wF (((r9.t2,(),(),(),r9.t70,r9.t71,()),r9.b0,r9.t9,r9.t69,()).snd.fst.aS[((r9.t2,(),(),(),r9.t70,r9.t71,()),r9.b0,r9.t9,r9.t69,()).fst.snd.snd.snd.snd.snd.fst.toNat]! <((r9.t2,(),(),(),r9.t70,r9.t71,()),r9.b0,r9.t9,r9.t69,()).snd.snd.snd.fst[((r9.t2,(),(),(),r9.t70,r9.t71,()),r9.b0,r9.t9,r9.t69,()).fst.snd.snd.snd.snd.snd.fst.toNat]!.aa)then O (3)else if(0:Int)<=r9.t71/\r9.t71<(↑r9.b0.aS.length:Int)then bif wF (((r9.t2,(),(),(),r9.t70,r9.t71,()),r9.b0,r9.t9,r9.t69,()).snd.snd.snd.fst[((r9.t2,(),(),(),r9.t70,r9.t71,()),r9.b0,r9.t9,r9.t69,()).fst.snd.snd.snd.snd.snd.fst.toNat]!.af<((r9.t2,(),(),(),r9.t70,r9.t71,()),r9.b0,r9.t9,r9.t69,()).snd.fst.aS[((r9.t2,(),(),(),r9.t70,r9.t71,()),r9.b0,r9.t9,r9.t69,()).fst.snd.snd.snd.snd.snd.fst.toNat]!)then O (3)else wC else wC else wC else wC else wC else bif bif wF ((↑r9.t2.length:Int)=(↑r9.t9.length:Int))then wD else wE then O (2)else match Pz (BF.mk r9.t2 r9.t9 (↑r9.t9.length:Int) (0))with|wC=>wC|O r10=>bif wF (r10.t102<r10.t101)then if(0:Int)<=r10.t102/\r10.t102<(↑r10.t100.length:Int)then if 131=131/\r10.t102.toNat<r10.t100.length then match if(0:Int)<=r10.t102/\r10.t102<(↑r10.t2.length:Int)then match rE r10.t2[r10.t102.toNat]! with|wC=>wC|O r11=>bif bif r11 then wD else wE then O (wE)else if(0:Int)<=r10.t102/\r10.t102<(↑r10.t2.length:Int)then match GY r10.t2[r10.t102.toNat]! with|wC=>wC|O r12=>O (wF (r12=0))else wC else wC with|wC=>wC|O r13=>bif r13 then O (1)else if(0:Int)<=r10.t102/\r10.t102<(↑r10.t2.length:Int)then bif wF (r10.t2[r10.t102.toNat]!.aa<r10.t100[r10.t102.toNat]!.aa)then O (3)else if(0:Int)<=r10.t102/\r10.t102<(↑r10.t2.length:Int)then bif wF (r10.t100[r10.t102.toNat]!.af<r10.t2[r10.t102.toNat]!.af)then O (3)else wC else wC else wC else wC else wC else O (0)
def e79:aI->aI:=eL wG 79 wD (lc (qg 26) (lc (qg 29) (lc (ql 34) ln))) d79 (fun g=>m79 g.1 g.2.1 g.2.2.1)
theorem ag4:EO e79:=fun h=>kL (F:=F79) (an:=(.two .no (.two .no (.two .no (.two (.two .no (Tq.lp Oe .no)) (.two (.two .no (WE.lp IF ae1)) (.two .no (.two (.two .no (Wq.lp Qo .no)) (.two .no (.two (.two .no (Vb.lp Pz afn)) .no)))))))))) (l:=[(aU f79 0,(Tq.lp Oe .no)),(aU f79 1,(WE.lp IF ae1)),(aU f79 2,(Xe.lp EG .no)),(aU f79 3,(Wq.lp Qo .no)),(aU f79 4,(Vb.lp Pz afn)),(.skip,(.rb [91,144] 120))]) func79 (jK (Yz (Lw aK))) (az (aO Tq) (az (aO WE) (az (aO Xe) (az (aO Wq) (az (aO Vb) (az ava aC)))))) h
def F20:aI:=(e83 (e82 (e81 (e80 (e79 cQ)))))
theorem ai3:bf wG F20:=(ahh (G8 (NC (Gm (ag4 aK)))))
structure CR where
 t108:List cA
 (t109 t110:Int)
 b0:Flat
 b1:View
 b2:Abstract
 b3:aj
 b4:Runner
def Wb:Td 0 CR:= .c [] [3,4,6,9,17,108,109,110] (.t (cq.c 4 3 [] 34) (.c [] [3,4,6,9,17,108,109,110] (.r 0 7 (ec 3 (qp 0 0) (ec 4 (qp 1 0) (ec 6 (qp 2 0) (ec 9 (qp 3 0) (ec 17 (qp 4 0) (ec 108 (ql 139) (ec 109 (qi .i64) (ec 110 (qi .i64) en)))))))) (sb 0 26 (lg 26) (sb 1 29 (lg 29) (sb 2 36 (lc (qi .i64) (lc (qi .i64) (lc (qi .i64) (lc qn (lc (qi .i64) (lc (qi .i64) (lc (qi .i64) (lc qn ln)))))))) (sb 3 128 (lc (qo 5) (lc (qi .i64) (lc (qi .i64) (lc (qi .i64) (lc qn (lc (qi .i64) (lc (qi .i64) (lc (qi .i64) ln)))))))) (sb 4 133 (lc (ql 131) (lc (ql 139) (lc (ql 166) (lc (qo 6) ln)))) (sr 5 34 (sr 6 34 sn))))))) (fun z=>⟨z.1.2.2.2.2.2.1,z.1.2.2.2.2.2.2.1,z.1.2.2.2.2.2.2.2.1,z.2.1,z.2.2.1,(Abstract.mk (aD.mk z.2.2.2.1.1 z.2.2.2.1.2.1 z.2.2.2.1.2.2.1) [] (aD.mk z.2.2.2.1.2.2.2.2.1 z.2.2.2.1.2.2.2.2.2.1 z.2.2.2.1.2.2.2.2.2.2.1) []),(aj.mk z.2.2.2.2.2.2.1 (aD.mk z.2.2.2.2.1.2.1 z.2.2.2.2.1.2.2.1 z.2.2.2.2.1.2.2.2.1) [] (aD.mk z.2.2.2.2.1.2.2.2.2.2.1 z.2.2.2.2.1.2.2.2.2.2.2.1 z.2.2.2.2.1.2.2.2.2.2.2.2.1)),(Runner.mk (Flat.mk z.2.2.2.2.2.1.1 z.2.2.2.2.2.1.2.1 z.2.2.2.2.2.1.2.2.1) z.2.2.2.2.2.2.2.1)⟩) (fun x=>(((),(),(),(),(),x.t108,x.t109,x.t110,()),(x.b0,x.b1,(x.b2.au.aa,x.b2.au.af,x.b2.au.ah,(),x.b2.aA.aa,x.b2.aA.af,x.b2.aA.ah,(),()),((),x.b3.au.aa,x.b3.au.af,x.b3.au.ah,(),x.b3.aA.aa,x.b3.aA.af,x.b3.aA.ah,()),(x.b4.fF.ag,x.b4.fF.ai,x.b4.fF.bk,(),()),x.b3.ag,x.b4.ai,()))) fun _=>rfl)))
def Qn(p:CR):Option (Option CR):=
 bif wF (p.t110<p.t109)then if(0:Int)<=p.t110/\p.t110<(↑p.t108.length:Int)then match LY (aj.mk p.b3.ag p.b3.au [] p.b3.aA) (aq.mk p.t108[p.t110.toNat]!.ay.aW p.t108[p.t110.toNat]!.ay.fN p.t108[p.t110.toNat]!.ay.ak)with|wC=>wC|O r1=>match Zy r1 p.t108[p.t110.toNat]!.aa p.t108[p.t110.toNat]!.af with|wC=>wC|O r2=>if(p.b4.ai++[r2.fst]).length<=1073741824 then O (O (CR.mk p.t108 p.t109 (i64.wrap (p.t110+1)) p.b0 p.b1 (Abstract.mk p.b2.au [] p.b2.aA []) (aj.mk p.b3.ag p.b3.au [] p.b3.aA) (Runner.mk p.b4.fF (p.b4.ai++[r2.fst]))))else wC else wC else O (wC)
def J5:CR->Option CR:=bw (Qn)
structure ri where
 t2:List aD
 (t10 t11 t12:Int)
 t47:List aN
 (t48 t49:Int)
 b0:Flat
 b1:View
 b2:Abstract
 b3:aj
def Xi:Td 0 ri:= .c [] [2,3,4,6,9,10,11,12,47,48,49] (.t (cq.c 3 0 [] 34) (.c [] [2,3,4,6,9,10,11,12,47,48,49] (.r 0 5 (ec 2 (ql 34) (ec 3 (qp 0 0) (ec 4 (qp 1 0) (ec 6 (qp 2 0) (ec 9 (qp 3 0) (ec 10 (qi .i64) (ec 11 (qi .i64) (ec 12 (qi .i64) (ec 47 (ql 131) (ec 48 (qi .i64) (ec 49 (qi .i64) en))))))))))) (sb 0 26 (lg 26) (sb 1 29 (lg 29) (sb 2 36 (lc (qi .i64) (lc (qi .i64) (lc (qi .i64) (lc qn (lc (qi .i64) (lc (qi .i64) (lc (qi .i64) (lc qn ln)))))))) (sb 3 128 (lc (qo 4) (lc (qi .i64) (lc (qi .i64) (lc (qi .i64) (lc qn (lc (qi .i64) (lc (qi .i64) (lc (qi .i64) ln)))))))) (sr 4 34 sn))))) (fun z=>⟨z.1.1,z.1.2.2.2.2.2.1,z.1.2.2.2.2.2.2.1,z.1.2.2.2.2.2.2.2.1,z.1.2.2.2.2.2.2.2.2.1,z.1.2.2.2.2.2.2.2.2.2.1,z.1.2.2.2.2.2.2.2.2.2.2.1,z.2.1,z.2.2.1,(Abstract.mk (aD.mk z.2.2.2.1.1 z.2.2.2.1.2.1 z.2.2.2.1.2.2.1) [] (aD.mk z.2.2.2.1.2.2.2.2.1 z.2.2.2.1.2.2.2.2.2.1 z.2.2.2.1.2.2.2.2.2.2.1) []),(aj.mk z.2.2.2.2.2.1 (aD.mk z.2.2.2.2.1.2.1 z.2.2.2.2.1.2.2.1 z.2.2.2.2.1.2.2.2.1) [] (aD.mk z.2.2.2.2.1.2.2.2.2.2.1 z.2.2.2.2.1.2.2.2.2.2.2.1 z.2.2.2.2.1.2.2.2.2.2.2.2.1))⟩) (fun x=>((x.t2,(),(),(),(),x.t10,x.t11,x.t12,x.t47,x.t48,x.t49,()),(x.b0,x.b1,(x.b2.au.aa,x.b2.au.af,x.b2.au.ah,(),x.b2.aA.aa,x.b2.aA.af,x.b2.aA.ah,(),()),((),x.b3.au.aa,x.b3.au.af,x.b3.au.ah,(),x.b3.aA.aa,x.b3.aA.af,x.b3.aA.ah,()),x.b3.ag,()))) fun _=>rfl)))
def QM(p:ri):Option (Option ri):=
 bif wF (p.t49<p.t48)then if(0:Int)<=p.t49/\p.t49<(↑p.t47.length:Int)then bif wF (p.t47[p.t49.toNat]!.aY=1)then if(0:Int)<=p.t10/\p.t10<(↑p.t2.length:Int)then if(p.b3.ag++[p.t2[p.t10.toNat]!]).length<=1073741824 then O (O (ri.mk p.t2 (i64.wrap (p.t10+1)) p.t11 p.t12 p.t47 p.t48 (i64.wrap (p.t49+1)) p.b0 p.b1 (Abstract.mk p.b2.au [] p.b2.aA []) (aj.mk (p.b3.ag++[p.t2[p.t10.toNat]!]) p.b3.au [] p.b3.aA)))else wC else wC else bif wF (p.t47[p.t49.toNat]!.aY=2)then if(0:Int)<=p.t11/\p.t11<(↑p.b1.aS.length:Int)then if(p.b3.ag++[Qd p.b1.aS[p.t11.toNat]!]).length<=1073741824 then O (O (ri.mk p.t2 p.t10 (i64.wrap (p.t11+1)) p.t12 p.t47 p.t48 (i64.wrap (p.t49+1)) p.b0 p.b1 (Abstract.mk p.b2.au [] p.b2.aA []) (aj.mk (p.b3.ag++[Qd p.b1.aS[p.t11.toNat]!]) p.b3.au [] p.b3.aA)))else wC else wC else bif wF (p.t47[p.t49.toNat]!.aY=3)then if(0:Int)<=p.t12/\p.t12<(↑p.t2.length:Int)then if(p.b3.ag++[p.t2[p.t12.toNat]!]).length<=1073741824 then O (O (ri.mk p.t2 p.t10 p.t11 (i64.wrap (p.t12+1)) p.t47 p.t48 (i64.wrap (p.t49+1)) p.b0 p.b1 (Abstract.mk p.b2.au [] p.b2.aA []) (aj.mk (p.b3.ag++[p.t2[p.t12.toNat]!]) p.b3.au [] p.b3.aA)))else wC else wC else if(p.b3.ag++[Qd p.t47[p.t49.toNat]!.dc]).length<=1073741824 then O (O (ri.mk p.t2 p.t10 p.t11 p.t12 p.t47 p.t48 (i64.wrap (p.t49+1)) p.b0 p.b1 (Abstract.mk p.b2.au [] p.b2.aA []) (aj.mk (p.b3.ag++[Qd p.t47[p.t49.toNat]!.dc]) p.b3.au [] p.b3.aA)))else wC else wC else O (wC)
def Qj:ri->Option ri:=bw (QM)
structure wL where
 t2:List aD
 (t10 t11 t12:Int)
 t34:List aN
 (t35 t36:Int)
 b0:Flat
 b1:View
 b2:Abstract
 b3:aj
def Wv:Td 0 wL:= .c [] [2,3,4,6,9,10,11,12,34,35,36] (.r 0 4 (ec 2 (ql 34) (ec 3 (qp 0 0) (ec 4 (qp 1 0) (ec 6 (qp 2 0) (ec 9 (qp 3 0) (ec 10 (qi .i64) (ec 11 (qi .i64) (ec 12 (qi .i64) (ec 34 (ql 131) (ec 35 (qi .i64) (ec 36 (qi .i64) en))))))))))) (sb 0 26 (lg 26) (sb 1 29 (lg 29) (sb 2 36 (lc (qi .i64) (lc (qi .i64) (lc (qi .i64) (lc qn (lc (qi .i64) (lc (qi .i64) (lc (qi .i64) (lc qn ln)))))))) (sb 3 128 (lc qn (lc (qi .i64) (lc (qi .i64) (lc (qi .i64) (lc qn (lc (qi .i64) (lc (qi .i64) (lc (qi .i64) ln)))))))) sn)))) (fun z=>⟨z.1.1,z.1.2.2.2.2.2.1,z.1.2.2.2.2.2.2.1,z.1.2.2.2.2.2.2.2.1,z.1.2.2.2.2.2.2.2.2.1,z.1.2.2.2.2.2.2.2.2.2.1,z.1.2.2.2.2.2.2.2.2.2.2.1,z.2.1,z.2.2.1,(Abstract.mk (aD.mk z.2.2.2.1.1 z.2.2.2.1.2.1 z.2.2.2.1.2.2.1) [] (aD.mk z.2.2.2.1.2.2.2.2.1 z.2.2.2.1.2.2.2.2.2.1 z.2.2.2.1.2.2.2.2.2.2.1) []),(aj.mk [] (aD.mk z.2.2.2.2.1.2.1 z.2.2.2.2.1.2.2.1 z.2.2.2.2.1.2.2.2.1) [] (aD.mk z.2.2.2.2.1.2.2.2.2.2.1 z.2.2.2.2.1.2.2.2.2.2.2.1 z.2.2.2.2.1.2.2.2.2.2.2.2.1))⟩) (fun x=>((x.t2,(),(),(),(),x.t10,x.t11,x.t12,x.t34,x.t35,x.t36,()),(x.b0,x.b1,(x.b2.au.aa,x.b2.au.af,x.b2.au.ah,(),x.b2.aA.aa,x.b2.aA.af,x.b2.aA.ah,(),()),((),x.b3.au.aa,x.b3.au.af,x.b3.au.ah,(),x.b3.aA.aa,x.b3.aA.af,x.b3.aA.ah,()),()))) fun _=>rfl)
def OY(p:wL):Option (Option wL):=
 bif wF (p.t36<p.t35)then if(0:Int)<=p.t36/\p.t36<(↑p.t34.length:Int)then bif wF (p.t34[p.t36.toNat]!.aY=1)then O (O (wL.mk p.t2 p.t10 p.t11 (i64.wrap (p.t12+1)) p.t34 p.t35 (i64.wrap (p.t36+1)) p.b0 p.b1 (Abstract.mk p.b2.au [] p.b2.aA []) (aj.mk [] p.b3.au [] p.b3.aA)))else O (O (wL.mk p.t2 p.t10 p.t11 p.t12 p.t34 p.t35 (i64.wrap (p.t36+1)) p.b0 p.b1 (Abstract.mk p.b2.au [] p.b2.aA []) (aj.mk [] p.b3.au [] p.b3.aA)))else wC else O (wC)
def PF:wL->Option wL:=bw (OY)
abbrev E20:Type:=Abstract×Int
def d20:Td 0 E20:= .c [] [6,7] (.r 0 1 (ec 6 (qp 0 0) (ec 7 (qi .i64) en)) (sb 0 36 (lg 36) sn) (fun z=>(z.2.1,z.1.2.1)) (fun x=>(((),x.2,()),(x.1,()))) fun _=>rfl)
def A20:=(lc (qg 26) (lc (qg 29) (lc (ql 34) ln)))
def aoa:An:=(.two .no (.two .no (.two .no (.two .no (.two (.two .no (Wv.lp PF .no)) (.two (.two .no (Xi.lp Qj .no)) (.two .no (.two (.two .no (Wb.lp J5 .no)) .no))))))))
theorem auk:eW wG (F20) 0 300 20 (aoa):=bV (l:=[(aU f20 0,(Wv.lp PF .no)),(aU f20 1,(Xi.lp Qj .no)),(aU f20 2,(Wb.lp J5 .no))]) func20 (bB (by kernel_rfl)) (by kernel_rfl) (az (aO Wv) (az (aO Xi) (az (aO Wb) aC)))
def m20(a0:Flat)(a1:View)(a2:List aD):Option E20:=
 match m79 a0 a1 a2 with|wC=>wC|O r3=>bif bif wF (r3=0)then wD else wE then O ((Abstract.mk (aD.mk (0) (0) (0)) [] (aD.mk (0) (0) (0)) [],r3))else match PF (wL.mk a2 (0) (0) (0) a0.ag (↑a0.ag.length:Int) (0) a0 a1 (Abstract.mk (aD.mk (0) (0) (0)) [] (aD.mk (0) (0) (0)) []) (aj.mk [] (Qd (0)) [] (Qd (0))))with|wC=>wC|O r4=>bif wF (r4.t36<r4.t35)then if(0:Int)<=r4.t36/\r4.t36<(↑r4.t34.length:Int)then bif wF (r4.t34[r4.t36.toNat]!.aY=1)then wC else wC else wC else match Qj (ri.mk r4.t2 r4.t10 r4.t11 r4.t12 r4.b0.ag (↑r4.b0.ag.length:Int) (0) r4.b0 r4.b1 (Abstract.mk r4.b2.au [] r4.b2.aA []) (aj.mk [] r4.b3.au [] r4.b3.aA))with|wC=>wC|O r5=>bif wF (r5.t49<r5.t48)then if(0:Int)<=r5.t49/\r5.t49<(↑r5.t47.length:Int)then bif wF (r5.t47[r5.t49.toNat]!.aY=1)then if(0:Int)<=r5.t10/\r5.t10<(↑r5.t2.length:Int)then if(r5.b3.ag++[r5.t2[r5.t10.toNat]!]).length<=1073741824 then wC else wC else wC else bif wF (r5.t47[r5.t49.toNat]!.aY=2)then if(0:Int)<=r5.t11/\r5.t11<(↑r5.b1.aS.length:Int)then if(r5.b3.ag++[Qd r5.b1.aS[r5.t11.toNat]!]).length<=1073741824 then wC else wC else wC else bif wF (r5.t47[r5.t49.toNat]!.aY=3)then if(0:Int)<=r5.t12/\r5.t12<(↑r5.t2.length:Int)then if(r5.b3.ag++[r5.t2[r5.t12.toNat]!]).length<=1073741824 then wC else wC else wC else if(r5.b3.ag++[Qd r5.t47[r5.t49.toNat]!.dc]).length<=1073741824 then wC else wC else wC else match J5 (CR.mk r5.b0.ai (↑r5.b0.ai.length:Int) (0) r5.b0 r5.b1 (Abstract.mk r5.b2.au [] r5.b2.aA []) (aj.mk r5.b3.ag r5.b3.au [] r5.b3.aA) (Runner.mk r5.b0 []))with|wC=>wC|O r6=>bif wF (r6.t110<r6.t109)then if(0:Int)<=r6.t110/\r6.t110<(↑r6.t108.length:Int)then match LY (aj.mk r6.b3.ag r6.b3.au [] r6.b3.aA) (aq.mk r6.t108[r6.t110.toNat]!.ay.aW r6.t108[r6.t110.toNat]!.ay.fN r6.t108[r6.t110.toNat]!.ay.ak)with|wC=>wC|O r7=>match Zy r7 r6.t108[r6.t110.toNat]!.aa r6.t108[r6.t110.toNat]!.af with|wC=>wC|O r8=>if(r6.b4.ai++[r8.fst]).length<=1073741824 then wC else wC else wC else match r83 r6.b4 r6.b0.bk (aj.mk r6.b3.ag r6.b3.au [] r6.b3.aA)with|wC=>wC|O r9=>bif bif r6.b1.nj then wD else wE then O ((Abstract.mk r9.au r9.ax (Qd (0)) r9.ag,0))else O ((Abstract.mk r9.au r9.ax r9.aA r9.ag,0))
theorem c20(a0:Flat)(a1:View)(a2:List aD):bN wG (F20) 300 (aoa) 20 (A20.c (a0,a1,a2,())) [] 0 d20.rd=m20 a0 a1 a2:=by kernel_rfl
def Xf:aI->aI:=eZ wG 20 A20 d20 (fun g=>m20 g.1 g.2.1 g.2.2.1)
theorem MZ{F:aI}(h:bf wG F):bf wG (Xf F):=oT (dH ai3 auk (fun _=>by kernel_rfl) (fun _=>by kernel_rfl) fun g=>c20 g.1 g.2.1 g.2.2.1) ⟨_,func20,by kernel_rfl,by kernel_rfl⟩ (fun _=>by kernel_rfl) h
theorem VG{F:aI}{f:Nat}(hne:zb f 20=wD)(h:aV F f):aV (Xf F) f:=IE hne h
def F93:aI:=cQ
abbrev E93:Type:=Int
def d93:Td 0 E93:= .c [] [4] (.r 0 0 (ec 4 (qi .i64) en) sn (fun z=>z.1.1) (fun x=>((x,()),(()))) fun _=>rfl)
theorem avg:∀f∈([]:List Nat),aV (F93) f:=aC
def m93(a0:Int)(a1:Int):Option E93:=
 match bif wF (0<a1)then if¬a1=(0:Int)then O (wF (i64.wrap ((1099511627776:Int).tdiv a1)<a0))else wC else O (wD)with|wC=>wC|O r1=>bif r1 then O (1099511627776)else O (i64.wrap (a0*a1))
def e93:aI->aI:=eL wG 93 wD (lc (qi .i64) (lc (qi .i64) ln)) d93 (fun g=>m93 g.1 g.2.1)
theorem agT:EO e93:=fun h=>kL (F:=F93) (an:=(.two .no (.two (.two (.rb [] 12) .no) .no))) (l:=[(.skip,(.rb [] 12))]) func93 aK (az avg aC) h
structure BD where
 (t10 t13:Int)
 t58:List aD
 (t59 t60:Int)
def WS:Td 0 BD:= .c [] [10,13,58,59,60] (.r 0 0 (ec 10 (qi .i64) (ec 13 (qi .i64) (ec 58 (ql 34) (ec 59 (qi .i64) (ec 60 (qi .i64) en))))) sn (fun z=>⟨z.1.1,z.1.2.1,z.1.2.2.1,z.1.2.2.2.1,z.1.2.2.2.2.1⟩) (fun x=>((x.t10,x.t13,x.t58,x.t59,x.t60,()),(()))) fun _=>rfl)
def Od(p:BD):Option (Option BD):=
 bif wF (p.t60<p.t59)then if(0:Int)<=p.t60/\p.t60<(↑p.t58.length:Int)then match GY p.t58[p.t60.toNat]! with|wC=>wC|O r6=>match m93 p.t13 r6 with|wC=>wC|O r7=>O (O (BD.mk p.t10 r7 p.t58 p.t59 (i64.wrap (p.t60+1))))else wC else O (wC)
def Ob:BD->Option BD:=bw (Od)
structure qX where
 t2:List aD
 (t10 t11 t32 t33:Int)
 b0:Abstract
def Tu:Td 0 qX:= .c [] [2,8,10,11,32,33] (.r 0 1 (ec 2 (ql 34) (ec 8 (qp 0 0) (ec 10 (qi .i64) (ec 11 (qi .i64) (ec 32 (qi .i64) (ec 33 (qi .i64) en)))))) (sb 0 36 (lg 36) sn) (fun z=>⟨z.1.1,z.1.2.2.1,z.1.2.2.2.1,z.1.2.2.2.2.1,z.1.2.2.2.2.2.1,z.2.1⟩) (fun x=>((x.t2,(),x.t10,x.t11,x.t32,x.t33,()),(x.b0,()))) fun _=>rfl)
def Q5(p:qX):Option (Option qX):=
 bif wF (p.t33<p.t32)then match XO p.b0.au p.t33 with|wC=>wC|O r1=>bif r1 then bif wF (p.t33<(↑p.b0.ax.length:Int))then if(0:Int)<=p.t33/\p.t33<(↑p.b0.ax.length:Int)then match GY p.b0.ax[p.t33.toNat]! with|wC=>wC|O r2=>match m93 p.t11 r2 with|wC=>wC|O r3=>O (O (qX.mk p.t2 (if 1099511627776<i64.wrap (p.t10+p.t11)then 1099511627776 else i64.wrap (p.t10+p.t11)) r3 p.t32 (i64.wrap (p.t33+1)) p.b0))else wC else O (O (qX.mk p.t2 (if 1099511627776<i64.wrap (p.t10+p.t11)then 1099511627776 else i64.wrap (p.t10+p.t11)) p.t11 p.t32 (i64.wrap (p.t33+1)) p.b0))else bif wF (p.t33<(↑p.b0.ax.length:Int))then if(0:Int)<=p.t33/\p.t33<(↑p.b0.ax.length:Int)then match GY p.b0.ax[p.t33.toNat]! with|wC=>wC|O r4=>match m93 p.t11 r4 with|wC=>wC|O r5=>O (O (qX.mk p.t2 p.t10 r5 p.t32 (i64.wrap (p.t33+1)) p.b0))else wC else O (O (qX.mk p.t2 p.t10 p.t11 p.t32 (i64.wrap (p.t33+1)) p.b0))else O (wC)
def Py:qX->Option qX:=bw (Q5)
abbrev E25:Type:=Int×Int
def d25:Td 0 E25:= .c [] [6,7] (.r 0 0 (ec 6 (qi .i64) (ec 7 (qi .i64) en)) sn (fun z=>(z.1.1,z.1.2.1)) (fun x=>((x.1,x.2,()),(()))) fun _=>rfl)
def m25(a0:Flat)(a1:View)(a2:List aD):Option E25:=
 match m20 a0 a1 a2 with|wC=>wC|O r8=>bif bif wF (r8.snd=0)then wD else wE then O ((0,r8.snd))else match GY r8.fst.aA with|wC=>wC|O r9=>match Py (qX.mk a2 (0) r9 (i64.wrap ((↑r8.fst.ax.length:Int)+1)) (0) r8.fst)with|wC=>wC|O r10=>bif wF (r10.t33<r10.t32)then match XO r10.b0.au r10.t33 with|wC=>wC|O r11=>bif r11 then bif wF (r10.t33<(↑r10.b0.ax.length:Int))then if(0:Int)<=r10.t33/\r10.t33<(↑r10.b0.ax.length:Int)then match GY r10.b0.ax[r10.t33.toNat]! with|wC=>wC|O r12=>match m93 r10.t11 r12 with|wC=>wC|O r13=>wC else wC else wC else bif wF (r10.t33<(↑r10.b0.ax.length:Int))then if(0:Int)<=r10.t33/\r10.t33<(↑r10.b0.ax.length:Int)then match GY r10.b0.ax[r10.t33.toNat]! with|wC=>wC|O r14=>match m93 r10.t11 r14 with|wC=>wC|O r15=>wC else wC else wC else match Ob (BD.mk r10.t10 (1) r10.t2 (↑r10.t2.length:Int) (0))with|wC=>wC|O r16=>bif wF (r16.t60<r16.t59)then if(0:Int)<=r16.t60/\r16.t60<(↑r16.t58.length:Int)then match GY r16.t58[r16.t60.toNat]! with|wC=>wC|O r17=>match m93 r16.t13 r17 with|wC=>wC|O r18=>wC else wC else O ((if r16.t13<r16.t10 then r16.t13 else r16.t10,0))
def e25:aI->aI:=eL wG 25 wD (lc (qg 26) (lc (qg 29) (lc (ql 34) ln))) d25 (fun g=>m25 g.1 g.2.1 g.2.2.1)
theorem aih:EO e25:=fun h=>kL (an:=(.two .no (.two .no (.two .no (.two .no (.two (.two .no (Tu.lp Py .no)) (.two .no (.two (.two .no (WS.lp Ob .no)) .no)))))))) (l:=[(aU f25 0,(Tu.lp Py .no)),(aU f25 1,(WS.lp Ob .no))]) func25 (agT (NJ (Lw (MZ aK)))) (az (aO Tu) (az (aO WS) aC)) h
theorem JJ:EP e25:=fun h=>kP h
def F26:aI:=(e91 (Xf cQ))
structure Dt where
 t12:Bool
 t41:List aD
 (t42 t43:Int)
 (b0 b1:bg)
def VY:Td 0 Dt:= .c [] [6,11,12,41,42,43] (.t (cq.c 1 0 [] 3) (.c [] [6,11,12,41,42,43] (.r 0 3 (ec 6 (qp 0 0) (ec 11 (qp 1 0) (ec 12 qb (ec 41 (ql 34) (ec 42 (qi .i64) (ec 43 (qi .i64) en)))))) (sb 0 47 (lc qn (lc (qi .i64) ln)) (sb 1 47 (lc (qo 2) (lc (qi .i64) ln)) (sr 2 3 sn))) (fun z=>⟨z.1.2.2.1,z.1.2.2.2.1,z.1.2.2.2.2.1,z.1.2.2.2.2.2.1,(bg.mk [] z.2.1.2.1),(bg.mk z.2.2.2.1 z.2.2.1.2.1)⟩) (fun x=>(((),(),x.t12,x.t41,x.t42,x.t43,()),(((),x.b0.aA,()),((),x.b1.aA,()),x.b1.bG,()))) fun _=>rfl)))
def Qw(p:Dt):Option (Option Dt):=
 bif wF (p.t43<p.t42)then if(0:Int)<=p.t43/\p.t43<(↑p.t41.length:Int)then match bif p.t12 then match GY p.t41[p.t43.toNat]! with|wC=>wC|O r1=>O (wF (r1=1))else O (wD)with|wC=>wC|O r2=>if(p.b1.bG++[p.t41[p.t43.toNat]!.aa]).length<=1073741824 then O (O (Dt.mk r2 p.t41 p.t42 (i64.wrap (p.t43+1)) (bg.mk [] p.b0.aA) (bg.mk (p.b1.bG++[p.t41[p.t43.toNat]!.aa]) p.b1.aA)))else wC else wC else O (wC)
def agb:An:=(.two .no (.two .no (.two (.two .no (.two (.rb [91] 12) .no)) .no)))
def PD:Dt->Option Dt:=bw (Qw)
abbrev E26:Type:=bg×Bool×Int
def d26:Td 0 E26:= .c [] [6,7,8] (.t (cq.c 0 0 [] 3) (.c [] [6,7,8] (.r 0 2 (ec 6 (qp 0 0) (ec 7 qb (ec 8 (qi .i64) en))) (sb 0 47 (lc (qo 1) (lc (qi .i64) ln)) (sr 1 3 sn)) (fun z=>((bg.mk z.2.2.1 z.2.1.2.1),z.1.2.1,z.1.2.2.1)) (fun x=>(((),x.2.1,x.2.2,()),(((),x.1.aA,()),x.1.bG,()))) fun _=>rfl)))
theorem amV:∀f∈([91]:List Nat),aV (F26) f:=(az (Da (VG (f:=91) rfl aZ)) aC)
def m26(a0:Flat)(a1:View)(a2:List aD):Option E26:=
 match m20 a0 a1 a2 with|wC=>wC|O r3=>bif bif wF (r3.snd=0)then wD else wE then O ((bg.mk [] (0),wD,r3.snd))else match match GY r3.fst.au with|wC=>wC|O r4=>bif wF (r4=1)then match GY r3.fst.aA with|wC=>wC|O r5=>O (wF (r5=1))else O (wD)with|wC=>wC|O r6=>match PD (Dt.mk r6 r3.fst.ax (↑r3.fst.ax.length:Int) (0) (bg.mk [] (0)) (bg.mk [] r3.fst.aA.aa))with|wC=>wC|O r7=>bif wF (r7.t43<r7.t42)then if(0:Int)<=r7.t43/\r7.t43<(↑r7.t41.length:Int)then match bif r7.t12 then match GY r7.t41[r7.t43.toNat]! with|wC=>wC|O r8=>O (wF (r8=1))else O (wD)with|wC=>wC|O r9=>if(r7.b1.bG++[r7.t41[r7.t43.toNat]!.aa]).length<=1073741824 then wC else wC else wC else bif bif r7.t12 then wD else wE then O ((bg.mk [] (0),wD,0))else O ((r7.b1,wE,0))
def e26:aI->aI:=eL wG 26 wD (lc (qg 26) (lc (qg 29) (lc (ql 34) ln))) d26 (fun g=>m26 g.1 g.2.1 g.2.2.1)
theorem ahm:EO e26:=fun h=>kL (F:=F26) (an:=(.two .no (.two .no (.two .no (.two .no (.two (.rb [91] 12) (.two (.two .no (VY.lp PD agb)) .no))))))) (l:=[(.skip,(.rb [91] 12)),(aU f26 0,(VY.lp PD agb)),(.skip,(.rb [91] 12))]) func26 (Lw (MZ aK)) (az amV (az (aO VY) (az amV aC))) h
theorem Ig{F:aI}{f:Nat}(hne:zb f 26=wD)(h:aV F f):aV (e26 F) f:=JH hne h
end Go.Proofs.YtnfljbehcffmcaaGreat
end
