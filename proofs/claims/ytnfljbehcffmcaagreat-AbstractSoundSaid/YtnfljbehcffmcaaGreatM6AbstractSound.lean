/- Merged: Hx, Hy, Ne33, Ne34, Ne35, Ne36, Ne37, Ne38, Qx, Qy, Hz, Hw, Nf1, Nf2, Nf3, Nf4, Hk, Hu, Nf5, Nf6, Nf7, Nf8, Nf9, Nh1, Ng1, Ng2, Ng3. -/
import Derived.Test.YtnfljbehcffmcaaGreatM5AbstractSound
import Derived.Test.YtnfljbehcffmcaaGreatM2AbstractSound
import Derived.Test.YtnfljbehcffmcaaGreatM4AbstractSound
open Int renaming toNat_natCast → zi, le_refl → zm, mul_nonneg → zB, mul_comm → zG, mul_le_mul_of_nonneg_right → zM, add_mul → zQ, mul_assoc → zS, one_mul → zU, ediv_nonneg → zX, ediv_le_self → yg, dvd_sub → yw, toNat → yR, le_of_lt → yV, mul_one → yX, mul_le_mul → y4, dvd_zero → y5, le_trans → y7, natCast_mul → xo, lt_irrefl → xK, mul_le_mul_of_nonneg_left → xW, natCast_add → wE, toNat_mul → wG
open Nat renaming beq → zj, lt_succ_self → zC, le_refl → zI, le_trans → zJ, add_mul → yd, add_zero → yq, zero_add → yJ, succ_mul → yM, mul_le_mul_right → yN, zero_le → xx, one_mul → xA, sub_self → xU
open SizeOf renaming sizeOf → zk
open Bool renaming and_eq_true → zn, false_eq_true → yS, true_and → wD, true → G, false → I
open List renaming mem_cons_self → zo, length_append → zq, getElem?_eq_getElem → zw, all_eq_true → zA, mem_singleton → zD, mem_cons → zF, mem_cons_of_mem → zH, length_map → zL, mem_map → zN, range → zP, take_length → zR, mem_append → zV, mem_filter → zY, length_take → z6, getElem?_map → yb, length_set → yc, getElem_map → ye, drop → yf, length_drop → yh, map_cons → yl, nil_append → ym, map_append → yo, append_nil → yy, length → yC, length_filter_le → yE, length_singleton → yL, filter_cons → yO, mem_iff_getElem → xd, length_cons → xh, take_append_drop → xj, getElem_append_right → xm, eq_nil_of_length_eq_zero → xp, append_assoc → xq, map_nil → xw, cons_append → xE, flatMap_cons → xF, getElem_append_left → xG, getElem_drop → xH, filter_append → xJ, filter_nil → xM, mem_flatMap → xQ, mem_of_mem_drop → xS, drop_zero → wm, mem_of_mem_take → wq, getElem_set → wF, getElem_take → wL, filter_eq_nil_iff → wM, getElem_range → wQ, ext_getElem → wR
open Option renaming isSome_iff_exists → vh, some → Q, none → V
open Decidable renaming decide → O
open Go.Proofs.Tryz renaming prog → vi
open Go.Proofs.Tryz
set_option linter.unusedSectionVars false
set_option linter.unusedVariables false
set_option linter.unusedSimpArgs false
set_option linter.defProp false
noncomputable section
set_option maxRecDepth 100000
namespace Go.Proofs.YtnfljbehcffmcaaGreat
open Go Go.Iv
open Go.IntKind (i64 u64)
abbrev E82:=aH
def d82:Td 0 E82:= .c [] [4] (.r 0 1 (ec 4 (qp 0 0) en) (sb 0 34 (lg 34) sn) (λz=>z.2.1) (λx=>(((),()),(x,()))))
def NJ(a0:au)(a1:ax):ah E82:=
 match aaD (ax.mk a1.bf a1.fN a1.aq) a0 with|V=>V|Q r1=>Q (r1.fst)
def e82:=eL vi 82 I (lc (qg 128) (lc (qg 137) ln)) d82 (λg=>NJ g.1 g.2.1)
def Jx:EO e82:=λh=>kL (an:= .no) func82 (adP aY) aI h
abbrev E40:=aa aH
def d40:Td 0 E40:= .c [] [2] (.t (cU.s 2 [] 34) (.c [] [2] (.r 0 1 (ec 2 (qo 0) en) (sr 0 34 sn) (λz=>z.2.1) (λx=>(((),()),(x,()))))))
def A40:=(lc (ql 34) ln)
def m40(a0:aa aH):ah E40:=if a0.length<=1073741824 then Q a0 else V
def aks:gv vi eB 0 300 40 .no:=cD (l:=[]) func40 (bR (by kernel_rfl)) (by kernel_rfl) aI
def axp(x:aH)(xs:aa aH):ct vi eB 300 .no 40 [.sl 34 (x::xs)] [] 0 d40.rd=if([]++(x::xs)).length<=1073741824 then Q ([]++(x::xs))else V:=by kernel_rfl
def aun(c:Nat):ct vi eB 300 .no 40 [.lit (.slice V 0 c)] [] 0 d40.rd=Q []:=by kernel_rfl
def avg(a:Addr)(c:Nat):ct vi eB 300 .no 40 [.lit (.slice (Q a) 0 c)] [] 0 d40.rd=Q []:=by kernel_rfl
def h40:HL vi 40 A40 d40 (λg=>m40 g.1):=λg r h=>by
 obtain⟨a0,_⟩:=g;have h:m40 a0=Q r:=h;cases a0 with
 |cons x xs=>exact(o5 (out:=λp=>ku vi 40 0 (d40.pat p)) (p:=r) aY aks d40.ok (λp=>by kernel_rfl) (oq (by kernel_rfl)) (l7 (by kernel_rfl)) ((axp x xs).trans (by rw[ym];exact h))).2
 |nil=>
  cases h;exact SD (λc=>(o5 (out:=λp=>ku vi 40 0 (d40.pat p)) (p:=[]) aY aks d40.ok (λp=>by kernel_rfl) (oq (by kernel_rfl)) (l7 (by kernel_rfl)) (aun c)).2) (λa c=>(o5 (out:=λp=>ku vi 40 0 (d40.pat p)) (p:=[]) aY aks d40.ok (λp=>by kernel_rfl) (oq (by kernel_rfl)) (l7 (by kernel_rfl)) (avg a c)).2)
def e40:=eL vi 40 I A40 d40 (λg=>m40 g.1)
def ak4{F:bw}(h:bG vi F):bG vi (e40 F):=iJ (sc:=Ec) fS h40 ⟨_,func40,by kernel_rfl,by kernel_rfl⟩ (λ_=>by kernel_rfl) (λ_=>by kernel_rfl) h
abbrev arT:=au
def d235:Td 0 arT:= .c [] [2] (.r 0 3 (ec 2 (qp 0 0) en) (sb 0 128 (lc (qo 1) (bg (bg (bg (lc (qo 2) (bg (bg (bg ln)))))))) (sr 1 34 (sr 2 34 sn))) (λz=>(au.mk z.t.1 (aH.mk z.2.1.2.1 z.2.1.t.1 z.2.1.t.2.1) z.t.2.1 (aH.mk z.2.1.q.2.1 z.2.1.q.t.1 z.2.1.q.t.2.1))) (λx=>(((),()),(((),x.aC.ag,x.aC.af,x.aC.aj,(),x.aF.ag,x.aF.af,x.aF.aj,()),x.ai,x.aA,()))))
def Fl(a0:au):ah arT:=
 match m40 a0.ai with|V=>V|Q r1=>match m40 a0.aA with|V=>V|Q r2=>Q (au.mk r1 a0.aC r2 a0.aF)
def ans:=eL vi 235 I (lc (qg 128) ln) d235 (λg=>Fl g.1)
def tT:EO ans:=λh=>kL (an:= .no) func235 (ak4 aY) aI h
structure Bn where
 t46:List aH
 (t47 t48:Int)
 (b0 b1:au)
def O8:Td 0 Bn:= .c [] [4,5,46,47,48] (.r 0 4 (ec 4 (qp 0 0) (ec 5 (qp 1 0) (ec 46 (ql 34) (ec 47 aU (ec 48 aU en))))) (sb 0 128 (lc qn (bg (bg (bg (lc qn (bg (bg (bg ln)))))))) (sb 1 128 (lc (qo 2) (bg (bg (bg (lc (qo 3) (bg (bg (bg ln)))))))) (sr 2 34 (sr 3 34 sn)))) (λz=>⟨z.1.t.1,z.1.t.2.1,z.1.q.1,(au.mk [] (aH.mk z.2.1.2.1 z.2.1.t.1 z.2.1.t.2.1) [] (aH.mk z.2.1.q.2.1 z.2.1.q.t.1 z.2.1.q.t.2.1)),(au.mk z.t.2.1 (aH.mk z.t.1.2.1 z.t.1.t.1 z.t.1.t.2.1) z.q.1 (aH.mk z.t.1.q.2.1 z.t.1.q.t.1 z.t.1.q.t.2.1))⟩) (λx=>(((),(),x.t46,x.t47,x.t48,()),(((),x.b0.aC.ag,x.b0.aC.af,x.b0.aC.aj,(),x.b0.aF.ag,x.b0.aF.af,x.b0.aF.aj,()),((),x.b1.aC.ag,x.b1.aC.af,x.b1.aC.aj,(),x.b1.aF.ag,x.b1.aF.af,x.b1.aF.aj,()),x.b1.ai,x.b1.aA,()))))
def I9(p:Bn):ah (ah Bn):=
 bif O (p.t48<p.t47)then if 0<=p.t48/\p.t48<p.t46.length then bif O (p.t48<p.b1.aA.length)then if 0<=p.t48/\p.t48<p.b1.aA.length then if 34=34/\p.t48.toNat<p.b1.aA.length then match tQ p.b1.aA[p.t48.toNat]! p.t46[p.t48.toNat]! with|V=>V|Q r2=>if 0<=p.t48/\p.t48<p.b1.aA.length then if 34=34/\p.t48.toNat<p.b1.aA.length then Q (Q (Bn.mk p.t46 p.t47 (i64.wrap (p.t48+1)) (au.mk [] p.b0.aC [] p.b0.aF) (au.mk p.b1.ai p.b1.aC (p.b1.aA.set p.t48.toNat r2) p.b1.aF)))else V else V else V else V else if(p.b1.aA++[p.t46[p.t48.toNat]!]).length<=1073741824 then Q (Q (Bn.mk p.t46 p.t47 (i64.wrap (p.t48+1)) (au.mk [] p.b0.aC [] p.b0.aF) (au.mk p.b1.ai p.b1.aC (p.b1.aA++[p.t46[p.t48.toNat]!]) p.b1.aF)))else V else V else Q (V)
def Iu:=bJ (I9)
structure Em where
 (t13 t14:Int)
 (b0 b1 b2:au)
def O6:Td 0 Em:= .c [] [3,4,5,13,14] (.r 0 5 (ec 3 (qp 0 0) (ec 4 (qp 1 0) (ec 5 (qp 2 0) (ec 13 aU (ec 14 aU en))))) (sb 0 128 (lg 128) (sb 1 128 (lc qn (bg (bg (bg (lc qn (bg (bg (bg ln)))))))) (sb 2 128 (lc (qo 3) (bg (bg (bg (lc (qo 4) (bg (bg (bg ln)))))))) (sr 3 34 (sr 4 34 sn))))) (λz=>⟨z.1.t.2.1,z.1.q.1,z.2.1,(au.mk [] (aH.mk z.t.1.2.1 z.t.1.t.1 z.t.1.t.2.1) [] (aH.mk z.t.1.q.2.1 z.t.1.q.t.1 z.t.1.q.t.2.1)),(au.mk z.q.1 (aH.mk z.t.2.1.2.1 z.t.2.1.t.1 z.t.2.1.t.2.1) z.q.2.1 (aH.mk z.t.2.1.q.2.1 z.t.2.1.q.t.1 z.t.2.1.q.t.2.1))⟩) (λx=>(((),(),(),x.t13,x.t14,()),(x.b0,((),x.b1.aC.ag,x.b1.aC.af,x.b1.aC.aj,(),x.b1.aF.ag,x.b1.aF.af,x.b1.aF.aj,()),((),x.b2.aC.ag,x.b2.aC.af,x.b2.aC.aj,(),x.b2.aF.ag,x.b2.aF.af,x.b2.aF.aj,()),x.b2.ai,x.b2.aA,()))))
def IS(p:Em):ah (ah Em):=
 bif O (p.t14<p.t13)then if 0<=p.t14/\p.t14<p.b2.ai.length then if 34=34/\p.t14.toNat<p.b2.ai.length then if 0<=p.t14/\p.t14<p.b0.ai.length then match tQ p.b2.ai[p.t14.toNat]! p.b0.ai[p.t14.toNat]! with|V=>V|Q r1=>if 0<=p.t14/\p.t14<p.b2.ai.length then if 34=34/\p.t14.toNat<p.b2.ai.length then Q (Q (Em.mk p.t13 (i64.wrap (p.t14+1)) p.b0 (au.mk [] p.b1.aC [] p.b1.aF) (au.mk (p.b2.ai.set p.t14.toNat r1) p.b2.aC p.b2.aA p.b2.aF)))else V else V else V else V else V else Q (V)
def G6:=bJ (IS)
abbrev aoR:=au
def d236:Td 0 aoR:= .c [] [4] (.r 0 3 (ec 4 (qp 0 0) en) (sb 0 128 (lc (qo 1) (bg (bg (bg (lc (qo 2) (bg (bg (bg ln)))))))) (sr 1 34 (sr 2 34 sn))) (λz=>(au.mk z.t.1 (aH.mk z.2.1.2.1 z.2.1.t.1 z.2.1.t.2.1) z.t.2.1 (aH.mk z.2.1.q.2.1 z.2.1.q.t.1 z.2.1.q.t.2.1))) (λx=>(((),()),(((),x.aC.ag,x.aC.af,x.aC.aj,(),x.aF.ag,x.aF.af,x.aF.aj,()),x.ai,x.aA,()))))
def Ja(a0:au)(a1:au):ah aoR:=
 match Fl a0 with|V=>V|Q r3=>match G6 (Em.mk r3.ai.length 0 a1 (au.mk [] (aH.mk 0 0 0) [] (aH.mk 0 0 0)) r3)with|V=>V|Q r4=>bif O (r4.t14<r4.t13)then if 0<=r4.t14/\r4.t14<r4.b2.ai.length then if 34=34/\r4.t14.toNat<r4.b2.ai.length then if 0<=r4.t14/\r4.t14<r4.b0.ai.length then match tQ r4.b2.ai[r4.t14.toNat]! r4.b0.ai[r4.t14.toNat]! with|V=>V|Q r5=>if 0<=r4.t14/\r4.t14<r4.b2.ai.length then if 34=34/\r4.t14.toNat<r4.b2.ai.length then V else V else V else V else V else V else match tQ r4.b2.aC r4.b0.aC with|V=>V|Q r6=>match tQ r4.b2.aF r4.b0.aF with|V=>V|Q r7=>match Iu (Bn.mk r4.b0.aA r4.b0.aA.length 0 (au.mk [] r4.b1.aC [] r4.b1.aF) (au.mk r4.b2.ai r6 r4.b2.aA r7))with|V=>V|Q r8=>bif O (r8.t48<r8.t47)then if 0<=r8.t48/\r8.t48<r8.t46.length then bif O (r8.t48<r8.b1.aA.length)then if 0<=r8.t48/\r8.t48<r8.b1.aA.length then if 34=34/\r8.t48.toNat<r8.b1.aA.length then match tQ r8.b1.aA[r8.t48.toNat]! r8.t46[r8.t48.toNat]! with|V=>V|Q r9=>if 0<=r8.t48/\r8.t48<r8.b1.aA.length then if 34=34/\r8.t48.toNat<r8.b1.aA.length then V else V else V else V else V else if(r8.b1.aA++[r8.t46[r8.t48.toNat]!]).length<=1073741824 then V else V else V else Q (r8.b1)
def aj4:=eL vi 236 I (lc (qg 128) (lc (qg 128) ln)) d236 (λg=>Ja g.1 g.2.1)
def P9:EO aj4:=λh=>kL (an:=(noTwo (noTwo (.two (noTwo (O6.lp G6 .no)) (noTwo (noTwo (.two (noTwo (O8.lp Iu .no)) .no))))))) (l:=[(bE f236 0,(O6.lp G6 .no)),(bE f236 1,(O8.lp Iu .no))]) func236 (tT (Hf aY)) (aB (aO O6) (aB (aO O8) aI)) h
def aj0:bw:=(akW (e80 eB))
def abh:bG vi aj0:=(Hh (Jy aY))
abbrev apW:=au
def d157:Td 0 apW:= .c [] [4] (.r 0 1 (ec 4 (qp 0 0) en) (sb 0 128 (lg 128) sn) (λz=>z.2.1) (λx=>(((),()),(x,()))))
def arh:=(lc (qg 128) (bg ln))
def aim:An:= .no
def apH:gv vi (aj0) 0 300 157 (aim):=cD (l:=[]) func157 (bR (by kernel_rfl)) (by kernel_rfl) aI
def MD(a0:au)(a1:Int):ah apW:=
 match uD (8) a0.aF (Rf a1)with|V=>V|Q r1=>Q (au.mk a0.ai a0.aC a0.aA r1.fst)
def auD(a0:au)(a1:Int):ct vi (aj0) 300 (aim) 157 (arh.c (a0,a1,())) [] 0 d157.rd=MD a0 a1:=by kernel_rfl
def anP:bw->bw:=eZ vi 157 arh d157 (λg=>MD g.1 g.2.1)
def Sl{F:bw}(h:bG vi F):bG vi (anP F):=oE (fm abh apH (λ_=>by kernel_rfl) (λ_=>by kernel_rfl) λg=>auD g.1 g.2.1) ⟨_,func157,by kernel_rfl,by kernel_rfl⟩ (λ_=>by kernel_rfl) h
abbrev ao7:=au
def d158:Td 0 ao7:= .c [] [8] (.r 0 3 (ec 8 (qp 0 0) en) (sb 0 128 (lc (qo 1) (bg (bg (bg (lc (qo 2) (bg (bg (bg ln)))))))) (sr 1 34 (sr 2 34 sn))) (λz=>(au.mk z.t.1 (aH.mk z.2.1.2.1 z.2.1.t.1 z.2.1.t.2.1) z.t.2.1 (aH.mk z.2.1.q.2.1 z.2.1.q.t.1 z.2.1.q.t.2.1))) (λx=>(((),()),(((),x.aC.ag,x.aC.af,x.aC.aj,(),x.aF.ag,x.aF.af,x.aF.aj,()),x.ai,x.aA,()))))
def MS(a0:Runner)(a1:au)(a2:Int)(a3:aH):ah ao7:=
 match Fl a1 with|V=>V|Q r1=>if 0<=a2/\a2<a0.fF.ai.length then match m81 a3 a0.fF.ai[a2.toNat]!.ag a0.fF.ai[a2.toNat]!.af with|V=>V|Q r2=>if 0<=a2/\a2<r1.ai.length then if 34=34/\a2.toNat<r1.ai.length then Q (au.mk (r1.ai.set a2.toNat r2.fst) r1.aC r1.aA r1.aF)else V else V else V
def apO:=eL vi 158 I (lc (qg 133) (lc (qg 128) (bg (lc (qg 34) ln)))) d158 (λg=>MS g.1 g.2.1 g.t.1 g.t.2.1)
def aaq:EO apO:=λh=>kL (an:= .no) func158 (tT (Ou aY)) aI h
structure A7 where
 (t10 t11:Int)
 b0:au
 b1:aH
 b2:au
def Ng:Td 0 A7:= .c [] [2,3,4,10,11] (.r 0 5 (ec 2 (qp 0 0) (ec 3 (qp 1 0) (ec 4 (qp 2 0) (ec 10 aU (ec 11 aU en))))) (sb 0 128 (lc (qo 3) (bg (bg (bg (lc (qo 4) (bg (bg (bg ln)))))))) (sb 1 34 (lg 34) (sb 2 128 (lc qn (bg (bg (bg (lc qn (bg (bg (bg ln)))))))) (sr 3 34 (sr 4 34 sn))))) (λz=>⟨z.1.t.2.1,z.1.q.1,(au.mk z.q.1 (aH.mk z.2.1.2.1 z.2.1.t.1 z.2.1.t.2.1) z.q.2.1 (aH.mk z.2.1.q.2.1 z.2.1.q.t.1 z.2.1.q.t.2.1)),z.t.1,(au.mk [] (aH.mk z.t.2.1.2.1 z.t.2.1.t.1 z.t.2.1.t.2.1) [] (aH.mk z.t.2.1.q.2.1 z.t.2.1.q.t.1 z.t.2.1.q.t.2.1))⟩) (λx=>(((),(),(),x.t10,x.t11,()),(((),x.b0.aC.ag,x.b0.aC.af,x.b0.aC.aj,(),x.b0.aF.ag,x.b0.aF.af,x.b0.aF.aj,()),x.b1,((),x.b2.aC.ag,x.b2.aC.af,x.b2.aC.aj,(),x.b2.aF.ag,x.b2.aF.af,x.b2.aF.aj,()),x.b0.ai,x.b0.aA,()))))
def IC(p:A7):ah (ah A7):=
 bif O (p.t11<p.t10)then match Uh p.b0.aC p.t11 with|V=>V|Q r1=>bif r1 then if 0<=p.t11/\p.t11<p.b0.aA.length then if 34=34/\p.t11.toNat<p.b0.aA.length then match tQ p.b0.aA[p.t11.toNat]! p.b1 with|V=>V|Q r2=>if 0<=p.t11/\p.t11<p.b0.aA.length then if 34=34/\p.t11.toNat<p.b0.aA.length then Q (Q (A7.mk p.t10 (i64.wrap (p.t11+1)) (au.mk p.b0.ai p.b0.aC (p.b0.aA.set p.t11.toNat r2) p.b0.aF) p.b1 (au.mk [] p.b2.aC [] p.b2.aF)))else V else V else V else V else Q (Q (A7.mk p.t10 (i64.wrap (p.t11+1)) p.b0 p.b1 (au.mk [] p.b2.aC [] p.b2.aF)))else Q (V)
def IU:=bJ (IC)
abbrev atJ:=au
def d159:Td 0 atJ:= .c [] [4] (.r 0 3 (ec 4 (qp 0 0) en) (sb 0 128 (lc (qo 1) (bg (bg (bg (lc (qo 2) (bg (bg (bg ln)))))))) (sr 1 34 (sr 2 34 sn))) (λz=>(au.mk z.t.1 (aH.mk z.2.1.2.1 z.2.1.t.1 z.2.1.t.2.1) z.t.2.1 (aH.mk z.2.1.q.2.1 z.2.1.q.t.1 z.2.1.q.t.2.1))) (λx=>(((),()),(((),x.aC.ag,x.aC.af,x.aC.aj,(),x.aF.ag,x.aF.af,x.aF.aj,()),x.ai,x.aA,()))))
def Ya(a0:au)(a1:aH):ah atJ:=
 match Fl a0 with|V=>V|Q r3=>match IU (A7.mk r3.aA.length 0 r3 a1 (au.mk [] (aH.mk 0 0 0) [] (aH.mk 0 0 0)))with|V=>V|Q r4=>bif O (r4.t11<r4.t10)then match Uh r4.b0.aC r4.t11 with|V=>V|Q r5=>bif r5 then if 0<=r4.t11/\r4.t11<r4.b0.aA.length then if 34=34/\r4.t11.toNat<r4.b0.aA.length then match tQ r4.b0.aA[r4.t11.toNat]! r4.b1 with|V=>V|Q r6=>if 0<=r4.t11/\r4.t11<r4.b0.aA.length then if 34=34/\r4.t11.toNat<r4.b0.aA.length then V else V else V else V else V else V else if(r4.b0.aA++[r4.b1]).length<=1073741824 then match uD 8 r4.b0.aC (Rf 1)with|V=>V|Q r7=>Q (au.mk r4.b0.ai r7.fst (r4.b0.aA++[r4.b1]) r4.b0.aF)else V
def aom:=eL vi 159 I (lc (qg 128) (lc (qg 34) ln)) d159 (λg=>Ya g.1 g.2.1)
def adr:EO aom:=λh=>kL (an:=(noTwo (noTwo (.two (noTwo (Ng.lp IU .no)) .no)))) (l:=[(bE f159 0,(Ng.lp IU .no))]) func159 (tT (Hh (Hf (G5 (Jy aY))))) (aB (aO Ng) aI) h
abbrev qW:=au
def d83:Td 0 qW:= .c [] [6] (.r 0 1 (ec 6 (qp 0 0) en) (sb 0 128 (lg 128) sn) (λz=>z.2.1) (λx=>(((),()),(x,()))))
def A83:=(lc (qg 133) (lc (ql 166) (lc (qg 128) ln)))
def x83(M:Runner->(aa ay)->au->ah qW):bw->bw:=eZ vi 83 A83 d83 (λg=>M g.1 g.2.1 g.2.2.1)
def H83(M:Runner->(aa ay)->au->ah qW):Prop:=HL vi 83 A83 d83 (λg=>M g.1 g.2.1 g.2.2.1)
def Nz{M:Runner->(aa ay)->au->ah qW}(hM:H83 M){F:bw}(h:bG vi F):bG vi (x83 M F):=oE hM ⟨_,func83,by kernel_rfl,by kernel_rfl⟩ (λ_=>by kernel_rfl) h
abbrev iH:=au
def d156:Td 0 iH:= .c [] [6] (.r 0 1 (ec 6 (qp 0 0) en) (sb 0 128 (lg 128) sn) (λz=>z.2.1) (λx=>(((),()),(x,()))))
def al3:=(lc (qg 133) (lc (qg 166) (lc (qg 128) ln)))
def atd(M:Runner->ay->au->ah iH):bw->bw:=eZ vi 156 al3 d156 (λg=>M g.1 g.2.1 g.2.2.1)
def ZB(M:Runner->ay->au->ah iH):Prop:=HL vi 156 al3 d156 (λg=>M g.1 g.2.1 g.2.2.1)
def abA{M:Runner->ay->au->ah iH}(hM:ZB M){F:bw}(h:bG vi F):bG vi (atd M F):=oE hM ⟨_,func156,by kernel_rfl,by kernel_rfl⟩ (λ_=>by kernel_rfl) h
abbrev iE:=au
def d160:Td 0 iE:= .c [] [6] (.t (cU.fc 0 0 []) (.t (cU.fc 0 4 []) (.c [] [6] (.r 0 1 (ec 6 (qp 0 0) en) (sb 0 128 (lg 128) sn) (λz=>z.2.1) (λx=>(((),()),(x,())))))))
def anB:=(lc (qg 133) (lc (qg 166) (lc (qg 128) ln)))
def atj(M:Runner->ay->au->ah iE):bw->bw:=eZ vi 160 anB d160 (λg=>M g.1 g.2.1 g.2.2.1)
def VT(M:Runner->ay->au->ah iE):Prop:=HL vi 160 anB d160 (λg=>M g.1 g.2.1 g.2.2.1)
def aaL{M:Runner->ay->au->ah iE}(hM:VT M){F:bw}(h:bG vi F):bG vi (atj M F):=oE hM ⟨_,func160,by kernel_rfl,by kernel_rfl⟩ (λ_=>by kernel_rfl) h
def F83(M83:Runner->(aa ay)->au->ah qW)(M156:Runner->ay->au->ah iH)(M160:Runner->ay->au->ah iE):bw:=(ar8 (atj M160 (aom (apO (anP (atd M156 (e82 eB)))))))
def anx{M83 M156 M160}(h83:H83 M83)(h156:ZB M156)(h160:VT M160):bG vi (F83 M83 M156 M160):=(aev (aaL h160 (adr (aaq (Sl (abA h156 (Jx aY)))))))
structure qy where
 t9:List ay
 (t10 t11:Int)
 b0:Runner
 (b1 b2:au)
def YG:Td 0 qy:= .c [] [3,5,6,9,10,11] (.t (cU.fc 1 0 []) (.t (cU.fc 1 4 []) (.c [] [3,5,6,9,10,11] (.r 0 3 (ec 3 (qp 0 0) (ec 5 (qp 1 0) (ec 6 (qp 2 0) (ec 9 (ql 166) (ec 10 aU (ec 11 aU en)))))) (sb 0 133 (lg 133) (sb 1 128 (lg 128) (sb 2 128 (lc qn (bg (bg (bg (lc qn (bg (bg (bg ln)))))))) sn))) (λz=>⟨z.1.t.2.1,z.1.q.1,z.1.q.2.1,z.2.1,z.t.1,(au.mk [] (aH.mk z.t.2.1.2.1 z.t.2.1.t.1 z.t.2.1.t.2.1) [] (aH.mk z.t.2.1.q.2.1 z.t.2.1.q.t.1 z.t.2.1.q.t.2.1))⟩) (λx=>(((),(),(),x.t9,x.t10,x.t11,()),(x.b0,x.b1,((),x.b2.aC.ag,x.b2.aC.af,x.b2.aC.aj,(),x.b2.aF.ag,x.b2.aF.af,x.b2.aF.aj,()),())))))))
def Sr(M83:Runner->(aa ay)->au->ah qW)(M156:Runner->ay->au->ah iH)(M160:Runner->ay->au->ah iE)(p:qy):ah (ah qy):=
 bif O (p.t11<p.t10)then if 0<=p.t11/\p.t11<p.t9.length then bif O (p.t9[p.t11.toNat]!.bN=4)then match M156 p.b0 (ay.mk p.t9[p.t11.toNat]!.bN p.t9[p.t11.toNat]!.aN p.t9[p.t11.toNat]!.cV p.t9[p.t11.toNat]!.fN (ax.mk p.t9[p.t11.toNat]!.az.bf p.t9[p.t11.toNat]!.az.fN p.t9[p.t11.toNat]!.az.aq) p.t9[p.t11.toNat]!.aD p.t9[p.t11.toNat]!.aJ p.t9[p.t11.toNat]!.aK) p.b1 with|V=>V|Q r1=>Q (Q (qy.mk p.t9 p.t10 (i64.wrap (p.t11+1)) p.b0 r1 (au.mk [] p.b2.aC [] p.b2.aF)))else match MD p.b1 p.t9[p.t11.toNat]!.aN with|V=>V|Q r2=>bif O (p.t9[p.t11.toNat]!.bN=0)then match NJ r2 (ax.mk p.t9[p.t11.toNat]!.az.bf p.t9[p.t11.toNat]!.az.fN p.t9[p.t11.toNat]!.az.aq)with|V=>V|Q r3=>match MS p.b0 r2 p.t9[p.t11.toNat]!.cV r3 with|V=>V|Q r4=>Q (Q (qy.mk p.t9 p.t10 (i64.wrap (p.t11+1)) p.b0 r4 (au.mk [] p.b2.aC [] p.b2.aF)))else bif O (p.t9[p.t11.toNat]!.bN=5)then if 0<=p.t9[p.t11.toNat]!.fN/\p.t9[p.t11.toNat]!.fN<p.b0.ak.length then match MS p.b0 r2 p.t9[p.t11.toNat]!.cV p.b0.ak[p.t9[p.t11.toNat]!.fN.toNat]! with|V=>V|Q r5=>Q (Q (qy.mk p.t9 p.t10 (i64.wrap (p.t11+1)) p.b0 r5 (au.mk [] p.b2.aC [] p.b2.aF)))else V else bif O (p.t9[p.t11.toNat]!.bN=1)then match NJ r2 (ax.mk p.t9[p.t11.toNat]!.az.bf p.t9[p.t11.toNat]!.az.fN p.t9[p.t11.toNat]!.az.aq)with|V=>V|Q r6=>match Ya r2 r6 with|V=>V|Q r7=>Q (Q (qy.mk p.t9 p.t10 (i64.wrap (p.t11+1)) p.b0 r7 (au.mk [] p.b2.aC [] p.b2.aF)))else bif O (p.t9[p.t11.toNat]!.bN=3)then match M160 p.b0 (ay.mk p.t9[p.t11.toNat]!.bN p.t9[p.t11.toNat]!.aN p.t9[p.t11.toNat]!.cV p.t9[p.t11.toNat]!.fN (ax.mk p.t9[p.t11.toNat]!.az.bf p.t9[p.t11.toNat]!.az.fN p.t9[p.t11.toNat]!.az.aq) p.t9[p.t11.toNat]!.aD p.t9[p.t11.toNat]!.aJ p.t9[p.t11.toNat]!.aK) r2 with|V=>V|Q r8=>Q (Q (qy.mk p.t9 p.t10 (i64.wrap (p.t11+1)) p.b0 r8 (au.mk [] p.b2.aC [] p.b2.aF)))else bif O (p.t9[p.t11.toNat]!.bN=6)then match KX r2.aF p.t9[p.t11.toNat]!.aK with|V=>V|Q r9=>Q (Q (qy.mk p.t9 p.t10 (i64.wrap (p.t11+1)) p.b0 (au.mk r2.ai r2.aC r2.aA r9.fst) (au.mk [] p.b2.aC [] p.b2.aF)))else Q (Q (qy.mk p.t9 p.t10 (i64.wrap (p.t11+1)) p.b0 r2 (au.mk [] p.b2.aC [] p.b2.aF)))else V else Q (V)
def Qy(M83:Runner->(aa ay)->au->ah qW)(M156:Runner->ay->au->ah iH)(M160:Runner->ay->au->ah iE):=bJ (Sr M83 M156 M160)
def aq5(M83:Runner->(aa ay)->au->ah qW)(M156:Runner->ay->au->ah iH)(M160:Runner->ay->au->ah iE):An:=(noTwo (.two (noTwo (YG.lp (Qy M83 M156 M160) .no)) .no))
def av6(M83:Runner->(aa ay)->au->ah qW)(M156:Runner->ay->au->ah iH)(M160:Runner->ay->au->ah iE):gv vi (F83 M83 M156 M160) 0 300 83 (aq5 M83 M156 M160):=cD (l:=[(bE f83 0,(YG.lp (Qy M83 M156 M160) .no))]) func83 (bR (by kernel_rfl)) (by kernel_rfl) (aB (aO YG) aI)
def s83(M83:Runner->(aa ay)->au->ah qW)(M156:Runner->ay->au->ah iH)(M160:Runner->ay->au->ah iE)(a0:Runner)(a1:aa ay)(a2:au):ah qW:=
 match Qy M83 M156 M160 (qy.mk a1 a1.length 0 a0 a2 (au.mk [] (aH.mk 0 0 0) [] (aH.mk 0 0 0)))with|V=>V|Q r10=>bif O (r10.t11<r10.t10)then if 0<=r10.t11/\r10.t11<r10.t9.length then bif O (r10.t9[r10.t11.toNat]!.bN=4)then match M156 r10.b0 (ay.mk r10.t9[r10.t11.toNat]!.bN r10.t9[r10.t11.toNat]!.aN r10.t9[r10.t11.toNat]!.cV r10.t9[r10.t11.toNat]!.fN (ax.mk r10.t9[r10.t11.toNat]!.az.bf r10.t9[r10.t11.toNat]!.az.fN r10.t9[r10.t11.toNat]!.az.aq) r10.t9[r10.t11.toNat]!.aD r10.t9[r10.t11.toNat]!.aJ r10.t9[r10.t11.toNat]!.aK) r10.b1 with|V=>V|Q r11=>V else match MD r10.b1 r10.t9[r10.t11.toNat]!.aN with|V=>V|Q r12=>bif O (r10.t9[r10.t11.toNat]!.bN=0)then match NJ r12 (ax.mk r10.t9[r10.t11.toNat]!.az.bf r10.t9[r10.t11.toNat]!.az.fN r10.t9[r10.t11.toNat]!.az.aq)with|V=>V|Q r13=>match MS r10.b0 r12 r10.t9[r10.t11.toNat]!.cV r13 with|V=>V|Q r14=>V else bif O (r10.t9[r10.t11.toNat]!.bN=5)then if 0<=r10.t9[r10.t11.toNat]!.fN/\r10.t9[r10.t11.toNat]!.fN<r10.b0.ak.length then match MS r10.b0 r12 r10.t9[r10.t11.toNat]!.cV r10.b0.ak[r10.t9[r10.t11.toNat]!.fN.toNat]! with|V=>V|Q r15=>V else V else bif O (r10.t9[r10.t11.toNat]!.bN=1)then match NJ r12 (ax.mk r10.t9[r10.t11.toNat]!.az.bf r10.t9[r10.t11.toNat]!.az.fN r10.t9[r10.t11.toNat]!.az.aq)with|V=>V|Q r16=>match Ya r12 r16 with|V=>V|Q r17=>V else bif O (r10.t9[r10.t11.toNat]!.bN=3)then match M160 r10.b0 (ay.mk r10.t9[r10.t11.toNat]!.bN r10.t9[r10.t11.toNat]!.aN r10.t9[r10.t11.toNat]!.cV r10.t9[r10.t11.toNat]!.fN (ax.mk r10.t9[r10.t11.toNat]!.az.bf r10.t9[r10.t11.toNat]!.az.fN r10.t9[r10.t11.toNat]!.az.aq) r10.t9[r10.t11.toNat]!.aD r10.t9[r10.t11.toNat]!.aJ r10.t9[r10.t11.toNat]!.aK) r12 with|V=>V|Q r18=>V else bif O (r10.t9[r10.t11.toNat]!.bN=6)then match KX r12.aF r10.t9[r10.t11.toNat]!.aK with|V=>V|Q r19=>V else V else V else Q (r10.b1)
def c83(M83:Runner->(aa ay)->au->ah qW)(M156:Runner->ay->au->ah iH)(M160:Runner->ay->au->ah iE)(a0:Runner)(a1:aa ay)(a2:au):ct vi (F83 M83 M156 M160) 300 (aq5 M83 M156 M160) 83 (A83.c (a0,a1,a2,())) [] 0 d83.rd=s83 M83 M156 M160 a0 a1 a2:=by kernel_rfl
def am4(M83:Runner->(aa ay)->au->ah qW)(M156:Runner->ay->au->ah iH)(M160:Runner->ay->au->ah iE):bw:=(aj4 (ans (anP (ae9 (x83 M83 (e82 eB))))))
def aaY{M83 M156 M160}(h83:H83 M83)(h156:ZB M156)(h160:VT M160):bG vi (am4 M83 M156 M160):=(P9 (tT (Sl (HS (Nz h83 (Jx aY))))))
structure mh where
 t53:List au
 (t54 t55:Int)
 (b0 b1:au)
def PS:Td 0 mh:= .c [] [6,11,53,54,55] (.t (cU.fc 1 0 []) (.t (cU.fc 1 4 []) (.c [] [6,11,53,54,55] (.r 0 2 (ec 6 (qp 0 0) (ec 11 (qp 1 0) (ec 53 (ql 128) (ec 54 aU (ec 55 aU en))))) (sb 0 128 (lc qn (bg (bg (bg (lc qn (bg (bg (bg ln)))))))) (sb 1 128 (lg 128) sn)) (λz=>⟨z.1.t.1,z.1.t.2.1,z.1.q.1,(au.mk [] (aH.mk z.2.1.2.1 z.2.1.t.1 z.2.1.t.2.1) [] (aH.mk z.2.1.q.2.1 z.2.1.q.t.1 z.2.1.q.t.2.1)),z.t.1⟩) (λx=>(((),(),x.t53,x.t54,x.t55,()),(((),x.b0.aC.ag,x.b0.aC.af,x.b0.aC.aj,(),x.b0.aF.ag,x.b0.aF.af,x.b0.aF.aj,()),x.b1,())))))))
def Hv(M83:Runner->(aa ay)->au->ah qW)(M156:Runner->ay->au->ah iH)(M160:Runner->ay->au->ah iE)(p:mh):ah (ah mh):=
 bif O (p.t55<p.t54)then if 0<=p.t55/\p.t55<p.t53.length then match Ja p.b1 p.t53[p.t55.toNat]! with|V=>V|Q r7=>Q (Q (mh.mk p.t53 p.t54 (i64.wrap (p.t55+1)) (au.mk [] p.b0.aC [] p.b0.aF) r7))else V else Q (V)
def p8(M83:Runner->(aa ay)->au->ah qW)(M156:Runner->ay->au->ah iH)(M160:Runner->ay->au->ah iE):=bJ (Hv M83 M156 M160)
structure vT where
 t7:List au
 t8:Bool
 (t15 t16:Int)
 b0:Runner
 b1:ay
 (b2 b3:au)
def Oq:Td 0 vT:= .c [] [3,4,5,6,7,8,15,16] (.t (cU.s 7 [] 128) (.c [] [3,4,5,6,7,8,15,16] (.r 0 5 (ec 3 (qp 0 0) (ec 4 (qp 1 0) (ec 5 (qp 2 0) (ec 6 (qp 3 0) (ec 7 (qo 4) (ec 8 qb (ec 15 aU (ec 16 aU en)))))))) (sb 0 133 (lg 133) (sb 1 166 (lg 166) (sb 2 128 (lg 128) (sb 3 128 (lc qn (bg (bg (bg (lc qn (bg (bg (bg ln)))))))) (sr 4 128 sn))))) (λz=>⟨z.q.2.1,z.1.q.2.1,z.1.q.t.1,z.1.q.t.2.1,z.2.1,z.t.1,z.t.2.1,(au.mk [] (aH.mk z.q.1.2.1 z.q.1.t.1 z.q.1.t.2.1) [] (aH.mk z.q.1.q.2.1 z.q.1.q.t.1 z.q.1.q.t.2.1))⟩) (λx=>(((),(),(),(),(),x.t8,x.t15,x.t16,()),(x.b0,x.b1,x.b2,((),x.b3.aC.ag,x.b3.aC.af,x.b3.aC.aj,(),x.b3.aF.ag,x.b3.aF.af,x.b3.aF.aj,()),x.t7,()))))))
def vX(M83:Runner->(aa ay)->au->ah qW)(M156:Runner->ay->au->ah iH)(M160:Runner->ay->au->ah iE)(p:vT):ah (ah vT):=
 bif O (p.t16<p.t15)then match MD p.b2 p.b1.aN with|V=>V|Q r1=>match NJ r1 (ax.mk p.b1.az.bf p.b1.az.fN p.b1.az.aq)with|V=>V|Q r2=>match Nl r2 with|V=>V|Q r3=>bif r3.fst then match Fl r1 with|V=>V|Q r4=>if(p.t7++[r4]).length<=1073741824 then bif bif r3.snd then I else G then Q (V)else match M83 p.b0 p.b1.aD r1 with|V=>V|Q r5=>Q (Q (vT.mk (p.t7++[r4]) p.t8 p.t15 (i64.wrap (p.t16+1)) p.b0 (ay.mk p.b1.bN p.b1.aN p.b1.cV p.b1.fN (ax.mk p.b1.az.bf p.b1.az.fN p.b1.az.aq) p.b1.aD p.b1.aJ p.b1.aK) r5 (au.mk [] p.b3.aC [] p.b3.aF)))else V else bif bif r3.snd then I else G then Q (V)else match M83 p.b0 p.b1.aD r1 with|V=>V|Q r6=>Q (Q (vT.mk p.t7 p.t8 p.t15 (i64.wrap (p.t16+1)) p.b0 (ay.mk p.b1.bN p.b1.aN p.b1.cV p.b1.fN (ax.mk p.b1.az.bf p.b1.az.fN p.b1.az.aq) p.b1.aD p.b1.aJ p.b1.aK) r6 (au.mk [] p.b3.aC [] p.b3.aF)))else Q (V)
def GX(M83:Runner->(aa ay)->au->ah qW)(M156:Runner->ay->au->ah iH)(M160:Runner->ay->au->ah iE):=bJ (vX M83 M156 M160)
def agY(M83:Runner->(aa ay)->au->ah qW)(M156:Runner->ay->au->ah iH)(M160:Runner->ay->au->ah iE):An:=(noTwo (noTwo (noTwo (.two (noTwo (Oq.lp (GX M83 M156 M160) .no)) (noTwo (noTwo (.two (noTwo (PS.lp (p8 M83 M156 M160) .no)) .no)))))))
def aok(M83:Runner->(aa ay)->au->ah qW)(M156:Runner->ay->au->ah iH)(M160:Runner->ay->au->ah iE):gv vi (am4 M83 M156 M160) 0 300 156 (agY M83 M156 M160):=cD (l:=[(bE f156 0,(Oq.lp (GX M83 M156 M160) .no)),(bE f156 1,(PS.lp (p8 M83 M156 M160) .no))]) func156 (bR (by kernel_rfl)) (by kernel_rfl) (aB (aO Oq) (aB (aO PS) aI))
def ael(M83:Runner->(aa ay)->au->ah qW)(M156:Runner->ay->au->ah iH)(M160:Runner->ay->au->ah iE)(a0:Runner)(a1:ay)(a2:au):ah iH:=
 match GX M83 M156 M160 (vT.mk [] G a1.fN 0 a0 (ay.mk a1.bN a1.aN a1.cV a1.fN (ax.mk a1.az.bf a1.az.fN a1.az.aq) a1.aD a1.aJ a1.aK) a2 (au.mk [] (aH.mk 0 0 0) [] (aH.mk 0 0 0)))with|V=>V|Q r8=>bif O (r8.t16<r8.t15)then match MD r8.b2 r8.b1.aN with|V=>V|Q r9=>match NJ r9 (ax.mk r8.b1.az.bf r8.b1.az.fN r8.b1.az.aq)with|V=>V|Q r10=>match Nl r10 with|V=>V|Q r11=>bif r11.fst then match Fl r9 with|V=>V|Q r12=>if(r8.t7++[r12]).length<=1073741824 then bif bif r11.snd then I else G then if(0:Int)<=(0:Int)/\(0:Int)<(↑(r8.t7++[r12]).length:Int)then if 128=128/\0<(r8.t7++[r12]).length then if(0:Int)<=(1:Int)/\(1:Int)<=(↑(r8.t7++[r12]).length:Int)then match p8 M83 M156 M160 (mh.mk (yf 1 (r8.t7++[r12])) (↑(yf 1 (r8.t7++[r12])).length:Int) 0 (au.mk [] r8.b3.aC [] r8.b3.aF) (r8.t7++[r12])[0]!)with|V=>V|Q r13=>bif O (r13.t55<r13.t54)then if 0<=r13.t55/\r13.t55<r13.t53.length then match Ja r13.b1 r13.t53[r13.t55.toNat]! with|V=>V|Q r14=>V else V else Q (r13.b1)else V else V else V else match M83 r8.b0 r8.b1.aD r9 with|V=>V|Q r15=>V else V else bif bif r11.snd then I else G then if(0:Int)<=(0:Int)/\(0:Int)<r8.t7.length then if 128=128/\0<r8.t7.length then if(0:Int)<=(1:Int)/\(1:Int)<=r8.t7.length then match p8 M83 M156 M160 (mh.mk (yf 1 r8.t7) (↑(yf 1 r8.t7).length:Int) 0 (au.mk [] r8.b3.aC [] r8.b3.aF) r8.t7[0]!)with|V=>V|Q r16=>bif O (r16.t55<r16.t54)then if 0<=r16.t55/\r16.t55<r16.t53.length then match Ja r16.b1 r16.t53[r16.t55.toNat]! with|V=>V|Q r17=>V else V else Q (r16.b1)else V else V else V else match M83 r8.b0 r8.b1.aD r9 with|V=>V|Q r18=>V else bif r8.t8 then if(r8.t7++[r8.b2]).length<=1073741824 then if(0:Int)<=(0:Int)/\(0:Int)<(↑(r8.t7++[r8.b2]).length:Int)then if 128=128/\0<(r8.t7++[r8.b2]).length then if(0:Int)<=(1:Int)/\(1:Int)<=(↑(r8.t7++[r8.b2]).length:Int)then match p8 M83 M156 M160 (mh.mk (yf 1 (r8.t7++[r8.b2])) (↑(yf 1 (r8.t7++[r8.b2])).length:Int) 0 (au.mk [] r8.b3.aC [] r8.b3.aF) (r8.t7++[r8.b2])[0]!)with|V=>V|Q r19=>bif O (r19.t55<r19.t54)then if 0<=r19.t55/\r19.t55<r19.t53.length then match Ja r19.b1 r19.t53[r19.t55.toNat]! with|V=>V|Q r20=>V else V else Q (r19.b1)else V else V else V else V else if(0:Int)<=(0:Int)/\(0:Int)<r8.t7.length then if 128=128/\0<r8.t7.length then if(0:Int)<=(1:Int)/\(1:Int)<=r8.t7.length then match p8 M83 M156 M160 (mh.mk (yf 1 r8.t7) (↑(yf 1 r8.t7).length:Int) 0 (au.mk [] r8.b3.aC [] r8.b3.aF) r8.t7[0]!)with|V=>V|Q r21=>bif O (r21.t55<r21.t54)then if 0<=r21.t55/\r21.t55<r21.t53.length then match Ja r21.b1 r21.t53[r21.t55.toNat]! with|V=>V|Q r22=>V else V else Q (r21.b1)else V else V else V
def auQ(M83:Runner->(aa ay)->au->ah qW)(M156:Runner->ay->au->ah iH)(M160:Runner->ay->au->ah iE)(a0:Runner)(a1:ay)(a2:au):ct vi (am4 M83 M156 M160) 300 (agY M83 M156 M160) 156 (al3.c (a0,a1,a2,())) [] 0 d156.rd=ael M83 M156 M160 a0 a1 a2:=by kernel_rfl
def alZ(M83:Runner->(aa ay)->au->ah qW)(M156:Runner->ay->au->ah iH)(M160:Runner->ay->au->ah iE):bw:=(aj4 (ans (ae9 (x83 M83 (e82 eB)))))
def aeh{M83 M156 M160}(h83:H83 M83)(h156:ZB M156)(h160:VT M160):bG vi (alZ M83 M156 M160):=(P9 (tT (HS (Nz h83 (Jx aY)))))
def aiM(M83:Runner->(aa ay)->au->ah qW)(M156:Runner->ay->au->ah iH)(M160:Runner->ay->au->ah iE):An:= .no
def ao1(M83:Runner->(aa ay)->au->ah qW)(M156:Runner->ay->au->ah iH)(M160:Runner->ay->au->ah iE):gv vi (alZ M83 M156 M160) 0 300 160 (aiM M83 M156 M160):=cD (l:=[]) func160 (bR (by kernel_rfl)) (by kernel_rfl) aI
def aaV(M83:Runner->(aa ay)->au->ah qW)(M156:Runner->ay->au->ah iH)(M160:Runner->ay->au->ah iE)(a0:Runner)(a1:ay)(a2:au):ah iE:=
 match NJ a2 (ax.mk a1.az.bf a1.az.fN a1.az.aq)with|V=>V|Q r1=>match Nl r1 with|V=>V|Q r2=>bif bif r2.fst then I else G then match M83 a0 a1.aD a2 with|V=>V|Q r3=>Q (r3)else bif bif r2.snd then I else G then match M83 a0 a1.aJ a2 with|V=>V|Q r4=>Q (r4)else match Fl a2 with|V=>V|Q r5=>match M83 a0 a1.aD r5 with|V=>V|Q r6=>match Fl a2 with|V=>V|Q r7=>match M83 a0 a1.aJ r7 with|V=>V|Q r8=>match Ja r6 r8 with|V=>V|Q r9=>Q (r9)
def awK(M83:Runner->(aa ay)->au->ah qW)(M156:Runner->ay->au->ah iH)(M160:Runner->ay->au->ah iE)(a0:Runner)(a1:ay)(a2:au):ct vi (alZ M83 M156 M160) 300 (aiM M83 M156 M160) 160 (anB.c (a0,a1,a2,())) [] 0 d160.rd=aaV M83 M156 M160 a0 a1 a2:=by kernel_rfl
def dM:Nat->(Runner->(aa ay)->au->ah qW)×(Runner->ay->au->ah iH)×(Runner->ay->au->ah iE)
 |0=>(λ_ _ _=>V,λ_ _ _=>V,λ_ _ _=>V)
 |n+1=>(s83 (dM n).1 (dM n).2.1 (dM n).2.2,ael (dM n).1 (dM n).2.1 (dM n).2.2,aaV (dM n).1 (dM n).2.1 (dM n).2.2)
def Uy(n:Nat):Runner->(aa ay)->au->ah qW:=(dM n).1
def DO(n:Nat):Runner->ay->au->ah iH:=(dM n).2.1
def Ef(n:Nat):Runner->ay->au->ah iE:=(dM n).2.2
def oy:∀n,H83 (Uy n)/\ZB (DO n)/\VT (Ef n)
 |0=>⟨λ_ _ h=>(by cases h),λ_ _ h=>(by cases h),λ_ _ h=>(by cases h)⟩
 |n+1=>by
  have ih:=oy n;obtain⟨i83,i156,i160⟩:=ih;refine⟨?_,?_,?_⟩
  ·exact(fm (anx i83 i156 i160) (av6 (Uy n) (DO n) (Ef n)) (λ_=>by kernel_rfl) (λ_=>by kernel_rfl) λg=>c83 (Uy n) (DO n) (Ef n) g.1 g.2.1 g.2.2.1)
  ·exact(fm (aaY i83 i156 i160) (aok (Uy n) (DO n) (Ef n)) (λ_=>by kernel_rfl) (λ_=>by kernel_rfl) λg=>auQ (Uy n) (DO n) (Ef n) g.1 g.2.1 g.2.2.1)
  ·exact(fm (aeh i83 i156 i160) (ao1 (Uy n) (DO n) (Ef n)) (λ_=>by kernel_rfl) (λ_=>by kernel_rfl) λg=>awK (Uy n) (DO n) (Ef n) g.1 g.2.1 g.2.2.1)
def r83:Runner->(aa ay)->au->ah qW:=λa0 a1 a2=>lim (λn=>Uy n a0 a1 a2)
def anF:H83 r83:=λg b h=>by
 obtain⟨n,hn⟩:=dG (show lim (λn=>Uy n g.1 g.2.1 g.2.2.1)=Q b from h);exact(oy n).1 g b hn
def e83(F:bw):bw:=x83 r83 F
def amx{F:bw}(h:bG vi F):bG vi (e83 F):=Nz anF h
abbrev axq:=aH
def Vl(a0:aH)(a1:Int):ah axq:=
 match nr (8) a0 (m36 a1)with|V=>V|Q r1=>Q (r1.fst)
structure Ba where
 (t48 t49:Int)
 (b0 b1 b2 b3:aM)
def akb(p:Ba):ah (ah Ba):=
 bif O (p.t49<p.t48)then bif O (p.b0.aA.length<=p.t49)then if 0<=p.t49/\p.t49<p.b1.aA.length then if(p.b3.aA++[p.b1.aA[p.t49.toNat]!]).length<=1073741824 then Q (Q (Ba.mk p.t48 (i64.wrap (p.t49+1)) p.b0 p.b1 (aM.mk [] p.b2.aC [] p.b2.aF) (aM.mk p.b3.ai p.b3.aC (p.b3.aA++[p.b1.aA[p.t49.toNat]!]) p.b3.aF)))else V else V else bif O (p.b1.aA.length<=p.t49)then if 0<=p.t49/\p.t49<p.b0.aA.length then if(p.b3.aA++[p.b0.aA[p.t49.toNat]!]).length<=1073741824 then Q (Q (Ba.mk p.t48 (i64.wrap (p.t49+1)) p.b0 p.b1 (aM.mk [] p.b2.aC [] p.b2.aF) (aM.mk p.b3.ai p.b3.aC (p.b3.aA++[p.b0.aA[p.t49.toNat]!]) p.b3.aF)))else V else V else if 0<=p.t49/\p.t49<p.b0.aA.length then if 0<=p.t49/\p.t49<p.b1.aA.length then match lJ p.b0.aA[p.t49.toNat]! p.b1.aA[p.t49.toNat]! with|V=>V|Q r2=>if(p.b3.aA++[r2]).length<=1073741824 then Q (Q (Ba.mk p.t48 (i64.wrap (p.t49+1)) p.b0 p.b1 (aM.mk [] p.b2.aC [] p.b2.aF) (aM.mk p.b3.ai p.b3.aC (p.b3.aA++[r2]) p.b3.aF)))else V else V else V else Q (V)
def ala:=bJ (akb)
structure Ju where
 (t21 t22:Int)
 (b0 b1 b2 b3:aM)
def ako(p:Ju):ah (ah Ju):=
 bif O (p.t22<p.t21)then if 0<=p.t22/\p.t22<p.b0.ai.length then if 0<=p.t22/\p.t22<p.b1.ai.length then match lJ p.b0.ai[p.t22.toNat]! p.b1.ai[p.t22.toNat]! with|V=>V|Q r1=>if(p.b3.ai++[r1]).length<=1073741824 then Q (Q (Ju.mk p.t21 (i64.wrap (p.t22+1)) p.b0 p.b1 (aM.mk [] p.b2.aC [] p.b2.aF) (aM.mk (p.b3.ai++[r1]) p.b3.aC [] p.b3.aF)))else V else V else V else Q (V)
def akN:=bJ (ako)
abbrev axb:=aM
def aal(a0:aM)(a1:aM):ah axb:=
 match lJ a0.aC a1.aC with|V=>V|Q r3=>match lJ a0.aF a1.aF with|V=>V|Q r4=>match akN (Ju.mk a0.ai.length 0 a0 a1 (aM.mk [] (aH.mk 0 0 0) [] (aH.mk 0 0 0)) (aM.mk [] r3 [] r4))with|V=>V|Q r5=>bif O (r5.t22<r5.t21)then if 0<=r5.t22/\r5.t22<r5.b0.ai.length then if 0<=r5.t22/\r5.t22<r5.b1.ai.length then match lJ r5.b0.ai[r5.t22.toNat]! r5.b1.ai[r5.t22.toNat]! with|V=>V|Q r6=>if(r5.b3.ai++[r6]).length<=1073741824 then V else V else V else V else match ala (Ba.mk (if(r5.b0.aA.length:Int)<(r5.b1.aA.length:Int)then(r5.b1.aA.length:Int)else(r5.b0.aA.length:Int)) 0 r5.b0 r5.b1 (aM.mk [] r5.b2.aC [] r5.b2.aF) (aM.mk r5.b3.ai r5.b3.aC [] r5.b3.aF))with|V=>V|Q r7=>bif O (r7.t49<r7.t48)then bif O (r7.b0.aA.length<=r7.t49)then if 0<=r7.t49/\r7.t49<r7.b1.aA.length then if(r7.b3.aA++[r7.b1.aA[r7.t49.toNat]!]).length<=1073741824 then V else V else V else bif O (r7.b1.aA.length<=r7.t49)then if 0<=r7.t49/\r7.t49<r7.b0.aA.length then if(r7.b3.aA++[r7.b0.aA[r7.t49.toNat]!]).length<=1073741824 then V else V else V else if 0<=r7.t49/\r7.t49<r7.b0.aA.length then if 0<=r7.t49/\r7.t49<r7.b1.aA.length then match lJ r7.b0.aA[r7.t49.toNat]! r7.b1.aA[r7.t49.toNat]! with|V=>V|Q r8=>if(r7.b3.aA++[r8]).length<=1073741824 then V else V else V else V else Q (r7.b3)
structure HF where
 t10:List aM
 (t11 t12:Int)
 (b0 b1:aM)
def aiX(p:HF):ah (ah HF):=
 bif O (p.t12<p.t11)then if 0<=p.t12/\p.t12<p.t10.length then match aal p.b1 p.t10[p.t12.toNat]! with|V=>V|Q r1=>Q (Q (HF.mk p.t10 p.t11 (i64.wrap (p.t12+1)) (aM.mk [] p.b0.aC [] p.b0.aF) r1))else V else Q (V)
def akt:=bJ (aiX)
abbrev avs:=aM
def Zw(a0:aa aM):ah avs:=
 if(0:Int)<=(0:Int)/\(0:Int)<a0.length then if(0:Int)<=(1:Int)/\(1:Int)<=a0.length then match akt (HF.mk (yf 1 a0) (↑(yf 1 a0).length:Int) 0 (aM.mk [] (aH.mk 0 0 0) [] (aH.mk 0 0 0)) a0[0]!)with|V=>V|Q r2=>bif O (r2.t12<r2.t11)then if 0<=r2.t12/\r2.t12<r2.t10.length then match aal r2.b1 r2.t10[r2.t12.toNat]! with|V=>V|Q r3=>V else V else Q (r2.b1)else V else V
abbrev awa:=aM
def aes(a0:aQ)(a1:aM)(a2:Int)(a3:aH):ah awa:=
 if([]++a1.ai).length<=1073741824 then if 0<=a2/\a2<a0.ai.length then if 0<=a2/\a2<a0.ai.length then match m86 a3 a0.ai[a2.toNat]!.ag a0.ai[a2.toNat]!.af with|V=>V|Q r1=>if 0<=a2/\a2<(↑([]++a1.ai).length:Int)then if 34=34/\a2.toNat<([]++a1.ai).length then Q (aM.mk (([]++a1.ai).set a2.toNat r1.fst) a1.aC a1.aA a1.aF)else V else V else V else V else V
structure Fb where
 t5:List aH
 (t12 t13:Int)
 b0:aM
 b1:aH
 b2:aM
def alr(p:Fb):ah (ah Fb):=
 bif O (p.t13<p.t12)then match m32 p.b0.aC p.t13 with|V=>V|Q r1=>bif r1 then if 0<=p.t13/\p.t13<p.t5.length then if 34=34/\p.t13.toNat<p.t5.length then match lJ p.t5[p.t13.toNat]! p.b1 with|V=>V|Q r2=>if 0<=p.t13/\p.t13<p.t5.length then if 34=34/\p.t13.toNat<p.t5.length then Q (Q (Fb.mk (p.t5.set p.t13.toNat r2) p.t12 (i64.wrap (p.t13+1)) p.b0 p.b1 (aM.mk [] p.b2.aC [] p.b2.aF)))else V else V else V else V else Q (Q (Fb.mk p.t5 p.t12 (i64.wrap (p.t13+1)) p.b0 p.b1 (aM.mk [] p.b2.aC [] p.b2.aF)))else Q (V)
def amZ:=bJ (alr)
abbrev auK:=aM
def apm(a0:aM)(a1:aH):ah auK:=
 if([]++a0.aA).length<=1073741824 then match amZ (Fb.mk ([]++a0.aA) (↑([]++a0.aA).length:Int) 0 a0 a1 (aM.mk [] (aH.mk 0 0 0) [] (aH.mk 0 0 0)))with|V=>V|Q r3=>bif O (r3.t13<r3.t12)then match m32 r3.b0.aC r3.t13 with|V=>V|Q r4=>bif r4 then if 0<=r3.t13/\r3.t13<r3.t5.length then if 34=34/\r3.t13.toNat<r3.t5.length then match lJ r3.t5[r3.t13.toNat]! r3.b1 with|V=>V|Q r5=>if 0<=r3.t13/\r3.t13<r3.t5.length then if 34=34/\r3.t13.toNat<r3.t5.length then V else V else V else V else V else V else if(r3.t5++[r3.b1]).length<=1073741824 then match Vl r3.b0.aC 1with|V=>V|Q r6=>Q (aM.mk r3.b0.ai r6 (r3.t5++[r3.b1]) r3.b0.aF)else V else V
abbrev ZL:=aM
abbrev Mq:=aM
structure oD where
 t1:List aH
 t13:List ay
 (t14 t15:Int)
 b0:aQ
 (b1 b2:aM)
def aoL(M88:aQ->(aa aH)->(aa ay)->aM->ah ZL)(M167:aQ->(aa aH)->ay->aM->ah Mq)(p:oD):ah (ah oD):=
 bif O (p.t15<p.t14)then if 0<=p.t15/\p.t15<p.t13.length then bif O (p.t13[p.t15.toNat]!.bN=4)then match M167 p.b0 p.t1 (ay.mk p.t13[p.t15.toNat]!.bN p.t13[p.t15.toNat]!.aN p.t13[p.t15.toNat]!.cV p.t13[p.t15.toNat]!.fN (ax.mk p.t13[p.t15.toNat]!.az.bf p.t13[p.t15.toNat]!.az.fN p.t13[p.t15.toNat]!.az.aq) p.t13[p.t15.toNat]!.aD p.t13[p.t15.toNat]!.aJ p.t13[p.t15.toNat]!.aK) p.b1 with|V=>V|Q r1=>Q (Q (oD.mk p.t1 p.t13 p.t14 (i64.wrap (p.t15+1)) p.b0 r1 (aM.mk [] p.b2.aC [] p.b2.aF)))else match Vl p.b1.aF p.t13[p.t15.toNat]!.aN with|V=>V|Q r2=>bif O (p.t13[p.t15.toNat]!.bN=0)then match ZQ (aM.mk p.b1.ai p.b1.aC p.b1.aA r2) (ax.mk p.t13[p.t15.toNat]!.az.bf p.t13[p.t15.toNat]!.az.fN p.t13[p.t15.toNat]!.az.aq)with|V=>V|Q r3=>match aes p.b0 (aM.mk p.b1.ai p.b1.aC p.b1.aA r2) p.t13[p.t15.toNat]!.cV r3 with|V=>V|Q r4=>Q (Q (oD.mk p.t1 p.t13 p.t14 (i64.wrap (p.t15+1)) p.b0 r4 (aM.mk [] p.b2.aC [] p.b2.aF)))else bif O (p.t13[p.t15.toNat]!.bN=5)then if 0<=p.t13[p.t15.toNat]!.fN/\p.t13[p.t15.toNat]!.fN<p.t1.length then match aes p.b0 (aM.mk p.b1.ai p.b1.aC p.b1.aA r2) p.t13[p.t15.toNat]!.cV p.t1[p.t13[p.t15.toNat]!.fN.toNat]! with|V=>V|Q r5=>Q (Q (oD.mk p.t1 p.t13 p.t14 (i64.wrap (p.t15+1)) p.b0 r5 (aM.mk [] p.b2.aC [] p.b2.aF)))else V else bif O (p.t13[p.t15.toNat]!.bN=1)then match ZQ (aM.mk p.b1.ai p.b1.aC p.b1.aA r2) (ax.mk p.t13[p.t15.toNat]!.az.bf p.t13[p.t15.toNat]!.az.fN p.t13[p.t15.toNat]!.az.aq)with|V=>V|Q r6=>match apm (aM.mk p.b1.ai p.b1.aC p.b1.aA r2) r6 with|V=>V|Q r7=>Q (Q (oD.mk p.t1 p.t13 p.t14 (i64.wrap (p.t15+1)) p.b0 r7 (aM.mk [] p.b2.aC [] p.b2.aF)))else bif O (p.t13[p.t15.toNat]!.bN=3)then match ZQ (aM.mk p.b1.ai p.b1.aC p.b1.aA r2) (ax.mk p.t13[p.t15.toNat]!.az.bf p.t13[p.t15.toNat]!.az.fN p.t13[p.t15.toNat]!.az.aq)with|V=>V|Q r8=>match FB r8 with|V=>V|Q r9=>bif bif r9.fst then I else G then match M88 p.b0 p.t1 p.t13[p.t15.toNat]!.aD (aM.mk p.b1.ai p.b1.aC p.b1.aA r2)with|V=>V|Q r10=>Q (Q (oD.mk p.t1 p.t13 p.t14 (i64.wrap (p.t15+1)) p.b0 r10 (aM.mk [] p.b2.aC [] p.b2.aF)))else bif bif r9.snd then I else G then match M88 p.b0 p.t1 p.t13[p.t15.toNat]!.aJ (aM.mk p.b1.ai p.b1.aC p.b1.aA r2)with|V=>V|Q r11=>Q (Q (oD.mk p.t1 p.t13 p.t14 (i64.wrap (p.t15+1)) p.b0 r11 (aM.mk [] p.b2.aC [] p.b2.aF)))else match M88 p.b0 p.t1 p.t13[p.t15.toNat]!.aD (aM.mk p.b1.ai p.b1.aC p.b1.aA r2)with|V=>V|Q r12=>match M88 p.b0 p.t1 p.t13[p.t15.toNat]!.aJ (aM.mk p.b1.ai p.b1.aC p.b1.aA r2)with|V=>V|Q r13=>match aal r12 r13 with|V=>V|Q r14=>Q (Q (oD.mk p.t1 p.t13 p.t14 (i64.wrap (p.t15+1)) p.b0 r14 (aM.mk [] p.b2.aC [] p.b2.aF)))else bif O (p.t13[p.t15.toNat]!.bN=6)then match Pv r2 p.t13[p.t15.toNat]!.aK with|V=>V|Q r15=>Q (Q (oD.mk p.t1 p.t13 p.t14 (i64.wrap (p.t15+1)) p.b0 (aM.mk p.b1.ai p.b1.aC p.b1.aA r15.fst) (aM.mk [] p.b2.aC [] p.b2.aF)))else Q (Q (oD.mk p.t1 p.t13 p.t14 (i64.wrap (p.t15+1)) p.b0 (aM.mk p.b1.ai p.b1.aC p.b1.aA r2) (aM.mk [] p.b2.aC [] p.b2.aF)))else V else Q (V)
def aot(M88:aQ->(aa aH)->(aa ay)->aM->ah ZL)(M167:aQ->(aa aH)->ay->aM->ah Mq):=bJ (aoL M88 M167)
def s88(M88:aQ->(aa aH)->(aa ay)->aM->ah ZL)(M167:aQ->(aa aH)->ay->aM->ah Mq)(a0:aQ)(a1:aa aH)(a2:aa ay)(a3:aM):ah ZL:=
 match aot M88 M167 (oD.mk a1 a2 a2.length 0 a0 a3 (aM.mk [] (aH.mk 0 0 0) [] (aH.mk 0 0 0)))with|V=>V|Q r16=>bif O (r16.t15<r16.t14)then if 0<=r16.t15/\r16.t15<r16.t13.length then bif O (r16.t13[r16.t15.toNat]!.bN=4)then match M167 r16.b0 r16.t1 (ay.mk r16.t13[r16.t15.toNat]!.bN r16.t13[r16.t15.toNat]!.aN r16.t13[r16.t15.toNat]!.cV r16.t13[r16.t15.toNat]!.fN (ax.mk r16.t13[r16.t15.toNat]!.az.bf r16.t13[r16.t15.toNat]!.az.fN r16.t13[r16.t15.toNat]!.az.aq) r16.t13[r16.t15.toNat]!.aD r16.t13[r16.t15.toNat]!.aJ r16.t13[r16.t15.toNat]!.aK) r16.b1 with|V=>V|Q r17=>V else match Vl r16.b1.aF r16.t13[r16.t15.toNat]!.aN with|V=>V|Q r18=>bif O (r16.t13[r16.t15.toNat]!.bN=0)then match ZQ (aM.mk r16.b1.ai r16.b1.aC r16.b1.aA r18) (ax.mk r16.t13[r16.t15.toNat]!.az.bf r16.t13[r16.t15.toNat]!.az.fN r16.t13[r16.t15.toNat]!.az.aq)with|V=>V|Q r19=>match aes r16.b0 (aM.mk r16.b1.ai r16.b1.aC r16.b1.aA r18) r16.t13[r16.t15.toNat]!.cV r19 with|V=>V|Q r20=>V else bif O (r16.t13[r16.t15.toNat]!.bN=5)then if 0<=r16.t13[r16.t15.toNat]!.fN/\r16.t13[r16.t15.toNat]!.fN<r16.t1.length then match aes r16.b0 (aM.mk r16.b1.ai r16.b1.aC r16.b1.aA r18) r16.t13[r16.t15.toNat]!.cV r16.t1[r16.t13[r16.t15.toNat]!.fN.toNat]! with|V=>V|Q r21=>V else V else bif O (r16.t13[r16.t15.toNat]!.bN=1)then match ZQ (aM.mk r16.b1.ai r16.b1.aC r16.b1.aA r18) (ax.mk r16.t13[r16.t15.toNat]!.az.bf r16.t13[r16.t15.toNat]!.az.fN r16.t13[r16.t15.toNat]!.az.aq)with|V=>V|Q r22=>match apm (aM.mk r16.b1.ai r16.b1.aC r16.b1.aA r18) r22 with|V=>V|Q r23=>V else bif O (r16.t13[r16.t15.toNat]!.bN=3)then match ZQ (aM.mk r16.b1.ai r16.b1.aC r16.b1.aA r18) (ax.mk r16.t13[r16.t15.toNat]!.az.bf r16.t13[r16.t15.toNat]!.az.fN r16.t13[r16.t15.toNat]!.az.aq)with|V=>V|Q r24=>match FB r24 with|V=>V|Q r25=>bif bif r25.fst then I else G then match M88 r16.b0 r16.t1 r16.t13[r16.t15.toNat]!.aD (aM.mk r16.b1.ai r16.b1.aC r16.b1.aA r18)with|V=>V|Q r26=>V else bif bif r25.snd then I else G then match M88 r16.b0 r16.t1 r16.t13[r16.t15.toNat]!.aJ (aM.mk r16.b1.ai r16.b1.aC r16.b1.aA r18)with|V=>V|Q r27=>V else match M88 r16.b0 r16.t1 r16.t13[r16.t15.toNat]!.aD (aM.mk r16.b1.ai r16.b1.aC r16.b1.aA r18)with|V=>V|Q r28=>match M88 r16.b0 r16.t1 r16.t13[r16.t15.toNat]!.aJ (aM.mk r16.b1.ai r16.b1.aC r16.b1.aA r18)with|V=>V|Q r29=>match aal r28 r29 with|V=>V|Q r30=>V else bif O (r16.t13[r16.t15.toNat]!.bN=6)then match Pv r18 r16.t13[r16.t15.toNat]!.aK with|V=>V|Q r31=>V else V else V else Q (r16.b1)
structure Et where
 t1:List aH
 t9:List aM
 (t13 t14:Int)
 b0:aQ
 b1:ay
 (b2 b3:aM)
def alL(M88:aQ->(aa aH)->(aa ay)->aM->ah ZL)(M167:aQ->(aa aH)->ay->aM->ah Mq)(p:Et):ah (ah Et):=
 bif O (p.t14<p.t13)then match Vl p.b2.aF p.b1.aN with|V=>V|Q r1=>match ZQ (aM.mk p.b2.ai p.b2.aC p.b2.aA r1) (ax.mk p.b1.az.bf p.b1.az.fN p.b1.az.aq)with|V=>V|Q r2=>match FB r2 with|V=>V|Q r3=>bif r3.fst then if(p.t9++[aM.mk p.b2.ai p.b2.aC p.b2.aA r1]).length<=1073741824 then bif bif r3.snd then I else G then match Zw (p.t9++[aM.mk p.b2.ai p.b2.aC p.b2.aA r1])with|V=>V|Q r4=>Q (V)else match M88 p.b0 p.t1 p.b1.aD (aM.mk p.b2.ai p.b2.aC p.b2.aA r1)with|V=>V|Q r5=>Q (Q (Et.mk p.t1 (p.t9++[aM.mk p.b2.ai p.b2.aC p.b2.aA r1]) p.t13 (i64.wrap (p.t14+1)) p.b0 (ay.mk p.b1.bN p.b1.aN p.b1.cV p.b1.fN (ax.mk p.b1.az.bf p.b1.az.fN p.b1.az.aq) p.b1.aD p.b1.aJ p.b1.aK) r5 (aM.mk [] p.b3.aC [] p.b3.aF)))else V else bif bif r3.snd then I else G then match Zw p.t9 with|V=>V|Q r6=>Q (V)else match M88 p.b0 p.t1 p.b1.aD (aM.mk p.b2.ai p.b2.aC p.b2.aA r1)with|V=>V|Q r7=>Q (Q (Et.mk p.t1 p.t9 p.t13 (i64.wrap (p.t14+1)) p.b0 (ay.mk p.b1.bN p.b1.aN p.b1.cV p.b1.fN (ax.mk p.b1.az.bf p.b1.az.fN p.b1.az.aq) p.b1.aD p.b1.aJ p.b1.aK) r7 (aM.mk [] p.b3.aC [] p.b3.aF)))else Q (V)
def akQ(M88:aQ->(aa aH)->(aa ay)->aM->ah ZL)(M167:aQ->(aa aH)->ay->aM->ah Mq):=bJ (alL M88 M167)
def au5(M88:aQ->(aa aH)->(aa ay)->aM->ah ZL)(M167:aQ->(aa aH)->ay->aM->ah Mq)(a0:aQ)(a1:aa aH)(a2:ay)(a3:aM):ah Mq:=
 match akQ M88 M167 (Et.mk a1 [] a2.fN (0) a0 (ay.mk a2.bN a2.aN a2.cV a2.fN (ax.mk a2.az.bf a2.az.fN a2.az.aq) a2.aD a2.aJ a2.aK) a3 (aM.mk [] (aH.mk (0) (0) (0)) [] (aH.mk (0) (0) (0))))with|V=>V|Q r8=>bif O (r8.t14<r8.t13)then match Vl r8.b2.aF r8.b1.aN with|V=>V|Q r9=>match ZQ (aM.mk r8.b2.ai r8.b2.aC r8.b2.aA r9) (ax.mk r8.b1.az.bf r8.b1.az.fN r8.b1.az.aq)with|V=>V|Q r10=>match FB r10 with|V=>V|Q r11=>bif r11.fst then if(r8.t9++[aM.mk r8.b2.ai r8.b2.aC r8.b2.aA r9]).length<=1073741824 then bif bif r11.snd then I else G then match Zw (r8.t9++[aM.mk r8.b2.ai r8.b2.aC r8.b2.aA r9])with|V=>V|Q r12=>Q (r12)else match M88 r8.b0 r8.t1 r8.b1.aD (aM.mk r8.b2.ai r8.b2.aC r8.b2.aA r9)with|V=>V|Q r13=>V else V else bif bif r11.snd then I else G then match Zw r8.t9 with|V=>V|Q r14=>Q (r14)else match M88 r8.b0 r8.t1 r8.b1.aD (aM.mk r8.b2.ai r8.b2.aC r8.b2.aA r9)with|V=>V|Q r15=>V else if(r8.t9++[r8.b2]).length<=1073741824 then match Zw (r8.t9++[r8.b2])with|V=>V|Q r16=>Q (r16)else V
def qN:Nat->(aQ->(aa aH)->(aa ay)->aM->ah ZL)×(aQ->(aa aH)->ay->aM->ah Mq)
 |0=>(λ_ _ _ _=>V,λ_ _ _ _=>V)
 |n+1=>(s88 (qN n).1 (qN n).2,au5 (qN n).1 (qN n).2)
def m88(n:Nat):aQ->(aa aH)->(aa ay)->aM->ah ZL:=(qN n).1
def r88:aQ->(aa aH)->(aa ay)->aM->ah ZL:=λa0 a1 a2 a3=>lim (λn=>m88 n a0 a1 a2 a3)
def VK{l:aa aH}(h:l.length<=1000000):m40 l=Q l:=by unfold m40;rw[gG]
def rG{s:au}(h1:s.ai.length<=1000000)(h2:s.aA.length<=1000000):Fl s=Q s:=by
 unfold Fl;rw[VK h1];dsimp only;rw[VK h2]
def Pb{n m:Nat}{s:au}(h:dW n m s){c:Int}(hc:bX c):MD s c=Q (ij s c):=by
 obtain⟨z,e,_,_⟩:=vp 8 h.time (jy hc);unfold MD ij;rw[rF,e]
def V8{r:Runner}{m:Nat}{s:au}(h:dW r.fF.ai.length m s)(hn:r.fF.ai.length<=1000000)(hm:m<=1000000){v:Int}{x:aH}(h1:0<=v)(h2:v<r.fF.ai.length)(hx:NN x):MS r s v x=Q (Hl r.fF s v x):=by
 have hl:=h.len;have hs:=h.sl;obtain⟨z,e,_,_⟩:=iu hx r.fF.ai[v.toNat]!.ag r.fF.ai[v.toNat]!.af;unfold MS Hl;rw[rG (by omega) (by omega)];dsimp only;rw[bt ⟨h1,h2⟩,e];dsimp only;rw[gG,bt ⟨rfl,by omega⟩]
def LK{vars:aa aS}{inp:Bool}{m:Nat}{st:au}(hst:dW vars.length m st){t:ax}(hc:eM vars inp t=0):NJ st t=Q (cA st.ai t):=by
 have e:aaD t st=Q (cA st.ai t,st):=eT (zk t+1) λn hn=>(AU hst n t (by omega) (nW hc).1 (nW hc).2).1;unfold NJ;rw[ax.eta,e]
def D7(s:au)(v:aH)(i:Nat):aa aH:=iT s.aA.length (λk=>if k<i/\cu s.aC k=G then cc s.aA[k]! v else s.aA[k]!)
def Kt(s:au)(v:aH)(i:Nat):(D7 s v i).length=s.aA.length:=dR ..
def ajc(s:au)(v:aH):D7 s v 0=s.aA:=OB rfl λi _=>by rw[bF (λh=>by omega)]
def W9(s:au)(v:aH):D7 s v s.aA.length=iT s.aA.length (λk=>if cu s.aC k=G then cc s.aA[k]! v else s.aA[k]!):=iz λi hi=>by
 by_cases c:cu s.aC (i:Nat)=G
 ·rw[bt ⟨hi,c⟩,bt c]
 ·rw[bF (λh=>c h.2),bF c]
def Xo{s:au}{v:aH}{i:Nat}(h:i<s.aA.length):(D7 s v i)[i]! =s.aA[i]! :=by
 rw[D7,fK h,bF (λh=>by omega)]
def Xm{s:au}{v:aH}{i:Nat}(c:cu s.aC (i:Nat)=G):(D7 s v i).set i (cc s.aA[i]! v)=D7 s v (i+1):=by
 rw[D7,HG];refine iz λj _=> ?_;by_cases e:j=i
 ·subst e;rw[bt rfl,bt ⟨by omega,c⟩]
 ·rw[bF e];by_cases c2:j<i/\cu s.aC (j:Nat)=G
  ·rw[bt c2,bt ⟨by omega,c2.2⟩]
  ·rw[bF c2,bF (λh=>c2 ⟨by omega,h.2⟩)]
def aeV{s:au}{v:aH}{i:Nat}(c:cu s.aC (i:Nat)=I):D7 s v i=D7 s v (i+1):=by
 refine iz λj _=> ?_;by_cases e:j=i
 ·subst e;rw[bF (λh=>by omega),bF (λh=>by rw[c]at h;cases h.2)]
 ·by_cases c2:j<i/\cu s.aC (j:Nat)=G
  ·rw[bt c2,bt ⟨by omega,c2.2⟩]
  ·rw[bF c2,bF (λh=>c2 ⟨by omega,h.2⟩)]
def akr{n m:Nat}{s:au}(h:dW n m s)(hn:n<=1000000)(hm:m<=1000000){x:aH}(hx:NN x):Ya s x=Q (AZ s x):=by
 have hs:=h.sl;have hl:=h.len;obtain⟨v,e1,_⟩:=dD (cL:=IC) s.aA.length (λi (_:Unit)=>⟨(s.aA.length:Int),(i:Int),⟨s.ai,s.aC,D7 s x i,s.aF⟩,x,⟨[],⟨0,0,0⟩,[],⟨0,0,0⟩⟩⟩) (λi _=>True) (λi b hi _=>by
  have hw:=gH hi (by omega);have i1:(i:Int)<(s.aA.length:Int):=by omega
  have i2:(0:Int)<=(i:Int):=by omega
  refine⟨(),?_,trivial⟩;unfold IC;dsimp only;by_cases hc:cu s.aC (i:Nat)=G
  ·simp only[zi,i1,i2,hi,cX,bC,dZ,bZ,lD (.inr h.count),hc,Kt,Xo hi,nV (.inr (h.slots i hi)) (.inr hx),hw,Xm hc]
  ·have hc:cu s.aC (i:Nat)=I:=by simpa using hc
   simp only[i1,cX,bC,bz,lD (.inr h.count),hc,hw,aeV hc]) (λb _=>by unfold IC;simp) (b:=()) trivial
 rw[ajc]at e1;have e1':IU ⟨(s.aA.length:Int),0,s,x,⟨[],⟨0,0,0⟩,[],⟨0,0,0⟩⟩⟩=_:=e1;obtain⟨z,eb,_,_⟩:=vp 8 h.count (jy (c:=1) ⟨by decide,by decide⟩);unfold Ya;rw[rG (by omega) (by omega)];dsimp only;rw[e1'];dsimp only;rw[fO,bz,bt (by rw[zq,Kt];simp;omega),rF,eb,W9];rfl
def Dl(a b:aa aH)(i:Nat):aa aH:=iT a.length (λk=>if k<i then cc a[k]! b[k]! else a[k]!)
def YH(a b:aa aH)(i:Nat):(Dl a b i).length=a.length:=dR ..
def anH(a b:aa aH):Dl a b 0=a:=OB rfl λi _=>by rw[iB]
def YS(a b:aa aH):Dl a b a.length=iT a.length (λk=>cc a[k]! b[k]!):=iz λi hi=>by rw[bt hi]
def Y3{a b:aa aH}{i:Nat}(h:i<a.length):(Dl a b i)[i]! =a[i]! :=by rw[Dl,fK h,iB]
def Vc(a b:aa aH)(i:Nat):(Dl a b i).set i (cc a[i]! b[i]!)=Dl a b (i+1):=by
 rw[Dl,HG];refine iz λj _=> ?_;by_cases e:j=i
 ·subst e;rw[bt rfl,gG]
 ·rw[bF e];by_cases c:j<i
  ·rw[bt c,gG]
  ·rw[bF c,iB]
def oM(a b:aa aH)(i:Nat):aa aH:=iT (max a.length i) (λk=>if k<i then Yq a b k else a[k]!)
def DG(a b:aa aH)(i:Nat):(oM a b i).length=max a.length i:=dR ..
def anO(a b:aa aH):oM a b 0=a:=OB (by omega) λi _=>by rw[iB]
def Wl(a b:aa aH):oM a b b.length=iT (max a.length b.length) (Yq a b):=iz λi hi=>by
 by_cases c:i<b.length
 ·rw[bt c]
 ·rw[bF c];unfold Yq;rw[iB,gG]
def Ze{a b:aa aH}{i:Nat}(h:i<a.length):(oM a b i)[i]! =a[i]! :=by rw[oM,fK (by omega),iB]
def Y9{a b:aa aH}{i:Nat}(h:i<a.length)(k:i<b.length):(oM a b i).set i (cc a[i]! b[i]!)=oM a b (i+1):=by
 rw[oM,HG,oM,show max a.length i=max a.length (i+1)by omega];refine iz λj _=> ?_;by_cases e:j=i
 ·subst e;rw[bt rfl,gG];unfold Yq;rw[iB,iB]
 ·rw[bF e];by_cases c:j<i
  ·rw[bt c,gG]
  ·rw[bF c,iB]
def Vi{a b:aa aH}{i:Nat}(h:a.length<=i):oM a b i++[b[i]!]=oM a b (i+1):=by
 rw[oM,oM,show max a.length i=i by omega,show max a.length (i+1)=i+1 by omega,KK]
 congr 1
 ·refine iz λj hj=> ?_;rw[bt hj,gG]
 ·rw[gG];unfold Yq;rw[bt h]
def VN{n m:Nat}{s t:au}(h:dW n m s)(k:dW n m t)(hn:n<=1000000)(hm:m<=1000000):Ja s t=Q (iC s t):=by
 have hs:=h.sl;have hl:=h.len;have ks:=k.sl;have kl:=k.len;obtain⟨v,e1,_⟩:=dD (cL:=IS) s.ai.length (λi (_:Unit)=>⟨(s.ai.length:Int),(i:Int),t,⟨[],⟨0,0,0⟩,[],⟨0,0,0⟩⟩,⟨Dl s.ai t.ai i,s.aC,s.aA,s.aF⟩⟩) (λi _=>True) (λi b hi _=>by
  have hw:=gH hi (by omega);have i1:(i:Int)<(s.ai.length:Int):=by omega
  have i2:(0:Int)<=(i:Int):=by omega
  have i3:(i:Int)<(t.ai.length:Int):=by omega
  refine⟨(),?_,trivial⟩;unfold IS;dsimp only;simp only[zi,i1,i2,i3,hi,cX,bC,dZ,bZ,YH,Y3 hi,nV (.inr (h.vars i (by omega))) (.inr (k.vars i (by omega))),hw,Vc]) (λb _=>by unfold IS;simp) (b:=()) trivial
 rw[anH]at e1;have e1':G6 ⟨(s.ai.length:Int),0,t,⟨[],⟨0,0,0⟩,[],⟨0,0,0⟩⟩,s⟩=_:=e1;obtain⟨v2,e2,_⟩:=dD (cL:=I9) t.aA.length (λi (_:Unit)=>⟨t.aA,(t.aA.length:Int),(i:Int),⟨[],⟨0,0,0⟩,[],⟨0,0,0⟩⟩,⟨Dl s.ai t.ai s.ai.length,cc s.aC t.aC,oM s.aA t.aA i,cc s.aF t.aF⟩⟩) (λi _=>True) (λi b hi _=>by
  have hw:=gH hi (by omega);have i1:(i:Int)<(t.aA.length:Int):=by omega
  have i2:(0:Int)<=(i:Int):=by omega
  refine⟨(),?_,trivial⟩;unfold I9;dsimp only;by_cases c:i<s.aA.length
  ·have i3:(i:Int)<((oM s.aA t.aA i).length:Int):=by rw[DG];omega
   have i4:i<(oM s.aA t.aA i).length:=by omega
   simp only[zi,i1,i2,i3,i4,cX,bC,dZ,bZ,Ze c,nV (.inr (h.slots i c)) (.inr (k.slots i hi)),hw,Y9 c hi]
  ·have i3:¬(i:Int)<((oM s.aA t.aA i).length:Int):=by rw[DG];omega
   have i4:(oM s.aA t.aA (i+1)).length<=1073741824:=by rw[DG];omega
   simp only[zi,i1,i2,i3,i4,cX,fW,bC,bz,dZ,bZ,hw,Vi (show s.aA.length<=i by omega)]) (λb _=>by unfold I9;simp) (b:=()) trivial
 rw[anO]at e2;have e2':Iu ⟨t.aA,(t.aA.length:Int),0,⟨[],⟨0,0,0⟩,[],⟨0,0,0⟩⟩,⟨Dl s.ai t.ai s.ai.length,cc s.aC t.aC,s.aA,cc s.aF t.aF⟩⟩=_:=e2;unfold Ja;rw[rG (by omega) (by omega)];dsimp only;rw[e1'];dsimp only;rw[fO,bz,nV (.inr h.count) (.inr k.count)];dsimp only;rw[nV (.inr h.time) (.inr k.time)];dsimp only;rw[e2'];dsimp only;rw[fO,bz,YS,Wl];rfl
def jv(body:au->au)(t:ax)(c:Int):Nat->au->aa au
 |0,s=>[s]
 |n+1,s=>(if cu (cA s.ai t) 0=G then[ij s c]else[])++(if cl (cA s.ai t)=G then jv body t c n (body (ij s c))else[])
def nY:aa au->au
 |[]=>⟨[],cy,[],cy⟩
 |x::l=>l.foldl iC x
def XM(v:aH)(a b:au->au)(s:au):au:=
 if cu v 0=I then a s else if cl v=I then b s else iC (a s) (b s)
def l8(f:aQ)(hv:aa aH)(a b:au->au)(x:ay)(s:au):au:=
 if x.bN=4 then nY (jv a x.az x.aN x.fN.toNat s)
 else if x.bN=0 then Hl f (ij s x.aN) x.cV (cA s.ai x.az)
 else if x.bN=1 then AZ (ij s x.aN) (cA s.ai x.az)
 else if x.bN=5 then Hl f (ij s x.aN) x.cV hv[x.fN.toNat]!
 else if x.bN=3 then XM (cA s.ai x.az) a b (ij s x.aN)
 else if x.bN=6 then⟨s.ai,s.aC,s.aA,nE (iq 8 s.aF (dN x.aN)) x.aK⟩
 else ij s x.aN
def jg(f:aQ)(hv:aa aH):aa ay->au->au
 |[],s=>s
 |x::l,s=>jg f hv l (l8 f hv (λs=>jg f hv x.aD s) (λs=>jg f hv x.aJ s) x s)
termination_by l=>zk l
decreasing_by
 all_goals first|exact(aX (zo ..)).1|exact(aX (zo ..)).2|exact dc _ _
def lW(f:aQ)(hv:aa aH)(s:au):jg f hv [] s=s:=by rw[jg]
def k8(f:aQ)(hv:aa aH)(x:ay)(l:aa ay)(s:au):jg f hv (x::l) s=jg f hv l (l8 f hv (jg f hv x.aD) (jg f hv x.aJ) x s):=by rw[jg]
def UX{n m:Nat}:∀{l:aa au},l≠[]->(∀q∈l,dW n m q)->dW n m (nY l)
 |[],h,_=>cR rfl h
 |x::l,_,h=>by
  have key:∀(l:aa au) (x:au),dW n m x->(∀q∈l,dW n m q)->dW n m (l.foldl iC x):=λl=>by
   induction l with
   |nil=>intro x hx _;exact hx
   |cons y l ih=>intro x hx hl;exact ih (iC x y) (pe hx (hl y (zo ..))) (λq hq=>hl q (zH _ hq))
  exact key l x (h x (zo ..)) (λq hq=>h q (zH _ hq))
def uX{vars:aa aS}{a:au->au}{t:ax}{c:Int}{o:Nat}(hc:bX c)(ht:eM vars I t=0)(ha:∀s m,dW vars.length m s->dW vars.length (m+o) (a s)):∀(N:Nat) (s:au) (m:Nat),dW vars.length m s->(∀q∈jv a t c N s,dW vars.length (m+N*o) q)/\jv a t c N s≠[]
 |0,s,m,h=>by
  rw[jv];refine⟨λq hq=> ?_,by simp⟩;rw[zD.1 hq];exact h.weak (by omega)
 |n+1,s,m,h=>by
  rw[jv];have hz:=zero_or (gF h t ht);have h1:=jZ h hc;obtain⟨i1,i2⟩:=uX hc ht ha n (a (ij s c)) (m+o) (ha _ _ h1);have e:m+o+n*o=m+(n+1)*o:=by rw[yd,xA];omega
  refine⟨λq hq=> ?_,λe=> ?_⟩
  ·rcases zV.1 hq with hq|hq
   ·split at hq
    ·rw[zD.1 hq];exact h1.weak (by omega)
    ·cases hq
   ·split at hq
    ·rw[<-e];exact i1 q hq
    ·cases hq
  ·obtain⟨e1,e2⟩:=List.append_eq_nil_iff.1 e;cases hn:cl (cA s.ai t)with
   |true=>rw[hn,bt rfl]at e2;exact i2 e2
   |false=>
    rw[hn]at hz;have hz:cu (cA s.ai t) 0=G:=by simpa using hz
    rw[hz,bt rfl]at e1;cases e1
def cv(l:aa ay):Nat:=(cC l).2.1.toNat
def BO{l:aa Int}(h1:1<=l.length/\l.length<=32)(h0:(0:Int)<=l[0]!)(hr:fC l=G)(h6:l[l.length-1]!<=67108864):∀b∈l,bX b:=λb hb=>by
 obtain⟨i,hi,e⟩:=xd.1 hb;have e:l[i]! =b:=by rw[getElem!_pos l i hi];exact e
 have a1:l[0]!<=l[i]! :=by
  by_cases h:i=0
  ·subst h;exact zm _
  ·exact yV (Cp hr (by omega) hi)
 have a2:l[i]!<=l[l.length-1]! :=by
  by_cases h:i=l.length-1
  ·subst h;exact zm _
  ·exact yV (Cp hr (by omega) (by omega))
 rw[<-e];unfold bX;omega
def m6{f:aQ}{last:Bool}{x:ay}(hx:CT f last x):bX x.aN:=by
 have:=hx.cost;unfold bX;omega
def akI{n m o p:Nat}{v:aH}{a b:au->au}{s:au}(h:dW n m s)(ha:∀s m,dW n m s->dW n (m+o) (a s))(hb:∀s m,dW n m s->dW n (m+p) (b s)):dW n (m+max o p) (XM v a b s):=by
 unfold XM;split
 ·exact(ha _ _ h).weak (by omega)
 split
 ·exact(hb _ _ h).weak (by omega)
 ·exact pe ((ha _ _ h).weak (by omega)) ((hb _ _ h).weak (by omega))
def uo{f:aQ}{hv:aa aH}(hh:hv.length=f.ak.length)(hvn:∀i,i<hv.length->NN hv[i]!){a b:au->au}{last:Bool}{x:ay}(hx:CT f last x)
  (p1:0<=(cC x.aD).2.1) (p2:0<=(cC x.aJ).2.1)
  (ha:∀s m,dW f.ai.length m s->dW f.ai.length (m+cv x.aD) (a s)) (hb:∀s m,dW f.ai.length m s->dW f.ai.length (m+cv x.aJ) (b s))
  {s:au} {m:Nat} (h:dW f.ai.length m s):dW f.ai.length (m+(uO x).1.toNat) (l8 f hv a b x s):=by
 have hc:=m6 hx;have h1:=jZ h hc;have hvl:=gF h x.az hx.term;unfold l8 uO;by_cases a4:x.bN=4
 ·simp only[a4,Int.reduceEq,bZ,dA];have hn:=hx.n4 a4;obtain⟨i1,i2⟩:=uX hc hx.term ha x.fN.toNat s m h;have e:(x.fN*(cC x.aD).2.1).toNat=x.fN.toNat*cv x.aD:=by rw[cv,wG hn.1 p1]
  rw[e];exact UX i2 i1
 by_cases a0:x.bN=0
 ·simp only[a0,Int.reduceEq,bZ,dA];exact B8 h1 hvl
 by_cases a1:x.bN=1
 ·simp only[a1,Int.reduceEq,bZ,dA];exact Se h1 hvl
 by_cases a5:x.bN=5
 ·simp only[a5,Int.reduceEq,bZ,dA];obtain⟨n1,n2⟩:=hx.n5 a5;exact B8 h1 (hvn _ (by omega))
 by_cases a3:x.bN=3
 ·simp only[a3,Int.reduceEq,bZ,dA];have:=akI (v:=cA s.ai x.az) h1 ha hb;unfold cv at this;refine this.weak ?_;omega
 by_cases a6:x.bN=6
 ·simp only[a6,Int.reduceEq,bZ,dA];obtain⟨_,q2,q3,q4,q5⟩:=hx.uM a6;have k:=(n9 (a:=iq 8 s.aF (dN x.aN)) h1.time q4 (by omega) (BO q2 q3 q4 q5)).2.2.1;exact⟨h.len,h.vars,h.count,h.sl,h.slots,k⟩
 ·simp only[a0,a1,a3,a4,a5,a6,dA];exact h1
def kZ{f:aQ}{top:Bool}{x:ay}{l:aa ay}(h:b9 f top (x::l)=0):cv (x::l)=(uO x).1.toNat+cv l:=by
 obtain⟨h1,h2,h3,h4⟩:=dH h;have ho:=jB h1;have p1:=(dx f _ _ _ (zC _) h2).1;have p2:=(dx f _ _ _ (zC _) h3).1;have p3:=(dx f _ _ _ (zC _) h4).1;have e1:0<=(uO x).1:=by
  unfold uO;by_cases a1:x.bN=1
  ·rw[bt a1];show (0:Int)<=1;decide
  by_cases a3:x.bN=3
  ·rw[bF a1,bt a3];dsimp only;omega
  by_cases a4:x.bN=4
  ·rw[bF a1,bF a3,bt a4];exact zB (ho.n4 a4).1 p1
  ·rw[bF a1,bF a3,bF a4];exact zm _
 unfold cv;rw[(ig x l).1];omega
def gE{f:aQ}{hv:aa aH}(hh:hv.length=f.ak.length)(hvn:∀i,i<hv.length->NN hv[i]!):∀(n:Nat) (l:aa ay) (top:Bool),zk l<n->b9 f top l=0->∀(s:au) (m:Nat),dW f.ai.length m s->dW f.ai.length (m+cv l) (jg f hv l s)
 |0,_,_,h,_,_,_,_=>by omega
 |n+1,[],_,_,_,s,m,h=>by rw[lW];exact h.weak (by omega)
 |n+1,x::l,top,hn,hc,s,m,h=>by
  obtain⟨h1,h2,h3,h4⟩:=dH hc;have ho:=jB h1;have hsz:=aX (zo (a:=x) (l:=l));have ht:=dc x l;have p1:=(dx f n x.aD I (by omega) h2).1;have p2:=(dx f n x.aJ I (by omega) h3).1;rw[k8,kZ hc];have i1:=uo hh hvn ho p1 p2 (gE hh hvn n x.aD I (by omega) h2) (gE hh hvn n x.aJ I (by omega) h3) h;exact(gE hh hvn n l top (by omega) h4 _ _ i1).weak (by omega)
def OE{α:Type}[Inhabited α](g:α->α->α)(l:aa α)(x:α){i:Nat}(h:i<l.length):(l.take (i+1)).foldl g x=g ((l.take i).foldl g x) l[i]! :=by
 rw[List.take_add_one,List.foldl_append,zw h,getElem!_pos l i h];rfl
def LU{n m:Nat}:∀(l:aa au) (x:au),dW n m x->(∀q∈l,dW n m q)->dW n m (l.foldl iC x)
 |[],x,hx,_=>hx
 |y::l,x,hx,hl=>LU l (iC x y) (pe hx (hl y (zo ..))) (λq hq=>hl q (zH _ hq))
def YE(M83:Runner->(aa ay)->au->ah qW)(M156:Runner->ay->au->ah iH)(M160:Runner->ay->au->ah iE){n m:Nat}(hn:n<=1000000)(hm:m<=1000000){l:aa au}{x:au}(hl:l.length<=1000000)(hx:dW n m x)(hq:∀q∈l,dW n m q)(c t:aH):
  p8 M83 M156 M160 ⟨l,(l.length:Int),0,⟨[],c,[],t⟩,x⟩=Q ⟨l,(l.length:Int),(l.length:Int),⟨[],c,[],t⟩,l.foldl iC x⟩:=by
 obtain⟨v,e1,_⟩:=dD (cL:=Hv M83 M156 M160) l.length (λi (_:Unit)=>⟨l,(l.length:Int),(i:Int),⟨[],c,[],t⟩,(l.take i).foldl iC x⟩) (λi _=>True) (λi b hi _=>by
  have hw:=gH hi hl;have i1:(i:Int)<(l.length:Int):=by omega
  have i2:(0:Int)<=(i:Int):=by omega
  have e:=VN (LU (l.take i) x hx (λq k=>hq q (wq k))) (hq _ (aV hi)) hn hm;refine⟨(),?_,trivial⟩;unfold Hv;dsimp only;simp only[zi,i1,i2,cX,bC,dZ,bZ,e,hw,OE iC l x hi]) (λb _=>by unfold Hv;simp) (b:=()) trivial
 rw[zR]at e1;exact e1
def RV(M83:Runner->(aa ay)->au->ah qW)(M156:Runner->ay->au->ah iH)(M160:Runner->ay->au->ah iE){n m:Nat}(hn:n<=1000000)(hm:m<=1000000){L:aa au}(h0:L≠[])(hl:L.length<=1000000)(hq:∀q∈L,dW n m q)(c t:aH):
  1<=L.length/\p8 M83 M156 M160 (mh.mk (yf 1 L) ((yf 1 L).length:Int) (0) (au.mk [] c [] t) L[0]!)=Q (mh.mk (yf 1 L) ((yf 1 L).length:Int) ((yf 1 L).length:Int) (au.mk [] c [] t) (nY L)):=by
 cases L with
 |nil=>exact cR rfl h0
 |cons x l=>
  have hx:=hq x (zo ..);have hq2:∀q∈l,dW n m q:=λq k=>hq q (zH _ k);exact⟨by simp,YE M83 M156 M160 hn hm (l:=l) (x:=x) (by simp at hl;omega) hx hq2 c t⟩
def Mb(a:au->au)(t:ax)(c:Int):∀(N:Nat) (s:au),(jv a t c N s).length<=N+1
 |0,s=>by rw[jv];simp
 |n+1,s=>by
  rw[jv,zq];have:=Mb a t c n (a (ij s c));split<;>split<;>simp<;>omega
def ai8(M83:Runner->(aa ay)->au->ah qW)(M156:Runner->ay->au->ah iH)(M160:Runner->ay->au->ah iE){r:Runner}(hn:r.fF.ai.length<=1000000){a:au->au}{o:Nat}{x:ay}(hN:0<=x.fN/\x.fN<=4096)(hc:bX x.aN)(ht:eM r.fF.ai I x.az=0)
  (ha:∀s m,dW r.fF.ai.length m s->dW r.fF.ai.length (m+o) (a s)) {s:au} {m:Nat} (h:dW r.fF.ai.length m s) (hm:m+x.fN.toNat*o<=1000000)
  (h1:∀s m,dW r.fF.ai.length m s->m+o<=1000000->M83 r x.aD s=Q (a s)):
  ael M83 M156 M160 r x s=Q (nY (jv a x.az x.aN x.fN.toNat s)):=by
 obtain⟨okAll,neAll⟩:=uX hc ht ha x.fN.toNat s m h;have lenAll:=Mb a x.az x.aN x.fN.toNat s;obtain⟨i,v,e1,⟨hi,hV1,hV2,hV3,hV4⟩,hcc⟩:=oB (cL:=vX M83 M156 M160) x.fN.toNat (λi (b:aa au×au×au)=>⟨b.1,G,x.fN,(i:Int),r,x,b.2.1,⟨[],b.2.2.aC,[],b.2.2.aF⟩⟩)
  (λi b=>i<=x.fN.toNat/\dW r.fF.ai.length (m+i*o) b.2.1/\b.1.length<=i/\b.1++jv a x.az x.aN (x.fN.toNat-i) b.2.1=jv a x.az x.aN x.fN.toNat s/\True) (λi b=>cl (cA b.2.1.ai x.az)=I) (λi b hi hb=>by
  obtain⟨L,b,z⟩:=b;obtain⟨_,hb,hL,hr,_⟩:=hb;dsimp only at hb hr hL;obtain⟨k,hk⟩:∃k,x.fN.toNat-i=k+1:=⟨x.fN.toNat-i-1,by omega⟩;have hk2:x.fN.toNat-(i+1)=k:=by omega
  rw[hk,jv]at hr;have hio:i*o+o<=x.fN.toNat*o:=by
   have:=yN o (show i+1<=x.fN.toNat by omega);rw[yd,xA]at this;exact this
  have hw:i64.wrap ((i:Int)+1)=((i+1:Nat):Int):=by rw[aG];omega
  have i1:(i:Int)<x.fN:=by omega
  have hA:=jZ hb hc;have ea:=Pb hb hc;have hsl:=hA.sl;have hln:=hA.len;have hnn:=gF hA x.az ht;have ev:NJ (ij b x.aN) x.az=Q (cA b.ai x.az):=LK hA ht;have et:=Cn (a:=cA b.ai x.az) (.inr hnn);have hz:(cl (cA b.ai x.az)||cu (cA b.ai x.az) 0)=G:=zero_or hnn;have e:=h1 _ _ hA (by omega);have ec:=rG (s:=ij b x.aN) (by omega) (by omega);have el:(L++[ij b x.aN]).length<=1073741824:=by rw[zq,yL];omega
  by_cases hno:cl (cA b.ai x.az)=G
  ·rw[bt hno]at hr;refine .inl ?_;have hnext:dW r.fF.ai.length (m+(i+1)*o) (a (ij b x.aN)):=by
    have:=ha _ _ hA;rw[yd,xA];exact this.weak (by omega)
   by_cases hh:cu (cA b.ai x.az) 0=G
   ·rw[bt hh]at hr;refine⟨(L++[ij b x.aN],a (ij b x.aN),z),?_,by omega,hnext,by rw[zq,yL];omega,by rw[hk2,xq];exact hr,trivial⟩;unfold vX;simp only[i1,cX,bC,ax.eta,ea,ev,et,ec,el,hh,hno,bz,bZ,e,ay.eta,hw]
   ·rw[bF hh,ym]at hr;have hh:cu (cA b.ai x.az) 0=I:=by simpa using hh
    refine⟨(L,a (ij b x.aN),z),?_,by omega,hnext,Nat.le_succ_of_le hL,by rw[hk2];exact hr,trivial⟩;unfold vX;simp only[i1,cX,bC,ax.eta,ea,ev,et,hh,hno,bz,e,ay.eta,hw]
  ·have hno:cl (cA b.ai x.az)=I:=by simpa using hno
   refine .inr ⟨?_,hno⟩;have hh:cu (cA b.ai x.az) 0=G:=by rw[hno]at hz;simpa using hz
   unfold vX;simp only[i1,cX,bC,ax.eta,ea,ev,et,ec,el,hh,hno,bz,bZ]) (λb _=>by
   unfold vX;dsimp only;rw[fO];rfl) (b:=([],s,⟨[],⟨0,0,0⟩,[],⟨0,0,0⟩⟩)) ⟨by omega,h.weak (by omega),by simp,rfl,trivial⟩
 obtain⟨L,b,z⟩:=v;dsimp only at hV1 hV2 hV3 hcc;have e1':GX M83 M156 M160 ⟨[],G,x.fN,0,r,x,s,⟨[],⟨0,0,0⟩,[],⟨0,0,0⟩⟩⟩=Q ⟨L,G,x.fN,(i:Int),r,x,b,⟨[],z.aC,[],z.aF⟩⟩:=e1;unfold ael;rw[ax.eta,ay.eta,e1'];rcases hcc with rfl|⟨hi2,hno⟩
 ·rw[xU,jv]at hV3;dsimp only;rw[fO,bz];simp only[bC];rw[bt (by rw[zq,yL];omega),hV3];obtain⟨j1,j2⟩:=RV M83 M156 M160 hn hm neAll (by omega) okAll z.aC z.aF;rw[gG,bt (by first|exact⟨rfl,j1⟩|exact⟨trivial,j1⟩),gG,j2];dsimp only;rw[fO,bz]
 ·obtain⟨k,hk⟩:∃k,x.fN.toNat-i=k+1:=⟨x.fN.toNat-i-1,by omega⟩;rw[hk,jv]at hV3;have hA:=jZ hV1 hc;have ea:=Pb hV1 hc;have hio:i*o<=x.fN.toNat*o:=yN o hi;have hsl:=hA.sl;have hln:=hA.len;have hnn:=gF hA x.az ht;have ev:NJ (ij b x.aN) x.az=Q (cA b.ai x.az):=LK hA ht;have et:=Cn (a:=cA b.ai x.az) (.inr hnn);have hz:(cl (cA b.ai x.az)||cu (cA b.ai x.az) 0)=G:=zero_or hnn;have ec:=rG (s:=ij b x.aN) (by omega) (by omega);have hh:cu (cA b.ai x.az) 0=G:=by rw[hno]at hz;simpa using hz
  rw[hh,hno,bt rfl,bF (by decide),yy]at hV3;dsimp only;rw[rZ,bC,ea];dsimp only;rw[ax.eta,ev];dsimp only;rw[et];dsimp only;rw[hh,hno,bC,ec];dsimp only;rw[bt (by rw[zq,yL];omega),hV3];obtain⟨j1,j2⟩:=RV M83 M156 M160 hn hm neAll (by omega) okAll z.aC z.aF;rw[gG,bt (by first|exact⟨rfl,j1⟩|exact⟨trivial,j1⟩),gG,j2];dsimp only;rw[fO,bz];rfl
def akv(M83:Runner->(aa ay)->au->ah qW)(M156:Runner->ay->au->ah iH)(M160:Runner->ay->au->ah iE){r:Runner}(hn:r.fF.ai.length<=1000000){a b:au->au}{o p:Nat}{x:ay}{s:au}{m:Nat}(h:dW r.fF.ai.length m s)(hc:eM r.fF.ai I x.az=0)(hm:m+max o p<=1000000)
  (ha:∀s m,dW r.fF.ai.length m s->dW r.fF.ai.length (m+o) (a s)) (hb:∀s m,dW r.fF.ai.length m s->dW r.fF.ai.length (m+p) (b s))
  (h1:M83 r x.aD s=Q (a s)) (h2:M83 r x.aJ s=Q (b s)):
  aaV M83 M156 M160 r x s=Q (XM (cA s.ai x.az) a b s):=by
 have hsl:=h.sl;have hln:=h.len;unfold aaV XM;rw[ax.eta,LK h hc];dsimp only;rw[Cn (.inr (gF h x.az hc))];have ec:=rG (s:=s) (by omega) (by omega);have ej:=VN ((ha _ _ h).weak (show m+o<=m+max o p by omega)) ((hb _ _ h).weak (show m+p<=m+max o p by omega)) hn hm;dsimp only;cases cu (cA s.ai x.az) 0 with
 |false=>simp only[bz,bC,h1,bZ]
 |true=>
  cases cl (cA s.ai x.az)with
  |false=>simp only[bz,bC,h2,bZ,dA,Bool.true_eq_false]
  |true=>simp only[bz,bC,h1,h2,ec,ej,dA,Bool.true_eq_false]
def aqr(M83:Runner->(aa ay)->au->ah qW)(M156:Runner->ay->au->ah iH)(M160:Runner->ay->au->ah iE){r:Runner}(hn:r.fF.ai.length<=1000000)(hh:r.ak.length=r.fF.ak.length)(hvn:∀i,i<r.ak.length->NN r.ak[i]!)
  {top:Bool} {l:aa ay} (hl:l.length<=1000000) (hc:b9 r.fF top l=0) {s:au} {m:Nat} (h:dW r.fF.ai.length m s) (hm:m+cv l<=1000000)
  (h1:∀x∈l,∀s m,x.bN=3->dW r.fF.ai.length m s->m+max (cv x.aD) (cv x.aJ)<=1000000->M160 r x s=Q (XM (cA s.ai x.az) (jg r.fF r.ak x.aD) (jg r.fF r.ak x.aJ) s))
  (h3:∀x∈l,∀s m,x.bN=4->dW r.fF.ai.length m s->m+x.fN.toNat*cv x.aD<=1000000->M156 r x s=Q (nY (jv (jg r.fF r.ak x.aD) x.az x.aN x.fN.toNat s))):
  s83 M83 M156 M160 r l s=Q (jg r.fF r.ak l s):=by
 obtain⟨v,e1,hV⟩:=dD (cL:=Sr M83 M156 M160) l.length (λi (b:au×au)=>⟨l,(l.length:Int),(i:Int),r,b.1,⟨[],b.2.aC,[],b.2.aF⟩⟩)
  (λi b=>(∃k,dW r.fF.ai.length k b.1/\k+cv (l.drop i)<=1000000)/\b9 r.fF top (l.drop i)=0/\jg r.fF r.ak (l.drop i) b.1=jg r.fF r.ak l s) (λi b hi hb=>by
  obtain⟨b,z⟩:=b;obtain⟨⟨k,hb,hk⟩,hst,hr⟩:=hb;dsimp only at hb hr;rw[drop_cons hi]at hk hst hr;rw[k8]at hr;have hmem:=aV hi;generalize hx:l[i]! =x at*;obtain⟨g1,g2,g3,g4⟩:=dH hst;have ho:=jB g1;have p1:=(dx r.fF _ _ _ (zC _) g2).1;have p2:=(dx r.fF _ _ _ (zC _) g3).1;have aT:=gE hh hvn _ x.aD I (zC _) g2;have aE:=gE hh hvn _ x.aJ I (zC _) g3;rw[kZ hst]at hk;have hnext:=uo hh hvn ho p1 p2 aT aE hb;refine⟨(l8 r.fF r.ak (jg r.fF r.ak x.aD) (jg r.fF r.ak x.aJ) x b,z),?_,⟨_,hnext,by omega⟩,g4,hr⟩;have hw:=gH hi hl;have i1:(i:Int)<(l.length:Int):=by omega
  have i2:(0:Int)<=(i:Int):=by omega
  have hcost:=m6 ho;unfold Sr;dsimp only;simp only[zi,i1,i2,hx,cX,bC,dZ,bZ,ay.eta,ax.eta,hw];unfold l8;by_cases d4:x.bN=4
  ·have hN:=ho.n4 d4;have eu:(uO x).1.toNat=x.fN.toNat*cv x.aD:=by
    unfold uO;simp only[d4,Int.reduceEq,bZ,dA];rw[cv,wG hN.1 p1]
   have e:=h3 x hmem b k d4 hb (by omega);simp only[d4,Int.reduceEq,cX,bC,bZ,e]
  have ea:=Pb hb hcost;have hA:=jZ hb hcost;have ev:NJ (ij b x.aN) x.az=Q (cA b.ai x.az):=LK hA ho.term;have hnn:NN (cA b.ai x.az):=gF hb x.az ho.term;simp only[d4,fW,bz,ea,dA];by_cases d0:x.bN=0
  ·obtain⟨v1,v2⟩:=ho.var (.inl d0);simp only[d0,Int.reduceEq,cX,fW,bC,bz,bZ,dA,ev,V8 hA hn (by omega) v1 v2 hnn]
  by_cases d1:x.bN=1
  ·have e:=akr hA hn (by omega) hnn;simp only[d1,Int.reduceEq,cX,fW,bC,bz,bZ,dA,ev,e]
  by_cases d5:x.bN=5
  ·obtain⟨v1,v2⟩:=ho.var (.inr d5);obtain⟨n1,n2⟩:=ho.n5 d5;have hlt:x.fN.toNat<r.ak.length:=by omega
   have e:=V8 hA hn (by omega) v1 v2 (hvn _ hlt);simp only[d5,Int.reduceEq,cX,fW,bC,bz,bZ,dA];rw[gG,e]
  by_cases d3:x.bN=3
  ·have eu:(uO x).1.toNat=max (cv x.aD) (cv x.aJ):=by
    unfold uO cv;simp only[d3,Int.reduceEq,bZ,dA];omega
   have e:=h1 x hmem (ij b x.aN) k d3 hA (by omega);simp only[d3,Int.reduceEq,cX,fW,bC,bz,bZ,dA,e];rfl
  by_cases d6:x.bN=6
  ·obtain⟨_,q2,q3,q4,q5⟩:=ho.uM d6;have e:=(n9 (a:=iq 8 b.aF (dN x.aN)) hA.time q4 (by omega) (BO q2 q3 q4 q5)).1;have e:KX (ij b x.aN).aF x.aK=_:=e;simp only[d6,Int.reduceEq,cX,fW,bC,bz,bZ,dA];rw[e];rfl
  ·simp only[d0,d1,d3,d5,d6,fW,bz,dA]) (λb _=>by unfold Sr;simp) (b:=(s,⟨[],⟨0,0,0⟩,[],⟨0,0,0⟩⟩)) ⟨⟨m,h,by rw[wm];exact hm⟩,by rw[wm];exact hc,by rw[wm]⟩
 obtain⟨b,z⟩:=v;have e1':Qy M83 M156 M160 ⟨l,(l.length:Int),0,r,s,⟨[],⟨0,0,0⟩,[],⟨0,0,0⟩⟩⟩=Q ⟨l,(l.length:Int),(l.length:Int),r,b,⟨[],z.aC,[],z.aF⟩⟩:=e1;have hr:=hV.2.2;dsimp only at hr;rw[List.drop_length,lW]at hr;unfold s83;rw[e1',<-hr];dsimp only;rw[fO,bz]
def Al{f:aQ}{x:ay}:∀{top:Bool} {l:aa ay},b9 f top l=0->x∈l->b9 f I x.aD=0/\b9 f I x.aJ=0
 |_,[],_,h=>by cases h
 |top,y::l,hc,h=>by
  obtain⟨h1,h2,h3,h4⟩:=dH hc;rcases zF.1 h with rfl|h
  ·exact⟨h2,h3⟩
  ·exact Al h4 h
def ahW{r:Runner}(hn:r.fF.ai.length<=1000000)(hh:r.ak.length=r.fF.ak.length)(hvn:∀i,i<r.ak.length->NN r.ak[i]!):∀n:Nat,
  (∀(top:Bool) (l:aa ay) (s:au) (m:Nat),2*zk l<n->fP l<=1000000->b9 r.fF top l=0->dW r.fF.ai.length m s->m+cv l<=1000000->Uy n r l s=Q (jg r.fF r.ak l s))/\
  (∀(x:ay) (s:au) (m:Nat),2*zk x.aD+1<n->fP x.aD<=1000000->(0<=x.fN/\x.fN<=4096)->bX x.aN->eM r.fF.ai I x.az=0->b9 r.fF I x.aD=0->dW r.fF.ai.length m s->m+x.fN.toNat*cv x.aD<=1000000->DO n r x s=Q (nY (jv (jg r.fF r.ak x.aD) x.az x.aN x.fN.toNat s)))/\
  (∀(x:ay) (s:au) (m:Nat),2*zk x.aD+1<n->2*zk x.aJ+1<n->fP x.aD<=1000000->fP x.aJ<=1000000->eM r.fF.ai I x.az=0->b9 r.fF I x.aD=0->b9 r.fF I x.aJ=0->dW r.fF.ai.length m s->m+max (cv x.aD) (cv x.aJ)<=1000000->Ef n r x s=Q (XM (cA s.ai x.az) (jg r.fF r.ak x.aD) (jg r.fF r.ak x.aJ) s))
 |0=>⟨λ_ _ _ _ h=>by omega,λ_ _ _ h=>by omega,λ_ _ _ h=>by omega⟩
 |n+1=>by
  obtain⟨i1,i2,i3⟩:=ahW hn hh hvn n;refine⟨λtop l s m h hN hc hs hm=> ?_,λx s m h hN hx hc ht hst hs hm=> ?_,λx s m h h' hN hN' ht hst hst' hs hm=> ?_⟩
  ·refine aqr (Uy n) (DO n) (Ef n) hn hh hvn (zJ (jW l) hN) hc hs hm (λx hx s m h3 hs hm=> ?_) (λx hx s m h4 hs hm=> ?_)
   ·have:=aX hx;have:=tO hx;obtain⟨_,k⟩:=tP hc hx;obtain⟨k1,k2⟩:=Al hc hx;exact i3 x s m (by omega) (by omega) (by omega) (by omega) k.term k1 k2 hs hm
   ·have:=(aX hx).1;obtain⟨_,k⟩:=tP hc hx;obtain⟨k1,k2⟩:=Al hc hx;exact i2 x s m (by omega) (zJ (tO hx).1 hN) (k.n4 h4) (m6 k) k.term k1 hs hm
  ·refine ai8 (Uy n) (DO n) (Ef n) hn hx hc ht (gE hh hvn _ x.aD I (zC _) hst) hs hm (λs m hs hm=>i1 I x.aD s m (by omega) hN hst hs hm)
  ·exact akv (Uy n) (DO n) (Ef n) hn hs ht hm (gE hh hvn _ x.aD I (zC _) hst) (gE hh hvn _ x.aJ I (zC _) hst') (i1 I x.aD s m (by omega) hN hst hs (by omega)) (i1 I x.aJ s m (by omega) hN' hst' hs (by omega))
def arO{r:Runner}(hn:r.fF.ai.length<=1000000)(hh:r.ak.length=r.fF.ak.length)(hvn:∀i,i<r.ak.length->NN r.ak[i]!){top:Bool}{l:aa ay}{s:au}{m:Nat}(hN:fP l<=1000000)(hc:b9 r.fF top l=0)(hs:dW r.fF.ai.length m s)(hm:m+cv l<=1000000):r83 r l s=Q (jg r.fF r.ak l s):=
 eT (2*zk l+1) λn h=>(ahW hn hh hvn n).1 top l s m (by omega) hN hc hs hm
def kd(k:Int)(v:aS):Bool:=O (v.bq=k)
def cg(vars:aa aS)(k:Int)(i:Nat):Nat:=((vars.take i).filter (kd k)).length
def fE{vars:aa aS}{i:Nat}(h:i<vars.length)(k:Int):cg vars k (i+1)=cg vars k i+if vars[i]!.bq=k then 1 else 0:=by
 unfold cg;rw[bO h,xJ,zq];by_cases hk:vars[i]!.bq=k
 ·rw[bt hk];simp only[yO,xM,kd,hk,cX,bZ,yL]
 ·rw[bF hk];simp only[yO,xM,kd,hk,fW,yS,dA,List.length_nil]
def kO(vars:aa aS)(k:Int)(i:Nat):cg vars k i<=i:=by
 unfold cg;exact zJ (yE _ _) (by rw[z6];omega)
def kY{vars:aa aS}{k:Int}{i j:Nat}(hij:i<=j)(hj:j<=vars.length):cg vars k i<=cg vars k j:=by
 induction j with
 |zero=>
  have:i=0:=by omega
  subst this;exact zI _
 |succ j ih=>
  by_cases h:i=j+1
  ·subst h;exact zI _
  ·rw[fE (by omega)];have:=ih (by omega) (by omega);omega
def fX(vars:aa aS)(k:Int):cg vars k vars.length=(vars.filter (kd k)).length:=by unfold cg;rw[zR]
def Sf(vars:aa aS)(k:Int):∀(n:Nat),n<=vars.length->∀j,j<cg vars k n->∃i,i<n/\vars[i]!.bq=k/\cg vars k i=j/\((vars.take n).filter (kd k))[j]! =vars[i]!
 |0,_,j,h=>by simp[cg]at h
 |n+1,hn,j,h=>by
  have hi:n<vars.length:=by omega
  rw[bO hi,xJ];have hc:=fE hi k;by_cases hj:j<cg vars k n
  ·obtain⟨i,h1,h2,h3,h4⟩:=Sf vars k n (by omega) j hj;refine⟨i,by omega,h2,h3,?_⟩;rw[<-h4];have hl:j<((vars.take n).filter (kd k)).length:=hj;rw[getElem!_pos _ j (by rw[zq];omega),getElem!_pos _ j hl,xG hl]
  ·have hk:vars[n]!.bq=k:=by
    by_cases hk:vars[n]!.bq=k
    ·exact hk
    ·rw[bF hk]at hc;omega
   rw[bt hk]at hc;refine⟨n,by omega,hk,by omega,?_⟩;have hl:((vars.take n).filter (kd k)).length=j:=by show cg vars k n=j;omega
   have e:[vars[n]!].filter (kd k)=[vars[n]!]:=by simp only[yO,xM,kd,hk,cX,bZ]
   rw[e,getElem!_pos _ j (by rw[zq,hl];simp),xm (by omega)];simp[hl]
def Jh(vars:aa aS)(hl:vars.length<=1000000)(k:Int):Zz vars k=Q (vars.filter (kd k)):=by
 obtain⟨v,e1,hV⟩:=dD (cL:=Ji) vars.length (λi (b:aa aS)=>⟨vars,k,b,(i:Int)⟩) (λi b=>b=(vars.take i).filter (kd k)) (λi b hi hb=>by
  have hw:=gH hi hl;have i1:(i:Int)<(vars.length:Int):=by omega
  have i2:(0:Int)<=(i:Int):=by omega
  refine⟨_,?_,rfl⟩;have hlen:b.length<=1000000:=by rw[hb];exact zJ (kO vars k i) (by omega)
  rw[bO hi,xJ,<-hb];unfold Ji;by_cases hk:vars[i]!.bq=k
  ·have h2:(b++[vars[i]!]).length<=1073741824:=by rw[zq,yL];omega
   simp only[zi,i1,i2,hk,h2,hw,cX,bC,dZ,bZ,kd,yO,xM]
  ·simp only[zi,i1,i2,hk,hw,cX,fW,bC,bz,dZ,bZ,kd,yO,xM,yy,yS,dA]) (λb _=>by unfold Ji;simp) (b:=[]) (by simp)
 rw[zR]at hV;have e1':IN ⟨vars,k,[],0⟩=Q ⟨vars,k,v,(vars.length:Int)⟩:=e1;unfold Zz;rw[e1'];simp[hV]
def EZ(vars:aa aS)(hv:bY vars)(hl:vars.length<=1000000){k:Int}(hk:k=1\/k=2\/k=3):∃p,m89 vars k=Q p:=by
 have hm:=Jh vars hl k;generalize hF:vars.filter (kd k)=L at hm;have hL:∀v∈L,-1048576<=v.ag/\v.ag<=v.af/\v.af<=1048576:=λv h=>by rw[<-hF]at h;exact hv v (zY.1 h).1
 have hll:L.length<=1000000:=by rw[<-hF];exact zJ (yE _ _) hl
 obtain⟨v,e1,_⟩:=dD (cL:=C6) L.length (λi (_:Unit)=>⟨L,(i:Int)⟩) (λ_ _=>True) (λi b hi _=>by
  have hw:=gH hi hll;obtain⟨q1,q2,q3⟩:=hL _ (aV hi);have i1:(i:Int)<(L.length:Int):=by omega
  have i2:(0:Int)<=(i:Int):=by omega
  refine⟨(),?_,trivial⟩;unfold C6;simp only[zi,i1,i2,hi,hw,cX,bC,dZ,bZ,show ¬L[i]!.af<L[i]!.ag by omega,show ¬L[i]!.ag< -1048576 by omega,show ¬1048576<L[i]!.af by omega,fW,bz]) (λb _=>by unfold C6;simp) (b:=()) trivial
 have e1':Mo ⟨L,0⟩=Q ⟨L,(L.length:Int)⟩:=e1;have hsz:∀i,i<L.length->∀n:Int,1<=n->n<=4096->i64.wrap (n*i64.wrap (i64.wrap (L[i]!.af-L[i]!.ag)+1))=n*(L[i]!.af-L[i]!.ag+1)/\1<=n*(L[i]!.af-L[i]!.ag+1):=λi hi n h1 h2=>by
  obtain⟨q1,q2,q3⟩:=hL _ (aV hi);have p1:n*(L[i]!.af-L[i]!.ag+1)<=4096*(L[i]!.af-L[i]!.ag+1):=zM h2 (by omega);have p2:1*(L[i]!.af-L[i]!.ag+1)<=n*(L[i]!.af-L[i]!.ag+1):=zM h1 (by omega);rw[aG (n:=L[i]!.af-L[i]!.ag),aG (n:=L[i]!.af-L[i]!.ag+1),aG];exact⟨rfl,by omega⟩
 obtain⟨i,n,e2,hI,hc⟩:=oB (cL:=Bt) L.length (λi (b:Int)=>⟨L,b,(i:Int)⟩) (λ_ b=>1<=b/\b<=4096) (λi b=>4096<b*(L[i]!.af-L[i]!.ag+1)) (λi b hi hb=>by
  have hw:=gH hi hll;obtain⟨s1,s2⟩:=hsz i hi b hb.1 hb.2;have i1:(i:Int)<(L.length:Int):=by omega
  have i2:(0:Int)<=(i:Int):=by omega
  by_cases h:4096<b*(L[i]!.af-L[i]!.ag+1)
  ·refine .inr ⟨?_,h⟩;unfold Bt;simp only[zi,i1,i2,hi,cX,bC,dZ,bZ,s1,h]
  ·refine .inl ⟨b*(L[i]!.af-L[i]!.ag+1),?_,s2,by omega⟩;unfold Bt;simp only[zi,i1,i2,hi,hw,cX,bC,dZ,bZ,s1,h,fW,bz]) (λb _=>by unfold Bt;simp) (b:=1) ⟨by omega,by omega⟩
 have e2':Kg ⟨L,1,0⟩=Q ⟨L,n,(i:Int)⟩:=e2;have hk1:(bif bif O (k=0)then I else G then
   bif bif O (k=1)then I else G then
    bif bif O (k=2)then I else G then Q (bif O (k=3)then I else G)else Q I
   else Q I
  else some false)=some false:=by rcases hk with h|h|h<;>simp[h]
 unfold m89;rw[hk1];simp only[bz,hm,e1'];rw[fO,bz,e2'];dsimp only;rcases hc with rfl|⟨hi,h⟩
 ·rw[fO];exact⟨_,rfl⟩
 ·obtain⟨s1,s2⟩:=hsz i hi n hI.1 hI.2;have i1:(i:Int)<(L.length:Int):=by omega
  have i2:(0:Int)<=(i:Int):=by omega
  simp only[zi,i1,i2,hi,cX,bC,dZ,bZ,s1,h];exact⟨_,rfl⟩
def Gt{f:aQ}(h:TG f 10 80=G):fP f.bI+jH (f.ak.map (·.az))<=80/\f.ak.length<=10/\f.ai.length<=10:=by
 unfold TG at h;rw[decide_eq_true_eq]at h;omega
def UC{f:aQ}(h:uZ f=0):b9 f G f.bI=0:=by
 unfold uZ at h;split at h
 ·cases h
 split at h
 ·exact cR h ‹_›
 split at h
 ·exact cR h ‹_›
 split at h
 ·exact cR h ‹_›
 rename_i h4;simpa using h4
def Wq(f:aQ)(a b c:Int):∃r,m24 f a b c=Q r/\(r=G->TG f 10 80=G/\uZ f=0):=by
 unfold m24;rw[ZC f 10 80 (by decide) (by decide) (by decide) (by decide)];cases hf:TG f 10 80 with
 |false=>exact⟨false,rfl,λh=>by cases h⟩
 |true=>
  obtain⟨h1,h2,h3⟩:=Gt hf;rw[Hx f (by omega) (by omega) (by omega)];by_cases hc:uZ f=0
  ·have hv:=pG hc;obtain⟨p1,e1⟩:=EZ f.ai hv (by omega) (k:=1) (.inl rfl);obtain⟨p2,e2⟩:=EZ f.ai hv (by omega) (k:=2) (.inr (.inl rfl));obtain⟨p3,e3⟩:=EZ f.ai hv (by omega) (k:=3) (.inr (.inr rfl));have hS:Av f.bI:=Aj f _ f.bI G (zC _) (UC hc);rw[e1,e2,e3,YQ f.bI (by omega) hS];simp only[hc,cX,bC,bz];cases O (p1.fst<=a)<;>cases O (p2.fst<=b)<;>cases O (p3.fst<=c)<;>exact⟨_,rfl,λ_=>⟨trivial,trivial⟩⟩
  ·simp only[hc,fW,bC,bz];exact⟨false,rfl,λh=>by cases h⟩
def iN(vars:aa aS)(inp:cY)(i:Nat):Int:=
 if vars[i]!.bq=1 then inp.fe[cg vars 1 i]! else if vars[i]!.bq=2 then inp.aR[cg vars 2 i]! else if vars[i]!.bq=3 then inp.fu[cg vars 3 i]! else vars[i]!.dB
def gq(vars:aa aS)(inp:cY):aa Int:=(zP vars.length).map (iN vars inp)
structure ud (vars:List aS) (inp:cY):Prop where
 s:inp.fe.length=cg vars 1 vars.length
 p:inp.aR.length=cg vars 2 vars.length
 r:inp.fu.length=cg vars 3 vars.length
 b:∀i,i<vars.length->vars[i]!.ag<=iN vars inp i/\iN vars inp i<=vars[i]!.af
def EK{l:aa Int}{i:Nat}(h:i<l.length):HM l (i:Int)=Q (l[i]!,G):=by
 unfold HM;rw[fO,bz,gG,zi]
def O5{α:Type}(f:Nat->α)(i:Nat):(zP (i+1)).map f=(zP i).map f++[f i]:=by rw[List.range_succ,yo];rfl
def ng{α:Type}[Inhabited α]{c:Nat->α->Int}:∀{l:aa α} {i:Nat},cG c l i=0->∀j,j<l.length->c (i+j) l[j]! =0
 |[],_,_,j,h=>by simp at h
 |x::l,i,h,j,hj=>by
  unfold cG at h;split at h
  case isFalse h1=>exact cR h h1
  rename_i h0;cases j with
  |zero=>simpa using h0
  |succ j=>
   have:=ng h j (by simpa using hj);rw[show i+(j+1)=i+1+j by omega];exact this
def am2{f:aQ}{i:Nat}{h:dz}(hc:lq f i h=0):(-1048576<=h.ag/\h.ag<=h.af/\h.af<=1048576)/\eM f.ai G h.az=0:=by
 unfold lq at hc;split at hc
 ·cases hc
 split at hc
 ·cases hc
 split at hc
 ·cases hc
 rename_i hb;have hb:gY h.ag h.af=G:=by simpa using hb
 unfold gY at hb;rw[decide_eq_true_eq]at hb;exact⟨⟨hb.2.1,hb.1,hb.2.2⟩,hc⟩
structure FT (f:aQ):Prop where
 vars:bY f.ai
 hat:∀i,i<f.ak.length->(-1048576<=f.ak[i]!.ag/\f.ak[i]!.ag<=f.ak[i]!.af/\f.ak[i]!.af<=1048576)/\eM f.ai G f.ak[i]!.az=0
 steps:b9 f G f.bI=0
 o:(cC f.bI).2.1<=8
 t:(cC f.bI).2.2<=67108864
def Ak{f:aQ}(h:uZ f=0):FT f:=by
 have hv:=pG h;unfold uZ at h;split at h
 ·cases h
 split at h
 ·exact cR h ‹_›
 split at h
 ·exact cR h ‹_›
 rename_i h3;split at h
 ·exact cR h ‹_›
 rename_i h4;split at h
 ·cases h
 rename_i h5;have h3:cG (lq f) f.ak 0=0:=by simpa using h3
 have h4:b9 f G f.bI=0:=by simpa using h4
 unfold RW at h5;simp only[decide_eq_true_eq]at h5;exact⟨hv,λi hi=>am2 (i:=0+i) (ng h3 i hi),h4,by omega,by omega⟩
def Uf(f:aQ)(vals:aa Int):aa Int:=f.ak.map λh=>gJ (dY vals h.az) h.ag h.af
def ann{f:aQ}(hf:FT f)(hl:f.ak.length<=1000000){vals:aa Int}(hV:Fz f.ai vals):m97 f vals=Q (Uf f vals):=by
 obtain⟨v,e1,hI⟩:=dD (cL:=R7) f.ak.length (λi (b:aa Int)=>⟨vals,b,(i:Int),f⟩) (λi b=>b=(f.ak.take i).map λh=>gJ (dY vals h.az) h.ag h.af) (λi b hi hb=>by
  have hw:=gH hi hl;have i1:(i:Int)<(f.ak.length:Int):=by omega
  have i2:(0:Int)<=(i:Int):=by omega
  obtain⟨ev,_,_⟩:=Cs hf.vars hV G f.ak[i]!.az (hf.hat i hi).2;have hlen:b.length<=1000000:=by rw[hb];simp;omega
  have hl2:∀x:Int,(b++[x]).length<=1073741824:=λx=>by simp;omega
  refine⟨b++[gJ (dY vals f.ak[i]!.az) f.ak[i]!.ag f.ak[i]!.af],?_,by rw[bO hi,yo,hb];rfl⟩;unfold R7;simp only[zi,i1,i2,cX,bC,dZ,bZ,ax.eta,ev,GV,hl2,hw]) (λb _=>by unfold R7;simp) (b:=[]) (by simp)
 rw[zR]at hI;have e1':QD ⟨vals,[],0,f⟩=Q ⟨vals,v,(f.ak.length:Int),f⟩:=e1;unfold m97;rw[e1'];dsimp only;rw[fO,bz,hI];rfl
def FQ{vars:aa aS}{inp:cY}(h:ud vars inp):Fz vars (gq vars inp):=by
 refine⟨by simp[gq],λi hi=> ?_⟩;have e:(gq vars inp)[i]! =iN vars inp i:=by
  unfold gq;rw[getElem!_pos _ i (by simpa using hi),ye,wQ]
 rw[e];exact h.b i hi
def lZ(f:aQ)(inp:cY):CS:=iY f (Uf f (gq f.ai inp)) f.bI ⟨gq f.ai inp,[],0⟩
def aul{f:aQ}(hf:FT f){inp:cY}(h:ud f.ai inp):Fu f G f.bI ⟨gq f.ai inp,[],0⟩:=by
 have:=hf.o;have:=hf.t;exact⟨hf.steps,FQ h,zm _,by show (0:Int)+_<=_;omega,by show (((0:Nat):Int))+_<=_;omega⟩
def F79:bw:=(LP (akJ (e91 eB)))
structure KJ where
 t2:List aH
 t100:List aS
 (t101 t102:Int)
def Y8:Td 0 KJ:= .c [] [2,100,101,102] (.r 0 1 (ec 2 (ql 34) (ec 100 (qo 0) (ec 101 aU (ec 102 aU en)))) (sr 0 131 sn) (λz=>⟨z.1.1,z.2.1,z.1.t.1,z.1.t.2.1⟩) (λx=>((x.t2,(),x.t101,x.t102,()),(x.t100,()))))
def LJ(p:KJ):ah (ah KJ):=
 bif O (p.t102<p.t101)then if 0<=p.t102/\p.t102<p.t100.length then if 131=131/\p.t102.toNat<p.t100.length then match if 0<=p.t102/\p.t102<p.t2.length then match sZ p.t2[p.t102.toNat]! with|V=>V|Q r2=>bif bif r2 then I else G then Q G else if 0<=p.t102/\p.t102<p.t2.length then match HT p.t2[p.t102.toNat]! with|V=>V|Q r3=>Q (O (r3=0))else V else V with|V=>V|Q r4=>bif r4 then Q (V)else if 0<=p.t102/\p.t102<p.t2.length then bif O (p.t2[p.t102.toNat]!.ag<p.t100[p.t102.toNat]!.ag)then Q (V)else if 0<=p.t102/\p.t102<p.t2.length then bif O (p.t100[p.t102.toNat]!.af<p.t2[p.t102.toNat]!.af)then Q (V)else Q (Q (KJ.mk p.t2 p.t100 p.t101 (i64.wrap (p.t102+1))))else V else V else V else V else Q (V)
def ah5:An:=(noTwo (noTwo (.two (noTwo (.two (.two (.rb [91,144] 120) .no) .no)) .no)))
def RH:=bJ (LJ)
structure Ka where
 t2:List aH
 (t9 t69:List aS)
 (t70 t71:Int)
 b0:cz
def Yi:Td 0 Ka:= .c [] [2,4,9,69,70,71] (.r 0 3 (ec 2 (ql 34) (ec 4 (qp 0 0) (ec 9 (qo 1) (ec 69 (qo 2) (ec 70 aU (ec 71 aU en)))))) (sb 0 29 (lg 29) (sr 1 131 (sr 2 131 sn))) (λz=>⟨z.1.1,z.t.1,z.t.2.1,z.1.q.1,z.1.q.2.1,z.2.1⟩) (λx=>((x.t2,(),(),(),x.t70,x.t71,()),(x.b0,x.t9,x.t69,()))))
def Mc(p:Ka):ah (ah Ka):=
 bif O (p.t71<p.t70)then if 0<=p.t71/\p.t71<p.t69.length then if 131=131/\p.t71.toNat<p.t69.length then if 0<=p.t71/\p.t71<p.b0.aR.length then bif O (((p.t2,(),(),(),p.t70,p.t71,()),p.b0,p.t9,p.t69,()).snd.fst.aR[((p.t2,(),(),(),p.t70,p.t71,()),p.b0,p.t9,p.t69,()).fst.snd.snd.snd.snd.snd.fst.toNat]! <((p.t2,(),(),(),p.t70,p.t71,()),p.b0,p.t9,p.t69,()).snd.snd.snd.fst[((p.t2,(),(),(),p.t70,p.t71,()),p.b0,p.t9,p.t69,()).fst.snd.snd.snd.snd.snd.fst.toNat]!.ag)then Q (V)else if 0<=p.t71/\p.t71<p.b0.aR.length then bif O (((p.t2,(),(),(),p.t70,p.t71,()),p.b0,p.t9,p.t69,()).snd.snd.snd.fst[((p.t2,(),(),(),p.t70,p.t71,()),p.b0,p.t9,p.t69,()).fst.snd.snd.snd.snd.snd.fst.toNat]!.af<((p.t2,(),(),(),p.t70,p.t71,()),p.b0,p.t9,p.t69,()).snd.fst.aR[((p.t2,(),(),(),p.t70,p.t71,()),p.b0,p.t9,p.t69,()).fst.snd.snd.snd.snd.snd.fst.toNat]!)then Q (V)else Q (Q (Ka.mk p.t2 p.t9 p.t69 p.t70 (i64.wrap (p.t71+1)) p.b0))else V else V else V else V else Q (V)
def SB:=bJ (Mc)
structure DX where
 t2:List aH
 (t8 t9:List aS)
 t13:Int
 t40:List Int
 (t41 t42:Int)
 t47:List aS
 (t48 t49:Int)
 b0:aQ
 b1:cz
def VD:Td 0 DX:= .c [] [2,3,4,8,9,13,40,41,42,47,48,49] (.r 0 5 (ec 2 (ql 34) (ec 3 (qp 0 0) (ec 4 (qp 1 0) (ec 8 (qo 2) (ec 9 (qo 3) (ec 13 aU (ec 40 (qo 4) (ec 41 aU (ec 42 aU (ec 47 (ql 131) (ec 48 aU (ec 49 aU en)))))))))))) (sb 0 26 (lg 26) (sb 1 29 (lg 29) (sr 2 131 (sr 3 131 (sr 4 129 sn))))) (λz=>⟨z.1.1,z.t.2.1,z.q.1,z.1.q.2.1,z.q.2.1,z.1.q.t.2.1,z.1.q.q.1,z.1.q.q.2.1,z.1.q.q.t.1,z.1.q.q.t.2.1,z.2.1,z.t.1⟩) (λx=>((x.t2,(),(),(),(),x.t13,(),x.t41,x.t42,x.t47,x.t48,x.t49,()),(x.b0,x.b1,x.t8,x.t9,x.t40,()))))
def QH(p:DX):ah (ah DX):=
 bif O (p.t49<p.t48)then if 0<=p.t49/\p.t49<p.t47.length then bif O (p.t47[p.t49.toNat]!.bq=p.t13)then if(p.t9++[p.t47[p.t49.toNat]!]).length<=1073741824 then Q (Q (DX.mk p.t2 p.t8 (p.t9++[p.t47[p.t49.toNat]!]) p.t13 p.t40 p.t41 p.t42 p.t47 p.t48 (i64.wrap (p.t49+1)) p.b0 p.b1))else V else Q (Q (DX.mk p.t2 p.t8 p.t9 p.t13 p.t40 p.t41 p.t42 p.t47 p.t48 (i64.wrap (p.t49+1)) p.b0 p.b1))else V else Q (V)
def FX:=bJ (QH)
structure J0 where
 t2:List aH
 (t8 t9:List aS)
 t40:List Int
 (t41 t42:Int)
 b0:aQ
 b1:cz
def Wo:Td 0 J0:= .c [] [2,3,4,8,9,40,41,42] (.t (cU.s 9 [] 131) (.c [] [2,3,4,8,9,40,41,42] (.r 0 5 (ec 2 (ql 34) (ec 3 (qp 0 0) (ec 4 (qp 1 0) (ec 8 (qo 2) (ec 9 (qo 3) (ec 40 (qo 4) (ec 41 aU (ec 42 aU en)))))))) (sb 0 26 (lg 26) (sb 1 29 (lg 29) (sr 2 131 (sr 3 131 (sr 4 129 sn))))) (λz=>⟨z.1.1,z.t.2.1,z.q.1,z.q.2.1,z.1.q.t.1,z.1.q.t.2.1,z.2.1,z.t.1⟩) (λx=>((x.t2,(),(),(),(),(),x.t41,x.t42,()),(x.b0,x.b1,x.t8,x.t9,x.t40,()))))))
def RR(p:J0):ah (ah J0):=
 bif O (p.t42<p.t41)then if 0<=p.t42/\p.t42<p.t40.length then if 129=129/\p.t42.toNat<p.t40.length then match FX (DX.mk p.t2 p.t8 p.t9 p.t40[p.t42.toNat]! p.t40 p.t41 p.t42 p.b0.ai p.b0.ai.length 0 p.b0 p.b1)with|V=>V|Q r1=>bif O (r1.t49<r1.t48)then if 0<=r1.t49/\r1.t49<r1.t47.length then bif O (r1.t47[r1.t49.toNat]!.bq=r1.t13)then if(r1.t9++[r1.t47[r1.t49.toNat]!]).length<=1073741824 then V else V else V else V else Q (Q (J0.mk r1.t2 r1.t8 r1.t9 r1.t40 r1.t41 (i64.wrap (r1.t42+1)) r1.b0 r1.b1))else V else V else Q (V)
def ag5:An:=(noTwo (noTwo (.two (noTwo (noTwo (VD.lp FX .no))) .no)))
def Ml:=bJ (RR)
structure Gk where
 t2:List aH
 (t8 t26:List aS)
 (t27 t28:Int)
 b0:aQ
 b1:cz
def YB:Td 0 Gk:= .c [] [2,3,4,8,9,26,27,28] (.t (cU.s 8 [] 131) (.c [] [2,3,4,8,9,26,27,28] (.r 0 3 (ec 2 (ql 34) (ec 3 (qp 0 0) (ec 4 (qp 1 0) (ec 8 (qo 2) (ec 9 qn (ec 26 (ql 131) (ec 27 aU (ec 28 aU en)))))))) (sb 0 26 (lg 26) (sb 1 29 (lg 29) (sr 2 131 sn))) (λz=>⟨z.1.1,z.t.2.1,z.1.q.2.1,z.1.q.t.1,z.1.q.t.2.1,z.2.1,z.t.1⟩) (λx=>((x.t2,(),(),(),(),x.t26,x.t27,x.t28,()),(x.b0,x.b1,x.t8,()))))))
def S6(p:Gk):ah (ah Gk):=
 bif O (p.t28<p.t27)then if 0<=p.t28/\p.t28<p.t26.length then bif O (p.t26[p.t28.toNat]!.bq=2)then if(p.t8++[p.t26[p.t28.toNat]!]).length<=1073741824 then Q (Q (Gk.mk p.t2 (p.t8++[p.t26[p.t28.toNat]!]) p.t26 p.t27 (i64.wrap (p.t28+1)) p.b0 p.b1))else V else Q (Q (Gk.mk p.t2 p.t8 p.t26 p.t27 (i64.wrap (p.t28+1)) p.b0 p.b1))else V else Q (V)
def QC:=bJ (S6)
abbrev E79:=Int
def d79:Td 0 E79:= .c [] [6] (.r 0 0 (ec 6 aU en) sn (λz=>z.1.1) (λx=>((x,()),(()))))
def awO:∀f∈([91,144]:aa Nat),bA (F79) f:=(aB (fZ (GB (Ei bK))) (aB (fZ (GB (Ei bK))) aI))
def m79(a0:aQ)(a1:cz)(a2:aa aH):ah E79:=
 match agG a0 with|V=>V|Q r5=>bif bif O (r5=0)then I else G then Q (r5)else match QC (Gk.mk a2 [] a0.ai a0.ai.length 0 a0 a1)with|V=>V|Q r6=>bif O (r6.t28<r6.t27)then if 0<=r6.t28/\r6.t28<r6.t26.length then bif O (r6.t26[r6.t28.toNat]!.bq=2)then if(r6.t8++[r6.t26[r6.t28.toNat]!]).length<=1073741824 then V else V else V else V else match Ml (J0.mk r6.t2 r6.t8 [] [1,3] (2:Int) 0 r6.b0 r6.b1)with|V=>V|Q r7=>bif O (r7.t42<r7.t41)then if 0<=r7.t42/\r7.t42<r7.t40.length then if 129=129/\r7.t42.toNat<r7.t40.length then match FX (DX.mk r7.t2 r7.t8 r7.t9 r7.t40[r7.t42.toNat]! r7.t40 r7.t41 r7.t42 r7.b0.ai r7.b0.ai.length 0 r7.b0 r7.b1)with|V=>V|Q r8=>bif O (r8.t49<r8.t48)then if 0<=r8.t49/\r8.t49<r8.t47.length then bif O (r8.t47[r8.t49.toNat]!.bq=r8.t13)then if(r8.t9++[r8.t47[r8.t49.toNat]!]).length<=1073741824 then V else V else V else V else V else V else V else bif bif O ((r7.b1.aR.length:Int)=(r7.t8.length:Int))then I else G then Q 1 else match SB (Ka.mk r7.t2 r7.t9 r7.t8 r7.t8.length 0 r7.b1)with|V=>V|Q r9=>bif O (r9.t71<r9.t70)then if 0<=r9.t71/\r9.t71<r9.t69.length then if 131=131/\r9.t71.toNat<r9.t69.length then if 0<=r9.t71/\r9.t71<r9.b0.aR.length then bif O (((r9.t2,(),(),(),r9.t70,r9.t71,()),r9.b0,r9.t9,r9.t69,()).snd.fst.aR[((r9.t2,(),(),(),r9.t70,r9.t71,()),r9.b0,r9.t9,r9.t69,()).fst.snd.snd.snd.snd.snd.fst.toNat]! <((r9.t2,(),(),(),r9.t70,r9.t71,()),r9.b0,r9.t9,r9.t69,()).snd.snd.snd.fst[((r9.t2,(),(),(),r9.t70,r9.t71,()),r9.b0,r9.t9,r9.t69,()).fst.snd.snd.snd.snd.snd.fst.toNat]!.ag)then Q 3 else if 0<=r9.t71/\r9.t71<r9.b0.aR.length then bif O (((r9.t2,(),(),(),r9.t70,r9.t71,()),r9.b0,r9.t9,r9.t69,()).snd.snd.snd.fst[((r9.t2,(),(),(),r9.t70,r9.t71,()),r9.b0,r9.t9,r9.t69,()).fst.snd.snd.snd.snd.snd.fst.toNat]!.af<((r9.t2,(),(),(),r9.t70,r9.t71,()),r9.b0,r9.t9,r9.t69,()).snd.fst.aR[((r9.t2,(),(),(),r9.t70,r9.t71,()),r9.b0,r9.t9,r9.t69,()).fst.snd.snd.snd.snd.snd.fst.toNat]!)then Q 3 else V else V else V else V else V else bif bif O ((r9.t2.length:Int)=(r9.t9.length:Int))then I else G then Q 2 else match RH (KJ.mk r9.t2 r9.t9 r9.t9.length 0)with|V=>V|Q r10=>bif O (r10.t102<r10.t101)then if 0<=r10.t102/\r10.t102<r10.t100.length then if 131=131/\r10.t102.toNat<r10.t100.length then match if 0<=r10.t102/\r10.t102<r10.t2.length then match sZ r10.t2[r10.t102.toNat]! with|V=>V|Q r11=>bif bif r11 then I else G then Q G else if 0<=r10.t102/\r10.t102<r10.t2.length then match HT r10.t2[r10.t102.toNat]! with|V=>V|Q r12=>Q (O (r12=0))else V else V with|V=>V|Q r13=>bif r13 then Q 1 else if 0<=r10.t102/\r10.t102<r10.t2.length then bif O (r10.t2[r10.t102.toNat]!.ag<r10.t100[r10.t102.toNat]!.ag)then Q 3 else if 0<=r10.t102/\r10.t102<r10.t2.length then bif O (r10.t100[r10.t102.toNat]!.af<r10.t2[r10.t102.toNat]!.af)then Q 3 else V else V else V else V else V else Q 0
def e79:=eL vi 79 I (lc (qg 26) (lc (qg 29) (lc (ql 34) ln))) d79 (λg=>m79 g.1 g.2.1 g.t.1)
def ali:EO e79:=λh=>kL (F:=F79) (an:=(noTwo (noTwo (noTwo (.two (noTwo (YB.lp QC .no)) (.two (noTwo (Wo.lp Ml ag5)) (noTwo (.two (noTwo (Yi.lp SB .no)) (noTwo (.two (noTwo (Y8.lp RH ah5)) .no)))))))))) (l:=[(bE f79 0,(YB.lp QC .no)),(bE f79 1,(Wo.lp Ml ag5)),(bE f79 2,(VD.lp FX .no)),(bE f79 3,(Yi.lp SB .no)),(bE f79 4,(Y8.lp RH ah5)),(.skip,(.rb [91,144] 120))]) func79 (kS (ab5 (NG aY))) (aB (aO YB) (aB (aO Wo) (aB (aO VD) (aB (aO Yi) (aB (aO Y8) (aB awO aI)))))) h
def F20:bw:=(e83 (e82 (e81 (e80 (e79 eB)))))
def alb:bG vi F20:=(amx (Jx (Ou (Jy (ali aY)))))
structure Kq where
 t108:List dz
 (t109 t110:Int)
 b0:aQ
 b1:cz
 b2:bh
 b3:au
 b4:Runner
def Wp:Td 0 Kq:= .c [] [3,4,6,9,17,108,109,110] (.t (cU.c 4 3 [] 34) (.c [] [3,4,6,9,17,108,109,110] (.r 0 7 (ec 3 (qp 0 0) (ec 4 (qp 1 0) (ec 6 (qp 2 0) (ec 9 (qp 3 0) (ec 17 (qp 4 0) (ec 108 (ql 139) (ec 109 aU (ec 110 aU en)))))))) (sb 0 26 (lg 26) (sb 1 29 (lg 29) (sb 2 36 (bg (bg (bg (lc qn (bg (bg (bg (lc qn ln)))))))) (sb 3 128 (lc (qo 5) (bg (bg (bg (lc qn (bg (bg (bg ln)))))))) (sb 4 133 (lc (ql 131) (lc (ql 139) (lc (ql 166) (lc (qo 6) ln)))) (sr 5 34 (sr 6 34 sn))))))) (λz=>⟨z.1.q.2.1,z.1.q.t.1,z.1.q.t.2.1,z.2.1,z.t.1,(bh.mk (aH.mk z.t.2.1.1 z.t.2.1.2.1 z.t.2.1.t.1) [] (aH.mk z.t.2.1.q.1 z.t.2.1.q.2.1 z.t.2.1.q.t.1) []),(au.mk z.q.t.1 (aH.mk z.q.1.2.1 z.q.1.t.1 z.q.1.t.2.1) [] (aH.mk z.q.1.q.2.1 z.q.1.q.t.1 z.q.1.q.t.2.1)),(Runner.mk (aQ.mk z.q.2.1.1 z.q.2.1.2.1 z.q.2.1.t.1) z.q.t.2.1)⟩) (λx=>(((),(),(),(),(),x.t108,x.t109,x.t110,()),(x.b0,x.b1,(x.b2.aC.ag,x.b2.aC.af,x.b2.aC.aj,(),x.b2.aF.ag,x.b2.aF.af,x.b2.aF.aj,(),()),((),x.b3.aC.ag,x.b3.aC.af,x.b3.aC.aj,(),x.b3.aF.ag,x.b3.aF.af,x.b3.aF.aj,()),(x.b4.fF.ai,x.b4.fF.ak,x.b4.fF.bI,(),()),x.b3.ai,x.b4.ak,()))))))
def To(p:Kq):ah (ah Kq):=
 bif O (p.t110<p.t109)then if 0<=p.t110/\p.t110<p.t108.length then match NJ (au.mk p.b3.ai p.b3.aC [] p.b3.aF) (ax.mk p.t108[p.t110.toNat]!.az.bf p.t108[p.t110.toNat]!.az.fN p.t108[p.t110.toNat]!.az.aq)with|V=>V|Q r1=>match m81 r1 p.t108[p.t110.toNat]!.ag p.t108[p.t110.toNat]!.af with|V=>V|Q r2=>if(p.b4.ak++[r2.fst]).length<=1073741824 then Q (Q (Kq.mk p.t108 p.t109 (i64.wrap (p.t110+1)) p.b0 p.b1 (bh.mk p.b2.aC [] p.b2.aF []) (au.mk p.b3.ai p.b3.aC [] p.b3.aF) (Runner.mk p.b4.fF (p.b4.ak++[r2.fst]))))else V else V else Q (V)
def KE:=bJ (To)
structure Bz where
 t2:List aH
 (t10 t11 t12:Int)
 t47:List aS
 (t48 t49:Int)
 b0:aQ
 b1:cz
 b2:bh
 b3:au
def XW:Td 0 Bz:= .c [] [2,3,4,6,9,10,11,12,47,48,49] (.t (cU.c 3 0 [] 34) (.c [] [2,3,4,6,9,10,11,12,47,48,49] (.r 0 5 (ec 2 (ql 34) (ec 3 (qp 0 0) (ec 4 (qp 1 0) (ec 6 (qp 2 0) (ec 9 (qp 3 0) (ec 10 aU (ec 11 aU (ec 12 aU (ec 47 (ql 131) (ec 48 aU (ec 49 aU en))))))))))) (sb 0 26 (lg 26) (sb 1 29 (lg 29) (sb 2 36 (bg (bg (bg (lc qn (bg (bg (bg (lc qn ln)))))))) (sb 3 128 (lc (qo 4) (bg (bg (bg (lc qn (bg (bg (bg ln)))))))) (sr 4 34 sn))))) (λz=>⟨z.1.1,z.1.q.2.1,z.1.q.t.1,z.1.q.t.2.1,z.1.q.q.1,z.1.q.q.2.1,z.1.q.q.t.1,z.2.1,z.t.1,(bh.mk (aH.mk z.t.2.1.1 z.t.2.1.2.1 z.t.2.1.t.1) [] (aH.mk z.t.2.1.q.1 z.t.2.1.q.2.1 z.t.2.1.q.t.1) []),(au.mk z.q.2.1 (aH.mk z.q.1.2.1 z.q.1.t.1 z.q.1.t.2.1) [] (aH.mk z.q.1.q.2.1 z.q.1.q.t.1 z.q.1.q.t.2.1))⟩) (λx=>((x.t2,(),(),(),(),x.t10,x.t11,x.t12,x.t47,x.t48,x.t49,()),(x.b0,x.b1,(x.b2.aC.ag,x.b2.aC.af,x.b2.aC.aj,(),x.b2.aF.ag,x.b2.aF.af,x.b2.aF.aj,(),()),((),x.b3.aC.ag,x.b3.aC.af,x.b3.aC.aj,(),x.b3.aF.ag,x.b3.aF.af,x.b3.aF.aj,()),x.b3.ai,()))))))
def Qm(p:Bz):ah (ah Bz):=
 bif O (p.t49<p.t48)then if 0<=p.t49/\p.t49<p.t47.length then bif O (p.t47[p.t49.toNat]!.bq=1)then if 0<=p.t10/\p.t10<p.t2.length then if(p.b3.ai++[p.t2[p.t10.toNat]!]).length<=1073741824 then Q (Q (Bz.mk p.t2 (i64.wrap (p.t10+1)) p.t11 p.t12 p.t47 p.t48 (i64.wrap (p.t49+1)) p.b0 p.b1 (bh.mk p.b2.aC [] p.b2.aF []) (au.mk (p.b3.ai++[p.t2[p.t10.toNat]!]) p.b3.aC [] p.b3.aF)))else V else V else bif O (p.t47[p.t49.toNat]!.bq=2)then if 0<=p.t11/\p.t11<p.b1.aR.length then if(p.b3.ai++[Rf p.b1.aR[p.t11.toNat]!]).length<=1073741824 then Q (Q (Bz.mk p.t2 p.t10 (i64.wrap (p.t11+1)) p.t12 p.t47 p.t48 (i64.wrap (p.t49+1)) p.b0 p.b1 (bh.mk p.b2.aC [] p.b2.aF []) (au.mk (p.b3.ai++[Rf p.b1.aR[p.t11.toNat]!]) p.b3.aC [] p.b3.aF)))else V else V else bif O (p.t47[p.t49.toNat]!.bq=3)then if 0<=p.t12/\p.t12<p.t2.length then if(p.b3.ai++[p.t2[p.t12.toNat]!]).length<=1073741824 then Q (Q (Bz.mk p.t2 p.t10 p.t11 (i64.wrap (p.t12+1)) p.t47 p.t48 (i64.wrap (p.t49+1)) p.b0 p.b1 (bh.mk p.b2.aC [] p.b2.aF []) (au.mk (p.b3.ai++[p.t2[p.t12.toNat]!]) p.b3.aC [] p.b3.aF)))else V else V else if(p.b3.ai++[Rf p.t47[p.t49.toNat]!.dB]).length<=1073741824 then Q (Q (Bz.mk p.t2 p.t10 p.t11 p.t12 p.t47 p.t48 (i64.wrap (p.t49+1)) p.b0 p.b1 (bh.mk p.b2.aC [] p.b2.aF []) (au.mk (p.b3.ai++[Rf p.t47[p.t49.toNat]!.dB]) p.b3.aC [] p.b3.aF)))else V else V else Q (V)
def RK:=bJ (Qm)
structure GM where
 t2:List aH
 (t10 t11 t12:Int)
 t34:List aS
 (t35 t36:Int)
 b0:aQ
 b1:cz
 b2:bh
 b3:au
def Vf:Td 0 GM:= .c [] [2,3,4,6,9,10,11,12,34,35,36] (.r 0 4 (ec 2 (ql 34) (ec 3 (qp 0 0) (ec 4 (qp 1 0) (ec 6 (qp 2 0) (ec 9 (qp 3 0) (ec 10 aU (ec 11 aU (ec 12 aU (ec 34 (ql 131) (ec 35 aU (ec 36 aU en))))))))))) (sb 0 26 (lg 26) (sb 1 29 (lg 29) (sb 2 36 (bg (bg (bg (lc qn (bg (bg (bg (lc qn ln)))))))) (sb 3 128 (lc qn (bg (bg (bg (lc qn (bg (bg (bg ln)))))))) sn)))) (λz=>⟨z.1.1,z.1.q.2.1,z.1.q.t.1,z.1.q.t.2.1,z.1.q.q.1,z.1.q.q.2.1,z.1.q.q.t.1,z.2.1,z.t.1,(bh.mk (aH.mk z.t.2.1.1 z.t.2.1.2.1 z.t.2.1.t.1) [] (aH.mk z.t.2.1.q.1 z.t.2.1.q.2.1 z.t.2.1.q.t.1) []),(au.mk [] (aH.mk z.q.1.2.1 z.q.1.t.1 z.q.1.t.2.1) [] (aH.mk z.q.1.q.2.1 z.q.1.q.t.1 z.q.1.q.t.2.1))⟩) (λx=>((x.t2,(),(),(),(),x.t10,x.t11,x.t12,x.t34,x.t35,x.t36,()),(x.b0,x.b1,(x.b2.aC.ag,x.b2.aC.af,x.b2.aC.aj,(),x.b2.aF.ag,x.b2.aF.af,x.b2.aF.aj,(),()),((),x.b3.aC.ag,x.b3.aC.af,x.b3.aC.aj,(),x.b3.aF.ag,x.b3.aF.af,x.b3.aF.aj,()),()))))
def SF(p:GM):ah (ah GM):=
 bif O (p.t36<p.t35)then if 0<=p.t36/\p.t36<p.t34.length then bif O (p.t34[p.t36.toNat]!.bq=1)then Q (Q (GM.mk p.t2 p.t10 p.t11 (i64.wrap (p.t12+1)) p.t34 p.t35 (i64.wrap (p.t36+1)) p.b0 p.b1 (bh.mk p.b2.aC [] p.b2.aF []) (au.mk [] p.b3.aC [] p.b3.aF)))else Q (Q (GM.mk p.t2 p.t10 p.t11 p.t12 p.t34 p.t35 (i64.wrap (p.t36+1)) p.b0 p.b1 (bh.mk p.b2.aC [] p.b2.aF []) (au.mk [] p.b3.aC [] p.b3.aF)))else V else Q (V)
def Qg:=bJ (SF)
abbrev E20:=bh×Int
def d20:Td 0 E20:= .c [] [6,7] (.r 0 1 (ec 6 (qp 0 0) (ec 7 aU en)) (sb 0 36 (lg 36) sn) (λz=>(z.2.1,z.1.2.1)) (λx=>(((),x.2,()),(x.1,()))))
def A20:=(lc (qg 26) (lc (qg 29) (lc (ql 34) ln)))
def ati:An:=(noTwo (noTwo (noTwo (noTwo (.two (noTwo (Vf.lp Qg .no)) (.two (noTwo (XW.lp RK .no)) (noTwo (.two (noTwo (Wp.lp KE .no)) .no))))))))
def axm:gv vi (F20) 0 300 20 (ati):=cD (l:=[(bE f20 0,(Vf.lp Qg .no)),(bE f20 1,(XW.lp RK .no)),(bE f20 2,(Wp.lp KE .no))]) func20 (bR (by kernel_rfl)) (by kernel_rfl) (aB (aO Vf) (aB (aO XW) (aB (aO Wp) aI)))
def ZM(a0:aQ)(a1:cz)(a2:aa aH):ah E20:=
 match m79 a0 a1 a2 with|V=>V|Q r3=>bif bif O (r3=0)then I else G then Q ((bh.mk (aH.mk 0 0 0) [] (aH.mk 0 0 0) [],r3))else match Qg (GM.mk a2 0 0 0 a0.ai a0.ai.length 0 a0 a1 (bh.mk (aH.mk 0 0 0) [] (aH.mk 0 0 0) []) (au.mk [] (Rf 0) [] (Rf 0)))with|V=>V|Q r4=>bif O (r4.t36<r4.t35)then if 0<=r4.t36/\r4.t36<r4.t34.length then bif O (r4.t34[r4.t36.toNat]!.bq=1)then V else V else V else match RK (Bz.mk r4.t2 r4.t10 r4.t11 r4.t12 r4.b0.ai r4.b0.ai.length 0 r4.b0 r4.b1 (bh.mk r4.b2.aC [] r4.b2.aF []) (au.mk [] r4.b3.aC [] r4.b3.aF))with|V=>V|Q r5=>bif O (r5.t49<r5.t48)then if 0<=r5.t49/\r5.t49<r5.t47.length then bif O (r5.t47[r5.t49.toNat]!.bq=1)then if 0<=r5.t10/\r5.t10<r5.t2.length then if(r5.b3.ai++[r5.t2[r5.t10.toNat]!]).length<=1073741824 then V else V else V else bif O (r5.t47[r5.t49.toNat]!.bq=2)then if 0<=r5.t11/\r5.t11<r5.b1.aR.length then if(r5.b3.ai++[Rf r5.b1.aR[r5.t11.toNat]!]).length<=1073741824 then V else V else V else bif O (r5.t47[r5.t49.toNat]!.bq=3)then if 0<=r5.t12/\r5.t12<r5.t2.length then if(r5.b3.ai++[r5.t2[r5.t12.toNat]!]).length<=1073741824 then V else V else V else if(r5.b3.ai++[Rf r5.t47[r5.t49.toNat]!.dB]).length<=1073741824 then V else V else V else match KE (Kq.mk r5.b0.ak r5.b0.ak.length 0 r5.b0 r5.b1 (bh.mk r5.b2.aC [] r5.b2.aF []) (au.mk r5.b3.ai r5.b3.aC [] r5.b3.aF) (Runner.mk r5.b0 []))with|V=>V|Q r6=>bif O (r6.t110<r6.t109)then if 0<=r6.t110/\r6.t110<r6.t108.length then match NJ (au.mk r6.b3.ai r6.b3.aC [] r6.b3.aF) (ax.mk r6.t108[r6.t110.toNat]!.az.bf r6.t108[r6.t110.toNat]!.az.fN r6.t108[r6.t110.toNat]!.az.aq)with|V=>V|Q r7=>match m81 r7 r6.t108[r6.t110.toNat]!.ag r6.t108[r6.t110.toNat]!.af with|V=>V|Q r8=>if(r6.b4.ak++[r8.fst]).length<=1073741824 then V else V else V else match r83 r6.b4 r6.b0.bI (au.mk r6.b3.ai r6.b3.aC [] r6.b3.aF)with|V=>V|Q r9=>bif bif r6.b1.eE then I else G then Q ((bh.mk r9.aC r9.aA (Rf 0) r9.ai,0))else Q (bh.mk r9.aC r9.aA r9.aF r9.ai,0)
def c20(a0:aQ)(a1:cz)(a2:aa aH):ct vi (F20) 300 (ati) 20 (A20.c (a0,a1,a2,())) [] 0 d20.rd=ZM a0 a1 a2:=by kernel_rfl
def e20:bw->bw:=eZ vi 20 A20 d20 (λg=>ZM g.1 g.2.1 g.t.1)
def OW{F:bw}(h:bG vi F):bG vi (e20 F):=oE (fm alb axm (λ_=>by kernel_rfl) (λ_=>by kernel_rfl) λg=>c20 g.1 g.2.1 g.t.1) ⟨_,func20,by kernel_rfl,by kernel_rfl⟩ (λ_=>by kernel_rfl) h
def ni{F:bw}{f:Nat}(hne:zj f 20=I)(h:bA F f):bA (e20 F) f:=uC hne h
def F93:bw:=eB
abbrev E93:=Int
def d93:Td 0 E93:= .c [] [4] (.r 0 0 (ec 4 aU en) sn (λz=>z.1.1) (λx=>((x,()),(()))))
def avn:∀f∈([]:aa Nat),bA (F93) f:=aI
def m93(a0:Int)(a1:Int):ah E93:=
 match bif O (0<a1)then if¬a1=0then Q (O (i64.wrap ((1099511627776:Int).tdiv a1)<a0))else V else Q I with|V=>V|Q r1=>bif r1 then Q 1099511627776 else Q (i64.wrap (a0*a1))
def e93:=eL vi 93 I (bg (bg ln)) d93 (λg=>m93 g.1 g.2.1)
def anI:EO e93:=λh=>kL (F:=F93) (an:=(noTwo (.two (.two (.rb [] 12) .no) .no))) (l:=[(.skip,(.rb [] 12))]) func93 aY (aB avn aI) h
structure ME where
 (t10 t13:Int)
 t58:List aH
 (t59 t60:Int)
def V4:Td 0 ME:= .c [] [10,13,58,59,60] (.r 0 0 (ec 10 aU (ec 13 aU (ec 58 (ql 34) (ec 59 aU (ec 60 aU en))))) sn (λz=>⟨z.1.1,z.1.2.1,z.1.t.1,z.1.t.2.1,z.1.q.1⟩) (λx=>((x.t10,x.t13,x.t58,x.t59,x.t60,()),(()))))
def Sv(p:ME):ah (ah ME):=
 bif O (p.t60<p.t59)then if 0<=p.t60/\p.t60<p.t58.length then match HT p.t58[p.t60.toNat]! with|V=>V|Q r6=>match m93 p.t13 r6 with|V=>V|Q r7=>Q (Q (ME.mk p.t10 r7 p.t58 p.t59 (i64.wrap (p.t60+1))))else V else Q (V)
def Rt:=bJ (Sv)
structure Bx where
 t2:List aH
 (t10 t11 t32 t33:Int)
 b0:bh
def V5:Td 0 Bx:= .c [] [2,8,10,11,32,33] (.r 0 1 (ec 2 (ql 34) (ec 8 (qp 0 0) (ec 10 aU (ec 11 aU (ec 32 aU (ec 33 aU en)))))) (sb 0 36 (lg 36) sn) (λz=>⟨z.1.1,z.1.t.1,z.1.t.2.1,z.1.q.1,z.1.q.2.1,z.2.1⟩) (λx=>((x.t2,(),x.t10,x.t11,x.t32,x.t33,()),(x.b0,()))))
def Q9(p:Bx):ah (ah Bx):=
 bif O (p.t33<p.t32)then match Uh p.b0.aC p.t33 with|V=>V|Q r1=>bif r1 then bif O (p.t33<p.b0.aA.length)then if 0<=p.t33/\p.t33<p.b0.aA.length then match HT p.b0.aA[p.t33.toNat]! with|V=>V|Q r2=>match m93 p.t11 r2 with|V=>V|Q r3=>Q (Q (Bx.mk p.t2 (if 1099511627776<i64.wrap (p.t10+p.t11)then 1099511627776 else i64.wrap (p.t10+p.t11)) r3 p.t32 (i64.wrap (p.t33+1)) p.b0))else V else Q (Q (Bx.mk p.t2 (if 1099511627776<i64.wrap (p.t10+p.t11)then 1099511627776 else i64.wrap (p.t10+p.t11)) p.t11 p.t32 (i64.wrap (p.t33+1)) p.b0))else bif O (p.t33<p.b0.aA.length)then if 0<=p.t33/\p.t33<p.b0.aA.length then match HT p.b0.aA[p.t33.toNat]! with|V=>V|Q r4=>match m93 p.t11 r4 with|V=>V|Q r5=>Q (Q (Bx.mk p.t2 p.t10 r5 p.t32 (i64.wrap (p.t33+1)) p.b0))else V else Q (Q (Bx.mk p.t2 p.t10 p.t11 p.t32 (i64.wrap (p.t33+1)) p.b0))else Q (V)
def Qi:=bJ (Q9)
abbrev E25:=Int×Int
def d25:Td 0 E25:= .c [] [6,7] (.r 0 0 (ec 6 aU (ec 7 aU en)) sn (λz=>(z.1.1,z.1.2.1)) (λx=>((x.1,x.2,()),(()))))
def m25(a0:aQ)(a1:cz)(a2:aa aH):ah E25:=
 match ZM a0 a1 a2 with|V=>V|Q r8=>bif bif O (r8.snd=0)then I else G then Q (0,r8.snd)else match HT r8.fst.aF with|V=>V|Q r9=>match Qi (Bx.mk a2 0 r9 (i64.wrap ((r8.fst.aA.length:Int)+1)) 0 r8.fst)with|V=>V|Q r10=>bif O (r10.t33<r10.t32)then match Uh r10.b0.aC r10.t33 with|V=>V|Q r11=>bif r11 then bif O (r10.t33<r10.b0.aA.length)then if 0<=r10.t33/\r10.t33<r10.b0.aA.length then match HT r10.b0.aA[r10.t33.toNat]! with|V=>V|Q r12=>match m93 r10.t11 r12 with|V=>V|Q r13=>V else V else V else bif O (r10.t33<r10.b0.aA.length)then if 0<=r10.t33/\r10.t33<r10.b0.aA.length then match HT r10.b0.aA[r10.t33.toNat]! with|V=>V|Q r14=>match m93 r10.t11 r14 with|V=>V|Q r15=>V else V else V else match Rt (ME.mk r10.t10 1 r10.t2 r10.t2.length 0)with|V=>V|Q r16=>bif O (r16.t60<r16.t59)then if 0<=r16.t60/\r16.t60<r16.t58.length then match HT r16.t58[r16.t60.toNat]! with|V=>V|Q r17=>match m93 r16.t13 r17 with|V=>V|Q r18=>V else V else Q (if r16.t13<r16.t10 then r16.t13 else r16.t10,0)
def e25:=eL vi 25 I (lc (qg 26) (lc (qg 29) (lc (ql 34) ln))) d25 (λg=>m25 g.1 g.2.1 g.t.1)
def ajL:EO e25:=λh=>kL (an:=(noTwo (noTwo (noTwo (noTwo (.two (noTwo (V5.lp Qi .no)) (noTwo (.two (noTwo (V4.lp Rt .no)) .no)))))))) (l:=[(bE f25 0,(V5.lp Qi .no)),(bE f25 1,(V4.lp Rt .no))]) func25 (anI (G5 (NG (OW aY)))) (aB (aO V5) (aB (aO V4) aI)) h
def pV:EP e25:=λh=>kP h
def F26:bw:=(e91 (e20 eB))
structure Lx where
 t12:Bool
 t41:List aH
 (t42 t43:Int)
 (b0 b1:aL)
def Zh:Td 0 Lx:= .c [] [6,11,12,41,42,43] (.t (cU.c 1 0 [] 3) (.c [] [6,11,12,41,42,43] (.r 0 3 (ec 6 (qp 0 0) (ec 11 (qp 1 0) (ec 12 qb (ec 41 (ql 34) (ec 42 aU (ec 43 aU en)))))) (sb 0 47 (lc qn (bg ln)) (sb 1 47 (lc (qo 2) (bg ln)) (sr 2 3 sn))) (λz=>⟨z.1.t.1,z.1.t.2.1,z.1.q.1,z.1.q.2.1,(aL.mk [] z.2.1.2.1),(aL.mk z.t.2.1 z.t.1.2.1)⟩) (λx=>(((),(),x.t12,x.t41,x.t42,x.t43,()),(((),x.b0.aF,()),((),x.b1.aF,()),x.b1.aP,()))))))
def Th(p:Lx):ah (ah Lx):=
 bif O (p.t43<p.t42)then if 0<=p.t43/\p.t43<p.t41.length then match bif p.t12 then match HT p.t41[p.t43.toNat]! with|V=>V|Q r1=>Q (O (r1=1))else Q I with|V=>V|Q r2=>if(p.b1.aP++[p.t41[p.t43.toNat]!.ag]).length<=1073741824 then Q (Q (Lx.mk r2 p.t41 p.t42 (i64.wrap (p.t43+1)) (aL.mk [] p.b0.aF) (aL.mk (p.b1.aP++[p.t41[p.t43.toNat]!.ag]) p.b1.aF)))else V else V else Q (V)
def ahK:An:=(noTwo (noTwo (.two (noTwo (.two (.rb [91] 12) .no)) .no)))
def RE:=bJ (Th)
abbrev E26:=aL×Bool×Int
def d26:Td 0 E26:= .c [] [6,7,8] (.t (cU.c 0 0 [] 3) (.c [] [6,7,8] (.r 0 2 (ec 6 (qp 0 0) (ec 7 qb (ec 8 aU en))) (sb 0 47 (lc (qo 1) (bg ln)) (sr 1 3 sn)) (λz=>((aL.mk z.t.1 z.2.1.2.1),z.1.2.1,z.1.t.1)) (λx=>(((),x.2.1,x.t,()),(((),x.1.aF,()),x.1.aP,()))))))
def aoH:∀f∈([91]:aa Nat),bA (F26) f:=(aB (Ei (ni (f:=91) rfl bK)) aI)
def m26(a0:aQ)(a1:cz)(a2:aa aH):ah E26:=
 match ZM a0 a1 a2 with|V=>V|Q r3=>bif bif O (r3.snd=0)then I else G then Q ((aL.mk [] (0),I,r3.snd))else match match HT r3.fst.aC with|V=>V|Q r4=>bif O (r4=1)then match HT r3.fst.aF with|V=>V|Q r5=>Q (O (r5=1))else Q I with|V=>V|Q r6=>match RE (Lx.mk r6 r3.fst.aA r3.fst.aA.length 0 (aL.mk [] (0)) (aL.mk [] r3.fst.aF.ag))with|V=>V|Q r7=>bif O (r7.t43<r7.t42)then if 0<=r7.t43/\r7.t43<r7.t41.length then match bif r7.t12 then match HT r7.t41[r7.t43.toNat]! with|V=>V|Q r8=>Q (O (r8=1))else Q I with|V=>V|Q r9=>if(r7.b1.aP++[r7.t41[r7.t43.toNat]!.ag]).length<=1073741824 then V else V else V else bif bif r7.t12 then I else G then Q ((aL.mk [] (0),I,0))else Q (r7.b1,G,0)
def e26:=eL vi 26 I (lc (qg 26) (lc (qg 29) (lc (ql 34) ln))) d26 (λg=>m26 g.1 g.2.1 g.t.1)
def aj8:EO e26:=λh=>kL (F:=F26) (an:=(noTwo (noTwo (noTwo (noTwo (.two (.rb [91] 12) (.two (noTwo (Zh.lp RE ahK)) .no))))))) (l:=[(.skip,(.rb [91] 12)),(bE f26 0,(Zh.lp RE ahK)),(.skip,(.rb [91] 12))]) func26 (NG (OW aY)) (aB aoH (aB (aO Zh) (aB aoH aI))) h
def p6{F:bw}{f:Nat}(hne:zj f 26=I)(h:bA F f):bA (e26 F) f:=WA hne h
def F21:bw:=(e84 (e78 (e43 eB)))
structure MK where
 t2:List aH
 t95:List aS
 (t96 t97:Int)
def Xc:Td 0 MK:= .c [] [2,95,96,97] (.r 0 1 (ec 2 (ql 34) (ec 95 (qo 0) (ec 96 aU (ec 97 aU en)))) (sr 0 131 sn) (λz=>⟨z.1.1,z.2.1,z.1.t.1,z.1.t.2.1⟩) (λx=>((x.t2,(),x.t96,x.t97,()),(x.t95,()))))
def Ld(p:MK):ah (ah MK):=
 bif O (p.t97<p.t96)then if 0<=p.t97/\p.t97<p.t95.length then if 131=131/\p.t97.toNat<p.t95.length then match if 0<=p.t97/\p.t97<p.t2.length then match U4 p.t2[p.t97.toNat]! with|V=>V|Q r4=>bif bif r4 then I else G then Q G else if 0<=p.t97/\p.t97<p.t2.length then match Fi p.t2[p.t97.toNat]! with|V=>V|Q r5=>Q (O (r5=0))else V else V with|V=>V|Q r6=>bif r6 then Q (V)else if 0<=p.t97/\p.t97<p.t2.length then bif O (p.t2[p.t97.toNat]!.ag<p.t95[p.t97.toNat]!.ag)then Q (V)else if 0<=p.t97/\p.t97<p.t2.length then bif O (p.t95[p.t97.toNat]!.af<p.t2[p.t97.toNat]!.af)then Q (V)else Q (Q (MK.mk p.t2 p.t95 p.t96 (i64.wrap (p.t97+1))))else V else V else V else V else Q (V)
def ahj:An:=(noTwo (noTwo (.two (noTwo (.two (.two (.rb [43,84] 115) .no) .no)) .no)))
def QJ:=bJ (Ld)
structure Me where
 t2:List aH
 (t9 t64:List aS)
 (t65 t66:Int)
 b0:cz
def Zu:Td 0 Me:= .c [] [2,4,9,64,65,66] (.r 0 3 (ec 2 (ql 34) (ec 4 (qp 0 0) (ec 9 (qo 1) (ec 64 (qo 2) (ec 65 aU (ec 66 aU en)))))) (sb 0 29 (lg 29) (sr 1 131 (sr 2 131 sn))) (λz=>⟨z.1.1,z.t.1,z.t.2.1,z.1.q.1,z.1.q.2.1,z.2.1⟩) (λx=>((x.t2,(),(),(),x.t65,x.t66,()),(x.b0,x.t9,x.t64,()))))
def Ln(p:Me):ah (ah Me):=
 bif O (p.t66<p.t65)then if 0<=p.t66/\p.t66<p.t64.length then if 131=131/\p.t66.toNat<p.t64.length then if 0<=p.t66/\p.t66<p.b0.aR.length then bif O (((p.t2,(),(),(),p.t65,p.t66,()),p.b0,p.t9,p.t64,()).snd.fst.aR[((p.t2,(),(),(),p.t65,p.t66,()),p.b0,p.t9,p.t64,()).fst.snd.snd.snd.snd.snd.fst.toNat]! <((p.t2,(),(),(),p.t65,p.t66,()),p.b0,p.t9,p.t64,()).snd.snd.snd.fst[((p.t2,(),(),(),p.t65,p.t66,()),p.b0,p.t9,p.t64,()).fst.snd.snd.snd.snd.snd.fst.toNat]!.ag)then Q (V)else if 0<=p.t66/\p.t66<p.b0.aR.length then bif O (((p.t2,(),(),(),p.t65,p.t66,()),p.b0,p.t9,p.t64,()).snd.snd.snd.fst[((p.t2,(),(),(),p.t65,p.t66,()),p.b0,p.t9,p.t64,()).fst.snd.snd.snd.snd.snd.fst.toNat]!.af<((p.t2,(),(),(),p.t65,p.t66,()),p.b0,p.t9,p.t64,()).snd.fst.aR[((p.t2,(),(),(),p.t65,p.t66,()),p.b0,p.t9,p.t64,()).fst.snd.snd.snd.snd.snd.fst.toNat]!)then Q (V)else Q (Q (Me.mk p.t2 p.t9 p.t64 p.t65 (i64.wrap (p.t66+1)) p.b0))else V else V else V else V else Q (V)
def RZ:=bJ (Ln)
structure BD where
 t2:List aH
 (t8 t9:List aS)
 t11:Int
 t23:List Int
 (t24 t25:Int)
 t30:List aS
 (t31 t32:Int)
 b0:aQ
 b1:cz
def VG:Td 0 BD:= .c [] [2,3,4,8,9,11,23,24,25,30,31,32] (.r 0 5 (ec 2 (ql 34) (ec 3 (qp 0 0) (ec 4 (qp 1 0) (ec 8 (qo 2) (ec 9 (qo 3) (ec 11 aU (ec 23 (qo 4) (ec 24 aU (ec 25 aU (ec 30 (ql 131) (ec 31 aU (ec 32 aU en)))))))))))) (sb 0 26 (lg 26) (sb 1 29 (lg 29) (sr 2 131 (sr 3 131 (sr 4 129 sn))))) (λz=>⟨z.1.1,z.t.2.1,z.q.1,z.1.q.2.1,z.q.2.1,z.1.q.t.2.1,z.1.q.q.1,z.1.q.q.2.1,z.1.q.q.t.1,z.1.q.q.t.2.1,z.2.1,z.t.1⟩) (λx=>((x.t2,(),(),(),(),x.t11,(),x.t24,x.t25,x.t30,x.t31,x.t32,()),(x.b0,x.b1,x.t8,x.t9,x.t23,()))))
def RA(p:BD):ah (ah BD):=
 bif O (p.t32<p.t31)then if 0<=p.t32/\p.t32<p.t30.length then match bif O (p.t30[p.t32.toNat]!.bq=p.t11)then Q (O (p.t11=2))else Q I with|V=>V|Q r3=>bif r3 then if(p.t8++[p.t30[p.t32.toNat]!]).length<=1073741824 then Q (Q (BD.mk p.t2 (p.t8++[p.t30[p.t32.toNat]!]) p.t9 p.t11 p.t23 p.t24 p.t25 p.t30 p.t31 (i64.wrap (p.t32+1)) p.b0 p.b1))else V else bif O (p.t30[p.t32.toNat]!.bq=p.t11)then if(p.t9++[p.t30[p.t32.toNat]!]).length<=1073741824 then Q (Q (BD.mk p.t2 p.t8 (p.t9++[p.t30[p.t32.toNat]!]) p.t11 p.t23 p.t24 p.t25 p.t30 p.t31 (i64.wrap (p.t32+1)) p.b0 p.b1))else V else Q (Q (BD.mk p.t2 p.t8 p.t9 p.t11 p.t23 p.t24 p.t25 p.t30 p.t31 (i64.wrap (p.t32+1)) p.b0 p.b1))else V else Q (V)
def ag0:An:=(noTwo (noTwo (.two (noTwo (.two (.rb [43,84] 43) .no)) .no)))
def KN:=bJ (RA)
structure Mv where
 t2:List aH
 (t8 t9:List aS)
 t23:List Int
 (t24 t25:Int)
 b0:aQ
 b1:cz
def Xz:Td 0 Mv:= .c [] [2,3,4,8,9,23,24,25] (.t (cU.s 8 [] 131) (.t (cU.s 9 [] 131) (.c [] [2,3,4,8,9,23,24,25] (.r 0 5 (ec 2 (ql 34) (ec 3 (qp 0 0) (ec 4 (qp 1 0) (ec 8 (qo 2) (ec 9 (qo 3) (ec 23 (qo 4) (ec 24 aU (ec 25 aU en)))))))) (sb 0 26 (lg 26) (sb 1 29 (lg 29) (sr 2 131 (sr 3 131 (sr 4 129 sn))))) (λz=>⟨z.1.1,z.t.2.1,z.q.1,z.q.2.1,z.1.q.t.1,z.1.q.t.2.1,z.2.1,z.t.1⟩) (λx=>((x.t2,(),(),(),(),(),x.t24,x.t25,()),(x.b0,x.b1,x.t8,x.t9,x.t23,())))))))
def LV(p:Mv):ah (ah Mv):=
 bif O (p.t25<p.t24)then if 0<=p.t25/\p.t25<p.t23.length then if 129=129/\p.t25.toNat<p.t23.length then match KN (BD.mk p.t2 p.t8 p.t9 p.t23[p.t25.toNat]! p.t23 p.t24 p.t25 p.b0.ai p.b0.ai.length 0 p.b0 p.b1)with|V=>V|Q r1=>bif O (r1.t32<r1.t31)then if 0<=r1.t32/\r1.t32<r1.t30.length then match bif O (r1.t30[r1.t32.toNat]!.bq=r1.t11)then Q (O (r1.t11=2))else Q I with|V=>V|Q r2=>bif r2 then if(r1.t8++[r1.t30[r1.t32.toNat]!]).length<=1073741824 then V else V else bif O (r1.t30[r1.t32.toNat]!.bq=r1.t11)then if(r1.t9++[r1.t30[r1.t32.toNat]!]).length<=1073741824 then V else V else V else V else Q (Q (Mv.mk r1.t2 r1.t8 r1.t9 r1.t23 r1.t24 (i64.wrap (r1.t25+1)) r1.b0 r1.b1))else V else V else Q (V)
def ahl:An:=(noTwo (noTwo (.two (noTwo (noTwo (VG.lp KN ag0))) .no)))
def K0:=bJ (LV)
abbrev E21:=Int
def d21:Td 0 E21:= .c [] [6] (.r 0 0 (ec 6 aU en) sn (λz=>z.1.1) (λx=>((x,()),(()))))
def aqL:∀f∈([43,84]:aa Nat),bA (F21) f:=(aB (o4 (lN (Lz bK))) (aB (o4 (lN (Lz bK))) aI))
def m21(a0:aQ)(a1:cz)(a2:aa aH):ah E21:=
 match m78 a0 with|V=>V|Q r7=>bif bif O (r7=0)then I else G then Q (r7)else match K0 (Mv.mk a2 [] [] [1,3,2] (3:Int) 0 a0 a1)with|V=>V|Q r8=>bif O (r8.t25<r8.t24)then if 0<=r8.t25/\r8.t25<r8.t23.length then if 129=129/\r8.t25.toNat<r8.t23.length then match KN (BD.mk r8.t2 r8.t8 r8.t9 r8.t23[r8.t25.toNat]! r8.t23 r8.t24 r8.t25 r8.b0.ai r8.b0.ai.length 0 r8.b0 r8.b1)with|V=>V|Q r9=>bif O (r9.t32<r9.t31)then if 0<=r9.t32/\r9.t32<r9.t30.length then match bif O (r9.t30[r9.t32.toNat]!.bq=r9.t11)then Q (O (r9.t11=2))else Q I with|V=>V|Q r10=>bif r10 then if(r9.t8++[r9.t30[r9.t32.toNat]!]).length<=1073741824 then V else V else bif O (r9.t30[r9.t32.toNat]!.bq=r9.t11)then if(r9.t9++[r9.t30[r9.t32.toNat]!]).length<=1073741824 then V else V else V else V else V else V else V else bif bif O ((r8.b1.aR.length:Int)=(r8.t8.length:Int))then I else G then Q 1 else match RZ (Me.mk r8.t2 r8.t9 r8.t8 r8.t8.length 0 r8.b1)with|V=>V|Q r11=>bif O (r11.t66<r11.t65)then if 0<=r11.t66/\r11.t66<r11.t64.length then if 131=131/\r11.t66.toNat<r11.t64.length then if 0<=r11.t66/\r11.t66<r11.b0.aR.length then bif O (((r11.t2,(),(),(),r11.t65,r11.t66,()),r11.b0,r11.t9,r11.t64,()).snd.fst.aR[((r11.t2,(),(),(),r11.t65,r11.t66,()),r11.b0,r11.t9,r11.t64,()).fst.snd.snd.snd.snd.snd.fst.toNat]! <((r11.t2,(),(),(),r11.t65,r11.t66,()),r11.b0,r11.t9,r11.t64,()).snd.snd.snd.fst[((r11.t2,(),(),(),r11.t65,r11.t66,()),r11.b0,r11.t9,r11.t64,()).fst.snd.snd.snd.snd.snd.fst.toNat]!.ag)then Q 3 else if 0<=r11.t66/\r11.t66<r11.b0.aR.length then bif O (((r11.t2,(),(),(),r11.t65,r11.t66,()),r11.b0,r11.t9,r11.t64,()).snd.snd.snd.fst[((r11.t2,(),(),(),r11.t65,r11.t66,()),r11.b0,r11.t9,r11.t64,()).fst.snd.snd.snd.snd.snd.fst.toNat]!.af<((r11.t2,(),(),(),r11.t65,r11.t66,()),r11.b0,r11.t9,r11.t64,()).snd.fst.aR[((r11.t2,(),(),(),r11.t65,r11.t66,()),r11.b0,r11.t9,r11.t64,()).fst.snd.snd.snd.snd.snd.fst.toNat]!)then Q 3 else V else V else V else V else V else bif bif O ((r11.t2.length:Int)=(r11.t9.length:Int))then I else G then Q 2 else match QJ (MK.mk r11.t2 r11.t9 r11.t9.length 0)with|V=>V|Q r12=>bif O (r12.t97<r12.t96)then if 0<=r12.t97/\r12.t97<r12.t95.length then if 131=131/\r12.t97.toNat<r12.t95.length then match if 0<=r12.t97/\r12.t97<r12.t2.length then match U4 r12.t2[r12.t97.toNat]! with|V=>V|Q r13=>bif bif r13 then I else G then Q G else if 0<=r12.t97/\r12.t97<r12.t2.length then match Fi r12.t2[r12.t97.toNat]! with|V=>V|Q r14=>Q (O (r14=0))else V else V with|V=>V|Q r15=>bif r15 then Q 1 else if 0<=r12.t97/\r12.t97<r12.t2.length then bif O (r12.t2[r12.t97.toNat]!.ag<r12.t95[r12.t97.toNat]!.ag)then Q 3 else if 0<=r12.t97/\r12.t97<r12.t2.length then bif O (r12.t95[r12.t97.toNat]!.af<r12.t2[r12.t97.toNat]!.af)then Q 3 else V else V else V else V else V else Q 0
def e21:=eL vi 21 I (lc (qg 26) (lc (qg 29) (lc (ql 34) ln))) d21 (λg=>m21 g.1 g.2.1 g.t.1)
def aj7:EO e21:=λh=>kL (F:=F21) (an:=(noTwo (noTwo (noTwo (.two (noTwo (Xz.lp K0 ahl)) (noTwo (.two (noTwo (Zu.lp RZ .no)) (noTwo (.two (noTwo (Xc.lp QJ ahj)) .no))))))))) (l:=[(bE f21 0,(Xz.lp K0 ahl)),(bE f21 1,(VG.lp KN ag0)),(.skip,(.rb [43,84] 43)),(bE f21 2,(Zu.lp RZ .no)),(bE f21 3,(Xc.lp QJ ahj)),(.skip,(.rb [43,84] 115))]) func21 (OQ (IK (ajK aY))) (aB (aO Xz) (aB (aO VG) (aB aqL (aB (aO Zu) (aB (aO Xc) (aB aqL aI)))))) h
def pE:EP e21:=λh=>kP h
structure CP where
 t2:List aH
 (t11 t12 t13:Int)
 t33:List aS
 (t34 t35:Int)
 b0:cz
 (b1 b2:aM)
def atx(p:CP):ah (ah CP):=
 bif O (p.t35<p.t34)then if 0<=p.t35/\p.t35<p.t33.length then bif O (p.t33[p.t35.toNat]!.bq=1)then if 0<=p.t11/\p.t11<p.t2.length then if(p.b2.ai++[p.t2[p.t11.toNat]!]).length<=1073741824 then Q (Q (CP.mk p.t2 (i64.wrap (p.t11+1)) p.t12 p.t13 p.t33 p.t34 (i64.wrap (p.t35+1)) p.b0 (aM.mk [] p.b1.aC [] p.b1.aF) (aM.mk (p.b2.ai++[p.t2[p.t11.toNat]!]) p.b2.aC [] p.b2.aF)))else V else V else bif O (p.t33[p.t35.toNat]!.bq=3)then if 0<=p.t12/\p.t12<p.t2.length then if(p.b2.ai++[p.t2[p.t12.toNat]!]).length<=1073741824 then Q (Q (CP.mk p.t2 p.t11 (i64.wrap (p.t12+1)) p.t13 p.t33 p.t34 (i64.wrap (p.t35+1)) p.b0 (aM.mk [] p.b1.aC [] p.b1.aF) (aM.mk (p.b2.ai++[p.t2[p.t12.toNat]!]) p.b2.aC [] p.b2.aF)))else V else V else bif O (p.t33[p.t35.toNat]!.bq=2)then if 0<=p.t13/\p.t13<p.b0.aR.length then if(p.b2.ai++[m36 p.b0.aR[p.t13.toNat]!]).length<=1073741824 then Q (Q (CP.mk p.t2 p.t11 p.t12 (i64.wrap (p.t13+1)) p.t33 p.t34 (i64.wrap (p.t35+1)) p.b0 (aM.mk [] p.b1.aC [] p.b1.aF) (aM.mk (p.b2.ai++[m36 p.b0.aR[p.t13.toNat]!]) p.b2.aC [] p.b2.aF)))else V else V else if(p.b2.ai++[m36 p.t33[p.t35.toNat]!.dB]).length<=1073741824 then Q (Q (CP.mk p.t2 p.t11 p.t12 p.t13 p.t33 p.t34 (i64.wrap (p.t35+1)) p.b0 (aM.mk [] p.b1.aC [] p.b1.aF) (aM.mk (p.b2.ai++[m36 p.t33[p.t35.toNat]!.dB]) p.b2.aC [] p.b2.aF)))else V else V else Q (V)
def ap0:=bJ (atx)
structure Ma where
 t2:List aH
 t8:Int
 t19:List aS
 (t20 t21:Int)
 b0:aQ
 b1:cz
 (b2 b3:aM)
def arA(p:Ma):ah (ah Ma):=
 bif O (p.t21<p.t20)then if 0<=p.t21/\p.t21<p.t19.length then bif O (p.t19[p.t21.toNat]!.bq=1)then Q (Q (Ma.mk p.t2 (i64.wrap (p.t8+1)) p.t19 p.t20 (i64.wrap (p.t21+1)) p.b0 p.b1 (aM.mk [] p.b2.aC [] p.b2.aF) (aM.mk [] p.b3.aC [] p.b3.aF)))else Q (Q (Ma.mk p.t2 p.t8 p.t19 p.t20 (i64.wrap (p.t21+1)) p.b0 p.b1 (aM.mk [] p.b2.aC [] p.b2.aF) (aM.mk [] p.b3.aC [] p.b3.aF)))else V else Q (V)
def aq8:=bJ (arA)
abbrev E85:=aM
def m85(a0:aQ)(a1:cz)(a2:aa aH):ah E85:=
 match aq8 (Ma.mk a2 0 a0.ai a0.ai.length 0 a0 a1 (aM.mk [] (aH.mk 0 0 0) [] (aH.mk 0 0 0)) (aM.mk [] (aH.mk 0 0 0) [] (aH.mk 0 0 0)))with|V=>V|Q r1=>bif O (r1.t21<r1.t20)then if 0<=r1.t21/\r1.t21<r1.t19.length then bif O (r1.t19[r1.t21.toNat]!.bq=1)then V else V else V else match ap0 (CP.mk r1.t2 0 r1.t8 0 r1.b0.ai r1.b0.ai.length 0 r1.b1 (aM.mk [] r1.b2.aC [] r1.b2.aF) (aM.mk [] r1.b3.aC [] r1.b3.aF))with|V=>V|Q r2=>bif O (r2.t35<r2.t34)then if 0<=r2.t35/\r2.t35<r2.t33.length then bif O (r2.t33[r2.t35.toNat]!.bq=1)then if 0<=r2.t11/\r2.t11<r2.t2.length then if(r2.b2.ai++[r2.t2[r2.t11.toNat]!]).length<=1073741824 then V else V else V else bif O (r2.t33[r2.t35.toNat]!.bq=3)then if 0<=r2.t12/\r2.t12<r2.t2.length then if(r2.b2.ai++[r2.t2[r2.t12.toNat]!]).length<=1073741824 then V else V else V else bif O (r2.t33[r2.t35.toNat]!.bq=2)then if 0<=r2.t13/\r2.t13<r2.b0.aR.length then if(r2.b2.ai++[m36 r2.b0.aR[r2.t13.toNat]!]).length<=1073741824 then V else V else V else if(r2.b2.ai++[m36 r2.t33[r2.t35.toNat]!.dB]).length<=1073741824 then V else V else V else Q (aM.mk r2.b2.ai r2.b2.aC [] r2.b2.aF)
structure S2 where
 t8:List aH
 t18:List dz
 (t19 t20:Int)
 b0:aQ
 b1:cz
 b2:bh
 b3:aM
def arW(p:S2):ah (ah S2):=
 bif O (p.t20<p.t19)then if 0<=p.t20/\p.t20<p.t18.length then match ZQ (aM.mk p.b3.ai p.b3.aC [] p.b3.aF) (ax.mk p.t18[p.t20.toNat]!.az.bf p.t18[p.t20.toNat]!.az.fN p.t18[p.t20.toNat]!.az.aq)with|V=>V|Q r1=>match m86 r1 p.t18[p.t20.toNat]!.ag p.t18[p.t20.toNat]!.af with|V=>V|Q r2=>if(p.t8++[r2.fst]).length<=1073741824 then Q (Q (S2.mk (p.t8++[r2.fst]) p.t18 p.t19 (i64.wrap (p.t20+1)) p.b0 p.b1 (bh.mk p.b2.aC [] p.b2.aF []) (aM.mk p.b3.ai p.b3.aC [] p.b3.aF)))else V else V else Q (V)
def att:=bJ (arW)
abbrev E23:=bh
def m23(a0:aQ)(a1:cz)(a2:aa aH):ah E23:=
 match m85 a0 a1 a2 with|V=>V|Q r3=>match att (S2.mk [] a0.ak a0.ak.length 0 a0 a1 (bh.mk (aH.mk 0 0 0) [] (aH.mk 0 0 0) []) (aM.mk r3.ai r3.aC [] r3.aF))with|V=>V|Q r4=>bif O (r4.t20<r4.t19)then if 0<=r4.t20/\r4.t20<r4.t18.length then match ZQ (aM.mk r4.b3.ai r4.b3.aC [] r4.b3.aF) (ax.mk r4.t18[r4.t20.toNat]!.az.bf r4.t18[r4.t20.toNat]!.az.fN r4.t18[r4.t20.toNat]!.az.aq)with|V=>V|Q r5=>match m86 r5 r4.t18[r4.t20.toNat]!.ag r4.t18[r4.t20.toNat]!.af with|V=>V|Q r6=>if(r4.t8++[r6.fst]).length<=1073741824 then V else V else V else match r88 r4.b0 r4.t8 r4.b0.bI (aM.mk r4.b3.ai r4.b3.aC [] r4.b3.aF)with|V=>V|Q r7=>bif bif r4.b1.eE then I else G then Q (bh.mk r7.aC r7.aA (m36 0) r7.ai)else Q (bh.mk r7.aC r7.aA r7.aF r7.ai)
structure ay3 where
 t10:Bool
 t32:List aH
 (t33 t34:Int)
 (b0 b1:aL)
structure avl where
 t3:Int
 t6:List aH
 (t7 t8:Int)
structure azg where
 (t8 t9 t10 t11:Int)
 b0:bh
def ZE(a:aH):Int:=open Classical in if NV a then bW a else 0
def Qp(a:aH):HT a=Q (ZE a):=by
 unfold ZE;by_cases h:NV a
 ·rw[bt h,qK h]
 ·rw[bF h,ac3 h]
def S0(a:aH):Fi a=Q (ZE a):=by
 unfold ZE;by_cases h:NV a
 ·rw[bt h,gx h]
 ·rw[bF h,af6 h]
def kJ(pub:aa Int)(i:Nat)(x:aS):Int:=bif O (pub[i]! <x.ag)then 3 else bif O (x.af<pub[i]!)then 3 else 0
def oJ(box:aa aH)(i:Nat)(x:aS):Int:=bif bif TX box[i]! then I else G then 1 else bif O (@Eq Int (ZE box[i]!) 0)then 1 else bif O (box[i]!.ag<x.ag)then 3 else bif O (x.af<box[i]!.af)then 3 else 0
def gC(vars:aa aS):aa aS:=vars.filter (kd 1)++vars.filter (kd 3)
def FC(f:aQ)(v:cz)(box:aa aH):Int:=
 if uZ f≠0 then uZ f else if v.aR.length≠(f.ai.filter (kd 2)).length then 1 else if cG (kJ v.aR) (f.ai.filter (kd 2)) 0≠0 then cG (kJ v.aR) (f.ai.filter (kd 2)) 0
 else if box.length≠(gC f.ai).length then 2 else cG (oJ box) (gC f.ai) 0
def Am{vars:aa aS}{i:Nat}(h:i<vars.length)(k:Int):(vars.take (i+1)).filter (kd k)=(vars.take i).filter (kd k)++(if vars[i]!.bq=k then[vars[i]!]else[]):=by
 rw[bO h,xJ];by_cases hk:vars[i]!.bq=k
 ·rw[bt hk];simp only[yO,xM,kd,hk,cX,bZ]
 ·rw[bF hk];simp only[yO,xM,kd,hk,fW,yS,dA]
def Ek{vars:aa aS}(k:Int)(i:Nat):((vars.take i).filter (kd k)).length<=i:=kO vars k i
def WQ(f:aQ)(hl:f.ai.length<=1000000)(v:cz)(box:aa aH):QC ⟨box,[],f.ai,(f.ai.length:Int),0,f,v⟩=Q ⟨box,f.ai.filter (kd 2),f.ai,(f.ai.length:Int),(f.ai.length:Int),f,v⟩:=by
 obtain⟨b,e1,hI⟩:=dD (cL:=S6) f.ai.length (λi (b:aa aS)=>⟨box,b,f.ai,(f.ai.length:Int),(i:Int),f,v⟩) (λi b=>b=(f.ai.take i).filter (kd 2)) (λi b hi hb=>by
  have hw:=gH hi hl;have i1:(i:Int)<(f.ai.length:Int):=by omega
  have i2:(0:Int)<=(i:Int):=by omega
  have hlen:b.length<=i:=by rw[hb];exact Ek 2 i
  have hl2:∀x:aS,(b++[x]).length<=1073741824:=λx=>by simp;omega
  refine⟨_,?_,rfl⟩;rw[Am hi,<-hb];unfold S6;by_cases hk:f.ai[i]!.bq=2
  ·simp only[zi,i1,i2,hk,hl2,hw,cX,bC,dZ,bZ]
  ·simp only[zi,i1,i2,hk,hw,cX,fW,bC,bz,dZ,bZ,dA,yy]) (λb _=>by unfold S6;simp) (b:=[]) (by simp)
 rw[zR]at hI;rw[<-hI];exact e1
def Kx(f:aQ)(hl:f.ai.length<=1000000)(v:cz)(box:aa aH)(t8 acc:aa aS)(ha:acc.length<=1000000)(k:Int)(ks:aa Int)(n j:Int):
  FX ⟨box,t8,acc,k,ks,n,j,f.ai,(f.ai.length:Int),0,f,v⟩=Q ⟨box,t8,acc++f.ai.filter (kd k),k,ks,n,j,f.ai,(f.ai.length:Int),(f.ai.length:Int),f,v⟩:=by
 obtain⟨b,e1,hI⟩:=dD (cL:=QH) f.ai.length (λi (b:aa aS)=>⟨box,t8,acc++b,k,ks,n,j,f.ai,(f.ai.length:Int),(i:Int),f,v⟩) (λi b=>b=(f.ai.take i).filter (kd k)) (λi b hi hb=>by
  have hw:=gH hi hl;have i1:(i:Int)<(f.ai.length:Int):=by omega
  have i2:(0:Int)<=(i:Int):=by omega
  have hlen:b.length<=i:=by rw[hb];exact Ek k i
  have hl2:∀x:aS,(acc++(b++[x])).length<=1073741824:=λx=>by simp;omega
  refine⟨_,?_,rfl⟩;rw[Am hi,<-hb];unfold QH;by_cases hk:f.ai[i]!.bq=k
  ·simp only[zi,i1,i2,hk,hl2,hw,cX,bC,dZ,bZ,xq]
  ·simp only[zi,i1,i2,hk,hw,cX,fW,bC,bz,dZ,bZ,dA,yy]) (λb _=>by unfold QH;simp) (b:=[]) (by simp)
 rw[zR]at hI;have e1':FX ⟨box,t8,acc,k,ks,n,j,f.ai,(f.ai.length:Int),0,f,v⟩=Q ⟨box,t8,acc++b,k,ks,n,j,f.ai,(f.ai.length:Int),(f.ai.length:Int),f,v⟩:=by
  have:=e1;rw[yy]at this;exact this
 rw[<-hI];exact e1'
def W2(f:aQ)(hl:f.ai.length<=1000)(v:cz)(box:aa aH)(t8:aa aS):
  Ml ⟨box,t8,[],[1,3],2,0,f,v⟩=Q ⟨box,t8,gC f.ai,[1,3],2,2,f,v⟩:=by
 have h1:(f.ai.filter (kd 1)).length<=1000:=zJ (yE _ _) hl;have e1:=Kx f (by omega) v box t8 [] (by simp) 1 [1,3] 2 0;have e2:=Kx f (by omega) v box t8 (f.ai.filter (kd 1)) (by omega) 3 [1,3] 2 1;rw[ym]at e1;have w1:i64.wrap ((0:Int)+1)=1:=by decide
 have w2:i64.wrap ((1:Int)+1)=2:=by decide
 unfold Ml gC;rw[bU (p':=⟨box,t8,f.ai.filter (kd 1),[1,3],2,1,f,v⟩)]
 ·rw[bU (p':=⟨box,t8,f.ai.filter (kd 1)++f.ai.filter (kd 3),[1,3],2,2,f,v⟩)]
  ·exact cF (λr=>by unfold RR;simp)
  ·unfold RR;dsimp only;rw[bQ (by decide),bC,bt (by decide),bt (by decide)];rw[show ([1,3]:aa Int)[yR 1]! =3 from rfl,e2];dsimp only;rw[fO,bz,w2]
 ·unfold RR;dsimp only;rw[bQ (by decide),bC,bt (by decide),bt (by decide)];rw[show ([1,3]:aa Int)[yR 0]! =1 from rfl,e1];dsimp only;rw[fO,bz,w1]
def aaf(L:aa aS)(hl:L.length<=1000000)(v:cz)(hv:v.aR.length=L.length)(box:aa aH)(t9:aa aS):
  ∃i,SB ⟨box,t9,L,(L.length:Int),0,v⟩=Q ⟨box,t9,L,(L.length:Int),(i:Nat),v⟩/\((i=L.length/\cG (kJ v.aR) L 0=0)\/(i<L.length/\kJ v.aR i L[i]!≠0/\cG (kJ v.aR) L 0=kJ v.aR i L[i]!)):=
 sy (cL:=Mc) L (λi=>⟨box,t9,L,(L.length:Int),(i:Nat),v⟩) (kJ v.aR) (λi hi=>by
  have hw:=gH hi hl;have i1:(i:Int)<(L.length:Int):=by omega
  have i2:(0:Int)<=(i:Int):=by omega
  have i3:(i:Int)<(v.aR.length:Int):=by omega
  have key:Mc ⟨box,t9,L,(L.length:Int),(i:Nat),v⟩=if kJ v.aR i L[i]! =0 then Q (Q ⟨box,t9,L,(L.length:Int),((i+1:Nat):Int),v⟩)else Q V:=by
   unfold Mc kJ;simp only[zi,i1,i2,i3,hi,hw,cX,bC,dZ,bZ];cases O (v.aR[i]! <L[i]!.ag)<;>cases O (L[i]!.af<v.aR[i]!)<;>simp
  exact⟨λh=>by rw[key,bt h],λh=>by rw[key,bF h]⟩) (by unfold Mc;simp)
def aey(L:aa aS)(hl:L.length<=1000000)(box:aa aH)(hv:box.length=L.length):
  ∃i,RH ⟨box,L,(L.length:Int),0⟩=Q ⟨box,L,(L.length:Int),(i:Nat)⟩/\((i=L.length/\cG (oJ box) L 0=0)\/(i<L.length/\oJ box i L[i]!≠0/\cG (oJ box) L 0=oJ box i L[i]!)):=
 sy (cL:=LJ) L (λi=>⟨box,L,(L.length:Int),(i:Nat)⟩) (oJ box) (λi hi=>by
  have hw:=gH hi hl;have i1:(i:Int)<(L.length:Int):=by omega
  have i2:(0:Int)<=(i:Int):=by omega
  have i3:(i:Int)<(box.length:Int):=by omega
  have key:LJ ⟨box,L,(L.length:Int),(i:Nat)⟩=if oJ box i L[i]! =0 then Q (Q ⟨box,L,(L.length:Int),((i+1:Nat):Int)⟩)else Q V:=by
   unfold LJ oJ;simp only[zi,i1,i2,i3,hi,hw,cX,bC,dZ,bZ,eX,Qp];cases TX box[i]! <;>cases O (@Eq Int (ZE box[i]!) 0)<;>cases O (box[i]!.ag<L[i]!.ag)<;>cases O (L[i]!.af<box[i]!.af)<;>simp
  exact⟨λh=>by rw[key,bt h],λh=>by rw[key,bF h]⟩) (by unfold LJ;simp)
def asg{f:aQ}(h:fP f.bI+jH (f.ak.map (·.az))<=900)(hh:f.ak.length<=1000)(hl:f.ai.length<=1000)(v:cz)(box:aa aH):m79 f v box=Q (FC f v box):=by
 have l2:(f.ai.filter (kd 2)).length<=1000:=zJ (yE _ _) hl;have l3:(gC f.ai).length<=2000:=by
  have a1:(f.ai.filter (kd 1)).length<=1000:=zJ (yE _ _) hl;have a3:(f.ai.filter (kd 3)).length<=1000:=zJ (yE _ _) hl;unfold gC;rw[zq];omega
 unfold m79 FC;rw[afR f h (by omega) (by omega)];dsimp only;by_cases hc:uZ f=0
 case neg=>rw[bP hc,bt hc];rfl
 rw[bQ hc,bF (by simpa using hc)];simp only[bC,bz];rw[WQ f (by omega)];dsimp only;rw[fO,bz];rw[W2 f hl];dsimp only;rw[fO,bz];by_cases hp:v.aR.length=(f.ai.filter (kd 2)).length
 case neg=>rw[fO,bt hp];rfl
 rw[rZ,bF (by simpa using hp)];simp only[bC,bz];obtain⟨i,e3,k3⟩:=aaf (f.ai.filter (kd 2)) (by omega) v hp box (gC f.ai);rw[e3];dsimp only;rcases k3 with ⟨rfl,k3⟩|⟨i1,i2,i3⟩
 case inr=>
  rw[bt (show cG (kJ v.aR) (f.ai.filter (kd 2)) 0≠0 by rw[i3];exact i2),i3];have j1:(i:Int)<((f.ai.filter (kd 2)).length:Int):=by omega
  have j2:(0:Int)<=(i:Int):=by omega
  have j3:(i:Int)<(v.aR.length:Int):=by omega
  simp only[zi,j1,j2,j3,i1,cX,bC,dZ,bZ];revert i2;unfold kJ;cases O (v.aR[i]! <(f.ai.filter (kd 2))[i]!.ag)<;>cases O ((f.ai.filter (kd 2))[i]!.af<v.aR[i]!)<;>simp
 rw[fO,bz,bF (show ¬cG (kJ v.aR) (f.ai.filter (kd 2)) 0≠0 by rw[k3];simp)];by_cases hb:box.length=(gC f.ai).length
 case neg=>rw[fO,bt hb];rfl
 rw[rZ,bF (by simpa using hb)];simp only[bC,bz];obtain⟨i,e4,k4⟩:=aey (gC f.ai) (by omega) box hb;rw[e4];dsimp only;rcases k4 with ⟨rfl,k4⟩|⟨i1,i2,i3⟩
 ·rw[fO,bz,k4]
 ·rw[i3];have j1:(i:Int)<((gC f.ai).length:Int):=by omega
  have j2:(0:Int)<=(i:Int):=by omega
  have j3:(i:Int)<(box.length:Int):=by omega
  simp only[zi,j1,j2,j3,i1,cX,bC,dZ,bZ,eX,Qp];revert i2;unfold oJ;cases TX box[i]! <;>cases O (@Eq Int (ZE box[i]!) 0)<;>cases O (box[i]!.ag<(gC f.ai)[i]!.ag)<;>cases O ((gC f.ai)[i]!.af<box[i]!.af)<;>simp
def Ep(f:aQ)(hl:f.ai.length<=1000000)(v:cz)(box:aa aH)(t8 t9:aa aS)(h8:t8.length<=1000000)(h9:t9.length<=1000000)(k:Int)(ks:aa Int)(n j:Int):
  KN ⟨box,t8,t9,k,ks,n,j,f.ai,(f.ai.length:Int),0,f,v⟩=Q ⟨box,if k=2 then t8++f.ai.filter (kd k)else t8,if k=2 then t9 else t9++f.ai.filter (kd k),k,ks,n,j,f.ai,(f.ai.length:Int),(f.ai.length:Int),f,v⟩:=by
 obtain⟨b,e1,hI⟩:=dD (cL:=RA) f.ai.length (λi (b:aa aS)=>⟨box,if k=2 then t8++b else t8,if k=2 then t9 else t9++b,k,ks,n,j,f.ai,(f.ai.length:Int),(i:Int),f,v⟩) (λi b=>b=(f.ai.take i).filter (kd k)) (λi b hi hb=>by
  have hw:=gH hi hl;have i1:(i:Int)<(f.ai.length:Int):=by omega
  have i2:(0:Int)<=(i:Int):=by omega
  have hlen:b.length<=i:=by rw[hb];exact Ek k i
  have hl2:∀x:aS,(t8++(b++[x])).length<=1073741824:=λx=>by simp;omega
  have hl3:∀x:aS,(t9++(b++[x])).length<=1073741824:=λx=>by simp;omega
  refine⟨_,?_,rfl⟩;rw[Am hi,<-hb];unfold RA;by_cases hk:f.ai[i]!.bq=k
  ·by_cases h2:k=2
   ·simp only[zi,i1,i2,hk,h2,hl2,hw,cX,bC,dZ,bZ,xq]
   ·simp only[zi,i1,i2,hk,h2,hl3,hw,cX,fW,bC,bz,dZ,bZ,dA,xq]
  ·simp only[zi,i1,i2,hk,hw,cX,fW,bC,bz,dZ,bZ,dA,yy]) (λb _=>by unfold RA;simp) (b:=[]) (by simp)
 rw[zR]at hI;rw[<-hI];have e1':=e1;rw[yy,yy,ite_self,ite_self]at e1';exact e1'
def Vt(f:aQ)(hl:f.ai.length<=1000)(v:cz)(box:aa aH):
  K0 ⟨box,[],[],[1,3,2],3,0,f,v⟩=Q ⟨box,f.ai.filter (kd 2),gC f.ai,[1,3,2],3,3,f,v⟩:=by
 have h1:(f.ai.filter (kd 1)).length<=1000:=zJ (yE _ _) hl;have h3:(f.ai.filter (kd 3)).length<=1000:=zJ (yE _ _) hl;have e1:=Ep f (by omega) v box [] [] (by simp) (by simp) 1 [1,3,2] 3 0;have e2:=Ep f (by omega) v box [] (f.ai.filter (kd 1)) (by simp) (by omega) 3 [1,3,2] 3 1;have e3:=Ep f (by omega) v box [] (gC f.ai) (by simp) (by unfold gC;rw[zq];omega) 2 [1,3,2] 3 2;simp only[ym,Int.reduceEq,dA,bZ]at e1 e2 e3;have w1:i64.wrap ((0:Int)+1)=1:=by decide
 have w2:i64.wrap ((1:Int)+1)=2:=by decide
 have w3:i64.wrap ((2:Int)+1)=3:=by decide
 unfold K0;rw[bU (p':=⟨box,[],f.ai.filter (kd 1),[1,3,2],3,1,f,v⟩)]
 ·rw[bU (p':=⟨box,[],gC f.ai,[1,3,2],3,2,f,v⟩)]
  ·rw[bU (p':=⟨box,f.ai.filter (kd 2),gC f.ai,[1,3,2],3,3,f,v⟩)]
   ·exact cF (λr=>by unfold LV;simp)
   ·unfold LV;dsimp only;rw[bQ (by decide),bC,bt (by decide),bt (by decide)];rw[show ([1,3,2]:aa Int)[yR 2]! =2 from rfl,e3];dsimp only;rw[fO,bz,w3]
  ·unfold LV;dsimp only;rw[bQ (by decide),bC,bt (by decide),bt (by decide)];rw[show ([1,3,2]:aa Int)[yR 1]! =3 from rfl,e2];dsimp only;rw[fO,bz,w2];rfl
 ·unfold LV;dsimp only;rw[bQ (by decide),bC,bt (by decide),bt (by decide)];rw[show ([1,3,2]:aa Int)[yR 0]! =1 from rfl,e1];dsimp only;rw[fO,bz,w1]
def aeM(L:aa aS)(hl:L.length<=1000000)(v:cz)(hv:v.aR.length=L.length)(box:aa aH)(t9:aa aS):
  ∃i,RZ ⟨box,t9,L,(L.length:Int),0,v⟩=Q ⟨box,t9,L,(L.length:Int),(i:Nat),v⟩/\((i=L.length/\cG (kJ v.aR) L 0=0)\/(i<L.length/\kJ v.aR i L[i]!≠0/\cG (kJ v.aR) L 0=kJ v.aR i L[i]!)):=
 sy (cL:=Ln) L (λi=>⟨box,t9,L,(L.length:Int),(i:Nat),v⟩) (kJ v.aR) (λi hi=>by
  have hw:=gH hi hl;have i1:(i:Int)<(L.length:Int):=by omega
  have i2:(0:Int)<=(i:Int):=by omega
  have i3:(i:Int)<(v.aR.length:Int):=by omega
  have key:Ln ⟨box,t9,L,(L.length:Int),(i:Nat),v⟩=if kJ v.aR i L[i]! =0 then Q (Q ⟨box,t9,L,(L.length:Int),((i+1:Nat):Int),v⟩)else Q V:=by
   unfold Ln kJ;simp only[zi,i1,i2,i3,hi,hw,cX,bC,dZ,bZ];cases O (v.aR[i]! <L[i]!.ag)<;>cases O (L[i]!.af<v.aR[i]!)<;>simp
  exact⟨λh=>by rw[key,bt h],λh=>by rw[key,bF h]⟩) (by unfold Ln;simp)
def afM(L:aa aS)(hl:L.length<=1000000)(box:aa aH)(hv:box.length=L.length):
  ∃i,QJ ⟨box,L,(L.length:Int),0⟩=Q ⟨box,L,(L.length:Int),(i:Nat)⟩/\((i=L.length/\cG (oJ box) L 0=0)\/(i<L.length/\oJ box i L[i]!≠0/\cG (oJ box) L 0=oJ box i L[i]!)):=
 sy (cL:=Ld) L (λi=>⟨box,L,(L.length:Int),(i:Nat)⟩) (oJ box) (λi hi=>by
  have hw:=gH hi hl;have i1:(i:Int)<(L.length:Int):=by omega
  have i2:(0:Int)<=(i:Int):=by omega
  have i3:(i:Int)<(box.length:Int):=by omega
  have key:Ld ⟨box,L,(L.length:Int),(i:Nat)⟩=if oJ box i L[i]! =0 then Q (Q ⟨box,L,(L.length:Int),((i+1:Nat):Int)⟩)else Q V:=by
   unfold Ld oJ;simp only[zi,i1,i2,i3,hi,hw,cX,bC,dZ,bZ,fU,S0];cases TX box[i]! <;>cases O (@Eq Int (ZE box[i]!) 0)<;>cases O (box[i]!.ag<L[i]!.ag)<;>cases O (L[i]!.af<box[i]!.af)<;>simp
  exact⟨λh=>by rw[key,bt h],λh=>by rw[key,bF h]⟩) (by unfold Ld;simp)
def arn{f:aQ}(h:fP f.bI+jH (f.ak.map (·.az))<=900)(hh:f.ak.length<=1000)(hl:f.ai.length<=1000)(v:cz)(box:aa aH):m21 f v box=Q (FC f v box):=by
 have l2:(f.ai.filter (kd 2)).length<=1000:=zJ (yE _ _) hl;have l3:(gC f.ai).length<=2000:=by
  have a1:(f.ai.filter (kd 1)).length<=1000:=zJ (yE _ _) hl;have a3:(f.ai.filter (kd 3)).length<=1000:=zJ (yE _ _) hl;unfold gC;rw[zq];omega
 unfold m21 FC;rw[Hx f h (by omega) (by omega)];dsimp only;by_cases hc:uZ f=0
 case neg=>rw[bP hc,bt hc];rfl
 rw[bQ hc,bF (by simpa using hc)];simp only[bC,bz];rw[Vt f hl v box];dsimp only;rw[fO,bz];by_cases hp:v.aR.length=(f.ai.filter (kd 2)).length
 case neg=>rw[fO,bt hp];rfl
 rw[rZ,bF (by simpa using hp)];simp only[bC,bz];obtain⟨i,e3,k3⟩:=aeM (f.ai.filter (kd 2)) (by omega) v hp box (gC f.ai);rw[e3];dsimp only;rcases k3 with ⟨rfl,k3⟩|⟨i1,i2,i3⟩
 case inr=>
  rw[bt (show cG (kJ v.aR) (f.ai.filter (kd 2)) 0≠0 by rw[i3];exact i2),i3];have j1:(i:Int)<((f.ai.filter (kd 2)).length:Int):=by omega
  have j2:(0:Int)<=(i:Int):=by omega
  have j3:(i:Int)<(v.aR.length:Int):=by omega
  simp only[zi,j1,j2,j3,i1,cX,bC,dZ,bZ];revert i2;unfold kJ;cases O (v.aR[i]! <(f.ai.filter (kd 2))[i]!.ag)<;>cases O ((f.ai.filter (kd 2))[i]!.af<v.aR[i]!)<;>simp
 rw[fO,bz,bF (show ¬cG (kJ v.aR) (f.ai.filter (kd 2)) 0≠0 by rw[k3];simp)];by_cases hb:box.length=(gC f.ai).length
 case neg=>rw[fO,bt hb];rfl
 rw[rZ,bF (by simpa using hb)];simp only[bC,bz];obtain⟨i,e4,k4⟩:=afM (gC f.ai) (by omega) box hb;rw[e4];dsimp only;rcases k4 with ⟨rfl,k4⟩|⟨i1,i2,i3⟩
 ·rw[fO,bz,k4]
 ·rw[i3];have j1:(i:Int)<((gC f.ai).length:Int):=by omega
  have j2:(0:Int)<=(i:Int):=by omega
  have j3:(i:Int)<(box.length:Int):=by omega
  simp only[zi,j1,j2,j3,i1,cX,bC,dZ,bZ,fU,S0];revert i2;unfold oJ;cases TX box[i]! <;>cases O (@Eq Int (ZE box[i]!) 0)<;>cases O (box[i]!.ag<(gC f.ai)[i]!.ag)<;>cases O ((gC f.ai)[i]!.af<box[i]!.af)<;>simp
structure Fits (f:aQ) (v:cz) (box:List aH):Prop where
 c:uZ f=0
 pub:v.aR.length=(f.ai.filter (kd 2)).length
 am8:∀j,j<v.aR.length->(f.ai.filter (kd 2))[j]!.ag<=v.aR[j]!/\v.aR[j]!<=(f.ai.filter (kd 2))[j]!.af
 bl:box.length=(gC f.ai).length
 bx:∀j,j<box.length->NN box[j]!/\(gC f.ai)[j]!.ag<=box[j]!.ag/\box[j]!.af<=(gC f.ai)[j]!.af
def Qz{f:aQ}{v:cz}{box:aa aH}(h:FC f v box=0):Fits f v box:=by
 unfold FC at h;by_cases hc:uZ f=0
 case neg=>rw[bt hc]at h;exact cR h hc
 rw[bF (by simpa using hc)]at h;by_cases hp:v.aR.length=(f.ai.filter (kd 2)).length
 case neg=>rw[bt hp]at h;cases h
 rw[bF (by simpa using hp)]at h;by_cases hf:cG (kJ v.aR) (f.ai.filter (kd 2)) 0=0
 case neg=>rw[bt hf]at h;exact cR h hf
 rw[bF (by simpa using hf)]at h;by_cases hb:box.length=(gC f.ai).length
 case neg=>rw[bt hb]at h;cases h
 rw[bF (by simpa using hb)]at h;refine⟨hc,hp,λj hj=> ?_,hb,λj hj=> ?_⟩
 ·have k:=ng hf j (by omega);rw[yJ]at k;unfold kJ at k;by_cases c1:v.aR[j]! <(f.ai.filter (kd 2))[j]!.ag
  ·rw[bQ c1]at k;cases k
  by_cases c2:(f.ai.filter (kd 2))[j]!.af<v.aR[j]!
  ·rw[bP c1,bQ c2]at k;cases k
  omega
 ·have k:=ng h j (by omega);rw[yJ]at k;unfold oJ at k;by_cases c0:NV box[j]!
  case neg=>rw[uJ c0]at k;cases k
  rw[ew c0]at k;by_cases c3:ZE box[j]! =0
  ·rw[bQ c3]at k;cases k
  by_cases c1:box[j]!.ag<(gC f.ai)[j]!.ag
  ·rw[bP c3,bQ c1]at k;cases k
  by_cases c2:(gC f.ai)[j]!.af<box[j]!.af
  ·rw[bP c3,bP c1,bQ c2]at k;cases k
  refine⟨c0.nn λe=>c3 ?_,by omega,by omega⟩;rw[e];unfold ZE;rw[bt (.inl rfl)];unfold bW;rw[bt rfl]
def DF{f:aQ}(h:uZ f=0){i:Nat}(hi:i<f.ai.length):(0<=f.ai[i]!.bq/\f.ai[i]!.bq<=3)/\(f.ai[i]!.bq=0->f.ai[i]!.ag<=f.ai[i]!.dB/\f.ai[i]!.dB<=f.ai[i]!.af):=by
 unfold uZ at h;by_cases h1:qL f=I
 ·rw[bt h1]at h;exact cR h (by decide)
 rw[bF h1]at h;by_cases hvc:kH f.ai=0
 case neg=>rw[bt hvc]at h;exact cR h hvc
 unfold kH at hvc;by_cases h0:cG (mH f.ai) f.ai 0=0
 case neg=>rw[bt h0]at hvc;exact cR hvc h0
 have k:=ng h0 i hi;unfold mH at k;split at k
 ·cases k
 split at k
 ·cases k
 split at k
 ·cases k
 split at k
 ·cases k
 rename_i q _;refine⟨by omega,λe=> ?_⟩;rw[bt e]at k;split at k
 ·cases k
 ·omega
def gP(f:aQ)(v:cz)(box:aa aH)(i:Nat):aH:=
 if f.ai[i]!.bq=1 then box[cg f.ai 1 i]! else if f.ai[i]!.bq=2 then dN v.aR[cg f.ai 2 i]! else if f.ai[i]!.bq=3 then box[cg f.ai 1 f.ai.length+cg f.ai 3 i]! else dN f.ai[i]!.dB
def gB(f:aQ)(v:cz)(box:aa aH):au:=⟨iT f.ai.length (gP f v box),dN 0,[],dN 0⟩
def mc(vars:aa aS):(gC vars).length=cg vars 1 vars.length+cg vars 3 vars.length:=by
 unfold gC;rw[zq,fX,fX]
def eW{vars:aa aS}{k:Int}{i:Nat}(hi:i<vars.length)(hk:vars[i]!.bq=k):cg vars k i<cg vars k vars.length:=by
 have c:=fE hi k;have m:=kY (vars:=vars) (k:=k) (show i+1<=vars.length by omega) (zI _);rw[bt hk]at c;omega
def lf{f:aQ}{v:cz}{box:aa aH}(h:Fits f v box):dW f.ai.length 0 (gB f v box):=by
 have hv:=pG h.c;have hb:=h.bl;rw[mc]at hb;have hp:=h.pub;rw[<-fX]at hp;refine⟨dR ..,λi hi=> ?_,jy ⟨by decide,by decide⟩,zI _,λi hi=>cR hi (by simp[gB]),jy ⟨by decide,by decide⟩⟩;show NN (iT _ _)[i]!;rw[fK hi];unfold gP;by_cases k1:f.ai[i]!.bq=1
 ·rw[bt k1];have:=eW hi k1;exact(h.bx _ (by omega)).1
 rw[bF k1];by_cases k2:f.ai[i]!.bq=2
 ·rw[bt k2];have hl:=eW hi k2;have hj:=h.am8 _ (show cg f.ai 2 i<v.aR.length by omega);have hm:=aV (l:=f.ai.filter (kd 2)) (i:=cg f.ai 2 i) (by rw[<-fX];omega);have:=hv _ ((zY.1 hm).1);exact jy (by unfold bX;omega)
 rw[bF k2];by_cases k3:f.ai[i]!.bq=3
 ·rw[bt k3];have:=eW hi k3;exact(h.bx _ (by omega)).1
 rw[bF k3];obtain⟨q1,q2⟩:=DF h.c hi;have q2:=q2 (by omega);have:=hv _ (aV hi);exact jy (by unfold bX;omega)
abbrev A0:bh:=⟨⟨0,0,0⟩,[],⟨0,0,0⟩,[]⟩
def aco{f:aQ}(hl:f.ai.length<=1000)(box:aa aH)(v:cz)(g:au):Qg ⟨box,0,0,0,f.ai,(f.ai.length:Int),0,f,v,A0,⟨[],g.aC,[],g.aF⟩⟩=
  Q ⟨box,0,0,(cg f.ai 1 f.ai.length:Int),f.ai,(f.ai.length:Int),(f.ai.length:Int),f,v,A0,⟨[],g.aC,[],g.aF⟩⟩:=by
 obtain⟨b,e1,_⟩:=dD (cL:=SF) f.ai.length (λi (_:Unit)=>⟨box,0,0,(cg f.ai 1 i:Int),f.ai,(f.ai.length:Int),(i:Int),f,v,A0,⟨[],g.aC,[],g.aF⟩⟩) (λ_ _=>True) (λi b hi _=>by
  have hw:=gH hi (by omega);have i1:(i:Int)<(f.ai.length:Int):=by omega
  have i2:(0:Int)<=(i:Int):=by omega
  have c1:=fE hi 1;have l1:=kO f.ai 1 i;have w1:i64.wrap ((cg f.ai 1 i:Int)+1)=((cg f.ai 1 i+1:Nat):Int):=by rw[aG];omega
  refine⟨(),?_,trivial⟩;unfold SF;rw[c1];by_cases hk:f.ai[i]!.bq=1
  ·simp only[zi,i1,i2,hk,hw,w1,cX,bC,dZ,bZ]
  ·simp only[zi,i1,i2,hk,hw,cX,fW,bC,bz,dZ,bZ,dA,yq]) (λb _=>by unfold SF;simp) (b:=()) trivial
 exact e1
def acD{f:aQ}{v:cz}{box:aa aH}(h:Fits f v box)(hlv:f.ai.length<=1000)(g:au):RK ⟨box,0,0,(cg f.ai 1 f.ai.length:Int),f.ai,(f.ai.length:Int),0,f,v,A0,⟨[],g.aC,[],g.aF⟩⟩=
  Q ⟨box,(cg f.ai 1 f.ai.length:Int),(cg f.ai 2 f.ai.length:Int),((cg f.ai 1 f.ai.length+cg f.ai 3 f.ai.length:Nat):Int),f.ai,(f.ai.length:Int),(f.ai.length:Int),f,v,A0,⟨iT f.ai.length (gP f v box),g.aC,[],g.aF⟩⟩:=by
 have hbx:=h.bl;rw[mc]at hbx;have hp:=h.pub;rw[<-fX]at hp;obtain⟨b,e1,_⟩:=dD (cL:=Qm) f.ai.length (λi (_:Unit)=>⟨box,(cg f.ai 1 i:Int),(cg f.ai 2 i:Int),((cg f.ai 1 f.ai.length+cg f.ai 3 i:Nat):Int),f.ai,(f.ai.length:Int),(i:Int),f,v,A0,⟨iT i (gP f v box),g.aC,[],g.aF⟩⟩) (λi _=>True) (λi b hi _=>by
  have hw:=gH hi (by omega);have i1:(i:Int)<(f.ai.length:Int):=by omega
  have i2:(0:Int)<=(i:Int):=by omega
  have c1:=fE hi 1;have c2:=fE hi 2;have c3:=fE hi 3;have m1:=kY (vars:=f.ai) (k:=1) (show i+1<=f.ai.length by omega) (zI _);have m2:=kY (vars:=f.ai) (k:=2) (show i+1<=f.ai.length by omega) (zI _);have m3:=kY (vars:=f.ai) (k:=3) (show i+1<=f.ai.length by omega) (zI _);have l1:=kO f.ai 1 f.ai.length;have l2:=kO f.ai 2 f.ai.length;have l3:=kO f.ai 3 f.ai.length;have hl2:∀x:aH,(iT i (gP f v box)++[x]).length<=1073741824:=λx=>by rw[zq,dR,yL];omega
  refine⟨(),?_,trivial⟩;rw[KK];unfold Qm;dsimp only;rw[c1,c2,c3];by_cases k1:f.ai[i]!.bq=1
  ·have ev:gP f v box i=box[cg f.ai 1 i]! :=by unfold gP;rw[bt k1]
   rw[k1]at c1 c2 c3 ⊢;simp only[Int.reduceEq,bZ,dA,yq]at c1 c2 c3 ⊢;have w1:i64.wrap ((cg f.ai 1 i:Int)+1)=((cg f.ai 1 i+1:Nat):Int):=by rw[aG];omega
   have j1:(cg f.ai 1 i:Int)<(box.length:Int):=by omega
   have j2:(0:Int)<=(cg f.ai 1 i:Int):=by omega
   simp only[zi,i1,i2,j1,j2,cX,bC,dZ,bZ,k1,hl2,hw,w1,ev]
  by_cases k2:f.ai[i]!.bq=2
  ·have ev:gP f v box i=dN v.aR[cg f.ai 2 i]! :=by unfold gP;rw[bF k1,bt k2]
   rw[k2]at c1 c2 c3 ⊢;simp only[Int.reduceEq,bZ,dA,yq]at c1 c2 c3 ⊢;have w1:i64.wrap ((cg f.ai 2 i:Int)+1)=((cg f.ai 2 i+1:Nat):Int):=by rw[aG];omega
   have j1:(cg f.ai 2 i:Int)<(v.aR.length:Int):=by omega
   have j2:(0:Int)<=(cg f.ai 2 i:Int):=by omega
   simp only[zi,i1,i2,j1,j2,k2,Int.reduceEq,cX,fW,bC,bz,dZ,bZ,hl2,hw,w1,rF,ev]
  by_cases k3:f.ai[i]!.bq=3
  ·have ev:gP f v box i=box[cg f.ai 1 f.ai.length+cg f.ai 3 i]! :=by unfold gP;rw[bF k1,bF k2,bt k3]
   rw[k3]at c1 c2 c3 ⊢;simp only[Int.reduceEq,bZ,dA,yq]at c1 c2 c3 ⊢;have w1:i64.wrap (((cg f.ai 1 f.ai.length+cg f.ai 3 i:Nat):Int)+1)=((cg f.ai 1 f.ai.length+(cg f.ai 3 i+1):Nat):Int):=by rw[aG];omega
   have j1:((cg f.ai 1 f.ai.length+cg f.ai 3 i:Nat):Int)<(box.length:Int):=by omega
   have j2:(0:Int)<=((cg f.ai 1 f.ai.length+cg f.ai 3 i:Nat):Int):=by omega
   simp only[zi,i1,i2,j1,j2,k3,Int.reduceEq,cX,fW,bC,bz,dZ,bZ,hl2,hw,w1,ev]
  ·have ev:gP f v box i=dN f.ai[i]!.dB:=by unfold gP;rw[bF k1,bF k2,bF k3]
   rw[bF k1,bF k2,bF k3];simp only[zi,i1,i2,k1,k2,k3,cX,fW,bC,bz,dZ,bZ,hl2,hw,rF,ev,yq]) (λb _=>by unfold Qm;simp) (b:=()) trivial
 exact e1
def afi(f:aQ)(s:au)(h:dz):aH:=fT (cA s.ai h.az) h.ag h.af
def mX(f:aQ)(s:au):aa aH:=f.ak.map (afi f s)
def af1{f:aQ}(hf:FT f){s:au}{m:Nat}(hs:dW f.ai.length m s){i:Nat}(hi:i<f.ak.length):NN (afi f s f.ak[i]!):=by
 obtain⟨_,_,_,k,_⟩:=iu (gF hs f.ak[i]!.az (hf.hat i hi).2) f.ak[i]!.ag f.ak[i]!.af;exact k
def uF{f:aQ}(hf:FT f){s:au}{m:Nat}(hs:dW f.ai.length m s):∀i,i<(mX f s).length->NN (mX f s)[i]! :=λi hi=>by
 have hi:i<f.ak.length:=by simpa [mX]using hi
 unfold mX;rw[getElem!_pos _ i (by simpa using hi),ye,<-getElem!_pos f.ak i hi];exact af1 hf hs hi
def afE{f:aQ}(hf:FT f)(hlh:f.ak.length<=1000)(v:cz){s:au}(hs:dW f.ai.length 0 s):KE ⟨f.ak,(f.ak.length:Int),0,f,v,A0,s,⟨f,[]⟩⟩=
  Q ⟨f.ak,(f.ak.length:Int),(f.ak.length:Int),f,v,A0,s,⟨f,mX f s⟩⟩:=by
 have hsl:s.aA=[]:=xp (Nat.le_zero.1 hs.sl);have es:(⟨s.ai,s.aC,[],s.aF⟩:au)=s:=by rw[<-hsl]
 obtain⟨b,e1,_⟩:=dD (cL:=To) f.ak.length (λi (_:Unit)=>⟨f.ak,(f.ak.length:Int),(i:Int),f,v,A0,s,⟨f,(f.ak.take i).map (afi f s)⟩⟩) (λi _=>True) (λi b hi _=>by
  have hw:=gH hi (by omega);have i1:(i:Int)<(f.ak.length:Int):=by omega
  have i2:(0:Int)<=(i:Int):=by omega
  obtain⟨q1,q2⟩:=hf.hat i hi;have ev:=LK hs q2;obtain⟨c,hcl,_,_,_⟩:=iu (gF hs f.ak[i]!.az q2) f.ak[i]!.ag f.ak[i]!.af;have hl2:∀x:aH,((f.ak.take i).map (afi f s)++[x]).length<=1073741824:=λx=>by simp;omega
  refine⟨(),?_,trivial⟩;rw[bO hi,yo];unfold To;simp only[zi,i1,i2,cX,bC,dZ,bZ,ax.eta,es,ev,hcl,hl2,hw,yl,xw];rfl) (λb _=>by unfold To;simp) (b:=()) trivial
 rw[zR]at e1;exact e1
def si(f:aQ)(v:cz)(box:aa aH):au:=jg f (mX f (gB f v box)) f.bI (gB f v box)
def dP(f:aQ)(v:cz)(box:aa aH):bh:=
 ⟨(si f v box).aC,(si f v box).aA,if v.eE=G then(si f v box).aF else dN 0,(si f v box).ai⟩
def asE{f:aQ}{v:cz}{box:aa aH}(h:fP f.bI+jH (f.ak.map (·.az))<=900)(hh:f.ak.length<=1000)(hl:f.ai.length<=1000):ZM f v box=Q (if FC f v box=0 then(dP f v box,0)else(A0,FC f v box)):=by
 unfold ZM;rw[asg h hh hl];dsimp only;by_cases hc:FC f v box=0
 case neg=>rw[bP hc,bF hc];rfl
 have hfit:=Qz hc;have hf:=Ak hfit.c;have h0:=lf hfit;have e0:=aco hl box v ⟨[],dN 0,[],dN 0⟩;have e1:=acD hfit hl ⟨[],dN 0,[],dN 0⟩;have e2:=afE hf hh v h0;have ho:cv f.bI<=8:=by have:=hf.o;unfold cv;omega
 have e3:r83 ⟨f,mX f (gB f v box)⟩ f.bI (gB f v box)=Q (si f v box):=
  arO (r:=⟨f,mX f (gB f v box)⟩) (top:=G) (by show f.ai.length<=_;omega) (by simp[mX]) (uF hf h0) (by omega) hf.steps h0 (by omega)
 rw[bQ hc,bt hc];simp only[bC,bz,rF];dsimp only[A0]at e0 e1 e2;rw[e0];dsimp only;rw[fO,bz,e1];dsimp only;rw[fO,bz];have e2':KE ⟨f.ak,(f.ak.length:Int),0,f,v,⟨⟨0,0,0⟩,[],⟨0,0,0⟩,[]⟩,⟨iT f.ai.length (gP f v box),dN 0,[],dN 0⟩,⟨f,[]⟩⟩=_:=e2;rw[e2'];dsimp only;rw[fO,bz];have e3':r83 ⟨f,mX f (gB f v box)⟩ f.bI ⟨(gB f v box).ai,(gB f v box).aC,[],(gB f v box).aF⟩=_:=e3;rw[e3'];dsimp only;unfold dP;cases v.eE<;>rfl
abbrev E18:=Bool
def d18:Td 0 E18:= .c [] [0] (.r 0 0 (ec 0 qb en) sn (λz=>z.1.1) (λx=>((x,()),(()))))
def A18:=ln
def m18:E18:=G
def asD:Prop:=HL vi 18 A18 d18 (λ_=>Q m18)
def e18:=eL vi 18 I A18 d18 (λ_=>Q m18)
def adM(hv:asD){F:bw}(h:bG vi F):bG vi (e18 F):=iJ (sc:=Ec) fS hv ⟨_,func18,by kernel_rfl,by kernel_rfl⟩ (λ_=>by kernel_rfl) (λ_=>by kernel_rfl) h
def qz:EP e18:=λh=>kP h
def t18:Dr vi eB (λ_=>I) 300 60 Bool 18 [] [] 0 (agE Uj)=Q G:=by kernel_rfl
def TN{P:Program}{f:FuncId}{xs:aa AV}{d:AV}(h:Iv.Fn P f xs [] (λa s=>a=d/\s=[]))(ha:∀ρ:Gh,xs.map (cn.sub ρ)=xs)(hd:∀ρ:Gh,d.sub ρ=d):Tg P f xs [] 0 ⟨d,[],0⟩:=λρ=>by
 rw[ha ρ];exact h.mono λa s ⟨h1,h2⟩=>⟨ρ,λ_ _=>⟨rfl,rfl⟩,by rw[h1];exact(hd ρ).symm,by rw[h2];exact List.Perm.refl _⟩
def anD:ku vi 18 0 (d18.pat m18)=⟨.b G,[],0⟩:=by kernel_rfl
def auo:asD:=λg b hb=>by
 cases hb;rw[anD];exact TN (amG (LH (P:=vi) (aY (P:=vi)).ok (aY (P:=vi)).nat 300 60) P0.b rfl (λd hd=>by cases hd) t18).2 (λ_=>rfl) (λρ=>j8 2 (by kernel_rfl))
def F19:bw:=(e78 (e53 (e24 eB)))
abbrev E19:=Bool
def d19:Td 0 E19:= .c [] [6] (.r 0 0 (ec 6 qb en) sn (λz=>z.1.1) (λx=>((x,()),(()))))
def avU:∀f∈([24,53,78]:aa Nat),bA (F19) f:=(aB (lN (pn (j7 bK))) (aB (lN (pn (j7 bK))) (aB (lN (pn (j7 bK))) aI)))
def m19(a0:aQ)(a1:cz)(a2:aa aH):ah E19:=
 match bif O ((a1.aR.length:Int)<=20)then bif O ((a2.length:Int)<=20)then match m53 a0 70 300with|V=>V|Q r1=>bif r1 then match m78 a0 with|V=>V|Q r2=>bif bif O (r2=0)then I else G then Q G else match m24 a0 4096 4096 256with|V=>V|Q r3=>Q (r3)else Q I else Q I else Q I with|V=>V|Q r4=>Q (r4)
def e19:=eL vi 19 I (lc (qg 26) (lc (qg 29) (lc (ql 34) ln))) d19 (λg=>m19 g.1 g.2.1 g.t.1)
def ai1:EO e19:=λh=>kL (F:=F19) (an:=(noTwo (.two (.rb [24,53,78] 6) .no))) (l:=[(.skip,(.rb [24,53,78] 6))]) func19 (IK (Zf (YI aY))) (aB avU aI) h
def qF:EP e19:=λh=>kP h
structure SN where
 (t0 t1:List aH)
 (t12 t13:Int)
def asu(p:SN):ah (ah SN):=
 bif O (p.t13<p.t12)then if 0<=p.t13/\p.t13<p.t0.length then if 0<=p.t13/\p.t13<p.t1.length then bif bif bif O (p.t0[p.t13.toNat]!.ag=p.t1[p.t13.toNat]!.ag)then bif O (p.t0[p.t13.toNat]!.af=p.t1[p.t13.toNat]!.af)then bif O (p.t0[p.t13.toNat]!.aj=p.t1[p.t13.toNat]!.aj)then G else I else I else I then I else G then Q (V)else Q (Q (SN.mk p.t0 p.t1 p.t12 (i64.wrap (p.t13+1))))else V else V else Q (V)
def apV:=bJ (asu)
abbrev E64:=Bool
def m64(a0:aa aH)(a1:aa aH):ah E64:=
 bif bif O ((a0.length:Int)=(a1.length:Int))then I else G then Q I else match apV (SN.mk a0 a1 a0.length 0)with|V=>V|Q r1=>bif O (r1.t13<r1.t12)then if 0<=r1.t13/\r1.t13<r1.t0.length then if 0<=r1.t13/\r1.t13<r1.t1.length then bif bif bif O (r1.t0[r1.t13.toNat]!.ag=r1.t1[r1.t13.toNat]!.ag)then bif O (r1.t0[r1.t13.toNat]!.af=r1.t1[r1.t13.toNat]!.af)then bif O (r1.t0[r1.t13.toNat]!.aj=r1.t1[r1.t13.toNat]!.aj)then G else I else I else I then I else G then Q I else V else V else V else Q G
abbrev E22:=Bool
def m22(a0:bh)(a1:bh):ah E22:=
 match bif bif O (a0.aC.ag=a1.aC.ag)then bif O (a0.aC.af=a1.aC.af)then bif O (a0.aC.aj=a1.aC.aj)then G else I else I else I then bif bif O (a0.aF.ag=a1.aF.ag)then bif O (a0.aF.af=a1.aF.af)then bif O (a0.aF.aj=a1.aF.aj)then G else I else I else I then match m64 a0.aA a1.aA with|V=>V|Q r1=>bif r1 then match m64 a0.jq a1.jq with|V=>V|Q r2=>Q (r2)else Q (I)else Q (I)else Q (I)with|V=>V|Q r3=>Q (r3)
abbrev E3:=Bool
def d3:Td 0 E3:= .c [] [6] (.r 0 0 (ec 6 qb en) sn (λz=>z.1.1) (λx=>((x,()),(()))))
def A3:=(lc (qg 26) (lc (qg 29) (lc (ql 34) ln)))
def m3(a0:aQ)(a1:cz)(a2:aa aH):ah E3:=
 bif bif m18 then I else G then Q (I)else match m19 a0 a1 a2 with|V=>V|Q r1=>bif bif r1 then I else G then Q (G)else match ZM a0 a1 a2 with|V=>V|Q r2=>match m21 a0 a1 a2 with|V=>V|Q r3=>bif bif O (r3=0)then I else G then bif O (r2.snd=r3)then match m22 r2.fst (bh.mk (aH.mk (0) (0) (0)) [] (aH.mk (0) (0) (0)) [])with|V=>V|Q r4=>Q (r4)else Q (I)else bif O (r2.snd=0)then match m23 a0 a1 a2 with|V=>V|Q r5=>match m22 r2.fst r5 with|V=>V|Q r6=>Q (r6)else Q (I)
abbrev E6:=Bool
def d6:Td 0 E6:= .c [] [6] (.r 0 0 (ec 6 qb en) sn (λz=>z.1.1) (λx=>((x,()),(()))))
def Qx{f:aQ}(h:TG f 70 300=G):fP f.bI+jH (f.ak.map (·.az))<=300/\f.ak.length<=70/\f.ai.length<=70:=by
 unfold TG at h;rw[decide_eq_true_eq]at h;omega
def as3(f:aQ)(v:cz)(box:aa aH):∃r,m19 f v box=Q r/\(r=G->TG f 70 300=G/\box.length<=20/\(uZ f=0->TG f 10 80=G)):=by
 unfold m19;by_cases h1:(v.aR.length:Int)<=20
 case neg=>rw[bP h1];exact⟨false,rfl,λh=>by cases h⟩
 by_cases h2:(box.length:Int)<=20
 case neg=>rw[bQ h1,bP h2];exact⟨false,rfl,λh=>by cases h⟩
 rw[bQ h1,bQ h2,ZC f 70 300 (by decide) (by decide) (by decide) (by decide)];cases hf:TG f 70 300 with
 |false=>exact⟨false,rfl,λh=>by cases h⟩
 |true=>
  obtain⟨q1,q2,q3⟩:=Qx hf;rw[Hx f (by omega) (by omega) (by omega)];by_cases hc:uZ f=0
  ·obtain⟨r,e,hr⟩:=Wq f 4096 4096 256;rw[e];simp only[hc,cX,bC,bz];exact⟨r,rfl,λh=>⟨trivial,by omega,λ_=>(hr h).1⟩⟩
  ·simp only[hc,fW,bC,bz];exact⟨G,rfl,λ_=>⟨trivial,by omega,λk=>by first|exact cR k hc|exact k.elim⟩⟩
def Ks{a:aH}(h:NN a):bW a<=a.af-a.ag+1:=by
 rw[uP h];have:=h.le;split
 ·omega
 ·have:=yg a.aj (show 0<=a.af-a.ag by omega);omega
def CR{a:aH}(h:NN a):1<=bW a/\bW a<=2199023255553:=by
 have h1:=size_pos h;have h2:=Ks h;obtain⟨a1,a2⟩:=h.oV;obtain⟨a3,a4⟩:=h.vK;exact⟨h1,by omega⟩
def Kh{a b:Int}(h1:1<=a)(h2:a<=2199023255553)(h3:1<=b)(h4:b<=2199023255553):m93 a b=Q (min (a*b) 1099511627776):=by
 have hd:(1099511627776:Int).tdiv b=1099511627776/b:=Int.tdiv_eq_ediv_of_nonneg (by omega);have q0:0<=(1099511627776:Int)/b:=zX (by omega) (by omega);have q1:(1099511627776:Int)/b<=1099511627776:=yg _ (by omega);have iff:(1099511627776:Int)/b<a↔1099511627776<a*b:=Int.ediv_lt_iff_lt_mul (by omega);have p0:0<=a*b:=zB (by omega) (by omega);unfold m93;rw[bQ (show 0<b by omega),bC,bt (show ¬@Eq Int b 0 by omega),hd,aG];dsimp only;by_cases c:1099511627776<a*b
 ·rw[bQ (iff.mpr c),bC,show min (a*b) 1099511627776=1099511627776 by omega]
 ·rw[bP (λk=>c (iff.mp k)),bz,aG,show min (a*b) 1099511627776=a*b by omega]
def eO:aa aH->Int
 |[]=>1
 |x::l=>bW x*eO l
def cH:aa aS->Int
 |[]=>1
 |x::l=>(x.af-x.ag+1)*cH l
def tS:∀(a b:aa aH),eO (a++b)=eO a*eO b
 |[],b=>by rw[ym,eO,zU]
 |x::a,b=>by rw[xE,eO,eO,tS a b,zS]
def rK:∀(a b:aa aS),cH (a++b)=cH a*cH b
 |[],b=>by rw[ym,cH,zU]
 |x::a,b=>by rw[xE,cH,cH,rK a b,zS]
def kg:∀{l:aa aH},(∀x∈l,NN x)->1<=eO l
 |[],_=>by rw[eO];decide
 |x::l,h=>by
  rw[eO];have h1:=size_pos (h x (zo ..));have h2:=kg (λy hy=>h y (zH _ hy));have:=y4 h1 h2 (by omega) (by omega);omega
def Lc:∀{l:aa aH},(∀x∈l,NN x)->eO l=1->∀x∈l,bW x=1
 |[],_,_,_,h=>by cases h
 |y::l,h,e,x,hx=>by
  rw[eO]at e;have h1:=size_pos (h y (zo ..));have h2:=kg (λz hz=>h z (zH _ hz));have k1:=xW h2 (show 0<=bW y by omega);have k2:=zM h1 (show 0<=eO l by omega);rcases zF.1 hx with rfl|hx
  ·omega
  ·exact Lc (λz hz=>h z (zH _ hz)) (by omega) x hx
def Gz{l:aa aH}(h:∀x∈l,NN x)(i:Nat):1<=eO (l.take i)/\eO (l.take i)<=eO l:=by
 have h1:=kg (l:=l.take i) (λx hx=>h x (wq hx));have h2:=kg (l:=l.drop i) (λx hx=>h x (xS hx));have e:eO l=eO (l.take i)*eO (l.drop i):=by rw[<-tS,xj]
 have:=xW h2 (show 0<=eO (l.take i)by omega);exact⟨h1,by rw[e];omega⟩
def SQ:∀{l:aa aH} {L:aa aS},l.length=L.length->(∀j,j<l.length->NN l[j]!/\L[j]!.ag<=l[j]!.ag/\l[j]!.af<=L[j]!.af)->eO l<=cH L
 |[],[],_,_=>zm _
 |[],y::L,h,_=>by simp at h
 |x::l,[],h,_=>by simp at h
 |x::l,y::L,h,k=>by
  rw[eO,cH];have hN:∀z∈l,NN z:=λz hz=>by
   obtain⟨i,hi,e⟩:=xd.1 hz;have:=(k (i+1) (by simp;omega)).1;rw[show (x::l)[i+1]! =l[i]! from rfl,getElem!_pos l i hi,e]at this;exact this
  obtain⟨k1,k2,k3⟩:=k 0 (by simp);have k1:NN x:=k1;have k2:y.ag<=x.ag:=k2;have k3:x.af<=y.af:=k3;have h1:=size_pos k1;have h2:=Ks k1;have h3:=SQ (l:=l) (L:=L) (by simpa using h) (λj hj=>k (j+1) (by simp;omega));have h4:=kg hN;exact y4 (by omega) h3 (by omega) (by omega)
def mN(kind:Int):∀(l:aa aS) (n m:Int),sS kind l n=Q m->m=n*cH (l.filter (kd kind))
 |[],n,m,e=>by unfold sS at e;cases e;rw[xM,cH,yX]
 |v::vs,n,m,e=>by
  unfold sS at e;by_cases hk:v.bq=kind
  ·rw[bt hk]at e;split at e
   ·cases e
   ·have:=mN kind vs _ m e;rw[this,yO,bt (by simp[kd,hk]),cH,zS]
  ·rw[bF hk]at e;rw[mN kind vs n m e,yO,bF (by simp[kd,hk])]
def kV:∀{l:aa aS},(∀v∈l,v.ag<=v.af)->1<=cH l
 |[],_=>by rw[cH];decide
 |x::l,h=>by
  rw[cH];have h1:=h x (zo ..);have h2:=kV (λy hy=>h y (zH _ hy));have:=y4 (show 1<=x.af-x.ag+1 by omega) h2 (by omega) (by omega);omega
def Gd{f:aQ}(h:uZ f=0):s9 f.ai=G:=by
 unfold uZ at h;by_cases h1:qL f=I
 ·rw[bt h1]at h;exact cR h (by decide)
 rw[bF h1]at h;by_cases hvc:kH f.ai=0
 case neg=>rw[bt hvc]at h;exact cR h hvc
 unfold kH at hvc;by_cases h0:cG (mH f.ai) f.ai 0=0
 case neg=>rw[bt h0]at hvc;exact cR hvc h0
 rw[bF (by simpa using h0)]at hvc;cases hs:s9 f.ai with
 |true=>rfl
 |false=>rw[hs]at hvc;simp at hvc
def ady{f:aQ}(h:uZ f=0):cH (gC f.ai)<=1048576:=by
 have hv:=pG h;have hs:=Gd h;unfold s9 at hs;simp only[zn]at hs;obtain⟨⟨h1,_⟩,h3⟩:=hs;obtain⟨a,e1⟩:=vh.1 h1;cases e3:sS 3 f.ai 1 with
 |none=>rw[e3]at h3;cases h3
 |some b=>
  rw[e3]at h3;have h3:b<=256:=by simpa using h3
  have ha:=sJ 1 f.ai 1 a (by decide) e1;have p1:=mN 1 f.ai 1 a e1;have p3:=mN 3 f.ai 1 b e3;rw[zU]at p1 p3;have q1:=kV (l:=f.ai.filter (kd 1)) (λv hv'=>(hv v (zY.1 hv').1).2.1);have q3:=kV (l:=f.ai.filter (kd 3)) (λv hv'=>(hv v (zY.1 hv').1).2.1);unfold gC;rw[rK,<-p1,<-p3];rw[<-p1]at q1;rw[<-p3]at q3;have:=y4 ha h3 (by omega) (by omega);omega
def Fits.nn{f:aQ}{v:cz}{box:aa aH}(h:Fits f v box):∀x∈box,NN x:=λx hx=>by
 obtain⟨i,hi,e⟩:=xd.1 hx;have:=(h.bx i hi).1;rw[getElem!_pos box i hi,e]at this;exact this
def Fits.vol{f:aQ}{v:cz}{box:aa aH}(h:Fits f v box):1<=eO box/\eO box<=1048576:=⟨kg h.nn,y7 (SQ h.bl h.bx) (ady h.c)⟩
def lV(l:aa aH):Bool:=l.all λx=>O (bW x=1)
def Qb(r:bh):Bool:=(O (bW r.aC=1)&&O (bW r.aF=1))&&lV r.aA
def TB(r:bh):aL:=⟨r.aA.map (·.ag),r.aF.ag⟩
structure J6 (r:bh):Prop where
 count:NN r.aC
 time:NN r.aF
 sl:r.aA.length<=8
 slots:∀i,i<r.aA.length->NN r.aA[i]!
def J2{l:aa aH}{i:Nat}(h:i<l.length):lV (l.take (i+1))=(lV (l.take i)&&O (bW l[i]! =1)):=by
 unfold lV;rw[bO h,List.all_append];simp
def ae2{r:bh}(h:J6 r)(b:Bool)(t:Int):RE ⟨b,r.aA,(r.aA.length:Int),0,⟨[],0⟩,⟨[],t⟩⟩=Q ⟨b&&lV r.aA,r.aA,(r.aA.length:Int),(r.aA.length:Int),⟨[],0⟩,⟨r.aA.map (·.ag),t⟩⟩:=by
 have hs:=h.sl;obtain⟨_,e1,_⟩:=dD (cL:=Th) r.aA.length (λi (_:Unit)=>⟨b&&lV (r.aA.take i),r.aA,(r.aA.length:Int),(i:Int),⟨[],0⟩,⟨(r.aA.take i).map (·.ag),t⟩⟩) (λi _=>True) (λi _ hi _=>by
  have hw:=gH hi (by omega);have i1:(i:Int)<(r.aA.length:Int):=by omega
  have i2:(0:Int)<=(i:Int):=by omega
  have hl2:∀x:Int,((r.aA.take i).map (·.ag)++[x]).length<=1073741824:=λx=>by simp;omega
  refine⟨(),?_,trivial⟩;rw[J2 hi,bO hi,yo];unfold Th;cases hb:(b&&lV (r.aA.take i))with
  |false=>
   rw[<-Bool.and_assoc,hb];simp only[zi,i1,i2,hl2,cX,bC,bz,dZ,bZ,hw,Bool.false_and,yl,xw]
  |true=>
   rw[<-Bool.and_assoc,hb];simp only[zi,i1,i2,hl2,cX,bC,dZ,bZ,qK (.inr (h.slots i hi)),hw,wD,yl,xw]) (λb _=>by unfold Th;simp) (b:=()) trivial
 rw[zR]at e1;have:(b&&lV (r.aA.take 0))=b:=by simp[lV]
 rw[this]at e1;exact e1
def aqf{f:aQ}{v:cz}{box:aa aH}{r:bh}(e:ZM f v box=Q (r,0))(h:J6 r):m26 f v box=Q (if Qb r=G then(TB r,G,0)else(⟨[],0⟩,I,0)):=by
 unfold m26;rw[e];simp only[cX,bC,bz,qK (.inr h.count),qK (.inr h.time)];have ef:(bif O (@Eq Int (bW r.aC) 1)then some (O (@Eq Int (bW r.aF) 1))else some false)=some (O (bW r.aC=1)&&O (bW r.aF=1)):=by cases O (bW r.aC=1)<;>rfl
 rw[ef];dsimp only;rw[ae2 h];dsimp only;rw[fO,bz];unfold Qb TB;cases (O (bW r.aC=1)&&O (bW r.aF=1))&&lV r.aA<;>rfl
def lB(r:bh)(M:Int):Nat->Int×Int
 |0=>(0,min (bW r.aF) M)
 |k+1=>(if cu r.aC (k:Nat)=G then min ((lB r M k).1+(lB r M k).2) M else(lB r M k).1,if k<r.aA.length then min ((lB r M k).2*bW r.aA[k]!) M else(lB r M k).2)
def EL{r:bh}(h:J6 r){M:Int}(hM:1<=M):∀k,0<=(lB r M k).1/\(lB r M k).1<=M/\1<=(lB r M k).2/\(lB r M k).2<=M
 |0=>by
  have:=size_pos h.time;simp only[lB];omega
 |k+1=>by
  obtain⟨h1,h2,h3,h4⟩:=EL h hM k;simp only[lB];refine⟨?_,?_,?_,?_⟩
  ·split<;>omega
  ·split<;>omega
  ·split
   ·rename_i c;have:=size_pos (h.slots k c);have:=y4 h3 this (by omega) (by omega);omega
   ·omega
  ·split<;>omega
def Xx{P s zg:Int}(hs:1<=s)(hP:1<=P)(hV:1<=zg):min (P*min s zg) zg=min (P*s) zg:=by
 by_cases c:s<=zg
 ·rw[show min s zg=s by omega]
 ·rw[show min s zg=zg by omega];have k1:=zM hP (show 0<=zg by omega);have k2:=zM hP (show 0<=s by omega);omega
def Cc(r:bh):Nat->Int×Int
 |0=>(0,bW r.aF)
 |k+1=>(if cu r.aC (k:Nat)=G then min ((Cc r k).1+(Cc r k).2) 1099511627776 else(Cc r k).1,if k<r.aA.length then min ((Cc r k).2*bW r.aA[k]!) 1099511627776 else(Cc r k).2)
def Nt{r:bh}(h:J6 r):∀k,0<=(Cc r k).1/\(Cc r k).1<=1099511627776/\1<=(Cc r k).2/\(Cc r k).2<=2199023255553
 |0=>by
  have:=CR h.time;simp only[Cc];omega
 |k+1=>by
  obtain⟨h1,h2,h3,h4⟩:=Nt h k;simp only[Cc];refine⟨?_,?_,?_,?_⟩
  ·split<;>omega
  ·split<;>omega
  ·split
   ·rename_i c;have:=size_pos (h.slots k c);have:=y4 h3 this (by omega) (by omega);omega
   ·omega
  ·split<;>omega
def Sy{r:bh}(h:J6 r){zg:Int}(hV:1<=zg)(hM:zg<=1099511627776):∀k,(lB r zg k).1=min (Cc r k).1 zg/\(lB r zg k).2=min (Cc r k).2 zg
 |0=>by
  refine⟨?_,rfl⟩;show (0:Int)=min 0 zg;omega
 |k+1=>by
  obtain⟨h1,h2⟩:=Sy h hV hM k;obtain⟨b1,b2,b3,b4⟩:=Nt h k;simp only[lB,Cc];refine⟨?_,?_⟩
  ·split
   ·rw[h1,h2];omega
   ·exact h1
  ·split
   ·rename_i c;have hs:=size_pos (h.slots k c);rw[h2];generalize (Cc r k).2=P at*;generalize bW r.aA[k]! =s at*;by_cases c2:P<=zg
    ·rw[show min P zg=P by omega];omega
    ·rw[show min P zg=zg by omega];have k1:=xW hs (show 0<=zg by omega);have k2:=xW hs (show 0<=P by omega);omega
   ·exact h2
def OO(a b:Int):(if b<a then b else a)=min a b:=by split<;>omega
def acE{r:bh}(h:J6 r)(box:aa aH):Qi ⟨box,0,bW r.aF,((r.aA.length+1:Nat):Int),0,r⟩=Q ⟨box,(Cc r (r.aA.length+1)).1,(Cc r (r.aA.length+1)).2,((r.aA.length+1:Nat):Int),((r.aA.length+1:Nat):Int),r⟩:=by
 have hs:=h.sl;obtain⟨_,e1,_⟩:=dD (cL:=Q9) (r.aA.length+1) (λi (_:Unit)=>⟨box,(Cc r i).1,(Cc r i).2,((r.aA.length+1:Nat):Int),(i:Int),r⟩) (λi _=>True) (λi _ hi _=>by
  have hw:i64.wrap ((i:Int)+1)=((i+1:Nat):Int):=by rw[aG];omega
  have i1:(i:Int)<((r.aA.length+1:Nat):Int):=by omega
  have i2:(0:Int)<=(i:Int):=by omega
  obtain⟨b1,b2,b3,b4⟩:=Nt h i;have ws:i64.wrap ((Cc r i).1+(Cc r i).2)=(Cc r i).1+(Cc r i).2:=aG;refine⟨(),?_,trivial⟩;unfold Q9;simp only[Cc];by_cases c:i<r.aA.length
  ·have c1:(i:Int)<(r.aA.length:Int):=by omega
   have hz:=CR (h.slots i c);have et:=Kh b3 b4 hz.1 hz.2;cases hc:cu r.aC (i:Nat)with
   |true=>simp only[zi,i1,i2,c,c1,cX,bC,dZ,bZ,lD (.inr h.count),hc,qK (.inr (h.slots i c)),et,ws,OO,hw]
   |false=>simp only[zi,i1,i2,c,c1,cX,bC,bz,dZ,bZ,lD (.inr h.count),hc,qK (.inr (h.slots i c)),et,hw,yS,dA]
  ·have c1:¬(i:Int)<(r.aA.length:Int):=by omega
   cases hc:cu r.aC (i:Nat)with
   |true=>simp only[i1,c,c1,cX,fW,bC,bz,bZ,dA,lD (.inr h.count),hc,ws,OO,hw]
   |false=>simp only[i1,c,c1,cX,fW,bC,bz,dA,lD (.inr h.count),hc,hw,yS]) (λb _=>by unfold Q9;simp) (b:=()) trivial
 exact e1
def adp{box:aa aH}(h:∀x∈box,NN x)(hl:box.length<=1000000)(hv:eO box<=1048576)(s:Int):Rt ⟨s,1,box,(box.length:Int),0⟩=Q ⟨s,eO box,box,(box.length:Int),(box.length:Int)⟩:=by
 obtain⟨_,e1,_⟩:=dD (cL:=Sv) box.length (λi (_:Unit)=>⟨s,eO (box.take i),box,(box.length:Int),(i:Int)⟩) (λi _=>True) (λi b hi _=>by
  have hw:=gH hi hl;have i1:(i:Int)<(box.length:Int):=by omega
  have i2:(0:Int)<=(i:Int):=by omega
  obtain⟨t1,t2⟩:=Gz h (i+1);obtain⟨u1,u2⟩:=Gz h i;have hz:=CR (h _ (aV hi));have e:eO (box.take (i+1))=eO (box.take i)*bW box[i]! :=by
   rw[bO hi,tS,eO,eO,yX]
  have et:=Kh (a:=eO (box.take i)) (by omega) (by omega) hz.1 hz.2;rw[show min (eO (box.take i)*bW box[i]!) 1099511627776=eO (box.take i)*bW box[i]! by rw[<-e];omega]at et;refine⟨(),?_,trivial⟩;rw[e];unfold Sv;simp only[zi,i1,i2,cX,bC,dZ,bZ,qK (.inr (h _ (aV hi))),et,hw]) (λb _=>by unfold Sv;simp) (b:=()) trivial
 rw[zR]at e1;exact e1
def Ny(r:bh)(zg:Int):Int:=(lB r zg (r.aA.length+1)).1
def aqE{f:aQ}{v:cz}{box:aa aH}{r:bh}(e:ZM f v box=Q (r,0))(h:J6 r)(hb:∀x∈box,NN x)(hl:box.length<=1000000)(hv:eO box<=1048576):m25 f v box=Q (Ny r (eO box),0):=by
 have hs:=h.sl;have hp:=kg hb;have wl:i64.wrap ((r.aA.length:Int)+1)=((r.aA.length+1:Nat):Int):=by rw[aG];omega
 unfold m25;rw[e];simp only[cX,bC,bz,qK (.inr h.time),wl];rw[acE h box];dsimp only;rw[fO,bz,adp hb hl hv];dsimp only;rw[fO,bz];unfold Ny;rw[(Sy h hp (by omega) _).1,OO]
structure CI (s:au):Prop where
 lo:0<=s.aC.ag
 hi:s.aC.af=s.aA.length
def Tu{a:aH}(h:NN a)(hu:a.af<=1000000000):(iq 8 a (dN 1)).ag=a.ag+1/\(iq 8 a (dN 1)).af=a.af+1:=by
 have hb:NN (dN 1):=jy ⟨by decide,by decide⟩;have hl:=h.lo;rcases fl (op:=8) (.inl rfl) h hb (λzh k=>lU h hb k) (λk=>(jQ h hb).mpr ⟨dw k (.inl rfl) (.inl rfl),dw k (.inr (.inr rfl)) (.inr (.inr rfl))⟩)with ⟨_,e,_⟩|⟨hn,_⟩
 ·unfold iq;rw[e];exact⟨rfl,rfl⟩
 ·refine cR (λy ⟨x,z,⟨x1,x2,_⟩,⟨z1,z2,_⟩,e⟩=> ?_) hn;have z1:(1:Int)<=z:=z1;have z2:z<=1:=z2;have e:y=x+z:=e;unfold bX;omega
def rL{s:au}(h:CI s)(c:Int):CI (ij s c):=⟨h.lo,h.hi⟩
def Co{f:aQ}{s:au}(h:CI s)(v:Int)(x:aH):CI (Hl f s v x):=⟨h.lo,h.hi⟩
def QB{n m:Nat}{s:au}(k:dW n m s)(h:CI s)(hm:m<=1000000)(x:aH):CI (AZ s x):=by
 have hs:=k.sl;have hh:=h.hi;have hl:=h.lo;obtain⟨e1,e2⟩:=Tu k.count (by omega);refine⟨?_,?_⟩
 ·show 0<=(iq 8 s.aC (dN 1)).ag;omega
 ·show (iq 8 s.aC (dN 1)).af=((iT _ _++[x]:aa aH).length:Int);rw[e2,zq,dR,yL];omega
def CU{n m:Nat}{s t:au}(k:dW n m s)(k':dW n m t)(h:CI s)(h':CI t):CI (iC s t):=by
 have h1:=h.lo;have h2:=h.hi;have h3:=h'.lo;have h4:=h'.hi;refine⟨?_,?_⟩
 ·show 0<=(cc s.aC t.aC).ag;rw[cI k.count k'.count];show 0<=min s.aC.ag t.aC.ag;omega
 ·show (cc s.aC t.aC).af=((iT _ _:aa aH).length:Int);rw[cI k.count k'.count,dR];show max s.aC.af t.aC.af=_;omega
def JQ{n m:Nat}:∀(l:aa au) (x:au),dW n m x->CI x->(∀q∈l,dW n m q/\CI q)->CI (l.foldl iC x)
 |[],x,_,hx,_=>hx
 |y::l,x,kx,hx,hl=>by
  obtain⟨ky,hy⟩:=hl y (zo ..);exact JQ l (iC x y) (pe kx ky) (CU kx ky hx hy) (λq hq=>hl q (zH _ hq))
def TA{n m:Nat}{l:aa au}(h0:l≠[])(h:∀q∈l,dW n m q/\CI q):CI (nY l):=by
 cases l with
 |nil=>exact cR rfl h0
 |cons x l=>
  obtain⟨kx,hx⟩:=h x (zo ..);exact JQ l x kx hx (λq hq=>h q (zH _ hq))
def SR{vars:aa aS}{a:au->au}{t:ax}{c:Int}{o:Nat}(hc:bX c)(ha:∀s m,dW vars.length m s->dW vars.length (m+o) (a s)):∀(N:Nat) (s:au) (m:Nat),dW vars.length m s->CI s->m+N*o<=1000000->
  (∀s m,dW vars.length m s->CI s->m+o<=1000000->CI (a s))->∀q∈jv a t c N s,CI q
 |0,s,m,_,h,_,_=>by
  rw[jv];intro q hq;rw[zD.1 hq];exact h
 |n+1,s,m,k,h,hm,hb=>by
  rw[jv];rw[yd,xA]at hm;have k1:=jZ k hc;intro q hq;rcases zV.1 hq with hq|hq
  ·split at hq
   ·rw[zD.1 hq];exact rL h c
   ·cases hq
  ·split at hq
   ·exact SR hc ha n _ (m+o) (ha _ _ k1) (hb _ _ k1 (rL h c) (by omega)) (by omega) hb q hq
   ·cases hq
def L8{f:aQ}{hv:aa aH}{a b:au->au}{last:Bool}{x:ay}(hx:CT f last x)
  (p1:0<=(cC x.aD).2.1) (p2:0<=(cC x.aJ).2.1)
  (ha:∀s m,dW f.ai.length m s->dW f.ai.length (m+cv x.aD) (a s)) (hb:∀s m,dW f.ai.length m s->dW f.ai.length (m+cv x.aJ) (b s))
  (ca:∀s m,dW f.ai.length m s->CI s->m+cv x.aD<=1000000->CI (a s)) (cb:∀s m,dW f.ai.length m s->CI s->m+cv x.aJ<=1000000->CI (b s))
  {s:au} {m:Nat} (k:dW f.ai.length m s) (h:CI s) (hm:m+(uO x).1.toNat<=1000000):CI (l8 f hv a b x s):=by
 have hc:=m6 hx;have k1:=jZ k hc;have h1:=rL h x.aN;revert hm;unfold l8 uO;by_cases a4:x.bN=4
 ·simp only[a4,Int.reduceEq,bZ,dA];intro hm;have hn:=hx.n4 a4;have e:(x.fN*(cC x.aD).2.1).toNat=x.fN.toNat*cv x.aD:=by rw[cv,wG hn.1 p1]
  rw[e]at hm;obtain⟨i1,i2⟩:=uX hc hx.term ha x.fN.toNat s m k;exact TA i2 (λq hq=>⟨i1 q hq,SR hc ha x.fN.toNat s m k h hm ca q hq⟩)
 by_cases a0:x.bN=0
 ·simp only[a0,Int.reduceEq,bZ,dA];exact λ_=>Co h1 _ _
 by_cases a1:x.bN=1
 ·simp only[a1,Int.reduceEq,bZ,dA];exact λhm=>QB k1 h1 (by omega) _
 by_cases a5:x.bN=5
 ·simp only[a5,Int.reduceEq,bZ,dA];exact λ_=>Co h1 _ _
 by_cases a3:x.bN=3
 ·simp only[a3,Int.reduceEq,bZ,dA];intro hm;have hm1:m+cv x.aD<=1000000:=by unfold cv;omega
  have hm2:m+cv x.aJ<=1000000:=by unfold cv;omega
  unfold XM;split
  ·exact ca _ _ k1 h1 hm1
  split
  ·exact cb _ _ k1 h1 hm2
  ·exact CU ((ha _ _ k1).weak (show m+cv x.aD<=m+max (cv x.aD) (cv x.aJ)by omega)) ((hb _ _ k1).weak (show m+cv x.aJ<=m+max (cv x.aD) (cv x.aJ)by omega)) (ca _ _ k1 h1 hm1) (cb _ _ k1 h1 hm2)
 by_cases a6:x.bN=6
 ·simp only[a6,Int.reduceEq,bZ,dA];exact λ_=>⟨h.lo,h.hi⟩
 ·simp only[a0,a1,a3,a4,a5,a6,dA];exact λ_=>h1
def rC{f:aQ}{hv:aa aH}(hh:hv.length=f.ak.length)(hvn:∀i,i<hv.length->NN hv[i]!):∀(n:Nat) (l:aa ay) (top:Bool),zk l<n->b9 f top l=0->∀(s:au) (m:Nat),dW f.ai.length m s->CI s->m+cv l<=1000000->CI (jg f hv l s)
 |0,_,_,h,_,_,_,_,_,_=>by omega
 |n+1,[],_,_,_,s,m,_,h,_=>by rw[lW];exact h
 |n+1,x::l,top,hn,hc,s,m,k,h,hm=>by
  obtain⟨h1,h2,h3,h4⟩:=dH hc;have ho:=jB h1;have hsz:=aX (zo (a:=x) (l:=l));have ht:=dc x l;have p1:=(dx f n x.aD I (by omega) h2).1;have p2:=(dx f n x.aJ I (by omega) h3).1;rw[kZ hc]at hm;rw[k8];have aT:=gE hh hvn n x.aD I (by omega) h2;have aE:=gE hh hvn n x.aJ I (by omega) h3;have i1:=uo hh hvn ho p1 p2 aT aE k;have i2:=L8 (hv:=hv) ho p1 p2 aT aE (rC hh hvn n x.aD I (by omega) h2) (rC hh hvn n x.aJ I (by omega) h3) k h (by omega);exact rC hh hvn n l top (by omega) h4 _ _ i1 i2 (by omega)
def qY(a:aH):Prop:=a.ag=a.af
def cS.sg{P:Int->Prop}{c:aH}(h:cS P c)(k:∀x y,P x->P y->x=y):qY c:=k _ _ h.lo h.hi
def jP{a:aH}(s:qY a){x:Int}(h:bk a x):x=a.ag:=by
 have h1:=h.1;have h2:=h.2.1;unfold qY at s;omega
def Iw{a:aH}(h:NN a)(s:qY a):cnt a=1:=by
 have:=(eN h).mpr s;have e:=fQ h;omega
def Ik(op:Int){a b:aH}(ha:NN a)(hb:NN b)(sa:qY a)(sb:qY b):qY (iq op a b):=by
 unfold iq;by_cases ho:binop op
 ·rw[jJ ho ha hb (by rw[Iw ha sa,Iw hb sb];decide)];rcases ri ho ha hb (by rw[Iw ha sa,Iw hb sb];decide)with ⟨_,c,e,h2⟩|⟨_,e⟩
  ·rw[e];refine h2.sg λx y hx hy=> ?_;obtain⟨p,q,hp,hq,rfl⟩:=hx;obtain⟨p',q',hp',hq',rfl⟩:=hy;rw[jP sa hp,jP sa hp',jP sb hq,jP sb hq']
  ·rw[e];exact(rfl:(0:Int)=0)
 ·have e:nr op a b=Q (aH.mk 0 0 0,1):=by
   unfold nr;rw[fU,fU,ew (.inr ha),ew (.inr hb),show Ke op=AN op from rfl,ju,bP ho];rfl
  rw[e];exact(rfl:(0:Int)=0)
def uy{a:aH}(h:NN a)(s:qY a):(cu a 0=G/\cl a=I)\/(cu a 0=I/\cl a=G):=by
 have hz:=zero_or h;cases h0:cu a 0 with
 |false=>rw[h0,Bool.or_false]at hz;exact .inr ⟨rfl,hz⟩
 |true=>
  refine .inl ⟨rfl,?_⟩;have e0:=jP s (gL.mp h0);cases ho:cl a with
  |false=>rfl
  |true=>
   obtain⟨x,hx,hne⟩:=(fR (.inr h)).mp ho;exact cR ((jP s hx).trans e0.symm) hne
def Ga(op:Int){a:aH}(h:NN a)(s:qY a):qY (kz op a).1:=by
 unfold kz;split
 ·exact(rfl:(0:Int)=0)
 rw[bF h.ne];split
 ·rcases uy h s with ⟨e1,e2⟩|⟨e1,e2⟩<;>rw[e1,e2]
  ·exact(rfl:(1:Int)=1)
  ·exact(rfl:(0:Int)=0)
 ·unfold qY at s;show-a.af= -a.ag;omega
def vZ{a:aH}(h:NN a)(s:qY a)(lo hi:Int):qY (fT a lo hi):=by
 rcases Dy (.inr h) lo hi with ⟨c,_,e2,hr,v,_⟩|⟨_,e2,_⟩
 ·obtain⟨_,_,e3,k,_⟩:=iu h lo hi;have e4:fT a lo hi=c:=by rw[e2]at e3;cases e3;rfl
  rw[e4]at k ⊢;rcases hr with ⟨e,_⟩|hr
  ·exact cR e k.ne
  ·refine hr.sg λx y hx hy=> ?_;obtain⟨p,hp,rfl⟩:=hx;obtain⟨q,hq,rfl⟩:=hy;rw[jP s hp,jP s hq]
 ·unfold fT;rw[e2];exact(rfl:(0:Int)=0)
def OF{a:aH}(h:NN a)(s:qY a){l:aa Int}(hr:fC l=G)(hn:l.length<=1000000)(hl:∀b∈l,bX b):qY (nE a l):=by
 obtain⟨_,_,k,hr⟩:=n9 h hr hn hl;rcases hr with ⟨e,_⟩|hr
 ·exact cR e k.ne
 ·refine hr.sg λx y hx hy=> ?_;obtain⟨p,hp,rfl⟩:=hx;obtain⟨q,hq,rfl⟩:=hy;rw[jP s hp,jP s hq]
def Sa{H:aH}(s:qY H){ks:aa aH}{j:Nat}(hj:cu H (j:Nat)=G):∀n,nH H ks n=if j<n then ks[j]! else cy
 |0=>by rw[nH,iB]
 |n+1=>by
  have e0:=jP s (gL.mp hj);rw[nH,Sa s hj n];by_cases c:cu H (n:Nat)=G
  ·have e1:=jP s (gL.mp c);have:j=n:=by omega
   subst this;rw[bt c,iB,gK,gG]
  ·rw[bF c];have:j≠n:=λe=>c (e▸hj);by_cases h:j<n
   ·rw[bt h,gG]
   ·rw[bF h,iB]
structure SG (s:au):Prop where
 vars:∀i,i<s.ai.length->qY s.ai[i]!
 count:qY s.aC
 slots:∀i,i<s.aA.length->qY s.aA[i]!
 time:qY s.aF
def RO{vars:aa aS}{inp:Bool}{m:Nat}{st:au}(hst:dW vars.length m st)(hs:SG st):∀(n:Nat) (t:ax),zk t<n->cZ vars inp t=G->(eH vars t).isSome=G->qY (cA st.ai t)
 |0,_,h,_,_=>by omega
 |n+1,t,hsz,hf,hr=>by
  obtain⟨⟨g1,g2,g3⟩,h24⟩:=BN hf;have K:∀i,i<t.aq.length->NN (cA st.ai t.aq[i]!)/\qY (cA st.ai t.aq[i]!):=λi hi=>by
   have hk:=aV hi;have:=ax.dU hk;exact⟨(AU hst n _ (by omega) (iI hf hk) (uI hr _ hk)).2,RO hst hs n _ (by omega) (iI hf hk) (uI hr _ hk)⟩
  rw[IB];unfold Ki;simp only[zL];rcases tU t.bf g1 with ⟨h,e⟩|⟨h,e⟩|⟨h,e⟩|⟨h,e⟩|⟨h,e⟩<;>rw[e]at g2 g3<;>dsimp only at g2 g3
  ·rcases h with h|h
   ·rw[bt h];exact(rfl:t.fN=t.fN)
   ·obtain⟨q1,q2⟩:=h24 h;have hl:=hst.len;rw[iB,bt h];exact hs.vars _ (by omega)
  ·obtain⟨k1,k2⟩:=K 0 (by omega);have m0:=mapA (vars:=st.ai) (show 0<t.aq.length by omega);rw[m0];rcases h with h|h
   ·simp only[h,Int.reduceEq,bZ,dA];exact Ga _ k1 k2
   ·simp only[h,Int.reduceEq,bZ,dA];exact Ga _ k1 k2
  ·obtain⟨k1,k2⟩:=K 0 (by omega);obtain⟨l1,l2⟩:=K 1 (by omega);rw[iB,iB,iB,iB,iB,iB,mapA (show 0<t.aq.length by omega),mapA (show 1<t.aq.length by omega)];exact Ik _ k1 l1 k2 l2
  ·obtain⟨k1,k2⟩:=K 0 (by omega);obtain⟨l1,l2⟩:=K 1 (by omega);obtain⟨p1,p2⟩:=K 2 (by omega);rw[mapA (show 0<t.aq.length by omega),mapA (show 1<t.aq.length by omega),mapA (show 2<t.aq.length by omega)];simp only[h,Int.reduceEq,bZ,dA];rcases uy k1 k2 with ⟨e1,e2⟩|⟨e1,e2⟩
   ·simp only[e1,e2,Bool.true_eq_false,bZ,dA];exact p2
   ·simp only[e1,bZ];exact l2
  ·obtain⟨k1,k2⟩:=K 0 (by omega);rw[mapA (show 0<t.aq.length by omega)];obtain⟨j,hj1,hj2⟩:=GG k1 (n:=t.aq.length-1) (by omega) (by omega);rw[show (((t.aq.length-1:Nat):Int)-1)=(t.aq.length:Int)-(2:Int)by omega]at hj2;simp only[h,Int.reduceEq,bZ,dA];rw[Sa (vZ k1 k2 _ _) hj2,bt (by simp;omega),getElem!_pos _ j (by simp;omega),xH,ye];have:=(K (1+j) (by omega)).2;rw[getElem!_pos t.aq (1+j) (by omega)]at this;exact this
def ER{vars:aa aS}{inp:Bool}{m:Nat}{st:au}(hst:dW vars.length m st)(hs:SG st){t:ax}(hc:eM vars inp t=0):qY (cA st.ai t):=RO hst hs _ t (zC _) (nW hc).1 (nW hc).2
def RB{n m:Nat}{s:au}(k:dW n m s)(h:SG s){c:Int}(hc:bX c):SG (ij s c):=⟨h.vars,h.count,h.slots,Ik 8 k.time (jy hc) h.time rfl⟩
def SA{f:aQ}{s:au}(h:SG s)(v:Int){x:aH}(hn:NN x)(hx:qY x):SG (Hl f s v x):=by
 refine⟨λi hi=> ?_,h.count,h.slots,h.time⟩;have hi:i<(s.ai.set v.toNat (fT x f.ai[v.toNat]!.ag f.ai[v.toNat]!.af)).length:=hi;rw[yc]at hi;show qY (s.ai.set _ _)[i]!;rw[getElem!_pos _ i (by rw[yc];omega),wF];split
 ·exact vZ hn hx _ _
 ·have:=h.vars i hi;rw[getElem!_pos _ i hi]at this;exact this
def adJ{n m:Nat}{s:au}(k:dW n m s)(h:SG s)(ci:CI s)(hm:m<=1000000){x:aH}(hx:qY x):SG (AZ s x):=by
 have hlen:(AZ s x).aA.length=s.aA.length+1:=by simp[AZ,dR]
 refine⟨h.vars,Ik 8 k.count (jy ⟨by decide,by decide⟩) h.count rfl,λi hi=> ?_,h.time⟩;rw[hlen]at hi;have hlt:=dR s.aA.length (λk=>if cu s.aC k=G then cc s.aA[k]! x else s.aA[k]!);show qY (iT s.aA.length (λk=>if cu s.aC k=G then cc s.aA[k]! x else s.aA[k]!)++[x])[i]!;by_cases c:i<s.aA.length
 ·have hg:=fK (g:=(λk=>if cu s.aC k=G then cc s.aA[k]! x else s.aA[k]!)) c;generalize iT s.aA.length (λk=>if cu s.aC k=G then cc s.aA[k]! x else s.aA[k]!)=T at*;rw[getElem!_pos _ i (by rw[zq];omega),xG (by omega),<-getElem!_pos T i (by omega),hg];have hno:¬cu s.aC (i:Nat)=G:=λe=>by
   have e1:=jP h.count (gL.mp e);have e2:=h.count;have e3:=ci.hi;unfold qY at e2;omega
  rw[bF hno];exact h.slots i c
 ·generalize iT s.aA.length (λk=>if cu s.aC k=G then cc s.aA[k]! x else s.aA[k]!)=T at*;rw[getElem!_pos _ i (by rw[zq,yL];omega),xm (by omega)];simpa using hx
def Rj{vars:aa aS}{a:au->au}{t:ax}{c:Int}{o:Nat}(hc:bX c)(ht:eM vars I t=0)(ha:∀s m,dW vars.length m s->dW vars.length (m+o) (a s))
  (hb:∀s m,dW vars.length m s->CI s->m+o<=1000000->CI (a s)) (hg:∀s m,dW vars.length m s->CI s->SG s->m+o<=1000000->SG (a s)):∀(N:Nat) (s:au) (m:Nat),dW vars.length m s->CI s->SG s->m+N*o<=1000000->
  ∃q,jv a t c N s=[q]/\SG q
 |0,s,m,_,_,h,_=>⟨s,by rw[jv],h⟩
 |n+1,s,m,k,ci,h,hm=>by
  rw[yd,xA]at hm;have k1:=jZ k hc;have c1:=rL ci c;have s1:=RB k h hc;rw[jv];rcases uy (gF k t ht) (ER k h ht)with ⟨e1,e2⟩|⟨e1,e2⟩
  ·exact⟨_,by rw[e1,e2,bt rfl,bF (by decide),yy],s1⟩
  ·obtain⟨q,e,hq⟩:=Rj hc ht ha hb hg n (a (ij s c)) (m+o) (ha _ _ k1) (hb _ _ k1 c1 (by omega)) (hg _ _ k1 c1 s1 (by omega)) (by omega);exact⟨q,by rw[e1,e2,bF (by decide),bt rfl,ym,e],hq⟩
def V6{f:aQ}{hv:aa aH}(hh:hv.length=f.ak.length)(hvn:∀i,i<hv.length->NN hv[i]!)(hvs:∀i,i<hv.length->qY hv[i]!){a b:au->au}{last:Bool}{x:ay}(hx:CT f last x)
  (p1:0<=(cC x.aD).2.1) (p2:0<=(cC x.aJ).2.1)
  (ha:∀s m,dW f.ai.length m s->dW f.ai.length (m+cv x.aD) (a s)) (hb:∀s m,dW f.ai.length m s->dW f.ai.length (m+cv x.aJ) (b s))
  (ca:∀s m,dW f.ai.length m s->CI s->m+cv x.aD<=1000000->CI (a s))
  (ga:∀s m,dW f.ai.length m s->CI s->SG s->m+cv x.aD<=1000000->SG (a s)) (gb:∀s m,dW f.ai.length m s->CI s->SG s->m+cv x.aJ<=1000000->SG (b s))
  {s:au} {m:Nat} (k:dW f.ai.length m s) (ci:CI s) (h:SG s) (hm:m+(uO x).1.toNat<=1000000):SG (l8 f hv a b x s):=by
 have hc:=m6 hx;have k1:=jZ k hc;have c1:=rL ci x.aN;have s1:=RB k h hc;have vn:=gF k x.az hx.term;have vs:=ER k h hx.term;revert hm;unfold l8 uO;by_cases a4:x.bN=4
 ·simp only[a4,Int.reduceEq,bZ,dA];intro hm;have hn:=hx.n4 a4;have e:(x.fN*(cC x.aD).2.1).toNat=x.fN.toNat*cv x.aD:=by rw[cv,wG hn.1 p1]
  rw[e]at hm;obtain⟨q,eq,hq⟩:=Rj hc hx.term ha ca ga x.fN.toNat s m k ci h hm;rw[eq];exact hq
 by_cases a0:x.bN=0
 ·simp only[a0,Int.reduceEq,bZ,dA];exact λ_=>SA s1 _ vn vs
 by_cases a1:x.bN=1
 ·simp only[a1,Int.reduceEq,bZ,dA];exact λhm=>adJ k1 s1 c1 (by omega) vs
 by_cases a5:x.bN=5
 ·simp only[a5,Int.reduceEq,bZ,dA];obtain⟨n1,n2⟩:=hx.n5 a5;exact λ_=>SA s1 _ (hvn _ (by omega)) (hvs _ (by omega))
 by_cases a3:x.bN=3
 ·simp only[a3,Int.reduceEq,bZ,dA];intro hm;have hm1:m+cv x.aD<=1000000:=by unfold cv;omega
  have hm2:m+cv x.aJ<=1000000:=by unfold cv;omega
  unfold XM;rcases uy vn vs with ⟨e1,e2⟩|⟨e1,e2⟩
  ·rw[e1,e2,bF (by decide),bt rfl];exact gb _ _ k1 c1 s1 hm2
  ·rw[e1,bt rfl];exact ga _ _ k1 c1 s1 hm1
 by_cases a6:x.bN=6
 ·simp only[a6,Int.reduceEq,bZ,dA];obtain⟨_,q2,q3,q4,q5⟩:=hx.uM a6;exact λ_=>⟨h.vars,h.count,h.slots,OF (a:=iq 8 s.aF (dN x.aN)) k1.time s1.time q4 (by omega) (BO q2 q3 q4 q5)⟩
 ·simp only[a0,a1,a3,a4,a5,a6,dA];exact λ_=>s1
def Cu{f:aQ}{hv:aa aH}(hh:hv.length=f.ak.length)(hvn:∀i,i<hv.length->NN hv[i]!)(hvs:∀i,i<hv.length->qY hv[i]!):∀(n:Nat) (l:aa ay) (top:Bool),zk l<n->b9 f top l=0->∀(s:au) (m:Nat),dW f.ai.length m s->CI s->SG s->m+cv l<=1000000->SG (jg f hv l s)
 |0,_,_,h,_,_,_,_,_,_,_=>by omega
 |n+1,[],_,_,_,s,m,_,_,h,_=>by rw[lW];exact h
 |n+1,x::l,top,hn,hc,s,m,k,ci,h,hm=>by
  obtain⟨h1,h2,h3,h4⟩:=dH hc;have ho:=jB h1;have hsz:=aX (zo (a:=x) (l:=l));have ht:=dc x l;have p1:=(dx f n x.aD I (by omega) h2).1;have p2:=(dx f n x.aJ I (by omega) h3).1;rw[kZ hc]at hm;rw[k8];have aT:=gE hh hvn n x.aD I (by omega) h2;have aE:=gE hh hvn n x.aJ I (by omega) h3;have cT:=rC hh hvn n x.aD I (by omega) h2;have cE:=rC hh hvn n x.aJ I (by omega) h3;have i1:=uo hh hvn ho p1 p2 aT aE k;have i2:=L8 (hv:=hv) ho p1 p2 aT aE cT cE k ci (by omega);have i3:=V6 hh hvn hvs ho p1 p2 aT aE cT (Cu hh hvn hvs n x.aD I (by omega) h2) (Cu hh hvn hvs n x.aJ I (by omega) h3) k ci h (by omega);exact Cu hh hvn hvs n l top (by omega) h4 _ _ i1 i2 i3 (by omega)
def XK(l:aa Int)(hl:l.length<=1000):m98 l l=Q G:=by
 obtain⟨b,e1,hI⟩:=dD (cL:=Br) l.length (λi (_:Unit)=>⟨l,l,(i:Int)⟩) (λi b=>True) (λi b hi hb=>by
  have hw:=gH hi (by omega);have i1:(i:Int)<(l.length:Int):=by omega
  have i2:(0:Int)<=(i:Int):=by omega
  refine⟨(),?_,trivial⟩;unfold Br;simp only[zi,i1,i2,cX,bC,bz,dZ,bZ,hw]) (λb _=>by unfold Br;simp) (b:=()) trivial
 have e1':Lq ⟨l,l,0⟩=Q ⟨l,l,(l.length:Int)⟩:=e1;unfold m98;simp only[cX,bC,bz,e1',xK,fW]
def Yy(o:aL)(h:o.aP.length<=1000):ZP o o=Q G:=by
 unfold ZP;simp only[cX,bC,XK _ h]
def Zt{r:bh}(h:J6 r){zg:Int}(hV:1<=zg)(k:Nat):(lB r zg k).1<=(lB r zg (k+1)).1/\(lB r zg k).2<=(lB r zg (k+1)).2:=by
 obtain⟨b1,b2,b3,b4⟩:=EL h hV k;simp only[lB];refine⟨?_,?_⟩
 ·split<;>omega
 ·split
  ·rename_i c;have hs:=size_pos (h.slots k c);have:=xW hs (show 0<=(lB r zg k).2 by omega);omega
  ·omega
def NR{r:bh}(h:J6 r){zg:Int}(hV:1<=zg){k:Nat}:∀{j:Nat},k<=j->(lB r zg k).1<=(lB r zg j).1/\(lB r zg k).2<=(lB r zg j).2
 |0,hj=>by
  have:k=0:=by omega
  subst this;exact⟨zm _,zm _⟩
 |j+1,hj=>by
  by_cases e:k=j+1
  ·subst e;exact⟨zm _,zm _⟩
  ·obtain⟨h1,h2⟩:=NR h hV (k:=k) (j:=j) (by omega);obtain⟨h3,h4⟩:=Zt h hV j;omega
def Ct{r:bh}:Qb r=G↔bW r.aC=1/\bW r.aF=1/\∀i,i<r.aA.length->bW r.aA[i]! =1:=by
 unfold Qb lV;simp only[zn,decide_eq_true_eq,zA];constructor
 ·rintro⟨⟨h1,h2⟩,h3⟩;exact⟨h1,h2,λi hi=>h3 _ (aV hi)⟩
 ·rintro⟨h1,h2,h3⟩;refine⟨⟨h1,h2⟩,λx hx=> ?_⟩;obtain⟨i,hi,e⟩:=xd.1 hx;have:=h3 i hi;rw[getElem!_pos r.aA i hi,e]at this;exact this
def ad3{r:bh}(h:J6 r)(c0:0<=r.aC.ag)(c1:r.aC.af=r.aA.length){zg:Int}(hV:1<=zg)(h1:zg=1->Qb r=G):Ny r zg=1↔Qb r=G:=by
 have hmem:cu r.aC (r.aA.length:Nat)=G:=e9 ⟨by rw[<-c1];exact h.count.le,by omega,by rw[<-c1];exact h.count.dvd⟩;have eS:Ny r zg=min ((lB r zg r.aA.length).1+(lB r zg r.aA.length).2) zg:=by
  unfold Ny;simp only[lB,hmem,bZ]
 constructor
 ·intro e;by_cases hV1:zg=1
  ·exact h1 hV1
  obtain⟨b1,b2,b3,b4⟩:=EL h hV r.aA.length;have s0:(lB r zg r.aA.length).1=0:=by omega
  have p1:(lB r zg r.aA.length).2=1:=by omega
  have P:∀k,k<=r.aA.length->(lB r zg k).2=1:=λk hk=>by
   have:=(NR h hV hk).2;have:=(EL h hV k).2.2.1;omega
  have S:∀k,k<=r.aA.length->(lB r zg k).1=0:=λk hk=>by
   have:=(NR h hV hk).1;have:=(EL h hV k).1;omega
  refine Ct.mpr ⟨?_,?_,λk hk=> ?_⟩
  ·refine(eN h.count).mpr ?_;have hle:=h.count.le;by_cases c:r.aC.ag=r.aC.af
   ·exact c
   ·exfalso;have hk:r.aC.ag.toNat<r.aA.length:=by omega
    have hn:cu r.aC (r.aC.ag.toNat:Nat)=G:=by
     rw[show ((r.aC.ag.toNat:Nat):Int)=r.aC.ag by omega];exact e9 ⟨zm _,hle,by rw[Int.sub_self];exact y5 _⟩
    have q1:=S (r.aC.ag.toNat+1) (by omega);have q2:=S r.aC.ag.toNat (by omega);have q3:=P r.aC.ag.toNat (by omega);simp only[lB,hn,bZ]at q1;omega
  ·have:=P 0 (by omega);have hs:=size_pos h.time;simp only[lB]at this;omega
  ·have q1:=P (k+1) (by omega);have q2:=P k (by omega);have hs:=size_pos (h.slots k hk);simp only[lB,hk,bZ]at q1;rw[q2,zU]at q1;omega
 ·intro hs;obtain⟨s1,s2,s3⟩:=Ct.mp hs;have hc:=(eN h.count).mp s1;have key:∀k,k<=r.aA.length->(lB r zg k).1=0/\(lB r zg k).2=1:=λk=>by
   induction k with
   |zero=>
    intro _;refine⟨rfl,?_⟩;simp only[lB,s2];omega
   |succ k ih=>
    intro hk;obtain⟨i1,i2⟩:=ih (by omega);have hno:¬cu r.aC (k:Nat)=G:=λe=>by
     have:=(gL.mp e).1;omega
    have hkl:k<r.aA.length:=by omega
    refine⟨?_,?_⟩
    ·simp only[lB,hno,i1];rfl
    ·simp only[lB,hkl,bZ,i2,s3 k hkl];omega
  obtain⟨k1,k2⟩:=key _ (zI _);rw[eS,k1,k2];omega
def EI(f:aQ)(v:cz)(box:aa aH):CI (gB f v box):=⟨zm _,rfl⟩
def Wt{f:aQ}{v:cz}{box:aa aH}(h:Fits f v box):CI (si f v box):=by
 have hf:=Ak h.c;have h0:=lf h;have ho:cv f.bI<=8:=by have:=hf.o;unfold cv;omega
 exact rC (by simp[mX]) (uF hf h0) _ f.bI G (zC _) hf.steps _ _ h0 (EI f v box) (by omega)
def Ff{f:aQ}{v:cz}{box:aa aH}(h:Fits f v box):dW f.ai.length 8 (si f v box):=by
 have hf:=Ak h.c;have h0:=lf h;have ho:cv f.bI<=8:=by have:=hf.o;unfold cv;omega
 exact(gE (hv:=mX f (gB f v box)) (by simp[mX]) (uF hf h0) _ f.bI G (zC _) hf.steps _ _ h0).weak (by omega)
def BY{f:aQ}{v:cz}{box:aa aH}(h:Fits f v box):J6 (dP f v box):=by
 have k:=Ff h;refine⟨k.count,?_,k.sl,k.slots⟩;show NN (if v.eE=G then(si f v box).aF else dN 0);split
 ·exact k.time
 ·exact jy ⟨by decide,by decide⟩
def WY{f:aQ}{v:cz}{box:aa aH}(h:Fits f v box)(hb:∀x∈box,qY x):SG (gB f v box):=by
 have hbl:=h.bl;rw[mc]at hbl;refine⟨λi hi=> ?_,rfl,λi hi=>cR hi (by simp[gB]),rfl⟩;have hi:i<(iT f.ai.length (gP f v box)).length:=hi;rw[dR]at hi;show qY (iT _ _)[i]!;rw[fK hi];unfold gP;by_cases k1:f.ai[i]!.bq=1
 ·rw[bt k1];have:=eW hi k1;exact hb _ (aV (by omega))
 rw[bF k1];by_cases k2:f.ai[i]!.bq=2
 ·rw[bt k2];exact(rfl:v.aR[cg f.ai 2 i]! =v.aR[cg f.ai 2 i]!)
 rw[bF k2];by_cases k3:f.ai[i]!.bq=3
 ·rw[bt k3];have:=eW hi k3;exact hb _ (aV (by omega))
 rw[bF k3];exact(rfl:f.ai[i]!.dB=f.ai[i]!.dB)
def amt{f:aQ}{v:cz}{box:aa aH}(h:Fits f v box)(hb:∀x∈box,qY x):SG (si f v box):=by
 have hf:=Ak h.c;have h0:=lf h;have hs:=WY h hb;have ho:cv f.bI<=8:=by have:=hf.o;unfold cv;omega
 refine Cu (by simp[mX]) (uF hf h0) (λi hi=> ?_) _ f.bI G (zC _) hf.steps _ _ h0 (EI f v box) hs (by omega);have hi:i<f.ak.length:=by simpa [mX]using hi
 unfold mX;rw[getElem!_pos _ i (by simpa using hi),ye,<-getElem!_pos f.ak i hi];exact vZ (gF h0 _ (hf.hat i hi).2) (ER h0 hs (hf.hat i hi).2) _ _
def afU{f:aQ}{v:cz}{box:aa aH}(h:Fits f v box)(hv:eO box=1):Qb (dP f v box)=G:=by
 have k:=Ff h;have s:=amt h (λx hx=>(eN (h.nn x hx)).mp (Lc h.nn hv x hx));have r:=BY h;have hl:=k.sl;refine Ct.mpr ⟨(eN r.count).mpr s.count,(eN r.time).mpr ?_,λi hi=>(eN (r.slots i hi)).mpr (s.slots i hi)⟩;show qY (if v.eE=G then(si f v box).aF else dN 0);split
 ·exact s.time
 ·exact(rfl:(0:Int)=0)
def Qv{α:Type}{l:aa α}:∀{m:aa α},l.Nodup->(∀x∈l,x∈m)->l.length<=m.length:=by
 classical
 induction l with
 |nil=>exact λ_ _=>xx _
 |cons x l ih=>
  intro m hn hs;have hx:=hs x (by simp);obtain⟨h1,h2⟩:=List.nodup_cons.1 hn;have:=ih (m:=m.erase x) h2 (λy hy=>(List.mem_erase_of_ne (λe:y=x=>h1 (e▸hy))).2 (hs y (zH _ hy)));rw[List.length_erase_of_mem hx]at this;have:=List.length_pos_of_mem hx;simp only[xh];omega
def elems(a:aH):aa Int:=(zP (cnt a)).map (kK a)
def UI{a:aH}(h:NN a){x:Int}(hx:bk a x):x∈elems a:=by
 obtain⟨k,hk,e⟩:=(gQ h x).mp hx;exact zN.2 ⟨k,List.mem_range.2 hk,e.symm⟩
def prods:aa (aa Int)->aa (aa Int)
 |[]=>[[]]
 |s::l=>s.flatMap λx=>(prods l).map (x:: ·)
def Yk(m:aa (aa Int)):∀s:aa Int,(s.flatMap λx=>m.map (x:: ·)).length=s.length*m.length
 |[]=>by simp
 |x::s=>by rw[xF,zq,Yk m s,zL,xh,yM,Nat.add_comm]
def FH:∀{l:aa (aa Int)} {w:aa Int},w.length=l.length->(∀i,i<l.length->w[i]!∈l[i]!)->w∈prods l
 |[],[],_,_=>by simp[prods]
 |[],_::_,h,_=>by simp at h
 |_::_,[],h,_=>by simp at h
 |s::l,x::w,h,k=>by
  have h0:x∈s:=k 0 (by simp);have ih:=FH (l:=l) (w:=w) (by simpa using h) (λi hi=>k (i+1) (by simp;omega));exact xQ.2 ⟨x,h0,zN.2 ⟨w,ih,rfl⟩⟩
def AG:∀{box:aa aH},(∀x∈box,NN x)->((prods (box.map elems)).length:Int)=eO box
 |[],_=>rfl
 |a::box,h=>by
  have ih:=AG (box:=box) (λx hx=>h x (zH _ hx));have e:(elems a).length=cnt a:=by unfold elems;simp
  rw[yl,prods,Yk,e,eO,fQ (h a (by simp)),<-ih];exact xo ..
def ank{l:aa aH}{i:Nat}(hi:i<l.length):(l.map elems)[i]! =elems l[i]! :=by
 rw[getElem!_pos (l.map elems) i (by rw[zL];exact hi),ye,getElem!_pos l i hi]
def LQ{box:aa aH}(h:∀i,i<box.length->NN box[i]!){w:aa Int}(hl:w.length=box.length)(hm:∀i,i<box.length->bk box[i]! w[i]!):w∈prods (box.map elems):=
 FH (by rw[zL];exact hl) (λi hi=>by
  rw[zL]at hi;rw[ank hi];exact UI (h i hi) (hm i hi))
structure InO (r:bh) (o:aL):Prop where
 sl:o.aP.length<=r.aA.length
 cnt:bk r.aC o.aP.length
 time:bk r.aF o.aF
 outs:∀i,i<o.aP.length->bk r.aA[i]! o.aP[i]!
def agm{α:Type}[Inhabited α]{l:aa α}{k i:Nat}(hi:i<k)(hk:k<=l.length):(l.take k)[i]! =l[i]! :=by
 rw[getElem!_pos (l.take k) i (by rw[z6];omega),wL,getElem!_pos l i (by omega)]
def Z4{r:bh}(h:J6 r){L:aa aL}(hn:L.Nodup)(hin:∀o∈L,InO r o){k:Nat}(hk:k<=r.aA.length)(hlen:∀o∈L,o.aP.length=k):(L.length:Int)<=eO (r.aF::r.aA.take k):=by
 have hN:∀x∈r.aF::r.aA.take k,NN x:=λx hx=>by
  rcases zF.1 hx with rfl|hx
  ·exact h.time
  ·obtain⟨i,hi,e⟩:=xd.1 (wq hx);have:=h.slots i hi;rw[getElem!_pos r.aA i hi,e]at this;exact this
 have hsub:∀o∈L,o∈(prods ((r.aF::r.aA.take k).map elems)).map (λw=>(⟨w.tail,w.head!⟩:aL)):=λo ho=>by
  have q:=hin o ho;have ql:=hlen o ho;refine zN.2 ⟨o.aF::o.aP,LQ (λi hi=>hN _ (aV hi)) (by simp;omega) (λi hi=> ?_),rfl⟩
  match i,hi with
  |0,_=>exact q.time
  |i+1,hi=>
   have hi:i<k:=by simp at hi;omega
   show bk (r.aA.take k)[i]! o.aP[i]!;rw[agm hi hk];exact q.outs i (by omega)
 have:=Qv hn hsub;rw[zL]at this;have e:=AG hN;omega
def QZ{r:bh}(h:J6 r){zg:Int}(hV:1<=zg):∀k,k<=r.aA.length->(lB r zg k).2=min (eO (r.aF::r.aA.take k)) zg
 |0,_=>by
  show min _ zg=min (_*1) zg;rw[yX]
 |k+1,hk=>by
  have ih:=QZ h hV k (by omega);have hs:=size_pos (h.slots k (by omega));have ht:=size_pos h.time;have hp:1<=eO (r.aA.take k):=kg (λx hx=>by
   obtain⟨i,hi,e⟩:=xd.1 (wq hx);have:=h.slots i hi;rw[getElem!_pos r.aA i hi,e]at this;exact this)
  simp only[lB];rw[bt (show k<r.aA.length by omega),ih,bO (show k<r.aA.length by omega)];have e:eO (r.aF::(r.aA.take k++[r.aA[k]!]))=eO (r.aF::r.aA.take k)*bW r.aA[k]! :=by
   rw[eO,eO,tS,eO,eO,yX,zS]
  rw[e];have hP:1<=eO (r.aF::r.aA.take k):=by
   rw[eO];have:=y4 ht hp (by omega) (by omega);omega
  rw[zG,Xx hP hs hV,zG]
def LO(K:Nat):∀L:aa aL,(L.filter (λo=>O (o.aP.length<K+1))).length=(L.filter (λo=>O (o.aP.length<K))).length+(L.filter (λo=>O (o.aP.length=K))).length
 |[]=>rfl
 |o::L=>by
  have ih:=LO K L;simp only[yO];by_cases c1:o.aP.length<K
  ·rw[bQ c1,bQ (show o.aP.length<K+1 by omega),bP (show ¬o.aP.length=K by omega)];simp only[bZ,yS,dA,xh];omega
  ·by_cases c2:o.aP.length=K
   ·rw[bP c1,bQ (show o.aP.length<K+1 by omega),bQ c2];simp only[bZ,yS,dA,xh];omega
   ·rw[bP c1,bP (show ¬o.aP.length<K+1 by omega),bP c2];simp only[yS,dA];exact ih
def JR{r:bh}(h:J6 r){zg:Int}(hV:1<=zg){L:aa aL}(hn:L.Nodup)(hl:(L.length:Int)<=zg)(hin:∀o∈L,InO r o):∀K,K<=r.aA.length+1->((L.filter (λo=>O (o.aP.length<K))).length:Int)<=(lB r zg K).1
 |0,_=>by
  rw[wM.2 (λo _=>by simp)];exact zm _
 |K+1,hK=>by
  have ih:=JR h hV hn hl hin K (by omega);have e:=LO K L;have t1:=yE (λo:aL=>O (o.aP.length<K+1)) L;simp only[lB];cases hc:cu r.aC (K:Nat)with
  |true=>
   have b:=Z4 h (L:=L.filter (λo=>O (o.aP.length=K))) (hn.sublist List.filter_sublist) (λo ho=>hin o (zY.1 ho).1) (k:=K) (by omega) (λo ho=>by simpa using (zY.1 ho).2);have s:=QZ h hV K (by omega);rw[bt rfl];omega
  |false=>
   have z:L.filter (λo=>O (o.aP.length=K))=[]:=wM.2 (λo ho hd=>by
    have hd:o.aP.length=K:=by simpa using hd
    have:=(hin o ho).cnt;rw[hd]at this;rw[e9 this]at hc;cases hc)
   rw[z]at e;simp only[List.length_nil]at e;rw[bF (by simp)];omega
def Uz{r:bh}(h:J6 r){zg:Int}(hV:1<=zg){L:aa aL}(hn:L.Nodup)(hl:(L.length:Int)<=zg)(hin:∀o∈L,InO r o):(L.length:Int)<=Ny r zg:=by
 have:=JR h hV hn hl hin (r.aA.length+1) (zI _);rw[List.filter_eq_self.2 (λo ho=>by have:=(hin o ho).sl;simp;omega)]at this;exact this
def abb{r:bh}(h:J6 r)(c1:r.aC.af=r.aA.length)(hs:Qb r=G){o:aL}(ho:InO r o):o=TB r:=by
 obtain⟨s1,s2,s3⟩:=Ct.mp hs;have one:∀{a:aH} (_:NN a) (_:bW a=1) {x:Int},bk a x->x=a.ag:=λ{a} ha e {x} hx=>by
  have e:=(eN ha).mp e;have e:a.ag=a.af:=e;have:=hx.1;have:=hx.2.1
  omega
 have e1:=one h.count s1 ho.cnt;have e2:=(eN h.count).mp s1;have e2:r.aC.ag=r.aC.af:=e2;have el:o.aP.length=r.aA.length:=by omega
 obtain⟨outs,time⟩:=o;have et:time=r.aF.ag:=one h.time s2 ho.time;have eo:outs=r.aA.map (·.ag):=by
  refine wR (by simpa using el) λi h1 h2=> ?_;have hi:i<r.aA.length:=by simpa using h2
  have q:=one (h.slots i hi) (s3 i hi) (ho.outs i h1);have q:outs[i]! =r.aA[i]!.ag:=q;rw[getElem!_pos outs i h1,getElem!_pos r.aA i hi]at q;rw[ye];exact q
 rw[et,eo];rfl
def kX{op:Int}(h:binop op)(x y:Int):fD op x y=tf op x y:=by
 obtain⟨h1,h2⟩:=h;rcases (show op=8\/op=9\/op=10\/op=11\/op=12\/op=13\/op=14\/op=15\/op=16\/op=17\/op=18\/op=19\/op=20\/op=21\/op=22 by omega)with rfl|rfl|rfl|rfl|rfl|rfl|rfl|rfl|rfl|rfl|rfl|rfl|rfl|rfl|rfl
 ·rfl
 ·rfl
 ·rfl
 ·rfl
 ·show (if y=0 then 0 else x-y*mM x y)=Fo x y;rfl
 ·rfl
 ·show mK (!O (x=y))=jb (O (x≠y));by_cases e:x=y<;>simp[e,mK,jb]
 ·rfl
 ·rfl
 ·rfl
 ·rfl
 ·rfl
 ·rfl
 ·show min x y=if x<y then x else y
  split<;>omega
 ·show max x y=if y<x then x else y
  split<;>omega
def LL(op:Int)(A B:Span):Span:=dV [] (ax.mk op 0 []) [A,B]
def Q8{op:Int}(ho:binop op){A B:Span}(hA:ru A)(hB:ru B){x y:Int}(hx:Ay x A)(hy:Ay y B):Ay (tf op x y) (LL op A B):=by
 obtain⟨h1,h2⟩:=ho;have hk:bV op=(2,2):=by unfold bV;rw[iB,iB,gG]
 have k:tj [] (ax.mk op 0 []) [A,B]:=⟨by show 0<=(bV op).1/\(bV op).1<=_/\_<=(bV op).2;rw[hk];exact⟨yV (by decide),zm 2,zm 2⟩,λe=>by have e:op=24:=e;omega,λs hs=>by
  rcases zF.1 hs with rfl|hs
  ·exact hA
  ·rw[zD.1 hs];exact hB⟩
 have:=QS (vars:=[]) (vals:=[]) ⟨rfl,λi hi=>cR hi (by simp)⟩ (t:=ax.mk op 0 []) (r:=[A,B]) k (k:=[x,y]) ⟨rfl,λi hi=>by
  have hi:i<2:=hi
  match i,hi with
  |0,_=>exact hx
  |1,_=>exact hy⟩
 have e:sX [] (ax.mk op 0 []) [x,y]=tf op x y:=by
  unfold sX;dsimp only;rw[iB,iB,iB,iB,iB,iB];rfl
 rw[e]at this;exact this
def NN.Dg{a:aH}(h:NN a):bk a a.ag:=⟨zm _,h.le,by rw[Int.sub_self];exact y5 _⟩
def NN.X6{a:aH}(h:NN a):bk a a.af:=⟨h.le,zm _,h.dvd⟩
def oT(a:aH)(s:Span):Prop:=s.ag<=a.ag/\a.af<=s.af
def oT.mem{a:aH}{s:Span}(h:oT a s){x:Int}(hx:bk a x):Ay x s:=by
 have h1:=hx.1;have h2:=hx.2.1;unfold oT at h;unfold Ay;omega
def cS.mem{P:Int->Prop}{c:aH}(h:cS P c){x:Int}(hx:P x):bk c x:=h.all x hx
def amT{op:Int}(ho:binop op){A B:Span}(hA:ru A)(hB:ru B){x y:Int}(hx:Ay x A)(hy:Ay y B):bX (fD op x y):=by
 unfold ru at hA hB;unfold Ay at hx hy;rw[kX ho];have hx1:bX x:=by unfold bX;omega
 have hy1:bX y:=by unfold bX;omega
 obtain⟨h1,h2⟩:=ho;by_cases o8:op=8
 ·subst o8;show bX (x+y);unfold bX;omega
 by_cases o9:op=9
 ·subst o9;show bX (x-y);unfold bX;omega
 by_cases o10:op=10
 ·subst o10;show bX (x*y);exact mw (by omega) (by omega) (by omega) (by omega)
 by_cases ha:op=11\/op=12\/op=21\/op=22
 ·rw[<-kX ⟨h1,h2⟩];exact Kw hx1 hy1 ha
 ·rw[<-kX ⟨h1,h2⟩];rcases tN (op:=op) ⟨by omega,by omega⟩ x y with e|e<;>rw[e]<;>exact⟨by decide,by decide⟩
structure Snd (op:Int) (a b:aH) (A B:Span) (c:aH):Prop where
 mem:∀x z,bk a x->bk b z->bk c (fD op x z)
 rng:oT c (LL op A B)
def oZ{op:Int}(ho:binop op){a b c:aH}{A B:Span}(hA:ru A)(hB:ru B)(ia:oT a A)(ib:oT b B)(h:cS (oH op a b) c):Snd op a b A B c:=by
 refine⟨λx z hx hz=>h.mem ⟨x,z,hx,hz,rfl⟩,?_⟩;obtain⟨x,z,hx,hz,e⟩:=h.lo;obtain⟨x',z',hx',hz',e'⟩:=h.hi;have p:=Q8 ho hA hB (ia.mem hx) (ib.mem hz);have p':=Q8 ho hA hB (ia.mem hx') (ib.mem hz');rw[<-kX ho,<-e]at p;rw[<-kX ho,<-e']at p';exact⟨p.1,p'.2⟩
def YM{op:Int}(ho:binop op){a b:aH}(ha:NN a)(hb:NN b){A B:Span}(hA:ru A)(hB:ru B)(ia:oT a A)(ib:oT b B):Snd op a b A B (iq op a b):=by
 have hR:∀y,oH op a b y->bX y:=λy ⟨x,z,hx,hz,e⟩=>by rw[e];exact amT ho hA hB (ia.mem hx) (ib.mem hz)
 have r1:=ha.oV;have r2:=ha.vK;have r3:=hb.oV;have r4:=hb.vK;have la:=ha.le;have lb:=hb.le;have ia':=ia;have ib':=ib;unfold oT at ia' ib';by_cases hs:cnt a*cnt b<=4096
 ·rcases ri ho ha hb (by omega)with ⟨_,c,e,h2⟩|⟨hn,_⟩
  ·have:iq op a b=c:=by unfold iq;rw[jJ ho ha hb hs,e]
   rw[this];exact oZ ho hA hB ia ib h2
  ·exact cR hR hn
 have hbin:=ho;obtain⟨o1,o2⟩:=ho;rcases (show op=8\/op=9\/op=10\/op=11\/op=12\/op=21\/op=22\/(13<=op/\op<=20)by omega)with rfl|rfl|rfl|rfl|rfl|rfl|rfl|h
 ·rcases fl (op:=8) (.inl rfl) ha hb (λzh h=>lU ha hb h) (λh=>(jQ ha hb).mpr ⟨dw h (.inl rfl) (.inl rfl),dw h (.inr (.inr rfl)) (.inr (.inr rfl))⟩)with ⟨_,e,hv⟩|⟨hn,_⟩
  ·unfold iq;rw[e];exact oZ hbin hA hB ia ib (lU ha hb (FR ha hb))
  ·exact cR hR hn
 ·rcases fl (op:=9) (.inr (.inl rfl)) ha hb (λzh h=>ug ha hb h) (λh=>(m8 ha hb).mpr ⟨dw h (.inl rfl) (.inr (.inr rfl)),dw h (.inr (.inr rfl)) (.inl rfl)⟩)with ⟨_,e,hv⟩|⟨hn,_⟩
  ·unfold iq;rw[e];exact oZ hbin hA hB ia ib (ug ha hb (FR ha hb))
  ·exact cR hR hn
 ·rcases fl (op:=10) (.inr (.inr rfl)) ha hb (λzh h=>vF ha hb h) (λh=>(jc ha hb).mpr ⟨dw h (.inl rfl) (.inl rfl),dw h (.inl rfl) (.inr (.inr rfl)),dw h (.inr (.inr rfl)) (.inl rfl),dw h (.inr (.inr rfl)) (.inr (.inr rfl))⟩)with ⟨_,e,hv⟩|⟨hn,_⟩
  ·unfold iq;rw[e];exact oZ hbin hA hB ia ib (vF ha hb (FR ha hb))
  ·exact cR hR hn
 all_goals unfold iq;rw[pz hbin ha hb hs];unfold Pc
 ·obtain⟨a1,a2⟩:=r1;obtain⟨a3,a4⟩:=r2;simp only[Int.reduceEq,fW,cX,bz,bC];have hm:((max a.ag.natAbs a.af.natAbs:Nat):Int)<=1099511627776:=by omega
  have hx:∀x,bk a x->(x.natAbs:Int)<=((max a.ag.natAbs a.af.natAbs:Nat):Int):=λx hx=>by
   have:=hx.1;have:=hx.2.1;omega
  have hr:((max a.ag.natAbs a.af.natAbs:Nat):Int)<=(if A.af< -A.ag then-A.ag else A.af):=by split<;>omega
  generalize max a.ag.natAbs a.af.natAbs=m at*;rw[jD ⟨by omega,by omega⟩ ⟨by omega,by omega⟩ (by omega),jD ⟨by omega,by omega⟩ ⟨by omega,by omega⟩ (by omega)];by_cases c:0<=a.ag/\0<=b.ag
  ·rw[bQ c.1,bQ c.2];refine⟨λx z hx' hz'=> ?_,?_⟩
   ·show bk (gi 0 (m:Int) 1) (oG x z);have d:=Jl x z;have hx1:=hx x hx';have q:=d.2.2 (by have:=hx'.1;omega) (by have:=hz'.1;omega);exact(ki (by omega) (by omega)).mpr ⟨q,by omega,Int.one_dvd _⟩
   ·show oT (gi 0 (m:Int) 1) _;have e1:=Cd (lo:=0) (hi:=(m:Int)) (st:=1) (by omega) (by omega);have e0:=((ki (lo:=0) (hi:=(m:Int)) (st:=1) (x:=(gi 0 (m:Int) 1).ag) (by omega) (by omega)).mp (jk (by omega) (by omega) (by omega) (by omega)).Dg).1;unfold oT LL dV;simp only[Int.reduceEq,bZ,dA];rw[e1];show (if(0:Int)<=A.ag/\(0:Int)<=B.ag then(⟨0,if A.af< -A.ag then-A.ag else A.af⟩:Span)else⟨-(if A.af< -A.ag then-A.ag else A.af),if A.af< -A.ag then-A.ag else A.af⟩).ag<=_/\_<=(if(0:Int)<=A.ag/\(0:Int)<=B.ag then(⟨0,if A.af< -A.ag then-A.ag else A.af⟩:Span)else⟨-(if A.af< -A.ag then-A.ag else A.af),if A.af< -A.ag then-A.ag else A.af⟩).af;by_cases c2:(0:Int)<=A.ag/\(0:Int)<=B.ag
    ·rw[bt c2];dsimp only;rw[Int.ediv_one,yX];omega
    ·rw[bF c2];dsimp only;rw[Int.ediv_one,yX];omega
  ·have hf:(O (0<=a.ag)&&O (0<=b.ag))=I:=by
    cases c1:O (0<=a.ag)<;>cases c2:O (0<=b.ag)<;>first|rfl|exact cR ⟨of_decide_eq_true c1,of_decide_eq_true c2⟩ c
   rw[hf];refine⟨λx z hx' hz'=> ?_,?_⟩
   ·show bk (gi (-(m:Int)) (m:Int) 1) (oG x z);have d:=Jl x z;have hx1:=hx x hx';exact(ki (by omega) (by omega)).mpr ⟨by omega,by omega,Int.one_dvd _⟩
   ·show oT (gi (-(m:Int)) (m:Int) 1) _;have e1:=Cd (lo:= -(m:Int)) (hi:=(m:Int)) (st:=1) (by omega) (by omega);have e0:=((ki (lo:= -(m:Int)) (hi:=(m:Int)) (st:=1) (x:=(gi (-(m:Int)) (m:Int) 1).ag) (by omega) (by omega)).mp (jk (by omega) (by omega) (by omega) (by omega)).Dg).1;unfold oT LL dV;simp only[Int.reduceEq,bZ,dA];rw[e1];show (if(0:Int)<=A.ag/\(0:Int)<=B.ag then(⟨0,if A.af< -A.ag then-A.ag else A.af⟩:Span)else⟨-(if A.af< -A.ag then-A.ag else A.af),if A.af< -A.ag then-A.ag else A.af⟩).ag<=_/\_<=(if(0:Int)<=A.ag/\(0:Int)<=B.ag then(⟨0,if A.af< -A.ag then-A.ag else A.af⟩:Span)else⟨-(if A.af< -A.ag then-A.ag else A.af),if A.af< -A.ag then-A.ag else A.af⟩).af;rw[bF (show ¬((0:Int)<=A.ag/\(0:Int)<=B.ag)from λk=>c ⟨by omega,by omega⟩)];dsimp only;rw[Int.ediv_one,yX];omega
 ·simp only[Int.reduceEq,fW,cX,bz,bC];obtain⟨b1,b2⟩:=r3;obtain⟨b3,b4⟩:=r4;have hp:(if b.ag<0 then b.ag+1 else 0)<=0/\ -1099511627776<=(if b.ag<0 then b.ag+1 else 0):=by split<;>omega
  have hq:0<=(if 0<b.af then b.af-1 else 0)/\(if 0<b.af then b.af-1 else 0)<=1099511627776:=by split<;>omega
  have hrp:(if B.ag<0 then B.ag+1 else 0)<=(if b.ag<0 then b.ag+1 else 0):=by split<;>split<;>omega
  have hrq:(if 0<b.af then b.af-1 else 0)<=(if(0:Int)<B.af then B.af-1 else 0):=by split<;>split<;>omega
  have hz:∀x z,bk b z->(if b.ag<0 then b.ag+1 else 0)<=Fo x z/\Fo x z<=(if 0<b.af then b.af-1 else 0):=λx z hz=>by
   have d:=P5 x z;have z1:=hz.1;have z2:=hz.2.1;revert d;split<;>split<;>split<;>split<;>omega
  generalize (if b.ag<0 then b.ag+1 else 0)=p at*;generalize (if 0<b.af then b.af-1 else 0)=q at*;rw[jD ⟨by omega,by omega⟩ ⟨by omega,by omega⟩ (by omega)];refine⟨λx z hx' hz'=> ?_,?_⟩
  ·show bk (gi p q 1) (Fo x z);obtain⟨d1,d2⟩:=hz x z hz';exact(ki (by omega) (by omega)).mpr ⟨d1,d2,Int.one_dvd _⟩
  ·show oT (gi p q 1) _;have e1:=Cd (lo:=p) (hi:=q) (st:=1) (by omega) (by omega);have e0:=((ki (lo:=p) (hi:=q) (st:=1) (x:=(gi p q 1).ag) (by omega) (by omega)).mp (jk (by omega) (by omega) (by omega) (by omega)).Dg).1;unfold oT LL dV;simp only[Int.reduceEq,bZ,dA];rw[e1,Int.ediv_one,yX];refine⟨y7 hrp e0,?_⟩;have:p+(q-p)<=(if(0:Int)<B.af then B.af-1 else 0):=by omega
   exact this
 ·simp only[Int.reduceEq,fW,cX,bz,bC];have vj:=ek (.inr ha) (.inr hb);obtain⟨l',e2,h2⟩:=CV vj (min a.af b.af);rw[e2];have J:=ha.dL.join hb.dL;have nl:NN l':=by
   refine h2.rep.nn h2.1 (x:=(cc a b).ag) ⟨?_,?_⟩
   ·rw[cI ha hb];exact(jx ha hb).Dg
   ·rw[cI ha hb];show min a.ag b.ag<=_;omega
  have mem:∀x z,bk a x->bk b z->bk l' (min x z):=λx z hx hz=>by
   refine(h2.2 _).mpr ⟨?_,?_⟩
   ·rw[cI ha hb];by_cases c:x<=z
    ·rw[show min x z=x by omega];exact J.mem (.inl hx)
    ·rw[show min x z=z by omega];exact J.mem (.inr hz)
   ·have:=hx.2.1;have:=hz.2.1;omega
  refine⟨mem,?_⟩;have lo:=(h2.2 _).mp nl.Dg;have hi:=(h2.2 _).mp nl.X6;rw[cI ha hb]at lo;have lo1:min a.ag b.ag<=l'.ag:=lo.1.1;have hi1:=hi.2;unfold oT LL dV;simp only[Int.reduceEq,bZ,dA];show (if B.ag<A.ag then B.ag else A.ag)<=l'.ag/\l'.af<=(if B.af<A.af then B.af else A.af);refine⟨?_,?_⟩<;>split<;>omega
 ·simp only[Int.reduceEq,fW,cX,bz,bC];have vj:=ek (.inr ha) (.inr hb);obtain⟨l',e2,h2⟩:=td vj (max a.ag b.ag-1);rw[e2];have J:=ha.dL.join hb.dL;have nl:NN l':=by
   refine h2.rep.nn h2.1 (x:=(cc a b).af) ⟨?_,?_⟩
   ·rw[cI ha hb];exact(jx ha hb).X6
   ·rw[cI ha hb];show _<max a.af b.af;omega
  have mem:∀x z,bk a x->bk b z->bk l' (max x z):=λx z hx hz=>by
   refine(h2.2 _).mpr ⟨?_,?_⟩
   ·rw[cI ha hb];by_cases c:z<=x
    ·rw[show max x z=x by omega];exact J.mem (.inl hx)
    ·rw[show max x z=z by omega];exact J.mem (.inr hz)
   ·have:=hx.1;have:=hz.1;omega
  refine⟨mem,?_⟩;have lo:=(h2.2 _).mp nl.Dg;have hi:=(h2.2 _).mp nl.X6;rw[cI ha hb]at hi;have hi1:l'.af<=max a.af b.af:=hi.1.2.1;have lo1:=lo.2;unfold oT LL dV;simp only[Int.reduceEq,bZ,dA];show (if A.ag<B.ag then B.ag else A.ag)<=l'.ag/\l'.af<=(if A.af<B.af then B.af else A.af);refine⟨?_,?_⟩<;>split<;>omega
 ·rw[IZ h ha hb];have:(match (bif O (op=8)then rR op a b else bif O (op=9)then rR op a b else bif O (op=10)then rR op a b else bif O (op=11)then
    (bif(O (0<=a.ag)&&O (0<=b.ag))then j6 0 (max a.ag.natAbs a.af.natAbs:Nat) 1 else j6 (-((max a.ag.natAbs a.af.natAbs:Nat):Int)) (max a.ag.natAbs a.af.natAbs:Nat) 1)
   else bif O (op=12)then j6 (if b.ag<0 then b.ag+1 else 0) (if 0<b.af then b.af-1 else 0) 1
   else bif O (op=21)then(match m41 (cc a b) (min a.af b.af)with|V=>V|Q c=>Q (c,0))
   else bif O (op=22)then(match U5 (cc a b) (max a.ag b.ag-1)with|V=>V|Q c=>Q (c,0))
   else(match Q (gm (oS op a b).1 (oS op a b).2)with|V=>V|Q c=>Q (c,(0:Int))))with
   |none=>cy
   |some r=>r.1)=gm (oS op a b).1 (oS op a b).2:=by
   rcases iA h with rfl|rfl|rfl|rfl|rfl|rfl|rfl|rfl<;>rfl
  refine oZ hbin hA hB ia ib ?_;have hh:=LN h ha hb;rw[<-this]at hh;exact hh
def iZ{a b:aH}(ha:NV a)(hb:NV b){x:Int}(h:bk a x):bk (cc a b) x:=by
 rcases ha with rfl|ha
 ·exact cR h ue
 rcases hb with rfl|hb
 ·rw[pM];exact h
 ·rw[cI ha hb];exact(ha.dL.join hb.dL).mem (.inl h)
def iX{a b:aH}(ha:NV a)(hb:NV b){x:Int}(h:bk b x):bk (cc a b) x:=by
 rcases hb with rfl|hb
 ·exact cR h ue
 rcases ha with rfl|ha
 ·rw[gK];exact h
 ·rw[cI ha hb];exact(ha.dL.join hb.dL).mem (.inr h)
def JS{a b:aH}(ha:NN a)(hb:NN b){S:Span}(h:oT a S)(k:oT b S):oT (cc a b) S:=by
 rw[cI ha hb];unfold oT at*;show S.ag<=min a.ag b.ag/\max a.af b.af<=S.af;omega
def L2{H:aH}{ks:aa aH}(hk:∀j,j<ks.length->NN ks[j]!){j:Nat}(hj:cu H (j:Nat)=G){x:Int}(hx:bk ks[j]! x):∀n,n<=ks.length->j<n->bk (nH H ks n) x
 |0,_,h=>by omega
 |n+1,hn,h=>by
  rw[nH];have hv:=(uj (i:=H) hk n (by omega)).1;by_cases e:j=n
  ·subst e;rw[bt hj];exact iX hv (.inr (hk j (by omega))) hx
  ·have ih:=L2 hk hj hx n (by omega) (by omega);split
   ·exact iZ hv (.inr (hk n (by omega))) ih
   ·exact ih
def Ru{H:aH}{ks:aa aH}(hk:∀j,j<ks.length->NN ks[j]!){S:Span}(hS:∀j,j<ks.length->oT ks[j]! S):∀n,n<=ks.length->nH H ks n=cy\/oT (nH H ks n) S
 |0,_=> .inl rfl
 |n+1,hn=>by
  rw[nH];have hv:=(uj (i:=H) hk n (by omega)).1;have ih:=Ru (H:=H) hk hS n (by omega);split
  ·right;rcases hv with e|hv
   ·rw[e,gK];exact hS n (by omega)
   ·rcases ih with e|ih
    ·exact cR e hv.ne
    ·exact JS hv (hk n (by omega)) ih (hS n (by omega))
  ·exact ih
def adK{a:aH}(h:NN a){x:Int}(hx:bk a x):bk (adn a) (-x):=by
 obtain⟨h1,h2,h3⟩:=hx;refine⟨by show-a.af<= -x;omega,by show-x<= -a.ag;omega,?_⟩;show a.aj∣ -x- -a.af;have:=yw h.dvd h3;rw[show-x- -a.af=a.af-a.ag-(x-a.ag)by omega];exact this
def not_mem{a:aH}(h:NN a){x:Int}(hx:bk a x):bk (gm (cl a) (cu a 0)) (jb (O (x=0))):=by
 have hz:=zero_or h;by_cases e:x=0
 ·have h0:cu a 0=G:=e9 (e▸hx);rw[h0,bQ e];cases cl a
  ·exact⟨zm _,zm _,⟨0,rfl⟩⟩
  ·exact⟨by decide,by decide,⟨1,rfl⟩⟩
 ·have h1:cl a=G:=(fR (.inr h)).mpr ⟨x,hx,e⟩;rw[h1,bP e];cases cu a 0
  ·exact⟨zm _,zm _,⟨0,rfl⟩⟩
  ·exact⟨by decide,by decide,⟨0,rfl⟩⟩
def V1{a b:Bool}(h:(a||b)=G):oT (gm a b) ⟨0,1⟩:=by
 cases a<;>cases b
 ·cases h
 ·exact⟨by decide,by decide⟩
 ·exact⟨by decide,by decide⟩
 ·exact⟨by decide,by decide⟩
def Zp{x lo hi:Int}(h:lo<=hi):gJ x lo hi=max lo (min x hi):=by
 unfold gJ;split
 ·omega
 split<;>omega
def Bf{a:aH}(ha:NN a){lo hi:Int}(h1:bX lo)(h2:bX hi)(h3:lo<=hi){x:Int}(hx:bk a x):bk (fT a lo hi) (gJ x lo hi):=by
 obtain⟨_,_,_,k,hr⟩:=iu ha lo hi;rcases hr h1 h2 h3 with ⟨e,_⟩|hr
 ·exact cR e k.ne
 ·exact hr.mem ⟨x,hx,Zp h3⟩
def Vj{a:aH}(ha:NN a){lo hi:Int}(h1:bX lo)(h2:bX hi)(h3:lo<=hi):lo<=(fT a lo hi).ag/\(fT a lo hi).af<=hi:=by
 obtain⟨_,_,_,k,hr⟩:=iu ha lo hi;rcases hr h1 h2 h3 with ⟨e,_⟩|hr
 ·exact cR e k.ne
 ·obtain⟨x,_,e⟩:=hr.lo;obtain⟨y,_,e'⟩:=hr.hi;omega
def VA(vars:aa aS)(s:au):Prop:=∀i,i<vars.length->vars[i]!.ag<=s.ai[i]!.ag/\s.ai[i]!.af<=vars[i]!.af
def VM(vals:aa Int)(s:au):Prop:=vals.length=s.ai.length/\∀i,i<vals.length->bk s.ai[i]! vals[i]!
def abM(vars:aa aS)(t:ax)(h:8<=t.bf/\t.bf<=22){r:aa Span}(hr:r.length=2):dV vars t r=LL t.bf r[0]! r[1]! :=by
 obtain⟨a,b,rfl⟩:∃a b,r=[a,b]:=by
  match r,hr with
  |[a,b],_=>exact⟨a,b,rfl⟩
 obtain⟨op,n,ks⟩:=t;obtain⟨h1,h2⟩:8<=op/\op<=22:=h;show dV vars ⟨op,n,ks⟩ [a,b]=dV [] ⟨op,0,[]⟩ [a,b];rcases (show op=8\/op=9\/op=10\/op=11\/op=12\/op=13\/op=14\/op=15\/op=16\/op=17\/op=18\/op=19\/op=20\/op=21\/op=22 by omega)with rfl|rfl|rfl|rfl|rfl|rfl|rfl|rfl|rfl|rfl|rfl|rfl|rfl|rfl|rfl<;>rfl
def Qu{vars:aa aS}(hv:bY vars){inp:Bool}{m:Nat}{st:au}(hst:dW vars.length m st)(hA:VA vars st):∀(n:Nat) (t:ax),zk t<n->cZ vars inp t=G->∀s,eH vars t=Q s->oT (cA st.ai t) s/\∀vals,VM vals st->bk (cA st.ai t) (dY vals t)
 |0,_,h,_,_,_=>by omega
 |n+1,t,hsz,hf,s,hs=>by
  have hsome:(eH vars t).isSome=G:=by rw[hs];rfl
  obtain⟨⟨g1,g2,g3⟩,h24⟩:=BN hf;rw[kQ]at hs;cases ha:jG (t.aq.map (eH vars))with
  |none=>rw[ha]at hs;cases hs
  |some r=>
   have hK:=qG hv hf ha;have hr:=jO ha;have hl:r.length=t.aq.length:=by have:=congrArg yC hr;simpa using this.symm
   rw[ha]at hs;dsimp only at hs;split at hs
   case isFalse=>cases hs
   cases hs;have K:∀i,i<t.aq.length->NN (cA st.ai t.aq[i]!)/\oT (cA st.ai t.aq[i]!) r[i]!/\ru r[i]!/\∀vals,VM vals st->bk (cA st.ai t.aq[i]!) (dY vals t.aq[i]!):=λi hi=>by
    have hk:=aV hi;have hlt:=ax.dU hk;have e:eH vars t.aq[i]! =Q r[i]! :=by
     have:=congrArg (λl=>l[i]?) hr;simp only[yb]at this;rw[zw hi,zw (show i<r.length by omega)]at this;rw[getElem!_pos t.aq i hi,getElem!_pos r i (by omega)];simpa using this
    obtain⟨q1,q2⟩:=Qu hv hst hA n _ (by omega) (iI hf hk) _ e;exact⟨(AU hst n _ (by omega) (iI hf hk) (uI hsome _ hk)).2,q1,hK.2.2 _ (aV (by omega)),q2⟩
   have hnnt:NN (cA st.ai t):=(AU hst (n+1) t hsz hf hsome).2;rw[IB]at hnnt ⊢;unfold Ki at hnnt ⊢;simp only[zL]at hnnt ⊢;have vt:∀vals,dY vals t=sX vals t (t.aq.map (dY vals)):=λvals=>IW vals t;rcases tU t.bf g1 with ⟨h,e⟩|⟨h,e⟩|⟨h,e⟩|⟨h,e⟩|⟨h,e⟩<;>rw[e]at g2 g3<;>dsimp only at g2 g3
   ·rcases h with h|h
    ·rw[bt h];refine⟨?_,λvals hV=> ?_⟩
     ·unfold dV;rw[bt h];exact⟨zm _,zm _⟩
     ·rw[vt];unfold sX;rw[bt h];exact(iM _).mem rfl
    ·obtain⟨q1,q2⟩:=h24 h;rw[iB,bt h];refine⟨?_,λvals hV=> ?_⟩
     ·unfold dV;rw[iB,bt h];exact hA _ (by omega)
     ·rw[vt];unfold sX;rw[iB,bt h];have:=hV.1;have:=hst.len;exact hV.2 _ (by omega)
   ·obtain⟨k1,k2,k3,k4⟩:=K 0 (by omega);rw[mapA (show 0<t.aq.length by omega)]at hnnt ⊢;rcases h with h|h
    ·simp only[h,Int.reduceEq,bZ,dA];have en:(kz 6 (cA st.ai t.aq[0]!)).1=adn (cA st.ai t.aq[0]!):=by
      unfold kz;rw[bF (λk=>by rcases k with k|k;exact k (.inr k1);exact k.1 rfl),bF k1.ne,bF (by decide)]
     rw[en];refine⟨?_,λvals hV=> ?_⟩
     ·unfold dV;simp only[h,Int.reduceEq,bZ,dA];unfold oT at k2 ⊢;show-_<= -(cA st.ai t.aq[0]!).af/\ -(cA st.ai t.aq[0]!).ag<= -_;omega
     ·rw[vt];unfold sX;simp only[h,Int.reduceEq,bZ,dA];rw[qw (by omega)];exact adK k1 (k4 vals hV)
    ·simp only[h,Int.reduceEq,bZ,dA];have en:(kz 7 (cA st.ai t.aq[0]!)).1=gm (cl (cA st.ai t.aq[0]!)) (cu (cA st.ai t.aq[0]!) 0):=by
      unfold kz;rw[bF (λk=>by rcases k with k|k;exact k (.inr k1);exact k.2 rfl),bF k1.ne,bt rfl]
     rw[en];refine⟨?_,λvals hV=> ?_⟩
     ·unfold dV;simp only[h,Int.reduceEq,dA,or_self];exact V1 (zero_or k1)
     ·rw[vt];unfold sX;simp only[h,Int.reduceEq,bZ,dA];rw[qw (by omega)];exact not_mem k1 (k4 vals hV)
   ·obtain⟨k1,k2,k3,k4⟩:=K 0 (by omega);obtain⟨l1,l2,l3,l4⟩:=K 1 (by omega);rw[iB,iB,iB,iB,iB,iB,mapA (show 0<t.aq.length by omega),mapA (show 1<t.aq.length by omega)];have S:=YM (op:=t.bf) ⟨h.1,h.2⟩ k1 l1 k3 l3 k2 l2;refine⟨?_,λvals hV=> ?_⟩
    ·rw[abM vars t h (by omega)];exact S.rng
    ·rw[vt];unfold sX;rw[iB,iB,iB,iB,iB,iB,qw (show 0<t.aq.length by omega),qw (show 1<t.aq.length by omega),<-kX ⟨h.1,h.2⟩];exact S.mem _ _ (k4 vals hV) (l4 vals hV)
   ·obtain⟨k1,k2,k3,k4⟩:=K 0 (by omega);obtain⟨l1,l2,l3,l4⟩:=K 1 (by omega);obtain⟨p1,p2,p3,p4⟩:=K 2 (by omega);rw[mapA (show 0<t.aq.length by omega),mapA (show 1<t.aq.length by omega),mapA (show 2<t.aq.length by omega)];simp only[h,Int.reduceEq,bZ,dA];obtain⟨e1,e2,e3⟩:=jV (r.drop 2) r[1]!;have hm2:r[2]!∈r.drop 2:=by
     rw[xd];refine⟨0,by rw[yh];omega,?_⟩;rw[xH,getElem!_pos _ 2 (by omega)]
    have e4:=e3 _ hm2;have er:dV vars t r=(r.drop 2).foldl dL r[1]! :=by
     unfold dV;simp only[h,Int.reduceEq,dA,true_or,bZ]
    rw[er];have i1:oT (cA st.ai t.aq[1]!) ((r.drop 2).foldl dL r[1]!):=by unfold oT at l2 ⊢;omega
    have i2:oT (cA st.ai t.aq[2]!) ((r.drop 2).foldl dL r[1]!):=by unfold oT at p2 ⊢;omega
    have vv:∀vals,dY vals t=if dY vals t.aq[0]!≠0 then dY vals t.aq[1]! else dY vals t.aq[2]! :=λvals=>by
     rw[vt];unfold sX;simp only[h,Int.reduceEq,bZ,dA];rw[qw (show 0<t.aq.length by omega),qw (show 1<t.aq.length by omega),qw (show 2<t.aq.length by omega)]
    cases h0:cu (cA st.ai t.aq[0]!) 0 with
    |false=>
     rw[bt rfl];refine⟨i1,λvals hV=> ?_⟩;have hx:=k4 vals hV;rw[vv,bt (λe=>by rw[e]at hx;rw[e9 hx]at h0;cases h0)];exact l4 vals hV
    |true=>
     rw[bF (by decide)];cases h1:cl (cA st.ai t.aq[0]!)with
     |false=>
      rw[bt rfl];refine⟨i2,λvals hV=> ?_⟩;have hx:=k4 vals hV;rw[vv,bF (λe=>by rw[(fR (.inr k1)).mpr ⟨_,hx,e⟩]at h1;cases h1)];exact p4 vals hV
     |true=>
      rw[bF (by decide)];refine⟨JS l1 p1 i1 i2,λvals hV=> ?_⟩;rw[vv];split
      ·exact iZ (.inr l1) (.inr p1) (l4 vals hV)
      ·exact iX (.inr l1) (.inr p1) (p4 vals hV)
   ·obtain⟨k1,k2,k3,k4⟩:=K 0 (by omega);rw[mapA (show 0<t.aq.length by omega)]at hnnt ⊢;simp only[h,Int.reduceEq,bZ,dA]at hnnt ⊢;have er:dV vars t r=(r.drop 2).foldl dL r[1]! :=by
     unfold dV;simp only[h,Int.reduceEq,dA,or_true,bZ]
    rw[er];obtain⟨e1,e2,e3⟩:=jV (r.drop 2) r[1]!;have hd:((t.aq.map (cA st.ai)).drop 1).length=t.aq.length-1:=by simp
    have hg:∀j,j<t.aq.length-1->((t.aq.map (cA st.ai)).drop 1)[j]! =cA st.ai t.aq[1+j]! :=λj hj=>by
     rw[getElem!_pos _ j (by omega),xH,ye,getElem!_pos t.aq (1+j) (by omega)]
    have hnk:∀j,j<((t.aq.map (cA st.ai)).drop 1).length->NN ((t.aq.map (cA st.ai)).drop 1)[j]! :=λj hj=>by
     rw[hg j (by omega)];exact(K (1+j) (by omega)).1
    have hik:∀j,j<((t.aq.map (cA st.ai)).drop 1).length->oT ((t.aq.map (cA st.ai)).drop 1)[j]! ((r.drop 2).foldl dL r[1]!):=λj hj=>by
     rw[hg j (by omega)];have i1:=(K (1+j) (by omega)).2.1;by_cases h0:j=0
     ·subst h0;have i1:oT (cA st.ai t.aq[1]!) r[1]! :=i1;show oT (cA st.ai t.aq[1]!) _;unfold oT at i1 ⊢;omega
     ·have hm:r[1+j]!∈r.drop 2:=by
       rw[xd];refine⟨j-1,by rw[yh];omega,?_⟩;rw[xH,getElem!_pos _ (1+j) (by omega)]
       congr 1
       omega
      have e4:=e3 _ hm;unfold oT at i1 ⊢;omega
    refine⟨?_,λvals hV=> ?_⟩
    ·rcases Ru hnk hik _ (zI _)with q|q
     ·rw[q]at hnnt;exact cR rfl hnnt.ne
     ·exact q
    ·have hx:=Bf k1 (lo:=0) (hi:=(t.aq.length:Int)-2) ⟨by decide,by decide⟩ ⟨by omega,by omega⟩ (by omega) (k4 vals hV);have hh:=Kj (n:=dY vals t.aq[0]!) (lo:=0) (hi:=(t.aq.length:Int)-2) (by omega);have ev:dY vals t=dY vals t.aq[((1:Int)+gJ (dY vals t.aq[0]!) 0 ((t.aq.length:Int)-2)).toNat]! :=by
      rw[vt];unfold sX;simp only[h,Int.reduceEq,bZ,dA,zL];rw[qw (show 0<t.aq.length by omega),qw (by omega)];rfl
     rw[ev];generalize gJ (dY vals t.aq[0]!) 0 ((t.aq.length:Int)-2)=H at*;have hj:H.toNat<t.aq.length-1:=by omega
     refine L2 hnk (j:=H.toNat) ?_ ?_ _ (zI _) (by omega)
     ·rw[show ((H.toNat:Nat):Int)=H by omega];exact e9 hx
     ·rw[hg _ hj,show ((1:Int)+H).toNat=1+H.toNat by omega];exact(K (1+H.toNat) (by omega)).2.2.2 vals hV
def AH{a:aH}(h:NN a){c:Int}(h0:0<=c)(h2:c<=1000000000)(hu:a.af+c<=1000000000):(iq 8 a (dN c)).ag=a.ag+c/\(iq 8 a (dN c)).af=a.af+c/\∀x,bk a x->bk (iq 8 a (dN c)) (x+c):=by
 have hl:=h.lo;have hle:=h.le;have hb:NN (dN c):=jy ⟨by omega,by omega⟩;rcases fl (op:=8) (.inl rfl) h hb (λzh k=>lU h hb k) (λk=>(jQ h hb).mpr ⟨dw k (.inl rfl) (.inl rfl),dw k (.inr (.inr rfl)) (.inr (.inr rfl))⟩)with ⟨_,e,_⟩|⟨hn,_⟩
 ·have hh:=lU h hb (FR h hb);have e':iq 8 a (dN c)=aH.mk (a.ag+(dN c).ag) (a.af+(dN c).af) (cj a.aj (dN c).aj):=by unfold iq;rw[e]
  rw[e'];exact⟨rfl,rfl,λx hx=>hh.mem ⟨x,c,hx,hb.Dg,rfl⟩⟩
 ·refine cR (λy ⟨x,z,⟨x1,x2,_⟩,⟨z1,z2,_⟩,e⟩=> ?_) hn;have z1:c<=z:=z1;have z2:z<=c:=z2;have e:y=x+z:=e;unfold bX;omega
structure rD (vars:List aS) (s:au) (k:Nat) (B:Int):Prop where
 ok:dW vars.length k s
 ci:CI s
 va:VA vars s
 t0:0<=s.aF.ag
 t1:s.aF.af<=B
def rD.weak{vars:aa aS}{s:au}{k k':Nat}{B B':Int}(h:rD vars s k B)(h1:k<=k')(h2:B<=B'):rD vars s k' B':=⟨h.ok.weak h1,h.ci,h.va,h.t0,by have:=h.t1;omega⟩
def uV{vars:aa aS}{s:au}{k:Nat}{B c:Int}(h:rD vars s k B)(h0:0<=c)(hB:B+c<=1000000000)(hB0:0<=B):rD vars (ij s c) k (B+c):=by
 have h1:=h.t0;have h2:=h.t1;obtain⟨e1,e2,_⟩:=AH h.ok.time h0 (by omega) (by omega);refine⟨jZ h.ok ⟨by omega,by omega⟩,rL h.ci c,h.va,?_,?_⟩
 ·show 0<=(iq 8 s.aF (dN c)).ag;omega
 ·show (iq 8 s.aF (dN c)).af<=_;omega
def Rx{f:aQ}(hv:bY f.ai){s:au}(hl:s.ai.length=f.ai.length)(h:VA f.ai s){v:Int}(h1:0<=v)(h2:v<f.ai.length){x:aH}(hx:NN x):VA f.ai (Hl f s v x):=λi hi=>by
 show _<=(s.ai.set v.toNat _)[i]!.ag/\(s.ai.set v.toNat _)[i]!.af<=_;rw[getElem!_pos (s.ai.set _ _) i (by rw[yc];omega),wF];split
 ·rename_i e;subst e;have hb:=hv _ (aV (show v.toNat<f.ai.length by omega));exact Vj hx (by unfold bX;omega) (by unfold bX;omega) hb.2.1
 ·have:=h i hi;rw[getElem!_pos s.ai i (by omega)]at this;exact this
def WT{vars:aa aS}{k:Nat}{s t:au}(ks:dW vars.length k s)(kt:dW vars.length k t)(h:VA vars s)(h':VA vars t):VA vars (iC s t):=λi hi=>by
 have hl:=ks.len;show _<=(iT _ _)[i]!.ag/\(iT _ _)[i]!.af<=_;rw[fK (by omega),cI (ks.vars i hi) (kt.vars i hi)];have a:=h i hi;have b:=h' i hi;show _<=min s.ai[i]!.ag t.ai[i]!.ag/\max s.ai[i]!.af t.ai[i]!.af<=_;omega
def AK{vars:aa aS}{s t:au}{k:Nat}{B:Int}(h:rD vars s k B)(h':rD vars t k B):rD vars (iC s t) k B:=by
 have a0:=h.t0;have a1:=h.t1;have b0:=h'.t0;have b1:=h'.t1;refine⟨pe h.ok h'.ok,CU h.ok h'.ok h.ci h'.ci,WT h.ok h'.ok h.va h'.va,?_,?_⟩
 ·show 0<=(cc s.aF t.aF).ag;rw[cI h.ok.time h'.ok.time];show 0<=min s.aF.ag t.aF.ag;omega
 ·show (cc s.aF t.aF).af<=B;rw[cI h.ok.time h'.ok.time];show max s.aF.af t.aF.af<=B;omega
def Gb{vars:aa aS}{k:Nat}{B:Int}:∀(l:aa au) (x:au),rD vars x k B->(∀q∈l,rD vars q k B)->rD vars (l.foldl iC x) k B
 |[],_,hx,_=>hx
 |y::l,x,hx,hl=>Gb l (iC x y) (AK hx (hl y (zo ..))) (λq hq=>hl q (zH _ hq))
def O9{vars:aa aS}{k:Nat}{B:Int}{l:aa au}(h0:l≠[])(h:∀q∈l,rD vars q k B):rD vars (nY l) k B:=by
 cases l with
 |nil=>exact cR rfl h0
 |cons x l=>exact Gb l x (h x (zo ..)) (λq hq=>h q (zH _ hq))
def D8(vars:aa aS)(a:au->au)(o:Nat)(u:Int):Prop:=∀s k B,rD vars s k B->0<=B->k+o<=1000000->B+u<=134217728->rD vars (a s) (k+o) (B+u)
def EV{vars:aa aS}{a:au->au}{t:ax}{c u:Int}{o:Nat}(hc:0<=c)(hu:0<=u)(ha:D8 vars a o u):∀(N:Nat) (s:au) (k:Nat) (B:Int),rD vars s k B->0<=B->k+N*o<=1000000->B+N*(c+u)<=134217728->∀q∈jv a t c N s,rD vars q (k+N*o) (B+N*(c+u))
 |0,s,k,B,h,_,_,_=>by
  rw[jv];intro q hq;rw[zD.1 hq];exact h.weak (by omega) (by simp)
 |n+1,s,k,B,h,hB,hm,hb=>by
  rw[jv];have en:((n+1:Nat):Int)*(c+u)=n*(c+u)+(c+u):=by rw[wE,zQ];simp
  have p:0<=(n:Int)*(c+u):=zB (by omega) (by omega);have eo:(n+1)*o=n*o+o:=by rw[yd,xA]
  rw[en]at hb ⊢;rw[eo]at hm ⊢;have h1:=uV h hc (by omega) hB;intro q hq;rcases zV.1 hq with hq|hq
  ·split at hq
   ·rw[zD.1 hq];exact h1.weak (by omega) (by omega)
   ·cases hq
  ·split at hq
   ·have h2:=ha _ _ _ h1 (by omega) (by omega) (by omega);have:=EV (t:=t) hc hu ha n _ (k+o) (B+c+u) h2 (by omega) (by omega) (by omega) q hq;exact this.weak (by omega) (by omega)
   ·cases hq
def F6{f:aQ}(hv:bY f.ai){hs:aa aH}(hh:hs.length=f.ak.length)(hvn:∀i,i<hs.length->NN hs[i]!){a b:au->au}{last:Bool}{x:ay}(hx:CT f last x)(h6:x.bN≠6)
  (p1:0<=(cC x.aD).2.1/\0<=(cC x.aD).2.2) (p2:0<=(cC x.aJ).2.1/\0<=(cC x.aJ).2.2)
  (oa:∀s m,dW f.ai.length m s->dW f.ai.length (m+cv x.aD) (a s))
  (ha:D8 f.ai a (cv x.aD) (cC x.aD).2.2) (hb:D8 f.ai b (cv x.aJ) (cC x.aJ).2.2)
  {s:au} {k:Nat} {B:Int} (h:rD f.ai s k B) (hB0:0<=B) (hm:k+(uO x).1.toNat<=1000000) (hB:B+(uO x).2<=134217728):rD f.ai (l8 f hs a b x s) (k+(uO x).1.toNat) (B+(uO x).2):=by
 have hc:=hx.cost;have hvl:=gF h.ok x.az hx.term;revert hm hB;unfold l8 uO;by_cases a4:x.bN=4
 ·simp only[a4,Int.reduceEq,bZ,dA];intro hm hB;have hn:=hx.n4 a4;have e:(x.fN*(cC x.aD).2.1).toNat=x.fN.toNat*cv x.aD:=by rw[cv,wG hn.1 p1.1]
  have e2:x.fN*(x.aN+(cC x.aD).2.2)=(x.fN.toNat:Int)*(x.aN+(cC x.aD).2.2):=by rw[show ((x.fN.toNat:Nat):Int)=x.fN by omega]
  rw[e]at hm ⊢;rw[e2]at hB ⊢;obtain⟨_,i2⟩:=uX (m6 hx) hx.term oa x.fN.toNat s k h.ok;exact O9 i2 (EV hc.1 p1.2 ha x.fN.toNat s k B h hB0 hm hB)
 have add:B+x.aN<=134217728->rD f.ai (ij s x.aN) k (B+x.aN):=λhB=>uV h hc.1 (by omega) hB0;by_cases a0:x.bN=0
 ·simp only[a0,Int.reduceEq,bZ,dA];intro hm hB;obtain⟨v1,v2⟩:=hx.var (.inl a0);have h1:=add hB;exact⟨B8 h1.ok hvl,Co h1.ci _ _,Rx hv h1.ok.len h1.va v1 v2 hvl,h1.t0,h1.t1⟩
 by_cases a1:x.bN=1
 ·simp only[a1,Int.reduceEq,bZ,dA];intro hm hB;have h1:=add hB;exact⟨Se h1.ok hvl,QB h1.ok h1.ci (by omega) _,h1.va,h1.t0,h1.t1⟩
 by_cases a5:x.bN=5
 ·simp only[a5,Int.reduceEq,bZ,dA];intro hm hB;obtain⟨v1,v2⟩:=hx.var (.inr a5);obtain⟨n1,n2⟩:=hx.n5 a5;have h1:=add hB;have hn:=hvn x.fN.toNat (by omega);exact⟨B8 h1.ok hn,Co h1.ci _ _,Rx hv h1.ok.len h1.va v1 v2 hn,h1.t0,h1.t1⟩
 by_cases a3:x.bN=3
 ·simp only[a3,Int.reduceEq,bZ,dA];intro hm hB;have h1:=add (by omega);have m1:k+cv x.aD<=1000000:=by unfold cv;omega
  have m2:k+cv x.aJ<=1000000:=by unfold cv;omega
  have w1:cv x.aD<=(max (cC x.aD).2.1 (cC x.aJ).2.1).toNat:=by unfold cv;omega
  have w2:cv x.aJ<=(max (cC x.aD).2.1 (cC x.aJ).2.1).toNat:=by unfold cv;omega
  have q1:B+x.aN+(cC x.aD).2.2<=134217728:=by omega
  have q2:B+x.aN+(cC x.aJ).2.2<=134217728:=by omega
  have i1:=λ(_:Unit)=>(ha _ _ _ h1 (by omega) m1 q1).weak (show k+cv x.aD<=k+(max (cC x.aD).2.1 (cC x.aJ).2.1).toNat by omega) (show B+x.aN+(cC x.aD).2.2<=B+(x.aN+max (cC x.aD).2.2 (cC x.aJ).2.2)by omega);have i2:=λ(_:Unit)=>(hb _ _ _ h1 (by omega) m2 q2).weak (show k+cv x.aJ<=k+(max (cC x.aD).2.1 (cC x.aJ).2.1).toNat by omega) (show B+x.aN+(cC x.aJ).2.2<=B+(x.aN+max (cC x.aD).2.2 (cC x.aJ).2.2)by omega);unfold XM;split
  ·exact i1 ()
  split
  ·exact i2 ()
  ·exact AK (i1 ()) (i2 ())
 ·simp only[a0,a1,a3,a4,a5,h6,dA];intro hm hB;exact add hB
def WI{f:aQ}{last:Bool}{x:ay}(ho:CT f last x)(p1:0<=(cC x.aD).2.1/\0<=(cC x.aD).2.2)(p2:0<=(cC x.aJ).2.1/\0<=(cC x.aJ).2.2):0<=(uO x).1/\0<=(uO x).2:=by
 have hc:=ho.cost;unfold uO;by_cases a1:x.bN=1
 ·rw[bt a1];exact⟨by show (0:Int)<=1;decide,hc.1⟩
 by_cases a3:x.bN=3
 ·rw[bF a1,bt a3];dsimp only;omega
 by_cases a4:x.bN=4
 ·rw[bF a1,bF a3,bt a4];have hn:=ho.n4 a4;exact⟨zB hn.1 p1.1,zB hn.1 (by omega)⟩
 ·rw[bF a1,bF a3,bF a4];exact⟨zm _,hc.1⟩
def pU{f:aQ}(hv:bY f.ai){hs:aa aH}(hh:hs.length=f.ak.length)(hvn:∀i,i<hs.length->NN hs[i]!):∀(n:Nat) (l:aa ay),zk l<n->b9 f I l=0->D8 f.ai (jg f hs l) (cv l) (cC l).2.2
 |0,_,h,_=>by omega
 |n+1,[],_,_=>λs k B h _ _ _=>by rw[lW,cC];exact h.weak (by omega) (by simp)
 |n+1,x::l,hn,hc=>λs k B h hB0 hm hB=>by
  obtain⟨h1,h2,h3,h4⟩:=dH hc;have ho:=jB h1;have hsz:=aX (zo (a:=x) (l:=l));have ht:=dc x l;have h6:x.bN≠6:=λh=>by have:=(ho.uM h).1;simp at this
  have p1:=dx f n x.aD I (by omega) h2;have p2:=dx f n x.aJ I (by omega) h3;have p3:=dx f n l I (by omega) h4;have pu:=(WI ho p1 p2).2;rw[kZ hc]at hm ⊢;rw[(ig x l).2]at hB ⊢;rw[k8];have i1:=F6 hv hh hvn ho h6 p1 p2 (gE hh hvn n x.aD I (by omega) h2) (pU hv hh hvn n x.aD (by omega) h2) (pU hv hh hvn n x.aJ (by omega) h3) h hB0 (by omega) (by omega);exact(pU hv hh hvn n l (by omega) h4 _ _ _ i1 (by omega) (by omega) (by omega)).weak (by omega) (by omega)
end Go.Proofs.YtnfljbehcffmcaaGreat
end
