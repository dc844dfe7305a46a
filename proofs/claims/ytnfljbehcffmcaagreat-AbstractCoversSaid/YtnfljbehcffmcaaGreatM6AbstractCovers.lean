/- Merged: Hx, Hy, Ne33, Ne34, Ne35, Ne36, Ne37, Ne38, Qx, Qy, Hz, Hw, Nf1, Nf2, Nf3, Nf4, Hk, Hu, Nf5, Nf6, Nf7, Nf8, Nf9, Ng1, Ng2, Ng3, Ng4, Ng5. -/
import Derived.Test.YtnfljbehcffmcaaGreatM5AbstractCovers
import Derived.Test.YtnfljbehcffmcaaGreatM2AbstractCovers
import Derived.Test.YtnfljbehcffmcaaGreatM4AbstractCovers
open Int renaming toNat_natCast → za, le_refl → zg, mul_nonneg → zq, mul_le_mul_of_nonneg_right → zG, add_mul → zI, mul_assoc → zN, one_mul → zR, dvd_sub → ym, toNat → yC, le_of_lt → yN, dvd_zero → yU, le_trans → y6, mul_one → y8, natCast_add → we
open Nat renaming beq → zb, lt_succ_self → zw, le_trans → zx, le_refl → zD, add_mul → yb, add_zero → yf, zero_add → yq, mul_le_mul_right → yF, sub_self → xF, one_mul → xM
open List renaming length → zc, length_append → zh, mem_cons_self → zi, getElem?_eq_getElem → zk, mem_cons → zy, mem_singleton → zC, range → zH, mem_cons_of_mem → zJ, length_map → zK, take_length → zM, length_set → zO, mem_append → zU, getElem?_map → zY, length_take → zZ, mem_filter → z6, drop → z7, length_drop → z8, map_append → yc, nil_append → yg, map_cons → yh, append_nil → yj, getElem_map → yo, length_filter_le → yp, mem_append_left → yA, mem_append_right → yB, length_singleton → yG, filter_cons → yK, append_assoc → yQ, eq_nil_of_length_eq_zero → yZ, map_nil → y5, getElem_append_right → xg, filter_append → xk, filter_nil → xq, cons_append → xw, getElem_append_left → xB, getElem_drop → xC, drop_zero → xT, getElem_set → wg, getElem_range → wz, mem_iff_getElem → wM
open Bool renaming false_eq_true → xp, true → wO, false → wN
open Option renaming some → V, none → O
open Decidable renaming decide → wP
open Go.Proofs.Tryz renaming prog → wQ
open Go.Proofs.Tryz
set_option linter.unusedSectionVars false
set_option linter.unusedVariables false
set_option linter.unusedSimpArgs false
set_option linter.defProp false
noncomputable section
set_option maxRecDepth 100000
namespace Go.Proofs.YtnfljbehcffmcaaGreat
open Go Go.Iv
open Go.IntKind (i64 u64)
abbrev E82:Type:=aI
def d82:Td 0 E82:= .c [] [4] (.r 0 1 (ec 4 (qp 0 0) en) (sb 0 34 (lg 34) sn) (fun z=>z.2.1) (fun x=>(((),()),(x,()))))
def Nz(a0:ax)(a1:aq):Option E82:=
 match ahu (aq.mk a1.bf a1.fN a1.ak) a0 with|O=>O|V r1=>V (r1.fst)
def e82:aK->aK:=eL wQ 82 wN (lc (qg 128) (lc (qg 137) ln)) d82 (fun g=>Nz g.1 g.2.1)
def Jv:EO e82:=fun h=>kL (an:= .no) func82 (adH aR) aB h
abbrev E40:Type:=List aI
def d40:Td 0 E40:= .c [] [2] (.t (cj.s 2 [] 34) (.c [] [2] (.r 0 1 (ec 2 (qo 0) en) (sr 0 34 sn) (fun z=>z.2.1) (fun x=>(((),()),(x,()))))))
def A40:=(lc (ql 34) ln)
def m40(a0:List aI):Option E40:=if a0.length<=1073741824 then V a0 else O
def akB:eG wQ dg 0 300 40 .no:=bV (l:=[]) func40 (bG (by kernel_rfl)) (by kernel_rfl) aB
def awC(x:aI)(xs:List aI):bU wQ dg 300 .no 40 [.sl 34 (x::xs)] [] 0 d40.rd=if([]++(x::xs)).length<=1073741824 then V ([]++(x::xs))else O:=by kernel_rfl
def ayG(c:Nat):bU wQ dg 300 .no 40 [.lit (.slice O 0 c)] [] 0 d40.rd=V []:=by kernel_rfl
def axq(a:Addr)(c:Nat):bU wQ dg 300 .no 40 [.lit (.slice (V a) 0 c)] [] 0 d40.rd=V []:=by kernel_rfl
def h40:HL wQ 40 A40 d40 (fun g=>m40 g.1):=fun g r h=>by
 obtain⟨a0,_⟩:=g
 have h:m40 a0=V r:=h
 cases a0 with
 |cons x xs=>exact(pH (out:=fun p=>kz wQ 40 0 (d40.pat p)) (p:=r) aR akB d40.ok (fun p=>by kernel_rfl) (nY (by kernel_rfl)) (mc (by kernel_rfl)) ((awC x xs).trans (by rw[yg];exact h))).2
 |nil=>
  cases h
  exact RX (fun c=>(pH (out:=fun p=>kz wQ 40 0 (d40.pat p)) (p:=[]) aR akB d40.ok (fun p=>by kernel_rfl) (nY (by kernel_rfl)) (mc (by kernel_rfl)) (ayG c)).2) (fun a c=>(pH (out:=fun p=>kz wQ 40 0 (d40.pat p)) (p:=[]) aR akB d40.ok (fun p=>by kernel_rfl) (nY (by kernel_rfl)) (mc (by kernel_rfl)) (axq a c)).2)
def e40:aK->aK:=eL wQ 40 wN A40 d40 (fun g=>m40 g.1)
def ZV{F:aK}(h:bq wQ F):bq wQ (e40 F):=gI (sc:=Cc) eW h40 ⟨_,func40,by kernel_rfl,by kernel_rfl⟩ (fun _=>by kernel_rfl) (fun _=>by kernel_rfl) h
def ER{F:aK}{f:Nat}(hne:zb f 40=wN)(h:bh F f):bh (e40 F) f:=vq hne h
abbrev at7:Type:=ax
def d235:Td 0 at7:= .c [] [2] (.r 0 3 (ec 2 (qp 0 0) en) (sb 0 128 (lc (qo 1) (aN (aN (aN (lc (qo 2) (aN (aN (aN ln)))))))) (sr 1 34 (sr 2 34 sn))) (fun z=>(ax.mk z.2.2.1 (aI.mk z.2.1.2.1 z.2.1.2.2.1 z.2.1.2.2.2.1) z.2.2.2.1 (aI.mk z.2.1.2.2.2.2.2.1 z.2.1.2.2.2.2.2.2.1 z.2.1.2.2.2.2.2.2.2.1))) (fun x=>(((),()),(((),x.aA.af,x.aA.aa,x.aA.ai,(),x.aD.af,x.aD.aa,x.aD.ai,()),x.ah,x.aC,()))))
def FR(a0:ax):Option at7:=
 match m40 a0.ah with|O=>O|V r1=>match m40 a0.aC with|O=>O|V r2=>V (ax.mk r1 a0.aA r2 a0.aD)
def alk:aK->aK:=eL wQ 235 wN (lc (qg 128) ln) d235 (fun g=>FR g.1)
def vI:EO alk:=fun h=>kL (an:= .no) func235 (ZV aR) aB h
structure pz where
 t46:List aI
 (t47 t48:Int)
 (b0 b1:ax)
def Ov:Td 0 pz:= .c [] [4,5,46,47,48] (.r 0 4 (ec 4 (qp 0 0) (ec 5 (qp 1 0) (ec 46 (ql 34) (ec 47 aM (ec 48 aM en))))) (sb 0 128 (lc qn (aN (aN (aN (lc qn (aN (aN (aN ln)))))))) (sb 1 128 (lc (qo 2) (aN (aN (aN (lc (qo 3) (aN (aN (aN ln)))))))) (sr 2 34 (sr 3 34 sn)))) (fun z=>⟨z.1.2.2.1,z.1.2.2.2.1,z.1.2.2.2.2.1,(ax.mk [] (aI.mk z.2.1.2.1 z.2.1.2.2.1 z.2.1.2.2.2.1) [] (aI.mk z.2.1.2.2.2.2.2.1 z.2.1.2.2.2.2.2.2.1 z.2.1.2.2.2.2.2.2.2.1)),(ax.mk z.2.2.2.1 (aI.mk z.2.2.1.2.1 z.2.2.1.2.2.1 z.2.2.1.2.2.2.1) z.2.2.2.2.1 (aI.mk z.2.2.1.2.2.2.2.2.1 z.2.2.1.2.2.2.2.2.2.1 z.2.2.1.2.2.2.2.2.2.2.1))⟩) (fun x=>(((),(),x.t46,x.t47,x.t48,()),(((),x.b0.aA.af,x.b0.aA.aa,x.b0.aA.ai,(),x.b0.aD.af,x.b0.aD.aa,x.b0.aD.ai,()),((),x.b1.aA.af,x.b1.aA.aa,x.b1.aA.ai,(),x.b1.aD.af,x.b1.aD.aa,x.b1.aD.ai,()),x.b1.ah,x.b1.aC,()))))
def G2(p:pz):Option (Option pz):=
 bif wP (p.t48<p.t47)then if 0<=p.t48/\p.t48<p.t46.length then bif wP (p.t48<p.b1.aC.length)then if 0<=p.t48/\p.t48<p.b1.aC.length then if 34=34/\p.t48.toNat<p.b1.aC.length then match vR p.b1.aC[p.t48.toNat]! p.t46[p.t48.toNat]! with|O=>O|V r2=>if 0<=p.t48/\p.t48<p.b1.aC.length then if 34=34/\p.t48.toNat<p.b1.aC.length then V (V (pz.mk p.t46 p.t47 (i64.wrap (p.t48+1)) (ax.mk [] p.b0.aA [] p.b0.aD) (ax.mk p.b1.ah p.b1.aA (p.b1.aC.set p.t48.toNat r2) p.b1.aD)))else O else O else O else O else if(p.b1.aC++[p.t46[p.t48.toNat]!]).length<=1073741824 then V (V (pz.mk p.t46 p.t47 (i64.wrap (p.t48+1)) (ax.mk [] p.b0.aA [] p.b0.aD) (ax.mk p.b1.ah p.b1.aA (p.b1.aC++[p.t46[p.t48.toNat]!]) p.b1.aD)))else O else O else V (O)
def H9:pz->Option pz:=bI (G2)
structure tv where
 (t13 t14:Int)
 (b0 b1 b2:ax)
def Of:Td 0 tv:= .c [] [3,4,5,13,14] (.r 0 5 (ec 3 (qp 0 0) (ec 4 (qp 1 0) (ec 5 (qp 2 0) (ec 13 aM (ec 14 aM en))))) (sb 0 128 (lg 128) (sb 1 128 (lc qn (aN (aN (aN (lc qn (aN (aN (aN ln)))))))) (sb 2 128 (lc (qo 3) (aN (aN (aN (lc (qo 4) (aN (aN (aN ln)))))))) (sr 3 34 (sr 4 34 sn))))) (fun z=>⟨z.1.2.2.2.1,z.1.2.2.2.2.1,z.2.1,(ax.mk [] (aI.mk z.2.2.1.2.1 z.2.2.1.2.2.1 z.2.2.1.2.2.2.1) [] (aI.mk z.2.2.1.2.2.2.2.2.1 z.2.2.1.2.2.2.2.2.2.1 z.2.2.1.2.2.2.2.2.2.2.1)),(ax.mk z.2.2.2.2.1 (aI.mk z.2.2.2.1.2.1 z.2.2.2.1.2.2.1 z.2.2.2.1.2.2.2.1) z.2.2.2.2.2.1 (aI.mk z.2.2.2.1.2.2.2.2.2.1 z.2.2.2.1.2.2.2.2.2.2.1 z.2.2.2.1.2.2.2.2.2.2.2.1))⟩) (fun x=>(((),(),(),x.t13,x.t14,()),(x.b0,((),x.b1.aA.af,x.b1.aA.aa,x.b1.aA.ai,(),x.b1.aD.af,x.b1.aD.aa,x.b1.aD.ai,()),((),x.b2.aA.af,x.b2.aA.aa,x.b2.aA.ai,(),x.b2.aD.af,x.b2.aD.aa,x.b2.aD.ai,()),x.b2.ah,x.b2.aC,()))))
def JA(p:tv):Option (Option tv):=
 bif wP (p.t14<p.t13)then if 0<=p.t14/\p.t14<p.b2.ah.length then if 34=34/\p.t14.toNat<p.b2.ah.length then if 0<=p.t14/\p.t14<p.b0.ah.length then match vR p.b2.ah[p.t14.toNat]! p.b0.ah[p.t14.toNat]! with|O=>O|V r1=>if 0<=p.t14/\p.t14<p.b2.ah.length then if 34=34/\p.t14.toNat<p.b2.ah.length then V (V (tv.mk p.t13 (i64.wrap (p.t14+1)) p.b0 (ax.mk [] p.b1.aA [] p.b1.aD) (ax.mk (p.b2.ah.set p.t14.toNat r1) p.b2.aA p.b2.aC p.b2.aD)))else O else O else O else O else O else V (O)
def JG:tv->Option tv:=bI (JA)
abbrev as4:Type:=ax
def d236:Td 0 as4:= .c [] [4] (.r 0 3 (ec 4 (qp 0 0) en) (sb 0 128 (lc (qo 1) (aN (aN (aN (lc (qo 2) (aN (aN (aN ln)))))))) (sr 1 34 (sr 2 34 sn))) (fun z=>(ax.mk z.2.2.1 (aI.mk z.2.1.2.1 z.2.1.2.2.1 z.2.1.2.2.2.1) z.2.2.2.1 (aI.mk z.2.1.2.2.2.2.2.1 z.2.1.2.2.2.2.2.2.1 z.2.1.2.2.2.2.2.2.2.1))) (fun x=>(((),()),(((),x.aA.af,x.aA.aa,x.aA.ai,(),x.aD.af,x.aD.aa,x.aD.ai,()),x.ah,x.aC,()))))
def Jb(a0:ax)(a1:ax):Option as4:=
 match FR a0 with|O=>O|V r3=>match JG (tv.mk r3.ah.length 0 a1 (ax.mk [] (aI.mk 0 0 0) [] (aI.mk 0 0 0)) r3)with|O=>O|V r4=>bif wP (r4.t14<r4.t13)then if 0<=r4.t14/\r4.t14<r4.b2.ah.length then if 34=34/\r4.t14.toNat<r4.b2.ah.length then if 0<=r4.t14/\r4.t14<r4.b0.ah.length then match vR r4.b2.ah[r4.t14.toNat]! r4.b0.ah[r4.t14.toNat]! with|O=>O|V r5=>if 0<=r4.t14/\r4.t14<r4.b2.ah.length then if 34=34/\r4.t14.toNat<r4.b2.ah.length then O else O else O else O else O else O else match vR r4.b2.aA r4.b0.aA with|O=>O|V r6=>match vR r4.b2.aD r4.b0.aD with|O=>O|V r7=>match H9 (pz.mk r4.b0.aC r4.b0.aC.length 0 (ax.mk [] r4.b1.aA [] r4.b1.aD) (ax.mk r4.b2.ah r6 r4.b2.aC r7))with|O=>O|V r8=>bif wP (r8.t48<r8.t47)then if 0<=r8.t48/\r8.t48<r8.t46.length then bif wP (r8.t48<r8.b1.aC.length)then if 0<=r8.t48/\r8.t48<r8.b1.aC.length then if 34=34/\r8.t48.toNat<r8.b1.aC.length then match vR r8.b1.aC[r8.t48.toNat]! r8.t46[r8.t48.toNat]! with|O=>O|V r9=>if 0<=r8.t48/\r8.t48<r8.b1.aC.length then if 34=34/\r8.t48.toNat<r8.b1.aC.length then O else O else O else O else O else if(r8.b1.aC++[r8.t46[r8.t48.toNat]!]).length<=1073741824 then O else O else O else V (r8.b1)
def amh:aK->aK:=eL wQ 236 wN (lc (qg 128) (lc (qg 128) ln)) d236 (fun g=>Jb g.1 g.2.1)
def Tm:EO amh:=fun h=>kL (an:=(noTwo (noTwo (.two (noTwo (Of.lp JG .no)) (noTwo (noTwo (.two (noTwo (Ov.lp H9 .no)) .no))))))) (l:=[(bg f236 0,(Of.lp JG .no)),(bg f236 1,(Ov.lp H9 .no))]) func236 (vI (J5 aR)) (ay (aO Of) (ay (aO Ov) aB)) h
def ama:aK:=(anz (e80 dg))
def aby:bq wQ ama:=(JU (IB aR))
abbrev aqV:Type:=ax
def d157:Td 0 aqV:= .c [] [4] (.r 0 1 (ec 4 (qp 0 0) en) (sb 0 128 (lg 128) sn) (fun z=>z.2.1) (fun x=>(((),()),(x,()))))
def atx:=(lc (qg 128) (aN ln))
def ahS:An:= .no
def atl:eG wQ (ama) 0 300 157 (ahS):=bV (l:=[]) func157 (bG (by kernel_rfl)) (by kernel_rfl) aB
def Mg(a0:ax)(a1:Int):Option aqV:=
 match uX (8) a0.aD (Qx a1)with|O=>O|V r1=>V (ax.mk a0.ah a0.aA a0.aC r1.fst)
def azh(a0:ax)(a1:Int):bU wQ (ama) 300 (ahS) 157 (atx.c (a0,a1,())) [] 0 d157.rd=Mg a0 a1:=by kernel_rfl
def amT:aK->aK:=eZ wQ 157 atx d157 (fun g=>Mg g.1 g.2.1)
def RT{F:aK}(h:bq wQ F):bq wQ (amT F):=jj (dG aby atl (fun _=>by kernel_rfl) (fun _=>by kernel_rfl) fun g=>azh g.1 g.2.1) ⟨_,func157,by kernel_rfl,by kernel_rfl⟩ (fun _=>by kernel_rfl) h
abbrev apI:Type:=ax
def d158:Td 0 apI:= .c [] [8] (.r 0 3 (ec 8 (qp 0 0) en) (sb 0 128 (lc (qo 1) (aN (aN (aN (lc (qo 2) (aN (aN (aN ln)))))))) (sr 1 34 (sr 2 34 sn))) (fun z=>(ax.mk z.2.2.1 (aI.mk z.2.1.2.1 z.2.1.2.2.1 z.2.1.2.2.2.1) z.2.2.2.1 (aI.mk z.2.1.2.2.2.2.2.1 z.2.1.2.2.2.2.2.2.1 z.2.1.2.2.2.2.2.2.2.1))) (fun x=>(((),()),(((),x.aA.af,x.aA.aa,x.aA.ai,(),x.aD.af,x.aD.aa,x.aD.ai,()),x.ah,x.aC,()))))
def Ob(a0:Runner)(a1:ax)(a2:Int)(a3:aI):Option apI:=
 match FR a1 with|O=>O|V r1=>if 0<=a2/\a2<a0.fF.ah.length then match m81 a3 a0.fF.ah[a2.toNat]!.af a0.fF.ah[a2.toNat]!.aa with|O=>O|V r2=>if 0<=a2/\a2<r1.ah.length then if 34=34/\a2.toNat<r1.ah.length then V (ax.mk (r1.ah.set a2.toNat r2.fst) r1.aA r1.aC r1.aD)else O else O else O
def ap0:aK->aK:=eL wQ 158 wN (lc (qg 133) (lc (qg 128) (aN (lc (qg 34) ln)))) d158 (fun g=>Ob g.1 g.2.1 g.2.2.1 g.2.2.2.1)
def agQ:EO ap0:=fun h=>kL (an:= .no) func158 (vI (M9 aR)) aB h
structure p6 where
 (t10 t11:Int)
 b0:ax
 b1:aI
 b2:ax
def N8:Td 0 p6:= .c [] [2,3,4,10,11] (.r 0 5 (ec 2 (qp 0 0) (ec 3 (qp 1 0) (ec 4 (qp 2 0) (ec 10 aM (ec 11 aM en))))) (sb 0 128 (lc (qo 3) (aN (aN (aN (lc (qo 4) (aN (aN (aN ln)))))))) (sb 1 34 (lg 34) (sb 2 128 (lc qn (aN (aN (aN (lc qn (aN (aN (aN ln)))))))) (sr 3 34 (sr 4 34 sn))))) (fun z=>⟨z.1.2.2.2.1,z.1.2.2.2.2.1,(ax.mk z.2.2.2.2.1 (aI.mk z.2.1.2.1 z.2.1.2.2.1 z.2.1.2.2.2.1) z.2.2.2.2.2.1 (aI.mk z.2.1.2.2.2.2.2.1 z.2.1.2.2.2.2.2.2.1 z.2.1.2.2.2.2.2.2.2.1)),z.2.2.1,(ax.mk [] (aI.mk z.2.2.2.1.2.1 z.2.2.2.1.2.2.1 z.2.2.2.1.2.2.2.1) [] (aI.mk z.2.2.2.1.2.2.2.2.2.1 z.2.2.2.1.2.2.2.2.2.2.1 z.2.2.2.1.2.2.2.2.2.2.2.1))⟩) (fun x=>(((),(),(),x.t10,x.t11,()),(((),x.b0.aA.af,x.b0.aA.aa,x.b0.aA.ai,(),x.b0.aD.af,x.b0.aD.aa,x.b0.aD.ai,()),x.b1,((),x.b2.aA.af,x.b2.aA.aa,x.b2.aA.ai,(),x.b2.aD.af,x.b2.aD.aa,x.b2.aD.ai,()),x.b0.ah,x.b0.aC,()))))
def Ik(p:p6):Option (Option p6):=
 bif wP (p.t11<p.t10)then match UO p.b0.aA p.t11 with|O=>O|V r1=>bif r1 then if 0<=p.t11/\p.t11<p.b0.aC.length then if 34=34/\p.t11.toNat<p.b0.aC.length then match vR p.b0.aC[p.t11.toNat]! p.b1 with|O=>O|V r2=>if 0<=p.t11/\p.t11<p.b0.aC.length then if 34=34/\p.t11.toNat<p.b0.aC.length then V (V (p6.mk p.t10 (i64.wrap (p.t11+1)) (ax.mk p.b0.ah p.b0.aA (p.b0.aC.set p.t11.toNat r2) p.b0.aD) p.b1 (ax.mk [] p.b2.aA [] p.b2.aD)))else O else O else O else O else V (V (p6.mk p.t10 (i64.wrap (p.t11+1)) p.b0 p.b1 (ax.mk [] p.b2.aA [] p.b2.aD)))else V (O)
def JC:p6->Option p6:=bI (Ik)
abbrev ar5:Type:=ax
def d159:Td 0 ar5:= .c [] [4] (.r 0 3 (ec 4 (qp 0 0) en) (sb 0 128 (lc (qo 1) (aN (aN (aN (lc (qo 2) (aN (aN (aN ln)))))))) (sr 1 34 (sr 2 34 sn))) (fun z=>(ax.mk z.2.2.1 (aI.mk z.2.1.2.1 z.2.1.2.2.1 z.2.1.2.2.2.1) z.2.2.2.1 (aI.mk z.2.1.2.2.2.2.2.1 z.2.1.2.2.2.2.2.2.1 z.2.1.2.2.2.2.2.2.2.1))) (fun x=>(((),()),(((),x.aA.af,x.aA.aa,x.aA.ai,(),x.aD.af,x.aD.aa,x.aD.ai,()),x.ah,x.aC,()))))
def VR(a0:ax)(a1:aI):Option ar5:=
 match FR a0 with|O=>O|V r3=>match JC (p6.mk r3.aC.length 0 r3 a1 (ax.mk [] (aI.mk 0 0 0) [] (aI.mk 0 0 0)))with|O=>O|V r4=>bif wP (r4.t11<r4.t10)then match UO r4.b0.aA r4.t11 with|O=>O|V r5=>bif r5 then if 0<=r4.t11/\r4.t11<r4.b0.aC.length then if 34=34/\r4.t11.toNat<r4.b0.aC.length then match vR r4.b0.aC[r4.t11.toNat]! r4.b1 with|O=>O|V r6=>if 0<=r4.t11/\r4.t11<r4.b0.aC.length then if 34=34/\r4.t11.toNat<r4.b0.aC.length then O else O else O else O else O else O else if(r4.b0.aC++[r4.b1]).length<=1073741824 then match uX 8 r4.b0.aA (Qx 1)with|O=>O|V r7=>V (ax.mk r4.b0.ah r7.fst (r4.b0.aC++[r4.b1]) r4.b0.aD)else O
def aub:aK->aK:=eL wQ 159 wN (lc (qg 128) (lc (qg 34) ln)) d159 (fun g=>VR g.1 g.2.1)
def ad0:EO aub:=fun h=>kL (an:=(noTwo (noTwo (.two (noTwo (N8.lp JC .no)) .no)))) (l:=[(bg f159 0,(N8.lp JC .no))]) func159 (vI (JU (J5 (Ho (IB aR))))) (ay (aO N8) aB) h
abbrev rT:Type:=ax
def d83:Td 0 rT:= .c [] [6] (.r 0 1 (ec 6 (qp 0 0) en) (sb 0 128 (lg 128) sn) (fun z=>z.2.1) (fun x=>(((),()),(x,()))))
def A83:=(lc (qg 133) (lc (ql 166) (lc (qg 128) ln)))
def x83(M:Runner->(List au)->ax->Option rT):aK->aK:=eZ wQ 83 A83 d83 (fun g=>M g.1 g.2.1 g.2.2.1)
def H83(M:Runner->(List au)->ax->Option rT):Prop:=HL wQ 83 A83 d83 (fun g=>M g.1 g.2.1 g.2.2.1)
def OG{M:Runner->(List au)->ax->Option rT}(hM:H83 M){F:aK}(h:bq wQ F):bq wQ (x83 M F):=jj hM ⟨_,func83,by kernel_rfl,by kernel_rfl⟩ (fun _=>by kernel_rfl) h
abbrev iu:Type:=ax
def d156:Td 0 iu:= .c [] [6] (.r 0 1 (ec 6 (qp 0 0) en) (sb 0 128 (lg 128) sn) (fun z=>z.2.1) (fun x=>(((),()),(x,()))))
def ake:=(lc (qg 133) (lc (qg 166) (lc (qg 128) ln)))
def aqe(M:Runner->au->ax->Option iu):aK->aK:=eZ wQ 156 ake d156 (fun g=>M g.1 g.2.1 g.2.2.1)
def Zm(M:Runner->au->ax->Option iu):Prop:=HL wQ 156 ake d156 (fun g=>M g.1 g.2.1 g.2.2.1)
def ack{M:Runner->au->ax->Option iu}(hM:Zm M){F:aK}(h:bq wQ F):bq wQ (aqe M F):=jj hM ⟨_,func156,by kernel_rfl,by kernel_rfl⟩ (fun _=>by kernel_rfl) h
abbrev iz:Type:=ax
def d160:Td 0 iz:= .c [] [6] (.t (cj.fc 0 0 []) (.t (cj.fc 0 4 []) (.c [] [6] (.r 0 1 (ec 6 (qp 0 0) en) (sb 0 128 (lg 128) sn) (fun z=>z.2.1) (fun x=>(((),()),(x,())))))))
def aok:=(lc (qg 133) (lc (qg 166) (lc (qg 128) ln)))
def auW(M:Runner->au->ax->Option iz):aK->aK:=eZ wQ 160 aok d160 (fun g=>M g.1 g.2.1 g.2.2.1)
def Yo(M:Runner->au->ax->Option iz):Prop:=HL wQ 160 aok d160 (fun g=>M g.1 g.2.1 g.2.2.1)
def aec{M:Runner->au->ax->Option iz}(hM:Yo M){F:aK}(h:bq wQ F):bq wQ (auW M F):=jj hM ⟨_,func160,by kernel_rfl,by kernel_rfl⟩ (fun _=>by kernel_rfl) h
def F83(M83:Runner->(List au)->ax->Option rT)(M156:Runner->au->ax->Option iu)(M160:Runner->au->ax->Option iz):aK:=(auT (auW M160 (aub (ap0 (amT (aqe M156 (e82 dg)))))))
def ao9{M83 M156 M160}(h83:H83 M83)(h156:Zm M156)(h160:Yo M160):bq wQ (F83 M83 M156 M160):=(ac4 (aec h160 (ad0 (agQ (RT (ack h156 (Jv aR)))))))
structure nK where
 t9:List au
 (t10 t11:Int)
 b0:Runner
 (b1 b2:ax)
def V3:Td 0 nK:= .c [] [3,5,6,9,10,11] (.t (cj.fc 1 0 []) (.t (cj.fc 1 4 []) (.c [] [3,5,6,9,10,11] (.r 0 3 (ec 3 (qp 0 0) (ec 5 (qp 1 0) (ec 6 (qp 2 0) (ec 9 (ql 166) (ec 10 aM (ec 11 aM en)))))) (sb 0 133 (lg 133) (sb 1 128 (lg 128) (sb 2 128 (lc qn (aN (aN (aN (lc qn (aN (aN (aN ln)))))))) sn))) (fun z=>⟨z.1.2.2.2.1,z.1.2.2.2.2.1,z.1.2.2.2.2.2.1,z.2.1,z.2.2.1,(ax.mk [] (aI.mk z.2.2.2.1.2.1 z.2.2.2.1.2.2.1 z.2.2.2.1.2.2.2.1) [] (aI.mk z.2.2.2.1.2.2.2.2.2.1 z.2.2.2.1.2.2.2.2.2.2.1 z.2.2.2.1.2.2.2.2.2.2.2.1))⟩) (fun x=>(((),(),(),x.t9,x.t10,x.t11,()),(x.b0,x.b1,((),x.b2.aA.af,x.b2.aA.aa,x.b2.aA.ai,(),x.b2.aD.af,x.b2.aD.aa,x.b2.aD.ai,()),())))))))
def Ra(M83:Runner->(List au)->ax->Option rT)(M156:Runner->au->ax->Option iu)(M160:Runner->au->ax->Option iz)(p:nK):Option (Option nK):=
 bif wP (p.t11<p.t10)then if 0<=p.t11/\p.t11<p.t9.length then bif wP (p.t9[p.t11.toNat]!.bN=4)then match M156 p.b0 (au.mk p.t9[p.t11.toNat]!.bN p.t9[p.t11.toNat]!.aQ p.t9[p.t11.toNat]!.cP p.t9[p.t11.toNat]!.fN (aq.mk p.t9[p.t11.toNat]!.az.bf p.t9[p.t11.toNat]!.az.fN p.t9[p.t11.toNat]!.az.ak) p.t9[p.t11.toNat]!.aH p.t9[p.t11.toNat]!.aL p.t9[p.t11.toNat]!.aJ) p.b1 with|O=>O|V r1=>V (V (nK.mk p.t9 p.t10 (i64.wrap (p.t11+1)) p.b0 r1 (ax.mk [] p.b2.aA [] p.b2.aD)))else match Mg p.b1 p.t9[p.t11.toNat]!.aQ with|O=>O|V r2=>bif wP (p.t9[p.t11.toNat]!.bN=0)then match Nz r2 (aq.mk p.t9[p.t11.toNat]!.az.bf p.t9[p.t11.toNat]!.az.fN p.t9[p.t11.toNat]!.az.ak)with|O=>O|V r3=>match Ob p.b0 r2 p.t9[p.t11.toNat]!.cP r3 with|O=>O|V r4=>V (V (nK.mk p.t9 p.t10 (i64.wrap (p.t11+1)) p.b0 r4 (ax.mk [] p.b2.aA [] p.b2.aD)))else bif wP (p.t9[p.t11.toNat]!.bN=5)then if 0<=p.t9[p.t11.toNat]!.fN/\p.t9[p.t11.toNat]!.fN<p.b0.aj.length then match Ob p.b0 r2 p.t9[p.t11.toNat]!.cP p.b0.aj[p.t9[p.t11.toNat]!.fN.toNat]! with|O=>O|V r5=>V (V (nK.mk p.t9 p.t10 (i64.wrap (p.t11+1)) p.b0 r5 (ax.mk [] p.b2.aA [] p.b2.aD)))else O else bif wP (p.t9[p.t11.toNat]!.bN=1)then match Nz r2 (aq.mk p.t9[p.t11.toNat]!.az.bf p.t9[p.t11.toNat]!.az.fN p.t9[p.t11.toNat]!.az.ak)with|O=>O|V r6=>match VR r2 r6 with|O=>O|V r7=>V (V (nK.mk p.t9 p.t10 (i64.wrap (p.t11+1)) p.b0 r7 (ax.mk [] p.b2.aA [] p.b2.aD)))else bif wP (p.t9[p.t11.toNat]!.bN=3)then match M160 p.b0 (au.mk p.t9[p.t11.toNat]!.bN p.t9[p.t11.toNat]!.aQ p.t9[p.t11.toNat]!.cP p.t9[p.t11.toNat]!.fN (aq.mk p.t9[p.t11.toNat]!.az.bf p.t9[p.t11.toNat]!.az.fN p.t9[p.t11.toNat]!.az.ak) p.t9[p.t11.toNat]!.aH p.t9[p.t11.toNat]!.aL p.t9[p.t11.toNat]!.aJ) r2 with|O=>O|V r8=>V (V (nK.mk p.t9 p.t10 (i64.wrap (p.t11+1)) p.b0 r8 (ax.mk [] p.b2.aA [] p.b2.aD)))else bif wP (p.t9[p.t11.toNat]!.bN=6)then match La r2.aD p.t9[p.t11.toNat]!.aJ with|O=>O|V r9=>V (V (nK.mk p.t9 p.t10 (i64.wrap (p.t11+1)) p.b0 (ax.mk r2.ah r2.aA r2.aC r9.fst) (ax.mk [] p.b2.aA [] p.b2.aD)))else V (V (nK.mk p.t9 p.t10 (i64.wrap (p.t11+1)) p.b0 r2 (ax.mk [] p.b2.aA [] p.b2.aD)))else O else V (O)
def S6(M83:Runner->(List au)->ax->Option rT)(M156:Runner->au->ax->Option iu)(M160:Runner->au->ax->Option iz):nK->Option nK:=bI (Ra M83 M156 M160)
def au7(M83:Runner->(List au)->ax->Option rT)(M156:Runner->au->ax->Option iu)(M160:Runner->au->ax->Option iz):An:=(noTwo (.two (noTwo (V3.lp (S6 M83 M156 M160) .no)) .no))
def axB(M83:Runner->(List au)->ax->Option rT)(M156:Runner->au->ax->Option iu)(M160:Runner->au->ax->Option iz):eG wQ (F83 M83 M156 M160) 0 300 83 (au7 M83 M156 M160):=bV (l:=[(bg f83 0,(V3.lp (S6 M83 M156 M160) .no))]) func83 (bG (by kernel_rfl)) (by kernel_rfl) (ay (aO V3) aB)
def s83(M83:Runner->(List au)->ax->Option rT)(M156:Runner->au->ax->Option iu)(M160:Runner->au->ax->Option iz)(a0:Runner)(a1:List au)(a2:ax):Option rT:=
 match S6 M83 M156 M160 (nK.mk a1 a1.length 0 a0 a2 (ax.mk [] (aI.mk 0 0 0) [] (aI.mk 0 0 0)))with|O=>O|V r10=>bif wP (r10.t11<r10.t10)then if 0<=r10.t11/\r10.t11<r10.t9.length then bif wP (r10.t9[r10.t11.toNat]!.bN=4)then match M156 r10.b0 (au.mk r10.t9[r10.t11.toNat]!.bN r10.t9[r10.t11.toNat]!.aQ r10.t9[r10.t11.toNat]!.cP r10.t9[r10.t11.toNat]!.fN (aq.mk r10.t9[r10.t11.toNat]!.az.bf r10.t9[r10.t11.toNat]!.az.fN r10.t9[r10.t11.toNat]!.az.ak) r10.t9[r10.t11.toNat]!.aH r10.t9[r10.t11.toNat]!.aL r10.t9[r10.t11.toNat]!.aJ) r10.b1 with|O=>O|V r11=>O else match Mg r10.b1 r10.t9[r10.t11.toNat]!.aQ with|O=>O|V r12=>bif wP (r10.t9[r10.t11.toNat]!.bN=0)then match Nz r12 (aq.mk r10.t9[r10.t11.toNat]!.az.bf r10.t9[r10.t11.toNat]!.az.fN r10.t9[r10.t11.toNat]!.az.ak)with|O=>O|V r13=>match Ob r10.b0 r12 r10.t9[r10.t11.toNat]!.cP r13 with|O=>O|V r14=>O else bif wP (r10.t9[r10.t11.toNat]!.bN=5)then if 0<=r10.t9[r10.t11.toNat]!.fN/\r10.t9[r10.t11.toNat]!.fN<r10.b0.aj.length then match Ob r10.b0 r12 r10.t9[r10.t11.toNat]!.cP r10.b0.aj[r10.t9[r10.t11.toNat]!.fN.toNat]! with|O=>O|V r15=>O else O else bif wP (r10.t9[r10.t11.toNat]!.bN=1)then match Nz r12 (aq.mk r10.t9[r10.t11.toNat]!.az.bf r10.t9[r10.t11.toNat]!.az.fN r10.t9[r10.t11.toNat]!.az.ak)with|O=>O|V r16=>match VR r12 r16 with|O=>O|V r17=>O else bif wP (r10.t9[r10.t11.toNat]!.bN=3)then match M160 r10.b0 (au.mk r10.t9[r10.t11.toNat]!.bN r10.t9[r10.t11.toNat]!.aQ r10.t9[r10.t11.toNat]!.cP r10.t9[r10.t11.toNat]!.fN (aq.mk r10.t9[r10.t11.toNat]!.az.bf r10.t9[r10.t11.toNat]!.az.fN r10.t9[r10.t11.toNat]!.az.ak) r10.t9[r10.t11.toNat]!.aH r10.t9[r10.t11.toNat]!.aL r10.t9[r10.t11.toNat]!.aJ) r12 with|O=>O|V r18=>O else bif wP (r10.t9[r10.t11.toNat]!.bN=6)then match La r12.aD r10.t9[r10.t11.toNat]!.aJ with|O=>O|V r19=>O else O else O else V (r10.b1)
def c83(M83:Runner->(List au)->ax->Option rT)(M156:Runner->au->ax->Option iu)(M160:Runner->au->ax->Option iz)(a0:Runner)(a1:List au)(a2:ax):bU wQ (F83 M83 M156 M160) 300 (au7 M83 M156 M160) 83 (A83.c (a0,a1,a2,())) [] 0 d83.rd=s83 M83 M156 M160 a0 a1 a2:=by kernel_rfl
def alp(M83:Runner->(List au)->ax->Option rT)(M156:Runner->au->ax->Option iu)(M160:Runner->au->ax->Option iz):aK:=(amh (alk (amT (aeC (x83 M83 (e82 dg))))))
def aaN{M83 M156 M160}(h83:H83 M83)(h156:Zm M156)(h160:Yo M160):bq wQ (alp M83 M156 M160):=(Tm (vI (RT (Ii (OG h83 (Jv aR))))))
structure kg where
 t53:List ax
 (t54 t55:Int)
 (b0 b1:ax)
def P5:Td 0 kg:= .c [] [6,11,53,54,55] (.t (cj.fc 1 0 []) (.t (cj.fc 1 4 []) (.c [] [6,11,53,54,55] (.r 0 2 (ec 6 (qp 0 0) (ec 11 (qp 1 0) (ec 53 (ql 128) (ec 54 aM (ec 55 aM en))))) (sb 0 128 (lc qn (aN (aN (aN (lc qn (aN (aN (aN ln)))))))) (sb 1 128 (lg 128) sn)) (fun z=>⟨z.1.2.2.1,z.1.2.2.2.1,z.1.2.2.2.2.1,(ax.mk [] (aI.mk z.2.1.2.1 z.2.1.2.2.1 z.2.1.2.2.2.1) [] (aI.mk z.2.1.2.2.2.2.2.1 z.2.1.2.2.2.2.2.2.1 z.2.1.2.2.2.2.2.2.2.1)),z.2.2.1⟩) (fun x=>(((),(),x.t53,x.t54,x.t55,()),(((),x.b0.aA.af,x.b0.aA.aa,x.b0.aA.ai,(),x.b0.aD.af,x.b0.aD.aa,x.b0.aD.ai,()),x.b1,())))))))
def Jg(M83:Runner->(List au)->ax->Option rT)(M156:Runner->au->ax->Option iu)(M160:Runner->au->ax->Option iz)(p:kg):Option (Option kg):=
 bif wP (p.t55<p.t54)then if 0<=p.t55/\p.t55<p.t53.length then match Jb p.b1 p.t53[p.t55.toNat]! with|O=>O|V r7=>V (V (kg.mk p.t53 p.t54 (i64.wrap (p.t55+1)) (ax.mk [] p.b0.aA [] p.b0.aD) r7))else O else V (O)
def pY(M83:Runner->(List au)->ax->Option rT)(M156:Runner->au->ax->Option iu)(M160:Runner->au->ax->Option iz):kg->Option kg:=bI (Jg M83 M156 M160)
structure pq where
 t7:List ax
 t8:Bool
 (t15 t16:Int)
 b0:Runner
 b1:au
 (b2 b3:ax)
def NS:Td 0 pq:= .c [] [3,4,5,6,7,8,15,16] (.t (cj.s 7 [] 128) (.c [] [3,4,5,6,7,8,15,16] (.r 0 5 (ec 3 (qp 0 0) (ec 4 (qp 1 0) (ec 5 (qp 2 0) (ec 6 (qp 3 0) (ec 7 (qo 4) (ec 8 qb (ec 15 aM (ec 16 aM en)))))))) (sb 0 133 (lg 133) (sb 1 166 (lg 166) (sb 2 128 (lg 128) (sb 3 128 (lc qn (aN (aN (aN (lc qn (aN (aN (aN ln)))))))) (sr 4 128 sn))))) (fun z=>⟨z.2.2.2.2.2.1,z.1.2.2.2.2.2.1,z.1.2.2.2.2.2.2.1,z.1.2.2.2.2.2.2.2.1,z.2.1,z.2.2.1,z.2.2.2.1,(ax.mk [] (aI.mk z.2.2.2.2.1.2.1 z.2.2.2.2.1.2.2.1 z.2.2.2.2.1.2.2.2.1) [] (aI.mk z.2.2.2.2.1.2.2.2.2.2.1 z.2.2.2.2.1.2.2.2.2.2.2.1 z.2.2.2.2.1.2.2.2.2.2.2.2.1))⟩) (fun x=>(((),(),(),(),(),x.t8,x.t15,x.t16,()),(x.b0,x.b1,x.b2,((),x.b3.aA.af,x.b3.aA.aa,x.b3.aA.ai,(),x.b3.aD.af,x.b3.aD.aa,x.b3.aD.ai,()),x.t7,()))))))
def Ar(M83:Runner->(List au)->ax->Option rT)(M156:Runner->au->ax->Option iu)(M160:Runner->au->ax->Option iz)(p:pq):Option (Option pq):=
 bif wP (p.t16<p.t15)then match Mg p.b2 p.b1.aQ with|O=>O|V r1=>match Nz r1 (aq.mk p.b1.az.bf p.b1.az.fN p.b1.az.ak)with|O=>O|V r2=>match Pq r2 with|O=>O|V r3=>bif r3.fst then match FR r1 with|O=>O|V r4=>if(p.t7++[r4]).length<=1073741824 then bif bif r3.snd then wN else wO then V (O)else match M83 p.b0 p.b1.aH r1 with|O=>O|V r5=>V (V (pq.mk (p.t7++[r4]) p.t8 p.t15 (i64.wrap (p.t16+1)) p.b0 (au.mk p.b1.bN p.b1.aQ p.b1.cP p.b1.fN (aq.mk p.b1.az.bf p.b1.az.fN p.b1.az.ak) p.b1.aH p.b1.aL p.b1.aJ) r5 (ax.mk [] p.b3.aA [] p.b3.aD)))else O else bif bif r3.snd then wN else wO then V (O)else match M83 p.b0 p.b1.aH r1 with|O=>O|V r6=>V (V (pq.mk p.t7 p.t8 p.t15 (i64.wrap (p.t16+1)) p.b0 (au.mk p.b1.bN p.b1.aQ p.b1.cP p.b1.fN (aq.mk p.b1.az.bf p.b1.az.fN p.b1.az.ak) p.b1.aH p.b1.aL p.b1.aJ) r6 (ax.mk [] p.b3.aA [] p.b3.aD)))else V (O)
def JW(M83:Runner->(List au)->ax->Option rT)(M156:Runner->au->ax->Option iu)(M160:Runner->au->ax->Option iz):pq->Option pq:=bI (Ar M83 M156 M160)
def ajv(M83:Runner->(List au)->ax->Option rT)(M156:Runner->au->ax->Option iu)(M160:Runner->au->ax->Option iz):An:=(noTwo (noTwo (noTwo (.two (noTwo (NS.lp (JW M83 M156 M160) .no)) (noTwo (noTwo (.two (noTwo (P5.lp (pY M83 M156 M160) .no)) .no)))))))
def avf(M83:Runner->(List au)->ax->Option rT)(M156:Runner->au->ax->Option iu)(M160:Runner->au->ax->Option iz):eG wQ (alp M83 M156 M160) 0 300 156 (ajv M83 M156 M160):=bV (l:=[(bg f156 0,(NS.lp (JW M83 M156 M160) .no)),(bg f156 1,(P5.lp (pY M83 M156 M160) .no))]) func156 (bG (by kernel_rfl)) (by kernel_rfl) (ay (aO NS) (ay (aO P5) aB))
def adI(M83:Runner->(List au)->ax->Option rT)(M156:Runner->au->ax->Option iu)(M160:Runner->au->ax->Option iz)(a0:Runner)(a1:au)(a2:ax):Option iu:=
 match JW M83 M156 M160 (pq.mk [] wO a1.fN 0 a0 (au.mk a1.bN a1.aQ a1.cP a1.fN (aq.mk a1.az.bf a1.az.fN a1.az.ak) a1.aH a1.aL a1.aJ) a2 (ax.mk [] (aI.mk 0 0 0) [] (aI.mk 0 0 0)))with|O=>O|V r8=>bif wP (r8.t16<r8.t15)then match Mg r8.b2 r8.b1.aQ with|O=>O|V r9=>match Nz r9 (aq.mk r8.b1.az.bf r8.b1.az.fN r8.b1.az.ak)with|O=>O|V r10=>match Pq r10 with|O=>O|V r11=>bif r11.fst then match FR r9 with|O=>O|V r12=>if(r8.t7++[r12]).length<=1073741824 then bif bif r11.snd then wN else wO then if(0:Int)<=(0:Int)/\(0:Int)<(↑(r8.t7++[r12]).length:Int)then if 128=128/\0<(r8.t7++[r12]).length then if(0:Int)<=(1:Int)/\(1:Int)<=(↑(r8.t7++[r12]).length:Int)then match pY M83 M156 M160 (kg.mk (z7 1 (r8.t7++[r12])) (↑(z7 1 (r8.t7++[r12])).length:Int) 0 (ax.mk [] r8.b3.aA [] r8.b3.aD) (r8.t7++[r12])[0]!)with|O=>O|V r13=>bif wP (r13.t55<r13.t54)then if 0<=r13.t55/\r13.t55<r13.t53.length then match Jb r13.b1 r13.t53[r13.t55.toNat]! with|O=>O|V r14=>O else O else V (r13.b1)else O else O else O else match M83 r8.b0 r8.b1.aH r9 with|O=>O|V r15=>O else O else bif bif r11.snd then wN else wO then if(0:Int)<=(0:Int)/\(0:Int)<r8.t7.length then if 128=128/\0<r8.t7.length then if(0:Int)<=(1:Int)/\(1:Int)<=r8.t7.length then match pY M83 M156 M160 (kg.mk (z7 1 r8.t7) (↑(z7 1 r8.t7).length:Int) 0 (ax.mk [] r8.b3.aA [] r8.b3.aD) r8.t7[0]!)with|O=>O|V r16=>bif wP (r16.t55<r16.t54)then if 0<=r16.t55/\r16.t55<r16.t53.length then match Jb r16.b1 r16.t53[r16.t55.toNat]! with|O=>O|V r17=>O else O else V (r16.b1)else O else O else O else match M83 r8.b0 r8.b1.aH r9 with|O=>O|V r18=>O else bif r8.t8 then if(r8.t7++[r8.b2]).length<=1073741824 then if(0:Int)<=(0:Int)/\(0:Int)<(↑(r8.t7++[r8.b2]).length:Int)then if 128=128/\0<(r8.t7++[r8.b2]).length then if(0:Int)<=(1:Int)/\(1:Int)<=(↑(r8.t7++[r8.b2]).length:Int)then match pY M83 M156 M160 (kg.mk (z7 1 (r8.t7++[r8.b2])) (↑(z7 1 (r8.t7++[r8.b2])).length:Int) 0 (ax.mk [] r8.b3.aA [] r8.b3.aD) (r8.t7++[r8.b2])[0]!)with|O=>O|V r19=>bif wP (r19.t55<r19.t54)then if 0<=r19.t55/\r19.t55<r19.t53.length then match Jb r19.b1 r19.t53[r19.t55.toNat]! with|O=>O|V r20=>O else O else V (r19.b1)else O else O else O else O else if(0:Int)<=(0:Int)/\(0:Int)<r8.t7.length then if 128=128/\0<r8.t7.length then if(0:Int)<=(1:Int)/\(1:Int)<=r8.t7.length then match pY M83 M156 M160 (kg.mk (z7 1 r8.t7) (↑(z7 1 r8.t7).length:Int) 0 (ax.mk [] r8.b3.aA [] r8.b3.aD) r8.t7[0]!)with|O=>O|V r21=>bif wP (r21.t55<r21.t54)then if 0<=r21.t55/\r21.t55<r21.t53.length then match Jb r21.b1 r21.t53[r21.t55.toNat]! with|O=>O|V r22=>O else O else V (r21.b1)else O else O else O
def az8(M83:Runner->(List au)->ax->Option rT)(M156:Runner->au->ax->Option iu)(M160:Runner->au->ax->Option iz)(a0:Runner)(a1:au)(a2:ax):bU wQ (alp M83 M156 M160) 300 (ajv M83 M156 M160) 156 (ake.c (a0,a1,a2,())) [] 0 d156.rd=adI M83 M156 M160 a0 a1 a2:=by kernel_rfl
def an2(M83:Runner->(List au)->ax->Option rT)(M156:Runner->au->ax->Option iu)(M160:Runner->au->ax->Option iz):aK:=(amh (alk (aeC (x83 M83 (e82 dg)))))
def agz{M83 M156 M160}(h83:H83 M83)(h156:Zm M156)(h160:Yo M160):bq wQ (an2 M83 M156 M160):=(Tm (vI (Ii (OG h83 (Jv aR)))))
def ah0(M83:Runner->(List au)->ax->Option rT)(M156:Runner->au->ax->Option iu)(M160:Runner->au->ax->Option iz):An:= .no
def aqT(M83:Runner->(List au)->ax->Option rT)(M156:Runner->au->ax->Option iu)(M160:Runner->au->ax->Option iz):eG wQ (an2 M83 M156 M160) 0 300 160 (ah0 M83 M156 M160):=bV (l:=[]) func160 (bG (by kernel_rfl)) (by kernel_rfl) aB
def adJ(M83:Runner->(List au)->ax->Option rT)(M156:Runner->au->ax->Option iu)(M160:Runner->au->ax->Option iz)(a0:Runner)(a1:au)(a2:ax):Option iz:=
 match Nz a2 (aq.mk a1.az.bf a1.az.fN a1.az.ak)with|O=>O|V r1=>match Pq r1 with|O=>O|V r2=>bif bif r2.fst then wN else wO then match M83 a0 a1.aH a2 with|O=>O|V r3=>V (r3)else bif bif r2.snd then wN else wO then match M83 a0 a1.aL a2 with|O=>O|V r4=>V (r4)else match FR a2 with|O=>O|V r5=>match M83 a0 a1.aH r5 with|O=>O|V r6=>match FR a2 with|O=>O|V r7=>match M83 a0 a1.aL r7 with|O=>O|V r8=>match Jb r6 r8 with|O=>O|V r9=>V (r9)
def ayC(M83:Runner->(List au)->ax->Option rT)(M156:Runner->au->ax->Option iu)(M160:Runner->au->ax->Option iz)(a0:Runner)(a1:au)(a2:ax):bU wQ (an2 M83 M156 M160) 300 (ah0 M83 M156 M160) 160 (aok.c (a0,a1,a2,())) [] 0 d160.rd=adJ M83 M156 M160 a0 a1 a2:=by kernel_rfl
def dD:Nat->(Runner->(List au)->ax->Option rT)×(Runner->au->ax->Option iu)×(Runner->au->ax->Option iz)
 |0=>(fun _ _ _=>O,fun _ _ _=>O,fun _ _ _=>O)
 |n+1=>(s83 (dD n).1 (dD n).2.1 (dD n).2.2,adI (dD n).1 (dD n).2.1 (dD n).2.2,adJ (dD n).1 (dD n).2.1 (dD n).2.2)
def Vi(n:Nat):Runner->(List au)->ax->Option rT:=(dD n).1
def C4(n:Nat):Runner->au->ax->Option iu:=(dD n).2.1
def Dz(n:Nat):Runner->au->ax->Option iz:=(dD n).2.2
def oM:∀n,H83 (Vi n)/\Zm (C4 n)/\Yo (Dz n)
 |0=>⟨fun _ _ h=>(by cases h),fun _ _ h=>(by cases h),fun _ _ h=>(by cases h)⟩
 |n+1=>by
  have ih:=oM n
  obtain⟨i83,i156,i160⟩:=ih
  refine⟨?_,?_,?_⟩
  ·exact(dG (ao9 i83 i156 i160) (axB (Vi n) (C4 n) (Dz n)) (fun _=>by kernel_rfl) (fun _=>by kernel_rfl) fun g=>c83 (Vi n) (C4 n) (Dz n) g.1 g.2.1 g.2.2.1)
  ·exact(dG (aaN i83 i156 i160) (avf (Vi n) (C4 n) (Dz n)) (fun _=>by kernel_rfl) (fun _=>by kernel_rfl) fun g=>az8 (Vi n) (C4 n) (Dz n) g.1 g.2.1 g.2.2.1)
  ·exact(dG (agz i83 i156 i160) (aqT (Vi n) (C4 n) (Dz n)) (fun _=>by kernel_rfl) (fun _=>by kernel_rfl) fun g=>ayC (Vi n) (C4 n) (Dz n) g.1 g.2.1 g.2.2.1)
def r83:Runner->(List au)->ax->Option rT:=fun a0 a1 a2=>lim (fun n=>Vi n a0 a1 a2)
def aoA:H83 r83:=fun g b h=>by
 obtain⟨n,hn⟩:=cT (show lim (fun n=>Vi n g.1 g.2.1 g.2.2.1)=V b from h)
 exact(oM n).1 g b hn
def e83(F:aK):aK:=x83 r83 F
def amo{F:aK}(h:bq wQ F):bq wQ (e83 F):=OG aoA h
abbrev arU:Type:=aI
def d168:Td 0 arU:= .c [] [4] (.r 0 1 (ec 4 (qp 0 0) en) (sb 0 34 (lg 34) sn) (fun z=>z.2.1) (fun x=>(((),()),(x,()))))
def U6(a0:aI)(a1:Int):Option arU:=
 match ow (8) a0 (m36 a1)with|O=>O|V r1=>V (r1.fst)
def aeH:aK->aK:=eL wQ 168 wN (lc (qg 34) (aN ln)) d168 (fun g=>U6 g.1 g.2.1)
def Ie:EO aeH:=fun h=>kL (an:= .no) func168 (SD (Io aR)) aB h
structure oz where
 (t48 t49:Int)
 (b0 b1 b2 b3:aG)
def PW:Td 0 oz:= .c [] [2,3,4,5,48,49] (.t (cj.c 3 4 [] 34) (.c [] [2,3,4,5,48,49] (.r 0 6 (ec 2 (qp 0 0) (ec 3 (qp 1 0) (ec 4 (qp 2 0) (ec 5 (qp 3 0) (ec 48 aM (ec 49 aM en)))))) (sb 0 147 (lg 147) (sb 1 147 (lg 147) (sb 2 147 (lc qn (aN (aN (aN (lc qn (aN (aN (aN ln)))))))) (sb 3 147 (lc (qo 4) (aN (aN (aN (lc (qo 5) (aN (aN (aN ln)))))))) (sr 4 34 (sr 5 34 sn)))))) (fun z=>⟨z.1.2.2.2.2.1,z.1.2.2.2.2.2.1,z.2.1,z.2.2.1,(aG.mk [] (aI.mk z.2.2.2.1.2.1 z.2.2.2.1.2.2.1 z.2.2.2.1.2.2.2.1) [] (aI.mk z.2.2.2.1.2.2.2.2.2.1 z.2.2.2.1.2.2.2.2.2.2.1 z.2.2.2.1.2.2.2.2.2.2.2.1)),(aG.mk z.2.2.2.2.2.1 (aI.mk z.2.2.2.2.1.2.1 z.2.2.2.2.1.2.2.1 z.2.2.2.2.1.2.2.2.1) z.2.2.2.2.2.2.1 (aI.mk z.2.2.2.2.1.2.2.2.2.2.1 z.2.2.2.2.1.2.2.2.2.2.2.1 z.2.2.2.2.1.2.2.2.2.2.2.2.1))⟩) (fun x=>(((),(),(),(),x.t48,x.t49,()),(x.b0,x.b1,((),x.b2.aA.af,x.b2.aA.aa,x.b2.aA.ai,(),x.b2.aD.af,x.b2.aD.aa,x.b2.aD.ai,()),((),x.b3.aA.af,x.b3.aA.aa,x.b3.aA.ai,(),x.b3.aD.af,x.b3.aD.aa,x.b3.aD.ai,()),x.b3.ah,x.b3.aC,()))))))
def aks(p:oz):Option (Option oz):=
 bif wP (p.t49<p.t48)then bif wP (p.b0.aC.length<=p.t49)then if 0<=p.t49/\p.t49<p.b1.aC.length then if(p.b3.aC++[p.b1.aC[p.t49.toNat]!]).length<=1073741824 then V (V (oz.mk p.t48 (i64.wrap (p.t49+1)) p.b0 p.b1 (aG.mk [] p.b2.aA [] p.b2.aD) (aG.mk p.b3.ah p.b3.aA (p.b3.aC++[p.b1.aC[p.t49.toNat]!]) p.b3.aD)))else O else O else bif wP (p.b1.aC.length<=p.t49)then if 0<=p.t49/\p.t49<p.b0.aC.length then if(p.b3.aC++[p.b0.aC[p.t49.toNat]!]).length<=1073741824 then V (V (oz.mk p.t48 (i64.wrap (p.t49+1)) p.b0 p.b1 (aG.mk [] p.b2.aA [] p.b2.aD) (aG.mk p.b3.ah p.b3.aA (p.b3.aC++[p.b0.aC[p.t49.toNat]!]) p.b3.aD)))else O else O else if 0<=p.t49/\p.t49<p.b0.aC.length then if 0<=p.t49/\p.t49<p.b1.aC.length then match kH p.b0.aC[p.t49.toNat]! p.b1.aC[p.t49.toNat]! with|O=>O|V r2=>if(p.b3.aC++[r2]).length<=1073741824 then V (V (oz.mk p.t48 (i64.wrap (p.t49+1)) p.b0 p.b1 (aG.mk [] p.b2.aA [] p.b2.aD) (aG.mk p.b3.ah p.b3.aA (p.b3.aC++[r2]) p.b3.aD)))else O else O else O else V (O)
def MV:oz->Option oz:=bI (aks)
structure ux where
 (t21 t22:Int)
 (b0 b1 b2 b3:aG)
def OB:Td 0 ux:= .c [] [2,3,4,5,21,22] (.t (cj.c 3 0 [] 34) (.c [] [2,3,4,5,21,22] (.r 0 5 (ec 2 (qp 0 0) (ec 3 (qp 1 0) (ec 4 (qp 2 0) (ec 5 (qp 3 0) (ec 21 aM (ec 22 aM en)))))) (sb 0 147 (lg 147) (sb 1 147 (lg 147) (sb 2 147 (lc qn (aN (aN (aN (lc qn (aN (aN (aN ln)))))))) (sb 3 147 (lc (qo 4) (aN (aN (aN (lc qn (aN (aN (aN ln)))))))) (sr 4 34 sn))))) (fun z=>⟨z.1.2.2.2.2.1,z.1.2.2.2.2.2.1,z.2.1,z.2.2.1,(aG.mk [] (aI.mk z.2.2.2.1.2.1 z.2.2.2.1.2.2.1 z.2.2.2.1.2.2.2.1) [] (aI.mk z.2.2.2.1.2.2.2.2.2.1 z.2.2.2.1.2.2.2.2.2.2.1 z.2.2.2.1.2.2.2.2.2.2.2.1)),(aG.mk z.2.2.2.2.2.1 (aI.mk z.2.2.2.2.1.2.1 z.2.2.2.2.1.2.2.1 z.2.2.2.2.1.2.2.2.1) [] (aI.mk z.2.2.2.2.1.2.2.2.2.2.1 z.2.2.2.2.1.2.2.2.2.2.2.1 z.2.2.2.2.1.2.2.2.2.2.2.2.1))⟩) (fun x=>(((),(),(),(),x.t21,x.t22,()),(x.b0,x.b1,((),x.b2.aA.af,x.b2.aA.aa,x.b2.aA.ai,(),x.b2.aD.af,x.b2.aD.aa,x.b2.aD.ai,()),((),x.b3.aA.af,x.b3.aA.aa,x.b3.aA.ai,(),x.b3.aD.af,x.b3.aD.aa,x.b3.aD.ai,()),x.b3.ah,()))))))
def amI(p:ux):Option (Option ux):=
 bif wP (p.t22<p.t21)then if 0<=p.t22/\p.t22<p.b0.ah.length then if 0<=p.t22/\p.t22<p.b1.ah.length then match kH p.b0.ah[p.t22.toNat]! p.b1.ah[p.t22.toNat]! with|O=>O|V r1=>if(p.b3.ah++[r1]).length<=1073741824 then V (V (ux.mk p.t21 (i64.wrap (p.t22+1)) p.b0 p.b1 (aG.mk [] p.b2.aA [] p.b2.aD) (aG.mk (p.b3.ah++[r1]) p.b3.aA [] p.b3.aD)))else O else O else O else V (O)
def NL:ux->Option ux:=bI (amI)
abbrev avG:Type:=aG
def d171:Td 0 avG:= .c [] [4] (.r 0 3 (ec 4 (qp 0 0) en) (sb 0 147 (lc (qo 1) (aN (aN (aN (lc (qo 2) (aN (aN (aN ln)))))))) (sr 1 34 (sr 2 34 sn))) (fun z=>(aG.mk z.2.2.1 (aI.mk z.2.1.2.1 z.2.1.2.2.1 z.2.1.2.2.2.1) z.2.2.2.1 (aI.mk z.2.1.2.2.2.2.2.1 z.2.1.2.2.2.2.2.2.1 z.2.1.2.2.2.2.2.2.2.1))) (fun x=>(((),()),(((),x.aA.af,x.aA.aa,x.aA.ai,(),x.aD.af,x.aD.aa,x.aD.ai,()),x.ah,x.aC,()))))
def YO(a0:aG)(a1:aG):Option avG:=
 match kH a0.aA a1.aA with|O=>O|V r3=>match kH a0.aD a1.aD with|O=>O|V r4=>match NL (ux.mk a0.ah.length 0 a0 a1 (aG.mk [] (aI.mk 0 0 0) [] (aI.mk 0 0 0)) (aG.mk [] r3 [] r4))with|O=>O|V r5=>bif wP (r5.t22<r5.t21)then if 0<=r5.t22/\r5.t22<r5.b0.ah.length then if 0<=r5.t22/\r5.t22<r5.b1.ah.length then match kH r5.b0.ah[r5.t22.toNat]! r5.b1.ah[r5.t22.toNat]! with|O=>O|V r6=>if(r5.b3.ah++[r6]).length<=1073741824 then O else O else O else O else match MV (oz.mk (if(↑r5.b0.aC.length:Int)<(↑r5.b1.aC.length:Int)then(↑r5.b1.aC.length:Int)else(↑r5.b0.aC.length:Int)) 0 r5.b0 r5.b1 (aG.mk [] r5.b2.aA [] r5.b2.aD) (aG.mk r5.b3.ah r5.b3.aA [] r5.b3.aD))with|O=>O|V r7=>bif wP (r7.t49<r7.t48)then bif wP (r7.b0.aC.length<=r7.t49)then if 0<=r7.t49/\r7.t49<r7.b1.aC.length then if(r7.b3.aC++[r7.b1.aC[r7.t49.toNat]!]).length<=1073741824 then O else O else O else bif wP (r7.b1.aC.length<=r7.t49)then if 0<=r7.t49/\r7.t49<r7.b0.aC.length then if(r7.b3.aC++[r7.b0.aC[r7.t49.toNat]!]).length<=1073741824 then O else O else O else if 0<=r7.t49/\r7.t49<r7.b0.aC.length then if 0<=r7.t49/\r7.t49<r7.b1.aC.length then match kH r7.b0.aC[r7.t49.toNat]! r7.b1.aC[r7.t49.toNat]! with|O=>O|V r8=>if(r7.b3.aC++[r8]).length<=1073741824 then O else O else O else O else V (r7.b3)
def aj0:aK->aK:=eL wQ 171 wN (lc (qg 147) (lc (qg 147) ln)) d171 (fun g=>YO g.1 g.2.1)
def Sw:EO aj0:=fun h=>kL (an:=(noTwo (noTwo (.two (noTwo (OB.lp NL .no)) (.two (noTwo (PW.lp MV .no)) .no))))) (l:=[(bg f171 0,(OB.lp NL .no)),(bg f171 1,(PW.lp MV .no))]) func171 (rL aR) (ay (aO OB) (ay (aO PW) aB)) h
def am6:aK:=(aj0 dg)
def aeF:bq wQ am6:=(Sw aR)
structure uB where
 t10:List aG
 (t11 t12:Int)
 (b0 b1:aG)
def M1:Td 0 uB:= .c [] [2,3,10,11,12] (.t (cj.fc 1 0 []) (.t (cj.fc 1 4 []) (.c [] [2,3,10,11,12] (.r 0 2 (ec 2 (qp 0 0) (ec 3 (qp 1 0) (ec 10 (ql 147) (ec 11 aM (ec 12 aM en))))) (sb 0 147 (lc qn (aN (aN (aN (lc qn (aN (aN (aN ln)))))))) (sb 1 147 (lg 147) sn)) (fun z=>⟨z.1.2.2.1,z.1.2.2.2.1,z.1.2.2.2.2.1,(aG.mk [] (aI.mk z.2.1.2.1 z.2.1.2.2.1 z.2.1.2.2.2.1) [] (aI.mk z.2.1.2.2.2.2.2.1 z.2.1.2.2.2.2.2.2.1 z.2.1.2.2.2.2.2.2.2.1)),z.2.2.1⟩) (fun x=>(((),(),x.t10,x.t11,x.t12,()),(((),x.b0.aA.af,x.b0.aA.aa,x.b0.aA.ai,(),x.b0.aD.af,x.b0.aD.aa,x.b0.aD.ai,()),x.b1,())))))))
def alr(p:uB):Option (Option uB):=
 bif wP (p.t12<p.t11)then if 0<=p.t12/\p.t12<p.t10.length then match YO p.b1 p.t10[p.t12.toNat]! with|O=>O|V r1=>V (V (uB.mk p.t10 p.t11 (i64.wrap (p.t12+1)) (aG.mk [] p.b0.aA [] p.b0.aD) r1))else O else V (O)
def OS:uB->Option uB:=bI (alr)
abbrev at1:Type:=aG
def d247:Td 0 at1:= .c [] [2] (.r 0 1 (ec 2 (qp 0 0) en) (sb 0 147 (lg 147) sn) (fun z=>z.2.1) (fun x=>(((),()),(x,()))))
def att:=(lc (ql 147) ln)
def ai4:An:=(noTwo (noTwo (.two (noTwo (M1.lp OS .no)) .no)))
def aud:eG wQ (am6) 0 300 247 (ai4):=bV (l:=[(bg f247 0,(M1.lp OS .no))]) func247 (bG (by kernel_rfl)) (by kernel_rfl) (ay (aO M1) aB)
def OY(a0:List aG):Option at1:=
 if(0:Int)<=(0:Int)/\(0:Int)<a0.length then if(0:Int)<=(1:Int)/\(1:Int)<=a0.length then match OS (uB.mk (z7 1 a0) (↑(z7 1 a0).length:Int) 0 (aG.mk [] (aI.mk 0 0 0) [] (aI.mk 0 0 0)) a0[0]!)with|O=>O|V r2=>bif wP (r2.t12<r2.t11)then if 0<=r2.t12/\r2.t12<r2.t10.length then match YO r2.b1 r2.t10[r2.t12.toNat]! with|O=>O|V r3=>O else O else V (r2.b1)else O else O
def aym(a0:List aG):bU wQ (am6) 300 (ai4) 247 (att.c (a0,())) [] 0 d247.rd=OY a0:=by kernel_rfl
def aur:aK->aK:=eZ wQ 247 att d247 (fun g=>OY g.1)
def aeI{F:aK}(h:bq wQ F):bq wQ (aur F):=jj (dG aeF aud (fun _=>by kernel_rfl) (fun _=>by kernel_rfl) fun g=>aym g.1) ⟨_,func247,by kernel_rfl,by kernel_rfl⟩ (fun _=>by kernel_rfl) h
def ak3:aK:=(e86 dg)
def afJ:bq wQ ak3:=(O2 aR)
abbrev avN:Type:=aG
def d169:Td 0 avN:= .c [] [8] (.r 0 2 (ec 8 (qp 0 0) en) (sb 0 147 (lc (qo 1) (aN (aN (aN (lc (ql 34) (aN (aN (aN ln)))))))) (sr 1 34 sn)) (fun z=>(aG.mk z.2.2.1 (aI.mk z.2.1.2.1 z.2.1.2.2.1 z.2.1.2.2.2.1) z.2.1.2.2.2.2.1 (aI.mk z.2.1.2.2.2.2.2.1 z.2.1.2.2.2.2.2.2.1 z.2.1.2.2.2.2.2.2.2.1))) (fun x=>(((),()),(((),x.aA.af,x.aA.aa,x.aA.ai,x.aC,x.aD.af,x.aD.aa,x.aD.ai,()),x.ah,()))))
def apQ:=(lc (qg 26) (lc (qg 147) (aN (lc (qg 34) ln))))
def aiP:An:= .no
def as5:eG wQ (ak3) 0 300 169 (aiP):=bV (l:=[]) func169 (bG (by kernel_rfl)) (by kernel_rfl) aB
def TS(a0:aP)(a1:aG)(a2:Int)(a3:aI):Option avN:=
 if([]++a1.ah).length<=1073741824 then if 0<=a2/\a2<a0.ah.length then if 0<=a2/\a2<a0.ah.length then match m86 a3 a0.ah[a2.toNat]!.af a0.ah[a2.toNat]!.aa with|O=>O|V r1=>if 0<=a2/\a2<(↑([]++a1.ah).length:Int)then if 34=34/\a2.toNat<([]++a1.ah).length then V (aG.mk (([]++a1.ah).set a2.toNat r1.fst) a1.aA a1.aC a1.aD)else O else O else O else O else O
def axE(a0:aP)(a1:aG)(a2:Int)(a3:aI):bU wQ (ak3) 300 (aiP) 169 (apQ.c (a0,a1,a2,a3,())) [] 0 d169.rd=TS a0 a1 a2 a3:=by kernel_rfl
def au1:aK->aK:=eZ wQ 169 apQ d169 (fun g=>TS g.1 g.2.1 g.2.2.1 g.2.2.2.1)
def ada{F:aK}(h:bq wQ F):bq wQ (au1 F):=jj (dG afJ as5 (fun _=>by kernel_rfl) (fun _=>by kernel_rfl) fun g=>axE g.1 g.2.1 g.2.2.1 g.2.2.2.1) ⟨_,func169,by kernel_rfl,by kernel_rfl⟩ (fun _=>by kernel_rfl) h
def amv:aK:=(aeH (T2 (e32 dg)))
def ab0:bq wQ amv:=(Ie (rL (Bj aR)))
structure rj where
 t5:List aI
 (t12 t13:Int)
 b0:aG
 b1:aI
 b2:aG
def Nr:Td 0 rj:= .c [] [2,3,4,5,12,13] (.r 0 4 (ec 2 (qp 0 0) (ec 3 (qp 1 0) (ec 4 (qp 2 0) (ec 5 (qo 3) (ec 12 aM (ec 13 aM en)))))) (sb 0 147 (lg 147) (sb 1 34 (lg 34) (sb 2 147 (lc qn (aN (aN (aN (lc qn (aN (aN (aN ln)))))))) (sr 3 34 sn)))) (fun z=>⟨z.2.2.2.2.1,z.1.2.2.2.2.1,z.1.2.2.2.2.2.1,z.2.1,z.2.2.1,(aG.mk [] (aI.mk z.2.2.2.1.2.1 z.2.2.2.1.2.2.1 z.2.2.2.1.2.2.2.1) [] (aI.mk z.2.2.2.1.2.2.2.2.2.1 z.2.2.2.1.2.2.2.2.2.2.1 z.2.2.2.1.2.2.2.2.2.2.2.1))⟩) (fun x=>(((),(),(),(),x.t12,x.t13,()),(x.b0,x.b1,((),x.b2.aA.af,x.b2.aA.aa,x.b2.aA.ai,(),x.b2.aD.af,x.b2.aD.aa,x.b2.aD.ai,()),x.t5,()))))
def ajR(p:rj):Option (Option rj):=
 bif wP (p.t13<p.t12)then match m32 p.b0.aA p.t13 with|O=>O|V r1=>bif r1 then if 0<=p.t13/\p.t13<p.t5.length then if 34=34/\p.t13.toNat<p.t5.length then match kH p.t5[p.t13.toNat]! p.b1 with|O=>O|V r2=>if 0<=p.t13/\p.t13<p.t5.length then if 34=34/\p.t13.toNat<p.t5.length then V (V (rj.mk (p.t5.set p.t13.toNat r2) p.t12 (i64.wrap (p.t13+1)) p.b0 p.b1 (aG.mk [] p.b2.aA [] p.b2.aD)))else O else O else O else O else V (V (rj.mk p.t5 p.t12 (i64.wrap (p.t13+1)) p.b0 p.b1 (aG.mk [] p.b2.aA [] p.b2.aD)))else V (O)
def Oc:rj->Option rj:=bI (ajR)
abbrev ath:Type:=aG
def d170:Td 0 ath:= .c [] [4] (.r 0 2 (ec 4 (qp 0 0) en) (sb 0 147 (lc (ql 34) (aN (aN (aN (lc (qo 1) (aN (aN (aN ln)))))))) (sr 1 34 sn)) (fun z=>(aG.mk z.2.1.1 (aI.mk z.2.1.2.1 z.2.1.2.2.1 z.2.1.2.2.2.1) z.2.2.1 (aI.mk z.2.1.2.2.2.2.2.1 z.2.1.2.2.2.2.2.2.1 z.2.1.2.2.2.2.2.2.2.1))) (fun x=>(((),()),((x.ah,x.aA.af,x.aA.aa,x.aA.ai,(),x.aD.af,x.aD.aa,x.aD.ai,()),x.aC,()))))
def arc:=(lc (qg 147) (lc (qg 34) ln))
def ajo:An:=(noTwo (noTwo (.two (noTwo (Nr.lp Oc .no)) .no)))
def aqQ:eG wQ (amv) 0 300 170 (ajo):=bV (l:=[(bg f170 0,(Nr.lp Oc .no))]) func170 (bG (by kernel_rfl)) (by kernel_rfl) (ay (aO Nr) aB)
def ad5(a0:aG)(a1:aI):Option ath:=
 if([]++a0.aC).length<=1073741824 then match Oc (rj.mk ([]++a0.aC) (↑([]++a0.aC).length:Int) 0 a0 a1 (aG.mk [] (aI.mk 0 0 0) [] (aI.mk 0 0 0)))with|O=>O|V r3=>bif wP (r3.t13<r3.t12)then match m32 r3.b0.aA r3.t13 with|O=>O|V r4=>bif r4 then if 0<=r3.t13/\r3.t13<r3.t5.length then if 34=34/\r3.t13.toNat<r3.t5.length then match kH r3.t5[r3.t13.toNat]! r3.b1 with|O=>O|V r5=>if 0<=r3.t13/\r3.t13<r3.t5.length then if 34=34/\r3.t13.toNat<r3.t5.length then O else O else O else O else O else O else if(r3.t5++[r3.b1]).length<=1073741824 then match U6 r3.b0.aA 1with|O=>O|V r6=>V (aG.mk r3.b0.ah r6 (r3.t5++[r3.b1]) r3.b0.aD)else O else O
def ayL(a0:aG)(a1:aI):bU wQ (amv) 300 (ajo) 170 (arc.c (a0,a1,())) [] 0 d170.rd=ad5 a0 a1:=by kernel_rfl
def ars:aK->aK:=eZ wQ 170 arc d170 (fun g=>ad5 g.1 g.2.1)
def agy{F:aK}(h:bq wQ F):bq wQ (ars F):=jj (dG ab0 aqQ (fun _=>by kernel_rfl) (fun _=>by kernel_rfl) fun g=>ayL g.1 g.2.1) ⟨_,func170,by kernel_rfl,by kernel_rfl⟩ (fun _=>by kernel_rfl) h
abbrev Fx:Type:=aG
def d88:Td 0 Fx:= .c [] [8] (.r 0 1 (ec 8 (qp 0 0) en) (sb 0 147 (lg 147) sn) (fun z=>z.2.1) (fun x=>(((),()),(x,()))))
def A88:=(lc (qg 26) (lc (ql 34) (lc (ql 166) (lc (qg 147) ln))))
def x88(M:aP->(List aI)->(List au)->aG->Option Fx):aK->aK:=eZ wQ 88 A88 d88 (fun g=>M g.1 g.2.1 g.2.2.1 g.2.2.2.1)
def H88(M:aP->(List aI)->(List au)->aG->Option Fx):Prop:=HL wQ 88 A88 d88 (fun g=>M g.1 g.2.1 g.2.2.1 g.2.2.2.1)
def Pa{M:aP->(List aI)->(List au)->aG->Option Fx}(hM:H88 M){F:aK}(h:bq wQ F):bq wQ (x88 M F):=jj hM ⟨_,func88,by kernel_rfl,by kernel_rfl⟩ (fun _=>by kernel_rfl) h
abbrev mB:Type:=aG
def d167:Td 0 mB:= .c [] [8] (.r 0 1 (ec 8 (qp 0 0) en) (sb 0 147 (lg 147) sn) (fun z=>z.2.1) (fun x=>(((),()),(x,()))))
def am4:=(lc (qg 26) (lc (ql 34) (lc (qg 166) (lc (qg 147) ln))))
def atk(M:aP->(List aI)->au->aG->Option mB):aK->aK:=eZ wQ 167 am4 d167 (fun g=>M g.1 g.2.1 g.2.2.1 g.2.2.2.1)
def agY(M:aP->(List aI)->au->aG->Option mB):Prop:=HL wQ 167 am4 d167 (fun g=>M g.1 g.2.1 g.2.2.1 g.2.2.2.1)
def afQ{M:aP->(List aI)->au->aG->Option mB}(hM:agY M){F:aK}(h:bq wQ F):bq wQ (atk M F):=jj hM ⟨_,func167,by kernel_rfl,by kernel_rfl⟩ (fun _=>by kernel_rfl) h
def F88(M88:aP->(List aI)->(List au)->aG->Option Fx)(M167:aP->(List aI)->au->aG->Option mB):aK:=(avO (aj0 (ars (au1 (aeH (atk M167 (UZ (x88 M88 (e87 dg)))))))))
def alM{M88 M167}(h88:H88 M88)(h167:agY M167):bq wQ (F88 M88 M167):=(ae0 (Sw (agy (ada (Ie (afQ h167 (vp (Pa h88 (O6 aR)))))))))
structure lG where
 t1:List aI
 t13:List au
 (t14 t15:Int)
 b0:aP
 (b1 b2:aG)
def Wo:Td 0 lG:= .c [] [1,4,7,8,13,14,15] (.t (cj.fc 1 0 []) (.t (cj.fc 1 4 []) (.c [] [1,4,7,8,13,14,15] (.r 0 3 (ec 1 (ql 34) (ec 4 (qp 0 0) (ec 7 (qp 1 0) (ec 8 (qp 2 0) (ec 13 (ql 166) (ec 14 aM (ec 15 aM en))))))) (sb 0 26 (lg 26) (sb 1 147 (lg 147) (sb 2 147 (lc qn (aN (aN (aN (lc qn (aN (aN (aN ln)))))))) sn))) (fun z=>⟨z.1.1,z.1.2.2.2.2.1,z.1.2.2.2.2.2.1,z.1.2.2.2.2.2.2.1,z.2.1,z.2.2.1,(aG.mk [] (aI.mk z.2.2.2.1.2.1 z.2.2.2.1.2.2.1 z.2.2.2.1.2.2.2.1) [] (aI.mk z.2.2.2.1.2.2.2.2.2.1 z.2.2.2.1.2.2.2.2.2.2.1 z.2.2.2.1.2.2.2.2.2.2.2.1))⟩) (fun x=>((x.t1,(),(),(),x.t13,x.t14,x.t15,()),(x.b0,x.b1,((),x.b2.aA.af,x.b2.aA.aa,x.b2.aA.ai,(),x.b2.aD.af,x.b2.aD.aa,x.b2.aD.ai,()),())))))))
def arV(M88:aP->(List aI)->(List au)->aG->Option Fx)(M167:aP->(List aI)->au->aG->Option mB)(p:lG):Option (Option lG):=
 bif wP (p.t15<p.t14)then if 0<=p.t15/\p.t15<p.t13.length then bif wP (p.t13[p.t15.toNat]!.bN=4)then match M167 p.b0 p.t1 (au.mk p.t13[p.t15.toNat]!.bN p.t13[p.t15.toNat]!.aQ p.t13[p.t15.toNat]!.cP p.t13[p.t15.toNat]!.fN (aq.mk p.t13[p.t15.toNat]!.az.bf p.t13[p.t15.toNat]!.az.fN p.t13[p.t15.toNat]!.az.ak) p.t13[p.t15.toNat]!.aH p.t13[p.t15.toNat]!.aL p.t13[p.t15.toNat]!.aJ) p.b1 with|O=>O|V r1=>V (V (lG.mk p.t1 p.t13 p.t14 (i64.wrap (p.t15+1)) p.b0 r1 (aG.mk [] p.b2.aA [] p.b2.aD)))else match U6 p.b1.aD p.t13[p.t15.toNat]!.aQ with|O=>O|V r2=>bif wP (p.t13[p.t15.toNat]!.bN=0)then match Vq (aG.mk p.b1.ah p.b1.aA p.b1.aC r2) (aq.mk p.t13[p.t15.toNat]!.az.bf p.t13[p.t15.toNat]!.az.fN p.t13[p.t15.toNat]!.az.ak)with|O=>O|V r3=>match TS p.b0 (aG.mk p.b1.ah p.b1.aA p.b1.aC r2) p.t13[p.t15.toNat]!.cP r3 with|O=>O|V r4=>V (V (lG.mk p.t1 p.t13 p.t14 (i64.wrap (p.t15+1)) p.b0 r4 (aG.mk [] p.b2.aA [] p.b2.aD)))else bif wP (p.t13[p.t15.toNat]!.bN=5)then if 0<=p.t13[p.t15.toNat]!.fN/\p.t13[p.t15.toNat]!.fN<p.t1.length then match TS p.b0 (aG.mk p.b1.ah p.b1.aA p.b1.aC r2) p.t13[p.t15.toNat]!.cP p.t1[p.t13[p.t15.toNat]!.fN.toNat]! with|O=>O|V r5=>V (V (lG.mk p.t1 p.t13 p.t14 (i64.wrap (p.t15+1)) p.b0 r5 (aG.mk [] p.b2.aA [] p.b2.aD)))else O else bif wP (p.t13[p.t15.toNat]!.bN=1)then match Vq (aG.mk p.b1.ah p.b1.aA p.b1.aC r2) (aq.mk p.t13[p.t15.toNat]!.az.bf p.t13[p.t15.toNat]!.az.fN p.t13[p.t15.toNat]!.az.ak)with|O=>O|V r6=>match ad5 (aG.mk p.b1.ah p.b1.aA p.b1.aC r2) r6 with|O=>O|V r7=>V (V (lG.mk p.t1 p.t13 p.t14 (i64.wrap (p.t15+1)) p.b0 r7 (aG.mk [] p.b2.aA [] p.b2.aD)))else bif wP (p.t13[p.t15.toNat]!.bN=3)then match Vq (aG.mk p.b1.ah p.b1.aA p.b1.aC r2) (aq.mk p.t13[p.t15.toNat]!.az.bf p.t13[p.t15.toNat]!.az.fN p.t13[p.t15.toNat]!.az.ak)with|O=>O|V r8=>match EJ r8 with|O=>O|V r9=>bif bif r9.fst then wN else wO then match M88 p.b0 p.t1 p.t13[p.t15.toNat]!.aH (aG.mk p.b1.ah p.b1.aA p.b1.aC r2)with|O=>O|V r10=>V (V (lG.mk p.t1 p.t13 p.t14 (i64.wrap (p.t15+1)) p.b0 r10 (aG.mk [] p.b2.aA [] p.b2.aD)))else bif bif r9.snd then wN else wO then match M88 p.b0 p.t1 p.t13[p.t15.toNat]!.aL (aG.mk p.b1.ah p.b1.aA p.b1.aC r2)with|O=>O|V r11=>V (V (lG.mk p.t1 p.t13 p.t14 (i64.wrap (p.t15+1)) p.b0 r11 (aG.mk [] p.b2.aA [] p.b2.aD)))else match M88 p.b0 p.t1 p.t13[p.t15.toNat]!.aH (aG.mk p.b1.ah p.b1.aA p.b1.aC r2)with|O=>O|V r12=>match M88 p.b0 p.t1 p.t13[p.t15.toNat]!.aL (aG.mk p.b1.ah p.b1.aA p.b1.aC r2)with|O=>O|V r13=>match YO r12 r13 with|O=>O|V r14=>V (V (lG.mk p.t1 p.t13 p.t14 (i64.wrap (p.t15+1)) p.b0 r14 (aG.mk [] p.b2.aA [] p.b2.aD)))else bif wP (p.t13[p.t15.toNat]!.bN=6)then match Kr r2 p.t13[p.t15.toNat]!.aJ with|O=>O|V r15=>V (V (lG.mk p.t1 p.t13 p.t14 (i64.wrap (p.t15+1)) p.b0 (aG.mk p.b1.ah p.b1.aA p.b1.aC r15.fst) (aG.mk [] p.b2.aA [] p.b2.aD)))else V (V (lG.mk p.t1 p.t13 p.t14 (i64.wrap (p.t15+1)) p.b0 (aG.mk p.b1.ah p.b1.aA p.b1.aC r2) (aG.mk [] p.b2.aA [] p.b2.aD)))else O else V (O)
def Y6(M88:aP->(List aI)->(List au)->aG->Option Fx)(M167:aP->(List aI)->au->aG->Option mB):lG->Option lG:=bI (arV M88 M167)
def atZ(M88:aP->(List aI)->(List au)->aG->Option Fx)(M167:aP->(List aI)->au->aG->Option mB):An:=(noTwo (.two (noTwo (Wo.lp (Y6 M88 M167) .no)) .no))
def azO(M88:aP->(List aI)->(List au)->aG->Option Fx)(M167:aP->(List aI)->au->aG->Option mB):eG wQ (F88 M88 M167) 0 300 88 (atZ M88 M167):=bV (l:=[(bg f88 0,(Wo.lp (Y6 M88 M167) .no))]) func88 (bG (by kernel_rfl)) (by kernel_rfl) (ay (aO Wo) aB)
def s88(M88:aP->(List aI)->(List au)->aG->Option Fx)(M167:aP->(List aI)->au->aG->Option mB)(a0:aP)(a1:List aI)(a2:List au)(a3:aG):Option Fx:=
 match Y6 M88 M167 (lG.mk a1 a2 a2.length 0 a0 a3 (aG.mk [] (aI.mk 0 0 0) [] (aI.mk 0 0 0)))with|O=>O|V r16=>bif wP (r16.t15<r16.t14)then if 0<=r16.t15/\r16.t15<r16.t13.length then bif wP (r16.t13[r16.t15.toNat]!.bN=4)then match M167 r16.b0 r16.t1 (au.mk r16.t13[r16.t15.toNat]!.bN r16.t13[r16.t15.toNat]!.aQ r16.t13[r16.t15.toNat]!.cP r16.t13[r16.t15.toNat]!.fN (aq.mk r16.t13[r16.t15.toNat]!.az.bf r16.t13[r16.t15.toNat]!.az.fN r16.t13[r16.t15.toNat]!.az.ak) r16.t13[r16.t15.toNat]!.aH r16.t13[r16.t15.toNat]!.aL r16.t13[r16.t15.toNat]!.aJ) r16.b1 with|O=>O|V r17=>O else match U6 r16.b1.aD r16.t13[r16.t15.toNat]!.aQ with|O=>O|V r18=>bif wP (r16.t13[r16.t15.toNat]!.bN=0)then match Vq (aG.mk r16.b1.ah r16.b1.aA r16.b1.aC r18) (aq.mk r16.t13[r16.t15.toNat]!.az.bf r16.t13[r16.t15.toNat]!.az.fN r16.t13[r16.t15.toNat]!.az.ak)with|O=>O|V r19=>match TS r16.b0 (aG.mk r16.b1.ah r16.b1.aA r16.b1.aC r18) r16.t13[r16.t15.toNat]!.cP r19 with|O=>O|V r20=>O else bif wP (r16.t13[r16.t15.toNat]!.bN=5)then if 0<=r16.t13[r16.t15.toNat]!.fN/\r16.t13[r16.t15.toNat]!.fN<r16.t1.length then match TS r16.b0 (aG.mk r16.b1.ah r16.b1.aA r16.b1.aC r18) r16.t13[r16.t15.toNat]!.cP r16.t1[r16.t13[r16.t15.toNat]!.fN.toNat]! with|O=>O|V r21=>O else O else bif wP (r16.t13[r16.t15.toNat]!.bN=1)then match Vq (aG.mk r16.b1.ah r16.b1.aA r16.b1.aC r18) (aq.mk r16.t13[r16.t15.toNat]!.az.bf r16.t13[r16.t15.toNat]!.az.fN r16.t13[r16.t15.toNat]!.az.ak)with|O=>O|V r22=>match ad5 (aG.mk r16.b1.ah r16.b1.aA r16.b1.aC r18) r22 with|O=>O|V r23=>O else bif wP (r16.t13[r16.t15.toNat]!.bN=3)then match Vq (aG.mk r16.b1.ah r16.b1.aA r16.b1.aC r18) (aq.mk r16.t13[r16.t15.toNat]!.az.bf r16.t13[r16.t15.toNat]!.az.fN r16.t13[r16.t15.toNat]!.az.ak)with|O=>O|V r24=>match EJ r24 with|O=>O|V r25=>bif bif r25.fst then wN else wO then match M88 r16.b0 r16.t1 r16.t13[r16.t15.toNat]!.aH (aG.mk r16.b1.ah r16.b1.aA r16.b1.aC r18)with|O=>O|V r26=>O else bif bif r25.snd then wN else wO then match M88 r16.b0 r16.t1 r16.t13[r16.t15.toNat]!.aL (aG.mk r16.b1.ah r16.b1.aA r16.b1.aC r18)with|O=>O|V r27=>O else match M88 r16.b0 r16.t1 r16.t13[r16.t15.toNat]!.aH (aG.mk r16.b1.ah r16.b1.aA r16.b1.aC r18)with|O=>O|V r28=>match M88 r16.b0 r16.t1 r16.t13[r16.t15.toNat]!.aL (aG.mk r16.b1.ah r16.b1.aA r16.b1.aC r18)with|O=>O|V r29=>match YO r28 r29 with|O=>O|V r30=>O else bif wP (r16.t13[r16.t15.toNat]!.bN=6)then match Kr r18 r16.t13[r16.t15.toNat]!.aJ with|O=>O|V r31=>O else O else O else V (r16.b1)
def c88(M88:aP->(List aI)->(List au)->aG->Option Fx)(M167:aP->(List aI)->au->aG->Option mB)(a0:aP)(a1:List aI)(a2:List au)(a3:aG):bU wQ (F88 M88 M167) 300 (atZ M88 M167) 88 (A88.c (a0,a1,a2,a3,())) [] 0 d88.rd=s88 M88 M167 a0 a1 a2 a3:=by kernel_rfl
def aoB(M88:aP->(List aI)->(List au)->aG->Option Fx)(M167:aP->(List aI)->au->aG->Option mB):aK:=(aur (aeH (UZ (x88 M88 (e87 dg)))))
def aa8{M88 M167}(h88:H88 M88)(h167:agY M167):bq wQ (aoB M88 M167):=(aeI (Ie (vp (Pa h88 (O6 aR)))))
structure qx where
 t1:List aI
 t9:List aG
 (t13 t14:Int)
 b0:aP
 b1:au
 (b2 b3:aG)
def Na:Td 0 qx:= .c [] [1,4,6,7,8,9,13,14] (.t (cj.s 9 [] 147) (.c [] [1,4,6,7,8,9,13,14] (.r 0 5 (ec 1 (ql 34) (ec 4 (qp 0 0) (ec 6 (qp 1 0) (ec 7 (qp 2 0) (ec 8 (qp 3 0) (ec 9 (qo 4) (ec 13 aM (ec 14 aM en)))))))) (sb 0 26 (lg 26) (sb 1 166 (lg 166) (sb 2 147 (lg 147) (sb 3 147 (lc qn (aN (aN (aN (lc qn (aN (aN (aN ln)))))))) (sr 4 147 sn))))) (fun z=>⟨z.1.1,z.2.2.2.2.2.1,z.1.2.2.2.2.2.2.1,z.1.2.2.2.2.2.2.2.1,z.2.1,z.2.2.1,z.2.2.2.1,(aG.mk [] (aI.mk z.2.2.2.2.1.2.1 z.2.2.2.2.1.2.2.1 z.2.2.2.2.1.2.2.2.1) [] (aI.mk z.2.2.2.2.1.2.2.2.2.2.1 z.2.2.2.2.1.2.2.2.2.2.2.1 z.2.2.2.2.1.2.2.2.2.2.2.2.1))⟩) (fun x=>((x.t1,(),(),(),(),(),x.t13,x.t14,()),(x.b0,x.b1,x.b2,((),x.b3.aA.af,x.b3.aA.aa,x.b3.aA.ai,(),x.b3.aD.af,x.b3.aD.aa,x.b3.aD.ai,()),x.t9,()))))))
def amz(M88:aP->(List aI)->(List au)->aG->Option Fx)(M167:aP->(List aI)->au->aG->Option mB)(p:qx):Option (Option qx):=
 bif wP (p.t14<p.t13)then match U6 p.b2.aD p.b1.aQ with|O=>O|V r1=>match Vq (aG.mk p.b2.ah p.b2.aA p.b2.aC r1) (aq.mk p.b1.az.bf p.b1.az.fN p.b1.az.ak)with|O=>O|V r2=>match EJ r2 with|O=>O|V r3=>bif r3.fst then if(p.t9++[aG.mk p.b2.ah p.b2.aA p.b2.aC r1]).length<=1073741824 then bif bif r3.snd then wN else wO then match OY (p.t9++[aG.mk p.b2.ah p.b2.aA p.b2.aC r1])with|O=>O|V r4=>V (O)else match M88 p.b0 p.t1 p.b1.aH (aG.mk p.b2.ah p.b2.aA p.b2.aC r1)with|O=>O|V r5=>V (V (qx.mk p.t1 (p.t9++[aG.mk p.b2.ah p.b2.aA p.b2.aC r1]) p.t13 (i64.wrap (p.t14+1)) p.b0 (au.mk p.b1.bN p.b1.aQ p.b1.cP p.b1.fN (aq.mk p.b1.az.bf p.b1.az.fN p.b1.az.ak) p.b1.aH p.b1.aL p.b1.aJ) r5 (aG.mk [] p.b3.aA [] p.b3.aD)))else O else bif bif r3.snd then wN else wO then match OY p.t9 with|O=>O|V r6=>V (O)else match M88 p.b0 p.t1 p.b1.aH (aG.mk p.b2.ah p.b2.aA p.b2.aC r1)with|O=>O|V r7=>V (V (qx.mk p.t1 p.t9 p.t13 (i64.wrap (p.t14+1)) p.b0 (au.mk p.b1.bN p.b1.aQ p.b1.cP p.b1.fN (aq.mk p.b1.az.bf p.b1.az.fN p.b1.az.ak) p.b1.aH p.b1.aL p.b1.aJ) r7 (aG.mk [] p.b3.aA [] p.b3.aD)))else V (O)
def Oi(M88:aP->(List aI)->(List au)->aG->Option Fx)(M167:aP->(List aI)->au->aG->Option mB):qx->Option qx:=bI (amz M88 M167)
def ahF(M88:aP->(List aI)->(List au)->aG->Option Fx)(M167:aP->(List aI)->au->aG->Option mB):An:=(noTwo (noTwo (.two (noTwo (Na.lp (Oi M88 M167) .no)) .no)))
def ar7(M88:aP->(List aI)->(List au)->aG->Option Fx)(M167:aP->(List aI)->au->aG->Option mB):eG wQ (aoB M88 M167) 0 300 167 (ahF M88 M167):=bV (l:=[(bg f167 0,(Na.lp (Oi M88 M167) .no))]) func167 (bG (by kernel_rfl)) (by kernel_rfl) (ay (aO Na) aB)
def aqL(M88:aP->(List aI)->(List au)->aG->Option Fx)(M167:aP->(List aI)->au->aG->Option mB)(a0:aP)(a1:List aI)(a2:au)(a3:aG):Option mB:=
 match Oi M88 M167 (qx.mk a1 [] a2.fN (0) a0 (au.mk a2.bN a2.aQ a2.cP a2.fN (aq.mk a2.az.bf a2.az.fN a2.az.ak) a2.aH a2.aL a2.aJ) a3 (aG.mk [] (aI.mk (0) (0) (0)) [] (aI.mk (0) (0) (0))))with|O=>O|V r8=>bif wP (r8.t14<r8.t13)then match U6 r8.b2.aD r8.b1.aQ with|O=>O|V r9=>match Vq (aG.mk r8.b2.ah r8.b2.aA r8.b2.aC r9) (aq.mk r8.b1.az.bf r8.b1.az.fN r8.b1.az.ak)with|O=>O|V r10=>match EJ r10 with|O=>O|V r11=>bif r11.fst then if(r8.t9++[aG.mk r8.b2.ah r8.b2.aA r8.b2.aC r9]).length<=1073741824 then bif bif r11.snd then wN else wO then match OY (r8.t9++[aG.mk r8.b2.ah r8.b2.aA r8.b2.aC r9])with|O=>O|V r12=>V (r12)else match M88 r8.b0 r8.t1 r8.b1.aH (aG.mk r8.b2.ah r8.b2.aA r8.b2.aC r9)with|O=>O|V r13=>O else O else bif bif r11.snd then wN else wO then match OY r8.t9 with|O=>O|V r14=>V (r14)else match M88 r8.b0 r8.t1 r8.b1.aH (aG.mk r8.b2.ah r8.b2.aA r8.b2.aC r9)with|O=>O|V r15=>O else if(r8.t9++[r8.b2]).length<=1073741824 then match OY (r8.t9++[r8.b2])with|O=>O|V r16=>V (r16)else O
def axA(M88:aP->(List aI)->(List au)->aG->Option Fx)(M167:aP->(List aI)->au->aG->Option mB)(a0:aP)(a1:List aI)(a2:au)(a3:aG):bU wQ (aoB M88 M167) 300 (ahF M88 M167) 167 (am4.c (a0,a1,a2,a3,())) [] 0 d167.rd=aqL M88 M167 a0 a1 a2 a3:=by kernel_rfl
def nJ:Nat->(aP->(List aI)->(List au)->aG->Option Fx)×(aP->(List aI)->au->aG->Option mB)
 |0=>(fun _ _ _ _=>O,fun _ _ _ _=>O)
 |n+1=>(s88 (nJ n).1 (nJ n).2,aqL (nJ n).1 (nJ n).2)
def m88(n:Nat):aP->(List aI)->(List au)->aG->Option Fx:=(nJ n).1
def XG(n:Nat):aP->(List aI)->au->aG->Option mB:=(nJ n).2
def BX:∀n,H88 (m88 n)/\agY (XG n)
 |0=>⟨fun _ _ h=>(by cases h),fun _ _ h=>(by cases h)⟩
 |n+1=>by
  have ih:=BX n
  obtain⟨i88,i167⟩:=ih
  refine⟨?_,?_⟩
  ·exact(dG (alM i88 i167) (azO (m88 n) (XG n)) (fun _=>by kernel_rfl) (fun _=>by kernel_rfl) fun g=>c88 (m88 n) (XG n) g.1 g.2.1 g.2.2.1 g.2.2.2.1)
  ·exact(dG (aa8 i88 i167) (ar7 (m88 n) (XG n)) (fun _=>by kernel_rfl) (fun _=>by kernel_rfl) fun g=>axA (m88 n) (XG n) g.1 g.2.1 g.2.2.1 g.2.2.2.1)
def r88:aP->(List aI)->(List au)->aG->Option Fx:=fun a0 a1 a2 a3=>lim (fun n=>m88 n a0 a1 a2 a3)
def aoC:H88 r88:=fun g b h=>by
 obtain⟨n,hn⟩:=cT (show lim (fun n=>m88 n g.1 g.2.1 g.2.2.1 g.2.2.2.1)=V b from h)
 exact(BX n).1 g b hn
def e88(F:aK):aK:=x88 r88 F
def aoW{F:aK}(h:bq wQ F):bq wQ (e88 F):=Pa aoC h
def Pg{l:List aI}(h:l.length<=1000000):m40 l=V l:=by unfold m40;rw[gC]
def rQ{s:ax}(h1:s.ah.length<=1000000)(h2:s.aC.length<=1000000):FR s=V s:=by
 unfold FR
 rw[Pg h1]
 dsimp only
 rw[Pg h2]
def O8{n m:Nat}{s:ax}(h:fM n m s){c:Int}(hc:bY c):Mg s c=V (iF s c):=by
 obtain⟨z,e,_,_⟩:=wS 8 h.time (j9 hc)
 unfold Mg iF
 rw[rG,e]
def WW{r:Runner}{m:Nat}{s:ax}(h:fM r.fF.ah.length m s)(hn:r.fF.ah.length<=1000000)(hm:m<=1000000){v:Int}{x:aI}(h1:0<=v)(h2:v<r.fF.ah.length)(hx:NN x):Ob r s v x=V (KD r.fF s v x):=by
 have hl:=h.len
 have hs:=h.sl
 obtain⟨z,e,_,_⟩:=jf hx r.fF.ah[v.toNat]!.af r.fF.ah[v.toNat]!.aa
 unfold Ob KD
 rw[rQ (by omega) (by omega)]
 dsimp only
 rw[bw ⟨h1,h2⟩,e]
 dsimp only
 rw[gC,bw ⟨rfl,by omega⟩]
def K9{vars:List aS}{inp:Bool}{m:Nat}{st:ax}(hst:fM vars.length m st){t:aq}(hc:eH vars inp t=0):Nz st t=V (cC st.ah t):=by
 have e:ahu t st=V (cC st.ah t,st):=eE (SizeOf.sizeOf t+1) fun n hn=>(Ff hst n t (by omega) (vM hc).1 (vM hc).2).1
 unfold Nz
 rw[aq.eta,e]
def D3(s:ax)(v:aI)(i:Nat):List aI:=jv s.aC.length (fun k=>if k<i/\cG s.aA k=wO then cn s.aC[k]! v else s.aC[k]!)
def Mi(s:ax)(v:aI)(i:Nat):(D3 s v i).length=s.aC.length:=eC ..
def aoa(s:ax)(v:aI):D3 s v 0=s.aC:=O1 rfl fun i _=>by rw[bF (fun h=>by omega)]
def Xz(s:ax)(v:aI):D3 s v s.aC.length=jv s.aC.length (fun k=>if cG s.aA k=wO then cn s.aC[k]! v else s.aC[k]!):=ij fun i hi=>by
 by_cases c:cG s.aA (i:Nat)=wO
 ·rw[bw ⟨hi,c⟩,bw c]
 ·rw[bF (fun h=>c h.2),bF c]
def ZK{s:ax}{v:aI}{i:Nat}(h:i<s.aC.length):(D3 s v i)[i]! =s.aC[i]! :=by
 rw[D3,gj h,bF (fun h=>by omega)]
def Zx{s:ax}{v:aI}{i:Nat}(c:cG s.aA (i:Nat)=wO):(D3 s v i).set i (cn s.aC[i]! v)=D3 s v (i+1):=by
 rw[D3,IC]
 refine ij fun j _=> ?_
 by_cases e:j=i
 ·subst e;rw[bw rfl,bw ⟨by omega,c⟩]
 ·rw[bF e]
  by_cases c2:j<i/\cG s.aA (j:Nat)=wO
  ·rw[bw c2,bw ⟨by omega,c2.2⟩]
  ·rw[bF c2,bF (fun h=>c2 ⟨by omega,h.2⟩)]
def aeK{s:ax}{v:aI}{i:Nat}(c:cG s.aA (i:Nat)=wN):D3 s v i=D3 s v (i+1):=by
 refine ij fun j _=> ?_
 by_cases e:j=i
 ·subst e;rw[bF (fun h=>by omega),bF (fun h=>by rw[c]at h;cases h.2)]
 ·by_cases c2:j<i/\cG s.aA (j:Nat)=wO
  ·rw[bw c2,bw ⟨by omega,c2.2⟩]
  ·rw[bF c2,bF (fun h=>c2 ⟨by omega,h.2⟩)]
def aoM{n m:Nat}{s:ax}(h:fM n m s)(hn:n<=1000000)(hm:m<=1000000){x:aI}(hx:NN x):VR s x=V (FM s x):=by
 have hs:=h.sl
 have hl:=h.len
 obtain⟨v,e1,_⟩:=dH (cO:=Ik) s.aC.length (fun i (_:Unit)=>⟨(s.aC.length:Int),(i:Int),⟨s.ah,s.aA,D3 s x i,s.aD⟩,x,⟨[],⟨0,0,0⟩,[],⟨0,0,0⟩⟩⟩) (fun i _=>True) (fun i b hi _=>by
  have hw:=gF hi (by omega)
  have i1:(i:Int)<(s.aC.length:Int):=by omega
  have i2:(0:Int)<=(i:Int):=by omega
  refine⟨(),?_,trivial⟩
  unfold Ik
  dsimp only
  by_cases hc:cG s.aA (i:Nat)=wO
  ·simp only[za,i1,i2,hi,dx,bE,ew,cz,tU (.inr h.count),hc,Mi,ZK hi,n7 (.inr (h.slots i hi)) (.inr hx),hw,Zx hc]
  ·have hc:cG s.aA (i:Nat)=wN:=by simpa using hc
   simp only[i1,dx,bE,bA,tU (.inr h.count),hc,hw,aeK hc]) (fun b _=>by unfold Ik;simp) (b:=()) trivial
 rw[aoa]at e1
 have e1':JC ⟨(s.aC.length:Int),0,s,x,⟨[],⟨0,0,0⟩,[],⟨0,0,0⟩⟩⟩=_:=e1
 obtain⟨z,eb,_,_⟩:=wS 8 h.count (j9 (c:=1) ⟨by decide,by decide⟩)
 unfold VR
 rw[rQ (by omega) (by omega)]
 dsimp only
 rw[e1']
 dsimp only
 rw[fy,bA,bw (by rw[zh,Mi];simp;omega),rG,eb,Xz]
 rfl
def ES(a b:List aI)(i:Nat):List aI:=jv a.length (fun k=>if k<i then cn a[k]! b[k]! else a[k]!)
def Wq(a b:List aI)(i:Nat):(ES a b i).length=a.length:=eC ..
def akM(a b:List aI):ES a b 0=a:=O1 rfl fun i _=>by rw[jC]
def Z7(a b:List aI):ES a b a.length=jv a.length (fun k=>cn a[k]! b[k]!):=ij fun i hi=>by rw[bw hi]
def WX{a b:List aI}{i:Nat}(h:i<a.length):(ES a b i)[i]! =a[i]! :=by rw[ES,gj h,jC]
def Xv(a b:List aI)(i:Nat):(ES a b i).set i (cn a[i]! b[i]!)=ES a b (i+1):=by
 rw[ES,IC]
 refine ij fun j _=> ?_
 by_cases e:j=i
 ·subst e;rw[bw rfl,gC]
 ·rw[bF e]
  by_cases c:j<i
  ·rw[bw c,gC]
  ·rw[bF c,jC]
def oS(a b:List aI)(i:Nat):List aI:=jv (max a.length i) (fun k=>if k<i then WO a b k else a[k]!)
def C9(a b:List aI)(i:Nat):(oS a b i).length=max a.length i:=eC ..
def alm(a b:List aI):oS a b 0=a:=O1 (by omega) fun i _=>by rw[jC]
def VK(a b:List aI):oS a b b.length=jv (max a.length b.length) (WO a b):=ij fun i hi=>by
 by_cases c:i<b.length
 ·rw[bw c]
 ·rw[bF c]
  unfold WO
  rw[jC,gC]
def WC{a b:List aI}{i:Nat}(h:i<a.length):(oS a b i)[i]! =a[i]! :=by rw[oS,gj (by omega),jC]
def ZD{a b:List aI}{i:Nat}(h:i<a.length)(k:i<b.length):(oS a b i).set i (cn a[i]! b[i]!)=oS a b (i+1):=by
 rw[oS,IC,oS,show max a.length i=max a.length (i+1)by omega]
 refine ij fun j _=> ?_
 by_cases e:j=i
 ·subst e;rw[bw rfl,gC];unfold WO;rw[jC,jC]
 ·rw[bF e]
  by_cases c:j<i
  ·rw[bw c,gC]
  ·rw[bF c,jC]
def X5{a b:List aI}{i:Nat}(h:a.length<=i):oS a b i++[b[i]!]=oS a b (i+1):=by
 rw[oS,oS,show max a.length i=i by omega,show max a.length (i+1)=i+1 by omega,Kf]
 congr 1
 ·refine ij fun j hj=> ?_
  rw[bw hj,gC]
 ·rw[gC]
  unfold WO
  rw[bw h]
def WQ{n m:Nat}{s t:ax}(h:fM n m s)(k:fM n m t)(hn:n<=1000000)(hm:m<=1000000):Jb s t=V (jc s t):=by
 have hs:=h.sl
 have hl:=h.len
 have ks:=k.sl
 have kl:=k.len
 obtain⟨v,e1,_⟩:=dH (cO:=JA) s.ah.length (fun i (_:Unit)=>⟨(s.ah.length:Int),(i:Int),t,⟨[],⟨0,0,0⟩,[],⟨0,0,0⟩⟩,⟨ES s.ah t.ah i,s.aA,s.aC,s.aD⟩⟩) (fun i _=>True) (fun i b hi _=>by
  have hw:=gF hi (by omega)
  have i1:(i:Int)<(s.ah.length:Int):=by omega
  have i2:(0:Int)<=(i:Int):=by omega
  have i3:(i:Int)<(t.ah.length:Int):=by omega
  refine⟨(),?_,trivial⟩
  unfold JA
  dsimp only
  simp only[za,i1,i2,i3,hi,dx,bE,ew,cz,Wq,WX hi,n7 (.inr (h.vars i (by omega))) (.inr (k.vars i (by omega))),hw,Xv]) (fun b _=>by unfold JA;simp) (b:=()) trivial
 rw[akM]at e1
 have e1':JG ⟨(s.ah.length:Int),0,t,⟨[],⟨0,0,0⟩,[],⟨0,0,0⟩⟩,s⟩=_:=e1
 obtain⟨v2,e2,_⟩:=dH (cO:=G2) t.aC.length (fun i (_:Unit)=>⟨t.aC,(t.aC.length:Int),(i:Int),⟨[],⟨0,0,0⟩,[],⟨0,0,0⟩⟩,⟨ES s.ah t.ah s.ah.length,cn s.aA t.aA,oS s.aC t.aC i,cn s.aD t.aD⟩⟩) (fun i _=>True) (fun i b hi _=>by
  have hw:=gF hi (by omega)
  have i1:(i:Int)<(t.aC.length:Int):=by omega
  have i2:(0:Int)<=(i:Int):=by omega
  refine⟨(),?_,trivial⟩
  unfold G2
  dsimp only
  by_cases c:i<s.aC.length
  ·have i3:(i:Int)<((oS s.aC t.aC i).length:Int):=by rw[C9];omega
   have i4:i<(oS s.aC t.aC i).length:=by omega
   simp only[za,i1,i2,i3,i4,dx,bE,ew,cz,WC c,n7 (.inr (h.slots i c)) (.inr (k.slots i hi)),hw,ZD c hi]
  ·have i3:¬(i:Int)<((oS s.aC t.aC i).length:Int):=by rw[C9];omega
   have i4:(oS s.aC t.aC (i+1)).length<=1073741824:=by rw[C9];omega
   simp only[za,i1,i2,i3,i4,dx,gh,bE,bA,ew,cz,hw,X5 (show s.aC.length<=i by omega)]) (fun b _=>by unfold G2;simp) (b:=()) trivial
 rw[alm]at e2
 have e2':H9 ⟨t.aC,(t.aC.length:Int),0,⟨[],⟨0,0,0⟩,[],⟨0,0,0⟩⟩,⟨ES s.ah t.ah s.ah.length,cn s.aA t.aA,s.aC,cn s.aD t.aD⟩⟩=_:=e2
 unfold Jb
 rw[rQ (by omega) (by omega)]
 dsimp only
 rw[e1']
 dsimp only
 rw[fy,bA,n7 (.inr h.count) (.inr k.count)]
 dsimp only
 rw[n7 (.inr h.time) (.inr k.time)]
 dsimp only
 rw[e2']
 dsimp only
 rw[fy,bA,Z7,VK]
 rfl
def k9(body:ax->ax)(t:aq)(c:Int):Nat->ax->List ax
 |0,s=>[s]
 |n+1,s=>(if cG (cC s.ah t) 0=wO then[iF s c]else[])++(if cq (cC s.ah t)=wO then k9 body t c n (body (iF s c))else[])
def qU:List ax->ax
 |[]=>⟨[],cy,[],cy⟩
 |x::l=>l.foldl jc x
def brA(v:aI)(a b:ax->ax)(s:ax):ax:=
 if cG v 0=wN then a s else if cq v=wN then b s else jc (a s) (b s)
def sZ(f:aP)(hv:List aI)(a b:ax->ax)(x:au)(s:ax):ax:=
 if x.bN=4 then qU (k9 a x.az x.aQ x.fN.toNat s)
 else if x.bN=0 then KD f (iF s x.aQ) x.cP (cC s.ah x.az)
 else if x.bN=1 then FM (iF s x.aQ) (cC s.ah x.az)
 else if x.bN=5 then KD f (iF s x.aQ) x.cP hv[x.fN.toNat]!
 else if x.bN=3 then brA (cC s.ah x.az) a b (iF s x.aQ)
 else if x.bN=6 then⟨s.ah,s.aA,s.aC,rI (iS 8 s.aD (dL x.aQ)) x.aJ⟩
 else iF s x.aQ
def jJ(f:aP)(hv:List aI):List au->ax->ax
 |[],s=>s
 |x::l,s=>jJ f hv l (sZ f hv (fun s=>jJ f hv x.aH s) (fun s=>jJ f hv x.aL s) x s)
termination_by l=>SizeOf.sizeOf l
decreasing_by
 all_goals first|exact(aV (zi ..)).1|exact(aV (zi ..)).2|exact dh _ _
def pS(f:aP)(hv:List aI)(s:ax):jJ f hv [] s=s:=by rw[jJ]
def rK(f:aP)(hv:List aI)(x:au)(l:List au)(s:ax):jJ f hv (x::l) s=jJ f hv l (sZ f hv (jJ f hv x.aH) (jJ f hv x.aL) x s):=by rw[jJ]
def TR{n m:Nat}:∀{l:List ax},l≠[]->(∀q∈l,fM n m q)->fM n m (qU l)
 |[],h,_=>cQ rfl h
 |x::l,_,h=>by
  have key:∀(l:List ax) (x:ax),fM n m x->(∀q∈l,fM n m q)->fM n m (l.foldl jc x):=fun l=>by
   induction l with
   |nil=>intro x hx _;exact hx
   |cons y l ih=>intro x hx hl;exact ih (jc x y) (v8 hx (hl y (zi ..))) (fun q hq=>hl q (zJ _ hq))
  exact key l x (h x (zi ..)) (fun q hq=>h q (zJ _ hq))
def Cm{vars:List aS}{a:ax->ax}{t:aq}{c:Int}{o:Nat}(hc:bY c)(ht:eH vars wN t=0)(ha:∀s m,fM vars.length m s->fM vars.length (m+o) (a s)):∀(N:Nat) (s:ax) (m:Nat),fM vars.length m s->(∀q∈k9 a t c N s,fM vars.length (m+N*o) q)/\k9 a t c N s≠[]
 |0,s,m,h=>by
  rw[k9]
  refine⟨fun q hq=> ?_,by simp⟩
  rw[zC.1 hq]
  exact h.weak (by omega)
 |n+1,s,m,h=>by
  rw[k9]
  have hz:=zero_or (iO h t ht)
  have h1:=sv h hc
  obtain⟨i1,i2⟩:=Cm hc ht ha n (a (iF s c)) (m+o) (ha _ _ h1)
  have e:m+o+n*o=m+(n+1)*o:=by rw[yb,xM];omega
  refine⟨fun q hq=> ?_,fun e=> ?_⟩
  ·rcases zU.1 hq with hq|hq
   ·split at hq
    ·rw[zC.1 hq];exact h1.weak (by omega)
    ·cases hq
   ·split at hq
    ·rw[<-e];exact i1 q hq
    ·cases hq
  ·obtain⟨e1,e2⟩:=List.append_eq_nil_iff.1 e
   cases hn:cq (cC s.ah t)with
   |true=>rw[hn,bw rfl]at e2;exact i2 e2
   |false=>
    rw[hn]at hz
    have hz:cG (cC s.ah t) 0=wO:=by simpa using hz
    rw[hz,bw rfl]at e1;cases e1
def di(l:List au):Nat:=(cA l).2.1.toNat
def J2{l:List Int}(h1:1<=l.length/\l.length<=32)(h0:(0:Int)<=l[0]!)(hr:fJ l=wO)(h6:l[l.length-1]!<=67108864):∀b∈l,bY b:=fun b hb=>by
 obtain⟨i,hi,e⟩:=wM.1 hb
 have e:l[i]! =b:=by rw[getElem!_pos l i hi];exact e
 have a1:l[0]!<=l[i]! :=by
  by_cases h:i=0
  ·subst h;exact zg _
  ·exact yN (CM hr (by omega) hi)
 have a2:l[i]!<=l[l.length-1]! :=by
  by_cases h:i=l.length-1
  ·subst h;exact zg _
  ·exact yN (CM hr (by omega) (by omega))
 rw[<-e]
 unfold bY
 omega
def vG{f:aP}{last:Bool}{x:au}(hx:JJ f last x):bY x.aQ:=by
 have:=hx.cost
 unfold bY
 omega
def akx{n m o p:Nat}{v:aI}{a b:ax->ax}{s:ax}(h:fM n m s)(ha:∀s m,fM n m s->fM n (m+o) (a s))(hb:∀s m,fM n m s->fM n (m+p) (b s)):fM n (m+max o p) (brA v a b s):=by
 unfold brA
 split
 ·exact(ha _ _ h).weak (by omega)
 split
 ·exact(hb _ _ h).weak (by omega)
 ·exact v8 ((ha _ _ h).weak (by omega)) ((hb _ _ h).weak (by omega))
def LB{f:aP}{hv:List aI}(hh:hv.length=f.aj.length)(hvn:∀i,i<hv.length->NN hv[i]!){a b:ax->ax}{last:Bool}{x:au}(hx:JJ f last x)
  (p1:0<=(cA x.aH).2.1) (p2:0<=(cA x.aL).2.1)
  (ha:∀s m,fM f.ah.length m s->fM f.ah.length (m+di x.aH) (a s)) (hb:∀s m,fM f.ah.length m s->fM f.ah.length (m+di x.aL) (b s))
  {s:ax} {m:Nat} (h:fM f.ah.length m s):fM f.ah.length (m+(uO x).1.toNat) (sZ f hv a b x s):=by
 have hc:=vG hx
 have h1:=sv h hc
 have hvl:=iO h x.az hx.term
 unfold sZ uO
 by_cases a4:x.bN=4
 ·simp only[a4,Int.reduceEq,cz,dS]
  have hn:=hx.n4 a4
  obtain⟨i1,i2⟩:=Cm hc hx.term ha x.fN.toNat s m h
  have e:(x.fN*(cA x.aH).2.1).toNat=x.fN.toNat*di x.aH:=by rw[di,Int.toNat_mul hn.1 p1]
  rw[e]
  exact TR i2 i1
 by_cases a0:x.bN=0
 ·simp only[a0,Int.reduceEq,cz,dS]
  exact CY h1 hvl
 by_cases a1:x.bN=1
 ·simp only[a1,Int.reduceEq,cz,dS]
  exact RR h1 hvl
 by_cases a5:x.bN=5
 ·simp only[a5,Int.reduceEq,cz,dS]
  obtain⟨n1,n2⟩:=hx.n5 a5
  exact CY h1 (hvn _ (by omega))
 by_cases a3:x.bN=3
 ·simp only[a3,Int.reduceEq,cz,dS]
  have:=akx (v:=cC s.ah x.az) h1 ha hb
  unfold di at this
  refine this.weak ?_
  omega
 by_cases a6:x.bN=6
 ·simp only[a6,Int.reduceEq,cz,dS]
  obtain⟨_,q2,q3,q4,q5⟩:=hx.BY a6
  have k:=(tR (a:=iS 8 s.aD (dL x.aQ)) h1.time q4 (by omega) (J2 q2 q3 q4 q5)).2.2.1
  exact⟨h.len,h.vars,h.count,h.sl,h.slots,k⟩
 ·simp only[a0,a1,a3,a4,a5,a6,dS]
  exact h1
def sj{f:aP}{top:Bool}{x:au}{l:List au}(h:b9 f top (x::l)=0):di (x::l)=(uO x).1.toNat+di l:=by
 obtain⟨h1,h2,h3,h4⟩:=dP h
 have ho:=kI h1
 have p1:=(dJ f _ _ _ (zw _) h2).1
 have p2:=(dJ f _ _ _ (zw _) h3).1
 have p3:=(dJ f _ _ _ (zw _) h4).1
 have e1:0<=(uO x).1:=by
  unfold uO
  by_cases a1:x.bN=1
  ·rw[bw a1];show (0:Int)<=1;decide
  by_cases a3:x.bN=3
  ·rw[bF a1,bw a3];dsimp only;omega
  by_cases a4:x.bN=4
  ·rw[bF a1,bF a3,bw a4]
   exact zq (ho.n4 a4).1 p1
  ·rw[bF a1,bF a3,bF a4];exact zg _
 unfold di
 rw[(hU x l).1]
 omega
def jx{f:aP}{hv:List aI}(hh:hv.length=f.aj.length)(hvn:∀i,i<hv.length->NN hv[i]!):∀(n:Nat) (l:List au) (top:Bool),SizeOf.sizeOf l<n->b9 f top l=0->∀(s:ax) (m:Nat),fM f.ah.length m s->fM f.ah.length (m+di l) (jJ f hv l s)
 |0,_,_,h,_,_,_,_=>by omega
 |n+1,[],_,_,_,s,m,h=>by rw[pS];exact h.weak (by omega)
 |n+1,x::l,top,hn,hc,s,m,h=>by
  obtain⟨h1,h2,h3,h4⟩:=dP hc
  have ho:=kI h1
  have hsz:=aV (zi (a:=x) (l:=l))
  have ht:=dh x l
  have p1:=(dJ f n x.aH wN (by omega) h2).1
  have p2:=(dJ f n x.aL wN (by omega) h3).1
  rw[rK,sj hc]
  have i1:=LB hh hvn ho p1 p2 (jx hh hvn n x.aH wN (by omega) h2) (jx hh hvn n x.aL wN (by omega) h3) h
  exact(jx hh hvn n l top (by omega) h4 _ _ i1).weak (by omega)
def PB{α:Type}[Inhabited α](g:α->α->α)(l:List α)(x:α){i:Nat}(h:i<l.length):(l.take (i+1)).foldl g x=g ((l.take i).foldl g x) l[i]! :=by
 rw[List.take_add_one,List.foldl_append,zk h,getElem!_pos l i h]
 rfl
def KK{n m:Nat}:∀(l:List ax) (x:ax),fM n m x->(∀q∈l,fM n m q)->fM n m (l.foldl jc x)
 |[],x,hx,_=>hx
 |y::l,x,hx,hl=>KK l (jc x y) (v8 hx (hl y (zi ..))) (fun q hq=>hl q (zJ _ hq))
def Xw(M83:Runner->(List au)->ax->Option rT)(M156:Runner->au->ax->Option iu)(M160:Runner->au->ax->Option iz){n m:Nat}(hn:n<=1000000)(hm:m<=1000000){l:List ax}{x:ax}(hl:l.length<=1000000)(hx:fM n m x)(hq:∀q∈l,fM n m q)(c t:aI):
  pY M83 M156 M160 ⟨l,(l.length:Int),0,⟨[],c,[],t⟩,x⟩=V ⟨l,(l.length:Int),(l.length:Int),⟨[],c,[],t⟩,l.foldl jc x⟩:=by
 obtain⟨v,e1,_⟩:=dH (cO:=Jg M83 M156 M160) l.length (fun i (_:Unit)=>⟨l,(l.length:Int),(i:Int),⟨[],c,[],t⟩,(l.take i).foldl jc x⟩) (fun i _=>True) (fun i b hi _=>by
  have hw:=gF hi hl
  have i1:(i:Int)<(l.length:Int):=by omega
  have i2:(0:Int)<=(i:Int):=by omega
  have e:=WQ (KK (l.take i) x hx (fun q k=>hq q (List.mem_of_mem_take k))) (hq _ (aX hi)) hn hm
  refine⟨(),?_,trivial⟩
  unfold Jg
  dsimp only
  simp only[za,i1,i2,dx,bE,ew,cz,e,hw,PB jc l x hi]) (fun b _=>by unfold Jg;simp) (b:=()) trivial
 rw[zM]at e1
 exact e1
def S8(M83:Runner->(List au)->ax->Option rT)(M156:Runner->au->ax->Option iu)(M160:Runner->au->ax->Option iz){n m:Nat}(hn:n<=1000000)(hm:m<=1000000){L:List ax}(h0:L≠[])(hl:L.length<=1000000)(hq:∀q∈L,fM n m q)(c t:aI):
  1<=L.length/\pY M83 M156 M160 (kg.mk (z7 1 L) ((z7 1 L).length:Int) (0) (ax.mk [] c [] t) L[0]!)=V (kg.mk (z7 1 L) ((z7 1 L).length:Int) ((z7 1 L).length:Int) (ax.mk [] c [] t) (qU L)):=by
 cases L with
 |nil=>exact cQ rfl h0
 |cons x l=>
  have hx:=hq x (zi ..)
  have hq2:∀q∈l,fM n m q:=fun q k=>hq q (zJ _ k)
  exact⟨by simp,Xw M83 M156 M160 hn hm (l:=l) (x:=x) (by simp at hl;omega) hx hq2 c t⟩
def Lr(a:ax->ax)(t:aq)(c:Int):∀(N:Nat) (s:ax),(k9 a t c N s).length<=N+1
 |0,s=>by rw[k9];simp
 |n+1,s=>by
  rw[k9,zh]
  have:=Lr a t c n (a (iF s c))
  split<;>split<;>simp<;>omega
def akd(M83:Runner->(List au)->ax->Option rT)(M156:Runner->au->ax->Option iu)(M160:Runner->au->ax->Option iz){r:Runner}(hn:r.fF.ah.length<=1000000){a:ax->ax}{o:Nat}{x:au}(hN:0<=x.fN/\x.fN<=4096)(hc:bY x.aQ)(ht:eH r.fF.ah wN x.az=0)
  (ha:∀s m,fM r.fF.ah.length m s->fM r.fF.ah.length (m+o) (a s)) {s:ax} {m:Nat} (h:fM r.fF.ah.length m s) (hm:m+x.fN.toNat*o<=1000000)
  (h1:∀s m,fM r.fF.ah.length m s->m+o<=1000000->M83 r x.aH s=V (a s)):
  adI M83 M156 M160 r x s=V (qU (k9 a x.az x.aQ x.fN.toNat s)):=by
 obtain⟨okAll,neAll⟩:=Cm hc ht ha x.fN.toNat s m h
 have lenAll:=Lr a x.az x.aQ x.fN.toNat s
 obtain⟨i,v,e1,⟨hi,hV1,hV2,hV3,hV4⟩,hcc⟩:=oK (cO:=Ar M83 M156 M160) x.fN.toNat (fun i (b:List ax×ax×ax)=>⟨b.1,wO,x.fN,(i:Int),r,x,b.2.1,⟨[],b.2.2.aA,[],b.2.2.aD⟩⟩)
  (fun i b=>i<=x.fN.toNat/\fM r.fF.ah.length (m+i*o) b.2.1/\b.1.length<=i/\b.1++k9 a x.az x.aQ (x.fN.toNat-i) b.2.1=k9 a x.az x.aQ x.fN.toNat s/\True) (fun i b=>cq (cC b.2.1.ah x.az)=wN) (fun i b hi hb=>by
  obtain⟨L,b,z⟩:=b
  obtain⟨_,hb,hL,hr,_⟩:=hb
  dsimp only at hb hr hL
  obtain⟨k,hk⟩:∃k,x.fN.toNat-i=k+1:=⟨x.fN.toNat-i-1,by omega⟩
  have hk2:x.fN.toNat-(i+1)=k:=by omega
  rw[hk,k9]at hr
  have hio:i*o+o<=x.fN.toNat*o:=by
   have:=yF o (show i+1<=x.fN.toNat by omega)
   rw[yb,xM]at this
   exact this
  have hw:i64.wrap ((i:Int)+1)=((i+1:Nat):Int):=by rw[aF];omega
  have i1:(i:Int)<x.fN:=by omega
  have hA:=sv hb hc
  have ea:=O8 hb hc
  have hsl:=hA.sl
  have hln:=hA.len
  have hnn:=iO hA x.az ht
  have ev:Nz (iF b x.aQ) x.az=V (cC b.ah x.az):=K9 hA ht
  have et:=Cj (a:=cC b.ah x.az) (.inr hnn)
  have hz:(cq (cC b.ah x.az)||cG (cC b.ah x.az) 0)=wO:=zero_or hnn
  have e:=h1 _ _ hA (by omega)
  have ec:=rQ (s:=iF b x.aQ) (by omega) (by omega)
  have el:(L++[iF b x.aQ]).length<=1073741824:=by rw[zh,yG];omega
  by_cases hno:cq (cC b.ah x.az)=wO
  ·rw[bw hno]at hr
   refine .inl ?_
   have hnext:fM r.fF.ah.length (m+(i+1)*o) (a (iF b x.aQ)):=by
    have:=ha _ _ hA
    rw[yb,xM]
    exact this.weak (by omega)
   by_cases hh:cG (cC b.ah x.az) 0=wO
   ·rw[bw hh]at hr
    refine⟨(L++[iF b x.aQ],a (iF b x.aQ),z),?_,by omega,hnext,by rw[zh,yG];omega,by rw[hk2,yQ];exact hr,trivial⟩
    unfold Ar
    simp only[i1,dx,bE,aq.eta,ea,ev,et,ec,el,hh,hno,bA,cz,e,au.eta,hw]
   ·rw[bF hh,yg]at hr
    have hh:cG (cC b.ah x.az) 0=wN:=by simpa using hh
    refine⟨(L,a (iF b x.aQ),z),?_,by omega,hnext,Nat.le_succ_of_le hL,by rw[hk2];exact hr,trivial⟩
    unfold Ar
    simp only[i1,dx,bE,aq.eta,ea,ev,et,hh,hno,bA,e,au.eta,hw]
  ·have hno:cq (cC b.ah x.az)=wN:=by simpa using hno
   refine .inr ⟨?_,hno⟩
   have hh:cG (cC b.ah x.az) 0=wO:=by rw[hno]at hz;simpa using hz
   unfold Ar
   simp only[i1,dx,bE,aq.eta,ea,ev,et,ec,el,hh,hno,bA,cz]) (fun b _=>by
   unfold Ar
   dsimp only
   rw[fy];rfl) (b:=([],s,⟨[],⟨0,0,0⟩,[],⟨0,0,0⟩⟩)) ⟨by omega,h.weak (by omega),by simp,rfl,trivial⟩
 obtain⟨L,b,z⟩:=v
 dsimp only at hV1 hV2 hV3 hcc
 have e1':JW M83 M156 M160 ⟨[],wO,x.fN,0,r,x,s,⟨[],⟨0,0,0⟩,[],⟨0,0,0⟩⟩⟩=V ⟨L,wO,x.fN,(i:Int),r,x,b,⟨[],z.aA,[],z.aD⟩⟩:=e1
 unfold adI
 rw[aq.eta,au.eta,e1']
 rcases hcc with rfl|⟨hi2,hno⟩
 ·rw[xF,k9]at hV3
  dsimp only
  rw[fy,bA]
  simp only[bE]
  rw[bw (by rw[zh,yG];omega),hV3]
  obtain⟨j1,j2⟩:=S8 M83 M156 M160 hn hm neAll (by omega) okAll z.aA z.aD
  rw[gC,bw (by first|exact⟨rfl,j1⟩|exact⟨trivial,j1⟩),gC,j2]
  dsimp only
  rw[fy,bA]
 ·obtain⟨k,hk⟩:∃k,x.fN.toNat-i=k+1:=⟨x.fN.toNat-i-1,by omega⟩
  rw[hk,k9]at hV3
  have hA:=sv hV1 hc
  have ea:=O8 hV1 hc
  have hio:i*o<=x.fN.toNat*o:=yF o hi
  have hsl:=hA.sl
  have hln:=hA.len
  have hnn:=iO hA x.az ht
  have ev:Nz (iF b x.aQ) x.az=V (cC b.ah x.az):=K9 hA ht
  have et:=Cj (a:=cC b.ah x.az) (.inr hnn)
  have hz:(cq (cC b.ah x.az)||cG (cC b.ah x.az) 0)=wO:=zero_or hnn
  have ec:=rQ (s:=iF b x.aQ) (by omega) (by omega)
  have hh:cG (cC b.ah x.az) 0=wO:=by rw[hno]at hz;simpa using hz
  rw[hh,hno,bw rfl,bF (by decide),yj]at hV3
  dsimp only
  rw[sw,bE,ea]
  dsimp only
  rw[aq.eta,ev]
  dsimp only
  rw[et]
  dsimp only
  rw[hh,hno,bE,ec]
  dsimp only
  rw[bw (by rw[zh,yG];omega),hV3]
  obtain⟨j1,j2⟩:=S8 M83 M156 M160 hn hm neAll (by omega) okAll z.aA z.aD
  rw[gC,bw (by first|exact⟨rfl,j1⟩|exact⟨trivial,j1⟩),gC,j2]
  dsimp only
  rw[fy,bA]
  rfl
def amB(M83:Runner->(List au)->ax->Option rT)(M156:Runner->au->ax->Option iu)(M160:Runner->au->ax->Option iz){r:Runner}(hn:r.fF.ah.length<=1000000){a b:ax->ax}{o p:Nat}{x:au}{s:ax}{m:Nat}(h:fM r.fF.ah.length m s)(hc:eH r.fF.ah wN x.az=0)(hm:m+max o p<=1000000)
  (ha:∀s m,fM r.fF.ah.length m s->fM r.fF.ah.length (m+o) (a s)) (hb:∀s m,fM r.fF.ah.length m s->fM r.fF.ah.length (m+p) (b s))
  (h1:M83 r x.aH s=V (a s)) (h2:M83 r x.aL s=V (b s)):
  adJ M83 M156 M160 r x s=V (brA (cC s.ah x.az) a b s):=by
 have hsl:=h.sl
 have hln:=h.len
 unfold adJ brA
 rw[aq.eta,K9 h hc]
 dsimp only
 rw[Cj (.inr (iO h x.az hc))]
 have ec:=rQ (s:=s) (by omega) (by omega)
 have ej:=WQ ((ha _ _ h).weak (show m+o<=m+max o p by omega)) ((hb _ _ h).weak (show m+p<=m+max o p by omega)) hn hm
 dsimp only
 cases cG (cC s.ah x.az) 0 with
 |false=>simp only[bA,bE,h1,cz]
 |true=>
  cases cq (cC s.ah x.az)with
  |false=>simp only[bA,bE,h2,cz,dS,Bool.true_eq_false]
  |true=>simp only[bA,bE,h1,h2,ec,ej,dS,Bool.true_eq_false]
def atj(M83:Runner->(List au)->ax->Option rT)(M156:Runner->au->ax->Option iu)(M160:Runner->au->ax->Option iz){r:Runner}(hn:r.fF.ah.length<=1000000)(hh:r.aj.length=r.fF.aj.length)(hvn:∀i,i<r.aj.length->NN r.aj[i]!)
  {top:Bool} {l:List au} (hl:l.length<=1000000) (hc:b9 r.fF top l=0) {s:ax} {m:Nat} (h:fM r.fF.ah.length m s) (hm:m+di l<=1000000)
  (h1:∀x∈l,∀s m,x.bN=3->fM r.fF.ah.length m s->m+max (di x.aH) (di x.aL)<=1000000->M160 r x s=V (brA (cC s.ah x.az) (jJ r.fF r.aj x.aH) (jJ r.fF r.aj x.aL) s))
  (h3:∀x∈l,∀s m,x.bN=4->fM r.fF.ah.length m s->m+x.fN.toNat*di x.aH<=1000000->M156 r x s=V (qU (k9 (jJ r.fF r.aj x.aH) x.az x.aQ x.fN.toNat s))):
  s83 M83 M156 M160 r l s=V (jJ r.fF r.aj l s):=by
 obtain⟨v,e1,hV⟩:=dH (cO:=Ra M83 M156 M160) l.length (fun i (b:ax×ax)=>⟨l,(l.length:Int),(i:Int),r,b.1,⟨[],b.2.aA,[],b.2.aD⟩⟩)
  (fun i b=>(∃k,fM r.fF.ah.length k b.1/\k+di (l.drop i)<=1000000)/\b9 r.fF top (l.drop i)=0/\jJ r.fF r.aj (l.drop i) b.1=jJ r.fF r.aj l s) (fun i b hi hb=>by
  obtain⟨b,z⟩:=b
  obtain⟨⟨k,hb,hk⟩,hst,hr⟩:=hb
  dsimp only at hb hr
  rw[drop_cons hi]at hk hst hr
  rw[rK]at hr
  have hmem:=aX hi
  generalize hx:l[i]! =x at*
  obtain⟨g1,g2,g3,g4⟩:=dP hst
  have ho:=kI g1
  have p1:=(dJ r.fF _ _ _ (zw _) g2).1
  have p2:=(dJ r.fF _ _ _ (zw _) g3).1
  have aT:=jx hh hvn _ x.aH wN (zw _) g2
  have aE:=jx hh hvn _ x.aL wN (zw _) g3
  rw[sj hst]at hk
  have hnext:=LB hh hvn ho p1 p2 aT aE hb
  refine⟨(sZ r.fF r.aj (jJ r.fF r.aj x.aH) (jJ r.fF r.aj x.aL) x b,z),?_,⟨_,hnext,by omega⟩,g4,hr⟩
  have hw:=gF hi hl
  have i1:(i:Int)<(l.length:Int):=by omega
  have i2:(0:Int)<=(i:Int):=by omega
  have hcost:=vG ho
  unfold Ra
  dsimp only
  simp only[za,i1,i2,hx,dx,bE,ew,cz,au.eta,aq.eta,hw]
  unfold sZ
  by_cases d4:x.bN=4
  ·have hN:=ho.n4 d4
   have eu:(uO x).1.toNat=x.fN.toNat*di x.aH:=by
    unfold uO
    simp only[d4,Int.reduceEq,cz,dS]
    rw[di,Int.toNat_mul hN.1 p1]
   have e:=h3 x hmem b k d4 hb (by omega)
   simp only[d4,Int.reduceEq,dx,bE,cz,e]
  have ea:=O8 hb hcost
  have hA:=sv hb hcost
  have ev:Nz (iF b x.aQ) x.az=V (cC b.ah x.az):=K9 hA ho.term
  have hnn:NN (cC b.ah x.az):=iO hb x.az ho.term
  simp only[d4,gh,bA,ea,dS]
  by_cases d0:x.bN=0
  ·obtain⟨v1,v2⟩:=ho.var (.inl d0)
   simp only[d0,Int.reduceEq,dx,gh,bE,bA,cz,dS,ev,WW hA hn (by omega) v1 v2 hnn]
  by_cases d1:x.bN=1
  ·have e:=aoM hA hn (by omega) hnn
   simp only[d1,Int.reduceEq,dx,gh,bE,bA,cz,dS,ev,e]
  by_cases d5:x.bN=5
  ·obtain⟨v1,v2⟩:=ho.var (.inr d5)
   obtain⟨n1,n2⟩:=ho.n5 d5
   have hlt:x.fN.toNat<r.aj.length:=by omega
   have e:=WW hA hn (by omega) v1 v2 (hvn _ hlt)
   simp only[d5,Int.reduceEq,dx,gh,bE,bA,cz,dS]
   rw[gC,e]
  by_cases d3:x.bN=3
  ·have eu:(uO x).1.toNat=max (di x.aH) (di x.aL):=by
    unfold uO di
    simp only[d3,Int.reduceEq,cz,dS]
    omega
   have e:=h1 x hmem (iF b x.aQ) k d3 hA (by omega)
   simp only[d3,Int.reduceEq,dx,gh,bE,bA,cz,dS,e]
   rfl
  by_cases d6:x.bN=6
  ·obtain⟨_,q2,q3,q4,q5⟩:=ho.BY d6
   have e:=(tR (a:=iS 8 b.aD (dL x.aQ)) hA.time q4 (by omega) (J2 q2 q3 q4 q5)).1
   have e:La (iF b x.aQ).aD x.aJ=_:=e
   simp only[d6,Int.reduceEq,dx,gh,bE,bA,cz,dS]
   rw[e]
   rfl
  ·simp only[d0,d1,d3,d5,d6,gh,bA,dS]) (fun b _=>by unfold Ra;simp) (b:=(s,⟨[],⟨0,0,0⟩,[],⟨0,0,0⟩⟩)) ⟨⟨m,h,by rw[xT];exact hm⟩,by rw[xT];exact hc,by rw[xT]⟩
 obtain⟨b,z⟩:=v
 have e1':S6 M83 M156 M160 ⟨l,(l.length:Int),0,r,s,⟨[],⟨0,0,0⟩,[],⟨0,0,0⟩⟩⟩=V ⟨l,(l.length:Int),(l.length:Int),r,b,⟨[],z.aA,[],z.aD⟩⟩:=e1
 have hr:=hV.2.2
 dsimp only at hr
 rw[List.drop_length,pS]at hr
 unfold s83
 rw[e1',<-hr]
 dsimp only
 rw[fy,bA]
def Bp{f:aP}{x:au}:∀{top:Bool} {l:List au},b9 f top l=0->x∈l->b9 f wN x.aH=0/\b9 f wN x.aL=0
 |_,[],_,h=>by cases h
 |top,y::l,hc,h=>by
  obtain⟨h1,h2,h3,h4⟩:=dP hc
  rcases zy.1 h with rfl|h
  ·exact⟨h2,h3⟩
  ·exact Bp h4 h
def ajN{r:Runner}(hn:r.fF.ah.length<=1000000)(hh:r.aj.length=r.fF.aj.length)(hvn:∀i,i<r.aj.length->NN r.aj[i]!):∀n:Nat,
  (∀(top:Bool) (l:List au) (s:ax) (m:Nat),2*SizeOf.sizeOf l<n->fO l<=1000000->b9 r.fF top l=0->fM r.fF.ah.length m s->m+di l<=1000000->Vi n r l s=V (jJ r.fF r.aj l s))/\
  (∀(x:au) (s:ax) (m:Nat),2*SizeOf.sizeOf x.aH+1<n->fO x.aH<=1000000->(0<=x.fN/\x.fN<=4096)->bY x.aQ->eH r.fF.ah wN x.az=0->b9 r.fF wN x.aH=0->fM r.fF.ah.length m s->m+x.fN.toNat*di x.aH<=1000000->C4 n r x s=V (qU (k9 (jJ r.fF r.aj x.aH) x.az x.aQ x.fN.toNat s)))/\
  (∀(x:au) (s:ax) (m:Nat),2*SizeOf.sizeOf x.aH+1<n->2*SizeOf.sizeOf x.aL+1<n->fO x.aH<=1000000->fO x.aL<=1000000->eH r.fF.ah wN x.az=0->b9 r.fF wN x.aH=0->b9 r.fF wN x.aL=0->fM r.fF.ah.length m s->m+max (di x.aH) (di x.aL)<=1000000->Dz n r x s=V (brA (cC s.ah x.az) (jJ r.fF r.aj x.aH) (jJ r.fF r.aj x.aL) s))
 |0=>⟨fun _ _ _ _ h=>by omega,fun _ _ _ h=>by omega,fun _ _ _ h=>by omega⟩
 |n+1=>by
  obtain⟨i1,i2,i3⟩:=ajN hn hh hvn n
  refine⟨fun top l s m h hN hc hs hm=> ?_,fun x s m h hN hx hc ht hst hs hm=> ?_,fun x s m h h' hN hN' ht hst hst' hs hm=> ?_⟩
  ·refine atj (Vi n) (C4 n) (Dz n) hn hh hvn (zx (jQ l) hN) hc hs hm (fun x hx s m h3 hs hm=> ?_) (fun x hx s m h4 hs hm=> ?_)
   ·have:=aV hx
    have:=vS hx
    obtain⟨_,k⟩:=vH hc hx
    obtain⟨k1,k2⟩:=Bp hc hx
    exact i3 x s m (by omega) (by omega) (by omega) (by omega) k.term k1 k2 hs hm
   ·have:=(aV hx).1
    obtain⟨_,k⟩:=vH hc hx
    obtain⟨k1,k2⟩:=Bp hc hx
    exact i2 x s m (by omega) (zx (vS hx).1 hN) (k.n4 h4) (vG k) k.term k1 hs hm
  ·refine akd (Vi n) (C4 n) (Dz n) hn hx hc ht (jx hh hvn _ x.aH wN (zw _) hst) hs hm (fun s m hs hm=>i1 wN x.aH s m (by omega) hN hst hs hm)
  ·exact amB (Vi n) (C4 n) (Dz n) hn hs ht hm (jx hh hvn _ x.aH wN (zw _) hst) (jx hh hvn _ x.aL wN (zw _) hst') (i1 wN x.aH s m (by omega) hN hst hs (by omega)) (i1 wN x.aL s m (by omega) hN' hst' hs (by omega))
def apW{r:Runner}(hn:r.fF.ah.length<=1000000)(hh:r.aj.length=r.fF.aj.length)(hvn:∀i,i<r.aj.length->NN r.aj[i]!){top:Bool}{l:List au}{s:ax}{m:Nat}(hN:fO l<=1000000)(hc:b9 r.fF top l=0)(hs:fM r.fF.ah.length m s)(hm:m+di l<=1000000):r83 r l s=V (jJ r.fF r.aj l s):=
 eE (2*SizeOf.sizeOf l+1) fun n h=>(ajN hn hh hvn n).1 top l s m (by omega) hN hc hs hm
def kd(k:Int)(v:aS):Bool:=wP (v.bk=k)
def cg(vars:List aS)(k:Int)(i:Nat):Nat:=((vars.take i).filter (kd k)).length
def fA{vars:List aS}{i:Nat}(h:i<vars.length)(k:Int):cg vars k (i+1)=cg vars k i+if vars[i]!.bk=k then 1 else 0:=by
 unfold cg
 rw[bS h,xk,zh]
 by_cases hk:vars[i]!.bk=k
 ·rw[bw hk];simp only[yK,xq,kd,hk,dx,cz,yG]
 ·rw[bF hk];simp only[yK,xq,kd,hk,gh,xp,dS,List.length_nil]
def kG(vars:List aS)(k:Int)(i:Nat):cg vars k i<=i:=by
 unfold cg
 exact zx (yp _ _) (by rw[zZ];omega)
def kZ{vars:List aS}{k:Int}{i j:Nat}(hij:i<=j)(hj:j<=vars.length):cg vars k i<=cg vars k j:=by
 induction j with
 |zero=>
  have:i=0:=by omega
  subst this;exact zD _
 |succ j ih=>
  by_cases h:i=j+1
  ·subst h;exact zD _
  ·rw[fA (by omega)]
   have:=ih (by omega) (by omega)
   omega
def gz(vars:List aS)(k:Int):cg vars k vars.length=(vars.filter (kd k)).length:=by unfold cg;rw[zM]
def Rn(vars:List aS)(k:Int):∀(n:Nat),n<=vars.length->∀j,j<cg vars k n->∃i,i<n/\vars[i]!.bk=k/\cg vars k i=j/\((vars.take n).filter (kd k))[j]! =vars[i]!
 |0,_,j,h=>by simp[cg]at h
 |n+1,hn,j,h=>by
  have hi:n<vars.length:=by omega
  rw[bS hi,xk]
  have hc:=fA hi k
  by_cases hj:j<cg vars k n
  ·obtain⟨i,h1,h2,h3,h4⟩:=Rn vars k n (by omega) j hj
   refine⟨i,by omega,h2,h3,?_⟩
   rw[<-h4]
   have hl:j<((vars.take n).filter (kd k)).length:=hj
   rw[getElem!_pos _ j (by rw[zh];omega),getElem!_pos _ j hl,xB hl]
  ·have hk:vars[n]!.bk=k:=by
    by_cases hk:vars[n]!.bk=k
    ·exact hk
    ·rw[bF hk]at hc;omega
   rw[bw hk]at hc
   refine⟨n,by omega,hk,by omega,?_⟩
   have hl:((vars.take n).filter (kd k)).length=j:=by show cg vars k n=j;omega
   have e:[vars[n]!].filter (kd k)=[vars[n]!]:=by simp only[yK,xq,kd,hk,dx,cz]
   rw[e,getElem!_pos _ j (by rw[zh,hl];simp),xg (by omega)]
   simp[hl]
def I6(vars:List aS)(hl:vars.length<=1000000)(k:Int):XK vars k=V (vars.filter (kd k)):=by
 obtain⟨v,e1,hV⟩:=dH (cO:=JL) vars.length (fun i (b:List aS)=>⟨vars,k,b,(i:Int)⟩) (fun i b=>b=(vars.take i).filter (kd k)) (fun i b hi hb=>by
  have hw:=gF hi hl
  have i1:(i:Int)<(vars.length:Int):=by omega
  have i2:(0:Int)<=(i:Int):=by omega
  refine⟨_,?_,rfl⟩
  have hlen:b.length<=1000000:=by rw[hb];exact zx (kG vars k i) (by omega)
  rw[bS hi,xk,<-hb]
  unfold JL
  by_cases hk:vars[i]!.bk=k
  ·have h2:(b++[vars[i]!]).length<=1073741824:=by rw[zh,yG];omega
   simp only[za,i1,i2,hk,h2,hw,dx,bE,ew,cz,kd,yK,xq]
  ·simp only[za,i1,i2,hk,hw,dx,gh,bE,bA,ew,cz,kd,yK,xq,yj,xp,dS]) (fun b _=>by unfold JL;simp) (b:=[]) (by simp)
 rw[zM]at hV
 have e1':HZ ⟨vars,k,[],0⟩=V ⟨vars,k,v,(vars.length:Int)⟩:=e1
 unfold XK
 rw[e1']
 simp[hV]
def C2(vars:List aS)(hv:bX vars)(hl:vars.length<=1000000){k:Int}(hk:k=1\/k=2\/k=3):∃p,m89 vars k=V p:=by
 have hm:=I6 vars hl k
 generalize hF:vars.filter (kd k)=L at hm
 have hL:∀v∈L,-1048576<=v.af/\v.af<=v.aa/\v.aa<=1048576:=fun v h=>by rw[<-hF]at h;exact hv v (z6.1 h).1
 have hll:L.length<=1000000:=by rw[<-hF];exact zx (yp _ _) hl
 obtain⟨v,e1,_⟩:=dH (cO:=EG) L.length (fun i (_:Unit)=>⟨L,(i:Int)⟩) (fun _ _=>True) (fun i b hi _=>by
  have hw:=gF hi hll
  obtain⟨q1,q2,q3⟩:=hL _ (aX hi)
  have i1:(i:Int)<(L.length:Int):=by omega
  have i2:(0:Int)<=(i:Int):=by omega
  refine⟨(),?_,trivial⟩
  unfold EG
  simp only[za,i1,i2,hi,hw,dx,bE,ew,cz,show ¬L[i]!.aa<L[i]!.af by omega,show ¬L[i]!.af< -1048576 by omega,show ¬1048576<L[i]!.aa by omega,gh,bA]) (fun b _=>by unfold EG;simp) (b:=()) trivial
 have e1':KI ⟨L,0⟩=V ⟨L,(L.length:Int)⟩:=e1
 have hsz:∀i,i<L.length->∀n:Int,1<=n->n<=4096->i64.wrap (n*i64.wrap (i64.wrap (L[i]!.aa-L[i]!.af)+1))=n*(L[i]!.aa-L[i]!.af+1)/\1<=n*(L[i]!.aa-L[i]!.af+1):=fun i hi n h1 h2=>by
  obtain⟨q1,q2,q3⟩:=hL _ (aX hi)
  have p1:n*(L[i]!.aa-L[i]!.af+1)<=4096*(L[i]!.aa-L[i]!.af+1):=zG h2 (by omega)
  have p2:1*(L[i]!.aa-L[i]!.af+1)<=n*(L[i]!.aa-L[i]!.af+1):=zG h1 (by omega)
  rw[aF (n:=L[i]!.aa-L[i]!.af),aF (n:=L[i]!.aa-L[i]!.af+1),aF]
  exact⟨rfl,by omega⟩
 obtain⟨i,n,e2,hI,hc⟩:=oK (cO:=BG) L.length (fun i (b:Int)=>⟨L,b,(i:Int)⟩) (fun _ b=>1<=b/\b<=4096) (fun i b=>4096<b*(L[i]!.aa-L[i]!.af+1)) (fun i b hi hb=>by
  have hw:=gF hi hll
  obtain⟨s1,s2⟩:=hsz i hi b hb.1 hb.2
  have i1:(i:Int)<(L.length:Int):=by omega
  have i2:(0:Int)<=(i:Int):=by omega
  by_cases h:4096<b*(L[i]!.aa-L[i]!.af+1)
  ·refine .inr ⟨?_,h⟩
   unfold BG
   simp only[za,i1,i2,hi,dx,bE,ew,cz,s1,h]
  ·refine .inl ⟨b*(L[i]!.aa-L[i]!.af+1),?_,s2,by omega⟩
   unfold BG
   simp only[za,i1,i2,hi,hw,dx,bE,ew,cz,s1,h,gh,bA]) (fun b _=>by unfold BG;simp) (b:=1) ⟨by omega,by omega⟩
 have e2':Mv ⟨L,1,0⟩=V ⟨L,n,(i:Int)⟩:=e2
 have hk1:(bif bif wP (k=0)then wN else wO then
   bif bif wP (k=1)then wN else wO then
    bif bif wP (k=2)then wN else wO then V (bif wP (k=3)then wN else wO)else V wN
   else V wN
  else some false)=some false:=by rcases hk with h|h|h<;>simp[h]
 unfold m89
 rw[hk1]
 simp only[bA,hm,e1']
 rw[fy,bA,e2']
 dsimp only
 rcases hc with rfl|⟨hi,h⟩
 ·rw[fy]
  exact⟨_,rfl⟩
 ·obtain⟨s1,s2⟩:=hsz i hi n hI.1 hI.2
  have i1:(i:Int)<(L.length:Int):=by omega
  have i2:(0:Int)<=(i:Int):=by omega
  simp only[za,i1,i2,hi,dx,bE,ew,cz,s1,h]
  exact⟨_,rfl⟩
def F4{f:aP}(h:few f 10 80=wO):fO f.bJ+jK (f.aj.map (·.az))<=80/\f.aj.length<=10/\f.ah.length<=10:=by
 unfold few at h
 rw[decide_eq_true_eq]at h
 omega
def U8{f:aP}(h:B7 f=0):b9 f wO f.bJ=0:=by
 unfold B7 at h
 split at h
 ·cases h
 split at h
 ·exact cQ h ‹_›
 split at h
 ·exact cQ h ‹_›
 split at h
 ·exact cQ h ‹_›
 rename_i h4
 simpa using h4
def am9(f:aP)(a b c:Int):∃r,m24 f a b c=V r/\(r=wO->few f 10 80=wO/\B7 f=0):=by
 unfold m24
 rw[anS f 10 80 (by decide) (by decide) (by decide) (by decide)]
 cases hf:few f 10 80 with
 |false=>exact⟨false,rfl,fun h=>by cases h⟩
 |true=>
  obtain⟨h1,h2,h3⟩:=F4 hf
  rw[Nv f (by omega) (by omega) (by omega)]
  by_cases hc:B7 f=0
  ·have hv:=pG hc
   obtain⟨p1,e1⟩:=C2 f.ah hv (by omega) (k:=1) (.inl rfl)
   obtain⟨p2,e2⟩:=C2 f.ah hv (by omega) (k:=2) (.inr (.inl rfl))
   obtain⟨p3,e3⟩:=C2 f.ah hv (by omega) (k:=3) (.inr (.inr rfl))
   have hS:Bl f.bJ:=Am f _ f.bJ wO (zw _) (U8 hc)
   rw[e1,e2,e3,WR f.bJ (by omega) hS]
   simp only[hc,dx,bE,bA]
   cases wP (p1.fst<=a)<;>cases wP (p2.fst<=b)<;>cases wP (p3.fst<=c)<;>exact⟨_,rfl,fun _=>⟨trivial,trivial⟩⟩
  ·simp only[hc,gh,bE,bA]
   exact⟨false,rfl,fun h=>by cases h⟩
def iG(vars:List aS)(inp:cR)(i:Nat):Int:=
 if vars[i]!.bk=1 then inp.eO[cg vars 1 i]! else if vars[i]!.bk=2 then inp.aW[cg vars 2 i]! else if vars[i]!.bk=3 then inp.fk[cg vars 3 i]! else vars[i]!.dz
def fR(vars:List aS)(inp:cR):List Int:=(zH vars.length).map (iG vars inp)
structure uP (vars:List aS) (inp:cR):Prop where
 s:inp.eO.length=cg vars 1 vars.length
 p:inp.aW.length=cg vars 2 vars.length
 r:inp.fk.length=cg vars 3 vars.length
 b:∀i,i<vars.length->vars[i]!.af<=iG vars inp i/\iG vars inp i<=vars[i]!.aa
def DZ{l:List Int}{i:Nat}(h:i<l.length):Hl l (i:Int)=V (l[i]!,wO):=by
 unfold Hl
 rw[fy,bA,gC,za]
def OL{α:Type}(f:Nat->α)(i:Nat):(zH (i+1)).map f=(zH i).map f++[f i]:=by rw[List.range_succ,yc];rfl
def nL{α:Type}[Inhabited α]{c:Nat->α->Int}:∀{l:List α} {i:Nat},cw c l i=0->∀j,j<l.length->c (i+j) l[j]! =0
 |[],_,_,j,h=>by simp at h
 |x::l,i,h,j,hj=>by
  unfold cw at h
  split at h
  case isFalse h1=>exact cQ h h1
  rename_i h0
  cases j with
  |zero=>simpa using h0
  |succ j=>
   have:=nL h j (by simpa using hj)
   rw[show i+(j+1)=i+1+j by omega]
   exact this
def anr{f:aP}{i:Nat}{h:dc}(hc:lU f i h=0):(-1048576<=h.af/\h.af<=h.aa/\h.aa<=1048576)/\eH f.ah wO h.az=0:=by
 unfold lU at hc
 split at hc
 ·cases hc
 split at hc
 ·cases hc
 split at hc
 ·cases hc
 rename_i hb
 have hb:gM h.af h.aa=wO:=by simpa using hb
 unfold gM at hb
 rw[decide_eq_true_eq]at hb
 exact⟨⟨hb.2.1,hb.1,hb.2.2⟩,hc⟩
structure Ge (f:aP):Prop where
 vars:bX f.ah
 hat:∀i,i<f.aj.length->(-1048576<=f.aj[i]!.af/\f.aj[i]!.af<=f.aj[i]!.aa/\f.aj[i]!.aa<=1048576)/\eH f.ah wO f.aj[i]!.az=0
 steps:b9 f wO f.bJ=0
 o:(cA f.bJ).2.1<=8
 t:(cA f.bJ).2.2<=67108864
def IZ{f:aP}(h:B7 f=0):Ge f:=by
 have hv:=pG h
 unfold B7 at h
 split at h
 ·cases h
 split at h
 ·exact cQ h ‹_›
 split at h
 ·exact cQ h ‹_›
 rename_i h3
 split at h
 ·exact cQ h ‹_›
 rename_i h4
 split at h
 ·cases h
 rename_i h5
 have h3:cw (lU f) f.aj 0=0:=by simpa using h3
 have h4:b9 f wO f.bJ=0:=by simpa using h4
 unfold Tu at h5
 simp only[decide_eq_true_eq]at h5
 exact⟨hv,fun i hi=>anr (i:=0+i) (nL h3 i hi),h4,by omega,by omega⟩
def UP(f:aP)(vals:List Int):List Int:=f.aj.map fun h=>gB (dN vals h.az) h.af h.aa
def anf{f:aP}(hf:Ge f)(hl:f.aj.length<=1000000){vals:List Int}(hV:FJ f.ah vals):m97 f vals=V (UP f vals):=by
 obtain⟨v,e1,hI⟩:=dH (cO:=Tc) f.aj.length (fun i (b:List Int)=>⟨vals,b,(i:Int),f⟩) (fun i b=>b=(f.aj.take i).map fun h=>gB (dN vals h.az) h.af h.aa) (fun i b hi hb=>by
  have hw:=gF hi hl
  have i1:(i:Int)<(f.aj.length:Int):=by omega
  have i2:(0:Int)<=(i:Int):=by omega
  obtain⟨ev,_,_⟩:=Cz hf.vars hV wO f.aj[i]!.az (hf.hat i hi).2
  have hlen:b.length<=1000000:=by rw[hb];simp;omega
  have hl2:∀x:Int,(b++[x]).length<=1073741824:=fun x=>by simp;omega
  refine⟨b++[gB (dN vals f.aj[i]!.az) f.aj[i]!.af f.aj[i]!.aa],?_,by rw[bS hi,yc,hb];rfl⟩
  unfold Tc
  simp only[za,i1,i2,dx,bE,ew,cz,aq.eta,ev,JQ,hl2,hw]) (fun b _=>by unfold Tc;simp) (b:=[]) (by simp)
 rw[zM]at hI
 have e1':RD ⟨vals,[],0,f⟩=V ⟨vals,v,(f.aj.length:Int),f⟩:=e1
 unfold m97
 rw[e1']
 dsimp only
 rw[fy,bA,hI]
 rfl
def Gr{vars:List aS}{inp:cR}(h:uP vars inp):FJ vars (fR vars inp):=by
 refine⟨by simp[fR],fun i hi=> ?_⟩
 have e:(fR vars inp)[i]! =iG vars inp i:=by
  unfold fR
  rw[getElem!_pos _ i (by simpa using hi),yo,wz]
 rw[e]
 exact h.b i hi
def FE(f:aP)(inp:cR):CS:=iX f (UP f (fR f.ah inp)) f.bJ ⟨fR f.ah inp,[],0⟩
def ay1{f:aP}(hf:Ge f){inp:cR}(h:uP f.ah inp):FN f wO f.bJ ⟨fR f.ah inp,[],0⟩:=by
 have:=hf.o
 have:=hf.t
 exact⟨hf.steps,Gr h,zg _,by show (0:Int)+_<=_;omega,by show (((0:Nat):Int))+_<=_;omega⟩
def F79:aK:=(L6 (akh (e91 dg)))
structure Dg where
 t2:List aI
 t100:List aS
 (t101 t102:Int)
def ZG:Td 0 Dg:= .c [] [2,100,101,102] (.r 0 1 (ec 2 (ql 34) (ec 100 (qo 0) (ec 101 aM (ec 102 aM en)))) (sr 0 131 sn) (fun z=>⟨z.1.1,z.2.1,z.1.2.2.1,z.1.2.2.2.1⟩) (fun x=>((x.t2,(),x.t101,x.t102,()),(x.t100,()))))
def L3(p:Dg):Option (Option Dg):=
 bif wP (p.t102<p.t101)then if 0<=p.t102/\p.t102<p.t100.length then if 131=131/\p.t102.toNat<p.t100.length then match if 0<=p.t102/\p.t102<p.t2.length then match tV p.t2[p.t102.toNat]! with|O=>O|V r2=>bif bif r2 then wN else wO then V wO else if 0<=p.t102/\p.t102<p.t2.length then match HJ p.t2[p.t102.toNat]! with|O=>O|V r3=>V (wP (r3=0))else O else O with|O=>O|V r4=>bif r4 then V (O)else if 0<=p.t102/\p.t102<p.t2.length then bif wP (p.t2[p.t102.toNat]!.af<p.t100[p.t102.toNat]!.af)then V (O)else if 0<=p.t102/\p.t102<p.t2.length then bif wP (p.t100[p.t102.toNat]!.aa<p.t2[p.t102.toNat]!.aa)then V (O)else V (V (Dg.mk p.t2 p.t100 p.t101 (i64.wrap (p.t102+1))))else O else O else O else O else V (O)
def aiI:An:=(noTwo (noTwo (.two (noTwo (.two (.two (.rb [91,144] 120) .no) .no)) .no)))
def Rj:Dg->Option Dg:=bI (L3)
structure Fs where
 t2:List aI
 (t9 t69:List aS)
 (t70 t71:Int)
 b0:cD
def ZW:Td 0 Fs:= .c [] [2,4,9,69,70,71] (.r 0 3 (ec 2 (ql 34) (ec 4 (qp 0 0) (ec 9 (qo 1) (ec 69 (qo 2) (ec 70 aM (ec 71 aM en)))))) (sb 0 29 (lg 29) (sr 1 131 (sr 2 131 sn))) (fun z=>⟨z.1.1,z.2.2.1,z.2.2.2.1,z.1.2.2.2.2.1,z.1.2.2.2.2.2.1,z.2.1⟩) (fun x=>((x.t2,(),(),(),x.t70,x.t71,()),(x.b0,x.t9,x.t69,()))))
def Ml(p:Fs):Option (Option Fs):=
 bif wP (p.t71<p.t70)then if 0<=p.t71/\p.t71<p.t69.length then if 131=131/\p.t71.toNat<p.t69.length then if 0<=p.t71/\p.t71<p.b0.aW.length then bif wP (((p.t2,(),(),(),p.t70,p.t71,()),p.b0,p.t9,p.t69,()).snd.fst.aW[((p.t2,(),(),(),p.t70,p.t71,()),p.b0,p.t9,p.t69,()).fst.snd.snd.snd.snd.snd.fst.toNat]! <((p.t2,(),(),(),p.t70,p.t71,()),p.b0,p.t9,p.t69,()).snd.snd.snd.fst[((p.t2,(),(),(),p.t70,p.t71,()),p.b0,p.t9,p.t69,()).fst.snd.snd.snd.snd.snd.fst.toNat]!.af)then V (O)else if 0<=p.t71/\p.t71<p.b0.aW.length then bif wP (((p.t2,(),(),(),p.t70,p.t71,()),p.b0,p.t9,p.t69,()).snd.snd.snd.fst[((p.t2,(),(),(),p.t70,p.t71,()),p.b0,p.t9,p.t69,()).fst.snd.snd.snd.snd.snd.fst.toNat]!.aa<((p.t2,(),(),(),p.t70,p.t71,()),p.b0,p.t9,p.t69,()).snd.fst.aW[((p.t2,(),(),(),p.t70,p.t71,()),p.b0,p.t9,p.t69,()).fst.snd.snd.snd.snd.snd.fst.toNat]!)then V (O)else V (V (Fs.mk p.t2 p.t9 p.t69 p.t70 (i64.wrap (p.t71+1)) p.b0))else O else O else O else O else V (O)
def SQ:Fs->Option Fs:=bI (Ml)
structure vW where
 t2:List aI
 (t8 t9:List aS)
 t13:Int
 t40:List Int
 (t41 t42:Int)
 t47:List aS
 (t48 t49:Int)
 b0:aP
 b1:cD
def Xp:Td 0 vW:= .c [] [2,3,4,8,9,13,40,41,42,47,48,49] (.r 0 5 (ec 2 (ql 34) (ec 3 (qp 0 0) (ec 4 (qp 1 0) (ec 8 (qo 2) (ec 9 (qo 3) (ec 13 aM (ec 40 (qo 4) (ec 41 aM (ec 42 aM (ec 47 (ql 131) (ec 48 aM (ec 49 aM en)))))))))))) (sb 0 26 (lg 26) (sb 1 29 (lg 29) (sr 2 131 (sr 3 131 (sr 4 129 sn))))) (fun z=>⟨z.1.1,z.2.2.2.1,z.2.2.2.2.1,z.1.2.2.2.2.2.1,z.2.2.2.2.2.1,z.1.2.2.2.2.2.2.2.1,z.1.2.2.2.2.2.2.2.2.1,z.1.2.2.2.2.2.2.2.2.2.1,z.1.2.2.2.2.2.2.2.2.2.2.1,z.1.2.2.2.2.2.2.2.2.2.2.2.1,z.2.1,z.2.2.1⟩) (fun x=>((x.t2,(),(),(),(),x.t13,(),x.t41,x.t42,x.t47,x.t48,x.t49,()),(x.b0,x.b1,x.t8,x.t9,x.t40,()))))
def SU(p:vW):Option (Option vW):=
 bif wP (p.t49<p.t48)then if 0<=p.t49/\p.t49<p.t47.length then bif wP (p.t47[p.t49.toNat]!.bk=p.t13)then if(p.t9++[p.t47[p.t49.toNat]!]).length<=1073741824 then V (V (vW.mk p.t2 p.t8 (p.t9++[p.t47[p.t49.toNat]!]) p.t13 p.t40 p.t41 p.t42 p.t47 p.t48 (i64.wrap (p.t49+1)) p.b0 p.b1))else O else V (V (vW.mk p.t2 p.t8 p.t9 p.t13 p.t40 p.t41 p.t42 p.t47 p.t48 (i64.wrap (p.t49+1)) p.b0 p.b1))else O else V (O)
def GY:vW->Option vW:=bI (SU)
structure Fc where
 t2:List aI
 (t8 t9:List aS)
 t40:List Int
 (t41 t42:Int)
 b0:aP
 b1:cD
def Wt:Td 0 Fc:= .c [] [2,3,4,8,9,40,41,42] (.t (cj.s 9 [] 131) (.c [] [2,3,4,8,9,40,41,42] (.r 0 5 (ec 2 (ql 34) (ec 3 (qp 0 0) (ec 4 (qp 1 0) (ec 8 (qo 2) (ec 9 (qo 3) (ec 40 (qo 4) (ec 41 aM (ec 42 aM en)))))))) (sb 0 26 (lg 26) (sb 1 29 (lg 29) (sr 2 131 (sr 3 131 (sr 4 129 sn))))) (fun z=>⟨z.1.1,z.2.2.2.1,z.2.2.2.2.1,z.2.2.2.2.2.1,z.1.2.2.2.2.2.2.1,z.1.2.2.2.2.2.2.2.1,z.2.1,z.2.2.1⟩) (fun x=>((x.t2,(),(),(),(),(),x.t41,x.t42,()),(x.b0,x.b1,x.t8,x.t9,x.t40,()))))))
def To(p:Fc):Option (Option Fc):=
 bif wP (p.t42<p.t41)then if 0<=p.t42/\p.t42<p.t40.length then if 129=129/\p.t42.toNat<p.t40.length then match GY (vW.mk p.t2 p.t8 p.t9 p.t40[p.t42.toNat]! p.t40 p.t41 p.t42 p.b0.ah p.b0.ah.length 0 p.b0 p.b1)with|O=>O|V r1=>bif wP (r1.t49<r1.t48)then if 0<=r1.t49/\r1.t49<r1.t47.length then bif wP (r1.t47[r1.t49.toNat]!.bk=r1.t13)then if(r1.t9++[r1.t47[r1.t49.toNat]!]).length<=1073741824 then O else O else O else O else V (V (Fc.mk r1.t2 r1.t8 r1.t9 r1.t40 r1.t41 (i64.wrap (r1.t42+1)) r1.b0 r1.b1))else O else O else V (O)
def aiE:An:=(noTwo (noTwo (.two (noTwo (noTwo (Xp.lp GY .no))) .no)))
def MF:Fc->Option Fc:=bI (To)
structure BV where
 t2:List aI
 (t8 t26:List aS)
 (t27 t28:Int)
 b0:aP
 b1:cD
def W5:Td 0 BV:= .c [] [2,3,4,8,9,26,27,28] (.t (cj.s 8 [] 131) (.c [] [2,3,4,8,9,26,27,28] (.r 0 3 (ec 2 (ql 34) (ec 3 (qp 0 0) (ec 4 (qp 1 0) (ec 8 (qo 2) (ec 9 qn (ec 26 (ql 131) (ec 27 aM (ec 28 aM en)))))))) (sb 0 26 (lg 26) (sb 1 29 (lg 29) (sr 2 131 sn))) (fun z=>⟨z.1.1,z.2.2.2.1,z.1.2.2.2.2.2.1,z.1.2.2.2.2.2.2.1,z.1.2.2.2.2.2.2.2.1,z.2.1,z.2.2.1⟩) (fun x=>((x.t2,(),(),(),(),x.t26,x.t27,x.t28,()),(x.b0,x.b1,x.t8,()))))))
def SV(p:BV):Option (Option BV):=
 bif wP (p.t28<p.t27)then if 0<=p.t28/\p.t28<p.t26.length then bif wP (p.t26[p.t28.toNat]!.bk=2)then if(p.t8++[p.t26[p.t28.toNat]!]).length<=1073741824 then V (V (BV.mk p.t2 (p.t8++[p.t26[p.t28.toNat]!]) p.t26 p.t27 (i64.wrap (p.t28+1)) p.b0 p.b1))else O else V (V (BV.mk p.t2 p.t8 p.t26 p.t27 (i64.wrap (p.t28+1)) p.b0 p.b1))else O else V (O)
def TA:BV->Option BV:=bI (SV)
abbrev E79:Type:=Int
def d79:Td 0 E79:= .c [] [6] (.r 0 0 (ec 6 aM en) sn (fun z=>z.1.1) (fun x=>((x,()),(()))))
def ayi:∀f∈([91,144]:List Nat),bh (F79) f:=(ay (fP (Gp (Dh bB))) (ay (fP (Gp (Dh bB))) aB))
def m79(a0:aP)(a1:cD)(a2:List aI):Option E79:=
 match aey a0 with|O=>O|V r5=>bif bif wP (r5=0)then wN else wO then V (r5)else match TA (BV.mk a2 [] a0.ah a0.ah.length 0 a0 a1)with|O=>O|V r6=>bif wP (r6.t28<r6.t27)then if 0<=r6.t28/\r6.t28<r6.t26.length then bif wP (r6.t26[r6.t28.toNat]!.bk=2)then if(r6.t8++[r6.t26[r6.t28.toNat]!]).length<=1073741824 then O else O else O else O else match MF (Fc.mk r6.t2 r6.t8 [] [1,3] (↑2:Int) 0 r6.b0 r6.b1)with|O=>O|V r7=>bif wP (r7.t42<r7.t41)then if 0<=r7.t42/\r7.t42<r7.t40.length then if 129=129/\r7.t42.toNat<r7.t40.length then match GY (vW.mk r7.t2 r7.t8 r7.t9 r7.t40[r7.t42.toNat]! r7.t40 r7.t41 r7.t42 r7.b0.ah r7.b0.ah.length 0 r7.b0 r7.b1)with|O=>O|V r8=>bif wP (r8.t49<r8.t48)then if 0<=r8.t49/\r8.t49<r8.t47.length then bif wP (r8.t47[r8.t49.toNat]!.bk=r8.t13)then if(r8.t9++[r8.t47[r8.t49.toNat]!]).length<=1073741824 then O else O else O else O else O else O else O else bif bif wP ((↑r7.b1.aW.length:Int)=(↑r7.t8.length:Int))then wN else wO then V 1 else match SQ (Fs.mk r7.t2 r7.t9 r7.t8 r7.t8.length 0 r7.b1)with|O=>O|V r9=>bif wP (r9.t71<r9.t70)then if 0<=r9.t71/\r9.t71<r9.t69.length then if 131=131/\r9.t71.toNat<r9.t69.length then if 0<=r9.t71/\r9.t71<r9.b0.aW.length then bif wP (((r9.t2,(),(),(),r9.t70,r9.t71,()),r9.b0,r9.t9,r9.t69,()).snd.fst.aW[((r9.t2,(),(),(),r9.t70,r9.t71,()),r9.b0,r9.t9,r9.t69,()).fst.snd.snd.snd.snd.snd.fst.toNat]! <((r9.t2,(),(),(),r9.t70,r9.t71,()),r9.b0,r9.t9,r9.t69,()).snd.snd.snd.fst[((r9.t2,(),(),(),r9.t70,r9.t71,()),r9.b0,r9.t9,r9.t69,()).fst.snd.snd.snd.snd.snd.fst.toNat]!.af)then V 3 else if 0<=r9.t71/\r9.t71<r9.b0.aW.length then bif wP (((r9.t2,(),(),(),r9.t70,r9.t71,()),r9.b0,r9.t9,r9.t69,()).snd.snd.snd.fst[((r9.t2,(),(),(),r9.t70,r9.t71,()),r9.b0,r9.t9,r9.t69,()).fst.snd.snd.snd.snd.snd.fst.toNat]!.aa<((r9.t2,(),(),(),r9.t70,r9.t71,()),r9.b0,r9.t9,r9.t69,()).snd.fst.aW[((r9.t2,(),(),(),r9.t70,r9.t71,()),r9.b0,r9.t9,r9.t69,()).fst.snd.snd.snd.snd.snd.fst.toNat]!)then V 3 else O else O else O else O else O else bif bif wP ((↑r9.t2.length:Int)=(↑r9.t9.length:Int))then wN else wO then V 2 else match Rj (Dg.mk r9.t2 r9.t9 r9.t9.length 0)with|O=>O|V r10=>bif wP (r10.t102<r10.t101)then if 0<=r10.t102/\r10.t102<r10.t100.length then if 131=131/\r10.t102.toNat<r10.t100.length then match if 0<=r10.t102/\r10.t102<r10.t2.length then match tV r10.t2[r10.t102.toNat]! with|O=>O|V r11=>bif bif r11 then wN else wO then V wO else if 0<=r10.t102/\r10.t102<r10.t2.length then match HJ r10.t2[r10.t102.toNat]! with|O=>O|V r12=>V (wP (r12=0))else O else O with|O=>O|V r13=>bif r13 then V 1 else if 0<=r10.t102/\r10.t102<r10.t2.length then bif wP (r10.t2[r10.t102.toNat]!.af<r10.t100[r10.t102.toNat]!.af)then V 3 else if 0<=r10.t102/\r10.t102<r10.t2.length then bif wP (r10.t100[r10.t102.toNat]!.aa<r10.t2[r10.t102.toNat]!.aa)then V 3 else O else O else O else O else O else V 0
def e79:aK->aK:=eL wQ 79 wN (lc (qg 26) (lc (qg 29) (lc (ql 34) ln))) d79 (fun g=>m79 g.1 g.2.1 g.2.2.1)
def aoS:EO e79:=fun h=>kL (F:=F79) (an:=(noTwo (noTwo (noTwo (.two (noTwo (W5.lp TA .no)) (.two (noTwo (Wt.lp MF aiE)) (noTwo (.two (noTwo (ZW.lp SQ .no)) (noTwo (.two (noTwo (ZG.lp Rj aiI)) .no)))))))))) (l:=[(bg f79 0,(W5.lp TA .no)),(bg f79 1,(Wt.lp MF aiE)),(bg f79 2,(Xp.lp GY .no)),(bg f79 3,(ZW.lp SQ .no)),(bg f79 4,(ZG.lp Rj aiI)),(.skip,(.rb [91,144] 120))]) func79 (kQ (aem (Py aR))) (ay (aO W5) (ay (aO Wt) (ay (aO Xp) (ay (aO ZW) (ay (aO ZG) (ay ayi aB)))))) h
def F20:aK:=(e83 (e82 (e81 (e80 (e79 dg)))))
def ale:bq wQ F20:=(amo (Jv (M9 (IB (aoS aR)))))
structure EW where
 t108:List dc
 (t109 t110:Int)
 b0:aP
 b1:cD
 b2:bM
 b3:ax
 b4:Runner
def XV:Td 0 EW:= .c [] [3,4,6,9,17,108,109,110] (.t (cj.c 4 3 [] 34) (.c [] [3,4,6,9,17,108,109,110] (.r 0 7 (ec 3 (qp 0 0) (ec 4 (qp 1 0) (ec 6 (qp 2 0) (ec 9 (qp 3 0) (ec 17 (qp 4 0) (ec 108 (ql 139) (ec 109 aM (ec 110 aM en)))))))) (sb 0 26 (lg 26) (sb 1 29 (lg 29) (sb 2 36 (aN (aN (aN (lc qn (aN (aN (aN (lc qn ln)))))))) (sb 3 128 (lc (qo 5) (aN (aN (aN (lc qn (aN (aN (aN ln)))))))) (sb 4 133 (lc (ql 131) (lc (ql 139) (lc (ql 166) (lc (qo 6) ln)))) (sr 5 34 (sr 6 34 sn))))))) (fun z=>⟨z.1.2.2.2.2.2.1,z.1.2.2.2.2.2.2.1,z.1.2.2.2.2.2.2.2.1,z.2.1,z.2.2.1,(bM.mk (aI.mk z.2.2.2.1.1 z.2.2.2.1.2.1 z.2.2.2.1.2.2.1) [] (aI.mk z.2.2.2.1.2.2.2.2.1 z.2.2.2.1.2.2.2.2.2.1 z.2.2.2.1.2.2.2.2.2.2.1) []),(ax.mk z.2.2.2.2.2.2.1 (aI.mk z.2.2.2.2.1.2.1 z.2.2.2.2.1.2.2.1 z.2.2.2.2.1.2.2.2.1) [] (aI.mk z.2.2.2.2.1.2.2.2.2.2.1 z.2.2.2.2.1.2.2.2.2.2.2.1 z.2.2.2.2.1.2.2.2.2.2.2.2.1)),(Runner.mk (aP.mk z.2.2.2.2.2.1.1 z.2.2.2.2.2.1.2.1 z.2.2.2.2.2.1.2.2.1) z.2.2.2.2.2.2.2.1)⟩) (fun x=>(((),(),(),(),(),x.t108,x.t109,x.t110,()),(x.b0,x.b1,(x.b2.aA.af,x.b2.aA.aa,x.b2.aA.ai,(),x.b2.aD.af,x.b2.aD.aa,x.b2.aD.ai,(),()),((),x.b3.aA.af,x.b3.aA.aa,x.b3.aA.ai,(),x.b3.aD.af,x.b3.aD.aa,x.b3.aD.ai,()),(x.b4.fF.ah,x.b4.fF.aj,x.b4.fF.bJ,(),()),x.b3.ah,x.b4.aj,()))))))
def RC(p:EW):Option (Option EW):=
 bif wP (p.t110<p.t109)then if 0<=p.t110/\p.t110<p.t108.length then match Nz (ax.mk p.b3.ah p.b3.aA [] p.b3.aD) (aq.mk p.t108[p.t110.toNat]!.az.bf p.t108[p.t110.toNat]!.az.fN p.t108[p.t110.toNat]!.az.ak)with|O=>O|V r1=>match m81 r1 p.t108[p.t110.toNat]!.af p.t108[p.t110.toNat]!.aa with|O=>O|V r2=>if(p.b4.aj++[r2.fst]).length<=1073741824 then V (V (EW.mk p.t108 p.t109 (i64.wrap (p.t110+1)) p.b0 p.b1 (bM.mk p.b2.aA [] p.b2.aD []) (ax.mk p.b3.ah p.b3.aA [] p.b3.aD) (Runner.mk p.b4.fF (p.b4.aj++[r2.fst]))))else O else O else V (O)
def LA:EW->Option EW:=bI (RC)
structure sO where
 t2:List aI
 (t10 t11 t12:Int)
 t47:List aS
 (t48 t49:Int)
 b0:aP
 b1:cD
 b2:bM
 b3:ax
def Zi:Td 0 sO:= .c [] [2,3,4,6,9,10,11,12,47,48,49] (.t (cj.c 3 0 [] 34) (.c [] [2,3,4,6,9,10,11,12,47,48,49] (.r 0 5 (ec 2 (ql 34) (ec 3 (qp 0 0) (ec 4 (qp 1 0) (ec 6 (qp 2 0) (ec 9 (qp 3 0) (ec 10 aM (ec 11 aM (ec 12 aM (ec 47 (ql 131) (ec 48 aM (ec 49 aM en))))))))))) (sb 0 26 (lg 26) (sb 1 29 (lg 29) (sb 2 36 (aN (aN (aN (lc qn (aN (aN (aN (lc qn ln)))))))) (sb 3 128 (lc (qo 4) (aN (aN (aN (lc qn (aN (aN (aN ln)))))))) (sr 4 34 sn))))) (fun z=>⟨z.1.1,z.1.2.2.2.2.2.1,z.1.2.2.2.2.2.2.1,z.1.2.2.2.2.2.2.2.1,z.1.2.2.2.2.2.2.2.2.1,z.1.2.2.2.2.2.2.2.2.2.1,z.1.2.2.2.2.2.2.2.2.2.2.1,z.2.1,z.2.2.1,(bM.mk (aI.mk z.2.2.2.1.1 z.2.2.2.1.2.1 z.2.2.2.1.2.2.1) [] (aI.mk z.2.2.2.1.2.2.2.2.1 z.2.2.2.1.2.2.2.2.2.1 z.2.2.2.1.2.2.2.2.2.2.1) []),(ax.mk z.2.2.2.2.2.1 (aI.mk z.2.2.2.2.1.2.1 z.2.2.2.2.1.2.2.1 z.2.2.2.2.1.2.2.2.1) [] (aI.mk z.2.2.2.2.1.2.2.2.2.2.1 z.2.2.2.2.1.2.2.2.2.2.2.1 z.2.2.2.2.1.2.2.2.2.2.2.2.1))⟩) (fun x=>((x.t2,(),(),(),(),x.t10,x.t11,x.t12,x.t47,x.t48,x.t49,()),(x.b0,x.b1,(x.b2.aA.af,x.b2.aA.aa,x.b2.aA.ai,(),x.b2.aD.af,x.b2.aD.aa,x.b2.aD.ai,(),()),((),x.b3.aA.af,x.b3.aA.aa,x.b3.aA.ai,(),x.b3.aD.af,x.b3.aD.aa,x.b3.aD.ai,()),x.b3.ah,()))))))
def Sb(p:sO):Option (Option sO):=
 bif wP (p.t49<p.t48)then if 0<=p.t49/\p.t49<p.t47.length then bif wP (p.t47[p.t49.toNat]!.bk=1)then if 0<=p.t10/\p.t10<p.t2.length then if(p.b3.ah++[p.t2[p.t10.toNat]!]).length<=1073741824 then V (V (sO.mk p.t2 (i64.wrap (p.t10+1)) p.t11 p.t12 p.t47 p.t48 (i64.wrap (p.t49+1)) p.b0 p.b1 (bM.mk p.b2.aA [] p.b2.aD []) (ax.mk (p.b3.ah++[p.t2[p.t10.toNat]!]) p.b3.aA [] p.b3.aD)))else O else O else bif wP (p.t47[p.t49.toNat]!.bk=2)then if 0<=p.t11/\p.t11<p.b1.aW.length then if(p.b3.ah++[Qx p.b1.aW[p.t11.toNat]!]).length<=1073741824 then V (V (sO.mk p.t2 p.t10 (i64.wrap (p.t11+1)) p.t12 p.t47 p.t48 (i64.wrap (p.t49+1)) p.b0 p.b1 (bM.mk p.b2.aA [] p.b2.aD []) (ax.mk (p.b3.ah++[Qx p.b1.aW[p.t11.toNat]!]) p.b3.aA [] p.b3.aD)))else O else O else bif wP (p.t47[p.t49.toNat]!.bk=3)then if 0<=p.t12/\p.t12<p.t2.length then if(p.b3.ah++[p.t2[p.t12.toNat]!]).length<=1073741824 then V (V (sO.mk p.t2 p.t10 p.t11 (i64.wrap (p.t12+1)) p.t47 p.t48 (i64.wrap (p.t49+1)) p.b0 p.b1 (bM.mk p.b2.aA [] p.b2.aD []) (ax.mk (p.b3.ah++[p.t2[p.t12.toNat]!]) p.b3.aA [] p.b3.aD)))else O else O else if(p.b3.ah++[Qx p.t47[p.t49.toNat]!.dz]).length<=1073741824 then V (V (sO.mk p.t2 p.t10 p.t11 p.t12 p.t47 p.t48 (i64.wrap (p.t49+1)) p.b0 p.b1 (bM.mk p.b2.aA [] p.b2.aD []) (ax.mk (p.b3.ah++[Qx p.t47[p.t49.toNat]!.dz]) p.b3.aA [] p.b3.aD)))else O else O else V (O)
def Su:sO->Option sO:=bI (Sb)
structure BH where
 t2:List aI
 (t10 t11 t12:Int)
 t34:List aS
 (t35 t36:Int)
 b0:aP
 b1:cD
 b2:bM
 b3:ax
def WZ:Td 0 BH:= .c [] [2,3,4,6,9,10,11,12,34,35,36] (.r 0 4 (ec 2 (ql 34) (ec 3 (qp 0 0) (ec 4 (qp 1 0) (ec 6 (qp 2 0) (ec 9 (qp 3 0) (ec 10 aM (ec 11 aM (ec 12 aM (ec 34 (ql 131) (ec 35 aM (ec 36 aM en))))))))))) (sb 0 26 (lg 26) (sb 1 29 (lg 29) (sb 2 36 (aN (aN (aN (lc qn (aN (aN (aN (lc qn ln)))))))) (sb 3 128 (lc qn (aN (aN (aN (lc qn (aN (aN (aN ln)))))))) sn)))) (fun z=>⟨z.1.1,z.1.2.2.2.2.2.1,z.1.2.2.2.2.2.2.1,z.1.2.2.2.2.2.2.2.1,z.1.2.2.2.2.2.2.2.2.1,z.1.2.2.2.2.2.2.2.2.2.1,z.1.2.2.2.2.2.2.2.2.2.2.1,z.2.1,z.2.2.1,(bM.mk (aI.mk z.2.2.2.1.1 z.2.2.2.1.2.1 z.2.2.2.1.2.2.1) [] (aI.mk z.2.2.2.1.2.2.2.2.1 z.2.2.2.1.2.2.2.2.2.1 z.2.2.2.1.2.2.2.2.2.2.1) []),(ax.mk [] (aI.mk z.2.2.2.2.1.2.1 z.2.2.2.2.1.2.2.1 z.2.2.2.2.1.2.2.2.1) [] (aI.mk z.2.2.2.2.1.2.2.2.2.2.1 z.2.2.2.2.1.2.2.2.2.2.2.1 z.2.2.2.2.1.2.2.2.2.2.2.2.1))⟩) (fun x=>((x.t2,(),(),(),(),x.t10,x.t11,x.t12,x.t34,x.t35,x.t36,()),(x.b0,x.b1,(x.b2.aA.af,x.b2.aA.aa,x.b2.aA.ai,(),x.b2.aD.af,x.b2.aD.aa,x.b2.aD.ai,(),()),((),x.b3.aA.af,x.b3.aA.aa,x.b3.aA.ai,(),x.b3.aD.af,x.b3.aD.aa,x.b3.aD.ai,()),()))))
def Tb(p:BH):Option (Option BH):=
 bif wP (p.t36<p.t35)then if 0<=p.t36/\p.t36<p.t34.length then bif wP (p.t34[p.t36.toNat]!.bk=1)then V (V (BH.mk p.t2 p.t10 p.t11 (i64.wrap (p.t12+1)) p.t34 p.t35 (i64.wrap (p.t36+1)) p.b0 p.b1 (bM.mk p.b2.aA [] p.b2.aD []) (ax.mk [] p.b3.aA [] p.b3.aD)))else V (V (BH.mk p.t2 p.t10 p.t11 p.t12 p.t34 p.t35 (i64.wrap (p.t36+1)) p.b0 p.b1 (bM.mk p.b2.aA [] p.b2.aD []) (ax.mk [] p.b3.aA [] p.b3.aD)))else O else V (O)
def Sr:BH->Option BH:=bI (Tb)
abbrev E20:Type:=bM×Int
def d20:Td 0 E20:= .c [] [6,7] (.r 0 1 (ec 6 (qp 0 0) (ec 7 aM en)) (sb 0 36 (lg 36) sn) (fun z=>(z.2.1,z.1.2.1)) (fun x=>(((),x.2,()),(x.1,()))))
def A20:=(lc (qg 26) (lc (qg 29) (lc (ql 34) ln)))
def asu:An:=(noTwo (noTwo (noTwo (noTwo (.two (noTwo (WZ.lp Sr .no)) (.two (noTwo (Zi.lp Su .no)) (noTwo (.two (noTwo (XV.lp LA .no)) .no))))))))
def axJ:eG wQ (F20) 0 300 20 (asu):=bV (l:=[(bg f20 0,(WZ.lp Sr .no)),(bg f20 1,(Zi.lp Su .no)),(bg f20 2,(XV.lp LA .no))]) func20 (bG (by kernel_rfl)) (by kernel_rfl) (ay (aO WZ) (ay (aO Zi) (ay (aO XV) aB)))
def m20(a0:aP)(a1:cD)(a2:List aI):Option E20:=
 match m79 a0 a1 a2 with|O=>O|V r3=>bif bif wP (r3=0)then wN else wO then V ((bM.mk (aI.mk 0 0 0) [] (aI.mk 0 0 0) [],r3))else match Sr (BH.mk a2 0 0 0 a0.ah a0.ah.length 0 a0 a1 (bM.mk (aI.mk 0 0 0) [] (aI.mk 0 0 0) []) (ax.mk [] (Qx 0) [] (Qx 0)))with|O=>O|V r4=>bif wP (r4.t36<r4.t35)then if 0<=r4.t36/\r4.t36<r4.t34.length then bif wP (r4.t34[r4.t36.toNat]!.bk=1)then O else O else O else match Su (sO.mk r4.t2 r4.t10 r4.t11 r4.t12 r4.b0.ah r4.b0.ah.length 0 r4.b0 r4.b1 (bM.mk r4.b2.aA [] r4.b2.aD []) (ax.mk [] r4.b3.aA [] r4.b3.aD))with|O=>O|V r5=>bif wP (r5.t49<r5.t48)then if 0<=r5.t49/\r5.t49<r5.t47.length then bif wP (r5.t47[r5.t49.toNat]!.bk=1)then if 0<=r5.t10/\r5.t10<r5.t2.length then if(r5.b3.ah++[r5.t2[r5.t10.toNat]!]).length<=1073741824 then O else O else O else bif wP (r5.t47[r5.t49.toNat]!.bk=2)then if 0<=r5.t11/\r5.t11<r5.b1.aW.length then if(r5.b3.ah++[Qx r5.b1.aW[r5.t11.toNat]!]).length<=1073741824 then O else O else O else bif wP (r5.t47[r5.t49.toNat]!.bk=3)then if 0<=r5.t12/\r5.t12<r5.t2.length then if(r5.b3.ah++[r5.t2[r5.t12.toNat]!]).length<=1073741824 then O else O else O else if(r5.b3.ah++[Qx r5.t47[r5.t49.toNat]!.dz]).length<=1073741824 then O else O else O else match LA (EW.mk r5.b0.aj r5.b0.aj.length 0 r5.b0 r5.b1 (bM.mk r5.b2.aA [] r5.b2.aD []) (ax.mk r5.b3.ah r5.b3.aA [] r5.b3.aD) (Runner.mk r5.b0 []))with|O=>O|V r6=>bif wP (r6.t110<r6.t109)then if 0<=r6.t110/\r6.t110<r6.t108.length then match Nz (ax.mk r6.b3.ah r6.b3.aA [] r6.b3.aD) (aq.mk r6.t108[r6.t110.toNat]!.az.bf r6.t108[r6.t110.toNat]!.az.fN r6.t108[r6.t110.toNat]!.az.ak)with|O=>O|V r7=>match m81 r7 r6.t108[r6.t110.toNat]!.af r6.t108[r6.t110.toNat]!.aa with|O=>O|V r8=>if(r6.b4.aj++[r8.fst]).length<=1073741824 then O else O else O else match r83 r6.b4 r6.b0.bJ (ax.mk r6.b3.ah r6.b3.aA [] r6.b3.aD)with|O=>O|V r9=>bif bif r6.b1.fK then wN else wO then V ((bM.mk r9.aA r9.aC (Qx 0) r9.ah,0))else V (bM.mk r9.aA r9.aC r9.aD r9.ah,0)
def c20(a0:aP)(a1:cD)(a2:List aI):bU wQ (F20) 300 (asu) 20 (A20.c (a0,a1,a2,())) [] 0 d20.rd=m20 a0 a1 a2:=by kernel_rfl
def e20:aK->aK:=eZ wQ 20 A20 d20 (fun g=>m20 g.1 g.2.1 g.2.2.1)
def Jz{F:aK}(h:bq wQ F):bq wQ (e20 F):=jj (dG ale axJ (fun _=>by kernel_rfl) (fun _=>by kernel_rfl) fun g=>c20 g.1 g.2.1 g.2.2.1) ⟨_,func20,by kernel_rfl,by kernel_rfl⟩ (fun _=>by kernel_rfl) h
def Ac{F:aK}{f:Nat}(hne:zb f 20=wN)(h:bh F f):bh (e20 F) f:=qF hne h
def F93:aK:=dg
abbrev E93:Type:=Int
def d93:Td 0 E93:= .c [] [4] (.r 0 0 (ec 4 aM en) sn (fun z=>z.1.1) (fun x=>((x,()),(()))))
def aze:∀f∈([]:List Nat),bh (F93) f:=aB
def m93(a0:Int)(a1:Int):Option E93:=
 match bif wP (0<a1)then if¬a1=0then V (wP (i64.wrap ((1099511627776:Int).tdiv a1)<a0))else O else V wN with|O=>O|V r1=>bif r1 then V 1099511627776 else V (i64.wrap (a0*a1))
def e93:aK->aK:=eL wQ 93 wN (aN (aN ln)) d93 (fun g=>m93 g.1 g.2.1)
def aoU:EO e93:=fun h=>kL (F:=F93) (an:=(noTwo (.two (.two (.rb [] 12) .no) .no))) (l:=[(.skip,(.rb [] 12))]) func93 aR (ay aze aB) h
structure Dm where
 (t10 t13:Int)
 t58:List aI
 (t59 t60:Int)
def Vz:Td 0 Dm:= .c [] [10,13,58,59,60] (.r 0 0 (ec 10 aM (ec 13 aM (ec 58 (ql 34) (ec 59 aM (ec 60 aM en))))) sn (fun z=>⟨z.1.1,z.1.2.1,z.1.2.2.1,z.1.2.2.2.1,z.1.2.2.2.2.1⟩) (fun x=>((x.t10,x.t13,x.t58,x.t59,x.t60,()),(()))))
def arl(p:Dm):Option (Option Dm):=
 bif wP (p.t60<p.t59)then if 0<=p.t60/\p.t60<p.t58.length then match HJ p.t58[p.t60.toNat]! with|O=>O|V r6=>match m93 p.t13 r6 with|O=>O|V r7=>V (V (Dm.mk p.t10 r7 p.t58 p.t59 (i64.wrap (p.t60+1))))else O else V (O)
def Yj:Dm->Option Dm:=bI (arl)
structure sN where
 t2:List aI
 (t10 t11 t32 t33:Int)
 b0:bM
def XS:Td 0 sN:= .c [] [2,8,10,11,32,33] (.r 0 1 (ec 2 (ql 34) (ec 8 (qp 0 0) (ec 10 aM (ec 11 aM (ec 32 aM (ec 33 aM en)))))) (sb 0 36 (lg 36) sn) (fun z=>⟨z.1.1,z.1.2.2.1,z.1.2.2.2.1,z.1.2.2.2.2.1,z.1.2.2.2.2.2.1,z.2.1⟩) (fun x=>((x.t2,(),x.t10,x.t11,x.t32,x.t33,()),(x.b0,()))))
def asA(p:sN):Option (Option sN):=
 bif wP (p.t33<p.t32)then match UO p.b0.aA p.t33 with|O=>O|V r1=>bif r1 then bif wP (p.t33<p.b0.aC.length)then if 0<=p.t33/\p.t33<p.b0.aC.length then match HJ p.b0.aC[p.t33.toNat]! with|O=>O|V r2=>match m93 p.t11 r2 with|O=>O|V r3=>V (V (sN.mk p.t2 (if 1099511627776<i64.wrap (p.t10+p.t11)then 1099511627776 else i64.wrap (p.t10+p.t11)) r3 p.t32 (i64.wrap (p.t33+1)) p.b0))else O else V (V (sN.mk p.t2 (if 1099511627776<i64.wrap (p.t10+p.t11)then 1099511627776 else i64.wrap (p.t10+p.t11)) p.t11 p.t32 (i64.wrap (p.t33+1)) p.b0))else bif wP (p.t33<p.b0.aC.length)then if 0<=p.t33/\p.t33<p.b0.aC.length then match HJ p.b0.aC[p.t33.toNat]! with|O=>O|V r4=>match m93 p.t11 r4 with|O=>O|V r5=>V (V (sN.mk p.t2 p.t10 r5 p.t32 (i64.wrap (p.t33+1)) p.b0))else O else V (V (sN.mk p.t2 p.t10 p.t11 p.t32 (i64.wrap (p.t33+1)) p.b0))else V (O)
def ZF:sN->Option sN:=bI (asA)
abbrev E25:Type:=Int×Int
def d25:Td 0 E25:= .c [] [6,7] (.r 0 0 (ec 6 aM (ec 7 aM en)) sn (fun z=>(z.1.1,z.1.2.1)) (fun x=>((x.1,x.2,()),(()))))
def m25(a0:aP)(a1:cD)(a2:List aI):Option E25:=
 match m20 a0 a1 a2 with|O=>O|V r8=>bif bif wP (r8.snd=0)then wN else wO then V (0,r8.snd)else match HJ r8.fst.aD with|O=>O|V r9=>match ZF (sN.mk a2 0 r9 (i64.wrap ((↑r8.fst.aC.length:Int)+1)) 0 r8.fst)with|O=>O|V r10=>bif wP (r10.t33<r10.t32)then match UO r10.b0.aA r10.t33 with|O=>O|V r11=>bif r11 then bif wP (r10.t33<r10.b0.aC.length)then if 0<=r10.t33/\r10.t33<r10.b0.aC.length then match HJ r10.b0.aC[r10.t33.toNat]! with|O=>O|V r12=>match m93 r10.t11 r12 with|O=>O|V r13=>O else O else O else bif wP (r10.t33<r10.b0.aC.length)then if 0<=r10.t33/\r10.t33<r10.b0.aC.length then match HJ r10.b0.aC[r10.t33.toNat]! with|O=>O|V r14=>match m93 r10.t11 r14 with|O=>O|V r15=>O else O else O else match Yj (Dm.mk r10.t10 1 r10.t2 r10.t2.length 0)with|O=>O|V r16=>bif wP (r16.t60<r16.t59)then if 0<=r16.t60/\r16.t60<r16.t58.length then match HJ r16.t58[r16.t60.toNat]! with|O=>O|V r17=>match m93 r16.t13 r17 with|O=>O|V r18=>O else O else V (if r16.t13<r16.t10 then r16.t13 else r16.t10,0)
def e25:aK->aK:=eL wQ 25 wN (lc (qg 26) (lc (qg 29) (lc (ql 34) ln))) d25 (fun g=>m25 g.1 g.2.1 g.2.2.1)
def akt:EO e25:=fun h=>kL (an:=(noTwo (noTwo (noTwo (noTwo (.two (noTwo (XS.lp ZF .no)) (noTwo (.two (noTwo (Vz.lp Yj .no)) .no)))))))) (l:=[(bg f25 0,(XS.lp ZF .no)),(bg f25 1,(Vz.lp Yj .no))]) func25 (aoU (Ho (Py (Jz aR)))) (ay (aO XS) (ay (aO Vz) aB)) h
def Mb:EP e25:=fun h=>kP h
def F26:aK:=(e91 (e20 dg))
structure ED where
 t12:Bool
 t41:List aI
 (t42 t43:Int)
 (b0 b1:bt)
def XF:Td 0 ED:= .c [] [6,11,12,41,42,43] (.t (cj.c 1 0 [] 3) (.c [] [6,11,12,41,42,43] (.r 0 3 (ec 6 (qp 0 0) (ec 11 (qp 1 0) (ec 12 qb (ec 41 (ql 34) (ec 42 aM (ec 43 aM en)))))) (sb 0 47 (lc qn (aN ln)) (sb 1 47 (lc (qo 2) (aN ln)) (sr 2 3 sn))) (fun z=>⟨z.1.2.2.1,z.1.2.2.2.1,z.1.2.2.2.2.1,z.1.2.2.2.2.2.1,(bt.mk [] z.2.1.2.1),(bt.mk z.2.2.2.1 z.2.2.1.2.1)⟩) (fun x=>(((),(),x.t12,x.t41,x.t42,x.t43,()),(((),x.b0.aD,()),((),x.b1.aD,()),x.b1.aZ,()))))))
def avR(p:ED):Option (Option ED):=
 bif wP (p.t43<p.t42)then if 0<=p.t43/\p.t43<p.t41.length then match bif p.t12 then match HJ p.t41[p.t43.toNat]! with|O=>O|V r1=>V (wP (r1=1))else V wN with|O=>O|V r2=>if(p.b1.aZ++[p.t41[p.t43.toNat]!.af]).length<=1073741824 then V (V (ED.mk r2 p.t41 p.t42 (i64.wrap (p.t43+1)) (bt.mk [] p.b0.aD) (bt.mk (p.b1.aZ++[p.t41[p.t43.toNat]!.af]) p.b1.aD)))else O else O else V (O)
def aiz:An:=(noTwo (noTwo (.two (noTwo (.two (.rb [91] 12) .no)) .no)))
def VZ:ED->Option ED:=bI (avR)
abbrev E26:Type:=bt×Bool×Int
def d26:Td 0 E26:= .c [] [6,7,8] (.t (cj.c 0 0 [] 3) (.c [] [6,7,8] (.r 0 2 (ec 6 (qp 0 0) (ec 7 qb (ec 8 aM en))) (sb 0 47 (lc (qo 1) (aN ln)) (sr 1 3 sn)) (fun z=>((bt.mk z.2.2.1 z.2.1.2.1),z.1.2.1,z.1.2.2.1)) (fun x=>(((),x.2.1,x.2.2,()),(((),x.1.aD,()),x.1.aZ,()))))))
def apZ:∀f∈([91]:List Nat),bh (F26) f:=(ay (Dh (Ac (f:=91) rfl bB)) aB)
def m26(a0:aP)(a1:cD)(a2:List aI):Option E26:=
 match m20 a0 a1 a2 with|O=>O|V r3=>bif bif wP (r3.snd=0)then wN else wO then V ((bt.mk [] (0),wN,r3.snd))else match match HJ r3.fst.aA with|O=>O|V r4=>bif wP (r4=1)then match HJ r3.fst.aD with|O=>O|V r5=>V (wP (r5=1))else V wN with|O=>O|V r6=>match VZ (ED.mk r6 r3.fst.aC r3.fst.aC.length 0 (bt.mk [] (0)) (bt.mk [] r3.fst.aD.af))with|O=>O|V r7=>bif wP (r7.t43<r7.t42)then if 0<=r7.t43/\r7.t43<r7.t41.length then match bif r7.t12 then match HJ r7.t41[r7.t43.toNat]! with|O=>O|V r8=>V (wP (r8=1))else V wN with|O=>O|V r9=>if(r7.b1.aZ++[r7.t41[r7.t43.toNat]!.af]).length<=1073741824 then O else O else O else bif bif r7.t12 then wN else wO then V ((bt.mk [] (0),wN,0))else V (r7.b1,wO,0)
def e26:aK->aK:=eL wQ 26 wN (lc (qg 26) (lc (qg 29) (lc (ql 34) ln))) d26 (fun g=>m26 g.1 g.2.1 g.2.2.1)
def aj2:EO e26:=fun h=>kL (F:=F26) (an:=(noTwo (noTwo (noTwo (noTwo (.two (.rb [91] 12) (.two (noTwo (XF.lp VZ aiz)) .no))))))) (l:=[(.skip,(.rb [91] 12)),(bg f26 0,(XF.lp VZ aiz)),(.skip,(.rb [91] 12))]) func26 (Py (Jz aR)) (ay apZ (ay (aO XF) (ay apZ aB))) h
def Lm{F:aK}{f:Nat}(hne:zb f 26=wN)(h:bh F f):bh (e26 F) f:=vq hne h
def F21:aK:=(e84 (e78 (e43 dg)))
structure C1 where
 t2:List aI
 t95:List aS
 (t96 t97:Int)
def Xt:Td 0 C1:= .c [] [2,95,96,97] (.r 0 1 (ec 2 (ql 34) (ec 95 (qo 0) (ec 96 aM (ec 97 aM en)))) (sr 0 131 sn) (fun z=>⟨z.1.1,z.2.1,z.1.2.2.1,z.1.2.2.2.1⟩) (fun x=>((x.t2,(),x.t96,x.t97,()),(x.t95,()))))
def Kz(p:C1):Option (Option C1):=
 bif wP (p.t97<p.t96)then if 0<=p.t97/\p.t97<p.t95.length then if 131=131/\p.t97.toNat<p.t95.length then match if 0<=p.t97/\p.t97<p.t2.length then match Vp p.t2[p.t97.toNat]! with|O=>O|V r4=>bif bif r4 then wN else wO then V wO else if 0<=p.t97/\p.t97<p.t2.length then match pJ p.t2[p.t97.toNat]! with|O=>O|V r5=>V (wP (r5=0))else O else O with|O=>O|V r6=>bif r6 then V (O)else if 0<=p.t97/\p.t97<p.t2.length then bif wP (p.t2[p.t97.toNat]!.af<p.t95[p.t97.toNat]!.af)then V (O)else if 0<=p.t97/\p.t97<p.t2.length then bif wP (p.t95[p.t97.toNat]!.aa<p.t2[p.t97.toNat]!.aa)then V (O)else V (V (C1.mk p.t2 p.t95 p.t96 (i64.wrap (p.t97+1))))else O else O else O else O else V (O)
def ahU:An:=(noTwo (noTwo (.two (noTwo (.two (.two (.rb [43,84] 115) .no) .no)) .no)))
def RM:C1->Option C1:=bI (Kz)
structure D0 where
 t2:List aI
 (t9 t64:List aS)
 (t65 t66:Int)
 b0:cD
def Wm:Td 0 D0:= .c [] [2,4,9,64,65,66] (.r 0 3 (ec 2 (ql 34) (ec 4 (qp 0 0) (ec 9 (qo 1) (ec 64 (qo 2) (ec 65 aM (ec 66 aM en)))))) (sb 0 29 (lg 29) (sr 1 131 (sr 2 131 sn))) (fun z=>⟨z.1.1,z.2.2.1,z.2.2.2.1,z.1.2.2.2.2.1,z.1.2.2.2.2.2.1,z.2.1⟩) (fun x=>((x.t2,(),(),(),x.t65,x.t66,()),(x.b0,x.t9,x.t64,()))))
def Mq(p:D0):Option (Option D0):=
 bif wP (p.t66<p.t65)then if 0<=p.t66/\p.t66<p.t64.length then if 131=131/\p.t66.toNat<p.t64.length then if 0<=p.t66/\p.t66<p.b0.aW.length then bif wP (((p.t2,(),(),(),p.t65,p.t66,()),p.b0,p.t9,p.t64,()).snd.fst.aW[((p.t2,(),(),(),p.t65,p.t66,()),p.b0,p.t9,p.t64,()).fst.snd.snd.snd.snd.snd.fst.toNat]! <((p.t2,(),(),(),p.t65,p.t66,()),p.b0,p.t9,p.t64,()).snd.snd.snd.fst[((p.t2,(),(),(),p.t65,p.t66,()),p.b0,p.t9,p.t64,()).fst.snd.snd.snd.snd.snd.fst.toNat]!.af)then V (O)else if 0<=p.t66/\p.t66<p.b0.aW.length then bif wP (((p.t2,(),(),(),p.t65,p.t66,()),p.b0,p.t9,p.t64,()).snd.snd.snd.fst[((p.t2,(),(),(),p.t65,p.t66,()),p.b0,p.t9,p.t64,()).fst.snd.snd.snd.snd.snd.fst.toNat]!.aa<((p.t2,(),(),(),p.t65,p.t66,()),p.b0,p.t9,p.t64,()).snd.fst.aW[((p.t2,(),(),(),p.t65,p.t66,()),p.b0,p.t9,p.t64,()).fst.snd.snd.snd.snd.snd.fst.toNat]!)then V (O)else V (V (D0.mk p.t2 p.t9 p.t64 p.t65 (i64.wrap (p.t66+1)) p.b0))else O else O else O else O else V (O)
def Qq:D0->Option D0:=bI (Mq)
structure td where
 t2:List aI
 (t8 t9:List aS)
 t11:Int
 t23:List Int
 (t24 t25:Int)
 t30:List aS
 (t31 t32:Int)
 b0:aP
 b1:cD
def Wi:Td 0 td:= .c [] [2,3,4,8,9,11,23,24,25,30,31,32] (.r 0 5 (ec 2 (ql 34) (ec 3 (qp 0 0) (ec 4 (qp 1 0) (ec 8 (qo 2) (ec 9 (qo 3) (ec 11 aM (ec 23 (qo 4) (ec 24 aM (ec 25 aM (ec 30 (ql 131) (ec 31 aM (ec 32 aM en)))))))))))) (sb 0 26 (lg 26) (sb 1 29 (lg 29) (sr 2 131 (sr 3 131 (sr 4 129 sn))))) (fun z=>⟨z.1.1,z.2.2.2.1,z.2.2.2.2.1,z.1.2.2.2.2.2.1,z.2.2.2.2.2.1,z.1.2.2.2.2.2.2.2.1,z.1.2.2.2.2.2.2.2.2.1,z.1.2.2.2.2.2.2.2.2.2.1,z.1.2.2.2.2.2.2.2.2.2.2.1,z.1.2.2.2.2.2.2.2.2.2.2.2.1,z.2.1,z.2.2.1⟩) (fun x=>((x.t2,(),(),(),(),x.t11,(),x.t24,x.t25,x.t30,x.t31,x.t32,()),(x.b0,x.b1,x.t8,x.t9,x.t23,()))))
def QN(p:td):Option (Option td):=
 bif wP (p.t32<p.t31)then if 0<=p.t32/\p.t32<p.t30.length then match bif wP (p.t30[p.t32.toNat]!.bk=p.t11)then V (wP (p.t11=2))else V wN with|O=>O|V r3=>bif r3 then if(p.t8++[p.t30[p.t32.toNat]!]).length<=1073741824 then V (V (td.mk p.t2 (p.t8++[p.t30[p.t32.toNat]!]) p.t9 p.t11 p.t23 p.t24 p.t25 p.t30 p.t31 (i64.wrap (p.t32+1)) p.b0 p.b1))else O else bif wP (p.t30[p.t32.toNat]!.bk=p.t11)then if(p.t9++[p.t30[p.t32.toNat]!]).length<=1073741824 then V (V (td.mk p.t2 p.t8 (p.t9++[p.t30[p.t32.toNat]!]) p.t11 p.t23 p.t24 p.t25 p.t30 p.t31 (i64.wrap (p.t32+1)) p.b0 p.b1))else O else V (V (td.mk p.t2 p.t8 p.t9 p.t11 p.t23 p.t24 p.t25 p.t30 p.t31 (i64.wrap (p.t32+1)) p.b0 p.b1))else O else V (O)
def ajp:An:=(noTwo (noTwo (.two (noTwo (.two (.rb [43,84] 43) .no)) .no)))
def Lw:td->Option td:=bI (QN)
structure DC where
 t2:List aI
 (t8 t9:List aS)
 t23:List Int
 (t24 t25:Int)
 b0:aP
 b1:cD
def Vy:Td 0 DC:= .c [] [2,3,4,8,9,23,24,25] (.t (cj.s 8 [] 131) (.t (cj.s 9 [] 131) (.c [] [2,3,4,8,9,23,24,25] (.r 0 5 (ec 2 (ql 34) (ec 3 (qp 0 0) (ec 4 (qp 1 0) (ec 8 (qo 2) (ec 9 (qo 3) (ec 23 (qo 4) (ec 24 aM (ec 25 aM en)))))))) (sb 0 26 (lg 26) (sb 1 29 (lg 29) (sr 2 131 (sr 3 131 (sr 4 129 sn))))) (fun z=>⟨z.1.1,z.2.2.2.1,z.2.2.2.2.1,z.2.2.2.2.2.1,z.1.2.2.2.2.2.2.1,z.1.2.2.2.2.2.2.2.1,z.2.1,z.2.2.1⟩) (fun x=>((x.t2,(),(),(),(),(),x.t24,x.t25,()),(x.b0,x.b1,x.t8,x.t9,x.t23,())))))))
def LC(p:DC):Option (Option DC):=
 bif wP (p.t25<p.t24)then if 0<=p.t25/\p.t25<p.t23.length then if 129=129/\p.t25.toNat<p.t23.length then match Lw (td.mk p.t2 p.t8 p.t9 p.t23[p.t25.toNat]! p.t23 p.t24 p.t25 p.b0.ah p.b0.ah.length 0 p.b0 p.b1)with|O=>O|V r1=>bif wP (r1.t32<r1.t31)then if 0<=r1.t32/\r1.t32<r1.t30.length then match bif wP (r1.t30[r1.t32.toNat]!.bk=r1.t11)then V (wP (r1.t11=2))else V wN with|O=>O|V r2=>bif r2 then if(r1.t8++[r1.t30[r1.t32.toNat]!]).length<=1073741824 then O else O else bif wP (r1.t30[r1.t32.toNat]!.bk=r1.t11)then if(r1.t9++[r1.t30[r1.t32.toNat]!]).length<=1073741824 then O else O else O else O else V (V (DC.mk r1.t2 r1.t8 r1.t9 r1.t23 r1.t24 (i64.wrap (r1.t25+1)) r1.b0 r1.b1))else O else O else V (O)
def ajt:An:=(noTwo (noTwo (.two (noTwo (noTwo (Wi.lp Lw ajp))) .no)))
def Ms:DC->Option DC:=bI (LC)
abbrev E21:Type:=Int
def d21:Td 0 E21:= .c [] [6] (.r 0 0 (ec 6 aM en) sn (fun z=>z.1.1) (fun x=>((x,()),(()))))
def atG:∀f∈([43,84]:List Nat),bh (F21) f:=(ay (iI (lT (iE bB))) (ay (iI (lT (iE bB))) aB))
def m21(a0:aP)(a1:cD)(a2:List aI):Option E21:=
 match m78 a0 with|O=>O|V r7=>bif bif wP (r7=0)then wN else wO then V (r7)else match Ms (DC.mk a2 [] [] [1,3,2] (↑3:Int) 0 a0 a1)with|O=>O|V r8=>bif wP (r8.t25<r8.t24)then if 0<=r8.t25/\r8.t25<r8.t23.length then if 129=129/\r8.t25.toNat<r8.t23.length then match Lw (td.mk r8.t2 r8.t8 r8.t9 r8.t23[r8.t25.toNat]! r8.t23 r8.t24 r8.t25 r8.b0.ah r8.b0.ah.length 0 r8.b0 r8.b1)with|O=>O|V r9=>bif wP (r9.t32<r9.t31)then if 0<=r9.t32/\r9.t32<r9.t30.length then match bif wP (r9.t30[r9.t32.toNat]!.bk=r9.t11)then V (wP (r9.t11=2))else V wN with|O=>O|V r10=>bif r10 then if(r9.t8++[r9.t30[r9.t32.toNat]!]).length<=1073741824 then O else O else bif wP (r9.t30[r9.t32.toNat]!.bk=r9.t11)then if(r9.t9++[r9.t30[r9.t32.toNat]!]).length<=1073741824 then O else O else O else O else O else O else O else bif bif wP ((↑r8.b1.aW.length:Int)=(↑r8.t8.length:Int))then wN else wO then V 1 else match Qq (D0.mk r8.t2 r8.t9 r8.t8 r8.t8.length 0 r8.b1)with|O=>O|V r11=>bif wP (r11.t66<r11.t65)then if 0<=r11.t66/\r11.t66<r11.t64.length then if 131=131/\r11.t66.toNat<r11.t64.length then if 0<=r11.t66/\r11.t66<r11.b0.aW.length then bif wP (((r11.t2,(),(),(),r11.t65,r11.t66,()),r11.b0,r11.t9,r11.t64,()).snd.fst.aW[((r11.t2,(),(),(),r11.t65,r11.t66,()),r11.b0,r11.t9,r11.t64,()).fst.snd.snd.snd.snd.snd.fst.toNat]! <((r11.t2,(),(),(),r11.t65,r11.t66,()),r11.b0,r11.t9,r11.t64,()).snd.snd.snd.fst[((r11.t2,(),(),(),r11.t65,r11.t66,()),r11.b0,r11.t9,r11.t64,()).fst.snd.snd.snd.snd.snd.fst.toNat]!.af)then V 3 else if 0<=r11.t66/\r11.t66<r11.b0.aW.length then bif wP (((r11.t2,(),(),(),r11.t65,r11.t66,()),r11.b0,r11.t9,r11.t64,()).snd.snd.snd.fst[((r11.t2,(),(),(),r11.t65,r11.t66,()),r11.b0,r11.t9,r11.t64,()).fst.snd.snd.snd.snd.snd.fst.toNat]!.aa<((r11.t2,(),(),(),r11.t65,r11.t66,()),r11.b0,r11.t9,r11.t64,()).snd.fst.aW[((r11.t2,(),(),(),r11.t65,r11.t66,()),r11.b0,r11.t9,r11.t64,()).fst.snd.snd.snd.snd.snd.fst.toNat]!)then V 3 else O else O else O else O else O else bif bif wP ((↑r11.t2.length:Int)=(↑r11.t9.length:Int))then wN else wO then V 2 else match RM (C1.mk r11.t2 r11.t9 r11.t9.length 0)with|O=>O|V r12=>bif wP (r12.t97<r12.t96)then if 0<=r12.t97/\r12.t97<r12.t95.length then if 131=131/\r12.t97.toNat<r12.t95.length then match if 0<=r12.t97/\r12.t97<r12.t2.length then match Vp r12.t2[r12.t97.toNat]! with|O=>O|V r13=>bif bif r13 then wN else wO then V wO else if 0<=r12.t97/\r12.t97<r12.t2.length then match pJ r12.t2[r12.t97.toNat]! with|O=>O|V r14=>V (wP (r14=0))else O else O with|O=>O|V r15=>bif r15 then V 1 else if 0<=r12.t97/\r12.t97<r12.t2.length then bif wP (r12.t2[r12.t97.toNat]!.af<r12.t95[r12.t97.toNat]!.af)then V 3 else if 0<=r12.t97/\r12.t97<r12.t2.length then bif wP (r12.t95[r12.t97.toNat]!.aa<r12.t2[r12.t97.toNat]!.aa)then V 3 else O else O else O else O else O else V 0
def e21:aK->aK:=eL wQ 21 wN (lc (qg 26) (lc (qg 29) (lc (ql 34) ln))) d21 (fun g=>m21 g.1 g.2.1 g.2.2.1)
def NK:EO e21:=fun h=>kL (F:=F21) (an:=(noTwo (noTwo (noTwo (.two (noTwo (Vy.lp Ms ajt)) (noTwo (.two (noTwo (Wm.lp Qq .no)) (noTwo (.two (noTwo (Xt.lp RM ahU)) .no))))))))) (l:=[(bg f21 0,(Vy.lp Ms ajt)),(bg f21 1,(Wi.lp Lw ajp)),(.skip,(.rb [43,84] 43)),(bg f21 2,(Wm.lp Qq .no)),(bg f21 3,(Xt.lp RM ahU)),(.skip,(.rb [43,84] 115))]) func21 (tO (J8 (mQ aR))) (ay (aO Vy) (ay (aO Wi) (ay atG (ay (aO Wm) (ay (aO Xt) (ay atG aB)))))) h
def qT:EP e21:=fun h=>kP h
structure sR where
 t2:List aI
 (t11 t12 t13:Int)
 t33:List aS
 (t34 t35:Int)
 b0:cD
 (b1 b2:aG)
def ZE:Td 0 sR:= .c [] [2,4,6,7,11,12,13,33,34,35] (.t (cj.c 2 0 [] 34) (.c [] [2,4,6,7,11,12,13,33,34,35] (.r 0 4 (ec 2 (ql 34) (ec 4 (qp 0 0) (ec 6 (qp 1 0) (ec 7 (qp 2 0) (ec 11 aM (ec 12 aM (ec 13 aM (ec 33 (ql 131) (ec 34 aM (ec 35 aM en)))))))))) (sb 0 29 (lg 29) (sb 1 147 (lc qn (aN (aN (aN (lc qn (aN (aN (aN ln)))))))) (sb 2 147 (lc (qo 3) (aN (aN (aN (lc qn (aN (aN (aN ln)))))))) (sr 3 34 sn)))) (fun z=>⟨z.1.1,z.1.2.2.2.2.1,z.1.2.2.2.2.2.1,z.1.2.2.2.2.2.2.1,z.1.2.2.2.2.2.2.2.1,z.1.2.2.2.2.2.2.2.2.1,z.1.2.2.2.2.2.2.2.2.2.1,z.2.1,(aG.mk [] (aI.mk z.2.2.1.2.1 z.2.2.1.2.2.1 z.2.2.1.2.2.2.1) [] (aI.mk z.2.2.1.2.2.2.2.2.1 z.2.2.1.2.2.2.2.2.2.1 z.2.2.1.2.2.2.2.2.2.2.1)),(aG.mk z.2.2.2.2.1 (aI.mk z.2.2.2.1.2.1 z.2.2.2.1.2.2.1 z.2.2.2.1.2.2.2.1) [] (aI.mk z.2.2.2.1.2.2.2.2.2.1 z.2.2.2.1.2.2.2.2.2.2.1 z.2.2.2.1.2.2.2.2.2.2.2.1))⟩) (fun x=>((x.t2,(),(),(),x.t11,x.t12,x.t13,x.t33,x.t34,x.t35,()),(x.b0,((),x.b1.aA.af,x.b1.aA.aa,x.b1.aA.ai,(),x.b1.aD.af,x.b1.aD.aa,x.b1.aD.ai,()),((),x.b2.aA.af,x.b2.aA.aa,x.b2.aA.ai,(),x.b2.aD.af,x.b2.aD.aa,x.b2.aD.ai,()),x.b2.ah,()))))))
def aqn(p:sR):Option (Option sR):=
 bif wP (p.t35<p.t34)then if 0<=p.t35/\p.t35<p.t33.length then bif wP (p.t33[p.t35.toNat]!.bk=1)then if 0<=p.t11/\p.t11<p.t2.length then if(p.b2.ah++[p.t2[p.t11.toNat]!]).length<=1073741824 then V (V (sR.mk p.t2 (i64.wrap (p.t11+1)) p.t12 p.t13 p.t33 p.t34 (i64.wrap (p.t35+1)) p.b0 (aG.mk [] p.b1.aA [] p.b1.aD) (aG.mk (p.b2.ah++[p.t2[p.t11.toNat]!]) p.b2.aA [] p.b2.aD)))else O else O else bif wP (p.t33[p.t35.toNat]!.bk=3)then if 0<=p.t12/\p.t12<p.t2.length then if(p.b2.ah++[p.t2[p.t12.toNat]!]).length<=1073741824 then V (V (sR.mk p.t2 p.t11 (i64.wrap (p.t12+1)) p.t13 p.t33 p.t34 (i64.wrap (p.t35+1)) p.b0 (aG.mk [] p.b1.aA [] p.b1.aD) (aG.mk (p.b2.ah++[p.t2[p.t12.toNat]!]) p.b2.aA [] p.b2.aD)))else O else O else bif wP (p.t33[p.t35.toNat]!.bk=2)then if 0<=p.t13/\p.t13<p.b0.aW.length then if(p.b2.ah++[m36 p.b0.aW[p.t13.toNat]!]).length<=1073741824 then V (V (sR.mk p.t2 p.t11 p.t12 (i64.wrap (p.t13+1)) p.t33 p.t34 (i64.wrap (p.t35+1)) p.b0 (aG.mk [] p.b1.aA [] p.b1.aD) (aG.mk (p.b2.ah++[m36 p.b0.aW[p.t13.toNat]!]) p.b2.aA [] p.b2.aD)))else O else O else if(p.b2.ah++[m36 p.t33[p.t35.toNat]!.dz]).length<=1073741824 then V (V (sR.mk p.t2 p.t11 p.t12 p.t13 p.t33 p.t34 (i64.wrap (p.t35+1)) p.b0 (aG.mk [] p.b1.aA [] p.b1.aD) (aG.mk (p.b2.ah++[m36 p.t33[p.t35.toNat]!.dz]) p.b2.aA [] p.b2.aD)))else O else O else V (O)
def Zk:sR->Option sR:=bI (aqn)
structure BO where
 t2:List aI
 t8:Int
 t19:List aS
 (t20 t21:Int)
 b0:aP
 b1:cD
 (b2 b3:aG)
def Y4:Td 0 BO:= .c [] [2,3,4,6,7,8,19,20,21] (.r 0 4 (ec 2 (ql 34) (ec 3 (qp 0 0) (ec 4 (qp 1 0) (ec 6 (qp 2 0) (ec 7 (qp 3 0) (ec 8 aM (ec 19 (ql 131) (ec 20 aM (ec 21 aM en))))))))) (sb 0 26 (lg 26) (sb 1 29 (lg 29) (sb 2 147 (lc qn (aN (aN (aN (lc qn (aN (aN (aN ln)))))))) (sb 3 147 (lc qn (aN (aN (aN (lc qn (aN (aN (aN ln)))))))) sn)))) (fun z=>⟨z.1.1,z.1.2.2.2.2.2.1,z.1.2.2.2.2.2.2.1,z.1.2.2.2.2.2.2.2.1,z.1.2.2.2.2.2.2.2.2.1,z.2.1,z.2.2.1,(aG.mk [] (aI.mk z.2.2.2.1.2.1 z.2.2.2.1.2.2.1 z.2.2.2.1.2.2.2.1) [] (aI.mk z.2.2.2.1.2.2.2.2.2.1 z.2.2.2.1.2.2.2.2.2.2.1 z.2.2.2.1.2.2.2.2.2.2.2.1)),(aG.mk [] (aI.mk z.2.2.2.2.1.2.1 z.2.2.2.2.1.2.2.1 z.2.2.2.2.1.2.2.2.1) [] (aI.mk z.2.2.2.2.1.2.2.2.2.2.1 z.2.2.2.2.1.2.2.2.2.2.2.1 z.2.2.2.2.1.2.2.2.2.2.2.2.1))⟩) (fun x=>((x.t2,(),(),(),(),x.t8,x.t19,x.t20,x.t21,()),(x.b0,x.b1,((),x.b2.aA.af,x.b2.aA.aa,x.b2.aA.ai,(),x.b2.aD.af,x.b2.aD.aa,x.b2.aD.ai,()),((),x.b3.aA.af,x.b3.aA.aa,x.b3.aA.ai,(),x.b3.aD.af,x.b3.aD.aa,x.b3.aD.ai,()),()))))
def arp(p:BO):Option (Option BO):=
 bif wP (p.t21<p.t20)then if 0<=p.t21/\p.t21<p.t19.length then bif wP (p.t19[p.t21.toNat]!.bk=1)then V (V (BO.mk p.t2 (i64.wrap (p.t8+1)) p.t19 p.t20 (i64.wrap (p.t21+1)) p.b0 p.b1 (aG.mk [] p.b2.aA [] p.b2.aD) (aG.mk [] p.b3.aA [] p.b3.aD)))else V (V (BO.mk p.t2 p.t8 p.t19 p.t20 (i64.wrap (p.t21+1)) p.b0 p.b1 (aG.mk [] p.b2.aA [] p.b2.aD) (aG.mk [] p.b3.aA [] p.b3.aD)))else O else V (O)
def V1:BO->Option BO:=bI (arp)
abbrev E85:Type:=aG
def d85:Td 0 E85:= .c [] [6] (.r 0 2 (ec 6 (qp 0 0) en) (sb 0 147 (lc (qo 1) (aN (aN (aN (lc qn (aN (aN (aN ln)))))))) (sr 1 34 sn)) (fun z=>(aG.mk z.2.2.1 (aI.mk z.2.1.2.1 z.2.1.2.2.1 z.2.1.2.2.2.1) [] (aI.mk z.2.1.2.2.2.2.2.1 z.2.1.2.2.2.2.2.2.1 z.2.1.2.2.2.2.2.2.2.1))) (fun x=>(((),()),(((),x.aA.af,x.aA.aa,x.aA.ai,(),x.aD.af,x.aD.aa,x.aD.ai,()),x.ah,()))))
def m85(a0:aP)(a1:cD)(a2:List aI):Option E85:=
 match V1 (BO.mk a2 0 a0.ah a0.ah.length 0 a0 a1 (aG.mk [] (aI.mk 0 0 0) [] (aI.mk 0 0 0)) (aG.mk [] (aI.mk 0 0 0) [] (aI.mk 0 0 0)))with|O=>O|V r1=>bif wP (r1.t21<r1.t20)then if 0<=r1.t21/\r1.t21<r1.t19.length then bif wP (r1.t19[r1.t21.toNat]!.bk=1)then O else O else O else match Zk (sR.mk r1.t2 0 r1.t8 0 r1.b0.ah r1.b0.ah.length 0 r1.b1 (aG.mk [] r1.b2.aA [] r1.b2.aD) (aG.mk [] r1.b3.aA [] r1.b3.aD))with|O=>O|V r2=>bif wP (r2.t35<r2.t34)then if 0<=r2.t35/\r2.t35<r2.t33.length then bif wP (r2.t33[r2.t35.toNat]!.bk=1)then if 0<=r2.t11/\r2.t11<r2.t2.length then if(r2.b2.ah++[r2.t2[r2.t11.toNat]!]).length<=1073741824 then O else O else O else bif wP (r2.t33[r2.t35.toNat]!.bk=3)then if 0<=r2.t12/\r2.t12<r2.t2.length then if(r2.b2.ah++[r2.t2[r2.t12.toNat]!]).length<=1073741824 then O else O else O else bif wP (r2.t33[r2.t35.toNat]!.bk=2)then if 0<=r2.t13/\r2.t13<r2.b0.aW.length then if(r2.b2.ah++[m36 r2.b0.aW[r2.t13.toNat]!]).length<=1073741824 then O else O else O else if(r2.b2.ah++[m36 r2.t33[r2.t35.toNat]!.dz]).length<=1073741824 then O else O else O else V (aG.mk r2.b2.ah r2.b2.aA [] r2.b2.aD)
def e85:aK->aK:=eL wQ 85 wN (lc (qg 26) (lc (qg 29) (lc (ql 34) ln))) d85 (fun g=>m85 g.1 g.2.1 g.2.2.1)
def aod:EO e85:=fun h=>kL (an:=(noTwo (noTwo (noTwo (.two (noTwo (Y4.lp V1 .no)) (noTwo (.two (noTwo (ZE.lp Zk .no)) .no))))))) (l:=[(bg f85 0,(Y4.lp V1 .no)),(bg f85 1,(ZE.lp Zk .no))]) func85 (Io aR) (ay (aO Y4) (ay (aO ZE) aB)) h
def F23:aK:=(e88 (e87 (e86 (e85 (e36 dg)))))
def aor:bq wQ F23:=(aoW (O6 (O2 (aod (Io aR)))))
structure Du where
 t8:List aI
 t18:List dc
 (t19 t20:Int)
 b0:aP
 b1:cD
 b2:bM
 b3:aG
def WD:Td 0 Du:= .c [] [3,4,6,7,8,18,19,20] (.t (cj.s 8 [] 34) (.c [] [3,4,6,7,8,18,19,20] (.r 0 6 (ec 3 (qp 0 0) (ec 4 (qp 1 0) (ec 6 (qp 2 0) (ec 7 (qp 3 0) (ec 8 (qo 4) (ec 18 (ql 139) (ec 19 aM (ec 20 aM en)))))))) (sb 0 26 (lg 26) (sb 1 29 (lg 29) (sb 2 36 (aN (aN (aN (lc qn (aN (aN (aN (lc qn ln)))))))) (sb 3 147 (lc (qo 5) (aN (aN (aN (lc qn (aN (aN (aN ln)))))))) (sr 4 34 (sr 5 34 sn)))))) (fun z=>⟨z.2.2.2.2.2.1,z.1.2.2.2.2.2.1,z.1.2.2.2.2.2.2.1,z.1.2.2.2.2.2.2.2.1,z.2.1,z.2.2.1,(bM.mk (aI.mk z.2.2.2.1.1 z.2.2.2.1.2.1 z.2.2.2.1.2.2.1) [] (aI.mk z.2.2.2.1.2.2.2.2.1 z.2.2.2.1.2.2.2.2.2.1 z.2.2.2.1.2.2.2.2.2.2.1) []),(aG.mk z.2.2.2.2.2.2.1 (aI.mk z.2.2.2.2.1.2.1 z.2.2.2.2.1.2.2.1 z.2.2.2.2.1.2.2.2.1) [] (aI.mk z.2.2.2.2.1.2.2.2.2.2.1 z.2.2.2.2.1.2.2.2.2.2.2.1 z.2.2.2.2.1.2.2.2.2.2.2.2.1))⟩) (fun x=>(((),(),(),(),(),x.t18,x.t19,x.t20,()),(x.b0,x.b1,(x.b2.aA.af,x.b2.aA.aa,x.b2.aA.ai,(),x.b2.aD.af,x.b2.aD.aa,x.b2.aD.ai,(),()),((),x.b3.aA.af,x.b3.aA.aa,x.b3.aA.ai,(),x.b3.aD.af,x.b3.aD.aa,x.b3.aD.ai,()),x.t8,x.b3.ah,()))))))
def at9(p:Du):Option (Option Du):=
 bif wP (p.t20<p.t19)then if 0<=p.t20/\p.t20<p.t18.length then match Vq (aG.mk p.b3.ah p.b3.aA [] p.b3.aD) (aq.mk p.t18[p.t20.toNat]!.az.bf p.t18[p.t20.toNat]!.az.fN p.t18[p.t20.toNat]!.az.ak)with|O=>O|V r1=>match m86 r1 p.t18[p.t20.toNat]!.af p.t18[p.t20.toNat]!.aa with|O=>O|V r2=>if(p.t8++[r2.fst]).length<=1073741824 then V (V (Du.mk (p.t8++[r2.fst]) p.t18 p.t19 (i64.wrap (p.t20+1)) p.b0 p.b1 (bM.mk p.b2.aA [] p.b2.aD []) (aG.mk p.b3.ah p.b3.aA [] p.b3.aD)))else O else O else V (O)
def Xl:Du->Option Du:=bI (at9)
abbrev E23:Type:=bM
def d23:Td 0 E23:= .c [] [6] (.r 0 1 (ec 6 (qp 0 0) en) (sb 0 36 (lg 36) sn) (fun z=>z.2.1) (fun x=>(((),()),(x,()))))
def A23:=(lc (qg 26) (lc (qg 29) (lc (ql 34) ln)))
def at8:An:=(noTwo (noTwo (noTwo (.two (noTwo (WD.lp Xl .no)) .no))))
def azu:eG wQ (F23) 0 300 23 (at8):=bV (l:=[(bg f23 0,(WD.lp Xl .no))]) func23 (bG (by kernel_rfl)) (by kernel_rfl) (ay (aO WD) aB)
def m23(a0:aP)(a1:cD)(a2:List aI):Option E23:=
 match m85 a0 a1 a2 with|O=>O|V r3=>match Xl (Du.mk [] a0.aj a0.aj.length 0 a0 a1 (bM.mk (aI.mk 0 0 0) [] (aI.mk 0 0 0) []) (aG.mk r3.ah r3.aA [] r3.aD))with|O=>O|V r4=>bif wP (r4.t20<r4.t19)then if 0<=r4.t20/\r4.t20<r4.t18.length then match Vq (aG.mk r4.b3.ah r4.b3.aA [] r4.b3.aD) (aq.mk r4.t18[r4.t20.toNat]!.az.bf r4.t18[r4.t20.toNat]!.az.fN r4.t18[r4.t20.toNat]!.az.ak)with|O=>O|V r5=>match m86 r5 r4.t18[r4.t20.toNat]!.af r4.t18[r4.t20.toNat]!.aa with|O=>O|V r6=>if(r4.t8++[r6.fst]).length<=1073741824 then O else O else O else match r88 r4.b0 r4.t8 r4.b0.bJ (aG.mk r4.b3.ah r4.b3.aA [] r4.b3.aD)with|O=>O|V r7=>bif bif r4.b1.fK then wN else wO then V (bM.mk r7.aA r7.aC (m36 0) r7.ah)else V (bM.mk r7.aA r7.aC r7.aD r7.ah)
def c23(a0:aP)(a1:cD)(a2:List aI):bU wQ (F23) 300 (at8) 23 (A23.c (a0,a1,a2,())) [] 0 d23.rd=m23 a0 a1 a2:=by kernel_rfl
def e23:aK->aK:=eZ wQ 23 A23 d23 (fun g=>m23 g.1 g.2.1 g.2.2.1)
def PS{F:aK}(h:bq wQ F):bq wQ (e23 F):=jj (dG aor azu (fun _=>by kernel_rfl) (fun _=>by kernel_rfl) fun g=>c23 g.1 g.2.1 g.2.2.1) ⟨_,func23,by kernel_rfl,by kernel_rfl⟩ (fun _=>by kernel_rfl) h
def Wj{F:aK}{f:Nat}(hne:zb f 23=wN)(h:bh F f):bh (e23 F) f:=qF hne h
def F37:aK:=(e43 (e23 dg))
structure Eh where
 t10:Bool
 t32:List aI
 (t33 t34:Int)
 (b0 b1:bt)
def X7:Td 0 Eh:= .c [] [6,9,10,32,33,34] (.t (cj.c 1 0 [] 3) (.c [] [6,9,10,32,33,34] (.r 0 3 (ec 6 (qp 0 0) (ec 9 (qp 1 0) (ec 10 qb (ec 32 (ql 34) (ec 33 aM (ec 34 aM en)))))) (sb 0 47 (lc qn (aN ln)) (sb 1 47 (lc (qo 2) (aN ln)) (sr 2 3 sn))) (fun z=>⟨z.1.2.2.1,z.1.2.2.2.1,z.1.2.2.2.2.1,z.1.2.2.2.2.2.1,(bt.mk [] z.2.1.2.1),(bt.mk z.2.2.2.1 z.2.2.1.2.1)⟩) (fun x=>(((),(),x.t10,x.t32,x.t33,x.t34,()),(((),x.b0.aD,()),((),x.b1.aD,()),x.b1.aZ,()))))))
def aqy(p:Eh):Option (Option Eh):=
 bif wP (p.t34<p.t33)then if 0<=p.t34/\p.t34<p.t32.length then match bif p.t10 then match pJ p.t32[p.t34.toNat]! with|O=>O|V r1=>V (wP (r1=1))else V wN with|O=>O|V r2=>if(p.b1.aZ++[p.t32[p.t34.toNat]!.af]).length<=1073741824 then V (V (Eh.mk r2 p.t32 p.t33 (i64.wrap (p.t34+1)) (bt.mk [] p.b0.aD) (bt.mk (p.b1.aZ++[p.t32[p.t34.toNat]!.af]) p.b1.aD)))else O else O else V (O)
def ajB:An:=(noTwo (noTwo (.two (noTwo (.two (.rb [43] 10) .no)) .no)))
def Yq:Eh->Option Eh:=bI (aqy)
abbrev E37:Type:=bt×Bool
def d37:Td 0 E37:= .c [] [6,7] (.t (cj.c 0 0 [] 3) (.c [] [6,7] (.r 0 2 (ec 6 (qp 0 0) (ec 7 qb en)) (sb 0 47 (lc (qo 1) (aN ln)) (sr 1 3 sn)) (fun z=>((bt.mk z.2.2.1 z.2.1.2.1),z.1.2.1)) (fun x=>(((),x.2,()),(((),x.1.aD,()),x.1.aZ,()))))))
def asG:∀f∈([43]:List Nat),bh (F37) f:=(ay (iE (Wj (f:=43) rfl bB)) aB)
def m37(a0:aP)(a1:cD)(a2:List aI):Option E37:=
 match m23 a0 a1 a2 with|O=>O|V r3=>match match pJ r3.aA with|O=>O|V r4=>bif wP (r4=1)then match pJ r3.aD with|O=>O|V r5=>V (wP (r5=1))else V wN with|O=>O|V r6=>match Yq (Eh.mk r6 r3.aC r3.aC.length 0 (bt.mk [] (0)) (bt.mk [] r3.aD.af))with|O=>O|V r7=>bif wP (r7.t34<r7.t33)then if 0<=r7.t34/\r7.t34<r7.t32.length then match bif r7.t10 then match pJ r7.t32[r7.t34.toNat]! with|O=>O|V r8=>V (wP (r8=1))else V wN with|O=>O|V r9=>if(r7.b1.aZ++[r7.t32[r7.t34.toNat]!.af]).length<=1073741824 then O else O else O else bif bif r7.t10 then wN else wO then V ((bt.mk [] (0),wN))else V (r7.b1,wO)
def e37:aK->aK:=eL wQ 37 wN (lc (qg 26) (lc (qg 29) (lc (ql 34) ln))) d37 (fun g=>m37 g.1 g.2.1 g.2.2.1)
def amV:EO e37:=fun h=>kL (F:=F37) (an:=(noTwo (noTwo (noTwo (.two (.rb [43] 10) (.two (noTwo (X7.lp Yq ajB)) .no)))))) (l:=[(.skip,(.rb [43] 10)),(bg f37 0,(X7.lp Yq ajB)),(.skip,(.rb [43] 10))]) func37 (mQ (PS aR)) (ay asG (ay (aO X7) (ay asG aB))) h
def Kc{F:aK}{f:Nat}(hne:zb f 37=wN)(h:bh F f):bh (e37 F) f:=vq hne h
structure uy where
 t3:Int
 t6:List aI
 (t7 t8:Int)
def Oy:Td 0 uy:= .c [] [3,6,7,8] (.r 0 0 (ec 3 aM (ec 6 (ql 34) (ec 7 aM (ec 8 aM en)))) sn (fun z=>⟨z.1.1,z.1.2.1,z.1.2.2.1,z.1.2.2.2.1⟩) (fun x=>((x.t3,x.t6,x.t7,x.t8,()),(()))))
def amc(p:uy):Option (Option uy):=
 bif wP (p.t8<p.t7)then if 0<=p.t8/\p.t8<p.t6.length then match pJ p.t6[p.t8.toNat]! with|O=>O|V r1=>V (V (uy.mk (i64.wrap (p.t3*r1)) p.t6 p.t7 (i64.wrap (p.t8+1))))else O else V (O)
def Nb:uy->Option uy:=bI (amc)
abbrev aqZ:Type:=Int
def d100:Td 0 aqZ:= .c [] [2] (.r 0 0 (ec 2 aM en) sn (fun z=>z.1.1) (fun x=>((x,()),(()))))
def avc(a0:List aI):Option aqZ:=
 match Nb (uy.mk 1 a0 a0.length 0)with|O=>O|V r2=>bif wP (r2.t8<r2.t7)then if 0<=r2.t8/\r2.t8<r2.t6.length then match pJ r2.t6[r2.t8.toNat]! with|O=>O|V r3=>O else O else V (r2.t3)
def axQ:aK->aK:=eL wQ 100 wN (lc (ql 34) ln) d100 (fun g=>avc g.1)
def ag4:EO axQ:=fun h=>kL (an:=(noTwo (noTwo (.two (noTwo (Oy.lp Nb .no)) .no)))) (l:=[(bg f100 0,(Oy.lp Nb .no))]) func100 (mQ aR) (ay (aO Oy) aB) h
structure sQ where
 (t8 t9 t10 t11:Int)
 b0:bM
def VG:Td 0 sQ:= .c [] [7,8,9,10,11] (.r 0 1 (ec 7 (qp 0 0) (ec 8 aM (ec 9 aM (ec 10 aM (ec 11 aM en))))) (sb 0 36 (lg 36) sn) (fun z=>⟨z.1.2.1,z.1.2.2.1,z.1.2.2.2.1,z.1.2.2.2.2.1,z.2.1⟩) (fun x=>(((),x.t8,x.t9,x.t10,x.t11,()),(x.b0,()))))
def as2(p:sQ):Option (Option sQ):=
 bif wP (p.t11<=p.b0.aC.length)then match m32 p.b0.aA p.t11 with|O=>O|V r1=>bif r1 then bif wP (p.t11<p.b0.aC.length)then if 0<=p.t11/\p.t11<p.b0.aC.length then match pJ p.b0.aC[p.t11.toNat]! with|O=>O|V r2=>V (V (sQ.mk p.t8 (if p.t8<i64.wrap (p.t9+p.t10)then p.t8 else i64.wrap (p.t9+p.t10)) (if p.t8<i64.wrap (p.t10*if p.t8<r2 then p.t8 else r2)then p.t8 else i64.wrap (p.t10*if p.t8<r2 then p.t8 else r2)) (i64.wrap (p.t11+1)) p.b0))else O else V (V (sQ.mk p.t8 (if p.t8<i64.wrap (p.t9+p.t10)then p.t8 else i64.wrap (p.t9+p.t10)) p.t10 (i64.wrap (p.t11+1)) p.b0))else bif wP (p.t11<p.b0.aC.length)then if 0<=p.t11/\p.t11<p.b0.aC.length then match pJ p.b0.aC[p.t11.toNat]! with|O=>O|V r3=>V (V (sQ.mk p.t8 p.t9 (if p.t8<i64.wrap (p.t10*if p.t8<r3 then p.t8 else r3)then p.t8 else i64.wrap (p.t10*if p.t8<r3 then p.t8 else r3)) (i64.wrap (p.t11+1)) p.b0))else O else V (V (sQ.mk p.t8 p.t9 p.t10 (i64.wrap (p.t11+1)) p.b0))else V (O)
def VU:sQ->Option sQ:=bI (as2)
abbrev E38:Type:=Int
def d38:Td 0 E38:= .c [] [6] (.r 0 0 (ec 6 aM en) sn (fun z=>z.1.1) (fun x=>((x,()),(()))))
def m38(a0:aP)(a1:cD)(a2:List aI):Option E38:=
 match m23 a0 a1 a2 with|O=>O|V r4=>match avc a2 with|O=>O|V r5=>match pJ r4.aD with|O=>O|V r6=>match VU (sQ.mk (if 1099511627776<r5 then 1099511627776 else r5) 0 (if(if 1099511627776<r5 then 1099511627776 else r5)<r6 then if 1099511627776<r5 then 1099511627776 else r5 else r6) 0 r4)with|O=>O|V r7=>bif wP (r7.t11<=r7.b0.aC.length)then match m32 r7.b0.aA r7.t11 with|O=>O|V r8=>bif r8 then bif wP (r7.t11<r7.b0.aC.length)then if 0<=r7.t11/\r7.t11<r7.b0.aC.length then match pJ r7.b0.aC[r7.t11.toNat]! with|O=>O|V r9=>O else O else O else bif wP (r7.t11<r7.b0.aC.length)then if 0<=r7.t11/\r7.t11<r7.b0.aC.length then match pJ r7.b0.aC[r7.t11.toNat]! with|O=>O|V r10=>O else O else O else V (r7.t9)
def e38:aK->aK:=eL wQ 38 wN (lc (qg 26) (lc (qg 29) (lc (ql 34) ln))) d38 (fun g=>m38 g.1 g.2.1 g.2.2.1)
def akO:EO e38:=fun h=>kL (an:=(noTwo (noTwo (noTwo (noTwo (noTwo (.two (noTwo (VG.lp VU .no)) .no))))))) (l:=[(bg f38 0,(VG.lp VU .no))]) func38 (ag4 (mQ (Bj (PS aR)))) (ay (aO VG) aB) h
def Kl:EP e38:=fun h=>kP h
def L4(a:aI):Int:=open Classical in if NV a then cV a else 0
def Qy(a:aI):HJ a=V (L4 a):=by
 unfold L4
 by_cases h:NV a
 ·rw[bw h,aoz h]
 ·rw[bF h,afy h]
def IL(a:aI):pJ a=V (L4 a):=by
 unfold L4
 by_cases h:NV a
 ·rw[bw h,gi h]
 ·rw[bF h,aaU h]
def jZ(pub:List Int)(i:Nat)(x:aS):Int:=bif wP (pub[i]! <x.af)then 3 else bif wP (x.aa<pub[i]!)then 3 else 0
def og(box:List aI)(i:Nat)(x:aS):Int:=bif bif Vd box[i]! then wN else wO then 1 else bif wP (@Eq Int (L4 box[i]!) 0)then 1 else bif wP (box[i]!.af<x.af)then 3 else bif wP (x.aa<box[i]!.aa)then 3 else 0
def fq(vars:List aS):List aS:=vars.filter (kd 1)++vars.filter (kd 3)
def Cf(f:aP)(v:cD)(box:List aI):Int:=
 if B7 f≠0 then B7 f else if v.aW.length≠(f.ah.filter (kd 2)).length then 1 else if cw (jZ v.aW) (f.ah.filter (kd 2)) 0≠0 then cw (jZ v.aW) (f.ah.filter (kd 2)) 0
 else if box.length≠(fq f.ah).length then 2 else cw (og box) (fq f.ah) 0
def su{vars:List aS}{i:Nat}(h:i<vars.length)(k:Int):(vars.take (i+1)).filter (kd k)=(vars.take i).filter (kd k)++(if vars[i]!.bk=k then[vars[i]!]else[]):=by
 rw[bS h,xk]
 by_cases hk:vars[i]!.bk=k
 ·rw[bw hk];simp only[yK,xq,kd,hk,dx,cz]
 ·rw[bF hk];simp only[yK,xq,kd,hk,gh,xp,dS]
def uM{vars:List aS}(k:Int)(i:Nat):((vars.take i).filter (kd k)).length<=i:=kG vars k i
def WV(f:aP)(hl:f.ah.length<=1000000)(v:cD)(box:List aI):TA ⟨box,[],f.ah,(f.ah.length:Int),0,f,v⟩=V ⟨box,f.ah.filter (kd 2),f.ah,(f.ah.length:Int),(f.ah.length:Int),f,v⟩:=by
 obtain⟨b,e1,hI⟩:=dH (cO:=SV) f.ah.length (fun i (b:List aS)=>⟨box,b,f.ah,(f.ah.length:Int),(i:Int),f,v⟩) (fun i b=>b=(f.ah.take i).filter (kd 2)) (fun i b hi hb=>by
  have hw:=gF hi hl
  have i1:(i:Int)<(f.ah.length:Int):=by omega
  have i2:(0:Int)<=(i:Int):=by omega
  have hlen:b.length<=i:=by rw[hb];exact uM 2 i
  have hl2:∀x:aS,(b++[x]).length<=1073741824:=fun x=>by simp;omega
  refine⟨_,?_,rfl⟩
  rw[su hi,<-hb]
  unfold SV
  by_cases hk:f.ah[i]!.bk=2
  ·simp only[za,i1,i2,hk,hl2,hw,dx,bE,ew,cz]
  ·simp only[za,i1,i2,hk,hw,dx,gh,bE,bA,ew,cz,dS,yj]) (fun b _=>by unfold SV;simp) (b:=[]) (by simp)
 rw[zM]at hI
 rw[<-hI]
 exact e1
def MA(f:aP)(hl:f.ah.length<=1000000)(v:cD)(box:List aI)(t8 acc:List aS)(ha:acc.length<=1000000)(k:Int)(ks:List Int)(n j:Int):
  GY ⟨box,t8,acc,k,ks,n,j,f.ah,(f.ah.length:Int),0,f,v⟩=V ⟨box,t8,acc++f.ah.filter (kd k),k,ks,n,j,f.ah,(f.ah.length:Int),(f.ah.length:Int),f,v⟩:=by
 obtain⟨b,e1,hI⟩:=dH (cO:=SU) f.ah.length (fun i (b:List aS)=>⟨box,t8,acc++b,k,ks,n,j,f.ah,(f.ah.length:Int),(i:Int),f,v⟩) (fun i b=>b=(f.ah.take i).filter (kd k)) (fun i b hi hb=>by
  have hw:=gF hi hl
  have i1:(i:Int)<(f.ah.length:Int):=by omega
  have i2:(0:Int)<=(i:Int):=by omega
  have hlen:b.length<=i:=by rw[hb];exact uM k i
  have hl2:∀x:aS,(acc++(b++[x])).length<=1073741824:=fun x=>by simp;omega
  refine⟨_,?_,rfl⟩
  rw[su hi,<-hb]
  unfold SU
  by_cases hk:f.ah[i]!.bk=k
  ·simp only[za,i1,i2,hk,hl2,hw,dx,bE,ew,cz,yQ]
  ·simp only[za,i1,i2,hk,hw,dx,gh,bE,bA,ew,cz,dS,yj]) (fun b _=>by unfold SU;simp) (b:=[]) (by simp)
 rw[zM]at hI
 have e1':GY ⟨box,t8,acc,k,ks,n,j,f.ah,(f.ah.length:Int),0,f,v⟩=V ⟨box,t8,acc++b,k,ks,n,j,f.ah,(f.ah.length:Int),(f.ah.length:Int),f,v⟩:=by
  have:=e1
  rw[yj]at this
  exact this
 rw[<-hI]
 exact e1'
def XU(f:aP)(hl:f.ah.length<=1000)(v:cD)(box:List aI)(t8:List aS):
  MF ⟨box,t8,[],[1,3],2,0,f,v⟩=V ⟨box,t8,fq f.ah,[1,3],2,2,f,v⟩:=by
 have h1:(f.ah.filter (kd 1)).length<=1000:=zx (yp _ _) hl
 have e1:=MA f (by omega) v box t8 [] (by simp) 1 [1,3] 2 0
 have e2:=MA f (by omega) v box t8 (f.ah.filter (kd 1)) (by omega) 3 [1,3] 2 1
 rw[yg]at e1
 have w1:i64.wrap ((0:Int)+1)=1:=by decide
 have w2:i64.wrap ((1:Int)+1)=2:=by decide
 unfold MF fq
 rw[bQ (p':=⟨box,t8,f.ah.filter (kd 1),[1,3],2,1,f,v⟩)]
 ·rw[bQ (p':=⟨box,t8,f.ah.filter (kd 1)++f.ah.filter (kd 3),[1,3],2,2,f,v⟩)]
  ·exact cu (fun r=>by unfold To;simp)
  ·unfold To
   dsimp only
   rw[bP (by decide),bE,bw (by decide),bw (by decide)]
   rw[show ([1,3]:List Int)[yC 1]! =3 from rfl,e2]
   dsimp only
   rw[fy,bA,w2]
 ·unfold To
  dsimp only
  rw[bP (by decide),bE,bw (by decide),bw (by decide)]
  rw[show ([1,3]:List Int)[yC 0]! =1 from rfl,e1]
  dsimp only
  rw[fy,bA,w1]
def aev(L:List aS)(hl:L.length<=1000000)(v:cD)(hv:v.aW.length=L.length)(box:List aI)(t9:List aS):
  ∃i,SQ ⟨box,t9,L,(L.length:Int),0,v⟩=V ⟨box,t9,L,(L.length:Int),(i:Nat),v⟩/\((i=L.length/\cw (jZ v.aW) L 0=0)\/(i<L.length/\jZ v.aW i L[i]!≠0/\cw (jZ v.aW) L 0=jZ v.aW i L[i]!)):=
 sU (cO:=Ml) L (fun i=>⟨box,t9,L,(L.length:Int),(i:Nat),v⟩) (jZ v.aW) (fun i hi=>by
  have hw:=gF hi hl
  have i1:(i:Int)<(L.length:Int):=by omega
  have i2:(0:Int)<=(i:Int):=by omega
  have i3:(i:Int)<(v.aW.length:Int):=by omega
  have key:Ml ⟨box,t9,L,(L.length:Int),(i:Nat),v⟩=if jZ v.aW i L[i]! =0 then V (V ⟨box,t9,L,(L.length:Int),((i+1:Nat):Int),v⟩)else V O:=by
   unfold Ml jZ
   simp only[za,i1,i2,i3,hi,hw,dx,bE,ew,cz]
   cases wP (v.aW[i]! <L[i]!.af)<;>cases wP (L[i]!.aa<v.aW[i]!)<;>simp
  exact⟨fun h=>by rw[key,bw h],fun h=>by rw[key,bF h]⟩) (by unfold Ml;simp)
def acT(L:List aS)(hl:L.length<=1000000)(box:List aI)(hv:box.length=L.length):
  ∃i,Rj ⟨box,L,(L.length:Int),0⟩=V ⟨box,L,(L.length:Int),(i:Nat)⟩/\((i=L.length/\cw (og box) L 0=0)\/(i<L.length/\og box i L[i]!≠0/\cw (og box) L 0=og box i L[i]!)):=
 sU (cO:=L3) L (fun i=>⟨box,L,(L.length:Int),(i:Nat)⟩) (og box) (fun i hi=>by
  have hw:=gF hi hl
  have i1:(i:Int)<(L.length:Int):=by omega
  have i2:(0:Int)<=(i:Int):=by omega
  have i3:(i:Int)<(box.length:Int):=by omega
  have key:L3 ⟨box,L,(L.length:Int),(i:Nat)⟩=if og box i L[i]! =0 then V (V ⟨box,L,(L.length:Int),((i+1:Nat):Int)⟩)else V O:=by
   unfold L3 og
   simp only[za,i1,i2,i3,hi,hw,dx,bE,ew,cz,eR,Qy]
   cases Vd box[i]! <;>cases wP (@Eq Int (L4 box[i]!) 0)<;>cases wP (box[i]!.af<L[i]!.af)<;>cases wP (L[i]!.aa<box[i]!.aa)<;>simp
  exact⟨fun h=>by rw[key,bw h],fun h=>by rw[key,bF h]⟩) (by unfold L3;simp)
def ati{f:aP}(h:fO f.bJ+jK (f.aj.map (·.az))<=900)(hh:f.aj.length<=1000)(hl:f.ah.length<=1000)(v:cD)(box:List aI):m79 f v box=V (Cf f v box):=by
 have l2:(f.ah.filter (kd 2)).length<=1000:=zx (yp _ _) hl
 have l3:(fq f.ah).length<=2000:=by
  have a1:(f.ah.filter (kd 1)).length<=1000:=zx (yp _ _) hl
  have a3:(f.ah.filter (kd 3)).length<=1000:=zx (yp _ _) hl
  unfold fq
  rw[zh];omega
 unfold m79 Cf
 rw[ahc f h (by omega) (by omega)]
 dsimp only
 by_cases hc:B7 f=0
 case neg=>rw[bO hc,bw hc];rfl
 rw[bP hc,bF (by simpa using hc)]
 simp only[bE,bA]
 rw[WV f (by omega)]
 dsimp only
 rw[fy,bA]
 rw[XU f hl]
 dsimp only
 rw[fy,bA]
 by_cases hp:v.aW.length=(f.ah.filter (kd 2)).length
 case neg=>rw[fy,bw hp];rfl
 rw[sw,bF (by simpa using hp)]
 simp only[bE,bA]
 obtain⟨i,e3,k3⟩:=aev (f.ah.filter (kd 2)) (by omega) v hp box (fq f.ah)
 rw[e3]
 dsimp only
 rcases k3 with ⟨rfl,k3⟩|⟨i1,i2,i3⟩
 case inr=>
  rw[bw (show cw (jZ v.aW) (f.ah.filter (kd 2)) 0≠0 by rw[i3];exact i2),i3]
  have j1:(i:Int)<((f.ah.filter (kd 2)).length:Int):=by omega
  have j2:(0:Int)<=(i:Int):=by omega
  have j3:(i:Int)<(v.aW.length:Int):=by omega
  simp only[za,j1,j2,j3,i1,dx,bE,ew,cz]
  revert i2
  unfold jZ
  cases wP (v.aW[i]! <(f.ah.filter (kd 2))[i]!.af)<;>cases wP ((f.ah.filter (kd 2))[i]!.aa<v.aW[i]!)<;>simp
 rw[fy,bA,bF (show ¬cw (jZ v.aW) (f.ah.filter (kd 2)) 0≠0 by rw[k3];simp)]
 by_cases hb:box.length=(fq f.ah).length
 case neg=>rw[fy,bw hb];rfl
 rw[sw,bF (by simpa using hb)]
 simp only[bE,bA]
 obtain⟨i,e4,k4⟩:=acT (fq f.ah) (by omega) box hb
 rw[e4]
 dsimp only
 rcases k4 with ⟨rfl,k4⟩|⟨i1,i2,i3⟩
 ·rw[fy,bA,k4]
 ·rw[i3]
  have j1:(i:Int)<((fq f.ah).length:Int):=by omega
  have j2:(0:Int)<=(i:Int):=by omega
  have j3:(i:Int)<(box.length:Int):=by omega
  simp only[za,j1,j2,j3,i1,dx,bE,ew,cz,eR,Qy]
  revert i2
  unfold og
  cases Vd box[i]! <;>cases wP (@Eq Int (L4 box[i]!) 0)<;>cases wP (box[i]!.af<(fq f.ah)[i]!.af)<;>cases wP ((fq f.ah)[i]!.aa<box[i]!.aa)<;>simp
def Dj(f:aP)(hl:f.ah.length<=1000000)(v:cD)(box:List aI)(t8 t9:List aS)(h8:t8.length<=1000000)(h9:t9.length<=1000000)(k:Int)(ks:List Int)(n j:Int):
  Lw ⟨box,t8,t9,k,ks,n,j,f.ah,(f.ah.length:Int),0,f,v⟩=V ⟨box,if k=2 then t8++f.ah.filter (kd k)else t8,if k=2 then t9 else t9++f.ah.filter (kd k),k,ks,n,j,f.ah,(f.ah.length:Int),(f.ah.length:Int),f,v⟩:=by
 obtain⟨b,e1,hI⟩:=dH (cO:=QN) f.ah.length (fun i (b:List aS)=>⟨box,if k=2 then t8++b else t8,if k=2 then t9 else t9++b,k,ks,n,j,f.ah,(f.ah.length:Int),(i:Int),f,v⟩) (fun i b=>b=(f.ah.take i).filter (kd k)) (fun i b hi hb=>by
  have hw:=gF hi hl
  have i1:(i:Int)<(f.ah.length:Int):=by omega
  have i2:(0:Int)<=(i:Int):=by omega
  have hlen:b.length<=i:=by rw[hb];exact uM k i
  have hl2:∀x:aS,(t8++(b++[x])).length<=1073741824:=fun x=>by simp;omega
  have hl3:∀x:aS,(t9++(b++[x])).length<=1073741824:=fun x=>by simp;omega
  refine⟨_,?_,rfl⟩
  rw[su hi,<-hb]
  unfold QN
  by_cases hk:f.ah[i]!.bk=k
  ·by_cases h2:k=2
   ·simp only[za,i1,i2,hk,h2,hl2,hw,dx,bE,ew,cz,yQ]
   ·simp only[za,i1,i2,hk,h2,hl3,hw,dx,gh,bE,bA,ew,cz,dS,yQ]
  ·simp only[za,i1,i2,hk,hw,dx,gh,bE,bA,ew,cz,dS,yj]) (fun b _=>by unfold QN;simp) (b:=[]) (by simp)
 rw[zM]at hI
 rw[<-hI]
 have e1':=e1
 rw[yj,yj,ite_self,ite_self]at e1'
 exact e1'
def WE(f:aP)(hl:f.ah.length<=1000)(v:cD)(box:List aI):
  Ms ⟨box,[],[],[1,3,2],3,0,f,v⟩=V ⟨box,f.ah.filter (kd 2),fq f.ah,[1,3,2],3,3,f,v⟩:=by
 have h1:(f.ah.filter (kd 1)).length<=1000:=zx (yp _ _) hl
 have h3:(f.ah.filter (kd 3)).length<=1000:=zx (yp _ _) hl
 have e1:=Dj f (by omega) v box [] [] (by simp) (by simp) 1 [1,3,2] 3 0
 have e2:=Dj f (by omega) v box [] (f.ah.filter (kd 1)) (by simp) (by omega) 3 [1,3,2] 3 1
 have e3:=Dj f (by omega) v box [] (fq f.ah) (by simp) (by unfold fq;rw[zh];omega) 2 [1,3,2] 3 2
 simp only[yg,Int.reduceEq,dS,cz]at e1 e2 e3
 have w1:i64.wrap ((0:Int)+1)=1:=by decide
 have w2:i64.wrap ((1:Int)+1)=2:=by decide
 have w3:i64.wrap ((2:Int)+1)=3:=by decide
 unfold Ms
 rw[bQ (p':=⟨box,[],f.ah.filter (kd 1),[1,3,2],3,1,f,v⟩)]
 ·rw[bQ (p':=⟨box,[],fq f.ah,[1,3,2],3,2,f,v⟩)]
  ·rw[bQ (p':=⟨box,f.ah.filter (kd 2),fq f.ah,[1,3,2],3,3,f,v⟩)]
   ·exact cu (fun r=>by unfold LC;simp)
   ·unfold LC
    dsimp only
    rw[bP (by decide),bE,bw (by decide),bw (by decide)]
    rw[show ([1,3,2]:List Int)[yC 2]! =2 from rfl,e3]
    dsimp only
    rw[fy,bA,w3]
  ·unfold LC
   dsimp only
   rw[bP (by decide),bE,bw (by decide),bw (by decide)]
   rw[show ([1,3,2]:List Int)[yC 1]! =3 from rfl,e2]
   dsimp only
   rw[fy,bA,w2]
   rfl
 ·unfold LC
  dsimp only
  rw[bP (by decide),bE,bw (by decide),bw (by decide)]
  rw[show ([1,3,2]:List Int)[yC 0]! =1 from rfl,e1]
  dsimp only
  rw[fy,bA,w1]
def aeu(L:List aS)(hl:L.length<=1000000)(v:cD)(hv:v.aW.length=L.length)(box:List aI)(t9:List aS):
  ∃i,Qq ⟨box,t9,L,(L.length:Int),0,v⟩=V ⟨box,t9,L,(L.length:Int),(i:Nat),v⟩/\((i=L.length/\cw (jZ v.aW) L 0=0)\/(i<L.length/\jZ v.aW i L[i]!≠0/\cw (jZ v.aW) L 0=jZ v.aW i L[i]!)):=
 sU (cO:=Mq) L (fun i=>⟨box,t9,L,(L.length:Int),(i:Nat),v⟩) (jZ v.aW) (fun i hi=>by
  have hw:=gF hi hl
  have i1:(i:Int)<(L.length:Int):=by omega
  have i2:(0:Int)<=(i:Int):=by omega
  have i3:(i:Int)<(v.aW.length:Int):=by omega
  have key:Mq ⟨box,t9,L,(L.length:Int),(i:Nat),v⟩=if jZ v.aW i L[i]! =0 then V (V ⟨box,t9,L,(L.length:Int),((i+1:Nat):Int),v⟩)else V O:=by
   unfold Mq jZ
   simp only[za,i1,i2,i3,hi,hw,dx,bE,ew,cz]
   cases wP (v.aW[i]! <L[i]!.af)<;>cases wP (L[i]!.aa<v.aW[i]!)<;>simp
  exact⟨fun h=>by rw[key,bw h],fun h=>by rw[key,bF h]⟩) (by unfold Mq;simp)
def ac9(L:List aS)(hl:L.length<=1000000)(box:List aI)(hv:box.length=L.length):
  ∃i,RM ⟨box,L,(L.length:Int),0⟩=V ⟨box,L,(L.length:Int),(i:Nat)⟩/\((i=L.length/\cw (og box) L 0=0)\/(i<L.length/\og box i L[i]!≠0/\cw (og box) L 0=og box i L[i]!)):=
 sU (cO:=Kz) L (fun i=>⟨box,L,(L.length:Int),(i:Nat)⟩) (og box) (fun i hi=>by
  have hw:=gF hi hl
  have i1:(i:Int)<(L.length:Int):=by omega
  have i2:(0:Int)<=(i:Int):=by omega
  have i3:(i:Int)<(box.length:Int):=by omega
  have key:Kz ⟨box,L,(L.length:Int),(i:Nat)⟩=if og box i L[i]! =0 then V (V ⟨box,L,(L.length:Int),((i+1:Nat):Int)⟩)else V O:=by
   unfold Kz og
   simp only[za,i1,i2,i3,hi,hw,dx,bE,ew,cz,gp,IL]
   cases Vd box[i]! <;>cases wP (@Eq Int (L4 box[i]!) 0)<;>cases wP (box[i]!.af<L[i]!.af)<;>cases wP (L[i]!.aa<box[i]!.aa)<;>simp
  exact⟨fun h=>by rw[key,bw h],fun h=>by rw[key,bF h]⟩) (by unfold Kz;simp)
def atu{f:aP}(h:fO f.bJ+jK (f.aj.map (·.az))<=900)(hh:f.aj.length<=1000)(hl:f.ah.length<=1000)(v:cD)(box:List aI):m21 f v box=V (Cf f v box):=by
 have l2:(f.ah.filter (kd 2)).length<=1000:=zx (yp _ _) hl
 have l3:(fq f.ah).length<=2000:=by
  have a1:(f.ah.filter (kd 1)).length<=1000:=zx (yp _ _) hl
  have a3:(f.ah.filter (kd 3)).length<=1000:=zx (yp _ _) hl
  unfold fq
  rw[zh];omega
 unfold m21 Cf
 rw[Nv f h (by omega) (by omega)]
 dsimp only
 by_cases hc:B7 f=0
 case neg=>rw[bO hc,bw hc];rfl
 rw[bP hc,bF (by simpa using hc)]
 simp only[bE,bA]
 rw[WE f hl v box]
 dsimp only
 rw[fy,bA]
 by_cases hp:v.aW.length=(f.ah.filter (kd 2)).length
 case neg=>rw[fy,bw hp];rfl
 rw[sw,bF (by simpa using hp)]
 simp only[bE,bA]
 obtain⟨i,e3,k3⟩:=aeu (f.ah.filter (kd 2)) (by omega) v hp box (fq f.ah)
 rw[e3]
 dsimp only
 rcases k3 with ⟨rfl,k3⟩|⟨i1,i2,i3⟩
 case inr=>
  rw[bw (show cw (jZ v.aW) (f.ah.filter (kd 2)) 0≠0 by rw[i3];exact i2),i3]
  have j1:(i:Int)<((f.ah.filter (kd 2)).length:Int):=by omega
  have j2:(0:Int)<=(i:Int):=by omega
  have j3:(i:Int)<(v.aW.length:Int):=by omega
  simp only[za,j1,j2,j3,i1,dx,bE,ew,cz]
  revert i2
  unfold jZ
  cases wP (v.aW[i]! <(f.ah.filter (kd 2))[i]!.af)<;>cases wP ((f.ah.filter (kd 2))[i]!.aa<v.aW[i]!)<;>simp
 rw[fy,bA,bF (show ¬cw (jZ v.aW) (f.ah.filter (kd 2)) 0≠0 by rw[k3];simp)]
 by_cases hb:box.length=(fq f.ah).length
 case neg=>rw[fy,bw hb];rfl
 rw[sw,bF (by simpa using hb)]
 simp only[bE,bA]
 obtain⟨i,e4,k4⟩:=ac9 (fq f.ah) (by omega) box hb
 rw[e4]
 dsimp only
 rcases k4 with ⟨rfl,k4⟩|⟨i1,i2,i3⟩
 ·rw[fy,bA,k4]
 ·rw[i3]
  have j1:(i:Int)<((fq f.ah).length:Int):=by omega
  have j2:(0:Int)<=(i:Int):=by omega
  have j3:(i:Int)<(box.length:Int):=by omega
  simp only[za,j1,j2,j3,i1,dx,bE,ew,cz,gp,IL]
  revert i2
  unfold og
  cases Vd box[i]! <;>cases wP (@Eq Int (L4 box[i]!) 0)<;>cases wP (box[i]!.af<(fq f.ah)[i]!.af)<;>cases wP ((fq f.ah)[i]!.aa<box[i]!.aa)<;>simp
structure Fits (f:aP) (v:cD) (box:List aI):Prop where
 c:B7 f=0
 pub:v.aW.length=(f.ah.filter (kd 2)).length
 XL:∀j,j<v.aW.length->(f.ah.filter (kd 2))[j]!.af<=v.aW[j]!/\v.aW[j]!<=(f.ah.filter (kd 2))[j]!.aa
 bl:box.length=(fq f.ah).length
 bx:∀j,j<box.length->NN box[j]!/\(fq f.ah)[j]!.af<=box[j]!.af/\box[j]!.aa<=(fq f.ah)[j]!.aa
def Rg{f:aP}{v:cD}{box:List aI}(h:Cf f v box=0):Fits f v box:=by
 unfold Cf at h
 by_cases hc:B7 f=0
 case neg=>rw[bw hc]at h;exact cQ h hc
 rw[bF (by simpa using hc)]at h
 by_cases hp:v.aW.length=(f.ah.filter (kd 2)).length
 case neg=>rw[bw hp]at h;cases h
 rw[bF (by simpa using hp)]at h
 by_cases hf:cw (jZ v.aW) (f.ah.filter (kd 2)) 0=0
 case neg=>rw[bw hf]at h;exact cQ h hf
 rw[bF (by simpa using hf)]at h
 by_cases hb:box.length=(fq f.ah).length
 case neg=>rw[bw hb]at h;cases h
 rw[bF (by simpa using hb)]at h
 refine⟨hc,hp,fun j hj=> ?_,hb,fun j hj=> ?_⟩
 ·have k:=nL hf j (by omega)
  rw[yq]at k
  unfold jZ at k
  by_cases c1:v.aW[j]! <(f.ah.filter (kd 2))[j]!.af
  ·rw[bP c1]at k;cases k
  by_cases c2:(f.ah.filter (kd 2))[j]!.aa<v.aW[j]!
  ·rw[bO c1,bP c2]at k;cases k
  omega
 ·have k:=nL h j (by omega)
  rw[yq]at k
  unfold og at k
  by_cases c0:NV box[j]!
  case neg=>rw[uW c0]at k;cases k
  rw[dX c0]at k
  by_cases c3:L4 box[j]! =0
  ·rw[bP c3]at k;cases k
  by_cases c1:box[j]!.af<(fq f.ah)[j]!.af
  ·rw[bO c3,bP c1]at k;cases k
  by_cases c2:(fq f.ah)[j]!.aa<box[j]!.aa
  ·rw[bO c3,bO c1,bP c2]at k;cases k
  refine⟨c0.nn fun e=>c3 ?_,by omega,by omega⟩
  rw[e]
  unfold L4
  rw[bw (.inl rfl)]
  unfold cV
  rw[bw rfl]
def DP{f:aP}(h:B7 f=0){i:Nat}(hi:i<f.ah.length):(0<=f.ah[i]!.bk/\f.ah[i]!.bk<=3)/\(f.ah[i]!.bk=0->f.ah[i]!.af<=f.ah[i]!.dz/\f.ah[i]!.dz<=f.ah[i]!.aa):=by
 unfold B7 at h
 by_cases h1:pK f=wN
 ·rw[bw h1]at h;exact cQ h (by decide)
 rw[bF h1]at h
 by_cases hvc:kD f.ah=0
 case neg=>rw[bw hvc]at h;exact cQ h hvc
 unfold kD at hvc
 by_cases h0:cw (mK f.ah) f.ah 0=0
 case neg=>rw[bw h0]at hvc;exact cQ hvc h0
 have k:=nL h0 i hi
 unfold mK at k
 split at k
 ·cases k
 split at k
 ·cases k
 split at k
 ·cases k
 split at k
 ·cases k
 rename_i q _
 refine⟨by omega,fun e=> ?_⟩
 rw[bw e]at k
 split at k
 ·cases k
 ·omega
def iw(f:aP)(v:cD)(box:List aI)(i:Nat):aI:=
 if f.ah[i]!.bk=1 then box[cg f.ah 1 i]! else if f.ah[i]!.bk=2 then dL v.aW[cg f.ah 2 i]! else if f.ah[i]!.bk=3 then box[cg f.ah 1 f.ah.length+cg f.ah 3 i]! else dL f.ah[i]!.dz
def gU(f:aP)(v:cD)(box:List aI):ax:=⟨jv f.ah.length (iw f v box),dL 0,[],dL 0⟩
def oq(vars:List aS):(fq vars).length=cg vars 1 vars.length+cg vars 3 vars.length:=by
 unfold fq
 rw[zh,gz,gz]
def fD{vars:List aS}{k:Int}{i:Nat}(hi:i<vars.length)(hk:vars[i]!.bk=k):cg vars k i<cg vars k vars.length:=by
 have c:=fA hi k
 have m:=kZ (vars:=vars) (k:=k) (show i+1<=vars.length by omega) (zD _)
 rw[bw hk]at c
 omega
def rH{f:aP}{v:cD}{box:List aI}(h:Fits f v box):fM f.ah.length 0 (gU f v box):=by
 have hv:=pG h.c
 have hb:=h.bl
 rw[oq]at hb
 have hp:=h.pub
 rw[<-gz]at hp
 refine⟨eC ..,fun i hi=> ?_,j9 ⟨by decide,by decide⟩,zD _,fun i hi=>cQ hi (by simp[gU]),j9 ⟨by decide,by decide⟩⟩
 show NN (jv _ _)[i]!
 rw[gj hi]
 unfold iw
 by_cases k1:f.ah[i]!.bk=1
 ·rw[bw k1]
  have:=fD hi k1
  exact(h.bx _ (by omega)).1
 rw[bF k1]
 by_cases k2:f.ah[i]!.bk=2
 ·rw[bw k2]
  have hl:=fD hi k2
  have hj:=h.XL _ (show cg f.ah 2 i<v.aW.length by omega)
  have hm:=aX (l:=f.ah.filter (kd 2)) (i:=cg f.ah 2 i) (by rw[<-gz];omega)
  have:=hv _ ((z6.1 hm).1)
  exact j9 (by unfold bY;omega)
 rw[bF k2]
 by_cases k3:f.ah[i]!.bk=3
 ·rw[bw k3]
  have:=fD hi k3
  exact(h.bx _ (by omega)).1
 rw[bF k3]
 obtain⟨q1,q2⟩:=DP h.c hi
 have q2:=q2 (by omega)
 have:=hv _ (aX hi)
 exact j9 (by unfold bY;omega)
abbrev A0:bM:=⟨⟨0,0,0⟩,[],⟨0,0,0⟩,[]⟩
def adr{f:aP}(hl:f.ah.length<=1000)(box:List aI)(v:cD)(g:ax):Sr ⟨box,0,0,0,f.ah,(f.ah.length:Int),0,f,v,A0,⟨[],g.aA,[],g.aD⟩⟩=
  V ⟨box,0,0,(cg f.ah 1 f.ah.length:Int),f.ah,(f.ah.length:Int),(f.ah.length:Int),f,v,A0,⟨[],g.aA,[],g.aD⟩⟩:=by
 obtain⟨b,e1,_⟩:=dH (cO:=Tb) f.ah.length (fun i (_:Unit)=>⟨box,0,0,(cg f.ah 1 i:Int),f.ah,(f.ah.length:Int),(i:Int),f,v,A0,⟨[],g.aA,[],g.aD⟩⟩) (fun _ _=>True) (fun i b hi _=>by
  have hw:=gF hi (by omega)
  have i1:(i:Int)<(f.ah.length:Int):=by omega
  have i2:(0:Int)<=(i:Int):=by omega
  have c1:=fA hi 1
  have l1:=kG f.ah 1 i
  have w1:i64.wrap ((cg f.ah 1 i:Int)+1)=((cg f.ah 1 i+1:Nat):Int):=by rw[aF];omega
  refine⟨(),?_,trivial⟩
  unfold Tb
  rw[c1]
  by_cases hk:f.ah[i]!.bk=1
  ·simp only[za,i1,i2,hk,hw,w1,dx,bE,ew,cz]
  ·simp only[za,i1,i2,hk,hw,dx,gh,bE,bA,ew,cz,dS,yf]) (fun b _=>by unfold Tb;simp) (b:=()) trivial
 exact e1
def aaw{f:aP}{v:cD}{box:List aI}(h:Fits f v box)(hlv:f.ah.length<=1000)(g:ax):Su ⟨box,0,0,(cg f.ah 1 f.ah.length:Int),f.ah,(f.ah.length:Int),0,f,v,A0,⟨[],g.aA,[],g.aD⟩⟩=
  V ⟨box,(cg f.ah 1 f.ah.length:Int),(cg f.ah 2 f.ah.length:Int),((cg f.ah 1 f.ah.length+cg f.ah 3 f.ah.length:Nat):Int),f.ah,(f.ah.length:Int),(f.ah.length:Int),f,v,A0,⟨jv f.ah.length (iw f v box),g.aA,[],g.aD⟩⟩:=by
 have hbx:=h.bl
 rw[oq]at hbx
 have hp:=h.pub
 rw[<-gz]at hp
 obtain⟨b,e1,_⟩:=dH (cO:=Sb) f.ah.length (fun i (_:Unit)=>⟨box,(cg f.ah 1 i:Int),(cg f.ah 2 i:Int),((cg f.ah 1 f.ah.length+cg f.ah 3 i:Nat):Int),f.ah,(f.ah.length:Int),(i:Int),f,v,A0,⟨jv i (iw f v box),g.aA,[],g.aD⟩⟩) (fun i _=>True) (fun i b hi _=>by
  have hw:=gF hi (by omega)
  have i1:(i:Int)<(f.ah.length:Int):=by omega
  have i2:(0:Int)<=(i:Int):=by omega
  have c1:=fA hi 1
  have c2:=fA hi 2
  have c3:=fA hi 3
  have m1:=kZ (vars:=f.ah) (k:=1) (show i+1<=f.ah.length by omega) (zD _)
  have m2:=kZ (vars:=f.ah) (k:=2) (show i+1<=f.ah.length by omega) (zD _)
  have m3:=kZ (vars:=f.ah) (k:=3) (show i+1<=f.ah.length by omega) (zD _)
  have l1:=kG f.ah 1 f.ah.length
  have l2:=kG f.ah 2 f.ah.length
  have l3:=kG f.ah 3 f.ah.length
  have hl2:∀x:aI,(jv i (iw f v box)++[x]).length<=1073741824:=fun x=>by rw[zh,eC,yG];omega
  refine⟨(),?_,trivial⟩
  rw[Kf]
  unfold Sb
  dsimp only
  rw[c1,c2,c3]
  by_cases k1:f.ah[i]!.bk=1
  ·have ev:iw f v box i=box[cg f.ah 1 i]! :=by unfold iw;rw[bw k1]
   rw[k1]at c1 c2 c3 ⊢
   simp only[Int.reduceEq,cz,dS,yf]at c1 c2 c3 ⊢
   have w1:i64.wrap ((cg f.ah 1 i:Int)+1)=((cg f.ah 1 i+1:Nat):Int):=by rw[aF];omega
   have j1:(cg f.ah 1 i:Int)<(box.length:Int):=by omega
   have j2:(0:Int)<=(cg f.ah 1 i:Int):=by omega
   simp only[za,i1,i2,j1,j2,dx,bE,ew,cz,k1,hl2,hw,w1,ev]
  by_cases k2:f.ah[i]!.bk=2
  ·have ev:iw f v box i=dL v.aW[cg f.ah 2 i]! :=by unfold iw;rw[bF k1,bw k2]
   rw[k2]at c1 c2 c3 ⊢
   simp only[Int.reduceEq,cz,dS,yf]at c1 c2 c3 ⊢
   have w1:i64.wrap ((cg f.ah 2 i:Int)+1)=((cg f.ah 2 i+1:Nat):Int):=by rw[aF];omega
   have j1:(cg f.ah 2 i:Int)<(v.aW.length:Int):=by omega
   have j2:(0:Int)<=(cg f.ah 2 i:Int):=by omega
   simp only[za,i1,i2,j1,j2,k2,Int.reduceEq,dx,gh,bE,bA,ew,cz,hl2,hw,w1,rG,ev]
  by_cases k3:f.ah[i]!.bk=3
  ·have ev:iw f v box i=box[cg f.ah 1 f.ah.length+cg f.ah 3 i]! :=by unfold iw;rw[bF k1,bF k2,bw k3]
   rw[k3]at c1 c2 c3 ⊢
   simp only[Int.reduceEq,cz,dS,yf]at c1 c2 c3 ⊢
   have w1:i64.wrap (((cg f.ah 1 f.ah.length+cg f.ah 3 i:Nat):Int)+1)=((cg f.ah 1 f.ah.length+(cg f.ah 3 i+1):Nat):Int):=by rw[aF];omega
   have j1:((cg f.ah 1 f.ah.length+cg f.ah 3 i:Nat):Int)<(box.length:Int):=by omega
   have j2:(0:Int)<=((cg f.ah 1 f.ah.length+cg f.ah 3 i:Nat):Int):=by omega
   simp only[za,i1,i2,j1,j2,k3,Int.reduceEq,dx,gh,bE,bA,ew,cz,hl2,hw,w1,ev]
  ·have ev:iw f v box i=dL f.ah[i]!.dz:=by unfold iw;rw[bF k1,bF k2,bF k3]
   rw[bF k1,bF k2,bF k3]
   simp only[za,i1,i2,k1,k2,k3,dx,gh,bE,bA,ew,cz,hl2,hw,rG,ev,yf]) (fun b _=>by unfold Sb;simp) (b:=()) trivial
 exact e1
def abc(f:aP)(s:ax)(h:dc):aI:=gN (cC s.ah h.az) h.af h.aa
def sE(f:aP)(s:ax):List aI:=f.aj.map (abc f s)
def acW{f:aP}(hf:Ge f){s:ax}{m:Nat}(hs:fM f.ah.length m s){i:Nat}(hi:i<f.aj.length):NN (abc f s f.aj[i]!):=by
 obtain⟨_,_,_,k,_⟩:=jf (iO hs f.aj[i]!.az (hf.hat i hi).2) f.aj[i]!.af f.aj[i]!.aa
 exact k
def I8{f:aP}(hf:Ge f){s:ax}{m:Nat}(hs:fM f.ah.length m s):∀i,i<(sE f s).length->NN (sE f s)[i]! :=fun i hi=>by
 have hi:i<f.aj.length:=by simpa [sE]using hi
 unfold sE
 rw[getElem!_pos _ i (by simpa using hi),yo,<-getElem!_pos f.aj i hi]
 exact acW hf hs hi
def ab6{f:aP}(hf:Ge f)(hlh:f.aj.length<=1000)(v:cD){s:ax}(hs:fM f.ah.length 0 s):LA ⟨f.aj,(f.aj.length:Int),0,f,v,A0,s,⟨f,[]⟩⟩=
  V ⟨f.aj,(f.aj.length:Int),(f.aj.length:Int),f,v,A0,s,⟨f,sE f s⟩⟩:=by
 have hsl:s.aC=[]:=yZ (Nat.le_zero.1 hs.sl)
 have es:(⟨s.ah,s.aA,[],s.aD⟩:ax)=s:=by rw[<-hsl]
 obtain⟨b,e1,_⟩:=dH (cO:=RC) f.aj.length (fun i (_:Unit)=>⟨f.aj,(f.aj.length:Int),(i:Int),f,v,A0,s,⟨f,(f.aj.take i).map (abc f s)⟩⟩) (fun i _=>True) (fun i b hi _=>by
  have hw:=gF hi (by omega)
  have i1:(i:Int)<(f.aj.length:Int):=by omega
  have i2:(0:Int)<=(i:Int):=by omega
  obtain⟨q1,q2⟩:=hf.hat i hi
  have ev:=K9 hs q2
  obtain⟨c,hcl,_,_,_⟩:=jf (iO hs f.aj[i]!.az q2) f.aj[i]!.af f.aj[i]!.aa
  have hl2:∀x:aI,((f.aj.take i).map (abc f s)++[x]).length<=1073741824:=fun x=>by simp;omega
  refine⟨(),?_,trivial⟩
  rw[bS hi,yc]
  unfold RC
  simp only[za,i1,i2,dx,bE,ew,cz,aq.eta,es,ev,hcl,hl2,hw,yh,y5]
  rfl) (fun b _=>by unfold RC;simp) (b:=()) trivial
 rw[zM]at e1
 exact e1
def I9(f:aP)(v:cD)(box:List aI):ax:=jJ f (sE f (gU f v box)) f.bJ (gU f v box)
def eT(f:aP)(v:cD)(box:List aI):bM:=
 ⟨(I9 f v box).aA,(I9 f v box).aC,if v.fK=wO then(I9 f v box).aD else dL 0,(I9 f v box).ah⟩
def ai2{f:aP}{v:cD}{box:List aI}(h:fO f.bJ+jK (f.aj.map (·.az))<=900)(hh:f.aj.length<=1000)(hl:f.ah.length<=1000):m20 f v box=V (if Cf f v box=0 then(eT f v box,0)else(A0,Cf f v box)):=by
 unfold m20
 rw[ati h hh hl]
 dsimp only
 by_cases hc:Cf f v box=0
 case neg=>rw[bO hc,bF hc];rfl
 have hfit:=Rg hc
 have hf:=IZ hfit.c
 have h0:=rH hfit
 have e0:=adr hl box v ⟨[],dL 0,[],dL 0⟩
 have e1:=aaw hfit hl ⟨[],dL 0,[],dL 0⟩
 have e2:=ab6 hf hh v h0
 have ho:di f.bJ<=8:=by have:=hf.o;unfold di;omega
 have e3:r83 ⟨f,sE f (gU f v box)⟩ f.bJ (gU f v box)=V (I9 f v box):=
  apW (r:=⟨f,sE f (gU f v box)⟩) (top:=wO) (by show f.ah.length<=_;omega) (by simp[sE]) (I8 hf h0) (by omega) hf.steps h0 (by omega)
 rw[bP hc,bw hc]
 simp only[bE,bA,rG]
 dsimp only[A0]at e0 e1 e2
 rw[e0]
 dsimp only
 rw[fy,bA,e1]
 dsimp only
 rw[fy,bA]
 have e2':LA ⟨f.aj,(f.aj.length:Int),0,f,v,⟨⟨0,0,0⟩,[],⟨0,0,0⟩,[]⟩,⟨jv f.ah.length (iw f v box),dL 0,[],dL 0⟩,⟨f,[]⟩⟩=_:=e2
 rw[e2']
 dsimp only
 rw[fy,bA]
 have e3':r83 ⟨f,sE f (gU f v box)⟩ f.bJ ⟨(gU f v box).ah,(gU f v box).aA,[],(gU f v box).aD⟩=_:=e3
 rw[e3']
 dsimp only
 unfold eT
 cases v.fK<;>rfl
abbrev E18:Type:=Bool
def d18:Td 0 E18:= .c [] [0] (.r 0 0 (ec 0 qb en) sn (fun z=>z.1.1) (fun x=>((x,()),(()))))
def A18:=ln
def m18:E18:=wO
def apw:Prop:=HL wQ 18 A18 d18 (fun _=>V m18)
def e18:aK->aK:=eL wQ 18 wN A18 d18 (fun _=>V m18)
def Jr(hv:apw){F:aK}(h:bq wQ F):bq wQ (e18 F):=gI (sc:=Cc) eW hv ⟨_,func18,by kernel_rfl,by kernel_rfl⟩ (fun _=>by kernel_rfl) (fun _=>by kernel_rfl) h
def pF:EP e18:=fun h=>kP h
def t18:EH wQ dg (fun _=>wN) 300 60 Bool 18 [] [] 0 (acg UA)=V wO:=by kernel_rfl
def US{P:Program}{f:FuncId}{xs:List AV}{d:AV}(h:Iv.Fn P f xs [] (fun a s=>a=d/\s=[]))(ha:∀ρ:Gh,xs.map (cc.sub ρ)=xs)(hd:∀ρ:Gh,d.sub ρ=d):Tv P f xs [] 0 ⟨d,[],0⟩:=fun ρ=>by
 rw[ha ρ]
 exact h.mono fun a s ⟨h1,h2⟩=>⟨ρ,fun _ _=>⟨rfl,rfl⟩,by rw[h1];exact(hd ρ).symm,by rw[h2];exact List.Perm.refl _⟩
def amZ:kz wQ 18 0 (d18.pat m18)=⟨.b wO,[],0⟩:=by kernel_rfl
def alV:apw:=fun g b hb=>by
 cases hb
 rw[amZ]
 exact US (akY (Lp (P:=wQ) (aR (P:=wQ)).ok (aR (P:=wQ)).nat 300 60) P0.b rfl (fun d hd=>by cases hd) t18).2 (fun _=>rfl) (fun ρ=>jX 2 (by kernel_rfl))
def F19:aK:=(e78 (e53 (e24 dg)))
abbrev E19:Type:=Bool
def d19:Td 0 E19:= .c [] [6] (.r 0 0 (ec 6 qb en) sn (fun z=>z.1.1) (fun x=>((x,()),(()))))
def ax5:∀f∈([24,53,78]:List Nat),bh (F19) f:=(ay (lT (qz (nq bB))) (ay (lT (qz (nq bB))) (ay (lT (qz (nq bB))) aB)))
def m19(a0:aP)(a1:cD)(a2:List aI):Option E19:=
 match bif wP ((↑a1.aW.length:Int)<=20)then bif wP ((↑a2.length:Int)<=20)then match m53 a0 70 300with|O=>O|V r1=>bif r1 then match m78 a0 with|O=>O|V r2=>bif bif wP (r2=0)then wN else wO then V wO else match m24 a0 4096 4096 256with|O=>O|V r3=>V (r3)else V wN else V wN else V wN with|O=>O|V r4=>V (r4)
def e19:aK->aK:=eL wQ 19 wN (lc (qg 26) (lc (qg 29) (lc (ql 34) ln))) d19 (fun g=>m19 g.1 g.2.1 g.2.2.1)
def Ya:EO e19:=fun h=>kL (F:=F19) (an:=(noTwo (.two (.rb [24,53,78] 6) .no))) (l:=[(.skip,(.rb [24,53,78] 6))]) func19 (J8 (V7 (WM aR))) (ay ax5 aB) h
def LH:EP e19:=fun h=>kP h
structure Db where
 (t0 t1:List aI)
 (t12 t13:Int)
def V9:Td 0 Db:= .c [] [0,1,12,13] (.r 0 0 (ec 0 (ql 34) (ec 1 (ql 34) (ec 12 aM (ec 13 aM en)))) sn (fun z=>⟨z.1.1,z.1.2.1,z.1.2.2.1,z.1.2.2.2.1⟩) (fun x=>((x.t0,x.t1,x.t12,x.t13,()),(()))))
def aq9(p:Db):Option (Option Db):=
 bif wP (p.t13<p.t12)then if 0<=p.t13/\p.t13<p.t0.length then if 0<=p.t13/\p.t13<p.t1.length then bif bif bif wP (p.t0[p.t13.toNat]!.af=p.t1[p.t13.toNat]!.af)then bif wP (p.t0[p.t13.toNat]!.aa=p.t1[p.t13.toNat]!.aa)then bif wP (p.t0[p.t13.toNat]!.ai=p.t1[p.t13.toNat]!.ai)then wO else wN else wN else wN then wN else wO then V (O)else V (V (Db.mk p.t0 p.t1 p.t12 (i64.wrap (p.t13+1))))else O else O else V (O)
def Z4:Db->Option Db:=bI (aq9)
abbrev E64:Type:=Bool
def d64:Td 0 E64:= .c [] [4] (.r 0 0 (ec 4 qb en) sn (fun z=>z.1.1) (fun x=>((x,()),(()))))
def m64(a0:List aI)(a1:List aI):Option E64:=
 bif bif wP ((↑a0.length:Int)=(↑a1.length:Int))then wN else wO then V wN else match Z4 (Db.mk a0 a1 a0.length 0)with|O=>O|V r1=>bif wP (r1.t13<r1.t12)then if 0<=r1.t13/\r1.t13<r1.t0.length then if 0<=r1.t13/\r1.t13<r1.t1.length then bif bif bif wP (r1.t0[r1.t13.toNat]!.af=r1.t1[r1.t13.toNat]!.af)then bif wP (r1.t0[r1.t13.toNat]!.aa=r1.t1[r1.t13.toNat]!.aa)then bif wP (r1.t0[r1.t13.toNat]!.ai=r1.t1[r1.t13.toNat]!.ai)then wO else wN else wN else wN then wN else wO then V wN else O else O else O else V wO
def e64:aK->aK:=eL wQ 64 wN (lc (ql 34) (lc (ql 34) ln)) d64 (fun g=>m64 g.1 g.2.1)
def akE:EO e64:=fun h=>kL (an:=(noTwo (noTwo (.two (noTwo (V9.lp Z4 .no)) .no)))) (l:=[(bg f64 0,(V9.lp Z4 .no))]) func64 aR (ay (aO V9) aB) h
def VJ:EP e64:=fun h=>kP h
def F22:aK:=(e64 dg)
abbrev E22:Type:=Bool
def d22:Td 0 E22:= .c [] [4] (.r 0 0 (ec 4 qb en) sn (fun z=>z.1.1) (fun x=>((x,()),(()))))
def aw0:∀f∈([64]:List Nat),bh (F22) f:=(ay (VJ bB) aB)
def m22(a0:bM)(a1:bM):Option E22:=
 match bif bif wP (a0.aA.af=a1.aA.af)then bif wP (a0.aA.aa=a1.aA.aa)then bif wP (a0.aA.ai=a1.aA.ai)then wO else wN else wN else wN then bif bif wP (a0.aD.af=a1.aD.af)then bif wP (a0.aD.aa=a1.aD.aa)then bif wP (a0.aD.ai=a1.aD.ai)then wO else wN else wN else wN then match m64 a0.aC a1.aC with|O=>O|V r1=>bif r1 then match m64 a0.Ow a1.Ow with|O=>O|V r2=>V (r2)else V (wN)else V (wN)else V (wN)with|O=>O|V r3=>V (r3)
def e22:aK->aK:=eL wQ 22 wN (lc (qg 36) (lc (qg 36) ln)) d22 (fun g=>m22 g.1 g.2.1)
def amq:EO e22:=fun h=>kL (F:=F22) (an:=(noTwo (.two (.rb [64] 4) .no))) (l:=[(.skip,(.rb [64] 4))]) func22 (akE aR) (ay aw0 aB) h
def F3:aK:=(e23 (e22 (e21 (e20 (e19 (e18 dg))))))
def auw:bq wQ F3:=(PS (amq (NK (Jz (Ya (Jr alV aR))))))
abbrev E3:Type:=Bool
def d3:Td 0 E3:= .c [] [6] (.r 0 0 (ec 6 qb en) sn (fun z=>z.1.1) (fun x=>((x,()),(()))))
def A3:=(lc (qg 26) (lc (qg 29) (lc (ql 34) ln)))
def an3:An:= .no
def fa3:eG wQ (F3) 0 300 3 (an3):=bV (l:=[]) func3 (bG (by kernel_rfl)) (by kernel_rfl) aB
def m3(a0:aP)(a1:cD)(a2:List aI):Option E3:=
 bif bif m18 then wN else wO then V (wN)else match m19 a0 a1 a2 with|O=>O|V r1=>bif bif r1 then wN else wO then V (wO)else match m20 a0 a1 a2 with|O=>O|V r2=>match m21 a0 a1 a2 with|O=>O|V r3=>bif bif wP (r3=0)then wN else wO then bif wP (r2.snd=r3)then match m22 r2.fst (bM.mk (aI.mk (0) (0) (0)) [] (aI.mk (0) (0) (0)) [])with|O=>O|V r4=>V (r4)else V (wN)else bif wP (r2.snd=0)then match m23 a0 a1 a2 with|O=>O|V r5=>match m22 r2.fst r5 with|O=>O|V r6=>V (r6)else V (wN)
def c3(a0:aP)(a1:cD)(a2:List aI):bU wQ (F3) 300 (an3) 3 (A3.c (a0,a1,a2,())) [] 0 d3.rd=m3 a0 a1 a2:=by kernel_rfl
def h3:HL wQ 3 A3 d3 (fun g=>m3 g.1 g.2.1 g.2.2.1):=(dG auw fa3 (fun _=>by kernel_rfl) (fun _=>by kernel_rfl) fun g=>c3 g.1 g.2.1 g.2.2.1)
def e3:aK->aK:=eL wQ 3 wN A3 d3 (fun g=>m3 g.1 g.2.1 g.2.2.1)
def F6:aK:=(e38 (e37 (e31 (e26 (e25 (e21 (e19 (e18 dg))))))))
def asb:bq wQ F6:=(akO (amV (al8 (aj2 (akt (NK (Ya (Jr alV aR))))))))
abbrev E6:Type:=Bool
def d6:Td 0 E6:= .c [] [6] (.r 0 0 (ec 6 qb en) sn (fun z=>z.1.1) (fun x=>((x,()),(()))))
def A6:=(lc (qg 26) (lc (qg 29) (lc (ql 34) ln)))
def an6:An:=(noTwo (noTwo (noTwo (noTwo (noTwo (noTwo (noTwo (.two (.rb [31,38] 6) .no))))))))
def pu6:∀f∈([31,38]:List Nat),bh (F6) f:=(ay (Kl (Kc (f:=31) rfl (My (Lm (f:=31) rfl (Mb (qT (LH (pF bB)))))))) (ay (Kl (Kc (f:=38) rfl (My (Lm (f:=38) rfl (Mb (qT (LH (pF bB)))))))) aB))
def fa6:eG wQ (F6) 0 300 6 (an6):=bV (l:=[(.skip,(.rb [31,38] 6))]) func6 (bG (by kernel_rfl)) (by kernel_rfl) (ay pu6 aB)
def m6(a0:aP)(a1:cD)(a2:List aI):Option E6:=
 bif bif m18 then wN else wO then V (wN)else match m19 a0 a1 a2 with|O=>O|V r1=>bif bif r1 then wN else wO then V (wO)else match m26 a0 a1 a2 with|O=>O|V r2=>match m25 a0 a1 a2 with|O=>O|V r3=>match m21 a0 a1 a2 with|O=>O|V r4=>bif bif wP (r4=0)then wN else wO then bif wP (r2.snd.snd=r4)then bif wP (r3.snd=r4)then bif bif r2.snd.fst then wN else wO then bif wP (r3.fst=0)then match m31 r2.fst (bt.mk [] (0))with|O=>O|V r5=>V (r5)else V (wN)else V (wN)else V (wN)else V (wN)else match m37 a0 a1 a2 with|O=>O|V r6=>match bif wP (r2.snd.snd=0)then bif wP (r3.snd=0)then bif r2.snd.fst==r6.snd then match m31 r2.fst r6.fst with|O=>O|V r7=>bif r7 then match m38 a0 a1 a2 with|O=>O|V r8=>bif wP (r3.fst=r8)then V (wP (((r3.fst,r3.snd,()),()).fst.fst=1)==r2.snd.fst)else V (wN)else V (wN)else V (wN)else V (wN)else V (wN)with|O=>O|V r9=>V (r9)
def c6(a0:aP)(a1:cD)(a2:List aI):bU wQ (F6) 300 (an6) 6 (A6.c (a0,a1,a2,())) [] 0 d6.rd=m6 a0 a1 a2:=by kernel_rfl
def h6:HL wQ 6 A6 d6 (fun g=>m6 g.1 g.2.1 g.2.2.1):=(dG asb fa6 (fun _=>by kernel_rfl) (fun _=>by kernel_rfl) fun g=>c6 g.1 g.2.1 g.2.2.1)
def e6:aK->aK:=eL wQ 6 wN A6 d6 (fun g=>m6 g.1 g.2.1 g.2.2.1)
def cJ:List aS->Int
 |[]=>1
 |x::l=>(x.aa-x.af+1)*cJ l
def AO:∀(a b:List aS),cJ (a++b)=cJ a*cJ b
 |[],b=>by rw[yg,cJ,zR]
 |x::a,b=>by rw[xw,cJ,cJ,AO a b,zN]
def vn(kind:Int):∀(l:List aS) (n m:Int),uJ kind l n=V m->m=n*cJ (l.filter (kd kind))
 |[],n,m,e=>by unfold uJ at e;cases e;rw[xq,cJ,y8]
 |v::vs,n,m,e=>by
  unfold uJ at e
  by_cases hk:v.bk=kind
  ·rw[bw hk]at e
   split at e
   ·cases e
   ·have:=vn kind vs _ m e
    rw[this,yK,bw (by simp[kd,hk]),cJ,zN]
  ·rw[bF hk]at e
   rw[vn kind vs n m e,yK,bF (by simp[kd,hk])]
def rU:∀{l:List aS},(∀v∈l,v.af<=v.aa)->1<=cJ l
 |[],_=>by rw[cJ];decide
 |x::l,h=>by
  rw[cJ]
  have h1:=h x (zi ..)
  have h2:=rU (fun y hy=>h y (zJ _ hy))
  have:=Int.mul_le_mul (show 1<=x.aa-x.af+1 by omega) h2 (by omega) (by omega)
  omega
def U2{f:aP}(h:B7 f=0):Bu f.ah=wO:=by
 unfold B7 at h
 by_cases h1:pK f=wN
 ·rw[bw h1]at h;exact cQ h (by decide)
 rw[bF h1]at h
 by_cases hvc:kD f.ah=0
 case neg=>rw[bw hvc]at h;exact cQ h hvc
 unfold kD at hvc
 by_cases h0:cw (mK f.ah) f.ah 0=0
 case neg=>rw[bw h0]at hvc;exact cQ hvc h0
 rw[bF (by simpa using h0)]at hvc
 cases hs:Bu f.ah with
 |true=>rfl
 |false=>rw[hs]at hvc;simp at hvc
structure ROk (r:bM):Prop where
 count:NN r.aA
 time:NN r.aD
 sl:r.aC.length<=8
 slots:∀i,i<r.aC.length->NN r.aC[i]!
def stP(r:bM)(M:Int):Nat->Int×Int
 |0=>(0,min (cV r.aD) M)
 |k+1=>(if cG r.aA (k:Nat)=wO then min ((stP r M k).1+(stP r M k).2) M else(stP r M k).1,if k<r.aC.length then min ((stP r M k).2*cV r.aC[k]!) M else(stP r M k).2)
structure CI (s:ax):Prop where
 lo:0<=s.aA.af
 hi:s.aA.aa=s.aC.length
def Va{a:aI}(h:NN a)(hu:a.aa<=1000000000):(iS 8 a (dL 1)).af=a.af+1/\(iS 8 a (dL 1)).aa=a.aa+1:=by
 have hb:NN (dL 1):=j9 ⟨by decide,by decide⟩
 have hl:=h.lo
 rcases eV (op:=8) (.inl rfl) h hb (fun Q k=>lJ h hb k) (fun k=>(jI h hb).mpr ⟨cZ k (.inl rfl) (.inl rfl),cZ k (.inr (.inr rfl)) (.inr (.inr rfl))⟩)with ⟨_,e,_⟩|⟨hn,_⟩
 ·unfold iS
  rw[e]
  exact⟨rfl,rfl⟩
 ·refine cQ (fun y ⟨x,z,⟨x1,x2,_⟩,⟨z1,z2,_⟩,e⟩=> ?_) hn
  have z1:(1:Int)<=z:=z1
  have z2:z<=1:=z2
  have e:y=x+z:=e
  unfold bY
  omega
def ae2{s:ax}(h:CI s)(c:Int):CI (iF s c):=⟨h.lo,h.hi⟩
def Q5{f:aP}{s:ax}(h:CI s)(v:Int)(x:aI):CI (KD f s v x):=⟨h.lo,h.hi⟩
def adZ{n m:Nat}{s:ax}(k:fM n m s)(h:CI s)(hm:m<=1000000)(x:aI):CI (FM s x):=by
 have hs:=k.sl
 have hh:=h.hi
 have hl:=h.lo
 obtain⟨e1,e2⟩:=Va k.count (by omega)
 refine⟨?_,?_⟩
 ·show 0<=(iS 8 s.aA (dL 1)).af
  omega
 ·show (iS 8 s.aA (dL 1)).aa=((jv _ _++[x]:List aI).length:Int)
  rw[e2,zh,eC,yG]
  omega
def YY{n m:Nat}{s t:ax}(k:fM n m s)(k':fM n m t)(h:CI s)(h':CI t):CI (jc s t):=by
 have h1:=h.lo
 have h2:=h.hi
 have h3:=h'.lo
 have h4:=h'.hi
 refine⟨?_,?_⟩
 ·show 0<=(cn s.aA t.aA).af
  rw[cE k.count k'.count]
  show 0<=min s.aA.af t.aA.af
  omega
 ·show (cn s.aA t.aA).aa=((jv _ _:List aI).length:Int)
  rw[cE k.count k'.count,eC]
  show max s.aA.aa t.aA.aa=_
  omega
def sg1(a:aI):Prop:=a.af=a.aa
structure SG (s:ax):Prop where
 vars:∀i,i<s.ah.length->sg1 s.ah[i]!
 count:sg1 s.aA
 slots:∀i,i<s.aC.length->sg1 s.aC[i]!
 time:sg1 s.aD
def XW(f:aP)(v:cD)(box:List aI):CI (gU f v box):=⟨zg _,rfl⟩
def alI{f:aP}{v:cD}{box:List aI}(h:Fits f v box):fM f.ah.length 8 (I9 f v box):=by
 have hf:=IZ h.c
 have h0:=rH h
 have ho:di f.bJ<=8:=by have:=hf.o;unfold di;omega
 exact(jx (hv:=sE f (gU f v box)) (by simp[sE]) (I8 hf h0) _ f.bJ wO (zw _) hf.steps _ _ h0).weak (by omega)
def abO{f:aP}{v:cD}{box:List aI}(h:Fits f v box):ROk (eT f v box):=by
 have k:=alI h
 refine⟨k.count,?_,k.sl,k.slots⟩
 show NN (if v.fK=wO then(I9 f v box).aD else dL 0)
 split
 ·exact k.time
 ·exact j9 ⟨by decide,by decide⟩
def kW{op:Int}(h:binop op)(x y:Int):fo op x y=uC op x y:=by
 obtain⟨h1,h2⟩:=h
 rcases (show op=8\/op=9\/op=10\/op=11\/op=12\/op=13\/op=14\/op=15\/op=16\/op=17\/op=18\/op=19\/op=20\/op=21\/op=22 by omega)with rfl|rfl|rfl|rfl|rfl|rfl|rfl|rfl|rfl|rfl|rfl|rfl|rfl|rfl|rfl
 ·rfl
 ·rfl
 ·rfl
 ·rfl
 ·show (if y=0 then 0 else x-y*ni x y)=FC x y
  rfl
 ·rfl
 ·show mT (!wP (x=y))=jb (wP (x≠y))
  by_cases e:x=y<;>simp[e,mT,jb]
 ·rfl
 ·rfl
 ·rfl
 ·rfl
 ·rfl
 ·rfl
 ·show min x y=if x<y then x else y
  split<;>omega
 ·show max x y=if y<x then x else y
  split<;>omega
def LR(op:Int)(A B:Span):Span:=dR [] (aq.mk op 0 []) [A,B]
def Rb{op:Int}(ho:binop op){A B:Span}(hA:rS A)(hB:rS B){x y:Int}(hx:AS x A)(hy:AS y B):AS (uC op x y) (LR op A B):=by
 obtain⟨h1,h2⟩:=ho
 have hk:bW op=(2,2):=by unfold bW;rw[jC,jC,gC]
 have k:uj [] (aq.mk op 0 []) [A,B]:=⟨by show 0<=(bW op).1/\(bW op).1<=_/\_<=(bW op).2;rw[hk];exact⟨yN (by decide),zg 2,zg 2⟩,fun e=>by have e:op=24:=e;omega,fun s hs=>by
  rcases zy.1 hs with rfl|hs
  ·exact hA
  ·rw[zC.1 hs];exact hB⟩
 have:=QM (vars:=[]) (vals:=[]) ⟨rfl,fun i hi=>cQ hi (by simp)⟩ (t:=aq.mk op 0 []) (r:=[A,B]) k (k:=[x,y]) ⟨rfl,fun i hi=>by
  have hi:i<2:=hi
  match i,hi with
  |0,_=>exact hx
  |1,_=>exact hy⟩
 have e:tq [] (aq.mk op 0 []) [x,y]=uC op x y:=by
  unfold tq
  dsimp only
  rw[jC,jC,jC,jC,jC,jC]
  rfl
 rw[e]at this
 exact this
def NN.BP{a:aI}(h:NN a):bz a a.af:=⟨zg _,h.le,by rw[Int.sub_self];exact yU _⟩
def NN.Sg{a:aI}(h:NN a):bz a a.aa:=⟨h.le,zg _,h.dvd⟩
def oZ(a:aI)(s:Span):Prop:=s.af<=a.af/\a.aa<=s.aa
def oZ.mem{a:aI}{s:Span}(h:oZ a s){x:Int}(hx:bz a x):AS x s:=by
 have h1:=hx.1
 have h2:=hx.2.1
 unfold oZ at h
 unfold AS
 omega
def cS.mem{P:Int->Prop}{c:aI}(h:cS P c){x:Int}(hx:P x):bz c x:=h.all x hx
def aoT{op:Int}(ho:binop op){A B:Span}(hA:rS A)(hB:rS B){x y:Int}(hx:AS x A)(hy:AS y B):bY (fo op x y):=by
 unfold rS at hA hB
 unfold AS at hx hy
 rw[kW ho]
 have hx1:bY x:=by unfold bY;omega
 have hy1:bY y:=by unfold bY;omega
 obtain⟨h1,h2⟩:=ho
 by_cases o8:op=8
 ·subst o8;show bY (x+y);unfold bY;omega
 by_cases o9:op=9
 ·subst o9;show bY (x-y);unfold bY;omega
 by_cases o10:op=10
 ·subst o10;show bY (x*y);exact mj (by omega) (by omega) (by omega) (by omega)
 by_cases ha:op=11\/op=12\/op=21\/op=22
 ·rw[<-kW ⟨h1,h2⟩];exact KZ hx1 hy1 ha
 ·rw[<-kW ⟨h1,h2⟩]
  rcases wZ (op:=op) ⟨by omega,by omega⟩ x y with e|e<;>rw[e]<;>exact⟨by decide,by decide⟩
structure Snd (op:Int) (a b:aI) (A B:Span) (c:aI):Prop where
 mem:∀x z,bz a x->bz b z->bz c (fo op x z)
 rng:oZ c (LR op A B)
def qW{op:Int}(ho:binop op){a b c:aI}{A B:Span}(hA:rS A)(hB:rS B)(ia:oZ a A)(ib:oZ b B)(h:cS (oU op a b) c):Snd op a b A B c:=by
 refine⟨fun x z hx hz=>h.mem ⟨x,z,hx,hz,rfl⟩,?_⟩
 obtain⟨x,z,hx,hz,e⟩:=h.lo
 obtain⟨x',z',hx',hz',e'⟩:=h.hi
 have p:=Rb ho hA hB (ia.mem hx) (ib.mem hz)
 have p':=Rb ho hA hB (ia.mem hx') (ib.mem hz')
 rw[<-kW ho,<-e]at p
 rw[<-kW ho,<-e']at p'
 exact⟨p.1,p'.2⟩
def Y9{op:Int}(ho:binop op){a b:aI}(ha:NN a)(hb:NN b){A B:Span}(hA:rS A)(hB:rS B)(ia:oZ a A)(ib:oZ b B):Snd op a b A B (iS op a b):=by
 have hR:∀y,oU op a b y->bY y:=fun y ⟨x,z,hx,hz,e⟩=>by rw[e];exact aoT ho hA hB (ia.mem hx) (ib.mem hz)
 have r1:=ha.qO
 have r2:=ha.A5
 have r3:=hb.qO
 have r4:=hb.A5
 have la:=ha.le
 have lb:=hb.le
 have ia':=ia
 have ib':=ib
 unfold oZ at ia' ib'
 by_cases hs:cnt a*cnt b<=4096
 ·rcases uZ ho ha hb (by omega)with ⟨_,c,e,h2⟩|⟨hn,_⟩
  ·have:iS op a b=c:=by unfold iS;rw[lD ho ha hb hs,e]
   rw[this]
   exact qW ho hA hB ia ib h2
  ·exact cQ hR hn
 have hbin:=ho
 obtain⟨o1,o2⟩:=ho
 rcases (show op=8\/op=9\/op=10\/op=11\/op=12\/op=21\/op=22\/(13<=op/\op<=20)by omega)with rfl|rfl|rfl|rfl|rfl|rfl|rfl|h
 ·rcases eV (op:=8) (.inl rfl) ha hb (fun Q h=>lJ ha hb h) (fun h=>(jI ha hb).mpr ⟨cZ h (.inl rfl) (.inl rfl),cZ h (.inr (.inr rfl)) (.inr (.inr rfl))⟩)with ⟨_,e,hv⟩|⟨hn,_⟩
  ·unfold iS
   rw[e]
   exact qW hbin hA hB ia ib (lJ ha hb (GQ ha hb))
  ·exact cQ hR hn
 ·rcases eV (op:=9) (.inr (.inl rfl)) ha hb (fun Q h=>vF ha hb h) (fun h=>(nc ha hb).mpr ⟨cZ h (.inl rfl) (.inr (.inr rfl)),cZ h (.inr (.inr rfl)) (.inl rfl)⟩)with ⟨_,e,hv⟩|⟨hn,_⟩
  ·unfold iS
   rw[e]
   exact qW hbin hA hB ia ib (vF ha hb (GQ ha hb))
  ·exact cQ hR hn
 ·rcases eV (op:=10) (.inr (.inr rfl)) ha hb (fun Q h=>u7 ha hb h) (fun h=>(jg ha hb).mpr ⟨cZ h (.inl rfl) (.inl rfl),cZ h (.inl rfl) (.inr (.inr rfl)),cZ h (.inr (.inr rfl)) (.inl rfl),cZ h (.inr (.inr rfl)) (.inr (.inr rfl))⟩)with ⟨_,e,hv⟩|⟨hn,_⟩
  ·unfold iS
   rw[e]
   exact qW hbin hA hB ia ib (u7 ha hb (GQ ha hb))
  ·exact cQ hR hn
 all_goals unfold iS;rw[o4 hbin ha hb hs];unfold OJ
 ·obtain⟨a1,a2⟩:=r1
  obtain⟨a3,a4⟩:=r2
  simp only[Int.reduceEq,gh,dx,bA,bE]
  have hm:((max a.af.natAbs a.aa.natAbs:Nat):Int)<=1099511627776:=by omega
  have hx:∀x,bz a x->(x.natAbs:Int)<=((max a.af.natAbs a.aa.natAbs:Nat):Int):=fun x hx=>by
   have:=hx.1
   have:=hx.2.1
   omega
  have hr:((max a.af.natAbs a.aa.natAbs:Nat):Int)<=(if A.aa< -A.af then-A.af else A.aa):=by split<;>omega
  generalize max a.af.natAbs a.aa.natAbs=m at*
  rw[iM ⟨by omega,by omega⟩ ⟨by omega,by omega⟩ (by omega),iM ⟨by omega,by omega⟩ ⟨by omega,by omega⟩ (by omega)]
  by_cases c:0<=a.af/\0<=b.af
  ·rw[bP c.1,bP c.2]
   refine⟨fun x z hx' hz'=> ?_,?_⟩
   ·show bz (fL 0 (m:Int) 1) (oV x z)
    have d:=JB x z
    have hx1:=hx x hx'
    have q:=d.2.2 (by have:=hx'.1;omega) (by have:=hz'.1;omega)
    exact(j0 (by omega) (by omega)).mpr ⟨q,by omega,Int.one_dvd _⟩
   ·show oZ (fL 0 (m:Int) 1) _
    have e1:=CC (lo:=0) (hi:=(m:Int)) (st:=1) (by omega) (by omega)
    have e0:=((j0 (lo:=0) (hi:=(m:Int)) (st:=1) (x:=(fL 0 (m:Int) 1).af) (by omega) (by omega)).mp (ji (by omega) (by omega) (by omega) (by omega)).BP).1
    unfold oZ LR dR
    simp only[Int.reduceEq,cz,dS]
    rw[e1]
    show (if(0:Int)<=A.af/\(0:Int)<=B.af then(⟨0,if A.aa< -A.af then-A.af else A.aa⟩:Span)else⟨-(if A.aa< -A.af then-A.af else A.aa),if A.aa< -A.af then-A.af else A.aa⟩).af<=_/\_<=(if(0:Int)<=A.af/\(0:Int)<=B.af then(⟨0,if A.aa< -A.af then-A.af else A.aa⟩:Span)else⟨-(if A.aa< -A.af then-A.af else A.aa),if A.aa< -A.af then-A.af else A.aa⟩).aa
    by_cases c2:(0:Int)<=A.af/\(0:Int)<=B.af
    ·rw[bw c2]
     dsimp only
     rw[Int.ediv_one,y8]
     omega
    ·rw[bF c2]
     dsimp only
     rw[Int.ediv_one,y8]
     omega
  ·have hf:(wP (0<=a.af)&&wP (0<=b.af))=wN:=by
    cases c1:wP (0<=a.af)<;>cases c2:wP (0<=b.af)<;>first|rfl|exact cQ ⟨of_decide_eq_true c1,of_decide_eq_true c2⟩ c
   rw[hf]
   refine⟨fun x z hx' hz'=> ?_,?_⟩
   ·show bz (fL (-(m:Int)) (m:Int) 1) (oV x z)
    have d:=JB x z
    have hx1:=hx x hx'
    exact(j0 (by omega) (by omega)).mpr ⟨by omega,by omega,Int.one_dvd _⟩
   ·show oZ (fL (-(m:Int)) (m:Int) 1) _
    have e1:=CC (lo:= -(m:Int)) (hi:=(m:Int)) (st:=1) (by omega) (by omega)
    have e0:=((j0 (lo:= -(m:Int)) (hi:=(m:Int)) (st:=1) (x:=(fL (-(m:Int)) (m:Int) 1).af) (by omega) (by omega)).mp (ji (by omega) (by omega) (by omega) (by omega)).BP).1
    unfold oZ LR dR
    simp only[Int.reduceEq,cz,dS]
    rw[e1]
    show (if(0:Int)<=A.af/\(0:Int)<=B.af then(⟨0,if A.aa< -A.af then-A.af else A.aa⟩:Span)else⟨-(if A.aa< -A.af then-A.af else A.aa),if A.aa< -A.af then-A.af else A.aa⟩).af<=_/\_<=(if(0:Int)<=A.af/\(0:Int)<=B.af then(⟨0,if A.aa< -A.af then-A.af else A.aa⟩:Span)else⟨-(if A.aa< -A.af then-A.af else A.aa),if A.aa< -A.af then-A.af else A.aa⟩).aa
    rw[bF (show ¬((0:Int)<=A.af/\(0:Int)<=B.af)from fun k=>c ⟨by omega,by omega⟩)]
    dsimp only
    rw[Int.ediv_one,y8]
    omega
 ·simp only[Int.reduceEq,gh,dx,bA,bE]
  obtain⟨b1,b2⟩:=r3
  obtain⟨b3,b4⟩:=r4
  have hp:(if b.af<0 then b.af+1 else 0)<=0/\ -1099511627776<=(if b.af<0 then b.af+1 else 0):=by split<;>omega
  have hq:0<=(if 0<b.aa then b.aa-1 else 0)/\(if 0<b.aa then b.aa-1 else 0)<=1099511627776:=by split<;>omega
  have hrp:(if B.af<0 then B.af+1 else 0)<=(if b.af<0 then b.af+1 else 0):=by split<;>split<;>omega
  have hrq:(if 0<b.aa then b.aa-1 else 0)<=(if(0:Int)<B.aa then B.aa-1 else 0):=by split<;>split<;>omega
  have hz:∀x z,bz b z->(if b.af<0 then b.af+1 else 0)<=FC x z/\FC x z<=(if 0<b.aa then b.aa-1 else 0):=fun x z hz=>by
   have d:=Qz x z
   have z1:=hz.1
   have z2:=hz.2.1
   revert d
   split<;>split<;>split<;>split<;>omega
  generalize (if b.af<0 then b.af+1 else 0)=p at*
  generalize (if 0<b.aa then b.aa-1 else 0)=q at*
  rw[iM ⟨by omega,by omega⟩ ⟨by omega,by omega⟩ (by omega)]
  refine⟨fun x z hx' hz'=> ?_,?_⟩
  ·show bz (fL p q 1) (FC x z)
   obtain⟨d1,d2⟩:=hz x z hz'
   exact(j0 (by omega) (by omega)).mpr ⟨d1,d2,Int.one_dvd _⟩
  ·show oZ (fL p q 1) _
   have e1:=CC (lo:=p) (hi:=q) (st:=1) (by omega) (by omega)
   have e0:=((j0 (lo:=p) (hi:=q) (st:=1) (x:=(fL p q 1).af) (by omega) (by omega)).mp (ji (by omega) (by omega) (by omega) (by omega)).BP).1
   unfold oZ LR dR
   simp only[Int.reduceEq,cz,dS]
   rw[e1,Int.ediv_one,y8]
   refine⟨y6 hrp e0,?_⟩
   have:p+(q-p)<=(if(0:Int)<B.aa then B.aa-1 else 0):=by omega
   exact this
 ·simp only[Int.reduceEq,gh,dx,bA,bE]
  have vj:=dU (.inr ha) (.inr hb)
  obtain⟨l',e2,h2⟩:=AE vj (min a.aa b.aa)
  rw[e2]
  have J:=ha.dA.join hb.dA
  have nl:NN l':=by
   refine h2.rep.nn h2.1 (x:=(cn a b).af) ⟨?_,?_⟩
   ·rw[cE ha hb];exact(jo ha hb).BP
   ·rw[cE ha hb];show min a.af b.af<=_;omega
  have mem:∀x z,bz a x->bz b z->bz l' (min x z):=fun x z hx hz=>by
   refine(h2.2 _).mpr ⟨?_,?_⟩
   ·rw[cE ha hb]
    by_cases c:x<=z
    ·rw[show min x z=x by omega];exact J.mem (.inl hx)
    ·rw[show min x z=z by omega];exact J.mem (.inr hz)
   ·have:=hx.2.1
    have:=hz.2.1
    omega
  refine⟨mem,?_⟩
  have lo:=(h2.2 _).mp nl.BP
  have hi:=(h2.2 _).mp nl.Sg
  rw[cE ha hb]at lo
  have lo1:min a.af b.af<=l'.af:=lo.1.1
  have hi1:=hi.2
  unfold oZ LR dR
  simp only[Int.reduceEq,cz,dS]
  show (if B.af<A.af then B.af else A.af)<=l'.af/\l'.aa<=(if B.aa<A.aa then B.aa else A.aa)
  refine⟨?_,?_⟩<;>split<;>omega
 ·simp only[Int.reduceEq,gh,dx,bA,bE]
  have vj:=dU (.inr ha) (.inr hb)
  obtain⟨l',e2,h2⟩:=p8 vj (max a.af b.af-1)
  rw[e2]
  have J:=ha.dA.join hb.dA
  have nl:NN l':=by
   refine h2.rep.nn h2.1 (x:=(cn a b).aa) ⟨?_,?_⟩
   ·rw[cE ha hb];exact(jo ha hb).Sg
   ·rw[cE ha hb];show _<max a.aa b.aa;omega
  have mem:∀x z,bz a x->bz b z->bz l' (max x z):=fun x z hx hz=>by
   refine(h2.2 _).mpr ⟨?_,?_⟩
   ·rw[cE ha hb]
    by_cases c:z<=x
    ·rw[show max x z=x by omega];exact J.mem (.inl hx)
    ·rw[show max x z=z by omega];exact J.mem (.inr hz)
   ·have:=hx.1
    have:=hz.1
    omega
  refine⟨mem,?_⟩
  have lo:=(h2.2 _).mp nl.BP
  have hi:=(h2.2 _).mp nl.Sg
  rw[cE ha hb]at hi
  have hi1:l'.aa<=max a.aa b.aa:=hi.1.2.1
  have lo1:=lo.2
  unfold oZ LR dR
  simp only[Int.reduceEq,cz,dS]
  show (if A.af<B.af then B.af else A.af)<=l'.af/\l'.aa<=(if A.aa<B.aa then B.aa else A.aa)
  refine⟨?_,?_⟩<;>split<;>omega
 ·rw[Ij h ha hb]
  have:(match (bif wP (op=8)then pV op a b else bif wP (op=9)then pV op a b else bif wP (op=10)then pV op a b else bif wP (op=11)then
    (bif(wP (0<=a.af)&&wP (0<=b.af))then iQ 0 (max a.af.natAbs a.aa.natAbs:Nat) 1 else iQ (-((max a.af.natAbs a.aa.natAbs:Nat):Int)) (max a.af.natAbs a.aa.natAbs:Nat) 1)
   else bif wP (op=12)then iQ (if b.af<0 then b.af+1 else 0) (if 0<b.aa then b.aa-1 else 0) 1
   else bif wP (op=21)then(match m41 (cn a b) (min a.aa b.aa)with|O=>O|V c=>V (c,0))
   else bif wP (op=22)then(match Rf (cn a b) (max a.af b.af-1)with|O=>O|V c=>V (c,0))
   else(match V (fS (oW op a b).1 (oW op a b).2)with|O=>O|V c=>V (c,(0:Int))))with
   |none=>cy
   |some r=>r.1)=fS (oW op a b).1 (oW op a b).2:=by
   rcases gZ h with rfl|rfl|rfl|rfl|rfl|rfl|rfl|rfl<;>rfl
  refine qW hbin hA hB ia ib ?_
  have hh:=Ma h ha hb
  rw[<-this]at hh
  exact hh
def iW{a b:aI}(ha:NV a)(hb:NV b){x:Int}(h:bz a x):bz (cn a b) x:=by
 rcases ha with rfl|ha
 ·exact cQ h uV
 rcases hb with rfl|hb
 ·rw[q9];exact h
 ·rw[cE ha hb];exact(ha.dA.join hb.dA).mem (.inl h)
def iU{a b:aI}(ha:NV a)(hb:NV b){x:Int}(h:bz b x):bz (cn a b) x:=by
 rcases hb with rfl|hb
 ·exact cQ h uV
 rcases ha with rfl|ha
 ·rw[gV];exact h
 ·rw[cE ha hb];exact(ha.dA.join hb.dA).mem (.inr h)
def Kq{a b:aI}(ha:NN a)(hb:NN b){S:Span}(h:oZ a S)(k:oZ b S):oZ (cn a b) S:=by
 rw[cE ha hb]
 unfold oZ at*
 show S.af<=min a.af b.af/\max a.aa b.aa<=S.aa
 omega
def MG{H:aI}{ks:List aI}(hk:∀j,j<ks.length->NN ks[j]!){j:Nat}(hj:cG H (j:Nat)=wO){x:Int}(hx:bz ks[j]! x):∀n,n<=ks.length->j<n->bz (sy H ks n) x
 |0,_,h=>by omega
 |n+1,hn,h=>by
  rw[sy]
  have hv:=(vh (i:=H) hk n (by omega)).1
  by_cases e:j=n
  ·subst e
   rw[bw hj]
   exact iU hv (.inr (hk j (by omega))) hx
  ·have ih:=MG hk hj hx n (by omega) (by omega)
   split
   ·exact iW hv (.inr (hk n (by omega))) ih
   ·exact ih
def RO{H:aI}{ks:List aI}(hk:∀j,j<ks.length->NN ks[j]!){S:Span}(hS:∀j,j<ks.length->oZ ks[j]! S):∀n,n<=ks.length->sy H ks n=cy\/oZ (sy H ks n) S
 |0,_=> .inl rfl
 |n+1,hn=>by
  rw[sy]
  have hv:=(vh (i:=H) hk n (by omega)).1
  have ih:=RO (H:=H) hk hS n (by omega)
  split
  ·right
   rcases hv with e|hv
   ·rw[e,gV];exact hS n (by omega)
   ·rcases ih with e|ih
    ·exact cQ e hv.ne
    ·exact Kq hv (hk n (by omega)) ih (hS n (by omega))
  ·exact ih
def adl{a:aI}(h:NN a){x:Int}(hx:bz a x):bz (agn a) (-x):=by
 obtain⟨h1,h2,h3⟩:=hx
 refine⟨by show-a.aa<= -x;omega,by show-x<= -a.af;omega,?_⟩
 show a.ai∣ -x- -a.aa
 have:=ym h.dvd h3
 rw[show-x- -a.aa=a.aa-a.af-(x-a.af)by omega]
 exact this
def not_mem{a:aI}(h:NN a){x:Int}(hx:bz a x):bz (fS (cq a) (cG a 0)) (jb (wP (x=0))):=by
 have hz:=zero_or h
 by_cases e:x=0
 ·have h0:cG a 0=wO:=fQ (e▸hx)
  rw[h0,bP e]
  cases cq a
  ·exact⟨zg _,zg _,⟨0,rfl⟩⟩
  ·exact⟨by decide,by decide,⟨1,rfl⟩⟩
 ·have h1:cq a=wO:=(gv (.inr h)).mpr ⟨x,hx,e⟩
  rw[h1,bO e]
  cases cG a 0
  ·exact⟨zg _,zg _,⟨0,rfl⟩⟩
  ·exact⟨by decide,by decide,⟨0,rfl⟩⟩
def Xm{a b:Bool}(h:(a||b)=wO):oZ (fS a b) ⟨0,1⟩:=by
 cases a<;>cases b
 ·cases h
 ·exact⟨by decide,by decide⟩
 ·exact⟨by decide,by decide⟩
 ·exact⟨by decide,by decide⟩
def Za{x lo hi:Int}(h:lo<=hi):gB x lo hi=max lo (min x hi):=by
 unfold gB
 split
 ·omega
 split<;>omega
def BD{a:aI}(ha:NN a){lo hi:Int}(h1:bY lo)(h2:bY hi)(h3:lo<=hi){x:Int}(hx:bz a x):bz (gN a lo hi) (gB x lo hi):=by
 obtain⟨_,_,_,k,hr⟩:=jf ha lo hi
 rcases hr h1 h2 h3 with ⟨e,_⟩|hr
 ·exact cQ e k.ne
 ·exact hr.mem ⟨x,hx,Za h3⟩
def Z8{a:aI}(ha:NN a){lo hi:Int}(h1:bY lo)(h2:bY hi)(h3:lo<=hi):lo<=(gN a lo hi).af/\(gN a lo hi).aa<=hi:=by
 obtain⟨_,_,_,k,hr⟩:=jf ha lo hi
 rcases hr h1 h2 h3 with ⟨e,_⟩|hr
 ·exact cQ e k.ne
 ·obtain⟨x,_,e⟩:=hr.lo
  obtain⟨y,_,e'⟩:=hr.hi
  omega
def VA(vars:List aS)(s:ax):Prop:=∀i,i<vars.length->vars[i]!.af<=s.ah[i]!.af/\s.ah[i]!.aa<=vars[i]!.aa
def VM(vals:List Int)(s:ax):Prop:=vals.length=s.ah.length/\∀i,i<vals.length->bz s.ah[i]! vals[i]!
def aaY(vars:List aS)(t:aq)(h:8<=t.bf/\t.bf<=22){r:List Span}(hr:r.length=2):dR vars t r=LR t.bf r[0]! r[1]! :=by
 obtain⟨a,b,rfl⟩:∃a b,r=[a,b]:=by
  match r,hr with
  |[a,b],_=>exact⟨a,b,rfl⟩
 obtain⟨op,n,ks⟩:=t
 obtain⟨h1,h2⟩:8<=op/\op<=22:=h
 show dR vars ⟨op,n,ks⟩ [a,b]=dR [] ⟨op,0,[]⟩ [a,b]
 rcases (show op=8\/op=9\/op=10\/op=11\/op=12\/op=13\/op=14\/op=15\/op=16\/op=17\/op=18\/op=19\/op=20\/op=21\/op=22 by omega)with rfl|rfl|rfl|rfl|rfl|rfl|rfl|rfl|rfl|rfl|rfl|rfl|rfl|rfl|rfl<;>rfl
def RU{vars:List aS}(hv:bX vars){inp:Bool}{m:Nat}{st:ax}(hst:fM vars.length m st)(hA:VA vars st):∀(n:Nat) (t:aq),SizeOf.sizeOf t<n->cU vars inp t=wO->∀s,eB vars t=V s->oZ (cC st.ah t) s/\∀vals,VM vals st->bz (cC st.ah t) (dN vals t)
 |0,_,h,_,_,_=>by omega
 |n+1,t,hsz,hf,s,hs=>by
  have hsome:(eB vars t).isSome=wO:=by rw[hs];rfl
  obtain⟨⟨g1,g2,g3⟩,h24⟩:=Ib hf
  rw[kN]at hs
  cases ha:jE (t.ak.map (eB vars))with
  |none=>rw[ha]at hs;cases hs
  |some r=>
   have hK:=qZ hv hf ha
   have hr:=jO ha
   have hl:r.length=t.ak.length:=by have:=congrArg zc hr;simpa using this.symm
   rw[ha]at hs
   dsimp only at hs
   split at hs
   case isFalse=>cases hs
   cases hs
   have K:∀i,i<t.ak.length->NN (cC st.ah t.ak[i]!)/\oZ (cC st.ah t.ak[i]!) r[i]!/\rS r[i]!/\∀vals,VM vals st->bz (cC st.ah t.ak[i]!) (dN vals t.ak[i]!):=fun i hi=>by
    have hk:=aX hi
    have hlt:=aq.dV hk
    have e:eB vars t.ak[i]! =V r[i]! :=by
     have:=congrArg (fun l=>l[i]?) hr
     simp only[zY]at this
     rw[zk hi,zk (show i<r.length by omega)]at this
     rw[getElem!_pos t.ak i hi,getElem!_pos r i (by omega)]
     simpa using this
    obtain⟨q1,q2⟩:=RU hv hst hA n _ (by omega) (j7 hf hk) _ e
    exact⟨(Ff hst n _ (by omega) (j7 hf hk) (Mp hsome _ hk)).2,q1,hK.2.2 _ (aX (by omega)),q2⟩
   have hnnt:NN (cC st.ah t):=(Ff hst (n+1) t hsz hf hsome).2
   rw[SR]at hnnt ⊢
   unfold SH at hnnt ⊢
   simp only[zK]at hnnt ⊢
   have vt:∀vals,dN vals t=tq vals t (t.ak.map (dN vals)):=fun vals=>JZ vals t
   rcases DH t.bf g1 with ⟨h,e⟩|⟨h,e⟩|⟨h,e⟩|⟨h,e⟩|⟨h,e⟩<;>rw[e]at g2 g3<;>dsimp only at g2 g3
   ·rcases h with h|h
    ·rw[bw h]
     refine⟨?_,fun vals hV=> ?_⟩
     ·unfold dR;rw[bw h];exact⟨zg _,zg _⟩
     ·rw[vt];unfold tq;rw[bw h];exact(jt _).mem rfl
    ·obtain⟨q1,q2⟩:=h24 h
     rw[jC,bw h]
     refine⟨?_,fun vals hV=> ?_⟩
     ·unfold dR;rw[jC,bw h];exact hA _ (by omega)
     ·rw[vt];unfold tq;rw[jC,bw h]
      have:=hV.1
      have:=hst.len
      exact hV.2 _ (by omega)
   ·obtain⟨k1,k2,k3,k4⟩:=K 0 (by omega)
    rw[mapA (show 0<t.ak.length by omega)]at hnnt ⊢
    rcases h with h|h
    ·simp only[h,Int.reduceEq,cz,dS]
     have en:(mI 6 (cC st.ah t.ak[0]!)).1=agn (cC st.ah t.ak[0]!):=by
      unfold mI
      rw[bF (fun k=>by rcases k with k|k;exact k (.inr k1);exact k.1 rfl),bF k1.ne,bF (by decide)]
     rw[en]
     refine⟨?_,fun vals hV=> ?_⟩
     ·unfold dR
      simp only[h,Int.reduceEq,cz,dS]
      unfold oZ at k2 ⊢
      show-_<= -(cC st.ah t.ak[0]!).aa/\ -(cC st.ah t.ak[0]!).af<= -_
      omega
     ·rw[vt];unfold tq
      simp only[h,Int.reduceEq,cz,dS]
      rw[pL (by omega)]
      exact adl k1 (k4 vals hV)
    ·simp only[h,Int.reduceEq,cz,dS]
     have en:(mI 7 (cC st.ah t.ak[0]!)).1=fS (cq (cC st.ah t.ak[0]!)) (cG (cC st.ah t.ak[0]!) 0):=by
      unfold mI
      rw[bF (fun k=>by rcases k with k|k;exact k (.inr k1);exact k.2 rfl),bF k1.ne,bw rfl]
     rw[en]
     refine⟨?_,fun vals hV=> ?_⟩
     ·unfold dR
      simp only[h,Int.reduceEq,dS,or_self]
      exact Xm (zero_or k1)
     ·rw[vt];unfold tq
      simp only[h,Int.reduceEq,cz,dS]
      rw[pL (by omega)]
      exact not_mem k1 (k4 vals hV)
   ·obtain⟨k1,k2,k3,k4⟩:=K 0 (by omega)
    obtain⟨l1,l2,l3,l4⟩:=K 1 (by omega)
    rw[jC,jC,jC,jC,jC,jC,mapA (show 0<t.ak.length by omega),mapA (show 1<t.ak.length by omega)]
    have S:=Y9 (op:=t.bf) ⟨h.1,h.2⟩ k1 l1 k3 l3 k2 l2
    refine⟨?_,fun vals hV=> ?_⟩
    ·rw[aaY vars t h (by omega)];exact S.rng
    ·rw[vt];unfold tq
     rw[jC,jC,jC,jC,jC,jC,pL (show 0<t.ak.length by omega),pL (show 1<t.ak.length by omega),<-kW ⟨h.1,h.2⟩]
     exact S.mem _ _ (k4 vals hV) (l4 vals hV)
   ·obtain⟨k1,k2,k3,k4⟩:=K 0 (by omega)
    obtain⟨l1,l2,l3,l4⟩:=K 1 (by omega)
    obtain⟨p1,p2,p3,p4⟩:=K 2 (by omega)
    rw[mapA (show 0<t.ak.length by omega),mapA (show 1<t.ak.length by omega),mapA (show 2<t.ak.length by omega)]
    simp only[h,Int.reduceEq,cz,dS]
    obtain⟨e1,e2,e3⟩:=jU (r.drop 2) r[1]!
    have hm2:r[2]!∈r.drop 2:=by
     rw[wM]
     refine⟨0,by rw[z8];omega,?_⟩
     rw[xC,getElem!_pos _ 2 (by omega)]
    have e4:=e3 _ hm2
    have er:dR vars t r=(r.drop 2).foldl dA r[1]! :=by
     unfold dR
     simp only[h,Int.reduceEq,dS,true_or,cz]
    rw[er]
    have i1:oZ (cC st.ah t.ak[1]!) ((r.drop 2).foldl dA r[1]!):=by unfold oZ at l2 ⊢;omega
    have i2:oZ (cC st.ah t.ak[2]!) ((r.drop 2).foldl dA r[1]!):=by unfold oZ at p2 ⊢;omega
    have vv:∀vals,dN vals t=if dN vals t.ak[0]!≠0 then dN vals t.ak[1]! else dN vals t.ak[2]! :=fun vals=>by
     rw[vt];unfold tq
     simp only[h,Int.reduceEq,cz,dS]
     rw[pL (show 0<t.ak.length by omega),pL (show 1<t.ak.length by omega),pL (show 2<t.ak.length by omega)]
    cases h0:cG (cC st.ah t.ak[0]!) 0 with
    |false=>
     rw[bw rfl]
     refine⟨i1,fun vals hV=> ?_⟩
     have hx:=k4 vals hV
     rw[vv,bw (fun e=>by rw[e]at hx;rw[fQ hx]at h0;cases h0)]
     exact l4 vals hV
    |true=>
     rw[bF (by decide)]
     cases h1:cq (cC st.ah t.ak[0]!)with
     |false=>
      rw[bw rfl]
      refine⟨i2,fun vals hV=> ?_⟩
      have hx:=k4 vals hV
      rw[vv,bF (fun e=>by rw[(gv (.inr k1)).mpr ⟨_,hx,e⟩]at h1;cases h1)]
      exact p4 vals hV
     |true=>
      rw[bF (by decide)]
      refine⟨Kq l1 p1 i1 i2,fun vals hV=> ?_⟩
      rw[vv]
      split
      ·exact iW (.inr l1) (.inr p1) (l4 vals hV)
      ·exact iU (.inr l1) (.inr p1) (p4 vals hV)
   ·obtain⟨k1,k2,k3,k4⟩:=K 0 (by omega)
    rw[mapA (show 0<t.ak.length by omega)]at hnnt ⊢
    simp only[h,Int.reduceEq,cz,dS]at hnnt ⊢
    have er:dR vars t r=(r.drop 2).foldl dA r[1]! :=by
     unfold dR
     simp only[h,Int.reduceEq,dS,or_true,cz]
    rw[er]
    obtain⟨e1,e2,e3⟩:=jU (r.drop 2) r[1]!
    have hd:((t.ak.map (cC st.ah)).drop 1).length=t.ak.length-1:=by simp
    have hg:∀j,j<t.ak.length-1->((t.ak.map (cC st.ah)).drop 1)[j]! =cC st.ah t.ak[1+j]! :=fun j hj=>by
     rw[getElem!_pos _ j (by omega),xC,yo,getElem!_pos t.ak (1+j) (by omega)]
    have hnk:∀j,j<((t.ak.map (cC st.ah)).drop 1).length->NN ((t.ak.map (cC st.ah)).drop 1)[j]! :=fun j hj=>by
     rw[hg j (by omega)];exact(K (1+j) (by omega)).1
    have hik:∀j,j<((t.ak.map (cC st.ah)).drop 1).length->oZ ((t.ak.map (cC st.ah)).drop 1)[j]! ((r.drop 2).foldl dA r[1]!):=fun j hj=>by
     rw[hg j (by omega)]
     have i1:=(K (1+j) (by omega)).2.1
     by_cases h0:j=0
     ·subst h0
      have i1:oZ (cC st.ah t.ak[1]!) r[1]! :=i1
      show oZ (cC st.ah t.ak[1]!) _
      unfold oZ at i1 ⊢;omega
     ·have hm:r[1+j]!∈r.drop 2:=by
       rw[wM]
       refine⟨j-1,by rw[z8];omega,?_⟩
       rw[xC,getElem!_pos _ (1+j) (by omega)]
       congr 1
       omega
      have e4:=e3 _ hm
      unfold oZ at i1 ⊢
      omega
    refine⟨?_,fun vals hV=> ?_⟩
    ·rcases RO hnk hik _ (zD _)with q|q
     ·rw[q]at hnnt;exact cQ rfl hnnt.ne
     ·exact q
    ·have hx:=BD k1 (lo:=0) (hi:=(t.ak.length:Int)-2) ⟨by decide,by decide⟩ ⟨by omega,by omega⟩ (by omega) (k4 vals hV)
     have hh:=MN (n:=dN vals t.ak[0]!) (lo:=0) (hi:=(t.ak.length:Int)-2) (by omega)
     have ev:dN vals t=dN vals t.ak[((1:Int)+gB (dN vals t.ak[0]!) 0 ((t.ak.length:Int)-2)).toNat]! :=by
      rw[vt];unfold tq
      simp only[h,Int.reduceEq,cz,dS,zK]
      rw[pL (show 0<t.ak.length by omega),pL (by omega)]
      rfl
     rw[ev]
     generalize gB (dN vals t.ak[0]!) 0 ((t.ak.length:Int)-2)=H at*
     have hj:H.toNat<t.ak.length-1:=by omega
     refine MG hnk (j:=H.toNat) ?_ ?_ _ (zD _) (by omega)
     ·rw[show ((H.toNat:Nat):Int)=H by omega];exact fQ hx
     ·rw[hg _ hj,show ((1:Int)+H).toNat=1+H.toNat by omega]
      exact(K (1+H.toNat) (by omega)).2.2.2 vals hV
def Be{a:aI}(h:NN a){c:Int}(h0:0<=c)(h2:c<=1000000000)(hu:a.aa+c<=1000000000):(iS 8 a (dL c)).af=a.af+c/\(iS 8 a (dL c)).aa=a.aa+c/\∀x,bz a x->bz (iS 8 a (dL c)) (x+c):=by
 have hl:=h.lo
 have hle:=h.le
 have hb:NN (dL c):=j9 ⟨by omega,by omega⟩
 rcases eV (op:=8) (.inl rfl) h hb (fun Q k=>lJ h hb k) (fun k=>(jI h hb).mpr ⟨cZ k (.inl rfl) (.inl rfl),cZ k (.inr (.inr rfl)) (.inr (.inr rfl))⟩)with ⟨_,e,_⟩|⟨hn,_⟩
 ·have hh:=lJ h hb (GQ h hb)
  have e':iS 8 a (dL c)=aI.mk (a.af+(dL c).af) (a.aa+(dL c).aa) (bZ a.ai (dL c).ai):=by unfold iS;rw[e]
  rw[e']
  exact⟨rfl,rfl,fun x hx=>hh.mem ⟨x,c,hx,hb.BP,rfl⟩⟩
 ·refine cQ (fun y ⟨x,z,⟨x1,x2,_⟩,⟨z1,z2,_⟩,e⟩=> ?_) hn
  have z1:c<=z:=z1
  have z2:z<=c:=z2
  have e:y=x+z:=e
  unfold bY
  omega
structure rP (vars:List aS) (s:ax) (k:Nat) (B:Int):Prop where
 ok:fM vars.length k s
 ci:CI s
 va:VA vars s
 t0:0<=s.aD.af
 t1:s.aD.aa<=B
def rP.weak{vars:List aS}{s:ax}{k k':Nat}{B B':Int}(h:rP vars s k B)(h1:k<=k')(h2:B<=B'):rP vars s k' B':=⟨h.ok.weak h1,h.ci,h.va,h.t0,by have:=h.t1;omega⟩
def vf{vars:List aS}{s:ax}{k:Nat}{B c:Int}(h:rP vars s k B)(h0:0<=c)(hB:B+c<=1000000000)(hB0:0<=B):rP vars (iF s c) k (B+c):=by
 have h1:=h.t0
 have h2:=h.t1
 obtain⟨e1,e2,_⟩:=Be h.ok.time h0 (by omega) (by omega)
 refine⟨sv h.ok ⟨by omega,by omega⟩,ae2 h.ci c,h.va,?_,?_⟩
 ·show 0<=(iS 8 s.aD (dL c)).af
  omega
 ·show (iS 8 s.aD (dL c)).aa<=_
  omega
def Q0{f:aP}(hv:bX f.ah){s:ax}(hl:s.ah.length=f.ah.length)(h:VA f.ah s){v:Int}(h1:0<=v)(h2:v<f.ah.length){x:aI}(hx:NN x):VA f.ah (KD f s v x):=fun i hi=>by
 show _<=(s.ah.set v.toNat _)[i]!.af/\(s.ah.set v.toNat _)[i]!.aa<=_
 rw[getElem!_pos (s.ah.set _ _) i (by rw[zO];omega),wg]
 split
 ·rename_i e
  subst e
  have hb:=hv _ (aX (show v.toNat<f.ah.length by omega))
  exact Z8 hx (by unfold bY;omega) (by unfold bY;omega) hb.2.1
 ·have:=h i hi
  rw[getElem!_pos s.ah i (by omega)]at this
  exact this
def Wu{vars:List aS}{k:Nat}{s t:ax}(ks:fM vars.length k s)(kt:fM vars.length k t)(h:VA vars s)(h':VA vars t):VA vars (jc s t):=fun i hi=>by
 have hl:=ks.len
 show _<=(jv _ _)[i]!.af/\(jv _ _)[i]!.aa<=_
 rw[gj (by omega),cE (ks.vars i hi) (kt.vars i hi)]
 have a:=h i hi
 have b:=h' i hi
 show _<=min s.ah[i]!.af t.ah[i]!.af/\max s.ah[i]!.aa t.ah[i]!.aa<=_
 omega
def Bn{vars:List aS}{s t:ax}{k:Nat}{B:Int}(h:rP vars s k B)(h':rP vars t k B):rP vars (jc s t) k B:=by
 have a0:=h.t0
 have a1:=h.t1
 have b0:=h'.t0
 have b1:=h'.t1
 refine⟨v8 h.ok h'.ok,YY h.ok h'.ok h.ci h'.ci,Wu h.ok h'.ok h.va h'.va,?_,?_⟩
 ·show 0<=(cn s.aD t.aD).af
  rw[cE h.ok.time h'.ok.time]
  show 0<=min s.aD.af t.aD.af
  omega
 ·show (cn s.aD t.aD).aa<=B
  rw[cE h.ok.time h'.ok.time]
  show max s.aD.aa t.aD.aa<=B
  omega
def Gk{vars:List aS}{k:Nat}{B:Int}:∀(l:List ax) (x:ax),rP vars x k B->(∀q∈l,rP vars q k B)->rP vars (l.foldl jc x) k B
 |[],_,hx,_=>hx
 |y::l,x,hx,hl=>Gk l (jc x y) (Bn hx (hl y (zi ..))) (fun q hq=>hl q (zJ _ hq))
def PI{vars:List aS}{k:Nat}{B:Int}{l:List ax}(h0:l≠[])(h:∀q∈l,rP vars q k B):rP vars (qU l) k B:=by
 cases l with
 |nil=>exact cQ rfl h0
 |cons x l=>exact Gk l x (h x (zi ..)) (fun q hq=>h q (zJ _ hq))
def Dy(vars:List aS)(a:ax->ax)(o:Nat)(u:Int):Prop:=∀s k B,rP vars s k B->0<=B->k+o<=1000000->B+u<=134217728->rP vars (a s) (k+o) (B+u)
def DG{vars:List aS}{a:ax->ax}{t:aq}{c u:Int}{o:Nat}(hc:0<=c)(hu:0<=u)(ha:Dy vars a o u):∀(N:Nat) (s:ax) (k:Nat) (B:Int),rP vars s k B->0<=B->k+N*o<=1000000->B+N*(c+u)<=134217728->∀q∈k9 a t c N s,rP vars q (k+N*o) (B+N*(c+u))
 |0,s,k,B,h,_,_,_=>by
  rw[k9]
  intro q hq
  rw[zC.1 hq]
  exact h.weak (by omega) (by simp)
 |n+1,s,k,B,h,hB,hm,hb=>by
  rw[k9]
  have en:((n+1:Nat):Int)*(c+u)=n*(c+u)+(c+u):=by rw[we,zI];simp
  have p:0<=(n:Int)*(c+u):=zq (by omega) (by omega)
  have eo:(n+1)*o=n*o+o:=by rw[yb,xM]
  rw[en]at hb ⊢
  rw[eo]at hm ⊢
  have h1:=vf h hc (by omega) hB
  intro q hq
  rcases zU.1 hq with hq|hq
  ·split at hq
   ·rw[zC.1 hq];exact h1.weak (by omega) (by omega)
   ·cases hq
  ·split at hq
   ·have h2:=ha _ _ _ h1 (by omega) (by omega) (by omega)
    have:=DG (t:=t) hc hu ha n _ (k+o) (B+c+u) h2 (by omega) (by omega) (by omega) q hq
    exact this.weak (by omega) (by omega)
   ·cases hq
def Gv{f:aP}(hv:bX f.ah){hs:List aI}(hh:hs.length=f.aj.length)(hvn:∀i,i<hs.length->NN hs[i]!){a b:ax->ax}{last:Bool}{x:au}(hx:JJ f last x)(h6:x.bN≠6)
  (p1:0<=(cA x.aH).2.1/\0<=(cA x.aH).2.2) (p2:0<=(cA x.aL).2.1/\0<=(cA x.aL).2.2)
  (oa:∀s m,fM f.ah.length m s->fM f.ah.length (m+di x.aH) (a s))
  (ha:Dy f.ah a (di x.aH) (cA x.aH).2.2) (hb:Dy f.ah b (di x.aL) (cA x.aL).2.2)
  {s:ax} {k:Nat} {B:Int} (h:rP f.ah s k B) (hB0:0<=B) (hm:k+(uO x).1.toNat<=1000000) (hB:B+(uO x).2<=134217728):rP f.ah (sZ f hs a b x s) (k+(uO x).1.toNat) (B+(uO x).2):=by
 have hc:=hx.cost
 have hvl:=iO h.ok x.az hx.term
 revert hm hB
 unfold sZ uO
 by_cases a4:x.bN=4
 ·simp only[a4,Int.reduceEq,cz,dS]
  intro hm hB
  have hn:=hx.n4 a4
  have e:(x.fN*(cA x.aH).2.1).toNat=x.fN.toNat*di x.aH:=by rw[di,Int.toNat_mul hn.1 p1.1]
  have e2:x.fN*(x.aQ+(cA x.aH).2.2)=(x.fN.toNat:Int)*(x.aQ+(cA x.aH).2.2):=by rw[show ((x.fN.toNat:Nat):Int)=x.fN by omega]
  rw[e]at hm ⊢
  rw[e2]at hB ⊢
  obtain⟨_,i2⟩:=Cm (vG hx) hx.term oa x.fN.toNat s k h.ok
  exact PI i2 (DG hc.1 p1.2 ha x.fN.toNat s k B h hB0 hm hB)
 have add:B+x.aQ<=134217728->rP f.ah (iF s x.aQ) k (B+x.aQ):=fun hB=>vf h hc.1 (by omega) hB0
 by_cases a0:x.bN=0
 ·simp only[a0,Int.reduceEq,cz,dS]
  intro hm hB
  obtain⟨v1,v2⟩:=hx.var (.inl a0)
  have h1:=add hB
  exact⟨CY h1.ok hvl,Q5 h1.ci _ _,Q0 hv h1.ok.len h1.va v1 v2 hvl,h1.t0,h1.t1⟩
 by_cases a1:x.bN=1
 ·simp only[a1,Int.reduceEq,cz,dS]
  intro hm hB
  have h1:=add hB
  exact⟨RR h1.ok hvl,adZ h1.ok h1.ci (by omega) _,h1.va,h1.t0,h1.t1⟩
 by_cases a5:x.bN=5
 ·simp only[a5,Int.reduceEq,cz,dS]
  intro hm hB
  obtain⟨v1,v2⟩:=hx.var (.inr a5)
  obtain⟨n1,n2⟩:=hx.n5 a5
  have h1:=add hB
  have hn:=hvn x.fN.toNat (by omega)
  exact⟨CY h1.ok hn,Q5 h1.ci _ _,Q0 hv h1.ok.len h1.va v1 v2 hn,h1.t0,h1.t1⟩
 by_cases a3:x.bN=3
 ·simp only[a3,Int.reduceEq,cz,dS]
  intro hm hB
  have h1:=add (by omega)
  have m1:k+di x.aH<=1000000:=by unfold di;omega
  have m2:k+di x.aL<=1000000:=by unfold di;omega
  have w1:di x.aH<=(max (cA x.aH).2.1 (cA x.aL).2.1).toNat:=by unfold di;omega
  have w2:di x.aL<=(max (cA x.aH).2.1 (cA x.aL).2.1).toNat:=by unfold di;omega
  have q1:B+x.aQ+(cA x.aH).2.2<=134217728:=by omega
  have q2:B+x.aQ+(cA x.aL).2.2<=134217728:=by omega
  have i1:=fun(_:Unit)=>(ha _ _ _ h1 (by omega) m1 q1).weak (show k+di x.aH<=k+(max (cA x.aH).2.1 (cA x.aL).2.1).toNat by omega) (show B+x.aQ+(cA x.aH).2.2<=B+(x.aQ+max (cA x.aH).2.2 (cA x.aL).2.2)by omega)
  have i2:=fun(_:Unit)=>(hb _ _ _ h1 (by omega) m2 q2).weak (show k+di x.aL<=k+(max (cA x.aH).2.1 (cA x.aL).2.1).toNat by omega) (show B+x.aQ+(cA x.aL).2.2<=B+(x.aQ+max (cA x.aH).2.2 (cA x.aL).2.2)by omega)
  unfold brA
  split
  ·exact i1 ()
  split
  ·exact i2 ()
  ·exact Bn (i1 ()) (i2 ())
 ·simp only[a0,a1,a3,a4,a5,h6,dS]
  intro hm hB
  exact add hB
def Zc{f:aP}{last:Bool}{x:au}(ho:JJ f last x)(p1:0<=(cA x.aH).2.1/\0<=(cA x.aH).2.2)(p2:0<=(cA x.aL).2.1/\0<=(cA x.aL).2.2):0<=(uO x).1/\0<=(uO x).2:=by
 have hc:=ho.cost
 unfold uO
 by_cases a1:x.bN=1
 ·rw[bw a1];exact⟨by show (0:Int)<=1;decide,hc.1⟩
 by_cases a3:x.bN=3
 ·rw[bF a1,bw a3];dsimp only;omega
 by_cases a4:x.bN=4
 ·rw[bF a1,bF a3,bw a4]
  have hn:=ho.n4 a4
  exact⟨zq hn.1 p1.1,zq hn.1 (by omega)⟩
 ·rw[bF a1,bF a3,bF a4];exact⟨zg _,hc.1⟩
def qD{f:aP}(hv:bX f.ah){hs:List aI}(hh:hs.length=f.aj.length)(hvn:∀i,i<hs.length->NN hs[i]!):∀(n:Nat) (l:List au),SizeOf.sizeOf l<n->b9 f wN l=0->Dy f.ah (jJ f hs l) (di l) (cA l).2.2
 |0,_,h,_=>by omega
 |n+1,[],_,_=>fun s k B h _ _ _=>by rw[pS,cA];exact h.weak (by omega) (by simp)
 |n+1,x::l,hn,hc=>fun s k B h hB0 hm hB=>by
  obtain⟨h1,h2,h3,h4⟩:=dP hc
  have ho:=kI h1
  have hsz:=aV (zi (a:=x) (l:=l))
  have ht:=dh x l
  have h6:x.bN≠6:=fun h=>by have:=(ho.BY h).1;simp at this
  have p1:=dJ f n x.aH wN (by omega) h2
  have p2:=dJ f n x.aL wN (by omega) h3
  have p3:=dJ f n l wN (by omega) h4
  have pu:=(Zc ho p1 p2).2
  rw[sj hc]at hm ⊢
  rw[(hU x l).2]at hB ⊢
  rw[rK]
  have i1:=Gv hv hh hvn ho h6 p1 p2 (jx hh hvn n x.aH wN (by omega) h2) (qD hv hh hvn n x.aH (by omega) h2) (qD hv hh hvn n x.aL (by omega) h3) h hB0 (by omega) (by omega)
  exact(qD hv hh hvn n l (by omega) h4 _ _ _ i1 (by omega) (by omega) (by omega)).weak (by omega) (by omega)
structure RS (c:CS) (s:ax):Prop where
 vm:VM c.vals s
 cnt:bz s.aA c.outs.length
 sl:c.outs.length<=s.aC.length
 outs:∀i,i<c.outs.length->bz s.aC[i]! c.outs[i]!
 time:bz s.aD c.time
def R7{vars:List aS}{s:ax}{k:Nat}{B d:Int}{c:CS}(h:RS c s)(i:rP vars s k B)(h0:0<=d)(hB0:0<=B)(hB:B+d<=1000000000):RS (c.add d) (iF s d):=by
 have h1:=i.t1
 exact⟨h.vm,h.cnt,h.sl,h.outs,(Be i.ok.time h0 (by omega) (by omega)).2.2 _ h.time⟩
def QJ{f:aP}(hv:bX f.ah){s:ax}{k:Nat}{c:CS}(h:RS c s)(ok:fM f.ah.length k s){v:Int}(h1:0<=v)(h2:v<f.ah.length){x:aI}(hx:NN x){n:Int}(hn:bz x n):RS (amm f c v n) (KD f s v x):=by
 have hl:=ok.len
 obtain⟨v1,v2⟩:=h.vm
 have hb:=hv _ (aX (show v.toNat<f.ah.length by omega))
 refine⟨⟨?_,fun i hi=> ?_⟩,h.cnt,h.sl,h.outs,h.time⟩
 ·show (c.vals.set _ _).length=(s.ah.set _ _).length
  rw[zO,zO];exact v1
 ·have hi:i<(c.vals.set v.toNat (gB n f.ah[v.toNat]!.af f.ah[v.toNat]!.aa)).length:=hi
  rw[zO]at hi
  show bz (s.ah.set v.toNat _)[i]! (c.vals.set v.toNat _)[i]!
  rw[getElem!_pos (s.ah.set _ _) i (by rw[zO];omega),getElem!_pos (c.vals.set _ _) i (by rw[zO];omega),wg,wg]
  by_cases e:v.toNat=i
  ·rw[bw e,bw e]
   exact BD hx (by unfold bY;omega) (by unfold bY;omega) hb.2.1 hn
  ·rw[bF e,bF e]
   have:=v2 i hi
   rw[getElem!_pos s.ah i (by omega),getElem!_pos c.vals i hi]at this
   exact this
def agU{n m:Nat}{s:ax}{c:CS}(h:RS c s)(k:fM n m s)(ci:CI s)(hm:m<=1000000){x:aI}(hx:NN x){y:Int}(hy:bz x y):RS ⟨c.vals,c.outs++[y],c.time⟩ (FM s x):=by
 have hs:=k.sl
 have hh:=ci.hi
 have hsl:=h.sl
 obtain⟨_,_,e3⟩:=Be k.count (c:=1) (by decide) (by decide) (by omega)
 have hlen:(FM s x).aC.length=s.aC.length+1:=by simp[FM,eC]
 refine⟨h.vm,?_,?_,fun i hi=> ?_,h.time⟩
 ·show bz (iS 8 s.aA (dL 1)) _
  have:=e3 _ h.cnt
  rw[zh,yG]
  exact this
 ·show (c.outs++[y]).length<=(FM s x).aC.length
  rw[hlen,zh,yG];omega
 ·have hi:i<(c.outs++[y]).length:=hi
  rw[zh,yG]at hi
  show bz (jv s.aC.length (fun k=>if cG s.aA k=wO then cn s.aC[k]! x else s.aC[k]!)++[x])[i]! (c.outs++[y])[i]!
  have hlt:=eC s.aC.length (fun k=>if cG s.aA k=wO then cn s.aC[k]! x else s.aC[k]!)
  have hg:∀j,j<s.aC.length->(jv s.aC.length (fun k=>if cG s.aA k=wO then cn s.aC[k]! x else s.aC[k]!))[j]! =if cG s.aA (j:Nat)=wO then cn s.aC[j]! x else s.aC[j]! :=fun j hj=>gj hj
  generalize jv s.aC.length (fun k=>if cG s.aA k=wO then cn s.aC[k]! x else s.aC[k]!)=T at*
  by_cases e:i<s.aC.length
  ·rw[getElem!_pos (T++[x]) i (by rw[zh];omega),xB (by omega),<-getElem!_pos T i (by omega),hg i e]
   by_cases ec:i<c.outs.length
   ·rw[getElem!_pos (c.outs++[y]) i (by rw[zh];omega),xB ec,<-getElem!_pos c.outs i ec]
    have:=h.outs i ec
    split
    ·exact iW (.inr (k.slots i e)) (.inr hx) this
    ·exact this
   ·have ei:i=c.outs.length:=by omega
    subst ei
    rw[getElem!_pos (c.outs++[y]) _ (by simp),xg (zD _)]
    rw[bw (fQ h.cnt)]
    simp only[xF,List.getElem_cons_zero]
    exact iU (.inr (k.slots _ e)) (.inr hx) hy
  ·have ei:i=c.outs.length:=by omega
   have e2:i=s.aC.length:=by omega
   rw[getElem!_pos (T++[x]) i (by rw[zh,yG];omega),xg (by omega),getElem!_pos (c.outs++[y]) i (by rw[zh,yG];omega),xg (by omega)]
   simpa using hy
def Gx{vars:List aS}{s t:ax}{k:Nat}{B:Int}{c:CS}(i:rP vars s k B)(j:rP vars t k B)(h:RS c s):RS c (jc s t):=by
 have l1:=i.ok.len
 obtain⟨v1,v2⟩:=h.vm
 have hs:=h.sl
 refine⟨⟨?_,fun q hq=> ?_⟩,iW (.inr i.ok.count) (.inr j.ok.count) h.cnt,?_,fun q hq=> ?_,iW (.inr i.ok.time) (.inr j.ok.time) h.time⟩
 ·show c.vals.length=(jv _ _).length;rw[eC];exact v1
 ·show bz (jv _ _)[q]! _
  rw[gj (by omega)]
  exact iW (.inr (i.ok.vars q (by omega))) (.inr (j.ok.vars q (by omega))) (v2 q hq)
 ·show c.outs.length<=(jv _ _).length;rw[eC];omega
 ·show bz (jv _ _)[q]! _
  rw[gj (by omega)]
  unfold WO
  rw[jC]
  split
  ·exact h.outs q hq
  ·exact iW (.inr (i.ok.slots q (by omega))) (.inr (j.ok.slots q (by omega))) (h.outs q hq)
def FV{vars:List aS}{s t:ax}{k:Nat}{B:Int}{c:CS}(i:rP vars s k B)(j:rP vars t k B)(h:RS c t):RS c (jc s t):=by
 have l1:=i.ok.len
 have l2:=j.ok.len
 obtain⟨v1,v2⟩:=h.vm
 have hs:=h.sl
 refine⟨⟨?_,fun q hq=> ?_⟩,iU (.inr i.ok.count) (.inr j.ok.count) h.cnt,?_,fun q hq=> ?_,iU (.inr i.ok.time) (.inr j.ok.time) h.time⟩
 ·show c.vals.length=(jv _ _).length;rw[eC];omega
 ·show bz (jv _ _)[q]! _
  rw[gj (by omega)]
  exact iU (.inr (i.ok.vars q (by omega))) (.inr (j.ok.vars q (by omega))) (v2 q hq)
 ·show c.outs.length<=(jv _ _).length;rw[eC];omega
 ·show bz (jv _ _)[q]! _
  rw[gj (by omega)]
  unfold WO
  split
  ·exact h.outs q hq
  ·rw[jC]
   exact iU (.inr (i.ok.slots q (by omega))) (.inr (j.ok.slots q (by omega))) (h.outs q hq)
def LZ{vars:List aS}{k:Nat}{B:Int}{c:CS}:∀(l:List ax) (x:ax),rP vars x k B->(∀q∈l,rP vars q k B)->(RS c x\/∃q∈l,RS c q)->RS c (l.foldl jc x)
 |[],x,_,_,h=>by
  rcases h with h|⟨q,hq,_⟩
  ·exact h
  ·cases hq
 |y::l,x,ix,il,h=>by
  have iy:=il y (zi ..)
  refine LZ l (jc x y) (Bn ix iy) (fun q hq=>il q (zJ _ hq)) ?_
  rcases h with h|⟨q,hq,h⟩
  ·exact .inl (Gx ix iy h)
  ·rcases zy.1 hq with rfl|hq
   ·exact .inl (FV ix iy h)
   ·exact .inr ⟨q,hq,h⟩
def Vl{vars:List aS}{k:Nat}{B:Int}{c:CS}{l:List ax}(h:∀q∈l,rP vars q k B){q:ax}(hq:q∈l)(hr:RS c q):RS c (qU l):=by
 cases l with
 |nil=>cases hq
 |cons x l=>
  refine LZ l x (h x (zi ..)) (fun q hq=>h q (zJ _ hq)) ?_
  rcases zy.1 hq with rfl|hq
  ·exact .inl hr
  ·exact .inr ⟨q,hq,hr⟩
def acr(vars:List aS)(a:ax->ax)(ca:CS->CS)(o:Nat)(u:Int):Prop:=∀c s k B,rP vars s k B->0<=B->k+o<=1000000->B+u<=134217728->RS c s->RS (ca c) (a s)
def M8{vars:List aS}(hv:bX vars){inp:Bool}{s:ax}{k:Nat}{B:Int}{c:CS}(i:rP vars s k B)(h:RS c s){t:aq}(ht:eH vars inp t=0):bz (cC s.ah t) (dN c.vals t):=by
 obtain⟨hf,hs⟩:=vM ht
 obtain⟨sp,e⟩:=Option.isSome_iff_exists.1 hs
 exact(RU hv i.ok i.va _ t (zw _) hf sp e).2 _ h.vm
def QO{vars:List aS}(hv:bX vars){a:ax->ax}{ca:CS->CS}{t:aq}{c u:Int}{o:Nat}(ht:eH vars wN t=0)(hc:0<=c)(hu:0<=u)(ha:Dy vars a o u)(hr:acr vars a ca o u):∀(N:Nat) (x:CS) (s:ax) (k:Nat) (B:Int),rP vars s k B->0<=B->k+N*o<=1000000->B+N*(c+u)<=134217728->RS x s->∃q∈k9 a t c N s,RS (pe ca t c N x) q
 |0,x,s,k,B,_,_,_,_,h=>⟨s,by rw[k9];exact zC.2 rfl,by rw[pe];exact h⟩
 |n+1,x,s,k,B,i,hB,hm,hb,h=>by
  have en:((n+1:Nat):Int)*(c+u)=n*(c+u)+(c+u):=by rw[we,zI];simp
  have p:0<=(n:Int)*(c+u):=zq (by omega) (by omega)
  have eo:(n+1)*o=n*o+o:=by rw[yb,xM]
  rw[en]at hb
  rw[eo]at hm
  have i1:=vf i hc (by omega) hB
  have r1:=R7 h i hc hB (by omega)
  have hx:=M8 hv i h ht
  rw[k9,pe]
  by_cases hz:dN x.vals t=0
  ·rw[bw hz]
   rw[hz]at hx
   exact⟨iF s c,yA _ (by rw[bw (fQ hx)];exact zC.2 rfl),r1⟩
  ·rw[bF hz]
   have ho:cq (cC s.ah t)=wO:=(gv (.inr (iO i.ok t ht))).mpr ⟨_,hx,hz⟩
   have i2:=ha _ _ _ i1 (by omega) (by omega) (by omega)
   have r2:=hr _ _ _ _ i1 (by omega) (by omega) (by omega) r1
   obtain⟨q,hq,hqr⟩:=QO hv ht hc hu ha hr n (ca (x.add c)) (a (iF s c)) (k+o) (B+c+u) i2 (by omega) (by omega) (by omega) r2
   exact⟨q,yB _ (by rw[bw ho];exact hq),hqr⟩
def Gd:∀(l:List Int) (t:Int),DA l t=lR l t
 |[],_=>rfl
 |b::l,t=>by rw[DA,lR,Gd l t]
def Zw{f:aP}(hv:bX f.ah){hs:List aI}{hc:List Int}(hh:hs.length=f.aj.length)(hvn:∀i,i<hs.length->NN hs[i]!)(hm:∀i,i<hs.length->bz hs[i]! hc[i]!){a b:ax->ax}{ca cb:CS->CS}{last:Bool}{x:au}(hx:JJ f last x)
  (p1:0<=(cA x.aH).2.1/\0<=(cA x.aH).2.2) (p2:0<=(cA x.aL).2.1/\0<=(cA x.aL).2.2)
  (ka:Dy f.ah a (di x.aH) (cA x.aH).2.2) (kb:Dy f.ah b (di x.aL) (cA x.aL).2.2)
  (ra:acr f.ah a ca (di x.aH) (cA x.aH).2.2) (rb:acr f.ah b cb (di x.aL) (cA x.aL).2.2)
  {c:CS} {s:ax} {k:Nat} {B:Int} (i:rP f.ah s k B) (hB0:0<=B) (hk:k+(uO x).1.toNat<=1000000) (hB:B+(uO x).2<=134217728) (h:RS c s):RS (sY f hc ca cb x c) (sZ f hs a b x s):=by
 have hcost:=hx.cost
 have hvl:=iO i.ok x.az hx.term
 have hval:=M8 hv i h hx.term
 revert hk hB
 unfold sZ sY uO
 by_cases a4:x.bN=4
 ·simp only[a4,Int.reduceEq,cz,dS]
  intro hk hB
  have hn:=hx.n4 a4
  have e:(x.fN*(cA x.aH).2.1).toNat=x.fN.toNat*di x.aH:=by rw[di,Int.toNat_mul hn.1 p1.1]
  have e2:x.fN*(x.aQ+(cA x.aH).2.2)=(x.fN.toNat:Int)*(x.aQ+(cA x.aH).2.2):=by rw[show ((x.fN.toNat:Nat):Int)=x.fN by omega]
  rw[e]at hk
  rw[e2]at hB
  obtain⟨q,hq,hqr⟩:=QO hv hx.term hcost.1 p1.2 ka ra x.fN.toNat c s k B i hB0 hk hB h
  exact Vl (DG hcost.1 p1.2 ka x.fN.toNat s k B i hB0 hk hB) hq hqr
 have addi:B+x.aQ<=134217728->rP f.ah (iF s x.aQ) k (B+x.aQ):=fun hB=>vf i hcost.1 (by omega) hB0
 have addr:B+x.aQ<=134217728->RS (c.add x.aQ) (iF s x.aQ):=fun hB=>R7 h i hcost.1 hB0 (by omega)
 by_cases a0:x.bN=0
 ·simp only[a0,Int.reduceEq,cz,dS]
  intro hk hB
  obtain⟨v1,v2⟩:=hx.var (.inl a0)
  exact QJ hv (addr hB) (addi hB).ok v1 v2 hvl hval
 by_cases a1:x.bN=1
 ·simp only[a1,Int.reduceEq,cz,dS]
  intro hk hB
  exact agU (addr hB) (addi hB).ok (addi hB).ci (by omega) hvl hval
 by_cases a5:x.bN=5
 ·simp only[a5,Int.reduceEq,cz,dS]
  intro hk hB
  obtain⟨v1,v2⟩:=hx.var (.inr a5)
  obtain⟨n1,n2⟩:=hx.n5 a5
  exact QJ hv (addr hB) (addi hB).ok v1 v2 (hvn x.fN.toNat (by omega)) (hm x.fN.toNat (by omega))
 by_cases a3:x.bN=3
 ·simp only[a3,Int.reduceEq,cz,dS]
  intro hk hB
  have i1:=addi (by omega)
  have r1:=addr (by omega)
  have m1:k+di x.aH<=1000000:=by unfold di;omega
  have m2:k+di x.aL<=1000000:=by unfold di;omega
  have q1:B+x.aQ+(cA x.aH).2.2<=134217728:=by omega
  have q2:B+x.aQ+(cA x.aL).2.2<=134217728:=by omega
  unfold brA
  by_cases hz:dN c.vals x.az=0
  ·rw[bF (show ¬dN c.vals x.az≠0 from fun e=>e hz)]
   rw[hz]at hval
   rw[fQ hval,bF (by decide)]
   split
   ·exact rb _ _ _ _ i1 (by omega) m2 q2 r1
   ·exact FV ((ka _ _ _ i1 (by omega) m1 q1).weak (show k+di x.aH<=k+max (di x.aH) (di x.aL)by omega) (show B+x.aQ+(cA x.aH).2.2<=B+x.aQ+max (cA x.aH).2.2 (cA x.aL).2.2 by omega)) ((kb _ _ _ i1 (by omega) m2 q2).weak (show k+di x.aL<=k+max (di x.aH) (di x.aL)by omega) (show B+x.aQ+(cA x.aL).2.2<=B+x.aQ+max (cA x.aH).2.2 (cA x.aL).2.2 by omega)) (rb _ _ _ _ i1 (by omega) m2 q2 r1)
  ·rw[bw (show dN c.vals x.az≠0 from hz)]
   have ho:cq (cC s.ah x.az)=wO:=(gv (.inr hvl)).mpr ⟨_,hval,hz⟩
   split
   ·exact ra _ _ _ _ i1 (by omega) m1 q1 r1
   ·rw[ho,bF (by decide)]
    exact Gx ((ka _ _ _ i1 (by omega) m1 q1).weak (show k+di x.aH<=k+max (di x.aH) (di x.aL)by omega) (show B+x.aQ+(cA x.aH).2.2<=B+x.aQ+max (cA x.aH).2.2 (cA x.aL).2.2 by omega)) ((kb _ _ _ i1 (by omega) m2 q2).weak (show k+di x.aL<=k+max (di x.aH) (di x.aL)by omega) (show B+x.aQ+(cA x.aL).2.2<=B+x.aQ+max (cA x.aH).2.2 (cA x.aL).2.2 by omega)) (ra _ _ _ _ i1 (by omega) m1 q1 r1)
 by_cases a6:x.bN=6
 ·simp only[a6,Int.reduceEq,cz,dS]
  intro hk hB
  obtain⟨_,q2,q3,q4,q5⟩:=hx.BY a6
  have r1:=addr hB
  have i1:=addi hB
  refine⟨h.vm,h.cnt,h.sl,h.outs,?_⟩
  obtain⟨_,_,kn,hr⟩:=tR (a:=iS 8 s.aD (dL x.aQ)) i1.ok.time q4 (by omega) (J2 q2 q3 q4 q5)
  rcases hr with ⟨e,_⟩|hr
  ·exact cQ e kn.ne
  ·exact hr.mem ⟨c.time+x.aQ,r1.time,(Gd _ _).symm⟩
 ·simp only[a0,a1,a3,a4,a5,a6,dS]
  intro hk hB
  exact addr hB
def C0{f:aP}(hv:bX f.ah){hs:List aI}{hc:List Int}(hh:hs.length=f.aj.length)(hvn:∀i,i<hs.length->NN hs[i]!)(hm:∀i,i<hs.length->bz hs[i]! hc[i]!):∀(n:Nat) (l:List au) (top:Bool),SizeOf.sizeOf l<n->b9 f top l=0->acr f.ah (jJ f hs l) (iX f hc l) (di l) (cA l).2.2
 |0,_,_,h,_=>by omega
 |n+1,[],_,_,_=>fun c s k B _ _ _ _ h=>by rw[pS,vZ];exact h
 |n+1,x::l,top,hn,hst=>fun c s k B i hB0 hk hB h=>by
  obtain⟨h1,h2,h3,h4⟩:=dP hst
  have ho:=kI h1
  have hsz:=aV (zi (a:=x) (l:=l))
  have ht:=dh x l
  have p1:=dJ f n x.aH wN (by omega) h2
  have p2:=dJ f n x.aL wN (by omega) h3
  have p3:=dJ f n l top (by omega) h4
  have pu:=(Zc ho p1 p2).2
  rw[sj hst]at hk
  rw[(hU x l).2]at hB
  rw[rK,Ap]
  have kT:=qD hv hh hvn n x.aH (by omega) h2
  have kE:=qD hv hh hvn n x.aL (by omega) h3
  have r1:=Zw hv hh hvn hm ho p1 p2 kT kE (C0 hv hh hvn hm n x.aH wN (by omega) h2) (C0 hv hh hvn hm n x.aL wN (by omega) h3) i hB0 (by omega) (by omega) h
  by_cases a6:x.bN=6
  ·have hl:=(ho.BY a6).1
   have hnil:l=[]:=by
    cases l with
    |nil=>rfl
    |cons y l=>simp at hl
   subst hnil
   rw[pS,vZ]
   exact r1
  ·have i1:=Gv hv hh hvn ho a6 p1 p2 (jx hh hvn n x.aH wN (by omega) h2) kT kE i hB0 (by omega) (by omega)
   exact C0 hv hh hvn hm n l top (by omega) h4 _ _ _ _ i1 (by omega) (by omega) (by omega) r1
def rD{vars:List aS}{k:Int}{i:Nat}(hi:i<vars.length)(hk:vars[i]!.bk=k):(vars.filter (kd k))[cg vars k i]! =vars[i]! :=by
 have hlt:=fD hi hk
 obtain⟨j,h1,h2,h3,h4⟩:=Rn vars k vars.length (zD _) (cg vars k i) hlt
 rw[zM]at h4
 have e:j=i:=by
  rcases Nat.lt_trichotomy j i with h|h|h
  ·have c:=fA h1 k
   rw[bw h2]at c
   have:=kZ (vars:=vars) (k:=k) (show j+1<=i by omega) (by omega)
   omega
  ·exact h
  ·have c:=fA hi k
   rw[bw hk]at c
   have:=kZ (vars:=vars) (k:=k) (show i+1<=j by omega) (by omega)
   omega
 rw[h4,e]
def Rm{vars:List aS}{i:Nat}(hi:i<vars.length)(hk:vars[i]!.bk=1):(fq vars)[cg vars 1 i]! =vars[i]! :=by
 have hlt:=fD hi hk
 rw[gz]at hlt
 rw[<-rD hi hk]
 unfold fq
 rw[getElem!_pos _ _ (by rw[zh];omega),xB hlt,getElem!_pos (vars.filter (kd 1)) _ hlt]
def QZ{vars:List aS}{i:Nat}(hi:i<vars.length)(hk:vars[i]!.bk=3):(fq vars)[cg vars 1 vars.length+cg vars 3 i]! =vars[i]! :=by
 have hlt:=fD hi hk
 rw[gz]at hlt
 rw[<-rD hi hk]
 unfold fq
 rw[gz,getElem!_pos _ _ (by rw[zh];omega),xg (by omega),getElem!_pos (vars.filter (kd 3)) _ hlt]
 congr 1
 omega
structure o5 (f:aP) (v:cD) (box:List aI) (inp:cR):Prop where
 s:inp.eO.length=cg f.ah 1 f.ah.length
 r:inp.fk.length=cg f.ah 3 f.ah.length
 p:inp.aW=v.aW
 b:∀j,j<box.length->bz box[j]! (inp.eO++inp.fk)[j]!
def o5.sec{f:aP}{v:cD}{box:List aI}{inp:cR}(h:o5 f v box inp)(hf:Fits f v box){j:Nat}(hj:j<inp.eO.length):bz box[j]! inp.eO[j]! :=by
 have hb:=hf.bl
 rw[oq]at hb
 have h1:=h.s
 have:=h.b j (by omega)
 rw[getElem!_pos (inp.eO++inp.fk) j (by rw[zh];omega),xB hj,<-getElem!_pos inp.eO j hj]at this
 exact this
def o5.cO{f:aP}{v:cD}{box:List aI}{inp:cR}(h:o5 f v box inp)(hf:Fits f v box){j:Nat}(hj:j<inp.fk.length):bz box[cg f.ah 1 f.ah.length+j]! inp.fk[j]! :=by
 have hb:=hf.bl
 rw[oq]at hb
 have h1:=h.s
 have h3:=h.r
 have:=h.b (cg f.ah 1 f.ah.length+j) (by omega)
 rw[getElem!_pos (inp.eO++inp.fk) (cg f.ah 1 f.ah.length+j) (by rw[zh];omega),xg (by omega)]at this
 rw[getElem!_pos inp.fk j hj]
 have e:cg f.ah 1 f.ah.length+j-inp.eO.length=j:=by omega
 simp only[e]at this
 exact this
def o5.start{f:aP}{v:cD}{box:List aI}{inp:cR}(h:o5 f v box inp)(hf:Fits f v box):uP f.ah inp:=by
 have hb:=hf.bl
 rw[oq]at hb
 have hp:=hf.pub
 rw[<-gz]at hp
 refine⟨h.s,by rw[h.p];exact hp,h.r,fun i hi=> ?_⟩
 unfold iG
 have h1:=h.s
 have h3:=h.r
 by_cases k1:f.ah[i]!.bk=1
 ·rw[bw k1]
  have hlt:=fD hi k1
  have m:=h.sec hf (show cg f.ah 1 i<inp.eO.length by omega)
  have q:=(hf.bx (cg f.ah 1 i) (by omega)).2
  rw[Rm hi k1]at q
  have m1:=m.1
  have m2:=m.2.1
  omega
 rw[bF k1]
 by_cases k2:f.ah[i]!.bk=2
 ·rw[bw k2,h.p]
  have hlt:=fD hi k2
  have q:=hf.XL (cg f.ah 2 i) (by omega)
  rw[rD hi k2]at q
  exact q
 rw[bF k2]
 by_cases k3:f.ah[i]!.bk=3
 ·rw[bw k3]
  have hlt:=fD hi k3
  have m:=h.cO hf (show cg f.ah 3 i<inp.fk.length by omega)
  have q:=(hf.bx (cg f.ah 1 f.ah.length+cg f.ah 3 i) (by omega)).2
  rw[QZ hi k3]at q
  have m1:=m.1
  have m2:=m.2.1
  omega
 rw[bF k3]
 obtain⟨q1,q2⟩:=DP hf.c hi
 exact q2 (by omega)
def Wh{f:aP}{v:cD}{box:List aI}(hf:Fits f v box):VA f.ah (gU f v box):=fun i hi=>by
 have hb:=hf.bl
 rw[oq]at hb
 have hp:=hf.pub
 rw[<-gz]at hp
 show _<=(jv _ _)[i]!.af/\(jv _ _)[i]!.aa<=_
 rw[gj hi]
 unfold iw
 by_cases k1:f.ah[i]!.bk=1
 ·rw[bw k1]
  have hlt:=fD hi k1
  have q:=(hf.bx (cg f.ah 1 i) (by omega)).2
  rw[Rm hi k1]at q
  exact q
 rw[bF k1]
 by_cases k2:f.ah[i]!.bk=2
 ·rw[bw k2]
  have hlt:=fD hi k2
  have q:=hf.XL (cg f.ah 2 i) (by omega)
  rw[rD hi k2]at q
  exact q
 rw[bF k2]
 by_cases k3:f.ah[i]!.bk=3
 ·rw[bw k3]
  have hlt:=fD hi k3
  have q:=(hf.bx (cg f.ah 1 f.ah.length+cg f.ah 3 i) (by omega)).2
  rw[QZ hi k3]at q
  exact q
 rw[bF k3]
 obtain⟨q1,q2⟩:=DP hf.c hi
 exact q2 (by omega)
def Ul{f:aP}{v:cD}{box:List aI}(hf:Fits f v box):rP f.ah (gU f v box) 0 0:=⟨rH hf,XW f v box,Wh hf,zg _,zg _⟩
def Ww{f:aP}{v:cD}{box:List aI}{inp:cR}(hf:Fits f v box)(h:o5 f v box inp):RS ⟨fR f.ah inp,[],0⟩ (gU f v box):=by
 have hb:=hf.bl
 rw[oq]at hb
 have h1:=h.s
 have h3:=h.r
 refine⟨⟨?_,fun i hi=> ?_⟩,(jt 0).mem rfl,zD _,fun i hi=>cQ hi (by simp),(jt 0).mem rfl⟩
 ·show (fR f.ah inp).length=(jv _ _).length
  rw[eC];simp[fR]
 ·have hi:i<f.ah.length:=by simpa [fR]using hi
  have e:(fR f.ah inp)[i]! =iG f.ah inp i:=by
   unfold fR
   rw[getElem!_pos _ i (by simpa using hi),yo,wz]
  show bz (jv _ _)[i]! (fR f.ah inp)[i]!
  rw[gj hi,e]
  unfold iw iG
  by_cases k1:f.ah[i]!.bk=1
  ·rw[bw k1,bw k1]
   have hlt:=fD hi k1
   exact h.sec hf (by omega)
  rw[bF k1,bF k1]
  by_cases k2:f.ah[i]!.bk=2
  ·rw[bw k2,bw k2,h.p]
   exact(jt _).mem rfl
  rw[bF k2,bF k2]
  by_cases k3:f.ah[i]!.bk=3
  ·rw[bw k3,bw k3]
   have hlt:=fD hi k3
   exact h.cO hf (by omega)
  rw[bF k3,bF k3]
  exact(jt _).mem rfl
def amw{f:aP}{v:cD}{box:List aI}{inp:cR}(hf:Fits f v box)(h:o5 f v box inp):RS (FE f inp) (I9 f v box):=by
 have hc:=IZ hf.c
 have h0:=rH hf
 have i0:=Ul hf
 have r0:=Ww hf h
 have ho:di f.bJ<=8:=by have:=hc.o;unfold di;omega
 have ht:=hc.t
 refine C0 hc.vars (hs:=sE f (gU f v box)) (hc:=UP f (fR f.ah inp)) (by simp[sE]) (I8 hc h0) (fun i hi=> ?_) _ f.bJ wO (zw _) hc.steps _ _ 0 0 i0 (zg _) (by omega) (by omega) r0
 have hi:i<f.aj.length:=by simpa [sE]using hi
 unfold sE UP
 rw[getElem!_pos _ i (by simpa using hi),getElem!_pos _ i (by simpa using hi),yo,yo,<-getElem!_pos f.aj i hi]
 obtain⟨q1,q2⟩:=hc.hat i hi
 have m:=M8 hc.vars i0 r0 q2
 exact BD (iO h0 _ q2) (by unfold bY;omega) (by unfold bY;omega) q1.2.1 m
end Go.Proofs.YtnfljbehcffmcaaGreat
end
