/- Merged: Ht, Ng6, Ng7, Iy1, Iy2, Opd, Qf. -/
import Derived.Test.YtnfljbehcffmcaaGreatM6AbstractCovers
import Derived.Test.YtnfljbehcffmcaaGreatM2AbstractCovers
import Derived.Test.YtnfljbehcffmcaaGreatM5AbstractCovers
import Derived.Deep.Slices
import Derived.Lib.SmallJoins
import Derived.OpenShut
open Int renaming toNat_natCast → za, mul_le_mul_of_nonneg_right → zG, one_mul → zR, toNat → yC, mul_one → y8, natAbs_tmod → xK, tmod_nonneg → wv
open Nat renaming beq → zb, lt_succ_self → zw, le_trans → zx, add_zero → yf, zero_add → yq, not_lt_zero → yD, mod_lt → yP
open List renaming length → zc, length_append → zh, getElem?_eq_getElem → zk, all_eq_true → zo, range → zH, length_map → zK, mem_map → zL, take_length → zM, length_set → zO, drop_drop → zP, map_congr_left → zV, getElem?_eq_some_iff → zX, mem_filter → z6, map_append → yc, nil_append → yg, map_cons → yh, append_nil → yj, length_filter_le → yp, append_assoc → yQ, map_nil → y5, take_append_drop → xe, drop_of_length_le → xo, mem_of_mem_drop → xW, getElem_set → wg
open Bool renaming and_eq_true → zf, true → wO, false → wN
open Option renaming bind_eq_some_iff → zm, some → V, none → O
open Decidable renaming decide → wP
open Go.Proofs.Tryz renaming prog → wQ
open Go.Proofs.Tryz
set_option linter.unusedSectionVars false
set_option linter.unusedVariables false
set_option linter.unusedSimpArgs false
set_option linter.defProp false
noncomputable section
set_option maxRecDepth 100000
namespace Go.Proofs.YtnfljbehcffmcaaGreat
open Go Go.Iv
open Go.IntKind (i64 u64)
def F94:aK:=(alP (e89 dg))
structure EL where
 (t2 t8:Int)
 t10:List aS
 t11:List Int
 t12:Int
def Yl:Td 0 EL:= .c [] [2,8,10,11,12] (.r 0 2 (ec 2 aM (ec 8 aM (ec 10 (qo 0) (ec 11 (qo 1) (ec 12 aM en))))) (sr 0 131 (sr 1 3 sn)) (fun z=>⟨z.1.1,z.1.2.1,z.2.1,z.2.2.1,z.1.2.2.2.2.1⟩) (fun x=>((x.t2,x.t8,(),(),x.t12,()),(x.t10,x.t11,()))))
def Ss(p:EL):Option (Option EL):=
 bif wP (p.t12<p.t10.length)then if 0<=p.t12/\p.t12<p.t10.length then if 131=131/\p.t12.toNat<p.t10.length then if 0<=p.t12/\p.t12<p.t10.length then if 131=131/\p.t12.toNat<p.t10.length then if¬i64.wrap (i64.wrap (p.t10[p.t12.toNat]!.aa-p.t10[p.t12.toNat]!.af)+1)=0then if 0<=p.t12/\p.t12<p.t10.length then if 131=131/\p.t12.toNat<p.t10.length then if¬i64.wrap (p.t8.tdiv (i64.wrap (i64.wrap (p.t10[p.t12.toNat]!.aa-p.t10[p.t12.toNat]!.af)+1)))=0then if¬i64.wrap (i64.wrap (p.t10[p.t12.toNat]!.aa-p.t10[p.t12.toNat]!.af)+1)=0then if(p.t11++[i64.wrap (p.t10[p.t12.toNat]!.af+(i64.wrap (p.t2.tdiv (i64.wrap (p.t8.tdiv (i64.wrap (i64.wrap (p.t10[p.t12.toNat]!.aa-p.t10[p.t12.toNat]!.af)+1)))))).tmod (i64.wrap (i64.wrap (p.t10[p.t12.toNat]!.aa-p.t10[p.t12.toNat]!.af)+1)))]).length<=1073741824 then V (V (EL.mk p.t2 (i64.wrap (p.t8.tdiv (i64.wrap (i64.wrap (p.t10[p.t12.toNat]!.aa-p.t10[p.t12.toNat]!.af)+1)))) p.t10 (p.t11++[i64.wrap (p.t10[p.t12.toNat]!.af+(i64.wrap (p.t2.tdiv (i64.wrap (p.t8.tdiv (i64.wrap (i64.wrap (p.t10[p.t12.toNat]!.aa-p.t10[p.t12.toNat]!.af)+1)))))).tmod (i64.wrap (i64.wrap (p.t10[p.t12.toNat]!.aa-p.t10[p.t12.toNat]!.af)+1)))]) (i64.wrap (p.t12+1))))else O else O else O else O else O else O else O else O else O else O else V (O)
def RJ:EL->Option EL:=bI (Ss)
abbrev E94:Type:=(List Int)×Int
def d94:Td 0 E94:= .c [] [6,7] (.t (cj.s 6 [] 3) (.c [] [6,7] (.r 0 1 (ec 6 (qo 0) (ec 7 aM en)) (sr 0 3 sn) (fun z=>(z.2.1,z.1.2.1)) (fun x=>(((),x.2,()),(x.1,()))))))
def azb:∀f∈([]:List Nat),bh (F94) f:=aB
def m94(a0:List aS)(a1:Int)(a2:Int):Option E94:=
 match m89 a0 a1 with|O=>O|V r1=>bif bif wP (r1.snd=0)then wN else wO then V ([],r1.snd)else match bif wP (a2<0)then V wO else V (wP (r1.fst<=a2))with|O=>O|V r2=>bif r2 then V ([],3)else match XK a0 a1 with|O=>O|V r3=>match RJ (EL.mk a2 r1.fst r3 [] (0))with|O=>O|V r4=>bif wP (r4.t12<r4.t10.length)then if 0<=r4.t12/\r4.t12<r4.t10.length then if 131=131/\r4.t12.toNat<r4.t10.length then if 0<=r4.t12/\r4.t12<r4.t10.length then if 131=131/\r4.t12.toNat<r4.t10.length then if¬i64.wrap (i64.wrap (r4.t10[r4.t12.toNat]!.aa-r4.t10[r4.t12.toNat]!.af)+1)=0then if 0<=r4.t12/\r4.t12<r4.t10.length then if 131=131/\r4.t12.toNat<r4.t10.length then if¬i64.wrap (r4.t8.tdiv (i64.wrap (i64.wrap (r4.t10[r4.t12.toNat]!.aa-r4.t10[r4.t12.toNat]!.af)+1)))=0then if¬i64.wrap (i64.wrap (r4.t10[r4.t12.toNat]!.aa-r4.t10[r4.t12.toNat]!.af)+1)=0then if(r4.t11++[i64.wrap (r4.t10[r4.t12.toNat]!.af+(i64.wrap (r4.t2.tdiv (i64.wrap (r4.t8.tdiv (i64.wrap (i64.wrap (r4.t10[r4.t12.toNat]!.aa-r4.t10[r4.t12.toNat]!.af)+1)))))).tmod (i64.wrap (i64.wrap (r4.t10[r4.t12.toNat]!.aa-r4.t10[r4.t12.toNat]!.af)+1)))]).length<=1073741824 then O else O else O else O else O else O else O else O else O else O else O else V (r4.t11,0)
def e94:aK->aK:=eL wQ 94 wN (lc (ql 131) (aN (aN ln))) d94 (fun g=>m94 g.1 g.2.1 g.2.2.1)
def alZ:EO e94:=fun h=>kL (F:=F94) (an:=(noTwo (noTwo (noTwo (.two (.two (.rb [] 29) .no) (noTwo (noTwo (.two (noTwo (Yl.lp RJ .no)) .no)))))))) (l:=[(.skip,(.rb [] 29)),(bg f94 0,(Yl.lp RJ .no))]) func94 (Tq (Zb aR)) (ay azb (ay (aO Yl) aB)) h
def F27:aK:=(e94 (e35 (e32 dg)))
def anC:bq wQ F27:=(alZ (X8 (Bj aR)))
structure DE where
 t2:List aI
 (t12 t14 t51:List Int)
 (t52 t53:Int)
 b0:cD
 b1:cR
def Z3:Td 0 DE:= .c [] [2,6,10,12,14,51,52,53] (.r 0 5 (ec 2 (ql 34) (ec 6 (qp 0 0) (ec 10 (qp 1 0) (ec 12 (qo 2) (ec 14 (qo 3) (ec 51 (qo 4) (ec 52 aM (ec 53 aM en)))))))) (sb 0 29 (lg 29) (sb 1 52 (lc qn (lc qn (lc qn ln))) (sr 2 3 (sr 3 3 (sr 4 3 sn))))) (fun z=>⟨z.1.1,z.2.2.2.1,z.2.2.2.2.1,z.2.2.2.2.2.1,z.1.2.2.2.2.2.2.1,z.1.2.2.2.2.2.2.2.1,z.2.1,(cR.mk [] [] [])⟩) (fun x=>((x.t2,(),(),(),(),(),x.t52,x.t53,()),(x.b0,((),(),(),()),x.t12,x.t14,x.t51,()))))
def LJ(p:DE):Option (Option DE):=
 bif wP (p.t53<p.t52)then if 0<=p.t53/\p.t53<p.t51.length then if 3=3/\p.t53.toNat<p.t51.length then if 0<=p.t53/\p.t53<p.t2.length then match m32 p.t2[p.t53.toNat]! p.t51[p.t53.toNat]! with|O=>O|V r1=>bif bif r1 then wN else wO then V (O)else V (V (DE.mk p.t2 p.t12 p.t14 p.t51 p.t52 (i64.wrap (p.t53+1)) p.b0 (cR.mk [] [] [])))else O else O else O else V (O)
def Rz:DE->Option DE:=bI (LJ)
abbrev E27:Type:=cR×Bool
def d27:Td 0 E27:= .c [] [10,11] (.t (cj.c 0 0 [] 3) (.t (cj.c 0 2 [] 3) (.c [] [10,11] (.r 0 3 (ec 10 (qp 0 0) (ec 11 qb en)) (sb 0 52 (lc (qo 1) (lc (ql 3) (lc (qo 2) ln))) (sr 1 3 (sr 2 3 sn))) (fun z=>((cR.mk z.2.2.1 z.2.1.2.1 z.2.2.2.1),z.1.2.1)) (fun x=>(((),x.2,()),(((),x.1.aW,(),()),x.1.eO,x.1.fk,())))))))
def A27:=(lc (qg 26) (lc (qg 29) (lc (ql 34) (aN (aN ln)))))
def aqB:An:=(noTwo (noTwo (noTwo (noTwo (.two (.two (.rb [] 49) .no) (.two (noTwo (Z3.lp Rz .no)) .no))))))
def ax2:∀f∈([]:List Nat),bh (F27) f:=aB
def axh:eG wQ (F27) 0 300 27 (aqB):=bV (l:=[(.skip,(.rb [] 49)),(bg f27 0,(Z3.lp Rz .no))]) func27 (bG (by kernel_rfl)) (by kernel_rfl) (ay ax2 (ay (aO Z3) aB))
def m27(a0:aP)(a1:cD)(a2:List aI)(a3:Int)(a4:Int):Option E27:=
 match m94 a0.ah 1 a3 with|O=>O|V r2=>match m94 a0.ah 3 a4 with|O=>O|V r3=>match m35 r2.fst with|O=>O|V r4=>if(r4++r3.fst).length<=1073741824 then match bif bif wP (r2.snd=0)then wN else wO then V wO else bif bif wP (r3.snd=0)then wN else wO then V wO else V (bif wP ((↑(r4++r3.fst).length:Int)=(↑a2.length:Int))then wN else wO)with|O=>O|V r5=>bif r5 then V (cR.mk [] [] [],wN)else match Rz (DE.mk a2 r2.fst r3.fst (r4++r3.fst) (↑(r4++r3.fst).length:Int) 0 a1 (cR.mk [] [] []))with|O=>O|V r6=>bif wP (r6.t53<r6.t52)then if 0<=r6.t53/\r6.t53<r6.t51.length then if 3=3/\r6.t53.toNat<r6.t51.length then if 0<=r6.t53/\r6.t53<r6.t2.length then match m32 r6.t2[r6.t53.toNat]! r6.t51[r6.t53.toNat]! with|O=>O|V r7=>bif bif r7 then wN else wO then V (cR.mk [] [] [],wN)else O else O else O else O else V (cR.mk r6.t12 r6.b0.aW r6.t14,wO)else O
def c27(a0:aP)(a1:cD)(a2:List aI)(a3:Int)(a4:Int):bU wQ (F27) 300 (aqB) 27 (A27.c (a0,a1,a2,a3,a4,())) [] 0 d27.rd=m27 a0 a1 a2 a3 a4:=by kernel_rfl
def e27:aK->aK:=eZ wQ 27 A27 d27 (fun g=>m27 g.1 g.2.1 g.2.2.1 g.2.2.2.1 g.2.2.2.2.1)
def ak4{F:aK}(h:bq wQ F):bq wQ (e27 F):=jj (dG anC axh (fun _=>by kernel_rfl) (fun _=>by kernel_rfl) fun g=>c27 g.1 g.2.1 g.2.2.1 g.2.2.2.1 g.2.2.2.2.1) ⟨_,func27,by kernel_rfl,by kernel_rfl⟩ (fun _=>by kernel_rfl) h
def D9{F:aK}{f:Nat}(hne:zb f 27=wN)(h:bh F f):bh (e27 F) f:=qF hne h
structure Ab where
 t3:List aI
 t5:Int
 t10:List Int
 (t11 t12:Int)
 t17:List aS
 (t18 t19:Int)
 b0:aP
def VW:Td 0 Ab:= .c [] [1,3,5,10,11,12,17,18,19] (.r 0 3 (ec 1 (qp 0 0) (ec 3 (qo 1) (ec 5 aM (ec 10 (qo 2) (ec 11 aM (ec 12 aM (ec 17 (ql 131) (ec 18 aM (ec 19 aM en))))))))) (sb 0 26 (lg 26) (sr 1 34 (sr 2 129 sn))) (fun z=>⟨z.2.2.1,z.1.2.2.1,z.2.2.2.1,z.1.2.2.2.2.1,z.1.2.2.2.2.2.1,z.1.2.2.2.2.2.2.1,z.1.2.2.2.2.2.2.2.1,z.1.2.2.2.2.2.2.2.2.1,z.2.1⟩) (fun x=>(((),(),x.t5,(),x.t11,x.t12,x.t17,x.t18,x.t19,()),(x.b0,x.t3,x.t10,()))))
def S3(p:Ab):Option (Option Ab):=
 bif wP (p.t19<p.t18)then if 0<=p.t19/\p.t19<p.t17.length then bif wP (p.t17[p.t19.toNat]!.bk=p.t5)then match iQ p.t17[p.t19.toNat]!.af p.t17[p.t19.toNat]!.aa 1with|O=>O|V r3=>if(p.t3++[r3.fst]).length<=1073741824 then V (V (Ab.mk (p.t3++[r3.fst]) p.t5 p.t10 p.t11 p.t12 p.t17 p.t18 (i64.wrap (p.t19+1)) p.b0))else O else V (V (Ab.mk p.t3 p.t5 p.t10 p.t11 p.t12 p.t17 p.t18 (i64.wrap (p.t19+1)) p.b0))else O else V (O)
def K1:Ab->Option Ab:=bI (S3)
structure Fu where
 t3:List aI
 t10:List Int
 (t11 t12:Int)
 b0:aP
def Yn:Td 0 Fu:= .c [] [1,3,10,11,12] (.t (cj.s 3 [] 34) (.c [] [1,3,10,11,12] (.r 0 3 (ec 1 (qp 0 0) (ec 3 (qo 1) (ec 10 (qo 2) (ec 11 aM (ec 12 aM en))))) (sb 0 26 (lg 26) (sr 1 34 (sr 2 129 sn))) (fun z=>⟨z.2.2.1,z.2.2.2.1,z.1.2.2.2.1,z.1.2.2.2.2.1,z.2.1⟩) (fun x=>(((),(),(),x.t11,x.t12,()),(x.b0,x.t3,x.t10,()))))))
def Sf(p:Fu):Option (Option Fu):=
 bif wP (p.t12<p.t11)then if 0<=p.t12/\p.t12<p.t10.length then if 129=129/\p.t12.toNat<p.t10.length then match K1 (Ab.mk p.t3 p.t10[p.t12.toNat]! p.t10 p.t11 p.t12 p.b0.ah p.b0.ah.length 0 p.b0)with|O=>O|V r1=>bif wP (r1.t19<r1.t18)then if 0<=r1.t19/\r1.t19<r1.t17.length then bif wP (r1.t17[r1.t19.toNat]!.bk=r1.t5)then match iQ r1.t17[r1.t19.toNat]!.af r1.t17[r1.t19.toNat]!.aa 1with|O=>O|V r2=>if(r1.t3++[r2.fst]).length<=1073741824 then O else O else O else O else V (V (Fu.mk r1.t3 r1.t10 r1.t11 (i64.wrap (r1.t12+1)) r1.b0))else O else O else V (O)
def ah8:An:=(noTwo (noTwo (.two (noTwo (noTwo (VW.lp K1 .no))) .no)))
def Gt:Fu->Option Fu:=bI (Sf)
abbrev E39:Type:=List aI
def d39:Td 0 E39:= .c [] [2] (.r 0 1 (ec 2 (qo 0) en) (sr 0 34 sn) (fun z=>z.2.1) (fun x=>(((),()),(x,()))))
def m39(a0:aP):Option E39:=
 match Gt (Fu.mk [] [1,3] (↑2:Int) 0 a0)with|O=>O|V r4=>bif wP (r4.t12<r4.t11)then if 0<=r4.t12/\r4.t12<r4.t10.length then if 129=129/\r4.t12.toNat<r4.t10.length then match K1 (Ab.mk r4.t3 r4.t10[r4.t12.toNat]! r4.t10 r4.t11 r4.t12 r4.b0.ah r4.b0.ah.length 0 r4.b0)with|O=>O|V r5=>bif wP (r5.t19<r5.t18)then if 0<=r5.t19/\r5.t19<r5.t17.length then bif wP (r5.t17[r5.t19.toNat]!.bk=r5.t5)then match iQ r5.t17[r5.t19.toNat]!.af r5.t17[r5.t19.toNat]!.aa 1with|O=>O|V r6=>if(r5.t3++[r6.fst]).length<=1073741824 then O else O else O else O else O else O else O else V (r4.t3)
def e39:aK->aK:=eL wQ 39 wN (lc (qg 26) ln) d39 (fun g=>m39 g.1)
def aoL:EO e39:=fun h=>kL (an:=(noTwo (noTwo (.two (noTwo (Yn.lp Gt ah8)) .no)))) (l:=[(bg f39 0,(Yn.lp Gt ah8)),(bg f39 1,(VW.lp K1 .no))]) func39 (Cu aR) (ay (aO Yn) (ay (aO VW) aB)) h
def D7{F:aK}{f:Nat}(hne:zb f 39=wN)(h:bh F f):bh (e39 F) f:=vq hne h
def F30:aK:=(e92 dg)
structure C6 where
 t32:List Int
 (t33 t34:Int)
 b0:bM
def YK:Td 0 C6:= .c [] [2,32,33,34] (.r 0 1 (ec 2 (qp 0 0) (ec 32 (ql 3) (ec 33 aM (ec 34 aM en)))) (sb 0 36 (lg 36) sn) (fun z=>⟨z.1.2.1,z.1.2.2.1,z.1.2.2.2.1,z.2.1⟩) (fun x=>(((),x.t32,x.t33,x.t34,()),(x.b0,()))))
def Sa(p:C6):Option (Option C6):=
 bif wP (p.t34<p.t33)then if 0<=p.t34/\p.t34<p.t32.length then if 0<=p.t34/\p.t34<p.b0.aC.length then match UO p.b0.aC[p.t34.toNat]! p.t32[p.t34.toNat]! with|O=>O|V r1=>bif bif r1 then wN else wO then V (O)else V (V (C6.mk p.t32 p.t33 (i64.wrap (p.t34+1)) p.b0))else O else O else V (O)
def R4:C6->Option C6:=bI (Sa)
abbrev E30:Type:=Bool
def d30:Td 0 E30:= .c [] [4] (.r 0 0 (ec 4 qb en) sn (fun z=>z.1.1) (fun x=>((x,()),(()))))
def ay4:∀f∈([92]:List Nat),bh (F30) f:=(ay (VV bB) aB)
def Uz(a0:bM)(a1:bt):Option E30:=
 match bif wP ((↑a0.aC.length:Int)<(↑a1.aZ.length:Int))then V wO else match UO a0.aA a1.aZ.length with|O=>O|V r2=>bif bif r2 then wN else wO then V wO else match UO a0.aD a1.aD with|O=>O|V r3=>V (bif r3 then wN else wO)with|O=>O|V r4=>bif r4 then V wN else match R4 (C6.mk a1.aZ a1.aZ.length 0 a0)with|O=>O|V r5=>bif wP (r5.t34<r5.t33)then if 0<=r5.t34/\r5.t34<r5.t32.length then if 0<=r5.t34/\r5.t34<r5.b0.aC.length then match UO r5.b0.aC[r5.t34.toNat]! r5.t32[r5.t34.toNat]! with|O=>O|V r6=>bif bif r6 then wN else wO then V wN else O else O else O else V wO
def e30:aK->aK:=eL wQ 30 wN (lc (qg 36) (lc (qg 47) ln)) d30 (fun g=>Uz g.1 g.2.1)
def anh:EO e30:=fun h=>kL (F:=F30) (an:=(noTwo (noTwo (.two (.two (.rb [92] 30) .no) (.two (noTwo (YK.lp R4 .no)) .no))))) (l:=[(.skip,(.rb [92] 30)),(bg f30 0,(YK.lp R4 .no))]) func30 (Ho aR) (ay ay4 (ay (aO YK) aB)) h
def Ez:EP e30:=fun h=>kP h
def F44:aK:=(e28 dg)
def anD:bq wQ F44:=(amS aR)
abbrev E44:Type:=bt×Int
def d44:Td 0 E44:= .c [] [4,5] (.r 0 1 (ec 4 (qp 0 0) (ec 5 aM en)) (sb 0 47 (lg 47) sn) (fun z=>(z.2.1,z.1.2.1)) (fun x=>(((),x.2,()),(x.1,()))))
def A44:=(lc (qg 26) (lc (qg 52) ln))
def avH:An:= .no
def axG:eG wQ (F44) 0 300 44 (avH):=bV (l:=[]) func44 (bG (by kernel_rfl)) (by kernel_rfl) aB
def m44(a0:aP)(a1:cR):Option E44:=
 match m28 a0 a1 with|O=>O|V r1=>bif bif wP (r1.snd=0)then wN else wO then V ((bt.mk [] (0),r1.snd))else V ((bt.mk r1.fst.aZ r1.fst.aD,0))
def c44(a0:aP)(a1:cR):bU wQ (F44) 300 (avH) 44 (A44.c (a0,a1,())) [] 0 d44.rd=m44 a0 a1:=by kernel_rfl
def e44:aK->aK:=eZ wQ 44 A44 d44 (fun g=>m44 g.1 g.2.1)
def al1{F:aK}(h:bq wQ F):bq wQ (e44 F):=jj (dG anD axG (fun _=>by kernel_rfl) (fun _=>by kernel_rfl) fun g=>c44 g.1 g.2.1) ⟨_,func44,by kernel_rfl,by kernel_rfl⟩ (fun _=>by kernel_rfl) h
def Da{F:aK}{f:Nat}(hne:zb f 44=wN)(h:bh F f):bh (e44 F) f:=qF hne h
def F7:aK:=(e44 (e43 (e42 (e41 (e40 (e39 (e30 (e29 (e27 (e24 (e21 (e20 (e18 dg)))))))))))))
def aql:bq wQ F7:=(al1 (mQ (Jm (Pj (ZV (aoL (anh (ak6 (ak4 (WM (NK (Jz (Jr alV aR)))))))))))))
structure J1 where
 (t7 t9:List aI)
 (t15 t109 t112:Int)
 b0:aP
 b1:cD
 (b2 b3:bM)
def an1:Td 0 J1:= .c [] [3,4,7,9,11,13,15,109,112] (.r 0 4 (ec 3 (qp 0 0) (ec 4 (qp 1 0) (ec 7 (ql 34) (ec 9 (ql 34) (ec 11 (qp 2 0) (ec 13 (qp 3 0) (ec 15 aM (ec 109 aM (ec 112 aM en))))))))) (sb 0 26 (lg 26) (sb 1 29 (lg 29) (sb 2 36 (lg 36) (sb 3 36 (lg 36) sn)))) (fun z=>⟨z.1.2.2.1,z.1.2.2.2.1,z.1.2.2.2.2.2.2.1,z.1.2.2.2.2.2.2.2.1,z.1.2.2.2.2.2.2.2.2.1,z.2.1,z.2.2.1,z.2.2.2.1,z.2.2.2.2.1⟩) (fun x=>(((),(),x.t7,x.t9,(),(),x.t15,x.t109,x.t112,()),(x.b0,x.b1,x.b2,x.b3,()))))
def Vs(p:J1):Option (Option J1):=
 bif wP (p.t112<4)then match m27 p.b0 p.b1 p.t7 p.t15 p.t112 with|O=>O|V r9=>bif bif r9.snd then wN else wO then V (V (J1.mk p.t7 p.t9 p.t15 p.t109 (i64.wrap (p.t112+1)) p.b0 p.b1 p.b2 p.b3))else match m44 p.b0 r9.fst with|O=>O|V r10=>match m27 p.b0 p.b1 p.t9 p.t15 p.t112 with|O=>O|V r11=>match bif r11.snd then match Uz p.b2 (MQ r10.fst p.b1.fK)with|O=>O|V r12=>bif bif r12 then wN else wO then V (wO)else bif bif r11.snd then wN else wO then match Uz p.b3 (MQ r10.fst p.b1.fK)with|O=>O|V r13=>V (bif r13 then wN else wO)else V (wN)else bif bif r11.snd then wN else wO then match Uz p.b3 (MQ r10.fst p.b1.fK)with|O=>O|V r14=>V (bif r14 then wN else wO)else V (wN)with|O=>O|V r15=>bif r15 then V (O)else V (V (J1.mk p.t7 p.t9 p.t15 p.t109 (i64.wrap (p.t112+1)) p.b0 p.b1 p.b2 p.b3))else V (O)
def aqz:An:=(noTwo (noTwo (.two (noTwo (noTwo (noTwo (noTwo (noTwo (noTwo (.two (.rb [21,30,43] 161) .no))))))) .no)))
def XI:J1->Option J1:=bI (Vs)
structure NQ where
 (t7 t9:List aI)
 t109:Int
 b0:aP
 b1:cD
 (b2 b3:bM)
def akz:Td 0 NQ:= .c [] [3,4,7,9,11,13,109] (.t (cj.fs 7 []) (.c [] [3,4,7,9,11,13,109] (.r 0 4 (ec 3 (qp 0 0) (ec 4 (qp 1 0) (ec 7 (ql 34) (ec 9 (ql 34) (ec 11 (qp 2 0) (ec 13 (qp 3 0) (ec 109 aM en))))))) (sb 0 26 (lg 26) (sb 1 29 (lg 29) (sb 2 36 (lg 36) (sb 3 36 (lg 36) sn)))) (fun z=>⟨z.1.2.2.1,z.1.2.2.2.1,z.1.2.2.2.2.2.2.1,z.2.1,z.2.2.1,z.2.2.2.1,z.2.2.2.2.1⟩) (fun x=>(((),(),x.t7,x.t9,(),(),x.t109,()),(x.b0,x.b1,x.b2,x.b3,()))))))
def aaV(p:NQ):Option (Option NQ):=
 bif wP (p.t109<16)then match XI (J1.mk p.t7 p.t9 p.t109 p.t109 (0) p.b0 p.b1 p.b2 p.b3)with|O=>O|V r1=>bif wP (r1.t112<4)then match m27 r1.b0 r1.b1 r1.t7 r1.t15 r1.t112 with|O=>O|V r2=>bif bif r2.snd then wN else wO then O else match m44 r1.b0 r2.fst with|O=>O|V r3=>match m27 r1.b0 r1.b1 r1.t9 r1.t15 r1.t112 with|O=>O|V r4=>match bif r4.snd then match Uz r1.b2 (MQ r3.fst r1.b1.fK)with|O=>O|V r5=>bif bif r5 then wN else wO then V (wO)else bif bif r4.snd then wN else wO then match Uz r1.b3 (MQ r3.fst r1.b1.fK)with|O=>O|V r6=>V (bif r6 then wN else wO)else V (wN)else bif bif r4.snd then wN else wO then match Uz r1.b3 (MQ r3.fst r1.b1.fK)with|O=>O|V r7=>V (bif r7 then wN else wO)else V (wN)with|O=>O|V r8=>bif r8 then V (O)else O else V (V (NQ.mk r1.t7 r1.t9 (i64.wrap (r1.t109+1)) r1.b0 r1.b1 r1.b2 r1.b3))else V (O)
def ap9:An:=(noTwo (noTwo (.two (noTwo (noTwo (an1.lp XI aqz))) .no)))
def aaL:NQ->Option NQ:=bI (aaV)
abbrev E7:Type:=Bool
def d7:Td 0 E7:= .c [] [6] (.r 0 0 (ec 6 qb en) sn (fun z=>z.1.1) (fun x=>((x,()),(()))))
def A7:=(lc (qg 26) (lc (qg 29) (lc (qa (aN (aN ln))) ln)))
def an7:An:=(noTwo (noTwo (noTwo (noTwo (.two (.two (.rb [21,30,43] 39) .no) (noTwo (noTwo (noTwo (.two (.two (.rb [21,30,43] 88) .no) (noTwo (noTwo (.two (.two (.rb [21,30,43] 108) .no) (.two (noTwo (akz.lp aaL ap9)) .no)))))))))))))
def pu7:∀f∈([21,30,43]:List Nat),bh (F7) f:=(ay (Da (f:=21) rfl (iE (lB (lP (ER (f:=21) rfl (D7 (f:=21) rfl (Ez (DL (f:=21) rfl (D9 (f:=21) rfl (nq (qT (Ac (f:=21) rfl (pF bB))))))))))))) (ay (Da (f:=30) rfl (iE (lB (lP (ER (f:=30) rfl (D7 (f:=30) rfl (Ez (DL (f:=30) rfl (D9 (f:=30) rfl (nq (qT (Ac (f:=30) rfl (pF bB))))))))))))) (ay (Da (f:=43) rfl (iE (lB (lP (ER (f:=43) rfl (D7 (f:=43) rfl (Ez (DL (f:=43) rfl (D9 (f:=43) rfl (nq (qT (Ac (f:=43) rfl (pF bB))))))))))))) aB)))
def fa7:eG wQ (F7) 0 300 7 (an7):=bV (l:=[(.skip,(.rb [21,30,43] 39)),(.skip,(.rb [21,30,43] 88)),(.skip,(.rb [21,30,43] 108)),(bg f7 0,(akz.lp aaL ap9)),(bg f7 1,(an1.lp XI aqz)),(.skip,(.rb [21,30,43] 161))]) func7 (bG (by kernel_rfl)) (by kernel_rfl) (ay pu7 (ay pu7 (ay pu7 (ay (aO akz) (ay (aO an1) (ay pu7 aB))))))
def m7(a0:aP)(a1:cD)(a2_0:Int)(a2_1:Int):Option E7:=
 bif bif m18 then wN else wO then V wN else match m24 a0 16 4096 4with|O=>O|V r16=>bif bif r16 then wN else wO then V wO else match m39 a0 with|O=>O|V r17=>match match m21 a0 a1 r17 with|O=>O|V r18=>bif bif wP (r18=0)then wN else wO then V wO else V (wP ((↑(zc r17):Int)=0))with|O=>O|V r19=>bif r19 then V wO else if¬(↑(zc r17):Int)=(0:Int)then if¬(↑(zc r17):Int)=(0:Int)then match m40 r17 with|O=>O|V r20=>match m40 r17 with|O=>O|V r21=>if(0:Int)<=(i64.wrap (a2_0.tmod (↑(zc r17):Int)+(↑(zc r17):Int))).tmod (↑(zc r17):Int)/\(i64.wrap (a2_0.tmod (↑(zc r17):Int)+(↑(zc r17):Int))).tmod (↑(zc r17):Int)<(↑(zc r17):Int)then if 34=34/\((i64.wrap (a2_0.tmod (↑(zc r17):Int)+(↑(zc r17):Int))).tmod (↑(zc r17):Int)).toNat<zc r17 then match m41 r17[((i64.wrap (a2_0.tmod (↑(zc r17):Int)+(↑(zc r17):Int))).tmod (↑(zc r17):Int)).toNat]! a2_1 with|O=>O|V r22=>if(0:Int)<=(i64.wrap (a2_0.tmod (↑(zc r17):Int)+(↑(zc r17):Int))).tmod (↑(zc r17):Int)/\(i64.wrap (a2_0.tmod (↑(zc r17):Int)+(↑(zc r17):Int))).tmod (↑(zc r17):Int)<(↑(zc r17):Int)then if 34=34/\((i64.wrap (a2_0.tmod (↑(zc r17):Int)+(↑(zc r17):Int))).tmod (↑(zc r17):Int)).toNat<zc r17 then match Rf r17[((i64.wrap (a2_0.tmod (↑(zc r17):Int)+(↑(zc r17):Int))).tmod (↑(zc r17):Int)).toNat]! a2_1 with|O=>O|V r23=>if(0:Int)<=(i64.wrap (a2_0.tmod (↑(zc r17):Int)+(↑(zc r17):Int))).tmod (↑(zc r17):Int)/\(i64.wrap (a2_0.tmod (↑(zc r17):Int)+(↑(zc r17):Int))).tmod (↑(zc r17):Int)<(↑(zc r20):Int)then if 34=34/\((i64.wrap (a2_0.tmod (↑(zc r17):Int)+(↑(zc r17):Int))).tmod (↑(zc r17):Int)).toNat<zc r20 then if(0:Int)<=(i64.wrap (a2_0.tmod (↑(zc r17):Int)+(↑(zc r17):Int))).tmod (↑(zc r17):Int)/\(i64.wrap (a2_0.tmod (↑(zc r17):Int)+(↑(zc r17):Int))).tmod (↑(zc r17):Int)<(↑(zc r21):Int)then if 34=34/\((i64.wrap (a2_0.tmod (↑(zc r17):Int)+(↑(zc r17):Int))).tmod (↑(zc r17):Int)).toNat<zc r21 then match if(0:Int)<=(i64.wrap (a2_0.tmod (↑(zc r17):Int)+(↑(zc r17):Int))).tmod (↑(zc r17):Int)/\(i64.wrap (a2_0.tmod (↑(zc r17):Int)+(↑(zc r17):Int))).tmod (↑(zc r17):Int)<(↑(List.set r20 ((i64.wrap (a2_0.tmod (↑(zc r17):Int)+(↑(zc r17):Int))).tmod (↑(zc r17):Int)).toNat r22).length:Int)then if 34=34/\((i64.wrap (a2_0.tmod (↑(zc r17):Int)+(↑(zc r17):Int))).tmod (↑(zc r17):Int)).toNat<(List.set r20 ((i64.wrap (a2_0.tmod (↑(zc r17):Int)+(↑(zc r17):Int))).tmod (↑(zc r17):Int)).toNat r22).length then match pJ (List.set r20 ((i64.wrap (a2_0.tmod (↑(zc r17):Int)+(↑(zc r17):Int))).tmod (↑(zc r17):Int)).toNat r22)[((i64.wrap (a2_0.tmod (↑(zc r17):Int)+(↑(zc r17):Int))).tmod (↑(zc r17):Int)).toNat]! with|O=>O|V r24=>bif wP (r24=0)then V wO else if(0:Int)<=(i64.wrap (a2_0.tmod (↑(zc r17):Int)+(↑(zc r17):Int))).tmod (↑(zc r17):Int)/\(i64.wrap (a2_0.tmod (↑(zc r17):Int)+(↑(zc r17):Int))).tmod (↑(zc r17):Int)<(↑(List.set r21 ((i64.wrap (a2_0.tmod (↑(zc r17):Int)+(↑(zc r17):Int))).tmod (↑(zc r17):Int)).toNat r23).length:Int)then if 34=34/\((i64.wrap (a2_0.tmod (↑(zc r17):Int)+(↑(zc r17):Int))).tmod (↑(zc r17):Int)).toNat<(List.set r21 ((i64.wrap (a2_0.tmod (↑(zc r17):Int)+(↑(zc r17):Int))).tmod (↑(zc r17):Int)).toNat r23).length then match pJ (List.set r21 ((i64.wrap (a2_0.tmod (↑(zc r17):Int)+(↑(zc r17):Int))).tmod (↑(zc r17):Int)).toNat r23)[((i64.wrap (a2_0.tmod (↑(zc r17):Int)+(↑(zc r17):Int))).tmod (↑(zc r17):Int)).toNat]! with|O=>O|V r25=>V (wP (r25=0))else O else O else O else O with|O=>O|V r26=>bif r26 then V wO else match m20 a0 a1 (List.set r20 ((i64.wrap (a2_0.tmod (↑(zc r17):Int)+(↑(zc r17):Int))).tmod (↑(zc r17):Int)).toNat r22)with|O=>O|V r27=>match m20 a0 a1 (List.set r21 ((i64.wrap (a2_0.tmod (↑(zc r17):Int)+(↑(zc r17):Int))).tmod (↑(zc r17):Int)).toNat r23)with|O=>O|V r28=>match bif bif wP (r27.snd=0)then wN else wO then V wO else V (bif wP (r28.snd=0)then wN else wO)with|O=>O|V r29=>bif r29 then V wN else match aaL (NQ.mk r17 (List.set r20 ((i64.wrap (a2_0.tmod (↑(zc r17):Int)+(↑(zc r17):Int))).tmod (↑(zc r17):Int)).toNat r22) 0 a0 a1 r27.fst r28.fst)with|O=>O|V r30=>bif wP (r30.t109<16)then match XI (J1.mk r30.t7 r30.t9 r30.t109 r30.t109 0 r30.b0 r30.b1 r30.b2 r30.b3)with|O=>O|V r31=>bif wP (r31.t112<4)then match m27 r31.b0 r31.b1 r31.t7 r31.t15 r31.t112 with|O=>O|V r32=>bif bif r32.snd then wN else wO then O else match m44 r31.b0 r32.fst with|O=>O|V r33=>match m27 r31.b0 r31.b1 r31.t9 r31.t15 r31.t112 with|O=>O|V r34=>match bif r34.snd then match Uz r31.b2 (MQ r33.fst r31.b1.fK)with|O=>O|V r35=>bif bif r35 then wN else wO then V wO else bif bif r34.snd then wN else wO then match Uz r31.b3 (MQ r33.fst r31.b1.fK)with|O=>O|V r36=>V (bif r36 then wN else wO)else V wN else bif bif r34.snd then wN else wO then match Uz r31.b3 (MQ r33.fst r31.b1.fK)with|O=>O|V r37=>V (bif r37 then wN else wO)else V wN with|O=>O|V r38=>bif r38 then V wN else O else O else V wO else O else O else O else O else O else O else O else O else O else O
def c7(a0:aP)(a1:cD)(a2_0:Int)(a2_1:Int):bU wQ (F7) 300 (an7) 7 (A7.c (a0,a1,(a2_0,a2_1,()),())) [] 0 d7.rd=m7 a0 a1 a2_0 a2_1:=by kernel_rfl
def h7:HL wQ 7 A7 d7 (fun g=>m7 g.1 g.2.1 g.2.2.1.1 g.2.2.1.2.1):=(dG aql fa7 (fun _=>by kernel_rfl) (fun _=>by kernel_rfl) fun g=>c7 g.1 g.2.1 g.2.2.1.1 g.2.2.1.2.1)
def e7:aK->aK:=eL wQ 7 wN A7 d7 (fun g=>m7 g.1 g.2.1 g.2.2.1.1 g.2.2.1.2.1)
def nX{l:List aS}(h:∀v∈l,v.af<=v.aa)(i:Nat):1<=cJ (l.take i)/\1<=cJ (l.drop i)/\cJ l=cJ (l.take i)*cJ (l.drop i)/\cJ (l.take i)<=cJ l:=by
 have h1:=rU (l:=l.take i) (fun x hx=>h x (List.mem_of_mem_take hx))
 have h2:=rU (l:=l.drop i) (fun x hx=>h x (xW hx))
 have e:cJ l=cJ (l.take i)*cJ (l.drop i):=by rw[<-AO,xe]
 have:=Int.mul_le_mul_of_nonneg_left h2 (show 0<=cJ (l.take i)by omega)
 exact⟨h1,h2,e,by rw[e];omega⟩
def abg(vars:List aS)(hv:bX vars)(hl:vars.length<=1000000){k:Int}(hk:k=1\/k=2\/k=3)(hp:cJ (vars.filter (kd k))<=4096):m89 vars k=V (cJ (vars.filter (kd k)),0):=by
 have hm:=I6 vars hl k
 generalize hF:vars.filter (kd k)=L at hm hp
 have hL:∀v∈L,-1048576<=v.af/\v.af<=v.aa/\v.aa<=1048576:=fun v h=>by rw[<-hF]at h;exact hv v (z6.1 h).1
 have hll:L.length<=1000000:=by rw[<-hF];exact zx (yp _ _) hl
 obtain⟨v,e1,_⟩:=dH (cO:=EG) L.length (fun i (_:Unit)=>⟨L,(i:Int)⟩) (fun _ _=>True) (fun i b hi _=>by
  have hw:=gF hi hll
  obtain⟨q1,q2,q3⟩:=hL _ (aX hi)
  have i1:(i:Int)<(L.length:Int):=by omega
  have i2:(0:Int)<=(i:Int):=by omega
  refine⟨(),?_,trivial⟩
  unfold EG
  simp only[za,i1,i2,hi,hw,dx,bE,ew,cz,show ¬L[i]!.aa<L[i]!.af by omega,show ¬L[i]!.af< -1048576 by omega,show ¬1048576<L[i]!.aa by omega,gh,bA]) (fun b _=>by unfold EG;simp) (b:=()) trivial
 have e1':KI ⟨L,0⟩=V ⟨L,(L.length:Int)⟩:=e1
 obtain⟨w,e2,_⟩:=dH (cO:=BG) L.length (fun i (_:Unit)=>⟨L,cJ (L.take i),(i:Int)⟩) (fun _ _=>True) (fun i b hi _=>by
  have hw:=gF hi hll
  obtain⟨q1,q2,q3⟩:=hL _ (aX hi)
  have i1:(i:Int)<(L.length:Int):=by omega
  have i2:(0:Int)<=(i:Int):=by omega
  obtain⟨t1,_,_,t4⟩:=nX (fun v h=>(hL v h).2.1) (i+1)
  have e:cJ (L.take (i+1))=cJ (L.take i)*(L[i]!.aa-L[i]!.af+1):=by rw[bS hi,AO,cJ,cJ,y8]
  refine⟨(),?_,trivial⟩
  rw[e]at t1 t4 ⊢
  have w2:i64.wrap (i64.wrap (L[i]!.aa-L[i]!.af)+1)=L[i]!.aa-L[i]!.af+1:=by rw[aF (n:=L[i]!.aa-L[i]!.af),aF]
  have w3:i64.wrap (cJ (L.take i)*(L[i]!.aa-L[i]!.af+1))=cJ (L.take i)*(L[i]!.aa-L[i]!.af+1):=aF
  unfold BG
  simp only[za,i1,i2,hi,hw,dx,bE,ew,cz,w2,w3,show ¬4096<cJ (L.take i)*(L[i]!.aa-L[i]!.af+1)by omega,gh,bA]) (fun b _=>by unfold BG;simp) (b:=()) trivial
 rw[zM]at e2
 have e2':Mv ⟨L,1,0⟩=V ⟨L,cJ L,(L.length:Int)⟩:=e2
 have hk1:(bif bif wP (k=0)then wN else wO then
   bif bif wP (k=1)then wN else wO then
    bif bif wP (k=2)then wN else wO then V (bif wP (k=3)then wN else wO)else V wN
   else V wN
  else some false)=some false:=by rcases hk with h|h|h<;>simp[h]
 unfold m89
 rw[hk1]
 simp only[bA,hm,e1']
 rw[fy,bA,e2']
 dsimp only
 rw[fy,bA]
def Qu(vars:List aS)(hv:bX vars)(hl:vars.length<=1000000){k:Int}(hk:k=1\/k=2\/k=3)(hp:cJ (vars.filter (kd k))<=4096)(r:Int):∃p,m94 vars k r=V p/\(p.2=0->p.1.length=(vars.filter (kd k)).length)/\p.1.length<=1000000:=by
 have e89:=abg vars hv hl hk hp
 have hm:=I6 vars hl k
 generalize hF:vars.filter (kd k)=L at*
 have hL:∀v∈L,-1048576<=v.af/\v.af<=v.aa/\v.aa<=1048576:=fun v h=>by rw[<-hF]at h;exact hv v (z6.1 h).1
 have hll:L.length<=1000000:=by rw[<-hF];exact zx (yp _ _) hl
 have hpos:=rU (l:=L) (fun v h=>(hL v h).2.1)
 unfold m94
 rw[e89]
 simp only[dx,bE,bA]
 by_cases c1:r<0
 ·rw[bP c1]
  exact⟨([],3),rfl,(fun h=>cQ h (by decide)),(by simp)⟩
 by_cases c2:cJ L<=r
 ·rw[bO c1,bP c2]
  exact⟨([],3),rfl,(fun h=>cQ h (by decide)),(by simp)⟩
 rw[bO c1,bO c2]
 simp only[bA,hm]
 obtain⟨b,e1,hI⟩:=dH (cO:=Ss) L.length (fun i (b:List Int)=>⟨r,cJ (L.drop i),L,b,(i:Int)⟩) (fun i b=>b.length=i) (fun i b hi hb=>by
  have hw:=gF hi hll
  obtain⟨q1,q2,q3⟩:=hL _ (aX hi)
  have i1:(i:Int)<(L.length:Int):=by omega
  have i2:(0:Int)<=(i:Int):=by omega
  have t1:=(nX (fun v h=>(hL v h).2.1) i).2.1
  have t2:=(nX (fun v h=>(hL v h).2.1) (i+1)).2.1
  have t3:=nX (fun v h=>(hL v h).2.1) i
  have e:cJ (L.drop i)=(L[i]!.aa-L[i]!.af+1)*cJ (L.drop (i+1)):=by rw[drop_cons hi,cJ]
  have le:cJ (L.drop i)<=4096:=by
   have:=zG t3.1 (show 0<=cJ (L.drop i)by omega)
   rw[<-t3.2.2.1]at this
   omega
  have w2:i64.wrap (i64.wrap (L[i]!.aa-L[i]!.af)+1)=L[i]!.aa-L[i]!.af+1:=by rw[aF (n:=L[i]!.aa-L[i]!.af),aF]
  have hd:(cJ (L.drop i)).tdiv (L[i]!.aa-L[i]!.af+1)=cJ (L.drop (i+1)):=by
   rw[Int.tdiv_eq_ediv_of_nonneg (by omega),e,Int.mul_ediv_cancel_left _ (by omega)]
  have le2:cJ (L.drop (i+1))<=4096:=by
   have:=zG (show 1<=L[i]!.aa-L[i]!.af+1 by omega) (show 0<=cJ (L.drop (i+1))by omega)
   omega
  have w3:i64.wrap (cJ (L.drop (i+1)))=cJ (L.drop (i+1)):=aF
  have hl2:∀x:Int,(b++[x]).length<=1073741824:=fun x=>by simp;omega
  refine⟨b++[i64.wrap (L[i]!.af+(i64.wrap (r.tdiv (cJ (L.drop (i+1))))).tmod (L[i]!.aa-L[i]!.af+1))],?_,?_⟩
  ·unfold Ss
   simp only[za,i1,i2,hi,hw,dx,bE,ew,cz,w2,hd,w3,hl2,show ¬@Eq Int (L[i]!.aa-L[i]!.af+1) 0 by omega,show ¬@Eq Int (cJ (L.drop (i+1))) 0 by omega,not_false_eq_true]
  ·simp;omega) (fun b _=>by unfold Ss;simp) (b:=[]) (by simp)
 have e1':RJ ⟨r,cJ L,L,[],0⟩=V ⟨r,cJ (L.drop L.length),L,b,(L.length:Int)⟩:=e1
 rw[e1']
 dsimp only
 rw[fy,bA]
 exact⟨(b,0),rfl,fun _=>hI,(by show b.length<=1000000;omega)⟩
def ao7(vars:List aS)(hl:vars.length<=1000000){inp:cR}(h:uP vars inp):m95 vars inp=V (fR vars inp,0):=by
 have d1:=h.s
 have d2:=h.p
 have d3:=h.r
 obtain⟨_,e1,_⟩:=dH (cO:=SM) vars.length (fun i (_:Unit)=>⟨vars,(cg vars 1 i:Int),(cg vars 2 i:Int),(cg vars 3 i:Int),(zH i).map (iG vars inp),wO,(i:Int),inp⟩) (fun i b=>True) (fun i b hi _=>by
  have hw:=gF hi hl
  have i1:(i:Int)<(vars.length:Int):=by omega
  have i2:(0:Int)<=(i:Int):=by omega
  have c1:=fA hi 1
  have c2:=fA hi 2
  have c3:=fA hi 3
  have l1:=kG vars 1 i
  have l2:=kG vars 2 i
  have l3:=kG vars 3 i
  have hs:=OL (iG vars inp) i
  have hlen:∀x:Int,((zH i).map (iG vars inp)++[x]).length<=1073741824:=fun x=>by simp;omega
  have hb:=h.b i hi
  have q1:¬iG vars inp i<vars[i]!.af:=by omega
  have q2:¬vars[i]!.aa<iG vars inp i:=by omega
  refine⟨(),?_,trivial⟩
  rw[hs]
  unfold SM
  dsimp only
  rw[c1,c2,c3]
  by_cases k1:vars[i]!.bk=1
  ·have hlt:=fD hi k1
   have ev:iG vars inp i=inp.eO[cg vars 1 i]! :=by unfold iG;rw[bw k1]
   rw[k1]at c1 c2 c3 ⊢
   simp only[Int.reduceEq,cz,dS,yf]at c1 c2 c3 ⊢
   have w1:i64.wrap ((cg vars 1 i:Int)+1)=((cg vars 1 i+1:Nat):Int):=by rw[aF];omega
   simp only[za,i1,i2,k1,dx,bE,ew,cz,DZ (show cg vars 1 i<inp.eO.length by omega),bA,<-ev,hlen,w1,hw,q1,q2,gh]
  by_cases k2:vars[i]!.bk=2
  ·have hlt:=fD hi k2
   have ev:iG vars inp i=inp.aW[cg vars 2 i]! :=by unfold iG;rw[bF k1,bw k2]
   rw[k2]at c1 c2 c3 ⊢
   simp only[Int.reduceEq,cz,dS,yf]at c1 c2 c3 ⊢
   have w1:i64.wrap ((cg vars 2 i:Int)+1)=((cg vars 2 i+1:Nat):Int):=by rw[aF];omega
   simp only[za,i1,i2,k2,Int.reduceEq,dx,gh,bE,ew,cz,DZ (show cg vars 2 i<inp.aW.length by omega),bA,<-ev,hlen,w1,hw,q1,q2]
  by_cases k3:vars[i]!.bk=3
  ·have hlt:=fD hi k3
   have ev:iG vars inp i=inp.fk[cg vars 3 i]! :=by unfold iG;rw[bF k1,bF k2,bw k3]
   rw[k3]at c1 c2 c3 ⊢
   simp only[Int.reduceEq,cz,dS,yf]at c1 c2 c3 ⊢
   have w1:i64.wrap ((cg vars 3 i:Int)+1)=((cg vars 3 i+1:Nat):Int):=by rw[aF];omega
   simp only[za,i1,i2,k3,Int.reduceEq,dx,gh,bE,ew,cz,DZ (show cg vars 3 i<inp.fk.length by omega),bA,<-ev,hlen,w1,hw,q1,q2]
  ·have ev:iG vars inp i=vars[i]!.dz:=by unfold iG;rw[bF k1,bF k2,bF k3]
   rw[bF k1,bF k2,bF k3]
   simp only[za,i1,i2,k1,k2,k3,dx,gh,bE,ew,cz,bA,<-ev,hlen,hw,q1,q2,yf]) (fun b _=>by unfold SM;simp) (b:=()) trivial
 have e1':QG ⟨vars,0,0,0,[],wO,0,inp⟩=V ⟨vars,(cg vars 1 vars.length:Int),(cg vars 2 vars.length:Int),(cg vars 3 vars.length:Int),(zH vars.length).map (iG vars inp),wO,(vars.length:Int),inp⟩:=e1
 unfold m95
 rw[e1']
 dsimp only
 have g1:(cg vars 1 vars.length:Int)=(inp.eO.length:Int):=by omega
 have g2:(cg vars 2 vars.length:Int)=(inp.aW.length:Int):=by omega
 have g3:(cg vars 3 vars.length:Int)=(inp.fk.length:Int):=by omega
 rw[fy,bA]
 simp only[g1,g2,g3,dx,bE,bA]
 rfl
def aoc{f:aP}(hc:B7 f=0)(h80:fO f.bJ+jK (f.aj.map (·.az))<=80)(hh:f.aj.length<=10)(hvl:f.ah.length<=10){inp:cR}(h:uP f.ah inp):
  m44 f inp=V (⟨(FE f inp).outs,(FE f inp).time⟩,0):=by
 have hf:=IZ hc
 have hV:=Gr h
 have e2:r96 f (UP f (fR f.ah inp)) f.bJ (iD ⟨fR f.ah inp,[],0⟩)=V (iD (FE f inp)):=eE (2*SizeOf.sizeOf f.bJ+1) fun n hn=>(YM hf.vars (by omega) (by simp[UP]) n).1 wO f.bJ _ (by omega) (by omega) (ay1 hf h)
 have e28:m28 f inp=V (iD (FE f inp),0):=by
  unfold m28
  rw[Nv f (by omega) (by omega) (by omega),hc]
  simp only[dx,bE,bA,ao7 f.ah (by omega) h,anf hf (by omega) hV]
  rw[show bD.mk (fR f.ah inp) [] 0=iD ⟨fR f.ah inp,[],0⟩from rfl,e2]
 unfold m44
 rw[e28]
 rfl
def alh(p q:List Int×Int)(box:List aI):Prop:=p.2=0/\q.2=0/\(p.1++q.1).length=box.length/\∀j,j<box.length->bz box[j]! (p.1++q.1)[j]!
def ajz{f:aP}{v:cD}{box:List aI}{s r:Int}{p q:List Int×Int}(e1:m94 f.ah 1 s=V p)(e2:m94 f.ah 3 r=V q)(l1:p.1.length<=1000000)(l2:q.1.length<=1000000)(hb:∀j,j<box.length->NN box[j]!):
  ∃z,m27 f v box s r=V z/\(z.2=wO->z.1=⟨p.1,v.aW,q.1⟩)/\(z.2=wO↔alh p q box):=by
 unfold m27
 rw[e1]
 dsimp only
 rw[e2]
 dsimp only
 have e35:m35 p.1=V p.1:=by unfold m35;rw[gC]
 rw[e35]
 dsimp only
 rw[bw (by rw[zh];omega)]
 by_cases c1:p.2=0
 case neg=>
  rw[bO c1]
  exact⟨_,rfl,(fun h=>by cases h),⟨(fun h=>by cases h),fun h=>cQ h.1 c1⟩⟩
 by_cases c2:q.2=0
 case neg=>
  rw[bP c1,bO c2]
  exact⟨_,rfl,(fun h=>by cases h),⟨(fun h=>by cases h),fun h=>cQ h.2.1 c2⟩⟩
 by_cases c3:(p.1++q.1).length=box.length
 case neg=>
  rw[bP c1,bP c2,bO (show ¬((p.1++q.1).length:Int)=(box.length:Int)by omega)]
  exact⟨_,rfl,(fun h=>by cases h),⟨(fun h=>by cases h),fun h=>cQ h.2.2.1 c3⟩⟩
 rw[bP c1,bP c2,bP (show ((p.1++q.1).length:Int)=(box.length:Int)by omega)]
 simp only[bE,bA]
 have hll:(p.1++q.1).length<=2000000:=by rw[zh];omega
 generalize hA:p.1++q.1=A at*
 obtain⟨i,e3,hc⟩:=oI (cO:=LJ) A (fun i=>⟨box,p.1,q.1,A,(A.length:Int),(i:Int),v,⟨[],[],[]⟩⟩) (fun i x=>cG box[i]! x) (fun i hi=>by
  have hw:i64.wrap ((i:Int)+1)=((i+1:Nat):Int):=by rw[aF];omega
  have i1:(i:Int)<(A.length:Int):=by omega
  have i2:(0:Int)<=(i:Int):=by omega
  have i3:(i:Int)<(box.length:Int):=by omega
  refine⟨fun h=> ?_,fun h=> ?_⟩
  ·unfold LJ
   simp only[za,i1,i2,i3,hi,hw,dx,bE,bA,ew,cz,qI (.inr (hb i (by omega))),h]
  ·unfold LJ
   simp only[za,i1,i2,i3,hi,dx,bE,bA,ew,cz,qI (.inr (hb i (by omega))),h]) (by unfold LJ;simp)
 have e3':Rz ⟨box,p.1,q.1,A,(A.length:Int),0,v,⟨[],[],[]⟩⟩=V ⟨box,p.1,q.1,A,(A.length:Int),(i:Int),v,⟨[],[],[]⟩⟩:=e3
 rw[e3']
 dsimp only
 rcases hc with ⟨rfl,hall⟩|⟨hi,hno⟩
 ·rw[fy,bA]
  refine⟨_,rfl,fun _=>rfl,⟨fun _=>⟨c1,c2,by rw[hA];exact c3,fun j hj=> ?_⟩,fun _=>rfl⟩⟩
  rw[hA]
  exact lX.mp (hall j (by omega))
 ·have i1:(i:Int)<(A.length:Int):=by omega
  have i2:(0:Int)<=(i:Int):=by omega
  have i3:(i:Int)<(box.length:Int):=by omega
  simp only[za,i1,i2,i3,hi,dx,bE,bA,ew,cz,qI (.inr (hb i (by omega))),hno]
  refine⟨_,rfl,(fun h=>by cases h),⟨(fun h=>by cases h),fun h=> ?_⟩⟩
  have:=h.2.2.2 i (by omega)
  rw[hA]at this
  rw[fQ this]at hno
  cases hno
def asv{a:bM}(h:ROk a){o:bt}(h1:o.aZ.length<=a.aC.length)(h2:bz a.aA o.aZ.length)(h3:bz a.aD o.aD)(h4:∀i,i<o.aZ.length->bz a.aC[i]! o.aZ[i]!):Uz a o=V wO:=by
 have hs:=h.sl
 unfold Uz
 rw[bO (show ¬((a.aC.length:Int)<(o.aZ.length:Int))by omega)]
 simp only[bA,tU (.inr h.count),tU (.inr h.time),fQ h2,fQ h3,bE]
 obtain⟨_,e1,_⟩:=dH (cO:=Sa) o.aZ.length (fun i (_:Unit)=>⟨o.aZ,(o.aZ.length:Int),(i:Int),a⟩) (fun i _=>True) (fun i _ hi _=>by
  have hw:=gF hi (by omega)
  have i1:(i:Int)<(o.aZ.length:Int):=by omega
  have i2:(0:Int)<=(i:Int):=by omega
  have i3:(i:Int)<(a.aC.length:Int):=by omega
  refine⟨(),?_,trivial⟩
  unfold Sa
  simp only[za,i1,i2,i3,hw,dx,bE,bA,ew,cz,tU (.inr (h.slots i (by omega))),fQ (h4 i hi)]) (fun b _=>by unfold Sa;simp) (b:=()) trivial
 have e1':R4 ⟨o.aZ,(o.aZ.length:Int),0,a⟩=V ⟨o.aZ,(o.aZ.length:Int),(o.aZ.length:Int),a⟩:=e1
 rw[e1']
 dsimp only
 rw[fy,bA]
def T7(v:aS):aI:=fL v.af v.aa 1
def Ke(f:aP)(hv:bX f.ah)(hl:f.ah.length<=1000000)(acc:List aI)(ha:acc.length<=1000000)(k:Int)(ks:List Int)(n j:Int):
  K1 ⟨acc,k,ks,n,j,f.ah,(f.ah.length:Int),0,f⟩=V ⟨acc++(f.ah.filter (kd k)).map T7,k,ks,n,j,f.ah,(f.ah.length:Int),(f.ah.length:Int),f⟩:=by
 obtain⟨b,e1,hI⟩:=dH (cO:=S3) f.ah.length (fun i (b:List aS)=>⟨acc++b.map T7,k,ks,n,j,f.ah,(f.ah.length:Int),(i:Int),f⟩) (fun i b=>b=(f.ah.take i).filter (kd k)) (fun i b hi hb=>by
  have hw:=gF hi hl
  have i1:(i:Int)<(f.ah.length:Int):=by omega
  have i2:(0:Int)<=(i:Int):=by omega
  have hlen:b.length<=i:=by rw[hb];exact uM k i
  have hl2:∀x:aI,(acc++b.map T7++[x]).length<=1073741824:=fun x=>by simp;omega
  have hb':=hv _ (aX hi)
  have MZ:iQ f.ah[i]!.af f.ah[i]!.aa 1=V (T7 f.ah[i]!,0):=iM ⟨by omega,by omega⟩ ⟨by omega,by omega⟩ (by omega)
  refine⟨_,?_,rfl⟩
  rw[su hi,<-hb]
  unfold S3
  by_cases hk:f.ah[i]!.bk=k
  ·simp only[za,i1,i2,hk,MZ,hl2,hw,dx,bE,ew,cz,yc,yQ,yh,y5]
   rw[bw (by have:=hl2 (T7 f.ah[i]!);rw[yQ]at this;exact this)]
  ·simp only[za,i1,i2,hk,hw,dx,gh,bE,bA,ew,cz,dS,yj]) (fun b _=>by unfold S3;simp) (b:=[]) (by simp)
 rw[zM]at hI
 rw[<-hI]
 have e1':=e1
 rw[y5,yj]at e1'
 exact e1'
def arC(f:aP)(hv:bX f.ah)(hl:f.ah.length<=1000):m39 f=V ((fq f.ah).map T7):=by
 have h1:(f.ah.filter (kd 1)).length<=1000:=zx (yp _ _) hl
 have e1:=Ke f hv (by omega) [] (by simp) 1 [1,3] 2 0
 have e2:=Ke f hv (by omega) ((f.ah.filter (kd 1)).map T7) (by simp;omega) 3 [1,3] 2 1
 rw[yg]at e1
 have w1:i64.wrap ((0:Int)+1)=1:=by decide
 have w2:i64.wrap ((1:Int)+1)=2:=by decide
 have e0:Gt ⟨[],[1,3],2,0,f⟩=V ⟨(fq f.ah).map T7,[1,3],2,2,f⟩:=by
  unfold Gt fq
  rw[yc]
  rw[bQ (p':=⟨(f.ah.filter (kd 1)).map T7,[1,3],2,1,f⟩)]
  ·rw[bQ (p':=⟨(f.ah.filter (kd 1)).map T7++(f.ah.filter (kd 3)).map T7,[1,3],2,2,f⟩)]
   ·exact cu (fun r=>by unfold Sf;simp)
   ·unfold Sf
    dsimp only
    rw[bP (by decide),bE,bw (by decide),bw (by decide)]
    rw[show ([1,3]:List Int)[yC 1]! =3 from rfl,e2]
    dsimp only
    rw[fy,bA,w2]
  ·unfold Sf
   dsimp only
   rw[bP (by decide),bE,bw (by decide),bw (by decide)]
   rw[show ([1,3]:List Int)[yC 0]! =1 from rfl,e1]
   dsimp only
   rw[fy,bA,w1]
 unfold m39
 have e0':Gt ⟨[],[1,3],((2:Nat):Int),0,f⟩=_:=e0
 first
  |rw[e0']
  |rw[e0]
 dsimp only
 rw[fy,bA]
def uf{α:Type}[Inhabited α]{c:Nat->α->Int}:∀{l:List α} {i:Nat},(∀j,j<l.length->c (i+j) l[j]! =0)->cw c l i=0
 |[],_,_=>rfl
 |x::l,i,h=>by
  unfold cw
  have h0:=h 0 (by simp)
  have h0:c i x=0:=h0
  rw[bw h0]
  refine uf fun j hj=> ?_
  have:=h (j+1) (by simp;omega)
  rw[show i+(j+1)=i+1+j by omega]at this
  exact this
def Yx{f:aP}{v:cD}{box:List aI}(h:Fits f v box):Cf f v box=0:=by
 have hp:=h.pub
 have hb:=h.bl
 unfold Cf
 rw[bF (by rw[h.c];simp),bF (by simpa using hp)]
 have e1:cw (jZ v.aW) (f.ah.filter (kd 2)) 0=0:=uf fun j hj=>by
  have q:=h.XL j (by omega)
  rw[yq]
  unfold jZ
  rw[fy,fy]
  rfl
 rw[bF (by rw[e1];simp),bF (by simpa using hb)]
 refine uf fun j hj=> ?_
 obtain⟨q1,q2,q3⟩:=h.bx j (by omega)
 rw[yq]
 unfold og
 have hs:¬@Eq Int (L4 box[j]!) 0:=by
  unfold L4
  rw[bw (.inr q1)]
  have:=size_pos q1
  omega
 rw[dX (.inr q1),bO hs,fy,fy]
 rfl
def aiq{a:aI}(h:NV a)(k:¬@Eq Int (L4 a) 0):NN a:=h.nn fun e=>k (by
 rw[e]
 unfold L4
 rw[bw (.inl rfl)]
 unfold cV
 rw[bw rfl])
def Fa{box:List aI}{i:Nat}(hi:i<box.length)(l:aI)(j:Nat)(hj:j<box.length):(box.set i l)[j]! =if i=j then l else box[j]! :=by
 rw[getElem!_pos (box.set i l) j (by rw[zO];exact hj),wg,getElem!_pos box j hj]
def uY{f:aP}{v:cD}{box:List aI}(h:Fits f v box){i:Nat}(hi:i<box.length){l:aI}(hl:NN l)(hsub:∀x,bz l x->bz box[i]! x):Fits f v (box.set i l):=by
 refine⟨h.c,h.pub,h.XL,by rw[zO];exact h.bl,fun j hj=> ?_⟩
 rw[zO]at hj
 rw[Fa hi l j hj]
 by_cases e:i=j
 ·subst e
  rw[bw rfl]
  obtain⟨q1,q2,q3⟩:=h.bx i hi
  have m1:=hsub _ hl.BP
  have m2:=hsub _ hl.Sg
  exact⟨hl,by have:=m1.1;omega,by have:=m2.2.1;omega⟩
 ·rw[bF e]
  exact h.bx j hj
def Qs{f:aP}{v:cD}{box:List aI}{inp:cR}(hf:Fits f v box)(h:o5 f v box inp):Uz (eT f v box) (MQ ⟨(FE f inp).outs,(FE f inp).time⟩ v.fK)=V wO:=by
 have r:=amw hf h
 have k:=abO hf
 have eo:(MQ ⟨(FE f inp).outs,(FE f inp).time⟩ v.fK).aZ=(FE f inp).outs:=by unfold MQ;cases v.fK<;>rfl
 refine asv k (by rw[eo];exact r.sl) (by rw[eo];exact r.cnt) ?_ (fun i hi=>by rw[eo]at hi ⊢;exact r.outs i hi)
 show bz (if v.fK=wO then(I9 f v box).aD else dL 0) _
 unfold MQ
 cases v.fK with
 |true=>exact r.time
 |false=>exact(jt 0).mem rfl
def acz(a:Int){n:Nat}(h:1<=n)(hn:n<=100000):0<=(i64.wrap (a.tmod (n:Int)+(n:Int))).tmod (n:Int)/\(i64.wrap (a.tmod (n:Int)+(n:Int))).tmod (n:Int)<(n:Int):=by
 have h1:(a.tmod (n:Int)).natAbs<(n:Int).natAbs:=by rw[xK];exact yP _ (by omega)
 rw[aF]
 exact⟨wv _ (by omega),Int.tmod_lt_of_pos _ (by omega)⟩
def Zy{f:aP}(hl:f.ah.length<=1000):(fq f.ah).length<=2000:=by
 have a1:(f.ah.filter (kd 1)).length<=1000:=zx (yp _ _) hl
 have a3:(f.ah.filter (kd 3)).length<=1000:=zx (yp _ _) hl
 unfold fq
 rw[zh];omega
def agt{f:aP}{v:cD}{box:List aI}(hc:B7 f=0)(h80:fO f.bJ+jK (f.aj.map (·.az))<=80)(hh:f.aj.length<=10)(hvl:f.ah.length<=10)(hf:Fits f v box){i:Nat}(hi:i<box.length){l u:aI}{c:Int}(hl:NN l)(hu:NN u)
  (el:Ex (fun x=>bz box[i]! x/\x<=c) l) (eu:Ex (fun x=>bz box[i]! x/\c<x) u) (s r t109:Int) (hr:r<4) (hr0:0<=r):
  Vs ⟨box,box.set i l,s,t109,r,f,v,eT f v (box.set i l),eT f v (box.set i u)⟩=V (V ⟨box,box.set i l,s,t109,r+1,f,v,eT f v (box.set i l),eT f v (box.set i u)⟩):=by
 have hv:=pG hc
 have fl:=uY hf hi hl (fun x hx=>((el.2 x).mp hx).1)
 have fu:=uY hf hi hu (fun x hx=>((eu.2 x).mp hx).1)
 have hs:=U2 hc
 have sp:cJ (f.ah.filter (kd 1))<=4096/\cJ (f.ah.filter (kd 3))<=4096:=by
  unfold Bu at hs
  simp only[zf]at hs
  obtain⟨⟨h1,_⟩,h3⟩:=hs
  obtain⟨a,e1⟩:=Option.isSome_iff_exists.1 h1
  cases e3:uJ 3 f.ah 1 with
  |none=>rw[e3]at h3;cases h3
  |some b=>
   have ha:=BA 1 f.ah 1 a (by decide) e1
   have hb:=BA 3 f.ah 1 b (by decide) e3
   have p1:=vn 1 f.ah 1 a e1
   have p3:=vn 3 f.ah 1 b e3
   rw[zR]at p1 p3
   omega
 obtain⟨p,ep,pl,pb⟩:=Qu f.ah hv (by omega) (.inl rfl) sp.1 s
 obtain⟨q,eq,ql,qb⟩:=Qu f.ah hv (by omega) (.inr (.inr rfl)) sp.2 r
 obtain⟨z1,e1,z1a,z1b⟩:=ajz (v:=v) (box:=box) ep eq pb qb (fun j hj=>(hf.bx j hj).1)
 obtain⟨z2,e2,z2a,z2b⟩:=ajz (v:=v) (box:=box.set i l) ep eq pb qb (fun j hj=>(fl.bx j hj).1)
 have w:i64.wrap (r+1)=r+1:=aF
 unfold Vs
 simp only[bP hr,bE,e1]
 cases h1:z1.2 with
 |false=>simp only[bE,bA,w]
 |true=>
  have ib:=z1b.mp h1
  rw[z1a h1]
  have vin:∀bx:List aI,alh p q bx->o5 f v bx ⟨p.1,v.aW,q.1⟩:=fun bx hb=>⟨by rw[gz];exact pl hb.1,by rw[gz];exact ql hb.2.1,rfl,hb.2.2.2⟩
  have vb:=vin box ib
  have so:=vb.start hf
  simp only[bE,bA,aoc hc h80 hh hvl so,e2]
  cases h2:z2.2 with
  |true=>
   have vl:=vin _ (z2b.mp h2)
   simp only[bE,bA,Qs fl vl,w]
  |false=>
   have vu:o5 f v (box.set i u) ⟨p.1,v.aW,q.1⟩:=by
    refine⟨vb.s,vb.r,rfl,fun j hj=> ?_⟩
    rw[zO]at hj
    rw[Fa hi u j hj]
    by_cases ej:i=j
    ·subst ej
     rw[bw rfl]
     have hx:=vb.b i hi
     refine(eu.2 _).mpr ⟨hx,?_⟩
     by_cases hcx:(p.1++q.1)[i]!<=c
     ·exfalso
      have:alh p q (box.set i l):=⟨ib.1,ib.2.1,by rw[zO];exact ib.2.2.1,fun k hk=>by
       rw[zO]at hk
       rw[Fa hi l k hk]
       by_cases ek:i=k
       ·subst ek
        rw[bw rfl]
        exact(el.2 _).mpr ⟨hx,hcx⟩
       ·rw[bF ek]
        exact ib.2.2.2 k hk⟩
      rw[z2b.mpr this]at h2
      cases h2
     ·exact Int.lt_of_not_ge hcx
    ·rw[bF ej]
     exact vb.b j hj
   simp only[bE,bA,Qs fu vu,w]
def azi(f:aP)(v:cD)(a b:Int):m7 f v a b=V wO:=by
 obtain⟨r,e24,hr⟩:=am9 f 16 4096 4
 unfold m7
 rw[e24]
 cases r with
 |false=>rfl
 |true=>
  obtain⟨hfew,hc⟩:=hr rfl
  obtain⟨h80,hh,hvl⟩:=F4 hfew
  have hv:=pG hc
  have hlen:=Zy (f:=f) (by omega)
  simp only[m18,bE,bA,arC f hv (by omega)]
  have hBl:((fq f.ah).map T7).length=(fq f.ah).length:=zK ..
  generalize (fq f.ah).map T7=B at*
  rw[atu (by omega) (by omega) (by omega)]
  dsimp only
  by_cases ha:Cf f v B=0
  case neg=>rw[bO ha];rfl
  have hf:=Rg ha
  by_cases h0:B.length=0
  ·rw[bP ha,bP (show (B.length:Int)=0 by omega)];rfl
  have hn0:¬@Eq Int (B.length:Int) 0:=by omega
  rw[bP ha,bO hn0]
  simp only[bE,bA]
  obtain⟨i1,i2⟩:=acz a (n:=B.length) (by omega) (by omega)
  rw[bw hn0,bw hn0,Pg (show B.length<=1000000 by omega)]
  dsimp only
  generalize (i64.wrap (a.tmod (B.length:Int)+(B.length:Int))).tmod (B.length:Int)=I at*
  have i3:I.toNat<B.length:=by omega
  have hnn:=(hf.bx I.toNat i3).1
  obtain⟨l,el,hl⟩:=AE (.inr hnn) b
  obtain⟨u,eu,hu⟩:=p8 (.inr hnn) b
  have gl:(B.set I.toNat l)[I.toNat]! =l:=by rw[Fa i3 l _ i3,bw rfl]
  have gu:(B.set I.toNat u)[I.toNat]! =u:=by rw[Fa i3 u _ i3,bw rfl]
  simp only[i1,i2,i3,ew,cz,el,eu,zO,gl,gu,IL]
  by_cases zl:@Eq Int (L4 l) 0
  ·rw[bP zl];rfl
  by_cases zu:@Eq Int (L4 u) 0
  ·rw[bO zl,bP zu];rfl
  rw[bO zl,bO zu]
  simp only[bA]
  have nl:=aiq hl.1 zl
  have nu:=aiq hu.1 zu
  have fl:=uY hf i3 nl (fun x hx=>((hl.2 x).mp hx).1)
  have fu:=uY hf i3 nu (fun x hx=>((hu.2 x).mp hx).1)
  rw[ai2 (by omega) (by omega) (by omega),ai2 (by omega) (by omega) (by omega),bw (Yx fl),bw (Yx fu)]
  simp only[dx,bE,bA]
  have inner:∀(s t:Int),XI ⟨B,B.set I.toNat l,s,t,0,f,v,eT f v (B.set I.toNat l),eT f v (B.set I.toNat u)⟩=V ⟨B,B.set I.toNat l,s,t,4,f,v,eT f v (B.set I.toNat l),eT f v (B.set I.toNat u)⟩:=fun s t=>by
   obtain⟨_,e1,_⟩:=dH (cO:=Vs) 4 (fun i (_:Unit)=>⟨B,B.set I.toNat l,s,t,(i:Int),f,v,eT f v (B.set I.toNat l),eT f v (B.set I.toNat u)⟩) (fun i _=>True) (fun i _ hi _=>⟨(),by
    have:=agt hc h80 hh hvl hf i3 nl nu hl hu s (i:Int) t (by omega) (by omega)
    rw[this]
    rfl,trivial⟩) (fun b _=>by unfold Vs;rfl) (b:=()) trivial
   exact e1
  have outer:aaL ⟨B,B.set I.toNat l,0,f,v,eT f v (B.set I.toNat l),eT f v (B.set I.toNat u)⟩=V ⟨B,B.set I.toNat l,16,f,v,eT f v (B.set I.toNat l),eT f v (B.set I.toNat u)⟩:=by
   obtain⟨_,e1,_⟩:=dH (cO:=aaV) 16 (fun i (_:Unit)=>⟨B,B.set I.toNat l,(i:Int),f,v,eT f v (B.set I.toNat l),eT f v (B.set I.toNat u)⟩) (fun i _=>True) (fun i _ hi _=>⟨(),by
    have hw:i64.wrap ((i:Int)+1)=((i+1:Nat):Int):=by rw[aF];omega
    unfold aaV
    dsimp only
    rw[bP (show (i:Int)<16 by omega),bE,inner]
    dsimp only
    rw[bO (by decide),bA,hw],trivial⟩) (fun b _=>by unfold aaV;rfl) (b:=()) trivial
   exact e1
  rw[outer]
  dsimp only
  rw[bO (by decide),bA]
end Go.Proofs.YtnfljbehcffmcaaGreat
end
noncomputable section
namespace Go.Iv
variable [U:sX]
open Go Go.RowKit Go.Deep Go.ChangeShapes Go.WideShapes Go.Joins
def ao1{P:Program}{f:FuncId}{args:List AV}(h:Iv.Fn P f args [] (fun a s=>a= .b wO/\s=[])){A:Nat->Prop}{w:World}{vs:List Value}(hr:bK A w args vs):
  Calls P f vs.toArray w fun e w'=>∃v,e= .returned v/\v= .bool wO/\Below w.heap.size w w':=
 (h w A vs hr ⟨fun r hr=>by simp at hr,fun b hb=>by simp[bH]at hb⟩ (by simp[bH])).mono fun e w' ⟨v,av,σ',h1,⟨h2,h3⟩,h4,h5⟩=>by
  subst h2
  exact⟨v,h1,h5.cK,h4.kp.below⟩
abbrev uz:Nat->Prop:=fun _=>True
def k8{α:Type}{H:Type}(enc:TypeId×Value->H)(P:Program)(w:World)(t:TypeId)(c:α->List AV)(ok:α->Prop):Prop:=
 ∀(base:Nat) (fuel:Nat) (cs:List Value) (x:DataW H×List MemPlace),DataW.trod enc P w base (fun _=>wO) wO fuel t cs=V x->∃a,ok a/\bK uz w (c a) cs
section
variable {α:Type} {H:Type} {enc:TypeId×Value->H} {P:Program} {w:World} {t e:TypeId}
def k8.int{k:IntKind}(ht:P.underlying t=V (.int k)):k8 enc P w t (cN k) (fun n=>(Lit.int k n).wf=wO):=fun base fuel cs x h=>by
 obtain⟨n,rfl,_,hw⟩:=DataW.trod_int ht h
 exact⟨n,hw,bK.cons (.lit _) bK.nil⟩
def k8.bool(ht:P.underlying t=V .bool):k8 enc P w t cB (fun _=>True):=fun base fuel cs x h=>by
 obtain⟨b,rfl,_⟩:=DataW.trod_bool ht h
 exact⟨b,trivial,bK.cons (.lit _) bK.nil⟩
def k8.slice{ok:U.dw e->Prop}{sz:Nat}(ht:P.underlying t=V (.slice e))(hc:P.cellsOf e=sz+1)(hs:U.sz e=sz+1)(he:k8 enc P w e (U.cells e) ok):
  k8 enc P w t (fun l:List (U.dw e)=>[.sl e l]) (fun l=>l.length<=9223372036854775807/\∀a∈l,ok a):=fun base fuel cs x h=>by
 rcases open_slice ht h with ⟨rfl,_⟩|⟨a,len,cp,m,n,D,Pl,hcs,hb,hl,hm,hmm,_,hx⟩
 ·refine⟨[],⟨by simp,by simp⟩,bK.cons ?_ bK.nil⟩
  exact .sl e ([]:List (U.dw e)) O 0 (fun _ _=>default) (by simp) (by simp) (fun i hi=>by simp at hi) (fun i hi=>by simp at hi) (fun i j a hi=>by simp at hi)
 ·subst hcs
  have hmm:m=cp:=by rw[hmm];rfl
  rw[hc]at hx
  have hmx:cp<=9223372036854775807:=by unfold maxLen at hm;omega
  obtain⟨CS,hCS⟩:=choose_lt (α:=List Value×U.dw e) (p:=fun i y=>w.cells? base (a.add (i*(sz+1))) (sz+1)=V y.1/\ok y.2/\bK uz w (U.cells e y.2) y.1) (n:=len) (fun i hi=>by
   obtain⟨cs',h1,h2⟩:=hx i (by omega)
   obtain⟨y,h3,h4⟩:=he _ _ _ _ h2
   exact⟨(cs',y),h1,h3,h4⟩)
  obtain⟨l,hld⟩:∃l:List (U.dw e),l=(zH len).map fun i=>(CS i).2:=⟨_,rfl⟩
  have hln:l.length=len:=by rw[hld];simp
  have hget:∀i,i<len->l[i]! =(CS i).2:=fun i hi=>by
   rw[getElem!_pos l i (by omega)];simp[hld]
  refine⟨l,⟨by omega,fun y hy=> ?_⟩,bK.cons ?_ bK.nil⟩
  ·rw[hld,zL]at hy
   obtain⟨i,hi,rfl⟩:=hy
   exact(hCS i (by simpa using hi)).2.1
  ·rw[<-hln]
   refine .sl e l (V a) cp (fun i j=>(CS i).1[j]!) (by omega) (by omega) (fun i hi=> ?_) (fun i hi=> ?_) (fun i j av hi hj=> ?_)
   ·rw[hln]at hi
    obtain⟨h1,_,h3⟩:=hCS i hi
    obtain⟨_,h5,_⟩:=World.cells?_some h1
    rw[hget i hi,<-h3.1,h5,hs]
   ·rw[hln]at hi
    obtain⟨h1,_,h3⟩:=hCS i hi
    obtain⟨_,h5,h6⟩:=World.cells?_some h1
    have hj:∀j,j<sz+1->w.cell? ((a.add (i*(sz+1))).add j)=V (CS i).1[j]! :=fun j hj=>by
     rw[h6 j hj,getElem!_pos _ j (by omega),zk (by omega)]
    obtain⟨b,off,spot⟩:=a
    have hs:spot=O:=by
     obtain⟨g1,_,_⟩:=hCS 0 (by omega)
     obtain⟨_,g5,g6⟩:=World.cells?_some g1
     have:=World.cell?_spot (v:=(CS 0).1[0]!) (w:=w) (a:=((⟨b,off,spot⟩:Addr).add (0*(sz+1))).add 0) (by rw[g6 0 (by omega),getElem!_pos _ 0 (by omega),zk (by omega)])
     simpa [Addr.add]using this
    subst hs
    have hj':∀j,j<sz+1->w.cell? ⟨b,off+i*(sz+1)+j,O⟩=V (CS i).1[j]! :=fun j hlt=>by
     have:=hj j hlt
     have ap:∀o i:Nat,(⟨b,o,O⟩:Addr).add i=⟨b,o+i,O⟩:=fun o i=>by
      unfold Addr.add
      split
      ·rename_i h0;simp only[h0,yf]
      ·rfl
     rw[ap,ap]at this
     exact this
    exact⟨b,off,rfl,World.block_lt_of_cell? w _ (hj' 0 (by omega)),trivial,by rw[hs];exact hj'⟩
   ·rw[hln]at hi
    rw[hget i hi]at hj
    obtain⟨h1,_,h3⟩:=hCS i hi
    obtain⟨v,q1,q2⟩:=h3.get hj
    show Rel uz w av (CS i).1[j]!
    obtain⟨q3,q4⟩:=zX.1 q1
    rw[getElem!_pos _ j q3,q4]
    exact q2
def k8.agg{c:α->List AV}{ok:α->Prop}{v:Value}{cs:Array Value}{d:DataW H}{p:List MemPlace}(he:k8 enc P w t c ok)(hv:v= .agg cs)(h:DataW.Trod enc P w 0 (fun _=>wO) wO t v d p):∃a,ok a/\Rel uz w (.agg (c a)) v:=by
 obtain⟨fuel,hf⟩:=h
 subst hv
 obtain⟨l⟩:=cs
 obtain⟨a,h1,h2⟩:=he _ _ _ _ hf
 exact⟨a,h1,Rel.ny h2⟩
end
def Tv.law[L:nQ]{P:Program}{f:FuncId}{args:List AV}{x:Out}(h:Tv P f args [] 0 x)(hx:x=⟨.b wO,[],0⟩)(ha:args.all (FA 2)=wO):Iv.Fn P f args [] (fun a s=>a= .b wO/\s=[]):=by
 subst hx
 have h1:=h ⟨fun _=>undef,fun _=>0⟩
 have:args.map (cc.sub ⟨fun _=>undef,fun _=>0⟩)=args.map id:=zV fun c hcm=>jX 2 (zo.1 ha c hcm)
 rw[this,List.map_id]at h1
 exact h1.mono fun a s ⟨ρ',_,e1,e2⟩=>⟨by rw[e1];exact jX 2 rfl,List.Perm.eq_nil e2⟩
def cI{A:Nat->Prop}{w:World}{xs bs:List AV}{us:List Value}{n:Nat}(h:bK A w xs (us.take n))(h':bK A w bs (us.drop n)):bK A w (xs++bs) us:=by
 have:=h.app h'
 rwa [xe]at this
def Iw(B:Nat){α:Type}{H:Type}(enc:TypeId×Value->H)(P:Program)(w:World)(t:TypeId)(c:α->List AV)(ok:α->Prop):Prop:=
 ∀(base:Nat) (fuel:Nat),fuel<B->∀(cs:List Value) (x:DataW H×List MemPlace),DataW.trod enc P w base (fun _=>wO) wO fuel t cs=V x->∃a,ok a/\bK uz w (c a) cs
section
variable {α:Type} {H:Type} {enc:TypeId×Value->H} {P:Program} {w:World} {t e:TypeId}
def k8.ofB{c:α->List AV}{ok:α->Prop}(h:∀B,Iw B enc P w t c ok):k8 enc P w t c ok:=fun base fuel cs x hx=>h (fuel+1) base fuel (zw _) cs x hx
def k8.str(ht:P.underlying t=V .string):k8 enc P w t (fun s=>[.s s]) (fun _=>True):=fun base fuel cs x h=>by
 obtain⟨b,rfl,_⟩:=DataW.trod_string ht h
 exact⟨b,trivial,bK.cons (.lit _) bK.nil⟩
def k8.any{c:α->List AV}{ok:α->Prop}(h:k8 enc P w t c ok):k8 enc P w t c (fun _=>True):=fun base fuel cs x hx=>by
 obtain⟨a,_,r⟩:=h base fuel cs x hx
 exact⟨a,trivial,r⟩
def Iw.slice{B:Nat}{ok:U.dw e->Prop}{sz:Nat}(ht:P.underlying t=V (.slice e))(hc:P.cellsOf e=sz+1)(hs:U.sz e=sz+1)(he:Iw B enc P w e (U.cells e) ok):
  Iw B enc P w t (fun l:List (U.dw e)=>[.sl e l]) (fun l=>l.length<=9223372036854775807/\∀a∈l,ok a):=fun base fuel hB cs x h=>by
 rcases DataW.trod_slice ht h with ⟨rfl,_⟩|⟨a,len,cp,elems,rest,n,hfu,hcs,_,hb,hl,hm,hlen,hx,_,_⟩
 ·refine⟨[],⟨by simp,by simp⟩,bK.cons ?_ bK.nil⟩
  exact .sl e ([]:List (U.dw e)) O 0 (fun _ _=>default) (by simp) (by simp) (fun i hi=>by simp at hi) (fun i hi=>by simp at hi) (fun i j a hi=>by simp at hi)
 ·subst hcs
  rw[hc]at hx
  have hmx:cp<=9223372036854775807:=by unfold maxLen at hm;omega
  obtain⟨CS,hCS⟩:=choose_lt (α:=List Value×U.dw e) (p:=fun i y=>w.cells? base (a.add (i*(sz+1))) (sz+1)=V y.1/\ok y.2/\bK uz w (U.cells e y.2) y.1) (n:=len) (fun i hi=>by
   have hk:=hx i hi
   rw[zk (show i<elems.length by omega)]at hk
   obtain⟨cs',h1,h2⟩:=zm.1 hk
   obtain⟨y,h3,h4⟩:=he _ n (by omega) _ _ h2
   exact⟨(cs',y),h1,h3,h4⟩)
  obtain⟨l,hld⟩:∃l:List (U.dw e),l=(zH len).map fun i=>(CS i).2:=⟨_,rfl⟩
  have hln:l.length=len:=by rw[hld];simp
  have hget:∀i,i<len->l[i]! =(CS i).2:=fun i hi=>by
   rw[getElem!_pos l i (by omega)];simp[hld]
  refine⟨l,⟨by omega,fun y hy=> ?_⟩,bK.cons ?_ bK.nil⟩
  ·rw[hld,zL]at hy
   obtain⟨i,hi,rfl⟩:=hy
   exact(hCS i (by simpa using hi)).2.1
  ·rw[<-hln]
   refine .sl e l (V a) cp (fun i j=>(CS i).1[j]!) (by omega) (by omega) (fun i hi=> ?_) (fun i hi=> ?_) (fun i j av hi hj=> ?_)
   ·rw[hln]at hi
    obtain⟨h1,_,h3⟩:=hCS i hi
    obtain⟨_,h5,_⟩:=World.cells?_some h1
    rw[hget i hi,<-h3.1,h5,hs]
   ·rw[hln]at hi
    obtain⟨h1,_,h3⟩:=hCS i hi
    obtain⟨_,h5,h6⟩:=World.cells?_some h1
    have hj:∀j,j<sz+1->w.cell? ((a.add (i*(sz+1))).add j)=V (CS i).1[j]! :=fun j hj=>by
     rw[h6 j hj,getElem!_pos _ j (by omega),zk (by omega)]
    obtain⟨b,off,spot⟩:=a
    have hs:spot=O:=by
     obtain⟨g1,_,_⟩:=hCS 0 (by omega)
     obtain⟨_,g5,g6⟩:=World.cells?_some g1
     have:=World.cell?_spot (v:=(CS 0).1[0]!) (w:=w) (a:=((⟨b,off,spot⟩:Addr).add (0*(sz+1))).add 0) (by rw[g6 0 (by omega),getElem!_pos _ 0 (by omega),zk (by omega)])
     simpa [Addr.add]using this
    subst hs
    have hj':∀j,j<sz+1->w.cell? ⟨b,off+i*(sz+1)+j,O⟩=V (CS i).1[j]! :=fun j hlt=>by
     have:=hj j hlt
     have ap:∀o i:Nat,(⟨b,o,O⟩:Addr).add i=⟨b,o+i,O⟩:=fun o i=>by
      unfold Addr.add
      split
      ·rename_i h0;simp only[h0,yf]
      ·rfl
     rw[ap,ap]at this
     exact this
    exact⟨b,off,rfl,World.block_lt_of_cell? w _ (hj' 0 (by omega)),trivial,by rw[hs];exact hj'⟩
   ·rw[hln]at hi
    rw[hget i hi]at hj
    obtain⟨h1,_,h3⟩:=hCS i hi
    obtain⟨v,q1,q2⟩:=h3.get hj
    show Rel uz w av (CS i).1[j]!
    obtain⟨q3,q4⟩:=zX.1 q1
    rw[getElem!_pos _ j q3,q4]
    exact q2
end
end Go.Iv
end
noncomputable section
set_option maxRecDepth 100000
namespace Go.Proofs.YtnfljbehcffmcaaGreat
open Go Go.Iv Go.RowKit Go.Deep Go.ChangeShapes Go.WideShapes Go.Joins
section
variable {H:Type} {enc:TypeId×Value->H} {w:World}
def og9:k8 enc wQ w 9 (fun s=>[.s s]) (fun _=>True):=k8.str underlying9
def asr:k8 enc wQ w 129 (cN .i64) (fun _=>True):=(k8.int underlying129).any
def Vm:k8 enc wQ w 3 (cN .i64) (fun _=>True):=(k8.int underlying3).any
def aqM:k8 enc wQ w 131 (uni.cells 131) (fun _=>True):=fun base fuel cs x h=>by
 obtain⟨xs,n,hfu,rfl,hl,hlen,hf⟩:=DataW.trod_struct underlying131 h
 rw[show wQ.cellsOf 131=5 from by kernel_rfl]at hl
 have hlen:xs.length=5:=hlen
 have f0:DataW.trod enc wQ w base (fun _=>wO) wO n 9 ((cs.drop 0).take (wQ.cellsOf 9))=xs[0]? :=hf 0 _ rfl
 rw[show wQ.cellsOf 9=1 from by kernel_rfl,zk (show 0<xs.length by omega)]at f0
 obtain⟨a0,_,r0⟩:=og9 _ _ _ _ f0
 have f1:DataW.trod enc wQ w base (fun _=>wO) wO n 129 ((cs.drop 1).take (wQ.cellsOf 129))=xs[1]? :=hf 1 _ rfl
 rw[show wQ.cellsOf 129=1 from by kernel_rfl,zk (show 1<xs.length by omega)]at f1
 obtain⟨a1,_,r1⟩:=asr _ _ _ _ f1
 have f2:DataW.trod enc wQ w base (fun _=>wO) wO n 3 ((cs.drop 2).take (wQ.cellsOf 3))=xs[2]? :=hf 2 _ rfl
 rw[show wQ.cellsOf 3=1 from by kernel_rfl,zk (show 2<xs.length by omega)]at f2
 obtain⟨a2,_,r2⟩:=Vm _ _ _ _ f2
 have f3:DataW.trod enc wQ w base (fun _=>wO) wO n 3 ((cs.drop 3).take (wQ.cellsOf 3))=xs[3]? :=hf 3 _ rfl
 rw[show wQ.cellsOf 3=1 from by kernel_rfl,zk (show 3<xs.length by omega)]at f3
 obtain⟨a3,_,r3⟩:=Vm _ _ _ _ f3
 have f4:DataW.trod enc wQ w base (fun _=>wO) wO n 3 ((cs.drop 4).take (wQ.cellsOf 3))=xs[4]? :=hf 4 _ rfl
 rw[show wQ.cellsOf 3=1 from by kernel_rfl,zk (show 4<xs.length by omega)]at f4
 obtain⟨a4,_,r4⟩:=Vm _ _ _ _ f4
 have e:bK uz w [] (cs.drop 5):=by rw[xo (by omega)];exact bK.nil
 have s4:=cI (us:=cs.drop 4) r4 (by rw[zP];exact e)
 have s3:=cI (us:=cs.drop 3) r3 (by rw[zP];exact s4)
 have s2:=cI (us:=cs.drop 2) r2 (by rw[zP];exact s3)
 have s1:=cI (us:=cs.drop 1) r1 (by rw[zP];exact s2)
 have s0:=cI (us:=cs.drop 0) r0 (by rw[zP];exact s1)
 exact⟨(⟨a0,a1,a2,a3,a4⟩:aS),trivial,s0⟩
def axk:k8 enc wQ w 22 (fun l:List (uni.dw 131)=>[.sl 131 l]) (fun l=>l.length<=9223372036854775807/\∀a∈l,True):=k8.slice (e:=131) (sz:=4) underlying22 (by kernel_rfl) rfl aqM
def avz:k8 enc wQ w 134 (cN .i64) (fun _=>True):=(k8.int underlying134).any
def WI:∀B,Iw B enc wQ w 137 (uni.cells 137) (fun _=>True)
 |0=>fun base fuel hB=>cQ hB (yD _)
 |B+1=>fun base fuel hB cs x h=>by
  have ih:=WI B
  obtain⟨xs,n,hfu,rfl,hl,hlen,hf⟩:=DataW.trod_struct underlying137 h
  rw[show wQ.cellsOf 137=3 from by kernel_rfl]at hl
  have hlen:xs.length=3:=hlen
  have f0:DataW.trod enc wQ w base (fun _=>wO) wO n 134 ((cs.drop 0).take (wQ.cellsOf 134))=xs[0]? :=hf 0 _ rfl
  rw[show wQ.cellsOf 134=1 from by kernel_rfl,zk (show 0<xs.length by omega)]at f0
  obtain⟨a0,_,r0⟩:=avz _ _ _ _ f0
  have f1:DataW.trod enc wQ w base (fun _=>wO) wO n 3 ((cs.drop 1).take (wQ.cellsOf 3))=xs[1]? :=hf 1 _ rfl
  rw[show wQ.cellsOf 3=1 from by kernel_rfl,zk (show 1<xs.length by omega)]at f1
  obtain⟨a1,_,r1⟩:=Vm _ _ _ _ f1
  have f2:DataW.trod enc wQ w base (fun _=>wO) wO n 135 ((cs.drop 2).take (wQ.cellsOf 135))=xs[2]? :=hf 2 _ rfl
  rw[show wQ.cellsOf 135=1 from by kernel_rfl,zk (show 2<xs.length by omega)]at f2
  obtain⟨a2,_,r2⟩:=Iw.slice (t:=135) (e:=137) (sz:=2) underlying135 (by kernel_rfl) rfl ih base n (by omega) _ _ f2
  have e:bK uz w [] (cs.drop 3):=by rw[xo (by omega)];exact bK.nil
  have s2:=cI (us:=cs.drop 2) r2 (by rw[zP];exact e)
  have s1:=cI (us:=cs.drop 1) r1 (by rw[zP];exact s2)
  have s0:=cI (us:=cs.drop 0) r0 (by rw[zP];exact s1)
  exact⟨(⟨a0,a1,a2⟩:aq),trivial,s0⟩
def aiu:k8 enc wQ w 137 (uni.cells 137) (fun _=>True):=k8.ofB WI
def atU:k8 enc wQ w 139 (uni.cells 139) (fun _=>True):=fun base fuel cs x h=>by
 obtain⟨xs,n,hfu,rfl,hl,hlen,hf⟩:=DataW.trod_struct underlying139 h
 rw[show wQ.cellsOf 139=6 from by kernel_rfl]at hl
 have hlen:xs.length=4:=hlen
 have f0:DataW.trod enc wQ w base (fun _=>wO) wO n 9 ((cs.drop 0).take (wQ.cellsOf 9))=xs[0]? :=hf 0 _ rfl
 rw[show wQ.cellsOf 9=1 from by kernel_rfl,zk (show 0<xs.length by omega)]at f0
 obtain⟨a0,_,r0⟩:=og9 _ _ _ _ f0
 have f1:DataW.trod enc wQ w base (fun _=>wO) wO n 3 ((cs.drop 1).take (wQ.cellsOf 3))=xs[1]? :=hf 1 _ rfl
 rw[show wQ.cellsOf 3=1 from by kernel_rfl,zk (show 1<xs.length by omega)]at f1
 obtain⟨a1,_,r1⟩:=Vm _ _ _ _ f1
 have f2:DataW.trod enc wQ w base (fun _=>wO) wO n 3 ((cs.drop 2).take (wQ.cellsOf 3))=xs[2]? :=hf 2 _ rfl
 rw[show wQ.cellsOf 3=1 from by kernel_rfl,zk (show 2<xs.length by omega)]at f2
 obtain⟨a2,_,r2⟩:=Vm _ _ _ _ f2
 have f3:DataW.trod enc wQ w base (fun _=>wO) wO n 137 ((cs.drop 3).take (wQ.cellsOf 137))=xs[3]? :=hf 3 _ rfl
 rw[show wQ.cellsOf 137=3 from by kernel_rfl,zk (show 3<xs.length by omega)]at f3
 obtain⟨a3,_,r3⟩:=aiu _ _ _ _ f3
 have e:bK uz w [] (cs.drop 6):=by rw[xo (by omega)];exact bK.nil
 have s3:=cI (us:=cs.drop 3) r3 (by rw[zP];exact e)
 have s2:=cI (us:=cs.drop 2) r2 (by rw[zP];exact s3)
 have s1:=cI (us:=cs.drop 1) r1 (by rw[zP];exact s2)
 have s0:=cI (us:=cs.drop 0) r0 (by rw[zP];exact s1)
 exact⟨(⟨a0,a1,a2,a3⟩:dc),trivial,s0⟩
def ayN:k8 enc wQ w 23 (fun l:List (uni.dw 139)=>[.sl 139 l]) (fun l=>l.length<=9223372036854775807/\∀a∈l,True):=k8.slice (e:=139) (sz:=5) underlying23 (by kernel_rfl) rfl atU
def atn:k8 enc wQ w 164 (cN .i64) (fun _=>True):=(k8.int underlying164).any
def aqX:k8 enc wQ w 27 (fun l:List (uni.dw 3)=>[.sl 3 l]) (fun l=>l.length<=9223372036854775807/\∀a∈l,True):=k8.slice (e:=3) (sz:=0) underlying27 (by kernel_rfl) rfl Vm
def ZN:∀B,Iw B enc wQ w 166 (uni.cells 166) (fun _=>True)
 |0=>fun base fuel hB=>cQ hB (yD _)
 |B+1=>fun base fuel hB cs x h=>by
  have ih:=ZN B
  obtain⟨xs,n,hfu,rfl,hl,hlen,hf⟩:=DataW.trod_struct underlying166 h
  rw[show wQ.cellsOf 166=10 from by kernel_rfl]at hl
  have hlen:xs.length=8:=hlen
  have f0:DataW.trod enc wQ w base (fun _=>wO) wO n 164 ((cs.drop 0).take (wQ.cellsOf 164))=xs[0]? :=hf 0 _ rfl
  rw[show wQ.cellsOf 164=1 from by kernel_rfl,zk (show 0<xs.length by omega)]at f0
  obtain⟨a0,_,r0⟩:=atn _ _ _ _ f0
  have f1:DataW.trod enc wQ w base (fun _=>wO) wO n 3 ((cs.drop 1).take (wQ.cellsOf 3))=xs[1]? :=hf 1 _ rfl
  rw[show wQ.cellsOf 3=1 from by kernel_rfl,zk (show 1<xs.length by omega)]at f1
  obtain⟨a1,_,r1⟩:=Vm _ _ _ _ f1
  have f2:DataW.trod enc wQ w base (fun _=>wO) wO n 3 ((cs.drop 2).take (wQ.cellsOf 3))=xs[2]? :=hf 2 _ rfl
  rw[show wQ.cellsOf 3=1 from by kernel_rfl,zk (show 2<xs.length by omega)]at f2
  obtain⟨a2,_,r2⟩:=Vm _ _ _ _ f2
  have f3:DataW.trod enc wQ w base (fun _=>wO) wO n 3 ((cs.drop 3).take (wQ.cellsOf 3))=xs[3]? :=hf 3 _ rfl
  rw[show wQ.cellsOf 3=1 from by kernel_rfl,zk (show 3<xs.length by omega)]at f3
  obtain⟨a3,_,r3⟩:=Vm _ _ _ _ f3
  have f4:DataW.trod enc wQ w base (fun _=>wO) wO n 137 ((cs.drop 4).take (wQ.cellsOf 137))=xs[4]? :=hf 4 _ rfl
  rw[show wQ.cellsOf 137=3 from by kernel_rfl,zk (show 4<xs.length by omega)]at f4
  obtain⟨a4,_,r4⟩:=aiu _ _ _ _ f4
  have f5:DataW.trod enc wQ w base (fun _=>wO) wO n 24 ((cs.drop 7).take (wQ.cellsOf 24))=xs[5]? :=hf 5 _ rfl
  rw[show wQ.cellsOf 24=1 from by kernel_rfl,zk (show 5<xs.length by omega)]at f5
  obtain⟨a5,_,r5⟩:=Iw.slice (t:=24) (e:=166) (sz:=9) underlying24 (by kernel_rfl) rfl ih base n (by omega) _ _ f5
  have f6:DataW.trod enc wQ w base (fun _=>wO) wO n 24 ((cs.drop 8).take (wQ.cellsOf 24))=xs[6]? :=hf 6 _ rfl
  rw[show wQ.cellsOf 24=1 from by kernel_rfl,zk (show 6<xs.length by omega)]at f6
  obtain⟨a6,_,r6⟩:=Iw.slice (t:=24) (e:=166) (sz:=9) underlying24 (by kernel_rfl) rfl ih base n (by omega) _ _ f6
  have f7:DataW.trod enc wQ w base (fun _=>wO) wO n 27 ((cs.drop 9).take (wQ.cellsOf 27))=xs[7]? :=hf 7 _ rfl
  rw[show wQ.cellsOf 27=1 from by kernel_rfl,zk (show 7<xs.length by omega)]at f7
  obtain⟨a7,_,r7⟩:=aqX _ _ _ _ f7
  have e:bK uz w [] (cs.drop 10):=by rw[xo (by omega)];exact bK.nil
  have s7:=cI (us:=cs.drop 9) r7 (by rw[zP];exact e)
  have s6:=cI (us:=cs.drop 8) r6 (by rw[zP];exact s7)
  have s5:=cI (us:=cs.drop 7) r5 (by rw[zP];exact s6)
  have s4:=cI (us:=cs.drop 4) r4 (by rw[zP];exact s5)
  have s3:=cI (us:=cs.drop 3) r3 (by rw[zP];exact s4)
  have s2:=cI (us:=cs.drop 2) r2 (by rw[zP];exact s3)
  have s1:=cI (us:=cs.drop 1) r1 (by rw[zP];exact s2)
  have s0:=cI (us:=cs.drop 0) r0 (by rw[zP];exact s1)
  exact⟨(⟨a0,a1,a2,a3,a4,a5,a6,a7⟩:au),trivial,s0⟩
def apR:k8 enc wQ w 166 (uni.cells 166) (fun _=>True):=k8.ofB ZN
def az2:k8 enc wQ w 24 (fun l:List (uni.dw 166)=>[.sl 166 l]) (fun l=>l.length<=9223372036854775807/\∀a∈l,True):=k8.slice (e:=166) (sz:=9) underlying24 (by kernel_rfl) rfl apR
def ayF:k8 enc wQ w 26 (uni.cells 26) (fun _=>True):=fun base fuel cs x h=>by
 obtain⟨xs,n,hfu,rfl,hl,hlen,hf⟩:=DataW.trod_struct underlying26 h
 rw[show wQ.cellsOf 26=3 from by kernel_rfl]at hl
 have hlen:xs.length=3:=hlen
 have f0:DataW.trod enc wQ w base (fun _=>wO) wO n 22 ((cs.drop 0).take (wQ.cellsOf 22))=xs[0]? :=hf 0 _ rfl
 rw[show wQ.cellsOf 22=1 from by kernel_rfl,zk (show 0<xs.length by omega)]at f0
 obtain⟨a0,_,r0⟩:=axk _ _ _ _ f0
 have f1:DataW.trod enc wQ w base (fun _=>wO) wO n 23 ((cs.drop 1).take (wQ.cellsOf 23))=xs[1]? :=hf 1 _ rfl
 rw[show wQ.cellsOf 23=1 from by kernel_rfl,zk (show 1<xs.length by omega)]at f1
 obtain⟨a1,_,r1⟩:=ayN _ _ _ _ f1
 have f2:DataW.trod enc wQ w base (fun _=>wO) wO n 24 ((cs.drop 2).take (wQ.cellsOf 24))=xs[2]? :=hf 2 _ rfl
 rw[show wQ.cellsOf 24=1 from by kernel_rfl,zk (show 2<xs.length by omega)]at f2
 obtain⟨a2,_,r2⟩:=az2 _ _ _ _ f2
 have e:bK uz w [] (cs.drop 3):=by rw[xo (by omega)];exact bK.nil
 have s2:=cI (us:=cs.drop 2) r2 (by rw[zP];exact e)
 have s1:=cI (us:=cs.drop 1) r1 (by rw[zP];exact s2)
 have s0:=cI (us:=cs.drop 0) r0 (by rw[zP];exact s1)
 exact⟨(⟨a0,a1,a2⟩:aP),trivial,s0⟩
def og4:k8 enc wQ w 4 cB (fun _=>True):=k8.bool underlying4
def azQ:k8 enc wQ w 29 (uni.cells 29) (fun _=>True):=fun base fuel cs x h=>by
 obtain⟨xs,n,hfu,rfl,hl,hlen,hf⟩:=DataW.trod_struct underlying29 h
 rw[show wQ.cellsOf 29=2 from by kernel_rfl]at hl
 have hlen:xs.length=2:=hlen
 have f0:DataW.trod enc wQ w base (fun _=>wO) wO n 27 ((cs.drop 0).take (wQ.cellsOf 27))=xs[0]? :=hf 0 _ rfl
 rw[show wQ.cellsOf 27=1 from by kernel_rfl,zk (show 0<xs.length by omega)]at f0
 obtain⟨a0,_,r0⟩:=aqX _ _ _ _ f0
 have f1:DataW.trod enc wQ w base (fun _=>wO) wO n 4 ((cs.drop 1).take (wQ.cellsOf 4))=xs[1]? :=hf 1 _ rfl
 rw[show wQ.cellsOf 4=1 from by kernel_rfl,zk (show 1<xs.length by omega)]at f1
 obtain⟨a1,_,r1⟩:=og4 _ _ _ _ f1
 have e:bK uz w [] (cs.drop 2):=by rw[xo (by omega)];exact bK.nil
 have s1:=cI (us:=cs.drop 1) r1 (by rw[zP];exact e)
 have s0:=cI (us:=cs.drop 0) r0 (by rw[zP];exact s1)
 exact⟨(⟨a0,a1⟩:cD),trivial,s0⟩
end
end Go.Proofs.YtnfljbehcffmcaaGreat
end
noncomputable section
set_option maxRecDepth 100000
namespace Go.Proofs.YtnfljbehcffmcaaGreat
open Go Go.Iv Go.RowKit Go.Deep Go.ChangeShapes Go.WideShapes Go.Joins
def aqa:kz wQ 7 0 (d7.pat wO)=⟨.b wO,[],0⟩:=by kernel_rfl
def arM(f:aP)(v:cD)(p:Int×Int):Iv.Fn wQ 7 [.agg (uni.cells 26 f), .agg (uni.cells 29 v), .agg [.n .i64 p.1, .n .i64 p.2]] [] (fun a s=>a= .b wO/\s=[]):=(h7 (f,v,(p.1,p.2,()),()) wO (azi f v p.1 p.2)).law aqa (by kernel_rfl)
section
variable {H:Type} {enc:TypeId×Value->H} {w:World}
def azP:k8 enc wQ w 71 (fun p:Int×Int=>[.n .i64 p.1, .n .i64 p.2]) (fun _=>True):=fun base fuel cs x h=>by
 obtain⟨xs,n,hfu,rfl,hl,hlen,hf⟩:=DataW.trod_array underlying71 h
 rw[show wQ.cellsOf 71=2 from by kernel_rfl]at hl
 rw[show wQ.cellsOf 3=1 from by kernel_rfl]at hf
 have f0:=hf 0 (by omega)
 rw[zk (show 0<xs.length by omega)]at f0
 obtain⟨a0,_,r0⟩:=Vm _ _ _ _ f0
 have f1:=hf 1 (by omega)
 rw[zk (show 1<xs.length by omega)]at f1
 obtain⟨a1,_,r1⟩:=Vm _ _ _ _ f1
 have e:bK uz w [] (cs.drop 2):=by rw[xo (by omega)];exact bK.nil
 have s1:=cI (us:=cs.drop 1) r1 (by rw[zP];exact e)
 have s0:=cI (us:=cs.drop 0) r0 (by rw[zP];exact s1)
 exact⟨(a0,a1),trivial,s0⟩
def ab8{t e:TypeId}{n:Nat}(A:wQ.underlying t=V (.array n e)){r:Reach}{b0:Nat}{v:Value}{W:World}(h:Value.okWide wQ W r b0 t v):∃xs:Array Value,v= .agg xs:=by
 simp only[Value.okWide,A]at h
 obtain⟨cs,h1,_⟩:=h
 exact⟨cs,h1⟩
end
end Go.Proofs.YtnfljbehcffmcaaGreat
end
