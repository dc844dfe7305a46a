/- Merged: Ge2, Gf2, Qx, Qy, Yj5, Yj6, Yk1, Yk2, Yk3, Yk4, Opd, Q9. -/
import Derived.Test.YtghilkcphindjaaGreatM6SymbolicFinals
import Derived.Test.YtghilkcphindjaaGreatM3SymbolicFinals
import Derived.Test.YtghilkcphindjaaGreatM1SymbolicFinals
import Derived.Test.YtghilkcphindjaaGreatM4SymbolicFinals
import Derived.Test.YtghilkcphindjaaGreatM5SymbolicFinals
open Int renaming toNat -> zQ
open Nat renaming beq -> zg, le_refl -> zx, le_trans -> zK, lt_succ_self -> zN, add_zero -> yG, sub_self -> xb, pow_le_pow_right -> xB, lt_or_ge -> xJ
open Bool renaming or_eq_true -> yO, false_eq_true -> xz, true -> Z, false -> O
open SizeOf renaming sizeOf -> zi
open Option renaming some -> M, none -> J
open List renaming mem_cons -> zk, mem_cons_self -> zm, all_eq_true -> zn, replicate -> zq, length_append -> zu, range -> zy, mem_singleton -> zA, mem_map -> zC, length_map -> zF, map_append -> zH, map_cons -> zI, length_take -> zL, mem_cons_of_mem -> zM, mem_append -> zR, length_drop -> zX, length -> zZ, take_length -> yh, filter_append -> yj, length_set -> yq, map_nil -> yx, getElem_map -> yy, append_nil -> yN, length_nil -> yP, take_of_length_le -> yU, length_replicate -> yY, filter_cons -> yZ, length_singleton -> y8, getElem_of_mem -> xh, getElem_take -> xo, drop -> xx, range_succ -> xH, ext_getElem -> xI, getElem_append_left -> xW, getElem_range -> xZ, drop_zero -> wh, getElem_drop -> wm, foldl_append -> wC, pairwise_append -> wI, pairwise_iff_getElem -> wN, getElem_append_right -> wR, length_filter_le -> w6
open Int renaming toNat_natCast -> zw, le_refl -> zG, lt_irrefl -> zO
open Decidable renaming decide -> w9
open Go.Proofs.Tryz renaming prog -> va
open Go.Proofs.Tryz
set_option linter.unusedSectionVars false
set_option linter.unusedVariables false
set_option linter.unusedSimpArgs false
set_option linter.defProp false
noncomputable section
set_option maxRecDepth 100000
namespace Go.Proofs.YtghilkcphindjaaGreat
open Go Go.Iv
open Go.IntKind (i64 u64)
def F36:aT:=(e75 (e74 (e73 (aFQ (aFH (e58 dz))))))
abbrev E36:=aq×Int
def d36:Td 0 E36:= .c [] [6,7] (.r 0 1 (ec 6 (qp 0 0) (ec 7 aU en)) (sb 0 80 (lg 80) sn) (λz=>(z.2.1,z.1.2.1)) (λx=>(((),x.2,()),(x.1,()))))
def aLV:∀f∈([]:aa Nat),bH (F36) f:=az
def m36(a0:bn)(a1:mI)(a2:Int):af E36:=
 match adq a0 a1 with|J=>(match aiC a0 a1 with|J=>J|M r3=>bif bif w9 (r3.snd.snd=0)then O else Z then M ((aq.mk 0 [] [] (0),r3.snd.snd))else match (bif w9 (a2<0)then M Z else M (w9 (zZ a0.ah<=a2)))with|J=>J|M r4=>bif r4 then M ((aq.mk 0 [] [] (0),3))else match r73 a0.bG (aF.mk r3.snd.fst.aV (aq.mk r3.snd.fst.aJ.ah r3.snd.fst.aJ.aG [] r3.snd.fst.aJ.aH) r3.snd.fst.cM (aq.mk r3.snd.fst.aN.ah r3.snd.fst.aN.aG [] r3.snd.fst.aN.aH)) r3.fst with|J=>J|M r5=>match m58 r5.snd with|J=>J|M r6=>if 0<=a2/\a2<zZ r5.fst.aV then match Y9 r6.fst r5.fst.aV[a2.toNat]! (aq.mk (fh 0 r6.snd).fst.ah (fh 0 r6.snd).fst.aG [] (fh 0 r6.snd).fst.aH) (fh 0 r6.snd).snd with|J=>J|M r7=>M (r7.fst,0)else J)|M r1=>bif bif w9 (r1.snd.snd=0)then O else Z then M ((aq.mk 0 [] [] (0),r1.snd.snd))else match (bif w9 (a2<0)then M Z else M (w9 (zZ a0.ah<=a2)))with|J=>J|M r2=>bif r2 then M ((aq.mk 0 [] [] (0),3))else J
def e36:aT->aT:=eZ va 36 (lc (qg 26) (lc (qg 53) gY)) d36 (λg=>m36 g.1 g.2.1 g.t.1)
def avD:EO e36:=λh=>kZ (F:=F36) (an:=(cA 3 (.two (.two (.rb [] 30) .no) .no))) (l:=[(.skip,(.rb [] 30))]) func36 (lZ (sW (av4 (ajl (ajH (auo aP)))))) (aA aLV az) h
def F61:aT:=(e67 (e56 (e15 (e13 dz))))
abbrev E61:=Bool
def d61:Td 0 E61:=iu 8
def aEB:∀f∈([13,15]:aa Nat),bH (F61) f:=(aA (Oq (OE (NM (Ph cU)))) (aA (Oq (OE (NM (Ph cU)))) az))
def m61(a0:bn)(a1:Int)(a2:Int)(a3:Int):af E61:=
 match match m13 a0 (10) (80)with|J=>J|M r1=>bif bif r1 then O else Z then M (Z)else match m15 a0 with|J=>J|M r2=>M (bif w9 (r2=0)then O else Z)with|J=>J|M r3=>bif r3 then M (O)else match m67 a0.ah (1)with|J=>J|M r4=>match m67 a0.ah (2)with|J=>J|M r5=>match m67 a0.ah (3)with|J=>J|M r6=>match r56 a0.bG with|J=>J|M r7=>match bif w9 (r4.fst<=a1)then bif w9 (r5.fst<=a2)then bif w9 (r6.fst<=a3)then M (w9 (r7.fst<=400))else M (O)else M (O)else M (O)with|J=>J|M r8=>M (r8)
def e61:=eL va 61 O (lc (qg 26) OX) d61 (λg=>m61 g.1 g.2.1 g.t.1 g.t.2.1)
def avH:EO e61:=λh=>kL (F:=F61) (an:=(noTwo (.two (.two (.rb [13,15] 25) .no) (cA 4 (.two (.rb [13,15] 8) .no))))) (l:=[(.skip,(.rb [13,15] 25)),(.skip,(.rb [13,15] 8))]) func61 (adh (aes (af8 (awn aP)))) (aA aEB (aA aEB az)) h
abbrev E23:=Bool
def d23:Td 0 E23:=iu 2
def m23(a0:bn):af E23:=
 match m61 a0 (64) (4096) (16)with|J=>J|M r1=>bif bif r1 then O else Z then M (O)else match m16 a0 with|J=>J|M r2=>M (w9 (r2.snd.fst<=8))
def e23:=eL va 23 O (lc (qg 26) ln) d23 (λg=>m23 g.1)
def asW:EO e23:=λh=>kL (an:= .no) func23 (avH (RL aP)) az h
def F39:aT:=(e59 (e32 dz))
abbrev E39:=Bool
def d39:Td 0 E39:=iu 4
def aIi:∀f∈([32,59]:aa Nat),bH (F39) f:=(aA (nv (pU cU)) (aA (nv (pU cU)) az))
def m39(a0:aq)(a1:aq):af E39:=
 match bif w9 (a0.ah=a1.ah)then bif w9 (a0.aH=a1.aH)then match m32 a0.aG a1.aG with|J=>J|M r1=>bif r1 then match m59 a0.aD a1.aD with|J=>J|M r2=>M (r2)else M (O)else M (O)else M (O)with|J=>J|M r3=>M (r3)
def e39:=eL va 39 O Lg d39 (λg=>m39 g.1 g.2.1)
def atH:EO e39:=λh=>kL (F:=F39) (an:=(noTwo (.two (.rb [32,59] 4) .no))) (l:=[(.skip,(.rb [32,59] 4))]) func39 (Su (aat aP)) (aA aIi az) h
structure pH where
 t1:List Bool
 t9:List Int
 t10:Bool
 t13:Int
 t22:List Slot
 (t23 t24 t29 t30:Int)
 b0:bn
 b2:Slot
def Rh:Td 0 pH:= .c [] [1,2,9,10,12,13,22,23,24,29,30] (.r 0 4 (ec 1 (ql 4) (ec 2 (qp 0 0) (ec 9 (qo 1) (ec 10 qb (ec 12 (qp 2 0) (ec 13 aU (ec 22 (qo 3) (ec 23 aU (ec 24 aU (ec 29 aU (ec 30 aU en))))))))))) (sb 0 26 (lg 26) (sr 1 3 (sb 2 38 (lg 38) (sr 3 38 sn)))) (λz=>⟨z.1.1,z.t.1,z.1.t.2.1,z.1.q.2.1,z.q.1,z.1.q.t.2.1,z.1.q.q.1,z.1.q.q.2.1,z.1.q.q.t.1,z.2.1,z.t.2.1⟩) (λx=>((x.t1,(),(),x.t10,(),x.t13,(),x.t23,x.t24,x.t29,x.t30,()),(x.b0,x.t9,x.b2,x.t22,()))))
def uF{α:Type}(p:pH)(go:pH->af α)(e1:af α):af α:=
 bif w9 (p.t30<p.t29)then if 0<=ak (p.b2.dJ+p.t30)/\ak (p.b2.dJ+p.t30)<zZ p.t1 then bif p.t1[(ak (p.b2.dJ+p.t30)).toNat]! then go (pH.mk p.t1 p.t9 p.t10 (ak (ak (2*p.t13)+1)) p.t22 p.t23 p.t24 p.t29 (ak (p.t30+1)) p.b0 p.b2)else go (pH.mk p.t1 p.t9 p.t10 (ak (2*p.t13)) p.t22 p.t23 p.t24 p.t29 (ak (p.t30+1)) p.b0 p.b2)else J else e1
def Lj(p:pH):af (af pH):=
 uF p fW dy
def Lz:=bX (Lj)
structure pO where
 t1:List Bool
 t9:List Int
 t10:Bool
 t22:List Slot
 (t23 t24:Int)
 b0:bn
def Q0:Td 0 pO:= .c [] [1,2,9,10,22,23,24] (.t (bT.s 9 [] 3) (.c [] [1,2,9,10,22,23,24] (.r 0 3 (ec 1 (ql 4) (ec 2 (qp 0 0) (ec 9 (qo 1) (ec 10 qb (ec 22 (qo 2) (ec 23 aU (ec 24 aU en))))))) (sb 0 26 (lg 26) (sr 1 3 (sr 2 38 sn))) (λz=>⟨z.1.1,z.t.1,z.1.t.2.1,z.t.2.1,z.1.q.2.1,z.1.q.t.1,z.2.1⟩) (λx=>((x.t1,(),(),x.t10,(),x.t23,x.t24,()),(x.b0,x.t9,x.t22,()))))))
def GI{α:Type}(p:pO)(go:pO->af α)(e1:af α):af α:=
 bif w9 (p.t24<p.t23)then if 0<=p.t24/\p.t24<zZ p.t22 then if 38=38/\zQ p.t24<zZ p.t22 then match Lz (pH.mk p.t1 p.t9 p.t10 0 p.t22 p.t23 p.t24 p.t22[zQ p.t24]!.dM 0 p.b0 p.t22[zQ p.t24]!)with|J=>J|M r1=>uF r1 (λ_=>J) (if 0<=r1.b2.bq/\r1.b2.bq<zZ r1.b0.ah then if(r1.t9++[ak (r1.b0.ah[zQ r1.b2.bq]!.aC+r1.t13)]).length<=1073741824 then bif w9 (r1.b0.ah[zQ r1.b2.bq]!.au<ak (r1.b0.ah[zQ r1.b2.bq]!.aC+r1.t13))then go (pO.mk r1.t1 (r1.t9++[ak (r1.b0.ah[zQ r1.b2.bq]!.aC+r1.t13)]) O r1.t22 r1.t23 (ak (r1.t24+1)) r1.b0)else go (pO.mk r1.t1 (r1.t9++[ak (r1.b0.ah[zQ r1.b2.bq]!.aC+r1.t13)]) r1.t10 r1.t22 r1.t23 (ak (r1.t24+1)) r1.b0)else J else J)else J else J else e1
def Lf(p:pO):af (af pO):=
 GI p fW dy
def aha:An:=(cA 2 (.two (cA 2 (.two (noTwo (Rh.lp Lz .no)) .no)) .no))
def Ke:=bX (Lf)
abbrev aGv:=(aa Int)×Bool
def aKe:Td 0 aGv:= .c [] [4,5] (.t (bT.fs 4 []) (.c [] [4,5] (.r 0 0 (ec 4 (ql 3) (ec 5 qb en)) sn (λz=>(z.1.1,z.1.2.1)) (λx=>((x.1,x.2,()),(()))))))
def ajP(a0:bn)(a1:aa Bool):af aGv:=
 match m16 a0 with|J=>J|M r2=>match Ke (pO.mk a1 [] Z r2.fst (zZ r2.fst) 0 a0)with|J=>J|M r3=>GI r3 (λ_=>J) (M (r3.t9,r3.t10))
def aLP:aT->aT:=eZ va 19 (lc (qg 26) (lc (ql 4) ln)) aKe (λg=>ajP g.1 g.2.1)
def aiQ:EO aLP:=λh=>kZ (an:=(cA 4 (.two (noTwo (Q0.lp Ke aha)) .no))) (l:=[(bz f19 0,(Q0.lp Ke aha)),(bz f19 1,(Rh.lp Lz .no))]) func19 (RL aP) (aA (aO Q0) (aA (aO Rh) az)) h
abbrev E37:=fu×Bool
def d37:Td 0 E37:= .c [] [6,7] (.r 0 1 (ec 6 (qp 0 0) (ec 7 qb en)) (sb 0 84 (lg 84) sn) (λz=>(z.2.1,z.1.2.1)) (λx=>(((),x.2,()),(x.1,()))))
def m37(a0:bn)(a1:aa Int)(a2:aa Bool):af E37:=
 match ajP a0 a2 with|J=>J|M r1=>bif bif r1.snd then O else Z then M (fu.mk [] [] [],O)else match m68 a0.ah 1with|J=>J|M r2=>if(0:Int)<=(↑(zZ r2):Int)/\(↑(zZ r2):Int)<=(zZ r1.fst:Int)then if(0:Int)<=(↑(zZ r2):Int)/\(↑(zZ r2):Int)<=(zZ r1.fst:Int)then M ((fu.mk (List.take (↑(zZ r2):Int).toNat r1.fst) a1 (xx (↑(zZ r2):Int).toNat r1.fst),Z))else J else J
def e37:aT->aT:=eZ va 37 (lc (qg 26) (lc (ql 3) (lc (ql 4) ln))) d37 (λg=>m37 g.1 g.2.1 g.t.1)
def awX:EO e37:=λh=>kZ (an:= .no) func37 (Ry (aiQ aP)) az h
abbrev E40:=aq
def d40:Td 0 E40:= .c [] [4] (.r 0 1 (ec 4 (qp 0 0) en) (sb 0 80 (lg 80) sn) (λz=>z.2.1) (λx=>(((),()),(x,()))))
def m40(a0:Int)(a1:aa Int):af E40:=
 match aeE a1 with|J=>J|M r1=>match TL r1 with|J=>J|M r2=>match TG r2 with|J=>J|M r3=>match abw a1 r3 (0)with|J=>J|M r4=>M (aq.mk a0 r3 r4.snd r4.fst)
def e40:aT->aT:=eZ va 40 (dX (lc (ql 3) ln)) d40 (λg=>m40 g.1 g.2.1)
def axZ:EO e40:=λh=>kZ (an:= .no) func40 (iS (p:=(λf=>zg f 60||zg f 79||zg f 143||zg f 200)) (ann (ak1 (anj (Vm (anK aP)))))) az h
structure s6 where
 t0:Int
 t5:List Bool
 t6:Int
def Q2:Td 0 s6:= .c [] [0,5,6] (.t (bT.s 5 [] 4) (.c [] [0,5,6] (.r 0 1 (ec 0 aU (ec 5 (qo 0) (ec 6 aU en))) (sr 0 4 sn) (λz=>⟨z.1.1,z.2.1,z.1.t.1⟩) (λx=>((x.t0,(),x.t6,()),(x.t5,()))))))
def Gn{α:Type}(p:s6)(go:s6->af α)(e1:af α):af α:=
 bif w9 (0<=p.t6)then if 0<=p.t6 then if(p.t5++[w9 (oT IntKind.i64 (de IntKind.i64 p.t0 p.t6) 1=1)]).length<=1073741824 then go (s6.mk p.t0 (p.t5++[w9 (oT IntKind.i64 (de IntKind.i64 p.t0 p.t6) 1=1)]) (ak (p.t6-1)))else J else J else e1
def Lp(p:s6):af (af s6):=
 Gn p fW dy
def Kh:=bX (Lp)
abbrev aAJ:=aa Bool
def aJT:Td 0 aAJ:= .c [] [4] (.t (bT.fs 4 []) (.c [] [4] (.r 0 0 (ec 4 (ql 4) en) sn (λz=>z.1.1) (λx=>((x,()),(()))))))
def akp(a0:Int)(a1:Int):af aAJ:=
 match Kh (s6.mk a0 [] (ak (a1-1)))with|J=>J|M r1=>Gn r1 (λ_=>J) (M (r1.t5))
def aAG:aT->aT:=eZ va 20 uS aJT (λg=>akp g.1 g.2.1)
def aja:EO aAG:=λh=>kZ (an:=(cA 2 (.two (noTwo (Q2.lp Kh .no)) .no))) (l:=[(bz f20 0,(Q2.lp Kh .no))]) func20 aP (aA (aO Q2) az) h
def F9:aT:=(e40 (e39 (e38 (e37 (e36 (e25 (e23 (aAG (e16 (e12 dz))))))))))
def azW:bK va F9:=(axZ (atH (at8 (awX (avD (asJ (asW (aja (RL (ajA aLG aP))))))))))
structure P6 where
 (t2 t8 t11:Int)
 t13:List Int
 (t58 t59:Int)
 b0:bn
 b1:mI
 b2:aq
def auq:Td 0 P6:= .c [] [2,3,4,7,8,11,13,58,59] (.t (bT.s 13 [] 3) (.c [] [2,3,4,7,8,11,13,58,59] (.r 0 4 (ec 2 aU (ec 3 (qp 0 0) (ec 4 (qp 1 0) (ec 7 (qp 2 0) (ec 8 aU (ec 11 aU (ec 13 (qo 3) (ec 58 aU (ec 59 aU en))))))))) (sb 0 26 (lg 26) (sb 1 53 (lg 53) (sb 2 80 (lg 80) (sr 3 3 sn)))) (λz=>⟨z.1.1,z.1.q.1,z.1.q.2.1,z.q.1,z.1.q.t.2.1,z.1.q.q.1,z.2.1,z.t.1,z.t.2.1⟩) (λx=>((x.t2,(),(),(),x.t8,x.t11,(),x.t58,x.t59,()),(x.b0,x.b1,x.b2,x.t13,()))))))
def abi{α:Type}(p:P6)(go:P6->af α)(e1:af α):af α:=
 bif w9 (p.t59<p.t58)then match akp p.t59 p.t11 with|J=>J|M r1=>match m37 p.b0 p.b1.cq r1 with|J=>J|M r2=>bif r2.snd then match m38 p.b0 r2.fst with|J=>J|M r3=>if 0<=p.t2/\p.t2<zZ r3.fst.aV then if(p.t13++[r3.fst.aV[zQ p.t2]!]).length<=1073741824 then go (P6.mk p.t2 p.t8 p.t11 (p.t13++[r3.fst.aV[zQ p.t2]!]) p.t58 (ak (p.t59+1)) p.b0 p.b1 p.b2)else J else J else if(p.t13++[(0:Int)]).length<=1073741824 then go (P6.mk p.t2 p.t8 p.t11 (p.t13++[0]) p.t58 (ak (p.t59+1)) p.b0 p.b1 p.b2)else J else e1
def aiS(p:P6):af (af P6):=
 abi p fW dy
def anI:=bX (aiS)
abbrev E9:=Bool
def d9:Td 0 E9:=iu 6
def A9:=(lc (qg 26) (lc (qg 53) gY))
def an9:An:=(cA 5 (.two (.two (.rb [] 48) .no) (cA 2 (.two (noTwo (auq.lp anI .no)) .no))))
def pu9:∀f∈([]:aa Nat),bH (F9) f:=az
def fa9:dB va (F9) 0 300 9 (an9):=bF (l:=[(.skip,(.rb [] 48)),(bz f9 0,(auq.lp anI .no))]) func9 (aY aL) aL (aA pu9 (aA (aO auq) az))
def m9(a0:bn)(a1:mI)(a2:Int):af E9:=
 bif bif m12 then O else Z then M O else match m23 a0 with|J=>J|M r4=>bif bif r4 then O else Z then M Z else match m36 a0 a1 a2 with|J=>J|M r5=>match m25 a0 a1 with|J=>J|M r6=>bif bif w9 (r6=0)then O else Z then M (w9 (r5.snd=r6))else match (bif w9 (a2<0)then M Z else M (w9 (zZ a0.ah<=a2)))with|J=>J|M r7=>bif r7 then M (w9 (r5.snd=3))else match m16 a0 with|J=>J|M r8=>if 0<=r8.snd.fst then match anI (P6.mk a2 r5.snd r8.snd.fst [] (FF IntKind.i64 1 r8.snd.fst) 0 a0 a1 r5.fst)with|J=>J|M r9=>abi r9 (λ_=>J) (bif w9 (r9.t8=0)then match m40 r9.t11 r9.t13 with|J=>J|M r13=>match m39 r9.b2 r13 with|J=>J|M r14=>M (r14)else M O)else J
def c9(a0:bn)(a1:mI)(a2:Int):bY va (F9) 300 (an9) 9 (A9.c (a0,a1,a2,())) [] 0 d9.rd=m9 a0 a1 a2:=aL
def h9:HL va 9 A9 d9 (λg=>m9 g.1 g.2.1 g.2.2.1):=(fo azW fa9 (λ_=>aL) (λ_=>aL) λg=>c9 g.1 g.2.1 g.2.2.1)
def kd(k:Int)(v:bf):Bool:=w9 (v.bQ=k)
def cL(vars:aa bf)(k:Int)(i:Nat):Nat:=zZ ((vars.take i).filter (kd k))
def gv{vars:aa bf}{i:Nat}(h:i<zZ vars)(k:Int):cL vars k (i+1)=cL vars k i+if vars[i]!.bQ=k then 1 else 0:=by
 unfold cL;rw[bV h,yj,zu];by_cases hk:vars[i]!.bQ=k
 ·rw[bO hk];simp only[yZ,List.filter_nil,kd,hk,mG,dx,y8]
 ·rw[bP hk];simp only[yZ,List.filter_nil,kd,hk,mF,xz,AE,yP]
def Ka(vars:aa bf)(k:Int)(i:Nat):cL vars k i<=i:=by
 unfold cL;exact zK (w6 _ _) (by rw[zL];omega)
def mM{vars:aa bf}{k:Int}{i j:Nat}(hij:i<=j)(hj:j<=zZ vars):cL vars k i<=cL vars k j:=by
 induction j with
 |zero=>
  have:i=0:=aj;subst this;exact zx _
 |succ j ih=>
  by_cases h:i=j+1
  ·subst h;exact zx _
  ·rw[gv aj];have:=ih aj aj;omega
def rK{f:bn}(h:J8 f 10 80=Z):gF f.bG+kR (f.ai.map (·.aB))<=80/\zZ f.ai<=10/\zZ f.ah<=10:=by
 unfold J8 at h;rw[decide_eq_true_eq]at h;omega
def Y3{f:bn}(h:Aa f=0):cK f Z f.bG=0:=by
 unfold Aa at h;split at h
 ·cases h
 split at h
 ·exact iy h ‹_›
 split at h
 ·exact iy h ‹_›
 split at h
 ·exact iy h ‹_›
 rename_i h4;simpa using h4
def sU{f:bn}(h:J8 f 10 80=Z):J8 f 20 200=Z:=by
 unfold J8 at*;rw[decide_eq_true_eq]at*;omega
def NA{f:bn}(h:Aa f=0){k:Int}(hk:k=1\/k=2\/k=3):∃N,oW k f.ah 1=M N:=by
 obtain⟨h1,h3,h2⟩:=anL h;rcases hk with rfl|rfl|rfl<;>assumption
def awo(f:bn)(a b c:Int):∃r,m61 f a b c=M r/\(r=Z->J8 f 10 80=Z/\Aa f=0):=by
 unfold m61;rw[asf f 10 80 (by decide) (by decide) (by decide) (by decide)];cases hf:J8 f 10 80 with
 |false=>exact⟨false,rfl,λh=>by cases h⟩
 |true=>
  obtain⟨h1,h2,h3⟩:=rK hf;rw[adK f aj aj aj];by_cases hc:Aa f=0
  ·have hV:=sS (sU hf) hc;have sp:∀{k:Int},(k=1\/k=2\/k=3)->∃n,m67 f.ah k=M (n,0):=λhk=>by
    obtain⟨N,hN⟩:=NA hc hk;exact ack hV _ hk N hN
   obtain⟨p1,e1⟩:=sp (k:=1) (.inl rfl);obtain⟨p2,e2⟩:=sp (k:=2) (.inr (.inl rfl));obtain⟨p3,e3⟩:=sp (k:=3) (.inr (.inr rfl));have hS:Bv f.bG:=AK f _ f.bG Z (zN _) (Y3 hc);rw[e1,e2,e3,adN f.bG aj hS];simp only[dP,hc,mG];cases w9 (p1<=a)<;>cases w9 (p2<=b)<;>cases w9 (p3<=c)<;>exact⟨_,rfl,λ_=>⟨trivial,trivial⟩⟩
  ·simp only[dP,hc,mF];exact⟨false,rfl,λh=>by cases h⟩
def dg(vars:aa bf)(inp:fu)(i:Nat):Int:=
 if vars[i]!.bQ=1 then inp.cC[cL vars 1 i]! else if vars[i]!.bQ=2 then inp.cq[cL vars 2 i]! else if vars[i]!.bQ=3 then inp.gQ[cL vars 3 i]! else vars[i]!.eB
def gE(vars:aa bf)(inp:fu):aa Int:=(zy (zZ vars)).map (dg vars inp)
structure ki (vars:List bf) (inp:fu):Prop where
 s:zZ inp.cC=cL vars 1 (zZ vars)
 p:zZ inp.cq=cL vars 2 (zZ vars)
 r:zZ inp.gQ=cL vars 3 (zZ vars)
 b:∀i,i<zZ vars->vars[i]!.aC<=dg vars inp i/\dg vars inp i<=vars[i]!.au
def Fo{l:aa Int}{i:Nat}(h:i<zZ l):Ot l (i:Int)=M (l[i]!,Z):=by
 unfold Ot;rw[gI,fO,Dx,zw]
def qV{l:aa Int}{i:Nat}(h:zZ l<=i):Ot l (i:Int)=M (0,O):=by
 unfold Ot;rw[zDT,fZ]
def Tq{α:Type}(f:Nat->α)(i:Nat):(zy (i+1)).map f=(zy i).map f++[f i]:=by rw[xH,zH];rfl
def asy(vars:aa bf)(hl:zZ vars<=1000000)(inp:fu):∃p,m76 vars inp=M p/\(p.2=0->p.1=gE vars inp/\ki vars inp)/\(ki vars inp->p.2=0):=by
 obtain⟨i,v,e1,hI,hc⟩:=oO (rnd:=sD) (zZ vars) (λi (b:aa Int×Bool)=>⟨vars,(cL vars 1 i:Int),(cL vars 2 i:Int),(cL vars 3 i:Int),b.1,b.2,(i:Int),inp⟩)
  (λi b=>b.1=(zy i).map (dg vars inp)/\(b.2=Z↔∀j,j<i->vars[j]!.aC<=dg vars inp j/\dg vars inp j<=vars[j]!.au)/\cL vars 1 i<=zZ inp.cC/\cL vars 2 i<=zZ inp.cq/\cL vars 3 i<=zZ inp.gQ)
  (λi b=>(vars[i]!.bQ=1/\zZ inp.cC<=cL vars 1 i)\/(vars[i]!.bQ=2/\zZ inp.cq<=cL vars 2 i)\/(vars[i]!.bQ=3/\zZ inp.gQ<=cL vars 3 i)) (λi b hi hb=>by
  obtain⟨b,ok⟩:=b;obtain⟨rfl,hok,h1,h2,h3⟩:=hb;dsimp only at hok;obtain⟨i1,i2,hw⟩:=w3 hi hl;have c1:=gv hi 1;have c2:=gv hi 2;have c3:=gv hi 3;have l1:=Ka vars 1 i;have l2:=Ka vars 2 i;have l3:=Ka vars 3 i;have w1:ak ((cL vars 1 i:Int)+1)=((cL vars 1 i+1:Nat):Int):=by rw[aI];omega
  have w2:ak ((cL vars 2 i:Int)+1)=((cL vars 2 i+1:Nat):Int):=by rw[aI];omega
  have w3:ak ((cL vars 3 i:Int)+1)=((cL vars 3 i+1:Nat):Int):=by rw[aI];omega
  have hs:=Tq (dg vars inp) i;have hlen:∀x:Int,zZ ((zy i).map (dg vars inp)++[x])<=1073741824:=λx=>by simp;omega
  have flag:∀(x:Int),x=dg vars inp i->∀ok':Bool,ok'=(if x<vars[i]!.aC\/vars[i]!.au<x then O else ok)->(ok'=Z↔∀j,j<i+1->vars[j]!.aC<=dg vars inp j/\dg vars inp j<=vars[j]!.au):=λx hx ok' he=>by
   subst hx;rw[he];constructor
   ·intro hok' j hj;split at hok'
    ·cases hok'
    rename_i hb;by_cases hji:j=i
    ·subst hji;omega
    ·exact hok.1 hok' j aj
   ·intro h;have:=h i aj;rw[nB];exact hok.2 λj hj=>h j aj
  by_cases k1:vars[i]!.bQ=1
  ·have ev:dg vars inp i=inp.cC[cL vars 1 i]! :=by unfold dg;rw[bO k1]
   rw[k1]at c1 c2 c3;simp only[lG,Int.reduceEq,yG]at c1 c2 c3;by_cases hm:cL vars 1 i<zZ inp.cC
   ·refine .inl ⟨((zy (i+1)).map (dg vars inp),if dg vars inp i<vars[i]!.aC\/vars[i]!.au<dg vars inp i then O else ok),?_,rfl,flag _ rfl _ rfl,aj,aj,aj⟩;unfold sD qz;dsimp only;rw[hs,c1,c2,c3];simp only[dS,dP,i1,i2,k1,dx,Fo hm,<-ev,hlen,w1,hw];by_cases q1:dg vars inp i<vars[i]!.aC
    ·simp only[q1,mG,fZ,true_or,dx]
    ·by_cases q2:vars[i]!.au<dg vars inp i
     ·simp only[dS,dP,q1,q2,or_true,dx]
     ·simp only[q1,q2,mF,fO,or_self,AE]
   ·refine .inr ⟨?_, .inl ⟨k1,aj⟩⟩;unfold sD qz;simp only[dS,dP,i1,i2,k1,dx,qV (show zZ inp.cC<=cL vars 1 i by omega)]
  by_cases k2:vars[i]!.bQ=2
  ·have ev:dg vars inp i=inp.cq[cL vars 2 i]! :=by unfold dg;rw[bP k1,bO k2]
   rw[k2]at c1 c2 c3;simp only[lG,Int.reduceEq,yG]at c1 c2 c3;by_cases hm:cL vars 2 i<zZ inp.cq
   ·refine .inl ⟨((zy (i+1)).map (dg vars inp),if dg vars inp i<vars[i]!.aC\/vars[i]!.au<dg vars inp i then O else ok),?_,rfl,flag _ rfl _ rfl,aj,aj,aj⟩;unfold sD qz;dsimp only;rw[hs,c1,c2,c3];simp only[dS,dP,i1,i2,k1,k2,Int.reduceEq,dx,Fo hm,<-ev,hlen,w2,hw];by_cases q1:dg vars inp i<vars[i]!.aC
    ·simp only[q1,mG,fZ,true_or,dx]
    ·by_cases q2:vars[i]!.au<dg vars inp i
     ·simp only[dS,dP,q1,q2,or_true,dx]
     ·simp only[q1,q2,mF,fO,or_self,AE]
   ·refine .inr ⟨?_, .inr (.inl ⟨k2,aj⟩)⟩;unfold sD qz;simp only[dS,dP,i1,i2,k2,Int.reduceEq,dx,qV (show zZ inp.cq<=cL vars 2 i by omega)]
  by_cases k3:vars[i]!.bQ=3
  ·have ev:dg vars inp i=inp.gQ[cL vars 3 i]! :=by unfold dg;rw[bP k1,bP k2,bO k3]
   rw[k3]at c1 c2 c3;simp only[lG,Int.reduceEq,yG]at c1 c2 c3;by_cases hm:cL vars 3 i<zZ inp.gQ
   ·refine .inl ⟨((zy (i+1)).map (dg vars inp),if dg vars inp i<vars[i]!.aC\/vars[i]!.au<dg vars inp i then O else ok),?_,rfl,flag _ rfl _ rfl,aj,aj,aj⟩;unfold sD qz;dsimp only;rw[hs,c1,c2,c3];simp only[dS,dP,i1,i2,k1,k2,k3,Int.reduceEq,dx,Fo hm,<-ev,hlen,w3,hw];by_cases q1:dg vars inp i<vars[i]!.aC
    ·simp only[q1,mG,fZ,true_or,dx]
    ·by_cases q2:vars[i]!.au<dg vars inp i
     ·simp only[dS,dP,q1,q2,or_true,dx]
     ·simp only[q1,q2,mF,fO,or_self,AE]
   ·refine .inr ⟨?_, .inr (.inr ⟨k3,aj⟩)⟩;unfold sD qz;simp only[dS,dP,i1,i2,k3,Int.reduceEq,dx,qV (show zZ inp.gQ<=cL vars 3 i by omega)]
  ·have ev:dg vars inp i=vars[i]!.eB:=by unfold dg;rw[bP k1,bP k2,bP k3]
   rw[bP k1]at c1;rw[bP k2]at c2;rw[bP k3]at c3;simp only[yG]at c1 c2 c3;refine .inl ⟨((zy (i+1)).map (dg vars inp),if dg vars inp i<vars[i]!.aC\/vars[i]!.au<dg vars inp i then O else ok),?_,rfl,flag _ rfl _ rfl,aj,aj,aj⟩;unfold sD qz;dsimp only;rw[hs,c1,c2,c3];simp only[dS,dP,i1,i2,k1,k2,k3,dx,<-ev,hlen,hw];by_cases q1:dg vars inp i<vars[i]!.aC
   ·simp only[q1,mG,fZ,true_or,dx]
   ·by_cases q2:vars[i]!.au<dg vars inp i
    ·simp only[dS,dP,q1,q2,or_true,dx]
    ·simp only[q1,q2,mF,fO,or_self,AE]) (λb _=>by unfold sD qz;simp) (b:=([],Z)) ⟨by simp,⟨λ_ j hj=>aj,λ_=>rfl⟩,by simp[cL],by simp[cL],by simp[cL]⟩
 obtain⟨b,ok⟩:=v;obtain⟨hbv,hok,h1,h2,h3⟩:=hI;dsimp only at hbv hok;have e1':Xz ⟨vars,0,0,0,[],Z,0,inp⟩=M ⟨vars,(cL vars 1 i:Int),(cL vars 2 i:Int),(cL vars 3 i:Int),b,ok,(i:Int),inp⟩:=e1;unfold m76 qz;rw[e1'];dsimp only;rcases hc with rfl|⟨hi,hc⟩
 ·rw[gI,fO];by_cases d1:cL vars 1 vars.length=zZ inp.cC
  ·by_cases d2:cL vars 2 vars.length=zZ inp.cq
   ·by_cases d3:cL vars 3 vars.length=zZ inp.gQ
    ·have g1:(cL vars 1 vars.length:Int)=(zZ inp.cC:Int):=aj;have g2:(cL vars 2 vars.length:Int)=(zZ inp.cq:Int):=aj;have g3:(cL vars 3 vars.length:Int)=(zZ inp.gQ:Int):=aj;simp only[dP,g1,g2,g3,mG];cases ok with
     |false=>exact⟨_,rfl,λh=>(by cases h),λh=>by have:=hok.2 h.b;cases this⟩
     |true=>exact⟨_,rfl,λ_=>⟨hbv,⟨d1.symm,d2.symm,d3.symm,hok.1 rfl⟩⟩,λ_=>rfl⟩
    ·have g1:(cL vars 1 vars.length:Int)=(zZ inp.cC:Int):=aj;have g2:(cL vars 2 vars.length:Int)=(zZ inp.cq:Int):=aj;have g3:¬(cL vars 3 vars.length:Int)=(zZ inp.gQ:Int):=aj;simp only[dS,dP,g1,g2,g3];exact⟨_,rfl,λh=>(by cases h),λh=>by have:=h.s;have:=h.p;have:=h.r;exfalso;omega⟩
   ·have g1:(cL vars 1 vars.length:Int)=(zZ inp.cC:Int):=aj;have g2:¬(cL vars 2 vars.length:Int)=(zZ inp.cq:Int):=aj;simp only[dS,dP,g1,g2];exact⟨_,rfl,λh=>(by cases h),λh=>by have:=h.s;have:=h.p;have:=h.r;exfalso;omega⟩
  ·have g1:¬(cL vars 1 vars.length:Int)=(zZ inp.cC:Int):=aj;simp only[dP,g1,mF];exact⟨_,rfl,λh=>(by cases h),λh=>by have:=h.s;have:=h.p;have:=h.r;exfalso;omega⟩
 ·have i1:(i:Int)<(zZ vars:Int):=aj;have i2:(0:Int)<=(i:Int):=aj;have s1:=gv hi 1;have s2:=gv hi 2;have s3:=gv hi 3;have mo:=λk=>mM (vars:=vars) (k:=k) (i:=i+1) (j:=zZ vars) aj (zx _);rcases hc with ⟨k,hm⟩|⟨k,hm⟩|⟨k,hm⟩<;>simp only[dS,dP,i1,i2,k,Int.reduceEq,dx,qV hm]<;>exact⟨_,rfl,λh=>(by cases h),λh=>by have:=h.s;have:=h.p;have:=h.r;have:=mo 1;have:=mo 2;have:=mo 3;exfalso;simp only[lG,k,Int.reduceEq]at s1 s2 s3;omega⟩
def qU{α:Type}[Inhabited α]{c:Nat->α->Int}:∀{l:aa α} {i:Nat},dZ c l i=0->∀j,j<zZ l->c (i+j) l[j]! =0
 |[],_,_,j,h=>by simp at h
 |x::l,i,h,j,hj=>by
  unfold dZ at h;split at h
  case isFalse h1=>exact iy h h1
  rename_i h0;cases j with
  |zero=>simpa using h0
  |succ j=>
   have:=qU h j (by simpa using hj);rw[show i+(j+1)=i+1+j by omega];exact this
def atY{f:bn}{i:Nat}{h:dO}(hc:lB f i h=0):(-1048576<=h.aC/\h.aC<=h.au/\h.au<=1048576)/\iX f.ah Z h.aB=0:=by
 unfold lB at hc;split at hc
 ·cases hc
 split at hc
 ·cases hc
 split at hc
 ·cases hc
 rename_i hb;unfold jD at hb;simp_all
structure W0 (f:bn):Prop where
 vars:cg f.ah
 hat:∀i,i<zZ f.ai->(-1048576<=f.ai[i]!.aC/\f.ai[i]!.aC<=f.ai[i]!.au/\f.ai[i]!.au<=1048576)/\iX f.ah Z f.ai[i]!.aB=0
 steps:cK f Z f.bG=0
 o:(dR f.bG).2.1<=8
 t:(dR f.bG).2.2<=67108864
def Er{f:bn}(h:Aa f=0):W0 f:=by
 have hv:=P8 h;unfold Aa at h;split at h
 ·cases h
 split at h
 ·omega
 split at h
 ·omega
 rename_i h3;split at h
 ·omega
 rename_i h4;split at h
 ·cases h
 rename_i h5;have h3:dZ (lB f) f.ai 0=0:=by simpa using h3
 have h4:cK f Z f.bG=0:=by simpa using h4
 unfold Wp at h5;simp only[decide_eq_true_eq]at h5;exact⟨hv,λi hi=>atY (i:=0+i) (qU h3 i hi),h4,aj,aj⟩
def QG(f:bn)(vals:aa Int):aa Int:=f.ai.map λh=>gC (cV vals h.aB) h.aC h.au
def aw5{f:bn}(hf:W0 f)(hl:zZ f.ai<=1000000){vals:aa Int}(hV:vM f.ah vals):m78 f vals=M (QG f vals):=by
 obtain⟨v,e1,hI⟩:=cZ (rnd:=Xi) (zZ f.ai) (λi (b:aa Int)=>⟨vals,b,(i:Int),f⟩) (λi b=>b=(f.ai.take i).map λh=>gC (cV vals h.aB) h.aC h.au) (λi b hi hb=>by
  obtain⟨i1,i2,hw⟩:=w3 hi hl;obtain⟨ev,_,_⟩:=u6 hf.vars hV Z f.ai[i]!.aB (hf.hat i hi).2;have hlen:zZ b<=1000000:=by rw[hb];simp;omega
  have hl2:∀x:Int,zZ (b++[x])<=1073741824:=λx=>by simp;omega
  refine⟨b++[gC (cV vals f.ai[i]!.aB) f.ai[i]!.aC f.ai[i]!.au],?_,by rw[bV hi,zH,hb];rfl⟩;unfold Xi PO;simp only[dS,i1,i2,fZ,dx,ay.eta,ev,Mq,hl2,hw]) (λb _=>by unfold Xi PO;simp) (b:=[]) (by simp)
 rw[yh]at hI;have e1':WH ⟨vals,[],0,f⟩=M ⟨vals,v,(zZ f.ai:Int),f⟩:=e1;unfold m78 PO;rw[e1'];dsimp only;rw[gI,fO,hI];rfl
def I5{vars:aa bf}{inp:fu}(h:ki vars inp):vM vars (gE vars inp):=by
 refine⟨by simp[gE],λi hi=> ?_⟩;have e:(gE vars inp)[i]! =dg vars inp i:=by
  unfold gE;rw[getElem!_pos _ i (by simpa using hi),yy,xZ]
 rw[e];exact h.b i hi
def L6(f:bn)(inp:fu):CS:=eO f (QG f (gE f.ah inp)) f.bG ⟨gE f.ah inp,[],0⟩
def aBS{f:bn}(hf:W0 f){inp:fu}(h:ki f.ah inp):rA f Z f.bG ⟨gE f.ah inp,[],0⟩:=by
 have:=hf.o;have:=hf.t;exact⟨hf.steps,I5 h,zG _,by show (0:Int)+_<=_;omega,by show (((0:Nat):Int))+_<=_;omega⟩
def rA.run{f:bn}(hv:cg f.ah){hs:aa Int}:∀{top:Bool} {l:aa aM} {s:CS},rA f top l s->rA f top [] (eO f hs l s)
 |_,[],_,h=>by rw[vh];exact h
 |_,x::l,s,h=>by rw[qX];exact rA.run hv (h.next hv)
def auB{f:bn}(hc:Aa f=0)(h80:gF f.bG+kR (f.ai.map (·.aB))<=80)(hh:zZ f.ai<=10)(hvl:zZ f.ah<=10)(inp:fu):
  ∃p,m38 f inp=M p/\(p.2=0->p.1=iB (L6 f inp)/\ki f.ah inp)/\(ki f.ah inp->p.2=0):=by
 have hf:=Er hc;obtain⟨p,e1,hp,hq⟩:=asy f.ah aj inp;unfold m38;rw[adK f aj aj aj,hc];simp only[e1];by_cases h0:p.2=0
 ·obtain⟨q1,q2⟩:=hp h0;have hV:=I5 q2;have e2:r77 f (QG f (gE f.ah inp)) f.bG (iB ⟨gE f.ah inp,[],0⟩)=M (iB (L6 f inp)):=dc (2*zi f.bG+1) λn hn=>(aex hf.vars aj (by simp[QG]) n).1 Z f.bG _ aj aj (aBS hf q2);simp only[h0,q1,aw5 hf aj hV];rw[show cG.mk (gE f.ah inp) [] 0=iB ⟨gE f.ah inp,[],0⟩from rfl,e2];exact⟨_,rfl,λ_=>⟨rfl,q2⟩,λ_=>rfl⟩
 ·simp only[h0];exact⟨_,rfl,λh=>iy h h0,λh=>iy (hq h) h0⟩
end Go.Proofs.YtghilkcphindjaaGreat
namespace Go.Proofs.YtghilkcphindjaaGreat
open Go Go.Iv BT
structure SD (k n:Nat) (S:List Bool->CS) (s:aF):Prop where
 vals:VD k n (λe=>(S e).vals) s.aV
 cnt:Dm k (λe=>(zZ (S e).outs:Int)) s.aJ
 outs:VD k 8 (λe=>(S e).outs) s.cM
 time:Dm k (λe=>(S e).time) s.aN
def VD.congr{k n:Nat}{V W:aa Bool->aa Int}{vs:aa aq}(h:VD k n V vs)(e:∀x:aa Bool,zZ x=k->V x=W x):VD k n W vs:=⟨h.len,λi hi=>(h.at_ i hi).congr λx hx=>by rw[e x hx]⟩
def SD.congr{k n:Nat}{S T:aa Bool->CS}{s:aF}(h:SD k n S s)(e:∀x:aa Bool,zZ x=k->S x=T x):SD k n T s:=
 ⟨h.vals.congr λx hx=>by rw[e x hx],h.cnt.congr λx hx=>by rw[e x hx],h.outs.congr λx hx=>by rw[e x hx],h.time.congr λx hx=>by rw[e x hx]⟩
def VD.oU{k n:Nat}{V:aa Bool->aa Int}{vs ws:aa aq}(h:VD k n V vs)(h':VD k n V ws):vs=ws:=by
 have l1:=h.len;have l2:=h'.len
 refine xI aj λi h1 h2=> ?_;have q1:=h.at_ i aj;have q2:=h'.at_ i aj;rw[getElem!_pos vs i h1]at q1;rw[getElem!_pos ws i h2]at q2;exact q1.oU q2
def SD.oU{k n:Nat}{S:aa Bool->CS}{s t:aF}(h:SD k n S s)(h':SD k n S t):s=t:=by
 obtain⟨a,b,c,d⟩:=s;obtain⟨a',b',c',d'⟩:=t;have e1:a=a':=h.vals.oU h'.vals;have e2:b=b':=h.cnt.oU h'.cnt;have e3:c=c':=h.outs.oU h'.outs;have e4:d=d':=h.time.oU h'.time;subst e1 e2 e3 e4;rfl
def ri{α:Type}[Inhabited α]{l:aa α}{i j:Nat}(x:α)(h:j<zZ l):(l.set i x)[j]! =if i=j then x else l[j]! :=by
 rw[getElem!_pos (l.set i x) j (by rw[yq];exact h),getElem!_pos l j h,List.getElem_set]
def VD.set{k n:Nat}{V:aa Bool->aa Int}{vs:aa aq}(h:VD k n V vs){v:Nat}(hv:v<n){F:aa Bool->Int}{d:aq}(hd:Dm k F d)(hl:∀e:aa Bool,zZ e=k->zZ (V e)=n):VD k n (λe=>(V e).set v (F e)) (vs.set v d):=by
 refine⟨by rw[yq];exact h.len,λi hi=> ?_⟩;rw[ri d (by rw[h.len];exact hi)];by_cases e:v=i
 ·rw[bO e];exact hd.congr λx hx=>by rw[ri _ (by rw[hl x hx];exact hi),bO e]
 ·rw[bP e];exact(h.at_ i hi).congr λx hx=>by rw[ri _ (by rw[hl x hx];exact hi),bP e]
structure Fil (k n i:Nat) (F:Nat->List Bool->Int) (G:Nat->List Bool->Int) (vs:List aq):Prop where
 len:zZ vs=n
 lo:∀j,j<i->Dm k (F j) vs[j]!
 hi:∀j,i<=j->j<n->Dm k (G j) vs[j]!
def Fil.next{k n i:Nat}{F G:Nat->aa Bool->Int}{vs:aa aq}(h:Fil k n i F G vs)(hi:i<n){d:aq}(hd:Dm k (F i) d):Fil k n (i+1) F G (vs.set i d):=by
 refine⟨by rw[yq];exact h.len,λj hj=> ?_,λj hj hn=> ?_⟩
 ·rw[ri d (by rw[h.len];omega)];by_cases e:i=j
  ·rw[bO e,<-e];exact hd
  ·rw[bP e];exact h.lo j aj
 ·rw[ri d (by rw[h.len];omega),nB];exact h.hi j aj hn
section
variable {k n:Nat} {X:aK}
abbrev Z2:aF:=⟨[],⟨0,[],[],0⟩,[],⟨0,[],[],0⟩⟩
def rC{l:aa aq}(h:zZ l<=1000000):EK l=M l:=by
 unfold EK;rw[Dx]
def aaB(hk:k<=12){f:bn}(hv:cg f.ah)(hn:zZ f.ah<=1000000)(hf:X.fF=f){S:aa Bool->CS}{s:aF}(hs:SD k (zZ f.ah) S s)(hS:∀e:aa Bool,zZ e=k->vM f.ah (S e).vals){v:Int}(h1:0<=v)(h2:v<zZ f.ah){F:aa Bool->Int}{d:aq}(hd:Dm k F d):∃r,aaN s v d X=M (r,X)/\SD k (zZ f.ah) (λe=>arP f (S e) v (F e)) r:=by
 obtain⟨q1,q2,q3⟩:=hv _ (bg (show v.toNat<zZ f.ah by omega));obtain⟨d',e,D⟩:=Sr hk hd q2 (eX aj aj) (eX aj aj);have lv:=hs.vals.len;have lo:=hs.outs.len;have c1:(0:Int)<=v/\v<(zZ s.aV:Int):=by rw[lv];exact⟨h1,h2⟩
 have c2:v.toNat<zZ s.aV:=aj;refine⟨⟨s.aV.set v.toNat d',s.aJ,s.cM,s.aN⟩,?_,⟨hs.vals.set (v:=v.toNat) aj D (λe he=>(hS e he).1),hs.cnt,hs.outs,hs.time⟩⟩;unfold aaN;rw[rC aj,rC aj,hf];simp only[h2,Au,dx,e,c1,c2]
def OM(hk:k<=12)(hn:n<=1000000){C:aa Bool->Int}{c:cz}(hc:Db k C c){S T:aa Bool->CS}{a b:aF}(ha:SD k n S a)(hb:SD k n T b):∃r,ae3 c a b X=M (r,X)/\SD k n (λe=>if C e=1 then S e else T e) r:=by
 have lv:=hb.vals.len;have lo:=hb.outs.len;have la:=ha.vals.len;have lao:=ha.outs.len;obtain⟨vs,e1,V⟩:=cZ (rnd:=Jp) n (λi (vs:aa aq)=>⟨(zZ b.aV:Int),(i:Int),X,c,a,b,Z2,⟨vs,b.aJ,b.cM,b.aN⟩⟩) (λi vs=>Fil k n i (λj e=>if C e=1 then(S e).vals[j]! else(T e).vals[j]!) (λj e=>(T e).vals[j]!) vs) (λi vs hi hI=>by
  obtain⟨d,q,D⟩:=kf hk hc (ha.vals.at_ i hi) (hb.vals.at_ i hi) X;have hw:=jy hi aj;have hl:=hI.len;have i1:(i:Int)<(zZ b.aV:Int):=aj;have i2:(0:Int)<=(i:Int):=aj;have i3:(i:Int)<(zZ a.aV:Int):=aj;have i4:(i:Int)<(zZ vs:Int):=aj;have i5:i<zZ vs:=aj;refine⟨vs.set i d,?_,hI.next hi D⟩;unfold Jp FW;simp only[dS,i1,i2,i3,i4,i5,fZ,dx,q,hw]) (λvs _=>by
  unfold Jp FW;simp only[lv,zO,mF,fO]) (b:=b.aV) ⟨lv,λj hj=>aj,λj _ hj=>hb.vals.at_ j hj⟩
 obtain⟨os,e2,W⟩:=cZ (rnd:=Rb) 8 (λi (os:aa aq)=>⟨(zZ b.cM:Int),(i:Int),X,c,a,b,Z2,⟨vs,b.aJ,os,b.aN⟩⟩) (λi os=>Fil k 8 i (λj e=>if C e=1 then(S e).outs[j]! else(T e).outs[j]!) (λj e=>(T e).outs[j]!) os) (λi os hi hI=>by
  obtain⟨d,q,D⟩:=kf hk hc (ha.outs.at_ i hi) (hb.outs.at_ i hi) X;have hw:=jy hi aj;have hl:=hI.len;have i1:(i:Int)<(zZ b.cM:Int):=aj;have i2:(0:Int)<=(i:Int):=aj;have i3:(i:Int)<(zZ a.cM:Int):=aj;have i4:(i:Int)<(zZ os:Int):=aj;have i5:i<zZ os:=aj;refine⟨os.set i d,?_,hI.next hi D⟩;unfold Rb Mz;simp only[dS,i1,i2,i3,i4,i5,fZ,dx,q,hw]) (λos _=>by
  simp only[lo];rfl) (b:=b.cM) ⟨lo,λj hj=>aj,λj _ hj=>hb.outs.at_ j hj⟩
 obtain⟨d3,q3,D3⟩:=kf hk hc ha.cnt hb.cnt X;obtain⟨d4,q4,D4⟩:=kf hk hc ha.time hb.time X;have e1':JU ⟨(zZ b.aV:Int),0,X,c,a,b,Z2,b⟩=M ⟨(zZ b.aV:Int),(n:Int),X,c,a,b,Z2,⟨vs,b.aJ,b.cM,b.aN⟩⟩:=e1;have e2':JP ⟨(zZ b.cM:Int),0,X,c,a,b,Z2,⟨vs,b.aJ,b.cM,b.aN⟩⟩=M ⟨(zZ b.cM:Int),(8:Nat),X,c,a,b,Z2,⟨vs,b.aJ,os,b.aN⟩⟩:=e2;refine⟨⟨vs,d3,os,d4⟩,?_,⟨⟨V.len,λi hi=>(V.lo i hi).congr λe _=>by split<;>rfl⟩,D3.congr λe _=>by split<;>rfl,⟨W.len,λi hi=>(W.lo i hi).congr λe _=>by split<;>rfl⟩,D4.congr λe _=>by split<;>rfl⟩⟩;unfold ae3 FW Mz;rw[rC aj,rC aj];dsimp only;rw[e1'];dsimp only;rw[gI,fO,e2'];dsimp only;rw[gI,fO,q3];dsimp only;rw[q4]
def aka{l:aa Int}{x:Int}{i:Nat}:(l++[x])[i]! =if zZ l=i then x else l[i]! :=by
 by_cases h:zZ l=i
 ·subst h;simp
 ·rw[bP h];by_cases h2:i<zZ l
  ·rw[getElem!_pos (l++[x]) i (by simp;omega),getElem!_pos l i h2,xW h2]
  ·rw[getElem!_neg (l++[x]) i (by simp;omega),getElem!_neg l i h2]
def Y0(hk:k<=12)(hn:n<=1000000)(hX:X.ah=(k:Int)){S:aa Bool->CS}{s:aF}(hs:SD k n S s)(hS:∀e:aa Bool,zZ e=k->zZ (S e).outs<=8){F:aa Bool->Int}{d:aq}(hd:Dm k F d):∃r,anH s d X=M (r,X)/\SD k n (λe=>⟨(S e).vals,(S e).outs++[F e],(S e).time⟩) r:=by
 have lv:=hs.vals.len;have lo:=hs.outs.len;obtain⟨os,e1,W⟩:=cZ (rnd:=RU) 8 (λi (os:aa aq)=>⟨(zZ s.cM:Int),(i:Int),X,⟨s.aV,s.aJ,os,s.aN⟩,d,Z2⟩) (λi os=>Fil k 8 i (λj e=>((S e).outs++[F e])[j]!) (λj e=>(S e).outs[j]!) os) (λi os hi hI=>by
  obtain⟨d1,q1,D1⟩:=GQ (z:=(i:Int)) hk hs.cnt X;obtain⟨d2,q2,D2⟩:=kf hk D1 hd (hI.hi i (zx _) hi) X;have hw:=jy hi aj;have hl:=hI.len;have i1:(i:Int)<(zZ s.cM:Int):=aj;have i2:(0:Int)<=(i:Int):=aj;have i4:(i:Int)<(zZ os:Int):=aj;have i5:i<zZ os:=aj;refine⟨os.set i d2,?_,hI.next hi (D2.congr λe _=> ?_)⟩
  ·unfold RU KG;simp only[dS,i1,i2,i4,i5,fZ,dx,q1,q2,hw]
  ·rw[aka];by_cases h:zZ (S e).outs=i
   ·omega
   ·rw[bP h,bP (by rw[nB];decide)]) (λos _=>by
  simp only[lo];rfl) (b:=s.cM) ⟨lo,λj hj=>aj,λj _ hj=>hs.outs.at_ j hj⟩
 obtain⟨c1,ce,cc,cD⟩:=tJ hk (x:=1) rfl X hX;obtain⟨d3,q3,D3⟩:=Yf hk hs.cnt cD (λe he=>by have:=hS e he;exact eX aj aj) X;have e1':Kw ⟨(zZ s.cM:Int),0,X,s,d,Z2⟩=M ⟨(zZ s.cM:Int),(8:Nat),X,⟨s.aV,s.aJ,os,s.aN⟩,d,Z2⟩:=e1;refine⟨⟨s.aV,d3,os,s.aN⟩,?_,⟨hs.vals,D3.congr λe _=>by simp,⟨W.len,W.lo⟩,hs.time⟩⟩;unfold anH KG;rw[rC aj,rC aj];dsimp only;rw[e1'];grind
def agk(hk:k<=12)(hX:X.ah=(k:Int)){F:aa Bool->Int}{d:aq}(hd:Dm k F d){c:Int}(hc:gh c)(hP:∀e:aa Bool,zZ e=k->gh (F e+c)):∃r,ij 0 d (aq.mk (fh c X).fst.ah (fh c X).fst.aG [] (fh c X).fst.aH) (fh c X).snd=M (r,X)/\Dm k (λe=>F e+c) r:=by
 obtain⟨c1,ce,cc,cD⟩:=tJ hk hc X hX;obtain⟨r,q,D⟩:=Yf hk hd cD hP X;simp_all
def WB{γ:Type}{rnd:γ->Nat->af γ}{n:Nat}(I:γ->Prop)(h:∀p i,i<n->I p->∃q,rnd p i=M q/\I q):∀(l:aa Nat) (p:γ),(∀i∈l,i<n)->I p->∃q,rfF rnd p l=M q
 |[],p,_,_=>⟨p,rfl⟩
 |i::l,p,hl,hp=>by
  obtain⟨q,e,hq⟩:=h p i (hl i (zm ..)) hp;obtain⟨r,e2⟩:=WB I h l q (λj hj=>hl j (zM _ hj)) hq;exact⟨r,by show (rnd p i).bind _=_;rw[e];exact e2⟩
def U5{γ:Type}{rnd:γ->Nat->af γ}{n:Nat}(ze:Nat->γ->Prop)(h:∀p i,i<n->ze i p->∃q,rnd p i=M q/\ze (i+1) q){p:γ}(hp:ze 0 p):∀m,m<=n->∃q,rfF rnd p (zy m)=M q/\ze m q
 |0,_=>⟨p,rfl,hp⟩
 |m+1,hm=>by
  obtain⟨q,e,hq⟩:=U5 ze h hp m aj;obtain⟨r,e2,hr⟩:=h q m aj hq;exact⟨r,by rw[xH,uN,e];exact e2,hr⟩
def aay{γ:Type}{rnd:γ->Nat->af γ}{len:γ->Nat}{p:γ}(I:γ->Prop)(ze:Nat->γ->Prop)(hI:∀q i,i<len p->I q->∃r,rnd q i=M r/\I r)(hJ:∀q i,i<len p->ze i q->∃r,rnd q i=M r/\ze (i+1) r)(h0:I p)(h1:ze 0 p):∃q,rfA rnd len p=M q/\ze (len p) q:=by
 obtain⟨q,e,hq⟩:=U5 ze hJ h1 (len p) (zx _);refine⟨q,?_,hq⟩;unfold rfA;rw[bO λpre _ hp=>WB I hI pre p hp h0,e]
def Yz(hk:k<=12)(hX:X.ah=(k:Int)){T:aa Bool->Int}{d:aq}(hd:Dm k T d){l:aa Int}(hl:∀i,i<zZ l->gh l[i]!):∃r,acU d l X=M (r,X)/\Dm k (λe=>jS l (T e)) r:=by
 have rnd:∀(q:aq) (Q:aa Bool->Int) (i:Nat),i<zZ l->Dm k Q q->∃r,oo ⟨X,d,⟨0,[],[],0⟩,q,l⟩ i=M ⟨X,d,⟨0,[],[],0⟩,r,l⟩/\Dm k (λe=>if T e<=l[zZ l-1-i]! then l[zZ l-1-i]! else Q e) r:=λq Q i hi hq=>by
  obtain⟨c1,ce,cc,cD⟩:=tJ hk (hl (zZ l-1-i) aj) X hX;obtain⟨d1,q1,D1⟩:=opD hk (o:=7) aj aj cD hd (λe he=>congrArg M (ng _)) (λe he=>JT _) X;obtain⟨d2,q2,D2⟩:=GQ (z:=0) hk D1 X;obtain⟨d3,q3,D3⟩:=kf hk D2 cD hq X;refine⟨d3,?_,D3.congr λe _=> ?_⟩
  ·unfold oo;simp only[ce,cc,q1,q2,q3]
  ·by_cases h:T e<=l[zZ l-1-i]!
   ·rw[bO h,bO];unfold eP;simp only[decide_eq_true_eq];omega
   ·rw[bP h,bP];rw[bP]
    ·decide
    ·unfold eP;rw[bO (by simp only[decide_eq_true_eq];omega)];decide
 obtain⟨q,e,hq⟩:=aay (rnd:=oo) (len:=λp=>zZ (pY p.b5)) (p:=⟨X,d,⟨0,[],[],0⟩,d,l⟩) (λp=>∃r Q,p=⟨X,d,⟨0,[],[],0⟩,r,l⟩/\Dm k Q r) (λi p=>∃r,p=⟨X,d,⟨0,[],[],0⟩,r,l⟩/\Dm k (λe=>jS (l.drop (zZ l-i)) (T e)) r) (λp i hi hp=>by
  obtain⟨r,Q,rfl,hr⟩:=hp;obtain⟨r',e',hr'⟩:=rnd r Q i (by rw[kU]at hi;exact hi) hr;exact⟨_,e',r',_,rfl,hr'⟩) (λp i hi hp=>by
  rw[kU]at hi;dsimp only at hi;obtain⟨r,rfl,hr⟩:=hp;obtain⟨r',e',hr'⟩:=rnd r _ i hi hr;refine⟨_,e',r',rfl,hr'.congr λe _=> ?_⟩;rw[show zZ l-(i+1)=zZ l-1-i by omega,drop_cons (show zZ l-1-i<zZ l by omega),jS,show zZ l-1-i+1=zZ l-i by omega]) ⟨d,T,rfl,hd⟩ ⟨d,rfl,hd.congr λe _=>by simp[jS]⟩
 obtain⟨r,rfl,hr⟩:=hq;rw[kU]at hr;have e':Ag ⟨X,d,⟨0,[],[],0⟩,d,l⟩=M ⟨X,d,⟨0,[],[],0⟩,r,l⟩:=e;refine⟨r,?_,hr.congr λe _=>by simp⟩;unfold acU;rw[e']
end
def SF{x:Int}:∀{k:Nat} {v:Int} {F:aa Bool->Int},tf k v F= .leaf x->∀e:aa Bool,zZ e=k->F e=x
 |0,_,F,h,[],_=>by
  simp only[tf]at h;simp_all
 |k+1,_,F,h,b::e,he=>by
  simp only[tf,lS]at h;split at h
  ·rename_i hab;cases b
   ·exact SF (F:=λe=>F (O::e)) h e (by simpa using he)
   ·exact SF (F:=λe=>F (Z::e)) (hab▸h) e (by simpa using he)
  ·cases h
section
variable {k:Nat} {X:aK} {f:bn} {hs:aa Bool->aa Int}
def aAe{B:aa Bool->Int}{c:cz}(hc:Db k B c)(h:c.aH=0):∀e:aa Bool,zZ e=k->B e≠1:=by
 have hr:=hc.root;rw[h]at hr;have ht:tf k 0 B= .leaf 0:=by
  cases ht:tf k 0 B with
  |leaf x=>
   rw[ht]at hr;have hz:zo x:=by have:=hc.zo;rw[ht]at this;exact this
   rcases hz with rfl|rfl
   ·rfl
   ·simp[num]at hr;revert hr;decide
  |node v a b=>
   rw[ht]at hr;simp only[num]at hr;have hL2:zZ j7=2:=rfl;omega
 intro e he h1;have:=SF (v:=0) ht e he;omega
def OK(hk:k<=12){n:Nat}(hn:n<=1000000){l:aa End}{C:Nat->aa Bool->Int}{A G:Nat->aa Bool->CS}(hC:∀j,j<zZ l->Db k (C j) l[j]!.FZ)(hA:∀j,j<zZ l->SD k n (A j) l[j]!.jm){b:aF}(hb:SD k n (G (zZ l)) b)(hG:∀j,j<zZ l->∀e:aa Bool,zZ e=k->(if C j e=1 then G (j+1) e else A j e)=G j e):∃r,oz ⟨X,b,Z2,l⟩=M ⟨X,r,Z2,l⟩/\SD k n (G 0) r:=by
 have rnd:∀(q:aF) (Q:aa Bool->CS) (i:Nat),i<zZ l->SD k n Q q->∃r,oF ⟨X,q,Z2,l⟩ i=M ⟨X,r,Z2,l⟩/\SD k n (λe=>if C (zZ l-1-i) e=1 then Q e else A (zZ l-1-i) e) r:=λq Q i hi hq=>by
  obtain⟨r,q1,D1⟩:=OM (X:=X) hk hn (hC (zZ l-1-i) aj) hq (hA (zZ l-1-i) aj);refine⟨r,?_,D1⟩;unfold oF Bk;simp only[q1]
 obtain⟨q,e,hq⟩:=aay (rnd:=oF) (len:=λp=>zZ (pz p.b4)) (p:=⟨X,b,Z2,l⟩) (λp=>∃r Q,p=⟨X,r,Z2,l⟩/\SD k n Q r) (λi p=>∃r,p=⟨X,r,Z2,l⟩/\SD k n (G (zZ l-i)) r) (λp i hi hp=>by
  obtain⟨r,Q,rfl,hr⟩:=hp;obtain⟨r',e',hr'⟩:=rnd r Q i (by rw[kJ]at hi;exact hi) hr;exact⟨_,e',r',_,rfl,hr'⟩) (λp i hi hp=>by
  rw[kJ]at hi;dsimp only at hi;obtain⟨r,rfl,hr⟩:=hp;obtain⟨r',e',hr'⟩:=rnd r _ i hi hr;refine⟨_,e',r',rfl,hr'.congr λe he=> ?_⟩;rw[show zZ l-(i+1)=zZ l-1-i by omega,<-hG (zZ l-1-i) aj e he,show zZ l-1-i+1=zZ l-i by omega]) ⟨b,_,rfl,hb⟩ ⟨b,rfl,hb⟩
 obtain⟨r,rfl,hr⟩:=hq;rw[kJ]at hr;have e':oz ⟨X,b,Z2,l⟩=M ⟨X,r,Z2,l⟩:=e;simp_all
def vb{α:Type}[Inhabited α]{l:aa α}{x:α}{j:Nat}:(j<zZ l->(l++[x])[j]! =l[j]!)/\(j=zZ l->(l++[x])[j]! =x):=by
 constructor
 ·intro h;rw[getElem!_pos (l++[x]) j (by simp;omega),getElem!_pos l j h,xW h]
 ·intro h;subst h;simp
def iw(f:bn)(hs:aa Bool->aa Int)(x:aM)(S:aa Bool->CS):Nat->aa Bool->CS
 |0=>S
 |j+1=>λe=>eO f (hs e) x.aQ ((iw f hs x S j e).add x.aW)
def OO(hv:cg f.ah){x:aM}{S:aa Bool->CS}{N:Nat}{e:aa Bool}(h:rO f x N (S e)):∀j,j<=N->rO f x (N-j) (iw f hs x S j e)
 |0,_=>h
 |j+1,hj=>by
  have i:=OO hv h j aj;rw[show N-j=N-(j+1)+1 by omega]at i;exact i.next hv (hs e)
def anG(hk:k<=12)(hv:cg f.ah)(hn:zZ f.ah<=1000000)(hX:X.ah=(k:Int))(M73:Hh)(M128:mA){x:aM}(hN:0<=x.fN/\x.fN<=4096){S:aa Bool->CS}{s:aF}(hB:∀e:aa Bool,zZ e=k->rO f x x.fN.toNat (S e))(hS:SD k (zZ f.ah) S s)
  (h1:∀(S:aa Bool->CS) (s:aF),(∀e:aa Bool,zZ e=k->rA f O x.aQ (S e))->SD k (zZ f.ah) S s->∃r,M73 x.aQ s X=M (r,X)/\SD k (zZ f.ah) (λe=>eO f (hs e) x.aQ (S e)) r):
  ∃r,auY M73 M128 x s X=M (r,X)/\SD k (zZ f.ah) (λe=>jP (eO f (hs e) x.aQ) x.aB x.aW x.fN.toNat (S e)) r:=by
 obtain⟨N,hNn⟩:∃N:Nat,x.fN=(N:Int):=⟨x.fN.toNat,aj⟩;have hNt:x.fN.toNat=N:=aj;rw[hNt]at hB ⊢;have e0:zZ (zq k O)=k:=yY;have hterm:=(hB _ e0).term;have bud:∀j,j<N->∀e:aa Bool,zZ e=k->rO f x (N-(j+1)+1) (iw f hs x S j e):=λj hj e he=>by
  have:=OO (hs:=hs) hv (hB e he) j aj;rw[show N-j=N-(j+1)+1 by omega]at this;omega
 have head:∀j,j<N->∀b:aF,SD k (zZ f.ah) (iw f hs x S j) b->∃d1 d2 g,ij 0 b.aN (aq.mk (fh x.aW X).fst.ah (fh x.aW X).fst.aG [] (fh x.aW X).fst.aH) (fh x.aW X).snd=M (d1,X)/\Eh ⟨b.aV,b.aJ,b.cM,d1⟩ x.aB X=M (d2,X)/\Ah d2 X=M (g,X)/\SD k (zZ f.ah) (λe=>(iw f hs x S j e).add x.aW) ⟨b.aV,b.aJ,b.cM,d1⟩/\Db k (λe=>if cV (iw f hs x S j e).vals x.aB=0 then 0 else 1) g:=λj hj b hb=>by
  have hc:=(hB _ e0).cost;have hT:∀e:aa Bool,zZ e=k->0<=(iw f hs x S j e).time/\(iw f hs x S j e).time+x.aW<=134217728:=λe he=>by
   have h0:=(bud j hj e he).t0;have hb:=(bud j hj e he).body.t;have hp:=jd f _ _ _ (zN _) (bud j hj e he).hc;simp only[CS.add]at hb;omega
  have hcP:x.aW<=134217728:=by have:=hT _ e0;omega
  obtain⟨d1,q1,D1⟩:=agk hk hX hb.time (c:=x.aW) (eX aj aj) (λe he=>by have:=hT e he;exact eX aj aj);have hb2:SD k (zZ f.ah) (λe=>(iw f hs x S j e).add x.aW) ⟨b.aV,b.aJ,b.cM,d1⟩:=⟨hb.vals,hb.cnt,hb.outs,D1⟩;obtain⟨d2,q2,D2⟩:=FA (inp:=O) (s:=⟨b.aV,b.aJ,b.cM,d1⟩) (V:=λe=>(iw f hs x S j e).vals) hk hv (λe he=>(bud j hj e he).vals) hX hb.vals hterm;obtain⟨g,q3,D3⟩:=FX hk D2 X;exact⟨d1,d2,g,q1,q2,q3,hb2,D3⟩
 obtain⟨i,v,e1,hI,hc⟩:=oO (rnd:=Fi M73 M128) N (λi (b:aa End×aF)=>⟨b.1,x.fN,(i:Int),X,x,b.2,Z2⟩)
  (λi b=>zZ b.1=i/\(∀j,j<i->Db k (λe=>if cV (iw f hs x S j e).vals x.aB=0 then 0 else 1) b.1[j]!.FZ/\SD k (zZ f.ah) (λe=>(iw f hs x S j e).add x.aW) b.1[j]!.jm)/\SD k (zZ f.ah) (iw f hs x S i) b.2)
  (λi b=>∀e:aa Bool,zZ e=k->cV (iw f hs x S i e).vals x.aB=0) (λi b hi hb=>by
  obtain⟨l,b⟩:=b;obtain⟨hl,hE,hb⟩:=hb;dsimp only at hl hE hb;obtain⟨d1,d2,g,q1,q2,q3,hb2,D3⟩:=head i hi b hb;have hw:ak ((i:Int)+1)=((i+1:Nat):Int):=by rw[aI];omega
  have i1:(i:Int)<x.fN:=aj;have hlen:zZ (l++[End.mk g ⟨b.aV,b.aJ,b.cM,d1⟩])<=1073741824:=by rw[zu,hl,y8];omega
  by_cases hr:g.aH=0
  ·refine .inr ⟨?_,λe he=> ?_⟩
   ·unfold Fi AI;simp only[i1,mG,fZ,q1,ay.eta,q2,q3,hlen,dx,hr]
   ·have:=aAe D3 hr e he;omega
  ·obtain⟨r,q4,D4⟩:=h1 _ _ (λe he=>(bud i hi e he).body) hb2;refine .inl ⟨(l++[End.mk g ⟨b.aV,b.aJ,b.cM,d1⟩],r),?_,?_,λj hj=> ?_,D4⟩
   ·unfold Fi AI;simp only[dS,dP,i1,q1,ay.eta,q2,q3,hlen,dx,hr,q4,aM.eta,hw]
   ·rw[zu,hl];rfl
   ·by_cases e:j=i
    ·subst e;dsimp only;rw[(vb (l:=l)).2 hl.symm];exact⟨D3,hb2⟩
    ·dsimp only;rw[(vb (l:=l)).1 aj];exact hE j aj) (λb _=>by
  unfold Fi AI;dsimp only;rw[gI];rfl) (b:=([],s)) ⟨rfl,λj hj=>aj,hS⟩
 obtain⟨l,b⟩:=v;obtain⟨hl,hE,hb⟩:=hI;dsimp only at hl hE hb;have e1':LO M73 M128 ⟨[],x.fN,0,X,x,s,Z2⟩=M ⟨l,x.fN,(i:Int),X,x,b,Z2⟩:=e1;unfold auY AI;rw[ay.eta,aM.eta,e1'];dsimp only;rcases hc with rfl|⟨hi,hz⟩
 ·
  have step:∀j,j<i->∀e:aa Bool,zZ e=k->(if(if cV (iw f hs x S j e).vals x.aB=0 then(0:Int)else 1)=1 then jP (eO f (hs e) x.aQ) x.aB x.aW (i-(j+1)) (iw f hs x S (j+1) e)else(iw f hs x S j e).add x.aW)=jP (eO f (hs e) x.aQ) x.aB x.aW (i-j) (iw f hs x S j e):=λj hj e he=>by
   rw[show i-j=i-(j+1)+1 by omega,jP];by_cases hz:cV (iw f hs x S j e).vals x.aB=0
   ·rw[bO hz,bO hz,bP (by decide)]
   ·rw[bP hz,bP hz,bO rfl];rfl
  obtain⟨r,q,D⟩:=OK (X:=X) hk hn (l:=l) (C:=λj e=>if cV (iw f hs x S j e).vals x.aB=0 then 0 else 1) (A:=λj e=>(iw f hs x S j e).add x.aW) (G:=λj e=>jP (eO f (hs e) x.aQ) x.aB x.aW (i-j) (iw f hs x S j e)) (λj hj=>(hE j aj).1) (λj hj=>(hE j aj).2) (b:=b) (by rw[hl];exact hb.congr λe _=>by rw[xb,jP]) (λj hj e he=>step j aj e he);rw[gI,fO];unfold ahx;rw[q];exact⟨r,rfl,D⟩
 ·
  obtain⟨d1,d2,g,q1,q2,q3,hb2,D3⟩:=head i hi b hb;have i1:(i:Int)<x.fN:=aj;have hlen:zZ (l++[End.mk g ⟨b.aV,b.aJ,b.cM,d1⟩])<=1073741824:=by rw[zu,hl,y8];omega
  have hr:g.aH=0:=by
   have hD:Db k (λ_=>0) g:=D3.congr λe he=>by rw[bO (hz e he)]
   have h2:=jt.root hD;rw[jO]at h2;rw[h2];simp[num]
  have step:∀j,j<i+1->∀e:aa Bool,zZ e=k->(if(if cV (iw f hs x S j e).vals x.aB=0 then(0:Int)else 1)=1 then(λj e=>if j=i+1 then(iw f hs x S i e).add x.aW else jP (eO f (hs e) x.aQ) x.aB x.aW (N-j) (iw f hs x S j e)) (j+1) e else(iw f hs x S j e).add x.aW)=(λj e=>if j=i+1 then(iw f hs x S i e).add x.aW else jP (eO f (hs e) x.aQ) x.aB x.aW (N-j) (iw f hs x S j e)) j e:=λj hj e he=>by
   dsimp only;rw[bP (show ¬j=i+1 by omega),show N-j=N-(j+1)+1 by omega,jP];by_cases hz2:cV (iw f hs x S j e).vals x.aB=0
   ·rw[bO hz2,bO hz2,bP (by decide)]
   ·have hji:j≠i:=λh=>hz2 (by rw[h];exact hz e he);rw[bP hz2,bP hz2,bO rfl,nB];rfl
  have ll:zZ (l++[End.mk g ⟨b.aV,b.aJ,b.cM,d1⟩])=i+1:=by rw[zu,hl];rfl
  have hE2:∀j,j<i+1->Db k (λe=>if cV (iw f hs x S j e).vals x.aB=0 then 0 else 1) (l++[End.mk g ⟨b.aV,b.aJ,b.cM,d1⟩])[j]!.FZ/\SD k (zZ f.ah) (λe=>(iw f hs x S j e).add x.aW) (l++[End.mk g ⟨b.aV,b.aJ,b.cM,d1⟩])[j]!.jm:=λj hj=>by
   by_cases e:j=i
   ·subst e;rw[(vb (l:=l)).2 hl.symm];exact⟨D3,hb2⟩
   ·rw[(vb (l:=l)).1 aj];exact hE j aj
  obtain⟨r,q,D⟩:=OK (X:=X) hk hn (l:=l++[End.mk g ⟨b.aV,b.aJ,b.cM,d1⟩]) (C:=λj e=>if cV (iw f hs x S j e).vals x.aB=0 then 0 else 1) (A:=λj e=>(iw f hs x S j e).add x.aW) (G:=λj e=>if j=i+1 then(iw f hs x S i e).add x.aW else jP (eO f (hs e) x.aQ) x.aB x.aW (N-j) (iw f hs x S j e)) (λj hj=>(hE2 j aj).1) (λj hj=>(hE2 j aj).2) (b:=⟨b.aV,b.aJ,b.cM,d1⟩) (by rw[ll];exact hb2.congr λe _=>by rw[bO rfl]) (λj hj e he=>step j aj e he);simp only[i1,mG,fZ,q1,ay.eta,q2,q3,hlen,dx,hr];unfold ahx;rw[q];exact⟨r,rfl,D.congr λe _=>by rw[nB];rfl⟩
def asr(hk:k<=12)(hv:cg f.ah)(hn:zZ f.ah<=1000000)(hX:X.ah=(k:Int))(hXf:X.fF=f)(hH:VD k (zZ f.ai) hs X.ai)(M73:Hh)(M128:mA){top:Bool}{l:aa aM}(hl:zZ l<=1000000){S:aa Bool->CS}{s:aF}(hB:∀e:aa Bool,zZ e=k->rA f top l (S e))(hS:SD k (zZ f.ah) S s)
  (h1:∀x∈l,∀(S:aa Bool->CS) (s:aF),(∀e:aa Bool,zZ e=k->rA f O x.aQ (S e))->SD k (zZ f.ah) S s->∃r,M73 x.aQ s X=M (r,X)/\SD k (zZ f.ah) (λe=>eO f (hs e) x.aQ (S e)) r)
  (h2:∀x∈l,∀(S:aa Bool->CS) (s:aF),(∀e:aa Bool,zZ e=k->rA f O x.aX (S e))->SD k (zZ f.ah) S s->∃r,M73 x.aX s X=M (r,X)/\SD k (zZ f.ah) (λe=>eO f (hs e) x.aX (S e)) r)
  (h3:∀x∈l,∀(S:aa Bool->CS) (s:aF),x.cu=4->(∀e:aa Bool,zZ e=k->rO f x x.fN.toNat (S e))->SD k (zZ f.ah) S s->∃r,M128 x s X=M (r,X)/\SD k (zZ f.ah) (λe=>jP (eO f (hs e) x.aQ) x.aB x.aW x.fN.toNat (S e)) r):
  ∃r,s73 M73 M128 l s X=M (r,X)/\SD k (zZ f.ah) (λe=>eO f (hs e) l (S e)) r:=by
 have e0:zZ (zq k O)=k:=yY;obtain⟨v,e1,hV⟩:=cZ (rnd:=MT M73 M128) (zZ l) (λi (b:aF)=>⟨l,(zZ l:Int),(i:Int),X,b,Z2⟩)
  (λi b=>∃T:aa Bool->CS,SD k (zZ f.ah) T b/\(∀e:aa Bool,zZ e=k->rA f top (l.drop i) (T e))/\∀e:aa Bool,zZ e=k->eO f (hs e) (l.drop i) (T e)=eO f (hs e) l (S e)) (λi b hi hb=>by
  obtain⟨T,hT,hbu,hr⟩:=hb;rw[drop_cons hi]at hbu hr;have hm:=bg hi;generalize hx:l[i]! =x at*;have ho:∃last,ac8 f last x:=vm (hbu _ e0).hc (zm ..);obtain⟨last,ho⟩:=ho;obtain⟨i1,i2,hw⟩:=w3 hi hl;have key:∃r,MT M73 M128 ⟨l,(zZ l:Int),(i:Int),X,b,Z2⟩=M (M ⟨l,(zZ l:Int),((i+1:Nat):Int),X,r,Z2⟩)/\SD k (zZ f.ah) (λe=>sj f (hs e) (eO f (hs e) x.aQ) (eO f (hs e) x.aX) x (T e)) r:=by
   unfold MT Np;dsimp only;simp only[zw,i1,hx,aM.eta,ay.eta,hw];unfold sj;by_cases d4:x.cu=4
   ·obtain⟨r,q,D⟩:=h3 x hm T b d4 (λe he=>(hbu e he).loop d4) hT;simp only[d4,q];exact⟨r,rfl,D⟩
   have hc:=ho.cost;have htu:∀e:aa Bool,zZ e=k->0<=(T e).time/\(T e).time+x.aW<=134217728:=λe he=>by
    have ht:=(hbu e he).t;have ht0:=(hbu e he).t0;have hp:=(hbu e he).pos;rw[(iL x _).2]at ht;have:x.aW<=(uO x).2:=by
     unfold uO;split
     ·omega
     ·split
      ·omega
      ·omega
    omega
   obtain⟨d1,q1,D1⟩:=agk hk hX hT.time (c:=x.aW) (eX aj aj) (λe he=>by have:=htu e he;exact eX aj aj);have hT2:SD k (zZ f.ah) (λe=>(T e).add x.aW) ⟨b.aV,b.aJ,b.cM,d1⟩:=⟨hT.vals,hT.cnt,hT.outs,D1⟩;have hVI:∀e:aa Bool,zZ e=k->vM f.ah (T e).vals:=λe he=>(hbu e he).vals;obtain⟨d2,q2,D2⟩:=FA (inp:=O) (s:=⟨b.aV,b.aJ,b.cM,d1⟩) (V:=λe=>(T e).vals) hk hv hVI hX hT.vals ho.term;by_cases d0:x.cu=0
   ·obtain⟨v1,v2⟩:=ho.var (.inl d0);obtain⟨r,q,D⟩:=aaB (X:=X) hk hv hn hXf hT2 hVI v1 v2 D2;simp only[dS,dP,lG,d0,Int.reduceEq,q1,q2,q];exact⟨r,rfl,D⟩
   by_cases d1':x.cu=1
   ·have hou:∀e:aa Bool,zZ e=k->zZ (T e).outs<=8:=λe he=>by
     have:=(hbu e he).o;have hp:=(hbu e he).pos;rw[(iL x _).1]at this;have hu:uO x=(1,x.aW):=by unfold uO;simp[d1']
     rw[hu]at this;omega
    obtain⟨r,q,D⟩:=Y0 (X:=X) hk hn hX hT2 hou D2;simp only[dS,dP,lG,d1',Int.reduceEq,q1,q2,q];exact⟨r,rfl,D⟩
   by_cases d5:x.cu=5
   ·obtain⟨v1,v2⟩:=ho.var (.inr d5);obtain⟨n1,n2⟩:=ho.n5 d5;have hl5:=hH.len;obtain⟨r,q,D⟩:=aaB (X:=X) hk hv hn hXf hT2 hVI v1 v2 (hH.at_ x.fN.toNat aj);have c5:(0:Int)<=x.fN/\x.fN<(zZ X.ai:Int):=by rw[hl5];exact⟨n1,n2⟩
    simp only[dS,dP,lG,d5,Int.reduceEq,q1,c5,q];exact⟨r,rfl,D⟩
   by_cases d3:x.cu=3
   ·obtain⟨g,q3,D3⟩:=FX hk D2 X;obtain⟨a,q4,D4⟩:=h1 x hm _ _ (λe he=>((hbu e he).sub d3).1) hT2;obtain⟨c,q5,D5⟩:=h2 x hm _ _ (λe he=>((hbu e he).sub d3).2) hT2;obtain⟨r,q,D⟩:=OM (X:=X) hk hn D3 D4 D5;simp only[dS,dP,lG,d3,Int.reduceEq,q1,q2,q3,q4,q5,q];refine⟨r,rfl,D.congr λe _=> ?_⟩;by_cases hz:cV (T e).vals x.aB=0<;>simp[hz]
   by_cases d6:x.cu=6
   ·obtain⟨_,g2,g3,g4,g5⟩:=ho.US d6;obtain⟨r,q,D⟩:=Yz hk hX D1 (l:=x.aR) (λi hi=>by
     have a1:x.aR[0]!<=x.aR[i]! :=by
      by_cases h0:i=0
      ·subst h0;exact zG _
      ·have:=Dd g4 (i:=0) (j:=i) aj hi;omega
     have a2:x.aR[i]!<=x.aR[zZ x.aR-1]! :=by
      by_cases h0:i=zZ x.aR-1
      ·subst h0;exact zG _
      ·have:=Dd g4 (i:=i) (j:=zZ x.aR-1) aj aj;omega
     exact eX aj aj)
    simp only[dS,dP,lG,d6,Int.reduceEq,q1,q];exact⟨_,rfl,⟨hT.vals,hT.cnt,hT.outs,D⟩⟩
   ·simp only[d0,d1',d3,d4,d5,d6,mF,fO,AE,q1];exact⟨_,rfl,hT2⟩
  obtain⟨r,q,D⟩:=key;refine⟨r,q,_,D,λe he=>(hbu e he).next hv,λe he=> ?_⟩;rw[<-hr e he,qX]) (λb _=>by unfold MT Np;simp) (b:=s) ⟨S,hS,λe he=>by rw[wh];exact hB e he,λe he=>by rw[wh]⟩
 obtain⟨T,hT,_,hr⟩:=hV;have e1':UX M73 M128 ⟨l,(zZ l:Int),0,X,s,Z2⟩=M ⟨l,(zZ l:Int),(zZ l:Int),X,v,Z2⟩:=e1;refine⟨v,?_,hT.congr λe he=>by rw[<-hr e he,List.drop_length,vh]⟩;unfold s73 Np;rw[e1'];dsimp only;rw[gI,fO]
def RX(hk:k<=12)(hv:cg f.ah)(hn:zZ f.ah<=1000000)(hX:X.ah=(k:Int))(hXf:X.fF=f)(hH:VD k (zZ f.ai) hs X.ai):∀n:Nat,
  (∀(top:Bool) (l:aa aM) (S:aa Bool->CS) (s:aF),2*zi l<n->gF l<=1000000->(∀e:aa Bool,zZ e=k->rA f top l (S e))->SD k (zZ f.ah) S s->∃r,m73 n l s X=M (r,X)/\SD k (zZ f.ah) (λe=>eO f (hs e) l (S e)) r)/\
  (∀(x:aM) (S:aa Bool->CS) (s:aF),2*zi x.aQ+1<n->gF x.aQ<=1000000->(0<=x.fN/\x.fN<=4096)->(∀e:aa Bool,zZ e=k->rO f x x.fN.toNat (S e))->SD k (zZ f.ah) S s->∃r,ZC n x s X=M (r,X)/\SD k (zZ f.ah) (λe=>jP (eO f (hs e) x.aQ) x.aB x.aW x.fN.toNat (S e)) r)
 |0=>⟨λ_ _ _ _ h=>aj,λ_ _ _ h=>aj⟩
 |n+1=>by
  obtain⟨i1,i2⟩:=RX hk hv hn hX hXf hH n;refine⟨λtop l S s h hN hB hS=> ?_,λx S s h hN hx hB hS=> ?_⟩
  ·refine asr hk hv hn hX hXf hH (m73 n) (ZC n) (zK (jH l) hN) hB hS (λx hx S s hb hs=> ?_) (λx hx S s hb hs=> ?_) (λx hx S s h4 hb hs=> ?_)
   ·have:=(aZ hx).1;exact i1 O x.aQ S s aj (zK (rJ hx).1 hN) hb hs
   ·have:=(aZ hx).2;exact i1 O x.aX S s aj (zK (rJ hx).2 hN) hb hs
   ·have:=(aZ hx).1;exact i2 x S s aj (zK (rJ hx).1 hN) ((vm (hB _ (yY (n:=k) (a:=O))).hc hx).choose_spec.n4 h4) hb hs
  ·exact anG hk hv hn hX (m73 n) (ZC n) hx hB hS (λS s hb hs=>i1 O x.aQ S s aj hN hb hs)
def aii(hk:k<=12)(hv:cg f.ah)(hn:zZ f.ah<=1000000)(hX:X.ah=(k:Int))(hXf:X.fF=f)(hH:VD k (zZ f.ai) hs X.ai){top:Bool}{l:aa aM}{S:aa Bool->CS}{s:aF}(hN:gF l<=1000000)(hB:∀e:aa Bool,zZ e=k->rA f top l (S e))(hS:SD k (zZ f.ah) S s):∃r,r73 l s X=M (r,X)/\SD k (zZ f.ah) (λe=>eO f (hs e) l (S e)) r:=by
 obtain⟨r,_,D⟩:=(RX hk hv hn hX hXf hH (2*zi l+1)).1 top l S s aj hN hB hS;refine⟨r,dc (2*zi l+1) λn hn'=> ?_,D⟩;obtain⟨r',e',D'⟩:=(RX hk hv hn hX hXf hH n).1 top l S s aj hN hB hS;rw[e',D.oU D']
end
def vj{f:bn}(h:Aa f=0):∀i,i<zZ f.ah->(f.ah[i]!.bQ=0\/f.ah[i]!.bQ=1\/f.ah[i]!.bQ=2\/f.ah[i]!.bQ=3)/\(f.ah[i]!.bQ=0->f.ah[i]!.aC<=f.ah[i]!.eB/\f.ah[i]!.eB<=f.ah[i]!.au):=λi hi=>by
 have hv:jb f.ah=0:=by
  unfold Aa at h;omega
 unfold jb at hv;split at hv
 ·omega
 rename_i h0;have h0:dZ (mu f.ah) f.ah 0=0:=by simpa using h0
 have h1:=qU h0 i hi;unfold mu at h1;omega
def aey{f:bn}(h:Aa f=0):∀i,i<zZ f.ah->f.ah[i]!.bQ≠0->f.ah[i]!.eB=0:=λi hi hk=>by
 have hv:jb f.ah=0:=by
  unfold Aa at h;omega
 unfold jb at hv;split at hv
 ·omega
 rename_i h0;have h0:dZ (mu f.ah) f.ah 0=0:=by simpa using h0
 have h1:=qU h0 i hi;unfold mu at h1;omega
def A7(vs:aa bf)(k:Int):∀n,n<=zZ vs->zZ (Hz vs k n)=cL vs k n/\∀j,j<cL vs k n->∃i,i<n/\vs[i]!.bQ=k/\cL vs k i=j/\(Hz vs k n)[j]! =(i:Int)
 |0,_=>⟨by simp[Hz,cL],λj h=>by simp[cL]at h⟩
 |n+1,hn=>by
  obtain⟨h1,h2⟩:=A7 vs k n aj;have hc:=gv (vars:=vs) (i:=n) aj k;rw[kT,hc];by_cases hk:vs[n]!.bQ=k
  ·rw[bO hk,bO hk];refine⟨by rw[zu,h1];rfl,λj hj=> ?_⟩;by_cases e:j=cL vs k n
   ·subst e;refine⟨n,aj,hk,rfl,?_⟩;rw[getElem!_pos _ _ (by rw[zu,h1];simp),wR aj];simp
   ·obtain⟨i,q1,q2,q3,q4⟩:=h2 j aj;refine⟨i,aj,q2,q3,?_⟩;rw[<-q4,getElem!_pos (Hz vs k n) j aj,getElem!_pos _ j (by rw[zu,h1];simp;omega),xW aj]
  ·rw[bP hk,bP hk,yN,yG];exact⟨h1,λj hj=>by
    obtain⟨i,q1,q2⟩:=h2 j hj;exact⟨i,aj,q2⟩⟩
def uh{vs:aa bf}{k:Int}{i:Nat}(hi:i<zZ vs)(hk:vs[i]!.bQ=k):cL vs k i<zZ (fH vs k)/\(fH vs k)[cL vs k i]! =(i:Int):=by
 obtain⟨h1,h2⟩:=A7 vs k (zZ vs) (zx _);have c:=gv hi k;rw[bO hk]at c;have m:=mM (vars:=vs) (k:=k) (i:=i+1) (j:=zZ vs) aj (zx _);obtain⟨i',q1,q2,q3,q4⟩:=h2 (cL vs k i) aj;have e:i'=i:=by
  rcases Nat.lt_trichotomy i' i with h|h|h
  ·have c':=gv q1 k;rw[bO q2]at c';have:=mM (vars:=vs) (k:=k) (i:=i'+1) (j:=i) aj aj;omega
  ·exact h
  ·have:=mM (vars:=vs) (k:=k) (i:=i+1) (j:=i') aj aj;omega
 unfold fH;omega
def slG(vs:aa bf)(e:aa Bool)(t:Slot):Int:=(if vs[t.bq.toNat]!.au-vs[t.bq.toNat]!.aC<bv (oQ e t)then vs[t.bq.toNat]!.au-vs[t.bq.toNat]!.aC else bv (oQ e t))+vs[t.bq.toNat]!.aC
def JF(vs:aa bf)(e:aa Bool)(V:aa Int)(t:Slot):aa Int:=V.set t.bq.toNat (slG vs e t)
def Yb(vs:aa bf)(pub:aa Int)(i:Nat):Int:=if vs[i]!.bQ=2 then pub[cL vs 2 i]! else vs[i]!.eB
def nO(vs:aa bf)(pub:aa Int):aa Int:=(zy (zZ vs)).map (Yb vs pub)
def V0(vs:aa bf)(pub:aa Int)(e:aa Bool):aa Int:=(bx vs).1.foldl (JF vs e) (nO vs pub)
def Dt(vs:aa bf)(e:aa Bool):∀(sl:aa Slot) (V:aa Int),zZ (sl.foldl (JF vs e) V)=zZ V
 |[],_=>rfl
 |t::sl,V=>by
  rw[List.foldl_cons,Dt vs e sl];unfold JF;simp
def Ml{vs:aa bf}{e:aa Bool}{P:Nat->Int->Prop}{i:Nat}:∀(sl:aa Slot) (V:aa Int),i<zZ V->(∀t∈sl,P t.bq.toNat (slG vs e t))->((∃t∈sl,t.bq.toNat=i)\/P i V[i]!)->P i (sl.foldl (JF vs e) V)[i]!
 |[],V,_,_,h=>by
  rcases h with ⟨t,ht,_⟩|h
  ·cases ht
  ·exact h
 |t::sl,V,hi,hP,h=>by
  refine Ml sl (JF vs e V t) (by unfold JF;rw[yq];exact hi) (λt ht=>hP t (zM _ ht)) ?_;by_cases hx:∃t∈sl,t.bq.toNat=i
  ·exact .inl hx
  ·right;unfold JF;rw[ri _ hi];by_cases e2:t.bq.toNat=i
   ·rw[bO e2,<-e2];simp_all
   ·rw[bP e2];rcases h with ⟨t',ht',e3⟩|h
    ·rcases zk.1 ht' with rfl|ht'
     ·omega
     ·exact iy ⟨t',ht',e3⟩ hx
    ·exact h
def nP{vs:aa bf}{pub:aa Int}{i:Nat}(hi:i<zZ vs):(nO vs pub)[i]! =Yb vs pub i:=by
 unfold nO;rw[getElem!_pos _ i (by simpa using hi),yy,xZ]
def MF{vs:aa bf}{j:Nat}(hj:j<zZ (bx vs).1):(bx vs).1[j]!.bq=(fH vs 1++fH vs 3)[j]! :=by
 rw[Rf]at hj ⊢;rw[EG]at hj;exact OB vs _ 0 j hj
def C3{α:Type}[Inhabited α]{l m:aa α}{j:Nat}:(j<zZ l->(l++m)[j]! =l[j]!)/\(j<zZ m->(l++m)[zZ l+j]! =m[j]!):=by
 constructor
 ·intro h;rw[getElem!_pos (l++m) j (by rw[zu];omega),getElem!_pos l j h,xW h]
 ·intro h;rw[getElem!_pos (l++m) _ (by rw[zu];omega),getElem!_pos m j h,wR aj];simp
def KW{vs:aa bf}{i:Nat}(hi:i<zZ vs):(vs[i]!.bQ=1->cL vs 1 i<zZ (bx vs).1/\(bx vs).1[cL vs 1 i]!.bq=(i:Int))/\(vs[i]!.bQ=3->zZ (fH vs 1)+cL vs 3 i<zZ (bx vs).1/\(bx vs).1[zZ (fH vs 1)+cL vs 3 i]!.bq=(i:Int)):=by
 have hl:=um vs;constructor
 ·intro hk;obtain⟨h1,h2⟩:=uh hi hk;have h3:cL vs 1 i<zZ (bx vs).1:=aj;rw[MF h3,C3.1 h1];omega
 ·intro hk;obtain⟨h1,h2⟩:=uh hi hk;have h3:zZ (fH vs 1)+cL vs 3 i<zZ (bx vs).1:=aj;rw[MF h3,C3.2 h1];omega
def nG(vs:aa bf)(pub:aa Int)(e:aa Bool):fu:=⟨((bx vs).1.map (Dn vs e)).take (fH vs 1).length,pub,((bx vs).1.map (Dn vs e)).drop (fH vs 1).length⟩
section
variable {f:bn} (hc:Aa f=0) (hv:KF f.ah) {pub:aa Int} (hp:vr f.ah (fH f.ah 2) pub=0) {k:Nat} (hk:(bx f.ah).2.2=(k:Int)) {e:aa Bool} (he:zZ e=k)
include hc hv hp hk he
theorem v7{t:Slot}(ht:t∈(bx f.ah).1):oR f.ah (zZ e:Int) t:=by
 have:=ry hv t ht;simp_all
theorem abG{t:Slot}(ht:t∈(bx f.ah).1):f.ah[t.bq.toNat]!.aC<=slG f.ah e t/\slG f.ah e t<=f.ah[t.bq.toNat]!.au:=by
 have hs:=v7 hc hv hp hk he ht;have x1:=hs.v0;have x2:=hs.v1
 obtain⟨v1,v2,v3⟩:=hv.2 t.bq.toNat aj;have hb:=OV (oQ e t) (by rw[nZ hs];have:=hs.b1;omega);unfold slG;omega
theorem aoY:vM f.ah (V0 f.ah pub e):=by
 obtain⟨p1,p2,_⟩:=Ay hv (Bm 2) hp;have hbl:zZ (nO f.ah pub)=zZ f.ah:=by unfold nO;simp
 refine⟨by unfold V0;rw[Dt,hbl],λi hi=> ?_⟩;refine Ml (P:=λi x=>f.ah[i]!.aC<=x/\x<=f.ah[i]!.au) _ _ aj (λt ht=>abG hc hv hp hk he ht) ?_;obtain⟨hkd,hin⟩:=vj hc i hi;obtain⟨s1,s3⟩:=KW hi;rcases hkd with h|h|h|h
 ·right;rw[nP hi];unfold Yb;omega
 ·obtain⟨q1,q2⟩:=s1 h;exact .inl ⟨_,bg q1,aj⟩
 ·right;rw[nP hi];unfold Yb;rw[bO h];obtain⟨q1,q2⟩:=uh hi h;have:=p2 (cL f.ah 2 i) aj;rw[q2]at this
  assumption
 ·obtain⟨q1,q2⟩:=s3 h;exact .inl ⟨_,bg q1,aj⟩
theorem Si(hD:(bx f.ah).1.all (mz f.ah e)=Z):ki f.ah (nG f.ah pub e)/\V0 f.ah pub e=gE f.ah (nG f.ah pub e):=by
 obtain⟨p1,p2,_⟩:=Ay hv (Bm 2) hp;have hl:=um f.ah;obtain⟨i1,a1⟩:=A7 f.ah 1 (zZ f.ah) (zx _);obtain⟨i3,a3⟩:=A7 f.ah 3 (zZ f.ah) (zx _);obtain⟨i2,_⟩:=A7 f.ah 2 (zZ f.ah) (zx _);rw[show Hz f.ah 1 f.ah.length=fH f.ah 1 from rfl]at i1 a1;rw[show Hz f.ah 2 f.ah.length=fH f.ah 2 from rfl]at i2;rw[show Hz f.ah 3 f.ah.length=fH f.ah 3 from rfl]at i3 a3;have hG:∀t∈(bx f.ah).1,slG f.ah e t=Dn f.ah e t/\f.ah[t.bq.toNat]!.aC<=Dn f.ah e t/\Dn f.ah e t<=f.ah[t.bq.toNat]!.au:=λt ht=>by
  have h1:=zn.1 hD t ht;have h2:=abG hc hv hp hk he ht;have hb:=OV (oQ e t) (by rw[nZ (v7 hc hv hp hk he ht)];have:=(v7 hc hv hp hk he ht).b1;omega);unfold mz at h1;simp only[Bool.not_eq_true',decide_eq_false_iff_not]at h1;have h3:slG f.ah e t=Dn f.ah e t:=by
   unfold slG Dn at*;omega
  omega
 have w1:∀j,j<zZ (fH f.ah 1)->(nG f.ah pub e).cC[j]! =Dn f.ah e (bx f.ah).1[j]! :=λj hj=>by
  show (((bx f.ah).1.map (Dn f.ah e)).take (fH f.ah 1).length)[j]! =_;rw[getElem!_pos _ j (by rw[zL,zF];omega),xo,yy,getElem!_pos (bx f.ah).1 j aj]
 have w3:∀j,j<zZ (fH f.ah 3)->(nG f.ah pub e).gQ[j]! =Dn f.ah e (bx f.ah).1[zZ (fH f.ah 1)+j]! :=λj hj=>by
  show (((bx f.ah).1.map (Dn f.ah e)).drop (fH f.ah 1).length)[j]! =_;rw[getElem!_pos _ j (by rw[zX,zF];omega),wm,yy,getElem!_pos (bx f.ah).1 _ aj]
 have v1:∀i,i<zZ f.ah->f.ah[i]!.bQ=1->dg f.ah (nG f.ah pub e) i=Dn f.ah e (bx f.ah).1[cL f.ah 1 i]! :=λi hi h=>by
  unfold dg;rw[bO h,w1 _ (uh hi h).1]
 have v3:∀i,i<zZ f.ah->f.ah[i]!.bQ=3->dg f.ah (nG f.ah pub e) i=Dn f.ah e (bx f.ah).1[zZ (fH f.ah 1)+cL f.ah 3 i]! :=λi hi h=>by
  unfold dg;rw[nB,nB,bO h,w3 _ (uh hi h).1]
 have st:ki f.ah (nG f.ah pub e):=by
  refine⟨?_,?_,?_,λi hi=> ?_⟩
  ·show zZ (((bx f.ah).1.map (Dn f.ah e)).take (fH f.ah 1).length)=_;rw[zL,zF];omega
  ·show zZ pub=_;omega
  ·show zZ (((bx f.ah).1.map (Dn f.ah e)).drop (fH f.ah 1).length)=_;rw[zX,zF];omega
  ·obtain⟨hkd,hin⟩:=vj hc i hi;obtain⟨s1,s3⟩:=KW hi;rcases hkd with h|h|h|h
   ·unfold dg;omega
   ·obtain⟨q1,q2⟩:=s1 h;rw[v1 i hi h];have:=(hG _ (bg q1)).2;rw[q2]at this;exact this
   ·unfold dg;rw[nB,bO h];obtain⟨q1,q2⟩:=uh hi h;have:=p2 (cL f.ah 2 i) aj;rw[q2]at this;exact this
   ·obtain⟨q1,q2⟩:=s3 h;rw[v3 i hi h];have:=(hG _ (bg q1)).2;rw[q2]at this;exact this
 refine⟨st,?_⟩;have hbl:zZ (nO f.ah pub)=zZ f.ah:=by unfold nO;simp
 have hVl:zZ (V0 f.ah pub e)=zZ f.ah:=by unfold V0;rw[Dt,hbl]
 have hIl:zZ (gE f.ah (nG f.ah pub e))=zZ f.ah:=by simp[gE]
 have hIg:∀i,i<zZ f.ah->(gE f.ah (nG f.ah pub e))[i]! =dg f.ah (nG f.ah pub e) i:=λi hi=>by
  unfold gE;rw[getElem!_pos _ i (by simpa using hi),yy,xZ]
 refine xI aj λi h1 h2=> ?_;have hi:i<zZ f.ah:=aj;rw[<-getElem!_pos (V0 f.ah pub e) i h1,<-getElem!_pos (gE f.ah (nG f.ah pub e)) i h2];unfold V0;refine Ml (P:=λi x=>x=(gE f.ah (nG f.ah pub e))[i]!) _ _ aj (λt ht=> ?_) ?_
 ·obtain⟨j,hj,ej⟩:=xh ht;have hs:=v7 hc hv hp hk he ht;have x1:=hs.v0;have x2:=hs.v1
  rw[(hG t ht).1,hIg _ aj];have ej':(bx f.ah).1[j]! =t:=by rw[getElem!_pos _ j hj];exact ej
  have hat:=MF hj;rw[ej']at hat
  by_cases hj1:j<zZ (fH f.ah 1)
  ·rw[C3.1 hj1]at hat
   obtain⟨i',q1,q2,q3,q4⟩:=a1 j aj;rw[q4]at hat
   rw[hat,zw,v1 i' q1 q2,q3,ej']
  ·obtain⟨m,hm⟩:∃m,j=zZ (fH f.ah 1)+m:=⟨j-(fH f.ah 1).length,aj⟩;have hm3:m<zZ (fH f.ah 3):=aj;rw[hm,C3.2 hm3]at hat
   obtain⟨i',q1,q2,q3,q4⟩:=a3 m aj;rw[q4]at hat
   rw[hat,zw,v3 i' q1 q2,q3,<-hm,ej']
 ·obtain⟨hkd,hin⟩:=vj hc i hi;obtain⟨s1,s3⟩:=KW hi;rcases hkd with h|h|h|h
  ·right;rw[nP hi,hIg i hi];unfold Yb dg;rw[nB,nB,nB,nB]
  ·obtain⟨q1,q2⟩:=s1 h;exact .inl ⟨_,bg q1,aj⟩
  ·right;rw[nP hi,hIg i hi];unfold Yb dg;rw[bO h,nB,bO h];rfl
  ·obtain⟨q1,q2⟩:=s3 h;exact .inl ⟨_,bg q1,aj⟩
end
abbrev ZD:aq:=⟨0,[],[],0⟩
section
variable {f:bn} {k:Nat} {X:aK}
def Fg(hk:k<=12){x:Int}(hx:gh x)(hX:X.ah=(k:Int)):∃d,(fh x X).snd=X/\aq.mk (fh x X).fst.ah (fh x X).fst.aG [] (fh x X).fst.aH=d/\aq.mk d.ah d.aG [] d.aH=d/\Dm k (λ_=>x) d:=by
 obtain⟨d,e,c,D⟩:=tJ hk hx X hX;refine⟨d,?_,?_,c,D⟩
 ·rfl
 ·rw[e];exact c
def am2(hk:k<=12)(hX:X.ah=(k:Int))(hl:zZ f.ah<=1000){pub:aa Int}(hpl:zZ pub=cL f.ah 2 (zZ f.ah))(hP:∀i,i<zZ f.ah->gh (Yb f.ah pub i)):∃r z,MK ⟨pub,f.ah,(zZ f.ah:Int),0,f,Z2,X,Z2⟩=M ⟨z,f.ah,(zZ f.ah:Int),(zZ f.ah:Int),f,Z2,X,⟨r,ZD,[],ZD⟩⟩/\VD k (zZ f.ah) (λ_=>nO f.ah pub) r:=by
 obtain⟨r,q,h1,h2⟩:=cZ (rnd:=L4) (zZ f.ah) (λi (r:aa aq)=>⟨pub.drop (cL f.ah 2 i),f.ah,(zZ f.ah:Int),(i:Int),f,Z2,X,⟨r,ZD,[],ZD⟩⟩) (λi r=>zZ r=i/\∀j,j<i->Dm k (λ_=>Yb f.ah pub j) r[j]!) (λi r hi hI=>by
  obtain⟨d,x1,x2,x3,D⟩:=Fg (X:=X) hk (hP i hi) hX;obtain⟨i1,i2,hw⟩:=w3 hi aj;have hc:=gv hi 2;have hlen:zZ (r++[d])<=1073741824:=by rw[zu,hI.1,y8];omega
  refine⟨r++[d],?_,VD.push (F:=λj _=>Yb f.ah pub j) hI.1 hI.2 D⟩;unfold L4 EW;rw[hc];by_cases h:f.ah[i]!.bQ=2
  ·have mo:=mM (vars:=f.ah) (k:=2) (i:=i+1) (j:=zZ f.ah) aj (zx _);rw[hc,bO h]at mo;have hg:(pub.drop (cL f.ah 2 i))[0]! =Yb f.ah pub i:=by
    unfold Yb;rw[bO h,getElem!_pos _ 0 (by rw[zX];omega),getElem!_pos pub _ aj,wm];simp
   have j1:(0:Int)<=0/\(0:Int)<(zZ (pub.drop (cL f.ah 2 i)):Int):=by rw[zX];omega
   have j2:(0:Int)<=1/\(1:Int)<=(zZ (pub.drop (cL f.ah 2 i)):Int):=by rw[zX];omega
   have hdr:xx 1 (pub.drop (cL f.ah 2 i))=pub.drop (cL f.ah 2 i+1):=by rw[List.drop_drop]
   simp only[dS,i1,i2,h,fZ,dx,j1,j2,hg,x1,x2,hlen,hw,hdr]
  ·have hb:f.ah[i]!.eB=Yb f.ah pub i:=by unfold Yb;rw[bP h]
   simp only[dS,dP,lG,i1,i2,h,hb,x1,x2,hlen,hw,yG]) (λr _=>by unfold L4 EW;simp) (b:=[]) ⟨rfl,λj hj=>aj⟩
 refine⟨r,_,q,h1,λi hi=>(h2 i hi).congr λe _=>by rw[nP hi]⟩
def afy(hk:k<=12)(hX:X.ah=(k:Int))(hv:KF f.ah){pub:aa Int}(hs:∀t∈X.bS,oR f.ah (k:Int) t)(hl:zZ X.bS<=10000){vs:aa aq}(hvs:VD k (zZ f.ah) (λ_=>nO f.ah pub) vs):∃r,Kr ⟨X.bS,(zZ X.bS:Int),0,f,Z2,X,⟨vs,ZD,[],ZD⟩⟩=M ⟨X.bS,(zZ X.bS:Int),(zZ X.bS:Int),f,Z2,X,⟨r,ZD,[],ZD⟩⟩/\VD k (zZ f.ah) (λe=>X.bS.foldl (JF f.ah e) (nO f.ah pub)) r:=by
 have hbl:zZ (nO f.ah pub)=zZ f.ah:=by unfold nO;simp
 obtain⟨r,q,h1⟩:=cZ (rnd:=J6) (zZ X.bS) (λi (r:aa aq)=>⟨X.bS,(zZ X.bS:Int),(i:Int),f,Z2,X,⟨r,ZD,[],ZD⟩⟩) (λi r=>VD k (zZ f.ah) (λe=>(X.bS.take i).foldl (JF f.ah e) (nO f.ah pub)) r) (λi r hi hI=>by
  have ht:=hs _ (bg hi);generalize hte:X.bS[i]! =t at*;have x1:=ht.v0;have x2:=ht.v1
  obtain⟨v1,v2,v3⟩:=hv.2 t.bq.toNat aj;obtain⟨i1,i2,hw⟩:=w3 hi aj;have hwz:ak (f.ah[t.bq.toNat]!.au-f.ah[t.bq.toNat]!.aC)=f.ah[t.bq.toNat]!.au-f.ah[t.bq.toNat]!.aC:=aI;obtain⟨d1,e1,D1⟩:=Vd hk X hX ht;obtain⟨c1,y1,y2,y3,C1⟩:=Fg (X:=X) hk (x:=f.ah[t.bq.toNat]!.au-f.ah[t.bq.toNat]!.aC) (eX aj aj) hX;obtain⟨c2,z1,z2,z3,C2⟩:=Fg (X:=X) hk (x:=f.ah[t.bq.toNat]!.aC) (eX aj aj) hX;have hbv:∀e:aa Bool,zZ e=k->0<=bv (oQ e t)/\bv (oQ e t)<16777216:=λe he=>OV _ (by rw[nZ (vs:=f.ah) (by rw[he];exact ht)];have:=ht.b1;omega);have hmin:∀e:aa Bool,zZ e=k->gh (if f.ah[t.bq.toNat]!.au-f.ah[t.bq.toNat]!.aC<bv (oQ e t)then f.ah[t.bq.toNat]!.au-f.ah[t.bq.toNat]!.aC else bv (oQ e t))/\gh ((if f.ah[t.bq.toNat]!.au-f.ah[t.bq.toNat]!.aC<bv (oQ e t)then f.ah[t.bq.toNat]!.au-f.ah[t.bq.toNat]!.aC else bv (oQ e t))+f.ah[t.bq.toNat]!.aC):=λe he=>by
   have:=hbv e he;by_cases hlt:f.ah[t.bq.toNat]!.au-f.ah[t.bq.toNat]!.aC<bv (oQ e t)
   ·rw[bO hlt];exact⟨eX aj aj,eX aj aj⟩
   ·rw[bP hlt];exact⟨eX aj aj,eX aj aj⟩
  obtain⟨d2,e2,D2⟩:=opD hk (o:=5) (H:=λe=>if f.ah[t.bq.toNat]!.au-f.ah[t.bq.toNat]!.aC<bv (oQ e t)then f.ah[t.bq.toNat]!.au-f.ah[t.bq.toNat]!.aC else bv (oQ e t)) aj aj D1 C1 (λe he=>rfl) (λe he=>(hmin e he).1) X;obtain⟨d3,e3,D3⟩:=Yf hk D2 C2 (λe he=>(hmin e he).2) X;have hrl:=hI.len;have j1:(0:Int)<=t.bq/\t.bq<(zZ r:Int):=aj;have j2:t.bq.toNat<zZ r:=aj;refine⟨r.set t.bq.toNat d3,?_,?_⟩
  ·unfold J6 Gk;simp only[dS,hte,i1,i2,fZ,dx,x2,e1,hwz,y1,y2,e2,z1,z2,e3,j1,j2,hw]
  ·have:=hI.set (v:=t.bq.toNat) aj D3 (λe _=>by rw[Dt,hbl]);refine this.congr λe _=> ?_;rw[bV hi,wC,hte];rfl) (λr _=>by unfold J6 Gk;simp) (b:=vs) hvs
 rw[yh]at h1;exact⟨r,q,h1⟩
def alj(hk:k<=12)(hX:X.ah=(k:Int)){vs:aa aq}{c d:aq}(hc:aq.mk c.ah c.aG [] c.aH=c)(hd:aq.mk d.ah d.aG [] d.aH=d):∃r,KZ ⟨0,f,Z2,X,⟨vs,c,[],d⟩⟩=M ⟨8,f,Z2,X,⟨vs,c,r,d⟩⟩/\VD k 8 (λ_=>[]) r:=by
 obtain⟨c1,y1,y2,y3,C1⟩:=Fg (X:=X) hk (x:=0) rfl hX;obtain⟨r,q,h1,h2⟩:=cZ (rnd:=JM) 8 (λi (r:aa aq)=>⟨(i:Int),f,Z2,X,⟨vs,c,r,d⟩⟩) (λi r=>zZ r=i/\∀j,j<i->Dm k (λ_=>0) r[j]!) (λi r hi hI=>by
  have hw:=jy hi aj;have i1:(i:Int)<8:=aj;have hlen:zZ (r++[c1])<=1073741824:=by rw[zu,hI.1,y8];omega
  refine⟨r++[c1],?_,VD.push (F:=λ_ _=>0) hI.1 hI.2 C1⟩;unfold JM FV;simp only[i1,mG,fZ,y1,y2,hlen,dx,hw,hc,hd]) (λr _=>by unfold JM FV;simp) (b:=[]) ⟨rfl,λj hj=>aj⟩
 exact⟨r,q,h1,λi hi=>(h2 i hi).congr λe _=>rfl⟩
def amP(hk:k<=12)(hf:W0 f)(hl:zZ f.ai<=1000){sec:Int}{sl:aa Slot}{s:aF}{V:aa Bool->aa Int}(hV:∀e:aa Bool,zZ e=k->vM f.ah (V e))(hs:VD k (zZ f.ah) V s.aV)(hc:aq.mk s.aJ.ah s.aJ.aG [] s.aJ.aH=s.aJ)(hd:aq.mk s.aN.ah s.aN.aG [] s.aN.aH=s.aN):∃r,Jt ⟨f.ai,(zZ f.ai:Int),0,Z2,⟨f,(k:Int),sec,sl,[]⟩,s⟩=M ⟨f.ai,(zZ f.ai:Int),(zZ f.ai:Int),Z2,⟨f,(k:Int),sec,sl,r⟩,s⟩/\VD k (zZ f.ai) (λe=>QG f (V e)) r:=by
 obtain⟨vs,cn,os,tm⟩:=s;obtain⟨r,q,h1,h2⟩:=cZ (rnd:=LU) (zZ f.ai) (λi (r:aa aq)=>⟨f.ai,(zZ f.ai:Int),(i:Int),Z2,⟨f,(k:Int),sec,sl,r⟩,⟨vs,cn,os,tm⟩⟩) (λi r=>zZ r=i/\∀j,j<i->Dm k (λe=>gC (cV (V e) f.ai[j]!.aB) f.ai[j]!.aC f.ai[j]!.au) r[j]!) (λi r hi hI=>by
  obtain⟨i1,i2,hw⟩:=w3 hi aj;obtain⟨⟨g1,g2,g3⟩,ht⟩:=hf.hat i hi;obtain⟨d1,e1,D1⟩:=FA (inp:=Z) (X:=⟨f,(k:Int),sec,sl,r⟩) (s:=⟨vs,cn,os,tm⟩) hk hf.vars hV rfl hs ht;obtain⟨d2,e2,D2⟩:=Sr hk D1 g2 (eX aj aj) (eX aj aj);have hlen:zZ (r++[d2])<=1073741824:=by rw[zu,hI.1,y8];omega
  refine⟨r++[d2],?_,VD.push (F:=λj e=>gC (cV (V e) f.ai[j]!.aB) f.ai[j]!.aC f.ai[j]!.au) hI.1 hI.2 D2⟩;unfold LU Ej;simp only[dS,i1,i2,fZ,dx,hc,hd,ay.eta,e1,e2,hlen,hw]) (λr _=>by unfold LU Ej;simp) (b:=[]) ⟨rfl,λj hj=>aj⟩
 refine⟨r,q,h1,λi hi=>(h2 i hi).congr λe _=> ?_⟩;unfold QG;rw[getElem!_pos (f.ai.map _) i (by simpa using hi),yy,getElem!_pos f.ai i hi]
def ajy(hk:k<=12)(hn:J8 f 10 80=Z)(hc:Aa f=0)(hb:(bx f.ah).2.2=(k:Int)){v:mI}(hp:vr f.ah (fH f.ah 2) v.cq=0):adq f v=J/\∃s r,aiC f v=M (⟨f,(k:Int),(bx f.ah).2.1,(bx f.ah).1,r⟩,s,0)/\VD k (zZ f.ai) (λe=>QG f (V0 f.ah v.cq e)) r/\SD k (zZ f.ah) (λe=>⟨V0 f.ah v.cq e,[],0⟩) s/\aq.mk s.aJ.ah s.aJ.aG [] s.aJ.aH=s.aJ/\aq.mk s.aN.ah s.aN.aG [] s.aN.aH=s.aN:=by
 have hn20:=sU hn;obtain⟨h1,h2,h3⟩:=Uc hn20;obtain⟨h4,h5,h6⟩:=rK hn;have hv:=sS hn20 hc;have hf:=Er hc;have e48:=aeR f h1 h2 aj;rw[hc]at e48;have e65:=Lh f aj 2;have e64:=abE f (fH f.ah 2) v.cq (Bm 2) (by have:=DE f.ah 2;omega);rw[hp]at e64;obtain⟨e49,l1,l2,l3,l4,l5⟩:=Kl f hv;obtain⟨p1,p2,p3⟩:=Ay hv (Bm 2) hp;have c12:w9 (12<(bx f.ah).2.2)=O:=gI;refine⟨?_,?_⟩
 ·unfold adq;simp only[dP,e48,e65,e64,e49,c12,mG]
 have k2:zZ (fH f.ah 2)=cL f.ah 2 f.ah.length:=(A7 f.ah 2 (zZ f.ah) (zx _)).1;have hX0:(aK.mk f (k:Int) (bx f.ah).2.1 (bx f.ah).1 []).ah=(k:Int):=rfl;obtain⟨vs,z,q0,V0'⟩:=am2 (X:=⟨f,(k:Int),(bx f.ah).2.1,(bx f.ah).1,[]⟩) (f:=f) (pub:=v.cq) hk hX0 aj aj (λi hi=>by
  obtain⟨hkd,hin⟩:=vj hc i hi;obtain⟨b1,b2,b3⟩:=hv.2 i hi;unfold Yb;by_cases h:f.ah[i]!.bQ=2
  ·rw[bO h];obtain⟨q1,q2⟩:=uh hi h;have:=p2 (cL f.ah 2 i) aj;rw[q2,zw]at this;exact eX aj aj
  ·rw[bP h];by_cases h0:f.ah[i]!.bQ=0
   ·have:=hin h0;exact eX aj aj
   ·have:=aey hc i hi h0;rw[this];rfl)
 obtain⟨ws,q1,V1⟩:=afy (X:=⟨f,(k:Int),(bx f.ah).2.1,(bx f.ah).1,[]⟩) (f:=f) (pub:=v.cq) hk hX0 hv (λt ht=>by
  have:=ry hv t ht;rw[hb]at this;exact this) (by simp only;omega) V0'
 obtain⟨c,y1,y2,y3,C⟩:=Fg (X:=⟨f,(k:Int),(bx f.ah).2.1,(bx f.ah).1,[]⟩) hk (x:=0) rfl hX0;obtain⟨os,q2,zc⟩:=alj (f:=f) (X:=⟨f,(k:Int),(bx f.ah).2.1,(bx f.ah).1,[]⟩) (vs:=ws) hk hX0 y3 y3;obtain⟨r,q3,R⟩:=amP (f:=f) (sec:=(bx f.ah).2.1) (sl:=(bx f.ah).1) (s:=⟨ws,c,os,c⟩) (V:=V0 f.ah v.cq) hk hf aj (λe he=>aoY hc hv hp hb he) V1 y3 y3;refine⟨⟨ws,c,os,c⟩,r,?_,R,⟨V1,C,zc,C⟩,y3,y3⟩;unfold aiC EW Gk FV Ej;rw[e48];rw[e65];dsimp only;rw[e64];rw[e49];dsimp only;rw[c12,hb];simp only[mG,fZ];rw[q0];dsimp only;rw[q1];simp only[y1,y2];rw[q2];simp only[y3];rw[q3];simp only[zO,mF,fO,y3]
end
def Cw{zs:aa Int}(h:zs.Pairwise (· <= ·)):∀m,m<=zZ zs->Asc (Go.Lib.compactUpTo zs.toArray m)/\∀x,x∈Go.Lib.compactUpTo zs.toArray m↔x∈zs.take m
 |0,_=>⟨List.Pairwise.nil,λx=>by simp[Go.Lib.compactUpTo]⟩
 |m+1,hm=>by
  obtain⟨a,b⟩:=Cw h m aj;have hg:∀j,zs.toArray[j]! =zs[j]! :=λj=>by
   by_cases hj:j<zZ zs
   ·rw[getElem!_pos zs.toArray j (by simpa using hj),getElem!_pos zs j hj];simp
   ·rw[getElem!_neg zs.toArray j (by simpa using hj),getElem!_neg zs j hj]
  rw[Go.Lib.compactUpTo_succ,take_succ! (show m<zZ zs by omega),hg];have hle:∀i j,i<=j->j<zZ zs->zs[i]!<=zs[j]! :=λi j hij hj=>by
   rw[getElem!_pos zs i aj,getElem!_pos zs j hj];rcases xJ i j with h1|h1
   ·exact wN.1 h i j aj hj h1
   ·have:i=j:=aj;subst this;exact zG _
  cases hk:Go.Lib.keeps zs.toArray m with
  |true=>
   simp only[dx];refine⟨wI.2 ⟨a,List.pairwise_singleton ..,λy hy z hz=> ?_⟩,λx=>by rw[zR,zR,b x]⟩;rw[zA.1 hz];obtain⟨j,hj,e⟩:=xh ((b y).1 hy);rw[zL]at hj;rw[xo]at e;unfold Go.Lib.keeps at hk;rw[decide_eq_true_eq,hg,hg]at hk;have h1:=hle j (m-1) aj aj;have h2:=hle (m-1) m aj aj;rw[getElem!_pos zs j aj,e]at h1;omega
  |false=>
   simp only[xz,AE,yN];refine⟨a,λx=> ?_⟩;unfold Go.Lib.keeps at hk;rw[decide_eq_false_iff_not,hg,hg]at hk;have hm0:0<m:=aj;have he:zs[m]! =zs[m-1]! :=aj;rw[zR,b x,he];constructor
   ·exact λh=> .inl h
   ·rintro(h|h)
    ·exact h
    ·rw[zA.1 h,List.mem_iff_getElem];refine⟨m-1,by rw[zL];omega,?_⟩;rw[xo,getElem!_pos zs (m-1) aj]
def age(l:aa Int):Asc (Go.Lib.compact (jV l))/\∀x,x∈Go.Lib.compact (jV l)↔x∈l:=by
 have hp:(jV l).Pairwise (· <= ·):=by
  have:=List.pairwise_mergeSort (le:=λx y:Int=>w9 (x<=y)) (λa b c h1 h2=>by simp only[decide_eq_true_eq]at*;omega) (λa b=>by simp only[yO,decide_eq_true_eq];omega) l;exact this.imp λh=>by simpa using h
 obtain⟨a,b⟩:=Cw hp (jV l).length (zx _);refine⟨a,λx=> ?_⟩;show x∈Go.Lib.compactUpTo _ _↔_;rw[b x,yh];exact List.mem_mergeSort
def TK{P:Int->Prop}:∀{k:Nat} {v:Int} {F:aa Bool->Int},(tf k v F).ji P->∀e:aa Bool,zZ e=k->P (F e)
 |0,_,F,h,[],_=>h
 |k+1,v,F,h,b::e,he=>by
  simp only[tf]at h;obtain⟨h0,h1⟩:=Mi h;cases b
  ·exact TK (F:=λe=>F (O::e)) h0 e (by simpa using he)
  ·exact TK (F:=λe=>F (Z::e)) h1 e (by simpa using he)
def ai7(t:BT):t.ji λx=>BT.leaf x∈bw t []:=by
 have key:∀u:BT,u∈bw t []->u.ji λx=>BT.leaf x∈bw t []:=λu=>by
  induction u with
  |leaf x=>exact λh=>h
  |node v a b ia ib=>
   intro h;obtain⟨ha,hb⟩:=(fe t mc).parts h;exact⟨ia ha,ib hb⟩
 exact key t (cv t [])
def Q7{k:Nat}(hk:k<=12){l:aa Int}(hl:zZ l=2^k)(hP:∀x∈l,gh x):∃d,m40 (k:Int) l=M d/\Dm k (λe=>l[nL e]!) d:=by
 have h4:2^k<=4096:=zK (xB (n:=2) aj hk) (by decide);obtain⟨a,b⟩:=age l;have hsl:zZ (jV l)=zZ l:=by unfold jV;exact List.length_mergeSort l
 have e1:aeE l=M l:=by
  show (if zZ l<=1073741824 then M l else J)=M l;rw[Dx]
 have e2:TL l=M (jV l):=by unfold TL;rw[Dx]
 have e3:TG (jV l)=M (Go.Lib.compact (jV l)):=by unfold TG;rw[Dx]
 generalize Go.Lib.compact (jV l)=L at*;have hLl:zZ L<=4096:=by
  have:=Ri (l:=L) (m:=l) a.nd (λx hx=>(b x).1 hx);omega
 have hn:=anw (L:=L) aj hk hl (λx hx=>(b x).2 hx);have hmem:∀e:aa Bool,zZ e=k->l[nL e]!∈l:=λe he=>by
  have:=tV e;rw[he]at this;exact bg aj
 refine⟨⟨(k:Int),L,iD L (bN (bw (tf k 0 λe=>l[nL e]!) [])),num L (bN (bw (tf k 0 λe=>l[nL e]!) [])) (tf k 0 λe=>l[nL e]!)⟩,?_,⟨rfl,a,λx=> ?_,rfl,rfl⟩,λe he=>hP _ (hmem e he)⟩
 ·unfold m40;simp only[e1,e2,e3,hn]
 ·rw[b x];constructor
  ·intro hx;obtain⟨j,hj,e⟩:=xh hx;have h:=TK (ai7 (tf k 0 λe=>l[nL e]!)) (Nk k j) (Gb k j);rw[Ko aj,getElem!_pos l j hj,e]at h;exact h
  ·intro hx;rcases gx hx with h|h
   ·cases h
   ·exact h.all (kX (P:=λx=>x∈l) hmem)
def ax3{f:bn}(hn:J8 f 10 80=Z)(hc:Aa f=0){k:Nat}(hk:k<=12)(hb:(bx f.ah).2.2=(k:Int))(v:mI)(x:Int):
  (vr f.ah (fH f.ah 2) v.cq≠0->∃d,m36 f v x=M (d,vr f.ah (fH f.ah 2) v.cq))/\
  (vr f.ah (fH f.ah 2) v.cq=0->((x<0\/(zZ f.ah:Int)<=x)->∃d,m36 f v x=M (d,3))/\
   (0<=x->x<(zZ f.ah:Int)->∃d,m36 f v x=M (d,0)/\Dm k (λe=>if(bx f.ah).1.all (mz f.ah e)=Z then(L6 f (nG f.ah v.cq e)).vals[x.toNat]! else 0) d)):=by
 have hn20:=sU hn;obtain⟨h1,h2,h3⟩:=Uc hn20;obtain⟨h4,h5,h6⟩:=rK hn;have hv:=sS hn20 hc;have hf:=Er hc;have e48:=aeR f h1 h2 aj;rw[hc]at e48;have e65:=Lh f aj 2;have e64:=abE f (fH f.ah 2) v.cq (Bm 2) (by have:=DE f.ah 2;omega);obtain⟨e49,l1,l2,l3,l4,l5⟩:=Kl f hv;refine⟨λhp=> ?_,λhp=> ?_⟩
 ·unfold m36 adq;simp only[dS,dP,e48,e65,e64,hp];exact⟨_,rfl⟩
 obtain⟨ea,s,r,eb,hR,hS,sc,st⟩:=ajy hk hn hc hb hp;refine⟨λhx=> ?_,λx1 x2=> ?_⟩
 ·unfold m36;simp only[dP,ea,eb,mG];rcases hx with hx|hx
  ·simp only[hx,mG,fZ];exact⟨_,rfl⟩
  ·have:¬x<0:=aj;simp only[dS,dP,this,hx];exact⟨_,rfl⟩
 ·have hB:∀e:aa Bool,zZ e=k->rA f Z f.bG ⟨V0 f.ah v.cq e,[],0⟩:=λe he=>by
   have:=hf.o;have:=hf.t;exact⟨hf.steps,aoY hc hv hp hb he,zG _,by show (0:Int)+_<=_;omega,by show (((0:Nat):Int))+_<=_;omega⟩
  obtain⟨s2,e73,hS2⟩:=aii (X:=⟨f,(k:Int),(bx f.ah).2.1,(bx f.ah).1,r⟩) hk hf.vars aj rfl rfl hR aj hB hS;obtain⟨dd,e58,hD⟩:=YQ hk (aK.mk f (k:Int) (bx f.ah).2.1 (bx f.ah).1 r) rfl hv (by simp only;omega) (λt ht=>by
   have:=ry hv t ht;rw[hb]at this;exact this)
  obtain⟨c,y1,y2,C⟩:=tJ (X:=⟨f,(k:Int),(bx f.ah).2.1,(bx f.ah).1,r⟩) hk (x:=0) rfl rfl;have hl2:=hS2.vals.len;obtain⟨d,e74,D⟩:=kf (X:=⟨f,(k:Int),(bx f.ah).2.1,(bx f.ah).1,r⟩) hk hD (hS2.vals.at_ x.toNat aj) C;have n1:¬x<0:=aj;have n2:¬(zZ f.ah:Int)<=x:=aj;have j1:(0:Int)<=x/\x<(zZ s2.aV:Int):=aj;refine⟨d,?_,D.congr λe he=> ?_⟩
  ·unfold m36;simp only[dS,dP,ea,eb,n1,n2];rw[sc,st];simp only[e73,e58,j1,Au,dx,y1,y2,e74]
  ·unfold abB;by_cases h:(bx f.ah).1.all (mz f.ah e)=Z
   ·rw[bO h,bO h,bO rfl];obtain⟨_,q⟩:=Si hc hv hp hb he h;unfold L6;rw[<-q]
   ·rw[bP h,bP h,bP (by decide)]
def Zr{vs:aa bf}(bits:aa Bool)(hb:zZ bits<=1000)(o:aa Int)(is:Bool)(sl:aa Slot)(c d:Int)(f:bn)(t:Slot)(h:oR vs (zZ bits) t):
  Lz ⟨bits,o,is,0,sl,c,d,t.dM,0,f,t⟩=M ⟨bits,o,is,bv (oQ bits t),sl,c,d,t.dM,t.dM,f,t⟩:=by
 obtain⟨k,hk⟩:∃k:Nat,t.dM=(k:Int):=⟨t.dM.toNat,by have:=h.b0;omega⟩;have hl:=nZ h;have g1:=h.f0;have g2:=h.b1;have g3:=h.l
 obtain⟨v,q,hv⟩:=cZ (rnd:=Lj) k (λi (z:Int)=>⟨bits,o,is,z,sl,c,d,(k:Int),(i:Int),f,t⟩) (λi z=>z=bv ((oQ bits t).take i)) (λi z hi hz=>by
  have i1:(i:Int)<(k:Int):=aj;have w1:ak (t.dJ+(i:Int))=t.dJ+(i:Int):=aI;have w2:ak ((i:Int)+1)=((i+1:Nat):Int):=by rw[aI];rfl
  have r1:0<=t.dJ+(i:Int):=aj;have r2:t.dJ+(i:Int)<(zZ bits:Int):=aj;have zb:=OV ((oQ bits t).take i) (by rw[zL];omega);rw[<-hz]at zb;have w3:ak (2*z)=2*z:=aI;have w4:ak (2*z+1)=2*z+1:=aI;have e:=Xd (bits:=bits) (t:=t) (i:=i) g1 aj;refine⟨bvF z bits[(t.dJ+(i:Int)).toNat]!,?_,?_⟩
  ·unfold Lj uF;simp only[dS,i1,fZ,w1,r1,r2,dx,w2,w3,w4];unfold bvF;cases bits[(t.dJ+(i:Int)).toNat]! <;>simp
  ·rw[bV aj,UR,<-hz,e]) (λz _=>by unfold Lj uF;simp) (b:=0) rfl
 have hv:v=bv (oQ bits t):=by
  rw[hv,yU aj]
 rw[hk,<-hv];exact q
def YC(f:bn)(h:KF f.ah)(bits:aa Bool)(hb:zZ bits<=1000)(sl:aa Slot)(hl:zZ sl<=10000)(hs:∀t∈sl,oR f.ah (zZ bits) t):
  Ke ⟨bits,[],Z,sl,(zZ sl:Int),0,f⟩=M ⟨bits,sl.map (Dn f.ah bits),sl.all (mz f.ah bits),sl,(zZ sl:Int),(zZ sl:Int),f⟩:=by
 obtain⟨v,q,hv⟩:=cZ (rnd:=Lf) (zZ sl) (λi (z:aa Int×Bool)=>⟨bits,z.1,z.2,sl,(zZ sl:Int),(i:Int),f⟩) (λi z=>z=((sl.take i).map (Dn f.ah bits),(sl.take i).all (mz f.ah bits))) (λi z hi hz=>by
  have i1:(i:Int)<(zZ sl:Int):=aj;have i2:(0:Int)<=(i:Int):=aj;have w2:ak ((i:Int)+1)=((i+1:Nat):Int):=by rw[aI];rfl
  have ht:=hs _ (bg hi);have l1:zZ z.1<=10000:=by rw[hz];simp;omega
  have x1:=ht.v0;have x2:=ht.v1
  have hv:=h.2 (sl[i]!.bq.toNat) aj;have zb:=OV (oQ bits sl[i]!) (by rw[nZ ht];have:=ht.b1;omega);have w3:ak (f.ah[sl[i]!.bq.toNat]!.aC+bv (oQ bits sl[i]!))=f.ah[sl[i]!.bq.toNat]!.aC+bv (oQ bits sl[i]!):=aI;have l2:zZ (z.1++[f.ah[sl[i]!.bq.toNat]!.aC+bv (oQ bits sl[i]!)])<=1073741824:=by simp;omega
  refine⟨(z.1++[Dn f.ah bits sl[i]!],z.2&&mz f.ah bits sl[i]!),?_,?_⟩
  ·unfold Lf GI uF;simp only[dS,dP,i1,i2,dx,hi,Zr bits hb _ _ _ _ _ f _ ht,zO,x1,x2,w3,l2,w2];unfold mz Dn;by_cases hq:f.ah[sl[i]!.bq.toNat]!.au<f.ah[sl[i]!.bq.toNat]!.aC+bv (oQ bits sl[i]!)<;>simp only[dS,dP,hq,Bool.not_true,Bool.not_false,Bool.and_false,Bool.and_true]
  ·rw[bV hi,zH,List.all_append,hz];simp) (λz _=>by unfold Lf GI uF;simp) (b:=([],Z)) rfl
 have hv:v=(sl.map (Dn f.ah bits),sl.all (mz f.ah bits)):=by rw[hv,yh]
 subst hv;exact q
def akj(f:bn)(h:KF f.ah)(bits:aa Bool)(hb:zZ bits<=1000)(hs:∀t∈(bx f.ah).1,oR f.ah (zZ bits) t):
  ajP f bits=M ((bx f.ah).1.map (Dn f.ah bits),(bx f.ah).1.all (mz f.ah bits)):=by
 unfold ajP GI uF;have l:=(Kl f h).2.1;simp only[T6 f h,YC f h bits hb _ aj hs,zO,mF,fO]
def aiW{e:aa Bool}(hl:zZ e<=12):akp (nL e:Nat) (zZ e:Nat)=M e:=by
 have hb:=tV e;have h4:2^e.length<=4096:=zK (xB (n:=2) aj hl) (by decide);obtain⟨v,q,hv⟩:=cZ (rnd:=Lp) (zZ e) (λi (t:aa Bool)=>⟨(nL e:Nat),t,(zZ e:Int)-1-(i:Int)⟩) (λi t=>t=e.take i) (λi t hi ht=>by
  have i1:(0:Int)<=(zZ e:Int)-1-(i:Int):=aj;have hw:ak ((zZ e:Int)-1-(i:Int)-1)=(zZ e:Int)-1-((i+1:Nat):Int):=by rw[aI];omega
  have hbit:w9 (oT IntKind.i64 (de IntKind.i64 ((nL e:Nat):Int) ((zZ e:Int)-1-(i:Int))) 1=1)=e[i]! :=by
   rw[show (zZ e:Int)-1-(i:Int)=((zZ e-1-i:Nat):Int)by omega,aId _ aj,pw2];have h1:((nL e:Nat):Int)/((2^(zZ e-1-i):Nat):Int)=((nL e/2^(zZ e-1-i):Nat):Int):=by simp
   have h2:nL e/2^(zZ e-1-i)<=nL e:=Nat.div_le_self _ _;have h3:=XM hi;rw[h1];generalize nL e/2^(zZ e-1-i)=z at*;rw[aLc aj aj,show ((z:Int)%2)=((z%2:Nat):Int)by omega,h3];cases e[i]! <;>rfl
  have hlen:zZ (t++[e[i]!])<=1073741824:=by rw[ht];simp;omega
  refine⟨e.take (i+1),?_,rfl⟩;unfold Lp Gn;simp only[i1,mG,fZ,dx,hbit,hlen,hw];rw[take_succ! hi,ht]) (λt _=>by
   have i1:¬(0:Int)<=(zZ e:Int)-1-(zZ e:Int):=aj;unfold Lp Gn;simp only[i1,mF,fO]) (b:=[]) rfl
 rw[yU (zx _)]at hv;subst hv;have hw:ak ((zZ v:Int)-1)=(zZ v:Int)-1:=aI;have q':Kh ⟨(nL v:Nat),[],(zZ v:Int)-1⟩=M ⟨(nL v:Nat),v,(zZ v:Int)-1-(zZ v:Int)⟩:=by
  have:=q;simp only[Int.ofNat_zero,Int.sub_zero]at this;exact this
 have i1:¬(0:Int)<=(zZ v:Int)-1-(zZ v:Int):=aj;unfold akp Gn;rw[hw,q'];simp only[i1,mF,fO]
def ar9(f:bn):∃r,m23 f=M r/\(r=Z->J8 f 10 80=Z/\Aa f=0/\0<=(bx f.ah).2.2/\(bx f.ah).2.2<=8):=by
 obtain⟨r,e,h⟩:=awo f 64 4096 16;unfold m23;rw[e];cases r with
 |false=>exact⟨_,rfl,λh=>by cases h⟩
 |true=>
  obtain⟨h1,h2⟩:=h rfl;have hv:=sS (sU h1) h2;have hb:=(Kl f hv).2.2.2.2.1;simp only[dP,T6 f hv];exact⟨_,rfl,λh=>⟨h1,h2,hb,by simpa using h⟩⟩
def avc{f:bn}(h1:J8 f 10 80=Z)(h2:Aa f=0)(v:mI):m25 f v=M (vr f.ah (fH f.ah 2) v.cq):=by
 obtain⟨N,hN⟩:=NA h2 (k:=2) (.inr (.inl rfl));obtain⟨n,e⟩:=avv (sS (sU h1) h2) 2 (.inr (.inl rfl)) N hN v.cq;unfold m25;rw[e]
def aw0{f:bn}(h1:J8 f 10 80=Z)(h2:Aa f=0){k:Nat}(hk:k<=12)(hb:(bx f.ah).2.2=(k:Int))(pub:aa Int){e:aa Bool}(he:zZ e=k):m37 f pub e=M (if(bx f.ah).1.all (mz f.ah e)=Z then(nG f.ah pub e,Z)else(⟨[],[],[]⟩,O)):=by
 have hv:=sS (sU h1) h2;have e19:=akj f hv e aj λt ht=>by
  have:=ry hv t ht;rw[hb]at this;rw[he];exact this
 unfold m37;rw[e19];by_cases hd:(bx f.ah).1.all (mz f.ah e)=Z
 ·have hl:=um f.ah;have hg:zZ (gK f.ah 1)=zZ (fH f.ah 1):=by unfold gK;rw[zF]
  have hc:(0:Int)<=(zZ (gK f.ah 1):Int)/\(zZ (gK f.ah 1):Int)<=(zZ ((bx f.ah).1.map (Dn f.ah e)):Int):=by rw[zF];omega
  simp only[dP,hd,Ty f.ah 1 hv.1,hc,Au,dx];unfold nG;rw[zw,hg]
 ·simp only[dP,eq_false_of_ne_true hd,xz,AE]
def afV(d:aq)(h1:zZ d.aG<=1000000)(h2:zZ d.aD<=1000000):m39 d d=M Z:=by
 unfold m39;simp only[mG,fZ,OF _ h1,Gj _ h2]
def adH{f:bn}(hc:Aa f=0){inp:fu}(h:ki f.ah inp):vM f.ah (L6 f inp).vals:=(rA.run (Er hc).vars (aBS (Er hc) h)).vals
def ai9(f:bn)(v:mI)(x:Int):m9 f v x=M Z:=by
 have h12:m12=Z:=rfl;obtain⟨r,e23,hr⟩:=ar9 f;unfold m9 abi;rw[h12,e23];cases r with
 |false=>rfl
 |true=>
  obtain⟨h1,h2,hb0,hb8⟩:=hr rfl;obtain⟨k,hb⟩:∃k:Nat,(bx f.ah).2.2=(k:Int):=⟨((bx f.ah).2.2).toNat,aj⟩;have hk8:k<=8:=aj;have hv:=sS (sU h1) h2;obtain⟨g1,g2⟩:=ax3 h1 h2 (k:=k) aj hb v x;have e25:=avc h1 h2 v;by_cases hp:vr f.ah (fH f.ah 2) v.cq=0
  ·obtain⟨g3,g4⟩:=g2 hp;rw[hp]at e25;by_cases hx:x<0\/(zZ f.ah:Int)<=x
   ·obtain⟨d,e36⟩:=g3 hx;rcases hx with hx|hx
    ·simp only[dP,e36,e25,hx,mG]
    ·have hx0:¬x<0:=aj;simp only[dS,dP,e36,e25,hx,hx0]
   ·obtain⟨d,e36,D⟩:=g4 aj aj;have hx0:¬x<0:=aj;have hx1:¬(zZ f.ah:Int)<=x:=aj;have hp2:2^k<=256:=zK (xB (n:=2) aj hk8) (by decide);have hsh:FF IntKind.i64 1 (k:Int)=((2^k:Nat):Int):=by rw[adO aj,pw2]
    obtain⟨tb,q,ht⟩:=cZ (rnd:=aiS) (2^k) (λi (t:aa Int)=>⟨x,0,(k:Int),t,((2^k:Nat):Int),(i:Int),f,v,d⟩) (λi t=>t=(zy i).map λj=>if(bx f.ah).1.all (mz f.ah (Nk k j))=Z then(L6 f (nG f.ah v.cq (Nk k j))).vals[x.toNat]! else 0) (λi t hi ht=>by
     have i1:(i:Int)<((2^k:Nat):Int):=aj;have w2:ak ((i:Int)+1)=((i+1:Nat):Int):=by rw[aI];rfl
     have hle:=Gb k i;have e20:=aiW (e:=Nk k i) aj;rw[Ko hi,hle]at e20;have e37:=aw0 h1 h2 (k:=k) aj hb v.cq hle;have hlen:∀y:Int,zZ (t++[y])<=1073741824:=λy=>by rw[ht];simp;omega
     refine⟨_,?_,by rw[xH,zH,<-ht]⟩;unfold aiS abi;simp only[i1,mG,fZ,e20,e37];by_cases hd:(bx f.ah).1.all (mz f.ah (Nk k i))=Z
     ·obtain⟨st,_⟩:=Si h2 hv hp hb hle hd;obtain⟨n1,n2,n3⟩:=rK h1;obtain⟨p,e38,q1,q2⟩:=auB h2 n1 n2 n3 (nG f.ah v.cq (Nk k i));have hl:=(adH h2 st).1;have hpe:=(q1 (q2 st)).1;have j1:(0:Int)<=x/\x<(zZ (L6 f (nG f.ah v.cq (Nk k i))).vals:Int):=aj;simp only[hd,dx,fZ,e38,hpe,iB,j1,Au,hlen,w2,zI,yx]
     ·simp only[lG,eq_false_of_ne_true hd,xz,fO,hlen,w2,zI,yx]) (λt _=>by unfold aiS abi;simp) (b:=[]) rfl
    have htl:zZ tb=2^k:=by rw[ht];simp
    have hval:∀e:aa Bool,zZ e=k->gh (if(bx f.ah).1.all (mz f.ah e)=Z then(L6 f (nG f.ah v.cq e)).vals[x.toNat]! else 0):=λe he=>by
     split
     ·rename_i hd;have:=(adH h2 (Si h2 hv hp hb he hd).1).2 x.toNat aj;have hvv:=hv.2 x.toNat aj;exact eX aj aj
     ·rfl
    obtain⟨d',e40,D'⟩:=Q7 (k:=k) aj htl (λy hy=>by
     rw[ht]at hy;obtain⟨j,_,rfl⟩:=zC.1 hy;exact hval _ (Gb k j))
    have hdd:d'=d:=Dm.oU (D'.congr λe he=>by
     have hbv:=tV e;rw[he]at hbv;rw[ht,map_get! _ (by simpa using hbv)];have hr:(zy (2^k))[nL e]! =nL e:=by
      rw[getElem!_pos (zy (2^k)) _ (by simpa using hbv),xZ]
     rw[hr,<-he,afp]) D
    subst hdd;have q':anI ⟨x,0,(k:Int),[],((2^k:Nat):Int),0,f,v,d'⟩=M ⟨x,0,(k:Int),tb,((2^k:Nat):Int),((2^k:Nat):Int),f,v,d'⟩:=q;obtain⟨s1,s2,_⟩:=dV (n:=(k:Int)) (CH (k:=k) (F:=λe=>if(bx f.ah).1.all (mz f.ah e)=Z then(L6 f (nG f.ah v.cq e)).vals[x.toNat]! else 0)) aj;have hlens:=iG.lens D.c;have c3:(0:Int)<=(k:Int):=aj;simp only[dS,dP,e36,e25,hx0,hx1,T6 f hv,hb,c3,hsh,q',e40,afV d' (Nat.le_trans hlens.1 (Nat.le_trans s2 (by decide))) (Nat.le_trans (Nat.le_of_eq hlens.2) (Nat.le_trans s1 (by decide))),zO,dx]
  ·obtain⟨d,e36⟩:=g1 hp;simp only[dS,dP,e36,e25,hp]
end Go.Proofs.YtghilkcphindjaaGreat
namespace Go.Proofs.YtghilkcphindjaaGreat
open Go Go.Iv Go.RowKit Go.Deep Go.ChangeShapes Go.WideShapes Go.Joins
section
variable {H:Type} {enc:TypeId×Value->H} {w:World}
def og9 B:gA B enc va w 9 (λs=>[.s s]):=gA.str underlying9
def aJ4 B:gA B enc va w 65 (cN .i64):=gA.int underlying65
def og3 B:gA B enc va w 3 (cN .i64):=gA.int underlying3
def aCG B:gA B enc va w 108 (uni.cells 108):=λbase fuel hB cs x h=>by
 obtain⟨xs,n,rfl,rfl,hl,hlen,hf⟩:=DataW.trod_struct underlying108 h;have hB:=Nat.lt_of_succ_lt hB;obtain⟨a0,r0⟩:=oS hB (og9 B) hlen (hf 0 _ rfl);obtain⟨a1,r1⟩:=oS hB (aJ4 B) hlen (hf 1 _ rfl);obtain⟨a2,r2⟩:=oS hB (og3 B) hlen (hf 2 _ rfl);obtain⟨a3,r3⟩:=oS hB (og3 B) hlen (hf 3 _ rfl);obtain⟨a4,r4⟩:=oS hB (og3 B) hlen (hf 4 _ rfl);exact⟨(⟨a0,a1,a2,a3,a4⟩:bf),rS r0 (rS r1 (rS r2 (rS r3 (rS r4 (rE hl)))))⟩
def aKQ B:gA B enc va w 22 (λl:aa (uni.cQ 108)=>[.sl 108 l]):=gA.slice (sz:=4) underlying22 aL rfl (aCG B)
def aAK B:gA B enc va w 103 (cN .i64):=gA.int underlying103
def ad0:∀B,gA B enc va w 106 (uni.cells 106)
 |0=>λbase fuel hB=>iy hB (Nat.not_lt_zero _)
 |B+1=>λbase fuel hB cs x h=>by
  obtain⟨xs,n,rfl,rfl,hl,hlen,hf⟩:=DataW.trod_struct underlying106 h;have hB:=Nat.lt_of_succ_lt_succ hB;obtain⟨a0,r0⟩:=oS hB (aAK B) hlen (hf 0 _ rfl);obtain⟨a1,r1⟩:=oS hB (og3 B) hlen (hf 1 _ rfl);obtain⟨a2,r2⟩:=oS hB (gA.slice (sz:=2) underlying104 aL rfl (ad0 B)) hlen (hf 2 _ rfl);exact⟨(⟨a0,a1,a2⟩:ay),rS r0 (rS r1 (rS r2 (rE hl)))⟩
def ay4 B:gA B enc va w 116 (uni.cells 116):=λbase fuel hB cs x h=>by
 obtain⟨xs,n,rfl,rfl,hl,hlen,hf⟩:=DataW.trod_struct underlying116 h;have hB:=Nat.lt_of_succ_lt hB;obtain⟨a0,r0⟩:=oS hB (og9 B) hlen (hf 0 _ rfl);obtain⟨a1,r1⟩:=oS hB (og3 B) hlen (hf 1 _ rfl);obtain⟨a2,r2⟩:=oS hB (og3 B) hlen (hf 2 _ rfl);obtain⟨a3,r3⟩:=oS hB (ad0 B) hlen (hf 3 _ rfl);exact⟨(⟨a0,a1,a2,a3⟩:dO),rS r0 (rS r1 (rS r2 (rS r3 (rE hl))))⟩
def aKr B:gA B enc va w 23 (λl:aa (uni.cQ 116)=>[.sl 116 l]):=gA.slice (sz:=5) underlying23 aL rfl (ay4 B)
def aCd B:gA B enc va w 109 (cN .i64):=gA.int underlying109
def aEx B:gA B enc va w 46 (λl:aa (uni.cQ 3)=>[.sl 3 l]):=gA.slice (sz:=0) underlying46 aL rfl (og3 B)
def af6:∀B,gA B enc va w 111 (uni.cells 111)
 |0=>λbase fuel hB=>iy hB (Nat.not_lt_zero _)
 |B+1=>λbase fuel hB cs x h=>by
  obtain⟨xs,n,rfl,rfl,hl,hlen,hf⟩:=DataW.trod_struct underlying111 h;have hB:=Nat.lt_of_succ_lt_succ hB;obtain⟨a0,r0⟩:=oS hB (aCd B) hlen (hf 0 _ rfl);obtain⟨a1,r1⟩:=oS hB (og3 B) hlen (hf 1 _ rfl);obtain⟨a2,r2⟩:=oS hB (og3 B) hlen (hf 2 _ rfl);obtain⟨a3,r3⟩:=oS hB (og3 B) hlen (hf 3 _ rfl);obtain⟨a4,r4⟩:=oS hB (ad0 B) hlen (hf 4 _ rfl);obtain⟨a5,r5⟩:=oS hB (gA.slice (sz:=9) underlying24 aL rfl (af6 B)) hlen (hf 5 _ rfl);obtain⟨a6,r6⟩:=oS hB (gA.slice (sz:=9) underlying24 aL rfl (af6 B)) hlen (hf 6 _ rfl);obtain⟨a7,r7⟩:=oS hB (aEx B) hlen (hf 7 _ rfl);exact⟨(⟨a0,a1,a2,a3,a4,a5,a6,a7⟩:aM),rS r0 (rS r1 (rS r2 (rS r3 (rS r4 (rS r5 (rS r6 (rS r7 (rE hl))))))))⟩
def aJx B:gA B enc va w 24 (λl:aa (uni.cQ 111)=>[.sl 111 l]):=gA.slice (sz:=9) underlying24 aL rfl (af6 B)
def aKx B:gA B enc va w 26 (uni.cells 26):=λbase fuel hB cs x h=>by
 obtain⟨xs,n,rfl,rfl,hl,hlen,hf⟩:=DataW.trod_struct underlying26 h;have hB:=Nat.lt_of_succ_lt hB;obtain⟨a0,r0⟩:=oS hB (aKQ B) hlen (hf 0 _ rfl);obtain⟨a1,r1⟩:=oS hB (aKr B) hlen (hf 1 _ rfl);obtain⟨a2,r2⟩:=oS hB (aJx B) hlen (hf 2 _ rfl);exact⟨(⟨a0,a1,a2⟩:bn),rS r0 (rS r1 (rS r2 (rE hl)))⟩
def og4 B:gA B enc va w 4 cB:=gA.bool underlying4
def aJG B:gA B enc va w 53 (uni.cells 53):=λbase fuel hB cs x h=>by
 obtain⟨xs,n,rfl,rfl,hl,hlen,hf⟩:=DataW.trod_struct underlying53 h;have hB:=Nat.lt_of_succ_lt hB;obtain⟨a0,r0⟩:=oS hB (aEx B) hlen (hf 0 _ rfl);obtain⟨a1,r1⟩:=oS hB (og4 B) hlen (hf 1 _ rfl);exact⟨(⟨a0,a1⟩:mI),rS r0 (rS r1 (rE hl))⟩
end
end Go.Proofs.YtghilkcphindjaaGreat
namespace Go.Proofs.YtghilkcphindjaaGreat
open Go Go.Iv
open Go.IntKind (i64 u64)
def aBW:eN va 9 0 (d9.pat Z)=⟨.b Z,[],0⟩:=aL
def aC2(f:bn)(v:mI)(x:Int):Iv.Fn va 9 [.agg (uni.cells 26 f), .agg (uni.cells 53 v), .n .i64 x] [] (λa s=>a= .b Z/\s=[]):=(h9 (f,v,x,()) Z (ai9 f v x)).law aBW aL
end Go.Proofs.YtghilkcphindjaaGreat
end
