/- Merged: Gw1, Ns1, Ns2, Ns3, Gm, Ns4, Ns5, Ns6, Gq, Ns7, Ns8, Ns9, Ns10, Ns11, Ns12, Ns13, Ns14, Gv, Zy, Zz, Yj1, Ya, Yb0, Yb1, Yb2, Yb3, Yc, Yd, Ye, Yj2, Yf, Yg, Yh, Yi, Ixs, Gx, Gy, Yj3, Yj4, Gz, Ge1. -/
import Derived.Test.YtghilkcphindjaaGreatM1SymbolicFinals
import Derived.Test.YtghilkcphindjaaGreatM5SymbolicFinals
import Derived.Test.YtghilkcphindjaaGreatM3SymbolicFinals
import Derived.Test.YtghilkcphindjaaGreatM4SymbolicFinals
import Derived.KernelRfl
open Nat renaming beq -> zg, le_refl -> zx, blt -> zB, le_trans -> zK, zero_add -> zY, le_succ -> yc, zero_le -> yu, le_of_ble_eq_true -> yT, pow_pos -> yV, sub_self -> xb, blt_eq -> xw, pow_le_pow_right -> xB, lt_or_ge -> xJ, div_lt_iff_lt_mul -> wQ
open Bool renaming and_eq_true -> zh, or_eq_true -> yO, false_eq_true -> xz, true -> Z, false -> O
open SizeOf renaming sizeOf -> zi
open Option renaming map_eq_some_iff -> zj, bind_eq_some_iff -> zl, getD_some -> yE, isSome_none -> yF, isSome_some -> y9, some -> M, none -> J
open List renaming mem_cons -> zk, mem_cons_self -> zm, all_eq_true -> zn, replicate -> zq, length_append -> zu, range -> zy, mem_singleton -> zA, mem_map -> zC, getElem?_eq_getElem -> zD, length_map -> zF, map_append -> zH, map_cons -> zI, length_take -> zL, mem_cons_of_mem -> zM, mem_append -> zR, mem_filter -> zW, length_drop -> zX, length -> zZ, length_cons -> ya, mem_append_left -> ye, take_length -> yh, filter_append -> yj, nil_append -> yl, map_nil -> yx, getElem_map -> yy, idxOf_lt_length_of_mem -> yz, getElem?_take -> yA, not_mem_nil -> yD, getElem?_drop -> yK, append_nil -> yN, length_nil -> yP, getElem_mem -> yR, take_of_length_le -> yU, drop_eq_getElem_cons -> yX, length_replicate -> yY, filter_cons -> yZ, length_singleton -> y8, nodup_nil -> xg, getElem_of_mem -> xh, all_cons -> xu, drop -> xx, range_succ -> xH, mem_range -> xM, getElem!_cons_zero -> xS, getElem_append_left -> xW, nodup_iff_pairwise_ne -> x9, nodup_cons -> wg, idxOf_append -> wB, foldl_append -> wC, mem_of_mem_drop -> wG, filter_sublist -> wM, pairwise_iff_getElem -> wN, getElem_append_right -> wR, length_pos_iff -> wT, idxOf_cons_self -> wY, length_filter_le -> w6
open Int renaming toNat_natCast -> zw, le_refl -> zG, lt_irrefl -> zO, toNat -> zQ, mul_nonneg -> yo, mul_le_mul_of_nonneg_right -> xe, le_trans -> x8, natCast_pow -> wO
open Decidable renaming decide -> w9
open Go.Proofs.Tryz renaming prog -> va
open Go.Proofs.Tryz
set_option linter.unusedSectionVars false
set_option linter.unusedVariables false
set_option linter.unusedSimpArgs false
set_option linter.defProp false
noncomputable section
set_option maxRecDepth 100000
namespace Go.Proofs.YtghilkcphindjaaGreat
open Go Go.Iv
open Go.IntKind (i64 u64)
def aKh:aT:=dz
abbrev auI:=Int
def d198:Td 0 auI:=dW 2
def az3:=(lc (qa OX) ln)
def are:An:= .no
def ZY(a0_0:Int)(a0_1:Int)(a0_2:Int):auI:=
 bif w9 (a0_0=1)then a0_1 else a0_2
def aKY(a0_0:Int)(a0_1:Int)(a0_2:Int):bY va (aKh) 300 (are) 198 (az3.c ((a0_0,a0_1,a0_2,()),())) [] 0 d198.rd=M (ZY a0_0 a0_1 a0_2):=by
 refine Eq.trans (b:=(
  bif w9 (a0_0=1)then M (a0_1)else M (a0_2):af auI)) aL ?_
 simp only[ZY,b6,cw]
def aBx:=eL va 198 O az3 d198 (λg=>M (ZY g.1.1 g.1.2.1 g.1.t.1))
def Li:EO aBx:=λh=>kL (an:=are) func198 aP az h (c:=λg=>aKY g.1.1 g.1.2.1 g.1.t.1)
abbrev ahg:=Int×cR×aq×aq×aq×(aa Int)×(aa bu)×ga×cR×Bool
def apQ:Td 11 ahg:= .c [7,8] [7] (.r 11 13 (ec 7 aU en) (sb 0 327 (lc (qo 5) ln) (sb 1 136 (lc (qk 80 3) ln) (sb 2 239 uT (sb 3 226 (lc (qf 198 ln) ln) ay1)))) (λz=>(z.1.1,z.q.t.1,z.t.1.1.1,z.t.1.1.2.1,z.t.1.1.t.1,z.q.q.t.1,z.q.q.t.2.1,z.q.q.1,z.q.q.2.1,z.q.t.2.1.q.1)) (λx=>((x.1,()),(((),()),((x.t.1,x.t.2.1,x.q.1,()),()),((),()),((()),()),(((),(),(),(),(),()),()),x.2.1,((),(),(),(),x.q.q.2,()),x.q.t.2.1,x.q.q.1,x.q.2.1,x.q.t.1,()))))
def ary:=ZX
def arN:=(sb 0 327 (lc (qo 5) ln) (sb 1 136 (lc (qk 80 3) ln) (sb 2 239 uT (sb 3 226 (lc (qf 198 ln) ln) (sb 4 226 MM (sm 5 .k3 .i awV))))))
abbrev sw:Type:=Int->Int->Int->cR->aq->aq->aq->(aa Int)->(aa bu)->ga->cR->Bool->af ahg
def acB(zf:sw):aT->aT:=eY va 263 11 ary arN apQ (λg=>zf g.1.1.1 g.1.1.2.1 g.1.1.2.2.1 g.2.2.2.2.2.2.1 g.2.2.1.1.1 g.2.2.1.1.2.1 g.2.2.1.1.2.2.1 g.2.2.2.2.2.2.2.2.1 g.2.2.2.2.2.2.2.2.2.1 g.2.2.2.2.2.2.2.2.2.2.1 g.2.2.2.2.2.2.2.2.2.2.2.1 g.2.2.2.2.2.2.2.1.2.2.2.2.1)
def Um(zf:sw):Prop:=HY va 263 11 ary arN apQ (λg=>zf g.1.1.1 g.1.1.2.1 g.1.1.2.2.1 g.2.2.2.2.2.2.1 g.2.2.1.1.1 g.2.2.1.1.2.1 g.2.2.1.1.2.2.1 g.2.2.2.2.2.2.2.2.1 g.2.2.2.2.2.2.2.2.2.1 g.2.2.2.2.2.2.2.2.2.2.1 g.2.2.2.2.2.2.2.2.2.2.2.1 g.2.2.2.2.2.2.2.1.2.2.2.2.1)
def M4{zf:sw}(hM:Um zf):EO (acB zf):=gi hM ⟨_,func263,aL,aL⟩ (λ_=>aL)
def aoN(M263H:sw):aT:=(acB M263H (HO (Sl (Jo (aBx (Th (SM dz)))))))
def aeI{M263H}(h263H:Um M263H):bK va (aoN M263H):=(M4 h263H (gW (rH (lP (Li (oB (lU aP)))))))
def auP(M263H:sw):An:= .no
def au8(M263H:sw):dB va (aoN M263H) 11 300 263 (auP M263H):=bF (l:=[]) func263 (aY aL) aL az
def Eu(M263H:sw)(a0_0:Int)(a0_1:Int)(a0_2:Int)(bt:cR)(b1_0_0:aq)(b1_0_1:aq)(b1_0_2:aq)(b6_0:aa Int)(b6_1:aa bu)(b6_2:ga)(b6_3:cR)(b6_4:Bool):af ahg:=
 bif(ei bt (a0_0,a0_1,a0_2)).isSome then M (((ei bt (a0_0,a0_1,a0_2)).getD 0,bt,b1_0_0,b1_0_1,b1_0_2,b6_0,b6_1,b6_2,b6_3,b6_4))else match jL b1_0_0 a0_0 with|J=>J|M r1=>match jL b1_0_1 a0_1 with|J=>J|M r2=>match jL b1_0_2 a0_2 with|J=>J|M r3=>bif w9 ((eW r3 (eW r2 (eW r1 b1_0_0.ah)))=b1_0_0.ah)then if 0<=a0_0/\a0_0<zZ b1_0_0.aG then if 0<=a0_1/\a0_1<zZ b1_0_1.aG then if 0<=a0_2/\a0_2<zZ b1_0_2.aG then match vp (ZY b1_0_0.aG[a0_0.toNat]! b1_0_1.aG[a0_1.toNat]! b1_0_2.aG[a0_2.toNat]!) b6_0 b6_1 b6_2 b6_3 b6_4 with|J=>J|M r4=>M ((r4.fst,gB bt (a0_0,a0_1,a0_2) r4.fst,b1_0_0,b1_0_1,b1_0_2,r4.snd))else J else J else J else match lJ b1_0_0 a0_0 (eW r3 (eW r2 (eW r1 b1_0_0.ah))) O with|J=>J|M r5=>match lJ b1_0_0 a0_0 (eW r3 (eW r2 (eW r1 b1_0_0.ah))) Z with|J=>J|M r6=>match lJ b1_0_1 a0_1 (eW r3 (eW r2 (eW r1 b1_0_0.ah))) O with|J=>J|M r7=>match lJ b1_0_1 a0_1 (eW r3 (eW r2 (eW r1 b1_0_0.ah))) Z with|J=>J|M r8=>match lJ b1_0_2 a0_2 (eW r3 (eW r2 (eW r1 b1_0_0.ah))) O with|J=>J|M r9=>match lJ b1_0_2 a0_2 (eW r3 (eW r2 (eW r1 b1_0_0.ah))) Z with|J=>J|M r10=>match M263H r5 r7 r9 bt b1_0_0 b1_0_1 b1_0_2 b6_0 b6_1 b6_2 b6_3 b6_4 with|J=>J|M r11=>match M263H r6 r8 r10 r11.snd.fst r11.snd.snd.fst r11.snd.snd.snd.fst r11.snd.snd.snd.snd.fst r11.snd.snd.snd.snd.snd.fst r11.snd.snd.snd.snd.snd.snd.fst r11.snd.snd.snd.snd.snd.snd.snd.fst r11.snd.snd.snd.snd.snd.snd.snd.snd.fst r11.snd.snd.snd.snd.snd.snd.snd.snd.snd with|J=>J|M r12=>match He (eW r3 (eW r2 (eW r1 b1_0_0.ah))) r11.fst r12.fst r12.snd.snd.snd.snd.snd.fst r12.snd.snd.snd.snd.snd.snd.fst r12.snd.snd.snd.snd.snd.snd.snd.fst r12.snd.snd.snd.snd.snd.snd.snd.snd.fst r12.snd.snd.snd.snd.snd.snd.snd.snd.snd with|J=>J|M r13=>M ((r13.fst,gB r12.snd.fst (a0_0,a0_1,a0_2) r13.fst,r12.snd.snd.fst,r12.snd.snd.snd.fst,r12.snd.snd.snd.snd.fst,r13.snd))
def tY:Nat->sw
 |0=>(λ_ _ _ _ _ _ _ _ _ _ _ _=>J)
 |n+1=>(Eu (tY n))
def abq(n:Nat):sw:=(tY n)
def IB:∀n,Um (abq n)
 |0=>λ_ _ h=>(by cases h)
 |n+1=>gZ (aeI (IB n)) (au8 (abq n)) (λ_=>aL) (λ_=>aL) (λ_=>aL) λ_=>aL
def UD:sw:=λa0_0 a0_1 a0_2 bt b1_0_0 b1_0_1 b1_0_2 b6_0 b6_1 b6_2 b6_3 b6_4=>lim (λn=>abq n a0_0 a0_1 a0_2 bt b1_0_0 b1_0_1 b1_0_2 b6_0 b6_1 b6_2 b6_3 b6_4)
def ahL:Um UD:=λg b h=>(bW h).elim λn=>IB n g b
def aEO(F:aT):aT:=acB UD F
def agP:EO aEO:=M4 ahL
abbrev aqA:=aq×Int
def aCH:Td 0 aqA:= .c [] [4,5] (.r 0 1 (ec 4 (qp 0 0) (ec 5 aU en)) (sb 0 80 (lg 80) sn) (λz=>(z.2.1,z.1.2.1)) (λx=>(((),x.2,()),(x.1,()))))
def aAk:=(lc (qf 198 ln) (lc (qk 80 3) ln))
def Wu(a1_0:aq)(a1_1:aq)(a1_2:aq):af aqA:=
 match UD a1_0.aH a1_1.aH a1_2.aH [] a1_0 a1_1 a1_2 fQ.fst fQ.snd.fst fQ.snd.snd.fst fQ.snd.snd.snd.fst fQ.snd.snd.snd.snd with|J=>J|M r1=>match LM a1_0.ah r1.fst r1.snd.snd.snd.snd.snd.fst r1.snd.snd.snd.snd.snd.snd.fst r1.snd.snd.snd.snd.snd.snd.snd.fst r1.snd.snd.snd.snd.snd.snd.snd.snd.fst r1.snd.snd.snd.snd.snd.snd.snd.snd.snd with|J=>J|M r2=>M ((r2.fst,r2.snd.fst))
def aGl:aT->aT:=eZ va 189 aAk aCH (λg=>Wu g.2.1.1 g.2.1.2.1 g.2.1.t.1)
def abo:EO aGl:=λh=>kZ (an:= .no) func189 (iS (p:=(λf=>zg f 156||zg f 160||zg f 198||zg f 263)) (gW (agP (Li (rz (nY aP)))))) az h
abbrev aA3:=aq×Int
def d134:Td 0 aA3:= .c [] [6,7] (.r 0 1 (ec 6 (qp 0 0) (ec 7 aU en)) (sb 0 80 (lg 80) sn) (λz=>(z.2.1,z.1.2.1)) (λx=>(((),x.2,()),(x.1,()))))
def adp(a0:cz)(a1:aq)(a2:aq):af aA3:=
 match SQ a0 with|J=>J|M r1=>bif bif w9 (r1=0)then O else Z then M ((aq.mk (0) [] [] (0),1))else match aaQ a0 with|J=>J|M r2=>match Ta [r2,a1,a2]with|J=>J|M r3=>bif bif w9 (r3=0)then O else Z then M ((aq.mk (0) [] [] (0),r3))else match Wu r2 a1 a2 with|J=>J|M r4=>M (r4)
def aLf:aT->aT:=eZ va 134 (lc (qg 42) Lg) d134 (λg=>adp g.1 g.2.1 g.t.1)
def Uf:EO aLf:=λh=>kZ (an:= .no) func134 (Li (UM (qB (abo (KV (CT aP)))))) az h
abbrev E74:=aq×aK
def d74:Td 1 E74:= .c [] [8] (.r 1 2 (ec 8 (qp 1 0) en) (sb 0 138 (lg 138) (sb 1 80 (lg 80) sn)) (λz=>(z.t.1,z.2.1)) (λx=>(((),()),(x.2,x.1,()))))
def B74:=(sb 0 138 (lg 138) sn)
def Y9(a1:cz)(a2:aq)(a3:aq)(b0:aK):af E74:=
 match adp a1 a2 a3 with|J=>J|M r1=>M ((r1.fst,b0))
def e74:aT->aT:=eY va 74 1 (lc (qp 0 0) (lc (qg 42) Lg)) B74 d74 (λg=>Y9 g.1.2.1 g.1.t.1 g.1.t.2.1 g.2.1)
def sW:EO e74:=λh=>kY (an:= .no) func74 (Uf aP) az h
def aI3:aT:=dz
abbrev ax5:=Int×Int×Int
def d190:Td 2 ax5:= .c [] [4] (.r 2 2 (ec 4 aU en) Yy (λz=>(z.1.1,z.2.1.1,z.t.1.1)) (λx=>((x.1,()),((x.2.1,()),(x.t,()),()))))
def aE1:=(lc (qa OX) ah9)
def aGq:=Yy
def apx:An:= .no
def Zj(a0_0:Int)(a0_1:Int)(a0_2:Int)(bt:Int)(b1_0:Int):ax5:=
 (if b1_0<if a0_0<bt then bt else a0_0 then b1_0 else if a0_0<bt then bt else a0_0,bt,b1_0)
def aLz(a0_0:Int)(a0_1:Int)(a0_2:Int)(bt:Int)(b1_0:Int):bY va (aI3) 300 (apx) 190 (aE1.c ((a0_0,a0_1,a0_2,()),(),(),())) (aGq.d ((bt,()),(b1_0,()),())) 2 d190.rd=M (Zj a0_0 a0_1 a0_2 bt b1_0):=by
 refine Eq.trans (b:=(
  M ((if b1_0<if a0_0<bt then bt else a0_0 then b1_0 else if a0_0<bt then bt else a0_0,bt,b1_0)):af ax5)) aL ?_
 simp only[Zj,b6,cw]
def aF5:aT->aT:=eY va 190 2 aE1 aGq d190 (λg=>M (Zj g.1.1.1 g.1.1.2.1 g.1.1.t.1 g.2.1.1 g.t.1.1))
def Uy:EO aF5:=λh=>kY (an:=apx) func190 aP az h (c:=λg=>aLz g.1.1.1 g.1.1.2.1 g.1.1.t.1 g.2.1.1 g.t.1.1)
abbrev af9:=Int×cR×aq×(aa Int)×(aa bu)×ga×cR×Bool×Int×Int
def aou:Td 13 af9:= .c [9,10] [7] (.r 13 15 (ec 7 aU en) (sb 0 327 (lc (qo 5) ln) (sb 1 136 Fc (sb 2 239 uT (sb 3 226 (lc (qf 190 (lc (qp 7 0) OA)) ln) aD6)))) (λz=>(z.1.1,z.q.t.1,z.t.1.1.1,z.q.q.q.1,z.q.q.q.2.1,z.q.q.t.1,z.q.q.t.2.1,z.q.t.2.1.q.1,z.q.q.1.1,z.q.q.2.1.1)) (λx=>((x.1,()),(((),()),((x.t.1,()),()),((),()),(((),(),()),()),(((),(),(),(),(),()),()),x.2.1,((),(),(),(),x.q.t.2.1,()),(x.q.q.1,()),(x.q.q.2,()),x.q.2.1,x.q.t.1,x.t.2.1,x.q.1,()))))
def arv:=ZX
def arK:=(sb 0 327 (lc (qo 5) ln) (sb 1 136 Fc (sb 2 239 uT (sb 3 226 (lc (qf 190 (lc (qp 7 0) OA)) ln) azE))))
abbrev rU:Type:=Int->Int->Int->cR->aq->(aa Int)->(aa bu)->ga->cR->Bool->Int->Int->af af9
def ahI(zf:rU):aT->aT:=eY va 263 13 arv arK aou (λg=>zf g.1.1.1 g.1.1.2.1 g.1.1.2.2.1 g.2.2.2.2.2.2.1 g.2.2.1.1.1 g.2.2.2.2.2.2.2.2.2.2.1 g.2.2.2.2.2.2.2.2.2.2.2.1 g.2.2.2.2.2.2.2.2.2.2.2.2.1 g.2.2.2.2.2.2.2.2.2.2.2.2.2.1 g.2.2.2.2.2.2.2.1.2.2.2.2.1 g.2.2.2.2.2.2.2.2.1.1 g.2.2.2.2.2.2.2.2.2.1.1)
def U4(zf:rU):Prop:=HY va 263 13 arv arK aou (λg=>zf g.1.1.1 g.1.1.2.1 g.1.1.2.2.1 g.2.2.2.2.2.2.1 g.2.2.1.1.1 g.2.2.2.2.2.2.2.2.2.2.1 g.2.2.2.2.2.2.2.2.2.2.2.1 g.2.2.2.2.2.2.2.2.2.2.2.2.1 g.2.2.2.2.2.2.2.2.2.2.2.2.2.1 g.2.2.2.2.2.2.2.1.2.2.2.2.1 g.2.2.2.2.2.2.2.2.1.1 g.2.2.2.2.2.2.2.2.2.1.1)
def OT{zf:rU}(hM:U4 zf):EO (ahI zf):=gi hM ⟨_,func263,aL,aL⟩ (λ_=>aL)
def aqK(M263C:rU):aT:=(ahI M263C (HO (Sl (Jo (aF5 (Th (SM dz)))))))
def ady{M263C}(h263C:U4 M263C):bK va (aqK M263C):=(OT h263C (gW (rH (lP (Uy (oB (lU aP)))))))
def awi(M263C:rU):An:= .no
def axE(M263C:rU):dB va (aqK M263C) 13 300 263 (awi M263C):=bF (l:=[]) func263 (aY aL) aL az
def DS(M263C:rU)(a0_0:Int)(a0_1:Int)(a0_2:Int)(bt:cR)(b1_0_0:aq)(b6_0:aa Int)(b6_1:aa bu)(b6_2:ga)(b6_3:cR)(b6_4:Bool)(b7_0:Int)(b8_0:Int):af af9:=
 bif(ei bt (a0_0,a0_1,a0_2)).isSome then M (((ei bt (a0_0,a0_1,a0_2)).getD 0,bt,b1_0_0,b6_0,b6_1,b6_2,b6_3,b6_4,b7_0,b8_0))else match jL b1_0_0 a0_0 with|J=>J|M r1=>bif w9 ((eW r1 b1_0_0.ah)=b1_0_0.ah)then if 0<=a0_0/\a0_0<zZ b1_0_0.aG then match vp (Zj b1_0_0.aG[a0_0.toNat]! (0) 0 b7_0 b8_0).fst b6_0 b6_1 b6_2 b6_3 b6_4 with|J=>J|M r2=>M ((r2.fst,gB bt (a0_0,a0_1,a0_2) r2.fst,b1_0_0,r2.snd.fst,r2.snd.snd.fst,r2.snd.snd.snd.fst,r2.snd.snd.snd.snd.fst,r2.snd.snd.snd.snd.snd,(Zj b1_0_0.aG[a0_0.toNat]! (0) 0 b7_0 b8_0).snd))else J else match lJ b1_0_0 a0_0 (eW r1 b1_0_0.ah) O with|J=>J|M r3=>match lJ b1_0_0 a0_0 (eW r1 b1_0_0.ah) Z with|J=>J|M r4=>match M263C r3 0 0 bt b1_0_0 b6_0 b6_1 b6_2 b6_3 b6_4 b7_0 b8_0 with|J=>J|M r5=>match M263C r4 0 0 r5.snd.fst r5.snd.snd.fst r5.snd.snd.snd.fst r5.snd.snd.snd.snd.fst r5.snd.snd.snd.snd.snd.fst r5.snd.snd.snd.snd.snd.snd.fst r5.snd.snd.snd.snd.snd.snd.snd.fst r5.snd.snd.snd.snd.snd.snd.snd.snd.fst r5.snd.snd.snd.snd.snd.snd.snd.snd.snd with|J=>J|M r6=>match He (eW r1 b1_0_0.ah) r5.fst r6.fst r6.snd.snd.snd.fst r6.snd.snd.snd.snd.fst r6.snd.snd.snd.snd.snd.fst r6.snd.snd.snd.snd.snd.snd.fst r6.snd.snd.snd.snd.snd.snd.snd.fst with|J=>J|M r7=>M ((r7.fst,gB r6.snd.fst (a0_0,a0_1,a0_2) r7.fst,r6.snd.snd.fst,r7.snd.fst,r7.snd.snd.fst,r7.snd.snd.snd.fst,r7.snd.snd.snd.snd.fst,r7.snd.snd.snd.snd.snd,r6.snd.snd.snd.snd.snd.snd.snd.snd))
def tR:Nat->rU
 |0=>(λ_ _ _ _ _ _ _ _ _ _ _ _=>J)
 |n+1=>(DS (tR n))
def adm(n:Nat):rU:=(tR n)
def Jd:∀n,U4 (adm n)
 |0=>λ_ _ h=>(by cases h)
 |n+1=>gZ (ady (Jd n)) (axE (adm n)) (λ_=>aL) (λ_=>aL) (λ_=>aL) λ_=>aL
def W4:rU:=λa0_0 a0_1 a0_2 bt b1_0_0 b6_0 b6_1 b6_2 b6_3 b6_4 b7_0 b8_0=>lim (λn=>adm n a0_0 a0_1 a0_2 bt b1_0_0 b6_0 b6_1 b6_2 b6_3 b6_4 b7_0 b8_0)
def ahE:U4 W4:=λg b h=>(bW h).elim λn=>Jd n g b
def azX(F:aT):aT:=ahI W4 F
def acy:EO azX:=OT ahE
abbrev aqn:=aq×Int×Int×Int
def aF4:Td 2 aqn:= .c [] [4,5] (.r 2 3 (ec 4 (qp 2 0) (ec 5 aU en)) (sb 0 3 gY (sb 1 3 gY (sb 2 80 (lg 80) sn))) (λz=>(z.t.2.1,z.1.2.1,z.2.1.1,z.t.1.1)) (λx=>(((),x.2.1,()),((x.t.1,()),(x.t.2,()),x.1,()))))
def aE8:=(lc (qf 190 ah9) Fc)
def aEe:=Yy
def UG(a1_0:aq)(bt:Int)(b1_0:Int):af aqn:=
 match W4 a1_0.aH (0) (0) [] a1_0 fQ.fst fQ.snd.fst fQ.snd.snd.fst fQ.snd.snd.snd.fst fQ.snd.snd.snd.snd bt b1_0 with|J=>J|M r1=>match LM a1_0.ah r1.fst r1.snd.snd.snd.fst r1.snd.snd.snd.snd.fst r1.snd.snd.snd.snd.snd.fst r1.snd.snd.snd.snd.snd.snd.fst r1.snd.snd.snd.snd.snd.snd.snd.fst with|J=>J|M r2=>M ((r2.fst,r2.snd.fst,r1.snd.snd.snd.snd.snd.snd.snd.snd))
def ahl:aT->aT:=eY va 189 2 aE8 aEe aF4 (λg=>UG g.1.2.1.1 g.2.1.1 g.t.1.1)
def ahD:EO ahl:=λh=>kY (an:= .no) func189 (iS (p:=(λf=>zg f 156||zg f 160||zg f 190||zg f 263)) (gW (acy (Uy (rz (nY aP)))))) az h
def R3{F:aT}{f:Nat}(hne:zg f 189=O)(h:bH F f):bH (ahl F) f:=pQ hne h
def aCR:aT:=(Io (ahl (aaf (anl dz))))
abbrev aDT:=aq×Int
def d126:Td 0 aDT:= .c [] [6,7] (.r 0 1 (ec 6 (qp 0 0) (ec 7 aU en)) (sb 0 80 (lg 80) sn) (λz=>(z.2.1,z.1.2.1)) (λx=>(((),x.2,()),(x.1,()))))
def aFf:∀f∈([188]:aa Nat),bH (aCR) f:=(aA (kN (f:=188) rfl (R3 (f:=188) rfl (kC (ZJ cU)))) az)
def SG(a0:aq)(a1:Int)(a2:Int):af aDT:=
 match Ta [a0]with|J=>J|M r1=>bif bif w9 (r1=0)then O else Z then M ((aq.mk (0) [] [] (0),r1))else match bif w9 (a2<a1)then M (Z)else bif bif kH a1 then O else Z then M (Z)else M (bif kH a2 then O else Z)with|J=>J|M r2=>bif r2 then M ((aq.mk (0) [] [] (0),3))else match UG a0 a1 a2 with|J=>J|M r3=>M ((r3.fst,r3.snd.fst))
def auw:aT->aT:=eZ va 126 (lc (qg 80) uS) d126 (λg=>SG g.1 g.2.1 g.t.1)
def u7:EO auw:=λh=>kZ (F:=aCR) (an:=(cA 2 (.two (.two (.rb [188] 28) .no) .no))) (l:=[(.skip,(.rb [188] 28))]) func126 (qB (ahD (vZ (CT aP)))) (aA aFf az) h
def aLZ:aT:=dz
abbrev awl:=Bool
def d249:Td 0 awl:=iu 2
def aDh:=(lc (qa (lc qb (lc qb (lc qb ln)))) ln)
def aqX:An:= .no
def QE(a0_0:Bool)(a0_1:Bool)(a0_2:Bool):awl:=
 bif a0_0 then O else Z
def aHM(a0_0:Bool)(a0_1:Bool)(a0_2:Bool):bY va (aLZ) 300 (aqX) 249 (aDh.c ((a0_0,a0_1,a0_2,()),())) [] 0 d249.rd=M (QE a0_0 a0_1 a0_2):=by
 refine Eq.trans (b:=(
  M (bif a0_0 then O else Z):af awl)) aL ?_
 simp only[QE,b6,cw]
def auN:=eL va 249 O aDh d249 (λg=>M (QE g.1.1 g.1.2.1 g.1.t.1))
def Df:EO auN:=λh=>kL (an:=aqX) func249 aP az h (c:=λg=>aHM g.1.1 g.1.2.1 g.1.t.1)
abbrev acJ:=Int×cR×Int×cz×(aa bu)×cR
def aoQ:Td 10 acJ:= .c [8] [8] (.r 10 11 (ec 8 aU en) (sb 0 327 (lc (qo 6) ln) (sb 1 3 gY (sb 2 264 (lc (qk 42 1) ln) (sb 3 201 ahR (sb 4 226 OW (sb 5 324 Ec (sm 6 .k3 .i (sb 7 326 (lc (qo 10) (lc (qo 9) ln)) (sm 9 .k3 .i (sr 10 113 sn)))))))))) (λz=>(z.1.1,z.q.t.2.1,z.t.1.1,z.t.2.1.1.1,z.q.q.t.1,z.q.q.2.1)) (λx=>((x.1,()),(((),()),(x.t.1,()),((x.t.2.1,()),()),((()),()),(((),(),(),(),(),(),()),()),((),()),x.2.1,((),(),()),x.q.2,x.q.1,()))))
def apr:=(lc (qa OX) w4_)
def arG:=(sb 0 327 (lc (qo 6) ln) (sb 1 3 gY (sb 2 264 (lc (qk 42 1) ln) (sb 3 201 ahR (sb 4 226 OW (sb 5 324 Ec (sm 6 .k3 .i (sb 7 326 (lc (qo 8) (lc (qo 9) ln)) (sr 8 113 (sm 9 .k3 .i sn))))))))))
abbrev sE:Type:=Int->Int->Int->cR->Int->cz->(aa bu)->cR->af acJ
def aax(zf:sE):aT->aT:=eY va 239 10 apr arG aoQ (λg=>zf g.1.1.1 g.1.1.2.1 g.1.1.2.2.1 g.2.2.2.2.2.2.2.1 g.2.2.1.1 g.2.2.2.1.1.1 g.2.2.2.2.2.2.2.2.2.1 g.2.2.2.2.2.2.2.2.2.2.1)
def XU(zf:sE):Prop:=HY va 239 10 apr arG aoQ (λg=>zf g.1.1.1 g.1.1.2.1 g.1.1.2.2.1 g.2.2.2.2.2.2.2.1 g.2.2.1.1 g.2.2.2.1.1.1 g.2.2.2.2.2.2.2.2.2.1 g.2.2.2.2.2.2.2.2.2.2.1)
def O7{zf:sE}(hM:XU zf):EO (aax zf):=gi hM ⟨_,func239,aL,aL⟩ (λ_=>aL)
def apE(M239N:sE):aT:=(auN (aa3 (aax M239N (TI (XL (ZA (aeu dz)))))))
def aaJ{M239N}(h239N:XU M239N):bK va (apE M239N):=(Df (De (O7 h239N (rG (qm (rq (Dv aP)))))))
def asm(M239N:sE):An:= .no
def avx(M239N:sE):dB va (apE M239N) 10 300 239 (asm M239N):=bF (l:=[]) func239 (aY aL) aL az
def EJ(M239N:sE)(a0_0:Int)(a0_1:Int)(a0_2:Int)(bt:cR)(b1_0:Int)(b2_0_0:cz)(b7_0:aa bu)(b7_1:cR):af acJ:=
 bif(ei bt (a0_0,a0_1,a0_2)).isSome then M (((ei bt (a0_0,a0_1,a0_2)).getD (0),bt,b1_0,b2_0_0,b7_0,b7_1))else match nI b2_0_0 a0_0 with|J=>J|M r1=>bif w9 ((eW r1 b1_0)=b1_0)then bif QE (w9 (a0_0=1)) O O then M ((1,gB bt (a0_0,a0_1,a0_2) (1),b1_0,b2_0_0,b7_0,b7_1))else M ((0,gB bt (a0_0,a0_1,a0_2) (0),b1_0,b2_0_0,b7_0,b7_1))else match rP b2_0_0 a0_0 (eW r1 b1_0) O with|J=>J|M r2=>match rP b2_0_0 a0_0 (eW r1 b1_0) Z with|J=>J|M r3=>match M239N r2 a0_1 a0_2 bt b1_0 b2_0_0 b7_0 b7_1 with|J=>J|M r4=>match M239N r3 a0_1 a0_2 r4.snd.fst r4.snd.snd.fst r4.snd.snd.snd.fst r4.snd.snd.snd.snd.fst r4.snd.snd.snd.snd.snd with|J=>J|M r5=>match O6 (eW r1 b1_0) r4.fst r5.fst r5.snd.snd.snd.snd.fst r5.snd.snd.snd.snd.snd with|J=>J|M r6=>M ((r6.fst,gB r5.snd.fst (a0_0,a0_1,a0_2) r6.fst,r5.snd.snd.fst,r5.snd.snd.snd.fst,r6.snd))
def uv:Nat->sE
 |0=>(λ_ _ _ _ _ _ _ _=>J)
 |n+1=>(EJ (uv n))
def afe(n:Nat):sE:=(uv n)
def HM:∀n,XU (afe n)
 |0=>λ_ _ h=>(by cases h)
 |n+1=>gZ (aaJ (HM n)) (avx (afe n)) (λ_=>aL) (λ_=>aL) (λ_=>aL) λ_=>aL
def Od:sE:=λa0_0 a0_1 a0_2 bt b1_0 b2_0_0 b7_0 b7_1=>lim (λn=>afe n a0_0 a0_1 a0_2 bt b1_0 b2_0_0 b7_0 b7_1)
def acT:XU Od:=λg b h=>(bW h).elim λn=>HM n g b
def aq7(F:aT):aT:=aax Od F
def P9:EO aq7:=O7 acT
abbrev R4:=Int×cR×Int×cz×(aa bu)×cR
def ahw:Td 9 R4:= .c [] [8] (.t (bT.c 7 0 [] 113) (.c [] [8] (.r 9 10 (ec 8 aU en) (sb 0 327 (lc (qo 6) ln) (sb 1 3 gY (sb 2 264 (lc (qk 42 1) ln) (sb 3 201 ahR (sb 4 226 OW (sb 5 324 Ec (sm 6 .k3 .i (sb 7 326 (lc (qo 9) (lc (qo 8) ln)) (sm 8 .k3 .i (sr 9 113 sn)))))))))) (λz=>(z.1.1,z.q.t.2.1,z.t.1.1,z.t.2.1.1.1,z.q.q.t.1,z.q.q.2.1)) (λx=>((x.1,()),(((),()),(x.t.1,()),((x.t.2.1,()),()),((()),()),(((),(),(),(),(),(),()),()),((),()),x.2.1,((),(),()),x.q.2,x.q.1,()))))))
def aaG:=(lc (qa OX) w4_)
def adi:=(sb 0 327 (lc (qo 6) ln) (sb 1 3 gY (sb 2 264 (lc (qk 42 1) ln) (sb 3 201 ahR (sb 4 226 OW (sb 5 324 Ec (sm 6 .k3 .i (sb 7 326 (lc qn (lc (qo 8) ln)) (sm 8 .k3 .i sn)))))))))
abbrev mE:Type:=Int->Int->Int->cR->Int->cz->cR->af R4
def Sc(zf:mE):aT->aT:=eY va 239 9 aaG adi ahw (λg=>zf g.1.1.1 g.1.1.2.1 g.1.1.2.2.1 g.2.2.2.2.2.2.2.1 g.2.2.1.1 g.2.2.2.1.1.1 g.2.2.2.2.2.2.2.2.2.1)
def Kf(zf:mE):Prop:=HY va 239 9 aaG adi ahw (λg=>zf g.1.1.1 g.1.1.2.1 g.1.1.2.2.1 g.2.2.2.2.2.2.2.1 g.2.2.1.1 g.2.2.2.1.1.1 g.2.2.2.2.2.2.2.2.2.1)
def HP{zf:mE}(hM:Kf zf):EO (Sc zf):=gi hM ⟨_,func239,aL,aL⟩ (λ_=>aL)
def abz(M239Nn:mE):aT:=(auN (aa3 (Sc M239Nn (TI (XL (aq7 (ZA (aeu dz))))))))
def Yq{M239Nn}(h239Nn:Kf M239Nn):bK va (abz M239Nn):=(Df (De (HP h239Nn (rG (qm (P9 (rq (Dv aP))))))))
def amq(M239Nn:mE):An:= .no
def ajq(M239Nn:mE):dB va (abz M239Nn) 9 300 239 (amq M239Nn):=bF (l:=[]) func239 (aY aL) aL az
def uy(M239Nn:mE)(a0_0:Int)(a0_1:Int)(a0_2:Int)(bt:cR)(b1_0:Int)(b2_0_0:cz)(b7_1:cR):af R4:=
 bif(ei bt (a0_0,a0_1,a0_2)).isSome then M (((ei bt (a0_0,a0_1,a0_2)).getD (0),bt,b1_0,b2_0_0,[],b7_1))else match nI b2_0_0 a0_0 with|J=>J|M r1=>bif w9 ((eW r1 b1_0)=b1_0)then bif QE (w9 (a0_0=1)) O O then M ((1,gB bt (a0_0,a0_1,a0_2) (1),b1_0,b2_0_0,[],b7_1))else M ((0,gB bt (a0_0,a0_1,a0_2) (0),b1_0,b2_0_0,[],b7_1))else match rP b2_0_0 a0_0 (eW r1 b1_0) O with|J=>J|M r2=>match rP b2_0_0 a0_0 (eW r1 b1_0) Z with|J=>J|M r3=>match M239Nn r2 a0_1 a0_2 bt b1_0 b2_0_0 b7_1 with|J=>J|M r4=>match Od r3 a0_1 a0_2 r4.snd.fst r4.snd.snd.fst r4.snd.snd.snd.fst r4.snd.snd.snd.snd.fst r4.snd.snd.snd.snd.snd with|J=>J|M r5=>match O6 (eW r1 b1_0) r4.fst r5.fst r5.snd.snd.snd.snd.fst r5.snd.snd.snd.snd.snd with|J=>J|M r6=>M ((r6.fst,gB r5.snd.fst (a0_0,a0_1,a0_2) r6.fst,r5.snd.snd.fst,r5.snd.snd.snd.fst,r6.snd))
def om:Nat->mE
 |0=>(λ_ _ _ _ _ _ _=>J)
 |n+1=>(uy (om n))
def TQ(n:Nat):mE:=(om n)
def GH:∀n,Kf (TQ n)
 |0=>λ_ _ h=>(by cases h)
 |n+1=>gZ (Yq (GH n)) (ajq (TQ n)) (λ_=>aL) (λ_=>aL) (λ_=>aL) λ_=>aL
def LR:mE:=λa0_0 a0_1 a0_2 bt b1_0 b2_0_0 b7_1=>lim (λn=>TQ n a0_0 a0_1 a0_2 bt b1_0 b2_0_0 b7_1)
def Zv:Kf LR:=λg b h=>(bW h).elim λn=>GH n g b
def atD(F:aT):aT:=Sc LR F
def YU:EO atD:=HP Zv
abbrev apO:=cz
def azG:Td 0 apO:= .c [] [4] (.r 0 1 (ec 4 (qp 0 0) en) (sb 0 42 (lg 42) sn) (λz=>z.2.1) (λx=>(((),()),(x,()))))
def aC7:=(lc (qk 42 1) ahR)
def adW(a0_0:cz):af apO:=
 match LR a0_0.aH (0) (0) [] a0_0.ah a0_0 []with|J=>J|M r1=>match Sf r1.snd.snd.fst r1.snd.snd.snd.snd.fst r1.fst with|J=>J|M r2=>M (r2)
def aBn:aT->aT:=eZ va 182 aC7 azG (λg=>adW g.1.1)
def ahe:EO aBn:=λh=>kZ (an:= .no) func182 (Df (rG ((qm (P9 (YU (LI aP))))))) az h
abbrev aB4:=cz×Int
def d195:Td 0 aB4:= .c [] [2,3] (.r 0 1 (ec 2 (qp 0 0) (ec 3 aU en)) (sb 0 42 (lg 42) sn) (λz=>(z.2.1,z.1.2.1)) (λx=>(((),x.2,()),(x.1,()))))
def aeY(a0:cz):af aB4:=
 match ae2 [a0]with|J=>J|M r1=>bif bif w9 (r1=0)then O else Z then M ((cz.mk (0) [] (0),r1))else match adW a0 with|J=>J|M r2=>M (RO r2)
def aHN:aT->aT:=eZ va 195 (lc (qg 42) ln) d195 (λg=>aeY g.1)
def UK:EO aHN:=λh=>kZ (an:= .no) func195 (Df (Pn (ahe (Yh (WX aP))))) az h
abbrev ajV:=cz×aK
def d132:Td 1 ajV:= .c [] [4] (.r 1 2 (ec 4 (qp 1 0) en) (sb 0 138 (lg 138) (sb 1 42 (lg 42) sn)) (λz=>(z.t.1,z.2.1)) (λx=>(((),()),(x.2,x.1,()))))
def aLM:=(sb 0 138 (lg 138) sn)
def Ah(a1:aq)(b0:aK):af ajV:=
 match Gu a1 (0) b0 with|J=>J|M r1=>match aeY r1.fst with|J=>J|M r2=>M ((r2.fst,r1.snd))
def aiR:aT->aT:=eY va 132 1 aiv aLM d132 (λg=>Ah g.1.2.1 g.2.1)
def Dz:EO aiR:=λh=>kY (an:= .no) func132 (UK (lV aP)) az h
abbrev E82:=aq×aK
def d82:Td 1 E82:= .c [] [4] (.r 1 2 (ec 4 (qp 1 0) en) (sb 0 138 (lg 138) (sb 1 80 (lg 80) sn)) (λz=>(z.t.1,z.2.1)) (λx=>(((),()),(x.2,x.1,()))))
def B82:=(sb 0 138 (lg 138) sn)
def m82(a1:cz)(b0:aK):af E82:=
 match aag a1 (0) (1)with|J=>J|M r1=>M ((r1.fst,b0))
def e82:aT->aT:=eY va 82 1 (lc (qp 0 0) (lc (qg 42) ln)) B82 d82 (λg=>m82 g.1.2.1 g.2.1)
def aaL:EO e82:=λh=>kY (an:= .no) func82 (C6 aP) az h
abbrev atJ:=aq×aK
def d191:Td 1 atJ:= .c [] [4] (.r 1 2 (ec 4 (qp 1 0) en) (sb 0 138 (lg 138) (sb 1 80 (lg 80) sn)) (λz=>(z.t.1,z.2.1)) (λx=>(((),()),(x.2,x.1,()))))
def aJ1:=(sb 0 138 (lg 138) sn)
def Qf(a1:aq)(b0:aK):af atJ:=
 match Gu a1 (0) b0 with|J=>J|M r1=>match m82 r1.fst r1.snd with|J=>J|M r2=>M (r2)
def aAQ:aT->aT:=eY va 191 1 aiv aJ1 d191 (λg=>Qf g.1.2.1 g.2.1)
def VJ:EO aAQ:=λh=>kY (an:= .no) func191 (lV (aaL aP)) az h
def aqv{n:Int}(h1:0<=n)(h2:n<256):IntKind.u8.wrap n=n:=by
 simp only[ak,Z7,IntKind.wrap,IntKind.signed,IntKind.bits]at*;simp;omega
def aGw{x:Int}(k:Nat)(hk:k<=64):de u64 x (k:Int)=x/2^k:=by
 unfold de;rw[show min ((k:Int)).toNat u64.bits=k from by simp only[zw,IntKind.bits];omega];exact Int.fdiv_eq_ediv_of_nonneg _ (Int.le_of_lt (Int.pow_pos aj))
def bl(x:Int):Int:=if x<=0 then 0 else((Nat.log2 x.toNat+1:Nat):Int)
def aC6{x:Int}{t:Nat}(h1:1<=t)(h2:(2:Int)^(t-1)<=x)(h3:x<2^t):bl x=(t:Int):=by
 have h0:(0:Int)<2^(t-1):=Int.pow_pos aj;have hx:0<x:=aj;have e:((2^(t-1):Nat):Int)=(2:Int)^(t-1):=by rw[wO];rfl
 have e':((2^t:Nat):Int)=(2:Int)^t:=by rw[wO];rfl
 have h:Nat.log2 x.toNat=t-1:=(Nat.log2_eq_iff aj).2 ⟨aj,by rw[Nat.sub_add_cancel h1];omega⟩;unfold bl;rw[nB,h];omega
def aoO(i:Nat):Bool:=i==0||((zy 9).any λt=>(iE.data[i]!).toNat==t&&w9 (1<=t)&&w9 (2^(t-1)<=i)&&w9 (i<2^t))
def aih:(zy 256).all aoO=Z:=aL
def acW:cO iE (IntKind.u8.wrap 0).toNat=0:=aL
def anm{x:Int}(h1:1<=x)(h2:x<256):∃t:Nat,1<=t/\t<=8/\cO iE (IntKind.u8.wrap x).toNat=(t:Int)/\2^(t-1)<=x/\x<2^t:=by
 rw[aqv aj h2];have h:=zn.mp aih x.toNat (xM.mpr aj);simp only[aoO,yO,beq_iff_eq,List.any_eq_true,xM,zh,decide_eq_true_eq]at h;rcases h with h|⟨t,ht,⟨⟨h3,h4⟩,h5⟩,h6⟩
 ·omega
 ·have h5':((2^(t-1):Nat):Int)<=(x.toNat:Int):=Int.ofNat_le.mpr h5;have h6':((x.toNat:Nat):Int)<((2^t:Nat):Int):=Int.ofNat_lt.mpr h6;rw[Int.toNat_of_nonneg aj,wO]at h5' h6';exact⟨t,h4,aj,by unfold cO;rw[h3],h5',h6'⟩
def ayE{n:Int}(h1:0<=n)(h2:n<=1000000):ak n=n:=aI
def RI{a x:Int}{n:Nat}(h1:1<=x)(h2:x<256)(hn:n<=16)(ha1:x*2^n<=a)(ha2:a<(x+1)*2^n):
  (if(0:Int)<=IntKind.u8.wrap x/\IntKind.u8.wrap x<(256:Int)then M (ak ((n:Int)+ak (cO iE (IntKind.u8.wrap x).toNat)))else J)=M (bl a):=by
 obtain⟨t,g1,g2,g3,g4,g5⟩:=anm h1 h2;rw[g3,aqv aj h2,bO ⟨aj,h2⟩,ayE (n:=(t:Int)) aj aj,ayE aj aj];have p:(0:Int)<2^n:=Int.pow_pos aj;have e:bl a=((n+t:Nat):Int):=aC6 aj (by
  rw[show n+t-1=(t-1)+n by omega,Int.pow_add];exact x8 (xe g4 aj) ha1) (by
  rw[show n+t=t+n by omega,Int.pow_add];exact Int.lt_of_lt_of_le ha2 (xe aj aj))
 rw[e]
 congr 1
def al9{a:Int}(h0:0<=a)(h1:a<16777216):agT a=M (bl a):=by
 have e:amR a=M (bl a):=by
  unfold amR;rw[gI,fO];have s8:=aGw (x:=a) 8 aj;have s16:=aGw (x:=a) 16 aj;rw[show ((8:Nat):Int)=8 from rfl]at s8;rw[show ((16:Nat):Int)=16 from rfl]at s16;rw[s8,s16];by_cases h2:65536<=a
  ·rw[l8 h2,fZ,gI,fO];exact RI (n:=16) aj aj aj aj aj
  ·rw[iU h2,fO];by_cases h3:256<=a
   ·rw[l8 h3,fZ];exact RI (n:=8) aj aj aj aj aj
   ·rw[iU h3,fO];by_cases h4:a=0
    ·subst h4;rw[acW];rfl
    ·have:=RI (a:=a) (x:=a) (n:=0) aj aj aj aj aj;exact this
 unfold agT;rw[e]
def Hz(l:aa bf)(k:Int)(n:Nat):aa Int:=((zy n).filter λi=>w9 (l[i]!.bQ=k)).map λi:Nat=>(i:Int)
def fH(l:aa bf)(k:Int):aa Int:=Hz l k (zZ l)
def kT(l:aa bf)(k:Int)(n:Nat):Hz l k (n+1)=Hz l k n++(if l[n]!.bQ=k then[(n:Int)]else[]):=by
 unfold Hz;rw[xH,yj,zH];by_cases h:l[n]!.bQ=k
 ·rw[bO h,List.filter_cons_of_pos (by rw[l8 h])];rfl
 ·rw[bP h,List.filter_cons_of_neg (by rw[iU h];simp)];rfl
def CU(l:aa bf)(k:Int)(n:Nat):zZ (Hz l k n)<=n:=by
 unfold Hz;rw[zF];exact zK (w6 _ _) (by simp)
def jE{l:aa bf}{k:Int}{n:Nat}{x:Int}(h:x∈Hz l k n):0<=x/\x<(n:Int)/\l[x.toNat]!.bQ=k:=by
 unfold Hz at h;simp only[zC,zW,xM,decide_eq_true_eq]at h;obtain⟨i,⟨h1,h2⟩,rfl⟩:=h;exact⟨aj,aj,by simpa using h2⟩
def Lh(f:bn)(hl:zZ f.ah<=1000000)(k:Int):m65 f k=M (fH f.ah k):=by
 obtain⟨v,e,hv⟩:=cZ (rnd:=Wa) (zZ f.ah) (λi (b:aa Int)=>⟨k,b,f.ah,(zZ f.ah:Int),(i:Int)⟩) (λi b=>b=Hz f.ah k i) (λi b hi hb=>by
  subst hb;have i1:(i:Int)<(zZ f.ah:Int):=aj;have i2:(0:Int)<=(i:Int):=aj;have hw:=jy hi hl;have h3:zZ (Hz f.ah k i++[(i:Int)])<=1073741824:=by have:=CU f.ah k i;simp;omega
  refine⟨_,?_,rfl⟩;rw[kT];unfold Wa Nr;simp only[dS,i1,i2,fZ,dx,hw,h3];by_cases h:f.ah[i]!.bQ=k
  ·simp only[h,mG,fZ,dx]
  ·simp only[h,mF,fO,AE,yN]) (λb _=>by unfold Wa Nr;simp) (b:=[]) rfl
 have e':UY ⟨k,[],f.ah,(zZ f.ah:Int),0⟩=M ⟨k,v,f.ah,(zZ f.ah:Int),(zZ f.ah:Int)⟩:=e;unfold m65 Nr;rw[e'];simp only[zO,mF,fO];rw[hv];rfl
def KF(l:aa bf):Prop:=zZ l<=1000/\∀i,i<zZ l-> -1048576<=l[i]!.aC/\l[i]!.aC<=l[i]!.au/\l[i]!.au<=1048576
def CK(v:bf):Int:=bl (v.au-v.aC)
def adb{x:Int}(h1:x<16777216):0<=bl x/\bl x<=24:=by
 unfold bl;split
 ·omega
 ·have h:Nat.log2 x.toNat<24:=(Nat.log2_lt aj).2 aj;omega
def fG(vs:aa bf)(s:aa Slot×Int)(i:Int):aa Slot×Int:=(s.1++[⟨i,s.2,CK vs[i.toNat]!⟩],s.2+CK vs[i.toNat]!)
def aa6{vs:aa bf}(h:KF vs){x:Int}(h1:0<=x)(h2:x<(zZ vs:Int)):
  agT (Z7 (ak (vs[x.toNat]!.au-vs[x.toNat]!.aC)))=M (CK vs[x.toNat]!)/\0<=CK vs[x.toNat]!/\CK vs[x.toNat]!<=24:=by
 obtain⟨g1,g2,g3⟩:=h.2 x.toNat aj;have e1:ak (vs[x.toNat]!.au-vs[x.toNat]!.aC)=vs[x.toNat]!.au-vs[x.toNat]!.aC:=aI;have e2:Z7 (vs[x.toNat]!.au-vs[x.toNat]!.aC)=vs[x.toNat]!.au-vs[x.toNat]!.aC:=by
  clear e1;generalize vs[x.toNat]! =v at*;simp only[ak,Z7,IntKind.wrap,IntKind.signed,IntKind.bits];simp;omega
 rw[e1,e2];exact⟨al9 aj aj,adb aj⟩
def Px(f:bn)(h:KF f.ah)(ids:aa Int)(hid:∀x∈ids,0<=x/\x<(zZ f.ah:Int))(hl:zZ ids<=1000)(s:aa Slot×Int)(hs1:zZ s.1<=10000)(hs2:0<=s.2/\s.2<=100000)(a b c d:Int)(e:aa Int):
  Vh ⟨s.1,a,s.2,b,e,c,d,ids,(zZ ids:Int),0,f⟩=M ⟨(ids.foldl (fG f.ah) s).1,a,(ids.foldl (fG f.ah) s).2,b,e,c,d,ids,(zZ ids:Int),(zZ ids:Int),f⟩/\
   (ids.foldl (fG f.ah) s).1.length=zZ s.1+zZ ids/\0<=(ids.foldl (fG f.ah) s).2/\(ids.foldl (fG f.ah) s).2<=s.2+24*zZ ids:=by
 obtain⟨v,q,hv⟩:=cZ (rnd:=Xe) (zZ ids) (λi (z:aa Slot×Int)=>⟨z.1,a,z.2,b,e,c,d,ids,(zZ ids:Int),(i:Int),f⟩) (λi z=>z=(ids.take i).foldl (fG f.ah) s/\zZ z.1=zZ s.1+i/\0<=z.2/\z.2<=s.2+24*i) (λi z hi ⟨hz,z1,z2,z3⟩=>by
  have i1:(i:Int)<(zZ ids:Int):=aj;have i2:(0:Int)<=(i:Int):=aj;have hw:=jy hi aj;have hm:ids[i]!∈ids:=bg hi;obtain⟨x1,x2⟩:=hid _ hm;obtain⟨g1,g2,g3⟩:=aa6 h x1 x2;have h3:zZ (z.1++[Slot.mk ids[i]! z.2 (CK f.ah[(ids[i]!).toNat]!)])<=1073741824:=by simp;omega
  have h4:ak (z.2+CK f.ah[(ids[i]!).toNat]!)=z.2+CK f.ah[(ids[i]!).toNat]! :=aI;refine⟨fG f.ah z ids[i]!,?_,?_,?_,?_,?_⟩
  ·unfold Xe Cz;simp only[dS,i1,i2,hi,x1,x2,fZ,dx,hw,g1,h3,h4];rfl
  ·rw[bV hi,wC,<-hz];rfl
  ·unfold fG;simp;omega
  ·unfold fG;dsimp only;omega
  ·unfold fG;dsimp only;omega) (λz _=>by unfold Xe Cz;simp) (b:=s) ⟨rfl,rfl,hs2.1,by simp⟩
 rw[yh]at hv;obtain⟨hv,hr⟩:=hv;subst hv;exact⟨q,hr⟩
def bx(vs:aa bf):aa Slot×Int×Int:=
 let s1:=(fH vs 1).foldl (fG vs) ([],0)
 let s2:=(fH vs 3).foldl (fG vs) s1
 (s2.1,s1.2,s2.2)
def Kl(f:bn)(h:KF f.ah):m49 f=M (bx f.ah)/\zZ (bx f.ah).1<=2000/\0<=(bx f.ah).2.1/\(bx f.ah).2.1<=24000/\0<=(bx f.ah).2.2/\(bx f.ah).2.2<=48000:=by
 have hn:=h.1;have k1:=Lh f aj 1;have k3:=Lh f aj 3;have l1:zZ (fH f.ah 1)<=zZ f.ah:=CU _ _ _;have l3:zZ (fH f.ah 3)<=zZ f.ah:=CU _ _ _;have r1:=Px f h (fH f.ah 1) (λx hx=>⟨(jE hx).1,(jE hx).2.1⟩) aj ([],0) (by simp) (by simp) 0 1 2 0 [1,3];obtain⟨q1,q2,q3,q4⟩:=r1;have r3:=Px f h (fH f.ah 3) (λx hx=>⟨(jE hx).1,(jE hx).2.1⟩) aj ((fH f.ah 1).foldl (fG f.ah) ([],0)) (by rw[q2];simp;omega) ⟨q3,by simp at q4;omega⟩ ((fH f.ah 1).foldl (fG f.ah) ([],0)).2 3 2 1 [1,3];obtain⟨p1,p2,p3,p4⟩:=r3;simp only[yP,zY,Int.zero_add]at q2 q4;have n0:HR ⟨[],0,0,[1,3],2,0,f⟩=M (M ⟨((fH f.ah 1).foldl (fG f.ah) ([],0)).1,((fH f.ah 1).foldl (fG f.ah) ([],0)).2,((fH f.ah 1).foldl (fG f.ah) ([],0)).2,[1,3],2,1,f⟩):=by
  unfold HR Jc Cz;have e1:([1,3]:aa Int)[zQ 0]! =1:=rfl;have w:ak (0+1)=1:=aI;simp only[e1,k1,q1,w,zO,mF,fO];rfl
 have n1:HR ⟨((fH f.ah 1).foldl (fG f.ah) ([],0)).1,((fH f.ah 1).foldl (fG f.ah) ([],0)).2,((fH f.ah 1).foldl (fG f.ah) ([],0)).2,[1,3],2,1,f⟩=M (M ⟨(bx f.ah).1,(bx f.ah).2.1,(bx f.ah).2.2,[1,3],2,2,f⟩):=by
  unfold HR Jc Cz;have e1:([1,3]:aa Int)[zQ 1]! =3:=rfl;have w:ak (1+1)=2:=aI;simp only[e1,k3,p1,w,zO,mF,fO];rfl
 have e:Qb ⟨[],0,0,[1,3],2,0,f⟩=M ⟨(bx f.ah).1,(bx f.ah).2.1,(bx f.ah).2.2,[1,3],2,2,f⟩:=by
  unfold Qb;rw[cT n0,cT n1];exact cW (λr=>by unfold HR Jc Cz;simp)
 refine⟨?_,?_,q3,?_,p3,?_⟩
 ·unfold m49 Jc Cz;rw[e];simp only[zO,mF,fO]
 ·show zZ ((fH f.ah 3).foldl (fG f.ah) ((fH f.ah 1).foldl (fG f.ah) ([],0))).1<=2000;omega
 ·show ((fH f.ah 1).foldl (fG f.ah) ([],0)).2<=24000;omega
 ·show ((fH f.ah 3).foldl (fG f.ah) ((fH f.ah 1).foldl (fG f.ah) ([],0))).2<=48000;omega
def ab9{x:Int}(h0:0<=x):x<2^(bl x).toNat/\∀i,i<(bl x).toNat->(2:Int)^i<=x:=by
 have e:∀k:Nat,((2^k:Nat):Int)=(2:Int)^k:=λk=>by rw[wO];rfl
 unfold bl;split
 ·have:x=0:=aj;subst this;exact⟨by decide,λi hi=>by simp at hi⟩
 ·rename_i h;rw[zw];have h1:=@Nat.lt_log2_self x.toNat
  have h2:=Nat.log2_self_le (n:=x.toNat) aj;refine⟨by rw[<-e];omega,λi hi=> ?_⟩;have h3:2^i<=2^Nat.log2 x.toNat:=xB aj aj;rw[<-e];omega
def adO{k:Nat}(h:k<=30):FF IntKind.i64 1 (k:Int)=2^k:=by
 unfold FF;have hp:(2:Int)^k<=2^30:=by
  have:=xB (n:=2) aj h;have e:∀k:Nat,((2^k:Nat):Int)=(2:Int)^k:=λk=>by rw[wO];rfl
  rw[<-e k,<-e 30];exact Int.ofNat_le.2 this
 have h0:(0:Int)<2^k:=Int.pow_pos aj;have h30:(2:Int)^30=1073741824:=by decide
 rw[show min ((k:Int)).toNat IntKind.i64.bits=k from by simp only[zw,IntKind.bits];omega,Int.one_mul];exact aI
def aaF(a b c d e f':Int)(q:aa Slot)(g:aa Int)(vs:aa bf)(u w:Int)(f:bn)(v:bf)(h1: -1048576<=v.aC)(h2:v.aC<=v.au)(h3:v.au<=1048576):
  Wy ⟨q,a,b,c,d,0,g,e,f',vs,u,w,f,v⟩=M ⟨q,a,b,c,d,CK v,g,e,f',vs,u,w,f,v⟩:=by
 have hb:=adb (x:=v.au-v.aC) aj;obtain⟨g1,g2⟩:=ab9 (x:=v.au-v.aC) aj;have e1:ak (v.au-v.aC)=v.au-v.aC:=aI;have e2:ak (v.au-v.aC+1)=v.au-v.aC+1:=aI;obtain⟨_,q,-⟩:=cZ (β:=Unit) (rnd:=Vz) (bl (v.au-v.aC)).toNat (λi _=>⟨q,a,b,c,d,(i:Int),g,e,f',vs,u,w,f,v⟩) (λ_ _=>True) (λi _ hi _=>by
  have i2:(0:Int)<=(i:Int):=aj;have hw:ak ((i:Int)+1)=((i+1:Nat):Int):=by rw[aI];omega
  have h4:=g2 i hi;refine⟨(),?_,trivial⟩;unfold Vz pM;simp only[i2,dx,e1,e2,adO (show i<=30 by omega),hw];rw[zDT,fZ]) (λ_ _=>by
  unfold Vz pM;simp only[e1,e2,adO (show (bl (v.au-v.aC)).toNat<=30 by omega)];rw[Dx,gI,fO]) (b:=()) trivial
 rw[show (((bl (v.au-v.aC)).toNat:Nat):Int)=CK v from by unfold CK;omega]at q;exact q
def Qh(f:bn)(h:KF f.ah)(k:Int)(s:aa Slot×Int)(hs1:zZ s.1<=10000)(hs2:0<=s.2/\s.2<=100000)(a c d:Int)(e:aa Int):
  Vt ⟨s.1,s.2,a,k,e,c,d,f.ah,(zZ f.ah:Int),0,f⟩=M ⟨((fH f.ah k).foldl (fG f.ah) s).1,((fH f.ah k).foldl (fG f.ah) s).2,a,k,e,c,d,f.ah,(zZ f.ah:Int),(zZ f.ah:Int),f⟩/\
   ((fH f.ah k).foldl (fG f.ah) s).1.length<=zZ s.1+zZ f.ah/\0<=((fH f.ah k).foldl (fG f.ah) s).2/\((fH f.ah k).foldl (fG f.ah) s).2<=s.2+24*zZ f.ah:=by
 have hn:=h.1;obtain⟨v,q,hv⟩:=cZ (rnd:=M5) (zZ f.ah) (λi (z:aa Slot×Int)=>⟨z.1,z.2,a,k,e,c,d,f.ah,(zZ f.ah:Int),(i:Int),f⟩) (λi z=>z=(Hz f.ah k i).foldl (fG f.ah) s/\zZ z.1<=zZ s.1+i/\0<=z.2/\z.2<=s.2+24*i) (λi z hi ⟨hz,z1,z2,z3⟩=>by
  have i1:(i:Int)<(zZ f.ah:Int):=aj;have i2:(0:Int)<=(i:Int):=aj;have hw:=jy hi aj;obtain⟨x1,x2,x3⟩:=h.2 i hi;have hv:=adb (x:=f.ah[i]!.au-f.ah[i]!.aC) aj;have hv:0<=CK f.ah[i]!/\CK f.ah[i]!<=24:=hv;by_cases hk:f.ah[i]!.bQ=k
  ·have h3:zZ (z.1++[Slot.mk (i:Int) z.2 (CK f.ah[i]!)])<=1073741824:=by simp;omega
   have h4:ak (z.2+CK f.ah[i]!)=z.2+CK f.ah[i]! :=aI;have h5:¬(FF IntKind.i64 1 (CK f.ah[i]!)<ak (ak (f.ah[i]!.au-f.ah[i]!.aC)+1)):=by
    have e1:ak (f.ah[i]!.au-f.ah[i]!.aC)=f.ah[i]!.au-f.ah[i]!.aC:=aI;have e2:ak (f.ah[i]!.au-f.ah[i]!.aC+1)=f.ah[i]!.au-f.ah[i]!.aC+1:=aI;have e3:=(ab9 (x:=f.ah[i]!.au-f.ah[i]!.aC) aj).1;have e4:CK f.ah[i]! =(((bl (f.ah[i]!.au-f.ah[i]!.aC)).toNat:Nat):Int):=by show bl _=_;have:0<=bl (f.ah[i]!.au-f.ah[i]!.aC):=hv.1;omega
    have e5:(bl (f.ah[i]!.au-f.ah[i]!.aC)).toNat<=30:=by have:=hv.2;omega
    rw[e1,e2,e4,adO e5];omega
   refine⟨fG f.ah z (i:Int),?_,?_,?_,?_,?_⟩
   ·unfold M5 Am pM;simp only[dS,dP,i1,i2,dx,hk,aaF _ _ _ _ _ _ _ _ _ _ _ _ _ x1 x2 x3,hv.1,h5,h3,hw,h4];rfl
   ·rw[kT,bO hk,wC,<-hz];rfl
   ·unfold fG;simp;omega
   ·unfold fG;simp only[zw];omega
   ·unfold fG;simp only[zw];omega
  ·refine⟨z,?_,?_,aj,z2,aj⟩
   ·unfold M5 Am pM;simp only[dS,dP,i1,i2,dx,hk,hw]
   ·rw[kT,bP hk,yN];exact hz) (λz _=>by unfold M5 Am pM;simp) (b:=s) ⟨rfl,zx _,hs2.1,by simp⟩
 obtain⟨hv,hr⟩:=hv;have hv:v=(fH f.ah k).foldl (fG f.ah) s:=hv;subst hv;exact⟨q,hr⟩
def T6(f:bn)(h:KF f.ah):m16 f=M ((bx f.ah).1,(bx f.ah).2.2,(bx f.ah).2.1):=by
 have hn:=h.1;obtain⟨q1,q2,q3,q4⟩:=Qh f h 1 ([],0) (by simp) (by simp) 0 2 0 [1,3];simp only[yP,zY,Int.zero_add]at q2 q4;obtain⟨p1,p2,p3,p4⟩:=Qh f h 3 ((fH f.ah 1).foldl (fG f.ah) ([],0)) aj ⟨q3,aj⟩ ((fH f.ah 1).foldl (fG f.ah) ([],0)).2 2 1 [1,3];have n0:HW ⟨[],0,0,[1,3],2,0,f⟩=M (M ⟨((fH f.ah 1).foldl (fG f.ah) ([],0)).1,((fH f.ah 1).foldl (fG f.ah) ([],0)).2,((fH f.ah 1).foldl (fG f.ah) ([],0)).2,[1,3],2,1,f⟩):=by
  unfold HW IM Am pM;have e1:([1,3]:aa Int)[zQ 0]! =1:=rfl;have w:ak (0+1)=1:=aI;simp only[e1,q1,w,zO,mF,fO];rfl
 have n1:HW ⟨((fH f.ah 1).foldl (fG f.ah) ([],0)).1,((fH f.ah 1).foldl (fG f.ah) ([],0)).2,((fH f.ah 1).foldl (fG f.ah) ([],0)).2,[1,3],2,1,f⟩=M (M ⟨(bx f.ah).1,(bx f.ah).2.2,(bx f.ah).2.1,[1,3],2,2,f⟩):=by
  unfold HW IM Am pM;have e1:([1,3]:aa Int)[zQ 1]! =3:=rfl;have w:ak (1+1)=2:=aI;simp only[e1,p1,w,zO,mF,fO];rfl
 have e:Qd ⟨[],0,0,[1,3],2,0,f⟩=M ⟨(bx f.ah).1,(bx f.ah).2.2,(bx f.ah).2.1,[1,3],2,2,f⟩:=by
  unfold Qd;rw[cT n0,cT n1];exact cW (λr=>by unfold HW IM Am pM;simp)
 unfold m16 IM Am pM;rw[e];simp only[zO,mF,fO]
structure aMt where
 t1:List Bool
 (t4 t5:List Int)
 t14:Int
 t32:List Slot
 (t33 t34:Int)
 t52:List Bool
 (t53 t54:Int)
 b0:bn
 b3:bf
structure aNZ where
 t1:List Bool
 (t4 t5:List Int)
 t32:List Slot
 (t33 t34:Int)
 b0:bn
structure Fm where
 (t2 t14:List Int)
 (t15 t16:Int)
 b0:bn
def adL:Td 0 Fm:= .c [] [2,3,14,15,16] (.r 0 1 (ec 2 (ql 3) (ec 3 (qp 0 0) (ec 14 (ql 3) (ec 15 aU (ec 16 aU en))))) (sb 0 26 (lg 26) sn) (λz=>⟨z.1.1,z.1.t.1,z.1.t.2.1,z.1.q.1,z.2.1⟩) (λx=>((x.t2,(),x.t14,x.t15,x.t16,()),(x.b0,()))))
def I7{α:Type}(p:Fm)(go:Fm->af α)(e1 e2:af α):af α:=
 bif w9 (p.t16<p.t15)then if 0<=p.t16/\p.t16<zZ p.t14 then if 0<=p.t16/\p.t16<zZ p.t2 then if 0<=p.t14[zQ p.t16]!/\p.t14[zQ p.t16]! <(zZ p.b0.ah:Int)then bif w9 (p.t2[zQ p.t16]! <p.b0.ah[zQ p.t14[zQ p.t16]!]!.aC)then e1 else if 0<=p.t16/\p.t16<zZ p.t2 then if 0<=p.t14[zQ p.t16]!/\p.t14[zQ p.t16]! <(zZ p.b0.ah:Int)then bif w9 (p.b0.ah[zQ p.t14[zQ p.t16]!]!.au<p.t2[zQ p.t16]!)then e1 else go (Fm.mk p.t2 p.t14 p.t15 (ak (p.t16+1)) p.b0)else J else J else J else J else J else e2
def Qy(p:Fm):af (af Fm):=
 I7 p fW dy dy
def WU:=bX (Qy)
abbrev E64:=Int
def d64:Td 0 E64:=dW 6
def m64(a0:bn)(a1:aa Int)(a2:aa Int):af E64:=
 bif bif w9 ((zZ a1:Int)=(zZ a2:Int))then O else Z then M 2 else match WU (Fm.mk a2 a1 (zZ a1) 0 a0)with|J=>J|M r1=>I7 r1 (λ_=>J) (M 3) (M 0)
def e64:=eL va 64 O (lc (qg 26) (lc (ql 3) (lc (ql 3) ln))) d64 (λg=>m64 g.1 g.2.1 g.t.1)
def adC:EO e64:=λh=>kL (an:=(cA 2 (.two (noTwo (adL.lp WU .no)) .no))) (l:=[(bz f64 0,(adL.lp WU .no))]) func64 aP (aA (aO adL) az) h
def Uc{f:bn}(h:J8 f 20 200=Z):gF f.bG+kR (f.ai.map (·.aB))<=900/\zZ f.ai<=1000000/\zZ f.ah<=20:=by
 unfold J8 at h;simp at h;omega
def sS{f:bn}(h:J8 f 20 200=Z)(hc:Aa f=0):KF f.ah:=
 ⟨by have:=(Uc h).2.2;omega,λi hi=>by
  have:=P8 hc _ (yR hi)
  rwa [getElem!_pos f.ah i hi]⟩
def bvF(n:Int)(b:Bool):Int:=2*n+(if b then 1 else 0)
def bv(l:aa Bool):Int:=l.foldl bvF 0
def Sv:∀(l:aa Bool) (a:Int),0<=a->0<=l.foldl bvF a/\l.foldl bvF a<(a+1)*2^l.length
 |[],a,h=>by simp;omega
 |b::l,a,h=>by
  have hb:0<=bvF a b/\bvF a b+1<=(a+1)*2:=by unfold bvF;split<;>omega
  obtain⟨h1,h2⟩:=Sv l (bvF a b) hb.1;refine⟨h1,Int.lt_of_lt_of_le h2 ?_⟩;rw[ya,Int.pow_succ,Int.mul_comm ((2:Int)^l.length) 2,<-Int.mul_assoc];exact xe hb.2 (Int.pow_nonneg aj)
def OV(l:aa Bool)(h:zZ l<=24):0<=bv l/\bv l<16777216:=by
 obtain⟨h1,h2⟩:=Sv l 0 (zG _);have h3:(2:Int)^l.length<=2^24:=by exact_mod_cast xB (n:=2) aj h
 simp only[Int.zero_add,Int.one_mul]at h2;exact⟨h1,by unfold bv;omega⟩
def UR(l:aa Bool)(b:Bool):bv (l++[b])=bvF (bv l) b:=by simp[bv,wC]
def oQ(bits:aa Bool)(t:Slot):aa Bool:=(bits.drop t.dJ.toNat).take t.dM.toNat
structure oR (vs:List bf) (n:Int) (t:Slot):Prop where
 v0:0<=t.bq
 v1:t.bq<(zZ vs:Int)
 f0:0<=t.dJ
 b0:0<=t.dM
 b1:t.dM<=24
 l:t.dJ+t.dM<=n
def nZ{vs:aa bf}{bits:aa Bool}{t:Slot}(h:oR vs (zZ bits) t):zZ (oQ bits t)=t.dM.toNat:=by
 have:=h.f0;have:=h.b0;have:=h.l
 unfold oQ;simp;omega
def Xd{bits:aa Bool}{t:Slot}{i:Nat}(h0:0<=t.dJ)(h:i<t.dM.toNat):(oQ bits t)[i]! =bits[(t.dJ+(i:Int)).toNat]! :=by
 have:(t.dJ+(i:Int)).toNat=t.dJ.toNat+i:=aj;rw[this];unfold oQ;simp[getElem!_def,yA,yK,h]
def Dn(vs:aa bf)(bits:aa Bool)(t:Slot):Int:=vs[t.bq.toNat]!.aC+bv (oQ bits t)
def mz(vs:aa bf)(bits:aa Bool)(t:Slot):Bool:= !w9 (vs[t.bq.toNat]!.au<Dn vs bits t)
def kK(vs:aa bf):aa Int->Int
 |[]=>0
 |i::l=>CK vs[i.toNat]! +kK vs l
def oD(vs:aa bf)(o:Int):aa Int->aa Slot
 |[]=>[]
 |i::l=>⟨i,o,CK vs[i.toNat]!⟩::oD vs (o+CK vs[i.toNat]!) l
def Va(vs:aa bf):∀(ids:aa Int) (s:aa Slot×Int),ids.foldl (fG vs) s=(s.1++oD vs s.2 ids,s.2+kK vs ids)
 |[],s=>by simp[oD,kK]
 |i::l,s=>by
  rw[List.foldl_cons,Va vs l];simp[fG,oD,kK,Int.add_assoc]
def A5(vs:aa bf):bx vs=(oD vs 0 (fH vs 1)++oD vs (kK vs (fH vs 1)) (fH vs 3),kK vs (fH vs 1),kK vs (fH vs 1)+kK vs (fH vs 3)):=by
 unfold bx;simp[Va]
def ael{vs:aa bf}(h:KF vs){x:Int}(h1:0<=x)(h2:x<(zZ vs:Int)):0<=CK vs[x.toNat]!/\CK vs[x.toNat]!<=24:=(aa6 h h1 h2).2
def uR{vs:aa bf}(h:KF vs):∀(ids:aa Int),(∀x∈ids,0<=x/\x<(zZ vs:Int))->0<=kK vs ids
 |[],_=>zG _
 |i::l,hi=>by
  have h1:=hi i (by simp);have h2:=ael h h1.1 h1.2;have h3:=uR h l λx hx=>hi x (by simp[hx]);simp only[kK];omega
def K2{vs:aa bf}(h:KF vs):∀(ids:aa Int) (o n:Int),(∀x∈ids,0<=x/\x<(zZ vs:Int))->0<=o->o+kK vs ids<=n->∀t∈oD vs o ids,oR vs n t/\t.bq∈ids
 |[],_,_,_,_,_,t,ht=>by simp[oD]at ht
 |i::l,o,n,hi,ho,hn,t,ht=>by
  have h1:=hi i (by simp);have h2:=ael h h1.1 h1.2;have hl:∀x∈l,0<=x/\x<(zZ vs:Int):=λx hx=>hi x (by simp[hx]);have h3:=uR h l hl;simp only[kK]at hn;rcases zk.1 ht with rfl|ht
  ·exact⟨⟨h1.1,h1.2,ho,h2.1,h2.2,by simp only;omega⟩,by simp⟩
  ·obtain⟨q1,q2⟩:=K2 h l (o+CK vs[i.toNat]!) n hl aj aj t ht;exact⟨q1,by simp[q2]⟩
def ry{vs:aa bf}(h:KF vs):∀t∈(bx vs).1,oR vs (bx vs).2.2 t:=by
 rw[A5];intro t ht;have k1:∀x∈fH vs 1,0<=x/\x<(zZ vs:Int):=λx hx=>⟨(jE hx).1,(jE hx).2.1⟩;have k3:∀x∈fH vs 3,0<=x/\x<(zZ vs:Int):=λx hx=>⟨(jE hx).1,(jE hx).2.1⟩;have t1:=uR h _ k1;have t3:=uR h _ k3;rcases zR.1 ht with ht|ht
 ·exact(K2 h _ 0 _ k1 (zG _) (by simp only;omega) t ht).1
 ·exact(K2 h _ _ _ k3 t1 (by simp only;omega) t ht).1
structure aMQ where
 t6:List Int
 t25:List (List Int)
 (t26 t27:Int)
structure aNa where
 t0:List (List Int)
 t3:Int
 t9:List (List Int)
 (t10 t11:Int)
structure aM0 where
 t11:List Slot
 t14:List Bool
 (t16 t18:Int)
 t51:List Int
 (t52 t53:Int)
 b0:bn
 b3:Slot
structure aMh where
 t11:List Slot
 t14:List Bool
 t51:List Int
 (t52 t53:Int)
 b0:bn
def ar6{n:Int}(h1: -1000000000000<=n)(h2:n<=1000000000000):ak n=n:=aI
def vr(vs:aa bf)(ids l:aa Int):Int:=if zZ ids≠l.length then 2 else if(zy (zZ ids)).all (λj=>w9 (vs[ids[j]!.toNat]!.aC<=l[j]!/\l[j]!<=vs[ids[j]!.toNat]!.au))then 0 else 3
def abE(f:bn)(ids l:aa Int)(hid:∀x∈ids,0<=x/\x<(zZ f.ah:Int))(hn:zZ ids<=1000):m64 f ids l=M (vr f.ah ids l):=by
 unfold m64 I7;by_cases hl:zZ ids=zZ l
 ·have hl2:(zZ ids:Int)=(zZ l:Int):=aj
  let P:Nat->Bool:=λj=>w9 (f.ah[ids[j]!.toNat]!.aC<=l[j]!/\l[j]!<=f.ah[ids[j]!.toNat]!.au)
  obtain⟨i,v,q,hI,hS⟩:=oO (rnd:=Qy) (zZ ids) (λi (_:Unit)=>⟨l,ids,(zZ ids:Int),(i:Int),f⟩) (λi _=>(zy i).all P=Z) (λi _=>P i=O) (λi z hi hI=>by
   have i1:(i:Int)<(zZ ids:Int):=aj;have i2:(0:Int)<=(i:Int):=aj;have i3:(i:Int)<(zZ l:Int):=aj;have w2:ak ((i:Int)+1)=((i+1:Nat):Int):=by rw[aI];rfl
   obtain⟨x1,x2⟩:=hid _ (bg hi);by_cases hp:P i=Z
   ·left;refine⟨(),?_,by rw[xH,List.all_append,hI];simp only[xu,List.all_nil,hp];rfl⟩;have hp:=of_decide_eq_true hp;have y1:¬l[i]! <f.ah[ids[i]!.toNat]!.aC:=aj;have y2:¬f.ah[ids[i]!.toNat]!.au<l[i]! :=aj;unfold Qy I7;simp only[dS,dP,i1,i2,i3,x1,x2,y1,y2,dx,w2]
   ·right;have hp:P i=O:=eq_false_of_ne_true hp;refine⟨?_,hp⟩;have hp:=of_decide_eq_false hp;unfold Qy I7;by_cases y1:l[i]! <f.ah[ids[i]!.toNat]!.aC
    ·simp only[dS,dP,i1,i2,i3,x1,x2,y1,dx]
    ·have y2:f.ah[ids[i]!.toNat]!.au<l[i]! :=aj;simp only[dS,dP,i1,i2,i3,x1,x2,y1,y2,dx]) (λz _=>by unfold Qy I7;simp) (b:=()) (by simp)
  have q:WU ⟨l,ids,(zZ ids:Int),0,f⟩=M ⟨l,ids,(zZ ids:Int),(i:Int),f⟩:=q;unfold vr;rw[q,bP (by simp[hl])];rcases hS with rfl|⟨hi,hs⟩
  ·rw[bO hI];simp only[dS,dP,hl2,zO]
  ·rw[bP (λha=>by have:=zn.1 ha i (xM.2 hi);exact iy (this.symm.trans hs) (by decide))];have i1:(i:Int)<(zZ l:Int):=aj;have i1':(i:Int)<(zZ ids:Int):=aj;have i2:(0:Int)<=(i:Int):=aj;obtain⟨x1,x2⟩:=hid _ (bg hi);have hp:=of_decide_eq_false hs;by_cases y1:l[i]! <f.ah[ids[i]!.toNat]!.aC
   ·simp only[dS,dP,hl2,i1,i2,x1,x2,y1,dx]
   ·have y2:f.ah[ids[i]!.toNat]!.au<l[i]! :=aj;simp only[dS,dP,hl2,i1,i2,x1,x2,y1,y2,dx]
 ·have hl2:¬(zZ ids:Int)=(zZ l:Int):=aj;unfold vr;rw[bO (by simp[hl])];simp only[dP,hl2,mF]
def EG(vs:aa bf):∀(ids:aa Int) (o:Int),zZ (oD vs o ids)=zZ ids
 |[],_=>rfl
 |i::l,o=>by simp[oD,EG vs l]
def um(vs:aa bf):zZ (bx vs).1=zZ (fH vs 1)+zZ (fH vs 3):=by
 rw[A5];simp[EG]
def Bm{vs:aa bf}(k:Int):∀x∈fH vs k,0<=x/\x<(zZ vs:Int):=λx hx=>⟨(jE hx).1,(jE hx).2.1⟩
def DE(vs:aa bf)(k:Int):zZ (fH vs k)<=zZ vs:=CU _ _ _
def Ay{vs:aa bf}(h:KF vs){ids l:aa Int}(hid:∀x∈ids,0<=x/\x<(zZ vs:Int))(hf:vr vs ids l=0):zZ ids=zZ l/\(∀j,j<zZ l->vs[ids[j]!.toNat]!.aC<=l[j]!/\l[j]!<=vs[ids[j]!.toNat]!.au)/\∀x∈l,-1000000000<=x/\x<=1000000000:=by
 unfold vr at hf;by_cases hl:zZ ids=zZ l
 ·rw[bP (by simp[hl])]at hf;split at hf
  case isFalse=>omega
  rename_i ha;have hj:∀j,j<zZ l->vs[ids[j]!.toNat]!.aC<=l[j]!/\l[j]!<=vs[ids[j]!.toNat]!.au:=λj hj=>of_decide_eq_true (zn.1 ha j (xM.2 aj));refine⟨hl,hj,λx hx=> ?_⟩;obtain⟨j,hj2,rfl⟩:=xh hx;obtain⟨y1,y2⟩:=hj j hj2;rw[getElem!_pos l j hj2]at y1 y2;obtain⟨x1,x2⟩:=hid _ (bg (i:=j) aj);have:=h.2 (ids[j]!.toNat) aj;omega
 ·rw[bO (by simp[hl])]at hf;omega
def OF(l:aa Int)(hl:zZ l<=1000000):m32 l l=M Z:=by
 obtain⟨v,q,_⟩:=cZ (rnd:=UL) (zZ l) (λi (_:Unit)=>⟨l,l,(zZ l:Int),(i:Int)⟩) (λ_ _=>True) (λi z hi _=>by
  have i1:(i:Int)<(zZ l:Int):=aj;refine⟨(),?_,trivial⟩;unfold UL Py;have e:ak ((i:Int)+1)=((i+1:Nat):Int):=by rw[aI];rfl
  simp only[dS,dP,i1,e,Int.natCast_nonneg,dx]) (λz _=>by unfold UL Py;simp) (b:=()) trivial
 unfold m32 Py;have e:XX ⟨l,l,(zZ l:Int),0⟩=M ⟨l,l,(zZ l:Int),(zZ l:Int)⟩:=q;simp[e]
def aId{x:Int}(k:Nat)(hk:k<=64):de IntKind.i64 x (k:Int)=x/2^k:=by
 unfold de;rw[show min ((k:Int)).toNat IntKind.i64.bits=k from by simp only[zw,IntKind.bits];omega];exact Int.fdiv_eq_ediv_of_nonneg _ (Int.le_of_lt (Int.pow_pos aj))
def aLc{x:Int}(h1:0<=x)(h2:x<9223372036854775808):oT IntKind.i64 x 1=x%2:=by
 unfold oT;have e:(BitVec.ofInt IntKind.i64.bits x&&&BitVec.ofInt IntKind.i64.bits 1).toNat=x.toNat%2:=by
  rw[BitVec.toNat_and];simp only[IntKind.bits];rw[show (BitVec.ofInt 64 1).toNat=1 from rfl,Nat.and_one_is_mod];rw[BitVec.toNat_ofInt];omega
 rw[e];exact(aI).trans aj
def OB(vs:aa bf):∀(ids:aa Int) (o:Int) (j:Nat),j<zZ ids->(oD vs o ids)[j]!.bq=ids[j]!
 |[],_,_,h=>by simp at h
 |i::l,o,0,_=>by simp[oD]
 |i::l,o,j+1,h=>by
  have:=OB vs l (o+CK vs[i.toNat]!) j (by simpa using h);simpa [oD]using this
def M6(vs:aa bf):∀(a b:aa Int) (o:Int),oD vs o (a++b)=oD vs o a++oD vs (o+kK vs a) b
 |[],b,o=>by simp[oD,kK]
 |i::a,b,o=>by simp[oD,kK,M6 vs a b,Int.add_assoc]
def Rf(vs:aa bf):(bx vs).1=oD vs 0 (fH vs 1++fH vs 3):=by
 rw[A5,M6];simp
def gK(vs:aa bf)(k:Int):aa bf:=(fH vs k).map λx=>vs[x.toNat]!
def Ty(vs:aa bf)(k:Int)(hl:zZ vs<=1000):m68 vs k=M (gK vs k):=by
 obtain⟨v,q,hz⟩:=cZ (rnd:=Nd) (zZ vs) (λi (z:aa bf)=>⟨vs,k,z,(i:Int)⟩) (λi z=>z=(Hz vs k i).map (λx=>vs[x.toNat]!)/\zZ z<=i) (λi z hi ⟨hz,z1⟩=>by
  have i1:(i:Int)<(zZ vs:Int):=aj;have i2:(0:Int)<=(i:Int):=aj;have w2:ak ((i:Int)+1)=((i+1:Nat):Int):=by rw[aI];rfl
  have l1:zZ (z++[vs[i]!])<=1073741824:=by simp;omega
  by_cases hk:vs[i]!.bQ=k
  ·refine⟨z++[vs[i]!],?_,?_,by simp;omega⟩
   ·unfold Nd Is;simp only[dS,i1,i2,hk,l1,w2,fZ,dx]
   ·rw[kT,bO hk,zH,hz];rfl
  ·refine⟨z,?_,?_,aj⟩
   ·unfold Nd Is;simp only[dS,dP,i1,i2,hk,w2,dx]
   ·rw[kT,bP hk,yN,hz]) (λz _=>by unfold Nd Is;simp) (b:=[]) ⟨rfl,by simp⟩
 have q:UW ⟨vs,k,[],0⟩=M ⟨vs,k,v,(zZ vs:Int)⟩:=q;unfold m68 Is;simp only[q,zO,hz.1];rfl
def prG:aa bf->Int->af Int
 |[],n=>M n
 |v::l,n=>if 4096<n*(v.au-v.aC+1)then J else prG l (n*(v.au-v.aC+1))
def Rn(k:Int):∀(l:aa bf) (n:Int),oW k l n=prG (l.filter λv=>w9 (v.bQ=k)) n
 |[],n=>rfl
 |v::l,n=>by
  by_cases hk:v.bQ=k
  ·have e:(v::l).filter (λv=>w9 (v.bQ=k))=v::l.filter (λv=>w9 (v.bQ=k)):=List.filter_cons_of_pos (l8 hk);rw[e,prG,<-Rn k l,oW,bO hk]
  ·have e:(v::l).filter (λv=>w9 (v.bQ=k))=l.filter (λv=>w9 (v.bQ=k)):=List.filter_cons_of_neg (λh=>hk (of_decide_eq_true h));rw[e,<-Rn k l,oW,bP hk]
def DN(vs:aa bf)(k:Int):∀n,n<=zZ vs->(Hz vs k n).map (λx=>vs[x.toNat]!)=(vs.take n).filter λv=>w9 (v.bQ=k)
 |0,_=>by simp[Hz]
 |n+1,h=>by
  rw[kT,zH,DN vs k n aj,bV aj,yj];by_cases hk:vs[n]!.bQ=k
  ·rw[bO hk,yZ,bO (l8 hk)];rfl
  ·rw[bP hk,yZ,bP (λh=>hk (of_decide_eq_true h))];rfl
def Yo(vs:aa bf)(k:Int):gK vs k=vs.filter λv=>w9 (v.bQ=k):=by
 have:=DN vs k (zZ vs) (zx _);rw[yh]at this;exact this
def aE5{vs:aa bf}(h:KF vs)(k:Int):∀v∈gK vs k,-1048576<=v.aC/\v.aC<=v.au/\v.au<=1048576:=λv hv=>by
 obtain⟨x,hx,rfl⟩:=zC.1 hv;obtain⟨x1,x2⟩:=Bm k x hx;exact h.2 _ aj
def ack{vs:aa bf}(h:KF vs)(k:Int)(hk:k=1\/k=2\/k=3)(N:Int)(hN:oW k vs 1=M N):∃n,m67 vs k=M (n,0):=by
 have hg:=aE5 h k;rw[Rn,<-Yo]at hN;have hl:zZ (gK vs k)<=1000:=by unfold gK;rw[zF];have:=DE vs k;have:=h.1;omega
 unfold m67 Oj Pg;rw[Ty vs k h.1];generalize gK vs k=G at*;obtain⟨v,q,_⟩:=cZ (rnd:=U9) (zZ G) (λi (_:Unit)=>⟨G,(i:Int)⟩) (λ_ _=>True) (λi z hi _=>by
  have i1:(i:Int)<(zZ G:Int):=aj;have i2:(0:Int)<=(i:Int):=aj;have w2:ak ((i:Int)+1)=((i+1:Nat):Int):=by rw[aI];rfl
  obtain⟨g1,g2,g3⟩:=hg _ (bg hi);have y1:¬G[i]!.au<G[i]!.aC:=aj;have y2:¬G[i]!.aC< -1048576:=aj;have y3:¬1048576<G[i]!.au:=aj;refine⟨(),?_,trivial⟩;unfold U9 Oj;simp only[dS,dP,i1,i2,hi,y1,y2,y3,w2,dx]) (λz _=>by unfold U9 Oj;simp) (b:=()) trivial
 have q:VM ⟨G,0⟩=M ⟨G,(zZ G:Int)⟩:=q;obtain⟨v,q2,_⟩:=cZ (rnd:=W1) (zZ G) (λi (z:Int)=>⟨G,z,(i:Int)⟩) (λi z=>prG (G.drop i) z=M N/\0<=z/\z<=4096) (λi z hi ⟨hz,z1,z2⟩=>by
  have i1:(i:Int)<(zZ G:Int):=aj;have i2:(0:Int)<=(i:Int):=aj;have w2:ak ((i:Int)+1)=((i+1:Nat):Int):=by rw[aI];rfl
  obtain⟨g1,g2,g3⟩:=hg _ (bg hi);rw[yX hi,<-getElem!_pos G i hi,prG]at hz;split at hz
  case isTrue=>cases hz
  rename_i y;have w3:ak (G[i]!.au-G[i]!.aC)=G[i]!.au-G[i]!.aC:=ar6 aj aj;have w4:ak (G[i]!.au-G[i]!.aC+1)=G[i]!.au-G[i]!.aC+1:=ar6 aj aj;have m0:0<=z*(G[i]!.au-G[i]!.aC+1):=yo z1 aj;have w5:ak (z*(G[i]!.au-G[i]!.aC+1))=z*(G[i]!.au-G[i]!.aC+1):=ar6 aj aj;refine⟨z*(G[i]!.au-G[i]!.aC+1),?_,hz,m0,aj⟩;unfold W1 Pg;simp only[dS,dP,i1,i2,hi,w3,w4,w5,y,w2,dx]) (λz _=>by unfold W1 Pg;simp) (b:=1) ⟨hN,aj,aj⟩
 have q2:Vr ⟨G,1,0⟩=M ⟨G,v,(zZ G:Int)⟩:=q2;refine⟨v,?_⟩;rcases hk with rfl|rfl|rfl<;>(simp only[q,q2,zO];rfl)
def avv{vs:aa bf}(h:KF vs)(k:Int)(hk:k=1\/k=2\/k=3)(N:Int)(hN:oW k vs 1=M N)(l:aa Int):∃n,m28 vs k l=M (n,vr vs (fH vs k) l):=by
 obtain⟨n0,e⟩:=ack h k hk N hN;have hl:zZ (gK vs k)=zZ (fH vs k):=by unfold gK;rw[zF]
 have hl2:=DE vs k;have hl3:=h.1;have hge:∀j,j<zZ (fH vs k)->(gK vs k)[j]! =vs[(fH vs k)[j]!.toNat]! :=λj hj=>by
  rw[getElem!_pos (gK vs k) j aj,getElem!_pos (fH vs k) j hj];unfold gK;rw[yy]
 unfold m28 ID vr;rw[e,Ty vs k h.1];generalize gK vs k=G at*;by_cases hn:zZ (fH vs k)=zZ l
 ·have hn2:(zZ G:Int)=(zZ l:Int):=aj;rw[bP (by simp[hn])]
  let P:Nat->Bool:=λj=>w9 (vs[(fH vs k)[j]!.toNat]!.aC<=l[j]!/\l[j]!<=vs[(fH vs k)[j]!.toNat]!.au)
  obtain⟨i,v,q,hI,hS⟩:=oO (rnd:=PU) (zZ G) (λi (z:Int)=>⟨l,G,z,(i:Int)⟩) (λi _=>(zy i).all P=Z) (λi _=>P i=O) (λi z hi hI=>by
   have i1:(i:Int)<(zZ G:Int):=aj;have i2:(0:Int)<=(i:Int):=aj;have i3:(i:Int)<(zZ l:Int):=aj;have w2:ak ((i:Int)+1)=((i+1:Nat):Int):=by rw[aI];rfl
   have hg:=hge i aj;by_cases hp:P i=Z
   ·left;refine⟨ak (ak (ak (z*ak (ak (G[i]!.au-G[i]!.aC)+1))+l[i]!)-G[i]!.aC),?_,by rw[xH,List.all_append,hI];simp only[xu,hp];rfl⟩;have hp:=of_decide_eq_true hp;rw[<-hg]at hp;have y1:¬l[i]! <G[i]!.aC:=aj;have y2:¬G[i]!.au<l[i]! :=aj;unfold PU ID;simp only[dS,dP,i1,i2,i3,hi,y1,y2,dx,w2]
   ·right;have hp:P i=O:=eq_false_of_ne_true hp;refine⟨?_,hp⟩;have hp:=of_decide_eq_false hp;rw[<-hg]at hp;unfold PU ID;by_cases y1:l[i]! <G[i]!.aC
    ·simp only[dS,i1,i2,i3,hi,y1,fZ,dx]
    ·have y2:G[i]!.au<l[i]! :=aj;simp only[dS,dP,i1,i2,i3,hi,y1,y2,dx]) (λz _=>by unfold PU ID;simp) (b:=0) (by simp)
  have q:Xp ⟨l,G,0,0⟩=M ⟨l,G,v,(i:Int)⟩:=q;rw[<-hl];rcases hS with rfl|⟨hi,hs⟩
  ·rw[bO hI];refine⟨v,?_⟩;simp only[dS,dP,hn2,q,zO]
  ·rw[bP (λha=>by have:=zn.1 ha i (xM.2 hi);exact iy (this.symm.trans hs) (by decide))];refine⟨0,?_⟩;have i1:(i:Int)<(zZ l:Int):=aj;have i2:(0:Int)<=(i:Int):=aj;have hp:=of_decide_eq_false hs;rw[<-hge i aj]at hp;by_cases y1:l[i]! <G[i]!.aC
   ·simp only[dS,dP,hn2,q,i1,i2,hi,y1,dx]
   ·have y2:G[i]!.au<l[i]! :=aj;simp only[dS,dP,hn2,q,i1,i2,hi,y1,y2,dx]
 ·have hn2:¬(zZ G:Int)=(zZ l:Int):=aj;rw[bO (by simp[hn])];exact⟨0,by simp only[dS,dP,hn2]⟩
def anL{f:bn}(h:Aa f=0):(∃N,oW 1 f.ah 1=M N)/\(∃N,oW 3 f.ah 1=M N)/\∃N,oW 2 f.ah 1=M N:=by
 have hv:jb f.ah=0:=by
  unfold Aa at h;by_cases h1:tZ f=O
  ·simp_all
  by_cases hvc:jb f.ah=0
  ·exact hvc
  ·simp_all
 unfold jb at hv;by_cases h1:dZ (mu f.ah) f.ah 0=0
 ·rw[bP (by simp[h1])]at hv;split at hv
  case isFalse=>omega
  rename_i hs;unfold Mc at hs;simp only[zh]at hs;obtain⟨⟨s1,s2⟩,s3⟩:=hs;refine⟨Option.isSome_iff_exists.1 s1,?_,Option.isSome_iff_exists.1 s2⟩;cases e:oW 3 f.ah 1 with
  |none=>rw[e]at s3;simp at s3
  |some n=>exact⟨n,rfl⟩
 ·rw[bO h1]at hv;exact iy hv h1
structure ZS where
 (t4 t7:Int)
 t9:List Bool
 (t45 t46:Int)
 b0:bn
 b1:cz
def aFb{α:Type}(p:ZS)(go:ZS->af α)(e1:af α):af α:=
 bif w9 (p.t46<p.t45)then match m20 p.t46 p.t7 with|J=>J|M r1=>match m19 p.b0 r1 with|J=>J|M r2=>if(p.t9++[r2.snd]).length<=1073741824 then go (ZS.mk p.t4 p.t7 (p.t9++[r2.snd]) p.t45 (ak (p.t46+1)) p.b0 p.b1)else J else e1
def aKi(p:ZS):af (af ZS):=
 aFb p fW dy
def aKR:=bX (aKi)
abbrev E4:=Bool
def d4:Td 0 E4:=iu 2
def m4(a0:bn):af E4:=
 bif bif m12 then O else Z then M O else match m13 a0 20 200with|J=>J|M r3=>bif bif r3 then O else Z then M Z else match m18 a0 with|J=>J|M r4=>match m15 a0 with|J=>J|M r5=>bif bif w9 (r5=0)then O else Z then M (w9 (r4.snd=r5))else match m16 a0 with|J=>J|M r6=>bif w9 (12<r6.snd.fst)then M (w9 (r4.snd=4))else bif w9 (8<r6.snd.fst)then M (w9 (r4.snd=0))else if 0<=r6.snd.fst then match aKR (ZS.mk r4.snd r6.snd.fst [] (FF IntKind.i64 1 r6.snd.fst) 0 a0 r4.fst)with|J=>J|M r7=>aFb r7 (λ_=>J) (bif w9 (r7.t4=0)then match m22 r7.t7 r7.t9 with|J=>J|M r10=>match m21 r7.b1 r10 with|J=>J|M r11=>M (r11)else M O)else J
end Go.Proofs.YtghilkcphindjaaGreat
namespace Go.Proofs.YtghilkcphindjaaGreat
open Go Go.Iv BT
def amm(x y z a c:Int):SC x y z a c=(if x=1 then a else c,a,c):=by
 unfold SC;grind
def VG(p:Bool):Mu p=if p=true then 1 else 0:=by cases p<;>rfl
def anh(x y z a:Int):afg x y z a=(if x=a then 1 else 0,a):=by
 unfold afg;rw[VG];simp
def alp{o:Nat}{x y:Int}(hop:∃z,jT o x y=M z)(z:Int):ac9 x y z o=M ((jT o x y).getD 0,o):=by
 obtain⟨r,e⟩:=hop;unfold ac9;rw[e];rfl
def oM{l:aa Int}{i:Nat}(h:i<zZ l):l[i]!∈l:=by
 rw[getElem!_pos l i h];simp
open Classical in
def agv(d0:aq)(k:Nat)(r0 r1 r2:Int)(m:cR)(b:Bd):af (Int×cR×Bd):=match tj k r0 r1 r2 m d0 b.L b.N b.mL b.mN b.w with
 |some (q,m1,e0,L,N,mL,mN,w)=>if e0=d0 then M (q,m1,⟨L,N,mL,mN,w⟩)else J
 |none=>J
def vG{d0:aq}{k:Nat}{r0 r1 r2:Int}{m:cR}{b:Bd}{q:Int}{m':cR}{b':Bd}:agv d0 k r0 r1 r2 m b=M (q,m',b')↔tj k r0 r1 r2 m d0 b.L b.N b.mL b.mN b.w=M (q,m',d0,b'.L,b'.N,b'.mL,b'.mN,b'.w):=by
 unfold agv;constructor
 ·grind
 ·simp_all
def atq{n:Int}{d0:aq}(hd0:Arg n d0){P:Int->Prop}:WK (boM P) d0.g NR NR n (λx _ _=>x) (agv d0) where
 hit:=λk r0 r1 r2 m b q h=>by
  rw[vG];show Fk (tj k) r0 r1 r2 m d0 b.L b.N b.mL b.mN b.w=_;unfold Fk;simp only[h,y9,fZ,yE]
 leaf:=λk r0 r1 r2 m b x0 x1 x2 r b' hm g0 g1 g2 hl=>by
  have hl':=l6 hl;obtain⟨rfl,u1⟩:=kA g1;obtain⟨rfl,u2⟩:=kA g2;have T0:jL d0 r0=M n:=fK hd0 g0;obtain⟨a0,c0,v0⟩:=jc g0;rw[vG];show Fk (tj k) r0 0 0 m d0 b.L b.N b.mL b.mN b.w=_;unfold Fk;simp only[dP,hm,yF,T0,hd0.v,jI,mG];rw[bO ⟨a0,c0⟩];simp only[v0,atb];rw[hl']
 node:=λr0 r1 r2 m b t0 t1 t2 v hm g0 g1 g2 hv hn=>by
  obtain⟨rfl,u1⟩:=kA g1;subst u1;obtain⟨rfl,u2⟩:=kA g2;subst u2;have T0:=fK hd0 g0;obtain⟨l0,p0,q0⟩:=fC hd0 g0 hn O;obtain⟨k0,s0,z0⟩:=fC hd0 g0 hn Z;have hmin:eW (t0.top n) n=v:=by
   simp only[ou];rw[hv];simp only[BT.top];omega
  refine⟨l0,0,0,k0,0,0,q0,dI,dI,z0,dI,dI,λk q1 m1 b1 q2 m2 b2 q b3 w1 w2 hq=> ?_⟩;have hq':=uC hq;rw[vG]at w1 w2 ⊢;show Fk (tj k) r0 0 0 m d0 b.L b.N b.mL b.mN b.w=_;unfold Fk;have hne:w9 (v=n)=O:=gI;simp only[hm,yF,fO,T0,hd0.v,hmin,hne,p0,s0,w1,w2,hq']
open Classical in
def ag0(d0:aq)(yes:Int)(no:Int)(k:Nat)(r0 r1 r2:Int)(m:cR)(b:Bd):af (Int×cR×Bd):=match sP k r0 r1 r2 m d0 b.L b.N b.mL b.mN b.w yes no with
 |some (q,m1,e0,L,N,mL,mN,w,y0,y1)=>if e0=d0/\y0=yes/\y1=no then M (q,m1,⟨L,N,mL,mN,w⟩)else J
 |none=>J
def vP{d0:aq}{yes:Int}{no:Int}{k:Nat}{r0 r1 r2:Int}{m:cR}{b:Bd}{q:Int}{m':cR}{b':Bd}:ag0 d0 yes no k r0 r1 r2 m b=M (q,m',b')↔sP k r0 r1 r2 m d0 b.L b.N b.mL b.mN b.w yes no=M (q,m',d0,b'.L,b'.N,b'.mL,b'.mN,b'.w,yes,no):=by
 unfold ag0;constructor
 ·grind
 ·simp_all
def awz{n:Int}{d0:aq}{yes:Int}{no:Int}(hd0:Arg n d0){P:Int->Prop}:WK (boM P) d0.g NR NR n (λx _ _=>if x=1 then yes else no) (ag0 d0 yes no) where
 hit:=λk r0 r1 r2 m b q h=>by
  rw[vP];show F6 (sP k) r0 r1 r2 m d0 b.L b.N b.mL b.mN b.w yes no=_;unfold F6;simp only[h,y9,fZ,yE]
 leaf:=λk r0 r1 r2 m b x0 x1 x2 r b' hm g0 g1 g2 hl=>by
  have hl':=l6 hl;obtain⟨rfl,u1⟩:=kA g1;obtain⟨rfl,u2⟩:=kA g2;have T0:jL d0 r0=M n:=fK hd0 g0;obtain⟨a0,c0,v0⟩:=jc g0;rw[vP];show F6 (sP k) r0 0 0 m d0 b.L b.N b.mL b.mN b.w yes no=_;unfold F6;simp only[dP,hm,yF,T0,hd0.v,jI,mG];rw[bO ⟨a0,c0⟩];simp only[v0,amm];rw[hl']
 node:=λr0 r1 r2 m b t0 t1 t2 v hm g0 g1 g2 hv hn=>by
  obtain⟨rfl,u1⟩:=kA g1;subst u1;obtain⟨rfl,u2⟩:=kA g2;subst u2;have T0:=fK hd0 g0;obtain⟨l0,p0,q0⟩:=fC hd0 g0 hn O;obtain⟨k0,s0,z0⟩:=fC hd0 g0 hn Z;have hmin:eW (t0.top n) n=v:=by
   simp only[ou];rw[hv];simp only[BT.top];omega
  refine⟨l0,0,0,k0,0,0,q0,dI,dI,z0,dI,dI,λk q1 m1 b1 q2 m2 b2 q b3 w1 w2 hq=> ?_⟩;have hq':=uC hq;rw[vP]at w1 w2 ⊢;show F6 (sP k) r0 0 0 m d0 b.L b.N b.mL b.mN b.w yes no=_;unfold F6;have hne:w9 (v=n)=O:=gI;simp only[hm,yF,fO,T0,hd0.v,hmin,hne,p0,s0,w1,w2,hq']
open Classical in
def aaR(d0:aq)(z:Int)(k:Nat)(r0 r1 r2:Int)(m:cR)(b:Bd):af (Int×cR×Bd):=match tI k r0 r1 r2 m d0 b.L b.N b.mL b.mN b.w z with
 |some (q,m1,e0,L,N,mL,mN,w,y0)=>if e0=d0/\y0=z then M (q,m1,⟨L,N,mL,mN,w⟩)else J
 |none=>J
def vS{d0:aq}{z:Int}{k:Nat}{r0 r1 r2:Int}{m:cR}{b:Bd}{q:Int}{m':cR}{b':Bd}:aaR d0 z k r0 r1 r2 m b=M (q,m',b')↔tI k r0 r1 r2 m d0 b.L b.N b.mL b.mN b.w z=M (q,m',d0,b'.L,b'.N,b'.mL,b'.mN,b'.w,z):=by
 unfold aaR;constructor
 ·grind
 ·simp_all
def asM{n:Int}{d0:aq}{z:Int}(hd0:Arg n d0){P:Int->Prop}:WK (boM P) d0.g NR NR n (λx _ _=>if x=z then 1 else 0) (aaR d0 z) where
 hit:=λk r0 r1 r2 m b q h=>by
  rw[vS];show DM (tI k) r0 r1 r2 m d0 b.L b.N b.mL b.mN b.w z=_;unfold DM;simp only[h,y9,fZ,yE]
 leaf:=λk r0 r1 r2 m b x0 x1 x2 r b' hm g0 g1 g2 hl=>by
  have hl':=l6 hl;obtain⟨rfl,u1⟩:=kA g1;obtain⟨rfl,u2⟩:=kA g2;have T0:jL d0 r0=M n:=fK hd0 g0;obtain⟨a0,c0,v0⟩:=jc g0;rw[vS];show DM (tI k) r0 0 0 m d0 b.L b.N b.mL b.mN b.w z=_;unfold DM;simp only[dP,hm,yF,T0,hd0.v,jI,mG];rw[bO ⟨a0,c0⟩];simp only[v0,anh];rw[hl']
 node:=λr0 r1 r2 m b t0 t1 t2 v hm g0 g1 g2 hv hn=>by
  obtain⟨rfl,u1⟩:=kA g1;subst u1;obtain⟨rfl,u2⟩:=kA g2;subst u2;have T0:=fK hd0 g0;obtain⟨l0,p0,q0⟩:=fC hd0 g0 hn O;obtain⟨k0,s0,z0⟩:=fC hd0 g0 hn Z;have hmin:eW (t0.top n) n=v:=by
   simp only[ou];rw[hv];simp only[BT.top];omega
  refine⟨l0,0,0,k0,0,0,q0,dI,dI,z0,dI,dI,λk q1 m1 b1 q2 m2 b2 q b3 w1 w2 hq=> ?_⟩;have hq':=uC hq;rw[vS]at w1 w2 ⊢;show DM (tI k) r0 0 0 m d0 b.L b.N b.mL b.mN b.w z=_;unfold DM;have hne:w9 (v=n)=O:=gI;simp only[hm,yF,fO,T0,hd0.v,hmin,hne,p0,s0,w1,w2,hq']
open Classical in
def aa7(d0:aq)(d1:aq)(o:Nat)(k:Nat)(r0 r1 r2:Int)(m:cR)(b:Bd):af (Int×cR×Bd):=match s9 k r0 r1 r2 m d0 d1 b.L b.N b.mL b.mN b.w o with
 |some (q,m1,e0,e1,L,N,mL,mN,w,y0)=>if e0=d0/\e1=d1/\y0=o then M (q,m1,⟨L,N,mL,mN,w⟩)else J
 |none=>J
def vu{d0 d1:aq}{o:Nat}{k:Nat}{r0 r1 r2:Int}{m:cR}{b:Bd}{q:Int}{m':cR}{b':Bd}:aa7 d0 d1 o k r0 r1 r2 m b=M (q,m',b')↔s9 k r0 r1 r2 m d0 d1 b.L b.N b.mL b.mN b.w o=M (q,m',d0,d1,b'.L,b'.N,b'.mL,b'.mN,b'.w,o):=by
 unfold aa7;constructor
 ·grind
 ·simp_all
def axa{n:Int}{d0 d1:aq}{o:Nat}(hd0:Arg n d0)(hd1:Arg n d1){P:Int->Prop}(hop:∀x∈d0.aG,∀y∈d1.aG,∃z,jT o x y=M z):WK (boM P) d0.g d1.g NR n (λx y _=>(jT o x y).getD 0) (aa7 d0 d1 o) where
 hit:=λk r0 r1 r2 m b q h=>by
  rw[vu];show Gs (s9 k) r0 r1 r2 m d0 d1 b.L b.N b.mL b.mN b.w o=_;unfold Gs;simp only[h,y9,fZ,yE]
 leaf:=λk r0 r1 r2 m b x0 x1 x2 r b' hm g0 g1 g2 hl=>by
  have hl':=l6 hl;obtain⟨rfl,u2⟩:=kA g2;have T0:jL d0 r0=M n:=fK hd0 g0;obtain⟨a0,c0,v0⟩:=jc g0;have T1:jL d1 r1=M n:=fK hd1 g1;obtain⟨a1,c1,v1⟩:=jc g1;rw[vu];show Gs (s9 k) r0 r1 0 m d0 d1 b.L b.N b.mL b.mN b.w o=_;unfold Gs;simp only[dP,hm,yF,T0,hd0.v,T1,jI,mG];rw[bO ⟨a0,c0⟩];rw[bO ⟨a1,c1⟩];have hz:=hop x0 (v0▸oM aj) x1 (v1▸oM aj);simp only[v0,v1,alp hz];rw[hl']
 node:=λr0 r1 r2 m b t0 t1 t2 v hm g0 g1 g2 hv hn=>by
  obtain⟨rfl,u2⟩:=kA g2;subst u2;have T0:=fK hd0 g0;obtain⟨l0,p0,q0⟩:=fC hd0 g0 hn O;obtain⟨k0,s0,z0⟩:=fC hd0 g0 hn Z;have T1:=fK hd1 g1;obtain⟨l1,p1,q1⟩:=fC hd1 g1 hn O;obtain⟨k1,s1,z1⟩:=fC hd1 g1 hn Z;have hmin:eW (t1.top n) (eW (t0.top n) n)=v:=by
   simp only[ou];rw[hv];simp only[BT.top];omega
  refine⟨l0,l1,0,k0,k1,0,q0,q1,dI,z0,z1,dI,λk q1 m1 b1 q2 m2 b2 q b3 w1 w2 hq=> ?_⟩;have hq':=uC hq;rw[vu]at w1 w2 ⊢;show Gs (s9 k) r0 r1 0 m d0 d1 b.L b.N b.mL b.mN b.w o=_;unfold Gs;have hne:w9 (v=n)=O:=gI;simp only[hm,yF,fO,T0,hd0.v,T1,hmin,hne,p0,s0,p1,s1,w1,w2,hq']
def Ri{α:Type}[DecidableEq α]:∀{l m:aa α},l.Nodup->(∀x∈l,x∈m)->zZ l<=zZ m
 |[],m,_,_=>yu _
 |x::l,m,hn,h=>by
  have hx:x∈m:=h x zm;have h1:=wg.1 hn;have:=Ri (l:=l) (m:=m.erase x) h1.2 λy hy=>(List.mem_erase_of_ne (λe=>h1.1 (by rw[<-e];exact hy))).2 (h y (zM _ hy));rw[List.length_erase_of_mem hx]at this;have:=List.length_pos_of_mem hx;simp only[ya];omega
def Asc.nd{l:aa Int}(h:Asc l):l.Nodup:=by
 rw[x9];exact h.imp λh=>aj
def dV{n:Int}{t:BT}(ho:Ord n 0 t)(hn:n<=12):zZ (bN (bw t []))<=4095/\zZ (lC (bw t []))<=4096/\zZ (bw t [])<=8191:=by
 obtain⟨h1,h2,h3⟩:=L7 (l:=[]) (d:=12) ho aj;simp only[bN,lC]at*;simp at h1 h2 h3;omega
def iG.den{n:Int}{t:BT}{d:aq}(h:iG n t d):Den d.g d.aH t:=by
 have:=iQ (L:=d.aG) (l:=bw t []) (fe t mc) (λx hx=>(h.mem x).2 hx) (cv t []);unfold aq.g;rw[h.nodes,h.root];exact this
def iG.lens{n:Int}{t:BT}{d:aq}(h:iG n t d):zZ d.aG<=zZ (lC (bw t []))/\zZ d.aD=zZ (bN (bw t [])):=by
 constructor
 ·have:=Ri (l:=d.aG) (m:=(lC (bw t [])).map lv) h.asc.nd λx hx=>zC.2 ⟨.leaf x,K9.2 ⟨(h.mem x).1 hx,rfl⟩,rfl⟩;simpa using this
 ·rw[h.nodes,gT]
def iG.arg{n:Int}{t:BT}{d:aq}(h:iG n t d)(ho:Ord n 0 t)(hn:n<=12):Arg n d:=by
 have h1:=h.lens;have h2:=dV ho hn;exact⟨h.v,aj⟩
def uA{n:Int}{f:Int->Int->Int->Int}{d:Nat}{a b c t:BT}(h:AP n f d a b c t):∀{v:Int},Ord n v a->Ord n v b->Ord n v c->v<=n->Ord n v t:=by
 have hcof:∀{v w:Int} {u:BT} {hi:Bool},Ord n w u->v<=u.top n->v<n->Ord n (v+1) (u.rT v hi):=λ{v w u hi} ho hv hn=>by
  cases u with
  |leaf x=>trivial
  |node x p q=>
   obtain⟨h1,h2,h3,h4,h5⟩:=ho;simp only[rT];simp only[top]at hv;by_cases e:x=v
   ·subst e;rw[bO rfl];cases hi
    ·exact h4
    ·exact h5
   ·rw[bP e];exact⟨aj,h2,h3,h4,h5⟩
 induction h with
 |leaf x y z=>intro v _ _ _ _;trivial
 |node w hw hn h0 h1 i0 i1=>
  intro v ha hb hc hv;have g1:=AH ha hv;have g2:=AH hb hv;have g3:=AH hc hv;refine(abC hn (i0 (hcof ha aj hn) (hcof hb aj hn) (hcof hc aj hn) aj) (i1 (hcof ha aj hn) (hcof hb aj hn) (hcof hc aj hn) aj)).le aj
abbrev gh(x:Int):Prop:=kH x=Z
def nE{x:Int}(h:gh x):kH x=Z/\ -1099511627776<=x/\x<=1099511627776:=by
 refine⟨h,?_⟩;unfold gh kH at h;revert h;by_cases h1: -1099511627776<=x
 ·by_cases h2:x<=1099511627776
  ·exact λ_=>⟨h1,h2⟩
  ·simp[h1,h2]
 ·simp[h1]
def eX{x:Int}(h1: -1099511627776<=x)(h2:x<=1099511627776):gh x:=by
 unfold gh kH;simp[h1,h2]
def nw{P:Int->Prop}{G0 G1 G2:Gr}{n:Int}{f:Int->Int->Int->Int}{W:Nat->Int->Int->Int->cR->Bd->af (Int×cR×Bd)}(hW:WK (boM P) G0 G1 G2 n f W){t0 t1 t2 t:BT}(hA:AP n f 12 t0 t1 t2 t){r0 r1 r2:Int}(h0:Den G0 r0 t0)(h1:Den G1 r1 t1)(h2:Den G2 r2 t2)(hP:t.ji P):∃q m' b',(∀k,12<k->W k r0 r1 r2 [] ⟨[],[],[],[],O⟩=M (q,m',b'))/\BI P b'/\Den b'.g q t/\zZ b'.L+zZ b'.N<=10000:=by
 obtain⟨q,m',b',w,hI,_,_,hd,hs⟩:=WG hW hA r0 r1 r2 [] ⟨[],[],[],[],false⟩ h0 h1 h2 (adl P) (λr0 r1 r2 q h=>by rw[kr]at h;cases h) (show 0+2^(12+1)<=1000000000 by decide) hP;exact⟨q,m',b',w,hI,hd,by have:zZ b'.L+zZ b'.N+1<=0+2^(12+1):=hs;omega⟩
def axC{n:Int}{t:BT}{d:aq}(hn:n<=12)(hd:Arg n d)(h:Den d.g d.aH t)(ho:Ord n 0 t)(hP:t.ji gh):∃d',WR d=M (d',0)/\iG n t d':=by
 obtain⟨q,m',b',w,hI,hb,hs⟩:=nw (atq hd (P:=gh)) (af4 (λx _ _=>x) (λx=>rfl) (d:=12) ho aj) h dI dI hP;have e:Vx d.aH 0 0 [] d [] [] [] [] O=M (q,m',d,b'.L,b'.N,b'.mL,b'.mN,b'.w):=dc 13 λk hk=>vG.1 (w k aj);obtain⟨s1,s2,_⟩:=dV ho hn;obtain⟨d',e2,hc⟩:=kE (n:=n) (λx hx=>nE hx) hI aj hb aj aj;refine⟨d',?_,hc⟩;unfold WR;rw[show fQ=([],[],[],[],O)from rfl,e];simp only[hd.v];rw[e2]
def au1{n:Int}{t t':BT}{d:aq}{yes no:Int}(hn:n<=12)(hd:Arg n d)(h:Den d.g d.aH t)(hA:AP n (λx _ _=>if x=1 then yes else no) 12 t (.leaf 0) (.leaf 0) t')(ho:Ord n 0 t')(hP:t'.ji gh):∃d',UZ d yes no=M (d',0,yes,no)/\iG n t' d':=by
 obtain⟨q,m',b',w,hI,hb,hs⟩:=nw (awz (yes:=yes) (no:=no) hd (P:=gh)) hA h dI dI hP;have e:XK d.aH 0 0 [] d [] [] [] [] O yes no=M (q,m',d,b'.L,b'.N,b'.mL,b'.mN,b'.w,yes,no):=dc 13 λk hk=>vP.1 (w k aj);obtain⟨s1,s2,_⟩:=dV ho hn;obtain⟨d',e2,hc⟩:=kE (n:=n) (λx hx=>nE hx) hI aj hb aj aj;refine⟨d',?_,hc⟩;unfold UZ;rw[show fQ=([],[],[],[],O)from rfl,e];simp only[hd.v];rw[e2]
def atj{n:Int}{t t' t2:BT}{d d2:aq}{o:Nat}(hn:n<=12)(hd:Arg n d)(hd2:Arg n d2)(h:Den d.g d.aH t)(h2:Den d2.g d2.aH t2)(hop:∀x∈d.aG,∀y∈d2.aG,∃z,jT o x y=M z)(hA:AP n (λx y _=>(jT o x y).getD 0) 12 t t2 (.leaf 0) t')(ho:Ord n 0 t')(hP:t'.ji gh):∃d',Vy d d2 o=M (d',0,o)/\iG n t' d':=by
 obtain⟨q,m',b',w,hI,hb,hs⟩:=nw (axa hd hd2 hop (P:=gh)) hA h h2 dI hP;have e:WQ d.aH d2.aH 0 [] d d2 [] [] [] [] O o=M (q,m',d,d2,b'.L,b'.N,b'.mL,b'.mN,b'.w,o):=dc 13 λk hk=>vu.1 (w k aj);obtain⟨s1,s2,_⟩:=dV ho hn;obtain⟨d',e2,hc⟩:=kE (n:=n) (λx hx=>nE hx) hI aj hb aj aj;refine⟨d',?_,hc⟩;unfold Vy;rw[show fQ=([],[],[],[],O)from rfl,e];simp only[hd.v];rw[e2]
def an4(x y z:Int):ZY x y z=if x=1 then y else z:=by
 unfold ZY;by_cases h:x=1
 ·rw[l8 h,bO h];rfl
 ·rw[iU h,bP h];rfl
def clp(lo hi x:Int):Int:=if hi<(if x<lo then lo else x)then hi else(if x<lo then lo else x)
def aje(x y z lo hi:Int):Zj x y z lo hi=(clp lo hi x,lo,hi):=rfl
open Classical in
def aaP(d0:aq)(lo:Int)(hi:Int)(k:Nat)(r0 r1 r2:Int)(m:cR)(b:Bd):af (Int×cR×Bd):=match tR k r0 r1 r2 m d0 b.L b.N b.mL b.mN b.w lo hi with
 |some (q,m1,e0,L,N,mL,mN,w,y0,y1)=>if e0=d0/\y0=lo/\y1=hi then M (q,m1,⟨L,N,mL,mN,w⟩)else J
 |none=>J
def vR{d0:aq}{lo:Int}{hi:Int}{k:Nat}{r0 r1 r2:Int}{m:cR}{b:Bd}{q:Int}{m':cR}{b':Bd}:aaP d0 lo hi k r0 r1 r2 m b=M (q,m',b')↔tR k r0 r1 r2 m d0 b.L b.N b.mL b.mN b.w lo hi=M (q,m',d0,b'.L,b'.N,b'.mL,b'.mN,b'.w,lo,hi):=by
 unfold aaP;constructor
 ·intro h;split at h
  ·rename_i hy;split at h
   ·rename_i hb;cases h;rw[hy];simp only[hb]
   ·cases h
  ·cases h
 ·intro h;rw[h];simp
def avs{n:Int}{d0:aq}{lo:Int}{hi:Int}(hd0:Arg n d0){P:Int->Prop}:WK (boM P) d0.g NR NR n (λx _ _=>clp lo hi x) (aaP d0 lo hi) where
 hit:=λk r0 r1 r2 m b q h=>by
  rw[vR];show DS (tR k) r0 r1 r2 m d0 b.L b.N b.mL b.mN b.w lo hi=_;unfold DS;simp only[h,y9,fZ,yE]
 leaf:=λk r0 r1 r2 m b x0 x1 x2 r b' hm g0 g1 g2 hl=>by
  have hl':=l6 hl;obtain⟨rfl,u1⟩:=kA g1;cases u1;obtain⟨rfl,u2⟩:=kA g2;cases u2;have T0:jL d0 r0=M n:=fK hd0 g0;obtain⟨a0,c0,v0⟩:=jc g0;rw[vR];show DS (tR k) r0 0 0 m d0 b.L b.N b.mL b.mN b.w lo hi=_;unfold DS;simp only[dP,hm,yF,T0,hd0.v,jI,mG];rw[bO ⟨a0,c0⟩];simp only[v0,aje];rw[hl']
 node:=λr0 r1 r2 m b t0 t1 t2 v hm g0 g1 g2 hv hn=>by
  obtain⟨rfl,u1⟩:=kA g1;subst u1;obtain⟨rfl,u2⟩:=kA g2;subst u2;have T0:=fK hd0 g0;obtain⟨l0,p0,q0⟩:=fC hd0 g0 hn O;obtain⟨k0,s0,z0⟩:=fC hd0 g0 hn Z;have hmin:eW (t0.top n) n=v:=by
   simp only[ou];rw[hv];simp only[BT.top];omega
  refine⟨l0,0,0,k0,0,0,q0,dI,dI,z0,dI,dI,λk q1 m1 b1 q2 m2 b2 q b3 w1 w2 hq=> ?_⟩;have hq':=uC hq;rw[vR]at w1 w2 ⊢;show DS (tR k) r0 0 0 m d0 b.L b.N b.mL b.mN b.w lo hi=_;unfold DS;have hne:w9 (v=n)=O:=gI;simp only[hm,yF,fO,T0,hd0.v,hmin,hne,p0,s0,w1,w2,hq']
open Classical in
def ab2(d0:aq)(d1:aq)(d2:aq)(k:Nat)(r0 r1 r2:Int)(m:cR)(b:Bd):af (Int×cR×Bd):=match tY k r0 r1 r2 m d0 d1 d2 b.L b.N b.mL b.mN b.w with
 |some (q,m1,e0,e1,e2,L,N,mL,mN,w)=>if e0=d0/\e1=d1/\e2=d2 then M (q,m1,⟨L,N,mL,mN,w⟩)else J
 |none=>J
def Ab{d0 d1 d2:aq}{k:Nat}{r0 r1 r2:Int}{m:cR}{b:Bd}{q:Int}{m':cR}{b':Bd}:ab2 d0 d1 d2 k r0 r1 r2 m b=M (q,m',b')↔tY k r0 r1 r2 m d0 d1 d2 b.L b.N b.mL b.mN b.w=M (q,m',d0,d1,d2,b'.L,b'.N,b'.mL,b'.mN,b'.w):=by
 unfold ab2;constructor
 ·intro h;split at h
  ·rename_i hy;split at h
   ·rename_i hb;cases h;rw[hy];simp only[hb]
   ·cases h
  ·cases h
 ·intro h;rw[h];simp
def awG{n:Int}{d0 d1 d2:aq}(hd0:Arg n d0)(hd1:Arg n d1)(hd2:Arg n d2){P:Int->Prop}:WK (boM P) d0.g d1.g d2.g n (λx y z=>if x=1 then y else z) (ab2 d0 d1 d2) where
 hit:=λk r0 r1 r2 m b q h=>by
  rw[Ab];show Eu (tY k) r0 r1 r2 m d0 d1 d2 b.L b.N b.mL b.mN b.w=_;unfold Eu;simp only[h,y9,fZ,yE]
 leaf:=λk r0 r1 r2 m b x0 x1 x2 r b' hm g0 g1 g2 hl=>by
  have hl':=l6 hl;have T0:jL d0 r0=M n:=fK hd0 g0;obtain⟨a0,c0,v0⟩:=jc g0;have T1:jL d1 r1=M n:=fK hd1 g1;obtain⟨a1,c1,v1⟩:=jc g1;have T2:jL d2 r2=M n:=fK hd2 g2;obtain⟨a2,c2,v2⟩:=jc g2;rw[Ab];show Eu (tY k) r0 r1 r2 m d0 d1 d2 b.L b.N b.mL b.mN b.w=_;unfold Eu;simp only[dP,hm,yF,T0,hd0.v,T1,hd1.v,T2,hd2.v,jI,mG];rw[bO ⟨a0,c0⟩];rw[bO ⟨a1,c1⟩];rw[bO ⟨a2,c2⟩];simp only[v0,v1,v2,an4];rw[hl']
 node:=λr0 r1 r2 m b t0 t1 t2 v hm g0 g1 g2 hv hn=>by
  have T0:=fK hd0 g0;obtain⟨l0,p0,q0⟩:=fC hd0 g0 hn O;obtain⟨k0,s0,z0⟩:=fC hd0 g0 hn Z;have T1:=fK hd1 g1;obtain⟨l1,p1,q1⟩:=fC hd1 g1 hn O;obtain⟨k1,s1,z1⟩:=fC hd1 g1 hn Z;have T2:=fK hd2 g2;obtain⟨l2,p2,q2⟩:=fC hd2 g2 hn O;obtain⟨k2,s2,z2⟩:=fC hd2 g2 hn Z;have hmin:eW (t2.top n) (eW (t1.top n) (eW (t0.top n) n))=v:=by
   simp only[ou];rw[hv];rw[hv]at hn;omega
  refine⟨l0,l1,l2,k0,k1,k2,q0,q1,q2,z0,z1,z2,λk q1 m1 b1 q2 m2 b2 q b3 w1 w2 hq=> ?_⟩;have hq':=uC hq;rw[Ab]at w1 w2 ⊢;show Eu (tY k) r0 r1 r2 m d0 d1 d2 b.L b.N b.mL b.mN b.w=_;unfold Eu;have hne:w9 (v=n)=O:=gI;simp only[hm,yF,fO,T0,hd0.v,T1,hd1.v,T2,hd2.v,hmin,hne,p0,s0,p1,s1,p2,s2,w1,w2,hq']
def Gj(l:aa bu)(hl:zZ l<=1000000):m59 l l=M Z:=by
 obtain⟨v,q,_⟩:=cZ (rnd:=UJ) (zZ l) (λi (_:Unit)=>⟨l,l,(zZ l:Int),(i:Int)⟩) (λ_ _=>True) (λi z hi _=>by
  have i1:(i:Int)<(zZ l:Int):=aj;refine⟨(),?_,trivial⟩;unfold UJ Oz;have e:ak ((i:Int)+1)=((i+1:Nat):Int):=by rw[aI];rfl
  simp only[dS,dP,i1,e,Int.natCast_nonneg,dx]) (λz _=>by unfold UJ Oz;simp) (b:=()) trivial
 unfold m59 Oz;have e:Wi ⟨l,l,(zZ l:Int),0⟩=M ⟨l,l,(zZ l:Int),(zZ l:Int)⟩:=q;simp[e]
def amc{l:aa Int}(h:Asc l){i j:Nat}(hj:j<zZ l)(hij:i<j):l[i]! <l[j]! :=by
 rw[getElem!_pos l i aj,getElem!_pos l j hj];exact wN.1 h i j aj hj hij
def Ti{n:Int}{t:BT}{L:aa Int}(hL:Lv L (bw t []))(ho:Ord n 0 t){i:Nat}(hi:i<zZ (bN (bw t []))):∃v a b,(bN (bw t []))[i]! = .node v a b/\(iD L (bN (bw t [])))[i]! =⟨v,num L (bN (bw t [])) a,num L (bN (bw t [])) b⟩/\a∈bw t []/\b∈bw t []/\a≠b/\0<=v/\v<n/\v<a.top n/\v<b.top n/\(∀c,(c=a\/c=b)->0<=num L (bN (bw t [])) c/\num L (bN (bw t [])) c<(zZ L:Int)+(i:Int))/\num L (bN (bw t [])) a≠num L (bN (bw t [])) b:=by
 have hcl:Cl (bw t []):=fe t mc;have hnd:(bw t []).Nodup:=qC t xg;have hNd:(bN (bw t [])).Nodup:=hnd.sublist wM;obtain⟨v,a,b,e,hm⟩:=Jr (mem_get! hi);obtain⟨ha,hb⟩:=hcl.parts hm;have hsub:(BT.node v a b).Sub t:=by
  rcases gx hm with h|h
  ·cases h
  ·exact h
 obtain⟨g1,g2,g3,g4,g5⟩:=hsub.ord ho;have hft:(iD L (bN (bw t [])))[i]! =⟨v,num L (bN (bw t [])) a,num L (bN (bw t [])) b⟩:=by
  unfold iD;rw[map_get! _ hi,e];rfl
 refine⟨v,a,b,e,hft,ha,hb,g3,g1,g2,by have:=AH g4 aj;omega,by have:=AH g5 aj;omega,λc hc=> ?_,λh=>g3 (lW hcl hL ha hb h)⟩;have hcm:c∈bw t []:=by rcases hc with h|h<;>rw[h]<;>assumption
 cases c with
 |leaf x=>
  have h':L.idxOf x<zZ L:=yz (hL x hcm);simp only[num];omega
 |node v' a' b'=>
  obtain⟨h1,h2⟩:=Fp hcl hnd hm hc rfl;rw[<-e,uG hNd hi]at h2;simp only[num];omega
def Y4{n:Int}{t:BT}{d:aq}(hn:n<=12)(h:iG n t d)(ho:Ord n 0 t)(hP:t.ji gh):ai8 d=M Z:=by
 have ha:=h.arg ho hn;have hl:=h.lens;obtain⟨s1,s2,s3⟩:=dV ho hn;have hLv:Lv d.aG (bw t []):=λx hx=>(h.mem x).2 hx;have hcl:Cl (bw t []):=fe t mc;have hnd:(bw t []).Nodup:=qC t xg;have hlin:∀i,i<zZ d.aG->kH d.aG[i]! =Z:=λi hi=>by
  have hm:=(h.mem _).1 (mem_get! hi);rcases gx hm with h2|h2
  ·cases h2
  ·exact h2.all hP
 obtain⟨_,e0,_⟩:=cZ (rnd:=LA) (zZ d.aG) (λi (_:Unit)=>⟨d.aG,(zZ d.aG:Int),(i:Int),d⟩) (λ_ _=>True) (λi _ hi _=>by
  have i1:(i:Int)<(zZ d.aG:Int):=aj;have i2:(0:Int)<=(i:Int):=aj;have hw2:ak ((i:Int)+1)=((i+1:Nat):Int):=jy hi aj;refine⟨(),?_,trivial⟩;unfold LA FO;simp only[dS,i1,i2,fZ,dx,hw2,hlin i hi];by_cases h0:(0:Int)<(i:Int)
  ·have hwm:ak ((i:Int)-1)=((i-1:Nat):Int):=by rw[aI];omega
   have i3:(0:Int)<=((i-1:Nat):Int)/\((i-1:Nat):Int)<(zZ d.aG:Int):=aj;have hlt:=amc h.asc hi (show i-1<i by omega);have hle:w9 (d.aG[i]!<=d.aG[i-1]!)=O:=gI;simp only[dS,dP,h0,hwm,i3,dx,hle]
  ·simp only[h0,mF,fO]) (λ_ _=>by unfold LA FO;simp) (b:=()) trivial
 have e0':LB ⟨d.aG,(zZ d.aG:Int),0,d⟩=M ⟨d.aG,(zZ d.aG:Int),(zZ d.aG:Int),d⟩:=e0;have hdN:d.aD.Nodup:=by rw[h.nodes];exact acK hcl hLv hnd
 obtain⟨sn,e1,_⟩:=cZ (rnd:=J2) (zZ d.aD) (λi (s:aa ((Int×Int×Int)×Bool))=>⟨s,d.aD,(zZ d.aD:Int),(i:Int),d⟩) (λi s=>∀v p q,(ei s (v,p,q)).getD O=Z->∃j,j<i/\d.aD[j]! =⟨v,p,q⟩) (λi s hi hI=>by
  have i1:(i:Int)<(zZ d.aD:Int):=aj;have i2:(0:Int)<=(i:Int):=aj;have hw2:ak ((i:Int)+1)=((i+1:Nat):Int):=jy hi aj;obtain⟨v,a,b,e,hf,ma,mb,hab,hv0,hvn,hta,htb,hnum,hne⟩:=Ti hLv ho (show i<zZ (bN (bw t [])) by omega);rw[<-h.nodes]at hf;have da:Den d.g (num d.aG (bN (bw t [])) a) a:=by have:=iQ hcl hLv ma;rw[<-h.nodes]at this;exact this
  have db:Den d.g (num d.aG (bN (bw t [])) b) b:=by have:=iQ hcl hLv mb;rw[<-h.nodes]at this;exact this
  have ta:=fK ha da;have tb:=fK ha db;obtain⟨na1,na2⟩:=hnum a (.inl rfl);obtain⟨nb1,nb2⟩:=hnum b (.inr rfl);generalize num d.aG (bN (bw t [])) a=x at*;generalize num d.aG (bN (bw t [])) b=y at*;have hws:ak ((zZ d.aG:Int)+(i:Int))=(zZ d.aG:Int)+(i:Int):=aI;have c1:w9 (x<0)=O:=gI;have c2:w9 ((zZ d.aG:Int)+(i:Int)<=x)=O:=gI;have c3:w9 (y<0)=O:=gI;have c4:w9 ((zZ d.aG:Int)+(i:Int)<=y)=O:=gI;have c5:w9 (x=y)=O:=iU hne;have c6:w9 (v<0)=O:=gI;have c7:w9 (a.top n<=v)=O:=gI;have c8:w9 (b.top n<=v)=O:=gI;have c9:(ei s (v,x,y)).getD O=O:=by
   cases e9:(ei s (v,x,y)).getD false with
   |false=>rfl
   |true=>
    obtain⟨j,hj,hj2⟩:=hI v x y e9;rw[<-hf]at hj2;have:=nd_get! hdN aj hi hj2;omega
  refine⟨gB s (v,x,y) Z,?_,λv' p' q' h'=> ?_⟩
  ·unfold J2 DV;simp only[dS,dP,i1,i2,dx,hf,hws,c1,c2,c3,c4,c5,c6,c9,ta,tb,c7,c8,hw2]
  ·rw[eG]at h';split at h'
   ·rename_i e2;cases e2;exact⟨i,aj,hf⟩
   ·obtain⟨j,hj,hj2⟩:=hI v' p' q' h';exact⟨j,aj,hj2⟩) (λ_ _=>by unfold J2 DV;simp) (b:=[]) (λv p q h=>by rw[kr]at h;cases h)
 have e1':KJ ⟨[],d.aD,(zZ d.aD:Int),0,d⟩=M ⟨sn,d.aD,(zZ d.aD:Int),(zZ d.aD:Int),d⟩:=e1;obtain⟨d',e2,hc⟩:=axC hn ha h.den ho hP;have hdd:=hc.eq h;subst hdd;have hroot:=Sn (l:=bw t []) hLv (cv t []);rw[<-h.root]at hroot;have hws:ak ((zZ d'.aG:Int)+(zZ d'.aD:Int))=(zZ d'.aG:Int)+(zZ d'.aD:Int):=aI;have c1:w9 (d'.aH<0)=O:=gI;have c2:w9 ((zZ d'.aG:Int)+(zZ d'.aD:Int)<=d'.aH)=O:=gI;unfold ai8 FO DV;simp only[dS,dP,e0',zO,e1',hws,c1,c2,e2,OF d'.aG aj,Gj d'.aD aj]
def kQ{n:Int}{t:BT}{d:aq}(h0:0<=n)(hn:n<=12)(h:iG n t d)(ho:Ord n 0 t)(hP:t.ji gh):afi d=M 0:=by
 have hl:=h.lens;obtain⟨s1,s2,s3⟩:=dV ho hn;have c1:w9 (d.ah<0)=O:=iU (by rw[h.v];omega);have c2:w9 ((40:Int)<d.ah)=O:=iU (by rw[h.v];omega);have c3:w9 ((4096:Int)<(zZ d.aG:Int))=O:=gI;have c4:w9 ((4096:Int)<(zZ d.aD:Int))=O:=gI;unfold afi;simp only[dP,c1,c2,c3,c4,Y4 hn h ho hP]
def nW(l:aa aq)(n:Int)(hl:zZ l<=1000)(h0:l≠[])(h:∀d∈l,afi d=M 0/\d.ah=n):Ta l=M 0:=by
 have hpos:=wT.2 h0;obtain⟨_,e0,_⟩:=cZ (rnd:=JC) (zZ l) (λi (_:Unit)=>⟨l,l,(zZ l:Int),(i:Int)⟩) (λ_ _=>True) (λi _ hi _=>by
  have i1:(i:Int)<(zZ l:Int):=aj;have i2:(0:Int)<=(i:Int):=aj;have hw2:ak ((i:Int)+1)=((i+1:Nat):Int):=jy hi aj;refine⟨(),?_,trivial⟩;unfold JC Fj;simp only[dS,dP,i1,i2,dx,hw2,(h _ (mem_get! hi)).1]) (λ_ _=>by unfold JC Fj;simp) (b:=()) trivial
 have e0':Lb ⟨l,l,(zZ l:Int),0⟩=M ⟨l,l,(zZ l:Int),(zZ l:Int)⟩:=e0;obtain⟨_,e1,_⟩:=cZ (rnd:=LV) (zZ l) (λi (_:Unit)=>⟨l,l,(zZ l:Int),(i:Int)⟩) (λ_ _=>True) (λi _ hi _=>by
  have i1:(i:Int)<(zZ l:Int):=aj;have i2:(0:Int)<=(i:Int):=aj;have i3:(0:Int)<=(0:Int)/\(0:Int)<(zZ l:Int):=aj;have hw2:ak ((i:Int)+1)=((i+1:Nat):Int):=jy hi aj;refine⟨(),?_,trivial⟩;unfold LV GF;simp only[dS,dP,i1,i2,i3,dx,hw2,(h _ (mem_get! hi)).2,(h _ (mem_get! hpos)).2]) (λ_ _=>by unfold LV GF;simp) (b:=()) trivial
 have e1':LQ ⟨l,l,(zZ l:Int),0⟩=M ⟨l,l,(zZ l:Int),(zZ l:Int)⟩:=e1;unfold Ta Fj GF;simp only[e0',e1',zO,mF,fO]
end Go.Proofs.YtghilkcphindjaaGreat
namespace Go.Proofs.YtghilkcphindjaaGreat
open Go Go.Iv
open Go.IntKind (i64 u64)
open BT
structure WKn {β:Type} {P:Int->Prop} (o:BO β P) (nil:β->Prop) (G0 G1 G2:Gr) (n:Int) (f:Int->Int->Int->Int) (R:Int->Int->Int->cR->β->Option (Int×cR×β)) (W:Nat->Int->Int->Int->cR->β->Option (Int×cR×β)):Prop where
 hit:∀k r0 r1 r2 m b q,nil b->ei m (r0,r1,r2)=M q->W (k+1) r0 r1 r2 m b=M (q,m,b)
 leaf:∀k r0 r1 r2 m b x0 x1 x2 r b',nil b->ei m (r0,r1,r2)=J->Den G0 r0 (.leaf x0)->Den G1 r1 (.leaf x1)->Den G2 r2 (.leaf x2)->P (f x0 x1 x2)->o.lf (f x0 x1 x2) b=M (r,b')->W (k+1) r0 r1 r2 m b=M (r,gB m (r0,r1,r2) r,b')
 node:∀r0 r1 r2 m b t0 t1 t2 v,nil b->ei m (r0,r1,r2)=J->Den G0 r0 t0->Den G1 r1 t1->Den G2 r2 t2->v=min (t0.top n) (min (t1.top n) (t2.top n))->v<n->∃l0 l1 l2 h0 h1 h2,Den G0 l0 (t0.rT v O)/\Den G1 l1 (t1.rT v O)/\Den G2 l2 (t2.rT v O)/\Den G0 h0 (t0.rT v Z)/\Den G1 h1 (t1.rT v Z)/\Den G2 h2 (t2.rT v Z)/\∀k q1 m1 b1 q2 m2 b2 q b3,W k l0 l1 l2 m b=M (q1,m1,b1)->R h0 h1 h2 m1 b1=M (q2,m2,b2)->o.nd v q1 q2 b2=M (q,b3)->W (k+1) r0 r1 r2 m b=M (q,gB m2 (r0,r1,r2) q,b3)
def O3{β:Type}{P:Int->Prop}{o:BO β P}{G0 G1 G2:Gr}{n:Int}{f:Int->Int->Int->Int}{nil:β->Prop}{R:Int->Int->Int->cR->β->af (Int×cR×β)}{W' W:Nat->Int->Int->Int->cR->β->af (Int×cR×β)}(hW':WK o G0 G1 G2 n f W')(hR:∀N r0 r1 r2 m b x,(∀k,N<k->W' k r0 r1 r2 m b=M x)->R r0 r1 r2 m b=M x)(hW:WKn o nil G0 G1 G2 n f R W){d:Nat}{t0 t1 t2 t:BT}(hA:AP n f d t0 t1 t2 t):∀(r0 r1 r2:Int) (m:cR) (b:β),nil b->Den G0 r0 t0->Den G1 r1 t1->Den G2 r2 t2->o.I b->MI o G0 G1 G2 n f m b->o.s b+2^(d+1)<=1000000000->t.ji P->∃q m' b',(∀k,d<k->W k r0 r1 r2 m b=M (q,m',b'))/\o.I b'/\MI o G0 G1 G2 n f m' b'/\(o.g b).Le (o.g b')/\Den (o.g b') q t/\o.s b'+1<=o.s b+2^(d+1):=by
 have hhit:∀{d:Nat} {t0 t1 t2 t:BT},AP n f d t0 t1 t2 t->∀(r0 r1 r2:Int) (m:cR) (b:β),nil b->Den G0 r0 t0->Den G1 r1 t1->Den G2 r2 t2->o.I b->MI o G0 G1 G2 n f m b->ei m (r0,r1,r2)≠J->∃q m' b',(∀k,d<k->W k r0 r1 r2 m b=M (q,m',b'))/\o.I b'/\MI o G0 G1 G2 n f m' b'/\(o.g b).Le (o.g b')/\Den (o.g b') q t/\o.s b'+1<=o.s b+2^(d+1):=by
  intro d t0 t1 t2 t hA r0 r1 r2 m b hz h0 h1 h2 hI hM hm;cases e:ei m (r0,r1,r2)with
  |none=>exact iy e hm
  |some q=>
   obtain⟨u0,u1,u2,u,d',e0,e1,e2,e3,e4⟩:=hM _ _ _ _ e;rw[<-h0.oU e0,<-h1.oU e1,<-h2.oU e2]at e3;rw[<-hA.oU e3]at e4;refine⟨q,m,b,λk hk=> ?_,hI,hM, .refl,e4,?_⟩
   ·obtain⟨k,rfl⟩:∃j,k=j+1:=⟨k-1,aj⟩;exact hW.hit k r0 r1 r2 m b q hz e
   ·have:0<2^(d+1):=yV aj;omega
 induction hA with
 |@leaf d x y z=>
  intro r0 r1 r2 m b hz h0 h1 h2 hI hM hs hP;by_cases hm:ei m (r0,r1,r2)=J
  ·have hp:0<2^d:=yV aj;obtain⟨r,b',e,i',l',d',s'⟩:=o.su (f x y z) b hP hI aj;refine⟨r,_,b',λk hk=> ?_,i',(hM.le l').put h0 h1 h2 (.leaf (d:=d) x y z) d',l',d',aj⟩;obtain⟨k,rfl⟩:∃j,k=j+1:=⟨k-1,aj⟩;exact hW.leaf k r0 r1 r2 m b x y z r b' hz hm h0 h1 h2 hP e
  ·exact hhit (.leaf x y z) r0 r1 r2 m b hz h0 h1 h2 hI hM hm
 |@node d a b' c r s v hv hn a0 a1 i0 i1=>
  intro r0 r1 r2 m b hz h0 h1 h2 hI hM hs hP;by_cases hm:ei m (r0,r1,r2)=J
  ·obtain⟨l0,l1,l2,k0,k1,k2,e0,e1,e2,e3,e4,e5,hw⟩:=hW.node r0 r1 r2 m b _ _ _ v hz hm h0 h1 h2 hv hn;have hp:0<2^(d+1):=yV aj;obtain⟨P0,P1⟩:=Mi hP;obtain⟨q1,m1,b1,w1,I1,M1,L1,D1,S1⟩:=i0 l0 l1 l2 m b hz e0 e1 e2 hI hM aj P0;obtain⟨q2,m2,b2,w2,I2,M2,L2,D2,S2⟩:=WG hW' a1 k0 k1 k2 m1 b1 e3 e4 e5 I1 M1 aj P1;obtain⟨q,b3,w3,I3,L3,D3,S3⟩:=o.mH v q1 q2 _ _ b2 I2 aj (D1.mono L2) D2;refine⟨q,_,b3,λk hk=> ?_,I3,(M2.le L3).put h0 h1 h2 (.node v hv hn a0 a1) D3,(L1.trans L2).trans L3,D3,aj⟩;obtain⟨k,rfl⟩:∃j,k=j+1:=⟨k-1,aj⟩;exact hw k q1 m1 b1 q2 m2 b2 q b3 (w1 k aj) (hR d _ _ _ _ _ _ w2) w3
  ·exact hhit (.node v hv hn a0 a1) r0 r1 r2 m b hz h0 h1 h2 hI hM hm
def nV:aa BT:=[.leaf 0, .leaf 1]
def aqg:Cl nV:=λm v a b k e=>by
 have h:BT.node v a b∈nV:=by rw[e];simp
 simp[nV]at h
structure YKn (G:Gr) (R:Int->ga->List bu->Option (Int×ga×List bu)) (Y:Nat->Int->ga->Option (Int×ga×List bu)):Prop where
 hit:∀k r S q,ei S r=M q->Y (k+1) r S=M (q,S,[])
 node:∀k r S v a b q1 S1 N1 q2 S2 N2,ei S r=J->G r=M (.inr (v,a,b))->Y k a S=M (q1,S1,N1)->R b S1 N1=M (q2,S2,N2)->zZ N2<1000000000->Y (k+1) r S=M (((2+zZ N2:Nat):Int),gB S2 r ((2+zZ N2:Nat):Int),N2++[⟨v,q1,q2⟩])
def aiY{G:Gr}(hG:G.Inj){R:Int->ga->aa bu->af (Int×ga×aa bu)}{Y':Nat->Int->ga->aa bu->af (Int×ga×aa bu)}{Y:Nat->Int->ga->af (Int×ga×aa bu)}(hY':YK G Y')(hR:∀N r S zf x,(∀k,N<=k->Y' k r S zf=M x)->R r S zf=M x)(hY:YKn G R Y):∀{t:BT} {r:Int},Den G r t->∀{S:ga},Lv [0,1] (bw t nV)->SI G nV S->zZ (bN (bw t nV))<=1000000000->∃S',SI G (bw t nV) S'/\∀k,t.sz<=k->Y k r S=M (num [0,1] (bN (bw t nV)) t,S',iD [0,1] (bN (bw t nV))):=by
 have hhit:∀{t:BT} {r:Int},Den G r t->∀{S:ga},SI G nV S->t∈nV->∃S',SI G (bw t nV) S'/\∀k,t.sz<=k->Y k r S=M (num [0,1] (bN (bw t nV)) t,S',iD [0,1] (bN (bw t nV))):=by
  intro t r hd S hS ht;rw[lQ aqg ht];refine⟨S,hS,λk hk=> ?_⟩;obtain⟨k,rfl⟩:∃j,k=j+1:=⟨k-1,by cases t<;>simp only[sz]at hk<;>omega⟩;rw[hY.hit k r S _ (by rw[hS r t hd,bO ht])];rfl
 intro t;induction t with
 |leaf x=>
  intro r hd S hL hS _;refine hhit hd hS ?_;have:=hL x (cv _ _);simp only[zk,yD,or_false]at this;rcases this with h|h
  ·rw[h];simp[nV]
  ·rw[h];simp[nV]
 |node v a b ia ib=>
  intro r hd S hL hS hn;by_cases ht:BT.node v a b∈nV
  ·simp_all
  ·cases hd with
   |@node _ _ p q _ _ hr hp hq=>
    have hd':Den G r (.node v a b):= .node hr hp hq;have hsub:∀u∈bw b (bw a nV),u∈bw (.node v a b) nV:=λu hu=>by
     unfold bw;split
     ·exact hu
     ·exact ye _ hu
    have hnin:BT.node v a b∉bw b (bw a nV):=λhx=>by
     rcases gx hx with hx|hx
     ·rcases gx hx with hx|hx
      ·grind
      ·have:=hx.sC;simp only[sz]at this;omega
     ·have:=hx.sC;simp only[sz]at this;omega
    have hde:bw (.node v a b) nV=bw b (bw a nV)++[.node v a b]:=by
     conv=>lhs;unfold bw
     rw[bP hnin]
    have hnl:zZ (bN (bw (.node v a b) nV))=zZ (bN (bw b (bw a nV)))+1:=by
     rw[hde,fA,zu];rfl
    have hc1:=fe a aqg;have hc2:=fe b hc1;have p1:=MG b (bw a nV);obtain⟨S1,hS1,w1⟩:=ia hp (λx hx=>hL x (hsub _ (iR _ _ hx))) hS aj;obtain⟨S2,hS2,w2⟩:=ave hG hY' hq hc1 (λx hx=>hL x (hsub _ hx)) (iR _ _ (by simp[nV])) (iR _ _ (by simp[nV])) hS1 aj;have ha2:a∈bw b (bw a nV):=iR _ _ (cv _ _);have hb2:b∈bw b (bw a nV):=cv _ _;have hnum:num [0,1] (bN (bw (.node v a b) nV)) (.node v a b)=((2+zZ (iD [0,1] (bN (bw b (bw a nV)))):Nat):Int):=by
     rw[hde,fA,gT];simp only[num];rw[wB,bP λh=>hnin (dL.1 h).1,wY];simp
    refine⟨gB S2 r ((2+zZ (iD [0,1] (bN (bw b (bw a nV)))):Nat):Int),?_,λk hk=> ?_⟩
    ·intro r' u hu;rw[eG];by_cases e:r'=r
     ·subst e;have:=hu.oU hd';subst this;rw[bO rfl,bO (cv _ _),hnum]
     ·have hne:u≠ .node v a b:=λe2=>e (by subst e2;exact hu.inj hG hd');rw[bP e,hS2 r' u hu,hde];by_cases hm:u∈bw b (bw a nV)
      ·rw[bO hm,bO (ye _ hm),Bh,Dg λh=>dL.2 ⟨hm,h⟩]
      ·rw[bP hm,bP];simp_all
    ·obtain⟨k,rfl⟩:∃j,k=j+1:=⟨k-1,by simp only[sz]at hk;omega⟩;simp only[sz]at hk;have hnone:ei S r=J:=by rw[hS r _ hd',bP ht]
     rw[hY.node k r S v p q _ _ _ _ _ _ hnone hr (w1 k aj) (hR _ _ _ _ _ w2) (by rw[gT];omega),hnum,hde,uY hc2 ha2 hb2,vY (cv a nV) b]
end Go.Proofs.YtghilkcphindjaaGreat
namespace Go.Proofs.YtghilkcphindjaaGreat
open Go Go.Iv BT
abbrev j7:aa Int:=[0,1]
abbrev zo(x:Int):Prop:=x=0\/x=1
structure Bb where
 N:List bu
 m:cR
def Bb.g(b:Bb):Gr:=Gm j7 b.N
def iA{N:aa bu}{r x:Int}:Gm j7 N r=M (.inl x)↔zo x/\r=x:=by
 constructor
 ·intro h;obtain⟨h1,h2,h3⟩:=Ll h;simp at h2;have:r=0\/r=1:=aj;rcases this with rfl|rfl
  ·exact⟨.inl h3.symm,h3⟩
  ·exact⟨.inr h3.symm,h3⟩
 ·rintro⟨h|h,rfl⟩<;>subst h<;>rfl
def eM{N:aa bu}{r v p q:Int}:Gm j7 N r=M (.inr (v,p,q))↔∃k:Nat,r=2+(k:Int)/\N[k]? =M ⟨v,p,q⟩:=by
 constructor
 ·intro h;obtain⟨h1,h2,h3⟩:=Kz h;simp at h1 h2 h3;refine⟨(r-2).toNat,aj,?_⟩;rw[zD (by omega:(r-2).toNat<zZ N),<-getElem!_pos N _ aj];simp[h3]
 ·rintro⟨k,rfl,h⟩;obtain⟨h1,h2⟩:=get_some h;have:=VF (L:=j7) h1;simp_all
structure BIb (b:Bb):Prop where
 n:∀v p q i,ei b.m (v,p,q)=M i↔∃k:Nat,i=2+(k:Int)/\b.N[k]? =M ⟨v,p,q⟩
def BIb.inj{b:Bb}(h:BIb b):b.g.Inj:=by
 intro r r' x h1 h2;cases x with
 |inl x=>rw[(iA.1 h1).2,(iA.1 h2).2]
 |inr x=>
  obtain⟨v,p,q⟩:=x;have a:=(h.n v p q r).2 (eM.1 h1);rw[(h.n v p q r').2 (eM.1 h2)]at a;simp_all
def af5{N:aa bu}(hn:N.Nodup):(Gm j7 N).Inj:=by
 intro r r' x h1 h2;cases x with
 |inl x=>rw[(iA.1 h1).2,(iA.1 h2).2]
 |inr x=>
  obtain⟨k,rfl,e⟩:=eM.1 h1;obtain⟨k',rfl,e'⟩:=eM.1 h2;obtain⟨g1,g2⟩:=get_some e;obtain⟨g3,g4⟩:=get_some e';have:=nd_get! hn g1 g3 (by rw[g2,g4]);omega
def Bb.nd(v p q:Int)(b:Bb):af (Int×Bb):=(O6 v p q b.N b.m).map λr=>(r.1,⟨r.2.1,r.2.2⟩)
def vU{v p q r:Int}{b b':Bb}(h:b.nd v p q=M (r,b')):O6 v p q b.N b.m=M (r,b'.N,b'.m):=by
 obtain⟨y,h1,h2⟩:=zj.1 h;cases h2;exact h1
def Bb.mH(v p q:Int)(s t:BT)(b:Bb)(hb:BIb b)(hs:zZ b.N<1000000000)(hp:Den b.g p s)(hq:Den b.g q t):∃r b',b.nd v p q=M (r,b')/\BIb b'/\b.g.Le b'.g/\Den b'.g r (lS v s t)/\zZ b'.N<=zZ b.N+1:=by
 unfold Bb.nd O6;by_cases hpq:p=q
 ·have:s=t:=by subst hpq;exact hp.oU hq
  rw[l8 hpq];exact⟨p,b,rfl,hb, .refl,by rw[show lS v s t=s by simp[lS,this]];exact hp,yc _⟩
 ·have hst:s≠t:=λh=>hpq (by subst h;exact hp.inj hb.inj hq);have hm:lS v s t= .node v s t:=by simp[lS,hst]
  rw[iU hpq,hm];cases e:ei b.m (v,p,q)with
  |some i=>
   exact⟨_,_,rfl,hb, .refl, .node (eM.2 ((hb.n v p q i).1 e)) hp hq,yc _⟩
  |none=>
   have hw:ak (ak (2+(zZ (b.N++[bu.mk v p q]):Int))-1)=2+(zZ b.N:Int):=by
    have:(zZ (b.N++[bu.mk v p q]):Int)=(zZ b.N:Int)+1:=by simp
    rw[this,aI (n:=2+((zZ b.N:Int)+1)),aI];omega
   rw[bO (by simp;omega),hw,eG,bO rfl];have hle:b.g.Le (Bb.mk (b.N++[⟨v,p,q⟩]) (gB b.m (v,p,q) (2+(zZ b.N:Int)))).g:=by
    intro r x h;cases x with
    |inl x=>exact iA.2 (iA.1 h)
    |inr x=>
     obtain⟨k,e,h1⟩:=eM.1 h;exact eM.2 ⟨k,e,ek.2 (.inl h1)⟩
   refine⟨_,_,rfl,⟨?_⟩,hle, .node (eM.2 ⟨_,rfl,ek.2 (.inr ⟨rfl,rfl⟩)⟩) (hp.mono hle) (hq.mono hle),by simp⟩;intro v' p' q' i;rw[eG];by_cases hy:(v',p',q')=(v,p,q)
   ·cases hy;rw[bO rfl];constructor
    ·intro h;cases h;exact⟨_,rfl,ek.2 (.inr ⟨rfl,rfl⟩)⟩
    ·rintro⟨k,rfl,h⟩;rcases ek.1 h with h|⟨h,_⟩
     ·have:=(hb.n v p q _).2 ⟨k,rfl,h⟩;rw[e]at this;cases this
     ·rw[h]
   ·rw[bP hy,hb.n];constructor
    ·rintro⟨k,h1,h2⟩;exact⟨k,h1,ek.2 (.inl h2)⟩
    ·rintro⟨k,h1,h2⟩;rcases ek.1 h2 with h|⟨_,h⟩
     ·exact⟨k,h1,h⟩
     ·simp_all
def boB:BO Bb zo where
 I:=BIb
 g:=Bb.g
 s:=λb=>zZ b.N
 lf:=λx b=>M (x,b)
 nd:=λv p q b=>b.nd v p q
 su:=λx b hx hb _=>⟨x,b,rfl,hb, .refl, .leaf (iA.2 ⟨hx,rfl⟩),yc _⟩
 mH:=λv p q s t b hb hs hp hq=>Bb.mH v p q s t b hb hs hp hq
def X4:BIb ⟨[],[]⟩:=⟨λv p q i=>by simp[kr]⟩
structure J3 (n:Int) (d:cz):Prop where
 v:d.ah=n
 s:zZ d.aD<=1000000000
abbrev cz.g(d:cz):Gr:=Gm j7 d.aD
def rN{n:Int}{d:cz}(hd:J3 n d){r:Int}{u:BT}(h:Den d.g r u):nI d r=M (u.top n):=by
 have hs:=hd.s;unfold nI;cases h with
 |@leaf _ x h=>
  obtain⟨h1,rfl⟩:=iA.1 h;have e:w9 (r<2)=true:=l8 (by rcases h1 with h|h<;>omega);rw[e,hd.v];rfl
 |node h ha hb=>
  obtain⟨k,rfl,hk⟩:=eM.1 h;obtain⟨h1,h2⟩:=get_some hk;have e:w9 (2+(k:Int)<2)=O:=gI;rw[e,aI,show 2+(k:Int)-2=(k:Int)by omega];rw[Dx,zw,h2];rfl
def oJ{n:Int}{d:cz}(hd:J3 n d){r:Int}{u:BT}(h:Den d.g r u){v:Int}(hv:v<n)(hi:Bool):∃r',rP d r v hi=M r'/\Den d.g r' (u.rT v hi):=by
 have hs:=hd.s;cases h with
 |@leaf _ x h=>
  have ht:nI d r=M n:=rN hd (.leaf h);unfold rP;rw[ht];refine⟨r,?_, .leaf h⟩;have e:w9 (n=v)=O:=gI;simp only;rw[e];rfl
 |@node _ w p q s t h ha hb=>
  have ht:nI d r=M w:=rN hd (.node h ha hb);unfold rP;rw[ht];simp only[rT];obtain⟨k,rfl,hk⟩:=eM.1 h;obtain⟨h1,h2⟩:=get_some hk;by_cases e:w=v
  ·rw[l8 e,bO e,aI,show 2+(k:Int)-2=(k:Int)by omega];simp only[dP];rw[zw,h2];have hr:(0:Int)<=(k:Int)/\(k:Int)<(zZ d.aD:Int):=aj;cases hi
   ·exact⟨p,by simp only[fO,bO hr],ha⟩
   ·exact⟨q,by simp only[fZ,bO hr],hb⟩
  ·rw[iU e,bP e];exact⟨2+(k:Int),rfl, .node h ha hb⟩
def HJ{d:cz}{r x:Int}(h:Den d.g r (.leaf x)):zo x/\r=x:=by
 cases h with
 |leaf h=>exact iA.1 h
def Kk(o x y:Int):Int:=if(CN (w9 (x=1)) (w9 (y=1)) O o).1 then 1 else 0
def av3(o x y:Int):zo (Kk o x y):=by
 unfold Kk;omega
open Classical in
def WA(n:Int)(d0 d1:cz)(o:Int)(k:Nat)(r0 r1 r2:Int)(m:cR)(b:Bb):af (Int×cR×Bb):=match sQ k r0 r1 r2 m n d0 d1 o b.N b.m with
 |some (q,m1,y,e0,e1,y0,N,mN)=>if y=n/\e0=d0/\e1=d1/\y0=o then M (q,m1,⟨N,mN⟩)else J
 |none=>J
def Wx{n:Int}{d0 d1:cz}{o:Int}{k:Nat}{r0 r1 r2:Int}{m:cR}{b:Bb}{q:Int}{m':cR}{b':Bb}:WA n d0 d1 o k r0 r1 r2 m b=M (q,m',b')↔sQ k r0 r1 r2 m n d0 d1 o b.N b.m=M (q,m',n,d0,d1,o,b'.N,b'.m):=by
 unfold WA;constructor
 ·grind
 ·simp_all
open Classical in
def WAn(n:Int)(d0 d1:cz)(o:Int)(k:Nat)(r0 r1 r2:Int)(m:cR)(b:Bb):af (Int×cR×Bb):=match n9 k r0 r1 r2 m n d0 d1 o b.m with
 |some (q,m1,y,e0,e1,y0,N,mN)=>if y=n/\e0=d0/\e1=d1/\y0=o then M (q,m1,⟨N,mN⟩)else J
 |none=>J
def Ma{n:Int}{d0 d1:cz}{o:Int}{k:Nat}{r0 r1 r2:Int}{m:cR}{b:Bb}{q:Int}{m':cR}{b':Bb}:WAn n d0 d1 o k r0 r1 r2 m b=M (q,m',b')↔n9 k r0 r1 r2 m n d0 d1 o b.m=M (q,m',n,d0,d1,o,b'.N,b'.m):=by
 unfold WAn;constructor
 ·grind
 ·simp_all
open Classical in
def RA(n:Int)(d0 d1:cz)(o:Int)(r0 r1 r2:Int)(m:cR)(b:Bb):af (Int×cR×Bb):=match O4 r0 r1 r2 m n d0 d1 o b.N b.m with
 |some (q,m1,y,e0,e1,y0,N,mN)=>if y=n/\e0=d0/\e1=d1/\y0=o then M (q,m1,⟨N,mN⟩)else J
 |none=>J
def aqI{n:Int}{d0 d1:cz}{o:Int}{r0 r1 r2:Int}{m:cR}{b:Bb}{q:Int}{m':cR}{b':Bb}:RA n d0 d1 o r0 r1 r2 m b=M (q,m',b')↔O4 r0 r1 r2 m n d0 d1 o b.N b.m=M (q,m',n,d0,d1,o,b'.N,b'.m):=by
 unfold RA;constructor
 ·grind
 ·simp_all
def acO(a c:Bool)(o:Int):(CN a c false o).2=o:=by cases a<;>cases c<;>rfl
def min2{a c n v:Int}(hv:v=min a (min c n)):eW c (eW a n)=v:=by
 simp only[ou];omega
def agA{α:Type}(o x y:Int)(g:Int->α):(bif(CN (w9 (x=1)) (w9 (y=1)) O o).1 then g 1 else g 0)=g (Kk o x y):=by
 unfold Kk;grind
def wkA{n:Int}{d0 d1:cz}{o:Int}(hd0:J3 n d0)(hd1:J3 n d1):WK boB d0.g d1.g NR n (λx y _=>Kk o x y) (WA n d0 d1 o) where
 hit:=λk r0 r1 r2 m b q h=>by
  rw[Wx];show G6 (sQ k) r0 r1 r2 m n d0 d1 o b.N b.m=_;unfold G6;simp_all
 leaf:=λk r0 r1 r2 m b x0 x1 x2 r b' hm g0 g1 g2 hl=>by
  have T0:nI d0 r0=M n:=rN hd0 g0;have T1:nI d1 r1=M n:=rN hd1 g1;obtain⟨_,e0⟩:=HJ g0;obtain⟨_,e1⟩:=HJ g1;have hl':M (Kk o x0 x1,b)=M (r,b'):=hl;cases hl';rw[Wx];show G6 (sQ k) r0 r1 r2 m n d0 d1 o b.N b.m=_;unfold G6;simp only[hm,T0,T1,jI,acO];rw[e0,e1];exact agA o x0 x1 λz=>M (z,gB m (x0,x1,r2) z,n,d0,d1,o,b.N,b.m)
 node:=λr0 r1 r2 m b t0 t1 t2 v hm g0 g1 g2 hv hn=>by
  obtain⟨rfl,u2⟩:=kA g2;subst u2;have T0:=rN hd0 g0;obtain⟨l0,p0,q0⟩:=oJ hd0 g0 hn O;obtain⟨k0,s0,z0⟩:=oJ hd0 g0 hn Z;have T1:=rN hd1 g1;obtain⟨l1,p1,q1⟩:=oJ hd1 g1 hn O;obtain⟨k1,s1,z1⟩:=oJ hd1 g1 hn Z;have hmin:=min2 (n:=n) (a:=t0.top n) (c:=t1.top n) (v:=v) hv;refine⟨l0,l1,0,k0,k1,0,q0,q1,dI,z0,z1,dI,λk q1 m1 b1 q2 m2 b2 q b3 w1 w2 hq=> ?_⟩;have hq':=vU hq;rw[Wx]at w1 w2 ⊢;show G6 (sQ k) r0 r1 0 m n d0 d1 o b.N b.m=_;unfold G6;have hne:w9 (v=n)=O:=gI;simp_all
def aIZ{n:Int}{d0 d1:cz}{o:Int}(hd0:J3 n d0)(hd1:J3 n d1):WKn boB (λb=>b.N=[]) d0.g d1.g NR n (λx y _=>Kk o x y) (RA n d0 d1 o) (WAn n d0 d1 o) where
 hit:=λk r0 r1 r2 m b q hz h=>by
  rw[Ma];show uw (n9 k) r0 r1 r2 m n d0 d1 o b.m=_;unfold uw;simp_all
 leaf:=λk r0 r1 r2 m b x0 x1 x2 r b' hz hm g0 g1 g2 _ hl=>by
  have T0:nI d0 r0=M n:=rN hd0 g0;have T1:nI d1 r1=M n:=rN hd1 g1;obtain⟨_,e0⟩:=HJ g0;obtain⟨_,e1⟩:=HJ g1;have hl':M (Kk o x0 x1,b)=M (r,b'):=hl;cases hl';rw[Ma];show uw (n9 k) r0 r1 r2 m n d0 d1 o b.m=_;unfold uw;simp only[hm,T0,T1,jI,acO];rw[e0,e1,hz];exact agA o x0 x1 λz=>M (z,gB m (x0,x1,r2) z,n,d0,d1,o,[],b.m)
 node:=λr0 r1 r2 m b t0 t1 t2 v hz hm g0 g1 g2 hv hn=>by
  obtain⟨rfl,u2⟩:=kA g2;subst u2;have T0:=rN hd0 g0;obtain⟨l0,p0,q0⟩:=oJ hd0 g0 hn O;obtain⟨k0,s0,z0⟩:=oJ hd0 g0 hn Z;have T1:=rN hd1 g1;obtain⟨l1,p1,q1⟩:=oJ hd1 g1 hn O;obtain⟨k1,s1,z1⟩:=oJ hd1 g1 hn Z;have hmin:=min2 (n:=n) (a:=t0.top n) (c:=t1.top n) (v:=v) hv;refine⟨l0,l1,0,k0,k1,0,q0,q1,dI,z0,z1,dI,λk q1 m1 b1 q2 m2 b2 q b3 w1 w2 hq=> ?_⟩;have hq':=vU hq;rw[Ma]at w1 ⊢;rw[aqI]at w2;show uw (n9 k) r0 r1 0 m n d0 d1 o b.m=_;unfold uw;have hne:w9 (v=n)=O:=gI;simp_all
def aBv{n:Int}{d0 d1:cz}{o:Int}(N:Nat)(r0 r1 r2:Int)(m:cR)(b:Bb)(x:Int×cR×Bb)(h:∀k,N<k->WA n d0 d1 o k r0 r1 r2 m b=M x):RA n d0 d1 o r0 r1 r2 m b=M x:=by
 rw[aqI];exact dc (N+1) λk hk=>Wx.1 (h k aj)
open Classical in
def awZ(ns:aa bu)(v0 rt:Int)(k:Nat)(r:Int)(S:ga)(zf:aa bu):af (Int×ga×aa bu):=match IE k r S ns v0 zf rt with
 |some (q,S1,ns1,d)=>if ns1=ns/\d.ah=v0/\d.aH=rt then M (q,S1,d.aD)else J
 |none=>J
def Jz{ns:aa bu}{v0 rt:Int}{k:Nat}{r:Int}{S:ga}{zf:aa bu}{q:Int}{S':ga}{M':aa bu}:awZ ns v0 rt k r S zf=M (q,S',M')↔IE k r S ns v0 zf rt=M (q,S',ns,⟨v0,M',rt⟩):=by
 unfold awZ;constructor
 ·intro h;split at h
  ·rename_i ns1 d hy;split at h
   ·rename_i hb;obtain⟨rfl,rfl,rfl⟩:=hb;cases h;rw[hy]
   ·cases h
  ·cases h
 ·intro h;rw[h];simp
open Classical in
def akC(ns:aa bu)(v0 rt:Int)(r:Int)(S:ga)(zf:aa bu):af (Int×ga×aa bu):=match afQ r S ns v0 zf rt with
 |some (q,S1,ns1,d)=>if ns1=ns/\d.ah=v0/\d.aH=rt then M (q,S1,d.aD)else J
 |none=>J
def U6{ns:aa bu}{v0 rt:Int}{r:Int}{S:ga}{zf:aa bu}{q:Int}{S':ga}{M':aa bu}:akC ns v0 rt r S zf=M (q,S',M')↔afQ r S ns v0 zf rt=M (q,S',ns,⟨v0,M',rt⟩):=by
 unfold akC;constructor
 ·intro h;split at h
  ·rename_i ns1 d hy;split at h
   ·rename_i hb;obtain⟨rfl,rfl,rfl⟩:=hb;cases h;rw[hy]
   ·cases h
  ·cases h
 ·intro h;rw[h];simp
open Classical in
def agl(ns:aa bu)(v0 rt:Int)(k:Nat)(r:Int)(S:ga):af (Int×ga×aa bu):=match BW k r S ns v0 rt with
 |some (q,S1,ns1,d)=>if ns1=ns/\d.ah=v0/\d.aH=rt then M (q,S1,d.aD)else J
 |none=>J
def G9{ns:aa bu}{v0 rt:Int}{k:Nat}{r:Int}{S:ga}{q:Int}{S':ga}{M':aa bu}:agl ns v0 rt k r S=M (q,S',M')↔BW k r S ns v0 rt=M (q,S',ns,⟨v0,M',rt⟩):=by
 unfold agl;constructor
 ·intro h;split at h
  ·rename_i ns1 d hy;split at h
   ·rename_i hb;obtain⟨rfl,rfl,rfl⟩:=hb;cases h;rw[hy]
   ·cases h
  ·cases h
 ·intro h;rw[h];simp
def azo{ns:aa bu}(hs:zZ ns<=1000000000){v0 rt:Int}:YK (Gm j7 ns) (awZ ns v0 rt) where
 hit:=λk r S zf q h=>by
  rw[Jz];show adA (IE k) r S ns v0 zf rt=_;unfold adA;simp only[h,y9,fZ,yE]
 node:=λk r S zf v a b q1 S1 N1 q2 S2 N2 hm hr w1 w2 hl=>by
  rw[Jz]at w1 w2 ⊢;show adA (IE k) r S ns v0 zf rt=_;obtain⟨i,rfl,hi⟩:=eM.1 hr;obtain⟨h1,h2⟩:=get_some hi;unfold adA;have hw:ak (ak (2+(zZ (N2++[bu.mk v q1 q2]):Int))-1)=((2+zZ N2:Nat):Int):=by
   have:(zZ (N2++[bu.mk v q1 q2]):Int)=(zZ N2:Int)+1:=by simp
   rw[this,aI (n:=2+((zZ N2:Int)+1)),aI];omega
  rw[hm,aI (n:=2+(i:Int)-2),show 2+(i:Int)-2=(i:Int)by omega];simp only[yF,fO,zw,h2];rw[Dx,w1];simp only;rw[w2];simp only;rw[bO (by simp;omega),hw,eG,bO rfl];rfl
def avU{ns:aa bu}(hs:zZ ns<=1000000000){v0 rt:Int}:YKn (Gm j7 ns) (akC ns v0 rt) (agl ns v0 rt) where
 hit:=λk r S q h=>by
  rw[G9];show PJ (BW k) r S ns v0 rt=_;unfold PJ;simp only[h,y9,fZ,yE]
 node:=λk r S v a b q1 S1 N1 q2 S2 N2 hm hr w1 w2 hl=>by
  rw[G9]at w1 ⊢;rw[U6]at w2;show PJ (BW k) r S ns v0 rt=_;obtain⟨i,rfl,hi⟩:=eM.1 hr;obtain⟨h1,h2⟩:=get_some hi;unfold PJ;have hw:ak (ak (2+(zZ (N2++[bu.mk v q1 q2]):Int))-1)=((2+zZ N2:Nat):Int):=by
   have:(zZ (N2++[bu.mk v q1 q2]):Int)=(zZ N2:Int)+1:=by simp
   rw[this,aI (n:=2+((zZ N2:Int)+1)),aI];omega
  rw[hm,aI (n:=2+(i:Int)-2),show 2+(i:Int)-2=(i:Int)by omega];simp only[yF,fO,zw,h2];rw[Dx,w1];simp only;rw[w2];simp only;rw[bO (by simp;omega),hw,eG,bO rfl];rfl
def avy{ns:aa bu}(hs:zZ ns<=1000000000)(hn:ns.Nodup){t:BT}{r v0:Int}(hd:Den (Gm j7 ns) r t)(ht:t.ji zo)(hl:zZ (bN (bw t []))<=1000000000):∃S',Ve r [(0,0),(1,1)] ns v0 0=M (num j7 (bN (bw t [])) t,S',ns,⟨v0,iD j7 (bN (bw t [])),0⟩):=by
 have hi:bN (bw t nV)=bN (bw t []):=F8 t rfl;have hLv:Lv [0,1] (bw t nV):=λx hx=>by
  rcases gx hx with h|h
  ·simp[nV]at h;rcases h with h|h<;>simp[h]
  ·have:zo x:=h.all ht;rcases this with h|h<;>simp[h]
 have hS:SI (Gm j7 ns) nV [(0,0),(1,1)]:=λr u hu=>by
  cases hu with
  |@leaf _ x h=>
   obtain⟨hz,rfl⟩:=iA.1 h;rcases hz with h|h<;>subst h<;>rfl
  |node h ha hb=>
   obtain⟨k,rfl,_⟩:=eM.1 h;rw[bP (by simp[nV])];simp only[ei,List.find?_cons,List.find?_nil];rw[gI,gI];rfl
 obtain⟨S',_,w⟩:=aiY (af5 hn) (azo hs (v0:=v0) (rt:=0)) (R:=akC ns v0 0) (λN r S zf x h=>by
  obtain⟨q,S',M'⟩:=x;rw[U6];exact dc N λk hk=>Jz.1 (h k hk)) (avU hs) hd hLv hS (by rw[hi];exact hl)
 rw[hi]at w;exact⟨S',dc _ λk hk=>G9.1 (w k hk)⟩
open Classical in
open Classical in
structure jt (n:Int) (t:BT) (d:cz):Prop where
 v:d.ah=n
 zo:t.ji zo
 nodes:d.aD=iD j7 (bN (bw t []))
 root:d.aH=num j7 (bN (bw t [])) t
def jt.eq{n:Int}{t:BT}{d d':cz}(h:jt n t d)(h':jt n t d'):d=d':=by
 obtain⟨v,N,r⟩:=d;obtain⟨v',N',r'⟩:=d';have h1:=h.v;have h2:=h.nodes;have h3:=h.root
 have h1':=h'.v;have h2':=h'.nodes;have h3':=h'.root
 simp only at h1 h2 h3 h1' h2' h3';subst h1 h1' h2 h2' h3 h3';rfl
def Oi{t:BT}(ht:t.ji zo):Lv j7 (bw t []):=λx hx=>by
 rcases gx hx with h|h
 ·cases h
 ·have:zo x:=h.all ht;rcases this with h|h<;>simp[h]
def jt.den{n:Int}{t:BT}{d:cz}(h:jt n t d):Den d.g d.aH t:=by
 have:=iQ (L:=j7) (l:=bw t []) (fe t mc) (Oi h.zo) (cv t []);unfold cz.g;rw[h.nodes,h.root];exact this
def jt.nd{n:Int}{t:BT}{d:cz}(h:jt n t d):d.aD.Nodup:=by
 rw[h.nodes];exact acK (fe t mc) (Oi h.zo) (qC t xg)
def jt.len{n:Int}{t:BT}{d:cz}(h:jt n t d):zZ d.aD=zZ (bN (bw t [])):=by
 rw[h.nodes,gT]
def jt.arg{n:Int}{t:BT}{d:cz}(h:jt n t d)(ho:Ord n 0 t)(hn:n<=12):J3 n d:=by
 have h1:=h.len;have h2:=dV ho hn;exact⟨h.v,aj⟩
def Bj{ns:aa bu}(hs:zZ ns<=1000000000)(hn:ns.Nodup){t:BT}{r v0:Int}(hd:Den (Gm j7 ns) r t)(ht:t.ji zo)(hl:zZ (bN (bw t []))<=1000000000):∃d,Sf v0 ns r=M d/\jt v0 t d:=by
 obtain⟨S',e⟩:=avy hs hn hd ht hl (v0:=v0);refine⟨⟨v0,iD j7 (bN (bw t [])),num j7 (bN (bw t [])) t⟩,?_,rfl,ht,rfl,rfl⟩;unfold Sf;rw[e]
def an5{n:Int}{t:BT}{d:cz}(hn:n<=12)(h:jt n t d)(ho:Ord n 0 t):ajM d=M Z:=by
 have ha:=h.arg ho hn;have hl:=h.len;obtain⟨s1,s2,s3⟩:=dV ho hn;have hLv:=Oi h.zo;have hcl:Cl (bw t []):=fe t mc;have hdN:=h.nd;obtain⟨sn,e1,_⟩:=cZ (rnd:=Lx) (zZ d.aD) (λi (s:aa ((Int×Int×Int)×Bool))=>⟨s,d.aD,(zZ d.aD:Int),(i:Int),d⟩) (λi s=>∀v p q,(ei s (v,p,q)).getD O=Z->∃j,j<i/\d.aD[j]! =⟨v,p,q⟩) (λi s hi hI=>by
  have i1:(i:Int)<(zZ d.aD:Int):=aj;have i2:(0:Int)<=(i:Int):=aj;have hw2:ak ((i:Int)+1)=((i+1:Nat):Int):=jy hi aj;obtain⟨v,a,b,e,hf,ma,mb,hab,hv0,hvn,hta,htb,hnum,hne⟩:=Ti hLv ho (show i<zZ (bN (bw t [])) by omega);rw[<-h.nodes]at hf;have da:Den d.g (num j7 (bN (bw t [])) a) a:=by have:=iQ hcl hLv ma;rw[<-h.nodes]at this;exact this
  have db:Den d.g (num j7 (bN (bw t [])) b) b:=by have:=iQ hcl hLv mb;rw[<-h.nodes]at this;exact this
  have ta:=rN ha da;have tb:=rN ha db;obtain⟨na1,na2⟩:=hnum a (.inl rfl);obtain⟨nb1,nb2⟩:=hnum b (.inr rfl);have hL2:((zZ j7:Nat):Int)=2:=rfl;generalize num j7 (bN (bw t [])) a=x at*;generalize num j7 (bN (bw t [])) b=y at*;have hws:ak (1+(i:Int))=1+(i:Int):=aI;have c0:w9 (d.ah<=v)=O:=iU (by rw[h.v];omega);have c1:w9 (x<0)=O:=gI;have c2:w9 (1+(i:Int)<x)=O:=gI;have c3:w9 (y<0)=O:=gI;have c4:w9 (1+(i:Int)<y)=O:=gI;have c5:w9 (x=y)=O:=iU hne;have c6:w9 (v<0)=O:=gI;have c7:w9 (a.top n<=v)=O:=gI;have c8:w9 (b.top n<=v)=O:=gI;have c9:(ei s (v,x,y)).getD O=O:=by
   cases e9:(ei s (v,x,y)).getD false with
   |false=>rfl
   |true=>
    obtain⟨j,hj,hj2⟩:=hI v x y e9;rw[<-hf]at hj2;have:=nd_get! hdN aj hi hj2;omega
  refine⟨gB s (v,x,y) Z,?_,λv' p' q' h'=> ?_⟩
  ·unfold Lx EC;simp only[dS,dP,i1,i2,dx,hf,hws,c0,c1,c2,c3,c4,c5,c6,c9,ta,tb,c7,c8,hw2]
  ·rw[eG]at h';split at h'
   ·rename_i e2;cases e2;exact⟨i,aj,hf⟩
   ·obtain⟨j,hj,hj2⟩:=hI v' p' q' h';exact⟨j,aj,hj2⟩) (λ_ _=>by unfold Lx EC;simp) (b:=[]) (λv p q h=>by rw[kr]at h;cases h)
 have e1':Km ⟨[],d.aD,(zZ d.aD:Int),0,d⟩=M ⟨sn,d.aD,(zZ d.aD:Int),(zZ d.aD:Int),d⟩:=e1;have hroot:=Sn (l:=bw t []) hLv (cv t []);rw[<-h.root]at hroot;have hL2:((zZ j7:Nat):Int)=2:=rfl;have hws:ak (1+(zZ d.aD:Int))=1+(zZ d.aD:Int):=aI;have c1:w9 (0<=d.aH)=Z:=zDT;have c2:w9 (d.aH<=1+(zZ d.aD:Int))=Z:=zDT;unfold ajM EC;simp only[dP,e1',zO,mF,hws,c1,c2]
def En{n:Int}{t:BT}{d:cz}(h0:0<=n)(hn:n<=12)(h:jt n t d)(ho:Ord n 0 t):SQ d=M 0:=by
 have hl:=h.len;obtain⟨s1,s2,s3⟩:=dV ho hn;have c1:w9 (d.ah<0)=O:=iU (by rw[h.v];omega);have c2:w9 ((40:Int)<d.ah)=O:=iU (by rw[h.v];omega);have c4:w9 ((4096:Int)<(zZ d.aD:Int))=O:=gI;obtain⟨d',e,hc⟩:=Bj (ns:=d.aD) aj h.nd h.den h.zo aj (v0:=n);have:=hc.eq h;subst this;unfold SQ;rw[show Sf d'.ah d'.aD d'.aH=M d' by rw[h.v];exact e];simp only[dP,c1,c2,c4,an5 hn h ho,mG,Gj d'.aD aj]
def afa(l:aa cz)(n:Int)(hl:zZ l<=1000)(h0:l≠[])(h:∀d∈l,SQ d=M 0/\d.ah=n):ae2 l=M 0:=by
 have hpos:=wT.2 h0;obtain⟨_,e0,_⟩:=cZ (rnd:=MH) (zZ l) (λi (_:Unit)=>⟨l,l,(zZ l:Int),(i:Int)⟩) (λ_ _=>True) (λi _ hi _=>by
  have i1:(i:Int)<(zZ l:Int):=aj;have i2:(0:Int)<=(i:Int):=aj;have hw2:ak ((i:Int)+1)=((i+1:Nat):Int):=jy hi aj;refine⟨(),?_,trivial⟩;unfold MH FQ;simp only[dS,dP,i1,i2,dx,hw2,(h _ (mem_get! hi)).1]) (λ_ _=>by unfold MH FQ;simp) (b:=()) trivial
 have e0':JD ⟨l,l,(zZ l:Int),0⟩=M ⟨l,l,(zZ l:Int),(zZ l:Int)⟩:=e0;obtain⟨_,e1,_⟩:=cZ (rnd:=JK) (zZ l) (λi (_:Unit)=>⟨l,l,(zZ l:Int),(i:Int)⟩) (λ_ _=>True) (λi _ hi _=>by
  have i1:(i:Int)<(zZ l:Int):=aj;have i2:(0:Int)<=(i:Int):=aj;have i3:(0:Int)<=(0:Int)/\(0:Int)<(zZ l:Int):=aj;have hw2:ak ((i:Int)+1)=((i+1:Nat):Int):=jy hi aj;refine⟨(),?_,trivial⟩;unfold JK Ew;simp only[dS,dP,i1,i2,i3,dx,hw2,(h _ (mem_get! hi)).2,(h _ (mem_get! hpos)).2]) (λ_ _=>by unfold JK Ew;simp) (b:=()) trivial
 have e1':Ls ⟨l,l,(zZ l:Int),0⟩=M ⟨l,l,(zZ l:Int),(zZ l:Int)⟩:=e1;unfold ae2 FQ Ew;simp only[e0',e1',zO,mF,fO]
def ar8{n:Int}{t1 t2 t:BT}{d1 d2:cz}{o:Int}(h0:0<=n)(hn:n<=12)(c1:jt n t1 d1)(o1:Ord n 0 t1)(c2:jt n t2 d2)(o2:Ord n 0 t2)(ho:0<=o)(ho2:o<=15)(hA:AP n (λx y _=>Kk o x y) 12 t1 t2 (.leaf 0) t):∃d,N9 o d1 d2=M (d,0)/\jt n t d:=by
 have hot:Ord n 0 t:=uA hA o1 o2 trivial h0;have hz:t.ji zo:=by
  have:∀{d:Nat} {a b c t:BT},AP n (λx y _=>Kk o x y) d a b c t->t.ji zo:=λh=>by
   induction h with
   |leaf x y z=>exact av3 o x y
   |node v hv hn h0 h1 i0 i1=>exact all_mk i0 i1
  grind
 obtain⟨s1,s2,s3⟩:=dV hot hn;have hv:=afa [d1,d2] n (by simp) (by simp) λd hd=>by
  simp only[zk,yD,or_false]at hd;rcases hd with rfl|rfl
  ·exact⟨En h0 hn c1 o1,c1.v⟩
  ·exact⟨En h0 hn c2 o2,c2.v⟩
 have a1:=c1.arg o1 hn;have a2:=c2.arg o2 hn;obtain⟨q,m',b',w,hI,_,_,hd,hs⟩:=O3 (wkA (o:=o) a1 a2) (aBv (n:=n) (d0:=d1) (d1:=d2) (o:=o)) (aIZ a1 a2) hA d1.aH d2.aH 0 [] ⟨[],[]⟩ rfl c1.den c2.den dI X4 (λr0 r1 r2 q h=>by rw[kr]at h;cases h) (show 0+2^(12+1)<=1000000000 by decide) hz;have hs':zZ b'.N+1<=0+2^(12+1):=hs;have hI':BIb b':=hI;have e:Kq d1.aH d2.aH 0 [] n d1 d2 o []=M (q,m',n,d1,d2,o,b'.N,b'.m):=dc 13 λk hk=>Ma.1 (w k aj);have hbN:b'.N.Nodup:=by
  rw[x9,wN];intro i j hi hj hij e2;have hx:b'.N[i]=⟨b'.N[i].bq,b'.N[i].aC,b'.N[i].au⟩:=rfl;generalize b'.N[i].bq=v,b'.N[i].aC=p,b'.N[i].au=r at hx;have g1:b'.N[i]? =M ⟨v,p,r⟩:=by rw[zD hi,hx]
  have g2:b'.N[j]? =M ⟨v,p,r⟩:=by rw[zD hj,<-e2,hx]
  have:=hI'.inj _ _ _ (eM.2 ⟨i,rfl,g1⟩) (eM.2 ⟨j,rfl,g2⟩);omega
 obtain⟨d,e2,hc⟩:=Bj (ns:=b'.N) aj hbN hd hz aj (v0:=n);refine⟨d,?_,hc⟩;have c3:w9 (o<0)=O:=gI;have c4:w9 (15<o)=O:=gI;have hl:=hc.len;have c5:w9 ((4096:Int)<(zZ d.aD:Int))=O:=gI;unfold N9;rw[hv];simp only[c3,c4];unfold ag4;simp only[xS,c1.v,e,e2];unfold RO;rw[c5];rfl
def asv{n:Int}(h0:0<=n)(hn:n<=12)(b:Bool):∃d,OR n b=(d,0)/\jt n (.leaf (if b then 1 else 0)) d/\d.aD=[]:=by
 have c1:w9 (n<0)=O:=gI;have c2:w9 (40<n)=O:=gI;unfold OR;simp only[c1,c2];cases b
 ·exact⟨_,rfl,⟨rfl, .inl rfl,rfl,rfl⟩,rfl⟩
 ·exact⟨_,rfl,⟨rfl, .inr rfl,rfl,rfl⟩,rfl⟩
def aIQ{n i:Int}(h0:0<=n)(hn:n<=12)(hi:0<=i)(hin:i<n):∃d,TV n i=(d,0)/\jt n (.node i (.leaf 0) (.leaf 1)) d:=by
 have c1:w9 (n<0)=O:=gI;have c2:w9 (40<n)=O:=gI;have c3:w9 (i<0)=O:=gI;have c4:w9 (n<=i)=O:=gI;unfold TV;simp only[c1,c2,c3,c4];have hd:bw (.node i (.leaf 0) (.leaf 1)) []=[.leaf 0, .leaf 1, .node i (.leaf 0) (.leaf 1)]:=by simp[bw]
 refine⟨_,rfl,⟨rfl,⟨.inl rfl, .inr rfl⟩,?_,?_⟩⟩
 ·rfl
 ·rw[hd];simp[bN,List.filter,QA,num]
def ark{x:Int}(h:zo x):gh x:=by
 rcases h with h|h<;>subst h<;>rfl
def ji.imp{P Q:Int->Prop}(h:∀x,P x->Q x):∀{t:BT},t.ji P->t.ji Q
 | .leaf x,hx=>h x hx
 | .node _ a b,hx=>⟨ji.imp h hx.1,ji.imp h hx.2⟩
def IY{n:Int}{t:BT}{c:cz}(hn:n<=12)(h:jt n t c)(ho:Ord n 0 t):∃d,aaQ c=M d/\iG n t d:=by
 have hl:=h.len;obtain⟨s1,s2,s3⟩:=dV ho hn;have hLv:=Oi h.zo;have hcl:Cl (bw t []):=fe t mc;obtain⟨r0,b1,e0,I0,_,D0,S0⟩:=Bd.su (P:=gh) 0 ⟨[],[],[],[],O⟩ rfl (adl gh) (by simp);obtain⟨r1,b2,e1,I1,L1,D1,S1⟩:=Bd.su (P:=gh) 1 b1 rfl I0 (by simp at S0;omega);have S2:zZ b2.L+zZ b2.N<=2:=by simp at S0;omega
 have e0':=l6 e0;have e1':=l6 e1;obtain⟨v,e2,V1,V2,V3,V4⟩:=cZ (rnd:=KX) (zZ c.aD) (λi (s:aa Int×Bd)=>⟨s.1,c.aD,(zZ c.aD:Int),(i:Int),c,⟨0,[],[],0⟩,s.2.L,s.2.N,s.2.mL,s.2.mN,s.2.w⟩) (λi s=>zZ s.1=2+i/\BI gh s.2/\zZ s.2.L+zZ s.2.N<=2+i/\∀r u,Den c.g r u->r<2+(i:Int)->Den s.2.g s.1[r.toNat]! u) (λi s hi hI=>by
  obtain⟨refs,b⟩:=s;obtain⟨H1,H2,H3,H4⟩:=hI;simp only at H1 H2 H3 H4;have i1:(i:Int)<(zZ c.aD:Int):=aj;have i2:(0:Int)<=(i:Int):=aj;have hw2:ak ((i:Int)+1)=((i+1:Nat):Int):=jy hi aj;obtain⟨v,a,b',e,hf,ma,mb,hab,hv0,hvn,hta,htb,hnum,hne⟩:=Ti hLv ho (show i<zZ (bN (bw t [])) by omega);rw[<-h.nodes]at hf;have da:Den c.g (num j7 (bN (bw t [])) a) a:=by have:=iQ hcl hLv ma;rw[<-h.nodes]at this;exact this
  have db:Den c.g (num j7 (bN (bw t [])) b') b':=by have:=iQ hcl hLv mb;rw[<-h.nodes]at this;exact this
  obtain⟨na1,na2⟩:=hnum a (.inl rfl);obtain⟨nb1,nb2⟩:=hnum b' (.inr rfl);have hL2:((zZ j7:Nat):Int)=2:=rfl;rw[hL2]at na2 nb2;generalize num j7 (bN (bw t [])) a=x at*;generalize num j7 (bN (bw t [])) b'=y at*;obtain⟨r,b3,e3,I3,L3,D3,S3⟩:=Bd.mH (P:=gh) v refs[x.toNat]! refs[y.toNat]! a b' b H2 aj (H4 x a da aj) (H4 y b' db aj);have e3':=uC e3;have hmk:lS v a b'= .node v a b':=by simp[lS,hab]
  rw[hmk]at D3;have j1:(0:Int)<=x/\x<(zZ refs:Int):=aj;have j2:x.toNat<zZ refs:=aj;have j3:(0:Int)<=y/\y<(zZ refs:Int):=aj;have j4:y.toNat<zZ refs:=aj;have j5:zZ (refs++[r])<=1073741824:=by simp;omega
  refine⟨(refs++[r],b3),?_,by simp;omega,I3,by simp only;omega,λr' u hd hr=> ?_⟩
  ·unfold KX Gl;simp only[dS,i1,i2,fZ,dx,hf,j1,j2,j3,j4,e3',j5,hw2]
  ·by_cases hlt:r'<2+(i:Int)
   ·have hr0:0<=r':=by
     cases hd with
     |leaf h=>rcases (iA.1 h).1 with h'|h'<;>rw[(iA.1 h).2,h']<;>decide
     |node h=>obtain⟨k,rfl,_⟩:=eM.1 h;omega
    have:(refs++[r])[r'.toNat]! =refs[r'.toNat]! :=by
     rw[getElem!_pos (refs++[r]) _ (by simp;omega),getElem!_pos refs _ aj,xW]
    simp only;rw[this];exact(H4 r' u hd hlt).mono L3
   ·have hr':r'=2+(i:Int):=aj;subst hr';have hgi:c.g (2+(i:Int))=M (.inr (v,x,y)):=eM.2 ⟨i,rfl,by rw[zD hi,<-getElem!_pos c.aD i hi,hf]⟩;have hu:=hd.oU (.node hgi da db);subst hu;have:(refs++[r])[(2+(i:Int)).toNat]! =r:=by
     rw[show (2+(i:Int)).toNat=zZ refs by omega,getElem!_pos (refs++[r]) _ (by simp)];simp
    simp only;rw[this];exact D3) (λs _=>by unfold KX Gl;simp) (b:=([r0,r1],b2)) ⟨rfl,I1,by simp only;omega,λr u hd hr=>by
   cases hd with
   |@leaf _ x h=>
    obtain⟨hz,rfl⟩:=iA.1 h;rcases hz with hz|hz
    ·subst hz;exact D0.mono L1
    ·subst hz;exact D1
   |node h=>obtain⟨k,rfl,_⟩:=eM.1 h;omega⟩
 obtain⟨refs,b⟩:=v;simp only at e2 V1 V2 V3 V4;have e2':J5 ⟨[r0,r1],c.aD,(zZ c.aD:Int),0,c,⟨0,[],[],0⟩,b2.L,b2.N,b2.mL,b2.mN,b2.w⟩=M ⟨refs,c.aD,(zZ c.aD:Int),(zZ c.aD:Int),c,⟨0,[],[],0⟩,b.L,b.N,b.mL,b.mN,b.w⟩:=e2;have hroot:=Sn (l:=bw t []) hLv (cv t []);rw[<-h.root]at hroot;have hL2:((zZ j7:Nat):Int)=2:=rfl;rw[hL2]at hroot;have hD:=V4 c.aH t h.den aj;obtain⟨d,e3,hc⟩:=kE (n:=n) (λx hx=>nE hx) V2 aj hD aj aj;refine⟨d,?_,hc⟩;have j1:(0:Int)<=c.aH/\c.aH<(zZ refs:Int):=aj;have j2:c.aH.toNat<zZ refs:=aj;unfold aaQ Gl;rw[show fQ=([],[],[],[],O)from rfl,e0'];simp only[dS,e1',e2',zO,fO,j1,j2,dx,h.v,e3]
def aDU{n:Int}{t t':BT}{c:cz}{no yes:Int}(h0:0<=n)(hn:n<=12)(h:jt n t c)(ho:Ord n 0 t)(hno:gh no)(hyes:gh yes)(hA:AP n (λx _ _=>if x=1 then yes else no) 12 t (.leaf 0) (.leaf 0) t'):∃d,aag c no yes=M (d,0)/\iG n t' d:=by
 obtain⟨d0,e0,c0⟩:=IY hn h ho;have hP:t'.ji gh:=by
  have:∀{d:Nat} {a b c t:BT},AP n (λx _ _=>if x=1 then yes else no) d a b c t->t.ji gh:=λh=>by
   induction h with
   |leaf x y z=>
    show gh (if x=1 then yes else no);split<;>assumption
   |node v hv hn h0 h1 i0 i1=>exact all_mk i0 i1
  exact this hA
 obtain⟨d,e1,hc⟩:=au1 (yes:=yes) (no:=no) hn (c0.arg ho hn) c0.den hA (uA hA ho trivial trivial h0) hP;refine⟨d,?_,hc⟩;have hno':kH no=Z:=hno;have hyes':kH yes=Z:=hyes;unfold aag;simp only[dP,En h0 hn h ho,mG,hno',hyes',e0,e1]
def iG.aoi{n:Int}{t:BT}{d:aq}{P:Int->Prop}(hc:iG n t d)(hP:t.ji P){x:Int}(hx:x∈d.aG):P x:=by
 rcases gx ((hc.mem x).1 hx)with h|h
 ·cases h
 ·exact h.all hP
def acF{n:Int}{t1 t2 t:BT}{d1 d2:aq}{o:Int}(h0:0<=n)(hn:n<=12)(c1:iG n t1 d1)(o1:Ord n 0 t1)(p1:t1.ji gh)(c2:iG n t2 d2)(o2:Ord n 0 t2)(p2:t2.ji gh)(ho:0<=o)(ho2:o<=8)(hop:∀x y,gh x->gh y->∃z,jT (280+o.toNat) x y=M z)(hA:AP n (λx y _=>(jT (280+o.toNat) x y).getD 0) 12 t1 t2 (.leaf 0) t)(hP:t.ji gh):∃d,Ru o d1 d2=M (d,0)/\iG n t d:=by
 obtain⟨d,e,hc⟩:=atj hn (c1.arg o1 hn) (c2.arg o2 hn) c1.den c2.den (λx hx y hy=>hop x y (c1.aoi p1 hx) (c2.aoi p2 hy)) hA (uA hA o1 o2 trivial h0) hP;refine⟨d,?_,hc⟩;have hv:=nW [d1,d2] n (by simp) (by simp) λd hd=>by
  simp only[zk,yD,or_false]at hd;rcases hd with rfl|rfl
  ·exact⟨kQ h0 hn c1 o1 p1,c1.v⟩
  ·exact⟨kQ h0 hn c2 o2 p2,c2.v⟩
 have c3:w9 (o<0)=O:=gI;have c4:w9 ((9:Int)<=o)=O:=gI;have hl:zZ Mm=9:=rfl;have c5:(0:Int)<=o/\o<(zZ Mm:Int):=by rw[hl];omega
 have c6:o.toNat<zZ Mm:=by rw[hl];omega
 have c7:Mm[o.toNat]! =280+o.toNat:=by
  have:o.toNat<=8:=aj;generalize o.toNat=k at*;rcases k with _|_|_|_|_|_|_|_|_|k<;>first|rfl|omega
 unfold Ru;simp only[dS,dP,hv,c3,c4,c5,c6,c7,dx,e]
def abU{n x:Int}(h0:0<=n)(hn:n<=12)(hx:gh x):∃d,L8 n x=(d,0)/\iG n (.leaf x) d/\d.aD=[]:=by
 have c1:w9 (n<0)=O:=gI;have c2:w9 (40<n)=O:=gI;have hx':kH x=Z:=hx;unfold L8;simp only[dP,c1,c2,hx'];have hd:bw (.leaf x) []=[.leaf x]:=rfl;refine⟨_,rfl,⟨rfl,List.pairwise_singleton ..,λy=> ?_,rfl,?_⟩,rfl⟩
 ·rw[hd];simp
 ·simp[num]
def Tl{b:Bd}(hb:BI gh b)(hs:zZ b.L+zZ b.N<=1000000){t:BT}{r n:Int}(hd:Den b.g r t)(hz:t.ji zo)(hN:zZ (bN (bw t []))<=4096)(hL:zZ (lC (bw t []))<=4096):∃d c,ajc n r b.L b.N b.mL b.mN b.w=M (d,0,c)/\jt n t d:=by
 have hG:=hb.inj;obtain⟨SL,ho,hO⟩:=NF (λx hx=>(nE hx).2) hb aj hd aj aj;obtain⟨r0,b1,e0,I0,L0,D0,S0⟩:=Bd.su (P:=gh) 0 b rfl hb aj;obtain⟨r1,b2,e1,I1,L1,D1,S1⟩:=Bd.su (P:=gh) 1 b1 rfl I0 aj;have e0':=l6 e0;have e1':=l6 e1;have hG2:=I1.inj;have hle:b.g.Le b2.g:=L0.trans L1;have D0':=D0.mono L1;have hr01:r0≠r1:=λh=>by
  rw[h]at D0';have:=D0'.oU D1;cases this
 have hcl:Cl (bw t []):=fe t mc;have hnd:(bw t []).Nodup:=qC t xg;have hNd:(bN (bw t [])).Nodup:=hnd.sublist wM;have hzl:=Oi hz;have hden:∀u∈bw t [],∃r',Den b.g r' u:=λu hu=>by
  rcases gx hu with h|h
  ·cases h
  ·exact vB hd h
 have hdr0:∀u∈bw t [],Den b.g (rf b.g u) u:=λu hu=>by
  obtain⟨r',h⟩:=hden u hu;rw[qe hG h];exact h
 have hdr:∀u∈bw t [],Den b2.g (rf b.g u) u:=λu hu=>(hdr0 u hu).mono hle;have hrt:rf b.g t=r:=qe hG hd;generalize hacc:bw t []=acc at*;have hta:t∈acc:=by rw[<-hacc];exact cv _ _
 have hleaf:∀x,BT.leaf x∈acc->ei [(r0,(0:Int)),(r1,1)] (rf b.g (.leaf x))=M (num j7 (bN acc) (.leaf x)):=λx hx=>by
  have hdx:=hdr _ hx;have hx2:x∈j7:=hzl x hx;simp only[j7,zk,yD,or_false]at hx2;rcases hx2 with rfl|rfl
  ·rw[hdx.inj hG2 D0'];unfold ei;simp[num]
  ·rw[hdx.inj hG2 D1];unfold ei;simp[num,hr01.symm];rfl
 have hixl:∀i,i<zZ (bN acc)->∃v p q k,(bN acc)[i]! = .node v p q/\p∈acc/\q∈acc/\rf b.g (.node v p q)=2*((k:Nat):Int)+1/\b2.N[k]? =M ⟨v,rf b.g p,rf b.g q⟩/\(ixs b.g (bN acc))[i]! =(k:Int):=λi hi=>by
  obtain⟨v,p,q,e,hm⟩:=Jr (mem_get! hi);obtain⟨hp,hq⟩:=hcl.parts hm;have hdx:=hdr _ hm;cases hdx with
  |@node _ _ a c _ _ h ha hc=>
   obtain⟨k,e2,hk⟩:=jF.1 h;refine⟨v,p,q,k,e,hp,hq,e2,by rw[<-ha.inj hG2 (hdr p hp),<-hc.inj hG2 (hdr q hq)];exact hk,?_⟩;unfold ixs;rw[map_get! _ hi,e,e2];omega
 obtain⟨n1,e2,i1⟩:=cZ (rnd:=La) (bN acc).length (λi (nu:ga)=>⟨r,nu,ixs b.g (bN acc),(zZ (bN acc):Int),(i:Int),b2.L,b2.N,b2.mL,b2.mN,b2.w,⟨0,[],0⟩,⟨n,(iD j7 (bN acc)).take i,0⟩⟩) (λi nu=>(∀x,BT.leaf x∈acc->ei nu (rf b.g (.leaf x))=M (num j7 (bN acc) (.leaf x)))/\∀j,j<i->ei nu (rf b.g (bN acc)[j]!)=M ((2+j:Nat):Int)) (λi nu hi hI=>by
  obtain⟨v,p,q,k,e,hp,hq,hr,hk,hix⟩:=hixl i hi;have hm:BT.node v p q∈acc:=by rw[<-e];exact(dL.1 (mem_get! hi)).1
  obtain⟨hk1,hk2⟩:=get_some hk;have i1:(i:Int)<(zZ (bN acc):Int):=aj;have i1':(i:Int)<(zZ (ixs b.g (bN acc)):Int):=by rw[iz];exact i1
  have i2:(0:Int)<=(i:Int):=aj;have i3:i<zZ (ixs b.g (bN acc)):=by rw[iz];exact hi
  have i4:(0:Int)<=(k:Int):=aj;have i5:(k:Int)<(zZ b2.N:Int):=aj;have hw2:ak ((i:Int)+1)=((i+1:Nat):Int):=jy hi aj;have hwk:ak (ak (2*(k:Int))+1)=2*(k:Int)+1:=by
   rw[aI (n:=2*(k:Int))];exact aI
  have hws:ak (2+(i:Int))=((2+i:Nat):Int):=by
   rw[aI];omega
  have hnum:∀c,(c=p\/c=q)->ei nu (rf b.g c)=M (num j7 (bN acc) c):=λc hc=>by
   cases c with
   |leaf x=>
    refine hI.1 x ?_;rcases hc with h|h
    ·rw[h];exact hp
    ·rw[h];exact hq
   |node v' p' q'=>
    obtain⟨h1,h2⟩:=Fp hcl hnd hm hc rfl;rw[<-e,uG hNd hi]at h2;have h3:=hI.2 _ h2;rw[dU h1]at h3;rw[h3];rfl
  have hfi:(iD j7 (bN acc))[i]! =⟨v,num j7 (bN acc) p,num j7 (bN acc) q⟩:=by
   unfold iD;rw[map_get! _ hi,e];rfl
  have hfl:i<zZ (iD j7 (bN acc)):=by rw[gT];exact hi
  have hlen:zZ ((iD j7 (bN acc)).take i++[(⟨v,num j7 (bN acc) p,num j7 (bN acc) q⟩:bu)])<=1073741824:=by simp;omega
  refine⟨gB nu (2*(k:Int)+1) ((2+i:Nat):Int),?_,λx hx=> ?_,λj hj=> ?_⟩
  ·unfold La FC;simp only[dS,i1,i1',i2,fZ,dx,i3,hix,i4,i5,hk1,hk2,hw2,hwk,hws,hnum p (.inl rfl),hnum q (.inr rfl),yE,hlen];rw[take_succ! hfl,hfi]
  ·rw[eG,bP,hI.1 x hx];intro h;have hdx:=hdr _ hx;rw[h]at hdx;cases hdx with
   |leaf h=>
    obtain⟨k',e,_⟩:=iN.1 h;omega
  ·rw[eG];by_cases e3:j=i
   ·subst e3;rw[e,hr,bO rfl]
   ·rw[bP,hI.2 j aj];intro h;rw[<-hr,<-e]at h;have h1:=hdr _ (dL.1 (mem_get! (by omega:j<zZ (bN acc)))).1;have h2:=hdr _ (dL.1 (mem_get! hi)).1;rw[h]at h1;exact e3 (nd_get! hNd aj hi (h1.oU h2))) (λnu _=>by unfold La FC;simp) (b:=[(r0,0),(r1,1)]) ⟨hleaf,λj hj=>aj⟩
 have e2':K7 ⟨r,[(r0,0),(r1,1)],ixs b.g (bN acc),(zZ (ixs b.g (bN acc)):Int),0,b2.L,b2.N,b2.mL,b2.mN,b2.w,⟨0,[],0⟩,⟨n,[],0⟩⟩=M ⟨r,n1,ixs b.g (bN acc),(zZ (bN acc):Int),(zZ (bN acc):Int),b2.L,b2.N,b2.mL,b2.mN,b2.w,⟨0,[],0⟩,⟨n,iD j7 (bN acc),0⟩⟩:=by
  have:(iD j7 (bN acc)).take (bN acc).length=iD j7 (bN acc):=yU (by rw[gT];omega);rw[this]at e2;rw[iz];exact e2
 have hroot:ei n1 r=M (num j7 (bN acc) t):=by
  rw[<-hrt];cases t with
  |leaf x=>exact i1.1 x hta
  |node v p q=>
   have hm:BT.node v p q∈bN acc:=dL.2 ⟨hta,rfl⟩;have:=i1.2 _ (yz hm);rw[dU hm]at this;exact this
 refine⟨⟨n,iD j7 (bN acc),num j7 (bN acc) t⟩,(b2.L,b2.N,b2.mL,b2.mN,b2.w),?_,⟨rfl,hz,by rw[hacc],by rw[hacc]⟩⟩;have c2:w9 ((4096:Int)<(zZ (ixs b.g (bN acc)):Int))=O:=iU (by rw[iz];omega);have c3:w9 (r0=r1)=O:=iU hr01;have c4:w9 (r1=r0)=O:=iU hr01.symm;unfold ajc FC;simp only[dP,ho,c2,e0',e1',c3,c4,e2',zO,mF,hroot,yE]
def afG{n:Int}{t t':BT}{d:aq}{z:Int}(h0:0<=n)(hn:n<=12)(hc:iG n t d)(ho:Ord n 0 t)(hp:t.ji gh)(hA:AP n (λx _ _=>if x=z then 1 else 0) 12 t (.leaf 0) (.leaf 0) t'):∃d',aa5 d z=M (d',0)/\jt n t' d':=by
 have ha:=hc.arg ho hn;have hz:t'.ji zo:=by
  have:∀{d:Nat} {a b c t:BT},AP n (λx _ _=>if x=z then 1 else 0) d a b c t->t.ji zo:=λh=>by
   induction h with
   |leaf x y w=>
    show zo (if x=z then 1 else 0);split
    ·exact .inr rfl
    ·exact .inl rfl
   |node v hv hn h0 h1 i0 i1=>exact all_mk i0 i1
  exact this hA
 have ho':=uA hA ho trivial trivial h0;obtain⟨q,m',b',w,hI,hb,hs⟩:=nw (asM (z:=z) ha (P:=gh)) hA hc.den dI dI (ji.imp (λx=>ark) hz);have e:Ya d.aH 0 0 [] d [] [] [] [] O z=M (q,m',d,b'.L,b'.N,b'.mL,b'.mN,b'.w,z):=dc 13 λk hk=>vS.1 (w k aj);obtain⟨s1,s2,_⟩:=dV ho' hn;obtain⟨d',c,e2,hc'⟩:=Tl (n:=n) hI aj hb hz aj aj;refine⟨d',?_,hc'⟩;have hv:=nW [d] n (by simp) (by simp) λx hx=>by
  simp only[zk,yD,or_false]at hx;subst hx;exact⟨kQ h0 hn hc ho hp,hc.v⟩
 unfold aa5;simp only[dP,xS,hv,mG];rw[show fQ=([],[],[],[],O)from rfl,e];simp only[hc.v];rw[e2]
structure Dm (k:Nat) (F:List Bool->Int) (d:aq):Prop where
 c:iG (k:Int) (tf k 0 F) d
 p:∀e:List Bool,zZ e=k->gh (F e)
def Db(k:Nat)(F:aa Bool->Int)(d:cz):Prop:=jt (k:Int) (tf k 0 F) d
def AP.le{n:Int}{f:Int->Int->Int->Int}{d d':Nat}{a b c r:BT}(h:AP n f d a b c r)(hd:d<=d'):AP n f d' a b c r:=by
 induction hd with
 |refl=>exact h
 |step _ ih=>exact ih.mono
def CH{k:Nat}{F:aa Bool->Int}:Ord (k:Int) 0 (tf k 0 F):=BA aj
def ap1{k:Nat}(hk:k<=12)(f:Int->Int->Int->Int)(F:aa Bool->Int):AP (k:Int) f 12 (tf k 0 F) (.leaf 0) (.leaf 0) (tf k 0 λe=>f (F e) 0 0):=by
 have h:=MU (n:=(k:Int)) (f:=f) (k:=k) (v:=0) (F:=F) (G:=λ_=>0) (H:=λ_=>0) aj;rw[jO]at h;exact h.le hk
def ap2{k:Nat}(hk:k<=12)(f:Int->Int->Int->Int)(F G:aa Bool->Int):AP (k:Int) f 12 (tf k 0 F) (tf k 0 G) (.leaf 0) (tf k 0 λe=>f (F e) (G e) 0):=by
 have h:=MU (n:=(k:Int)) (f:=f) (k:=k) (v:=0) (F:=F) (G:=G) (H:=λ_=>0) aj;rw[jO]at h;exact h.le hk
def Dm.congr{k:Nat}{F G:aa Bool->Int}{d:aq}(h:Dm k F d)(e:∀x:aa Bool,zZ x=k->F x=G x):Dm k G d:=
 ⟨by rw[<-lE e];exact h.c,λx hx=>by rw[<-e x hx];exact h.p x hx⟩
def Db.congr{k:Nat}{F G:aa Bool->Int}{d:cz}(h:Db k F d)(e:∀x:aa Bool,zZ x=k->F x=G x):Db k G d:=by
 unfold Db at*;rw[<-lE e];exact h
def avu{k:Nat}(hk:k<=12){F G H:aa Bool->Int}{a b:aq}{o:Int}(ho:0<=o)(ho2:o<=8)(hop:∀x y,gh x->gh y->∃z,jT (280+o.toNat) x y=M z)(ha:Dm k F a)(hb:Dm k G b)(hH:∀e:aa Bool,zZ e=k->jT (280+o.toNat) (F e) (G e)=M (H e))(hP:∀e:aa Bool,zZ e=k->gh (H e)):∃d,Ru o a b=M (d,0)/\Dm k H d:=by
 have hA:=ap2 hk (λx y _=>(jT (280+o.toNat) x y).getD 0) F G;have hc:(tf k 0 λe=>(jT (280+o.toNat) (F e) (G e)).getD 0)=tf k 0 H:=lE λe he=>by rw[hH e he];rfl
 rw[hc]at hA;obtain⟨d,e,h⟩:=acF aj aj ha.c CH (kX ha.p) hb.c CH (kX hb.p) ho ho2 hop hA (kX hP);exact⟨d,e,h,hP⟩
def ap8{k:Nat}(hk:k<=12){F G:aa Bool->Int}{a b:aq}(ha:Dm k F a)(hb:Dm k G b)(hP:∀e:aa Bool,zZ e=k->gh (F e+G e)):∃d,Ru 0 a b=M (d,0)/\Dm k (λe=>F e+G e) d:=
 avu hk aj aj (λx y _ _=>⟨_,rfl⟩) ha hb (λe he=>by
  obtain⟨_,h1,h2⟩:=nE (hP e he);show M (abn (F e) (G e))=_;unfold abn;rw[aI]) hP
def aA2{k:Nat}(hk:k<=12){F G:aa Bool->Int}{a b:aq}(ha:Dm k F a)(hb:Dm k G b):∃d,Ru 7 a b=M (d,0)/\Dm k (λe=>if F e<G e then 1 else 0) d:=
 avu hk aj aj (λx y _ _=>⟨_,rfl⟩) ha hb (λe he=>by
  show M (adE (F e) (G e))=_;unfold adE;rw[VG];simp only[decide_eq_true_eq]) (λe _=>by
  split<;>rfl)
def ofD{k:Nat}(hk:k<=12){B:aa Bool->Int}{c:cz}{no yes:Int}(hc:Db k B c)(hno:gh no)(hyes:gh yes):∃d,aag c no yes=M (d,0)/\Dm k (λe=>if B e=1 then yes else no) d:=by
 obtain⟨d,e,h⟩:=aDU aj aj hc CH hno hyes (ap1 hk (λx _ _=>if x=1 then yes else no) B);exact⟨d,e,h,λe _=>by
  split<;>assumption⟩
def adz{k:Nat}(hk:k<=12){F:aa Bool->Int}{a:aq}{z:Int}(ha:Dm k F a):∃d,aa5 a z=M (d,0)/\Db k (λe=>if F e=z then 1 else 0) d:=by
 obtain⟨d,e,h⟩:=afG aj aj ha.c CH (kX ha.p) (ap1 hk (λx _ _=>if x=z then 1 else 0) F);exact⟨d,e,h⟩
def abH{k:Nat}(hk:k<=12){A B:aa Bool->Int}{a b:cz}{o:Int}(ho:0<=o)(ho2:o<=15)(ha:Db k A a)(hb:Db k B b):∃d,N9 o a b=M (d,0)/\Db k (λe=>Kk o (A e) (B e)) d:=by
 obtain⟨d,e,h⟩:=ar8 aj aj ha CH hb CH ho ho2 (ap2 hk (λx y _=>Kk o x y) A B);exact⟨d,e,h⟩
def Uz(x y:Int):Kk 8 x y=if x=1/\y=1 then 1 else 0:=by
 unfold Kk;by_cases hx:x=1<;>by_cases hy:y=1<;>simp only[hx,hy]<;>rfl
def adP:∀(k:Nat) (v:Int) (i:Nat),i<k->(tf k v λe=>if e[i]! then 1 else 0)= .node (v+i) (.leaf 0) (.leaf 1)
 |k+1,v,0,_=>by
  simp only[tf,xS];rw[jO,jO];simp[lS]
 |k+1,v,i+1,h=>by
  simp only[tf,List.getElem!_cons_succ];rw[adP k (v+1) i aj];simp only[lS,dx]
  congr 1
  omega
def aK5{k:Nat}(hk:k<=12){i:Int}(hi:0<=i)(hik:i<(k:Int)):∃d,TV (k:Int) i=(d,0)/\Db k (λe=>if e[i.toNat]! then 1 else 0) d:=by
 obtain⟨d,e,h⟩:=aIQ (n:=(k:Int)) aj aj hi hik;refine⟨d,e,?_⟩;unfold Db;rw[adP k 0 i.toNat aj,show (0:Int)+(i.toNat:Int)=i by omega];exact h
def axS{k:Nat}(hk:k<=12){x:Int}(hx:gh x):∃d,L8 (k:Int) x=(d,0)/\Dm k (λ_=>x) d/\d.aD=[]:=by
 obtain⟨d,e,h,hn⟩:=abU (n:=(k:Int)) aj aj hx;exact⟨d,e,⟨by rw[jO];exact h,λ_ _=>hx⟩,hn⟩
def aCQ{k:Nat}(hk:k<=12):∃d,OR (k:Int) Z=(d,0)/\Db k (λ_=>1) d/\d.aD=[]:=by
 obtain⟨d,e,h,hn⟩:=asv (n:=(k:Int)) aj aj Z;refine⟨d,e,?_,hn⟩;unfold Db;rw[jO];exact h
def MA{k:Nat}(hk:k<=12){x:Int}(hx:gh x)(X:aK)(hX:X.ah=(k:Int)):∃d,fh x X=(d,X)/\Dm k (λ_=>x) d/\d.aD=[]:=by
 obtain⟨d,e,h,hn⟩:=axS hk hx;refine⟨d,?_,h,hn⟩;unfold fh;rw[hX,e];obtain⟨v,L,N,r⟩:=d;subst hn;rfl
def Fb(s:Slot)(i:Nat)(e:aa Bool):Int:=bv ((oQ e s).take i)*2^(s.dM.toNat-i)
def af1{m:Nat}(h:m<=12):(1:Int)<=2^m/\(2:Int)^m<=4096:=by
 have h1:(2:Int)^m=((2^m:Nat):Int):=by simp
 have h2:2^m<=2^12:=xB aj h;have h3:0<2^m:=yV aj;omega
def aie{s:Slot}{i:Nat}{e:aa Bool}(hi:i<=s.dM.toNat)(hb:s.dM.toNat<=12):0<=Fb s i e/\Fb s i e<=4096:=by
 have hl:zZ ((oQ e s).take i)<=i:=by rw[zL];omega
 obtain⟨h1,h2⟩:=Sv ((oQ e s).take i) 0 (zG _);obtain⟨p1,p2⟩:=af1 (m:=s.dM.toNat-i) aj;have h3:(2:Int)^((oQ e s).take i).length<=2^i:=by exact_mod_cast xB (n:=2) aj hl
 unfold Fb bv;refine⟨yo h1 aj,?_⟩;have h4:List.foldl bvF 0 ((oQ e s).take i)*2^(s.dM.toNat-i)<=2^i*2^(s.dM.toNat-i):=xe aj aj;rw[<-Int.pow_add,show i+(s.dM.toNat-i)=s.dM.toNat by omega]at h4;have:=(af1 hb).2;omega
def Zk{s:Slot}{i:Nat}{e:aa Bool}(h0:0<=s.dJ)(hi:i<s.dM.toNat)(hl:s.dM.toNat<=zZ (oQ e s)):Fb s (i+1) e=Fb s i e+(if(if e[(s.dJ+(i:Int)).toNat]! then(1:Int)else 0)=1 then 2^(s.dM.toNat-1-i)else 0):=by
 have e1:s.dM.toNat-i=(s.dM.toNat-1-i)+1:=aj;unfold Fb;rw[take_succ! (by omega:i<zZ (oQ e s)),UR,Xd h0 hi,show s.dM.toNat-(i+1)=s.dM.toNat-1-i by omega,e1,Int.pow_succ];unfold bvF;generalize (2:Int)^(s.dM.toNat-1-i)=p;generalize bv ((oQ e s).take i)=q;cases e[(s.dJ+(i:Int)).toNat]!
 ·simp only[xz,AE];rw[bP (by decide),Int.add_zero,Int.add_zero,Int.mul_comm p 2,<-Int.mul_assoc,Int.mul_comm q 2]
 ·simp only[dx];rw[Int.add_mul,Int.one_mul,Int.mul_comm p 2,<-Int.mul_assoc,Int.mul_comm q 2]
def Vd{k:Nat}(hk:k<=12)(X:aK)(hX:X.ah=(k:Int)){vs:aa bf}{s:Slot}(hs:oR vs (k:Int) s):∃d,Yx s X=M (d,X)/\Dm k (λe=>bv (oQ e s)) d:=by
 have g1:=hs.f0;have g2:=hs.b0;have g3:=hs.l
 obtain⟨kb,hkb⟩:∃kb:Nat,s.dM=(kb:Int):=⟨s.dM.toNat,aj⟩;have hkb':s.dM.toNat=kb:=aj;obtain⟨d0,e0,D0,N0⟩:=MA hk (x:=0) rfl X hX;obtain⟨v,q,hv⟩:=cZ (rnd:=LD) kb (λi (d:aq)=>⟨(kb:Int),(i:Int),X,s,⟨0,[],[],0⟩,d⟩) (λi d=>Dm k (Fb s i) d) (λi d hi hd=>by
  have i1:(i:Int)<(kb:Int):=aj;have w1:ak (ak (s.dM-1)-(i:Int))=((kb-1-i:Nat):Int):=by
   rw[aI (n:=s.dM-1),aI];omega
  have w2:ak ((i:Int)+1)=((i+1:Nat):Int):=by rw[aI];rfl
  have w3:ak (s.dJ+(i:Int))=s.dJ+(i:Int):=aI;have i2:(0:Int)<=((kb-1-i:Nat):Int):=aj;obtain⟨p1,p2⟩:=af1 (m:=kb-1-i) aj;obtain⟨dv,ev,hv⟩:=aK5 hk (i:=s.dJ+(i:Int)) aj aj;obtain⟨do',eo,ho⟩:=ofD hk (no:=0) (yes:=2^(kb-1-i)) hv rfl (eX aj aj);have hsum:∀e:aa Bool,zZ e=k->Fb s i e+(if(if e[(s.dJ+(i:Int)).toNat]! then(1:Int)else 0)=1 then 2^(kb-1-i)else 0)=Fb s (i+1) e:=λe he=>by
   rw[Zk g1 aj (by rw[nZ (vs:=vs) (by rw[he];exact hs)];exact zx _),hkb']
  obtain⟨dp,ep,hp⟩:=ap8 hk hd ho λe he=>by
   rw[hsum e he];have:=aie (s:=s) (i:=i+1) (e:=e) aj aj;exact eX aj aj
  refine⟨dp,?_,hp.congr hsum⟩;unfold LD DZ;simp only[i1,mG,fZ,w1,w2,w3,i2,dx,hX,ev,adO (show kb-1-i<=30 by omega),eo];unfold ij;rw[ep]) (λd _=>by unfold LD DZ;simp) (b:=d0) (D0.congr λe he=>by simp[Fb,bv])
 have hv':Dm k (λe=>bv (oQ e s)) v:=hv.congr λe he=>by
  have hl:=nZ (vs:=vs) (bits:=e) (t:=s) (by rw[he];exact hs);unfold Fb;rw[yU aj,hkb',xb,Int.pow_zero,Int.mul_one]
 refine⟨v,?_,hv'⟩;have q':Bc ⟨s.dM,0,X,s,⟨0,[],[],0⟩,d0⟩=M ⟨s.dM,s.dM,X,s,⟨0,[],[],0⟩,v⟩:=by rw[hkb];exact q
 have ed:(aq.mk d0.ah d0.aG [] d0.aH)=d0:=by
  obtain⟨v,L,N,r⟩:=d0;subst N0;rfl
 unfold Yx DZ;rw[e0];simp only[ed,q',zO,mF,fO]
def auh{n:Int}{t t':BT}{d:aq}{lo hi:Int}(hn:n<=12)(hd:Arg n d)(h:Den d.g d.aH t)(hA:AP n (λx _ _=>clp lo hi x) 12 t (.leaf 0) (.leaf 0) t')(ho:Ord n 0 t')(hP:t'.ji gh):∃d',UG d lo hi=M (d',0,lo,hi)/\iG n t' d':=by
 obtain⟨q,m',b',w,hI,hb,hs⟩:=nw (avs (lo:=lo) (hi:=hi) hd (P:=gh)) hA h dI dI hP;have e:W4 d.aH 0 0 [] d [] [] [] [] O lo hi=M (q,m',d,b'.L,b'.N,b'.mL,b'.mN,b'.w,lo,hi):=dc 13 λk hk=>vR.1 (w k aj);obtain⟨s1,s2,_⟩:=dV ho hn;obtain⟨d',e2,hc⟩:=kE (n:=n) (λx hx=>nE hx) hI aj hb aj aj;refine⟨d',?_,hc⟩;unfold UG;rw[show fQ=([],[],[],[],O)from rfl,e];simp only[hd.v];rw[e2]
def asY{n:Int}{t0 t1 t2 t':BT}{d0 d1 d2:aq}(hn:n<=12)(hd0:Arg n d0)(hd1:Arg n d1)(hd2:Arg n d2)(h0:Den d0.g d0.aH t0)(h1:Den d1.g d1.aH t1)(h2:Den d2.g d2.aH t2)(hA:AP n (λx y z=>if x=1 then y else z) 12 t0 t1 t2 t')(ho:Ord n 0 t')(hP:t'.ji gh):∃d',Wu d0 d1 d2=M (d',0)/\iG n t' d':=by
 obtain⟨q,m',b',w,hI,hb,hs⟩:=nw (awG hd0 hd1 hd2 (P:=gh)) hA h0 h1 h2 hP;have e:UD d0.aH d1.aH d2.aH [] d0 d1 d2 [] [] [] [] O=M (q,m',d0,d1,d2,b'.L,b'.N,b'.mL,b'.mN,b'.w):=dc 13 λk hk=>Ab.1 (w k aj);obtain⟨s1,s2,_⟩:=dV ho hn;obtain⟨d',e2,hc⟩:=kE (n:=n) (λx hx=>nE hx) hI aj hb aj aj;refine⟨d',?_,hc⟩;unfold Wu;rw[show fQ=([],[],[],[],O)from rfl,e];simp only[hd0.v];rw[e2]
def aio{n:Int}{d:Nat}{a b c t:BT}(h:AP n (λx y z=>if x=1 then y else z) d a b c t):b.ji gh->c.ji gh->t.ji gh:=by
 have hcof:∀{u:BT} {v:Int} {hi:Bool},u.ji gh->(u.rT v hi).ji gh:=λ{u v hi} hu=>by
  cases u with
  |leaf x=>exact hu
  |node x p q=>
   simp only[rT];split
   ·cases hi
    ·exact hu.1
    ·exact hu.2
   ·exact hu
 induction h with
 |leaf x y z=>
  intro hy hz;split
  ·exact hy
  ·exact hz
 |node v hv hn h0 h1 i0 i1=>exact λhb hc=>all_mk (i0 (hcof hb) (hcof hc)) (i1 (hcof hb) (hcof hc))
def Ze{n:Int}{tc t1 t2 t:BT}{c:cz}{d1 d2:aq}(h0:0<=n)(hn:n<=12)(hc:jt n tc c)(oc:Ord n 0 tc)(c1:iG n t1 d1)(o1:Ord n 0 t1)(p1:t1.ji gh)(c2:iG n t2 d2)(o2:Ord n 0 t2)(p2:t2.ji gh)(hA:AP n (λx y z=>if x=1 then y else z) 12 tc t1 t2 t):∃d,adp c d1 d2=M (d,0)/\iG n t d:=by
 obtain⟨d0,e0,c0⟩:=IY hn hc oc;obtain⟨d,e1,hd⟩:=asY hn (c0.arg oc hn) (c1.arg o1 hn) (c2.arg o2 hn) c0.den c1.den c2.den hA (uA hA oc o1 o2 h0) (aio hA p1 p2);refine⟨d,?_,hd⟩;have hv:=nW [d0,d1,d2] n (by simp) (by simp) λd hd=>by
  simp only[zk,yD,or_false]at hd;rcases hd with rfl|rfl|rfl
  ·exact⟨kQ h0 hn c0 oc (ji.imp (λx=>ark) hc.zo),c0.v⟩
  ·exact⟨kQ h0 hn c1 o1 p1,c1.v⟩
  ·exact⟨kQ h0 hn c2 o2 p2,c2.v⟩
 unfold adp;simp only[dP,En h0 hn hc oc,mG,e0,hv,e1]
def axi{lo hi x:Int}(hl:gh lo)(hh:gh hi)(hx:gh x):gh (clp lo hi x):=by
 unfold clp;grind
def aaW{n:Int}{t1 t:BT}{d1:aq}{lo hi:Int}(h0:0<=n)(hn:n<=12)(c1:iG n t1 d1)(o1:Ord n 0 t1)(p1:t1.ji gh)(hlh:lo<=hi)(hl:gh lo)(hh:gh hi)(hA:AP n (λx _ _=>clp lo hi x) 12 t1 (.leaf 0) (.leaf 0) t)(hP:t.ji gh):∃d,SG d1 lo hi=M (d,0)/\iG n t d:=by
 obtain⟨d,e1,hd⟩:=auh hn (c1.arg o1 hn) c1.den hA (uA hA o1 trivial trivial h0) hP;refine⟨d,?_,hd⟩;have hv:=nW [d1] n (by simp) (by simp) λd hd=>by
  simp only[zk,yD,or_false]at hd;subst hd;exact⟨kQ h0 hn c1 o1 p1,c1.v⟩
 have c3:w9 (hi<lo)=O:=gI;have hl':kH lo=Z:=hl;have hh':kH hi=Z:=hh;unfold SG;simp only[dP,hv,mG,c3,hl',hh',e1]
def noI(x:Int):Int:=if x=1 then 0 else 1
open Classical in
def WN(n:Int)(d0:cz)(k:Nat)(r0 r1 r2:Int)(m:cR)(b:Bb):af (Int×cR×Bb):=match uv k r0 r1 r2 m n d0 b.N b.m with
 |some (q,m1,y,e0,N,mN)=>if y=n/\e0=d0 then M (q,m1,⟨N,mN⟩)else J
 |none=>J
def Ws{n:Int}{d0:cz}{k:Nat}{r0 r1 r2:Int}{m:cR}{b:Bb}{q:Int}{m':cR}{b':Bb}:WN n d0 k r0 r1 r2 m b=M (q,m',b')↔uv k r0 r1 r2 m n d0 b.N b.m=M (q,m',n,d0,b'.N,b'.m):=by
 unfold WN;constructor
 ·grind
 ·simp_all
open Classical in
def WNn(n:Int)(d0:cz)(k:Nat)(r0 r1 r2:Int)(m:cR)(b:Bb):af (Int×cR×Bb):=match om k r0 r1 r2 m n d0 b.m with
 |some (q,m1,y,e0,N,mN)=>if y=n/\e0=d0 then M (q,m1,⟨N,mN⟩)else J
 |none=>J
def K8{n:Int}{d0:cz}{k:Nat}{r0 r1 r2:Int}{m:cR}{b:Bb}{q:Int}{m':cR}{b':Bb}:WNn n d0 k r0 r1 r2 m b=M (q,m',b')↔om k r0 r1 r2 m n d0 b.m=M (q,m',n,d0,b'.N,b'.m):=by
 unfold WNn;constructor
 ·grind
 ·simp_all
open Classical in
def RN(n:Int)(d0:cz)(r0 r1 r2:Int)(m:cR)(b:Bb):af (Int×cR×Bb):=match Od r0 r1 r2 m n d0 b.N b.m with
 |some (q,m1,y,e0,N,mN)=>if y=n/\e0=d0 then M (q,m1,⟨N,mN⟩)else J
 |none=>J
def aqV{n:Int}{d0:cz}{r0 r1 r2:Int}{m:cR}{b:Bb}{q:Int}{m':cR}{b':Bb}:RN n d0 r0 r1 r2 m b=M (q,m',b')↔Od r0 r1 r2 m n d0 b.N b.m=M (q,m',n,d0,b'.N,b'.m):=by
 unfold RN;constructor
 ·grind
 ·simp_all
def adn{α:Type}(x:Int)(g:Int->α):(bif QE (w9 (x=1)) O O then g 1 else g 0)=g (noI x):=by
 unfold noI QE;by_cases h:x=1
 ·rw[l8 h,bO h];rfl
 ·rw[iU h,bP h];rfl
def aFF{a n v:Int}(hv:v=min a n):eW a n=v:=by rw[ou];omega
def wkN{n:Int}{d0:cz}(hd0:J3 n d0):WK boB d0.g NR NR n (λx _ _=>noI x) (WN n d0) where
 hit:=λk r0 r1 r2 m b q h=>by
  rw[Ws];show EJ (uv k) r0 r1 r2 m n d0 b.N b.m=_;unfold EJ;simp_all
 leaf:=λk r0 r1 r2 m b x0 x1 x2 r b' hm g0 g1 g2 hl=>by
  have T0:nI d0 r0=M n:=rN hd0 g0;obtain⟨_,e0⟩:=HJ g0;have hl':M (noI x0,b)=M (r,b'):=hl;cases hl';rw[Ws];show EJ (uv k) r0 r1 r2 m n d0 b.N b.m=_;unfold EJ;simp only[hm,T0,jI];rw[e0];exact adn x0 λz=>M (z,gB m (x0,r1,r2) z,n,d0,b.N,b.m)
 node:=λr0 r1 r2 m b t0 t1 t2 v hm g0 g1 g2 hv hn=>by
  obtain⟨rfl,u1⟩:=kA g1;subst u1;obtain⟨rfl,u2⟩:=kA g2;subst u2;have T0:=rN hd0 g0;obtain⟨l0,p0,q0⟩:=oJ hd0 g0 hn O;obtain⟨k0,s0,z0⟩:=oJ hd0 g0 hn Z;have hmin:=aFF (n:=n) (a:=t0.top n) (v:=v) (by rw[hv];simp only[BT.top];omega);refine⟨l0,0,0,k0,0,0,q0,dI,dI,z0,dI,dI,λk q1 m1 b1 q2 m2 b2 q b3 w1 w2 hq=> ?_⟩;have hq':=vU hq;rw[Ws]at w1 w2 ⊢;show EJ (uv k) r0 0 0 m n d0 b.N b.m=_;unfold EJ;have hne:w9 (v=n)=O:=gI;simp_all
def aKS{n:Int}{d0:cz}(hd0:J3 n d0):WKn boB (λb=>b.N=[]) d0.g NR NR n (λx _ _=>noI x) (RN n d0) (WNn n d0) where
 hit:=λk r0 r1 r2 m b q hz h=>by
  rw[K8];show uy (om k) r0 r1 r2 m n d0 b.m=_;unfold uy;simp_all
 leaf:=λk r0 r1 r2 m b x0 x1 x2 r b' hz hm g0 g1 g2 _ hl=>by
  have T0:nI d0 r0=M n:=rN hd0 g0;obtain⟨_,e0⟩:=HJ g0;have hl':M (noI x0,b)=M (r,b'):=hl;cases hl';rw[K8];show uy (om k) r0 r1 r2 m n d0 b.m=_;unfold uy;simp only[hm,T0,jI];rw[e0,hz];exact adn x0 λz=>M (z,gB m (x0,r1,r2) z,n,d0,[],b.m)
 node:=λr0 r1 r2 m b t0 t1 t2 v hz hm g0 g1 g2 hv hn=>by
  obtain⟨rfl,u1⟩:=kA g1;subst u1;obtain⟨rfl,u2⟩:=kA g2;subst u2;have T0:=rN hd0 g0;obtain⟨l0,p0,q0⟩:=oJ hd0 g0 hn O;obtain⟨k0,s0,z0⟩:=oJ hd0 g0 hn Z;have hmin:=aFF (n:=n) (a:=t0.top n) (v:=v) (by rw[hv];simp only[BT.top];omega);refine⟨l0,0,0,k0,0,0,q0,dI,dI,z0,dI,dI,λk q1 m1 b1 q2 m2 b2 q b3 w1 w2 hq=> ?_⟩;have hq':=vU hq;rw[K8]at w1 ⊢;rw[aqV]at w2;show uy (om k) r0 0 0 m n d0 b.m=_;unfold uy;have hne:w9 (v=n)=O:=gI;simp_all
def aDB{n:Int}{d0:cz}(N:Nat)(r0 r1 r2:Int)(m:cR)(b:Bb)(x:Int×cR×Bb)(h:∀k,N<k->WN n d0 k r0 r1 r2 m b=M x):RN n d0 r0 r1 r2 m b=M x:=by
 rw[aqV];exact dc (N+1) λk hk=>Ws.1 (h k aj)
def asx(x:Int):zo (noI x):=by
 unfold noI;omega
def auJ{b':Bb}(hI':BIb b'):b'.N.Nodup:=by
 rw[x9,wN];intro i j hi hj hij e2;have hx:b'.N[i]=⟨b'.N[i].bq,b'.N[i].aC,b'.N[i].au⟩:=rfl;generalize b'.N[i].bq=v,b'.N[i].aC=p,b'.N[i].au=r at hx;have g1:b'.N[i]? =M ⟨v,p,r⟩:=by rw[zD hi,hx]
 have g2:b'.N[j]? =M ⟨v,p,r⟩:=by rw[zD hj,<-e2,hx]
 have:=hI'.inj _ _ _ (eM.2 ⟨i,rfl,g1⟩) (eM.2 ⟨j,rfl,g2⟩);omega
def aLn{n:Int}{t1 t:BT}{d1:cz}(h0:0<=n)(hn:n<=12)(c1:jt n t1 d1)(o1:Ord n 0 t1)(hA:AP n (λx _ _=>noI x) 12 t1 (.leaf 0) (.leaf 0) t):∃d,aeY d1=M (d,0)/\jt n t d:=by
 have hot:Ord n 0 t:=uA hA o1 trivial trivial h0;have hz:t.ji zo:=by
  have:∀{d:Nat} {a b c t:BT},AP n (λx _ _=>noI x) d a b c t->t.ji zo:=λh=>by
   induction h with
   |leaf x y z=>exact asx x
   |node v hv hn h0 h1 i0 i1=>exact all_mk i0 i1
  grind
 obtain⟨s1,s2,s3⟩:=dV hot hn;have hv:=afa [d1] n (by simp) (by simp) λd hd=>by
  simp only[zk,yD,or_false]at hd;subst hd;exact⟨En h0 hn c1 o1,c1.v⟩
 have a1:=c1.arg o1 hn;obtain⟨q,m',b',w,hI,_,_,hd,hs⟩:=O3 (wkN a1) (aDB (n:=n) (d0:=d1)) (aKS a1) hA d1.aH 0 0 [] ⟨[],[]⟩ rfl c1.den dI dI X4 (λr0 r1 r2 q h=>by rw[kr]at h;cases h) (show 0+2^(12+1)<=1000000000 by decide) hz;have hs':zZ b'.N+1<=0+2^(12+1):=hs;have e:LR d1.aH 0 0 [] n d1 []=M (q,m',n,d1,b'.N,b'.m):=dc 13 λk hk=>K8.1 (w k aj);obtain⟨d,e2,hc⟩:=Bj (ns:=b'.N) aj (auJ hI) hd hz aj (v0:=n);refine⟨d,?_,hc⟩;have hl:=hc.len;have c5:w9 ((4096:Int)<(zZ d.aD:Int))=O:=gI;unfold aeY;rw[hv];unfold adW;simp only[c1.v,e,e2];unfold RO;rw[c5];rfl
def abB(vs:aa bf)(sl:aa Slot)(e:aa Bool):Int:=if sl.all (mz vs e)=Z then 1 else 0
def YQ{k:Nat}(hk:k<=12)(X:aK)(hX:X.ah=(k:Int))(hv:KF X.fF.ah)(hl:zZ X.bS<=10000)(hs:∀t∈X.bS,oR X.fF.ah (k:Int) t):∃d,m58 X=M (d,X)/\Db k (abB X.fF.ah X.bS) d:=by
 obtain⟨d0,e0,D0,N0⟩:=aCQ hk;have ed:(cz.mk d0.ah [] d0.aH)=d0:=by
  obtain⟨v,N,r⟩:=d0;simp only at N0;subst N0;rfl
 obtain⟨v,q,hq⟩:=cZ (rnd:=Vj) (zZ X.bS) (λi (d:cz)=>⟨X.bS,(zZ X.bS:Int),(i:Int),X,⟨0,[],0⟩,d⟩) (λi d=>Db k (abB X.fF.ah (X.bS.take i)) d) (λi d hi hd=>by
  have i1:(i:Int)<(zZ X.bS:Int):=aj;have i2:(0:Int)<=(i:Int):=aj;have w2:ak ((i:Int)+1)=((i+1:Nat):Int):=by rw[aI];rfl
  have ht:=hs _ (mem_get! hi);have x1:=ht.v0;have x2:=ht.v1
  obtain⟨v1,v2,v3⟩:=hv.2 (X.bS[i]!.bq.toNat) aj;obtain⟨d1,e1,D1⟩:=Vd hk X hX ht;have wz:ak (ak (X.fF.ah[X.bS[i]!.bq.toNat]!.au-X.fF.ah[X.bS[i]!.bq.toNat]!.aC)+1)=X.fF.ah[X.bS[i]!.bq.toNat]!.au-X.fF.ah[X.bS[i]!.bq.toNat]!.aC+1:=by
   rw[aI (n:=X.fF.ah[X.bS[i]!.bq.toNat]!.au-X.fF.ah[X.bS[i]!.bq.toNat]!.aC),aI]
  obtain⟨d2,e2,D2,N2⟩:=MA hk (x:=X.fF.ah[X.bS[i]!.bq.toNat]!.au-X.fF.ah[X.bS[i]!.bq.toNat]!.aC+1) (eX aj aj) X hX;have ed2:(aq.mk d2.ah d2.aG [] d2.aH)=d2:=by
   obtain⟨v,L,N,r⟩:=d2;simp only at N2;subst N2;rfl
  obtain⟨d3,e3,D3⟩:=aA2 hk D1 D2;obtain⟨d4,e4,D4⟩:=adz hk (z:=1) D3;obtain⟨d5,e5,D5⟩:=abH hk (o:=8) aj aj hd D4;refine⟨d5,?_,D5.congr λe he=> ?_⟩
  ·unfold Vj MY;simp only[dS,i1,i2,fZ,dx,x1,x2,e1,wz,e2,ed2];unfold ij;simp only[e3];unfold Gu;simp only[e4,e5,w2]
  ·rw[Uz];unfold abB;rw[take_succ! hi,List.all_append];simp only[xu,List.all_nil,Bool.and_true,zh];have hsl:mz X.fF.ah e X.bS[i]! =Z↔bv (oQ e X.bS[i]!)<X.fF.ah[X.bS[i]!.bq.toNat]!.au-X.fF.ah[X.bS[i]!.bq.toNat]!.aC+1:=by
    unfold mz Dn;simp only[Bool.not_eq_true',decide_eq_false_iff_not];omega
   by_cases q1:(X.bS.take i).all (mz X.fF.ah e)=Z<;>by_cases q2:mz X.fF.ah e X.bS[i]! =Z<;>simp only[lG,q1,q2,<-hsl,Au,and_true,true_and,and_false,false_and,Int.zero_ne_one,xz,reduceCtorEq]) (λd _=>by unfold Vj MY;simp) (b:=d0) (D0.congr λe he=>by simp[abB])
 rw[yU (zx _)]at hq;refine⟨v,?_,hq⟩;have q':VV ⟨X.bS,(zZ X.bS:Int),0,X,⟨0,[],0⟩,d0⟩=M ⟨X.bS,(zZ X.bS:Int),(zZ X.bS:Int),X,⟨0,[],0⟩,v⟩:=q;unfold m58 MY;rw[hX,e0];simp only[ed,q',zO,mF,fO]
structure NKn (L:List Int) (R:List Int->List bu->Int->Option (Int×List bu)) (Q:Nat->List Int->Int->Option (Int×List bu)):Prop where
 one:∀k x v,x∈L->Q (k+1) [x] v=M (((L.idxOf x:Nat):Int),[])
 two:∀k l v q1 N1 q2 N2,0<=v->v<=1000000->2<=zZ l->zZ l<1000000000->Q k (l.take (zZ l/2)) (v+1)=M (q1,N1)->R (l.drop (zZ l/2)) N1 (v+1)=M (q2,N2)->zZ N2<1000000000->Q (k+1) l v=M (if q1=q2 then(q1,N2)else if(⟨v,q1,q2⟩:bu)∈N2 then(((zZ L+N2.idxOf ⟨v,q1,q2⟩:Nat):Int),N2)else(((zZ L+zZ N2:Nat):Int),N2++[⟨v,q1,q2⟩]))
def acH{L:aa Int}{R:aa Int->aa bu->Int->af (Int×aa bu)}{Q':Nat->aa Int->aa bu->Int->af (Int×aa bu)}{Q:Nat->aa Int->Int->af (Int×aa bu)}(hQ':NK L Q')(hR:∀n l N v x,(∀f,n<f->Q' f l N v=M x)->R l N v=M x)(hQ:NKn L R Q):∀{k:Nat} {v:Int} {l:aa Int},zZ l=2^k->2^k<=4096->0<=v->v+k<=1000000->(∀x∈l,x∈L)->zZ (bN (bw (tt k v l) []))+1<=2^k/\Lv L (bw (tt k v l) [])/\∀f,k<f->Q f l v=M (num L (bN (bw (tt k v l) [])) (tt k v l),iD L (bN (bw (tt k v l) [])))
 |0,v,l,hl,hk,hv,hv2,hL=>by
  obtain⟨x,rfl⟩:∃x,l=[x]:=List.length_eq_one_iff.1 hl;have e:bN (bw (.leaf x) [])=[]:=by
   rfl
  simp only[tt,xS];refine⟨by rw[e];simp,ahk (hL x (by simp)) (λy hy=>by cases hy),λf hf=> ?_⟩;obtain⟨f,rfl⟩:∃j,f=j+1:=⟨f-1,aj⟩;rw[hQ.one f x v (hL x (by simp)),e];rfl
 |k+1,v,l,hl,hk,hv,hv2,hL=>by
  have h2:2^(k+1)=2*2^k:=by rw[Nat.pow_succ];omega
  have hp:0<2^k:=yV aj;obtain⟨n1,L1,w1⟩:=acH hQ' hR hQ (k:=k) (v:=v+1) (l:=l.take (2^k)) (by rw[zL];omega) aj aj aj (λx hx=>hL x (List.mem_of_mem_take hx));have hc:Cl []:=λm v a b k e=>by cases m<;>cases e
  have hc1:=fe (tt k (v+1) (l.take (2^k))) hc;obtain⟨n2,L2,w2⟩:=mH hQ' (k:=k) (v:=v+1) (l:=l.drop (2^k)) (acc:=bw (tt k (v+1) (l.take (2^k))) []) (by rw[zX];omega) aj aj aj hc1 (λx hx=>hL x (wG hx)) L1 aj;simp only[tt];generalize ha:tt k (v+1) (l.take (2^k))=a at*;generalize hb:tt k (v+1) (l.drop (2^k))=b at*;have hc2:=fe b hc1;have ha2:a∈bw b (bw a []):=iR _ _ (cv _ _);have hb2:b∈bw b (bw a []):=cv _ _;obtain⟨s1,s2⟩:=abh hc (v:=v) L2;have hgo:∀f,k+1<f->Q f l v=M (if num L (bN (bw a [])) a=num L (bN (bw b (bw a []))) b then(num L (bN (bw a [])) a,iD L (bN (bw b (bw a []))))else if(⟨v,num L (bN (bw a [])) a,num L (bN (bw b (bw a []))) b⟩:bu)∈iD L (bN (bw b (bw a [])))then(((zZ L+(iD L (bN (bw b (bw a [])))).idxOf ⟨v,num L (bN (bw a [])) a,num L (bN (bw b (bw a []))) b⟩:Nat):Int),iD L (bN (bw b (bw a []))))else(((zZ L+zZ (iD L (bN (bw b (bw a [])))):Nat):Int),iD L (bN (bw b (bw a [])))++[⟨v,num L (bN (bw a [])) a,num L (bN (bw b (bw a []))) b⟩])):=λf hf=>by
   obtain⟨f,rfl⟩:∃j,f=j+1:=⟨f-1,aj⟩;have hh:zZ l/2=2^k:=aj;exact hQ.two f l v _ _ _ _ hv aj aj aj (by rw[hh];exact w1 f aj) (by rw[hh];exact hR k _ _ _ _ w2) (by rw[gT];omega)
  by_cases e:a=b
  ·have hd:=s2 e;have hm:lS v a b=a:=by rw[e];simp[lS]
   have hd1:bw b (bw a [])=bw a []:=by rw[<-e];exact lQ hc1 (cv _ _)
   rw[hd];refine⟨aj,L2,λf hf=> ?_⟩;rw[hgo f hf,bO (s1.2 e),hm,hd1]
  ·have hm:lS v a b= .node v a b:=by simp[lS,e]
   have hne:¬num L (bN (bw a [])) a=num L (bN (bw b (bw a []))) b:=λh=>e (s1.1 h);rw[hm];have hna:num L (bN (bw a [])) a=num L (bN (bw b (bw a []))) a:=(vY (cv a []) b).symm;by_cases hi:BT.node v a b∈bw b (bw a [])
   ·have hd:bw (.node v a b) []=bw b (bw a []):=by
     conv=>lhs;unfold bw
     rw[bO hi]
    rw[hd];refine⟨aj,L2,λf hf=> ?_⟩;rw[hgo f hf,bP hne,hna,bO ((vV hc2 L2 ha2 hb2).2 hi),N3 hc2 L2 hi];rfl
   ·have hd:bw (.node v a b) []=bw b (bw a [])++[.node v a b]:=by
     conv=>lhs;unfold bw
     rw[bP hi]
    rw[hd];refine⟨by rw[fA,zu];simp only[y8];omega,λx hx=> ?_,λf hf=> ?_⟩
    ·rcases zR.1 hx with h|h
     ·exact L2 x h
     ·simp at h
    ·rw[hgo f hf,bP hne,hna,bP λh=>hi ((vV hc2 L2 ha2 hb2).1 h),uY hc2 ha2 hb2]
     congr 2
     rw[fA,gT];simp only[num];rw[wB,bP λh=>hi (dL.1 h).1,wY];omega
def Ux{L:aa Int}(hl:zZ L<=1000000){x:Int}(hx:x∈L):afC L x=M ((L.idxOf x:Nat):Int):=by
 obtain⟨i,v,e,hI,h⟩:=oO (rnd:=Kc) (zZ L) (λi (_:Unit)=>⟨L,x,(zZ L:Int),(i:Int)⟩) (λi _=>∀j,j<i->L[j]!≠x) (λi _=>L[i]! =x) (λi _ hi hI=>by
  have i1:(i:Int)<(zZ L:Int):=aj;have i2:(0:Int)<=(i:Int):=aj;have hw2:ak ((i:Int)+1)=((i+1:Nat):Int):=jy hi aj;unfold Kc DK;simp only[dS,i1,i2,fZ,dx,hw2];by_cases e:x=L[i]!
  ·right;rw[l8 e];exact⟨rfl,e.symm⟩
  ·left;rw[iU e];refine⟨(),rfl,λj hj=> ?_⟩;by_cases ej:j=i
   ·subst ej;exact λh=>e h.symm
   ·exact hI j aj) (λ_ _=>by unfold Kc DK;simp) (b:=()) (λj hj=>aj)
 have hlt:L.idxOf x<zZ L:=yz hx;have hget:=dU hx;have e':KR ⟨L,x,(zZ L:Int),0⟩=M ⟨L,x,(zZ L:Int),(i:Int)⟩:=e;unfold afC DK;rw[e'];rcases h with rfl|⟨h1,h2⟩
 ·exact iy hget (hI _ hlt)
 ·have hi:i=L.idxOf x:=by
   have h3:L.idxOf x<=i:=by
    rcases xJ i (L.idxOf x)with h|h
    ·exfalso;have h4:=List.not_of_lt_findIdx (xs:=L) (p:=λy=>y==x) (i:=i) h;rw[getElem!_pos L i h1]at h2;simp[h2]at h4
    ·exact h
   rcases xJ (L.idxOf x) i with h|h
   ·exact iy hget (hI _ h)
   ·omega
  have i1:(i:Int)<(zZ L:Int):=aj;have i2:(0:Int)<=(i:Int):=aj;simp only[dS,i1,i2,fZ,dx,h2];rw[hi]
def WZ{N:aa bu}(hl:zZ N<1000000000)(x:bu):abg N x=M (if x∈N then((N.idxOf x:Nat):Int)else-1):=by
 have hdec:∀i:Nat,(bif w9 (x.bq=N[i]!.bq)then bif w9 (x.aC=N[i]!.aC)then bif w9 (x.au=N[i]!.au)then Z else O else O else O)=w9 (N[i]! =x):=λi=>by
  generalize N[i]! =y;obtain⟨a,b,c⟩:=x;obtain⟨a',b',c'⟩:=y;simp only[bu.mk.injEq];by_cases h1:a=a'<;>by_cases h2:b=b'<;>by_cases h3:c=c'<;>simp[h1,h2,h3,eq_comm]
  all_goals first|done|(intro h;simp_all)
 obtain⟨i,v,e,hI,h⟩:=oO (rnd:=Lm) (zZ N) (λi (_:Unit)=>⟨N,(zZ N:Int),(i:Int),x⟩) (λi _=>∀j,j<i->N[j]!≠x) (λi _=>N[i]! =x) (λi _ hi hI=>by
  have i1:(i:Int)<(zZ N:Int):=aj;have i2:(0:Int)<=(i:Int):=aj;have hw2:ak ((i:Int)+1)=((i+1:Nat):Int):=by rw[aI];rfl
  unfold Lm Fa;simp only[dS,i1,i2,fZ,dx,hw2,hdec];by_cases e:N[i]! =x
  ·right;rw[l8 e];exact⟨rfl,e⟩
  ·left;rw[iU e];refine⟨(),rfl,λj hj=> ?_⟩;by_cases ej:j=i
   ·subst ej;exact e
   ·exact hI j aj) (λ_ _=>by unfold Lm Fa;simp) (b:=()) (λj hj=>aj)
 have e':Jw ⟨N,(zZ N:Int),0,x⟩=M ⟨N,(zZ N:Int),(i:Int),x⟩:=e;unfold abg Fa;rw[e'];rcases h with rfl|⟨h1,h2⟩
 ·have hx:x∉N:=λhx=>hI _ (yz hx) (dU hx);simp only[zO,mF,fO];rw[bP hx]
 ·have hx:x∈N:=by rw[<-h2];exact mem_get! h1
  have hi:i=N.idxOf x:=by
   have h3:N.idxOf x<=i:=by
    rcases xJ i (N.idxOf x)with h|h
    ·exfalso;have h4:=List.not_of_lt_findIdx (xs:=N) (p:=λy=>y==x) (i:=i) h;rw[getElem!_pos N i h1]at h2;simp[h2]at h4
    ·exact h
   rcases xJ (N.idxOf x) i with h|h
   ·exact iy (dU hx) (hI _ h)
   ·omega
  have i1:(i:Int)<(zZ N:Int):=aj;have i2:(0:Int)<=(i:Int):=aj;simp only[dS,i1,i2,fZ,dx,hdec];rw[h2,l8 rfl,bO hx,hi];rfl
def half{n:Nat}(h:n<1000000000):ak ((n:Int).tdiv 2)=((n/2:Nat):Int):=by
 rw[Int.tdiv_eq_ediv_of_nonneg aj,aI];omega
def cnd{α:Type}(p:Prop)[Decidable p](a b:α):(bif decide p then a else b)=if p then a else b:=by by_cases h:p<;>simp[h]
def apN(x:Int):(zZ ([x]:aa Int):Int)=1:=rfl
def nkQ{L:aa Int}(hL:zZ L<=1000000):NK L (λf l N v=>MZ f l L v N) where
 one:=λk x N v hx=>by
  show ads (MZ k) [x] L v N=_;unfold ads;simp only[apN,mG,fZ];rw[bO (by decide)];simp only[xS,Ux hL hx]
 two:=λk l N v q1 N1 q2 N2 hv hv2 hl hl2 w1 w2 hn=>by
  show ads (MZ k) l L v N=_;unfold ads;have c1:w9 ((zZ l:Int)=1)=O:=gI;have hh:=half hl2;have c2:(0:Int)<=((zZ l/2:Nat):Int)/\((zZ l/2:Nat):Int)<=(zZ l:Int):=aj;have hw:ak (v+1)=v+1:=aI;simp only[dS,c1,fO,hh,c2,dx,hw,w1,w2,WZ hn,cnd];by_cases e1:q1=q2
  ·simp only[e1,dx]
  ·simp only[e1,AE];by_cases e2:(⟨v,q1,q2⟩:bu)∈N2
   ·have hlt:=yz e2;have hw2:ak ((zZ L:Int)+((N2.idxOf (⟨v,q1,q2⟩:bu):Nat):Int))=((zZ L+N2.idxOf ⟨v,q1,q2⟩:Nat):Int):=by rw[aI];omega
    have c3:(0:Int)<=((N2.idxOf (⟨v,q1,q2⟩:bu):Nat):Int):=aj;simp only[e2,dx,hw2,c3]
   ·have hw2:ak ((zZ L:Int)+(zZ N2:Int))=((zZ L+zZ N2:Nat):Int):=by rw[aI];omega
    have c3:¬(0:Int)<= -1:=aj;have c4:zZ (N2++[(⟨v,q1,q2⟩:bu)])<=1073741824:=by simp;omega
    simp only[lG,e2,hw2,c3,c4]
def aIr{L:aa Int}(hL:zZ L<=1000000):NKn L (λl N v=>aaI l L v N) (λf l v=>P7 f l L v) where
 one:=λk x v hx=>by
  show adT (P7 k) [x] L v=_;unfold adT;simp only[apN,mG,fZ];rw[bO (by decide)];simp only[xS,Ux hL hx]
 two:=λk l v q1 N1 q2 N2 hv hv2 hl hl2 w1 w2 hn=>by
  show adT (P7 k) l L v=_;unfold adT;have c1:w9 ((zZ l:Int)=1)=O:=gI;have hh:=half hl2;have c2:(0:Int)<=((zZ l/2:Nat):Int)/\((zZ l/2:Nat):Int)<=(zZ l:Int):=aj;have hw:ak (v+1)=v+1:=aI;simp only[dS,c1,fO,hh,c2,dx,hw,w1,w2,WZ hn,cnd];by_cases e1:q1=q2
  ·simp only[e1,dx]
  ·simp only[e1,AE];by_cases e2:(⟨v,q1,q2⟩:bu)∈N2
   ·have hlt:=yz e2;have hw2:ak ((zZ L:Int)+((N2.idxOf (⟨v,q1,q2⟩:bu):Nat):Int))=((zZ L+N2.idxOf ⟨v,q1,q2⟩:Nat):Int):=by rw[aI];omega
    have c3:(0:Int)<=((N2.idxOf (⟨v,q1,q2⟩:bu):Nat):Int):=aj;simp only[e2,dx,hw2,c3]
   ·have hw2:ak ((zZ L:Int)+(zZ N2:Int))=((zZ L+zZ N2:Nat):Int):=by rw[aI];omega
    have c3:¬(0:Int)<= -1:=aj;have c4:zZ (N2++[(⟨v,q1,q2⟩:bu)])<=1073741824:=by simp;omega
    simp only[lG,e2,hw2,c3,c4]
def anw{L:aa Int}(hL:zZ L<=1000000){k:Nat}(hk:k<=12){l:aa Int}(hl:zZ l=2^k)(hm:∀x∈l,x∈L):abw l L 0=M (num L (bN (bw (tf k 0 λe=>l[nL e]!) [])) (tf k 0 λe=>l[nL e]!),iD L (bN (bw (tf k 0 λe=>l[nL e]!) []))):=by
 have h4:2^k<=4096:=zK (xB (n:=2) aj hk) (by decide);obtain⟨_,_,w⟩:=acH (nkQ hL) (R:=λl N v=>aaI l L v N) (λn l N v x h=>dc (n+1) λf hf=>h f aj) (aIr hL) (v:=0) hl h4 aj aj hm;rw[<-ahJ hl];exact dc (k+1) λf hf=>w f aj
def pw2(n:Nat):((2:Int)^n)=((2^n:Nat):Int):=by simp
def XM:∀{e:aa Bool} {i:Nat},i<zZ e->(nL e/2^(zZ e-1-i))%2=if e[i]! then 1 else 0
 |b::e,0,_=>by
  have h:=tV e;have hp:0<2^e.length:=yV aj;simp only[nL,ya,xS];rw[show zZ e+1-1-0=zZ e by omega];cases b
  ·simp only[xz,AE,zY];rw[Nat.div_eq_of_lt h]
  ·simp only[dx];rw[Nat.add_comm,Nat.add_div_right _ hp,Nat.div_eq_of_lt h]
 |b::e,i+1,hi=>by
  have hi':i<zZ e:=by simpa using hi
  have ih:=XM hi';simp only[nL,ya,List.getElem!_cons_succ];rw[show zZ e+1-1-(i+1)=zZ e-1-i by omega,<-ih];cases b
  ·simp
  ·simp only[dx];have e1:2^e.length=2^(zZ e-1-i)*(2*2^i):=by
    rw[Nat.mul_comm 2,<-Nat.pow_succ,<-Nat.pow_add]
    congr 1
    omega
   rw[e1,Nat.mul_add_div (yV aj),Nat.add_comm,Nat.add_mul_mod_self_left]
def Nk:Nat->Nat->aa Bool
 |0,_=>[]
 |k+1,K=>if K<2^k then O::Nk k K else Z::Nk k (K-2^k)
def Gb:∀(k K:Nat),zZ (Nk k K)=k
 |0,_=>rfl
 |k+1,K=>by
  unfold Nk;split<;>simp[Gb k]
def Ko:∀{k K:Nat},K<2^k->nL (Nk k K)=K
 |0,K,h=>by simp at h;simp[Nk,nL,h]
 |k+1,K,h=>by
  have h2:2^(k+1)=2*2^k:=by rw[Nat.pow_succ];omega
  unfold Nk;split
  ·rename_i h1;simp[nL,Ko h1]
  ·simp only[nL,dx,Gb];rw[Ko aj];omega
def afp:∀e:aa Bool,Nk (zZ e) (nL e)=e
 |[]=>rfl
 |b::e=>by
  have h:=tV e;have ih:=afp e;cases b
  ·simp only[ya,nL,xz,AE,zY,Nk];rw[bO h,ih]
  ·simp only[ya,nL,dx,Nk];rw[nB,show 2^e.length+nL e-2^e.length=nL e by omega,ih]
end Go.Proofs.YtghilkcphindjaaGreat
namespace Go.Iv
variable [U:HB] [L:Ho]
open Go Go.RowKit Go.Shelf Go.Proofs
def rfF{γ:Type}(rnd:γ->Nat->af γ):γ->aa Nat->af γ
 |p,[]=>M p
 |p,i::l=>(rnd p i).bind λq=>rfF rnd q l
def uN{γ:Type}(rnd:γ->Nat->af γ)(i:Nat):∀(l:aa Nat) (p:γ),rfF rnd p (l++[i])=(rfF rnd p l).bind λq=>rnd q i
 |[],p=>by
  show (rnd p i).bind (λq=>M q)=rnd p i;cases rnd p i<;>rfl
 |j::l,p=>by
  show (rnd p j).bind (λq=>rfF rnd q (l++[i]))=((rnd p j).bind λq=>rfF rnd q l).bind λq=>rnd q i;cases rnd p j with
  |none=>rfl
  |some q=>exact uN rnd i l q
open Classical in
def rfA{γ:Type}(rnd:γ->Nat->af γ)(len:γ->Nat)(p:γ):af γ:=
 if∀pre:aa Nat,zZ pre<=len p->(∀i∈pre,i<len p)->∃q,rfF rnd p pre=M q then rfF rnd p (zy (len p))else J
def aci{γ:Type}{P:Program}{F:aT}(hF:bK P F){n0 n t id gf:Nat}{ps:Array Tmp}{assign body:Code}{pat:γ->St}{E0:ET}{R0:γ->aS}{nx:Nat}{T:TypeId}{cs:γ->aa AV}{es:γ->aa (aa AV)}{rnd:γ->Nat->af γ}
  {EA:γ->Nat->Env} {EB:γ->Nat->ET} {rdB:γ->St->af γ} {patB:γ->St}
  (hpl:plC body=Z) (hpat:∀p,pat p=⟨E0,R0 p++[(id, .box T (cs p))],nx⟩) (hcap:cF E0 t=M (.fn (.func gf) [.ptr id 0])) (hcl:∀p ρ,(cs p).map (bU.sub ρ)=cs p) (hcn:∀p,∀c∈cs p,Iv.cE nx c)
  (hit:∀p,Iter P gf [.fp (cs p)] (es p)) (eg:Enters P gf) (hps:∀p i,i<zZ (es p)->(es p)[i]!.length=ps.size) (hpn:∀p∈ps.toList,p<n)
  (hLt:∀p,aS.cE nx (R0 p)) (hrs:∀p ρ ρ',nc nx ρ ρ'->aS.res ρ' (R0 p)=aS.res ρ (R0 p)) (hbk:∀p q ρ,bh (aS.res ρ (R0 p))=bh (aS.res ρ (R0 q))) (nomp:∀p ρ,SE (aS.res ρ (R0 p)))
  (inv:∀p i q,rnd p i=M q->cs q=cs p/\es q=es p/\EA q=EA p)
  (hEs:∀p i ρ,Env.sub ρ (EA p i)=EA p i) (hEn:∀p i,Env.cE nx (EA p i))
  (hA:∀C' p i (E:Env) σ,i<zZ (es p)->HF P C' n assign (λe E1 σ1=>e= .normal/\Iv.Sub (EA p i++E) E1/\List.Sublist σ σ1) (Ex ps.toList (es p)[i]! E) σ)
  (hEB:∀p i (E:Env),pP E0 E->pP (EB p i) (EA p i++(t, .fn (.func gf) [.fp (cs p)])::E))
  (hB:∀p i q,i<zZ (es p)->rnd p i=M q->exec P F n 300 body ⟨EB p i,R0 p,nx⟩ (Zf (rdB p))=M q)
  (hrd:∀p,lI nx n (rdB p) patB) (hpB:∀q,(patB q).R=R0 q):
  YI P n0 n (.rangeFunc (.tmp t) ps assign body) pat (λx=>⟨ig t (.fn (.func gf) [.fp (cs x)]) E0,R0 x,nx⟩) (rfA rnd λp=>zZ (es p)):=by
 intro C p q a w hC hq hm;unfold rfA at hq;split at hq
 case isFalse=>cases hq
 rename_i htot;have hinv:∀(l:aa Nat) (p q:γ),rfF rnd p l=M q->cs q=cs p/\es q=es p/\EA q=EA p:=λl=>by
  induction l with
  |nil=>intro p q h;cases h;exact⟨rfl,rfl,rfl⟩
  |cons i l ih=>
   intro p q h;obtain⟨p',h1,h2⟩:=zl.1 (show (rnd p i).bind (λq=>rfF rnd q l)=M q from h);obtain⟨a1,a2,a3⟩:=inv p i p' h1;obtain⟨b1,b2,b3⟩:=ih p' q h2;exact⟨b1.trans a1,b2.trans a2,b3.trans a3⟩
 rw[hpat]at hm;obtain⟨E,hh,hE,hR,ρ,⟨hag,hag2⟩,hsim⟩:=hm;simp only at hh hE hR hag2 hsim;have hres:aS.res ρ (R0 p++[(id, .box T (cs p))])=aS.res ρ (R0 p)++[.box (ρ.b id) T (cs p)]:=by
  simp only[aS.res,zH,zI,yx,IR.res,hcl]
 rw[hres]at hsim;have hget:(E.sub ρ).get t=M (.fn (.func gf) [.lit (.pointer (M ⟨ρ.b id,0,J⟩))]):=by
  rw[Env.eR,hh t _ hcap];simp[bU.sub]
 have hs1:=hsim.Aw (i:=zZ (aS.res ρ (R0 p))) (t:=t) (r:= .box (ρ.b id) T (cs p)) (by simp) hget (bv:= .fn (.func gf) [.fp (cs p)]) (Vw.fn (VwL.cons (Vw.box 0 rfl) VwL.nil));have her:(aS.res ρ (R0 p)++[bM.box (ρ.b id) T (cs p)]).eraseIdx (aS.res ρ (R0 p)).length=aS.res ρ (R0 p):=by
  rw[List.eraseIdx_append_of_length_le (zx _)];simp
 rw[her]at hs1;have hfz:(bU.fn (.func gf) [.fp (cs p)]:AV).sub ρ= .fn (.func gf) [.fp (cs p)]:=by simp[bU.sub,hcl]
 have hfl:Iv.cE nx (bU.fn (.func gf) [.fp (cs p)]:AV):= .fn _ _ λc hc=>by
  rw[zA.1 hc];exact .fp _ (hcn p)
 refine wp_mono (CW.rfa (P:=P) (C:=C.C) (n:=n) (Q:=λe E2 σ2=>e= .normal/\E2=(t, .fn (.func gf) [.fp (cs p)])::E.sub ρ/\∃p',rfF rnd p (zy (es p).length)=M p'/\σ2=aS.res ρ (R0 p')) (g:= .tmp t) (ps:=ps) (assign:=assign) (body:=body) (gf:=gf) (caps:=[.fp (cs p)]) (es:=es p)
  (λpre σ=>(∀i∈pre,i<zZ (es p))/\∃p',rfF rnd p pre=M p'/\σ=aS.res ρ (R0 p')) (λi=>EA p i++(t, .fn (.func gf) [.fp (cs p)])::E.sub ρ) ?_ ?_ (by show Env.get _ t=_;exact Env.ew _ _ _) eg (hit p) (hps p) hpn ⟨λi hi=>iy hi (by simp),p,rfl,rfl⟩ ?_ ?_ ?_ a w hs1) ?_
 ·rintro pre σ ⟨_,p',_,rfl⟩;exact nomp p' ρ
 ·rintro C0 W pre pre' σ σ' ⟨_,p1,_,rfl⟩ ⟨_,p2,_,rfl⟩ _ _;exact hbk p1 p2 ρ
 ·rintro C' pre i σ' hi ⟨h1,p',h2,rfl⟩;exact(hA C' p i _ _ hi).mono λe E1 σ1 ⟨g1,g2,g3⟩=>⟨g1,g2,_,⟨h1,p',h2,rfl⟩,g3⟩
 ·rintro C' pre i σ' hi hlen ⟨h1,p',h2,rfl⟩;have hmem:∀j∈pre++[i],j<zZ (es p):=λj hj=>by
   rcases zR.1 hj with h|h
   ·exact h1 j h
   ·rw[zA.1 h];exact hi
  obtain⟨p'',h3⟩:=htot (pre++[i]) (by simp;omega) hmem;have h4:rnd p' i=M p'':=by
   rw[uN,h2]at h3;exact h3
  obtain⟨v1,v2,v3⟩:=hinv pre p p' h2;intro lp m a' w' hs' hd;have hMt:Mt ⟨C',ρ,nx⟩ n ⟨EB p' i,R0 p',nx⟩ a' w':=by
   refine⟨EA p i++(t, .fn (.func gf) [.fp (cs p)])::E,?_,?_,hLt p',ρ,⟨nc.refl _ _,zx _⟩,?_⟩
   ·have:=hEB p' i E hh;rw[v1,v3]at this;exact this
   ·intro x hx;rcases zR.1 hx with h|h
    ·exact hEn p i x h
    ·rcases zk.1 h with rfl|h
     ·exact hfl
     ·exact hE x h
   ·have e1:Env.sub ρ (EA p i++(t, .fn (.func gf) [.fp (cs p)])::E)=EA p i++(t, .fn (.func gf) [.fp (cs p)])::E.sub ρ:=by
     have e2:=hEs p i ρ;unfold Env.sub at e2 ⊢;rw[zH,e2,zI];simp only[hfz]
    show lH C' n (Env.sub ρ (EA p i++(t, .fn (.func gf) [.fp (cs p)])::E)) _ a' w';rw[e1];exact hs'
  refine wpIn_mono (vE hF.ok hF.nat 300 body hpl lp m p'' _ _ a' w' (hB p' i p'' (by rw[v2];exact hi) h4) hMt hd) ?_;rintro e a2 w2 ⟨hd2,s',hk,hm2⟩;cases e with
  |normal=>
   obtain⟨E3,_,_,_,ρ3,⟨hag3,_⟩,hs3⟩:=hrd p' ⟨C',ρ,nx⟩ s' p'' a2 w2 rfl hk hm2;rw[hpB]at hs3;rw[hrs p'' ρ ρ3 hag3]at hs3;exact⟨hd2,_,_,hs3,rfl,_,⟨hmem,p'',by rw[uN,h2];exact h4,rfl⟩,List.Sublist.refl _⟩
  |_=>cases hk
 ·rintro σ' ⟨_,p',h2,rfl⟩;exact⟨rfl,rfl,p',h2,rfl⟩
 ·rintro e a' w' ⟨E2,σ2,hs2,rfl,rfl,p',h2,rfl⟩;rw[h2]at hq;cases hq;obtain⟨v1,v2,v3⟩:=hinv _ p q h2;refine⟨rfl,(t, .fn (.func gf) [.fp (cs q)])::E,hh.put t _,?_,hLt q,ρ,⟨hag,hag2⟩,?_⟩
  ·intro x hx;rcases zk.1 hx with rfl|h
   ·rw[v1];exact hfl
   ·exact hE x h
  ·rw[v1];have e1:Env.sub ρ ((t, .fn (.func gf) [.fp (cs p)])::E)=(t, .fn (.func gf) [.fp (cs p)])::E.sub ρ:=by
    unfold Env.sub;rw[zI];simp only[hfz]
   show lH C.C n (Env.sub ρ ((t, .fn (.func gf) [.fp (cs p)])::E)) _ a' w';rw[e1];exact hs2
end Go.Iv
namespace Go.Proofs.YtghilkcphindjaaGreat
open Go Go.Iv Go.Shelf
def akb:aT:=(oK va (avW (aeF (e75 (e74 dz)))) (λf=>zg f 74||zg f 75||zg f 115||zg f 118) 300 10)
def WC:bK va akb:=⟨nD (bK.ok (lV (jG (lZ (sW aP))))) (bK.nat (P:=va) (lV (jG (lZ (sW aP))))) 300 10,kF (bK.nat (P:=va) (lV (jG (lZ (sW aP))))) 300 10⟩
structure eV where
 b0:aK
 (b2 b3 b4:aq)
 b5:List Int
def je:Td 1 eV:= .c [] [3,4,6,7,13] (.r 1 6 (ec 3 (qp 1 0) (ec 4 (qp 2 0) (ec 6 (qp 3 0) (ec 7 (qp 4 0) (ec 13 (qf 250 (lc (qp 5 0) ln)) en))))) (sb 0 138 (lg 138) (sb 1 126 AN (sb 2 80 (lg 80) (sb 3 80 w8_ (sb 4 80 (lg 80) (sb 5 46 (lc (ql 3) ln) sn)))))) (λz=>⟨z.2.1,z.t.2.1,(aq.mk z.q.1.1 [] [] z.q.1.t.2.1),z.q.2.1,z.q.t.1.1⟩) (λx=>(((),(),(),(),((),()),()),(x.b0,((),()),x.b2,(x.b3.ah,(),(),x.b3.aH,()),x.b4,(x.b5,()),()))))
structure ag1 where
 b0:aK
 (b2 b3 b4:aq)
def SN:Td 6 ag1:= .c [] [] (.r 6 6 en (sb 0 138 (lg 138) (sb 1 126 AN (sb 2 80 (lg 80) (sb 3 80 w8_ (sb 4 80 (lg 80) sn))))) (λz=>⟨z.2.1,z.t.2.1,(aq.mk z.q.1.1 [] [] z.q.1.t.2.1),z.q.2.1⟩) (λx=>((),(x.b0,((),()),x.b2,(x.b3.ah,(),(),x.b3.aH,()),x.b4,()))))
def uU:ET:=(je.pat ⟨default,default,default,default,[]⟩).E
def rj(p:eV):aS:=[(0, .box 138 (uni.cells 138 p.b0)),(1, .box 126 [.ptr 0 0]),(2, .box 80 (uni.cells 80 p.b2)),(3, .box 80 [.n .i64 p.b3.ah, .lit (.slice J 0 0), .lit (.slice J 0 0), .n .i64 p.b3.aH]),(4, .box 80 (uni.cells 80 p.b4))]
def Xu(p:eV)(i:Nat):ET:=ig 9 (.n .i64 (p.b5[zZ p.b5-1-i]! :Int)) (ig 15 (.n .i64 (p.b5[zZ p.b5-1-i]! :Int)) (ig 14 (.n .i64 ((zZ p.b5:Int)-1-(i:Int))) (ig 13 (.fn (.func 250) [.fp [.sl 3 p.b5]]) uU)))
def aoD(p:eV):St->af eV:=rdM (λz:ag1=>eV.mk z.b0 z.b2 z.b3 z.b4 p.b5) SN.rd
def Dr:Code->Code
 | .rangeFunc _ _ _ b=>b
 |_=> .skip
def Lu:Code->Code
 | .rangeFunc _ _ a _=>a
 |_=> .skip
def oo(p:eV)(i:Nat):af eV:=
 match ij 7 (aq.mk (fh (p.b5[zZ p.b5-1-i]! :Int) p.b0).fst.ah (fh (p.b5[zZ p.b5-1-i]! :Int) p.b0).fst.aG [] (fh (p.b5[zZ p.b5-1-i]! :Int) p.b0).fst.aH) p.b2 (fh (p.b5[zZ p.b5-1-i]! :Int) p.b0).snd with
 |none=>J
 |some r1=>match Gu r1.fst 0 r1.snd with
  |none=>J
  |some r2=>match Y9 r2.fst (aq.mk (fh (p.b5[zZ p.b5-1-i]! :Int) p.b0).fst.ah (fh (p.b5[zZ p.b5-1-i]! :Int) p.b0).fst.aG [] (fh (p.b5[zZ p.b5-1-i]! :Int) p.b0).fst.aH) p.b4 r2.snd with
   |none=>J
   |some r3=>M (eV.mk r3.snd p.b2 (aq.mk p.b3.ah [] [] p.b3.aH) r3.fst p.b5)
def anP(p:eV)(i:Nat):exec va akb f133.ntmps 300 (Dr (gU f133 0)) (α:=eV) ⟨Xu p i,rj p,6⟩ (Zf (aoD p))=oo p i:=aL
def Ag:eV->af eV:=rfA oo λp=>zZ (pY p.b5)
def Zo(p:eV):je.pat p=⟨uU,rj p++[(5, .box 46 [.sl 3 p.b5])],6⟩:=aL
def ag5(p:eV):rfE 13 (je.pat p)=⟨ig 13 (.fn (.func 250) [.fp [.sl 3 p.b5]]) uU,rj p,6⟩:=aL
def Z5:cF uU 13=M (.fn (.func 250) [.ptr 5 0]):=aL
def ayO:gU f133 0= .rangeFunc (.tmp 13) #[14,15] (Lu (gU f133 0)) (Dr (gU f133 0)):=aL
def YN{p q:eV}{i:Nat}(h:oo p i=M q):q.b5=p.b5:=by
 unfold oo at h;split at h
 ·cases h
 split at h
 ·cases h
 split at h
 ·cases h
 cases h;rfl
def av5(C':Cx)(x y:Int)(E:Env)(σ:aa bM):HF va C' f133.ntmps (Lu (gU f133 0)) (λe E1 σ1=>e= .normal/\Iv.Sub ((9, .n .i64 y)::(15, .n .i64 y)::(14, .n .i64 x)::E) E1/\List.Sublist σ σ1) (Ex [14,15] [.n .i64 x, .n .i64 y] E) σ:=by
 refine HF.region (id:=3) rfl ?_;refine RW.p rfl rfl aL (Yp.assign rfl rfl) ?_;refine RW.nil ?_;exact⟨rfl,λ_ _ h=>h,List.Sublist.refl _⟩
def aoG(p:eV):aS.cE 6 (rj p):=eT aL
def adw:YI va 1 f133.ntmps (gU f133 0) je.pat (λx=>rfE 13 (je.pat x)) Ag:=by
 rw[ayO,show (λx=>rfE 13 (je.pat x))=λx=>⟨ig 13 (.fn (.func 250) [.fp [.sl 3 x.b5]]) uU,rj x,6⟩from funext ag5];refine aci (γ:=eV) WC (id:=5) (T:=46) (cs:=λp=>[.sl 3 p.b5]) (es:=λp=>pY p.b5) (EA:=λp i=>[(9, .n .i64 (p.b5[zZ p.b5-1-i]! :Int)),(15, .n .i64 (p.b5[zZ p.b5-1-i]! :Int)),(14, .n .i64 ((zZ p.b5:Int)-1-(i:Int)))]) (EB:=Xu) (rdB:=aoD) (patB:=λq=>SN.pat ⟨q.b0,q.b2,q.b3,q.b4⟩) aL Zo Z5 (λp ρ=>congrArg (· ::[]) (fV ρ 3 p.b5)) (λp c hc=>by rw[zA.1 hc];exact .sl _ _) (λp=>Tx p.b5) (enters_of func250 aL rfl) (λp i hi=>by rw[Gd p.b5 (by rw[kU]at hi;exact hi)];rfl) (λx hx=> ?_) aoG (λp ρ ρ' h=>((aoG p).res h).symm) (λp q ρ=>rfl) (λp ρ r hr v es e=> ?_) (λp i q h=>by simp only[YN h,Au]) (λp i ρ=>by simp[Env.sub,bU.sub]) (λp i x hx=>by
  simp only[zk,yD,or_false]at hx;rcases hx with rfl|rfl|rfl<;>exact .lit _) (λC' p i E σ hi=> ?_) (λp i E hE=> ?_) (λp i q hi h=>by rw[anP];exact h) (λp=>lI.m (SN.ok _) _ λz=>rfl) (λq=>aL)
 ·have h:(List.all [14,15] λy=>zB y f133.ntmps)=Z:=aL;have h2:=zn.1 h x hx;rw[xw]at h2;exact h2
 ·simp only[aS.res,rj,zI,yx,IR.res,zk,yD,or_false]at hr;rcases hr with rfl|rfl|rfl|rfl|rfl<;>cases e
 ·rw[Gd p.b5 (by rw[kU]at hi;exact hi)];exact av5 C' _ _ E σ
 ·exact(((hE.put 13 _).put 14 _).put 15 _).put 9 _
abbrev aAc:=aq×aK
def d133:Td 1 aAc:= .c [] [6] (.r 1 2 (ec 6 (qp 1 0) en) (sb 0 138 (lg 138) (sb 1 80 (lg 80) sn)) (λz=>(z.t.1,z.2.1)) (λx=>(((),()),(x.2,x.1,()))))
def aAV:=(lc (qp 0 0) (lc (qg 80) (lc (ql 3) ln)))
def aAi:=(sb 0 138 (lg 138) sn)
def apv:An:=(cA 2 (.two (noTwo (je.rf (λx=>rfE 13 (je.pat x)) Ag)) .no))
def aA8:dB va (akb) 1 300 133 (apv):=bF (l:=[(gU f133 0,(je.rf (λx=>rfE 13 (je.pat x)) Ag))]) func133 (aY aL) aL (aA ⟨je.ok _,adw⟩ az)
def acU(a1:aq)(a2:aa Int)(b0:aK):af aAc:=
 match Ag (eV.mk b0 a1 (aq.mk (0) [] [] (0)) a1 a2)with|J=>J|M r1=>M ((r1.b4,r1.b0))
def aKG(a1:aq)(a2:aa Int)(b0:aK):bY va (akb) 300 (apv) 133 (aAV.c ((),a1,a2,())) (aAi.d (b0,())) 1 d133.rd=acU a1 a2 b0:=aL
def aAp:aT->aT:=eY va 133 1 aAV aAi d133 (λg=>acU g.1.2.1 g.1.t.1 g.2.1)
def anY{F:aT}(h:bK va F):bK va (aAp F):=gi (gZ WC aA8 (λ_=>aL) (λ_=>aL) (λ_=>aL) λg=>aKG g.1.2.1 g.1.t.1 g.2.1) ⟨_,func133,aL,aL⟩ (λ_=>aL) h
end Go.Proofs.YtghilkcphindjaaGreat
namespace Go.Proofs.YtghilkcphindjaaGreat
open Go Go.Iv
open Go.IntKind (i64 u64)
abbrev auW:=aq×aK
def d192:Td 1 auW:= .c [] [8] (.r 1 2 (ec 8 (qp 1 0) en) (sb 0 138 (lg 138) (sb 1 80 (lg 80) sn)) (λz=>(z.t.1,z.2.1)) (λx=>(((),()),(x.2,x.1,()))))
def aH2:=(sb 0 138 (lg 138) sn)
def acC(a1:Int)(a2:aq)(a3:aq)(b0:aK):af auW:=
 bif w9 (a1=8)then match ij (0) a2 a3 b0 with|J=>J|M r1=>M (r1)else bif w9 (a1=9)then match ij (1) a2 a3 b0 with|J=>J|M r2=>M (r2)else bif w9 (a1=10)then match ij (2) a2 a3 b0 with|J=>J|M r3=>M (r3)else bif w9 (a1=11)then match ij (3) a2 a3 b0 with|J=>J|M r4=>M (r4)else bif w9 (a1=12)then match ij (4) a2 a3 b0 with|J=>J|M r5=>M (r5)else bif w9 (a1=13)then match ij (8) a2 a3 b0 with|J=>J|M r6=>M (r6)else bif w9 (a1=14)then match ij (8) a2 a3 b0 with|J=>J|M r7=>match Qf r7.fst r7.snd with|J=>J|M r8=>M (r8)else bif w9 (a1=15)then match ij (7) a2 a3 b0 with|J=>J|M r9=>M (r9)else bif w9 (a1=18)then match ij (7) a2 a3 b0 with|J=>J|M r10=>match Qf r10.fst r10.snd with|J=>J|M r11=>M (r11)else bif w9 (a1=17)then match ij (7) a3 a2 b0 with|J=>J|M r12=>M (r12)else bif w9 (a1=16)then match ij (7) a3 a2 b0 with|J=>J|M r13=>match Qf r13.fst r13.snd with|J=>J|M r14=>M (r14)else bif w9 (a1=21)then match ij (5) a2 a3 b0 with|J=>J|M r15=>M (r15)else bif w9 (a1=22)then match ij (6) a2 a3 b0 with|J=>J|M r16=>M (r16)else bif w9 (a1=20)then match Ah a2 b0 with|J=>J|M r17=>match Ah a3 r17.snd with|J=>J|M r18=>match N9 (14) r17.fst r18.fst with|J=>J|M r19=>match m82 r19.fst r18.snd with|J=>J|M r20=>M (r20)else match Ah a2 b0 with|J=>J|M r21=>match Ah a3 r21.snd with|J=>J|M r22=>match N9 (8) r21.fst r22.fst with|J=>J|M r23=>match m82 r23.fst r22.snd with|J=>J|M r24=>M (r24)
def aGa:aT->aT:=eY va 192 1 amM aH2 d192 (λg=>acC g.1.2.1 g.1.t.1 g.1.t.2.1 g.2.1)
def ajW:EO aGa:=λh=>kY (an:= .no) func192 (VJ (Dz (LF (jG (aaL aP))))) az h
abbrev lu:=aq×aK
def d127:Td 1 lu:= .c [] [6] (.r 1 2 (ec 6 (qp 1 0) en) (sb 0 138 (lg 138) (sb 1 80 (lg 80) sn)) (λz=>(z.t.1,z.2.1)) (λx=>(((),()),(x.2,x.1,()))))
def aA4:=(lc (qp 0 0) (lc (qg 150) Lt))
def aBa:=(sb 0 138 (lg 138) sn)
def aw9(zf:aF->ay->aK->af lu):aT->aT:=eY va 127 1 aA4 aBa d127 (λg=>zf g.1.2.1 g.1.2.2.1 g.2.1)
def alP(zf:aF->ay->aK->af lu):Prop:=HY va 127 1 aA4 aBa d127 (λg=>zf g.1.2.1 g.1.2.2.1 g.2.1)
def W9{zf:aF->ay->aK->af lu}(hM:alP zf):EO (aw9 zf):=gi hM ⟨_,func127,aL,aL⟩ (λ_=>aL)
def aCC(M127:aF->ay->aK->af lu):aT:=(aGa (aAQ (aiR (aw9 M127 (auw (avW (aeF (e75 (e74 dz)))))))))
def amS{M127}(h127:alP M127):bK va (aCC M127):=(ajW (VJ (Dz (W9 h127 (u7 (lV (jG (lZ (sW aP)))))))))
structure l9 where
 t7:List aq
 (t95 t96:Int)
 b0:aK
 (b1 b3 b4:aq)
def Q6:Td 1 l9:= .c [] [0,6,7,11,13,95,96] (.r 1 5 (ec 0 (qp 0 0) (ec 6 (qp 1 0) (ec 7 (qo 2) (ec 11 (qp 3 0) (ec 13 (qp 4 0) (ec 95 aU (ec 96 aU en))))))) (sb 0 138 (lg 138) (sb 1 80 w8_ (sr 2 80 (sb 3 80 (lg 80) (sb 4 80 (lg 80) sn))))) (λz=>⟨z.t.2.1,z.1.q.2.1,z.1.q.t.1,z.2.1,(aq.mk z.t.1.1 [] [] z.t.1.t.2.1),z.q.1,z.q.2.1⟩) (λx=>(((),(),(),(),(),x.t95,x.t96,()),(x.b0,(x.b1.ah,(),(),x.b1.aH,()),x.t7,x.b3,x.b4,()))))
def Eg{α:Type}(M127:aF->ay->aK->af lu)(p:l9)(go:l9->af α)(e1:af α):af α:=
 bif w9 (p.t96<p.t95)then match Gu p.b3 p.t96 p.b0 with|J=>J|M r2=>if 0<=ak ((1:Int)+p.t96)/\ak ((1:Int)+p.t96)<zZ p.t7 then if 80=80/\(ak ((1:Int)+p.t96)).toNat<zZ p.t7 then match Y9 r2.fst p.t7[(ak (1+p.t96)).toNat]! p.b4 r2.snd with|J=>J|M r3=>go (l9.mk p.t7 p.t95 (ak (p.t96+1)) r3.snd (aq.mk p.b1.ah [] [] p.b1.aH) p.b3 r3.fst)else J else J else e1
def Fx(M127:aF->ay->aK->af lu)(p:l9):af (af l9):=
 Eg M127 p fW dy
def AY(M127:aF->ay->aK->af lu):=bX (Fx M127)
structure mD where
 t7:List aq
 t16:List ay
 (t17 t18:Int)
 b0:aK
 b1:aF
 b2:ay
 b3:aq
def To:Td 1 mD:= .c [] [0,4,5,6,7,16,17,18] (.t (bT.s 7 [] 80) (.c [] [0,4,5,6,7,16,17,18] (.r 1 5 (ec 0 (qp 0 0) (ec 4 (qp 1 0) (ec 5 (qp 2 0) (ec 6 (qp 3 0) (ec 7 (qo 4) (ec 16 (ql 106) (ec 17 aU (ec 18 aU en)))))))) (sb 0 138 (lg 138) (sb 1 150 (lg 150) (sb 2 106 (lg 106) (sb 3 80 w8_ (sr 4 80 sn))))) (λz=>⟨z.q.2.1,z.1.q.2.1,z.1.q.t.1,z.1.q.t.2.1,z.2.1,z.t.1,z.t.2.1,(aq.mk z.q.1.1 [] [] z.q.1.t.2.1)⟩) (λx=>(((),(),(),(),(),x.t16,x.t17,x.t18,()),(x.b0,x.b1,x.b2,(x.b3.ah,(),(),x.b3.aH,()),x.t7,()))))))
def FL{α:Type}(M127:aF->ay->aK->af lu)(p:mD)(go:mD->af α)(e1:af α):af α:=
 bif w9 (p.t18<p.t17)then if 0<=p.t18/\p.t18<zZ p.t16 then match M127 p.b1 (ay.mk p.t16[zQ p.t18]!.bA p.t16[zQ p.t18]!.fN p.t16[zQ p.t18]!.ax) p.b0 with|J=>J|M r1=>if(p.t7++[r1.fst]).length<=1073741824 then go (mD.mk (p.t7++[r1.fst]) p.t16 p.t17 (ak (p.t18+1)) r1.snd p.b1 (ay.mk p.b2.bA p.b2.fN p.b2.ax) (aq.mk p.b3.ah [] [] p.b3.aH))else J else J else e1
def GN(M127:aF->ay->aK->af lu)(p:mD):af (af mD):=
 FL M127 p fW dy
def A8(M127:aF->ay->aK->af lu):=bX (GN M127)
def azc(M127:aF->ay->aK->af lu):An:=(cA 2 (.two (noTwo (To.lp (A8 M127) .no)) (.two (cA 12 (.two (cA 3 (.two (noTwo (Q6.lp (AY M127) .no)) .no)) .no)) .no)))
def ay2(M127:aF->ay->aK->af lu):dB va (aCC M127) 1 300 127 (azc M127):=bF (l:=[(bz f127 0,(To.lp (A8 M127) .no)),(bz f127 1,(Q6.lp (AY M127) .no))]) func127 (aY aL) aL (aA (aO To) (aA (aO Q6) az))
def avk(M127:aF->ay->aK->af lu)(a1:aF)(a2:ay)(b0:aK):af lu:=
 match A8 M127 (mD.mk [] a2.ax (zZ a2.ax) 0 b0 a1 (ay.mk a2.bA a2.fN a2.ax) (aq.mk 0 [] [] (0)))with|J=>J|M r4=>FL M127 r4 (λ_=>J) (bif w9 (r4.b2.bA=0)then M ((aq.mk (fh r4.b2.fN r4.b0).fst.ah (fh r4.b2.fN r4.b0).fst.aG [] (fh r4.b2.fN r4.b0).fst.aH,(fh r4.b2.fN r4.b0).snd))else bif w9 (r4.b2.bA=24)then if 0<=r4.b2.fN/\r4.b2.fN<zZ r4.b1.aV then M (r4.b1.aV[zQ r4.b2.fN]!,r4.b0)else J else bif w9 (r4.b2.bA=6)then if(0:Int)<=(0:Int)/\(0:Int)<zZ r4.t7 then if 80=80/\0<zZ r4.t7 then match ij 1 (aq.mk (fh 0 r4.b0).fst.ah (fh 0 r4.b0).fst.aG [] (fh 0 r4.b0).fst.aH) r4.t7[0]! (fh 0 r4.b0).snd with|J=>J|M r6=>M (r6)else J else J else bif w9 (r4.b2.bA=7)then if(0:Int)<=(0:Int)/\(0:Int)<zZ r4.t7 then if 80=80/\0<zZ r4.t7 then match Qf r4.t7[0]! r4.b0 with|J=>J|M r7=>M (r7)else J else J else bif w9 (r4.b2.bA=23)then if(0:Int)<=(0:Int)/\(0:Int)<zZ r4.t7 then if 80=80/\0<zZ r4.t7 then match Ah r4.t7[0]! r4.b0 with|J=>J|M r8=>if(0:Int)<=(1:Int)/\(1:Int)<zZ r4.t7 then if 80=80/\1<zZ r4.t7 then if(0:Int)<=(2:Int)/\(2:Int)<zZ r4.t7 then if 80=80/\2<zZ r4.t7 then match Y9 r8.fst r4.t7[1]! r4.t7[2]! r8.snd with|J=>J|M r9=>M (r9)else J else J else J else J else J else J else bif w9 (r4.b2.bA=25)then if(0:Int)<=(0:Int)/\(0:Int)<zZ r4.t7 then if 80=80/\0<zZ r4.t7 then match SG r4.t7[0]! (0) (ak ((zZ r4.t7:Int)-2))with|J=>J|M r10=>if 0<=ak ((1:Int)+ak ((zZ r4.t7:Int)-(2:Int)))/\ak ((1:Int)+ak ((zZ r4.t7:Int)-(2:Int)))<zZ r4.t7 then if 80=80/\(ak ((1:Int)+ak ((zZ r4.t7:Int)-(2:Int)))).toNat<zZ r4.t7 then match AY M127 (l9.mk r4.t7 (ak ((zZ r4.t7:Int)-2)) 0 r4.b0 (aq.mk r4.b3.ah [] [] r4.b3.aH) r10.fst r4.t7[(ak (1+ak ((zZ r4.t7:Int)-2))).toNat]!)with|J=>J|M r11=>Eg M127 r11 (λ_=>J) (M (r11.b4,r11.b0))else J else J else J else J else if(0:Int)<=(0:Int)/\(0:Int)<zZ r4.t7 then if 80=80/\0<zZ r4.t7 then if(0:Int)<=(1:Int)/\(1:Int)<zZ r4.t7 then if 80=80/\1<zZ r4.t7 then match acC r4.b2.bA r4.t7[0]! r4.t7[1]! r4.b0 with|J=>J|M r14=>M (r14)else J else J else J else J)
def apZ:Nat->(aF->ay->aK->af lu)
 |0=>(λ_ _ _=>J)
 |n+1=>(avk (apZ n))
def S8(n:Nat):aF->ay->aK->af lu:=(apZ n)
def NN:∀n,alP (S8 n)
 |0=>λ_ _ h=>(by cases h)
 |n+1=>gZ (amS (NN n)) (ay2 (S8 n)) (λ_=>aL) (λ_=>aL) (λ_=>aL) λ_=>aL
def Eh:aF->ay->aK->af lu:=λa1 a2 b0=>lim (λn=>S8 n a1 a2 b0)
def aiz:alP Eh:=λg b h=>(bW h).elim λn=>NN n g b
def au5(F:aT):aT:=aw9 Eh F
def U7:EO au5:=W9 aiz
abbrev ayH:=aa aq
def d248:Td 0 ayH:= .c [] [2] (.t (bT.s 2 [] 80) (.c [] [2] (.r 0 1 (ec 2 (qo 0) en) (sr 0 80 sn) (λz=>z.2.1) (λx=>(((),()),(x,()))))))
def aFk:=(lc (ql 80) ln)
def EK(a0:aa aq):af ayH:=if zZ a0<=1073741824 then M a0 else J
def adj:dB va dz 0 300 248 .no:=bF (l:=[]) func248 (aY aL) aL az
def aD9(x:aq)(xs:aa aq):bY va dz 300 .no 248 [.sl 80 (x::xs)] [] 0 d248.rd=if([]++(x::xs)).length<=1073741824 then M ([]++(x::xs))else J:=aL
def aCV(c:Nat):bY va dz 300 .no 248 [.lit (.slice J 0 c)] [] 0 d248.rd=M []:=aL
def aDg(a:Addr)(c:Nat):bY va dz 300 .no 248 [.lit (.slice (M a) 0 c)] [] 0 d248.rd=M []:=aL
def aK0:HL va 248 aFk d248 (λg=>EK g.1):=λg r h=>by
 obtain⟨a0,_⟩:=g;have h:EK a0=M r:=h;cases a0 with
 |cons x xs=>exact(hU (out:=λp=>eN va 248 0 (d248.pat p)) (p:=r) aP adj d248.ok (λp=>aL) (gG aL) (eT aL) ((aD9 x xs).trans (by rw[yl];exact h))).2
 |nil=>
  cases h;exact Uo (λc=>(hU (out:=λp=>eN va 248 0 (d248.pat p)) (p:=[]) aP adj d248.ok (λp=>aL) (gG aL) (eT aL) (aCV c)).2) (λa c=>(hU (out:=λp=>eN va 248 0 (d248.pat p)) (p:=[]) aP adj d248.ok (λp=>aL) (gG aL) (eT aL) (aDg a c)).2)
def aLt:aT->aT:=eZ va 248 aFk d248 (λg=>EK g.1)
def Ku{F:aT}(h:bK va F):bK va (aLt F):=oI aK0 ⟨_,func248,aL,aL⟩ (λ_=>aL) h
abbrev aDG:=aF×aK
def d129:Td 1 aDG:= .c [] [8] (.r 1 4 (ec 8 (qp 1 0) en) (sb 0 138 (lg 138) w9_) (λz=>((aF.mk z.t.2.1 (aq.mk z.t.1.2.1 z.t.1.t.1 z.t.1.t.2.1 z.t.1.q.1) z.q.1 (aq.mk z.t.1.q.t.1 z.t.1.q.t.2.1 z.t.1.q.q.1 z.t.1.q.q.2.1)),z.2.1)) (λx=>(((),()),(x.2,((),x.1.aJ.ah,x.1.aJ.aG,x.1.aJ.aD,x.1.aJ.aH,(),x.1.aN.ah,x.1.aN.aG,x.1.aN.aD,x.1.aN.aH,()),x.1.aV,x.1.cM,()))))
def aHF:=(sb 0 138 (lg 138) sn)
def aaN(a1:aF)(a2:Int)(a3:aq)(b0:aK):af aDG:=
 match EK a1.aV with|J=>J|M r1=>match EK a1.cM with|J=>J|M r2=>if 0<=a2/\a2<zZ b0.fF.ah then if 0<=a2/\a2<zZ b0.fF.ah then match SG a3 b0.fF.ah[a2.toNat]!.aC b0.fF.ah[a2.toNat]!.au with|J=>J|M r3=>if 0<=a2/\a2<(↑(zZ r1):Int)then if 80=80/\a2.toNat<zZ r1 then M ((aF.mk (List.set r1 a2.toNat r3.fst) a1.aJ r2 a1.aN,b0))else J else J else J else J
def aCo:aT->aT:=eY va 129 1 (lc (qp 0 0) (lc (qg 150) (dX (lc (qg 80) ln)))) aHF d129 (λg=>aaN g.1.2.1 g.1.t.1 g.1.t.2.1 g.2.1)
def amE:EO aCo:=λh=>kY (an:= .no) func129 (iS (p:=(λf=>zg f 126||zg f 248)) (Ku (u7 aP))) az h
structure tw where
 (t12 t13:Int)
 b0:aK
 b1:aF
 b2:aq
 b3:aF
def Rx:Td 1 tw:= .c [] [0,4,5,6,12,13] (.r 1 6 (ec 0 (qp 0 0) (ec 4 (qp 1 0) (ec 5 (qp 2 0) (ec 6 (qp 3 0) (ec 12 aU (ec 13 aU en)))))) (sb 0 138 (lg 138) (sb 1 150 (lc (qo 4) (dX (lc (ql 3) (lc (ql 113) (dX (lc (qo 5) (dX (lc (ql 3) (lc (ql 113) gY))))))))) (sb 2 80 (lg 80) (sb 3 150 (lc qn w3_) (sr 4 80 (sr 5 80 sn)))))) (λz=>⟨z.1.q.1,z.1.q.2.1,z.2.1,(aF.mk z.q.2.1 (aq.mk z.t.1.2.1 z.t.1.t.1 z.t.1.t.2.1 z.t.1.q.1) z.q.t.1 (aq.mk z.t.1.q.t.1 z.t.1.q.t.2.1 z.t.1.q.q.1 z.t.1.q.q.2.1)),z.t.2.1,(aF.mk [] (aq.mk z.q.1.2.1 [] [] z.q.1.q.1) [] (aq.mk z.q.1.q.t.1 [] [] z.q.1.q.q.2.1))⟩) (λx=>(((),(),(),(),x.t12,x.t13,()),(x.b0,((),x.b1.aJ.ah,x.b1.aJ.aG,x.b1.aJ.aD,x.b1.aJ.aH,(),x.b1.aN.ah,x.b1.aN.aG,x.b1.aN.aD,x.b1.aN.aH,()),x.b2,((),x.b3.aJ.ah,(),(),x.b3.aJ.aH,(),x.b3.aN.ah,(),(),x.b3.aN.aH,()),x.b1.aV,x.b1.cM,()))))
def KG{α:Type}(p:tw)(go:tw->af α)(e1:af α):af α:=
 bif w9 (p.t13<p.t12)then match Gu p.b1.aJ p.t13 p.b0 with|J=>J|M r1=>if 0<=p.t13/\p.t13<zZ p.b1.cM then if 80=80/\zQ p.t13<zZ p.b1.cM then match Y9 r1.fst p.b2 p.b1.cM[zQ p.t13]! r1.snd with|J=>J|M r2=>if 0<=p.t13/\p.t13<zZ p.b1.cM then if 80=80/\zQ p.t13<zZ p.b1.cM then go (tw.mk p.t12 (ak (p.t13+1)) r2.snd (aF.mk p.b1.aV p.b1.aJ (p.b1.cM.set p.t13.toNat r2.fst) p.b1.aN) p.b2 (aF.mk [] (aq.mk p.b3.aJ.ah [] [] p.b3.aJ.aH) [] (aq.mk p.b3.aN.ah [] [] p.b3.aN.aH)))else J else J else J else J else e1
def RU(p:tw):af (af tw):=
 KG p fW dy
def Kw:=bX (RU)
abbrev azZ:=aF×aK
def d130:Td 1 azZ:= .c [] [6] (.r 1 4 (ec 6 (qp 1 0) en) (sb 0 138 (lg 138) w9_) (λz=>((aF.mk z.t.2.1 (aq.mk z.t.1.2.1 z.t.1.t.1 z.t.1.t.2.1 z.t.1.q.1) z.q.1 (aq.mk z.t.1.q.t.1 z.t.1.q.t.2.1 z.t.1.q.q.1 z.t.1.q.q.2.1)),z.2.1)) (λx=>(((),()),(x.2,((),x.1.aJ.ah,x.1.aJ.aG,x.1.aJ.aD,x.1.aJ.aH,(),x.1.aN.ah,x.1.aN.aG,x.1.aN.aD,x.1.aN.aH,()),x.1.aV,x.1.cM,()))))
def aJw:=(sb 0 138 (lg 138) sn)
def anH(a1:aF)(a2:aq)(b0:aK):af azZ:=
 match EK a1.aV with|J=>J|M r3=>match EK a1.cM with|J=>J|M r4=>match Kw (tw.mk (↑(zZ r4):Int) 0 b0 (aF.mk r3 a1.aJ r4 a1.aN) a2 (aF.mk [] (aq.mk 0 [] [] (0)) [] (aq.mk 0 [] [] (0))))with|J=>J|M r5=>KG r5 (λ_=>J) (match ij 0 r5.b1.aJ (aq.mk (fh 1 r5.b0).fst.ah (fh 1 r5.b0).fst.aG [] (fh 1 r5.b0).fst.aH) (fh 1 r5.b0).snd with|J=>J|M r8=>M (aF.mk r5.b1.aV r8.fst r5.b1.cM r5.b1.aN,r8.snd))
def aDN:aT->aT:=eY va 130 1 (lc (qp 0 0) (lc (qg 150) (lc (qg 80) ln))) aJw d130 (λg=>anH g.1.2.1 g.1.t.1 g.2.1)
def anR:EO aDN:=λh=>kY (an:=(cA 2 (.two (noTwo (Rx.lp Kw .no)) .no))) (l:=[(bz f130 0,(Rx.lp Kw .no))]) func130 (iS (p:=(λf=>zg f 74||zg f 75||zg f 115||zg f 118||zg f 248)) (Ku (lV (jG (lZ (sW aP)))))) (aA (aO Rx) az) h
structure tT where
 (t40 t41:Int)
 b0:aK
 b1:cz
 (b2 b3 b4 b5:aF)
def Tm:Td 1 tT:= .c [] [0,5,6,7,8,9,40,41] (.r 1 8 (ec 0 (qp 0 0) (ec 5 (qp 1 0) (ec 6 (qp 2 0) (ec 7 (qp 3 0) (ec 8 (qp 4 0) (ec 9 (qp 5 0) (ec 40 aU (ec 41 aU en)))))))) (sb 0 138 (lg 138) (sb 1 42 (lg 42) (sb 2 150 (lg 150) (sb 3 150 (lg 150) aCB)))) (λz=>⟨z.1.q.t.1,z.1.q.t.2.1,z.2.1,z.t.1,z.t.2.1,z.q.1,(aF.mk [] (aq.mk z.q.2.1.2.1 [] [] z.q.2.1.q.1) [] (aq.mk z.q.2.1.q.t.1 [] [] z.q.2.1.q.q.2.1)),(aF.mk z.q.t.2.1 (aq.mk z.q.t.1.2.1 z.q.t.1.t.1 z.q.t.1.t.2.1 z.q.t.1.q.1) z.q.q.1 (aq.mk z.q.t.1.q.t.1 z.q.t.1.q.t.2.1 z.q.t.1.q.q.1 z.q.t.1.q.q.2.1))⟩) (λx=>(((),(),(),(),(),(),x.t40,x.t41,()),(x.b0,x.b1,x.b2,x.b3,((),x.b4.aJ.ah,(),(),x.b4.aJ.aH,(),x.b4.aN.ah,(),(),x.b4.aN.aH,()),((),x.b5.aJ.ah,x.b5.aJ.aG,x.b5.aJ.aD,x.b5.aJ.aH,(),x.b5.aN.ah,x.b5.aN.aG,x.b5.aN.aD,x.b5.aN.aH,()),x.b5.aV,x.b5.cM,()))))
def Mz{α:Type}(p:tT)(go:tT->af α)(e1:af α):af α:=
 bif w9 (p.t41<p.t40)then if 0<=p.t41/\p.t41<zZ p.b2.cM then if 0<=p.t41/\p.t41<zZ p.b3.cM then match Y9 p.b1 p.b2.cM[zQ p.t41]! p.b3.cM[zQ p.t41]! p.b0 with|J=>J|M r2=>if 0<=p.t41/\p.t41<zZ p.b5.cM then if 80=80/\zQ p.t41<zZ p.b5.cM then go (tT.mk p.t40 (ak (p.t41+1)) r2.snd p.b1 p.b2 p.b3 (aF.mk [] (aq.mk p.b4.aJ.ah [] [] p.b4.aJ.aH) [] (aq.mk p.b4.aN.ah [] [] p.b4.aN.aH)) (aF.mk p.b5.aV p.b5.aJ (p.b5.cM.set p.t41.toNat r2.fst) p.b5.aN))else J else J else J else J else e1
def Rb(p:tT):af (af tT):=
 Mz p fW dy
def JP:=bX (Rb)
structure tW where
 (t16 t17:Int)
 b0:aK
 b1:cz
 (b2 b3 b4 b5:aF)
def QM:Td 1 tW:= .c [] [0,5,6,7,8,9,16,17] (.r 1 8 (ec 0 (qp 0 0) (ec 5 (qp 1 0) (ec 6 (qp 2 0) (ec 7 (qp 3 0) (ec 8 (qp 4 0) (ec 9 (qp 5 0) (ec 16 aU (ec 17 aU en)))))))) (sb 0 138 (lg 138) (sb 1 42 (lg 42) (sb 2 150 (lg 150) (sb 3 150 (lg 150) aCB)))) (λz=>⟨z.1.q.t.1,z.1.q.t.2.1,z.2.1,z.t.1,z.t.2.1,z.q.1,(aF.mk [] (aq.mk z.q.2.1.2.1 [] [] z.q.2.1.q.1) [] (aq.mk z.q.2.1.q.t.1 [] [] z.q.2.1.q.q.2.1)),(aF.mk z.q.t.2.1 (aq.mk z.q.t.1.2.1 z.q.t.1.t.1 z.q.t.1.t.2.1 z.q.t.1.q.1) z.q.q.1 (aq.mk z.q.t.1.q.t.1 z.q.t.1.q.t.2.1 z.q.t.1.q.q.1 z.q.t.1.q.q.2.1))⟩) (λx=>(((),(),(),(),(),(),x.t16,x.t17,()),(x.b0,x.b1,x.b2,x.b3,((),x.b4.aJ.ah,(),(),x.b4.aJ.aH,(),x.b4.aN.ah,(),(),x.b4.aN.aH,()),((),x.b5.aJ.ah,x.b5.aJ.aG,x.b5.aJ.aD,x.b5.aJ.aH,(),x.b5.aN.ah,x.b5.aN.aG,x.b5.aN.aD,x.b5.aN.aH,()),x.b5.aV,x.b5.cM,()))))
def FW{α:Type}(p:tW)(go:tW->af α)(e1:af α):af α:=
 bif w9 (p.t17<p.t16)then if 0<=p.t17/\p.t17<zZ p.b2.aV then if 0<=p.t17/\p.t17<zZ p.b3.aV then match Y9 p.b1 p.b2.aV[zQ p.t17]! p.b3.aV[zQ p.t17]! p.b0 with|J=>J|M r1=>if 0<=p.t17/\p.t17<zZ p.b5.aV then if 80=80/\zQ p.t17<zZ p.b5.aV then go (tW.mk p.t16 (ak (p.t17+1)) r1.snd p.b1 p.b2 p.b3 (aF.mk [] (aq.mk p.b4.aJ.ah [] [] p.b4.aJ.aH) [] (aq.mk p.b4.aN.ah [] [] p.b4.aN.aH)) (aF.mk (p.b5.aV.set p.t17.toNat r1.fst) p.b5.aJ p.b5.cM p.b5.aN))else J else J else J else J else e1
def Jp(p:tW):af (af tW):=
 FW p fW dy
def JU:=bX (Jp)
abbrev ayU:=aF×aK
def d131:Td 1 ayU:= .c [] [8] (.r 1 4 (ec 8 (qp 1 0) en) (sb 0 138 (lg 138) w9_) (λz=>((aF.mk z.t.2.1 (aq.mk z.t.1.2.1 z.t.1.t.1 z.t.1.t.2.1 z.t.1.q.1) z.q.1 (aq.mk z.t.1.q.t.1 z.t.1.q.t.2.1 z.t.1.q.q.1 z.t.1.q.q.2.1)),z.2.1)) (λx=>(((),()),(x.2,((),x.1.aJ.ah,x.1.aJ.aG,x.1.aJ.aD,x.1.aJ.aH,(),x.1.aN.ah,x.1.aN.aG,x.1.aN.aD,x.1.aN.aH,()),x.1.aV,x.1.cM,()))))
def aLy:=(sb 0 138 (lg 138) sn)
def ae3(a1:cz)(a2:aF)(a3:aF)(b0:aK):af ayU:=
 match EK a3.aV with|J=>J|M r3=>match EK a3.cM with|J=>J|M r4=>match JU (tW.mk (↑(zZ r3):Int) 0 b0 a1 a2 a3 (aF.mk [] (aq.mk 0 [] [] (0)) [] (aq.mk 0 [] [] (0))) (aF.mk r3 a3.aJ r4 a3.aN))with|J=>J|M r5=>FW r5 (λ_=>J) (match JP (tT.mk (zZ r5.b5.cM) 0 r5.b0 r5.b1 r5.b2 r5.b3 (aF.mk [] (aq.mk r5.b4.aJ.ah [] [] r5.b4.aJ.aH) [] (aq.mk r5.b4.aN.ah [] [] r5.b4.aN.aH)) r5.b5)with|J=>J|M r7=>Mz r7 (λ_=>J) (match Y9 r7.b1 r7.b2.aJ r7.b3.aJ r7.b0 with|J=>J|M r9=>match Y9 r7.b1 r7.b2.aN r7.b3.aN r9.snd with|J=>J|M r10=>M (aF.mk r7.b5.aV r9.fst r7.b5.cM r10.fst,r10.snd)))
def aj7:aT->aT:=eY va 131 1 (lc (qp 0 0) (lc (qg 42) (lc (qg 150) (lc (qg 150) ln)))) aLy d131 (λg=>ae3 g.1.2.1 g.1.t.1 g.1.t.2.1 g.2.1)
def LN:EO aj7:=λh=>kY (an:=(cA 2 (.two (noTwo (QM.lp JU .no)) (.two (noTwo (Tm.lp JP .no)) .no)))) (l:=[(bz f131 0,(QM.lp JU .no)),(bz f131 1,(Tm.lp JP .no))]) func131 (iS (p:=(λf=>zg f 74||zg f 248)) (Ku (sW aP))) (aA (aO QM) (aA (aO Tm) az)) h
abbrev az2:=aa End
def d193:Td 0 az2:= .c [] [2] (.r 0 1 (ec 2 (qf 247 AN) en) (sb 0 271 (lc (ql 273) ln) sn) (λz=>z.2.1.1) (λx=>((((),()),()),((x,()),()))))
def ahx(a0:aa End):az2:=
 a0
def aDy:aT->aT:=eZ va 193 (lc (ql 273) ln) d193 (λg=>M (ahx g.1))
def ajv:EO aDy:=λh=>kZ (an:= .no) func193 aP az h
abbrev E25:=Int
def d25:Td 0 E25:=dW 4
def m25(a0:bn)(a1:mI):af E25:=
 match m28 a0.ah (2) a1.cq with|J=>J|M r1=>M (r1.snd)
def e25:=eL va 25 O avr d25 (λg=>m25 g.1 g.2.1)
def asJ:EO e25:=λh=>kL (an:= .no) func25 (aul aP) az h
end Go.Proofs.YtghilkcphindjaaGreat
namespace Go.Proofs.YtghilkcphindjaaGreat
open Go Go.Iv BT
def ap3{k:Nat}(hk:k<=12)(f:Int->Int->Int->Int)(F G H:aa Bool->Int):AP (k:Int) f 12 (tf k 0 F) (tf k 0 G) (tf k 0 H) (tf k 0 λe=>f (F e) (G e) (H e)):=
 (MU (n:=(k:Int)) (f:=f) (k:=k) (v:=0) (F:=F) (G:=G) (H:=H) aj).le hk
def ai4{k:Nat}(hk:k<=12){C F G:aa Bool->Int}{c:cz}{a b:aq}(hc:Db k C c)(ha:Dm k F a)(hb:Dm k G b):∃d,adp c a b=M (d,0)/\Dm k (λe=>if C e=1 then F e else G e) d:=by
 obtain⟨d,e,h⟩:=Ze aj aj hc CH ha.c CH (kX ha.p) hb.c CH (kX hb.p) (ap3 hk (λx y z=>if x=1 then y else z) C F G);refine⟨d,e,h,λx hx=> ?_⟩;split
 ·exact ha.p x hx
 ·exact hb.p x hx
def Sr{k:Nat}(hk:k<=12){F:aa Bool->Int}{a:aq}{lo hi:Int}(ha:Dm k F a)(hlh:lo<=hi)(hl:gh lo)(hh:gh hi):∃d,SG a lo hi=M (d,0)/\Dm k (λe=>gC (F e) lo hi) d:=by
 have hp:∀x:aa Bool,zZ x=k->gh (clp lo hi (F x)):=λx hx=>axi hl hh (ha.p x hx);obtain⟨d,e,h⟩:=aaW aj aj ha.c CH (kX ha.p) hlh hl hh (ap1 hk (λx _ _=>clp lo hi x) F) (kX hp);have hD:Dm k (λe=>clp lo hi (F e)) d:=⟨h,hp⟩;refine⟨d,e,hD.congr λx _=> ?_⟩;unfold clp gC;omega
def aL1{k:Nat}(hk:k<=12){B:aa Bool->Int}{c:cz}(hc:Db k B c):∃d,aeY c=M (d,0)/\Db k (λe=>if B e=1 then 0 else 1) d:=by
 obtain⟨d,e,h⟩:=aLn aj aj hc CH (ap1 hk (λx _ _=>noI x) B);exact⟨d,e,h⟩
def acP{x:Int}(h: -1048576<=x/\x<=1048576):gh x:=eX aj aj
def Mb{a b:Int}(h1: -1099511627776<=a)(h2:a<=1099511627776):acE a b=M (jX a b):=JB h1 h2
def WO{x y:Int}(h1:gh x)(h2:gh y):Yr x y=M (if 1099511627776<x.natAbs*y.natAbs then 1099511627777 else x*y):=by
 obtain⟨_,a1,a2⟩:=nE h1;obtain⟨_,b1,b2⟩:=nE h2;have w1:ak ((0:Int)-x)= -x:=by rw[aI];omega
 have w2:ak ((0:Int)-y)= -y:=by rw[aI];omega
 have e1:(if x< -x then-x else x)=(x.natAbs:Int):=by split<;>omega
 have e2:(if y< -y then-y else y)=(y.natAbs:Int):=by split<;>omega
 unfold Yr;rw[w1,w2,e1,e2];by_cases hx:x=0
 ·subst hx;simp only[Int.natAbs_zero,Nat.zero_mul,Int.zero_mul];rfl
 ·have hn:¬((x.natAbs:Int)=0):=aj;obtain⟨q,hq⟩:∃q:Nat,q=1099511627776/x.natAbs:=⟨_,rfl⟩;have hd:(1099511627776:Int).tdiv (x.natAbs:Int)=(q:Int):=by rw[hq];rfl
  have hle:q<=1099511627776:=by rw[hq];exact Nat.div_le_self _ _
  have w3:ak (q:Int)=(q:Int):=aI;have hiff:((q:Int)<(y.natAbs:Int))↔1099511627776<x.natAbs*y.natAbs:=by
   rw[Int.ofNat_lt,hq,wQ aj,Nat.mul_comm]
  simp only[dP,hx,hn,hd,w3,mF,not_false_eq_true,dx];by_cases hc:1099511627776<x.natAbs*y.natAbs
  ·rw[l8 (hiff.2 hc),bO hc];rfl
  ·rw[iU (λh=>hc (hiff.1 h)),bP hc];have hm:(x*y).natAbs<=1099511627776:=by rw[Int.natAbs_mul];omega
   have w4:ak (x*y)=x*y:=aI;simp only[fO,w4]
def ax8{o:Int}(ho:0<=o)(ho2:o<=8)(x y:Int)(hx:gh x)(hy:gh y):∃z,jT (280+o.toNat) x y=M z:=by
 obtain⟨_,a1,a2⟩:=nE hx;have h3:=Mb (a:=x) (b:=y) aj aj;have h4:∃z,TU x y=M z:=by unfold TU;rw[h3];exact⟨_,rfl⟩
 have:o.toNat<=8:=aj;generalize o.toNat=k at*;rcases k with _|_|_|_|_|_|_|_|_|k
 ·exact⟨_,rfl⟩
 ·exact⟨_,rfl⟩
 ·exact⟨_,WO hx hy⟩
 ·exact⟨_,h3⟩
 ·exact h4
 ·exact⟨_,rfl⟩
 ·exact⟨_,rfl⟩
 ·exact⟨_,rfl⟩
 ·exact⟨_,rfl⟩
 ·omega
abbrev InT(x:Int):Prop:= -1048576<=x/\x<=1048576
def opD{k:Nat}(hk:k<=12){F G H:aa Bool->Int}{a b:aq}{o:Int}(ho:0<=o)(ho2:o<=8)(ha:Dm k F a)(hb:Dm k G b)(hH:∀e:aa Bool,zZ e=k->jT (280+o.toNat) (F e) (G e)=M (H e))(hP:∀e:aa Bool,zZ e=k->gh (H e))(X:aK):∃d,ij o a b X=M (d,X)/\Dm k H d:=by
 obtain⟨d,e,h⟩:=avu hk ho ho2 (ax8 ho ho2) ha hb hH hP;refine⟨d,?_,h⟩;unfold ij;rw[e]
def Yf{k:Nat}(hk:k<=12){F G:aa Bool->Int}{a b:aq}(ha:Dm k F a)(hb:Dm k G b)(hP:∀e:aa Bool,zZ e=k->gh (F e+G e))(X:aK):∃d,ij 0 a b X=M (d,X)/\Dm k (λe=>F e+G e) d:=by
 obtain⟨d,e,h⟩:=ap8 hk ha hb hP;refine⟨d,?_,h⟩;unfold ij;rw[e]
def adY{k:Nat}(hk:k<=12){F G:aa Bool->Int}{a b:aq}(ha:Dm k F a)(hb:Dm k G b)(hP:∀e:aa Bool,zZ e=k->gh (F e-G e))(X:aK):∃d,ij 1 a b X=M (d,X)/\Dm k (λe=>F e-G e) d:=
 opD hk aj aj ha hb (λe he=>by
  obtain⟨_,h1,h2⟩:=nE (hP e he);show M (abI (F e) (G e))=_;unfold abI;rw[aI]) hP X
def GQ{k:Nat}(hk:k<=12){F:aa Bool->Int}{a:aq}{z:Int}(ha:Dm k F a)(X:aK):∃d,Gu a z X=M (d,X)/\Db k (λe=>if F e=z then 1 else 0) d:=by
 obtain⟨d,e,h⟩:=adz (z:=z) hk ha;refine⟨d,?_,h⟩;unfold Gu;rw[e]
def arh{k:Nat}(hk:k<=12){B:aa Bool->Int}{c:cz}(hc:Db k B c)(X:aK):∃d,m82 c X=M (d,X)/\Dm k (λe=>if B e=1 then 1 else 0) d:=by
 obtain⟨d,e,h⟩:=ofD (no:=0) (yes:=1) hk hc rfl rfl;refine⟨d,?_,h⟩;unfold m82;rw[e]
def FX{k:Nat}(hk:k<=12){F:aa Bool->Int}{a:aq}(ha:Dm k F a)(X:aK):∃d,Ah a X=M (d,X)/\Db k (λe=>if F e=0 then 0 else 1) d:=by
 obtain⟨d1,e1,h1⟩:=GQ (z:=0) hk ha X;obtain⟨d2,e2,h2⟩:=aL1 hk h1;refine⟨d2,?_,h2.congr λe _=> ?_⟩
 ·unfold Ah;simp_all
 ·omega
def aiu{k:Nat}(hk:k<=12){F:aa Bool->Int}{a:aq}(ha:Dm k F a)(X:aK):∃d,Qf a X=M (d,X)/\Dm k (λe=>eP (w9 (F e=0))) d:=by
 obtain⟨d1,e1,h1⟩:=GQ (z:=0) hk ha X;obtain⟨d2,e2,h2⟩:=arh hk h1 X;refine⟨d2,?_,h2.congr λe _=> ?_⟩
 ·unfold Qf;simp_all
 ·by_cases h:F e=0<;>simp[eP]
def kf{k:Nat}(hk:k<=12){C F G:aa Bool->Int}{c:cz}{a b:aq}(hc:Db k C c)(ha:Dm k F a)(hb:Dm k G b)(X:aK):∃d,Y9 c a b X=M (d,X)/\Dm k (λe=>if C e=1 then F e else G e) d:=by
 obtain⟨d,e,h⟩:=ai4 hk hc ha hb;refine⟨d,?_,h⟩;unfold Y9;rw[e]
def tJ{k:Nat}(hk:k<=12){x:Int}(hx:gh x)(X:aK)(hX:X.ah=(k:Int)):∃d,fh x X=(d,X)/\aq.mk d.ah d.aG [] d.aH=d/\Dm k (λ_=>x) d:=by
 obtain⟨d,e,D,N⟩:=MA hk hx X hX;refine⟨d,e,?_,D⟩;obtain⟨v,L,zf,r⟩:=d;subst N;rfl
def JT(b:Bool):gh (eP b):=by cases b<;>rfl
def ng(b:Bool):Mu b=eP b:=by cases b<;>rfl
def aLK{k:Nat}(hk:k<=12){F G:aa Bool->Int}{a b:aq}(ha:Dm k F a)(hb:Dm k G b){o:Int}(ho:8<=o)(ho2:o<=22)(hF:∀e:aa Bool,zZ e=k->InT (F e))(hG:∀e:aa Bool,zZ e=k->InT (G e))(hH:∀e:aa Bool,zZ e=k->InT (pR o (F e) (G e)))(X:aK):∃d,acC o a b X=M (d,X)/\Dm k (λe=>pR o (F e) (G e)) d:=by
 have hPH:∀e:aa Bool,zZ e=k->gh (pR o (F e) (G e)):=λe he=>acP (hH e he);have less:∀{F G:aa Bool->Int} {a b:aq},Dm k F a->Dm k G b->∃d,ij 7 a b X=M (d,X)/\Dm k (λe=>eP (w9 (F e<G e))) d:=λha hb=>
  opD hk (o:=7) aj aj ha hb (λe he=>congrArg M (ng _)) (λe he=>JT _) X
 have eqq:∃d,ij 8 a b X=M (d,X)/\Dm k (λe=>eP (w9 (F e=G e))) d:=
  opD hk (o:=8) aj aj ha hb (λe he=>congrArg M (ng _)) (λe he=>JT _) X
 have fz:∀p:Prop,[Decidable p]->eP (w9 (eP (decide p)=0))=eP (decide ¬p):=λp _=>by by_cases h:p<;>simp[eP]
 have both:∀{z:Int},(z=8\/z=14)->∃d1 d2 d3 d4,Ah a X=M (d1,X)/\Ah b X=M (d2,X)/\N9 z d1 d2=M (d3,0)/\m82 d3 X=M (d4,X)/\Dm k (λe=>if Kk z (if F e=0 then 0 else 1) (if G e=0 then 0 else 1)=1 then 1 else 0) d4:=λ{z} hz=>by
  obtain⟨d1,e1,h1⟩:=FX hk ha X;obtain⟨d2,e2,h2⟩:=FX hk hb X;obtain⟨d3,e3,h3⟩:=abH hk (o:=z) aj aj h1 h2;obtain⟨d4,e4,h4⟩:=arh hk h3 X;exact⟨d1,d2,d3,d4,e1,e2,e3,e4,h4⟩
 unfold acC;have cs:o=8\/o=9\/o=10\/o=11\/o=12\/o=13\/o=14\/o=15\/o=16\/o=17\/o=18\/o=19\/o=20\/o=21\/o=22:=aj;rcases cs with rfl|rfl|rfl|rfl|rfl|rfl|rfl|rfl|rfl|rfl|rfl|rfl|rfl|rfl|rfl<;>simp only[lG,pR,Int.reduceEq]at hPH ⊢ <;>simp only[dS,Int.reduceEq]
 ·obtain⟨d,e,h⟩:=Yf hk ha hb hPH X;simp_all
 ·obtain⟨d,e,h⟩:=adY hk ha hb hPH X;grind
 ·obtain⟨d,e,h⟩:=opD hk (o:=2) aj aj ha hb (λe he=>by
   obtain⟨_,p1,p2⟩:=nE (hPH e he);show Yr (F e) (G e)=M (F e*G e);rw[WO (ha.p e he) (hb.p e he),bP];rw[<-Int.natAbs_mul];omega) hPH X
  simp only[e];exact⟨_,rfl,h⟩
 ·obtain⟨d,e,h⟩:=opD hk (o:=3) aj aj ha hb (λe he=>by
   have:=hF e he;exact Mb aj aj) hPH X
  simp only[e];exact⟨_,rfl,h⟩
 ·obtain⟨d,e,h⟩:=opD hk (o:=4) aj aj ha hb (λe he=>by
   have q1:=hF e he;have q2:=hG e he;show TU (F e) (G e)=M (On (F e) (G e));unfold TU On;rw[Mb aj aj];by_cases hz:G e=0
   ·rw[hz];simp only[mG,fZ,dx,ng];rw[show eP O=0 from rfl,Int.zero_mul];rfl
   obtain⟨em,t1,t2,t3⟩:=G3 (F e) (G e) hz;have hd:G e*jX (F e) (G e)=G e*(F e).tdiv (G e)\/G e*jX (F e) (G e)=G e*(F e).tdiv (G e)-G e:=by
    unfold jX;rw[bP hz];split
    ·right;rw[Int.mul_sub,Int.mul_one]
    ·left;rfl
   have w1:ak (G e*jX (F e) (G e))=G e*jX (F e) (G e):=aI;have w2:ak (F e-G e*jX (F e) (G e))=F e-G e*jX (F e) (G e):=aI;have w3:ak (1*(F e-G e*jX (F e) (G e)))=F e-G e*jX (F e) (G e):=by rw[Int.one_mul,w2]
   simp only[hz,mF,fO,AE,ng,w1,w2];rw[show eP Z=1 from rfl,w3]) hPH X
  simp only[e];exact⟨_,rfl,h⟩
 ·obtain⟨d,e,h⟩:=eqq;simp only[e];exact⟨_,rfl,h⟩
 ·obtain⟨d,e,h⟩:=eqq;obtain⟨d2,e2,h2⟩:=aiu hk h X;simp only[e,e2];exact⟨_,rfl,h2.congr λe _=>fz _⟩
 ·obtain⟨d,e,h⟩:=less ha hb;simp only[e];exact⟨_,rfl,h⟩
 ·obtain⟨d,e,h⟩:=less hb ha;obtain⟨d2,e2,h2⟩:=aiu hk h X;simp only[e,e2];exact⟨_,rfl,h2.congr λe _=>by rw[fz];simp only[Int.not_lt]⟩
 ·obtain⟨d,e,h⟩:=less hb ha;simp only[e];exact⟨_,rfl,h⟩
 ·obtain⟨d,e,h⟩:=less ha hb;obtain⟨d2,e2,h2⟩:=aiu hk h X;simp only[e,e2];exact⟨_,rfl,h2.congr λe _=>by rw[fz];simp only[Int.not_lt]⟩
 ·obtain⟨d1,d2,d3,d4,e1,e2,e3,e4,h⟩:=both (z:=8) (.inl rfl);simp only[e1,e2,e3,e4];refine⟨_,rfl,h.congr λe _=> ?_⟩;rw[Uz];by_cases q1:F e=0<;>by_cases q2:G e=0<;>simp[q1,q2,eP]
 ·obtain⟨d1,d2,d3,d4,e1,e2,e3,e4,h⟩:=both (z:=14) (.inr rfl);simp only[e1,e2,e3,e4];refine⟨_,rfl,h.congr λe _=> ?_⟩;have o1:Kk 14 0 0=0:=rfl;have o2:Kk 14 0 1=1:=rfl;have o3:Kk 14 1 0=1:=rfl;have o4:Kk 14 1 1=1:=rfl;by_cases q1:F e=0<;>by_cases q2:G e=0<;>simp[q1,q2,eP,o1,o2,o3,o4]
 ·obtain⟨d,e,h⟩:=opD hk (o:=5) (H:=λe=>if F e<G e then F e else G e) aj aj ha hb (λe he=>congrArg M (show (if G e<F e then G e else F e:Int)=if F e<G e then F e else G e by split<;>split<;>omega)) hPH X;simp only[e];exact⟨_,rfl,h⟩
 ·obtain⟨d,e,h⟩:=opD hk (o:=6) (H:=λe=>if G e<F e then F e else G e) aj aj ha hb (λe he=>congrArg M (show (if F e<G e then G e else F e:Int)=if G e<F e then F e else G e by split<;>split<;>omega)) hPH X;simp only[e];exact⟨_,rfl,h⟩
def Dm.oU{k:Nat}{F:aa Bool->Int}{d d':aq}(h:Dm k F d)(h':Dm k F d'):d=d':=h.c.eq h'.c
structure VD (k n:Nat) (V:List Bool->List Int) (vs:List aq):Prop where
 len:zZ vs=n
 at_:∀i,i<n->Dm k (λe=>(V e)[i]!) vs[i]!
def VD.push{k n:Nat}{F:Nat->aa Bool->Int}{vs:aa aq}(h1:zZ vs=n)(h2:∀j,j<n->Dm k (F j) vs[j]!){d:aq}(h:Dm k (F n) d):zZ (vs++[d])=n+1/\∀j,j<n+1->Dm k (F j) (vs++[d])[j]! :=by
 refine⟨by rw[zu,h1];rfl,λj hj=> ?_⟩;by_cases e:j=n
 ·subst e;rw[getElem!_pos (vs++[d]) j (by rw[zu,h1];simp),wR aj];simp only[h1,xb];exact h
 ·have hj:j<n:=aj;have:=h2 j hj;rw[getElem!_pos vs j aj]at this;rw[getElem!_pos (vs++[d]) j (by rw[zu,h1];simp;omega),xW aj];omega
def Cn{V:aa Int}{t:ay}{i:Nat}(h:i<zZ t.ax):(t.ax.map (cV V))[i]! =cV V t.ax[i]! :=JY h
def It(n:Int)(m:Nat):0<=gC n 0 m/\gC n 0 m<=m:=by unfold gC;split<;>(try split)<;>omega
section
variable {k:Nat} {vars:aa bf} {V:aa Bool->aa Int} {s:aF} {X:aK} {inp:Bool}
def ake(zf:aF->ay->aK->af lu)(t:ay)(hl:zZ t.ax<=100)(hM:∀c∈t.ax,∃d,zf s c X=M (d,X)/\Dm k (λe=>cV (V e) c) d):∃ds,A8 zf ⟨[],t.ax,(zZ t.ax:Int),0,X,s,t,⟨0,[],[],0⟩⟩=M ⟨ds,t.ax,(zZ t.ax:Int),(zZ t.ax:Int),X,s,t,⟨0,[],[],0⟩⟩/\zZ ds=zZ t.ax/\∀i,i<zZ t.ax->Dm k (λe=>cV (V e) t.ax[i]!) ds[i]! :=
 cZ (rnd:=GN zf) (zZ t.ax) (λi ds=>⟨ds,t.ax,(zZ t.ax:Int),(i:Int),X,s,t,⟨0,[],[],0⟩⟩) (λi ds=>zZ ds=i/\∀j,j<i->Dm k (λe=>cV (V e) t.ax[j]!) ds[j]!) (λi ds hi hI=>by
  obtain⟨d,e,hd⟩:=hM _ (bg hi);have i1:(i:Int)<(zZ t.ax:Int):=aj;have i2:(0:Int)<=(i:Int):=aj;have hw:=jy hi aj;have hlen:zZ (ds++[d])<=1073741824:=by rw[zu,hI.1,y8];omega
  refine⟨ds++[d],?_,VD.push (F:=λj e=>cV (V e) t.ax[j]!) hI.1 hI.2 hd⟩;unfold GN FL;simp only[dS,i1,i2,fZ,dx,ay.eta,e,hlen,hw]) (λds _=>by unfold GN FL;simp) (b:=[]) ⟨rfl,λj hj=>aj⟩
def auT(hk:k<=12)(zf:aF->ay->aK->af lu){ds:aa aq}{F:Nat->aa Bool->Int}{m:Nat}(hl:zZ ds=m+2)(hm:m<=100)(hd:∀i,i<m+2->Dm k (F i) ds[i]!){a:aq}{A:aa Bool->Int}(ha:Dm k A a)(hA:∀e:aa Bool,zZ e=k->0<=A e/\A e<=m):∃d,AY zf ⟨ds,(m:Int),0,X,⟨0,[],[],0⟩,a,ds[1+m]!⟩=M ⟨ds,(m:Int),(m:Int),X,⟨0,[],[],0⟩,a,d⟩/\Dm k (λe=>F (1+A e).toNat e) d:=by
 obtain⟨d,e,h⟩:=cZ (rnd:=Fx zf) m (λi (d:aq)=>⟨ds,(m:Int),(i:Int),X,⟨0,[],[],0⟩,a,d⟩) (λi d=>Dm k (λe=>if A e<i then F (1+A e).toNat e else F (1+m) e) d) (λi d hi hI=>by
  obtain⟨d1,e1,h1⟩:=GQ (z:=(i:Int)) hk ha X;obtain⟨d2,e2,h2⟩:=kf hk h1 (hd (1+i) aj) hI X;have i1:(i:Int)<(m:Int):=aj;have hw:ak ((i:Int)+1)=((i+1:Nat):Int):=jy hi aj;have hw2:ak ((1:Int)+(i:Int))=((1+i:Nat):Int):=by rw[aI];omega
  have i2:(0:Int)<=((1+i:Nat):Int)/\((1+i:Nat):Int)<(zZ ds:Int):=aj;have i3:1+i<zZ ds:=aj;refine⟨d2,?_,h2.congr λe he=> ?_⟩
  ·unfold Fx Eg;simp only[dS,i1,fZ,e1,hw,hw2,i2,i3,dx,e2]
  ·have:=hA e he;by_cases q:A e=(i:Int)
   ·simp only[q,show (i:Int)<((i+1:Nat):Int)by omega];rfl
   ·simp only[q,AE,Int.zero_ne_one];by_cases q2:A e<(i:Int)
    ·omega
    ·rw[bP q2,nB]) (λd _=>by unfold Fx Eg;simp) (b:=ds[1+m]!) ((hd (1+m) aj).congr λe he=>by
   have:=hA e he;rw[nB])
 refine⟨d,e,h.congr λe he=> ?_⟩;have:=hA e he;by_cases q:A e<(m:Int)
 ·omega
 ·rw[bP q,show (1+A e).toNat=1+m by omega]
def amw(hk:k<=12)(hv:cg vars)(hV:∀e:aa Bool,zZ e=k->vM vars (V e))(hX:X.ah=(k:Int))(hs:VD k (zZ vars) V s.aV)(zf:aF->ay->aK->af lu)(t:ay)(hf:dh vars inp t=Z)(hr:(gM vars t).isSome=Z)
  (hM:∀c∈t.ax,∃d,zf s c X=M (d,X)/\Dm k (λe=>cV (V e) c) d) (hT:∀e:aa Bool,zZ e=k->InT (cV (V e) t)):∃d,avk zf s t X=M (d,X)/\Dm k (λe=>cV (V e) t) d:=by
 obtain⟨⟨g1,g2,g3⟩,h24⟩:=Xt hf;have hkl:zZ t.ax<=100:=by
  rcases EL t.bA g1 with ⟨h,e⟩|⟨h,e⟩|⟨h,e⟩|⟨h,e⟩|⟨h,e⟩<;>rw[e]at g3<;>dsimp only at g3<;>omega
 obtain⟨ds,e0,dl,hd⟩:=ake zf t hkl hM;have hkT:∀i,i<zZ t.ax->∀e:aa Bool,zZ e=k->InT (cV (V e) t.ax[i]!):=λi hi e he=>(aeN hv (hV e he) hf hr _ (bg hi)).2;have hval:∀e:aa Bool,cV (V e) t=BF (V e) t (t.ax.map (cV (V e))):=λe=>LL _ _;obtain⟨c0,ce,cc,cD⟩:=tJ hk (x:=0) rfl X hX;unfold avk FL Eg;simp only[ay.eta,e0,zO];rcases EL t.bA g1 with ⟨h,e⟩|⟨h,e⟩|⟨h,e⟩|⟨h,e⟩|⟨h,e⟩<;>rw[e]at g2 g3<;>dsimp only at g2 g3
 ·rcases h with h|h
  ·simp only[h];have hN:∀e:aa Bool,zZ e=k->cV (V e) t=t.fN:=λe _=>by rw[hval];unfold BF;rw[bO h]
   have hp:gh t.fN:=by
    have he:zZ (zq k O)=k:=yY;have:=hT _ he;rw[hN _ he]at this;exact acP this
   obtain⟨d,q,qc,qD⟩:=tJ hk hp X hX;rw[q];dsimp only;rw[qc];exact⟨d,rfl,qD.congr λe he=>(hN e he).symm⟩
  ·obtain⟨n1,n2⟩:=h24 h;simp only[h];have n3:(0:Int)<=t.fN/\t.fN<(zZ s.aV:Int):=by rw[hs.len];exact⟨n1,n2⟩
   rw[bO n3];exact⟨_,rfl,(hs.at_ t.fN.toNat aj).congr λe _=>by rw[hval];unfold BF;rw[nB,bO h]⟩
 ·have l0:0<zZ t.ax:=aj;have i0:(0:Int)<=0/\(0:Int)<(zZ ds:Int):=aj;have j0:0<zZ ds:=aj;have m0:=λe=>Cn (V:=V e) l0;rcases h with h|h
  ·simp only[dS,dP,Z0,h,Int.reduceEq,i0,j0,dx,ce,cc];have hx:∀e:aa Bool,zZ e=k->cV (V e) t=(0:Int)-cV (V e) t.ax[0]! :=λe _=>by
    rw[hval];unfold BF;simp only[lG,h,Int.reduceEq,m0];omega
   obtain⟨d,q,qD⟩:=adY hk cD (hd 0 l0) (λe he=>by rw[<-hx e he];exact acP (hT e he)) X;rw[q];exact⟨d,rfl,qD.congr λe he=>(hx e he).symm⟩
  ·simp only[dS,dP,h,Int.reduceEq,i0,j0,dx];obtain⟨d,q,qD⟩:=aiu hk (hd 0 l0) X;rw[q];exact⟨d,rfl,qD.congr λe he=>by rw[hval];unfold BF;simp only[lG,h,Int.reduceEq,m0]⟩
 ·have l0:0<zZ t.ax:=aj;have l1:1<zZ t.ax:=aj;have i0:(0:Int)<=0/\(0:Int)<(zZ ds:Int):=aj;have j0:0<zZ ds:=aj;have i1:(0:Int)<=1/\(1:Int)<(zZ ds:Int):=aj;have j1:1<zZ ds:=aj;have n0:t.bA≠0:=aj;have n1:t.bA≠24:=aj;have n2:t.bA≠6:=aj;have n3:t.bA≠7:=aj;have n4:t.bA≠23:=aj;have n5:t.bA≠25:=aj;have hx:∀e:aa Bool,cV (V e) t=pR t.bA (cV (V e) t.ax[0]!) (cV (V e) t.ax[1]!):=λe=>by
   rw[hval];unfold BF;simp only[n0,n1,n2,n3,n4,n5,AE,Cn l0,Cn l1]
  obtain⟨d,q,qD⟩:=aLK hk (hd 0 l0) (hd 1 l1) h.1 h.2 (hkT 0 l0) (hkT 1 l1) (λe he=>by rw[<-hx];exact hT e he) X;simp only[dS,n0,n1,n2,n3,n4,n5,fO,i0,i1,j0,j1,dx,q];exact⟨d,rfl,qD.congr λe _=>(hx e).symm⟩
 ·have l0:0<zZ t.ax:=aj;have l1:1<zZ t.ax:=aj;have l2:2<zZ t.ax:=aj;have i0:(0:Int)<=0/\(0:Int)<(zZ ds:Int):=aj;have j0:0<zZ ds:=aj;have i1:(0:Int)<=1/\(1:Int)<(zZ ds:Int):=aj;have j1:1<zZ ds:=aj;have i2:(0:Int)<=2/\(2:Int)<(zZ ds:Int):=aj;have j2:2<zZ ds:=aj;obtain⟨d1,q1,D1⟩:=FX hk (hd 0 l0) X;obtain⟨d,q,qD⟩:=kf hk D1 (hd 1 l1) (hd 2 l2) X;simp only[dS,dP,h,Int.reduceEq,i0,i1,i2,j0,j1,j2,dx,q1,q];refine⟨d,rfl,qD.congr λe _=> ?_⟩;rw[hval];unfold BF;simp only[lG,h,Int.reduceEq,Cn l0,Cn l1,Cn l2];by_cases hz:cV (V e) t.ax[0]! =0<;>simp[hz]
 ·have l0:0<zZ t.ax:=aj;have i0:(0:Int)<=0/\(0:Int)<(zZ ds:Int):=aj;have j0:0<zZ ds:=aj;obtain⟨m,hm⟩:∃m:Nat,zZ t.ax=m+2:=⟨zZ t.ax-2,aj⟩;have hw:ak ((zZ ds:Int)-2)=(m:Int):=by rw[aI];omega
  have hw1:ak ((1:Int)+(m:Int))=((1+m:Nat):Int):=by rw[aI];omega
  have i1:(0:Int)<=((1+m:Nat):Int)/\((1+m:Nat):Int)<(zZ ds:Int):=aj;have j1:1+m<zZ ds:=aj;obtain⟨d1,q1,D1⟩:=Sr hk (lo:=0) (hi:=(m:Int)) (hd 0 l0) aj rfl (eX aj aj);obtain⟨d,q,qD⟩:=auT (X:=X) hk zf (F:=λi e=>cV (V e) t.ax[i]!) (m:=m) aj aj (λi hi=>hd i aj) D1 (λe _=>It _ _);simp only[dS,dP,h,Int.reduceEq,i0,j0,dx,hw,q1,hw1,i1,j1,q,zO];refine⟨d,rfl,qD.congr λe he=> ?_⟩;rw[hval];unfold BF;have hh:=It (cV (V e) t.ax[0]!) m;simp only[lG,h,Int.reduceEq,Cn l0,zF];rw[show (zZ t.ax:Int)-2=(m:Int)by omega,Cn aj];rfl
def Ki(hk:k<=12)(hv:cg vars)(hV:∀e:aa Bool,zZ e=k->vM vars (V e))(hX:X.ah=(k:Int))(hs:VD k (zZ vars) V s.aV):∀(n:Nat) (t:ay),zi t<n->dh vars inp t=Z->(gM vars t).isSome=Z->(∀e:aa Bool,zZ e=k->InT (cV (V e) t))->∃d,S8 n s t X=M (d,X)/\Dm k (λe=>cV (V e) t) d
 |0,_,h,_,_,_=>aj
 |n+1,t,h,hf,hr,hT=>amw hk hv hV hX hs (S8 n) t hf hr (λc hc=>Ki hk hv hV hX hs n c (by have:=ay.eF hc;omega) (nh hf hc) (aeN hv (hV _ (yY (n:=k) (a:=O))) hf hr c hc).1 λe he=>(aeN hv (hV e he) hf hr c hc).2) hT
def FA(hk:k<=12)(hv:cg vars)(hV:∀e:aa Bool,zZ e=k->vM vars (V e))(hX:X.ah=(k:Int))(hs:VD k (zZ vars) V s.aV){t:ay}(hc:iX vars inp t=0):∃d,Eh s t X=M (d,X)/\Dm k (λe=>cV (V e) t) d:=by
 have hT:∀e:aa Bool,zZ e=k->InT (cV (V e) t):=λe he=>(u6 hv (hV e he) inp t hc).2;unfold iX at hc;cases hf:dh vars inp t with
 |false=>rw[hf]at hc;simp at hc
 |true=>
  rw[hf]at hc;cases hr:(gM vars t).isSome with
  |false=>rw[hr]at hc;simp at hc
  |true=>
   obtain⟨d,_,hd⟩:=Ki hk hv hV hX hs (zi t+1) t aj hf hr hT;refine⟨d,dc (zi t+1) λn hn=> ?_,hd⟩;obtain⟨d',e',hd'⟩:=Ki hk hv hV hX hs n t aj hf hr hT;rw[e',hd.oU hd']
end
end Go.Proofs.YtghilkcphindjaaGreat
namespace Go.Proofs.YtghilkcphindjaaGreat
open Go Go.Iv Go.Shelf
abbrev E73:=aF×aK
def d73:Td 1 E73:= .c [] [6] (.r 1 2 (ec 6 (qp 1 0) en) (sb 0 138 (lg 138) (sb 1 150 (lg 150) sn)) (λz=>(z.t.1,z.2.1)) (λx=>(((),()),(x.2,x.1,()))))
def A73:=(lc (qp 0 0) (lc (ql 111) (lc (qg 150) ln)))
def B73:=(sb 0 138 (lg 138) sn)
abbrev Hh:Type:=(aa aM)->aF->aK->af E73
def x73(zf:Hh):aT->aT:=eY va 73 1 A73 B73 d73 (λg=>zf g.1.2.1 g.1.2.2.1 g.2.1)
def H73(zf:Hh):Prop:=HY va 73 1 A73 B73 d73 (λg=>zf g.1.2.1 g.1.2.2.1 g.2.1)
def Sh{zf:Hh}(hM:H73 zf):EO (x73 zf):=gi hM ⟨_,func73,aL,aL⟩ (λ_=>aL)
abbrev atc:=aF×aK
def d128:Td 1 atc:= .c [] [6] (.r 1 2 (ec 6 (qp 1 0) en) (sb 0 138 (lg 138) (sb 1 150 (lg 150) sn)) (λz=>(z.t.1,z.2.1)) (λx=>(((),()),(x.2,x.1,()))))
def aAg:=(lc (qp 0 0) (lc (qg 111) (lc (qg 150) ln)))
def aFS:=(sb 0 138 (lg 138) sn)
abbrev mA:Type:=aM->aF->aK->af atc
def aB0(zf:mA):aT->aT:=eY va 128 1 aAg aFS d128 (λg=>zf g.1.2.1 g.1.2.2.1 g.2.1)
def ajr(zf:mA):Prop:=HY va 128 1 aAg aFS d128 (λg=>zf g.1.2.1 g.1.2.2.1 g.2.1)
def aoc{zf:mA}(hM:ajr zf):EO (aB0 zf):=gi hM ⟨_,func128,aL,aL⟩ (λ_=>aL)
def F73(M73:Hh)(M128:mA):aT:=(aAp (aiR (aj7 (aDN (aCo (aB0 M128 (au5 (aeF (e75 (x73 M73 dz))))))))))
def atm{M73 M128}(h73:H73 M73)(h128:ajr M128):bK va (F73 M73 M128):=(anY (Dz (LN (anR (amE (aoc h128 (U7 (jG (lZ (Sh h73 aP))))))))))
structure mX where
 t9:List aM
 (t10 t11:Int)
 b0:aK
 (b1 b2:aF)
def agS:Td 1 mX:= .c [] [0,5,6,9,10,11] (.t (bT.fc 1 0 []) (.t (bT.fc 1 5 []) (.c [] [0,5,6,9,10,11] (.r 1 3 (ec 0 (qp 0 0) (ec 5 (qp 1 0) (ec 6 (qp 2 0) (ec 9 (ql 111) (ec 10 aU (ec 11 aU en)))))) (sb 0 138 (lg 138) (sb 1 150 (lg 150) (sb 2 150 (lc qn w3_) sn))) (λz=>⟨z.1.t.2.1,z.1.q.1,z.1.q.2.1,z.2.1,z.t.1,(aF.mk [] (aq.mk z.t.2.1.2.1 [] [] z.t.2.1.q.1) [] (aq.mk z.t.2.1.q.t.1 [] [] z.t.2.1.q.q.2.1))⟩) (λx=>(((),(),(),x.t9,x.t10,x.t11,()),(x.b0,x.b1,((),x.b2.aJ.ah,(),(),x.b2.aJ.aH,(),x.b2.aN.ah,(),(),x.b2.aN.aH,()),())))))))
def Np{α:Type}(M73:Hh)(M128:mA)(p:mX)(go:mX->af α)(e1:af α):af α:=
 bif w9 (p.t11<p.t10)then if 0<=p.t11/\p.t11<zZ p.t9 then bif w9 (p.t9[zQ p.t11]!.cu=4)then match M128 (aM.mk p.t9[zQ p.t11]!.cu p.t9[zQ p.t11]!.aW p.t9[zQ p.t11]!.bq p.t9[zQ p.t11]!.fN (ay.mk p.t9[zQ p.t11]!.aB.bA p.t9[zQ p.t11]!.aB.fN p.t9[zQ p.t11]!.aB.ax) p.t9[zQ p.t11]!.aQ p.t9[zQ p.t11]!.aX p.t9[zQ p.t11]!.aR) p.b1 p.b0 with|J=>J|M r1=>go (mX.mk p.t9 p.t10 (ak (p.t11+1)) r1.snd r1.fst (aF.mk [] (aq.mk p.b2.aJ.ah [] [] p.b2.aJ.aH) [] (aq.mk p.b2.aN.ah [] [] p.b2.aN.aH)))else match ij 0 p.b1.aN (aq.mk (fh p.t9[zQ p.t11]!.aW p.b0).fst.ah (fh p.t9[zQ p.t11]!.aW p.b0).fst.aG [] (fh p.t9[zQ p.t11]!.aW p.b0).fst.aH) (fh p.t9[zQ p.t11]!.aW p.b0).snd with|J=>J|M r2=>bif w9 (p.t9[zQ p.t11]!.cu=0)then match Eh (aF.mk p.b1.aV p.b1.aJ p.b1.cM r2.fst) (ay.mk p.t9[zQ p.t11]!.aB.bA p.t9[zQ p.t11]!.aB.fN p.t9[zQ p.t11]!.aB.ax) r2.snd with|J=>J|M r3=>match aaN (aF.mk p.b1.aV p.b1.aJ p.b1.cM r2.fst) p.t9[zQ p.t11]!.bq r3.fst r3.snd with|J=>J|M r4=>go (mX.mk p.t9 p.t10 (ak (p.t11+1)) r4.snd r4.fst (aF.mk [] (aq.mk p.b2.aJ.ah [] [] p.b2.aJ.aH) [] (aq.mk p.b2.aN.ah [] [] p.b2.aN.aH)))else bif w9 (p.t9[zQ p.t11]!.cu=5)then if 0<=p.t9[zQ p.t11]!.fN/\p.t9[zQ p.t11]!.fN<zZ r2.snd.ai then match aaN (aF.mk p.b1.aV p.b1.aJ p.b1.cM r2.fst) p.t9[zQ p.t11]!.bq r2.snd.ai[p.t9[zQ p.t11]!.fN.toNat]! r2.snd with|J=>J|M r5=>go (mX.mk p.t9 p.t10 (ak (p.t11+1)) r5.snd r5.fst (aF.mk [] (aq.mk p.b2.aJ.ah [] [] p.b2.aJ.aH) [] (aq.mk p.b2.aN.ah [] [] p.b2.aN.aH)))else J else bif w9 (p.t9[zQ p.t11]!.cu=1)then match Eh (aF.mk p.b1.aV p.b1.aJ p.b1.cM r2.fst) (ay.mk p.t9[zQ p.t11]!.aB.bA p.t9[zQ p.t11]!.aB.fN p.t9[zQ p.t11]!.aB.ax) r2.snd with|J=>J|M r6=>match anH (aF.mk p.b1.aV p.b1.aJ p.b1.cM r2.fst) r6.fst r6.snd with|J=>J|M r7=>go (mX.mk p.t9 p.t10 (ak (p.t11+1)) r7.snd r7.fst (aF.mk [] (aq.mk p.b2.aJ.ah [] [] p.b2.aJ.aH) [] (aq.mk p.b2.aN.ah [] [] p.b2.aN.aH)))else bif w9 (p.t9[zQ p.t11]!.cu=3)then match Eh (aF.mk p.b1.aV p.b1.aJ p.b1.cM r2.fst) (ay.mk p.t9[zQ p.t11]!.aB.bA p.t9[zQ p.t11]!.aB.fN p.t9[zQ p.t11]!.aB.ax) r2.snd with|J=>J|M r8=>match Ah r8.fst r8.snd with|J=>J|M r9=>match M73 p.t9[zQ p.t11]!.aQ (aF.mk p.b1.aV p.b1.aJ p.b1.cM r2.fst) r9.snd with|J=>J|M r10=>match M73 p.t9[zQ p.t11]!.aX (aF.mk p.b1.aV p.b1.aJ p.b1.cM r2.fst) r10.snd with|J=>J|M r11=>match ae3 r9.fst r10.fst r11.fst r11.snd with|J=>J|M r12=>go (mX.mk p.t9 p.t10 (ak (p.t11+1)) r12.snd r12.fst (aF.mk [] (aq.mk p.b2.aJ.ah [] [] p.b2.aJ.aH) [] (aq.mk p.b2.aN.ah [] [] p.b2.aN.aH)))else bif w9 (p.t9[zQ p.t11]!.cu=6)then match acU r2.fst p.t9[zQ p.t11]!.aR r2.snd with|J=>J|M r13=>go (mX.mk p.t9 p.t10 (ak (p.t11+1)) r13.snd (aF.mk p.b1.aV p.b1.aJ p.b1.cM r13.fst) (aF.mk [] (aq.mk p.b2.aJ.ah [] [] p.b2.aJ.aH) [] (aq.mk p.b2.aN.ah [] [] p.b2.aN.aH)))else go (mX.mk p.t9 p.t10 (ak (p.t11+1)) r2.snd (aF.mk p.b1.aV p.b1.aJ p.b1.cM r2.fst) (aF.mk [] (aq.mk p.b2.aJ.ah [] [] p.b2.aJ.aH) [] (aq.mk p.b2.aN.ah [] [] p.b2.aN.aH)))else J else e1
def MT(M73:Hh)(M128:mA)(p:mX):af (af mX):=
 Np M73 M128 p fW dy
def UX(M73:Hh)(M128:mA):=bX (MT M73 M128)
def aKb(M73:Hh)(M128:mA):An:=(noTwo (.two (noTwo (agS.lp (UX M73 M128) .no)) .no))
def aIY(M73:Hh)(M128:mA):dB va (F73 M73 M128) 1 300 73 (aKb M73 M128):=bF (l:=[(bz f73 0,(agS.lp (UX M73 M128) .no))]) func73 (aY aL) aL (aA (aO agS) az)
def s73(M73:Hh)(M128:mA)(a1:aa aM)(a2:aF)(b0:aK):af E73:=
 match UX M73 M128 (mX.mk a1 (zZ a1) 0 b0 a2 (aF.mk [] (aq.mk 0 [] [] (0)) [] (aq.mk 0 [] [] (0))))with|J=>J|M r14=>Np M73 M128 r14 (λ_=>J) (M (r14.b1,r14.b0))
def aDF(M73:Hh)(M128:mA):aT:=(aDy (aiR (aj7 (au5 (aeF (e75 (x73 M73 dz)))))))
def ah5{M73 M128}(h73:H73 M73)(h128:ajr M128):bK va (aDF M73 M128):=(ajv (Dz (LN (U7 (jG (lZ (Sh h73 aP)))))))
structure tU where
 t7:List End
 (t12 t13:Int)
 b0:aK
 b2:aM
 (b3 b4:aF)
def Tp:Td 1 tU:= .c [] [3,4,5,6,7,12,13] (.t (bT.s 7 [] 273) (.c [] [3,4,5,6,7,12,13] (.r 1 6 (ec 3 (qp 1 0) (ec 4 (qp 2 0) (ec 5 (qp 3 0) (ec 6 (qp 4 0) (ec 7 (qo 5) (ec 12 aU (ec 13 aU en))))))) (sb 0 138 (lg 138) (sb 1 126 AN (sb 2 111 (lg 111) (sb 3 150 (lg 150) (sb 4 150 (lc qn w3_) (sr 5 273 sn)))))) (λz=>⟨z.q.t.1,z.1.q.2.1,z.1.q.t.1,z.2.1,z.t.2.1,z.q.1,(aF.mk [] (aq.mk z.q.2.1.2.1 [] [] z.q.2.1.q.1) [] (aq.mk z.q.2.1.q.t.1 [] [] z.q.2.1.q.q.2.1))⟩) (λx=>(((),(),(),(),(),x.t12,x.t13,()),(x.b0,((),()),x.b2,x.b3,((),x.b4.aJ.ah,(),(),x.b4.aJ.aH,(),x.b4.aN.ah,(),(),x.b4.aN.aH,()),x.t7,()))))))
def AI{α:Type}(M73:Hh)(M128:mA)(p:tU)(go:tU->af α)(e1:anp->ajV->af α)(e2:af α):af α:=
 bif w9 (p.t13<p.t12)then match ij (0) p.b3.aN (aq.mk (fh p.b2.aW p.b0).fst.ah (fh p.b2.aW p.b0).fst.aG [] (fh p.b2.aW p.b0).fst.aH) (fh p.b2.aW p.b0).snd with|J=>J|M r1=>match Eh (aF.mk p.b3.aV p.b3.aJ p.b3.cM r1.fst) (ay.mk p.b2.aB.bA p.b2.aB.fN p.b2.aB.ax) r1.snd with|J=>J|M r2=>match Ah r2.fst r2.snd with|J=>J|M r3=>if(p.t7++[End.mk r3.fst (aF.mk p.b3.aV p.b3.aJ p.b3.cM r1.fst)]).length<=1073741824 then bif w9 (r3.fst.aH=0)then e1 r1 r3 else match M73 p.b2.aQ (aF.mk p.b3.aV p.b3.aJ p.b3.cM r1.fst) r3.snd with|J=>J|M r4=>go (tU.mk (p.t7++[End.mk r3.fst (aF.mk p.b3.aV p.b3.aJ p.b3.cM r1.fst)]) p.t12 (ak (p.t13+1)) r4.snd (aM.mk p.b2.cu p.b2.aW p.b2.bq p.b2.fN (ay.mk p.b2.aB.bA p.b2.aB.fN p.b2.aB.ax) p.b2.aQ p.b2.aX p.b2.aR) r4.fst (aF.mk [] (aq.mk p.b4.aJ.ah [] [] p.b4.aJ.aH) [] (aq.mk p.b4.aN.ah [] [] p.b4.aN.aH)))else J else e2
def Fi(M73:Hh)(M128:mA)(p:tU):af (af tU):=
 AI M73 M128 p (λs=>M (M s)) (λ_ _=>M J) (M J)
def LO(M73:Hh)(M128:mA):=bX (Fi M73 M128)
structure eA where
 b0:aK
 (b2 b3:aF)
 b4:List End
def jj:Td 1 eA:= .c [] [3,5,6,47] (.r 1 5 (ec 3 (qp 1 0) (ec 5 (qp 2 0) (ec 6 (qp 3 0) (ec 47 (qf 247 (lc (qp 4 0) ln)) en)))) (sb 0 138 (lg 138) (sb 1 126 AN (sb 2 150 (lg 150) (sb 3 150 (lc qn w3_) (sb 4 271 (lc (ql 273) ln) sn))))) (λz=>⟨z.2.1,z.t.2.1,(aF.mk [] (aq.mk z.q.1.2.1 [] [] z.q.1.q.1) [] (aq.mk z.q.1.q.t.1 [] [] z.q.1.q.q.2.1)),z.q.2.1.1⟩) (λx=>(((),(),(),((),()),()),(x.b0,((),()),x.b2,((),x.b3.aJ.ah,(),(),x.b3.aJ.aH,(),x.b3.aN.ah,(),(),x.b3.aN.aH,()),(x.b4,()),()))))
structure afE where
 b0:aK
 (b2 b3:aF)
def TZ:Td 5 afE:= .c [] [5] (.t (bT.fc 2 0 []) (.t (bT.fc 2 5 []) (.c [] [5] (.r 5 5 (ec 5 (qp 2 0) en) (sb 0 138 (lg 138) (sb 1 126 AN (sb 2 150 (lg 150) (sb 3 150 (lc qn w3_) sn)))) (λz=>⟨z.2.1,z.t.2.1,(aF.mk [] (aq.mk z.q.1.2.1 [] [] z.q.1.q.1) [] (aq.mk z.q.1.q.t.1 [] [] z.q.1.q.q.2.1))⟩) (λx=>(((),()),(x.b0,((),()),x.b2,((),x.b3.aJ.ah,(),(),x.b3.aJ.aH,(),x.b3.aN.ah,(),(),x.b3.aN.aH,()),())))))))
def vK:ET:=(jj.pat ⟨default,default,default,[]⟩).E
def ru(p:eA):aS:=[(0, .box 138 (uni.cells 138 p.b0)),(1, .box 126 [.ptr 0 0]),(2, .box 150 (uni.cells 150 p.b2)),(3, .box 150 [.lit (.slice J 0 0), .n .i64 p.b3.aJ.ah, .lit (.slice J 0 0), .lit (.slice J 0 0), .n .i64 p.b3.aJ.aH, .lit (.slice J 0 0), .n .i64 p.b3.aN.ah, .lit (.slice J 0 0), .lit (.slice J 0 0), .n .i64 p.b3.aN.aH])]
def Bk(p:eA)(i:Nat):End:=p.b4[zZ p.b4-1-i]!
def XN(p:eA)(i:Nat):ET:=ig 10 (.fp (uni.cells 273 (Bk p i))) (ig 49 (.agg (uni.cells 273 (Bk p i))) (ig 48 (.n .i64 ((zZ p.b4:Int)-1-(i:Int))) (ig 47 (.fn (.func 247) [.fp [.sl 273 p.b4]]) vK)))
def aqp(p:eA):St->af eA:=rdM (λz:afE=>eA.mk z.b0 z.b2 z.b3 p.b4) TZ.rd
def oF(p:eA)(i:Nat):af eA:=match ae3 (Bk p i).FZ p.b2 (Bk p i).jm p.b0 with
 |none=>J
 |some r=>M (eA.mk r.snd r.fst (aF.mk [] (aq.mk p.b3.aJ.ah [] [] p.b3.aJ.aH) [] (aq.mk p.b3.aN.ah [] [] p.b3.aN.aH)) p.b4)
def ao3:aT:=aj7 dz
def ad1:bK va ao3:=LN aP
def akL(p:eA)(i:Nat):exec va ao3 f128.ntmps 300 (Dr (gU f128 0)) (α:=eA) ⟨XN p i,ru p,5⟩ (Zf (aqp p))=oF p i:=aL
def oz:eA->af eA:=rfA oF λp=>zZ (pz p.b4)
def ZM(p:eA):jj.pat p=⟨vK,ru p++[(4, .box 271 [.sl 273 p.b4])],5⟩:=aL
def aeh(p:eA):rfE 47 (jj.pat p)=⟨ig 47 (.fn (.func 247) [.fp [.sl 273 p.b4]]) vK,ru p,5⟩:=aL
def ZP:cF vK 47=M (.fn (.func 247) [.ptr 4 0]):=aL
def aE0:gU f128 0= .rangeFunc (.tmp 47) #[48,49] (Lu (gU f128 0)) (Dr (gU f128 0)):=aL
def Z8{p q:eA}{i:Nat}(h:oF p i=M q):q.b4=p.b4:=by
 unfold oF at h;split at h
 ·cases h
 cases h;rfl
def aFZ:(va.info? 273).map (·.size)=M 13:=aL
def aCf:(va.info? 273).bind (λi=>i.zero.map (·.cells))=M ([.int .i64 0, .slice J 0 0, .int .i64 0, .slice J 0 0, .int .i64 0, .slice J 0 0, .slice J 0 0, .int .i64 0, .slice J 0 0, .int .i64 0, .slice J 0 0, .slice J 0 0, .int .i64 0]:aa Value).toArray:=aL
def awF(C':Cx)(x:Int)(y:End)(E:Env)(σ:aa bM):HF va C' f128.ntmps (Lu (gU f128 0)) (λe E1 σ1=>e= .normal/\Iv.Sub ((10, .fp (uni.cells 273 y))::(49, .agg (uni.cells 273 y))::(48, .n .i64 x)::E) E1/\List.Sublist σ σ1) (Ex [48,49] [.n .i64 x, .agg (uni.cells 273 y)] E) σ:=by
 refine HF.region (id:=11) rfl ?_;refine RW.v rfl rfl aL (Yv.alloc rfl aCf) ?_;rintro _ _ ⟨b5,rfl,rfl⟩;refine RW.u rfl rfl (Yu.GX 0 rfl rfl rfl rfl aFZ (Pw.p rfl) rfl (yT rfl)) ?_;refine RW.Aw 0 10 rfl rfl (Vw.box 0 rfl) ?_;refine RW.nil ?_;refine⟨rfl,λt v h=> ?_,List.Sublist.refl _⟩;cases hb:zg 10 t<;>simp only[Env.get,hb]at h ⊢ <;>exact h
def apj(p:eA):aS.cE 5 (ru p):=eT aL
def ahq:YI va 1 f128.ntmps (gU f128 0) jj.pat (λx=>rfE 47 (jj.pat x)) oz:=by
 rw[aE0,show (λx=>rfE 47 (jj.pat x))=λx=>⟨ig 47 (.fn (.func 247) [.fp [.sl 273 x.b4]]) vK,ru x,5⟩from funext aeh];refine aci (γ:=eA) ad1 (id:=4) (T:=271) (cs:=λp=>[.sl 273 p.b4]) (es:=λp=>pz p.b4) (EA:=λp i=>[(10, .fp (uni.cells 273 (Bk p i))),(49, .agg (uni.cells 273 (Bk p i))),(48, .n .i64 ((zZ p.b4:Int)-1-(i:Int)))]) (EB:=XN) (rdB:=aqp) (patB:=λq=>TZ.pat ⟨q.b0,q.b2,q.b3⟩) aL ZM ZP (λp ρ=>congrArg (· ::[]) (fV ρ 273 p.b4)) (λp c hc=>by rw[zA.1 hc];exact .sl _ _) (λp=>QV p.b4) (enters_of func247 aL rfl) (λp i hi=>by rw[Ey p.b4 (by rw[kJ]at hi;exact hi)];rfl) (λx hx=> ?_) apj (λp ρ ρ' h=>((apj p).res h).symm) (λp q ρ=>rfl) (λp ρ r hr v es e=> ?_) (λp i q h=>by simp only[Bk,Z8 h,Au]) (λp i ρ=> ?_) (λp i x hx=> ?_) (λC' p i E σ hi=> ?_) (λp i E hE=> ?_) (λp i q hi h=>by rw[akL];exact h) (λp=>lI.m (TZ.ok _) _ λz=>rfl) (λq=>aL)
 ·have h:(List.all [48,49] λy=>zB y f128.ntmps)=Z:=aL;have h2:=zn.1 h x hx;rw[xw]at h2;exact h2
 ·simp only[aS.res,ru,zI,yx,IR.res,zk,yD,or_false]at hr;rcases hr with rfl|rfl|rfl|rfl<;>cases e
 ·have h:=uniL.clo 273 (Bk p i) ρ;have e1:(bU.fp (uni.cells 273 (Bk p i)):AV).sub ρ= .fp (uni.cells 273 (Bk p i)):=by rw[bU.sub,h]
  have e2:(bU.agg (uni.cells 273 (Bk p i)):AV).sub ρ= .agg (uni.cells 273 (Bk p i)):=by rw[bU.sub,h]
  have e3:(bU.n .i64 ((zZ p.b4:Int)-1-(i:Int)):AV).sub ρ= .n .i64 ((zZ p.b4:Int)-1-(i:Int)):=bL ρ _;simp only[Env.sub,zI,yx,e1,e2,e3]
 ·simp only[zk,yD,or_false]at hx;rcases hx with rfl|rfl|rfl
  ·exact .fp _ (uniL.oZ 273 _ _)
  ·exact .agg _ (uniL.oZ 273 _ _)
  ·exact .lit _
 ·rw[Ey p.b4 (by rw[kJ]at hi;exact hi)];exact awF C' _ _ E σ
 ·exact(((hE.put 47 _).put 48 _).put 49 _).put 10 _
def azs(M73:Hh)(M128:mA):An:=(cA 2 (.two (noTwo (Tp.lp (LO M73 M128) .no)) (.two (noTwo (jj.rf (λx=>rfE 47 (jj.pat x)) oz)) .no)))
def aBd(M73:Hh)(M128:mA):dB va (aDF M73 M128) 1 300 128 (azs M73 M128):=bF (l:=[(bz f128 0,(Tp.lp (LO M73 M128) .no)),(gU f128 0,(jj.rf (λx=>rfE 47 (jj.pat x)) oz))]) func128 (aY aL) aL (aA (aO Tp) (aA ⟨jj.ok _,ahq⟩ az))
def auY(M73:Hh)(M128:mA)(a1:aM)(a2:aF)(b0:aK):af atc:=
 match LO M73 M128 (tU.mk [] a1.fN (0) b0 (aM.mk a1.cu a1.aW a1.bq a1.fN (ay.mk a1.aB.bA a1.aB.fN a1.aB.ax) a1.aQ a1.aX a1.aR) a2 (aF.mk [] (aq.mk (0) [] [] (0)) [] (aq.mk (0) [] [] (0))))with|J=>J|M r5=>AI M73 M128 r5 (λ_=>J) (λr6 r8=>match oz (eA.mk r8.snd (aF.mk r5.b3.aV r5.b3.aJ r5.b3.cM r6.fst) (aF.mk [] (aq.mk r5.b4.aJ.ah [] [] r5.b4.aJ.aH) [] (aq.mk r5.b4.aN.ah [] [] r5.b4.aN.aH)) (ahx (r5.t7++[End.mk r8.fst (aF.mk r5.b3.aV r5.b3.aJ r5.b3.cM r6.fst)])))with|J=>J|M r9=>M ((r9.b2,r9.b0))) (match oz (eA.mk r5.b0 r5.b3 (aF.mk [] (aq.mk r5.b4.aJ.ah [] [] r5.b4.aJ.aH) [] (aq.mk r5.b4.aN.ah [] [] r5.b4.aN.aH)) (ahx r5.t7))with|J=>J|M r11=>M ((r11.b2,r11.b0)))
def mY:Nat->Hh×mA
 |0=>(λ_ _ _=>J,λ_ _ _=>J)
 |n+1=>(s73 (mY n).1 (mY n).2,auY (mY n).1 (mY n).2)
def m73(n:Nat):Hh:=(mY n).1
def ZC(n:Nat):mA:=(mY n).2
def Ca:∀n,H73 (m73 n)/\ajr (ZC n)
 |0=>⟨λ_ _ h=>(by cases h),λ_ _ h=>(by cases h)⟩
 |n+1=>by
  have ih:=Ca n;obtain⟨i73,i128⟩:=ih;refine⟨?_,?_⟩
  ·exact(gZ (atm i73 i128) (aIY (m73 n) (ZC n)) (λ_=>aL) (λ_=>aL) (λ_=>aL) λ_=>aL)
  ·exact(gZ (ah5 i73 i128) (aBd (m73 n) (ZC n)) (λ_=>aL) (λ_=>aL) (λ_=>aL) λ_=>aL)
def r73:Hh:=λa1 a2 b0=>lim (λn=>m73 n a1 a2 b0)
def axy:H73 r73:=λg b h=>by
 obtain⟨n,hn⟩:=bW h;exact(Ca n).1 g b hn
def e73(F:aT):aT:=x73 r73 F
def av4:EO e73:=Sh axy
end Go.Proofs.YtghilkcphindjaaGreat
namespace Go.Proofs.YtghilkcphindjaaGreat
open Go Go.Iv
open Go.IntKind (i64 u64)
def aJv:Td 2 E75:= .c [] [4] (.r 2 3 (ec 4 (qp 2 0) en) (sb 0 138 Xq (sr 1 80 (sb 2 80 aea sn))) (λz=>((aq.mk z.t.2.1.1 z.t.2.1.2.1 [] z.t.2.1.t.2.1),(aK.mk (bn.mk z.2.1.1 z.2.1.2.1 z.2.1.t.1) z.2.1.t.2.1 z.2.1.q.1 z.2.1.q.2.1 z.t.1))) (λx=>(((),()),((x.2.fF.ah,x.2.fF.ai,x.2.fF.bG,x.2.ah,x.2.cC,x.2.bS,(),()),x.2.ai,(x.1.ah,x.1.aG,(),x.1.aH,()),()))))
def aKJ:=HD
def aCJ:aT->aT:=eY va 75 2 (lc (qp 0 0) gY) aKJ aJv (λg=>M (fh g.1.2.1 ((aK.mk (bn.mk g.2.1.1 g.2.1.2.1 g.2.1.t.1) g.2.1.t.2.1 g.2.1.q.1 g.2.1.q.2.1 g.t.1))))
def Du:EO aCJ:=λh=>kY (an:= .no) func75 (Wr aP) az h
def aAf:Td 2 anp:= .c [] [8] (.r 2 3 (ec 8 (qp 2 0) en) (sb 0 138 Xq (sr 1 80 (sb 2 80 (lg 80) sn))) (λz=>(z.t.2.1,(aK.mk (bn.mk z.2.1.1 z.2.1.2.1 z.2.1.t.1) z.2.1.t.2.1 z.2.1.q.1 z.2.1.q.2.1 z.t.1))) (λx=>(((),()),((x.2.fF.ah,x.2.fF.ai,x.2.fF.bG,x.2.ah,x.2.cC,x.2.bS,(),()),x.2.ai,x.1,()))))
def aCt:=HD
def aol:aT->aT:=eY va 115 2 amM aCt aAf (λg=>ij g.1.2.1 g.1.t.1 g.1.t.2.1 ((aK.mk (bn.mk g.2.1.1 g.2.1.2.1 g.2.1.t.1) g.2.1.t.2.1 g.2.1.q.1 g.2.1.q.2.1 g.t.1)))
def qu:EO aol:=λh=>kY (an:= .no) func115 (UF aP) az h
def aFE:Td 2 av9:= .c [] [6] (.r 2 3 (ec 6 (qp 2 0) en) (sb 0 138 Xq (sr 1 80 (sb 2 42 (lg 42) sn))) (λz=>(z.t.2.1,(aK.mk (bn.mk z.2.1.1 z.2.1.2.1 z.2.1.t.1) z.2.1.t.2.1 z.2.1.q.1 z.2.1.q.2.1 z.t.1))) (λx=>(((),()),((x.2.fF.ah,x.2.fF.ai,x.2.fF.bG,x.2.ah,x.2.cC,x.2.bS,(),()),x.2.ai,x.1,()))))
def azb:=HD
def apS:aT->aT:=eY va 118 2 (lc (qp 0 0) agx) azb aFE (λg=>Gu g.1.2.1 g.1.t.1 ((aK.mk (bn.mk g.2.1.1 g.2.1.2.1 g.2.1.t.1) g.2.1.t.2.1 g.2.1.q.1 g.2.1.q.2.1 g.t.1)))
def DI:EO apS:=λh=>kY (an:= .no) func118 (Yk aP) az h
def aK8:Td 2 E82:= .c [] [4] (.r 2 3 (ec 4 (qp 2 0) en) (sb 0 138 Xq (sr 1 80 (sb 2 80 (lg 80) sn))) (λz=>(z.t.2.1,(aK.mk (bn.mk z.2.1.1 z.2.1.2.1 z.2.1.t.1) z.2.1.t.2.1 z.2.1.q.1 z.2.1.q.2.1 z.t.1))) (λx=>(((),()),((x.2.fF.ah,x.2.fF.ai,x.2.fF.bG,x.2.ah,x.2.cC,x.2.bS,(),()),x.2.ai,x.1,()))))
def aI2:=HD
def aJe:aT->aT:=eY va 82 2 (lc (qp 0 0) (lc (qg 42) ln)) aI2 aK8 (λg=>m82 g.1.2.1 ((aK.mk (bn.mk g.2.1.1 g.2.1.2.1 g.2.1.t.1) g.2.1.t.2.1 g.2.1.q.1 g.2.1.q.2.1 g.t.1)))
def U3:EO aJe:=λh=>kY (an:= .no) func82 (C6 aP) az h
def aLE:Td 2 E74:= .c [] [8] (.r 2 3 (ec 8 (qp 2 0) en) (sb 0 138 Xq (sr 1 80 (sb 2 80 (lg 80) sn))) (λz=>(z.t.2.1,(aK.mk (bn.mk z.2.1.1 z.2.1.2.1 z.2.1.t.1) z.2.1.t.2.1 z.2.1.q.1 z.2.1.q.2.1 z.t.1))) (λx=>(((),()),((x.2.fF.ah,x.2.fF.ai,x.2.fF.bG,x.2.ah,x.2.cC,x.2.bS,(),()),x.2.ai,x.1,()))))
def aHE:=HD
def aA1:aT->aT:=eY va 74 2 (lc (qp 0 0) (lc (qg 42) Lg)) aHE aLE (λg=>Y9 g.1.2.1 g.1.t.1 g.1.t.2.1 ((aK.mk (bn.mk g.2.1.1 g.2.1.2.1 g.2.1.t.1) g.2.1.t.2.1 g.2.1.q.1 g.2.1.q.2.1 g.t.1)))
def alG:EO aA1:=λh=>kY (an:= .no) func74 (Uf aP) az h
def aCi:Td 2 ajV:= .c [] [4] (.r 2 3 (ec 4 (qp 2 0) en) (sb 0 138 Xq (sr 1 80 (sb 2 42 (lg 42) sn))) (λz=>(z.t.2.1,(aK.mk (bn.mk z.2.1.1 z.2.1.2.1 z.2.1.t.1) z.2.1.t.2.1 z.2.1.q.1 z.2.1.q.2.1 z.t.1))) (λx=>(((),()),((x.2.fF.ah,x.2.fF.ai,x.2.fF.bG,x.2.ah,x.2.cC,x.2.bS,(),()),x.2.ai,x.1,()))))
def aEV:=HD
def aqJ:aT->aT:=eY va 132 2 aiv aEV aCi (λg=>Ah g.1.2.1 ((aK.mk (bn.mk g.2.1.1 g.2.1.2.1 g.2.1.t.1) g.2.1.t.2.1 g.2.1.q.1 g.2.1.q.2.1 g.t.1)))
def OI:EO aqJ:=λh=>kY (an:= .no) func132 (UK (DI aP)) az h
def Jv:Td 2 qP:= .c [] [0,3,4,5,14,15] (.r 2 5 (ec 0 (qp 0 0) (ec 3 (qp 2 0) (ec 4 (qp 3 0) (ec 5 (qp 4 0) (ec 14 aU (ec 15 aU en)))))) (sb 0 138 Xq (sr 1 80 (sb 2 38 (lg 38) (sb 3 80 w8_ (sb 4 80 (lg 80) sn))))) (λz=>⟨z.1.q.1,z.1.q.2.1,(aK.mk (bn.mk z.2.1.1 z.2.1.2.1 z.2.1.t.1) z.2.1.t.2.1 z.2.1.q.1 z.2.1.q.2.1 z.t.1),z.t.2.1,(aq.mk z.q.1.1 [] [] z.q.1.t.2.1),z.q.2.1⟩) (λx=>(((),(),(),(),x.t14,x.t15,()),((x.b0.fF.ah,x.b0.fF.ai,x.b0.fF.bG,x.b0.ah,x.b0.cC,x.b0.bS,(),()),x.b0.ai,x.b1,(x.b2.ah,(),(),x.b2.aH,()),x.b3,()))))
def azY:Td 2 awM:= .c [] [4] (.r 2 3 (ec 4 (qp 2 0) en) (sb 0 138 Xq (sr 1 80 (sb 2 80 (lg 80) sn))) (λz=>(z.t.2.1,(aK.mk (bn.mk z.2.1.1 z.2.1.2.1 z.2.1.t.1) z.2.1.t.2.1 z.2.1.q.1 z.2.1.q.2.1 z.t.1))) (λx=>(((),()),((x.2.fF.ah,x.2.fF.ai,x.2.fF.bG,x.2.ah,x.2.cC,x.2.bS,(),()),x.2.ai,x.1,()))))
def aDp:=HD
def aDd:aT->aT:=eY va 116 2 (lc (qp 0 0) (lc (qg 38) ln)) aDp azY (λg=>Yx g.1.2.1 ((aK.mk (bn.mk g.2.1.1 g.2.1.2.1 g.2.1.t.1) g.2.1.t.2.1 g.2.1.q.1 g.2.1.q.2.1 g.t.1)))
def PB:EO aDd:=λh=>kY (an:=(cA 2 (.two (noTwo (Jv.lp Bc .no)) .no))) (l:=[(bz f116 0,(Jv.lp Bc .no))]) func116 (VY (C6 (qu (Du aP)))) (aA (aO Jv) az) h
def azm:Td 2 atJ:= .c [] [4] (.r 2 3 (ec 4 (qp 2 0) en) (sb 0 138 Xq (sr 1 80 (sb 2 80 (lg 80) sn))) (λz=>(z.t.2.1,(aK.mk (bn.mk z.2.1.1 z.2.1.2.1 z.2.1.t.1) z.2.1.t.2.1 z.2.1.q.1 z.2.1.q.2.1 z.t.1))) (λx=>(((),()),((x.2.fF.ah,x.2.fF.ai,x.2.fF.bG,x.2.ah,x.2.cC,x.2.bS,(),()),x.2.ai,x.1,()))))
def aDY:=HD
def aq9:aT->aT:=eY va 191 2 aiv aDY azm (λg=>Qf g.1.2.1 ((aK.mk (bn.mk g.2.1.1 g.2.1.2.1 g.2.1.t.1) g.2.1.t.2.1 g.2.1.q.1 g.2.1.q.2.1 g.t.1)))
def O5:EO aq9:=λh=>kY (an:= .no) func191 (DI (U3 aP)) az h
def aAM:Td 2 auW:= .c [] [8] (.r 2 3 (ec 8 (qp 2 0) en) (sb 0 138 Xq (sr 1 80 (sb 2 80 (lg 80) sn))) (λz=>(z.t.2.1,(aK.mk (bn.mk z.2.1.1 z.2.1.2.1 z.2.1.t.1) z.2.1.t.2.1 z.2.1.q.1 z.2.1.q.2.1 z.t.1))) (λx=>(((),()),((x.2.fF.ah,x.2.fF.ai,x.2.fF.bG,x.2.ah,x.2.cC,x.2.bS,(),()),x.2.ai,x.1,()))))
def ayJ:=HD
def arl:aT->aT:=eY va 192 2 amM ayJ aAM (λg=>acC g.1.2.1 g.1.t.1 g.1.t.2.1 ((aK.mk (bn.mk g.2.1.1 g.2.1.2.1 g.2.1.t.1) g.2.1.t.2.1 g.2.1.q.1 g.2.1.q.2.1 g.t.1)))
def acR:EO arl:=λh=>kY (an:= .no) func192 (O5 (OI (LF (qu (U3 aP))))) az h
def aoz:Td 2 lu:= .c [] [6] (.r 2 3 (ec 6 (qp 2 0) en) (sb 0 138 Xq (sr 1 80 (sb 2 80 (lg 80) sn))) (λz=>(z.t.2.1,(aK.mk (bn.mk z.2.1.1 z.2.1.2.1 z.2.1.t.1) z.2.1.t.2.1 z.2.1.q.1 z.2.1.q.2.1 z.t.1))) (λx=>(((),()),((x.2.fF.ah,x.2.fF.ai,x.2.fF.bG,x.2.ah,x.2.cC,x.2.bS,(),()),x.2.ai,x.1,()))))
def aoH:=(lc (qp 0 0) (lc (qg 150) Lt))
def aok:=HD
abbrev Cs:Type:=aF->ay->aK->af lu
def ad5(zf:Cs):aT->aT:=eY va 127 2 aoH aok aoz (λg=>zf g.1.2.1 g.1.2.2.1 ((aK.mk (bn.mk g.2.1.1 g.2.1.2.1 g.2.1.2.2.1) g.2.1.2.2.2.1 g.2.1.2.2.2.2.1 g.2.1.2.2.2.2.2.1 g.2.2.1)))
def Xo(zf:Cs):Prop:=HY va 127 2 aoH aok aoz (λg=>zf g.1.2.1 g.1.2.2.1 ((aK.mk (bn.mk g.2.1.1 g.2.1.2.1 g.2.1.2.2.1) g.2.1.2.2.2.1 g.2.1.2.2.2.2.1 g.2.1.2.2.2.2.2.1 g.2.2.1)))
def Qr{zf:Cs}(hM:Xo zf):EO (ad5 zf):=gi hM ⟨_,func127,aL,aL⟩ (λ_=>aL)
def V8(M127o:Cs):aT:=(arl (aq9 (aqJ (ad5 M127o (auw (apS (aol (aCJ (aA1 dz)))))))))
def ac2{M127o}(h127o:Xo M127o):bK va (V8 M127o):=(acR (O5 (OI (Qr h127o (u7 (DI (qu (Du (alG aP)))))))))
def vf:Td 2 l9:= .c [] [0,6,7,11,13,95,96] (.r 2 6 (ec 0 (qp 0 0) (ec 6 (qp 2 0) (ec 7 (qo 3) (ec 11 (qp 4 0) (ec 13 (qp 5 0) (ec 95 aU (ec 96 aU en))))))) (sb 0 138 Xq (sr 1 80 (sb 2 80 w8_ (sr 3 80 (sb 4 80 (lg 80) (sb 5 80 (lg 80) sn)))))) (λz=>⟨z.q.1,z.1.q.2.1,z.1.q.t.1,(aK.mk (bn.mk z.2.1.1 z.2.1.2.1 z.2.1.t.1) z.2.1.t.2.1 z.2.1.q.1 z.2.1.q.2.1 z.t.1),(aq.mk z.t.2.1.1 [] [] z.t.2.1.t.2.1),z.q.2.1,z.q.t.1⟩) (λx=>(((),(),(),(),(),x.t95,x.t96,()),((x.b0.fF.ah,x.b0.fF.ai,x.b0.fF.bG,x.b0.ah,x.b0.cC,x.b0.bS,(),()),x.b0.ai,(x.b1.ah,(),(),x.b1.aH,()),x.t7,x.b3,x.b4,()))))
def ano(M127o:Cs)(p:l9):kO va (V8 M127o) f127.ntmps 300 (bz f127 1) .no (af l9) (vf.pat p) (kOn vf.rd)=Fx M127o p:=aL
def vi:Td 2 mD:= .c [] [0,4,5,6,7,16,17,18] (.t (bT.s 7 [] 80) (.c [] [0,4,5,6,7,16,17,18] (.r 2 6 (ec 0 (qp 0 0) (ec 4 (qp 2 0) (ec 5 (qp 3 0) (ec 6 (qp 4 0) (ec 7 (qo 5) (ec 16 (ql 106) (ec 17 aU (ec 18 aU en)))))))) (sb 0 138 Xq (sr 1 80 (sb 2 150 (lg 150) (sb 3 106 (lg 106) (sb 4 80 w8_ (sr 5 80 sn)))))) (λz=>⟨z.q.t.1,z.1.q.2.1,z.1.q.t.1,z.1.q.t.2.1,(aK.mk (bn.mk z.2.1.1 z.2.1.2.1 z.2.1.t.1) z.2.1.t.2.1 z.2.1.q.1 z.2.1.q.2.1 z.t.1),z.t.2.1,z.q.1,(aq.mk z.q.2.1.1 [] [] z.q.2.1.t.2.1)⟩) (λx=>(((),(),(),(),(),x.t16,x.t17,x.t18,()),((x.b0.fF.ah,x.b0.fF.ai,x.b0.fF.bG,x.b0.ah,x.b0.cC,x.b0.bS,(),()),x.b0.ai,x.b1,x.b2,(x.b3.ah,(),(),x.b3.aH,()),x.t7,()))))))
def akI(M127o:Cs)(p:mD):kO va (V8 M127o) f127.ntmps 300 (bz f127 0) .no (af mD) (vi.pat p) (kOn vi.rd)=GN M127o p:=aL
def au7(M127o:Cs):An:=(cA 2 (.two (noTwo (vi.lp (A8 M127o) .no)) (.two (cA 12 (.two (cA 3 (.two (noTwo (vf.lp (AY M127o) .no)) .no)) .no)) .no)))
def at5(M127o:Cs):dB va (V8 M127o) 2 300 127 (au7 M127o):=bF (l:=[(bz f127 0,(vi.lp (A8 M127o) .no)),(bz f127 1,(vf.lp (AY M127o) .no))]) func127 (aY aL) aL (aA ⟨vi.ok _,DD (akI M127o)⟩ (aA ⟨vf.ok _,DD (ano M127o)⟩ az))
def Je:∀n,Xo (S8 n)
 |0=>λ_ _ h=>(by cases h)
 |n+1=>gZ (ac2 (Je n)) (at5 (S8 n)) (λ_=>aL) (λ_=>aL) (λ_=>aL) λ_=>aL
def aaE:Xo Eh:=λg b h=>(bW h).elim λn=>Je n g b
def aDQ(F:aT):aT:=ad5 Eh F
def NB:EO aDQ:=Qr aaE
abbrev az1:=Unit×aF×Int
def aHO:Td 0 az1:= .c [] [4,5,6] (.r 0 1 (ec 4 qv (ec 5 (qp 0 0) (ec 6 aU en))) (sb 0 150 (lc qn w3_) sn) (λz=>((),(aF.mk [] (aq.mk z.2.1.2.1 [] [] z.2.1.q.1) [] (aq.mk z.2.1.q.t.1 [] [] z.2.1.q.q.2.1)),z.1.t.1)) (λx=>(((),(),x.t,()),(((),x.2.1.aJ.ah,(),(),x.2.1.aJ.aH,(),x.2.1.aN.ah,(),(),x.2.1.aN.aH,()),()))))
def RS:Td 0 Unit:= .c [] [] (.r 0 0 en sn (λ_=>()) (λ_=>((()),(()))))
def afj:Unit->af Unit:=λ_=>J
def adq(a0:bn)(a1:mI):af az1:=
 match m48 a0 with|J=>J|M r6=>bif bif w9 (r6=0)then O else Z then M (((),aF.mk [] (aq.mk (0) [] [] (0)) [] (aq.mk (0) [] [] (0)),r6))else match m65 a0 (2)with|J=>J|M r7=>match m64 a0 r7 a1.cq with|J=>J|M r8=>bif bif w9 (r8=0)then O else Z then M (((),aF.mk [] (aq.mk (0) [] [] (0)) [] (aq.mk (0) [] [] (0)),r8))else match m49 a0 with|J=>J|M r9=>bif w9 (12<r9.snd.snd)then M (((),aF.mk [] (aq.mk (0) [] [] (0)) [] (aq.mk (0) [] [] (0)),4))else J
def aFQ:aT->aT:=eZf va 72 avr aHO (λg=>adq g.1 g.2.1)
def ajl:EO aFQ:=λh=>kZf (an:=(cA 7 (.two (noTwo (RS.lp afj .no)) .no))) (l:=[(bz f72 0,(RS.lp afj .no))]) func72 (iS (p:=(λf=>zg f 48||zg f 49||zg f 64||zg f 65||zg f 75||zg f 115||zg f 116||zg f 126||zg f 127)) (NB (u7 (PB (qu (Du (SH (adC (aeU (ago aP)))))))))) (aA ⟨RS.ok _,λp q h=>by cases h⟩ az) h
structure tg where
 t134:List dO
 (t135 t136:Int)
 b0:aF
 b1:aK
 b2:aF
def Tt:Td 0 tg:= .c [] [5,9,11,134,135,136] (.t (bT.fc 2 0 []) (.t (bT.fc 2 5 []) (.c [] [5,9,11,134,135,136] (.r 0 4 (ec 5 (qp 0 0) (ec 9 (qp 1 0) (ec 11 (qp 2 0) (ec 134 (ql 116) (ec 135 aU (ec 136 aU en)))))) (sb 0 150 (lc qn w3_) (sb 1 138 (lc (ql 108) (lc (ql 116) (lc (ql 111) (dX (dX (lc (ql 38) (lc (qo 3) ln))))))) (sb 2 150 aD8 (sr 3 80 sn)))) (λz=>⟨z.1.t.2.1,z.1.q.1,z.1.q.2.1,(aF.mk [] (aq.mk z.2.1.2.1 [] [] z.2.1.q.1) [] (aq.mk z.2.1.q.t.1 [] [] z.2.1.q.q.2.1)),(aK.mk (bn.mk z.t.1.1 z.t.1.2.1 z.t.1.t.1) z.t.1.t.2.1 z.t.1.q.1 z.t.1.q.2.1 z.q.1),(aF.mk z.t.2.1.1 (aq.mk z.t.2.1.2.1 z.t.2.1.t.1 [] z.t.2.1.q.1) z.t.2.1.q.2.1 (aq.mk z.t.2.1.q.t.1 z.t.2.1.q.t.2.1 [] z.t.2.1.q.q.2.1))⟩) (λx=>(((),(),(),x.t134,x.t135,x.t136,()),(((),x.b0.aJ.ah,(),(),x.b0.aJ.aH,(),x.b0.aN.ah,(),(),x.b0.aN.aH,()),(x.b1.fF.ah,x.b1.fF.ai,x.b1.fF.bG,x.b1.ah,x.b1.cC,x.b1.bS,(),()),(x.b2.aV,x.b2.aJ.ah,x.b2.aJ.aG,(),x.b2.aJ.aH,x.b2.cM,x.b2.aN.ah,x.b2.aN.aG,(),x.b2.aN.aH,()),x.b1.ai,())))))))
def Ej{α:Type}(p:tg)(go:tg->af α)(e1:af α):af α:=
 bif w9 (p.t136<p.t135)then if 0<=p.t136/\p.t136<zZ p.t134 then match Eh (aF.mk p.b2.aV (aq.mk p.b2.aJ.ah p.b2.aJ.aG [] p.b2.aJ.aH) p.b2.cM (aq.mk p.b2.aN.ah p.b2.aN.aG [] p.b2.aN.aH)) (ay.mk p.t134[zQ p.t136]!.aB.bA p.t134[zQ p.t136]!.aB.fN p.t134[zQ p.t136]!.aB.ax) p.b1 with|J=>J|M r4=>match SG r4.fst p.t134[zQ p.t136]!.aC p.t134[zQ p.t136]!.au with|J=>J|M r5=>if(r4.snd.ai++[r5.fst]).length<=1073741824 then go (tg.mk p.t134 p.t135 (ak (p.t136+1)) (aF.mk [] (aq.mk p.b0.aJ.ah [] [] p.b0.aJ.aH) [] (aq.mk p.b0.aN.ah [] [] p.b0.aN.aH)) (aK.mk r4.snd.fF r4.snd.ah r4.snd.cC r4.snd.bS (r4.snd.ai++[r5.fst])) (aF.mk p.b2.aV (aq.mk p.b2.aJ.ah p.b2.aJ.aG [] p.b2.aJ.aH) p.b2.cM (aq.mk p.b2.aN.ah p.b2.aN.aG [] p.b2.aN.aH)))else J else J else e1
def LU(p:tg):af (af tg):=
 Ej p fW dy
def Jt:=bX (LU)
structure uc where
 t123:Int
 b0:bn
 b1:aF
 b2:aK
 b3:aF
def Ss:Td 0 uc:= .c [] [2,5,9,11,123] (.t (bT.c 3 5 [] 80) (.c [] [2,5,9,11,123] (.r 0 7 (ec 2 (qp 0 0) (ec 5 (qp 1 0) (ec 9 (qp 2 0) (ec 11 (qp 3 0) (ec 123 aU en))))) (sb 0 26 (lg 26) (sb 1 150 (lc qn w3_) (sb 2 138 aBw (sb 3 150 (lc (qo 5) (dX (lc (ql 3) (lc qn (dX (lc (qo 6) aea)))))) (sr 4 80 (sr 5 80 (sr 6 80 sn))))))) (λz=>⟨z.1.q.1,z.2.1,(aF.mk [] (aq.mk z.t.1.2.1 [] [] z.t.1.q.1) [] (aq.mk z.t.1.q.t.1 [] [] z.t.1.q.q.2.1)),(aK.mk (bn.mk z.t.2.1.1 z.t.2.1.2.1 z.t.2.1.t.1) z.t.2.1.t.2.1 z.t.2.1.q.1 z.t.2.1.q.2.1 z.q.2.1),(aF.mk z.q.t.1 (aq.mk z.q.1.2.1 z.q.1.t.1 [] z.q.1.q.1) z.q.t.2.1 (aq.mk z.q.1.q.t.1 z.q.1.q.t.2.1 [] z.q.1.q.q.2.1))⟩) (λx=>(((),(),(),(),x.t123,()),(x.b0,((),x.b1.aJ.ah,(),(),x.b1.aJ.aH,(),x.b1.aN.ah,(),(),x.b1.aN.aH,()),(x.b2.fF.ah,x.b2.fF.ai,x.b2.fF.bG,x.b2.ah,x.b2.cC,x.b2.bS,(),()),((),x.b3.aJ.ah,x.b3.aJ.aG,(),x.b3.aJ.aH,(),x.b3.aN.ah,x.b3.aN.aG,(),x.b3.aN.aH,()),x.b2.ai,x.b3.aV,x.b3.cM,()))))))
def FV{α:Type}(p:uc)(go:uc->af α)(e1:af α):af α:=
 bif w9 (p.t123<8)then if(p.b3.cM++[aq.mk (fh ((0:Int)) p.b2).fst.ah (fh ((0:Int)) p.b2).fst.aG [] (fh ((0:Int)) p.b2).fst.aH]).length<=1073741824 then go (uc.mk (ak (p.t123+1)) p.b0 (aF.mk [] (aq.mk p.b1.aJ.ah [] [] p.b1.aJ.aH) [] (aq.mk p.b1.aN.ah [] [] p.b1.aN.aH)) (fh 0 p.b2).snd (aF.mk p.b3.aV (aq.mk p.b3.aJ.ah p.b3.aJ.aG [] p.b3.aJ.aH) (p.b3.cM++[aq.mk (fh 0 p.b2).fst.ah (fh 0 p.b2).fst.aG [] (fh 0 p.b2).fst.aH]) (aq.mk p.b3.aN.ah p.b3.aN.aG [] p.b3.aN.aH)))else J else e1
def JM(p:uc):af (af uc):=
 FV p fW dy
def KZ:=bX (JM)
structure tv where
 t80:List Slot
 (t81 t82:Int)
 b0:bn
 b1:aF
 b2:aK
 b3:aF
def T7:Td 0 tv:= .c [] [2,5,9,11,80,81,82] (.r 0 6 (ec 2 (qp 0 0) (ec 5 (qp 1 0) (ec 9 (qp 2 0) (ec 11 (qp 3 0) (ec 80 (ql 38) (ec 81 aU (ec 82 aU en))))))) (sb 0 26 (lg 26) aEr) (λz=>⟨z.1.q.1,z.1.q.2.1,z.1.q.t.1,z.2.1,(aF.mk [] (aq.mk z.t.1.2.1 [] [] z.t.1.q.1) [] (aq.mk z.t.1.q.t.1 [] [] z.t.1.q.q.2.1)),(aK.mk (bn.mk z.t.2.1.1 z.t.2.1.2.1 z.t.2.1.t.1) z.t.2.1.t.2.1 z.t.2.1.q.1 z.t.2.1.q.2.1 z.q.2.1),(aF.mk z.q.t.1 (aq.mk z.q.1.2.1 [] [] z.q.1.q.1) [] (aq.mk z.q.1.q.t.1 [] [] z.q.1.q.q.2.1))⟩) (λx=>(((),(),(),(),x.t80,x.t81,x.t82,()),(x.b0,((),x.b1.aJ.ah,(),(),x.b1.aJ.aH,(),x.b1.aN.ah,(),(),x.b1.aN.aH,()),(x.b2.fF.ah,x.b2.fF.ai,x.b2.fF.bG,x.b2.ah,x.b2.cC,x.b2.bS,(),()),((),x.b3.aJ.ah,(),(),x.b3.aJ.aH,(),x.b3.aN.ah,(),(),x.b3.aN.aH,()),x.b2.ai,x.b3.aV,()))))
def Gk{α:Type}(p:tv)(go:tv->af α)(e1:af α):af α:=
 bif w9 (p.t82<p.t81)then if 0<=p.t82/\p.t82<zZ p.t80 then if 0<=p.t80[zQ p.t82]!.bq/\p.t80[zQ p.t82]!.bq<zZ p.b0.ah then match Yx p.t80[zQ p.t82]! p.b2 with|J=>J|M r1=>match ij 5 r1.fst (aq.mk (fh (ak (p.b0.ah[p.t80[zQ p.t82]!.bq.toNat]!.au-p.b0.ah[p.t80[zQ p.t82]!.bq.toNat]!.aC)) r1.snd).fst.ah (fh (ak (p.b0.ah[p.t80[zQ p.t82]!.bq.toNat]!.au-p.b0.ah[p.t80[zQ p.t82]!.bq.toNat]!.aC)) r1.snd).fst.aG [] (fh (ak (p.b0.ah[p.t80[zQ p.t82]!.bq.toNat]!.au-p.b0.ah[p.t80[zQ p.t82]!.bq.toNat]!.aC)) r1.snd).fst.aH) (fh (ak (p.b0.ah[p.t80[zQ p.t82]!.bq.toNat]!.au-p.b0.ah[p.t80[zQ p.t82]!.bq.toNat]!.aC)) r1.snd).snd with|J=>J|M r2=>match ij 0 r2.fst (aq.mk (fh p.b0.ah[p.t80[zQ p.t82]!.bq.toNat]!.aC r2.snd).fst.ah (fh p.b0.ah[p.t80[zQ p.t82]!.bq.toNat]!.aC r2.snd).fst.aG [] (fh p.b0.ah[p.t80[zQ p.t82]!.bq.toNat]!.aC r2.snd).fst.aH) (fh p.b0.ah[p.t80[zQ p.t82]!.bq.toNat]!.aC r2.snd).snd with|J=>J|M r3=>if 0<=p.t80[zQ p.t82]!.bq/\p.t80[zQ p.t82]!.bq<zZ p.b3.aV then if 80=80/\p.t80[zQ p.t82]!.bq.toNat<zZ p.b3.aV then go (tv.mk p.t80 p.t81 (ak (p.t82+1)) p.b0 (aF.mk [] (aq.mk p.b1.aJ.ah [] [] p.b1.aJ.aH) [] (aq.mk p.b1.aN.ah [] [] p.b1.aN.aH)) r3.snd (aF.mk (p.b3.aV.set p.t80[zQ p.t82]!.bq.toNat r3.fst) (aq.mk p.b3.aJ.ah [] [] p.b3.aJ.aH) [] (aq.mk p.b3.aN.ah [] [] p.b3.aN.aH)))else J else J else J else J else e1
def J6(p:tv):af (af tv):=
 Gk p fW dy
def Kr:=bX (J6)
structure qy where
 t12:List Int
 t52:List bf
 (t53 t54:Int)
 b0:bn
 b1:aF
 b2:aK
 b3:aF
def Ub:Td 0 qy:= .c [] [2,5,9,11,12,52,53,54] (.t (bT.c 2 6 [] 80) (.t (bT.c 3 0 [] 80) (.c [] [2,5,9,11,12,52,53,54] (.r 0 6 (ec 2 (qp 0 0) (ec 5 (qp 1 0) (ec 9 (qp 2 0) (ec 11 (qp 3 0) (ec 12 (ql 3) (ec 52 (ql 108) (ec 53 aU (ec 54 aU en)))))))) (sb 0 26 (lg 26) aEr) (λz=>⟨z.1.q.1,z.1.q.2.1,z.1.q.t.1,z.1.q.t.2.1,z.2.1,(aF.mk [] (aq.mk z.t.1.2.1 [] [] z.t.1.q.1) [] (aq.mk z.t.1.q.t.1 [] [] z.t.1.q.q.2.1)),(aK.mk (bn.mk z.t.2.1.1 z.t.2.1.2.1 z.t.2.1.t.1) z.t.2.1.t.2.1 z.t.2.1.q.1 z.t.2.1.q.2.1 z.q.2.1),(aF.mk z.q.t.1 (aq.mk z.q.1.2.1 [] [] z.q.1.q.1) [] (aq.mk z.q.1.q.t.1 [] [] z.q.1.q.q.2.1))⟩) (λx=>(((),(),(),(),x.t12,x.t52,x.t53,x.t54,()),(x.b0,((),x.b1.aJ.ah,(),(),x.b1.aJ.aH,(),x.b1.aN.ah,(),(),x.b1.aN.aH,()),(x.b2.fF.ah,x.b2.fF.ai,x.b2.fF.bG,x.b2.ah,x.b2.cC,x.b2.bS,(),()),((),x.b3.aJ.ah,(),(),x.b3.aJ.aH,(),x.b3.aN.ah,(),(),x.b3.aN.aH,()),x.b2.ai,x.b3.aV,())))))))
def EW{α:Type}(p:qy)(go:qy->af α)(e1:af α):af α:=
 bif w9 (p.t54<p.t53)then if 0<=p.t54/\p.t54<zZ p.t52 then bif w9 (p.t52[zQ p.t54]!.bQ=2)then if(0:Int)<=(0:Int)/\(0:Int)<zZ p.t12 then if(0:Int)<=(1:Int)/\(1:Int)<=zZ p.t12 then if(p.b3.aV++[aq.mk (fh p.t12[0]! p.b2).fst.ah (fh p.t12[0]! p.b2).fst.aG [] (fh p.t12[0]! p.b2).fst.aH]).length<=1073741824 then go (qy.mk (xx 1 p.t12) p.t52 p.t53 (ak (p.t54+1)) p.b0 (aF.mk [] (aq.mk p.b1.aJ.ah [] [] p.b1.aJ.aH) [] (aq.mk p.b1.aN.ah [] [] p.b1.aN.aH)) (fh p.t12[0]! p.b2).snd (aF.mk (p.b3.aV++[aq.mk (fh p.t12[0]! p.b2).fst.ah (fh p.t12[0]! p.b2).fst.aG [] (fh p.t12[0]! p.b2).fst.aH]) (aq.mk p.b3.aJ.ah [] [] p.b3.aJ.aH) [] (aq.mk p.b3.aN.ah [] [] p.b3.aN.aH)))else J else J else J else if(p.b3.aV++[aq.mk (fh p.t52[zQ p.t54]!.eB p.b2).fst.ah (fh p.t52[zQ p.t54]!.eB p.b2).fst.aG [] (fh p.t52[zQ p.t54]!.eB p.b2).fst.aH]).length<=1073741824 then go (qy.mk p.t12 p.t52 p.t53 (ak (p.t54+1)) p.b0 (aF.mk [] (aq.mk p.b1.aJ.ah [] [] p.b1.aJ.aH) [] (aq.mk p.b1.aN.ah [] [] p.b1.aN.aH)) (fh p.t52[zQ p.t54]!.eB p.b2).snd (aF.mk (p.b3.aV++[aq.mk (fh p.t52[zQ p.t54]!.eB p.b2).fst.ah (fh p.t52[zQ p.t54]!.eB p.b2).fst.aG [] (fh p.t52[zQ p.t54]!.eB p.b2).fst.aH]) (aq.mk p.b3.aJ.ah [] [] p.b3.aJ.aH) [] (aq.mk p.b3.aN.ah [] [] p.b3.aN.aH)))else J else J else e1
def L4(p:qy):af (af qy):=
 EW p fW dy
def MK:=bX (L4)
abbrev aFh:=aK×aF×Int
def aJA:Td 0 aFh:= .c [] [4,5,6] (.t (bT.fc 0 6 []) (.c [] [4,5,6] (.r 0 2 (ec 4 (qp 0 0) (ec 5 (qp 1 0) (ec 6 aU en))) (sb 0 138 (lg 138) (sb 1 150 aD8 sn)) (λz=>(z.2.1,(aF.mk z.t.1.1 (aq.mk z.t.1.2.1 z.t.1.t.1 [] z.t.1.q.1) z.t.1.q.2.1 (aq.mk z.t.1.q.t.1 z.t.1.q.t.2.1 [] z.t.1.q.q.2.1)),z.1.t.1)) (λx=>(((),(),x.t,()),(x.1,(x.2.1.aV,x.2.1.aJ.ah,x.2.1.aJ.aG,(),x.2.1.aJ.aH,x.2.1.cM,x.2.1.aN.ah,x.2.1.aN.aG,(),x.2.1.aN.aH,()),()))))))
def aiC(a0:bn)(a1:mI):af aFh:=
 match m48 a0 with|J=>J|M r6=>bif bif w9 (r6=0)then O else Z then J else match m65 a0 2with|J=>J|M r7=>match m64 a0 r7 a1.cq with|J=>J|M r8=>bif bif w9 (r8=0)then O else Z then J else match m49 a0 with|J=>J|M r9=>bif w9 (12<r9.snd.snd)then J else match MK (qy.mk a1.cq a0.ah (zZ a0.ah) 0 a0 (aF.mk [] (aq.mk 0 [] [] (0)) [] (aq.mk 0 [] [] (0))) (aK.mk a0 r9.snd.snd r9.snd.fst r9.fst []) (aF.mk [] (aq.mk 0 [] [] (0)) [] (aq.mk 0 [] [] (0))))with|J=>J|M r10=>EW r10 (λ_=>J) (match Kr (tv.mk r10.b2.bS (zZ r10.b2.bS) 0 r10.b0 (aF.mk [] (aq.mk r10.b1.aJ.ah [] [] r10.b1.aJ.aH) [] (aq.mk r10.b1.aN.ah [] [] r10.b1.aN.aH)) r10.b2 (aF.mk r10.b3.aV (aq.mk r10.b3.aJ.ah [] [] r10.b3.aJ.aH) [] (aq.mk r10.b3.aN.ah [] [] r10.b3.aN.aH)))with|J=>J|M r11=>Gk r11 (λ_=>J) (match KZ (uc.mk 0 r11.b0 (aF.mk [] (aq.mk r11.b1.aJ.ah [] [] r11.b1.aJ.aH) [] (aq.mk r11.b1.aN.ah [] [] r11.b1.aN.aH)) (fh 0 (fh 0 r11.b2).snd).snd (aF.mk r11.b3.aV (aq.mk (fh 0 r11.b2).fst.ah (fh 0 r11.b2).fst.aG [] (fh 0 r11.b2).fst.aH) [] (aq.mk (fh 0 (fh 0 r11.b2).snd).fst.ah (fh 0 (fh 0 r11.b2).snd).fst.aG [] (fh 0 (fh 0 r11.b2).snd).fst.aH)))with|J=>J|M r15=>FV r15 (λ_=>J) (match Jt (tg.mk r15.b0.ai (zZ r15.b0.ai) 0 (aF.mk [] (aq.mk r15.b1.aJ.ah [] [] r15.b1.aJ.aH) [] (aq.mk r15.b1.aN.ah [] [] r15.b1.aN.aH)) r15.b2 (aF.mk r15.b3.aV (aq.mk r15.b3.aJ.ah r15.b3.aJ.aG [] r15.b3.aJ.aH) r15.b3.cM (aq.mk r15.b3.aN.ah r15.b3.aN.aG [] r15.b3.aN.aH)))with|J=>J|M r16=>Ej r16 (λ_=>J) (M ((r16.b1,aF.mk r16.b2.aV (aq.mk r16.b2.aJ.ah r16.b2.aJ.aG [] r16.b2.aJ.aH) r16.b2.cM (aq.mk r16.b2.aN.ah r16.b2.aN.aG [] r16.b2.aN.aH),0))))))
def aFH:aT->aT:=eZf va 72 avr aJA (λg=>aiC g.1 g.2.1)
def ajH:EO aFH:=λh=>kZf (an:=(cA 7 (.two (noTwo (Ub.lp MK .no)) (.two (noTwo (T7.lp Kr .no)) (noTwo (.two (noTwo (Ss.lp KZ .no)) (.two (noTwo (Tt.lp Jt .no)) .no))))))) (l:=[(bz f72 0,(Ub.lp MK .no)),(bz f72 1,(T7.lp Kr .no)),(bz f72 2,(Ss.lp KZ .no)),(bz f72 3,(Tt.lp Jt .no))]) func72 (iS (p:=(λf=>zg f 48||zg f 49||zg f 64||zg f 65||zg f 75||zg f 115||zg f 116||zg f 126||zg f 127)) (NB (u7 (PB (qu (Du (SH (adC (aeU (ago aP)))))))))) (aA (aO Ub) (aA (aO T7) (aA (aO Ss) (aA (aO Tt) az)))) h
end Go.Proofs.YtghilkcphindjaaGreat
end
