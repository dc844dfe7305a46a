/- Merged: Gb, Hl, Gl, Gt4, Zy, Zz, Yb1, Yb2, Ns1, Ns2, Ns3, Gm, Ga, Pfew, Pd. -/
import Derived.Test.YtghilkcphindjaaGreatM3SymbolicDomain
import Derived.Test.YtghilkcphindjaaGreatM4SymbolicDomain
import Derived.KernelRfl
open Nat renaming beq -> zh, le_refl -> zA, le_trans -> zY, zero_add -> ya, le_succ -> yd, zero_le -> yy, pow_le_pow_right -> xh
open Int renaming toNat_natCast -> zi, toNat -> zB, lt_irrefl -> zJ, le_refl -> zL, mul_le_mul_of_nonneg_right -> xD, natCast_pow -> wC
open Bool renaming and_eq_true -> zj, or_eq_true -> yL, true -> O, false -> V
open Option renaming map_eq_some_iff -> zk, some -> zG, map_some -> zX, isSome_none -> ye, getD_some -> yl, isSome_some -> yA, some -> Q, none -> J
open SizeOf renaming sizeOf -> zl
open List renaming getElem?_eq_getElem -> zm, mem_cons_self -> zq, mem_cons -> zu, all_eq_true -> zx, mem_map -> zy, mem_cons_of_mem -> zH, length_map -> zI, map_append -> zK, map_cons -> zO, mem_filter -> zS, range -> zU, getElem!_cons_zero -> yb, filter_append -> yj, length_cons -> yo, take_length -> yp, getElem!_cons_succ -> yu, length -> yz, getElem_mem -> yJ, nil_append -> yR, append_nil -> yW, nodup_nil -> yY, cons_append -> yZ, length_nil -> xC, nodup_cons -> xT, nodup_iff_pairwise_ne -> we, find?_cons -> wg, foldl_append -> wD, sizeOf_lt_of_mem -> wQ
open Decidable renaming decide -> Z
open Go.Proofs.Tryz renaming prog -> wR
open Go.Proofs.Tryz
set_option linter.unusedSectionVars false
set_option linter.unusedVariables false
set_option linter.unusedSimpArgs false
set_option linter.defProp false
noncomputable section
set_option maxRecDepth 100000
namespace Go.Proofs.YtghilkcphindjaaGreat
open Go Go.Iv
open Go.IntKind (i64 u64)
def F96:aI:=cw
def an5:ak wR F96:=aQ
abbrev E96:=Bool×aP
def d96:Td 1 E96:= .c [] [2] (.r 1 1 (ec 2 qb en) (sb 0 177 (lg 177) sn) (λz=>(z.1.1,z.2.1)) (λx=>((x.1,()),(x.2,()))))
def A96:=(lc (qp 0 0) ln)
def B96:=(sb 0 177 (lg 177) sn)
def awx:An:=(noTwo (.two (.rb [] 2) .no))
def aA7:∀f∈([]:aa Nat),aZ (F96) f:=aC
def aB9:bx wR (F96) 1 300 96 (awx):=aD (l:=[(.skip,(.rb [] 2))]) func96 (aq (by kernel_rfl)) (by kernel_rfl) (aA aA7 aC)
def rL(b0:aP):E96:=
 let r1:Bool:=bif b0.eS then O else Z (1024<b0.az);(r1,b0)
def c96(b0:aP):aO wR (F96) 300 (awx) 96 (A96.c ((),())) (B96.d (b0,())) 1 d96.rd=Q (rL b0):=by
 refine Eq.trans (b:=(
  match bif b0.eS then Q (O)else Q (Z (1024<b0.az))with|J=>J|Q r1=>Q ((r1,b0)):af E96)) (by kernel_rfl) ?_
 simp only[rL,bV,cv]
def e96:aI->aI:=eY wR 96 1 A96 B96 d96 (λg=>Q (rL g.2.1))
def KE{F:aI}(h:ak wR F):ak wR (e96 F):=dG (dN an5 aB9 (λ_=>by kernel_rfl) (λ_=>by kernel_rfl) (λ_=>by kernel_rfl) λg=>c96 g.2.1) ⟨_,func96,by kernel_rfl,by kernel_rfl⟩ (λ_=>by kernel_rfl) h
abbrev JD:=aP
def d97:Td 1 JD:= .c [] [] (.r 1 1 en (sb 0 177 (lg 177) sn) (λz=>z.2.1) (λx=>((()),(x,()))))
def A97:=(lc (qp 0 0) (lc (qg 106) (aW ln)))
def B97:=(sb 0 177 (lg 177) sn)
def x97(M:aj->Int->aP->af JD):aI->aI:=eY wR 97 1 A97 B97 d97 (λg=>M g.1.2.1 g.1.2.2.1 g.2.1)
def H97(M:aj->Int->aP->af JD):Prop:=HY wR 97 1 A97 B97 d97 (λg=>M g.1.2.1 g.1.2.2.1 g.2.1)
def VM{M:aj->Int->aP->af JD}(hM:H97 M){F:aI}(h:ak wR F):ak wR (x97 M F):=dG hM ⟨_,func97,by kernel_rfl,by kernel_rfl⟩ (λ_=>by kernel_rfl) h
def F97(M97:aj->Int->aP->af JD):aI:=(x97 M97 (e96 cw))
def alm{M97}(h97:H97 M97):ak wR (F97 M97):=(VM h97 (KE aQ))
structure tI where
 t2:Int
 t29:List aj
 (t30 t31:Int)
 b0:aP
def I6:Td 1 tI:= .c [] [0,2,29,30,31] (.r 1 1 (ec 0 (qp 0 0) (ec 2 aL (ec 29 (ql 106) (ec 30 aL (ec 31 aL en))))) (sb 0 177 (lg 177) sn) (λz=>⟨z.1.2.1,z.1.t.1,z.1.t.2.1,z.1.q.1,z.2.1⟩) (λx=>(((),x.t2,x.t29,x.t30,x.t31,()),(x.b0,()))))
def JL(M97:aj->Int->aP->af JD)(p:tI):af (af tI):=
 bif Z (p.t31<p.t30)then if 0<=p.t31/\p.t31<yz p.t29 then match M97 (aj.mk p.t29[zB p.t31]!.bG p.t29[zB p.t31]!.fN p.t29[zB p.t31]!.ay) (i64.wrap (p.t2+1)) p.b0 with|J=>J|Q r1=>Q (Q (tI.mk p.t2 p.t29 p.t30 (i64.wrap (p.t31+1)) r1))else J else Q (J)
def atc(M97:aj->Int->aP->af JD)(p:tI):bK wR (F97 M97) f97.ntmps 300 (aN f97 0) .no (af tI) (I6.pat p) (fR I6.rd)=JL M97 p:=by kernel_rfl
def Jp(M97:aj->Int->aP->af JD):=b6 (JL M97)
def arx(M97:aj->Int->aP->af JD):An:=(noTwo (noTwo (noTwo (noTwo (noTwo (I6.lp (Jp M97) .no))))))
def az2(M97:aj->Int->aP->af JD):bx wR (F97 M97) 1 300 97 (arx M97):=aD (l:=[(aN f97 0,(I6.lp (Jp M97) .no))]) func97 (aq (by kernel_rfl)) (by kernel_rfl) (aA ⟨I6.ok _,bt (atc M97)⟩ aC)
def s97(M97:aj->Int->aP->af JD)(a1:aj)(a2:Int)(b0:aP):af JD:=
 bif b0.eS then bif(rL (aP.mk (i64.wrap (b0.az+1)) O)).fst then Q ((rL (aP.mk (i64.wrap (b0.az+1)) O)).snd)else match Jp M97 (tI.mk a2 a1.ay (yz a1.ay) 0 (rL (aP.mk (i64.wrap (b0.az+1)) O)).snd)with|J=>J|Q r2=>bif Z (r2.t31<r2.t30)then if 0<=r2.t31/\r2.t31<yz r2.t29 then match M97 (aj.mk r2.t29[zB r2.t31]!.bG r2.t29[zB r2.t31]!.fN r2.t29[zB r2.t31]!.ay) (i64.wrap (r2.t2+1)) r2.b0 with|J=>J|Q r3=>J else J else Q (r2.b0)else bif(rL (aP.mk (i64.wrap (b0.az+1)) (Z (12<a2)))).fst then Q ((rL (aP.mk (i64.wrap (b0.az+1)) (Z (12<a2)))).snd)else match Jp M97 (tI.mk a2 a1.ay (yz a1.ay) 0 (rL (aP.mk (i64.wrap (b0.az+1)) (Z (12<a2)))).snd)with|J=>J|Q r4=>bif Z (r4.t31<r4.t30)then if 0<=r4.t31/\r4.t31<yz r4.t29 then match M97 (aj.mk r4.t29[zB r4.t31]!.bG r4.t29[zB r4.t31]!.fN r4.t29[zB r4.t31]!.ay) (i64.wrap (r4.t2+1)) r4.b0 with|J=>J|Q r5=>J else J else Q (r4.b0)
def c97(M97:aj->Int->aP->af JD)(a1:aj)(a2:Int)(b0:aP):aO wR (F97 M97) 300 (arx M97) 97 (A97.c ((),a1,a2,())) (B97.d (b0,())) 1 d97.rd=s97 M97 a1 a2 b0:=by kernel_rfl
def axo:Nat->(aj->Int->aP->af JD)
 |0=>(λ_ _ _=>J)
 |n+1=>(s97 (axo n))
def m97(n:Nat):aj->Int->aP->af JD:=(axo n)
def NH:∀n,H97 (m97 n)
 |0=>λ_ _ h=>(by cases h)
 |n+1=>by
  have ih:=NH n;have i97:=ih;exact(dN (alm i97) (az2 (m97 n)) (λ_=>by kernel_rfl) (λ_=>by kernel_rfl) (λ_=>by kernel_rfl) λg=>c97 (m97 n) g.1.2.1 g.1.2.2.1 g.2.1)
def YF:aj->Int->aP->af JD:=λa1 a2 b0=>lim (λn=>m97 n a1 a2 b0)
def ale:H97 YF:=λg b h=>by
 obtain⟨n,hn⟩:=bX (show lim (λn=>m97 n g.1.2.1 g.1.2.2.1 g.2.1)=Q b from h);exact(NH n) g b hn
def e97(F:aI):aI:=x97 YF F
def Uj{F:aI}(h:ak wR F):ak wR (e97 F):=VM ale h
abbrev Ir:=aP
def d95:Td 1 Ir:= .c [] [] (.r 1 1 en (sb 0 177 (lg 177) sn) (λz=>z.2.1) (λx=>((()),(x,()))))
def A95:=(lc (qp 0 0) (lc (ql 111) (aW ln)))
def B95:=(sb 0 177 (lg 177) sn)
def x95(M:(aa ax)->Int->aP->af Ir):aI->aI:=eY wR 95 1 A95 B95 d95 (λg=>M g.1.2.1 g.1.2.2.1 g.2.1)
def H95(M:(aa ax)->Int->aP->af Ir):Prop:=HY wR 95 1 A95 B95 d95 (λg=>M g.1.2.1 g.1.2.2.1 g.2.1)
def WR{M:(aa ax)->Int->aP->af Ir}(hM:H95 M){F:aI}(h:ak wR F):ak wR (x95 M F):=dG hM ⟨_,func95,by kernel_rfl,by kernel_rfl⟩ (λ_=>by kernel_rfl) h
def F95(M95:(aa ax)->Int->aP->af Ir):aI:=(e97 (e96 (x95 M95 cw)))
def akR{M95}(h95:H95 M95):ak wR (F95 M95):=(Uj (KE (WR h95 aQ)))
structure tF where
 t2:Int
 t8:List ax
 (t9 t10:Int)
 b0:aP
def HG:Td 1 tF:= .c [] [0,2,8,9,10] (.r 1 1 (ec 0 (qp 0 0) (ec 2 aL (ec 8 (ql 111) (ec 9 aL (ec 10 aL en))))) (sb 0 177 (lg 177) sn) (λz=>⟨z.1.2.1,z.1.t.1,z.1.t.2.1,z.1.q.1,z.2.1⟩) (λx=>(((),x.t2,x.t8,x.t9,x.t10,()),(x.b0,()))))
def Dw(M95:(aa ax)->Int->aP->af Ir)(p:tF):af (af tF):=
 bif Z (p.t10<p.t9)then if 0<=p.t10/\p.t10<yz p.t8 then bif p.b0.eS then bif(rL (aP.mk (i64.wrap (p.b0.az+1)) O)).fst then Q (J)else match YF (aj.mk p.t8[zB p.t10]!.aB.bG p.t8[zB p.t10]!.aB.fN p.t8[zB p.t10]!.aB.ay) 1 (rL (aP.mk (i64.wrap (p.b0.az+1)) O)).snd with|J=>J|Q r1=>match M95 p.t8[zB p.t10]!.aU (i64.wrap (p.t2+1)) r1 with|J=>J|Q r2=>match M95 p.t8[zB p.t10]!.aV (i64.wrap (p.t2+1)) r2 with|J=>J|Q r3=>Q (Q (tF.mk p.t2 p.t8 p.t9 (i64.wrap (p.t10+1)) r3))else bif(rL (aP.mk (i64.wrap (p.b0.az+1)) (Z (12<p.t2)))).fst then Q (J)else match YF (aj.mk p.t8[zB p.t10]!.aB.bG p.t8[zB p.t10]!.aB.fN p.t8[zB p.t10]!.aB.ay) 1 (rL (aP.mk (i64.wrap (p.b0.az+1)) (Z (12<p.t2)))).snd with|J=>J|Q r4=>match M95 p.t8[zB p.t10]!.aU (i64.wrap (p.t2+1)) r4 with|J=>J|Q r5=>match M95 p.t8[zB p.t10]!.aV (i64.wrap (p.t2+1)) r5 with|J=>J|Q r6=>Q (Q (tF.mk p.t2 p.t8 p.t9 (i64.wrap (p.t10+1)) r6))else J else Q (J)
def avQ(M95:(aa ax)->Int->aP->af Ir)(p:tF):bK wR (F95 M95) f95.ntmps 300 (aN f95 0) .no (af tF) (HG.pat p) (fR HG.rd)=Dw M95 p:=by kernel_rfl
def Oh(M95:(aa ax)->Int->aP->af Ir):=b6 (Dw M95)
def axR(M95:(aa ax)->Int->aP->af Ir):An:=(noTwo (HG.lp (Oh M95) .no))
def aAU(M95:(aa ax)->Int->aP->af Ir):bx wR (F95 M95) 1 300 95 (axR M95):=aD (l:=[(aN f95 0,(HG.lp (Oh M95) .no))]) func95 (aq (by kernel_rfl)) (by kernel_rfl) (aA ⟨HG.ok _,bt (avQ M95)⟩ aC)
def s95(M95:(aa ax)->Int->aP->af Ir)(a1:aa ax)(a2:Int)(b0:aP):af Ir:=
 match Oh M95 (tF.mk a2 a1 (yz a1) 0 b0)with|J=>J|Q r7=>bif Z (r7.t10<r7.t9)then if 0<=r7.t10/\r7.t10<yz r7.t8 then bif r7.b0.eS then bif(rL (aP.mk (i64.wrap (r7.b0.az+1)) O)).fst then Q ((rL (aP.mk (i64.wrap (r7.b0.az+1)) O)).snd)else match YF (aj.mk r7.t8[zB r7.t10]!.aB.bG r7.t8[zB r7.t10]!.aB.fN r7.t8[zB r7.t10]!.aB.ay) 1 (rL (aP.mk (i64.wrap (r7.b0.az+1)) O)).snd with|J=>J|Q r8=>match M95 r7.t8[zB r7.t10]!.aU (i64.wrap (r7.t2+1)) r8 with|J=>J|Q r9=>match M95 r7.t8[zB r7.t10]!.aV (i64.wrap (r7.t2+1)) r9 with|J=>J|Q r10=>J else bif(rL (aP.mk (i64.wrap (r7.b0.az+1)) (Z (12<r7.t2)))).fst then Q ((rL (aP.mk (i64.wrap (r7.b0.az+1)) (Z (12<r7.t2)))).snd)else match YF (aj.mk r7.t8[zB r7.t10]!.aB.bG r7.t8[zB r7.t10]!.aB.fN r7.t8[zB r7.t10]!.aB.ay) 1 (rL (aP.mk (i64.wrap (r7.b0.az+1)) (Z (12<r7.t2)))).snd with|J=>J|Q r11=>match M95 r7.t8[zB r7.t10]!.aU (i64.wrap (r7.t2+1)) r11 with|J=>J|Q r12=>match M95 r7.t8[zB r7.t10]!.aV (i64.wrap (r7.t2+1)) r12 with|J=>J|Q r13=>J else J else Q (r7.b0)
def c95(M95:(aa ax)->Int->aP->af Ir)(a1:aa ax)(a2:Int)(b0:aP):aO wR (F95 M95) 300 (axR M95) 95 (A95.c ((),a1,a2,())) (B95.d (b0,())) 1 d95.rd=s95 M95 a1 a2 b0:=by kernel_rfl
def arI:Nat->((aa ax)->Int->aP->af Ir)
 |0=>(λ_ _ _=>J)
 |n+1=>(s95 (arI n))
def m95(n:Nat):(aa ax)->Int->aP->af Ir:=(arI n)
def Pr:∀n,H95 (m95 n)
 |0=>λ_ _ h=>(by cases h)
 |n+1=>by
  have ih:=Pr n;have i95:=ih;exact(dN (akR i95) (aAU (m95 n)) (λ_=>by kernel_rfl) (λ_=>by kernel_rfl) (λ_=>by kernel_rfl) λg=>c95 (m95 n) g.1.2.1 g.1.2.2.1 g.2.1)
def r95:(aa ax)->Int->aP->af Ir:=λa1 a2 b0=>lim (λn=>m95 n a1 a2 b0)
def apR:H95 r95:=λg b h=>by
 obtain⟨n,hn⟩:=bX (show lim (λn=>m95 n g.1.2.1 g.1.2.2.1 g.2.1)=Q b from h);exact(Pr n) g b hn
def e95(F:aI):aI:=x95 r95 F
def an1{F:aI}(h:ak wR F):ak wR (e95 F):=WR apR h
def aka:aI:=cw
def ac4:ak wR aka:=aQ
abbrev ar0:=Bool
def d162:Td 0 ar0:= .c [] [3] (.r 0 0 (ec 3 qb en) sn (λz=>z.1.1) (λx=>((x,()),(()))))
def avO:=(lc (qg 108) (lc (qr (lg 108)) ln))
def af9:An:= .no
def ayr:bx wR (aka) 0 300 162 (af9):=aD (l:=[]) func162 (aq (by kernel_rfl)) (by kernel_rfl) aC
def Qf(a0:aT)(c0:aT):ar0:=
 a0.fName.toList==c0.fName.toList
def aAn(a0:aT)(c0:aT):aO wR (aka) 300 (af9) 162 (avO.c (a0,c0,())) [] 0 d162.rd=Q (Qf a0 c0):=by kernel_rfl
def aoi:=eL wR 162 V avO d162 (λg=>Q (Qf g.1 g.2.1))
def Px{F:aI}(h:ak wR F):ak wR (aoi F):=bA (sc:=dM) aX (bq ac4 ayr (λ_=>by kernel_rfl) (λ_=>by kernel_rfl) λg=>aAn g.1 g.2.1) ⟨_,func162,by kernel_rfl,by kernel_rfl⟩ (λ_=>by kernel_rfl) (λ_=>by kernel_rfl) h
def Wg:aI:=cw
def aeG:ak wR Wg:=aQ
structure o9 where
 t0:ByteArray
 (t14 t15:Int)
def AE:Td 0 o9:= .c [] [0,14,15] (.r 0 0 (ec 0 qs (ec 14 aL (ec 15 aL en))) sn (λz=>⟨z.1.1,z.1.2.1,z.1.t.1⟩) (λx=>((x.t0,x.t14,x.t15,()),(()))))
def AN(p:o9):af (af o9):=
 bif Z (p.t15<p.t14)then if 0<=p.t15/\p.t15<p.t0.size then match bif Z (97<=bL p.t0 p.t15.toNat)then Q (Z (bL p.t0 p.t15.toNat<=122))else Q V with|J=>J|Q r1=>match bif bif r1 then V else O then bif Z (p.t15=0)then Q O else bif Z (bL p.t0 p.t15.toNat<48)then bif bif Z (bL p.t0 p.t15.toNat=46)then V else O then Q (bif Z (bL p.t0 p.t15.toNat=95)then V else O)else Q V else bif Z (57<bL p.t0 p.t15.toNat)then bif bif Z (bL p.t0 p.t15.toNat=46)then V else O then Q (bif Z (bL p.t0 p.t15.toNat=95)then V else O)else Q V else Q V else Q V with|J=>J|Q r2=>bif r2 then Q (J)else Q (Q (o9.mk p.t0 p.t14 (i64.wrap (p.t15+1))))else J else Q (J)
def Lc:An:=(noTwo (noTwo (.two (noTwo (noTwo (.two (.rb [] 5) (.two (.rb [] 48) .no)))) .no)))
def aoT(p:o9):bK wR (Wg) f163.ntmps 300 (aN f163 0) Lc (af o9) (AE.pat p) (fR AE.rd)=AN p:=by kernel_rfl
def Fm:=b6 (AN)
abbrev arU:=Bool
def d163:Td 0 arU:= .c [] [2] (.r 0 0 (ec 2 qb en) sn (λz=>z.1.1) (λx=>((x,()),(()))))
def atX:=(lc qs ln)
def aiO:An:=(noTwo (.two (.two (.rb [] 12) .no) (.two (noTwo (AE.lp Fm Lc)) .no)))
def Wz:∀f∈([]:aa Nat),aZ (Wg) f:=aC
def asw:bx wR (Wg) 0 300 163 (aiO):=aD (l:=[(.skip,(.rb [] 12)),(aN f163 0,(AE.lp Fm Lc)),(.skip,(.rb [] 5)),(.skip,(.rb [] 48))]) func163 (aq (by kernel_rfl)) (by kernel_rfl) (aA Wz (aA ⟨AE.ok _,bt (aoT)⟩ (aA Wz (aA Wz aC))))
def Io(a0:ByteArray):af arU:=
 match bif a0.toList==(ByteArray.mk (Array.mk [])).toList then Q O else Q (Z (40<(a0.size:Int)))with|J=>J|Q r3=>bif r3 then Q V else match Fm (o9.mk a0 a0.size 0)with|J=>J|Q r4=>bif Z (r4.t15<r4.t14)then if 0<=r4.t15/\r4.t15<r4.t0.size then match bif Z (97<=bL r4.t0 r4.t15.toNat)then Q (Z (bL r4.t0 r4.t15.toNat<=122))else Q V with|J=>J|Q r5=>match bif bif r5 then V else O then bif Z (r4.t15=0)then Q O else bif Z (bL r4.t0 r4.t15.toNat<48)then bif bif Z (bL r4.t0 r4.t15.toNat=46)then V else O then Q (bif Z (bL r4.t0 r4.t15.toNat=95)then V else O)else Q V else bif Z (57<bL r4.t0 r4.t15.toNat)then bif bif Z (bL r4.t0 r4.t15.toNat=46)then V else O then Q (bif Z (bL r4.t0 r4.t15.toNat=95)then V else O)else Q V else Q V else Q V with|J=>J|Q r6=>bif r6 then Q V else J else J else Q O
def aDE(a0:ByteArray):aO wR (Wg) 300 (aiO) 163 (atX.c (a0,())) [] 0 d163.rd=Io a0:=by kernel_rfl
def alY:=eL wR 163 V atX d163 (λg=>Io g.1)
def O2{F:aI}(h:ak wR F):ak wR (alY F):=bA (sc:=dM) aX (bq aeG asw (λ_=>by kernel_rfl) (λ_=>by kernel_rfl) λg=>aDE g.1) ⟨_,func163,by kernel_rfl,by kernel_rfl⟩ (λ_=>by kernel_rfl) (λ_=>by kernel_rfl) h
def ab9:aI:=(aoi cw)
def acf:ak wR ab9:=(Px aQ)
structure pS where
 t0:List aT
 lC:ByteArray
 (lD kT kZ lI t7 t8:Int)
def Ah:Td 0 pS:= .c [] [0,1,7,8] (.r 0 0 (ec 0 (ql 108) (ec 1 (qf 162 (lc (qr (lc qs (aW (aW (aW (aW ln)))))) ln)) (ec 7 aL (ec 8 aL en)))) sn (λz=>⟨z.1.1,z.1.2.1.1.1,z.1.2.1.1.2.1,z.1.2.1.1.t.1,z.1.2.1.1.t.2.1,z.1.2.1.1.q.1,z.1.t.1,z.1.t.2.1⟩) (λx=>((x.t0,((x.lC,x.lD,x.kT,x.kZ,x.lI,()),()),x.t7,x.t8,()),(()))))
def Bm(p:pS):af (af pS):=
 bif Z (p.t8<p.t7)then if 0<=p.t8/\p.t8<yz p.t0 then bif Qf p.t0[zB p.t8]! (aT.mk p.lC p.lD p.kT p.kZ p.lI)then Q (J)else Q (Q (pS.mk p.t0 p.lC p.lD p.kT p.kZ p.lI p.t7 (i64.wrap (p.t8+1))))else J else Q (J)
def aml(p:pS):bK wR (ab9) f225.ntmps 300 (aN f225 0) .no (af pS) (Ah.pat p) (fR Ah.rd)=Bm p:=by kernel_rfl
def F5:=b6 (Bm)
abbrev ar9:=Int
def d225:Td 0 ar9:= .c [] [4] (.r 0 0 (ec 4 aL en) sn (λz=>z.1.1) (λx=>((x,()),(()))))
def atI:=(lc (ql 108) (lc (qf 162 (lc (qr (lg 108)) ln)) ln))
def ag0:An:=(noTwo (.two (noTwo (Ah.lp F5 .no)) .no))
def ax8:bx wR (ab9) 0 300 225 (ag0):=aD (l:=[(aN f225 0,(Ah.lp F5 .no))]) func225 (aq (by kernel_rfl)) (by kernel_rfl) (aA ⟨Ah.ok _,bt (aml)⟩ aC)
def aeW(a0:aa aT)(a1_0:aT):af ar9:=
 match F5 (pS.mk a0 a1_0.fName a1_0.bU a1_0.aG a1_0.au a1_0.gj (yz a0) 0)with|J=>J|Q r1=>bif Z (r1.t8<r1.t7)then if 0<=r1.t8/\r1.t8<yz r1.t0 then bif Qf r1.t0[zB r1.t8]! (aT.mk r1.lC r1.lD r1.kT r1.kZ r1.lI)then Q (r1.t8)else J else J else Q (-1)
def aBm(a0:aa aT)(a1_0:aT):aO wR (ab9) 300 (ag0) 225 (atI.c (a0,(a1_0,()),())) [] 0 d225.rd=aeW a0 a1_0:=by kernel_rfl
def aq7:=eL wR 225 O atI d225 (λg=>aeW g.1 g.2.1.1)
def ZI{F:aI}(h:ak wR F):ak wR (aq7 F):=bA (sc:=dM) aX (bq acf ax8 (λ_=>by kernel_rfl) (λ_=>by kernel_rfl) λg=>aBm g.1 g.2.1.1) ⟨_,func225,by kernel_rfl,by kernel_rfl⟩ (λ_=>by kernel_rfl) (λ_=>by kernel_rfl) h
def ama:aI:=(aq7 (aoi cw))
def abL:ak wR ama:=(ZI (Px aQ))
abbrev axP:=Bool
def d164:Td 0 axP:= .c [] [4] (.r 0 0 (ec 4 qb en) sn (λz=>z.1.1) (λx=>((x,()),(()))))
def ayB:=(lc (ql 108) (lc (qf 162 (lc (qr (lg 108)) ln)) ln))
def ahK:An:= .no
def aru:bx wR (ama) 0 300 164 (ahK):=aD (l:=[]) func164 (aq (by kernel_rfl)) (by kernel_rfl) aC
def Q6(a0:aa aT)(a1_0:aT):af axP:=
 match aeW a0 a1_0 with|J=>J|Q r1=>Q (Z (0<=r1))
def aCL(a0:aa aT)(a1_0:aT):aO wR (ama) 300 (ahK) 164 (ayB.c (a0,(a1_0,()),())) [] 0 d164.rd=Q6 a0 a1_0:=by kernel_rfl
def axS:=eL wR 164 O ayB d164 (λg=>Q6 g.1 g.2.1.1)
def aar{F:aI}(h:ak wR F):ak wR (axS F):=bA (sc:=dM) aX (bq abL aru (λ_=>by kernel_rfl) (λ_=>by kernel_rfl) λg=>aCL g.1 g.2.1.1) ⟨_,func164,by kernel_rfl,by kernel_rfl⟩ (λ_=>by kernel_rfl) (λ_=>by kernel_rfl) h
def aaR:aI:=cw
def ad2:ak wR aaR:=aQ
abbrev ao0:=Bool
def d165:Td 0 ao0:= .c [] [4] (.r 0 0 (ec 4 qb en) sn (λz=>z.1.1) (λx=>((x,()),(()))))
def as1:=(aW (aW ln))
def ahl:An:=(noTwo (.two (.rb [] 4) .no))
def arA:∀f∈([]:aa Nat),aZ (aaR) f:=aC
def aw5:bx wR (aaR) 0 300 165 (ahl):=aD (l:=[(.skip,(.rb [] 4))]) func165 (aq (by kernel_rfl)) (by kernel_rfl) (aA arA aC)
def Ek(a0:Int)(a1:Int):ao0:=
 let r1:Bool:=bif Z (a0<=a1)then bif Z (-1048576<=a0)then Z (a1<=1048576)else V else V;r1
def aAa(a0:Int)(a1:Int):aO wR (aaR) 300 (ahl) 165 (as1.c (a0,a1,())) [] 0 d165.rd=Q (Ek a0 a1):=by
 refine Eq.trans (b:=(
  match bif Z (a0<=a1)then bif Z (-1048576<=a0)then Q (Z (a1<=1048576))else Q (V)else Q (V)with|J=>J|Q r1=>Q (r1):af ao0)) (by kernel_rfl) ?_
 simp only[Ek,bV,cv]
def ao3:=eL wR 165 V as1 d165 (λg=>Q (Ek g.1 g.2.1))
def Pj{F:aI}(h:ak wR F):ak wR (ao3 F):=bA (sc:=dM) aX (bq ad2 aw5 (λ_=>by kernel_rfl) (λ_=>by kernel_rfl) λg=>aAa g.1 g.2.1) ⟨_,func165,by kernel_rfl,by kernel_rfl⟩ (λ_=>by kernel_rfl) (λ_=>by kernel_rfl) h
def apS:aI:=cw
def aeK:ak wR apS:=aQ
abbrev axg:=Int
def d277:Td 0 axg:= .c [] [2] (.r 0 0 (ec 2 aL en) sn (λz=>z.1.1) (λx=>((x,()),(()))))
def av5:=(lc (qg 108) ln)
def aiF:An:= .no
def asm:bx wR (apS) 0 300 277 (aiF):=aD (l:=[]) func277 (aq (by kernel_rfl)) (by kernel_rfl) aC
def AW(a0:aT):axg:=
 i64.wrap (i64.wrap (a0.au-a0.aG)+1)
def az5(a0:aT):aO wR (apS) 300 (aiF) 277 (av5.c (a0,())) [] 0 d277.rd=Q (AW a0):=by kernel_rfl
def ar5:=eL wR 277 V av5 d277 (λg=>Q (AW g.1))
def ZD{F:aI}(h:ak wR F):ak wR (ar5 F):=bA (sc:=dM) aX (bq aeK asm (λ_=>by kernel_rfl) (λ_=>by kernel_rfl) λg=>az5 g.1) ⟨_,func277,by kernel_rfl,by kernel_rfl⟩ (λ_=>by kernel_rfl) (λ_=>by kernel_rfl) h
def Q0:aI:=(ar5 cw)
def abO:ak wR Q0:=(ZD aQ)
structure jI where
 t7:List aT
 t10:Int
 t49:List aT
 (t50 t51:Int)
def vQ:Td 0 jI:= .c [] [7,10,49,50,51] (.r 0 1 (ec 7 (qo 0) (ec 10 aL (ec 49 (qo 0) (ec 50 aL (ec 51 aL en))))) (sr 0 108 sn) (λz=>⟨z.2.1,z.1.2.1,z.2.1,z.1.t.2.1,z.1.q.1⟩) (λx=>(((),x.t10,(),x.t50,x.t51,()),(x.t49,()))))
def BA(p:jI):af (af jI):=
 bif Z (p.t51<p.t50)then if 0<=p.t51/\p.t51<yz p.t49 then if 108=108/\zB p.t51<yz p.t49 then bif Z (4096<i64.wrap (p.t10*AW p.t49[zB p.t51]!))then Q (J)else Q (Q (jI.mk p.t49 (i64.wrap (p.t10*AW p.t49[zB p.t51]!)) p.t49 p.t50 (i64.wrap (p.t51+1))))else J else J else Q (J)
def aod(p:jI):bK wR (Q0) f226.ntmps 300 (aN f226 1) .no (af jI) (vQ.pat p) (fR vQ.rd)=BA p:=by kernel_rfl
def o4:=b6 (BA)
structure iU where
 t1:Int
 (t7 t19:List aT)
 (t20 t21:Int)
def Cn:Td 0 iU:= .c [] [1,7,19,20,21] (.t (cq.s 7 [] 108) (.c [] [1,7,19,20,21] (.r 0 1 (ec 1 aL (ec 7 (qo 0) (ec 19 (ql 108) (ec 20 aL (ec 21 aL en))))) (sr 0 108 sn) (λz=>⟨z.1.1,z.2.1,z.1.t.1,z.1.t.2.1,z.1.q.1⟩) (λx=>((x.t1,(),x.t19,x.t20,x.t21,()),(x.t7,()))))))
def sS(p:iU):af (af iU):=
 bif Z (p.t21<p.t20)then if 0<=p.t21/\p.t21<yz p.t19 then bif bif Z (p.t19[zB p.t21]!.bU=p.t1)then V else O then Q (Q (iU.mk p.t1 p.t7 p.t19 p.t20 (i64.wrap (p.t21+1))))else match bif Z (p.t19[zB p.t21]!.au<p.t19[zB p.t21]!.aG)then Q O else bif Z (p.t19[zB p.t21]!.aG< -1048576)then Q O else Q (Z (1048576<p.t19[zB p.t21]!.au))with|J=>J|Q r1=>bif r1 then Q (J)else if(p.t7++[p.t19[zB p.t21]!]).length<=1073741824 then Q (Q (iU.mk p.t1 (p.t7++[p.t19[zB p.t21]!]) p.t19 p.t20 (i64.wrap (p.t21+1))))else J else J else Q (J)
def My:An:=(noTwo (noTwo (.two (noTwo (noTwo (.two (.two (.rb [] 43) .no) .no))) .no)))
def amL(p:iU):bK wR (Q0) f226.ntmps 300 (aN f226 0) My (af iU) (Cn.pat p) (fR Cn.rd)=sS p:=by kernel_rfl
def oD:=b6 (sS)
abbrev avx:=(aa aT)×Int×Int
def d226:Td 0 avx:= .c [] [4,5,6] (.t (cq.s 4 [] 108) (.c [] [4,5,6] (.r 0 1 (ec 4 (qo 0) (ec 5 aL (ec 6 aL en))) (sr 0 108 sn) (λz=>(z.2.1,z.1.2.1,z.1.t.1)) (λx=>(((),x.2.1,x.t,()),(x.1,()))))))
def ayh:=(lc (ql 108) (aW ln))
def ahT:An:=(noTwo (noTwo (noTwo (.two (noTwo (Cn.lp oD My)) (noTwo (.two (noTwo (vQ.lp o4 .no)) .no))))))
def ayp:∀f∈([]:aa Nat),aZ (Q0) f:=aC
def axE:bx wR (Q0) 0 300 226 (ahT):=aD (l:=[(aN f226 0,(Cn.lp oD My)),(.skip,(.rb [] 43)),(aN f226 1,(vQ.lp o4 .no))]) func226 (aq (by kernel_rfl)) (by kernel_rfl) (aA ⟨Cn.ok _,bt (amL)⟩ (aA ayp (aA ⟨vQ.ok _,bt (aod)⟩ aC)))
def abo(a0:aa aT)(a1:Int):af avx:=
 bif Z (a1=0)then match oD (iU.mk a1 [] a0 (yz a0) 0)with|J=>J|Q r2=>bif Z (r2.t21<r2.t20)then if 0<=r2.t21/\r2.t21<yz r2.t19 then bif bif Z (r2.t19[zB r2.t21]!.bU=r2.t1)then V else O then J else match bif Z (r2.t19[zB r2.t21]!.au<r2.t19[zB r2.t21]!.aG)then Q O else bif Z (r2.t19[zB r2.t21]!.aG< -1048576)then Q O else Q (Z (1048576<r2.t19[zB r2.t21]!.au))with|J=>J|Q r3=>bif r3 then Q ([],0,3)else if(r2.t7++[r2.t19[zB r2.t21]!]).length<=1073741824 then J else J else J else match o4 (jI.mk r2.t7 1 r2.t7 (yz r2.t7) 0)with|J=>J|Q r4=>bif Z (r4.t51<r4.t50)then if 0<=r4.t51/\r4.t51<yz r4.t49 then if 108=108/\zB r4.t51<yz r4.t49 then bif Z (4096<i64.wrap (r4.t10*AW r4.t49[zB r4.t51]!))then Q ([],0,4)else J else J else J else Q (r4.t49,r4.t10,0)else bif Z (a1=1)then match oD (iU.mk a1 [] a0 (yz a0) 0)with|J=>J|Q r5=>bif Z (r5.t21<r5.t20)then if 0<=r5.t21/\r5.t21<yz r5.t19 then bif bif Z (r5.t19[zB r5.t21]!.bU=r5.t1)then V else O then J else match bif Z (r5.t19[zB r5.t21]!.au<r5.t19[zB r5.t21]!.aG)then Q O else bif Z (r5.t19[zB r5.t21]!.aG< -1048576)then Q O else Q (Z (1048576<r5.t19[zB r5.t21]!.au))with|J=>J|Q r6=>bif r6 then Q ([],0,3)else if(r5.t7++[r5.t19[zB r5.t21]!]).length<=1073741824 then J else J else J else match o4 (jI.mk r5.t7 1 r5.t7 (yz r5.t7) 0)with|J=>J|Q r7=>bif Z (r7.t51<r7.t50)then if 0<=r7.t51/\r7.t51<yz r7.t49 then if 108=108/\zB r7.t51<yz r7.t49 then bif Z (4096<i64.wrap (r7.t10*AW r7.t49[zB r7.t51]!))then Q ([],0,4)else J else J else J else Q (r7.t49,r7.t10,0)else bif Z (a1=2)then match oD (iU.mk a1 [] a0 (yz a0) 0)with|J=>J|Q r8=>bif Z (r8.t21<r8.t20)then if 0<=r8.t21/\r8.t21<yz r8.t19 then bif bif Z (r8.t19[zB r8.t21]!.bU=r8.t1)then V else O then J else match bif Z (r8.t19[zB r8.t21]!.au<r8.t19[zB r8.t21]!.aG)then Q O else bif Z (r8.t19[zB r8.t21]!.aG< -1048576)then Q O else Q (Z (1048576<r8.t19[zB r8.t21]!.au))with|J=>J|Q r9=>bif r9 then Q ([],0,3)else if(r8.t7++[r8.t19[zB r8.t21]!]).length<=1073741824 then J else J else J else match o4 (jI.mk r8.t7 1 r8.t7 (yz r8.t7) 0)with|J=>J|Q r10=>bif Z (r10.t51<r10.t50)then if 0<=r10.t51/\r10.t51<yz r10.t49 then if 108=108/\zB r10.t51<yz r10.t49 then bif Z (4096<i64.wrap (r10.t10*AW r10.t49[zB r10.t51]!))then Q ([],0,4)else J else J else J else Q (r10.t49,r10.t10,0)else bif Z (a1=3)then match oD (iU.mk a1 [] a0 (yz a0) 0)with|J=>J|Q r11=>bif Z (r11.t21<r11.t20)then if 0<=r11.t21/\r11.t21<yz r11.t19 then bif bif Z (r11.t19[zB r11.t21]!.bU=r11.t1)then V else O then J else match bif Z (r11.t19[zB r11.t21]!.au<r11.t19[zB r11.t21]!.aG)then Q O else bif Z (r11.t19[zB r11.t21]!.aG< -1048576)then Q O else Q (Z (1048576<r11.t19[zB r11.t21]!.au))with|J=>J|Q r12=>bif r12 then Q ([],0,3)else if(r11.t7++[r11.t19[zB r11.t21]!]).length<=1073741824 then J else J else J else match o4 (jI.mk r11.t7 1 r11.t7 (yz r11.t7) 0)with|J=>J|Q r13=>bif Z (r13.t51<r13.t50)then if 0<=r13.t51/\r13.t51<yz r13.t49 then if 108=108/\zB r13.t51<yz r13.t49 then bif Z (4096<i64.wrap (r13.t10*AW r13.t49[zB r13.t51]!))then Q ([],0,4)else J else J else J else Q (r13.t49,r13.t10,0)else Q ([],0,1)
def aCa(a0:aa aT)(a1:Int):aO wR (Q0) 300 (ahT) 226 (ayh.c (a0,a1,())) [] 0 d226.rd=abo a0 a1:=by kernel_rfl
def aw1:=eL wR 226 V ayh d226 (λg=>abo g.1 g.2.1)
def aak{F:aI}(h:ak wR F):ak wR (aw1 F):=bA (sc:=dM) aX (bq abO axE (λ_=>by kernel_rfl) (λ_=>by kernel_rfl) λg=>aCa g.1 g.2.1) ⟨_,func226,by kernel_rfl,by kernel_rfl⟩ (λ_=>by kernel_rfl) (λ_=>by kernel_rfl) h
def anJ:aI:=(aw1 cw)
def aay:ak wR anJ:=(aak aQ)
abbrev aui:=Int×Int
def d166:Td 0 aui:= .c [] [4,5] (.r 0 0 (ec 4 aL (ec 5 aL en)) sn (λz=>(z.1.1,z.1.2.1)) (λx=>((x.1,x.2,()),(()))))
def asU:=(lc (ql 108) (aW ln))
def ahI:An:= .no
def atz:bx wR (anJ) 0 300 166 (ahI):=aD (l:=[]) func166 (aq (by kernel_rfl)) (by kernel_rfl) aC
def P7(a0:aa aT)(a1:Int):af aui:=
 match abo a0 a1 with|J=>J|Q r1=>Q (r1.snd)
def aAR(a0:aa aT)(a1:Int):aO wR (anJ) 300 (ahI) 166 (asU.c (a0,a1,())) [] 0 d166.rd=P7 a0 a1:=by kernel_rfl
def axq:=eL wR 166 V asU d166 (λg=>P7 g.1 g.2.1)
def aec{F:aI}(h:ak wR F):ak wR (axq F):=bA (sc:=dM) aX (bq aay atz (λ_=>by kernel_rfl) (λ_=>by kernel_rfl) λg=>aAR g.1 g.2.1) ⟨_,func166,by kernel_rfl,by kernel_rfl⟩ (λ_=>by kernel_rfl) (λ_=>by kernel_rfl) h
def F98:aI:=(axq (ao3 (axS (alY cw))))
def alj:ak wR F98:=(aec (Pj (aar (O2 aQ))))
structure vW where
 t0:List aT
 t71:List Int
 (t72 t73:Int)
def HT:Td 0 vW:= .c [] [0,71,72,73] (.r 0 1 (ec 0 (ql 108) (ec 71 (qo 0) (ec 72 aL (ec 73 aL en)))) (sr 0 65 sn) (λz=>⟨z.1.1,z.2.1,z.1.t.1,z.1.t.2.1⟩) (λx=>((x.t0,(),x.t72,x.t73,()),(x.t71,()))))
def q9(p:vW):af (af vW):=
 bif Z (p.t73<p.t72)then if 0<=p.t73/\p.t73<yz p.t71 then if 65=65/\zB p.t73<yz p.t71 then match P7 p.t0 p.t71[zB p.t73]! with|J=>J|Q r6=>match bif bif Z (r6.snd=0)then V else O then Q O else bif Z (p.t71[zB p.t73]! =3)then Q (Z (256<r6.fst))else Q V with|J=>J|Q r7=>bif r7 then Q (J)else Q (Q (vW.mk p.t0 p.t71 p.t72 (i64.wrap (p.t73+1))))else J else J else Q (J)
def Wm:An:=(noTwo (noTwo (.two (noTwo (noTwo (.two (.rb [] 92) .no))) .no)))
def ayl(p:vW):bK wR (F98) f98.ntmps 300 (aN f98 1) Wm (af vW) (HT.pat p) (fR HT.rd)=q9 p:=by kernel_rfl
def tO:=b6 (q9)
structure B5 where
 (t0 t10:List aT)
 (t11 t12:Int)
def Ji:Td 0 B5:= .c [] [0,10,11,12] (.r 0 0 (ec 0 (ql 108) (ec 10 (ql 108) (ec 11 aL (ec 12 aL en)))) sn (λz=>⟨z.1.1,z.1.2.1,z.1.t.1,z.1.t.2.1⟩) (λx=>((x.t0,x.t10,x.t11,x.t12,()),(()))))
def Bt(p:B5):af (af B5):=
 bif Z (p.t12<p.t11)then if 0<=p.t12/\p.t12<yz p.t10 then match Io p.t10[zB p.t12]!.fName with|J=>J|Q r1=>bif bif r1 then V else O then Q (J)else if 0<=p.t12/\p.t12<=yz p.t0 then match Q6 (List.take p.t12.toNat p.t0) p.t10[zB p.t12]! with|J=>J|Q r2=>bif r2 then Q (J)else match bif Z (p.t10[zB p.t12]!.bU<0)then Q O else Q (Z (3<p.t10[zB p.t12]!.bU))with|J=>J|Q r3=>bif r3 then Q (J)else bif bif Ek p.t10[zB p.t12]!.aG p.t10[zB p.t12]!.au then V else O then Q (J)else match bif bif Z (p.t10[zB p.t12]!.bU=0)then V else O then Q (bif Z (p.t10[zB p.t12]!.gj=0)then V else O)else Q V with|J=>J|Q r4=>bif r4 then Q (J)else match bif Z (p.t10[zB p.t12]!.bU=0)then bif Z (p.t10[zB p.t12]!.gj<p.t10[zB p.t12]!.aG)then Q O else Q (Z (p.t10[zB p.t12]!.au<p.t10[zB p.t12]!.gj))else Q V with|J=>J|Q r5=>bif r5 then Q (J)else Q (Q (B5.mk p.t0 p.t10 p.t11 (i64.wrap (p.t12+1))))else J else J else Q (J)
def Xi:An:=(noTwo (noTwo (.two (noTwo (noTwo (noTwo (noTwo (noTwo (noTwo (.two (.rb [] 29) (noTwo (.two (noTwo (noTwo (.two (.rb [] 38) (noTwo (.rb [] 38))))) .no))))))))) .no)))
def avB(p:B5):bK wR (F98) f98.ntmps 300 (aN f98 0) Xi (af B5) (Ji.pat p) (fR Ji.rd)=Bt p:=by kernel_rfl
def Pe:=b6 (Bt)
abbrev E98:=Int
def d98:Td 0 E98:= .c [] [2] (.r 0 0 (ec 2 aL en) sn (λz=>z.1.1) (λx=>((x,()),(()))))
def A98:=(lc (ql 108) ln)
def atj:An:=(noTwo (.two (noTwo (Ji.lp Pe Xi)) (.two (noTwo (HT.lp tO Wm)) .no)))
def afz:∀f∈([]:aa Nat),aZ (F98) f:=aC
def aBC:bx wR (F98) 0 300 98 (atj):=aD (l:=[(aN f98 0,(Ji.lp Pe Xi)),(.skip,(.rb [] 29)),(.skip,(.rb [] 38)),(.skip,(.rb [] 38)),(aN f98 1,(HT.lp tO Wm)),(.skip,(.rb [] 92))]) func98 (aq (by kernel_rfl)) (by kernel_rfl) (aA ⟨Ji.ok _,bt (avB)⟩ (aA afz (aA afz (aA afz (aA ⟨HT.ok _,bt (ayl)⟩ (aA afz aC))))))
def m98(a0:aa aT):af E98:=
 match Pe (B5.mk a0 a0 (yz a0) 0)with|J=>J|Q r8=>bif Z (r8.t12<r8.t11)then if 0<=r8.t12/\r8.t12<yz r8.t10 then match Io r8.t10[zB r8.t12]!.fName with|J=>J|Q r9=>bif bif r9 then V else O then Q 7 else if 0<=r8.t12/\r8.t12<=yz r8.t0 then match Q6 (List.take r8.t12.toNat r8.t0) r8.t10[zB r8.t12]! with|J=>J|Q r10=>bif r10 then Q 8 else match bif Z (r8.t10[zB r8.t12]!.bU<0)then Q O else Q (Z (3<r8.t10[zB r8.t12]!.bU))with|J=>J|Q r11=>bif r11 then Q 1 else bif bif Ek r8.t10[zB r8.t12]!.aG r8.t10[zB r8.t12]!.au then V else O then Q 3 else match bif bif Z (r8.t10[zB r8.t12]!.bU=0)then V else O then Q (bif Z (r8.t10[zB r8.t12]!.gj=0)then V else O)else Q V with|J=>J|Q r12=>bif r12 then Q 3 else match bif Z (r8.t10[zB r8.t12]!.bU=0)then bif Z (r8.t10[zB r8.t12]!.gj<r8.t10[zB r8.t12]!.aG)then Q O else Q (Z (r8.t10[zB r8.t12]!.au<r8.t10[zB r8.t12]!.gj))else Q V with|J=>J|Q r13=>bif r13 then Q 3 else J else J else J else match tO (vW.mk r8.t0 [1,2,3] (3:Int) 0)with|J=>J|Q r14=>bif Z (r14.t73<r14.t72)then if 0<=r14.t73/\r14.t73<yz r14.t71 then if 65=65/\zB r14.t73<yz r14.t71 then match P7 r14.t0 r14.t71[zB r14.t73]! with|J=>J|Q r15=>match bif bif Z (r15.snd=0)then V else O then Q O else bif Z (r14.t71[zB r14.t73]! =3)then Q (Z (256<r15.fst))else Q V with|J=>J|Q r16=>bif r16 then Q 4 else J else J else J else Q 0
def c98(a0:aa aT):aO wR (F98) 300 (atj) 98 (A98.c (a0,())) [] 0 d98.rd=m98 a0:=by kernel_rfl
def e98:=eL wR 98 V A98 d98 (λg=>m98 g.1)
def ape{F:aI}(h:ak wR F):ak wR (e98 F):=bA (sc:=dM) aX (bq alj aBC (λ_=>by kernel_rfl) (λ_=>by kernel_rfl) λg=>c98 g.1) ⟨_,func98,by kernel_rfl,by kernel_rfl⟩ (λ_=>by kernel_rfl) (λ_=>by kernel_rfl) h
def aj0:aI:=cw
def acp:ak wR aj0:=aQ
abbrev ash:=Bool
def d167:Td 0 ash:= .c [] [3] (.r 0 0 (ec 3 qb en) sn (λz=>z.1.1) (λx=>((x,()),(()))))
def auQ:=(lc (qg 116) (lc (qr (lg 116)) ln))
def agH:An:= .no
def auM:bx wR (aj0) 0 300 167 (agH):=aD (l:=[]) func167 (aq (by kernel_rfl)) (by kernel_rfl) aC
def QL(a0:cG)(c0:cG):ash:=
 a0.fName.toList==c0.fName.toList
def aCm(a0:cG)(c0:cG):aO wR (aj0) 300 (agH) 167 (auQ.c (a0,c0,())) [] 0 d167.rd=Q (QL a0 c0):=by kernel_rfl
def amI:=eL wR 167 V auQ d167 (λg=>Q (QL g.1 g.2.1))
def PF{F:aI}(h:ak wR F):ak wR (amI F):=bA (sc:=dM) aX (bq acp auM (λ_=>by kernel_rfl) (λ_=>by kernel_rfl) λg=>aCm g.1 g.2.1) ⟨_,func167,by kernel_rfl,by kernel_rfl⟩ (λ_=>by kernel_rfl) (λ_=>by kernel_rfl) h
def ZQ:aI:=(amI cw)
def ae6:ak wR ZQ:=(PF aQ)
structure pN where
 t0:List cG
 lC:ByteArray
 (lD kT kZ lI:Int)
 FO:List aj
 (t7 t8:Int)
def AA:Td 0 pN:= .c [] [0,1,7,8] (.r 0 0 (ec 0 (ql 116) (ec 1 (qf 167 (lc (qr (lc qs (aW (aW (aW (aW (lc (ql 106) ln))))))) ln)) (ec 7 aL (ec 8 aL en)))) sn (λz=>⟨z.1.1,z.1.2.1.1.1,z.1.2.1.1.2.1,z.1.2.1.1.t.1,z.1.2.1.1.t.2.1,z.1.2.1.1.q.1,z.1.2.1.1.q.2.1,z.1.t.1,z.1.t.2.1⟩) (λx=>((x.t0,((x.lC,x.lD,x.kT,x.kZ,x.lI,x.FO,()),()),x.t7,x.t8,()),(()))))
def vN(p:pN):af (af pN):=
 bif Z (p.t8<p.t7)then if 0<=p.t8/\p.t8<yz p.t0 then bif QL (cG.mk p.t0[zB p.t8]!.fName p.t0[zB p.t8]!.aG p.t0[zB p.t8]!.au (aj.mk p.t0[zB p.t8]!.aB.bG p.t0[zB p.t8]!.aB.fN p.t0[zB p.t8]!.aB.ay)) (cG.mk p.lC p.lD p.kT (aj.mk p.kZ p.lI p.FO))then Q (J)else Q (Q (pN.mk p.t0 p.lC p.lD p.kT p.kZ p.lI p.FO p.t7 (i64.wrap (p.t8+1))))else J else Q (J)
def anW(p:pN):bK wR (ZQ) f227.ntmps 300 (aN f227 0) .no (af pN) (AA.pat p) (fR AA.rd)=vN p:=by kernel_rfl
def FB:=b6 (vN)
abbrev ayx:=Int
def d227:Td 0 ayx:= .c [] [4] (.r 0 0 (ec 4 aL en) sn (λz=>z.1.1) (λx=>((x,()),(()))))
def ayT:=(lc (ql 116) (lc (qf 167 (lc (qr (lg 116)) ln)) ln))
def ahs:An:=(noTwo (.two (noTwo (AA.lp FB .no)) .no))
def as6:bx wR (ZQ) 0 300 227 (ahs):=aD (l:=[(aN f227 0,(AA.lp FB .no))]) func227 (aq (by kernel_rfl)) (by kernel_rfl) (aA ⟨AA.ok _,bt (anW)⟩ aC)
def aaU(a0:aa cG)(a1_0:cG):af ayx:=
 match FB (pN.mk a0 a1_0.fName a1_0.aG a1_0.au a1_0.aB.bG a1_0.aB.fN a1_0.aB.ay (yz a0) 0)with|J=>J|Q r1=>bif Z (r1.t8<r1.t7)then if 0<=r1.t8/\r1.t8<yz r1.t0 then bif QL (cG.mk r1.t0[zB r1.t8]!.fName r1.t0[zB r1.t8]!.aG r1.t0[zB r1.t8]!.au (aj.mk r1.t0[zB r1.t8]!.aB.bG r1.t0[zB r1.t8]!.aB.fN r1.t0[zB r1.t8]!.aB.ay)) (cG.mk r1.lC r1.lD r1.kT (aj.mk r1.kZ r1.lI r1.FO))then Q (r1.t8)else J else J else Q (-1)
def aCM(a0:aa cG)(a1_0:cG):aO wR (ZQ) 300 (ahs) 227 (ayT.c (a0,(a1_0,()),())) [] 0 d227.rd=aaU a0 a1_0:=by kernel_rfl
def avw:=eL wR 227 O ayT d227 (λg=>aaU g.1 g.2.1.1)
def acr{F:aI}(h:ak wR F):ak wR (avw F):=bA (sc:=dM) aX (bq ae6 as6 (λ_=>by kernel_rfl) (λ_=>by kernel_rfl) λg=>aCM g.1 g.2.1.1) ⟨_,func227,by kernel_rfl,by kernel_rfl⟩ (λ_=>by kernel_rfl) (λ_=>by kernel_rfl) h
def apr:aI:=(avw (amI cw))
def aba:ak wR apr:=(acr (PF aQ))
abbrev auI:=Bool
def d168:Td 0 auI:= .c [] [4] (.r 0 0 (ec 4 qb en) sn (λz=>z.1.1) (λx=>((x,()),(()))))
def ayj:=(lc (ql 116) (lc (qf 167 (lc (qr (lg 116)) ln)) ln))
def ago:An:= .no
def arX:bx wR (apr) 0 300 168 (ago):=aD (l:=[]) func168 (aq (by kernel_rfl)) (by kernel_rfl) aC
def QG(a0:aa cG)(a1_0:cG):af auI:=
 match aaU a0 (cG.mk a1_0.fName a1_0.aG a1_0.au (aj.mk a1_0.aB.bG a1_0.aB.fN a1_0.aB.ay))with|J=>J|Q r1=>Q (Z (0<=r1))
def aBe(a0:aa cG)(a1_0:cG):aO wR (apr) 300 (ago) 168 (ayj.c (a0,(a1_0,()),())) [] 0 d168.rd=QG a0 a1_0:=by kernel_rfl
def as4:=eL wR 168 O ayj d168 (λg=>QG g.1 g.2.1.1)
def adO{F:aI}(h:ak wR F):ak wR (as4 F):=bA (sc:=dM) aX (bq aba arX (λ_=>by kernel_rfl) (λ_=>by kernel_rfl) λg=>aBe g.1 g.2.1.1) ⟨_,func168,by kernel_rfl,by kernel_rfl⟩ (λ_=>by kernel_rfl) (λ_=>by kernel_rfl) h
def aaw:aI:=cw
def ZJ:ak wR aaw:=aQ
abbrev ant:=Int×Int
def d278:Td 0 ant:= .c [] [2,3] (.r 0 0 (ec 2 aL (ec 3 aL en)) sn (λz=>(z.1.1,z.1.2.1)) (λx=>((x.1,x.2,()),(()))))
def arO:=(aW ln)
def ahc:An:=(noTwo (.two (.two (.rb [] 4) (noTwo (.two (.rb [] 11) (noTwo (.two (.rb [] 18) .no))))) .no))
def SN:∀f∈([]:aa Nat),aZ (aaw) f:=aC
def avJ:bx wR (aaw) 0 300 278 (ahc):=aD (l:=[(.skip,(.rb [] 4)),(.skip,(.rb [] 11)),(.skip,(.rb [] 18))]) func278 (aq (by kernel_rfl)) (by kernel_rfl) (aA SN (aA SN (aA SN aC)))
def I9(a0:Int):ant:=
 let r1:Bool:=bif Z (a0=0)then O else Z (a0=24);bif r1 then(0,0)else let r2:Bool:=bif Z (a0=6)then O else Z (a0=7);bif r2 then(1,1)else let r3:Bool:=bif Z (8<=a0)then Z (a0<=22)else V;bif r3 then(2,2)else bif Z (a0=23)then(3,3)else bif Z (a0=25)then(2,33)else(-1,-1)
def aAp(a0:Int):aO wR (aaw) 300 (ahc) 278 (arO.c (a0,())) [] 0 d278.rd=Q (I9 a0):=by
 refine Eq.trans (b:=(
  match bif Z (a0=0)then Q (O)else Q (Z (a0=24))with|J=>J|Q r1=>bif r1 then Q ((0,0))else match bif Z (a0=6)then Q (O)else Q (Z (a0=7))with|J=>J|Q r2=>bif r2 then Q ((1,1))else match bif Z (8<=a0)then Q (Z (a0<=22))else Q (V)with|J=>J|Q r3=>bif r3 then Q ((2,2))else bif Z (a0=23)then Q ((3,3))else bif Z (a0=25)then Q ((2,33))else Q ((-1,-1)):af ant)) (by kernel_rfl) ?_
 simp only[I9,bV,cv]
def auZ:=eL wR 278 V arO d278 (λg=>Q (I9 g.1))
def aa9{F:aI}(h:ak wR F):ak wR (auZ F):=bA (sc:=dM) aX (bq ZJ avJ (λ_=>by kernel_rfl) (λ_=>by kernel_rfl) λg=>aAp g.1) ⟨_,func278,by kernel_rfl,by kernel_rfl⟩ (λ_=>by kernel_rfl) (λ_=>by kernel_rfl) h
abbrev mX:=Bool
def d228:Td 0 mX:= .c [] [6] (.r 0 0 (ec 6 qb en) sn (λz=>z.1.1) (λx=>((x,()),(()))))
def ao2:=(lc (ql 108) (lc (qg 106) (lc qb ln)))
def aob(M:(aa aT)->aj->Bool->af mX):aI->aI:=eL wR 228 V ao2 d228 (λg=>M g.1 g.2.1 g.2.2.1)
def aaL(M:(aa aT)->aj->Bool->af mX):Prop:=HL wR 228 ao2 d228 (λg=>M g.1 g.2.1 g.2.2.1)
def M8{M:(aa aT)->aj->Bool->af mX}(hM:aaL M){F:aI}(h:ak wR F):ak wR (aob M F):=bA (sc:=dM) aX hM ⟨_,func228,by kernel_rfl,by kernel_rfl⟩ (λ_=>by kernel_rfl) (λ_=>by kernel_rfl) h
def UK(M228:(aa aT)->aj->Bool->af mX):aI:=(auZ (aob M228 cw))
def ab6{M228}(h228:aaL M228):ak wR (UK M228):=(aa9 (M8 h228 aQ))
structure lG where
 t0:List aT
 t2:Bool
 t65:List aj
 (t66 t67:Int)
def Ak:Td 0 lG:= .c [] [0,2,65,66,67] (.r 0 0 (ec 0 (ql 108) (ec 2 qb (ec 65 (ql 106) (ec 66 aL (ec 67 aL en))))) sn (λz=>⟨z.1.1,z.1.2.1,z.1.t.1,z.1.t.2.1,z.1.q.1⟩) (λx=>((x.t0,x.t2,x.t65,x.t66,x.t67,()),(()))))
def Ac(M228:(aa aT)->aj->Bool->af mX)(p:lG):af (af lG):=
 bif Z (p.t67<p.t66)then if 0<=p.t67/\p.t67<yz p.t65 then match M228 p.t0 (aj.mk p.t65[zB p.t67]!.bG p.t65[zB p.t67]!.fN p.t65[zB p.t67]!.ay) p.t2 with|J=>J|Q r1=>bif bif r1 then V else O then Q (J)else Q (Q (lG.mk p.t0 p.t2 p.t65 p.t66 (i64.wrap (p.t67+1))))else J else Q (J)
def akP(M228:(aa aT)->aj->Bool->af mX)(p:lG):bK wR (UK M228) f228.ntmps 300 (aN f228 0) .no (af lG) (Ak.pat p) (fR Ak.rd)=Ac M228 p:=by kernel_rfl
def sj(M228:(aa aT)->aj->Bool->af mX):=b6 (Ac M228)
def agR(M228:(aa aT)->aj->Bool->af mX):An:=(noTwo (noTwo (.two (.two (.rb [] 32) .no) (.two (noTwo (noTwo (noTwo (noTwo (.two (.two (.rb [] 63) .no) .no))))) (.two (noTwo (Ak.lp (sj M228) .no)) .no)))))
def agW{M228}:∀f∈([]:aa Nat),aZ (UK M228) f:=aC
def atw(M228:(aa aT)->aj->Bool->af mX):bx wR (UK M228) 0 300 228 (agR M228):=aD (l:=[(.skip,(.rb [] 32)),(.skip,(.rb [] 63)),(aN f228 0,(Ak.lp (sj M228) .no))]) func228 (aq (by kernel_rfl)) (by kernel_rfl) (aA agW (aA agW (aA ⟨Ak.ok _,bt (akP M228)⟩ aC)))
def YM(M228:(aa aT)->aj->Bool->af mX)(a0:aa aT)(a1:aj)(a2:Bool):af mX:=
 match bif Z ((I9 a1.bG).fst<0)then Q O else bif Z ((yz a1.ay:Int)<(I9 a1.bG).fst)then Q O else Q (Z ((I9 a1.bG).snd<yz a1.ay))with|J=>J|Q r2=>bif r2 then Q V else bif Z (a1.bG=0)then match sj M228 (lG.mk a0 a2 a1.ay (yz a1.ay) 0)with|J=>J|Q r3=>bif Z (r3.t67<r3.t66)then if 0<=r3.t67/\r3.t67<yz r3.t65 then match M228 r3.t0 (aj.mk r3.t65[zB r3.t67]!.bG r3.t65[zB r3.t67]!.fN r3.t65[zB r3.t67]!.ay) r3.t2 with|J=>J|Q r4=>bif bif r4 then V else O then Q V else J else J else Q O else bif Z (a1.bG=24)then match bif Z (a1.fN<0)then Q O else bif Z (yz a0<=a1.fN)then Q O else bif a2 then if 0<=a1.fN/\a1.fN<yz a0 then Q (Z (a0[a1.fN.toNat]!.bU=0))else J else Q V with|J=>J|Q r5=>bif r5 then Q V else match sj M228 (lG.mk a0 a2 a1.ay (yz a1.ay) 0)with|J=>J|Q r6=>bif Z (r6.t67<r6.t66)then if 0<=r6.t67/\r6.t67<yz r6.t65 then match M228 r6.t0 (aj.mk r6.t65[zB r6.t67]!.bG r6.t65[zB r6.t67]!.fN r6.t65[zB r6.t67]!.ay) r6.t2 with|J=>J|Q r7=>bif bif r7 then V else O then Q V else J else J else Q O else bif bif Z (a1.fN=0)then V else O then Q V else match sj M228 (lG.mk a0 a2 a1.ay (yz a1.ay) 0)with|J=>J|Q r8=>bif Z (r8.t67<r8.t66)then if 0<=r8.t67/\r8.t67<yz r8.t65 then match M228 r8.t0 (aj.mk r8.t65[zB r8.t67]!.bG r8.t65[zB r8.t67]!.fN r8.t65[zB r8.t67]!.ay) r8.t2 with|J=>J|Q r9=>bif bif r9 then V else O then Q V else J else J else Q O
def aA2(M228:(aa aT)->aj->Bool->af mX)(a0:aa aT)(a1:aj)(a2:Bool):aO wR (UK M228) 300 (agR M228) 228 (ao2.c (a0,a1,a2,())) [] 0 d228.rd=YM M228 a0 a1 a2:=by kernel_rfl
def aiq:Nat->((aa aT)->aj->Bool->af mX)
 |0=>(λ_ _ _=>J)
 |n+1=>(YM (aiq n))
def LV(n:Nat):(aa aT)->aj->Bool->af mX:=(aiq n)
def Ih:∀n,aaL (LV n)
 |0=>λ_ _ h=>(by cases h)
 |n+1=>by
  have ih:=Ih n;have i228:=ih;exact(bq (ab6 i228) (atw (LV n)) (λ_=>by kernel_rfl) (λ_=>by kernel_rfl) λg=>aA2 (LV n) g.1 g.2.1 g.2.2.1)
def ade:(aa aT)->aj->Bool->af mX:=λa0 a1 a2=>lim (λn=>LV n a0 a1 a2)
def YZ:aaL ade:=λg b h=>by
 obtain⟨n,hn⟩:=bX (show lim (λn=>LV n g.1 g.2.1 g.2.2.1)=Q b from h);exact(Ih n) g b hn
def auf(F:aI):aI:=aob ade F
def abg{F:aI}(h:ak wR F):ak wR (auf F):=M8 YZ h
def amR:aI:=cw
def aeM:ak wR amR:=aQ
abbrev aqI:=Int
def d298:Td 0 aqI:= .c [] [4] (.r 0 0 (ec 4 aL en) sn (λz=>z.1.1) (λx=>((x,()),(()))))
def aqO:=(aW (aW ln))
def agT:An:= .no
def axI:bx wR (amR) 0 300 298 (agT):=aD (l:=[]) func298 (aq (by kernel_rfl)) (by kernel_rfl) aC
def qc(a0:Int)(a1:Int):aqI:=
 i64.wrap (a0*a1)
def aDL(a0:Int)(a1:Int):aO wR (amR) 300 (agT) 298 (aqO.c (a0,a1,())) [] 0 d298.rd=Q (qc a0 a1):=by kernel_rfl
def amT:=eL wR 298 V aqO d298 (λg=>Q (qc g.1 g.2.1))
def M0{F:aI}(h:ak wR F):ak wR (amT F):=bA (sc:=dM) aX (bq aeM axI (λ_=>by kernel_rfl) (λ_=>by kernel_rfl) λg=>aDL g.1 g.2.1) ⟨_,func298,by kernel_rfl,by kernel_rfl⟩ (λ_=>by kernel_rfl) (λ_=>by kernel_rfl) h
def aps:aI:=cw
def afM:ak wR aps:=aQ
abbrev aky:=Span
def d299:Td 0 aky:= .c [] [4] (.r 0 1 (ec 4 (qp 0 0) en) (sb 0 317 (lg 317) sn) (λz=>z.2.1) (λx=>(((),()),(x,()))))
def axe:=(lc (qg 317) (lc (qg 317) ln))
def ai8:An:= .no
def arc:bx wR (aps) 0 300 299 (ai8):=aD (l:=[]) func299 (aq (by kernel_rfl)) (by kernel_rfl) aC
def RD(a0:Span)(a1:Span):aky:=
 Span.mk (if a1.aG<a0.aG then a1.aG else a0.aG) (if a0.au<a1.au then a1.au else a0.au)
def aBF(a0:Span)(a1:Span):aO wR (aps) 300 (ai8) 299 (axe.c (a0,a1,())) [] 0 d299.rd=Q (RD a0 a1):=by
 refine Eq.trans (b:=(
  Q (Span.mk (if a1.aG<a0.aG then a1.aG else a0.aG) (if a0.au<a1.au then a1.au else a0.au)):af aky)) (by kernel_rfl) ?_
 simp only[RD,bV,cv]
def anq:=eL wR 299 V axe d299 (λg=>Q (RD g.1 g.2.1))
def O5{F:aI}(h:ak wR F):ak wR (anq F):=bA (sc:=dM) aX (bq afM arc (λ_=>by kernel_rfl) (λ_=>by kernel_rfl) λg=>aBF g.1 g.2.1) ⟨_,func299,by kernel_rfl,by kernel_rfl⟩ (λ_=>by kernel_rfl) (λ_=>by kernel_rfl) h
def ace:aI:=(anq (amT cw))
def abv:ak wR ace:=(O5 (M0 aQ))
structure oL where
 t38:List Int
 (t39 t40:Int)
 (b0 b1:Span)
def vf:Td 0 oL:= .c [] [6,8,38,39,40] (.r 0 3 (ec 6 (qp 0 0) (ec 8 (qp 1 0) (ec 38 (qo 2) (ec 39 aL (ec 40 aL en))))) (sb 0 317 (lg 317) (sb 1 317 (lg 317) (sr 2 3 sn))) (λz=>⟨z.t.2.1,z.1.t.2.1,z.1.q.1,z.2.1,z.t.1⟩) (λx=>(((),(),(),x.t39,x.t40,()),(x.b0,x.b1,x.t38,()))))
def kW(p:oL):af (af oL):=
 bif Z (p.t40<p.t39)then if 0<=p.t40/\p.t40<yz p.t38 then if 3=3/\zB p.t40<yz p.t38 then Q (Q (oL.mk p.t38 p.t39 (i64.wrap (p.t40+1)) p.b0 (RD p.b1 (Span.mk p.t38[zB p.t40]! p.t38[zB p.t40]!))))else J else J else Q (J)
def ajD(p:oL):bK wR (ace) f297.ntmps 300 (aN f297 0) .no (af oL) (vf.pat p) (fR vf.rd)=kW p:=by kernel_rfl
def vG:=b6 (kW)
abbrev atf:=Span
def d297:Td 0 atf:= .c [] [6] (.r 0 1 (ec 6 (qp 0 0) en) (sb 0 317 (lg 317) sn) (λz=>z.2.1) (λx=>(((),()),(x,()))))
def asR:=(lc (qg 317) (lc (qg 317) (lc (qf 298 ln) ln)))
def aiN:An:=(noTwo (noTwo (noTwo (.two (noTwo (vf.lp vG .no)) .no))))
def axL:bx wR (ace) 0 300 297 (aiN):=aD (l:=[(aN f297 0,(vf.lp vG .no))]) func297 (aq (by kernel_rfl)) (by kernel_rfl) (aA ⟨vf.ok _,bt (ajD)⟩ aC)
def XU(a0:Span)(a1:Span):af atf:=
 match vG (oL.mk [qc a0.aG a1.au,qc a0.au a1.aG,qc a0.au a1.au] (↑[qc a0.aG a1.au,qc a0.au a1.aG,qc a0.au a1.au].length:Int) 0 (Span.mk 0 0) (Span.mk (qc a0.aG a1.aG) (qc a0.aG a1.aG)))with|J=>J|Q r1=>bif Z (r1.t40<r1.t39)then if 0<=r1.t40/\r1.t40<yz r1.t38 then if 3=3/\zB r1.t40<yz r1.t38 then J else J else J else Q (r1.b1)
def aB7(a0:Span)(a1:Span):aO wR (ace) 300 (aiN) 297 (asR.c (a0,a1,(()),())) [] 0 d297.rd=XU a0 a1:=by kernel_rfl
def arV:=eL wR 297 V asR d297 (λg=>XU g.1 g.2.1)
def YW{F:aI}(h:ak wR F):ak wR (arV F):=bA (sc:=dM) aX (bq abv axL (λ_=>by kernel_rfl) (λ_=>by kernel_rfl) λg=>aB7 g.1 g.2.1) ⟨_,func297,by kernel_rfl,by kernel_rfl⟩ (λ_=>by kernel_rfl) (λ_=>by kernel_rfl) h
def XD:aI:=(anq (amT (arV cw)))
def Y1:ak wR XD:=(O5 (M0 (YW aQ)))
structure mC where
 t207:List Span
 (t208 t209:Int)
 (b0 b1:Span)
def BE:Td 0 mC:= .c [] [6,9,207,208,209] (.r 0 2 (ec 6 (qp 0 0) (ec 9 (qp 1 0) (ec 207 (ql 317) (ec 208 aL (ec 209 aL en))))) (sb 0 317 (lg 317) (sb 1 317 (lg 317) sn)) (λz=>⟨z.1.t.1,z.1.t.2.1,z.1.q.1,z.2.1,z.t.1⟩) (λx=>(((),(),x.t207,x.t208,x.t209,()),(x.b0,x.b1,()))))
def BP(p:mC):af (af mC):=
 bif Z (p.t209<p.t208)then if 0<=p.t209/\p.t209<yz p.t207 then Q (Q (mC.mk p.t207 p.t208 (i64.wrap (p.t209+1)) p.b0 (RD p.b1 p.t207[zB p.t209]!)))else J else Q (J)
def amu(p:mC):bK wR (XD) f279.ntmps 300 (aN f279 0) .no (af mC) (BE.pat p) (fR BE.rd)=BP p:=by kernel_rfl
def Ad:=b6 (BP)
abbrev atW:=Span
def d279:Td 0 atW:= .c [] [6] (.r 0 1 (ec 6 (qp 0 0) en) (sb 0 317 (lg 317) sn) (λz=>z.2.1) (λx=>(((),()),(x,()))))
def arZ:=(lc (ql 108) (lc (qg 106) (lc (ql 317) ln)))
def aiU:An:=(noTwo (.two (noTwo (noTwo (noTwo (noTwo (noTwo (noTwo (noTwo (noTwo (noTwo (noTwo (noTwo (noTwo (noTwo (noTwo (.two (noTwo (.two (.two (.rb [] 123) .no) .no)) (noTwo (noTwo (noTwo (noTwo (noTwo (noTwo (noTwo (.two (noTwo (.two (noTwo (BE.lp Ad .no)) .no)) .no))))))))))))))))))))))) .no))
def arh:∀f∈([]:aa Nat),aZ (XD) f:=aC
def avV:bx wR (XD) 0 300 279 (aiU):=aD (l:=[(.skip,(.rb [] 123)),(aN f279 0,(BE.lp Ad .no))]) func279 (aq (by kernel_rfl)) (by kernel_rfl) (aA arh (aA ⟨BE.ok _,bt (amu)⟩ aC))
def Ub(a0:aa aT)(a1:aj)(a2:aa Span):af atW:=
 bif Z (a1.bG=0)then Q (Span.mk a1.fN a1.fN)else bif Z (a1.bG=24)then if 0<=a1.fN/\a1.fN<yz a0 then if 0<=a1.fN/\a1.fN<yz a0 then Q (Span.mk a0[a1.fN.toNat]!.aG a0[a1.fN.toNat]!.au)else J else J else bif Z (a1.bG=6)then if(0:Int)<=(0:Int)/\(0:Int)<yz a2 then if(0:Int)<=(0:Int)/\(0:Int)<yz a2 then Q (Span.mk (i64.wrap (0-a2[0]!.au)) (i64.wrap (0-a2[0]!.aG)))else J else J else bif Z (a1.bG=8)then if(0:Int)<=(0:Int)/\(0:Int)<yz a2 then if(0:Int)<=(1:Int)/\(1:Int)<yz a2 then if(0:Int)<=(0:Int)/\(0:Int)<yz a2 then if(0:Int)<=(1:Int)/\(1:Int)<yz a2 then Q (Span.mk (i64.wrap (a2[0]!.aG+a2[1]!.aG)) (i64.wrap (a2[0]!.au+a2[1]!.au)))else J else J else J else J else bif Z (a1.bG=9)then if(0:Int)<=(0:Int)/\(0:Int)<yz a2 then if(0:Int)<=(1:Int)/\(1:Int)<yz a2 then if(0:Int)<=(0:Int)/\(0:Int)<yz a2 then if(0:Int)<=(1:Int)/\(1:Int)<yz a2 then Q (Span.mk (i64.wrap (a2[0]!.aG-a2[1]!.au)) (i64.wrap (a2[0]!.au-a2[1]!.aG)))else J else J else J else J else bif Z (a1.bG=10)then if(0:Int)<=(0:Int)/\(0:Int)<yz a2 then if(0:Int)<=(1:Int)/\(1:Int)<yz a2 then match XU a2[0]! a2[1]! with|J=>J|Q r1=>Q (r1)else J else J else bif Z (a1.bG=11)then if(0:Int)<=(0:Int)/\(0:Int)<yz a2 then if(0:Int)<=(0:Int)/\(0:Int)<yz a2 then match if(0:Int)<=(0:Int)/\(0:Int)<yz a2 then bif Z (0<=a2[0]!.aG)then if(0:Int)<=(1:Int)/\(1:Int)<yz a2 then Q (Z (0<=a2[1]!.aG))else J else Q V else J with|J=>J|Q r2=>bif r2 then Q (Span.mk 0 (if a2[0]!.au<i64.wrap (0-a2[0]!.aG)then i64.wrap (0-a2[0]!.aG)else a2[0]!.au))else Q (Span.mk (i64.wrap (0-if a2[0]!.au<i64.wrap (0-a2[0]!.aG)then i64.wrap (0-a2[0]!.aG)else a2[0]!.au)) (if a2[0]!.au<i64.wrap (0-a2[0]!.aG)then i64.wrap (0-a2[0]!.aG)else a2[0]!.au))else J else J else bif Z (a1.bG=12)then if(0:Int)<=(1:Int)/\(1:Int)<yz a2 then bif Z (a2[1]!.aG<0)then if(0:Int)<=(1:Int)/\(1:Int)<yz a2 then if(0:Int)<=(1:Int)/\(1:Int)<yz a2 then bif Z (0<a2[1]!.au)then if(0:Int)<=(1:Int)/\(1:Int)<yz a2 then Q (Span.mk (if 0<i64.wrap (a2[1]!.aG+1)then 0 else i64.wrap (a2[1]!.aG+1)) (if i64.wrap (a2[1]!.au-1)<0 then 0 else i64.wrap (a2[1]!.au-1)))else J else Q (Span.mk (if 0<i64.wrap (a2[1]!.aG+1)then 0 else i64.wrap (a2[1]!.aG+1)) 0)else J else J else if(0:Int)<=(1:Int)/\(1:Int)<yz a2 then bif Z (0<a2[1]!.au)then if(0:Int)<=(1:Int)/\(1:Int)<yz a2 then Q (Span.mk 0 (if i64.wrap (a2[1]!.au-1)<0 then 0 else i64.wrap (a2[1]!.au-1)))else J else Q (Span.mk 0 0)else J else J else bif Z (a1.bG=21)then if(0:Int)<=(0:Int)/\(0:Int)<yz a2 then if(0:Int)<=(1:Int)/\(1:Int)<yz a2 then if(0:Int)<=(0:Int)/\(0:Int)<yz a2 then if(0:Int)<=(1:Int)/\(1:Int)<yz a2 then Q (Span.mk (if a2[1]!.aG<a2[0]!.aG then a2[1]!.aG else a2[0]!.aG) (if a2[1]!.au<a2[0]!.au then a2[1]!.au else a2[0]!.au))else J else J else J else J else bif Z (a1.bG=22)then if(0:Int)<=(0:Int)/\(0:Int)<yz a2 then if(0:Int)<=(1:Int)/\(1:Int)<yz a2 then if(0:Int)<=(0:Int)/\(0:Int)<yz a2 then if(0:Int)<=(1:Int)/\(1:Int)<yz a2 then Q (Span.mk (if a2[0]!.aG<a2[1]!.aG then a2[1]!.aG else a2[0]!.aG) (if a2[0]!.au<a2[1]!.au then a2[1]!.au else a2[0]!.au))else J else J else J else J else bif Z (a1.bG=23)then if(0:Int)<=(1:Int)/\(1:Int)<yz a2 then if(0:Int)<=(2:Int)/\(2:Int)<=yz a2 then match Ad (mC.mk (List.drop 2 a2) (↑(List.drop 2 a2).length:Int) 0 (Span.mk 0 0) a2[1]!)with|J=>J|Q r3=>bif Z (r3.t209<r3.t208)then if 0<=r3.t209/\r3.t209<yz r3.t207 then J else J else Q (r3.b1)else J else J else bif Z (a1.bG=25)then if(0:Int)<=(1:Int)/\(1:Int)<yz a2 then if(0:Int)<=(2:Int)/\(2:Int)<=yz a2 then match Ad (mC.mk (List.drop 2 a2) (↑(List.drop 2 a2).length:Int) 0 (Span.mk 0 0) a2[1]!)with|J=>J|Q r4=>bif Z (r4.t209<r4.t208)then if 0<=r4.t209/\r4.t209<yz r4.t207 then J else J else Q (r4.b1)else J else J else Q (Span.mk 0 1)
def aAd(a0:aa aT)(a1:aj)(a2:aa Span):aO wR (XD) 300 (aiU) 279 (arZ.c (a0,a1,a2,())) [] 0 d279.rd=Ub a0 a1 a2:=by kernel_rfl
def aty:=eL wR 279 V arZ d279 (λg=>Ub g.1 g.2.1 g.t.1)
def aal{F:aI}(h:ak wR F):ak wR (aty F):=bA (sc:=dM) aX (bq Y1 avV (λ_=>by kernel_rfl) (λ_=>by kernel_rfl) λg=>aAd g.1 g.2.1 g.t.1) ⟨_,func279,by kernel_rfl,by kernel_rfl⟩ (λ_=>by kernel_rfl) (λ_=>by kernel_rfl) h
abbrev mM:=Span×Bool
def d229:Td 0 mM:= .c [] [4,5] (.r 0 1 (ec 4 (qp 0 0) (ec 5 qb en)) (sb 0 317 (lg 317) sn) (λz=>(z.2.1,z.1.2.1)) (λx=>(((),x.2,()),(x.1,()))))
def akW:=(lc (ql 108) (lc (qg 106) ln))
def akS(M:(aa aT)->aj->af mM):aI->aI:=eL wR 229 V akW d229 (λg=>M g.1 g.2.1)
def adW(M:(aa aT)->aj->af mM):Prop:=HL wR 229 akW d229 (λg=>M g.1 g.2.1)
def OJ{M:(aa aT)->aj->af mM}(hM:adW M){F:aI}(h:ak wR F):ak wR (akS M F):=bA (sc:=dM) aX hM ⟨_,func229,by kernel_rfl,by kernel_rfl⟩ (λ_=>by kernel_rfl) (λ_=>by kernel_rfl) h
def ZM(M229:(aa aT)->aj->af mM):aI:=(aty (akS M229 cw))
def ab1{M229}(h229:adW M229):ak wR (ZM M229):=(aal (OJ h229 aQ))
structure ox where
 t0:List aT
 t6:List Span
 t13:List aj
 (t14 t15:Int)
 b0:aj
 b1:Span
def Cc:Td 0 ox:= .c [] [0,3,4,6,13,14,15] (.t (cq.s 6 [] 317) (.c [] [0,3,4,6,13,14,15] (.r 0 3 (ec 0 (ql 108) (ec 3 (qp 0 0) (ec 4 (qp 1 0) (ec 6 (qo 2) (ec 13 (ql 106) (ec 14 aL (ec 15 aL en))))))) (sb 0 106 (lg 106) (sb 1 317 (lg 317) (sr 2 317 sn))) (λz=>⟨z.1.1,z.t.2.1,z.1.q.1,z.1.q.2.1,z.1.q.t.1,z.2.1,z.t.1⟩) (λx=>((x.t0,(),(),(),x.t13,x.t14,x.t15,()),(x.b0,x.b1,x.t6,()))))))
def rX(M229:(aa aT)->aj->af mM)(p:ox):af (af ox):=
 bif Z (p.t15<p.t14)then if 0<=p.t15/\p.t15<yz p.t13 then match M229 p.t0 (aj.mk p.t13[zB p.t15]!.bG p.t13[zB p.t15]!.fN p.t13[zB p.t15]!.ay)with|J=>J|Q r1=>bif bif r1.snd then V else O then Q (J)else if(p.t6++[r1.fst]).length<=1073741824 then Q (Q (ox.mk p.t0 (p.t6++[r1.fst]) p.t13 p.t14 (i64.wrap (p.t15+1)) (aj.mk p.b0.bG p.b0.fN p.b0.ay) p.b1))else J else J else Q (J)
def ak3(M229:(aa aT)->aj->af mM)(p:ox):bK wR (ZM M229) f229.ntmps 300 (aN f229 0) .no (af ox) (Cc.pat p) (fR Cc.rd)=rX M229 p:=by kernel_rfl
def EW(M229:(aa aT)->aj->af mM):=b6 (rX M229)
def ahW(M229:(aa aT)->aj->af mM):An:=(noTwo (noTwo (.two (noTwo (Cc.lp (EW M229) .no)) .no)))
def ax3(M229:(aa aT)->aj->af mM):bx wR (ZM M229) 0 300 229 (ahW M229):=aD (l:=[(aN f229 0,(Cc.lp (EW M229) .no))]) func229 (aq (by kernel_rfl)) (by kernel_rfl) (aA ⟨Cc.ok _,bt (ak3 M229)⟩ aC)
def aea(M229:(aa aT)->aj->af mM)(a0:aa aT)(a1:aj):af mM:=
 match EW M229 (ox.mk a0 [] a1.ay (yz a1.ay) 0 (aj.mk a1.bG a1.fN a1.ay) (Span.mk 0 0))with|J=>J|Q r2=>bif Z (r2.t15<r2.t14)then if 0<=r2.t15/\r2.t15<yz r2.t13 then match M229 r2.t0 (aj.mk r2.t13[zB r2.t15]!.bG r2.t13[zB r2.t15]!.fN r2.t13[zB r2.t15]!.ay)with|J=>J|Q r3=>bif bif r3.snd then V else O then Q (Span.mk 0 0,V)else if(r2.t6++[r3.fst]).length<=1073741824 then J else J else J else match Ub r2.t0 (aj.mk r2.b0.bG r2.b0.fN r2.b0.ay) r2.t6 with|J=>J|Q r4=>bif Z (-1048576<=r4.aG)then Q ((r4,Z (r4.au<=1048576)))else Q (r4,V)
def aCA(M229:(aa aT)->aj->af mM)(a0:aa aT)(a1:aj):aO wR (ZM M229) 300 (ahW M229) 229 (akW.c (a0,a1,())) [] 0 d229.rd=aea M229 a0 a1:=by kernel_rfl
def ah7:Nat->((aa aT)->aj->af mM)
 |0=>(λ_ _=>J)
 |n+1=>(aea (ah7 n))
def Lh(n:Nat):(aa aT)->aj->af mM:=(ah7 n)
def Jf:∀n,adW (Lh n)
 |0=>λ_ _ h=>(by cases h)
 |n+1=>by
  have ih:=Jf n;have i229:=ih;exact(bq (ab1 i229) (ax3 (Lh n)) (λ_=>by kernel_rfl) (λ_=>by kernel_rfl) λg=>aCA (Lh n) g.1 g.2.1)
def acC:(aa aT)->aj->af mM:=λa0 a1=>lim (λn=>Lh n a0 a1)
def aaK:adW acC:=λg b h=>by
 obtain⟨n,hn⟩:=bX (show lim (λn=>Lh n g.1 g.2.1)=Q b from h);exact(Jf n) g b hn
def as9(F:aI):aI:=akS acC F
def afE{F:aI}(h:ak wR F):ak wR (as9 F):=OJ aaK h
def aoL:aI:=(as9 (auf cw))
def acR:ak wR aoL:=(afE (abg aQ))
abbrev avu:=Int
def d169:Td 0 avu:= .c [] [6] (.r 0 0 (ec 6 aL en) sn (λz=>z.1.1) (λx=>((x,()),(()))))
def awH:=(lc (ql 108) (lc (qg 106) (lc qb ln)))
def ah3:An:= .no
def ata:bx wR (aoL) 0 300 169 (ah3):=aD (l:=[]) func169 (aq (by kernel_rfl)) (by kernel_rfl) aC
def HK(a0:aa aT)(a1:aj)(a2:Bool):af avu:=
 match ade a0 (aj.mk a1.bG a1.fN a1.ay) a2 with|J=>J|Q r1=>bif bif r1 then V else O then Q (1)else match acC a0 (aj.mk a1.bG a1.fN a1.ay)with|J=>J|Q r2=>bif bif r2.snd then V else O then Q (3)else Q (0)
def aCJ(a0:aa aT)(a1:aj)(a2:Bool):aO wR (aoL) 300 (ah3) 169 (awH.c (a0,a1,a2,())) [] 0 d169.rd=HK a0 a1 a2:=by kernel_rfl
def aeD:=eL wR 169 V awH d169 (λg=>HK g.1 g.2.1 g.t.1)
def Pp{F:aI}(h:ak wR F):ak wR (aeD F):=bA (sc:=dM) aX (bq acR ata (λ_=>by kernel_rfl) (λ_=>by kernel_rfl) λg=>aCJ g.1 g.2.1 g.t.1) ⟨_,func169,by kernel_rfl,by kernel_rfl⟩ (λ_=>by kernel_rfl) (λ_=>by kernel_rfl) h
def QB{F:aI}{f:Nat}(h:aZ F f):aZ (aeD F) f:=cg h (λ_=>by kernel_rfl)
def F99:aI:=(aeD (as4 (ao3 (alY cw))))
def alW:ak wR F99:=(Pp (adO (Pj (O2 aQ))))
structure BG where
 t8:List cG
 (t9 t10:Int)
 b0:bB
def IZ:Td 0 BG:= .c [] [1,8,9,10] (.r 0 1 (ec 1 (qp 0 0) (ec 8 (ql 116) (ec 9 aL (ec 10 aL en)))) (sb 0 26 (lg 26) sn) (λz=>⟨z.1.2.1,z.1.t.1,z.1.t.2.1,z.2.1⟩) (λx=>(((),x.t8,x.t9,x.t10,()),(x.b0,()))))
def BN(p:BG):af (af BG):=
 bif Z (p.t10<p.t9)then if 0<=p.t10/\p.t10<yz p.t8 then match Io p.t8[zB p.t10]!.fName with|J=>J|Q r1=>bif bif r1 then V else O then Q (J)else if 0<=p.t10/\p.t10<=yz p.b0.ai then match QG (List.take p.t10.toNat p.b0.ai) (cG.mk p.t8[zB p.t10]!.fName p.t8[zB p.t10]!.aG p.t8[zB p.t10]!.au (aj.mk p.t8[zB p.t10]!.aB.bG p.t8[zB p.t10]!.aB.fN p.t8[zB p.t10]!.aB.ay))with|J=>J|Q r2=>bif r2 then Q (J)else bif bif Ek p.t8[zB p.t10]!.aG p.t8[zB p.t10]!.au then V else O then Q (J)else match HK p.b0.ah (aj.mk p.t8[zB p.t10]!.aB.bG p.t8[zB p.t10]!.aB.fN p.t8[zB p.t10]!.aB.ay) O with|J=>J|Q r3=>bif bif Z (r3=0)then V else O then Q (J)else Q (Q (BG.mk p.t8 p.t9 (i64.wrap (p.t10+1)) p.b0))else J else J else Q (J)
def aw6(p:BG):bK wR (F99) f99.ntmps 300 (aN f99 0) .no (af BG) (IZ.pat p) (fR IZ.rd)=BN p:=by kernel_rfl
def Oj:=b6 (BN)
abbrev E99:=Int
def d99:Td 0 E99:= .c [] [2] (.r 0 0 (ec 2 aL en) sn (λz=>z.1.1) (λx=>((x,()),(()))))
def A99:=(lc (qg 26) ln)
def ar4:An:=(noTwo (.two (noTwo (IZ.lp Oj .no)) .no))
def aBU:bx wR (F99) 0 300 99 (ar4):=aD (l:=[(aN f99 0,(IZ.lp Oj .no))]) func99 (aq (by kernel_rfl)) (by kernel_rfl) (aA ⟨IZ.ok _,bt (aw6)⟩ aC)
def m99(a0:bB):af E99:=
 match Oj (BG.mk a0.ai (yz a0.ai) 0 a0)with|J=>J|Q r4=>bif Z (r4.t10<r4.t9)then if 0<=r4.t10/\r4.t10<yz r4.t8 then match Io r4.t8[zB r4.t10]!.fName with|J=>J|Q r5=>bif bif r5 then V else O then Q 7 else if 0<=r4.t10/\r4.t10<=yz r4.b0.ai then match QG (List.take r4.t10.toNat r4.b0.ai) (cG.mk r4.t8[zB r4.t10]!.fName r4.t8[zB r4.t10]!.aG r4.t8[zB r4.t10]!.au (aj.mk r4.t8[zB r4.t10]!.aB.bG r4.t8[zB r4.t10]!.aB.fN r4.t8[zB r4.t10]!.aB.ay))with|J=>J|Q r6=>bif r6 then Q 8 else bif bif Ek r4.t8[zB r4.t10]!.aG r4.t8[zB r4.t10]!.au then V else O then Q 3 else match HK r4.b0.ah (aj.mk r4.t8[zB r4.t10]!.aB.bG r4.t8[zB r4.t10]!.aB.fN r4.t8[zB r4.t10]!.aB.ay) O with|J=>J|Q r7=>bif bif Z (r7=0)then V else O then Q (r7)else J else J else J else Q 0
def c99(a0:bB):aO wR (F99) 300 (ar4) 99 (A99.c (a0,())) [] 0 d99.rd=m99 a0:=by kernel_rfl
def e99:=eL wR 99 V A99 d99 (λg=>m99 g.1)
def am3{F:aI}(h:ak wR F):ak wR (e99 F):=bA (sc:=dM) aX (bq alW aBU (λ_=>by kernel_rfl) (λ_=>by kernel_rfl) λg=>c99 g.1) ⟨_,func99,by kernel_rfl,by kernel_rfl⟩ (λ_=>by kernel_rfl) (λ_=>by kernel_rfl) h
def aeA:aI:=cw
def abN:ak wR aeA:=aQ
abbrev apa:=Bool
def d230:Td 0 apa:= .c [] [2] (.r 0 0 (ec 2 qb en) sn (λz=>z.1.1) (λx=>((x,()),(()))))
def av6:=(aW ln)
def af2:An:=(noTwo (.two (.rb [] 2) .no))
def au7:∀f∈([]:aa Nat),aZ (aeA) f:=aC
def awA:bx wR (aeA) 0 300 230 (af2):=aD (l:=[(.skip,(.rb [] 2))]) func230 (aq (by kernel_rfl)) (by kernel_rfl) (aA au7 aC)
def Rz(a0:Int):apa:=
 let r1:Bool:=bif Z (a0=0)then O else Z (a0=5);r1
def aBL(a0:Int):aO wR (aeA) 300 (af2) 230 (av6.c (a0,())) [] 0 d230.rd=Q (Rz a0):=by
 refine Eq.trans (b:=(
  match bif Z (a0=0)then Q (O)else Q (Z (a0=5))with|J=>J|Q r1=>Q (r1):af apa)) (by kernel_rfl) ?_
 simp only[Rz,bV,cv]
def alP:=eL wR 230 V av6 d230 (λg=>Q (Rz g.1))
def ae2{F:aI}(h:ak wR F):ak wR (alP F):=bA (sc:=dM) aX (bq abN awA (λ_=>by kernel_rfl) (λ_=>by kernel_rfl) λg=>aBL g.1) ⟨_,func230,by kernel_rfl,by kernel_rfl⟩ (λ_=>by kernel_rfl) (λ_=>by kernel_rfl) h
def j9{F:aI}{f:Nat}(h:aZ F f):aZ (alP F) f:=cg h (λ_=>by kernel_rfl)
def aeP:aI:=cw
def abG:ak wR aeP:=aQ
abbrev aoS:=Bool
def d231:Td 0 aoS:= .c [] [2] (.r 0 0 (ec 2 qb en) sn (λz=>z.1.1) (λx=>((x,()),(()))))
def auj:=(aW ln)
def ahj:An:=(noTwo (.two (.rb [] 2) .no))
def ar8:∀f∈([]:aa Nat),aZ (aeP) f:=aC
def awm:bx wR (aeP) 0 300 231 (ahj):=aD (l:=[(.skip,(.rb [] 2))]) func231 (aq (by kernel_rfl)) (by kernel_rfl) (aA ar8 aC)
def V8(a0:Int):aoS:=
 let r1:Bool:=bif Z (a0=4)then O else Z (a0=5);r1
def aBc(a0:Int):aO wR (aeP) 300 (ahj) 231 (auj.c (a0,())) [] 0 d231.rd=Q (V8 a0):=by
 refine Eq.trans (b:=(
  match bif Z (a0=4)then Q (O)else Q (Z (a0=5))with|J=>J|Q r1=>Q (r1):af aoS)) (by kernel_rfl) ?_
 simp only[V8,bV,cv]
def aks:=eL wR 231 V auj d231 (λg=>Q (V8 g.1))
def afg{F:aI}(h:ak wR F):ak wR (aks F):=bA (sc:=dM) aX (bq abG awm (λ_=>by kernel_rfl) (λ_=>by kernel_rfl) λg=>aBc g.1) ⟨_,func231,by kernel_rfl,by kernel_rfl⟩ (λ_=>by kernel_rfl) (λ_=>by kernel_rfl) h
def kH{F:aI}{f:Nat}(h:aZ F f):aZ (aks F) f:=cg h (λ_=>by kernel_rfl)
def abe:aI:=cw
def abY:ak wR abe:=aQ
abbrev anQ:=Bool
def d232:Td 0 anQ:= .c [] [2] (.r 0 0 (ec 2 qb en) sn (λz=>z.1.1) (λx=>((x,()),(()))))
def awo:=(aW ln)
def agE:An:=(noTwo (.two (.rb [] 2) .no))
def au2:∀f∈([]:aa Nat),aZ (abe) f:=aC
def asZ:bx wR (abe) 0 300 232 (agE):=aD (l:=[(.skip,(.rb [] 2))]) func232 (aq (by kernel_rfl)) (by kernel_rfl) (aA au2 aC)
def Wy(a0:Int):anQ:=
 let r1:Bool:=bif Z (a0=0)then O else bif Z (a0=1)then O else bif Z (a0=3)then O else Z (a0=4);r1
def aCI(a0:Int):aO wR (abe) 300 (agE) 232 (awo.c (a0,())) [] 0 d232.rd=Q (Wy a0):=by
 refine Eq.trans (b:=(
  match bif Z (a0=0)then Q (O)else bif Z (a0=1)then Q (O)else bif Z (a0=3)then Q (O)else Q (Z (a0=4))with|J=>J|Q r1=>Q (r1):af anQ)) (by kernel_rfl) ?_
 simp only[Wy,bV,cv]
def ajA:=eL wR 232 V awo d232 (λg=>Q (Wy g.1))
def ac6{F:aI}(h:ak wR F):ak wR (ajA F):=bA (sc:=dM) aX (bq abY asZ (λ_=>by kernel_rfl) (λ_=>by kernel_rfl) λg=>aCI g.1) ⟨_,func232,by kernel_rfl,by kernel_rfl⟩ (λ_=>by kernel_rfl) (λ_=>by kernel_rfl) h
def j6{F:aI}{f:Nat}(h:aZ F f):aZ (ajA F) f:=cg h (λ_=>by kernel_rfl)
def afV:aI:=cw
def ZY:ak wR afV:=aQ
abbrev ami:=Bool
def d233:Td 0 ami:= .c [] [2] (.r 0 0 (ec 2 qb en) sn (λz=>z.1.1) (λx=>((x,()),(()))))
def awE:=(lc (qg 106) ln)
def ahO:An:=(noTwo (.two (.rb [] 2) .no))
def awd:∀f∈([]:aa Nat),aZ (afV) f:=aC
def atb:bx wR (afV) 0 300 233 (ahO):=aD (l:=[(.skip,(.rb [] 2))]) func233 (aq (by kernel_rfl)) (by kernel_rfl) (aA awd aC)
def Rk(a0:aj):ami:=
 let r1:Bool:=bif Z (a0.bG=0)then bif Z (a0.fN=0)then Z ((yz a0.ay:Int)=0)else V else V;r1
def aCC(a0:aj):aO wR (afV) 300 (ahO) 233 (awE.c (a0,())) [] 0 d233.rd=Q (Rk a0):=by
 refine Eq.trans (b:=(
  match bif Z (a0.bG=0)then bif Z (a0.fN=0)then Q (Z ((yz a0.ay:Int)=0))else Q (V)else Q (V)with|J=>J|Q r1=>Q (r1):af ami)) (by kernel_rfl) ?_
 simp only[Rk,bV,cv]
def an8:=eL wR 233 V awE d233 (λg=>Q (Rk g.1))
def aav{F:aI}(h:ak wR F):ak wR (an8 F):=bA (sc:=dM) aX (bq ZY atb (λ_=>by kernel_rfl) (λ_=>by kernel_rfl) λg=>aCC g.1) ⟨_,func233,by kernel_rfl,by kernel_rfl⟩ (λ_=>by kernel_rfl) (λ_=>by kernel_rfl) h
def jS{F:aI}{f:Nat}(h:aZ F f):aZ (an8 F) f:=cg h (λ_=>by kernel_rfl)
def aer:aI:=cw
def aab:ak wR aer:=aQ
structure mq where
 t0:List Int
 (t5 t6:Int)
def vV:Td 0 mq:= .c [] [0,5,6] (.r 0 0 (ec 0 (ql 3) (ec 5 aL (ec 6 aL en))) sn (λz=>⟨z.1.1,z.1.2.1,z.1.t.1⟩) (λx=>((x.t0,x.t5,x.t6,()),(()))))
def Cy(p:mq):af (af mq):=
 bif Z (p.t6<p.t5)then bif Z (0<p.t6)then if 0<=p.t6/\p.t6<yz p.t0 then if 0<=i64.wrap (p.t6-1)/\i64.wrap (p.t6-1)<yz p.t0 then bif Z (p.t0[zB p.t6]!<=p.t0[(i64.wrap (p.t6-1)).toNat]!)then Q (J)else Q (Q (mq.mk p.t0 p.t5 (i64.wrap (p.t6+1))))else J else J else Q (Q (mq.mk p.t0 p.t5 (i64.wrap (p.t6+1))))else Q (J)
def apb(p:mq):bK wR (aer) f234.ntmps 300 (aN f234 0) .no (af mq) (vV.pat p) (fR vV.rd)=Cy p:=by kernel_rfl
def FQ:=b6 (Cy)
abbrev avj:=Bool
def d234:Td 0 avj:= .c [] [2] (.r 0 0 (ec 2 qb en) sn (λz=>z.1.1) (λx=>((x,()),(()))))
def ay3:=(lc (ql 3) ln)
def ahx:An:=(noTwo (.two (noTwo (vV.lp FQ .no)) .no))
def ayP:bx wR (aer) 0 300 234 (ahx):=aD (l:=[(aN f234 0,(vV.lp FQ .no))]) func234 (aq (by kernel_rfl)) (by kernel_rfl) (aA ⟨vV.ok _,bt (apb)⟩ aC)
def Qy(a0:aa Int):af avj:=
 match FQ (mq.mk a0 (yz a0) 0)with|J=>J|Q r1=>bif Z (r1.t6<r1.t5)then bif Z (0<r1.t6)then if 0<=r1.t6/\r1.t6<yz r1.t0 then if 0<=i64.wrap (r1.t6-1)/\i64.wrap (r1.t6-1)<yz r1.t0 then bif Z (r1.t0[zB r1.t6]!<=r1.t0[(i64.wrap (r1.t6-1)).toNat]!)then Q V else J else J else J else J else Q O
def aAT(a0:aa Int):aO wR (aer) 300 (ahx) 234 (ay3.c (a0,())) [] 0 d234.rd=Qy a0:=by kernel_rfl
def apz:=eL wR 234 V ay3 d234 (λg=>Qy g.1)
def Y2{F:aI}(h:ak wR F):ak wR (apz F):=bA (sc:=dM) aX (bq aab ayP (λ_=>by kernel_rfl) (λ_=>by kernel_rfl) λg=>aAT g.1) ⟨_,func234,by kernel_rfl,by kernel_rfl⟩ (λ_=>by kernel_rfl) (λ_=>by kernel_rfl) h
def jW{F:aI}{f:Nat}(h:aZ F f):aZ (apz F) f:=cg h (λ_=>by kernel_rfl)
def adU:aI:=(apz (an8 (ajA (aks (alP cw)))))
def Z2:ak wR adU:=(Y2 (aav (ac6 (afg (ae2 aQ)))))
abbrev arK:=Bool
def d170:Td 0 arK:= .c [] [6] (.r 0 0 (ec 6 qb en) sn (λz=>z.1.1) (λx=>((x,()),(()))))
def auS:=(lc (qg 26) (lc (qg 111) (lc qb ln)))
def aiH:An:=(noTwo (noTwo (.two (.two (.two (.rb [230,231,232,233,234] 10) (noTwo (.two (.rb [230,231,232,233,234] 10) (noTwo (.two (.rb [230,231,232,233,234] 10) (noTwo (.two (.rb [230,231,232,233,234] 10) (noTwo (.two (.rb [230,231,232,233,234] 10) (noTwo (.two (.rb [230,231,232,233,234] 10) (noTwo (.two (.rb [230,231,232,233,234] 10) (noTwo (.two (.rb [230,231,232,233,234] 10) (noTwo (.rb [230,231,232,233,234] 10))))))))))))))))) .no) (.two (.rb [230,231,232,233,234] 6) .no))))
def ot:∀f∈([230,231,232,233,234]:aa Nat),aZ (adU) f:=(aA (jW (jS (j6 (kH (j9 cS))))) (aA (jW (jS (j6 (kH (j9 cS))))) (aA (jW (jS (j6 (kH (j9 cS))))) (aA (jW (jS (j6 (kH (j9 cS))))) (aA (jW (jS (j6 (kH (j9 cS))))) aC)))))
def aue:bx wR (adU) 0 300 170 (aiH):=aD (l:=[(.skip,(.rb [230,231,232,233,234] 10)),(.skip,(.rb [230,231,232,233,234] 10)),(.skip,(.rb [230,231,232,233,234] 10)),(.skip,(.rb [230,231,232,233,234] 10)),(.skip,(.rb [230,231,232,233,234] 10)),(.skip,(.rb [230,231,232,233,234] 10)),(.skip,(.rb [230,231,232,233,234] 10)),(.skip,(.rb [230,231,232,233,234] 10)),(.skip,(.rb [230,231,232,233,234] 10)),(.skip,(.rb [230,231,232,233,234] 6))]) func170 (aq (by kernel_rfl)) (by kernel_rfl) (aA ot (aA ot (aA ot (aA ot (aA ot (aA ot (aA ot (aA ot (aA ot (aA ot aC))))))))))
def Gd(a0:bB)(a1:ax)(a2:Bool):af arK:=
 match bif Z (a1.cM<0)then Q O else Q (Z (6<a1.cM))with|J=>J|Q r1=>bif r1 then Q V else match bif bif Rz a1.cM then V else O then Q (bif Z (a1.bz=0)then V else O)else Q V with|J=>J|Q r2=>bif r2 then Q V else match bif bif V8 a1.cM then V else O then Q (bif Z (a1.fN=0)then V else O)else Q V with|J=>J|Q r3=>bif r3 then Q V else match bif bif Wy a1.cM then V else O then Q (bif Rk (aj.mk a1.aB.bG a1.aB.fN a1.aB.ay)then V else O)else Q V with|J=>J|Q r4=>bif r4 then Q V else match bif bif Z (a1.cM=3)then V else O then bif bif Z (a1.cM=4)then V else O then Q (Z (0<(yz a1.aU:Int)))else Q V else Q V with|J=>J|Q r5=>bif r5 then Q V else match bif bif Z (a1.cM=3)then V else O then Q (Z (0<(yz a1.aV:Int)))else Q V with|J=>J|Q r6=>bif r6 then Q V else match bif bif Z (a1.cM=6)then V else O then Q (Z (0<(yz a1.aK:Int)))else Q V with|J=>J|Q r7=>bif r7 then Q V else match bif Rz a1.cM then bif Z (a1.bz<0)then Q O else bif Z (yz a0.ah<=a1.bz)then Q O else if 0<=a1.bz/\a1.bz<yz a0.ah then Q (bif Z (a0.ah[a1.bz.toNat]!.bU=0)then V else O)else J else Q V with|J=>J|Q r8=>bif r8 then Q V else match bif Z (a1.cM=5)then bif Z (a1.fN<0)then Q O else Q (Z (yz a0.ai<=a1.fN))else Q V with|J=>J|Q r9=>bif r9 then Q V else match bif bif Z (a1.cM=6)then V else O then Q O else bif a2 then bif Z (0<(yz a1.aK:Int))then bif Z ((yz a1.aK:Int)<=32)then if(0:Int)<=(0:Int)/\(0:Int)<yz a1.aK then bif Z (0<=a1.aK[zB 0]!)then match Qy a1.aK with|J=>J|Q r10=>Q (r10)else Q V else J else Q V else Q V else Q V with|J=>J|Q r11=>Q (r11)
def aCu(a0:bB)(a1:ax)(a2:Bool):aO wR (adU) 300 (aiH) 170 (auS.c (a0,a1,a2,())) [] 0 d170.rd=Gd a0 a1 a2:=by kernel_rfl
def ajY:=eL wR 170 V auS d170 (λg=>Gd g.1 g.2.1 g.t.1)
def abK{F:aI}(h:ak wR F):ak wR (ajY F):=bA (sc:=dM) aX (bq Z2 aue (λ_=>by kernel_rfl) (λ_=>by kernel_rfl) λg=>aCu g.1 g.2.1 g.t.1) ⟨_,func170,by kernel_rfl,by kernel_rfl⟩ (λ_=>by kernel_rfl) (λ_=>by kernel_rfl) h
def Q3{F:aI}{f:Nat}(h:aZ F f):aZ (ajY F) f:=cg h (λ_=>by kernel_rfl)
def aaJ:aI:=cw
def acg:ak wR aaJ:=aQ
abbrev ayi:=Bool
def d171:Td 0 ayi:= .c [] [2] (.r 0 0 (ec 2 qb en) sn (λz=>z.1.1) (λx=>((x,()),(()))))
def aws:=(lc (qg 111) ln)
def ahE:An:=(noTwo (noTwo (noTwo (.two (.two (.rb [] 30) .no) (.two (.rb [] 2) .no)))))
def ahw:∀f∈([]:aa Nat),aZ (aaJ) f:=aC
def auu:bx wR (aaJ) 0 300 171 (ahE):=aD (l:=[(.skip,(.rb [] 30)),(.skip,(.rb [] 2))]) func171 (aq (by kernel_rfl)) (by kernel_rfl) (aA ahw (aA ahw aC))
def JG(a0:ax):af ayi:=
 bif Z (a0.cM=2)then match bif Z (a0.bN<0)then Q O else bif Z (67108864<a0.bN)then Q O else bif Z (a0.cM=4)then bif Z (a0.fN<0)then Q O else Q (Z (4096<a0.fN))else Q V with|J=>J|Q r1=>bif r1 then Q V else match bif bif Z (a0.cM=6)then V else O then Q O else if 0<=i64.wrap ((yz a0.aK:Int)-(1:Int))/\i64.wrap ((yz a0.aK:Int)-(1:Int))<yz a0.aK then Q (Z (a0.aK[(i64.wrap ((yz a0.aK:Int)-1)).toNat]!<=67108864))else J with|J=>J|Q r2=>Q (r2)else match bif Z (a0.bN<0)then Q O else bif Z (10000<a0.bN)then Q O else bif Z (a0.cM=4)then bif Z (a0.fN<0)then Q O else Q (Z (4096<a0.fN))else Q V with|J=>J|Q r3=>bif r3 then Q V else match bif bif Z (a0.cM=6)then V else O then Q O else if 0<=i64.wrap ((yz a0.aK:Int)-(1:Int))/\i64.wrap ((yz a0.aK:Int)-(1:Int))<yz a0.aK then Q (Z (a0.aK[(i64.wrap ((yz a0.aK:Int)-1)).toNat]!<=67108864))else J with|J=>J|Q r4=>Q (r4)
def az0(a0:ax):aO wR (aaJ) 300 (ahE) 171 (aws.c (a0,())) [] 0 d171.rd=JG a0:=by kernel_rfl
def apy:=eL wR 171 V aws d171 (λg=>JG g.1)
def aeb{F:aI}(h:ak wR F):ak wR (apy F):=bA (sc:=dM) aX (bq acg auu (λ_=>by kernel_rfl) (λ_=>by kernel_rfl) λg=>az0 g.1) ⟨_,func171,by kernel_rfl,by kernel_rfl⟩ (λ_=>by kernel_rfl) (λ_=>by kernel_rfl) h
def QT{F:aI}{f:Nat}(h:aZ F f):aZ (apy F) f:=cg h (λ_=>by kernel_rfl)
abbrev iM:=Int
def d100:Td 0 iM:= .c [] [6] (.r 0 0 (ec 6 aL en) sn (λz=>z.1.1) (λx=>((x,()),(()))))
def anv:=(lc (qg 26) (lc (ql 111) (lc qb ln)))
def aeF(M:bB->(aa ax)->Bool->af iM):aI->aI:=eL wR 100 V anv d100 (λg=>M g.1 g.2.1 g.2.2.1)
def Qi{M:bB->(aa ax)->Bool->af iM}{F:aI}{f:Nat}(h:aZ F f):aZ (aeF M F) f:=cg h (λ_=>by kernel_rfl)
def ae4(M:bB->(aa ax)->Bool->af iM):Prop:=HL wR 100 anv d100 (λg=>M g.1 g.2.1 g.2.2.1)
def Ni{M:bB->(aa ax)->Bool->af iM}(hM:ae4 M){F:aI}(h:ak wR F):ak wR (aeF M F):=bA (sc:=dM) aX hM ⟨_,func100,by kernel_rfl,by kernel_rfl⟩ (λ_=>by kernel_rfl) (λ_=>by kernel_rfl) h
def Q2(M100:bB->(aa ax)->Bool->af iM):aI:=(apy (ajY (aeD (aeF M100 cw))))
def aen{M100}(h100:ae4 M100):ak wR (Q2 M100):=(aeb (abK (Pp (Ni h100 aQ))))
structure mA where
 t1:List ax
 t2:Bool
 t13:List ax
 (t14 t15:Int)
 t47:List (List ax)
 (t48 t49:Int)
 b0:bB
def Ao:Td 0 mA:= .c [] [1,2,3,13,14,15,47,48,49] (.r 0 2 (ec 1 (ql 111) (ec 2 qb (ec 3 (qp 0 0) (ec 13 (ql 111) (ec 14 aL (ec 15 aL (ec 47 (qo 1) (ec 48 aL (ec 49 aL en))))))))) (sb 0 26 (lg 26) (sr 1 24 sn)) (λz=>⟨z.1.1,z.1.2.1,z.1.t.2.1,z.1.q.1,z.1.q.2.1,z.t.1,z.1.q.t.2.1,z.1.q.q.1,z.2.1⟩) (λx=>((x.t1,x.t2,(),x.t13,x.t14,x.t15,(),x.t48,x.t49,()),(x.b0,x.t47,()))))
def oK(M100:bB->(aa ax)->Bool->af iM)(p:mA):af (af mA):=
 bif Z (p.t49<p.t48)then if 0<=p.t49/\p.t49<yz p.t47 then if 24=24/\zB p.t49<yz p.t47 then match M100 p.b0 p.t47[zB p.t49]! V with|J=>J|Q r8=>bif bif Z (r8=0)then V else O then Q (J)else Q (Q (mA.mk p.t1 p.t2 p.t13 p.t14 p.t15 p.t47 p.t48 (i64.wrap (p.t49+1)) p.b0))else J else J else Q (J)
def anM(M100:bB->(aa ax)->Bool->af iM)(p:mA):bK wR (Q2 M100) f100.ntmps 300 (aN f100 1) .no (af mA) (Ao.pat p) (fR Ao.rd)=oK M100 p:=by kernel_rfl
def su(M100:bB->(aa ax)->Bool->af iM):=b6 (oK M100)
structure oQ where
 t1:List ax
 t2:Bool
 t13:List ax
 (t14 t15:Int)
 b0:bB
def BL:Td 0 oQ:= .c [] [1,2,3,13,14,15] (.r 0 1 (ec 1 (ql 111) (ec 2 qb (ec 3 (qp 0 0) (ec 13 (ql 111) (ec 14 aL (ec 15 aL en)))))) (sb 0 26 (lg 26) sn) (λz=>⟨z.1.1,z.1.2.1,z.1.t.2.1,z.1.q.1,z.1.q.2.1,z.2.1⟩) (λx=>((x.t1,x.t2,(),x.t13,x.t14,x.t15,()),(x.b0,()))))
def oV(M100:bB->(aa ax)->Bool->af iM)(p:oQ):af (af oQ):=
 bif Z (p.t15<p.t14)then if 0<=p.t15/\p.t15<yz p.t13 then match bif p.t2 then match Gd p.b0 (ax.mk p.t13[zB p.t15]!.cM p.t13[zB p.t15]!.bN p.t13[zB p.t15]!.bz p.t13[zB p.t15]!.fN (aj.mk p.t13[zB p.t15]!.aB.bG p.t13[zB p.t15]!.aB.fN p.t13[zB p.t15]!.aB.ay) p.t13[zB p.t15]!.aU p.t13[zB p.t15]!.aV p.t13[zB p.t15]!.aK) (Z (p.t15=i64.wrap ((yz p.t1:Int)-1)))with|J=>J|Q r1=>Q (bif r1 then V else O)else match Gd p.b0 (ax.mk p.t13[zB p.t15]!.cM p.t13[zB p.t15]!.bN p.t13[zB p.t15]!.bz p.t13[zB p.t15]!.fN (aj.mk p.t13[zB p.t15]!.aB.bG p.t13[zB p.t15]!.aB.fN p.t13[zB p.t15]!.aB.ay) p.t13[zB p.t15]!.aU p.t13[zB p.t15]!.aV p.t13[zB p.t15]!.aK) V with|J=>J|Q r2=>Q (bif r2 then V else O)with|J=>J|Q r3=>bif r3 then Q (J)else match JG (ax.mk p.t13[zB p.t15]!.cM p.t13[zB p.t15]!.bN p.t13[zB p.t15]!.bz p.t13[zB p.t15]!.fN (aj.mk p.t13[zB p.t15]!.aB.bG p.t13[zB p.t15]!.aB.fN p.t13[zB p.t15]!.aB.ay) p.t13[zB p.t15]!.aU p.t13[zB p.t15]!.aV p.t13[zB p.t15]!.aK)with|J=>J|Q r4=>bif bif r4 then V else O then Q (J)else match HK p.b0.ah (aj.mk p.t13[zB p.t15]!.aB.bG p.t13[zB p.t15]!.aB.fN p.t13[zB p.t15]!.aB.ay) V with|J=>J|Q r5=>bif bif Z (r5=0)then V else O then Q (J)else match su M100 (mA.mk p.t1 p.t2 p.t13 p.t14 p.t15 [p.t13[zB p.t15]!.aU,p.t13[zB p.t15]!.aV] (↑[p.t13[zB p.t15]!.aU,p.t13[zB p.t15]!.aV].length:Int) 0 p.b0)with|J=>J|Q r6=>bif Z (r6.t49<r6.t48)then if 0<=r6.t49/\r6.t49<yz r6.t47 then if 24=24/\zB r6.t49<yz r6.t47 then match M100 r6.b0 r6.t47[zB r6.t49]! V with|J=>J|Q r7=>bif bif Z (r7=0)then V else O then Q (J)else J else J else J else Q (Q (oQ.mk r6.t1 r6.t2 r6.t13 r6.t14 (i64.wrap (r6.t15+1)) r6.b0))else J else Q (J)
def Kz(M100:bB->(aa ax)->Bool->af iM):An:=(noTwo (noTwo (.two (noTwo (.two (.two (.rb [170] 31) .no) (noTwo (noTwo (noTwo (Ao.lp (su M100) .no)))))) .no)))
def alB(M100:bB->(aa ax)->Bool->af iM)(p:oQ):bK wR (Q2 M100) f100.ntmps 300 (aN f100 0) (Kz M100) (af oQ) (BL.pat p) (fR BL.rd)=oV M100 p:=by kernel_rfl
def E7(M100:bB->(aa ax)->Bool->af iM):=b6 (oV M100)
def ahP(M100:bB->(aa ax)->Bool->af iM):An:=(noTwo (.two (noTwo (BL.lp (E7 M100) (Kz M100))) .no))
def aqU{M100}:∀f∈([170]:aa Nat),aZ (Q2 M100) f:=(aA (QT (Q3 (QB (Qi cS)))) aC)
def avv(M100:bB->(aa ax)->Bool->af iM):bx wR (Q2 M100) 0 300 100 (ahP M100):=aD (l:=[(aN f100 0,(BL.lp (E7 M100) (Kz M100))),(.skip,(.rb [170] 31)),(aN f100 1,(Ao.lp (su M100) .no))]) func100 (aq (by kernel_rfl)) (by kernel_rfl) (aA ⟨BL.ok _,bt (alB M100)⟩ (aA aqU (aA ⟨Ao.ok _,bt (anM M100)⟩ aC)))
def YV(M100:bB->(aa ax)->Bool->af iM)(a0:bB)(a1:aa ax)(a2:Bool):af iM:=
 match E7 M100 (oQ.mk a1 a2 a1 (yz a1) 0 a0)with|J=>J|Q r9=>bif Z (r9.t15<r9.t14)then if 0<=r9.t15/\r9.t15<yz r9.t13 then match bif r9.t2 then match Gd r9.b0 (ax.mk r9.t13[zB r9.t15]!.cM r9.t13[zB r9.t15]!.bN r9.t13[zB r9.t15]!.bz r9.t13[zB r9.t15]!.fN (aj.mk r9.t13[zB r9.t15]!.aB.bG r9.t13[zB r9.t15]!.aB.fN r9.t13[zB r9.t15]!.aB.ay) r9.t13[zB r9.t15]!.aU r9.t13[zB r9.t15]!.aV r9.t13[zB r9.t15]!.aK) (Z (r9.t15=i64.wrap ((yz r9.t1:Int)-1)))with|J=>J|Q r10=>Q (bif r10 then V else O)else match Gd r9.b0 (ax.mk r9.t13[zB r9.t15]!.cM r9.t13[zB r9.t15]!.bN r9.t13[zB r9.t15]!.bz r9.t13[zB r9.t15]!.fN (aj.mk r9.t13[zB r9.t15]!.aB.bG r9.t13[zB r9.t15]!.aB.fN r9.t13[zB r9.t15]!.aB.ay) r9.t13[zB r9.t15]!.aU r9.t13[zB r9.t15]!.aV r9.t13[zB r9.t15]!.aK) V with|J=>J|Q r11=>Q (bif r11 then V else O)with|J=>J|Q r12=>bif r12 then Q 1 else match JG (ax.mk r9.t13[zB r9.t15]!.cM r9.t13[zB r9.t15]!.bN r9.t13[zB r9.t15]!.bz r9.t13[zB r9.t15]!.fN (aj.mk r9.t13[zB r9.t15]!.aB.bG r9.t13[zB r9.t15]!.aB.fN r9.t13[zB r9.t15]!.aB.ay) r9.t13[zB r9.t15]!.aU r9.t13[zB r9.t15]!.aV r9.t13[zB r9.t15]!.aK)with|J=>J|Q r13=>bif bif r13 then V else O then Q 3 else match HK r9.b0.ah (aj.mk r9.t13[zB r9.t15]!.aB.bG r9.t13[zB r9.t15]!.aB.fN r9.t13[zB r9.t15]!.aB.ay) V with|J=>J|Q r14=>bif bif Z (r14=0)then V else O then Q (r14)else match su M100 (mA.mk r9.t1 r9.t2 r9.t13 r9.t14 r9.t15 [r9.t13[zB r9.t15]!.aU,r9.t13[zB r9.t15]!.aV] (↑[r9.t13[zB r9.t15]!.aU,r9.t13[zB r9.t15]!.aV].length:Int) 0 r9.b0)with|J=>J|Q r15=>bif Z (r15.t49<r15.t48)then if 0<=r15.t49/\r15.t49<yz r15.t47 then if 24=24/\zB r15.t49<yz r15.t47 then match M100 r15.b0 r15.t47[zB r15.t49]! V with|J=>J|Q r16=>bif bif Z (r16=0)then V else O then Q (r16)else J else J else J else J else J else Q 0
def aB8(M100:bB->(aa ax)->Bool->af iM)(a0:bB)(a1:aa ax)(a2:Bool):aO wR (Q2 M100) 300 (ahP M100) 100 (anv.c (a0,a1,a2,())) [] 0 d100.rd=YV M100 a0 a1 a2:=by kernel_rfl
def ah6:Nat->(bB->(aa ax)->Bool->af iM)
 |0=>(λ_ _ _=>J)
 |n+1=>(YV (ah6 n))
def Li(n:Nat):bB->(aa ax)->Bool->af iM:=(ah6 n)
def H9:∀n,ae4 (Li n)
 |0=>λ_ _ h=>(by cases h)
 |n+1=>by
  have ih:=H9 n;have i100:=ih;exact(bq (aen i100) (avv (Li n)) (λ_=>by kernel_rfl) (λ_=>by kernel_rfl) λg=>aB8 (Li n) g.1 g.2.1 g.2.2.1)
def ac3:bB->(aa ax)->Bool->af iM:=λa0 a1 a2=>lim (λn=>Li n a0 a1 a2)
def adT:ae4 ac3:=λg b h=>by
 obtain⟨n,hn⟩:=bX (show lim (λn=>Li n g.1 g.2.1 g.2.2.1)=Q b from h);exact(H9 n) g b hn
def auT(F:aI):aI:=aeF ac3 F
def aa2{F:aI}(h:ak wR F):ak wR (auT F):=Ni adT h
abbrev nB:=me
def d101:Td 0 nB:= .c [] [2] (.r 0 1 (ec 2 (qp 0 0) en) (sb 0 181 (lg 181) sn) (λz=>z.2.1) (λx=>(((),()),(x,()))))
def apj:=(lc (ql 111) ln)
def x101(M:(aa ax)->af nB):aI->aI:=eL wR 101 V apj d101 (λg=>M g.1)
def afA(M:(aa ax)->af nB):Prop:=HL wR 101 apj d101 (λg=>M g.1)
def Nk{M:(aa ax)->af nB}(hM:afA M){F:aI}(h:ak wR F):ak wR (x101 M F):=bA (sc:=dM) aX hM ⟨_,func101,by kernel_rfl,by kernel_rfl⟩ (λ_=>by kernel_rfl) (λ_=>by kernel_rfl) h
def aey(M101:(aa ax)->af nB):aI:=(x101 M101 cw)
def Zd{M101}(h101:afA M101):ak wR (aey M101):=(Nk h101 aQ)
structure jF where
 t9:List ax
 (t10 t11:Int)
 (b0 b1:me)
def BH:Td 0 jF:= .c [] [2,3,9,10,11] (.r 0 2 (ec 2 (qp 0 0) (ec 3 (qp 1 0) (ec 9 (ql 111) (ec 10 aL (ec 11 aL en))))) (sb 0 181 (lg 181) (sb 1 181 (lg 181) sn)) (λz=>⟨z.1.t.1,z.1.t.2.1,z.1.q.1,z.2.1,z.t.1⟩) (λx=>(((),(),x.t9,x.t10,x.t11,()),(x.b0,x.b1,()))))
def Bc(M101:(aa ax)->af nB)(p:jF):af (af jF):=
 bif Z (p.t11<p.t10)then if 0<=p.t11/\p.t11<yz p.t9 then match M101 p.t9[zB p.t11]!.aU with|J=>J|Q r1=>match M101 p.t9[zB p.t11]!.aV with|J=>J|Q r2=>bif Z (p.t9[zB p.t11]!.cM=1)then Q (Q (jF.mk p.t9 p.t10 (i64.wrap (p.t11+1)) p.b0 (me.mk (if 1099511627776<i64.wrap (p.b1.eX+1)then 1099511627776 else i64.wrap (p.b1.eX+1)) (if 1099511627776<i64.wrap (p.b1.bJ+1)then 1099511627776 else i64.wrap (p.b1.bJ+1)) (if 1099511627776<i64.wrap (p.b1.cH+p.t9[zB p.t11]!.bN)then 1099511627776 else i64.wrap (p.b1.cH+p.t9[zB p.t11]!.bN)))))else bif Z (p.t9[zB p.t11]!.cM=3)then Q (Q (jF.mk p.t9 p.t10 (i64.wrap (p.t11+1)) p.b0 (me.mk (if 1099511627776<i64.wrap (p.b1.eX+i64.wrap (1+if r1.eX<r2.eX then r2.eX else r1.eX))then 1099511627776 else i64.wrap (p.b1.eX+i64.wrap (1+if r1.eX<r2.eX then r2.eX else r1.eX))) (if 1099511627776<i64.wrap (p.b1.bJ+if r1.bJ<r2.bJ then r2.bJ else r1.bJ)then 1099511627776 else i64.wrap (p.b1.bJ+if r1.bJ<r2.bJ then r2.bJ else r1.bJ)) (if 1099511627776<i64.wrap (p.b1.cH+i64.wrap (p.t9[zB p.t11]!.bN+if r1.cH<r2.cH then r2.cH else r1.cH))then 1099511627776 else i64.wrap (p.b1.cH+i64.wrap (p.t9[zB p.t11]!.bN+if r1.cH<r2.cH then r2.cH else r1.cH))))))else bif Z (p.t9[zB p.t11]!.cM=4)then Q (Q (jF.mk p.t9 p.t10 (i64.wrap (p.t11+1)) p.b0 (me.mk (if 1099511627776<i64.wrap (p.b1.eX+i64.wrap (1+i64.wrap (p.t9[zB p.t11]!.fN*i64.wrap (1+r1.eX))))then 1099511627776 else i64.wrap (p.b1.eX+i64.wrap (1+i64.wrap (p.t9[zB p.t11]!.fN*i64.wrap (1+r1.eX))))) (if 1099511627776<i64.wrap (p.b1.bJ+i64.wrap (p.t9[zB p.t11]!.fN*r1.bJ))then 1099511627776 else i64.wrap (p.b1.bJ+i64.wrap (p.t9[zB p.t11]!.fN*r1.bJ))) (if 1099511627776<i64.wrap (p.b1.cH+i64.wrap (p.t9[zB p.t11]!.fN*i64.wrap (p.t9[zB p.t11]!.bN+r1.cH)))then 1099511627776 else i64.wrap (p.b1.cH+i64.wrap (p.t9[zB p.t11]!.fN*i64.wrap (p.t9[zB p.t11]!.bN+r1.cH)))))))else Q (Q (jF.mk p.t9 p.t10 (i64.wrap (p.t11+1)) p.b0 (me.mk (if 1099511627776<i64.wrap (p.b1.eX+1)then 1099511627776 else i64.wrap (p.b1.eX+1)) (if 1099511627776<i64.wrap (p.b1.bJ+0)then 1099511627776 else i64.wrap (p.b1.bJ+0)) (if 1099511627776<i64.wrap (p.b1.cH+p.t9[zB p.t11]!.bN)then 1099511627776 else i64.wrap (p.b1.cH+p.t9[zB p.t11]!.bN)))))else J else Q (J)
def anh(M101:(aa ax)->af nB)(p:jF):bK wR (aey M101) f101.ntmps 300 (aN f101 0) .no (af jF) (BH.pat p) (fR BH.rd)=Bc M101 p:=by kernel_rfl
def Ei(M101:(aa ax)->af nB):=b6 (Bc M101)
def aiy(M101:(aa ax)->af nB):An:=(noTwo (noTwo (.two (noTwo (BH.lp (Ei M101) .no)) .no)))
def axT(M101:(aa ax)->af nB):bx wR (aey M101) 0 300 101 (aiy M101):=aD (l:=[(aN f101 0,(BH.lp (Ei M101) .no))]) func101 (aq (by kernel_rfl)) (by kernel_rfl) (aA ⟨BH.ok _,bt (anh M101)⟩ aC)
def ZO(M101:(aa ax)->af nB)(a0:aa ax):af nB:=
 match Ei M101 (jF.mk a0 (yz a0) 0 (me.mk 0 0 0) (me.mk 0 0 0))with|J=>J|Q r3=>bif Z (r3.t11<r3.t10)then if 0<=r3.t11/\r3.t11<yz r3.t9 then match M101 r3.t9[zB r3.t11]!.aU with|J=>J|Q r4=>match M101 r3.t9[zB r3.t11]!.aV with|J=>J|Q r5=>bif Z (r3.t9[zB r3.t11]!.cM=1)then J else bif Z (r3.t9[zB r3.t11]!.cM=3)then J else bif Z (r3.t9[zB r3.t11]!.cM=4)then J else J else J else Q (r3.b1)
def aBY(M101:(aa ax)->af nB)(a0:aa ax):aO wR (aey M101) 300 (aiy M101) 101 (apj.c (a0,())) [] 0 d101.rd=ZO M101 a0:=by kernel_rfl
def aiR:Nat->((aa ax)->af nB)
 |0=>(λ_=>J)
 |n+1=>(ZO (aiR n))
def KI(n:Nat):(aa ax)->af nB:=(aiR n)
def HH:∀n,afA (KI n)
 |0=>λ_ _ h=>(by cases h)
 |n+1=>by
  have ih:=HH n;have i101:=ih;exact(bq (Zd i101) (axT (KI n)) (λ_=>by kernel_rfl) (λ_=>by kernel_rfl) λg=>aBY (KI n) g.1)
def T2:(aa ax)->af nB:=λa0=>lim (λn=>KI n a0)
def ac0:afA T2:=λg b h=>by
 obtain⟨n,hn⟩:=bX (show lim (λn=>KI n g.1)=Q b from h);exact(HH n) g b hn
def aya(F:aI):aI:=x101 T2 F
def aby{F:aI}(h:ak wR F):ak wR (aya F):=Nk ac0 h
def F48:aI:=(aya (auT (e99 (e98 (e97 (e96 (e95 cw)))))))
def aoC:ak wR F48:=(aby (aa2 (am3 (ape (Uj (KE (an1 aQ)))))))
structure ud where
 t14:List cG
 (t15 t16:Int)
 b0:bB
 b1:aP
def JP:Td 0 ud:= .c [] [1,3,14,15,16] (.r 0 2 (ec 1 (qp 0 0) (ec 3 (qp 1 0) (ec 14 (ql 116) (ec 15 aL (ec 16 aL en))))) (sb 0 26 (lg 26) (sb 1 177 (lg 177) sn)) (λz=>⟨z.1.t.1,z.1.t.2.1,z.1.q.1,z.2.1,z.t.1⟩) (λx=>(((),(),x.t14,x.t15,x.t16,()),(x.b0,x.b1,()))))
def Dd(p:ud):af (af ud):=
 bif Z (p.t16<p.t15)then if 0<=p.t16/\p.t16<yz p.t14 then bif bif(rL p.b1).fst then V else O then match YF (aj.mk p.t14[zB p.t16]!.aB.bG p.t14[zB p.t16]!.aB.fN p.t14[zB p.t16]!.aB.ay) 1 (rL p.b1).snd with|J=>J|Q r1=>Q (Q (ud.mk p.t14 p.t15 (i64.wrap (p.t16+1)) p.b0 r1))else Q (Q (ud.mk p.t14 p.t15 (i64.wrap (p.t16+1)) p.b0 (rL p.b1).snd))else J else Q (J)
def ayJ(p:ud):bK wR (F48) f48.ntmps 300 (aN f48 0) .no (af ud) (JP.pat p) (fR JP.rd)=Dd p:=by kernel_rfl
def Ga:=b6 (Dd)
abbrev E48:=Int
def d48:Td 0 E48:= .c [] [2] (.r 0 0 (ec 2 aL en) sn (λz=>z.1.1) (λx=>((x,()),(()))))
def A48:=(lc (qg 26) ln)
def axW:An:=(noTwo (noTwo (noTwo (.two (noTwo (JP.lp Ga .no)) (noTwo (noTwo (noTwo (noTwo (.two (noTwo (.two (.rb [] 72) .no)) .no)))))))))
def azW:∀f∈([]:aa Nat),aZ (F48) f:=aC
def aCU:bx wR (F48) 0 300 48 (axW):=aD (l:=[(aN f48 0,(JP.lp Ga .no)),(.skip,(.rb [] 72))]) func48 (aq (by kernel_rfl)) (by kernel_rfl) (aA ⟨JP.ok _,bt (ayJ)⟩ (aA azW aC))
def m48(a0:bB):af E48:=
 match r95 a0.bR 1 (aP.mk 0 V)with|J=>J|Q r2=>match Ga (ud.mk a0.ai (yz a0.ai) 0 a0 r2)with|J=>J|Q r3=>bif Z (r3.t16<r3.t15)then if 0<=r3.t16/\r3.t16<yz r3.t14 then bif bif(rL r3.b1).fst then V else O then match YF (aj.mk r3.t14[zB r3.t16]!.aB.bG r3.t14[zB r3.t16]!.aB.fN r3.t14[zB r3.t16]!.aB.ay) 1 (rL r3.b1).snd with|J=>J|Q r4=>J else J else J else bif Z (64<(yz r3.b0.ah:Int))then Q 4 else bif Z (8<(yz r3.b0.ai:Int))then Q 4 else bif(rL r3.b1).fst then Q 4 else match m98 r3.b0.ah with|J=>J|Q r5=>bif bif Z (r5=0)then V else O then Q (r5)else match m99 r3.b0 with|J=>J|Q r6=>bif bif Z (r6=0)then V else O then Q (r6)else match ac3 r3.b0 r3.b0.bR O with|J=>J|Q r7=>bif bif Z (r7=0)then V else O then Q (r7)else match T2 r3.b0.bR with|J=>J|Q r8=>match bif Z (4096<r8.eX)then Q O else bif Z (8<r8.bJ)then Q O else Q (Z (67108864<r8.cH))with|J=>J|Q r9=>bif r9 then Q 4 else Q 0
def c48(a0:bB):aO wR (F48) 300 (axW) 48 (A48.c (a0,())) [] 0 d48.rd=m48 a0:=by kernel_rfl
def e48:=eL wR 48 V A48 d48 (λg=>m48 g.1)
def Ml{F:aI}(h:ak wR F):ak wR (e48 F):=bA (sc:=dM) aX (bq aoC aCU (λ_=>by kernel_rfl) (λ_=>by kernel_rfl) λg=>c48 g.1) ⟨_,func48,by kernel_rfl,by kernel_rfl⟩ (λ_=>by kernel_rfl) (λ_=>by kernel_rfl) h
end Go.Proofs.YtghilkcphindjaaGreat
end
noncomputable section
namespace Go.Proofs.YtghilkcphindjaaGreat
def gq:ByteArray:=ByteArray.mk #[0,1,2,2,3,3,3,3,4,4,4,4,4,4,4,4,5,5,5,5,5,5,5,5,5,5,5,5,5,5,5,5,6,6,6,6,6,6,6,6,6,6,6,6,6,6,6,6,6,6,6,6,6,6,6,6,6,6,6,6,6,6,6,6,7,7,7,7,7,7,7,7,7,7,7,7,7,7,7,7,7,7,7,7,7,7,7,7,7,7,7,7,7,7,7,7,7,7,7,7,7,7,7,7,7,7,7,7,7,7,7,7,7,7,7,7,7,7,7,7,7,7,7,7,7,7,7,7,8,8,8,8,8,8,8,8,8,8,8,8,8,8,8,8,8,8,8,8,8,8,8,8,8,8,8,8,8,8,8,8,8,8,8,8,8,8,8,8,8,8,8,8,8,8,8,8,8,8,8,8,8,8,8,8,8,8,8,8,8,8,8,8,8,8,8,8,8,8,8,8,8,8,8,8,8,8,8,8,8,8,8,8,8,8,8,8,8,8,8,8,8,8,8,8,8,8,8,8,8,8,8,8,8,8,8,8,8,8,8,8,8,8,8,8,8,8,8,8,8,8,8,8,8,8,8,8]
end Go.Proofs.YtghilkcphindjaaGreat
end
noncomputable section
set_option maxRecDepth 100000
namespace Go.Proofs.YtghilkcphindjaaGreat
open Go Go.Iv
open Go.IntKind (i64 u64)
def F65:aI:=cw
def alq:ak wR F65:=aQ
structure tU where
 t1:Int
 t5:List Int
 t9:List aT
 (t10 t11:Int)
def Hp:Td 0 tU:= .c [] [1,5,9,10,11] (.t (cq.s 5 [] 3) (.c [] [1,5,9,10,11] (.r 0 1 (ec 1 aL (ec 5 (qo 0) (ec 9 (ql 108) (ec 10 aL (ec 11 aL en))))) (sr 0 3 sn) (λz=>⟨z.1.1,z.2.1,z.1.t.1,z.1.t.2.1,z.1.q.1⟩) (λx=>((x.t1,(),x.t9,x.t10,x.t11,()),(x.t5,()))))))
def Kb(p:tU):af (af tU):=
 bif Z (p.t11<p.t10)then if 0<=p.t11/\p.t11<yz p.t9 then bif Z (p.t9[zB p.t11]!.bU=p.t1)then if(p.t5++[p.t11]).length<=1073741824 then Q (Q (tU.mk p.t1 (p.t5++[p.t11]) p.t9 p.t10 (i64.wrap (p.t11+1))))else J else Q (Q (tU.mk p.t1 p.t5 p.t9 p.t10 (i64.wrap (p.t11+1))))else J else Q (J)
def atp(p:tU):bK wR (F65) f65.ntmps 300 (aN f65 0) .no (af tU) (Hp.pat p) (fR Hp.rd)=Kb p:=by kernel_rfl
def OK:=b6 (Kb)
abbrev E65:=aa Int
def d65:Td 0 E65:= .c [] [4] (.r 0 1 (ec 4 (qo 0) en) (sr 0 3 sn) (λz=>z.2.1) (λx=>(((),()),(x,()))))
def A65:=(lc (qg 26) (aW ln))
def as2:An:=(noTwo (noTwo (.two (noTwo (Hp.lp OK .no)) .no)))
def aBB:bx wR (F65) 0 300 65 (as2):=aD (l:=[(aN f65 0,(Hp.lp OK .no))]) func65 (aq (by kernel_rfl)) (by kernel_rfl) (aA ⟨Hp.ok _,bt (atp)⟩ aC)
def m65(a0:bB)(a1:Int):af E65:=
 match OK (tU.mk a1 [] a0.ah (yz a0.ah) 0)with|J=>J|Q r1=>bif Z (r1.t11<r1.t10)then if 0<=r1.t11/\r1.t11<yz r1.t9 then bif Z (r1.t9[zB r1.t11]!.bU=r1.t1)then if(r1.t5++[r1.t11]).length<=1073741824 then J else J else J else J else Q (r1.t5)
def c65(a0:bB)(a1:Int):aO wR (F65) 300 (as2) 65 (A65.c (a0,a1,())) [] 0 d65.rd=m65 a0 a1:=by kernel_rfl
def e65:=eL wR 65 V A65 d65 (λg=>m65 g.1 g.2.1)
def aj8{F:aI}(h:ak wR F):ak wR (e65 F):=bA (sc:=dM) aX (bq alq aBB (λ_=>by kernel_rfl) (λ_=>by kernel_rfl) λg=>c65 g.1 g.2.1) ⟨_,func65,by kernel_rfl,by kernel_rfl⟩ (λ_=>by kernel_rfl) (λ_=>by kernel_rfl) h
def ap4:aI:=cw
def afC:ak wR ap4:=aQ
abbrev awG:=Int
def d172:Td 0 awG:= .c [] [2] (.r 0 0 (ec 2 aL en) sn (λz=>z.1.1) (λx=>((x,()),(()))))
def atq:=(lc (qi .u32) ln)
def ahR:An:= .no
def aqM:bx wR (ap4) 0 300 172 (ahR):=aD (l:=[]) func172 (aq (by kernel_rfl)) (by kernel_rfl) aC
def auC(a0:Int):af awG:=
 bif Z (65536<=a0)then bif Z (256<=cF IntKind.u32 a0 16)then if 0<=IntKind.u8.wrap (cF IntKind.u32 (cF IntKind.u32 a0 ((16:Int))) ((8:Int)))/\IntKind.u8.wrap (cF IntKind.u32 (cF IntKind.u32 a0 ((16:Int))) ((8:Int)))<256then Q (i64.wrap (24+i64.wrap (bL gq (IntKind.u8.wrap (cF IntKind.u32 (cF IntKind.u32 a0 16) 8)).toNat)))else J else if 0<=IntKind.u8.wrap (cF IntKind.u32 a0 ((16:Int)))/\IntKind.u8.wrap (cF IntKind.u32 a0 ((16:Int)))<256then Q (i64.wrap (16+i64.wrap (bL gq (IntKind.u8.wrap (cF IntKind.u32 a0 16)).toNat)))else J else bif Z (256<=a0)then if 0<=IntKind.u8.wrap (cF IntKind.u32 a0 ((8:Int)))/\IntKind.u8.wrap (cF IntKind.u32 a0 ((8:Int)))<256then Q (i64.wrap (8+i64.wrap (bL gq (IntKind.u8.wrap (cF IntKind.u32 a0 8)).toNat)))else J else if 0<=IntKind.u8.wrap a0/\IntKind.u8.wrap a0<256then Q (i64.wrap (0+i64.wrap (bL gq (IntKind.u8.wrap a0).toNat)))else J
def aBR(a0:Int):aO wR (ap4) 300 (ahR) 172 (atq.c (a0,())) [] 0 d172.rd=auC a0:=by kernel_rfl
def avT:=eL wR 172 V atq d172 (λg=>auC g.1)
def ZW{F:aI}(h:ak wR F):ak wR (avT F):=bA (sc:=dM) aX (bq afC aqM (λ_=>by kernel_rfl) (λ_=>by kernel_rfl) λg=>aBR g.1) ⟨_,func172,by kernel_rfl,by kernel_rfl⟩ (λ_=>by kernel_rfl) (λ_=>by kernel_rfl) h
def amM:aI:=cw
def acz:ak wR amM:=aQ
abbrev asg:=Int
def d173:Td 0 asg:= .c [] [2] (.r 0 0 (ec 2 aL en) sn (λz=>z.1.1) (λx=>((x,()),(()))))
def ay1:=(lc (qi .u64) ln)
def aij:An:= .no
def at4:bx wR (amM) 0 300 173 (aij):=aD (l:=[]) func173 (aq (by kernel_rfl)) (by kernel_rfl) aC
def Vy(a0:Int):af asg:=
 bif Z (4294967296<=a0)then bif Z (65536<=cF u64 a0 32)then bif Z (256<=cF u64 (cF u64 a0 32) 16)then if 0<=IntKind.u8.wrap (cF u64 (cF u64 (cF u64 a0 ((32:Int))) ((16:Int))) ((8:Int)))/\IntKind.u8.wrap (cF u64 (cF u64 (cF u64 a0 ((32:Int))) ((16:Int))) ((8:Int)))<256then Q (i64.wrap (56+i64.wrap (bL gq (IntKind.u8.wrap (cF u64 (cF u64 (cF u64 a0 32) 16) 8)).toNat)))else J else if 0<=IntKind.u8.wrap (cF u64 (cF u64 a0 ((32:Int))) ((16:Int)))/\IntKind.u8.wrap (cF u64 (cF u64 a0 ((32:Int))) ((16:Int)))<256then Q (i64.wrap (48+i64.wrap (bL gq (IntKind.u8.wrap (cF u64 (cF u64 a0 32) 16)).toNat)))else J else bif Z (256<=cF u64 a0 32)then if 0<=IntKind.u8.wrap (cF u64 (cF u64 a0 ((32:Int))) ((8:Int)))/\IntKind.u8.wrap (cF u64 (cF u64 a0 ((32:Int))) ((8:Int)))<256then Q (i64.wrap (40+i64.wrap (bL gq (IntKind.u8.wrap (cF u64 (cF u64 a0 32) 8)).toNat)))else J else if 0<=IntKind.u8.wrap (cF u64 a0 ((32:Int)))/\IntKind.u8.wrap (cF u64 a0 ((32:Int)))<256then Q (i64.wrap (32+i64.wrap (bL gq (IntKind.u8.wrap (cF u64 a0 32)).toNat)))else J else bif Z (65536<=a0)then bif Z (256<=cF u64 a0 16)then if 0<=IntKind.u8.wrap (cF u64 (cF u64 a0 ((16:Int))) ((8:Int)))/\IntKind.u8.wrap (cF u64 (cF u64 a0 ((16:Int))) ((8:Int)))<256then Q (i64.wrap (24+i64.wrap (bL gq (IntKind.u8.wrap (cF u64 (cF u64 a0 16) 8)).toNat)))else J else if 0<=IntKind.u8.wrap (cF u64 a0 ((16:Int)))/\IntKind.u8.wrap (cF u64 a0 ((16:Int)))<256then Q (i64.wrap (16+i64.wrap (bL gq (IntKind.u8.wrap (cF u64 a0 16)).toNat)))else J else bif Z (256<=a0)then if 0<=IntKind.u8.wrap (cF u64 a0 ((8:Int)))/\IntKind.u8.wrap (cF u64 a0 ((8:Int)))<256then Q (i64.wrap (8+i64.wrap (bL gq (IntKind.u8.wrap (cF u64 a0 8)).toNat)))else J else if 0<=IntKind.u8.wrap a0/\IntKind.u8.wrap a0<256then Q (i64.wrap (0+i64.wrap (bL gq (IntKind.u8.wrap a0).toNat)))else J
def aAb(a0:Int):aO wR (amM) 300 (aij) 173 (ay1.c (a0,())) [] 0 d173.rd=Vy a0:=by kernel_rfl
def asT:=eL wR 173 V ay1 d173 (λg=>Vy g.1)
def ab4{F:aI}(h:ak wR F):ak wR (asT F):=bA (sc:=dM) aX (bq acz at4 (λ_=>by kernel_rfl) (λ_=>by kernel_rfl) λg=>aAb g.1) ⟨_,func173,by kernel_rfl,by kernel_rfl⟩ (λ_=>by kernel_rfl) (λ_=>by kernel_rfl) h
def anm:aI:=(asT (avT cw))
def afw:ak wR anm:=(ab4 (ZW aQ))
abbrev avl:=Int
def d102:Td 0 avl:= .c [] [2] (.r 0 0 (ec 2 aL en) sn (λz=>z.1.1) (λx=>((x,()),(()))))
def aww:=(lc (qi .u64) ln)
def ah4:An:= .no
def asN:bx wR (anm) 0 300 102 (ah4):=aD (l:=[]) func102 (aq (by kernel_rfl)) (by kernel_rfl) aC
def Jz(a0:Int):af avl:=
 match Vy a0 with|J=>J|Q r1=>Q (r1)
def aBQ(a0:Int):aO wR (anm) 300 (ah4) 102 (aww.c (a0,())) [] 0 d102.rd=Jz a0:=by kernel_rfl
def awD:=eL wR 102 V aww d102 (λg=>Jz g.1)
def acD{F:aI}(h:ak wR F):ak wR (awD F):=bA (sc:=dM) aX (bq afw asN (λ_=>by kernel_rfl) (λ_=>by kernel_rfl) λg=>aBQ g.1) ⟨_,func102,by kernel_rfl,by kernel_rfl⟩ (λ_=>by kernel_rfl) (λ_=>by kernel_rfl) h
def F49:aI:=(awD (e65 cw))
def anj:ak wR F49:=(acD (aj8 aQ))
structure tW where
 t2:List Slot
 (t3 t4 t6:Int)
 t10:List Int
 (t11 t12:Int)
 t18:List Int
 (t19 t20:Int)
 b0:bB
def Jw:Td 0 tW:= .c [] [1,2,3,4,6,10,11,12,18,19,20] (.r 0 4 (ec 1 (qp 0 0) (ec 2 (qo 1) (ec 3 aL (ec 4 aL (ec 6 aL (ec 10 (qo 2) (ec 11 aL (ec 12 aL (ec 18 (qo 3) (ec 19 aL (ec 20 aL en))))))))))) (sb 0 26 (lg 26) (sr 1 38 (sr 2 65 (sr 3 3 sn)))) (λz=>⟨z.t.1,z.1.t.1,z.1.t.2.1,z.1.q.1,z.t.2.1,z.1.q.t.1,z.1.q.t.2.1,z.q.1,z.1.q.q.2.1,z.1.q.q.t.1,z.2.1⟩) (λx=>(((),(),x.t3,x.t4,x.t6,(),x.t11,x.t12,(),x.t19,x.t20,()),(x.b0,x.t2,x.t10,x.t18,()))))
def J4(p:tW):af (af tW):=
 bif Z (p.t20<p.t19)then if 0<=p.t20/\p.t20<yz p.t18 then if 3=3/\zB p.t20<yz p.t18 then if 0<=p.t18[zB p.t20]!/\p.t18[zB p.t20]! <(yz p.b0.ah:Int)then if 0<=p.t18[zB p.t20]!/\p.t18[zB p.t20]! <(yz p.b0.ah:Int)then match Jz (u64.wrap (i64.wrap (p.b0.ah[zB p.t18[zB p.t20]!]!.au-p.b0.ah[zB p.t18[zB p.t20]!]!.aG)))with|J=>J|Q r4=>if(p.t2++[Slot.mk p.t18[zB p.t20]! p.t4 r4]).length<=1073741824 then Q (Q (tW.mk (p.t2++[Slot.mk p.t18[zB p.t20]! p.t4 r4]) p.t3 (i64.wrap (p.t4+r4)) p.t6 p.t10 p.t11 p.t12 p.t18 p.t19 (i64.wrap (p.t20+1)) p.b0))else J else J else J else J else J else Q (J)
def asy(p:tW):bK wR (F49) f49.ntmps 300 (aN f49 1) .no (af tW) (Jw.pat p) (fR Jw.rd)=J4 p:=by kernel_rfl
def GZ:=b6 (J4)
structure tM where
 t2:List Slot
 (t3 t4:Int)
 t10:List Int
 (t11 t12:Int)
 b0:bB
def Kq:Td 0 tM:= .c [] [1,2,3,4,10,11,12] (.t (cq.s 2 [] 38) (.c [] [1,2,3,4,10,11,12] (.r 0 3 (ec 1 (qp 0 0) (ec 2 (qo 1) (ec 3 aL (ec 4 aL (ec 10 (qo 2) (ec 11 aL (ec 12 aL en))))))) (sb 0 26 (lg 26) (sr 1 38 (sr 2 65 sn))) (λz=>⟨z.t.1,z.1.t.1,z.1.t.2.1,z.t.2.1,z.1.q.2.1,z.1.q.t.1,z.2.1⟩) (λx=>(((),(),x.t3,x.t4,(),x.t11,x.t12,()),(x.b0,x.t2,x.t10,()))))))
def vj(p:tM):af (af tM):=
 bif Z (p.t12<p.t11)then if 0<=p.t12/\p.t12<yz p.t10 then if 65=65/\zB p.t12<yz p.t10 then match m65 p.b0 p.t10[zB p.t12]! with|J=>J|Q r1=>match GZ (tW.mk p.t2 p.t3 p.t4 p.t10[zB p.t12]! p.t10 p.t11 p.t12 r1 (↑(yz r1):Int) 0 p.b0)with|J=>J|Q r2=>bif Z (r2.t20<r2.t19)then if 0<=r2.t20/\r2.t20<yz r2.t18 then if 3=3/\zB r2.t20<yz r2.t18 then if 0<=r2.t18[zB r2.t20]!/\r2.t18[zB r2.t20]! <(yz r2.b0.ah:Int)then if 0<=r2.t18[zB r2.t20]!/\r2.t18[zB r2.t20]! <(yz r2.b0.ah:Int)then match Jz (u64.wrap (i64.wrap (r2.b0.ah[zB r2.t18[zB r2.t20]!]!.au-r2.b0.ah[zB r2.t18[zB r2.t20]!]!.aG)))with|J=>J|Q r3=>if(r2.t2++[Slot.mk r2.t18[zB r2.t20]! r2.t4 r3]).length<=1073741824 then J else J else J else J else J else J else bif Z (r2.t6=1)then Q (Q (tM.mk r2.t2 r2.t4 r2.t4 r2.t10 r2.t11 (i64.wrap (r2.t12+1)) r2.b0))else Q (Q (tM.mk r2.t2 r2.t3 r2.t4 r2.t10 r2.t11 (i64.wrap (r2.t12+1)) r2.b0))else J else J else Q (J)
def X6:An:=(noTwo (noTwo (.two (noTwo (.two (noTwo (Jw.lp GZ .no)) .no)) .no)))
def avi(p:tM):bK wR (F49) f49.ntmps 300 (aN f49 0) X6 (af tM) (Kq.pat p) (fR Kq.rd)=vj p:=by kernel_rfl
def Il:=b6 (vj)
abbrev E49:=(aa Slot)×Int×Int
def d49:Td 0 E49:= .c [] [2,3,4] (.r 0 1 (ec 2 (qo 0) (ec 3 aL (ec 4 aL en))) (sr 0 38 sn) (λz=>(z.2.1,z.1.2.1,z.1.t.1)) (λx=>(((),x.2.1,x.t,()),(x.1,()))))
def A49:=(lc (qg 26) ln)
def awW:An:=(noTwo (.two (noTwo (Kq.lp Il X6)) .no))
def aA0:bx wR (F49) 0 300 49 (awW):=aD (l:=[(aN f49 0,(Kq.lp Il X6)),(aN f49 1,(Jw.lp GZ .no))]) func49 (aq (by kernel_rfl)) (by kernel_rfl) (aA ⟨Kq.ok _,bt (avi)⟩ (aA ⟨Jw.ok _,bt (asy)⟩ aC))
def m49(a0:bB):af E49:=
 match Il (tM.mk [] (0) 0 [1,3] (2:Int) 0 a0)with|J=>J|Q r5=>bif Z (r5.t12<r5.t11)then if 0<=r5.t12/\r5.t12<yz r5.t10 then if 65=65/\zB r5.t12<yz r5.t10 then match m65 r5.b0 r5.t10[zB r5.t12]! with|J=>J|Q r6=>match GZ (tW.mk r5.t2 r5.t3 r5.t4 r5.t10[zB r5.t12]! r5.t10 r5.t11 r5.t12 r6 (↑(yz r6):Int) 0 r5.b0)with|J=>J|Q r7=>bif Z (r7.t20<r7.t19)then if 0<=r7.t20/\r7.t20<yz r7.t18 then if 3=3/\zB r7.t20<yz r7.t18 then if 0<=r7.t18[zB r7.t20]!/\r7.t18[zB r7.t20]! <(yz r7.b0.ah:Int)then if 0<=r7.t18[zB r7.t20]!/\r7.t18[zB r7.t20]! <(yz r7.b0.ah:Int)then match Jz (u64.wrap (i64.wrap (r7.b0.ah[zB r7.t18[zB r7.t20]!]!.au-r7.b0.ah[zB r7.t18[zB r7.t20]!]!.aG)))with|J=>J|Q r8=>if(r7.t2++[Slot.mk r7.t18[zB r7.t20]! r7.t4 r8]).length<=1073741824 then J else J else J else J else J else J else bif Z (r7.t6=1)then J else J else J else J else Q (r5.t2,r5.t3,r5.t4)
def c49(a0:bB):aO wR (F49) 300 (awW) 49 (A49.c (a0,())) [] 0 d49.rd=m49 a0:=by kernel_rfl
def e49:=eL wR 49 V A49 d49 (λg=>m49 g.1)
def KJ{F:aI}(h:ak wR F):ak wR (e49 F):=bA (sc:=dM) aX (bq anj aA0 (λ_=>by kernel_rfl) (λ_=>by kernel_rfl) λg=>c49 g.1) ⟨_,func49,by kernel_rfl,by kernel_rfl⟩ (λ_=>by kernel_rfl) (λ_=>by kernel_rfl) h
def anI:aI:=(atD cw)
def aa3:ak wR anI:=(aeg aQ)
abbrev awv:=bO×cc
def d118:Td 1 awv:= .c [] [6] (.r 1 2 (ec 6 (qp 1 0) en) (sb 0 138 (lg 138) (sb 1 42 (lg 42) sn)) (λz=>(z.t.1,z.2.1)) (λx=>(((),()),(x.2,x.1,()))))
def aqW:=(lc (qp 0 0) (lc (qg 80) (aW ln)))
def atm:=(sb 0 138 (lg 138) sn)
def ag3:An:= .no
def asl:bx wR (anI) 1 300 118 (ag3):=aD (l:=[]) func118 (aq (by kernel_rfl)) (by kernel_rfl) aC
def Xa(a1:aH)(a2:Int)(b0:cc):af awv:=
 match PV a1 a2 with|J=>J|Q r1=>Q ((r1.fst,b0))
def aCp(a1:aH)(a2:Int)(b0:cc):aO wR (anI) 300 (ag3) 118 (aqW.c ((),a1,a2,())) (atm.d (b0,())) 1 d118.rd=Xa a1 a2 b0:=by kernel_rfl
def axu:aI->aI:=eY wR 118 1 aqW atm d118 (λg=>Xa g.1.2.1 g.1.t.1 g.2.1)
def aaN{F:aI}(h:ak wR F):ak wR (axu F):=dG (dN aa3 asl (λ_=>by kernel_rfl) (λ_=>by kernel_rfl) (λ_=>by kernel_rfl) λg=>aCp g.1.2.1 g.1.t.1 g.2.1) ⟨_,func118,by kernel_rfl,by kernel_rfl⟩ (λ_=>by kernel_rfl) h
def F58:aI:=(axu (avk (ays (anN (auv (e75 cw))))))
def amm:ak wR F58:=(aaN (afu (ae9 (Py (YQ (XN aQ))))))
structure AD where
 t20:List Slot
 (t21 t22:Int)
 b0:cc
 (b1 b2:bO)
def GJ:Td 1 AD:= .c [] [0,2,3,20,21,22] (.r 1 3 (ec 0 (qp 0 0) (ec 2 (qp 1 0) (ec 3 (qp 2 0) (ec 20 (ql 38) (ec 21 aL (ec 22 aL en)))))) (sb 0 138 (lg 138) (sb 1 42 (aW (lc qn (aW ln))) (sb 2 42 (lg 42) sn))) (λz=>⟨z.1.t.2.1,z.1.q.1,z.1.q.2.1,z.2.1,(bO.mk z.t.1.1 [] z.t.1.t.1),z.t.2.1⟩) (λx=>(((),(),(),x.t20,x.t21,x.t22,()),(x.b0,(x.b1.ah,(),x.b1.bu,()),x.b2,()))))
def It(p:AD):af (af AD):=
 bif Z (p.t22<p.t21)then if 0<=p.t22/\p.t22<yz p.t20 then if 0<=p.t20[zB p.t22]!.bz/\p.t20[zB p.t22]!.bz<yz p.b0.fF.ah then match QV p.t20[zB p.t22]! p.b0 with|J=>J|Q r1=>match JN 7 r1.fst (aH.mk (Kr (i64.wrap (i64.wrap (p.b0.fF.ah[p.t20[zB p.t22]!.bz.toNat]!.au-p.b0.fF.ah[p.t20[zB p.t22]!.bz.toNat]!.aG)+1)) r1.snd).fst.ah (Kr (i64.wrap (i64.wrap (p.b0.fF.ah[p.t20[zB p.t22]!.bz.toNat]!.au-p.b0.fF.ah[p.t20[zB p.t22]!.bz.toNat]!.aG)+1)) r1.snd).fst.aR [] (Kr (i64.wrap (i64.wrap (p.b0.fF.ah[p.t20[zB p.t22]!.bz.toNat]!.au-p.b0.fF.ah[p.t20[zB p.t22]!.bz.toNat]!.aG)+1)) r1.snd).fst.bu) (Kr (i64.wrap (i64.wrap (p.b0.fF.ah[p.t20[zB p.t22]!.bz.toNat]!.au-p.b0.fF.ah[p.t20[zB p.t22]!.bz.toNat]!.aG)+1)) r1.snd).snd with|J=>J|Q r2=>match Xa r2.fst 1 r2.snd with|J=>J|Q r3=>match LO 8 p.b2 r3.fst with|J=>J|Q r4=>Q (Q (AD.mk p.t20 p.t21 (i64.wrap (p.t22+1)) r3.snd (bO.mk p.b1.ah [] p.b1.bu) r4.fst))else J else J else Q (J)
def awB(p:AD):bK wR (F58) f58.ntmps 300 (aN f58 0) .no (af AD) (GJ.pat p) (fR GJ.rd)=It p:=by kernel_rfl
def Pv:=b6 (It)
abbrev E58:=bO×cc
def d58:Td 1 E58:= .c [] [2] (.r 1 2 (ec 2 (qp 1 0) en) (sb 0 138 (lg 138) (sb 1 42 (lg 42) sn)) (λz=>(z.t.1,z.2.1)) (λx=>(((),()),(x.2,x.1,()))))
def A58:=(lc (qp 0 0) ln)
def B58:=(sb 0 138 (lg 138) sn)
def aqY:An:=(noTwo (noTwo (.two (noTwo (GJ.lp Pv .no)) .no)))
def aCO:bx wR (F58) 1 300 58 (aqY):=aD (l:=[(aN f58 0,(GJ.lp Pv .no))]) func58 (aq (by kernel_rfl)) (by kernel_rfl) (aA ⟨GJ.ok _,bt (awB)⟩ aC)
def m58(b0:cc):af E58:=
 match Pv (AD.mk b0.cZ (yz b0.cZ) 0 b0 (bO.mk 0 [] (0)) (bO.mk (H7 b0.ah O).fst.ah [] (H7 b0.ah O).fst.bu))with|J=>J|Q r5=>bif Z (r5.t22<r5.t21)then if 0<=r5.t22/\r5.t22<yz r5.t20 then if 0<=r5.t20[zB r5.t22]!.bz/\r5.t20[zB r5.t22]!.bz<yz r5.b0.fF.ah then match QV r5.t20[zB r5.t22]! r5.b0 with|J=>J|Q r6=>match JN 7 r6.fst (aH.mk (Kr (i64.wrap (i64.wrap (r5.b0.fF.ah[r5.t20[zB r5.t22]!.bz.toNat]!.au-r5.b0.fF.ah[r5.t20[zB r5.t22]!.bz.toNat]!.aG)+1)) r6.snd).fst.ah (Kr (i64.wrap (i64.wrap (r5.b0.fF.ah[r5.t20[zB r5.t22]!.bz.toNat]!.au-r5.b0.fF.ah[r5.t20[zB r5.t22]!.bz.toNat]!.aG)+1)) r6.snd).fst.aR [] (Kr (i64.wrap (i64.wrap (r5.b0.fF.ah[r5.t20[zB r5.t22]!.bz.toNat]!.au-r5.b0.fF.ah[r5.t20[zB r5.t22]!.bz.toNat]!.aG)+1)) r6.snd).fst.bu) (Kr (i64.wrap (i64.wrap (r5.b0.fF.ah[r5.t20[zB r5.t22]!.bz.toNat]!.au-r5.b0.fF.ah[r5.t20[zB r5.t22]!.bz.toNat]!.aG)+1)) r6.snd).snd with|J=>J|Q r7=>match Xa r7.fst 1 r7.snd with|J=>J|Q r8=>match LO 8 r5.b2 r8.fst with|J=>J|Q r9=>J else J else J else Q (r5.b2,r5.b0)
def c58(b0:cc):aO wR (F58) 300 (aqY) 58 (A58.c ((),())) (B58.d (b0,())) 1 d58.rd=m58 b0:=by kernel_rfl
def e58:aI->aI:=eY wR 58 1 A58 B58 d58 (λg=>m58 g.2.1)
def Lw{F:aI}(h:ak wR F):ak wR (e58 F):=dG (dN amm aCO (λ_=>by kernel_rfl) (λ_=>by kernel_rfl) (λ_=>by kernel_rfl) λg=>c58 g.2.1) ⟨_,func58,by kernel_rfl,by kernel_rfl⟩ (λ_=>by kernel_rfl) h
def F18:aI:=(jr wR (e58 (e49 (e48 cw))) (λf=>zh f 48||zh f 49||zh f 58) 300 10)
def anu:ak wR F18:=⟨gM (ak.ok (Lw (KJ (Ml aQ)))) (ak.nat (P:=wR) (Lw (KJ (Ml aQ)))) 300 10,ga (ak.nat (P:=wR) (Lw (KJ (Ml aQ)))) 300 10⟩
abbrev E18:=bO×Int
def d18:Td 0 E18:= .c [] [2,3] (.r 0 1 (ec 2 (qp 0 0) (ec 3 aL en)) (sb 0 42 (lg 42) sn) (λz=>(z.2.1,z.1.2.1)) (λx=>(((),x.2,()),(x.1,()))))
def A18:=(lc (qg 26) ln)
def awT:An:= .no
def aBH:bx wR (F18) 0 300 18 (awT):=aD (l:=[]) func18 (aq (by kernel_rfl)) (by kernel_rfl) aC
def m18(a0:bB):af E18:=
 match m48 a0 with|J=>J|Q r1=>bif bif Z (r1=0)then V else O then Q ((bO.mk (0) [] (0),r1))else match m49 a0 with|J=>J|Q r2=>bif Z (12<r2.snd.snd)then Q ((bO.mk (0) [] (0),4))else match m58 (cc.mk a0 r2.snd.snd r2.snd.fst r2.fst [])with|J=>J|Q r3=>Q ((r3.fst,0))
def c18(a0:bB):aO wR (F18) 300 (awT) 18 (A18.c (a0,())) [] 0 d18.rd=m18 a0:=by kernel_rfl
def TP:aI->aI:=eZ wR 18 A18 d18 (λg=>m18 g.1)
def apn{F:aI}(h:ak wR F):ak wR (TP F):=gh (bq anu aBH (λ_=>by kernel_rfl) (λ_=>by kernel_rfl) λg=>c18 g.1) ⟨_,func18,by kernel_rfl,by kernel_rfl⟩ (λ_=>by kernel_rfl) h
def F20:aI:=cw
def akm:ak wR F20:=aQ
structure A8 where
 t0:Int
 t5:List Bool
 t6:Int
def IJ:Td 0 A8:= .c [] [0,5,6] (.t (cq.s 5 [] 4) (.c [] [0,5,6] (.r 0 1 (ec 0 aL (ec 5 (qo 0) (ec 6 aL en))) (sr 0 4 sn) (λz=>⟨z.1.1,z.2.1,z.1.t.1⟩) (λx=>((x.t0,(),x.t6,()),(x.t5,()))))))
def Ka(p:A8):af (af A8):=
 bif Z (0<=p.t6)then if 0<=p.t6 then if(p.t5++[Z (mS IntKind.i64 (cF IntKind.i64 p.t0 p.t6) 1=1)]).length<=1073741824 then Q (Q (A8.mk p.t0 (p.t5++[Z (mS IntKind.i64 (cF IntKind.i64 p.t0 p.t6) 1=1)]) (i64.wrap (p.t6-1))))else J else J else Q (J)
def awc(p:A8):bK wR (F20) f20.ntmps 300 (aN f20 0) .no (af A8) (IJ.pat p) (fR IJ.rd)=Ka p:=by kernel_rfl
def OA:=b6 (Ka)
abbrev E20:=aa Bool
def d20:Td 0 E20:= .c [] [4] (.r 0 1 (ec 4 (qo 0) en) (sr 0 4 sn) (λz=>z.2.1) (λx=>(((),()),(x,()))))
def A20:=(aW (aW ln))
def avh:An:=(noTwo (noTwo (.two (noTwo (IJ.lp OA .no)) .no)))
def aDk:bx wR (F20) 0 300 20 (avh):=aD (l:=[(aN f20 0,(IJ.lp OA .no))]) func20 (aq (by kernel_rfl)) (by kernel_rfl) (aA ⟨IJ.ok _,bt (awc)⟩ aC)
def m20(a0:Int)(a1:Int):af E20:=
 match OA (A8.mk a0 [] (i64.wrap (a1-1)))with|J=>J|Q r1=>bif Z (0<=r1.t6)then if 0<=r1.t6 then if(r1.t5++[Z (mS IntKind.i64 (cF IntKind.i64 r1.t0 r1.t6) 1=1)]).length<=1073741824 then J else J else J else Q (r1.t5)
def c20(a0:Int)(a1:Int):aO wR (F20) 300 (avh) 20 (A20.c (a0,a1,())) [] 0 d20.rd=m20 a0 a1:=by kernel_rfl
def e20:=eL wR 20 V A20 d20 (λg=>m20 g.1 g.2.1)
def amt{F:aI}(h:ak wR F):ak wR (e20 F):=bA (sc:=dM) aX (bq akm aDk (λ_=>by kernel_rfl) (λ_=>by kernel_rfl) λg=>c20 g.1 g.2.1) ⟨_,func20,by kernel_rfl,by kernel_rfl⟩ (λ_=>by kernel_rfl) (λ_=>by kernel_rfl) h
def F21:aI:=(e59 cw)
def aoO:ak wR F21:=(Ll aQ)
abbrev E21:=Bool
def d21:Td 0 E21:= .c [] [4] (.r 0 0 (ec 4 qb en) sn (λz=>z.1.1) (λx=>((x,()),(()))))
def A21:=(lc (qg 42) (lc (qg 42) ln))
def atu:An:=(noTwo (.two (.rb [59] 4) .no))
def aAS:∀f∈([59]:aa Nat),aZ (F21) f:=(aA (nc cS) aC)
def aBn:bx wR (F21) 0 300 21 (atu):=aD (l:=[(.skip,(.rb [59] 4))]) func21 (aq (by kernel_rfl)) (by kernel_rfl) (aA aAS aC)
def m21(a0:bO)(a1:bO):af E21:=
 match bif Z (a0.ah=a1.ah)then bif Z (a0.bu=a1.bu)then match m59 a0.az a1.az with|J=>J|Q r1=>Q (r1)else Q (V)else Q (V)with|J=>J|Q r2=>Q (r2)
def c21(a0:bO)(a1:bO):aO wR (F21) 300 (atu) 21 (A21.c (a0,a1,())) [] 0 d21.rd=m21 a0 a1:=by kernel_rfl
def e21:=eL wR 21 V A21 d21 (λg=>m21 g.1 g.2.1)
def al3{F:aI}(h:ak wR F):ak wR (e21 F):=bA (sc:=dM) aX (bq aoO aBn (λ_=>by kernel_rfl) (λ_=>by kernel_rfl) λg=>c21 g.1 g.2.1) ⟨_,func21,by kernel_rfl,by kernel_rfl⟩ (λ_=>by kernel_rfl) (λ_=>by kernel_rfl) h
def acd:aI:=cw
def aeh:ak wR acd:=aQ
structure pM where
 t0:List Int
 (t1 t7 t8:Int)
def Cd:Td 0 pM:= .c [] [0,1,7,8] (.r 0 0 (ec 0 (ql 3) (ec 1 aL (ec 7 aL (ec 8 aL en)))) sn (λz=>⟨z.1.1,z.1.2.1,z.1.t.1,z.1.t.2.1⟩) (λx=>((x.t0,x.t1,x.t7,x.t8,()),(()))))
def vI(p:pM):af (af pM):=
 bif Z (p.t8<p.t7)then if 0<=p.t8/\p.t8<yz p.t0 then bif Z (p.t1=p.t0[zB p.t8]!)then Q (J)else Q (Q (pM.mk p.t0 p.t1 p.t7 (i64.wrap (p.t8+1))))else J else Q (J)
def alx(p:pM):bK wR (acd) f119.ntmps 300 (aN f119 0) .no (af pM) (Cd.pat p) (fR Cd.rd)=vI p:=by kernel_rfl
def Fw:=b6 (vI)
abbrev axJ:=Int
def d119:Td 0 axJ:= .c [] [4] (.r 0 0 (ec 4 aL en) sn (λz=>z.1.1) (λx=>((x,()),(()))))
def avq:=(lc (ql 3) (aW ln))
def ahm:An:=(noTwo (.two (noTwo (Cd.lp Fw .no)) .no))
def avm:bx wR (acd) 0 300 119 (ahm):=aD (l:=[(aN f119 0,(Cd.lp Fw .no))]) func119 (aq (by kernel_rfl)) (by kernel_rfl) (aA ⟨Cd.ok _,bt (alx)⟩ aC)
def Ry(a0:aa Int)(a1:Int):af axJ:=
 match Fw (pM.mk a0 a1 (yz a0) 0)with|J=>J|Q r1=>bif Z (r1.t8<r1.t7)then if 0<=r1.t8/\r1.t8<yz r1.t0 then bif Z (r1.t1=r1.t0[zB r1.t8]!)then Q (r1.t8)else J else J else Q (-1)
def aCd(a0:aa Int)(a1:Int):aO wR (acd) 300 (ahm) 119 (avq.c (a0,a1,())) [] 0 d119.rd=Ry a0 a1:=by kernel_rfl
def ajM:=eL wR 119 V avq d119 (λg=>Ry g.1 g.2.1)
def Pc{F:aI}(h:ak wR F):ak wR (ajM F):=bA (sc:=dM) aX (bq aeh avm (λ_=>by kernel_rfl) (λ_=>by kernel_rfl) λg=>aCd g.1 g.2.1) ⟨_,func119,by kernel_rfl,by kernel_rfl⟩ (λ_=>by kernel_rfl) (λ_=>by kernel_rfl) h
def adb:aI:=cw
def ac9:ak wR adb:=aQ
structure pU where
 t0:List aF
 (t7 t8:Int)
 b0:aF
def vC:Td 0 pU:= .c [] [0,3,7,8] (.r 0 1 (ec 0 (ql 113) (ec 3 (qp 0 0) (ec 7 aL (ec 8 aL en)))) (sb 0 113 (lg 113) sn) (λz=>⟨z.1.1,z.1.t.1,z.1.t.2.1,z.2.1⟩) (λx=>((x.t0,(),x.t7,x.t8,()),(x.b0,()))))
def AT(p:pU):af (af pU):=
 bif Z (p.t8<p.t7)then if 0<=p.t8/\p.t8<yz p.t0 then bif bif Z (p.b0.bz=p.t0[zB p.t8]!.bz)then bif Z (p.b0.aG=p.t0[zB p.t8]!.aG)then bif Z (p.b0.au=p.t0[zB p.t8]!.au)then O else V else V else V then Q (J)else Q (Q (pU.mk p.t0 p.t7 (i64.wrap (p.t8+1)) p.b0))else J else Q (J)
def ak4(p:pU):bK wR (adb) f120.ntmps 300 (aN f120 0) .no (af pU) (vC.pat p) (fR vC.rd)=AT p:=by kernel_rfl
def EC:=b6 (AT)
abbrev atJ:=Int
def d120:Td 0 atJ:= .c [] [4] (.r 0 0 (ec 4 aL en) sn (λz=>z.1.1) (λx=>((x,()),(()))))
def arM:=(lc (ql 113) (lc (qg 113) ln))
def ajp:An:=(noTwo (.two (noTwo (vC.lp EC .no)) .no))
def ayo:bx wR (adb) 0 300 120 (ajp):=aD (l:=[(aN f120 0,(vC.lp EC .no))]) func120 (aq (by kernel_rfl)) (by kernel_rfl) (aA ⟨vC.ok _,bt (ak4)⟩ aC)
def Q8(a0:aa aF)(a1:aF):af atJ:=
 match EC (pU.mk a0 (yz a0) 0 a1)with|J=>J|Q r1=>bif Z (r1.t8<r1.t7)then if 0<=r1.t8/\r1.t8<yz r1.t0 then bif bif Z (r1.b0.bz=r1.t0[zB r1.t8]!.bz)then bif Z (r1.b0.aG=r1.t0[zB r1.t8]!.aG)then bif Z (r1.b0.au=r1.t0[zB r1.t8]!.au)then O else V else V else V then Q (r1.t8)else J else J else Q (-1)
def aAQ(a0:aa aF)(a1:aF):aO wR (adb) 300 (ajp) 120 (arM.c (a0,a1,())) [] 0 d120.rd=Q8 a0 a1:=by kernel_rfl
def al4:=eL wR 120 V arM d120 (λg=>Q8 g.1 g.2.1)
def OU{F:aI}(h:ak wR F):ak wR (al4 F):=bA (sc:=dM) aX (bq ac9 ayo (λ_=>by kernel_rfl) (λ_=>by kernel_rfl) λg=>aAQ g.1 g.2.1) ⟨_,func120,by kernel_rfl,by kernel_rfl⟩ (λ_=>by kernel_rfl) (λ_=>by kernel_rfl) h
abbrev sX:=Int×(aa aF)
def apW:Td 1 sX:= .c [0] [8,9] (.r 1 2 (ec 8 aL (ec 9 (qo 1) en)) (sr 1 113 sn) (λz=>(z.1.1,z.2.1)) (λx=>((x.1,(),()),(x.2,()))))
def alh:=(lc (ql 3) (lc (ql 3) (lc (qo 0) (aW ln))))
def akb:=(sr 0 113 sn)
def ajx(M:(aa Int)->(aa Int)->Int->(aa aF)->af sX):aI->aI:=eY wR 60 1 alh akb apW (λg=>M g.1.1 g.1.2.1 g.1.2.2.2.1 g.2.1)
def aed(M:(aa Int)->(aa Int)->Int->(aa aF)->af sX):Prop:=HY wR 60 1 alh akb apW (λg=>M g.1.1 g.1.2.1 g.1.2.2.2.1 g.2.1)
def OS{M:(aa Int)->(aa Int)->Int->(aa aF)->af sX}(hM:aed M){F:aI}(h:ak wR F):ak wR (ajx M F):=dG hM ⟨_,func60,by kernel_rfl,by kernel_rfl⟩ (λ_=>by kernel_rfl) h
def ako(M60o:(aa Int)->(aa Int)->Int->(aa aF)->af sX):aI:=(al4 (ajM (ajx M60o cw)))
def acB{M60o}(h60o:aed M60o):ak wR (ako M60o):=(OU (Pc (OS h60o aQ)))
def agf(M60o:(aa Int)->(aa Int)->Int->(aa aF)->af sX):An:= .no
def atG(M60o:(aa Int)->(aa Int)->Int->(aa aF)->af sX):bx wR (ako M60o) 1 300 60 (agf M60o):=aD (l:=[]) func60 (aq (by kernel_rfl)) (by kernel_rfl) aC
def PJ(M60o:(aa Int)->(aa Int)->Int->(aa aF)->af sX)(a0:aa Int)(a1:aa Int)(a3:Int)(b0:aa aF):af sX:=
 bif Z ((yz a0:Int)=1)then if(0:Int)<=(0:Int)/\(0:Int)<yz a0 then match Ry a1 a0[0]! with|J=>J|Q r1=>Q (r1,b0)else J else if 0<=i64.wrap ((yz a0:Int).tdiv ((2:Int)))/\i64.wrap ((yz a0:Int).tdiv ((2:Int)))<=yz a0 then match M60o (List.take (i64.wrap ((yz a0:Int).tdiv 2)).toNat a0) a1 (i64.wrap (a3+1)) b0 with|J=>J|Q r2=>if 0<=i64.wrap ((yz a0:Int).tdiv ((2:Int)))/\i64.wrap ((yz a0:Int).tdiv ((2:Int)))<=yz a0 then match M60o (List.drop (i64.wrap ((yz a0:Int).tdiv 2)).toNat a0) a1 (i64.wrap (a3+1)) r2.snd with|J=>J|Q r3=>bif Z (r2.fst=r3.fst)then Q (r2.fst,r3.snd)else match Q8 r3.snd (aF.mk a3 r2.fst r3.fst)with|J=>J|Q r4=>bif Z (0<=r4)then Q ((i64.wrap (yz a1+r4),r3.snd))else if(r3.snd++[aF.mk a3 r2.fst r3.fst]).length<=1073741824 then Q ((i64.wrap ((yz a1:Int)+(yz r3.snd:Int)),r3.snd++[aF.mk a3 r2.fst r3.fst]))else J else J else J
def aCB(M60o:(aa Int)->(aa Int)->Int->(aa aF)->af sX)(a0:aa Int)(a1:aa Int)(a3:Int)(b0:aa aF):aO wR (ako M60o) 300 (agf M60o) 60 (alh.c (a0,a1,(),a3,())) (akb.d (b0,())) 1 apW.rd=PJ M60o a0 a1 a3 b0:=by kernel_rfl
def Ig:Nat->((aa Int)->(aa Int)->Int->(aa aF)->af sX)
 |0=>(λ_ _ _ _=>J)
 |n+1=>(PJ (Ig n))
def Ti(n:Nat):(aa Int)->(aa Int)->Int->(aa aF)->af sX:=(Ig n)
def G5:∀n,aed (Ti n)
 |0=>λ_ _ h=>(by cases h)
 |n+1=>by
  have ih:=G5 n;have i60o:=ih;exact(dN (acB i60o) (atG (Ti n)) (λ_=>by kernel_rfl) (λ_=>by kernel_rfl) (λ_=>by kernel_rfl) λg=>aCB (Ti n) g.1.1 g.1.2.1 g.1.2.2.2.1 g.2.1)
def SJ:(aa Int)->(aa Int)->Int->(aa aF)->af sX:=λa0 a1 a3 b0=>lim (λn=>Ti n a0 a1 a3 b0)
def Zt:aed SJ:=λg b h=>by
 obtain⟨n,hn⟩:=bX (show lim (λn=>Ti n g.1.1 g.1.2.1 g.1.2.2.2.1 g.2.1)=Q b from h);exact(G5 n) g b hn
def apG(F:aI):aI:=ajx SJ F
def Nc{F:aI}(h:ak wR F):ak wR (apG F):=OS Zt h
abbrev sM:=Int×(aa aF)
def alg:Td 0 sM:= .c [] [8,9] (.t (cq.s 9 [] 113) (.c [] [8,9] (.r 0 1 (ec 8 aL (ec 9 (qo 0) en)) (sr 0 113 sn) (λz=>(z.1.1,z.2.1)) (λx=>((x.1,(),()),(x.2,()))))))
def am5:=(lc (ql 3) (lc (ql 3) (lc qn (aW ln))))
def apg(M:(aa Int)->(aa Int)->Int->af sM):aI->aI:=eL wR 60 V am5 alg (λg=>M g.1 g.2.1 g.2.2.2.1)
def Zi(M:(aa Int)->(aa Int)->Int->af sM):Prop:=HL wR 60 am5 alg (λg=>M g.1 g.2.1 g.2.2.2.1)
def N4{M:(aa Int)->(aa Int)->Int->af sM}(hM:Zi M){F:aI}(h:ak wR F):ak wR (apg M F):=bA (sc:=dM) aX hM ⟨_,func60,by kernel_rfl,by kernel_rfl⟩ (λ_=>by kernel_rfl) (λ_=>by kernel_rfl) h
def apO(M60n:(aa Int)->(aa Int)->Int->af sM):aI:=(al4 (ajM (apg M60n (apG cw))))
def abk{M60n}(h60n:Zi M60n):ak wR (apO M60n):=(OU (Pc (N4 h60n (Nc aQ))))
def aiz(M60n:(aa Int)->(aa Int)->Int->af sM):An:= .no
def axf(M60n:(aa Int)->(aa Int)->Int->af sM):bx wR (apO M60n) 0 300 60 (aiz M60n):=aD (l:=[]) func60 (aq (by kernel_rfl)) (by kernel_rfl) aC
def Ql(M60n:(aa Int)->(aa Int)->Int->af sM)(a0:aa Int)(a1:aa Int)(a3:Int):af sM:=
 bif Z ((yz a0:Int)=1)then if(0:Int)<=(0:Int)/\(0:Int)<yz a0 then match Ry a1 a0[0]! with|J=>J|Q r1=>Q (r1,[])else J else if 0<=i64.wrap ((yz a0:Int).tdiv ((2:Int)))/\i64.wrap ((yz a0:Int).tdiv ((2:Int)))<=yz a0 then match M60n (List.take (i64.wrap ((yz a0:Int).tdiv 2)).toNat a0) a1 (i64.wrap (a3+1))with|J=>J|Q r2=>if 0<=i64.wrap ((yz a0:Int).tdiv ((2:Int)))/\i64.wrap ((yz a0:Int).tdiv ((2:Int)))<=yz a0 then match SJ (List.drop (i64.wrap ((yz a0:Int).tdiv 2)).toNat a0) a1 (i64.wrap (a3+1)) r2.snd with|J=>J|Q r3=>bif Z (r2.fst=r3.fst)then Q (r2.fst,r3.snd)else match Q8 r3.snd (aF.mk a3 r2.fst r3.fst)with|J=>J|Q r4=>bif Z (0<=r4)then Q ((i64.wrap (yz a1+r4),r3.snd))else if(r3.snd++[aF.mk a3 r2.fst r3.fst]).length<=1073741824 then Q ((i64.wrap ((yz a1:Int)+(yz r3.snd:Int)),r3.snd++[aF.mk a3 r2.fst r3.fst]))else J else J else J
def aDn(M60n:(aa Int)->(aa Int)->Int->af sM)(a0:aa Int)(a1:aa Int)(a3:Int):aO wR (apO M60n) 300 (aiz M60n) 60 (am5.c (a0,a1,(),a3,())) [] 0 alg.rd=Ql M60n a0 a1 a3:=by kernel_rfl
def G7:Nat->((aa Int)->(aa Int)->Int->af sM)
 |0=>(λ_ _ _=>J)
 |n+1=>(Ql (G7 n))
def Sy(n:Nat):(aa Int)->(aa Int)->Int->af sM:=(G7 n)
def GF:∀n,Zi (Sy n)
 |0=>λ_ _ h=>(by cases h)
 |n+1=>by
  have ih:=GF n;have i60n:=ih;exact(bq (abk i60n) (axf (Sy n)) (λ_=>by kernel_rfl) (λ_=>by kernel_rfl) λg=>aDn (Sy n) g.1 g.2.1 g.2.2.2.1)
def afk:(aa Int)->(aa Int)->Int->af sM:=λa0 a1 a3=>lim (λn=>Sy n a0 a1 a3)
def Z5:Zi afk:=λg b h=>by
 obtain⟨n,hn⟩:=bX (show lim (λn=>Sy n g.1 g.2.1 g.2.2.2.1)=Q b from h);exact(GF n) g b hn
def axl(F:aI):aI:=apg afk F
def adj{F:aI}(h:ak wR F):ak wR (axl F):=N4 Z5 h
def F22:aI:=(apG (axl cw))
def apm:ak wR F22:=(Nc (adj aQ))
structure uo where
 t0:Int
 t5:List Int
 t10:List Bool
 (t11 t12:Int)
 b0:bO
def J3:Td 0 uo:= .c [] [0,4,5,10,11,12] (.t (cq.s 5 [] 3) (.c [] [0,4,5,10,11,12] (.r 0 2 (ec 0 aL (ec 4 (qp 0 0) (ec 5 (qo 1) (ec 10 (ql 4) (ec 11 aL (ec 12 aL en)))))) (sb 0 42 (aW (lc qn (aW ln))) (sr 1 3 sn)) (λz=>⟨z.1.1,z.t.1,z.1.t.2.1,z.1.q.1,z.1.q.2.1,(bO.mk z.2.1.1 [] z.2.1.t.1)⟩) (λx=>((x.t0,(),(),x.t10,x.t11,x.t12,()),((x.b0.ah,(),x.b0.bu,()),x.t5,()))))))
def JI(p:uo):af (af uo):=
 bif Z (p.t12<p.t11)then if 0<=p.t12/\p.t12<yz p.t10 then bif p.t10[zB p.t12]! then if(p.t5++[(1:Int)]).length<=1073741824 then Q (Q (uo.mk p.t0 (p.t5++[1]) p.t10 p.t11 (i64.wrap (p.t12+1)) (bO.mk p.b0.ah [] p.b0.bu)))else J else if(p.t5++[(0:Int)]).length<=1073741824 then Q (Q (uo.mk p.t0 (p.t5++[0]) p.t10 p.t11 (i64.wrap (p.t12+1)) (bO.mk p.b0.ah [] p.b0.bu)))else J else J else Q (J)
def auk(p:uo):bK wR (F22) f22.ntmps 300 (aN f22 0) .no (af uo) (J3.pat p) (fR J3.rd)=JI p:=by kernel_rfl
def OB:=b6 (JI)
abbrev E22:=bO
def d22:Td 0 E22:= .c [] [4] (.r 0 1 (ec 4 (qp 0 0) en) (sb 0 42 (lg 42) sn) (λz=>z.2.1) (λx=>(((),()),(x,()))))
def A22:=(aW (lc (ql 4) ln))
def auc:An:=(noTwo (noTwo (.two (noTwo (J3.lp OB .no)) .no)))
def aAJ:bx wR (F22) 0 300 22 (auc):=aD (l:=[(aN f22 0,(J3.lp OB .no))]) func22 (aq (by kernel_rfl)) (by kernel_rfl) (aA ⟨J3.ok _,bt (auk)⟩ aC)
def m22(a0:Int)(a1:aa Bool):af E22:=
 match OB (uo.mk a0 [] a1 (yz a1) 0 (bO.mk 0 [] (0)))with|J=>J|Q r1=>bif Z (r1.t12<r1.t11)then if 0<=r1.t12/\r1.t12<yz r1.t10 then bif r1.t10[zB r1.t12]! then if(r1.t5++[(1:Int)]).length<=1073741824 then J else J else if(r1.t5++[(0:Int)]).length<=1073741824 then J else J else J else match afk r1.t5 [0,1] (0)with|J=>J|Q r2=>Q (bO.mk r1.t0 r2.snd r2.fst)
def c22(a0:Int)(a1:aa Bool):aO wR (F22) 300 (auc) 22 (A22.c (a0,a1,())) [] 0 d22.rd=m22 a0 a1:=by kernel_rfl
def e22:aI->aI:=eZ wR 22 A22 d22 (λg=>m22 g.1 g.2.1)
def aop{F:aI}(h:ak wR F):ak wR (e22 F):=gh (bq apm aAJ (λ_=>by kernel_rfl) (λ_=>by kernel_rfl) λg=>c22 g.1 g.2.1) ⟨_,func22,by kernel_rfl,by kernel_rfl⟩ (λ_=>by kernel_rfl) h
end Go.Proofs.YtghilkcphindjaaGreat
end
noncomputable section
namespace Go.Proofs.YtghilkcphindjaaGreat
open Go Go.Iv BT
def aei(x y z a c:Int):KM x y z a c=(if x=1 then a else c,a,c):=by
 unfold KM;by_cases h:x=1
 ·rw[iN h,bS h];rfl
 ·rw[dw h,bT h];rfl
def MW(p:Bool):Gk p=if p=true then 1 else 0:=by cases p<;>rfl
def adr(x y z a:Int):PO x y z a=(if x=a then 1 else 0,a):=by
 unfold PO;rw[MW];simp only[decide_eq_true_eq]
def aaM{o:Nat}(hop:∀x y,∃z,iQ o x y=Q z)(x y z:Int):UG x y z o=Q ((iQ o x y).getD 0,o):=by
 obtain⟨r,e⟩:=hop x y;unfold UG;rw[e];rfl
open Classical in
def Vo(d0:aH)(k:Nat)(r0 r1 r2:Int)(m:aa ((Int×Int×Int)×Int))(b:Bd):af (Int×aa ((Int×Int×Int)×Int)×Bd):=match pg k r0 r1 r2 m d0 b.L b.N b.mL b.mN b.w with
 |some (q,m1,e0,L,N,mL,mN,w)=>if e0=d0 then Q (q,m1,⟨L,N,mL,mN,w⟩)else J
 |none=>J
def qO{d0:aH}{k:Nat}{r0 r1 r2:Int}{m:aa ((Int×Int×Int)×Int)}{b:Bd}{q:Int}{m':aa ((Int×Int×Int)×Int)}{b':Bd}:Vo d0 k r0 r1 r2 m b=Q (q,m',b')↔pg k r0 r1 r2 m d0 b.L b.N b.mL b.mN b.w=Q (q,m',d0,b'.L,b'.N,b'.mL,b'.mN,b'.w):=by
 unfold Vo;constructor
 ·intro h;split at h
  ·rename_i hy;split at h
   ·rename_i hb;cases h;rw[hy];simp only[hb]
   ·cases h
  ·cases h
 ·intro h;rw[h];simp
def alp{n:Int}{d0:aH}(hd0:Arg n d0){P:Int->Prop}:WK (boM P) d0.g WG WG n (λx _ _=>x) (Vo d0) where
 hit:=λk r0 r1 r2 m b q h=>by
  rw[qO];show ua (pg k) r0 r1 r2 m d0 b.L b.N b.mL b.mN b.w=_;unfold ua;simp only[h,yA,dh,yl]
 leaf:=λk r0 r1 r2 m b x0 x1 x2 r b' hm g0 g1 g2 hl=>by
  have hl':=mU hl;obtain⟨rfl,u1⟩:=n5 g1;cases u1;obtain⟨rfl,u2⟩:=n5 g2;cases u2;have T0:jt d0 r0=Q n:=gK hd0 g0;obtain⟨a0,c0,v0⟩:=mW g0;rw[qO];show ua (pg k) r0 0 0 m d0 b.L b.N b.mL b.mN b.w=_;unfold ua;simp only[hm,ye,cL,yb,yu,T0,hd0.v,zJ,jP,fO,dh];rw[bS ⟨a0,c0⟩];simp only[v0,ac2];rw[hl']
 node:=λr0 r1 r2 m b t0 t1 t2 v hm g0 g1 g2 hv hn=>by
  obtain⟨rfl,u1⟩:=n5 g1;subst u1;obtain⟨rfl,u2⟩:=n5 g2;subst u2;have T0:=gK hd0 g0;obtain⟨l0,p0,q0⟩:=ij hd0 g0 hn V;obtain⟨k0,s0,z0⟩:=ij hd0 g0 hn O;have hmin:(if t0.top n<n then t0.top n else n)=v:=by
   have e1:∀a c:Int,(if a<c then a else c)=min a c:=λa c=>by split<;>omega
   simp only[e1];rw[hv];simp only[BT.top];omega
  refine⟨l0,0,0,k0,0,0,q0,fm,fm,z0,fm,fm,λk q1 m1 b1 q2 m2 b2 q b3 w1 w2 hq=> ?_⟩;have hq':=vD hq;rw[qO]at w1 w2 ⊢;show ua (pg k) r0 0 0 m d0 b.L b.N b.mL b.mN b.w=_;unfold ua;have hne:Z (v=n)=V:=dw (by omega);simp only[hm,ye,cL,yb,yu,T0,hd0.v,hmin,hne,p0,s0,w1,w2,hq']
open Classical in
def WM(d0:aH)(yes:Int)(no:Int)(k:Nat)(r0 r1 r2:Int)(m:aa ((Int×Int×Int)×Int))(b:Bd):af (Int×aa ((Int×Int×Int)×Int)×Bd):=match o6 k r0 r1 r2 m d0 b.L b.N b.mL b.mN b.w yes no with
 |some (q,m1,e0,L,N,mL,mN,w,y0,y1)=>if e0=d0/\y0=yes/\y1=no then Q (q,m1,⟨L,N,mL,mN,w⟩)else J
 |none=>J
def qZ{d0:aH}{yes:Int}{no:Int}{k:Nat}{r0 r1 r2:Int}{m:aa ((Int×Int×Int)×Int)}{b:Bd}{q:Int}{m':aa ((Int×Int×Int)×Int)}{b':Bd}:WM d0 yes no k r0 r1 r2 m b=Q (q,m',b')↔o6 k r0 r1 r2 m d0 b.L b.N b.mL b.mN b.w yes no=Q (q,m',d0,b'.L,b'.N,b'.mL,b'.mN,b'.w,yes,no):=by
 unfold WM;constructor
 ·intro h;split at h
  ·rename_i hy;split at h
   ·rename_i hb;cases h;rw[hy];simp only[hb]
   ·cases h
  ·cases h
 ·intro h;rw[h];simp
def amd{n:Int}{d0:aH}{yes:Int}{no:Int}(hd0:Arg n d0){P:Int->Prop}:WK (boM P) d0.g WG WG n (λx _ _=>if x=1 then yes else no) (WM d0 yes no) where
 hit:=λk r0 r1 r2 m b q h=>by
  rw[qZ];show um (o6 k) r0 r1 r2 m d0 b.L b.N b.mL b.mN b.w yes no=_;unfold um;simp only[h,yA,dh,yl]
 leaf:=λk r0 r1 r2 m b x0 x1 x2 r b' hm g0 g1 g2 hl=>by
  have hl':=mU hl;obtain⟨rfl,u1⟩:=n5 g1;cases u1;obtain⟨rfl,u2⟩:=n5 g2;cases u2;have T0:jt d0 r0=Q n:=gK hd0 g0;obtain⟨a0,c0,v0⟩:=mW g0;rw[qZ];show um (o6 k) r0 0 0 m d0 b.L b.N b.mL b.mN b.w yes no=_;unfold um;simp only[hm,ye,cL,yb,yu,T0,hd0.v,zJ,jP,fO,dh];rw[bS ⟨a0,c0⟩];simp only[v0,aei];rw[hl']
 node:=λr0 r1 r2 m b t0 t1 t2 v hm g0 g1 g2 hv hn=>by
  obtain⟨rfl,u1⟩:=n5 g1;subst u1;obtain⟨rfl,u2⟩:=n5 g2;subst u2;have T0:=gK hd0 g0;obtain⟨l0,p0,q0⟩:=ij hd0 g0 hn V;obtain⟨k0,s0,z0⟩:=ij hd0 g0 hn O;have hmin:(if t0.top n<n then t0.top n else n)=v:=by
   have e1:∀a c:Int,(if a<c then a else c)=min a c:=λa c=>by split<;>omega
   simp only[e1];rw[hv];simp only[BT.top];omega
  refine⟨l0,0,0,k0,0,0,q0,fm,fm,z0,fm,fm,λk q1 m1 b1 q2 m2 b2 q b3 w1 w2 hq=> ?_⟩;have hq':=vD hq;rw[qZ]at w1 w2 ⊢;show um (o6 k) r0 0 0 m d0 b.L b.N b.mL b.mN b.w yes no=_;unfold um;have hne:Z (v=n)=V:=dw (by omega);simp only[hm,ye,cL,yb,yu,T0,hd0.v,hmin,hne,p0,s0,w1,w2,hq']
open Classical in
def TH(d0:aH)(z:Int)(k:Nat)(r0 r1 r2:Int)(m:aa ((Int×Int×Int)×Int))(b:Bd):af (Int×aa ((Int×Int×Int)×Int)×Bd):=match pI k r0 r1 r2 m d0 b.L b.N b.mL b.mN b.w z with
 |some (q,m1,e0,L,N,mL,mN,w,y0)=>if e0=d0/\y0=z then Q (q,m1,⟨L,N,mL,mN,w⟩)else J
 |none=>J
def qS{d0:aH}{z:Int}{k:Nat}{r0 r1 r2:Int}{m:aa ((Int×Int×Int)×Int)}{b:Bd}{q:Int}{m':aa ((Int×Int×Int)×Int)}{b':Bd}:TH d0 z k r0 r1 r2 m b=Q (q,m',b')↔pI k r0 r1 r2 m d0 b.L b.N b.mL b.mN b.w z=Q (q,m',d0,b'.L,b'.N,b'.mL,b'.mN,b'.w,z):=by
 unfold TH;constructor
 ·intro h;split at h
  ·rename_i hy;split at h
   ·rename_i hb;cases h;rw[hy];simp only[hb]
   ·cases h
  ·cases h
 ·intro h;rw[h];simp
def apN{n:Int}{d0:aH}{z:Int}(hd0:Arg n d0){P:Int->Prop}:WK (boM P) d0.g WG WG n (λx _ _=>if x=z then 1 else 0) (TH d0 z) where
 hit:=λk r0 r1 r2 m b q h=>by
  rw[qS];show ue (pI k) r0 r1 r2 m d0 b.L b.N b.mL b.mN b.w z=_;unfold ue;simp only[h,yA,dh,yl]
 leaf:=λk r0 r1 r2 m b x0 x1 x2 r b' hm g0 g1 g2 hl=>by
  have hl':=mU hl;obtain⟨rfl,u1⟩:=n5 g1;cases u1;obtain⟨rfl,u2⟩:=n5 g2;cases u2;have T0:jt d0 r0=Q n:=gK hd0 g0;obtain⟨a0,c0,v0⟩:=mW g0;rw[qS];show ue (pI k) r0 0 0 m d0 b.L b.N b.mL b.mN b.w z=_;unfold ue;simp only[hm,ye,cL,yb,yu,T0,hd0.v,zJ,jP,fO,dh];rw[bS ⟨a0,c0⟩];simp only[v0,adr];rw[hl']
 node:=λr0 r1 r2 m b t0 t1 t2 v hm g0 g1 g2 hv hn=>by
  obtain⟨rfl,u1⟩:=n5 g1;subst u1;obtain⟨rfl,u2⟩:=n5 g2;subst u2;have T0:=gK hd0 g0;obtain⟨l0,p0,q0⟩:=ij hd0 g0 hn V;obtain⟨k0,s0,z0⟩:=ij hd0 g0 hn O;have hmin:(if t0.top n<n then t0.top n else n)=v:=by
   have e1:∀a c:Int,(if a<c then a else c)=min a c:=λa c=>by split<;>omega
   simp only[e1];rw[hv];simp only[BT.top];omega
  refine⟨l0,0,0,k0,0,0,q0,fm,fm,z0,fm,fm,λk q1 m1 b1 q2 m2 b2 q b3 w1 w2 hq=> ?_⟩;have hq':=vD hq;rw[qS]at w1 w2 ⊢;show ue (pI k) r0 0 0 m d0 b.L b.N b.mL b.mN b.w z=_;unfold ue;have hne:Z (v=n)=V:=dw (by omega);simp only[hm,ye,cL,yb,yu,T0,hd0.v,hmin,hne,p0,s0,w1,w2,hq']
open Classical in
def Yh(d0:aH)(d1:aH)(o:Nat)(k:Nat)(r0 r1 r2:Int)(m:aa ((Int×Int×Int)×Int))(b:Bd):af (Int×aa ((Int×Int×Int)×Int)×Bd):=match pe k r0 r1 r2 m d0 d1 b.L b.N b.mL b.mN b.w o with
 |some (q,m1,e0,e1,L,N,mL,mN,w,y0)=>if e0=d0/\e1=d1/\y0=o then Q (q,m1,⟨L,N,mL,mN,w⟩)else J
 |none=>J
def rB{d0 d1:aH}{o:Nat}{k:Nat}{r0 r1 r2:Int}{m:aa ((Int×Int×Int)×Int)}{b:Bd}{q:Int}{m':aa ((Int×Int×Int)×Int)}{b':Bd}:Yh d0 d1 o k r0 r1 r2 m b=Q (q,m',b')↔pe k r0 r1 r2 m d0 d1 b.L b.N b.mL b.mN b.w o=Q (q,m',d0,d1,b'.L,b'.N,b'.mL,b'.mN,b'.w,o):=by
 unfold Yh;constructor
 ·intro h;split at h
  ·rename_i hy;split at h
   ·rename_i hb;cases h;rw[hy];simp only[hb]
   ·cases h
  ·cases h
 ·intro h;rw[h];simp
def ajL{n:Int}{d0 d1:aH}{o:Nat}(hd0:Arg n d0)(hd1:Arg n d1){P:Int->Prop}(hop:∀x y,∃z,iQ o x y=Q z):WK (boM P) d0.g d1.g WG n (λx y _=>(iQ o x y).getD 0) (Yh d0 d1 o) where
 hit:=λk r0 r1 r2 m b q h=>by
  rw[rB];show tH (pe k) r0 r1 r2 m d0 d1 b.L b.N b.mL b.mN b.w o=_;unfold tH;simp only[h,yA,dh,yl]
 leaf:=λk r0 r1 r2 m b x0 x1 x2 r b' hm g0 g1 g2 hl=>by
  have hl':=mU hl;obtain⟨rfl,u2⟩:=n5 g2;cases u2;have T0:jt d0 r0=Q n:=gK hd0 g0;obtain⟨a0,c0,v0⟩:=mW g0;have T1:jt d1 r1=Q n:=gK hd1 g1;obtain⟨a1,c1,v1⟩:=mW g1;rw[rB];show tH (pe k) r0 r1 0 m d0 d1 b.L b.N b.mL b.mN b.w o=_;unfold tH;simp only[hm,ye,cL,yb,yu,T0,hd0.v,T1,hd1.v,zJ,jP,fO,dh];rw[bS ⟨a0,c0⟩];rw[bS ⟨a1,c1⟩];simp only[v0,v1,aaM hop];rw[hl']
 node:=λr0 r1 r2 m b t0 t1 t2 v hm g0 g1 g2 hv hn=>by
  obtain⟨rfl,u2⟩:=n5 g2;subst u2;have T0:=gK hd0 g0;obtain⟨l0,p0,q0⟩:=ij hd0 g0 hn V;obtain⟨k0,s0,z0⟩:=ij hd0 g0 hn O;have T1:=gK hd1 g1;obtain⟨l1,p1,q1⟩:=ij hd1 g1 hn V;obtain⟨k1,s1,z1⟩:=ij hd1 g1 hn O;have hmin:(if t1.top n<(if t0.top n<n then t0.top n else n)then t1.top n else(if t0.top n<n then t0.top n else n))=v:=by
   have e1:∀a c:Int,(if a<c then a else c)=min a c:=λa c=>by split<;>omega
   simp only[e1];rw[hv];simp only[BT.top];omega
  refine⟨l0,l1,0,k0,k1,0,q0,q1,fm,z0,z1,fm,λk q1 m1 b1 q2 m2 b2 q b3 w1 w2 hq=> ?_⟩;have hq':=vD hq;rw[rB]at w1 w2 ⊢;show tH (pe k) r0 r1 0 m d0 d1 b.L b.N b.mL b.mN b.w o=_;unfold tH;have hne:Z (v=n)=V:=dw (by omega);simp only[hm,ye,cL,yb,yu,T0,hd0.v,T1,hd1.v,hmin,hne,p0,s0,p1,s1,w1,w2,hq']
def Xd{α:Type}[DecidableEq α]:∀{l m:aa α},l.Nodup->(∀x∈l,x∈m)->yz l<=yz m
 |[],m,_,_=>yy _
 |x::l,m,hn,h=>by
  have hx:x∈m:=h x zq;have h1:=xT.1 hn;have:=Xd (l:=l) (m:=m.erase x) h1.2 λy hy=>(List.mem_erase_of_ne (λe=>h1.1 (by rw[<-e];exact hy))).2 (h y (zH _ hy));rw[List.length_erase_of_mem hx]at this;have:=List.length_pos_of_mem hx;simp only[yo];omega
def Asc.nd{l:aa Int}(h:Asc l):l.Nodup:=by
 rw[we];exact h.imp λh=>by omega
def dV{n:Int}{t:BT}(ho:Ord n 0 t)(hn:n<=12):yz (bE (bf t []))<=4095/\yz (iZ (bf t []))<=4096/\yz (bf t [])<=8191:=by
 obtain⟨h1,h2,h3⟩:=Fp (l:=[]) (d:=12) ho (by omega);simp only[bE,iZ]at*;simp at h1 h2 h3;omega
def iS.den{n:Int}{t:BT}{d:aH}(h:iS n t d):Den d.g d.bu t:=by
 have:=gB (L:=d.aR) (l:=bf t []) (dR t kX) (λx hx=>(h.mem x).2 hx) (bY t []);unfold aH.g;rw[h.nodes,h.root];exact this
def iS.lens{n:Int}{t:BT}{d:aH}(h:iS n t d):yz d.aR<=yz (iZ (bf t []))/\yz d.az=yz (bE (bf t [])):=by
 constructor
 ·have:=Xd (l:=d.aR) (m:=(iZ (bf t [])).map lv) h.asc.nd λx hx=>zy.2 ⟨.leaf x,DZ.2 ⟨(h.mem x).1 hx,rfl⟩,rfl⟩;simpa using this
 ·rw[h.nodes,fK]
def iS.arg{n:Int}{t:BT}{d:aH}(h:iS n t d)(ho:Ord n 0 t)(hn:n<=12):Arg n d:=by
 have h1:=h.lens;have h2:=dV ho hn;exact⟨h.v,by omega⟩
def Es{n:Int}{f:Int->Int->Int->Int}{d:Nat}{a b c t:BT}(h:AP n f d a b c t):∀{v:Int},Ord n v a->Ord n v b->Ord n v c->v<=n->Ord n v t:=by
 have hcof:∀{v w:Int} {u:BT} {hi:Bool},Ord n w u->v<=u.top n->v<n->Ord n (v+1) (u.pV v hi):=λ{v w u hi} ho hv hn=>by
  cases u with
  |leaf x=>trivial
  |node x p q=>
   obtain⟨h1,h2,h3,h4,h5⟩:=ho;simp only[pV];simp only[top]at hv;by_cases e:x=v
   ·subst e;rw[bS rfl];cases hi
    ·exact h4
    ·exact h5
   ·rw[bT e];exact⟨by omega,h2,h3,h4,h5⟩
 induction h with
 |leaf x y z=>intro v _ _ _ _;trivial
 |node w hw hn h0 h1 i0 i1=>
  intro v ha hb hc hv;have g1:=sB ha hv;have g2:=sB hb hv;have g3:=sB hc hv;refine(Ta hn (i0 (hcof ha (by omega) hn) (hcof hb (by omega) hn) (hcof hc (by omega) hn) (by omega)) (i1 (hcof ha (by omega) hn) (hcof hb (by omega) hn) (hcof hc (by omega) hn) (by omega))).le (by omega)
abbrev kE(x:Int):Prop:=jK x=O
def DC{x:Int}(h:kE x):jK x=O/\ -1099511627776<=x/\x<=1099511627776:=by
 refine⟨h,?_⟩;unfold kE jK at h;revert h;by_cases h1: -1099511627776<=x
 ·by_cases h2:x<=1099511627776
  ·exact λ_=>⟨h1,h2⟩
  ·simp[h1,h2]
 ·simp[h1]
def Lp{x:Int}(h1: -1099511627776<=x)(h2:x<=1099511627776):kE x:=by
 unfold kE jK;simp[h1,h2]
def qA{P:Int->Prop}{G0 G1 G2:Gr}{n:Int}{f:Int->Int->Int->Int}{W:Nat->Int->Int->Int->aa ((Int×Int×Int)×Int)->Bd->af (Int×aa ((Int×Int×Int)×Int)×Bd)}(hW:WK (boM P) G0 G1 G2 n f W){t0 t1 t2 t:BT}(hA:AP n f 12 t0 t1 t2 t){r0 r1 r2:Int}(h0:Den G0 r0 t0)(h1:Den G1 r1 t1)(h2:Den G2 r2 t2)(hP:t.jy P):∃q m' b',(∀k,12<k->W k r0 r1 r2 [] ⟨[],[],[],[],V⟩=Q (q,m',b'))/\BI P b'/\Den b'.g q t/\yz b'.L+yz b'.N<=10000:=by
 obtain⟨q,m',b',w,hI,_,_,hd,hs⟩:=NV hW hA r0 r1 r2 [] ⟨[],[],[],[],false⟩ h0 h1 h2 (SU P) (λr0 r1 r2 q h=>by rw[jo]at h;cases h) (show 0+2^(12+1)<=1000000000 by decide) hP;exact⟨q,m',b',w,hI,hd,by have:yz b'.L+yz b'.N+1<=0+2^(12+1):=hs;omega⟩
def ali{n:Int}{t:BT}{d:aH}(hn:n<=12)(hd:Arg n d)(h:Den d.g d.bu t)(ho:Ord n 0 t)(hP:t.jy kE):∃d',IX d=Q (d',0)/\iS n t d':=by
 obtain⟨q,m',b',w,hI,hb,hs⟩:=qA (alp hd (P:=kE)) (W1 (λx _ _=>x) (λx=>rfl) (d:=12) ho (by omega)) h fm fm hP;have e:NG d.bu 0 0 [] d [] [] [] [] V=Q (q,m',d,b'.L,b'.N,b'.mL,b'.mN,b'.w):=dg 13 λk hk=>qO.1 (w k (by omega));obtain⟨s1,s2,_⟩:=dV ho hn;obtain⟨d',e2,hc⟩:=nE (n:=n) (λx hx=>DC hx) hI (by omega) hb (by omega) (by omega);refine⟨d',?_,hc⟩;unfold IX;simp only[yb];rw[show gx=([],[],[],[],V)from rfl,e];simp only[hd.v];rw[e2]
def anw{n:Int}{t t':BT}{d:aH}{yes no:Int}(hn:n<=12)(hd:Arg n d)(h:Den d.g d.bu t)(hA:AP n (λx _ _=>if x=1 then yes else no) 12 t (.leaf 0) (.leaf 0) t')(ho:Ord n 0 t')(hP:t'.jy kE):∃d',Hs d yes no=Q (d',0,yes,no)/\iS n t' d':=by
 obtain⟨q,m',b',w,hI,hb,hs⟩:=qA (amd (yes:=yes) (no:=no) hd (P:=kE)) hA h fm fm hP;have e:NR d.bu 0 0 [] d [] [] [] [] V yes no=Q (q,m',d,b'.L,b'.N,b'.mL,b'.mN,b'.w,yes,no):=dg 13 λk hk=>qZ.1 (w k (by omega));obtain⟨s1,s2,_⟩:=dV ho hn;obtain⟨d',e2,hc⟩:=nE (n:=n) (λx hx=>DC hx) hI (by omega) hb (by omega) (by omega);refine⟨d',?_,hc⟩;unfold Hs;simp only[yb];rw[show gx=([],[],[],[],V)from rfl,e];simp only[hd.v];rw[e2]
def alf{n:Int}{t t' t2:BT}{d d2:aH}{o:Nat}(hn:n<=12)(hd:Arg n d)(hd2:Arg n d2)(h:Den d.g d.bu t)(h2:Den d2.g d2.bu t2)(hop:∀x y,∃z,iQ o x y=Q z)(hA:AP n (λx y _=>(iQ o x y).getD 0) 12 t t2 (.leaf 0) t')(ho:Ord n 0 t')(hP:t'.jy kE):∃d',Km d d2 o=Q (d',0,o)/\iS n t' d':=by
 obtain⟨q,m',b',w,hI,hb,hs⟩:=qA (ajL hd hd2 hop (P:=kE)) hA h h2 fm hP;have e:OG d.bu d2.bu 0 [] d d2 [] [] [] [] V o=Q (q,m',d,d2,b'.L,b'.N,b'.mL,b'.mN,b'.w,o):=dg 13 λk hk=>rB.1 (w k (by omega));obtain⟨s1,s2,_⟩:=dV ho hn;obtain⟨d',e2,hc⟩:=nE (n:=n) (λx hx=>DC hx) hI (by omega) hb (by omega) (by omega);refine⟨d',?_,hc⟩;unfold Km;simp only[yb,yu];rw[show gx=([],[],[],[],V)from rfl,e];simp only[hd.v];rw[e2]
abbrev gG:aa Int:=[0,1]
abbrev zo(x:Int):Prop:=x=0\/x=1
structure Bb where
 N:List aF
 m:List ((Int×Int×Int)×Int)
def Bb.g(b:Bb):Gr:=Gm gG b.N
def fJ{N:aa aF}{r x:Int}:Gm gG N r=Q (.inl x)↔zo x/\r=x:=by
 constructor
 ·intro h;obtain⟨h1,h2,h3⟩:=D8 h;simp at h2;have:r=0\/r=1:=by omega
  rcases this with rfl|rfl
  ·exact⟨.inl h3.symm,h3⟩
  ·exact⟨.inr h3.symm,h3⟩
 ·rintro⟨h|h,rfl⟩<;>subst h<;>rfl
def dI{N:aa aF}{r v p q:Int}:Gm gG N r=Q (.inr (v,p,q))↔∃k:Nat,r=2+(k:Int)/\N[k]? =Q ⟨v,p,q⟩:=by
 constructor
 ·intro h;obtain⟨h1,h2,h3⟩:=Ea h;simp at h1 h2 h3;refine⟨(r-2).toNat,by omega,?_⟩;rw[zm (by omega:(r-2).toNat<yz N),<-getElem!_pos N _ (by omega)];simp[h3]
 ·rintro⟨k,rfl,h⟩;obtain⟨h1,h2⟩:=get_some h;have:=NX (L:=gG) h1;rw[h2]at this;rw[<-this]
  congr 1
structure BIb (b:Bb):Prop where
 n:∀v p q i,dA b.m (v,p,q)=Q i↔∃k:Nat,i=2+(k:Int)/\b.N[k]? =Q ⟨v,p,q⟩
def BIb.inj{b:Bb}(h:BIb b):b.g.Inj:=by
 intro r r' x h1 h2;cases x with
 |inl x=>rw[(fJ.1 h1).2,(fJ.1 h2).2]
 |inr x=>
  obtain⟨v,p,q⟩:=x;have a:=(h.n v p q r).2 (dI.1 h1);rw[(h.n v p q r').2 (dI.1 h2)]at a;exact(zG.inj a).symm
def J2{N:aa aF}(hn:N.Nodup):(Gm gG N).Inj:=by
 intro r r' x h1 h2;cases x with
 |inl x=>rw[(fJ.1 h1).2,(fJ.1 h2).2]
 |inr x=>
  obtain⟨v,p,q⟩:=x;obtain⟨k,rfl,e⟩:=dI.1 h1;obtain⟨k',rfl,e'⟩:=dI.1 h2;obtain⟨g1,g2⟩:=get_some e;obtain⟨g3,g4⟩:=get_some e';have:=nd_get! hn g1 g3 (by rw[g2,g4]);omega
def Bb.nd(v p q:Int)(b:Bb):af (Int×Bb):=(LI v p q b.N b.m).map λr=>(r.1,⟨r.2.1,r.2.2⟩)
def Jr{v p q r:Int}{b b':Bb}(h:b.nd v p q=Q (r,b')):LI v p q b.N b.m=Q (r,b'.N,b'.m):=by
 unfold Bb.nd at h;obtain⟨y,h1,h2⟩:=zk.1 h;obtain⟨y1,y2,y3⟩:=y;cases h2;exact h1
def Bb.jY(v p q:Int)(s t:BT)(b:Bb)(hb:BIb b)(hs:yz b.N<1000000000)(hp:Den b.g p s)(hq:Den b.g q t):∃r b',b.nd v p q=Q (r,b')/\BIb b'/\b.g.Le b'.g/\Den b'.g r (jN v s t)/\yz b'.N<=yz b.N+1:=by
 unfold Bb.nd LI;by_cases hpq:p=q
 ·have:s=t:=by subst hpq;exact hp.ur hq
  rw[iN hpq];exact⟨p,b,rfl,hb, .refl,by rw[show jN v s t=s by simp[jN,this]];exact hp,yd _⟩
 ·have hst:s≠t:=λh=>hpq (by subst h;exact hp.inj hb.inj hq);have hm:jN v s t= .node v s t:=by simp[jN,hst]
  rw[dw hpq,hm];simp only[cL];cases e:dA b.m (v,p,q)with
  |some i=>
   simp only[yA,dh,yl,zX];exact⟨_,_,rfl,hb, .refl, .node (dI.2 ((hb.n v p q i).1 e)) hp hq,yd _⟩
  |none=>
   simp only[ye,cL];have hw:IntKind.i64.wrap (IntKind.i64.wrap (2+(yz (b.N++[aF.mk v p q]):Int))-1)=2+(yz b.N:Int):=by
    have:(yz (b.N++[aF.mk v p q]):Int)=(yz b.N:Int)+1:=by simp
    rw[this,aJ (n:=2+((yz b.N:Int)+1)) (by omega) (by omega),aJ (by omega) (by omega)];omega
   rw[bS (by simp;omega),hw,dD,bS rfl];simp only[yl,zX];have hle:b.g.Le (Bb.mk (b.N++[⟨v,p,q⟩]) (fQ b.m (v,p,q) (2+(yz b.N:Int)))).g:=by
    intro r x h;cases x with
    |inl x=>exact fJ.2 (fJ.1 h)
    |inr x=>
     obtain⟨v',p',q'⟩:=x;obtain⟨k,e,h1⟩:=dI.1 h;exact dI.2 ⟨k,e,dF.2 (.inl h1)⟩
   refine⟨_,_,rfl,⟨?_⟩,hle, .node (dI.2 ⟨_,rfl,dF.2 (.inr ⟨rfl,rfl⟩)⟩) (hp.mono hle) (hq.mono hle),by simp⟩;intro v' p' q' i;rw[dD];by_cases hy:(v',p',q')=(v,p,q)
   ·cases hy;rw[bS rfl];constructor
    ·intro h;cases h;exact⟨_,rfl,dF.2 (.inr ⟨rfl,rfl⟩)⟩
    ·rintro⟨k,rfl,h⟩;rcases dF.1 h with h|⟨h,_⟩
     ·have:=(hb.n v p q _).2 ⟨k,rfl,h⟩;rw[e]at this;cases this
     ·rw[h]
   ·rw[bT hy,hb.n];constructor
    ·rintro⟨k,h1,h2⟩;exact⟨k,h1,dF.2 (.inl h2)⟩
    ·rintro⟨k,h1,h2⟩;rcases dF.1 h2 with h|⟨_,h⟩
     ·exact⟨k,h1,h⟩
     ·cases h;exact gI rfl hy
def boB:BO Bb zo where
 I:=BIb
 g:=Bb.g
 s:=λb=>yz b.N
 lf:=λx b=>Q (x,b)
 nd:=λv p q b=>b.nd v p q
 ou:=λx b hx hb _=>⟨x,b,rfl,hb, .refl, .leaf (fJ.2 ⟨hx,rfl⟩),yd _⟩
 jY:=λv p q s t b hb hs hp hq=>Bb.jY v p q s t b hb hs hp hq
def adk:BIb ⟨[],[]⟩:=⟨λv p q i=>by simp[jo]⟩
structure Md (n:Int) (d:bO):Prop where
 v:d.ah=n
 s:yz d.az<=1000000000
abbrev bO.g(d:bO):Gr:=Gm gG d.az
def uC{n:Int}{d:bO}(hd:Md n d){r:Int}{u:BT}(h:Den d.g r u):lE d r=Q (u.top n):=by
 have hs:=hd.s;unfold lE;cases h with
 |@leaf _ x h=>
  obtain⟨h1,rfl⟩:=fJ.1 h;have e:Z (r<2)=true:=iN (by rcases h1 with h|h<;>omega);rw[e,hd.v];rfl
 |node h ha hb=>
  obtain⟨k,rfl,hk⟩:=dI.1 h;obtain⟨h1,h2⟩:=get_some hk;have e:Z (2+(k:Int)<2)=V:=dw (by omega);rw[e,aJ (by omega) (by omega),show 2+(k:Int)-2=(k:Int)by omega];simp only[cL];rw[bS (by omega),zi,h2];rfl
def tP{n:Int}{d:bO}(hd:Md n d){r:Int}{u:BT}(h:Den d.g r u){v:Int}(hv:v<n)(hi:Bool):∃r',td d r v hi=Q r'/\Den d.g r' (u.pV v hi):=by
 have hs:=hd.s;cases h with
 |@leaf _ x h=>
  have ht:lE d r=Q n:=uC hd (.leaf h);unfold td;rw[ht];refine⟨r,?_, .leaf h⟩;have e:Z (n=v)=V:=dw (by omega);simp only;rw[e];rfl
 |@node _ w p q s t h ha hb=>
  have ht:lE d r=Q w:=uC hd (.node h ha hb);unfold td;rw[ht];simp only[pV];obtain⟨k,rfl,hk⟩:=dI.1 h;obtain⟨h1,h2⟩:=get_some hk;by_cases e:w=v
  ·rw[iN e,bS e,aJ (by omega) (by omega),show 2+(k:Int)-2=(k:Int)by omega];simp only[dh,cL];rw[zi,h2];have hr:(0:Int)<=(k:Int)/\(k:Int)<(yz d.az:Int):=by omega
   cases hi
   ·exact⟨p,by simp only[cL,bS hr],ha⟩
   ·exact⟨q,by simp only[dh,bS hr],hb⟩
  ·rw[dw e,bT e];exact⟨2+(k:Int),rfl, .node h ha hb⟩
def N3{d:bO}{r x:Int}(h:Den d.g r (.leaf x)):zo x/\r=x:=by
 cases h with
 |leaf h=>exact fJ.1 h
def Pg(o x y:Int):Int:=if(rN (Z (x=1)) (Z (y=1)) V o).1 then 1 else 0
def amS(o x y:Int):zo (Pg o x y):=by
 unfold Pg;split
 ·exact .inr rfl
 ·exact .inl rfl
open Classical in
def WA(n:Int)(d0 d1:bO)(o:Int)(k:Nat)(r0 r1 r2:Int)(m:aa ((Int×Int×Int)×Int))(b:Bb):af (Int×aa ((Int×Int×Int)×Int)×Bb):=match pT k r0 r1 r2 m n d0 d1 o b.N b.m with
 |some (q,m1,y,e0,e1,y0,N,mN)=>if y=n/\e0=d0/\e1=d1/\y0=o then Q (q,m1,⟨N,mN⟩)else J
 |none=>J
def OW{n:Int}{d0 d1:bO}{o:Int}{k:Nat}{r0 r1 r2:Int}{m:aa ((Int×Int×Int)×Int)}{b:Bb}{q:Int}{m':aa ((Int×Int×Int)×Int)}{b':Bb}:WA n d0 d1 o k r0 r1 r2 m b=Q (q,m',b')↔pT k r0 r1 r2 m n d0 d1 o b.N b.m=Q (q,m',n,d0,d1,o,b'.N,b'.m):=by
 unfold WA;constructor
 ·intro h;split at h
  ·rename_i hy;split at h
   ·rename_i hb;cases h;rw[hy];simp only[hb]
   ·cases h
  ·cases h
 ·intro h;rw[h];simp
open Classical in
def WAn(n:Int)(d0 d1:bO)(o:Int)(k:Nat)(r0 r1 r2:Int)(m:aa ((Int×Int×Int)×Int))(b:Bb):af (Int×aa ((Int×Int×Int)×Int)×Bb):=match lH k r0 r1 r2 m n d0 d1 o b.m with
 |some (q,m1,y,e0,e1,y0,N,mN)=>if y=n/\e0=d0/\e1=d1/\y0=o then Q (q,m1,⟨N,mN⟩)else J
 |none=>J
def EG{n:Int}{d0 d1:bO}{o:Int}{k:Nat}{r0 r1 r2:Int}{m:aa ((Int×Int×Int)×Int)}{b:Bb}{q:Int}{m':aa ((Int×Int×Int)×Int)}{b':Bb}:WAn n d0 d1 o k r0 r1 r2 m b=Q (q,m',b')↔lH k r0 r1 r2 m n d0 d1 o b.m=Q (q,m',n,d0,d1,o,b'.N,b'.m):=by
 unfold WAn;constructor
 ·intro h;split at h
  ·rename_i hy;split at h
   ·rename_i hb;cases h;rw[hy];simp only[hb]
   ·cases h
  ·cases h
 ·intro h;rw[h];simp
open Classical in
def RA(n:Int)(d0 d1:bO)(o:Int)(r0 r1 r2:Int)(m:aa ((Int×Int×Int)×Int))(b:Bb):af (Int×aa ((Int×Int×Int)×Int)×Bb):=match He r0 r1 r2 m n d0 d1 o b.N b.m with
 |some (q,m1,y,e0,e1,y0,N,mN)=>if y=n/\e0=d0/\e1=d1/\y0=o then Q (q,m1,⟨N,mN⟩)else J
 |none=>J
def aiA{n:Int}{d0 d1:bO}{o:Int}{r0 r1 r2:Int}{m:aa ((Int×Int×Int)×Int)}{b:Bb}{q:Int}{m':aa ((Int×Int×Int)×Int)}{b':Bb}:RA n d0 d1 o r0 r1 r2 m b=Q (q,m',b')↔He r0 r1 r2 m n d0 d1 o b.N b.m=Q (q,m',n,d0,d1,o,b'.N,b'.m):=by
 unfold RA;constructor
 ·intro h;split at h
  ·rename_i hy;split at h
   ·rename_i hb;cases h;rw[hy];simp only[hb]
   ·cases h
  ·cases h
 ·intro h;rw[h];simp
def TL(a c:Bool)(o:Int):(rN a c false o).2=o:=by cases a<;>cases c<;>rfl
def min2{a c n v:Int}(hv:v=min a (min c n)):(if c<if a<n then a else n then c else if a<n then a else n)=v:=by
 have e1:∀a c:Int,(if a<c then a else c)=min a c:=λa c=>by split<;>omega
 simp only[e1];rw[hv];omega
def W8{α:Type}(o x y:Int)(g:Int->α):(bif(rN (Z (x=1)) (Z (y=1)) V o).1 then g 1 else g 0)=g (Pg o x y):=by
 unfold Pg;cases (rN (Z (x=1)) (Z (y=1)) false o).1<;>rfl
def wkA{n:Int}{d0 d1:bO}{o:Int}(hd0:Md n d0)(hd1:Md n d1):WK boB d0.g d1.g WG n (λx y _=>Pg o x y) (WA n d0 d1 o) where
 hit:=λk r0 r1 r2 m b q h=>by
  rw[OW];show uq (pT k) r0 r1 r2 m n d0 d1 o b.N b.m=_;unfold uq;simp only[h,yA,dh,yl]
 leaf:=λk r0 r1 r2 m b x0 x1 x2 r b' hm g0 g1 g2 hl=>by
  have T0:lE d0 r0=Q n:=uC hd0 g0;have T1:lE d1 r1=Q n:=uC hd1 g1;obtain⟨_,e0⟩:=N3 g0;obtain⟨_,e1⟩:=N3 g1;have hl':Q (Pg o x0 x1,b)=Q (r,b'):=hl;cases hl';rw[OW];show uq (pT k) r0 r1 r2 m n d0 d1 o b.N b.m=_;unfold uq;simp only[hm,ye,cL,yb,yu,T0,T1,zJ,jP,fO,dh,TL];rw[e0,e1];exact W8 o x0 x1 λz=>Q (z,fQ m (x0,x1,r2) z,n,d0,d1,o,b.N,b.m)
 node:=λr0 r1 r2 m b t0 t1 t2 v hm g0 g1 g2 hv hn=>by
  obtain⟨rfl,u2⟩:=n5 g2;subst u2;have T0:=uC hd0 g0;obtain⟨l0,p0,q0⟩:=tP hd0 g0 hn V;obtain⟨k0,s0,z0⟩:=tP hd0 g0 hn O;have T1:=uC hd1 g1;obtain⟨l1,p1,q1⟩:=tP hd1 g1 hn V;obtain⟨k1,s1,z1⟩:=tP hd1 g1 hn O;have hmin:=min2 (n:=n) (a:=t0.top n) (c:=t1.top n) (v:=v) hv;refine⟨l0,l1,0,k0,k1,0,q0,q1,fm,z0,z1,fm,λk q1 m1 b1 q2 m2 b2 q b3 w1 w2 hq=> ?_⟩;have hq':=Jr hq;rw[OW]at w1 w2 ⊢;show uq (pT k) r0 r1 0 m n d0 d1 o b.N b.m=_;unfold uq;have hne:Z (v=n)=V:=dw (by omega);simp only[hm,ye,cL,yb,yu,T0,T1,hmin,hne,p0,s0,p1,s1,w1,w2,hq']
def aB4{n:Int}{d0 d1:bO}{o:Int}(hd0:Md n d0)(hd1:Md n d1):WKn boB (λb=>b.N=[]) d0.g d1.g WG n (λx y _=>Pg o x y) (RA n d0 d1 o) (WAn n d0 d1 o) where
 hit:=λk r0 r1 r2 m b q hz h=>by
  rw[EG];show nj (lH k) r0 r1 r2 m n d0 d1 o b.m=_;unfold nj;simp only[h,yA,dh,yl,hz]
 leaf:=λk r0 r1 r2 m b x0 x1 x2 r b' hz hm g0 g1 g2 _ hl=>by
  have T0:lE d0 r0=Q n:=uC hd0 g0;have T1:lE d1 r1=Q n:=uC hd1 g1;obtain⟨_,e0⟩:=N3 g0;obtain⟨_,e1⟩:=N3 g1;have hl':Q (Pg o x0 x1,b)=Q (r,b'):=hl;cases hl';rw[EG];show nj (lH k) r0 r1 r2 m n d0 d1 o b.m=_;unfold nj;simp only[hm,ye,cL,yb,yu,T0,T1,zJ,jP,fO,dh,TL];rw[e0,e1,hz];exact W8 o x0 x1 λz=>Q (z,fQ m (x0,x1,r2) z,n,d0,d1,o,[],b.m)
 node:=λr0 r1 r2 m b t0 t1 t2 v hz hm g0 g1 g2 hv hn=>by
  obtain⟨rfl,u2⟩:=n5 g2;subst u2;have T0:=uC hd0 g0;obtain⟨l0,p0,q0⟩:=tP hd0 g0 hn V;obtain⟨k0,s0,z0⟩:=tP hd0 g0 hn O;have T1:=uC hd1 g1;obtain⟨l1,p1,q1⟩:=tP hd1 g1 hn V;obtain⟨k1,s1,z1⟩:=tP hd1 g1 hn O;have hmin:=min2 (n:=n) (a:=t0.top n) (c:=t1.top n) (v:=v) hv;refine⟨l0,l1,0,k0,k1,0,q0,q1,fm,z0,z1,fm,λk q1 m1 b1 q2 m2 b2 q b3 w1 w2 hq=> ?_⟩;have hq':=Jr hq;rw[EG]at w1 ⊢;rw[aiA]at w2;show nj (lH k) r0 r1 0 m n d0 d1 o b.m=_;unfold nj;have hne:Z (v=n)=V:=dw (by omega);simp only[hm,ye,cL,yb,yu,T0,T1,hmin,hne,p0,s0,p1,s1,w1,w2,hq']
def avP{n:Int}{d0 d1:bO}{o:Int}(N:Nat)(r0 r1 r2:Int)(m:aa ((Int×Int×Int)×Int))(b:Bb)(x:Int×aa ((Int×Int×Int)×Int)×Bb)(h:∀k,N<k->WA n d0 d1 o k r0 r1 r2 m b=Q x):RA n d0 d1 o r0 r1 r2 m b=Q x:=by
 obtain⟨q,m',b'⟩:=x;rw[aiA];exact dg (N+1) λk hk=>OW.1 (h k (by omega))
open Classical in
def ak5(ns:aa aF)(v0 rt:Int)(k:Nat)(r:Int)(S:aa (Int×Int))(M:aa aF):af (Int×aa (Int×Int)×aa aF):=match C2 k r S ns v0 M rt with
 |some (q,S1,ns1,d)=>if ns1=ns/\d.ah=v0/\d.bu=rt then Q (q,S1,d.az)else J
 |none=>J
def E5{ns:aa aF}{v0 rt:Int}{k:Nat}{r:Int}{S:aa (Int×Int)}{M:aa aF}{q:Int}{S':aa (Int×Int)}{M':aa aF}:ak5 ns v0 rt k r S M=Q (q,S',M')↔C2 k r S ns v0 M rt=Q (q,S',ns,⟨v0,M',rt⟩):=by
 unfold ak5;constructor
 ·intro h;split at h
  ·rename_i ns1 d hy;split at h
   ·rename_i hb;obtain⟨rfl,rfl,rfl⟩:=hb;cases h;rw[hy]
   ·cases h
  ·cases h
 ·intro h;rw[h];simp
open Classical in
def adt(ns:aa aF)(v0 rt:Int)(r:Int)(S:aa (Int×Int))(M:aa aF):af (Int×aa (Int×Int)×aa aF):=match Sz r S ns v0 M rt with
 |some (q,S1,ns1,d)=>if ns1=ns/\d.ah=v0/\d.bu=rt then Q (q,S1,d.az)else J
 |none=>J
def PA{ns:aa aF}{v0 rt:Int}{r:Int}{S:aa (Int×Int)}{M:aa aF}{q:Int}{S':aa (Int×Int)}{M':aa aF}:adt ns v0 rt r S M=Q (q,S',M')↔Sz r S ns v0 M rt=Q (q,S',ns,⟨v0,M',rt⟩):=by
 unfold adt;constructor
 ·intro h;split at h
  ·rename_i ns1 d hy;split at h
   ·rename_i hb;obtain⟨rfl,rfl,rfl⟩:=hb;cases h;rw[hy]
   ·cases h
  ·cases h
 ·intro h;rw[h];simp
open Classical in
def Ui(ns:aa aF)(v0 rt:Int)(k:Nat)(r:Int)(S:aa (Int×Int)):af (Int×aa (Int×Int)×aa aF):=match sq k r S ns v0 rt with
 |some (q,S1,ns1,d)=>if ns1=ns/\d.ah=v0/\d.bu=rt then Q (q,S1,d.az)else J
 |none=>J
def AL{ns:aa aF}{v0 rt:Int}{k:Nat}{r:Int}{S:aa (Int×Int)}{q:Int}{S':aa (Int×Int)}{M':aa aF}:Ui ns v0 rt k r S=Q (q,S',M')↔sq k r S ns v0 rt=Q (q,S',ns,⟨v0,M',rt⟩):=by
 unfold Ui;constructor
 ·intro h;split at h
  ·rename_i ns1 d hy;split at h
   ·rename_i hb;obtain⟨rfl,rfl,rfl⟩:=hb;cases h;rw[hy]
   ·cases h
  ·cases h
 ·intro h;rw[h];simp
def aq1{ns:aa aF}(hs:yz ns<=1000000000){v0 rt:Int}:YK (Gm gG ns) (ak5 ns v0 rt) where
 hit:=λk r S M q h=>by
  rw[E5];show Rn (C2 k) r S ns v0 M rt=_;unfold Rn;simp only[h,yA,dh,yl]
 node:=λk r S M v a b q1 S1 N1 q2 S2 N2 hm hr w1 w2 hl=>by
  rw[E5]at w1 w2 ⊢;show Rn (C2 k) r S ns v0 M rt=_;obtain⟨i,rfl,hi⟩:=dI.1 hr;obtain⟨h1,h2⟩:=get_some hi;unfold Rn;have hw:IntKind.i64.wrap (IntKind.i64.wrap (2+(yz (N2++[aF.mk v q1 q2]):Int))-1)=((2+yz N2:Nat):Int):=by
   have:(yz (N2++[aF.mk v q1 q2]):Int)=(yz N2:Int)+1:=by simp
   rw[this,aJ (n:=2+((yz N2:Int)+1)) (by omega) (by omega),aJ (by omega) (by omega)];omega
  rw[hm,aJ (n:=2+(i:Int)-2) (by omega) (by omega),show 2+(i:Int)-2=(i:Int)by omega];simp only[ye,cL,zi,h2];rw[bS (by omega),w1];simp only;rw[w2];simp only;rw[bS (by simp;omega),hw,dD,bS rfl];rfl
def aj6{ns:aa aF}(hs:yz ns<=1000000000){v0 rt:Int}:YKn (Gm gG ns) (adt ns v0 rt) (Ui ns v0 rt) where
 hit:=λk r S q h=>by
  rw[AL];show DD (sq k) r S ns v0 rt=_;unfold DD;simp only[h,yA,dh,yl]
 node:=λk r S v a b q1 S1 N1 q2 S2 N2 hm hr w1 w2 hl=>by
  rw[AL]at w1 ⊢;rw[PA]at w2;show DD (sq k) r S ns v0 rt=_;obtain⟨i,rfl,hi⟩:=dI.1 hr;obtain⟨h1,h2⟩:=get_some hi;unfold DD;have hw:IntKind.i64.wrap (IntKind.i64.wrap (2+(yz (N2++[aF.mk v q1 q2]):Int))-1)=((2+yz N2:Nat):Int):=by
   have:(yz (N2++[aF.mk v q1 q2]):Int)=(yz N2:Int)+1:=by simp
   rw[this,aJ (n:=2+((yz N2:Int)+1)) (by omega) (by omega),aJ (by omega) (by omega)];omega
  rw[hm,aJ (n:=2+(i:Int)-2) (by omega) (by omega),show 2+(i:Int)-2=(i:Int)by omega];simp only[ye,cL,zi,h2];rw[bS (by omega),w1];simp only;rw[w2];simp only;rw[bS (by simp;omega),hw,dD,bS rfl];rfl
def amb{ns:aa aF}(hs:yz ns<=1000000000)(hn:ns.Nodup){t:BT}{r v0:Int}(hd:Den (Gm gG ns) r t)(ht:t.jy zo)(hl:yz (bE (bf t []))<=1000000000):∃S',MF r [(0,0),(1,1)] ns v0 0=Q (num gG (bE (bf t [])) t,S',ns,⟨v0,fT gG (bE (bf t [])),0⟩):=by
 have hi:bE (bf t jm)=bE (bf t []):=qC t rfl;have hLv:Lv [0,1] (bf t jm):=λx hx=>by
  rcases fu hx with h|h
  ·simp[jm]at h;rcases h with h|h<;>simp[h]
  ·have:zo x:=h.all ht;rcases this with h|h<;>simp[h]
 have hS:SI (Gm gG ns) jm [(0,0),(1,1)]:=λr u hu=>by
  cases hu with
  |@leaf _ x h=>
   obtain⟨hz,rfl⟩:=fJ.1 h;rcases hz with h|h<;>subst h<;>rfl
  |node h ha hb=>
   obtain⟨k,rfl,_⟩:=dI.1 h;rw[bT (by simp[jm])];simp only[dA,wg,List.find?_nil];rw[dw (by omega),dw (by omega)];rfl
 obtain⟨S',_,w⟩:=Pn (J2 hn) (aq1 hs (v0:=v0) (rt:=0)) (R:=adt ns v0 0) (λN r S M x h=>by
  obtain⟨q,S',M'⟩:=x;rw[PA];exact dg N λk hk=>E5.1 (h k hk)) (aj6 hs) hd hLv hS (by rw[hi];exact hl)
 rw[hi]at w;exact⟨S',dg _ λk hk=>AL.1 (w k hk)⟩
open Classical in
def Tk(ns:aa aF)(v0 rt:Int)(k:Nat)(r:Int)(S:aa (Int×Int))(M:aa aF):af (Int×aa (Int×Int)×aa aF):=match sV k r S ns v0 M rt with
 |some (q,S1,ns1,d)=>if ns1=ns/\d.ah=v0/\d.bu=rt then Q (q,S1,d.az)else J
 |none=>J
def vA{ns:aa aF}{v0 rt:Int}{k:Nat}{r:Int}{S:aa (Int×Int)}{M:aa aF}{q:Int}{S':aa (Int×Int)}{M':aa aF}:Tk ns v0 rt k r S M=Q (q,S',M')↔sV k r S ns v0 M rt=Q (q,S',ns,⟨v0,M',rt⟩):=by
 unfold Tk;constructor
 ·intro h;split at h
  ·rename_i ns1 d hy;split at h
   ·rename_i hb;obtain⟨rfl,rfl,rfl⟩:=hb;cases h;rw[hy]
   ·cases h
  ·cases h
 ·intro h;rw[h];simp
open Classical in
def OP(ns:aa aF)(v0 rt:Int)(r:Int)(S:aa (Int×Int))(M:aa aF):af (Int×aa (Int×Int)×aa aF):=match F9 r S ns v0 M rt with
 |some (q,S1,ns1,d)=>if ns1=ns/\d.ah=v0/\d.bu=rt then Q (q,S1,d.az)else J
 |none=>J
def Hw{ns:aa aF}{v0 rt:Int}{r:Int}{S:aa (Int×Int)}{M:aa aF}{q:Int}{S':aa (Int×Int)}{M':aa aF}:OP ns v0 rt r S M=Q (q,S',M')↔F9 r S ns v0 M rt=Q (q,S',ns,⟨v0,M',rt⟩):=by
 unfold OP;constructor
 ·intro h;split at h
  ·rename_i ns1 d hy;split at h
   ·rename_i hb;obtain⟨rfl,rfl,rfl⟩:=hb;cases h;rw[hy]
   ·cases h
  ·cases h
 ·intro h;rw[h];simp
open Classical in
def Mp(ns:aa aF)(v0 rt:Int)(k:Nat)(r:Int)(S:aa (Int×Int)):af (Int×aa (Int×Int)×aa aF):=match nI k r S ns v0 rt with
 |some (q,S1,ns1,d)=>if ns1=ns/\d.ah=v0/\d.bu=rt then Q (q,S1,d.az)else J
 |none=>J
def sC{ns:aa aF}{v0 rt:Int}{k:Nat}{r:Int}{S:aa (Int×Int)}{q:Int}{S':aa (Int×Int)}{M':aa aF}:Mp ns v0 rt k r S=Q (q,S',M')↔nI k r S ns v0 rt=Q (q,S',ns,⟨v0,M',rt⟩):=by
 unfold Mp;constructor
 ·intro h;split at h
  ·rename_i ns1 d hy;split at h
   ·rename_i hb;obtain⟨rfl,rfl,rfl⟩:=hb;cases h;rw[hy]
   ·cases h
  ·cases h
 ·intro h;rw[h];simp
def al9{ns:aa aF}(hs:yz ns<=1000000000){v0 rt:Int}:YK (Gm gG ns) (Tk ns v0 rt) where
 hit:=λk r S M q h=>by
  rw[vA];show CT (sV k) r S ns v0 M rt=_;unfold CT;simp only[h,yA,dh,yl]
 node:=λk r S M v a b q1 S1 N1 q2 S2 N2 hm hr w1 w2 hl=>by
  rw[vA]at w1 w2 ⊢;show CT (sV k) r S ns v0 M rt=_;obtain⟨i,rfl,hi⟩:=dI.1 hr;obtain⟨h1,h2⟩:=get_some hi;unfold CT;have hw:IntKind.i64.wrap (IntKind.i64.wrap (2+(yz (N2++[aF.mk v q1 q2]):Int))-1)=((2+yz N2:Nat):Int):=by
   have:(yz (N2++[aF.mk v q1 q2]):Int)=(yz N2:Int)+1:=by simp
   rw[this,aJ (n:=2+((yz N2:Int)+1)) (by omega) (by omega),aJ (by omega) (by omega)];omega
  rw[hm,aJ (n:=2+(i:Int)-2) (by omega) (by omega),show 2+(i:Int)-2=(i:Int)by omega];simp only[ye,cL,zi,h2];rw[bS (by omega),bS ⟨trivial,h1⟩,w1];simp only;rw[w2];simp only;rw[bS (by simp;omega),hw,dD,bS rfl];rfl
def ZL{ns:aa aF}(hs:yz ns<=1000000000){v0 rt:Int}:YKn (Gm gG ns) (OP ns v0 rt) (Mp ns v0 rt) where
 hit:=λk r S q h=>by
  rw[sC];show sg (nI k) r S ns v0 rt=_;unfold sg;simp only[h,yA,dh,yl]
 node:=λk r S v a b q1 S1 N1 q2 S2 N2 hm hr w1 w2 hl=>by
  rw[sC]at w1 ⊢;rw[Hw]at w2;show sg (nI k) r S ns v0 rt=_;obtain⟨i,rfl,hi⟩:=dI.1 hr;obtain⟨h1,h2⟩:=get_some hi;unfold sg;have hw:IntKind.i64.wrap (IntKind.i64.wrap (2+(yz (N2++[aF.mk v q1 q2]):Int))-1)=((2+yz N2:Nat):Int):=by
   have:(yz (N2++[aF.mk v q1 q2]):Int)=(yz N2:Int)+1:=by simp
   rw[this,aJ (n:=2+((yz N2:Int)+1)) (by omega) (by omega),aJ (by omega) (by omega)];omega
  rw[hm,aJ (n:=2+(i:Int)-2) (by omega) (by omega),show 2+(i:Int)-2=(i:Int)by omega];simp only[ye,cL,zi,h2];rw[bS (by omega),bS ⟨trivial,h1⟩,w1];simp only;rw[w2];simp only;rw[bS (by simp;omega),hw,dD,bS rfl];rfl
def aek{ns:aa aF}(hs:yz ns<=1000000000)(hn:ns.Nodup){t:BT}{r v0:Int}(hd:Den (Gm gG ns) r t)(ht:t.jy zo)(hl:yz (bE (bf t []))<=1000000000):∃S',F3 r [(0,0),(1,1)] ns v0 0=Q (num gG (bE (bf t [])) t,S',ns,⟨v0,fT gG (bE (bf t [])),0⟩):=by
 have hi:bE (bf t jm)=bE (bf t []):=qC t rfl;have hLv:Lv [0,1] (bf t jm):=λx hx=>by
  rcases fu hx with h|h
  ·simp[jm]at h;rcases h with h|h<;>simp[h]
  ·have:zo x:=h.all ht;rcases this with h|h<;>simp[h]
 have hS:SI (Gm gG ns) jm [(0,0),(1,1)]:=λr u hu=>by
  cases hu with
  |@leaf _ x h=>
   obtain⟨hz,rfl⟩:=fJ.1 h;rcases hz with h|h<;>subst h<;>rfl
  |node h ha hb=>
   obtain⟨k,rfl,_⟩:=dI.1 h;rw[bT (by simp[jm])];simp only[dA,wg,List.find?_nil];rw[dw (by omega),dw (by omega)];rfl
 obtain⟨S',_,w⟩:=Pn (J2 hn) (al9 hs (v0:=v0) (rt:=0)) (R:=OP ns v0 0) (λN r S M x h=>by
  obtain⟨q,S',M'⟩:=x;rw[Hw];exact dg N λk hk=>vA.1 (h k hk)) (ZL hs) hd hLv hS (by rw[hi];exact hl)
 rw[hi]at w;exact⟨S',dg _ λk hk=>sC.1 (w k hk)⟩
structure gT (n:Int) (t:BT) (d:bO):Prop where
 v:d.ah=n
 zo:t.jy zo
 nodes:d.az=fT gG (bE (bf t []))
 root:d.bu=num gG (bE (bf t [])) t
def gT.eq{n:Int}{t:BT}{d d':bO}(h:gT n t d)(h':gT n t d'):d=d':=by
 obtain⟨v,N,r⟩:=d;obtain⟨v',N',r'⟩:=d';have h1:=h.v;have h2:=h.nodes;have h3:=h.root
 have h1':=h'.v;have h2':=h'.nodes;have h3':=h'.root
 simp only at h1 h2 h3 h1' h2' h3';subst h1 h1' h2 h2' h3 h3';rfl
def Ja{t:BT}(ht:t.jy zo):Lv gG (bf t []):=λx hx=>by
 rcases fu hx with h|h
 ·cases h
 ·have:zo x:=h.all ht;rcases this with h|h<;>simp[h]
def gT.den{n:Int}{t:BT}{d:bO}(h:gT n t d):Den d.g d.bu t:=by
 have:=gB (L:=gG) (l:=bf t []) (dR t kX) (Ja h.zo) (bY t []);unfold bO.g;rw[h.nodes,h.root];exact this
def gT.nd{n:Int}{t:BT}{d:bO}(h:gT n t d):d.az.Nodup:=by
 rw[h.nodes];exact SG (dR t kX) (Ja h.zo) (mJ t yY)
def gT.len{n:Int}{t:BT}{d:bO}(h:gT n t d):yz d.az=yz (bE (bf t [])):=by
 rw[h.nodes,fK]
def gT.arg{n:Int}{t:BT}{d:bO}(h:gT n t d)(ho:Ord n 0 t)(hn:n<=12):Md n d:=by
 have h1:=h.len;have h2:=dV ho hn;exact⟨h.v,by omega⟩
def RF{ns:aa aF}(hs:yz ns<=1000000000)(hn:ns.Nodup){t:BT}{r v0:Int}(hd:Den (Gm gG ns) r t)(ht:t.jy zo)(hl:yz (bE (bf t []))<=1000000000):∃d,QC v0 ns r=Q d/\gT v0 t d:=by
 obtain⟨S',e⟩:=amb hs hn hd ht hl (v0:=v0);refine⟨⟨v0,fT gG (bE (bf t [])),num gG (bE (bf t [])) t⟩,?_,rfl,ht,rfl,rfl⟩;unfold QC;rw[e]
def Ld{ns:aa aF}(hs:yz ns<=1000000000)(hn:ns.Nodup){t:BT}{r v0:Int}(hd:Den (Gm gG ns) r t)(ht:t.jy zo)(hl:yz (bE (bf t []))<=1000000000):∃d,GH v0 r ns=Q (d,ns)/\gT v0 t d:=by
 obtain⟨S',e⟩:=aek hs hn hd ht hl (v0:=v0);refine⟨⟨v0,fT gG (bE (bf t [])),num gG (bE (bf t [])) t⟩,?_,rfl,ht,rfl,rfl⟩;unfold GH;rw[e]
end Go.Proofs.YtghilkcphindjaaGreat
end
noncomputable section
set_option maxRecDepth 100000
namespace Go.Proofs.YtghilkcphindjaaGreat
open Go Go.Iv
open Go.IntKind (i64 u64)
def agO{n:Int}(h1:0<=n)(h2:n<256):IntKind.u8.wrap n=n:=by
 simp only[IntKind.wrap,IntKind.signed,IntKind.bits]at*;simp;omega
def aqF{x:Int}(k:Nat)(hk:k<=64):cF u64 x (k:Int)=x/2^k:=by
 unfold cF;rw[show min ((k:Int)).toNat u64.bits=k from by simp only[zi,IntKind.bits];omega];exact Int.fdiv_eq_ediv_of_nonneg _ (Int.le_of_lt (Int.pow_pos (by omega)))
def bl(x:Int):Int:=if x<=0 then 0 else((Nat.log2 x.toNat+1:Nat):Int)
def ar2{x:Int}{t:Nat}(h1:1<=t)(h2:(2:Int)^(t-1)<=x)(h3:x<2^t):bl x=(t:Int):=by
 have h0:(0:Int)<2^(t-1):=Int.pow_pos (by omega);have hx:0<x:=by omega
 have e:((2^(t-1):Nat):Int)=(2:Int)^(t-1):=by rw[wC];rfl
 have e':((2^t:Nat):Int)=(2:Int)^t:=by rw[wC];rfl
 have h:Nat.log2 x.toNat=t-1:=(Nat.log2_eq_iff (by omega)).2 ⟨by omega,by rw[Nat.sub_add_cancel h1];omega⟩;unfold bl;rw[bT (by omega),h];omega
def ais(i:Nat):Bool:=i==0||((zU 9).any λt=>(gq.data[i]!).toNat==t&&Z (1<=t)&&Z (2^(t-1)<=i)&&Z (i<2^t))
def acG:(zU 256).all ais=O:=by kernel_rfl
def Vx:bL gq (IntKind.u8.wrap 0).toNat=0:=by kernel_rfl
def adM{x:Int}(h1:1<=x)(h2:x<256):∃t:Nat,1<=t/\t<=8/\bL gq (IntKind.u8.wrap x).toNat=(t:Int)/\2^(t-1)<=x/\x<2^t:=by
 rw[agO (by omega) h2];have h:=zx.mp acG x.toNat (List.mem_range.mpr (by omega));simp only[ais,yL,beq_iff_eq,List.any_eq_true,List.mem_range,zj,decide_eq_true_eq]at h;rcases h with h|⟨t,ht,⟨⟨h3,h4⟩,h5⟩,h6⟩
 ·omega
 ·have h5':((2^(t-1):Nat):Int)<=(x.toNat:Int):=Int.ofNat_le.mpr h5;have h6':((x.toNat:Nat):Int)<((2^t:Nat):Int):=Int.ofNat_lt.mpr h6;rw[Int.toNat_of_nonneg (by omega),wC]at h5' h6';exact⟨t,h4,by omega,by unfold bL;rw[h3],h5',h6'⟩
def asn{n:Int}(h1:0<=n)(h2:n<=1000000):i64.wrap n=n:=aJ (by omega) (by omega)
def KH{a x:Int}{n:Nat}(h1:1<=x)(h2:x<256)(hn:n<=16)(ha1:x*2^n<=a)(ha2:a<(x+1)*2^n):
  (if(0:Int)<=IntKind.u8.wrap x/\IntKind.u8.wrap x<(256:Int)then Q (i64.wrap ((n:Int)+i64.wrap (bL gq (IntKind.u8.wrap x).toNat)))else J)=Q (bl a):=by
 obtain⟨t,g1,g2,g3,g4,g5⟩:=adM h1 h2;rw[g3,agO (by omega) h2,bS ⟨by omega,h2⟩,asn (n:=(t:Int)) (by omega) (by omega),asn (by omega) (by omega)];have p:(0:Int)<2^n:=Int.pow_pos (by omega);have e:bl a=((n+t:Nat):Int):=ar2 (by omega) (by
  rw[show n+t-1=(t-1)+n by omega,Int.pow_add];exact Int.le_trans (xD g4 (by omega)) ha1) (by
  rw[show n+t=t+n by omega,Int.pow_add];exact Int.lt_of_lt_of_le ha2 (xD (by omega) (by omega)))
 rw[e]
 congr 1
def afm{a:Int}(h0:0<=a)(h1:a<16777216):Jz a=Q (bl a):=by
 have e:Vy a=Q (bl a):=by
  unfold Vy;rw[dw (by omega),cL];have s8:=aqF (x:=a) 8 (by omega);have s16:=aqF (x:=a) 16 (by omega);rw[show ((8:Nat):Int)=8 from rfl]at s8;rw[show ((16:Nat):Int)=16 from rfl]at s16;rw[s8,s16];by_cases h2:65536<=a
  ·rw[iN h2,dh,dw (by omega),cL];exact KH (n:=16) (by omega) (by omega) (by omega) (by omega) (by omega)
  ·rw[dw h2,cL];by_cases h3:256<=a
   ·rw[iN h3,dh];exact KH (n:=8) (by omega) (by omega) (by omega) (by omega) (by omega)
   ·rw[dw h3,cL];by_cases h4:a=0
    ·subst h4;rw[Vx];rfl
    ·have:=KH (a:=a) (x:=a) (n:=0) (by omega) (by omega) (by omega) (by omega) (by omega);exact this
 unfold Jz;rw[e]
def VB(l:aa aT)(k:Int)(n:Nat):aa Int:=((zU n).filter λi=>Z (l[i]!.bU=k)).map λi:Nat=>(i:Int)
def jQ(l:aa aT)(k:Int):aa Int:=VB l k (yz l)
def vZ(l:aa aT)(k:Int)(n:Nat):VB l k (n+1)=VB l k n++(if l[n]!.bU=k then[(n:Int)]else[]):=by
 unfold VB;rw[List.range_succ,yj,zK];by_cases h:l[n]!.bU=k
 ·rw[bS h,List.filter_cons_of_pos (by rw[iN h])];rfl
 ·rw[bT h,List.filter_cons_of_neg (by rw[dw h];simp)];rfl
def Fc(l:aa aT)(k:Int)(n:Nat):yz (VB l k n)<=n:=by
 unfold VB;rw[zI];exact zY (List.length_filter_le _ _) (by simp)
def jf{l:aa aT}{k:Int}{n:Nat}{x:Int}(h:x∈VB l k n):0<=x/\x<(n:Int)/\l[x.toNat]!.bU=k:=by
 unfold VB at h;simp only[zy,zS,List.mem_range,decide_eq_true_eq]at h;obtain⟨i,⟨h1,h2⟩,rfl⟩:=h;exact⟨by omega,by omega,by simpa using h2⟩
def Sa(f:bB)(hl:yz f.ah<=1000000)(k:Int):m65 f k=Q (jQ f.ah k):=by
 obtain⟨v,e,hv⟩:=dL (rnd:=Kb) (yz f.ah) (λi (b:aa Int)=>⟨k,b,f.ah,(yz f.ah:Int),(i:Int)⟩) (λi b=>b=VB f.ah k i) (λi b hi hb=>by
  subst hb;have i1:(i:Int)<(yz f.ah:Int):=by omega
  have i2:(0:Int)<=(i:Int):=by omega
  have hw:=iF hi hl;have h3:yz (VB f.ah k i++[(i:Int)])<=1073741824:=by have:=Fc f.ah k i;simp;omega
  refine⟨_,?_,rfl⟩;rw[vZ];unfold Kb;simp only[zi,i1,i2,fO,dh,gd,dU,hw,h3];by_cases h:f.ah[i]!.bU=k
  ·simp only[h,fO,dh,dU]
  ·simp only[h,jk,cL,jP,yW]) (λb _=>by unfold Kb;simp) (b:=[]) rfl
 have e':OK ⟨k,[],f.ah,(yz f.ah:Int),0⟩=Q ⟨k,v,f.ah,(yz f.ah:Int),(yz f.ah:Int)⟩:=e;unfold m65;rw[e'];simp only[zJ,jk,cL];rw[hv];rfl
def Qt(l:aa aT):Prop:=yz l<=1000/\∀i,i<yz l-> -1048576<=l[i]!.aG/\l[i]!.aG<=l[i]!.au/\l[i]!.au<=1048576
def u9(v:aT):Int:=bl (v.au-v.aG)
def TD{x:Int}(h1:x<16777216):0<=bl x/\bl x<=24:=by
 unfold bl;split
 ·omega
 ·have h:Nat.log2 x.toNat<24:=(Nat.log2_lt (by omega)).2 (by omega);omega
def eB(vs:aa aT)(s:aa Slot×Int)(i:Int):aa Slot×Int:=(s.1++[⟨i,s.2,u9 vs[i.toNat]!⟩],s.2+u9 vs[i.toNat]!)
def To{vs:aa aT}(h:Qt vs){x:Int}(h1:0<=x)(h2:x<(yz vs:Int)):
  Jz (u64.wrap (i64.wrap (vs[x.toNat]!.au-vs[x.toNat]!.aG)))=Q (u9 vs[x.toNat]!)/\0<=u9 vs[x.toNat]!/\u9 vs[x.toNat]!<=24:=by
 obtain⟨g1,g2,g3⟩:=h.2 x.toNat (by omega);have e1:i64.wrap (vs[x.toNat]!.au-vs[x.toNat]!.aG)=vs[x.toNat]!.au-vs[x.toNat]!.aG:=aJ (by omega) (by omega);have e2:u64.wrap (vs[x.toNat]!.au-vs[x.toNat]!.aG)=vs[x.toNat]!.au-vs[x.toNat]!.aG:=by
  clear e1;generalize vs[x.toNat]! =v at*;simp only[IntKind.wrap,IntKind.signed,IntKind.bits];simp;omega
 rw[e1,e2];exact⟨afm (by omega) (by omega),TD (by omega)⟩
def HI(f:bB)(h:Qt f.ah)(ids:aa Int)(hid:∀x∈ids,0<=x/\x<(yz f.ah:Int))(hl:yz ids<=1000)(s:aa Slot×Int)(hs1:yz s.1<=10000)(hs2:0<=s.2/\s.2<=100000)(a b c d:Int)(e:aa Int):
  GZ ⟨s.1,a,s.2,b,e,c,d,ids,(yz ids:Int),0,f⟩=Q ⟨(ids.foldl (eB f.ah) s).1,a,(ids.foldl (eB f.ah) s).2,b,e,c,d,ids,(yz ids:Int),(yz ids:Int),f⟩/\
   (ids.foldl (eB f.ah) s).1.length=yz s.1+yz ids/\0<=(ids.foldl (eB f.ah) s).2/\(ids.foldl (eB f.ah) s).2<=s.2+24*yz ids:=by
 obtain⟨v,q,hv⟩:=dL (rnd:=J4) (yz ids) (λi (z:aa Slot×Int)=>⟨z.1,a,z.2,b,e,c,d,ids,(yz ids:Int),(i:Int),f⟩) (λi z=>z=(ids.take i).foldl (eB f.ah) s/\yz z.1=yz s.1+i/\0<=z.2/\z.2<=s.2+24*i) (λi z hi ⟨hz,z1,z2,z3⟩=>by
  have i1:(i:Int)<(yz ids:Int):=by omega
  have i2:(0:Int)<=(i:Int):=by omega
  have hw:=iF hi (by omega);have hm:ids[i]!∈ids:=bD hi;obtain⟨x1,x2⟩:=hid _ hm;obtain⟨g1,g2,g3⟩:=To h x1 x2;have h3:yz (z.1++[Slot.mk ids[i]! z.2 (u9 f.ah[(ids[i]!).toNat]!)])<=1073741824:=by simp;omega
  have h4:i64.wrap (z.2+u9 f.ah[(ids[i]!).toNat]!)=z.2+u9 f.ah[(ids[i]!).toNat]! :=aJ (by omega) (by omega);refine⟨eB f.ah z ids[i]!,?_,?_,?_,?_,?_⟩
  ·unfold J4;simp only[zi,i1,i2,hi,x1,x2,fO,dh,gd,dU,hw,g1,h3,h4];rfl
  ·rw[bQ hi,wD,<-hz];rfl
  ·unfold eB;simp;omega
  ·unfold eB;dsimp only;omega
  ·unfold eB;dsimp only;omega) (λz _=>by unfold J4;simp) (b:=s) ⟨rfl,rfl,hs2.1,by simp⟩
 rw[yp]at hv;obtain⟨hv,hr⟩:=hv;subst hv;exact⟨q,hr⟩
def bZ(vs:aa aT):aa Slot×Int×Int:=
 let s1:=(jQ vs 1).foldl (eB vs) ([],0)
 let s2:=(jQ vs 3).foldl (eB vs) s1
 (s2.1,s1.2,s2.2)
def Lr(f:bB)(h:Qt f.ah):m49 f=Q (bZ f.ah)/\yz (bZ f.ah).1<=2000/\0<=(bZ f.ah).2.1/\(bZ f.ah).2.1<=24000/\0<=(bZ f.ah).2.2/\(bZ f.ah).2.2<=48000:=by
 have hn:=h.1;have k1:=Sa f (by omega) 1;have k3:=Sa f (by omega) 3;have l1:yz (jQ f.ah 1)<=yz f.ah:=Fc _ _ _;have l3:yz (jQ f.ah 3)<=yz f.ah:=Fc _ _ _;have r1:=HI f h (jQ f.ah 1) (λx hx=>⟨(jf hx).1,(jf hx).2.1⟩) (by omega) ([],0) (by simp) (by simp) 0 1 2 0 [1,3];obtain⟨q1,q2,q3,q4⟩:=r1;have r3:=HI f h (jQ f.ah 3) (λx hx=>⟨(jf hx).1,(jf hx).2.1⟩) (by omega) ((jQ f.ah 1).foldl (eB f.ah) ([],0)) (by rw[q2];simp;omega) ⟨q3,by simp at q4;omega⟩ ((jQ f.ah 1).foldl (eB f.ah) ([],0)).2 3 2 1 [1,3];obtain⟨p1,p2,p3,p4⟩:=r3;simp only[xC,ya,Int.zero_add]at q2 q4;have n0:vj ⟨[],0,0,[1,3],2,0,f⟩=Q (Q ⟨((jQ f.ah 1).foldl (eB f.ah) ([],0)).1,((jQ f.ah 1).foldl (eB f.ah) ([],0)).2,((jQ f.ah 1).foldl (eB f.ah) ([],0)).2,[1,3],2,1,f⟩):=by
  unfold vj;have e1:([1,3]:aa Int)[zB 0]! =1:=rfl;have w:i64.wrap (0+1)=1:=aJ (by omega) (by omega);simp only[e1,k1,q1,w,zJ,jk,cL];rfl
 have n1:vj ⟨((jQ f.ah 1).foldl (eB f.ah) ([],0)).1,((jQ f.ah 1).foldl (eB f.ah) ([],0)).2,((jQ f.ah 1).foldl (eB f.ah) ([],0)).2,[1,3],2,1,f⟩=Q (Q ⟨(bZ f.ah).1,(bZ f.ah).2.1,(bZ f.ah).2.2,[1,3],2,2,f⟩):=by
  unfold vj;have e1:([1,3]:aa Int)[zB 1]! =3:=rfl;have w:i64.wrap (1+1)=2:=aJ (by omega) (by omega);simp only[e1,k3,p1,w,zJ,jk,cL];rfl
 have e:Il ⟨[],0,0,[1,3],2,0,f⟩=Q ⟨(bZ f.ah).1,(bZ f.ah).2.1,(bZ f.ah).2.2,[1,3],2,2,f⟩:=by
  unfold Il;rw[cB n0,cB n1];exact cE (λr=>by unfold vj;simp)
 refine⟨?_,?_,q3,?_,p3,?_⟩
 ·unfold m49;rw[e];simp only[zJ,jk,cL]
 ·show yz ((jQ f.ah 3).foldl (eB f.ah) ((jQ f.ah 1).foldl (eB f.ah) ([],0))).1<=2000;omega
 ·show ((jQ f.ah 1).foldl (eB f.ah) ([],0)).2<=24000;omega
 ·show ((jQ f.ah 3).foldl (eB f.ah) ((jQ f.ah 1).foldl (eB f.ah) ([],0))).2<=48000;omega
def U9{x:Int}(h0:0<=x):x<2^(bl x).toNat/\∀i,i<(bl x).toNat->(2:Int)^i<=x:=by
 have e:∀k:Nat,((2^k:Nat):Int)=(2:Int)^k:=λk=>by rw[wC];rfl
 unfold bl;split
 ·have:x=0:=by omega
  subst this;exact⟨by decide,λi hi=>by simp at hi⟩
 ·rename_i h;rw[zi];have h1:=@Nat.lt_log2_self x.toNat
  have h2:=Nat.log2_self_le (n:=x.toNat) (by omega);refine⟨by rw[<-e];omega,λi hi=> ?_⟩;have h3:2^i<=2^Nat.log2 x.toNat:=xh (by omega) (by omega);rw[<-e];omega
def Xz{k:Nat}(h:k<=30):qF IntKind.i64 1 (k:Int)=2^k:=by
 unfold qF;have hp:(2:Int)^k<=2^30:=by
  have:=xh (n:=2) (by omega) h;have e:∀k:Nat,((2^k:Nat):Int)=(2:Int)^k:=λk=>by rw[wC];rfl
  rw[<-e k,<-e 30];exact Int.ofNat_le.2 this
 have h0:(0:Int)<2^k:=Int.pow_pos (by omega);have h30:(2:Int)^30=1073741824:=by decide
 rw[show min ((k:Int)).toNat IntKind.i64.bits=k from by simp only[zi,IntKind.bits];omega,Int.one_mul];exact aJ (by omega) (by omega)
def XS(a b c d e f':Int)(q:aa Slot)(g:aa Int)(vs:aa aT)(u w:Int)(f:bB)(v:aT)(h1: -1048576<=v.aG)(h2:v.aG<=v.au)(h3:v.au<=1048576):
  Dp ⟨q,a,b,c,d,0,g,e,f',vs,u,w,f,v⟩=Q ⟨q,a,b,c,d,u9 v,g,e,f',vs,u,w,f,v⟩:=by
 have hb:=TD (x:=v.au-v.aG) (by omega);obtain⟨g1,g2⟩:=U9 (x:=v.au-v.aG) (by omega);have e1:i64.wrap (v.au-v.aG)=v.au-v.aG:=aJ (by omega) (by omega);have e2:i64.wrap (v.au-v.aG+1)=v.au-v.aG+1:=aJ (by omega) (by omega);obtain⟨_,q,-⟩:=dL (β:=Unit) (rnd:=GU) (bl (v.au-v.aG)).toNat (λi _=>⟨q,a,b,c,d,(i:Int),g,e,f',vs,u,w,f,v⟩) (λ_ _=>True) (λi _ hi _=>by
  have i2:(0:Int)<=(i:Int):=by omega
  have hw:i64.wrap ((i:Int)+1)=((i+1:Nat):Int):=by rw[aJ (by omega) (by omega)];omega
  have h4:=g2 i hi;refine⟨(),?_,trivial⟩;unfold GU;simp only[i2,dU,e1,e2,Xz (show i<=30 by omega),hw];rw[iN (by omega),dh]) (λ_ _=>by
  unfold GU;simp only[e1,e2,Xz (show (bl (v.au-v.aG)).toNat<=30 by omega)];rw[bS (by omega),dw (by omega),cL]) (b:=()) trivial
 rw[show (((bl (v.au-v.aG)).toNat:Nat):Int)=u9 v from by unfold u9;omega]at q;exact q
def Gj(f:bB)(h:Qt f.ah)(k:Int)(s:aa Slot×Int)(hs1:yz s.1<=10000)(hs2:0<=s.2/\s.2<=100000)(a c d:Int)(e:aa Int):
  GL ⟨s.1,s.2,a,k,e,c,d,f.ah,(yz f.ah:Int),0,f⟩=Q ⟨((jQ f.ah k).foldl (eB f.ah) s).1,((jQ f.ah k).foldl (eB f.ah) s).2,a,k,e,c,d,f.ah,(yz f.ah:Int),(yz f.ah:Int),f⟩/\
   ((jQ f.ah k).foldl (eB f.ah) s).1.length<=yz s.1+yz f.ah/\0<=((jQ f.ah k).foldl (eB f.ah) s).2/\((jQ f.ah k).foldl (eB f.ah) s).2<=s.2+24*yz f.ah:=by
 have hn:=h.1;obtain⟨v,q,hv⟩:=dL (rnd:=DH) (yz f.ah) (λi (z:aa Slot×Int)=>⟨z.1,z.2,a,k,e,c,d,f.ah,(yz f.ah:Int),(i:Int),f⟩) (λi z=>z=(VB f.ah k i).foldl (eB f.ah) s/\yz z.1<=yz s.1+i/\0<=z.2/\z.2<=s.2+24*i) (λi z hi ⟨hz,z1,z2,z3⟩=>by
  have i1:(i:Int)<(yz f.ah:Int):=by omega
  have i2:(0:Int)<=(i:Int):=by omega
  have hw:=iF hi (by omega);obtain⟨x1,x2,x3⟩:=h.2 i hi;have hv:=TD (x:=f.ah[i]!.au-f.ah[i]!.aG) (by omega);have hv:0<=u9 f.ah[i]!/\u9 f.ah[i]!<=24:=hv;by_cases hk:f.ah[i]!.bU=k
  ·have h3:yz (z.1++[Slot.mk (i:Int) z.2 (u9 f.ah[i]!)])<=1073741824:=by simp;omega
   have h4:i64.wrap (z.2+u9 f.ah[i]!)=z.2+u9 f.ah[i]! :=aJ (by omega) (by omega);have h5:¬(qF IntKind.i64 1 (u9 f.ah[i]!)<i64.wrap (i64.wrap (f.ah[i]!.au-f.ah[i]!.aG)+1)):=by
    have e1:i64.wrap (f.ah[i]!.au-f.ah[i]!.aG)=f.ah[i]!.au-f.ah[i]!.aG:=aJ (by omega) (by omega);have e2:i64.wrap (f.ah[i]!.au-f.ah[i]!.aG+1)=f.ah[i]!.au-f.ah[i]!.aG+1:=aJ (by omega) (by omega);have e3:=(U9 (x:=f.ah[i]!.au-f.ah[i]!.aG) (by omega)).1;have e4:u9 f.ah[i]! =(((bl (f.ah[i]!.au-f.ah[i]!.aG)).toNat:Nat):Int):=by show bl _=_;have:0<=bl (f.ah[i]!.au-f.ah[i]!.aG):=hv.1;omega
    have e5:(bl (f.ah[i]!.au-f.ah[i]!.aG)).toNat<=30:=by have:=hv.2;omega
    rw[e1,e2,e4,Xz e5];omega
   refine⟨eB f.ah z (i:Int),?_,?_,?_,?_,?_⟩
   ·unfold DH;simp only[zi,i1,i2,fO,dh,cL,gd,dU,hk,XS _ _ _ _ _ _ _ _ _ _ _ _ _ x1 x2 x3,hv.1,h5,jk,h3,hw,h4];rfl
   ·rw[vZ,bS hk,wD,<-hz];rfl
   ·unfold eB;simp;omega
   ·unfold eB;simp only[zi];omega
   ·unfold eB;simp only[zi];omega
  ·refine⟨z,?_,?_,by omega,z2,by omega⟩
   ·unfold DH;simp only[zi,i1,i2,fO,jk,dh,cL,gd,dU,hk,hw]
   ·rw[vZ,bT hk,yW];exact hz) (λz _=>by unfold DH;simp) (b:=s) ⟨rfl,zA _,hs2.1,by simp⟩
 obtain⟨hv,hr⟩:=hv;have hv:v=(jQ f.ah k).foldl (eB f.ah) s:=hv;subst hv;exact⟨q,hr⟩
def Uo(f:bB)(h:Qt f.ah):m16 f=Q ((bZ f.ah).1,(bZ f.ah).2.2,(bZ f.ah).2.1):=by
 have hn:=h.1;obtain⟨q1,q2,q3,q4⟩:=Gj f h 1 ([],0) (by simp) (by simp) 0 2 0 [1,3];simp only[xC,ya,Int.zero_add]at q2 q4;obtain⟨p1,p2,p3,p4⟩:=Gj f h 3 ((jQ f.ah 1).foldl (eB f.ah) ([],0)) (by omega) ⟨q3,by omega⟩ ((jQ f.ah 1).foldl (eB f.ah) ([],0)).2 2 1 [1,3];have n0:vg ⟨[],0,0,[1,3],2,0,f⟩=Q (Q ⟨((jQ f.ah 1).foldl (eB f.ah) ([],0)).1,((jQ f.ah 1).foldl (eB f.ah) ([],0)).2,((jQ f.ah 1).foldl (eB f.ah) ([],0)).2,[1,3],2,1,f⟩):=by
  unfold vg;have e1:([1,3]:aa Int)[zB 0]! =1:=rfl;have w:i64.wrap (0+1)=1:=aJ (by omega) (by omega);simp only[e1,q1,w,zJ,jk,cL];rfl
 have n1:vg ⟨((jQ f.ah 1).foldl (eB f.ah) ([],0)).1,((jQ f.ah 1).foldl (eB f.ah) ([],0)).2,((jQ f.ah 1).foldl (eB f.ah) ([],0)).2,[1,3],2,1,f⟩=Q (Q ⟨(bZ f.ah).1,(bZ f.ah).2.2,(bZ f.ah).2.1,[1,3],2,2,f⟩):=by
  unfold vg;have e1:([1,3]:aa Int)[zB 1]! =3:=rfl;have w:i64.wrap (1+1)=2:=aJ (by omega) (by omega);simp only[e1,p1,w,zJ,jk,cL];rfl
 have e:Jl ⟨[],0,0,[1,3],2,0,f⟩=Q ⟨(bZ f.ah).1,(bZ f.ah).2.2,(bZ f.ah).2.1,[1,3],2,2,f⟩:=by
  unfold Jl;rw[cB n0,cB n1];exact cE (λr=>by unfold vg;simp)
 unfold m16;rw[e];simp only[zJ,jk,cL]
structure aD3 where
 t1:List Bool
 (t4 t5:List Int)
 t14:Int
 t32:List Slot
 (t33 t34:Int)
 t52:List Bool
 (t53 t54:Int)
 b0:bB
 b3:aT
structure aFb where
 t1:List Bool
 (t4 t5:List Int)
 t32:List Slot
 (t33 t34:Int)
 b0:bB
structure aDV where
 (t2 t14:List Int)
 (t15 t16:Int)
 b0:bB
abbrev Ef:=Int
def d47:Td 0 Ef:= .c [] [4] (.r 0 0 (ec 4 aL en) sn (λz=>z.1.1) (λx=>((x,()),(()))))
def A47:=(lc (qg 106) (aW ln))
def x47(M:aj->Int->af Ef):aI->aI:=eL wR 47 V A47 d47 (λg=>M g.1 g.2.1)
def H47(M:aj->Int->af Ef):Prop:=HL wR 47 A47 d47 (λg=>M g.1 g.2.1)
def WZ{M:aj->Int->af Ef}(hM:H47 M){F:aI}(h:ak wR F):ak wR (x47 M F):=bA (sc:=dM) aX hM ⟨_,func47,by kernel_rfl,by kernel_rfl⟩ (λ_=>by kernel_rfl) (λ_=>by kernel_rfl) h
def F47(M47:aj->Int->af Ef):aI:=(x47 M47 cw)
def an2{M47}(h47:H47 M47):ak wR (F47 M47):=(WZ h47 aQ)
structure vS where
 (t1 t5:Int)
 b0:aj
def Im:Td 0 vS:= .c [] [1,2,5] (.r 0 1 (ec 1 aL (ec 2 (qp 0 0) (ec 5 aL en))) (sb 0 106 (lg 106) sn) (λz=>⟨z.1.1,z.1.t.1,z.2.1⟩) (λx=>((x.t1,(),x.t5,()),(x.b0,()))))
def Jq(M47:aj->Int->af Ef)(p:vS):af (af vS):=
 match bif Z (p.t5<yz p.b0.ay)then Q (Z (0<=p.t1))else Q V with|J=>J|Q r1=>bif r1 then if 0<=p.t5/\p.t5<yz p.b0.ay then match M47 (aj.mk p.b0.ay[zB p.t5]!.bG p.b0.ay[zB p.t5]!.fN p.b0.ay[zB p.t5]!.ay) p.t1 with|J=>J|Q r2=>Q (Q (vS.mk r2 (i64.wrap (p.t5+1)) (aj.mk p.b0.bG p.b0.fN p.b0.ay)))else J else Q (J)
def XW(M47:aj->Int->af Ef):An:=(.two (.two (.rb [] 16) .no) .no)
def avc(M47:aj->Int->af Ef)(p:vS):bK wR (F47 M47) f47.ntmps 300 (aN f47 0) (XW M47) (af vS) (Im.pat p) (fR Im.rd)=Jq M47 p:=by kernel_rfl
def Oc(M47:aj->Int->af Ef):=b6 (Jq M47)
def ayV(M47:aj->Int->af Ef):An:=(noTwo (noTwo (.two (noTwo (Im.lp (Oc M47) (XW M47))) .no)))
def aA6{M47}:∀f∈([]:aa Nat),aZ (F47 M47) f:=aC
def aA4(M47:aj->Int->af Ef):bx wR (F47 M47) 0 300 47 (ayV M47):=aD (l:=[(aN f47 0,(Im.lp (Oc M47) (XW M47))),(.skip,(.rb [] 16))]) func47 (aq (by kernel_rfl)) (by kernel_rfl) (aA ⟨Im.ok _,bt (avc M47)⟩ (aA aA6 aC))
def s47(M47:aj->Int->af Ef)(a0:aj)(a1:Int):af Ef:=
 match Oc M47 (vS.mk (i64.wrap (a1-1)) 0 (aj.mk a0.bG a0.fN a0.ay))with|J=>J|Q r3=>match bif Z (r3.t5<yz r3.b0.ay)then Q (Z (0<=r3.t1))else Q V with|J=>J|Q r4=>bif r4 then if 0<=r3.t5/\r3.t5<yz r3.b0.ay then match M47 (aj.mk r3.b0.ay[zB r3.t5]!.bG r3.b0.ay[zB r3.t5]!.fN r3.b0.ay[zB r3.t5]!.ay) r3.t1 with|J=>J|Q r5=>J else J else Q (r3.t1)
def c47(M47:aj->Int->af Ef)(a0:aj)(a1:Int):aO wR (F47 M47) 300 (ayV M47) 47 (A47.c (a0,a1,())) [] 0 d47.rd=s47 M47 a0 a1:=by kernel_rfl
def awe:Nat->(aj->Int->af Ef)
 |0=>(λ_ _=>J)
 |n+1=>(s47 (awe n))
def m47(n:Nat):aj->Int->af Ef:=(awe n)
def O3:∀n,H47 (m47 n)
 |0=>λ_ _ h=>(by cases h)
 |n+1=>by
  have ih:=O3 n;have i47:=ih;exact(bq (an2 i47) (aA4 (m47 n)) (λ_=>by kernel_rfl) (λ_=>by kernel_rfl) λg=>c47 (m47 n) g.1 g.2.1)
def r47:aj->Int->af Ef:=λa0 a1=>lim (λn=>m47 n a0 a1)
def apC:H47 r47:=λg b h=>by
 obtain⟨n,hn⟩:=bX (show lim (λn=>m47 n g.1 g.2.1)=Q b from h);exact(O3 n) g b hn
def e47(F:aI):aI:=x47 r47 F
def VJ{F:aI}(h:ak wR F):ak wR (e47 F):=WZ apC h
abbrev F6:=Int
def d46:Td 0 F6:= .c [] [4] (.r 0 0 (ec 4 aL en) sn (λz=>z.1.1) (λx=>((x,()),(()))))
def A46:=(lc (ql 111) (aW ln))
def x46(M:(aa ax)->Int->af F6):aI->aI:=eL wR 46 V A46 d46 (λg=>M g.1 g.2.1)
def H46(M:(aa ax)->Int->af F6):Prop:=HL wR 46 A46 d46 (λg=>M g.1 g.2.1)
def Xg{M:(aa ax)->Int->af F6}(hM:H46 M){F:aI}(h:ak wR F):ak wR (x46 M F):=bA (sc:=dM) aX hM ⟨_,func46,by kernel_rfl,by kernel_rfl⟩ (λ_=>by kernel_rfl) (λ_=>by kernel_rfl) h
def F46(M46:(aa ax)->Int->af F6):aI:=(e47 (x46 M46 cw))
def aos{M46}(h46:H46 M46):ak wR (F46 M46):=(VJ (Xg h46 aQ))
structure AS where
 t0:List ax
 (t1 t5:Int)
def ID:Td 0 AS:= .c [] [0,1,5] (.r 0 0 (ec 0 (ql 111) (ec 1 aL (ec 5 aL en))) sn (λz=>⟨z.1.1,z.1.2.1,z.1.t.1⟩) (λx=>((x.t0,x.t1,x.t5,()),(()))))
def DV(M46:(aa ax)->Int->af F6)(p:AS):af (af AS):=
 match bif Z (p.t5<yz p.t0)then Q (Z (0<=p.t1))else Q V with|J=>J|Q r1=>bif r1 then if 0<=p.t5/\p.t5<yz p.t0 then match r47 (aj.mk p.t0[zB p.t5]!.aB.bG p.t0[zB p.t5]!.aB.fN p.t0[zB p.t5]!.aB.ay) (i64.wrap (p.t1-1))with|J=>J|Q r2=>if 0<=p.t5/\p.t5<yz p.t0 then bif Z (r2<(↑p.t0[zB p.t5]!.aK.length:Int))then Q (J)else if 0<=p.t5/\p.t5<yz p.t0 then if 0<=p.t5/\p.t5<yz p.t0 then if 0<=p.t5/\p.t5<yz p.t0 then match M46 p.t0[zB p.t5]!.aU (i64.wrap (r2-(↑p.t0[zB p.t5]!.aK.length:Int)))with|J=>J|Q r3=>match M46 p.t0[zB p.t5]!.aV r3 with|J=>J|Q r4=>Q (Q (AS.mk p.t0 r4 (i64.wrap (p.t5+1))))else J else J else J else J else J else Q (J)
def Tz(M46:(aa ax)->Int->af F6):An:=(.two (.two (.rb [] 13) .no) .no)
def asq(M46:(aa ax)->Int->af F6)(p:AS):bK wR (F46 M46) f46.ntmps 300 (aN f46 0) (Tz M46) (af AS) (ID.pat p) (fR ID.rd)=DV M46 p:=by kernel_rfl
def Pz(M46:(aa ax)->Int->af F6):=b6 (DV M46)
def avH(M46:(aa ax)->Int->af F6):An:=(noTwo (.two (noTwo (ID.lp (Pz M46) (Tz M46))) .no))
def aDa{M46}:∀f∈([]:aa Nat),aZ (F46 M46) f:=aC
def aCk(M46:(aa ax)->Int->af F6):bx wR (F46 M46) 0 300 46 (avH M46):=aD (l:=[(aN f46 0,(ID.lp (Pz M46) (Tz M46))),(.skip,(.rb [] 13))]) func46 (aq (by kernel_rfl)) (by kernel_rfl) (aA ⟨ID.ok _,bt (asq M46)⟩ (aA aDa aC))
def s46(M46:(aa ax)->Int->af F6)(a0:aa ax)(a1:Int):af F6:=
 match Pz M46 (AS.mk a0 a1 0)with|J=>J|Q r5=>match bif Z (r5.t5<yz r5.t0)then Q (Z (0<=r5.t1))else Q V with|J=>J|Q r6=>bif r6 then if 0<=r5.t5/\r5.t5<yz r5.t0 then match r47 (aj.mk r5.t0[zB r5.t5]!.aB.bG r5.t0[zB r5.t5]!.aB.fN r5.t0[zB r5.t5]!.aB.ay) (i64.wrap (r5.t1-1))with|J=>J|Q r7=>if 0<=r5.t5/\r5.t5<yz r5.t0 then bif Z (r7<(↑r5.t0[zB r5.t5]!.aK.length:Int))then Q (-1)else if 0<=r5.t5/\r5.t5<yz r5.t0 then if 0<=r5.t5/\r5.t5<yz r5.t0 then if 0<=r5.t5/\r5.t5<yz r5.t0 then match M46 r5.t0[zB r5.t5]!.aU (i64.wrap (r7-(↑r5.t0[zB r5.t5]!.aK.length:Int)))with|J=>J|Q r8=>match M46 r5.t0[zB r5.t5]!.aV r8 with|J=>J|Q r9=>J else J else J else J else J else J else Q (r5.t1)
def c46(M46:(aa ax)->Int->af F6)(a0:aa ax)(a1:Int):aO wR (F46 M46) 300 (avH M46) 46 (A46.c (a0,a1,())) [] 0 d46.rd=s46 M46 a0 a1:=by kernel_rfl
def aq8:Nat->((aa ax)->Int->af F6)
 |0=>(λ_ _=>J)
 |n+1=>(s46 (aq8 n))
def m46(n:Nat):(aa ax)->Int->af F6:=(aq8 n)
def PC:∀n,H46 (m46 n)
 |0=>λ_ _ h=>(by cases h)
 |n+1=>by
  have ih:=PC n;have i46:=ih;exact(bq (aos i46) (aCk (m46 n)) (λ_=>by kernel_rfl) (λ_=>by kernel_rfl) λg=>c46 (m46 n) g.1 g.2.1)
def r46:(aa ax)->Int->af F6:=λa0 a1=>lim (λn=>m46 n a0 a1)
def ani:H46 r46:=λg b h=>by
 obtain⟨n,hn⟩:=bX (show lim (λn=>m46 n g.1 g.2.1)=Q b from h);exact(PC n) g b hn
def e46(F:aI):aI:=x46 r46 F
def alF{F:aI}(h:ak wR F):ak wR (e46 F):=Xg ani h
def F13:aI:=(e47 (e46 cw))
def aoz:ak wR F13:=(VJ (alF aQ))
structure Az where
 t7:Int
 t27:List cG
 (t28 t29:Int)
def HA:Td 0 Az:= .c [] [7,27,28,29] (.r 0 0 (ec 7 aL (ec 27 (ql 116) (ec 28 aL (ec 29 aL en)))) sn (λz=>⟨z.1.1,z.1.2.1,z.1.t.1,z.1.t.2.1⟩) (λx=>((x.t7,x.t27,x.t28,x.t29,()),(()))))
def C7(p:Az):af (af Az):=
 bif Z (p.t29<p.t28)then if 0<=p.t29/\p.t29<yz p.t27 then match r47 (aj.mk p.t27[zB p.t29]!.aB.bG p.t27[zB p.t29]!.aB.fN p.t27[zB p.t29]!.aB.ay) p.t7 with|J=>J|Q r1=>Q (Q (Az.mk r1 p.t27 p.t28 (i64.wrap (p.t29+1))))else J else Q (J)
def auq(p:Az):bK wR (F13) f13.ntmps 300 (aN f13 0) .no (af Az) (HA.pat p) (fR HA.rd)=C7 p:=by kernel_rfl
def NW:=b6 (C7)
abbrev E13:=Bool
def d13:Td 0 E13:= .c [] [6] (.r 0 0 (ec 6 qb en) sn (λz=>z.1.1) (λx=>((x,()),(()))))
def A13:=(lc (qg 26) (aW (aW ln)))
def aq5:An:=(noTwo (.two (.two (.rb [] 21) .no) (noTwo (.two (noTwo (HA.lp NW .no)) .no))))
def aC5:∀f∈([]:aa Nat),aZ (F13) f:=aC
def aBp:bx wR (F13) 0 300 13 (aq5):=aD (l:=[(.skip,(.rb [] 21)),(aN f13 0,(HA.lp NW .no))]) func13 (aq (by kernel_rfl)) (by kernel_rfl) (aA aC5 (aA ⟨HA.ok _,bt (auq)⟩ aC))
def m13(a0:bB)(a1:Int)(a2:Int):af E13:=
 match bif Z (a1<yz a0.ah)then Q O else Q (Z (a1<yz a0.ai))with|J=>J|Q r2=>bif r2 then Q V else match r46 a0.bR a2 with|J=>J|Q r3=>match NW (Az.mk r3 a0.ai (yz a0.ai) 0)with|J=>J|Q r4=>bif Z (r4.t29<r4.t28)then if 0<=r4.t29/\r4.t29<yz r4.t27 then match r47 (aj.mk r4.t27[zB r4.t29]!.aB.bG r4.t27[zB r4.t29]!.aB.fN r4.t27[zB r4.t29]!.aB.ay) r4.t7 with|J=>J|Q r5=>J else J else Q (Z (0<=r4.t7))
def c13(a0:bB)(a1:Int)(a2:Int):aO wR (F13) 300 (aq5) 13 (A13.c (a0,a1,a2,())) [] 0 d13.rd=m13 a0 a1 a2:=by kernel_rfl
def h13:HL wR 13 A13 d13 (λg=>m13 g.1 g.2.1 g.2.2.1):=(bq aoz aBp (λ_=>by kernel_rfl) (λ_=>by kernel_rfl) λg=>c13 g.1 g.2.1 g.2.2.1)
def e13:=eL wR 13 V A13 d13 (λg=>m13 g.1 g.2.1 g.t.1)
def alX{F:aI}(h:ak wR F):ak wR (e13 F):=bA (sc:=dM) aX h13 ⟨_,func13,by kernel_rfl,by kernel_rfl⟩ (λ_=>by kernel_rfl) (λ_=>by kernel_rfl) h
def aj.eta(t:aj):aj.mk t.bG t.fN t.ay=t:=by cases t;rfl
def aj.eU{t k:aj}(h:k∈t.ay):zl k<zl t:=by
 cases t;have:=wQ h;simp only[aj.mk.sizeOf_spec];simp only at this;omega
def nT(t:aj):Nat:=1+(t.ay.attach.map λk=>nT k.1).sum
termination_by zl t
decreasing_by exact aj.eU k.2
def jd(l:aa aj):Nat:=(l.map nT).sum
def qX(t:aj):nT t=1+jd t.ay:=by
 rw[nT,jd];simp
def mI(k:aj)(ks:aa aj):jd (k::ks)=nT k+jd ks:=by simp[jd]
def OM{k:aj}{ks:aa aj}(h:k∈ks):nT k<=jd ks:=by
 induction ks with
 |nil=>cases h
 |cons a ks ih=>
  rw[mI];rcases zu.1 h with rfl|h
  ·omega
  ·have:=ih h;omega
def Xc(t:aj):0<nT t:=by rw[qX];omega
def tl(t:aj)(left:Int):Int:=if(nT t:Int)<=left then left-nT t else if 0<=left then-1 else left-1
def tls:aa aj->Int->Int
 |[],l=>l
 |k::ks,l=>if 0<=l then tls ks (tl k l)else l
def RQ:∀(ks:aa aj) (l:Int),tls ks l=if 0<=l then(if(jd ks:Int)<=l then l-jd ks else-1)else l
 |[],l=>by simp[tls,jd];omega
 |k::ks,l=>by
  have e:=mI k ks;unfold tls;by_cases h:0<=l
  ·rw[bS h,bS h,RQ ks,e];unfold tl;grind
  ·omega
def axd(t:aj)(left:Int):tl t left=tls t.ay (left-1):=by
 rw[RQ,tl,qX];grind
def SY(t:aj)(l:Int):(0<=l-> -1<=tl t l/\tl t l<=l-1)/\(l<0->tl t l=l-1):=by
 have:=Xc t;unfold tl;grind
def T5(M:aj->Int->af Ef)(t:aj)(hM:∀k∈t.ay,∀l:Int,0<=l->l<=1000->M k l=Q (tl k l)):
  ∀(ks:aa aj) (i:Nat) (l:Int),t.ay.drop i=ks->i+yz ks=yz t.ay->l<=1000-i->∃q,Oc M ⟨l,i,t⟩=Q q/\q.t1=tls ks l/\q.b0=t/\(q.t5<yz t.ay->q.t1<0)
 |[],i,l,hd,hl,_=>by
  refine⟨_,cE λr=> ?_,rfl,rfl,λh=> ?_⟩
  ·have:¬((i:Int)<yz t.ay):=by simp at hl;omega
   simp[Jq,this]
  ·simp at hl h;omega
 |k::ks,i,l,hd,hl,h2=>by
  have hil:i<yz t.ay:=by simp at hl;omega
  have hki:t.ay[i]! =k:=by
   have:t.ay[i]? =Q k:=by
    have:=congrArg List.head? hd;rw[List.head?_drop]at this
    assumption
   rw[List.getElem!_eq_getElem?_getD,this];rfl
  have hmem:k∈t.ay:=by rw[<-hki,getElem!_pos t.ay i hil];exact yJ hil
  by_cases h0:0<=l
  ·have hd':t.ay.drop (i+1)=ks:=by
    have:=congrArg List.tail hd;rw[List.tail_drop]at this
    assumption
   have b3:=((SY k l).1 h0).2;obtain⟨q,e1,e2,e3,e4⟩:=T5 M t hM ks (i+1) (tl k l) hd' (by simp at hl;omega) (by omega);refine⟨q,?_,?_,e3,e4⟩
   ·rw[<-e1];refine cB ?_;have hw:i64.wrap ((i:Int)+1)=((i+1:Nat):Int):=by rw[aJ (by omega) (by omega)];omega
    have hk2:t.ay[i]=k:=by rw[<-hki,getElem!_pos t.ay i hil]
    simp[Jq,hil,h0,hk2,aj.eta,hM k hmem l h0 (by omega)];exact hw
   ·rw[e2];show _=if 0<=l then _ else _
    omega
  ·refine⟨_,cE λr=> ?_,?_,rfl,λh=> ?_⟩
   ·simp[Jq,h0]
   ·show l=if 0<=l then _ else l
    omega
   ·simp only;omega
def apv(M:aj->Int->af Ef)(t:aj)(hM:∀k∈t.ay,∀l:Int,0<=l->l<=1000->M k l=Q (tl k l))(l:Int)(h1: -1000000<=l)(h2:l<=1000):s47 M t l=Q (tl t l):=by
 obtain⟨q,e1,e2,e3,e4⟩:=T5 M t hM t.ay 0 (l-1) rfl (by simp) (by omega);have hw:i64.wrap (l-1)=l-1:=aJ (by omega) (by omega);rw[axd,<-e2];unfold s47;rw[hw,aj.eta,show ((0:Nat):Int)=0 from rfl]at*;rw[e1];obtain⟨q1,q5,qb⟩:=q;subst e3;dsimp only at*;by_cases h5:q5<(yz qb.ay:Int)
 ·have:=e4 h5;simp[show ¬(0<=q1)by omega]
 ·simp[h5]
def Vg:∀(n:Nat) (t:aj) (l:Int),zl t<n-> -1000000<=l->l<=1000->m47 n t l=Q (tl t l)
 |0,_,_,h,_,_=>by omega
 |n+1,t,l,h,h1,h2=>apv (m47 n) t (λk hk l h3 h4=>Vg n k l (by have:=aj.eU hk;omega) (by omega) h4) l h1 h2
def KX(t:aj)(l:Int)(h1: -1000000<=l)(h2:l<=1000):r47 t l=Q (tl t l):=dg (zl t+1) λn hn=>Vg n t l (by omega) h1 h2
def ax.then_lt{s k:ax}(h:k∈s.aU):zl k<zl s:=by
 cases s;have:=wQ h;simp only[ax.mk.sizeOf_spec];simp only at this;omega
def ax.aej{s k:ax}(h:k∈s.aV):zl k<zl s:=by
 cases s;have:=wQ h;simp only[ax.mk.sizeOf_spec];simp only at this;omega
def ax.eta(s:ax):ax.mk s.cM s.bN s.bz s.fN s.aB s.aU s.aV s.aK=s:=by cases s;rfl
def nS(s:ax):Nat:=1+nT s.aB+yz s.aK+(s.aU.attach.map λk=>nS k.1).sum+(s.aV.attach.map λk=>nS k.1).sum
termination_by zl s
decreasing_by
 ·exact ax.then_lt k.2
 ·exact ax.aej k.2
def gi(l:aa ax):Nat:=(l.map nS).sum
def mh(s:ax):nS s=1+nT s.aB+yz s.aK+gi s.aU+gi s.aV:=by
 rw[nS,gi,gi];simp
def ki(k:ax)(ks:aa ax):gi (k::ks)=nS k+gi ks:=by simp[gi]
def sl(l:aa ax)(left:Int):Int:=if left<0 then left else if(gi l:Int)<=left then left-gi l else-1
def og(left:Int)(s:ax):af Int:=if left<0 then J else if tl s.aB (left-1)<yz s.aK then J else Q (sl s.aV (sl s.aU (tl s.aB (left-1)-s.aK.length)))
def Ho{left x:Int}{s:ax}(h:og left s=Q x):0<=left/\ -1<=x/\x<=left-1/\x=if(nS s:Int)<=left then left-nS s else-1:=by
 unfold og at h;have e:=mh s;unfold tl sl at h;grind
def KA{left:Int}{s:ax}(h:og left s=J)(h0:0<=left):left<nS s:=by
 unfold og at h;have e:=mh s;unfold tl at h;grind
def af4:∀(l:aa ax) (left:Int),iG og (λv _=>if v<0 then v else-1) id l left=sl l left
 |[],left=>by unfold sl;simp[gi,iG];omega
 |s::l,left=>by
  have e:=ki s l;unfold iG;cases hs:og left s with
  |none=>
   have:=KA hs;unfold sl;grind
  |some x=>
   obtain⟨h1,h2,h3,h4⟩:=Ho hs;dsimp only;rw[af4 l x];unfold sl;grind
def apP(M:aa ax->Int->af F6)(l:aa ax)(hM:∀s∈l,(∀x:Int,-1<=x->x<=1000->M s.aU x=Q (sl s.aU x))/\(∀x:Int,-1<=x->x<=1000->M s.aV x=Q (sl s.aV x)))(left:Int)(h1: -1<=left)(h2:left<=1000):
  s46 M l left=Q (sl l left):=by
 have hstep:∀(i:Nat) (b:Int) (hi:i<yz l),b<=1000-i-> -1<=b->DV M ⟨l,b,i⟩=if b<0 then Q J else if tl l[i].aB (b-1)<yz l[i].aK then Q J else Q (Q ⟨l,sl l[i].aV (sl l[i].aU (tl l[i].aB (b-1)-l[i].aK.length)),((i+1:Nat):Int)⟩):=λi b hi hb hb2=>by
  obtain⟨m1,m2⟩:=hM l[i] (yJ hi);unfold DV;by_cases h0:b<0
  ·simp[show ¬0<=b by omega]
  ·have e1:i64.wrap (b-1)=b-1:=aJ (by omega) (by omega);have e2:=KX l[i].aB (b-1) (by omega) (by omega);have e3:=SY l[i].aB (b-1);have hT: -2<=tl l[i].aB (b-1)/\tl l[i].aB (b-1)<=1000:=by grind
   by_cases h4:tl l[i].aB (b-1)<yz l[i].aK
   ·simp[hi,e1,aj.eta,e2,h4]
   ·have e5:i64.wrap (tl l[i].aB (b-1)-l[i].aK.length)=tl l[i].aB (b-1)-l[i].aK.length:=aJ (by omega) (by omega);have e6:=m1 (tl l[i].aB (b-1)-l[i].aK.length) (by omega) (by omega);have hS: -1<=sl l[i].aU (tl l[i].aB (b-1)-l[i].aK.length)/\sl l[i].aU (tl l[i].aB (b-1)-l[i].aK.length)<=1000:=by unfold sl;grind
    have e7:=m2 _ hS.1 hS.2;have e8:i64.wrap ((i:Int)+1)=((i+1:Nat):Int):=by rw[aJ (by omega) (by omega)];omega
    simp[hi,h0,e1,aj.eta,e2,h4,e5,e6,e7,show 0<=b by omega];exact e8
 obtain⟨i,v,hi,e1,⟨e2,e3⟩,e4⟩:=Dt (rnd:=DV M) l (λi b=>⟨l,b,(i:Int)⟩) og (λv _=>if v<0 then v else-1) id (λi b=>b<=1000-i/\ -1<=b) (λi b hi hI b' hs=>by
   obtain⟨q1,q2,q3,q4⟩:=Ho hs;refine⟨?_,by omega,q2⟩;unfold og at hs;grind) (λi b hi hI hs r=>by
   unfold og at hs;grind) (λb hI r=>by simp[DV]) (b:=left) ⟨by omega,h1⟩
 have e1':Pz M ⟨l,left,0⟩=Q ⟨l,v,i⟩:=e1;unfold s46;rw[e1'];rw[af4]at e4;rcases e4 with ⟨h5,e4⟩|⟨h5,hn,e4⟩
 ·simp[h5,e4]
 ·rw[e4];by_cases h0:v<0
  ·simp[h5,h0,show ¬(0<=v)by omega]
  ·have e1:i64.wrap (v-1)=v-1:=aJ (by omega) (by omega);have e2:=KX l[i].aB (v-1) (by omega) (by omega);have h4:tl l[i].aB (v-1)<yz l[i].aK:=by unfold og at hn;grind
   simp[h5,h0,show 0<=v by omega,e1,aj.eta,e2,h4]
def bg{s:ax}{l:aa ax}(h:s∈l):zl s.aU<zl l/\zl s.aV<zl l:=by
 have:=wQ h;cases s;simp only[ax.mk.sizeOf_spec]at this;simp only;omega
def LJ:∀(n:Nat) (l:aa ax) (x:Int),zl l<n-> -1<=x->x<=1000->m46 n l x=Q (sl l x)
 |0,_,_,h,_,_=>by omega
 |n+1,l,x,h,h1,h2=>apP (m46 n) l (λs hs=>⟨λx h3 h4=>LJ n _ x (by have:=bg hs;omega) h3 h4,λx h3 h4=>LJ n _ x (by have:=bg hs;omega) h3 h4⟩) x h1 h2
def apA(l:aa ax)(x:Int)(h1: -1<=x)(h2:x<=1000):r46 l x=Q (sl l x):=dg (zl l+1) λn hn=>LJ n l x (by omega) h1 h2
def few(f:bB)(vars nodes:Int):Bool:=Z ((yz f.ah:Int)<=vars/\(yz f.ai:Int)<=vars/\(gi f.bR+jd (f.ai.map (·.aB)):Int)<=nodes)
def alv(f:bB)(vars nodes:Int)(h1:0<=vars)(h2:vars<=1000)(h3:0<=nodes)(h4:nodes<=1000):m13 f vars nodes=Q (few f vars nodes):=by
 unfold m13;by_cases q1:vars<yz f.ah
 ·simp[q1,few];omega
 ·by_cases q2:vars<yz f.ai
  ·simp[q2,few];omega
  ·rw[apA _ _ (by omega) (by omega)];have hb:sl f.bR nodes<=1000/\ -1<=sl f.bR nodes:=by unfold sl;grind
   have hstep:∀(i:Nat) (b:Int) (hi:i<yz f.ai),b<=1000-> -1-(i:Int)<=b->C7 ⟨b,f.ai,yz f.ai,i⟩=Q (Q ⟨tl f.ai[i].aB b,f.ai,yz f.ai,((i+1:Nat):Int)⟩):=λi b hi hb hb2=>by
    have e2:=KX f.ai[i].aB b (by omega) (by omega);have e8:i64.wrap ((i:Int)+1)=((i+1:Nat):Int):=by rw[aJ (by omega) (by omega)];omega
    unfold C7;simp[hi,aj.eta,e2];exact e8
   obtain⟨i,v,hi,e1,_,e4⟩:=Dt (rnd:=C7) f.ai (λi b=>⟨b,f.ai,yz f.ai,(i:Int)⟩) (λb h=>Q (tl h.aB b)) (λv _=>v) id (λi b=>b<=1000/\ -1-(i:Int)<=b) (λi b hi hI b' hs=>by
     have:=SY f.ai[i].aB b;grind) (λi b hi hI hs r=>by cases hs) (λb hI r=>by simp[C7]) (b:=sl f.bR nodes) ⟨hb.1,by omega⟩
   have e1':NW ⟨sl f.bR nodes,f.ai,yz f.ai,0⟩=Q ⟨v,f.ai,yz f.ai,i⟩:=e1;rcases e4 with ⟨h5,e4⟩|⟨_,hn,_⟩
   case inr=>cases hn
   have key:∀(l:aa cG) (b:Int),0<=iG (ρ:=Int) (λb h=>Q (tl h.aB b)) (λv _=>v) id l b↔(jd (l.map (·.aB)):Int)<=b:=λl=>by
    induction l with
    |nil=>intro b;simp[iG,jd]
    |cons h l ih=>
     intro b;unfold iG;rw[ih,zO,mI];unfold tl;grind
   have k2:=key f.ai (sl f.bR nodes);rw[e4]at k2;have k3:(0<=v)↔(jd (f.ai.map (·.aB)):Int)<=sl f.bR nodes:=k2;simp only[q1,q2,jk,cL,e1',h5,zJ,few]
   congr 1
   rw[decide_eq_decide,k3];unfold sl;grind
def Z0:((0:Nat):Int)=(0:Int):=rfl
def okc(i:Nat)(c:Int):Bool:=Z ((97<=c/\c<=122)\/(i≠0/\((48<=c/\c<=57)\/c=46\/c=95)))
def iy(s:ByteArray):Bool:=Z (1<=s.size)&&Z (s.size<=40)&&(zU s.size).all λi=>okc i (bL s i)
def iC(low high:Int):Bool:=Z (low<=high/\ -1048576<=low/\high<=1048576)
def od(vars:aa aT)(i:Nat)(v:aT):Int:=
 if iy v.fName=V then 7
 else if((vars.take i).any λw=>w.fName.toList==v.fName.toList)=O then 8
 else if v.bU<0\/3<v.bU then 1
 else if iC v.aG v.au=V then 3
 else if v.bU=0 then(if v.gj<v.aG\/v.au<v.gj then 3 else 0)
 else if v.gj=0 then 0 else 3
def tV(kind:Int):aa aT->Int->af Int
 |[],n=>Q n
 |v::vs,n=>if v.bU=kind then(if 4096<n*(v.au-v.aG+1)then J else tV kind vs (n*(v.au-v.aG+1)))else tV kind vs n
def Lk(vars:aa aT):Bool:=(tV 1 vars 1).isSome&&(tV 2 vars 1).isSome&&(match tV 3 vars 1 with|Q n=>Z (n<=256)|J=>V)
def lQ(vars:aa aT):Int:=if eE (od vars) vars 0≠0 then eE (od vars) vars 0 else if Lk vars=O then 0 else 4
def bW(o:Int):Int×Int:=if o=0\/o=24 then(0,0)else if o=6\/o=7 then(1,1)else if 8<=o/\o<=22 then(2,2)else if o=23 then(3,3)else if o=25 then(2,33)else(-1,-1)
def Ba(vars:aa aT)(inp:Bool)(t:aj):Bool:=Z (0<=(bW t.bG).1/\(bW t.bG).1<=yz t.ay/\(yz t.ay:Int)<=(bW t.bG).2)&&
 (if t.bG=0 then O else if t.bG=24 then Z (0<=t.fN/\t.fN<yz vars)&& !(inp&&Z (vars[t.fN.toNat]!.bU=0))else Z (t.fN=0))
def dy(vars:aa aT)(inp:Bool)(t:aj):Bool:=Ba vars inp t&&t.ay.attach.all λk=>dy vars inp k.1
termination_by zl t
decreasing_by exact aj.eU k.2
def jZ(vars:aa aT)(inp:Bool)(t:aj):dy vars inp t=(Ba vars inp t&&t.ay.all (dy vars inp)):=by
 rw[dy];simp
def fW(a b:Span):Span:=⟨if b.aG<a.aG then b.aG else a.aG,if a.au<b.au then b.au else a.au⟩
def gR(vars:aa aT)(t:aj)(k:aa Span):Span:=
 if t.bG=0 then⟨t.fN,t.fN⟩
 else if t.bG=24 then⟨vars[t.fN.toNat]!.aG,vars[t.fN.toNat]!.au⟩
 else if t.bG=6 then⟨-k[0]!.au,-k[0]!.aG⟩
 else if t.bG=8 then⟨k[0]!.aG+k[1]!.aG,k[0]!.au+k[1]!.au⟩
 else if t.bG=9 then⟨k[0]!.aG-k[1]!.au,k[0]!.au-k[1]!.aG⟩
 else if t.bG=10 then
  fW (fW (fW ⟨k[0]!.aG*k[1]!.aG,k[0]!.aG*k[1]!.aG⟩ ⟨k[0]!.aG*k[1]!.au,k[0]!.aG*k[1]!.au⟩) ⟨k[0]!.au*k[1]!.aG,k[0]!.au*k[1]!.aG⟩) ⟨k[0]!.au*k[1]!.au,k[0]!.au*k[1]!.au⟩
 else if t.bG=11 then
  (if(0:Int)<=k[0]!.aG/\(0:Int)<=k[1]!.aG then⟨0,if k[0]!.au< -k[0]!.aG then-k[0]!.aG else k[0]!.au⟩else⟨-(if k[0]!.au< -k[0]!.aG then-k[0]!.aG else k[0]!.au),if k[0]!.au< -k[0]!.aG then-k[0]!.aG else k[0]!.au⟩)
 else if t.bG=12 then⟨if k[1]!.aG<0 then k[1]!.aG+1 else 0,if(0:Int)<k[1]!.au then k[1]!.au-1 else 0⟩
 else if t.bG=21 then⟨if k[1]!.aG<k[0]!.aG then k[1]!.aG else k[0]!.aG,if k[1]!.au<k[0]!.au then k[1]!.au else k[0]!.au⟩
 else if t.bG=22 then⟨if k[0]!.aG<k[1]!.aG then k[1]!.aG else k[0]!.aG,if k[0]!.au<k[1]!.au then k[1]!.au else k[0]!.au⟩
 else if t.bG=23\/t.bG=25 then(k.drop 2).foldl fW k[1]!
 else⟨0,1⟩
def uD(s:Span):Bool:=Z (-1048576<=s.aG/\s.au<=1048576)
def jJ:aa (af Span)->af (aa Span)
 |[]=>Q []
 |none::_=>J
 |some s::xs=>match jJ xs with|Q l=>Q (s::l)|J=>J
def je(vars:aa aT)(t:aj):af Span:=match jJ (t.ay.attach.map λk=>je vars k.1)with
 |none=>J
 |some l=>if uD (gR vars t l)=O then Q (gR vars t l)else J
termination_by zl t
decreasing_by exact aj.eU k.2
def EO(vars:aa aT)(t:aj):je vars t=match jJ (t.ay.map (je vars))with
 |none=>J
 |some l=>if uD (gR vars t l)=O then Q (gR vars t l)else J:=by
 rw[je];simp
def lN(vars:aa aT)(inp:Bool)(t:aj):Int:=if dy vars inp t=V then 1 else if(je vars t).isSome then 0 else 3
def jX(f:bB)(i:Nat)(h:cG):Int:=
 if iy h.fName=V then 7
 else if((f.ai.take i).any λw=>w.fName.toList==h.fName.toList)=O then 8
 else if iC h.aG h.au=V then 3
 else lN f.ah O h.aB
def dT(t:aj):Int:=1+(t.ay.attach.map λk=>dT k.1).foldl max 0
termination_by zl t
decreasing_by exact aj.eU k.2
def Ks(l:aa aj):Int:=(l.map dT).foldl max 0
def OQ(t:aj):dT t=1+Ks t.ay:=by
 rw[dT,Ks];simp
def vB(l:aa aj)(k:aj):Ks (l++[k])=max (Ks l) (dT k):=by
 unfold Ks;simp
def nv(l:aa aj)(k:aj):jd (l++[k])=jd l+nT k:=by
 simp[jd]
def p7:∀(l:aa Int) (a:Int),a<=l.foldl max a
 |[],a=>zL _
 |x::l,a=>Int.le_trans (Int.le_max_left a x) (p7 l (max a x))
def Ed(l:aa aj):0<=Ks l:=p7 _ _
def am4(t:aj):1<=dT t:=by have:=Ed t.ay;rw[OQ];omega
def eG(s:ax)(l:aa ax):zl l<zl (s::l):=by
 rw[List.cons.sizeOf_spec];omega
def gZ:aa ax->Int
 |[]=>0
 |s::l=>max (max (gZ s.aU+1) (gZ s.aV+1)) (gZ l)
termination_by l=>zl l
decreasing_by
 ·exact(bg (zq ..)).1
 ·exact(bg (zq ..)).2
 ·exact eG _ _
def eH:aa ax->Bool
 |[]=>V
 |s::l=>Z (12<dT s.aB)||eH s.aU||eH s.aV||eH l
termination_by l=>zl l
decreasing_by
 ·exact(bg (zq ..)).1
 ·exact(bg (zq ..)).2
 ·exact eG _ _
def qH(l:aa ax):0<=gZ l:=by
 induction l with
 |nil=>rw[gZ];omega
 |cons s l ih=>rw[gZ];omega
def Wu(l:aa ax)(s:ax):gZ (l++[s])=max (gZ l) (max (gZ s.aU+1) (gZ s.aV+1)):=by
 induction l with
 |nil=>
  rw[yR,show gZ []=0 by rw[gZ],gZ,show gZ []=0 by rw[gZ]];omega
 |cons a l ih=>rw[yZ,gZ,gZ,ih];omega
def Gl(l:aa ax)(k:ax):gi (l++[k])=gi l+nS k:=by simp[gi]
def sY(f:bB):Bool:=Z (yz f.ah<=64)&&Z (yz f.ai<=8)&&f.ai.all (λh=>Z (dT h.aB<=12))&&Z (gZ f.bR<=12)&& !eH f.bR
def iV:aa Int->Bool
 |a::b::l=>Z (a<b)&&iV (b::l)
 |_=>O
def tL(t:aj):Bool:=Z (t.bG=0/\t.fN=0/\yz t.ay=0)
def B9(f:bB)(s:ax):Bool:=Z (0<=s.bz/\s.bz<yz f.ah)&&Z (f.ah[s.bz.toNat]!.bU=0)
def dx(f:bB)(s:ax)(last:Bool):Bool:=
 let free:=Z (yz s.aU=0/\yz s.aV=0)
 let nob:=Z (yz s.aK=0)
 if s.cM=0 then free&&B9 f s&&Z (s.fN=0)&&nob
 else if s.cM=1 then free&&Z (s.bz=0)&&Z (s.fN=0)&&nob
 else if s.cM=2 then free&&Z (s.bz=0)&&Z (s.fN=0)&&nob&&tL s.aB
 else if s.cM=3 then Z (s.bz=0)&&Z (s.fN=0)&&nob
 else if s.cM=4 then Z (s.bz=0)&&Z (yz s.aV=0)&&nob
 else if s.cM=5 then free&&B9 f s&&Z (0<=s.fN/\s.fN<yz f.ai)&&nob&&tL s.aB
 else if s.cM=6 then free&&last&&Z (s.bz=0)&&Z (s.fN=0)&&tL s.aB&&(Z (1<=yz s.aK/\yz s.aK<=32)&&Z ((0:Int)<=s.aK[0]!)&&iV s.aK)
 else V
def uG(s:ax):Bool:=Z (0<=s.bN/\s.bN<=(if s.cM=2 then 67108864 else 10000))&&(if s.cM=4 then Z (0<=s.fN/\s.fN<=4096)else O)&&(if s.cM=6 then Z (s.aK[yz s.aK-1]!<=67108864)else O)
def qV(f:bB)(last:Bool)(s:ax):Int:=if dx f s last=V then 1 else if uG s=V then 3 else lN f.ah V s.aB
def cQ(f:bB)(top:Bool):aa ax->Int
 |[]=>0
 |s::l=>if qV f (top&&l.isEmpty) s≠0 then qV f (top&&l.isEmpty) s else if cQ f V s.aU≠0 then cQ f V s.aU else if cQ f V s.aV≠0 then cQ f V s.aV else cQ f top l
termination_by l=>zl l
decreasing_by
 all_goals first|exact(bg (zq ..)).1|exact(bg (zq ..)).2|exact eG _ _
def RK(f:bB)(top:Bool)(n i:Nat)(s:ax):Int:=if qV f (top&&Z (i+1=n)) s≠0 then qV f (top&&Z (i+1=n)) s else if cQ f V s.aU≠0 then cQ f V s.aU else cQ f V s.aV
def mV(f:bB)(top:Bool)(n:Nat):∀(l:aa ax) (i:Nat),i+yz l=n->eE (RK f top n) l i=cQ f top l
 |[],i,_=>by rw[cQ];rfl
 |s::l,i,h=>by
  have ih:=mV f top n l (i+1) (by simp at h;omega);have he:l.isEmpty=Z (i+1=n):=by
   cases l with
   |nil=>simp at h;simp[h]
   |cons a l=>simp at h;simp;omega
  unfold eE;rw[cQ,ih,he];unfold RK;grind
def iD:aa ax->Int×Int×Int
 |[]=>(0,0,0)
 |s::l=>match iD s.aU,iD s.aV,iD l with
  |a,b,c=>if s.cM=1 then(1+c.1,1+c.2.1,s.bN+c.2.2)
   else if s.cM=3 then(1+max a.1 b.1+c.1,max a.2.1 b.2.1+c.2.1,s.bN+max a.2.2 b.2.2+c.2.2)
   else if s.cM=4 then(1+s.fN*(1+a.1)+c.1,s.fN*a.2.1+c.2.1,s.fN*(s.bN+a.2.2)+c.2.2)
   else(1+c.1,c.2.1,s.bN+c.2.2)
termination_by l=>zl l
decreasing_by
 ·exact(bg (zq ..)).1
 ·exact(bg (zq ..)).2
 ·exact eG _ _
def TV(f:bB):Bool:=Z (4096<(iD f.bR).1\/8<(iD f.bR).2.1\/67108864<(iD f.bR).2.2)
def RI(f:bB):Int:=if sY f=V then 4 else if lQ f.ah≠0 then lQ f.ah else if eE (jX f) f.ai 0≠0 then eE (jX f) f.ai 0 else if cQ f O f.bR≠0 then cQ f O f.bR else if TV f=O then 4 else 0
end Go.Proofs.YtghilkcphindjaaGreat
end
