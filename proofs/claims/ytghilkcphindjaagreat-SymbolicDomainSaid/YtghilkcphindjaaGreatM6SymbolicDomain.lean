/- Merged: Gd, Pv1, Pv3, Pv1b, Pv2, Pv2b, Pv4, Pv5, Pv6, Pv7, Ns4, Ns5, Ns6, Sg, Gq, Ns7, Ns8, Ya. -/
import Derived.Test.YtghilkcphindjaaGreatM3SymbolicDomain
import Derived.Test.YtghilkcphindjaaGreatM5SymbolicDomain
import Derived.Test.YtghilkcphindjaaGreatM4SymbolicDomain
import Derived.Shelf.Spec.SlicesGrow
open Nat renaming le_refl -> zA, le_trans -> zY, lt_succ_self -> z7, pow_le_pow_right -> xh
open Int renaming toNat_natCast -> zi, toNat -> zB, lt_irrefl -> zJ, le_refl -> zL, mul_nonneg -> yQ, mul_le_mul_of_nonneg_right -> xD
open Bool renaming and_eq_true -> zj, cond_decide -> zP, true -> O, false -> V
open Option renaming isSome_none -> ye, isSome_some -> yA, some -> Q, none -> J
open SizeOf renaming sizeOf -> zl
open List renaming mem_cons_self -> zq, mem_cons -> zu, all_eq_true -> zx, mem_map -> zy, mem_cons_of_mem -> zH, length_map -> zI, map_append -> zK, length_take -> zM, map_cons -> zO, mem_filter -> zS, range -> zU, mem_append -> zV, length_drop -> yc, filter_append -> yj, length_cons -> yo, take_length -> yp, idxOf_lt_length_of_mem -> yt, getElem?_take -> yw, length -> yz, getElem?_drop -> yC, getElem_mem -> yJ, nil_append -> yR, map_nil -> yU, take_of_length_le -> yX, nodup_nil -> yY, cons_append -> yZ, length_eq_zero_iff -> y8, take_append_drop -> xF, map_take -> xI, length_range -> xS, getElem_take -> xW, getElem_map -> x9, getElem_of_mem -> wh, mem_of_mem_drop -> wo, filter_sublist -> wB, foldl_append -> wD, length_pos_iff -> wH
open Decidable renaming decide -> Z
open Go.Proofs.Tryz renaming prog -> wR
open Go.Proofs.Tryz
set_option linter.unusedSectionVars false
set_option linter.unusedVariables false
set_option linter.unusedSimpArgs false
set_option linter.defProp false
noncomputable section
set_option maxRecDepth 100000
namespace Go.Proofs.YtghilkcphindjaaGreat
open Go Go.Iv
open Go.IntKind (i64 u64)
abbrev lV:=Int
def d104:Td 0 lV:= .c [] [2] (.r 0 0 (ec 2 aL en) sn (λz=>z.1.1) (λx=>((x,()),(()))))
def amZ:=(lc (qg 106) ln)
def x104(M:aj->af lV):aI->aI:=eL wR 104 V amZ d104 (λg=>M g.1)
def Rm{M:aj->af lV}{F:aI}{f:Nat}(h:aZ F f):aZ (x104 M F) f:=cg h (λ_=>by kernel_rfl)
def Zu(M:aj->af lV):Prop:=HL wR 104 amZ d104 (λg=>M g.1)
def Nq{M:aj->af lV}(hM:Zu M){F:aI}(h:ak wR F):ak wR (x104 M F):=bA (sc:=dM) aX hM ⟨_,func104,by kernel_rfl,by kernel_rfl⟩ (λ_=>by kernel_rfl) (λ_=>by kernel_rfl) h
def aaV(M104:aj->af lV):aI:=(x104 M104 cw)
def afl{M104}(h104:Zu M104):ak wR (aaV M104):=(Nq h104 aQ)
structure oy where
 (t3 t4:Int)
 b0:aj
def AG:Td 0 oy:= .c [] [1,3,4] (.r 0 1 (ec 1 (qp 0 0) (ec 3 aL (ec 4 aL en))) (sb 0 106 (lg 106) sn) (λz=>⟨z.1.2.1,z.1.t.1,z.2.1⟩) (λx=>(((),x.t3,x.t4,()),(x.b0,()))))
def AQ(M104:aj->af lV)(p:oy):af (af oy):=
 bif Z (p.t4<yz p.b0.ay)then if 0<=p.t4/\p.t4<yz p.b0.ay then match M104 (aj.mk p.b0.ay[zB p.t4]!.bG p.b0.ay[zB p.t4]!.fN p.b0.ay[zB p.t4]!.ay)with|J=>J|Q r1=>Q (Q (oy.mk (i64.wrap (p.t3+r1)) (i64.wrap (p.t4+1)) (aj.mk p.b0.bG p.b0.fN p.b0.ay)))else J else Q (J)
def apx(M104:aj->af lV)(p:oy):bK wR (aaV M104) f104.ntmps 300 (aN f104 0) .no (af oy) (AG.pat p) (fR AG.rd)=AQ M104 p:=by kernel_rfl
def FD(M104:aj->af lV):=b6 (AQ M104)
def agl(M104:aj->af lV):An:=(noTwo (noTwo (.two (noTwo (AG.lp (FD M104) .no)) .no)))
def awP(M104:aj->af lV):bx wR (aaV M104) 0 300 104 (agl M104):=aD (l:=[(aN f104 0,(AG.lp (FD M104) .no))]) func104 (aq (by kernel_rfl)) (by kernel_rfl) (aA ⟨AG.ok _,bt (apx M104)⟩ aC)
def Zq(M104:aj->af lV)(a0:aj):af lV:=
 match FD M104 (oy.mk 1 0 (aj.mk a0.bG a0.fN a0.ay))with|J=>J|Q r2=>bif Z (r2.t4<yz r2.b0.ay)then if 0<=r2.t4/\r2.t4<yz r2.b0.ay then match M104 (aj.mk r2.b0.ay[zB r2.t4]!.bG r2.b0.ay[zB r2.t4]!.fN r2.b0.ay[zB r2.t4]!.ay)with|J=>J|Q r3=>J else J else Q (r2.t3)
def az9(M104:aj->af lV)(a0:aj):aO wR (aaV M104) 300 (agl M104) 104 (amZ.c (a0,())) [] 0 d104.rd=Zq M104 a0:=by kernel_rfl
def ah0:Nat->(aj->af lV)
 |0=>(λ_=>J)
 |n+1=>(Zq (ah0 n))
def KB(n:Nat):aj->af lV:=(ah0 n)
def JY:∀n,Zu (KB n)
 |0=>λ_ _ h=>(by cases h)
 |n+1=>by
  have ih:=JY n;have i104:=ih;exact(bq (afl i104) (awP (KB n)) (λ_=>by kernel_rfl) (λ_=>by kernel_rfl) λg=>az9 (KB n) g.1)
def Lm:aj->af lV:=λa0=>lim (λn=>KB n a0)
def abM:Zu Lm:=λg b h=>by
 obtain⟨n,hn⟩:=bX (show lim (λn=>KB n g.1)=Q b from h);exact(JY n) g b hn
def Zp(F:aI):aI:=x104 Lm F
def Na{F:aI}(h:ak wR F):ak wR (Zp F):=Nq abM h
def Dc{F:aI}{f:Nat}(h:aZ F f):aZ (Zp F) f:=Rm h
abbrev lX:=Int
def d103:Td 0 lX:= .c [] [2] (.r 0 0 (ec 2 aL en) sn (λz=>z.1.1) (λx=>((x,()),(()))))
def akN:=(lc (ql 111) ln)
def aat(M:(aa ax)->af lX):aI->aI:=eL wR 103 V akN d103 (λg=>M g.1)
def Qw{M:(aa ax)->af lX}{F:aI}{f:Nat}(h:aZ F f):aZ (aat M F) f:=cg h (λ_=>by kernel_rfl)
def afR(M:(aa ax)->af lX):Prop:=HL wR 103 akN d103 (λg=>M g.1)
def Od{M:(aa ax)->af lX}(hM:afR M){F:aI}(h:ak wR F):ak wR (aat M F):=bA (sc:=dM) aX hM ⟨_,func103,by kernel_rfl,by kernel_rfl⟩ (λ_=>by kernel_rfl) (λ_=>by kernel_rfl) h
def abx(M103:(aa ax)->af lX):aI:=(Zp (aat M103 cw))
def adF{M103}(h103:afR M103):ak wR (abx M103):=(Na (Od h103 aQ))
structure oJ where
 t0:List ax
 (t3 t4:Int)
def Br:Td 0 oJ:= .c [] [0,3,4] (.r 0 0 (ec 0 (ql 111) (ec 3 aL (ec 4 aL en))) sn (λz=>⟨z.1.1,z.1.2.1,z.1.t.1⟩) (λx=>((x.t0,x.t3,x.t4,()),(()))))
def Bh(M103:(aa ax)->af lX)(p:oJ):af (af oJ):=
 bif Z (p.t4<yz p.t0)then if 0<=p.t4/\p.t4<yz p.t0 then match Lm (aj.mk p.t0[zB p.t4]!.aB.bG p.t0[zB p.t4]!.aB.fN p.t0[zB p.t4]!.aB.ay)with|J=>J|Q r1=>if 0<=p.t4/\p.t4<yz p.t0 then match M103 p.t0[zB p.t4]!.aU with|J=>J|Q r2=>if 0<=p.t4/\p.t4<yz p.t0 then match M103 p.t0[zB p.t4]!.aV with|J=>J|Q r3=>Q (Q (oJ.mk p.t0 (i64.wrap (i64.wrap (i64.wrap (i64.wrap (p.t3+1)+r1)+r2)+r3)) (i64.wrap (p.t4+1))))else J else J else J else Q (J)
def akX(M103:(aa ax)->af lX)(p:oJ):bK wR (abx M103) f103.ntmps 300 (aN f103 0) .no (af oJ) (Br.pat p) (fR Br.rd)=Bh M103 p:=by kernel_rfl
def Fg(M103:(aa ax)->af lX):=b6 (Bh M103)
def agr(M103:(aa ax)->af lX):An:=(noTwo (noTwo (.two (noTwo (Br.lp (Fg M103) .no)) .no)))
def as8(M103:(aa ax)->af lX):bx wR (abx M103) 0 300 103 (agr M103):=aD (l:=[(aN f103 0,(Br.lp (Fg M103) .no))]) func103 (aq (by kernel_rfl)) (by kernel_rfl) (aA ⟨Br.ok _,bt (akX M103)⟩ aC)
def aao(M103:(aa ax)->af lX)(a0:aa ax):af lX:=
 match Fg M103 (oJ.mk a0 0 0)with|J=>J|Q r4=>bif Z (r4.t4<yz r4.t0)then if 0<=r4.t4/\r4.t4<yz r4.t0 then match Lm (aj.mk r4.t0[zB r4.t4]!.aB.bG r4.t0[zB r4.t4]!.aB.fN r4.t0[zB r4.t4]!.aB.ay)with|J=>J|Q r5=>if 0<=r4.t4/\r4.t4<yz r4.t0 then match M103 r4.t0[zB r4.t4]!.aU with|J=>J|Q r6=>if 0<=r4.t4/\r4.t4<yz r4.t0 then match M103 r4.t0[zB r4.t4]!.aV with|J=>J|Q r7=>J else J else J else J else Q (r4.t3)
def aDA(M103:(aa ax)->af lX)(a0:aa ax):aO wR (abx M103) 300 (agr M103) 103 (akN.c (a0,())) [] 0 d103.rd=aao M103 a0:=by kernel_rfl
def aiE:Nat->((aa ax)->af lX)
 |0=>(λ_=>J)
 |n+1=>(aao (aiE n))
def Kx(n:Nat):(aa ax)->af lX:=(aiE n)
def JZ:∀n,afR (Kx n)
 |0=>λ_ _ h=>(by cases h)
 |n+1=>by
  have ih:=JZ n;have i103:=ih;exact(bq (adF i103) (as8 (Kx n)) (λ_=>by kernel_rfl) (λ_=>by kernel_rfl) λg=>aDA (Kx n) g.1)
def acY:(aa ax)->af lX:=λa0=>lim (λn=>Kx n a0)
def abE:afR acY:=λg b h=>by
 obtain⟨n,hn⟩:=bX (show lim (λn=>Kx n g.1)=Q b from h);exact(JZ n) g b hn
def aoy(F:aI):aI:=aat acY F
def abS{F:aI}(h:ak wR F):ak wR (aoy F):=Od abE h
def DU{F:aI}{f:Nat}(h:aZ F f):aZ (aoy F) f:=Qw h
abbrev lW:=Int
def d105:Td 0 lW:= .c [] [2] (.r 0 0 (ec 2 aL en) sn (λz=>z.1.1) (λx=>((x,()),(()))))
def akV:=(lc (qg 106) ln)
def Z6(M:aj->af lW):aI->aI:=eL wR 105 V akV d105 (λg=>M g.1)
def Q9{M:aj->af lW}{F:aI}{f:Nat}(h:aZ F f):aZ (Z6 M F) f:=cg h (λ_=>by kernel_rfl)
def abp(M:aj->af lW):Prop:=HL wR 105 akV d105 (λg=>M g.1)
def NM{M:aj->af lW}(hM:abp M){F:aI}(h:ak wR F):ak wR (Z6 M F):=bA (sc:=dM) aX hM ⟨_,func105,by kernel_rfl,by kernel_rfl⟩ (λ_=>by kernel_rfl) (λ_=>by kernel_rfl) h
def aax(M105:aj->af lW):aI:=(Z6 M105 cw)
def adQ{M105}(h105:abp M105):ak wR (aax M105):=(NM h105 aQ)
structure nh where
 (t3 t4:Int)
 b0:aj
def Ay:Td 0 nh:= .c [] [1,3,4] (.r 0 1 (ec 1 (qp 0 0) (ec 3 aL (ec 4 aL en))) (sb 0 106 (lg 106) sn) (λz=>⟨z.1.2.1,z.1.t.1,z.2.1⟩) (λx=>(((),x.t3,x.t4,()),(x.b0,()))))
def Cs(M105:aj->af lW)(p:nh):af (af nh):=
 bif Z (p.t4<yz p.b0.ay)then if 0<=p.t4/\p.t4<yz p.b0.ay then match M105 (aj.mk p.b0.ay[zB p.t4]!.bG p.b0.ay[zB p.t4]!.fN p.b0.ay[zB p.t4]!.ay)with|J=>J|Q r1=>bif Z (p.t3<r1)then Q (Q (nh.mk r1 (i64.wrap (p.t4+1)) (aj.mk p.b0.bG p.b0.fN p.b0.ay)))else Q (Q (nh.mk p.t3 (i64.wrap (p.t4+1)) (aj.mk p.b0.bG p.b0.fN p.b0.ay)))else J else Q (J)
def amo(M105:aj->af lW)(p:nh):bK wR (aax M105) f105.ntmps 300 (aN f105 0) .no (af nh) (Ay.pat p) (fR Ay.rd)=Cs M105 p:=by kernel_rfl
def FX(M105:aj->af lW):=b6 (Cs M105)
def ahB(M105:aj->af lW):An:=(noTwo (noTwo (.two (noTwo (Ay.lp (FX M105) .no)) .no)))
def ax5(M105:aj->af lW):bx wR (aax M105) 0 300 105 (ahB M105):=aD (l:=[(aN f105 0,(Ay.lp (FX M105) .no))]) func105 (aq (by kernel_rfl)) (by kernel_rfl) (aA ⟨Ay.ok _,bt (amo M105)⟩ aC)
def aaC(M105:aj->af lW)(a0:aj):af lW:=
 match FX M105 (nh.mk 0 0 (aj.mk a0.bG a0.fN a0.ay))with|J=>J|Q r2=>bif Z (r2.t4<yz r2.b0.ay)then if 0<=r2.t4/\r2.t4<yz r2.b0.ay then match M105 (aj.mk r2.b0.ay[zB r2.t4]!.bG r2.b0.ay[zB r2.t4]!.fN r2.b0.ay[zB r2.t4]!.ay)with|J=>J|Q r3=>bif Z (r2.t3<r3)then J else J else J else Q (i64.wrap (r2.t3+1))
def aAq(M105:aj->af lW)(a0:aj):aO wR (aax M105) 300 (ahB M105) 105 (akV.c (a0,())) [] 0 d105.rd=aaC M105 a0:=by kernel_rfl
def ag4:Nat->(aj->af lW)
 |0=>(λ_=>J)
 |n+1=>(aaC (ag4 n))
def LG(n:Nat):aj->af lW:=(ag4 n)
def Ik:∀n,abp (LG n)
 |0=>λ_ _ h=>(by cases h)
 |n+1=>by
  have ih:=Ik n;have i105:=ih;exact(bq (adQ i105) (ax5 (LG n)) (λ_=>by kernel_rfl) (λ_=>by kernel_rfl) λg=>aAq (LG n) g.1)
def HM:aj->af lW:=λa0=>lim (λn=>LG n a0)
def abC:abp HM:=λg b h=>by
 obtain⟨n,hn⟩:=bX (show lim (λn=>LG n g.1)=Q b from h);exact(Ik n) g b hn
def adg(F:aI):aI:=Z6 HM F
def M6{F:aI}(h:ak wR F):ak wR (adg F):=NM abC h
def nD{F:aI}{f:Nat}(h:aZ F f):aZ (adg F) f:=Q9 h
abbrev lY:=Int
def d106:Td 0 lY:= .c [] [2] (.r 0 0 (ec 2 aL en) sn (λz=>z.1.1) (λx=>((x,()),(()))))
def amj:=(lc (ql 111) ln)
def aaG(M:(aa ax)->af lY):aI->aI:=eL wR 106 V amj d106 (λg=>M g.1)
def Qu{M:(aa ax)->af lY}{F:aI}{f:Nat}(h:aZ F f):aZ (aaG M F) f:=cg h (λ_=>by kernel_rfl)
def Zm(M:(aa ax)->af lY):Prop:=HL wR 106 amj d106 (λg=>M g.1)
def Nh{M:(aa ax)->af lY}(hM:Zm M){F:aI}(h:ak wR F):ak wR (aaG M F):=bA (sc:=dM) aX hM ⟨_,func106,by kernel_rfl,by kernel_rfl⟩ (λ_=>by kernel_rfl) (λ_=>by kernel_rfl) h
def ach(M106:(aa ax)->af lY):aI:=(aaG M106 cw)
def ae5{M106}(h106:Zm M106):ak wR (ach M106):=(Nh h106 aQ)
structure jB where
 t0:List ax
 (t3 t4:Int)
def Bp:Td 0 jB:= .c [] [0,3,4] (.r 0 0 (ec 0 (ql 111) (ec 3 aL (ec 4 aL en))) sn (λz=>⟨z.1.1,z.1.2.1,z.1.t.1⟩) (λx=>((x.t0,x.t3,x.t4,()),(()))))
def vU(M106:(aa ax)->af lY)(p:jB):af (af jB):=
 bif Z (p.t4<yz p.t0)then if 0<=p.t4/\p.t4<yz p.t0 then match M106 p.t0[zB p.t4]!.aU with|J=>J|Q r1=>if 0<=p.t4/\p.t4<yz p.t0 then match M106 p.t0[zB p.t4]!.aV with|J=>J|Q r2=>bif Z (p.t3<i64.wrap (r1+1))then bif Z (i64.wrap (r1+1)<i64.wrap (r2+1))then Q (Q (jB.mk p.t0 (i64.wrap (r2+1)) (i64.wrap (p.t4+1))))else Q (Q (jB.mk p.t0 (i64.wrap (r1+1)) (i64.wrap (p.t4+1))))else bif Z (p.t3<i64.wrap (r2+1))then Q (Q (jB.mk p.t0 (i64.wrap (r2+1)) (i64.wrap (p.t4+1))))else Q (Q (jB.mk p.t0 p.t3 (i64.wrap (p.t4+1))))else J else J else Q (J)
def akK(M106:(aa ax)->af lY)(p:jB):bK wR (ach M106) f106.ntmps 300 (aN f106 0) .no (af jB) (Bp.pat p) (fR Bp.rd)=vU M106 p:=by kernel_rfl
def Ex(M106:(aa ax)->af lY):=b6 (vU M106)
def ag7(M106:(aa ax)->af lY):An:=(noTwo (noTwo (.two (noTwo (Bp.lp (Ex M106) .no)) .no)))
def auF(M106:(aa ax)->af lY):bx wR (ach M106) 0 300 106 (ag7 M106):=aD (l:=[(aN f106 0,(Bp.lp (Ex M106) .no))]) func106 (aq (by kernel_rfl)) (by kernel_rfl) (aA ⟨Bp.ok _,bt (akK M106)⟩ aC)
def ad8(M106:(aa ax)->af lY)(a0:aa ax):af lY:=
 match Ex M106 (jB.mk a0 0 0)with|J=>J|Q r3=>bif Z (r3.t4<yz r3.t0)then if 0<=r3.t4/\r3.t4<yz r3.t0 then match M106 r3.t0[zB r3.t4]!.aU with|J=>J|Q r4=>if 0<=r3.t4/\r3.t4<yz r3.t0 then match M106 r3.t0[zB r3.t4]!.aV with|J=>J|Q r5=>bif Z (r3.t3<i64.wrap (r4+1))then bif Z (i64.wrap (r4+1)<i64.wrap (r5+1))then J else J else bif Z (r3.t3<i64.wrap (r5+1))then J else J else J else J else Q (r3.t3)
def aDy(M106:(aa ax)->af lY)(a0:aa ax):aO wR (ach M106) 300 (ag7 M106) 106 (amj.c (a0,())) [] 0 d106.rd=ad8 M106 a0:=by kernel_rfl
def ahe:Nat->((aa ax)->af lY)
 |0=>(λ_=>J)
 |n+1=>(ad8 (ahe n))
def Lq(n:Nat):(aa ax)->af lY:=(ahe n)
def JS:∀n,Zm (Lq n)
 |0=>λ_ _ h=>(by cases h)
 |n+1=>by
  have ih:=JS n;have i106:=ih;exact(bq (ae5 i106) (auF (Lq n)) (λ_=>by kernel_rfl) (λ_=>by kernel_rfl) λg=>aDy (Lq n) g.1)
def abn:(aa ax)->af lY:=λa0=>lim (λn=>Lq n a0)
def afd:Zm abn:=λg b h=>by
 obtain⟨n,hn⟩:=bX (show lim (λn=>Lq n g.1)=Q b from h);exact(JS n) g b hn
def aju(F:aI):aI:=aaG abn F
def aa0{F:aI}(h:ak wR F):ak wR (aju F):=Nh afd h
def C5{F:aI}{f:Nat}(h:aZ F f):aZ (aju F) f:=Qu h
abbrev kS:=Bool
def d107:Td 0 kS:= .c [] [2] (.r 0 0 (ec 2 qb en) sn (λz=>z.1.1) (λx=>((x,()),(()))))
def ap9:=(lc (ql 111) ln)
def adP(M:(aa ax)->af kS):aI->aI:=eL wR 107 V ap9 d107 (λg=>M g.1)
def rO{M:(aa ax)->af kS}{F:aI}{f:Nat}(h:aZ F f):aZ (adP M F) f:=cg h (λ_=>by kernel_rfl)
def acH(M:(aa ax)->af kS):Prop:=HL wR 107 ap9 d107 (λg=>M g.1)
def NB{M:(aa ax)->af kS}(hM:acH M){F:aI}(h:ak wR F):ak wR (adP M F):=bA (sc:=dM) aX hM ⟨_,func107,by kernel_rfl,by kernel_rfl⟩ (λ_=>by kernel_rfl) (λ_=>by kernel_rfl) h
def Ve(M107:(aa ax)->af kS):aI:=(adP M107 (adg cw))
def aam{M107}(h107:acH M107):ak wR (Ve M107):=(NB h107 (M6 aQ))
structure oz where
 t0:List ax
 t3:Int
def Ae:Td 0 oz:= .c [] [0,3] (.r 0 0 (ec 0 (ql 111) (ec 3 aL en)) sn (λz=>⟨z.1.1,z.1.2.1⟩) (λx=>((x.t0,x.t3,()),(()))))
def Al(M107:(aa ax)->af kS)(p:oz):af (af oz):=
 bif Z (p.t3<yz p.t0)then match if 0<=p.t3/\p.t3<yz p.t0 then match HM (aj.mk p.t0[zB p.t3]!.aB.bG p.t0[zB p.t3]!.aB.fN p.t0[zB p.t3]!.aB.ay)with|J=>J|Q r1=>bif Z (12<r1)then Q O else if 0<=p.t3/\p.t3<yz p.t0 then match M107 p.t0[zB p.t3]!.aU with|J=>J|Q r2=>bif r2 then Q O else if 0<=p.t3/\p.t3<yz p.t0 then match M107 p.t0[zB p.t3]!.aV with|J=>J|Q r3=>Q (r3)else J else J else J with|J=>J|Q r4=>bif r4 then Q (J)else Q (Q (oz.mk p.t0 (i64.wrap (p.t3+1))))else Q (J)
def K9(M107:(aa ax)->af kS):An:=(noTwo (.two (.two (.rb [105,107] 32) .no) .no))
def ak7(M107:(aa ax)->af kS)(p:oz):bK wR (Ve M107) f107.ntmps 300 (aN f107 0) (K9 M107) (af oz) (Ae.pat p) (fR Ae.rd)=Al M107 p:=by kernel_rfl
def Fi(M107:(aa ax)->af kS):=b6 (Al M107)
def ajj(M107:(aa ax)->af kS):An:=(noTwo (.two (noTwo (Ae.lp (Fi M107) (K9 M107))) .no))
def aw9{M107}:∀f∈([105,107]:aa Nat),aZ (Ve M107) f:=(aA (rO (nD cS)) (aA (rO (nD cS)) aC))
def ase(M107:(aa ax)->af kS):bx wR (Ve M107) 0 300 107 (ajj M107):=aD (l:=[(aN f107 0,(Ae.lp (Fi M107) (K9 M107))),(.skip,(.rb [105,107] 32))]) func107 (aq (by kernel_rfl)) (by kernel_rfl) (aA ⟨Ae.ok _,bt (ak7 M107)⟩ (aA aw9 aC))
def aah(M107:(aa ax)->af kS)(a0:aa ax):af kS:=
 match Fi M107 (oz.mk a0 0)with|J=>J|Q r5=>bif Z (r5.t3<yz r5.t0)then match if 0<=r5.t3/\r5.t3<yz r5.t0 then match HM (aj.mk r5.t0[zB r5.t3]!.aB.bG r5.t0[zB r5.t3]!.aB.fN r5.t0[zB r5.t3]!.aB.ay)with|J=>J|Q r6=>bif Z (12<r6)then Q O else if 0<=r5.t3/\r5.t3<yz r5.t0 then match M107 r5.t0[zB r5.t3]!.aU with|J=>J|Q r7=>bif r7 then Q O else if 0<=r5.t3/\r5.t3<yz r5.t0 then match M107 r5.t0[zB r5.t3]!.aV with|J=>J|Q r8=>Q (r8)else J else J else J with|J=>J|Q r9=>bif r9 then Q O else J else Q V
def aCe(M107:(aa ax)->af kS)(a0:aa ax):aO wR (Ve M107) 300 (ajj M107) 107 (ap9.c (a0,())) [] 0 d107.rd=aah M107 a0:=by kernel_rfl
def ahM:Nat->((aa ax)->af kS)
 |0=>(λ_=>J)
 |n+1=>(aah (ahM n))
def LW(n:Nat):(aa ax)->af kS:=(ahM n)
def JO:∀n,acH (LW n)
 |0=>λ_ _ h=>(by cases h)
 |n+1=>by
  have ih:=JO n;have i107:=ih;exact(bq (aam i107) (ase (LW n)) (λ_=>by kernel_rfl) (λ_=>by kernel_rfl) λg=>aCe (LW n) g.1)
def ZK:(aa ax)->af kS:=λa0=>lim (λn=>LW n a0)
def acT:acH ZK:=λg b h=>by
 obtain⟨n,hn⟩:=bX (show lim (λn=>LW n g.1)=Q b from h);exact(JO n) g b hn
def amN(F:aI):aI:=adP ZK F
def aaB{F:aI}(h:ak wR F):ak wR (amN F):=NB acT h
def CN{F:aI}{f:Nat}(h:aZ F f):aZ (amN F) f:=rO h
def F50:aI:=(amN (aju (adg (Zp (aoy cw)))))
def anO:ak wR F50:=(aaB (aa0 (M6 (Na (abS aQ)))))
structure Ct where
 (t3 t4:Int)
 b0:bB
def J5:Td 0 Ct:= .c [] [1,3,4] (.r 0 1 (ec 1 (qp 0 0) (ec 3 aL (ec 4 aL en))) (sb 0 26 (lg 26) sn) (λz=>⟨z.1.2.1,z.1.t.1,z.2.1⟩) (λx=>(((),x.t3,x.t4,()),(x.b0,()))))
def DI(p:Ct):af (af Ct):=
 bif Z (p.t4<yz p.b0.ai)then if 0<=p.t4/\p.t4<yz p.b0.ai then match Lm (aj.mk p.b0.ai[zB p.t4]!.aB.bG p.b0.ai[zB p.t4]!.aB.fN p.b0.ai[zB p.t4]!.aB.ay)with|J=>J|Q r1=>if 0<=p.t4/\p.t4<yz p.b0.ai then match HM (aj.mk p.b0.ai[zB p.t4]!.aB.bG p.b0.ai[zB p.t4]!.aB.fN p.b0.ai[zB p.t4]!.aB.ay)with|J=>J|Q r2=>bif Z (12<r2)then Q (J)else Q (Q (Ct.mk (i64.wrap (p.t3+r1)) (i64.wrap (p.t4+1)) p.b0))else J else J else Q (J)
def asA(p:Ct):bK wR (F50) f50.ntmps 300 (aN f50 0) .no (af Ct) (J5.pat p) (fR J5.rd)=DI p:=by kernel_rfl
def OH:=b6 (DI)
abbrev E50:=Bool
def d50:Td 0 E50:= .c [] [2] (.r 0 0 (ec 2 qb en) sn (λz=>z.1.1) (λx=>((x,()),(()))))
def A50:=(lc (qg 26) ln)
def aul:An:=(noTwo (.two (.two (.rb [106,107] 14) .no) (noTwo (.two (noTwo (J5.lp OH .no)) (.two (.rb [106,107] 2) .no)))))
def auE:∀f∈([106,107]:aa Nat),aZ (F50) f:=(aA (CN (C5 (nD (Dc (DU cS))))) (aA (CN (C5 (nD (Dc (DU cS))))) aC))
def aBP:bx wR (F50) 0 300 50 (aul):=aD (l:=[(.skip,(.rb [106,107] 14)),(aN f50 0,(J5.lp OH .no)),(.skip,(.rb [106,107] 2))]) func50 (aq (by kernel_rfl)) (by kernel_rfl) (aA auE (aA ⟨J5.ok _,bt (asA)⟩ (aA auE aC)))
def m50(a0:bB):af E50:=
 match bif Z (64<(yz a0.ah:Int))then Q O else Q (Z (8<(yz a0.ai:Int)))with|J=>J|Q r3=>bif r3 then Q V else match acY a0.bR with|J=>J|Q r4=>match OH (Ct.mk r4 0 a0)with|J=>J|Q r5=>bif Z (r5.t4<yz r5.b0.ai)then if 0<=r5.t4/\r5.t4<yz r5.b0.ai then match Lm (aj.mk r5.b0.ai[zB r5.t4]!.aB.bG r5.b0.ai[zB r5.t4]!.aB.fN r5.b0.ai[zB r5.t4]!.aB.ay)with|J=>J|Q r6=>if 0<=r5.t4/\r5.t4<yz r5.b0.ai then match HM (aj.mk r5.b0.ai[zB r5.t4]!.aB.bG r5.b0.ai[zB r5.t4]!.aB.fN r5.b0.ai[zB r5.t4]!.aB.ay)with|J=>J|Q r7=>bif Z (12<r7)then Q V else J else J else J else match bif Z (r5.t3<=1024)then match abn r5.b0.bR with|J=>J|Q r8=>bif Z (r8<=12)then match ZK r5.b0.bR with|J=>J|Q r9=>Q (bif r9 then V else O)else Q V else Q V with|J=>J|Q r10=>Q (r10)
def c50(a0:bB):aO wR (F50) 300 (aul) 50 (A50.c (a0,())) [] 0 d50.rd=m50 a0:=by kernel_rfl
def e50:=eL wR 50 V A50 d50 (λg=>m50 g.1)
def aj1{F:aI}(h:ak wR F):ak wR (e50 F):=bA (sc:=dM) aX (bq anO aBP (λ_=>by kernel_rfl) (λ_=>by kernel_rfl) λg=>c50 g.1) ⟨_,func50,by kernel_rfl,by kernel_rfl⟩ (λ_=>by kernel_rfl) (λ_=>by kernel_rfl) h
def F52:aI:=cw
def apH:ak wR F52:=aQ
structure BY where
 t0:ByteArray
 t3:Int
def Gc:Td 0 BY:= .c [] [0,3] (.r 0 0 (ec 0 qs (ec 3 aL en)) sn (λz=>⟨z.1.1,z.1.2.1⟩) (λx=>((x.t0,x.t3,()),(()))))
def JX(p:BY):af (af BY):=
 bif Z (p.t3<p.t0.size)then if 0<=p.t3/\p.t3<p.t0.size then match bif Z (97<=bL p.t0 p.t3.toNat)then Q (Z (bL p.t0 p.t3.toNat<=122))else Q V with|J=>J|Q r1=>match bif Z (48<=bL p.t0 p.t3.toNat)then bif Z (bL p.t0 p.t3.toNat<=57)then Q O else bif Z (bL p.t0 p.t3.toNat=46)then Q O else Q (Z (bL p.t0 p.t3.toNat=95))else bif Z (bL p.t0 p.t3.toNat=46)then Q O else Q (Z (bL p.t0 p.t3.toNat=95))with|J=>J|Q r2=>match bif bif r1 then V else O then bif Z (p.t3=0)then Q O else Q (bif r2 then V else O)else Q V with|J=>J|Q r3=>bif r3 then Q (J)else Q (Q (BY.mk p.t0 (i64.wrap (p.t3+1))))else J else Q (J)
def Tp:An:=(noTwo (.two (noTwo (.two (.rb [] 5) (.two (.rb [] 6) (.two (.rb [] 53) .no)))) .no))
def aug(p:BY):bK wR (F52) f52.ntmps 300 (aN f52 0) Tp (af BY) (Gc.pat p) (fR Gc.rd)=JX p:=by kernel_rfl
def O1:=b6 (JX)
abbrev E52:=Bool
def d52:Td 0 E52:= .c [] [2] (.r 0 0 (ec 2 qb en) sn (λz=>z.1.1) (λx=>((x,()),(()))))
def A52:=(lc qs ln)
def ayW:An:=(noTwo (.two (.two (.rb [] 14) .no) (.two (noTwo (Gc.lp O1 Tp)) .no)))
def acF:∀f∈([]:aa Nat),aZ (F52) f:=aC
def aDw:bx wR (F52) 0 300 52 (ayW):=aD (l:=[(.skip,(.rb [] 14)),(aN f52 0,(Gc.lp O1 Tp)),(.skip,(.rb [] 5)),(.skip,(.rb [] 6)),(.skip,(.rb [] 53))]) func52 (aq (by kernel_rfl)) (by kernel_rfl) (aA acF (aA ⟨Gc.ok _,bt (aug)⟩ (aA acF (aA acF (aA acF aC)))))
def m52(a0:ByteArray):af E52:=
 match bif Z ((a0.size:Int)<1)then Q O else Q (Z (40<(a0.size:Int)))with|J=>J|Q r4=>bif r4 then Q V else match O1 (BY.mk a0 0)with|J=>J|Q r5=>bif Z (r5.t3<r5.t0.size)then if 0<=r5.t3/\r5.t3<r5.t0.size then match bif Z (97<=bL r5.t0 r5.t3.toNat)then Q (Z (bL r5.t0 r5.t3.toNat<=122))else Q V with|J=>J|Q r6=>match bif Z (48<=bL r5.t0 r5.t3.toNat)then bif Z (bL r5.t0 r5.t3.toNat<=57)then Q O else bif Z (bL r5.t0 r5.t3.toNat=46)then Q O else Q (Z (bL r5.t0 r5.t3.toNat=95))else bif Z (bL r5.t0 r5.t3.toNat=46)then Q O else Q (Z (bL r5.t0 r5.t3.toNat=95))with|J=>J|Q r7=>match bif bif r6 then V else O then bif Z (r5.t3=0)then Q O else Q (bif r7 then V else O)else Q V with|J=>J|Q r8=>bif r8 then Q V else J else J else Q O
def c52(a0:ByteArray):aO wR (F52) 300 (ayW) 52 (A52.c (a0,())) [] 0 d52.rd=m52 a0:=by kernel_rfl
def e52:=eL wR 52 V A52 d52 (λg=>m52 g.1)
def Ue{F:aI}(h:ak wR F):ak wR (e52 F):=bA (sc:=dM) aX (bq apH aDw (λ_=>by kernel_rfl) (λ_=>by kernel_rfl) λg=>c52 g.1) ⟨_,func52,by kernel_rfl,by kernel_rfl⟩ (λ_=>by kernel_rfl) (λ_=>by kernel_rfl) h
def Xy{F:aI}{f:Nat}(h:aZ F f):aZ (e52 F) f:=cg h (λ_=>by kernel_rfl)
def F53:aI:=cw
def an7:ak wR F53:=aQ
abbrev E53:=Bool
def d53:Td 0 E53:= .c [] [4] (.r 0 0 (ec 4 qb en) sn (λz=>z.1.1) (λx=>((x,()),(()))))
def A53:=(aW (aW ln))
def axy:An:=(noTwo (.two (.rb [] 4) .no))
def aDG:∀f∈([]:aa Nat),aZ (F53) f:=aC
def aB5:bx wR (F53) 0 300 53 (axy):=aD (l:=[(.skip,(.rb [] 4))]) func53 (aq (by kernel_rfl)) (by kernel_rfl) (aA aDG aC)
def m53(a0:Int)(a1:Int):E53:=
 let r1:Bool:=bif Z (a0<=a1)then bif Z (-1048576<=a0)then Z (a1<=1048576)else V else V;r1
def c53(a0:Int)(a1:Int):aO wR (F53) 300 (axy) 53 (A53.c (a0,a1,())) [] 0 d53.rd=Q (m53 a0 a1):=by
 refine Eq.trans (b:=(
  match bif Z (a0<=a1)then bif Z (-1048576<=a0)then Q (Z (a1<=1048576))else Q (V)else Q (V)with|J=>J|Q r1=>Q (r1):af E53)) (by kernel_rfl) ?_
 simp only[m53,bV,cv]
def e53:=eL wR 53 V A53 d53 (λg=>Q (m53 g.1 g.2.1))
def UM{F:aI}(h:ak wR F):ak wR (e53 F):=bA (sc:=dM) aX (bq an7 aB5 (λ_=>by kernel_rfl) (λ_=>by kernel_rfl) λg=>c53 g.1 g.2.1) ⟨_,func53,by kernel_rfl,by kernel_rfl⟩ (λ_=>by kernel_rfl) (λ_=>by kernel_rfl) h
def T7{F:aI}{f:Nat}(h:aZ F f):aZ (e53 F) f:=cg h (λ_=>by kernel_rfl)
def aeR:aI:=cw
def acE:ak wR aeR:=aQ
structure mF where
 t0:List aT
 (t1 t5 t6:Int)
def vY:Td 0 mF:= .c [] [0,1,5,6] (.r 0 0 (ec 0 (ql 108) (ec 1 aL (ec 5 aL (ec 6 aL en)))) sn (λz=>⟨z.1.1,z.1.2.1,z.1.t.1,z.1.t.2.1⟩) (λx=>((x.t0,x.t1,x.t5,x.t6,()),(()))))
def AO(p:mF):af (af mF):=
 bif Z (p.t6<yz p.t0)then if 0<=p.t6/\p.t6<yz p.t0 then bif bif Z (p.t0[zB p.t6]!.bU=p.t1)then V else O then Q (Q (mF.mk p.t0 p.t1 p.t5 (i64.wrap (p.t6+1))))else if 0<=p.t6/\p.t6<yz p.t0 then if 0<=p.t6/\p.t6<yz p.t0 then bif Z (4096<i64.wrap (p.t5*i64.wrap (i64.wrap (p.t0[zB p.t6]!.au-p.t0[zB p.t6]!.aG)+1)))then Q (J)else Q (Q (mF.mk p.t0 p.t1 (i64.wrap (p.t5*i64.wrap (i64.wrap (p.t0[zB p.t6]!.au-p.t0[zB p.t6]!.aG)+1))) (i64.wrap (p.t6+1))))else J else J else J else Q (J)
def ajQ(p:mF):bK wR (aeR) f108.ntmps 300 (aN f108 0) .no (af mF) (vY.pat p) (fR vY.rd)=AO p:=by kernel_rfl
def DX:=b6 (AO)
abbrev ayO:=Int
def d108:Td 0 ayO:= .c [] [4] (.r 0 0 (ec 4 aL en) sn (λz=>z.1.1) (λx=>((x,()),(()))))
def awy:=(lc (ql 108) (aW ln))
def aja:An:=(noTwo (noTwo (.two (noTwo (vY.lp DX .no)) .no)))
def aw4:bx wR (aeR) 0 300 108 (aja):=aD (l:=[(aN f108 0,(vY.lp DX .no))]) func108 (aq (by kernel_rfl)) (by kernel_rfl) (aA ⟨vY.ok _,bt (ajQ)⟩ aC)
def KG(a0:aa aT)(a1:Int):af ayO:=
 match DX (mF.mk a0 a1 1 0)with|J=>J|Q r1=>bif Z (r1.t6<yz r1.t0)then if 0<=r1.t6/\r1.t6<yz r1.t0 then bif bif Z (r1.t0[zB r1.t6]!.bU=r1.t1)then V else O then J else if 0<=r1.t6/\r1.t6<yz r1.t0 then if 0<=r1.t6/\r1.t6<yz r1.t0 then bif Z (4096<i64.wrap (r1.t5*i64.wrap (i64.wrap (r1.t0[zB r1.t6]!.au-r1.t0[zB r1.t6]!.aG)+1)))then Q 4097 else J else J else J else J else Q (r1.t5)
def aAH(a0:aa aT)(a1:Int):aO wR (aeR) 300 (aja) 108 (awy.c (a0,a1,())) [] 0 d108.rd=KG a0 a1:=by kernel_rfl
def aln:=eL wR 108 V awy d108 (λg=>KG g.1 g.2.1)
def aeu{F:aI}(h:ak wR F):ak wR (aln F):=bA (sc:=dM) aX (bq acE aw4 (λ_=>by kernel_rfl) (λ_=>by kernel_rfl) λg=>aAH g.1 g.2.1) ⟨_,func108,by kernel_rfl,by kernel_rfl⟩ (λ_=>by kernel_rfl) (λ_=>by kernel_rfl) h
def Qq{F:aI}{f:Nat}(h:aZ F f):aZ (aln F) f:=cg h (λ_=>by kernel_rfl)
def F51:aI:=(aln (e53 (e52 cw)))
def ao5:ak wR F51:=(aeu (UM (Ue aQ)))
structure uk where
 t0:List aT
 (t3 t5:Int)
 b0:aT
def II:Td 0 uk:= .c [] [0,3,4,5] (.r 0 1 (ec 0 (ql 108) (ec 3 aL (ec 4 (qp 0 0) (ec 5 aL en)))) (sb 0 108 (lg 108) sn) (λz=>⟨z.1.1,z.1.2.1,z.1.t.2.1,z.2.1⟩) (λx=>((x.t0,x.t3,(),x.t5,()),(x.b0,()))))
def GG(p:uk):af (af uk):=
 bif Z (p.t5<p.t3)then if 0<=p.t5/\p.t5<yz p.t0 then bif p.t0[zB p.t5]!.fName.toList==p.b0.fName.toList then Q (J)else Q (Q (uk.mk p.t0 p.t3 (i64.wrap (p.t5+1)) p.b0))else J else Q (J)
def as7(p:uk):bK wR (F51) f51.ntmps 300 (aN f51 1) .no (af uk) (II.pat p) (fR II.rd)=GG p:=by kernel_rfl
def GP:=b6 (GG)
structure BS where
 t0:List aT
 t3:Int
def Kf:Td 0 BS:= .c [] [0,3] (.r 0 0 (ec 0 (ql 108) (ec 3 aL en)) sn (λz=>⟨z.1.1,z.1.2.1⟩) (λx=>((x.t0,x.t3,()),(()))))
def Cw(p:BS):af (af BS):=
 bif Z (p.t3<yz p.t0)then if 0<=p.t3/\p.t3<yz p.t0 then match m52 p.t0[zB p.t3]!.fName with|J=>J|Q r1=>bif bif r1 then V else O then Q (J)else match GP (uk.mk p.t0 p.t3 0 p.t0[zB p.t3]!)with|J=>J|Q r2=>bif Z (r2.t5<r2.t3)then if 0<=r2.t5/\r2.t5<yz r2.t0 then bif r2.t0[zB r2.t5]!.fName.toList==r2.b0.fName.toList then Q (J)else J else J else match bif bif Z (r2.b0.bU=0)then V else O then bif bif Z (r2.b0.bU=1)then V else O then bif bif Z (r2.b0.bU=2)then V else O then Q (bif Z (r2.b0.bU=3)then V else O)else Q V else Q V else Q V with|J=>J|Q r3=>bif r3 then Q (J)else bif bif m53 r2.b0.aG r2.b0.au then V else O then Q (J)else match bif Z (r2.b0.bU=0)then bif Z (r2.b0.gj<r2.b0.aG)then Q O else bif Z (r2.b0.au<r2.b0.gj)then Q O else bif bif Z (r2.b0.bU=0)then V else O then Q (bif Z (r2.b0.gj=0)then V else O)else Q V else bif bif Z (r2.b0.bU=0)then V else O then Q (bif Z (r2.b0.gj=0)then V else O)else Q V with|J=>J|Q r4=>bif r4 then Q (J)else Q (Q (BS.mk r2.t0 (i64.wrap (r2.t3+1))))else J else Q (J)
def W9:An:=(noTwo (.two (noTwo (noTwo (.two (noTwo (II.lp GP .no)) (.two (.two (.rb [108] 50) .no) (noTwo (.two (.rb [108] 83) .no)))))) .no))
def axz(p:BS):bK wR (F51) f51.ntmps 300 (aN f51 0) W9 (af BS) (Kf.pat p) (fR Kf.rd)=Cw p:=by kernel_rfl
def MJ:=b6 (Cw)
abbrev E51:=Int
def d51:Td 0 E51:= .c [] [2] (.r 0 0 (ec 2 aL en) sn (λz=>z.1.1) (λx=>((x,()),(()))))
def A51:=(lc (ql 108) ln)
def aup:An:=(noTwo (.two (noTwo (Kf.lp MJ W9)) (.two (.two (.rb [108] 96) .no) .no)))
def akA:∀f∈([108]:aa Nat),aZ (F51) f:=(aA (Qq (T7 (Xy cS))) aC)
def aAK:bx wR (F51) 0 300 51 (aup):=aD (l:=[(aN f51 0,(Kf.lp MJ W9)),(aN f51 1,(II.lp GP .no)),(.skip,(.rb [108] 50)),(.skip,(.rb [108] 83)),(.skip,(.rb [108] 96))]) func51 (aq (by kernel_rfl)) (by kernel_rfl) (aA ⟨Kf.ok _,bt (axz)⟩ (aA ⟨II.ok _,bt (as7)⟩ (aA akA (aA akA (aA akA aC)))))
def m51(a0:aa aT):af E51:=
 match MJ (BS.mk a0 0)with|J=>J|Q r5=>bif Z (r5.t3<yz r5.t0)then if 0<=r5.t3/\r5.t3<yz r5.t0 then match m52 r5.t0[zB r5.t3]!.fName with|J=>J|Q r6=>bif bif r6 then V else O then Q 7 else match GP (uk.mk r5.t0 r5.t3 0 r5.t0[zB r5.t3]!)with|J=>J|Q r7=>bif Z (r7.t5<r7.t3)then if 0<=r7.t5/\r7.t5<yz r7.t0 then bif r7.t0[zB r7.t5]!.fName.toList==r7.b0.fName.toList then Q 8 else J else J else match bif bif Z (r7.b0.bU=0)then V else O then bif bif Z (r7.b0.bU=1)then V else O then bif bif Z (r7.b0.bU=2)then V else O then Q (bif Z (r7.b0.bU=3)then V else O)else Q V else Q V else Q V with|J=>J|Q r8=>bif r8 then Q 1 else bif bif m53 r7.b0.aG r7.b0.au then V else O then Q 3 else match bif Z (r7.b0.bU=0)then bif Z (r7.b0.gj<r7.b0.aG)then Q O else bif Z (r7.b0.au<r7.b0.gj)then Q O else bif bif Z (r7.b0.bU=0)then V else O then Q (bif Z (r7.b0.gj=0)then V else O)else Q V else bif bif Z (r7.b0.bU=0)then V else O then Q (bif Z (r7.b0.gj=0)then V else O)else Q V with|J=>J|Q r9=>bif r9 then Q 3 else J else J else match match KG r5.t0 1with|J=>J|Q r10=>bif Z (4096<r10)then Q O else match KG r5.t0 2with|J=>J|Q r11=>bif Z (4096<r11)then Q O else match KG r5.t0 3with|J=>J|Q r12=>Q (Z (256<r12))with|J=>J|Q r13=>bif r13 then Q 4 else Q 0
def c51(a0:aa aT):aO wR (F51) 300 (aup) 51 (A51.c (a0,())) [] 0 d51.rd=m51 a0:=by kernel_rfl
def e51:=eL wR 51 V A51 d51 (λg=>m51 g.1)
def amD{F:aI}(h:ak wR F):ak wR (e51 F):=bA (sc:=dM) aX (bq ao5 aAK (λ_=>by kernel_rfl) (λ_=>by kernel_rfl) λg=>c51 g.1) ⟨_,func51,by kernel_rfl,by kernel_rfl⟩ (λ_=>by kernel_rfl) (λ_=>by kernel_rfl) h
def apI:aI:=cw
def Z7:ak wR apI:=aQ
abbrev amP:=Int
def d174:Td 0 amP:= .c [] [2] (.r 0 0 (ec 2 aL en) sn (λz=>z.1.1) (λx=>((x,()),(()))))
def ayR:=(aW ln)
def af6:An:= .no
def atd:bx wR (apI) 0 300 174 (af6):=aD (l:=[]) func174 (aq (by kernel_rfl)) (by kernel_rfl) aC
def CD(a0:Int):amP:=
 bif Z (a0=0)then 0 else bif Z (a0=24)then 0 else bif Z (a0=6)then 1 else bif Z (a0=7)then 1 else bif Z (a0=8)then 2 else bif Z (a0=9)then 2 else bif Z (a0=10)then 2 else bif Z (a0=11)then 2 else bif Z (a0=12)then 2 else bif Z (a0=13)then 2 else bif Z (a0=14)then 2 else bif Z (a0=15)then 2 else bif Z (a0=16)then 2 else bif Z (a0=17)then 2 else bif Z (a0=18)then 2 else bif Z (a0=19)then 2 else bif Z (a0=20)then 2 else bif Z (a0=21)then 2 else bif Z (a0=22)then 2 else bif Z (a0=23)then 3 else bif Z (a0=25)then-2 else-1
def aCS(a0:Int):aO wR (apI) 300 (af6) 174 (ayR.c (a0,())) [] 0 d174.rd=Q (CD a0):=by
 refine Eq.trans (b:=(
  bif Z (a0=0)then Q (0)else bif Z (a0=24)then Q (0)else bif Z (a0=6)then Q (1)else bif Z (a0=7)then Q (1)else bif Z (a0=8)then Q (2)else bif Z (a0=9)then Q (2)else bif Z (a0=10)then Q (2)else bif Z (a0=11)then Q (2)else bif Z (a0=12)then Q (2)else bif Z (a0=13)then Q (2)else bif Z (a0=14)then Q (2)else bif Z (a0=15)then Q (2)else bif Z (a0=16)then Q (2)else bif Z (a0=17)then Q (2)else bif Z (a0=18)then Q (2)else bif Z (a0=19)then Q (2)else bif Z (a0=20)then Q (2)else bif Z (a0=21)then Q (2)else bif Z (a0=22)then Q (2)else bif Z (a0=23)then Q (3)else bif Z (a0=25)then Q (-2)else Q (-1):af amP)) (by kernel_rfl) ?_
 simp only[CD,bV,cv]
def ayX:=eL wR 174 V ayR d174 (λg=>Q (CD g.1))
def abD{F:aI}(h:ak wR F):ak wR (ayX F):=bA (sc:=dM) aX (bq Z7 atd (λ_=>by kernel_rfl) (λ_=>by kernel_rfl) λg=>aCS g.1) ⟨_,func174,by kernel_rfl,by kernel_rfl⟩ (λ_=>by kernel_rfl) (λ_=>by kernel_rfl) h
abbrev mB:=Bool
def d109:Td 0 mB:= .c [] [6] (.r 0 0 (ec 6 qb en) sn (λz=>z.1.1) (λx=>((x,()),(()))))
def alH:=(lc (ql 108) (lc (qg 106) (lc qb ln)))
def apt(M:(aa aT)->aj->Bool->af mB):aI->aI:=eL wR 109 V alH d109 (λg=>M g.1 g.2.1 g.2.2.1)
def acn(M:(aa aT)->aj->Bool->af mB):Prop:=HL wR 109 alH d109 (λg=>M g.1 g.2.1 g.2.2.1)
def MM{M:(aa aT)->aj->Bool->af mB}(hM:acn M){F:aI}(h:ak wR F):ak wR (apt M F):=bA (sc:=dM) aX hM ⟨_,func109,by kernel_rfl,by kernel_rfl⟩ (λ_=>by kernel_rfl) (λ_=>by kernel_rfl) h
def Xe(M109:(aa aT)->aj->Bool->af mB):aI:=(ayX (apt M109 cw))
def aez{M109}(h109:acn M109):ak wR (Xe M109):=(abD (MM h109 aQ))
structure ng where
 t0:List aT
 t2:Bool
 t8:Int
 b0:aj
def w6:Td 0 ng:= .c [] [0,2,4,8] (.r 0 1 (ec 0 (ql 108) (ec 2 qb (ec 4 (qp 0 0) (ec 8 aL en)))) (sb 0 106 (lg 106) sn) (λz=>⟨z.1.1,z.1.2.1,z.1.t.2.1,z.2.1⟩) (λx=>((x.t0,x.t2,(),x.t8,()),(x.b0,()))))
def Bg(M109:(aa aT)->aj->Bool->af mB)(p:ng):af (af ng):=
 bif Z (p.t8<yz p.b0.ay)then if 0<=p.t8/\p.t8<yz p.b0.ay then match M109 p.t0 (aj.mk p.b0.ay[zB p.t8]!.bG p.b0.ay[zB p.t8]!.fN p.b0.ay[zB p.t8]!.ay) p.t2 with|J=>J|Q r1=>bif bif r1 then V else O then Q (J)else Q (Q (ng.mk p.t0 p.t2 (i64.wrap (p.t8+1)) (aj.mk p.b0.bG p.b0.fN p.b0.ay)))else J else Q (J)
def apl(M109:(aa aT)->aj->Bool->af mB)(p:ng):bK wR (Xe M109) f109.ntmps 300 (aN f109 0) .no (af ng) (w6.pat p) (fR w6.rd)=Bg M109 p:=by kernel_rfl
def Cu(M109:(aa aT)->aj->Bool->af mB):=b6 (Bg M109)
def ai3(M109:(aa aT)->aj->Bool->af mB):An:=(noTwo (noTwo (.two (.two (.rb [] 40) .no) (.two (noTwo (.two (.two (.rb [] 65) .no) (.two (.rb [] 73) .no))) (.two (noTwo (w6.lp (Cu M109) .no)) .no)))))
def Sl{M109}:∀f∈([]:aa Nat),aZ (Xe M109) f:=aC
def ayS(M109:(aa aT)->aj->Bool->af mB):bx wR (Xe M109) 0 300 109 (ai3 M109):=aD (l:=[(.skip,(.rb [] 40)),(.skip,(.rb [] 65)),(.skip,(.rb [] 73)),(aN f109 0,(w6.lp (Cu M109) .no))]) func109 (aq (by kernel_rfl)) (by kernel_rfl) (aA Sl (aA Sl (aA Sl (aA ⟨w6.ok _,bt (apl M109)⟩ aC))))
def ab5(M109:(aa aT)->aj->Bool->af mB)(a0:aa aT)(a1:aj)(a2:Bool):af mB:=
 match bif Z (CD a1.bG= -1)then Q O else bif Z (0<=CD a1.bG)then bif bif Z (yz a1.ay=CD a1.bG)then V else O then Q O else bif Z (CD a1.bG= -2)then bif Z ((yz a1.ay:Int)<2)then Q O else Q (Z (33<(yz a1.ay:Int)))else Q V else bif Z (CD a1.bG= -2)then bif Z ((yz a1.ay:Int)<2)then Q O else Q (Z (33<(yz a1.ay:Int)))else Q V with|J=>J|Q r2=>bif r2 then Q V else bif Z (a1.bG=24)then match bif Z (a1.fN<0)then Q O else bif Z (yz a0<=a1.fN)then Q O else bif a2 then if 0<=a1.fN/\a1.fN<yz a0 then Q (Z (a0[a1.fN.toNat]!.bU=0))else J else Q V with|J=>J|Q r3=>bif r3 then Q V else match Cu M109 (ng.mk a0 a2 0 (aj.mk a1.bG a1.fN a1.ay))with|J=>J|Q r4=>bif Z (r4.t8<yz r4.b0.ay)then if 0<=r4.t8/\r4.t8<yz r4.b0.ay then match M109 r4.t0 (aj.mk r4.b0.ay[zB r4.t8]!.bG r4.b0.ay[zB r4.t8]!.fN r4.b0.ay[zB r4.t8]!.ay) r4.t2 with|J=>J|Q r5=>bif bif r5 then V else O then Q V else J else J else Q O else match bif bif Z (a1.bG=0)then V else O then Q (bif Z (a1.fN=0)then V else O)else Q V with|J=>J|Q r6=>bif r6 then Q V else match Cu M109 (ng.mk a0 a2 0 (aj.mk a1.bG a1.fN a1.ay))with|J=>J|Q r7=>bif Z (r7.t8<yz r7.b0.ay)then if 0<=r7.t8/\r7.t8<yz r7.b0.ay then match M109 r7.t0 (aj.mk r7.b0.ay[zB r7.t8]!.bG r7.b0.ay[zB r7.t8]!.fN r7.b0.ay[zB r7.t8]!.ay) r7.t2 with|J=>J|Q r8=>bif bif r8 then V else O then Q V else J else J else Q O
def aAh(M109:(aa aT)->aj->Bool->af mB)(a0:aa aT)(a1:aj)(a2:Bool):aO wR (Xe M109) 300 (ai3 M109) 109 (alH.c (a0,a1,a2,())) [] 0 d109.rd=ab5 M109 a0 a1 a2:=by kernel_rfl
def agw:Nat->((aa aT)->aj->Bool->af mB)
 |0=>(λ_ _ _=>J)
 |n+1=>(ab5 (agw n))
def Ls(n:Nat):(aa aT)->aj->Bool->af mB:=(agw n)
def F8:∀n,acn (Ls n)
 |0=>λ_ _ h=>(by cases h)
 |n+1=>by
  have ih:=F8 n;have i109:=ih;exact(bq (aez i109) (ayS (Ls n)) (λ_=>by kernel_rfl) (λ_=>by kernel_rfl) λg=>aAh (Ls n) g.1 g.2.1 g.2.2.1)
def aci:(aa aT)->aj->Bool->af mB:=λa0 a1 a2=>lim (λn=>Ls n a0 a1 a2)
def aaz:acn aci:=λg b h=>by
 obtain⟨n,hn⟩:=bX (show lim (λn=>Ls n g.1 g.2.1 g.2.2.1)=Q b from h);exact(F8 n) g b hn
def axc(F:aI):aI:=apt aci F
def acX{F:aI}(h:ak wR F):ak wR (axc F):=MM aaz h
def ajz:aI:=cw
def aap:ak wR ajz:=aQ
abbrev an0:=Int
def d112:Td 0 an0:= .c [] [4] (.r 0 0 (ec 4 aL en) sn (λz=>z.1.1) (λx=>((x,()),(()))))
def axt:=(aW (aW ln))
def ahZ:An:= .no
def av4:bx wR (ajz) 0 300 112 (ahZ):=aD (l:=[]) func112 (aq (by kernel_rfl)) (by kernel_rfl) aC
def iJ(a0:Int)(a1:Int):an0:=
 bif Z (a1<a0)then a0 else a1
def aCQ(a0:Int)(a1:Int):aO wR (ajz) 300 (ahZ) 112 (axt.c (a0,a1,())) [] 0 d112.rd=Q (iJ a0 a1):=by
 refine Eq.trans (b:=(
  bif Z (a1<a0)then Q (a0)else Q (a1):af an0)) (by kernel_rfl) ?_
 simp only[iJ,bV,cv]
def QN:=eL wR 112 V axt d112 (λg=>Q (iJ g.1 g.2.1))
def FF{F:aI}(h:ak wR F):ak wR (QN F):=bA (sc:=dM) aX (bq aap av4 (λ_=>by kernel_rfl) (λ_=>by kernel_rfl) λg=>aCQ g.1 g.2.1) ⟨_,func112,by kernel_rfl,by kernel_rfl⟩ (λ_=>by kernel_rfl) (λ_=>by kernel_rfl) h
def alQ:aI:=cw
def aeY:ak wR alQ:=aQ
abbrev akc:=Int
def d113:Td 0 akc:= .c [] [4] (.r 0 0 (ec 4 aL en) sn (λz=>z.1.1) (λx=>((x,()),(()))))
def awu:=(aW (aW ln))
def ajg:An:= .no
def aq0:bx wR (alQ) 0 300 113 (ajg):=aD (l:=[]) func113 (aq (by kernel_rfl)) (by kernel_rfl) aC
def gW(a0:Int)(a1:Int):akc:=
 bif Z (a0<a1)then a0 else a1
def aCv(a0:Int)(a1:Int):aO wR (alQ) 300 (ajg) 113 (awu.c (a0,a1,())) [] 0 d113.rd=Q (gW a0 a1):=by
 refine Eq.trans (b:=(
  bif Z (a0<a1)then Q (a0)else Q (a1):af akc)) (by kernel_rfl) ?_
 simp only[gW,bV,cv]
def aag:=eL wR 113 V awu d113 (λg=>Q (gW g.1 g.2.1))
def Fj{F:aI}(h:ak wR F):ak wR (aag F):=bA (sc:=dM) aX (bq aeY aq0 (λ_=>by kernel_rfl) (λ_=>by kernel_rfl) λg=>aCv g.1 g.2.1) ⟨_,func113,by kernel_rfl,by kernel_rfl⟩ (λ_=>by kernel_rfl) (λ_=>by kernel_rfl) h
def amn:aI:=cw
def abB:ak wR amn:=aQ
abbrev apZ:=Int
def d235:Td 0 apZ:= .c [] [2] (.r 0 0 (ec 2 aL en) sn (λz=>z.1.1) (λx=>((x,()),(()))))
def axa:=(aW ln)
def agS:An:= .no
def axM:bx wR (amn) 0 300 235 (agS):=aD (l:=[]) func235 (aq (by kernel_rfl)) (by kernel_rfl) aC
def sL(a0:Int):apZ:=
 bif Z (a0<0)then i64.wrap (0-a0)else a0
def aC8(a0:Int):aO wR (amn) 300 (agS) 235 (axa.c (a0,())) [] 0 d235.rd=Q (sL a0):=by
 refine Eq.trans (b:=(
  bif Z (a0<0)then Q (i64.wrap (0-a0))else Q (a0):af apZ)) (by kernel_rfl) ?_
 simp only[sL,bV,cv]
def XR:=eL wR 235 V axa d235 (λg=>Q (sL g.1))
def afc{F:aI}(h:ak wR F):ak wR (XR F):=bA (sc:=dM) aX (bq abB axM (λ_=>by kernel_rfl) (λ_=>by kernel_rfl) λg=>aC8 g.1) ⟨_,func235,by kernel_rfl,by kernel_rfl⟩ (λ_=>by kernel_rfl) (λ_=>by kernel_rfl) h
def alN:aI:=(aag (QN cw))
def afi:ak wR alN:=(Fj (FF aQ))
abbrev aj2:=Int×Int
def d236:Td 0 aj2:= .c [] [4,5] (.r 0 0 (ec 4 aL (ec 5 aL en)) sn (λz=>(z.1.1,z.1.2.1)) (λx=>((x.1,x.2,()),(()))))
def axU:=(aW (aW ln))
def aik:An:= .no
def asH:bx wR (alN) 0 300 236 (aik):=aD (l:=[]) func236 (aq (by kernel_rfl)) (by kernel_rfl) aC
def VY(a0:Int)(a1:Int):aj2:=
 bif Z (a0<0)then bif Z (0<a1)then(gW (0) (i64.wrap (a0+1)),iJ (0) (i64.wrap (a1-1)))else(gW (0) (i64.wrap (a0+1)),0)else bif Z (0<a1)then(0,iJ (0) (i64.wrap (a1-1)))else(0,0)
def aCY(a0:Int)(a1:Int):aO wR (alN) 300 (aik) 236 (axU.c (a0,a1,())) [] 0 d236.rd=Q (VY a0 a1):=by
 refine Eq.trans (b:=(
  bif Z (a0<0)then bif Z (0<a1)then Q ((gW (0) (i64.wrap (a0+1)),iJ (0) (i64.wrap (a1-1))))else Q ((gW (0) (i64.wrap (a0+1)),0))else bif Z (0<a1)then Q ((0,iJ (0) (i64.wrap (a1-1))))else Q ((0,0)):af aj2)) (by kernel_rfl) ?_
 simp only[VY,bV,cv]
def auh:=eL wR 236 V axU d236 (λg=>Q (VY g.1 g.2.1))
def ael{F:aI}(h:ak wR F):ak wR (auh F):=bA (sc:=dM) aX (bq afi asH (λ_=>by kernel_rfl) (λ_=>by kernel_rfl) λg=>aCY g.1 g.2.1) ⟨_,func236,by kernel_rfl,by kernel_rfl⟩ (λ_=>by kernel_rfl) (λ_=>by kernel_rfl) h
def U5:aI:=(auh (XR (aag (QN cw))))
def aeL:ak wR U5:=(ael (afc (Fj (FF aQ))))
structure mO where
 (t2 t3:List Int)
 (t15 t16 t17:Int)
def vF:Td 0 mO:= .c [] [2,3,15,16,17] (.r 0 0 (ec 2 (ql 3) (ec 3 (ql 3) (ec 15 aL (ec 16 aL (ec 17 aL en))))) sn (λz=>⟨z.1.1,z.1.2.1,z.1.t.1,z.1.t.2.1,z.1.q.1⟩) (λx=>((x.t2,x.t3,x.t15,x.t16,x.t17,()),(()))))
def AM(p:mO):af (af mO):=
 bif Z (p.t17<yz p.t2)then if 0<=p.t17/\p.t17<yz p.t2 then if 0<=p.t17/\p.t17<yz p.t3 then Q (Q (mO.mk p.t2 p.t3 (gW p.t15 p.t2[zB p.t17]!) (iJ p.t16 p.t3[zB p.t17]!) (i64.wrap (p.t17+1))))else J else J else Q (J)
def aon(p:mO):bK wR (U5) f175.ntmps 300 (aN f175 0) .no (af mO) (vF.pat p) (fR vF.rd)=AM p:=by kernel_rfl
def wT:=b6 (AM)
abbrev awV:=Int×Int
def d175:Td 0 awV:= .c [] [8,9] (.r 0 0 (ec 8 aL (ec 9 aL en)) sn (λz=>(z.1.1,z.1.2.1)) (λx=>((x.1,x.2,()),(()))))
def ari:=(lc (ql 108) (lc (qg 106) (lc (ql 3) (lc (ql 3) ln))))
def ajb:An:=(noTwo (.two (noTwo (noTwo (.two (.two (.two (.rb [] 29) .no) .no) (noTwo (noTwo (noTwo (noTwo (noTwo (noTwo (noTwo (noTwo (noTwo (noTwo (noTwo (.two (noTwo (.two (.two (.rb [] 154) .no) .no)) (noTwo (noTwo (noTwo (noTwo (noTwo (noTwo (noTwo (.two (noTwo (.two (noTwo (vF.lp wT .no)) .no)) .no))))))))))))))))))))))) .no))
def ai0:∀f∈([]:aa Nat),aZ (U5) f:=aC
def avF:bx wR (U5) 0 300 175 (ajb):=aD (l:=[(.skip,(.rb [] 29)),(.skip,(.rb [] 154)),(aN f175 0,(vF.lp wT .no))]) func175 (aq (by kernel_rfl)) (by kernel_rfl) (aA ai0 (aA ai0 (aA ⟨vF.ok _,bt (aon)⟩ aC)))
def W0(a0:aa aT)(a1:aj)(a2:aa Int)(a3:aa Int):af awV:=
 bif Z (a1.bG=0)then match bif Z (a1.fN< -1048576)then Q O else Q (Z (1048576<a1.fN))with|J=>J|Q r1=>bif r1 then Q (-1048577,1048577)else Q (a1.fN,a1.fN)else bif Z (a1.bG=24)then if 0<=a1.fN/\a1.fN<yz a0 then if 0<=a1.fN/\a1.fN<yz a0 then Q (a0[a1.fN.toNat]!.aG,a0[a1.fN.toNat]!.au)else J else J else bif Z (a1.bG=6)then if(0:Int)<=(0:Int)/\(0:Int)<yz a3 then if(0:Int)<=(0:Int)/\(0:Int)<yz a2 then Q ((i64.wrap (0-a3[0]!),i64.wrap (0-a2[0]!)))else J else J else bif Z (a1.bG=8)then if(0:Int)<=(0:Int)/\(0:Int)<yz a2 then if(0:Int)<=(1:Int)/\(1:Int)<yz a2 then if(0:Int)<=(0:Int)/\(0:Int)<yz a3 then if(0:Int)<=(1:Int)/\(1:Int)<yz a3 then Q ((i64.wrap (a2[0]! +a2[1]!),i64.wrap (a3[0]! +a3[1]!)))else J else J else J else J else bif Z (a1.bG=9)then if(0:Int)<=(0:Int)/\(0:Int)<yz a2 then if(0:Int)<=(1:Int)/\(1:Int)<yz a3 then if(0:Int)<=(0:Int)/\(0:Int)<yz a3 then if(0:Int)<=(1:Int)/\(1:Int)<yz a2 then Q ((i64.wrap (a2[0]! -a3[1]!),i64.wrap (a3[0]! -a2[1]!)))else J else J else J else J else bif Z (a1.bG=10)then if(0:Int)<=(0:Int)/\(0:Int)<yz a2 then if(0:Int)<=(1:Int)/\(1:Int)<yz a2 then if(0:Int)<=(0:Int)/\(0:Int)<yz a2 then if(0:Int)<=(1:Int)/\(1:Int)<yz a3 then if(0:Int)<=(0:Int)/\(0:Int)<yz a3 then if(0:Int)<=(1:Int)/\(1:Int)<yz a2 then if(0:Int)<=(0:Int)/\(0:Int)<yz a3 then if(0:Int)<=(1:Int)/\(1:Int)<yz a3 then Q ((gW (gW (i64.wrap (a2[0]! *a2[1]!)) (i64.wrap (a2[0]! *a3[1]!))) (gW (i64.wrap (a3[0]! *a2[1]!)) (i64.wrap (a3[0]! *a3[1]!))),iJ (iJ (i64.wrap (a2[0]! *a2[1]!)) (i64.wrap (a2[0]! *a3[1]!))) (iJ (i64.wrap (a3[0]! *a2[1]!)) (i64.wrap (a3[0]! *a3[1]!)))))else J else J else J else J else J else J else J else J else bif Z (a1.bG=11)then if(0:Int)<=(0:Int)/\(0:Int)<yz a2 then if(0:Int)<=(0:Int)/\(0:Int)<yz a3 then match if(0:Int)<=(0:Int)/\(0:Int)<yz a2 then bif Z (0<=a2[zB 0]!)then if(0:Int)<=(1:Int)/\(1:Int)<yz a2 then Q (Z (0<=a2[zB 1]!))else J else Q V else J with|J=>J|Q r2=>bif r2 then Q ((0,iJ (sL a2[0]!) (sL a3[0]!)))else Q ((i64.wrap (0-iJ (sL a2[0]!) (sL a3[0]!)),iJ (sL a2[0]!) (sL a3[0]!)))else J else J else bif Z (a1.bG=12)then if(0:Int)<=(1:Int)/\(1:Int)<yz a2 then if(0:Int)<=(1:Int)/\(1:Int)<yz a3 then Q (VY a2[1]! a3[1]!)else J else J else bif Z (a1.bG=21)then if(0:Int)<=(0:Int)/\(0:Int)<yz a2 then if(0:Int)<=(1:Int)/\(1:Int)<yz a2 then if(0:Int)<=(0:Int)/\(0:Int)<yz a3 then if(0:Int)<=(1:Int)/\(1:Int)<yz a3 then Q (gW a2[0]! a2[1]!,gW a3[0]! a3[1]!)else J else J else J else J else bif Z (a1.bG=22)then if(0:Int)<=(0:Int)/\(0:Int)<yz a2 then if(0:Int)<=(1:Int)/\(1:Int)<yz a2 then if(0:Int)<=(0:Int)/\(0:Int)<yz a3 then if(0:Int)<=(1:Int)/\(1:Int)<yz a3 then Q (iJ a2[0]! a2[1]!,iJ a3[0]! a3[1]!)else J else J else J else J else bif Z (a1.bG=23)then if(0:Int)<=(1:Int)/\(1:Int)<yz a2 then if(0:Int)<=(1:Int)/\(1:Int)<yz a3 then match wT (mO.mk a2 a3 a2[1]! a3[1]! (2))with|J=>J|Q r3=>bif Z (r3.t17<yz r3.t2)then if 0<=r3.t17/\r3.t17<yz r3.t2 then if 0<=r3.t17/\r3.t17<yz r3.t3 then J else J else J else Q (r3.t15,r3.t16)else J else J else bif Z (a1.bG=25)then if(0:Int)<=(1:Int)/\(1:Int)<yz a2 then if(0:Int)<=(1:Int)/\(1:Int)<yz a3 then match wT (mO.mk a2 a3 a2[1]! a3[1]! (2))with|J=>J|Q r4=>bif Z (r4.t17<yz r4.t2)then if 0<=r4.t17/\r4.t17<yz r4.t2 then if 0<=r4.t17/\r4.t17<yz r4.t3 then J else J else J else Q (r4.t15,r4.t16)else J else J else Q (0,1)
def aCb(a0:aa aT)(a1:aj)(a2:aa Int)(a3:aa Int):aO wR (U5) 300 (ajb) 175 (ari.c (a0,a1,a2,a3,())) [] 0 d175.rd=W0 a0 a1 a2 a3:=by kernel_rfl
def asF:=eL wR 175 V ari d175 (λg=>W0 g.1 g.2.1 g.t.1 g.t.2.1)
def acs{F:aI}(h:ak wR F):ak wR (asF F):=bA (sc:=dM) aX (bq aeL avF (λ_=>by kernel_rfl) (λ_=>by kernel_rfl) λg=>aCb g.1 g.2.1 g.t.1 g.t.2.1) ⟨_,func175,by kernel_rfl,by kernel_rfl⟩ (λ_=>by kernel_rfl) (λ_=>by kernel_rfl) h
abbrev nw:=Int×Int×Bool
def d110:Td 0 nw:= .c [] [4,5,6] (.r 0 0 (ec 4 aL (ec 5 aL (ec 6 qb en))) sn (λz=>(z.1.1,z.1.2.1,z.1.t.1)) (λx=>((x.1,x.2.1,x.t,()),(()))))
def aoZ:=(lc (ql 108) (lc (qg 106) ln))
def al2(M:(aa aT)->aj->af nw):aI->aI:=eL wR 110 V aoZ d110 (λg=>M g.1 g.2.1)
def Zo(M:(aa aT)->aj->af nw):Prop:=HL wR 110 aoZ d110 (λg=>M g.1 g.2.1)
def Nn{M:(aa aT)->aj->af nw}(hM:Zo M){F:aI}(h:ak wR F):ak wR (al2 M F):=bA (sc:=dM) aX hM ⟨_,func110,by kernel_rfl,by kernel_rfl⟩ (λ_=>by kernel_rfl) (λ_=>by kernel_rfl) h
def aeS(M110:(aa aT)->aj->af nw):aI:=(asF (al2 M110 cw))
def ack{M110}(h110:Zo M110):ak wR (aeS M110):=(acs (Nn h110 aQ))
structure oU where
 t0:List aT
 (t7 t8:List Int)
 t9:Int
 b0:aj
def Cz:Td 0 oU:= .c [] [0,3,7,8,9] (.r 0 3 (ec 0 (ql 108) (ec 3 (qp 0 0) (ec 7 (qo 1) (ec 8 (qo 2) (ec 9 aL en))))) (sb 0 106 (lg 106) (sr 1 3 (sr 2 3 sn))) (λz=>⟨z.1.1,z.t.1,z.t.2.1,z.1.q.1,z.2.1⟩) (λx=>((x.t0,(),(),(),x.t9,()),(x.b0,x.t7,x.t8,()))))
def tj(M110:(aa aT)->aj->af nw)(p:oU):af (af oU):=
 bif Z (p.t9<yz p.b0.ay)then if 0<=p.t9/\p.t9<yz p.b0.ay then match M110 p.t0 (aj.mk p.b0.ay[zB p.t9]!.bG p.b0.ay[zB p.t9]!.fN p.b0.ay[zB p.t9]!.ay)with|J=>J|Q r1=>bif bif r1.snd.snd then V else O then Q (J)else if(p.t7++[r1.fst]).length<=1073741824 then if(p.t8++[r1.snd.fst]).length<=1073741824 then Q (Q (oU.mk p.t0 (p.t7++[r1.fst]) (p.t8++[r1.snd.fst]) (i64.wrap (p.t9+1)) (aj.mk p.b0.bG p.b0.fN p.b0.ay)))else J else J else J else Q (J)
def alA(M110:(aa aT)->aj->af nw)(p:oU):bK wR (aeS M110) f110.ntmps 300 (aN f110 0) .no (af oU) (Cz.pat p) (fR Cz.rd)=tj M110 p:=by kernel_rfl
def FV(M110:(aa aT)->aj->af nw):=b6 (tj M110)
def aiK(M110:(aa aT)->aj->af nw):An:=(noTwo (noTwo (noTwo (.two (noTwo (Cz.lp (FV M110) .no)) .no))))
def avM(M110:(aa aT)->aj->af nw):bx wR (aeS M110) 0 300 110 (aiK M110):=aD (l:=[(aN f110 0,(Cz.lp (FV M110) .no))]) func110 (aq (by kernel_rfl)) (by kernel_rfl) (aA ⟨Cz.ok _,bt (alA M110)⟩ aC)
def ZA(M110:(aa aT)->aj->af nw)(a0:aa aT)(a1:aj):af nw:=
 match FV M110 (oU.mk a0 [] [] (0) (aj.mk a1.bG a1.fN a1.ay))with|J=>J|Q r2=>bif Z (r2.t9<yz r2.b0.ay)then if 0<=r2.t9/\r2.t9<yz r2.b0.ay then match M110 r2.t0 (aj.mk r2.b0.ay[zB r2.t9]!.bG r2.b0.ay[zB r2.t9]!.fN r2.b0.ay[zB r2.t9]!.ay)with|J=>J|Q r3=>bif bif r3.snd.snd then V else O then Q (0,0,V)else if(r2.t7++[r3.fst]).length<=1073741824 then if(r2.t8++[r3.snd.fst]).length<=1073741824 then J else J else J else J else match W0 r2.t0 (aj.mk r2.b0.bG r2.b0.fN r2.b0.ay) r2.t7 r2.t8 with|J=>J|Q r4=>bif Z (-1048576<=r4.fst)then Q ((r4.fst,r4.snd,Z (r4.snd<=1048576)))else Q (r4.fst,r4.snd,V)
def azX(M110:(aa aT)->aj->af nw)(a0:aa aT)(a1:aj):aO wR (aeS M110) 300 (aiK M110) 110 (aoZ.c (a0,a1,())) [] 0 d110.rd=ZA M110 a0 a1:=by kernel_rfl
def af7:Nat->((aa aT)->aj->af nw)
 |0=>(λ_ _=>J)
 |n+1=>(ZA (af7 n))
def Lu(n:Nat):(aa aT)->aj->af nw:=(af7 n)
def GA:∀n,Zo (Lu n)
 |0=>λ_ _ h=>(by cases h)
 |n+1=>by
  have ih:=GA n;have i110:=ih;exact(bq (ack i110) (avM (Lu n)) (λ_=>by kernel_rfl) (λ_=>by kernel_rfl) λg=>azX (Lu n) g.1 g.2.1)
def adH:(aa aT)->aj->af nw:=λa0 a1=>lim (λn=>Lu n a0 a1)
def ac7:Zo adH:=λg b h=>by
 obtain⟨n,hn⟩:=bX (show lim (λn=>Lu n g.1 g.2.1)=Q b from h);exact(GA n) g b hn
def arL(F:aI):aI:=al2 adH F
def ad5{F:aI}(h:ak wR F):ak wR (arL F):=Nn ac7 h
def F54:aI:=(arL (axc cw))
def ak1:ak wR F54:=(ad5 (acX aQ))
abbrev E54:=Int
def d54:Td 0 E54:= .c [] [6] (.r 0 0 (ec 6 aL en) sn (λz=>z.1.1) (λx=>((x,()),(()))))
def A54:=(lc (ql 108) (lc (qg 106) (lc qb ln)))
def ar6:An:= .no
def aCP:bx wR (F54) 0 300 54 (ar6):=aD (l:=[]) func54 (aq (by kernel_rfl)) (by kernel_rfl) aC
def YD(a0:aa aT)(a1:aj)(a2:Bool):af E54:=
 match aci a0 (aj.mk a1.bG a1.fN a1.ay) a2 with|J=>J|Q r1=>bif bif r1 then V else O then Q (1)else match adH a0 (aj.mk a1.bG a1.fN a1.ay)with|J=>J|Q r2=>bif bif r2.snd.snd then V else O then Q (3)else Q (0)
def c54(a0:aa aT)(a1:aj)(a2:Bool):aO wR (F54) 300 (ar6) 54 (A54.c (a0,a1,a2,())) [] 0 d54.rd=YD a0 a1 a2:=by kernel_rfl
def e54:=eL wR 54 V A54 d54 (λg=>YD g.1 g.2.1 g.t.1)
def Vr{F:aI}(h:ak wR F):ak wR (e54 F):=bA (sc:=dM) aX (bq ak1 aCP (λ_=>by kernel_rfl) (λ_=>by kernel_rfl) λg=>c54 g.1 g.2.1 g.t.1) ⟨_,func54,by kernel_rfl,by kernel_rfl⟩ (λ_=>by kernel_rfl) (λ_=>by kernel_rfl) h
def RU{F:aI}{f:Nat}(h:aZ F f):aZ (e54 F) f:=cg h (λ_=>by kernel_rfl)
def adf:aI:=cw
def aeQ:ak wR adf:=aQ
abbrev aoD:=Bool
def d176:Td 0 aoD:= .c [] [2] (.r 0 0 (ec 2 qb en) sn (λz=>z.1.1) (λx=>((x,()),(()))))
def axO:=(lc (qg 106) ln)
def ait:An:=(noTwo (.two (.rb [] 2) .no))
def avn:∀f∈([]:aa Nat),aZ (adf) f:=aC
def aqx:bx wR (adf) 0 300 176 (ait):=aD (l:=[(.skip,(.rb [] 2))]) func176 (aq (by kernel_rfl)) (by kernel_rfl) (aA avn aC)
def IB(a0:aj):aoD:=
 let r1:Bool:=bif Z (a0.bG=0)then bif Z (a0.fN=0)then Z ((yz a0.ay:Int)=0)else V else V;r1
def aBT(a0:aj):aO wR (adf) 300 (ait) 176 (axO.c (a0,())) [] 0 d176.rd=Q (IB a0):=by
 refine Eq.trans (b:=(
  match bif Z (a0.bG=0)then bif Z (a0.fN=0)then Q (Z ((yz a0.ay:Int)=0))else Q (V)else Q (V)with|J=>J|Q r1=>Q (r1):af aoD)) (by kernel_rfl) ?_
 simp only[IB,bV,cv]
def ajE:=eL wR 176 V axO d176 (λg=>Q (IB g.1))
def afW{F:aI}(h:ak wR F):ak wR (ajE F):=bA (sc:=dM) aX (bq aeQ aqx (λ_=>by kernel_rfl) (λ_=>by kernel_rfl) λg=>aBT g.1) ⟨_,func176,by kernel_rfl,by kernel_rfl⟩ (λ_=>by kernel_rfl) (λ_=>by kernel_rfl) h
def Dz{F:aI}{f:Nat}(h:aZ F f):aZ (ajE F) f:=cg h (λ_=>by kernel_rfl)
def Tx:aI:=cw
def aff:ak wR Tx:=aQ
structure pJ where
 t0:List Int
 t3:Int
def vm:Td 0 pJ:= .c [] [0,3] (.r 0 0 (ec 0 (ql 3) (ec 3 aL en)) sn (λz=>⟨z.1.1,z.1.2.1⟩) (λx=>((x.t0,x.t3,()),(()))))
def vK(p:pJ):af (af pJ):=
 bif Z (p.t3<yz p.t0)then if 0<=p.t3/\p.t3<yz p.t0 then if 0<=i64.wrap (p.t3-1)/\i64.wrap (p.t3-1)<yz p.t0 then bif Z (p.t0[zB p.t3]!<=p.t0[(i64.wrap (p.t3-1)).toNat]!)then Q (J)else Q (Q (pJ.mk p.t0 (i64.wrap (p.t3+1))))else J else J else Q (J)
def aol(p:pJ):bK wR (Tx) f177.ntmps 300 (aN f177 0) .no (af pJ) (vm.pat p) (fR vm.rd)=vK p:=by kernel_rfl
def Fs:=b6 (vK)
abbrev auO:=Bool
def d177:Td 0 auO:= .c [] [2] (.r 0 0 (ec 2 qb en) sn (λz=>z.1.1) (λx=>((x,()),(()))))
def ard:=(lc (ql 3) ln)
def ahb:An:=(noTwo (.two (.two (.rb [] 17) .no) (.two (noTwo (vm.lp Fs .no)) .no)))
def awr:∀f∈([]:aa Nat),aZ (Tx) f:=aC
def atZ:bx wR (Tx) 0 300 177 (ahb):=aD (l:=[(.skip,(.rb [] 17)),(aN f177 0,(vm.lp Fs .no))]) func177 (aq (by kernel_rfl)) (by kernel_rfl) (aA awr (aA ⟨vm.ok _,bt (aol)⟩ aC))
def VO(a0:aa Int):af auO:=
 match bif Z ((yz a0:Int)<1)then Q O else bif Z (32<(yz a0:Int))then Q O else if(0:Int)<=(0:Int)/\(0:Int)<yz a0 then Q (Z (a0[zB 0]! <0))else J with|J=>J|Q r1=>bif r1 then Q V else match Fs (pJ.mk a0 1)with|J=>J|Q r2=>bif Z (r2.t3<yz r2.t0)then if 0<=r2.t3/\r2.t3<yz r2.t0 then if 0<=i64.wrap (r2.t3-1)/\i64.wrap (r2.t3-1)<yz r2.t0 then bif Z (r2.t0[zB r2.t3]!<=r2.t0[(i64.wrap (r2.t3-1)).toNat]!)then Q V else J else J else J else Q O
def aCE(a0:aa Int):aO wR (Tx) 300 (ahb) 177 (ard.c (a0,())) [] 0 d177.rd=VO a0:=by kernel_rfl
def aoX:=eL wR 177 V ard d177 (λg=>VO g.1)
def aaQ{F:aI}(h:ak wR F):ak wR (aoX F):=bA (sc:=dM) aX (bq aff atZ (λ_=>by kernel_rfl) (λ_=>by kernel_rfl) λg=>aCE g.1) ⟨_,func177,by kernel_rfl,by kernel_rfl⟩ (λ_=>by kernel_rfl) (λ_=>by kernel_rfl) h
def Di{F:aI}{f:Nat}(h:aZ F f):aZ (aoX F) f:=cg h (λ_=>by kernel_rfl)
def Y5:aI:=(aoX (ajE cw))
def ab0:ak wR Y5:=(aaQ (afW aQ))
abbrev aun:=Bool
def d111:Td 0 aun:= .c [] [6] (.r 0 0 (ec 6 qb en) sn (λz=>z.1.1) (λx=>((x,()),(()))))
def atV:=(lc (qg 26) (lc (qg 111) (lc qb ln)))
def ain:An:=(noTwo (.two (.rb [176,177] 7) (.two (.rb [176,177] 8) (.two (noTwo (noTwo (.two (.two (.rb [176,177] 6) .no) (noTwo (.two (.two (.rb [176,177] 6) .no) (noTwo (.two (.two (.rb [176,177] 6) .no) (noTwo (.two (.two (.rb [176,177] 6) .no) (noTwo (.two (.two (.rb [176,177] 6) .no) (noTwo (.two (.two (.rb [176,177] 6) .no) (noTwo (.two (.two (.rb [176,177] 6) .no) .no))))))))))))))) .no))))
def p9:∀f∈([176,177]:aa Nat),aZ (Y5) f:=(aA (Di (Dz cS)) (aA (Di (Dz cS)) aC))
def atv:bx wR (Y5) 0 300 111 (ain):=aD (l:=[(.skip,(.rb [176,177] 7)),(.skip,(.rb [176,177] 8)),(.skip,(.rb [176,177] 6)),(.skip,(.rb [176,177] 6)),(.skip,(.rb [176,177] 6)),(.skip,(.rb [176,177] 6)),(.skip,(.rb [176,177] 6)),(.skip,(.rb [176,177] 6)),(.skip,(.rb [176,177] 6))]) func111 (aq (by kernel_rfl)) (by kernel_rfl) (aA p9 (aA p9 (aA p9 (aA p9 (aA p9 (aA p9 (aA p9 (aA p9 (aA p9 aC)))))))))
def JK(a0:bB)(a1:ax)(a2:Bool):af aun:=
 match bif Z ((yz a1.aU:Int)=0)then Q (Z ((yz a1.aV:Int)=0))else Q V with|J=>J|Q r1=>match bif Z (0<=a1.bz)then bif Z (a1.bz<yz a0.ah)then if 0<=a1.bz/\a1.bz<yz a0.ah then Q (Z (a0.ah[a1.bz.toNat]!.bU=0))else J else Q V else Q V with|J=>J|Q r2=>bif Z (a1.cM=0)then match bif r1 then bif r2 then bif Z (a1.fN=0)then Q (Z ((yz a1.aK:Int)=0))else Q V else Q V else Q V with|J=>J|Q r3=>Q (r3)else bif Z (a1.cM=1)then match bif r1 then bif Z (a1.bz=0)then bif Z (a1.fN=0)then Q (Z ((yz a1.aK:Int)=0))else Q V else Q V else Q V with|J=>J|Q r4=>Q (r4)else bif Z (a1.cM=2)then match bif r1 then bif Z (a1.bz=0)then bif Z (a1.fN=0)then bif Z ((yz a1.aK:Int)=0)then Q (IB (aj.mk a1.aB.bG a1.aB.fN a1.aB.ay))else Q V else Q V else Q V else Q V with|J=>J|Q r5=>Q (r5)else bif Z (a1.cM=3)then match bif Z (a1.bz=0)then bif Z (a1.fN=0)then Q (Z ((yz a1.aK:Int)=0))else Q V else Q V with|J=>J|Q r6=>Q (r6)else bif Z (a1.cM=4)then match bif Z (a1.bz=0)then bif Z ((yz a1.aV:Int)=0)then Q (Z ((yz a1.aK:Int)=0))else Q V else Q V with|J=>J|Q r7=>Q (r7)else bif Z (a1.cM=5)then match bif r1 then bif r2 then bif Z (0<=a1.fN)then bif Z (a1.fN<yz a0.ai)then bif Z ((yz a1.aK:Int)=0)then Q (IB (aj.mk a1.aB.bG a1.aB.fN a1.aB.ay))else Q V else Q V else Q V else Q V else Q V with|J=>J|Q r8=>Q (r8)else bif Z (a1.cM=6)then match bif r1 then bif a2 then bif Z (a1.bz=0)then bif Z (a1.fN=0)then bif IB (aj.mk a1.aB.bG a1.aB.fN a1.aB.ay)then match VO a1.aK with|J=>J|Q r9=>Q (r9)else Q V else Q V else Q V else Q V else Q V with|J=>J|Q r10=>Q (r10)else Q V
def aDI(a0:bB)(a1:ax)(a2:Bool):aO wR (Y5) 300 (ain) 111 (atV.c (a0,a1,a2,())) [] 0 d111.rd=JK a0 a1 a2:=by kernel_rfl
def amk:=eL wR 111 V atV d111 (λg=>JK g.1 g.2.1 g.t.1)
def adG{F:aI}(h:ak wR F):ak wR (amk F):=bA (sc:=dM) aX (bq ab0 atv (λ_=>by kernel_rfl) (λ_=>by kernel_rfl) λg=>aDI g.1 g.2.1 g.t.1) ⟨_,func111,by kernel_rfl,by kernel_rfl⟩ (λ_=>by kernel_rfl) (λ_=>by kernel_rfl) h
def Qj{F:aI}{f:Nat}(h:aZ F f):aZ (amk F) f:=cg h (λ_=>by kernel_rfl)
abbrev DR:=Int
def d55:Td 0 DR:= .c [] [6] (.r 0 0 (ec 6 aL en) sn (λz=>z.1.1) (λx=>((x,()),(()))))
def A55:=(lc (qg 26) (lc (ql 111) (lc qb ln)))
def x55(M:bB->(aa ax)->Bool->af DR):aI->aI:=eL wR 55 V A55 d55 (λg=>M g.1 g.2.1 g.2.2.1)
def Sb{M:bB->(aa ax)->Bool->af DR}{F:aI}{f:Nat}(h:aZ F f):aZ (x55 M F) f:=cg h (λ_=>by kernel_rfl)
def H55(M:bB->(aa ax)->Bool->af DR):Prop:=HL wR 55 A55 d55 (λg=>M g.1 g.2.1 g.2.2.1)
def Uw{M:bB->(aa ax)->Bool->af DR}(hM:H55 M){F:aI}(h:ak wR F):ak wR (x55 M F):=bA (sc:=dM) aX hM ⟨_,func55,by kernel_rfl,by kernel_rfl⟩ (λ_=>by kernel_rfl) (λ_=>by kernel_rfl) h
def F55(M55:bB->(aa ax)->Bool->af DR):aI:=(amk (x55 M55 (e54 cw)))
def ajH{M55}(h55:H55 M55):ak wR (F55 M55):=(adG (Uw h55 (Vr aQ)))
structure tY where
 t1:List ax
 t2:Bool
 t7:Int
 b0:bB
def Jn:Td 0 tY:= .c [] [1,2,3,7] (.r 0 1 (ec 1 (ql 111) (ec 2 qb (ec 3 (qp 0 0) (ec 7 aL en)))) (sb 0 26 (lg 26) sn) (λz=>⟨z.1.1,z.1.2.1,z.1.t.2.1,z.2.1⟩) (λx=>((x.t1,x.t2,(),x.t7,()),(x.b0,()))))
def BV(M55:bB->(aa ax)->Bool->af DR)(p:tY):af (af tY):=
 bif Z (p.t7<yz p.t1)then if 0<=p.t7/\p.t7<yz p.t1 then match bif p.t2 then match JK p.b0 (ax.mk p.t1[zB p.t7]!.cM p.t1[zB p.t7]!.bN p.t1[zB p.t7]!.bz p.t1[zB p.t7]!.fN (aj.mk p.t1[zB p.t7]!.aB.bG p.t1[zB p.t7]!.aB.fN p.t1[zB p.t7]!.aB.ay) p.t1[zB p.t7]!.aU p.t1[zB p.t7]!.aV p.t1[zB p.t7]!.aK) (Z (p.t7=i64.wrap ((yz p.t1:Int)-1)))with|J=>J|Q r1=>Q (bif r1 then V else O)else match JK p.b0 (ax.mk p.t1[zB p.t7]!.cM p.t1[zB p.t7]!.bN p.t1[zB p.t7]!.bz p.t1[zB p.t7]!.fN (aj.mk p.t1[zB p.t7]!.aB.bG p.t1[zB p.t7]!.aB.fN p.t1[zB p.t7]!.aB.ay) p.t1[zB p.t7]!.aU p.t1[zB p.t7]!.aV p.t1[zB p.t7]!.aK) V with|J=>J|Q r2=>Q (bif r2 then V else O)with|J=>J|Q r3=>bif r3 then Q (J)else bif Z (p.t1[zB p.t7]!.cM=2)then match bif Z (p.t1[zB p.t7]!.bN<0)then Q O else bif Z (67108864<p.t1[zB p.t7]!.bN)then Q O else bif Z (p.t1[zB p.t7]!.fN<0)then Q O else bif Z (p.t1[zB p.t7]!.cM=4)then Q (Z (4096<p.t1[zB p.t7]!.fN))else Q V with|J=>J|Q r4=>bif r4 then Q (J)else match bif Z (0<(↑p.t1[zB p.t7]!.aK.length:Int))then if 0<=i64.wrap ((↑p.t1[zB p.t7]!.aK.length:Int)-(1:Int))/\i64.wrap ((↑p.t1[zB p.t7]!.aK.length:Int)-(1:Int))<(↑p.t1[zB p.t7]!.aK.length:Int)then Q (Z (67108864<p.t1[zB p.t7]!.aK[(i64.wrap ((↑p.t1[zB p.t7]!.aK.length:Int)-1)).toNat]!))else J else Q V with|J=>J|Q r5=>bif r5 then Q (J)else match YD p.b0.ah (aj.mk p.t1[zB p.t7]!.aB.bG p.t1[zB p.t7]!.aB.fN p.t1[zB p.t7]!.aB.ay) V with|J=>J|Q r6=>bif bif Z (r6=0)then V else O then Q (J)else match M55 p.b0 p.t1[zB p.t7]!.aU V with|J=>J|Q r7=>bif bif Z (r7=0)then V else O then Q (J)else match M55 p.b0 p.t1[zB p.t7]!.aV V with|J=>J|Q r8=>bif bif Z (r8=0)then V else O then Q (J)else Q (Q (tY.mk p.t1 p.t2 (i64.wrap (p.t7+1)) p.b0))else match bif Z (p.t1[zB p.t7]!.bN<0)then Q O else bif Z (10000<p.t1[zB p.t7]!.bN)then Q O else bif Z (p.t1[zB p.t7]!.fN<0)then Q O else bif Z (p.t1[zB p.t7]!.cM=4)then Q (Z (4096<p.t1[zB p.t7]!.fN))else Q V with|J=>J|Q r9=>bif r9 then Q (J)else match bif Z (0<(↑p.t1[zB p.t7]!.aK.length:Int))then if 0<=i64.wrap ((↑p.t1[zB p.t7]!.aK.length:Int)-(1:Int))/\i64.wrap ((↑p.t1[zB p.t7]!.aK.length:Int)-(1:Int))<(↑p.t1[zB p.t7]!.aK.length:Int)then Q (Z (67108864<p.t1[zB p.t7]!.aK[(i64.wrap ((↑p.t1[zB p.t7]!.aK.length:Int)-1)).toNat]!))else J else Q V with|J=>J|Q r10=>bif r10 then Q (J)else match YD p.b0.ah (aj.mk p.t1[zB p.t7]!.aB.bG p.t1[zB p.t7]!.aB.fN p.t1[zB p.t7]!.aB.ay) V with|J=>J|Q r11=>bif bif Z (r11=0)then V else O then Q (J)else match M55 p.b0 p.t1[zB p.t7]!.aU V with|J=>J|Q r12=>bif bif Z (r12=0)then V else O then Q (J)else match M55 p.b0 p.t1[zB p.t7]!.aV V with|J=>J|Q r13=>bif bif Z (r13=0)then V else O then Q (J)else Q (Q (tY.mk p.t1 p.t2 (i64.wrap (p.t7+1)) p.b0))else J else Q (J)
def T9(M55:bB->(aa ax)->Bool->af DR):An:=(noTwo (.two (noTwo (.two (.two (.rb [111] 32) .no) (noTwo (noTwo (.two (.two (.rb [111] 59) .no) (.two (.two (.rb [111] 74) .no) .no)))))) .no))
def ayb(M55:bB->(aa ax)->Bool->af DR)(p:tY):bK wR (F55 M55) f55.ntmps 300 (aN f55 0) (T9 M55) (af tY) (Jn.pat p) (fR Jn.rd)=BV M55 p:=by kernel_rfl
def Ng(M55:bB->(aa ax)->Bool->af DR):=b6 (BV M55)
def axZ(M55:bB->(aa ax)->Bool->af DR):An:=(noTwo (.two (noTwo (Jn.lp (Ng M55) (T9 M55))) .no))
def ap8{M55}:∀f∈([111]:aa Nat),aZ (F55 M55) f:=(aA (Qj (Sb (RU cS))) aC)
def aBi(M55:bB->(aa ax)->Bool->af DR):bx wR (F55 M55) 0 300 55 (axZ M55):=aD (l:=[(aN f55 0,(Jn.lp (Ng M55) (T9 M55))),(.skip,(.rb [111] 32)),(.skip,(.rb [111] 59)),(.skip,(.rb [111] 74))]) func55 (aq (by kernel_rfl)) (by kernel_rfl) (aA ⟨Jn.ok _,bt (ayb M55)⟩ (aA ap8 (aA ap8 (aA ap8 aC))))
def s55(M55:bB->(aa ax)->Bool->af DR)(a0:bB)(a1:aa ax)(a2:Bool):af DR:=
 match Ng M55 (tY.mk a1 a2 0 a0)with|J=>J|Q r14=>bif Z (r14.t7<yz r14.t1)then if 0<=r14.t7/\r14.t7<yz r14.t1 then match bif r14.t2 then match JK r14.b0 (ax.mk r14.t1[zB r14.t7]!.cM r14.t1[zB r14.t7]!.bN r14.t1[zB r14.t7]!.bz r14.t1[zB r14.t7]!.fN (aj.mk r14.t1[zB r14.t7]!.aB.bG r14.t1[zB r14.t7]!.aB.fN r14.t1[zB r14.t7]!.aB.ay) r14.t1[zB r14.t7]!.aU r14.t1[zB r14.t7]!.aV r14.t1[zB r14.t7]!.aK) (Z (r14.t7=i64.wrap ((yz r14.t1:Int)-1)))with|J=>J|Q r15=>Q (bif r15 then V else O)else match JK r14.b0 (ax.mk r14.t1[zB r14.t7]!.cM r14.t1[zB r14.t7]!.bN r14.t1[zB r14.t7]!.bz r14.t1[zB r14.t7]!.fN (aj.mk r14.t1[zB r14.t7]!.aB.bG r14.t1[zB r14.t7]!.aB.fN r14.t1[zB r14.t7]!.aB.ay) r14.t1[zB r14.t7]!.aU r14.t1[zB r14.t7]!.aV r14.t1[zB r14.t7]!.aK) V with|J=>J|Q r16=>Q (bif r16 then V else O)with|J=>J|Q r17=>bif r17 then Q 1 else bif Z (r14.t1[zB r14.t7]!.cM=2)then match bif Z (r14.t1[zB r14.t7]!.bN<0)then Q O else bif Z (67108864<r14.t1[zB r14.t7]!.bN)then Q O else bif Z (r14.t1[zB r14.t7]!.fN<0)then Q O else bif Z (r14.t1[zB r14.t7]!.cM=4)then Q (Z (4096<r14.t1[zB r14.t7]!.fN))else Q V with|J=>J|Q r18=>bif r18 then Q 3 else match bif Z (0<(↑r14.t1[zB r14.t7]!.aK.length:Int))then if 0<=i64.wrap ((↑r14.t1[zB r14.t7]!.aK.length:Int)-(1:Int))/\i64.wrap ((↑r14.t1[zB r14.t7]!.aK.length:Int)-(1:Int))<(↑r14.t1[zB r14.t7]!.aK.length:Int)then Q (Z (67108864<r14.t1[zB r14.t7]!.aK[(i64.wrap ((↑r14.t1[zB r14.t7]!.aK.length:Int)-1)).toNat]!))else J else Q V with|J=>J|Q r19=>bif r19 then Q 3 else match YD r14.b0.ah (aj.mk r14.t1[zB r14.t7]!.aB.bG r14.t1[zB r14.t7]!.aB.fN r14.t1[zB r14.t7]!.aB.ay) V with|J=>J|Q r20=>bif bif Z (r20=0)then V else O then Q (r20)else match M55 r14.b0 r14.t1[zB r14.t7]!.aU V with|J=>J|Q r21=>bif bif Z (r21=0)then V else O then Q (r21)else match M55 r14.b0 r14.t1[zB r14.t7]!.aV V with|J=>J|Q r22=>bif bif Z (r22=0)then V else O then Q (r22)else J else match bif Z (r14.t1[zB r14.t7]!.bN<0)then Q O else bif Z (10000<r14.t1[zB r14.t7]!.bN)then Q O else bif Z (r14.t1[zB r14.t7]!.fN<0)then Q O else bif Z (r14.t1[zB r14.t7]!.cM=4)then Q (Z (4096<r14.t1[zB r14.t7]!.fN))else Q V with|J=>J|Q r23=>bif r23 then Q 3 else match bif Z (0<(↑r14.t1[zB r14.t7]!.aK.length:Int))then if 0<=i64.wrap ((↑r14.t1[zB r14.t7]!.aK.length:Int)-(1:Int))/\i64.wrap ((↑r14.t1[zB r14.t7]!.aK.length:Int)-(1:Int))<(↑r14.t1[zB r14.t7]!.aK.length:Int)then Q (Z (67108864<r14.t1[zB r14.t7]!.aK[(i64.wrap ((↑r14.t1[zB r14.t7]!.aK.length:Int)-1)).toNat]!))else J else Q V with|J=>J|Q r24=>bif r24 then Q 3 else match YD r14.b0.ah (aj.mk r14.t1[zB r14.t7]!.aB.bG r14.t1[zB r14.t7]!.aB.fN r14.t1[zB r14.t7]!.aB.ay) V with|J=>J|Q r25=>bif bif Z (r25=0)then V else O then Q (r25)else match M55 r14.b0 r14.t1[zB r14.t7]!.aU V with|J=>J|Q r26=>bif bif Z (r26=0)then V else O then Q (r26)else match M55 r14.b0 r14.t1[zB r14.t7]!.aV V with|J=>J|Q r27=>bif bif Z (r27=0)then V else O then Q (r27)else J else J else Q 0
def c55(M55:bB->(aa ax)->Bool->af DR)(a0:bB)(a1:aa ax)(a2:Bool):aO wR (F55 M55) 300 (axZ M55) 55 (A55.c (a0,a1,a2,())) [] 0 d55.rd=s55 M55 a0 a1 a2:=by kernel_rfl
def at2:Nat->(bB->(aa ax)->Bool->af DR)
 |0=>(λ_ _ _=>J)
 |n+1=>(s55 (at2 n))
def m55(n:Nat):bB->(aa ax)->Bool->af DR:=(at2 n)
def MR:∀n,H55 (m55 n)
 |0=>λ_ _ h=>(by cases h)
 |n+1=>by
  have ih:=MR n;have i55:=ih;exact(bq (ajH i55) (aBi (m55 n)) (λ_=>by kernel_rfl) (λ_=>by kernel_rfl) λg=>c55 (m55 n) g.1 g.2.1 g.2.2.1)
def r55:bB->(aa ax)->Bool->af DR:=λa0 a1 a2=>lim (λn=>m55 n a0 a1 a2)
def alG:H55 r55:=λg b h=>by
 obtain⟨n,hn⟩:=bX (show lim (λn=>m55 n g.1 g.2.1 g.2.2.1)=Q b from h);exact(MR n) g b hn
def e55(F:aI):aI:=x55 r55 F
def am8{F:aI}(h:ak wR F):ak wR (e55 F):=Uw alG h
abbrev IY:=Int×Int×Int
def d56:Td 0 IY:= .c [] [2,3,4] (.r 0 0 (ec 2 aL (ec 3 aL (ec 4 aL en))) sn (λz=>(z.1.1,z.1.2.1,z.1.t.1)) (λx=>((x.1,x.2.1,x.t,()),(()))))
def A56:=(lc (ql 111) ln)
def x56(M:(aa ax)->af IY):aI->aI:=eL wR 56 V A56 d56 (λg=>M g.1)
def H56(M:(aa ax)->af IY):Prop:=HL wR 56 A56 d56 (λg=>M g.1)
def Yt{M:(aa ax)->af IY}(hM:H56 M){F:aI}(h:ak wR F):ak wR (x56 M F):=bA (sc:=dM) aX hM ⟨_,func56,by kernel_rfl,by kernel_rfl⟩ (λ_=>by kernel_rfl) (λ_=>by kernel_rfl) h
def F56(M56:(aa ax)->af IY):aI:=(aag (QN (x56 M56 cw)))
def akx{M56}(h56:H56 M56):ak wR (F56 M56):=(Fj (FF (Yt h56 aQ)))
structure ov where
 t0:List ax
 (t5 t6 t7 t8:Int)
def IQ:Td 0 ov:= .c [] [0,5,6,7,8] (.r 0 0 (ec 0 (ql 111) (ec 5 aL (ec 6 aL (ec 7 aL (ec 8 aL en))))) sn (λz=>⟨z.1.1,z.1.2.1,z.1.t.1,z.1.t.2.1,z.1.q.1⟩) (λx=>((x.t0,x.t5,x.t6,x.t7,x.t8,()),(()))))
def Gt(M56:(aa ax)->af IY)(p:ov):af (af ov):=
 bif Z (p.t8<yz p.t0)then if 0<=p.t8/\p.t8<yz p.t0 then match M56 p.t0[zB p.t8]!.aU with|J=>J|Q r1=>match M56 p.t0[zB p.t8]!.aV with|J=>J|Q r2=>bif Z (p.t0[zB p.t8]!.cM=4)then bif Z (p.t0[zB p.t8]!.cM=1)then Q (Q (ov.mk p.t0 (gW (i64.wrap (p.t5+i64.wrap (1+i64.wrap (p.t0[zB p.t8]!.fN*i64.wrap (1+r1.fst))))) 4097) (gW (i64.wrap (p.t6+1)) 9) (gW (i64.wrap (p.t7+i64.wrap (p.t0[zB p.t8]!.fN*i64.wrap (p.t0[zB p.t8]!.bN+r1.snd.snd)))) 67108865) (i64.wrap (p.t8+1))))else Q (Q (ov.mk p.t0 (gW (i64.wrap (p.t5+i64.wrap (1+i64.wrap (p.t0[zB p.t8]!.fN*i64.wrap (1+r1.fst))))) 4097) (gW (i64.wrap (p.t6+i64.wrap (p.t0[zB p.t8]!.fN*r1.snd.fst))) 9) (gW (i64.wrap (p.t7+i64.wrap (p.t0[zB p.t8]!.fN*i64.wrap (p.t0[zB p.t8]!.bN+r1.snd.snd)))) 67108865) (i64.wrap (p.t8+1))))else bif Z (p.t0[zB p.t8]!.cM=1)then Q (Q (ov.mk p.t0 (gW (i64.wrap (p.t5+i64.wrap (1+iJ r1.fst r2.fst))) 4097) (gW (i64.wrap (p.t6+1)) 9) (gW (i64.wrap (p.t7+i64.wrap (p.t0[zB p.t8]!.bN+iJ r1.snd.snd r2.snd.snd))) 67108865) (i64.wrap (p.t8+1))))else Q (Q (ov.mk p.t0 (gW (i64.wrap (p.t5+i64.wrap (1+iJ r1.fst r2.fst))) 4097) (gW (i64.wrap (p.t6+iJ r1.snd.fst r2.snd.fst)) 9) (gW (i64.wrap (p.t7+i64.wrap (p.t0[zB p.t8]!.bN+iJ r1.snd.snd r2.snd.snd))) 67108865) (i64.wrap (p.t8+1))))else J else Q (J)
def arW(M56:(aa ax)->af IY)(p:ov):bK wR (F56 M56) f56.ntmps 300 (aN f56 0) .no (af ov) (IQ.pat p) (fR IQ.rd)=Gt M56 p:=by kernel_rfl
def MK(M56:(aa ax)->af IY):=b6 (Gt M56)
def aqv(M56:(aa ax)->af IY):An:=(noTwo (noTwo (.two (noTwo (IQ.lp (MK M56) .no)) .no)))
def aCh(M56:(aa ax)->af IY):bx wR (F56 M56) 0 300 56 (aqv M56):=aD (l:=[(aN f56 0,(IQ.lp (MK M56) .no))]) func56 (aq (by kernel_rfl)) (by kernel_rfl) (aA ⟨IQ.ok _,bt (arW M56)⟩ aC)
def s56(M56:(aa ax)->af IY)(a0:aa ax):af IY:=
 match MK M56 (ov.mk a0 0 0 0 0)with|J=>J|Q r3=>bif Z (r3.t8<yz r3.t0)then if 0<=r3.t8/\r3.t8<yz r3.t0 then match M56 r3.t0[zB r3.t8]!.aU with|J=>J|Q r4=>match M56 r3.t0[zB r3.t8]!.aV with|J=>J|Q r5=>bif Z (r3.t0[zB r3.t8]!.cM=4)then bif Z (r3.t0[zB r3.t8]!.cM=1)then J else J else bif Z (r3.t0[zB r3.t8]!.cM=1)then J else J else J else Q (r3.t5,r3.t6,r3.t7)
def c56(M56:(aa ax)->af IY)(a0:aa ax):aO wR (F56 M56) 300 (aqv M56) 56 (A56.c (a0,())) [] 0 d56.rd=s56 M56 a0:=by kernel_rfl
def arw:Nat->((aa ax)->af IY)
 |0=>(λ_=>J)
 |n+1=>(s56 (arw n))
def m56(n:Nat):(aa ax)->af IY:=(arw n)
def OF:∀n,H56 (m56 n)
 |0=>λ_ _ h=>(by cases h)
 |n+1=>by
  have ih:=OF n;have i56:=ih;exact(bq (akx i56) (aCh (m56 n)) (λ_=>by kernel_rfl) (λ_=>by kernel_rfl) λg=>c56 (m56 n) g.1)
def r56:(aa ax)->af IY:=λa0=>lim (λn=>m56 n a0)
def alK:H56 r56:=λg b h=>by
 obtain⟨n,hn⟩:=bX (show lim (λn=>m56 n g.1)=Q b from h);exact(OF n) g b hn
def e56(F:aI):aI:=x56 r56 F
def ang{F:aI}(h:ak wR F):ak wR (e56 F):=Yt alK h
def F15:aI:=(e56 (e55 (e54 (e53 (e52 (e51 (e50 cw)))))))
def alM:ak wR F15:=(ang (am8 (Vr (UM (Ue (amD (aj1 aQ)))))))
structure tS where
 (t4 t6:Int)
 b0:bB
 b1:cG
def Ke:Td 0 tS:= .c [] [1,4,5,6] (.r 0 2 (ec 1 (qp 0 0) (ec 4 aL (ec 5 (qp 1 0) (ec 6 aL en)))) (sb 0 26 (lg 26) (sb 1 116 (lg 116) sn)) (λz=>⟨z.1.2.1,z.1.t.2.1,z.2.1,z.t.1⟩) (λx=>(((),x.t4,(),x.t6,()),(x.b0,x.b1,()))))
def Hq(p:tS):af (af tS):=
 bif Z (p.t6<p.t4)then if 0<=p.t6/\p.t6<yz p.b0.ai then bif p.b0.ai[zB p.t6]!.fName.toList==p.b1.fName.toList then Q (J)else Q (Q (tS.mk p.t4 (i64.wrap (p.t6+1)) p.b0 (cG.mk p.b1.fName p.b1.aG p.b1.au (aj.mk p.b1.aB.bG p.b1.aB.fN p.b1.aB.ay))))else J else Q (J)
def atL(p:tS):bK wR (F15) f15.ntmps 300 (aN f15 1) .no (af tS) (Ke.pat p) (fR Ke.rd)=Hq p:=by kernel_rfl
def Hv:=b6 (Hq)
structure Co where
 t4:Int
 b0:bB
def JJ:Td 0 Co:= .c [] [1,4] (.r 0 1 (ec 1 (qp 0 0) (ec 4 aL en)) (sb 0 26 (lg 26) sn) (λz=>⟨z.1.2.1,z.2.1⟩) (λx=>(((),x.t4,()),(x.b0,()))))
def BQ(p:Co):af (af Co):=
 bif Z (p.t4<yz p.b0.ai)then if 0<=p.t4/\p.t4<yz p.b0.ai then match m52 p.b0.ai[zB p.t4]!.fName with|J=>J|Q r1=>bif bif r1 then V else O then Q (J)else match Hv (tS.mk p.t4 0 p.b0 (cG.mk p.b0.ai[zB p.t4]!.fName p.b0.ai[zB p.t4]!.aG p.b0.ai[zB p.t4]!.au (aj.mk p.b0.ai[zB p.t4]!.aB.bG p.b0.ai[zB p.t4]!.aB.fN p.b0.ai[zB p.t4]!.aB.ay)))with|J=>J|Q r2=>bif Z (r2.t6<r2.t4)then if 0<=r2.t6/\r2.t6<yz r2.b0.ai then bif r2.b0.ai[zB r2.t6]!.fName.toList==r2.b1.fName.toList then Q (J)else J else J else bif bif m53 r2.b1.aG r2.b1.au then V else O then Q (J)else match YD r2.b0.ah (aj.mk r2.b1.aB.bG r2.b1.aB.fN r2.b1.aB.ay) O with|J=>J|Q r3=>bif bif Z (r3=0)then V else O then Q (J)else Q (Q (Co.mk (i64.wrap (r2.t4+1)) r2.b0))else J else Q (J)
def XE:An:=(noTwo (.two (noTwo (noTwo (.two (noTwo (Ke.lp Hv .no)) .no))) .no))
def awl(p:Co):bK wR (F15) f15.ntmps 300 (aN f15 0) XE (af Co) (JJ.pat p) (fR JJ.rd)=BQ p:=by kernel_rfl
def OZ:=b6 (BQ)
abbrev E15:=Int
def d15:Td 0 E15:= .c [] [2] (.r 0 0 (ec 2 aL en) sn (λz=>z.1.1) (λx=>((x,()),(()))))
def A15:=(lc (qg 26) ln)
def asE:An:=(noTwo (noTwo (noTwo (noTwo (.two (noTwo (JJ.lp OZ XE)) (noTwo (noTwo (noTwo (.two (.two (.rb [] 86) .no) .no)))))))))
def aDj:∀f∈([]:aa Nat),aZ (F15) f:=aC
def aAE:bx wR (F15) 0 300 15 (asE):=aD (l:=[(aN f15 0,(JJ.lp OZ XE)),(aN f15 1,(Ke.lp Hv .no)),(.skip,(.rb [] 86))]) func15 (aq (by kernel_rfl)) (by kernel_rfl) (aA ⟨JJ.ok _,bt (awl)⟩ (aA ⟨Ke.ok _,bt (atL)⟩ (aA aDj aC)))
def m15(a0:bB):af E15:=
 match m50 a0 with|J=>J|Q r4=>bif bif r4 then V else O then Q 4 else match m51 a0.ah with|J=>J|Q r5=>bif bif Z (r5=0)then V else O then Q (r5)else match OZ (Co.mk 0 a0)with|J=>J|Q r6=>bif Z (r6.t4<yz r6.b0.ai)then if 0<=r6.t4/\r6.t4<yz r6.b0.ai then match m52 r6.b0.ai[zB r6.t4]!.fName with|J=>J|Q r7=>bif bif r7 then V else O then Q 7 else match Hv (tS.mk r6.t4 0 r6.b0 (cG.mk r6.b0.ai[zB r6.t4]!.fName r6.b0.ai[zB r6.t4]!.aG r6.b0.ai[zB r6.t4]!.au (aj.mk r6.b0.ai[zB r6.t4]!.aB.bG r6.b0.ai[zB r6.t4]!.aB.fN r6.b0.ai[zB r6.t4]!.aB.ay)))with|J=>J|Q r8=>bif Z (r8.t6<r8.t4)then if 0<=r8.t6/\r8.t6<yz r8.b0.ai then bif r8.b0.ai[zB r8.t6]!.fName.toList==r8.b1.fName.toList then Q 8 else J else J else bif bif m53 r8.b1.aG r8.b1.au then V else O then Q 3 else match YD r8.b0.ah (aj.mk r8.b1.aB.bG r8.b1.aB.fN r8.b1.aB.ay) O with|J=>J|Q r9=>bif bif Z (r9=0)then V else O then Q (r9)else J else J else match r55 r6.b0 r6.b0.bR O with|J=>J|Q r10=>bif bif Z (r10=0)then V else O then Q (r10)else match r56 r6.b0.bR with|J=>J|Q r11=>match bif Z (4096<r11.fst)then Q O else bif Z (8<r11.snd.fst)then Q O else Q (Z (67108864<r11.snd.snd))with|J=>J|Q r12=>bif r12 then Q 4 else Q 0
def c15(a0:bB):aO wR (F15) 300 (asE) 15 (A15.c (a0,())) [] 0 d15.rd=m15 a0:=by kernel_rfl
def h15:HL wR 15 A15 d15 (λg=>m15 g.1):=(bq alM aAE (λ_=>by kernel_rfl) (λ_=>by kernel_rfl) λg=>c15 g.1)
def e15:=eL wR 15 V A15 d15 (λg=>m15 g.1)
def an9{F:aI}(h:ak wR F):ak wR (e15 F):=bA (sc:=dM) aX h15 ⟨_,func15,by kernel_rfl,by kernel_rfl⟩ (λ_=>by kernel_rfl) (λ_=>by kernel_rfl) h
def Xj(l:aa UInt8):(ByteArray.mk (Array.mk l)).toList=l:=by
 simp
def ajr(s:ByteArray):(s.toList==(ByteArray.mk (Array.mk [])).toList)=Z (s.size=0):=by
 obtain⟨⟨l⟩⟩:=s;rw[Xj,Xj];have hs:(ByteArray.mk (Array.mk l)).size=yz l:=rfl;rw[hs];cases l with
 |nil=>rfl
 |cons a l=>simp
def uH(s:ByteArray):Io s=Q (iy s):=by
 unfold Io;rw[ajr];by_cases h0:s.size=0
 ·simp[h0,iy]
 by_cases h1:40<(s.size:Int)
 ·have h1':¬s.size<=40:=by omega
  simp[h1,h1',iy]
 rw[dw h0,dw h1];obtain⟨i,e1,hc⟩:=mP (rnd:=AN) (zU s.size) (λi=>⟨s,(s.size:Int),(i:Int)⟩) (λi j=>okc j (bL s j)) (λi hi=>by
  rw[xS]at hi;have hw:=iF hi (by omega);unfold AN okc;simp only[zi];grind) (by unfold AN;simp)
 have e1':Fm ⟨s,(s.size:Int),0⟩=Q ⟨s,(s.size:Int),(i:Int)⟩:=e1;rw[e1'];have h2:iy s=(zU s.size).all λi=>okc i (bL s i):=by
  unfold iy;rw[iN (by omega),iN (by omega)];simp
 rw[h2];rcases hc with ⟨rfl,hc⟩|⟨hi,hc⟩
 ·rw[wZ hc];simp
 ·rw[qh hi hc];unfold okc at hc;simp only[zi];grind
def Ep(s:ByteArray):m52 s=Q (iy s):=by
 unfold m52;by_cases h0:s.size<1
 ·have h0':¬1<=s.size:=by omega
  have h0'':(s.size:Int)<1:=by omega
  simp[h0'',h0',iy]
 by_cases h1:40<(s.size:Int)
 ·have h1':¬s.size<=40:=by omega
  have h0'':¬(s.size:Int)<1:=by omega
  simp[h1,h1',iy]
 rw[dw (show ¬(s.size:Int)<1 by omega),dw h1];obtain⟨i,e1,hc⟩:=mP (rnd:=JX) (zU s.size) (λi=>⟨s,(i:Int)⟩) (λi j=>okc j (bL s j)) (λi hi=>by
  rw[xS]at hi;have hw:=iF hi (by omega);unfold JX okc;simp only[zi];grind) (by unfold JX;simp)
 have e1':O1 ⟨s,0⟩=Q ⟨s,(i:Int)⟩:=e1;rw[e1'];have h2:iy s=(zU s.size).all λi=>okc i (bL s i):=by
  unfold iy;rw[iN (by omega),iN (by omega)];simp
 rw[h2];rcases hc with ⟨rfl,hc⟩|⟨hi,hc⟩
 ·rw[wZ hc];simp
 ·rw[qh hi hc];unfold okc at hc;simp only[zi];grind
def uP(a b:Int):Ek a b=iC a b:=by
 unfold Ek iC;simp
def Fh(a b:Int):m53 a b=iC a b:=by
 unfold m53 iC;simp
def Pd(l:aa aT)(hl:yz l<=1000000)(v:aT):Q6 l v=Q (l.any λw=>w.fName.toList==v.fName.toList):=by
 obtain⟨i,e1,hc⟩:=mP (rnd:=Bm) l (λi=>⟨l,v.fName,v.bU,v.aG,v.au,v.gj,(yz l:Int),(i:Int)⟩) (λ_ w=> !(w.fName.toList==v.fName.toList)) (λi hi=>by
  have hw:=iF hi hl;unfold Bm Qf;grind) (by unfold Bm;simp)
 have e1':F5 ⟨l,v.fName,v.bU,v.aG,v.au,v.gj,(yz l:Int),0⟩=Q ⟨l,v.fName,v.bU,v.aG,v.au,v.gj,(yz l:Int),(i:Int)⟩:=e1;unfold Q6 aeW;rw[e1'];rcases hc with ⟨rfl,hc⟩|⟨hi,hc⟩
 ·rw[qQ λj hj=>by have:=hc j hj;simpa using this];simp
 ·have hc':(l[i]!.fName.toList==v.fName.toList)=O:=by simpa using hc
  rw[E8 hi hc'];unfold Qf;simp only[zi,hc'];simp[hi]
def G9(l:aa aT)(hl:yz l<=1000000)(n:Nat)(hn:n<=yz l)(v:aT):
  ∃i:Nat,GP ⟨l,n,0,v⟩=Q ⟨l,n,(i:Int),v⟩/\((i=n/\((l.take n).any λw=>w.fName.toList==v.fName.toList)=V)\/(i<n/\(l[i]!.fName.toList==v.fName.toList)=O/\((l.take n).any λw=>w.fName.toList==v.fName.toList)=O)):=by
 have hlen:yz (l.take n)=n:=by rw[zM];omega
 have hget:∀i,i<n->(l.take n)[i]! =l[i]! :=λi hi=>by
  rw[getElem!_pos _ i (by omega),getElem!_pos _ i (by omega),xW]
 obtain⟨i,e1,hc⟩:=mP (rnd:=GG) (l.take n) (λi=>⟨l,(n:Int),(i:Int),v⟩) (λ_ w=> !(w.fName.toList==v.fName.toList)) (λi hi=>by
  have hw:=iF hi (by omega);unfold GG;grind) (by rw[hlen];unfold GG;simp)
 refine⟨i,e1,?_⟩;rw[hlen]at hc;rcases hc with ⟨rfl,hc⟩|⟨hi,hc⟩
 ·exact .inl ⟨rfl,qQ λj hj=>by have:=hc j (by omega);simpa using this⟩
 ·have hc':((l.take n)[i]!.fName.toList==v.fName.toList)=O:=by simpa using hc
  exact .inr ⟨hi,by rw[<-hget i hi];exact hc',E8 (by omega) hc'⟩
def uU(a b:aa aj):jd (a++b)=jd a+jd b:=by simp[jd]
def BF(l:aa aj)(i:Nat):jd (l.take i)<=jd l:=by
 have:=uU (l.take i) (l.drop i);rw[xF]at this;omega
def ER(l:aa aj):yz l<=jd l:=by
 induction l with
 |nil=>simp
 |cons a l ih=>rw[mI];have:=Xc a;simp;omega
def adz(a b:aa ax):gi (a++b)=gi a+gi b:=by simp[gi]
def YA(l:aa ax)(i:Nat):gi (l.take i)<=gi l:=by
 have:=adz (l.take i) (l.drop i);rw[xF]at this;omega
def alE(s:ax):0<nS s:=by rw[mh];omega
def ji(l:aa ax):yz l<=gi l:=by
 induction l with
 |nil=>simp
 |cons a l ih=>rw[ki];have:=alE a;simp;omega
def vX{l:aa aj}{i:Nat}(hi:i<yz l):jd (l.take i)+nT l[i]!<=jd l:=by
 have:=BF l (i+1);rw[bQ hi,nv]at this;omega
def Av{l:aa ax}{i:Nat}(hi:i<yz l):gi (l.take i)+nS l[i]!<=gi l:=by
 have:=YA l (i+1);rw[bQ hi,Gl]at this;omega
def KQ(l:aa aj)(h:∀k∈l,dT k<=nT k):∀i,i<=yz l->Ks (l.take i)<=jd (l.take i):=by
 intro i;induction i with
 |zero=>intro _;simp[Ks]
 |succ i ih=>
  intro hi;have h2:=h _ (bD (show i<yz l by omega));rw[bQ (by omega),vB,nv];omega
def agd(t:aj):dT t<=nT t:=by
 have key:∀(n:Nat) (t:aj),zl t<n->dT t<=nT t:=by
  intro n;induction n with
  |zero=>intro t h;omega
  |succ n ih=>
   intro t h;have:=KQ t.ay (λk hk=>ih k (by have:=aj.eU hk;omega)) (yz t.ay) (zA _);rw[yp]at this;rw[OQ,qX];omega
 exact key _ t (z7 _)
def W7(l:aa aj)(i:Nat):Ks (l.take i)<=jd l:=by
 have h1:=BF l i;by_cases h:i<=yz l
 ·have:=KQ l (λk _=>agd k) i h;omega
 ·have:=KQ l (λk _=>agd k) (yz l) (zA _);rw[yp]at this;rw[yX (by omega)];omega
def Vd(l:aa ax):gZ l<=gi l:=by
 have key:∀(n:Nat) (l:aa ax),zl l<n->gZ l<=gi l:=by
  intro n;induction n with
  |zero=>intro t h;omega
  |succ n ih=>
   intro l h;cases l with
   |nil=>rw[gZ];simp
   |cons s l=>
    have q1:=ih s.aU (by have:=bg (l:=s::l) (zq ..);omega);have q2:=ih s.aV (by have:=bg (l:=s::l) (zq ..);omega);have q3:=ih l (by have:=eG s l;omega);rw[gZ,ki,mh];omega
 exact key _ l (z7 _)
def abj(M:aj->af lV)(t:aj)(hM:∀k∈t.ay,M k=Q (nT k:Int))(h:nT t<=1000):Zq M t=Q (nT t:Int):=by
 have hN:=qX t;have hL:=ER t.ay;obtain⟨v,e1,hv⟩:=dL (rnd:=AQ M) (yz t.ay) (λi (b:Int)=>⟨b,(i:Int),t⟩) (λi b=>b=1+jd (t.ay.take i)) (λi b hi hb=>by
   have hs:=vX hi;refine⟨b+nT t.ay[i]!,?_,?_⟩
   ·have hk:=hM _ (bD hi);have hw:=iF hi (by omega);have hw2:i64.wrap (b+nT t.ay[i]!)=b+nT t.ay[i]! :=aJ (by omega) (by omega);unfold AQ;simp only[aj.eta];grind
   ·rw[bQ hi,nv];omega) (λb _=>by unfold AQ;simp) (b:=1) (by simp[jd])
 have e1':FD M ⟨1,0,t⟩=Q ⟨v,(yz t.ay:Int),t⟩:=e1;unfold Zq;rw[aj.eta,e1',hN];simp[hv]
def Oz:∀(n:Nat) (t:aj),zl t<n->nT t<=1000->KB n t=Q (nT t:Int)
 |0,_,h,_=>by omega
 |n+1,t,h,h2=>abj (KB n) t (λk hk=>Oz n k (by have:=aj.eU hk;omega) (by have:=OM hk;have:=qX t;omega)) h2
def Eo(t:aj)(h:nT t<=1000):Lm t=Q (nT t:Int):=dg (zl t+1) λn hn=>Oz n t (by omega) h
def aau(M:aj->af lW)(t:aj)(hM:∀k∈t.ay,M k=Q (dT k))(h:nT t<=1000):aaC M t=Q (dT t):=by
 have hN:=qX t;have hL:=ER t.ay;obtain⟨v,e1,hv⟩:=dL (rnd:=Cs M) (yz t.ay) (λi (b:Int)=>⟨b,(i:Int),t⟩) (λi b=>b=Ks (t.ay.take i)) (λi b hi hb=>by
   refine⟨max b (dT t.ay[i]!),?_,?_⟩
   ·have hk:=hM _ (bD hi);have hw:=iF hi (by omega);unfold Cs;simp only[zP,aj.eta];grind
   ·rw[bQ hi,vB,hb]) (λb _=>by unfold Cs;simp) (b:=0) (by simp[Ks])
 have e1':FX M ⟨0,0,t⟩=Q ⟨v,(yz t.ay:Int),t⟩:=e1;unfold aaC;rw[aj.eta,e1',OQ];have hd:=W7 t.ay (yz t.ay);have hp:=Ed t.ay;rw[yp]at hv hd;subst hv;have hw2:i64.wrap (Ks t.ay+1)=Ks t.ay+1:=aJ (by omega) (by omega);dsimp only;rw[dw (by omega)];show Q (i64.wrap (Ks t.ay+1))=_
 congr 1
 omega
def O7:∀(n:Nat) (t:aj),zl t<n->nT t<=1000->LG n t=Q (dT t)
 |0,_,h,_=>by omega
 |n+1,t,h,h2=>aau (LG n) t (λk hk=>O7 n k (by have:=aj.eU hk;omega) (by have:=OM hk;have:=qX t;omega)) h2
def Eg(t:aj)(h:nT t<=1000):HM t=Q (dT t):=dg (zl t+1) λn hn=>O7 n t (by omega) h
def D7{s:ax}{l:aa ax}(h:s∈l):nS s<=gi l:=by
 induction l with
 |nil=>cases h
 |cons a l ih=>
  rw[ki];rcases zu.1 h with rfl|h
  ·omega
  ·have:=ih h;omega
def fI:aa ax->Int
 |[]=>0
 |s::l=>1+nT s.aB+fI s.aU+fI s.aV+fI l
termination_by l=>zl l
decreasing_by
 ·exact(bg (zq ..)).1
 ·exact(bg (zq ..)).2
 ·exact eG _ _
def vb(l:aa ax):0<=fI l/\fI l<=gi l:=by
 have key:∀(n:Nat) (l:aa ax),zl l<n->0<=fI l/\fI l<=gi l:=by
  intro n;induction n with
  |zero=>intro t h;omega
  |succ n ih=>
   intro l h;cases l with
   |nil=>rw[fI];simp
   |cons s l=>
    have q1:=ih s.aU (by have:=bg (l:=s::l) (zq ..);omega);have q2:=ih s.aV (by have:=bg (l:=s::l) (zq ..);omega);have q3:=ih l (by have:=eG s l;omega);rw[fI,ki,mh];omega
 exact key _ l (z7 _)
def RE(l:aa ax)(s:ax):fI (l++[s])=fI l+(1+nT s.aB+fI s.aU+fI s.aV):=by
 induction l with
 |nil=>rw[yR,show fI []=0 by rw[fI],fI,show fI []=0 by rw[fI]];omega
 |cons a l ih=>rw[yZ,fI,fI,ih];omega
def aeZ(M:aa ax->af lX)(l:aa ax)(hM:∀s∈l,M s.aU=Q (fI s.aU)/\M s.aV=Q (fI s.aV))(h:gi l<=1000):aao M l=Q (fI l):=by
 have hL:=ji l;obtain⟨v,e1,hv⟩:=dL (rnd:=Bh M) (yz l) (λi (b:Int)=>⟨l,b,(i:Int)⟩) (λi b=>b=fI (l.take i)) (λi b hi hb=>by
   have hs:=Av hi;have hE:=mh l[i]!;obtain⟨k1,k4⟩:=hM _ (bD hi);have k2:=vb l[i]!.aU;have k3:=vb l[i]!.aV;have k5:=vb (l.take i);have hk:=Eo l[i]!.aB (by omega);have hw:=iF hi (by omega);refine⟨b+(1+nT l[i]!.aB+fI l[i]!.aU+fI l[i]!.aV),?_,?_⟩
   ·have w1:i64.wrap (b+1)=b+1:=aJ (by omega) (by omega);have w2:i64.wrap (b+1+nT l[i]!.aB)=b+1+nT l[i]!.aB:=aJ (by omega) (by omega);have w3:i64.wrap (b+1+nT l[i]!.aB+fI l[i]!.aU)=b+1+nT l[i]!.aB+fI l[i]!.aU:=aJ (by omega) (by omega);have w4:i64.wrap (b+1+nT l[i]!.aB+fI l[i]!.aU+fI l[i]!.aV)=b+(1+nT l[i]!.aB+fI l[i]!.aU+fI l[i]!.aV):=by rw[aJ (by omega) (by omega)];omega
    unfold Bh;simp only[aj.eta];grind
   ·rw[bQ hi,RE];omega) (λb _=>by unfold Bh;simp) (b:=0) (by simp[fI])
 have e1':Fg M ⟨l,0,0⟩=Q ⟨l,v,(yz l:Int)⟩:=e1;unfold aao;rw[e1'];simp[hv]
def fq{s:ax}{l:aa ax}(h:s∈l):gi s.aU<=gi l/\gi s.aV<=gi l:=by
 have:=D7 h;have:=mh s;omega
def FP:∀(n:Nat) (l:aa ax),zl l<n->gi l<=1000->Kx n l=Q (fI l)
 |0,_,h,_=>by omega
 |n+1,l,h,h2=>aeZ (Kx n) l (λs hs=>⟨FP n _ (by have:=bg hs;omega) (by have:=fq hs;omega),FP n _ (by have:=bg hs;omega) (by have:=fq hs;omega)⟩) h2
def abd(l:aa ax)(h:gi l<=1000):acY l=Q (fI l):=dg (zl l+1) λn hn=>FP n l (by omega) h
def acL(M:aa ax->af lY)(l:aa ax)(hM:∀s∈l,M s.aU=Q (gZ s.aU)/\M s.aV=Q (gZ s.aV))(h:gi l<=1000):ad8 M l=Q (gZ l):=by
 have hL:=ji l;obtain⟨v,e1,hv⟩:=dL (rnd:=vU M) (yz l) (λi (b:Int)=>⟨l,b,(i:Int)⟩) (λi b=>b=gZ (l.take i)) (λi b hi hb=>by
   obtain⟨k1,k4⟩:=hM _ (bD hi);have k2:=Vd l[i]!.aU;have k3:=Vd l[i]!.aV;have k5:=fq (bD hi);have k6:=qH l[i]!.aU;have k7:=qH l[i]!.aV;have hw:=iF hi (by omega);refine⟨max b (max (gZ l[i]!.aU+1) (gZ l[i]!.aV+1)),?_,?_⟩
   ·have w1:i64.wrap (gZ l[i]!.aU+1)=gZ l[i]!.aU+1:=aJ (by omega) (by omega);have w2:i64.wrap (gZ l[i]!.aV+1)=gZ l[i]!.aV+1:=aJ (by omega) (by omega);unfold vU;simp only[zi];grind
   ·rw[bQ hi,Wu];omega) (λb _=>by unfold vU;simp) (b:=0) (by simp[gZ])
 have e1':Ex M ⟨l,0,0⟩=Q ⟨l,v,(yz l:Int)⟩:=e1;unfold ad8;rw[e1'];simp[hv]
def EY:∀(n:Nat) (l:aa ax),zl l<n->gi l<=1000->Lq n l=Q (gZ l)
 |0,_,h,_=>by omega
 |n+1,l,h,h2=>acL (Lq n) l (λs hs=>⟨EY n _ (by have:=bg hs;omega) (by have:=fq hs;omega),EY n _ (by have:=bg hs;omega) (by have:=fq hs;omega)⟩) h2
def abb(l:aa ax)(h:gi l<=1000):abn l=Q (gZ l):=dg (zl l+1) λn hn=>EY n l (by omega) h
def J8(s:ax):Bool:=Z (12<dT s.aB)||eH s.aU||eH s.aV
def PW(l:aa ax):eH l=l.any J8:=by
 induction l with
 |nil=>rw[eH];rfl
 |cons s l ih=>rw[eH,ih,List.any_cons];rfl
def afe(M:aa ax->af kS)(l:aa ax)(hM:∀s∈l,M s.aU=Q (eH s.aU)/\M s.aV=Q (eH s.aV))(h:gi l<=1000):aah M l=Q (eH l):=by
 have hL:=ji l;have hT:∀i,i<yz l->HM l[i]!.aB=Q (dT l[i]!.aB):=λi hi=>Eg _ (by have:=D7 (bD hi);have:=mh l[i]!;omega);obtain⟨i,e1,hc⟩:=mP (rnd:=Al M) l (λi=>⟨l,(i:Int)⟩) (λ_ s=> !J8 s) (λi hi=>by
   obtain⟨k1,k4⟩:=hM _ (bD hi);have hk:=hT i hi;have hw:=iF hi (by omega);unfold Al J8;simp only[zi,aj.eta,k1,k4];cases eH l[i]!.aU<;>cases eH l[i]!.aV<;>grind) (by unfold Al;simp)
 have e1':Fi M ⟨l,0⟩=Q ⟨l,(i:Int)⟩:=e1;unfold aah;rw[e1',PW];rcases hc with ⟨rfl,hc⟩|⟨hi,hc⟩
 ·rw[qQ λj hj=>by have:=hc j hj;simpa using this];simp
 ·have hc':J8 l[i]! =O:=by simpa using hc
  obtain⟨k1,k4⟩:=hM _ (bD hi);have hk:=hT i hi;unfold J8 at hc';simp only[zi,aj.eta,k1,k4];revert hc';cases eH l[i]!.aU<;>cases eH l[i]!.aV<;>grind
def ED:∀(n:Nat) (l:aa ax),zl l<n->gi l<=1000->LW n l=Q (eH l)
 |0,_,h,_=>by omega
 |n+1,l,h,h2=>afe (LW n) l (λs hs=>⟨ED n _ (by have:=bg hs;omega) (by have:=fq hs;omega),ED n _ (by have:=bg hs;omega) (by have:=fq hs;omega)⟩) h2
def ZG(l:aa ax)(h:gi l<=1000):ZK l=Q (eH l):=dg (zl l+1) λn hn=>ED n l (by omega) h
def eT(b:aP):Bool:=b.eS||Z (1024<b.az)
def AY(b:aP):rL b=(eT b,b):=by
 rfl
def cO(d:Int)(b:aP):aP:=⟨b.az+1,b.eS||Z (12<d)⟩
def rM(t:aj)(d:Int)(b:aP):aP:=if eT (cO d b)=O then cO d b else t.ay.attach.foldl (λb k=>rM k.1 (d+1) b) (cO d b)
termination_by zl t
decreasing_by exact aj.eU k.2
def CE(l:aa aj)(d:Int)(b:aP):aP:=l.foldl (λb k=>rM k d b) b
def X9(t:aj)(d:Int)(b:aP):rM t d b=if eT (cO d b)=O then cO d b else CE t.ay (d+1) (cO d b):=by
 rw[rM,CE];simp
def Dg(l:aa aj)(k:aj)(d:Int)(b:aP):CE (l++[k]) d b=rM k d (CE l d b):=by simp[CE]
def MsP(d0:Int)(n:Int)(b r:aP):Prop:=r.eS=(b.eS||Z (12<d0))/\b.az<=r.az/\r.az<=b.az+n
def FK(t:aj)(d:Int)(b:aP)(h0:0<=d)(h1:0<=b.az)(h2:b.az+nT t<=1000):MsP (d-1+dT t) (nT t) b (rM t d b):=by
 have key:∀(n:Nat) (t:aj) (d:Int) (b:aP),zl t<n->0<=d->0<=b.az->b.az+nT t<=1000->MsP (d-1+dT t) (nT t) b (rM t d b):=by
  intro n;induction n with
  |zero=>intro t d b h;omega
  |succ n ih=>
   intro t d b h h0 h1 h2;have hN:=qX t;have hD:=OQ t;have hd0:=Ed t.ay;rw[X9];by_cases ho:eT (cO d b)=O
   ·rw[bS ho];unfold eT cO at ho;unfold MsP cO;grind
   ·rw[bT ho];have hi:∀i,i<=yz t.ay->MsP (d+Ks (t.ay.take i)) (jd (t.ay.take i)) (cO d b) (CE (t.ay.take i) (d+1) (cO d b)):=by
     intro i;induction i with
     |zero=>
      simp only[CE,MsP,Ks,cO];grind
     |succ i ihi=>
      intro hi;have q:=ihi (by omega);have hs:=vX (show i<yz t.ay by omega);have hm:t.ay[i]!∈t.ay:=bD (by omega);have hp:(cO d b).az=b.az+1:=rfl;have q2:=ih t.ay[i]! (d+1) (CE (t.ay.take i) (d+1) (cO d b)) (by have:=aj.eU hm;omega) (by omega) (by have:=q.2.1;omega) (by have:=q.2.2;omega);rw[bQ (by omega),Dg,vB,nv];obtain⟨a1,a2,a3⟩:=q;obtain⟨c1,c2,c3⟩:=q2;refine⟨?_,by omega,by omega⟩;rw[c1,a1];rw[Bool.or_assoc]
      congr 1
      rw[<-Bool.decide_or];apply decide_eq_decide.2;omega
    have q:=hi (yz t.ay) (zA _);unfold MsP at q ⊢;have hp:(cO d b).az=b.az+1:=rfl;have hp2:(cO d b).eS=(b.eS||Z (12<d)):=rfl;grind
 exact key _ t d b (z7 _) h0 h1 h2
def amf(M:aj->Int->aP->af JD)(t:aj)(hM:∀k∈t.ay,∀(d:Int) (b:aP),0<=d->d<=13->0<=b.az->b.az+nT k<=1000->M k d b=Q (rM k d b))(d:Int)(b:aP)(h0:0<=d)(hd:d<=13)(h1:0<=b.az)(h2:b.az+nT t<=1000):s97 M t d b=Q (rM t d b):=by
 have hN:=qX t;have hL:=ER t.ay;have hw0:i64.wrap (b.az+1)=b.az+1:=aJ (by omega) (by omega);have hw1:i64.wrap (d+1)=d+1:=aJ (by omega) (by omega);have hinc:∀x,(⟨b.az+1,x⟩:aP)=cO d b↔x=(b.eS||Z (12<d)):=λx=>by unfold cO;simp
 have key:eT (cO d b)=V->d<=12/\Jp M ⟨d,t.ay,(yz t.ay:Int),0,cO d b⟩=Q ⟨d,t.ay,(yz t.ay:Int),(yz t.ay:Int),CE t.ay (d+1) (cO d b)⟩:=λho=>by
  have hd2:d<=12:=by unfold eT cO at ho;grind
  refine⟨hd2,?_⟩;obtain⟨v,e1,hv,_⟩:=dL (rnd:=JL M) (yz t.ay) (λi (x:aP)=>⟨d,t.ay,(yz t.ay:Int),(i:Int),x⟩) (λi x=>x=CE (t.ay.take i) (d+1) (cO d b)/\b.az+1<=x.az/\x.az<=b.az+1+jd (t.ay.take i)) (λi x hi hx=>by
    have hs:=vX hi;have hk:=hM _ (bD hi) (d+1) x (by omega) (by omega) (by omega) (by omega);have hp:=FK t.ay[i]! (d+1) x (by omega) (by omega) (by omega);have hw:=iF hi (by omega);refine⟨rM t.ay[i]! (d+1) x,?_,?_⟩
    ·unfold JL;simp only[aj.eta];grind
    ·unfold MsP at hp;rw[bQ hi,Dg,<-hx.1,nv];exact⟨rfl,by omega,by omega⟩) (λx _=>by unfold JL;simp) (b:=cO d b) ⟨rfl,zL _,by show b.az+1<=_;simp[jd]⟩
  rw[yp]at hv;rw[<-hv];exact e1
 rw[X9];unfold s97;rw[hw0];have hm:∀x,x=(b.eS||Z (12<d))->rL ⟨b.az+1,x⟩=(eT (cO d b),cO d b):=λx hx=>by rw[AY,(hinc x).2 hx]
 cases hb:b.eS with
 |true=>
  rw[hm O (by rw[hb];rfl)];have ho:eT (cO d b)=O:=by unfold eT cO;simp[hb]
  simp[ho]
 |false=>
  rw[hm (Z (12<d)) (by rw[hb];rfl)];cases ho:eT (cO d b)with
  |true=>simp
  |false=>
   obtain⟨_,e⟩:=key ho;rw[e];simp
def Ux:∀(n:Nat) (t:aj) (d:Int) (b:aP),zl t<n->0<=d->d<=13->0<=b.az->b.az+nT t<=1000->m97 n t d b=Q (rM t d b)
 |0,_,_,_,h,_,_,_,_=>by omega
 |n+1,t,d,b,h,h0,hd,h1,h2=>amf (m97 n) t (λk hk d b a1 a2 a3 a4=>Ux n k d b (by have:=aj.eU hk;omega) a1 a2 a3 a4) d b h0 hd h1 h2
def Vh(t:aj)(d:Int)(b:aP)(h0:0<=d)(hd:d<=13)(h1:0<=b.az)(h2:b.az+nT t<=1000):YF t d b=Q (rM t d b):=dg (zl t+1) λn hn=>Ux n t d b (by omega) h0 hd h1 h2
def kN(d:Int):aa ax->aP->aP
 |[],b=>b
 |s::l,b=>if eT (cO d b)=O then cO d b else kN d l (kN (d+1) s.aV (kN (d+1) s.aU (rM s.aB 1 (cO d b))))
termination_by l=>zl l
decreasing_by
 ·exact(bg (zq ..)).1
 ·exact(bg (zq ..)).2
 ·exact eG _ _
def Mn(d:Int)(l:aa ax)(b:aP)(h0:0<=d)(hd:d<=13)(h1:0<=b.az)(h2:b.az+gi l<=1000):(kN d l b).eS=(b.eS||(Z (12<d-1+gZ l)||eH l))/\b.az<=(kN d l b).az/\(kN d l b).az<=b.az+gi l:=by
 have key:∀(n:Nat) (d:Int) (l:aa ax) (b:aP),zl l<n->0<=d->d<=13->0<=b.az->b.az+gi l<=1000->(kN d l b).eS=(b.eS||(Z (12<d-1+gZ l)||eH l))/\b.az<=(kN d l b).az/\(kN d l b).az<=b.az+gi l:=by
  intro n;induction n with
  |zero=>intro d l b h;omega
  |succ n ih=>
   intro d l b h h0 hd h1 h2;cases l with
   |nil=>
    rw[kN,gZ,eH];refine⟨?_,by omega,by simp[gi]⟩;rw[dw (by omega)];simp
   |cons s l=>
    have hz:=bg (l:=s::l) (zq ..);have hz2:=eG s l;have hN:=mh s;have hC:=ki s l;have p1:=qH s.aU;have p2:=qH s.aV;have p3:=qH l;have p4:=am4 s.aB;have hp:(cO d b).az=b.az+1:=rfl;have hp2:(cO d b).eS=(b.eS||Z (12<d)):=rfl;rw[kN,gZ,eH];by_cases ho:eT (cO d b)=O
    ·rw[bS ho];unfold eT cO at ho;unfold cO;dsimp only at ho ⊢;refine⟨?_,by omega,by omega⟩;grind
    ·rw[bT ho];unfold eT at ho;rw[hp,hp2]at ho;have hb:b.eS=V:=by grind
     have hd2:d<=12:=by grind
     obtain⟨a1,a2,a3⟩:=FK s.aB 1 (cO d b) (by omega) (by omega) (by omega);obtain⟨c1,c2,c3⟩:=ih (d+1) s.aU (rM s.aB 1 (cO d b)) (by omega) (by omega) (by omega) (by omega) (by omega);obtain⟨g1,g2,g3⟩:=ih (d+1) s.aV _ (by omega) (by omega) (by omega) (Int.le_trans (by omega) c2) (by omega);obtain⟨k1,k2,k3⟩:=ih d l _ (by omega) h0 hd (Int.le_trans (by omega) g2) (by omega);refine⟨?_,by omega,by omega⟩;rw[k1,g1,c1,a1,hp2,hb];rw[dw (show ¬12<d by omega)];have e1:Z (12<1-1+dT s.aB)=Z (12<dT s.aB):=by congr 1;rw[show (1:Int)-1+dT s.aB=dT s.aB by omega]
     rw[e1];have e2:Z (12<d-1+max (max (gZ s.aU+1) (gZ s.aV+1)) (gZ l))=(Z (12<d+1-1+gZ s.aU)||(Z (12<d+1-1+gZ s.aV)||Z (12<d-1+gZ l))):=by
      rw[<-Bool.decide_or,<-Bool.decide_or];apply decide_eq_decide.2;omega
     rw[e2];generalize Z (12<dT s.aB)=x1;generalize Z (12<d+1-1+gZ s.aU)=x2;generalize Z (12<d+1-1+gZ s.aV)=x3;generalize Z (12<d-1+gZ l)=x4;generalize eH s.aU=x5;generalize eH s.aV=x6;generalize eH l=x7;revert x1 x2 x3 x4 x5 x6 x7;decide
 exact key _ d l b (z7 _) h0 hd h1 h2
def tT{α:Type}[Inhabited α]{c:Nat->α->Int}:∀(l:aa α) (i:Nat),eE c l i=0->∀j,j<yz l->c (i+j) l[j]! =0
 |[],i,_,j,hj=>by simp at hj
 |x::xs,i,h,j,hj=>by
  unfold eE at h;split at h
  ·rename_i hx;cases j with
   |zero=>exact hx
   |succ j=>
    have:=tT xs (i+1) h j (by simpa using hj);rw[show i+1+j=i+(j+1)by omega]at this
    assumption
  ·omega
def de(vars:aa aT):Prop:=∀v∈vars,-1048576<=v.aG/\v.aG<=v.au/\v.au<=1048576
def Qv{vars:aa aT}{i:Nat}{v:aT}(h:od vars i v=0): -1048576<=v.aG/\v.aG<=v.au/\v.au<=1048576:=by
 unfold od iC at h;grind
def kJ{vars:aa aT}(h:eE (od vars) vars 0=0):de vars:=λv hv=>by
 obtain⟨i,hi,e⟩:=wh hv;have:=tT _ _ h i hi;rw[getElem!_pos vars i hi,e]at this;exact Qv this
def oN(kind:Int):∀(l:aa aT) (i:Nat) (n:Int),Kc (λ_ (n:Int) (v:aT)=>if 4096<n*(v.au-v.aG+1)then(.inr ():Int ⊕ Unit)else .inl (n*(v.au-v.aG+1))) (λ_=>(J:af Int)) Q (l.filter λv=>Z (v.bU=kind)) i n=tV kind l n
 |[],i,n=>rfl
 |v::vs,i,n=>by
  unfold tV;by_cases hv:v.bU=kind
  ·rw[List.filter_cons_of_pos (by simpa using hv),bS hv];by_cases h:4096<n*(v.au-v.aG+1)
   ·rw[bS h,lJ (r:=()) (by rw[bS h])]
   ·rw[bT h,nG (by rw[bT h])];exact oN kind vs (i+1) _
  ·rw[List.filter_cons_of_neg (by simpa using hv),bT hv];exact oN kind vs i n
def wY(kind:Int):∀(l:aa aT) (i:Nat) (n:Int),Kc (λ_ (n:Int) (v:aT)=>if v.bU=kind then(if 4096<n*(v.au-v.aG+1)then(.inr ():Int ⊕ Unit)else .inl (n*(v.au-v.aG+1)))else .inl n) (λ_=>(J:af Int)) Q l i n=tV kind l n
 |[],i,n=>rfl
 |v::vs,i,n=>by
  unfold tV;by_cases hv:v.bU=kind
  ·rw[bS hv];by_cases h:4096<n*(v.au-v.aG+1)
   ·rw[bS h,lJ (r:=()) (by rw[bS hv,bS h])]
   ·rw[bT h,nG (b':=n*(v.au-v.aG+1)) (by rw[bS hv,bT h])];exact wY kind vs (i+1) _
  ·rw[bT hv,nG (b':=n) (by rw[bT hv])];exact wY kind vs (i+1) n
def uO{v:aT}(h: -1048576<=v.aG/\v.aG<=v.au/\v.au<=1048576){n:Int}(h1:1<=n)(h2:n<=4096):
  1<=n*(v.au-v.aG+1)/\i64.wrap (v.au-v.aG)=v.au-v.aG/\i64.wrap (v.au-v.aG+1)=v.au-v.aG+1/\i64.wrap (n*(v.au-v.aG+1))=n*(v.au-v.aG+1):=by
 have e1:0<=(n-1)*(v.au-v.aG+1):=yQ (by omega) (by omega);have e2:n*(v.au-v.aG+1)<=4096*(v.au-v.aG+1):=xD h2 (by omega);have e3:(n-1)*(v.au-v.aG+1)=n*(v.au-v.aG+1)-(v.au-v.aG+1):=by rw[Int.sub_mul,Int.one_mul]
 exact⟨by omega,aJ (by omega) (by omega),aJ (by omega) (by omega),aJ (by omega) (by omega)⟩
def Qa(vars:aa aT)(hv:de vars)(hl:yz vars<=1000000)(kind:Int):oD ⟨kind,[],vars,(yz vars:Int),0⟩=Q ⟨kind,vars.filter (λv=>Z (v.bU=kind)),vars,(yz vars:Int),(yz vars:Int)⟩:=by
 obtain⟨v,e1,hV⟩:=dL (rnd:=sS) (yz vars) (λi (b:aa aT)=>⟨kind,b,vars,(yz vars:Int),(i:Int)⟩) (λi b=>b=(vars.take i).filter λv=>Z (v.bU=kind)) (λi b hi hb=>by
  have hw:=iF hi hl;have hv:=hv _ (bD hi);have hb2:yz b<=i:=by rw[hb];exact zY (List.length_filter_le _ _) (by rw[zM];omega)
  rw[bQ hi,yj,<-hb];by_cases hk:vars[i]!.bU=kind
  ·refine⟨b++[vars[i]!],?_,?_⟩
   ·have hl2:yz (b++[vars[i]!])<=1073741824:=by simp;omega
    unfold sS;grind
   ·revert hk;generalize vars[i]! =x;intro hk;simp[hk]
  ·refine⟨b,?_,?_⟩
   ·unfold sS;grind
   ·revert hk;generalize vars[i]! =x;intro hk;simp[hk]) (λb _=>by unfold sS;simp) (b:=[]) rfl
 rw[yp]at hV;rw[<-hV];exact e1
def Qd(F:aa aT)(hv:de F)(hl:yz F<=1000000):
  ∃(i:Nat) (n:Int),o4 ⟨F,1,F,(yz F:Int),0⟩=Q ⟨F,n,F,(yz F:Int),(i:Int)⟩/\((i=yz F/\Kc (λ_ (n:Int) (v:aT)=>if 4096<n*(v.au-v.aG+1)then(.inr ():Int ⊕ Unit)else .inl (n*(v.au-v.aG+1))) (λ_=>(J:af Int)) Q F 0 1=Q n)\/
   (i<yz F/\4096<i64.wrap (n*AW F[i]!)/\Kc (λ_ (n:Int) (v:aT)=>if 4096<n*(v.au-v.aG+1)then(.inr ():Int ⊕ Unit)else .inl (n*(v.au-v.aG+1))) (λ_=>(J:af Int)) Q F 0 1=J)):=by
 have hm:∀(i:Nat) (n:Int),i<yz F->1<=n->n<=4096->i64.wrap (n*AW F[i]!)=n*(F[i]!.au-F[i]!.aG+1):=λi n hi h1 h2=>by
  obtain⟨a,b,c,d⟩:=uO (hv _ (bD hi)) h1 h2;unfold AW;rw[b,c,d]
 obtain⟨i,n,e1,hI,hc⟩:=M5 (rnd:=BA) F (λi (n:Int)=>⟨F,n,F,(yz F:Int),(i:Int)⟩) (λ_ (n:Int) (v:aT)=>if 4096<n*(v.au-v.aG+1)then(.inr ():Int ⊕ Unit)else .inl (n*(v.au-v.aG+1))) (λ_=>(J:af Int)) Q (λi n=>1<=n/\n<=4096) (λi n hi hI=>by
  have hw:=iF hi hl;have h1:=hm i n hi hI.1 hI.2;have h2:=(uO (hv _ (bD hi)) hI.1 hI.2).1;unfold BA;simp only[zi];grind) (λb _=>by unfold BA;simp) (b:=1) ⟨by omega,by omega⟩
 refine⟨i,n,e1,?_⟩;rcases hc with ⟨h1,h2⟩|⟨h1,r,h2,h3⟩
 ·exact .inl ⟨h1,h2⟩
 ·refine .inr ⟨h1,?_,h3⟩;rw[hm i n h1 hI.1 hI.2];by_cases h:4096<n*(F[i]!.au-F[i]!.aG+1)
  ·exact h
  ·rw[bT h]at h2;cases h2
def FE(vars:aa aT)(hv:de vars)(hl:yz vars<=1000000)(kind:Int)(hk:kind=1\/kind=2\/kind=3):P7 vars kind=Q (match tV kind vars 1 with|Q n=>(n,0)|J=>(0,4)):=by
 have e0:=Qa vars hv hl kind;obtain⟨i,n,e1,hc⟩:=Qd (vars.filter λv=>Z (v.bU=kind)) (λv h=>hv v (zS.1 h).1) (zY (List.length_filter_le _ _) hl);rw[oN]at hc;unfold P7 abo;rcases hk with rfl|rfl|rfl
 all_goals
  simp only[e0,e1];rcases hc with ⟨rfl,hc⟩|⟨hi,h2,hc⟩
  ·simp[hc]
  ·simp only[zi,h2,hc];simp[hi]
def Ec(vars:aa aT)(hv:de vars)(hl:yz vars<=1000000)(kind:Int):KG vars kind=Q (match tV kind vars 1 with|Q n=>n|J=>4097):=by
 have hm:∀(i:Nat) (n:Int),i<yz vars->1<=n->n<=4096->i64.wrap (n*i64.wrap (i64.wrap (vars[i]!.au-vars[i]!.aG)+1))=n*(vars[i]!.au-vars[i]!.aG+1):=λi n hi h1 h2=>by
  obtain⟨a,b,c,d⟩:=uO (hv _ (bD hi)) h1 h2;rw[b,c,d]
 obtain⟨i,n,e1,hI,hc⟩:=M5 (rnd:=AO) vars (λi (n:Int)=>⟨vars,kind,n,(i:Int)⟩) (λ_ (n:Int) (v:aT)=>if v.bU=kind then(if 4096<n*(v.au-v.aG+1)then(.inr ():Int ⊕ Unit)else .inl (n*(v.au-v.aG+1)))else .inl n) (λ_=>(J:af Int)) Q (λi n=>1<=n/\n<=4096) (λi n hi hI=>by
  have hw:=iF hi hl;have h1:=hm i n hi hI.1 hI.2;have h2:=(uO (hv _ (bD hi)) hI.1 hI.2).1;unfold AO;simp only[zi];grind) (λb _=>by unfold AO;simp) (b:=1) ⟨by omega,by omega⟩
 rw[wY]at hc;have e1':DX ⟨vars,kind,1,0⟩=Q ⟨vars,kind,n,(i:Int)⟩:=e1;unfold KG;rw[e1'];rcases hc with ⟨rfl,hc⟩|⟨hi,r,h2,hc⟩
 ·simp[hc]
 ·have h1:=hm i n hi hI.1 hI.2;grind
def Et(kind:Int):∀(l:aa aT) (n m:Int),n<=4096->tV kind l n=Q m->m<=4096
 |[],n,m,h,e=>by unfold tV at e;cases e;exact h
 |v::vs,n,m,h,e=>by
  unfold tV at e;split at e
  ·split at e
   ·cases e
   ·exact Et kind vs _ m (by omega) e
  ·exact Et kind vs n m h e
def Yn(vars:aa aT)(hl:yz vars<=1000000)(i:Nat)(hi:i<yz vars):(od vars i vars[i]! =0->Bt ⟨vars,vars,(yz vars:Int),(i:Int)⟩=Q (Q ⟨vars,vars,(yz vars:Int),((i+1:Nat):Int)⟩))/\(od vars i vars[i]!≠0->Bt ⟨vars,vars,(yz vars:Int),(i:Int)⟩=Q J):=by
 have hw:=iF hi hl;have h1:=uH vars[i]!.fName;have h2:=Pd (vars.take i) (by rw[zM];omega) vars[i]!;unfold Bt od;simp only[zi,uP,h1,h2];generalize iy vars[i]!.fName=B;generalize ((vars.take i).any λw=>w.fName.toList==vars[i]!.fName.toList)=A;generalize iC vars[i]!.aG vars[i]!.au=C;cases A<;>cases B<;>cases C<;>simp only[dh]<;>grind
def aki(vars:aa aT)(hl:yz vars<=1000000):m98 vars=Q (lQ vars):=by
 obtain⟨i,e1,hc⟩:=C3 (rnd:=Bt) vars (λi=>⟨vars,vars,(yz vars:Int),(i:Int)⟩) (od vars) (λi hi=>Yn vars hl i hi) (by unfold Bt;simp);have e1':Pe ⟨vars,vars,(yz vars:Int),0⟩=Q ⟨vars,vars,(yz vars:Int),(i:Int)⟩:=e1;unfold m98 lQ;rw[e1'];dsimp only;rcases hc with ⟨rfl,hc⟩|⟨hi,h0,hc⟩
 ·have hv:=kJ hc;rw[dw (by omega),cL,bT (by rw[hc];simp)];have hr:∀k:Nat,k<3->i64.wrap ((k:Int)+1)=((k+1:Nat):Int):=λk hk=>iF hk (by decide);have k1:=FE vars hv hl 1 (.inl rfl);have k2:=FE vars hv hl 2 (.inr (.inl rfl));have k3:=FE vars hv hl 3 (.inr (.inr rfl));have r1:q9 ⟨vars,[1,2,3],3,0⟩=match tV 1 vars 1 with|Q _=>Q (Q ⟨vars,[1,2,3],3,1⟩)|J=>Q J:=by
   unfold q9;simp[k1];cases tV 1 vars 1 with
   |none=>simp
   |some n=>simp;exact hr 0 (by decide)
  have r2:q9 ⟨vars,[1,2,3],3,1⟩=match tV 2 vars 1 with|Q _=>Q (Q ⟨vars,[1,2,3],3,2⟩)|J=>Q J:=by
   unfold q9;simp[k2];cases tV 2 vars 1 with
   |none=>simp
   |some n=>simp;exact hr 1 (by decide)
  have r3:q9 ⟨vars,[1,2,3],3,2⟩=match tV 3 vars 1 with|Q n=>if 256<n then Q J else Q (Q ⟨vars,[1,2,3],3,3⟩)|J=>Q J:=by
   unfold q9;simp[k3];cases tV 3 vars 1 with
   |none=>simp
   |some n=>
    by_cases h:256<n
    ·simp[h]
    ·simp[h];exact hr 2 (by decide)
  unfold Lk;cases s1:tV 1 vars 1 with
  |none=>
   rw[s1]at r1 k1;have e:tO ⟨vars,[1,2,3],3,0⟩=Q ⟨vars,[1,2,3],3,0⟩:=cE λr=>by rw[r1];simp
   rw[show ((↑(3:Int):Int))=3 from rfl,e];simp[k1]
  |some n1=>
   rw[s1]at r1 k1;cases s2:tV 2 vars 1 with
   |none=>
    rw[s2]at r2 k2;have e:tO ⟨vars,[1,2,3],3,0⟩=Q ⟨vars,[1,2,3],3,1⟩:=(cB r1).trans (cE λr=>by rw[r2];simp);rw[show ((↑(3:Int):Int))=3 from rfl,e];simp[k2]
   |some n2=>
    rw[s2]at r2 k2;cases s3:tV 3 vars 1 with
    |none=>
     rw[s3]at r3 k3;have e:tO ⟨vars,[1,2,3],3,0⟩=Q ⟨vars,[1,2,3],3,2⟩:=(cB r1).trans ((cB r2).trans (cE λr=>by rw[r3];simp));rw[show ((↑(3:Int):Int))=3 from rfl,e];simp[k3]
    |some n3=>
     rw[s3]at r3 k3;dsimp only at r3;by_cases h:256<n3
     ·rw[bS h]at r3;have e:tO ⟨vars,[1,2,3],3,0⟩=Q ⟨vars,[1,2,3],3,2⟩:=(cB r1).trans ((cB r2).trans (cE λr=>by rw[r3];simp));rw[show ((↑(3:Int):Int))=3 from rfl,e];simp[k3,h]
     ·rw[bT h]at r3;have e:tO ⟨vars,[1,2,3],3,0⟩=Q ⟨vars,[1,2,3],3,3⟩:=(cB r1).trans ((cB r2).trans ((cB r3).trans (cE λr=>by unfold q9;simp)));rw[show ((↑(3:Int):Int))=3 from rfl,e];simp[h]
 ·have h1:=uH vars[i]!.fName;have h2:=Pd (vars.take i) (by rw[zM];omega) vars[i]!;rw[hc,bS h0];revert h0;unfold od;simp only[zP,zi,uP,h1,h2];generalize iy vars[i]!.fName=B;generalize ((vars.take i).any λw=>w.fName.toList==vars[i]!.fName.toList)=A;generalize iC vars[i]!.aG vars[i]!.au=C;intro h0;cases A<;>cases B<;>cases C<;>simp only[dh,cL]at h0 ⊢ <;>grind
def aa4(vars:aa aT)(hl:yz vars<=1000000)(i:Nat)(hi:i<yz vars):(od vars i vars[i]! =0->Cw ⟨vars,(i:Int)⟩=Q (Q ⟨vars,((i+1:Nat):Int)⟩))/\(od vars i vars[i]!≠0->Cw ⟨vars,(i:Int)⟩=Q J):=by
 have hw:=iF hi hl;have h1:=Ep vars[i]!.fName;obtain⟨j,h2,h3⟩:=G9 vars hl i (by omega) vars[i]!;unfold Cw od;simp only[zi,Fh,h1,h2];generalize iy vars[i]!.fName=B;generalize ((vars.take i).any λw=>w.fName.toList==vars[i]!.fName.toList)=A at h3;generalize iC vars[i]!.aG vars[i]!.au=C;rcases h3 with ⟨rfl,rfl⟩|⟨hj,h4,rfl⟩
 ·cases B<;>cases C<;>simp only[dh]<;>grind
 ·simp only;cases B<;>cases C<;>simp only[dh]<;>grind
def anX(vars:aa aT)(hl:yz vars<=1000000):m51 vars=Q (lQ vars):=by
 obtain⟨i,e1,hc⟩:=C3 (rnd:=Cw) vars (λi=>⟨vars,(i:Int)⟩) (od vars) (λi hi=>aa4 vars hl i hi) (by unfold Cw;simp);have e1':MJ ⟨vars,0⟩=Q ⟨vars,(i:Int)⟩:=e1;unfold m51 lQ;rw[e1'];dsimp only;rcases hc with ⟨rfl,hc⟩|⟨hi,h0,hc⟩
 ·have hv:=kJ hc;rw[Ec vars hv hl 1,Ec vars hv hl 2,Ec vars hv hl 3];have b1:=Et 1 vars 1;have b2:=Et 2 vars 1;unfold Lk;revert b1 b2;cases tV 1 vars 1<;>cases tV 2 vars 1<;>cases tV 3 vars 1<;>intro b1 b2<;>simp only[ye,yA]<;>(try have c1:=b1 _ (by omega) rfl)<;>(try have c2:=b2 _ (by omega) rfl)<;>grind
 ·have h1:=Ep vars[i]!.fName;obtain⟨j,h2,h3⟩:=G9 vars hl i (by omega) vars[i]!;rw[hc,bS h0];revert h0;unfold od;simp only[zi,Fh,h1,h2];generalize iy vars[i]!.fName=B;generalize ((vars.take i).any λw=>w.fName.toList==vars[i]!.fName.toList)=A at h3;generalize iC vars[i]!.aG vars[i]!.au=C;intro h0;rcases h3 with ⟨rfl,rfl⟩|⟨hj,h4,rfl⟩
  ·cases B<;>cases C<;>simp only[dh]at h0 ⊢ <;>grind
  ·simp only[h4];cases B<;>cases C<;>simp only[dh,cL]at h0 ⊢ <;>grind
def ac1(o:Int):I9 o=bW o:=by
 unfold I9 bW;grind
def Z4(o:Int):CD o=if o=25 then-2 else(bW o).1:=by
 unfold CD bW;grind (splits:=40)
def Y6(M:aa aT->aj->Bool->af mX)(vars:aa aT)(inp:Bool)(t:aj)(hM:∀k∈t.ay,M vars k inp=Q (dy vars inp k)):YM M vars t inp=Q (dy vars inp t):=by
 have key:yz t.ay<=1000000->∃i:Nat,sj M ⟨vars,inp,t.ay,(yz t.ay:Int),0⟩=Q ⟨vars,inp,t.ay,(yz t.ay:Int),(i:Int)⟩/\((i=yz t.ay/\t.ay.all (dy vars inp)=O)\/(i<yz t.ay/\dy vars inp t.ay[i]! =V/\t.ay.all (dy vars inp)=V)):=λhl=>by
  obtain⟨i,e1,hc⟩:=mP (rnd:=Ac M) t.ay (λi=>⟨vars,inp,t.ay,(yz t.ay:Int),(i:Int)⟩) (λ_ k=>dy vars inp k) (λi hi=>by
   have hw:=iF hi hl;have hk:=hM _ (bD hi);unfold Ac;simp only[zi,aj.eta,hk,hw];cases dy vars inp t.ay[i]! <;>simp[hi]) (by unfold Ac;simp)
  refine⟨i,e1,?_⟩;rcases hc with ⟨rfl,hc⟩|⟨hi,hc⟩
  ·exact .inl ⟨rfl,wZ hc⟩
  ·exact .inr ⟨hi,hc,qh hi hc⟩
 unfold YM;rw[ac1,jZ];unfold Ba;by_cases hn:0<=(bW t.bG).1/\(bW t.bG).1<=yz t.ay/\(yz t.ay:Int)<=(bW t.bG).2
 ·have h33:(bW t.bG).2<=33:=by unfold bW;grind
  obtain⟨i,e,hc⟩:=key (by omega);rw[iN hn,dw (show ¬(bW t.bG).1<0 by omega),dw (show ¬(yz t.ay:Int)<(bW t.bG).1 by omega),dw (show ¬(bW t.bG).2<(yz t.ay:Int)by omega),e];generalize t.ay.all (dy vars inp)=A at hc;simp only[zi];rcases hc with ⟨rfl,rfl⟩|⟨hi,h2,rfl⟩
  ·cases inp<;>grind
  ·have hk:=hM _ (bD hi);simp only[aj.eta];cases inp<;>grind
 ·rw[dw hn];grind
def MO(vars:aa aT)(inp:Bool):∀(n:Nat) (t:aj),zl t<n->LV n vars t inp=Q (dy vars inp t)
 |0,_,h=>by omega
 |n+1,t,h=>Y6 (LV n) vars inp t (λk hk=>MO vars inp n k (by have:=aj.eU hk;omega))
def acU(vars:aa aT)(inp:Bool)(t:aj):ade vars t inp=Q (dy vars inp t):=dg (zl t+1) λn hn=>MO vars inp n t (by omega)
def acA(M:aa aT->aj->Bool->af mB)(vars:aa aT)(inp:Bool)(t:aj)(hM:∀k∈t.ay,M vars k inp=Q (dy vars inp k)):ab5 M vars t inp=Q (dy vars inp t):=by
 have key:yz t.ay<=1000000->∃i:Nat,Cu M ⟨vars,inp,0,t⟩=Q ⟨vars,inp,(i:Int),t⟩/\((i=yz t.ay/\t.ay.all (dy vars inp)=O)\/(i<yz t.ay/\dy vars inp t.ay[i]! =V/\t.ay.all (dy vars inp)=V)):=λhl=>by
  obtain⟨i,e1,hc⟩:=mP (rnd:=Bg M) t.ay (λi=>⟨vars,inp,(i:Int),t⟩) (λ_ k=>dy vars inp k) (λi hi=>by
   have hw:=iF hi hl;have hk:=hM _ (bD hi);unfold Bg;dsimp only;simp only[zi,aj.eta,hk,hw];cases dy vars inp t.ay[i]! <;>simp[hi]) (by unfold Bg;simp)
  refine⟨i,e1,?_⟩;rcases hc with ⟨rfl,hc⟩|⟨hi,hc⟩
  ·exact .inl ⟨rfl,wZ hc⟩
  ·exact .inr ⟨hi,hc,qh hi hc⟩
 unfold ab5;rw[Z4,jZ];unfold Ba;have hk0:(bW t.bG).1= -1\/0<=(bW t.bG).1:=by unfold bW;grind
 have hk1:t.bG≠25->(bW t.bG).1=(bW t.bG).2:=by unfold bW;grind
 have hk2:t.bG=25->bW t.bG=(2,33):=by unfold bW;grind
 have h33:(bW t.bG).2<=33:=by unfold bW;grind
 have hk3:t.bG=25->(bW t.bG).1=2/\(bW t.bG).2=33:=λh=>by rw[hk2 h];exact⟨rfl,rfl⟩
 generalize (bW t.bG).1=a at*;generalize (bW t.bG).2=b at*;by_cases hn:0<=a/\a<=yz t.ay/\(yz t.ay:Int)<=b
 ·obtain⟨i,e,hc⟩:=key (by omega);rw[iN hn,aj.eta,e];generalize t.ay.all (dy vars inp)=A at hc;simp only[zP,zi];rcases hc with ⟨rfl,rfl⟩|⟨hi,h2,rfl⟩
  ·cases inp<;>grind
  ·have hk:=hM _ (bD hi);simp only[aj.eta,hk,h2];by_cases h25:t.bG=25
   ·rw[bS h25,h25];cases inp<;>grind (splits:=30)
   ·rw[bT h25];cases inp<;>grind (splits:=30)
 ·rw[dw hn];grind
def OT(vars:aa aT)(inp:Bool):∀(n:Nat) (t:aj),zl t<n->Ls n vars t inp=Q (dy vars inp t)
 |0,_,h=>by omega
 |n+1,t,h=>acA (Ls n) vars inp t (λk hk=>OT vars inp n k (by have:=aj.eU hk;omega))
def afG(vars:aa aT)(inp:Bool)(t:aj):aci vars t inp=Q (dy vars inp t):=dg (zl t+1) λn hn=>OT vars inp n t (by omega)
def CA(s:Span):Prop:= -1048576<=s.aG/\s.aG<=s.au/\s.au<=1048576
def uZ(a b:Span):RD a b=fW a b:=rfl
def ny{a b:Int}(h1: -1048576<=a)(h2:a<=1048576)(h3: -1048576<=b)(h4:b<=1048576): -1099511627776<=a*b/\a*b<=1099511627776:=by
 have e1:(1048576-a)*(1048576-b)≥0:=yQ (by omega) (by omega);have e2:(1048576+a)*(1048576+b)≥0:=yQ (by omega) (by omega);have e3:(1048576-a)*(1048576+b)≥0:=yQ (by omega) (by omega);have e4:(1048576+a)*(1048576-b)≥0:=yQ (by omega) (by omega);grind
def YT(a b:Span)(ha:CA a)(hb:CA b):XU a b=Q (fW (fW (fW ⟨a.aG*b.aG,a.aG*b.aG⟩ ⟨a.aG*b.au,a.aG*b.au⟩) ⟨a.au*b.aG,a.au*b.aG⟩) ⟨a.au*b.au,a.au*b.au⟩):=by
 unfold CA at ha hb;have w1:qc a.aG b.aG=a.aG*b.aG:=by have:=ny (a:=a.aG) (b:=b.aG) (by omega) (by omega) (by omega) (by omega);exact aJ (by omega) (by omega)
 have w2:qc a.aG b.au=a.aG*b.au:=by have:=ny (a:=a.aG) (b:=b.au) (by omega) (by omega) (by omega) (by omega);exact aJ (by omega) (by omega)
 have w3:qc a.au b.aG=a.au*b.aG:=by have:=ny (a:=a.au) (b:=b.aG) (by omega) (by omega) (by omega) (by omega);exact aJ (by omega) (by omega)
 have w4:qc a.au b.au=a.au*b.au:=by have:=ny (a:=a.au) (b:=b.au) (by omega) (by omega) (by omega) (by omega);exact aJ (by omega) (by omega)
 unfold XU;rw[w1,w2,w3,w4];generalize a.aG*b.aG=p;generalize a.aG*b.au=q;generalize a.au*b.aG=r;generalize a.au*b.au=s;have e:vG ⟨[q,r,s],(3:Int),0,⟨0,0⟩,⟨p,p⟩⟩=Q ⟨[q,r,s],3,3,⟨0,0⟩,fW (fW (fW ⟨p,p⟩ ⟨q,q⟩) ⟨r,r⟩) ⟨s,s⟩⟩:=by
  have k1:kW ⟨[q,r,s],(3:Int),0,⟨0,0⟩,⟨p,p⟩⟩=Q (Q ⟨[q,r,s],(3:Int),1,⟨0,0⟩,fW ⟨p,p⟩ ⟨q,q⟩⟩):=by unfold kW;simp[uZ,aJ]
  have k2:kW ⟨[q,r,s],(3:Int),1,⟨0,0⟩,fW ⟨p,p⟩ ⟨q,q⟩⟩=Q (Q ⟨[q,r,s],(3:Int),2,⟨0,0⟩,fW (fW ⟨p,p⟩ ⟨q,q⟩) ⟨r,r⟩⟩):=by unfold kW;simp[uZ,aJ]
  have k3:kW ⟨[q,r,s],(3:Int),2,⟨0,0⟩,fW (fW ⟨p,p⟩ ⟨q,q⟩) ⟨r,r⟩⟩=Q (Q ⟨[q,r,s],(3:Int),3,⟨0,0⟩,fW (fW (fW ⟨p,p⟩ ⟨q,q⟩) ⟨r,r⟩) ⟨s,s⟩⟩):=by unfold kW;simp[uZ,aJ]
  unfold vG;rw[cB k1,cB k2,cB k3];exact cE λr=>by unfold kW;simp
 rw[show (yz ([q,r,s]:aa Int):Int)=3 from rfl,e];simp
def abQ{a b:Span}(ha:CA a)(hb:CA b):CA (fW a b):=by
 unfold CA fW at*;grind
def jM:∀(l:aa Span) (a:Span),CA a->(∀x∈l,CA x)->CA (l.foldl fW a)
 |[],a,ha,_=>ha
 |x::l,a,ha,h=>jM l (fW a x) (abQ ha (h x (zq ..))) λy hy=>h y (zH _ hy)
def RB(l:aa Span)(hl:yz l<=1000000)(z a:Span):Ad ⟨l,(yz l:Int),0,z,a⟩=Q ⟨l,(yz l:Int),(yz l:Int),z,l.foldl fW a⟩:=by
 obtain⟨v,e1,hv⟩:=dL (rnd:=BP) (yz l) (λi (b:Span)=>⟨l,(yz l:Int),(i:Int),z,b⟩) (λi b=>b=(l.take i).foldl fW a) (λi b hi hb=>by
  have hw:=iF hi hl;refine⟨fW b l[i]!,?_,?_⟩
  ·unfold BP;simp only[uZ];grind
  ·rw[bQ hi,wD,hb];rfl) (λb _=>by unfold BP;simp) (b:=a) rfl
 rw[yp]at hv;rw[<-hv];exact e1
def Aq(vars:aa aT)(t:aj)(k:aa Span):Prop:=(0<=(bW t.bG).1/\(bW t.bG).1<=yz k/\(yz k:Int)<=(bW t.bG).2)/\(t.bG=24->0<=t.fN/\t.fN<yz vars)/\∀s∈k,CA s
def abP(vars:aa aT)(t:aj)(k:aa Span)(h:Aq vars t k):Ub vars t k=Q (gR vars t k):=by
 obtain⟨hk,h24,hI⟩:=h;have h0:1<=(bW t.bG).1->CA k[0]! :=λh=>hI _ (bD (by omega));have h1:2<=(bW t.bG).1->CA k[1]! :=λh=>hI _ (bD (by omega));have h33:(bW t.bG).2<=33:=by unfold bW;grind
 have hd:yz (k.drop 2)<=1000000:=by rw[yc];omega
 have W:∀n:Int,-8796093022208<=n->n<=8796093022208->i64.wrap n=n:=λn a b=>aJ (by omega) (by omega);unfold Ub gR;rw[RB _ hd];have cs:t.bG=0\/t.bG=24\/t.bG=6\/t.bG=8\/t.bG=9\/t.bG=10\/t.bG=11\/t.bG=12\/t.bG=21\/t.bG=22\/t.bG=23\/t.bG=25\/(t.bG≠0/\t.bG≠24/\t.bG≠6/\t.bG≠8/\t.bG≠9/\t.bG≠10/\t.bG≠11/\t.bG≠12/\t.bG≠21/\t.bG≠22/\t.bG≠23/\t.bG≠25):=by omega
 rcases cs with h|h|h|h|h|h|h|h|h|h|h|h|h
 ·simp[h]
 ·simp[h,h24 h]
 ·have hl:1<=(bW t.bG).1:=by rw[h];decide
  obtain⟨a1,a2,a3⟩:=h0 hl;have w1:i64.wrap ((0:Int)-k[0]!.au)= -k[0]!.au:=by rw[W _ (by omega) (by omega)];omega
  have w2:i64.wrap ((0:Int)-k[0]!.aG)= -k[0]!.aG:=by rw[W _ (by omega) (by omega)];omega
  have i0:(0:Int)<(yz k:Int):=by omega
  simp only[Z0,h,zP,Int.reduceEq,reduceIte,i0,w1,w2,zL,gd]
 ·have hl:2<=(bW t.bG).1:=by rw[h];decide
  obtain⟨a1,a2,a3⟩:=h0 (by omega);obtain⟨b1,b2,b3⟩:=h1 hl;have w1:=W (k[0]!.aG+k[1]!.aG) (by omega) (by omega);have w2:=W (k[0]!.au+k[1]!.au) (by omega) (by omega);have i0:(0:Int)<(yz k:Int):=by omega
  have i1:(1:Int)<(yz k:Int):=by omega
  simp only[Z0,h,zP,Int.reduceEq,Int.reduceLE,reduceIte,i0,i1,w1,w2,zL,gd,dU]
 ·have hl:2<=(bW t.bG).1:=by rw[h];decide
  obtain⟨a1,a2,a3⟩:=h0 (by omega);obtain⟨b1,b2,b3⟩:=h1 hl;have w1:=W (k[0]!.aG-k[1]!.au) (by omega) (by omega);have w2:=W (k[0]!.au-k[1]!.aG) (by omega) (by omega);have i0:(0:Int)<(yz k:Int):=by omega
  have i1:(1:Int)<(yz k:Int):=by omega
  simp only[Z0,h,zP,Int.reduceEq,Int.reduceLE,reduceIte,i0,i1,w1,w2,zL,gd,dU]
 ·have hl:2<=(bW t.bG).1:=by rw[h];decide
  have TP:=YT _ _ (h0 (by omega)) (h1 hl);have i0:(0:Int)<(yz k:Int):=by omega
  have i1:(1:Int)<(yz k:Int):=by omega
  simp only[Z0,h,zP,Int.reduceEq,Int.reduceLE,reduceIte,i0,i1,TP,zL,gd,dU]
 ·have hl:2<=(bW t.bG).1:=by rw[h];decide
  obtain⟨a1,a2,a3⟩:=h0 (by omega);obtain⟨b1,b2,b3⟩:=h1 hl;have w1:i64.wrap ((0:Int)-k[0]!.aG)= -k[0]!.aG:=by rw[W _ (by omega) (by omega)];omega
  have w2:i64.wrap ((0:Int)-if k[0]!.au< -k[0]!.aG then-k[0]!.aG else k[0]!.au)= -(if k[0]!.au< -k[0]!.aG then-k[0]!.aG else k[0]!.au):=by split<;>(rw[W _ (by omega) (by omega)];omega)
  have i0:(0:Int)<(yz k:Int):=by omega
  have i1:(1:Int)<(yz k:Int):=by omega
  simp only[Z0,h,zP,Int.reduceEq,Int.reduceLE,reduceIte,i0,i1,w1,w2,zL,gd,dU];by_cases c1:(0:Int)<=k[0]!.aG<;>by_cases c2:(0:Int)<=k[1]!.aG<;>simp only[c1,c2,dU,jP,fO,jk,dh,cL,gd,and_true,and_false]
 ·have hl:2<=(bW t.bG).1:=by rw[h];decide
  obtain⟨b1,b2,b3⟩:=h1 hl;have w1:=W (k[1]!.aG+1) (by omega) (by omega);have w2:=W (k[1]!.au-1) (by omega) (by omega);have i1:(1:Int)<(yz k:Int):=by omega
  simp only[Z0,h,zP,Int.reduceEq,Int.reduceLE,reduceIte,i1,w1,w2,zL,gd,dU];by_cases c1:k[1]!.aG<0<;>by_cases c2:(0:Int)<k[1]!.au<;>simp only[c1,c2,dU,jP]
  ·rw[bT (by omega),bT (by omega)]
  ·rw[bT (by omega)]
  ·rw[bT (by omega)]
 ·have hl:2<=(bW t.bG).1:=by rw[h];decide
  have i0:(0:Int)<(yz k:Int):=by omega
  have i1:(1:Int)<(yz k:Int):=by omega
  simp only[Z0,h,zP,Int.reduceEq,Int.reduceLE,reduceIte,i0,i1,zL,gd,dU]
 ·have hl:2<=(bW t.bG).1:=by rw[h];decide
  have i0:(0:Int)<(yz k:Int):=by omega
  have i1:(1:Int)<(yz k:Int):=by omega
  simp only[Z0,h,zP,Int.reduceEq,Int.reduceLE,reduceIte,i0,i1,zL,gd,dU]
 ·have hl:2<=(bW t.bG).1:=by rw[h];decide
  have i1:(1:Int)<(yz k:Int):=by omega
  have i2:(2:Int)<=(yz k:Int):=by omega
  simp only[Z0,h,zP,Int.reduceEq,Int.reduceLE,reduceIte,i1,i2,zL,gd,dU,zJ,jP,true_or]
 ·have hl:2<=(bW t.bG).1:=by rw[h];decide
  have i1:(1:Int)<(yz k:Int):=by omega
  have i2:(2:Int)<=(yz k:Int):=by omega
  simp only[Z0,h,zP,Int.reduceEq,Int.reduceLE,reduceIte,i1,i2,zL,gd,dU,zJ,jP,or_true]
 ·obtain⟨c1,c2,c3,c4,c5,c6,c7,c8,c9,c18,c11,c12⟩:=h;simp only[c1,c2,c3,c4,c5,c6,c7,c8,c9,c18,c11,c12,zP,jP,or_self]
def TM(vars:aa aT)(hv:de vars)(t:aj)(k:aa Span)(h:Aq vars t k):(gR vars t k).aG<=(gR vars t k).au:=by
 obtain⟨hk,h24,hI⟩:=h;have h0:1<=(bW t.bG).1->CA k[0]! :=λh=>hI _ (bD (by omega));have h1:2<=(bW t.bG).1->CA k[1]! :=λh=>hI _ (bD (by omega));unfold gR;have cs:t.bG=0\/t.bG=24\/t.bG=6\/t.bG=8\/t.bG=9\/t.bG=10\/t.bG=11\/t.bG=12\/t.bG=21\/t.bG=22\/t.bG=23\/t.bG=25\/(t.bG≠0/\t.bG≠24/\t.bG≠6/\t.bG≠8/\t.bG≠9/\t.bG≠10/\t.bG≠11/\t.bG≠12/\t.bG≠21/\t.bG≠22/\t.bG≠23/\t.bG≠25):=by omega
 rcases cs with h|h|h|h|h|h|h|h|h|h|h|h|h
 ·simp[h]
 ·have hm:vars[t.fN.toNat]!∈vars:=bD (by have:=h24 h;omega);have:=hv _ hm;simp only[h,Int.reduceEq,reduceIte];omega
 ·obtain⟨a1,a2,a3⟩:=h0 (by rw[h];decide);simp only[h,Int.reduceEq,reduceIte];omega
 ·obtain⟨a1,a2,a3⟩:=h0 (by rw[h];decide);obtain⟨b1,b2,b3⟩:=h1 (by rw[h];decide);simp only[h,Int.reduceEq,reduceIte];omega
 ·obtain⟨a1,a2,a3⟩:=h0 (by rw[h];decide);obtain⟨b1,b2,b3⟩:=h1 (by rw[h];decide);simp only[h,Int.reduceEq,reduceIte];omega
 ·simp only[h,Int.reduceEq,reduceIte,fW];omega
 ·obtain⟨a1,a2,a3⟩:=h0 (by rw[h];decide);grind
 ·simp only[h];grind
 ·obtain⟨a1,a2,a3⟩:=h0 (by rw[h];decide);obtain⟨b1,b2,b3⟩:=h1 (by rw[h];decide);simp only[h,Int.reduceEq];grind
 ·obtain⟨a1,a2,a3⟩:=h0 (by rw[h];decide);obtain⟨b1,b2,b3⟩:=h1 (by rw[h];decide);simp only[h,Int.reduceEq,reduceIte];grind
 ·have:=jM (k.drop 2) k[1]! (h1 (by rw[h];decide)) λx hx=>hI x (wo hx);simp only[h,Int.reduceEq,reduceIte,true_or,dU];exact this.2.1
 ·have:=jM (k.drop 2) k[1]! (h1 (by rw[h];decide)) λx hx=>hI x (wo hx);simp only[h,Int.reduceEq,reduceIte,or_true,dU];exact this.2.1
 ·obtain⟨c1,c2,c3,c4,c5,c6,c7,c8,c9,c18,c11,c12⟩:=h;simp only[c1,c2,c3,c4,c5,c6,c7,c8,c9,c18,c11,c12,jP,or_self];decide
def tw:∀{l:aa (af Span)} {r:aa Span},jJ l=Q r->l=r.map Q
 |[],r,h=>by unfold jJ at h;cases h;rfl
 |none::l,r,h=>by unfold jJ at h;cases h
 |some s::l,r,h=>by
  unfold jJ at h;cases hl:jJ l with
  |none=>rw[hl]at h;cases h
  |some q=>rw[hl]at h;cases h;rw[tw hl];rfl
def GV(l:aa Span):jJ (l.map Q)=Q l:=by
 induction l with
 |nil=>rfl
 |cons s l ih=>rw[zO,jJ,ih]
def sO:∀{l:aa (af Span)},J∈l->jJ l=J
 |none::l,h=>rfl
 |some s::l,h=>by
  unfold jJ;rw[sO (by simpa using h)]
def CO{vars:aa aT}{inp:Bool}{t:aj}{k:aa Span}(hf:Ba vars inp t=O)(hl:yz k=yz t.ay)(hI:∀s∈k,CA s):Aq vars t k:=by
 unfold Ba at hf;refine⟨?_,?_,hI⟩
 ·simp_all
 ·intro h;simp_all
def abA(vars:aa aT)(hv:de vars)(inp:Bool)(t:aj)(s:Span)(hf:dy vars inp t=O)(h:je vars t=Q s):CA s:=by
 have key:∀(n:Nat) (t:aj) (s:Span),zl t<n->dy vars inp t=O->je vars t=Q s->CA s:=by
  intro n;induction n with
  |zero=>intro t s h;omega
  |succ n ih=>
   intro t s hz hf h;rw[jZ,zj,zx]at hf;rw[EO]at h;cases ha:jJ (t.ay.map (je vars))with
   |none=>rw[ha]at h;cases h
   |some k=>
    rw[ha]at h;dsimp only at h;have hm:=tw ha;have hl:yz k=yz t.ay:=by have:=congrArg yz hm;simpa using this.symm
    have hI:∀s∈k,CA s:=λx hx=>by
     have:Q x∈t.ay.map (je vars):=by rw[hm];exact List.mem_map_of_mem hx
     obtain⟨c,hc,e⟩:=zy.1 this;exact ih c x (by have:=aj.eU hc;omega) (hf.2 c hc) e
    have ho:=TM vars hv t k (CO hf.1 hl hI);split at h
    ·rename_i hlim;unfold uD at hlim;unfold CA;grind
    ·cases h
 exact key _ t s (z7 _) hf h
def qm(vars:aa aT)(t:aj):Span×Bool:=match jJ (t.ay.map (je vars))with
 |none=>(⟨0,0⟩,V)
 |some l=>(gR vars t l,uD (gR vars t l))
def EM(vars:aa aT)(t:aj):je vars t=if(qm vars t).2=O then Q (qm vars t).1 else J:=by
 rw[EO,qm];grind
def H6{vars:aa aT}(hv:de vars){inp:Bool}{t:aj}{k:aa Span}(hf:dy vars inp t=O)(ha:jJ (t.ay.map (je vars))=Q k):Aq vars t k:=by
 rw[jZ,zj,zx]at hf;have hm:=tw ha;refine CO hf.1 (by have:=congrArg yz hm;simpa using this.symm) λx hx=> ?_;have:Q x∈t.ay.map (je vars):=by rw[hm];exact List.mem_map_of_mem hx
 obtain⟨c,hc,e⟩:=zy.1 this;exact abA vars hv inp c x (hf.2 c hc) e
def IM{vars:aa aT}{inp:Bool}{t:aj}(hf:dy vars inp t=O):yz t.ay<=33:=by
 rw[jZ,zj]at hf;have:=hf.1;unfold Ba at this;have h33:(bW t.bG).2<=33:=by unfold bW;grind
 simp only[zj,decide_eq_true_eq]at this;omega
def Hx{vars:aa aT}{inp:Bool}{t k:aj}(hf:dy vars inp t=O)(hk:k∈t.ay):dy vars inp k=O:=by
 rw[jZ,zj,zx]at hf;simp_all
def ae0(M:aa aT->aj->af mM)(vars:aa aT)(hv:de vars)(inp:Bool)(t:aj)(hf:dy vars inp t=O)(hM:∀k∈t.ay,M vars k=Q (qm vars k)):aea M vars t=Q (qm vars t):=by
 have h33:=IM hf;obtain⟨i,b,e1,hI,hc⟩:=AB (rnd:=rX M) (yz t.ay) (λi (b:aa Span)=>⟨vars,b,t.ay,(yz t.ay:Int),(i:Int),t,⟨0,0⟩⟩) (λi b=>(t.ay.take i).map (je vars)=b.map Q) (λi _=>(qm vars t.ay[i]!).2=V) (λi b hi hb=>by
  have hw:=iF hi (by omega);have hk:=hM _ (bD hi);have hlen:yz b=i:=by have:=congrArg yz hb;simp at this;omega
  cases hx:(qm vars t.ay[i]!).2 with
  |true=>
   refine .inl ⟨b++[(qm vars t.ay[i]!).1],?_,?_⟩
   ·have hl2:yz (b++[(qm vars t.ay[i]!).1])<=1073741824:=by simp;omega
    unfold rX;simp only[zi,aj.eta,hk,hx,hl2,hw];simp[hi]
   ·rw[bQ hi,zK,hb,zK];rw[zO,zO,EM,bS hx];rfl
  |false=>
   unfold rX;simp only[zi,aj.eta,hk,hx];simp[hi]) (λb _=>by unfold rX;simp) (b:=[]) rfl
 have e1':EW M ⟨vars,[],t.ay,(yz t.ay:Int),0,t,⟨0,0⟩⟩=Q ⟨vars,b,t.ay,(yz t.ay:Int),(i:Int),t,⟨0,0⟩⟩:=e1;unfold aea;rw[aj.eta,e1'];dsimp only;rcases hc with rfl|⟨hi,hx⟩
 ·rw[yp]at hI;have ha:jJ (t.ay.map (je vars))=Q b:=by rw[hI];exact GV b
  rw[dw (by omega),cL,aj.eta,abP vars t b (H6 hv hf ha)];unfold qm;unfold uD;grind
 ·have hk:=hM _ (bD hi);have ha:jJ (t.ay.map (je vars))=J:=sO (zy.2 ⟨t.ay[i]!,bD hi,by rw[EM,hx];simp⟩);rw[iN (by omega),dh,bS ⟨by omega,by omega⟩];simp only[zi,aj.eta,hk,hx,dh,cL];unfold qm;rw[ha]
def NJ(vars:aa aT)(hv:de vars)(inp:Bool):∀(n:Nat) (t:aj),zl t<n->dy vars inp t=O->Lh n vars t=Q (qm vars t)
 |0,_,h,_=>by omega
 |n+1,t,h,hf=>ae0 (Lh n) vars hv inp t hf (λk hk=>NJ vars hv inp n k (by have:=aj.eU hk;omega) (Hx hf hk))
def acy(vars:aa aT)(hv:de vars)(inp:Bool)(t:aj)(hf:dy vars inp t=O):acC vars t=Q (qm vars t):=dg (zl t+1) λn hn=>NJ vars hv inp n t (by omega) hf
def uX(vars:aa aT)(hv:de vars)(inp:Bool)(t:aj):HK vars t inp=Q (lN vars inp t):=by
 unfold HK lN;rw[aj.eta,acU];cases hf:dy vars inp t with
 |false=>rfl
 |true=>
  rw[acy vars hv inp t hf,EM];dsimp only;cases (qm vars t).2<;>rfl
def rJ(vars:aa aT)(t:aj)(k:aa Span):Span:=if t.bG=0/\(t.fN< -1048576\/1048576<t.fN)then⟨-1048577,1048577⟩else gR vars t k
def QU(vars:aa aT)(t:aj)(k:aa Span):uD (rJ vars t k)=uD (gR vars t k)/\(uD (gR vars t k)=O->rJ vars t k=gR vars t k):=by
 unfold rJ;by_cases h:t.bG=0/\(t.fN< -1048576\/1048576<t.fN)
 ·have e:uD (gR vars t k)=V:=by
   unfold uD gR;rw[bS h.1];simp;omega
  rw[bS h,e];exact⟨by decide,λh=>by cases h⟩
 ·rw[bT h];simp
def nL(a b:Int):gW a b=if a<b then a else b:=by
 unfold gW;simp
def lu(a b:Int):iJ a b=if b<a then a else b:=by
 unfold iJ;simp
def gp{k:aa Span}{i:Nat}(h:i<yz k):(k.map (·.aG))[i]! =k[i]!.aG:=by
 rw[getElem!_pos _ i (by simpa using h),getElem!_pos k i h,x9]
def eW{k:aa Span}{i:Nat}(h:i<yz k):(k.map (·.au))[i]! =k[i]!.au:=by
 rw[getElem!_pos _ i (by simpa using h),getElem!_pos k i h,x9]
def C8(k:aa Span)(hl:yz k<=1000000)(h2:2<=yz k)(a:Span):wT ⟨k.map (·.aG),k.map (·.au),a.aG,a.au,2⟩=Q ⟨k.map (·.aG),k.map (·.au),((k.drop 2).foldl fW a).aG,((k.drop 2).foldl fW a).au,(yz k:Int)⟩:=by
 have hlen:yz (k.drop 2)=yz k-2:=yc ..;have hget:∀i,i<yz k-2->(k.drop 2)[i]! =k[i+2]! :=λi hi=>by
  grind
 obtain⟨v,e1,hv⟩:=dL (rnd:=AM) (yz k-2) (λi (b:Span)=>⟨k.map (·.aG),k.map (·.au),b.aG,b.au,((i+2:Nat):Int)⟩) (λi b=>b=((k.drop 2).take i).foldl fW a) (λi b hi hb=>by
  have hw:=iF (show i+2<yz k by omega) hl;refine⟨fW b k[i+2]!,?_,?_⟩
  ·unfold AM;simp only[zi,nL,lu];unfold fW
   congr 3<;>grind
  ·rw[bQ (by omega),wD,hb,hget i hi];rfl) (λb _=>by
   unfold AM;simp only[zI,zP];rw[bT (by omega)]) (b:=a) rfl
 rw[<-hlen,yp]at hv;rw[<-hv];rw[show yz k-2+2=yz k by omega]at e1;exact e1
def YX(vars:aa aT)(t:aj)(k:aa Span)(h:Aq vars t k):W0 vars t (k.map (·.aG)) (k.map (·.au))=Q ((rJ vars t k).aG,(rJ vars t k).au):=by
 obtain⟨hk,h24,hI⟩:=h;have h0:1<=(bW t.bG).1->CA k[0]! :=λh=>hI _ (bD (by omega));have h1:2<=(bW t.bG).1->CA k[1]! :=λh=>hI _ (bD (by omega));have h33:(bW t.bG).2<=33:=by unfold bW;grind
 have W:∀n:Int,-8796093022208<=n->n<=8796093022208->i64.wrap n=n:=λn a b=>aJ (by omega) (by omega);unfold W0 rJ gR;have cs:t.bG=0\/t.bG=24\/t.bG=6\/t.bG=8\/t.bG=9\/t.bG=10\/t.bG=11\/t.bG=12\/t.bG=21\/t.bG=22\/t.bG=23\/t.bG=25\/(t.bG≠0/\t.bG≠24/\t.bG≠6/\t.bG≠8/\t.bG≠9/\t.bG≠10/\t.bG≠11/\t.bG≠12/\t.bG≠21/\t.bG≠22/\t.bG≠23/\t.bG≠25):=by omega
 rcases cs with h|h|h|h|h|h|h|h|h|h|h|h|h
 ·simp only[Z0];grind
 ·simp[h,h24 h]
 ·have hl:1<=(bW t.bG).1:=by rw[h];decide
  obtain⟨a1,a2,a3⟩:=h0 hl;have w1:i64.wrap ((0:Int)-k[0]!.au)= -k[0]!.au:=by rw[W _ (by omega) (by omega)];omega
  have w2:i64.wrap ((0:Int)-k[0]!.aG)= -k[0]!.aG:=by rw[W _ (by omega) (by omega)];omega
  have i0:(0:Int)<(yz k:Int):=by omega
  simp only[Z0,h,zP,Int.reduceEq,reduceIte,zI,i0,gp (show 0<yz k by omega),eW (show 0<yz k by omega),w1,w2,zL,gd,dU,false_and,jP]
 ·have hl:2<=(bW t.bG).1:=by rw[h];decide
  obtain⟨a1,a2,a3⟩:=h0 (by omega);obtain⟨b1,b2,b3⟩:=h1 hl;have w1:=W (k[0]!.aG+k[1]!.aG) (by omega) (by omega);have w2:=W (k[0]!.au+k[1]!.au) (by omega) (by omega);have i0:(0:Int)<(yz k:Int):=by omega
  have i1:(1:Int)<(yz k:Int):=by omega
  simp only[Z0,h,zP,Int.reduceEq,Int.reduceLE,reduceIte,zI,gp (show 0<yz k by omega),eW (show 0<yz k by omega),gp (show 1<yz k by omega),eW (show 1<yz k by omega),i0,i1,w1,w2,zL,gd,dU,false_and,jP]
 ·have hl:2<=(bW t.bG).1:=by rw[h];decide
  obtain⟨a1,a2,a3⟩:=h0 (by omega);obtain⟨b1,b2,b3⟩:=h1 hl;have w1:=W (k[0]!.aG-k[1]!.au) (by omega) (by omega);have w2:=W (k[0]!.au-k[1]!.aG) (by omega) (by omega);have i0:(0:Int)<(yz k:Int):=by omega
  have i1:(1:Int)<(yz k:Int):=by omega
  simp only[Z0,h,zP,Int.reduceEq,Int.reduceLE,reduceIte,zI,gp (show 0<yz k by omega),eW (show 0<yz k by omega),gp (show 1<yz k by omega),eW (show 1<yz k by omega),i0,i1,w1,w2,zL,gd,dU,false_and,jP]
 ·have hl:2<=(bW t.bG).1:=by rw[h];decide
  obtain⟨a1,a2,a3⟩:=h0 (by omega);obtain⟨b1,b2,b3⟩:=h1 hl;have m1:=ny (a:=k[0]!.aG) (b:=k[1]!.aG) (by omega) (by omega) (by omega) (by omega);have m2:=ny (a:=k[0]!.aG) (b:=k[1]!.au) (by omega) (by omega) (by omega) (by omega);have m3:=ny (a:=k[0]!.au) (b:=k[1]!.aG) (by omega) (by omega) (by omega) (by omega);have m4:=ny (a:=k[0]!.au) (b:=k[1]!.au) (by omega) (by omega) (by omega) (by omega);have w1:=W _ (show-8796093022208<=k[0]!.aG*k[1]!.aG by omega) (by omega);have w2:=W _ (show-8796093022208<=k[0]!.aG*k[1]!.au by omega) (by omega);have w3:=W _ (show-8796093022208<=k[0]!.au*k[1]!.aG by omega) (by omega);have w4:=W _ (show-8796093022208<=k[0]!.au*k[1]!.au by omega) (by omega);have i0:(0:Int)<(yz k:Int):=by omega
  have i1:(1:Int)<(yz k:Int):=by omega
  simp only[Z0,h,zP,Int.reduceEq,Int.reduceLE,reduceIte,zI,gp (show 0<yz k by omega),eW (show 0<yz k by omega),gp (show 1<yz k by omega),eW (show 1<yz k by omega),i0,i1,w1,w2,w3,w4,zL,gd,dU,false_and,jP,nL,lu,fW];generalize k[0]!.aG*k[1]!.aG=p;generalize k[0]!.aG*k[1]!.au=q;generalize k[0]!.au*k[1]!.aG=r;generalize k[0]!.au*k[1]!.au=s
  congr 2<;>grind
 ·have hl:2<=(bW t.bG).1:=by rw[h];decide
  obtain⟨a1,a2,a3⟩:=h0 (by omega);obtain⟨b1,b2,b3⟩:=h1 hl;have z0:zB 0=0:=rfl;have z1:zB 1=1:=rfl;have XR:∀x:Int,-1048576<=x->x<=1048576->sL x=if x<0 then-x else x:=λx q1 q2=>by
   unfold sL;rw[W _ (by omega) (by omega)];simp only[zP];grind
  have QN:iJ (sL k[0]!.aG) (sL k[0]!.au)=if k[0]!.au< -k[0]!.aG then-k[0]!.aG else k[0]!.au:=by
   rw[XR _ (by omega) (by omega),XR _ (by omega) (by omega),lu];grind
  have w2:i64.wrap ((0:Int)-if k[0]!.au< -k[0]!.aG then-k[0]!.aG else k[0]!.au)= -(if k[0]!.au< -k[0]!.aG then-k[0]!.aG else k[0]!.au):=by split<;>(rw[W _ (by omega) (by omega)];omega)
  have i0:(0:Int)<(yz k:Int):=by omega
  have i1:(1:Int)<(yz k:Int):=by omega
  simp only[Z0,h,zP,Int.reduceEq,Int.reduceLE,reduceIte,zI,z0,z1,gp (show 0<yz k by omega),eW (show 0<yz k by omega),gp (show 1<yz k by omega),eW (show 1<yz k by omega),i0,i1,QN,w2,zL,gd,dU,false_and,jP];by_cases c1:(0:Int)<=k[0]!.aG<;>by_cases c2:(0:Int)<=k[1]!.aG<;>simp only[c1,c2,dU,jP,fO,jk,dh,cL,gd,and_true,and_false]
 ·have hl:2<=(bW t.bG).1:=by rw[h];decide
  obtain⟨b1,b2,b3⟩:=h1 hl;have w1:=W (k[1]!.aG+1) (by omega) (by omega);have w2:=W (k[1]!.au-1) (by omega) (by omega);have i1:(1:Int)<(yz k:Int):=by omega
  simp only[Z0,h,zP,Int.reduceEq,Int.reduceLE,reduceIte,zI,gp (show 1<yz k by omega),eW (show 1<yz k by omega),i1,zL,gd,dU,false_and,jP,VY,w1,w2,nL,lu]
  congr 1
  by_cases c1:k[1]!.aG<0<;>by_cases c2:(0:Int)<k[1]!.au<;>simp only[c1,c2,dU,jP,Prod.mk.injEq,and_true,true_and]<;>grind
 ·have hl:2<=(bW t.bG).1:=by rw[h];decide
  have i0:(0:Int)<(yz k:Int):=by omega
  have i1:(1:Int)<(yz k:Int):=by omega
  simp only[Z0,h,zP,Int.reduceEq,Int.reduceLE,reduceIte,zI,gp (show 0<yz k by omega),eW (show 0<yz k by omega),gp (show 1<yz k by omega),eW (show 1<yz k by omega),i0,i1,zL,gd,dU,false_and,jP,nL,lu]
  congr 2<;>grind
 ·have hl:2<=(bW t.bG).1:=by rw[h];decide
  have i0:(0:Int)<(yz k:Int):=by omega
  have i1:(1:Int)<(yz k:Int):=by omega
  simp only[Z0,h,zP,Int.reduceEq,Int.reduceLE,reduceIte,zI,gp (show 0<yz k by omega),eW (show 0<yz k by omega),gp (show 1<yz k by omega),eW (show 1<yz k by omega),i0,i1,zL,gd,dU,false_and,jP,nL,lu]
  congr 2<;>grind
 ·have hl:2<=(bW t.bG).1:=by rw[h];decide
  have i1:(1:Int)<(yz k:Int):=by omega
  have e:=C8 k (by omega) (by omega) k[1]!;simp only[Z0,h,zP,Int.reduceEq,Int.reduceLE,reduceIte,zI,gp (show 1<yz k by omega),eW (show 1<yz k by omega),e,i1,zL,gd,dU,zJ,jP,true_or,false_and]
 ·have hl:2<=(bW t.bG).1:=by rw[h];decide
  have i1:(1:Int)<(yz k:Int):=by omega
  have e:=C8 k (by omega) (by omega) k[1]!;simp only[Z0,h,zP,Int.reduceEq,Int.reduceLE,reduceIte,zI,gp (show 1<yz k by omega),eW (show 1<yz k by omega),e,i1,zL,gd,dU,zJ,jP,or_true,false_and]
 ·obtain⟨c1,c2,c3,c4,c5,c6,c7,c8,c9,c18,c11,c12⟩:=h;simp only[c1,c2,c3,c4,c5,c6,c7,c8,c9,c18,c11,c12,zP,jP,or_self,false_and]
def l9(vars:aa aT)(t:aj):Int×Int×Bool:=match jJ (t.ay.map (je vars))with
 |none=>(0,0,V)
 |some l=>((rJ vars t l).aG,(rJ vars t l).au,uD (rJ vars t l))
def FL(vars:aa aT)(t:aj):je vars t=if(l9 vars t).2.2=O then Q ⟨(l9 vars t).1,(l9 vars t).2.1⟩else J:=by
 rw[EO,l9];cases h:jJ (t.ay.map (je vars))with
 |none=>rfl
 |some l=>
  obtain⟨h1,h2⟩:=QU vars t l;simp_all
def afh(M:aa aT->aj->af nw)(vars:aa aT)(hv:de vars)(inp:Bool)(t:aj)(hf:dy vars inp t=O)(hM:∀k∈t.ay,M vars k=Q (l9 vars k)):ZA M vars t=Q (l9 vars t):=by
 have h33:=IM hf;obtain⟨i,b,e1,hI,hc⟩:=AB (rnd:=tj M) (yz t.ay) (λi (b:aa Span)=>⟨vars,b.map (·.aG),b.map (·.au),(i:Int),t⟩) (λi b=>(t.ay.take i).map (je vars)=b.map Q) (λi _=>(l9 vars t.ay[i]!).2.2=V) (λi b hi hb=>by
  have hw:=iF hi (by omega);have hk:=hM _ (bD hi);have hlen:yz b=i:=by have:=congrArg yz hb;simp at this;omega
  cases hx:(l9 vars t.ay[i]!).2.2 with
  |true=>
   refine .inl ⟨b++[⟨(l9 vars t.ay[i]!).1,(l9 vars t.ay[i]!).2.1⟩],?_,?_⟩
   ·have hl2:yz (b.map (·.aG)++[(l9 vars t.ay[i]!).1])<=1073741824:=by simp;omega
    have hl3:yz (b.map (·.au)++[(l9 vars t.ay[i]!).2.1])<=1073741824:=by simp;omega
    unfold tj;simp only[zi,aj.eta,hk,hx,hl2,hl3,hw];simp[hi]
   ·rw[bQ hi,zK,hb,zK];rw[zO,zO,FL,bS hx];rfl
  |false=>
   unfold tj;simp only[zi,aj.eta,hk,hx];simp[hi]) (λb _=>by unfold tj;simp) (b:=[]) rfl
 have e1':FV M ⟨vars,[],[],0,t⟩=Q ⟨vars,b.map (·.aG),b.map (·.au),(i:Int),t⟩:=e1;unfold ZA;rw[aj.eta,e1'];dsimp only;rcases hc with rfl|⟨hi,hx⟩
 ·rw[yp]at hI;have ha:jJ (t.ay.map (je vars))=Q b:=by rw[hI];exact GV b
  rw[dw (by omega),cL,aj.eta,YX vars t b (H6 hv hf ha)];unfold l9;unfold uD;grind
 ·have hk:=hM _ (bD hi);have ha:jJ (t.ay.map (je vars))=J:=sO (zy.2 ⟨t.ay[i]!,bD hi,by rw[FL,hx];simp⟩);rw[iN (by omega),dh,bS ⟨by omega,by omega⟩];simp only[zi,aj.eta,hk,hx,dh,cL];unfold l9;rw[ha]
def M9(vars:aa aT)(hv:de vars)(inp:Bool):∀(n:Nat) (t:aj),zl t<n->dy vars inp t=O->Lu n vars t=Q (l9 vars t)
 |0,_,h,_=>by omega
 |n+1,t,h,hf=>afh (Lu n) vars hv inp t hf (λk hk=>M9 vars hv inp n k (by have:=aj.eU hk;omega) (Hx hf hk))
def aaZ(vars:aa aT)(hv:de vars)(inp:Bool)(t:aj)(hf:dy vars inp t=O):adH vars t=Q (l9 vars t):=dg (zl t+1) λn hn=>M9 vars hv inp n t (by omega) hf
def Ey(vars:aa aT)(hv:de vars)(inp:Bool)(t:aj):YD vars t inp=Q (lN vars inp t):=by
 unfold YD lN;rw[aj.eta,afG];cases hf:dy vars inp t with
 |false=>rfl
 |true=>
  rw[aaZ vars hv inp t hf,FL];dsimp only;cases (l9 vars t).2.2<;>rfl
def cG.eta(h:cG):cG.mk h.fName h.aG h.au h.aB=h:=by cases h;rfl
def Oe(l:aa cG)(hl:yz l<=1000000)(v:cG):QG l v=Q (l.any λw=>w.fName.toList==v.fName.toList):=by
 obtain⟨i,e1,hc⟩:=mP (rnd:=vN) l (λi=>⟨l,v.fName,v.aG,v.au,v.aB.bG,v.aB.fN,v.aB.ay,(yz l:Int),(i:Int)⟩) (λ_ w=> !(w.fName.toList==v.fName.toList)) (λi hi=>by
  have hw:=iF hi hl;unfold vN QL;grind) (by unfold vN;simp)
 have e1':FB ⟨l,v.fName,v.aG,v.au,v.aB.bG,v.aB.fN,v.aB.ay,(yz l:Int),0⟩=Q ⟨l,v.fName,v.aG,v.au,v.aB.bG,v.aB.fN,v.aB.ay,(yz l:Int),(i:Int)⟩:=e1;unfold QG aaU;rw[e1'];rcases hc with ⟨rfl,hc⟩|⟨hi,hc⟩
 ·rw[qQ λj hj=>by have:=hc j hj;simpa using this];simp
 ·have hc':(l[i]!.fName.toList==v.fName.toList)=O:=by simpa using hc
  rw[E8 hi hc'];unfold QL;simp only[zi,hc'];simp[hi]
def HP(f:bB)(hl:yz f.ai<=1000000)(n:Nat)(hn:n<=yz f.ai)(v:cG):
  ∃i:Nat,Hv ⟨n,0,f,v⟩=Q ⟨n,(i:Int),f,v⟩/\((i=n/\((f.ai.take n).any λw=>w.fName.toList==v.fName.toList)=V)\/(i<n/\(f.ai[i]!.fName.toList==v.fName.toList)=O/\((f.ai.take n).any λw=>w.fName.toList==v.fName.toList)=O)):=by
 have hlen:yz (f.ai.take n)=n:=by rw[zM];omega
 have hget:∀i,i<n->(f.ai.take n)[i]! =f.ai[i]! :=λi hi=>by
  rw[getElem!_pos _ i (by omega),getElem!_pos _ i (by omega),xW]
 obtain⟨i,e1,hc⟩:=mP (rnd:=Hq) (f.ai.take n) (λi=>⟨(n:Int),(i:Int),f,v⟩) (λ_ w=> !(w.fName.toList==v.fName.toList)) (λi hi=>by
  have hw:=iF hi (by omega);unfold Hq;simp only[aj.eta,cG.eta];grind) (by rw[hlen];unfold Hq;simp)
 refine⟨i,e1,?_⟩;rw[hlen]at hc;rcases hc with ⟨rfl,hc⟩|⟨hi,hc⟩
 ·exact .inl ⟨rfl,qQ λj hj=>by have:=hc j (by omega);simpa using this⟩
 ·have hc':((f.ai.take n)[i]!.fName.toList==v.fName.toList)=O:=by simpa using hc
  exact .inr ⟨hi,by rw[<-hget i hi];exact hc',E8 (by omega) hc'⟩
def aa1(t:aj):Rk t=tL t:=by
 unfold Rk tL;simp
def ae7(t:aj):IB t=tL t:=by
 unfold IB tL;simp
def kK:∀(l:aa Int),iV l=O↔∀i,i+1<yz l->l[i]! <l[i+1]!
 |[]=>by simp[iV]
 |[a]=>by simp[iV]
 |a::b::l=>by
  unfold iV;rw[zj,kK (b::l),decide_eq_true_iff];constructor
  ·rintro⟨h1,h2⟩ i hi;cases i with
   |zero=>exact h1
   |succ i=>exact h2 i (by simpa using hi)
  ·intro h;exact⟨h 0 (by simp),λi hi=>h (i+1) (by simpa using hi)⟩
def aai(l:aa Int)(hl:yz l<=1000000):Qy l=Q (iV l):=by
 obtain⟨i,e1,hc⟩:=mP (rnd:=Cy) l (λi=>⟨l,(yz l:Int),(i:Int)⟩) (λi x=>Z (i=0)||Z (l[i-1]! <x)) (λi hi=>by
  have hw:=iF hi hl;have hw2:i64.wrap ((i:Int)-1)=(i:Int)-1:=aJ (by omega) (by omega);have hw3:((i:Int)-1).toNat=i-1:=by omega
  unfold Cy;grind) (by unfold Cy;simp)
 have e1':FQ ⟨l,(yz l:Int),0⟩=Q ⟨l,(yz l:Int),(i:Int)⟩:=e1;unfold Qy;rw[e1'];rcases hc with ⟨rfl,hc⟩|⟨hi,hc⟩
 ·have:iV l=O:=(kK l).2 λi hi=>by
   have:=hc (i+1) hi;simpa using this
  rw[this];simp
 ·have hc':i≠0/\¬l[i-1]! <l[i]! :=by
   simp only[Bool.or_eq_false_iff,decide_eq_false_iff_not]at hc;exact hc
  have:iV l=V:=by
   cases hr:iV l with
   |false=>rfl
   |true=>
    have:=(kK l).1 hr (i-1) (by omega);rw[show i-1+1=i by omega]at this;omega
  have hw2:i64.wrap ((i:Int)-1)=(i:Int)-1:=aJ (by omega) (by omega);have hw3:((i:Int)-1).toNat=i-1:=by omega
  grind
def acq(l:aa Int)(hl:yz l<=1000000):VO l=Q (Z (1<=yz l/\yz l<=32)&&Z ((0:Int)<=l[0]!)&&iV l):=by
 unfold VO;by_cases h1:1<=yz l/\yz l<=32
 case neg=>
  rw[dw h1]
  try simp only
  grind
 rw[iN h1,dw (show ¬(yz l:Int)<1 by omega),dw (show ¬32<(yz l:Int)by omega),bS (⟨zL _,by omega⟩:(0:Int)<=0/\(0:Int)<(yz l:Int))];have hz:l[zB 0]! =l[0]! :=rfl;rw[hz];by_cases h0:(0:Int)<=l[0]!
 case neg=>
  rw[dw h0,iN (show l[0]! <0 by omega)];rfl
 rw[iN h0,dw (show ¬l[0]! <0 by omega)];dsimp only[cL];have hlen:yz (l.drop 1)=yz l-1:=yc ..;have hget:∀i,i<yz l-1->(l.drop 1)[i]! =l[i+1]! :=λi hi=>by
  simp
 obtain⟨i,e1,hc⟩:=mP (rnd:=vK) (l.drop 1) (λi=>⟨l,((i+1:Nat):Int)⟩) (λi x=>Z (l[i]! <x)) (λi hi=>by
  have hw:=iF (show i+1<yz l by omega) hl;have hw2:i64.wrap (((i+1:Nat):Int)-1)=(i:Int):=by rw[aJ (by omega) (by omega)];omega
  unfold vK;grind) (by
   unfold vK;simp only[zP];rw[bT (by omega)])
 have e1':Fs ⟨l,1⟩=Q ⟨l,((i+1:Nat):Int)⟩:=e1;rw[e1'];dsimp only;rw[hlen]at hc;rcases hc with ⟨rfl,hc⟩|⟨hi,hc⟩
 ·have:iV l=O:=(kK l).2 λi hi=>by
   have:=hc i (by omega);simpa using this
  rw[this,dw (show ¬(((yz l-1+1:Nat):Int)<(yz l:Int))by omega)];rfl
 ·rw[hget i hi]at hc;have hc':¬l[i]! <l[i+1]! :=by simpa using hc
  have:iV l=V:=by
   cases hr:iV l with
   |false=>rfl
   |true=>exact gI ((kK l).1 hr i (by omega)) hc'
  have hw2:i64.wrap (((i+1:Nat):Int)-1)=(i:Int):=by rw[aJ (by omega) (by omega)];omega
  grind
def NQ(f:bB)(s:ax)(last:Bool):Gd f s last=Q (dx f s last):=by
 have h199:yz s.aK<=32->Qy s.aK=Q (iV s.aK):=λh=>aai _ (by omega);have hz:s.aK[zB 0]! =s.aK[0]! :=rfl;unfold Gd Rz V8 Wy;rw[aj.eta,aa1,hz];obtain⟨X,hX⟩:∃X,X=dx f s last:=⟨_,rfl⟩;have hX1:X=O↔dx f s last=O:=by rw[hX]
 unfold dx B9 at hX1;generalize tL s.aB=za at*;have cs:s.cM=0\/s.cM=1\/s.cM=2\/s.cM=3\/s.cM=4\/s.cM=5\/s.cM=6\/s.cM<0\/6<s.cM:=by omega
 rcases cs with h|h|h|h|h|h|h|h|h
 case inr.inr.inr.inr.inr.inr.inr.inl=>rw[iN h];dsimp only[dh];cases X<;>grind
 case inr.inr.inr.inr.inr.inr.inr.inr=>rw[iN h,dw (by omega)];dsimp only[dh,cL];cases X<;>grind
 all_goals
  rw[h]at hX1 ⊢;cases X<;>cases za<;>simp only[Int.reduceEq,Int.reduceLT,fO,jk,dh,cL,dU,jP,zP,reduceIte,zj]at hX1 ⊢ <;>grind (splits:=40)
def UN(a b:Bool):(bif a then some b else some false)=some (a&&b):=by cases a<;>rfl
def N8(f:bB)(s:ax)(last:Bool)(hb:yz s.aK<=1000000):JK f s last=Q (dx f s last):=by
 have h173:=acq s.aK hb;have e1:(bif Z ((yz s.aU:Int)=0)then Q (Z ((yz s.aV:Int)=0))else Q V)=Q (Z (yz s.aU=0/\yz s.aV=0)):=by
  by_cases a1:yz s.aU=0<;>by_cases a2:yz s.aV=0<;>simp[a1]
 have e2:(bif Z (0<=s.bz)then bif Z (s.bz<(yz f.ah:Int))then if(0:Int)<=s.bz/\s.bz<(yz f.ah:Int)then Q (Z (f.ah[s.bz.toNat]!.bU=0))else J else Q V else Q V)=Q (B9 f s):=by
  unfold B9;by_cases a1:0<=s.bz<;>by_cases a2:s.bz<(yz f.ah:Int)<;>simp[a1,a2]
 unfold JK;rw[aj.eta,ae7,h173,e1,e2];unfold dx;generalize Z (yz s.aU=0/\yz s.aV=0)=F;have hi:((yz s.aK:Int)=0)↔s.aK.length=0:=by omega
 have hi2:((yz s.aV:Int)=0)↔s.aV.length=0:=by omega
 simp only[hi,hi2];have cs:s.cM=0\/s.cM=1\/s.cM=2\/s.cM=3\/s.cM=4\/s.cM=5\/s.cM=6\/(s.cM≠0/\s.cM≠1/\s.cM≠2/\s.cM≠3/\s.cM≠4/\s.cM≠5/\s.cM≠6):=by omega
 rcases cs with h|h|h|h|h|h|h|⟨h0,h1,h2,h3,h4,h5,h6⟩
 case inr.inr.inr.inr.inr.inr.inr=>simp only[h0,h1,h2,h3,h4,h5,h6,jk,cL,jP]
 all_goals
  rw[h];simp only[Int.reduceEq,jk,cL]
  try rw[Bool.decide_and]
  simp only[UN]
  first|done|(congr 1;ac_rfl)
def MV(s:ax)(hb:s.cM=6->1<=yz s.aK/\yz s.aK<=32):JG s=Q (uG s):=by
 unfold JG uG;by_cases h6:s.cM=6
 ·obtain⟨b1,b2⟩:=hb h6;have hw:i64.wrap ((yz s.aK:Int)-1)=(yz s.aK:Int)-1:=aJ (by omega) (by omega);have hw2:((yz s.aK:Int)-1).toNat=yz s.aK-1:=by omega
  grind (splits:=30)
 ·rw[dw h6,bT h6];by_cases h2:s.cM=2
  ·rw[h2];grind (splits:=30)
  ·rw[dw h2,bT h2];grind (splits:=30)
def gP{f:bB}{s:ax}{last:Bool}(h:dx f s last=O):(s.cM=6->1<=yz s.aK/\yz s.aK<=32)/\(s.cM≠6->yz s.aK=0)/\(s.cM≠3->s.cM≠4->s.aU=[])/\(s.cM≠3->s.aV=[])/\(s.cM≠4->0<=s.fN):=by
 unfold dx at h;have e1:yz s.aU=0->s.aU=[]:=y8.1;have e2:yz s.aV=0->s.aV=[]:=y8.1;refine⟨λh6=> ?_,λh6=> ?_,λh3 h4=>e1 ?_,λh3=>e2 ?_,λh4=> ?_⟩<;>grind (splits:=40)
def CP(M:bB->aa ax->Bool->af iM)(f:bB)(l A B:aa ax)(top:Bool)(n i a b:Int)(ha:M f A V=Q a)(hb:M f B V=Q b):
  su M ⟨l,top,l,n,i,[A,B],2,0,f⟩=Q ⟨l,top,l,n,i,[A,B],2,if a≠0 then 0 else if b≠0 then 1 else 2,f⟩:=by
 have w0:i64.wrap 1=1:=rfl;have w1:i64.wrap 2=2:=rfl;have r1:oK M ⟨l,top,l,n,i,[A,B],2,0,f⟩=if a≠0 then Q J else Q (Q ⟨l,top,l,n,i,[A,B],2,1,f⟩):=by
  unfold oK;by_cases h:a=0<;>simp[ha,w0]
 have r2:oK M ⟨l,top,l,n,i,[A,B],2,1,f⟩=if b≠0 then Q J else Q (Q ⟨l,top,l,n,i,[A,B],2,2,f⟩):=by
  unfold oK;by_cases h:b=0<;>simp[hb,w1]
 have r3:oK M ⟨l,top,l,n,i,[A,B],2,2,f⟩=Q J:=by
  rfl
 unfold su;by_cases h1:a≠0
 ·rw[bS h1]at r1 ⊢;exact cE λr=>by rw[r1];simp
 ·rw[bT h1]at r1 ⊢;rw[cB r1];by_cases h2:b≠0
  ·rw[bS h2]at r2 ⊢;exact cE λr=>by rw[r2];simp
  ·rw[bT h2]at r2 ⊢;rw[cB r2];exact cE λr=>by rw[r3];simp
def Nd(n i:Nat)(hn:n<=1000000):Z ((i:Int)=i64.wrap ((n:Int)-1))=Z (i+1=n):=by
 rw[aJ (by omega) (by omega)];apply decide_eq_decide.2;omega
def SE(M:bB->aa ax->Bool->af iM)(f:bB)(hv:de f.ah)(l:aa ax)(hl:yz l<=1000000)(top:Bool)(hM:∀s∈l,M f s.aU V=Q (cQ f V s.aU)/\M f s.aV V=Q (cQ f V s.aV))(i:Nat)(hi:i<yz l):
  (RK f top (yz l) i l[i]! =0->oV M ⟨l,top,l,(yz l:Int),(i:Int),f⟩=Q (Q ⟨l,top,l,(yz l:Int),((i+1:Nat):Int),f⟩))/\(RK f top (yz l) i l[i]!≠0->oV M ⟨l,top,l,(yz l:Int),(i:Int),f⟩=Q J):=by
 have hw:=iF hi hl;obtain⟨k1,k2⟩:=hM _ (bD hi);have hin:=CP M f l l[i]!.aU l[i]!.aV top (yz l:Int) (i:Int) _ _ k1 k2;have hlen:(yz ([l[i]!.aU,l[i]!.aV]:aa (aa ax)):Int)=2:=rfl;have hi1:(i:Int)<(yz l:Int):=by omega
 have hi0:(0:Int)<=(i:Int):=by omega
 unfold oV RK qV;simp only[zi,aj.eta,ax.eta,NQ,Nd (yz l) i hl,uX f.ah hv,hlen,hin,hi1];have e1':(bif top then some (bif dx f l[i]! (Z (i+1=yz l))then false else true)else some (bif dx f l[i]! false then false else true))=some (bif dx f l[i]! (top&&Z (i+1=yz l))then false else true):=by cases top<;>rfl
 rw[e1'];have hS:dx f l[i]! (top&&Z (i+1=yz l))=O->JG l[i]! =Q (uG l[i]!):=λh=>MV _ (gP h).1;revert hS;generalize dx f l[i]! (top&&Z (i+1=yz l))=S;intro hS;generalize l[i]!.aU=A at k1 hin ⊢;generalize l[i]!.aV=B at k2 hin ⊢;cases S with
 |false=>simp
 |true=>
  rw[hS rfl];generalize uG l[i]! =N;cases N with
  |false=>simp
  |true=>
   generalize lN f.ah V l[i]!.aB=T;generalize cQ f V A=a at*;generalize cQ f V B=b at*;by_cases hT:T=0
   ·by_cases ha:a=0
    ·by_cases hb:b=0
     ·simp[hT,ha,hb,hw]
     ·simp[hT,ha,hb,k2]
    ·simp[hT,ha,k1]
   ·simp[hT]
def ZC(M:bB->aa ax->Bool->af iM)(f:bB)(hv:de f.ah)(l:aa ax)(hl:yz l<=1000000)(top:Bool)(hM:∀s∈l,M f s.aU V=Q (cQ f V s.aU)/\M f s.aV V=Q (cQ f V s.aV)):YV M f l top=Q (cQ f top l):=by
 obtain⟨i,e1,hc⟩:=C3 (rnd:=oV M) l (λi=>⟨l,top,l,(yz l:Int),(i:Int),f⟩) (RK f top (yz l)) (λi hi=>SE M f hv l hl top hM i hi) (by unfold oV;simp);have e1':E7 M ⟨l,top,l,(yz l:Int),0,f⟩=Q ⟨l,top,l,(yz l:Int),(i:Int),f⟩:=e1;rw[mV f top (yz l) l 0 (by omega)]at hc;unfold YV;rw[e1'];rcases hc with ⟨rfl,hc⟩|⟨hi,h0,hc⟩
 ·rw[hc];simp
 ·rw[hc];obtain⟨k1,k2⟩:=hM _ (bD hi);have hin:=CP M f l l[i]!.aU l[i]!.aV top (yz l:Int) (i:Int) _ _ k1 k2;have hlen:(yz ([l[i]!.aU,l[i]!.aV]:aa (aa ax)):Int)=2:=rfl;have hi1:(i:Int)<(yz l:Int):=by omega
  have hi0:(0:Int)<=(i:Int):=by omega
  revert h0;unfold RK qV;simp only[zi,aj.eta,ax.eta,NQ,Nd (yz l) i hl,uX f.ah hv,hlen,hin,hi1];have e1':(bif top then some (bif dx f l[i]! (Z (i+1=yz l))then false else true)else some (bif dx f l[i]! false then false else true))=some (bif dx f l[i]! (top&&Z (i+1=yz l))then false else true):=by cases top<;>rfl
  rw[e1'];have hS:dx f l[i]! (top&&Z (i+1=yz l))=O->JG l[i]! =Q (uG l[i]!):=λh=>MV _ (gP h).1;revert hS;generalize dx f l[i]! (top&&Z (i+1=yz l))=S;intro hS;generalize l[i]!.aU=A at k1 hin ⊢;generalize l[i]!.aV=B at k2 hin ⊢;cases S with
  |false=>simp
  |true=>
   rw[hS rfl];generalize uG l[i]! =N;cases N with
   |false=>simp
   |true=>
    generalize lN f.ah V l[i]!.aB=T;generalize cQ f V A=a at*;generalize cQ f V B=b at*;by_cases hT:T=0
    ·by_cases ha:a=0
     ·by_cases hb:b=0
      ·simp[hT,ha,hb]
      ·simp[hT,ha,hb,k2]
     ·simp[hT,ha,k1]
    ·simp[hT]
def Ff(f:bB)(hv:de f.ah):∀(n:Nat) (l:aa ax) (top:Bool),zl l<n->gi l<=1000->Li n f l top=Q (cQ f top l)
 |0,_,_,h,_=>by omega
 |n+1,l,top,h,h2=>ZC (Li n) f hv l (by have:=ji l;omega) top (λs hs=>⟨Ff f hv n _ _ (by have:=bg hs;omega) (by have:=fq hs;omega),Ff f hv n _ _ (by have:=bg hs;omega) (by have:=fq hs;omega)⟩)
def adu(f:bB)(hv:de f.ah)(l:aa ax)(top:Bool)(h:gi l<=1000):ac3 f l top=Q (cQ f top l):=dg (zl l+1) λn hn=>Ff f hv n l top (by omega) h
def NA{f:bB}{s:ax}{last:Bool}(h:dx f s last=O)(c:Int)(hc:c=if s.cM=2 then 67108864 else 10000):
  ((bif Z (s.bN<0)then Q O else bif Z (c<s.bN)then Q O else bif Z (s.fN<0)then Q O else bif Z (s.cM=4)then Q (Z (4096<s.fN))else Q V):af Bool)=Q (!(Z (0<=s.bN/\s.bN<=c)&&(if s.cM=4 then Z (0<=s.fN/\s.fN<=4096)else O))):=by
 obtain⟨b1,b2,b3,b4,b5⟩:=gP h;by_cases h1:s.bN<0
 ·simp[h1]
 by_cases h2:c<s.bN
 ·simp[h2]
 by_cases h3:s.fN<0
 ·have h4:s.cM=4:=by
   omega
  simp[h3,h4]
 by_cases h4:s.cM=4
 ·simp[h1,h2,h3];by_cases h5:4096<s.fN
  ·grind
  ·simp_all
 ·simp[h1,h2,h3,h4,show 0<=s.bN by omega,show s.bN<=c by omega]
def Nr{f:bB}{s:ax}{last:Bool}(h:dx f s last=O):
  ((bif Z (0<(yz s.aK:Int))then if(0:Int)<=i64.wrap ((yz s.aK:Int)-(1:Int))/\i64.wrap ((yz s.aK:Int)-(1:Int))<(yz s.aK:Int)then Q (Z (67108864<s.aK[(i64.wrap ((yz s.aK:Int)-1)).toNat]!))else J else Q V):af Bool)=Q (!(if s.cM=6 then Z (s.aK[yz s.aK-1]!<=67108864)else O)):=by
 obtain⟨b1,b2,b3,b4,b5⟩:=gP h;by_cases h6:s.cM=6
 ·obtain⟨b1,b2⟩:=b1 h6;have hw:i64.wrap ((yz s.aK:Int)-1)=(yz s.aK:Int)-1:=aJ (by omega) (by omega);have hw2:((yz s.aK:Int)-1).toNat=yz s.aK-1:=by omega
  rw[hw,hw2,iN (by omega),dh,bS ⟨by omega,by omega⟩,bS h6];generalize s.aK[yz s.aK-1]! =B;by_cases h:67108864<B
  ·simp[h]
  ·simp[h];omega
 ·rw[dw (by have:=b2 h6;omega),bT h6];rfl
def afK(M:bB->aa ax->Bool->af DR)(f:bB)(hv:de f.ah)(l:aa ax)(hl:yz l<=1000000)(hB:∀s∈l,yz s.aK<=1000000)(top:Bool)(hM:∀s∈l,M f s.aU V=Q (cQ f V s.aU)/\M f s.aV V=Q (cQ f V s.aV))(i:Nat)(hi:i<yz l):
  (RK f top (yz l) i l[i]! =0->BV M ⟨l,top,(i:Int),f⟩=Q (Q ⟨l,top,((i+1:Nat):Int),f⟩))/\(RK f top (yz l) i l[i]!≠0->BV M ⟨l,top,(i:Int),f⟩=Q J):=by
 have hw:=iF hi hl;obtain⟨k1,k2⟩:=hM _ (bD hi);have hb:=hB _ (bD hi);have hi1:(i:Int)<(yz l:Int):=by omega
 have hi0:(0:Int)<=(i:Int):=by omega
 unfold BV RK qV;simp only[zi,aj.eta,ax.eta,N8 f l[i]! _ hb,Nd (yz l) i hl,Ey f.ah hv,hw,hi1];have e1':(bif top then some (bif dx f l[i]! (Z (i+1=yz l))then false else true)else some (bif dx f l[i]! false then false else true))=some (bif dx f l[i]! (top&&Z (i+1=yz l))then false else true):=by cases top<;>rfl
 rw[e1'];cases hS:dx f l[i]! (top&&Z (i+1=yz l))with
 |false=>simp
 |true=>
  have hn:=NA hS;rw[Nr hS];unfold uG;generalize (if l[i]!.cM=6 then Z (l[i]!.aK[yz l[i]!.aK-1]!<=67108864)else O)=B6;by_cases h2:l[i]!.cM=2
  ·grind
  ·rw[bT h2]at hn ⊢;rw[dw h2,hn 10000 rfl];generalize (Z (0<=l[i]!.bN/\l[i]!.bN<=10000)&&(if l[i]!.cM=4 then Z (0<=l[i]!.fN/\l[i]!.fN<=4096)else O))=N;generalize lN f.ah V l[i]!.aB=T;generalize l[i]!.aU=A at k1 ⊢;generalize l[i]!.aV=B at k2 ⊢;generalize cQ f V A=a at*;generalize cQ f V B=b at*;cases N with
   |false=>simp
   |true=>
    cases B6 with
    |false=>simp
    |true=>
     by_cases hT:T=0
     ·by_cases ha:a=0
      ·by_cases hb:b=0
       ·simp[hT,ha,hb,k1,k2]
       ·simp[hT,ha,hb,k1,k2]
      ·simp[hT,ha,k1]
     ·simp[hT]
def aoc(M:bB->aa ax->Bool->af DR)(f:bB)(hv:de f.ah)(l:aa ax)(hl:yz l<=1000000)(hB:∀s∈l,yz s.aK<=1000000)(top:Bool)(hM:∀s∈l,M f s.aU V=Q (cQ f V s.aU)/\M f s.aV V=Q (cQ f V s.aV)):s55 M f l top=Q (cQ f top l):=by
 obtain⟨i,e1,hc⟩:=C3 (rnd:=BV M) l (λi=>⟨l,top,(i:Int),f⟩) (RK f top (yz l)) (λi hi=>afK M f hv l hl hB top hM i hi) (by unfold BV;simp);have e1':Ng M ⟨l,top,0,f⟩=Q ⟨l,top,(i:Int),f⟩:=e1;rw[mV f top (yz l) l 0 (by omega)]at hc;unfold s55;rw[e1'];dsimp only;rcases hc with ⟨rfl,hc⟩|⟨hi,h0,hc⟩
 ·simp_all
 ·rw[hc];obtain⟨k1,k2⟩:=hM _ (bD hi);have hb:=hB _ (bD hi);have hi1:(i:Int)<(yz l:Int):=by omega
  have hi0:(0:Int)<=(i:Int):=by omega
  revert h0;unfold RK qV;simp only[zi,aj.eta,ax.eta,N8 f l[i]! _ hb,Nd (yz l) i hl,Ey f.ah hv,hi1];have e1':(bif top then some (bif dx f l[i]! (Z (i+1=yz l))then false else true)else some (bif dx f l[i]! false then false else true))=some (bif dx f l[i]! (top&&Z (i+1=yz l))then false else true):=by cases top<;>rfl
  rw[e1'];cases hS:dx f l[i]! (top&&Z (i+1=yz l))with
  |false=>simp
  |true=>
   have hn:=NA hS;rw[Nr hS];unfold uG;generalize (if l[i]!.cM=6 then Z (l[i]!.aK[yz l[i]!.aK-1]!<=67108864)else O)=B6;by_cases h2:l[i]!.cM=2
   ·rw[bS h2]at hn ⊢;rw[iN h2,hn 67108864 rfl];generalize (Z (0<=l[i]!.bN/\l[i]!.bN<=67108864)&&(if l[i]!.cM=4 then Z (0<=l[i]!.fN/\l[i]!.fN<=4096)else O))=N;generalize lN f.ah V l[i]!.aB=T;generalize l[i]!.aU=A at k1 ⊢;generalize l[i]!.aV=B at k2 ⊢;generalize cQ f V A=a at*;generalize cQ f V B=b at*;cases N with
    |false=>simp
    |true=>
     cases B6 with
     |false=>simp
     |true=>
      by_cases hT:T=0
      ·by_cases ha:a=0
       ·by_cases hb:b=0
        ·simp[hT,ha,hb]
        ·simp[hT,ha,hb,k1,k2]
       ·simp[hT,ha,k1]
      ·simp[hT]
   ·rw[bT h2]at hn ⊢;rw[dw h2,hn 10000 rfl];generalize (Z (0<=l[i]!.bN/\l[i]!.bN<=10000)&&(if l[i]!.cM=4 then Z (0<=l[i]!.fN/\l[i]!.fN<=4096)else O))=N;generalize lN f.ah V l[i]!.aB=T;generalize l[i]!.aU=A at k1 ⊢;generalize l[i]!.aV=B at k2 ⊢;generalize cQ f V A=a at*;generalize cQ f V B=b at*;cases N with
    |false=>simp
    |true=>
     cases B6 with
     |false=>simp
     |true=>
      by_cases hT:T=0
      ·by_cases ha:a=0
       ·by_cases hb:b=0
        ·simp[hT,ha,hb]
        ·simp[hT,ha,hb,k1,k2]
       ·simp[hT,ha,k1]
      ·simp[hT]
def L9(f:bB)(hv:de f.ah):∀(n:Nat) (l:aa ax) (top:Bool),zl l<n->gi l<=1000->m55 n f l top=Q (cQ f top l)
 |0,_,_,h,_=>by omega
 |n+1,l,top,h,h2=>aoc (m55 n) f hv l (by have:=ji l;omega) (λs hs=>by have:=D7 hs;have:=mh s;omega) top (λs hs=>⟨L9 f hv n _ _ (by have:=bg hs;omega) (by have:=fq hs;omega),L9 f hv n _ _ (by have:=bg hs;omega) (by have:=fq hs;omega)⟩)
def ajU(f:bB)(hv:de f.ah)(l:aa ax)(top:Bool)(h:gi l<=1000):r55 f l top=Q (cQ f top l):=dg (zl l+1) λn hn=>L9 f hv n l top (by omega) h
def VC(f:bB)(hv:de f.ah)(hl:yz f.ai<=1000000)(i:Nat)(hi:i<yz f.ai):
  (jX f i f.ai[i]! =0->BN ⟨f.ai,(yz f.ai:Int),(i:Int),f⟩=Q (Q ⟨f.ai,(yz f.ai:Int),((i+1:Nat):Int),f⟩))/\(jX f i f.ai[i]!≠0->BN ⟨f.ai,(yz f.ai:Int),(i:Int),f⟩=Q J):=by
 have hw:=iF hi hl;have h2:=Oe (f.ai.take i) (by rw[zM];omega) f.ai[i]!;unfold BN jX;simp only[aj.eta,cG.eta,uP,uH,uX f.ah hv];grind
def alD(f:bB)(hv:de f.ah)(hl:yz f.ai<=1000000):m99 f=Q (eE (jX f) f.ai 0):=by
 obtain⟨i,e1,hc⟩:=C3 (rnd:=BN) f.ai (λi=>⟨f.ai,(yz f.ai:Int),(i:Int),f⟩) (jX f) (λi hi=>VC f hv hl i hi) (by unfold BN;simp);have e1':Oj ⟨f.ai,(yz f.ai:Int),0,f⟩=Q ⟨f.ai,(yz f.ai:Int),(i:Int),f⟩:=e1;unfold m99;rw[e1'];rcases hc with ⟨rfl,hc⟩|⟨hi,h0,hc⟩
 ·simp_all
 ·rw[hc];have h2:=Oe (f.ai.take i) (by rw[zM];omega) f.ai[i]!;revert h0;unfold jX;simp only[aj.eta,cG.eta,uP,uH,uX f.ah hv];grind
def ad4(f:bB)(hv:de f.ah)(hl:yz f.ai<=1000000)(i:Nat)(hi:i<yz f.ai):
  (jX f i f.ai[i]! =0->BQ ⟨(i:Int),f⟩=Q (Q ⟨((i+1:Nat):Int),f⟩))/\(jX f i f.ai[i]!≠0->BQ ⟨(i:Int),f⟩=Q J):=by
 have hw:=iF hi hl;obtain⟨j,h2,h3⟩:=HP f hl i (by omega) f.ai[i]!;unfold BQ jX;simp only[zi,aj.eta,Fh,Ep,h2,Ey f.ah hv];grind
def RV(f:bB)(hv:de f.ah)(hl:yz f.ai<=1000000):∃i:Nat,OZ ⟨0,f⟩=Q ⟨(i:Int),f⟩/\((i=yz f.ai/\eE (jX f) f.ai 0=0)\/(i<yz f.ai/\jX f i f.ai[i]!≠0/\eE (jX f) f.ai 0=jX f i f.ai[i]!)):=
 C3 (rnd:=BQ) f.ai (λi=>⟨(i:Int),f⟩) (jX f) (λi hi=>ad4 f hv hl i hi) (by unfold BQ;simp)
def rY{f:bB}{i:Nat}(hi:i<yz f.ai):jd ((f.ai.take i).map (·.aB))+nT f.ai[i]!.aB<=jd (f.ai.map (·.aB)):=by
 have h:=BF (f.ai.map (·.aB)) (i+1);rw[<-xI,bQ hi,zK,uU]at h
 assumption
def akM(f:bB)(h:gi f.bR+jd (f.ai.map (·.aB))<=900)(hl:yz f.ai<=1000000):m50 f=Q (sY f):=by
 unfold m50 sY;by_cases h1:64<(yz f.ah:Int)
 ·grind
 by_cases h2:8<(yz f.ai:Int)
 ·grind
 rw[dw h1,dw h2,iN (show yz f.ah<=64 by omega),iN (show yz f.ai<=8 by omega)];dsimp only[cL,dh];have hb:=vb f.bR;rw[abd f.bR (by omega)];obtain⟨i,b,e1,hI,hc⟩:=AB (rnd:=DI) (yz f.ai) (λi (b:Int)=>⟨b,(i:Int),f⟩) (λi b=>(0<=b/\b<=gi f.bR+jd ((f.ai.take i).map (·.aB)))/\∀j,j<i->dT f.ai[j]!.aB<=12) (λi _=>12<dT f.ai[i]!.aB) (λi b hi hI=>by
  have hn:=rY hi;have hw:=iF hi hl;have k1:=Eo f.ai[i]!.aB (by omega);have k2:=Eg f.ai[i]!.aB (by omega);have hi1:(i:Int)<(yz f.ai:Int):=by omega
  have hi0:(0:Int)<=(i:Int):=by omega
  by_cases hd:12<dT f.ai[i]!.aB
  ·refine .inr ⟨?_,hd⟩;unfold DI;simp only[zi,aj.eta,k1,k2,hi1,hi0,fO,dh,gd,dU,hd]
  ·refine .inl ⟨b+nT f.ai[i]!.aB,?_,⟨by omega,?_⟩,λj hj=> ?_⟩
   ·have hw2:i64.wrap (b+(nT f.ai[i]!.aB:Int))=b+nT f.ai[i]!.aB:=aJ (by omega) (by omega);unfold DI;simp only[zi,aj.eta,k1,k2,hi1,hi0,fO,dh,gd,dU,hd,jk,cL,hw,hw2]
   ·rw[bQ hi,zK,uU];simp only[zO,yU,mI];omega
   ·rcases Nat.lt_succ_iff_lt_or_eq.1 hj with h|h
    ·exact hI.2 j h
    ·subst h;omega) (λb _=>by unfold DI;simp) (b:=fI f.bR) ⟨⟨by omega,by simp only[List.take_zero,yU,show jd []=0 from rfl];omega⟩,λj hj=>gI hj (by omega)⟩
 have e1':OH ⟨fI f.bR,0,f⟩=Q ⟨b,(i:Int),f⟩:=e1;dsimp only;rw[e1'];dsimp only;rcases hc with rfl|⟨hi,hd⟩
 ·rw[dw (show ¬((yz f.ai:Int)<(yz f.ai:Int))by omega),cL];have ha:f.ai.all (λh=>Z (dT h.aB<=12))=O:=wZ λj hj=>by simpa using hI.2 j hj
  have hn:=hI.1.2;rw[yp]at hn;rw[ha,iN (show b<=1024 by omega),dh,abb f.bR (by omega),ZG f.bR (by omega)];by_cases h5:gZ f.bR<=12
  ·cases eH f.bR<;>simp[h5]
  ·simp[h5]
 ·have hn:=rY hi;have k1:=Eo f.ai[i]!.aB (by omega);have k2:=Eg f.ai[i]!.aB (by omega);have hi1:(i:Int)<(yz f.ai:Int):=by omega
  have hi0:(0:Int)<=(i:Int):=by omega
  have ha:f.ai.all (λh=>Z (dT h.aB<=12))=V:=qh hi (by simpa using hd);simp only[zi,aj.eta,k1,k2,hi1,hi0,fO,dh,gd,dU,hd,ha,Bool.and_false,Bool.false_and]
def apD(M:aa ax->Int->aP->af Ir)(l:aa ax)(hM:∀s∈l,∀(d:Int) (b:aP),0<=d->d<=13->0<=b.az->(b.az+gi s.aU<=1000->M s.aU d b=Q (kN d s.aU b))/\(b.az+gi s.aV<=1000->M s.aV d b=Q (kN d s.aV b)))(d:Int)(b:aP)(h0:0<=d)(hd:d<=13)(h1:0<=b.az)(h2:b.az+gi l<=1000):s95 M l d b=Q (kN d l b):=by
 have hL:=ji l;have hw1:i64.wrap (d+1)=d+1:=aJ (by omega) (by omega);have hgo:∀(l:aa ax) (i:Nat) (b:aP),Kc (λ_ (b:aP) (s:ax)=>if eT (cO d b)=O then(.inr (cO d b):aP ⊕ aP)else .inl (kN (d+1) s.aV (kN (d+1) s.aU (rM s.aB 1 (cO d b))))) id id l i b=kN d l b:=by
  intro l;induction l with
  |nil=>intro i b;rw[kN];rfl
  |cons s l ih=>
   intro i b;rw[kN];by_cases ho:eT (cO d b)=O
   ·rw[bS ho,lJ (r:=cO d b) (by rw[bS ho])];rfl
   ·rw[bT ho,nG (b':=kN (d+1) s.aV (kN (d+1) s.aU (rM s.aB 1 (cO d b)))) (by rw[bT ho])];exact ih (i+1) _
 have hm:∀(b:aP) (x:Bool),-1000000<=b.az->b.az<=1000000->x=(b.eS||Z (12<d))->rL ⟨i64.wrap (b.az+1),x⟩=(eT (cO d b),cO d b):=λb x b1 b2 hx=>by
  rw[AY,aJ (by omega) (by omega),hx];rfl
 have hs:∀(i:Nat) (b:aP),i<yz l->0<=b.az->b.az+nS l[i]!<=1000->eT (cO d b)=V->d<=12/\YF l[i]!.aB 1 (cO d b)=Q (rM l[i]!.aB 1 (cO d b))/\M l[i]!.aU (d+1) (rM l[i]!.aB 1 (cO d b))=Q (kN (d+1) l[i]!.aU (rM l[i]!.aB 1 (cO d b)))/\M l[i]!.aV (d+1) (kN (d+1) l[i]!.aU (rM l[i]!.aB 1 (cO d b)))=Q (kN (d+1) l[i]!.aV (kN (d+1) l[i]!.aU (rM l[i]!.aB 1 (cO d b))))/\0<=(kN (d+1) l[i]!.aV (kN (d+1) l[i]!.aU (rM l[i]!.aB 1 (cO d b)))).az/\(kN (d+1) l[i]!.aV (kN (d+1) l[i]!.aU (rM l[i]!.aB 1 (cO d b)))).az<=b.az+nS l[i]! :=λi b hi b1 b2 ho=>by
  have hd2:d<=12:=by unfold eT cO at ho;grind
  have hN:=mh l[i]!;have hp:(cO d b).az=b.az+1:=rfl;obtain⟨a1,a2,a3⟩:=FK l[i]!.aB 1 (cO d b) (by omega) (by omega) (by omega);obtain⟨c1,c2,c3⟩:=Mn (d+1) l[i]!.aU (rM l[i]!.aB 1 (cO d b)) (by omega) (by omega) (by omega) (by omega);obtain⟨g1,g2,g3⟩:=Mn (d+1) l[i]!.aV (kN (d+1) l[i]!.aU (rM l[i]!.aB 1 (cO d b))) (by omega) (by omega) (by omega) (by omega);exact⟨hd2,Vh _ 1 _ (by omega) (by omega) (by omega) (by omega),(hM _ (bD hi) (d+1) _ (by omega) (by omega) (by omega)).1 (by omega),(hM _ (bD hi) (d+1) _ (by omega) (by omega) (by omega)).2 (by omega),by omega,by omega⟩
 obtain⟨i,v,e1,hI,hc⟩:=M5 (rnd:=Dw M) l (λi (b:aP)=>⟨d,l,(yz l:Int),(i:Int),b⟩) (λ_ (b:aP) (s:ax)=>if eT (cO d b)=O then(.inr (cO d b):aP ⊕ aP)else .inl (kN (d+1) s.aV (kN (d+1) s.aU (rM s.aB 1 (cO d b))))) id id (λi x=>0<=x.az/\x.az<=b.az+gi (l.take i)) (λi x hi hx=>by
   have hn:=Av hi;have hw:=iF hi (by omega);have hi1:(i:Int)<(yz l:Int):=by omega
   have hi0:(0:Int)<=(i:Int):=by omega
   have hmx:=hm x;cases ho:eT (cO d x)with
   |true=>
    refine⟨λb' hb'=>by simp at hb',λr hr=> ?_⟩;unfold Dw;dsimp only;simp only[hi1];cases hb:x.eS with
    |true=>rw[hmx O (by omega) (by omega) (by rw[hb];rfl),ho];rfl
    |false=>rw[hmx (Z (12<d)) (by omega) (by omega) (by rw[hb];rfl),ho];rfl
   |false=>
    obtain⟨q0,q1,q2,q3,q4,q5⟩:=hs i x hi hx.1 (by omega) ho;refine⟨λb' hb'=> ?_,λr hr=>by simp at hr⟩;have hb':kN (d+1) l[i]!.aV (kN (d+1) l[i]!.aU (rM l[i]!.aB 1 (cO d x)))=b':=by simpa using hb'
    subst hb';refine⟨?_,⟨q4,by rw[bQ hi,Gl];omega⟩⟩;unfold Dw;dsimp only;simp only[zi,hi1,hi0,fO,gd,dU];cases hb:x.eS with
    |true=>rw[hmx O (by omega) (by omega) (by rw[hb];rfl),ho];simp only[aj.eta,q1,q2,q3,hw1,hw,dh,cL]
    |false=>rw[hmx (Z (12<d)) (by omega) (by omega) (by rw[hb];rfl),ho];simp only[aj.eta,q1,q2,q3,hw1,hw,dh,cL]) (λx _=>by unfold Dw;simp) (b:=b) ⟨h1,by simp[gi]⟩
 have e1':Oh M ⟨d,l,(yz l:Int),0,b⟩=Q ⟨d,l,(yz l:Int),(i:Int),v⟩:=e1;rw[hgo]at hc;unfold s95;rw[e1'];dsimp only;rcases hc with ⟨rfl,hc⟩|⟨hi,r,hr,hc⟩
 ·rw[hc,dw (by omega)];rfl
 ·have hn:=Av hi;have hi1:(i:Int)<(yz l:Int):=by omega
  have hi0:(0:Int)<=(i:Int):=by omega
  have ho:eT (cO d v)=O:=by
   by_cases ho:eT (cO d v)=O
   ·exact ho
   ·rw[bT ho]at hr;cases hr
  rw[bS ho]at hr;cases hr;rw[hc];have hmx:=hm v;simp only[zi,hi1,hi0,fO,dh,gd,dU];cases hb:v.eS with
  |true=>rw[hmx O (by omega) (by omega) (by rw[hb];rfl),ho];rfl
  |false=>rw[hmx (Z (12<d)) (by omega) (by omega) (by rw[hb];rfl),ho];rfl
def Mi:∀(n:Nat) (l:aa ax) (d:Int) (b:aP),zl l<n->0<=d->d<=13->0<=b.az->b.az+gi l<=1000->m95 n l d b=Q (kN d l b)
 |0,_,_,_,h,_,_,_,_=>by omega
 |n+1,l,d,b,h,h0,hd,h1,h2=>apD (m95 n) l (λs hs d b a1 a2 a3=>⟨λa4=>Mi n _ d b (by have:=bg hs;omega) a1 a2 a3 a4,λa4=>Mi n _ d b (by have:=bg hs;omega) a1 a2 a3 a4⟩) d b h0 hd h1 h2
def am1(l:aa ax)(d:Int)(b:aP)(h0:0<=d)(hd:d<=13)(h1:0<=b.az)(h2:b.az+gi l<=1000):r95 l d b=Q (kN d l b):=dg (zl l+1) λn hn=>Mi n l d b (by omega) h0 hd h1 h2
def aan(f:bB)(h:gi f.bR+jd (f.ai.map (·.aB))<=900)(hl:yz f.ai<=1000000):∃r q,r95 f.bR 1 ⟨0,V⟩=Q r/\Ga ⟨f.ai,(yz f.ai:Int),0,f,r⟩=Q ⟨f.ai,(yz f.ai:Int),(yz f.ai:Int),f,q⟩/\eT q= !(f.ai.all (λh=>Z (dT h.aB<=12))&&Z (gZ f.bR<=12)&& !eH f.bR):=by
 obtain⟨p1,p2,p3⟩:=Mn 1 f.bR ⟨0,V⟩ (by omega) (by omega) (zL 0) (by show (0:Int)+_<=_;omega);have p2:0<=(kN 1 f.bR ⟨0,V⟩).az:=p2;have p3:(kN 1 f.bR ⟨0,V⟩).az<=0+gi f.bR:=p3;refine⟨kN 1 f.bR ⟨0,V⟩,?_⟩;have p4:=am1 f.bR 1 ⟨0,V⟩ (by omega) (by omega) (zL 0) (by show (0:Int)+_<=_;omega);generalize kN 1 f.bR ⟨0,V⟩=r at*;obtain⟨q,e1,hI⟩:=dL (rnd:=Dd) (yz f.ai) (λi (q:aP)=>⟨f.ai,(yz f.ai:Int),(i:Int),f,q⟩) (λi q=>q.eS=(r.eS||(f.ai.take i).any λh=>Z (12<dT h.aB))/\0<=q.az/\q.az<=r.az+jd ((f.ai.take i).map (·.aB))) (λi q hi hI=>by
  have hn:=rY hi;have hw:=iF hi hl;have hi1:(i:Int)<(yz f.ai:Int):=by omega
  have hi0:(0:Int)<=(i:Int):=by omega
  have hn2:jd ((f.ai.take (i+1)).map (·.aB))=jd ((f.ai.take i).map (·.aB))+nT f.ai[i]!.aB:=by
   rw[bQ hi,zK,uU];rfl
  have ha:((f.ai.take (i+1)).any λh=>Z (12<dT h.aB))=(((f.ai.take i).any λh=>Z (12<dT h.aB))||Z (12<dT f.ai[i]!.aB)):=by
   rw[bQ hi,List.any_append,List.any_cons,List.any_nil,Bool.or_false]
  rw[ha,hn2];obtain⟨q1,q2,q3⟩:=hI;cases ho:eT q with
  |true=>
   refine⟨q,?_,?_,q2,by omega⟩
   ·unfold Dd;dsimp only;simp only[hi1,hi0,fO,dh,cL,gd,dU,AY,ho,hw]
   ·unfold eT at ho;rw[dw (show ¬1024<q.az by omega),Bool.or_false]at ho;rw[<-Bool.or_assoc,<-q1,ho];rfl
  |false=>
   obtain⟨c1,c2,c3⟩:=FK f.ai[i]!.aB 1 q (by omega) q2 (by omega);have k:=Vh f.ai[i]!.aB 1 q (by omega) (by omega) q2 (by omega);refine⟨rM f.ai[i]!.aB 1 q,?_,?_,by omega,by omega⟩
   ·unfold Dd;dsimp only;simp only[zi,aj.eta,hi1,hi0,fO,dh,cL,gd,dU,AY,ho,hw,k]
   ·rw[c1,q1,Bool.or_assoc];rw[show Z (12<1-1+dT f.ai[i]!.aB)=Z (12<dT f.ai[i]!.aB)from decide_eq_decide.2 (by omega)]) (λq _=>by unfold Dd;simp) (b:=r) ⟨by simp,p2,by simp[jd]⟩
 have e1':Ga ⟨f.ai,(yz f.ai:Int),0,f,r⟩=Q ⟨f.ai,(yz f.ai:Int),(yz f.ai:Int),f,q⟩:=e1;refine⟨q,p4,e1',?_⟩;rw[yp]at hI;obtain⟨q1,q2,q3⟩:=hI;unfold eT;rw[dw (show ¬1024<q.az by omega),Bool.or_false,q1,p1];have e2:(f.ai.any λh=>Z (12<dT h.aB))= !(f.ai.all λh=>Z (dT h.aB<=12)):=by
  rw[List.not_all_eq_any_not]
  congr 1
  funext h
  by_cases hd:dT h.aB<=12
  ·simp[hd]
  ·simp[hd];omega
 have e3:Z (12<1-1+gZ f.bR)= !Z (gZ f.bR<=12):=by
  by_cases hd:gZ f.bR<=12
  ·simp[hd]
  ·simp[hd];omega
 rw[e2,e3];generalize (f.ai.all λh=>Z (dT h.aB<=12))=x;generalize Z (gZ f.bR<=12)=y;generalize eH f.bR=z;cases x<;>cases y<;>cases z<;>rfl
def tN:aa ax->Prop
 |[]=>True
 |s::l=>(0<=s.bN/\s.bN<=67108864)/\(s.cM=4->0<=s.fN/\s.fN<=4096)/\(s.cM≠3->s.cM≠4->s.aU=[])/\(s.cM≠3->s.aV=[])/\tN s.aU/\tN s.aV/\tN l
termination_by l=>zl l
decreasing_by
 ·exact(bg (zq ..)).1
 ·exact(bg (zq ..)).2
 ·exact eG _ _
def aof{s:ax}(h:uG s=O):(0<=s.bN/\s.bN<=67108864)/\(s.cM=4->0<=s.fN/\s.fN<=4096):=by
 unfold uG at h;grind
def BM(f:bB):∀(n:Nat) (l:aa ax) (top:Bool),zl l<n->cQ f top l=0->tN l
 |0,_,_,h,_=>by omega
 |n+1,[],top,h,hc=>by rw[tN];trivial
 |n+1,s::l,top,h,hc=>by
  rw[cQ]at hc;have hz:=bg (l:=s::l) (zq ..);have hz2:=eG s l;by_cases h1:qV f (top&&l.isEmpty) s≠0
  ·omega
  rw[bT h1]at hc;by_cases h2:cQ f V s.aU≠0
  ·omega
  rw[bT h2]at hc;by_cases h3:cQ f V s.aV≠0
  ·omega
  rw[bT h3]at hc;have q1:=BM f n s.aU V (by omega) (by omega);have q2:=BM f n s.aV V (by omega) (by omega);have q3:=BM f n l top (by omega) hc;unfold qV at h1;cases hS:dx f s (top&&l.isEmpty)with
  |false=>rw[hS]at h1;simp at h1
  |true=>
   rw[hS]at h1;cases hN:uG s with
   |false=>rw[hN]at h1;simp at h1
   |true=>
    obtain⟨n1,n2⟩:=aof hN;obtain⟨b1,b2,b3,b4,b5⟩:=gP hS;rw[tN];simp_all
def CM(s:ax)(a b:Int×Int×Int):Int×Int×Int:=
 if s.cM=1 then(1,1,s.bN)
 else if s.cM=3 then(1+max a.1 b.1,max a.2.1 b.2.1,s.bN+max a.2.2 b.2.2)
 else if s.cM=4 then(1+s.fN*(1+a.1),s.fN*a.2.1,s.fN*(s.bN+a.2.2))
 else(1,0,s.bN)
def GX(a b:Int×Int×Int):Int×Int×Int:=(a.1+b.1,a.2.1+b.2.1,a.2.2+b.2.2)
def qu(s:ax)(l:aa ax):iD (s::l)=GX (CM s (iD s.aU) (iD s.aV)) (iD l):=by
 rw[iD];unfold CM GX;grind
def Gi(l:aa ax)(s:ax):iD (l++[s])=GX (iD l) (CM s (iD s.aU) (iD s.aV)):=by
 have h0:iD []=(0,0,0):=by rw[iD]
 induction l with
 |nil=>rw[yR,qu,h0];unfold GX;simp
 |cons a l ih=>
  rw[yZ,qu,qu,ih];unfold GX;grind
def nZ(c:Int×Int×Int)(a:Int×Int×Int):Int×Int×Int:=(min a.1 c.1,min a.2.1 c.2.1,min a.2.2 c.2.2)
def YL{n x c k:Int}(hn:0<=n)(hk:0<=k)(hx:0<=x)(hc:0<=c):min (n*(k+min x c)) c=min (n*(k+x)) c:=by
 by_cases h:x<=c
 ·grind
 ·rw[Int.min_eq_right (show c<=x by omega)];by_cases h0:n=0
  ·simp_all
  ·have e1:1*(k+c)<=n*(k+c):=xD (by omega) (by omega);have e2:1*(k+x)<=n*(k+x):=xD (by omega) (by omega);omega
def lM:∀{l:aa ax},tN l->∀s∈l,(0<=s.bN/\s.bN<=67108864)/\(s.cM=4->0<=s.fN/\s.fN<=4096)/\(s.cM≠3->s.cM≠4->s.aU=[])/\(s.cM≠3->s.aV=[])/\tN s.aU/\tN s.aV
 |[],_,s,hs=>by cases hs
 |a::l,h,s,hs=>by
  rw[tN]at h;rcases zu.1 hs with rfl|hs
  ·simp_all
  ·exact lM h.2.2.2.2.2.2 s hs
def nn3(a:Int×Int×Int):Prop:=0<=a.1/\0<=a.2.1/\0<=a.2.2
def aqa{s:ax}{a b:Int×Int×Int}(hc:0<=s.bN)(hN:s.cM=4->0<=s.fN)(ha:nn3 a)(hb:nn3 b):nn3 (CM s a b):=by
 unfold nn3 at*;unfold CM;split
 ·simp_all
 ·split
  ·grind
  ·split
   ·rename_i h4;have:=hN h4;have e1:0<=s.fN*(1+a.1):=yQ this (by omega);have e2:0<=s.fN*a.2.1:=yQ this (by omega);have e3:0<=s.fN*(s.bN+a.2.2):=yQ this (by omega);dsimp only;omega
   ·simp_all
def FN:∀(n:Nat) (l:aa ax),zl l<n->tN l->nn3 (iD l)
 |0,_,h,_=>by omega
 |n+1,[],h,_=>by rw[show iD []=(0,0,0)by rw[iD]];exact⟨by decide,by decide,by decide⟩
 |n+1,s::l,h,ho=>by
  have hz:=bg (l:=s::l) (zq ..);have hz2:=eG s l;rw[tN]at ho;have q1:=FN n s.aU (by omega) ho.2.2.2.2.1;have q2:=FN n s.aV (by omega) ho.2.2.2.2.2.1;have q3:=FN n l (by omega) ho.2.2.2.2.2.2;have q4:=aqa ho.1.1 (λh=>(ho.2.1 h).1) q1 q2;rw[qu];unfold nn3 GX at*;grind
def nM{l:aa ax}(h:tN l):nn3 (iD l):=FN _ l (z7 _) h
def Ar:∀{l:aa ax} (i:Nat),tN l->tN (l.take i)
 |[],i,h=>by rw[List.take_nil];exact h
 |s::l,0,h=>by rw[List.take_zero,tN];trivial
 |s::l,i+1,h=>by
  rw[tN]at h;rw[List.take_succ_cons,tN];exact⟨h.1,h.2.1,h.2.2.1,h.2.2.2.1,h.2.2.2.2.1,h.2.2.2.2.2.1,Ar i h.2.2.2.2.2.2⟩
def M3(a:Int×Int×Int):me:=⟨a.1,a.2.1,a.2.2⟩
def K2:Int×Int×Int:=(1099511627776,1099511627776,1099511627776)
def ES:Int×Int×Int:=(4097,9,67108865)
def afU{n x:Int}(h1:0<=n)(h2:n<=4096)(h3:0<=x)(h4:x<=1200000000000):0<=n*x/\n*x<=4915200000000000:=by
 have e1:n*x<=4096*x:=xD h2 h3;have e2:0<=n*x:=yQ h1 h3;omega
def iE(w c:Int):(if c<w then c else w)=min w c:=by omega
def alC(w c:Int):(if w<c then w else c)=min w c:=by omega
def KS(a b c:Int):(if min a c<min b c then min b c else min a c)=min (max a b) c:=by omega
def afb(a b c:Int):(if min b c<min a c then min a c else min b c)=min (max a b) c:=by omega
section
variable {C x y m k n a:Int} (h0:0<=C) (h1:C<=1099511627776) (hx:0<=x)
include h0 h1 hx
theorem LQ(hy:0<=y)(hy2:y<=67108864):min (i64.wrap (min x C+y)) C=min (x+y) C:=by
 rw[aJ (by omega) (by omega)];omega
theorem RG(hm:0<=m)(hk:0<=k)(hk2:k<=67108864):min (i64.wrap (min x C+i64.wrap (k+min m C))) C=min (x+(k+m)) C:=by
 have:i64.wrap (k+min m C)=k+min m C:=aJ (by omega) (by omega);rw[this,aJ (by omega) (by omega)];omega
theorem agu(hm:0<=m):min (i64.wrap (min x C+min m C)) C=min (x+m) C:=by
 rw[aJ (by omega) (by omega)];omega
theorem apQ{z:Int}(hz:0<=z)(hy:0<=y)(hy2:y<=4915200000000001)(h:min y C=min z C):min (i64.wrap (min x C+y)) C=min (x+z) C:=by
 rw[aJ (by omega) (by omega)];omega
omit hx in
theorem Wk(hn:0<=n)(hn2:n<=4096)(ha:0<=a)(hk:0<=k)(hk2:k<=67108864):i64.wrap (n*i64.wrap (k+min a C))=n*(k+min a C)/\0<=n*(k+min a C)/\n*(k+min a C)<=4915200000000000/\0<=n*(k+a)/\min (n*(k+min a C)) C=min (n*(k+a)) C:=by
 have e1:i64.wrap (k+min a C)=k+min a C:=aJ (by omega) (by omega);have e2:=afU (x:=k+min a C) hn hn2 (by omega) (by omega);rw[e1];exact⟨aJ (by omega) (by omega),e2.1,e2.2,yQ hn (by omega),YL hn hk ha h0⟩
theorem asJ(hn:0<=n)(hn2:n<=4096)(ha:0<=a)(hk:0<=k)(hk2:k<=67108864):min (i64.wrap (min x C+i64.wrap (n*i64.wrap (k+min a C)))) C=min (x+n*(k+a)) C:=by
 obtain⟨q1,q2,q3,q4,q5⟩:=Wk h0 h1 hn hn2 ha hk hk2;rw[q1];exact apQ h0 h1 hx q4 q2 (by omega) q5
theorem aiI(hn:0<=n)(hn2:n<=4096)(ha:0<=a):min (i64.wrap (min x C+i64.wrap (1+i64.wrap (n*i64.wrap (1+min a C))))) C=min (x+(1+n*(1+a))) C:=by
 obtain⟨q1,q2,q3,q4,q5⟩:=Wk (k:=1) h0 h1 hn hn2 ha (by omega) (by omega);rw[q1];generalize n*(1+min a C)=y at*;rw[show i64.wrap (1+y)=1+y from aJ (by omega) (by omega)];exact apQ h0 h1 hx (by omega) (by omega) (by omega) (by omega)
theorem ag9(hn:0<=n)(hn2:n<=4096)(ha:0<=a):min (i64.wrap (min x C+i64.wrap (n*min a C))) C=min (x+n*a) C:=by
 obtain⟨q1,q2,q3,q4,q5⟩:=Wk (k:=0) h0 h1 hn hn2 ha (by omega) (by omega);rw[Int.zero_add]at q2 q3 q4 q5;rw[Int.zero_add]at q5;rw[show i64.wrap (n*min a C)=n*min a C from aJ (by omega) (by omega)];exact apQ h0 h1 hx q4 q2 (by omega) q5
end
def Y9(M:aa ax->af nB)(l:aa ax)(hl:yz l<=1000000)(ho:tN l)(hM:∀s∈l,M s.aU=Q (M3 (nZ K2 (iD s.aU)))/\M s.aV=Q (M3 (nZ K2 (iD s.aV)))):ZO M l=Q (M3 (nZ K2 (iD l))):=by
 obtain⟨v,e1,hv⟩:=dL (rnd:=Bc M) (yz l) (λi (b:me)=>⟨l,(yz l:Int),(i:Int),⟨0,0,0⟩,b⟩) (λi b=>b=M3 (nZ K2 (iD (l.take i)))) (λi bb hi hb=>by
  have hw:=iF hi hl;obtain⟨k1,k2⟩:=hM _ (bD hi);obtain⟨⟨c1,c2⟩,hN,_,_,o1,o2⟩:=lM ho _ (bD hi);obtain⟨x1,x2,x3⟩:=nM (Ar i ho);obtain⟨a1,a2,a3⟩:=nM o1;obtain⟨b1,b2,b3⟩:=nM o2;refine⟨M3 (nZ K2 (iD (l.take (i+1)))),?_,rfl⟩;have hi1:(i:Int)<(yz l:Int):=by omega
  have hi0:(0:Int)<=(i:Int):=by omega
  rw[bQ hi,Gi];generalize iD (l.take i)=x at*;generalize iD l[i]!.aU=a at*;generalize iD l[i]!.aV=b at*;obtain⟨X1,X2,X3⟩:=x;obtain⟨A1,A2,A3⟩:=a;obtain⟨B1,B2,B3⟩:=b;have hb:bb=⟨min X1 1099511627776,min X2 1099511627776,min X3 1099511627776⟩:=hb;have k1:M l[i]!.aU=Q ⟨min A1 1099511627776,min A2 1099511627776,min A3 1099511627776⟩:=k1;have k2:M l[i]!.aV=Q ⟨min B1 1099511627776,min B2 1099511627776,min B3 1099511627776⟩:=k2;subst hb;have z0:(0:Int)<=1099511627776:=by decide
  have z1:(1099511627776:Int)<=1099511627776:=by decide
  dsimp only at x1 x2 x3 a1 a2 a3 b1 b2 b3;unfold Bc;simp only[zi,hi1,k1,k2,hw];by_cases h1:l[i]!.cM=1
  ·have e:CM l[i]! (A1,A2,A3) (B1,B2,B3)=(1,1,l[i]!.bN):=by unfold CM;rw[bS h1]
   rw[iN h1,dh,e,iE,iE,iE,LQ z0 z1 x1 (by omega) (by omega),LQ z0 z1 x2 (by omega) (by omega),LQ z0 z1 x3 c1 c2];rfl
  ·rw[dw h1,cL];by_cases h3:l[i]!.cM=3
   ·have e:CM l[i]! (A1,A2,A3) (B1,B2,B3)=(1+max A1 B1,max A2 B2,l[i]!.bN+max A3 B3):=by unfold CM;rw[bT h1,bS h3]
    rw[iN h3,dh,e,KS,KS,KS,iE,iE,iE,RG z0 z1 x1 (by omega) (by omega) (by omega),agu z0 z1 x2 (by omega),RG z0 z1 x3 (by omega) c1 c2];rfl
   ·rw[dw h3,cL];by_cases h4:l[i]!.cM=4
    ·obtain⟨n1,n2⟩:=hN h4;have e:CM l[i]! (A1,A2,A3) (B1,B2,B3)=(1+l[i]!.fN*(1+A1),l[i]!.fN*A2,l[i]!.fN*(l[i]!.bN+A3)):=by unfold CM;rw[bT h1,bT h3,bS h4]
     rw[iN h4,dh,e,iE,iE,iE,aiI z0 z1 x1 n1 n2 a1,ag9 z0 z1 x2 n1 n2 a2,asJ z0 z1 x3 n1 n2 a3 c1 c2];rfl
    ·have e:CM l[i]! (A1,A2,A3) (B1,B2,B3)=(1,0,l[i]!.bN):=by unfold CM;rw[bT h1,bT h3,bT h4]
     rw[dw h4,cL,e,iE,iE,iE,LQ z0 z1 x1 (by omega) (by omega),LQ z0 z1 x2 (by omega) (by omega),LQ z0 z1 x3 c1 c2];rfl) (λb _=>by unfold Bc;simp) (b:=⟨0,0,0⟩) (by rw[List.take_zero,show iD []=(0,0,0)by rw[iD]];rfl)
 have e1':Ei M ⟨l,(yz l:Int),0,⟨0,0,0⟩,⟨0,0,0⟩⟩=Q ⟨l,(yz l:Int),(yz l:Int),⟨0,0,0⟩,v⟩:=e1;unfold ZO;simp_all
def FW:∀(n:Nat) (l:aa ax),zl l<n->gi l<=1000->tN l->KI n l=Q (M3 (nZ K2 (iD l)))
 |0,_,h,_,_=>by omega
 |n+1,l,h,h2,ho=>Y9 (KI n) l (by have:=ji l;omega) ho (λs hs=>⟨FW n _ (by have:=bg hs;omega) (by have:=fq hs;omega) (lM ho s hs).2.2.2.2.1,FW n _ (by have:=bg hs;omega) (by have:=fq hs;omega) (lM ho s hs).2.2.2.2.2⟩)
def Zy(l:aa ax)(h:gi l<=1000)(ho:tN l):T2 l=Q (M3 (nZ K2 (iD l))):=dg (zl l+1) λn hn=>FW n l (by omega) h ho
def an6(M:aa ax->af IY)(l:aa ax)(hl:yz l<=1000000)(ho:tN l)(hM:∀s∈l,M s.aU=Q (nZ ES (iD s.aU))/\M s.aV=Q (nZ ES (iD s.aV))):s56 M l=Q (nZ ES (iD l)):=by
 obtain⟨v,e1,hv⟩:=dL (rnd:=Gt M) (yz l) (λi (b:Int×Int×Int)=>⟨l,b.1,b.2.1,b.2.2,(i:Int)⟩) (λi b=>b=nZ ES (iD (l.take i))) (λi bb hi hb=>by
  have hw:=iF hi hl;obtain⟨k1,k2⟩:=hM _ (bD hi);obtain⟨⟨c1,c2⟩,hN,hT,hE,o1,o2⟩:=lM ho _ (bD hi);obtain⟨x1,x2,x3⟩:=nM (Ar i ho);obtain⟨a1,a2,a3⟩:=nM o1;obtain⟨b1,b2,b3⟩:=nM o2;have zT:l[i]!.cM≠3->l[i]!.cM≠4->iD l[i]!.aU=(0,0,0):=λh3 h4=>by rw[hT h3 h4,iD]
  have zE:l[i]!.cM≠3->iD l[i]!.aV=(0,0,0):=λh3=>by rw[hE h3,iD]
  refine⟨nZ ES (iD (l.take (i+1))),?_,rfl⟩;have hi1:(i:Int)<(yz l:Int):=by omega
  have hi0:(0:Int)<=(i:Int):=by omega
  rw[bQ hi,Gi];generalize iD (l.take i)=x at*;generalize iD l[i]!.aU=a at*;generalize iD l[i]!.aV=b at*;obtain⟨X1,X2,X3⟩:=x;obtain⟨A1,A2,A3⟩:=a;obtain⟨B1,B2,B3⟩:=b;have hb:bb=(min X1 4097,min X2 9,min X3 67108865):=hb;have k1:M l[i]!.aU=Q (min A1 4097,min A2 9,min A3 67108865):=k1;have k2:M l[i]!.aV=Q (min B1 4097,min B2 9,min B3 67108865):=k2;subst hb;have z0:(0:Int)<=4097:=by decide
  have z1:(4097:Int)<=1099511627776:=by decide
  have y0:(0:Int)<=9:=by decide
  have y1:(9:Int)<=1099511627776:=by decide
  have u0:(0:Int)<=67108865:=by decide
  have u1:(67108865:Int)<=1099511627776:=by decide
  dsimp only at x1 x2 x3 a1 a2 a3 b1 b2 b3;unfold Gt;simp only[zi,hi1,hi0,fO,dh,gd,dU,k1,k2,hw,nL,lu,alC,afb];by_cases h4:l[i]!.cM=4
  ·obtain⟨n1,n2⟩:=hN h4;have h1:¬l[i]!.cM=1:=by omega
   have h3:¬l[i]!.cM=3:=by omega
   have e:CM l[i]! (A1,A2,A3) (B1,B2,B3)=(1+l[i]!.fN*(1+A1),l[i]!.fN*A2,l[i]!.fN*(l[i]!.bN+A3)):=by unfold CM;rw[bT h1,bT h3,bS h4]
   rw[iN h4,dw h1,dh,cL,e,aiI z0 z1 x1 n1 n2 a1,ag9 y0 y1 x2 n1 n2 a2,asJ u0 u1 x3 n1 n2 a3 c1 c2];rfl
  ·rw[dw h4,cL];by_cases h1:l[i]!.cM=1
   ·have h3:¬l[i]!.cM=3:=by omega
    have ea:=zT h3 h4;have eb:=zE h3;cases ea;cases eb;have e:CM l[i]! (0,0,0) (0,0,0)=(1,1,l[i]!.bN):=by unfold CM;rw[bS h1]
    rw[iN h1,dh,e,RG z0 z1 x1 (by omega) (by omega) (by omega),LQ y0 y1 x2 (by omega) (by omega),RG u0 u1 x3 (by omega) c1 c2];simp only[nZ,ES,GX,Int.max_self,Int.add_zero]
   ·rw[dw h1,cL,RG z0 z1 x1 (by omega) (by omega) (by omega),agu y0 y1 x2 (by omega),RG u0 u1 x3 (by omega) c1 c2];by_cases h3:l[i]!.cM=3
    ·have e:CM l[i]! (A1,A2,A3) (B1,B2,B3)=(1+max A1 B1,max A2 B2,l[i]!.bN+max A3 B3):=by unfold CM;rw[bT h1,bS h3]
     rw[e];rfl
    ·have ea:=zT h3 h4;have eb:=zE h3;cases ea;cases eb;have e:CM l[i]! (0,0,0) (0,0,0)=(1,0,l[i]!.bN):=by unfold CM;rw[bT h1,bT h3,bT h4]
     rw[e];simp only[nZ,ES,GX,Int.max_self,Int.add_zero]) (λb _=>by unfold Gt;simp) (b:=(0,0,0)) (by rw[List.take_zero,show iD []=(0,0,0)by rw[iD]];rfl)
 have e1':MK M ⟨l,0,0,0,0⟩=Q ⟨l,v.1,v.2.1,v.2.2,(yz l:Int)⟩:=e1;unfold s56;rw[e1'];rw[hv];simp
def LD:∀(n:Nat) (l:aa ax),zl l<n->gi l<=1000->tN l->m56 n l=Q (nZ ES (iD l))
 |0,_,h,_,_=>by omega
 |n+1,l,h,h2,ho=>an6 (m56 n) l (by have:=ji l;omega) ho (λs hs=>⟨LD n _ (by have:=bg hs;omega) (by have:=fq hs;omega) (lM ho s hs).2.2.2.2.1,LD n _ (by have:=bg hs;omega) (by have:=fq hs;omega) (lM ho s hs).2.2.2.2.2⟩)
def al7(l:aa ax)(h:gi l<=1000)(ho:tN l):r56 l=Q (nZ ES (iD l)):=dg (zl l+1) λn hn=>LD n l (by omega) h ho
def amA(f:bB)(h:gi f.bR+jd (f.ai.map (·.aB))<=900)(hh:yz f.ai<=1000000)(hvl:yz f.ah<=1000000):m48 f=Q (RI f):=by
 obtain⟨r,q,e1,e2,e3⟩:=aan f h hh;unfold m48 RI;rw[e1];dsimp only;rw[e2];dsimp only;rw[dw (show ¬((yz f.ai:Int)<(yz f.ai:Int))by omega),cL,AY,e3];unfold sY;generalize (f.ai.all λh=>Z (dT h.aB<=12))=x;generalize Z (gZ f.bR<=12)=y;generalize eH f.bR=z;by_cases h1:64<(yz f.ah:Int)
 ·grind
 by_cases h2:8<(yz f.ai:Int)
 ·grind
 rw[dw h1,dw h2,iN (show yz f.ah<=64 by omega),iN (show yz f.ai<=8 by omega)];simp only[Bool.true_and];cases hx:(x&&y&& !z)with
 |false=>rfl
 |true=>
  rw[aki f.ah hvl];dsimp only[Bool.not_true,cL];rw[bT (by decide)];by_cases hvc:lQ f.ah=0
  case neg=>simp[hvc]
  have hv:de f.ah:=by
   apply kJ;unfold lQ at hvc;by_cases h0:eE (od f.ah) f.ah 0=0
   ·exact h0
   ·rw[bS h0]at hvc;exact gI hvc h0
  rw[iN hvc,dh,cL,bT (by simpa using hvc),alD f hv hh];dsimp only;by_cases hhc:eE (jX f) f.ai 0=0
  case neg=>simp[hhc]
  rw[iN hhc,dh,cL,bT (by simpa using hhc),adu f hv f.bR O (by omega)];dsimp only;by_cases hsc:cQ f O f.bR=0
  case neg=>simp[hsc]
  have ho:tN f.bR:=BM f _ f.bR O (z7 _) hsc;rw[iN hsc,dh,cL,bT (by simpa using hsc)];have e:=Zy f.bR (by omega) ho;unfold TV;generalize iD f.bR=u at e ⊢;obtain⟨a,b,c⟩:=u;have e:T2 f.bR=Q ⟨min a 1099511627776,min b 1099511627776,min c 1099511627776⟩:=e;rw[e];by_cases a1:4096<a
  ·simp[a1,show 4096<min a 1099511627776 by omega]
  ·by_cases b1:8<b
   ·simp[b1,show 8<min b 1099511627776 by omega]
   ·by_cases d1:67108864<c
    ·simp[d1,show 67108864<min c 1099511627776 by omega]
    ·simp[a1,b1,d1,show ¬4096<min a 1099511627776 by omega,show ¬8<min b 1099511627776 by omega,show ¬67108864<min c 1099511627776 by omega]
def akJ(f:bB)(h:gi f.bR+jd (f.ai.map (·.aB))<=900)(hh:yz f.ai<=1000000)(hvl:yz f.ah<=1000000):m15 f=Q (RI f):=by
 unfold m15 RI;rw[akM f h hh];dsimp only;cases hx:sY f with
 |false=>rfl
 |true=>
  rw[anX f.ah hvl];dsimp only[dh,cL];rw[bT (by decide)];by_cases hvc:lQ f.ah=0
  case neg=>simp[hvc]
  have hv:de f.ah:=by
   apply kJ;unfold lQ at hvc;omega
  obtain⟨i,e1,hc⟩:=RV f hv hh;rw[iN hvc,dh,cL,bT (by simpa using hvc),e1];dsimp only;rcases hc with ⟨rfl,hc⟩|⟨hi,h0,hc⟩
  ·rw[bT (show ¬(eE (jX f) f.ai 0≠0)by rw[hc];simp),dw (show ¬((yz f.ai:Int)<(yz f.ai:Int))by omega),cL,ajU f hv f.bR O (by omega)];dsimp only;by_cases hsc:cQ f O f.bR=0
   case neg=>simp[hsc]
   have ho:tN f.bR:=BM f _ f.bR O (z7 _) hsc;rw[iN hsc,dh,cL,bT (show ¬(cQ f O f.bR≠0)by rw[hsc];simp)];have e:=al7 f.bR (by omega) ho;unfold TV;generalize iD f.bR=u at e ⊢;obtain⟨a,b,c⟩:=u;have e:r56 f.bR=Q (min a 4097,min b 9,min c 67108865):=e;rw[e];by_cases a1:4096<a
   ·simp[a1,show 4096<min a 4097 by omega]
   ·by_cases b1:8<b
    ·simp[b1,show 8<min b 9 by omega]
    ·by_cases d1:67108864<c
     ·simp[d1,show 67108864<min c 67108865 by omega]
     ·simp[a1,b1,d1,show ¬4096<min a 4097 by omega,show ¬8<min b 9 by omega,show ¬67108864<min c 67108865 by omega]
  ·obtain⟨j,h2,h3⟩:=HP f hh i (by omega) f.ai[i]!;rw[bS (show eE (jX f) f.ai 0≠0 by rw[hc];exact h0),hc];have hi1:(i:Int)<(yz f.ai:Int):=by omega
   have hi0:(0:Int)<=(i:Int):=by omega
   revert h0;unfold jX;simp only[zi,aj.eta,cG.eta,Fh,Ep,h2,Ey f.ah hv,hi1];generalize iy f.ai[i]!.fName=B;generalize ((f.ai.take i).any λw=>w.fName.toList==f.ai[i]!.fName.toList)=A at h3;generalize iC f.ai[i]!.aG f.ai[i]!.au=C;generalize lN f.ah O f.ai[i]!.aB=T;rcases h3 with ⟨rfl,rfl⟩|⟨hj,h4,rfl⟩
   ·cases B<;>cases C<;>by_cases hT:T=0<;>simp[hT]
   ·have hj1:(j:Int)<(i:Int):=by omega
    have hj2:(j:Int)<(yz f.ai:Int):=by omega
    have hj0:(0:Int)<=(j:Int):=by omega
    simp only[hj0,hj1,hj2,h4,gd,dU,fO,dh];cases B<;>simp
def VN{f:bB}(h:RI f=0):de f.ah:=by
 unfold RI at h;by_cases h1:sY f=V
 ·simp_all
 by_cases hvc:lQ f.ah=0
 ·apply kJ;unfold lQ at hvc;omega
 ·omega
def Mg{f:bB}(h:few f 20 200=O):gi f.bR+jd (f.ai.map (·.aB))<=900/\yz f.ai<=1000000/\yz f.ah<=20:=by
 unfold few at h;simp at h;omega
def TS{f:bB}(h:few f 20 200=O)(hc:RI f=0):Qt f.ah:=
 ⟨by have:=(Mg h).2.2;omega,λi hi=>by
  have:=VN hc _ (yJ hi)
  rwa [getElem!_pos f.ah i hi]⟩
def RO(n:Int)(b:Bool):Int:=2*n+(if b then 1 else 0)
def bv(l:aa Bool):Int:=l.foldl RO 0
def Ms:∀(l:aa Bool) (a:Int),0<=a->0<=l.foldl RO a/\l.foldl RO a<(a+1)*2^l.length
 |[],a,h=>by simp;omega
 |b::l,a,h=>by
  have hb:0<=RO a b/\RO a b+1<=(a+1)*2:=by unfold RO;split<;>omega
  obtain⟨h1,h2⟩:=Ms l (RO a b) hb.1;refine⟨h1,Int.lt_of_lt_of_le h2 ?_⟩;rw[yo,Int.pow_succ,Int.mul_comm ((2:Int)^l.length) 2,<-Int.mul_assoc];exact xD hb.2 (Int.pow_nonneg (by omega))
def ahz(l:aa Bool)(h:yz l<=24):0<=bv l/\bv l<16777216:=by
 obtain⟨h1,h2⟩:=Ms l 0 (zL _);have h3:(2:Int)^l.length<=2^24:=by exact_mod_cast xh (n:=2) (by omega) h
 simp only[Int.zero_add,Int.one_mul]at h2;exact⟨h1,by unfold bv;omega⟩
def MZ(l:aa Bool)(b:Bool):bv (l++[b])=RO (bv l) b:=by simp[bv,wD]
def ux(bits:aa Bool)(t:Slot):aa Bool:=(bits.drop t.cK.toNat).take t.cR.toNat
structure oa (vs:List aT) (n:Int) (t:Slot):Prop where
 v0:0<=t.bz
 v1:t.bz<(yz vs:Int)
 f0:0<=t.cK
 b0:0<=t.cR
 b1:t.cR<=24
 l:t.cK+t.cR<=n
def uJ{vs:aa aT}{bits:aa Bool}{t:Slot}(h:oa vs (yz bits) t):yz (ux bits t)=t.cR.toNat:=by
 have:=h.f0;have:=h.b0;have:=h.l
 unfold ux;simp;omega
def O6{bits:aa Bool}{t:Slot}{i:Nat}(h0:0<=t.cK)(h:i<t.cR.toNat):(ux bits t)[i]! =bits[(t.cK+(i:Int)).toNat]! :=by
 have:(t.cK+(i:Int)).toNat=t.cK.toNat+i:=by omega
 rw[this];unfold ux;simp[getElem!_def,yw,yC,h]
def Xo{vs:aa aT}(bits:aa Bool)(hb:yz bits<=1000)(o:aa Int)(is:Bool)(sl:aa Slot)(c d:Int)(f:bB)(t:Slot)(h:oa vs (yz bits) t):
  HE ⟨bits,o,is,0,sl,c,d,t.cR,0,f,t⟩=Q ⟨bits,o,is,bv (ux bits t),sl,c,d,t.cR,t.cR,f,t⟩:=by
 obtain⟨k,hk⟩:∃k:Nat,t.cR=(k:Int):=⟨t.cR.toNat,by have:=h.b0;omega⟩;have hl:=uJ h;have g1:=h.f0;have g2:=h.b1;have g3:=h.l
 obtain⟨v,q,hv⟩:=dL (rnd:=Ie) k (λi (z:Int)=>⟨bits,o,is,z,sl,c,d,(k:Int),(i:Int),f,t⟩) (λi z=>z=bv ((ux bits t).take i)) (λi z hi hz=>by
  have i1:(i:Int)<(k:Int):=by omega
  have w1:i64.wrap (t.cK+(i:Int))=t.cK+(i:Int):=aJ (by omega) (by omega);have w2:i64.wrap ((i:Int)+1)=((i+1:Nat):Int):=by rw[aJ (by omega) (by omega)];rfl
  have r1:0<=t.cK+(i:Int):=by omega
  have r2:t.cK+(i:Int)<(yz bits:Int):=by omega
  have zb:=ahz ((ux bits t).take i) (by rw[zM];omega);rw[<-hz]at zb;have w3:i64.wrap (2*z)=2*z:=aJ (by omega) (by omega);have w4:i64.wrap (2*z+1)=2*z+1:=aJ (by omega) (by omega);have e:=O6 (bits:=bits) (t:=t) (i:=i) g1 (by omega);refine⟨RO z bits[(t.cK+(i:Int)).toNat]!,?_,?_⟩
  ·unfold Ie;simp only[i1,fO,dh,w1,r1,r2,gd,dU,w2,w3,w4];unfold RO;cases bits[(t.cK+(i:Int)).toNat]! <;>simp
  ·rw[bQ (by omega),MZ,<-hz,e]) (λz _=>by unfold Ie;simp) (b:=0) rfl
 have hv:v=bv (ux bits t):=by
  rw[hv,yX (by omega)]
 rw[hk,<-hv];exact q
def slV(vs:aa aT)(bits:aa Bool)(t:Slot):Int:=vs[t.bz.toNat]!.aG+bv (ux bits t)
def oM(vs:aa aT)(bits:aa Bool)(t:Slot):Bool:= !Z (vs[t.bz.toNat]!.au<slV vs bits t)
def SK(f:bB)(h:Qt f.ah)(bits:aa Bool)(hb:yz bits<=1000)(sl:aa Slot)(hl:yz sl<=10000)(hs:∀t∈sl,oa f.ah (yz bits) t):
  OV ⟨bits,[],O,sl,(yz sl:Int),0,f⟩=Q ⟨bits,sl.map (slV f.ah bits),sl.all (oM f.ah bits),sl,(yz sl:Int),(yz sl:Int),f⟩:=by
 obtain⟨v,q,hv⟩:=dL (rnd:=H8) (yz sl) (λi (z:aa Int×Bool)=>⟨bits,z.1,z.2,sl,(yz sl:Int),(i:Int),f⟩) (λi z=>z=((sl.take i).map (slV f.ah bits),(sl.take i).all (oM f.ah bits))) (λi z hi hz=>by
  have i1:(i:Int)<(yz sl:Int):=by omega
  have i2:(0:Int)<=(i:Int):=by omega
  have w2:i64.wrap ((i:Int)+1)=((i+1:Nat):Int):=by rw[aJ (by omega) (by omega)];rfl
  have ht:=hs _ (bD hi);have l1:yz z.1<=10000:=by rw[hz];simp;omega
  have x1:=ht.v0;have x2:=ht.v1
  have hv:=h.2 (sl[i]!.bz.toNat) (by omega);have zb:=ahz (ux bits sl[i]!) (by rw[uJ ht];have:=ht.b1;omega);have w3:i64.wrap (f.ah[sl[i]!.bz.toNat]!.aG+bv (ux bits sl[i]!))=f.ah[sl[i]!.bz.toNat]!.aG+bv (ux bits sl[i]!):=aJ (by omega) (by omega);have l2:yz (z.1++[f.ah[sl[i]!.bz.toNat]!.aG+bv (ux bits sl[i]!)])<=1073741824:=by simp;omega
  refine⟨(z.1++[slV f.ah bits sl[i]!],z.2&&oM f.ah bits sl[i]!),?_,?_⟩
  ·unfold H8;simp only[i1,i2,fO,dh,zi,gd,dU,hi,Xo bits hb _ _ _ _ _ f _ ht,zJ,jk,cL,x1,x2,w3,l2,w2];unfold oM slV;by_cases hq:f.ah[sl[i]!.bz.toNat]!.au<f.ah[sl[i]!.bz.toNat]!.aG+bv (ux bits sl[i]!)<;>simp only[hq,fO,jk,dh,cL,Bool.not_true,Bool.not_false,Bool.and_false,Bool.and_true]
  ·rw[bQ hi,zK,List.all_append,hz];simp) (λz _=>by unfold H8;simp) (b:=([],O)) rfl
 have hv:v=(sl.map (slV f.ah bits),sl.all (oM f.ah bits)):=by rw[hv,yp]
 subst hv;exact q
def alT(f:bB)(h:Qt f.ah)(bits:aa Bool)(hb:yz bits<=1000)(hs:∀t∈(bZ f.ah).1,oa f.ah (yz bits) t):
  m19 f bits=Q ((bZ f.ah).1.map (slV f.ah bits),(bZ f.ah).1.all (oM f.ah bits)):=by
 unfold m19;have l:=(Lr f h).2.1;simp only[Uo f h,SK f h bits hb _ (by omega) hs,zJ,jk,cL]
def lT(vs:aa aT):aa Int->Int
 |[]=>0
 |i::l=>u9 vs[i.toNat]! +lT vs l
def Iw(vs:aa aT)(o:Int):aa Int->aa Slot
 |[]=>[]
 |i::l=>⟨i,o,u9 vs[i.toNat]!⟩::Iw vs (o+u9 vs[i.toNat]!) l
def PE(vs:aa aT):∀(ids:aa Int) (s:aa Slot×Int),ids.foldl (eB vs) s=(s.1++Iw vs s.2 ids,s.2+lT vs ids)
 |[],s=>by simp[Iw,lT]
 |i::l,s=>by
  rw[List.foldl_cons,PE vs l];simp[eB,Iw,lT,Int.add_assoc]
def QM(vs:aa aT):bZ vs=(Iw vs 0 (jQ vs 1)++Iw vs (lT vs (jQ vs 1)) (jQ vs 3),lT vs (jQ vs 1),lT vs (jQ vs 1)+lT vs (jQ vs 3)):=by
 unfold bZ;simp[PE]
def Xv{vs:aa aT}(h:Qt vs){x:Int}(h1:0<=x)(h2:x<(yz vs:Int)):0<=u9 vs[x.toNat]!/\u9 vs[x.toNat]!<=24:=(To h h1 h2).2
def rC{vs:aa aT}(h:Qt vs):∀(ids:aa Int),(∀x∈ids,0<=x/\x<(yz vs:Int))->0<=lT vs ids
 |[],_=>zL _
 |i::l,hi=>by
  have h1:=hi i (by simp);have h2:=Xv h h1.1 h1.2;have h3:=rC h l λx hx=>hi x (by simp[hx]);simp only[lT];omega
def D6{vs:aa aT}(h:Qt vs):∀(ids:aa Int) (o n:Int),(∀x∈ids,0<=x/\x<(yz vs:Int))->0<=o->o+lT vs ids<=n->∀t∈Iw vs o ids,oa vs n t/\t.bz∈ids
 |[],_,_,_,_,_,t,ht=>by simp[Iw]at ht
 |i::l,o,n,hi,ho,hn,t,ht=>by
  have h1:=hi i (by simp);have h2:=Xv h h1.1 h1.2;have hl:∀x∈l,0<=x/\x<(yz vs:Int):=λx hx=>hi x (by simp[hx]);have h3:=rC h l hl;simp only[lT]at hn;rcases zu.1 ht with rfl|ht
  ·exact⟨⟨h1.1,h1.2,ho,h2.1,h2.2,by simp only;omega⟩,by simp⟩
  ·obtain⟨q1,q2⟩:=D6 h l (o+u9 vs[i.toNat]!) n hl (by omega) (by omega) t ht;exact⟨q1,by simp[q2]⟩
def Dl{vs:aa aT}(h:Qt vs):∀t∈(bZ vs).1,oa vs (bZ vs).2.2 t:=by
 rw[QM];intro t ht;have k1:∀x∈jQ vs 1,0<=x/\x<(yz vs:Int):=λx hx=>⟨(jf hx).1,(jf hx).2.1⟩;have k3:∀x∈jQ vs 3,0<=x/\x<(yz vs:Int):=λx hx=>⟨(jf hx).1,(jf hx).2.1⟩;have t1:=rC h _ k1;have t3:=rC h _ k3;rcases zV.1 ht with ht|ht
 ·exact(D6 h _ 0 _ k1 (zL _) (by simp only;omega) t ht).1
 ·exact(D6 h _ _ _ k3 t1 (by simp only;omega) t ht).1
structure aEc where
 t6:List Int
 t25:List (List Int)
 (t26 t27:Int)
structure aER where
 t0:List (List Int)
 t3:Int
 t9:List (List Int)
 (t10 t11:Int)
structure aEb where
 t11:List Slot
 t14:List Bool
 (t16 t18:Int)
 t51:List Int
 (t52 t53:Int)
 b0:bB
 b3:Slot
structure aFy where
 t11:List Slot
 t14:List Bool
 t51:List Int
 (t52 t53:Int)
 b0:bB
def WW(l:aa Int)(hl:yz l<=1000000):m32 l l=Q O:=by
 obtain⟨v,q,_⟩:=dL (rnd:=JQ) (yz l) (λi (_:Unit)=>⟨l,l,(yz l:Int),(i:Int)⟩) (λ_ _=>True) (λi z hi _=>by
  have i1:(i:Int)<(yz l:Int):=by omega
  refine⟨(),?_,trivial⟩;unfold JQ;have e:i64.wrap ((i:Int)+1)=((i+1:Nat):Int):=by rw[aJ (by omega) (by omega)];rfl
  simp only[i1,fO,dh,cL,e,Int.natCast_nonneg,gd,dU]) (λz _=>by unfold JQ;simp) (b:=()) trivial
 unfold m32;have e:OI ⟨l,l,(yz l:Int),0⟩=Q ⟨l,l,(yz l:Int),(yz l:Int)⟩:=q;simp[e]
end Go.Proofs.YtghilkcphindjaaGreat
end
noncomputable section
namespace Go.Proofs.YtghilkcphindjaaGreat
open Go Go.Iv BT
def Cj(l:aa aF)(hl:yz l<=1000000):m59 l l=Q O:=by
 obtain⟨v,q,_⟩:=dL (rnd:=GI) (yz l) (λi (_:Unit)=>⟨l,l,(yz l:Int),(i:Int)⟩) (λ_ _=>True) (λi z hi _=>by
  have i1:(i:Int)<(yz l:Int):=by omega
  refine⟨(),?_,trivial⟩;unfold GI;have e:IntKind.i64.wrap ((i:Int)+1)=((i+1:Nat):Int):=by rw[aJ (by omega) (by omega)];rfl
  simp only[i1,fO,dh,cL,e,Int.natCast_nonneg,gd,dU]) (λz _=>by unfold GI;simp) (b:=()) trivial
 unfold m59;have e:Pm ⟨l,l,(yz l:Int),0⟩=Q ⟨l,l,(yz l:Int),(yz l:Int)⟩:=q;simp[e]
def ads{l:aa Int}(h:Asc l){i j:Nat}(hj:j<yz l)(hij:i<j):l[i]! <l[j]! :=by
 rw[getElem!_pos l i (by omega),getElem!_pos l j hj];exact List.pairwise_iff_getElem.1 h i j (by omega) hj hij
def KU{n:Int}{t:BT}{L:aa Int}(hL:Lv L (bf t []))(ho:Ord n 0 t){i:Nat}(hi:i<yz (bE (bf t []))):∃v a b,(bE (bf t []))[i]! = .node v a b/\(fT L (bE (bf t [])))[i]! =⟨v,num L (bE (bf t [])) a,num L (bE (bf t [])) b⟩/\a∈bf t []/\b∈bf t []/\a≠b/\0<=v/\v<n/\v<a.top n/\v<b.top n/\(∀c,(c=a\/c=b)->0<=num L (bE (bf t [])) c/\num L (bE (bf t [])) c<(yz L:Int)+(i:Int))/\num L (bE (bf t [])) a≠num L (bE (bf t [])) b:=by
 have hcl:Cl (bf t []):=dR t kX;have hnd:(bf t []).Nodup:=mJ t yY;have hNd:(bE (bf t [])).Nodup:=hnd.sublist wB;obtain⟨v,a,b,e,hm⟩:=D9 (mem_get! hi);obtain⟨ha,hb⟩:=hcl.parts hm;have hsub:(BT.node v a b).Sub t:=by
  rcases fu hm with h|h
  ·cases h
  ·exact h
 obtain⟨g1,g2,g3,g4,g5⟩:=hsub.ord ho;have hft:(fT L (bE (bf t [])))[i]! =⟨v,num L (bE (bf t [])) a,num L (bE (bf t [])) b⟩:=by
  unfold fT;rw[map_get! _ hi,e];rfl
 refine⟨v,a,b,e,hft,ha,hb,g3,g1,g2,by have:=sB g4 (by omega);omega,by have:=sB g5 (by omega);omega,λc hc=> ?_,λh=>g3 (jj hcl hL ha hb h)⟩;have hcm:c∈bf t []:=by rcases hc with h|h<;>rw[h]<;>assumption
 cases c with
 |leaf x=>
  have h':L.idxOf x<yz L:=yt (hL x hcm);simp only[num];omega
 |node v' a' b'=>
  obtain⟨h1,h2⟩:=BU hcl hnd hm hc rfl;rw[<-e,o5 hNd hi]at h2;simp only[num];omega
def Qb{n:Int}{t:BT}{d:aH}(hn:n<=12)(h:iS n t d)(ho:Ord n 0 t)(hP:t.jy kE):Wa d=Q O:=by
 have ha:=h.arg ho hn;have hl:=h.lens;obtain⟨s1,s2,s3⟩:=dV ho hn;have hLv:Lv d.aR (bf t []):=λx hx=>(h.mem x).2 hx;have hcl:Cl (bf t []):=dR t kX;have hnd:(bf t []).Nodup:=mJ t yY;have hlin:∀i,i<yz d.aR->jK d.aR[i]! =O:=λi hi=>by
  have hm:=(h.mem _).1 (mem_get! hi);rcases fu hm with h2|h2
  ·cases h2
  ·exact h2.all hP
 obtain⟨_,e0,_⟩:=dL (rnd:=BX) (yz d.aR) (λi (_:Unit)=>⟨d.aR,(yz d.aR:Int),(i:Int),d⟩) (λ_ _=>True) (λi _ hi _=>by
  have i1:(i:Int)<(yz d.aR:Int):=by omega
  have i2:(0:Int)<=(i:Int):=by omega
  have hw2:IntKind.i64.wrap ((i:Int)+1)=((i+1:Nat):Int):=iF hi (by omega);refine⟨(),?_,trivial⟩;unfold BX;simp only[zi,i1,i2,fO,dh,cL,gd,dU,hw2,hlin i hi];by_cases h0:(0:Int)<(i:Int)
  ·have hwm:IntKind.i64.wrap ((i:Int)-1)=((i-1:Nat):Int):=by rw[aJ (by omega) (by omega)];omega
   have i3:(0:Int)<=((i-1:Nat):Int)/\((i-1:Nat):Int)<(yz d.aR:Int):=by omega
   have hlt:=ads h.asc hi (show i-1<i by omega);have hle:Z (d.aR[i]!<=d.aR[i-1]!)=V:=dw (by omega);simp only[h0,fO,dh,hwm,i3,gd,dU,zi,hle,cL]
  ·simp only[h0,jk,cL]) (λ_ _=>by unfold BX;simp) (b:=()) trivial
 have e0':E3 ⟨d.aR,(yz d.aR:Int),0,d⟩=Q ⟨d.aR,(yz d.aR:Int),(yz d.aR:Int),d⟩:=e0;have hNl:yz d.az=yz (bE (bf t [])):=hl.2;have hdN:d.az.Nodup:=by rw[h.nodes];exact SG hcl hLv hnd
 obtain⟨sn,e1,_⟩:=dL (rnd:=wW) (yz d.az) (λi (s:aa ((Int×Int×Int)×Bool))=>⟨s,d.az,(yz d.az:Int),(i:Int),d⟩) (λi s=>∀v p q,(dA s (v,p,q)).getD V=O->∃j,j<i/\d.az[j]! =⟨v,p,q⟩) (λi s hi hI=>by
  have i1:(i:Int)<(yz d.az:Int):=by omega
  have i2:(0:Int)<=(i:Int):=by omega
  have hw2:IntKind.i64.wrap ((i:Int)+1)=((i+1:Nat):Int):=iF hi (by omega);obtain⟨v,a,b,e,hf,ma,mb,hab,hv0,hvn,hta,htb,hnum,hne⟩:=KU hLv ho (show i<yz (bE (bf t [])) by omega);rw[<-h.nodes]at hf;have da:Den d.g (num d.aR (bE (bf t [])) a) a:=by have:=gB hcl hLv ma;rw[<-h.nodes]at this;exact this
  have db:Den d.g (num d.aR (bE (bf t [])) b) b:=by have:=gB hcl hLv mb;rw[<-h.nodes]at this;exact this
  have ta:=gK ha da;have tb:=gK ha db;obtain⟨na1,na2⟩:=hnum a (.inl rfl);obtain⟨nb1,nb2⟩:=hnum b (.inr rfl);generalize num d.aR (bE (bf t [])) a=x at*;generalize num d.aR (bE (bf t [])) b=y at*;have hws:IntKind.i64.wrap ((yz d.aR:Int)+(i:Int))=(yz d.aR:Int)+(i:Int):=aJ (by omega) (by omega);have c1:Z (x<0)=V:=dw (by omega);have c2:Z ((yz d.aR:Int)+(i:Int)<=x)=V:=dw (by omega);have c3:Z (y<0)=V:=dw (by omega);have c4:Z ((yz d.aR:Int)+(i:Int)<=y)=V:=dw (by omega);have c5:Z (x=y)=V:=dw hne;have c6:Z (v<0)=V:=dw (by omega);have c7:Z (a.top n<=v)=V:=dw (by omega);have c8:Z (b.top n<=v)=V:=dw (by omega);have c9:(dA s (v,x,y)).getD V=V:=by
   cases e9:(dA s (v,x,y)).getD false with
   |false=>rfl
   |true=>
    obtain⟨j,hj,hj2⟩:=hI v x y e9;rw[<-hf]at hj2;have:=nd_get! hdN (by omega) hi hj2;omega
  refine⟨fQ s (v,x,y) O,?_,λv' p' q' h'=> ?_⟩
  ·unfold wW;simp only[zi,i1,i2,fO,dh,cL,gd,dU,hf,hws,c1,c2,c3,c4,c5,c6,c9,ta,tb,c7,c8,hw2]
  ·rw[dD]at h';split at h'
   ·rename_i e2;cases e2;exact⟨i,by omega,hf⟩
   ·obtain⟨j,hj,hj2⟩:=hI v' p' q' h';exact⟨j,by omega,hj2⟩) (λ_ _=>by unfold wW;simp) (b:=[]) (λv p q h=>by rw[jo]at h;cases h)
 have e1':Ew ⟨[],d.az,(yz d.az:Int),0,d⟩=Q ⟨sn,d.az,(yz d.az:Int),(yz d.az:Int),d⟩:=e1;obtain⟨d',e2,hc⟩:=ali hn ha h.den ho hP;have hdd:=hc.eq h;subst hdd;have hroot:=KN (l:=bf t []) hLv (bY t []);rw[<-h.root]at hroot;have hws:IntKind.i64.wrap ((yz d'.aR:Int)+(yz d'.az:Int))=(yz d'.aR:Int)+(yz d'.az:Int):=aJ (by omega) (by omega);have c1:Z (d'.bu<0)=V:=dw (by omega);have c2:Z ((yz d'.aR:Int)+(yz d'.az:Int)<=d'.bu)=V:=dw (by omega);unfold Wa;simp only[e0',zJ,jk,cL,e1',hws,c1,c2,e2,fO,dh,WW d'.aR (by omega),Cj d'.az (by omega)]
def Bv{n:Int}{t:BT}{d:aH}(h0:0<=n)(hn:n<=12)(h:iS n t d)(ho:Ord n 0 t)(hP:t.jy kE):KP d=Q 0:=by
 have hl:=h.lens;obtain⟨s1,s2,s3⟩:=dV ho hn;have c1:Z (d.ah<0)=V:=dw (by rw[h.v];omega);have c2:Z ((40:Int)<d.ah)=V:=dw (by rw[h.v];omega);have c3:Z ((4096:Int)<(yz d.aR:Int))=V:=dw (by omega);have c4:Z ((4096:Int)<(yz d.az:Int))=V:=dw (by omega);unfold KP;simp only[c1,c2,c3,c4,cL,Qb hn h ho hP,dh]
def w9(l:aa aH)(n:Int)(hl:yz l<=1000)(h0:l≠[])(h:∀d∈l,KP d=Q 0/\d.ah=n):Ru l=Q 0:=by
 have hpos:=wH.2 h0;obtain⟨_,e0,_⟩:=dL (rnd:=vh) (yz l) (λi (_:Unit)=>⟨l,l,(yz l:Int),(i:Int)⟩) (λ_ _=>True) (λi _ hi _=>by
  have i1:(i:Int)<(yz l:Int):=by omega
  have i2:(0:Int)<=(i:Int):=by omega
  have hw2:IntKind.i64.wrap ((i:Int)+1)=((i+1:Nat):Int):=iF hi (by omega);refine⟨(),?_,trivial⟩;unfold vh;simp only[zi,i1,i2,fO,dh,cL,gd,dU,hw2,(h _ (mem_get! hi)).1]) (λ_ _=>by unfold vh;simp) (b:=()) trivial
 have e0':Fz ⟨l,l,(yz l:Int),0⟩=Q ⟨l,l,(yz l:Int),(yz l:Int)⟩:=e0;obtain⟨_,e1,_⟩:=dL (rnd:=vi) (yz l) (λi (_:Unit)=>⟨l,l,(yz l:Int),(i:Int)⟩) (λ_ _=>True) (λi _ hi _=>by
  have i1:(i:Int)<(yz l:Int):=by omega
  have i2:(0:Int)<=(i:Int):=by omega
  have i3:(0:Int)<=(0:Int)/\(0:Int)<(yz l:Int):=by omega
  have hw2:IntKind.i64.wrap ((i:Int)+1)=((i+1:Nat):Int):=iF hi (by omega);refine⟨(),?_,trivial⟩;unfold vi;simp only[zi,i1,i2,i3,fO,dh,cL,gd,dU,hw2,(h _ (mem_get! hi)).2,(h _ (mem_get! hpos)).2]) (λ_ _=>by unfold vi;simp) (b:=()) trivial
 have e1':FU ⟨l,l,(yz l:Int),0⟩=Q ⟨l,l,(yz l:Int),(yz l:Int)⟩:=e1;unfold Ru;simp only[e0',e1',zJ,jk,cL]
end Go.Proofs.YtghilkcphindjaaGreat
end
