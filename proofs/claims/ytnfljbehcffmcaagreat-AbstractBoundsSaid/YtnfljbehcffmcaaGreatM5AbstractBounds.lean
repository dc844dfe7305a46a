/- Merged: Gb, Pv1, Pv3, Pv1b, Pv2, Pv2b, Pv4, So, Hs, Ne9, Hr, Ne10, Ne30, Ha, Qv, Qw, Pv5. -/
import Derived.Test.YtnfljbehcffmcaaGreatM2AbstractBounds
import Derived.Test.YtnfljbehcffmcaaGreatM3AbstractBounds
import Derived.Test.YtnfljbehcffmcaaGreatM4AbstractBounds
import Derived.Shelf.Sort.Plain
import Derived.Shelf.Slices.In.SortNone
import Derived.Sort.OwnSortedInts
open Int renaming toNat_natCast → za, le_refl → zk, mul_nonneg → zo, mul_le_mul_of_nonneg_right → zF, one_mul → zN, sub_mul → yf, toNat → yI, dvd_zero → yV, le_trans → xA, lt_irrefl → xV
open Nat renaming lt_succ_self → zn, le_refl → zx, le_trans → zy, not_lt_zero → yw, lt_succ_iff_lt_or_eq → yU, mul_one → y6
open Bool renaming cond_decide → zc, and_eq_true → ze, false_eq_true → yD, true_and → xF, true → wE, false → wD
open Option renaming some → zB, some → O, none → wC
open List renaming mem_cons_self → zg, all_eq_true → zm, mem_cons → zu, length_map → zA, mem_cons_of_mem → zC, mem_singleton → zD, take_length → zG, mem_map → zH, range → zJ, mem_append → zP, length_take → zU, map_cons → zV, mem_filter → zW, map_append → zY, drop → z6, nil_append → z8, append_nil → yd, length_drop → ye, getElem?_drop → ym, getElem_map → yx, mem_append_left → yz, mem_append_right → yA, length → yC, map_nil → yG, length_filter_le → yJ, length_range → xb, cons_append → xe, take_append_drop → xg, drop_of_length_le → xk, take_zero → xx, filter_append → xy, drop_eq_getElem_cons → xJ, getElem_of_mem → xK, mem_of_mem_drop → xN, getElem_drop → xZ
open Decidable renaming decide → wF
open Go.Proofs.Tryz renaming prog → wG
open Go.Proofs.Tryz
set_option linter.unusedSectionVars false
set_option linter.unusedVariables false
set_option linter.unusedSimpArgs false
noncomputable section
set_option maxRecDepth 100000
namespace Go.Proofs.YtnfljbehcffmcaaGreat
open Go Go.Iv
open Go.IntKind (i64)
def aah:aI:=cQ
theorem X7:bf wG aah:=aK
abbrev akh:Type:=Bool×aM
def d208:Td 1 akh:= .c [] [2] (.r 1 1 (ec 2 qb en) (sb 0 256 (lg 256) sn) (fun z=>(z.1.1,z.2.1)) (fun x=>((x.1,()),(x.2,()))) fun _=>rfl)
def ao8:=(lc (qp 0 0) ln)
def arj:=(sb 0 256 (lg 256) sn)
def agy:An:=(.two .no (.two (.rb [] 2) .no))
theorem aqA:∀f∈([]:List Nat),aV (aah) f:=aC
theorem are:eW wG (aah) 1 300 208 (agy):=bV (l:=[(.skip,(.rb [] 2))]) func208 (bB (by kernel_rfl)) (by kernel_rfl) (az aqA aC)
def gZ(b0:aM):akh:=
 let r1:Bool:=bif b0.eo then wE else wF (1024<b0.aX);(r1,b0)
theorem asA(b0:aM):bN wG (aah) 300 (agy) 208 (ao8.c ((),())) (arj.d (b0,())) 1 d208.rd=O (gZ b0):=by
 refine Eq.trans (b:=(
  match bif b0.eo then O (wE)else O (wF (1024<b0.aX))with|wC=>wC|O r1=>O ((r1,b0)):Option akh)) (by kernel_rfl) ?_
 simp only[gZ,bZ,cu]
def Ya:aI->aI:=eY wG 208 1 ao8 arj d208 (fun g=>O (gZ g.2.1))
theorem EV{F:aI}(h:bf wG F):bf wG (Ya F):=Jn (Ow X7 are (fun _=>by kernel_rfl) (fun _=>by kernel_rfl) (fun _=>by kernel_rfl) fun g=>asA g.2.1) ⟨_,func208,by kernel_rfl,by kernel_rfl⟩ (fun _=>by kernel_rfl) h
abbrev qA:Type:=aM
def d209:Td 1 qA:= .c [] [] (.r 1 1 en (sb 0 256 (lg 256) sn) (fun z=>z.2.1) (fun x=>((()),(x,()))) fun _=>rfl)
def ahQ:=(lc (qp 0 0) (lc (qg 137) (lc (qi .i64) ln)))
def ajL:=(sb 0 256 (lg 256) sn)
def akf(M:aq->Int->aM->Option qA):aI->aI:=eY wG 209 1 ahQ ajL d209 (fun g=>M g.1.2.1 g.1.2.2.1 g.2.1)
def YA(M:aq->Int->aM->Option qA):Prop:=HY wG 209 1 ahQ ajL d209 (fun g=>M g.1.2.1 g.1.2.2.1 g.2.1)
theorem OP{M:aq->Int->aM->Option qA}(hM:YA M){F:aI}(h:bf wG F):bf wG (akf M F):=Jn hM ⟨_,func209,by kernel_rfl,by kernel_rfl⟩ (fun _=>by kernel_rfl) h
def ak3(M209:aq->Int->aM->Option qA):aI:=(akf M209 (Ya cQ))
theorem ad2{M209}(h209:YA M209):bf wG (ak3 M209):=(OP h209 (EV aK))
structure oY where
 t2:Int
 t29:List aq
 (t30 t31:Int)
 b0:aM
def Mu:Td 1 oY:= .c [] [0,2,29,30,31] (.r 1 1 (ec 0 (qp 0 0) (ec 2 (qi .i64) (ec 29 (ql 137) (ec 30 (qi .i64) (ec 31 (qi .i64) en))))) (sb 0 256 (lg 256) sn) (fun z=>⟨z.1.2.1,z.1.2.2.1,z.1.2.2.2.1,z.1.2.2.2.2.1,z.2.1⟩) (fun x=>(((),x.t2,x.t29,x.t30,x.t31,()),(x.b0,()))) fun _=>rfl)
def F4(M209:aq->Int->aM->Option qA)(p:oY):Option (Option oY):=
 bif wF (p.t31<p.t30)then if(0:Int)<=p.t31/\p.t31<(↑p.t29.length:Int)then match M209 (aq.mk p.t29[p.t31.toNat]!.aW p.t29[p.t31.toNat]!.fN p.t29[p.t31.toNat]!.ak) (i64.wrap (p.t2+1)) p.b0 with|wC=>wC|O r1=>O (O (oY.mk p.t2 p.t29 p.t30 (i64.wrap (p.t31+1)) r1))else wC else O (wC)
def CH(M209:aq->Int->aM->Option qA):oY->Option oY:=bw (F4 M209)
def afw(M209:aq->Int->aM->Option qA):An:=(.two .no (.two .no (.two .no (.two .no (.two .no (Mu.lp (CH M209) .no))))))
theorem anr(M209:aq->Int->aM->Option qA):eW wG (ak3 M209) 1 300 209 (afw M209):=bV (l:=[(aU f209 0,(Mu.lp (CH M209) .no))]) func209 (bB (by kernel_rfl)) (by kernel_rfl) (az (aO Mu) aC)
def XG(M209:aq->Int->aM->Option qA)(a1:aq)(a2:Int)(b0:aM):Option qA:=
 bif b0.eo then bif(gZ (aM.mk (i64.wrap (b0.aX+1)) wE)).fst then O ((gZ (aM.mk (i64.wrap (b0.aX+1)) wE)).snd)else match CH M209 (oY.mk a2 a1.ak (↑a1.ak.length:Int) (0) (gZ (aM.mk (i64.wrap (b0.aX+1)) wE)).snd)with|wC=>wC|O r2=>bif wF (r2.t31<r2.t30)then if(0:Int)<=r2.t31/\r2.t31<(↑r2.t29.length:Int)then match M209 (aq.mk r2.t29[r2.t31.toNat]!.aW r2.t29[r2.t31.toNat]!.fN r2.t29[r2.t31.toNat]!.ak) (i64.wrap (r2.t2+1)) r2.b0 with|wC=>wC|O r3=>wC else wC else O (r2.b0)else bif(gZ (aM.mk (i64.wrap (b0.aX+1)) (wF (12<a2)))).fst then O ((gZ (aM.mk (i64.wrap (b0.aX+1)) (wF (12<a2)))).snd)else match CH M209 (oY.mk a2 a1.ak (↑a1.ak.length:Int) (0) (gZ (aM.mk (i64.wrap (b0.aX+1)) (wF (12<a2)))).snd)with|wC=>wC|O r4=>bif wF (r4.t31<r4.t30)then if(0:Int)<=r4.t31/\r4.t31<(↑r4.t29.length:Int)then match M209 (aq.mk r4.t29[r4.t31.toNat]!.aW r4.t29[r4.t31.toNat]!.fN r4.t29[r4.t31.toNat]!.ak) (i64.wrap (r4.t2+1)) r4.b0 with|wC=>wC|O r5=>wC else wC else O (r4.b0)
theorem aty(M209:aq->Int->aM->Option qA)(a1:aq)(a2:Int)(b0:aM):bN wG (ak3 M209) 300 (afw M209) 209 (ahQ.c ((),a1,a2,())) (ajL.d (b0,())) 1 d209.rd=XG M209 a1 a2 b0:=by kernel_rfl
def aeR:Nat->(aq->Int->aM->Option qA)
 |0=>(fun _ _ _=>wC)
 |n+1=>(XG (aeR n))
def Mf(n:Nat):aq->Int->aM->Option qA:=(aeR n)
theorem I4:∀n,YA (Mf n)
 |0=>fun _ _ h=>(by cases h)
 |n+1=>by
  have ih:=I4 n
  have i209:=ih
  exact(Ow (ad2 i209) (anr (Mf n)) (fun _=>by kernel_rfl) (fun _=>by kernel_rfl) (fun _=>by kernel_rfl) fun g=>aty (Mf n) g.1.2.1 g.1.2.2.1 g.2.1)
def Dy:aq->Int->aM->Option qA:=fun a1 a2 b0=>lim (fun n=>Mf n a1 a2 b0)
theorem XP:YA Dy:=fun g b h=>by
 obtain⟨n,hn⟩:=cD (show lim (fun n=>Mf n g.1.2.1 g.1.2.2.1 g.2.1)=O b from h)
 exact(I4 n) g b hn
def akd(F:aI):aI:=akf Dy F
theorem Ox{F:aI}(h:bf wG F):bf wG (akd F):=OP XP h
abbrev qK:Type:=aM
def d207:Td 1 qK:= .c [] [] (.r 1 1 en (sb 0 256 (lg 256) sn) (fun z=>z.2.1) (fun x=>((()),(x,()))) fun _=>rfl)
def akF:=(lc (qp 0 0) (lc (ql 166) (lc (qi .i64) ln)))
def akq:=(sb 0 256 (lg 256) sn)
def ak6(M:(List GStep)->Int->aM->Option qK):aI->aI:=eY wG 207 1 akF akq d207 (fun g=>M g.1.2.1 g.1.2.2.1 g.2.1)
def ZE(M:(List GStep)->Int->aM->Option qK):Prop:=HY wG 207 1 akF akq d207 (fun g=>M g.1.2.1 g.1.2.2.1 g.2.1)
theorem N9{M:(List GStep)->Int->aM->Option qK}(hM:ZE M){F:aI}(h:bf wG F):bf wG (ak6 M F):=Jn hM ⟨_,func207,by kernel_rfl,by kernel_rfl⟩ (fun _=>by kernel_rfl) h
def akx(M207:(List GStep)->Int->aM->Option qK):aI:=(akd (Ya (ak6 M207 cQ)))
theorem Yy{M207}(h207:ZE M207):bf wG (akx M207):=(Ox (EV (N9 h207 aK)))
structure od where
 t2:Int
 t8:List GStep
 (t9 t10:Int)
 b0:aM
def NG:Td 1 od:= .c [] [0,2,8,9,10] (.r 1 1 (ec 0 (qp 0 0) (ec 2 (qi .i64) (ec 8 (ql 166) (ec 9 (qi .i64) (ec 10 (qi .i64) en))))) (sb 0 256 (lg 256) sn) (fun z=>⟨z.1.2.1,z.1.2.2.1,z.1.2.2.2.1,z.1.2.2.2.2.1,z.2.1⟩) (fun x=>(((),x.t2,x.t8,x.t9,x.t10,()),(x.b0,()))) fun _=>rfl)
def Cs(M207:(List GStep)->Int->aM->Option qK)(p:od):Option (Option od):=
 bif wF (p.t10<p.t9)then if(0:Int)<=p.t10/\p.t10<(↑p.t8.length:Int)then bif p.b0.eo then bif(gZ (aM.mk (i64.wrap (p.b0.aX+1)) wE)).fst then O (wC)else match Dy (aq.mk p.t8[p.t10.toNat]!.ay.aW p.t8[p.t10.toNat]!.ay.fN p.t8[p.t10.toNat]!.ay.ak) (1) (gZ (aM.mk (i64.wrap (p.b0.aX+1)) wE)).snd with|wC=>wC|O r1=>match M207 p.t8[p.t10.toNat]!.aG (i64.wrap (p.t2+1)) r1 with|wC=>wC|O r2=>match M207 p.t8[p.t10.toNat]!.aJ (i64.wrap (p.t2+1)) r2 with|wC=>wC|O r3=>O (O (od.mk p.t2 p.t8 p.t9 (i64.wrap (p.t10+1)) r3))else bif(gZ (aM.mk (i64.wrap (p.b0.aX+1)) (wF (12<(((),p.t2,p.t8,p.t9,p.t10,()),p.b0,()).fst.snd.fst)))).fst then O (wC)else match Dy (aq.mk p.t8[p.t10.toNat]!.ay.aW p.t8[p.t10.toNat]!.ay.fN p.t8[p.t10.toNat]!.ay.ak) (1) (gZ (aM.mk (i64.wrap (p.b0.aX+1)) (wF (12<(((),p.t2,p.t8,p.t9,p.t10,()),p.b0,()).fst.snd.fst)))).snd with|wC=>wC|O r4=>match M207 p.t8[p.t10.toNat]!.aG (i64.wrap (p.t2+1)) r4 with|wC=>wC|O r5=>match M207 p.t8[p.t10.toNat]!.aJ (i64.wrap (p.t2+1)) r5 with|wC=>wC|O r6=>O (O (od.mk p.t2 p.t8 p.t9 (i64.wrap (p.t10+1)) r6))else wC else O (wC)
def Gx(M207:(List GStep)->Int->aM->Option qK):od->Option od:=bw (Cs M207)
def afZ(M207:(List GStep)->Int->aM->Option qK):An:=(.two .no (NG.lp (Gx M207) .no))
theorem aqj(M207:(List GStep)->Int->aM->Option qK):eW wG (akx M207) 1 300 207 (afZ M207):=bV (l:=[(aU f207 0,(NG.lp (Gx M207) .no))]) func207 (bB (by kernel_rfl)) (by kernel_rfl) (az (aO NG) aC)
def Zi(M207:(List GStep)->Int->aM->Option qK)(a1:List GStep)(a2:Int)(b0:aM):Option qK:=
 match Gx M207 (od.mk a2 a1 (↑a1.length:Int) (0) b0)with|wC=>wC|O r7=>bif wF (r7.t10<r7.t9)then if(0:Int)<=r7.t10/\r7.t10<(↑r7.t8.length:Int)then bif r7.b0.eo then bif(gZ (aM.mk (i64.wrap (r7.b0.aX+1)) wE)).fst then O ((gZ (aM.mk (i64.wrap (r7.b0.aX+1)) wE)).snd)else match Dy (aq.mk r7.t8[r7.t10.toNat]!.ay.aW r7.t8[r7.t10.toNat]!.ay.fN r7.t8[r7.t10.toNat]!.ay.ak) (1) (gZ (aM.mk (i64.wrap (r7.b0.aX+1)) wE)).snd with|wC=>wC|O r8=>match M207 r7.t8[r7.t10.toNat]!.aG (i64.wrap (r7.t2+1)) r8 with|wC=>wC|O r9=>match M207 r7.t8[r7.t10.toNat]!.aJ (i64.wrap (r7.t2+1)) r9 with|wC=>wC|O r10=>wC else bif(gZ (aM.mk (i64.wrap (r7.b0.aX+1)) (wF (12<(((),r7.t2,r7.t8,r7.t9,r7.t10,()),r7.b0,()).fst.snd.fst)))).fst then O ((gZ (aM.mk (i64.wrap (r7.b0.aX+1)) (wF (12<(((),r7.t2,r7.t8,r7.t9,r7.t10,()),r7.b0,()).fst.snd.fst)))).snd)else match Dy (aq.mk r7.t8[r7.t10.toNat]!.ay.aW r7.t8[r7.t10.toNat]!.ay.fN r7.t8[r7.t10.toNat]!.ay.ak) (1) (gZ (aM.mk (i64.wrap (r7.b0.aX+1)) (wF (12<(((),r7.t2,r7.t8,r7.t9,r7.t10,()),r7.b0,()).fst.snd.fst)))).snd with|wC=>wC|O r11=>match M207 r7.t8[r7.t10.toNat]!.aG (i64.wrap (r7.t2+1)) r11 with|wC=>wC|O r12=>match M207 r7.t8[r7.t10.toNat]!.aJ (i64.wrap (r7.t2+1)) r12 with|wC=>wC|O r13=>wC else wC else O (r7.b0)
theorem at6(M207:(List GStep)->Int->aM->Option qK)(a1:List GStep)(a2:Int)(b0:aM):bN wG (akx M207) 300 (afZ M207) 207 (akF.c ((),a1,a2,())) (akq.d (b0,())) 1 d207.rd=Zi M207 a1 a2 b0:=by kernel_rfl
def afh:Nat->((List GStep)->Int->aM->Option qK)
 |0=>(fun _ _ _=>wC)
 |n+1=>(Zi (afh n))
def LS(n:Nat):(List GStep)->Int->aM->Option qK:=(afh n)
theorem Kf:∀n,ZE (LS n)
 |0=>fun _ _ h=>(by cases h)
 |n+1=>by
  have ih:=Kf n
  have i207:=ih
  exact(Ow (Yy i207) (aqj (LS n)) (fun _=>by kernel_rfl) (fun _=>by kernel_rfl) (fun _=>by kernel_rfl) fun g=>at6 (LS n) g.1.2.1 g.1.2.2.1 g.2.1)
def VZ:(List GStep)->Int->aM->Option qK:=fun a1 a2 b0=>lim (fun n=>LS n a1 a2 b0)
theorem ad8:ZE VZ:=fun g b h=>by
 obtain⟨n,hn⟩:=cD (show lim (fun n=>LS n g.1.2.1 g.1.2.2.1 g.2.1)=O b from h)
 exact(Kf n) g b hn
def aro(F:aI):aI:=ak6 VZ F
theorem abe{F:aI}(h:bf wG F):bf wG (aro F):=N9 ad8 h
abbrev apK:Type:=Bool
def d260:Td 0 apK:= .c [] [3] (.r 0 0 (ec 3 qb en) sn (fun z=>z.1.1) (fun x=>((x,()),(()))) fun _=>rfl)
def T4(a0:aN)(c0:aN):apK:=
 a0.fName.toList==c0.fName.toList
def aum:aI->aI:=eL wG 260 wD (lc (qg 131) (lc (qr (lg 131)) ln)) d260 (fun g=>O (T4 g.1 g.2.1))
theorem Q0:EO aum:=fun h=>kL (an:= .no) func260 aK aC h
def ame:aI:=cQ
structure rC where
 t0:ByteArray
 (t14 t15:Int)
def LJ:Td 0 rC:= .c [] [0,14,15] (.r 0 0 (ec 0 qs (ec 14 (qi .i64) (ec 15 (qi .i64) en))) sn (fun z=>⟨z.1.1,z.1.2.1,z.1.2.2.1⟩) (fun x=>((x.t0,x.t14,x.t15,()),(()))) fun _=>rfl)
def Fc(p:rC):Option (Option rC):=
 bif wF (p.t15<p.t14)then if(0:Int)<=p.t15/\p.t15<(↑p.t0.size:Int)then match bif wF (97<=bR p.t0 p.t15.toNat)then O (wF (bR p.t0 p.t15.toNat<=122))else O (wD)with|wC=>wC|O r1=>match bif bif r1 then wD else wE then bif wF (p.t15=0)then O (wE)else bif wF (bR p.t0 p.t15.toNat<48)then bif bif wF (bR p.t0 p.t15.toNat=46)then wD else wE then O (bif wF (bR p.t0 p.t15.toNat=95)then wD else wE)else O (wD)else bif wF (57<bR p.t0 p.t15.toNat)then bif bif wF (bR p.t0 p.t15.toNat=46)then wD else wE then O (bif wF (bR p.t0 p.t15.toNat=95)then wD else wE)else O (wD)else O (wD)else O (wD)with|wC=>wC|O r2=>bif r2 then O (wC)else O (O (rC.mk p.t0 p.t14 (i64.wrap (p.t15+1))))else wC else O (wC)
def Vr:An:=(.two .no (.two .no (.two (.two .no (.two .no (.two (.rb [] 5) (.two (.rb [] 48) .no)))) .no)))
def G0:rC->Option rC:=bw (Fc)
abbrev aqf:Type:=Bool
def d261:Td 0 aqf:= .c [] [2] (.r 0 0 (ec 2 qb en) sn (fun z=>z.1.1) (fun x=>((x,()),(()))) fun _=>rfl)
theorem V0:∀f∈([]:List Nat),aV (ame) f:=aC
def Lm(a0:ByteArray):Option aqf:=
 match bif a0.toList==(ByteArray.mk (Array.mk [])).toList then O (wE)else O (wF (40<(↑a0.size:Int)))with|wC=>wC|O r3=>bif r3 then O (wD)else match G0 (rC.mk a0 (↑a0.size:Int) (0))with|wC=>wC|O r4=>bif wF (r4.t15<r4.t14)then if(0:Int)<=r4.t15/\r4.t15<(↑r4.t0.size:Int)then match bif wF (97<=bR r4.t0 r4.t15.toNat)then O (wF (bR r4.t0 r4.t15.toNat<=122))else O (wD)with|wC=>wC|O r5=>match bif bif r5 then wD else wE then bif wF (r4.t15=0)then O (wE)else bif wF (bR r4.t0 r4.t15.toNat<48)then bif bif wF (bR r4.t0 r4.t15.toNat=46)then wD else wE then O (bif wF (bR r4.t0 r4.t15.toNat=95)then wD else wE)else O (wD)else bif wF (57<bR r4.t0 r4.t15.toNat)then bif bif wF (bR r4.t0 r4.t15.toNat=46)then wD else wE then O (bif wF (bR r4.t0 r4.t15.toNat=95)then wD else wE)else O (wD)else O (wD)else O (wD)with|wC=>wC|O r6=>bif r6 then O (wD)else wC else wC else O (wE)
def aq7:aI->aI:=eL wG 261 wD (lc qs ln) d261 (fun g=>Lm g.1)
theorem Q7:EO aq7:=fun h=>kL (F:=ame) (an:=(.two .no (.two (.two (.rb [] 12) .no) (.two (.two .no (LJ.lp G0 Vr)) .no)))) (l:=[(.skip,(.rb [] 12)),(aU f261 0,(LJ.lp G0 Vr)),(.skip,(.rb [] 5)),(.skip,(.rb [] 48))]) func261 aK (az V0 (az (aO LJ) (az V0 (az V0 aC)))) h
structure sG where
 t0:List aN
 nc:ByteArray
 (mI mR mw mU t7 t8:Int)
def MU:Td 0 sG:= .c [] [0,1,7,8] (.r 0 0 (ec 0 (ql 131) (ec 1 (qf 260 (lc (qr (lc qs (lc (qi .i64) (lc (qi .i64) (lc (qi .i64) (lc (qi .i64) ln)))))) ln)) (ec 7 (qi .i64) (ec 8 (qi .i64) en)))) sn (fun z=>⟨z.1.1,z.1.2.1.1.1,z.1.2.1.1.2.1,z.1.2.1.1.2.2.1,z.1.2.1.1.2.2.2.1,z.1.2.1.1.2.2.2.2.1,z.1.2.2.1,z.1.2.2.2.1⟩) (fun x=>((x.t0,((x.nc,x.mI,x.mR,x.mw,x.mU,()),()),x.t7,x.t8,()),(()))) fun _=>rfl)
def GQ(p:sG):Option (Option sG):=
 bif wF (p.t8<p.t7)then if(0:Int)<=p.t8/\p.t8<(↑p.t0.length:Int)then bif T4 p.t0[p.t8.toNat]! (aN.mk p.nc p.mI p.mR p.mw p.mU)then O (wC)else O (O (sG.mk p.t0 p.nc p.mI p.mR p.mw p.mU p.t7 (i64.wrap (p.t8+1))))else wC else O (wC)
def Fz:sG->Option sG:=bw (GQ)
abbrev apR:Type:=Int
def d303:Td 0 apR:= .c [] [4] (.r 0 0 (ec 4 (qi .i64) en) sn (fun z=>z.1.1) (fun x=>((x,()),(()))) fun _=>rfl)
def aiH(a0:List aN)(a1_0:aN):Option apR:=
 match Fz (sG.mk a0 a1_0.fName a1_0.aY a1_0.aa a1_0.af a1_0.dc (↑a0.length:Int) (0))with|wC=>wC|O r1=>bif wF (r1.t8<r1.t7)then if(0:Int)<=r1.t8/\r1.t8<(↑r1.t0.length:Int)then bif T4 r1.t0[r1.t8.toNat]! (aN.mk r1.nc r1.mI r1.mR r1.mw r1.mU)then O (r1.t8)else wC else wC else O (-1)
def asV:aI->aI:=eL wG 303 wE (lc (ql 131) (lc (qf 260 (lc (qr (lg 131)) ln)) ln)) d303 (fun g=>aiH g.1 g.2.1.1)
theorem ace:EO asV:=fun h=>kL (an:=(.two .no (.two (.two .no (MU.lp Fz .no)) .no))) (l:=[(aU f303 0,(MU.lp Fz .no))]) func303 (Q0 aK) (az (aO MU) aC) h
abbrev apM:Type:=Bool
def d262:Td 0 apM:= .c [] [4] (.r 0 0 (ec 4 qb en) sn (fun z=>z.1.1) (fun x=>((x,()),(()))) fun _=>rfl)
def Xb(a0:List aN)(a1_0:aN):Option apM:=
 match aiH a0 a1_0 with|wC=>wC|O r1=>O (wF (0<=r1))
def ao9:aI->aI:=eL wG 262 wE (lc (ql 131) (lc (qf 260 (lc (qr (lg 131)) ln)) ln)) d262 (fun g=>Xb g.1 g.2.1.1)
theorem aei:EO ao9:=fun h=>kL (an:= .no) func262 (ace (Q0 aK)) aC h
def aim:aI:=cQ
abbrev ag2:Type:=Bool
def d263:Td 0 ag2:= .c [] [4] (.r 0 0 (ec 4 qb en) sn (fun z=>z.1.1) (fun x=>((x,()),(()))) fun _=>rfl)
def amW:=(lc (qi .i64) (lc (qi .i64) ln))
def agc:An:=(.two .no (.two (.rb [] 4) .no))
theorem alV:∀f∈([]:List Nat),aV (aim) f:=aC
def GR(a0:Int)(a1:Int):ag2:=
 let r1:Bool:=bif wF (a0<=a1)then bif wF (-1048576<=a0)then wF (a1<=1048576)else wD else wD;r1
theorem as3(a0:Int)(a1:Int):bN wG (aim) 300 (agc) 263 (amW.c (a0,a1,())) [] 0 d263.rd=O (GR a0 a1):=by
 refine Eq.trans (b:=(
  match bif wF (a0<=a1)then bif wF (-1048576<=a0)then O (wF (a1<=1048576))else O (wD)else O (wD)with|wC=>wC|O r1=>O (r1):Option ag2)) (by kernel_rfl) ?_
 simp only[GR,bZ,cu]
def am9:aI->aI:=eL wG 263 wD amW d263 (fun g=>O (GR g.1 g.2.1))
theorem Ot:EO am9:=fun h=>kL (F:=aim) (an:=agc) (l:=[(.skip,(.rb [] 4))]) func263 aK (az alV aC) h (c:=fun g=>as3 g.1 g.2.1)
abbrev aoU:Type:=Int
def d337:Td 0 aoU:= .c [] [2] (.r 0 0 (ec 2 (qi .i64) en) sn (fun z=>z.1.1) (fun x=>((x,()),(()))) fun _=>rfl)
def DF(a0:aN):aoU:=
 i64.wrap (i64.wrap (a0.af-a0.aa)+1)
def amj:aI->aI:=eL wG 337 wD (lc (qg 131) ln) d337 (fun g=>O (DF g.1))
theorem abg:EO amj:=fun h=>kL (an:= .no) func337 aK aC h
def al1:aI:=(amj cQ)
structure kY where
 t7:List aN
 t10:Int
 t49:List aN
 (t50 t51:Int)
def Nk:Td 0 kY:= .c [] [7,10,49,50,51] (.r 0 1 (ec 7 (qo 0) (ec 10 (qi .i64) (ec 49 (qo 0) (ec 50 (qi .i64) (ec 51 (qi .i64) en))))) (sr 0 131 sn) (fun z=>⟨z.2.1,z.1.2.1,z.2.1,z.1.2.2.2.1,z.1.2.2.2.2.1⟩) (fun x=>(((),x.t10,(),x.t50,x.t51,()),(x.t49,()))) fun _=>rfl)
def EU(p:kY):Option (Option kY):=
 bif wF (p.t51<p.t50)then if(0:Int)<=p.t51/\p.t51<(↑p.t49.length:Int)then if 131=131/\p.t51.toNat<p.t49.length then bif wF (4096<i64.wrap (p.t10*DF p.t49[p.t51.toNat]!))then O (wC)else O (O (kY.mk p.t49 (i64.wrap (p.t10*DF p.t49[p.t51.toNat]!)) p.t49 p.t50 (i64.wrap (p.t51+1))))else wC else wC else O (wC)
def rU:kY->Option kY:=bw (EU)
structure jU where
 t1:Int
 (t7 t19:List aN)
 (t20 t21:Int)
def Ml:Td 0 jU:= .c [] [1,7,19,20,21] (.t (cq.s 7 [] 131) (.c [] [1,7,19,20,21] (.r 0 1 (ec 1 (qi .i64) (ec 7 (qo 0) (ec 19 (ql 131) (ec 20 (qi .i64) (ec 21 (qi .i64) en))))) (sr 0 131 sn) (fun z=>⟨z.1.1,z.2.1,z.1.2.2.1,z.1.2.2.2.1,z.1.2.2.2.2.1⟩) (fun x=>((x.t1,(),x.t19,x.t20,x.t21,()),(x.t7,()))) fun _=>rfl)))
def CL(p:jU):Option (Option jU):=
 bif wF (p.t21<p.t20)then if(0:Int)<=p.t21/\p.t21<(↑p.t19.length:Int)then bif bif wF (p.t19[p.t21.toNat]!.aY=p.t1)then wD else wE then O (O (jU.mk p.t1 p.t7 p.t19 p.t20 (i64.wrap (p.t21+1))))else match bif wF (p.t19[p.t21.toNat]!.af<p.t19[p.t21.toNat]!.aa)then O (wE)else bif wF (p.t19[p.t21.toNat]!.aa< -1048576)then O (wE)else O (wF (1048576<p.t19[p.t21.toNat]!.af))with|wC=>wC|O r1=>bif r1 then O (wC)else if(p.t7++[p.t19[p.t21.toNat]!]).length<=1073741824 then O (O (jU.mk p.t1 (p.t7++[p.t19[p.t21.toNat]!]) p.t19 p.t20 (i64.wrap (p.t21+1))))else wC else wC else O (wC)
def Xq:An:=(.two .no (.two .no (.two (.two .no (.two .no (.two (.two (.rb [] 43) .no) .no))) .no)))
def rP:jU->Option jU:=bw (CL)
abbrev amg:Type:=(List aN)×Int×Int
def d304:Td 0 amg:= .c [] [4,5,6] (.t (cq.s 4 [] 131) (.c [] [4,5,6] (.r 0 1 (ec 4 (qo 0) (ec 5 (qi .i64) (ec 6 (qi .i64) en))) (sr 0 131 sn) (fun z=>(z.2.1,z.1.2.1,z.1.2.2.1)) (fun x=>(((),x.2.1,x.2.2,()),(x.1,()))) fun _=>rfl)))
theorem apS:∀f∈([]:List Nat),aV (al1) f:=aC
def ajO(a0:List aN)(a1:Int):Option amg:=
 bif wF (a1=0)then match rP (jU.mk a1 [] a0 (↑a0.length:Int) (0))with|wC=>wC|O r2=>bif wF (r2.t21<r2.t20)then if(0:Int)<=r2.t21/\r2.t21<(↑r2.t19.length:Int)then bif bif wF (r2.t19[r2.t21.toNat]!.aY=r2.t1)then wD else wE then wC else match bif wF (r2.t19[r2.t21.toNat]!.af<r2.t19[r2.t21.toNat]!.aa)then O (wE)else bif wF (r2.t19[r2.t21.toNat]!.aa< -1048576)then O (wE)else O (wF (1048576<r2.t19[r2.t21.toNat]!.af))with|wC=>wC|O r3=>bif r3 then O (([],0,3))else if(r2.t7++[r2.t19[r2.t21.toNat]!]).length<=1073741824 then wC else wC else wC else match rU (kY.mk r2.t7 (1) r2.t7 (↑r2.t7.length:Int) (0))with|wC=>wC|O r4=>bif wF (r4.t51<r4.t50)then if(0:Int)<=r4.t51/\r4.t51<(↑r4.t49.length:Int)then if 131=131/\r4.t51.toNat<r4.t49.length then bif wF (4096<i64.wrap (r4.t10*DF r4.t49[r4.t51.toNat]!))then O (([],0,4))else wC else wC else wC else O ((r4.t49,r4.t10,0))else bif wF (a1=1)then match rP (jU.mk a1 [] a0 (↑a0.length:Int) (0))with|wC=>wC|O r5=>bif wF (r5.t21<r5.t20)then if(0:Int)<=r5.t21/\r5.t21<(↑r5.t19.length:Int)then bif bif wF (r5.t19[r5.t21.toNat]!.aY=r5.t1)then wD else wE then wC else match bif wF (r5.t19[r5.t21.toNat]!.af<r5.t19[r5.t21.toNat]!.aa)then O (wE)else bif wF (r5.t19[r5.t21.toNat]!.aa< -1048576)then O (wE)else O (wF (1048576<r5.t19[r5.t21.toNat]!.af))with|wC=>wC|O r6=>bif r6 then O (([],0,3))else if(r5.t7++[r5.t19[r5.t21.toNat]!]).length<=1073741824 then wC else wC else wC else match rU (kY.mk r5.t7 (1) r5.t7 (↑r5.t7.length:Int) (0))with|wC=>wC|O r7=>bif wF (r7.t51<r7.t50)then if(0:Int)<=r7.t51/\r7.t51<(↑r7.t49.length:Int)then if 131=131/\r7.t51.toNat<r7.t49.length then bif wF (4096<i64.wrap (r7.t10*DF r7.t49[r7.t51.toNat]!))then O (([],0,4))else wC else wC else wC else O ((r7.t49,r7.t10,0))else bif wF (a1=2)then match rP (jU.mk a1 [] a0 (↑a0.length:Int) (0))with|wC=>wC|O r8=>bif wF (r8.t21<r8.t20)then if(0:Int)<=r8.t21/\r8.t21<(↑r8.t19.length:Int)then bif bif wF (r8.t19[r8.t21.toNat]!.aY=r8.t1)then wD else wE then wC else match bif wF (r8.t19[r8.t21.toNat]!.af<r8.t19[r8.t21.toNat]!.aa)then O (wE)else bif wF (r8.t19[r8.t21.toNat]!.aa< -1048576)then O (wE)else O (wF (1048576<r8.t19[r8.t21.toNat]!.af))with|wC=>wC|O r9=>bif r9 then O (([],0,3))else if(r8.t7++[r8.t19[r8.t21.toNat]!]).length<=1073741824 then wC else wC else wC else match rU (kY.mk r8.t7 (1) r8.t7 (↑r8.t7.length:Int) (0))with|wC=>wC|O r10=>bif wF (r10.t51<r10.t50)then if(0:Int)<=r10.t51/\r10.t51<(↑r10.t49.length:Int)then if 131=131/\r10.t51.toNat<r10.t49.length then bif wF (4096<i64.wrap (r10.t10*DF r10.t49[r10.t51.toNat]!))then O (([],0,4))else wC else wC else wC else O ((r10.t49,r10.t10,0))else bif wF (a1=3)then match rP (jU.mk a1 [] a0 (↑a0.length:Int) (0))with|wC=>wC|O r11=>bif wF (r11.t21<r11.t20)then if(0:Int)<=r11.t21/\r11.t21<(↑r11.t19.length:Int)then bif bif wF (r11.t19[r11.t21.toNat]!.aY=r11.t1)then wD else wE then wC else match bif wF (r11.t19[r11.t21.toNat]!.af<r11.t19[r11.t21.toNat]!.aa)then O (wE)else bif wF (r11.t19[r11.t21.toNat]!.aa< -1048576)then O (wE)else O (wF (1048576<r11.t19[r11.t21.toNat]!.af))with|wC=>wC|O r12=>bif r12 then O (([],0,3))else if(r11.t7++[r11.t19[r11.t21.toNat]!]).length<=1073741824 then wC else wC else wC else match rU (kY.mk r11.t7 (1) r11.t7 (↑r11.t7.length:Int) (0))with|wC=>wC|O r13=>bif wF (r13.t51<r13.t50)then if(0:Int)<=r13.t51/\r13.t51<(↑r13.t49.length:Int)then if 131=131/\r13.t51.toNat<r13.t49.length then bif wF (4096<i64.wrap (r13.t10*DF r13.t49[r13.t51.toNat]!))then O (([],0,4))else wC else wC else wC else O ((r13.t49,r13.t10,0))else O (([],0,1))
def asX:aI->aI:=eL wG 304 wD (lc (ql 131) (lc (qi .i64) ln)) d304 (fun g=>ajO g.1 g.2.1)
theorem Yj:EO asX:=fun h=>kL (F:=al1) (an:=(.two .no (.two .no (.two .no (.two (.two .no (Ml.lp rP Xq)) (.two .no (.two (.two .no (Nk.lp rU .no)) .no))))))) (l:=[(aU f304 0,(Ml.lp rP Xq)),(.skip,(.rb [] 43)),(aU f304 1,(Nk.lp rU .no))]) func304 (abg aK) (az (aO Ml) (az apS (az (aO Nk) aC))) h
abbrev aoS:Type:=Int×Int
def d264:Td 0 aoS:= .c [] [4,5] (.r 0 0 (ec 4 (qi .i64) (ec 5 (qi .i64) en)) sn (fun z=>(z.1.1,z.1.2.1)) (fun x=>((x.1,x.2,()),(()))) fun _=>rfl)
def WH(a0:List aN)(a1:Int):Option aoS:=
 match ajO a0 a1 with|wC=>wC|O r1=>O (r1.snd)
def aqv:aI->aI:=eL wG 264 wD (lc (ql 131) (lc (qi .i64) ln)) d264 (fun g=>WH g.1 g.2.1)
theorem X5:EO aqv:=fun h=>kL (an:= .no) func264 (Yj aK) aC h
def arq:aI:=(aqv (am9 (ao9 (aq7 cQ))))
structure ry where
 t0:List aN
 t71:List Int
 (t72 t73:Int)
def NQ:Td 0 ry:= .c [] [0,71,72,73] (.r 0 1 (ec 0 (ql 131) (ec 71 (qo 0) (ec 72 (qi .i64) (ec 73 (qi .i64) en)))) (sr 0 129 sn) (fun z=>⟨z.1.1,z.2.1,z.1.2.2.1,z.1.2.2.2.1⟩) (fun x=>((x.t0,(),x.t72,x.t73,()),(x.t71,()))) fun _=>rfl)
def nV(p:ry):Option (Option ry):=
 bif wF (p.t73<p.t72)then if(0:Int)<=p.t73/\p.t73<(↑p.t71.length:Int)then if 129=129/\p.t73.toNat<p.t71.length then match WH p.t0 p.t71[p.t73.toNat]! with|wC=>wC|O r6=>match bif bif wF (r6.snd=0)then wD else wE then O (wE)else bif wF (((p.t0,(),p.t72,p.t73,()),p.t71,()).snd.fst[((p.t0,(),p.t72,p.t73,()),p.t71,()).fst.snd.snd.snd.fst.toNat]! =3)then O (wF (256<r6.fst))else O (wD)with|wC=>wC|O r7=>bif r7 then O (wC)else O (O (ry.mk p.t0 p.t71 p.t72 (i64.wrap (p.t73+1))))else wC else wC else O (wC)
def UX:An:=(.two .no (.two .no (.two (.two .no (.two .no (.two (.rb [] 92) .no))) .no)))
def pL:ry->Option ry:=bw (nV)
structure sB where
 (t0 t10:List aN)
 (t11 t12:Int)
def LP:Td 0 sB:= .c [] [0,10,11,12] (.r 0 0 (ec 0 (ql 131) (ec 10 (ql 131) (ec 11 (qi .i64) (ec 12 (qi .i64) en)))) sn (fun z=>⟨z.1.1,z.1.2.1,z.1.2.2.1,z.1.2.2.2.1⟩) (fun x=>((x.t0,x.t10,x.t11,x.t12,()),(()))) fun _=>rfl)
def uV(p:sB):Option (Option sB):=
 bif wF (p.t12<p.t11)then if(0:Int)<=p.t12/\p.t12<(↑p.t10.length:Int)then match Lm p.t10[p.t12.toNat]!.fName with|wC=>wC|O r1=>bif bif r1 then wD else wE then O (wC)else if(0:Int)<=p.t12/\p.t12<=(↑p.t0.length:Int)then match Xb (List.take p.t12.toNat p.t0) p.t10[p.t12.toNat]! with|wC=>wC|O r2=>bif r2 then O (wC)else match bif wF (p.t10[p.t12.toNat]!.aY<0)then O (wE)else O (wF (3<p.t10[p.t12.toNat]!.aY))with|wC=>wC|O r3=>bif r3 then O (wC)else bif bif GR p.t10[p.t12.toNat]!.aa p.t10[p.t12.toNat]!.af then wD else wE then O (wC)else match bif bif wF (p.t10[p.t12.toNat]!.aY=0)then wD else wE then O (bif wF (p.t10[p.t12.toNat]!.dc=0)then wD else wE)else O (wD)with|wC=>wC|O r4=>bif r4 then O (wC)else match bif wF (p.t10[p.t12.toNat]!.aY=0)then bif wF (p.t10[p.t12.toNat]!.dc<p.t10[p.t12.toNat]!.aa)then O (wE)else O (wF (p.t10[p.t12.toNat]!.af<p.t10[p.t12.toNat]!.dc))else O (wD)with|wC=>wC|O r5=>bif r5 then O (wC)else O (O (sB.mk p.t0 p.t10 p.t11 (i64.wrap (p.t12+1))))else wC else wC else O (wC)
def VC:An:=(.two .no (.two .no (.two (.two .no (.two .no (.two .no (.two .no (.two .no (.two .no (.two (.rb [] 29) (.two .no (.two (.two .no (.two .no (.two (.rb [] 38) (.two .no (.rb [] 38))))) .no))))))))) .no)))
def EK:sB->Option sB:=bw (uV)
abbrev anZ:Type:=Int
def d210:Td 0 anZ:= .c [] [2] (.r 0 0 (ec 2 (qi .i64) en) sn (fun z=>z.1.1) (fun x=>((x,()),(()))) fun _=>rfl)
theorem OH:∀f∈([]:List Nat),aV (arq) f:=aC
def Z6(a0:List aN):Option anZ:=
 match EK (sB.mk a0 a0 (↑a0.length:Int) (0))with|wC=>wC|O r8=>bif wF (r8.t12<r8.t11)then if(0:Int)<=r8.t12/\r8.t12<(↑r8.t10.length:Int)then match Lm r8.t10[r8.t12.toNat]!.fName with|wC=>wC|O r9=>bif bif r9 then wD else wE then O (7)else if(0:Int)<=r8.t12/\r8.t12<=(↑r8.t0.length:Int)then match Xb (List.take r8.t12.toNat r8.t0) r8.t10[r8.t12.toNat]! with|wC=>wC|O r10=>bif r10 then O (8)else match bif wF (r8.t10[r8.t12.toNat]!.aY<0)then O (wE)else O (wF (3<r8.t10[r8.t12.toNat]!.aY))with|wC=>wC|O r11=>bif r11 then O (1)else bif bif GR r8.t10[r8.t12.toNat]!.aa r8.t10[r8.t12.toNat]!.af then wD else wE then O (3)else match bif bif wF (r8.t10[r8.t12.toNat]!.aY=0)then wD else wE then O (bif wF (r8.t10[r8.t12.toNat]!.dc=0)then wD else wE)else O (wD)with|wC=>wC|O r12=>bif r12 then O (3)else match bif wF (r8.t10[r8.t12.toNat]!.aY=0)then bif wF (r8.t10[r8.t12.toNat]!.dc<r8.t10[r8.t12.toNat]!.aa)then O (wE)else O (wF (r8.t10[r8.t12.toNat]!.af<r8.t10[r8.t12.toNat]!.dc))else O (wD)with|wC=>wC|O r13=>bif r13 then O (3)else wC else wC else wC else match pL (ry.mk r8.t0 [1,2,3] (↑3:Int) (0))with|wC=>wC|O r14=>bif wF (r14.t73<r14.t72)then if(0:Int)<=r14.t73/\r14.t73<(↑r14.t71.length:Int)then if 129=129/\r14.t73.toNat<r14.t71.length then match WH r14.t0 r14.t71[r14.t73.toNat]! with|wC=>wC|O r15=>match bif bif wF (r15.snd=0)then wD else wE then O (wE)else bif wF (((r14.t0,(),r14.t72,r14.t73,()),r14.t71,()).snd.fst[((r14.t0,(),r14.t72,r14.t73,()),r14.t71,()).fst.snd.snd.snd.fst.toNat]! =3)then O (wF (256<r15.fst))else O (wD)with|wC=>wC|O r16=>bif r16 then O (4)else wC else wC else wC else O (0)
def arp:aI->aI:=eL wG 210 wD (lc (ql 131) ln) d210 (fun g=>Z6 g.1)
theorem X8:EO arp:=fun h=>kL (F:=arq) (an:=(.two .no (.two (.two .no (LP.lp EK VC)) (.two (.two .no (NQ.lp pL UX)) .no)))) (l:=[(aU f210 0,(LP.lp EK VC)),(.skip,(.rb [] 29)),(.skip,(.rb [] 38)),(.skip,(.rb [] 38)),(aU f210 1,(NQ.lp pL UX)),(.skip,(.rb [] 92))]) func210 (X5 (Ot (aei (Q7 aK)))) (az (aO LP) (az OH (az OH (az OH (az (aO NQ) (az OH aC)))))) h
abbrev arf:Type:=Bool
def d265:Td 0 arf:= .c [] [3] (.r 0 0 (ec 3 qb en) sn (fun z=>z.1.1) (fun x=>((x,()),(()))) fun _=>rfl)
def Xc(a0:cA)(c0:cA):arf:=
 a0.fName.toList==c0.fName.toList
def ate:aI->aI:=eL wG 265 wD (lc (qg 139) (lc (qr (lg 139)) ln)) d265 (fun g=>O (Xc g.1 g.2.1))
theorem Pt:EO ate:=fun h=>kL (an:= .no) func265 aK aC h
structure rV where
 t0:List cA
 nc:ByteArray
 (mI mR mw mU:Int)
 Gg:List aq
 (t7 t8:Int)
def LD:Td 0 rV:= .c [] [0,1,7,8] (.r 0 0 (ec 0 (ql 139) (ec 1 (qf 265 (lc (qr (lc qs (lc (qi .i64) (lc (qi .i64) (lc (qi .i64) (lc (qi .i64) (lc (ql 137) ln))))))) ln)) (ec 7 (qi .i64) (ec 8 (qi .i64) en)))) sn (fun z=>⟨z.1.1,z.1.2.1.1.1,z.1.2.1.1.2.1,z.1.2.1.1.2.2.1,z.1.2.1.1.2.2.2.1,z.1.2.1.1.2.2.2.2.1,z.1.2.1.1.2.2.2.2.2.1,z.1.2.2.1,z.1.2.2.2.1⟩) (fun x=>((x.t0,((x.nc,x.mI,x.mR,x.mw,x.mU,x.Gg,()),()),x.t7,x.t8,()),(()))) fun _=>rfl)
def GD(p:rV):Option (Option rV):=
 bif wF (p.t8<p.t7)then if(0:Int)<=p.t8/\p.t8<(↑p.t0.length:Int)then bif Xc (cA.mk p.t0[p.t8.toNat]!.fName p.t0[p.t8.toNat]!.aa p.t0[p.t8.toNat]!.af (aq.mk p.t0[p.t8.toNat]!.ay.aW p.t0[p.t8.toNat]!.ay.fN p.t0[p.t8.toNat]!.ay.ak)) (cA.mk p.nc p.mI p.mR (aq.mk p.mw p.mU p.Gg))then O (wC)else O (O (rV.mk p.t0 p.nc p.mI p.mR p.mw p.mU p.Gg p.t7 (i64.wrap (p.t8+1))))else wC else O (wC)
def FN:rV->Option rV:=bw (GD)
abbrev apj:Type:=Int
def d305:Td 0 apj:= .c [] [4] (.r 0 0 (ec 4 (qi .i64) en) sn (fun z=>z.1.1) (fun x=>((x,()),(()))) fun _=>rfl)
def aj6(a0:List cA)(a1_0:cA):Option apj:=
 match FN (rV.mk a0 a1_0.fName a1_0.aa a1_0.af a1_0.ay.aW a1_0.ay.fN a1_0.ay.ak (↑a0.length:Int) (0))with|wC=>wC|O r1=>bif wF (r1.t8<r1.t7)then if(0:Int)<=r1.t8/\r1.t8<(↑r1.t0.length:Int)then bif Xc (cA.mk r1.t0[r1.t8.toNat]!.fName r1.t0[r1.t8.toNat]!.aa r1.t0[r1.t8.toNat]!.af (aq.mk r1.t0[r1.t8.toNat]!.ay.aW r1.t0[r1.t8.toNat]!.ay.fN r1.t0[r1.t8.toNat]!.ay.ak)) (cA.mk r1.nc r1.mI r1.mR (aq.mk r1.mw r1.mU r1.Gg))then O (r1.t8)else wC else wC else O (-1)
def atJ:aI->aI:=eL wG 305 wE (lc (ql 139) (lc (qf 265 (lc (qr (lg 139)) ln)) ln)) d305 (fun g=>aj6 g.1 g.2.1.1)
theorem Y3:EO atJ:=fun h=>kL (an:=(.two .no (.two (.two .no (LD.lp FN .no)) .no))) (l:=[(aU f305 0,(LD.lp FN .no))]) func305 (Pt aK) (az (aO LD) aC) h
abbrev apX:Type:=Bool
def d266:Td 0 apX:= .c [] [4] (.r 0 0 (ec 4 qb en) sn (fun z=>z.1.1) (fun x=>((x,()),(()))) fun _=>rfl)
def TR(a0:List cA)(a1_0:cA):Option apX:=
 match aj6 a0 (cA.mk a1_0.fName a1_0.aa a1_0.af (aq.mk a1_0.ay.aW a1_0.ay.fN a1_0.ay.ak))with|wC=>wC|O r1=>O (wF (0<=r1))
def asY:aI->aI:=eL wG 266 wE (lc (ql 139) (lc (qf 265 (lc (qr (lg 139)) ln)) ln)) d266 (fun g=>TR g.1 g.2.1.1)
theorem abS:EO asY:=fun h=>kL (an:= .no) func266 (Y3 (Pt aK)) aC h
def aiF:aI:=cQ
abbrev akC:Type:=Int×Int
def d338:Td 0 akC:= .c [] [2,3] (.r 0 0 (ec 2 (qi .i64) (ec 3 (qi .i64) en)) sn (fun z=>(z.1.1,z.1.2.1)) (fun x=>((x.1,x.2,()),(()))) fun _=>rfl)
def aou:=(lc (qi .i64) ln)
def afy:An:=(.two .no (.two (.two (.rb [] 4) (.two .no (.two (.rb [] 11) (.two .no (.two (.rb [] 18) .no))))) .no))
theorem W0:∀f∈([]:List Nat),aV (aiF) f:=aC
def JV(a0:Int):akC:=
 let r1:Bool:=bif wF (a0=0)then wE else wF (a0=24);bif r1 then(0,0)else let r2:Bool:=bif wF (a0=6)then wE else wF (a0=7);bif r2 then(1,1)else let r3:Bool:=bif wF (8<=a0)then wF (a0<=22)else wD;bif r3 then(2,2)else bif wF (a0=23)then(3,3)else bif wF (a0=25)then(2,33)else(-1,-1)
theorem auM(a0:Int):bN wG (aiF) 300 (afy) 338 (aou.c (a0,())) [] 0 d338.rd=O (JV a0):=by
 refine Eq.trans (b:=(
  match bif wF (a0=0)then O (wE)else O (wF (a0=24))with|wC=>wC|O r1=>bif r1 then O ((0,0))else match bif wF (a0=6)then O (wE)else O (wF (a0=7))with|wC=>wC|O r2=>bif r2 then O ((1,1))else match bif wF (8<=a0)then O (wF (a0<=22))else O (wD)with|wC=>wC|O r3=>bif r3 then O ((2,2))else bif wF (a0=23)then O ((3,3))else bif wF (a0=25)then O ((2,33))else O ((-1,-1)):Option akC)) (by kernel_rfl) ?_
 simp only[JV,bZ,cu]
def aqH:aI->aI:=eL wG 338 wD aou d338 (fun g=>O (JV g.1))
theorem aeq:EO aqH:=fun h=>kL (F:=aiF) (an:=afy) (l:=[(.skip,(.rb [] 4)),(.skip,(.rb [] 11)),(.skip,(.rb [] 18))]) func338 aK (az W0 (az W0 (az W0 aC))) h (c:=fun g=>auM g.1)
abbrev qL:Type:=Bool
def d306:Td 0 qL:= .c [] [6] (.r 0 0 (ec 6 qb en) sn (fun z=>z.1.1) (fun x=>((x,()),(()))) fun _=>rfl)
def akX:=(lc (ql 131) (lc (qg 137) (lc qb ln)))
def ag5(M:(List aN)->aq->Bool->Option qL):aI->aI:=eL wG 306 wD akX d306 (fun g=>M g.1 g.2.1 g.2.2.1)
def ZJ(M:(List aN)->aq->Bool->Option qL):Prop:=HL wG 306 akX d306 (fun g=>M g.1 g.2.1 g.2.2.1)
theorem Oq{M:(List aN)->aq->Bool->Option qL}(hM:ZJ M){F:aI}(h:bf wG F):bf wG (ag5 M F):=gx (sc:=Ay) dS hM ⟨_,func306,by kernel_rfl,by kernel_rfl⟩ (fun _=>by kernel_rfl) (fun _=>by kernel_rfl) h
def aal(M306:(List aN)->aq->Bool->Option qL):aI:=(aqH (ag5 M306 cQ))
theorem ZI{M306}(h306:ZJ M306):bf wG (aal M306):=(aeq (Oq h306 aK))
structure nh where
 t0:List aN
 t2:Bool
 t65:List aq
 (t66 t67:Int)
def Mh:Td 0 nh:= .c [] [0,2,65,66,67] (.r 0 0 (ec 0 (ql 131) (ec 2 qb (ec 65 (ql 137) (ec 66 (qi .i64) (ec 67 (qi .i64) en))))) sn (fun z=>⟨z.1.1,z.1.2.1,z.1.2.2.1,z.1.2.2.2.1,z.1.2.2.2.2.1⟩) (fun x=>((x.t0,x.t2,x.t65,x.t66,x.t67,()),(()))) fun _=>rfl)
def G5(M306:(List aN)->aq->Bool->Option qL)(p:nh):Option (Option nh):=
 bif wF (p.t67<p.t66)then if(0:Int)<=p.t67/\p.t67<(↑p.t65.length:Int)then match M306 p.t0 (aq.mk p.t65[p.t67.toNat]!.aW p.t65[p.t67.toNat]!.fN p.t65[p.t67.toNat]!.ak) p.t2 with|wC=>wC|O r1=>bif bif r1 then wD else wE then O (wC)else O (O (nh.mk p.t0 p.t2 p.t65 p.t66 (i64.wrap (p.t67+1))))else wC else O (wC)
def v7(M306:(List aN)->aq->Bool->Option qL):nh->Option nh:=bw (G5 M306)
def aft(M306:(List aN)->aq->Bool->Option qL):An:=(.two .no (.two .no (.two (.two (.rb [] 32) .no) (.two (.two .no (.two .no (.two .no (.two .no (.two (.two (.rb [] 63) .no) .no))))) (.two (.two .no (Mh.lp (v7 M306) .no)) .no)))))
theorem agu{M306}:∀f∈([]:List Nat),aV (aal M306) f:=aC
theorem aoW(M306:(List aN)->aq->Bool->Option qL):eW wG (aal M306) 0 300 306 (aft M306):=bV (l:=[(.skip,(.rb [] 32)),(.skip,(.rb [] 63)),(aU f306 0,(Mh.lp (v7 M306) .no))]) func306 (bB (by kernel_rfl)) (by kernel_rfl) (az agu (az agu (az (aO Mh) aC)))
def Y6(M306:(List aN)->aq->Bool->Option qL)(a0:List aN)(a1:aq)(a2:Bool):Option qL:=
 match bif wF ((JV a1.aW).fst<0)then O (wE)else bif wF ((↑a1.ak.length:Int)<(JV a1.aW).fst)then O (wE)else O (wF ((JV a1.aW).snd<(↑a1.ak.length:Int)))with|wC=>wC|O r2=>bif r2 then O (wD)else bif wF (a1.aW=0)then match v7 M306 (nh.mk a0 a2 a1.ak (↑a1.ak.length:Int) (0))with|wC=>wC|O r3=>bif wF (r3.t67<r3.t66)then if(0:Int)<=r3.t67/\r3.t67<(↑r3.t65.length:Int)then match M306 r3.t0 (aq.mk r3.t65[r3.t67.toNat]!.aW r3.t65[r3.t67.toNat]!.fN r3.t65[r3.t67.toNat]!.ak) r3.t2 with|wC=>wC|O r4=>bif bif r4 then wD else wE then O (wD)else wC else wC else O (wE)else bif wF (a1.aW=24)then match bif wF (a1.fN<0)then O (wE)else bif wF ((↑a0.length:Int)<=a1.fN)then O (wE)else bif a2 then if(0:Int)<=a1.fN/\a1.fN<(↑a0.length:Int)then O (wF (a0[a1.fN.toNat]!.aY=0))else wC else O (wD)with|wC=>wC|O r5=>bif r5 then O (wD)else match v7 M306 (nh.mk a0 a2 a1.ak (↑a1.ak.length:Int) (0))with|wC=>wC|O r6=>bif wF (r6.t67<r6.t66)then if(0:Int)<=r6.t67/\r6.t67<(↑r6.t65.length:Int)then match M306 r6.t0 (aq.mk r6.t65[r6.t67.toNat]!.aW r6.t65[r6.t67.toNat]!.fN r6.t65[r6.t67.toNat]!.ak) r6.t2 with|wC=>wC|O r7=>bif bif r7 then wD else wE then O (wD)else wC else wC else O (wE)else bif bif wF (a1.fN=0)then wD else wE then O (wD)else match v7 M306 (nh.mk a0 a2 a1.ak (↑a1.ak.length:Int) (0))with|wC=>wC|O r8=>bif wF (r8.t67<r8.t66)then if(0:Int)<=r8.t67/\r8.t67<(↑r8.t65.length:Int)then match M306 r8.t0 (aq.mk r8.t65[r8.t67.toNat]!.aW r8.t65[r8.t67.toNat]!.fN r8.t65[r8.t67.toNat]!.ak) r8.t2 with|wC=>wC|O r9=>bif bif r9 then wD else wE then O (wD)else wC else wC else O (wE)
theorem auN(M306:(List aN)->aq->Bool->Option qL)(a0:List aN)(a1:aq)(a2:Bool):bN wG (aal M306) 300 (aft M306) 306 (akX.c (a0,a1,a2,())) [] 0 d306.rd=Y6 M306 a0 a1 a2:=by kernel_rfl
def aeM:Nat->((List aN)->aq->Bool->Option qL)
 |0=>(fun _ _ _=>wC)
 |n+1=>(Y6 (aeM n))
def Ny(n:Nat):(List aN)->aq->Bool->Option qL:=(aeM n)
theorem IA:∀n,ZJ (Ny n)
 |0=>fun _ _ h=>(by cases h)
 |n+1=>by
  have ih:=IA n
  have i306:=ih
  exact(dH (ZI i306) (aoW (Ny n)) (fun _=>by kernel_rfl) (fun _=>by kernel_rfl) fun g=>auN (Ny n) g.1 g.2.1 g.2.2.1)
def ZW:(List aN)->aq->Bool->Option qL:=fun a0 a1 a2=>lim (fun n=>Ny n a0 a1 a2)
theorem adQ:ZJ ZW:=fun g b h=>by
 obtain⟨n,hn⟩:=cD (show lim (fun n=>Ny n g.1 g.2.1 g.2.2.1)=O b from h)
 exact(IA n) g b hn
def atF(F:aI):aI:=ag5 ZW F
theorem aao{F:aI}(h:bf wG F):bf wG (atF F):=Oq adQ h
abbrev aoB:Type:=Int
def d350:Td 0 aoB:= .c [] [4] (.r 0 0 (ec 4 (qi .i64) en) sn (fun z=>z.1.1) (fun x=>((x,()),(()))) fun _=>rfl)
def uL(a0:Int)(a1:Int):aoB:=
 i64.wrap (a0*a1)
def ari:aI->aI:=eL wG 350 wD (lc (qi .i64) (lc (qi .i64) ln)) d350 (fun g=>O (uL g.1 g.2.1))
theorem Ol:EO ari:=fun h=>kL (an:= .no) func350 aK aC h
def at9:aI:=cQ
abbrev aj8:Type:=Span
def d351:Td 0 aj8:= .c [] [4] (.r 0 1 (ec 4 (qp 0 0) en) (sb 0 331 (lg 331) sn) (fun z=>z.2.1) (fun x=>(((),()),(x,()))) fun _=>rfl)
def apE:=(lc (qg 331) (lc (qg 331) ln))
def agv:An:= .no
def SO(a0:Span)(a1:Span):aj8:=
 Span.mk (if a1.aa<a0.aa then a1.aa else a0.aa) (if a0.af<a1.af then a1.af else a0.af)
theorem au0(a0:Span)(a1:Span):bN wG (at9) 300 (agv) 351 (apE.c (a0,a1,())) [] 0 d351.rd=O (SO a0 a1):=by
 refine Eq.trans (b:=(
  O (Span.mk (if a1.aa<a0.aa then a1.aa else a0.aa) (if a0.af<a1.af then a1.af else a0.af)):Option aj8)) (by kernel_rfl) ?_
 simp only[SO,bZ,cu]
def al7:aI->aI:=eL wG 351 wD apE d351 (fun g=>O (SO g.1 g.2.1))
theorem N1:EO al7:=fun h=>kL (an:=agv) func351 aK aC h (c:=fun g=>au0 g.1 g.2.1)
structure se where
 t38:List Int
 (t39 t40:Int)
 (b0 b1:Span)
def Mo:Td 0 se:= .c [] [6,8,38,39,40] (.r 0 3 (ec 6 (qp 0 0) (ec 8 (qp 1 0) (ec 38 (qo 2) (ec 39 (qi .i64) (ec 40 (qi .i64) en))))) (sb 0 331 (lg 331) (sb 1 331 (lg 331) (sr 2 3 sn))) (fun z=>⟨z.2.2.2.1,z.1.2.2.2.1,z.1.2.2.2.2.1,z.2.1,z.2.2.1⟩) (fun x=>(((),(),(),x.t39,x.t40,()),(x.b0,x.b1,x.t38,()))) fun _=>rfl)
def ob(p:se):Option (Option se):=
 bif wF (p.t40<p.t39)then if(0:Int)<=p.t40/\p.t40<(↑p.t38.length:Int)then if 3=3/\p.t40.toNat<p.t38.length then O (O (se.mk p.t38 p.t39 (i64.wrap (p.t40+1)) p.b0 (SO p.b1 (Span.mk p.t38[p.t40.toNat]! p.t38[p.t40.toNat]!))))else wC else wC else O (wC)
def BQ:se->Option se:=bw (ob)
abbrev anE:Type:=Span
def d349:Td 0 anE:= .c [] [6] (.r 0 1 (ec 6 (qp 0 0) en) (sb 0 331 (lg 331) sn) (fun z=>z.2.1) (fun x=>(((),()),(x,()))) fun _=>rfl)
def ac3(a0:Span)(a1:Span):Option anE:=
 match BQ (se.mk [uL a0.aa a1.af,uL a0.af a1.aa,uL a0.af a1.af] (↑[uL a0.aa a1.af,uL a0.af a1.aa,uL a0.af a1.af].length:Int) (0) (Span.mk (0) (0)) (Span.mk (uL a0.aa a1.aa) (uL a0.aa a1.aa)))with|wC=>wC|O r1=>bif wF (r1.t40<r1.t39)then if(0:Int)<=r1.t40/\r1.t40<(↑r1.t38.length:Int)then if 3=3/\r1.t40.toNat<r1.t38.length then wC else wC else wC else O (r1.b1)
def amX:aI->aI:=eL wG 349 wD (lc (qg 331) (lc (qg 331) (lc (qf 350 ln) ln))) d349 (fun g=>ac3 g.1 g.2.1)
theorem Y4:EO amX:=fun h=>kL (an:=(.two .no (.two .no (.two .no (.two (.two .no (Mo.lp BQ .no)) .no))))) (l:=[(aU f349 0,(Mo.lp BQ .no))]) func349 (N1 (Ol aK)) (az (aO Mo) aC) h
def aok:aI:=(al7 (ari (amX cQ)))
structure og where
 t207:List Span
 (t208 t209:Int)
 (b0 b1:Span)
def Mq:Td 0 og:= .c [] [6,9,207,208,209] (.r 0 2 (ec 6 (qp 0 0) (ec 9 (qp 1 0) (ec 207 (ql 331) (ec 208 (qi .i64) (ec 209 (qi .i64) en))))) (sb 0 331 (lg 331) (sb 1 331 (lg 331) sn)) (fun z=>⟨z.1.2.2.1,z.1.2.2.2.1,z.1.2.2.2.2.1,z.2.1,z.2.2.1⟩) (fun x=>(((),(),x.t207,x.t208,x.t209,()),(x.b0,x.b1,()))) fun _=>rfl)
def G7(p:og):Option (Option og):=
 bif wF (p.t209<p.t208)then if(0:Int)<=p.t209/\p.t209<(↑p.t207.length:Int)then O (O (og.mk p.t207 p.t208 (i64.wrap (p.t209+1)) p.b0 (SO p.b1 p.t207[p.t209.toNat]!)))else wC else O (wC)
def C1:og->Option og:=bw (G7)
abbrev aqe:Type:=Span
def d339:Td 0 aqe:= .c [] [6] (.r 0 1 (ec 6 (qp 0 0) en) (sb 0 331 (lg 331) sn) (fun z=>z.2.1) (fun x=>(((),()),(x,()))) fun _=>rfl)
theorem aqg:∀f∈([]:List Nat),aV (aok) f:=aC
def Yr(a0:List aN)(a1:aq)(a2:List Span):Option aqe:=
 bif wF (a1.aW=0)then O (Span.mk a1.fN a1.fN)else bif wF (a1.aW=24)then if(0:Int)<=a1.fN/\a1.fN<(↑a0.length:Int)then if(0:Int)<=a1.fN/\a1.fN<(↑a0.length:Int)then O (Span.mk a0[a1.fN.toNat]!.aa a0[a1.fN.toNat]!.af)else wC else wC else bif wF (a1.aW=6)then if(0:Int)<=(0:Int)/\(0:Int)<(↑a2.length:Int)then if(0:Int)<=(0:Int)/\(0:Int)<(↑a2.length:Int)then O (Span.mk (i64.wrap (0-a2[0]!.af)) (i64.wrap (0-a2[0]!.aa)))else wC else wC else bif wF (a1.aW=8)then if(0:Int)<=(0:Int)/\(0:Int)<(↑a2.length:Int)then if(0:Int)<=(1:Int)/\(1:Int)<(↑a2.length:Int)then if(0:Int)<=(0:Int)/\(0:Int)<(↑a2.length:Int)then if(0:Int)<=(1:Int)/\(1:Int)<(↑a2.length:Int)then O (Span.mk (i64.wrap (a2[0]!.aa+a2[1]!.aa)) (i64.wrap (a2[0]!.af+a2[1]!.af)))else wC else wC else wC else wC else bif wF (a1.aW=9)then if(0:Int)<=(0:Int)/\(0:Int)<(↑a2.length:Int)then if(0:Int)<=(1:Int)/\(1:Int)<(↑a2.length:Int)then if(0:Int)<=(0:Int)/\(0:Int)<(↑a2.length:Int)then if(0:Int)<=(1:Int)/\(1:Int)<(↑a2.length:Int)then O (Span.mk (i64.wrap (a2[0]!.aa-a2[1]!.af)) (i64.wrap (a2[0]!.af-a2[1]!.aa)))else wC else wC else wC else wC else bif wF (a1.aW=10)then if(0:Int)<=(0:Int)/\(0:Int)<(↑a2.length:Int)then if(0:Int)<=(1:Int)/\(1:Int)<(↑a2.length:Int)then match ac3 a2[0]! a2[1]! with|wC=>wC|O r1=>O (r1)else wC else wC else bif wF (a1.aW=11)then if(0:Int)<=(0:Int)/\(0:Int)<(↑a2.length:Int)then if(0:Int)<=(0:Int)/\(0:Int)<(↑a2.length:Int)then match if(0:Int)<=(0:Int)/\(0:Int)<(↑a2.length:Int)then bif wF (0<=a2[0]!.aa)then if(0:Int)<=(1:Int)/\(1:Int)<(↑a2.length:Int)then O (wF (0<=a2[1]!.aa))else wC else O (wD)else wC with|wC=>wC|O r2=>bif r2 then O (Span.mk (0) (if a2[0]!.af<i64.wrap (0-a2[0]!.aa)then i64.wrap (0-a2[0]!.aa)else a2[0]!.af))else O (Span.mk (i64.wrap (0-if a2[0]!.af<i64.wrap (0-a2[0]!.aa)then i64.wrap (0-a2[0]!.aa)else a2[0]!.af)) (if a2[0]!.af<i64.wrap (0-a2[0]!.aa)then i64.wrap (0-a2[0]!.aa)else a2[0]!.af))else wC else wC else bif wF (a1.aW=12)then if(0:Int)<=(1:Int)/\(1:Int)<(↑a2.length:Int)then bif wF (a2[1]!.aa<0)then if(0:Int)<=(1:Int)/\(1:Int)<(↑a2.length:Int)then if(0:Int)<=(1:Int)/\(1:Int)<(↑a2.length:Int)then bif wF (0<a2[1]!.af)then if(0:Int)<=(1:Int)/\(1:Int)<(↑a2.length:Int)then O (Span.mk (if 0<i64.wrap (a2[1]!.aa+1)then 0 else i64.wrap (a2[1]!.aa+1)) (if i64.wrap (a2[1]!.af-1)<0 then 0 else i64.wrap (a2[1]!.af-1)))else wC else O (Span.mk (if 0<i64.wrap (a2[1]!.aa+1)then 0 else i64.wrap (a2[1]!.aa+1)) (0))else wC else wC else if(0:Int)<=(1:Int)/\(1:Int)<(↑a2.length:Int)then bif wF (0<a2[1]!.af)then if(0:Int)<=(1:Int)/\(1:Int)<(↑a2.length:Int)then O (Span.mk (0) (if i64.wrap (a2[1]!.af-1)<0 then 0 else i64.wrap (a2[1]!.af-1)))else wC else O (Span.mk (0) (0))else wC else wC else bif wF (a1.aW=21)then if(0:Int)<=(0:Int)/\(0:Int)<(↑a2.length:Int)then if(0:Int)<=(1:Int)/\(1:Int)<(↑a2.length:Int)then if(0:Int)<=(0:Int)/\(0:Int)<(↑a2.length:Int)then if(0:Int)<=(1:Int)/\(1:Int)<(↑a2.length:Int)then O (Span.mk (if a2[1]!.aa<a2[0]!.aa then a2[1]!.aa else a2[0]!.aa) (if a2[1]!.af<a2[0]!.af then a2[1]!.af else a2[0]!.af))else wC else wC else wC else wC else bif wF (a1.aW=22)then if(0:Int)<=(0:Int)/\(0:Int)<(↑a2.length:Int)then if(0:Int)<=(1:Int)/\(1:Int)<(↑a2.length:Int)then if(0:Int)<=(0:Int)/\(0:Int)<(↑a2.length:Int)then if(0:Int)<=(1:Int)/\(1:Int)<(↑a2.length:Int)then O (Span.mk (if a2[0]!.aa<a2[1]!.aa then a2[1]!.aa else a2[0]!.aa) (if a2[0]!.af<a2[1]!.af then a2[1]!.af else a2[0]!.af))else wC else wC else wC else wC else bif wF (a1.aW=23)then if(0:Int)<=(1:Int)/\(1:Int)<(↑a2.length:Int)then if(0:Int)<=(2:Int)/\(2:Int)<=(↑a2.length:Int)then match C1 (og.mk (z6 2 a2) (↑(z6 2 a2).length:Int) (0) (Span.mk (0) (0)) a2[1]!)with|wC=>wC|O r3=>bif wF (r3.t209<r3.t208)then if(0:Int)<=r3.t209/\r3.t209<(↑r3.t207.length:Int)then wC else wC else O (r3.b1)else wC else wC else bif wF (a1.aW=25)then if(0:Int)<=(1:Int)/\(1:Int)<(↑a2.length:Int)then if(0:Int)<=(2:Int)/\(2:Int)<=(↑a2.length:Int)then match C1 (og.mk (z6 2 a2) (↑(z6 2 a2).length:Int) (0) (Span.mk (0) (0)) a2[1]!)with|wC=>wC|O r4=>bif wF (r4.t209<r4.t208)then if(0:Int)<=r4.t209/\r4.t209<(↑r4.t207.length:Int)then wC else wC else O (r4.b1)else wC else wC else O (Span.mk (0) (1))
def apH:aI->aI:=eL wG 339 wD (lc (ql 131) (lc (qg 137) (lc (ql 331) ln))) d339 (fun g=>Yr g.1 g.2.1 g.2.2.1)
theorem abB:EO apH:=fun h=>kL (F:=aok) (an:=(.two .no (.two (.two .no (.two .no (.two .no (.two .no (.two .no (.two .no (.two .no (.two .no (.two .no (.two .no (.two .no (.two .no (.two .no (.two .no (.two (.two .no (.two (.two (.rb [] 123) .no) .no)) (.two .no (.two .no (.two .no (.two .no (.two .no (.two .no (.two .no (.two (.two .no (.two (.two .no (Mq.lp C1 .no)) .no)) .no))))))))))))))))))))))) .no))) (l:=[(.skip,(.rb [] 123)),(aU f339 0,(Mq.lp C1 .no))]) func339 (N1 (Ol (Y4 aK))) (az aqg (az (aO Mq) aC)) h
abbrev qF:Type:=Span×Bool
def d307:Td 0 qF:= .c [] [4,5] (.r 0 1 (ec 4 (qp 0 0) (ec 5 qb en)) (sb 0 331 (lg 331) sn) (fun z=>(z.2.1,z.1.2.1)) (fun x=>(((),x.2,()),(x.1,()))) fun _=>rfl)
def aiw:=(lc (ql 131) (lc (qg 137) ln))
def ah1(M:(List aN)->aq->Option qF):aI->aI:=eL wG 307 wD aiw d307 (fun g=>M g.1 g.2.1)
def aex(M:(List aN)->aq->Option qF):Prop:=HL wG 307 aiw d307 (fun g=>M g.1 g.2.1)
theorem QK{M:(List aN)->aq->Option qF}(hM:aex M){F:aI}(h:bf wG F):bf wG (ah1 M F):=gx (sc:=Ay) dS hM ⟨_,func307,by kernel_rfl,by kernel_rfl⟩ (fun _=>by kernel_rfl) (fun _=>by kernel_rfl) h
def ah7(M307:(List aN)->aq->Option qF):aI:=(apH (ah1 M307 cQ))
theorem YZ{M307}(h307:aex M307):bf wG (ah7 M307):=(abB (QK h307 aK))
structure sy where
 t0:List aN
 t6:List Span
 t13:List aq
 (t14 t15:Int)
 b0:aq
 b1:Span
def L7:Td 0 sy:= .c [] [0,3,4,6,13,14,15] (.t (cq.s 6 [] 331) (.c [] [0,3,4,6,13,14,15] (.r 0 3 (ec 0 (ql 131) (ec 3 (qp 0 0) (ec 4 (qp 1 0) (ec 6 (qo 2) (ec 13 (ql 137) (ec 14 (qi .i64) (ec 15 (qi .i64) en))))))) (sb 0 137 (lg 137) (sb 1 331 (lg 331) (sr 2 331 sn))) (fun z=>⟨z.1.1,z.2.2.2.1,z.1.2.2.2.2.1,z.1.2.2.2.2.2.1,z.1.2.2.2.2.2.2.1,z.2.1,z.2.2.1⟩) (fun x=>((x.t0,(),(),(),x.t13,x.t14,x.t15,()),(x.b0,x.b1,x.t6,()))) fun _=>rfl)))
def Dp(M307:(List aN)->aq->Option qF)(p:sy):Option (Option sy):=
 bif wF (p.t15<p.t14)then if(0:Int)<=p.t15/\p.t15<(↑p.t13.length:Int)then match M307 p.t0 (aq.mk p.t13[p.t15.toNat]!.aW p.t13[p.t15.toNat]!.fN p.t13[p.t15.toNat]!.ak)with|wC=>wC|O r1=>bif bif r1.snd then wD else wE then O (wC)else if(p.t6++[r1.fst]).length<=1073741824 then O (O (sy.mk p.t0 (p.t6++[r1.fst]) p.t13 p.t14 (i64.wrap (p.t15+1)) (aq.mk p.b0.aW p.b0.fN p.b0.ak) p.b1))else wC else wC else O (wC)
def Fj(M307:(List aN)->aq->Option qF):sy->Option sy:=bw (Dp M307)
def afb(M307:(List aN)->aq->Option qF):An:=(.two .no (.two .no (.two (.two .no (L7.lp (Fj M307) .no)) .no)))
theorem apJ(M307:(List aN)->aq->Option qF):eW wG (ah7 M307) 0 300 307 (afb M307):=bV (l:=[(aU f307 0,(L7.lp (Fj M307) .no))]) func307 (bB (by kernel_rfl)) (by kernel_rfl) (az (aO L7) aC)
def abC(M307:(List aN)->aq->Option qF)(a0:List aN)(a1:aq):Option qF:=
 match Fj M307 (sy.mk a0 [] a1.ak (↑a1.ak.length:Int) (0) (aq.mk a1.aW a1.fN a1.ak) (Span.mk (0) (0)))with|wC=>wC|O r2=>bif wF (r2.t15<r2.t14)then if(0:Int)<=r2.t15/\r2.t15<(↑r2.t13.length:Int)then match M307 r2.t0 (aq.mk r2.t13[r2.t15.toNat]!.aW r2.t13[r2.t15.toNat]!.fN r2.t13[r2.t15.toNat]!.ak)with|wC=>wC|O r3=>bif bif r3.snd then wD else wE then O ((Span.mk (0) (0),wD))else if(r2.t6++[r3.fst]).length<=1073741824 then wC else wC else wC else match Yr r2.t0 (aq.mk r2.b0.aW r2.b0.fN r2.b0.ak) r2.t6 with|wC=>wC|O r4=>bif wF (-1048576<=r4.aa)then O ((r4,wF (r4.af<=1048576)))else O ((r4,wD))
theorem au7(M307:(List aN)->aq->Option qF)(a0:List aN)(a1:aq):bN wG (ah7 M307) 300 (afb M307) 307 (aiw.c (a0,a1,())) [] 0 d307.rd=abC M307 a0 a1:=by kernel_rfl
def afE:Nat->((List aN)->aq->Option qF)
 |0=>(fun _ _=>wC)
 |n+1=>(abC (afE n))
def Md(n:Nat):(List aN)->aq->Option qF:=(afE n)
theorem IZ:∀n,aex (Md n)
 |0=>fun _ _ h=>(by cases h)
 |n+1=>by
  have ih:=IZ n
  have i307:=ih
  exact(dH (YZ i307) (apJ (Md n)) (fun _=>by kernel_rfl) (fun _=>by kernel_rfl) fun g=>au7 (Md n) g.1 g.2.1)
def ZB:(List aN)->aq->Option qF:=fun a0 a1=>lim (fun n=>Md n a0 a1)
theorem aes:aex ZB:=fun g b h=>by
 obtain⟨n,hn⟩:=cD (show lim (fun n=>Md n g.1 g.2.1)=O b from h)
 exact(IZ n) g b hn
def asy(F:aI):aI:=ah1 ZB F
theorem ab6{F:aI}(h:bf wG F):bf wG (asy F):=QK aes h
abbrev alM:Type:=Int
def d267:Td 0 alM:= .c [] [6] (.r 0 0 (ec 6 (qi .i64) en) sn (fun z=>z.1.1) (fun x=>((x,()),(()))) fun _=>rfl)
def Na(a0:List aN)(a1:aq)(a2:Bool):Option alM:=
 match ZW a0 (aq.mk a1.aW a1.fN a1.ak) a2 with|wC=>wC|O r1=>bif bif r1 then wD else wE then O (1)else match ZB a0 (aq.mk a1.aW a1.fN a1.ak)with|wC=>wC|O r2=>bif bif r2.snd then wD else wE then O (3)else O (0)
def aiI:aI->aI:=eL wG 267 wD (lc (ql 131) (lc (qg 137) (lc qb ln))) d267 (fun g=>Na g.1 g.2.1 g.2.2.1)
theorem Om:EO aiI:=fun h=>kL (an:= .no) func267 (ab6 (aao aK)) aC h
theorem SP:EP aiI:=fun h=>kP h
structure rI where
 t8:List cA
 (t9 t10:Int)
 b0:Flat
def ME:Td 0 rI:= .c [] [1,8,9,10] (.r 0 1 (ec 1 (qp 0 0) (ec 8 (ql 139) (ec 9 (qi .i64) (ec 10 (qi .i64) en)))) (sb 0 26 (lg 26) sn) (fun z=>⟨z.1.2.1,z.1.2.2.1,z.1.2.2.2.1,z.2.1⟩) (fun x=>(((),x.t8,x.t9,x.t10,()),(x.b0,()))) fun _=>rfl)
def vk(p:rI):Option (Option rI):=
 bif wF (p.t10<p.t9)then if(0:Int)<=p.t10/\p.t10<(↑p.t8.length:Int)then match Lm p.t8[p.t10.toNat]!.fName with|wC=>wC|O r1=>bif bif r1 then wD else wE then O (wC)else if(0:Int)<=p.t10/\p.t10<=(↑p.b0.ai.length:Int)then match TR (List.take p.t10.toNat p.b0.ai) (cA.mk p.t8[p.t10.toNat]!.fName p.t8[p.t10.toNat]!.aa p.t8[p.t10.toNat]!.af (aq.mk p.t8[p.t10.toNat]!.ay.aW p.t8[p.t10.toNat]!.ay.fN p.t8[p.t10.toNat]!.ay.ak))with|wC=>wC|O r2=>bif r2 then O (wC)else bif bif GR p.t8[p.t10.toNat]!.aa p.t8[p.t10.toNat]!.af then wD else wE then O (wC)else match Na p.b0.ag (aq.mk p.t8[p.t10.toNat]!.ay.aW p.t8[p.t10.toNat]!.ay.fN p.t8[p.t10.toNat]!.ay.ak) wE with|wC=>wC|O r3=>bif bif wF (r3=0)then wD else wE then O (wC)else O (O (rI.mk p.t8 p.t9 (i64.wrap (p.t10+1)) p.b0))else wC else wC else O (wC)
def Gr:rI->Option rI:=bw (vk)
abbrev anU:Type:=Int
def d211:Td 0 anU:= .c [] [2] (.r 0 0 (ec 2 (qi .i64) en) sn (fun z=>z.1.1) (fun x=>((x,()),(()))) fun _=>rfl)
def ZM(a0:Flat):Option anU:=
 match Gr (rI.mk a0.ai (↑a0.ai.length:Int) (0) a0)with|wC=>wC|O r4=>bif wF (r4.t10<r4.t9)then if(0:Int)<=r4.t10/\r4.t10<(↑r4.t8.length:Int)then match Lm r4.t8[r4.t10.toNat]!.fName with|wC=>wC|O r5=>bif bif r5 then wD else wE then O (7)else if(0:Int)<=r4.t10/\r4.t10<=(↑r4.b0.ai.length:Int)then match TR (List.take r4.t10.toNat r4.b0.ai) (cA.mk r4.t8[r4.t10.toNat]!.fName r4.t8[r4.t10.toNat]!.aa r4.t8[r4.t10.toNat]!.af (aq.mk r4.t8[r4.t10.toNat]!.ay.aW r4.t8[r4.t10.toNat]!.ay.fN r4.t8[r4.t10.toNat]!.ay.ak))with|wC=>wC|O r6=>bif r6 then O (8)else bif bif GR r4.t8[r4.t10.toNat]!.aa r4.t8[r4.t10.toNat]!.af then wD else wE then O (3)else match Na r4.b0.ag (aq.mk r4.t8[r4.t10.toNat]!.ay.aW r4.t8[r4.t10.toNat]!.ay.fN r4.t8[r4.t10.toNat]!.ay.ak) wE with|wC=>wC|O r7=>bif bif wF (r7=0)then wD else wE then O (r7)else wC else wC else wC else O (0)
def anX:aI->aI:=eL wG 211 wD (lc (qg 26) ln) d211 (fun g=>ZM g.1)
theorem acF:EO anX:=fun h=>kL (an:=(.two .no (.two (.two .no (ME.lp Gr .no)) .no))) (l:=[(aU f211 0,(ME.lp Gr .no))]) func211 (Om (abS (Ot (Q7 aK)))) (az (aO ME) aC) h
def ag9:aI:=cQ
abbrev akw:Type:=Bool
def d308:Td 0 akw:= .c [] [2] (.r 0 0 (ec 2 qb en) sn (fun z=>z.1.1) (fun x=>((x,()),(()))) fun _=>rfl)
def am7:=(lc (qi .i64) ln)
def afx:An:=(.two .no (.two (.rb [] 2) .no))
theorem al3:∀f∈([]:List Nat),aV (ag9) f:=aC
def Rv(a0:Int):akw:=
 let r1:Bool:=bif wF (a0=0)then wE else wF (a0=5);r1
theorem ata(a0:Int):bN wG (ag9) 300 (afx) 308 (am7.c (a0,())) [] 0 d308.rd=O (Rv a0):=by
 refine Eq.trans (b:=(
  match bif wF (a0=0)then O (wE)else O (wF (a0=5))with|wC=>wC|O r1=>O (r1):Option akw)) (by kernel_rfl) ?_
 simp only[Rv,bZ,cu]
def ajy:aI->aI:=eL wG 308 wD am7 d308 (fun g=>O (Rv g.1))
theorem Y9:EO ajy:=fun h=>kL (F:=ag9) (an:=afx) (l:=[(.skip,(.rb [] 2))]) func308 aK (az al3 aC) h (c:=fun g=>ata g.1)
theorem lZ:EP ajy:=fun h=>kP h
def ajX:aI:=cQ
abbrev ajS:Type:=Bool
def d309:Td 0 ajS:= .c [] [2] (.r 0 0 (ec 2 qb en) sn (fun z=>z.1.1) (fun x=>((x,()),(()))) fun _=>rfl)
def aoE:=(lc (qi .i64) ln)
def afa:An:=(.two .no (.two (.rb [] 2) .no))
theorem anM:∀f∈([]:List Nat),aV (ajX) f:=aC
def To(a0:Int):ajS:=
 let r1:Bool:=bif wF (a0=4)then wE else wF (a0=5);r1
theorem as4(a0:Int):bN wG (ajX) 300 (afa) 309 (aoE.c (a0,())) [] 0 d309.rd=O (To a0):=by
 refine Eq.trans (b:=(
  match bif wF (a0=4)then O (wE)else O (wF (a0=5))with|wC=>wC|O r1=>O (r1):Option ajS)) (by kernel_rfl) ?_
 simp only[To,bZ,cu]
def ahz:aI->aI:=eL wG 309 wD aoE d309 (fun g=>O (To g.1))
theorem aab:EO ahz:=fun h=>kL (F:=ajX) (an:=afa) (l:=[(.skip,(.rb [] 2))]) func309 aK (az anM aC) h (c:=fun g=>as4 g.1)
theorem lN:EP ahz:=fun h=>kP h
def ajd:aI:=cQ
abbrev ahI:Type:=Bool
def d310:Td 0 ahI:= .c [] [2] (.r 0 0 (ec 2 qb en) sn (fun z=>z.1.1) (fun x=>((x,()),(()))) fun _=>rfl)
def aqD:=(lc (qi .i64) ln)
def afu:An:=(.two .no (.two (.rb [] 2) .no))
theorem amF:∀f∈([]:List Nat),aV (ajd) f:=aC
def Tp(a0:Int):ahI:=
 let r1:Bool:=bif wF (a0=0)then wE else bif wF (a0=1)then wE else bif wF (a0=3)then wE else wF (a0=4);r1
theorem atQ(a0:Int):bN wG (ajd) 300 (afu) 310 (aqD.c (a0,())) [] 0 d310.rd=O (Tp a0):=by
 refine Eq.trans (b:=(
  match bif wF (a0=0)then O (wE)else bif wF (a0=1)then O (wE)else bif wF (a0=3)then O (wE)else O (wF (a0=4))with|wC=>wC|O r1=>O (r1):Option ahI)) (by kernel_rfl) ?_
 simp only[Tp,bZ,cu]
def ain:aI->aI:=eL wG 310 wD aqD d310 (fun g=>O (Tp g.1))
theorem ZP:EO ain:=fun h=>kL (F:=ajd) (an:=afu) (l:=[(.skip,(.rb [] 2))]) func310 aK (az amF aC) h (c:=fun g=>atQ g.1)
theorem lJ:EP ain:=fun h=>kP h
def aiU:aI:=cQ
abbrev ahP:Type:=Bool
def d311:Td 0 ahP:= .c [] [2] (.r 0 0 (ec 2 qb en) sn (fun z=>z.1.1) (fun x=>((x,()),(()))) fun _=>rfl)
def amK:=(lc (qg 137) ln)
def aeQ:An:=(.two .no (.two (.rb [] 2) .no))
theorem aoC:∀f∈([]:List Nat),aV (aiU) f:=aC
def R4(a0:aq):ahP:=
 let r1:Bool:=bif wF (a0.aW=0)then bif wF (a0.fN=0)then wF ((↑a0.ak.length:Int)=0)else wD else wD;r1
theorem aug(a0:aq):bN wG (aiU) 300 (aeQ) 311 (amK.c (a0,())) [] 0 d311.rd=O (R4 a0):=by
 refine Eq.trans (b:=(
  match bif wF (a0.aW=0)then bif wF (a0.fN=0)then O (wF ((↑a0.ak.length:Int)=0))else O (wD)else O (wD)with|wC=>wC|O r1=>O (r1):Option ahP)) (by kernel_rfl) ?_
 simp only[R4,bZ,cu]
def akr:aI->aI:=eL wG 311 wD amK d311 (fun g=>O (R4 g.1))
theorem Zp:EO akr:=fun h=>kL (F:=aiU) (an:=aeQ) (l:=[(.skip,(.rb [] 2))]) func311 aK (az aoC aC) h (c:=fun g=>aug g.1)
theorem mg:EP akr:=fun h=>kP h
structure oa where
 t0:List Int
 (t5 t6:Int)
def NR:Td 0 oa:= .c [] [0,5,6] (.r 0 0 (ec 0 (ql 3) (ec 5 (qi .i64) (ec 6 (qi .i64) en))) sn (fun z=>⟨z.1.1,z.1.2.1,z.1.2.2.1⟩) (fun x=>((x.t0,x.t5,x.t6,()),(()))) fun _=>rfl)
def HE(p:oa):Option (Option oa):=
 bif wF (p.t6<p.t5)then bif wF (0<p.t6)then if(0:Int)<=p.t6/\p.t6<(↑p.t0.length:Int)then if(0:Int)<=i64.wrap (p.t6-(1:Int))/\i64.wrap (p.t6-(1:Int))<(↑p.t0.length:Int)then bif wF (((p.t0,p.t5,p.t6,()),()).fst.fst[((p.t0,p.t5,p.t6,()),()).fst.snd.snd.fst.toNat]!<=((p.t0,p.t5,p.t6,()),()).fst.fst[(i64.wrap (((p.t0,p.t5,p.t6,()),()).fst.snd.snd.fst-1)).toNat]!)then O (wC)else O (O (oa.mk p.t0 p.t5 (i64.wrap (p.t6+1))))else wC else wC else O (O (oa.mk p.t0 p.t5 (i64.wrap (p.t6+1))))else O (wC)
def FG:oa->Option oa:=bw (HE)
abbrev ap1:Type:=Bool
def d312:Td 0 ap1:= .c [] [2] (.r 0 0 (ec 2 qb en) sn (fun z=>z.1.1) (fun x=>((x,()),(()))) fun _=>rfl)
def Sw(a0:List Int):Option ap1:=
 match FG (oa.mk a0 (↑a0.length:Int) (0))with|wC=>wC|O r1=>bif wF (r1.t6<r1.t5)then bif wF (0<r1.t6)then if(0:Int)<=r1.t6/\r1.t6<(↑r1.t0.length:Int)then if(0:Int)<=i64.wrap (r1.t6-(1:Int))/\i64.wrap (r1.t6-(1:Int))<(↑r1.t0.length:Int)then bif wF (((r1.t0,r1.t5,r1.t6,()),()).fst.fst[((r1.t0,r1.t5,r1.t6,()),()).fst.snd.snd.fst.toNat]!<=((r1.t0,r1.t5,r1.t6,()),()).fst.fst[(i64.wrap (((r1.t0,r1.t5,r1.t6,()),()).fst.snd.snd.fst-1)).toNat]!)then O (wD)else wC else wC else wC else wC else O (wE)
def aii:aI->aI:=eL wG 312 wD (lc (ql 3) ln) d312 (fun g=>Sw g.1)
theorem XJ:EO aii:=fun h=>kL (an:=(.two .no (.two (.two .no (NR.lp FG .no)) .no))) (l:=[(aU f312 0,(NR.lp FG .no))]) func312 aK (az (aO NR) aC) h
theorem mh:EP aii:=fun h=>kP h
def aqo:aI:=(aii (akr (ain (ahz (ajy cQ)))))
abbrev aq6:Type:=Bool
def d268:Td 0 aq6:= .c [] [6] (.r 0 0 (ec 6 qb en) sn (fun z=>z.1.1) (fun x=>((x,()),(()))) fun _=>rfl)
theorem qR:∀f∈([308,309,310,311,312]:List Nat),aV (aqo) f:=(az (mh (mg (lJ (lN (lZ aZ))))) (az (mh (mg (lJ (lN (lZ aZ))))) (az (mh (mg (lJ (lN (lZ aZ))))) (az (mh (mg (lJ (lN (lZ aZ))))) (az (mh (mg (lJ (lN (lZ aZ))))) aC)))))
def MC(a0:Flat)(a1:GStep)(a2:Bool):Option aq6:=
 match bif wF (a1.bH<0)then O (wE)else O (wF (6<a1.bH))with|wC=>wC|O r1=>bif r1 then O (wD)else match bif bif Rv a1.bH then wD else wE then O (bif wF (a1.cG=0)then wD else wE)else O (wD)with|wC=>wC|O r2=>bif r2 then O (wD)else match bif bif To a1.bH then wD else wE then O (bif wF (a1.fN=0)then wD else wE)else O (wD)with|wC=>wC|O r3=>bif r3 then O (wD)else match bif bif Tp a1.bH then wD else wE then O (bif R4 (aq.mk a1.ay.aW a1.ay.fN a1.ay.ak)then wD else wE)else O (wD)with|wC=>wC|O r4=>bif r4 then O (wD)else match bif bif wF (a1.bH=3)then wD else wE then bif bif wF (a1.bH=4)then wD else wE then O (wF (0<(↑a1.aG.length:Int)))else O (wD)else O (wD)with|wC=>wC|O r5=>bif r5 then O (wD)else match bif bif wF (a1.bH=3)then wD else wE then O (wF (0<(↑a1.aJ.length:Int)))else O (wD)with|wC=>wC|O r6=>bif r6 then O (wD)else match bif bif wF (a1.bH=6)then wD else wE then O (wF (0<(↑a1.aH.length:Int)))else O (wD)with|wC=>wC|O r7=>bif r7 then O (wD)else match bif Rv a1.bH then bif wF (a1.cG<0)then O (wE)else bif wF ((↑a0.ag.length:Int)<=a1.cG)then O (wE)else if(0:Int)<=a1.cG/\a1.cG<(↑a0.ag.length:Int)then O (bif wF (a0.ag[a1.cG.toNat]!.aY=0)then wD else wE)else wC else O (wD)with|wC=>wC|O r8=>bif r8 then O (wD)else match bif wF (a1.bH=5)then bif wF (a1.fN<0)then O (wE)else O (wF ((↑a0.ai.length:Int)<=a1.fN))else O (wD)with|wC=>wC|O r9=>bif r9 then O (wD)else match bif bif wF (a1.bH=6)then wD else wE then O (wE)else bif a2 then bif wF (0<(↑a1.aH.length:Int))then bif wF ((↑a1.aH.length:Int)<=32)then if(0:Int)<=(0:Int)/\(0:Int)<(↑a1.aH.length:Int)then bif wF (0<=a1.aH[yI 0]!)then match Sw a1.aH with|wC=>wC|O r10=>O (r10)else O (wD)else wC else O (wD)else O (wD)else O (wD)with|wC=>wC|O r11=>O (r11)
def alf:aI->aI:=eL wG 268 wD (lc (qg 26) (lc (qg 166) (lc qb ln))) d268 (fun g=>MC g.1 g.2.1 g.2.2.1)
theorem aet:EO alf:=fun h=>kL (F:=aqo) (an:=(.two .no (.two .no (.two (.two (.two (.rb [308,309,310,311,312] 10) (.two .no (.two (.rb [308,309,310,311,312] 10) (.two .no (.two (.rb [308,309,310,311,312] 10) (.two .no (.two (.rb [308,309,310,311,312] 10) (.two .no (.two (.rb [308,309,310,311,312] 10) (.two .no (.two (.rb [308,309,310,311,312] 10) (.two .no (.two (.rb [308,309,310,311,312] 10) (.two .no (.two (.rb [308,309,310,311,312] 10) (.two .no (.rb [308,309,310,311,312] 10))))))))))))))))) .no) (.two (.rb [308,309,310,311,312] 6) .no))))) (l:=[(.skip,(.rb [308,309,310,311,312] 10)),(.skip,(.rb [308,309,310,311,312] 10)),(.skip,(.rb [308,309,310,311,312] 10)),(.skip,(.rb [308,309,310,311,312] 10)),(.skip,(.rb [308,309,310,311,312] 10)),(.skip,(.rb [308,309,310,311,312] 10)),(.skip,(.rb [308,309,310,311,312] 10)),(.skip,(.rb [308,309,310,311,312] 10)),(.skip,(.rb [308,309,310,311,312] 10)),(.skip,(.rb [308,309,310,311,312] 6))]) func268 (XJ (Zp (ZP (aab (Y9 aK))))) (az qR (az qR (az qR (az qR (az qR (az qR (az qR (az qR (az qR (az qR aC)))))))))) h
theorem Sn:EP alf:=fun h=>kP h
def aqT:aI:=cQ
abbrev apu:Type:=Bool
def d269:Td 0 apu:= .c [] [2] (.r 0 0 (ec 2 qb en) sn (fun z=>z.1.1) (fun x=>((x,()),(()))) fun _=>rfl)
theorem agJ:∀f∈([]:List Nat),aV (aqT) f:=aC
def Nf(a0:GStep):Option apu:=
 bif wF (a0.bH=2)then match bif wF (a0.aL<0)then O (wE)else bif wF (67108864<a0.aL)then O (wE)else bif wF (a0.bH=4)then bif wF (a0.fN<0)then O (wE)else O (wF (4096<a0.fN))else O (wD)with|wC=>wC|O r1=>bif r1 then O (wD)else match bif bif wF (a0.bH=6)then wD else wE then O (wE)else if(0:Int)<=i64.wrap ((↑a0.aH.length:Int)-(1:Int))/\i64.wrap ((↑a0.aH.length:Int)-(1:Int))<(↑a0.aH.length:Int)then O (wF (a0.aH[(i64.wrap ((↑a0.aH.length:Int)-1)).toNat]!<=67108864))else wC with|wC=>wC|O r2=>O (r2)else match bif wF (a0.aL<0)then O (wE)else bif wF (10000<a0.aL)then O (wE)else bif wF (a0.bH=4)then bif wF (a0.fN<0)then O (wE)else O (wF (4096<a0.fN))else O (wD)with|wC=>wC|O r3=>bif r3 then O (wD)else match bif bif wF (a0.bH=6)then wD else wE then O (wE)else if(0:Int)<=i64.wrap ((↑a0.aH.length:Int)-(1:Int))/\i64.wrap ((↑a0.aH.length:Int)-(1:Int))<(↑a0.aH.length:Int)then O (wF (a0.aH[(i64.wrap ((↑a0.aH.length:Int)-1)).toNat]!<=67108864))else wC with|wC=>wC|O r4=>O (r4)
def ajz:aI->aI:=eL wG 269 wD (lc (qg 166) ln) d269 (fun g=>Nf g.1)
theorem Zt:EO ajz:=fun h=>kL (F:=aqT) (an:=(.two .no (.two .no (.two .no (.two (.two (.rb [] 30) .no) (.two (.rb [] 2) .no)))))) (l:=[(.skip,(.rb [] 30)),(.skip,(.rb [] 2))]) func269 aK (az agJ (az agJ aC)) h
theorem Sv:EP ajz:=fun h=>kP h
abbrev kD:Type:=Int
def d212:Td 0 kD:= .c [] [6] (.r 0 0 (ec 6 (qi .i64) en) sn (fun z=>z.1.1) (fun x=>((x,()),(()))) fun _=>rfl)
def aky:=(lc (qg 26) (lc (ql 166) (lc qb ln)))
def YO(M:Flat->(List GStep)->Bool->Option kD):aI->aI:=eL wG 212 wD aky d212 (fun g=>M g.1 g.2.1 g.2.2.1)
theorem RW{M:Flat->(List GStep)->Bool->Option kD}{F:aI}{f:Nat}(h:aV F f):aV (YO M F) f:=fW h (fun _=>by kernel_rfl)
def YM(M:Flat->(List GStep)->Bool->Option kD):Prop:=HL wG 212 aky d212 (fun g=>M g.1 g.2.1 g.2.2.1)
theorem Qa{M:Flat->(List GStep)->Bool->Option kD}(hM:YM M){F:aI}(h:bf wG F):bf wG (YO M F):=gx (sc:=Ay) dS hM ⟨_,func212,by kernel_rfl,by kernel_rfl⟩ (fun _=>by kernel_rfl) (fun _=>by kernel_rfl) h
def adt(M212:Flat->(List GStep)->Bool->Option kD):aI:=(ajz (alf (aiI (YO M212 cQ))))
theorem abN{M212}(h212:YM M212):bf wG (adt M212):=(Zt (aet (Om (Qa h212 aK))))
structure oQ where
 t1:List GStep
 t2:Bool
 t13:List GStep
 (t14 t15:Int)
 t47:List (List GStep)
 (t48 t49:Int)
 b0:Flat
def LM:Td 0 oQ:= .c [] [1,2,3,13,14,15,47,48,49] (.r 0 2 (ec 1 (ql 166) (ec 2 qb (ec 3 (qp 0 0) (ec 13 (ql 166) (ec 14 (qi .i64) (ec 15 (qi .i64) (ec 47 (qo 1) (ec 48 (qi .i64) (ec 49 (qi .i64) en))))))))) (sb 0 26 (lg 26) (sr 1 24 sn)) (fun z=>⟨z.1.1,z.1.2.1,z.1.2.2.2.1,z.1.2.2.2.2.1,z.1.2.2.2.2.2.1,z.2.2.1,z.1.2.2.2.2.2.2.2.1,z.1.2.2.2.2.2.2.2.2.1,z.2.1⟩) (fun x=>((x.t1,x.t2,(),x.t13,x.t14,x.t15,(),x.t48,x.t49,()),(x.b0,x.t47,()))) fun _=>rfl)
def rD(M212:Flat->(List GStep)->Bool->Option kD)(p:oQ):Option (Option oQ):=
 bif wF (p.t49<p.t48)then if(0:Int)<=p.t49/\p.t49<(↑p.t47.length:Int)then if 24=24/\p.t49.toNat<p.t47.length then match M212 p.b0 p.t47[p.t49.toNat]! wD with|wC=>wC|O r8=>bif bif wF (r8=0)then wD else wE then O (wC)else O (O (oQ.mk p.t1 p.t2 p.t13 p.t14 p.t15 p.t47 p.t48 (i64.wrap (p.t49+1)) p.b0))else wC else wC else O (wC)
def vJ(M212:Flat->(List GStep)->Bool->Option kD):oQ->Option oQ:=bw (rD M212)
structure sA where
 t1:List GStep
 t2:Bool
 t13:List GStep
 (t14 t15:Int)
 b0:Flat
def Lx:Td 0 sA:= .c [] [1,2,3,13,14,15] (.r 0 1 (ec 1 (ql 166) (ec 2 qb (ec 3 (qp 0 0) (ec 13 (ql 166) (ec 14 (qi .i64) (ec 15 (qi .i64) en)))))) (sb 0 26 (lg 26) sn) (fun z=>⟨z.1.1,z.1.2.1,z.1.2.2.2.1,z.1.2.2.2.2.1,z.1.2.2.2.2.2.1,z.2.1⟩) (fun x=>((x.t1,x.t2,(),x.t13,x.t14,x.t15,()),(x.b0,()))) fun _=>rfl)
def u7(M212:Flat->(List GStep)->Bool->Option kD)(p:sA):Option (Option sA):=
 bif wF (p.t15<p.t14)then if(0:Int)<=p.t15/\p.t15<(↑p.t13.length:Int)then match bif p.t2 then match MC p.b0 (GStep.mk p.t13[p.t15.toNat]!.bH p.t13[p.t15.toNat]!.aL p.t13[p.t15.toNat]!.cG p.t13[p.t15.toNat]!.fN (aq.mk p.t13[p.t15.toNat]!.ay.aW p.t13[p.t15.toNat]!.ay.fN p.t13[p.t15.toNat]!.ay.ak) p.t13[p.t15.toNat]!.aG p.t13[p.t15.toNat]!.aJ p.t13[p.t15.toNat]!.aH) (wF (((p.t1,p.t2,(),p.t13,p.t14,p.t15,()),p.b0,()).fst.snd.snd.snd.snd.snd.fst=i64.wrap ((↑((p.t1,p.t2,(),p.t13,p.t14,p.t15,()),p.b0,()).fst.fst.length:Int)-1)))with|wC=>wC|O r1=>O (bif r1 then wD else wE)else match MC p.b0 (GStep.mk p.t13[p.t15.toNat]!.bH p.t13[p.t15.toNat]!.aL p.t13[p.t15.toNat]!.cG p.t13[p.t15.toNat]!.fN (aq.mk p.t13[p.t15.toNat]!.ay.aW p.t13[p.t15.toNat]!.ay.fN p.t13[p.t15.toNat]!.ay.ak) p.t13[p.t15.toNat]!.aG p.t13[p.t15.toNat]!.aJ p.t13[p.t15.toNat]!.aH) wD with|wC=>wC|O r2=>O (bif r2 then wD else wE)with|wC=>wC|O r3=>bif r3 then O (wC)else match Nf (GStep.mk p.t13[p.t15.toNat]!.bH p.t13[p.t15.toNat]!.aL p.t13[p.t15.toNat]!.cG p.t13[p.t15.toNat]!.fN (aq.mk p.t13[p.t15.toNat]!.ay.aW p.t13[p.t15.toNat]!.ay.fN p.t13[p.t15.toNat]!.ay.ak) p.t13[p.t15.toNat]!.aG p.t13[p.t15.toNat]!.aJ p.t13[p.t15.toNat]!.aH)with|wC=>wC|O r4=>bif bif r4 then wD else wE then O (wC)else match Na p.b0.ag (aq.mk p.t13[p.t15.toNat]!.ay.aW p.t13[p.t15.toNat]!.ay.fN p.t13[p.t15.toNat]!.ay.ak) wD with|wC=>wC|O r5=>bif bif wF (r5=0)then wD else wE then O (wC)else match vJ M212 (oQ.mk p.t1 p.t2 p.t13 p.t14 p.t15 [p.t13[p.t15.toNat]!.aG,p.t13[p.t15.toNat]!.aJ] (↑[p.t13[p.t15.toNat]!.aG,p.t13[p.t15.toNat]!.aJ].length:Int) (0) p.b0)with|wC=>wC|O r6=>bif wF (r6.t49<r6.t48)then if(0:Int)<=r6.t49/\r6.t49<(↑r6.t47.length:Int)then if 24=24/\r6.t49.toNat<r6.t47.length then match M212 r6.b0 r6.t47[r6.t49.toNat]! wD with|wC=>wC|O r7=>bif bif wF (r7=0)then wD else wE then O (wC)else wC else wC else wC else O (O (sA.mk r6.t1 r6.t2 r6.t13 r6.t14 (i64.wrap (r6.t15+1)) r6.b0))else wC else O (wC)
def VP(M212:Flat->(List GStep)->Bool->Option kD):An:=(.two .no (.two .no (.two (.two .no (.two (.two (.rb [268] 31) .no) (.two .no (.two .no (.two .no (LM.lp (vJ M212) .no)))))) .no)))
def GK(M212:Flat->(List GStep)->Bool->Option kD):sA->Option sA:=bw (u7 M212)
def agi(M212:Flat->(List GStep)->Bool->Option kD):An:=(.two .no (.two (.two .no (Lx.lp (GK M212) (VP M212))) .no))
theorem aoQ{M212}:∀f∈([268]:List Nat),aV (adt M212) f:=(az (Sv (Sn (SP (RW aZ)))) aC)
theorem ap6(M212:Flat->(List GStep)->Bool->Option kD):eW wG (adt M212) 0 300 212 (agi M212):=bV (l:=[(aU f212 0,(Lx.lp (GK M212) (VP M212))),(.skip,(.rb [268] 31)),(aU f212 1,(LM.lp (vJ M212) .no))]) func212 (bB (by kernel_rfl)) (by kernel_rfl) (az (aO Lx) (az aoQ (az (aO LM) aC)))
def abk(M212:Flat->(List GStep)->Bool->Option kD)(a0:Flat)(a1:List GStep)(a2:Bool):Option kD:=
 match GK M212 (sA.mk a1 a2 a1 (↑a1.length:Int) (0) a0)with|wC=>wC|O r9=>bif wF (r9.t15<r9.t14)then if(0:Int)<=r9.t15/\r9.t15<(↑r9.t13.length:Int)then match bif r9.t2 then match MC r9.b0 (GStep.mk r9.t13[r9.t15.toNat]!.bH r9.t13[r9.t15.toNat]!.aL r9.t13[r9.t15.toNat]!.cG r9.t13[r9.t15.toNat]!.fN (aq.mk r9.t13[r9.t15.toNat]!.ay.aW r9.t13[r9.t15.toNat]!.ay.fN r9.t13[r9.t15.toNat]!.ay.ak) r9.t13[r9.t15.toNat]!.aG r9.t13[r9.t15.toNat]!.aJ r9.t13[r9.t15.toNat]!.aH) (wF (((r9.t1,r9.t2,(),r9.t13,r9.t14,r9.t15,()),r9.b0,()).fst.snd.snd.snd.snd.snd.fst=i64.wrap ((↑((r9.t1,r9.t2,(),r9.t13,r9.t14,r9.t15,()),r9.b0,()).fst.fst.length:Int)-1)))with|wC=>wC|O r10=>O (bif r10 then wD else wE)else match MC r9.b0 (GStep.mk r9.t13[r9.t15.toNat]!.bH r9.t13[r9.t15.toNat]!.aL r9.t13[r9.t15.toNat]!.cG r9.t13[r9.t15.toNat]!.fN (aq.mk r9.t13[r9.t15.toNat]!.ay.aW r9.t13[r9.t15.toNat]!.ay.fN r9.t13[r9.t15.toNat]!.ay.ak) r9.t13[r9.t15.toNat]!.aG r9.t13[r9.t15.toNat]!.aJ r9.t13[r9.t15.toNat]!.aH) wD with|wC=>wC|O r11=>O (bif r11 then wD else wE)with|wC=>wC|O r12=>bif r12 then O (1)else match Nf (GStep.mk r9.t13[r9.t15.toNat]!.bH r9.t13[r9.t15.toNat]!.aL r9.t13[r9.t15.toNat]!.cG r9.t13[r9.t15.toNat]!.fN (aq.mk r9.t13[r9.t15.toNat]!.ay.aW r9.t13[r9.t15.toNat]!.ay.fN r9.t13[r9.t15.toNat]!.ay.ak) r9.t13[r9.t15.toNat]!.aG r9.t13[r9.t15.toNat]!.aJ r9.t13[r9.t15.toNat]!.aH)with|wC=>wC|O r13=>bif bif r13 then wD else wE then O (3)else match Na r9.b0.ag (aq.mk r9.t13[r9.t15.toNat]!.ay.aW r9.t13[r9.t15.toNat]!.ay.fN r9.t13[r9.t15.toNat]!.ay.ak) wD with|wC=>wC|O r14=>bif bif wF (r14=0)then wD else wE then O (r14)else match vJ M212 (oQ.mk r9.t1 r9.t2 r9.t13 r9.t14 r9.t15 [r9.t13[r9.t15.toNat]!.aG,r9.t13[r9.t15.toNat]!.aJ] (↑[r9.t13[r9.t15.toNat]!.aG,r9.t13[r9.t15.toNat]!.aJ].length:Int) (0) r9.b0)with|wC=>wC|O r15=>bif wF (r15.t49<r15.t48)then if(0:Int)<=r15.t49/\r15.t49<(↑r15.t47.length:Int)then if 24=24/\r15.t49.toNat<r15.t47.length then match M212 r15.b0 r15.t47[r15.t49.toNat]! wD with|wC=>wC|O r16=>bif bif wF (r16=0)then wD else wE then O (r16)else wC else wC else wC else wC else wC else O (0)
theorem asW(M212:Flat->(List GStep)->Bool->Option kD)(a0:Flat)(a1:List GStep)(a2:Bool):bN wG (adt M212) 300 (agi M212) 212 (aky.c (a0,a1,a2,())) [] 0 d212.rd=abk M212 a0 a1 a2:=by kernel_rfl
def agF:Nat->(Flat->(List GStep)->Bool->Option kD)
 |0=>(fun _ _ _=>wC)
 |n+1=>(abk (agF n))
def NH(n:Nat):Flat->(List GStep)->Bool->Option kD:=(agF n)
theorem Jz:∀n,YM (NH n)
 |0=>fun _ _ h=>(by cases h)
 |n+1=>by
  have ih:=Jz n
  have i212:=ih
  exact(dH (abN i212) (ap6 (NH n)) (fun _=>by kernel_rfl) (fun _=>by kernel_rfl) fun g=>asW (NH n) g.1 g.2.1 g.2.2.1)
def YQ:Flat->(List GStep)->Bool->Option kD:=fun a0 a1 a2=>lim (fun n=>NH n a0 a1 a2)
theorem aeo:YM YQ:=fun g b h=>by
 obtain⟨n,hn⟩:=cD (show lim (fun n=>NH n g.1 g.2.1 g.2.2.1)=O b from h)
 exact(Jz n) g b hn
def ao1(F:aI):aI:=YO YQ F
theorem acL{F:aI}(h:bf wG F):bf wG (ao1 F):=Qa aeo h
abbrev qH:Type:=pz
def d213:Td 0 qH:= .c [] [2] (.r 0 1 (ec 2 (qp 0 0) en) (sb 0 260 (lg 260) sn) (fun z=>z.2.1) (fun x=>(((),()),(x,()))) fun _=>rfl)
def aj4:=(lc (ql 166) ln)
def ah9(M:(List GStep)->Option qH):aI->aI:=eL wG 213 wD aj4 d213 (fun g=>M g.1)
def acU(M:(List GStep)->Option qH):Prop:=HL wG 213 aj4 d213 (fun g=>M g.1)
theorem P6{M:(List GStep)->Option qH}(hM:acU M){F:aI}(h:bf wG F):bf wG (ah9 M F):=gx (sc:=Ay) dS hM ⟨_,func213,by kernel_rfl,by kernel_rfl⟩ (fun _=>by kernel_rfl) (fun _=>by kernel_rfl) h
def aiV(M213:(List GStep)->Option qH):aI:=(ah9 M213 cQ)
theorem Z7{M213}(h213:acU M213):bf wG (aiV M213):=(P6 h213 aK)
structure k9 where
 t9:List GStep
 (t10 t11:Int)
 (b0 b1:pz)
def MB:Td 0 k9:= .c [] [2,3,9,10,11] (.r 0 2 (ec 2 (qp 0 0) (ec 3 (qp 1 0) (ec 9 (ql 166) (ec 10 (qi .i64) (ec 11 (qi .i64) en))))) (sb 0 260 (lg 260) (sb 1 260 (lg 260) sn)) (fun z=>⟨z.1.2.2.1,z.1.2.2.2.1,z.1.2.2.2.2.1,z.2.1,z.2.2.1⟩) (fun x=>(((),(),x.t9,x.t10,x.t11,()),(x.b0,x.b1,()))) fun _=>rfl)
def HA(M213:(List GStep)->Option qH)(p:k9):Option (Option k9):=
 bif wF (p.t11<p.t10)then if(0:Int)<=p.t11/\p.t11<(↑p.t9.length:Int)then match M213 p.t9[p.t11.toNat]!.aG with|wC=>wC|O r1=>match M213 p.t9[p.t11.toNat]!.aJ with|wC=>wC|O r2=>bif wF (p.t9[p.t11.toNat]!.bH=1)then O (O (k9.mk p.t9 p.t10 (i64.wrap (p.t11+1)) p.b0 (pz.mk (if 1099511627776<i64.wrap (p.b1.eT+1)then 1099511627776 else i64.wrap (p.b1.eT+1)) (if 1099511627776<i64.wrap (p.b1.bG+1)then 1099511627776 else i64.wrap (p.b1.bG+1)) (if 1099511627776<i64.wrap (p.b1.aA+p.t9[p.t11.toNat]!.aL)then 1099511627776 else i64.wrap (p.b1.aA+p.t9[p.t11.toNat]!.aL)))))else bif wF (p.t9[p.t11.toNat]!.bH=3)then O (O (k9.mk p.t9 p.t10 (i64.wrap (p.t11+1)) p.b0 (pz.mk (if 1099511627776<i64.wrap (p.b1.eT+i64.wrap (1+if r1.eT<r2.eT then r2.eT else r1.eT))then 1099511627776 else i64.wrap (p.b1.eT+i64.wrap (1+if r1.eT<r2.eT then r2.eT else r1.eT))) (if 1099511627776<i64.wrap (p.b1.bG+if r1.bG<r2.bG then r2.bG else r1.bG)then 1099511627776 else i64.wrap (p.b1.bG+if r1.bG<r2.bG then r2.bG else r1.bG)) (if 1099511627776<i64.wrap (p.b1.aA+i64.wrap (p.t9[p.t11.toNat]!.aL+if r1.aA<r2.aA then r2.aA else r1.aA))then 1099511627776 else i64.wrap (p.b1.aA+i64.wrap (p.t9[p.t11.toNat]!.aL+if r1.aA<r2.aA then r2.aA else r1.aA))))))else bif wF (p.t9[p.t11.toNat]!.bH=4)then O (O (k9.mk p.t9 p.t10 (i64.wrap (p.t11+1)) p.b0 (pz.mk (if 1099511627776<i64.wrap (p.b1.eT+i64.wrap (1+i64.wrap (p.t9[p.t11.toNat]!.fN*i64.wrap (1+r1.eT))))then 1099511627776 else i64.wrap (p.b1.eT+i64.wrap (1+i64.wrap (p.t9[p.t11.toNat]!.fN*i64.wrap (1+r1.eT))))) (if 1099511627776<i64.wrap (p.b1.bG+i64.wrap (p.t9[p.t11.toNat]!.fN*r1.bG))then 1099511627776 else i64.wrap (p.b1.bG+i64.wrap (p.t9[p.t11.toNat]!.fN*r1.bG))) (if 1099511627776<i64.wrap (p.b1.aA+i64.wrap (p.t9[p.t11.toNat]!.fN*i64.wrap (p.t9[p.t11.toNat]!.aL+r1.aA)))then 1099511627776 else i64.wrap (p.b1.aA+i64.wrap (p.t9[p.t11.toNat]!.fN*i64.wrap (p.t9[p.t11.toNat]!.aL+r1.aA)))))))else O (O (k9.mk p.t9 p.t10 (i64.wrap (p.t11+1)) p.b0 (pz.mk (if 1099511627776<i64.wrap (p.b1.eT+1)then 1099511627776 else i64.wrap (p.b1.eT+1)) (if 1099511627776<i64.wrap (p.b1.bG+0)then 1099511627776 else i64.wrap (p.b1.bG+0)) (if 1099511627776<i64.wrap (p.b1.aA+p.t9[p.t11.toNat]!.aL)then 1099511627776 else i64.wrap (p.b1.aA+p.t9[p.t11.toNat]!.aL)))))else wC else O (wC)
def HH(M213:(List GStep)->Option qH):k9->Option k9:=bw (HA M213)
def agM(M213:(List GStep)->Option qH):An:=(.two .no (.two .no (.two (.two .no (MB.lp (HH M213) .no)) .no)))
theorem anF(M213:(List GStep)->Option qH):eW wG (aiV M213) 0 300 213 (agM M213):=bV (l:=[(aU f213 0,(MB.lp (HH M213) .no))]) func213 (bB (by kernel_rfl)) (by kernel_rfl) (az (aO MB) aC)
def aar(M213:(List GStep)->Option qH)(a0:List GStep):Option qH:=
 match HH M213 (k9.mk a0 (↑a0.length:Int) (0) (pz.mk (0) (0) (0)) (pz.mk (0) (0) (0)))with|wC=>wC|O r3=>bif wF (r3.t11<r3.t10)then if(0:Int)<=r3.t11/\r3.t11<(↑r3.t9.length:Int)then match M213 r3.t9[r3.t11.toNat]!.aG with|wC=>wC|O r4=>match M213 r3.t9[r3.t11.toNat]!.aJ with|wC=>wC|O r5=>bif wF (r3.t9[r3.t11.toNat]!.bH=1)then wC else bif wF (r3.t9[r3.t11.toNat]!.bH=3)then wC else bif wF (r3.t9[r3.t11.toNat]!.bH=4)then wC else wC else wC else O (r3.b1)
theorem auy(M213:(List GStep)->Option qH)(a0:List GStep):bN wG (aiV M213) 300 (agM M213) 213 (aj4.c (a0,())) [] 0 d213.rd=aar M213 a0:=by kernel_rfl
def aeU:Nat->((List GStep)->Option qH)
 |0=>(fun _=>wC)
 |n+1=>(aar (aeU n))
def Nq(n:Nat):(List GStep)->Option qH:=(aeU n)
theorem Kk:∀n,acU (Nq n)
 |0=>fun _ _ h=>(by cases h)
 |n+1=>by
  have ih:=Kk n
  have i213:=ih
  exact(dH (Z7 i213) (anF (Nq n)) (fun _=>by kernel_rfl) (fun _=>by kernel_rfl) fun g=>auy (Nq n) g.1)
def UW:(List GStep)->Option qH:=fun a0=>lim (fun n=>Nq n a0)
theorem abh:acU UW:=fun g b h=>by
 obtain⟨n,hn⟩:=cD (show lim (fun n=>Nq n g.1)=O b from h)
 exact(Kk n) g b hn
def alW(F:aI):aI:=ah9 UW F
theorem YV{F:aI}(h:bf wG F):bf wG (alW F):=P6 abh h
def arb:aI:=(alW (ao1 (anX (arp (akd (Ya (aro cQ)))))))
structure nY where
 t14:List cA
 (t15 t16:Int)
 b0:Flat
 b1:aM
def Mp:Td 0 nY:= .c [] [1,3,14,15,16] (.r 0 2 (ec 1 (qp 0 0) (ec 3 (qp 1 0) (ec 14 (ql 139) (ec 15 (qi .i64) (ec 16 (qi .i64) en))))) (sb 0 26 (lg 26) (sb 1 256 (lg 256) sn)) (fun z=>⟨z.1.2.2.1,z.1.2.2.2.1,z.1.2.2.2.2.1,z.2.1,z.2.2.1⟩) (fun x=>(((),(),x.t14,x.t15,x.t16,()),(x.b0,x.b1,()))) fun _=>rfl)
def Cy(p:nY):Option (Option nY):=
 bif wF (p.t16<p.t15)then if(0:Int)<=p.t16/\p.t16<(↑p.t14.length:Int)then bif bif(gZ p.b1).fst then wD else wE then match Dy (aq.mk p.t14[p.t16.toNat]!.ay.aW p.t14[p.t16.toNat]!.ay.fN p.t14[p.t16.toNat]!.ay.ak) (1) (gZ p.b1).snd with|wC=>wC|O r1=>O (O (nY.mk p.t14 p.t15 (i64.wrap (p.t16+1)) p.b0 r1))else O (O (nY.mk p.t14 p.t15 (i64.wrap (p.t16+1)) p.b0 (gZ p.b1).snd))else wC else O (wC)
def B8:nY->Option nY:=bw (Cy)
abbrev apI:Type:=Int
def d136:Td 0 apI:= .c [] [2] (.r 0 0 (ec 2 (qi .i64) en) sn (fun z=>z.1.1) (fun x=>((x,()),(()))) fun _=>rfl)
theorem aoZ:∀f∈([]:List Nat),aV (arb) f:=aC
def abW(a0:Flat):Option apI:=
 match VZ a0.bk (1) (aM.mk (0) wD)with|wC=>wC|O r2=>match B8 (nY.mk a0.ai (↑a0.ai.length:Int) (0) a0 r2)with|wC=>wC|O r3=>bif wF (r3.t16<r3.t15)then if(0:Int)<=r3.t16/\r3.t16<(↑r3.t14.length:Int)then bif bif(gZ r3.b1).fst then wD else wE then match Dy (aq.mk r3.t14[r3.t16.toNat]!.ay.aW r3.t14[r3.t16.toNat]!.ay.fN r3.t14[r3.t16.toNat]!.ay.ak) (1) (gZ r3.b1).snd with|wC=>wC|O r4=>wC else wC else wC else bif wF (64<(↑r3.b0.ag.length:Int))then O (4)else bif wF (8<(↑r3.b0.ai.length:Int))then O (4)else bif(gZ r3.b1).fst then O (4)else match Z6 r3.b0.ag with|wC=>wC|O r5=>bif bif wF (r5=0)then wD else wE then O (r5)else match ZM r3.b0 with|wC=>wC|O r6=>bif bif wF (r6=0)then wD else wE then O (r6)else match YQ r3.b0 r3.b0.bk wE with|wC=>wC|O r7=>bif bif wF (r7=0)then wD else wE then O (r7)else match UW r3.b0.bk with|wC=>wC|O r8=>match bif wF (4096<r8.eT)then O (wE)else bif wF (8<r8.bG)then O (wE)else O (wF (67108864<r8.aA))with|wC=>wC|O r9=>bif r9 then O (4)else O (0)
def ak5:aI->aI:=eL wG 136 wD (lc (qg 26) ln) d136 (fun g=>abW g.1)
theorem Yz:EO ak5:=fun h=>kL (F:=arb) (an:=(.two .no (.two .no (.two .no (.two (.two .no (Mp.lp B8 .no)) (.two .no (.two .no (.two .no (.two .no (.two (.two .no (.two (.rb [] 72) .no)) .no)))))))))) (l:=[(aU f136 0,(Mp.lp B8 .no)),(.skip,(.rb [] 72))]) func136 (YV (acL (acF (X8 (Ox (EV (abe aK))))))) (az (aO Mp) (az aoZ aC)) h
theorem DO:EP ak5:=fun h=>kP h
end Go.Proofs.YtnfljbehcffmcaaGreat
end
noncomputable section
namespace Go.Proofs.YtnfljbehcffmcaaGreat
open Go Go.Iv
theorem WA(l:List UInt8):(ByteArray.mk (Array.mk l)).toList=l:=by
 have key:∀(k i:Nat) (acc:List UInt8),i+k=l.length->ByteArray.toList.loop (ByteArray.mk (Array.mk l)) i acc=acc.reverse++l.drop i:=by
  intro k
  induction k with
  |zero=>
   intro i acc h
   rw[ByteArray.toList.loop]
   have hs:(ByteArray.mk (Array.mk l)).size=l.length:=rfl
   rw[if_neg (by rw[hs];omega)]
   rw[xk (by omega),yd]
  |succ k ih=>
   intro i acc h
   rw[ByteArray.toList.loop]
   have hs:(ByteArray.mk (Array.mk l)).size=l.length:=rfl
   rw[if_pos (by rw[hs];omega),ih (i+1) _ (by omega)]
   have hi:i<l.length:=by omega
   rw[xJ hi]
   have:(ByteArray.mk (Array.mk l)).get! i=l[i]:=by
    show (Array.mk l)[i]! =_
    rw[getElem!_pos (Array.mk l) i hi]
    rfl
   rw[this]
   simp
 have:=key l.length 0 [] (by omega)
 simpa [ByteArray.toList]using this
theorem ahB(s:ByteArray):(s.toList==(ByteArray.mk (Array.mk [])).toList)=wF (s.size=0):=by
 obtain⟨⟨l⟩⟩:=s
 rw[WA,WA]
 have hs:(ByteArray.mk (Array.mk l)).size=l.length:=rfl
 rw[hs]
 cases l with
 |nil=>rfl
 |cons a l=>simp
theorem pW{n i:Nat}(h:i<n):(zJ n)[i]! =i:=by rw[getElem!_pos _ i (by simpa using h)];simp
theorem AO(s:ByteArray):Lm s=O (gY s):=by
 unfold Lm
 rw[ahB]
 by_cases h0:s.size=0
 ·simp[h0,gY]
 by_cases h1:40<(s.size:Int)
 ·have h1':¬s.size<=40:=by omega
  simp[h0,h1,h1',gY]
 rw[decide_eq_false h0,decide_eq_false h1]
 dsimp only[cond_false]
 obtain⟨i,e1,hc⟩:=pg (rnd:=Fc) (zJ s.size) (fun i=>⟨s,(s.size:Int),(i:Int)⟩) (fun i j=>YE j (bR s j)) (fun i hi=>by
  rw[xb]at hi
  have hw:=fq hi (by omega)
  rw[pW hi]
  unfold Fc YE
  dsimp only
  simp only[zc,za]
  grind) (by unfold Fc;simp)
 have e1':G0 ⟨s,(s.size:Int),0⟩=O ⟨s,(s.size:Int),(i:Int)⟩:=e1
 rw[e1']
 have h2:gY s=(zJ s.size).all fun i=>YE i (bR s i):=by
  unfold gY
  rw[qz,qz]
  simp
 rw[h2]
 dsimp only
 rcases hc with ⟨rfl,hc⟩|⟨hi,hc⟩
 ·rw[BK hc]
  simp
 ·rw[tD hi hc]
  rw[xb]at hi
  rw[pW hi]at hc
  unfold YE at hc
  simp only[zc,za]
  grind
theorem Au(s:ByteArray):ND s=O (gY s):=by
 unfold ND
 by_cases h0:s.size<1
 ·have h0':¬1<=s.size:=by omega
  have h0'':(s.size:Int)<1:=by omega
  simp[h0'',h0',gY]
 by_cases h1:40<(s.size:Int)
 ·have h1':¬s.size<=40:=by omega
  have h0'':¬(s.size:Int)<1:=by omega
  simp[h0'',h1,h1',gY]
 rw[decide_eq_false (show ¬(s.size:Int)<1 by omega),decide_eq_false h1]
 dsimp only[cond_false]
 obtain⟨i,e1,hc⟩:=pg (rnd:=GJ) (zJ s.size) (fun i=>⟨s,(i:Int)⟩) (fun i j=>YE j (bR s j)) (fun i hi=>by
  rw[xb]at hi
  have hw:=fq hi (by omega)
  rw[pW hi]
  unfold GJ YE
  dsimp only
  simp only[zc,za]
  grind) (by unfold GJ;simp)
 have e1':GH ⟨s,0⟩=O ⟨s,(i:Int)⟩:=e1
 rw[e1']
 have h2:gY s=(zJ s.size).all fun i=>YE i (bR s i):=by
  unfold gY
  rw[qz,qz]
  simp
 rw[h2]
 dsimp only
 rcases hc with ⟨rfl,hc⟩|⟨hi,hc⟩
 ·rw[BK hc]
  simp
 ·rw[tD hi hc]
  rw[xb]at hi
  rw[pW hi]at hc
  unfold YE at hc
  simp only[zc,za]
  grind
theorem AH(a b:Int):GR a b=fX a b:=by
 unfold GR fX
 simp only[zc]
 grind
theorem A4(a b:Int):E7 a b=fX a b:=by
 unfold E7 fX
 simp only[zc]
 grind
theorem PW(l:List aN)(hl:l.length<=1000000)(v:aN):Xb l v=O (l.any fun w=>w.fName.toList==v.fName.toList):=by
 obtain⟨i,e1,hc⟩:=pg (rnd:=GQ) l (fun i=>⟨l,v.fName,v.aY,v.aa,v.af,v.dc,(l.length:Int),(i:Int)⟩) (fun _ w=> !(w.fName.toList==v.fName.toList)) (fun i hi=>by
  have hw:=fq hi hl
  unfold GQ T4
  dsimp only
  simp only[zc,za]
  grind) (by unfold GQ;simp)
 have e1':Fz ⟨l,v.fName,v.aY,v.aa,v.af,v.dc,(l.length:Int),0⟩=O ⟨l,v.fName,v.aY,v.aa,v.af,v.dc,(l.length:Int),(i:Int)⟩:=e1
 unfold Xb aiH
 rw[e1']
 dsimp only
 rcases hc with ⟨rfl,hc⟩|⟨hi,hc⟩
 ·rw[sP fun j hj=>by have:=hc j hj;simpa using this]
  simp
 ·have hc':(l[i]!.fName.toList==v.fName.toList)=wE:=by simpa using hc
  rw[Dg hi hc']
  unfold T4
  simp only[za,hc',cond_true]
  simp[hi]
theorem DX(l:List aN)(hl:l.length<=1000000)(n:Nat)(hn:n<=l.length)(v:aN):
  ∃i:Nat,Bl ⟨l,n,0,v⟩=O ⟨l,n,(i:Int),v⟩/\((i=n/\((l.take n).any fun w=>w.fName.toList==v.fName.toList)=wD)\/(i<n/\(l[i]!.fName.toList==v.fName.toList)=wE/\((l.take n).any fun w=>w.fName.toList==v.fName.toList)=wE)):=by
 have hlen:(l.take n).length=n:=by rw[zU];omega
 have hget:∀i,i<n->(l.take n)[i]! =l[i]! :=fun i hi=>by
  rw[getElem!_pos _ i (by omega),getElem!_pos _ i (by omega),List.getElem_take]
 obtain⟨i,e1,hc⟩:=pg (rnd:=GF) (l.take n) (fun i=>⟨l,(n:Int),(i:Int),v⟩) (fun _ w=> !(w.fName.toList==v.fName.toList)) (fun i hi=>by
  rw[hlen]at hi
  have hw:=fq hi (by omega)
  rw[hget i hi]
  unfold GF
  dsimp only
  simp only[zc,za]
  grind) (by rw[hlen];unfold GF;simp)
 refine⟨i,e1,?_⟩
 rw[hlen]at hc
 rcases hc with ⟨rfl,hc⟩|⟨hi,hc⟩
 ·exact .inl ⟨rfl,sP fun j hj=>by have:=hc j (by omega);simpa using this⟩
 ·have hc':((l.take n)[i]!.fName.toList==v.fName.toList)=wE:=by simpa using hc
  exact .inr ⟨hi,by rw[<-hget i hi];exact hc',Dg (by omega) hc'⟩
end Go.Proofs.YtnfljbehcffmcaaGreat
end
noncomputable section
namespace Go.Proofs.YtnfljbehcffmcaaGreat
open Go Go.Iv
open Go.IntKind (i64)
theorem AU(a b:List aq):iM (a++b)=iM a+iM b:=by simp[iM]
theorem Ce(l:List aq)(i:Nat):iM (l.take i)<=iM l:=by
 have:=AU (l.take i) (l.drop i)
 rw[xg]at this
 omega
theorem FA(l:List aq):l.length<=iM l:=by
 induction l with
 |nil=>simp
 |cons a l ih=>rw[oP];have:=HS a;simp;omega
theorem acK(a b:List GStep):ew (a++b)=ew a+ew b:=by simp[ew]
theorem T2(l:List GStep)(i:Nat):ew (l.take i)<=ew l:=by
 have:=acK (l.take i) (l.drop i)
 rw[xg]at this
 omega
theorem aji(s:GStep):0<nS s:=by rw[nr];omega
theorem iY(l:List GStep):l.length<=ew l:=by
 induction l with
 |nil=>simp
 |cons a l ih=>rw[lU];have:=aji a;simp;omega
theorem CA{l:List aq}{i:Nat}(hi:i<l.length):iM (l.take i)+nT l[i]!<=iM l:=by
 have:=Ce l (i+1)
 rw[bA hi,oK]at this
 exact this
theorem Bf{l:List GStep}{i:Nat}(hi:i<l.length):ew (l.take i)+nS l[i]!<=ew l:=by
 have:=T2 l (i+1)
 rw[bA hi,JN]at this
 exact this
theorem Mk(l:List aq)(h:∀k∈l,dT k<=nT k):∀i,i<=l.length->KR (l.take i)<=iM (l.take i):=by
 intro i
 induction i with
 |zero=>intro _;simp[KR,iM]
 |succ i ih=>
  intro hi
  have:=ih (by omega)
  have h2:=h _ (aR (show i<l.length by omega))
  rw[bA (by omega),C2,oK]
  omega
theorem afe(t:aq):dT t<=nT t:=by
 have key:∀(n:Nat) (t:aq),SizeOf.sizeOf t<n->dT t<=nT t:=by
  intro n
  induction n with
  |zero=>intro t h;omega
  |succ n ih=>
   intro t h
   have:=Mk t.ak (fun k hk=>ih k (by have:=aq.dh hk;omega)) t.ak.length (zx _)
   rw[zG]at this
   rw[QJ,tE]
   omega
 exact key _ t (zn _)
theorem UG(l:List aq)(i:Nat):KR (l.take i)<=iM l:=by
 have h1:=Ce l i
 by_cases h:i<=l.length
 ·have:=Mk l (fun k _=>afe k) i h
  omega
 ·have:=Mk l (fun k _=>afe k) l.length (zx _)
  rw[zG]at this
  rw[List.take_of_length_le (by omega)]
  omega
theorem TQ(l:List GStep):iL l<=ew l:=by
 have key:∀(n:Nat) (l:List GStep),SizeOf.sizeOf l<n->iL l<=ew l:=by
  intro n
  induction n with
  |zero=>intro t h;omega
  |succ n ih=>
   intro l h
   cases l with
   |nil=>rw[iL];simp[ew]
   |cons s l=>
    have q1:=ih s.aG (by have:=aQ (l:=s::l) (zg ..);omega)
    have q2:=ih s.aJ (by have:=aQ (l:=s::l) (zg ..);omega)
    have q3:=ih l (by have:=cP s l;omega)
    rw[iL,lU,nr]
    omega
 exact key _ l (zn _)
theorem aek(M:aq->Option oM)(t:aq)(hM:∀k∈t.ak,M k=O (nT k:Int))(h:nT t<=1000):abL M t=O (nT t:Int):=by
 have hN:=tE t
 have hL:=FA t.ak
 obtain⟨v,e1,hv⟩:=cz (rnd:=HQ M) t.ak.length (fun i (b:Int)=>⟨b,(i:Int),t⟩) (fun i b=>b=1+iM (t.ak.take i)) (fun i b hi hb=>by
   have hs:=CA hi
   refine⟨b+nT t.ak[i]!,?_,?_⟩
   ·have hk:=hM _ (aR hi)
    have hw:=fq hi (by omega)
    have hw2:i64.wrap (b+nT t.ak[i]!)=b+nT t.ak[i]! :=aF
    unfold HQ
    dsimp only
    simp only[zc,za,aq.eta,hk]
    grind
   ·rw[bA hi,oK];omega) (fun b _=>by unfold HQ;simp) (b:=1) (by simp[iM])
 have e1':FT M ⟨1,0,t⟩=O ⟨v,(t.ak.length:Int),t⟩:=e1
 unfold abL
 rw[aq.eta,e1',hN]
 rw[zG]at hv
 simp[hv]
theorem O2:∀(n:Nat) (t:aq),SizeOf.sizeOf t<n->nT t<=1000->Mn n t=O (nT t:Int)
 |0,_,h,_=>by omega
 |n+1,t,h,h2=>aek (Mn n) t (fun k hk=>O2 n k (by have:=aq.dh hk;omega) (by have:=Qb hk;have:=tE t;omega)) h2
theorem FH(t:aq)(h:nT t<=1000):L8 t=O (nT t:Int):=dy (SizeOf.sizeOf t+1) fun n hn=>O2 n t (by omega) h
theorem aaS(M:aq->Option pF)(t:aq)(hM:∀k∈t.ak,M k=O (dT k))(h:nT t<=1000):adu M t=O (dT t):=by
 have hN:=tE t
 have hL:=FA t.ak
 obtain⟨v,e1,hv⟩:=cz (rnd:=Gy M) t.ak.length (fun i (b:Int)=>⟨b,(i:Int),t⟩) (fun i b=>b=KR (t.ak.take i)) (fun i b hi hb=>by
   refine⟨max b (dT t.ak[i]!),?_,?_⟩
   ·have hk:=hM _ (aR hi)
    have hw:=fq hi (by omega)
    unfold Gy
    dsimp only
    simp only[zc,za,aq.eta,hk]
    grind
   ·rw[bA hi,C2,hb]) (fun b _=>by unfold Gy;simp) (b:=0) (by simp[KR])
 have e1':Fi M ⟨0,0,t⟩=O ⟨v,(t.ak.length:Int),t⟩:=e1
 unfold adu
 rw[aq.eta,e1',QJ]
 have hd:=UG t.ak t.ak.length
 have hp:=FV t.ak
 rw[zG]at hv hd
 subst hv
 have hw2:i64.wrap (KR t.ak+1)=KR t.ak+1:=aF
 dsimp only
 rw[dZ]
 show O (i64.wrap (KR t.ak+1))=_
 rw[hw2]
 congr 1
 omega
theorem Qf:∀(n:Nat) (t:aq),SizeOf.sizeOf t<n->nT t<=1000->Nn n t=O (dT t)
 |0,_,h,_=>by omega
 |n+1,t,h,h2=>aaS (Nn n) t (fun k hk=>Qf n k (by have:=aq.dh hk;omega) (by have:=Qb hk;have:=tE t;omega)) h2
theorem Hu(t:aq)(h:nT t<=1000):JB t=O (dT t):=dy (SizeOf.sizeOf t+1) fun n hn=>Qf n t (by omega) h
theorem AS{s:GStep}{l:List GStep}(h:s∈l):nS s<=ew l:=by
 induction l with
 |nil=>cases h
 |cons a l ih=>
  rw[lU]
  rcases zu.1 h with rfl|h
  ·omega
  ·have:=ih h;omega
def fI:List GStep->Int
 |[]=>0
 |s::l=>1+nT s.ay+fI s.aG+fI s.aJ+fI l
termination_by l=>SizeOf.sizeOf l
decreasing_by
 ·exact(aQ (zg ..)).1
 ·exact(aQ (zg ..)).2
 ·exact cP _ _
theorem AT(l:List GStep):0<=fI l/\fI l<=ew l:=by
 have key:∀(n:Nat) (l:List GStep),SizeOf.sizeOf l<n->0<=fI l/\fI l<=ew l:=by
  intro n
  induction n with
  |zero=>intro t h;omega
  |succ n ih=>
   intro l h
   cases l with
   |nil=>rw[fI];simp[ew]
   |cons s l=>
    have q1:=ih s.aG (by have:=aQ (l:=s::l) (zg ..);omega)
    have q2:=ih s.aJ (by have:=aQ (l:=s::l) (zg ..);omega)
    have q3:=ih l (by have:=cP s l;omega)
    rw[fI,lU,nr]
    omega
 exact key _ l (zn _)
theorem S1(l:List GStep)(s:GStep):fI (l++[s])=fI l+(1+nT s.ay+fI s.aG+fI s.aJ):=by
 induction l with
 |nil=>rw[z8,show fI []=0 by rw[fI],fI,show fI []=0 by rw[fI]];omega
 |cons a l ih=>rw[xe,fI,fI,ih];omega
theorem Zn(M:List GStep->Option pn)(l:List GStep)(hM:∀s∈l,M s.aG=O (fI s.aG)/\M s.aJ=O (fI s.aJ))(h:ew l<=1000):aed M l=O (fI l):=by
 have hL:=iY l
 obtain⟨v,e1,hv⟩:=cz (rnd:=HN M) l.length (fun i (b:Int)=>⟨l,b,(i:Int)⟩) (fun i b=>b=fI (l.take i)) (fun i b hi hb=>by
   have hs:=Bf hi
   have hE:=nr l[i]!
   obtain⟨k1,k4⟩:=hM _ (aR hi)
   have k2:=AT l[i]!.aG
   have k3:=AT l[i]!.aJ
   have k5:=AT (l.take i)
   have hk:=FH l[i]!.ay (by omega)
   have hw:=fq hi (by omega)
   refine⟨b+(1+nT l[i]!.ay+fI l[i]!.aG+fI l[i]!.aJ),?_,?_⟩
   ·have w1:i64.wrap (b+1)=b+1:=aF
    have w2:i64.wrap (b+1+nT l[i]!.ay)=b+1+nT l[i]!.ay:=aF
    have w3:i64.wrap (b+1+nT l[i]!.ay+fI l[i]!.aG)=b+1+nT l[i]!.ay+fI l[i]!.aG:=aF
    have w4:i64.wrap (b+1+nT l[i]!.ay+fI l[i]!.aG+fI l[i]!.aJ)=b+(1+nT l[i]!.ay+fI l[i]!.aG+fI l[i]!.aJ):=by rw[aF];omega
    unfold HN
    dsimp only
    simp only[zc,za,aq.eta,hk,k1,k4,w1,w2,w3,w4,hw]
    grind
   ·rw[bA hi,S1];omega) (fun b _=>by unfold HN;simp) (b:=0) (by simp[fI])
 have e1':GW M ⟨l,0,0⟩=O ⟨l,v,(l.length:Int)⟩:=e1
 unfold aed
 rw[e1']
 rw[zG]at hv
 simp[hv]
theorem fk{s:GStep}{l:List GStep}(h:s∈l):ew s.aG<=ew l/\ew s.aJ<=ew l:=by
 have:=AS h
 have:=nr s
 omega
theorem GS:∀(n:Nat) (l:List GStep),SizeOf.sizeOf l<n->ew l<=1000->K1 n l=O (fI l)
 |0,_,h,_=>by omega
 |n+1,l,h,h2=>Zn (K1 n) l (fun s hs=>⟨GS n _ (by have:=aQ hs;omega) (by have:=fk hs;omega),GS n _ (by have:=aQ hs;omega) (by have:=fk hs;omega)⟩) h2
theorem Zd(l:List GStep)(h:ew l<=1000):ac1 l=O (fI l):=dy (SizeOf.sizeOf l+1) fun n hn=>GS n l (by omega) h
theorem ab9(M:List GStep->Option oV)(l:List GStep)(hM:∀s∈l,M s.aG=O (iL s.aG)/\M s.aJ=O (iL s.aJ))(h:ew l<=1000):ad9 M l=O (iL l):=by
 have hL:=iY l
 obtain⟨v,e1,hv⟩:=cz (rnd:=E5 M) l.length (fun i (b:Int)=>⟨l,b,(i:Int)⟩) (fun i b=>b=iL (l.take i)) (fun i b hi hb=>by
   obtain⟨k1,k4⟩:=hM _ (aR hi)
   have k2:=TQ l[i]!.aG
   have k3:=TQ l[i]!.aJ
   have k5:=fk (aR hi)
   have k6:=qm l[i]!.aG
   have k7:=qm l[i]!.aJ
   have hw:=fq hi (by omega)
   refine⟨max b (max (iL l[i]!.aG+1) (iL l[i]!.aJ+1)),?_,?_⟩
   ·have w1:i64.wrap (iL l[i]!.aG+1)=iL l[i]!.aG+1:=aF
    have w2:i64.wrap (iL l[i]!.aJ+1)=iL l[i]!.aJ+1:=aF
    unfold E5
    dsimp only
    simp only[zc,za,k1,k4,w1,w2,hw]
    grind
   ·rw[bA hi,TB];omega) (fun b _=>by unfold E5;simp) (b:=0) (by simp[iL])
 have e1':G2 M ⟨l,0,0⟩=O ⟨l,v,(l.length:Int)⟩:=e1
 unfold ad9
 rw[e1']
 rw[zG]at hv
 simp[hv]
theorem HM:∀(n:Nat) (l:List GStep),SizeOf.sizeOf l<n->ew l<=1000->KX n l=O (iL l)
 |0,_,h,_=>by omega
 |n+1,l,h,h2=>ab9 (KX n) l (fun s hs=>⟨HM n _ (by have:=aQ hs;omega) (by have:=fk hs;omega),HM n _ (by have:=aQ hs;omega) (by have:=fk hs;omega)⟩) h2
theorem aak(l:List GStep)(h:ew l<=1000):aaW l=O (iL l):=dy (SizeOf.sizeOf l+1) fun n hn=>HM n l (by omega) h
def Iq(s:GStep):Bool:=wF (12<dT s.ay)||ei s.aG||ei s.aJ
theorem RG(l:List GStep):ei l=l.any Iq:=by
 induction l with
 |nil=>rw[ei];rfl
 |cons s l ih=>rw[ei,ih,List.any_cons];rfl
theorem XK(M:List GStep->Option nG)(l:List GStep)(hM:∀s∈l,M s.aG=O (ei s.aG)/\M s.aJ=O (ei s.aJ))(h:ew l<=1000):aaK M l=O (ei l):=by
 have hL:=iY l
 have hT:∀i,i<l.length->JB l[i]!.ay=O (dT l[i]!.ay):=fun i hi=>Hu _ (by have:=AS (aR hi);have:=nr l[i]!;omega)
 obtain⟨i,e1,hc⟩:=pg (rnd:=Hr M) l (fun i=>⟨l,(i:Int)⟩) (fun _ s=> !Iq s) (fun i hi=>by
   obtain⟨k1,k4⟩:=hM _ (aR hi)
   have hk:=hT i hi
   have hw:=fq hi (by omega)
   unfold Hr Iq
   dsimp only
   simp only[zc,za,aq.eta,hk,k1,k4,hw]
   cases ei l[i]!.aG<;>cases ei l[i]!.aJ<;>grind) (by unfold Hr;simp)
 have e1':Gn M ⟨l,0⟩=O ⟨l,(i:Int)⟩:=e1
 unfold aaK
 rw[e1',RG]
 dsimp only
 rcases hc with ⟨rfl,hc⟩|⟨hi,hc⟩
 ·rw[sP fun j hj=>by have:=hc j hj;simpa using this]
  simp
 ·have hc':Iq l[i]! =wE:=by simpa using hc
  rw[Dg hi hc']
  obtain⟨k1,k4⟩:=hM _ (aR hi)
  have hk:=hT i hi
  unfold Iq at hc'
  simp only[zc,za,aq.eta,hk,k1,k4]
  revert hc'
  cases ei l[i]!.aG<;>cases ei l[i]!.aJ<;>grind
theorem G4:∀(n:Nat) (l:List GStep),SizeOf.sizeOf l<n->ew l<=1000->MM n l=O (ei l)
 |0,_,h,_=>by omega
 |n+1,l,h,h2=>XK (MM n) l (fun s hs=>⟨G4 n _ (by have:=aQ hs;omega) (by have:=fk hs;omega),G4 n _ (by have:=aQ hs;omega) (by have:=fk hs;omega)⟩) h2
theorem adI(l:List GStep)(h:ew l<=1000):abZ l=O (ei l):=dy (SizeOf.sizeOf l+1) fun n hn=>G4 n l (by omega) h
def dI(b:aM):Bool:=b.eo||wF (1024<b.aX)
theorem uo(b:aM):gZ b=(dI b,b):=by
 unfold gZ dI
 cases b.eo<;>rfl
def cF(d:Int)(b:aM):aM:=⟨b.aX+1,b.eo||wF (12<d)⟩
def rJ(t:aq)(d:Int)(b:aM):aM:=if dI (cF d b)=wE then cF d b else t.ak.attach.foldl (fun b k=>rJ k.1 (d+1) b) (cF d b)
termination_by SizeOf.sizeOf t
decreasing_by exact aq.dh k.2
def Dz(l:List aq)(d:Int)(b:aM):aM:=l.foldl (fun b k=>rJ k d b) b
theorem VJ(t:aq)(d:Int)(b:aM):rJ t d b=if dI (cF d b)=wE then cF d b else Dz t.ak (d+1) (cF d b):=by
 rw[rJ,Dz]
 rw[show t.ak.attach.foldl (fun b k=>rJ k.1 (d+1) b) (cF d b)=t.ak.foldl (fun b k=>rJ k (d+1) b) (cF d b)from List.foldl_attach (f:=fun b k=>rJ k (d+1) b)]
theorem DR(l:List aq)(k:aq)(d:Int)(b:aM):Dz (l++[k]) d b=rJ k d (Dz l d b):=by simp[Dz]
def MsP(d0:Int)(n:Int)(b r:aM):Prop:=r.eo=(b.eo||wF (12<d0))/\b.aX<=r.aX/\r.aX<=b.aX+n
theorem Gt(t:aq)(d:Int)(b:aM)(h0:0<=d)(h1:0<=b.aX)(h2:b.aX+nT t<=1000):MsP (d-1+dT t) (nT t) b (rJ t d b):=by
 have key:∀(n:Nat) (t:aq) (d:Int) (b:aM),SizeOf.sizeOf t<n->0<=d->0<=b.aX->b.aX+nT t<=1000->MsP (d-1+dT t) (nT t) b (rJ t d b):=by
  intro n
  induction n with
  |zero=>intro t d b h;omega
  |succ n ih=>
   intro t d b h h0 h1 h2
   have hN:=tE t
   have hD:=QJ t
   have hd0:=FV t.ak
   rw[VJ]
   by_cases ho:dI (cF d b)=wE
   ·rw[if_pos ho]
    unfold dI cF at ho
    unfold MsP cF
    grind
   ·rw[if_neg ho]
    have hi:∀i,i<=t.ak.length->MsP (d+KR (t.ak.take i)) (iM (t.ak.take i)) (cF d b) (Dz (t.ak.take i) (d+1) (cF d b)):=by
     intro i
     induction i with
     |zero=>
      intro _
      unfold dI cF at ho
      simp only[xx,Dz,List.foldl_nil,MsP,KR,iM,yG,cF]
      grind
     |succ i ihi=>
      intro hi
      have q:=ihi (by omega)
      have hs:=CA (show i<t.ak.length by omega)
      have hm:t.ak[i]!∈t.ak:=aR (by omega)
      have hp:(cF d b).aX=b.aX+1:=rfl
      have q2:=ih t.ak[i]! (d+1) (Dz (t.ak.take i) (d+1) (cF d b)) (by have:=aq.dh hm;omega) (by omega) (by have:=q.2.1;omega) (by have:=q.2.2;omega)
      rw[bA (by omega),DR,C2,oK]
      unfold MsP at q q2 ⊢
      obtain⟨a1,a2,a3⟩:=q
      obtain⟨c1,c2,c3⟩:=q2
      refine⟨?_,by omega,by omega⟩
      rw[c1,a1]
      rw[Bool.or_assoc]
      congr 1
      rw[<-Bool.decide_or]
      apply decide_eq_decide.2
      omega
    have q:=hi t.ak.length (zx _)
    rw[zG]at q
    unfold MsP at q ⊢
    obtain⟨a1,a2,a3⟩:=q
    unfold dI at ho
    have hp:(cF d b).aX=b.aX+1:=rfl
    have hp2:(cF d b).eo=(b.eo||wF (12<d)):=rfl
    refine⟨?_,by omega,by omega⟩
    rw[a1,hD,hp2]
    rw[hp2]at ho
    grind
 exact key _ t d b (zn _) h0 h1 h2
theorem abF(M:aq->Int->aM->Option qA)(t:aq)(hM:∀k∈t.ak,∀(d:Int) (b:aM),0<=d->d<=13->0<=b.aX->b.aX+nT k<=1000->M k d b=O (rJ k d b))(d:Int)(b:aM)(h0:0<=d)(hd:d<=13)(h1:0<=b.aX)(h2:b.aX+nT t<=1000):XG M t d b=O (rJ t d b):=by
 have hN:=tE t
 have hL:=FA t.ak
 have hw0:i64.wrap (b.aX+1)=b.aX+1:=aF
 have hw1:i64.wrap (d+1)=d+1:=aF
 have hinc:∀x,(⟨b.aX+1,x⟩:aM)=cF d b↔x=(b.eo||wF (12<d)):=fun x=>by unfold cF;simp
 have key:dI (cF d b)=wD->d<=12/\CH M ⟨d,t.ak,(t.ak.length:Int),0,cF d b⟩=O ⟨d,t.ak,(t.ak.length:Int),(t.ak.length:Int),Dz t.ak (d+1) (cF d b)⟩:=fun ho=>by
  have hd2:d<=12:=by unfold dI cF at ho;grind
  refine⟨hd2,?_⟩
  obtain⟨v,e1,hv,_⟩:=cz (rnd:=F4 M) t.ak.length (fun i (x:aM)=>⟨d,t.ak,(t.ak.length:Int),(i:Int),x⟩) (fun i x=>x=Dz (t.ak.take i) (d+1) (cF d b)/\b.aX+1<=x.aX/\x.aX<=b.aX+1+iM (t.ak.take i)) (fun i x hi hx=>by
    have hs:=CA hi
    have hk:=hM _ (aR hi) (d+1) x (by omega) (by omega) (by omega) (by omega)
    have hp:=Gt t.ak[i]! (d+1) x (by omega) (by omega) (by omega)
    have hw:=fq hi (by omega)
    refine⟨rJ t.ak[i]! (d+1) x,?_,?_⟩
    ·unfold F4
     dsimp only
     simp only[zc,za,aq.eta,hw1,hk,hw]
     grind
    ·unfold MsP at hp
     rw[bA hi,DR,<-hx.1,oK]
     exact⟨rfl,by omega,by omega⟩) (fun x _=>by unfold F4;simp) (b:=cF d b) ⟨rfl,zk _,by show b.aX+1<=_;simp[iM]⟩
  rw[zG]at hv
  rw[<-hv]
  exact e1
 rw[VJ]
 unfold XG
 rw[hw0]
 have hm:∀x,x=(b.eo||wF (12<d))->gZ ⟨b.aX+1,x⟩=(dI (cF d b),cF d b):=fun x hx=>by rw[uo,(hinc x).2 hx]
 cases hb:b.eo with
 |true=>
  rw[hm wE (by rw[hb];rfl)]
  have ho:dI (cF d b)=wE:=by unfold dI cF;simp[hb]
  simp[ho]
 |false=>
  rw[hm (wF (12<d)) (by rw[hb];rfl)]
  cases ho:dI (cF d b)with
  |true=>simp
  |false=>
   obtain⟨_,e⟩:=key ho
   rw[e]
   simp
theorem QC:∀(n:Nat) (t:aq) (d:Int) (b:aM),SizeOf.sizeOf t<n->0<=d->d<=13->0<=b.aX->b.aX+nT t<=1000->Mf n t d b=O (rJ t d b)
 |0,_,_,_,h,_,_,_,_=>by omega
 |n+1,t,d,b,h,h0,hd,h1,h2=>abF (Mf n) t (fun k hk d b a1 a2 a3 a4=>QC n k d b (by have:=aq.dh hk;omega) a1 a2 a3 a4) d b h0 hd h1 h2
theorem N5(t:aq)(d:Int)(b:aM)(h0:0<=d)(hd:d<=13)(h1:0<=b.aX)(h2:b.aX+nT t<=1000):Dy t d b=O (rJ t d b):=dy (SizeOf.sizeOf t+1) fun n hn=>QC n t d b (by omega) h0 hd h1 h2
def mj(d:Int):List GStep->aM->aM
 |[],b=>b
 |s::l,b=>if dI (cF d b)=wE then cF d b else mj d l (mj (d+1) s.aJ (mj (d+1) s.aG (rJ s.ay 1 (cF d b))))
termination_by l=>SizeOf.sizeOf l
decreasing_by
 ·exact(aQ (zg ..)).1
 ·exact(aQ (zg ..)).2
 ·exact cP _ _
theorem MX(d:Int)(l:List GStep)(b:aM)(h0:0<=d)(hd:d<=13)(h1:0<=b.aX)(h2:b.aX+ew l<=1000):(mj d l b).eo=(b.eo||(wF (12<d-1+iL l)||ei l))/\b.aX<=(mj d l b).aX/\(mj d l b).aX<=b.aX+ew l:=by
 have key:∀(n:Nat) (d:Int) (l:List GStep) (b:aM),SizeOf.sizeOf l<n->0<=d->d<=13->0<=b.aX->b.aX+ew l<=1000->(mj d l b).eo=(b.eo||(wF (12<d-1+iL l)||ei l))/\b.aX<=(mj d l b).aX/\(mj d l b).aX<=b.aX+ew l:=by
  intro n
  induction n with
  |zero=>intro d l b h;omega
  |succ n ih=>
   intro d l b h h0 hd h1 h2
   cases l with
   |nil=>
    rw[mj,iL,ei]
    refine⟨?_,by omega,by simp[ew]⟩
    rw[dZ]
    simp
   |cons s l=>
    have hz:=aQ (l:=s::l) (zg ..)
    have hz2:=cP s l
    have hN:=nr s
    have hC:=lU s l
    have p1:=qm s.aG
    have p2:=qm s.aJ
    have p3:=qm l
    have p4:=aj9 s.ay
    have hp:(cF d b).aX=b.aX+1:=rfl
    have hp2:(cF d b).eo=(b.eo||wF (12<d)):=rfl
    rw[mj,iL,ei]
    by_cases ho:dI (cF d b)=wE
    ·rw[if_pos ho]
     unfold dI cF at ho
     unfold cF
     dsimp only at ho ⊢
     refine⟨?_,by omega,by omega⟩
     grind
    ·rw[if_neg ho]
     unfold dI at ho
     rw[hp,hp2]at ho
     have hb:b.eo=wD:=by grind
     have hd2:d<=12:=by grind
     obtain⟨a1,a2,a3⟩:=Gt s.ay 1 (cF d b) (by omega) (by omega) (by omega)
     obtain⟨c1,c2,c3⟩:=ih (d+1) s.aG (rJ s.ay 1 (cF d b)) (by omega) (by omega) (by omega) (by omega) (by omega)
     obtain⟨g1,g2,g3⟩:=ih (d+1) s.aJ _ (by omega) (by omega) (by omega) (xA (by omega) c2) (by omega)
     obtain⟨k1,k2,k3⟩:=ih d l _ (by omega) h0 hd (xA (by omega) g2) (by omega)
     refine⟨?_,by omega,by omega⟩
     rw[k1,g1,c1,a1,hp2,hb]
     rw[decide_eq_false (show ¬12<d by omega)]
     have e1:wF (12<1-1+dT s.ay)=wF (12<dT s.ay):=by congr 1;rw[show (1:Int)-1+dT s.ay=dT s.ay by omega]
     rw[e1]
     have e2:wF (12<d-1+max (max (iL s.aG+1) (iL s.aJ+1)) (iL l))=(wF (12<d+1-1+iL s.aG)||(wF (12<d+1-1+iL s.aJ)||wF (12<d-1+iL l))):=by
      rw[<-Bool.decide_or,<-Bool.decide_or]
      apply decide_eq_decide.2
      omega
     rw[e2]
     generalize wF (12<dT s.ay)=x1
     generalize wF (12<d+1-1+iL s.aG)=x2
     generalize wF (12<d+1-1+iL s.aJ)=x3
     generalize wF (12<d-1+iL l)=x4
     generalize ei s.aG=x5
     generalize ei s.aJ=x6
     generalize ei l=x7
     revert x1 x2 x3 x4 x5 x6 x7
     decide
 exact key _ d l b (zn _) h0 hd h1 h2
theorem wZ{α:Type}[Inhabited α]{c:Nat->α->Int}:∀(l:List α) (i:Nat),bY c l i=0->∀j,j<l.length->c (i+j) l[j]! =0
 |[],i,_,j,hj=>by simp at hj
 |x::xs,i,h,j,hj=>by
  unfold bY at h
  split at h
  ·rename_i hx
   cases j with
   |zero=>exact hx
   |succ j=>
    have:=wZ xs (i+1) h j (by simpa using hj)
    rw[show i+1+j=i+(j+1)by omega]at this
    simpa using this
  ·rename_i hx;exact absurd h hx
def cJ(vars:List aN):Prop:=∀v∈vars,-1048576<=v.aa/\v.aa<=v.af/\v.af<=1048576
theorem Sb{vars:List aN}{i:Nat}{v:aN}(h:kU vars i v=0): -1048576<=v.aa/\v.aa<=v.af/\v.af<=1048576:=by
 unfold kU fX at h
 grind
theorem lG{vars:List aN}(h:bY (kU vars) vars 0=0):cJ vars:=fun v hv=>by
 obtain⟨i,hi,e⟩:=xK hv
 have:=wZ _ _ h i hi
 rw[getElem!_pos vars i hi,e]at this
 exact Sb this
theorem rH(kind:Int):∀(l:List aN) (i:Nat) (n:Int),Mj (fun _ (n:Int) (v:aN)=>if 4096<n*(v.af-v.aa+1)then(.inr ():Int ⊕ Unit)else .inl (n*(v.af-v.aa+1))) (fun _=>(wC:Option Int)) O (l.filter fun v=>wF (v.aY=kind)) i n=sN kind l n
 |[],i,n=>rfl
 |v::vs,i,n=>by
  unfold sN
  by_cases hv:v.aY=kind
  ·rw[List.filter_cons_of_pos (by simpa using hv),if_pos hv]
   by_cases h:4096<n*(v.af-v.aa+1)
   ·rw[if_pos h,AJ (r:=()) (by rw[if_pos h])]
   ·rw[if_neg h,sY (by rw[if_neg h])]
    exact rH kind vs (i+1) _
  ·rw[List.filter_cons_of_neg (by simpa using hv),if_neg hv]
   exact rH kind vs i n
theorem Ca(kind:Int):∀(l:List aN) (i:Nat) (n:Int),Mj (fun _ (n:Int) (v:aN)=>if v.aY=kind then(if 4096<n*(v.af-v.aa+1)then(.inr ():Int ⊕ Unit)else .inl (n*(v.af-v.aa+1)))else .inl n) (fun _=>(wC:Option Int)) O l i n=sN kind l n
 |[],i,n=>rfl
 |v::vs,i,n=>by
  unfold sN
  by_cases hv:v.aY=kind
  ·rw[if_pos hv]
   by_cases h:4096<n*(v.af-v.aa+1)
   ·rw[if_pos h,AJ (r:=()) (by rw[if_pos hv,if_pos h])]
   ·rw[if_neg h,sY (b':=n*(v.af-v.aa+1)) (by rw[if_pos hv,if_neg h])]
    exact Ca kind vs (i+1) _
  ·rw[if_neg hv,sY (b':=n) (by rw[if_neg hv])]
   exact Ca kind vs (i+1) n
theorem AI{v:aN}(h: -1048576<=v.aa/\v.aa<=v.af/\v.af<=1048576){n:Int}(h1:1<=n)(h2:n<=4096):
  1<=n*(v.af-v.aa+1)/\i64.wrap (v.af-v.aa)=v.af-v.aa/\i64.wrap (v.af-v.aa+1)=v.af-v.aa+1/\i64.wrap (n*(v.af-v.aa+1))=n*(v.af-v.aa+1):=by
 have e1:0<=(n-1)*(v.af-v.aa+1):=zo (by omega) (by omega)
 have e2:n*(v.af-v.aa+1)<=4096*(v.af-v.aa+1):=zF h2 (by omega)
 have e3:(n-1)*(v.af-v.aa+1)=n*(v.af-v.aa+1)-(v.af-v.aa+1):=by rw[yf,zN]
 exact⟨by omega,aF,aF,aF⟩
theorem RA(vars:List aN)(hv:cJ vars)(hl:vars.length<=1000000)(kind:Int):rP ⟨kind,[],vars,(vars.length:Int),0⟩=O ⟨kind,vars.filter (fun v=>wF (v.aY=kind)),vars,(vars.length:Int),(vars.length:Int)⟩:=by
 obtain⟨v,e1,hV⟩:=cz (rnd:=CL) vars.length (fun i (b:List aN)=>⟨kind,b,vars,(vars.length:Int),(i:Int)⟩) (fun i b=>b=(vars.take i).filter fun v=>wF (v.aY=kind)) (fun i b hi hb=>by
  have hw:=fq hi hl
  have hv:=hv _ (aR hi)
  have hb2:b.length<=i:=by rw[hb];exact zy (yJ _ _) (by rw[zU];omega)
  rw[bA hi,xy,<-hb]
  by_cases hk:vars[i]!.aY=kind
  ·refine⟨b++[vars[i]!],?_,?_⟩
   ·have hl2:(b++[vars[i]!]).length<=1073741824:=by simp;omega
    unfold CL
    dsimp only
    simp only[zc,za]
    grind
   ·revert hk
    generalize vars[i]! =x
    intro hk
    simp[hk]
  ·refine⟨b,?_,?_⟩
   ·unfold CL
    dsimp only
    simp only[zc,za]
    grind
   ·revert hk
    generalize vars[i]! =x
    intro hk
    simp[hk]) (fun b _=>by unfold CL;simp) (b:=[]) rfl
 rw[zG]at hV
 rw[<-hV]
 exact e1
theorem R9(F:List aN)(hv:cJ F)(hl:F.length<=1000000):
  ∃(i:Nat) (n:Int),rU ⟨F,1,F,(F.length:Int),0⟩=O ⟨F,n,F,(F.length:Int),(i:Int)⟩/\((i=F.length/\Mj (fun _ (n:Int) (v:aN)=>if 4096<n*(v.af-v.aa+1)then(.inr ():Int ⊕ Unit)else .inl (n*(v.af-v.aa+1))) (fun _=>(wC:Option Int)) O F 0 1=O n)\/
   (i<F.length/\4096<i64.wrap (n*DF F[i]!)/\Mj (fun _ (n:Int) (v:aN)=>if 4096<n*(v.af-v.aa+1)then(.inr ():Int ⊕ Unit)else .inl (n*(v.af-v.aa+1))) (fun _=>(wC:Option Int)) O F 0 1=wC)):=by
 have hm:∀(i:Nat) (n:Int),i<F.length->1<=n->n<=4096->i64.wrap (n*DF F[i]!)=n*(F[i]!.af-F[i]!.aa+1):=fun i n hi h1 h2=>by
  obtain⟨a,b,c,d⟩:=AI (hv _ (aR hi)) h1 h2
  unfold DF
  rw[b,c,d]
 obtain⟨i,n,e1,hI,hc⟩:=Xl (rnd:=EU) F (fun i (n:Int)=>⟨F,n,F,(F.length:Int),(i:Int)⟩) (fun _ (n:Int) (v:aN)=>if 4096<n*(v.af-v.aa+1)then(.inr ():Int ⊕ Unit)else .inl (n*(v.af-v.aa+1))) (fun _=>(wC:Option Int)) O (fun i n=>1<=n/\n<=4096) (fun i n hi hI=>by
  have hw:=fq hi hl
  have h1:=hm i n hi hI.1 hI.2
  have h2:=(AI (hv _ (aR hi)) hI.1 hI.2).1
  unfold EU
  dsimp only
  simp only[zc,za,h1]
  grind) (fun b _=>by unfold EU;simp) (b:=1) ⟨by omega,by omega⟩
 refine⟨i,n,e1,?_⟩
 rcases hc with ⟨h1,h2⟩|⟨h1,r,h2,h3⟩
 ·exact .inl ⟨h1,h2⟩
 ·refine .inr ⟨h1,?_,h3⟩
  rw[hm i n h1 hI.1 hI.2]
  by_cases h:4096<n*(F[i]!.af-F[i]!.aa+1)
  ·exact h
  ·rw[if_neg h]at h2
   cases h2
theorem HO(vars:List aN)(hv:cJ vars)(hl:vars.length<=1000000)(kind:Int)(hk:kind=1\/kind=2\/kind=3):WH vars kind=O (match sN kind vars 1 with|O n=>(n,0)|wC=>(0,4)):=by
 have e0:=RA vars hv hl kind
 obtain⟨i,n,e1,hc⟩:=R9 (vars.filter fun v=>wF (v.aY=kind)) (fun v h=>hv v (zW.1 h).1) (zy (yJ _ _) hl)
 rw[rH]at hc
 unfold WH ajO
 rcases hk with rfl|rfl|rfl
 all_goals
  simp only[zc,e0,e1,Int.reduceEq,if_true,if_false,reduceIte]
  rcases hc with ⟨rfl,hc⟩|⟨hi,h2,hc⟩
  ·simp[hc]
  ·simp only[za,h2,if_true,hc]
   simp[hi]
theorem G9(vars:List aN)(hv:cJ vars)(hl:vars.length<=1000000)(kind:Int):SJ vars kind=O (match sN kind vars 1 with|O n=>n|wC=>4097):=by
 have hm:∀(i:Nat) (n:Int),i<vars.length->1<=n->n<=4096->i64.wrap (n*i64.wrap (i64.wrap (vars[i]!.af-vars[i]!.aa)+1))=n*(vars[i]!.af-vars[i]!.aa+1):=fun i n hi h1 h2=>by
  obtain⟨a,b,c,d⟩:=AI (hv _ (aR hi)) h1 h2
  rw[b,c,d]
 obtain⟨i,n,e1,hI,hc⟩:=Xl (rnd:=G1) vars (fun i (n:Int)=>⟨vars,kind,n,(i:Int)⟩) (fun _ (n:Int) (v:aN)=>if v.aY=kind then(if 4096<n*(v.af-v.aa+1)then(.inr ():Int ⊕ Unit)else .inl (n*(v.af-v.aa+1)))else .inl n) (fun _=>(wC:Option Int)) O (fun i n=>1<=n/\n<=4096) (fun i n hi hI=>by
  have hw:=fq hi hl
  have h1:=hm i n hi hI.1 hI.2
  have h2:=(AI (hv _ (aR hi)) hI.1 hI.2).1
  unfold G1
  dsimp only
  simp only[zc,za,h1]
  grind) (fun b _=>by unfold G1;simp) (b:=1) ⟨by omega,by omega⟩
 rw[Ca]at hc
 have e1':Hl ⟨vars,kind,1,0⟩=O ⟨vars,kind,n,(i:Int)⟩:=e1
 unfold SJ
 rw[e1']
 dsimp only
 rcases hc with ⟨rfl,hc⟩|⟨hi,r,h2,hc⟩
 ·simp[hc]
 ·have h1:=hm i n hi hI.1 hI.2
  simp only[zc,za,h1,hc]
  grind
theorem BH(kind:Int):∀(l:List aN) (n m:Int),n<=4096->sN kind l n=O m->m<=4096
 |[],n,m,h,e=>by unfold sN at e;cases e;exact h
 |v::vs,n,m,h,e=>by
  unfold sN at e
  split at e
  ·split at e
   ·cases e
   ·exact BH kind vs _ m (by omega) e
  ·exact BH kind vs n m h e
theorem Tj(vars:List aN)(hl:vars.length<=1000000)(i:Nat)(hi:i<vars.length):(kU vars i vars[i]! =0->uV ⟨vars,vars,(vars.length:Int),(i:Int)⟩=O (O ⟨vars,vars,(vars.length:Int),((i+1:Nat):Int)⟩))/\(kU vars i vars[i]!≠0->uV ⟨vars,vars,(vars.length:Int),(i:Int)⟩=O wC):=by
 have hw:=fq hi hl
 have h1:=AO vars[i]!.fName
 have h2:=PW (vars.take i) (by rw[zU];omega) vars[i]!
 unfold uV kU
 dsimp only
 simp only[zc,za,AH,h1,h2]
 generalize gY vars[i]!.fName=B
 generalize ((vars.take i).any fun w=>w.fName.toList==vars[i]!.fName.toList)=A
 generalize fX vars[i]!.aa vars[i]!.af=C
 cases A<;>cases B<;>cases C<;>simp only[cond_true,cond_false]<;>grind
theorem aaA(vars:List aN)(hl:vars.length<=1000000):Z6 vars=O (jv vars):=by
 obtain⟨i,e1,hc⟩:=qZ (rnd:=uV) vars (fun i=>⟨vars,vars,(vars.length:Int),(i:Int)⟩) (kU vars) (fun i hi=>Tj vars hl i hi) (by unfold uV;simp)
 have e1':EK ⟨vars,vars,(vars.length:Int),0⟩=O ⟨vars,vars,(vars.length:Int),(i:Int)⟩:=e1
 unfold Z6 jv
 rw[e1']
 dsimp only
 rcases hc with ⟨rfl,hc⟩|⟨hi,h0,hc⟩
 ·have hv:=lG hc
  rw[dZ,cond_false,if_neg (by rw[hc];simp)]
  have hr:∀k:Nat,k<3->i64.wrap ((k:Int)+1)=((k+1:Nat):Int):=fun k hk=>fq hk (by decide)
  have k1:=HO vars hv hl 1 (.inl rfl)
  have k2:=HO vars hv hl 2 (.inr (.inl rfl))
  have k3:=HO vars hv hl 3 (.inr (.inr rfl))
  have r1:nV ⟨vars,[1,2,3],3,0⟩=match sN 1 vars 1 with|O _=>O (O ⟨vars,[1,2,3],3,1⟩)|wC=>O wC:=by
   unfold nV
   simp[k1]
   cases sN 1 vars 1 with
   |none=>simp
   |some n=>simp;exact hr 0 (by decide)
  have r2:nV ⟨vars,[1,2,3],3,1⟩=match sN 2 vars 1 with|O _=>O (O ⟨vars,[1,2,3],3,2⟩)|wC=>O wC:=by
   unfold nV
   simp[k2]
   cases sN 2 vars 1 with
   |none=>simp
   |some n=>simp;exact hr 1 (by decide)
  have r3:nV ⟨vars,[1,2,3],3,2⟩=match sN 3 vars 1 with|O n=>if 256<n then O wC else O (O ⟨vars,[1,2,3],3,3⟩)|wC=>O wC:=by
   unfold nV
   simp[k3]
   cases sN 3 vars 1 with
   |none=>simp
   |some n=>
    by_cases h:256<n
    ·simp[h]
    ·simp[h];exact hr 2 (by decide)
  unfold uT
  cases s1:sN 1 vars 1 with
  |none=>
   rw[s1]at r1 k1
   have e:pL ⟨vars,[1,2,3],3,0⟩=O ⟨vars,[1,2,3],3,0⟩:=bW fun r=>by rw[r1];simp
   rw[show ((↑(3:Int):Int))=3 from rfl,e]
   simp[k1]
  |some n1=>
   rw[s1]at r1 k1
   cases s2:sN 2 vars 1 with
   |none=>
    rw[s2]at r2 k2
    have e:pL ⟨vars,[1,2,3],3,0⟩=O ⟨vars,[1,2,3],3,1⟩:=(bF r1).trans (bW fun r=>by rw[r2];simp)
    rw[show ((↑(3:Int):Int))=3 from rfl,e]
    simp[k2]
   |some n2=>
    rw[s2]at r2 k2
    cases s3:sN 3 vars 1 with
    |none=>
     rw[s3]at r3 k3
     have e:pL ⟨vars,[1,2,3],3,0⟩=O ⟨vars,[1,2,3],3,2⟩:=(bF r1).trans ((bF r2).trans (bW fun r=>by rw[r3];simp))
     rw[show ((↑(3:Int):Int))=3 from rfl,e]
     simp[k3]
    |some n3=>
     rw[s3]at r3 k3
     dsimp only at r3
     by_cases h:256<n3
     ·rw[if_pos h]at r3
      have e:pL ⟨vars,[1,2,3],3,0⟩=O ⟨vars,[1,2,3],3,2⟩:=(bF r1).trans ((bF r2).trans (bW fun r=>by rw[r3];simp))
      rw[show ((↑(3:Int):Int))=3 from rfl,e]
      simp[k3,h]
     ·rw[if_neg h]at r3
      have e:pL ⟨vars,[1,2,3],3,0⟩=O ⟨vars,[1,2,3],3,3⟩:=(bF r1).trans ((bF r2).trans ((bF r3).trans (bW fun r=>by unfold nV;simp)))
      rw[show ((↑(3:Int):Int))=3 from rfl,e]
      simp[h]
 ·have h1:=AO vars[i]!.fName
  have h2:=PW (vars.take i) (by rw[zU];omega) vars[i]!
  rw[hc,if_pos h0]
  rw[qz,cond_true,if_pos ⟨by omega,by omega⟩]
  revert h0
  unfold kU
  simp only[zc,za,AH,h1,h2]
  generalize gY vars[i]!.fName=B
  generalize ((vars.take i).any fun w=>w.fName.toList==vars[i]!.fName.toList)=A
  generalize fX vars[i]!.aa vars[i]!.af=C
  intro h0
  cases A<;>cases B<;>cases C<;>simp only[cond_true,cond_false]at h0 ⊢ <;>grind
theorem ack(vars:List aN)(hl:vars.length<=1000000)(i:Nat)(hi:i<vars.length):(kU vars i vars[i]! =0->u9 ⟨vars,(i:Int)⟩=O (O ⟨vars,((i+1:Nat):Int)⟩))/\(kU vars i vars[i]!≠0->u9 ⟨vars,(i:Int)⟩=O wC):=by
 have hw:=fq hi hl
 have h1:=Au vars[i]!.fName
 obtain⟨j,h2,h3⟩:=DX vars hl i (by omega) vars[i]!
 unfold u9 kU
 dsimp only
 simp only[zc,za,A4,h1,h2]
 generalize gY vars[i]!.fName=B
 generalize ((vars.take i).any fun w=>w.fName.toList==vars[i]!.fName.toList)=A at h3
 generalize fX vars[i]!.aa vars[i]!.af=C
 rcases h3 with ⟨rfl,rfl⟩|⟨hj,h4,rfl⟩
 ·cases B<;>cases C<;>simp only[cond_true,cond_false]<;>grind
 ·simp only[h4]
  cases B<;>cases C<;>simp only[cond_true,cond_false]<;>grind
theorem abw(vars:List aN)(hl:vars.length<=1000000):abi vars=O (jv vars):=by
 obtain⟨i,e1,hc⟩:=qZ (rnd:=u9) vars (fun i=>⟨vars,(i:Int)⟩) (kU vars) (fun i hi=>ack vars hl i hi) (by unfold u9;simp)
 have e1':FP ⟨vars,0⟩=O ⟨vars,(i:Int)⟩:=e1
 unfold abi jv
 rw[e1']
 dsimp only
 rcases hc with ⟨rfl,hc⟩|⟨hi,h0,hc⟩
 ·have hv:=lG hc
  rw[dZ,cond_false,if_neg (by rw[hc];simp)]
  rw[G9 vars hv hl 1,G9 vars hv hl 2,G9 vars hv hl 3]
  have b1:=BH 1 vars 1
  have b2:=BH 2 vars 1
  unfold uT
  revert b1 b2
  cases sN 1 vars 1<;>cases sN 2 vars 1<;>cases sN 3 vars 1<;>intro b1 b2<;>simp only[zc,Option.isSome_none,Option.isSome_some,Bool.and_true,Bool.and_false,xF,Bool.false_and]<;>(try have c1:=b1 _ (by omega) rfl)<;>(try have c2:=b2 _ (by omega) rfl)<;>grind
 ·have h1:=Au vars[i]!.fName
  obtain⟨j,h2,h3⟩:=DX vars hl i (by omega) vars[i]!
  rw[hc,if_pos h0]
  rw[qz,cond_true,if_pos ⟨by omega,by omega⟩]
  revert h0
  unfold kU
  simp only[zc,za,A4,h1,h2]
  generalize gY vars[i]!.fName=B
  generalize ((vars.take i).any fun w=>w.fName.toList==vars[i]!.fName.toList)=A at h3
  generalize fX vars[i]!.aa vars[i]!.af=C
  intro h0
  rcases h3 with ⟨rfl,rfl⟩|⟨hj,h4,rfl⟩
  ·cases B<;>cases C<;>simp only[cond_true,cond_false]at h0 ⊢ <;>grind
  ·simp only[h4]
   cases B<;>cases C<;>simp only[cond_true,cond_false]at h0 ⊢ <;>grind
theorem abu(o:Int):JV o=bK o:=by
 unfold JV bK
 simp only[zc]
 grind
theorem abq(o:Int):Dw o=if o=25 then-2 else(bK o).1:=by
 unfold Dw bK
 simp only[zc]
 grind (splits:=40)
theorem acB(M:List aN->aq->Bool->Option qL)(vars:List aN)(inp:Bool)(t:aq)(hM:∀k∈t.ak,M vars k inp=O (cC vars inp k)):Y6 M vars t inp=O (cC vars inp t):=by
 have key:t.ak.length<=1000000->∃i:Nat,v7 M ⟨vars,inp,t.ak,(t.ak.length:Int),0⟩=O ⟨vars,inp,t.ak,(t.ak.length:Int),(i:Int)⟩/\((i=t.ak.length/\t.ak.all (cC vars inp)=wE)\/(i<t.ak.length/\cC vars inp t.ak[i]! =wD/\t.ak.all (cC vars inp)=wD)):=fun hl=>by
  obtain⟨i,e1,hc⟩:=pg (rnd:=G5 M) t.ak (fun i=>⟨vars,inp,t.ak,(t.ak.length:Int),(i:Int)⟩) (fun _ k=>cC vars inp k) (fun i hi=>by
   have hw:=fq hi hl
   have hk:=hM _ (aR hi)
   unfold G5
   dsimp only
   simp only[zc,za,aq.eta,hk,hw]
   cases cC vars inp t.ak[i]! <;>simp[hi]) (by unfold G5;simp)
  refine⟨i,e1,?_⟩
  rcases hc with ⟨rfl,hc⟩|⟨hi,hc⟩
  ·exact .inl ⟨rfl,BK hc⟩
  ·exact .inr ⟨hi,hc,tD hi hc⟩
 unfold Y6
 rw[abu,j5]
 unfold wP
 by_cases hn:0<=(bK t.aW).1/\(bK t.aW).1<=t.ak.length/\(t.ak.length:Int)<=(bK t.aW).2
 ·have h33:(bK t.aW).2<=33:=by unfold bK;grind
  obtain⟨i,e,hc⟩:=key (by omega)
  rw[decide_eq_true hn,decide_eq_false (show ¬(bK t.aW).1<0 by omega),decide_eq_false (show ¬(t.ak.length:Int)<(bK t.aW).1 by omega),decide_eq_false (show ¬(bK t.aW).2<(t.ak.length:Int)by omega),e]
  generalize t.ak.all (cC vars inp)=A at hc
  simp only[zc,za,cond_false,xF]
  rcases hc with ⟨rfl,rfl⟩|⟨hi,h2,rfl⟩
  ·cases inp<;>grind
  ·have hk:=hM _ (aR hi)
   simp only[aq.eta,hk,h2]
   cases inp<;>grind
 ·rw[decide_eq_false hn]
  simp only[zc]
  grind
theorem Q9(vars:List aN)(inp:Bool):∀(n:Nat) (t:aq),SizeOf.sizeOf t<n->Ny n vars t inp=O (cC vars inp t)
 |0,_,h=>by omega
 |n+1,t,h=>acB (Ny n) vars inp t (fun k hk=>Q9 vars inp n k (by have:=aq.dh hk;omega))
theorem aam(vars:List aN)(inp:Bool)(t:aq):ZW vars t inp=O (cC vars inp t):=dy (SizeOf.sizeOf t+1) fun n hn=>Q9 vars inp n t (by omega)
theorem ZV(M:List aN->aq->Bool->Option qJ)(vars:List aN)(inp:Bool)(t:aq)(hM:∀k∈t.ak,M vars k inp=O (cC vars inp k)):Yi M vars t inp=O (cC vars inp t):=by
 have key:t.ak.length<=1000000->∃i:Nat,B5 M ⟨vars,inp,0,t⟩=O ⟨vars,inp,(i:Int),t⟩/\((i=t.ak.length/\t.ak.all (cC vars inp)=wE)\/(i<t.ak.length/\cC vars inp t.ak[i]! =wD/\t.ak.all (cC vars inp)=wD)):=fun hl=>by
  obtain⟨i,e1,hc⟩:=pg (rnd:=FJ M) t.ak (fun i=>⟨vars,inp,(i:Int),t⟩) (fun _ k=>cC vars inp k) (fun i hi=>by
   have hw:=fq hi hl
   have hk:=hM _ (aR hi)
   unfold FJ
   dsimp only
   simp only[zc,za,aq.eta,hk,hw]
   cases cC vars inp t.ak[i]! <;>simp[hi]) (by unfold FJ;simp)
  refine⟨i,e1,?_⟩
  rcases hc with ⟨rfl,hc⟩|⟨hi,hc⟩
  ·exact .inl ⟨rfl,BK hc⟩
  ·exact .inr ⟨hi,hc,tD hi hc⟩
 unfold Yi
 rw[abq,j5]
 unfold wP
 have hk0:(bK t.aW).1= -1\/0<=(bK t.aW).1:=by unfold bK;grind
 have hk1:t.aW≠25->(bK t.aW).1=(bK t.aW).2:=by unfold bK;grind
 have hk2:t.aW=25->bK t.aW=(2,33):=by unfold bK;grind
 have h33:(bK t.aW).2<=33:=by unfold bK;grind
 have hk3:t.aW=25->(bK t.aW).1=2/\(bK t.aW).2=33:=fun h=>by rw[hk2 h];exact⟨rfl,rfl⟩
 generalize (bK t.aW).1=a at*
 generalize (bK t.aW).2=b at*
 by_cases hn:0<=a/\a<=t.ak.length/\(t.ak.length:Int)<=b
 ·obtain⟨i,e,hc⟩:=key (by omega)
  rw[decide_eq_true hn,aq.eta,e]
  generalize t.ak.all (cC vars inp)=A at hc
  simp only[zc,za,xF]
  rcases hc with ⟨rfl,rfl⟩|⟨hi,h2,rfl⟩
  ·cases inp<;>grind
  ·have hk:=hM _ (aR hi)
   simp only[aq.eta,hk,h2]
   clear hM key e hk h2 hk2 hk0
   by_cases h25:t.aW=25
   ·rw[if_pos h25,h25]
    cases inp<;>grind (splits:=30)
   ·rw[if_neg h25]
    have:=hk1 h25
    subst this
    rw[if_neg (show ¬a= -1 by omega),if_pos (show 0<=a by omega),if_pos (show (t.ak.length:Int)=a by omega),if_neg (show ¬a= -2 by omega)]
    dsimp only[cond_false,cond_true]
    cases inp<;>grind (splits:=30)
 ·rw[decide_eq_false hn]
  simp only[zc]
  grind
theorem Pc(vars:List aN)(inp:Bool):∀(n:Nat) (t:aq),SizeOf.sizeOf t<n->K0 n vars t inp=O (cC vars inp t)
 |0,_,h=>by omega
 |n+1,t,h=>ZV (K0 n) vars inp t (fun k hk=>Pc vars inp n k (by have:=aq.dh hk;omega))
theorem YX(vars:List aN)(inp:Bool)(t:aq):Yb vars t inp=O (cC vars inp t):=dy (SizeOf.sizeOf t+1) fun n hn=>Pc vars inp n t (by omega)
def Dv(s:Span):Prop:= -1048576<=s.aa/\s.aa<=s.af/\s.af<=1048576
theorem Ar(a b:Span):SO a b=eV a b:=rfl
theorem nX{a b:Int}(h1: -1048576<=a)(h2:a<=1048576)(h3: -1048576<=b)(h4:b<=1048576): -1099511627776<=a*b/\a*b<=1099511627776:=by
 have e1:(1048576-a)*(1048576-b)≥0:=zo (by omega) (by omega)
 have e2:(1048576+a)*(1048576+b)≥0:=zo (by omega) (by omega)
 have e3:(1048576-a)*(1048576+b)≥0:=zo (by omega) (by omega)
 have e4:(1048576+a)*(1048576-b)≥0:=zo (by omega) (by omega)
 grind
theorem abA(a b:Span)(ha:Dv a)(hb:Dv b):ac3 a b=O (eV (eV (eV ⟨a.aa*b.aa,a.aa*b.aa⟩ ⟨a.aa*b.af,a.aa*b.af⟩) ⟨a.af*b.aa,a.af*b.aa⟩) ⟨a.af*b.af,a.af*b.af⟩):=by
 unfold Dv at ha hb
 have w1:uL a.aa b.aa=a.aa*b.aa:=by have:=nX (a:=a.aa) (b:=b.aa) (by omega) (by omega) (by omega) (by omega);exact aF
 have w2:uL a.aa b.af=a.aa*b.af:=by have:=nX (a:=a.aa) (b:=b.af) (by omega) (by omega) (by omega) (by omega);exact aF
 have w3:uL a.af b.aa=a.af*b.aa:=by have:=nX (a:=a.af) (b:=b.aa) (by omega) (by omega) (by omega) (by omega);exact aF
 have w4:uL a.af b.af=a.af*b.af:=by have:=nX (a:=a.af) (b:=b.af) (by omega) (by omega) (by omega) (by omega);exact aF
 unfold ac3
 rw[w1,w2,w3,w4]
 generalize a.aa*b.aa=p
 generalize a.aa*b.af=q
 generalize a.af*b.aa=r
 generalize a.af*b.af=s
 have e:BQ ⟨[q,r,s],(3:Int),0,⟨0,0⟩,⟨p,p⟩⟩=O ⟨[q,r,s],3,3,⟨0,0⟩,eV (eV (eV ⟨p,p⟩ ⟨q,q⟩) ⟨r,r⟩) ⟨s,s⟩⟩:=by
  have k1:ob ⟨[q,r,s],(3:Int),0,⟨0,0⟩,⟨p,p⟩⟩=O (O ⟨[q,r,s],(3:Int),1,⟨0,0⟩,eV ⟨p,p⟩ ⟨q,q⟩⟩):=by unfold ob;simp[Ar,aF]
  have k2:ob ⟨[q,r,s],(3:Int),1,⟨0,0⟩,eV ⟨p,p⟩ ⟨q,q⟩⟩=O (O ⟨[q,r,s],(3:Int),2,⟨0,0⟩,eV (eV ⟨p,p⟩ ⟨q,q⟩) ⟨r,r⟩⟩):=by unfold ob;simp[Ar,aF]
  have k3:ob ⟨[q,r,s],(3:Int),2,⟨0,0⟩,eV (eV ⟨p,p⟩ ⟨q,q⟩) ⟨r,r⟩⟩=O (O ⟨[q,r,s],(3:Int),3,⟨0,0⟩,eV (eV (eV ⟨p,p⟩ ⟨q,q⟩) ⟨r,r⟩) ⟨s,s⟩⟩):=by unfold ob;simp[Ar,aF]
  unfold BQ
  rw[bF k1,bF k2,bF k3]
  exact bW fun r=>by unfold ob;simp
 rw[show (([q,r,s]:List Int).length:Int)=3 from rfl,e]
 simp
theorem aaw{a b:Span}(ha:Dv a)(hb:Dv b):Dv (eV a b):=by
 unfold Dv eV at*
 grind
theorem lq:∀(l:List Span) (a:Span),Dv a->(∀x∈l,Dv x)->Dv (l.foldl eV a)
 |[],a,ha,_=>ha
 |x::l,a,ha,h=>lq l (eV a x) (aaw ha (h x (zg ..))) fun y hy=>h y (zC _ hy)
theorem RB(l:List Span)(hl:l.length<=1000000)(z a:Span):C1 ⟨l,(l.length:Int),0,z,a⟩=O ⟨l,(l.length:Int),(l.length:Int),z,l.foldl eV a⟩:=by
 obtain⟨v,e1,hv⟩:=cz (rnd:=G7) l.length (fun i (b:Span)=>⟨l,(l.length:Int),(i:Int),z,b⟩) (fun i b=>b=(l.take i).foldl eV a) (fun i b hi hb=>by
  have hw:=fq hi hl
  refine⟨eV b l[i]!,?_,?_⟩
  ·unfold G7
   dsimp only
   simp only[zc,za,Ar,hw]
   grind
  ·rw[bA hi,List.foldl_append,hb];rfl) (fun b _=>by unfold G7;simp) (b:=a) rfl
 rw[zG]at hv
 rw[<-hv]
 exact e1
def C4(vars:List aN)(t:aq)(k:List Span):Prop:=(0<=(bK t.aW).1/\(bK t.aW).1<=k.length/\(k.length:Int)<=(bK t.aW).2)/\(t.aW=24->0<=t.fN/\t.fN<vars.length)/\∀s∈k,Dv s
theorem XF(vars:List aN)(t:aq)(k:List Span)(h:C4 vars t k):Yr vars t k=O (gX vars t k):=by
 obtain⟨hk,h24,hI⟩:=h
 have h0:1<=(bK t.aW).1->Dv k[0]! :=fun h=>hI _ (aR (by omega))
 have h1:2<=(bK t.aW).1->Dv k[1]! :=fun h=>hI _ (aR (by omega))
 have h33:(bK t.aW).2<=33:=by unfold bK;grind
 have hd:(k.drop 2).length<=1000000:=by rw[ye];omega
 have W:∀n:Int,-8796093022208<=n->n<=8796093022208->i64.wrap n=n:=fun n a b=>aF
 unfold Yr gX
 rw[RB _ hd]
 have cs:t.aW=0\/t.aW=24\/t.aW=6\/t.aW=8\/t.aW=9\/t.aW=10\/t.aW=11\/t.aW=12\/t.aW=21\/t.aW=22\/t.aW=23\/t.aW=25\/(t.aW≠0/\t.aW≠24/\t.aW≠6/\t.aW≠8/\t.aW≠9/\t.aW≠10/\t.aW≠11/\t.aW≠12/\t.aW≠21/\t.aW≠22/\t.aW≠23/\t.aW≠25):=by omega
 rcases cs with h|h|h|h|h|h|h|h|h|h|h|h|h
 ·simp[h]
 ·simp[h,h24 h]
 ·have hl:1<=(bK t.aW).1:=by rw[h];decide
  obtain⟨a1,a2,a3⟩:=h0 hl
  have w1:i64.wrap ((0:Int)-k[0]!.af)= -k[0]!.af:=by rw[W _ (by omega) (by omega)];omega
  have w2:i64.wrap ((0:Int)-k[0]!.aa)= -k[0]!.aa:=by rw[W _ (by omega) (by omega)];omega
  have i0:(0:Int)<(k.length:Int):=by omega
  simp only[Z0,h,zc,Int.reduceEq,reduceIte,i0,w1,w2,zk,and_self,if_true]
 ·have hl:2<=(bK t.aW).1:=by rw[h];decide
  obtain⟨a1,a2,a3⟩:=h0 (by omega)
  obtain⟨b1,b2,b3⟩:=h1 hl
  have w1:=W (k[0]!.aa+k[1]!.aa) (by omega) (by omega)
  have w2:=W (k[0]!.af+k[1]!.af) (by omega) (by omega)
  have i0:(0:Int)<(k.length:Int):=by omega
  have i1:(1:Int)<(k.length:Int):=by omega
  simp only[Z0,h,zc,Int.reduceEq,Int.reduceLE,reduceIte,i0,i1,w1,w2,zk,and_self,if_true]
 ·have hl:2<=(bK t.aW).1:=by rw[h];decide
  obtain⟨a1,a2,a3⟩:=h0 (by omega)
  obtain⟨b1,b2,b3⟩:=h1 hl
  have w1:=W (k[0]!.aa-k[1]!.af) (by omega) (by omega)
  have w2:=W (k[0]!.af-k[1]!.aa) (by omega) (by omega)
  have i0:(0:Int)<(k.length:Int):=by omega
  have i1:(1:Int)<(k.length:Int):=by omega
  simp only[Z0,h,zc,Int.reduceEq,Int.reduceLE,reduceIte,i0,i1,w1,w2,zk,and_self,if_true]
 ·have hl:2<=(bK t.aW).1:=by rw[h];decide
  have e18:=abA _ _ (h0 (by omega)) (h1 hl)
  have i0:(0:Int)<(k.length:Int):=by omega
  have i1:(1:Int)<(k.length:Int):=by omega
  simp only[Z0,h,zc,Int.reduceEq,Int.reduceLE,reduceIte,i0,i1,e18,zk,and_self,if_true]
 ·have hl:2<=(bK t.aW).1:=by rw[h];decide
  obtain⟨a1,a2,a3⟩:=h0 (by omega)
  obtain⟨b1,b2,b3⟩:=h1 hl
  have w1:i64.wrap ((0:Int)-k[0]!.aa)= -k[0]!.aa:=by rw[W _ (by omega) (by omega)];omega
  have w2:i64.wrap ((0:Int)-if k[0]!.af< -k[0]!.aa then-k[0]!.aa else k[0]!.af)= -(if k[0]!.af< -k[0]!.aa then-k[0]!.aa else k[0]!.af):=by split<;>(rw[W _ (by omega) (by omega)];omega)
  have i0:(0:Int)<(k.length:Int):=by omega
  have i1:(1:Int)<(k.length:Int):=by omega
  simp only[Z0,h,zc,Int.reduceEq,Int.reduceLE,reduceIte,i0,i1,w1,w2,zk,and_self,if_true]
  by_cases c1:(0:Int)<=k[0]!.aa<;>by_cases c2:(0:Int)<=k[1]!.aa<;>simp only[c1,c2,if_true,if_false,decide_true,decide_false,cond_true,cond_false,and_self,and_true,and_false]
 ·have hl:2<=(bK t.aW).1:=by rw[h];decide
  obtain⟨b1,b2,b3⟩:=h1 hl
  have w1:=W (k[1]!.aa+1) (by omega) (by omega)
  have w2:=W (k[1]!.af-1) (by omega) (by omega)
  have i1:(1:Int)<(k.length:Int):=by omega
  simp only[Z0,h,zc,Int.reduceEq,Int.reduceLE,reduceIte,i1,w1,w2,zk,and_self,if_true]
  by_cases c1:k[1]!.aa<0<;>by_cases c2:(0:Int)<k[1]!.af<;>simp only[c1,c2,if_true,if_false]
  ·rw[nH,nH]
  ·rw[nH]
  ·rw[nH]
 ·have hl:2<=(bK t.aW).1:=by rw[h];decide
  have i0:(0:Int)<(k.length:Int):=by omega
  have i1:(1:Int)<(k.length:Int):=by omega
  simp only[Z0,h,zc,Int.reduceEq,Int.reduceLE,reduceIte,i0,i1,zk,and_self,if_true]
 ·have hl:2<=(bK t.aW).1:=by rw[h];decide
  have i0:(0:Int)<(k.length:Int):=by omega
  have i1:(1:Int)<(k.length:Int):=by omega
  simp only[Z0,h,zc,Int.reduceEq,Int.reduceLE,reduceIte,i0,i1,zk,and_self,if_true]
 ·have hl:2<=(bK t.aW).1:=by rw[h];decide
  have i1:(1:Int)<(k.length:Int):=by omega
  have i2:(2:Int)<=(k.length:Int):=by omega
  simp only[Z0,h,zc,Int.reduceEq,Int.reduceLE,reduceIte,i1,i2,zk,and_self,if_true,xV,if_false,true_or]
 ·have hl:2<=(bK t.aW).1:=by rw[h];decide
  have i1:(1:Int)<(k.length:Int):=by omega
  have i2:(2:Int)<=(k.length:Int):=by omega
  simp only[Z0,h,zc,Int.reduceEq,Int.reduceLE,reduceIte,i1,i2,zk,and_self,if_true,xV,if_false,or_true]
 ·obtain⟨c1,c2,c3,c4,c5,c6,c7,c8,c9,c18,c11,c12⟩:=h
  simp only[c1,c2,c3,c4,c5,c6,c7,c8,c9,c18,c11,c12,zc,if_false,or_self]
theorem TX(vars:List aN)(hv:cJ vars)(t:aq)(k:List Span)(h:C4 vars t k):(gX vars t k).aa<=(gX vars t k).af:=by
 obtain⟨hk,h24,hI⟩:=h
 have h0:1<=(bK t.aW).1->Dv k[0]! :=fun h=>hI _ (aR (by omega))
 have h1:2<=(bK t.aW).1->Dv k[1]! :=fun h=>hI _ (aR (by omega))
 unfold gX
 have cs:t.aW=0\/t.aW=24\/t.aW=6\/t.aW=8\/t.aW=9\/t.aW=10\/t.aW=11\/t.aW=12\/t.aW=21\/t.aW=22\/t.aW=23\/t.aW=25\/(t.aW≠0/\t.aW≠24/\t.aW≠6/\t.aW≠8/\t.aW≠9/\t.aW≠10/\t.aW≠11/\t.aW≠12/\t.aW≠21/\t.aW≠22/\t.aW≠23/\t.aW≠25):=by omega
 rcases cs with h|h|h|h|h|h|h|h|h|h|h|h|h
 ·simp[h]
 ·have hm:vars[t.fN.toNat]!∈vars:=aR (by have:=h24 h;omega)
  have:=hv _ hm
  simp only[h,Int.reduceEq,reduceIte]
  omega
 ·obtain⟨a1,a2,a3⟩:=h0 (by rw[h];decide)
  simp only[h,Int.reduceEq,reduceIte]
  omega
 ·obtain⟨a1,a2,a3⟩:=h0 (by rw[h];decide)
  obtain⟨b1,b2,b3⟩:=h1 (by rw[h];decide)
  simp only[h,Int.reduceEq,reduceIte]
  omega
 ·obtain⟨a1,a2,a3⟩:=h0 (by rw[h];decide)
  obtain⟨b1,b2,b3⟩:=h1 (by rw[h];decide)
  simp only[h,Int.reduceEq,reduceIte]
  omega
 ·simp only[h,Int.reduceEq,reduceIte,eV]
  generalize k[0]!.aa*k[1]!.aa=p
  generalize k[0]!.aa*k[1]!.af=q
  generalize k[0]!.af*k[1]!.aa=r
  generalize k[0]!.af*k[1]!.af=s
  grind
 ·obtain⟨a1,a2,a3⟩:=h0 (by rw[h];decide)
  simp only[h,Int.reduceEq,reduceIte]
  grind
 ·simp only[h,Int.reduceEq,reduceIte]
  grind
 ·obtain⟨a1,a2,a3⟩:=h0 (by rw[h];decide)
  obtain⟨b1,b2,b3⟩:=h1 (by rw[h];decide)
  simp only[h,Int.reduceEq,reduceIte]
  grind
 ·obtain⟨a1,a2,a3⟩:=h0 (by rw[h];decide)
  obtain⟨b1,b2,b3⟩:=h1 (by rw[h];decide)
  simp only[h,Int.reduceEq,reduceIte]
  grind
 ·have:=lq (k.drop 2) k[1]! (h1 (by rw[h];decide)) fun x hx=>hI x (xN hx)
  simp only[h,Int.reduceEq,reduceIte,true_or,if_true]
  exact this.2.1
 ·have:=lq (k.drop 2) k[1]! (h1 (by rw[h];decide)) fun x hx=>hI x (xN hx)
  simp only[h,Int.reduceEq,reduceIte,or_true,if_true]
  exact this.2.1
 ·obtain⟨c1,c2,c3,c4,c5,c6,c7,c8,c9,c18,c11,c12⟩:=h
  simp only[c1,c2,c3,c4,c5,c6,c7,c8,c9,c18,c11,c12,if_false,or_self]
  decide
theorem qy:∀{l:List (Option Span)} {r:List Span},jB l=O r->l=r.map O
 |[],r,h=>by unfold jB at h;cases h;rfl
 |none::l,r,h=>by unfold jB at h;cases h
 |some s::l,r,h=>by
  unfold jB at h
  cases hl:jB l with
  |none=>rw[hl]at h;cases h
  |some q=>rw[hl]at h;cases h;rw[qy hl];rfl
theorem JC(l:List Span):jB (l.map O)=O l:=by
 induction l with
 |nil=>rfl
 |cons s l ih=>rw[zV,jB,ih]
theorem vw:∀{l:List (Option Span)},wC∈l->jB l=wC
 |none::l,h=>rfl
 |some s::l,h=>by
  unfold jB
  rw[vw (by simpa using h)]
theorem EE{vars:List aN}{inp:Bool}{t:aq}{k:List Span}(hf:wP vars inp t=wE)(hl:k.length=t.ak.length)(hI:∀s∈k,Dv s):C4 vars t k:=by
 unfold wP at hf
 refine⟨?_,?_,hI⟩
 ·rw[hl]
  simp only[ze,decide_eq_true_eq]at hf
  exact hf.1
 ·intro h
  rw[h]at hf
  simp at hf
  exact hf.2.1
theorem ab1(vars:List aN)(hv:cJ vars)(inp:Bool)(t:aq)(s:Span)(hf:cC vars inp t=wE)(h:fA vars t=O s):Dv s:=by
 have key:∀(n:Nat) (t:aq) (s:Span),SizeOf.sizeOf t<n->cC vars inp t=wE->fA vars t=O s->Dv s:=by
  intro n
  induction n with
  |zero=>intro t s h;omega
  |succ n ih=>
   intro t s hz hf h
   rw[j5,ze,zm]at hf
   rw[sO]at h
   cases ha:jB (t.ak.map (fA vars))with
   |none=>rw[ha]at h;cases h
   |some k=>
    rw[ha]at h
    dsimp only at h
    have hm:=qy ha
    have hl:k.length=t.ak.length:=by have:=congrArg yC hm;simpa using this.symm
    have hI:∀s∈k,Dv s:=fun x hx=>by
     have:O x∈t.ak.map (fA vars):=by rw[hm];exact List.mem_map_of_mem hx
     obtain⟨c,hc,e⟩:=zH.1 this
     exact ih c x (by have:=aq.dh hc;omega) (hf.2 c hc) e
    have ho:=TX vars hv t k (EE hf.1 hl hI)
    split at h
    ·rename_i hlim
     cases h
     unfold tQ at hlim
     unfold Dv
     grind
    ·cases h
 exact key _ t s (zn _) hf h
def s8(vars:List aN)(t:aq):Span×Bool:=match jB (t.ak.map (fA vars))with
 |none=>(⟨0,0⟩,wD)
 |some l=>(gX vars t l,tQ (gX vars t l))
theorem EL(vars:List aN)(t:aq):fA vars t=if(s8 vars t).2=wE then O (s8 vars t).1 else wC:=by
 rw[sO,s8]
 cases jB (t.ak.map (fA vars))<;>rfl
theorem JT{vars:List aN}(hv:cJ vars){inp:Bool}{t:aq}{k:List Span}(hf:cC vars inp t=wE)(ha:jB (t.ak.map (fA vars))=O k):C4 vars t k:=by
 rw[j5,ze,zm]at hf
 have hm:=qy ha
 refine EE hf.1 (by have:=congrArg yC hm;simpa using this.symm) fun x hx=> ?_
 have:O x∈t.ak.map (fA vars):=by rw[hm];exact List.mem_map_of_mem hx
 obtain⟨c,hc,e⟩:=zH.1 this
 exact ab1 vars hv inp c x (hf.2 c hc) e
theorem JF{vars:List aN}{inp:Bool}{t:aq}(hf:cC vars inp t=wE):t.ak.length<=33:=by
 rw[j5,ze]at hf
 have:=hf.1
 unfold wP at this
 have h33:(bK t.aW).2<=33:=by unfold bK;grind
 simp only[ze,decide_eq_true_eq]at this
 omega
theorem ke{vars:List aN}{inp:Bool}{t k:aq}(hf:cC vars inp t=wE)(hk:k∈t.ak):cC vars inp k=wE:=by
 rw[j5,ze,zm]at hf
 exact hf.2 k hk
theorem abo(M:List aN->aq->Option qF)(vars:List aN)(hv:cJ vars)(inp:Bool)(t:aq)(hf:cC vars inp t=wE)(hM:∀k∈t.ak,M vars k=O (s8 vars k)):abC M vars t=O (s8 vars t):=by
 have h33:=JF hf
 obtain⟨i,b,e1,hI,hc⟩:=nB (rnd:=Dp M) t.ak.length (fun i (b:List Span)=>⟨vars,b,t.ak,(t.ak.length:Int),(i:Int),t,⟨0,0⟩⟩) (fun i b=>(t.ak.take i).map (fA vars)=b.map O) (fun i _=>(s8 vars t.ak[i]!).2=wD) (fun i b hi hb=>by
  have hw:=fq hi (by omega)
  have hk:=hM _ (aR hi)
  have hlen:b.length=i:=by have:=congrArg yC hb;simp at this;omega
  cases hx:(s8 vars t.ak[i]!).2 with
  |true=>
   refine .inl ⟨b++[(s8 vars t.ak[i]!).1],?_,?_⟩
   ·have hl2:(b++[(s8 vars t.ak[i]!).1]).length<=1073741824:=by simp;omega
    unfold Dp
    dsimp only
    simp only[za,aq.eta,hk,hx,hl2,hw,if_true,cond_true,cond_false]
    simp[hi]
   ·rw[bA hi,zY,hb,zY]
    congr 1
    rw[zV,zV,EL,if_pos hx]
    rfl
  |false=>
   refine .inr ⟨?_,rfl⟩
   unfold Dp
   dsimp only
   simp only[za,aq.eta,hk,hx,cond_true,cond_false]
   simp[hi]) (fun b _=>by unfold Dp;simp) (b:=[]) rfl
 have e1':Fj M ⟨vars,[],t.ak,(t.ak.length:Int),0,t,⟨0,0⟩⟩=O ⟨vars,b,t.ak,(t.ak.length:Int),(i:Int),t,⟨0,0⟩⟩:=e1
 unfold abC
 rw[aq.eta,e1']
 dsimp only
 rcases hc with rfl|⟨hi,hx⟩
 ·rw[zG]at hI
  have ha:jB (t.ak.map (fA vars))=O b:=by rw[hI];exact JC b
  rw[dZ,cond_false,aq.eta,XF vars t b (JT hv hf ha)]
  unfold s8
  rw[ha]
  dsimp only
  unfold tQ
  simp only[zc]
  grind
 ·have hk:=hM _ (aR hi)
  have ha:jB (t.ak.map (fA vars))=wC:=vw (zH.2 ⟨t.ak[i]!,aR hi,by rw[EL,hx];simp⟩)
  rw[qz,cond_true,if_pos ⟨by omega,by omega⟩]
  simp only[za,aq.eta,hk,hx,cond_true,cond_false]
  unfold s8
  rw[ha]
theorem Px(vars:List aN)(hv:cJ vars)(inp:Bool):∀(n:Nat) (t:aq),SizeOf.sizeOf t<n->cC vars inp t=wE->Md n vars t=O (s8 vars t)
 |0,_,h,_=>by omega
 |n+1,t,h,hf=>abo (Md n) vars hv inp t hf (fun k hk=>Px vars hv inp n k (by have:=aq.dh hk;omega) (ke hf hk))
theorem aa9(vars:List aN)(hv:cJ vars)(inp:Bool)(t:aq)(hf:cC vars inp t=wE):ZB vars t=O (s8 vars t):=dy (SizeOf.sizeOf t+1) fun n hn=>Px vars hv inp n t (by omega) hf
theorem AP(vars:List aN)(hv:cJ vars)(inp:Bool)(t:aq):Na vars t inp=O (di vars inp t):=by
 unfold Na di
 rw[aq.eta,aam]
 cases hf:cC vars inp t with
 |false=>rfl
 |true=>
  rw[aa9 vars hv inp t hf,EL]
  dsimp only
  cases (s8 vars t).2<;>rfl
def tC(vars:List aN)(t:aq)(k:List Span):Span:=if t.aW=0/\(t.fN< -1048576\/1048576<t.fN)then⟨-1048577,1048577⟩else gX vars t k
theorem Rg(vars:List aN)(t:aq)(k:List Span):tQ (tC vars t k)=tQ (gX vars t k)/\(tQ (gX vars t k)=wE->tC vars t k=gX vars t k):=by
 unfold tC
 by_cases h:t.aW=0/\(t.fN< -1048576\/1048576<t.fN)
 ·have e:tQ (gX vars t k)=wD:=by
   unfold tQ gX
   rw[if_pos h.1]
   simp
   omega
  rw[if_pos h,e]
  exact⟨by decide,fun h=>by cases h⟩
 ·rw[if_neg h]
  exact⟨rfl,fun _=>rfl⟩
theorem qv(a b:Int):iP a b=if a<b then a else b:=by
 unfold iP
 simp only[zc]
theorem mD(a b:Int):jE a b=if b<a then a else b:=by
 unfold jE
 simp only[zc]
theorem fU{k:List Span}{i:Nat}(h:i<k.length):(k.map (·.aa))[i]! =k[i]!.aa:=by
 rw[getElem!_pos _ i (by simpa using h),getElem!_pos k i h,yx]
theorem dY{k:List Span}{i:Nat}(h:i<k.length):(k.map (·.af))[i]! =k[i]!.af:=by
 rw[getElem!_pos _ i (by simpa using h),getElem!_pos k i h,yx]
theorem D8(k:List Span)(hl:k.length<=1000000)(h2:2<=k.length)(a:Span):BU ⟨k.map (·.aa),k.map (·.af),a.aa,a.af,2⟩=O ⟨k.map (·.aa),k.map (·.af),((k.drop 2).foldl eV a).aa,((k.drop 2).foldl eV a).af,(k.length:Int)⟩:=by
 have hlen:(k.drop 2).length=k.length-2:=ye ..
 have hget:∀i,i<k.length-2->(k.drop 2)[i]! =k[i+2]! :=fun i hi=>by
  rw[getElem!_pos _ i (by omega),getElem!_pos _ (i+2) (by omega),xZ]
  congr 1
  omega
 obtain⟨v,e1,hv⟩:=cz (rnd:=GP) (k.length-2) (fun i (b:Span)=>⟨k.map (·.aa),k.map (·.af),b.aa,b.af,((i+2:Nat):Int)⟩) (fun i b=>b=((k.drop 2).take i).foldl eV a) (fun i b hi hb=>by
  have hw:=fq (show i+2<k.length by omega) hl
  refine⟨eV b k[i+2]!,?_,?_⟩
  ·unfold GP
   dsimp only
   simp only[zc,za,qv,mD,hw,zA,fU (show i+2<k.length by omega),dY (show i+2<k.length by omega)]
   unfold eV
   rw[fK,if_pos ⟨by omega,by omega⟩,if_pos ⟨by omega,by omega⟩]
   congr 3<;>grind
  ·rw[bA (by omega),List.foldl_append,hb,hget i hi];rfl) (fun b _=>by
   unfold GP
   simp only[zA,zc]
   rw[nH]) (b:=a) rfl
 rw[<-hlen,zG]at hv
 rw[<-hv]
 rw[show k.length-2+2=k.length by omega]at e1
 exact e1
theorem acA(vars:List aN)(t:aq)(k:List Span)(h:C4 vars t k):aaq vars t (k.map (·.aa)) (k.map (·.af))=O ((tC vars t k).aa,(tC vars t k).af):=by
 obtain⟨hk,h24,hI⟩:=h
 have h0:1<=(bK t.aW).1->Dv k[0]! :=fun h=>hI _ (aR (by omega))
 have h1:2<=(bK t.aW).1->Dv k[1]! :=fun h=>hI _ (aR (by omega))
 have h33:(bK t.aW).2<=33:=by unfold bK;grind
 have W:∀n:Int,-8796093022208<=n->n<=8796093022208->i64.wrap n=n:=fun n a b=>aF
 unfold aaq tC gX
 have cs:t.aW=0\/t.aW=24\/t.aW=6\/t.aW=8\/t.aW=9\/t.aW=10\/t.aW=11\/t.aW=12\/t.aW=21\/t.aW=22\/t.aW=23\/t.aW=25\/(t.aW≠0/\t.aW≠24/\t.aW≠6/\t.aW≠8/\t.aW≠9/\t.aW≠10/\t.aW≠11/\t.aW≠12/\t.aW≠21/\t.aW≠22/\t.aW≠23/\t.aW≠25):=by omega
 rcases cs with h|h|h|h|h|h|h|h|h|h|h|h|h
 ·simp only[Z0,h,zc,Int.reduceEq,reduceIte,true_and]
  grind
 ·simp[h,h24 h]
 ·have hl:1<=(bK t.aW).1:=by rw[h];decide
  obtain⟨a1,a2,a3⟩:=h0 hl
  have w1:i64.wrap ((0:Int)-k[0]!.af)= -k[0]!.af:=by rw[W _ (by omega) (by omega)];omega
  have w2:i64.wrap ((0:Int)-k[0]!.aa)= -k[0]!.aa:=by rw[W _ (by omega) (by omega)];omega
  have i0:(0:Int)<(k.length:Int):=by omega
  simp only[Z0,h,zc,Int.reduceEq,reduceIte,zA,i0,fU (show 0<k.length by omega),dY (show 0<k.length by omega),w1,w2,zk,and_self,if_true,false_and,if_false]
 ·have hl:2<=(bK t.aW).1:=by rw[h];decide
  obtain⟨a1,a2,a3⟩:=h0 (by omega)
  obtain⟨b1,b2,b3⟩:=h1 hl
  have w1:=W (k[0]!.aa+k[1]!.aa) (by omega) (by omega)
  have w2:=W (k[0]!.af+k[1]!.af) (by omega) (by omega)
  have i0:(0:Int)<(k.length:Int):=by omega
  have i1:(1:Int)<(k.length:Int):=by omega
  simp only[Z0,h,zc,Int.reduceEq,Int.reduceLE,reduceIte,zA,fU (show 0<k.length by omega),dY (show 0<k.length by omega),fU (show 1<k.length by omega),dY (show 1<k.length by omega),i0,i1,w1,w2,zk,and_self,if_true,false_and,if_false]
 ·have hl:2<=(bK t.aW).1:=by rw[h];decide
  obtain⟨a1,a2,a3⟩:=h0 (by omega)
  obtain⟨b1,b2,b3⟩:=h1 hl
  have w1:=W (k[0]!.aa-k[1]!.af) (by omega) (by omega)
  have w2:=W (k[0]!.af-k[1]!.aa) (by omega) (by omega)
  have i0:(0:Int)<(k.length:Int):=by omega
  have i1:(1:Int)<(k.length:Int):=by omega
  simp only[Z0,h,zc,Int.reduceEq,Int.reduceLE,reduceIte,zA,fU (show 0<k.length by omega),dY (show 0<k.length by omega),fU (show 1<k.length by omega),dY (show 1<k.length by omega),i0,i1,w1,w2,zk,and_self,if_true,false_and,if_false]
 ·have hl:2<=(bK t.aW).1:=by rw[h];decide
  obtain⟨a1,a2,a3⟩:=h0 (by omega)
  obtain⟨b1,b2,b3⟩:=h1 hl
  have m1:=nX (a:=k[0]!.aa) (b:=k[1]!.aa) (by omega) (by omega) (by omega) (by omega)
  have m2:=nX (a:=k[0]!.aa) (b:=k[1]!.af) (by omega) (by omega) (by omega) (by omega)
  have m3:=nX (a:=k[0]!.af) (b:=k[1]!.aa) (by omega) (by omega) (by omega) (by omega)
  have m4:=nX (a:=k[0]!.af) (b:=k[1]!.af) (by omega) (by omega) (by omega) (by omega)
  have w1:=W _ (show-8796093022208<=k[0]!.aa*k[1]!.aa by omega) (by omega)
  have w2:=W _ (show-8796093022208<=k[0]!.aa*k[1]!.af by omega) (by omega)
  have w3:=W _ (show-8796093022208<=k[0]!.af*k[1]!.aa by omega) (by omega)
  have w4:=W _ (show-8796093022208<=k[0]!.af*k[1]!.af by omega) (by omega)
  have i0:(0:Int)<(k.length:Int):=by omega
  have i1:(1:Int)<(k.length:Int):=by omega
  simp only[Z0,h,zc,Int.reduceEq,Int.reduceLE,reduceIte,zA,fU (show 0<k.length by omega),dY (show 0<k.length by omega),fU (show 1<k.length by omega),dY (show 1<k.length by omega),i0,i1,w1,w2,w3,w4,zk,and_self,if_true,false_and,if_false,qv,mD,eV]
  generalize k[0]!.aa*k[1]!.aa=p
  generalize k[0]!.aa*k[1]!.af=q
  generalize k[0]!.af*k[1]!.aa=r
  generalize k[0]!.af*k[1]!.af=s
  congr 2<;>grind
 ·have hl:2<=(bK t.aW).1:=by rw[h];decide
  obtain⟨a1,a2,a3⟩:=h0 (by omega)
  obtain⟨b1,b2,b3⟩:=h1 hl
  have z0:yI 0=0:=rfl
  have z1:yI 1=1:=rfl
  have Um:∀x:Int,-1048576<=x->x<=1048576->vg x=if x<0 then-x else x:=fun x q1 q2=>by
   unfold vg
   rw[W _ (by omega) (by omega)]
   simp only[zc]
   grind
  have RV:jE (vg k[0]!.aa) (vg k[0]!.af)=if k[0]!.af< -k[0]!.aa then-k[0]!.aa else k[0]!.af:=by
   rw[Um _ (by omega) (by omega),Um _ (by omega) (by omega),mD]
   grind
  have w2:i64.wrap ((0:Int)-if k[0]!.af< -k[0]!.aa then-k[0]!.aa else k[0]!.af)= -(if k[0]!.af< -k[0]!.aa then-k[0]!.aa else k[0]!.af):=by split<;>(rw[W _ (by omega) (by omega)];omega)
  have i0:(0:Int)<(k.length:Int):=by omega
  have i1:(1:Int)<(k.length:Int):=by omega
  simp only[Z0,h,zc,Int.reduceEq,Int.reduceLE,reduceIte,zA,z0,z1,fU (show 0<k.length by omega),dY (show 0<k.length by omega),fU (show 1<k.length by omega),dY (show 1<k.length by omega),i0,i1,RV,w2,zk,and_self,if_true,false_and,if_false]
  by_cases c1:(0:Int)<=k[0]!.aa<;>by_cases c2:(0:Int)<=k[1]!.aa<;>simp only[c1,c2,if_true,if_false,decide_true,decide_false,cond_true,cond_false,and_self,and_true,and_false]
 ·have hl:2<=(bK t.aW).1:=by rw[h];decide
  obtain⟨b1,b2,b3⟩:=h1 hl
  have w1:=W (k[1]!.aa+1) (by omega) (by omega)
  have w2:=W (k[1]!.af-1) (by omega) (by omega)
  have i1:(1:Int)<(k.length:Int):=by omega
  simp only[Z0,h,zc,Int.reduceEq,Int.reduceLE,reduceIte,zA,fU (show 1<k.length by omega),dY (show 1<k.length by omega),i1,zk,and_self,if_true,false_and,if_false,Ua,w1,w2,qv,mD]
  congr 1
  by_cases c1:k[1]!.aa<0<;>by_cases c2:(0:Int)<k[1]!.af<;>simp only[c1,c2,if_true,if_false,Prod.mk.injEq,and_true,true_and]<;>grind
 ·have hl:2<=(bK t.aW).1:=by rw[h];decide
  have i0:(0:Int)<(k.length:Int):=by omega
  have i1:(1:Int)<(k.length:Int):=by omega
  simp only[Z0,h,zc,Int.reduceEq,Int.reduceLE,reduceIte,zA,fU (show 0<k.length by omega),dY (show 0<k.length by omega),fU (show 1<k.length by omega),dY (show 1<k.length by omega),i0,i1,zk,and_self,if_true,false_and,if_false,qv,mD]
  congr 2<;>grind
 ·have hl:2<=(bK t.aW).1:=by rw[h];decide
  have i0:(0:Int)<(k.length:Int):=by omega
  have i1:(1:Int)<(k.length:Int):=by omega
  simp only[Z0,h,zc,Int.reduceEq,Int.reduceLE,reduceIte,zA,fU (show 0<k.length by omega),dY (show 0<k.length by omega),fU (show 1<k.length by omega),dY (show 1<k.length by omega),i0,i1,zk,and_self,if_true,false_and,if_false,qv,mD]
  congr 2<;>grind
 ·have hl:2<=(bK t.aW).1:=by rw[h];decide
  have i1:(1:Int)<(k.length:Int):=by omega
  have e:=D8 k (by omega) (by omega) k[1]!
  simp only[Z0,h,zc,Int.reduceEq,Int.reduceLE,reduceIte,zA,fU (show 1<k.length by omega),dY (show 1<k.length by omega),e,i1,zk,and_self,if_true,xV,if_false,true_or,false_and]
 ·have hl:2<=(bK t.aW).1:=by rw[h];decide
  have i1:(1:Int)<(k.length:Int):=by omega
  have e:=D8 k (by omega) (by omega) k[1]!
  simp only[Z0,h,zc,Int.reduceEq,Int.reduceLE,reduceIte,zA,fU (show 1<k.length by omega),dY (show 1<k.length by omega),e,i1,zk,and_self,if_true,xV,if_false,or_true,false_and]
 ·obtain⟨c1,c2,c3,c4,c5,c6,c7,c8,c9,c18,c11,c12⟩:=h
  simp only[c1,c2,c3,c4,c5,c6,c7,c8,c9,c18,c11,c12,zc,if_false,or_self,false_and]
def pM(vars:List aN)(t:aq):Int×Int×Bool:=match jB (t.ak.map (fA vars))with
 |none=>(0,0,wD)
 |some l=>((tC vars t l).aa,(tC vars t l).af,tQ (tC vars t l))
theorem EW(vars:List aN)(t:aq):fA vars t=if(pM vars t).2.2=wE then O ⟨(pM vars t).1,(pM vars t).2.1⟩else wC:=by
 rw[sO,pM]
 cases h:jB (t.ak.map (fA vars))with
 |none=>rfl
 |some l=>
  obtain⟨h1,h2⟩:=Rg vars t l
  dsimp only
  by_cases hl:tQ (gX vars t l)=wE
  ·rw[if_pos hl,if_pos (h1.trans hl),h2 hl]
  ·rw[if_neg hl,if_neg (by rw[h1];exact hl)]
theorem YG(M:List aN->aq->Option qC)(vars:List aN)(hv:cJ vars)(inp:Bool)(t:aq)(hf:cC vars inp t=wE)(hM:∀k∈t.ak,M vars k=O (pM vars k)):ZY M vars t=O (pM vars t):=by
 have h33:=JF hf
 obtain⟨i,b,e1,hI,hc⟩:=nB (rnd:=Bg M) t.ak.length (fun i (b:List Span)=>⟨vars,b.map (·.aa),b.map (·.af),(i:Int),t⟩) (fun i b=>(t.ak.take i).map (fA vars)=b.map O) (fun i _=>(pM vars t.ak[i]!).2.2=wD) (fun i b hi hb=>by
  have hw:=fq hi (by omega)
  have hk:=hM _ (aR hi)
  have hlen:b.length=i:=by have:=congrArg yC hb;simp at this;omega
  cases hx:(pM vars t.ak[i]!).2.2 with
  |true=>
   refine .inl ⟨b++[⟨(pM vars t.ak[i]!).1,(pM vars t.ak[i]!).2.1⟩],?_,?_⟩
   ·have hl2:(b.map (·.aa)++[(pM vars t.ak[i]!).1]).length<=1073741824:=by simp;omega
    have hl3:(b.map (·.af)++[(pM vars t.ak[i]!).2.1]).length<=1073741824:=by simp;omega
    unfold Bg
    dsimp only
    simp only[za,aq.eta,hk,hx,hl2,hl3,hw,if_true,cond_true,cond_false]
    simp[hi]
   ·rw[bA hi,zY,hb,zY]
    congr 1
    rw[zV,zV,EW,if_pos hx]
    rfl
  |false=>
   refine .inr ⟨?_,rfl⟩
   unfold Bg
   dsimp only
   simp only[za,aq.eta,hk,hx,cond_true,cond_false]
   simp[hi]) (fun b _=>by unfold Bg;simp) (b:=[]) rfl
 have e1':Hs M ⟨vars,[],[],0,t⟩=O ⟨vars,b.map (·.aa),b.map (·.af),(i:Int),t⟩:=e1
 unfold ZY
 rw[aq.eta,e1']
 dsimp only
 rcases hc with rfl|⟨hi,hx⟩
 ·rw[zG]at hI
  have ha:jB (t.ak.map (fA vars))=O b:=by rw[hI];exact JC b
  rw[dZ,cond_false,aq.eta,acA vars t b (JT hv hf ha)]
  unfold pM
  rw[ha]
  dsimp only
  unfold tQ
  simp only[zc]
  grind
 ·have hk:=hM _ (aR hi)
  have ha:jB (t.ak.map (fA vars))=wC:=vw (zH.2 ⟨t.ak[i]!,aR hi,by rw[EW,hx];simp⟩)
  rw[qz,cond_true,if_pos ⟨by omega,by omega⟩]
  simp only[za,aq.eta,hk,hx,cond_true,cond_false]
  unfold pM
  rw[ha]
theorem Oi(vars:List aN)(hv:cJ vars)(inp:Bool):∀(n:Nat) (t:aq),SizeOf.sizeOf t<n->cC vars inp t=wE->MV n vars t=O (pM vars t)
 |0,_,h,_=>by omega
 |n+1,t,h,hf=>YG (MV n) vars hv inp t hf (fun k hk=>Oi vars hv inp n k (by have:=aq.dh hk;omega) (ke hf hk))
theorem ZK(vars:List aN)(hv:cJ vars)(inp:Bool)(t:aq)(hf:cC vars inp t=wE):YB vars t=O (pM vars t):=dy (SizeOf.sizeOf t+1) fun n hn=>Oi vars hv inp n t (by omega) hf
theorem AX(vars:List aN)(hv:cJ vars)(inp:Bool)(t:aq):Ht vars t inp=O (di vars inp t):=by
 unfold Ht di
 rw[aq.eta,YX]
 cases hf:cC vars inp t with
 |false=>rfl
 |true=>
  rw[ZK vars hv inp t hf,EW]
  dsimp only
  cases (pM vars t).2.2<;>rfl
theorem cA.eta(h:cA):cA.mk h.fName h.aa h.af h.ay=h:=by cases h;rfl
theorem Qg(l:List cA)(hl:l.length<=1000000)(v:cA):TR l v=O (l.any fun w=>w.fName.toList==v.fName.toList):=by
 obtain⟨i,e1,hc⟩:=pg (rnd:=GD) l (fun i=>⟨l,v.fName,v.aa,v.af,v.ay.aW,v.ay.fN,v.ay.ak,(l.length:Int),(i:Int)⟩) (fun _ w=> !(w.fName.toList==v.fName.toList)) (fun i hi=>by
  have hw:=fq hi hl
  unfold GD Xc
  dsimp only
  simp only[zc,za]
  grind) (by unfold GD;simp)
 have e1':FN ⟨l,v.fName,v.aa,v.af,v.ay.aW,v.ay.fN,v.ay.ak,(l.length:Int),0⟩=O ⟨l,v.fName,v.aa,v.af,v.ay.aW,v.ay.fN,v.ay.ak,(l.length:Int),(i:Int)⟩:=e1
 unfold TR aj6
 rw[e1']
 dsimp only
 rcases hc with ⟨rfl,hc⟩|⟨hi,hc⟩
 ·rw[sP fun j hj=>by have:=hc j hj;simpa using this]
  simp
 ·have hc':(l[i]!.fName.toList==v.fName.toList)=wE:=by simpa using hc
  rw[Dg hi hc']
  unfold Xc
  simp only[za,hc',cond_true]
  simp[hi]
theorem IJ(f:Flat)(hl:f.ai.length<=1000000)(n:Nat)(hn:n<=f.ai.length)(v:cA):
  ∃i:Nat,Jl ⟨n,0,f,v⟩=O ⟨n,(i:Int),f,v⟩/\((i=n/\((f.ai.take n).any fun w=>w.fName.toList==v.fName.toList)=wD)\/(i<n/\(f.ai[i]!.fName.toList==v.fName.toList)=wE/\((f.ai.take n).any fun w=>w.fName.toList==v.fName.toList)=wE)):=by
 have hlen:(f.ai.take n).length=n:=by rw[zU];omega
 have hget:∀i,i<n->(f.ai.take n)[i]! =f.ai[i]! :=fun i hi=>by
  rw[getElem!_pos _ i (by omega),getElem!_pos _ i (by omega),List.getElem_take]
 obtain⟨i,e1,hc⟩:=pg (rnd:=Oz) (f.ai.take n) (fun i=>⟨(n:Int),(i:Int),f,v⟩) (fun _ w=> !(w.fName.toList==v.fName.toList)) (fun i hi=>by
  rw[hlen]at hi
  have hw:=fq hi (by omega)
  rw[hget i hi]
  unfold Oz
  dsimp only
  simp only[zc,za,aq.eta,cA.eta]
  grind) (by rw[hlen];unfold Oz;simp)
 refine⟨i,e1,?_⟩
 rw[hlen]at hc
 rcases hc with ⟨rfl,hc⟩|⟨hi,hc⟩
 ·exact .inl ⟨rfl,sP fun j hj=>by have:=hc j (by omega);simpa using this⟩
 ·have hc':((f.ai.take n)[i]!.fName.toList==v.fName.toList)=wE:=by simpa using hc
  exact .inr ⟨hi,by rw[<-hget i hi];exact hc',Dg (by omega) hc'⟩
theorem abV(t:aq):R4 t=td t:=by
 unfold R4 td
 simp only[zc]
 grind
theorem acd(t:aq):Jb t=td t:=by
 unfold Jb td
 simp only[zc]
 grind
theorem iK:∀(l:List Int),eB l=wE↔∀i,i+1<l.length->l[i]! <l[i+1]!
 |[]=>by simp[eB]
 |[a]=>by simp[eB]
 |a::b::l=>by
  unfold eB
  rw[ze,iK (b::l),decide_eq_true_iff]
  constructor
  ·rintro⟨h1,h2⟩ i hi
   cases i with
   |zero=>exact h1
   |succ i=>exact h2 i (by simpa using hi)
  ·intro h
   exact⟨h 0 (by simp),fun i hi=>h (i+1) (by simpa using hi)⟩
theorem adK(l:List Int)(hl:l.length<=1000000):Sw l=O (eB l):=by
 obtain⟨i,e1,hc⟩:=pg (rnd:=HE) l (fun i=>⟨l,(l.length:Int),(i:Int)⟩) (fun i x=>wF (i=0)||wF (l[i-1]! <x)) (fun i hi=>by
  have hw:=fq hi hl
  have hw2:i64.wrap ((i:Int)-1)=(i:Int)-1:=aF
  have hw3:((i:Int)-1).toNat=i-1:=by omega
  unfold HE
  dsimp only
  simp only[zc,za,hw,hw2,hw3]
  generalize l[i]! =y
  generalize l[i-1]! =z
  grind) (by unfold HE;simp)
 have e1':FG ⟨l,(l.length:Int),0⟩=O ⟨l,(l.length:Int),(i:Int)⟩:=e1
 unfold Sw
 rw[e1']
 dsimp only
 rcases hc with ⟨rfl,hc⟩|⟨hi,hc⟩
 ·have:eB l=wE:=(iK l).2 fun i hi=>by
   have:=hc (i+1) hi
   simpa using this
  rw[this]
  simp
 ·have hc':i≠0/\¬l[i-1]! <l[i]! :=by
   simp only[Bool.or_eq_false_iff,decide_eq_false_iff_not]at hc
   exact hc
  have:eB l=wD:=by
   cases hr:eB l with
   |false=>rfl
   |true=>
    have:=(iK l).1 hr (i-1) (by omega)
    rw[show i-1+1=i by omega]at this
    exact absurd this hc'.2
  rw[this]
  have hw2:i64.wrap ((i:Int)-1)=(i:Int)-1:=aF
  have hw3:((i:Int)-1).toNat=i-1:=by omega
  simp only[zc,za,hw2,hw3]
  revert hc'
  generalize l[i]! =y
  generalize l[i-1]! =z
  intro hc'
  grind
theorem Y8(l:List Int)(hl:l.length<=1000000):acS l=O (wF (1<=l.length/\l.length<=32)&&wF ((0:Int)<=l[0]!)&&eB l):=by
 unfold acS
 by_cases h1:1<=l.length/\l.length<=32
 case neg=>
  rw[decide_eq_false h1]
  simp only[zc]
  grind
 rw[decide_eq_true h1,decide_eq_false (show ¬(l.length:Int)<1 by omega),decide_eq_false (show ¬32<(l.length:Int)by omega),if_pos (⟨zk _,by omega⟩:(0:Int)<=0/\(0:Int)<(l.length:Int))]
 have hz:l[yI 0]! =l[0]! :=rfl
 rw[hz]
 by_cases h0:(0:Int)<=l[0]!
 case neg=>
  rw[decide_eq_false h0,decide_eq_true (show l[0]! <0 by omega)]
  rfl
 rw[decide_eq_true h0,decide_eq_false (show ¬l[0]! <0 by omega)]
 dsimp only[cond_false]
 have hlen:(l.drop 1).length=l.length-1:=ye ..
 have hget:∀i,i<l.length-1->(l.drop 1)[i]! =l[i+1]! :=fun i hi=>by
  rw[getElem!_pos _ i (by omega),getElem!_pos _ (i+1) (by omega),xZ]
  congr 1
  omega
 obtain⟨i,e1,hc⟩:=pg (rnd:=Gs) (l.drop 1) (fun i=>⟨l,((i+1:Nat):Int)⟩) (fun i x=>wF (l[i]! <x)) (fun i hi=>by
  rw[hlen]at hi
  have hw:=fq (show i+1<l.length by omega) hl
  have hw2:i64.wrap (((i+1:Nat):Int)-1)=(i:Int):=by rw[aF];omega
  rw[hget i hi]
  unfold Gs
  dsimp only
  simp only[zc,za,hw,hw2]
  generalize l[i+1]! =y
  generalize l[i]! =z
  grind) (by
   rw[hlen]
   unfold Gs
   simp only[zc]
   rw[nH])
 have e1':Gq ⟨l,1⟩=O ⟨l,((i+1:Nat):Int)⟩:=e1
 rw[e1']
 dsimp only
 rw[hlen]at hc
 rcases hc with ⟨rfl,hc⟩|⟨hi,hc⟩
 ·have:eB l=wE:=(iK l).2 fun i hi=>by
   have:=hc i (by omega)
   rw[hget i (by omega)]at this
   simpa using this
  rw[this,decide_eq_false (show ¬(((l.length-1+1:Nat):Int)<(l.length:Int))by omega)]
  rfl
 ·rw[hget i hi]at hc
  have hc':¬l[i]! <l[i+1]! :=by simpa using hc
  have:eB l=wD:=by
   cases hr:eB l with
   |false=>rfl
   |true=>exact absurd ((iK l).1 hr i (by omega)) hc'
  rw[this]
  have hw2:i64.wrap (((i+1:Nat):Int)-1)=(i:Int):=by rw[aF];omega
  simp only[zc,za,hw2]
  revert hc'
  generalize l[i+1]! =y
  generalize l[i]! =z
  intro hc'
  grind
theorem AY(a b:Bool):(a&&b)=if a=true then b else false:=by cases a<;>rfl
theorem Pg(f:Flat)(s:GStep)(last:Bool):MC f s last=O (cK f s last):=by
 have h199:s.aH.length<=32->Sw s.aH=O (eB s.aH):=fun h=>adK _ (by omega)
 have hz:s.aH[yI 0]! =s.aH[0]! :=rfl
 unfold MC Rv To Tp
 rw[aq.eta,abV,hz]
 obtain⟨X,hX⟩:∃X,X=cK f s last:=⟨_,rfl⟩
 rw[<-hX]
 have hX1:X=wE↔cK f s last=wE:=by rw[hX]
 clear hX
 unfold cK rN at hX1
 generalize eB s.aH=R at*
 generalize td s.ay=Z at*
 generalize f.ag[s.cG.toNat]!.aY=K at*
 generalize s.aH[0]! =B0 at*
 generalize Sw s.aH=M at*
 have cs:s.bH=0\/s.bH=1\/s.bH=2\/s.bH=3\/s.bH=4\/s.bH=5\/s.bH=6\/s.bH<0\/6<s.bH:=by omega
 rcases cs with h|h|h|h|h|h|h|h|h
 case inr.inr.inr.inr.inr.inr.inr.inl=>rw[decide_eq_true h];dsimp only[cond_true];cases X<;>grind
 case inr.inr.inr.inr.inr.inr.inr.inr=>rw[decide_eq_true h,dZ];dsimp only[cond_true,cond_false];cases X<;>grind
 all_goals
  rw[h]at hX1 ⊢
  cases X<;>cases Z<;>simp only[Int.reduceEq,Int.reduceLT,decide_true,decide_false,cond_true,cond_false,if_true,if_false,zc,reduceIte,ze,decide_eq_true_eq,yD,true_iff,false_iff,not_and,and_true,and_false]at hX1 ⊢ <;>grind (splits:=40)
theorem UD(a b:Bool):(bif a then some b else some false)=some (a&&b):=by cases a<;>rfl
theorem O8(f:Flat)(s:GStep)(last:Bool)(hb:s.aH.length<=1000000):LI f s last=O (cK f s last):=by
 have h173:=Y8 s.aH hb
 have e1:(bif wF ((s.aG.length:Int)=0)then O (wF ((s.aJ.length:Int)=0))else O wD)=O (wF (s.aG.length=0/\s.aJ.length=0)):=by
  have c1:((s.aG.length:Int)=0)↔s.aG.length=0:=by omega
  have c2:((s.aJ.length:Int)=0)↔s.aJ.length=0:=by omega
  simp only[c1,c2]
  by_cases a1:s.aG.length=0<;>by_cases a2:s.aJ.length=0<;>simp[a1,a2]
 have e2:(bif wF (0<=s.cG)then bif wF (s.cG<(f.ag.length:Int))then if(0:Int)<=s.cG/\s.cG<(f.ag.length:Int)then O (wF (f.ag[s.cG.toNat]!.aY=0))else wC else O wD else O wD)=O (rN f s):=by
  unfold rN
  simp only[zc]
  generalize f.ag[s.cG.toNat]!.aY=K
  by_cases a1:0<=s.cG<;>by_cases a2:s.cG<(f.ag.length:Int)<;>simp[a1,a2]
 unfold LI
 rw[aq.eta,acd,h173,e1,e2]
 dsimp only
 unfold cK
 generalize eB s.aH=R
 generalize td s.ay=Z
 generalize rN f s=L1
 generalize wF (s.aG.length=0/\s.aJ.length=0)=F
 generalize s.aH[0]! =B0
 have hi:((s.aH.length:Int)=0)↔s.aH.length=0:=by omega
 have hi2:((s.aJ.length:Int)=0)↔s.aJ.length=0:=by omega
 simp only[hi,hi2]
 have cs:s.bH=0\/s.bH=1\/s.bH=2\/s.bH=3\/s.bH=4\/s.bH=5\/s.bH=6\/(s.bH≠0/\s.bH≠1/\s.bH≠2/\s.bH≠3/\s.bH≠4/\s.bH≠5/\s.bH≠6):=by omega
 rcases cs with h|h|h|h|h|h|h|⟨h0,h1,h2,h3,h4,h5,h6⟩
 case inr.inr.inr.inr.inr.inr.inr=>simp only[h0,h1,h2,h3,h4,h5,h6,decide_false,cond_false,if_false]
 all_goals
  rw[h]
  simp only[Int.reduceEq,decide_true,decide_false,cond_true,cond_false,if_true,if_false,reduceIte]
  generalize wF (s.aH.length=0)=b1
  generalize wF (s.cG=0)=b2
  generalize wF (s.aJ.length=0)=b3
  generalize wF (1<=s.aH.length/\s.aH.length<=32)=b4
  generalize wF ((0:Int)<=B0)=b5
  try rw[Bool.decide_and]
  generalize wF (s.fN=0)=b6
  try generalize wF (0<=s.fN)=b7
  try generalize wF (s.fN<(f.ai.length:Int))=b8
  simp only[UD]
  first|done|(congr 1;ac_rfl)
theorem Q8(s:GStep)(hb:s.bH=6->1<=s.aH.length/\s.aH.length<=32):Nf s=O (sI s):=by
 unfold Nf sI
 by_cases h6:s.bH=6
 ·obtain⟨b1,b2⟩:=hb h6
  have hw:i64.wrap ((s.aH.length:Int)-1)=(s.aH.length:Int)-1:=aF
  have hw2:((s.aH.length:Int)-1).toNat=s.aH.length-1:=by omega
  rw[hw,hw2,h6]
  generalize s.aH[s.aH.length-1]! =B
  simp only[Int.reduceEq,Int.reduceLT,decide_true,decide_false,cond_true,cond_false,if_true,if_false,zc,reduceIte,AY,decide_eq_true_eq,yD]
  grind (splits:=30)
 ·rw[decide_eq_false h6,if_neg h6]
  by_cases h2:s.bH=2
  ·rw[h2]
   simp only[Int.reduceEq,Int.reduceLT,decide_true,decide_false,cond_true,cond_false,if_true,if_false,zc,reduceIte,AY,decide_eq_true_eq,yD]
   grind (splits:=30)
  ·rw[decide_eq_false h2,if_neg h2]
   simp only[Int.reduceEq,Int.reduceLT,decide_true,decide_false,cond_true,cond_false,if_true,if_false,zc,reduceIte,AY,decide_eq_true_eq,yD]
   grind (splits:=30)
theorem hO{f:Flat}{s:GStep}{last:Bool}(h:cK f s last=wE):(s.bH=6->1<=s.aH.length/\s.aH.length<=32)/\(s.bH≠6->s.aH.length=0)/\(s.bH≠3->s.bH≠4->s.aG=[])/\(s.bH≠3->s.aJ=[])/\(s.bH≠4->0<=s.fN):=by
 unfold cK at h
 simp only[AY,decide_eq_true_eq]at h
 have e1:s.aG.length=0->s.aG=[]:=List.length_eq_zero_iff.1
 have e2:s.aJ.length=0->s.aJ=[]:=List.length_eq_zero_iff.1
 refine⟨fun h6=> ?_,fun h6=> ?_,fun h3 h4=>e1 ?_,fun h3=>e2 ?_,fun h4=> ?_⟩<;>grind (splits:=40)
end Go.Proofs.YtnfljbehcffmcaaGreat
end
noncomputable section
set_option maxRecDepth 100000
namespace Go.Proofs.YtnfljbehcffmcaaGreat
open Go Go.Iv
abbrev apq:Type:=List Int
def d237:Td 1 apq:= .c [] [] (.r 1 1 en (sr 0 3 sn) (fun z=>z.2.1) (fun x=>((()),(x,()))) fun _=>rfl)
def amS:=(lc (qo 0) ln)
def ams:=(sr 0 3 sn)
def M0(b0:List Int):Option apq:=if b0.length<=1073741824 then O (b0.mergeSort fun x y=>wF (x<=y))else wC
def afd:Prop:=HY wG 237 1 amS ams d237 (fun g=>M0 g.2.1)
def ar3:aI->aI:=eY wG 237 1 amS ams d237 (fun g=>M0 g.2.1)
theorem UK(hv:afd){F:aI}(h:bf wG F):bf wG (ar3 F):=Jn hv ⟨_,func237,by kernel_rfl,by kernel_rfl⟩ (fun _=>by kernel_rfl) h
def YF:Go.Shelf.Ren:=⟨fun|189=>237|125=>257|257=>281|128=>300|129=>301|294=>317|295=>318|296=>319|297=>320|298=>321|299=>322|216=>323|300=>324|301=>325|328=>342|329=>333|330=>334|331=>343|332=>344|215=>326|343=>354|n=>n,fun|28=>27|3=>3|46=>240|0=>0|51=>322|53=>324|4=>4|183=>316|182=>315|131=>193|5=>5|9=>9|218=>344|222=>348|228=>356|229=>297|n=>n,fun|n=>n⟩
theorem Srt:Go.Proofs.Lays.n189 wG YF where
 mixed:=by kernel_rfl
 f125:=func257.trans (congrArg O (by kernel_rfl))
 f128:=func300.trans (congrArg O (by kernel_rfl))
 f129:=func301.trans (congrArg O (by kernel_rfl))
 f189:=func237.trans (congrArg O (by kernel_rfl))
 f215:=func326.trans (congrArg O (by kernel_rfl))
 f216:=func323.trans (congrArg O (by kernel_rfl))
 f257:=func281.trans (congrArg O (by kernel_rfl))
 f294:=func317.trans (congrArg O (by kernel_rfl))
 f295:=func318.trans (congrArg O (by kernel_rfl))
 f296:=func319.trans (congrArg O (by kernel_rfl))
 f297:=func320.trans (congrArg O (by kernel_rfl))
 f298:=func321.trans (congrArg O (by kernel_rfl))
 f299:=func322.trans (congrArg O (by kernel_rfl))
 f300:=func324.trans (congrArg O (by kernel_rfl))
 f301:=func325.trans (congrArg O (by kernel_rfl))
 f328:=func342.trans (congrArg O (by kernel_rfl))
 f329:=func333.trans (congrArg O (by kernel_rfl))
 f330:=func334.trans (congrArg O (by kernel_rfl))
 f331:=func343.trans (congrArg O (by kernel_rfl))
 f332:=func344.trans (congrArg O (by kernel_rfl))
 f343:=func354.trans (congrArg O (by kernel_rfl))
 t0:=underlying0
 a0:=Tryz.isAgg0
 z0:=Tryz.sizeOf0
 v0:=Tryz.zeroValue0
 t3:=underlying3
 a3:=Tryz.isAgg3
 z3:=Tryz.sizeOf3
 v3:=Tryz.zeroValue3
 t4:=underlying4
 a4:=Tryz.isAgg4
 z4:=Tryz.sizeOf4
 v4:=Tryz.zeroValue4
 t5:=underlying5
 a5:=Tryz.isAgg5
 z5:=Tryz.sizeOf5
 v5:=Tryz.zeroValue5
 t9:=underlying9
 a9:=Tryz.isAgg9
 z9:=Tryz.sizeOf9
 v9:=Tryz.zeroValue9
 t28:=underlying27
 a28:=Tryz.isAgg27
 z28:=Tryz.sizeOf27
 v28:=Tryz.zeroValue27
 t46:=underlying240
 a46:=Tryz.isAgg240
 z46:=Tryz.sizeOf240
 v46:=Tryz.zeroValue240
 t51:=underlying322
 a51:=Tryz.isAgg322
 z51:=Tryz.sizeOf322
 v51:=Tryz.zeroValue322
 t53:=underlying324
 a53:=Tryz.isAgg324
 z53:=Tryz.sizeOf324
 v53:=Tryz.zeroValue324
 t131:=underlying193
 a131:=Tryz.isAgg193
 z131:=Tryz.sizeOf193
 v131:=Tryz.zeroValue193
 t182:=underlying315
 a182:=Tryz.isAgg315
 z182:=Tryz.sizeOf315
 v182:=Tryz.zeroValue315
 t183:=underlying316
 a183:=Tryz.isAgg316
 z183:=Tryz.sizeOf316
 v183:=Tryz.zeroValue316
 t218:=underlying344
 a218:=Tryz.isAgg344
 z218:=Tryz.sizeOf344
 v218:=Tryz.zeroValue344
 t222:=underlying348
 a222:=Tryz.isAgg348
 z222:=Tryz.sizeOf348
 v222:=Tryz.zeroValue348
 t228:=underlying356
 a228:=Tryz.isAgg356
 z228:=Tryz.sizeOf356
 v228:=Tryz.zeroValue356
 t229:=underlying297
 a229:=Tryz.isAgg297
 z229:=Tryz.sizeOf297
 v229:=Tryz.zeroValue297
theorem pU{A:Nat->Prop}{w:World}{l:List Int}{us:List Value}(h1:us.length=l.length*1)(h2:∀i,i<l.length->bq A w (uni.cells 3 l[i]!) ((us.drop (i*1)).take 1)):us=l.map (Value.int .i64):=by
 apply List.ext_getElem (by simpa using h1)
 intro i q1 q2
 simp at q2
 obtain⟨g1,g2⟩:=h2 i q2
 have e:((us.drop (i*1)).take 1)[0]? =O us[i]:=by
  rw[List.getElem?_take_of_lt (by omega),ym]
  simp[q1]
 have g3:=g2 0 (.lit (.int .i64 l[i]!)) us[i] rfl e
 rw[g3.cg,yx,getElem!_pos l i q2]
theorem acZ{A:Nat->Prop}{w:World}{l:List Int}:∀i,i<l.length->bq A w (uni.cells 3 l[i]!) (((l.map (Value.int .i64)).drop (i*1)).take 1):=fun i hi=>by
 have e:((l.map (Value.int .i64)).drop (i*1)).take 1=[Value.int .i64 l[i]!]:=by
  rw[y6,xJ (by simpa using hi),List.take_succ_cons,xx,yx,getElem!_pos l i hi]
 rw[e]
 refine⟨rfl,fun j a v q1 q2=> ?_⟩
 cases j with
 |zero=>cases q1;cases q2;exact .lit _
 |succ j=>cases q1
theorem ajB(l b:List Int)(hb:M0 l=O b):PA wG 237 [.own 0] [(0, .row 3 l)] 1 (jh wG 237 1 (d237.pat b)):=by
 unfold M0 at hb
 split at hb
 case isFalse=>cases hb
 rename_i hlen
 have hbl:b=l.mergeSort fun x y=>wF (x<=y):=(zB.inj hb).symm
 have hln:b.length=l.length:=by rw[hbl,List.length_mergeSort]
 intro ρ
 have ho:jh wG 237 1 (d237.pat b)=⟨.iA [],[(0, .row 3 b)],1⟩:=by kernel_rfl
 show Go.Iv.Fn wG 237 [(bP.own 0).sub ρ] (aP.res ρ [(0, .row 3 l)]) _
 rw[ho,cX]
 intro w A vs hr hd hn
 obtain⟨hr1,hr2⟩:=hr
 obtain⟨v,rfl⟩:∃v,vs=[v]:=List.length_eq_one_iff.1 hr1
 have hv:v=ρ.v 0:=(hr2 0 _ v rfl rfl).cg
 subst hv
 generalize hv:ρ.v 0=v at*
 have hok:=hd.1 (.row v 3 l) (by show _∈[cc.row (ρ.v 0) 3 l];rw[hv];exact zD.2 rfl)
 obtain⟨us,h1,h2,h3⟩:=hok
 have hσ:aP.res ρ [(0, .row 3 l)]=[cc.row v 3 l]:=by show [cc.row (ρ.v 0) 3 l]=_;rw[hv]
 have hus:us=l.map (Value.int .i64):=pU h1.1 h3
 rw[hσ]at hd hn ⊢
 have fin:∀w':World,gy w' v 3 1 b.length (b.map (Value.int .i64))->Kp (bh [cc.row v 3 l]) w w'->∃v_1 av σ',Ending.returned (Value.tuple #[])=Ending.returned v_1/\
   (∃ρ',p6 1 ρ ρ'/\av=(bP.iA (cH:=uni.cH) []).sub ρ'/\List.Perm σ' (aP.res ρ' [(0, .row 3 b)]))/\Tr ⟨w,A,bh [cc.row v 3 l]⟩ (bh [cc.row v 3 l]) [cc.row v 3 l] w σ' w'/\Rel (al ⟨w,A,bh [cc.row v 3 l]⟩ σ') w' av v_1:=fun w' hrow hk=>by
  have hbk:bh [cc.row v 3 b]=bh [cc.row v 3 l]:=rfl
  have hal:∀x,al ⟨w,A,bh [cc.row v 3 l]⟩ [cc.row v 3 l] x->al ⟨w,A,bh [cc.row v 3 l]⟩ [cc.row v 3 b] x:=fun x h=>h
  refine⟨_, .iA [],[cc.row v 3 b],rfl,⟨ρ,fun i _=>⟨rfl,rfl⟩,by simp only[bP.sub,yG],by show List.Perm _ [cc.row (ρ.v 0) 3 b];rw[hv]⟩,⟨⟨hk,?_,?_,?_⟩,hk,fun x _ h=>⟨hal x h,h.2⟩⟩,Rel.iA [] [] rfl (fun j a v q=>by cases q)⟩
  ·intro r hr
   rw[zD.1 hr]
   exact⟨b.map (Value.int .i64),hrow,fun i _=>rfl,acZ⟩
  ·rw[hbk];exact hn
  ·intro x hx;exact .inl hx
 obtain⟨h1l,hcase⟩:=h1
 rcases hcase with ⟨p,hvp,hl0⟩|⟨gb,cap,cur,hvp,hg,q1,q2,q3,q4⟩
 ·have hl:l=[]:=List.length_eq_zero_iff.1 hl0
  have hbn:b=[]:=by rw[hbl,hl,List.mergeSort_nil]
  subst hvp
  refine(Go.Proofs.Any.slices_Sort_int_none Srt p 0 w).mono fun e w' he=> ?_
  obtain⟨rfl,rfl⟩:=he
  refine fin w' ?_ (Kp.refl _ _)
  rw[hbn]
  exact⟨rfl, .inl ⟨p,rfl,rfl⟩⟩
 ·subst hvp
  have hgs:gb<w.heap.size:=(Array.getElem?_eq_some_iff.1 hg).1
  have q4:cur.toList.take (l.length*1)=us:=q4
  have q3:cur.size=(cap+1)*1:=q3
  rw[y6]at q4
  have q1:l.length<=cap+1:=q1
  have hbc:b.length<=cap+1:=by rw[hln];exact q1
  have hH:=holds_of_blockI (ss:=l) hg (by rw[q4,hus])
  refine(Go.Proofs.Any.slices_Sort_int Srt gb 0 (cap+1) l w hH hgs (by omega)).mono fun e w' he=> ?_
  obtain⟨rfl,n,os,rfl⟩:=he
  rw[<-hbl]
  obtain⟨k1,k2,k3,k4,k5⟩:=grownBy_sortedI (w:=w) (g:=gb) (n:=n) (os:=os) b.toArray
  refine fin _ ?_ ⟨k1,k2,k3,k4,fun k hk hX=>k5 k hk (fun h=>hX ?_)⟩
  ·refine⟨by simp, .inr ⟨gb,cap,_,by rw[hln];rfl,heap_sortedI _ hg,hbc,q2,by simp[Go.Sort.putCells,q3],?_⟩⟩
   rw[y6]
   exact take_putCellsI cur b (by rw[q3,y6];exact hbc)
  ·cases h
   exact bD.2 ⟨_,zD.2 rfl,rfl⟩
theorem aoJ:afd:=fun g b hb=>ajB g.2.1 b hb
end Go.Proofs.YtnfljbehcffmcaaGreat
end
noncomputable section
set_option maxRecDepth 100000
namespace Go.Proofs.YtnfljbehcffmcaaGreat
open Go Go.Iv
open Go.IntKind (i64)
abbrev E35:Type:=List Int
def d35:Td 0 E35:= .c [] [2] (.t (cq.s 2 [] 3) (.c [] [2] (.r 0 1 (ec 2 (qo 0) en) (sr 0 3 sn) (fun z=>z.2.1) (fun x=>(((),()),(x,()))) fun _=>rfl)))
def A35:=(lc (ql 3) ln)
def m35(a0:List Int):Option E35:=if a0.length<=1073741824 then O a0 else wC
theorem ajH:eW wG cQ 0 300 35 .no:=bV (l:=[]) func35 (bB (by kernel_rfl)) (by kernel_rfl) aC
theorem asH(x:Int)(xs:List Int):bN wG cQ 300 .no 35 [.sl 3 (x::xs)] [] 0 d35.rd=if([]++(x::xs)).length<=1073741824 then O ([]++(x::xs))else wC:=by kernel_rfl
theorem auU(c:Nat):bN wG cQ 300 .no 35 [.lit (.slice wC 0 c)] [] 0 d35.rd=O []:=by kernel_rfl
theorem atm(a:Addr)(c:Nat):bN wG cQ 300 .no 35 [.lit (.slice (O a) 0 c)] [] 0 d35.rd=O []:=by kernel_rfl
theorem h35:HL wG 35 A35 d35 (fun g=>m35 g.1):=fun g r h=>by
 obtain⟨a0,_⟩:=g
 have h:m35 a0=O r:=h
 cases a0 with
 |cons x xs=>exact(oF (out:=fun p=>jh wG 35 0 (d35.pat p)) (p:=r) aK ajH d35.ok (fun p=>by kernel_rfl) (m5 (by kernel_rfl)) (kI (by kernel_rfl)) ((asH x xs).trans (by rw[z8];exact h))).2
 |nil=>
  cases h
  exact PX (fun c=>(oF (out:=fun p=>jh wG 35 0 (d35.pat p)) (p:=[]) aK ajH d35.ok (fun p=>by kernel_rfl) (m5 (by kernel_rfl)) (kI (by kernel_rfl)) (auU c)).2) (fun a c=>(oF (out:=fun p=>jh wG 35 0 (d35.pat p)) (p:=[]) aK ajH d35.ok (fun p=>by kernel_rfl) (m5 (by kernel_rfl)) (kI (by kernel_rfl)) (atm a c)).2)
def e35:aI->aI:=eL wG 35 wD A35 d35 (fun g=>m35 g.1)
theorem ahg{F:aI}(h:bf wG F):bf wG (e35 F):=gx (sc:=Ay) dS h35 ⟨_,func35,by kernel_rfl,by kernel_rfl⟩ (fun _=>by kernel_rfl) (fun _=>by kernel_rfl) h
structure ko where
 t21:List Int
 (t22 t23:Int)
 (b0 b1 b2:aD)
def Li:Td 0 ko:= .c [] [2,4,7,21,22,23] (.r 0 4 (ec 2 (qp 0 0) (ec 4 (qp 1 0) (ec 7 (qp 2 0) (ec 21 (qo 3) (ec 22 (qi .i64) (ec 23 (qi .i64) en)))))) (sb 0 34 (lg 34) (sb 1 34 (lg 34) (sb 2 34 (lg 34) (sr 3 3 sn)))) (fun z=>⟨z.2.2.2.2.1,z.1.2.2.2.2.1,z.1.2.2.2.2.2.1,z.2.1,z.2.2.1,z.2.2.2.1⟩) (fun x=>(((),(),(),(),x.t22,x.t23,()),(x.b0,x.b1,x.b2,x.t21,()))) fun _=>rfl)
def uN(p:ko):Option (Option ko):=
 bif wF (p.t23<p.t22)then if(0:Int)<=p.t23/\p.t23<(↑p.t21.length:Int)then if 3=3/\p.t23.toNat<p.t21.length then bif bif iR p.t21[p.t23.toNat]! then wD else wE then O (wC)else match Ac p.b0 p.t21[p.t23.toNat]! with|wC=>wC|O r1=>bif bif dR r1.fst then wD else wE then match kF p.b2 (fT p.t21[p.t23.toNat]!)with|wC=>wC|O r2=>O (O (ko.mk p.t21 p.t22 (i64.wrap (p.t23+1)) r1.snd p.b1 r2))else O (O (ko.mk p.t21 p.t22 (i64.wrap (p.t23+1)) r1.snd p.b1 p.b2))else wC else wC else O (wC)
def Gp:ko->Option ko:=bw (uN)
abbrev apz:Type:=aD×Int
def d161:Td 0 apz:= .c [] [4,5] (.r 0 1 (ec 4 (qp 0 0) (ec 5 (qi .i64) en)) (sb 0 34 (lg 34) sn) (fun z=>(z.2.1,z.1.2.1)) (fun x=>(((),x.2,()),(x.1,()))) fun _=>rfl)
def JD(a0:aD)(a1:List Int):Option apz:=
 match rE a0 with|wC=>wC|O r3=>bif bif r3 then wD else wE then O ((aD.mk (0) (0) (0),1))else match m35 a1 with|wC=>wC|O r4=>match M0 r4 with|wC=>wC|O r5=>match Gp (ko.mk r5 (↑(yC r5):Int) (0) a0 (aD.mk (0) (0) (0)) gQ)with|wC=>wC|O r6=>bif wF (r6.t23<r6.t22)then if(0:Int)<=r6.t23/\r6.t23<(↑r6.t21.length:Int)then if 3=3/\r6.t23.toNat<r6.t21.length then bif bif iR r6.t21[r6.t23.toNat]! then wD else wE then O ((aD.mk (0) (0) (0),3))else match Ac r6.b0 r6.t21[r6.t23.toNat]! with|wC=>wC|O r7=>bif bif dR r7.fst then wD else wE then match kF r6.b2 (fT r6.t21[r6.t23.toNat]!)with|wC=>wC|O r8=>wC else wC else wC else wC else match kF r6.b2 r6.b0 with|wC=>wC|O r9=>O ((r9,0))
def an9:aI->aI:=eL wG 161 wD (lc (qg 34) (lc (ql 3) ln)) d161 (fun g=>JD g.1 g.2.1)
theorem Zz:EO an9:=fun h=>kL (an:=(.two .no (.two .no (.two .no (.two .no (.two .no (.two (.two .no (Li.lp Gp .no)) .no))))))) (l:=[(aU f161 0,(Li.lp Gp .no))]) func161 (UK aoJ (iU (pR (qa (ic (HT (AL (jK (ahg aK))))))))) (az (aO Li) aC) h
end Go.Proofs.YtnfljbehcffmcaaGreat
end
noncomputable section
namespace Go.Proofs.YtnfljbehcffmcaaGreat
open Go Go.Iv
theorem IK{l:List Int}(h:eB l=wE):∀{i j:Nat},i<j->j<l.length->l[i]! <l[j]! :=by
 intro i j hij hj
 induction j with
 |zero=>omega
 |succ j ih=>
  have h1:=(iK l).1 h j hj
  by_cases hi:i=j
  ·subst hi;exact h1
  ·have:=ih (by omega) (by omega)
   omega
theorem IS{l:List Int}(h:eB l=wE):l.mergeSort (fun x y=>wF (x<=y))=l:=by
 apply List.mergeSort_of_pairwise
 rw[List.pairwise_iff_getElem]
 intro i j hi hj hij
 have:=IK h hij hj
 rw[getElem!_pos l i hi,getElem!_pos l j hj]at this
 simp
 omega
def Dx:List Int->Int->Int
 |[],x=>x
 |b::l,x=>if x<=b then b else Dx l x
theorem mM(l:List Int)(b x:Int):Dx (l++[b]) x=if(∃c∈l,x<=c)then Dx l x else if x<=b then b else x:=by
 induction l with
 |nil=>simp[Dx]
 |cons c l ih=>
  show (if x<=c then c else Dx (l++[b]) x)=_
  by_cases h:x<=c
  ·rw[if_pos h,if_pos ⟨c,zg ..,h⟩]
   show c=if x<=c then c else Dx l x
   rw[if_pos h]
  ·rw[if_neg h,ih]
   show _=if _ then(if x<=c then c else Dx l x)else _
   rw[if_neg h]
   by_cases k:∃c∈l,x<=c
   ·obtain⟨d,hd,hx⟩:=k
    rw[if_pos ⟨d,hd,hx⟩,if_pos ⟨d,zC _ hd,hx⟩]
   ·rw[if_neg k,if_neg (show ¬∃d∈c::l,x<=d from fun⟨d,hd,hx⟩=>by
     rcases zu.mp hd with rfl|hd
     ·exact h hx
     ·exact k ⟨d,hd,hx⟩)]
theorem aa4{l:List Int}{x:Int}(h:∃c∈l,x<=c):Dx l x∈l:=by
 induction l with
 |nil=>obtain⟨c,hc,_⟩:=h;cases hc
 |cons c l ih=>
  show (if x<=c then c else Dx l x)∈_
  by_cases k:x<=c
  ·rw[if_pos k];exact zg ..
  ·rw[if_neg k]
   obtain⟨d,hd,hx⟩:=h
   rcases zu.mp hd with rfl|hd
   ·exact absurd hx k
   ·exact zC _ (ih ⟨d,hd,hx⟩)
theorem Hh{l:List Int}{x:Int}(h:¬∃c∈l,x<=c):Dx l x=x:=by
 induction l with
 |nil=>rfl
 |cons c l ih=>
  show (if x<=c then c else Dx l x)=_
  rw[if_neg (fun k=>h ⟨c,zg ..,k⟩),ih (fun⟨d,hd,hx⟩=>h ⟨d,zC _ hd,hx⟩)]
def uF(a:aD)(l:List Int)(y:Int):Prop:=∃x,bz a x/\y=Dx l x
theorem RH{a:aD}(h:NV a){l:List Int}(hl:∀b∈l,bO b){y:Int}(k:uF a l y):bO y:=by
 obtain⟨x,hx,rfl⟩:=k
 by_cases c:∃c∈l,x<=c
 ·exact hl _ (aa4 c)
 ·rw[Hh c];exact Sh h hx
structure I8 (a:aD) (l:List Int) (i:Nat) (s:aD×aD):Prop where
 rest:Ex (fun x=>bz a x/\∀b∈l.take i,b<x) s.1
 out:ld (fun y=>∃x,bz a x/\(∃b∈l.take i,x<=b)/\y=Dx (l.take i) x) s.2
 v:NV s.2
theorem I8.step{a:aD}{l:List Int}{i:Nat}{s:aD×aD}(hi:i<l.length)(hl:∀b∈l,bO b)(h:I8 a l i s):
  ∃u r,Ac s.1 l[i]! =O (u,r)/\NV u/\(dR u=wE->I8 a l (i+1) (r,s.2))/\(dR u=wD->I8 a l (i+1) (r,bJ s.2 (cR l[i]!))):=by
 obtain⟨u,r,e,p1,p2⟩:=tM h.rest.1 l[i]!
 have hb:=hl _ (aR hi)
 have mu:∀x,bz u x↔bz a x/\(∀b∈l.take i,b<x)/\x<=l[i]! :=fun x=>
  ⟨fun k=>let ⟨k1,k2⟩:=(p1.2 x).mp k;let ⟨k3,k4⟩:=(h.rest.2 x).mp k1;⟨k3,k4,k2⟩,fun⟨k1,k2,k3⟩=>(p1.2 x).mpr ⟨(h.rest.2 x).mpr ⟨k1,k2⟩,k3⟩⟩
 have tk:l.take (i+1)=l.take i++[l[i]!]:=bA hi
 have mr:Ex (fun x=>bz a x/\∀b∈l.take (i+1),b<x) r:=⟨p2.1,fun x=>by
  rw[tk]
  constructor
  ·intro k
   obtain⟨k1,k2⟩:=(p2.2 x).mp k
   obtain⟨k3,k4⟩:=(h.rest.2 x).mp k1
   refine⟨k3,fun b hb=> ?_⟩
   rcases zP.mp hb with hb|hb
   ·exact k4 b hb
   ·rw[zD.mp hb];exact k2
  ·rintro⟨k1,k2⟩
   exact(p2.2 x).mpr ⟨(h.rest.2 x).mpr ⟨k1,fun b hb=>k2 b (yz _ hb)⟩,k2 _ (yA _ (zD.mpr rfl))⟩⟩
 have eq:∀y,((∃x,bz a x/\(∃b∈l.take i,x<=b)/\y=Dx (l.take i) x)\/(y=l[i]!/\∃x,bz u x))↔(∃x,bz a x/\(∃b∈l.take (i+1),x<=b)/\y=Dx (l.take (i+1)) x):=fun y=>by
  rw[tk]
  constructor
  ·rintro(⟨x,k1,⟨b,hb,k2⟩,rfl⟩|⟨rfl,x,hx⟩)
   ·exact⟨x,k1,⟨b,yz _ hb,k2⟩,by rw[mM,if_pos ⟨b,hb,k2⟩]⟩
   ·obtain⟨k1,k2,k3⟩:=(mu x).mp hx
    exact⟨x,k1,⟨_,yA _ (zD.mpr rfl),k3⟩,by rw[mM,if_neg (fun⟨b,hb,k⟩=>by have:=k2 b hb;omega),if_pos k3]⟩
  ·rintro⟨x,k1,⟨b,hb,k2⟩,rfl⟩
   by_cases c:∃b∈l.take i,x<=b
   ·exact .inl ⟨x,k1,c,by rw[mM,if_pos c]⟩
   ·have k3:x<=l[i]! :=by
     rcases zP.mp hb with hb|hb
     ·exact absurd ⟨b,hb,k2⟩ c
     ·rw[<-zD.mp hb];exact k2
    refine .inr ⟨by rw[mM,if_neg c,if_pos k3],x,(mu x).mpr ⟨k1,fun b hb=> ?_,k3⟩⟩
    rcases Int.lt_or_le b x with q|q
    ·exact q
    ·exact absurd ⟨b,hb,q⟩ c
 obtain⟨t1,t2⟩:=lQ h.out h.v hb (Ex.rep (P:=bz u) ⟨p1.1,fun x=>Iff.rfl⟩) p1.1
 refine⟨u,r,e,p1.1,fun k=>⟨mr,(t1 k).congr eq,h.v⟩,fun k=>⟨mr,(t2 k).congr eq,dG h.v (pI hb)⟩⟩
theorem aho{l:List Int}(h:l.length<=1073741824):m35 l=O l:=by unfold m35;rw[if_pos h]
theorem Wd{a:aD}(h:NV a){l:List Int}(hr:eB l=wE)(hn:l.length<=1000000)(hl:∀b∈l,bO b):∃c,JD a l=O (c,0)/\ld (uF a l) c:=by
 unfold JD
 rw[dD,cU h]
 simp only[cond_true,cond_false]
 rw[aho (by omega)]
 simp only
 rw[show M0 l=O l from by unfold M0;rw[fK,IS hr]]
 simp only
 obtain⟨⟨r,o⟩,e1,hI⟩:=cz (rnd:=uN) l.length (fun i (s:aD×aD)=>ko.mk l l.length (i:Nat) s.1 (aD.mk 0 0 0) s.2) (I8 a l)
  (fun i s hi hI=>by
   obtain⟨u,r,e,vu,q1,q2⟩:=hI.step hi hl
   have hb:=hl _ (aR hi)
   have hbb:iR l[i]! =wE:=by rw[iX];exact decide_eq_true hb
   unfold uN
   simp only
   rw[qz,cond_true,fK,za,if_pos ⟨trivial,hi⟩,hbb]
   simp only[cond_true,cond_false]
   rw[e]
   simp only
   rw[fq hi hn]
   cases c:dR u with
   |true=>exact⟨(r,s.2),rfl,q1 c⟩
   |false=>
    simp only[cond_true,cond_false]
    rw[gI hI.v (.inr (show NN (fT l[i]!)from NN.one hb.1 hb.2))]
    exact⟨(r,bJ s.2 (cR l[i]!)),rfl,q2 c⟩)
  (fun s hI=>by
   unfold uN
   simp only
   rw[dZ]
   rfl) (b:=(a,bU)) ⟨⟨h,fun x=>⟨fun k=>⟨k,fun b hb=>by simp at hb⟩,fun k=>k.1⟩⟩, .none fun x ⟨_,_,⟨b,hb,_⟩,_⟩=>by simp at hb, .inl rfl⟩
 have e1:bw uN (ko.mk l l.length 0 a (aD.mk 0 0 0) gQ)=O (ko.mk l l.length (l.length:Nat) r (aD.mk 0 0 0) o):=e1
 rw[show Gp=bw uN from rfl,e1]
 simp only
 rw[dZ,cond_false,gI hI.v hI.rest.1]
 refine⟨_,rfl,(hI.out.join hI.rest.rep hI.v hI.rest.1).congr fun y=> ?_⟩
 rw[zG]
 constructor
 ·rintro(⟨x,k1,_,k3⟩|⟨k1,k2⟩)
  ·exact⟨x,k1,k3⟩
  ·exact⟨y,k1,(Hh fun⟨b,hb,k⟩=>by have:=k2 b hb;omega).symm⟩
 ·rintro⟨x,k1,k2⟩
  by_cases c:∃b∈l,x<=b
  ·exact .inl ⟨x,k1,c,k2⟩
  ·right
   rw[Hh c]at k2
   subst k2
   exact⟨k1,fun b hb=>by
    rcases Int.lt_or_le b y with q|q
    ·exact q
    ·exact absurd ⟨b,hb,q⟩ c⟩
end Go.Proofs.YtnfljbehcffmcaaGreat
end
noncomputable section
set_option maxRecDepth 100000
namespace Go.Proofs.YtnfljbehcffmcaaGreat
open Go Go.Iv
open Go.IntKind (i64)
structure ij where
 t1:List Int
 t9:Int
 t10:Bool
 t11:Int
 (b0 b1 b2:aD)
def MJ:Td 0 ij:= .c [] [1,4,7,8,9,10,11] (.r 0 3 (ec 1 (ql 3) (ec 4 (qp 0 0) (ec 7 (qp 1 0) (ec 8 (qp 2 0) (ec 9 (qi .i64) (ec 10 qb (ec 11 (qi .i64) en))))))) (sb 0 34 (lg 34) (sb 1 34 (lg 34) (sb 2 34 (lg 34) sn))) (fun z=>⟨z.1.1,z.1.2.2.2.2.1,z.1.2.2.2.2.2.1,z.1.2.2.2.2.2.2.1,z.2.1,z.2.2.1,z.2.2.2.1⟩) (fun x=>((x.t1,(),(),(),x.t9,x.t10,x.t11,()),(x.b0,x.b1,x.b2,()))) fun _=>rfl)
def FQ(p:ij):Option (Option ij):=
 bif wF (p.t11<(↑p.t1.length:Int))then if(0:Int)<=p.t11/\p.t11<(↑p.t1.length:Int)then bif wF (((p.t1,(),(),(),p.t9,p.t10,p.t11,()),p.b0,p.b1,p.b2,()).snd.snd.snd.fst.aa<=((p.t1,(),(),(),p.t9,p.t10,p.t11,()),p.b0,p.b1,p.b2,()).fst.fst[((p.t1,(),(),(),p.t9,p.t10,p.t11,()),p.b0,p.b1,p.b2,()).fst.snd.snd.snd.snd.snd.snd.fst.toNat]!)then bif bif p.t10 then wD else wE then if(0:Int)<=p.t11/\p.t11<(↑p.t1.length:Int)then O (O (ij.mk p.t1 p.t1[p.t11.toNat]! wE (i64.wrap (p.t11+1)) p.b0 p.b1 p.b2))else wC else if(0:Int)<=p.t11/\p.t11<(↑p.t1.length:Int)then bif wF (((p.t1,(),(),(),p.t9,p.t10,p.t11,()),p.b0,p.b1,p.b2,()).fst.fst[((p.t1,(),(),(),p.t9,p.t10,p.t11,()),p.b0,p.b1,p.b2,()).fst.snd.snd.snd.snd.snd.snd.fst.toNat]! <((p.t1,(),(),(),p.t9,p.t10,p.t11,()),p.b0,p.b1,p.b2,()).fst.snd.snd.snd.snd.fst)then if(0:Int)<=p.t11/\p.t11<(↑p.t1.length:Int)then O (O (ij.mk p.t1 p.t1[p.t11.toNat]! wE (i64.wrap (p.t11+1)) p.b0 p.b1 p.b2))else wC else O (O (ij.mk p.t1 p.t9 p.t10 (i64.wrap (p.t11+1)) p.b0 p.b1 p.b2))else wC else O (O (ij.mk p.t1 p.t9 p.t10 (i64.wrap (p.t11+1)) p.b0 p.b1 p.b2))else wC else O (wC)
def Cr:ij->Option ij:=bw (FQ)
structure jr where
 t1:List Int
 (b0 b1 b2:aD)
def Nv:Td 0 jr:= .c [] [1,4,7,8] (.r 0 3 (ec 1 (ql 3) (ec 4 (qp 0 0) (ec 7 (qp 1 0) (ec 8 (qp 2 0) en)))) (sb 0 34 (lg 34) (sb 1 34 (lg 34) (sb 2 34 (lg 34) sn))) (fun z=>⟨z.1.1,z.2.1,z.2.2.1,z.2.2.2.1⟩) (fun x=>((x.t1,(),(),(),()),(x.b0,x.b1,x.b2,()))) fun _=>rfl)
def sx(p:jr):Option (Option jr):=
 bif bif j0 p.b2 then wD else wE then match Cr (ij.mk p.t1 (0) wD (0) p.b0 p.b1 p.b2)with|wC=>wC|O r1=>bif wF (r1.t11<(↑r1.t1.length:Int))then if(0:Int)<=r1.t11/\r1.t11<(↑r1.t1.length:Int)then bif wF (((r1.t1,(),(),(),r1.t9,r1.t10,r1.t11,()),r1.b0,r1.b1,r1.b2,()).snd.snd.snd.fst.aa<=((r1.t1,(),(),(),r1.t9,r1.t10,r1.t11,()),r1.b0,r1.b1,r1.b2,()).fst.fst[((r1.t1,(),(),(),r1.t9,r1.t10,r1.t11,()),r1.b0,r1.b1,r1.b2,()).fst.snd.snd.snd.snd.snd.snd.fst.toNat]!)then bif bif r1.t10 then wD else wE then if(0:Int)<=r1.t11/\r1.t11<(↑r1.t1.length:Int)then wC else wC else if(0:Int)<=r1.t11/\r1.t11<(↑r1.t1.length:Int)then bif wF (((r1.t1,(),(),(),r1.t9,r1.t10,r1.t11,()),r1.b0,r1.b1,r1.b2,()).fst.fst[((r1.t1,(),(),(),r1.t9,r1.t10,r1.t11,()),r1.b0,r1.b1,r1.b2,()).fst.snd.snd.snd.snd.snd.snd.fst.toNat]! <((r1.t1,(),(),(),r1.t9,r1.t10,r1.t11,()),r1.b0,r1.b1,r1.b2,()).fst.snd.snd.snd.snd.fst)then if(0:Int)<=r1.t11/\r1.t11<(↑r1.t1.length:Int)then wC else wC else wC else wC else wC else wC else bif bif r1.t10 then wD else wE then match jF r1.b1 r1.b2 with|wC=>wC|O r2=>O (wC)else match jF r1.b1 (aD.mk r1.t9 r1.t9 (0))with|wC=>wC|O r3=>match S9 r1.b2 r1.t9 with|wC=>wC|O r4=>O (O (jr.mk r1.t1 r1.b0 r3 r4))else O (wC)
def UJ:An:=(.two .no (.two .no (.two (.two .no (MJ.lp Cr .no)) .no)))
def FE:jr->Option jr:=bw (sx)
structure kO where
 t1:List Int
 t6:Int
 (b0 b1:aD)
def MY:Td 0 kO:= .c [] [1,2,4,6] (.r 0 2 (ec 1 (ql 3) (ec 2 (qp 0 0) (ec 4 (qp 1 0) (ec 6 (qi .i64) en)))) (sb 0 34 (lg 34) (sb 1 34 (lg 34) sn)) (fun z=>⟨z.1.1,z.1.2.2.2.1,z.2.1,z.2.2.1⟩) (fun x=>((x.t1,(),(),x.t6,()),(x.b0,x.b1,()))) fun _=>rfl)
def uW(p:kO):Option (Option kO):=
 bif wF (p.t6<(↑p.t1.length:Int))then if(0:Int)<=p.t6/\p.t6<(↑p.t1.length:Int)then bif bif nJ p.t1[p.t6.toNat]! then wD else wE then O (wC)else O (O (kO.mk p.t1 (i64.wrap (p.t6+1)) p.b0 p.b1))else wC else O (wC)
def Fh:kO->Option kO:=bw (uW)
abbrev alI:Type:=aD×Int
def d172:Td 0 alI:= .c [] [4,5] (.r 0 1 (ec 4 (qp 0 0) (ec 5 (qi .i64) en)) (sb 0 34 (lg 34) sn) (fun z=>(z.2.1,z.1.2.1)) (fun x=>(((),x.2,()),(x.1,()))) fun _=>rfl)
def J9(a0:aD)(a1:List Int):Option alI:=
 match Tb a0 with|wC=>wC|O r5=>bif bif r5 then wD else wE then O ((aD.mk (0) (0) (0),1))else match Fh (kO.mk a1 (0) a0 (aD.mk (0) (0) (0)))with|wC=>wC|O r6=>bif wF (r6.t6<(↑r6.t1.length:Int))then if(0:Int)<=r6.t6/\r6.t6<(↑r6.t1.length:Int)then bif bif nJ r6.t1[r6.t6.toNat]! then wD else wE then O ((aD.mk (0) (0) (0),3))else wC else wC else match FE (jr.mk r6.t1 r6.b1 oH r6.b0)with|wC=>wC|O r7=>bif bif j0 r7.b2 then wD else wE then match Cr (ij.mk r7.t1 (0) wD (0) r7.b0 r7.b1 r7.b2)with|wC=>wC|O r8=>bif wF (r8.t11<(↑r8.t1.length:Int))then if(0:Int)<=r8.t11/\r8.t11<(↑r8.t1.length:Int)then bif wF (((r8.t1,(),(),(),r8.t9,r8.t10,r8.t11,()),r8.b0,r8.b1,r8.b2,()).snd.snd.snd.fst.aa<=((r8.t1,(),(),(),r8.t9,r8.t10,r8.t11,()),r8.b0,r8.b1,r8.b2,()).fst.fst[((r8.t1,(),(),(),r8.t9,r8.t10,r8.t11,()),r8.b0,r8.b1,r8.b2,()).fst.snd.snd.snd.snd.snd.snd.fst.toNat]!)then bif bif r8.t10 then wD else wE then if(0:Int)<=r8.t11/\r8.t11<(↑r8.t1.length:Int)then wC else wC else if(0:Int)<=r8.t11/\r8.t11<(↑r8.t1.length:Int)then bif wF (((r8.t1,(),(),(),r8.t9,r8.t10,r8.t11,()),r8.b0,r8.b1,r8.b2,()).fst.fst[((r8.t1,(),(),(),r8.t9,r8.t10,r8.t11,()),r8.b0,r8.b1,r8.b2,()).fst.snd.snd.snd.snd.snd.snd.fst.toNat]! <((r8.t1,(),(),(),r8.t9,r8.t10,r8.t11,()),r8.b0,r8.b1,r8.b2,()).fst.snd.snd.snd.snd.fst)then if(0:Int)<=r8.t11/\r8.t11<(↑r8.t1.length:Int)then wC else wC else wC else wC else wC else wC else bif bif r8.t10 then wD else wE then match jF r8.b1 r8.b2 with|wC=>wC|O r9=>O ((r9,0))else match jF r8.b1 (aD.mk r8.t9 r8.t9 (0))with|wC=>wC|O r10=>match S9 r8.b2 r8.t9 with|wC=>wC|O r11=>wC else O ((r7.b1,0))
def aq3:aI->aI:=eL wG 172 wD (lc (qg 34) (lc (ql 3) ln)) d172 (fun g=>J9 g.1 g.2.1)
theorem aap:EO aq3:=fun h=>kL (an:=(.two .no (.two .no (.two (.two .no (MY.lp Fh .no)) (.two .no (.two (Nv.lp FE UJ) .no)))))) (l:=[(aU f172 0,(MY.lp Fh .no)),(aU f172 1,(Nv.lp FE UJ)),(aU f172 2,(MJ.lp Cr .no))]) func172 (pX (p7 (jI (kN (rq (LX aK)))))) (az (aO MY) (az (aO Nv) (az (aO MJ) aC))) h
end Go.Proofs.YtnfljbehcffmcaaGreat
end
noncomputable section
namespace Go.Proofs.YtnfljbehcffmcaaGreat
open Go Go.Iv
theorem P3{l:List Int}(hr:eB l=wE)(hn:l.length<=1000000)(b0 b1 c:aD):∃best found,Cr (ij.mk l 0 wD 0 b0 b1 c)=O (ij.mk l best found l.length b0 b1 c)/\
  ((found=wD/\∀j,j<l.length->l[j]! <c.aa)\/(found=wE/\∃j,j<l.length/\best=l[j]!/\c.aa<=l[j]!/\∀k,k<j->l[k]! <c.aa)):=by
 obtain⟨⟨best,found⟩,e1,hI⟩:=cz (rnd:=FQ) l.length (fun i (s:Int×Bool)=>ij.mk l s.1 s.2 (i:Nat) b0 b1 c)
  (fun i s=>(s.2=wD/\∀j,j<i->l[j]! <c.aa)\/(s.2=wE/\∃j,j<i/\s.1=l[j]!/\c.aa<=l[j]!/\∀k,k<j->l[k]! <c.aa))
  (fun i s hi hI=>by
   have hci:(0:Int)<=(i:Int)/\(i:Int)<(l.length:Int):=by omega
   unfold FQ
   simp only
   rw[decide_eq_true hci.2,cond_true,if_pos hci,za,fq hi hn]
   by_cases h1:c.aa<=l[i]!
   ·rw[decide_eq_true h1,cond_true]
    rcases hI with ⟨h2,h3⟩|⟨h2,j,h3,h4,h5,h6⟩
    ·rw[h2]
     simp only[cond_true,cond_false]
     rw[if_pos hci]
     exact⟨(l[i]!,wE),rfl, .inr ⟨rfl,i,by omega,rfl,h1,h3⟩⟩
    ·rw[h2]
     simp only[cond_true,cond_false]
     have hlt:l[j]! <l[i]! :=IK hr h3 hi
     rw[if_pos hci,decide_eq_false (show ¬l[i]! <s.1 by omega),cond_false]
     exact⟨(s.1,wE),rfl, .inr ⟨rfl,j,by omega,h4,h5,h6⟩⟩
   ·rw[decide_eq_false h1,cond_false]
    refine⟨s,rfl,?_⟩
    rcases hI with ⟨h2,h3⟩|⟨h2,j,h3,h4⟩
    ·refine .inl ⟨h2,fun j hj=> ?_⟩
     rcases yU.mp hj with k|rfl
     ·exact h3 j k
     ·omega
    ·exact .inr ⟨h2,j,by omega,h4⟩)
  (fun s hI=>by
   unfold FQ
   simp only
   rw[dZ]
   rfl) (b:=((0:Int),wD)) (.inl ⟨rfl,fun j hj=>absurd hj (yw _)⟩)
 exact⟨best,found,e1,hI⟩
theorem Ry{l:List Int}{j:Nat}{x:Int}(hj:j<l.length)(h1:∀k,k<j->l[k]! <x)(h2:x<=l[j]!):Dx l x=l[j]! :=by
 induction l generalizing j with
 |nil=>exact absurd hj (yw _)
 |cons b l ih=>
  cases j with
  |zero=>exact if_pos h2
  |succ j=>
   have h0:b<x:=h1 0 (by omega)
   show (if x<=b then b else Dx l x)=_
   rw[nH]
   exact ih (j:=j) (by simpa using hj) (fun k hk=>h1 (k+1) (by omega)) h2
theorem get_of_mem{l:List Int}{b:Int}(h:b∈l):∃j,j<l.length/\l[j]! =b:=by
 obtain⟨j,hj,rfl⟩:=xK h
 exact⟨j,hj,getElem!_pos l j hj⟩
theorem Vv{a:aD}(h:NV a){l:List Int}(hr:eB l=wE)(hn:l.length<=1000000)(hl:∀b∈l,bO b):∃c,J9 a l=O (c,0)/\ld (uF a l) c:=by
 unfold J9
 rw[dU,cU h]
 simp only[cond_true,cond_false]
 have e0:bw uW (kO.mk l 0 a (aD.mk 0 0 0))=O (kO.mk l (l.length:Nat) a (aD.mk 0 0 0)):=Jh (rnd:=uW) (fun i=>kO.mk l (i:Nat) a (aD.mk 0 0 0)) l.length (fun i hi=>by
  unfold uW
  simp only
  rw[qz,cond_true,fK,za,BB,decide_eq_true (hl _ (aR hi)),fq hi hn]
  rfl) (fun r=>by
  unfold uW
  simp only
  rw[dZ]
  intro h
  cases h)
 rw[show Fh=bw uW from rfl,e0]
 simp only
 rw[dZ,cond_false]
 obtain⟨z,e1,⟨o,r,T,rfl,hr1,ho,vo⟩,hs⟩:=kr (rnd:=sx) (fun p=>∃o r T,p=jr.mk l (aD.mk 0 0 0) o r/\Ex (fun x=>bz a x/\T<x) r/\ld (fun y=>∃x,bz a x/\x<=T/\y=Dx l x) o/\NV o)
  (fun p=>if j0 p.b2=wE then 0 else(1099511627777-p.b2.aa).toNat) (fun p p' ⟨o,r,T,hp,h1,h2,h3⟩ hq=>by
  subst hp
  have hq:sx (jr.mk l (aD.mk 0 0 0) o r)=O (O p'):=hq
  unfold sx at hq
  simp only at hq
  rcases h1.1 with rfl|vr
  ·rw[kT]at hq;cases hq
  ·rw[fS vr]at hq
   simp only[cond_true,cond_false]at hq
   obtain⟨best,found,e2,h4⟩:=P3 hr hn (aD.mk 0 0 0) o r
   rw[e2]at hq
   simp only at hq
   rw[dZ,cond_false]at hq
   rcases h4 with ⟨rfl,h4⟩|⟨rfl,j,hj,rfl,h5,h6⟩
   ·simp only[cond_true,cond_false]at hq
    rw[e9 h3 h1.1]at hq
    cases hq
   ·simp only[cond_true,cond_false]at hq
    have hb:=hl _ (aR hj)
    obtain⟨u,f1,s1⟩:=v8 h1.1 l[j]!
    rw[e9 h3 (.inr (show NN (aD.mk l[j]! l[j]! 0)from NN.one hb.1 hb.2)),f1]at hq
    simp only[zB.injEq]at hq
    subst hq
    have lo1:=(h1.2 r.aa).mp ⟨zk _,vr.le,⟨0,by omega⟩⟩
    refine⟨⟨_,_,l[j]!,rfl,⟨s1.1,fun x=> ?_⟩,?_,dG h3 (pI hb)⟩,?_⟩
    ·constructor
     ·intro k
      obtain⟨k1,k2⟩:=(s1.2 x).mp k
      exact⟨((h1.2 x).mp k1).1,k2⟩
     ·rintro⟨k1,k2⟩
      exact(s1.2 x).mpr ⟨(h1.2 x).mpr ⟨k1,by omega⟩,k2⟩
    ·refine(h2.join (ES l[j]!) h3 (pI hb)).congr fun y=> ?_
     have mid:∀x,bz a x->T<x->x<=l[j]!->Dx l x=l[j]! :=fun x k1 k2 k3=>by
      have k4:=(h1.2 x).mpr ⟨k1,k2⟩
      have:=k4.1
      exact Ry hj (fun k hk=>by have:=h6 k hk;omega) k3
     constructor
     ·rintro(⟨x,k1,k2,k3⟩|rfl)
      ·exact⟨x,k1,by omega,k3⟩
      ·exact⟨r.aa,lo1.1,h5,(mid _ lo1.1 lo1.2 h5).symm⟩
     ·rintro⟨x,k1,k2,rfl⟩
      by_cases c:x<=T
      ·exact .inl ⟨x,k1,c,rfl⟩
      ·exact .inr (mid x k1 (by omega) k2)
    ·show (if j0 u=wE then 0 else(1099511627777-u.aa).toNat)<(if j0 r=wE then 0 else(1099511627777-r.aa).toNat)
     rw[if_neg (show ¬j0 r=wE by rw[fS vr];decide)]
     have:=vr.le
     have:=vr.hi
     rcases s1.1 with rfl|vu
     ·rw[if_pos kT];omega
     ·rw[if_neg (show ¬j0 u=wE by rw[fS vu];decide)]
      have:=(s1.2 u.aa).mp ⟨zk _,vu.le,⟨0,by omega⟩⟩
      have:=this.2
      omega) ⟨bU,a,a.aa-1,rfl,⟨h,fun x=>⟨fun k=>⟨k,by have:=k.1;omega⟩,fun k=>k.1⟩⟩, .none fun y ⟨x,k1,k2,_⟩=>by have:=k1.1;omega, .inl rfl⟩
 rw[show FE=bw sx from rfl,show jr.mk l (aD.mk 0 0 0) oH a=jr.mk l (aD.mk 0 0 0) bU a from rfl,e1]
 simp only
 rcases hr1.1 with rfl|vr
 ·rw[kT]
  refine⟨o,rfl,ho.congr fun y=>⟨fun⟨x,k1,_,k3⟩=>⟨x,k1,k3⟩,fun⟨x,k1,k3⟩=>⟨x,k1,?_,k3⟩⟩⟩
  rcases Int.lt_or_le T x with q|q
  ·exact absurd ((hr1.2 x).mpr ⟨k1,q⟩) Ag
  ·exact q
 ·rw[fS vr]
  simp only[cond_true,cond_false]
  obtain⟨best,found,e2,h4⟩:=P3 hr hn (aD.mk 0 0 0) o r
  rw[e2]
  simp only
  rw[dZ,cond_false]
  rcases h4 with ⟨rfl,h4⟩|⟨rfl,j,hj,rfl,h5,h6⟩
  ·simp only[cond_true,cond_false]
   rw[e9 vo hr1.1]
   refine⟨_,rfl,(ho.join hr1.rep vo hr1.1).congr fun y=> ?_⟩
   have big:∀x,bz a x->T<x->Dx l x=x:=fun x k1 k2=>Hh fun⟨b,hb,k3⟩=>by
    obtain⟨j,hj,rfl⟩:=get_of_mem hb
    have:=((hr1.2 x).mpr ⟨k1,k2⟩).1
    have:=h4 j hj
    omega
   constructor
   ·rintro(⟨x,k1,_,k3⟩|⟨k1,k2⟩)
    ·exact⟨x,k1,k3⟩
    ·exact⟨y,k1,(big y k1 k2).symm⟩
   ·rintro⟨x,k1,k3⟩
    by_cases c:x<=T
    ·exact .inl ⟨x,k1,c,k3⟩
    ·right
     rw[big x k1 (by omega)]at k3
     subst k3
     exact⟨k1,by omega⟩
  ·exfalso
   have hb:=hl _ (aR hj)
   obtain⟨u,f1,s1⟩:=v8 hr1.1 l[j]!
   refine hs _ (show sx _=O (O (jr.mk l (aD.mk 0 0 0) (bJ o (aD.mk l[j]! l[j]! 0)) u))from ?_)
   unfold sx
   simp only
   rw[fS vr]
   simp only[cond_true,cond_false]
   rw[e2]
   simp only
   rw[dZ,cond_false]
   simp only[cond_true,cond_false]
   rw[e9 vo (.inr (show NN (aD.mk l[j]! l[j]! 0)from NN.one hb.1 hb.2)),f1]
theorem Kt{a:aD}(h:NV a){l:List Int}(hr:eB l=wE)(hn:l.length<=1000000)(hl:∀b∈l,bO b):∃c,JD a l=O (c,0)/\J9 a l=O (c,0)/\ld (uF a l) c/\NV c:=by
 obtain⟨c,e1,r1⟩:=Wd h hr hn hl
 obtain⟨d,e2,r2⟩:=Vv h hr hn hl
 rw[<-r1.uniq r2]at e2
 exact⟨c,e1,e2,r1,r1.valid fun y hy=>RH h hl hy⟩
theorem ct.ne{P:Int->Prop}{c:aD}(h:ct P c):c≠bU:=fun e=>by
 have h1:=h.all _ h.lo
 rw[e]at h1
 have h2:(1:Int)<=0:=xA h1.1 h1.2.1
 omega
theorem NV.nn{c:aD}(h:NV c)(k:c≠bU):NN c:=h.elim (fun e=>absurd e k) id
theorem ld.nn{P:Int->Prop}{c:aD}(h:ld P c)(v:NV c){x:Int}(hx:P x):NN c:=by
 rcases h with ⟨_,h⟩|h
 ·exact absurd hx (h x)
 ·exact v.nn h.ne
theorem MW:NN (aD.mk 0 0 0):=NN.one (x:=0) (by omega) (by omega)
theorem Ez{a b:Bool}(h:(a||b)=true):NN (gR a b):=(th a b).nn (by cases a<;>cases b<;>first|(cases h;done)|(intro e;cases e))
theorem D3(op:Int){a:aD}(h:NN a):NN (lf op a).1:=by
 unfold lf
 split
 ·exact MW
 rw[if_neg h.ne]
 split
 ·exact Ez (zero_or h)
 ·exact YC h
theorem ac2{op:Int}{a b:aD}(ha:NN a)(hb:NN b):∃r,lB op a b=O r/\NN r.1:=by
 by_cases ho:binop op
 ·have r1:=ha.pT
  have r2:=ha.wQ
  have r3:=hb.pT
  have r4:=hb.wQ
  by_cases hs:cnt a*cnt b<=4096
  ·rw[kA ho ha hb hs]
   rcases tg ho ha hb (by omega)with ⟨h1,c,e,h2⟩|⟨_,e⟩
   ·exact⟨_,e,h2.valid h1⟩
   ·exact⟨_,e,MW⟩
  have hbin:=ho
  obtain⟨o1,o2⟩:=ho
  rcases (show op=8\/op=9\/op=10\/op=11\/op=12\/op=21\/op=22\/(13<=op/\op<=20)by omega)with rfl|rfl|rfl|rfl|rfl|rfl|rfl|h
  ·rcases gP (op:=8) (.inl rfl) ha hb (fun Q h=>C5 ha hb h) (fun h=>(mb ha hb).mpr ⟨dO h (.inl rfl) (.inl rfl),dO h (.inr (.inr rfl)) (.inr (.inr rfl))⟩)with ⟨_,e,hv⟩|⟨_,e⟩
   ·exact⟨_,e,hv⟩
   ·exact⟨_,e,MW⟩
  ·rcases gP (op:=9) (.inr (.inl rfl)) ha hb (fun Q h=>JL ha hb h) (fun h=>(pP ha hb).mpr ⟨dO h (.inl rfl) (.inr (.inr rfl)),dO h (.inr (.inr rfl)) (.inl rfl)⟩)with ⟨_,e,hv⟩|⟨_,e⟩
   ·exact⟨_,e,hv⟩
   ·exact⟨_,e,MW⟩
  ·rcases gP (op:=10) (.inr (.inr rfl)) ha hb (fun Q h=>I7 ha hb h) (fun h=>(iO ha hb).mpr ⟨dO h (.inl rfl) (.inl rfl),dO h (.inl rfl) (.inr (.inr rfl)),dO h (.inr (.inr rfl)) (.inl rfl),dO h (.inr (.inr rfl)) (.inr (.inr rfl))⟩)with ⟨_,e,hv⟩|⟨_,e⟩
   ·exact⟨_,e,hv⟩
   ·exact⟨_,e,MW⟩
  all_goals rw[uy hbin ha hb hs];unfold R5
  ·obtain⟨a1,a2⟩:=r1
   obtain⟨a3,a4⟩:=r2
   simp only[Int.reduceEq,decide_false,decide_true,cond_false,cond_true]
   have hm:((max a.aa.natAbs a.af.natAbs:Nat):Int)<=1099511627776:=by omega
   generalize max a.aa.natAbs a.af.natAbs=m at*
   rw[kH ⟨by omega,by omega⟩ ⟨by omega,by omega⟩ (by omega),kH ⟨by omega,by omega⟩ ⟨by omega,by omega⟩ (by omega)]
   cases (wF (0<=a.aa)&&wF (0<=b.aa))with
   |true=>exact⟨(iC 0 (m:Int) 1,0),rfl,kM (lo:=0) (hi:=(m:Int)) (st:=1) (by omega) (by omega) (by omega) (by omega)⟩
   |false=>exact⟨(iC (-(m:Int)) (m:Int) 1,0),rfl,kM (lo:= -(m:Int)) (hi:=(m:Int)) (st:=1) (by omega) (by omega) (by omega) (by omega)⟩
  ·obtain⟨b1,b2⟩:=r3
   obtain⟨b3,b4⟩:=r4
   simp only[Int.reduceEq,decide_false,decide_true,cond_false,cond_true]
   have hp:(if b.aa<0 then b.aa+1 else 0)<=0/\ -1099511627776<=(if b.aa<0 then b.aa+1 else 0):=by split<;>omega
   have hq:0<=(if 0<b.af then b.af-1 else 0)/\(if 0<b.af then b.af-1 else 0)<=1099511627776:=by split<;>omega
   generalize (if b.aa<0 then b.aa+1 else 0)=p at*
   generalize (if 0<b.af then b.af-1 else 0)=q at*
   rw[kH ⟨by omega,by omega⟩ ⟨by omega,by omega⟩ (by omega)]
   exact⟨(iC p q 1,0),rfl,kM (lo:=p) (hi:=q) (st:=1) (by omega) (by omega) (by omega) (by omega)⟩
  ·simp only[Int.reduceEq,decide_false,decide_true,cond_false,cond_true]
   obtain⟨l',e2,h2⟩:=Gb (dG (.inr ha) (.inr hb)) (min a.af b.af)
   rw[e2]
   refine⟨_,rfl,h2.rep.nn h2.1 (x:=(bJ a b).aa) ⟨?_,?_⟩⟩
   ·rw[dX ha hb]
    have:=(ku ha hb).le
    exact⟨by omega,this,by rw[Int.sub_self];exact yV _⟩
   ·rw[dX ha hb]
    show min a.aa b.aa<=_
    have:=ha.le
    have:=hb.le
    omega
  ·simp only[Int.reduceEq,decide_false,decide_true,cond_false,cond_true]
   obtain⟨l',e2,h2⟩:=v8 (dG (.inr ha) (.inr hb)) (max a.aa b.aa-1)
   rw[e2]
   refine⟨_,rfl,h2.rep.nn h2.1 (x:=(bJ a b).af) ⟨?_,?_⟩⟩
   ·rw[dX ha hb]
    have:=(ku ha hb).le
    exact⟨this,by omega,(ku ha hb).dvd⟩
   ·rw[dX ha hb]
    show _<max a.af b.af
    have:=ha.le
    have:=hb.le
    omega
  ·rw[Qx h ha hb]
   refine⟨(gR (sZ op a b).1 (sZ op a b).2,0),?_,Ez (Ln h ha hb)⟩
   rcases gU h with rfl|rfl|rfl|rfl|rfl|rfl|rfl|rfl<;>rfl
 ·refine⟨(aD.mk 0 0 0,1),?_,MW⟩
  unfold lB
  rw[dU,dU,cU (.inr ha),cU (.inr hb),show Dk op=uK op from rfl,iy,decide_eq_false ho]
  rfl
def jb(op:Int)(a b:aD):aD:=match lB op a b with
 |none=>bU
 |some r=>r.1
theorem mJ(op:Int){a b:aD}(ha:NN a)(hb:NN b):∃c,tN op a b=O (jb op a b,c)/\lB op a b=O (jb op a b,c)/\NN (jb op a b):=by
 obtain⟨r,e1,e2,_⟩:=Ju op (.inr ha) (.inr hb)
 obtain⟨r',e3,h⟩:=ac2 (op:=op) ha hb
 have:r'=r:=by rw[e2]at e3;cases e3;rfl
 subst this
 unfold jb
 rw[e2]
 exact⟨r'.2,e1,rfl,h⟩
def fo(a:aD)(lo hi:Int):aD:=match Xx a lo hi with
 |none=>bU
 |some r=>r.1
theorem fE{a:aD}(ha:NN a)(lo hi:Int):∃c,Zy a lo hi=O (fo a lo hi,c)/\Xx a lo hi=O (fo a lo hi,c)/\NN (fo a lo hi)/\(bO lo->bO hi->lo<=hi->ld (sq a lo hi) (fo a lo hi)):=by
 rcases Ba (.inr ha) lo hi with ⟨c,e1,e2,h,v,_⟩|⟨e1,e2,hn⟩
 ·unfold fo
  rw[e2]
  have:=ha.le
  exact⟨0,e1,rfl,h.nn v (x:=max lo (min a.aa hi)) ⟨a.aa,⟨by omega,this,by rw[Int.sub_self];exact yV _⟩,rfl⟩,fun _ _ _=>h⟩
 ·unfold fo
  rw[e2]
  exact⟨3,e1,rfl,MW,fun h1 h2 h3=>absurd ⟨h1,h2,h3⟩ hn⟩
def mT(a:aD)(l:List Int):aD:=match J9 a l with
 |none=>bU
 |some r=>r.1
theorem mV{a:aD}(ha:NN a){l:List Int}(hr:eB l=wE)(hn:l.length<=1000000)(hl:∀b∈l,bO b):JD a l=O (mT a l,0)/\J9 a l=O (mT a l,0)/\NN (mT a l)/\ld (uF a l) (mT a l):=by
 obtain⟨c,e1,e2,h,v⟩:=Kt (.inr ha) hr hn hl
 unfold mT
 rw[e2]
 have:=ha.le
 exact⟨e1,rfl,h.nn v (x:=Dx l a.aa) ⟨a.aa,⟨by omega,this,by rw[Int.sub_self];exact yV _⟩,rfl⟩,h⟩
theorem iI{a b:aD}(h:NN a)(k:NN b):NN (bJ a b):=by rw[dX h k];exact ku h k
end Go.Proofs.YtnfljbehcffmcaaGreat
end
noncomputable section
set_option maxRecDepth 100000
namespace Go.Proofs.YtnfljbehcffmcaaGreat
open Go Go.Iv
open Go.IntKind (i64)
structure oL where
 t0:List aN
 t1:Int
 t5:List aN
 t6:Int
def MG:Td 0 oL:= .c [] [0,1,5,6] (.r 0 1 (ec 0 (ql 131) (ec 1 (qi .i64) (ec 5 (qo 0) (ec 6 (qi .i64) en)))) (sr 0 131 sn) (fun z=>⟨z.1.1,z.1.2.1,z.2.1,z.1.2.2.2.1⟩) (fun x=>((x.t0,x.t1,(),x.t6,()),(x.t5,()))) fun _=>rfl)
def FB(p:oL):Option (Option oL):=
 bif wF (p.t6<(↑p.t0.length:Int))then if(0:Int)<=p.t6/\p.t6<(↑p.t0.length:Int)then bif wF (p.t0[p.t6.toNat]!.aY=p.t1)then if(0:Int)<=p.t6/\p.t6<(↑p.t0.length:Int)then if(p.t5++[p.t0[p.t6.toNat]!]).length<=1073741824 then O (O (oL.mk p.t0 p.t1 (p.t5++[p.t0[p.t6.toNat]!]) (i64.wrap (p.t6+1))))else wC else wC else O (O (oL.mk p.t0 p.t1 p.t5 (i64.wrap (p.t6+1))))else wC else O (wC)
def Gf:oL->Option oL:=bw (FB)
abbrev arl:Type:=List aN
def d173:Td 0 arl:= .c [] [4] (.r 0 1 (ec 4 (qo 0) en) (sr 0 131 sn) (fun z=>z.2.1) (fun x=>(((),()),(x,()))) fun _=>rfl)
def aas(a0:List aN)(a1:Int):Option arl:=
 match Gf (oL.mk a0 a1 [] (0))with|wC=>wC|O r1=>bif wF (r1.t6<(↑r1.t0.length:Int))then if(0:Int)<=r1.t6/\r1.t6<(↑r1.t0.length:Int)then bif wF (r1.t0[r1.t6.toNat]!.aY=r1.t1)then if(0:Int)<=r1.t6/\r1.t6<(↑r1.t0.length:Int)then if(r1.t5++[r1.t0[r1.t6.toNat]!]).length<=1073741824 then wC else wC else wC else wC else wC else O (r1.t5)
def anp:aI->aI:=eL wG 173 wD (lc (ql 131) (lc (qi .i64) ln)) d173 (fun g=>aas g.1 g.2.1)
theorem ZD:EO anp:=fun h=>kL (an:=(.two .no (.two .no (.two (.two .no (MG.lp Gf .no)) .no)))) (l:=[(aU f173 0,(MG.lp Gf .no))]) func173 aK (az (aO MG) aC) h
def F89:aI:=(anp cQ)
structure CN where
 t6:List aN
 (t8 t9:Int)
def Th:Td 0 CN:= .c [] [6,8,9] (.r 0 1 (ec 6 (qo 0) (ec 8 (qi .i64) (ec 9 (qi .i64) en))) (sr 0 131 sn) (fun z=>⟨z.2.1,z.1.2.1,z.1.2.2.1⟩) (fun x=>(((),x.t8,x.t9,()),(x.t6,()))) fun _=>rfl)
def J2(p:CN):Option (Option CN):=
 bif wF (p.t9<(↑p.t6.length:Int))then if(0:Int)<=p.t9/\p.t9<(↑p.t6.length:Int)then if 131=131/\p.t9.toNat<p.t6.length then if(0:Int)<=p.t9/\p.t9<(↑p.t6.length:Int)then if 131=131/\p.t9.toNat<p.t6.length then bif wF (4096<i64.wrap (p.t8*i64.wrap (i64.wrap (p.t6[p.t9.toNat]!.af-p.t6[p.t9.toNat]!.aa)+1)))then O (wC)else O (O (CN.mk p.t6 (i64.wrap (p.t8*i64.wrap (i64.wrap (p.t6[p.t9.toNat]!.af-p.t6[p.t9.toNat]!.aa)+1))) (i64.wrap (p.t9+1))))else wC else wC else wC else wC else O (wC)
def Pr:CN->Option CN:=bw (J2)
structure C3 where
 t6:List aN
 t7:Int
def We:Td 0 C3:= .c [] [6,7] (.r 0 1 (ec 6 (qo 0) (ec 7 (qi .i64) en)) (sr 0 131 sn) (fun z=>⟨z.2.1,z.1.2.1⟩) (fun x=>(((),x.t7,()),(x.t6,()))) fun _=>rfl)
def OC(p:C3):Option (Option C3):=
 bif wF (p.t7<(↑p.t6.length:Int))then if(0:Int)<=p.t7/\p.t7<(↑p.t6.length:Int)then if 131=131/\p.t7.toNat<p.t6.length then if(0:Int)<=p.t7/\p.t7<(↑p.t6.length:Int)then if 131=131/\p.t7.toNat<p.t6.length then bif wF (p.t6[p.t7.toNat]!.af<p.t6[p.t7.toNat]!.aa)then O (wC)else if(0:Int)<=p.t7/\p.t7<(↑p.t6.length:Int)then if 131=131/\p.t7.toNat<p.t6.length then bif wF (p.t6[p.t7.toNat]!.aa< -1048576)then O (wC)else if(0:Int)<=p.t7/\p.t7<(↑p.t6.length:Int)then if 131=131/\p.t7.toNat<p.t6.length then bif wF (1048576<p.t6[p.t7.toNat]!.af)then O (wC)else O (O (C3.mk p.t6 (i64.wrap (p.t7+1))))else wC else wC else wC else wC else wC else wC else wC else wC else O (wC)
def OK:C3->Option C3:=bw (OC)
abbrev E89:Type:=Int×Int
def d89:Td 0 E89:= .c [] [4,5] (.r 0 0 (ec 4 (qi .i64) (ec 5 (qi .i64) en)) sn (fun z=>(z.1.1,z.1.2.1)) (fun x=>((x.1,x.2,()),(()))) fun _=>rfl)
theorem auK:∀f∈([]:List Nat),aV (F89) f:=aC
def m89(a0:List aN)(a1:Int):Option E89:=
 match bif bif wF (a1=0)then wD else wE then bif bif wF (a1=1)then wD else wE then bif bif wF (a1=2)then wD else wE then O (bif wF (a1=3)then wD else wE)else O (wD)else O (wD)else O (wD)with|wC=>wC|O r1=>bif r1 then O ((0,1))else match aas a0 a1 with|wC=>wC|O r2=>match OK (C3.mk r2 (0))with|wC=>wC|O r3=>bif wF (r3.t7<(↑r3.t6.length:Int))then if(0:Int)<=r3.t7/\r3.t7<(↑r3.t6.length:Int)then if 131=131/\r3.t7.toNat<r3.t6.length then if(0:Int)<=r3.t7/\r3.t7<(↑r3.t6.length:Int)then if 131=131/\r3.t7.toNat<r3.t6.length then bif wF (r3.t6[r3.t7.toNat]!.af<r3.t6[r3.t7.toNat]!.aa)then O ((0,3))else if(0:Int)<=r3.t7/\r3.t7<(↑r3.t6.length:Int)then if 131=131/\r3.t7.toNat<r3.t6.length then bif wF (r3.t6[r3.t7.toNat]!.aa< -1048576)then O ((0,3))else if(0:Int)<=r3.t7/\r3.t7<(↑r3.t6.length:Int)then if 131=131/\r3.t7.toNat<r3.t6.length then bif wF (1048576<r3.t6[r3.t7.toNat]!.af)then O ((0,3))else wC else wC else wC else wC else wC else wC else wC else wC else wC else match Pr (CN.mk r3.t6 (1) (0))with|wC=>wC|O r4=>bif wF (r4.t9<(↑r4.t6.length:Int))then if(0:Int)<=r4.t9/\r4.t9<(↑r4.t6.length:Int)then if 131=131/\r4.t9.toNat<r4.t6.length then if(0:Int)<=r4.t9/\r4.t9<(↑r4.t6.length:Int)then if 131=131/\r4.t9.toNat<r4.t6.length then bif wF (4096<i64.wrap (r4.t8*i64.wrap (i64.wrap (r4.t6[r4.t9.toNat]!.af-r4.t6[r4.t9.toNat]!.aa)+1)))then O ((0,4))else wC else wC else wC else wC else wC else O ((r4.t8,0))
def e89:aI->aI:=eL wG 89 wD (lc (ql 131) (lc (qi .i64) ln)) d89 (fun g=>m89 g.1 g.2.1)
theorem ail:EO e89:=fun h=>kL (F:=F89) (an:=(.two .no (.two (.two (.rb [] 23) .no) (.two .no (.two (.two .no (We.lp OK .no)) (.two .no (.two (.two .no (Th.lp Pr .no)) .no))))))) (l:=[(.skip,(.rb [] 23)),(aU f89 0,(We.lp OK .no)),(aU f89 1,(Th.lp Pr .no))]) func89 (ZD aK) (az auK (az (aO We) (az (aO Th) aC))) h
theorem Jj:EP e89:=fun h=>kP h
def F24:aI:=(e90 (e89 (e78 (e53 cQ))))
abbrev E24:Type:=Bool
def d24:Td 0 E24:= .c [] [8] (.r 0 0 (ec 8 qb en) sn (fun z=>z.1.1) (fun x=>((x,()),(()))) fun _=>rfl)
theorem aor:∀f∈([53,78]:List Nat),aV (F24) f:=(az (KE (Jj (jY (pG aZ)))) (az (KE (Jj (jY (pG aZ)))) aC))
def m24(a0:Flat)(a1:Int)(a2:Int)(a3:Int):Option E24:=
 match match m53 a0 (10) (80)with|wC=>wC|O r1=>bif bif r1 then wD else wE then O (wE)else match m78 a0 with|wC=>wC|O r2=>O (bif wF (r2=0)then wD else wE)with|wC=>wC|O r3=>bif r3 then O (wD)else match m89 a0.ag (1)with|wC=>wC|O r4=>match m89 a0.ag (2)with|wC=>wC|O r5=>match m89 a0.ag (3)with|wC=>wC|O r6=>match r90 a0.bk with|wC=>wC|O r7=>match bif wF (r4.fst<=a1)then bif wF (r5.fst<=a2)then bif wF (r6.fst<=a3)then O (wF (r7.fst<=400))else O (wD)else O (wD)else O (wD)with|wC=>wC|O r8=>O (r8)
def e24:aI->aI:=eL wG 24 wD (lc (qg 26) (lc (qi .i64) (lc (qi .i64) (lc (qi .i64) ln)))) d24 (fun g=>m24 g.1 g.2.1 g.2.2.1 g.2.2.2.1)
theorem ahZ:EO e24:=fun h=>kL (F:=F24) (an:=(.two .no (.two (.two (.rb [53,78] 25) .no) (.two .no (.two .no (.two .no (.two .no (.two (.rb [53,78] 8) .no)))))))) (l:=[(.skip,(.rb [53,78] 25)),(.skip,(.rb [53,78] 8))]) func24 (Ww (ail (MR (Wu aK)))) (az aor (az aor aC)) h
theorem CM:EP e24:=fun h=>kP h
structure awH where
 t0:List aN
 (t6 t7 t8:Int)
 t9:List Int
 t10:Bool
 t11:Int
 b0:kV
structure asc where
 t0:List Int
 (t1 t5:Int)
 t6:Bool
 t7:Int
structure av9 where
 t1:List Int
 t2:List GStep
 t9:Int
 b0:Flat
 (b1 b2:mS)
structure auJ where
 t1:List Int
 t9:Int
 b0:Flat
 b1:GStep
 (b2 b3:mS)
structure av1 where
 (t1 t5:List Int)
 t6:Int
 b0:Flat
structure BW where
 (t0 t1:List Int)
 t5:Int
def TC:Td 0 BW:= .c [] [0,1,5] (.r 0 0 (ec 0 (ql 3) (ec 1 (ql 3) (ec 5 (qi .i64) en))) sn (fun z=>⟨z.1.1,z.1.2.1,z.1.2.2.1⟩) (fun x=>((x.t0,x.t1,x.t5,()),(()))) fun _=>rfl)
def PT(p:BW):Option (Option BW):=
 bif wF (p.t5<(↑p.t0.length:Int))then if(0:Int)<=p.t5/\p.t5<(↑p.t0.length:Int)then if(0:Int)<=p.t5/\p.t5<(↑p.t1.length:Int)then bif bif wF (((p.t0,p.t1,p.t5,()),()).fst.fst[((p.t0,p.t1,p.t5,()),()).fst.snd.snd.fst.toNat]! =((p.t0,p.t1,p.t5,()),()).fst.snd.fst[((p.t0,p.t1,p.t5,()),()).fst.snd.snd.fst.toNat]!)then wD else wE then O (wC)else O (O (BW.mk p.t0 p.t1 (i64.wrap (p.t5+1))))else wC else wC else O (wC)
def Og:BW->Option BW:=bw (PT)
abbrev E98:Type:=Bool
def d98:Td 0 E98:= .c [] [4] (.r 0 0 (ec 4 qb en) sn (fun z=>z.1.1) (fun x=>((x,()),(()))) fun _=>rfl)
def m98(a0:List Int)(a1:List Int):Option E98:=
 bif bif wF ((↑a0.length:Int)=(↑a1.length:Int))then wD else wE then O (wD)else match Og (BW.mk a0 a1 (0))with|wC=>wC|O r1=>bif wF (r1.t5<(↑r1.t0.length:Int))then if(0:Int)<=r1.t5/\r1.t5<(↑r1.t0.length:Int)then if(0:Int)<=r1.t5/\r1.t5<(↑r1.t1.length:Int)then bif bif wF (((r1.t0,r1.t1,r1.t5,()),()).fst.fst[((r1.t0,r1.t1,r1.t5,()),()).fst.snd.snd.fst.toNat]! =((r1.t0,r1.t1,r1.t5,()),()).fst.snd.fst[((r1.t0,r1.t1,r1.t5,()),()).fst.snd.snd.fst.toNat]!)then wD else wE then O (wD)else wC else wC else wC else O (wE)
def e98:aI->aI:=eL wG 98 wD (lc (ql 3) (lc (ql 3) ln)) d98 (fun g=>m98 g.1 g.2.1)
theorem ake:EO e98:=fun h=>kL (an:=(.two .no (.two .no (.two (.two .no (TC.lp Og .no)) .no)))) (l:=[(aU f98 0,(TC.lp Og .no))]) func98 aK (az (aO TC) aC) h
theorem Uq:EP e98:=fun h=>kP h
def F31:aI:=(e98 cQ)
abbrev E31:Type:=Bool
def d31:Td 0 E31:= .c [] [4] (.r 0 0 (ec 4 qb en) sn (fun z=>z.1.1) (fun x=>((x,()),(()))) fun _=>rfl)
theorem atM:∀f∈([98]:List Nat),aV (F31) f:=(az (Uq aZ) aC)
def m31(a0:bg)(a1:bg):Option E31:=
 match bif wF (a0.aA=a1.aA)then match m98 a0.bG a1.bG with|wC=>wC|O r1=>O (r1)else O (wD)with|wC=>wC|O r2=>O (r2)
def e31:aI->aI:=eL wG 31 wD (lc (qg 47) (lc (qg 47) ln)) d31 (fun g=>m31 g.1 g.2.1)
theorem akH:EO e31:=fun h=>kL (F:=F31) (an:=(.two .no (.two (.rb [98] 4) .no))) (l:=[(.skip,(.rb [98] 4))]) func31 (ake aK) (az atM aC) h
theorem I0:EP e31:=fun h=>kP h
end Go.Proofs.YtnfljbehcffmcaaGreat
end
noncomputable section
namespace Go.Proofs.YtnfljbehcffmcaaGreat
open Go Go.Iv
def wR(b:Bool):Int:=if b=wE then 1 else 0
def aoT(a b:Int):Int:=if b=0 then 0 else if a.tmod b≠0/\wF (a<0)≠wF (b<0)then a.tdiv b-1 else a.tdiv b
def asU(a b:Int):Int:=if b=0 then 0 else a-b*aoT a b
def Kr(o a b:Int):Int:=
 if o=8 then a+b else if o=9 then a-b else if o=10 then a*b else if o=11 then aoT a b else if o=12 then asU a b
 else if o=13 then wR (wF (a=b))else if o=14 then wR (wF (a≠b))else if o=15 then wR (wF (a<b))else if o=16 then wR (wF (a<=b))
 else if o=17 then wR (wF (b<a))else if o=18 then wR (wF (b<=a))else if o=19 then wR (wF (a≠0/\b≠0))else if o=20 then wR (wF (a≠0\/b≠0))
 else if o=21 then(if a<b then a else b)else(if b<a then a else b)
def VIn(vars:List aN)(vals:List Int):Prop:=vals.length=vars.length/\∀i,i<vars.length->vars[i]!.aa<=vals[i]!/\vals[i]!<=vars[i]!.af
theorem EN{vars:List aN}{inp:Bool}{t:aq}(hf:cC vars inp t=wE):(0<=(bK t.aW).1/\(bK t.aW).1<=t.ak.length/\(t.ak.length:Int)<=(bK t.aW).2)/\(t.aW=24->0<=t.fN/\t.fN<vars.length):=by
 rw[j5]at hf
 have h:=(ze _ _▸hf).1
 unfold wP at h
 rw[ze,decide_eq_true_iff]at h
 refine⟨h.1,fun h24=> ?_⟩
 have h2:=h.2
 simp only[h24,Int.reduceEq,reduceIte,ze,decide_eq_true_eq]at h2
 exact h2.1
theorem Bh(o:Int)(h:0<=(bK o).1):((o=0\/o=24)/\bK o=(0,0))\/((o=6\/o=7)/\bK o=(1,1))\/((8<=o/\o<=22)/\bK o=(2,2))\/(o=23/\bK o=(3,3))\/(o=25/\bK o=(2,33)):=by
 unfold bK at h ⊢
 split
 ·exact .inl ⟨‹_›,rfl⟩
 rename_i h1
 rw[if_neg h1]at h
 split
 ·exact .inr (.inl ⟨‹_›,rfl⟩)
 rename_i h2
 rw[if_neg h2]at h
 split
 ·exact .inr (.inr (.inl ⟨‹_›,rfl⟩))
 rename_i h3
 rw[if_neg h3]at h
 split
 ·exact .inr (.inr (.inr (.inl ⟨‹_›,rfl⟩)))
 rename_i h4
 rw[if_neg h4]at h
 split
 ·exact .inr (.inr (.inr (.inr ⟨‹_›,rfl⟩)))
 ·rename_i h5
  rw[if_neg h5]at h
  simp at h
end Go.Proofs.YtnfljbehcffmcaaGreat
end
noncomputable section
namespace Go.Proofs.YtnfljbehcffmcaaGreat
open Go Go.Iv
open Go.IntKind (i64)
theorem DZ(M:Flat->List GStep->Bool->Option kD)(f:Flat)(l A B:List GStep)(top:Bool)(n i a b:Int)(ha:M f A wD=O a)(hb:M f B wD=O b):
  vJ M ⟨l,top,l,n,i,[A,B],2,0,f⟩=O ⟨l,top,l,n,i,[A,B],2,if a≠0 then 0 else if b≠0 then 1 else 2,f⟩:=by
 have w0:i64.wrap 1=1:=rfl
 have w1:i64.wrap 2=2:=rfl
 have r1:rD M ⟨l,top,l,n,i,[A,B],2,0,f⟩=if a≠0 then O wC else O (O ⟨l,top,l,n,i,[A,B],2,1,f⟩):=by
  unfold rD
  by_cases h:a=0<;>simp[ha,h,w0]
 have r2:rD M ⟨l,top,l,n,i,[A,B],2,1,f⟩=if b≠0 then O wC else O (O ⟨l,top,l,n,i,[A,B],2,2,f⟩):=by
  unfold rD
  by_cases h:b=0<;>simp[hb,h,w1]
 have r3:rD M ⟨l,top,l,n,i,[A,B],2,2,f⟩=O wC:=by
  unfold rD
  simp
 unfold vJ
 by_cases h1:a≠0
 ·rw[if_pos h1]at r1 ⊢
  exact bW fun r=>by rw[r1];simp
 ·rw[if_neg h1]at r1 ⊢
  rw[bF r1]
  by_cases h2:b≠0
  ·rw[if_pos h2]at r2 ⊢
   exact bW fun r=>by rw[r2];simp
  ·rw[if_neg h2]at r2 ⊢
   rw[bF r2]
   exact bW fun r=>by rw[r3];simp
theorem OE(n i:Nat)(hn:n<=1000000):wF ((i:Int)=i64.wrap ((n:Int)-1))=wF (i+1=n):=by
 rw[aF]
 apply decide_eq_decide.2
 omega
theorem Ui(M:Flat->List GStep->Bool->Option kD)(f:Flat)(hv:cJ f.ag)(l:List GStep)(hl:l.length<=1000000)(top:Bool)(hM:∀s∈l,M f s.aG wD=O (bI f wD s.aG)/\M f s.aJ wD=O (bI f wD s.aJ))(i:Nat)(hi:i<l.length):
  (Tc f top l.length i l[i]! =0->u7 M ⟨l,top,l,(l.length:Int),(i:Int),f⟩=O (O ⟨l,top,l,(l.length:Int),((i+1:Nat):Int),f⟩))/\(Tc f top l.length i l[i]!≠0->u7 M ⟨l,top,l,(l.length:Int),(i:Int),f⟩=O wC):=by
 have hw:=fq hi hl
 obtain⟨k1,k2⟩:=hM _ (aR hi)
 have hin:=DZ M f l l[i]!.aG l[i]!.aJ top (l.length:Int) (i:Int) _ _ k1 k2
 have hlen:(([l[i]!.aG,l[i]!.aJ]:List (List GStep)).length:Int)=2:=rfl
 have hi1:(i:Int)<(l.length:Int):=by omega
 have hi0:(0:Int)<=(i:Int):=by omega
 unfold u7 Tc nP
 dsimp only
 simp only[za,aq.eta,GStep.eta,Pg,OE l.length i hl,AP f.ag hv,hlen,hin,hw,hi1,hi0,decide_true,cond_true,and_self,if_true]
 have e1':(bif top then some (bif cK f l[i]! (wF (i+1=l.length))then false else true)else some (bif cK f l[i]! false then false else true))=some (bif cK f l[i]! (top&&wF (i+1=l.length))then false else true):=by cases top<;>rfl
 rw[e1']
 have hS:cK f l[i]! (top&&wF (i+1=l.length))=wE->Nf l[i]! =O (sI l[i]!):=fun h=>Q8 _ (hO h).1
 revert hS
 generalize cK f l[i]! (top&&wF (i+1=l.length))=S
 intro hS
 generalize l[i]!.aG=A at k1 hin ⊢
 generalize l[i]!.aJ=B at k2 hin ⊢
 cases S with
 |false=>simp
 |true=>
  rw[hS rfl]
  generalize sI l[i]! =N
  cases N with
  |false=>simp
  |true=>
   generalize di f.ag wD l[i]!.ay=T
   generalize bI f wD A=a at*
   generalize bI f wD B=b at*
   by_cases hT:T=0
   ·by_cases ha:a=0
    ·by_cases hb:b=0
     ·simp[hT,ha,hb,hw]
     ·simp[hT,ha,hb,k2]
    ·simp[hT,ha,k1]
   ·simp[hT]
theorem ac8(M:Flat->List GStep->Bool->Option kD)(f:Flat)(hv:cJ f.ag)(l:List GStep)(hl:l.length<=1000000)(top:Bool)(hM:∀s∈l,M f s.aG wD=O (bI f wD s.aG)/\M f s.aJ wD=O (bI f wD s.aJ)):abk M f l top=O (bI f top l):=by
 obtain⟨i,e1,hc⟩:=qZ (rnd:=u7 M) l (fun i=>⟨l,top,l,(l.length:Int),(i:Int),f⟩) (Tc f top l.length) (fun i hi=>Ui M f hv l hl top hM i hi) (by unfold u7;simp)
 have e1':GK M ⟨l,top,l,(l.length:Int),0,f⟩=O ⟨l,top,l,(l.length:Int),(i:Int),f⟩:=e1
 rw[oJ f top l.length l 0 (by omega)]at hc
 unfold abk
 rw[e1']
 dsimp only
 rcases hc with ⟨rfl,hc⟩|⟨hi,h0,hc⟩
 ·rw[hc]
  simp
 ·rw[hc]
  obtain⟨k1,k2⟩:=hM _ (aR hi)
  have hin:=DZ M f l l[i]!.aG l[i]!.aJ top (l.length:Int) (i:Int) _ _ k1 k2
  have hlen:(([l[i]!.aG,l[i]!.aJ]:List (List GStep)).length:Int)=2:=rfl
  have hi1:(i:Int)<(l.length:Int):=by omega
  have hi0:(0:Int)<=(i:Int):=by omega
  revert h0
  unfold Tc nP
  simp only[za,aq.eta,GStep.eta,Pg,OE l.length i hl,AP f.ag hv,hlen,hin,hi1,hi0,decide_true,cond_true,and_self,if_true]
  have e1':(bif top then some (bif cK f l[i]! (wF (i+1=l.length))then false else true)else some (bif cK f l[i]! false then false else true))=some (bif cK f l[i]! (top&&wF (i+1=l.length))then false else true):=by cases top<;>rfl
  rw[e1']
  have hS:cK f l[i]! (top&&wF (i+1=l.length))=wE->Nf l[i]! =O (sI l[i]!):=fun h=>Q8 _ (hO h).1
  revert hS
  generalize cK f l[i]! (top&&wF (i+1=l.length))=S
  intro hS
  generalize l[i]!.aG=A at k1 hin ⊢
  generalize l[i]!.aJ=B at k2 hin ⊢
  cases S with
  |false=>simp
  |true=>
   rw[hS rfl]
   generalize sI l[i]! =N
   cases N with
   |false=>simp
   |true=>
    generalize di f.ag wD l[i]!.ay=T
    generalize bI f wD A=a at*
    generalize bI f wD B=b at*
    by_cases hT:T=0
    ·by_cases ha:a=0
     ·by_cases hb:b=0
      ·simp[hT,ha,hb]
      ·simp[hT,ha,hb,k2]
     ·simp[hT,ha,k1]
    ·simp[hT]
theorem GV(f:Flat)(hv:cJ f.ag):∀(n:Nat) (l:List GStep) (top:Bool),SizeOf.sizeOf l<n->ew l<=1000->NH n f l top=O (bI f top l)
 |0,_,_,h,_=>by omega
 |n+1,l,top,h,h2=>ac8 (NH n) f hv l (by have:=iY l;omega) top (fun s hs=>⟨GV f hv n _ _ (by have:=aQ hs;omega) (by have:=fk hs;omega),GV f hv n _ _ (by have:=aQ hs;omega) (by have:=fk hs;omega)⟩)
theorem aa6(f:Flat)(hv:cJ f.ag)(l:List GStep)(top:Bool)(h:ew l<=1000):YQ f l top=O (bI f top l):=dy (SizeOf.sizeOf l+1) fun n hn=>GV f hv n l top (by omega) h
theorem N6{f:Flat}{s:GStep}{last:Bool}(h:cK f s last=wE)(c:Int)(hc:c=if s.bH=2 then 67108864 else 10000):
  ((bif wF (s.aL<0)then O wE else bif wF (c<s.aL)then O wE else bif wF (s.fN<0)then O wE else bif wF (s.bH=4)then O (wF (4096<s.fN))else O wD):Option Bool)=O (!(wF (0<=s.aL/\s.aL<=c)&&(if s.bH=4 then wF (0<=s.fN/\s.fN<=4096)else wE))):=by
 obtain⟨b1,b2,b3,b4,b5⟩:=hO h
 have hd:∀(p:Prop) [Decidable p],(!decide p)=wF (¬p):=fun p _=>by by_cases hp:p<;>simp[hp]
 by_cases h1:s.aL<0
 ·simp[h1,show ¬0<=s.aL by omega]
 by_cases h2:c<s.aL
 ·simp[h1,h2,show ¬s.aL<=c by omega]
 by_cases h3:s.fN<0
 ·have h4:s.bH=4:=by
   by_cases h4:s.bH=4
   ·exact h4
   ·have:=b5 h4;omega
  simp[h1,h2,h3,h4,show ¬0<=s.fN by omega]
 by_cases h4:s.bH=4
 ·simp[h1,h2,h3,h4,show 0<=s.aL by omega,show s.aL<=c by omega,show 0<=s.fN by omega]
  by_cases h5:4096<s.fN
  ·simp[h5]
  ·simp[h5];omega
 ·simp[h1,h2,h3,h4,show 0<=s.aL by omega,show s.aL<=c by omega]
theorem PS{f:Flat}{s:GStep}{last:Bool}(h:cK f s last=wE):
  ((bif wF (0<(s.aH.length:Int))then if(0:Int)<=i64.wrap ((s.aH.length:Int)-(1:Int))/\i64.wrap ((s.aH.length:Int)-(1:Int))<(s.aH.length:Int)then O (wF (67108864<s.aH[(i64.wrap ((s.aH.length:Int)-1)).toNat]!))else wC else O wD):Option Bool)=O (!(if s.bH=6 then wF (s.aH[s.aH.length-1]!<=67108864)else wE)):=by
 obtain⟨b1,b2,b3,b4,b5⟩:=hO h
 by_cases h6:s.bH=6
 ·obtain⟨b1,b2⟩:=b1 h6
  have hw:i64.wrap ((s.aH.length:Int)-1)=(s.aH.length:Int)-1:=aF
  have hw2:((s.aH.length:Int)-1).toNat=s.aH.length-1:=by omega
  rw[hw,hw2,qz,cond_true,if_pos ⟨by omega,by omega⟩,if_pos h6]
  generalize s.aH[s.aH.length-1]! =B
  by_cases h:67108864<B
  ·simp[h]
  ·simp[h];omega
 ·rw[decide_eq_false (by have:=b2 h6;omega),if_neg h6]
  rfl
end Go.Proofs.YtnfljbehcffmcaaGreat
end
