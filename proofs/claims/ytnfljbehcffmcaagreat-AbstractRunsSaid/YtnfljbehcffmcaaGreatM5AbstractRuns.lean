/- Merged: Gb, Pv1, Pv3, Pv1b, Pv2, Pv2b, Pv4, So, Hs, Ne9, Hr, Ne10, Ne30, Ha, Qv, Qw, Pv5. -/
import Derived.Test.YtnfljbehcffmcaaGreatM2AbstractRuns
import Derived.Test.YtnfljbehcffmcaaGreatM3AbstractRuns
import Derived.Test.YtnfljbehcffmcaaGreatM4AbstractRuns
import Derived.Shelf.Sort.Plain
import Derived.Shelf.Slices.In.SortNone
import Derived.Sort.OwnSortedInts
set_option linter.unusedSectionVars false
set_option linter.unusedVariables false
set_option linter.unusedSimpArgs false
noncomputable section
set_option maxRecDepth 100000
namespace Go.Proofs.YtnfljbehcffmcaaGreat
open Go Go.Iv
open Go.IntKind (i64)
def Xp:aI:=cL
theorem VU:aZ Tryz.prog Xp:=aK
abbrev ad3:Type:=Bool×aM
def d208:Td 1 ad3:= .c [] [2] (.r 1 1 (ec 2 qb en) (sb 0 256 (lg 256) sn) (fun z=>(z.1.1,z.2.1)) (fun x=>((x.1,()),(x.2,()))) fun _=>rfl)
def ajz:=(lc (qp 0 0) ln)
def ajw:=(sb 0 256 (lg 256) sn)
def abB:An:=(.two .no (.two (.rb [] 2) .no))
theorem ah7:∀f∈([]:List Nat),aV (Xp) f:=aC
theorem akT:eC Tryz.prog (Xp) 1 300 208 (abB):=bT (l:=[(.skip,(.rb [] 2))]) Tryz.func208 (bA (by kernel_rfl)) (by kernel_rfl) (ax ah7 aC)
def gW(b0:aM):ad3:=
 let r1:Bool:=bif b0.dR then true else decide (1024<b0.aX);(r1,b0)
theorem ap5(b0:aM):bK Tryz.prog (Xp) 300 (abB) 208 (ajz.c ((),())) (ajw.d (b0,())) 1 d208.rd=some (gW b0):=by
 refine Eq.trans (b:=(
  match bif b0.dR then some (true)else some (decide (1024<b0.aX))with|none=>none|some r1=>some ((r1,b0)):Option ad3)) (by kernel_rfl) ?_
 simp only[gW,bX,cn]
def U9:aI->aI:=eY Tryz.prog 208 1 ajz ajw d208 (fun g=>some (gW g.2.1))
theorem Ba{F:aI}(h:aZ Tryz.prog F):aZ Tryz.prog (U9 F):=FY (L3 VU akT (fun _=>by kernel_rfl) (fun _=>by kernel_rfl) (fun _=>by kernel_rfl) fun g=>ap5 g.2.1) ⟨_,Tryz.func208,by kernel_rfl,by kernel_rfl⟩ (fun _=>by kernel_rfl) h
abbrev pS:Type:=aM
def d209:Td 1 pS:= .c [] [] (.r 1 1 en (sb 0 256 (lg 256) sn) (fun z=>z.2.1) (fun x=>((()),(x,()))) fun _=>rfl)
def agx:=(lc (qp 0 0) (lc (qg 137) (lc (qi .i64) ln)))
def afs:=(sb 0 256 (lg 256) sn)
def acS(M:aq->Int->aM->Option pS):aI->aI:=eY Tryz.prog 209 1 agx afs d209 (fun g=>M g.1.2.1 g.1.2.2.1 g.2.1)
def XN(M:aq->Int->aM->Option pS):Prop:=HY Tryz.prog 209 1 agx afs d209 (fun g=>M g.1.2.1 g.1.2.2.1 g.2.1)
theorem Lg{M:aq->Int->aM->Option pS}(hM:XN M){F:aI}(h:aZ Tryz.prog F):aZ Tryz.prog (acS M F):=FY hM ⟨_,Tryz.func209,by kernel_rfl,by kernel_rfl⟩ (fun _=>by kernel_rfl) h
def aha(M209:aq->Int->aM->Option pS):aI:=(acS M209 (U9 cL))
theorem Ug{M209}(h209:XN M209):aZ Tryz.prog (aha M209):=(Lg h209 (Ba aK))
structure n8 where
 t2:Int
 t29:List aq
 (t30 t31:Int)
 b0:aM
def Ip:Td 1 n8:= .c [] [0,2,29,30,31] (.r 1 1 (ec 0 (qp 0 0) (ec 2 (qi .i64) (ec 29 (ql 137) (ec 30 (qi .i64) (ec 31 (qi .i64) en))))) (sb 0 256 (lg 256) sn) (fun z=>⟨z.1.2.1,z.1.2.2.1,z.1.2.2.2.1,z.1.2.2.2.2.1,z.2.1⟩) (fun x=>(((),x.t2,x.t29,x.t30,x.t31,()),(x.b0,()))) fun _=>rfl)
def DG(M209:aq->Int->aM->Option pS)(p:n8):Option (Option n8):=
 bif decide (p.t31<p.t30)then if(0:Int)<=p.t31/\p.t31<(↑p.t29.length:Int)then match M209 (aq.mk p.t29[p.t31.toNat]!.aW p.t29[p.t31.toNat]!.fN p.t29[p.t31.toNat]!.aj) (i64.wrap (p.t2+1)) p.b0 with|none=>none|some r1=>some (some (n8.mk p.t2 p.t29 p.t30 (i64.wrap (p.t31+1)) r1))else none else some (none)
def yC(M209:aq->Int->aM->Option pS):n8->Option n8:=bt (DG M209)
def abr(M209:aq->Int->aM->Option pS):An:=(.two .no (.two .no (.two .no (.two .no (.two .no (Ip.lp (yC M209) .no))))))
theorem al2(M209:aq->Int->aM->Option pS):eC Tryz.prog (aha M209) 1 300 209 (abr M209):=bT (l:=[(aS Tryz.f209 0,(Ip.lp (yC M209) .no))]) Tryz.func209 (bA (by kernel_rfl)) (by kernel_rfl) (ax (aO Ip) aC)
def Uz(M209:aq->Int->aM->Option pS)(a1:aq)(a2:Int)(b0:aM):Option pS:=
 bif b0.dR then bif(gW (aM.mk (i64.wrap (b0.aX+1)) true)).fst then some ((gW (aM.mk (i64.wrap (b0.aX+1)) true)).snd)else match yC M209 (n8.mk a2 a1.aj (↑a1.aj.length:Int) (0) (gW (aM.mk (i64.wrap (b0.aX+1)) true)).snd)with|none=>none|some r2=>bif decide (r2.t31<r2.t30)then if(0:Int)<=r2.t31/\r2.t31<(↑r2.t29.length:Int)then match M209 (aq.mk r2.t29[r2.t31.toNat]!.aW r2.t29[r2.t31.toNat]!.fN r2.t29[r2.t31.toNat]!.aj) (i64.wrap (r2.t2+1)) r2.b0 with|none=>none|some r3=>none else none else some (r2.b0)else bif(gW (aM.mk (i64.wrap (b0.aX+1)) (decide (12<a2)))).fst then some ((gW (aM.mk (i64.wrap (b0.aX+1)) (decide (12<a2)))).snd)else match yC M209 (n8.mk a2 a1.aj (↑a1.aj.length:Int) (0) (gW (aM.mk (i64.wrap (b0.aX+1)) (decide (12<a2)))).snd)with|none=>none|some r4=>bif decide (r4.t31<r4.t30)then if(0:Int)<=r4.t31/\r4.t31<(↑r4.t29.length:Int)then match M209 (aq.mk r4.t29[r4.t31.toNat]!.aW r4.t29[r4.t31.toNat]!.fN r4.t29[r4.t31.toNat]!.aj) (i64.wrap (r4.t2+1)) r4.b0 with|none=>none|some r5=>none else none else some (r4.b0)
theorem apj(M209:aq->Int->aM->Option pS)(a1:aq)(a2:Int)(b0:aM):bK Tryz.prog (aha M209) 300 (abr M209) 209 (agx.c ((),a1,a2,())) (afs.d (b0,())) 1 d209.rd=Uz M209 a1 a2 b0:=by kernel_rfl
def acr:Nat->(aq->Int->aM->Option pS)
 |0=>(fun _ _ _=>none)
 |n+1=>(Uz (acr n))
def IJ(n:Nat):aq->Int->aM->Option pS:=(acr n)
theorem Fv:∀n,XN (IJ n)
 |0=>fun _ _ h=>(by cases h)
 |n+1=>by
  have ih:=Fv n
  have i209:=ih
  exact(L3 (Ug i209) (al2 (IJ n)) (fun _=>by kernel_rfl) (fun _=>by kernel_rfl) (fun _=>by kernel_rfl) fun g=>apj (IJ n) g.1.2.1 g.1.2.2.1 g.2.1)
def zN:aq->Int->aM->Option pS:=fun a1 a2 b0=>lim (fun n=>IJ n a1 a2 b0)
theorem Xf:XN zN:=fun g b h=>by
 obtain⟨n,hn⟩:=cz (show lim (fun n=>IJ n g.1.2.1 g.1.2.2.1 g.2.1)=some b from h)
 exact(Fv n) g b hn
def aeZ(F:aI):aI:=acS zN F
theorem Mx{F:aI}(h:aZ Tryz.prog F):aZ Tryz.prog (aeZ F):=Lg Xf h
abbrev pZ:Type:=aM
def d207:Td 1 pZ:= .c [] [] (.r 1 1 en (sb 0 256 (lg 256) sn) (fun z=>z.2.1) (fun x=>((()),(x,()))) fun _=>rfl)
def aed:=(lc (qp 0 0) (lc (ql 166) (lc (qi .i64) ln)))
def aeJ:=(sb 0 256 (lg 256) sn)
def ael(M:(List GStep)->Int->aM->Option pZ):aI->aI:=eY Tryz.prog 207 1 aed aeJ d207 (fun g=>M g.1.2.1 g.1.2.2.1 g.2.1)
def TO(M:(List GStep)->Int->aM->Option pZ):Prop:=HY Tryz.prog 207 1 aed aeJ d207 (fun g=>M g.1.2.1 g.1.2.2.1 g.2.1)
theorem Ks{M:(List GStep)->Int->aM->Option pZ}(hM:TO M){F:aI}(h:aZ Tryz.prog F):aZ Tryz.prog (ael M F):=FY hM ⟨_,Tryz.func207,by kernel_rfl,by kernel_rfl⟩ (fun _=>by kernel_rfl) h
def aeS(M207:(List GStep)->Int->aM->Option pZ):aI:=(aeZ (U9 (ael M207 cL)))
theorem Xa{M207}(h207:TO M207):aZ Tryz.prog (aeS M207):=(Mx (Ba (Ks h207 aK)))
structure oo where
 t2:Int
 t8:List GStep
 (t9 t10:Int)
 b0:aM
def IP:Td 1 oo:= .c [] [0,2,8,9,10] (.r 1 1 (ec 0 (qp 0 0) (ec 2 (qi .i64) (ec 8 (ql 166) (ec 9 (qi .i64) (ec 10 (qi .i64) en))))) (sb 0 256 (lg 256) sn) (fun z=>⟨z.1.2.1,z.1.2.2.1,z.1.2.2.2.1,z.1.2.2.2.2.1,z.2.1⟩) (fun x=>(((),x.t2,x.t8,x.t9,x.t10,()),(x.b0,()))) fun _=>rfl)
def yV(M207:(List GStep)->Int->aM->Option pZ)(p:oo):Option (Option oo):=
 bif decide (p.t10<p.t9)then if(0:Int)<=p.t10/\p.t10<(↑p.t8.length:Int)then bif p.b0.dR then bif(gW (aM.mk (i64.wrap (p.b0.aX+1)) true)).fst then some (none)else match zN (aq.mk p.t8[p.t10.toNat]!.au.aW p.t8[p.t10.toNat]!.au.fN p.t8[p.t10.toNat]!.au.aj) (1) (gW (aM.mk (i64.wrap (p.b0.aX+1)) true)).snd with|none=>none|some r1=>match M207 p.t8[p.t10.toNat]!.aH (i64.wrap (p.t2+1)) r1 with|none=>none|some r2=>match M207 p.t8[p.t10.toNat]!.aJ (i64.wrap (p.t2+1)) r2 with|none=>none|some r3=>some (some (oo.mk p.t2 p.t8 p.t9 (i64.wrap (p.t10+1)) r3))else bif(gW (aM.mk (i64.wrap (p.b0.aX+1)) (decide (12<(((),p.t2,p.t8,p.t9,p.t10,()),p.b0,()).fst.snd.fst)))).fst then some (none)else match zN (aq.mk p.t8[p.t10.toNat]!.au.aW p.t8[p.t10.toNat]!.au.fN p.t8[p.t10.toNat]!.au.aj) (1) (gW (aM.mk (i64.wrap (p.b0.aX+1)) (decide (12<(((),p.t2,p.t8,p.t9,p.t10,()),p.b0,()).fst.snd.fst)))).snd with|none=>none|some r4=>match M207 p.t8[p.t10.toNat]!.aH (i64.wrap (p.t2+1)) r4 with|none=>none|some r5=>match M207 p.t8[p.t10.toNat]!.aJ (i64.wrap (p.t2+1)) r5 with|none=>none|some r6=>some (some (oo.mk p.t2 p.t8 p.t9 (i64.wrap (p.t10+1)) r6))else none else some (none)
def De(M207:(List GStep)->Int->aM->Option pZ):oo->Option oo:=bt (yV M207)
def abf(M207:(List GStep)->Int->aM->Option pZ):An:=(.two .no (IP.lp (De M207) .no))
theorem al5(M207:(List GStep)->Int->aM->Option pZ):eC Tryz.prog (aeS M207) 1 300 207 (abf M207):=bT (l:=[(aS Tryz.f207 0,(IP.lp (De M207) .no))]) Tryz.func207 (bA (by kernel_rfl)) (by kernel_rfl) (ax (aO IP) aC)
def Xi(M207:(List GStep)->Int->aM->Option pZ)(a1:List GStep)(a2:Int)(b0:aM):Option pZ:=
 match De M207 (oo.mk a2 a1 (↑a1.length:Int) (0) b0)with|none=>none|some r7=>bif decide (r7.t10<r7.t9)then if(0:Int)<=r7.t10/\r7.t10<(↑r7.t8.length:Int)then bif r7.b0.dR then bif(gW (aM.mk (i64.wrap (r7.b0.aX+1)) true)).fst then some ((gW (aM.mk (i64.wrap (r7.b0.aX+1)) true)).snd)else match zN (aq.mk r7.t8[r7.t10.toNat]!.au.aW r7.t8[r7.t10.toNat]!.au.fN r7.t8[r7.t10.toNat]!.au.aj) (1) (gW (aM.mk (i64.wrap (r7.b0.aX+1)) true)).snd with|none=>none|some r8=>match M207 r7.t8[r7.t10.toNat]!.aH (i64.wrap (r7.t2+1)) r8 with|none=>none|some r9=>match M207 r7.t8[r7.t10.toNat]!.aJ (i64.wrap (r7.t2+1)) r9 with|none=>none|some r10=>none else bif(gW (aM.mk (i64.wrap (r7.b0.aX+1)) (decide (12<(((),r7.t2,r7.t8,r7.t9,r7.t10,()),r7.b0,()).fst.snd.fst)))).fst then some ((gW (aM.mk (i64.wrap (r7.b0.aX+1)) (decide (12<(((),r7.t2,r7.t8,r7.t9,r7.t10,()),r7.b0,()).fst.snd.fst)))).snd)else match zN (aq.mk r7.t8[r7.t10.toNat]!.au.aW r7.t8[r7.t10.toNat]!.au.fN r7.t8[r7.t10.toNat]!.au.aj) (1) (gW (aM.mk (i64.wrap (r7.b0.aX+1)) (decide (12<(((),r7.t2,r7.t8,r7.t9,r7.t10,()),r7.b0,()).fst.snd.fst)))).snd with|none=>none|some r11=>match M207 r7.t8[r7.t10.toNat]!.aH (i64.wrap (r7.t2+1)) r11 with|none=>none|some r12=>match M207 r7.t8[r7.t10.toNat]!.aJ (i64.wrap (r7.t2+1)) r12 with|none=>none|some r13=>none else none else some (r7.b0)
theorem ap1(M207:(List GStep)->Int->aM->Option pZ)(a1:List GStep)(a2:Int)(b0:aM):bK Tryz.prog (aeS M207) 300 (abf M207) 207 (aed.c ((),a1,a2,())) (aeJ.d (b0,())) 1 d207.rd=Xi M207 a1 a2 b0:=by kernel_rfl
def acG:Nat->((List GStep)->Int->aM->Option pZ)
 |0=>(fun _ _ _=>none)
 |n+1=>(Xi (acG n))
def IS(n:Nat):(List GStep)->Int->aM->Option pZ:=(acG n)
theorem Ew:∀n,TO (IS n)
 |0=>fun _ _ h=>(by cases h)
 |n+1=>by
  have ih:=Ew n
  have i207:=ih
  exact(L3 (Xa i207) (al5 (IS n)) (fun _=>by kernel_rfl) (fun _=>by kernel_rfl) (fun _=>by kernel_rfl) fun g=>ap1 (IS n) g.1.2.1 g.1.2.2.1 g.2.1)
def Qd:(List GStep)->Int->aM->Option pZ:=fun a1 a2 b0=>lim (fun n=>IS n a1 a2 b0)
theorem VB:TO Qd:=fun g b h=>by
 obtain⟨n,hn⟩:=cz (show lim (fun n=>IS n g.1.2.1 g.1.2.2.1 g.2.1)=some b from h)
 exact(Ew n) g b hn
def aj3(F:aI):aI:=ael Qd F
theorem XH{F:aI}(h:aZ Tryz.prog F):aZ Tryz.prog (aj3 F):=Ks VB h
abbrev ajA:Type:=Bool
def d260:Td 0 ajA:= .c [] [3] (.r 0 0 (ec 3 qb en) sn (fun z=>z.1.1) (fun x=>((x,()),(()))) fun _=>rfl)
def R6(a0:aN)(c0:aN):ajA:=
 a0.fName.toList==c0.fName.toList
def aoV:aI->aI:=eL Tryz.prog 260 false (lc (qg 131) (lc (qr (lg 131)) ln)) d260 (fun g=>some (R6 g.1 g.2.1))
theorem KA:EO aoV:=fun h=>kL (an:= .no) Tryz.func260 aK aC h
def alb:aI:=cL
structure qR where
 t0:ByteArray
 (t14 t15:Int)
def Jy:Td 0 qR:= .c [] [0,14,15] (.r 0 0 (ec 0 qs (ec 14 (qi .i64) (ec 15 (qi .i64) en))) sn (fun z=>⟨z.1.1,z.1.2.1,z.1.2.2.1⟩) (fun x=>((x.t0,x.t14,x.t15,()),(()))) fun _=>rfl)
def Bh(p:qR):Option (Option qR):=
 bif decide (p.t15<p.t14)then if(0:Int)<=p.t15/\p.t15<(↑p.t0.size:Int)then match bif decide (97<=bM p.t0 p.t15.toNat)then some (decide (bM p.t0 p.t15.toNat<=122))else some (false)with|none=>none|some r1=>match bif bif r1 then false else true then bif decide (p.t15=0)then some (true)else bif decide (bM p.t0 p.t15.toNat<48)then bif bif decide (bM p.t0 p.t15.toNat=46)then false else true then some (bif decide (bM p.t0 p.t15.toNat=95)then false else true)else some (false)else bif decide (57<bM p.t0 p.t15.toNat)then bif bif decide (bM p.t0 p.t15.toNat=46)then false else true then some (bif decide (bM p.t0 p.t15.toNat=95)then false else true)else some (false)else some (false)else some (false)with|none=>none|some r2=>bif r2 then some (none)else some (some (qR.mk p.t0 p.t14 (i64.wrap (p.t15+1))))else none else some (none)
def QU:An:=(.two .no (.two .no (.two (.two .no (.two .no (.two (.rb [] 5) (.two (.rb [] 48) .no)))) .no)))
def Bz:qR->Option qR:=bt (Bh)
abbrev amn:Type:=Bool
def d261:Td 0 amn:= .c [] [2] (.r 0 0 (ec 2 qb en) sn (fun z=>z.1.1) (fun x=>((x,()),(()))) fun _=>rfl)
theorem Q6:∀f∈([]:List Nat),aV (alb) f:=aC
def Jh(a0:ByteArray):Option amn:=
 match bif a0.toList==(ByteArray.mk (Array.mk [])).toList then some (true)else some (decide (40<(↑a0.size:Int)))with|none=>none|some r3=>bif r3 then some (false)else match Bz (qR.mk a0 (↑a0.size:Int) (0))with|none=>none|some r4=>bif decide (r4.t15<r4.t14)then if(0:Int)<=r4.t15/\r4.t15<(↑r4.t0.size:Int)then match bif decide (97<=bM r4.t0 r4.t15.toNat)then some (decide (bM r4.t0 r4.t15.toNat<=122))else some (false)with|none=>none|some r5=>match bif bif r5 then false else true then bif decide (r4.t15=0)then some (true)else bif decide (bM r4.t0 r4.t15.toNat<48)then bif bif decide (bM r4.t0 r4.t15.toNat=46)then false else true then some (bif decide (bM r4.t0 r4.t15.toNat=95)then false else true)else some (false)else bif decide (57<bM r4.t0 r4.t15.toNat)then bif bif decide (bM r4.t0 r4.t15.toNat=46)then false else true then some (bif decide (bM r4.t0 r4.t15.toNat=95)then false else true)else some (false)else some (false)else some (false)with|none=>none|some r6=>bif r6 then some (false)else none else none else some (true)
def akZ:aI->aI:=eL Tryz.prog 261 false (lc qs ln) d261 (fun g=>Jh g.1)
theorem KS:EO akZ:=fun h=>kL (F:=alb) (an:=(.two .no (.two (.two (.rb [] 12) .no) (.two (.two .no (Jy.lp Bz QU)) .no)))) (l:=[(.skip,(.rb [] 12)),(aS Tryz.f261 0,(Jy.lp Bz QU)),(.skip,(.rb [] 5)),(.skip,(.rb [] 48))]) Tryz.func261 aK (ax Q6 (ax (aO Jy) (ax Q6 (ax Q6 aC)))) h
structure rz where
 t0:List aN
 l8:ByteArray
 (mH mB mb mI t7 t8:Int)
def Jx:Td 0 rz:= .c [] [0,1,7,8] (.r 0 0 (ec 0 (ql 131) (ec 1 (qf 260 (lc (qr (lc qs (lc (qi .i64) (lc (qi .i64) (lc (qi .i64) (lc (qi .i64) ln)))))) ln)) (ec 7 (qi .i64) (ec 8 (qi .i64) en)))) sn (fun z=>⟨z.1.1,z.1.2.1.1.1,z.1.2.1.1.2.1,z.1.2.1.1.2.2.1,z.1.2.1.1.2.2.2.1,z.1.2.1.1.2.2.2.2.1,z.1.2.2.1,z.1.2.2.2.1⟩) (fun x=>((x.t0,((x.l8,x.mH,x.mB,x.mb,x.mI,()),()),x.t7,x.t8,()),(()))) fun _=>rfl)
def BL(p:rz):Option (Option rz):=
 bif decide (p.t8<p.t7)then if(0:Int)<=p.t8/\p.t8<(↑p.t0.length:Int)then bif R6 p.t0[p.t8.toNat]! (aN.mk p.l8 p.mH p.mB p.mb p.mI)then some (none)else some (some (rz.mk p.t0 p.l8 p.mH p.mB p.mb p.mI p.t7 (i64.wrap (p.t8+1))))else none else some (none)
def CX:rz->Option rz:=bt (BL)
abbrev akE:Type:=Int
def d303:Td 0 akE:= .c [] [4] (.r 0 0 (ec 4 (qi .i64) en) sn (fun z=>z.1.1) (fun x=>((x,()),(()))) fun _=>rfl)
def acL(a0:List aN)(a1_0:aN):Option akE:=
 match CX (rz.mk a0 a1_0.fName a1_0.bf a1_0.aa a1_0.af a1_0.cW (↑a0.length:Int) (0))with|none=>none|some r1=>bif decide (r1.t8<r1.t7)then if(0:Int)<=r1.t8/\r1.t8<(↑r1.t0.length:Int)then bif R6 r1.t0[r1.t8.toNat]! (aN.mk r1.l8 r1.mH r1.mB r1.mb r1.mI)then some (r1.t8)else none else none else some (-1)
def anX:aI->aI:=eL Tryz.prog 303 true (lc (ql 131) (lc (qf 260 (lc (qr (lg 131)) ln)) ln)) d303 (fun g=>acL g.1 g.2.1.1)
theorem TX:EO anX:=fun h=>kL (an:=(.two .no (.two (.two .no (Jx.lp CX .no)) .no))) (l:=[(aS Tryz.f303 0,(Jx.lp CX .no))]) Tryz.func303 (KA aK) (ax (aO Jx) aC) h
abbrev amE:Type:=Bool
def d262:Td 0 amE:= .c [] [4] (.r 0 0 (ec 4 qb en) sn (fun z=>z.1.1) (fun x=>((x,()),(()))) fun _=>rfl)
def S5(a0:List aN)(a1_0:aN):Option amE:=
 match acL a0 a1_0 with|none=>none|some r1=>some (decide (0<=r1))
def alH:aI->aI:=eL Tryz.prog 262 true (lc (ql 131) (lc (qf 260 (lc (qr (lg 131)) ln)) ln)) d262 (fun g=>S5 g.1 g.2.1.1)
theorem Wi:EO alH:=fun h=>kL (an:= .no) Tryz.func262 (TX (KA aK)) aC h
def afE:aI:=cL
abbrev afX:Type:=Bool
def d263:Td 0 afX:= .c [] [4] (.r 0 0 (ec 4 qb en) sn (fun z=>z.1.1) (fun x=>((x,()),(()))) fun _=>rfl)
def ajc:=(lc (qi .i64) (lc (qi .i64) ln))
def aaB:An:=(.two .no (.two (.rb [] 4) .no))
theorem ahW:∀f∈([]:List Nat),aV (afE) f:=aC
def A8(a0:Int)(a1:Int):afX:=
 let r1:Bool:=bif decide (a0<=a1)then bif decide (-1048576<=a0)then decide (a1<=1048576)else false else false;r1
theorem aog(a0:Int)(a1:Int):bK Tryz.prog (afE) 300 (aaB) 263 (ajc.c (a0,a1,())) [] 0 d263.rd=some (A8 a0 a1):=by
 refine Eq.trans (b:=(
  match bif decide (a0<=a1)then bif decide (-1048576<=a0)then some (decide (a1<=1048576))else some (false)else some (false)with|none=>none|some r1=>some (r1):Option afX)) (by kernel_rfl) ?_
 simp only[A8,bX,cn]
def ajt:aI->aI:=eL Tryz.prog 263 false ajc d263 (fun g=>some (A8 g.1 g.2.1))
theorem K0:EO ajt:=fun h=>kL (F:=afE) (an:=aaB) (l:=[(.skip,(.rb [] 4))]) Tryz.func263 aK (ax ahW aC) h (c:=fun g=>aog g.1 g.2.1)
abbrev alu:Type:=Int
def d337:Td 0 alu:= .c [] [2] (.r 0 0 (ec 2 (qi .i64) en) sn (fun z=>z.1.1) (fun x=>((x,()),(()))) fun _=>rfl)
def zP(a0:aN):alu:=
 i64.wrap (i64.wrap (a0.af-a0.aa)+1)
def alq:aI->aI:=eL Tryz.prog 337 false (lc (qg 131) ln) d337 (fun g=>some (zP g.1))
theorem V5:EO alq:=fun h=>kL (an:= .no) Tryz.func337 aK aC h
def akN:aI:=(alq cL)
structure kD where
 t7:List aN
 t10:Int
 t49:List aN
 (t50 t51:Int)
def JG:Td 0 kD:= .c [] [7,10,49,50,51] (.r 0 1 (ec 7 (qo 0) (ec 10 (qi .i64) (ec 49 (qo 0) (ec 50 (qi .i64) (ec 51 (qi .i64) en))))) (sr 0 131 sn) (fun z=>⟨z.2.1,z.1.2.1,z.2.1,z.1.2.2.2.1,z.1.2.2.2.2.1⟩) (fun x=>(((),x.t10,(),x.t50,x.t51,()),(x.t49,()))) fun _=>rfl)
def Dt(p:kD):Option (Option kD):=
 bif decide (p.t51<p.t50)then if(0:Int)<=p.t51/\p.t51<(↑p.t49.length:Int)then if 131=131/\p.t51.toNat<p.t49.length then bif decide (4096<i64.wrap (p.t10*zP p.t49[p.t51.toNat]!))then some (none)else some (some (kD.mk p.t49 (i64.wrap (p.t10*zP p.t49[p.t51.toNat]!)) p.t49 p.t50 (i64.wrap (p.t51+1))))else none else none else some (none)
def ri:kD->Option kD:=bt (Dt)
structure jS where
 t1:Int
 (t7 t19:List aN)
 (t20 t21:Int)
def G2:Td 0 jS:= .c [] [1,7,19,20,21] (.t (cl.s 7 [] 131) (.c [] [1,7,19,20,21] (.r 0 1 (ec 1 (qi .i64) (ec 7 (qo 0) (ec 19 (ql 131) (ec 20 (qi .i64) (ec 21 (qi .i64) en))))) (sr 0 131 sn) (fun z=>⟨z.1.1,z.2.1,z.1.2.2.1,z.1.2.2.2.1,z.1.2.2.2.2.1⟩) (fun x=>((x.t1,(),x.t19,x.t20,x.t21,()),(x.t7,()))) fun _=>rfl)))
def yq(p:jS):Option (Option jS):=
 bif decide (p.t21<p.t20)then if(0:Int)<=p.t21/\p.t21<(↑p.t19.length:Int)then bif bif decide (p.t19[p.t21.toNat]!.bf=p.t1)then false else true then some (some (jS.mk p.t1 p.t7 p.t19 p.t20 (i64.wrap (p.t21+1))))else match bif decide (p.t19[p.t21.toNat]!.af<p.t19[p.t21.toNat]!.aa)then some (true)else bif decide (p.t19[p.t21.toNat]!.aa< -1048576)then some (true)else some (decide (1048576<p.t19[p.t21.toNat]!.af))with|none=>none|some r1=>bif r1 then some (none)else if(p.t7++[p.t19[p.t21.toNat]!]).length<=1073741824 then some (some (jS.mk p.t1 (p.t7++[p.t19[p.t21.toNat]!]) p.t19 p.t20 (i64.wrap (p.t21+1))))else none else none else some (none)
def QS:An:=(.two .no (.two .no (.two (.two .no (.two .no (.two (.two (.rb [] 43) .no) .no))) .no)))
def qY:jS->Option jS:=bt (yq)
abbrev ajf:Type:=(List aN)×Int×Int
def d304:Td 0 ajf:= .c [] [4,5,6] (.t (cl.s 4 [] 131) (.c [] [4,5,6] (.r 0 1 (ec 4 (qo 0) (ec 5 (qi .i64) (ec 6 (qi .i64) en))) (sr 0 131 sn) (fun z=>(z.2.1,z.1.2.1,z.1.2.2.1)) (fun x=>(((),x.2.1,x.2.2,()),(x.1,()))) fun _=>rfl)))
theorem aj8:∀f∈([]:List Nat),aV (akN) f:=aC
def agK(a0:List aN)(a1:Int):Option ajf:=
 bif decide (a1=0)then match qY (jS.mk a1 [] a0 (↑a0.length:Int) (0))with|none=>none|some r2=>bif decide (r2.t21<r2.t20)then if(0:Int)<=r2.t21/\r2.t21<(↑r2.t19.length:Int)then bif bif decide (r2.t19[r2.t21.toNat]!.bf=r2.t1)then false else true then none else match bif decide (r2.t19[r2.t21.toNat]!.af<r2.t19[r2.t21.toNat]!.aa)then some (true)else bif decide (r2.t19[r2.t21.toNat]!.aa< -1048576)then some (true)else some (decide (1048576<r2.t19[r2.t21.toNat]!.af))with|none=>none|some r3=>bif r3 then some (([],0,3))else if(r2.t7++[r2.t19[r2.t21.toNat]!]).length<=1073741824 then none else none else none else match ri (kD.mk r2.t7 (1) r2.t7 (↑r2.t7.length:Int) (0))with|none=>none|some r4=>bif decide (r4.t51<r4.t50)then if(0:Int)<=r4.t51/\r4.t51<(↑r4.t49.length:Int)then if 131=131/\r4.t51.toNat<r4.t49.length then bif decide (4096<i64.wrap (r4.t10*zP r4.t49[r4.t51.toNat]!))then some (([],0,4))else none else none else none else some ((r4.t49,r4.t10,0))else bif decide (a1=1)then match qY (jS.mk a1 [] a0 (↑a0.length:Int) (0))with|none=>none|some r5=>bif decide (r5.t21<r5.t20)then if(0:Int)<=r5.t21/\r5.t21<(↑r5.t19.length:Int)then bif bif decide (r5.t19[r5.t21.toNat]!.bf=r5.t1)then false else true then none else match bif decide (r5.t19[r5.t21.toNat]!.af<r5.t19[r5.t21.toNat]!.aa)then some (true)else bif decide (r5.t19[r5.t21.toNat]!.aa< -1048576)then some (true)else some (decide (1048576<r5.t19[r5.t21.toNat]!.af))with|none=>none|some r6=>bif r6 then some (([],0,3))else if(r5.t7++[r5.t19[r5.t21.toNat]!]).length<=1073741824 then none else none else none else match ri (kD.mk r5.t7 (1) r5.t7 (↑r5.t7.length:Int) (0))with|none=>none|some r7=>bif decide (r7.t51<r7.t50)then if(0:Int)<=r7.t51/\r7.t51<(↑r7.t49.length:Int)then if 131=131/\r7.t51.toNat<r7.t49.length then bif decide (4096<i64.wrap (r7.t10*zP r7.t49[r7.t51.toNat]!))then some (([],0,4))else none else none else none else some ((r7.t49,r7.t10,0))else bif decide (a1=2)then match qY (jS.mk a1 [] a0 (↑a0.length:Int) (0))with|none=>none|some r8=>bif decide (r8.t21<r8.t20)then if(0:Int)<=r8.t21/\r8.t21<(↑r8.t19.length:Int)then bif bif decide (r8.t19[r8.t21.toNat]!.bf=r8.t1)then false else true then none else match bif decide (r8.t19[r8.t21.toNat]!.af<r8.t19[r8.t21.toNat]!.aa)then some (true)else bif decide (r8.t19[r8.t21.toNat]!.aa< -1048576)then some (true)else some (decide (1048576<r8.t19[r8.t21.toNat]!.af))with|none=>none|some r9=>bif r9 then some (([],0,3))else if(r8.t7++[r8.t19[r8.t21.toNat]!]).length<=1073741824 then none else none else none else match ri (kD.mk r8.t7 (1) r8.t7 (↑r8.t7.length:Int) (0))with|none=>none|some r10=>bif decide (r10.t51<r10.t50)then if(0:Int)<=r10.t51/\r10.t51<(↑r10.t49.length:Int)then if 131=131/\r10.t51.toNat<r10.t49.length then bif decide (4096<i64.wrap (r10.t10*zP r10.t49[r10.t51.toNat]!))then some (([],0,4))else none else none else none else some ((r10.t49,r10.t10,0))else bif decide (a1=3)then match qY (jS.mk a1 [] a0 (↑a0.length:Int) (0))with|none=>none|some r11=>bif decide (r11.t21<r11.t20)then if(0:Int)<=r11.t21/\r11.t21<(↑r11.t19.length:Int)then bif bif decide (r11.t19[r11.t21.toNat]!.bf=r11.t1)then false else true then none else match bif decide (r11.t19[r11.t21.toNat]!.af<r11.t19[r11.t21.toNat]!.aa)then some (true)else bif decide (r11.t19[r11.t21.toNat]!.aa< -1048576)then some (true)else some (decide (1048576<r11.t19[r11.t21.toNat]!.af))with|none=>none|some r12=>bif r12 then some (([],0,3))else if(r11.t7++[r11.t19[r11.t21.toNat]!]).length<=1073741824 then none else none else none else match ri (kD.mk r11.t7 (1) r11.t7 (↑r11.t7.length:Int) (0))with|none=>none|some r13=>bif decide (r13.t51<r13.t50)then if(0:Int)<=r13.t51/\r13.t51<(↑r13.t49.length:Int)then if 131=131/\r13.t51.toNat<r13.t49.length then bif decide (4096<i64.wrap (r13.t10*zP r13.t49[r13.t51.toNat]!))then some (([],0,4))else none else none else none else some ((r13.t49,r13.t10,0))else some (([],0,1))
def aoN:aI->aI:=eL Tryz.prog 304 false (lc (ql 131) (lc (qi .i64) ln)) d304 (fun g=>agK g.1 g.2.1)
theorem TU:EO aoN:=fun h=>kL (F:=akN) (an:=(.two .no (.two .no (.two .no (.two (.two .no (G2.lp qY QS)) (.two .no (.two (.two .no (JG.lp ri .no)) .no))))))) (l:=[(aS Tryz.f304 0,(G2.lp qY QS)),(.skip,(.rb [] 43)),(aS Tryz.f304 1,(JG.lp ri .no))]) Tryz.func304 (V5 aK) (ax (aO G2) (ax aj8 (ax (aO JG) aC))) h
abbrev akg:Type:=Int×Int
def d264:Td 0 akg:= .c [] [4,5] (.r 0 0 (ec 4 (qi .i64) (ec 5 (qi .i64) en)) sn (fun z=>(z.1.1,z.1.2.1)) (fun x=>((x.1,x.2,()),(()))) fun _=>rfl)
def Pn(a0:List aN)(a1:Int):Option akg:=
 match agK a0 a1 with|none=>none|some r1=>some (r1.snd)
def aiQ:aI->aI:=eL Tryz.prog 264 false (lc (ql 131) (lc (qi .i64) ln)) d264 (fun g=>Pn g.1 g.2.1)
theorem Z2:EO aiQ:=fun h=>kL (an:= .no) Tryz.func264 (TU aK) aC h
def ajJ:aI:=(aiQ (ajt (alH (akZ cL))))
structure rD where
 t0:List aN
 t71:List Int
 (t72 t73:Int)
def HQ:Td 0 rD:= .c [] [0,71,72,73] (.r 0 1 (ec 0 (ql 131) (ec 71 (qo 0) (ec 72 (qi .i64) (ec 73 (qi .i64) en)))) (sr 0 129 sn) (fun z=>⟨z.1.1,z.2.1,z.1.2.2.1,z.1.2.2.2.1⟩) (fun x=>((x.t0,(),x.t72,x.t73,()),(x.t71,()))) fun _=>rfl)
def oJ(p:rD):Option (Option rD):=
 bif decide (p.t73<p.t72)then if(0:Int)<=p.t73/\p.t73<(↑p.t71.length:Int)then if 129=129/\p.t73.toNat<p.t71.length then match Pn p.t0 p.t71[p.t73.toNat]! with|none=>none|some r6=>match bif bif decide (r6.snd=0)then false else true then some (true)else bif decide (((p.t0,(),p.t72,p.t73,()),p.t71,()).snd.fst[((p.t0,(),p.t72,p.t73,()),p.t71,()).fst.snd.snd.snd.fst.toNat]! =3)then some (decide (256<r6.fst))else some (false)with|none=>none|some r7=>bif r7 then some (none)else some (some (rD.mk p.t0 p.t71 p.t72 (i64.wrap (p.t73+1))))else none else none else some (none)
def QV:An:=(.two .no (.two .no (.two (.two .no (.two .no (.two (.rb [] 92) .no))) .no)))
def oz:rD->Option rD:=bt (oJ)
structure rj where
 (t0 t10:List aN)
 (t11 t12:Int)
def G4:Td 0 rj:= .c [] [0,10,11,12] (.r 0 0 (ec 0 (ql 131) (ec 10 (ql 131) (ec 11 (qi .i64) (ec 12 (qi .i64) en)))) sn (fun z=>⟨z.1.1,z.1.2.1,z.1.2.2.1,z.1.2.2.2.1⟩) (fun x=>((x.t0,x.t10,x.t11,x.t12,()),(()))) fun _=>rfl)
def uV(p:rj):Option (Option rj):=
 bif decide (p.t12<p.t11)then if(0:Int)<=p.t12/\p.t12<(↑p.t10.length:Int)then match Jh p.t10[p.t12.toNat]!.fName with|none=>none|some r1=>bif bif r1 then false else true then some (none)else if(0:Int)<=p.t12/\p.t12<=(↑p.t0.length:Int)then match S5 (List.take p.t12.toNat p.t0) p.t10[p.t12.toNat]! with|none=>none|some r2=>bif r2 then some (none)else match bif decide (p.t10[p.t12.toNat]!.bf<0)then some (true)else some (decide (3<p.t10[p.t12.toNat]!.bf))with|none=>none|some r3=>bif r3 then some (none)else bif bif A8 p.t10[p.t12.toNat]!.aa p.t10[p.t12.toNat]!.af then false else true then some (none)else match bif bif decide (p.t10[p.t12.toNat]!.bf=0)then false else true then some (bif decide (p.t10[p.t12.toNat]!.cW=0)then false else true)else some (false)with|none=>none|some r4=>bif r4 then some (none)else match bif decide (p.t10[p.t12.toNat]!.bf=0)then bif decide (p.t10[p.t12.toNat]!.cW<p.t10[p.t12.toNat]!.aa)then some (true)else some (decide (p.t10[p.t12.toNat]!.af<p.t10[p.t12.toNat]!.cW))else some (false)with|none=>none|some r5=>bif r5 then some (none)else some (some (rj.mk p.t0 p.t10 p.t11 (i64.wrap (p.t12+1))))else none else none else some (none)
def Q9:An:=(.two .no (.two .no (.two (.two .no (.two .no (.two .no (.two .no (.two .no (.two .no (.two (.rb [] 29) (.two .no (.two (.two .no (.two .no (.two (.rb [] 38) (.two .no (.rb [] 38))))) .no))))))))) .no)))
def BB:rj->Option rj:=bt (uV)
abbrev ak6:Type:=Int
def d210:Td 0 ak6:= .c [] [2] (.r 0 0 (ec 2 (qi .i64) en) sn (fun z=>z.1.1) (fun x=>((x,()),(()))) fun _=>rfl)
theorem Lv:∀f∈([]:List Nat),aV (ajJ) f:=aC
def Yy(a0:List aN):Option ak6:=
 match BB (rj.mk a0 a0 (↑a0.length:Int) (0))with|none=>none|some r8=>bif decide (r8.t12<r8.t11)then if(0:Int)<=r8.t12/\r8.t12<(↑r8.t10.length:Int)then match Jh r8.t10[r8.t12.toNat]!.fName with|none=>none|some r9=>bif bif r9 then false else true then some (7)else if(0:Int)<=r8.t12/\r8.t12<=(↑r8.t0.length:Int)then match S5 (List.take r8.t12.toNat r8.t0) r8.t10[r8.t12.toNat]! with|none=>none|some r10=>bif r10 then some (8)else match bif decide (r8.t10[r8.t12.toNat]!.bf<0)then some (true)else some (decide (3<r8.t10[r8.t12.toNat]!.bf))with|none=>none|some r11=>bif r11 then some (1)else bif bif A8 r8.t10[r8.t12.toNat]!.aa r8.t10[r8.t12.toNat]!.af then false else true then some (3)else match bif bif decide (r8.t10[r8.t12.toNat]!.bf=0)then false else true then some (bif decide (r8.t10[r8.t12.toNat]!.cW=0)then false else true)else some (false)with|none=>none|some r12=>bif r12 then some (3)else match bif decide (r8.t10[r8.t12.toNat]!.bf=0)then bif decide (r8.t10[r8.t12.toNat]!.cW<r8.t10[r8.t12.toNat]!.aa)then some (true)else some (decide (r8.t10[r8.t12.toNat]!.af<r8.t10[r8.t12.toNat]!.cW))else some (false)with|none=>none|some r13=>bif r13 then some (3)else none else none else none else match oz (rD.mk r8.t0 [1,2,3] (↑3:Int) (0))with|none=>none|some r14=>bif decide (r14.t73<r14.t72)then if(0:Int)<=r14.t73/\r14.t73<(↑r14.t71.length:Int)then if 129=129/\r14.t73.toNat<r14.t71.length then match Pn r14.t0 r14.t71[r14.t73.toNat]! with|none=>none|some r15=>match bif bif decide (r15.snd=0)then false else true then some (true)else bif decide (((r14.t0,(),r14.t72,r14.t73,()),r14.t71,()).snd.fst[((r14.t0,(),r14.t72,r14.t73,()),r14.t71,()).fst.snd.snd.snd.fst.toNat]! =3)then some (decide (256<r15.fst))else some (false)with|none=>none|some r16=>bif r16 then some (4)else none else none else none else some (0)
def amv:aI->aI:=eL Tryz.prog 210 false (lc (ql 131) ln) d210 (fun g=>Yy g.1)
theorem ZF:EO amv:=fun h=>kL (F:=ajJ) (an:=(.two .no (.two (.two .no (G4.lp BB Q9)) (.two (.two .no (HQ.lp oz QV)) .no)))) (l:=[(aS Tryz.f210 0,(G4.lp BB Q9)),(.skip,(.rb [] 29)),(.skip,(.rb [] 38)),(.skip,(.rb [] 38)),(aS Tryz.f210 1,(HQ.lp oz QV)),(.skip,(.rb [] 92))]) Tryz.func210 (Z2 (K0 (Wi (KS aK)))) (ax (aO G4) (ax Lv (ax Lv (ax Lv (ax (aO HQ) (ax Lv aC)))))) h
abbrev amV:Type:=Bool
def d265:Td 0 amV:= .c [] [3] (.r 0 0 (ec 3 qb en) sn (fun z=>z.1.1) (fun x=>((x,()),(()))) fun _=>rfl)
def Qv(a0:cy)(c0:cy):amV:=
 a0.fName.toList==c0.fName.toList
def aol:aI->aI:=eL Tryz.prog 265 false (lc (qg 139) (lc (qr (lg 139)) ln)) d265 (fun g=>some (Qv g.1 g.2.1))
theorem K8:EO aol:=fun h=>kL (an:= .no) Tryz.func265 aK aC h
structure qM where
 t0:List cy
 l8:ByteArray
 (mH mB mb mI:Int)
 Cm:List aq
 (t7 t8:Int)
def HZ:Td 0 qM:= .c [] [0,1,7,8] (.r 0 0 (ec 0 (ql 139) (ec 1 (qf 265 (lc (qr (lc qs (lc (qi .i64) (lc (qi .i64) (lc (qi .i64) (lc (qi .i64) (lc (ql 137) ln))))))) ln)) (ec 7 (qi .i64) (ec 8 (qi .i64) en)))) sn (fun z=>⟨z.1.1,z.1.2.1.1.1,z.1.2.1.1.2.1,z.1.2.1.1.2.2.1,z.1.2.1.1.2.2.2.1,z.1.2.1.1.2.2.2.2.1,z.1.2.1.1.2.2.2.2.2.1,z.1.2.2.1,z.1.2.2.2.1⟩) (fun x=>((x.t0,((x.l8,x.mH,x.mB,x.mb,x.mI,x.Cm,()),()),x.t7,x.t8,()),(()))) fun _=>rfl)
def Bi(p:qM):Option (Option qM):=
 bif decide (p.t8<p.t7)then if(0:Int)<=p.t8/\p.t8<(↑p.t0.length:Int)then bif Qv (cy.mk p.t0[p.t8.toNat]!.fName p.t0[p.t8.toNat]!.aa p.t0[p.t8.toNat]!.af (aq.mk p.t0[p.t8.toNat]!.au.aW p.t0[p.t8.toNat]!.au.fN p.t0[p.t8.toNat]!.au.aj)) (cy.mk p.l8 p.mH p.mB (aq.mk p.mb p.mI p.Cm))then some (none)else some (some (qM.mk p.t0 p.l8 p.mH p.mB p.mb p.mI p.Cm p.t7 (i64.wrap (p.t8+1))))else none else some (none)
def Ci:qM->Option qM:=bt (Bi)
abbrev aix:Type:=Int
def d305:Td 0 aix:= .c [] [4] (.r 0 0 (ec 4 (qi .i64) en) sn (fun z=>z.1.1) (fun x=>((x,()),(()))) fun _=>rfl)
def afR(a0:List cy)(a1_0:cy):Option aix:=
 match Ci (qM.mk a0 a1_0.fName a1_0.aa a1_0.af a1_0.au.aW a1_0.au.fN a1_0.au.aj (↑a0.length:Int) (0))with|none=>none|some r1=>bif decide (r1.t8<r1.t7)then if(0:Int)<=r1.t8/\r1.t8<(↑r1.t0.length:Int)then bif Qv (cy.mk r1.t0[r1.t8.toNat]!.fName r1.t0[r1.t8.toNat]!.aa r1.t0[r1.t8.toNat]!.af (aq.mk r1.t0[r1.t8.toNat]!.au.aW r1.t0[r1.t8.toNat]!.au.fN r1.t0[r1.t8.toNat]!.au.aj)) (cy.mk r1.l8 r1.mH r1.mB (aq.mk r1.mb r1.mI r1.Cm))then some (r1.t8)else none else none else some (-1)
def aqC:aI->aI:=eL Tryz.prog 305 true (lc (ql 139) (lc (qf 265 (lc (qr (lg 139)) ln)) ln)) d305 (fun g=>afR g.1 g.2.1.1)
theorem Vf:EO aqC:=fun h=>kL (an:=(.two .no (.two (.two .no (HZ.lp Ci .no)) .no))) (l:=[(aS Tryz.f305 0,(HZ.lp Ci .no))]) Tryz.func305 (K8 aK) (ax (aO HZ) aC) h
abbrev ajs:Type:=Bool
def d266:Td 0 ajs:= .c [] [4] (.r 0 0 (ec 4 qb en) sn (fun z=>z.1.1) (fun x=>((x,()),(()))) fun _=>rfl)
def QE(a0:List cy)(a1_0:cy):Option ajs:=
 match afR a0 (cy.mk a1_0.fName a1_0.aa a1_0.af (aq.mk a1_0.au.aW a1_0.au.fN a1_0.au.aj))with|none=>none|some r1=>some (decide (0<=r1))
def ao8:aI->aI:=eL Tryz.prog 266 true (lc (ql 139) (lc (qf 265 (lc (qr (lg 139)) ln)) ln)) d266 (fun g=>QE g.1 g.2.1.1)
theorem ZD:EO ao8:=fun h=>kL (an:= .no) Tryz.func266 (Vf (K8 aK)) aC h
def aeg:aI:=cL
abbrev adf:Type:=Int×Int
def d338:Td 0 adf:= .c [] [2,3] (.r 0 0 (ec 2 (qi .i64) (ec 3 (qi .i64) en)) sn (fun z=>(z.1.1,z.1.2.1)) (fun x=>((x.1,x.2,()),(()))) fun _=>rfl)
def akn:=(lc (qi .i64) ln)
def ab5:An:=(.two .no (.two (.two (.rb [] 4) (.two .no (.two (.rb [] 11) (.two .no (.two (.rb [] 18) .no))))) .no))
theorem SM:∀f∈([]:List Nat),aV (aeg) f:=aC
def Fx(a0:Int):adf:=
 let r1:Bool:=bif decide (a0=0)then true else decide (a0=24);bif r1 then(0,0)else let r2:Bool:=bif decide (a0=6)then true else decide (a0=7);bif r2 then(1,1)else let r3:Bool:=bif decide (8<=a0)then decide (a0<=22)else false;bif r3 then(2,2)else bif decide (a0=23)then(3,3)else bif decide (a0=25)then(2,33)else(-1,-1)
theorem aph(a0:Int):bK Tryz.prog (aeg) 300 (ab5) 338 (akn.c (a0,())) [] 0 d338.rd=some (Fx a0):=by
 refine Eq.trans (b:=(
  match bif decide (a0=0)then some (true)else some (decide (a0=24))with|none=>none|some r1=>bif r1 then some ((0,0))else match bif decide (a0=6)then some (true)else some (decide (a0=7))with|none=>none|some r2=>bif r2 then some ((1,1))else match bif decide (8<=a0)then some (decide (a0<=22))else some (false)with|none=>none|some r3=>bif r3 then some ((2,2))else bif decide (a0=23)then some ((3,3))else bif decide (a0=25)then some ((2,33))else some ((-1,-1)):Option adf)) (by kernel_rfl) ?_
 simp only[Fx,bX,cn]
def amO:aI->aI:=eL Tryz.prog 338 false akn d338 (fun g=>some (Fx g.1))
theorem VX:EO amO:=fun h=>kL (F:=aeg) (an:=ab5) (l:=[(.skip,(.rb [] 4)),(.skip,(.rb [] 11)),(.skip,(.rb [] 18))]) Tryz.func338 aK (ax SM (ax SM (ax SM aC))) h (c:=fun g=>aph g.1)
abbrev pW:Type:=Bool
def d306:Td 0 pW:= .c [] [6] (.r 0 0 (ec 6 qb en) sn (fun z=>z.1.1) (fun x=>((x,()),(()))) fun _=>rfl)
def afM:=(lc (ql 131) (lc (qg 137) (lc qb ln)))
def adU(M:(List aN)->aq->Bool->Option pW):aI->aI:=eL Tryz.prog 306 false afM d306 (fun g=>M g.1 g.2.1 g.2.2.1)
def ZR(M:(List aN)->aq->Bool->Option pW):Prop:=HL Tryz.prog 306 afM d306 (fun g=>M g.1 g.2.1 g.2.2.1)
theorem Li{M:(List aN)->aq->Bool->Option pW}(hM:ZR M){F:aI}(h:aZ Tryz.prog F):aZ Tryz.prog (adU M F):=fW (sc:=wQ) dL hM ⟨_,Tryz.func306,by kernel_rfl,by kernel_rfl⟩ (fun _=>by kernel_rfl) (fun _=>by kernel_rfl) h
def aao(M306:(List aN)->aq->Bool->Option pW):aI:=(amO (adU M306 cL))
theorem Zm{M306}(h306:ZR M306):aZ Tryz.prog (aao M306):=(VX (Li h306 aK))
structure lP where
 t0:List aN
 t2:Bool
 t65:List aq
 (t66 t67:Int)
def JX:Td 0 lP:= .c [] [0,2,65,66,67] (.r 0 0 (ec 0 (ql 131) (ec 2 qb (ec 65 (ql 137) (ec 66 (qi .i64) (ec 67 (qi .i64) en))))) sn (fun z=>⟨z.1.1,z.1.2.1,z.1.2.2.1,z.1.2.2.2.1,z.1.2.2.2.2.1⟩) (fun x=>((x.t0,x.t2,x.t65,x.t66,x.t67,()),(()))) fun _=>rfl)
def C6(M306:(List aN)->aq->Bool->Option pW)(p:lP):Option (Option lP):=
 bif decide (p.t67<p.t66)then if(0:Int)<=p.t67/\p.t67<(↑p.t65.length:Int)then match M306 p.t0 (aq.mk p.t65[p.t67.toNat]!.aW p.t65[p.t67.toNat]!.fN p.t65[p.t67.toNat]!.aj) p.t2 with|none=>none|some r1=>bif bif r1 then false else true then some (none)else some (some (lP.mk p.t0 p.t2 p.t65 p.t66 (i64.wrap (p.t67+1))))else none else some (none)
def uU(M306:(List aN)->aq->Bool->Option pW):lP->Option lP:=bt (C6 M306)
def aaM(M306:(List aN)->aq->Bool->Option pW):An:=(.two .no (.two .no (.two (.two (.rb [] 32) .no) (.two (.two .no (.two .no (.two .no (.two .no (.two (.two (.rb [] 63) .no) .no))))) (.two (.two .no (JX.lp (uU M306) .no)) .no)))))
theorem aco{M306}:∀f∈([]:List Nat),aV (aao M306) f:=aC
theorem alg(M306:(List aN)->aq->Bool->Option pW):eC Tryz.prog (aao M306) 0 300 306 (aaM M306):=bT (l:=[(.skip,(.rb [] 32)),(.skip,(.rb [] 63)),(aS Tryz.f306 0,(JX.lp (uU M306) .no))]) Tryz.func306 (bA (by kernel_rfl)) (by kernel_rfl) (ax aco (ax aco (ax (aO JX) aC)))
def TM(M306:(List aN)->aq->Bool->Option pW)(a0:List aN)(a1:aq)(a2:Bool):Option pW:=
 match bif decide ((Fx a1.aW).fst<0)then some (true)else bif decide ((↑a1.aj.length:Int)<(Fx a1.aW).fst)then some (true)else some (decide ((Fx a1.aW).snd<(↑a1.aj.length:Int)))with|none=>none|some r2=>bif r2 then some (false)else bif decide (a1.aW=0)then match uU M306 (lP.mk a0 a2 a1.aj (↑a1.aj.length:Int) (0))with|none=>none|some r3=>bif decide (r3.t67<r3.t66)then if(0:Int)<=r3.t67/\r3.t67<(↑r3.t65.length:Int)then match M306 r3.t0 (aq.mk r3.t65[r3.t67.toNat]!.aW r3.t65[r3.t67.toNat]!.fN r3.t65[r3.t67.toNat]!.aj) r3.t2 with|none=>none|some r4=>bif bif r4 then false else true then some (false)else none else none else some (true)else bif decide (a1.aW=24)then match bif decide (a1.fN<0)then some (true)else bif decide ((↑a0.length:Int)<=a1.fN)then some (true)else bif a2 then if(0:Int)<=a1.fN/\a1.fN<(↑a0.length:Int)then some (decide (a0[a1.fN.toNat]!.bf=0))else none else some (false)with|none=>none|some r5=>bif r5 then some (false)else match uU M306 (lP.mk a0 a2 a1.aj (↑a1.aj.length:Int) (0))with|none=>none|some r6=>bif decide (r6.t67<r6.t66)then if(0:Int)<=r6.t67/\r6.t67<(↑r6.t65.length:Int)then match M306 r6.t0 (aq.mk r6.t65[r6.t67.toNat]!.aW r6.t65[r6.t67.toNat]!.fN r6.t65[r6.t67.toNat]!.aj) r6.t2 with|none=>none|some r7=>bif bif r7 then false else true then some (false)else none else none else some (true)else bif bif decide (a1.fN=0)then false else true then some (false)else match uU M306 (lP.mk a0 a2 a1.aj (↑a1.aj.length:Int) (0))with|none=>none|some r8=>bif decide (r8.t67<r8.t66)then if(0:Int)<=r8.t67/\r8.t67<(↑r8.t65.length:Int)then match M306 r8.t0 (aq.mk r8.t65[r8.t67.toNat]!.aW r8.t65[r8.t67.toNat]!.fN r8.t65[r8.t67.toNat]!.aj) r8.t2 with|none=>none|some r9=>bif bif r9 then false else true then some (false)else none else none else some (true)
theorem aox(M306:(List aN)->aq->Bool->Option pW)(a0:List aN)(a1:aq)(a2:Bool):bK Tryz.prog (aao M306) 300 (aaM M306) 306 (afM.c (a0,a1,a2,())) [] 0 d306.rd=TM M306 a0 a1 a2:=by kernel_rfl
def abm:Nat->((List aN)->aq->Bool->Option pW)
 |0=>(fun _ _ _=>none)
 |n+1=>(TM (abm n))
def Hw(n:Nat):(List aN)->aq->Bool->Option pW:=(abm n)
theorem Gv:∀n,ZR (Hw n)
 |0=>fun _ _ h=>(by cases h)
 |n+1=>by
  have ih:=Gv n
  have i306:=ih
  exact(dx (Zm i306) (alg (Hw n)) (fun _=>by kernel_rfl) (fun _=>by kernel_rfl) fun g=>aox (Hw n) g.1 g.2.1 g.2.2.1)
def ZG:(List aN)->aq->Bool->Option pW:=fun a0 a1 a2=>lim (fun n=>Hw n a0 a1 a2)
theorem WH:ZR ZG:=fun g b h=>by
 obtain⟨n,hn⟩:=cz (show lim (fun n=>Hw n g.1 g.2.1 g.2.2.1)=some b from h)
 exact(Gv n) g b hn
def aqI(F:aI):aI:=adU ZG F
theorem UU{F:aI}(h:aZ Tryz.prog F):aZ Tryz.prog (aqI F):=Li WH h
abbrev am5:Type:=Int
def d350:Td 0 am5:= .c [] [4] (.r 0 0 (ec 4 (qi .i64) en) sn (fun z=>z.1.1) (fun x=>((x,()),(()))) fun _=>rfl)
def vf(a0:Int)(a1:Int):am5:=
 i64.wrap (a0*a1)
def alj:aI->aI:=eL Tryz.prog 350 false (lc (qi .i64) (lc (qi .i64) ln)) d350 (fun g=>some (vf g.1 g.2.1))
theorem Kk:EO alj:=fun h=>kL (an:= .no) Tryz.func350 aK aC h
def ape:aI:=cL
abbrev acI:Type:=Span
def d351:Td 0 acI:= .c [] [4] (.r 0 1 (ec 4 (qp 0 0) en) (sb 0 331 (lg 331) sn) (fun z=>z.2.1) (fun x=>(((),()),(x,()))) fun _=>rfl)
def amf:=(lc (qg 331) (lc (qg 331) ln))
def aaX:An:= .no
def NL(a0:Span)(a1:Span):acI:=
 Span.mk (if a1.aa<a0.aa then a1.aa else a0.aa) (if a0.af<a1.af then a1.af else a0.af)
theorem aoC(a0:Span)(a1:Span):bK Tryz.prog (ape) 300 (aaX) 351 (amf.c (a0,a1,())) [] 0 d351.rd=some (NL a0 a1):=by
 refine Eq.trans (b:=(
  some (Span.mk (if a1.aa<a0.aa then a1.aa else a0.aa) (if a0.af<a1.af then a1.af else a0.af)):Option acI)) (by kernel_rfl) ?_
 simp only[NL,bX,cn]
def amh:aI->aI:=eL Tryz.prog 351 false amf d351 (fun g=>some (NL g.1 g.2.1))
theorem Mm:EO amh:=fun h=>kL (an:=aaX) Tryz.func351 aK aC h (c:=fun g=>aoC g.1 g.2.1)
structure qI where
 t38:List Int
 (t39 t40:Int)
 (b0 b1:Span)
def IA:Td 0 qI:= .c [] [6,8,38,39,40] (.r 0 3 (ec 6 (qp 0 0) (ec 8 (qp 1 0) (ec 38 (qo 2) (ec 39 (qi .i64) (ec 40 (qi .i64) en))))) (sb 0 331 (lg 331) (sb 1 331 (lg 331) (sr 2 3 sn))) (fun z=>⟨z.2.2.2.1,z.1.2.2.2.1,z.1.2.2.2.2.1,z.2.1,z.2.2.1⟩) (fun x=>(((),(),(),x.t39,x.t40,()),(x.b0,x.b1,x.t38,()))) fun _=>rfl)
def oA(p:qI):Option (Option qI):=
 bif decide (p.t40<p.t39)then if(0:Int)<=p.t40/\p.t40<(↑p.t38.length:Int)then if 3=3/\p.t40.toNat<p.t38.length then some (some (qI.mk p.t38 p.t39 (i64.wrap (p.t40+1)) p.b0 (NL p.b1 (Span.mk p.t38[p.t40.toNat]! p.t38[p.t40.toNat]!))))else none else none else some (none)
def x8:qI->Option qI:=bt (oA)
abbrev ake:Type:=Span
def d349:Td 0 ake:= .c [] [6] (.r 0 1 (ec 6 (qp 0 0) en) (sb 0 331 (lg 331) sn) (fun z=>z.2.1) (fun x=>(((),()),(x,()))) fun _=>rfl)
def aam(a0:Span)(a1:Span):Option ake:=
 match x8 (qI.mk [vf a0.aa a1.af,vf a0.af a1.aa,vf a0.af a1.af] (↑[vf a0.aa a1.af,vf a0.af a1.aa,vf a0.af a1.af].length:Int) (0) (Span.mk (0) (0)) (Span.mk (vf a0.aa a1.aa) (vf a0.aa a1.aa)))with|none=>none|some r1=>bif decide (r1.t40<r1.t39)then if(0:Int)<=r1.t40/\r1.t40<(↑r1.t38.length:Int)then if 3=3/\r1.t40.toNat<r1.t38.length then none else none else none else some (r1.b1)
def aki:aI->aI:=eL Tryz.prog 349 false (lc (qg 331) (lc (qg 331) (lc (qf 350 ln) ln))) d349 (fun g=>aam g.1 g.2.1)
theorem UX:EO aki:=fun h=>kL (an:=(.two .no (.two .no (.two .no (.two (.two .no (IA.lp x8 .no)) .no))))) (l:=[(aS Tryz.f349 0,(IA.lp x8 .no))]) Tryz.func349 (Mm (Kk aK)) (ax (aO IA) aC) h
def ajj:aI:=(amh (alj (aki cL)))
structure oO where
 t207:List Span
 (t208 t209:Int)
 (b0 b1:Span)
def II:Td 0 oO:= .c [] [6,9,207,208,209] (.r 0 2 (ec 6 (qp 0 0) (ec 9 (qp 1 0) (ec 207 (ql 331) (ec 208 (qi .i64) (ec 209 (qi .i64) en))))) (sb 0 331 (lg 331) (sb 1 331 (lg 331) sn)) (fun z=>⟨z.1.2.2.1,z.1.2.2.2.1,z.1.2.2.2.2.1,z.2.1,z.2.2.1⟩) (fun x=>(((),(),x.t207,x.t208,x.t209,()),(x.b0,x.b1,()))) fun _=>rfl)
def C7(p:oO):Option (Option oO):=
 bif decide (p.t209<p.t208)then if(0:Int)<=p.t209/\p.t209<(↑p.t207.length:Int)then some (some (oO.mk p.t207 p.t208 (i64.wrap (p.t209+1)) p.b0 (NL p.b1 p.t207[p.t209.toNat]!)))else none else some (none)
def yd:oO->Option oO:=bt (C7)
abbrev amo:Type:=Span
def d339:Td 0 amo:= .c [] [6] (.r 0 1 (ec 6 (qp 0 0) en) (sb 0 331 (lg 331) sn) (fun z=>z.2.1) (fun x=>(((),()),(x,()))) fun _=>rfl)
theorem ala:∀f∈([]:List Nat),aV (ajj) f:=aC
def YA(a0:List aN)(a1:aq)(a2:List Span):Option amo:=
 bif decide (a1.aW=0)then some (Span.mk a1.fN a1.fN)else bif decide (a1.aW=24)then if(0:Int)<=a1.fN/\a1.fN<(↑a0.length:Int)then if(0:Int)<=a1.fN/\a1.fN<(↑a0.length:Int)then some (Span.mk a0[a1.fN.toNat]!.aa a0[a1.fN.toNat]!.af)else none else none else bif decide (a1.aW=6)then if(0:Int)<=(0:Int)/\(0:Int)<(↑a2.length:Int)then if(0:Int)<=(0:Int)/\(0:Int)<(↑a2.length:Int)then some (Span.mk (i64.wrap (0-a2[0]!.af)) (i64.wrap (0-a2[0]!.aa)))else none else none else bif decide (a1.aW=8)then if(0:Int)<=(0:Int)/\(0:Int)<(↑a2.length:Int)then if(0:Int)<=(1:Int)/\(1:Int)<(↑a2.length:Int)then if(0:Int)<=(0:Int)/\(0:Int)<(↑a2.length:Int)then if(0:Int)<=(1:Int)/\(1:Int)<(↑a2.length:Int)then some (Span.mk (i64.wrap (a2[0]!.aa+a2[1]!.aa)) (i64.wrap (a2[0]!.af+a2[1]!.af)))else none else none else none else none else bif decide (a1.aW=9)then if(0:Int)<=(0:Int)/\(0:Int)<(↑a2.length:Int)then if(0:Int)<=(1:Int)/\(1:Int)<(↑a2.length:Int)then if(0:Int)<=(0:Int)/\(0:Int)<(↑a2.length:Int)then if(0:Int)<=(1:Int)/\(1:Int)<(↑a2.length:Int)then some (Span.mk (i64.wrap (a2[0]!.aa-a2[1]!.af)) (i64.wrap (a2[0]!.af-a2[1]!.aa)))else none else none else none else none else bif decide (a1.aW=10)then if(0:Int)<=(0:Int)/\(0:Int)<(↑a2.length:Int)then if(0:Int)<=(1:Int)/\(1:Int)<(↑a2.length:Int)then match aam a2[0]! a2[1]! with|none=>none|some r1=>some (r1)else none else none else bif decide (a1.aW=11)then if(0:Int)<=(0:Int)/\(0:Int)<(↑a2.length:Int)then if(0:Int)<=(0:Int)/\(0:Int)<(↑a2.length:Int)then match if(0:Int)<=(0:Int)/\(0:Int)<(↑a2.length:Int)then bif decide (0<=a2[0]!.aa)then if(0:Int)<=(1:Int)/\(1:Int)<(↑a2.length:Int)then some (decide (0<=a2[1]!.aa))else none else some (false)else none with|none=>none|some r2=>bif r2 then some (Span.mk (0) (if a2[0]!.af<i64.wrap (0-a2[0]!.aa)then i64.wrap (0-a2[0]!.aa)else a2[0]!.af))else some (Span.mk (i64.wrap (0-if a2[0]!.af<i64.wrap (0-a2[0]!.aa)then i64.wrap (0-a2[0]!.aa)else a2[0]!.af)) (if a2[0]!.af<i64.wrap (0-a2[0]!.aa)then i64.wrap (0-a2[0]!.aa)else a2[0]!.af))else none else none else bif decide (a1.aW=12)then if(0:Int)<=(1:Int)/\(1:Int)<(↑a2.length:Int)then bif decide (a2[1]!.aa<0)then if(0:Int)<=(1:Int)/\(1:Int)<(↑a2.length:Int)then if(0:Int)<=(1:Int)/\(1:Int)<(↑a2.length:Int)then bif decide (0<a2[1]!.af)then if(0:Int)<=(1:Int)/\(1:Int)<(↑a2.length:Int)then some (Span.mk (if 0<i64.wrap (a2[1]!.aa+1)then 0 else i64.wrap (a2[1]!.aa+1)) (if i64.wrap (a2[1]!.af-1)<0 then 0 else i64.wrap (a2[1]!.af-1)))else none else some (Span.mk (if 0<i64.wrap (a2[1]!.aa+1)then 0 else i64.wrap (a2[1]!.aa+1)) (0))else none else none else if(0:Int)<=(1:Int)/\(1:Int)<(↑a2.length:Int)then bif decide (0<a2[1]!.af)then if(0:Int)<=(1:Int)/\(1:Int)<(↑a2.length:Int)then some (Span.mk (0) (if i64.wrap (a2[1]!.af-1)<0 then 0 else i64.wrap (a2[1]!.af-1)))else none else some (Span.mk (0) (0))else none else none else bif decide (a1.aW=21)then if(0:Int)<=(0:Int)/\(0:Int)<(↑a2.length:Int)then if(0:Int)<=(1:Int)/\(1:Int)<(↑a2.length:Int)then if(0:Int)<=(0:Int)/\(0:Int)<(↑a2.length:Int)then if(0:Int)<=(1:Int)/\(1:Int)<(↑a2.length:Int)then some (Span.mk (if a2[1]!.aa<a2[0]!.aa then a2[1]!.aa else a2[0]!.aa) (if a2[1]!.af<a2[0]!.af then a2[1]!.af else a2[0]!.af))else none else none else none else none else bif decide (a1.aW=22)then if(0:Int)<=(0:Int)/\(0:Int)<(↑a2.length:Int)then if(0:Int)<=(1:Int)/\(1:Int)<(↑a2.length:Int)then if(0:Int)<=(0:Int)/\(0:Int)<(↑a2.length:Int)then if(0:Int)<=(1:Int)/\(1:Int)<(↑a2.length:Int)then some (Span.mk (if a2[0]!.aa<a2[1]!.aa then a2[1]!.aa else a2[0]!.aa) (if a2[0]!.af<a2[1]!.af then a2[1]!.af else a2[0]!.af))else none else none else none else none else bif decide (a1.aW=23)then if(0:Int)<=(1:Int)/\(1:Int)<(↑a2.length:Int)then if(0:Int)<=(2:Int)/\(2:Int)<=(↑a2.length:Int)then match yd (oO.mk (List.drop 2 a2) (↑(List.drop 2 a2).length:Int) (0) (Span.mk (0) (0)) a2[1]!)with|none=>none|some r3=>bif decide (r3.t209<r3.t208)then if(0:Int)<=r3.t209/\r3.t209<(↑r3.t207.length:Int)then none else none else some (r3.b1)else none else none else bif decide (a1.aW=25)then if(0:Int)<=(1:Int)/\(1:Int)<(↑a2.length:Int)then if(0:Int)<=(2:Int)/\(2:Int)<=(↑a2.length:Int)then match yd (oO.mk (List.drop 2 a2) (↑(List.drop 2 a2).length:Int) (0) (Span.mk (0) (0)) a2[1]!)with|none=>none|some r4=>bif decide (r4.t209<r4.t208)then if(0:Int)<=r4.t209/\r4.t209<(↑r4.t207.length:Int)then none else none else some (r4.b1)else none else none else some (Span.mk (0) (1))
def amH:aI->aI:=eL Tryz.prog 339 false (lc (ql 131) (lc (qg 137) (lc (ql 331) ln))) d339 (fun g=>YA g.1 g.2.1 g.2.2.1)
theorem YW:EO amH:=fun h=>kL (F:=ajj) (an:=(.two .no (.two (.two .no (.two .no (.two .no (.two .no (.two .no (.two .no (.two .no (.two .no (.two .no (.two .no (.two .no (.two .no (.two .no (.two .no (.two (.two .no (.two (.two (.rb [] 123) .no) .no)) (.two .no (.two .no (.two .no (.two .no (.two .no (.two .no (.two .no (.two (.two .no (.two (.two .no (II.lp yd .no)) .no)) .no))))))))))))))))))))))) .no))) (l:=[(.skip,(.rb [] 123)),(aS Tryz.f339 0,(II.lp yd .no))]) Tryz.func339 (Mm (Kk (UX aK))) (ax ala (ax (aO II) aC)) h
abbrev pQ:Type:=Span×Bool
def d307:Td 0 pQ:= .c [] [4,5] (.r 0 1 (ec 4 (qp 0 0) (ec 5 qb en)) (sb 0 331 (lg 331) sn) (fun z=>(z.2.1,z.1.2.1)) (fun x=>(((),x.2,()),(x.1,()))) fun _=>rfl)
def ae0:=(lc (ql 131) (lc (qg 137) ln))
def aeP(M:(List aN)->aq->Option pQ):aI->aI:=eL Tryz.prog 307 false ae0 d307 (fun g=>M g.1 g.2.1)
def Zp(M:(List aN)->aq->Option pQ):Prop:=HL Tryz.prog 307 ae0 d307 (fun g=>M g.1 g.2.1)
theorem Lw{M:(List aN)->aq->Option pQ}(hM:Zp M){F:aI}(h:aZ Tryz.prog F):aZ Tryz.prog (aeP M F):=fW (sc:=wQ) dL hM ⟨_,Tryz.func307,by kernel_rfl,by kernel_rfl⟩ (fun _=>by kernel_rfl) (fun _=>by kernel_rfl) h
def acO(M307:(List aN)->aq->Option pQ):aI:=(amH (aeP M307 cL))
theorem Ur{M307}(h307:Zp M307):aZ Tryz.prog (acO M307):=(YW (Lw h307 aK))
structure rW where
 t0:List aN
 t6:List Span
 t13:List aq
 (t14 t15:Int)
 b0:aq
 b1:Span
def Hz:Td 0 rW:= .c [] [0,3,4,6,13,14,15] (.t (cl.s 6 [] 331) (.c [] [0,3,4,6,13,14,15] (.r 0 3 (ec 0 (ql 131) (ec 3 (qp 0 0) (ec 4 (qp 1 0) (ec 6 (qo 2) (ec 13 (ql 137) (ec 14 (qi .i64) (ec 15 (qi .i64) en))))))) (sb 0 137 (lg 137) (sb 1 331 (lg 331) (sr 2 331 sn))) (fun z=>⟨z.1.1,z.2.2.2.1,z.1.2.2.2.2.1,z.1.2.2.2.2.2.1,z.1.2.2.2.2.2.2.1,z.2.1,z.2.2.1⟩) (fun x=>((x.t0,(),(),(),x.t13,x.t14,x.t15,()),(x.b0,x.b1,x.t6,()))) fun _=>rfl)))
def yg(M307:(List aN)->aq->Option pQ)(p:rW):Option (Option rW):=
 bif decide (p.t15<p.t14)then if(0:Int)<=p.t15/\p.t15<(↑p.t13.length:Int)then match M307 p.t0 (aq.mk p.t13[p.t15.toNat]!.aW p.t13[p.t15.toNat]!.fN p.t13[p.t15.toNat]!.aj)with|none=>none|some r1=>bif bif r1.snd then false else true then some (none)else if(p.t6++[r1.fst]).length<=1073741824 then some (some (rW.mk p.t0 (p.t6++[r1.fst]) p.t13 p.t14 (i64.wrap (p.t15+1)) (aq.mk p.b0.aW p.b0.fN p.b0.aj) p.b1))else none else none else some (none)
def BJ(M307:(List aN)->aq->Option pQ):rW->Option rW:=bt (yg M307)
def abZ(M307:(List aN)->aq->Option pQ):An:=(.two .no (.two .no (.two (.two .no (Hz.lp (BJ M307) .no)) .no)))
theorem ahQ(M307:(List aN)->aq->Option pQ):eC Tryz.prog (acO M307) 0 300 307 (abZ M307):=bT (l:=[(aS Tryz.f307 0,(Hz.lp (BJ M307) .no))]) Tryz.func307 (bA (by kernel_rfl)) (by kernel_rfl) (ax (aO Hz) aC)
def VH(M307:(List aN)->aq->Option pQ)(a0:List aN)(a1:aq):Option pQ:=
 match BJ M307 (rW.mk a0 [] a1.aj (↑a1.aj.length:Int) (0) (aq.mk a1.aW a1.fN a1.aj) (Span.mk (0) (0)))with|none=>none|some r2=>bif decide (r2.t15<r2.t14)then if(0:Int)<=r2.t15/\r2.t15<(↑r2.t13.length:Int)then match M307 r2.t0 (aq.mk r2.t13[r2.t15.toNat]!.aW r2.t13[r2.t15.toNat]!.fN r2.t13[r2.t15.toNat]!.aj)with|none=>none|some r3=>bif bif r3.snd then false else true then some ((Span.mk (0) (0),false))else if(r2.t6++[r3.fst]).length<=1073741824 then none else none else none else match YA r2.t0 (aq.mk r2.b0.aW r2.b0.fN r2.b0.aj) r2.t6 with|none=>none|some r4=>bif decide (-1048576<=r4.aa)then some ((r4,decide (r4.af<=1048576)))else some ((r4,false))
theorem aqR(M307:(List aN)->aq->Option pQ)(a0:List aN)(a1:aq):bK Tryz.prog (acO M307) 300 (abZ M307) 307 (ae0.c (a0,a1,())) [] 0 d307.rd=VH M307 a0 a1:=by kernel_rfl
def acm:Nat->((List aN)->aq->Option pQ)
 |0=>(fun _ _=>none)
 |n+1=>(VH (acm n))
def JB(n:Nat):(List aN)->aq->Option pQ:=(acm n)
theorem FH:∀n,Zp (JB n)
 |0=>fun _ _ h=>(by cases h)
 |n+1=>by
  have ih:=FH n
  have i307:=ih
  exact(dx (Ur i307) (ahQ (JB n)) (fun _=>by kernel_rfl) (fun _=>by kernel_rfl) fun g=>aqR (JB n) g.1 g.2.1)
def WL:(List aN)->aq->Option pQ:=fun a0 a1=>lim (fun n=>JB n a0 a1)
theorem Ww:Zp WL:=fun g b h=>by
 obtain⟨n,hn⟩:=cz (show lim (fun n=>JB n g.1 g.2.1)=some b from h)
 exact(FH n) g b hn
def aoX(F:aI):aI:=aeP WL F
theorem WU{F:aI}(h:aZ Tryz.prog F):aZ Tryz.prog (aoX F):=Lw Ww h
abbrev ait:Type:=Int
def d267:Td 0 ait:= .c [] [6] (.r 0 0 (ec 6 (qi .i64) en) sn (fun z=>z.1.1) (fun x=>((x,()),(()))) fun _=>rfl)
def Ij(a0:List aN)(a1:aq)(a2:Bool):Option ait:=
 match ZG a0 (aq.mk a1.aW a1.fN a1.aj) a2 with|none=>none|some r1=>bif bif r1 then false else true then some (1)else match WL a0 (aq.mk a1.aW a1.fN a1.aj)with|none=>none|some r2=>bif bif r2.snd then false else true then some (3)else some (0)
def aeD:aI->aI:=eL Tryz.prog 267 false (lc (ql 131) (lc (qg 137) (lc qb ln))) d267 (fun g=>Ij g.1 g.2.1 g.2.2.1)
theorem MV:EO aeD:=fun h=>kL (an:= .no) Tryz.func267 (WU (UU aK)) aC h
theorem Nz:EP aeD:=fun h=>kP h
structure qD where
 t8:List cy
 (t9 t10:Int)
 b0:Flat
def IG:Td 0 qD:= .c [] [1,8,9,10] (.r 0 1 (ec 1 (qp 0 0) (ec 8 (ql 139) (ec 9 (qi .i64) (ec 10 (qi .i64) en)))) (sb 0 26 (lg 26) sn) (fun z=>⟨z.1.2.1,z.1.2.2.1,z.1.2.2.2.1,z.2.1⟩) (fun x=>(((),x.t8,x.t9,x.t10,()),(x.b0,()))) fun _=>rfl)
def uH(p:qD):Option (Option qD):=
 bif decide (p.t10<p.t9)then if(0:Int)<=p.t10/\p.t10<(↑p.t8.length:Int)then match Jh p.t8[p.t10.toNat]!.fName with|none=>none|some r1=>bif bif r1 then false else true then some (none)else if(0:Int)<=p.t10/\p.t10<=(↑p.b0.ai.length:Int)then match QE (List.take p.t10.toNat p.b0.ai) (cy.mk p.t8[p.t10.toNat]!.fName p.t8[p.t10.toNat]!.aa p.t8[p.t10.toNat]!.af (aq.mk p.t8[p.t10.toNat]!.au.aW p.t8[p.t10.toNat]!.au.fN p.t8[p.t10.toNat]!.au.aj))with|none=>none|some r2=>bif r2 then some (none)else bif bif A8 p.t8[p.t10.toNat]!.aa p.t8[p.t10.toNat]!.af then false else true then some (none)else match Ij p.b0.ah (aq.mk p.t8[p.t10.toNat]!.au.aW p.t8[p.t10.toNat]!.au.fN p.t8[p.t10.toNat]!.au.aj) true with|none=>none|some r3=>bif bif decide (r3=0)then false else true then some (none)else some (some (qD.mk p.t8 p.t9 (i64.wrap (p.t10+1)) p.b0))else none else none else some (none)
def Dg:qD->Option qD:=bt (uH)
abbrev akr:Type:=Int
def d211:Td 0 akr:= .c [] [2] (.r 0 0 (ec 2 (qi .i64) en) sn (fun z=>z.1.1) (fun x=>((x,()),(()))) fun _=>rfl)
def U2(a0:Flat):Option akr:=
 match Dg (qD.mk a0.ai (↑a0.ai.length:Int) (0) a0)with|none=>none|some r4=>bif decide (r4.t10<r4.t9)then if(0:Int)<=r4.t10/\r4.t10<(↑r4.t8.length:Int)then match Jh r4.t8[r4.t10.toNat]!.fName with|none=>none|some r5=>bif bif r5 then false else true then some (7)else if(0:Int)<=r4.t10/\r4.t10<=(↑r4.b0.ai.length:Int)then match QE (List.take r4.t10.toNat r4.b0.ai) (cy.mk r4.t8[r4.t10.toNat]!.fName r4.t8[r4.t10.toNat]!.aa r4.t8[r4.t10.toNat]!.af (aq.mk r4.t8[r4.t10.toNat]!.au.aW r4.t8[r4.t10.toNat]!.au.fN r4.t8[r4.t10.toNat]!.au.aj))with|none=>none|some r6=>bif r6 then some (8)else bif bif A8 r4.t8[r4.t10.toNat]!.aa r4.t8[r4.t10.toNat]!.af then false else true then some (3)else match Ij r4.b0.ah (aq.mk r4.t8[r4.t10.toNat]!.au.aW r4.t8[r4.t10.toNat]!.au.fN r4.t8[r4.t10.toNat]!.au.aj) true with|none=>none|some r7=>bif bif decide (r7=0)then false else true then some (r7)else none else none else none else some (0)
def akl:aI->aI:=eL Tryz.prog 211 false (lc (qg 26) ln) d211 (fun g=>U2 g.1)
theorem Zz:EO akl:=fun h=>kL (an:=(.two .no (.two (.two .no (IG.lp Dg .no)) .no))) (l:=[(aS Tryz.f211 0,(IG.lp Dg .no))]) Tryz.func211 (MV (ZD (K0 (KS aK)))) (ax (aO IG) aC) h
def agz:aI:=cL
abbrev afo:Type:=Bool
def d308:Td 0 afo:= .c [] [2] (.r 0 0 (ec 2 qb en) sn (fun z=>z.1.1) (fun x=>((x,()),(()))) fun _=>rfl)
def ajx:=(lc (qi .i64) ln)
def abO:An:=(.two .no (.two (.rb [] 2) .no))
theorem akH:∀f∈([]:List Nat),aV (agz) f:=aC
def Nw(a0:Int):afo:=
 let r1:Bool:=bif decide (a0=0)then true else decide (a0=5);r1
theorem aov(a0:Int):bK Tryz.prog (agz) 300 (abO) 308 (ajx.c (a0,())) [] 0 d308.rd=some (Nw a0):=by
 refine Eq.trans (b:=(
  match bif decide (a0=0)then some (true)else some (decide (a0=5))with|none=>none|some r1=>some (r1):Option afo)) (by kernel_rfl) ?_
 simp only[Nw,bX,cn]
def ads:aI->aI:=eL Tryz.prog 308 false ajx d308 (fun g=>some (Nw g.1))
theorem Us:EO ads:=fun h=>kL (F:=agz) (an:=abO) (l:=[(.skip,(.rb [] 2))]) Tryz.func308 aK (ax akH aC) h (c:=fun g=>aov g.1)
theorem kT:EP ads:=fun h=>kP h
def adE:aI:=cL
abbrev af0:Type:=Bool
def d309:Td 0 af0:= .c [] [2] (.r 0 0 (ec 2 qb en) sn (fun z=>z.1.1) (fun x=>((x,()),(()))) fun _=>rfl)
def aiq:=(lc (qi .i64) ln)
def aa7:An:=(.two .no (.two (.rb [] 2) .no))
theorem ajO:∀f∈([]:List Nat),aV (adE) f:=aC
def Sj(a0:Int):af0:=
 let r1:Bool:=bif decide (a0=4)then true else decide (a0=5);r1
theorem aqN(a0:Int):bK Tryz.prog (adE) 300 (aa7) 309 (aiq.c (a0,())) [] 0 d309.rd=some (Sj a0):=by
 refine Eq.trans (b:=(
  match bif decide (a0=4)then some (true)else some (decide (a0=5))with|none=>none|some r1=>some (r1):Option af0)) (by kernel_rfl) ?_
 simp only[Sj,bX,cn]
def agJ:aI->aI:=eL Tryz.prog 309 false aiq d309 (fun g=>some (Sj g.1))
theorem UF:EO agJ:=fun h=>kL (F:=adE) (an:=aa7) (l:=[(.skip,(.rb [] 2))]) Tryz.func309 aK (ax ajO aC) h (c:=fun g=>aqN g.1)
theorem lF:EP agJ:=fun h=>kP h
def afh:aI:=cL
abbrev aeO:Type:=Bool
def d310:Td 0 aeO:= .c [] [2] (.r 0 0 (ec 2 qb en) sn (fun z=>z.1.1) (fun x=>((x,()),(()))) fun _=>rfl)
def akD:=(lc (qi .i64) ln)
def ab1:An:=(.two .no (.two (.rb [] 2) .no))
theorem aiW:∀f∈([]:List Nat),aV (afh) f:=aC
def RW(a0:Int):aeO:=
 let r1:Bool:=bif decide (a0=0)then true else bif decide (a0=1)then true else bif decide (a0=3)then true else decide (a0=4);r1
theorem apI(a0:Int):bK Tryz.prog (afh) 300 (ab1) 310 (akD.c (a0,())) [] 0 d310.rd=some (RW a0):=by
 refine Eq.trans (b:=(
  match bif decide (a0=0)then some (true)else bif decide (a0=1)then some (true)else bif decide (a0=3)then some (true)else some (decide (a0=4))with|none=>none|some r1=>some (r1):Option aeO)) (by kernel_rfl) ?_
 simp only[RW,bX,cn]
def ae3:aI->aI:=eL Tryz.prog 310 false akD d310 (fun g=>some (RW g.1))
theorem VE:EO ae3:=fun h=>kL (F:=afh) (an:=ab1) (l:=[(.skip,(.rb [] 2))]) Tryz.func310 aK (ax aiW aC) h (c:=fun g=>apI g.1)
theorem kQ:EP ae3:=fun h=>kP h
def agq:aI:=cL
abbrev afx:Type:=Bool
def d311:Td 0 afx:= .c [] [2] (.r 0 0 (ec 2 qb en) sn (fun z=>z.1.1) (fun x=>((x,()),(()))) fun _=>rfl)
def akd:=(lc (qg 137) ln)
def aau:An:=(.two .no (.two (.rb [] 2) .no))
theorem aiE:∀f∈([]:List Nat),aV (agq) f:=aC
def Oy(a0:aq):afx:=
 let r1:Bool:=bif decide (a0.aW=0)then bif decide (a0.fN=0)then decide ((↑a0.aj.length:Int)=0)else false else false;r1
theorem apS(a0:aq):bK Tryz.prog (agq) 300 (aau) 311 (akd.c (a0,())) [] 0 d311.rd=some (Oy a0):=by
 refine Eq.trans (b:=(
  match bif decide (a0.aW=0)then bif decide (a0.fN=0)then some (decide ((↑a0.aj.length:Int)=0))else some (false)else some (false)with|none=>none|some r1=>some (r1):Option afx)) (by kernel_rfl) ?_
 simp only[Oy,bX,cn]
def agQ:aI->aI:=eL Tryz.prog 311 false akd d311 (fun g=>some (Oy g.1))
theorem WX:EO agQ:=fun h=>kL (F:=agq) (an:=aau) (l:=[(.skip,(.rb [] 2))]) Tryz.func311 aK (ax aiE aC) h (c:=fun g=>apS g.1)
theorem lG:EP agQ:=fun h=>kP h
structure om where
 t0:List Int
 (t5 t6:Int)
def Is:Td 0 om:= .c [] [0,5,6] (.r 0 0 (ec 0 (ql 3) (ec 5 (qi .i64) (ec 6 (qi .i64) en))) sn (fun z=>⟨z.1.1,z.1.2.1,z.1.2.2.1⟩) (fun x=>((x.t0,x.t5,x.t6,()),(()))) fun _=>rfl)
def Dy(p:om):Option (Option om):=
 bif decide (p.t6<p.t5)then bif decide (0<p.t6)then if(0:Int)<=p.t6/\p.t6<(↑p.t0.length:Int)then if(0:Int)<=i64.wrap (p.t6-(1:Int))/\i64.wrap (p.t6-(1:Int))<(↑p.t0.length:Int)then bif decide (((p.t0,p.t5,p.t6,()),()).fst.fst[((p.t0,p.t5,p.t6,()),()).fst.snd.snd.fst.toNat]!<=((p.t0,p.t5,p.t6,()),()).fst.fst[(i64.wrap (((p.t0,p.t5,p.t6,()),()).fst.snd.snd.fst-1)).toNat]!)then some (none)else some (some (om.mk p.t0 p.t5 (i64.wrap (p.t6+1))))else none else none else some (some (om.mk p.t0 p.t5 (i64.wrap (p.t6+1))))else some (none)
def DO:om->Option om:=bt (Dy)
abbrev aiy:Type:=Bool
def d312:Td 0 aiy:= .c [] [2] (.r 0 0 (ec 2 qb en) sn (fun z=>z.1.1) (fun x=>((x,()),(()))) fun _=>rfl)
def NY(a0:List Int):Option aiy:=
 match DO (om.mk a0 (↑a0.length:Int) (0))with|none=>none|some r1=>bif decide (r1.t6<r1.t5)then bif decide (0<r1.t6)then if(0:Int)<=r1.t6/\r1.t6<(↑r1.t0.length:Int)then if(0:Int)<=i64.wrap (r1.t6-(1:Int))/\i64.wrap (r1.t6-(1:Int))<(↑r1.t0.length:Int)then bif decide (((r1.t0,r1.t5,r1.t6,()),()).fst.fst[((r1.t0,r1.t5,r1.t6,()),()).fst.snd.snd.fst.toNat]!<=((r1.t0,r1.t5,r1.t6,()),()).fst.fst[(i64.wrap (((r1.t0,r1.t5,r1.t6,()),()).fst.snd.snd.fst-1)).toNat]!)then some (false)else none else none else none else none else some (true)
def af3:aI->aI:=eL Tryz.prog 312 false (lc (ql 3) ln) d312 (fun g=>NY g.1)
theorem Z6:EO af3:=fun h=>kL (an:=(.two .no (.two (.two .no (Is.lp DO .no)) .no))) (l:=[(aS Tryz.f312 0,(Is.lp DO .no))]) Tryz.func312 aK (ax (aO Is) aC) h
theorem lC:EP af3:=fun h=>kP h
def akR:aI:=(af3 (agQ (ae3 (agJ (ads cL)))))
abbrev akO:Type:=Bool
def d268:Td 0 akO:= .c [] [6] (.r 0 0 (ec 6 qb en) sn (fun z=>z.1.1) (fun x=>((x,()),(()))) fun _=>rfl)
theorem qC:∀f∈([308,309,310,311,312]:List Nat),aV (akR) f:=(ax (lC (lG (kQ (lF (kT aY))))) (ax (lC (lG (kQ (lF (kT aY))))) (ax (lC (lG (kQ (lF (kT aY))))) (ax (lC (lG (kQ (lF (kT aY))))) (ax (lC (lG (kQ (lF (kT aY))))) aC)))))
def Jo(a0:Flat)(a1:GStep)(a2:Bool):Option akO:=
 match bif decide (a1.bG<0)then some (true)else some (decide (6<a1.bG))with|none=>none|some r1=>bif r1 then some (false)else match bif bif Nw a1.bG then false else true then some (bif decide (a1.cC=0)then false else true)else some (false)with|none=>none|some r2=>bif r2 then some (false)else match bif bif Sj a1.bG then false else true then some (bif decide (a1.fN=0)then false else true)else some (false)with|none=>none|some r3=>bif r3 then some (false)else match bif bif RW a1.bG then false else true then some (bif Oy (aq.mk a1.au.aW a1.au.fN a1.au.aj)then false else true)else some (false)with|none=>none|some r4=>bif r4 then some (false)else match bif bif decide (a1.bG=3)then false else true then bif bif decide (a1.bG=4)then false else true then some (decide (0<(↑a1.aH.length:Int)))else some (false)else some (false)with|none=>none|some r5=>bif r5 then some (false)else match bif bif decide (a1.bG=3)then false else true then some (decide (0<(↑a1.aJ.length:Int)))else some (false)with|none=>none|some r6=>bif r6 then some (false)else match bif bif decide (a1.bG=6)then false else true then some (decide (0<(↑a1.aG.length:Int)))else some (false)with|none=>none|some r7=>bif r7 then some (false)else match bif Nw a1.bG then bif decide (a1.cC<0)then some (true)else bif decide ((↑a0.ah.length:Int)<=a1.cC)then some (true)else if(0:Int)<=a1.cC/\a1.cC<(↑a0.ah.length:Int)then some (bif decide (a0.ah[a1.cC.toNat]!.bf=0)then false else true)else none else some (false)with|none=>none|some r8=>bif r8 then some (false)else match bif decide (a1.bG=5)then bif decide (a1.fN<0)then some (true)else some (decide ((↑a0.ai.length:Int)<=a1.fN))else some (false)with|none=>none|some r9=>bif r9 then some (false)else match bif bif decide (a1.bG=6)then false else true then some (true)else bif a2 then bif decide (0<(↑a1.aG.length:Int))then bif decide ((↑a1.aG.length:Int)<=32)then if(0:Int)<=(0:Int)/\(0:Int)<(↑a1.aG.length:Int)then bif decide (0<=a1.aG[Int.toNat 0]!)then match NY a1.aG with|none=>none|some r10=>some (r10)else some (false)else none else some (false)else some (false)else some (false)with|none=>none|some r11=>some (r11)
def ac1:aI->aI:=eL Tryz.prog 268 false (lc (qg 26) (lc (qg 166) (lc qb ln))) d268 (fun g=>Jo g.1 g.2.1 g.2.2.1)
theorem Z7:EO ac1:=fun h=>kL (F:=akR) (an:=(.two .no (.two .no (.two (.two (.two (.rb [308,309,310,311,312] 10) (.two .no (.two (.rb [308,309,310,311,312] 10) (.two .no (.two (.rb [308,309,310,311,312] 10) (.two .no (.two (.rb [308,309,310,311,312] 10) (.two .no (.two (.rb [308,309,310,311,312] 10) (.two .no (.two (.rb [308,309,310,311,312] 10) (.two .no (.two (.rb [308,309,310,311,312] 10) (.two .no (.two (.rb [308,309,310,311,312] 10) (.two .no (.rb [308,309,310,311,312] 10))))))))))))))))) .no) (.two (.rb [308,309,310,311,312] 6) .no))))) (l:=[(.skip,(.rb [308,309,310,311,312] 10)),(.skip,(.rb [308,309,310,311,312] 10)),(.skip,(.rb [308,309,310,311,312] 10)),(.skip,(.rb [308,309,310,311,312] 10)),(.skip,(.rb [308,309,310,311,312] 10)),(.skip,(.rb [308,309,310,311,312] 10)),(.skip,(.rb [308,309,310,311,312] 10)),(.skip,(.rb [308,309,310,311,312] 10)),(.skip,(.rb [308,309,310,311,312] 10)),(.skip,(.rb [308,309,310,311,312] 6))]) Tryz.func268 (Z6 (WX (VE (UF (Us aK))))) (ax qC (ax qC (ax qC (ax qC (ax qC (ax qC (ax qC (ax qC (ax qC (ax qC aC)))))))))) h
theorem Nu:EP ac1:=fun h=>kP h
def amD:aI:=cL
abbrev ams:Type:=Bool
def d269:Td 0 ams:= .c [] [2] (.r 0 0 (ec 2 qb en) sn (fun z=>z.1.1) (fun x=>((x,()),(()))) fun _=>rfl)
theorem abN:∀f∈([]:List Nat),aV (amD) f:=aC
def HU(a0:GStep):Option ams:=
 bif decide (a0.bG=2)then match bif decide (a0.aL<0)then some (true)else bif decide (67108864<a0.aL)then some (true)else bif decide (a0.bG=4)then bif decide (a0.fN<0)then some (true)else some (decide (4096<a0.fN))else some (false)with|none=>none|some r1=>bif r1 then some (false)else match bif bif decide (a0.bG=6)then false else true then some (true)else if(0:Int)<=i64.wrap ((↑a0.aG.length:Int)-(1:Int))/\i64.wrap ((↑a0.aG.length:Int)-(1:Int))<(↑a0.aG.length:Int)then some (decide (a0.aG[(i64.wrap ((↑a0.aG.length:Int)-1)).toNat]!<=67108864))else none with|none=>none|some r2=>some (r2)else match bif decide (a0.aL<0)then some (true)else bif decide (10000<a0.aL)then some (true)else bif decide (a0.bG=4)then bif decide (a0.fN<0)then some (true)else some (decide (4096<a0.fN))else some (false)with|none=>none|some r3=>bif r3 then some (false)else match bif bif decide (a0.bG=6)then false else true then some (true)else if(0:Int)<=i64.wrap ((↑a0.aG.length:Int)-(1:Int))/\i64.wrap ((↑a0.aG.length:Int)-(1:Int))<(↑a0.aG.length:Int)then some (decide (a0.aG[(i64.wrap ((↑a0.aG.length:Int)-1)).toNat]!<=67108864))else none with|none=>none|some r4=>some (r4)
def aeX:aI->aI:=eL Tryz.prog 269 false (lc (qg 166) ln) d269 (fun g=>HU g.1)
theorem Up:EO aeX:=fun h=>kL (F:=amD) (an:=(.two .no (.two .no (.two .no (.two (.two (.rb [] 30) .no) (.two (.rb [] 2) .no)))))) (l:=[(.skip,(.rb [] 30)),(.skip,(.rb [] 2))]) Tryz.func269 aK (ax abN (ax abN aC)) h
theorem NC:EP aeX:=fun h=>kP h
abbrev jZ:Type:=Int
def d212:Td 0 jZ:= .c [] [6] (.r 0 0 (ec 6 (qi .i64) en) sn (fun z=>z.1.1) (fun x=>((x,()),(()))) fun _=>rfl)
def ad5:=(lc (qg 26) (lc (ql 166) (lc qb ln)))
def WV(M:Flat->(List GStep)->Bool->Option jZ):aI->aI:=eL Tryz.prog 212 false ad5 d212 (fun g=>M g.1 g.2.1 g.2.2.1)
theorem Oa{M:Flat->(List GStep)->Bool->Option jZ}{F:aI}{f:Nat}(h:aV F f):aV (WV M F) f:=fy h (fun _=>by kernel_rfl)
def Zx(M:Flat->(List GStep)->Bool->Option jZ):Prop:=HL Tryz.prog 212 ad5 d212 (fun g=>M g.1 g.2.1 g.2.2.1)
theorem My{M:Flat->(List GStep)->Bool->Option jZ}(hM:Zx M){F:aI}(h:aZ Tryz.prog F):aZ Tryz.prog (WV M F):=fW (sc:=wQ) dL hM ⟨_,Tryz.func212,by kernel_rfl,by kernel_rfl⟩ (fun _=>by kernel_rfl) (fun _=>by kernel_rfl) h
def Xy(M212:Flat->(List GStep)->Bool->Option jZ):aI:=(aeX (ac1 (aeD (WV M212 cL))))
theorem Yg{M212}(h212:Zx M212):aZ Tryz.prog (Xy M212):=(Up (Z7 (MV (My h212 aK))))
structure oL where
 t1:List GStep
 t2:Bool
 t13:List GStep
 (t14 t15:Int)
 t47:List (List GStep)
 (t48 t49:Int)
 b0:Flat
def J7:Td 0 oL:= .c [] [1,2,3,13,14,15,47,48,49] (.r 0 2 (ec 1 (ql 166) (ec 2 qb (ec 3 (qp 0 0) (ec 13 (ql 166) (ec 14 (qi .i64) (ec 15 (qi .i64) (ec 47 (qo 1) (ec 48 (qi .i64) (ec 49 (qi .i64) en))))))))) (sb 0 26 (lg 26) (sr 1 24 sn)) (fun z=>⟨z.1.1,z.1.2.1,z.1.2.2.2.1,z.1.2.2.2.2.1,z.1.2.2.2.2.2.1,z.2.2.1,z.1.2.2.2.2.2.2.2.1,z.1.2.2.2.2.2.2.2.2.1,z.2.1⟩) (fun x=>((x.t1,x.t2,(),x.t13,x.t14,x.t15,(),x.t48,x.t49,()),(x.b0,x.t47,()))) fun _=>rfl)
def rG(M212:Flat->(List GStep)->Bool->Option jZ)(p:oL):Option (Option oL):=
 bif decide (p.t49<p.t48)then if(0:Int)<=p.t49/\p.t49<(↑p.t47.length:Int)then if 24=24/\p.t49.toNat<p.t47.length then match M212 p.b0 p.t47[p.t49.toNat]! false with|none=>none|some r8=>bif bif decide (r8=0)then false else true then some (none)else some (some (oL.mk p.t1 p.t2 p.t13 p.t14 p.t15 p.t47 p.t48 (i64.wrap (p.t49+1)) p.b0))else none else none else some (none)
def uh(M212:Flat->(List GStep)->Bool->Option jZ):oL->Option oL:=bt (rG M212)
structure qN where
 t1:List GStep
 t2:Bool
 t13:List GStep
 (t14 t15:Int)
 b0:Flat
def G8:Td 0 qN:= .c [] [1,2,3,13,14,15] (.r 0 1 (ec 1 (ql 166) (ec 2 qb (ec 3 (qp 0 0) (ec 13 (ql 166) (ec 14 (qi .i64) (ec 15 (qi .i64) en)))))) (sb 0 26 (lg 26) sn) (fun z=>⟨z.1.1,z.1.2.1,z.1.2.2.2.1,z.1.2.2.2.2.1,z.1.2.2.2.2.2.1,z.2.1⟩) (fun x=>((x.t1,x.t2,(),x.t13,x.t14,x.t15,()),(x.b0,()))) fun _=>rfl)
def u9(M212:Flat->(List GStep)->Bool->Option jZ)(p:qN):Option (Option qN):=
 bif decide (p.t15<p.t14)then if(0:Int)<=p.t15/\p.t15<(↑p.t13.length:Int)then match bif p.t2 then match Jo p.b0 (GStep.mk p.t13[p.t15.toNat]!.bG p.t13[p.t15.toNat]!.aL p.t13[p.t15.toNat]!.cC p.t13[p.t15.toNat]!.fN (aq.mk p.t13[p.t15.toNat]!.au.aW p.t13[p.t15.toNat]!.au.fN p.t13[p.t15.toNat]!.au.aj) p.t13[p.t15.toNat]!.aH p.t13[p.t15.toNat]!.aJ p.t13[p.t15.toNat]!.aG) (decide (((p.t1,p.t2,(),p.t13,p.t14,p.t15,()),p.b0,()).fst.snd.snd.snd.snd.snd.fst=i64.wrap ((↑((p.t1,p.t2,(),p.t13,p.t14,p.t15,()),p.b0,()).fst.fst.length:Int)-1)))with|none=>none|some r1=>some (bif r1 then false else true)else match Jo p.b0 (GStep.mk p.t13[p.t15.toNat]!.bG p.t13[p.t15.toNat]!.aL p.t13[p.t15.toNat]!.cC p.t13[p.t15.toNat]!.fN (aq.mk p.t13[p.t15.toNat]!.au.aW p.t13[p.t15.toNat]!.au.fN p.t13[p.t15.toNat]!.au.aj) p.t13[p.t15.toNat]!.aH p.t13[p.t15.toNat]!.aJ p.t13[p.t15.toNat]!.aG) false with|none=>none|some r2=>some (bif r2 then false else true)with|none=>none|some r3=>bif r3 then some (none)else match HU (GStep.mk p.t13[p.t15.toNat]!.bG p.t13[p.t15.toNat]!.aL p.t13[p.t15.toNat]!.cC p.t13[p.t15.toNat]!.fN (aq.mk p.t13[p.t15.toNat]!.au.aW p.t13[p.t15.toNat]!.au.fN p.t13[p.t15.toNat]!.au.aj) p.t13[p.t15.toNat]!.aH p.t13[p.t15.toNat]!.aJ p.t13[p.t15.toNat]!.aG)with|none=>none|some r4=>bif bif r4 then false else true then some (none)else match Ij p.b0.ah (aq.mk p.t13[p.t15.toNat]!.au.aW p.t13[p.t15.toNat]!.au.fN p.t13[p.t15.toNat]!.au.aj) false with|none=>none|some r5=>bif bif decide (r5=0)then false else true then some (none)else match uh M212 (oL.mk p.t1 p.t2 p.t13 p.t14 p.t15 [p.t13[p.t15.toNat]!.aH,p.t13[p.t15.toNat]!.aJ] (↑[p.t13[p.t15.toNat]!.aH,p.t13[p.t15.toNat]!.aJ].length:Int) (0) p.b0)with|none=>none|some r6=>bif decide (r6.t49<r6.t48)then if(0:Int)<=r6.t49/\r6.t49<(↑r6.t47.length:Int)then if 24=24/\r6.t49.toNat<r6.t47.length then match M212 r6.b0 r6.t47[r6.t49.toNat]! false with|none=>none|some r7=>bif bif decide (r7=0)then false else true then some (none)else none else none else none else some (some (qN.mk r6.t1 r6.t2 r6.t13 r6.t14 (i64.wrap (r6.t15+1)) r6.b0))else none else some (none)
def RB(M212:Flat->(List GStep)->Bool->Option jZ):An:=(.two .no (.two .no (.two (.two .no (.two (.two (.rb [268] 31) .no) (.two .no (.two .no (.two .no (J7.lp (uh M212) .no)))))) .no)))
def DK(M212:Flat->(List GStep)->Bool->Option jZ):qN->Option qN:=bt (u9 M212)
def abo(M212:Flat->(List GStep)->Bool->Option jZ):An:=(.two .no (.two (.two .no (G8.lp (DK M212) (RB M212))) .no))
theorem ak4{M212}:∀f∈([268]:List Nat),aV (Xy M212) f:=(ax (NC (Nu (Nz (Oa aY)))) aC)
theorem aiH(M212:Flat->(List GStep)->Bool->Option jZ):eC Tryz.prog (Xy M212) 0 300 212 (abo M212):=bT (l:=[(aS Tryz.f212 0,(G8.lp (DK M212) (RB M212))),(.skip,(.rb [268] 31)),(aS Tryz.f212 1,(J7.lp (uh M212) .no))]) Tryz.func212 (bA (by kernel_rfl)) (by kernel_rfl) (ax (aO G8) (ax ak4 (ax (aO J7) aC)))
def Yt(M212:Flat->(List GStep)->Bool->Option jZ)(a0:Flat)(a1:List GStep)(a2:Bool):Option jZ:=
 match DK M212 (qN.mk a1 a2 a1 (↑a1.length:Int) (0) a0)with|none=>none|some r9=>bif decide (r9.t15<r9.t14)then if(0:Int)<=r9.t15/\r9.t15<(↑r9.t13.length:Int)then match bif r9.t2 then match Jo r9.b0 (GStep.mk r9.t13[r9.t15.toNat]!.bG r9.t13[r9.t15.toNat]!.aL r9.t13[r9.t15.toNat]!.cC r9.t13[r9.t15.toNat]!.fN (aq.mk r9.t13[r9.t15.toNat]!.au.aW r9.t13[r9.t15.toNat]!.au.fN r9.t13[r9.t15.toNat]!.au.aj) r9.t13[r9.t15.toNat]!.aH r9.t13[r9.t15.toNat]!.aJ r9.t13[r9.t15.toNat]!.aG) (decide (((r9.t1,r9.t2,(),r9.t13,r9.t14,r9.t15,()),r9.b0,()).fst.snd.snd.snd.snd.snd.fst=i64.wrap ((↑((r9.t1,r9.t2,(),r9.t13,r9.t14,r9.t15,()),r9.b0,()).fst.fst.length:Int)-1)))with|none=>none|some r10=>some (bif r10 then false else true)else match Jo r9.b0 (GStep.mk r9.t13[r9.t15.toNat]!.bG r9.t13[r9.t15.toNat]!.aL r9.t13[r9.t15.toNat]!.cC r9.t13[r9.t15.toNat]!.fN (aq.mk r9.t13[r9.t15.toNat]!.au.aW r9.t13[r9.t15.toNat]!.au.fN r9.t13[r9.t15.toNat]!.au.aj) r9.t13[r9.t15.toNat]!.aH r9.t13[r9.t15.toNat]!.aJ r9.t13[r9.t15.toNat]!.aG) false with|none=>none|some r11=>some (bif r11 then false else true)with|none=>none|some r12=>bif r12 then some (1)else match HU (GStep.mk r9.t13[r9.t15.toNat]!.bG r9.t13[r9.t15.toNat]!.aL r9.t13[r9.t15.toNat]!.cC r9.t13[r9.t15.toNat]!.fN (aq.mk r9.t13[r9.t15.toNat]!.au.aW r9.t13[r9.t15.toNat]!.au.fN r9.t13[r9.t15.toNat]!.au.aj) r9.t13[r9.t15.toNat]!.aH r9.t13[r9.t15.toNat]!.aJ r9.t13[r9.t15.toNat]!.aG)with|none=>none|some r13=>bif bif r13 then false else true then some (3)else match Ij r9.b0.ah (aq.mk r9.t13[r9.t15.toNat]!.au.aW r9.t13[r9.t15.toNat]!.au.fN r9.t13[r9.t15.toNat]!.au.aj) false with|none=>none|some r14=>bif bif decide (r14=0)then false else true then some (r14)else match uh M212 (oL.mk r9.t1 r9.t2 r9.t13 r9.t14 r9.t15 [r9.t13[r9.t15.toNat]!.aH,r9.t13[r9.t15.toNat]!.aJ] (↑[r9.t13[r9.t15.toNat]!.aH,r9.t13[r9.t15.toNat]!.aJ].length:Int) (0) r9.b0)with|none=>none|some r15=>bif decide (r15.t49<r15.t48)then if(0:Int)<=r15.t49/\r15.t49<(↑r15.t47.length:Int)then if 24=24/\r15.t49.toNat<r15.t47.length then match M212 r15.b0 r15.t47[r15.t49.toNat]! false with|none=>none|some r16=>bif bif decide (r16=0)then false else true then some (r16)else none else none else none else none else none else some (0)
theorem apR(M212:Flat->(List GStep)->Bool->Option jZ)(a0:Flat)(a1:List GStep)(a2:Bool):bK Tryz.prog (Xy M212) 300 (abo M212) 212 (ad5.c (a0,a1,a2,())) [] 0 d212.rd=Yt M212 a0 a1 a2:=by kernel_rfl
def abI:Nat->(Flat->(List GStep)->Bool->Option jZ)
 |0=>(fun _ _ _=>none)
 |n+1=>(Yt (abI n))
def Jf(n:Nat):Flat->(List GStep)->Bool->Option jZ:=(abI n)
theorem Ej:∀n,Zx (Jf n)
 |0=>fun _ _ h=>(by cases h)
 |n+1=>by
  have ih:=Ej n
  have i212:=ih
  exact(dx (Yg i212) (aiH (Jf n)) (fun _=>by kernel_rfl) (fun _=>by kernel_rfl) fun g=>apR (Jf n) g.1 g.2.1 g.2.2.1)
def Xn:Flat->(List GStep)->Bool->Option jZ:=fun a0 a1 a2=>lim (fun n=>Jf n a0 a1 a2)
theorem ZC:Zx Xn:=fun g b h=>by
 obtain⟨n,hn⟩:=cz (show lim (fun n=>Jf n g.1 g.2.1 g.2.2.1)=some b from h)
 exact(Ej n) g b hn
def ajd(F:aI):aI:=WV Xn F
theorem Zc{F:aI}(h:aZ Tryz.prog F):aZ Tryz.prog (ajd F):=My ZC h
abbrev p9:Type:=nO
def d213:Td 0 p9:= .c [] [2] (.r 0 1 (ec 2 (qp 0 0) en) (sb 0 260 (lg 260) sn) (fun z=>z.2.1) (fun x=>(((),()),(x,()))) fun _=>rfl)
def adK:=(lc (ql 166) ln)
def adV(M:(List GStep)->Option p9):aI->aI:=eL Tryz.prog 213 false adK d213 (fun g=>M g.1)
def Za(M:(List GStep)->Option p9):Prop:=HL Tryz.prog 213 adK d213 (fun g=>M g.1)
theorem Lq{M:(List GStep)->Option p9}(hM:Za M){F:aI}(h:aZ Tryz.prog F):aZ Tryz.prog (adV M F):=fW (sc:=wQ) dL hM ⟨_,Tryz.func213,by kernel_rfl,by kernel_rfl⟩ (fun _=>by kernel_rfl) (fun _=>by kernel_rfl) h
def adk(M213:(List GStep)->Option p9):aI:=(adV M213 cL)
theorem UE{M213}(h213:Za M213):aZ Tryz.prog (adk M213):=(Lq h213 aK)
structure kr where
 t9:List GStep
 (t10 t11:Int)
 (b0 b1:nO)
def I5:Td 0 kr:= .c [] [2,3,9,10,11] (.r 0 2 (ec 2 (qp 0 0) (ec 3 (qp 1 0) (ec 9 (ql 166) (ec 10 (qi .i64) (ec 11 (qi .i64) en))))) (sb 0 260 (lg 260) (sb 1 260 (lg 260) sn)) (fun z=>⟨z.1.2.2.1,z.1.2.2.2.1,z.1.2.2.2.2.1,z.2.1,z.2.2.1⟩) (fun x=>(((),(),x.t9,x.t10,x.t11,()),(x.b0,x.b1,()))) fun _=>rfl)
def CL(M213:(List GStep)->Option p9)(p:kr):Option (Option kr):=
 bif decide (p.t11<p.t10)then if(0:Int)<=p.t11/\p.t11<(↑p.t9.length:Int)then match M213 p.t9[p.t11.toNat]!.aH with|none=>none|some r1=>match M213 p.t9[p.t11.toNat]!.aJ with|none=>none|some r2=>bif decide (p.t9[p.t11.toNat]!.bG=1)then some (some (kr.mk p.t9 p.t10 (i64.wrap (p.t11+1)) p.b0 (nO.mk (if 1099511627776<i64.wrap (p.b1.ek+1)then 1099511627776 else i64.wrap (p.b1.ek+1)) (if 1099511627776<i64.wrap (p.b1.bF+1)then 1099511627776 else i64.wrap (p.b1.bF+1)) (if 1099511627776<i64.wrap (p.b1.aB+p.t9[p.t11.toNat]!.aL)then 1099511627776 else i64.wrap (p.b1.aB+p.t9[p.t11.toNat]!.aL)))))else bif decide (p.t9[p.t11.toNat]!.bG=3)then some (some (kr.mk p.t9 p.t10 (i64.wrap (p.t11+1)) p.b0 (nO.mk (if 1099511627776<i64.wrap (p.b1.ek+i64.wrap (1+if r1.ek<r2.ek then r2.ek else r1.ek))then 1099511627776 else i64.wrap (p.b1.ek+i64.wrap (1+if r1.ek<r2.ek then r2.ek else r1.ek))) (if 1099511627776<i64.wrap (p.b1.bF+if r1.bF<r2.bF then r2.bF else r1.bF)then 1099511627776 else i64.wrap (p.b1.bF+if r1.bF<r2.bF then r2.bF else r1.bF)) (if 1099511627776<i64.wrap (p.b1.aB+i64.wrap (p.t9[p.t11.toNat]!.aL+if r1.aB<r2.aB then r2.aB else r1.aB))then 1099511627776 else i64.wrap (p.b1.aB+i64.wrap (p.t9[p.t11.toNat]!.aL+if r1.aB<r2.aB then r2.aB else r1.aB))))))else bif decide (p.t9[p.t11.toNat]!.bG=4)then some (some (kr.mk p.t9 p.t10 (i64.wrap (p.t11+1)) p.b0 (nO.mk (if 1099511627776<i64.wrap (p.b1.ek+i64.wrap (1+i64.wrap (p.t9[p.t11.toNat]!.fN*i64.wrap (1+r1.ek))))then 1099511627776 else i64.wrap (p.b1.ek+i64.wrap (1+i64.wrap (p.t9[p.t11.toNat]!.fN*i64.wrap (1+r1.ek))))) (if 1099511627776<i64.wrap (p.b1.bF+i64.wrap (p.t9[p.t11.toNat]!.fN*r1.bF))then 1099511627776 else i64.wrap (p.b1.bF+i64.wrap (p.t9[p.t11.toNat]!.fN*r1.bF))) (if 1099511627776<i64.wrap (p.b1.aB+i64.wrap (p.t9[p.t11.toNat]!.fN*i64.wrap (p.t9[p.t11.toNat]!.aL+r1.aB)))then 1099511627776 else i64.wrap (p.b1.aB+i64.wrap (p.t9[p.t11.toNat]!.fN*i64.wrap (p.t9[p.t11.toNat]!.aL+r1.aB)))))))else some (some (kr.mk p.t9 p.t10 (i64.wrap (p.t11+1)) p.b0 (nO.mk (if 1099511627776<i64.wrap (p.b1.ek+1)then 1099511627776 else i64.wrap (p.b1.ek+1)) (if 1099511627776<i64.wrap (p.b1.bF+0)then 1099511627776 else i64.wrap (p.b1.bF+0)) (if 1099511627776<i64.wrap (p.b1.aB+p.t9[p.t11.toNat]!.aL)then 1099511627776 else i64.wrap (p.b1.aB+p.t9[p.t11.toNat]!.aL)))))else none else some (none)
def Bv(M213:(List GStep)->Option p9):kr->Option kr:=bt (CL M213)
def ab3(M213:(List GStep)->Option p9):An:=(.two .no (.two .no (.two (.two .no (I5.lp (Bv M213) .no)) .no)))
theorem am0(M213:(List GStep)->Option p9):eC Tryz.prog (adk M213) 0 300 213 (ab3 M213):=bT (l:=[(aS Tryz.f213 0,(I5.lp (Bv M213) .no))]) Tryz.func213 (bA (by kernel_rfl)) (by kernel_rfl) (ax (aO I5) aC)
def XL(M213:(List GStep)->Option p9)(a0:List GStep):Option p9:=
 match Bv M213 (kr.mk a0 (↑a0.length:Int) (0) (nO.mk (0) (0) (0)) (nO.mk (0) (0) (0)))with|none=>none|some r3=>bif decide (r3.t11<r3.t10)then if(0:Int)<=r3.t11/\r3.t11<(↑r3.t9.length:Int)then match M213 r3.t9[r3.t11.toNat]!.aH with|none=>none|some r4=>match M213 r3.t9[r3.t11.toNat]!.aJ with|none=>none|some r5=>bif decide (r3.t9[r3.t11.toNat]!.bG=1)then none else bif decide (r3.t9[r3.t11.toNat]!.bG=3)then none else bif decide (r3.t9[r3.t11.toNat]!.bG=4)then none else none else none else some (r3.b1)
theorem aoM(M213:(List GStep)->Option p9)(a0:List GStep):bK Tryz.prog (adk M213) 300 (ab3 M213) 213 (adK.c (a0,())) [] 0 d213.rd=XL M213 a0:=by kernel_rfl
def aaO:Nat->((List GStep)->Option p9)
 |0=>(fun _=>none)
 |n+1=>(XL (aaO n))
def I8(n:Nat):(List GStep)->Option p9:=(aaO n)
theorem FT:∀n,Za (I8 n)
 |0=>fun _ _ h=>(by cases h)
 |n+1=>by
  have ih:=FT n
  have i213:=ih
  exact(dx (UE i213) (am0 (I8 n)) (fun _=>by kernel_rfl) (fun _=>by kernel_rfl) fun g=>aoM (I8 n) g.1)
def Px:(List GStep)->Option p9:=fun a0=>lim (fun n=>I8 n a0)
theorem Y8:Za Px:=fun g b h=>by
 obtain⟨n,hn⟩:=cz (show lim (fun n=>I8 n g.1)=some b from h)
 exact(FT n) g b hn
def alS(F:aI):aI:=adV Px F
theorem V3{F:aI}(h:aZ Tryz.prog F):aZ Tryz.prog (alS F):=Lq Y8 h
def akv:aI:=(alS (ajd (akl (amv (aeZ (U9 (aj3 cL)))))))
structure nX where
 t14:List cy
 (t15 t16:Int)
 b0:Flat
 b1:aM
def Kc:Td 0 nX:= .c [] [1,3,14,15,16] (.r 0 2 (ec 1 (qp 0 0) (ec 3 (qp 1 0) (ec 14 (ql 139) (ec 15 (qi .i64) (ec 16 (qi .i64) en))))) (sb 0 26 (lg 26) (sb 1 256 (lg 256) sn)) (fun z=>⟨z.1.2.2.1,z.1.2.2.2.1,z.1.2.2.2.2.1,z.2.1,z.2.2.1⟩) (fun x=>(((),(),x.t14,x.t15,x.t16,()),(x.b0,x.b1,()))) fun _=>rfl)
def xd(p:nX):Option (Option nX):=
 bif decide (p.t16<p.t15)then if(0:Int)<=p.t16/\p.t16<(↑p.t14.length:Int)then bif bif(gW p.b1).fst then false else true then match zN (aq.mk p.t14[p.t16.toNat]!.au.aW p.t14[p.t16.toNat]!.au.fN p.t14[p.t16.toNat]!.au.aj) (1) (gW p.b1).snd with|none=>none|some r1=>some (some (nX.mk p.t14 p.t15 (i64.wrap (p.t16+1)) p.b0 r1))else some (some (nX.mk p.t14 p.t15 (i64.wrap (p.t16+1)) p.b0 (gW p.b1).snd))else none else some (none)
def wR:nX->Option nX:=bt (xd)
abbrev ahA:Type:=Int
def d136:Td 0 ahA:= .c [] [2] (.r 0 0 (ec 2 (qi .i64) en) sn (fun z=>z.1.1) (fun x=>((x,()),(()))) fun _=>rfl)
theorem alR:∀f∈([]:List Nat),aV (akv) f:=aC
def ZZ(a0:Flat):Option ahA:=
 match Qd a0.bw (1) (aM.mk (0) false)with|none=>none|some r2=>match wR (nX.mk a0.ai (↑a0.ai.length:Int) (0) a0 r2)with|none=>none|some r3=>bif decide (r3.t16<r3.t15)then if(0:Int)<=r3.t16/\r3.t16<(↑r3.t14.length:Int)then bif bif(gW r3.b1).fst then false else true then match zN (aq.mk r3.t14[r3.t16.toNat]!.au.aW r3.t14[r3.t16.toNat]!.au.fN r3.t14[r3.t16.toNat]!.au.aj) (1) (gW r3.b1).snd with|none=>none|some r4=>none else none else none else bif decide (64<(↑r3.b0.ah.length:Int))then some (4)else bif decide (8<(↑r3.b0.ai.length:Int))then some (4)else bif(gW r3.b1).fst then some (4)else match Yy r3.b0.ah with|none=>none|some r5=>bif bif decide (r5=0)then false else true then some (r5)else match U2 r3.b0 with|none=>none|some r6=>bif bif decide (r6=0)then false else true then some (r6)else match Xn r3.b0 r3.b0.bw true with|none=>none|some r7=>bif bif decide (r7=0)then false else true then some (r7)else match Px r3.b0.bw with|none=>none|some r8=>match bif decide (4096<r8.ek)then some (true)else bif decide (8<r8.bF)then some (true)else some (decide (67108864<r8.aB))with|none=>none|some r9=>bif r9 then some (4)else some (0)
def afi:aI->aI:=eL Tryz.prog 136 false (lc (qg 26) ln) d136 (fun g=>ZZ g.1)
theorem VG:EO afi:=fun h=>kL (F:=akv) (an:=(.two .no (.two .no (.two .no (.two (.two .no (Kc.lp wR .no)) (.two .no (.two .no (.two .no (.two .no (.two (.two .no (.two (.rb [] 72) .no)) .no)))))))))) (l:=[(aS Tryz.f136 0,(Kc.lp wR .no)),(.skip,(.rb [] 72))]) Tryz.func136 (V3 (Zc (Zz (ZF (Mx (Ba (XH aK))))))) (ax (aO Kc) (ax alR aC)) h
theorem AA:EP afi:=fun h=>kP h
end Go.Proofs.YtnfljbehcffmcaaGreat
end
noncomputable section
namespace Go.Proofs.YtnfljbehcffmcaaGreat
open Go Go.Iv
theorem Pm(l:List UInt8):(ByteArray.mk (Array.mk l)).toList=l:=by
 have key:∀(k i:Nat) (acc:List UInt8),i+k=l.length->ByteArray.toList.loop (ByteArray.mk (Array.mk l)) i acc=acc.reverse++l.drop i:=by
  intro k
  induction k with
  |zero=>
   intro i acc h
   rw[ByteArray.toList.loop]
   have hs:(ByteArray.mk (Array.mk l)).size=l.length:=rfl
   rw[if_neg (by rw[hs];omega)]
   rw[List.drop_of_length_le (by omega),List.append_nil]
  |succ k ih=>
   intro i acc h
   rw[ByteArray.toList.loop]
   have hs:(ByteArray.mk (Array.mk l)).size=l.length:=rfl
   rw[if_pos (by rw[hs];omega),ih (i+1) _ (by omega)]
   have hi:i<l.length:=by omega
   rw[List.drop_eq_getElem_cons hi]
   have:(ByteArray.mk (Array.mk l)).get! i=l[i]:=by
    show (Array.mk l)[i]! =_
    rw[getElem!_pos (Array.mk l) i hi]
    rfl
   rw[this]
   simp
 have:=key l.length 0 [] (by omega)
 simpa [ByteArray.toList]using this
theorem afl(s:ByteArray):(s.toList==(ByteArray.mk (Array.mk [])).toList)=decide (s.size=0):=by
 obtain⟨⟨l⟩⟩:=s
 rw[Pm,Pm]
 have hs:(ByteArray.mk (Array.mk l)).size=l.length:=rfl
 rw[hs]
 cases l with
 |nil=>rfl
 |cons a l=>simp
theorem pq{n i:Nat}(h:i<n):(List.range n)[i]! =i:=by rw[getElem!_pos _ i (by simpa using h)];simp
theorem wg(s:ByteArray):Jh s=some (gJ s):=by
 unfold Jh
 rw[afl]
 by_cases h0:s.size=0
 ·simp[h0,gJ]
 by_cases h1:40<(s.size:Int)
 ·have h1':¬s.size<=40:=by omega
  simp[h0,h1,h1',gJ]
 rw[decide_eq_false h0,decide_eq_false h1]
 dsimp only[cond_false]
 obtain⟨i,e1,hc⟩:=nV (rnd:=Bh) (List.range s.size) (fun i=>⟨s,(s.size:Int),(i:Int)⟩) (fun i j=>ZS j (bM s j)) (fun i hi=>by
  rw[List.length_range]at hi
  have hw:=fh hi (by omega)
  rw[pq hi]
  unfold Bh ZS
  dsimp only
  simp only[Bool.cond_decide,Int.toNat_natCast]
  grind) (by unfold Bh;simp)
 have e1':Bz ⟨s,(s.size:Int),0⟩=some ⟨s,(s.size:Int),(i:Int)⟩:=e1
 rw[e1']
 have h2:gJ s=(List.range s.size).all fun i=>ZS i (bM s i):=by
  unfold gJ
  rw[pU,pU]
  simp
 rw[h2]
 dsimp only
 rcases hc with ⟨rfl,hc⟩|⟨hi,hc⟩
 ·rw[x9 hc]
  simp
 ·rw[tI hi hc]
  rw[List.length_range]at hi
  rw[pq hi]at hc
  unfold ZS at hc
  simp only[Bool.cond_decide,Int.toNat_natCast]
  grind
theorem vV(s:ByteArray):Il s=some (gJ s):=by
 unfold Il
 by_cases h0:s.size<1
 ·have h0':¬1<=s.size:=by omega
  have h0'':(s.size:Int)<1:=by omega
  simp[h0'',h0',gJ]
 by_cases h1:40<(s.size:Int)
 ·have h1':¬s.size<=40:=by omega
  have h0'':¬(s.size:Int)<1:=by omega
  simp[h0'',h1,h1',gJ]
 rw[decide_eq_false (show ¬(s.size:Int)<1 by omega),decide_eq_false h1]
 dsimp only[cond_false]
 obtain⟨i,e1,hc⟩:=nV (rnd:=Du) (List.range s.size) (fun i=>⟨s,(i:Int)⟩) (fun i j=>ZS j (bM s j)) (fun i hi=>by
  rw[List.length_range]at hi
  have hw:=fh hi (by omega)
  rw[pq hi]
  unfold Du ZS
  dsimp only
  simp only[Bool.cond_decide,Int.toNat_natCast]
  grind) (by unfold Du;simp)
 have e1':DT ⟨s,0⟩=some ⟨s,(i:Int)⟩:=e1
 rw[e1']
 have h2:gJ s=(List.range s.size).all fun i=>ZS i (bM s i):=by
  unfold gJ
  rw[pU,pU]
  simp
 rw[h2]
 dsimp only
 rcases hc with ⟨rfl,hc⟩|⟨hi,hc⟩
 ·rw[x9 hc]
  simp
 ·rw[tI hi hc]
  rw[List.length_range]at hi
  rw[pq hi]at hc
  unfold ZS at hc
  simp only[Bool.cond_decide,Int.toNat_natCast]
  grind
theorem wJ(a b:Int):A8 a b=fE a b:=by
 unfold A8 fE
 simp only[Bool.cond_decide]
 grind
theorem wB(a b:Int):DV a b=fE a b:=by
 unfold DV fE
 simp only[Bool.cond_decide]
 grind
theorem MC(l:List aN)(hl:l.length<=1000000)(v:aN):S5 l v=some (l.any fun w=>w.fName.toList==v.fName.toList):=by
 obtain⟨i,e1,hc⟩:=nV (rnd:=BL) l (fun i=>⟨l,v.fName,v.bf,v.aa,v.af,v.cW,(l.length:Int),(i:Int)⟩) (fun _ w=> !(w.fName.toList==v.fName.toList)) (fun i hi=>by
  have hw:=fh hi hl
  unfold BL R6
  dsimp only
  simp only[Bool.cond_decide,Int.toNat_natCast]
  grind) (by unfold BL;simp)
 have e1':CX ⟨l,v.fName,v.bf,v.aa,v.af,v.cW,(l.length:Int),0⟩=some ⟨l,v.fName,v.bf,v.aa,v.af,v.cW,(l.length:Int),(i:Int)⟩:=e1
 unfold S5 acL
 rw[e1']
 dsimp only
 rcases hc with ⟨rfl,hc⟩|⟨hi,hc⟩
 ·rw[tC fun j hj=>by have:=hc j hj;simpa using this]
  simp
 ·have hc':(l[i]!.fName.toList==v.fName.toList)=true:=by simpa using hc
  rw[y9 hi hc']
  unfold R6
  simp only[Int.toNat_natCast,hc',cond_true]
  simp[hi]
theorem z6(l:List aN)(hl:l.length<=1000000)(n:Nat)(hn:n<=l.length)(v:aN):
  ∃i:Nat,xF ⟨l,n,0,v⟩=some ⟨l,n,(i:Int),v⟩/\((i=n/\((l.take n).any fun w=>w.fName.toList==v.fName.toList)=false)\/(i<n/\(l[i]!.fName.toList==v.fName.toList)=true/\((l.take n).any fun w=>w.fName.toList==v.fName.toList)=true)):=by
 have hlen:(l.take n).length=n:=by rw[List.length_take];omega
 have hget:∀i,i<n->(l.take n)[i]! =l[i]! :=fun i hi=>by
  rw[getElem!_pos _ i (by omega),getElem!_pos _ i (by omega),List.getElem_take]
 obtain⟨i,e1,hc⟩:=nV (rnd:=CK) (l.take n) (fun i=>⟨l,(n:Int),(i:Int),v⟩) (fun _ w=> !(w.fName.toList==v.fName.toList)) (fun i hi=>by
  rw[hlen]at hi
  have hw:=fh hi (by omega)
  rw[hget i hi]
  unfold CK
  dsimp only
  simp only[Bool.cond_decide,Int.toNat_natCast]
  grind) (by rw[hlen];unfold CK;simp)
 refine⟨i,e1,?_⟩
 rw[hlen]at hc
 rcases hc with ⟨rfl,hc⟩|⟨hi,hc⟩
 ·exact .inl ⟨rfl,tC fun j hj=>by have:=hc j (by omega);simpa using this⟩
 ·have hc':((l.take n)[i]!.fName.toList==v.fName.toList)=true:=by simpa using hc
  exact .inr ⟨hi,by rw[<-hget i hi];exact hc',y9 (by omega) hc'⟩
end Go.Proofs.YtnfljbehcffmcaaGreat
end
noncomputable section
namespace Go.Proofs.YtnfljbehcffmcaaGreat
open Go Go.Iv
open Go.IntKind (i64)
theorem wq(a b:List aq):iA (a++b)=iA a+iA b:=by simp[iA]
theorem xW(l:List aq)(i:Nat):iA (l.take i)<=iA l:=by
 have:=wq (l.take i) (l.drop i)
 rw[List.take_append_drop]at this
 omega
theorem Cw(l:List aq):l.length<=iA l:=by
 induction l with
 |nil=>simp
 |cons a l ih=>rw[ny];have:=C4 a;simp;omega
theorem T5(a b:List GStep):dS (a++b)=dS a+dS b:=by simp[dS]
theorem PK(l:List GStep)(i:Nat):dS (l.take i)<=dS l:=by
 have:=T5 (l.take i) (l.drop i)
 rw[List.take_append_drop]at this
 omega
theorem agB(s:GStep):0<nS s:=by rw[mL];omega
theorem iD(l:List GStep):l.length<=dS l:=by
 induction l with
 |nil=>simp
 |cons a l ih=>rw[kW];have:=agB a;simp;omega
theorem zb{l:List aq}{i:Nat}(hi:i<l.length):iA (l.take i)+nT l[i]!<=iA l:=by
 have:=xW l (i+1)
 rw[bE hi,oC]at this
 exact this
theorem xh{l:List GStep}{i:Nat}(hi:i<l.length):dS (l.take i)+nS l[i]!<=dS l:=by
 have:=PK l (i+1)
 rw[bE hi,Gi]at this
 exact this
theorem JW(l:List aq)(h:∀k∈l,dT k<=nT k):∀i,i<=l.length->GY (l.take i)<=iA (l.take i):=by
 intro i
 induction i with
 |zero=>intro _;simp[GY,iA]
 |succ i ih=>
  intro hi
  have:=ih (by omega)
  have h2:=h _ (aU (show i<l.length by omega))
  rw[bE (by omega),xL,oC]
  omega
theorem aaV(t:aq):dT t<=nT t:=by
 have key:∀(n:Nat) (t:aq),SizeOf.sizeOf t<n->dT t<=nT t:=by
  intro n
  induction n with
  |zero=>intro t h;omega
  |succ n ih=>
   intro t h
   have:=JW t.aj (fun k hk=>ih k (by have:=aq.dh hk;omega)) t.aj.length (Nat.le_refl _)
   rw[List.take_length]at this
   rw[K1,sL]
   omega
 exact key _ t (Nat.lt_succ_self _)
theorem Qo(l:List aq)(i:Nat):GY (l.take i)<=iA l:=by
 have h1:=xW l i
 by_cases h:i<=l.length
 ·have:=JW l (fun k _=>aaV k) i h
  omega
 ·have:=JW l (fun k _=>aaV k) l.length (Nat.le_refl _)
  rw[List.take_length]at this
  rw[List.take_of_length_le (by omega)]
  omega
theorem P4(l:List GStep):hU l<=dS l:=by
 have key:∀(n:Nat) (l:List GStep),SizeOf.sizeOf l<n->hU l<=dS l:=by
  intro n
  induction n with
  |zero=>intro t h;omega
  |succ n ih=>
   intro l h
   cases l with
   |nil=>rw[hU];simp[dS]
   |cons s l=>
    have q1:=ih s.aH (by have:=aQ (l:=s::l) (List.mem_cons_self ..);omega)
    have q2:=ih s.aJ (by have:=aQ (l:=s::l) (List.mem_cons_self ..);omega)
    have q3:=ih l (by have:=cT s l;omega)
    rw[hU,kW,mL]
    omega
 exact key _ l (Nat.lt_succ_self _)
theorem YZ(M:aq->Option nq)(t:aq)(hM:∀k∈t.aj,M k=some (nT k:Int))(h:nT t<=1000):Wo M t=some (nT t:Int):=by
 have hN:=sL t
 have hL:=Cw t.aj
 obtain⟨v,e1,hv⟩:=cK (rnd:=CE M) t.aj.length (fun i (b:Int)=>⟨b,(i:Int),t⟩) (fun i b=>b=1+iA (t.aj.take i)) (fun i b hi hb=>by
   have hs:=zb hi
   refine⟨b+nT t.aj[i]!,?_,?_⟩
   ·have hk:=hM _ (aU hi)
    have hw:=fh hi (by omega)
    have hw2:i64.wrap (b+nT t.aj[i]!)=b+nT t.aj[i]! :=aF
    unfold CE
    dsimp only
    simp only[Bool.cond_decide,Int.toNat_natCast,aq.eta,hk]
    grind
   ·rw[bE hi,oC];omega) (fun b _=>by unfold CE;simp) (b:=1) (by simp[iA])
 have e1':DP M ⟨1,0,t⟩=some ⟨v,(t.aj.length:Int),t⟩:=e1
 unfold Wo
 rw[aq.eta,e1',hN]
 rw[List.take_length]at hv
 simp[hv]
theorem LQ:∀(n:Nat) (t:aq),SizeOf.sizeOf t<n->nT t<=1000->G6 n t=some (nT t:Int)
 |0,_,h,_=>by omega
 |n+1,t,h,h2=>YZ (G6 n) t (fun k hk=>LQ n k (by have:=aq.dh hk;omega) (by have:=LW hk;have:=sL t;omega)) h2
theorem A9(t:aq)(h:nT t<=1000):JU t=some (nT t:Int):=cZ (SizeOf.sizeOf t+1) fun n hn=>LQ n t (by omega) h
theorem Zd(M:aq->Option oh)(t:aq)(hM:∀k∈t.aj,M k=some (dT k))(h:nT t<=1000):Z1 M t=some (dT t):=by
 have hN:=sL t
 have hL:=Cw t.aj
 obtain⟨v,e1,hv⟩:=cK (rnd:=BP M) t.aj.length (fun i (b:Int)=>⟨b,(i:Int),t⟩) (fun i b=>b=GY (t.aj.take i)) (fun i b hi hb=>by
   refine⟨max b (dT t.aj[i]!),?_,?_⟩
   ·have hk:=hM _ (aU hi)
    have hw:=fh hi (by omega)
    unfold BP
    dsimp only
    simp only[Bool.cond_decide,Int.toNat_natCast,aq.eta,hk]
    grind
   ·rw[bE hi,xL,hb]) (fun b _=>by unfold BP;simp) (b:=0) (by simp[GY])
 have e1':CM M ⟨0,0,t⟩=some ⟨v,(t.aj.length:Int),t⟩:=e1
 unfold Z1
 rw[aq.eta,e1',K1]
 have hd:=Qo t.aj t.aj.length
 have hp:=DF t.aj
 rw[List.take_length]at hv hd
 subst hv
 have hw2:i64.wrap (GY t.aj+1)=GY t.aj+1:=aF
 dsimp only
 rw[eF]
 show some (i64.wrap (GY t.aj+1))=_
 rw[hw2]
 congr 1
 omega
theorem L9:∀(n:Nat) (t:aq),SizeOf.sizeOf t<n->nT t<=1000->JS n t=some (dT t)
 |0,_,h,_=>by omega
 |n+1,t,h,h2=>Zd (JS n) t (fun k hk=>L9 n k (by have:=aq.dh hk;omega) (by have:=LW hk;have:=sL t;omega)) h2
theorem Dw(t:aq)(h:nT t<=1000):Fw t=some (dT t):=cZ (SizeOf.sizeOf t+1) fun n hn=>L9 n t (by omega) h
theorem wM{s:GStep}{l:List GStep}(h:s∈l):nS s<=dS l:=by
 induction l with
 |nil=>cases h
 |cons a l ih=>
  rw[kW]
  rcases List.mem_cons.1 h with rfl|h
  ·omega
  ·have:=ih h;omega
def fk:List GStep->Int
 |[]=>0
 |s::l=>1+nT s.au+fk s.aH+fk s.aJ+fk l
termination_by l=>SizeOf.sizeOf l
decreasing_by
 ·exact(aQ (List.mem_cons_self ..)).1
 ·exact(aQ (List.mem_cons_self ..)).2
 ·exact cT _ _
theorem wD(l:List GStep):0<=fk l/\fk l<=dS l:=by
 have key:∀(n:Nat) (l:List GStep),SizeOf.sizeOf l<n->0<=fk l/\fk l<=dS l:=by
  intro n
  induction n with
  |zero=>intro t h;omega
  |succ n ih=>
   intro l h
   cases l with
   |nil=>rw[fk];simp[dS]
   |cons s l=>
    have q1:=ih s.aH (by have:=aQ (l:=s::l) (List.mem_cons_self ..);omega)
    have q2:=ih s.aJ (by have:=aQ (l:=s::l) (List.mem_cons_self ..);omega)
    have q3:=ih l (by have:=cT s l;omega)
    rw[fk,kW,mL]
    omega
 exact key _ l (Nat.lt_succ_self _)
theorem Nh(l:List GStep)(s:GStep):fk (l++[s])=fk l+(1+nT s.au+fk s.aH+fk s.aJ):=by
 induction l with
 |nil=>rw[List.nil_append,show fk []=0 by rw[fk],fk,show fk []=0 by rw[fk]];omega
 |cons a l ih=>rw[List.cons_append,fk,fk,ih];omega
theorem Ws(M:List GStep->Option n7)(l:List GStep)(hM:∀s∈l,M s.aH=some (fk s.aH)/\M s.aJ=some (fk s.aJ))(h:dS l<=1000):Wp M l=some (fk l):=by
 have hL:=iD l
 obtain⟨v,e1,hv⟩:=cK (rnd:=Bg M) l.length (fun i (b:Int)=>⟨l,b,(i:Int)⟩) (fun i b=>b=fk (l.take i)) (fun i b hi hb=>by
   have hs:=xh hi
   have hE:=mL l[i]!
   obtain⟨k1,k4⟩:=hM _ (aU hi)
   have k2:=wD l[i]!.aH
   have k3:=wD l[i]!.aJ
   have k5:=wD (l.take i)
   have hk:=A9 l[i]!.au (by omega)
   have hw:=fh hi (by omega)
   refine⟨b+(1+nT l[i]!.au+fk l[i]!.aH+fk l[i]!.aJ),?_,?_⟩
   ·have w1:i64.wrap (b+1)=b+1:=aF
    have w2:i64.wrap (b+1+nT l[i]!.au)=b+1+nT l[i]!.au:=aF
    have w3:i64.wrap (b+1+nT l[i]!.au+fk l[i]!.aH)=b+1+nT l[i]!.au+fk l[i]!.aH:=aF
    have w4:i64.wrap (b+1+nT l[i]!.au+fk l[i]!.aH+fk l[i]!.aJ)=b+(1+nT l[i]!.au+fk l[i]!.aH+fk l[i]!.aJ):=by rw[aF];omega
    unfold Bg
    dsimp only
    simp only[Bool.cond_decide,Int.toNat_natCast,aq.eta,hk,k1,k4,w1,w2,w3,w4,hw]
    grind
   ·rw[bE hi,Nh];omega) (fun b _=>by unfold Bg;simp) (b:=0) (by simp[fk])
 have e1':CV M ⟨l,0,0⟩=some ⟨l,v,(l.length:Int)⟩:=e1
 unfold Wp
 rw[e1']
 rw[List.take_length]at hv
 simp[hv]
theorem eG{s:GStep}{l:List GStep}(h:s∈l):dS s.aH<=dS l/\dS s.aJ<=dS l:=by
 have:=wM h
 have:=mL s
 omega
theorem CO:∀(n:Nat) (l:List GStep),SizeOf.sizeOf l<n->dS l<=1000->G5 n l=some (fk l)
 |0,_,h,_=>by omega
 |n+1,l,h,h2=>Ws (G5 n) l (fun s hs=>⟨CO n _ (by have:=aQ hs;omega) (by have:=eG hs;omega),CO n _ (by have:=aQ hs;omega) (by have:=eG hs;omega)⟩) h2
theorem Uy(l:List GStep)(h:dS l<=1000):U5 l=some (fk l):=cZ (SizeOf.sizeOf l+1) fun n hn=>CO n l (by omega) h
theorem Yj(M:List GStep->Option nr)(l:List GStep)(hM:∀s∈l,M s.aH=some (hU s.aH)/\M s.aJ=some (hU s.aJ))(h:dS l<=1000):Vk M l=some (hU l):=by
 have hL:=iD l
 obtain⟨v,e1,hv⟩:=cK (rnd:=DH M) l.length (fun i (b:Int)=>⟨l,b,(i:Int)⟩) (fun i b=>b=hU (l.take i)) (fun i b hi hb=>by
   obtain⟨k1,k4⟩:=hM _ (aU hi)
   have k2:=P4 l[i]!.aH
   have k3:=P4 l[i]!.aJ
   have k5:=eG (aU hi)
   have k6:=oZ l[i]!.aH
   have k7:=oZ l[i]!.aJ
   have hw:=fh hi (by omega)
   refine⟨max b (max (hU l[i]!.aH+1) (hU l[i]!.aJ+1)),?_,?_⟩
   ·have w1:i64.wrap (hU l[i]!.aH+1)=hU l[i]!.aH+1:=aF
    have w2:i64.wrap (hU l[i]!.aJ+1)=hU l[i]!.aJ+1:=aF
    unfold DH
    dsimp only
    simp only[Bool.cond_decide,Int.toNat_natCast,k1,k4,w1,w2,hw]
    grind
   ·rw[bE hi,Rv];omega) (fun b _=>by unfold DH;simp) (b:=0) (by simp[hU])
 have e1':Di M ⟨l,0,0⟩=some ⟨l,v,(l.length:Int)⟩:=e1
 unfold Vk
 rw[e1']
 rw[List.take_length]at hv
 simp[hv]
theorem Cd:∀(n:Nat) (l:List GStep),SizeOf.sizeOf l<n->dS l<=1000->I6 n l=some (hU l)
 |0,_,h,_=>by omega
 |n+1,l,h,h2=>Yj (I6 n) l (fun s hs=>⟨Cd n _ (by have:=aQ hs;omega) (by have:=eG hs;omega),Cd n _ (by have:=aQ hs;omega) (by have:=eG hs;omega)⟩) h2
theorem Uv(l:List GStep)(h:dS l<=1000):TR l=some (hU l):=cZ (SizeOf.sizeOf l+1) fun n hn=>Cd n l (by omega) h
def F8(s:GStep):Bool:=decide (12<dT s.au)||dP s.aH||dP s.aJ
theorem NJ(l:List GStep):dP l=l.any F8:=by
 induction l with
 |nil=>rw[dP];rfl
 |cons s l ih=>rw[dP,ih,List.any_cons];rfl
theorem ZU(M:List GStep->Option m9)(l:List GStep)(hM:∀s∈l,M s.aH=some (dP s.aH)/\M s.aJ=some (dP s.aJ))(h:dS l<=1000):YY M l=some (dP l):=by
 have hL:=iD l
 have hT:∀i,i<l.length->Fw l[i]!.au=some (dT l[i]!.au):=fun i hi=>Dw _ (by have:=wM (aU hi);have:=mL l[i]!;omega)
 obtain⟨i,e1,hc⟩:=nV (rnd:=BD M) l (fun i=>⟨l,(i:Int)⟩) (fun _ s=> !F8 s) (fun i hi=>by
   obtain⟨k1,k4⟩:=hM _ (aU hi)
   have hk:=hT i hi
   have hw:=fh hi (by omega)
   unfold BD F8
   dsimp only
   simp only[Bool.cond_decide,Int.toNat_natCast,aq.eta,hk,k1,k4,hw]
   cases dP l[i]!.aH<;>cases dP l[i]!.aJ<;>grind) (by unfold BD;simp)
 have e1':Cj M ⟨l,0⟩=some ⟨l,(i:Int)⟩:=e1
 unfold YY
 rw[e1',NJ]
 dsimp only
 rcases hc with ⟨rfl,hc⟩|⟨hi,hc⟩
 ·rw[tC fun j hj=>by have:=hc j hj;simpa using this]
  simp
 ·have hc':F8 l[i]! =true:=by simpa using hc
  rw[y9 hi hc']
  obtain⟨k1,k4⟩:=hM _ (aU hi)
  have hk:=hT i hi
  unfold F8 at hc'
  simp only[Bool.cond_decide,Int.toNat_natCast,aq.eta,hk,k1,k4]
  revert hc'
  cases dP l[i]!.aH<;>cases dP l[i]!.aJ<;>grind
theorem Bt:∀(n:Nat) (l:List GStep),SizeOf.sizeOf l<n->dS l<=1000->Ir n l=some (dP l)
 |0,_,h,_=>by omega
 |n+1,l,h,h2=>ZU (Ir n) l (fun s hs=>⟨Bt n _ (by have:=aQ hs;omega) (by have:=eG hs;omega),Bt n _ (by have:=aQ hs;omega) (by have:=eG hs;omega)⟩) h2
theorem U7(l:List GStep)(h:dS l<=1000):UG l=some (dP l):=cZ (SizeOf.sizeOf l+1) fun n hn=>Bt n l (by omega) h
def dA(b:aM):Bool:=b.dR||decide (1024<b.aX)
theorem tO(b:aM):gW b=(dA b,b):=by
 unfold gW dA
 cases b.dR<;>rfl
def cw(d:Int)(b:aM):aM:=⟨b.aX+1,b.dR||decide (12<d)⟩
def ry(t:aq)(d:Int)(b:aM):aM:=if dA (cw d b)=true then cw d b else t.aj.attach.foldl (fun b k=>ry k.1 (d+1) b) (cw d b)
termination_by SizeOf.sizeOf t
decreasing_by exact aq.dh k.2
def zL(l:List aq)(d:Int)(b:aM):aM:=l.foldl (fun b k=>ry k d b) b
theorem Tq(t:aq)(d:Int)(b:aM):ry t d b=if dA (cw d b)=true then cw d b else zL t.aj (d+1) (cw d b):=by
 rw[ry,zL]
 rw[show t.aj.attach.foldl (fun b k=>ry k.1 (d+1) b) (cw d b)=t.aj.foldl (fun b k=>ry k (d+1) b) (cw d b)from List.foldl_attach (f:=fun b k=>ry k (d+1) b)]
theorem AL(l:List aq)(k:aq)(d:Int)(b:aM):zL (l++[k]) d b=ry k d (zL l d b):=by simp[zL]
def MsP(d0:Int)(n:Int)(b r:aM):Prop:=r.dR=(b.dR||decide (12<d0))/\b.aX<=r.aX/\r.aX<=b.aX+n
theorem C8(t:aq)(d:Int)(b:aM)(h0:0<=d)(h1:0<=b.aX)(h2:b.aX+nT t<=1000):MsP (d-1+dT t) (nT t) b (ry t d b):=by
 have key:∀(n:Nat) (t:aq) (d:Int) (b:aM),SizeOf.sizeOf t<n->0<=d->0<=b.aX->b.aX+nT t<=1000->MsP (d-1+dT t) (nT t) b (ry t d b):=by
  intro n
  induction n with
  |zero=>intro t d b h;omega
  |succ n ih=>
   intro t d b h h0 h1 h2
   have hN:=sL t
   have hD:=K1 t
   have hd0:=DF t.aj
   rw[Tq]
   by_cases ho:dA (cw d b)=true
   ·rw[if_pos ho]
    unfold dA cw at ho
    unfold MsP cw
    grind
   ·rw[if_neg ho]
    have hi:∀i,i<=t.aj.length->MsP (d+GY (t.aj.take i)) (iA (t.aj.take i)) (cw d b) (zL (t.aj.take i) (d+1) (cw d b)):=by
     intro i
     induction i with
     |zero=>
      intro _
      unfold dA cw at ho
      simp only[List.take_zero,zL,List.foldl_nil,MsP,GY,iA,List.map_nil,cw]
      grind
     |succ i ihi=>
      intro hi
      have q:=ihi (by omega)
      have hs:=zb (show i<t.aj.length by omega)
      have hm:t.aj[i]!∈t.aj:=aU (by omega)
      have hp:(cw d b).aX=b.aX+1:=rfl
      have q2:=ih t.aj[i]! (d+1) (zL (t.aj.take i) (d+1) (cw d b)) (by have:=aq.dh hm;omega) (by omega) (by have:=q.2.1;omega) (by have:=q.2.2;omega)
      rw[bE (by omega),AL,xL,oC]
      unfold MsP at q q2 ⊢
      obtain⟨a1,a2,a3⟩:=q
      obtain⟨c1,c2,c3⟩:=q2
      refine⟨?_,by omega,by omega⟩
      rw[c1,a1]
      rw[Bool.or_assoc]
      congr 1
      rw[<-Bool.decide_or]
      apply decide_eq_decide.2
      omega
    have q:=hi t.aj.length (Nat.le_refl _)
    rw[List.take_length]at q
    unfold MsP at q ⊢
    obtain⟨a1,a2,a3⟩:=q
    unfold dA at ho
    have hp:(cw d b).aX=b.aX+1:=rfl
    have hp2:(cw d b).dR=(b.dR||decide (12<d)):=rfl
    refine⟨?_,by omega,by omega⟩
    rw[a1,hD,hp2]
    rw[hp2]at ho
    grind
 exact key _ t d b (Nat.lt_succ_self _) h0 h1 h2
theorem Y5(M:aq->Int->aM->Option pS)(t:aq)(hM:∀k∈t.aj,∀(d:Int) (b:aM),0<=d->d<=13->0<=b.aX->b.aX+nT k<=1000->M k d b=some (ry k d b))(d:Int)(b:aM)(h0:0<=d)(hd:d<=13)(h1:0<=b.aX)(h2:b.aX+nT t<=1000):Uz M t d b=some (ry t d b):=by
 have hN:=sL t
 have hL:=Cw t.aj
 have hw0:i64.wrap (b.aX+1)=b.aX+1:=aF
 have hw1:i64.wrap (d+1)=d+1:=aF
 have hinc:∀x,(⟨b.aX+1,x⟩:aM)=cw d b↔x=(b.dR||decide (12<d)):=fun x=>by unfold cw;simp
 have key:dA (cw d b)=false->d<=12/\yC M ⟨d,t.aj,(t.aj.length:Int),0,cw d b⟩=some ⟨d,t.aj,(t.aj.length:Int),(t.aj.length:Int),zL t.aj (d+1) (cw d b)⟩:=fun ho=>by
  have hd2:d<=12:=by unfold dA cw at ho;grind
  refine⟨hd2,?_⟩
  obtain⟨v,e1,hv,_⟩:=cK (rnd:=DG M) t.aj.length (fun i (x:aM)=>⟨d,t.aj,(t.aj.length:Int),(i:Int),x⟩) (fun i x=>x=zL (t.aj.take i) (d+1) (cw d b)/\b.aX+1<=x.aX/\x.aX<=b.aX+1+iA (t.aj.take i)) (fun i x hi hx=>by
    have hs:=zb hi
    have hk:=hM _ (aU hi) (d+1) x (by omega) (by omega) (by omega) (by omega)
    have hp:=C8 t.aj[i]! (d+1) x (by omega) (by omega) (by omega)
    have hw:=fh hi (by omega)
    refine⟨ry t.aj[i]! (d+1) x,?_,?_⟩
    ·unfold DG
     dsimp only
     simp only[Bool.cond_decide,Int.toNat_natCast,aq.eta,hw1,hk,hw]
     grind
    ·unfold MsP at hp
     rw[bE hi,AL,<-hx.1,oC]
     exact⟨rfl,by omega,by omega⟩) (fun x _=>by unfold DG;simp) (b:=cw d b) ⟨rfl,Int.le_refl _,by show b.aX+1<=_;simp[iA]⟩
  rw[List.take_length]at hv
  rw[<-hv]
  exact e1
 rw[Tq]
 unfold Uz
 rw[hw0]
 have hm:∀x,x=(b.dR||decide (12<d))->gW ⟨b.aX+1,x⟩=(dA (cw d b),cw d b):=fun x hx=>by rw[tO,(hinc x).2 hx]
 cases hb:b.dR with
 |true=>
  rw[hm true (by rw[hb];rfl)]
  have ho:dA (cw d b)=true:=by unfold dA cw;simp[hb]
  simp[ho]
 |false=>
  rw[hm (decide (12<d)) (by rw[hb];rfl)]
  cases ho:dA (cw d b)with
  |true=>simp
  |false=>
   obtain⟨_,e⟩:=key ho
   rw[e]
   simp
theorem Mz:∀(n:Nat) (t:aq) (d:Int) (b:aM),SizeOf.sizeOf t<n->0<=d->d<=13->0<=b.aX->b.aX+nT t<=1000->IJ n t d b=some (ry t d b)
 |0,_,_,_,h,_,_,_,_=>by omega
 |n+1,t,d,b,h,h0,hd,h1,h2=>Y5 (IJ n) t (fun k hk d b a1 a2 a3 a4=>Mz n k d b (by have:=aq.dh hk;omega) a1 a2 a3 a4) d b h0 hd h1 h2
theorem Ko(t:aq)(d:Int)(b:aM)(h0:0<=d)(hd:d<=13)(h1:0<=b.aX)(h2:b.aX+nT t<=1000):zN t d b=some (ry t d b):=cZ (SizeOf.sizeOf t+1) fun n hn=>Mz n t d b (by omega) h0 hd h1 h2
def lJ(d:Int):List GStep->aM->aM
 |[],b=>b
 |s::l,b=>if dA (cw d b)=true then cw d b else lJ d l (lJ (d+1) s.aJ (lJ (d+1) s.aH (ry s.au 1 (cw d b))))
termination_by l=>SizeOf.sizeOf l
decreasing_by
 ·exact(aQ (List.mem_cons_self ..)).1
 ·exact(aQ (List.mem_cons_self ..)).2
 ·exact cT _ _
theorem Hi(d:Int)(l:List GStep)(b:aM)(h0:0<=d)(hd:d<=13)(h1:0<=b.aX)(h2:b.aX+dS l<=1000):(lJ d l b).dR=(b.dR||(decide (12<d-1+hU l)||dP l))/\b.aX<=(lJ d l b).aX/\(lJ d l b).aX<=b.aX+dS l:=by
 have key:∀(n:Nat) (d:Int) (l:List GStep) (b:aM),SizeOf.sizeOf l<n->0<=d->d<=13->0<=b.aX->b.aX+dS l<=1000->(lJ d l b).dR=(b.dR||(decide (12<d-1+hU l)||dP l))/\b.aX<=(lJ d l b).aX/\(lJ d l b).aX<=b.aX+dS l:=by
  intro n
  induction n with
  |zero=>intro d l b h;omega
  |succ n ih=>
   intro d l b h h0 hd h1 h2
   cases l with
   |nil=>
    rw[lJ,hU,dP]
    refine⟨?_,by omega,by simp[dS]⟩
    rw[eF]
    simp
   |cons s l=>
    have hz:=aQ (l:=s::l) (List.mem_cons_self ..)
    have hz2:=cT s l
    have hN:=mL s
    have hC:=kW s l
    have p1:=oZ s.aH
    have p2:=oZ s.aJ
    have p3:=oZ l
    have p4:=agf s.au
    have hp:(cw d b).aX=b.aX+1:=rfl
    have hp2:(cw d b).dR=(b.dR||decide (12<d)):=rfl
    rw[lJ,hU,dP]
    by_cases ho:dA (cw d b)=true
    ·rw[if_pos ho]
     unfold dA cw at ho
     unfold cw
     dsimp only at ho ⊢
     refine⟨?_,by omega,by omega⟩
     grind
    ·rw[if_neg ho]
     unfold dA at ho
     rw[hp,hp2]at ho
     have hb:b.dR=false:=by grind
     have hd2:d<=12:=by grind
     obtain⟨a1,a2,a3⟩:=C8 s.au 1 (cw d b) (by omega) (by omega) (by omega)
     obtain⟨c1,c2,c3⟩:=ih (d+1) s.aH (ry s.au 1 (cw d b)) (by omega) (by omega) (by omega) (by omega) (by omega)
     obtain⟨g1,g2,g3⟩:=ih (d+1) s.aJ _ (by omega) (by omega) (by omega) (Int.le_trans (by omega) c2) (by omega)
     obtain⟨k1,k2,k3⟩:=ih d l _ (by omega) h0 hd (Int.le_trans (by omega) g2) (by omega)
     refine⟨?_,by omega,by omega⟩
     rw[k1,g1,c1,a1,hp2,hb]
     rw[decide_eq_false (show ¬12<d by omega)]
     have e1:decide (12<1-1+dT s.au)=decide (12<dT s.au):=by congr 1;rw[show (1:Int)-1+dT s.au=dT s.au by omega]
     rw[e1]
     have e2:decide (12<d-1+max (max (hU s.aH+1) (hU s.aJ+1)) (hU l))=(decide (12<d+1-1+hU s.aH)||(decide (12<d+1-1+hU s.aJ)||decide (12<d-1+hU l))):=by
      rw[<-Bool.decide_or,<-Bool.decide_or]
      apply decide_eq_decide.2
      omega
     rw[e2]
     generalize decide (12<dT s.au)=x1
     generalize decide (12<d+1-1+hU s.aH)=x2
     generalize decide (12<d+1-1+hU s.aJ)=x3
     generalize decide (12<d-1+hU l)=x4
     generalize dP s.aH=x5
     generalize dP s.aJ=x6
     generalize dP l=x7
     revert x1 x2 x3 x4 x5 x6 x7
     decide
 exact key _ d l b (Nat.lt_succ_self _) h0 hd h1 h2
theorem vv{α:Type}[Inhabited α]{c:Nat->α->Int}:∀(l:List α) (i:Nat),bW c l i=0->∀j,j<l.length->c (i+j) l[j]! =0
 |[],i,_,j,hj=>by simp at hj
 |x::xs,i,h,j,hj=>by
  unfold bW at h
  split at h
  ·rename_i hx
   cases j with
   |zero=>exact hx
   |succ j=>
    have:=vv xs (i+1) h j (by simpa using hj)
    rw[show i+1+j=i+(j+1)by omega]at this
    simpa using this
  ·rename_i hx;exact absurd h hx
def cG(vars:List aN):Prop:=∀v∈vars,-1048576<=v.aa/\v.aa<=v.af/\v.af<=1048576
theorem Ol{vars:List aN}{i:Nat}{v:aN}(h:lD vars i v=0): -1048576<=v.aa/\v.aa<=v.af/\v.af<=1048576:=by
 unfold lD fE at h
 grind
theorem k8{vars:List aN}(h:bW (lD vars) vars 0=0):cG vars:=fun v hv=>by
 obtain⟨i,hi,e⟩:=List.getElem_of_mem hv
 have:=vv _ _ h i hi
 rw[getElem!_pos vars i hi,e]at this
 exact Ol this
theorem qE(kind:Int):∀(l:List aN) (i:Nat) (n:Int),JF (fun _ (n:Int) (v:aN)=>if 4096<n*(v.af-v.aa+1)then(.inr ():Int ⊕ Unit)else .inl (n*(v.af-v.aa+1))) (fun _=>(none:Option Int)) some (l.filter fun v=>decide (v.bf=kind)) i n=vC kind l n
 |[],i,n=>rfl
 |v::vs,i,n=>by
  unfold vC
  by_cases hv:v.bf=kind
  ·rw[List.filter_cons_of_pos (by simpa using hv),if_pos hv]
   by_cases h:4096<n*(v.af-v.aa+1)
   ·rw[if_pos h,wk (r:=()) (by rw[if_pos h])]
   ·rw[if_neg h,tg (by rw[if_neg h])]
    exact qE kind vs (i+1) _
  ·rw[List.filter_cons_of_neg (by simpa using hv),if_neg hv]
   exact qE kind vs i n
theorem yR(kind:Int):∀(l:List aN) (i:Nat) (n:Int),JF (fun _ (n:Int) (v:aN)=>if v.bf=kind then(if 4096<n*(v.af-v.aa+1)then(.inr ():Int ⊕ Unit)else .inl (n*(v.af-v.aa+1)))else .inl n) (fun _=>(none:Option Int)) some l i n=vC kind l n
 |[],i,n=>rfl
 |v::vs,i,n=>by
  unfold vC
  by_cases hv:v.bf=kind
  ·rw[if_pos hv]
   by_cases h:4096<n*(v.af-v.aa+1)
   ·rw[if_pos h,wk (r:=()) (by rw[if_pos hv,if_pos h])]
   ·rw[if_neg h,tg (b':=n*(v.af-v.aa+1)) (by rw[if_pos hv,if_neg h])]
    exact yR kind vs (i+1) _
  ·rw[if_neg hv,tg (b':=n) (by rw[if_neg hv])]
   exact yR kind vs (i+1) n
theorem wI{v:aN}(h: -1048576<=v.aa/\v.aa<=v.af/\v.af<=1048576){n:Int}(h1:1<=n)(h2:n<=4096):
  1<=n*(v.af-v.aa+1)/\i64.wrap (v.af-v.aa)=v.af-v.aa/\i64.wrap (v.af-v.aa+1)=v.af-v.aa+1/\i64.wrap (n*(v.af-v.aa+1))=n*(v.af-v.aa+1):=by
 have e1:0<=(n-1)*(v.af-v.aa+1):=Int.mul_nonneg (by omega) (by omega)
 have e2:n*(v.af-v.aa+1)<=4096*(v.af-v.aa+1):=Int.mul_le_mul_of_nonneg_right h2 (by omega)
 have e3:(n-1)*(v.af-v.aa+1)=n*(v.af-v.aa+1)-(v.af-v.aa+1):=by rw[Int.sub_mul,Int.one_mul]
 exact⟨by omega,aF,aF,aF⟩
theorem NA(vars:List aN)(hv:cG vars)(hl:vars.length<=1000000)(kind:Int):qY ⟨kind,[],vars,(vars.length:Int),0⟩=some ⟨kind,vars.filter (fun v=>decide (v.bf=kind)),vars,(vars.length:Int),(vars.length:Int)⟩:=by
 obtain⟨v,e1,hV⟩:=cK (rnd:=yq) vars.length (fun i (b:List aN)=>⟨kind,b,vars,(vars.length:Int),(i:Int)⟩) (fun i b=>b=(vars.take i).filter fun v=>decide (v.bf=kind)) (fun i b hi hb=>by
  have hw:=fh hi hl
  have hv:=hv _ (aU hi)
  have hb2:b.length<=i:=by rw[hb];exact Nat.le_trans (List.length_filter_le _ _) (by rw[List.length_take];omega)
  rw[bE hi,List.filter_append,<-hb]
  by_cases hk:vars[i]!.bf=kind
  ·refine⟨b++[vars[i]!],?_,?_⟩
   ·have hl2:(b++[vars[i]!]).length<=1073741824:=by simp;omega
    unfold yq
    dsimp only
    simp only[Bool.cond_decide,Int.toNat_natCast]
    grind
   ·revert hk
    generalize vars[i]! =x
    intro hk
    simp[hk]
  ·refine⟨b,?_,?_⟩
   ·unfold yq
    dsimp only
    simp only[Bool.cond_decide,Int.toNat_natCast]
    grind
   ·revert hk
    generalize vars[i]! =x
    intro hk
    simp[hk]) (fun b _=>by unfold yq;simp) (b:=[]) rfl
 rw[List.take_length]at hV
 rw[<-hV]
 exact e1
theorem Oi(F:List aN)(hv:cG F)(hl:F.length<=1000000):
  ∃(i:Nat) (n:Int),ri ⟨F,1,F,(F.length:Int),0⟩=some ⟨F,n,F,(F.length:Int),(i:Int)⟩/\((i=F.length/\JF (fun _ (n:Int) (v:aN)=>if 4096<n*(v.af-v.aa+1)then(.inr ():Int ⊕ Unit)else .inl (n*(v.af-v.aa+1))) (fun _=>(none:Option Int)) some F 0 1=some n)\/
   (i<F.length/\4096<i64.wrap (n*zP F[i]!)/\JF (fun _ (n:Int) (v:aN)=>if 4096<n*(v.af-v.aa+1)then(.inr ():Int ⊕ Unit)else .inl (n*(v.af-v.aa+1))) (fun _=>(none:Option Int)) some F 0 1=none)):=by
 have hm:∀(i:Nat) (n:Int),i<F.length->1<=n->n<=4096->i64.wrap (n*zP F[i]!)=n*(F[i]!.af-F[i]!.aa+1):=fun i n hi h1 h2=>by
  obtain⟨a,b,c,d⟩:=wI (hv _ (aU hi)) h1 h2
  unfold zP
  rw[b,c,d]
 obtain⟨i,n,e1,hI,hc⟩:=R4 (rnd:=Dt) F (fun i (n:Int)=>⟨F,n,F,(F.length:Int),(i:Int)⟩) (fun _ (n:Int) (v:aN)=>if 4096<n*(v.af-v.aa+1)then(.inr ():Int ⊕ Unit)else .inl (n*(v.af-v.aa+1))) (fun _=>(none:Option Int)) some (fun i n=>1<=n/\n<=4096) (fun i n hi hI=>by
  have hw:=fh hi hl
  have h1:=hm i n hi hI.1 hI.2
  have h2:=(wI (hv _ (aU hi)) hI.1 hI.2).1
  unfold Dt
  dsimp only
  simp only[Bool.cond_decide,Int.toNat_natCast,h1]
  grind) (fun b _=>by unfold Dt;simp) (b:=1) ⟨by omega,by omega⟩
 refine⟨i,n,e1,?_⟩
 rcases hc with ⟨h1,h2⟩|⟨h1,r,h2,h3⟩
 ·exact .inl ⟨h1,h2⟩
 ·refine .inr ⟨h1,?_,h3⟩
  rw[hm i n h1 hI.1 hI.2]
  by_cases h:4096<n*(F[i]!.af-F[i]!.aa+1)
  ·exact h
  ·rw[if_neg h]at h2
   cases h2
theorem DQ(vars:List aN)(hv:cG vars)(hl:vars.length<=1000000)(kind:Int)(hk:kind=1\/kind=2\/kind=3):Pn vars kind=some (match vC kind vars 1 with|some n=>(n,0)|none=>(0,4)):=by
 have e0:=NA vars hv hl kind
 obtain⟨i,n,e1,hc⟩:=Oi (vars.filter fun v=>decide (v.bf=kind)) (fun v h=>hv v (List.mem_filter.1 h).1) (Nat.le_trans (List.length_filter_le _ _) hl)
 rw[qE]at hc
 unfold Pn agK
 rcases hk with rfl|rfl|rfl
 all_goals
  simp only[Bool.cond_decide,e0,e1,Int.reduceEq,if_true,if_false,reduceIte]
  rcases hc with ⟨rfl,hc⟩|⟨hi,h2,hc⟩
  ·simp[hc]
  ·simp only[Int.toNat_natCast,h2,if_true,hc]
   simp[hi]
theorem Cr(vars:List aN)(hv:cG vars)(hl:vars.length<=1000000)(kind:Int):Nd vars kind=some (match vC kind vars 1 with|some n=>n|none=>4097):=by
 have hm:∀(i:Nat) (n:Int),i<vars.length->1<=n->n<=4096->i64.wrap (n*i64.wrap (i64.wrap (vars[i]!.af-vars[i]!.aa)+1))=n*(vars[i]!.af-vars[i]!.aa+1):=fun i n hi h1 h2=>by
  obtain⟨a,b,c,d⟩:=wI (hv _ (aU hi)) h1 h2
  rw[b,c,d]
 obtain⟨i,n,e1,hI,hc⟩:=R4 (rnd:=Cn) vars (fun i (n:Int)=>⟨vars,kind,n,(i:Int)⟩) (fun _ (n:Int) (v:aN)=>if v.bf=kind then(if 4096<n*(v.af-v.aa+1)then(.inr ():Int ⊕ Unit)else .inl (n*(v.af-v.aa+1)))else .inl n) (fun _=>(none:Option Int)) some (fun i n=>1<=n/\n<=4096) (fun i n hi hI=>by
  have hw:=fh hi hl
  have h1:=hm i n hi hI.1 hI.2
  have h2:=(wI (hv _ (aU hi)) hI.1 hI.2).1
  unfold Cn
  dsimp only
  simp only[Bool.cond_decide,Int.toNat_natCast,h1]
  grind) (fun b _=>by unfold Cn;simp) (b:=1) ⟨by omega,by omega⟩
 rw[yR]at hc
 have e1':Bf ⟨vars,kind,1,0⟩=some ⟨vars,kind,n,(i:Int)⟩:=e1
 unfold Nd
 rw[e1']
 dsimp only
 rcases hc with ⟨rfl,hc⟩|⟨hi,r,h2,hc⟩
 ·simp[hc]
 ·have h1:=hm i n hi hI.1 hI.2
  simp only[Bool.cond_decide,Int.toNat_natCast,h1,hc]
  grind
theorem Bw(kind:Int):∀(l:List aN) (n m:Int),n<=4096->vC kind l n=some m->m<=4096
 |[],n,m,h,e=>by unfold vC at e;cases e;exact h
 |v::vs,n,m,h,e=>by
  unfold vC at e
  split at e
  ·split at e
   ·cases e
   ·exact Bw kind vs _ m (by omega) e
  ·exact Bw kind vs n m h e
theorem Tv(vars:List aN)(hl:vars.length<=1000000)(i:Nat)(hi:i<vars.length):(lD vars i vars[i]! =0->uV ⟨vars,vars,(vars.length:Int),(i:Int)⟩=some (some ⟨vars,vars,(vars.length:Int),((i+1:Nat):Int)⟩))/\(lD vars i vars[i]!≠0->uV ⟨vars,vars,(vars.length:Int),(i:Int)⟩=some none):=by
 have hw:=fh hi hl
 have h1:=wg vars[i]!.fName
 have h2:=MC (vars.take i) (by rw[List.length_take];omega) vars[i]!
 unfold uV lD
 dsimp only
 simp only[Bool.cond_decide,Int.toNat_natCast,wJ,h1,h2]
 generalize gJ vars[i]!.fName=B
 generalize ((vars.take i).any fun w=>w.fName.toList==vars[i]!.fName.toList)=A
 generalize fE vars[i]!.aa vars[i]!.af=C
 cases A<;>cases B<;>cases C<;>simp only[cond_true,cond_false]<;>grind
theorem Xq(vars:List aN)(hl:vars.length<=1000000):Yy vars=some (j9 vars):=by
 obtain⟨i,e1,hc⟩:=qy (rnd:=uV) vars (fun i=>⟨vars,vars,(vars.length:Int),(i:Int)⟩) (lD vars) (fun i hi=>Tv vars hl i hi) (by unfold uV;simp)
 have e1':BB ⟨vars,vars,(vars.length:Int),0⟩=some ⟨vars,vars,(vars.length:Int),(i:Int)⟩:=e1
 unfold Yy j9
 rw[e1']
 dsimp only
 rcases hc with ⟨rfl,hc⟩|⟨hi,h0,hc⟩
 ·have hv:=k8 hc
  rw[eF,cond_false,if_neg (by rw[hc];simp)]
  have hr:∀k:Nat,k<3->i64.wrap ((k:Int)+1)=((k+1:Nat):Int):=fun k hk=>fh hk (by decide)
  have k1:=DQ vars hv hl 1 (.inl rfl)
  have k2:=DQ vars hv hl 2 (.inr (.inl rfl))
  have k3:=DQ vars hv hl 3 (.inr (.inr rfl))
  have r1:oJ ⟨vars,[1,2,3],3,0⟩=match vC 1 vars 1 with|some _=>some (some ⟨vars,[1,2,3],3,1⟩)|none=>some none:=by
   unfold oJ
   simp[k1]
   cases vC 1 vars 1 with
   |none=>simp
   |some n=>simp;exact hr 0 (by decide)
  have r2:oJ ⟨vars,[1,2,3],3,1⟩=match vC 2 vars 1 with|some _=>some (some ⟨vars,[1,2,3],3,2⟩)|none=>some none:=by
   unfold oJ
   simp[k2]
   cases vC 2 vars 1 with
   |none=>simp
   |some n=>simp;exact hr 1 (by decide)
  have r3:oJ ⟨vars,[1,2,3],3,2⟩=match vC 3 vars 1 with|some n=>if 256<n then some none else some (some ⟨vars,[1,2,3],3,3⟩)|none=>some none:=by
   unfold oJ
   simp[k3]
   cases vC 3 vars 1 with
   |none=>simp
   |some n=>
    by_cases h:256<n
    ·simp[h]
    ·simp[h];exact hr 2 (by decide)
  unfold G9
  cases s1:vC 1 vars 1 with
  |none=>
   rw[s1]at r1 k1
   have e:oz ⟨vars,[1,2,3],3,0⟩=some ⟨vars,[1,2,3],3,0⟩:=bU fun r=>by rw[r1];simp
   rw[show ((↑(3:Int):Int))=3 from rfl,e]
   simp[k1]
  |some n1=>
   rw[s1]at r1 k1
   cases s2:vC 2 vars 1 with
   |none=>
    rw[s2]at r2 k2
    have e:oz ⟨vars,[1,2,3],3,0⟩=some ⟨vars,[1,2,3],3,1⟩:=(bD r1).trans (bU fun r=>by rw[r2];simp)
    rw[show ((↑(3:Int):Int))=3 from rfl,e]
    simp[k2]
   |some n2=>
    rw[s2]at r2 k2
    cases s3:vC 3 vars 1 with
    |none=>
     rw[s3]at r3 k3
     have e:oz ⟨vars,[1,2,3],3,0⟩=some ⟨vars,[1,2,3],3,2⟩:=(bD r1).trans ((bD r2).trans (bU fun r=>by rw[r3];simp))
     rw[show ((↑(3:Int):Int))=3 from rfl,e]
     simp[k3]
    |some n3=>
     rw[s3]at r3 k3
     dsimp only at r3
     by_cases h:256<n3
     ·rw[if_pos h]at r3
      have e:oz ⟨vars,[1,2,3],3,0⟩=some ⟨vars,[1,2,3],3,2⟩:=(bD r1).trans ((bD r2).trans (bU fun r=>by rw[r3];simp))
      rw[show ((↑(3:Int):Int))=3 from rfl,e]
      simp[k3,h]
     ·rw[if_neg h]at r3
      have e:oz ⟨vars,[1,2,3],3,0⟩=some ⟨vars,[1,2,3],3,3⟩:=(bD r1).trans ((bD r2).trans ((bD r3).trans (bU fun r=>by unfold oJ;simp)))
      rw[show ((↑(3:Int):Int))=3 from rfl,e]
      simp[h]
 ·have h1:=wg vars[i]!.fName
  have h2:=MC (vars.take i) (by rw[List.length_take];omega) vars[i]!
  rw[hc,if_pos h0]
  rw[pU,cond_true,if_pos ⟨by omega,by omega⟩]
  revert h0
  unfold lD
  simp only[Bool.cond_decide,Int.toNat_natCast,wJ,h1,h2]
  generalize gJ vars[i]!.fName=B
  generalize ((vars.take i).any fun w=>w.fName.toList==vars[i]!.fName.toList)=A
  generalize fE vars[i]!.aa vars[i]!.af=C
  intro h0
  cases A<;>cases B<;>cases C<;>simp only[cond_true,cond_false]at h0 ⊢ <;>grind
theorem YO(vars:List aN)(hl:vars.length<=1000000)(i:Nat)(hi:i<vars.length):(lD vars i vars[i]! =0->uX ⟨vars,(i:Int)⟩=some (some ⟨vars,((i+1:Nat):Int)⟩))/\(lD vars i vars[i]!≠0->uX ⟨vars,(i:Int)⟩=some none):=by
 have hw:=fh hi hl
 have h1:=vV vars[i]!.fName
 obtain⟨j,h2,h3⟩:=z6 vars hl i (by omega) vars[i]!
 unfold uX lD
 dsimp only
 simp only[Bool.cond_decide,Int.toNat_natCast,wB,h1,h2]
 generalize gJ vars[i]!.fName=B
 generalize ((vars.take i).any fun w=>w.fName.toList==vars[i]!.fName.toList)=A at h3
 generalize fE vars[i]!.aa vars[i]!.af=C
 rcases h3 with ⟨rfl,rfl⟩|⟨hj,h4,rfl⟩
 ·cases B<;>cases C<;>simp only[cond_true,cond_false]<;>grind
 ·simp only[h4]
  cases B<;>cases C<;>simp only[cond_true,cond_false]<;>grind
theorem V8(vars:List aN)(hl:vars.length<=1000000):XZ vars=some (j9 vars):=by
 obtain⟨i,e1,hc⟩:=qy (rnd:=uX) vars (fun i=>⟨vars,(i:Int)⟩) (lD vars) (fun i hi=>YO vars hl i hi) (by unfold uX;simp)
 have e1':AX ⟨vars,0⟩=some ⟨vars,(i:Int)⟩:=e1
 unfold XZ j9
 rw[e1']
 dsimp only
 rcases hc with ⟨rfl,hc⟩|⟨hi,h0,hc⟩
 ·have hv:=k8 hc
  rw[eF,cond_false,if_neg (by rw[hc];simp)]
  rw[Cr vars hv hl 1,Cr vars hv hl 2,Cr vars hv hl 3]
  have b1:=Bw 1 vars 1
  have b2:=Bw 2 vars 1
  unfold G9
  revert b1 b2
  cases vC 1 vars 1<;>cases vC 2 vars 1<;>cases vC 3 vars 1<;>intro b1 b2<;>simp only[Bool.cond_decide,Option.isSome_none,Option.isSome_some,Bool.and_true,Bool.and_false,Bool.true_and,Bool.false_and]<;>(try have c1:=b1 _ (by omega) rfl)<;>(try have c2:=b2 _ (by omega) rfl)<;>grind
 ·have h1:=vV vars[i]!.fName
  obtain⟨j,h2,h3⟩:=z6 vars hl i (by omega) vars[i]!
  rw[hc,if_pos h0]
  rw[pU,cond_true,if_pos ⟨by omega,by omega⟩]
  revert h0
  unfold lD
  simp only[Bool.cond_decide,Int.toNat_natCast,wB,h1,h2]
  generalize gJ vars[i]!.fName=B
  generalize ((vars.take i).any fun w=>w.fName.toList==vars[i]!.fName.toList)=A at h3
  generalize fE vars[i]!.aa vars[i]!.af=C
  intro h0
  rcases h3 with ⟨rfl,rfl⟩|⟨hj,h4,rfl⟩
  ·cases B<;>cases C<;>simp only[cond_true,cond_false]at h0 ⊢ <;>grind
  ·simp only[h4]
   cases B<;>cases C<;>simp only[cond_true,cond_false]at h0 ⊢ <;>grind
theorem Yi(o:Int):Fx o=bI o:=by
 unfold Fx bI
 simp only[Bool.cond_decide]
 grind
theorem XK(o:Int):zJ o=if o=25 then-2 else(bI o).1:=by
 unfold zJ bI
 simp only[Bool.cond_decide]
 grind (splits:=40)
theorem VJ(M:List aN->aq->Bool->Option pW)(vars:List aN)(inp:Bool)(t:aq)(hM:∀k∈t.aj,M vars k inp=some (cD vars inp k)):TM M vars t inp=some (cD vars inp t):=by
 have key:t.aj.length<=1000000->∃i:Nat,uU M ⟨vars,inp,t.aj,(t.aj.length:Int),0⟩=some ⟨vars,inp,t.aj,(t.aj.length:Int),(i:Int)⟩/\((i=t.aj.length/\t.aj.all (cD vars inp)=true)\/(i<t.aj.length/\cD vars inp t.aj[i]! =false/\t.aj.all (cD vars inp)=false)):=fun hl=>by
  obtain⟨i,e1,hc⟩:=nV (rnd:=C6 M) t.aj (fun i=>⟨vars,inp,t.aj,(t.aj.length:Int),(i:Int)⟩) (fun _ k=>cD vars inp k) (fun i hi=>by
   have hw:=fh hi hl
   have hk:=hM _ (aU hi)
   unfold C6
   dsimp only
   simp only[Bool.cond_decide,Int.toNat_natCast,aq.eta,hk,hw]
   cases cD vars inp t.aj[i]! <;>simp[hi]) (by unfold C6;simp)
  refine⟨i,e1,?_⟩
  rcases hc with ⟨rfl,hc⟩|⟨hi,hc⟩
  ·exact .inl ⟨rfl,x9 hc⟩
  ·exact .inr ⟨hi,hc,tI hi hc⟩
 unfold TM
 rw[Yi,jL]
 unfold vE
 by_cases hn:0<=(bI t.aW).1/\(bI t.aW).1<=t.aj.length/\(t.aj.length:Int)<=(bI t.aW).2
 ·have h33:(bI t.aW).2<=33:=by unfold bI;grind
  obtain⟨i,e,hc⟩:=key (by omega)
  rw[decide_eq_true hn,decide_eq_false (show ¬(bI t.aW).1<0 by omega),decide_eq_false (show ¬(t.aj.length:Int)<(bI t.aW).1 by omega),decide_eq_false (show ¬(bI t.aW).2<(t.aj.length:Int)by omega),e]
  generalize t.aj.all (cD vars inp)=A at hc
  simp only[Bool.cond_decide,Int.toNat_natCast,cond_false,Bool.true_and]
  rcases hc with ⟨rfl,rfl⟩|⟨hi,h2,rfl⟩
  ·cases inp<;>grind
  ·have hk:=hM _ (aU hi)
   simp only[aq.eta,hk,h2]
   cases inp<;>grind
 ·rw[decide_eq_false hn]
  simp only[Bool.cond_decide]
  grind
theorem Lu(vars:List aN)(inp:Bool):∀(n:Nat) (t:aq),SizeOf.sizeOf t<n->Hw n vars t inp=some (cD vars inp t)
 |0,_,h=>by omega
 |n+1,t,h=>VJ (Hw n) vars inp t (fun k hk=>Lu vars inp n k (by have:=aq.dh hk;omega))
theorem Ui(vars:List aN)(inp:Bool)(t:aq):ZG vars t inp=some (cD vars inp t):=cZ (SizeOf.sizeOf t+1) fun n hn=>Lu vars inp n t (by omega)
theorem TQ(M:List aN->aq->Bool->Option p6)(vars:List aN)(inp:Bool)(t:aq)(hM:∀k∈t.aj,M vars k inp=some (cD vars inp k)):Uo M vars t inp=some (cD vars inp t):=by
 have key:t.aj.length<=1000000->∃i:Nat,yA M ⟨vars,inp,0,t⟩=some ⟨vars,inp,(i:Int),t⟩/\((i=t.aj.length/\t.aj.all (cD vars inp)=true)\/(i<t.aj.length/\cD vars inp t.aj[i]! =false/\t.aj.all (cD vars inp)=false)):=fun hl=>by
  obtain⟨i,e1,hc⟩:=nV (rnd:=BO M) t.aj (fun i=>⟨vars,inp,(i:Int),t⟩) (fun _ k=>cD vars inp k) (fun i hi=>by
   have hw:=fh hi hl
   have hk:=hM _ (aU hi)
   unfold BO
   dsimp only
   simp only[Bool.cond_decide,Int.toNat_natCast,aq.eta,hk,hw]
   cases cD vars inp t.aj[i]! <;>simp[hi]) (by unfold BO;simp)
  refine⟨i,e1,?_⟩
  rcases hc with ⟨rfl,hc⟩|⟨hi,hc⟩
  ·exact .inl ⟨rfl,x9 hc⟩
  ·exact .inr ⟨hi,hc,tI hi hc⟩
 unfold Uo
 rw[XK,jL]
 unfold vE
 have hk0:(bI t.aW).1= -1\/0<=(bI t.aW).1:=by unfold bI;grind
 have hk1:t.aW≠25->(bI t.aW).1=(bI t.aW).2:=by unfold bI;grind
 have hk2:t.aW=25->bI t.aW=(2,33):=by unfold bI;grind
 have h33:(bI t.aW).2<=33:=by unfold bI;grind
 have hk3:t.aW=25->(bI t.aW).1=2/\(bI t.aW).2=33:=fun h=>by rw[hk2 h];exact⟨rfl,rfl⟩
 generalize (bI t.aW).1=a at*
 generalize (bI t.aW).2=b at*
 by_cases hn:0<=a/\a<=t.aj.length/\(t.aj.length:Int)<=b
 ·obtain⟨i,e,hc⟩:=key (by omega)
  rw[decide_eq_true hn,aq.eta,e]
  generalize t.aj.all (cD vars inp)=A at hc
  simp only[Bool.cond_decide,Int.toNat_natCast,Bool.true_and]
  rcases hc with ⟨rfl,rfl⟩|⟨hi,h2,rfl⟩
  ·cases inp<;>grind
  ·have hk:=hM _ (aU hi)
   simp only[aq.eta,hk,h2]
   clear hM key e hk h2 hk2 hk0
   by_cases h25:t.aW=25
   ·rw[if_pos h25,h25]
    cases inp<;>grind (splits:=30)
   ·rw[if_neg h25]
    have:=hk1 h25
    subst this
    rw[if_neg (show ¬a= -1 by omega),if_pos (show 0<=a by omega),if_pos (show (t.aj.length:Int)=a by omega),if_neg (show ¬a= -2 by omega)]
    dsimp only[cond_false,cond_true]
    cases inp<;>grind (splits:=30)
 ·rw[decide_eq_false hn]
  simp only[Bool.cond_decide]
  grind
theorem Mg(vars:List aN)(inp:Bool):∀(n:Nat) (t:aq),SizeOf.sizeOf t<n->IY n vars t inp=some (cD vars inp t)
 |0,_,h=>by omega
 |n+1,t,h=>TQ (IY n) vars inp t (fun k hk=>Mg vars inp n k (by have:=aq.dh hk;omega))
theorem ZB(vars:List aN)(inp:Bool)(t:aq):Xg vars t inp=some (cD vars inp t):=cZ (SizeOf.sizeOf t+1) fun n hn=>Mg vars inp n t (by omega)
def zC(s:Span):Prop:= -1048576<=s.aa/\s.aa<=s.af/\s.af<=1048576
theorem wh(a b:Span):NL a b=dZ a b:=rfl
theorem nh{a b:Int}(h1: -1048576<=a)(h2:a<=1048576)(h3: -1048576<=b)(h4:b<=1048576): -1099511627776<=a*b/\a*b<=1099511627776:=by
 have e1:(1048576-a)*(1048576-b)≥0:=Int.mul_nonneg (by omega) (by omega)
 have e2:(1048576+a)*(1048576+b)≥0:=Int.mul_nonneg (by omega) (by omega)
 have e3:(1048576-a)*(1048576+b)≥0:=Int.mul_nonneg (by omega) (by omega)
 have e4:(1048576+a)*(1048576-b)≥0:=Int.mul_nonneg (by omega) (by omega)
 grind
theorem XR(a b:Span)(ha:zC a)(hb:zC b):aam a b=some (dZ (dZ (dZ ⟨a.aa*b.aa,a.aa*b.aa⟩ ⟨a.aa*b.af,a.aa*b.af⟩) ⟨a.af*b.aa,a.af*b.aa⟩) ⟨a.af*b.af,a.af*b.af⟩):=by
 unfold zC at ha hb
 have w1:vf a.aa b.aa=a.aa*b.aa:=by have:=nh (a:=a.aa) (b:=b.aa) (by omega) (by omega) (by omega) (by omega);exact aF
 have w2:vf a.aa b.af=a.aa*b.af:=by have:=nh (a:=a.aa) (b:=b.af) (by omega) (by omega) (by omega) (by omega);exact aF
 have w3:vf a.af b.aa=a.af*b.aa:=by have:=nh (a:=a.af) (b:=b.aa) (by omega) (by omega) (by omega) (by omega);exact aF
 have w4:vf a.af b.af=a.af*b.af:=by have:=nh (a:=a.af) (b:=b.af) (by omega) (by omega) (by omega) (by omega);exact aF
 unfold aam
 rw[w1,w2,w3,w4]
 generalize a.aa*b.aa=p
 generalize a.aa*b.af=q
 generalize a.af*b.aa=r
 generalize a.af*b.af=s
 have e:x8 ⟨[q,r,s],(3:Int),0,⟨0,0⟩,⟨p,p⟩⟩=some ⟨[q,r,s],3,3,⟨0,0⟩,dZ (dZ (dZ ⟨p,p⟩ ⟨q,q⟩) ⟨r,r⟩) ⟨s,s⟩⟩:=by
  have k1:oA ⟨[q,r,s],(3:Int),0,⟨0,0⟩,⟨p,p⟩⟩=some (some ⟨[q,r,s],(3:Int),1,⟨0,0⟩,dZ ⟨p,p⟩ ⟨q,q⟩⟩):=by unfold oA;simp[wh,aF]
  have k2:oA ⟨[q,r,s],(3:Int),1,⟨0,0⟩,dZ ⟨p,p⟩ ⟨q,q⟩⟩=some (some ⟨[q,r,s],(3:Int),2,⟨0,0⟩,dZ (dZ ⟨p,p⟩ ⟨q,q⟩) ⟨r,r⟩⟩):=by unfold oA;simp[wh,aF]
  have k3:oA ⟨[q,r,s],(3:Int),2,⟨0,0⟩,dZ (dZ ⟨p,p⟩ ⟨q,q⟩) ⟨r,r⟩⟩=some (some ⟨[q,r,s],(3:Int),3,⟨0,0⟩,dZ (dZ (dZ ⟨p,p⟩ ⟨q,q⟩) ⟨r,r⟩) ⟨s,s⟩⟩):=by unfold oA;simp[wh,aF]
  unfold x8
  rw[bD k1,bD k2,bD k3]
  exact bU fun r=>by unfold oA;simp
 rw[show (([q,r,s]:List Int).length:Int)=3 from rfl,e]
 simp
theorem W1{a b:Span}(ha:zC a)(hb:zC b):zC (dZ a b):=by
 unfold zC dZ at*
 grind
theorem kG:∀(l:List Span) (a:Span),zC a->(∀x∈l,zC x)->zC (l.foldl dZ a)
 |[],a,ha,_=>ha
 |x::l,a,ha,h=>kG l (dZ a x) (W1 ha (h x (List.mem_cons_self ..))) fun y hy=>h y (List.mem_cons_of_mem _ hy)
theorem Ni(l:List Span)(hl:l.length<=1000000)(z a:Span):yd ⟨l,(l.length:Int),0,z,a⟩=some ⟨l,(l.length:Int),(l.length:Int),z,l.foldl dZ a⟩:=by
 obtain⟨v,e1,hv⟩:=cK (rnd:=C7) l.length (fun i (b:Span)=>⟨l,(l.length:Int),(i:Int),z,b⟩) (fun i b=>b=(l.take i).foldl dZ a) (fun i b hi hb=>by
  have hw:=fh hi hl
  refine⟨dZ b l[i]!,?_,?_⟩
  ·unfold C7
   dsimp only
   simp only[Bool.cond_decide,Int.toNat_natCast,wh,hw]
   grind
  ·rw[bE hi,List.foldl_append,hb];rfl) (fun b _=>by unfold C7;simp) (b:=a) rfl
 rw[List.take_length]at hv
 rw[<-hv]
 exact e1
def xX(vars:List aN)(t:aq)(k:List Span):Prop:=(0<=(bI t.aW).1/\(bI t.aW).1<=k.length/\(k.length:Int)<=(bI t.aW).2)/\(t.aW=24->0<=t.fN/\t.fN<vars.length)/\∀s∈k,zC s
theorem Zq(vars:List aN)(t:aq)(k:List Span)(h:xX vars t k):YA vars t k=some (gH vars t k):=by
 obtain⟨hk,h24,hI⟩:=h
 have h0:1<=(bI t.aW).1->zC k[0]! :=fun h=>hI _ (aU (by omega))
 have h1:2<=(bI t.aW).1->zC k[1]! :=fun h=>hI _ (aU (by omega))
 have h33:(bI t.aW).2<=33:=by unfold bI;grind
 have hd:(k.drop 2).length<=1000000:=by rw[List.length_drop];omega
 have W:∀n:Int,-8796093022208<=n->n<=8796093022208->i64.wrap n=n:=fun n a b=>aF
 unfold YA gH
 rw[Ni _ hd]
 have cs:t.aW=0\/t.aW=24\/t.aW=6\/t.aW=8\/t.aW=9\/t.aW=10\/t.aW=11\/t.aW=12\/t.aW=21\/t.aW=22\/t.aW=23\/t.aW=25\/(t.aW≠0/\t.aW≠24/\t.aW≠6/\t.aW≠8/\t.aW≠9/\t.aW≠10/\t.aW≠11/\t.aW≠12/\t.aW≠21/\t.aW≠22/\t.aW≠23/\t.aW≠25):=by omega
 rcases cs with h|h|h|h|h|h|h|h|h|h|h|h|h
 ·simp[h]
 ·simp[h,h24 h]
 ·have hl:1<=(bI t.aW).1:=by rw[h];decide
  obtain⟨a1,a2,a3⟩:=h0 hl
  have w1:i64.wrap ((0:Int)-k[0]!.af)= -k[0]!.af:=by rw[W _ (by omega) (by omega)];omega
  have w2:i64.wrap ((0:Int)-k[0]!.aa)= -k[0]!.aa:=by rw[W _ (by omega) (by omega)];omega
  have i0:(0:Int)<(k.length:Int):=by omega
  simp only[Z0,h,Bool.cond_decide,Int.reduceEq,reduceIte,i0,w1,w2,Int.le_refl,and_self,if_true]
 ·have hl:2<=(bI t.aW).1:=by rw[h];decide
  obtain⟨a1,a2,a3⟩:=h0 (by omega)
  obtain⟨b1,b2,b3⟩:=h1 hl
  have w1:=W (k[0]!.aa+k[1]!.aa) (by omega) (by omega)
  have w2:=W (k[0]!.af+k[1]!.af) (by omega) (by omega)
  have i0:(0:Int)<(k.length:Int):=by omega
  have i1:(1:Int)<(k.length:Int):=by omega
  simp only[Z0,h,Bool.cond_decide,Int.reduceEq,Int.reduceLE,reduceIte,i0,i1,w1,w2,Int.le_refl,and_self,if_true]
 ·have hl:2<=(bI t.aW).1:=by rw[h];decide
  obtain⟨a1,a2,a3⟩:=h0 (by omega)
  obtain⟨b1,b2,b3⟩:=h1 hl
  have w1:=W (k[0]!.aa-k[1]!.af) (by omega) (by omega)
  have w2:=W (k[0]!.af-k[1]!.aa) (by omega) (by omega)
  have i0:(0:Int)<(k.length:Int):=by omega
  have i1:(1:Int)<(k.length:Int):=by omega
  simp only[Z0,h,Bool.cond_decide,Int.reduceEq,Int.reduceLE,reduceIte,i0,i1,w1,w2,Int.le_refl,and_self,if_true]
 ·have hl:2<=(bI t.aW).1:=by rw[h];decide
  have e18:=XR _ _ (h0 (by omega)) (h1 hl)
  have i0:(0:Int)<(k.length:Int):=by omega
  have i1:(1:Int)<(k.length:Int):=by omega
  simp only[Z0,h,Bool.cond_decide,Int.reduceEq,Int.reduceLE,reduceIte,i0,i1,e18,Int.le_refl,and_self,if_true]
 ·have hl:2<=(bI t.aW).1:=by rw[h];decide
  obtain⟨a1,a2,a3⟩:=h0 (by omega)
  obtain⟨b1,b2,b3⟩:=h1 hl
  have w1:i64.wrap ((0:Int)-k[0]!.aa)= -k[0]!.aa:=by rw[W _ (by omega) (by omega)];omega
  have w2:i64.wrap ((0:Int)-if k[0]!.af< -k[0]!.aa then-k[0]!.aa else k[0]!.af)= -(if k[0]!.af< -k[0]!.aa then-k[0]!.aa else k[0]!.af):=by split<;>(rw[W _ (by omega) (by omega)];omega)
  have i0:(0:Int)<(k.length:Int):=by omega
  have i1:(1:Int)<(k.length:Int):=by omega
  simp only[Z0,h,Bool.cond_decide,Int.reduceEq,Int.reduceLE,reduceIte,i0,i1,w1,w2,Int.le_refl,and_self,if_true]
  by_cases c1:(0:Int)<=k[0]!.aa<;>by_cases c2:(0:Int)<=k[1]!.aa<;>simp only[c1,c2,if_true,if_false,decide_true,decide_false,cond_true,cond_false,and_self,and_true,and_false]
 ·have hl:2<=(bI t.aW).1:=by rw[h];decide
  obtain⟨b1,b2,b3⟩:=h1 hl
  have w1:=W (k[1]!.aa+1) (by omega) (by omega)
  have w2:=W (k[1]!.af-1) (by omega) (by omega)
  have i1:(1:Int)<(k.length:Int):=by omega
  simp only[Z0,h,Bool.cond_decide,Int.reduceEq,Int.reduceLE,reduceIte,i1,w1,w2,Int.le_refl,and_self,if_true]
  by_cases c1:k[1]!.aa<0<;>by_cases c2:(0:Int)<k[1]!.af<;>simp only[c1,c2,if_true,if_false]
  ·rw[u6,u6]
  ·rw[u6]
  ·rw[u6]
 ·have hl:2<=(bI t.aW).1:=by rw[h];decide
  have i0:(0:Int)<(k.length:Int):=by omega
  have i1:(1:Int)<(k.length:Int):=by omega
  simp only[Z0,h,Bool.cond_decide,Int.reduceEq,Int.reduceLE,reduceIte,i0,i1,Int.le_refl,and_self,if_true]
 ·have hl:2<=(bI t.aW).1:=by rw[h];decide
  have i0:(0:Int)<(k.length:Int):=by omega
  have i1:(1:Int)<(k.length:Int):=by omega
  simp only[Z0,h,Bool.cond_decide,Int.reduceEq,Int.reduceLE,reduceIte,i0,i1,Int.le_refl,and_self,if_true]
 ·have hl:2<=(bI t.aW).1:=by rw[h];decide
  have i1:(1:Int)<(k.length:Int):=by omega
  have i2:(2:Int)<=(k.length:Int):=by omega
  simp only[Z0,h,Bool.cond_decide,Int.reduceEq,Int.reduceLE,reduceIte,i1,i2,Int.le_refl,and_self,if_true,Int.lt_irrefl,if_false,true_or]
 ·have hl:2<=(bI t.aW).1:=by rw[h];decide
  have i1:(1:Int)<(k.length:Int):=by omega
  have i2:(2:Int)<=(k.length:Int):=by omega
  simp only[Z0,h,Bool.cond_decide,Int.reduceEq,Int.reduceLE,reduceIte,i1,i2,Int.le_refl,and_self,if_true,Int.lt_irrefl,if_false,or_true]
 ·obtain⟨c1,c2,c3,c4,c5,c6,c7,c8,c9,c18,c11,c12⟩:=h
  simp only[c1,c2,c3,c4,c5,c6,c7,c8,c9,c18,c11,c12,Bool.cond_decide,if_false,or_self]
theorem QO(vars:List aN)(hv:cG vars)(t:aq)(k:List Span)(h:xX vars t k):(gH vars t k).aa<=(gH vars t k).af:=by
 obtain⟨hk,h24,hI⟩:=h
 have h0:1<=(bI t.aW).1->zC k[0]! :=fun h=>hI _ (aU (by omega))
 have h1:2<=(bI t.aW).1->zC k[1]! :=fun h=>hI _ (aU (by omega))
 unfold gH
 have cs:t.aW=0\/t.aW=24\/t.aW=6\/t.aW=8\/t.aW=9\/t.aW=10\/t.aW=11\/t.aW=12\/t.aW=21\/t.aW=22\/t.aW=23\/t.aW=25\/(t.aW≠0/\t.aW≠24/\t.aW≠6/\t.aW≠8/\t.aW≠9/\t.aW≠10/\t.aW≠11/\t.aW≠12/\t.aW≠21/\t.aW≠22/\t.aW≠23/\t.aW≠25):=by omega
 rcases cs with h|h|h|h|h|h|h|h|h|h|h|h|h
 ·simp[h]
 ·have hm:vars[t.fN.toNat]!∈vars:=aU (by have:=h24 h;omega)
  have:=hv _ hm
  simp only[h,Int.reduceEq,reduceIte]
  omega
 ·obtain⟨a1,a2,a3⟩:=h0 (by rw[h];decide)
  simp only[h,Int.reduceEq,reduceIte]
  omega
 ·obtain⟨a1,a2,a3⟩:=h0 (by rw[h];decide)
  obtain⟨b1,b2,b3⟩:=h1 (by rw[h];decide)
  simp only[h,Int.reduceEq,reduceIte]
  omega
 ·obtain⟨a1,a2,a3⟩:=h0 (by rw[h];decide)
  obtain⟨b1,b2,b3⟩:=h1 (by rw[h];decide)
  simp only[h,Int.reduceEq,reduceIte]
  omega
 ·simp only[h,Int.reduceEq,reduceIte,dZ]
  generalize k[0]!.aa*k[1]!.aa=p
  generalize k[0]!.aa*k[1]!.af=q
  generalize k[0]!.af*k[1]!.aa=r
  generalize k[0]!.af*k[1]!.af=s
  grind
 ·obtain⟨a1,a2,a3⟩:=h0 (by rw[h];decide)
  simp only[h,Int.reduceEq,reduceIte]
  grind
 ·simp only[h,Int.reduceEq,reduceIte]
  grind
 ·obtain⟨a1,a2,a3⟩:=h0 (by rw[h];decide)
  obtain⟨b1,b2,b3⟩:=h1 (by rw[h];decide)
  simp only[h,Int.reduceEq,reduceIte]
  grind
 ·obtain⟨a1,a2,a3⟩:=h0 (by rw[h];decide)
  obtain⟨b1,b2,b3⟩:=h1 (by rw[h];decide)
  simp only[h,Int.reduceEq,reduceIte]
  grind
 ·have:=kG (k.drop 2) k[1]! (h1 (by rw[h];decide)) fun x hx=>hI x (List.mem_of_mem_drop hx)
  simp only[h,Int.reduceEq,reduceIte,true_or,if_true]
  exact this.2.1
 ·have:=kG (k.drop 2) k[1]! (h1 (by rw[h];decide)) fun x hx=>hI x (List.mem_of_mem_drop hx)
  simp only[h,Int.reduceEq,reduceIte,or_true,if_true]
  exact this.2.1
 ·obtain⟨c1,c2,c3,c4,c5,c6,c7,c8,c9,c18,c11,c12⟩:=h
  simp only[c1,c2,c3,c4,c5,c6,c7,c8,c9,c18,c11,c12,if_false,or_self]
  decide
theorem o4:∀{l:List (Option Span)} {r:List Span},jf l=some r->l=r.map some
 |[],r,h=>by unfold jf at h;cases h;rfl
 |none::l,r,h=>by unfold jf at h;cases h
 |some s::l,r,h=>by
  unfold jf at h
  cases hl:jf l with
  |none=>rw[hl]at h;cases h
  |some q=>rw[hl]at h;cases h;rw[o4 hl];rfl
theorem EN(l:List Span):jf (l.map some)=some l:=by
 induction l with
 |nil=>rfl
 |cons s l ih=>rw[List.map_cons,jf,ih]
theorem u5:∀{l:List (Option Span)},none∈l->jf l=none
 |none::l,h=>rfl
 |some s::l,h=>by
  unfold jf
  rw[u5 (by simpa using h)]
theorem AJ{vars:List aN}{inp:Bool}{t:aq}{k:List Span}(hf:vE vars inp t=true)(hl:k.length=t.aj.length)(hI:∀s∈k,zC s):xX vars t k:=by
 unfold vE at hf
 refine⟨?_,?_,hI⟩
 ·rw[hl]
  simp only[Bool.and_eq_true,decide_eq_true_eq]at hf
  exact hf.1
 ·intro h
  rw[h]at hf
  simp at hf
  exact hf.2.1
theorem ZT(vars:List aN)(hv:cG vars)(inp:Bool)(t:aq)(s:Span)(hf:cD vars inp t=true)(h:fe vars t=some s):zC s:=by
 have key:∀(n:Nat) (t:aq) (s:Span),SizeOf.sizeOf t<n->cD vars inp t=true->fe vars t=some s->zC s:=by
  intro n
  induction n with
  |zero=>intro t s h;omega
  |succ n ih=>
   intro t s hz hf h
   rw[jL,Bool.and_eq_true,List.all_eq_true]at hf
   rw[tP]at h
   cases ha:jf (t.aj.map (fe vars))with
   |none=>rw[ha]at h;cases h
   |some k=>
    rw[ha]at h
    dsimp only at h
    have hm:=o4 ha
    have hl:k.length=t.aj.length:=by have:=congrArg List.length hm;simpa using this.symm
    have hI:∀s∈k,zC s:=fun x hx=>by
     have:some x∈t.aj.map (fe vars):=by rw[hm];exact List.mem_map_of_mem hx
     obtain⟨c,hc,e⟩:=List.mem_map.1 this
     exact ih c x (by have:=aq.dh hc;omega) (hf.2 c hc) e
    have ho:=QO vars hv t k (AJ hf.1 hl hI)
    split at h
    ·rename_i hlim
     cases h
     unfold tv at hlim
     unfold zC
     grind
    ·cases h
 exact key _ t s (Nat.lt_succ_self _) hf h
def td(vars:List aN)(t:aq):Span×Bool:=match jf (t.aj.map (fe vars))with
 |none=>(⟨0,0⟩,false)
 |some l=>(gH vars t l,tv (gH vars t l))
theorem BR(vars:List aN)(t:aq):fe vars t=if(td vars t).2=true then some (td vars t).1 else none:=by
 rw[tP,td]
 cases jf (t.aj.map (fe vars))<;>rfl
theorem D6{vars:List aN}(hv:cG vars){inp:Bool}{t:aq}{k:List Span}(hf:cD vars inp t=true)(ha:jf (t.aj.map (fe vars))=some k):xX vars t k:=by
 rw[jL,Bool.and_eq_true,List.all_eq_true]at hf
 have hm:=o4 ha
 refine AJ hf.1 (by have:=congrArg List.length hm;simpa using this.symm) fun x hx=> ?_
 have:some x∈t.aj.map (fe vars):=by rw[hm];exact List.mem_map_of_mem hx
 obtain⟨c,hc,e⟩:=List.mem_map.1 this
 exact ZT vars hv inp c x (hf.2 c hc) e
theorem Ff{vars:List aN}{inp:Bool}{t:aq}(hf:cD vars inp t=true):t.aj.length<=33:=by
 rw[jL,Bool.and_eq_true]at hf
 have:=hf.1
 unfold vE at this
 have h33:(bI t.aW).2<=33:=by unfold bI;grind
 simp only[Bool.and_eq_true,decide_eq_true_eq]at this
 omega
theorem ow{vars:List aN}{inp:Bool}{t k:aq}(hf:cD vars inp t=true)(hk:k∈t.aj):cD vars inp k=true:=by
 rw[jL,Bool.and_eq_true,List.all_eq_true]at hf
 exact hf.2 k hk
theorem Xo(M:List aN->aq->Option pQ)(vars:List aN)(hv:cG vars)(inp:Bool)(t:aq)(hf:cD vars inp t=true)(hM:∀k∈t.aj,M vars k=some (td vars k)):VH M vars t=some (td vars t):=by
 have h33:=Ff hf
 obtain⟨i,b,e1,hI,hc⟩:=mT (rnd:=yg M) t.aj.length (fun i (b:List Span)=>⟨vars,b,t.aj,(t.aj.length:Int),(i:Int),t,⟨0,0⟩⟩) (fun i b=>(t.aj.take i).map (fe vars)=b.map some) (fun i _=>(td vars t.aj[i]!).2=false) (fun i b hi hb=>by
  have hw:=fh hi (by omega)
  have hk:=hM _ (aU hi)
  have hlen:b.length=i:=by have:=congrArg List.length hb;simp at this;omega
  cases hx:(td vars t.aj[i]!).2 with
  |true=>
   refine .inl ⟨b++[(td vars t.aj[i]!).1],?_,?_⟩
   ·have hl2:(b++[(td vars t.aj[i]!).1]).length<=1073741824:=by simp;omega
    unfold yg
    dsimp only
    simp only[Int.toNat_natCast,aq.eta,hk,hx,hl2,hw,if_true,cond_true,cond_false]
    simp[hi]
   ·rw[bE hi,List.map_append,hb,List.map_append]
    congr 1
    rw[List.map_cons,List.map_cons,BR,if_pos hx]
    rfl
  |false=>
   refine .inr ⟨?_,rfl⟩
   unfold yg
   dsimp only
   simp only[Int.toNat_natCast,aq.eta,hk,hx,cond_true,cond_false]
   simp[hi]) (fun b _=>by unfold yg;simp) (b:=[]) rfl
 have e1':BJ M ⟨vars,[],t.aj,(t.aj.length:Int),0,t,⟨0,0⟩⟩=some ⟨vars,b,t.aj,(t.aj.length:Int),(i:Int),t,⟨0,0⟩⟩:=e1
 unfold VH
 rw[aq.eta,e1']
 dsimp only
 rcases hc with rfl|⟨hi,hx⟩
 ·rw[List.take_length]at hI
  have ha:jf (t.aj.map (fe vars))=some b:=by rw[hI];exact EN b
  rw[eF,cond_false,aq.eta,Zq vars t b (D6 hv hf ha)]
  unfold td
  rw[ha]
  dsimp only
  unfold tv
  simp only[Bool.cond_decide]
  grind
 ·have hk:=hM _ (aU hi)
  have ha:jf (t.aj.map (fe vars))=none:=u5 (List.mem_map.2 ⟨t.aj[i]!,aU hi,by rw[BR,hx];simp⟩)
  rw[pU,cond_true,if_pos ⟨by omega,by omega⟩]
  simp only[Int.toNat_natCast,aq.eta,hk,hx,cond_true,cond_false]
  unfold td
  rw[ha]
theorem Mf(vars:List aN)(hv:cG vars)(inp:Bool):∀(n:Nat) (t:aq),SizeOf.sizeOf t<n->cD vars inp t=true->JB n vars t=some (td vars t)
 |0,_,h,_=>by omega
 |n+1,t,h,hf=>Xo (JB n) vars hv inp t hf (fun k hk=>Mf vars hv inp n k (by have:=aq.dh hk;omega) (ow hf hk))
theorem YJ(vars:List aN)(hv:cG vars)(inp:Bool)(t:aq)(hf:cD vars inp t=true):WL vars t=some (td vars t):=cZ (SizeOf.sizeOf t+1) fun n hn=>Mf vars hv inp n t (by omega) hf
theorem wG(vars:List aN)(hv:cG vars)(inp:Bool)(t:aq):Ij vars t inp=some (dy vars inp t):=by
 unfold Ij dy
 rw[aq.eta,Ui]
 cases hf:cD vars inp t with
 |false=>rfl
 |true=>
  rw[YJ vars hv inp t hf,BR]
  dsimp only
  cases (td vars t).2<;>rfl
def sg(vars:List aN)(t:aq)(k:List Span):Span:=if t.aW=0/\(t.fN< -1048576\/1048576<t.fN)then⟨-1048577,1048577⟩else gH vars t k
theorem N8(vars:List aN)(t:aq)(k:List Span):tv (sg vars t k)=tv (gH vars t k)/\(tv (gH vars t k)=true->sg vars t k=gH vars t k):=by
 unfold sg
 by_cases h:t.aW=0/\(t.fN< -1048576\/1048576<t.fN)
 ·have e:tv (gH vars t k)=false:=by
   unfold tv gH
   rw[if_pos h.1]
   simp
   omega
  rw[if_pos h,e]
  exact⟨by decide,fun h=>by cases h⟩
 ·rw[if_neg h]
  exact⟨rfl,fun _=>rfl⟩
theorem o9(a b:Int):iw a b=if a<b then a else b:=by
 unfold iw
 simp only[Bool.cond_decide]
theorem mE(a b:Int):jh a b=if b<a then a else b:=by
 unfold jh
 simp only[Bool.cond_decide]
theorem fK{k:List Span}{i:Nat}(h:i<k.length):(k.map (·.aa))[i]! =k[i]!.aa:=by
 rw[getElem!_pos _ i (by simpa using h),getElem!_pos k i h,List.getElem_map]
theorem dO{k:List Span}{i:Nat}(h:i<k.length):(k.map (·.af))[i]! =k[i]!.af:=by
 rw[getElem!_pos _ i (by simpa using h),getElem!_pos k i h,List.getElem_map]
theorem AG(k:List Span)(hl:k.length<=1000000)(h2:2<=k.length)(a:Span):yx ⟨k.map (·.aa),k.map (·.af),a.aa,a.af,2⟩=some ⟨k.map (·.aa),k.map (·.af),((k.drop 2).foldl dZ a).aa,((k.drop 2).foldl dZ a).af,(k.length:Int)⟩:=by
 have hlen:(k.drop 2).length=k.length-2:=List.length_drop ..
 have hget:∀i,i<k.length-2->(k.drop 2)[i]! =k[i+2]! :=fun i hi=>by
  rw[getElem!_pos _ i (by omega),getElem!_pos _ (i+2) (by omega),List.getElem_drop]
  congr 1
  omega
 obtain⟨v,e1,hv⟩:=cK (rnd:=Bj) (k.length-2) (fun i (b:Span)=>⟨k.map (·.aa),k.map (·.af),b.aa,b.af,((i+2:Nat):Int)⟩) (fun i b=>b=((k.drop 2).take i).foldl dZ a) (fun i b hi hb=>by
  have hw:=fh (show i+2<k.length by omega) hl
  refine⟨dZ b k[i+2]!,?_,?_⟩
  ·unfold Bj
   dsimp only
   simp only[Bool.cond_decide,Int.toNat_natCast,o9,mE,hw,List.length_map,fK (show i+2<k.length by omega),dO (show i+2<k.length by omega)]
   unfold dZ
   rw[fA,if_pos ⟨by omega,by omega⟩,if_pos ⟨by omega,by omega⟩]
   congr 3<;>grind
  ·rw[bE (by omega),List.foldl_append,hb,hget i hi];rfl) (fun b _=>by
   unfold Bj
   simp only[List.length_map,Bool.cond_decide]
   rw[u6]) (b:=a) rfl
 rw[<-hlen,List.take_length]at hv
 rw[<-hv]
 rw[show k.length-2+2=k.length by omega]at e1
 exact e1
theorem Yl(vars:List aN)(t:aq)(k:List Span)(h:xX vars t k):Xx vars t (k.map (·.aa)) (k.map (·.af))=some ((sg vars t k).aa,(sg vars t k).af):=by
 obtain⟨hk,h24,hI⟩:=h
 have h0:1<=(bI t.aW).1->zC k[0]! :=fun h=>hI _ (aU (by omega))
 have h1:2<=(bI t.aW).1->zC k[1]! :=fun h=>hI _ (aU (by omega))
 have h33:(bI t.aW).2<=33:=by unfold bI;grind
 have W:∀n:Int,-8796093022208<=n->n<=8796093022208->i64.wrap n=n:=fun n a b=>aF
 unfold Xx sg gH
 have cs:t.aW=0\/t.aW=24\/t.aW=6\/t.aW=8\/t.aW=9\/t.aW=10\/t.aW=11\/t.aW=12\/t.aW=21\/t.aW=22\/t.aW=23\/t.aW=25\/(t.aW≠0/\t.aW≠24/\t.aW≠6/\t.aW≠8/\t.aW≠9/\t.aW≠10/\t.aW≠11/\t.aW≠12/\t.aW≠21/\t.aW≠22/\t.aW≠23/\t.aW≠25):=by omega
 rcases cs with h|h|h|h|h|h|h|h|h|h|h|h|h
 ·simp only[Z0,h,Bool.cond_decide,Int.reduceEq,reduceIte,true_and]
  grind
 ·simp[h,h24 h]
 ·have hl:1<=(bI t.aW).1:=by rw[h];decide
  obtain⟨a1,a2,a3⟩:=h0 hl
  have w1:i64.wrap ((0:Int)-k[0]!.af)= -k[0]!.af:=by rw[W _ (by omega) (by omega)];omega
  have w2:i64.wrap ((0:Int)-k[0]!.aa)= -k[0]!.aa:=by rw[W _ (by omega) (by omega)];omega
  have i0:(0:Int)<(k.length:Int):=by omega
  simp only[Z0,h,Bool.cond_decide,Int.reduceEq,reduceIte,List.length_map,i0,fK (show 0<k.length by omega),dO (show 0<k.length by omega),w1,w2,Int.le_refl,and_self,if_true,false_and,if_false]
 ·have hl:2<=(bI t.aW).1:=by rw[h];decide
  obtain⟨a1,a2,a3⟩:=h0 (by omega)
  obtain⟨b1,b2,b3⟩:=h1 hl
  have w1:=W (k[0]!.aa+k[1]!.aa) (by omega) (by omega)
  have w2:=W (k[0]!.af+k[1]!.af) (by omega) (by omega)
  have i0:(0:Int)<(k.length:Int):=by omega
  have i1:(1:Int)<(k.length:Int):=by omega
  simp only[Z0,h,Bool.cond_decide,Int.reduceEq,Int.reduceLE,reduceIte,List.length_map,fK (show 0<k.length by omega),dO (show 0<k.length by omega),fK (show 1<k.length by omega),dO (show 1<k.length by omega),i0,i1,w1,w2,Int.le_refl,and_self,if_true,false_and,if_false]
 ·have hl:2<=(bI t.aW).1:=by rw[h];decide
  obtain⟨a1,a2,a3⟩:=h0 (by omega)
  obtain⟨b1,b2,b3⟩:=h1 hl
  have w1:=W (k[0]!.aa-k[1]!.af) (by omega) (by omega)
  have w2:=W (k[0]!.af-k[1]!.aa) (by omega) (by omega)
  have i0:(0:Int)<(k.length:Int):=by omega
  have i1:(1:Int)<(k.length:Int):=by omega
  simp only[Z0,h,Bool.cond_decide,Int.reduceEq,Int.reduceLE,reduceIte,List.length_map,fK (show 0<k.length by omega),dO (show 0<k.length by omega),fK (show 1<k.length by omega),dO (show 1<k.length by omega),i0,i1,w1,w2,Int.le_refl,and_self,if_true,false_and,if_false]
 ·have hl:2<=(bI t.aW).1:=by rw[h];decide
  obtain⟨a1,a2,a3⟩:=h0 (by omega)
  obtain⟨b1,b2,b3⟩:=h1 hl
  have m1:=nh (a:=k[0]!.aa) (b:=k[1]!.aa) (by omega) (by omega) (by omega) (by omega)
  have m2:=nh (a:=k[0]!.aa) (b:=k[1]!.af) (by omega) (by omega) (by omega) (by omega)
  have m3:=nh (a:=k[0]!.af) (b:=k[1]!.aa) (by omega) (by omega) (by omega) (by omega)
  have m4:=nh (a:=k[0]!.af) (b:=k[1]!.af) (by omega) (by omega) (by omega) (by omega)
  have w1:=W _ (show-8796093022208<=k[0]!.aa*k[1]!.aa by omega) (by omega)
  have w2:=W _ (show-8796093022208<=k[0]!.aa*k[1]!.af by omega) (by omega)
  have w3:=W _ (show-8796093022208<=k[0]!.af*k[1]!.aa by omega) (by omega)
  have w4:=W _ (show-8796093022208<=k[0]!.af*k[1]!.af by omega) (by omega)
  have i0:(0:Int)<(k.length:Int):=by omega
  have i1:(1:Int)<(k.length:Int):=by omega
  simp only[Z0,h,Bool.cond_decide,Int.reduceEq,Int.reduceLE,reduceIte,List.length_map,fK (show 0<k.length by omega),dO (show 0<k.length by omega),fK (show 1<k.length by omega),dO (show 1<k.length by omega),i0,i1,w1,w2,w3,w4,Int.le_refl,and_self,if_true,false_and,if_false,o9,mE,dZ]
  generalize k[0]!.aa*k[1]!.aa=p
  generalize k[0]!.aa*k[1]!.af=q
  generalize k[0]!.af*k[1]!.aa=r
  generalize k[0]!.af*k[1]!.af=s
  congr 2<;>grind
 ·have hl:2<=(bI t.aW).1:=by rw[h];decide
  obtain⟨a1,a2,a3⟩:=h0 (by omega)
  obtain⟨b1,b2,b3⟩:=h1 hl
  have z0:Int.toNat 0=0:=rfl
  have z1:Int.toNat 1=1:=rfl
  have Q4:∀x:Int,-1048576<=x->x<=1048576->uA x=if x<0 then-x else x:=fun x q1 q2=>by
   unfold uA
   rw[W _ (by omega) (by omega)]
   simp only[Bool.cond_decide]
   grind
  have N3:jh (uA k[0]!.aa) (uA k[0]!.af)=if k[0]!.af< -k[0]!.aa then-k[0]!.aa else k[0]!.af:=by
   rw[Q4 _ (by omega) (by omega),Q4 _ (by omega) (by omega),mE]
   grind
  have w2:i64.wrap ((0:Int)-if k[0]!.af< -k[0]!.aa then-k[0]!.aa else k[0]!.af)= -(if k[0]!.af< -k[0]!.aa then-k[0]!.aa else k[0]!.af):=by split<;>(rw[W _ (by omega) (by omega)];omega)
  have i0:(0:Int)<(k.length:Int):=by omega
  have i1:(1:Int)<(k.length:Int):=by omega
  simp only[Z0,h,Bool.cond_decide,Int.reduceEq,Int.reduceLE,reduceIte,List.length_map,z0,z1,fK (show 0<k.length by omega),dO (show 0<k.length by omega),fK (show 1<k.length by omega),dO (show 1<k.length by omega),i0,i1,N3,w2,Int.le_refl,and_self,if_true,false_and,if_false]
  by_cases c1:(0:Int)<=k[0]!.aa<;>by_cases c2:(0:Int)<=k[1]!.aa<;>simp only[c1,c2,if_true,if_false,decide_true,decide_false,cond_true,cond_false,and_self,and_true,and_false]
 ·have hl:2<=(bI t.aW).1:=by rw[h];decide
  obtain⟨b1,b2,b3⟩:=h1 hl
  have w1:=W (k[1]!.aa+1) (by omega) (by omega)
  have w2:=W (k[1]!.af-1) (by omega) (by omega)
  have i1:(1:Int)<(k.length:Int):=by omega
  simp only[Z0,h,Bool.cond_decide,Int.reduceEq,Int.reduceLE,reduceIte,List.length_map,fK (show 1<k.length by omega),dO (show 1<k.length by omega),i1,Int.le_refl,and_self,if_true,false_and,if_false,Ss,w1,w2,o9,mE]
  congr 1
  by_cases c1:k[1]!.aa<0<;>by_cases c2:(0:Int)<k[1]!.af<;>simp only[c1,c2,if_true,if_false,Prod.mk.injEq,and_true,true_and]<;>grind
 ·have hl:2<=(bI t.aW).1:=by rw[h];decide
  have i0:(0:Int)<(k.length:Int):=by omega
  have i1:(1:Int)<(k.length:Int):=by omega
  simp only[Z0,h,Bool.cond_decide,Int.reduceEq,Int.reduceLE,reduceIte,List.length_map,fK (show 0<k.length by omega),dO (show 0<k.length by omega),fK (show 1<k.length by omega),dO (show 1<k.length by omega),i0,i1,Int.le_refl,and_self,if_true,false_and,if_false,o9,mE]
  congr 2<;>grind
 ·have hl:2<=(bI t.aW).1:=by rw[h];decide
  have i0:(0:Int)<(k.length:Int):=by omega
  have i1:(1:Int)<(k.length:Int):=by omega
  simp only[Z0,h,Bool.cond_decide,Int.reduceEq,Int.reduceLE,reduceIte,List.length_map,fK (show 0<k.length by omega),dO (show 0<k.length by omega),fK (show 1<k.length by omega),dO (show 1<k.length by omega),i0,i1,Int.le_refl,and_self,if_true,false_and,if_false,o9,mE]
  congr 2<;>grind
 ·have hl:2<=(bI t.aW).1:=by rw[h];decide
  have i1:(1:Int)<(k.length:Int):=by omega
  have e:=AG k (by omega) (by omega) k[1]!
  simp only[Z0,h,Bool.cond_decide,Int.reduceEq,Int.reduceLE,reduceIte,List.length_map,fK (show 1<k.length by omega),dO (show 1<k.length by omega),e,i1,Int.le_refl,and_self,if_true,Int.lt_irrefl,if_false,true_or,false_and]
 ·have hl:2<=(bI t.aW).1:=by rw[h];decide
  have i1:(1:Int)<(k.length:Int):=by omega
  have e:=AG k (by omega) (by omega) k[1]!
  simp only[Z0,h,Bool.cond_decide,Int.reduceEq,Int.reduceLE,reduceIte,List.length_map,fK (show 1<k.length by omega),dO (show 1<k.length by omega),e,i1,Int.le_refl,and_self,if_true,Int.lt_irrefl,if_false,or_true,false_and]
 ·obtain⟨c1,c2,c3,c4,c5,c6,c7,c8,c9,c18,c11,c12⟩:=h
  simp only[c1,c2,c3,c4,c5,c6,c7,c8,c9,c18,c11,c12,Bool.cond_decide,if_false,or_self,false_and]
def oD(vars:List aN)(t:aq):Int×Int×Bool:=match jf (t.aj.map (fe vars))with
 |none=>(0,0,false)
 |some l=>((sg vars t l).aa,(sg vars t l).af,tv (sg vars t l))
theorem Bm(vars:List aN)(t:aq):fe vars t=if(oD vars t).2.2=true then some ⟨(oD vars t).1,(oD vars t).2.1⟩else none:=by
 rw[tP,oD]
 cases h:jf (t.aj.map (fe vars))with
 |none=>rfl
 |some l=>
  obtain⟨h1,h2⟩:=N8 vars t l
  dsimp only
  by_cases hl:tv (gH vars t l)=true
  ·rw[if_pos hl,if_pos (h1.trans hl),h2 hl]
  ·rw[if_neg hl,if_neg (by rw[h1];exact hl)]
theorem Zv(M:List aN->aq->Option pX)(vars:List aN)(hv:cG vars)(inp:Bool)(t:aq)(hf:cD vars inp t=true)(hM:∀k∈t.aj,M vars k=some (oD vars k)):ZE M vars t=some (oD vars t):=by
 have h33:=Ff hf
 obtain⟨i,b,e1,hI,hc⟩:=mT (rnd:=yl M) t.aj.length (fun i (b:List Span)=>⟨vars,b.map (·.aa),b.map (·.af),(i:Int),t⟩) (fun i b=>(t.aj.take i).map (fe vars)=b.map some) (fun i _=>(oD vars t.aj[i]!).2.2=false) (fun i b hi hb=>by
  have hw:=fh hi (by omega)
  have hk:=hM _ (aU hi)
  have hlen:b.length=i:=by have:=congrArg List.length hb;simp at this;omega
  cases hx:(oD vars t.aj[i]!).2.2 with
  |true=>
   refine .inl ⟨b++[⟨(oD vars t.aj[i]!).1,(oD vars t.aj[i]!).2.1⟩],?_,?_⟩
   ·have hl2:(b.map (·.aa)++[(oD vars t.aj[i]!).1]).length<=1073741824:=by simp;omega
    have hl3:(b.map (·.af)++[(oD vars t.aj[i]!).2.1]).length<=1073741824:=by simp;omega
    unfold yl
    dsimp only
    simp only[Int.toNat_natCast,aq.eta,hk,hx,hl2,hl3,hw,if_true,cond_true,cond_false]
    simp[hi]
   ·rw[bE hi,List.map_append,hb,List.map_append]
    congr 1
    rw[List.map_cons,List.map_cons,Bm,if_pos hx]
    rfl
  |false=>
   refine .inr ⟨?_,rfl⟩
   unfold yl
   dsimp only
   simp only[Int.toNat_natCast,aq.eta,hk,hx,cond_true,cond_false]
   simp[hi]) (fun b _=>by unfold yl;simp) (b:=[]) rfl
 have e1':DC M ⟨vars,[],[],0,t⟩=some ⟨vars,b.map (·.aa),b.map (·.af),(i:Int),t⟩:=e1
 unfold ZE
 rw[aq.eta,e1']
 dsimp only
 rcases hc with rfl|⟨hi,hx⟩
 ·rw[List.take_length]at hI
  have ha:jf (t.aj.map (fe vars))=some b:=by rw[hI];exact EN b
  rw[eF,cond_false,aq.eta,Yl vars t b (D6 hv hf ha)]
  unfold oD
  rw[ha]
  dsimp only
  unfold tv
  simp only[Bool.cond_decide]
  grind
 ·have hk:=hM _ (aU hi)
  have ha:jf (t.aj.map (fe vars))=none:=u5 (List.mem_map.2 ⟨t.aj[i]!,aU hi,by rw[Bm,hx];simp⟩)
  rw[pU,cond_true,if_pos ⟨by omega,by omega⟩]
  simp only[Int.toNat_natCast,aq.eta,hk,hx,cond_true,cond_false]
  unfold oD
  rw[ha]
theorem Lc(vars:List aN)(hv:cG vars)(inp:Bool):∀(n:Nat) (t:aq),SizeOf.sizeOf t<n->cD vars inp t=true->IL n vars t=some (oD vars t)
 |0,_,h,_=>by omega
 |n+1,t,h,hf=>Zv (IL n) vars hv inp t hf (fun k hk=>Lc vars hv inp n k (by have:=aq.dh hk;omega) (ow hf hk))
theorem Vb(vars:List aN)(hv:cG vars)(inp:Bool)(t:aq)(hf:cD vars inp t=true):ZQ vars t=some (oD vars t):=cZ (SizeOf.sizeOf t+1) fun n hn=>Lc vars hv inp n t (by omega) hf
theorem wO(vars:List aN)(hv:cG vars)(inp:Bool)(t:aq):BX vars t inp=some (dy vars inp t):=by
 unfold BX dy
 rw[aq.eta,ZB]
 cases hf:cD vars inp t with
 |false=>rfl
 |true=>
  rw[Vb vars hv inp t hf,Bm]
  dsimp only
  cases (oD vars t).2.2<;>rfl
theorem cy.eta(h:cy):cy.mk h.fName h.aa h.af h.au=h:=by cases h;rfl
theorem Mo(l:List cy)(hl:l.length<=1000000)(v:cy):QE l v=some (l.any fun w=>w.fName.toList==v.fName.toList):=by
 obtain⟨i,e1,hc⟩:=nV (rnd:=Bi) l (fun i=>⟨l,v.fName,v.aa,v.af,v.au.aW,v.au.fN,v.au.aj,(l.length:Int),(i:Int)⟩) (fun _ w=> !(w.fName.toList==v.fName.toList)) (fun i hi=>by
  have hw:=fh hi hl
  unfold Bi Qv
  dsimp only
  simp only[Bool.cond_decide,Int.toNat_natCast]
  grind) (by unfold Bi;simp)
 have e1':Ci ⟨l,v.fName,v.aa,v.af,v.au.aW,v.au.fN,v.au.aj,(l.length:Int),0⟩=some ⟨l,v.fName,v.aa,v.af,v.au.aW,v.au.fN,v.au.aj,(l.length:Int),(i:Int)⟩:=e1
 unfold QE afR
 rw[e1']
 dsimp only
 rcases hc with ⟨rfl,hc⟩|⟨hi,hc⟩
 ·rw[tC fun j hj=>by have:=hc j hj;simpa using this]
  simp
 ·have hc':(l[i]!.fName.toList==v.fName.toList)=true:=by simpa using hc
  rw[y9 hi hc']
  unfold Qv
  simp only[Int.toNat_natCast,hc',cond_true]
  simp[hi]
theorem GG(f:Flat)(hl:f.ai.length<=1000000)(n:Nat)(hn:n<=f.ai.length)(v:cy):
  ∃i:Nat,GR ⟨n,0,f,v⟩=some ⟨n,(i:Int),f,v⟩/\((i=n/\((f.ai.take n).any fun w=>w.fName.toList==v.fName.toList)=false)\/(i<n/\(f.ai[i]!.fName.toList==v.fName.toList)=true/\((f.ai.take n).any fun w=>w.fName.toList==v.fName.toList)=true)):=by
 have hlen:(f.ai.take n).length=n:=by rw[List.length_take];omega
 have hget:∀i,i<n->(f.ai.take n)[i]! =f.ai[i]! :=fun i hi=>by
  rw[getElem!_pos _ i (by omega),getElem!_pos _ i (by omega),List.getElem_take]
 obtain⟨i,e1,hc⟩:=nV (rnd:=K3) (f.ai.take n) (fun i=>⟨(n:Int),(i:Int),f,v⟩) (fun _ w=> !(w.fName.toList==v.fName.toList)) (fun i hi=>by
  rw[hlen]at hi
  have hw:=fh hi (by omega)
  rw[hget i hi]
  unfold K3
  dsimp only
  simp only[Bool.cond_decide,Int.toNat_natCast,aq.eta,cy.eta]
  grind) (by rw[hlen];unfold K3;simp)
 refine⟨i,e1,?_⟩
 rw[hlen]at hc
 rcases hc with ⟨rfl,hc⟩|⟨hi,hc⟩
 ·exact .inl ⟨rfl,tC fun j hj=>by have:=hc j (by omega);simpa using this⟩
 ·have hc':((f.ai.take n)[i]!.fName.toList==v.fName.toList)=true:=by simpa using hc
  exact .inr ⟨hi,by rw[<-hget i hi];exact hc',y9 (by omega) hc'⟩
theorem Xe(t:aq):Oy t=tw t:=by
 unfold Oy tw
 simp only[Bool.cond_decide]
 grind
theorem XV(t:aq):Gc t=tw t:=by
 unfold Gc tw
 simp only[Bool.cond_decide]
 grind
theorem ij:∀(l:List Int),eB l=true↔∀i,i+1<l.length->l[i]! <l[i+1]!
 |[]=>by simp[eB]
 |[a]=>by simp[eB]
 |a::b::l=>by
  unfold eB
  rw[Bool.and_eq_true,ij (b::l),decide_eq_true_iff]
  constructor
  ·rintro⟨h1,h2⟩ i hi
   cases i with
   |zero=>exact h1
   |succ i=>exact h2 i (by simpa using hi)
  ·intro h
   exact⟨h 0 (by simp),fun i hi=>h (i+1) (by simpa using hi)⟩
theorem Vo(l:List Int)(hl:l.length<=1000000):NY l=some (eB l):=by
 obtain⟨i,e1,hc⟩:=nV (rnd:=Dy) l (fun i=>⟨l,(l.length:Int),(i:Int)⟩) (fun i x=>decide (i=0)||decide (l[i-1]! <x)) (fun i hi=>by
  have hw:=fh hi hl
  have hw2:i64.wrap ((i:Int)-1)=(i:Int)-1:=aF
  have hw3:((i:Int)-1).toNat=i-1:=by omega
  unfold Dy
  dsimp only
  simp only[Bool.cond_decide,Int.toNat_natCast,hw,hw2,hw3]
  generalize l[i]! =y
  generalize l[i-1]! =z
  grind) (by unfold Dy;simp)
 have e1':DO ⟨l,(l.length:Int),0⟩=some ⟨l,(l.length:Int),(i:Int)⟩:=e1
 unfold NY
 rw[e1']
 dsimp only
 rcases hc with ⟨rfl,hc⟩|⟨hi,hc⟩
 ·have:eB l=true:=(ij l).2 fun i hi=>by
   have:=hc (i+1) hi
   simpa using this
  rw[this]
  simp
 ·have hc':i≠0/\¬l[i-1]! <l[i]! :=by
   simp only[Bool.or_eq_false_iff,decide_eq_false_iff_not]at hc
   exact hc
  have:eB l=false:=by
   cases hr:eB l with
   |false=>rfl
   |true=>
    have:=(ij l).1 hr (i-1) (by omega)
    rw[show i-1+1=i by omega]at this
    exact absurd this hc'.2
  rw[this]
  have hw2:i64.wrap ((i:Int)-1)=(i:Int)-1:=aF
  have hw3:((i:Int)-1).toNat=i-1:=by omega
  simp only[Bool.cond_decide,Int.toNat_natCast,hw2,hw3]
  revert hc'
  generalize l[i]! =y
  generalize l[i-1]! =z
  intro hc'
  grind
theorem Y3(l:List Int)(hl:l.length<=1000000):VW l=some (decide (1<=l.length/\l.length<=32)&&decide ((0:Int)<=l[0]!)&&eB l):=by
 unfold VW
 by_cases h1:1<=l.length/\l.length<=32
 case neg=>
  rw[decide_eq_false h1]
  simp only[Bool.cond_decide]
  grind
 rw[decide_eq_true h1,decide_eq_false (show ¬(l.length:Int)<1 by omega),decide_eq_false (show ¬32<(l.length:Int)by omega),if_pos (⟨Int.le_refl _,by omega⟩:(0:Int)<=0/\(0:Int)<(l.length:Int))]
 have hz:l[Int.toNat 0]! =l[0]! :=rfl
 rw[hz]
 by_cases h0:(0:Int)<=l[0]!
 case neg=>
  rw[decide_eq_false h0,decide_eq_true (show l[0]! <0 by omega)]
  rfl
 rw[decide_eq_true h0,decide_eq_false (show ¬l[0]! <0 by omega)]
 dsimp only[cond_false]
 have hlen:(l.drop 1).length=l.length-1:=List.length_drop ..
 have hget:∀i,i<l.length-1->(l.drop 1)[i]! =l[i+1]! :=fun i hi=>by
  rw[getElem!_pos _ i (by omega),getElem!_pos _ (i+1) (by omega),List.getElem_drop]
  congr 1
  omega
 obtain⟨i,e1,hc⟩:=nV (rnd:=CG) (l.drop 1) (fun i=>⟨l,((i+1:Nat):Int)⟩) (fun i x=>decide (l[i]! <x)) (fun i hi=>by
  rw[hlen]at hi
  have hw:=fh (show i+1<l.length by omega) hl
  have hw2:i64.wrap (((i+1:Nat):Int)-1)=(i:Int):=by rw[aF];omega
  rw[hget i hi]
  unfold CG
  dsimp only
  simp only[Bool.cond_decide,Int.toNat_natCast,hw,hw2]
  generalize l[i+1]! =y
  generalize l[i]! =z
  grind) (by
   rw[hlen]
   unfold CG
   simp only[Bool.cond_decide]
   rw[u6])
 have e1':B5 ⟨l,1⟩=some ⟨l,((i+1:Nat):Int)⟩:=e1
 rw[e1']
 dsimp only
 rw[hlen]at hc
 rcases hc with ⟨rfl,hc⟩|⟨hi,hc⟩
 ·have:eB l=true:=(ij l).2 fun i hi=>by
   have:=hc i (by omega)
   rw[hget i (by omega)]at this
   simpa using this
  rw[this,decide_eq_false (show ¬(((l.length-1+1:Nat):Int)<(l.length:Int))by omega)]
  rfl
 ·rw[hget i hi]at hc
  have hc':¬l[i]! <l[i+1]! :=by simpa using hc
  have:eB l=false:=by
   cases hr:eB l with
   |false=>rfl
   |true=>exact absurd ((ij l).1 hr i (by omega)) hc'
  rw[this]
  have hw2:i64.wrap (((i+1:Nat):Int)-1)=(i:Int):=by rw[aF];omega
  simp only[Bool.cond_decide,Int.toNat_natCast,hw2]
  revert hc'
  generalize l[i+1]! =y
  generalize l[i]! =z
  intro hc'
  grind
theorem vX(a b:Bool):(a&&b)=if a=true then b else false:=by cases a<;>rfl
theorem Lp(f:Flat)(s:GStep)(last:Bool):Jo f s last=some (cF f s last):=by
 have h199:s.aG.length<=32->NY s.aG=some (eB s.aG):=fun h=>Vo _ (by omega)
 have hz:s.aG[Int.toNat 0]! =s.aG[0]! :=rfl
 unfold Jo Nw Sj RW
 rw[aq.eta,Xe,hz]
 obtain⟨X,hX⟩:∃X,X=cF f s last:=⟨_,rfl⟩
 rw[<-hX]
 have hX1:X=true↔cF f s last=true:=by rw[hX]
 clear hX
 unfold cF rA at hX1
 generalize eB s.aG=R at*
 generalize tw s.au=Z at*
 generalize f.ah[s.cC.toNat]!.bf=K at*
 generalize s.aG[0]! =B0 at*
 generalize NY s.aG=M at*
 have cs:s.bG=0\/s.bG=1\/s.bG=2\/s.bG=3\/s.bG=4\/s.bG=5\/s.bG=6\/s.bG<0\/6<s.bG:=by omega
 rcases cs with h|h|h|h|h|h|h|h|h
 case inr.inr.inr.inr.inr.inr.inr.inl=>rw[decide_eq_true h];dsimp only[cond_true];cases X<;>grind
 case inr.inr.inr.inr.inr.inr.inr.inr=>rw[decide_eq_true h,eF];dsimp only[cond_true,cond_false];cases X<;>grind
 all_goals
  rw[h]at hX1 ⊢
  cases X<;>cases Z<;>simp only[Int.reduceEq,Int.reduceLT,decide_true,decide_false,cond_true,cond_false,if_true,if_false,Bool.cond_decide,reduceIte,Bool.and_eq_true,decide_eq_true_eq,Bool.false_eq_true,true_iff,false_iff,not_and,and_true,and_false]at hX1 ⊢ <;>grind (splits:=40)
theorem Qt(a b:Bool):(bif a then some b else some false)=some (a&&b):=by cases a<;>rfl
theorem Ln(f:Flat)(s:GStep)(last:Bool)(hb:s.aG.length<=1000000):IN f s last=some (cF f s last):=by
 have h173:=Y3 s.aG hb
 have e1:(bif decide ((s.aH.length:Int)=0)then some (decide ((s.aJ.length:Int)=0))else some false)=some (decide (s.aH.length=0/\s.aJ.length=0)):=by
  have c1:((s.aH.length:Int)=0)↔s.aH.length=0:=by omega
  have c2:((s.aJ.length:Int)=0)↔s.aJ.length=0:=by omega
  simp only[c1,c2]
  by_cases a1:s.aH.length=0<;>by_cases a2:s.aJ.length=0<;>simp[a1,a2]
 have e2:(bif decide (0<=s.cC)then bif decide (s.cC<(f.ah.length:Int))then if(0:Int)<=s.cC/\s.cC<(f.ah.length:Int)then some (decide (f.ah[s.cC.toNat]!.bf=0))else none else some false else some false)=some (rA f s):=by
  unfold rA
  simp only[Bool.cond_decide]
  generalize f.ah[s.cC.toNat]!.bf=K
  by_cases a1:0<=s.cC<;>by_cases a2:s.cC<(f.ah.length:Int)<;>simp[a1,a2]
 unfold IN
 rw[aq.eta,XV,h173,e1,e2]
 dsimp only
 unfold cF
 generalize eB s.aG=R
 generalize tw s.au=Z
 generalize rA f s=L1
 generalize decide (s.aH.length=0/\s.aJ.length=0)=F
 generalize s.aG[0]! =B0
 have hi:((s.aG.length:Int)=0)↔s.aG.length=0:=by omega
 have hi2:((s.aJ.length:Int)=0)↔s.aJ.length=0:=by omega
 simp only[hi,hi2]
 have cs:s.bG=0\/s.bG=1\/s.bG=2\/s.bG=3\/s.bG=4\/s.bG=5\/s.bG=6\/(s.bG≠0/\s.bG≠1/\s.bG≠2/\s.bG≠3/\s.bG≠4/\s.bG≠5/\s.bG≠6):=by omega
 rcases cs with h|h|h|h|h|h|h|⟨h0,h1,h2,h3,h4,h5,h6⟩
 case inr.inr.inr.inr.inr.inr.inr=>simp only[h0,h1,h2,h3,h4,h5,h6,decide_false,cond_false,if_false]
 all_goals
  rw[h]
  simp only[Int.reduceEq,decide_true,decide_false,cond_true,cond_false,if_true,if_false,reduceIte]
  generalize decide (s.aG.length=0)=b1
  generalize decide (s.cC=0)=b2
  generalize decide (s.aJ.length=0)=b3
  generalize decide (1<=s.aG.length/\s.aG.length<=32)=b4
  generalize decide ((0:Int)<=B0)=b5
  try rw[Bool.decide_and]
  generalize decide (s.fN=0)=b6
  try generalize decide (0<=s.fN)=b7
  try generalize decide (s.fN<(f.ai.length:Int))=b8
  simp only[Qt]
  first|done|(congr 1;ac_rfl)
theorem MK(s:GStep)(hb:s.bG=6->1<=s.aG.length/\s.aG.length<=32):HU s=some (rB s):=by
 unfold HU rB
 by_cases h6:s.bG=6
 ·obtain⟨b1,b2⟩:=hb h6
  have hw:i64.wrap ((s.aG.length:Int)-1)=(s.aG.length:Int)-1:=aF
  have hw2:((s.aG.length:Int)-1).toNat=s.aG.length-1:=by omega
  rw[hw,hw2,h6]
  generalize s.aG[s.aG.length-1]! =B
  simp only[Int.reduceEq,Int.reduceLT,decide_true,decide_false,cond_true,cond_false,if_true,if_false,Bool.cond_decide,reduceIte,vX,decide_eq_true_eq,Bool.false_eq_true]
  grind (splits:=30)
 ·rw[decide_eq_false h6,if_neg h6]
  by_cases h2:s.bG=2
  ·rw[h2]
   simp only[Int.reduceEq,Int.reduceLT,decide_true,decide_false,cond_true,cond_false,if_true,if_false,Bool.cond_decide,reduceIte,vX,decide_eq_true_eq,Bool.false_eq_true]
   grind (splits:=30)
  ·rw[decide_eq_false h2,if_neg h2]
   simp only[Int.reduceEq,Int.reduceLT,decide_true,decide_false,cond_true,cond_false,if_true,if_false,Bool.cond_decide,reduceIte,vX,decide_eq_true_eq,Bool.false_eq_true]
   grind (splits:=30)
theorem gR{f:Flat}{s:GStep}{last:Bool}(h:cF f s last=true):(s.bG=6->1<=s.aG.length/\s.aG.length<=32)/\(s.bG≠6->s.aG.length=0)/\(s.bG≠3->s.bG≠4->s.aH=[])/\(s.bG≠3->s.aJ=[])/\(s.bG≠4->0<=s.fN):=by
 unfold cF at h
 simp only[vX,decide_eq_true_eq]at h
 have e1:s.aH.length=0->s.aH=[]:=List.length_eq_zero_iff.1
 have e2:s.aJ.length=0->s.aJ=[]:=List.length_eq_zero_iff.1
 refine⟨fun h6=> ?_,fun h6=> ?_,fun h3 h4=>e1 ?_,fun h3=>e2 ?_,fun h4=> ?_⟩<;>grind (splits:=40)
end Go.Proofs.YtnfljbehcffmcaaGreat
end
noncomputable section
set_option maxRecDepth 100000
namespace Go.Proofs.YtnfljbehcffmcaaGreat
open Go Go.Iv
abbrev ahV:Type:=List Int
def d237:Td 1 ahV:= .c [] [] (.r 1 1 en (sr 0 3 sn) (fun z=>z.2.1) (fun x=>((()),(x,()))) fun _=>rfl)
def akq:=(lc (qo 0) ln)
def alx:=(sr 0 3 sn)
def Ja(b0:List Int):Option ahV:=if b0.length<=1073741824 then some (b0.mergeSort fun x y=>decide (x<=y))else none
def ab6:Prop:=HY Tryz.prog 237 1 akq alx d237 (fun g=>Ja g.2.1)
def apK:aI->aI:=eY Tryz.prog 237 1 akq alx d237 (fun g=>Ja g.2.1)
theorem R8(hv:ab6){F:aI}(h:aZ Tryz.prog F):aZ Tryz.prog (apK F):=FY hv ⟨_,Tryz.func237,by kernel_rfl,by kernel_rfl⟩ (fun _=>by kernel_rfl) h
def U3:Go.Shelf.Ren:=⟨fun|189=>237|125=>257|257=>281|128=>300|129=>301|294=>317|295=>318|296=>319|297=>320|298=>321|299=>322|216=>323|300=>324|301=>325|328=>342|329=>333|330=>334|331=>343|332=>344|215=>326|343=>354|n=>n,fun|28=>27|3=>3|46=>240|0=>0|51=>322|53=>324|4=>4|183=>316|182=>315|131=>193|5=>5|9=>9|218=>344|222=>348|228=>356|229=>297|n=>n,fun|n=>n⟩
theorem Srt:Go.Proofs.Lays.n189 Tryz.prog U3 where
 mixed:=by kernel_rfl
 f125:=Tryz.func257.trans (congrArg some (by kernel_rfl))
 f128:=Tryz.func300.trans (congrArg some (by kernel_rfl))
 f129:=Tryz.func301.trans (congrArg some (by kernel_rfl))
 f189:=Tryz.func237.trans (congrArg some (by kernel_rfl))
 f215:=Tryz.func326.trans (congrArg some (by kernel_rfl))
 f216:=Tryz.func323.trans (congrArg some (by kernel_rfl))
 f257:=Tryz.func281.trans (congrArg some (by kernel_rfl))
 f294:=Tryz.func317.trans (congrArg some (by kernel_rfl))
 f295:=Tryz.func318.trans (congrArg some (by kernel_rfl))
 f296:=Tryz.func319.trans (congrArg some (by kernel_rfl))
 f297:=Tryz.func320.trans (congrArg some (by kernel_rfl))
 f298:=Tryz.func321.trans (congrArg some (by kernel_rfl))
 f299:=Tryz.func322.trans (congrArg some (by kernel_rfl))
 f300:=Tryz.func324.trans (congrArg some (by kernel_rfl))
 f301:=Tryz.func325.trans (congrArg some (by kernel_rfl))
 f328:=Tryz.func342.trans (congrArg some (by kernel_rfl))
 f329:=Tryz.func333.trans (congrArg some (by kernel_rfl))
 f330:=Tryz.func334.trans (congrArg some (by kernel_rfl))
 f331:=Tryz.func343.trans (congrArg some (by kernel_rfl))
 f332:=Tryz.func344.trans (congrArg some (by kernel_rfl))
 f343:=Tryz.func354.trans (congrArg some (by kernel_rfl))
 t0:=Tryz.underlying0
 a0:=Tryz.isAgg0
 z0:=Tryz.sizeOf0
 v0:=Tryz.zeroValue0
 t3:=Tryz.underlying3
 a3:=Tryz.isAgg3
 z3:=Tryz.sizeOf3
 v3:=Tryz.zeroValue3
 t4:=Tryz.underlying4
 a4:=Tryz.isAgg4
 z4:=Tryz.sizeOf4
 v4:=Tryz.zeroValue4
 t5:=Tryz.underlying5
 a5:=Tryz.isAgg5
 z5:=Tryz.sizeOf5
 v5:=Tryz.zeroValue5
 t9:=Tryz.underlying9
 a9:=Tryz.isAgg9
 z9:=Tryz.sizeOf9
 v9:=Tryz.zeroValue9
 t28:=Tryz.underlying27
 a28:=Tryz.isAgg27
 z28:=Tryz.sizeOf27
 v28:=Tryz.zeroValue27
 t46:=Tryz.underlying240
 a46:=Tryz.isAgg240
 z46:=Tryz.sizeOf240
 v46:=Tryz.zeroValue240
 t51:=Tryz.underlying322
 a51:=Tryz.isAgg322
 z51:=Tryz.sizeOf322
 v51:=Tryz.zeroValue322
 t53:=Tryz.underlying324
 a53:=Tryz.isAgg324
 z53:=Tryz.sizeOf324
 v53:=Tryz.zeroValue324
 t131:=Tryz.underlying193
 a131:=Tryz.isAgg193
 z131:=Tryz.sizeOf193
 v131:=Tryz.zeroValue193
 t182:=Tryz.underlying315
 a182:=Tryz.isAgg315
 z182:=Tryz.sizeOf315
 v182:=Tryz.zeroValue315
 t183:=Tryz.underlying316
 a183:=Tryz.isAgg316
 z183:=Tryz.sizeOf316
 v183:=Tryz.zeroValue316
 t218:=Tryz.underlying344
 a218:=Tryz.isAgg344
 z218:=Tryz.sizeOf344
 v218:=Tryz.zeroValue344
 t222:=Tryz.underlying348
 a222:=Tryz.isAgg348
 z222:=Tryz.sizeOf348
 v222:=Tryz.zeroValue348
 t228:=Tryz.underlying356
 a228:=Tryz.isAgg356
 z228:=Tryz.sizeOf356
 v228:=Tryz.zeroValue356
 t229:=Tryz.underlying297
 a229:=Tryz.isAgg297
 z229:=Tryz.sizeOf297
 v229:=Tryz.zeroValue297
theorem o5{A:Nat->Prop}{w:World}{l:List Int}{us:List Value}(h1:us.length=l.length*1)(h2:∀i,i<l.length->bk A w (uni.cells 3 l[i]!) ((us.drop (i*1)).take 1)):us=l.map (Value.int .i64):=by
 apply List.ext_getElem (by simpa using h1)
 intro i q1 q2
 simp at q2
 obtain⟨g1,g2⟩:=h2 i q2
 have e:((us.drop (i*1)).take 1)[0]? =some us[i]:=by
  rw[List.getElem?_take_of_lt (by omega),List.getElem?_drop]
  simp[q1]
 have g3:=g2 0 (.lit (.int .i64 l[i]!)) us[i] rfl e
 rw[g3.cc,List.getElem_map,getElem!_pos l i q2]
theorem Ud{A:Nat->Prop}{w:World}{l:List Int}:∀i,i<l.length->bk A w (uni.cells 3 l[i]!) (((l.map (Value.int .i64)).drop (i*1)).take 1):=fun i hi=>by
 have e:((l.map (Value.int .i64)).drop (i*1)).take 1=[Value.int .i64 l[i]!]:=by
  rw[Nat.mul_one,List.drop_eq_getElem_cons (by simpa using hi),List.take_succ_cons,List.take_zero,List.getElem_map,getElem!_pos l i hi]
 rw[e]
 refine⟨rfl,fun j a v q1 q2=> ?_⟩
 cases j with
 |zero=>cases q1;cases q2;exact .lit _
 |succ j=>cases q1
theorem afw(l b:List Int)(hb:Ja l=some b):Mj Tryz.prog 237 [.own 0] [(0, .row 3 l)] 1 (iP Tryz.prog 237 1 (d237.pat b)):=by
 unfold Ja at hb
 split at hb
 case isFalse=>cases hb
 rename_i hlen
 have hbl:b=l.mergeSort fun x y=>decide (x<=y):=(Option.some.inj hb).symm
 have hln:b.length=l.length:=by rw[hbl,List.length_mergeSort]
 intro ρ
 have ho:iP Tryz.prog 237 1 (d237.pat b)=⟨.gY [],[(0, .row 3 b)],1⟩:=by kernel_rfl
 show Go.Iv.Fn Tryz.prog 237 [(bL.own 0).sub ρ] (aP.res ρ [(0, .row 3 l)]) _
 rw[ho,cQ]
 intro w A vs hr hd hn
 obtain⟨hr1,hr2⟩:=hr
 obtain⟨v,rfl⟩:∃v,vs=[v]:=List.length_eq_one_iff.1 hr1
 have hv:v=ρ.v 0:=(hr2 0 _ v rfl rfl).cc
 subst hv
 generalize hv:ρ.v 0=v at*
 have hok:=hd.1 (.row v 3 l) (by show _∈[b9.row (ρ.v 0) 3 l];rw[hv];exact List.mem_singleton.2 rfl)
 obtain⟨us,h1,h2,h3⟩:=hok
 have hσ:aP.res ρ [(0, .row 3 l)]=[b9.row v 3 l]:=by show [b9.row (ρ.v 0) 3 l]=_;rw[hv]
 have hus:us=l.map (Value.int .i64):=o5 h1.1 h3
 rw[hσ]at hd hn ⊢
 have fin:∀w':World,fX w' v 3 1 b.length (b.map (Value.int .i64))->Kp (bg [b9.row v 3 l]) w w'->∃v_1 av σ',Ending.returned (Value.tuple #[])=Ending.returned v_1/\
   (∃ρ',oV 1 ρ ρ'/\av=(bL.gY (cE:=uni.cE) []).sub ρ'/\List.Perm σ' (aP.res ρ' [(0, .row 3 b)]))/\Tr ⟨w,A,bg [b9.row v 3 l]⟩ (bg [b9.row v 3 l]) [b9.row v 3 l] w σ' w'/\Rel (al ⟨w,A,bg [b9.row v 3 l]⟩ σ') w' av v_1:=fun w' hrow hk=>by
  have hbk:bg [b9.row v 3 b]=bg [b9.row v 3 l]:=rfl
  have hal:∀x,al ⟨w,A,bg [b9.row v 3 l]⟩ [b9.row v 3 l] x->al ⟨w,A,bg [b9.row v 3 l]⟩ [b9.row v 3 b] x:=fun x h=>h
  refine⟨_, .gY [],[b9.row v 3 b],rfl,⟨ρ,fun i _=>⟨rfl,rfl⟩,by simp only[bL.sub,List.map_nil],by show List.Perm _ [b9.row (ρ.v 0) 3 b];rw[hv]⟩,⟨⟨hk,?_,?_,?_⟩,hk,fun x _ h=>⟨hal x h,h.2⟩⟩,Rel.gY [] [] rfl (fun j a v q=>by cases q)⟩
  ·intro r hr
   rw[List.mem_singleton.1 hr]
   exact⟨b.map (Value.int .i64),hrow,fun i _=>rfl,Ud⟩
  ·rw[hbk];exact hn
  ·intro x hx;exact .inl hx
 obtain⟨h1l,hcase⟩:=h1
 rcases hcase with ⟨p,hvp,hl0⟩|⟨gb,cap,cur,hvp,hg,q1,q2,q3,q4⟩
 ·have hl:l=[]:=List.length_eq_zero_iff.1 hl0
  have hbn:b=[]:=by rw[hbl,hl,List.mergeSort_nil]
  subst hvp
  refine(Go.Proofs.Any.slices_Sort_int_none Srt p 0 w).mono fun e w' he=> ?_
  obtain⟨rfl,rfl⟩:=he
  refine fin w' ?_ (Kp.refl _ _)
  rw[hbn]
  exact⟨rfl, .inl ⟨p,rfl,rfl⟩⟩
 ·subst hvp
  have hgs:gb<w.heap.size:=(Array.getElem?_eq_some_iff.1 hg).1
  have q4:cur.toList.take (l.length*1)=us:=q4
  have q3:cur.size=(cap+1)*1:=q3
  rw[Nat.mul_one]at q4
  have q1:l.length<=cap+1:=q1
  have hbc:b.length<=cap+1:=by rw[hln];exact q1
  have hH:=holds_of_blockI (ss:=l) hg (by rw[q4,hus])
  refine(Go.Proofs.Any.slices_Sort_int Srt gb 0 (cap+1) l w hH hgs (by omega)).mono fun e w' he=> ?_
  obtain⟨rfl,n,os,rfl⟩:=he
  rw[<-hbl]
  obtain⟨k1,k2,k3,k4,k5⟩:=grownBy_sortedI (w:=w) (g:=gb) (n:=n) (os:=os) b.toArray
  refine fin _ ?_ ⟨k1,k2,k3,k4,fun k hk hX=>k5 k hk (fun h=>hX ?_)⟩
  ·refine⟨by simp, .inr ⟨gb,cap,_,by rw[hln];rfl,heap_sortedI _ hg,hbc,q2,by simp[Go.Sort.putCells,q3],?_⟩⟩
   rw[Nat.mul_one]
   exact take_putCellsI cur b (by rw[q3,Nat.mul_one];exact hbc)
  ·cases h
   exact bB.2 ⟨_,List.mem_singleton.2 rfl,rfl⟩
theorem ajU:ab6:=fun g b hb=>afw g.2.1 b hb
end Go.Proofs.YtnfljbehcffmcaaGreat
end
noncomputable section
set_option maxRecDepth 100000
namespace Go.Proofs.YtnfljbehcffmcaaGreat
open Go Go.Iv
open Go.IntKind (i64)
abbrev E35:Type:=List Int
def d35:Td 0 E35:= .c [] [2] (.t (cl.s 2 [] 3) (.c [] [2] (.r 0 1 (ec 2 (qo 0) en) (sr 0 3 sn) (fun z=>z.2.1) (fun x=>(((),()),(x,()))) fun _=>rfl)))
def A35:=(lc (ql 3) ln)
def m35(a0:List Int):Option E35:=if a0.length<=1073741824 then some a0 else none
theorem aeB:eC Tryz.prog cL 0 300 35 .no:=bT (l:=[]) Tryz.func35 (bA (by kernel_rfl)) (by kernel_rfl) aC
theorem ap3(x:Int)(xs:List Int):bK Tryz.prog cL 300 .no 35 [.sl 3 (x::xs)] [] 0 d35.rd=if([]++(x::xs)).length<=1073741824 then some ([]++(x::xs))else none:=by kernel_rfl
theorem aqS(c:Nat):bK Tryz.prog cL 300 .no 35 [.lit (.slice none 0 c)] [] 0 d35.rd=some []:=by kernel_rfl
theorem aoR(a:Addr)(c:Nat):bK Tryz.prog cL 300 .no 35 [.lit (.slice (some a) 0 c)] [] 0 d35.rd=some []:=by kernel_rfl
theorem h35:HL Tryz.prog 35 A35 d35 (fun g=>m35 g.1):=fun g r h=>by
 obtain⟨a0,_⟩:=g
 have h:m35 a0=some r:=h
 cases a0 with
 |cons x xs=>exact(nH (out:=fun p=>iP Tryz.prog 35 0 (d35.pat p)) (p:=r) aK aeB d35.ok (fun p=>by kernel_rfl) (mG (by kernel_rfl)) (j7 (by kernel_rfl)) ((ap3 x xs).trans (by rw[List.nil_append];exact h))).2
 |nil=>
  cases h
  exact MG (fun c=>(nH (out:=fun p=>iP Tryz.prog 35 0 (d35.pat p)) (p:=[]) aK aeB d35.ok (fun p=>by kernel_rfl) (mG (by kernel_rfl)) (j7 (by kernel_rfl)) (aqS c)).2) (fun a c=>(nH (out:=fun p=>iP Tryz.prog 35 0 (d35.pat p)) (p:=[]) aK aeB d35.ok (fun p=>by kernel_rfl) (mG (by kernel_rfl)) (j7 (by kernel_rfl)) (aoR a c)).2)
def e35:aI->aI:=eL Tryz.prog 35 false A35 d35 (fun g=>m35 g.1)
theorem adL{F:aI}(h:aZ Tryz.prog F):aZ Tryz.prog (e35 F):=fW (sc:=wQ) dL h35 ⟨_,Tryz.func35,by kernel_rfl,by kernel_rfl⟩ (fun _=>by kernel_rfl) (fun _=>by kernel_rfl) h
structure jI where
 t21:List Int
 (t22 t23:Int)
 (b0 b1 b2:aD)
def JO:Td 0 jI:= .c [] [2,4,7,21,22,23] (.r 0 4 (ec 2 (qp 0 0) (ec 4 (qp 1 0) (ec 7 (qp 2 0) (ec 21 (qo 3) (ec 22 (qi .i64) (ec 23 (qi .i64) en)))))) (sb 0 34 (lg 34) (sb 1 34 (lg 34) (sb 2 34 (lg 34) (sr 3 3 sn)))) (fun z=>⟨z.2.2.2.2.1,z.1.2.2.2.2.1,z.1.2.2.2.2.2.1,z.2.1,z.2.2.1,z.2.2.2.1⟩) (fun x=>(((),(),(),(),x.t22,x.t23,()),(x.b0,x.b1,x.b2,x.t21,()))) fun _=>rfl)
def vh(p:jI):Option (Option jI):=
 bif decide (p.t23<p.t22)then if(0:Int)<=p.t23/\p.t23<(↑p.t21.length:Int)then if 3=3/\p.t23.toNat<p.t21.length then bif bif ig p.t21[p.t23.toNat]! then false else true then some (none)else match vP p.b0 p.t21[p.t23.toNat]! with|none=>none|some r1=>bif bif dI r1.fst then false else true then match jY p.b2 (fu p.t21[p.t23.toNat]!)with|none=>none|some r2=>some (some (jI.mk p.t21 p.t22 (i64.wrap (p.t23+1)) r1.snd p.b1 r2))else some (some (jI.mk p.t21 p.t22 (i64.wrap (p.t23+1)) r1.snd p.b1 p.b2))else none else none else some (none)
def DJ:jI->Option jI:=bt (vh)
abbrev aiV:Type:=aD×Int
def d161:Td 0 aiV:= .c [] [4,5] (.r 0 1 (ec 4 (qp 0 0) (ec 5 (qi .i64) en)) (sb 0 34 (lg 34) sn) (fun z=>(z.2.1,z.1.2.1)) (fun x=>(((),x.2,()),(x.1,()))) fun _=>rfl)
def ER(a0:aD)(a1:List Int):Option aiV:=
 match qZ a0 with|none=>none|some r3=>bif bif r3 then false else true then some ((aD.mk (0) (0) (0),1))else match m35 a1 with|none=>none|some r4=>match Ja r4 with|none=>none|some r5=>match DJ (jI.mk r5 (↑(List.length r5):Int) (0) a0 (aD.mk (0) (0) (0)) gF)with|none=>none|some r6=>bif decide (r6.t23<r6.t22)then if(0:Int)<=r6.t23/\r6.t23<(↑r6.t21.length:Int)then if 3=3/\r6.t23.toNat<r6.t21.length then bif bif ig r6.t21[r6.t23.toNat]! then false else true then some ((aD.mk (0) (0) (0),3))else match vP r6.b0 r6.t21[r6.t23.toNat]! with|none=>none|some r7=>bif bif dI r7.fst then false else true then match jY r6.b2 (fu r6.t21[r6.t23.toNat]!)with|none=>none|some r8=>none else none else none else none else match jY r6.b2 r6.b0 with|none=>none|some r9=>some ((r9,0))
def ahE:aI->aI:=eL Tryz.prog 161 false (lc (qg 34) (lc (ql 3) ln)) d161 (fun g=>ER g.1 g.2.1)
theorem T2:EO ahE:=fun h=>kL (an:=(.two .no (.two .no (.two .no (.two .no (.two .no (.two (.two .no (JO.lp DJ .no)) .no))))))) (l:=[(aS Tryz.f161 0,(JO.lp DJ .no))]) Tryz.func161 (R8 ajU (iF (oX (pI (gU (DI (wH (je (adL aK))))))))) (ax (aO JO) aC) h
end Go.Proofs.YtnfljbehcffmcaaGreat
end
noncomputable section
namespace Go.Proofs.YtnfljbehcffmcaaGreat
open Go Go.Iv
theorem Gn{l:List Int}(h:eB l=true):∀{i j:Nat},i<j->j<l.length->l[i]! <l[j]! :=by
 intro i j hij hj
 induction j with
 |zero=>omega
 |succ j ih=>
  have h1:=(ij l).1 h j hj
  by_cases hi:i=j
  ·subst hi;exact h1
  ·have:=ih (by omega) (by omega)
   omega
theorem FW{l:List Int}(h:eB l=true):l.mergeSort (fun x y=>decide (x<=y))=l:=by
 apply List.mergeSort_of_pairwise
 rw[List.pairwise_iff_getElem]
 intro i j hi hj hij
 have:=Gn h hij hj
 rw[getElem!_pos l i hi,getElem!_pos l j hj]at this
 simp
 omega
def zO:List Int->Int->Int
 |[],x=>x
 |b::l,x=>if x<=b then b else zO l x
theorem mJ(l:List Int)(b x:Int):zO (l++[b]) x=if(∃c∈l,x<=c)then zO l x else if x<=b then b else x:=by
 induction l with
 |nil=>simp[zO]
 |cons c l ih=>
  show (if x<=c then c else zO (l++[b]) x)=_
  by_cases h:x<=c
  ·rw[if_pos h,if_pos ⟨c,List.mem_cons_self ..,h⟩]
   show c=if x<=c then c else zO l x
   rw[if_pos h]
  ·rw[if_neg h,ih]
   show _=if _ then(if x<=c then c else zO l x)else _
   rw[if_neg h]
   by_cases k:∃c∈l,x<=c
   ·obtain⟨d,hd,hx⟩:=k
    rw[if_pos ⟨d,hd,hx⟩,if_pos ⟨d,List.mem_cons_of_mem _ hd,hx⟩]
   ·rw[if_neg k,if_neg (show ¬∃d∈c::l,x<=d from fun⟨d,hd,hx⟩=>by
     rcases List.mem_cons.mp hd with rfl|hd
     ·exact h hx
     ·exact k ⟨d,hd,hx⟩)]
theorem U6{l:List Int}{x:Int}(h:∃c∈l,x<=c):zO l x∈l:=by
 induction l with
 |nil=>obtain⟨c,hc,_⟩:=h;cases hc
 |cons c l ih=>
  show (if x<=c then c else zO l x)∈_
  by_cases k:x<=c
  ·rw[if_pos k];exact List.mem_cons_self ..
  ·rw[if_neg k]
   obtain⟨d,hd,hx⟩:=h
   rcases List.mem_cons.mp hd with rfl|hd
   ·exact absurd hx k
   ·exact List.mem_cons_of_mem _ (ih ⟨d,hd,hx⟩)
theorem BV{l:List Int}{x:Int}(h:¬∃c∈l,x<=c):zO l x=x:=by
 induction l with
 |nil=>rfl
 |cons c l ih=>
  show (if x<=c then c else zO l x)=_
  rw[if_neg (fun k=>h ⟨c,List.mem_cons_self ..,k⟩),ih (fun⟨d,hd,hx⟩=>h ⟨d,List.mem_cons_of_mem _ hd,hx⟩)]
def sX(a:aD)(l:List Int)(y:Int):Prop:=∃x,bz a x/\y=zO l x
theorem MZ{a:aD}(h:NV a){l:List Int}(hl:∀b∈l,bN b){y:Int}(k:sX a l y):bN y:=by
 obtain⟨x,hx,rfl⟩:=k
 by_cases c:∃c∈l,x<=c
 ·exact hl _ (U6 c)
 ·rw[BV c];exact NX h hx
structure F9 (a:aD) (l:List Int) (i:Nat) (s:aD×aD):Prop where
 rest:Ex (fun x=>bz a x/\∀b∈l.take i,b<x) s.1
 out:kz (fun y=>∃x,bz a x/\(∃b∈l.take i,x<=b)/\y=zO (l.take i) x) s.2
 v:NV s.2
theorem F9.step{a:aD}{l:List Int}{i:Nat}{s:aD×aD}(hi:i<l.length)(hl:∀b∈l,bN b)(h:F9 a l i s):
  ∃u r,vP s.1 l[i]! =some (u,r)/\NV u/\(dI u=true->F9 a l (i+1) (r,s.2))/\(dI u=false->F9 a l (i+1) (r,bQ s.2 (cV l[i]!))):=by
 obtain⟨u,r,e,p1,p2⟩:=sq h.rest.1 l[i]!
 have hb:=hl _ (aU hi)
 have mu:∀x,bz u x↔bz a x/\(∀b∈l.take i,b<x)/\x<=l[i]! :=fun x=>
  ⟨fun k=>let ⟨k1,k2⟩:=(p1.2 x).mp k;let ⟨k3,k4⟩:=(h.rest.2 x).mp k1;⟨k3,k4,k2⟩,fun⟨k1,k2,k3⟩=>(p1.2 x).mpr ⟨(h.rest.2 x).mpr ⟨k1,k2⟩,k3⟩⟩
 have tk:l.take (i+1)=l.take i++[l[i]!]:=bE hi
 have mr:Ex (fun x=>bz a x/\∀b∈l.take (i+1),b<x) r:=⟨p2.1,fun x=>by
  rw[tk]
  constructor
  ·intro k
   obtain⟨k1,k2⟩:=(p2.2 x).mp k
   obtain⟨k3,k4⟩:=(h.rest.2 x).mp k1
   refine⟨k3,fun b hb=> ?_⟩
   rcases List.mem_append.mp hb with hb|hb
   ·exact k4 b hb
   ·rw[List.mem_singleton.mp hb];exact k2
  ·rintro⟨k1,k2⟩
   exact(p2.2 x).mpr ⟨(h.rest.2 x).mpr ⟨k1,fun b hb=>k2 b (List.mem_append_left _ hb)⟩,k2 _ (List.mem_append_right _ (List.mem_singleton.mpr rfl))⟩⟩
 have eq:∀y,((∃x,bz a x/\(∃b∈l.take i,x<=b)/\y=zO (l.take i) x)\/(y=l[i]!/\∃x,bz u x))↔(∃x,bz a x/\(∃b∈l.take (i+1),x<=b)/\y=zO (l.take (i+1)) x):=fun y=>by
  rw[tk]
  constructor
  ·rintro(⟨x,k1,⟨b,hb,k2⟩,rfl⟩|⟨rfl,x,hx⟩)
   ·exact⟨x,k1,⟨b,List.mem_append_left _ hb,k2⟩,by rw[mJ,if_pos ⟨b,hb,k2⟩]⟩
   ·obtain⟨k1,k2,k3⟩:=(mu x).mp hx
    exact⟨x,k1,⟨_,List.mem_append_right _ (List.mem_singleton.mpr rfl),k3⟩,by rw[mJ,if_neg (fun⟨b,hb,k⟩=>by have:=k2 b hb;omega),if_pos k3]⟩
  ·rintro⟨x,k1,⟨b,hb,k2⟩,rfl⟩
   by_cases c:∃b∈l.take i,x<=b
   ·exact .inl ⟨x,k1,c,by rw[mJ,if_pos c]⟩
   ·have k3:x<=l[i]! :=by
     rcases List.mem_append.mp hb with hb|hb
     ·exact absurd ⟨b,hb,k2⟩ c
     ·rw[<-List.mem_singleton.mp hb];exact k2
    refine .inr ⟨by rw[mJ,if_neg c,if_pos k3],x,(mu x).mpr ⟨k1,fun b hb=> ?_,k3⟩⟩
    rcases Int.lt_or_le b x with q|q
    ·exact q
    ·exact absurd ⟨b,hb,q⟩ c
 obtain⟨t1,t2⟩:=ld h.out h.v hb (Ex.rep (P:=bz u) ⟨p1.1,fun x=>Iff.rfl⟩) p1.1
 refine⟨u,r,e,p1.1,fun k=>⟨mr,(t1 k).congr eq,h.v⟩,fun k=>⟨mr,(t2 k).congr eq,dz h.v (ox hb)⟩⟩
theorem adq{l:List Int}(h:l.length<=1073741824):m35 l=some l:=by unfold m35;rw[if_pos h]
theorem Rm{a:aD}(h:NV a){l:List Int}(hr:eB l=true)(hn:l.length<=1000000)(hl:∀b∈l,bN b):∃c,ER a l=some (c,0)/\kz (sX a l) c:=by
 unfold ER
 rw[di,cR h]
 simp only[cond_true,cond_false]
 rw[adq (by omega)]
 simp only
 rw[show Ja l=some l from by unfold Ja;rw[fA,FW hr]]
 simp only
 obtain⟨⟨r,o⟩,e1,hI⟩:=cK (rnd:=vh) l.length (fun i (s:aD×aD)=>jI.mk l l.length (i:Nat) s.1 (aD.mk 0 0 0) s.2) (F9 a l)
  (fun i s hi hI=>by
   obtain⟨u,r,e,vu,q1,q2⟩:=hI.step hi hl
   have hb:=hl _ (aU hi)
   have hbb:ig l[i]! =true:=by rw[iE];exact decide_eq_true hb
   unfold vh
   simp only
   rw[pU,cond_true,fA,Int.toNat_natCast,if_pos ⟨trivial,hi⟩,hbb]
   simp only[cond_true,cond_false]
   rw[e]
   simp only
   rw[fh hi hn]
   cases c:dI u with
   |true=>exact⟨(r,s.2),rfl,q1 c⟩
   |false=>
    simp only[cond_true,cond_false]
    rw[gp hI.v (.inr (show NN (fu l[i]!)from NN.one hb.1 hb.2))]
    exact⟨(r,bQ s.2 (cV l[i]!)),rfl,q2 c⟩)
  (fun s hI=>by
   unfold vh
   simp only
   rw[eF]
   rfl) (b:=(a,bS)) ⟨⟨h,fun x=>⟨fun k=>⟨k,fun b hb=>by simp at hb⟩,fun k=>k.1⟩⟩, .none fun x ⟨_,_,⟨b,hb,_⟩,_⟩=>by simp at hb, .inl rfl⟩
 have e1:bt vh (jI.mk l l.length 0 a (aD.mk 0 0 0) gF)=some (jI.mk l l.length (l.length:Nat) r (aD.mk 0 0 0) o):=e1
 rw[show DJ=bt vh from rfl,e1]
 simp only
 rw[eF,cond_false,gp hI.v hI.rest.1]
 refine⟨_,rfl,(hI.out.join hI.rest.rep hI.v hI.rest.1).congr fun y=> ?_⟩
 rw[List.take_length]
 constructor
 ·rintro(⟨x,k1,_,k3⟩|⟨k1,k2⟩)
  ·exact⟨x,k1,k3⟩
  ·exact⟨y,k1,(BV fun⟨b,hb,k⟩=>by have:=k2 b hb;omega).symm⟩
 ·rintro⟨x,k1,k2⟩
  by_cases c:∃b∈l,x<=b
  ·exact .inl ⟨x,k1,c,k2⟩
  ·right
   rw[BV c]at k2
   subst k2
   exact⟨k1,fun b hb=>by
    rcases Int.lt_or_le b y with q|q
    ·exact q
    ·exact absurd ⟨b,hb,q⟩ c⟩
end Go.Proofs.YtnfljbehcffmcaaGreat
end
noncomputable section
set_option maxRecDepth 100000
namespace Go.Proofs.YtnfljbehcffmcaaGreat
open Go Go.Iv
open Go.IntKind (i64)
structure gS where
 t1:List Int
 t9:Int
 t10:Bool
 t11:Int
 (b0 b1 b2:aD)
def IX:Td 0 gS:= .c [] [1,4,7,8,9,10,11] (.r 0 3 (ec 1 (ql 3) (ec 4 (qp 0 0) (ec 7 (qp 1 0) (ec 8 (qp 2 0) (ec 9 (qi .i64) (ec 10 qb (ec 11 (qi .i64) en))))))) (sb 0 34 (lg 34) (sb 1 34 (lg 34) (sb 2 34 (lg 34) sn))) (fun z=>⟨z.1.1,z.1.2.2.2.2.1,z.1.2.2.2.2.2.1,z.1.2.2.2.2.2.2.1,z.2.1,z.2.2.1,z.2.2.2.1⟩) (fun x=>((x.t1,(),(),(),x.t9,x.t10,x.t11,()),(x.b0,x.b1,x.b2,()))) fun _=>rfl)
def Cu(p:gS):Option (Option gS):=
 bif decide (p.t11<(↑p.t1.length:Int))then if(0:Int)<=p.t11/\p.t11<(↑p.t1.length:Int)then bif decide (((p.t1,(),(),(),p.t9,p.t10,p.t11,()),p.b0,p.b1,p.b2,()).snd.snd.snd.fst.aa<=((p.t1,(),(),(),p.t9,p.t10,p.t11,()),p.b0,p.b1,p.b2,()).fst.fst[((p.t1,(),(),(),p.t9,p.t10,p.t11,()),p.b0,p.b1,p.b2,()).fst.snd.snd.snd.snd.snd.snd.fst.toNat]!)then bif bif p.t10 then false else true then if(0:Int)<=p.t11/\p.t11<(↑p.t1.length:Int)then some (some (gS.mk p.t1 p.t1[p.t11.toNat]! true (i64.wrap (p.t11+1)) p.b0 p.b1 p.b2))else none else if(0:Int)<=p.t11/\p.t11<(↑p.t1.length:Int)then bif decide (((p.t1,(),(),(),p.t9,p.t10,p.t11,()),p.b0,p.b1,p.b2,()).fst.fst[((p.t1,(),(),(),p.t9,p.t10,p.t11,()),p.b0,p.b1,p.b2,()).fst.snd.snd.snd.snd.snd.snd.fst.toNat]! <((p.t1,(),(),(),p.t9,p.t10,p.t11,()),p.b0,p.b1,p.b2,()).fst.snd.snd.snd.snd.fst)then if(0:Int)<=p.t11/\p.t11<(↑p.t1.length:Int)then some (some (gS.mk p.t1 p.t1[p.t11.toNat]! true (i64.wrap (p.t11+1)) p.b0 p.b1 p.b2))else none else some (some (gS.mk p.t1 p.t9 p.t10 (i64.wrap (p.t11+1)) p.b0 p.b1 p.b2))else none else some (some (gS.mk p.t1 p.t9 p.t10 (i64.wrap (p.t11+1)) p.b0 p.b1 p.b2))else none else some (none)
def wX:gS->Option gS:=bt (Cu)
structure iQ where
 t1:List Int
 (b0 b1 b2:aD)
def ID:Td 0 iQ:= .c [] [1,4,7,8] (.r 0 3 (ec 1 (ql 3) (ec 4 (qp 0 0) (ec 7 (qp 1 0) (ec 8 (qp 2 0) en)))) (sb 0 34 (lg 34) (sb 1 34 (lg 34) (sb 2 34 (lg 34) sn))) (fun z=>⟨z.1.1,z.2.1,z.2.2.1,z.2.2.2.1⟩) (fun x=>((x.t1,(),(),(),()),(x.b0,x.b1,x.b2,()))) fun _=>rfl)
def rJ(p:iQ):Option (Option iQ):=
 bif bif jK p.b2 then false else true then match wX (gS.mk p.t1 (0) false (0) p.b0 p.b1 p.b2)with|none=>none|some r1=>bif decide (r1.t11<(↑r1.t1.length:Int))then if(0:Int)<=r1.t11/\r1.t11<(↑r1.t1.length:Int)then bif decide (((r1.t1,(),(),(),r1.t9,r1.t10,r1.t11,()),r1.b0,r1.b1,r1.b2,()).snd.snd.snd.fst.aa<=((r1.t1,(),(),(),r1.t9,r1.t10,r1.t11,()),r1.b0,r1.b1,r1.b2,()).fst.fst[((r1.t1,(),(),(),r1.t9,r1.t10,r1.t11,()),r1.b0,r1.b1,r1.b2,()).fst.snd.snd.snd.snd.snd.snd.fst.toNat]!)then bif bif r1.t10 then false else true then if(0:Int)<=r1.t11/\r1.t11<(↑r1.t1.length:Int)then none else none else if(0:Int)<=r1.t11/\r1.t11<(↑r1.t1.length:Int)then bif decide (((r1.t1,(),(),(),r1.t9,r1.t10,r1.t11,()),r1.b0,r1.b1,r1.b2,()).fst.fst[((r1.t1,(),(),(),r1.t9,r1.t10,r1.t11,()),r1.b0,r1.b1,r1.b2,()).fst.snd.snd.snd.snd.snd.snd.fst.toNat]! <((r1.t1,(),(),(),r1.t9,r1.t10,r1.t11,()),r1.b0,r1.b1,r1.b2,()).fst.snd.snd.snd.snd.fst)then if(0:Int)<=r1.t11/\r1.t11<(↑r1.t1.length:Int)then none else none else none else none else none else none else bif bif r1.t10 then false else true then match jk r1.b1 r1.b2 with|none=>none|some r2=>some (none)else match jk r1.b1 (aD.mk r1.t9 r1.t9 (0))with|none=>none|some r3=>match OM r1.b2 r1.t9 with|none=>none|some r4=>some (some (iQ.mk r1.t1 r1.b0 r3 r4))else some (none)
def SI:An:=(.two .no (.two .no (.two (.two .no (IX.lp wX .no)) .no)))
def DB:iQ->Option iQ:=bt (rJ)
structure kC where
 t1:List Int
 t6:Int
 (b0 b1:aD)
def JA:Td 0 kC:= .c [] [1,2,4,6] (.r 0 2 (ec 1 (ql 3) (ec 2 (qp 0 0) (ec 4 (qp 1 0) (ec 6 (qi .i64) en)))) (sb 0 34 (lg 34) (sb 1 34 (lg 34) sn)) (fun z=>⟨z.1.1,z.1.2.2.2.1,z.2.1,z.2.2.1⟩) (fun x=>((x.t1,(),(),x.t6,()),(x.b0,x.b1,()))) fun _=>rfl)
def tX(p:kC):Option (Option kC):=
 bif decide (p.t6<(↑p.t1.length:Int))then if(0:Int)<=p.t6/\p.t6<(↑p.t1.length:Int)then bif bif m7 p.t1[p.t6.toNat]! then false else true then some (none)else some (some (kC.mk p.t1 (i64.wrap (p.t6+1)) p.b0 p.b1))else none else some (none)
def Bk:kC->Option kC:=bt (tX)
abbrev am4:Type:=aD×Int
def d172:Td 0 am4:= .c [] [4,5] (.r 0 1 (ec 4 (qp 0 0) (ec 5 (qi .i64) en)) (sb 0 34 (lg 34) sn) (fun z=>(z.2.1,z.1.2.1)) (fun x=>(((),x.2,()),(x.1,()))) fun _=>rfl)
def Fz(a0:aD)(a1:List Int):Option am4:=
 match OL a0 with|none=>none|some r5=>bif bif r5 then false else true then some ((aD.mk (0) (0) (0),1))else match Bk (kC.mk a1 (0) a0 (aD.mk (0) (0) (0)))with|none=>none|some r6=>bif decide (r6.t6<(↑r6.t1.length:Int))then if(0:Int)<=r6.t6/\r6.t6<(↑r6.t1.length:Int)then bif bif m7 r6.t1[r6.t6.toNat]! then false else true then some ((aD.mk (0) (0) (0),3))else none else none else match DB (iQ.mk r6.t1 r6.b1 oy r6.b0)with|none=>none|some r7=>bif bif jK r7.b2 then false else true then match wX (gS.mk r7.t1 (0) false (0) r7.b0 r7.b1 r7.b2)with|none=>none|some r8=>bif decide (r8.t11<(↑r8.t1.length:Int))then if(0:Int)<=r8.t11/\r8.t11<(↑r8.t1.length:Int)then bif decide (((r8.t1,(),(),(),r8.t9,r8.t10,r8.t11,()),r8.b0,r8.b1,r8.b2,()).snd.snd.snd.fst.aa<=((r8.t1,(),(),(),r8.t9,r8.t10,r8.t11,()),r8.b0,r8.b1,r8.b2,()).fst.fst[((r8.t1,(),(),(),r8.t9,r8.t10,r8.t11,()),r8.b0,r8.b1,r8.b2,()).fst.snd.snd.snd.snd.snd.snd.fst.toNat]!)then bif bif r8.t10 then false else true then if(0:Int)<=r8.t11/\r8.t11<(↑r8.t1.length:Int)then none else none else if(0:Int)<=r8.t11/\r8.t11<(↑r8.t1.length:Int)then bif decide (((r8.t1,(),(),(),r8.t9,r8.t10,r8.t11,()),r8.b0,r8.b1,r8.b2,()).fst.fst[((r8.t1,(),(),(),r8.t9,r8.t10,r8.t11,()),r8.b0,r8.b1,r8.b2,()).fst.snd.snd.snd.snd.snd.snd.fst.toNat]! <((r8.t1,(),(),(),r8.t9,r8.t10,r8.t11,()),r8.b0,r8.b1,r8.b2,()).fst.snd.snd.snd.snd.fst)then if(0:Int)<=r8.t11/\r8.t11<(↑r8.t1.length:Int)then none else none else none else none else none else none else bif bif r8.t10 then false else true then match jk r8.b1 r8.b2 with|none=>none|some r9=>some ((r9,0))else match jk r8.b1 (aD.mk r8.t9 r8.t9 (0))with|none=>none|some r10=>match OM r8.b2 r8.t9 with|none=>none|some r11=>none else some ((r7.b1,0))
def ajK:aI->aI:=eL Tryz.prog 172 false (lc (qg 34) (lc (ql 3) ln)) d172 (fun g=>Fz g.1 g.2.1)
theorem WD:EO ajK:=fun h=>kL (an:=(.two .no (.two .no (.two (.two .no (JA.lp Bk .no)) (.two .no (.two (ID.lp DB SI) .no)))))) (l:=[(aS Tryz.f172 0,(JA.lp Bk .no)),(aS Tryz.f172 1,(ID.lp DB SI)),(aS Tryz.f172 2,(IX.lp wX .no))]) Tryz.func172 (oT (pF (jo (j5 (qH (I9 aK)))))) (ax (aO JA) (ax (aO ID) (ax (aO IX) aC))) h
end Go.Proofs.YtnfljbehcffmcaaGreat
end
noncomputable section
namespace Go.Proofs.YtnfljbehcffmcaaGreat
open Go Go.Iv
theorem Ma{l:List Int}(hr:eB l=true)(hn:l.length<=1000000)(b0 b1 c:aD):∃best found,wX (gS.mk l 0 false 0 b0 b1 c)=some (gS.mk l best found l.length b0 b1 c)/\
  ((found=false/\∀j,j<l.length->l[j]! <c.aa)\/(found=true/\∃j,j<l.length/\best=l[j]!/\c.aa<=l[j]!/\∀k,k<j->l[k]! <c.aa)):=by
 obtain⟨⟨best,found⟩,e1,hI⟩:=cK (rnd:=Cu) l.length (fun i (s:Int×Bool)=>gS.mk l s.1 s.2 (i:Nat) b0 b1 c)
  (fun i s=>(s.2=false/\∀j,j<i->l[j]! <c.aa)\/(s.2=true/\∃j,j<i/\s.1=l[j]!/\c.aa<=l[j]!/\∀k,k<j->l[k]! <c.aa))
  (fun i s hi hI=>by
   have hci:(0:Int)<=(i:Int)/\(i:Int)<(l.length:Int):=by omega
   unfold Cu
   simp only
   rw[decide_eq_true hci.2,cond_true,if_pos hci,Int.toNat_natCast,fh hi hn]
   by_cases h1:c.aa<=l[i]!
   ·rw[decide_eq_true h1,cond_true]
    rcases hI with ⟨h2,h3⟩|⟨h2,j,h3,h4,h5,h6⟩
    ·rw[h2]
     simp only[cond_true,cond_false]
     rw[if_pos hci]
     exact⟨(l[i]!,true),rfl, .inr ⟨rfl,i,by omega,rfl,h1,h3⟩⟩
    ·rw[h2]
     simp only[cond_true,cond_false]
     have hlt:l[j]! <l[i]! :=Gn hr h3 hi
     rw[if_pos hci,decide_eq_false (show ¬l[i]! <s.1 by omega),cond_false]
     exact⟨(s.1,true),rfl, .inr ⟨rfl,j,by omega,h4,h5,h6⟩⟩
   ·rw[decide_eq_false h1,cond_false]
    refine⟨s,rfl,?_⟩
    rcases hI with ⟨h2,h3⟩|⟨h2,j,h3,h4⟩
    ·refine .inl ⟨h2,fun j hj=> ?_⟩
     rcases Nat.lt_succ_iff_lt_or_eq.mp hj with k|rfl
     ·exact h3 j k
     ·omega
    ·exact .inr ⟨h2,j,by omega,h4⟩)
  (fun s hI=>by
   unfold Cu
   simp only
   rw[eF]
   rfl) (b:=((0:Int),false)) (.inl ⟨rfl,fun j hj=>absurd hj (Nat.not_lt_zero _)⟩)
 exact⟨best,found,e1,hI⟩
theorem OH{l:List Int}{j:Nat}{x:Int}(hj:j<l.length)(h1:∀k,k<j->l[k]! <x)(h2:x<=l[j]!):zO l x=l[j]! :=by
 induction l generalizing j with
 |nil=>exact absurd hj (Nat.not_lt_zero _)
 |cons b l ih=>
  cases j with
  |zero=>exact if_pos h2
  |succ j=>
   have h0:b<x:=h1 0 (by omega)
   show (if x<=b then b else zO l x)=_
   rw[u6]
   exact ih (j:=j) (by simpa using hj) (fun k hk=>h1 (k+1) (by omega)) h2
theorem get_of_mem{l:List Int}{b:Int}(h:b∈l):∃j,j<l.length/\l[j]! =b:=by
 obtain⟨j,hj,rfl⟩:=List.getElem_of_mem h
 exact⟨j,hj,getElem!_pos l j hj⟩
theorem Tb{a:aD}(h:NV a){l:List Int}(hr:eB l=true)(hn:l.length<=1000000)(hl:∀b∈l,bN b):∃c,Fz a l=some (c,0)/\kz (sX a l) c:=by
 unfold Fz
 rw[dW,cR h]
 simp only[cond_true,cond_false]
 have e0:bt tX (kC.mk l 0 a (aD.mk 0 0 0))=some (kC.mk l (l.length:Nat) a (aD.mk 0 0 0)):=FA (rnd:=tX) (fun i=>kC.mk l (i:Nat) a (aD.mk 0 0 0)) l.length (fun i hi=>by
  unfold tX
  simp only
  rw[pU,cond_true,fA,Int.toNat_natCast,xk,decide_eq_true (hl _ (aU hi)),fh hi hn]
  rfl) (fun r=>by
  unfold tX
  simp only
  rw[eF]
  intro h
  cases h)
 rw[show Bk=bt tX from rfl,e0]
 simp only
 rw[eF,cond_false]
 obtain⟨z,e1,⟨o,r,T,rfl,hr1,ho,vo⟩,hs⟩:=jN (rnd:=rJ) (fun p=>∃o r T,p=iQ.mk l (aD.mk 0 0 0) o r/\Ex (fun x=>bz a x/\T<x) r/\kz (fun y=>∃x,bz a x/\x<=T/\y=zO l x) o/\NV o)
  (fun p=>if jK p.b2=true then 0 else(1099511627777-p.b2.aa).toNat) (fun p p' ⟨o,r,T,hp,h1,h2,h3⟩ hq=>by
  subst hp
  have hq:rJ (iQ.mk l (aD.mk 0 0 0) o r)=some (some p'):=hq
  unfold rJ at hq
  simp only at hq
  rcases h1.1 with rfl|vr
  ·rw[kB]at hq;cases hq
  ·rw[fC vr]at hq
   simp only[cond_true,cond_false]at hq
   obtain⟨best,found,e2,h4⟩:=Ma hr hn (aD.mk 0 0 0) o r
   rw[e2]at hq
   simp only at hq
   rw[eF,cond_false]at hq
   rcases h4 with ⟨rfl,h4⟩|⟨rfl,j,hj,rfl,h5,h6⟩
   ·simp only[cond_true,cond_false]at hq
    rw[eN h3 h1.1]at hq
    cases hq
   ·simp only[cond_true,cond_false]at hq
    have hb:=hl _ (aU hj)
    obtain⟨u,f1,s1⟩:=uk h1.1 l[j]!
    rw[eN h3 (.inr (show NN (aD.mk l[j]! l[j]! 0)from NN.one hb.1 hb.2)),f1]at hq
    simp only[Option.some.injEq]at hq
    subst hq
    have lo1:=(h1.2 r.aa).mp ⟨Int.le_refl _,vr.le,⟨0,by omega⟩⟩
    refine⟨⟨_,_,l[j]!,rfl,⟨s1.1,fun x=> ?_⟩,?_,dz h3 (ox hb)⟩,?_⟩
    ·constructor
     ·intro k
      obtain⟨k1,k2⟩:=(s1.2 x).mp k
      exact⟨((h1.2 x).mp k1).1,k2⟩
     ·rintro⟨k1,k2⟩
      exact(s1.2 x).mpr ⟨(h1.2 x).mpr ⟨k1,by omega⟩,k2⟩
    ·refine(h2.join (Ck l[j]!) h3 (ox hb)).congr fun y=> ?_
     have mid:∀x,bz a x->T<x->x<=l[j]!->zO l x=l[j]! :=fun x k1 k2 k3=>by
      have k4:=(h1.2 x).mpr ⟨k1,k2⟩
      have:=k4.1
      exact OH hj (fun k hk=>by have:=h6 k hk;omega) k3
     constructor
     ·rintro(⟨x,k1,k2,k3⟩|rfl)
      ·exact⟨x,k1,by omega,k3⟩
      ·exact⟨r.aa,lo1.1,h5,(mid _ lo1.1 lo1.2 h5).symm⟩
     ·rintro⟨x,k1,k2,rfl⟩
      by_cases c:x<=T
      ·exact .inl ⟨x,k1,c,rfl⟩
      ·exact .inr (mid x k1 (by omega) k2)
    ·show (if jK u=true then 0 else(1099511627777-u.aa).toNat)<(if jK r=true then 0 else(1099511627777-r.aa).toNat)
     rw[if_neg (show ¬jK r=true by rw[fC vr];decide)]
     have:=vr.le
     have:=vr.hi
     rcases s1.1 with rfl|vu
     ·rw[if_pos kB];omega
     ·rw[if_neg (show ¬jK u=true by rw[fC vu];decide)]
      have:=(s1.2 u.aa).mp ⟨Int.le_refl _,vu.le,⟨0,by omega⟩⟩
      have:=this.2
      omega) ⟨bS,a,a.aa-1,rfl,⟨h,fun x=>⟨fun k=>⟨k,by have:=k.1;omega⟩,fun k=>k.1⟩⟩, .none fun y ⟨x,k1,k2,_⟩=>by have:=k1.1;omega, .inl rfl⟩
 rw[show DB=bt rJ from rfl,show iQ.mk l (aD.mk 0 0 0) oy a=iQ.mk l (aD.mk 0 0 0) bS a from rfl,e1]
 simp only
 rcases hr1.1 with rfl|vr
 ·rw[kB]
  refine⟨o,rfl,ho.congr fun y=>⟨fun⟨x,k1,_,k3⟩=>⟨x,k1,k3⟩,fun⟨x,k1,k3⟩=>⟨x,k1,?_,k3⟩⟩⟩
  rcases Int.lt_or_le T x with q|q
  ·exact absurd ((hr1.2 x).mpr ⟨k1,q⟩) vU
  ·exact q
 ·rw[fC vr]
  simp only[cond_true,cond_false]
  obtain⟨best,found,e2,h4⟩:=Ma hr hn (aD.mk 0 0 0) o r
  rw[e2]
  simp only
  rw[eF,cond_false]
  rcases h4 with ⟨rfl,h4⟩|⟨rfl,j,hj,rfl,h5,h6⟩
  ·simp only[cond_true,cond_false]
   rw[eN vo hr1.1]
   refine⟨_,rfl,(ho.join hr1.rep vo hr1.1).congr fun y=> ?_⟩
   have big:∀x,bz a x->T<x->zO l x=x:=fun x k1 k2=>BV fun⟨b,hb,k3⟩=>by
    obtain⟨j,hj,rfl⟩:=get_of_mem hb
    have:=((hr1.2 x).mpr ⟨k1,k2⟩).1
    have:=h4 j hj
    omega
   constructor
   ·rintro(⟨x,k1,_,k3⟩|⟨k1,k2⟩)
    ·exact⟨x,k1,k3⟩
    ·exact⟨y,k1,(big y k1 k2).symm⟩
   ·rintro⟨x,k1,k3⟩
    by_cases c:x<=T
    ·exact .inl ⟨x,k1,c,k3⟩
    ·right
     rw[big x k1 (by omega)]at k3
     subst k3
     exact⟨k1,by omega⟩
  ·exfalso
   have hb:=hl _ (aU hj)
   obtain⟨u,f1,s1⟩:=uk hr1.1 l[j]!
   refine hs _ (show rJ _=some (some (iQ.mk l (aD.mk 0 0 0) (bQ o (aD.mk l[j]! l[j]! 0)) u))from ?_)
   unfold rJ
   simp only
   rw[fC vr]
   simp only[cond_true,cond_false]
   rw[e2]
   simp only
   rw[eF,cond_false]
   simp only[cond_true,cond_false]
   rw[eN vo (.inr (show NN (aD.mk l[j]! l[j]! 0)from NN.one hb.1 hb.2)),f1]
theorem E5{a:aD}(h:NV a){l:List Int}(hr:eB l=true)(hn:l.length<=1000000)(hl:∀b∈l,bN b):∃c,ER a l=some (c,0)/\Fz a l=some (c,0)/\kz (sX a l) c/\NV c:=by
 obtain⟨c,e1,r1⟩:=Rm h hr hn hl
 obtain⟨d,e2,r2⟩:=Tb h hr hn hl
 rw[<-r1.uniq r2]at e2
 exact⟨c,e1,e2,r1,r1.valid fun y hy=>MZ h hl hy⟩
theorem cv.ne{P:Int->Prop}{c:aD}(h:cv P c):c≠bS:=fun e=>by
 have h1:=h.all _ h.lo
 rw[e]at h1
 have h2:(1:Int)<=0:=Int.le_trans h1.1 h1.2.1
 omega
theorem NV.nn{c:aD}(h:NV c)(k:c≠bS):NN c:=h.elim (fun e=>absurd e k) id
theorem kz.nn{P:Int->Prop}{c:aD}(h:kz P c)(v:NV c){x:Int}(hx:P x):NN c:=by
 rcases h with ⟨_,h⟩|h
 ·exact absurd hx (h x)
 ·exact v.nn h.ne
theorem IT:NN (aD.mk 0 0 0):=NN.one (x:=0) (by omega) (by omega)
theorem Au{a b:Bool}(h:(a||b)=true):NN (gB a b):=(tG a b).nn (by cases a<;>cases b<;>first|(cases h;done)|(intro e;cases e))
theorem zZ(op:Int){a:aD}(h:NN a):NN (nZ op a).1:=by
 unfold nZ
 split
 ·exact IT
 rw[if_neg h.ne]
 split
 ·exact Au (zero_or h)
 ·exact We h
theorem ZK{op:Int}{a b:aD}(ha:NN a)(hb:NN b):∃r,mC op a b=some r/\NN r.1:=by
 by_cases ho:binop op
 ·have r1:=ha.qc
  have r2:=ha.vR
  have r3:=hb.qc
  have r4:=hb.vR
  by_cases hs:cnt a*cnt b<=4096
  ·rw[l9 ho ha hb hs]
   rcases wj ho ha hb (by omega)with ⟨h1,c,e,h2⟩|⟨_,e⟩
   ·exact⟨_,e,h2.valid h1⟩
   ·exact⟨_,e,IT⟩
  have hbin:=ho
  obtain⟨o1,o2⟩:=ho
  rcases (show op=8\/op=9\/op=10\/op=11\/op=12\/op=21\/op=22\/(13<=op/\op<=20)by omega)with rfl|rfl|rfl|rfl|rfl|rfl|rfl|h
  ·rcases iq (op:=8) (.inl rfl) ha hb (fun Q h=>FF ha hb h) (fun h=>(pG ha hb).mpr ⟨dV h (.inl rfl) (.inl rfl),dV h (.inr (.inr rfl)) (.inr (.inr rfl))⟩)with ⟨_,e,hv⟩|⟨_,e⟩
   ·exact⟨_,e,hv⟩
   ·exact⟨_,e,IT⟩
  ·rcases iq (op:=9) (.inr (.inl rfl)) ha hb (fun Q h=>Eo ha hb h) (fun h=>(pN ha hb).mpr ⟨dV h (.inl rfl) (.inr (.inr rfl)),dV h (.inr (.inr rfl)) (.inl rfl)⟩)with ⟨_,e,hv⟩|⟨_,e⟩
   ·exact⟨_,e,hv⟩
   ·exact⟨_,e,IT⟩
  ·rcases iq (op:=10) (.inr (.inr rfl)) ha hb (fun Q h=>Ee ha hb h) (fun h=>(ic ha hb).mpr ⟨dV h (.inl rfl) (.inl rfl),dV h (.inl rfl) (.inr (.inr rfl)),dV h (.inr (.inr rfl)) (.inl rfl),dV h (.inr (.inr rfl)) (.inr (.inr rfl))⟩)with ⟨_,e,hv⟩|⟨_,e⟩
   ·exact⟨_,e,hv⟩
   ·exact⟨_,e,IT⟩
  all_goals rw[th hbin ha hb hs];unfold OF
  ·obtain⟨a1,a2⟩:=r1
   obtain⟨a3,a4⟩:=r2
   simp only[Int.reduceEq,decide_false,decide_true,cond_false,cond_true]
   have hm:((max a.aa.natAbs a.af.natAbs:Nat):Int)<=1099511627776:=by omega
   generalize max a.aa.natAbs a.af.natAbs=m at*
   rw[j6 ⟨by omega,by omega⟩ ⟨by omega,by omega⟩ (by omega),j6 ⟨by omega,by omega⟩ ⟨by omega,by omega⟩ (by omega)]
   cases (decide (0<=a.aa)&&decide (0<=b.aa))with
   |true=>exact⟨(hO 0 (m:Int) 1,0),rfl,j0 (lo:=0) (hi:=(m:Int)) (st:=1) (by omega) (by omega) (by omega) (by omega)⟩
   |false=>exact⟨(hO (-(m:Int)) (m:Int) 1,0),rfl,j0 (lo:= -(m:Int)) (hi:=(m:Int)) (st:=1) (by omega) (by omega) (by omega) (by omega)⟩
  ·obtain⟨b1,b2⟩:=r3
   obtain⟨b3,b4⟩:=r4
   simp only[Int.reduceEq,decide_false,decide_true,cond_false,cond_true]
   have hp:(if b.aa<0 then b.aa+1 else 0)<=0/\ -1099511627776<=(if b.aa<0 then b.aa+1 else 0):=by split<;>omega
   have hq:0<=(if 0<b.af then b.af-1 else 0)/\(if 0<b.af then b.af-1 else 0)<=1099511627776:=by split<;>omega
   generalize (if b.aa<0 then b.aa+1 else 0)=p at*
   generalize (if 0<b.af then b.af-1 else 0)=q at*
   rw[j6 ⟨by omega,by omega⟩ ⟨by omega,by omega⟩ (by omega)]
   exact⟨(hO p q 1,0),rfl,j0 (lo:=p) (hi:=q) (st:=1) (by omega) (by omega) (by omega) (by omega)⟩
  ·simp only[Int.reduceEq,decide_false,decide_true,cond_false,cond_true]
   obtain⟨l',e2,h2⟩:=C0 (dz (.inr ha) (.inr hb)) (min a.af b.af)
   rw[e2]
   refine⟨_,rfl,h2.rep.nn h2.1 (x:=(bQ a b).aa) ⟨?_,?_⟩⟩
   ·rw[eT ha hb]
    have:=(jP ha hb).le
    exact⟨by omega,this,by rw[Int.sub_self];exact Int.dvd_zero _⟩
   ·rw[eT ha hb]
    show min a.aa b.aa<=_
    have:=ha.le
    have:=hb.le
    omega
  ·simp only[Int.reduceEq,decide_false,decide_true,cond_false,cond_true]
   obtain⟨l',e2,h2⟩:=uk (dz (.inr ha) (.inr hb)) (max a.aa b.aa-1)
   rw[e2]
   refine⟨_,rfl,h2.rep.nn h2.1 (x:=(bQ a b).af) ⟨?_,?_⟩⟩
   ·rw[eT ha hb]
    have:=(jP ha hb).le
    exact⟨this,by omega,(jP ha hb).dvd⟩
   ·rw[eT ha hb]
    show _<max a.af b.af
    have:=ha.le
    have:=hb.le
    omega
  ·rw[KM h ha hb]
   refine⟨(gB (sK op a b).1 (sK op a b).2,0),?_,Au (Jw h ha hb)⟩
   rcases gI h with rfl|rfl|rfl|rfl|rfl|rfl|rfl|rfl<;>rfl
 ·refine⟨(aD.mk 0 0 0,1),?_,IT⟩
  unfold mC
  rw[dW,dW,cR (.inr ha),cR (.inr hb),show zD op=vO op from rfl,iG,decide_eq_false ho]
  rfl
def m8(op:Int)(a b:aD):aD:=match mC op a b with
 |none=>bS
 |some r=>r.1
theorem lX(op:Int){a b:aD}(ha:NN a)(hb:NN b):∃c,sE op a b=some (m8 op a b,c)/\mC op a b=some (m8 op a b,c)/\NN (m8 op a b):=by
 obtain⟨r,e1,e2,_⟩:=D7 op (.inr ha) (.inr hb)
 obtain⟨r',e3,h⟩:=ZK (op:=op) ha hb
 have:r'=r:=by rw[e2]at e3;cases e3;rfl
 subst this
 unfold m8
 rw[e2]
 exact⟨r'.2,e1,rfl,h⟩
def gC(a:aD)(lo hi:Int):aD:=match TB a lo hi with
 |none=>bS
 |some r=>r.1
theorem fS{a:aD}(ha:NN a)(lo hi:Int):∃c,TH a lo hi=some (gC a lo hi,c)/\TB a lo hi=some (gC a lo hi,c)/\NN (gC a lo hi)/\(bN lo->bN hi->lo<=hi->kz (rQ a lo hi) (gC a lo hi)):=by
 rcases Hj (.inr ha) lo hi with ⟨c,e1,e2,h,v,_⟩|⟨e1,e2,hn⟩
 ·unfold gC
  rw[e2]
  have:=ha.le
  exact⟨0,e1,rfl,h.nn v (x:=max lo (min a.aa hi)) ⟨a.aa,⟨by omega,this,by rw[Int.sub_self];exact Int.dvd_zero _⟩,rfl⟩,fun _ _ _=>h⟩
 ·unfold gC
  rw[e2]
  exact⟨3,e1,rfl,IT,fun h1 h2 h3=>absurd ⟨h1,h2,h3⟩ hn⟩
def pO(a:aD)(l:List Int):aD:=match Fz a l with
 |none=>bS
 |some r=>r.1
theorem qQ{a:aD}(ha:NN a){l:List Int}(hr:eB l=true)(hn:l.length<=1000000)(hl:∀b∈l,bN b):ER a l=some (pO a l,0)/\Fz a l=some (pO a l,0)/\NN (pO a l)/\kz (sX a l) (pO a l):=by
 obtain⟨c,e1,e2,h,v⟩:=E5 (.inr ha) hr hn hl
 unfold pO
 rw[e2]
 have:=ha.le
 exact⟨e1,rfl,h.nn v (x:=zO l a.aa) ⟨a.aa,⟨by omega,this,by rw[Int.sub_self];exact Int.dvd_zero _⟩,rfl⟩,h⟩
theorem iy{a b:aD}(h:NN a)(k:NN b):NN (bQ a b):=by rw[eT h k];exact jP h k
end Go.Proofs.YtnfljbehcffmcaaGreat
end
noncomputable section
set_option maxRecDepth 100000
namespace Go.Proofs.YtnfljbehcffmcaaGreat
open Go Go.Iv
open Go.IntKind (i64)
structure nY where
 t0:List aN
 t1:Int
 t5:List aN
 t6:Int
def JM:Td 0 nY:= .c [] [0,1,5,6] (.r 0 1 (ec 0 (ql 131) (ec 1 (qi .i64) (ec 5 (qo 0) (ec 6 (qi .i64) en)))) (sr 0 131 sn) (fun z=>⟨z.1.1,z.1.2.1,z.2.1,z.1.2.2.2.1⟩) (fun x=>((x.t0,x.t1,(),x.t6,()),(x.t5,()))) fun _=>rfl)
def DS(p:nY):Option (Option nY):=
 bif decide (p.t6<(↑p.t0.length:Int))then if(0:Int)<=p.t6/\p.t6<(↑p.t0.length:Int)then bif decide (p.t0[p.t6.toNat]!.bf=p.t1)then if(0:Int)<=p.t6/\p.t6<(↑p.t0.length:Int)then if(p.t5++[p.t0[p.t6.toNat]!]).length<=1073741824 then some (some (nY.mk p.t0 p.t1 (p.t5++[p.t0[p.t6.toNat]!]) (i64.wrap (p.t6+1))))else none else none else some (some (nY.mk p.t0 p.t1 p.t5 (i64.wrap (p.t6+1))))else none else some (none)
def Cv:nY->Option nY:=bt (DS)
abbrev aip:Type:=List aN
def d173:Td 0 aip:= .c [] [4] (.r 0 1 (ec 4 (qo 0) en) (sr 0 131 sn) (fun z=>z.2.1) (fun x=>(((),()),(x,()))) fun _=>rfl)
def Y4(a0:List aN)(a1:Int):Option aip:=
 match Cv (nY.mk a0 a1 [] (0))with|none=>none|some r1=>bif decide (r1.t6<(↑r1.t0.length:Int))then if(0:Int)<=r1.t6/\r1.t6<(↑r1.t0.length:Int)then bif decide (r1.t0[r1.t6.toNat]!.bf=r1.t1)then if(0:Int)<=r1.t6/\r1.t6<(↑r1.t0.length:Int)then if(r1.t5++[r1.t0[r1.t6.toNat]!]).length<=1073741824 then none else none else none else none else none else some (r1.t5)
def aj1:aI->aI:=eL Tryz.prog 173 false (lc (ql 131) (lc (qi .i64) ln)) d173 (fun g=>Y4 g.1 g.2.1)
theorem Ut:EO aj1:=fun h=>kL (an:=(.two .no (.two .no (.two (.two .no (JM.lp Cv .no)) .no)))) (l:=[(aS Tryz.f173 0,(JM.lp Cv .no))]) Tryz.func173 aK (ax (aO JM) aC) h
def F89:aI:=(aj1 cL)
structure xN where
 t6:List aN
 (t8 t9:Int)
def PT:Td 0 xN:= .c [] [6,8,9] (.r 0 1 (ec 6 (qo 0) (ec 8 (qi .i64) (ec 9 (qi .i64) en))) (sr 0 131 sn) (fun z=>⟨z.2.1,z.1.2.1,z.1.2.2.1⟩) (fun x=>(((),x.t8,x.t9,()),(x.t6,()))) fun _=>rfl)
def FE(p:xN):Option (Option xN):=
 bif decide (p.t9<(↑p.t6.length:Int))then if(0:Int)<=p.t9/\p.t9<(↑p.t6.length:Int)then if 131=131/\p.t9.toNat<p.t6.length then if(0:Int)<=p.t9/\p.t9<(↑p.t6.length:Int)then if 131=131/\p.t9.toNat<p.t6.length then bif decide (4096<i64.wrap (p.t8*i64.wrap (i64.wrap (p.t6[p.t9.toNat]!.af-p.t6[p.t9.toNat]!.aa)+1)))then some (none)else some (some (xN.mk p.t6 (i64.wrap (p.t8*i64.wrap (i64.wrap (p.t6[p.t9.toNat]!.af-p.t6[p.t9.toNat]!.aa)+1))) (i64.wrap (p.t9+1))))else none else none else none else none else some (none)
def Ku:xN->Option xN:=bt (FE)
structure zi where
 t6:List aN
 t7:Int
def P3:Td 0 zi:= .c [] [6,7] (.r 0 1 (ec 6 (qo 0) (ec 7 (qi .i64) en)) (sr 0 131 sn) (fun z=>⟨z.2.1,z.1.2.1⟩) (fun x=>(((),x.t7,()),(x.t6,()))) fun _=>rfl)
def L7(p:zi):Option (Option zi):=
 bif decide (p.t7<(↑p.t6.length:Int))then if(0:Int)<=p.t7/\p.t7<(↑p.t6.length:Int)then if 131=131/\p.t7.toNat<p.t6.length then if(0:Int)<=p.t7/\p.t7<(↑p.t6.length:Int)then if 131=131/\p.t7.toNat<p.t6.length then bif decide (p.t6[p.t7.toNat]!.af<p.t6[p.t7.toNat]!.aa)then some (none)else if(0:Int)<=p.t7/\p.t7<(↑p.t6.length:Int)then if 131=131/\p.t7.toNat<p.t6.length then bif decide (p.t6[p.t7.toNat]!.aa< -1048576)then some (none)else if(0:Int)<=p.t7/\p.t7<(↑p.t6.length:Int)then if 131=131/\p.t7.toNat<p.t6.length then bif decide (1048576<p.t6[p.t7.toNat]!.af)then some (none)else some (some (zi.mk p.t6 (i64.wrap (p.t7+1))))else none else none else none else none else none else none else none else none else some (none)
def MS:zi->Option zi:=bt (L7)
abbrev E89:Type:=Int×Int
def d89:Td 0 E89:= .c [] [4,5] (.r 0 0 (ec 4 (qi .i64) (ec 5 (qi .i64) en)) sn (fun z=>(z.1.1,z.1.2.1)) (fun x=>((x.1,x.2,()),(()))) fun _=>rfl)
theorem an5:∀f∈([]:List Nat),aV (F89) f:=aC
def m89(a0:List aN)(a1:Int):Option E89:=
 match bif bif decide (a1=0)then false else true then bif bif decide (a1=1)then false else true then bif bif decide (a1=2)then false else true then some (bif decide (a1=3)then false else true)else some (false)else some (false)else some (false)with|none=>none|some r1=>bif r1 then some ((0,1))else match Y4 a0 a1 with|none=>none|some r2=>match MS (zi.mk r2 (0))with|none=>none|some r3=>bif decide (r3.t7<(↑r3.t6.length:Int))then if(0:Int)<=r3.t7/\r3.t7<(↑r3.t6.length:Int)then if 131=131/\r3.t7.toNat<r3.t6.length then if(0:Int)<=r3.t7/\r3.t7<(↑r3.t6.length:Int)then if 131=131/\r3.t7.toNat<r3.t6.length then bif decide (r3.t6[r3.t7.toNat]!.af<r3.t6[r3.t7.toNat]!.aa)then some ((0,3))else if(0:Int)<=r3.t7/\r3.t7<(↑r3.t6.length:Int)then if 131=131/\r3.t7.toNat<r3.t6.length then bif decide (r3.t6[r3.t7.toNat]!.aa< -1048576)then some ((0,3))else if(0:Int)<=r3.t7/\r3.t7<(↑r3.t6.length:Int)then if 131=131/\r3.t7.toNat<r3.t6.length then bif decide (1048576<r3.t6[r3.t7.toNat]!.af)then some ((0,3))else none else none else none else none else none else none else none else none else none else match Ku (xN.mk r3.t6 (1) (0))with|none=>none|some r4=>bif decide (r4.t9<(↑r4.t6.length:Int))then if(0:Int)<=r4.t9/\r4.t9<(↑r4.t6.length:Int)then if 131=131/\r4.t9.toNat<r4.t6.length then if(0:Int)<=r4.t9/\r4.t9<(↑r4.t6.length:Int)then if 131=131/\r4.t9.toNat<r4.t6.length then bif decide (4096<i64.wrap (r4.t8*i64.wrap (i64.wrap (r4.t6[r4.t9.toNat]!.af-r4.t6[r4.t9.toNat]!.aa)+1)))then some ((0,4))else none else none else none else none else none else some ((r4.t8,0))
def e89:aI->aI:=eL Tryz.prog 89 false (lc (ql 131) (lc (qi .i64) ln)) d89 (fun g=>m89 g.1 g.2.1)
theorem afp:EO e89:=fun h=>kL (F:=F89) (an:=(.two .no (.two (.two (.rb [] 23) .no) (.two .no (.two (.two .no (P3.lp MS .no)) (.two .no (.two (.two .no (PT.lp Ku .no)) .no))))))) (l:=[(.skip,(.rb [] 23)),(aS Tryz.f89 0,(P3.lp MS .no)),(aS Tryz.f89 1,(PT.lp Ku .no))]) Tryz.func89 (Ut aK) (ax an5 (ax (aO P3) (ax (aO PT) aC))) h
theorem Fl:EP e89:=fun h=>kP h
def F24:aI:=(e90 (e89 (e78 (e53 cL))))
abbrev E24:Type:=Bool
def d24:Td 0 E24:= .c [] [8] (.r 0 0 (ec 8 qb en) sn (fun z=>z.1.1) (fun x=>((x,()),(()))) fun _=>rfl)
theorem aiz:∀f∈([53,78]:List Nat),aV (F24) f:=(ax (Fi (Fl (jC (oH aY)))) (ax (Fi (Fl (jC (oH aY)))) aC))
def m24(a0:Flat)(a1:Int)(a2:Int)(a3:Int):Option E24:=
 match match m53 a0 (10) (80)with|none=>none|some r1=>bif bif r1 then false else true then some (true)else match m78 a0 with|none=>none|some r2=>some (bif decide (r2=0)then false else true)with|none=>none|some r3=>bif r3 then some (false)else match m89 a0.ah (1)with|none=>none|some r4=>match m89 a0.ah (2)with|none=>none|some r5=>match m89 a0.ah (3)with|none=>none|some r6=>match r90 a0.bw with|none=>none|some r7=>match bif decide (r4.fst<=a1)then bif decide (r5.fst<=a2)then bif decide (r6.fst<=a3)then some (decide (r7.fst<=400))else some (false)else some (false)else some (false)with|none=>none|some r8=>some (r8)
def e24:aI->aI:=eL Tryz.prog 24 false (lc (qg 26) (lc (qi .i64) (lc (qi .i64) (lc (qi .i64) ln)))) d24 (fun g=>m24 g.1 g.2.1 g.2.2.1 g.2.2.2.1)
theorem ag9:EO e24:=fun h=>kL (F:=F24) (an:=(.two .no (.two (.two (.rb [53,78] 25) .no) (.two .no (.two .no (.two .no (.two .no (.two (.rb [53,78] 8) .no)))))))) (l:=[(.skip,(.rb [53,78] 25)),(.skip,(.rb [53,78] 8))]) Tryz.func24 (PZ (afp (Hx (Tk aK)))) (ax aiz (ax aiz aC)) h
theorem yQ:EP e24:=fun h=>kP h
structure asE where
 t0:List aN
 (t6 t7 t8:Int)
 t9:List Int
 t10:Bool
 t11:Int
 b0:kH
structure aoQ where
 t0:List Int
 (t1 t5:Int)
 t6:Bool
 t7:Int
structure arc where
 t1:List Int
 t2:List GStep
 t9:Int
 b0:Flat
 (b1 b2:lN)
structure aoa where
 t1:List Int
 t9:Int
 b0:Flat
 b1:GStep
 (b2 b3:lN)
structure arV where
 (t1 t5:List Int)
 t6:Int
 b0:Flat
structure yI where
 (t0 t1:List Int)
 t5:Int
def Ql:Td 0 yI:= .c [] [0,1,5] (.r 0 0 (ec 0 (ql 3) (ec 1 (ql 3) (ec 5 (qi .i64) en))) sn (fun z=>⟨z.1.1,z.1.2.1,z.1.2.2.1⟩) (fun x=>((x.t0,x.t1,x.t5,()),(()))) fun _=>rfl)
def aj5(p:yI):Option (Option yI):=
 bif decide (p.t5<(↑p.t0.length:Int))then if(0:Int)<=p.t5/\p.t5<(↑p.t0.length:Int)then if(0:Int)<=p.t5/\p.t5<(↑p.t1.length:Int)then bif bif decide (((p.t0,p.t1,p.t5,()),()).fst.fst[((p.t0,p.t1,p.t5,()),()).fst.snd.snd.fst.toNat]! =((p.t0,p.t1,p.t5,()),()).fst.snd.fst[((p.t0,p.t1,p.t5,()),()).fst.snd.snd.fst.toNat]!)then false else true then some (none)else some (some (yI.mk p.t0 p.t1 (i64.wrap (p.t5+1))))else none else none else some (none)
def RK:yI->Option yI:=bt (aj5)
abbrev E98:Type:=Bool
def d98:Td 0 E98:= .c [] [4] (.r 0 0 (ec 4 qb en) sn (fun z=>z.1.1) (fun x=>((x,()),(()))) fun _=>rfl)
def m98(a0:List Int)(a1:List Int):Option E98:=
 bif bif decide ((↑a0.length:Int)=(↑a1.length:Int))then false else true then some (false)else match RK (yI.mk a0 a1 (0))with|none=>none|some r1=>bif decide (r1.t5<(↑r1.t0.length:Int))then if(0:Int)<=r1.t5/\r1.t5<(↑r1.t0.length:Int)then if(0:Int)<=r1.t5/\r1.t5<(↑r1.t1.length:Int)then bif bif decide (((r1.t0,r1.t1,r1.t5,()),()).fst.fst[((r1.t0,r1.t1,r1.t5,()),()).fst.snd.snd.fst.toNat]! =((r1.t0,r1.t1,r1.t5,()),()).fst.snd.fst[((r1.t0,r1.t1,r1.t5,()),()).fst.snd.snd.fst.toNat]!)then false else true then some (false)else none else none else none else some (true)
def e98:aI->aI:=eL Tryz.prog 98 false (lc (ql 3) (lc (ql 3) ln)) d98 (fun g=>m98 g.1 g.2.1)
theorem ae1:EO e98:=fun h=>kL (an:=(.two .no (.two .no (.two (.two .no (Ql.lp RK .no)) .no)))) (l:=[(aS Tryz.f98 0,(Ql.lp RK .no))]) Tryz.func98 aK (ax (aO Ql) aC) h
theorem Qk:EP e98:=fun h=>kP h
def F31:aI:=(e98 cL)
abbrev E31:Type:=Bool
def d31:Td 0 E31:= .c [] [4] (.r 0 0 (ec 4 qb en) sn (fun z=>z.1.1) (fun x=>((x,()),(()))) fun _=>rfl)
theorem aom:∀f∈([98]:List Nat),aV (F31) f:=(ax (Qk aY) aC)
def m31(a0:bh)(a1:bh):Option E31:=
 match bif decide (a0.aB=a1.aB)then match m98 a0.bF a1.bF with|none=>none|some r1=>some (r1)else some (false)with|none=>none|some r2=>some (r2)
def e31:aI->aI:=eL Tryz.prog 31 false (lc (qg 47) (lc (qg 47) ln)) d31 (fun g=>m31 g.1 g.2.1)
theorem agi:EO e31:=fun h=>kL (F:=F31) (an:=(.two .no (.two (.rb [98] 4) .no))) (l:=[(.skip,(.rb [98] 4))]) Tryz.func31 (ae1 aK) (ax aom aC) h
theorem El:EP e31:=fun h=>kP h
end Go.Proofs.YtnfljbehcffmcaaGreat
end
noncomputable section
namespace Go.Proofs.YtnfljbehcffmcaaGreat
open Go Go.Iv
def vG(b:Bool):Int:=if b=true then 1 else 0
def amT(a b:Int):Int:=if b=0 then 0 else if a.tmod b≠0/\decide (a<0)≠decide (b<0)then a.tdiv b-1 else a.tdiv b
def aqv(a b:Int):Int:=if b=0 then 0 else a-b*amT a b
def Gp(o a b:Int):Int:=
 if o=8 then a+b else if o=9 then a-b else if o=10 then a*b else if o=11 then amT a b else if o=12 then aqv a b
 else if o=13 then vG (decide (a=b))else if o=14 then vG (decide (a≠b))else if o=15 then vG (decide (a<b))else if o=16 then vG (decide (a<=b))
 else if o=17 then vG (decide (b<a))else if o=18 then vG (decide (b<=a))else if o=19 then vG (decide (a≠0/\b≠0))else if o=20 then vG (decide (a≠0\/b≠0))
 else if o=21 then(if a<b then a else b)else(if b<a then a else b)
def VIn(vars:List aN)(vals:List Int):Prop:=vals.length=vars.length/\∀i,i<vars.length->vars[i]!.aa<=vals[i]!/\vals[i]!<=vars[i]!.af
theorem KD{vars:List aN}{inp:Bool}{t:aq}(hf:cD vars inp t=true):(0<=(bI t.aW).1/\(bI t.aW).1<=t.aj.length/\(t.aj.length:Int)<=(bI t.aW).2)/\(t.aW=24->0<=t.fN/\t.fN<vars.length):=by
 rw[jL]at hf
 have h:=(Bool.and_eq_true _ _▸hf).1
 unfold vE at h
 rw[Bool.and_eq_true,decide_eq_true_iff]at h
 refine⟨h.1,fun h24=> ?_⟩
 have h2:=h.2
 simp only[h24,Int.reduceEq,reduceIte,Bool.and_eq_true,decide_eq_true_eq]at h2
 exact h2.1
theorem Gr(o:Int)(h:0<=(bI o).1):((o=0\/o=24)/\bI o=(0,0))\/((o=6\/o=7)/\bI o=(1,1))\/((8<=o/\o<=22)/\bI o=(2,2))\/(o=23/\bI o=(3,3))\/(o=25/\bI o=(2,33)):=by
 unfold bI at h ⊢
 split
 ·exact .inl ⟨‹_›,rfl⟩
 rename_i h1
 rw[if_neg h1]at h
 split
 ·exact .inr (.inl ⟨‹_›,rfl⟩)
 rename_i h2
 rw[if_neg h2]at h
 split
 ·exact .inr (.inr (.inl ⟨‹_›,rfl⟩))
 rename_i h3
 rw[if_neg h3]at h
 split
 ·exact .inr (.inr (.inr (.inl ⟨‹_›,rfl⟩)))
 rename_i h4
 rw[if_neg h4]at h
 split
 ·exact .inr (.inr (.inr (.inr ⟨‹_›,rfl⟩)))
 ·rename_i h5
  rw[if_neg h5]at h
  simp at h
end Go.Proofs.YtnfljbehcffmcaaGreat
end
noncomputable section
namespace Go.Proofs.YtnfljbehcffmcaaGreat
open Go Go.Iv
open Go.IntKind (i64)
theorem Ap(M:Flat->List GStep->Bool->Option jZ)(f:Flat)(l A B:List GStep)(top:Bool)(n i a b:Int)(ha:M f A false=some a)(hb:M f B false=some b):
  uh M ⟨l,top,l,n,i,[A,B],2,0,f⟩=some ⟨l,top,l,n,i,[A,B],2,if a≠0 then 0 else if b≠0 then 1 else 2,f⟩:=by
 have w0:i64.wrap 1=1:=rfl
 have w1:i64.wrap 2=2:=rfl
 have r1:rG M ⟨l,top,l,n,i,[A,B],2,0,f⟩=if a≠0 then some none else some (some ⟨l,top,l,n,i,[A,B],2,1,f⟩):=by
  unfold rG
  by_cases h:a=0<;>simp[ha,h,w0]
 have r2:rG M ⟨l,top,l,n,i,[A,B],2,1,f⟩=if b≠0 then some none else some (some ⟨l,top,l,n,i,[A,B],2,2,f⟩):=by
  unfold rG
  by_cases h:b=0<;>simp[hb,h,w1]
 have r3:rG M ⟨l,top,l,n,i,[A,B],2,2,f⟩=some none:=by
  unfold rG
  simp
 unfold uh
 by_cases h1:a≠0
 ·rw[if_pos h1]at r1 ⊢
  exact bU fun r=>by rw[r1];simp
 ·rw[if_neg h1]at r1 ⊢
  rw[bD r1]
  by_cases h2:b≠0
  ·rw[if_pos h2]at r2 ⊢
   exact bU fun r=>by rw[r2];simp
  ·rw[if_neg h2]at r2 ⊢
   rw[bD r2]
   exact bU fun r=>by rw[r3];simp
theorem La(n i:Nat)(hn:n<=1000000):decide ((i:Int)=i64.wrap ((n:Int)-1))=decide (i+1=n):=by
 rw[aF]
 apply decide_eq_decide.2
 omega
theorem Qu(M:Flat->List GStep->Bool->Option jZ)(f:Flat)(hv:cG f.ah)(l:List GStep)(hl:l.length<=1000000)(top:Bool)(hM:∀s∈l,M f s.aH false=some (bH f false s.aH)/\M f s.aJ false=some (bH f false s.aJ))(i:Nat)(hi:i<l.length):
  (ON f top l.length i l[i]! =0->u9 M ⟨l,top,l,(l.length:Int),(i:Int),f⟩=some (some ⟨l,top,l,(l.length:Int),((i+1:Nat):Int),f⟩))/\(ON f top l.length i l[i]!≠0->u9 M ⟨l,top,l,(l.length:Int),(i:Int),f⟩=some none):=by
 have hw:=fh hi hl
 obtain⟨k1,k2⟩:=hM _ (aU hi)
 have hin:=Ap M f l l[i]!.aH l[i]!.aJ top (l.length:Int) (i:Int) _ _ k1 k2
 have hlen:(([l[i]!.aH,l[i]!.aJ]:List (List GStep)).length:Int)=2:=rfl
 have hi1:(i:Int)<(l.length:Int):=by omega
 have hi0:(0:Int)<=(i:Int):=by omega
 unfold u9 ON mW
 dsimp only
 simp only[Int.toNat_natCast,aq.eta,GStep.eta,Lp,La l.length i hl,wG f.ah hv,hlen,hin,hw,hi1,hi0,decide_true,cond_true,and_self,if_true]
 have e1':(bif top then some (bif cF f l[i]! (decide (i+1=l.length))then false else true)else some (bif cF f l[i]! false then false else true))=some (bif cF f l[i]! (top&&decide (i+1=l.length))then false else true):=by cases top<;>rfl
 rw[e1']
 have hS:cF f l[i]! (top&&decide (i+1=l.length))=true->HU l[i]! =some (rB l[i]!):=fun h=>MK _ (gR h).1
 revert hS
 generalize cF f l[i]! (top&&decide (i+1=l.length))=S
 intro hS
 generalize l[i]!.aH=A at k1 hin ⊢
 generalize l[i]!.aJ=B at k2 hin ⊢
 cases S with
 |false=>simp
 |true=>
  rw[hS rfl]
  generalize rB l[i]! =N
  cases N with
  |false=>simp
  |true=>
   generalize dy f.ah false l[i]!.au=T
   generalize bH f false A=a at*
   generalize bH f false B=b at*
   by_cases hT:T=0
   ·by_cases ha:a=0
    ·by_cases hb:b=0
     ·simp[hT,ha,hb,hw]
     ·simp[hT,ha,hb,k2]
    ·simp[hT,ha,k1]
   ·simp[hT]
theorem UW(M:Flat->List GStep->Bool->Option jZ)(f:Flat)(hv:cG f.ah)(l:List GStep)(hl:l.length<=1000000)(top:Bool)(hM:∀s∈l,M f s.aH false=some (bH f false s.aH)/\M f s.aJ false=some (bH f false s.aJ)):Yt M f l top=some (bH f top l):=by
 obtain⟨i,e1,hc⟩:=qy (rnd:=u9 M) l (fun i=>⟨l,top,l,(l.length:Int),(i:Int),f⟩) (ON f top l.length) (fun i hi=>Qu M f hv l hl top hM i hi) (by unfold u9;simp)
 have e1':DK M ⟨l,top,l,(l.length:Int),0,f⟩=some ⟨l,top,l,(l.length:Int),(i:Int),f⟩:=e1
 rw[od f top l.length l 0 (by omega)]at hc
 unfold Yt
 rw[e1']
 dsimp only
 rcases hc with ⟨rfl,hc⟩|⟨hi,h0,hc⟩
 ·rw[hc]
  simp
 ·rw[hc]
  obtain⟨k1,k2⟩:=hM _ (aU hi)
  have hin:=Ap M f l l[i]!.aH l[i]!.aJ top (l.length:Int) (i:Int) _ _ k1 k2
  have hlen:(([l[i]!.aH,l[i]!.aJ]:List (List GStep)).length:Int)=2:=rfl
  have hi1:(i:Int)<(l.length:Int):=by omega
  have hi0:(0:Int)<=(i:Int):=by omega
  revert h0
  unfold ON mW
  simp only[Int.toNat_natCast,aq.eta,GStep.eta,Lp,La l.length i hl,wG f.ah hv,hlen,hin,hi1,hi0,decide_true,cond_true,and_self,if_true]
  have e1':(bif top then some (bif cF f l[i]! (decide (i+1=l.length))then false else true)else some (bif cF f l[i]! false then false else true))=some (bif cF f l[i]! (top&&decide (i+1=l.length))then false else true):=by cases top<;>rfl
  rw[e1']
  have hS:cF f l[i]! (top&&decide (i+1=l.length))=true->HU l[i]! =some (rB l[i]!):=fun h=>MK _ (gR h).1
  revert hS
  generalize cF f l[i]! (top&&decide (i+1=l.length))=S
  intro hS
  generalize l[i]!.aH=A at k1 hin ⊢
  generalize l[i]!.aJ=B at k2 hin ⊢
  cases S with
  |false=>simp
  |true=>
   rw[hS rfl]
   generalize rB l[i]! =N
   cases N with
   |false=>simp
   |true=>
    generalize dy f.ah false l[i]!.au=T
    generalize bH f false A=a at*
    generalize bH f false B=b at*
    by_cases hT:T=0
    ·by_cases ha:a=0
     ·by_cases hb:b=0
      ·simp[hT,ha,hb]
      ·simp[hT,ha,hb,k2]
     ·simp[hT,ha,k1]
    ·simp[hT]
theorem BF(f:Flat)(hv:cG f.ah):∀(n:Nat) (l:List GStep) (top:Bool),SizeOf.sizeOf l<n->dS l<=1000->Jf n f l top=some (bH f top l)
 |0,_,_,h,_=>by omega
 |n+1,l,top,h,h2=>UW (Jf n) f hv l (by have:=iD l;omega) top (fun s hs=>⟨BF f hv n _ _ (by have:=aQ hs;omega) (by have:=eG hs;omega),BF f hv n _ _ (by have:=aQ hs;omega) (by have:=eG hs;omega)⟩)
theorem Vy(f:Flat)(hv:cG f.ah)(l:List GStep)(top:Bool)(h:dS l<=1000):Xn f l top=some (bH f top l):=cZ (SizeOf.sizeOf l+1) fun n hn=>BF f hv n l top (by omega) h
theorem LF{f:Flat}{s:GStep}{last:Bool}(h:cF f s last=true)(c:Int)(hc:c=if s.bG=2 then 67108864 else 10000):
  ((bif decide (s.aL<0)then some true else bif decide (c<s.aL)then some true else bif decide (s.fN<0)then some true else bif decide (s.bG=4)then some (decide (4096<s.fN))else some false):Option Bool)=some (!(decide (0<=s.aL/\s.aL<=c)&&(if s.bG=4 then decide (0<=s.fN/\s.fN<=4096)else true))):=by
 obtain⟨b1,b2,b3,b4,b5⟩:=gR h
 have hd:∀(p:Prop) [Decidable p],(!decide p)=decide (¬p):=fun p _=>by by_cases hp:p<;>simp[hp]
 by_cases h1:s.aL<0
 ·simp[h1,show ¬0<=s.aL by omega]
 by_cases h2:c<s.aL
 ·simp[h1,h2,show ¬s.aL<=c by omega]
 by_cases h3:s.fN<0
 ·have h4:s.bG=4:=by
   by_cases h4:s.bG=4
   ·exact h4
   ·have:=b5 h4;omega
  simp[h1,h2,h3,h4,show ¬0<=s.fN by omega]
 by_cases h4:s.bG=4
 ·simp[h1,h2,h3,h4,show 0<=s.aL by omega,show s.aL<=c by omega,show 0<=s.fN by omega]
  by_cases h5:4096<s.fN
  ·simp[h5]
  ·simp[h5];omega
 ·simp[h1,h2,h3,h4,show 0<=s.aL by omega,show s.aL<=c by omega]
theorem LM{f:Flat}{s:GStep}{last:Bool}(h:cF f s last=true):
  ((bif decide (0<(s.aG.length:Int))then if(0:Int)<=i64.wrap ((s.aG.length:Int)-(1:Int))/\i64.wrap ((s.aG.length:Int)-(1:Int))<(s.aG.length:Int)then some (decide (67108864<s.aG[(i64.wrap ((s.aG.length:Int)-1)).toNat]!))else none else some false):Option Bool)=some (!(if s.bG=6 then decide (s.aG[s.aG.length-1]!<=67108864)else true)):=by
 obtain⟨b1,b2,b3,b4,b5⟩:=gR h
 by_cases h6:s.bG=6
 ·obtain⟨b1,b2⟩:=b1 h6
  have hw:i64.wrap ((s.aG.length:Int)-1)=(s.aG.length:Int)-1:=aF
  have hw2:((s.aG.length:Int)-1).toNat=s.aG.length-1:=by omega
  rw[hw,hw2,pU,cond_true,if_pos ⟨by omega,by omega⟩,if_pos h6]
  generalize s.aG[s.aG.length-1]! =B
  by_cases h:67108864<B
  ·simp[h]
  ·simp[h];omega
 ·rw[decide_eq_false (by have:=b2 h6;omega),if_neg h6]
  rfl
end Go.Proofs.YtnfljbehcffmcaaGreat
end
