/- Merged: Iz, Hl, Um, Hm, Hn, Gd, Ho, Pl, Nd, Nd2, Nd3, Nd4, Nd5, Nd6, Nd7. -/
import Derived.Test.YtnfljbehcffmcaaGreatM2AbstractRuns
import Derived.KernelRfl
set_option linter.unusedSectionVars false
set_option linter.unusedVariables false
set_option linter.unusedSimpArgs false
noncomputable section
namespace Go.Iv
variable [U:qz] [L:lY]
open Go Go.RowKit
section
variable {β γ δ:Type}
structure Rq (β:Type) where
 f:AV->Option β
 c:β->AV
 ok:PN f c
structure Rl (γ:Type) where
 q:List AV->Option γ
 c:γ->List AV
 ok:G0 q c
def qi(k:IntKind):Rq Int:=⟨gz k,bL.n k, .i k⟩
def qb:Rq Bool:=⟨NZ,bL.b, .b⟩
def qs:Rq ByteArray:=⟨asS,bL.s, .s⟩
def ql(t:Nat):Rq (List (U.cE t)):=⟨iC t,bL.sl t, .l t⟩
def qg(t:Nat):Rq (U.cE t):=⟨US t,fun x=> .agg (U.cells t x), .g t⟩
def qp(i o:Nat):Rq Unit:=⟨asP i o,fun _=> .ptr i o, .p i o⟩
def qo(i:Nat):Rq Unit:=⟨asO i,fun _=> .own i, .o i⟩
def qn:Rq Unit:=⟨afH,fun _=> .lit (.slice none 0 0), .ns⟩
def qf(k:Nat)(l:Rl γ):Rq γ:=⟨agO k l.q,fun x=> .fn (.func k) (l.c x), .ff k l.ok⟩
def qr(l:Rl γ):Rq γ:=⟨acP l.q,fun x=> .fp (l.c x), .fp l.ok⟩
def ln:Rl Unit:=⟨nc,fun _=>[], .nil⟩
def lc(a:Rq β)(l:Rl γ):Rl (β×γ):=⟨cM a.f l.q,fun x=>a.c x.1::l.c x.2, .cons a.ok l.ok⟩
def lg(t:Nat):Rl (U.cE t):=⟨ags t,fun x=>U.cells t x,G0.parse t⟩
structure Re (γ:Type) where
 q:ET->Option γ
 d:γ->Env
 ok:Jd q d
def en:Re Unit:=⟨slN,fun _=>[], .nil⟩
def ec(t:Nat)(a:Rq β)(l:Re γ):Re (β×γ):=⟨slC t a.f l.q,fun x=>(t,a.c x.1)::l.d x.2, .cons a.ok l.ok⟩
structure Rs (γ:Type) where
 q:aP->Option γ
 d:γ->aP
 ok:y7 q d
def sn:Rs Unit:=⟨rsN,fun _=>[], .nil⟩
def sr(i t:Nat)(l:Rs γ):Rs (List (U.cE t)×γ):=⟨rsR i t l.q,fun x=>(i, .row t x.1)::l.d x.2, .row l.ok⟩
def sb(i t:Nat)(a:Rl β)(l:Rs γ):Rs (β×γ):=⟨ad9 i t a.q l.q,fun x=>(i, .box t (a.c x.1))::l.d x.2, .aqt a.ok l.ok⟩
structure Td (n0:Nat) (γ:Type) where
 rd:St->Option γ
 pat:γ->St
 ok:∀n,pP n0 n rd pat
def Td.r(n0 m:Nat)(e:Re β)(s:Rs δ)(mk:β×δ->γ)(un:γ->β×δ)(h:∀z,un (mk z)=z):Td n0 γ:=
 ⟨rdM mk (stR m e.q s.q),fun x=>stP m e.d s.d (un x),fun _=>(agD e.ok s.ok).m mk fun z=>by rw[h]⟩
def Td.c{n0:Nat}(dr ts:List Nat)(d:Td n0 γ):Td n0 γ:=⟨rdC n0 dr ts d.rd,d.pat,fun n=>adS (d.ok n)⟩
def Td.t{n0:Nat}{f:St->St}(h:cl f)(d:Td n0 γ):Td n0 γ:=⟨rdF f d.rd,d.pat,fun n=>ac7 h (d.ok n)⟩
def Td.lp{n0:Nat}(d:Td n0 γ)(a:γ->Option γ)(b:An):An:= .lp γ d.rd d.pat a b
end
def iP(P:Program)(f n0:Nat)(s:St):Out:=match (match zo P f s with
  |some ds=>some (Out.mk (fG ds) (mO s.R n0 (fG ds)) s.nx)
  |none=>none)with
 |some o=>o
 |none=>⟨.gY [],[],0⟩
theorem aC{α:Type _}{Q:α->Prop}:∀p∈([]:List α),Q p:=fun p h=>by cases h
theorem ax{α:Type _}{Q:α->Prop}{a:α}{l:List α}(h:Q a)(t:∀p∈l,Q p):∀p∈a::l,Q p:=fun p hp=>(List.mem_cons.1 hp).elim (fun e=>e▸h) (t p)
section
variable {P:Program} {F:aI} {f n0:Nat} {γ δ β:Type}
def HY(P:Program)(f n0:Nat)(a:Rl γ)(s:Rs δ)(d:Td n0 β)(t:γ×δ->Option β):Prop:=∀g b,t g=some b->Mj P f (a.c g.1) (s.d g.2) n0 (iP P f n0 (d.pat b))
def HL(P:Program)(f:Nat)(a:Rl γ)(d:Td 0 β)(t:γ->Option β):Prop:=∀g b,t g=some b->Mj P f (a.c g) [] 0 (iP P f 0 (d.pat b))
theorem L3(hF:aZ P F){an:An}(fa:eC P F n0 300 f an){a:Rl γ}{s:Rs δ}{d:Td n0 β}{t:γ×δ->Option β}(ho:∀p,(match zo P f (d.pat p)with
   |some ds=>some (Out.mk (fG ds) (mO (d.pat p).R n0 (fG ds)) (d.pat p).nx)
   |none=>none)=some (iP P f n0 (d.pat p)))
  (h1:∀g,(a.c g).all (jW (fun i=>Nat.blt i n0) 4)=true) (h2:∀g,(s.d g).all (fun q=>Nat.blt q.1 n0&&match q.2 with
  | .box _ cs=>cs.all (jW (fun i=>Nat.blt i n0) 4)
  | .row _ _=>true)=true) (c:∀g,bK P F 300 an f (a.c g.1) (s.d g.2) n0 d.rd=t g):HY P f n0 a s d t:=
 fun g b hb=>(nH (p:=b) hF fa d.ok ho (mG (h1 g.1)) (j7 (h2 g.2)) ((c g).trans hb)).2
theorem dx(hF:aZ P F){an:An}(fa:eC P F 0 300 f an){a:Rl γ}{d:Td 0 β}{t:γ->Option β}(ho:∀p,(match zo P f (d.pat p)with
   |some ds=>some (Out.mk (fG ds) (mO (d.pat p).R 0 (fG ds)) (d.pat p).nx)
   |none=>none)=some (iP P f 0 (d.pat p)))
  (h1:∀g,(a.c g).all (jW (fun i=>Nat.blt i 0) 4)=true) (c:∀g,bK P F 300 an f (a.c g) [] 0 d.rd=t g):HL P f a d t:=
 fun g b hb=>(nH (p:=b) hF fa d.ok ho (mG (h1 g)) (j7 rfl) ((c g).trans hb)).2
def eY(P:Program)(f n0:Nat)(a:Rl γ)(s:Rs δ)(d:Td n0 β)(t:γ×δ->Option β)(F:aI):aI:=XJ f n0 (qyR a.q s.q) t (fun x=>iP P f n0 (d.pat x)) F
def eZ(P:Program)(f:Nat)(a:Rl γ)(d:Td 0 β)(t:γ->Option β)(F:aI):aI:=XJ f 0 (qy0 a.q) t (fun x=>iP P f 0 (d.pat x)) F
def eL(P:Program)(f:Nat)(lb:Bool)(a:Rl γ)(d:Td 0 β)(t:γ->Option β)(F:aI):aI:=TE f lb a.q t (fun x=>iP P f 0 (d.pat x)) F
theorem FY{a:Rl γ}{s:Rs δ}{d:Td n0 β}{t:γ×δ->Option β}(h:HY P f n0 a s d t)(hf:uw P f)(h3:∀b,(iP P f n0 (d.pat b)).okB n0=true)(hF:aZ P F):aZ P (eY P f n0 a s d t F):=
 acu hF hf (aeF a.ok s.ok) h3 h
theorem nC{a:Rl γ}{d:Td 0 β}{t:γ->Option β}(h:HL P f a d t)(hf:uw P f)(h3:∀b,(iP P f 0 (d.pat b)).okB 0=true)(hF:aZ P F):aZ P (eZ P f a d t F):=
 acu hF hf (aem a.ok) h3 h
theorem fW{lb:Bool}{sc:Nat->Bool}(hsc:∀t,sc t=true->∀x,D4 (U.cells t x)){a:Rl γ}{d:Td 0 β}{t:γ->Option β}(h:HL P f a d t)(hf:uw P f)(h3:∀b,(iP P f 0 (d.pat b)).okB 0=true)(h4:∀b,(iP P f 0 (d.pat b)).scB sc=true)(hF:aZ P F):aZ P (eL P f lb a d t F):=
 ahG hF hsc hf a.ok h3 h4 h
end
end Go.Iv
end
noncomputable section
namespace Go.Proofs.YtnfljbehcffmcaaGreat
def jF:ByteArray:=ByteArray.mk #[0,1,2,2,3,3,3,3,4,4,4,4,4,4,4,4,5,5,5,5,5,5,5,5,5,5,5,5,5,5,5,5,6,6,6,6,6,6,6,6,6,6,6,6,6,6,6,6,6,6,6,6,6,6,6,6,6,6,6,6,6,6,6,6,7,7,7,7,7,7,7,7,7,7,7,7,7,7,7,7,7,7,7,7,7,7,7,7,7,7,7,7,7,7,7,7,7,7,7,7,7,7,7,7,7,7,7,7,7,7,7,7,7,7,7,7,7,7,7,7,7,7,7,7,7,7,7,7,8,8,8,8,8,8,8,8,8,8,8,8,8,8,8,8,8,8,8,8,8,8,8,8,8,8,8,8,8,8,8,8,8,8,8,8,8,8,8,8,8,8,8,8,8,8,8,8,8,8,8,8,8,8,8,8,8,8,8,8,8,8,8,8,8,8,8,8,8,8,8,8,8,8,8,8,8,8,8,8,8,8,8,8,8,8,8,8,8,8,8,8,8,8,8,8,8,8,8,8,8,8,8,8,8,8,8,8,8,8,8,8,8,8,8,8,8,8,8,8,8,8,8,8,8,8,8,8]
end Go.Proofs.YtnfljbehcffmcaaGreat
end
noncomputable section
/- Entries, with what is found by evaluation left out. -/
set_option maxRecDepth 100000
namespace Go.Proofs.YtnfljbehcffmcaaGreat
open Go Go.Iv
theorem eF{p:Prop}{_:Decidable p}(h:¬p:=by omega):decide p=false:=decide_eq_false h
theorem pU{p:Prop}{_:Decidable p}(h:p:=by omega):decide p=true:=decide_eq_true h
theorem fA{p:Prop}{_:Decidable p}{α:Type _}{a b:α}(h:p:=by omega):(if p then a else b)=a:=if_pos h
theorem u6{p:Prop}{_:Decidable p}{α:Type _}{a b:α}(h:¬p:=by omega):(if p then a else b)=b:=if_neg h
abbrev EO(e:aI->aI):Prop:=∀{F:aI},aZ Tryz.prog F->aZ Tryz.prog (e F)
abbrev EP(e:aI->aI):Prop:=∀{F:aI} {f:Nat},aV F f->aV (e F) f
theorem kP{f:Nat}{lb:Bool}{γ β:Type}{a:Rl γ}{d:Td 0 β}{t:γ->Option β}{F:aI}{g:Nat}(h:aV F g)(hm:∀b,(iP Tryz.prog f 0 (d.pat b)).R=[]:=by intro _;kernel_rfl):aV (eL Tryz.prog f lb a d t F) g:=fy h hm
theorem aO{F:aI}{n0 nt:Nat}{c:Code}{β:Type}{b:An}{n:β->Option (Option β)}(d:Td n0 β)(h:∀p,mM Tryz.prog F nt 300 c b (Option β) (d.pat p) (kOn d.rd)=n p:=by intro _;kernel_rfl):ME Tryz.prog F n0 nt 300 (c,d.lp (bt n) b):=⟨d.ok _,UR h⟩
theorem kL{f:Nat}{lb:Bool}{fn:Func}{F G:aI}{an:An}{γ β:Type}{a:Rl γ}{d:Td 0 β}{t:γ->Option β}{l:List (Code×An)}
  (hf:Tryz.prog.funcs[f]? =some fn) (hF:aZ Tryz.prog F) (h:∀p∈l,ME Tryz.prog F 0 fn.ntmps 300 p) (hG:aZ Tryz.prog G)
  (hb:fn.body.isNone=false:=by kernel_rfl) (ho:adj (B8 fn) an=l:=by kernel_rfl)
  (h0:∀p,(match zo Tryz.prog f (d.pat p)with
   |some ds=>some (Out.mk (fG ds) (mO (d.pat p).R 0 (fG ds)) (d.pat p).nx)
   |none=>none)=some (iP Tryz.prog f 0 (d.pat p)):=by intro _;kernel_rfl)
  (h1:∀g,(a.c g).all (jW (fun i=>Nat.blt i 0) 4)=true:=by intro _;kernel_rfl)
  (c:∀g,bK Tryz.prog F 300 an f (a.c g) [] 0 d.rd=t g:=by intro _;kernel_rfl)
  (h2:(fn.name=="runtime.NumGoroutine")=false:=by kernel_rfl)
  (h3:∀b,(iP Tryz.prog f 0 (d.pat b)).okB 0=true:=by intro _;kernel_rfl) (h4:∀b,(iP Tryz.prog f 0 (d.pat b)).scB wQ=true:=by intro _;kernel_rfl):aZ Tryz.prog (eL Tryz.prog f lb a d t G):=
 fW (sc:=wQ) dL (dx hF (bT hf (bA hb) ho h) (fun p=>by have:=h0 p;revert this;cases zo Tryz.prog f (d.pat p)<;>exact id) h1 c) ⟨_,hf,h2,hb⟩ h3 h4 hG
end Go.Proofs.YtnfljbehcffmcaaGreat
end
noncomputable section
set_option maxRecDepth 100000
namespace Go.Proofs.YtnfljbehcffmcaaGreat
open Go Go.Iv
open Go.IntKind (i64)
abbrev ajL:Type:=Int×Int
def d352:Td 0 ajL:= .c [] [4,5] (.r 0 0 (ec 4 (qi .u64) (ec 5 (qi .u64) en)) sn (fun z=>(z.1.1,z.1.2.1)) (fun x=>((x.1,x.2,()),(()))) fun _=>rfl)
def PV(a0:Int)(a1:Int):ajL:=
 (IntKind.u64.wrap (IntKind.u64.wrap (IntKind.u64.wrap (cq IntKind.u64 a0 (32)*cq IntKind.u64 a1 (32))+cq IntKind.u64 (IntKind.u64.wrap (IntKind.u64.wrap (cq IntKind.u64 a0 (32)*qL IntKind.u64 a1 (4294967295))+cq IntKind.u64 (IntKind.u64.wrap (qL IntKind.u64 a0 (4294967295)*qL IntKind.u64 a1 (4294967295))) (32))) (32))+cq IntKind.u64 (IntKind.u64.wrap (qL IntKind.u64 (IntKind.u64.wrap (IntKind.u64.wrap (cq IntKind.u64 a0 (32)*qL IntKind.u64 a1 (4294967295))+cq IntKind.u64 (IntKind.u64.wrap (qL IntKind.u64 a0 (4294967295)*qL IntKind.u64 a1 (4294967295))) (32))) (4294967295)+IntKind.u64.wrap (qL IntKind.u64 a0 (4294967295)*cq IntKind.u64 a1 (32)))) (32)),IntKind.u64.wrap (a0*a1))
def apb:aI->aI:=eL Tryz.prog 352 false (lc (qi .u64) (lc (qi .u64) ln)) d352 (fun g=>some (PV g.1 g.2.1))
theorem TI:EO apb:=fun h=>kL (an:= .no) Tryz.func352 aK aC h
abbrev alI:Type:=Int
def d301:Td 0 alI:= .c [] [2] (.r 0 0 (ec 2 (qi .i64) en) sn (fun z=>z.1.1) (fun x=>((x,()),(()))) fun _=>rfl)
def XE(a0:Int):Option alI:=
 bif decide (4294967296<=a0)then bif decide (65536<=cq IntKind.u64 a0 (32))then bif decide (256<=cq IntKind.u64 (cq IntKind.u64 a0 (32)) (16))then if(0:Int)<=IntKind.u8.wrap (cq IntKind.u64 (cq IntKind.u64 (cq IntKind.u64 a0 ((32:Int))) ((16:Int))) ((8:Int)))/\IntKind.u8.wrap (cq IntKind.u64 (cq IntKind.u64 (cq IntKind.u64 a0 ((32:Int))) ((16:Int))) ((8:Int)))<(256:Int)then some (i64.wrap (56+i64.wrap (bM jF (IntKind.u8.wrap (cq IntKind.u64 (cq IntKind.u64 (cq IntKind.u64 a0 (32)) (16)) (8))).toNat)))else none else if(0:Int)<=IntKind.u8.wrap (cq IntKind.u64 (cq IntKind.u64 a0 ((32:Int))) ((16:Int)))/\IntKind.u8.wrap (cq IntKind.u64 (cq IntKind.u64 a0 ((32:Int))) ((16:Int)))<(256:Int)then some (i64.wrap (48+i64.wrap (bM jF (IntKind.u8.wrap (cq IntKind.u64 (cq IntKind.u64 a0 (32)) (16))).toNat)))else none else bif decide (256<=cq IntKind.u64 a0 (32))then if(0:Int)<=IntKind.u8.wrap (cq IntKind.u64 (cq IntKind.u64 a0 ((32:Int))) ((8:Int)))/\IntKind.u8.wrap (cq IntKind.u64 (cq IntKind.u64 a0 ((32:Int))) ((8:Int)))<(256:Int)then some (i64.wrap (40+i64.wrap (bM jF (IntKind.u8.wrap (cq IntKind.u64 (cq IntKind.u64 a0 (32)) (8))).toNat)))else none else if(0:Int)<=IntKind.u8.wrap (cq IntKind.u64 a0 ((32:Int)))/\IntKind.u8.wrap (cq IntKind.u64 a0 ((32:Int)))<(256:Int)then some (i64.wrap (32+i64.wrap (bM jF (IntKind.u8.wrap (cq IntKind.u64 a0 (32))).toNat)))else none else bif decide (65536<=a0)then bif decide (256<=cq IntKind.u64 a0 (16))then if(0:Int)<=IntKind.u8.wrap (cq IntKind.u64 (cq IntKind.u64 a0 ((16:Int))) ((8:Int)))/\IntKind.u8.wrap (cq IntKind.u64 (cq IntKind.u64 a0 ((16:Int))) ((8:Int)))<(256:Int)then some (i64.wrap (24+i64.wrap (bM jF (IntKind.u8.wrap (cq IntKind.u64 (cq IntKind.u64 a0 (16)) (8))).toNat)))else none else if(0:Int)<=IntKind.u8.wrap (cq IntKind.u64 a0 ((16:Int)))/\IntKind.u8.wrap (cq IntKind.u64 a0 ((16:Int)))<(256:Int)then some (i64.wrap (16+i64.wrap (bM jF (IntKind.u8.wrap (cq IntKind.u64 a0 (16))).toNat)))else none else bif decide (256<=a0)then if(0:Int)<=IntKind.u8.wrap (cq IntKind.u64 a0 ((8:Int)))/\IntKind.u8.wrap (cq IntKind.u64 a0 ((8:Int)))<(256:Int)then some (i64.wrap (8+i64.wrap (bM jF (IntKind.u8.wrap (cq IntKind.u64 a0 (8))).toNat)))else none else if(0:Int)<=IntKind.u8.wrap a0/\IntKind.u8.wrap a0<(256:Int)then some (i64.wrap (0+i64.wrap (bM jF (IntKind.u8.wrap a0).toNat)))else none
def aoW:aI->aI:=eL Tryz.prog 301 false (lc (qi .u64) ln) d301 (fun g=>XE g.1)
theorem UO:EO aoW:=fun h=>kL (an:= .no) Tryz.func301 aK aC h
abbrev ajh:Type:=Int
def d358:Td 0 ajh:= .c [] [2] (.r 0 0 (ec 2 (qi .i64) en) sn (fun z=>z.1.1) (fun x=>((x,()),(()))) fun _=>rfl)
def agI(a0:Int):Option ajh:=
 match XE a0 with|none=>none|some r1=>some (i64.wrap (64-r1))
def alG:aI->aI:=eL Tryz.prog 358 false (lc (qi .u64) ln) d358 (fun g=>agI g.1)
theorem ZY:EO alG:=fun h=>kL (an:= .no) Tryz.func358 (UO aK) aC h
def akx:aI:=(alG cL)
structure iX where
 (t2 t8 t9 t10 t14 t15 t16 t17 t18:Int)
def Ju:Td 0 iX:= .c [] [2,8,9,10,14,15,16,17,18] (.r 0 0 (ec 2 (qi .u64) (ec 8 (qi .u64) (ec 9 (qi .u64) (ec 10 (qi .u64) (ec 14 (qi .u64) (ec 15 (qi .u64) (ec 16 (qi .u64) (ec 17 (qi .u64) (ec 18 (qi .u64) en))))))))) sn (fun z=>⟨z.1.1,z.1.2.1,z.1.2.2.1,z.1.2.2.2.1,z.1.2.2.2.2.1,z.1.2.2.2.2.2.1,z.1.2.2.2.2.2.2.1,z.1.2.2.2.2.2.2.2.1,z.1.2.2.2.2.2.2.2.2.1⟩) (fun x=>((x.t2,x.t8,x.t9,x.t10,x.t14,x.t15,x.t16,x.t17,x.t18,()),(()))) fun _=>rfl)
def va(p:iX):Option (Option iX):=
 match bif decide (4294967296<=p.t18)then some (true)else some (decide (IntKind.u64.wrap (IntKind.u64.wrap (4294967296*p.t16)+p.t14)<IntKind.u64.wrap (p.t18*p.t10)))with|none=>none|some r2=>bif r2 then bif decide (4294967296<=IntKind.u64.wrap (p.t16+p.t9))then some (none)else some (some (iX.mk p.t2 p.t8 p.t9 p.t10 p.t14 p.t15 (IntKind.u64.wrap (p.t16+p.t9)) p.t17 (IntKind.u64.wrap (p.t18-1))))else some (none)
def Ry:An:=(.two (.two (.rb [] 113) .no) .no)
def yw:iX->Option iX:=bt (va)
structure jG where
 (t2 t8 t9 t10 t11 t13 t14 t15 t16:Int)
def HD:Td 0 jG:= .c [] [2,8,9,10,11,13,14,15,16] (.r 0 0 (ec 2 (qi .u64) (ec 8 (qi .u64) (ec 9 (qi .u64) (ec 10 (qi .u64) (ec 11 (qi .u64) (ec 13 (qi .u64) (ec 14 (qi .u64) (ec 15 (qi .u64) (ec 16 (qi .u64) en))))))))) sn (fun z=>⟨z.1.1,z.1.2.1,z.1.2.2.1,z.1.2.2.2.1,z.1.2.2.2.2.1,z.1.2.2.2.2.2.1,z.1.2.2.2.2.2.2.1,z.1.2.2.2.2.2.2.2.1,z.1.2.2.2.2.2.2.2.2.1⟩) (fun x=>((x.t2,x.t8,x.t9,x.t10,x.t11,x.t13,x.t14,x.t15,x.t16,()),(()))) fun _=>rfl)
def ue(p:jG):Option (Option jG):=
 match bif decide (4294967296<=p.t15)then some (true)else some (decide (IntKind.u64.wrap (IntKind.u64.wrap (4294967296*p.t16)+p.t13)<IntKind.u64.wrap (p.t15*p.t10)))with|none=>none|some r1=>bif r1 then bif decide (4294967296<=IntKind.u64.wrap (p.t16+p.t9))then some (none)else some (some (jG.mk p.t2 p.t8 p.t9 p.t10 p.t11 p.t13 p.t14 (IntKind.u64.wrap (p.t15-1)) (IntKind.u64.wrap (p.t16+p.t9))))else some (none)
def Sv:An:=(.two (.two (.rb [] 78) .no) .no)
def Cz:jG->Option jG:=bt (ue)
abbrev alz:Type:=Int×Int
def d357:Td 0 alz:= .c [] [6,7] (.r 0 0 (ec 6 (qi .u64) (ec 7 (qi .u64) en)) sn (fun z=>(z.1.1,z.1.2.1)) (fun x=>((x.1,x.2,()),(()))) fun _=>rfl)
theorem abi:∀f∈([]:List Nat),aV (akx) f:=aC
def PO(a0:Int)(a1:Int)(a2:Int):Option alz:=
 bif decide (a2=0)then none else bif decide (a2<=a0)then none else bif decide (a0=0)then if¬a2=(0:Int)then if¬a2=(0:Int)then some ((IntKind.u64.wrap (a1.tdiv a2),a1.tmod a2))else none else none else match agI a2 with|none=>none|some r3=>if(0:Int)<=IntKind.u64.wrap r3 then if(0:Int)<=IntKind.u64.wrap r3 then if(0:Int)<=IntKind.u64.wrap ((64:Int)-IntKind.u64.wrap r3)then if(0:Int)<=IntKind.u64.wrap r3 then if¬cq IntKind.u64 (ki IntKind.u64 a2 (IntKind.u64.wrap r3)) ((32:Int))=(0:Int)then match Cz (jG.mk (ki IntKind.u64 a2 (IntKind.u64.wrap r3)) (IntKind.u64.wrap r3) (cq IntKind.u64 (ki IntKind.u64 a2 (IntKind.u64.wrap r3)) (32)) (qL IntKind.u64 (ki IntKind.u64 a2 (IntKind.u64.wrap r3)) (4294967295)) (TC IntKind.u64 (ki IntKind.u64 a0 (IntKind.u64.wrap r3)) (cq IntKind.u64 a1 (IntKind.u64.wrap (64-IntKind.u64.wrap r3)))) (cq IntKind.u64 (ki IntKind.u64 a1 (IntKind.u64.wrap r3)) (32)) (qL IntKind.u64 (ki IntKind.u64 a1 (IntKind.u64.wrap r3)) (4294967295)) (IntKind.u64.wrap ((TC IntKind.u64 (ki IntKind.u64 a0 (IntKind.u64.wrap r3)) (cq IntKind.u64 a1 (IntKind.u64.wrap (64-IntKind.u64.wrap r3)))).tdiv (cq IntKind.u64 (ki IntKind.u64 a2 (IntKind.u64.wrap r3)) (32)))) (IntKind.u64.wrap (TC IntKind.u64 (ki IntKind.u64 a0 (IntKind.u64.wrap r3)) (cq IntKind.u64 a1 (IntKind.u64.wrap (64-IntKind.u64.wrap r3)))-IntKind.u64.wrap (IntKind.u64.wrap ((TC IntKind.u64 (ki IntKind.u64 a0 (IntKind.u64.wrap r3)) (cq IntKind.u64 a1 (IntKind.u64.wrap (64-IntKind.u64.wrap r3)))).tdiv (cq IntKind.u64 (ki IntKind.u64 a2 (IntKind.u64.wrap r3)) (32)))*cq IntKind.u64 (ki IntKind.u64 a2 (IntKind.u64.wrap r3)) (32)))))with|none=>none|some r4=>match bif decide (4294967296<=r4.t15)then some (true)else some (decide (IntKind.u64.wrap (IntKind.u64.wrap (4294967296*r4.t16)+r4.t13)<IntKind.u64.wrap (r4.t15*r4.t10)))with|none=>none|some r5=>bif r5 then bif decide (4294967296<=IntKind.u64.wrap (r4.t16+r4.t9))then if¬r4.t9=(0:Int)then match yw (iX.mk r4.t2 r4.t8 r4.t9 r4.t10 r4.t14 (IntKind.u64.wrap (r4.t15-1)) (IntKind.u64.wrap (IntKind.u64.wrap (IntKind.u64.wrap (IntKind.u64.wrap (r4.t11*4294967296)+r4.t13)-IntKind.u64.wrap (IntKind.u64.wrap (r4.t15-1)*r4.t2))-IntKind.u64.wrap (IntKind.u64.wrap ((IntKind.u64.wrap (IntKind.u64.wrap (IntKind.u64.wrap (r4.t11*4294967296)+r4.t13)-IntKind.u64.wrap (IntKind.u64.wrap (r4.t15-1)*r4.t2))).tdiv r4.t9)*r4.t9))) (IntKind.u64.wrap (IntKind.u64.wrap (IntKind.u64.wrap (r4.t11*4294967296)+r4.t13)-IntKind.u64.wrap (IntKind.u64.wrap (r4.t15-1)*r4.t2))) (IntKind.u64.wrap ((IntKind.u64.wrap (IntKind.u64.wrap (IntKind.u64.wrap (r4.t11*4294967296)+r4.t13)-IntKind.u64.wrap (IntKind.u64.wrap (r4.t15-1)*r4.t2))).tdiv r4.t9)))with|none=>none|some r6=>match bif decide (4294967296<=r6.t18)then some (true)else some (decide (IntKind.u64.wrap (IntKind.u64.wrap (4294967296*r6.t16)+r6.t14)<IntKind.u64.wrap (r6.t18*r6.t10)))with|none=>none|some r7=>bif r7 then bif decide (4294967296<=IntKind.u64.wrap (r6.t16+r6.t9))then if(0:Int)<=r6.t8 then some ((IntKind.u64.wrap (IntKind.u64.wrap (r6.t15*4294967296)+IntKind.u64.wrap (r6.t18-1)),cq IntKind.u64 (IntKind.u64.wrap (IntKind.u64.wrap (IntKind.u64.wrap (r6.t17*4294967296)+r6.t14)-IntKind.u64.wrap (IntKind.u64.wrap (r6.t18-1)*r6.t2))) r6.t8))else none else none else if(0:Int)<=r6.t8 then some ((IntKind.u64.wrap (IntKind.u64.wrap (r6.t15*4294967296)+r6.t18),cq IntKind.u64 (IntKind.u64.wrap (IntKind.u64.wrap (IntKind.u64.wrap (r6.t17*4294967296)+r6.t14)-IntKind.u64.wrap (r6.t18*r6.t2))) r6.t8))else none else none else none else if¬r4.t9=(0:Int)then match yw (iX.mk r4.t2 r4.t8 r4.t9 r4.t10 r4.t14 r4.t15 (IntKind.u64.wrap (IntKind.u64.wrap (IntKind.u64.wrap (IntKind.u64.wrap (r4.t11*4294967296)+r4.t13)-IntKind.u64.wrap (r4.t15*r4.t2))-IntKind.u64.wrap (IntKind.u64.wrap ((IntKind.u64.wrap (IntKind.u64.wrap (IntKind.u64.wrap (r4.t11*4294967296)+r4.t13)-IntKind.u64.wrap (r4.t15*r4.t2))).tdiv r4.t9)*r4.t9))) (IntKind.u64.wrap (IntKind.u64.wrap (IntKind.u64.wrap (r4.t11*4294967296)+r4.t13)-IntKind.u64.wrap (r4.t15*r4.t2))) (IntKind.u64.wrap ((IntKind.u64.wrap (IntKind.u64.wrap (IntKind.u64.wrap (r4.t11*4294967296)+r4.t13)-IntKind.u64.wrap (r4.t15*r4.t2))).tdiv r4.t9)))with|none=>none|some r8=>match bif decide (4294967296<=r8.t18)then some (true)else some (decide (IntKind.u64.wrap (IntKind.u64.wrap (4294967296*r8.t16)+r8.t14)<IntKind.u64.wrap (r8.t18*r8.t10)))with|none=>none|some r9=>bif r9 then bif decide (4294967296<=IntKind.u64.wrap (r8.t16+r8.t9))then if(0:Int)<=r8.t8 then some ((IntKind.u64.wrap (IntKind.u64.wrap (r8.t15*4294967296)+IntKind.u64.wrap (r8.t18-1)),cq IntKind.u64 (IntKind.u64.wrap (IntKind.u64.wrap (IntKind.u64.wrap (r8.t17*4294967296)+r8.t14)-IntKind.u64.wrap (IntKind.u64.wrap (r8.t18-1)*r8.t2))) r8.t8))else none else none else if(0:Int)<=r8.t8 then some ((IntKind.u64.wrap (IntKind.u64.wrap (r8.t15*4294967296)+r8.t18),cq IntKind.u64 (IntKind.u64.wrap (IntKind.u64.wrap (IntKind.u64.wrap (r8.t17*4294967296)+r8.t14)-IntKind.u64.wrap (r8.t18*r8.t2))) r8.t8))else none else none else none else none else none else none else none
def ao6:aI->aI:=eL Tryz.prog 357 false (lc (qi .u64) (lc (qi .u64) (lc (qi .u64) ln))) d357 (fun g=>PO g.1 g.2.1 g.2.2.1)
theorem aar:EO ao6:=fun h=>kL (F:=akx) (an:=(.two .no (.two .no (.two .no (.two .no (.two .no (.two .no (.two .no (.two .no (.two .no (.two .no (.two .no (.two .no (.two .no (.two .no (.two (HD.lp Cz Sv) (.two .no (.two .no (.two .no (.two (Ju.lp yw Ry) .no)))))))))))))))))))) (l:=[(aS Tryz.f357 0,(HD.lp Cz Sv)),(.skip,(.rb [] 78)),(aS Tryz.f357 1,(Ju.lp yw Ry)),(.skip,(.rb [] 113))]) Tryz.func357 (ZY aK) (ax (aO HD) (ax abi (ax (aO Ju) (ax abi aC)))) h
abbrev am7:Type:=Int
def d353:Td 0 am7:= .c [] [6] (.r 0 0 (ec 6 (qi .u64) en) sn (fun z=>z.1.1) (fun x=>((x,()),(()))) fun _=>rfl)
def ag2(a0:Int)(a1:Int)(a2:Int):Option am7:=
 if¬a2=(0:Int)then match PO (a0.tmod a2) a1 a2 with|none=>none|some r1=>some (r1.snd)else none
def apM:aI->aI:=eL Tryz.prog 353 false (lc (qi .u64) (lc (qi .u64) (lc (qi .u64) ln))) d353 (fun g=>ag2 g.1 g.2.1 g.2.2.1)
theorem ZX:EO apM:=fun h=>kL (an:= .no) Tryz.func353 (aar aK) aC h
abbrev akz:Type:=Int
def d340:Td 0 akz:= .c [] [6] (.r 0 0 (ec 6 (qi .i64) en) sn (fun z=>z.1.1) (fun x=>((x,()),(()))) fun _=>rfl)
def VY(a0:Int)(a1:Int)(a2:Int):Option akz:=
 match ag2 (PV (IntKind.u64.wrap a0) (IntKind.u64.wrap a1)).fst (PV (IntKind.u64.wrap a0) (IntKind.u64.wrap a1)).snd (IntKind.u64.wrap a2)with|none=>none|some r1=>some (i64.wrap r1)
def alY:aI->aI:=eL Tryz.prog 340 false (lc (qi .i64) (lc (qi .i64) (lc (qi .i64) ln))) d340 (fun g=>VY g.1 g.2.1 g.2.2.1)
theorem WQ:EO alY:=fun h=>kL (an:= .no) Tryz.func340 (ZX (TI aK)) aC h
abbrev E80:Type:=aD
def d80:Td 0 E80:= .c [] [2] (.r 0 1 (ec 2 (qp 0 0) en) (sb 0 34 (lg 34) sn) (fun z=>z.2.1) (fun x=>(((),()),(x,()))) fun _=>rfl)
def Ms(a0:Int):E80:=
 aD.mk a0 a0 (0)
def e80:aI->aI:=eL Tryz.prog 80 false (lc (qi .i64) ln) d80 (fun g=>some (Ms g.1))
theorem Dd:EO e80:=fun h=>kL (an:= .no) Tryz.func80 aK aC h
def adD:aI:=cL
abbrev afW:Type:=Bool
def d145:Td 0 afW:= .c [] [2] (.r 0 0 (ec 2 qb en) sn (fun z=>z.1.1) (fun x=>((x,()),(()))) fun _=>rfl)
def ai9:=(lc (qi .i64) ln)
def acz:An:=(.two .no (.two (.rb [] 2) .no))
theorem amb:∀f∈([]:List Nat),aV (adD) f:=aC
def ig(a0:Int):afW:=
 let r1:Bool:=bif decide (-1099511627776<=a0)then decide (a0<=1099511627776)else false;r1
theorem anZ(a0:Int):bK Tryz.prog (adD) 300 (acz) 145 (ai9.c (a0,())) [] 0 d145.rd=some (ig a0):=by
 refine Eq.trans (b:=(
  match bif decide (-1099511627776<=a0)then some (decide (a0<=1099511627776))else some (false)with|none=>none|some r1=>some (r1):Option afW)) (by kernel_rfl) ?_
 simp only[ig,bX,cn]
def O7:aI->aI:=eL Tryz.prog 145 false ai9 d145 (fun g=>some (ig g.1))
theorem wH:EO O7:=fun h=>kL (F:=adD) (an:=acz) (l:=[(.skip,(.rb [] 2))]) Tryz.func145 aK (ax amb aC) h (c:=fun g=>anZ g.1)
theorem ju:EP O7:=fun h=>kP h
def ajF:aI:=cL
abbrev alZ:Type:=aD
def d224:Td 0 alZ:= .c [] [0] (.r 0 1 (ec 0 (qp 0 0) en) (sb 0 34 (lg 34) sn) (fun z=>z.2.1) (fun x=>(((),()),(x,()))) fun _=>rfl)
def anf:=ln
def aaY:An:= .no
def gF:alZ:=
 aD.mk (1) (0) (0)
theorem ao5:bK Tryz.prog (ajF) 300 (aaY) 224 (anf.c ()) [] 0 d224.rd=some (gF):=by kernel_rfl
def F7:aI->aI:=eL Tryz.prog 224 false anf d224 (fun _=>some (gF))
theorem iF:EO F7:=fun h=>kL (F:=ajF) (an:=aaY) Tryz.func224 aK aC h (c:=fun _=>ao5)
theorem jt:EP F7:=fun h=>kP h
def apt:aI:=(F7 cL)
abbrev ag5:Type:=Bool
def d147:Td 0 ag5:= .c [] [2] (.r 0 0 (ec 2 qb en) sn (fun z=>z.1.1) (fun x=>((x,()),(()))) fun _=>rfl)
def ak0:=(lc (qg 34) ln)
def aa0:An:= .no
def dI(a0:aD):ag5:=
 bif decide (a0.aa=gF.aa)then bif decide (a0.af=gF.af)then bif decide (a0.ag=gF.ag)then true else false else false else false
theorem aqr(a0:aD):bK Tryz.prog (apt) 300 (aa0) 147 (ak0.c (a0,())) [] 0 d147.rd=some (dI a0):=by
 refine Eq.trans (b:=(
  some (bif decide (a0.aa=gF.aa)then bif decide (a0.af=gF.af)then bif decide (a0.ag=gF.ag)then true else false else false else false):Option ag5)) (by kernel_rfl) ?_
 simp only[dI,bX,cn]
def xG:aI->aI:=eL Tryz.prog 147 false ak0 d147 (fun g=>some (dI g.1))
theorem gU:EO xG:=fun h=>kL (an:=aa0) Tryz.func147 (iF aK) aC h (c:=fun g=>aqr g.1)
theorem dM:EP xG:=fun h=>kP h
def ajX:aI:=(xG (O7 cL))
abbrev ai3:Type:=Bool
def d144:Td 0 ai3:= .c [] [2] (.r 0 0 (ec 2 qb en) sn (fun z=>z.1.1) (fun x=>((x,()),(()))) fun _=>rfl)
theorem aaw:∀f∈([145]:List Nat),aV (ajX) f:=(ax (dM (ju aY)) aC)
def qZ(a0:aD):Option ai3:=
 bif dI a0 then some (true)else match bif bif ig a0.aa then false else true then some (true)else bif bif ig a0.af then false else true then some (true)else some (decide (a0.af<a0.aa))with|none=>none|some r1=>bif r1 then some (false)else bif decide (a0.aa=a0.af)then some (decide (a0.ag=0))else match bif decide (1<=a0.ag)then if¬a0.ag=(0:Int)then some (decide ((i64.wrap (a0.af-a0.aa)).tmod a0.ag=0))else none else some (false)with|none=>none|some r2=>some (r2)
def F1:aI->aI:=eL Tryz.prog 144 false (lc (qg 34) ln) d144 (fun g=>qZ g.1)
theorem je:EO F1:=fun h=>kL (F:=ajX) (an:=(.two .no (.two .no (.two (.two (.rb [145] 21) .no) (.two .no (.two (.rb [145] 2) .no)))))) (l:=[(.skip,(.rb [145] 21)),(.skip,(.rb [145] 2))]) Tryz.func144 (gU (wH aK)) (ax aaw (ax aaw aC)) h
theorem ep:EP F1:=fun h=>kP h
abbrev ajp:Type:=aD
def d149:Td 0 ajp:= .c [] [2] (.r 0 1 (ec 2 (qp 0 0) en) (sb 0 34 (lg 34) sn) (fun z=>z.2.1) (fun x=>(((),()),(x,()))) fun _=>rfl)
def fu(a0:Int):ajp:=
 aD.mk a0 a0 (0)
def UB:aI->aI:=eL Tryz.prog 149 false (lc (qi .i64) ln) d149 (fun g=>some (fu g.1))
theorem oX:EO UB:=fun h=>kL (an:= .no) Tryz.func149 aK aC h
theorem NR:EP UB:=fun h=>kP h
abbrev akh:Type:=aD
def d225:Td 0 akh:= .c [] [6] (.r 0 1 (ec 6 (qp 0 0) en) (sb 0 34 (lg 34) sn) (fun z=>z.2.1) (fun x=>(((),()),(x,()))) fun _=>rfl)
def k9(a0:Int)(a1:Int)(a2:Int):Option akh:=
 bif decide (a1<a0)then some (gF)else bif decide (a2=0)then some (fu a0)else if¬a2=(0:Int)then bif decide (a0=i64.wrap (a0+i64.wrap (i64.wrap ((i64.wrap (a1-a0)).tdiv a2)*a2)))then some (fu a0)else some (aD.mk a0 (i64.wrap (a0+i64.wrap (i64.wrap ((i64.wrap (a1-a0)).tdiv a2)*a2))) a2)else none
def Ot:aI->aI:=eL Tryz.prog 225 false (lc (qi .i64) (lc (qi .i64) (lc (qi .i64) ln))) d225 (fun g=>k9 g.1 g.2.1 g.2.2.1)
theorem sO:EO Ot:=fun h=>kL (an:= .no) Tryz.func225 (iF (oX aK)) aC h
theorem jr:EP Ot:=fun h=>kP h
def alX:aI:=(Ot (F7 (xG cL)))
abbrev al9:Type:=aD×aD
def d146:Td 0 al9:= .c [] [4,5] (.r 0 2 (ec 4 (qp 0 0) (ec 5 (qp 1 0) en)) (sb 0 34 (lg 34) (sb 1 34 (lg 34) sn)) (fun z=>(z.2.1,z.2.2.1)) (fun x=>(((),(),()),(x.1,x.2,()))) fun _=>rfl)
theorem amr:∀f∈([147]:List Nat),aV (alX) f:=(ax (jr (jt (dM aY))) aC)
def vP(a0:aD)(a1:Int):Option al9:=
 match bif dI a0 then some (true)else some (decide (a1<a0.aa))with|none=>none|some r1=>bif r1 then some ((gF,a0))else bif decide (a0.af<=a1)then some ((a0,gF))else match k9 a0.aa a1 a0.ag with|none=>none|some r2=>match k9 (i64.wrap (r2.af+a0.ag)) a0.af a0.ag with|none=>none|some r3=>some ((r2,r3))
def Xz:aI->aI:=eL Tryz.prog 146 false (lc (qg 34) (lc (qi .i64) ln)) d146 (fun g=>vP g.1 g.2.1)
theorem DI:EO Xz:=fun h=>kL (F:=alX) (an:=(.two .no (.two (.two (.rb [147] 7) .no) .no))) (l:=[(.skip,(.rb [147] 7))]) Tryz.func146 (sO (iF (gU aK))) (ax amr aC) h
theorem Oo:EP Xz:=fun h=>kP h
structure iS where
 (t3 t5:Int)
 t6:List Int
 (t7 t8:Int)
def Hl:Td 0 iS:= .c [] [3,5,6,7,8] (.r 0 0 (ec 3 (qi .i64) (ec 5 (qi .i64) (ec 6 (ql 3) (ec 7 (qi .i64) (ec 8 (qi .i64) en))))) sn (fun z=>⟨z.1.1,z.1.2.1,z.1.2.2.1,z.1.2.2.2.1,z.1.2.2.2.2.1⟩) (fun x=>((x.t3,x.t5,x.t6,x.t7,x.t8,()),(()))) fun _=>rfl)
def rP(p:iS):Option (Option iS):=
 bif bif decide (p.t5=0)then false else true then if¬p.t5=(0:Int)then some (some (iS.mk p.t5 (p.t3.tmod p.t5) p.t6 p.t7 p.t8))else none else some (none)
def tU:iS->Option iS:=bt (rP)
structure lU where
 t3:Int
 t6:List Int
 (t7 t8:Int)
def IQ:Td 0 lU:= .c [] [3,6,7,8] (.r 0 0 (ec 3 (qi .i64) (ec 6 (ql 3) (ec 7 (qi .i64) (ec 8 (qi .i64) en)))) sn (fun z=>⟨z.1.1,z.1.2.1,z.1.2.2.1,z.1.2.2.2.1⟩) (fun x=>((x.t3,x.t6,x.t7,x.t8,()),(()))) fun _=>rfl)
def rK(p:lU):Option (Option lU):=
 bif decide (p.t8<p.t7)then if(0:Int)<=p.t8/\p.t8<(↑p.t6.length:Int)then match tU (iS.mk p.t3 p.t6[p.t8.toNat]! p.t6 p.t7 p.t8)with|none=>none|some r1=>bif bif decide (r1.t5=0)then false else true then if¬r1.t5=(0:Int)then none else none else some (some (lU.mk r1.t3 r1.t6 r1.t7 (i64.wrap (r1.t8+1))))else none else some (none)
def Rg:An:=(.two .no (.two .no (.two (.two .no (Hl.lp tU .no)) .no)))
def yM:lU->Option lU:=bt (rK)
abbrev ajm:Type:=Int
def d226:Td 0 ajm:= .c [] [2] (.r 0 0 (ec 2 (qi .i64) en) sn (fun z=>z.1.1) (fun x=>((x,()),(()))) fun _=>rfl)
def vS(a0:List Int):Option ajm:=
 match yM (lU.mk (0) a0 (↑a0.length:Int) (0))with|none=>none|some r2=>bif decide (r2.t8<r2.t7)then if(0:Int)<=r2.t8/\r2.t8<(↑r2.t6.length:Int)then match tU (iS.mk r2.t3 r2.t6[r2.t8.toNat]! r2.t6 r2.t7 r2.t8)with|none=>none|some r3=>bif bif decide (r3.t5=0)then false else true then if¬r3.t5=(0:Int)then none else none else none else none else some (r2.t3)
def Ta:aI->aI:=eL Tryz.prog 226 false (lc (ql 3) ln) d226 (fun g=>vS g.1)
theorem wP:EO Ta:=fun h=>kL (an:=(.two .no (.two .no (.two (.two .no (IQ.lp yM Rg)) .no)))) (l:=[(aS Tryz.f226 0,(IQ.lp yM Rg)),(aS Tryz.f226 1,(Hl.lp tU .no))]) Tryz.func226 aK (ax (aO IQ) (ax (aO Hl) aC)) h
theorem lq:EP Ta:=fun h=>kP h
def ao2:aI:=cL
abbrev ag3:Type:=Int
def d227:Td 0 ag3:= .c [] [2] (.r 0 0 (ec 2 (qi .i64) en) sn (fun z=>z.1.1) (fun x=>((x,()),(()))) fun _=>rfl)
def amc:=(lc (qi .i64) ln)
def aaF:An:= .no
def gZ(a0:Int):ag3:=
 if a0<i64.wrap (0-a0)then i64.wrap (0-a0)else a0
theorem apz(a0:Int):bK Tryz.prog (ao2) 300 (aaF) 227 (amc.c (a0,())) [] 0 d227.rd=some (gZ a0):=by
 refine Eq.trans (b:=(
  some (if a0<i64.wrap (0-a0)then i64.wrap (0-a0)else a0):Option ag3)) (by kernel_rfl) ?_
 simp only[gZ,bX,cn]
def Tm:aI->aI:=eL Tryz.prog 227 false amc d227 (fun g=>some (gZ g.1))
theorem wo:EO Tm:=fun h=>kL (an:=aaF) Tryz.func227 aK aC h (c:=fun g=>apz g.1)
theorem AD:EP Tm:=fun h=>kP h
def amB:aI:=(Tm (Ta (Ot (xG cL))))
abbrev anb:Type:=aD
def d148:Td 0 anb:= .c [] [4] (.r 0 1 (ec 4 (qp 0 0) en) (sb 0 34 (lg 34) sn) (fun z=>z.2.1) (fun x=>(((),()),(x,()))) fun _=>rfl)
theorem aim:∀f∈([147]:List Nat),aV (amB) f:=(ax (AD (lq (jr (dM aY)))) aC)
def jY(a0:aD)(a1:aD):Option anb:=
 bif dI a0 then some (a1)else match bif dI a1 then some (true)else some (bif decide (a0.aa=a1.aa)then bif decide (a0.af=a1.af)then bif decide (a0.ag=a1.ag)then true else false else false else false)with|none=>none|some r1=>bif r1 then some (a0)else match vS [a0.ag,a1.ag,gZ (i64.wrap (a0.aa-a1.aa))]with|none=>none|some r2=>match k9 (if a1.aa<a0.aa then a1.aa else a0.aa) (if a0.af<a1.af then a1.af else a0.af) r2 with|none=>none|some r3=>some (r3)
def Sd:aI->aI:=eL Tryz.prog 148 false (lc (qg 34) (lc (qg 34) ln)) d148 (fun g=>jY g.1 g.2.1)
theorem pI:EO Sd:=fun h=>kL (F:=amB) (an:=(.two .no (.two .no (.two (.two (.rb [147] 14) .no) .no)))) (l:=[(.skip,(.rb [147] 14))]) Tryz.func148 (wo (wP (sO (gU aK)))) (ax aim aC) h
theorem Ae:EP Sd:=fun h=>kP h
def F81:aI:=(UB (Sd (xG (Xz (O7 (F1 cL))))))
abbrev E81:Type:=aD×Int
def d81:Td 0 E81:= .c [] [6,7] (.r 0 1 (ec 6 (qp 0 0) (ec 7 (qi .i64) en)) (sb 0 34 (lg 34) sn) (fun z=>(z.2.1,z.1.2.1)) (fun x=>(((),x.2,()),(x.1,()))) fun _=>rfl)
theorem aqD:∀f∈([145]:List Nat),aV (F81) f:=(ax (NR (Ae (dM (Oo (ju (ep aY)))))) aC)
def TH(a0:aD)(a1:Int)(a2:Int):Option E81:=
 match qZ a0 with|none=>none|some r1=>bif bif r1 then false else true then some ((aD.mk (0) (0) (0),1))else match bif decide (a2<a1)then some (true)else bif bif ig a1 then false else true then some (true)else some (bif ig a2 then false else true)with|none=>none|some r2=>bif r2 then some ((aD.mk (0) (0) (0),3))else match vP a0 (i64.wrap (a1-1))with|none=>none|some r3=>match vP r3.snd a2 with|none=>none|some r4=>bif bif dI r3.fst then false else true then match jY r4.fst (fu a1)with|none=>none|some r5=>bif bif dI r4.snd then false else true then match jY r5 (fu a2)with|none=>none|some r6=>some ((r6,0))else some ((r5,0))else bif bif dI r4.snd then false else true then match jY r4.fst (fu a2)with|none=>none|some r7=>some ((r7,0))else some ((r4.fst,0))
def e81:aI->aI:=eL Tryz.prog 81 false (lc (qg 34) (lc (qi .i64) (lc (qi .i64) ln))) d81 (fun g=>TH g.1 g.2.1 g.2.2.1)
theorem H9:EO e81:=fun h=>kL (F:=F81) (an:=(.two .no (.two .no (.two (.two (.rb [145] 28) .no) .no)))) (l:=[(.skip,(.rb [145] 28))]) Tryz.func81 (oX (pI (gU (DI (wH (je aK)))))) (ax aqD aC) h
def amL:aI:=(xG cL)
abbrev aiU:Type:=Bool
def d177:Td 0 aiU:= .c [] [4] (.r 0 0 (ec 4 qb en) sn (fun z=>z.1.1) (fun x=>((x,()),(()))) fun _=>rfl)
theorem ach:∀f∈([147]:List Nat),aV (amL) f:=(ax (dM aY) aC)
def Nt(a0:aD)(a1:Int):Option aiU:=
 match bif dI a0 then some (true)else bif decide (a1<a0.aa)then some (true)else some (decide (a0.af<a1))with|none=>none|some r1=>bif r1 then some (false)else match bif decide (a0.ag=0)then some (true)else if¬a0.ag=(0:Int)then some (decide ((i64.wrap (a1-a0.aa)).tmod a0.ag=0))else none with|none=>none|some r2=>some (r2)
def Vr:aI->aI:=eL Tryz.prog 177 false (lc (qg 34) (lc (qi .i64) ln)) d177 (fun g=>Nt g.1 g.2.1)
theorem Ca:EO Vr:=fun h=>kL (F:=amL) (an:=(.two .no (.two (.two (.rb [147] 18) .no) (.two (.rb [147] 4) .no)))) (l:=[(.skip,(.rb [147] 18)),(.skip,(.rb [147] 4))]) Tryz.func177 (gU aK) (ax ach (ax ach aC)) h
theorem uY:EP Vr:=fun h=>kP h
def F92:aI:=(Vr (F1 cL))
abbrev E92:Type:=Bool
def d92:Td 0 E92:= .c [] [4] (.r 0 0 (ec 4 qb en) sn (fun z=>z.1.1) (fun x=>((x,()),(()))) fun _=>rfl)
theorem aoq:∀f∈([144,177]:List Nat),aV (F92) f:=(ax (uY (ep aY)) (ax (uY (ep aY)) aC))
def m92(a0:aD)(a1:Int):Option E92:=
 match match qZ a0 with|none=>none|some r1=>bif r1 then match Nt a0 a1 with|none=>none|some r2=>some (r2)else some (false)with|none=>none|some r3=>some (r3)
def e92:aI->aI:=eL Tryz.prog 92 false (lc (qg 34) (lc (qi .i64) ln)) d92 (fun g=>m92 g.1 g.2.1)
theorem Jq:EO e92:=fun h=>kL (F:=F92) (an:=(.two .no (.two (.rb [144,177] 4) .no))) (l:=[(.skip,(.rb [144,177] 4))]) Tryz.func92 (Ca (je aK)) (ax aoq aC) h
abbrev alN:Type:=Int
def d176:Td 0 alN:= .c [] [2] (.r 0 0 (ec 2 (qi .i64) en) sn (fun z=>z.1.1) (fun x=>((x,()),(()))) fun _=>rfl)
def tW(a0:aD):Option alN:=
 bif dI a0 then some (0)else bif decide (a0.ag=0)then some (1)else if¬a0.ag=(0:Int)then some (i64.wrap (i64.wrap ((i64.wrap (a0.af-a0.aa)).tdiv a0.ag)+1))else none
def aef:aI->aI:=eL Tryz.prog 176 false (lc (qg 34) ln) d176 (fun g=>tW g.1)
theorem tE:EO aef:=fun h=>kL (an:= .no) Tryz.func176 (gU aK) aC h
theorem NT:EP aef:=fun h=>kP h
abbrev aia:Type:=Bool×Bool
def d228:Td 0 aia:= .c [] [2,3] (.r 0 0 (ec 2 qb (ec 3 qb en)) sn (fun z=>(z.1.1,z.1.2.1)) (fun x=>((x.1,x.2,()),(()))) fun _=>rfl)
def HC(a0:aD):Option aia:=
 match Nt a0 (0)with|none=>none|some r1=>match tW a0 with|none=>none|some r2=>bif decide (1<r2)then some ((r1,true))else match tW a0 with|none=>none|some r3=>bif decide (r3=1)then some ((r1,bif decide (a0.aa=0)then false else true))else some ((r1,false))
def VA:aI->aI:=eL Tryz.prog 228 false (lc (qg 34) ln) d228 (fun g=>HC g.1)
theorem Da:EO VA:=fun h=>kL (an:= .no) Tryz.func228 (Ca (tE aK)) aC h
theorem Ar:EP VA:=fun h=>kP h
abbrev alv:Type:=Bool×Bool
def d151:Td 0 alv:= .c [] [2,3] (.r 0 0 (ec 2 qb (ec 3 qb en)) sn (fun z=>(z.1.1,z.1.2.1)) (fun x=>((x.1,x.2,()),(()))) fun _=>rfl)
def HE(a0:aD):Option alv:=
 match qZ a0 with|none=>none|some r1=>bif bif r1 then false else true then some ((false,false))else match HC a0 with|none=>none|some r2=>some (r2)
def Vd:aI->aI:=eL Tryz.prog 151 false (lc (qg 34) ln) d151 (fun g=>HE g.1)
theorem CI:EO Vd:=fun h=>kL (an:= .no) Tryz.func151 (Da (je aK)) aC h
def aiA:aI:=(Sd (F1 cL))
abbrev alK:Type:=aD×Int
def d229:Td 0 alK:= .c [] [4,5] (.r 0 1 (ec 4 (qp 0 0) (ec 5 (qi .i64) en)) (sb 0 34 (lg 34) sn) (fun z=>(z.2.1,z.1.2.1)) (fun x=>(((),x.2,()),(x.1,()))) fun _=>rfl)
theorem al6:∀f∈([144]:List Nat),aV (aiA) f:=(ax (Ae (ep aY)) aC)
def Xd(a0:aD)(a1:aD):Option alK:=
 match match qZ a0 with|none=>none|some r1=>bif bif r1 then false else true then some (true)else match qZ a1 with|none=>none|some r2=>some (bif r2 then false else true)with|none=>none|some r3=>bif r3 then some ((aD.mk (0) (0) (0),1))else match jY a0 a1 with|none=>none|some r4=>some ((r4,0))
def anW:aI->aI:=eL Tryz.prog 229 false (lc (qg 34) (lc (qg 34) ln)) d229 (fun g=>Xd g.1 g.2.1)
theorem Vx:EO anW:=fun h=>kL (F:=aiA) (an:=(.two .no (.two (.two (.rb [144] 13) .no) .no))) (l:=[(.skip,(.rb [144] 13))]) Tryz.func229 (pI (je aK)) (ax al6 aC) h
abbrev ahZ:Type:=aD
def d152:Td 0 ahZ:= .c [] [4] (.r 0 1 (ec 4 (qp 0 0) en) (sb 0 34 (lg 34) sn) (fun z=>z.2.1) (fun x=>(((),()),(x,()))) fun _=>rfl)
def sH(a0:aD)(a1:aD):Option ahZ:=
 bif bif decide (a0.aa=a1.aa)then bif decide (a0.af=a1.af)then bif decide (a0.ag=a1.ag)then true else false else false else false then some (a0)else match Xd a0 a1 with|none=>none|some r1=>some (r1.fst)
def amk:aI->aI:=eL Tryz.prog 152 false (lc (qg 34) (lc (qg 34) ln)) d152 (fun g=>sH g.1 g.2.1)
theorem Bu:EO amk:=fun h=>kL (an:= .no) Tryz.func152 (Vx aK) aC h
def ak8:aI:=(F7 cL)
abbrev akc:Type:=aD
def d153:Td 0 akc:= .c [] [0] (.r 0 1 (ec 0 (qp 0 0) en) (sb 0 34 (lg 34) sn) (fun z=>z.2.1) (fun x=>(((),()),(x,()))) fun _=>rfl)
def ajT:=ln
def abR:An:= .no
def VZ:akc:=
 gF
theorem aqu:bK Tryz.prog (ak8) 300 (abR) 153 (ajT.c ()) [] 0 d153.rd=some (VZ):=by kernel_rfl
def akP:aI->aI:=eL Tryz.prog 153 false ajT d153 (fun _=>some (VZ))
theorem Wb:EO akP:=fun h=>kL (F:=ak8) (an:=abR) Tryz.func153 (iF aK) aC h (c:=fun _=>aqu)
abbrev alO:Type:=aD
def d230:Td 0 alO:= .c [] [4] (.r 0 1 (ec 4 (qp 0 0) en) (sb 0 34 (lg 34) sn) (fun z=>z.2.1) (fun x=>(((),()),(x,()))) fun _=>rfl)
def mZ(a0:Bool)(a1:Bool):Option alO:=
 bif a0 then match jY gF (fu (0))with|none=>none|some r1=>bif a1 then match jY r1 (fu (1))with|none=>none|some r2=>some (r2)else some (r1)else bif a1 then match jY gF (fu (1))with|none=>none|some r3=>some (r3)else some (gF)
def Y2:aI->aI:=eL Tryz.prog 230 false (lc qb (lc qb ln)) d230 (fun g=>mZ g.1 g.2.1)
theorem MQ:EO Y2:=fun h=>kL (an:= .no) Tryz.func230 (iF (oX (pI aK))) aC h
theorem zV:EP Y2:=fun h=>kP h
def aib:aI:=(Y2 (VA (xG (F1 cL))))
abbrev aif:Type:=aD×Int
def d154:Td 0 aif:= .c [] [4,5] (.r 0 1 (ec 4 (qp 0 0) (ec 5 (qi .i64) en)) (sb 0 34 (lg 34) sn) (fun z=>(z.2.1,z.1.2.1)) (fun x=>(((),x.2,()),(x.1,()))) fun _=>rfl)
theorem amz:∀f∈([144]:List Nat),aV (aib) f:=(ax (zV (Ar (dM (ep aY)))) aC)
def TL(a0:Int)(a1:aD):Option aif:=
 match match qZ a1 with|none=>none|some r1=>bif bif r1 then false else true then some (true)else bif bif decide (a0=6)then false else true then some (bif decide (a0=7)then false else true)else some (false)with|none=>none|some r2=>bif r2 then some ((aD.mk (0) (0) (0),1))else bif dI a1 then some ((a1,0))else bif decide (a0=7)then match HC a1 with|none=>none|some r3=>match mZ r3.snd r3.fst with|none=>none|some r4=>some ((r4,0))else some ((aD.mk (i64.wrap (0-a1.af)) (i64.wrap (0-a1.aa)) a1.ag,0))
def amt:aI->aI:=eL Tryz.prog 154 false (lc (qi .i64) (lc (qg 34) ln)) d154 (fun g=>TL g.1 g.2.1)
theorem Xu:EO amt:=fun h=>kL (F:=aib) (an:=(.two .no (.two (.two (.rb [144] 18) .no) .no))) (l:=[(.skip,(.rb [144] 18))]) Tryz.func154 (MQ (Da (gU (je aK)))) (ax amz aC) h
def apV:aI:=cL
abbrev acQ:Type:=Bool
def d231:Td 0 acQ:= .c [] [2] (.r 0 0 (ec 2 qb en) sn (fun z=>z.1.1) (fun x=>((x,()),(()))) fun _=>rfl)
def ahC:=(lc (qi .i64) ln)
def abh:An:= .no
def vO(a0:Int):acQ:=
 bif decide (a0=8)then true else bif decide (a0=9)then true else bif decide (a0=10)then true else bif decide (a0=11)then true else bif decide (a0=12)then true else bif decide (a0=13)then true else bif decide (a0=14)then true else bif decide (a0=15)then true else bif decide (a0=16)then true else bif decide (a0=17)then true else bif decide (a0=18)then true else bif decide (a0=19)then true else bif decide (a0=20)then true else bif decide (a0=21)then true else bif decide (a0=22)then true else false
theorem ap4(a0:Int):bK Tryz.prog (apV) 300 (abh) 231 (ahC.c (a0,())) [] 0 d231.rd=some (vO a0):=by
 refine Eq.trans (b:=(
  bif decide (a0=8)then some (true)else bif decide (a0=9)then some (true)else bif decide (a0=10)then some (true)else bif decide (a0=11)then some (true)else bif decide (a0=12)then some (true)else bif decide (a0=13)then some (true)else bif decide (a0=14)then some (true)else bif decide (a0=15)then some (true)else bif decide (a0=16)then some (true)else bif decide (a0=17)then some (true)else bif decide (a0=18)then some (true)else bif decide (a0=19)then some (true)else bif decide (a0=20)then some (true)else bif decide (a0=21)then some (true)else bif decide (a0=22)then some (true)else some (false):Option acQ)) (by kernel_rfl) ?_
 simp only[vO,bX,cn]
def ae4:aI->aI:=eL Tryz.prog 231 false ahC d231 (fun g=>some (vO g.1))
theorem Zg:EO ae4:=fun h=>kL (an:=abh) Tryz.func231 aK aC h (c:=fun g=>ap4 g.1)
theorem o7:EP ae4:=fun h=>kP h
def ah1:aI:=(Tm cL)
abbrev akA:Type:=Int×Bool
def d274:Td 0 akA:= .c [] [4,5] (.r 0 0 (ec 4 (qi .i64) (ec 5 qb en)) sn (fun z=>(z.1.1,z.1.2.1)) (fun x=>((x.1,x.2,()),(()))) fun _=>rfl)
theorem ajM:∀f∈([227]:List Nat),aV (ah1) f:=(ax (AD aY) aC)
def J2(a0:Int)(a1:Int):Option akA:=
 match bif bif decide (a0=0)then false else true then if¬gZ a0=(0:Int)then some (decide (i64.wrap ((1099511627776:Int).tdiv (gZ a0))<gZ a1))else none else some (false)with|none=>none|some r1=>bif r1 then some ((0,false))else some ((i64.wrap (a0*a1),true))
def aq4:aI->aI:=eL Tryz.prog 274 false (lc (qi .i64) (lc (qi .i64) ln)) d274 (fun g=>J2 g.1 g.2.1)
theorem aal:EO aq4:=fun h=>kL (F:=ah1) (an:=(.two .no (.two (.two (.rb [227] 15) .no) .no))) (l:=[(.skip,(.rb [227] 15))]) Tryz.func274 (wo aK) (ax ajM aC) h
structure mq where
 t0:List Int
 (t3 t4:Int)
def Jv:Td 0 mq:= .c [] [0,3,4] (.r 0 0 (ec 0 (ql 3) (ec 3 (qi .i64) (ec 4 (qi .i64) en))) sn (fun z=>⟨z.1.1,z.1.2.1,z.1.2.2.1⟩) (fun x=>((x.t0,x.t3,x.t4,()),(()))) fun _=>rfl)
def zA(p:mq):Option (Option mq):=
 bif decide (p.t4<(↑p.t0.length:Int))then if(0:Int)<=p.t4/\p.t4<(↑p.t0.length:Int)then some (some (mq.mk p.t0 (if((p.t0,p.t3,p.t4,()),()).fst.fst[((p.t0,p.t3,p.t4,()),()).fst.snd.snd.fst.toNat]! <((p.t0,p.t3,p.t4,()),()).fst.snd.fst then p.t0[p.t4.toNat]! else p.t3) (i64.wrap (p.t4+1))))else none else some (none)
def CC:mq->Option mq:=bt (zA)
abbrev ahJ:Type:=Int
def d275:Td 0 ahJ:= .c [] [2] (.r 0 0 (ec 2 (qi .i64) en) sn (fun z=>z.1.1) (fun x=>((x,()),(()))) fun _=>rfl)
def Wl(a0:List Int):Option ahJ:=
 bif decide ((↑a0.length:Int)<1)then none else if(0:Int)<=(0:Int)/\(0:Int)<(↑a0.length:Int)then match CC (mq.mk a0 a0[0]! (1))with|none=>none|some r1=>bif decide (r1.t4<(↑r1.t0.length:Int))then if(0:Int)<=r1.t4/\r1.t4<(↑r1.t0.length:Int)then none else none else some (r1.t3)else none
def apf:aI->aI:=eL Tryz.prog 275 false (lc (ql 3) ln) d275 (fun g=>Wl g.1)
theorem Vg:EO apf:=fun h=>kL (an:=(.two .no (.two .no (.two .no (.two (.two .no (Jv.lp CC .no)) .no))))) (l:=[(aS Tryz.f275 0,(Jv.lp CC .no))]) Tryz.func275 aK (ax (aO Jv) aC) h
structure me where
 t0:List Int
 (t3 t4:Int)
def Jm:Td 0 me:= .c [] [0,3,4] (.r 0 0 (ec 0 (ql 3) (ec 3 (qi .i64) (ec 4 (qi .i64) en))) sn (fun z=>⟨z.1.1,z.1.2.1,z.1.2.2.1⟩) (fun x=>((x.t0,x.t3,x.t4,()),(()))) fun _=>rfl)
def xI(p:me):Option (Option me):=
 bif decide (p.t4<(↑p.t0.length:Int))then if(0:Int)<=p.t4/\p.t4<(↑p.t0.length:Int)then some (some (me.mk p.t0 (if((p.t0,p.t3,p.t4,()),()).fst.snd.fst<((p.t0,p.t3,p.t4,()),()).fst.fst[((p.t0,p.t3,p.t4,()),()).fst.snd.snd.fst.toNat]! then p.t0[p.t4.toNat]! else p.t3) (i64.wrap (p.t4+1))))else none else some (none)
def Df:me->Option me:=bt (xI)
abbrev amR:Type:=Int
def d276:Td 0 amR:= .c [] [2] (.r 0 0 (ec 2 (qi .i64) en) sn (fun z=>z.1.1) (fun x=>((x,()),(()))) fun _=>rfl)
def Vv(a0:List Int):Option amR:=
 bif decide ((↑a0.length:Int)<1)then none else if(0:Int)<=(0:Int)/\(0:Int)<(↑a0.length:Int)then match Df (me.mk a0 a0[0]! (1))with|none=>none|some r1=>bif decide (r1.t4<(↑r1.t0.length:Int))then if(0:Int)<=r1.t4/\r1.t4<(↑r1.t0.length:Int)then none else none else some (r1.t3)else none
def aoJ:aI->aI:=eL Tryz.prog 276 false (lc (ql 3) ln) d276 (fun g=>Vv g.1)
theorem Uq:EO aoJ:=fun h=>kL (an:=(.two .no (.two .no (.two .no (.two (.two .no (Jm.lp Df .no)) .no))))) (l:=[(aS Tryz.f276 0,(Jm.lp Df .no))]) Tryz.func276 aK (ax (aO Jm) aC) h
abbrev ajD:Type:=aD×Int
def d232:Td 0 ajD:= .c [] [4,5] (.r 0 1 (ec 4 (qp 0 0) (ec 5 (qi .i64) en)) (sb 0 34 (lg 34) sn) (fun z=>(z.2.1,z.1.2.1)) (fun x=>(((),x.2,()),(x.1,()))) fun _=>rfl)
def Nr(a0:aD)(a1:aD):Option ajD:=
 match J2 a0.aa a1.aa with|none=>none|some r1=>bif bif r1.snd then false else true then some ((aD.mk (0) (0) (0),3))else match J2 a0.aa a1.af with|none=>none|some r2=>bif bif r2.snd then false else true then some ((aD.mk (0) (0) (0),3))else match J2 a0.af a1.aa with|none=>none|some r3=>bif bif r3.snd then false else true then some ((aD.mk (0) (0) (0),3))else match J2 a0.af a1.af with|none=>none|some r4=>bif bif r4.snd then false else true then some ((aD.mk (0) (0) (0),3))else match vS [i64.wrap (a0.ag*gZ a1.aa),i64.wrap (a1.ag*gZ a0.aa),i64.wrap (a0.ag*a1.ag)]with|none=>none|some r5=>match Wl ([r1.fst]++[r2.fst]++[r3.fst]++[r4.fst])with|none=>none|some r6=>match Vv ([r1.fst]++[r2.fst]++[r3.fst]++[r4.fst])with|none=>none|some r7=>match k9 r6 r7 r5 with|none=>none|some r8=>some ((r8,0))
def ac6:aI->aI:=eL Tryz.prog 232 false (lc (qg 34) (lc (qg 34) ln)) d232 (fun g=>Nr g.1 g.2.1)
theorem Y7:EO ac6:=fun h=>kL (an:= .no) Tryz.func232 (Uq (Vg (aal (wo (wP (sO aK)))))) aC h
theorem oY:EP ac6:=fun h=>kP h
def ahR:aI:=(Tm (Ot (Sd (Xz cL))))
abbrev amK:Type:=aD
def d277:Td 0 amK:= .c [] [6] (.r 0 1 (ec 6 (qp 0 0) en) (sb 0 34 (lg 34) sn) (fun z=>z.2.1) (fun x=>(((),()),(x,()))) fun _=>rfl)
theorem ajk:∀f∈([]:List Nat),aV (ahR) f:=aC
def M7(a0:Int)(a1:aD)(a2:aD):Option amK:=
 bif decide (a0=11)then match bif decide (0<=a1.aa)then some (decide (0<=a2.aa))else some (false)with|none=>none|some r1=>bif r1 then match k9 (0) (if gZ a1.aa<gZ a1.af then gZ a1.af else gZ a1.aa) (1)with|none=>none|some r2=>some (r2)else match k9 (i64.wrap (0-if gZ a1.aa<gZ a1.af then gZ a1.af else gZ a1.aa)) (if gZ a1.aa<gZ a1.af then gZ a1.af else gZ a1.aa) (1)with|none=>none|some r3=>some (r3)else bif decide (a0=12)then match k9 (if 0<i64.wrap (a2.aa+1)then 0 else i64.wrap (a2.aa+1)) (if i64.wrap (a2.af-1)<0 then 0 else i64.wrap (a2.af-1)) (1)with|none=>none|some r4=>some (r4)else bif decide (a0=21)then match jY a1 a2 with|none=>none|some r5=>match vP r5 (if a2.af<a1.af then a2.af else a1.af)with|none=>none|some r6=>some (r6.fst)else match jY a1 a2 with|none=>none|some r7=>match vP r7 (i64.wrap ((if a1.aa<a2.aa then a2.aa else a1.aa)-1))with|none=>none|some r8=>some (r8.snd)
def aqT:aI->aI:=eL Tryz.prog 277 false (lc (qi .i64) (lc (qg 34) (lc (qg 34) ln))) d277 (fun g=>M7 g.1 g.2.1 g.2.2.1)
theorem Um:EO aqT:=fun h=>kL (F:=ahR) (an:=(.two .no (.two (.two .no (.two .no (.two (.two .no (.two (.two (.rb [] 29) .no) .no)) .no))) .no))) (l:=[(.skip,(.rb [] 29))]) Tryz.func277 (wo (sO (pI (DI aK)))) (ax ajk aC) h
structure iW where
 t3:List Int
 (t6 t7:Int)
 b0:aD
def J5:Td 0 iW:= .c [] [1,3,6,7] (.t (cl.s 3 [] 3) (.c [] [1,3,6,7] (.r 0 2 (ec 1 (qp 0 0) (ec 3 (qo 1) (ec 6 (qi .i64) (ec 7 (qi .i64) en)))) (sb 0 34 (lg 34) (sr 1 3 sn)) (fun z=>⟨z.2.2.1,z.1.2.2.1,z.1.2.2.2.1,z.2.1⟩) (fun x=>(((),(),x.t6,x.t7,()),(x.b0,x.t3,()))) fun _=>rfl)))
def qO(p:iW):Option (Option iW):=
 bif decide (p.t7<p.t6)then if(p.t3++[i64.wrap (p.b0.aa+i64.wrap (p.t7*p.b0.ag))]).length<=1073741824 then some (some (iW.mk (p.t3++[i64.wrap (p.b0.aa+i64.wrap (p.t7*p.b0.ag))]) p.t6 (i64.wrap (p.t7+1)) p.b0))else none else some (none)
def BC:iW->Option iW:=bt (qO)
abbrev ai6:Type:=List Int
def d278:Td 0 ai6:= .c [] [2] (.r 0 1 (ec 2 (qo 0) en) (sr 0 3 sn) (fun z=>z.2.1) (fun x=>(((),()),(x,()))) fun _=>rfl)
def NH(a0:aD):Option ai6:=
 match tW a0 with|none=>none|some r1=>match BC (iW.mk [] r1 (0) a0)with|none=>none|some r2=>bif decide (r2.t7<r2.t6)then if(r2.t3++[i64.wrap (r2.b0.aa+i64.wrap (r2.t7*r2.b0.ag))]).length<=1073741824 then none else none else some (r2.t3)
def aqq:aI->aI:=eL Tryz.prog 278 false (lc (qg 34) ln) d278 (fun g=>NH g.1)
theorem X7:EO aqq:=fun h=>kL (an:=(.two .no (.two .no (.two (.two .no (J5.lp BC .no)) .no)))) (l:=[(aS Tryz.f278 0,(J5.lp BC .no))]) Tryz.func278 (tE aK) (ax (aO J5) aC) h
def ahT:aI:=cL
abbrev akQ:Type:=Int
def d315:Td 0 akQ:= .c [] [4] (.r 0 0 (ec 4 (qi .i64) en) sn (fun z=>z.1.1) (fun x=>((x,()),(()))) fun _=>rfl)
theorem aml:∀f∈([]:List Nat),aV (ahT) f:=aC
def RJ(a0:Int)(a1:Int):Option akQ:=
 bif decide (a1=0)then some (0)else if¬a1=(0:Int)then match if¬a1=(0:Int)then bif bif decide (a0.tmod a1=0)then false else true then some (bif decide (a0<0)==decide (a1<0)then false else true)else some (false)else none with|none=>none|some r1=>bif r1 then some (i64.wrap (i64.wrap (a0.tdiv a1)-1))else some (i64.wrap (a0.tdiv a1))else none
def apZ:aI->aI:=eL Tryz.prog 315 false (lc (qi .i64) (lc (qi .i64) ln)) d315 (fun g=>RJ g.1 g.2.1)
theorem Vz:EO apZ:=fun h=>kL (F:=ahT) (an:=(.two .no (.two .no (.two .no (.two (.two (.rb [] 21) .no) .no))))) (l:=[(.skip,(.rb [] 21))]) Tryz.func315 aK (ax aml aC) h
abbrev aks:Type:=Int
def d279:Td 0 aks:= .c [] [6] (.r 0 0 (ec 6 (qi .i64) en) sn (fun z=>z.1.1) (fun x=>((x,()),(()))) fun _=>rfl)
def N1(a0:Int)(a1:Int)(a2:Int):Option aks:=
 bif decide (a0=11)then match RJ a1 a2 with|none=>none|some r1=>some (r1)else bif decide (a0=12)then bif decide (a2=0)then some (0)else match RJ a1 a2 with|none=>none|some r2=>some (i64.wrap (a1-i64.wrap (a2*r2)))else bif decide (a0=21)then some (if a2<a1 then a2 else a1)else some (if a1<a2 then a2 else a1)
def aq6:aI->aI:=eL Tryz.prog 279 false (lc (qi .i64) (lc (qi .i64) (lc (qi .i64) ln))) d279 (fun g=>N1 g.1 g.2.1 g.2.2.1)
theorem Yh:EO aq6:=fun h=>kL (an:= .no) Tryz.func279 (Vz aK) aC h
structure jO where
 (t0 t9:Int)
 t34:List Int
 (t35 t36:Int)
 t41:List Int
 (t42 t43:Int)
 (b0 b1 b2:aD)
def Jc:Td 0 jO:= .c [] [0,5,6,7,9,34,35,36,41,42,43] (.r 0 5 (ec 0 (qi .i64) (ec 5 (qp 0 0) (ec 6 (qp 1 0) (ec 7 (qp 2 0) (ec 9 (qi .i64) (ec 34 (qo 3) (ec 35 (qi .i64) (ec 36 (qi .i64) (ec 41 (qo 4) (ec 42 (qi .i64) (ec 43 (qi .i64) en))))))))))) (sb 0 34 (lg 34) (sb 1 34 (lg 34) (sb 2 34 (lg 34) (sr 3 3 (sr 4 3 sn))))) (fun z=>⟨z.1.1,z.1.2.2.2.2.1,z.2.2.2.2.1,z.1.2.2.2.2.2.2.1,z.1.2.2.2.2.2.2.2.1,z.2.2.2.2.2.1,z.1.2.2.2.2.2.2.2.2.2.1,z.1.2.2.2.2.2.2.2.2.2.2.1,z.2.1,z.2.2.1,z.2.2.2.1⟩) (fun x=>((x.t0,(),(),(),x.t9,(),x.t35,x.t36,(),x.t42,x.t43,()),(x.b0,x.b1,x.b2,x.t34,x.t41,()))) fun _=>rfl)
def Ct(p:jO):Option (Option jO):=
 bif decide (p.t43<p.t42)then if(0:Int)<=p.t43/\p.t43<(↑p.t41.length:Int)then if 3=3/\p.t43.toNat<p.t41.length then match N1 p.t0 p.t9 p.t41[p.t43.toNat]! with|none=>none|some r5=>match jY p.b2 (fu r5)with|none=>none|some r6=>some (some (jO.mk p.t0 p.t9 p.t34 p.t35 p.t36 p.t41 p.t42 (i64.wrap (p.t43+1)) p.b0 p.b1 r6))else none else none else some (none)
def yS:jO->Option jO:=bt (Ct)
structure kA where
 t0:Int
 t34:List Int
 (t35 t36:Int)
 (b0 b1 b2:aD)
def IB:Td 0 kA:= .c [] [0,5,6,7,34,35,36] (.r 0 4 (ec 0 (qi .i64) (ec 5 (qp 0 0) (ec 6 (qp 1 0) (ec 7 (qp 2 0) (ec 34 (qo 3) (ec 35 (qi .i64) (ec 36 (qi .i64) en))))))) (sb 0 34 (lg 34) (sb 1 34 (lg 34) (sb 2 34 (lg 34) (sr 3 3 sn)))) (fun z=>⟨z.1.1,z.2.2.2.2.1,z.1.2.2.2.2.2.1,z.1.2.2.2.2.2.2.1,z.2.1,z.2.2.1,z.2.2.2.1⟩) (fun x=>((x.t0,(),(),(),(),x.t35,x.t36,()),(x.b0,x.b1,x.b2,x.t34,()))) fun _=>rfl)
def uI(p:kA):Option (Option kA):=
 bif decide (p.t36<p.t35)then if(0:Int)<=p.t36/\p.t36<(↑p.t34.length:Int)then if 3=3/\p.t36.toNat<p.t34.length then match NH p.b0 with|none=>none|some r1=>match yS (jO.mk p.t0 p.t34[p.t36.toNat]! p.t34 p.t35 p.t36 r1 (↑(List.length r1):Int) (0) p.b0 p.b1 p.b2)with|none=>none|some r2=>bif decide (r2.t43<r2.t42)then if(0:Int)<=r2.t43/\r2.t43<(↑r2.t41.length:Int)then if 3=3/\r2.t43.toNat<r2.t41.length then match N1 r2.t0 r2.t9 r2.t41[r2.t43.toNat]! with|none=>none|some r3=>match jY r2.b2 (fu r3)with|none=>none|some r4=>none else none else none else some (some (kA.mk r2.t0 r2.t34 r2.t35 (i64.wrap (r2.t36+1)) r2.b0 r2.b1 r2.b2))else none else none else some (none)
def Qr:An:=(.two .no (.two .no (.two (.two .no (.two .no (Jc.lp yS .no))) .no)))
def Db:kA->Option kA:=bt (uI)
abbrev ahH:Type:=aD
def d233:Td 0 ahH:= .c [] [6] (.r 0 1 (ec 6 (qp 0 0) en) (sb 0 34 (lg 34) sn) (fun z=>z.2.1) (fun x=>(((),()),(x,()))) fun _=>rfl)
def tK(a0:Int)(a1:aD)(a2:aD):Option ahH:=
 match tW a1 with|none=>none|some r7=>bif decide (4096<r7)then match M7 a0 a1 a2 with|none=>none|some r8=>some (r8)else match tW a2 with|none=>none|some r9=>bif decide (4096<r9)then match M7 a0 a1 a2 with|none=>none|some r10=>some (r10)else match tW a1 with|none=>none|some r11=>match tW a2 with|none=>none|some r12=>bif decide (4096<i64.wrap (r11*r12))then match M7 a0 a1 a2 with|none=>none|some r13=>some (r13)else match NH a1 with|none=>none|some r14=>match Db (kA.mk a0 r14 (↑(List.length r14):Int) (0) a2 (aD.mk (0) (0) (0)) gF)with|none=>none|some r15=>bif decide (r15.t36<r15.t35)then if(0:Int)<=r15.t36/\r15.t36<(↑r15.t34.length:Int)then if 3=3/\r15.t36.toNat<r15.t34.length then match NH r15.b0 with|none=>none|some r16=>match yS (jO.mk r15.t0 r15.t34[r15.t36.toNat]! r15.t34 r15.t35 r15.t36 r16 (↑(List.length r16):Int) (0) r15.b0 r15.b1 r15.b2)with|none=>none|some r17=>bif decide (r17.t43<r17.t42)then if(0:Int)<=r17.t43/\r17.t43<(↑r17.t41.length:Int)then if 3=3/\r17.t43.toNat<r17.t41.length then match N1 r17.t0 r17.t9 r17.t41[r17.t43.toNat]! with|none=>none|some r18=>match jY r17.b2 (fu r18)with|none=>none|some r19=>none else none else none else none else none else none else some (r15.b2)
def ad0:aI->aI:=eL Tryz.prog 233 false (lc (qi .i64) (lc (qg 34) (lc (qg 34) ln))) d233 (fun g=>tK g.1 g.2.1 g.2.2.1)
theorem UT:EO ad0:=fun h=>kL (an:=(.two .no (.two .no (.two .no (.two (.two .no (IB.lp Db Qr)) .no))))) (l:=[(aS Tryz.f233 0,(IB.lp Db Qr)),(aS Tryz.f233 1,(Jc.lp yS .no))]) Tryz.func233 (Yh (X7 (Um (iF (tE (oX (pI aK))))))) (ax (aO IB) (ax (aO Jc) aC)) h
theorem pL:EP ad0:=fun h=>kP h
structure iR where
 (t1 t5 t6 t7 t8:Int)
def Ke:Td 0 iR:= .c [] [1,5,6,7,8] (.r 0 0 (ec 1 (qi .i64) (ec 5 (qi .i64) (ec 6 (qi .i64) (ec 7 (qi .i64) (ec 8 (qi .i64) en))))) sn (fun z=>⟨z.1.1,z.1.2.1,z.1.2.2.1,z.1.2.2.2.1,z.1.2.2.2.2.1⟩) (fun x=>((x.t1,x.t5,x.t6,x.t7,x.t8,()),(()))) fun _=>rfl)
def xP(p:iR):Option (Option iR):=
 bif decide (1<p.t5)then if¬p.t5=(0:Int)then some (some (iR.mk p.t1 (i64.wrap (p.t6-i64.wrap (i64.wrap (p.t6.tdiv p.t5)*p.t5))) p.t5 (i64.wrap (p.t8-i64.wrap (i64.wrap (p.t6.tdiv p.t5)*p.t7))) p.t7))else none else some (none)
def AY:iR->Option iR:=bt (xP)
abbrev ah8:Type:=Int
def d341:Td 0 ah8:= .c [] [4] (.r 0 0 (ec 4 (qi .i64) en) sn (fun z=>z.1.1) (fun x=>((x,()),(()))) fun _=>rfl)
def Wj(a0:Int)(a1:Int):Option ah8:=
 if¬a1=(0:Int)then match AY (iR.mk a1 (a0.tmod a1) a1 (1) (0))with|none=>none|some r1=>bif decide (1<r1.t5)then if¬r1.t5=(0:Int)then none else none else if¬r1.t1=(0:Int)then if¬r1.t1=(0:Int)then some ((i64.wrap (r1.t7.tmod r1.t1+r1.t1)).tmod r1.t1)else none else none else none
def al8:aI->aI:=eL Tryz.prog 341 false (lc (qi .i64) (lc (qi .i64) ln)) d341 (fun g=>Wj g.1 g.2.1)
theorem TZ:EO al8:=fun h=>kL (an:=(.two .no (.two .no (.two (Ke.lp AY .no) .no)))) (l:=[(aS Tryz.f341 0,(Ke.lp AY .no))]) Tryz.func341 aK (ax (aO Ke) aC) h
def akW:aI:=(al8 (alY (Ta (F7 (UB cL)))))
abbrev akj:Type:=aD
def d316:Td 0 akj:= .c [] [4] (.r 0 1 (ec 4 (qp 0 0) en) (sb 0 34 (lg 34) sn) (fun z=>z.2.1) (fun x=>(((),()),(x,()))) fun _=>rfl)
theorem al4:∀f∈([]:List Nat),aV (akW) f:=aC
def WB(a0:aD)(a1:aD):Option akj:=
 match vS [a0.ag,a1.ag]with|none=>none|some r1=>match bif decide ((if a1.af<a0.af then a1.af else a0.af)<if a0.aa<a1.aa then a1.aa else a0.aa)then some (true)else if¬r1=(0:Int)then some (bif decide ((i64.wrap (a1.aa-a0.aa)).tmod r1=0)then false else true)else none with|none=>none|some r2=>bif r2 then some (gF)else if¬r1=(0:Int)then bif decide (1<i64.wrap (a1.ag.tdiv r1))then if¬r1=(0:Int)then if¬i64.wrap (a1.ag.tdiv r1)=(0:Int)then if¬i64.wrap (a1.ag.tdiv r1)=(0:Int)then if¬r1=(0:Int)then if¬i64.wrap (a1.ag.tdiv r1)=(0:Int)then match Wj ((i64.wrap (a0.ag.tdiv r1)).tmod (i64.wrap (a1.ag.tdiv r1))) (i64.wrap (a1.ag.tdiv r1))with|none=>none|some r3=>match VY ((i64.wrap ((i64.wrap ((i64.wrap (a1.aa-a0.aa)).tdiv r1)).tmod (i64.wrap (a1.ag.tdiv r1))+i64.wrap (a1.ag.tdiv r1))).tmod (i64.wrap (a1.ag.tdiv r1))) r3 (i64.wrap (a1.ag.tdiv r1))with|none=>none|some r4=>if¬a0.ag=(0:Int)then if¬a0.ag=(0:Int)then bif decide (r4<i64.wrap ((i64.wrap (i64.wrap (i64.wrap ((if a0.aa<a1.aa then a1.aa else a0.aa)-a0.aa)+a0.ag)-1)).tdiv a0.ag))then if¬i64.wrap (a1.ag.tdiv r1)=(0:Int)then bif decide (i64.wrap ((i64.wrap ((if a1.af<a0.af then a1.af else a0.af)-a0.aa)).tdiv a0.ag)<i64.wrap (r4+i64.wrap (i64.wrap ((i64.wrap (i64.wrap (i64.wrap (i64.wrap ((i64.wrap (i64.wrap (i64.wrap ((if a0.aa<a1.aa then a1.aa else a0.aa)-a0.aa)+a0.ag)-1)).tdiv a0.ag)-r4)+i64.wrap (a1.ag.tdiv r1))-1)).tdiv (i64.wrap (a1.ag.tdiv r1)))*i64.wrap (a1.ag.tdiv r1))))then some (gF)else if¬i64.wrap (a1.ag.tdiv r1)=(0:Int)then bif decide (i64.wrap (r4+i64.wrap (i64.wrap ((i64.wrap (i64.wrap (i64.wrap (i64.wrap ((i64.wrap (i64.wrap (i64.wrap ((if a0.aa<a1.aa then a1.aa else a0.aa)-a0.aa)+a0.ag)-1)).tdiv a0.ag)-r4)+i64.wrap (a1.ag.tdiv r1))-1)).tdiv (i64.wrap (a1.ag.tdiv r1)))*i64.wrap (a1.ag.tdiv r1)))=i64.wrap (i64.wrap (r4+i64.wrap (i64.wrap ((i64.wrap (i64.wrap (i64.wrap (i64.wrap ((i64.wrap (i64.wrap (i64.wrap ((if a0.aa<a1.aa then a1.aa else a0.aa)-a0.aa)+a0.ag)-1)).tdiv a0.ag)-r4)+i64.wrap (a1.ag.tdiv r1))-1)).tdiv (i64.wrap (a1.ag.tdiv r1)))*i64.wrap (a1.ag.tdiv r1)))+i64.wrap (i64.wrap ((i64.wrap (i64.wrap ((i64.wrap ((if a1.af<a0.af then a1.af else a0.af)-a0.aa)).tdiv a0.ag)-i64.wrap (r4+i64.wrap (i64.wrap ((i64.wrap (i64.wrap (i64.wrap (i64.wrap ((i64.wrap (i64.wrap (i64.wrap ((if a0.aa<a1.aa then a1.aa else a0.aa)-a0.aa)+a0.ag)-1)).tdiv a0.ag)-r4)+i64.wrap (a1.ag.tdiv r1))-1)).tdiv (i64.wrap (a1.ag.tdiv r1)))*i64.wrap (a1.ag.tdiv r1))))).tdiv (i64.wrap (a1.ag.tdiv r1)))*i64.wrap (a1.ag.tdiv r1))))then some (fu (i64.wrap (a0.aa+i64.wrap (i64.wrap (r4+i64.wrap (i64.wrap ((i64.wrap (i64.wrap (i64.wrap (i64.wrap ((i64.wrap (i64.wrap (i64.wrap ((if a0.aa<a1.aa then a1.aa else a0.aa)-a0.aa)+a0.ag)-1)).tdiv a0.ag)-r4)+i64.wrap (a1.ag.tdiv r1))-1)).tdiv (i64.wrap (a1.ag.tdiv r1)))*i64.wrap (a1.ag.tdiv r1)))*a0.ag))))else some (aD.mk (i64.wrap (a0.aa+i64.wrap (i64.wrap (r4+i64.wrap (i64.wrap ((i64.wrap (i64.wrap (i64.wrap (i64.wrap ((i64.wrap (i64.wrap (i64.wrap ((if a0.aa<a1.aa then a1.aa else a0.aa)-a0.aa)+a0.ag)-1)).tdiv a0.ag)-r4)+i64.wrap (a1.ag.tdiv r1))-1)).tdiv (i64.wrap (a1.ag.tdiv r1)))*i64.wrap (a1.ag.tdiv r1)))*a0.ag))) (i64.wrap (a0.aa+i64.wrap (i64.wrap (i64.wrap (r4+i64.wrap (i64.wrap ((i64.wrap (i64.wrap (i64.wrap (i64.wrap ((i64.wrap (i64.wrap (i64.wrap ((if a0.aa<a1.aa then a1.aa else a0.aa)-a0.aa)+a0.ag)-1)).tdiv a0.ag)-r4)+i64.wrap (a1.ag.tdiv r1))-1)).tdiv (i64.wrap (a1.ag.tdiv r1)))*i64.wrap (a1.ag.tdiv r1)))+i64.wrap (i64.wrap ((i64.wrap (i64.wrap ((i64.wrap ((if a1.af<a0.af then a1.af else a0.af)-a0.aa)).tdiv a0.ag)-i64.wrap (r4+i64.wrap (i64.wrap ((i64.wrap (i64.wrap (i64.wrap (i64.wrap ((i64.wrap (i64.wrap (i64.wrap ((if a0.aa<a1.aa then a1.aa else a0.aa)-a0.aa)+a0.ag)-1)).tdiv a0.ag)-r4)+i64.wrap (a1.ag.tdiv r1))-1)).tdiv (i64.wrap (a1.ag.tdiv r1)))*i64.wrap (a1.ag.tdiv r1))))).tdiv (i64.wrap (a1.ag.tdiv r1)))*i64.wrap (a1.ag.tdiv r1)))*a0.ag))) (i64.wrap (i64.wrap (a1.ag.tdiv r1)*a0.ag)))else none else none else bif decide (i64.wrap ((i64.wrap ((if a1.af<a0.af then a1.af else a0.af)-a0.aa)).tdiv a0.ag)<r4)then some (gF)else if¬i64.wrap (a1.ag.tdiv r1)=(0:Int)then bif decide (r4=i64.wrap (r4+i64.wrap (i64.wrap ((i64.wrap (i64.wrap ((i64.wrap ((if a1.af<a0.af then a1.af else a0.af)-a0.aa)).tdiv a0.ag)-r4)).tdiv (i64.wrap (a1.ag.tdiv r1)))*i64.wrap (a1.ag.tdiv r1))))then some (fu (i64.wrap (a0.aa+i64.wrap (r4*a0.ag))))else some (aD.mk (i64.wrap (a0.aa+i64.wrap (r4*a0.ag))) (i64.wrap (a0.aa+i64.wrap (i64.wrap (r4+i64.wrap (i64.wrap ((i64.wrap (i64.wrap ((i64.wrap ((if a1.af<a0.af then a1.af else a0.af)-a0.aa)).tdiv a0.ag)-r4)).tdiv (i64.wrap (a1.ag.tdiv r1)))*i64.wrap (a1.ag.tdiv r1)))*a0.ag))) (i64.wrap (i64.wrap (a1.ag.tdiv r1)*a0.ag)))else none else none else none else none else none else none else none else none else if¬a0.ag=(0:Int)then if¬a0.ag=(0:Int)then bif decide (0<i64.wrap ((i64.wrap (i64.wrap (i64.wrap ((if a0.aa<a1.aa then a1.aa else a0.aa)-a0.aa)+a0.ag)-1)).tdiv a0.ag))then if¬i64.wrap (a1.ag.tdiv r1)=(0:Int)then bif decide (i64.wrap ((i64.wrap ((if a1.af<a0.af then a1.af else a0.af)-a0.aa)).tdiv a0.ag)<i64.wrap (0+i64.wrap (i64.wrap ((i64.wrap (i64.wrap (i64.wrap (i64.wrap ((i64.wrap (i64.wrap (i64.wrap ((if a0.aa<a1.aa then a1.aa else a0.aa)-a0.aa)+a0.ag)-1)).tdiv a0.ag)-0)+i64.wrap (a1.ag.tdiv r1))-1)).tdiv (i64.wrap (a1.ag.tdiv r1)))*i64.wrap (a1.ag.tdiv r1))))then some (gF)else if¬i64.wrap (a1.ag.tdiv r1)=(0:Int)then bif decide (i64.wrap (0+i64.wrap (i64.wrap ((i64.wrap (i64.wrap (i64.wrap (i64.wrap ((i64.wrap (i64.wrap (i64.wrap ((if a0.aa<a1.aa then a1.aa else a0.aa)-a0.aa)+a0.ag)-1)).tdiv a0.ag)-0)+i64.wrap (a1.ag.tdiv r1))-1)).tdiv (i64.wrap (a1.ag.tdiv r1)))*i64.wrap (a1.ag.tdiv r1)))=i64.wrap (i64.wrap (0+i64.wrap (i64.wrap ((i64.wrap (i64.wrap (i64.wrap (i64.wrap ((i64.wrap (i64.wrap (i64.wrap ((if a0.aa<a1.aa then a1.aa else a0.aa)-a0.aa)+a0.ag)-1)).tdiv a0.ag)-0)+i64.wrap (a1.ag.tdiv r1))-1)).tdiv (i64.wrap (a1.ag.tdiv r1)))*i64.wrap (a1.ag.tdiv r1)))+i64.wrap (i64.wrap ((i64.wrap (i64.wrap ((i64.wrap ((if a1.af<a0.af then a1.af else a0.af)-a0.aa)).tdiv a0.ag)-i64.wrap (0+i64.wrap (i64.wrap ((i64.wrap (i64.wrap (i64.wrap (i64.wrap ((i64.wrap (i64.wrap (i64.wrap ((if a0.aa<a1.aa then a1.aa else a0.aa)-a0.aa)+a0.ag)-1)).tdiv a0.ag)-0)+i64.wrap (a1.ag.tdiv r1))-1)).tdiv (i64.wrap (a1.ag.tdiv r1)))*i64.wrap (a1.ag.tdiv r1))))).tdiv (i64.wrap (a1.ag.tdiv r1)))*i64.wrap (a1.ag.tdiv r1))))then some (fu (i64.wrap (a0.aa+i64.wrap (i64.wrap (0+i64.wrap (i64.wrap ((i64.wrap (i64.wrap (i64.wrap (i64.wrap ((i64.wrap (i64.wrap (i64.wrap ((if a0.aa<a1.aa then a1.aa else a0.aa)-a0.aa)+a0.ag)-1)).tdiv a0.ag)-0)+i64.wrap (a1.ag.tdiv r1))-1)).tdiv (i64.wrap (a1.ag.tdiv r1)))*i64.wrap (a1.ag.tdiv r1)))*a0.ag))))else some (aD.mk (i64.wrap (a0.aa+i64.wrap (i64.wrap (0+i64.wrap (i64.wrap ((i64.wrap (i64.wrap (i64.wrap (i64.wrap ((i64.wrap (i64.wrap (i64.wrap ((if a0.aa<a1.aa then a1.aa else a0.aa)-a0.aa)+a0.ag)-1)).tdiv a0.ag)-0)+i64.wrap (a1.ag.tdiv r1))-1)).tdiv (i64.wrap (a1.ag.tdiv r1)))*i64.wrap (a1.ag.tdiv r1)))*a0.ag))) (i64.wrap (a0.aa+i64.wrap (i64.wrap (i64.wrap (0+i64.wrap (i64.wrap ((i64.wrap (i64.wrap (i64.wrap (i64.wrap ((i64.wrap (i64.wrap (i64.wrap ((if a0.aa<a1.aa then a1.aa else a0.aa)-a0.aa)+a0.ag)-1)).tdiv a0.ag)-0)+i64.wrap (a1.ag.tdiv r1))-1)).tdiv (i64.wrap (a1.ag.tdiv r1)))*i64.wrap (a1.ag.tdiv r1)))+i64.wrap (i64.wrap ((i64.wrap (i64.wrap ((i64.wrap ((if a1.af<a0.af then a1.af else a0.af)-a0.aa)).tdiv a0.ag)-i64.wrap (0+i64.wrap (i64.wrap ((i64.wrap (i64.wrap (i64.wrap (i64.wrap ((i64.wrap (i64.wrap (i64.wrap ((if a0.aa<a1.aa then a1.aa else a0.aa)-a0.aa)+a0.ag)-1)).tdiv a0.ag)-0)+i64.wrap (a1.ag.tdiv r1))-1)).tdiv (i64.wrap (a1.ag.tdiv r1)))*i64.wrap (a1.ag.tdiv r1))))).tdiv (i64.wrap (a1.ag.tdiv r1)))*i64.wrap (a1.ag.tdiv r1)))*a0.ag))) (i64.wrap (i64.wrap (a1.ag.tdiv r1)*a0.ag)))else none else none else bif decide (i64.wrap ((i64.wrap ((if a1.af<a0.af then a1.af else a0.af)-a0.aa)).tdiv a0.ag)<0)then some (gF)else if¬i64.wrap (a1.ag.tdiv r1)=(0:Int)then bif decide (0=i64.wrap (0+i64.wrap (i64.wrap ((i64.wrap (i64.wrap ((i64.wrap ((if a1.af<a0.af then a1.af else a0.af)-a0.aa)).tdiv a0.ag)-0)).tdiv (i64.wrap (a1.ag.tdiv r1)))*i64.wrap (a1.ag.tdiv r1))))then some (fu (i64.wrap (a0.aa+i64.wrap (0*a0.ag))))else some (aD.mk (i64.wrap (a0.aa+i64.wrap (0*a0.ag))) (i64.wrap (a0.aa+i64.wrap (i64.wrap (0+i64.wrap (i64.wrap ((i64.wrap (i64.wrap ((i64.wrap ((if a1.af<a0.af then a1.af else a0.af)-a0.aa)).tdiv a0.ag)-0)).tdiv (i64.wrap (a1.ag.tdiv r1)))*i64.wrap (a1.ag.tdiv r1)))*a0.ag))) (i64.wrap (i64.wrap (a1.ag.tdiv r1)*a0.ag)))else none else none else none else none
def ae5:aI->aI:=eL Tryz.prog 316 false (lc (qg 34) (lc (qg 34) ln)) d316 (fun g=>WB g.1 g.2.1)
theorem YP:EO ae5:=fun h=>kL (F:=akW) (an:=(.two .no (.two .no (.two .no (.two (.two (.rb [] 41) .no) .no))))) (l:=[(.skip,(.rb [] 41))]) Tryz.func316 (TZ (WQ (wP (iF (oX aK))))) (ax al4 aC) h
theorem On:EP ae5:=fun h=>kP h
abbrev tR:Type:=aD
def d280:Td 0 tR:= .c [] [4] (.r 0 1 (ec 4 (qp 0 0) en) (sb 0 34 (lg 34) sn) (fun z=>z.2.1) (fun x=>(((),()),(x,()))) fun _=>rfl)
def aek:=(lc (qg 34) (lc (qg 34) ln))
def Xr(M:aD->aD->Option tR):aI->aI:=eL Tryz.prog 280 false aek d280 (fun g=>M g.1 g.2.1)
theorem Aq{M:aD->aD->Option tR}{F:aI}{f:Nat}(h:aV F f):aV (Xr M F) f:=fy h (fun _=>by kernel_rfl)
def VC(M:aD->aD->Option tR):Prop:=HL Tryz.prog 280 aek d280 (fun g=>M g.1 g.2.1)
theorem K2{M:aD->aD->Option tR}(hM:VC M){F:aI}(h:aZ Tryz.prog F):aZ Tryz.prog (Xr M F):=fW (sc:=wQ) dL hM ⟨_,Tryz.func280,by kernel_rfl,by kernel_rfl⟩ (fun _=>by kernel_rfl) (fun _=>by kernel_rfl) h
def T7(M280:aD->aD->Option tR):aI:=(ae5 (Xr M280 (F7 (Vr (xG cL)))))
theorem XS{M280}(h280:VC M280):aZ Tryz.prog (T7 M280):=(YP (K2 h280 (iF (Ca (gU aK)))))
def aaJ(M280:aD->aD->Option tR):An:=(.two .no (.two (.two (.rb [147] 5) .no) .no))
theorem akS{M280}:∀f∈([147]:List Nat),aV (T7 M280) f:=(ax (On (Aq (jt (uY (dM aY))))) aC)
theorem ai8(M280:aD->aD->Option tR):eC Tryz.prog (T7 M280) 0 300 280 (aaJ M280):=bT (l:=[(.skip,(.rb [147] 5))]) Tryz.func280 (bA (by kernel_rfl)) (by kernel_rfl) (ax akS aC)
def sj(M280:aD->aD->Option tR)(a0:aD)(a1:aD):Option tR:=
 match bif dI a0 then some (true)else some (dI a1)with|none=>none|some r1=>bif r1 then some (gF)else bif decide (a0.ag=0)then match Nt a1 a0.aa with|none=>none|some r2=>bif r2 then some (a0)else some (gF)else bif decide (a1.ag=0)then match M280 a1 a0 with|none=>none|some r3=>some (r3)else match WB a0 a1 with|none=>none|some r4=>some (r4)
theorem ap7(M280:aD->aD->Option tR)(a0:aD)(a1:aD):bK Tryz.prog (T7 M280) 300 (aaJ M280) 280 (aek.c (a0,a1,())) [] 0 d280.rd=sj M280 a0 a1:=by kernel_rfl
def vD:Nat->(aD->aD->Option tR)
 |0=>(fun _ _=>none)
 |n+1=>(sj (vD n))
def QG(n:Nat):aD->aD->Option tR:=(vD n)
theorem Fh:∀n,VC (QG n)
 |0=>fun _ _ h=>(by cases h)
 |n+1=>by
  have ih:=Fh n
  have i280:=ih
  exact(dx (XS i280) (ai8 (QG n)) (fun _=>by kernel_rfl) (fun _=>by kernel_rfl) fun g=>ap7 (QG n) g.1 g.2.1)
def YH:aD->aD->Option tR:=fun a0 a1=>lim (fun n=>QG n a0 a1)
theorem VT:VC YH:=fun g b h=>by
 obtain⟨n,hn⟩:=cz (show lim (fun n=>QG n g.1 g.2.1)=some b from h)
 exact(Fh n) g b hn
def adh(F:aI):aI:=Xr YH F
theorem VM{F:aI}(h:aZ Tryz.prog F):aZ Tryz.prog (adh F):=K2 VT h
theorem M5{F:aI}{f:Nat}(h:aV F f):aV (adh F) f:=Aq h
def ail:aI:=(adh (Y2 (VA (aef (xG cL)))))
abbrev ahz:Type:=aD
def d234:Td 0 ahz:= .c [] [6] (.r 0 1 (ec 6 (qp 0 0) en) (sb 0 34 (lg 34) sn) (fun z=>z.2.1) (fun x=>(((),()),(x,()))) fun _=>rfl)
theorem aiY:∀f∈([176]:List Nat),aV (ail) f:=(ax (M5 (zV (Ar (NT (dM aY))))) aC)
def S3(a0:Int)(a1:aD)(a2:aD):Option ahz:=
 match YH a1 a2 with|none=>none|some r1=>match match tW a1 with|none=>none|some r2=>bif decide (1<r2)then some (true)else match tW a2 with|none=>none|some r3=>bif decide (1<r3)then some (true)else some (bif decide (a1.aa=a2.aa)then false else true)with|none=>none|some r4=>match HC a1 with|none=>none|some r5=>match HC a2 with|none=>none|some r6=>bif decide (a0=13)then match mZ r4 (match dI r1 with|true=>false|false=>true)with|none=>none|some r7=>some (r7)else bif decide (a0=14)then match mZ (match dI r1 with|true=>false|false=>true) r4 with|none=>none|some r8=>some (r8)else bif decide (a0=15)then match mZ (decide (a2.aa<=a1.af)) (decide (a1.aa<a2.af))with|none=>none|some r9=>some (r9)else bif decide (a0=16)then match mZ (decide (a2.aa<a1.af)) (decide (a1.aa<=a2.af))with|none=>none|some r10=>some (r10)else bif decide (a0=17)then match mZ (decide (a1.aa<=a2.af)) (decide (a2.aa<a1.af))with|none=>none|some r11=>some (r11)else bif decide (a0=18)then match mZ (decide (a1.aa<a2.af)) (decide (a2.aa<=a1.af))with|none=>none|some r12=>some (r12)else bif decide (a0=19)then bif r5.fst then bif r5.snd then match mZ true r6.snd with|none=>none|some r13=>some (r13)else match mZ true false with|none=>none|some r14=>some (r14)else bif r5.snd then match mZ r6.fst r6.snd with|none=>none|some r15=>some (r15)else match mZ r6.fst false with|none=>none|some r16=>some (r16)else bif r5.fst then bif r5.snd then match mZ r6.fst true with|none=>none|some r17=>some (r17)else match mZ r6.fst r6.snd with|none=>none|some r18=>some (r18)else bif r5.snd then match mZ false true with|none=>none|some r19=>some (r19)else match mZ false r6.snd with|none=>none|some r20=>some (r20)
def adZ:aI->aI:=eL Tryz.prog 234 false (lc (qi .i64) (lc (qg 34) (lc (qg 34) ln))) d234 (fun g=>S3 g.1 g.2.1 g.2.2.1)
theorem YD:EO adZ:=fun h=>kL (F:=ail) (an:=(.two .no (.two .no (.two (.rb [176] 8) .no)))) (l:=[(.skip,(.rb [176] 8))]) Tryz.func234 (VM (MQ (Da (tE (gU aK))))) (ax aiY aC) h
theorem oW:EP adZ:=fun h=>kP h
def aik:aI:=(adZ (ad0 (ac6 (ae4 (Ta (Ot (F7 (xG (O7 (F1 cL))))))))))
abbrev alV:Type:=aD×Int
def d155:Td 0 alV:= .c [] [6,7] (.r 0 1 (ec 6 (qp 0 0) (ec 7 (qi .i64) en)) (sb 0 34 (lg 34) sn) (fun z=>(z.2.1,z.1.2.1)) (fun x=>(((),x.2,()),(x.1,()))) fun _=>rfl)
theorem Tp:∀f∈([144,145,147,231]:List Nat),aV (aik) f:=(ax (oW (pL (oY (o7 (lq (jr (jt (dM (ju (ep aY)))))))))) (ax (oW (pL (oY (o7 (lq (jr (jt (dM (ju (ep aY)))))))))) (ax (oW (pL (oY (o7 (lq (jr (jt (dM (ju (ep aY)))))))))) (ax (oW (pL (oY (o7 (lq (jr (jt (dM (ju (ep aY)))))))))) aC))))
def sE(a0:Int)(a1:aD)(a2:aD):Option alV:=
 match match qZ a1 with|none=>none|some r1=>bif bif r1 then false else true then some (true)else match qZ a2 with|none=>none|some r2=>bif bif r2 then false else true then some (true)else some (bif vO a0 then false else true)with|none=>none|some r3=>bif r3 then some ((aD.mk (0) (0) (0),1))else match bif dI a1 then some (true)else some (dI a2)with|none=>none|some r4=>bif r4 then some ((gF,0))else bif decide (a0=9)then match bif bif ig (i64.wrap (a1.aa+i64.wrap (0-a2.af)))then false else true then some (true)else some (bif ig (i64.wrap (a1.af+i64.wrap (0-a2.aa)))then false else true)with|none=>none|some r5=>bif r5 then some ((aD.mk (0) (0) (0),3))else match vS [a1.ag,a2.ag]with|none=>none|some r6=>match k9 (i64.wrap (a1.aa+i64.wrap (0-a2.af))) (i64.wrap (a1.af+i64.wrap (0-a2.aa))) r6 with|none=>none|some r7=>some ((r7,0))else bif decide (a0=8)then match bif bif ig (i64.wrap (a1.aa+a2.aa))then false else true then some (true)else some (bif ig (i64.wrap (a1.af+a2.af))then false else true)with|none=>none|some r8=>bif r8 then some ((aD.mk (0) (0) (0),3))else match vS [a1.ag,a2.ag]with|none=>none|some r9=>match k9 (i64.wrap (a1.aa+a2.aa)) (i64.wrap (a1.af+a2.af)) r9 with|none=>none|some r10=>some ((r10,0))else bif decide (a0=10)then match Nr a1 a2 with|none=>none|some r11=>some (r11)else bif decide (a0=11)then match tK a0 a1 a2 with|none=>none|some r12=>some ((r12,0))else bif decide (a0=12)then match tK a0 a1 a2 with|none=>none|some r13=>some ((r13,0))else bif decide (a0=21)then match tK a0 a1 a2 with|none=>none|some r14=>some ((r14,0))else bif decide (a0=22)then match tK a0 a1 a2 with|none=>none|some r15=>some ((r15,0))else match S3 a0 a1 a2 with|none=>none|some r16=>some ((r16,0))
def agG:aI->aI:=eL Tryz.prog 155 false (lc (qi .i64) (lc (qg 34) (lc (qg 34) ln))) d155 (fun g=>sE g.1 g.2.1 g.2.2.1)
theorem DW:EO agG:=fun h=>kL (F:=aik) (an:=(.two .no (.two (.two (.rb [144,145,147,231] 22) .no) (.two (.two (.rb [144,145,147,231] 29) .no) (.two (.two .no (.two (.two (.two .no (.two (.two .no (.two (.two (.rb [144,145,147,231] 69) .no) .no)) .no)) .no) .no)) .no))))) (l:=[(.skip,(.rb [144,145,147,231] 22)),(.skip,(.rb [144,145,147,231] 29)),(.skip,(.rb [144,145,147,231] 69))]) Tryz.func155 (YD (UT (Y7 (Zg (wP (sO (iF (gU (wH (je aK)))))))))) (ax Tp (ax Tp (ax Tp aC))) h
abbrev og:Type:=aD×ak
def d150:Td 2 og:= .c [] [4] (.r 2 3 (ec 4 (qp 2 0) en) (sb 0 128 (lg 128) (sb 1 215 (lc (qf 150 (lc (qp 0 0) (lc (qp 1 0) ln))) ln) (sb 2 34 (lg 34) sn))) (fun z=>(z.2.2.2.1,z.2.1)) (fun x=>(((),()),(x.2,(((),(),()),()),x.1,()))) fun _=>rfl)
def agy:=(lc (qg 137) (lc (qp 0 0) (lc (qp 1 0) ln)))
def adC:=(sb 0 128 (lg 128) (sb 1 215 (lc (qf 150 (lc (qp 0 0) (lc (qp 1 0) ln))) ln) sn))
def aeK(M:aq->ak->Option og):aI->aI:=eY Tryz.prog 150 2 agy adC d150 (fun g=>M g.1.1 g.2.1)
def YG(M:aq->ak->Option og):Prop:=HY Tryz.prog 150 2 agy adC d150 (fun g=>M g.1.1 g.2.1)
theorem Mb{M:aq->ak->Option og}(hM:YG M){F:aI}(h:aZ Tryz.prog F):aZ Tryz.prog (aeK M F):=FY hM ⟨_,Tryz.func150,by kernel_rfl,by kernel_rfl⟩ (fun _=>by kernel_rfl) h
def adB(M150:aq->ak->Option og):aI:=(agG (amt (akP (amk (Vd (aeK M150 (e92 (e81 (e80 cL)))))))))
theorem UZ{M150}(h150:YG M150):aZ Tryz.prog (adB M150):=(DW (Xu (Wb (Bu (CI (Mb h150 (Jq (H9 (Dd aK)))))))))
structure ng where
 t90:List aq
 (t91 t92:Int)
 b0:ak
 (b2 b3 b4:aD)
def Hy:Td 2 ng:= .c [] [2,4,7,9,90,91,92] (.r 2 5 (ec 2 (qp 1 0) (ec 4 (qp 2 0) (ec 7 (qp 3 0) (ec 9 (qp 4 0) (ec 90 (ql 137) (ec 91 (qi .i64) (ec 92 (qi .i64) en))))))) (sb 0 128 (lg 128) (sb 1 215 (lc (qf 150 (lc (qp 0 0) (lc (qp 1 0) ln))) ln) (sb 2 34 (lg 34) (sb 3 34 (lg 34) (sb 4 34 (lg 34) sn))))) (fun z=>⟨z.1.2.2.2.2.1,z.1.2.2.2.2.2.1,z.1.2.2.2.2.2.2.1,z.2.1,z.2.2.2.1,z.2.2.2.2.1,z.2.2.2.2.2.1⟩) (fun x=>(((),(),(),(),x.t90,x.t91,x.t92,()),(x.b0,(((),(),()),()),x.b2,x.b3,x.b4,()))) fun _=>rfl)
def CP(M150:aq->ak->Option og)(p:ng):Option (Option ng):=
 bif decide (p.t92<p.t91)then if(0:Int)<=p.t92/\p.t92<(↑p.t90.length:Int)then match m92 p.b3 p.t92 with|none=>none|some r1=>bif r1 then match M150 (aq.mk p.t90[p.t92.toNat]!.aW p.t90[p.t92.toNat]!.fN p.t90[p.t92.toNat]!.aj) p.b0 with|none=>none|some r2=>match sH p.b4 r2.fst with|none=>none|some r3=>some (some (ng.mk p.t90 p.t91 (i64.wrap (p.t92+1)) r2.snd p.b2 p.b3 r3))else some (some (ng.mk p.t90 p.t91 (i64.wrap (p.t92+1)) p.b0 p.b2 p.b3 p.b4))else none else some (none)
def CJ(M150:aq->ak->Option og):ng->Option ng:=bt (CP M150)
def aaN(M150:aq->ak->Option og):An:=(.two .no (.two (.two .no (.two .no (.two .no (.two .no (.two .no (.two .no (.two .no (.two .no (.two (.two .no (.two .no (.two (.two .no (Hy.lp (CJ M150) .no)) .no))) .no))))))))) .no))
theorem aiM(M150:aq->ak->Option og):eC Tryz.prog (adB M150) 2 300 150 (aaN M150):=bT (l:=[(aS Tryz.f150 0,(Hy.lp (CJ M150) .no))]) Tryz.func150 (bA (by kernel_rfl)) (by kernel_rfl) (ax (aO Hy) aC)
def Va(M150:aq->ak->Option og)(a0:aq)(b0:ak):Option og:=
 bif decide (a0.aW=0)then some ((Ms a0.fN,b0))else bif decide (a0.aW=24)then if(0:Int)<=a0.fN/\a0.fN<(↑b0.ah.length:Int)then some ((b0.ah[a0.fN.toNat]!,b0))else none else bif decide (a0.aW=23)then if(0:Int)<=(0:Int)/\(0:Int)<(↑a0.aj.length:Int)then match M150 (aq.mk a0.aj[0]!.aW a0.aj[0]!.fN a0.aj[0]!.aj) b0 with|none=>none|some r4=>match HE r4.fst with|none=>none|some r5=>bif bif r5.fst then false else true then if(0:Int)<=(1:Int)/\(1:Int)<(↑a0.aj.length:Int)then match M150 (aq.mk a0.aj[1]!.aW a0.aj[1]!.fN a0.aj[1]!.aj) r4.snd with|none=>none|some r6=>some (r6)else none else bif bif r5.snd then false else true then if(0:Int)<=(2:Int)/\(2:Int)<(↑a0.aj.length:Int)then match M150 (aq.mk a0.aj[2]!.aW a0.aj[2]!.fN a0.aj[2]!.aj) r4.snd with|none=>none|some r7=>some (r7)else none else if(0:Int)<=(1:Int)/\(1:Int)<(↑a0.aj.length:Int)then match M150 (aq.mk a0.aj[1]!.aW a0.aj[1]!.fN a0.aj[1]!.aj) r4.snd with|none=>none|some r8=>if(0:Int)<=(2:Int)/\(2:Int)<(↑a0.aj.length:Int)then match M150 (aq.mk a0.aj[2]!.aW a0.aj[2]!.fN a0.aj[2]!.aj) r8.snd with|none=>none|some r9=>match sH r8.fst r9.fst with|none=>none|some r10=>some ((r10,r9.snd))else none else none else none else bif decide (a0.aW=25)then if(0:Int)<=(0:Int)/\(0:Int)<(↑a0.aj.length:Int)then match M150 (aq.mk a0.aj[0]!.aW a0.aj[0]!.fN a0.aj[0]!.aj) b0 with|none=>none|some r11=>match TH r11.fst (0) (i64.wrap ((↑a0.aj.length:Int)-2))with|none=>none|some r12=>if(0:Int)<=(1:Int)/\(1:Int)<=(↑a0.aj.length:Int)then match CJ M150 (ng.mk (List.drop 1 a0.aj) (↑(List.drop 1 a0.aj).length:Int) (0) r11.snd (aD.mk (0) (0) (0)) r12.fst VZ)with|none=>none|some r13=>bif decide (r13.t92<r13.t91)then if(0:Int)<=r13.t92/\r13.t92<(↑r13.t90.length:Int)then match m92 r13.b3 r13.t92 with|none=>none|some r14=>bif r14 then match M150 (aq.mk r13.t90[r13.t92.toNat]!.aW r13.t90[r13.t92.toNat]!.fN r13.t90[r13.t92.toNat]!.aj) r13.b0 with|none=>none|some r15=>match sH r13.b4 r15.fst with|none=>none|some r16=>none else none else none else some ((r13.b4,r13.b0))else none else none else bif decide ((↑a0.aj.length:Int)=1)then if(0:Int)<=(0:Int)/\(0:Int)<(↑a0.aj.length:Int)then match M150 (aq.mk a0.aj[0]!.aW a0.aj[0]!.fN a0.aj[0]!.aj) b0 with|none=>none|some r17=>match TL a0.aW r17.fst with|none=>none|some r18=>some ((r18.fst,r17.snd))else none else if(0:Int)<=(0:Int)/\(0:Int)<(↑a0.aj.length:Int)then match M150 (aq.mk a0.aj[0]!.aW a0.aj[0]!.fN a0.aj[0]!.aj) b0 with|none=>none|some r19=>if(0:Int)<=(1:Int)/\(1:Int)<(↑a0.aj.length:Int)then match M150 (aq.mk a0.aj[1]!.aW a0.aj[1]!.fN a0.aj[1]!.aj) r19.snd with|none=>none|some r20=>match sE a0.aW r19.fst r20.fst with|none=>none|some r21=>some ((r21.fst,r20.snd))else none else none
theorem an1(M150:aq->ak->Option og)(a0:aq)(b0:ak):bK Tryz.prog (adB M150) 300 (aaN M150) 150 (agy.c (a0,(),(),())) (adC.d (b0,(((),(),()),()),())) 2 d150.rd=Va M150 a0 b0:=by kernel_rfl
def acD:Nat->(aq->ak->Option og)
 |0=>(fun _ _=>none)
 |n+1=>(Va (acD n))
def G3(n:Nat):aq->ak->Option og:=(acD n)
theorem FL:∀n,YG (G3 n)
 |0=>fun _ _ h=>(by cases h)
 |n+1=>by
  have ih:=FL n
  have i150:=ih
  exact(L3 (UZ i150) (aiM (G3 n)) (fun _=>by kernel_rfl) (fun _=>by kernel_rfl) (fun _=>by kernel_rfl) fun g=>an1 (G3 n) g.1.1 g.2.1)
def Wn:aq->ak->Option og:=fun a0 b0=>lim (fun n=>G3 n a0 b0)
theorem WI:YG Wn:=fun g b h=>by
 obtain⟨n,hn⟩:=cz (show lim (fun n=>G3 n g.1.1 g.2.1)=some b from h)
 exact(FL n) g b hn
def aqc(F:aI):aI:=aeK Wn F
theorem Xb{F:aI}(h:aZ Tryz.prog F):aZ Tryz.prog (aqc F):=Mb WI h
abbrev E91:Type:=Int
def d91:Td 0 E91:= .c [] [2] (.r 0 0 (ec 2 (qi .i64) en) sn (fun z=>z.1.1) (fun x=>((x,()),(()))) fun _=>rfl)
def DX(a0:aD):Option E91:=
 match qZ a0 with|none=>none|some r1=>bif bif r1 then false else true then some (0)else match tW a0 with|none=>none|some r2=>some (r2)
def e91:aI->aI:=eL Tryz.prog 91 false (lc (qg 34) ln) d91 (fun g=>DX g.1)
theorem Jj:EO e91:=fun h=>kL (an:= .no) Tryz.func91 (tE (je aK)) aC h
theorem zy:EP e91:=fun h=>kP h
def aoT:aI:=cL
abbrev ad6:Type:=Int
def d174:Td 0 ad6:= .c [] [4] (.r 0 0 (ec 4 (qi .i64) en) sn (fun z=>z.1.1) (fun x=>((x,()),(()))) fun _=>rfl)
def amM:=(lc (qi .i64) (lc (qi .i64) ln))
def abD:An:= .no
def jh(a0:Int)(a1:Int):ad6:=
 bif decide (a1<a0)then a0 else a1
theorem aqA(a0:Int)(a1:Int):bK Tryz.prog (aoT) 300 (abD) 174 (amM.c (a0,a1,())) [] 0 d174.rd=some (jh a0 a1):=by
 refine Eq.trans (b:=(
  bif decide (a1<a0)then some (a0)else some (a1):Option ad6)) (by kernel_rfl) ?_
 simp only[jh,bX,cn]
def N3:aI->aI:=eL Tryz.prog 174 false amM d174 (fun g=>some (jh g.1 g.2.1))
theorem BW:EO N3:=fun h=>kL (an:=abD) Tryz.func174 aK aC h (c:=fun g=>aqA g.1 g.2.1)
def aqe:aI:=cL
abbrev afb:Type:=Int
def d175:Td 0 afb:= .c [] [4] (.r 0 0 (ec 4 (qi .i64) en) sn (fun z=>z.1.1) (fun x=>((x,()),(()))) fun _=>rfl)
def akt:=(lc (qi .i64) (lc (qi .i64) ln))
def abX:An:= .no
def iw(a0:Int)(a1:Int):afb:=
 bif decide (a0<a1)then a0 else a1
theorem aqE(a0:Int)(a1:Int):bK Tryz.prog (aqe) 300 (abX) 175 (akt.c (a0,a1,())) [] 0 d175.rd=some (iw a0 a1):=by
 refine Eq.trans (b:=(
  bif decide (a0<a1)then some (a0)else some (a1):Option afb)) (by kernel_rfl) ?_
 simp only[iw,bX,cn]
def Yr:aI->aI:=eL Tryz.prog 175 false akt d175 (fun g=>some (iw g.1 g.2.1))
theorem BH:EO Yr:=fun h=>kL (an:=abX) Tryz.func175 aK aC h (c:=fun g=>aqE g.1 g.2.1)
abbrev EA:Type:=Int×Int×Int
def d90:Td 0 EA:= .c [] [2,3,4] (.r 0 0 (ec 2 (qi .i64) (ec 3 (qi .i64) (ec 4 (qi .i64) en))) sn (fun z=>(z.1.1,z.1.2.1,z.1.2.2.1)) (fun x=>((x.1,x.2.1,x.2.2,()),(()))) fun _=>rfl)
def A90:=(lc (ql 166) ln)
def x90(M:(List GStep)->Option EA):aI->aI:=eL Tryz.prog 90 false A90 d90 (fun g=>M g.1)
theorem S4{M:(List GStep)->Option EA}{F:aI}{f:Nat}(h:aV F f):aV (x90 M F) f:=fy h (fun _=>by kernel_rfl)
def H90(M:(List GStep)->Option EA):Prop:=HL Tryz.prog 90 A90 d90 (fun g=>M g.1)
theorem Ts{M:(List GStep)->Option EA}(hM:H90 M){F:aI}(h:aZ Tryz.prog F):aZ Tryz.prog (x90 M F):=fW (sc:=wQ) dL hM ⟨_,Tryz.func90,by kernel_rfl,by kernel_rfl⟩ (fun _=>by kernel_rfl) (fun _=>by kernel_rfl) h
def F90(M90:(List GStep)->Option EA):aI:=(Yr (N3 (x90 M90 cL)))
theorem afm{M90}(h90:H90 M90):aZ Tryz.prog (F90 M90):=(BH (BW (Ts h90 aK)))
structure qj where
 t0:List GStep
 (t5 t6 t7 t8:Int)
def Qw:Td 0 qj:= .c [] [0,5,6,7,8] (.r 0 0 (ec 0 (ql 166) (ec 5 (qi .i64) (ec 6 (qi .i64) (ec 7 (qi .i64) (ec 8 (qi .i64) en))))) sn (fun z=>⟨z.1.1,z.1.2.1,z.1.2.2.1,z.1.2.2.2.1,z.1.2.2.2.2.1⟩) (fun x=>((x.t0,x.t5,x.t6,x.t7,x.t8,()),(()))) fun _=>rfl)
def L2(M90:(List GStep)->Option EA)(p:qj):Option (Option qj):=
 bif decide (p.t8<(↑p.t0.length:Int))then if(0:Int)<=p.t8/\p.t8<(↑p.t0.length:Int)then match M90 p.t0[p.t8.toNat]!.aH with|none=>none|some r1=>match M90 p.t0[p.t8.toNat]!.aJ with|none=>none|some r2=>bif decide (p.t0[p.t8.toNat]!.bG=4)then bif decide (p.t0[p.t8.toNat]!.bG=1)then some (some (qj.mk p.t0 (iw (i64.wrap (p.t5+i64.wrap (1+i64.wrap (p.t0[p.t8.toNat]!.fN*i64.wrap (1+r1.fst))))) (4097)) (iw (i64.wrap (p.t6+1)) (9)) (iw (i64.wrap (p.t7+i64.wrap (p.t0[p.t8.toNat]!.fN*i64.wrap (p.t0[p.t8.toNat]!.aL+r1.snd.snd)))) (67108865)) (i64.wrap (p.t8+1))))else some (some (qj.mk p.t0 (iw (i64.wrap (p.t5+i64.wrap (1+i64.wrap (p.t0[p.t8.toNat]!.fN*i64.wrap (1+r1.fst))))) (4097)) (iw (i64.wrap (p.t6+i64.wrap (p.t0[p.t8.toNat]!.fN*r1.snd.fst))) (9)) (iw (i64.wrap (p.t7+i64.wrap (p.t0[p.t8.toNat]!.fN*i64.wrap (p.t0[p.t8.toNat]!.aL+r1.snd.snd)))) (67108865)) (i64.wrap (p.t8+1))))else bif decide (p.t0[p.t8.toNat]!.bG=1)then some (some (qj.mk p.t0 (iw (i64.wrap (p.t5+i64.wrap (1+jh r1.fst r2.fst))) (4097)) (iw (i64.wrap (p.t6+1)) (9)) (iw (i64.wrap (p.t7+i64.wrap (p.t0[p.t8.toNat]!.aL+jh r1.snd.snd r2.snd.snd))) (67108865)) (i64.wrap (p.t8+1))))else some (some (qj.mk p.t0 (iw (i64.wrap (p.t5+i64.wrap (1+jh r1.fst r2.fst))) (4097)) (iw (i64.wrap (p.t6+jh r1.snd.fst r2.snd.fst)) (9)) (iw (i64.wrap (p.t7+i64.wrap (p.t0[p.t8.toNat]!.aL+jh r1.snd.snd r2.snd.snd))) (67108865)) (i64.wrap (p.t8+1))))else none else some (none)
def K7(M90:(List GStep)->Option EA):qj->Option qj:=bt (L2 M90)
def ajB(M90:(List GStep)->Option EA):An:=(.two .no (.two .no (.two (.two .no (Qw.lp (K7 M90) .no)) .no)))
theorem ap6(M90:(List GStep)->Option EA):eC Tryz.prog (F90 M90) 0 300 90 (ajB M90):=bT (l:=[(aS Tryz.f90 0,(Qw.lp (K7 M90) .no))]) Tryz.func90 (bA (by kernel_rfl)) (by kernel_rfl) (ax (aO Qw) aC)
def s90(M90:(List GStep)->Option EA)(a0:List GStep):Option EA:=
 match K7 M90 (qj.mk a0 (0) (0) (0) (0))with|none=>none|some r3=>bif decide (r3.t8<(↑r3.t0.length:Int))then if(0:Int)<=r3.t8/\r3.t8<(↑r3.t0.length:Int)then match M90 r3.t0[r3.t8.toNat]!.aH with|none=>none|some r4=>match M90 r3.t0[r3.t8.toNat]!.aJ with|none=>none|some r5=>bif decide (r3.t0[r3.t8.toNat]!.bG=4)then bif decide (r3.t0[r3.t8.toNat]!.bG=1)then none else none else bif decide (r3.t0[r3.t8.toNat]!.bG=1)then none else none else none else some ((r3.t5,r3.t6,r3.t7))
theorem c90(M90:(List GStep)->Option EA)(a0:List GStep):bK Tryz.prog (F90 M90) 300 (ajB M90) 90 (A90.c (a0,())) [] 0 d90.rd=s90 M90 a0:=by kernel_rfl
def ais:Nat->((List GStep)->Option EA)
 |0=>(fun _=>none)
 |n+1=>(s90 (ais n))
def m90(n:Nat):(List GStep)->Option EA:=(ais n)
theorem LY:∀n,H90 (m90 n)
 |0=>fun _ _ h=>(by cases h)
 |n+1=>by
  have ih:=LY n
  have i90:=ih
  exact(dx (afm i90) (ap6 (m90 n)) (fun _=>by kernel_rfl) (fun _=>by kernel_rfl) fun g=>c90 (m90 n) g.1)
def r90:(List GStep)->Option EA:=fun a0=>lim (fun n=>m90 n a0)
theorem agM:H90 r90:=fun g b h=>by
 obtain⟨n,hn⟩:=cz (show lim (fun n=>m90 n g.1)=some b from h)
 exact(LY n) g b hn
def e90(F:aI):aI:=x90 r90 F
theorem PZ{F:aI}(h:aZ Tryz.prog F):aZ Tryz.prog (e90 F):=Ts agM h
theorem Fi{F:aI}{f:Nat}(h:aV F f):aV (e90 F) f:=S4 h
abbrev nq:Type:=Int
def d216:Td 0 nq:= .c [] [2] (.r 0 0 (ec 2 (qi .i64) en) sn (fun z=>z.1.1) (fun x=>((x,()),(()))) fun _=>rfl)
def adp:=(lc (qg 137) ln)
def Xm(M:aq->Option nq):aI->aI:=eL Tryz.prog 216 false adp d216 (fun g=>M g.1)
theorem Oh{M:aq->Option nq}{F:aI}{f:Nat}(h:aV F f):aV (Xm M F) f:=fy h (fun _=>by kernel_rfl)
def Zn(M:aq->Option nq):Prop:=HL Tryz.prog 216 adp d216 (fun g=>M g.1)
theorem LP{M:aq->Option nq}(hM:Zn M){F:aI}(h:aZ Tryz.prog F):aZ Tryz.prog (Xm M F):=fW (sc:=wQ) dL hM ⟨_,Tryz.func216,by kernel_rfl,by kernel_rfl⟩ (fun _=>by kernel_rfl) (fun _=>by kernel_rfl) h
def adT(M216:aq->Option nq):aI:=(Xm M216 cL)
theorem ZI{M216}(h216:Zn M216):aZ Tryz.prog (adT M216):=(LP h216 aK)
structure rL where
 (t3 t4:Int)
 b0:aq
def I3:Td 0 rL:= .c [] [1,3,4] (.r 0 1 (ec 1 (qp 0 0) (ec 3 (qi .i64) (ec 4 (qi .i64) en))) (sb 0 137 (lg 137) sn) (fun z=>⟨z.1.2.1,z.1.2.2.1,z.2.1⟩) (fun x=>(((),x.t3,x.t4,()),(x.b0,()))) fun _=>rfl)
def CE(M216:aq->Option nq)(p:rL):Option (Option rL):=
 bif decide (p.t4<(↑p.b0.aj.length:Int))then if(0:Int)<=p.t4/\p.t4<(↑p.b0.aj.length:Int)then match M216 (aq.mk p.b0.aj[p.t4.toNat]!.aW p.b0.aj[p.t4.toNat]!.fN p.b0.aj[p.t4.toNat]!.aj)with|none=>none|some r1=>some (some (rL.mk (i64.wrap (p.t3+r1)) (i64.wrap (p.t4+1)) (aq.mk p.b0.aW p.b0.fN p.b0.aj)))else none else some (none)
def DP(M216:aq->Option nq):rL->Option rL:=bt (CE M216)
def abE(M216:aq->Option nq):An:=(.two .no (.two .no (.two (.two .no (I3.lp (DP M216) .no)) .no)))
theorem als(M216:aq->Option nq):eC Tryz.prog (adT M216) 0 300 216 (abE M216):=bT (l:=[(aS Tryz.f216 0,(I3.lp (DP M216) .no))]) Tryz.func216 (bA (by kernel_rfl)) (by kernel_rfl) (ax (aO I3) aC)
def Wo(M216:aq->Option nq)(a0:aq):Option nq:=
 match DP M216 (rL.mk (1) (0) (aq.mk a0.aW a0.fN a0.aj))with|none=>none|some r2=>bif decide (r2.t4<(↑r2.b0.aj.length:Int))then if(0:Int)<=r2.t4/\r2.t4<(↑r2.b0.aj.length:Int)then match M216 (aq.mk r2.b0.aj[r2.t4.toNat]!.aW r2.b0.aj[r2.t4.toNat]!.fN r2.b0.aj[r2.t4.toNat]!.aj)with|none=>none|some r3=>none else none else some (r2.t3)
theorem apD(M216:aq->Option nq)(a0:aq):bK Tryz.prog (adT M216) 300 (abE M216) 216 (adp.c (a0,())) [] 0 d216.rd=Wo M216 a0:=by kernel_rfl
def ack:Nat->(aq->Option nq)
 |0=>(fun _=>none)
 |n+1=>(Wo (ack n))
def G6(n:Nat):aq->Option nq:=(ack n)
theorem FD:∀n,Zn (G6 n)
 |0=>fun _ _ h=>(by cases h)
 |n+1=>by
  have ih:=FD n
  have i216:=ih
  exact(dx (ZI i216) (als (G6 n)) (fun _=>by kernel_rfl) (fun _=>by kernel_rfl) fun g=>apD (G6 n) g.1)
def JU:aq->Option nq:=fun a0=>lim (fun n=>G6 n a0)
theorem XG:Zn JU:=fun g b h=>by
 obtain⟨n,hn⟩:=cz (show lim (fun n=>G6 n g.1)=some b from h)
 exact(FD n) g b hn
def Vm(F:aI):aI:=Xm JU F
theorem Mi{F:aI}(h:aZ Tryz.prog F):aZ Tryz.prog (Vm F):=LP XG h
theorem Al{F:aI}{f:Nat}(h:aV F f):aV (Vm F) f:=Oh h
abbrev n7:Type:=Int
def d215:Td 0 n7:= .c [] [2] (.r 0 0 (ec 2 (qi .i64) en) sn (fun z=>z.1.1) (fun x=>((x,()),(()))) fun _=>rfl)
def aen:=(lc (ql 166) ln)
def WS(M:(List GStep)->Option n7):aI->aI:=eL Tryz.prog 215 false aen d215 (fun g=>M g.1)
theorem Om{M:(List GStep)->Option n7}{F:aI}{f:Nat}(h:aV F f):aV (WS M F) f:=fy h (fun _=>by kernel_rfl)
def YU(M:(List GStep)->Option n7):Prop:=HL Tryz.prog 215 aen d215 (fun g=>M g.1)
theorem MN{M:(List GStep)->Option n7}(hM:YU M){F:aI}(h:aZ Tryz.prog F):aZ Tryz.prog (WS M F):=fW (sc:=wQ) dL hM ⟨_,Tryz.func215,by kernel_rfl,by kernel_rfl⟩ (fun _=>by kernel_rfl) (fun _=>by kernel_rfl) h
def agH(M215:(List GStep)->Option n7):aI:=(Vm (WS M215 cL))
theorem Ue{M215}(h215:YU M215):aZ Tryz.prog (agH M215):=(Mi (MN h215 aK))
structure qT where
 t0:List GStep
 (t3 t4:Int)
def JK:Td 0 qT:= .c [] [0,3,4] (.r 0 0 (ec 0 (ql 166) (ec 3 (qi .i64) (ec 4 (qi .i64) en))) sn (fun z=>⟨z.1.1,z.1.2.1,z.1.2.2.1⟩) (fun x=>((x.t0,x.t3,x.t4,()),(()))) fun _=>rfl)
def Bg(M215:(List GStep)->Option n7)(p:qT):Option (Option qT):=
 bif decide (p.t4<(↑p.t0.length:Int))then if(0:Int)<=p.t4/\p.t4<(↑p.t0.length:Int)then match JU (aq.mk p.t0[p.t4.toNat]!.au.aW p.t0[p.t4.toNat]!.au.fN p.t0[p.t4.toNat]!.au.aj)with|none=>none|some r1=>if(0:Int)<=p.t4/\p.t4<(↑p.t0.length:Int)then match M215 p.t0[p.t4.toNat]!.aH with|none=>none|some r2=>if(0:Int)<=p.t4/\p.t4<(↑p.t0.length:Int)then match M215 p.t0[p.t4.toNat]!.aJ with|none=>none|some r3=>some (some (qT.mk p.t0 (i64.wrap (i64.wrap (i64.wrap (i64.wrap (p.t3+1)+r1)+r2)+r3)) (i64.wrap (p.t4+1))))else none else none else none else some (none)
def CV(M215:(List GStep)->Option n7):qT->Option qT:=bt (Bg M215)
def aa1(M215:(List GStep)->Option n7):An:=(.two .no (.two .no (.two (.two .no (JK.lp (CV M215) .no)) .no)))
theorem aj2(M215:(List GStep)->Option n7):eC Tryz.prog (agH M215) 0 300 215 (aa1 M215):=bT (l:=[(aS Tryz.f215 0,(JK.lp (CV M215) .no))]) Tryz.func215 (bA (by kernel_rfl)) (by kernel_rfl) (ax (aO JK) aC)
def Wp(M215:(List GStep)->Option n7)(a0:List GStep):Option n7:=
 match CV M215 (qT.mk a0 (0) (0))with|none=>none|some r4=>bif decide (r4.t4<(↑r4.t0.length:Int))then if(0:Int)<=r4.t4/\r4.t4<(↑r4.t0.length:Int)then match JU (aq.mk r4.t0[r4.t4.toNat]!.au.aW r4.t0[r4.t4.toNat]!.au.fN r4.t0[r4.t4.toNat]!.au.aj)with|none=>none|some r5=>if(0:Int)<=r4.t4/\r4.t4<(↑r4.t0.length:Int)then match M215 r4.t0[r4.t4.toNat]!.aH with|none=>none|some r6=>if(0:Int)<=r4.t4/\r4.t4<(↑r4.t0.length:Int)then match M215 r4.t0[r4.t4.toNat]!.aJ with|none=>none|some r7=>none else none else none else none else some (r4.t3)
theorem aqP(M215:(List GStep)->Option n7)(a0:List GStep):bK Tryz.prog (agH M215) 300 (aa1 M215) 215 (aen.c (a0,())) [] 0 d215.rd=Wp M215 a0:=by kernel_rfl
def ab8:Nat->((List GStep)->Option n7)
 |0=>(fun _=>none)
 |n+1=>(Wp (ab8 n))
def G5(n:Nat):(List GStep)->Option n7:=(ab8 n)
theorem FQ:∀n,YU (G5 n)
 |0=>fun _ _ h=>(by cases h)
 |n+1=>by
  have ih:=FQ n
  have i215:=ih
  exact(dx (Ue i215) (aj2 (G5 n)) (fun _=>by kernel_rfl) (fun _=>by kernel_rfl) fun g=>aqP (G5 n) g.1)
def U5:(List GStep)->Option n7:=fun a0=>lim (fun n=>G5 n a0)
theorem Vu:YU U5:=fun g b h=>by
 obtain⟨n,hn⟩:=cz (show lim (fun n=>G5 n g.1)=some b from h)
 exact(FQ n) g b hn
def agw(F:aI):aI:=WS U5 F
theorem YI{F:aI}(h:aZ Tryz.prog F):aZ Tryz.prog (agw F):=MN Vu h
theorem Ao{F:aI}{f:Nat}(h:aV F f):aV (agw F) f:=Om h
abbrev oh:Type:=Int
def d217:Td 0 oh:= .c [] [2] (.r 0 0 (ec 2 (qi .i64) en) sn (fun z=>z.1.1) (fun x=>((x,()),(()))) fun _=>rfl)
def adF:=(lc (qg 137) ln)
def UD(M:aq->Option oh):aI->aI:=eL Tryz.prog 217 false adF d217 (fun g=>M g.1)
theorem OD{M:aq->Option oh}{F:aI}{f:Nat}(h:aV F f):aV (UD M F) f:=fy h (fun _=>by kernel_rfl)
def YC(M:aq->Option oh):Prop:=HL Tryz.prog 217 adF d217 (fun g=>M g.1)
theorem Lx{M:aq->Option oh}(hM:YC M){F:aI}(h:aZ Tryz.prog F):aZ Tryz.prog (UD M F):=fW (sc:=wQ) dL hM ⟨_,Tryz.func217,by kernel_rfl,by kernel_rfl⟩ (fun _=>by kernel_rfl) (fun _=>by kernel_rfl) h
def afa(M217:aq->Option oh):aI:=(UD M217 cL)
theorem Wc{M217}(h217:YC M217):aZ Tryz.prog (afa M217):=(Lx h217 aK)
structure nB where
 (t3 t4:Int)
 b0:aq
def IF:Td 0 nB:= .c [] [1,3,4] (.r 0 1 (ec 1 (qp 0 0) (ec 3 (qi .i64) (ec 4 (qi .i64) en))) (sb 0 137 (lg 137) sn) (fun z=>⟨z.1.2.1,z.1.2.2.1,z.2.1⟩) (fun x=>(((),x.t3,x.t4,()),(x.b0,()))) fun _=>rfl)
def BP(M217:aq->Option oh)(p:nB):Option (Option nB):=
 bif decide (p.t4<(↑p.b0.aj.length:Int))then if(0:Int)<=p.t4/\p.t4<(↑p.b0.aj.length:Int)then match M217 (aq.mk p.b0.aj[p.t4.toNat]!.aW p.b0.aj[p.t4.toNat]!.fN p.b0.aj[p.t4.toNat]!.aj)with|none=>none|some r1=>bif decide (p.t3<r1)then some (some (nB.mk r1 (i64.wrap (p.t4+1)) (aq.mk p.b0.aW p.b0.fN p.b0.aj)))else some (some (nB.mk p.t3 (i64.wrap (p.t4+1)) (aq.mk p.b0.aW p.b0.fN p.b0.aj)))else none else some (none)
def CM(M217:aq->Option oh):nB->Option nB:=bt (BP M217)
def aay(M217:aq->Option oh):An:=(.two .no (.two .no (.two (.two .no (IF.lp (CM M217) .no)) .no)))
theorem ak2(M217:aq->Option oh):eC Tryz.prog (afa M217) 0 300 217 (aay M217):=bT (l:=[(aS Tryz.f217 0,(IF.lp (CM M217) .no))]) Tryz.func217 (bA (by kernel_rfl)) (by kernel_rfl) (ax (aO IF) aC)
def Z1(M217:aq->Option oh)(a0:aq):Option oh:=
 match CM M217 (nB.mk (0) (0) (aq.mk a0.aW a0.fN a0.aj))with|none=>none|some r2=>bif decide (r2.t4<(↑r2.b0.aj.length:Int))then if(0:Int)<=r2.t4/\r2.t4<(↑r2.b0.aj.length:Int)then match M217 (aq.mk r2.b0.aj[r2.t4.toNat]!.aW r2.b0.aj[r2.t4.toNat]!.fN r2.b0.aj[r2.t4.toNat]!.aj)with|none=>none|some r3=>bif decide (r2.t3<r3)then none else none else none else some (i64.wrap (r2.t3+1))
theorem aqm(M217:aq->Option oh)(a0:aq):bK Tryz.prog (afa M217) 300 (aay M217) 217 (adF.c (a0,())) [] 0 d217.rd=Z1 M217 a0:=by kernel_rfl
def acf:Nat->(aq->Option oh)
 |0=>(fun _=>none)
 |n+1=>(Z1 (acf n))
def JS(n:Nat):aq->Option oh:=(acf n)
theorem FI:∀n,YC (JS n)
 |0=>fun _ _ h=>(by cases h)
 |n+1=>by
  have ih:=FI n
  have i217:=ih
  exact(dx (Wc i217) (ak2 (JS n)) (fun _=>by kernel_rfl) (fun _=>by kernel_rfl) fun g=>aqm (JS n) g.1)
def Fw:aq->Option oh:=fun a0=>lim (fun n=>JS n a0)
theorem W3:YC Fw:=fun g b h=>by
 obtain⟨n,hn⟩:=cz (show lim (fun n=>JS n g.1)=some b from h)
 exact(FI n) g b hn
def UJ(F:aI):aI:=UD Fw F
theorem LK{F:aI}(h:aZ Tryz.prog F):aZ Tryz.prog (UJ F):=Lx W3 h
theorem pK{F:aI}{f:Nat}(h:aV F f):aV (UJ F) f:=OD h
abbrev nr:Type:=Int
def d218:Td 0 nr:= .c [] [2] (.r 0 0 (ec 2 (qi .i64) en) sn (fun z=>z.1.1) (fun x=>((x,()),(()))) fun _=>rfl)
def afZ:=(lc (ql 166) ln)
def Vl(M:(List GStep)->Option nr):aI->aI:=eL Tryz.prog 218 false afZ d218 (fun g=>M g.1)
theorem NK{M:(List GStep)->Option nr}{F:aI}{f:Nat}(h:aV F f):aV (Vl M F) f:=fy h (fun _=>by kernel_rfl)
def YL(M:(List GStep)->Option nr):Prop:=HL Tryz.prog 218 afZ d218 (fun g=>M g.1)
theorem KK{M:(List GStep)->Option nr}(hM:YL M){F:aI}(h:aZ Tryz.prog F):aZ Tryz.prog (Vl M F):=fW (sc:=wQ) dL hM ⟨_,Tryz.func218,by kernel_rfl,by kernel_rfl⟩ (fun _=>by kernel_rfl) (fun _=>by kernel_rfl) h
def agk(M218:(List GStep)->Option nr):aI:=(Vl M218 cL)
theorem aak{M218}(h218:YL M218):aZ Tryz.prog (agk M218):=(KK h218 aK)
structure kJ where
 t0:List GStep
 (t3 t4:Int)
def IU:Td 0 kJ:= .c [] [0,3,4] (.r 0 0 (ec 0 (ql 166) (ec 3 (qi .i64) (ec 4 (qi .i64) en))) sn (fun z=>⟨z.1.1,z.1.2.1,z.1.2.2.1⟩) (fun x=>((x.t0,x.t3,x.t4,()),(()))) fun _=>rfl)
def DH(M218:(List GStep)->Option nr)(p:kJ):Option (Option kJ):=
 bif decide (p.t4<(↑p.t0.length:Int))then if(0:Int)<=p.t4/\p.t4<(↑p.t0.length:Int)then match M218 p.t0[p.t4.toNat]!.aH with|none=>none|some r1=>if(0:Int)<=p.t4/\p.t4<(↑p.t0.length:Int)then match M218 p.t0[p.t4.toNat]!.aJ with|none=>none|some r2=>bif decide (p.t3<i64.wrap (r1+1))then bif decide (i64.wrap (r1+1)<i64.wrap (r2+1))then some (some (kJ.mk p.t0 (i64.wrap (r2+1)) (i64.wrap (p.t4+1))))else some (some (kJ.mk p.t0 (i64.wrap (r1+1)) (i64.wrap (p.t4+1))))else bif decide (p.t3<i64.wrap (r2+1))then some (some (kJ.mk p.t0 (i64.wrap (r2+1)) (i64.wrap (p.t4+1))))else some (some (kJ.mk p.t0 p.t3 (i64.wrap (p.t4+1))))else none else none else some (none)
def Di(M218:(List GStep)->Option nr):kJ->Option kJ:=bt (DH M218)
def abW(M218:(List GStep)->Option nr):An:=(.two .no (.two .no (.two (.two .no (IU.lp (Di M218) .no)) .no)))
theorem aj4(M218:(List GStep)->Option nr):eC Tryz.prog (agk M218) 0 300 218 (abW M218):=bT (l:=[(aS Tryz.f218 0,(IU.lp (Di M218) .no))]) Tryz.func218 (bA (by kernel_rfl)) (by kernel_rfl) (ax (aO IU) aC)
def Vk(M218:(List GStep)->Option nr)(a0:List GStep):Option nr:=
 match Di M218 (kJ.mk a0 (0) (0))with|none=>none|some r3=>bif decide (r3.t4<(↑r3.t0.length:Int))then if(0:Int)<=r3.t4/\r3.t4<(↑r3.t0.length:Int)then match M218 r3.t0[r3.t4.toNat]!.aH with|none=>none|some r4=>if(0:Int)<=r3.t4/\r3.t4<(↑r3.t0.length:Int)then match M218 r3.t0[r3.t4.toNat]!.aJ with|none=>none|some r5=>bif decide (r3.t3<i64.wrap (r4+1))then bif decide (i64.wrap (r4+1)<i64.wrap (r5+1))then none else none else bif decide (r3.t3<i64.wrap (r5+1))then none else none else none else none else some (r3.t3)
theorem aqX(M218:(List GStep)->Option nr)(a0:List GStep):bK Tryz.prog (agk M218) 300 (abW M218) 218 (afZ.c (a0,())) [] 0 d218.rd=Vk M218 a0:=by kernel_rfl
def abl:Nat->((List GStep)->Option nr)
 |0=>(fun _=>none)
 |n+1=>(Vk (abl n))
def I6(n:Nat):(List GStep)->Option nr:=(abl n)
theorem Eh:∀n,YL (I6 n)
 |0=>fun _ _ h=>(by cases h)
 |n+1=>by
  have ih:=Eh n
  have i218:=ih
  exact(dx (aak i218) (aj4 (I6 n)) (fun _=>by kernel_rfl) (fun _=>by kernel_rfl) fun g=>aqX (I6 n) g.1)
def TR:(List GStep)->Option nr:=fun a0=>lim (fun n=>I6 n a0)
theorem aaj:YL TR:=fun g b h=>by
 obtain⟨n,hn⟩:=cz (show lim (fun n=>I6 n g.1)=some b from h)
 exact(Eh n) g b hn
def aeU(F:aI):aI:=Vl TR F
theorem ZL{F:aI}(h:aZ Tryz.prog F):aZ Tryz.prog (aeU F):=KK aaj h
theorem As{F:aI}{f:Nat}(h:aV F f):aV (aeU F) f:=NK h
abbrev m9:Type:=Bool
def d219:Td 0 m9:= .c [] [2] (.r 0 0 (ec 2 qb en) sn (fun z=>z.1.1) (fun x=>((x,()),(()))) fun _=>rfl)
def agS:=(lc (ql 166) ln)
def YR(M:(List GStep)->Option m9):aI->aI:=eL Tryz.prog 219 false agS d219 (fun g=>M g.1)
theorem uP{M:(List GStep)->Option m9}{F:aI}{f:Nat}(h:aV F f):aV (YR M F) f:=fy h (fun _=>by kernel_rfl)
def TJ(M:(List GStep)->Option m9):Prop:=HL Tryz.prog 219 agS d219 (fun g=>M g.1)
theorem L5{M:(List GStep)->Option m9}(hM:TJ M){F:aI}(h:aZ Tryz.prog F):aZ Tryz.prog (YR M F):=fW (sc:=wQ) dL hM ⟨_,Tryz.func219,by kernel_rfl,by kernel_rfl⟩ (fun _=>by kernel_rfl) (fun _=>by kernel_rfl) h
def Xk(M219:(List GStep)->Option m9):aI:=(YR M219 (UJ cL))
theorem UL{M219}(h219:TJ M219):aZ Tryz.prog (Xk M219):=(L5 h219 (LK aK))
structure qV where
 t0:List GStep
 t3:Int
def Iz:Td 0 qV:= .c [] [0,3] (.r 0 0 (ec 0 (ql 166) (ec 3 (qi .i64) en)) sn (fun z=>⟨z.1.1,z.1.2.1⟩) (fun x=>((x.t0,x.t3,()),(()))) fun _=>rfl)
def BD(M219:(List GStep)->Option m9)(p:qV):Option (Option qV):=
 bif decide (p.t3<(↑p.t0.length:Int))then match if(0:Int)<=p.t3/\p.t3<(↑p.t0.length:Int)then match Fw (aq.mk p.t0[p.t3.toNat]!.au.aW p.t0[p.t3.toNat]!.au.fN p.t0[p.t3.toNat]!.au.aj)with|none=>none|some r1=>bif decide (12<r1)then some (true)else if(0:Int)<=p.t3/\p.t3<(↑p.t0.length:Int)then match M219 p.t0[p.t3.toNat]!.aH with|none=>none|some r2=>bif r2 then some (true)else if(0:Int)<=p.t3/\p.t3<(↑p.t0.length:Int)then match M219 p.t0[p.t3.toNat]!.aJ with|none=>none|some r3=>some (r3)else none else none else none with|none=>none|some r4=>bif r4 then some (none)else some (some (qV.mk p.t0 (i64.wrap (p.t3+1))))else some (none)
def RS(M219:(List GStep)->Option m9):An:=(.two .no (.two (.two (.rb [217,219] 32) .no) .no))
def Cj(M219:(List GStep)->Option m9):qV->Option qV:=bt (BD M219)
def ab4(M219:(List GStep)->Option m9):An:=(.two .no (.two (.two .no (Iz.lp (Cj M219) (RS M219))) .no))
theorem ale{M219}:∀f∈([217,219]:List Nat),aV (Xk M219) f:=(ax (uP (pK aY)) (ax (uP (pK aY)) aC))
theorem aii(M219:(List GStep)->Option m9):eC Tryz.prog (Xk M219) 0 300 219 (ab4 M219):=bT (l:=[(aS Tryz.f219 0,(Iz.lp (Cj M219) (RS M219))),(.skip,(.rb [217,219] 32))]) Tryz.func219 (bA (by kernel_rfl)) (by kernel_rfl) (ax (aO Iz) (ax ale aC))
def YY(M219:(List GStep)->Option m9)(a0:List GStep):Option m9:=
 match Cj M219 (qV.mk a0 (0))with|none=>none|some r5=>bif decide (r5.t3<(↑r5.t0.length:Int))then match if(0:Int)<=r5.t3/\r5.t3<(↑r5.t0.length:Int)then match Fw (aq.mk r5.t0[r5.t3.toNat]!.au.aW r5.t0[r5.t3.toNat]!.au.fN r5.t0[r5.t3.toNat]!.au.aj)with|none=>none|some r6=>bif decide (12<r6)then some (true)else if(0:Int)<=r5.t3/\r5.t3<(↑r5.t0.length:Int)then match M219 r5.t0[r5.t3.toNat]!.aH with|none=>none|some r7=>bif r7 then some (true)else if(0:Int)<=r5.t3/\r5.t3<(↑r5.t0.length:Int)then match M219 r5.t0[r5.t3.toNat]!.aJ with|none=>none|some r8=>some (r8)else none else none else none with|none=>none|some r9=>bif r9 then some (true)else none else some (false)
theorem aqp(M219:(List GStep)->Option m9)(a0:List GStep):bK Tryz.prog (Xk M219) 300 (ab4 M219) 219 (agS.c (a0,())) [] 0 d219.rd=YY M219 a0:=by kernel_rfl
def aaR:Nat->((List GStep)->Option m9)
 |0=>(fun _=>none)
 |n+1=>(YY (aaR n))
def Ir(n:Nat):(List GStep)->Option m9:=(aaR n)
theorem GU:∀n,TJ (Ir n)
 |0=>fun _ _ h=>(by cases h)
 |n+1=>by
  have ih:=GU n
  have i219:=ih
  exact(dx (UL i219) (aii (Ir n)) (fun _=>by kernel_rfl) (fun _=>by kernel_rfl) fun g=>aqp (Ir n) g.1)
def UG:(List GStep)->Option m9:=fun a0=>lim (fun n=>Ir n a0)
theorem Wv:TJ UG:=fun g b h=>by
 obtain⟨n,hn⟩:=cz (show lim (fun n=>Ir n g.1)=some b from h)
 exact(GU n) g b hn
def ae8(F:aI):aI:=YR UG F
theorem Zy{F:aI}(h:aZ Tryz.prog F):aZ Tryz.prog (ae8 F):=L5 Wv h
theorem AM{F:aI}{f:Nat}(h:aV F f):aV (ae8 F) f:=uP h
def alk:aI:=(ae8 (aeU (UJ (Vm (agw cL)))))
structure rI where
 (t3 t4:Int)
 b0:Flat
def J0:Td 0 rI:= .c [] [1,3,4] (.r 0 1 (ec 1 (qp 0 0) (ec 3 (qi .i64) (ec 4 (qi .i64) en))) (sb 0 26 (lg 26) sn) (fun z=>⟨z.1.2.1,z.1.2.2.1,z.2.1⟩) (fun x=>(((),x.t3,x.t4,()),(x.b0,()))) fun _=>rfl)
def yJ(p:rI):Option (Option rI):=
 bif decide (p.t4<(↑p.b0.ai.length:Int))then if(0:Int)<=p.t4/\p.t4<(↑p.b0.ai.length:Int)then match JU (aq.mk p.b0.ai[p.t4.toNat]!.au.aW p.b0.ai[p.t4.toNat]!.au.fN p.b0.ai[p.t4.toNat]!.au.aj)with|none=>none|some r1=>if(0:Int)<=p.t4/\p.t4<(↑p.b0.ai.length:Int)then match Fw (aq.mk p.b0.ai[p.t4.toNat]!.au.aW p.b0.ai[p.t4.toNat]!.au.fN p.b0.ai[p.t4.toNat]!.au.aj)with|none=>none|some r2=>bif decide (12<r2)then some (none)else some (some (rI.mk (i64.wrap (p.t3+r1)) (i64.wrap (p.t4+1)) p.b0))else none else none else some (none)
def CH:rI->Option rI:=bt (yJ)
abbrev aie:Type:=Bool
def d138:Td 0 aie:= .c [] [2] (.r 0 0 (ec 2 qb en) sn (fun z=>z.1.1) (fun x=>((x,()),(()))) fun _=>rfl)
theorem abb:∀f∈([218,219]:List Nat),aV (alk) f:=(ax (AM (As (pK (Al (Ao aY))))) (ax (AM (As (pK (Al (Ao aY))))) aC))
def aad(a0:Flat):Option aie:=
 match bif decide (64<(↑a0.ah.length:Int))then some (true)else some (decide (8<(↑a0.ai.length:Int)))with|none=>none|some r3=>bif r3 then some (false)else match U5 a0.bw with|none=>none|some r4=>match CH (rI.mk r4 (0) a0)with|none=>none|some r5=>bif decide (r5.t4<(↑r5.b0.ai.length:Int))then if(0:Int)<=r5.t4/\r5.t4<(↑r5.b0.ai.length:Int)then match JU (aq.mk r5.b0.ai[r5.t4.toNat]!.au.aW r5.b0.ai[r5.t4.toNat]!.au.fN r5.b0.ai[r5.t4.toNat]!.au.aj)with|none=>none|some r6=>if(0:Int)<=r5.t4/\r5.t4<(↑r5.b0.ai.length:Int)then match Fw (aq.mk r5.b0.ai[r5.t4.toNat]!.au.aW r5.b0.ai[r5.t4.toNat]!.au.fN r5.b0.ai[r5.t4.toNat]!.au.aj)with|none=>none|some r7=>bif decide (12<r7)then some (false)else none else none else none else match bif decide (r5.t3<=1024)then match TR r5.b0.bw with|none=>none|some r8=>bif decide (r8<=12)then match UG r5.b0.bw with|none=>none|some r9=>some (bif r9 then false else true)else some (false)else some (false)with|none=>none|some r10=>some (r10)
def ahU:aI->aI:=eL Tryz.prog 138 false (lc (qg 26) ln) d138 (fun g=>aad g.1)
theorem XI:EO ahU:=fun h=>kL (F:=alk) (an:=(.two .no (.two (.two (.rb [218,219] 14) .no) (.two .no (.two (.two .no (J0.lp CH .no)) (.two (.rb [218,219] 2) .no)))))) (l:=[(.skip,(.rb [218,219] 14)),(aS Tryz.f138 0,(J0.lp CH .no)),(.skip,(.rb [218,219] 2))]) Tryz.func138 (Zy (ZL (LK (Mi (YI aK))))) (ax abb (ax (aO J0) (ax abb aC))) h
def amd:aI:=cL
structure rU where
 t0:ByteArray
 t3:Int
def I0:Td 0 rU:= .c [] [0,3] (.r 0 0 (ec 0 qs (ec 3 (qi .i64) en)) sn (fun z=>⟨z.1.1,z.1.2.1⟩) (fun x=>((x.t0,x.t3,()),(()))) fun _=>rfl)
def Du(p:rU):Option (Option rU):=
 bif decide (p.t3<(↑p.t0.size:Int))then if(0:Int)<=p.t3/\p.t3<(↑p.t0.size:Int)then match bif decide (97<=bM p.t0 p.t3.toNat)then some (decide (bM p.t0 p.t3.toNat<=122))else some (false)with|none=>none|some r1=>match bif decide (48<=bM p.t0 p.t3.toNat)then bif decide (bM p.t0 p.t3.toNat<=57)then some (true)else bif decide (bM p.t0 p.t3.toNat=46)then some (true)else some (decide (bM p.t0 p.t3.toNat=95))else bif decide (bM p.t0 p.t3.toNat=46)then some (true)else some (decide (bM p.t0 p.t3.toNat=95))with|none=>none|some r2=>match bif bif r1 then false else true then bif decide (p.t3=0)then some (true)else some (bif r2 then false else true)else some (false)with|none=>none|some r3=>bif r3 then some (none)else some (some (rU.mk p.t0 (i64.wrap (p.t3+1))))else none else some (none)
def Q8:An:=(.two .no (.two (.two .no (.two (.rb [] 5) (.two (.rb [] 6) (.two (.rb [] 53) .no)))) .no))
def DT:rU->Option rU:=bt (Du)
abbrev alP:Type:=Bool
def d140:Td 0 alP:= .c [] [2] (.r 0 0 (ec 2 qb en) sn (fun z=>z.1.1) (fun x=>((x,()),(()))) fun _=>rfl)
theorem Ki:∀f∈([]:List Nat),aV (amd) f:=aC
def Il(a0:ByteArray):Option alP:=
 match bif decide ((↑a0.size:Int)<1)then some (true)else some (decide (40<(↑a0.size:Int)))with|none=>none|some r4=>bif r4 then some (false)else match DT (rU.mk a0 (0))with|none=>none|some r5=>bif decide (r5.t3<(↑r5.t0.size:Int))then if(0:Int)<=r5.t3/\r5.t3<(↑r5.t0.size:Int)then match bif decide (97<=bM r5.t0 r5.t3.toNat)then some (decide (bM r5.t0 r5.t3.toNat<=122))else some (false)with|none=>none|some r6=>match bif decide (48<=bM r5.t0 r5.t3.toNat)then bif decide (bM r5.t0 r5.t3.toNat<=57)then some (true)else bif decide (bM r5.t0 r5.t3.toNat=46)then some (true)else some (decide (bM r5.t0 r5.t3.toNat=95))else bif decide (bM r5.t0 r5.t3.toNat=46)then some (true)else some (decide (bM r5.t0 r5.t3.toNat=95))with|none=>none|some r7=>match bif bif r6 then false else true then bif decide (r5.t3=0)then some (true)else some (bif r7 then false else true)else some (false)with|none=>none|some r8=>bif r8 then some (false)else none else none else some (true)
def aaf:aI->aI:=eL Tryz.prog 140 false (lc qs ln) d140 (fun g=>Il g.1)
theorem Lz:EO aaf:=fun h=>kL (F:=amd) (an:=(.two .no (.two (.two (.rb [] 14) .no) (.two (.two .no (I0.lp DT Q8)) .no)))) (l:=[(.skip,(.rb [] 14)),(aS Tryz.f140 0,(I0.lp DT Q8)),(.skip,(.rb [] 5)),(.skip,(.rb [] 6)),(.skip,(.rb [] 53))]) Tryz.func140 aK (ax Ki (ax (aO I0) (ax Ki (ax Ki (ax Ki aC))))) h
theorem NM:EP aaf:=fun h=>kP h
def afu:aI:=cL
abbrev agZ:Type:=Bool
def d141:Td 0 agZ:= .c [] [4] (.r 0 0 (ec 4 qb en) sn (fun z=>z.1.1) (fun x=>((x,()),(()))) fun _=>rfl)
def aji:=(lc (qi .i64) (lc (qi .i64) ln))
def abc:An:=(.two .no (.two (.rb [] 4) .no))
theorem aih:∀f∈([]:List Nat),aV (afu) f:=aC
def DV(a0:Int)(a1:Int):agZ:=
 let r1:Bool:=bif decide (a0<=a1)then bif decide (-1048576<=a0)then decide (a1<=1048576)else false else false;r1
theorem ao9(a0:Int)(a1:Int):bK Tryz.prog (afu) 300 (abc) 141 (aji.c (a0,a1,())) [] 0 d141.rd=some (DV a0 a1):=by
 refine Eq.trans (b:=(
  match bif decide (a0<=a1)then bif decide (-1048576<=a0)then some (decide (a1<=1048576))else some (false)else some (false)with|none=>none|some r1=>some (r1):Option agZ)) (by kernel_rfl) ?_
 simp only[DV,bX,cn]
def aag:aI->aI:=eL Tryz.prog 141 false aji d141 (fun g=>some (DV g.1 g.2.1))
theorem L8:EO aag:=fun h=>kL (F:=afu) (an:=abc) (l:=[(.skip,(.rb [] 4))]) Tryz.func141 aK (ax aih aC) h (c:=fun g=>ao9 g.1 g.2.1)
theorem Nc:EP aag:=fun h=>kP h
structure oB where
 t0:List aN
 (t1 t5 t6:Int)
def HK:Td 0 oB:= .c [] [0,1,5,6] (.r 0 0 (ec 0 (ql 131) (ec 1 (qi .i64) (ec 5 (qi .i64) (ec 6 (qi .i64) en)))) sn (fun z=>⟨z.1.1,z.1.2.1,z.1.2.2.1,z.1.2.2.2.1⟩) (fun x=>((x.t0,x.t1,x.t5,x.t6,()),(()))) fun _=>rfl)
def Cn(p:oB):Option (Option oB):=
 bif decide (p.t6<(↑p.t0.length:Int))then if(0:Int)<=p.t6/\p.t6<(↑p.t0.length:Int)then bif bif decide (p.t0[p.t6.toNat]!.bf=p.t1)then false else true then some (some (oB.mk p.t0 p.t1 p.t5 (i64.wrap (p.t6+1))))else if(0:Int)<=p.t6/\p.t6<(↑p.t0.length:Int)then if(0:Int)<=p.t6/\p.t6<(↑p.t0.length:Int)then bif decide (4096<i64.wrap (p.t5*i64.wrap (i64.wrap (p.t0[p.t6.toNat]!.af-p.t0[p.t6.toNat]!.aa)+1)))then some (none)else some (some (oB.mk p.t0 p.t1 (i64.wrap (p.t5*i64.wrap (i64.wrap (p.t0[p.t6.toNat]!.af-p.t0[p.t6.toNat]!.aa)+1))) (i64.wrap (p.t6+1))))else none else none else none else some (none)
def Bf:oB->Option oB:=bt (Cn)
abbrev ahX:Type:=Int
def d220:Td 0 ahX:= .c [] [4] (.r 0 0 (ec 4 (qi .i64) en) sn (fun z=>z.1.1) (fun x=>((x,()),(()))) fun _=>rfl)
def Nd(a0:List aN)(a1:Int):Option ahX:=
 match Bf (oB.mk a0 a1 (1) (0))with|none=>none|some r1=>bif decide (r1.t6<(↑r1.t0.length:Int))then if(0:Int)<=r1.t6/\r1.t6<(↑r1.t0.length:Int)then bif bif decide (r1.t0[r1.t6.toNat]!.bf=r1.t1)then false else true then none else if(0:Int)<=r1.t6/\r1.t6<(↑r1.t0.length:Int)then if(0:Int)<=r1.t6/\r1.t6<(↑r1.t0.length:Int)then bif decide (4096<i64.wrap (r1.t5*i64.wrap (i64.wrap (r1.t0[r1.t6.toNat]!.af-r1.t0[r1.t6.toNat]!.aa)+1)))then some (4097)else none else none else none else none else some (r1.t5)
def af7:aI->aI:=eL Tryz.prog 220 false (lc (ql 131) (lc (qi .i64) ln)) d220 (fun g=>Nd g.1 g.2.1)
theorem XQ:EO af7:=fun h=>kL (an:=(.two .no (.two .no (.two (.two .no (HK.lp Bf .no)) .no)))) (l:=[(aS Tryz.f220 0,(HK.lp Bf .no))]) Tryz.func220 aK (ax (aO HK) aC) h
theorem NW:EP af7:=fun h=>kP h
def air:aI:=(af7 (aag (aaf cL)))
structure nG where
 t0:List aN
 (t3 t5:Int)
 b0:aN
def HN:Td 0 nG:= .c [] [0,3,4,5] (.r 0 1 (ec 0 (ql 131) (ec 3 (qi .i64) (ec 4 (qp 0 0) (ec 5 (qi .i64) en)))) (sb 0 131 (lg 131) sn) (fun z=>⟨z.1.1,z.1.2.1,z.1.2.2.2.1,z.2.1⟩) (fun x=>((x.t0,x.t3,(),x.t5,()),(x.b0,()))) fun _=>rfl)
def CK(p:nG):Option (Option nG):=
 bif decide (p.t5<p.t3)then if(0:Int)<=p.t5/\p.t5<(↑p.t0.length:Int)then bif p.t0[p.t5.toNat]!.fName.toList==p.b0.fName.toList then some (none)else some (some (nG.mk p.t0 p.t3 (i64.wrap (p.t5+1)) p.b0))else none else some (none)
def xF:nG->Option nG:=bt (CK)
structure rX where
 t0:List aN
 t3:Int
def Jn:Td 0 rX:= .c [] [0,3] (.r 0 0 (ec 0 (ql 131) (ec 3 (qi .i64) en)) sn (fun z=>⟨z.1.1,z.1.2.1⟩) (fun x=>((x.t0,x.t3,()),(()))) fun _=>rfl)
def uX(p:rX):Option (Option rX):=
 bif decide (p.t3<(↑p.t0.length:Int))then if(0:Int)<=p.t3/\p.t3<(↑p.t0.length:Int)then match Il p.t0[p.t3.toNat]!.fName with|none=>none|some r1=>bif bif r1 then false else true then some (none)else match xF (nG.mk p.t0 p.t3 (0) p.t0[p.t3.toNat]!)with|none=>none|some r2=>bif decide (r2.t5<r2.t3)then if(0:Int)<=r2.t5/\r2.t5<(↑r2.t0.length:Int)then bif r2.t0[r2.t5.toNat]!.fName.toList==r2.b0.fName.toList then some (none)else none else none else match bif bif decide (r2.b0.bf=0)then false else true then bif bif decide (r2.b0.bf=1)then false else true then bif bif decide (r2.b0.bf=2)then false else true then some (bif decide (r2.b0.bf=3)then false else true)else some (false)else some (false)else some (false)with|none=>none|some r3=>bif r3 then some (none)else bif bif DV r2.b0.aa r2.b0.af then false else true then some (none)else match bif decide (r2.b0.bf=0)then bif decide (r2.b0.cW<r2.b0.aa)then some (true)else bif decide (r2.b0.af<r2.b0.cW)then some (true)else bif bif decide (r2.b0.bf=0)then false else true then some (bif decide (r2.b0.cW=0)then false else true)else some (false)else bif bif decide (r2.b0.bf=0)then false else true then some (bif decide (r2.b0.cW=0)then false else true)else some (false)with|none=>none|some r4=>bif r4 then some (none)else some (some (rX.mk r2.t0 (i64.wrap (r2.t3+1))))else none else some (none)
def Su:An:=(.two .no (.two (.two .no (.two .no (.two (.two .no (HN.lp xF .no)) (.two (.two (.rb [220] 50) .no) (.two .no (.two (.rb [220] 83) .no)))))) .no))
def AX:rX->Option rX:=bt (uX)
abbrev ahY:Type:=Int
def d139:Td 0 ahY:= .c [] [2] (.r 0 0 (ec 2 (qi .i64) en) sn (fun z=>z.1.1) (fun x=>((x,()),(()))) fun _=>rfl)
theorem RA:∀f∈([220]:List Nat),aV (air) f:=(ax (NW (Nc (NM aY))) aC)
def XZ(a0:List aN):Option ahY:=
 match AX (rX.mk a0 (0))with|none=>none|some r5=>bif decide (r5.t3<(↑r5.t0.length:Int))then if(0:Int)<=r5.t3/\r5.t3<(↑r5.t0.length:Int)then match Il r5.t0[r5.t3.toNat]!.fName with|none=>none|some r6=>bif bif r6 then false else true then some (7)else match xF (nG.mk r5.t0 r5.t3 (0) r5.t0[r5.t3.toNat]!)with|none=>none|some r7=>bif decide (r7.t5<r7.t3)then if(0:Int)<=r7.t5/\r7.t5<(↑r7.t0.length:Int)then bif r7.t0[r7.t5.toNat]!.fName.toList==r7.b0.fName.toList then some (8)else none else none else match bif bif decide (r7.b0.bf=0)then false else true then bif bif decide (r7.b0.bf=1)then false else true then bif bif decide (r7.b0.bf=2)then false else true then some (bif decide (r7.b0.bf=3)then false else true)else some (false)else some (false)else some (false)with|none=>none|some r8=>bif r8 then some (1)else bif bif DV r7.b0.aa r7.b0.af then false else true then some (3)else match bif decide (r7.b0.bf=0)then bif decide (r7.b0.cW<r7.b0.aa)then some (true)else bif decide (r7.b0.af<r7.b0.cW)then some (true)else bif bif decide (r7.b0.bf=0)then false else true then some (bif decide (r7.b0.cW=0)then false else true)else some (false)else bif bif decide (r7.b0.bf=0)then false else true then some (bif decide (r7.b0.cW=0)then false else true)else some (false)with|none=>none|some r9=>bif r9 then some (3)else none else none else match match Nd r5.t0 (1)with|none=>none|some r10=>bif decide (4096<r10)then some (true)else match Nd r5.t0 (2)with|none=>none|some r11=>bif decide (4096<r11)then some (true)else match Nd r5.t0 (3)with|none=>none|some r12=>some (decide (256<r12))with|none=>none|some r13=>bif r13 then some (4)else some (0)
def ajZ:aI->aI:=eL Tryz.prog 139 false (lc (ql 131) ln) d139 (fun g=>XZ g.1)
theorem UP:EO ajZ:=fun h=>kL (F:=air) (an:=(.two .no (.two (.two .no (Jn.lp AX Su)) (.two (.two (.rb [220] 96) .no) .no)))) (l:=[(aS Tryz.f139 0,(Jn.lp AX Su)),(aS Tryz.f139 1,(HN.lp xF .no)),(.skip,(.rb [220] 50)),(.skip,(.rb [220] 83)),(.skip,(.rb [220] 96))]) Tryz.func139 (XQ (L8 (Lz aK))) (ax (aO Jn) (ax (aO HN) (ax RA (ax RA (ax RA aC))))) h
def anY:aI:=cL
abbrev acV:Type:=Int
def d270:Td 0 acV:= .c [] [2] (.r 0 0 (ec 2 (qi .i64) en) sn (fun z=>z.1.1) (fun x=>((x,()),(()))) fun _=>rfl)
def amI:=(lc (qi .i64) ln)
def acj:An:= .no
def zJ(a0:Int):acV:=
 bif decide (a0=0)then 0 else bif decide (a0=24)then 0 else bif decide (a0=6)then 1 else bif decide (a0=7)then 1 else bif decide (a0=8)then 2 else bif decide (a0=9)then 2 else bif decide (a0=10)then 2 else bif decide (a0=11)then 2 else bif decide (a0=12)then 2 else bif decide (a0=13)then 2 else bif decide (a0=14)then 2 else bif decide (a0=15)then 2 else bif decide (a0=16)then 2 else bif decide (a0=17)then 2 else bif decide (a0=18)then 2 else bif decide (a0=19)then 2 else bif decide (a0=20)then 2 else bif decide (a0=21)then 2 else bif decide (a0=22)then 2 else bif decide (a0=23)then 3 else bif decide (a0=25)then-2 else-1
theorem apn(a0:Int):bK Tryz.prog (anY) 300 (acj) 270 (amI.c (a0,())) [] 0 d270.rd=some (zJ a0):=by
 refine Eq.trans (b:=(
  bif decide (a0=0)then some (0)else bif decide (a0=24)then some (0)else bif decide (a0=6)then some (1)else bif decide (a0=7)then some (1)else bif decide (a0=8)then some (2)else bif decide (a0=9)then some (2)else bif decide (a0=10)then some (2)else bif decide (a0=11)then some (2)else bif decide (a0=12)then some (2)else bif decide (a0=13)then some (2)else bif decide (a0=14)then some (2)else bif decide (a0=15)then some (2)else bif decide (a0=16)then some (2)else bif decide (a0=17)then some (2)else bif decide (a0=18)then some (2)else bif decide (a0=19)then some (2)else bif decide (a0=20)then some (2)else bif decide (a0=21)then some (2)else bif decide (a0=22)then some (2)else bif decide (a0=23)then some (3)else bif decide (a0=25)then some (-2)else some (-1):Option acV)) (by kernel_rfl) ?_
 simp only[zJ,bX,cn]
def alB:aI->aI:=eL Tryz.prog 270 false amI d270 (fun g=>some (zJ g.1))
theorem Yk:EO alB:=fun h=>kL (an:=acj) Tryz.func270 aK aC h (c:=fun g=>apn g.1)
abbrev p6:Type:=Bool
def d221:Td 0 p6:= .c [] [6] (.r 0 0 (ec 6 qb en) sn (fun z=>z.1.1) (fun x=>((x,()),(()))) fun _=>rfl)
def agu:=(lc (ql 131) (lc (qg 137) (lc qb ln)))
def ae2(M:(List aN)->aq->Bool->Option p6):aI->aI:=eL Tryz.prog 221 false agu d221 (fun g=>M g.1 g.2.1 g.2.2.1)
def Z9(M:(List aN)->aq->Bool->Option p6):Prop:=HL Tryz.prog 221 agu d221 (fun g=>M g.1 g.2.1 g.2.2.1)
theorem Lk{M:(List aN)->aq->Bool->Option p6}(hM:Z9 M){F:aI}(h:aZ Tryz.prog F):aZ Tryz.prog (ae2 M F):=fW (sc:=wQ) dL hM ⟨_,Tryz.func221,by kernel_rfl,by kernel_rfl⟩ (fun _=>by kernel_rfl) (fun _=>by kernel_rfl) h
def YV(M221:(List aN)->aq->Bool->Option p6):aI:=(alB (ae2 M221 cL))
theorem Vp{M221}(h221:Z9 M221):aZ Tryz.prog (YV M221):=(Yk (Lk h221 aK))
structure nJ where
 t0:List aN
 t2:Bool
 t8:Int
 b0:aq
def Ik:Td 0 nJ:= .c [] [0,2,4,8] (.r 0 1 (ec 0 (ql 131) (ec 2 qb (ec 4 (qp 0 0) (ec 8 (qi .i64) en)))) (sb 0 137 (lg 137) sn) (fun z=>⟨z.1.1,z.1.2.1,z.1.2.2.2.1,z.2.1⟩) (fun x=>((x.t0,x.t2,(),x.t8,()),(x.b0,()))) fun _=>rfl)
def BO(M221:(List aN)->aq->Bool->Option p6)(p:nJ):Option (Option nJ):=
 bif decide (p.t8<(↑p.b0.aj.length:Int))then if(0:Int)<=p.t8/\p.t8<(↑p.b0.aj.length:Int)then match M221 p.t0 (aq.mk p.b0.aj[p.t8.toNat]!.aW p.b0.aj[p.t8.toNat]!.fN p.b0.aj[p.t8.toNat]!.aj) p.t2 with|none=>none|some r1=>bif bif r1 then false else true then some (none)else some (some (nJ.mk p.t0 p.t2 (i64.wrap (p.t8+1)) (aq.mk p.b0.aW p.b0.fN p.b0.aj)))else none else some (none)
def yA(M221:(List aN)->aq->Bool->Option p6):nJ->Option nJ:=bt (BO M221)
def abK(M221:(List aN)->aq->Bool->Option p6):An:=(.two .no (.two .no (.two (.two (.rb [] 40) .no) (.two (.two .no (.two (.two (.rb [] 65) .no) (.two (.rb [] 73) .no))) (.two (.two .no (Ik.lp (yA M221) .no)) .no)))))
theorem Pb{M221}:∀f∈([]:List Nat),aV (YV M221) f:=aC
theorem ami(M221:(List aN)->aq->Bool->Option p6):eC Tryz.prog (YV M221) 0 300 221 (abK M221):=bT (l:=[(.skip,(.rb [] 40)),(.skip,(.rb [] 65)),(.skip,(.rb [] 73)),(aS Tryz.f221 0,(Ik.lp (yA M221) .no))]) Tryz.func221 (bA (by kernel_rfl)) (by kernel_rfl) (ax Pb (ax Pb (ax Pb (ax (aO Ik) aC))))
def Uo(M221:(List aN)->aq->Bool->Option p6)(a0:List aN)(a1:aq)(a2:Bool):Option p6:=
 match bif decide (zJ a1.aW= -1)then some (true)else bif decide (0<=zJ a1.aW)then bif bif decide ((↑a1.aj.length:Int)=zJ a1.aW)then false else true then some (true)else bif decide (zJ a1.aW= -2)then bif decide ((↑a1.aj.length:Int)<2)then some (true)else some (decide (33<(↑a1.aj.length:Int)))else some (false)else bif decide (zJ a1.aW= -2)then bif decide ((↑a1.aj.length:Int)<2)then some (true)else some (decide (33<(↑a1.aj.length:Int)))else some (false)with|none=>none|some r2=>bif r2 then some (false)else bif decide (a1.aW=24)then match bif decide (a1.fN<0)then some (true)else bif decide ((↑a0.length:Int)<=a1.fN)then some (true)else bif a2 then if(0:Int)<=a1.fN/\a1.fN<(↑a0.length:Int)then some (decide (a0[a1.fN.toNat]!.bf=0))else none else some (false)with|none=>none|some r3=>bif r3 then some (false)else match yA M221 (nJ.mk a0 a2 (0) (aq.mk a1.aW a1.fN a1.aj))with|none=>none|some r4=>bif decide (r4.t8<(↑r4.b0.aj.length:Int))then if(0:Int)<=r4.t8/\r4.t8<(↑r4.b0.aj.length:Int)then match M221 r4.t0 (aq.mk r4.b0.aj[r4.t8.toNat]!.aW r4.b0.aj[r4.t8.toNat]!.fN r4.b0.aj[r4.t8.toNat]!.aj) r4.t2 with|none=>none|some r5=>bif bif r5 then false else true then some (false)else none else none else some (true)else match bif bif decide (a1.aW=0)then false else true then some (bif decide (a1.fN=0)then false else true)else some (false)with|none=>none|some r6=>bif r6 then some (false)else match yA M221 (nJ.mk a0 a2 (0) (aq.mk a1.aW a1.fN a1.aj))with|none=>none|some r7=>bif decide (r7.t8<(↑r7.b0.aj.length:Int))then if(0:Int)<=r7.t8/\r7.t8<(↑r7.b0.aj.length:Int)then match M221 r7.t0 (aq.mk r7.b0.aj[r7.t8.toNat]!.aW r7.b0.aj[r7.t8.toNat]!.fN r7.b0.aj[r7.t8.toNat]!.aj) r7.t2 with|none=>none|some r8=>bif bif r8 then false else true then some (false)else none else none else some (true)
theorem aqB(M221:(List aN)->aq->Bool->Option p6)(a0:List aN)(a1:aq)(a2:Bool):bK Tryz.prog (YV M221) 300 (abK M221) 221 (agu.c (a0,a1,a2,())) [] 0 d221.rd=Uo M221 a0 a1 a2:=by kernel_rfl
def acC:Nat->((List aN)->aq->Bool->Option p6)
 |0=>(fun _ _ _=>none)
 |n+1=>(Uo (acC n))
def IY(n:Nat):(List aN)->aq->Bool->Option p6:=(acC n)
theorem GJ:∀n,Z9 (IY n)
 |0=>fun _ _ h=>(by cases h)
 |n+1=>by
  have ih:=GJ n
  have i221:=ih
  exact(dx (Vp i221) (ami (IY n)) (fun _=>by kernel_rfl) (fun _=>by kernel_rfl) fun g=>aqB (IY n) g.1 g.2.1 g.2.2.1)
def Xg:(List aN)->aq->Bool->Option p6:=fun a0 a1 a2=>lim (fun n=>IY n a0 a1 a2)
theorem WY:Z9 Xg:=fun g b h=>by
 obtain⟨n,hn⟩:=cz (show lim (fun n=>IY n g.1 g.2.1 g.2.2.1)=some b from h)
 exact(GJ n) g b hn
def aq3(F:aI):aI:=ae2 Xg F
theorem Yz{F:aI}(h:aZ Tryz.prog F):aZ Tryz.prog (aq3 F):=Lk WY h
def apw:aI:=cL
abbrev af9:Type:=Int
def d313:Td 0 af9:= .c [] [2] (.r 0 0 (ec 2 (qi .i64) en) sn (fun z=>z.1.1) (fun x=>((x,()),(()))) fun _=>rfl)
def aiC:=(lc (qi .i64) ln)
def abx:An:= .no
def uA(a0:Int):af9:=
 bif decide (a0<0)then i64.wrap (0-a0)else a0
theorem aoK(a0:Int):bK Tryz.prog (apw) 300 (abx) 313 (aiC.c (a0,())) [] 0 d313.rd=some (uA a0):=by
 refine Eq.trans (b:=(
  bif decide (a0<0)then some (i64.wrap (0-a0))else some (a0):Option af9)) (by kernel_rfl) ?_
 simp only[uA,bX,cn]
def Q4:aI->aI:=eL Tryz.prog 313 false aiC d313 (fun g=>some (uA g.1))
theorem Ux:EO Q4:=fun h=>kL (an:=abx) Tryz.func313 aK aC h (c:=fun g=>aoK g.1)
def an2:aI:=(Yr (N3 cL))
abbrev adY:Type:=Int×Int
def d314:Td 0 adY:= .c [] [4,5] (.r 0 0 (ec 4 (qi .i64) (ec 5 (qi .i64) en)) sn (fun z=>(z.1.1,z.1.2.1)) (fun x=>((x.1,x.2,()),(()))) fun _=>rfl)
def ahB:=(lc (qi .i64) (lc (qi .i64) ln))
def acF:An:= .no
def Ss(a0:Int)(a1:Int):adY:=
 bif decide (a0<0)then bif decide (0<a1)then(iw (0) (i64.wrap (a0+1)),jh (0) (i64.wrap (a1-1)))else(iw (0) (i64.wrap (a0+1)),0)else bif decide (0<a1)then(0,jh (0) (i64.wrap (a1-1)))else(0,0)
theorem aq8(a0:Int)(a1:Int):bK Tryz.prog (an2) 300 (acF) 314 (ahB.c (a0,a1,())) [] 0 d314.rd=some (Ss a0 a1):=by
 refine Eq.trans (b:=(
  bif decide (a0<0)then bif decide (0<a1)then some ((iw (0) (i64.wrap (a0+1)),jh (0) (i64.wrap (a1-1))))else some ((iw (0) (i64.wrap (a0+1)),0))else bif decide (0<a1)then some ((0,jh (0) (i64.wrap (a1-1))))else some ((0,0)):Option adY)) (by kernel_rfl) ?_
 simp only[Ss,bX,cn]
def al1:aI->aI:=eL Tryz.prog 314 false ahB d314 (fun g=>some (Ss g.1 g.2.1))
theorem UK:EO al1:=fun h=>kL (an:=acF) Tryz.func314 (BH (BW aK)) aC h (c:=fun g=>aq8 g.1 g.2.1)
def amU:aI:=(al1 (Q4 (Yr (N3 cL))))
structure oQ where
 (t2 t3:List Int)
 (t15 t16 t17:Int)
def Jt:Td 0 oQ:= .c [] [2,3,15,16,17] (.r 0 0 (ec 2 (ql 3) (ec 3 (ql 3) (ec 15 (qi .i64) (ec 16 (qi .i64) (ec 17 (qi .i64) en))))) sn (fun z=>⟨z.1.1,z.1.2.1,z.1.2.2.1,z.1.2.2.2.1,z.1.2.2.2.2.1⟩) (fun x=>((x.t2,x.t3,x.t15,x.t16,x.t17,()),(()))) fun _=>rfl)
def Bj(p:oQ):Option (Option oQ):=
 bif decide (p.t17<(↑p.t2.length:Int))then if(0:Int)<=p.t17/\p.t17<(↑p.t2.length:Int)then if(0:Int)<=p.t17/\p.t17<(↑p.t3.length:Int)then some (some (oQ.mk p.t2 p.t3 (iw p.t15 p.t2[p.t17.toNat]!) (jh p.t16 p.t3[p.t17.toNat]!) (i64.wrap (p.t17+1))))else none else none else some (none)
def yx:oQ->Option oQ:=bt (Bj)
abbrev ak5:Type:=Int×Int
def d271:Td 0 ak5:= .c [] [8,9] (.r 0 0 (ec 8 (qi .i64) (ec 9 (qi .i64) en)) sn (fun z=>(z.1.1,z.1.2.1)) (fun x=>((x.1,x.2,()),(()))) fun _=>rfl)
theorem abJ:∀f∈([]:List Nat),aV (amU) f:=aC
def Xx(a0:List aN)(a1:aq)(a2:List Int)(a3:List Int):Option ak5:=
 bif decide (a1.aW=0)then match bif decide (a1.fN< -1048576)then some (true)else some (decide (1048576<a1.fN))with|none=>none|some r1=>bif r1 then some ((-1048577,1048577))else some ((a1.fN,a1.fN))else bif decide (a1.aW=24)then if(0:Int)<=a1.fN/\a1.fN<(↑a0.length:Int)then if(0:Int)<=a1.fN/\a1.fN<(↑a0.length:Int)then some ((a0[a1.fN.toNat]!.aa,a0[a1.fN.toNat]!.af))else none else none else bif decide (a1.aW=6)then if(0:Int)<=(0:Int)/\(0:Int)<(↑a3.length:Int)then if(0:Int)<=(0:Int)/\(0:Int)<(↑a2.length:Int)then some ((i64.wrap (0-a3[0]!),i64.wrap (0-a2[0]!)))else none else none else bif decide (a1.aW=8)then if(0:Int)<=(0:Int)/\(0:Int)<(↑a2.length:Int)then if(0:Int)<=(1:Int)/\(1:Int)<(↑a2.length:Int)then if(0:Int)<=(0:Int)/\(0:Int)<(↑a3.length:Int)then if(0:Int)<=(1:Int)/\(1:Int)<(↑a3.length:Int)then some ((i64.wrap (a2[0]! +a2[1]!),i64.wrap (a3[0]! +a3[1]!)))else none else none else none else none else bif decide (a1.aW=9)then if(0:Int)<=(0:Int)/\(0:Int)<(↑a2.length:Int)then if(0:Int)<=(1:Int)/\(1:Int)<(↑a3.length:Int)then if(0:Int)<=(0:Int)/\(0:Int)<(↑a3.length:Int)then if(0:Int)<=(1:Int)/\(1:Int)<(↑a2.length:Int)then some ((i64.wrap (a2[0]! -a3[1]!),i64.wrap (a3[0]! -a2[1]!)))else none else none else none else none else bif decide (a1.aW=10)then if(0:Int)<=(0:Int)/\(0:Int)<(↑a2.length:Int)then if(0:Int)<=(1:Int)/\(1:Int)<(↑a2.length:Int)then if(0:Int)<=(0:Int)/\(0:Int)<(↑a2.length:Int)then if(0:Int)<=(1:Int)/\(1:Int)<(↑a3.length:Int)then if(0:Int)<=(0:Int)/\(0:Int)<(↑a3.length:Int)then if(0:Int)<=(1:Int)/\(1:Int)<(↑a2.length:Int)then if(0:Int)<=(0:Int)/\(0:Int)<(↑a3.length:Int)then if(0:Int)<=(1:Int)/\(1:Int)<(↑a3.length:Int)then some ((iw (iw (i64.wrap (a2[0]! *a2[1]!)) (i64.wrap (a2[0]! *a3[1]!))) (iw (i64.wrap (a3[0]! *a2[1]!)) (i64.wrap (a3[0]! *a3[1]!))),jh (jh (i64.wrap (a2[0]! *a2[1]!)) (i64.wrap (a2[0]! *a3[1]!))) (jh (i64.wrap (a3[0]! *a2[1]!)) (i64.wrap (a3[0]! *a3[1]!)))))else none else none else none else none else none else none else none else none else bif decide (a1.aW=11)then if(0:Int)<=(0:Int)/\(0:Int)<(↑a2.length:Int)then if(0:Int)<=(0:Int)/\(0:Int)<(↑a3.length:Int)then match if(0:Int)<=(0:Int)/\(0:Int)<(↑a2.length:Int)then bif decide (0<=a2[Int.toNat 0]!)then if(0:Int)<=(1:Int)/\(1:Int)<(↑a2.length:Int)then some (decide (0<=a2[Int.toNat 1]!))else none else some (false)else none with|none=>none|some r2=>bif r2 then some ((0,jh (uA a2[0]!) (uA a3[0]!)))else some ((i64.wrap (0-jh (uA a2[0]!) (uA a3[0]!)),jh (uA a2[0]!) (uA a3[0]!)))else none else none else bif decide (a1.aW=12)then if(0:Int)<=(1:Int)/\(1:Int)<(↑a2.length:Int)then if(0:Int)<=(1:Int)/\(1:Int)<(↑a3.length:Int)then some (Ss a2[1]! a3[1]!)else none else none else bif decide (a1.aW=21)then if(0:Int)<=(0:Int)/\(0:Int)<(↑a2.length:Int)then if(0:Int)<=(1:Int)/\(1:Int)<(↑a2.length:Int)then if(0:Int)<=(0:Int)/\(0:Int)<(↑a3.length:Int)then if(0:Int)<=(1:Int)/\(1:Int)<(↑a3.length:Int)then some ((iw a2[0]! a2[1]!,iw a3[0]! a3[1]!))else none else none else none else none else bif decide (a1.aW=22)then if(0:Int)<=(0:Int)/\(0:Int)<(↑a2.length:Int)then if(0:Int)<=(1:Int)/\(1:Int)<(↑a2.length:Int)then if(0:Int)<=(0:Int)/\(0:Int)<(↑a3.length:Int)then if(0:Int)<=(1:Int)/\(1:Int)<(↑a3.length:Int)then some ((jh a2[0]! a2[1]!,jh a3[0]! a3[1]!))else none else none else none else none else bif decide (a1.aW=23)then if(0:Int)<=(1:Int)/\(1:Int)<(↑a2.length:Int)then if(0:Int)<=(1:Int)/\(1:Int)<(↑a3.length:Int)then match yx (oQ.mk a2 a3 a2[1]! a3[1]! (2))with|none=>none|some r3=>bif decide (r3.t17<(↑r3.t2.length:Int))then if(0:Int)<=r3.t17/\r3.t17<(↑r3.t2.length:Int)then if(0:Int)<=r3.t17/\r3.t17<(↑r3.t3.length:Int)then none else none else none else some ((r3.t15,r3.t16))else none else none else bif decide (a1.aW=25)then if(0:Int)<=(1:Int)/\(1:Int)<(↑a2.length:Int)then if(0:Int)<=(1:Int)/\(1:Int)<(↑a3.length:Int)then match yx (oQ.mk a2 a3 a2[1]! a3[1]! (2))with|none=>none|some r4=>bif decide (r4.t17<(↑r4.t2.length:Int))then if(0:Int)<=r4.t17/\r4.t17<(↑r4.t2.length:Int)then if(0:Int)<=r4.t17/\r4.t17<(↑r4.t3.length:Int)then none else none else none else some ((r4.t15,r4.t16))else none else none else some ((0,1))
def ahM:aI->aI:=eL Tryz.prog 271 false (lc (ql 131) (lc (qg 137) (lc (ql 3) (lc (ql 3) ln)))) d271 (fun g=>Xx g.1 g.2.1 g.2.2.1 g.2.2.2.1)
theorem XD:EO ahM:=fun h=>kL (F:=amU) (an:=(.two .no (.two (.two .no (.two .no (.two (.two (.two (.rb [] 29) .no) .no) (.two .no (.two .no (.two .no (.two .no (.two .no (.two .no (.two .no (.two .no (.two .no (.two .no (.two .no (.two (.two .no (.two (.two (.rb [] 154) .no) .no)) (.two .no (.two .no (.two .no (.two .no (.two .no (.two .no (.two .no (.two (.two .no (.two (.two .no (Jt.lp yx .no)) .no)) .no))))))))))))))))))))))) .no))) (l:=[(.skip,(.rb [] 29)),(.skip,(.rb [] 154)),(aS Tryz.f271 0,(Jt.lp yx .no))]) Tryz.func271 (UK (Ux (BH (BW aK)))) (ax abJ (ax abJ (ax (aO Jt) aC))) h
abbrev pX:Type:=Int×Int×Bool
def d222:Td 0 pX:= .c [] [4,5,6] (.r 0 0 (ec 4 (qi .i64) (ec 5 (qi .i64) (ec 6 qb en))) sn (fun z=>(z.1.1,z.1.2.1,z.1.2.2.1)) (fun x=>((x.1,x.2.1,x.2.2,()),(()))) fun _=>rfl)
def aec:=(lc (ql 131) (lc (qg 137) ln))
def afB(M:(List aN)->aq->Option pX):aI->aI:=eL Tryz.prog 222 false aec d222 (fun g=>M g.1 g.2.1)
def Yq(M:(List aN)->aq->Option pX):Prop:=HL Tryz.prog 222 aec d222 (fun g=>M g.1 g.2.1)
theorem Lf{M:(List aN)->aq->Option pX}(hM:Yq M){F:aI}(h:aZ Tryz.prog F):aZ Tryz.prog (afB M F):=fW (sc:=wQ) dL hM ⟨_,Tryz.func222,by kernel_rfl,by kernel_rfl⟩ (fun _=>by kernel_rfl) (fun _=>by kernel_rfl) h
def aev(M222:(List aN)->aq->Option pX):aI:=(ahM (afB M222 cL))
theorem Xv{M222}(h222:Yq M222):aZ Tryz.prog (aev M222):=(XD (Lf h222 aK))
structure rH where
 t0:List aN
 (t7 t8:List Int)
 t9:Int
 b0:aq
def J6:Td 0 rH:= .c [] [0,3,7,8,9] (.r 0 3 (ec 0 (ql 131) (ec 3 (qp 0 0) (ec 7 (qo 1) (ec 8 (qo 2) (ec 9 (qi .i64) en))))) (sb 0 137 (lg 137) (sr 1 3 (sr 2 3 sn))) (fun z=>⟨z.1.1,z.2.2.1,z.2.2.2.1,z.1.2.2.2.2.1,z.2.1⟩) (fun x=>((x.t0,(),(),(),x.t9,()),(x.b0,x.t7,x.t8,()))) fun _=>rfl)
def yl(M222:(List aN)->aq->Option pX)(p:rH):Option (Option rH):=
 bif decide (p.t9<(↑p.b0.aj.length:Int))then if(0:Int)<=p.t9/\p.t9<(↑p.b0.aj.length:Int)then match M222 p.t0 (aq.mk p.b0.aj[p.t9.toNat]!.aW p.b0.aj[p.t9.toNat]!.fN p.b0.aj[p.t9.toNat]!.aj)with|none=>none|some r1=>bif bif r1.snd.snd then false else true then some (none)else if(p.t7++[r1.fst]).length<=1073741824 then if(p.t8++[r1.snd.fst]).length<=1073741824 then some (some (rH.mk p.t0 (p.t7++[r1.fst]) (p.t8++[r1.snd.fst]) (i64.wrap (p.t9+1)) (aq.mk p.b0.aW p.b0.fN p.b0.aj)))else none else none else none else some (none)
def DC(M222:(List aN)->aq->Option pX):rH->Option rH:=bt (yl M222)
def aax(M222:(List aN)->aq->Option pX):An:=(.two .no (.two .no (.two .no (.two (.two .no (J6.lp (DC M222) .no)) .no))))
theorem akL(M222:(List aN)->aq->Option pX):eC Tryz.prog (aev M222) 0 300 222 (aax M222):=bT (l:=[(aS Tryz.f222 0,(J6.lp (DC M222) .no))]) Tryz.func222 (bA (by kernel_rfl)) (by kernel_rfl) (ax (aO J6) aC)
def ZE(M222:(List aN)->aq->Option pX)(a0:List aN)(a1:aq):Option pX:=
 match DC M222 (rH.mk a0 [] [] (0) (aq.mk a1.aW a1.fN a1.aj))with|none=>none|some r2=>bif decide (r2.t9<(↑r2.b0.aj.length:Int))then if(0:Int)<=r2.t9/\r2.t9<(↑r2.b0.aj.length:Int)then match M222 r2.t0 (aq.mk r2.b0.aj[r2.t9.toNat]!.aW r2.b0.aj[r2.t9.toNat]!.fN r2.b0.aj[r2.t9.toNat]!.aj)with|none=>none|some r3=>bif bif r3.snd.snd then false else true then some ((0,0,false))else if(r2.t7++[r3.fst]).length<=1073741824 then if(r2.t8++[r3.snd.fst]).length<=1073741824 then none else none else none else none else match Xx r2.t0 (aq.mk r2.b0.aW r2.b0.fN r2.b0.aj) r2.t7 r2.t8 with|none=>none|some r4=>bif decide (-1048576<=r4.fst)then some ((r4.fst,r4.snd,decide (r4.snd<=1048576)))else some ((r4.fst,r4.snd,false))
theorem ao3(M222:(List aN)->aq->Option pX)(a0:List aN)(a1:aq):bK Tryz.prog (aev M222) 300 (aax M222) 222 (aec.c (a0,a1,())) [] 0 d222.rd=ZE M222 a0 a1:=by kernel_rfl
def aa4:Nat->((List aN)->aq->Option pX)
 |0=>(fun _ _=>none)
 |n+1=>(ZE (aa4 n))
def IL(n:Nat):(List aN)->aq->Option pX:=(aa4 n)
theorem GQ:∀n,Yq (IL n)
 |0=>fun _ _ h=>(by cases h)
 |n+1=>by
  have ih:=GQ n
  have i222:=ih
  exact(dx (Xv i222) (akL (IL n)) (fun _=>by kernel_rfl) (fun _=>by kernel_rfl) fun g=>ao3 (IL n) g.1 g.2.1)
def ZQ:(List aN)->aq->Option pX:=fun a0 a1=>lim (fun n=>IL n a0 a1)
theorem ZP:Yq ZQ:=fun g b h=>by
 obtain⟨n,hn⟩:=cz (show lim (fun n=>IL n g.1 g.2.1)=some b from h)
 exact(GQ n) g b hn
def aon(F:aI):aI:=afB ZQ F
theorem VV{F:aI}(h:aZ Tryz.prog F):aZ Tryz.prog (aon F):=Lf ZP h
abbrev ajr:Type:=Int
def d142:Td 0 ajr:= .c [] [6] (.r 0 0 (ec 6 (qi .i64) en) sn (fun z=>z.1.1) (fun x=>((x,()),(()))) fun _=>rfl)
def BX(a0:List aN)(a1:aq)(a2:Bool):Option ajr:=
 match Xg a0 (aq.mk a1.aW a1.fN a1.aj) a2 with|none=>none|some r1=>bif bif r1 then false else true then some (1)else match ZQ a0 (aq.mk a1.aW a1.fN a1.aj)with|none=>none|some r2=>bif bif r2.snd.snd then false else true then some (3)else some (0)
def Z8:aI->aI:=eL Tryz.prog 142 false (lc (ql 131) (lc (qg 137) (lc qb ln))) d142 (fun g=>BX g.1 g.2.1 g.2.2.1)
theorem KY:EO Z8:=fun h=>kL (an:= .no) Tryz.func142 (VV (Yz aK)) aC h
theorem Oq:EP Z8:=fun h=>kP h
def ac5:aI:=cL
abbrev ada:Type:=Bool
def d272:Td 0 ada:= .c [] [2] (.r 0 0 (ec 2 qb en) sn (fun z=>z.1.1) (fun x=>((x,()),(()))) fun _=>rfl)
def aiI:=(lc (qg 137) ln)
def aci:An:=(.two .no (.two (.rb [] 2) .no))
theorem aiZ:∀f∈([]:List Nat),aV (ac5) f:=aC
def Gc(a0:aq):ada:=
 let r1:Bool:=bif decide (a0.aW=0)then bif decide (a0.fN=0)then decide ((↑a0.aj.length:Int)=0)else false else false;r1
theorem aoI(a0:aq):bK Tryz.prog (ac5) 300 (aci) 272 (aiI.c (a0,())) [] 0 d272.rd=some (Gc a0):=by
 refine Eq.trans (b:=(
  match bif decide (a0.aW=0)then bif decide (a0.fN=0)then some (decide ((↑a0.aj.length:Int)=0))else some (false)else some (false)with|none=>none|some r1=>some (r1):Option ada)) (by kernel_rfl) ?_
 simp only[Gc,bX,cn]
def aer:aI->aI:=eL Tryz.prog 272 false aiI d272 (fun g=>some (Gc g.1))
theorem WM:EO aer:=fun h=>kL (F:=ac5) (an:=aci) (l:=[(.skip,(.rb [] 2))]) Tryz.func272 aK (ax aiZ aC) h (c:=fun g=>aoI g.1)
theorem zY:EP aer:=fun h=>kP h
def ahO:aI:=cL
structure rO where
 t0:List Int
 t3:Int
def I7:Td 0 rO:= .c [] [0,3] (.r 0 0 (ec 0 (ql 3) (ec 3 (qi .i64) en)) sn (fun z=>⟨z.1.1,z.1.2.1⟩) (fun x=>((x.t0,x.t3,()),(()))) fun _=>rfl)
def CG(p:rO):Option (Option rO):=
 bif decide (p.t3<(↑p.t0.length:Int))then if(0:Int)<=p.t3/\p.t3<(↑p.t0.length:Int)then if(0:Int)<=i64.wrap (p.t3-(1:Int))/\i64.wrap (p.t3-(1:Int))<(↑p.t0.length:Int)then bif decide (((p.t0,p.t3,()),()).fst.fst[((p.t0,p.t3,()),()).fst.snd.fst.toNat]!<=((p.t0,p.t3,()),()).fst.fst[(i64.wrap (((p.t0,p.t3,()),()).fst.snd.fst-1)).toNat]!)then some (none)else some (some (rO.mk p.t0 (i64.wrap (p.t3+1))))else none else none else some (none)
def B5:rO->Option rO:=bt (CG)
abbrev ai0:Type:=Bool
def d273:Td 0 ai0:= .c [] [2] (.r 0 0 (ec 2 qb en) sn (fun z=>z.1.1) (fun x=>((x,()),(()))) fun _=>rfl)
theorem ahS:∀f∈([]:List Nat),aV (ahO) f:=aC
def VW(a0:List Int):Option ai0:=
 match bif decide ((↑a0.length:Int)<1)then some (true)else bif decide (32<(↑a0.length:Int))then some (true)else if(0:Int)<=(0:Int)/\(0:Int)<(↑a0.length:Int)then some (decide (a0[Int.toNat 0]! <0))else none with|none=>none|some r1=>bif r1 then some (false)else match B5 (rO.mk a0 (1))with|none=>none|some r2=>bif decide (r2.t3<(↑r2.t0.length:Int))then if(0:Int)<=r2.t3/\r2.t3<(↑r2.t0.length:Int)then if(0:Int)<=i64.wrap (r2.t3-(1:Int))/\i64.wrap (r2.t3-(1:Int))<(↑r2.t0.length:Int)then bif decide (((r2.t0,r2.t3,()),()).fst.fst[((r2.t0,r2.t3,()),()).fst.snd.fst.toNat]!<=((r2.t0,r2.t3,()),()).fst.fst[(i64.wrap (((r2.t0,r2.t3,()),()).fst.snd.fst-1)).toNat]!)then some (false)else none else none else none else some (true)
def afc:aI->aI:=eL Tryz.prog 273 false (lc (ql 3) ln) d273 (fun g=>VW g.1)
theorem T8:EO afc:=fun h=>kL (F:=ahO) (an:=(.two .no (.two (.two (.rb [] 17) .no) (.two (.two .no (I7.lp B5 .no)) .no)))) (l:=[(.skip,(.rb [] 17)),(aS Tryz.f273 0,(I7.lp B5 .no))]) Tryz.func273 aK (ax ahS (ax (aO I7) aC)) h
theorem Af:EP afc:=fun h=>kP h
def akp:aI:=(afc (aer cL))
abbrev amg:Type:=Bool
def d223:Td 0 amg:= .c [] [6] (.r 0 0 (ec 6 qb en) sn (fun z=>z.1.1) (fun x=>((x,()),(()))) fun _=>rfl)
theorem tf:∀f∈([272,273]:List Nat),aV (akp) f:=(ax (Af (zY aY)) (ax (Af (zY aY)) aC))
def IN(a0:Flat)(a1:GStep)(a2:Bool):Option amg:=
 match bif decide ((↑a1.aH.length:Int)=0)then some (decide ((↑a1.aJ.length:Int)=0))else some (false)with|none=>none|some r1=>match bif decide (0<=a1.cC)then bif decide (a1.cC<(↑a0.ah.length:Int))then if(0:Int)<=a1.cC/\a1.cC<(↑a0.ah.length:Int)then some (decide (a0.ah[a1.cC.toNat]!.bf=0))else none else some (false)else some (false)with|none=>none|some r2=>bif decide (a1.bG=0)then match bif r1 then bif r2 then bif decide (a1.fN=0)then some (decide ((↑a1.aG.length:Int)=0))else some (false)else some (false)else some (false)with|none=>none|some r3=>some (r3)else bif decide (a1.bG=1)then match bif r1 then bif decide (a1.cC=0)then bif decide (a1.fN=0)then some (decide ((↑a1.aG.length:Int)=0))else some (false)else some (false)else some (false)with|none=>none|some r4=>some (r4)else bif decide (a1.bG=2)then match bif r1 then bif decide (a1.cC=0)then bif decide (a1.fN=0)then bif decide ((↑a1.aG.length:Int)=0)then some (Gc (aq.mk a1.au.aW a1.au.fN a1.au.aj))else some (false)else some (false)else some (false)else some (false)with|none=>none|some r5=>some (r5)else bif decide (a1.bG=3)then match bif decide (a1.cC=0)then bif decide (a1.fN=0)then some (decide ((↑a1.aG.length:Int)=0))else some (false)else some (false)with|none=>none|some r6=>some (r6)else bif decide (a1.bG=4)then match bif decide (a1.cC=0)then bif decide ((↑a1.aJ.length:Int)=0)then some (decide ((↑a1.aG.length:Int)=0))else some (false)else some (false)with|none=>none|some r7=>some (r7)else bif decide (a1.bG=5)then match bif r1 then bif r2 then bif decide (0<=a1.fN)then bif decide (a1.fN<(↑a0.ai.length:Int))then bif decide ((↑a1.aG.length:Int)=0)then some (Gc (aq.mk a1.au.aW a1.au.fN a1.au.aj))else some (false)else some (false)else some (false)else some (false)else some (false)with|none=>none|some r8=>some (r8)else bif decide (a1.bG=6)then match bif r1 then bif a2 then bif decide (a1.cC=0)then bif decide (a1.fN=0)then bif Gc (aq.mk a1.au.aW a1.au.fN a1.au.aj)then match VW a1.aG with|none=>none|some r9=>some (r9)else some (false)else some (false)else some (false)else some (false)else some (false)with|none=>none|some r10=>some (r10)else some (false)
def aeH:aI->aI:=eL Tryz.prog 223 false (lc (qg 26) (lc (qg 166) (lc qb ln))) d223 (fun g=>IN g.1 g.2.1 g.2.2.1)
theorem Wh:EO aeH:=fun h=>kL (F:=akp) (an:=(.two .no (.two (.rb [272,273] 7) (.two (.rb [272,273] 8) (.two (.two .no (.two .no (.two (.two (.rb [272,273] 6) .no) (.two .no (.two (.two (.rb [272,273] 6) .no) (.two .no (.two (.two (.rb [272,273] 6) .no) (.two .no (.two (.two (.rb [272,273] 6) .no) (.two .no (.two (.two (.rb [272,273] 6) .no) (.two .no (.two (.two (.rb [272,273] 6) .no) (.two .no (.two (.two (.rb [272,273] 6) .no) .no))))))))))))))) .no))))) (l:=[(.skip,(.rb [272,273] 7)),(.skip,(.rb [272,273] 8)),(.skip,(.rb [272,273] 6)),(.skip,(.rb [272,273] 6)),(.skip,(.rb [272,273] 6)),(.skip,(.rb [272,273] 6)),(.skip,(.rb [272,273] 6)),(.skip,(.rb [272,273] 6)),(.skip,(.rb [272,273] 6))]) Tryz.func223 (T8 (WM aK)) (ax tf (ax tf (ax tf (ax tf (ax tf (ax tf (ax tf (ax tf (ax tf aC))))))))) h
theorem Oc:EP aeH:=fun h=>kP h
abbrev lZ:Type:=Int
def d143:Td 0 lZ:= .c [] [6] (.r 0 0 (ec 6 (qi .i64) en) sn (fun z=>z.1.1) (fun x=>((x,()),(()))) fun _=>rfl)
def adG:=(lc (qg 26) (lc (ql 166) (lc qb ln)))
def X5(M:Flat->(List GStep)->Bool->Option lZ):aI->aI:=eL Tryz.prog 143 false adG d143 (fun g=>M g.1 g.2.1 g.2.2.1)
theorem Nl{M:Flat->(List GStep)->Bool->Option lZ}{F:aI}{f:Nat}(h:aV F f):aV (X5 M F) f:=fy h (fun _=>by kernel_rfl)
def Y6(M:Flat->(List GStep)->Bool->Option lZ):Prop:=HL Tryz.prog 143 adG d143 (fun g=>M g.1 g.2.1 g.2.2.1)
theorem MH{M:Flat->(List GStep)->Bool->Option lZ}(hM:Y6 M){F:aI}(h:aZ Tryz.prog F):aZ Tryz.prog (X5 M F):=fW (sc:=wQ) dL hM ⟨_,Tryz.func143,by kernel_rfl,by kernel_rfl⟩ (fun _=>by kernel_rfl) (fun _=>by kernel_rfl) h
def aan(M143:Flat->(List GStep)->Bool->Option lZ):aI:=(aeH (X5 M143 (Z8 cL)))
theorem T1{M143}(h143:Y6 M143):aZ Tryz.prog (aan M143):=(Wh (MH h143 (KY aK)))
structure nL where
 t1:List GStep
 t2:Bool
 t7:Int
 b0:Flat
def HT:Td 0 nL:= .c [] [1,2,3,7] (.r 0 1 (ec 1 (ql 166) (ec 2 qb (ec 3 (qp 0 0) (ec 7 (qi .i64) en)))) (sb 0 26 (lg 26) sn) (fun z=>⟨z.1.1,z.1.2.1,z.1.2.2.2.1,z.2.1⟩) (fun x=>((x.t1,x.t2,(),x.t7,()),(x.b0,()))) fun _=>rfl)
def uR(M143:Flat->(List GStep)->Bool->Option lZ)(p:nL):Option (Option nL):=
 bif decide (p.t7<(↑p.t1.length:Int))then if(0:Int)<=p.t7/\p.t7<(↑p.t1.length:Int)then match bif p.t2 then match IN p.b0 (GStep.mk p.t1[p.t7.toNat]!.bG p.t1[p.t7.toNat]!.aL p.t1[p.t7.toNat]!.cC p.t1[p.t7.toNat]!.fN (aq.mk p.t1[p.t7.toNat]!.au.aW p.t1[p.t7.toNat]!.au.fN p.t1[p.t7.toNat]!.au.aj) p.t1[p.t7.toNat]!.aH p.t1[p.t7.toNat]!.aJ p.t1[p.t7.toNat]!.aG) (decide (((p.t1,p.t2,(),p.t7,()),p.b0,()).fst.snd.snd.snd.fst=i64.wrap ((↑((p.t1,p.t2,(),p.t7,()),p.b0,()).fst.fst.length:Int)-1)))with|none=>none|some r1=>some (bif r1 then false else true)else match IN p.b0 (GStep.mk p.t1[p.t7.toNat]!.bG p.t1[p.t7.toNat]!.aL p.t1[p.t7.toNat]!.cC p.t1[p.t7.toNat]!.fN (aq.mk p.t1[p.t7.toNat]!.au.aW p.t1[p.t7.toNat]!.au.fN p.t1[p.t7.toNat]!.au.aj) p.t1[p.t7.toNat]!.aH p.t1[p.t7.toNat]!.aJ p.t1[p.t7.toNat]!.aG) false with|none=>none|some r2=>some (bif r2 then false else true)with|none=>none|some r3=>bif r3 then some (none)else bif decide (p.t1[p.t7.toNat]!.bG=2)then match bif decide (p.t1[p.t7.toNat]!.aL<0)then some (true)else bif decide (67108864<p.t1[p.t7.toNat]!.aL)then some (true)else bif decide (p.t1[p.t7.toNat]!.fN<0)then some (true)else bif decide (p.t1[p.t7.toNat]!.bG=4)then some (decide (4096<p.t1[p.t7.toNat]!.fN))else some (false)with|none=>none|some r4=>bif r4 then some (none)else match bif decide (0<(↑p.t1[p.t7.toNat]!.aG.length:Int))then if(0:Int)<=i64.wrap ((↑p.t1[p.t7.toNat]!.aG.length:Int)-(1:Int))/\i64.wrap ((↑p.t1[p.t7.toNat]!.aG.length:Int)-(1:Int))<(↑p.t1[p.t7.toNat]!.aG.length:Int)then some (decide (67108864<((p.t1,p.t2,(),p.t7,()),p.b0,()).fst.fst[((p.t1,p.t2,(),p.t7,()),p.b0,()).fst.snd.snd.snd.fst.toNat]!.aG[(i64.wrap ((↑((p.t1,p.t2,(),p.t7,()),p.b0,()).fst.fst[((p.t1,p.t2,(),p.t7,()),p.b0,()).fst.snd.snd.snd.fst.toNat]!.aG.length:Int)-1)).toNat]!))else none else some (false)with|none=>none|some r5=>bif r5 then some (none)else match BX p.b0.ah (aq.mk p.t1[p.t7.toNat]!.au.aW p.t1[p.t7.toNat]!.au.fN p.t1[p.t7.toNat]!.au.aj) false with|none=>none|some r6=>bif bif decide (r6=0)then false else true then some (none)else match M143 p.b0 p.t1[p.t7.toNat]!.aH false with|none=>none|some r7=>bif bif decide (r7=0)then false else true then some (none)else match M143 p.b0 p.t1[p.t7.toNat]!.aJ false with|none=>none|some r8=>bif bif decide (r8=0)then false else true then some (none)else some (some (nL.mk p.t1 p.t2 (i64.wrap (p.t7+1)) p.b0))else match bif decide (p.t1[p.t7.toNat]!.aL<0)then some (true)else bif decide (10000<p.t1[p.t7.toNat]!.aL)then some (true)else bif decide (p.t1[p.t7.toNat]!.fN<0)then some (true)else bif decide (p.t1[p.t7.toNat]!.bG=4)then some (decide (4096<p.t1[p.t7.toNat]!.fN))else some (false)with|none=>none|some r9=>bif r9 then some (none)else match bif decide (0<(↑p.t1[p.t7.toNat]!.aG.length:Int))then if(0:Int)<=i64.wrap ((↑p.t1[p.t7.toNat]!.aG.length:Int)-(1:Int))/\i64.wrap ((↑p.t1[p.t7.toNat]!.aG.length:Int)-(1:Int))<(↑p.t1[p.t7.toNat]!.aG.length:Int)then some (decide (67108864<((p.t1,p.t2,(),p.t7,()),p.b0,()).fst.fst[((p.t1,p.t2,(),p.t7,()),p.b0,()).fst.snd.snd.snd.fst.toNat]!.aG[(i64.wrap ((↑((p.t1,p.t2,(),p.t7,()),p.b0,()).fst.fst[((p.t1,p.t2,(),p.t7,()),p.b0,()).fst.snd.snd.snd.fst.toNat]!.aG.length:Int)-1)).toNat]!))else none else some (false)with|none=>none|some r10=>bif r10 then some (none)else match BX p.b0.ah (aq.mk p.t1[p.t7.toNat]!.au.aW p.t1[p.t7.toNat]!.au.fN p.t1[p.t7.toNat]!.au.aj) false with|none=>none|some r11=>bif bif decide (r11=0)then false else true then some (none)else match M143 p.b0 p.t1[p.t7.toNat]!.aH false with|none=>none|some r12=>bif bif decide (r12=0)then false else true then some (none)else match M143 p.b0 p.t1[p.t7.toNat]!.aJ false with|none=>none|some r13=>bif bif decide (r13=0)then false else true then some (none)else some (some (nL.mk p.t1 p.t2 (i64.wrap (p.t7+1)) p.b0))else none else some (none)
def Se(M143:Flat->(List GStep)->Bool->Option lZ):An:=(.two .no (.two (.two .no (.two (.two (.rb [223] 32) .no) (.two .no (.two .no (.two (.two (.rb [223] 59) .no) (.two (.two (.rb [223] 74) .no) .no)))))) .no))
def Dj(M143:Flat->(List GStep)->Bool->Option lZ):nL->Option nL:=bt (uR M143)
def ab2(M143:Flat->(List GStep)->Bool->Option lZ):An:=(.two .no (.two (.two .no (HT.lp (Dj M143) (Se M143))) .no))
theorem OP{M143}:∀f∈([223]:List Nat),aV (aan M143) f:=(ax (Oc (Nl (Oq aY))) aC)
theorem ajV(M143:Flat->(List GStep)->Bool->Option lZ):eC Tryz.prog (aan M143) 0 300 143 (ab2 M143):=bT (l:=[(aS Tryz.f143 0,(HT.lp (Dj M143) (Se M143))),(.skip,(.rb [223] 32)),(.skip,(.rb [223] 59)),(.skip,(.rb [223] 74))]) Tryz.func143 (bA (by kernel_rfl)) (by kernel_rfl) (ax (aO HT) (ax OP (ax OP (ax OP aC))))
def ZH(M143:Flat->(List GStep)->Bool->Option lZ)(a0:Flat)(a1:List GStep)(a2:Bool):Option lZ:=
 match Dj M143 (nL.mk a1 a2 (0) a0)with|none=>none|some r14=>bif decide (r14.t7<(↑r14.t1.length:Int))then if(0:Int)<=r14.t7/\r14.t7<(↑r14.t1.length:Int)then match bif r14.t2 then match IN r14.b0 (GStep.mk r14.t1[r14.t7.toNat]!.bG r14.t1[r14.t7.toNat]!.aL r14.t1[r14.t7.toNat]!.cC r14.t1[r14.t7.toNat]!.fN (aq.mk r14.t1[r14.t7.toNat]!.au.aW r14.t1[r14.t7.toNat]!.au.fN r14.t1[r14.t7.toNat]!.au.aj) r14.t1[r14.t7.toNat]!.aH r14.t1[r14.t7.toNat]!.aJ r14.t1[r14.t7.toNat]!.aG) (decide (((r14.t1,r14.t2,(),r14.t7,()),r14.b0,()).fst.snd.snd.snd.fst=i64.wrap ((↑((r14.t1,r14.t2,(),r14.t7,()),r14.b0,()).fst.fst.length:Int)-1)))with|none=>none|some r15=>some (bif r15 then false else true)else match IN r14.b0 (GStep.mk r14.t1[r14.t7.toNat]!.bG r14.t1[r14.t7.toNat]!.aL r14.t1[r14.t7.toNat]!.cC r14.t1[r14.t7.toNat]!.fN (aq.mk r14.t1[r14.t7.toNat]!.au.aW r14.t1[r14.t7.toNat]!.au.fN r14.t1[r14.t7.toNat]!.au.aj) r14.t1[r14.t7.toNat]!.aH r14.t1[r14.t7.toNat]!.aJ r14.t1[r14.t7.toNat]!.aG) false with|none=>none|some r16=>some (bif r16 then false else true)with|none=>none|some r17=>bif r17 then some (1)else bif decide (r14.t1[r14.t7.toNat]!.bG=2)then match bif decide (r14.t1[r14.t7.toNat]!.aL<0)then some (true)else bif decide (67108864<r14.t1[r14.t7.toNat]!.aL)then some (true)else bif decide (r14.t1[r14.t7.toNat]!.fN<0)then some (true)else bif decide (r14.t1[r14.t7.toNat]!.bG=4)then some (decide (4096<r14.t1[r14.t7.toNat]!.fN))else some (false)with|none=>none|some r18=>bif r18 then some (3)else match bif decide (0<(↑r14.t1[r14.t7.toNat]!.aG.length:Int))then if(0:Int)<=i64.wrap ((↑r14.t1[r14.t7.toNat]!.aG.length:Int)-(1:Int))/\i64.wrap ((↑r14.t1[r14.t7.toNat]!.aG.length:Int)-(1:Int))<(↑r14.t1[r14.t7.toNat]!.aG.length:Int)then some (decide (67108864<((r14.t1,r14.t2,(),r14.t7,()),r14.b0,()).fst.fst[((r14.t1,r14.t2,(),r14.t7,()),r14.b0,()).fst.snd.snd.snd.fst.toNat]!.aG[(i64.wrap ((↑((r14.t1,r14.t2,(),r14.t7,()),r14.b0,()).fst.fst[((r14.t1,r14.t2,(),r14.t7,()),r14.b0,()).fst.snd.snd.snd.fst.toNat]!.aG.length:Int)-1)).toNat]!))else none else some (false)with|none=>none|some r19=>bif r19 then some (3)else match BX r14.b0.ah (aq.mk r14.t1[r14.t7.toNat]!.au.aW r14.t1[r14.t7.toNat]!.au.fN r14.t1[r14.t7.toNat]!.au.aj) false with|none=>none|some r20=>bif bif decide (r20=0)then false else true then some (r20)else match M143 r14.b0 r14.t1[r14.t7.toNat]!.aH false with|none=>none|some r21=>bif bif decide (r21=0)then false else true then some (r21)else match M143 r14.b0 r14.t1[r14.t7.toNat]!.aJ false with|none=>none|some r22=>bif bif decide (r22=0)then false else true then some (r22)else none else match bif decide (r14.t1[r14.t7.toNat]!.aL<0)then some (true)else bif decide (10000<r14.t1[r14.t7.toNat]!.aL)then some (true)else bif decide (r14.t1[r14.t7.toNat]!.fN<0)then some (true)else bif decide (r14.t1[r14.t7.toNat]!.bG=4)then some (decide (4096<r14.t1[r14.t7.toNat]!.fN))else some (false)with|none=>none|some r23=>bif r23 then some (3)else match bif decide (0<(↑r14.t1[r14.t7.toNat]!.aG.length:Int))then if(0:Int)<=i64.wrap ((↑r14.t1[r14.t7.toNat]!.aG.length:Int)-(1:Int))/\i64.wrap ((↑r14.t1[r14.t7.toNat]!.aG.length:Int)-(1:Int))<(↑r14.t1[r14.t7.toNat]!.aG.length:Int)then some (decide (67108864<((r14.t1,r14.t2,(),r14.t7,()),r14.b0,()).fst.fst[((r14.t1,r14.t2,(),r14.t7,()),r14.b0,()).fst.snd.snd.snd.fst.toNat]!.aG[(i64.wrap ((↑((r14.t1,r14.t2,(),r14.t7,()),r14.b0,()).fst.fst[((r14.t1,r14.t2,(),r14.t7,()),r14.b0,()).fst.snd.snd.snd.fst.toNat]!.aG.length:Int)-1)).toNat]!))else none else some (false)with|none=>none|some r24=>bif r24 then some (3)else match BX r14.b0.ah (aq.mk r14.t1[r14.t7.toNat]!.au.aW r14.t1[r14.t7.toNat]!.au.fN r14.t1[r14.t7.toNat]!.au.aj) false with|none=>none|some r25=>bif bif decide (r25=0)then false else true then some (r25)else match M143 r14.b0 r14.t1[r14.t7.toNat]!.aH false with|none=>none|some r26=>bif bif decide (r26=0)then false else true then some (r26)else match M143 r14.b0 r14.t1[r14.t7.toNat]!.aJ false with|none=>none|some r27=>bif bif decide (r27=0)then false else true then some (r27)else none else none else some (0)
theorem apq(M143:Flat->(List GStep)->Bool->Option lZ)(a0:Flat)(a1:List GStep)(a2:Bool):bK Tryz.prog (aan M143) 300 (ab2 M143) 143 (adG.c (a0,a1,a2,())) [] 0 d143.rd=ZH M143 a0 a1 a2:=by kernel_rfl
def acd:Nat->(Flat->(List GStep)->Bool->Option lZ)
 |0=>(fun _ _ _=>none)
 |n+1=>(ZH (acd n))
def Ii(n:Nat):Flat->(List GStep)->Bool->Option lZ:=(acd n)
theorem Fa:∀n,Y6 (Ii n)
 |0=>fun _ _ h=>(by cases h)
 |n+1=>by
  have ih:=Fa n
  have i143:=ih
  exact(dx (T1 i143) (ajV (Ii n)) (fun _=>by kernel_rfl) (fun _=>by kernel_rfl) fun g=>apq (Ii n) g.1 g.2.1 g.2.2.1)
def TG:Flat->(List GStep)->Bool->Option lZ:=fun a0 a1 a2=>lim (fun n=>Ii n a0 a1 a2)
theorem XB:Y6 TG:=fun g b h=>by
 obtain⟨n,hn⟩:=cz (show lim (fun n=>Ii n g.1 g.2.1 g.2.2.1)=some b from h)
 exact(Fa n) g b hn
def am3(F:aI):aI:=X5 TG F
theorem V2{F:aI}(h:aZ Tryz.prog F):aZ Tryz.prog (am3 F):=MH XB h
def F78:aI:=(am3 (Z8 (aag (aaf (ajZ (ahU (e90 cL)))))))
structure vH where
 (t4 t6:Int)
 b0:Flat
 b1:cy
def SW:Td 0 vH:= .c [] [1,4,5,6] (.r 0 2 (ec 1 (qp 0 0) (ec 4 (qi .i64) (ec 5 (qp 1 0) (ec 6 (qi .i64) en)))) (sb 0 26 (lg 26) (sb 1 139 (lg 139) sn)) (fun z=>⟨z.1.2.1,z.1.2.2.2.1,z.2.1,z.2.2.1⟩) (fun x=>(((),x.t4,(),x.t6,()),(x.b0,x.b1,()))) fun _=>rfl)
def K3(p:vH):Option (Option vH):=
 bif decide (p.t6<p.t4)then if(0:Int)<=p.t6/\p.t6<(↑p.b0.ai.length:Int)then bif p.b0.ai[p.t6.toNat]!.fName.toList==p.b1.fName.toList then some (none)else some (some (vH.mk p.t4 (i64.wrap (p.t6+1)) p.b0 (cy.mk p.b1.fName p.b1.aa p.b1.af (aq.mk p.b1.au.aW p.b1.au.fN p.b1.au.aj))))else none else some (none)
def GR:vH->Option vH:=bt (K3)
structure yH where
 t4:Int
 b0:Flat
def RD:Td 0 yH:= .c [] [1,4] (.r 0 1 (ec 1 (qp 0 0) (ec 4 (qi .i64) en)) (sb 0 26 (lg 26) sn) (fun z=>⟨z.1.2.1,z.2.1⟩) (fun x=>(((),x.t4,()),(x.b0,()))) fun _=>rfl)
def AP(p:yH):Option (Option yH):=
 bif decide (p.t4<(↑p.b0.ai.length:Int))then if(0:Int)<=p.t4/\p.t4<(↑p.b0.ai.length:Int)then match Il p.b0.ai[p.t4.toNat]!.fName with|none=>none|some r1=>bif bif r1 then false else true then some (none)else match GR (vH.mk p.t4 (0) p.b0 (cy.mk p.b0.ai[p.t4.toNat]!.fName p.b0.ai[p.t4.toNat]!.aa p.b0.ai[p.t4.toNat]!.af (aq.mk p.b0.ai[p.t4.toNat]!.au.aW p.b0.ai[p.t4.toNat]!.au.fN p.b0.ai[p.t4.toNat]!.au.aj)))with|none=>none|some r2=>bif decide (r2.t6<r2.t4)then if(0:Int)<=r2.t6/\r2.t6<(↑r2.b0.ai.length:Int)then bif r2.b0.ai[r2.t6.toNat]!.fName.toList==r2.b1.fName.toList then some (none)else none else none else bif bif DV r2.b1.aa r2.b1.af then false else true then some (none)else match BX r2.b0.ah (aq.mk r2.b1.au.aW r2.b1.au.fN r2.b1.au.aj) true with|none=>none|some r3=>bif bif decide (r3=0)then false else true then some (none)else some (some (yH.mk (i64.wrap (r2.t4+1)) r2.b0))else none else some (none)
def abq:An:=(.two .no (.two (.two .no (.two .no (.two (.two .no (SW.lp GR .no)) .no))) .no))
def MB:yH->Option yH:=bt (AP)
abbrev E78:Type:=Int
def d78:Td 0 E78:= .c [] [2] (.r 0 0 (ec 2 (qi .i64) en) sn (fun z=>z.1.1) (fun x=>((x,()),(()))) fun _=>rfl)
theorem aqx:∀f∈([]:List Nat),aV (F78) f:=aC
def m78(a0:Flat):Option E78:=
 match aad a0 with|none=>none|some r4=>bif bif r4 then false else true then some (4)else match XZ a0.ah with|none=>none|some r5=>bif bif decide (r5=0)then false else true then some (r5)else match MB (yH.mk (0) a0)with|none=>none|some r6=>bif decide (r6.t4<(↑r6.b0.ai.length:Int))then if(0:Int)<=r6.t4/\r6.t4<(↑r6.b0.ai.length:Int)then match Il r6.b0.ai[r6.t4.toNat]!.fName with|none=>none|some r7=>bif bif r7 then false else true then some (7)else match GR (vH.mk r6.t4 (0) r6.b0 (cy.mk r6.b0.ai[r6.t4.toNat]!.fName r6.b0.ai[r6.t4.toNat]!.aa r6.b0.ai[r6.t4.toNat]!.af (aq.mk r6.b0.ai[r6.t4.toNat]!.au.aW r6.b0.ai[r6.t4.toNat]!.au.fN r6.b0.ai[r6.t4.toNat]!.au.aj)))with|none=>none|some r8=>bif decide (r8.t6<r8.t4)then if(0:Int)<=r8.t6/\r8.t6<(↑r8.b0.ai.length:Int)then bif r8.b0.ai[r8.t6.toNat]!.fName.toList==r8.b1.fName.toList then some (8)else none else none else bif bif DV r8.b1.aa r8.b1.af then false else true then some (3)else match BX r8.b0.ah (aq.mk r8.b1.au.aW r8.b1.au.fN r8.b1.au.aj) true with|none=>none|some r9=>bif bif decide (r9=0)then false else true then some (r9)else none else none else match TG r6.b0 r6.b0.bw true with|none=>none|some r10=>bif bif decide (r10=0)then false else true then some (r10)else match r90 r6.b0.bw with|none=>none|some r11=>match bif decide (4096<r11.fst)then some (true)else bif decide (8<r11.snd.fst)then some (true)else some (decide (67108864<r11.snd.snd))with|none=>none|some r12=>bif r12 then some (4)else some (0)
def e78:aI->aI:=eL Tryz.prog 78 false (lc (qg 26) ln) d78 (fun g=>m78 g.1)
theorem Hx:EO e78:=fun h=>kL (F:=F78) (an:=(.two .no (.two .no (.two .no (.two .no (.two (.two .no (RD.lp MB abq)) (.two .no (.two .no (.two .no (.two (.two (.rb [] 86) .no) .no)))))))))) (l:=[(aS Tryz.f78 0,(RD.lp MB abq)),(aS Tryz.f78 1,(SW.lp GR .no)),(.skip,(.rb [] 86))]) Tryz.func78 (V2 (KY (L8 (Lz (UP (XI (PZ aK))))))) (ax (aO RD) (ax (aO SW) (ax aqx aC))) h
theorem jC:EP e78:=fun h=>kP h
def alD:aI:=cL
abbrev alm:Type:=aD
def d103:Td 0 alm:= .c [] [0] (.r 0 1 (ec 0 (qp 0 0) en) (sb 0 34 (lg 34) sn) (fun z=>z.2.1) (fun x=>(((),()),(x,()))) fun _=>rfl)
def aiN:=ln
def abF:An:= .no
def oy:alm:=
 aD.mk (1) (0) (0)
theorem apE:bK Tryz.prog (alD) 300 (abF) 103 (aiN.c ()) [] 0 d103.rd=some (oy):=by kernel_rfl
def Bp:aI->aI:=eL Tryz.prog 103 false aiN d103 (fun _=>some (oy))
theorem jo:EO Bp:=fun h=>kL (F:=alD) (an:=abF) Tryz.func103 aK aC h (c:=fun _=>apE)
theorem gK:EP Bp:=fun h=>kP h
def afD:aI:=cL
abbrev adi:Type:=Bool
def d162:Td 0 adi:= .c [] [2] (.r 0 0 (ec 2 qb en) sn (fun z=>z.1.1) (fun x=>((x,()),(()))) fun _=>rfl)
def akG:=(lc (qi .i64) ln)
def abz:An:=(.two .no (.two (.rb [] 2) .no))
theorem alc:∀f∈([]:List Nat),aV (afD) f:=aC
def m7(a0:Int):adi:=
 let r1:Bool:=bif decide (-1099511627776<=a0)then decide (a0<=1099511627776)else false;r1
theorem aq2(a0:Int):bK Tryz.prog (afD) 300 (abz) 162 (akG.c (a0,())) [] 0 d162.rd=some (m7 a0):=by
 refine Eq.trans (b:=(
  match bif decide (-1099511627776<=a0)then some (decide (a0<=1099511627776))else some (false)with|none=>none|some r1=>some (r1):Option adi)) (by kernel_rfl) ?_
 simp only[m7,bX,cn]
def Sw:aI->aI:=eL Tryz.prog 162 false akG d162 (fun g=>some (m7 g.1))
theorem pF:EO Sw:=fun h=>kL (F:=afD) (an:=abz) (l:=[(.skip,(.rb [] 2))]) Tryz.func162 aK (ax alc aC) h (c:=fun g=>aq2 g.1)
theorem uS:EP Sw:=fun h=>kP h
def F84:aI:=(Sw (Bp cL))
abbrev E84:Type:=Bool
def d84:Td 0 E84:= .c [] [2] (.r 0 0 (ec 2 qb en) sn (fun z=>z.1.1) (fun x=>((x,()),(()))) fun _=>rfl)
theorem akb:∀f∈([162]:List Nat),aV (F84) f:=(ax (uS (gK aY)) aC)
def OL(a0:aD):Option E84:=
 bif bif decide (a0.aa=oy.aa)then bif decide (a0.af=oy.af)then bif decide (a0.ag=oy.ag)then true else false else false else false then some (true)else match bif bif m7 a0.aa then false else true then some (true)else some (bif m7 a0.af then false else true)with|none=>none|some r1=>bif r1 then some (false)else bif decide (a0.aa=a0.af)then some (decide (a0.ag=0))else match bif decide (a0.aa<a0.af)then bif decide (1<=a0.ag)then if¬a0.ag=(0:Int)then some (decide ((i64.wrap (a0.af-a0.aa)).tmod a0.ag=0))else none else some (false)else some (false)with|none=>none|some r2=>some (r2)
def e84:aI->aI:=eL Tryz.prog 84 false (lc (qg 34) ln) d84 (fun g=>OL g.1)
theorem qH:EO e84:=fun h=>kL (F:=F84) (an:=(.two .no (.two .no (.two (.two (.rb [162] 15) .no) (.two .no (.two (.rb [162] 2) .no)))))) (l:=[(.skip,(.rb [162] 15)),(.skip,(.rb [162] 2))]) Tryz.func84 (pF (jo aK)) (ax akb (ax akb aC)) h
theorem gj:EP e84:=fun h=>kP h
def F32:aI:=(e84 cL)
abbrev E32:Type:=Bool
def d32:Td 0 E32:= .c [] [4] (.r 0 0 (ec 4 qb en) sn (fun z=>z.1.1) (fun x=>((x,()),(()))) fun _=>rfl)
theorem pu32:∀f∈([84]:List Nat),aV (F32) f:=(ax (gj aY) aC)
def m32(a0:aD)(a1:Int):Option E32:=
 match match OL a0 with|none=>none|some r1=>bif bif r1 then false else true then some (true)else bif decide (a1<a0.aa)then some (true)else some (decide (a0.af<a1))with|none=>none|some r2=>bif r2 then some (false)else match bif decide (a0.ag=0)then some (true)else if¬a0.ag=(0:Int)then some (decide ((i64.wrap (a1-a0.aa)).tmod a0.ag=0))else none with|none=>none|some r3=>some (r3)
def e32:aI->aI:=eL Tryz.prog 32 false (lc (qg 34) (lc (qi .i64) ln)) d32 (fun g=>m32 g.1 g.2.1)
theorem yu:EO e32:=fun h=>kL (F:=F32) (an:=(.two .no (.two (.two (.rb [84] 19) .no) (.two (.rb [84] 4) .no)))) (l:=[(.skip,(.rb [84] 19)),(.skip,(.rb [84] 4))]) Tryz.func32 (qH aK) (ax pu32 (ax pu32 aC)) h
theorem Rf:EP e32:=fun h=>kP h
abbrev E36:Type:=aD
def d36:Td 0 E36:= .c [] [2] (.r 0 1 (ec 2 (qp 0 0) en) (sb 0 34 (lg 34) sn) (fun z=>z.2.1) (fun x=>(((),()),(x,()))) fun _=>rfl)
def Qb(a0:Int):E36:=
 aD.mk a0 a0 (0)
def e36:aI->aI:=eL Tryz.prog 36 false (lc (qi .i64) ln) d36 (fun g=>some (Qb g.1))
theorem DY:EO e36:=fun h=>kL (an:= .no) Tryz.func36 aK aC h
def alC:aI:=(Sw (Bp cL))
abbrev amw:Type:=aD×Int
def d101:Td 0 amw:= .c [] [6,7] (.r 0 1 (ec 6 (qp 0 0) (ec 7 (qi .i64) en)) (sb 0 34 (lg 34) sn) (fun z=>(z.2.1,z.1.2.1)) (fun x=>(((),x.2,()),(x.1,()))) fun _=>rfl)
theorem alL:∀f∈([162]:List Nat),aV (alC) f:=(ax (uS (gK aY)) aC)
def jj(a0:Int)(a1:Int)(a2:Int):Option amw:=
 match bif bif m7 a0 then false else true then some (true)else bif bif m7 a1 then false else true then some (true)else some (decide (a2<1))with|none=>none|some r1=>bif r1 then some ((aD.mk (0) (0) (0),3))else bif decide (a1<a0)then some ((oy,0))else if¬a2=(0:Int)then bif decide (a0=i64.wrap (a0+i64.wrap (i64.wrap ((i64.wrap (a1-a0)).tdiv a2)*a2)))then some ((aD.mk a0 (i64.wrap (a0+i64.wrap (i64.wrap ((i64.wrap (a1-a0)).tdiv a2)*a2))) (0),0))else some ((aD.mk a0 (i64.wrap (a0+i64.wrap (i64.wrap ((i64.wrap (a1-a0)).tdiv a2)*a2))) a2,0))else none
def Sb:aI->aI:=eL Tryz.prog 101 false (lc (qi .i64) (lc (qi .i64) (lc (qi .i64) ln))) d101 (fun g=>jj g.1 g.2.1 g.2.2.1)
theorem CN:EO Sb:=fun h=>kL (F:=alC) (an:=(.two .no (.two (.two (.rb [162] 19) .no) .no))) (l:=[(.skip,(.rb [162] 19))]) Tryz.func101 (pF (jo aK)) (ax alL aC) h
theorem kR:EP Sb:=fun h=>kP h
abbrev anh:Type:=Bool
def d102:Td 0 anh:= .c [] [2] (.r 0 0 (ec 2 qb en) sn (fun z=>z.1.1) (fun x=>((x,()),(()))) fun _=>rfl)
def jK(a0:aD):anh:=
 decide (a0.af<a0.aa)
def EY:aI->aI:=eL Tryz.prog 102 false (lc (qg 34) ln) d102 (fun g=>some (jK g.1))
theorem j5:EO EY:=fun h=>kL (an:= .no) Tryz.func102 aK aC h
theorem fQ:EP EY:=fun h=>kP h
def F41:aI:=(Bp (EY (Sb cL)))
abbrev E41:Type:=aD
def d41:Td 0 E41:= .c [] [4] (.r 0 1 (ec 4 (qp 0 0) en) (sb 0 34 (lg 34) sn) (fun z=>z.2.1) (fun x=>(((),()),(x,()))) fun _=>rfl)
theorem aoZ:∀f∈([102]:List Nat),aV (F41) f:=(ax (gK (fQ (kR aY))) aC)
def m41(a0:aD)(a1:Int):Option E41:=
 match bif jK a0 then some (true)else some (decide (a1<a0.aa))with|none=>none|some r1=>bif r1 then some (oy)else bif decide (a0.af<=a1)then some (a0)else match jj a0.aa a1 a0.ag with|none=>none|some r2=>some (r2.fst)
def e41:aI->aI:=eL Tryz.prog 41 false (lc (qg 34) (lc (qi .i64) ln)) d41 (fun g=>m41 g.1 g.2.1)
theorem SP:EO e41:=fun h=>kL (F:=F41) (an:=(.two .no (.two (.two (.rb [102] 14) .no) .no))) (l:=[(.skip,(.rb [102] 14))]) Tryz.func41 (jo (j5 (CN aK))) (ax aoZ aC) h
theorem se:EP e41:=fun h=>kP h
def F42:aI:=(Bp (EY (Sb cL)))
abbrev E42:Type:=aD
def d42:Td 0 E42:= .c [] [4] (.r 0 1 (ec 4 (qp 0 0) en) (sb 0 34 (lg 34) sn) (fun z=>z.2.1) (fun x=>(((),()),(x,()))) fun _=>rfl)
theorem aoz:∀f∈([102]:List Nat),aV (F42) f:=(ax (gK (fQ (kR aY))) aC)
def OM(a0:aD)(a1:Int):Option E42:=
 match bif jK a0 then some (true)else some (decide (a0.af<=a1))with|none=>none|some r1=>bif r1 then some (oy)else bif decide (a1<a0.aa)then some (a0)else if¬a0.ag=(0:Int)then match jj (i64.wrap (a0.aa+i64.wrap (i64.wrap (i64.wrap ((i64.wrap (a1-a0.aa)).tdiv a0.ag)+1)*a0.ag))) a0.af a0.ag with|none=>none|some r2=>some (r2.fst)else none
def e42:aI->aI:=eL Tryz.prog 42 false (lc (qg 34) (lc (qi .i64) ln)) d42 (fun g=>OM g.1 g.2.1)
theorem I9:EO e42:=fun h=>kL (F:=F42) (an:=(.two .no (.two (.two (.rb [102] 14) .no) .no))) (l:=[(.skip,(.rb [102] 14))]) Tryz.func42 (jo (j5 (CN aK))) (ax aoz aC) h
theorem sF:EP e42:=fun h=>kP h
structure jA where
 (t0 t1:Int)
def JC:Td 0 jA:= .c [] [0,1] (.r 0 0 (ec 0 (qi .i64) (ec 1 (qi .i64) en)) sn (fun z=>⟨z.1.1,z.1.2.1⟩) (fun x=>((x.t0,x.t1,()),(()))) fun _=>rfl)
def qG(p:jA):Option (Option jA):=
 bif bif decide (p.t1=0)then false else true then if¬p.t1=(0:Int)then some (some (jA.mk p.t1 (p.t0.tmod p.t1)))else none else some (none)
def zq:jA->Option jA:=bt (qG)
abbrev aj9:Type:=Int
def d239:Td 0 aj9:= .c [] [4] (.r 0 0 (ec 4 (qi .i64) en) sn (fun z=>z.1.1) (fun x=>((x,()),(()))) fun _=>rfl)
def vM(a0:Int)(a1:Int):Option aj9:=
 match zq (jA.mk a0 a1)with|none=>none|some r1=>bif bif decide (r1.t1=0)then false else true then if¬r1.t1=(0:Int)then none else none else some (r1.t0)
def agP:aI->aI:=eL Tryz.prog 239 false (lc (qi .i64) (lc (qi .i64) ln)) d239 (fun g=>vM g.1 g.2.1)
theorem BG:EO agP:=fun h=>kL (an:=(.two .no (.two (JC.lp zq .no) .no))) (l:=[(aS Tryz.f239 0,(JC.lp zq .no))]) Tryz.func239 aK (ax (aO JC) aC) h
theorem NU:EP agP:=fun h=>kP h
def aoL:aI:=cL
abbrev aeM:Type:=Int
def d240:Td 0 aeM:= .c [] [4] (.r 0 0 (ec 4 (qi .i64) en) sn (fun z=>z.1.1) (fun x=>((x,()),(()))) fun _=>rfl)
def amW:=(lc (qi .i64) (lc (qi .i64) ln))
def aaD:An:= .no
def gQ(a0:Int)(a1:Int):aeM:=
 bif decide (a0<a1)then i64.wrap (a1-a0)else i64.wrap (a0-a1)
theorem apP(a0:Int)(a1:Int):bK Tryz.prog (aoL) 300 (aaD) 240 (amW.c (a0,a1,())) [] 0 d240.rd=some (gQ a0 a1):=by
 refine Eq.trans (b:=(
  bif decide (a0<a1)then some (i64.wrap (a1-a0))else some (i64.wrap (a0-a1)):Option aeM)) (by kernel_rfl) ?_
 simp only[gQ,bX,cn]
def RI:aI->aI:=eL Tryz.prog 240 false amW d240 (fun g=>some (gQ g.1 g.2.1))
theorem tu:EO RI:=fun h=>kL (an:=aaD) Tryz.func240 aK aC h (c:=fun g=>apP g.1 g.2.1)
theorem lE:EP RI:=fun h=>kP h
structure gA where
 t0:List Int
 t6:Int
 (b0 b1:aD)
def Hs:Td 0 gA:= .c [] [0,2,5,6] (.r 0 2 (ec 0 (ql 3) (ec 2 (qp 0 0) (ec 5 (qp 1 0) (ec 6 (qi .i64) en)))) (sb 0 34 (lg 34) (sb 1 34 (lg 34) sn)) (fun z=>⟨z.1.1,z.1.2.2.2.1,z.2.1,z.2.2.1⟩) (fun x=>((x.t0,(),(),x.t6,()),(x.b0,x.b1,()))) fun _=>rfl)
def qX(p:gA):Option (Option gA):=
 bif decide (p.t6<(↑p.t0.length:Int))then if(0:Int)<=p.t6/\p.t6<(↑p.t0.length:Int)then if(0:Int)<=(0:Int)/\(0:Int)<(↑p.t0.length:Int)then match vM p.b1.ag (gQ p.t0[p.t6.toNat]! p.t0[0]!)with|none=>none|some r1=>if(0:Int)<=p.t6/\p.t6<(↑p.t0.length:Int)then bif decide (((p.t0,(),(),p.t6,()),p.b0,p.b1,()).fst.fst[((p.t0,(),(),p.t6,()),p.b0,p.b1,()).fst.snd.snd.snd.fst.toNat]! <((p.t0,(),(),p.t6,()),p.b0,p.b1,()).snd.snd.fst.aa)then if(0:Int)<=p.t6/\p.t6<(↑p.t0.length:Int)then if(0:Int)<=p.t6/\p.t6<(↑p.t0.length:Int)then bif decide (((p.t0,(),(),p.t6,()),p.b0,p.b1,()).snd.snd.fst.af<((p.t0,(),(),p.t6,()),p.b0,p.b1,()).fst.fst[((p.t0,(),(),p.t6,()),p.b0,p.b1,()).fst.snd.snd.snd.fst.toNat]!)then if(0:Int)<=p.t6/\p.t6<(↑p.t0.length:Int)then some (some (gA.mk p.t0 (i64.wrap (p.t6+1)) p.b0 (aD.mk p.t0[p.t6.toNat]! p.t0[p.t6.toNat]! r1)))else none else some (some (gA.mk p.t0 (i64.wrap (p.t6+1)) p.b0 (aD.mk p.t0[p.t6.toNat]! p.b1.af r1)))else none else none else if(0:Int)<=p.t6/\p.t6<(↑p.t0.length:Int)then bif decide (((p.t0,(),(),p.t6,()),p.b0,p.b1,()).snd.snd.fst.af<((p.t0,(),(),p.t6,()),p.b0,p.b1,()).fst.fst[((p.t0,(),(),p.t6,()),p.b0,p.b1,()).fst.snd.snd.snd.fst.toNat]!)then if(0:Int)<=p.t6/\p.t6<(↑p.t0.length:Int)then some (some (gA.mk p.t0 (i64.wrap (p.t6+1)) p.b0 (aD.mk p.b1.aa p.t0[p.t6.toNat]! r1)))else none else some (some (gA.mk p.t0 (i64.wrap (p.t6+1)) p.b0 (aD.mk p.b1.aa p.b1.af r1)))else none else none else none else none else some (none)
def DL:gA->Option gA:=bt (qX)
structure kj where
 t0:List Int
 t4:Int
 b0:aD
def Hh:Td 0 kj:= .c [] [0,2,4] (.r 0 1 (ec 0 (ql 3) (ec 2 (qp 0 0) (ec 4 (qi .i64) en))) (sb 0 34 (lg 34) sn) (fun z=>⟨z.1.1,z.1.2.2.1,z.2.1⟩) (fun x=>((x.t0,(),x.t4,()),(x.b0,()))) fun _=>rfl)
def uj(p:kj):Option (Option kj):=
 bif decide (p.t4<(↑p.t0.length:Int))then if(0:Int)<=p.t4/\p.t4<(↑p.t0.length:Int)then bif bif m7 p.t0[p.t4.toNat]! then false else true then some (none)else some (some (kj.mk p.t0 (i64.wrap (p.t4+1)) p.b0))else none else some (none)
def DD:kj->Option kj:=bt (uj)
abbrev ajq:Type:=aD×Int
def d238:Td 0 ajq:= .c [] [2,3] (.r 0 1 (ec 2 (qp 0 0) (ec 3 (qi .i64) en)) (sb 0 34 (lg 34) sn) (fun z=>(z.2.1,z.1.2.1)) (fun x=>(((),x.2,()),(x.1,()))) fun _=>rfl)
def NS(a0:List Int):Option ajq:=
 match DD (kj.mk a0 (0) (aD.mk (0) (0) (0)))with|none=>none|some r2=>bif decide (r2.t4<(↑r2.t0.length:Int))then if(0:Int)<=r2.t4/\r2.t4<(↑r2.t0.length:Int)then bif bif m7 r2.t0[r2.t4.toNat]! then false else true then some ((aD.mk (0) (0) (0),3))else none else none else bif decide ((↑r2.t0.length:Int)=0)then some ((oy,0))else if(0:Int)<=(0:Int)/\(0:Int)<(↑r2.t0.length:Int)then if(0:Int)<=(0:Int)/\(0:Int)<(↑r2.t0.length:Int)then match DL (gA.mk r2.t0 (1) r2.b0 (aD.mk r2.t0[0]! r2.t0[0]! (0)))with|none=>none|some r3=>bif decide (r3.t6<(↑r3.t0.length:Int))then if(0:Int)<=r3.t6/\r3.t6<(↑r3.t0.length:Int)then if(0:Int)<=(0:Int)/\(0:Int)<(↑r3.t0.length:Int)then match vM r3.b1.ag (gQ r3.t0[r3.t6.toNat]! r3.t0[0]!)with|none=>none|some r4=>if(0:Int)<=r3.t6/\r3.t6<(↑r3.t0.length:Int)then bif decide (((r3.t0,(),(),r3.t6,()),r3.b0,r3.b1,()).fst.fst[((r3.t0,(),(),r3.t6,()),r3.b0,r3.b1,()).fst.snd.snd.snd.fst.toNat]! <((r3.t0,(),(),r3.t6,()),r3.b0,r3.b1,()).snd.snd.fst.aa)then if(0:Int)<=r3.t6/\r3.t6<(↑r3.t0.length:Int)then if(0:Int)<=r3.t6/\r3.t6<(↑r3.t0.length:Int)then bif decide (((r3.t0,(),(),r3.t6,()),r3.b0,r3.b1,()).snd.snd.fst.af<((r3.t0,(),(),r3.t6,()),r3.b0,r3.b1,()).fst.fst[((r3.t0,(),(),r3.t6,()),r3.b0,r3.b1,()).fst.snd.snd.snd.fst.toNat]!)then if(0:Int)<=r3.t6/\r3.t6<(↑r3.t0.length:Int)then none else none else none else none else none else if(0:Int)<=r3.t6/\r3.t6<(↑r3.t0.length:Int)then bif decide (((r3.t0,(),(),r3.t6,()),r3.b0,r3.b1,()).snd.snd.fst.af<((r3.t0,(),(),r3.t6,()),r3.b0,r3.b1,()).fst.fst[((r3.t0,(),(),r3.t6,()),r3.b0,r3.b1,()).fst.snd.snd.snd.fst.toNat]!)then if(0:Int)<=r3.t6/\r3.t6<(↑r3.t0.length:Int)then none else none else none else none else none else none else none else some ((r3.b1,0))else none else none
def apX:aI->aI:=eL Tryz.prog 238 false (lc (ql 3) ln) d238 (fun g=>NS g.1)
theorem Cf:EO apX:=fun h=>kL (an:=(.two .no (.two (.two .no (Hh.lp DD .no)) (.two .no (.two .no (.two (.two .no (Hs.lp DL .no)) .no)))))) (l:=[(aS Tryz.f238 0,(Hh.lp DD .no)),(aS Tryz.f238 1,(Hs.lp DL .no))]) Tryz.func238 (tu (BG (pF (jo aK)))) (ax (aO Hh) (ax (aO Hs) aC)) h
abbrev alr:Type:=aD
def d163:Td 0 alr:= .c [] [4] (.r 0 1 (ec 4 (qp 0 0) en) (sb 0 34 (lg 34) sn) (fun z=>z.2.1) (fun x=>(((),()),(x,()))) fun _=>rfl)
def jk(a0:aD)(a1:aD):Option alr:=
 bif jK a0 then some (a1)else bif jK a1 then some (a0)else match NS [a0.aa,a0.af,a1.aa,a1.af]with|none=>none|some r1=>bif decide (r1.fst.aa<r1.fst.af)then match vM a0.ag a1.ag with|none=>none|some r2=>match vM r2 (gQ a0.aa a1.aa)with|none=>none|some r3=>some (aD.mk r1.fst.aa r1.fst.af r3)else some (r1.fst)
def N9:aI->aI:=eL Tryz.prog 163 false (lc (qg 34) (lc (qg 34) ln)) d163 (fun g=>jk g.1 g.2.1)
theorem oT:EO N9:=fun h=>kL (an:= .no) Tryz.func163 (tu (BG (Cf (j5 aK)))) aC h
theorem pn:EP N9:=fun h=>kP h
def F86:aI:=(N9 (Sw (EY (e84 (e42 (e41 cL))))))
abbrev E86:Type:=aD×Int
def d86:Td 0 E86:= .c [] [6,7] (.r 0 1 (ec 6 (qp 0 0) (ec 7 (qi .i64) en)) (sb 0 34 (lg 34) sn) (fun z=>(z.2.1,z.1.2.1)) (fun x=>(((),x.2,()),(x.1,()))) fun _=>rfl)
theorem aq5:∀f∈([162]:List Nat),aV (F86) f:=(ax (pn (uS (fQ (gj (sF (se aY)))))) aC)
def TB(a0:aD)(a1:Int)(a2:Int):Option E86:=
 match OL a0 with|none=>none|some r1=>bif bif r1 then false else true then some ((aD.mk (0) (0) (0),1))else match bif bif m7 a1 then false else true then some (true)else bif bif m7 a2 then false else true then some (true)else some (decide (a2<a1))with|none=>none|some r2=>bif r2 then some ((aD.mk (0) (0) (0),3))else match OM a0 (i64.wrap (a1-1))with|none=>none|some r3=>match m41 r3 a2 with|none=>none|some r4=>match m41 a0 a1 with|none=>none|some r5=>bif bif jK r5 then false else true then match jk r4 (aD.mk a1 a1 (0))with|none=>none|some r6=>match OM a0 a2 with|none=>none|some r7=>bif bif jK r7 then false else true then match jk r6 (aD.mk a2 a2 (0))with|none=>none|some r8=>some ((r8,0))else some ((r6,0))else match OM a0 a2 with|none=>none|some r9=>bif bif jK r9 then false else true then match jk r4 (aD.mk a2 a2 (0))with|none=>none|some r10=>some ((r10,0))else some ((r4,0))
def e86:aI->aI:=eL Tryz.prog 86 false (lc (qg 34) (lc (qi .i64) (lc (qi .i64) ln))) d86 (fun g=>TB g.1 g.2.1 g.2.2.1)
theorem Ic:EO e86:=fun h=>kL (F:=F86) (an:=(.two .no (.two .no (.two (.two (.rb [162] 25) .no) .no)))) (l:=[(.skip,(.rb [162] 25))]) Tryz.func86 (oT (pF (j5 (qH (I9 (SP aK)))))) (ax aq5 aC) h
def F43:aI:=(EY (e84 cL))
abbrev E43:Type:=Int
def d43:Td 0 E43:= .c [] [2] (.r 0 0 (ec 2 (qi .i64) en) sn (fun z=>z.1.1) (fun x=>((x,()),(()))) fun _=>rfl)
theorem an8:∀f∈([84,102]:List Nat),aV (F43) f:=(ax (fQ (gj aY)) (ax (fQ (gj aY)) aC))
def qa(a0:aD):Option E43:=
 match match OL a0 with|none=>none|some r1=>bif bif r1 then false else true then some (true)else some (jK a0)with|none=>none|some r2=>bif r2 then some (0)else bif decide (a0.ag=0)then some (1)else if¬a0.ag=(0:Int)then some (i64.wrap (i64.wrap ((i64.wrap (a0.af-a0.aa)).tdiv a0.ag)+1))else none
def e43:aI->aI:=eL Tryz.prog 43 false (lc (qg 34) ln) d43 (fun g=>qa g.1)
theorem mD:EO e43:=fun h=>kL (F:=F43) (an:=(.two .no (.two (.two (.rb [84,102] 9) .no) .no))) (l:=[(.skip,(.rb [84,102] 9))]) Tryz.func43 (j5 (qH aK)) (ax an8 aC) h
theorem jz:EP e43:=fun h=>kP h
abbrev aiT:Type:=Bool×Bool
def d165:Td 0 aiT:= .c [] [2,3] (.r 0 0 (ec 2 qb (ec 3 qb en)) sn (fun z=>(z.1.1,z.1.2.1)) (fun x=>((x.1,x.2,()),(()))) fun _=>rfl)
def zu(a0:aD):Option aiT:=
 match m32 a0 (0)with|none=>none|some r1=>match qa a0 with|none=>none|some r2=>bif decide (1<r2)then some ((r1,true))else match qa a0 with|none=>none|some r3=>bif decide (r3=1)then some ((r1,bif r1 then false else true))else some ((r1,false))
def NI:aI->aI:=eL Tryz.prog 165 false (lc (qg 34) ln) d165 (fun g=>zu g.1)
theorem s9:EO NI:=fun h=>kL (an:= .no) Tryz.func165 (mD (yu aK)) aC h
theorem Od:EP NI:=fun h=>kP h
def adQ:aI:=cL
abbrev ahd:Type:=aD
def d241:Td 0 ahd:= .c [] [4] (.r 0 1 (ec 4 (qp 0 0) en) (sb 0 34 (lg 34) sn) (fun z=>z.2.1) (fun x=>(((),()),(x,()))) fun _=>rfl)
def amQ:=(lc qb (lc qb ln))
def aaC:An:=(.two .no (.two (.two (.rb [] 8) .no) .no))
theorem aj6:∀f∈([]:List Nat),aV (adQ) f:=aC
def gO(a0:Bool)(a1:Bool):ahd:=
 let r1:Bool:=bif a0 then a1 else false;bif r1 then aD.mk (0) (1) (1)else bif a1 then aD.mk (1) (1) (0)else aD.mk (0) (0) (0)
theorem ap0(a0:Bool)(a1:Bool):bK Tryz.prog (adQ) 300 (aaC) 241 (amQ.c (a0,a1,())) [] 0 d241.rd=some (gO a0 a1):=by
 refine Eq.trans (b:=(
  match bif a0 then some (a1)else some (false)with|none=>none|some r1=>bif r1 then some (aD.mk (0) (1) (1))else bif a1 then some (aD.mk (1) (1) (0))else some (aD.mk (0) (0) (0)):Option ahd)) (by kernel_rfl) ?_
 simp only[gO,bX,cn]
def adr:aI->aI:=eL Tryz.prog 241 false amQ d241 (fun g=>some (gO g.1 g.2.1))
theorem KB:EO adr:=fun h=>kL (F:=adQ) (an:=aaC) (l:=[(.skip,(.rb [] 8))]) Tryz.func241 aK (ax aj6 aC) h (c:=fun g=>ap0 g.1 g.2.1)
theorem Ou:EP adr:=fun h=>kP h
def aic:aI:=(adr (NI (Bp (EY (e84 cL)))))
abbrev ame:Type:=aD×Int
def d164:Td 0 ame:= .c [] [4,5] (.r 0 1 (ec 4 (qp 0 0) (ec 5 (qi .i64) en)) (sb 0 34 (lg 34) sn) (fun z=>(z.2.1,z.1.2.1)) (fun x=>(((),x.2,()),(x.1,()))) fun _=>rfl)
theorem am1:∀f∈([84]:List Nat),aV (aic) f:=(ax (Ou (Od (gK (fQ (gj aY))))) aC)
def Sm(a0:Int)(a1:aD):Option ame:=
 match match OL a1 with|none=>none|some r1=>bif bif r1 then false else true then some (true)else bif bif decide (a0=6)then false else true then some (bif decide (a0=7)then false else true)else some (false)with|none=>none|some r2=>bif r2 then some ((aD.mk (0) (0) (0),1))else bif jK a1 then some ((oy,0))else bif decide (a0=6)then some ((aD.mk (i64.wrap (0-a1.af)) (i64.wrap (0-a1.aa)) a1.ag,0))else match zu a1 with|none=>none|some r3=>some ((gO r3.snd r3.fst,0))
def ai1:aI->aI:=eL Tryz.prog 164 false (lc (qi .i64) (lc (qg 34) ln)) d164 (fun g=>Sm g.1 g.2.1)
theorem V7:EO ai1:=fun h=>kL (F:=aic) (an:=(.two .no (.two (.two (.rb [84] 18) .no) .no))) (l:=[(.skip,(.rb [84] 18))]) Tryz.func164 (KB (s9 (jo (j5 (qH aK))))) (ax am1 aC) h
def aoG:aI:=cL
abbrev af8:Type:=Bool
def d242:Td 0 af8:= .c [] [2] (.r 0 0 (ec 2 qb en) sn (fun z=>z.1.1) (fun x=>((x,()),(()))) fun _=>rfl)
def ah0:=(lc (qi .i64) ln)
def aaK:An:= .no
def zD(a0:Int):af8:=
 bif decide (a0=8)then true else bif decide (a0=9)then true else bif decide (a0=10)then true else bif decide (a0=11)then true else bif decide (a0=12)then true else bif decide (a0=13)then true else bif decide (a0=14)then true else bif decide (a0=15)then true else bif decide (a0=16)then true else bif decide (a0=17)then true else bif decide (a0=18)then true else bif decide (a0=19)then true else bif decide (a0=20)then true else bif decide (a0=21)then true else bif decide (a0=22)then true else false
theorem aqW(a0:Int):bK Tryz.prog (aoG) 300 (aaK) 242 (ah0.c (a0,())) [] 0 d242.rd=some (zD a0):=by
 refine Eq.trans (b:=(
  bif decide (a0=8)then some (true)else bif decide (a0=9)then some (true)else bif decide (a0=10)then some (true)else bif decide (a0=11)then some (true)else bif decide (a0=12)then some (true)else bif decide (a0=13)then some (true)else bif decide (a0=14)then some (true)else bif decide (a0=15)then some (true)else bif decide (a0=16)then some (true)else bif decide (a0=17)then some (true)else bif decide (a0=18)then some (true)else bif decide (a0=19)then some (true)else bif decide (a0=20)then some (true)else bif decide (a0=21)then some (true)else bif decide (a0=22)then some (true)else some (false):Option af8)) (by kernel_rfl) ?_
 simp only[zD,bX,cn]
def afJ:aI->aI:=eL Tryz.prog 242 false ah0 d242 (fun g=>some (zD g.1))
theorem V6:EO afJ:=fun h=>kL (an:=aaK) Tryz.func242 aK aC h (c:=fun g=>aqW g.1)
theorem vg:EP afJ:=fun h=>kP h
def ai7:aI:=(RI cL)
abbrev aiw:Type:=Int×Bool
def d283:Td 0 aiw:= .c [] [4,5] (.r 0 0 (ec 4 (qi .i64) (ec 5 qb en)) sn (fun z=>(z.1.1,z.1.2.1)) (fun x=>((x.1,x.2,()),(()))) fun _=>rfl)
theorem ahP:∀f∈([240]:List Nat),aV (ai7) f:=(ax (lE aY) aC)
def UM(a0:Int)(a1:Int):Option aiw:=
 match bif bif decide (a0=0)then false else true then bif bif decide (a1=0)then false else true then if¬gQ a1 ((0:Int))=(0:Int)then some (decide (i64.wrap ((1099511627776:Int).tdiv (gQ a1 (0)))<gQ a0 (0)))else none else some (false)else some (false)with|none=>none|some r1=>bif r1 then some ((0,false))else some ((i64.wrap (a0*a1),true))
def aoj:aI->aI:=eL Tryz.prog 283 false (lc (qi .i64) (lc (qi .i64) ln)) d283 (fun g=>UM g.1 g.2.1)
theorem W4:EO aoj:=fun h=>kL (F:=ai7) (an:=(.two .no (.two (.two (.rb [240] 19) .no) .no))) (l:=[(.skip,(.rb [240] 19))]) Tryz.func283 (tu aK) (ax ahP aC) h
def akf:aI:=cL
abbrev ah2:Type:=Int
def d284:Td 0 ah2:= .c [] [4] (.r 0 0 (ec 4 (qi .i64) en) sn (fun z=>z.1.1) (fun x=>((x,()),(()))) fun _=>rfl)
theorem aiv:∀f∈([]:List Nat),aV (akf) f:=aC
def VL(a0:Int)(a1:Int):Option ah2:=
 bif decide (a1=0)then some (0)else if¬a1=(0:Int)then match if¬a1=(0:Int)then bif bif decide (a0.tmod a1=0)then false else true then some (bif decide (a0<0)==decide (a1<0)then false else true)else some (false)else none with|none=>none|some r1=>bif r1 then some (i64.wrap (i64.wrap (a0.tdiv a1)-1))else some (i64.wrap (a0.tdiv a1))else none
def apG:aI->aI:=eL Tryz.prog 284 false (lc (qi .i64) (lc (qi .i64) ln)) d284 (fun g=>VL g.1 g.2.1)
theorem VI:EO apG:=fun h=>kL (F:=akf) (an:=(.two .no (.two .no (.two .no (.two (.two (.rb [] 21) .no) .no))))) (l:=[(.skip,(.rb [] 21))]) Tryz.func284 aK (ax aiv aC) h
def ap2:aI:=cL
abbrev agW:Type:=Int
def d285:Td 0 agW:= .c [] [2] (.r 0 0 (ec 2 (qi .i64) en) sn (fun z=>z.1.1) (fun x=>((x,()),(()))) fun _=>rfl)
def ah5:=(lc qb ln)
def aa9:An:= .no
def tB(a0:Bool):agW:=
 bif a0 then 1 else 0
theorem ap8(a0:Bool):bK Tryz.prog (ap2) 300 (aa9) 285 (ah5.c (a0,())) [] 0 d285.rd=some (tB a0):=by
 refine Eq.trans (b:=(
  bif a0 then some (1)else some (0):Option agW)) (by kernel_rfl) ?_
 simp only[tB,bX,cn]
def aow:aI->aI:=eL Tryz.prog 285 false ah5 d285 (fun g=>some (tB g.1))
theorem aai:EO aow:=fun h=>kL (an:=aa9) Tryz.func285 aK aC h (c:=fun g=>ap8 g.1)
abbrev ajR:Type:=Int×Bool
def d245:Td 0 ajR:= .c [] [6,7] (.r 0 0 (ec 6 (qi .i64) (ec 7 qb en)) sn (fun z=>(z.1.1,z.1.2.1)) (fun x=>((x.1,x.2,()),(()))) fun _=>rfl)
def xB(a0:Int)(a1:Int)(a2:Int):Option ajR:=
 bif decide (a0=8)then some ((i64.wrap (a1+a2),m7 (i64.wrap (a1+a2))))else bif decide (a0=9)then some ((i64.wrap (a1-a2),m7 (i64.wrap (a1-a2))))else bif decide (a0=10)then match UM a1 a2 with|none=>none|some r1=>some (r1)else bif decide (a0=11)then match VL a1 a2 with|none=>none|some r2=>some ((r2,true))else bif decide (a0=12)then bif decide (a2=0)then some ((0,true))else match VL a1 a2 with|none=>none|some r3=>some ((i64.wrap (a1-i64.wrap (a2*r3)),true))else bif decide (a0=13)then some ((tB (decide (a1=a2)),true))else bif decide (a0=14)then some ((tB (bif decide (a1=a2)then false else true),true))else bif decide (a0=15)then some ((tB (decide (a1<a2)),true))else bif decide (a0=16)then some ((tB (decide (a1<=a2)),true))else bif decide (a0=17)then some ((tB (decide (a2<a1)),true))else bif decide (a0=18)then some ((tB (decide (a2<=a1)),true))else bif decide (a0=19)then bif bif decide (a1=0)then false else true then some ((tB (bif decide (a2=0)then false else true),true))else some ((tB false,true))else bif decide (a0=20)then bif bif decide (a1=0)then false else true then some ((tB true,true))else some ((tB (bif decide (a2=0)then false else true),true))else bif decide (a0=21)then bif decide (a1<a2)then some ((a1,true))else some ((a2,true))else bif decide (a2<a1)then some ((a1,true))else some ((a2,true))
def af2:aI->aI:=eL Tryz.prog 245 false (lc (qi .i64) (lc (qi .i64) (lc (qi .i64) ln))) d245 (fun g=>xB g.1 g.2.1 g.2.2.1)
theorem Dn:EO af2:=fun h=>kL (an:= .no) Tryz.func245 (aai (VI (W4 (pF aK)))) aC h
theorem uE:EP af2:=fun h=>kP h
abbrev ain:Type:=Int
def d282:Td 0 ain:= .c [] [4] (.r 0 0 (ec 4 (qi .i64) en) sn (fun z=>z.1.1) (fun x=>((x,()),(()))) fun _=>rfl)
def zI(a0:aD)(a1:Int):ain:=
 i64.wrap (a0.aa+i64.wrap (a1*a0.ag))
def aot:aI->aI:=eL Tryz.prog 282 false (lc (qg 34) (lc (qi .i64) ln)) d282 (fun g=>some (zI g.1 g.2.1))
theorem VO:EO aot:=fun h=>kL (an:= .no) Tryz.func282 aK aC h
structure fM where
 t0:Int
 t8:List Int
 (t9 t10:Int)
 (b0 b1 b2:aD)
def IV:Td 0 fM:= .c [] [0,4,5,6,8,9,10] (.r 0 4 (ec 0 (qi .i64) (ec 4 (qp 0 0) (ec 5 (qp 1 0) (ec 6 (qp 2 0) (ec 8 (qo 3) (ec 9 (qi .i64) (ec 10 (qi .i64) en))))))) (sb 0 34 (lg 34) (sb 1 34 (lg 34) (sb 2 34 (lg 34) (sr 3 3 sn)))) (fun z=>⟨z.1.1,z.2.2.2.2.1,z.1.2.2.2.2.2.1,z.1.2.2.2.2.2.2.1,z.2.1,z.2.2.1,z.2.2.2.1⟩) (fun x=>((x.t0,(),(),(),(),x.t9,x.t10,()),(x.b0,x.b1,x.b2,x.t8,()))) fun _=>rfl)
def yc(p:fM):Option (Option fM):=
 match qa p.b1 with|none=>none|some r5=>bif decide (p.t10<r5)then match xB p.t0 (zI p.b0 p.t9) (zI p.b1 p.t10)with|none=>none|some r6=>bif bif r6.snd then false else true then some (none)else if(p.t8++[r6.fst]).length<=1073741824 then some (some (fM.mk p.t0 (p.t8++[r6.fst]) p.t9 (i64.wrap (p.t10+1)) p.b0 p.b1 p.b2))else none else some (none)
def rq:fM->Option fM:=bt (yc)
structure kF where
 t0:Int
 t8:List Int
 t9:Int
 (b0 b1 b2:aD)
def Hr:Td 0 kF:= .c [] [0,4,5,6,8,9] (.r 0 4 (ec 0 (qi .i64) (ec 4 (qp 0 0) (ec 5 (qp 1 0) (ec 6 (qp 2 0) (ec 8 (qo 3) (ec 9 (qi .i64) en)))))) (sb 0 34 (lg 34) (sb 1 34 (lg 34) (sb 2 34 (lg 34) (sr 3 3 sn)))) (fun z=>⟨z.1.1,z.2.2.2.2.1,z.1.2.2.2.2.2.1,z.2.1,z.2.2.1,z.2.2.2.1⟩) (fun x=>((x.t0,(),(),(),(),x.t9,()),(x.b0,x.b1,x.b2,x.t8,()))) fun _=>rfl)
def ur(p:kF):Option (Option kF):=
 match qa p.b0 with|none=>none|some r1=>bif decide (p.t9<r1)then match rq (fM.mk p.t0 p.t8 p.t9 (0) p.b0 p.b1 p.b2)with|none=>none|some r2=>match qa r2.b1 with|none=>none|some r3=>bif decide (r2.t10<r3)then match xB r2.t0 (zI r2.b0 r2.t9) (zI r2.b1 r2.t10)with|none=>none|some r4=>bif bif r4.snd then false else true then some (none)else if(r2.t8++[r4.fst]).length<=1073741824 then none else none else some (some (kF.mk r2.t0 r2.t8 (i64.wrap (r2.t9+1)) r2.b0 r2.b1 r2.b2))else some (none)
def O4:An:=(.two .no (.two (.two .no (IV.lp rq .no)) .no))
def Dk:kF->Option kF:=bt (ur)
abbrev ahL:Type:=aD×Int
def d243:Td 0 ahL:= .c [] [6,7] (.r 0 1 (ec 6 (qp 0 0) (ec 7 (qi .i64) en)) (sb 0 34 (lg 34) sn) (fun z=>(z.2.1,z.1.2.1)) (fun x=>(((),x.2,()),(x.1,()))) fun _=>rfl)
def IM(a0:Int)(a1:aD)(a2:aD):Option ahL:=
 match Dk (kF.mk a0 [] (0) a1 a2 (aD.mk (0) (0) (0)))with|none=>none|some r7=>match qa r7.b0 with|none=>none|some r8=>bif decide (r7.t9<r8)then match rq (fM.mk r7.t0 r7.t8 r7.t9 (0) r7.b0 r7.b1 r7.b2)with|none=>none|some r9=>match qa r9.b1 with|none=>none|some r10=>bif decide (r9.t10<r10)then match xB r9.t0 (zI r9.b0 r9.t9) (zI r9.b1 r9.t10)with|none=>none|some r11=>bif bif r11.snd then false else true then some ((aD.mk (0) (0) (0),3))else if(r9.t8++[r11.fst]).length<=1073741824 then none else none else none else match NS r7.t8 with|none=>none|some r12=>some (r12)
def afU:aI->aI:=eL Tryz.prog 243 false (lc (qi .i64) (lc (qg 34) (lc (qg 34) ln))) d243 (fun g=>IM g.1 g.2.1 g.2.2.1)
theorem UH:EO afU:=fun h=>kL (an:=(.two .no (.two .no (.two (.two .no (Hr.lp Dk O4)) .no)))) (l:=[(aS Tryz.f243 0,(Hr.lp Dk O4)),(aS Tryz.f243 1,(IV.lp rq .no))]) Tryz.func243 (VO (Dn (Cf (mD aK)))) (ax (aO Hr) (ax (aO IV) aC)) h
theorem uZ:EP afU:=fun h=>kP h
structure fB where
 t0:Int
 (t8 t9 t10:List Int)
 (t11 t12:Int)
 b0:aD
def Jp:Td 0 fB:= .c [] [0,6,8,9,10,11,12] (.r 0 4 (ec 0 (qi .i64) (ec 6 (qp 0 0) (ec 8 (qo 1) (ec 9 (qo 2) (ec 10 (qo 3) (ec 11 (qi .i64) (ec 12 (qi .i64) en))))))) (sb 0 34 (lg 34) (sr 1 3 (sr 2 3 (sr 3 3 sn)))) (fun z=>⟨z.1.1,z.2.2.1,z.2.2.2.1,z.2.2.2.2.1,z.1.2.2.2.2.2.1,z.1.2.2.2.2.2.2.1,z.2.1⟩) (fun x=>((x.t0,(),(),(),(),x.t11,x.t12,()),(x.b0,x.t8,x.t9,x.t10,()))) fun _=>rfl)
def xA(p:fB):Option (Option fB):=
 bif decide (p.t12<3)then if(0:Int)<=p.t11/\p.t11<(↑p.t9.length:Int)then if 3=3/\p.t11.toNat<p.t9.length then if(0:Int)<=p.t12/\p.t12<(↑p.t10.length:Int)then if 3=3/\p.t12.toNat<p.t10.length then match xB p.t0 p.t9[p.t11.toNat]! p.t10[p.t12.toNat]! with|none=>none|some r3=>bif bif r3.snd then false else true then some (none)else if(p.t8++[r3.fst]).length<=1073741824 then some (some (fB.mk p.t0 (p.t8++[r3.fst]) p.t9 p.t10 p.t11 (i64.wrap (p.t12+1)) p.b0))else none else none else none else none else none else some (none)
def qF:fB->Option fB:=bt (xA)
structure kI where
 t0:Int
 (t8 t9 t10:List Int)
 t11:Int
 b0:aD
def JD:Td 0 kI:= .c [] [0,6,8,9,10,11] (.r 0 4 (ec 0 (qi .i64) (ec 6 (qp 0 0) (ec 8 (qo 1) (ec 9 (qo 2) (ec 10 (qo 3) (ec 11 (qi .i64) en)))))) (sb 0 34 (lg 34) (sr 1 3 (sr 2 3 (sr 3 3 sn)))) (fun z=>⟨z.1.1,z.2.2.1,z.2.2.2.1,z.2.2.2.2.1,z.1.2.2.2.2.2.1,z.2.1⟩) (fun x=>((x.t0,(),(),(),(),x.t11,()),(x.b0,x.t8,x.t9,x.t10,()))) fun _=>rfl)
def uq(p:kI):Option (Option kI):=
 bif decide (p.t11<3)then match qF (fB.mk p.t0 p.t8 p.t9 p.t10 p.t11 (0) p.b0)with|none=>none|some r1=>bif decide (r1.t12<3)then if(0:Int)<=r1.t11/\r1.t11<(↑r1.t9.length:Int)then if 3=3/\r1.t11.toNat<r1.t9.length then if(0:Int)<=r1.t12/\r1.t12<(↑r1.t10.length:Int)then if 3=3/\r1.t12.toNat<r1.t10.length then match xB r1.t0 r1.t9[r1.t11.toNat]! r1.t10[r1.t12.toNat]! with|none=>none|some r2=>bif bif r2.snd then false else true then some (none)else if(r1.t8++[r2.fst]).length<=1073741824 then none else none else none else none else none else none else some (some (kI.mk r1.t0 r1.t8 r1.t9 r1.t10 (i64.wrap (r1.t11+1)) r1.b0))else some (none)
def RU:An:=(.two .no (.two (.two .no (Jp.lp qF .no)) .no))
def BA:kI->Option kI:=bt (uq)
abbrev aku:Type:=aD×Int
def d244:Td 0 aku:= .c [] [6,7] (.r 0 1 (ec 6 (qp 0 0) (ec 7 (qi .i64) en)) (sb 0 34 (lg 34) sn) (fun z=>(z.2.1,z.1.2.1)) (fun x=>(((),x.2,()),(x.1,()))) fun _=>rfl)
def tA(a0:Int)(a1:aD)(a2:aD):Option aku:=
 match BA (kI.mk a0 [] [a1.aa,i64.wrap (a1.aa+a1.ag),a1.af] [a2.aa,i64.wrap (a2.aa+a2.ag),a2.af] (0) (aD.mk (0) (0) (0)))with|none=>none|some r4=>bif decide (r4.t11<3)then match qF (fB.mk r4.t0 r4.t8 r4.t9 r4.t10 r4.t11 (0) r4.b0)with|none=>none|some r5=>bif decide (r5.t12<3)then if(0:Int)<=r5.t11/\r5.t11<(↑r5.t9.length:Int)then if 3=3/\r5.t11.toNat<r5.t9.length then if(0:Int)<=r5.t12/\r5.t12<(↑r5.t10.length:Int)then if 3=3/\r5.t12.toNat<r5.t10.length then match xB r5.t0 r5.t9[r5.t11.toNat]! r5.t10[r5.t12.toNat]! with|none=>none|some r6=>bif bif r6.snd then false else true then some ((aD.mk (0) (0) (0),3))else if(r5.t8++[r6.fst]).length<=1073741824 then none else none else none else none else none else none else none else match NS r4.t8 with|none=>none|some r7=>some (r7)
def adn:aI->aI:=eL Tryz.prog 244 false (lc (qi .i64) (lc (qg 34) (lc (qg 34) ln))) d244 (fun g=>tA g.1 g.2.1 g.2.2.1)
theorem YK:EO adn:=fun h=>kL (an:=(.two .no (.two .no (.two .no (.two .no (.two (.two .no (JD.lp BA RU)) .no)))))) (l:=[(aS Tryz.f244 0,(JD.lp BA RU)),(aS Tryz.f244 1,(Jp.lp qF .no))]) Tryz.func244 (Dn (Cf aK)) (ax (aO JD) (ax (aO Jp) aC)) h
theorem tV:EP adn:=fun h=>kP h
abbrev oa:Type:=Bool
def d286:Td 0 oa:= .c [] [4] (.r 0 0 (ec 4 qb en) sn (fun z=>z.1.1) (fun x=>((x,()),(()))) fun _=>rfl)
def aeh:=(lc (qg 34) (lc (qg 34) ln))
def Wg(M:aD->aD->Option oa):aI->aI:=eL Tryz.prog 286 false aeh d286 (fun g=>M g.1 g.2.1)
theorem M0{M:aD->aD->Option oa}{F:aI}{f:Nat}(h:aV F f):aV (Wg M F) f:=fy h (fun _=>by kernel_rfl)
def ZA(M:aD->aD->Option oa):Prop:=HL Tryz.prog 286 aeh d286 (fun g=>M g.1 g.2.1)
theorem LR{M:aD->aD->Option oa}(hM:ZA M){F:aI}(h:aZ Tryz.prog F):aZ Tryz.prog (Wg M F):=fW (sc:=wQ) dL hM ⟨_,Tryz.func286,by kernel_rfl,by kernel_rfl⟩ (fun _=>by kernel_rfl) (fun _=>by kernel_rfl) h
def Xh(M286:aD->aD->Option oa):aI:=(Wg M286 (RI (agP (e43 (e32 cL)))))
theorem Uw{M286}(h286:ZA M286):aZ Tryz.prog (Xh M286):=(LR h286 (tu (BG (mD (yu aK)))))
structure gd where
 (t6 t7 t8 t9:Int)
 (b0 b1:aD)
def HG:Td 0 gd:= .c [] [2,3,6,7,8,9] (.r 0 2 (ec 2 (qp 0 0) (ec 3 (qp 1 0) (ec 6 (qi .i64) (ec 7 (qi .i64) (ec 8 (qi .i64) (ec 9 (qi .i64) en)))))) (sb 0 34 (lg 34) (sb 1 34 (lg 34) sn)) (fun z=>⟨z.1.2.2.1,z.1.2.2.2.1,z.1.2.2.2.2.1,z.1.2.2.2.2.2.1,z.2.1,z.2.2.1⟩) (fun x=>(((),(),x.t6,x.t7,x.t8,x.t9,()),(x.b0,x.b1,()))) fun _=>rfl)
def ve(M286:aD->aD->Option oa)(p:gd):Option (Option gd):=
 match if¬p.t7=(0:Int)then bif decide (p.t9<i64.wrap (p.b1.ag.tdiv p.t7))then some (decide (p.t8<=p.t6))else some (false)else none with|none=>none|some r1=>bif r1 then match m32 p.b1 p.t8 with|none=>none|some r2=>bif r2 then some (none)else some (some (gd.mk p.t6 p.t7 (i64.wrap (p.t8+p.b0.ag)) (i64.wrap (p.t9+1)) p.b0 p.b1))else some (none)
def SD(M286:aD->aD->Option oa):An:=(.two (.two (.rb [240] 86) .no) .no)
def mc(M286:aD->aD->Option oa):gd->Option gd:=bt (ve M286)
def abj(M286:aD->aD->Option oa):An:=(.two .no (.two .no (.two .no (.two .no (.two .no (.two .no (.two .no (.two (.two (.rb [240] 58) .no) (.two .no (.two (.two .no (HG.lp (mc M286) (SD M286))) .no))))))))))
theorem abL{M286}:∀f∈([240]:List Nat),aV (Xh M286) f:=(ax (M0 (lE (NU (jz (Rf aY))))) aC)
theorem ajI(M286:aD->aD->Option oa):eC Tryz.prog (Xh M286) 0 300 286 (abj M286):=bT (l:=[(.skip,(.rb [240] 58)),(aS Tryz.f286 0,(HG.lp (mc M286) (SD M286))),(.skip,(.rb [240] 86))]) Tryz.func286 (bA (by kernel_rfl)) (by kernel_rfl) (ax abL (ax (aO HG) (ax abL aC)))
def Nv(M286:aD->aD->Option oa)(a0:aD)(a1:aD):Option oa:=
 match qa a0 with|none=>none|some r3=>match qa a1 with|none=>none|some r4=>bif decide (r4<r3)then match M286 a1 a0 with|none=>none|some r5=>some (r5)else match qa a0 with|none=>none|some r6=>bif decide (r6=1)then match m32 a1 a0.aa with|none=>none|some r7=>some (r7)else bif decide (a0.aa<a1.aa)then bif decide (a1.af<a0.af)then match vM a0.ag a1.ag with|none=>none|some r8=>match bif decide (a1.af<a1.aa)then some (true)else if¬r8=(0:Int)then some (bif decide (Int.tmod (gQ a0.aa a1.aa) r8=0)then false else true)else none with|none=>none|some r9=>bif r9 then some (false)else if¬a0.ag=(0:Int)then match mc M286 (gd.mk a1.af r8 (i64.wrap (a0.aa+i64.wrap (i64.wrap ((i64.wrap (i64.wrap (i64.wrap (a1.aa-a0.aa)+a0.ag)-1)).tdiv a0.ag)*a0.ag))) (0) a0 a1)with|none=>none|some r10=>match if¬r10.t7=(0:Int)then bif decide (r10.t9<i64.wrap (r10.b1.ag.tdiv r10.t7))then some (decide (r10.t8<=r10.t6))else some (false)else none with|none=>none|some r11=>bif r11 then match m32 r10.b1 r10.t8 with|none=>none|some r12=>bif r12 then some (true)else none else some (false)else none else match vM a0.ag a1.ag with|none=>none|some r13=>match bif decide (a0.af<a1.aa)then some (true)else if¬r13=(0:Int)then some (bif decide (Int.tmod (gQ a0.aa a1.aa) r13=0)then false else true)else none with|none=>none|some r14=>bif r14 then some (false)else if¬a0.ag=(0:Int)then match mc M286 (gd.mk a0.af r13 (i64.wrap (a0.aa+i64.wrap (i64.wrap ((i64.wrap (i64.wrap (i64.wrap (a1.aa-a0.aa)+a0.ag)-1)).tdiv a0.ag)*a0.ag))) (0) a0 a1)with|none=>none|some r15=>match if¬r15.t7=(0:Int)then bif decide (r15.t9<i64.wrap (r15.b1.ag.tdiv r15.t7))then some (decide (r15.t8<=r15.t6))else some (false)else none with|none=>none|some r16=>bif r16 then match m32 r15.b1 r15.t8 with|none=>none|some r17=>bif r17 then some (true)else none else some (false)else none else bif decide (a1.af<a0.af)then match vM a0.ag a1.ag with|none=>none|some r18=>match bif decide (a1.af<a0.aa)then some (true)else if¬r18=(0:Int)then some (bif decide (Int.tmod (gQ a0.aa a1.aa) r18=0)then false else true)else none with|none=>none|some r19=>bif r19 then some (false)else if¬a0.ag=(0:Int)then match mc M286 (gd.mk a1.af r18 (i64.wrap (a0.aa+i64.wrap (i64.wrap ((i64.wrap (i64.wrap (i64.wrap (a0.aa-a0.aa)+a0.ag)-1)).tdiv a0.ag)*a0.ag))) (0) a0 a1)with|none=>none|some r20=>match if¬r20.t7=(0:Int)then bif decide (r20.t9<i64.wrap (r20.b1.ag.tdiv r20.t7))then some (decide (r20.t8<=r20.t6))else some (false)else none with|none=>none|some r21=>bif r21 then match m32 r20.b1 r20.t8 with|none=>none|some r22=>bif r22 then some (true)else none else some (false)else none else match vM a0.ag a1.ag with|none=>none|some r23=>match bif decide (a0.af<a0.aa)then some (true)else if¬r23=(0:Int)then some (bif decide (Int.tmod (gQ a0.aa a1.aa) r23=0)then false else true)else none with|none=>none|some r24=>bif r24 then some (false)else if¬a0.ag=(0:Int)then match mc M286 (gd.mk a0.af r23 (i64.wrap (a0.aa+i64.wrap (i64.wrap ((i64.wrap (i64.wrap (i64.wrap (a0.aa-a0.aa)+a0.ag)-1)).tdiv a0.ag)*a0.ag))) (0) a0 a1)with|none=>none|some r25=>match if¬r25.t7=(0:Int)then bif decide (r25.t9<i64.wrap (r25.b1.ag.tdiv r25.t7))then some (decide (r25.t8<=r25.t6))else some (false)else none with|none=>none|some r26=>bif r26 then match m32 r25.b1 r25.t8 with|none=>none|some r27=>bif r27 then some (true)else none else some (false)else none
theorem apH(M286:aD->aD->Option oa)(a0:aD)(a1:aD):bK Tryz.prog (Xh M286) 300 (abj M286) 286 (aeh.c (a0,a1,())) [] 0 d286.rd=Nv M286 a0 a1:=by kernel_rfl
def AE:Nat->(aD->aD->Option oa)
 |0=>(fun _ _=>none)
 |n+1=>(Nv (AE n))
def Tt(n:Nat):aD->aD->Option oa:=(AE n)
theorem FM:∀n,ZA (Tt n)
 |0=>fun _ _ h=>(by cases h)
 |n+1=>by
  have ih:=FM n
  have i286:=ih
  exact(dx (Uw i286) (ajI (Tt n)) (fun _=>by kernel_rfl) (fun _=>by kernel_rfl) fun g=>apH (Tt n) g.1 g.2.1)
def Ra:aD->aD->Option oa:=fun a0 a1=>lim (fun n=>Tt n a0 a1)
theorem WN:ZA Ra:=fun g b h=>by
 obtain⟨n,hn⟩:=cz (show lim (fun n=>Tt n g.1 g.2.1)=some b from h)
 exact(FM n) g b hn
def aoF(F:aI):aI:=Wg Ra F
theorem T6{F:aI}(h:aZ Tryz.prog F):aZ Tryz.prog (aoF F):=LR WN h
abbrev akM:Type:=aD
def d246:Td 0 akM:= .c [] [6] (.r 0 1 (ec 6 (qp 0 0) en) (sb 0 34 (lg 34) sn) (fun z=>z.2.1) (fun x=>(((),()),(x,()))) fun _=>rfl)
def uo(a0:Int)(a1:aD)(a2:aD):Option akM:=
 bif decide (a0=13)then match Ra a1 a2 with|none=>none|some r1=>bif bif bif decide (a1.aa=a2.aa)then bif decide (a1.af=a2.af)then bif decide (a1.ag=a2.ag)then true else false else false else false then false else true then bif decide (a0=14)then some (gO r1 true)else some (gO true r1)else match qa a1 with|none=>none|some r2=>bif decide (a0=14)then some (gO r1 (decide (1<((r2,()),()).fst.fst)))else some (gO (decide (1<((r2,()),()).fst.fst)) r1)else bif decide (a0=14)then match Ra a1 a2 with|none=>none|some r3=>bif bif bif decide (a1.aa=a2.aa)then bif decide (a1.af=a2.af)then bif decide (a1.ag=a2.ag)then true else false else false else false then false else true then bif decide (a0=14)then some (gO r3 true)else some (gO true r3)else match qa a1 with|none=>none|some r4=>bif decide (a0=14)then some (gO r3 (decide (1<((r4,()),()).fst.fst)))else some (gO (decide (1<((r4,()),()).fst.fst)) r3)else bif decide (a0=15)then some (gO (decide (a2.aa<=a1.af)) (decide (a1.aa<a2.af)))else bif decide (a0=16)then some (gO (decide (a2.aa<a1.af)) (decide (a1.aa<=a2.af)))else bif decide (a0=17)then some (gO (decide (a1.aa<=a2.af)) (decide (a2.aa<a1.af)))else bif decide (a0=18)then some (gO (decide (a1.aa<a2.af)) (decide (a2.aa<=a1.af)))else match zu a1 with|none=>none|some r5=>match zu a2 with|none=>none|some r6=>bif decide (a0=19)then bif r5.snd then bif r5.fst then some (gO true r6.snd)else some (gO r6.fst r6.snd)else bif r5.fst then some (gO true false)else some (gO r6.fst false)else bif r5.snd then bif r5.fst then some (gO r6.fst true)else some (gO false true)else bif r5.fst then some (gO r6.fst r6.snd)else some (gO false r6.snd)
def acN:aI->aI:=eL Tryz.prog 246 false (lc (qi .i64) (lc (qg 34) (lc (qg 34) ln))) d246 (fun g=>uo g.1 g.2.1 g.2.2.1)
theorem YN:EO acN:=fun h=>kL (an:= .no) Tryz.func246 (T6 (KB (s9 (mD aK)))) aC h
theorem uz:EP acN:=fun h=>kP h
def ahF:aI:=(acN (af2 (adn (afU (afJ (RI (N9 (Bp (EY (Sb (e84 (e43 (e42 (e41 cL))))))))))))))
abbrev ai4:Type:=aD×Int
def d166:Td 0 ai4:= .c [] [6,7] (.r 0 1 (ec 6 (qp 0 0) (ec 7 (qi .i64) en)) (sb 0 34 (lg 34) sn) (fun z=>(z.2.1,z.1.2.1)) (fun x=>(((),x.2,()),(x.1,()))) fun _=>rfl)
theorem PL:∀f∈([84,102,242]:List Nat),aV (ahF) f:=(ax (uz (uE (tV (uZ (vg (lE (pn (gK (fQ (kR (gj (jz (sF (se aY)))))))))))))) (ax (uz (uE (tV (uZ (vg (lE (pn (gK (fQ (kR (gj (jz (sF (se aY)))))))))))))) (ax (uz (uE (tV (uZ (vg (lE (pn (gK (fQ (kR (gj (jz (sF (se aY)))))))))))))) aC)))
def mC(a0:Int)(a1:aD)(a2:aD):Option ai4:=
 match match OL a1 with|none=>none|some r1=>bif bif r1 then false else true then some (true)else match OL a2 with|none=>none|some r2=>bif bif r2 then false else true then some (true)else some (bif zD a0 then false else true)with|none=>none|some r3=>bif r3 then some ((aD.mk (0) (0) (0),1))else match bif jK a1 then some (true)else some (jK a2)with|none=>none|some r4=>bif r4 then some ((oy,0))else match qa a1 with|none=>none|some r5=>match qa a2 with|none=>none|some r6=>if¬r6=(0:Int)then bif decide (r5<=i64.wrap ((4096:Int).tdiv r6))then match IM a0 a1 a2 with|none=>none|some r7=>some (r7)else bif decide (a0=8)then match tA a0 a1 a2 with|none=>none|some r8=>some (r8)else bif decide (a0=9)then match tA a0 a1 a2 with|none=>none|some r9=>some (r9)else bif decide (a0=10)then match tA a0 a1 a2 with|none=>none|some r10=>some (r10)else bif decide (a0=11)then bif decide (gQ a1.aa (0)<gQ a1.af (0))then match bif decide (0<=a1.aa)then some (decide (0<=a2.aa))else some (false)with|none=>none|some r11=>bif r11 then match jj (0) (gQ a1.af (0)) (1)with|none=>none|some r12=>some (r12)else match jj (i64.wrap (0-gQ a1.af (0))) (gQ a1.af (0)) (1)with|none=>none|some r13=>some (r13)else match bif decide (0<=a1.aa)then some (decide (0<=a2.aa))else some (false)with|none=>none|some r14=>bif r14 then match jj (0) (gQ a1.aa (0)) (1)with|none=>none|some r15=>some (r15)else match jj (i64.wrap (0-gQ a1.aa (0))) (gQ a1.aa (0)) (1)with|none=>none|some r16=>some (r16)else bif decide (a0=12)then bif decide (a2.aa<0)then bif decide (0<a2.af)then match jj (i64.wrap (a2.aa+1)) (i64.wrap (a2.af-1)) (1)with|none=>none|some r17=>some (r17)else match jj (i64.wrap (a2.aa+1)) (0) (1)with|none=>none|some r18=>some (r18)else bif decide (0<a2.af)then match jj (0) (i64.wrap (a2.af-1)) (1)with|none=>none|some r19=>some (r19)else match jj (0) (0) (1)with|none=>none|some r20=>some (r20)else bif decide (a0=21)then match xB a0 a1.af a2.af with|none=>none|some r21=>match jk a1 a2 with|none=>none|some r22=>match m41 r22 r21.fst with|none=>none|some r23=>some ((r23,0))else bif decide (a0=22)then match xB a0 a1.aa a2.aa with|none=>none|some r24=>match jk a1 a2 with|none=>none|some r25=>match OM r25 (i64.wrap (r24.fst-1))with|none=>none|some r26=>some ((r26,0))else match uo a0 a1 a2 with|none=>none|some r27=>some ((r27,0))else none
def alM:aI->aI:=eL Tryz.prog 166 false (lc (qi .i64) (lc (qg 34) (lc (qg 34) ln))) d166 (fun g=>mC g.1 g.2.1 g.2.2.1)
theorem LJ:EO alM:=fun h=>kL (F:=ahF) (an:=(.two .no (.two (.two (.rb [84,102,242] 27) .no) (.two (.two (.rb [84,102,242] 34) .no) (.two .no (.two (.two .no (.two .no (.two .no (.two .no (.two (.two .no (.two .no (.two (.two (.rb [84,102,242] 79) .no) .no))) .no))))) .no)))))) (l:=[(.skip,(.rb [84,102,242] 27)),(.skip,(.rb [84,102,242] 34)),(.skip,(.rb [84,102,242] 79))]) Tryz.func166 (YN (Dn (YK (UH (V6 (tu (oT (jo (j5 (CN (qH (mD (I9 (SP aK)))))))))))))) (ax PL (ax PL (ax PL aC))) h
abbrev GO:Type:=aD
def d87:Td 0 GO:= .c [] [4] (.r 0 1 (ec 4 (qp 0 0) en) (sb 0 34 (lg 34) sn) (fun z=>z.2.1) (fun x=>(((),()),(x,()))) fun _=>rfl)
def A87:=(lc (qg 147) (lc (qg 137) ln))
def x87(M:aA->aq->Option GO):aI->aI:=eL Tryz.prog 87 false A87 d87 (fun g=>M g.1 g.2.1)
def H87(M:aA->aq->Option GO):Prop:=HL Tryz.prog 87 A87 d87 (fun g=>M g.1 g.2.1)
theorem Sz{M:aA->aq->Option GO}(hM:H87 M){F:aI}(h:aZ Tryz.prog F):aZ Tryz.prog (x87 M F):=fW (sc:=wQ) dL hM ⟨_,Tryz.func87,by kernel_rfl,by kernel_rfl⟩ (fun _=>by kernel_rfl) (fun _=>by kernel_rfl) h
def F87(M87:aA->aq->Option GO):aI:=(alM (NI (ai1 (N9 (Bp (x87 M87 (e86 (e36 (e32 cL)))))))))
theorem aea{M87}(h87:H87 M87):aZ Tryz.prog (F87 M87):=(LJ (s9 (V7 (oT (jo (Sz h87 (Ic (DY (yu aK)))))))))
structure vI where
 (t107 t108:Int)
 b0:aA
 b1:aq
 (b2 b3 b4:aD)
def P5:Td 0 vI:= .c [] [2,3,4,9,11,107,108] (.r 0 5 (ec 2 (qp 0 0) (ec 3 (qp 1 0) (ec 4 (qp 2 0) (ec 9 (qp 3 0) (ec 11 (qp 4 0) (ec 107 (qi .i64) (ec 108 (qi .i64) en))))))) (sb 0 147 (lg 147) (sb 1 137 (lg 137) (sb 2 34 (lg 34) (sb 3 34 (lg 34) (sb 4 34 (lg 34) sn))))) (fun z=>⟨z.1.2.2.2.2.2.1,z.1.2.2.2.2.2.2.1,z.2.1,z.2.2.1,z.2.2.2.1,z.2.2.2.2.1,z.2.2.2.2.2.1⟩) (fun x=>(((),(),(),(),(),x.t107,x.t108,()),(x.b0,x.b1,x.b2,x.b3,x.b4,()))) fun _=>rfl)
def Kv(M87:aA->aq->Option GO)(p:vI):Option (Option vI):=
 bif decide (p.t108<p.t107)then match m32 p.b3 p.t108 with|none=>none|some r1=>bif r1 then if(0:Int)<=i64.wrap ((1:Int)+p.t108)/\i64.wrap ((1:Int)+p.t108)<(↑p.b1.aj.length:Int)then match M87 p.b0 (aq.mk p.b1.aj[(i64.wrap (1+p.t108)).toNat]!.aW p.b1.aj[(i64.wrap (1+p.t108)).toNat]!.fN p.b1.aj[(i64.wrap (1+p.t108)).toNat]!.aj)with|none=>none|some r2=>match jk p.b4 r2 with|none=>none|some r3=>some (some (vI.mk p.t107 (i64.wrap (p.t108+1)) p.b0 (aq.mk p.b1.aW p.b1.fN p.b1.aj) p.b2 p.b3 r3))else none else some (some (vI.mk p.t107 (i64.wrap (p.t108+1)) p.b0 (aq.mk p.b1.aW p.b1.fN p.b1.aj) p.b2 p.b3 p.b4))else some (none)
def EH(M87:aA->aq->Option GO):vI->Option vI:=bt (Kv M87)
def alU(M87:aA->aq->Option GO):An:=(.two .no (.two (.two .no (.two .no (.two .no (.two .no (.two .no (.two .no (.two .no (.two .no (.two .no (.two .no (.two (.two .no (.two .no (.two (.two .no (P5.lp (EH M87) .no)) .no))) .no))))))))))) .no))
theorem apx(M87:aA->aq->Option GO):eC Tryz.prog (F87 M87) 0 300 87 (alU M87):=bT (l:=[(aS Tryz.f87 0,(P5.lp (EH M87) .no))]) Tryz.func87 (bA (by kernel_rfl)) (by kernel_rfl) (ax (aO P5) aC)
def s87(M87:aA->aq->Option GO)(a0:aA)(a1:aq):Option GO:=
 bif decide (a1.aW=0)then some (Qb a1.fN)else bif decide (a1.aW=24)then if(0:Int)<=a1.fN/\a1.fN<(↑a0.ah.length:Int)then some (a0.ah[a1.fN.toNat]!)else none else bif decide (a1.aW=6)then if(0:Int)<=(0:Int)/\(0:Int)<(↑a1.aj.length:Int)then match M87 a0 (aq.mk a1.aj[0]!.aW a1.aj[0]!.fN a1.aj[0]!.aj)with|none=>none|some r4=>match Sm a1.aW r4 with|none=>none|some r5=>some (r5.fst)else none else bif decide (a1.aW=7)then if(0:Int)<=(0:Int)/\(0:Int)<(↑a1.aj.length:Int)then match M87 a0 (aq.mk a1.aj[0]!.aW a1.aj[0]!.fN a1.aj[0]!.aj)with|none=>none|some r6=>match Sm a1.aW r6 with|none=>none|some r7=>some (r7.fst)else none else bif decide (a1.aW=23)then if(0:Int)<=(0:Int)/\(0:Int)<(↑a1.aj.length:Int)then match M87 a0 (aq.mk a1.aj[0]!.aW a1.aj[0]!.fN a1.aj[0]!.aj)with|none=>none|some r8=>match zu r8 with|none=>none|some r9=>bif bif r9.fst then false else true then if(0:Int)<=(1:Int)/\(1:Int)<(↑a1.aj.length:Int)then match M87 a0 (aq.mk a1.aj[1]!.aW a1.aj[1]!.fN a1.aj[1]!.aj)with|none=>none|some r10=>some (r10)else none else bif bif r9.snd then false else true then if(0:Int)<=(2:Int)/\(2:Int)<(↑a1.aj.length:Int)then match M87 a0 (aq.mk a1.aj[2]!.aW a1.aj[2]!.fN a1.aj[2]!.aj)with|none=>none|some r11=>some (r11)else none else if(0:Int)<=(1:Int)/\(1:Int)<(↑a1.aj.length:Int)then match M87 a0 (aq.mk a1.aj[1]!.aW a1.aj[1]!.fN a1.aj[1]!.aj)with|none=>none|some r12=>if(0:Int)<=(2:Int)/\(2:Int)<(↑a1.aj.length:Int)then match M87 a0 (aq.mk a1.aj[2]!.aW a1.aj[2]!.fN a1.aj[2]!.aj)with|none=>none|some r13=>match jk r12 r13 with|none=>none|some r14=>some (r14)else none else none else none else bif decide (a1.aW=25)then if(0:Int)<=(0:Int)/\(0:Int)<(↑a1.aj.length:Int)then match M87 a0 (aq.mk a1.aj[0]!.aW a1.aj[0]!.fN a1.aj[0]!.aj)with|none=>none|some r15=>match TB r15 (0) (i64.wrap ((↑a1.aj.length:Int)-2))with|none=>none|some r16=>match EH M87 (vI.mk (i64.wrap ((↑a1.aj.length:Int)-1)) (0) a0 (aq.mk a1.aW a1.fN a1.aj) (aD.mk (0) (0) (0)) r16.fst oy)with|none=>none|some r17=>bif decide (r17.t108<r17.t107)then match m32 r17.b3 r17.t108 with|none=>none|some r18=>bif r18 then if(0:Int)<=i64.wrap ((1:Int)+r17.t108)/\i64.wrap ((1:Int)+r17.t108)<(↑r17.b1.aj.length:Int)then match M87 r17.b0 (aq.mk r17.b1.aj[(i64.wrap (1+r17.t108)).toNat]!.aW r17.b1.aj[(i64.wrap (1+r17.t108)).toNat]!.fN r17.b1.aj[(i64.wrap (1+r17.t108)).toNat]!.aj)with|none=>none|some r19=>match jk r17.b4 r19 with|none=>none|some r20=>none else none else none else some (r17.b4)else none else if(0:Int)<=(0:Int)/\(0:Int)<(↑a1.aj.length:Int)then match M87 a0 (aq.mk a1.aj[0]!.aW a1.aj[0]!.fN a1.aj[0]!.aj)with|none=>none|some r21=>if(0:Int)<=(1:Int)/\(1:Int)<(↑a1.aj.length:Int)then match M87 a0 (aq.mk a1.aj[1]!.aW a1.aj[1]!.fN a1.aj[1]!.aj)with|none=>none|some r22=>match mC a1.aW r21 r22 with|none=>none|some r23=>some (r23.fst)else none else none
theorem c87(M87:aA->aq->Option GO)(a0:aA)(a1:aq):bK Tryz.prog (F87 M87) 300 (alU M87) 87 (A87.c (a0,a1,())) [] 0 d87.rd=s87 M87 a0 a1:=by kernel_rfl
def ajC:Nat->(aA->aq->Option GO)
 |0=>(fun _ _=>none)
 |n+1=>(s87 (ajC n))
def m87(n:Nat):aA->aq->Option GO:=(ajC n)
theorem KR:∀n,H87 (m87 n)
 |0=>fun _ _ h=>(by cases h)
 |n+1=>by
  have ih:=KR n
  have i87:=ih
  exact(dx (aea i87) (apx (m87 n)) (fun _=>by kernel_rfl) (fun _=>by kernel_rfl) fun g=>c87 (m87 n) g.1 g.2.1)
def GZ:aA->aq->Option GO:=fun a0 a1=>lim (fun n=>m87 n a0 a1)
theorem agL:H87 GZ:=fun g b h=>by
 obtain⟨n,hn⟩:=cz (show lim (fun n=>m87 n g.1 g.2.1)=some b from h)
 exact(KR n) g b hn
def e87(F:aI):aI:=x87 GZ F
theorem Io{F:aI}(h:aZ Tryz.prog F):aZ Tryz.prog (e87 F):=Sz agL h
end Go.Proofs.YtnfljbehcffmcaaGreat
end
noncomputable section
namespace Go.Iv
open Go
variable [U:qz] [L:lY]
theorem aF{n:Int}(h1: -9223372036854775808<=n:=by omega)(h2:n<9223372036854775808:=by omega):IntKind.i64.wrap n=n:=by
 simp[IntKind.wrap,IntKind.bits,IntKind.signed]
 omega
theorem FA{γ:Type}{rnd:γ->Option (Option γ)}(f:Nat->γ)(n:Nat)(h1:∀i,i<n->rnd (f i)=some (some (f (i+1))))(h2:∀r,rnd (f n)≠some (some r)):bt rnd (f 0)=some (f n):=by
 have key:∀k i,i+k=n->bt rnd (f i)=some (f n):=by
  intro k
  induction k with
  |zero=>
   intro i hi;have:i=n:=by omega
   subst this;exact bU h2
  |succ k ih=>intro i hi;rw[bD (h1 i (by omega))];exact ih (i+1) (by omega)
 exact key n 0 (by omega)
def jb{α β ρ:Type}(step:β->α->Option β)(ret:β->α->ρ)(fin:β->ρ):List α->β->ρ
 |[],b=>fin b
 |x::xs,b=>match step b x with
  |some b'=>jb step ret fin xs b'
  |none=>ret b x
theorem Aw{γ α β ρ:Type}{rnd:γ->Option (Option γ)}(l:List α)(mk:Nat->β->γ)(step:β->α->Option β)(ret:β->α->ρ)(fin:β->ρ)(I:Nat->β->Prop)
  (h1:∀i b (hi:i<l.length),I i b->∀b',step b l[i]=some b'->rnd (mk i b)=some (some (mk (i+1) b'))/\I (i+1) b')
  (h2:∀i b (hi:i<l.length),I i b->step b l[i]=none->∀r,rnd (mk i b)≠some (some r)) (h3:∀b,I l.length b->∀r,rnd (mk l.length b)≠some (some r)) {b:β} (hb:I 0 b):
  ∃i v,i<=l.length/\bt rnd (mk 0 b)=some (mk i v)/\I i v/\((i=l.length/\jb step ret fin l b=fin v)\/∃hi:i<l.length,step v l[i]=none/\jb step ret fin l b=ret v l[i]):=by
 have key:∀(xs:List α) (i:Nat) (b:β),l.drop i=xs->i<=l.length->I i b->∃j v,j<=l.length/\bt rnd (mk i b)=some (mk j v)/\I j v/\((j=l.length/\jb step ret fin xs b=fin v)\/∃hi:j<l.length,step v l[j]=none/\jb step ret fin xs b=ret v l[j]):=by
  intro xs
  induction xs with
  |nil=>
   intro i b hd hi hb
   have:i=l.length:=by have:=congrArg List.length hd;simp at this;omega
   subst this
   exact⟨_,b,Nat.le_refl _,bU (h3 b hb),hb, .inl ⟨rfl,rfl⟩⟩
  |cons x xs ih=>
   intro i b hd hi hb
   have hil:i<l.length:=by have:=congrArg List.length hd;simp at this;omega
   have hx:l[i]=x:=by
    have:=congrArg List.head? hd
    rw[List.head?_drop,List.getElem?_eq_getElem hil]at this
    simpa using this
   have hd':l.drop (i+1)=xs:=by
    have:=congrArg List.tail hd
    rw[List.tail_drop]at this
    simpa using this
   cases hs:step b x with
   |some b'=>
    obtain⟨q1,q2⟩:=h1 i b hil hb b' (by rw[hx];exact hs)
    obtain⟨j,v,e1,e2,e3,e4⟩:=ih (i+1) b' hd' hil q2
    have er:jb step ret fin (x::xs) b=jb step ret fin xs b':=by simp only[jb,hs]
    exact⟨j,v,e1,by rw[bD q1];exact e2,e3,by rw[er];exact e4⟩
   |none=>
    have er:jb step ret fin (x::xs) b=ret b x:=by simp only[jb,hs]
    exact⟨i,b,hi,bU (h2 i b hil hb (by rw[hx];exact hs)),hb, .inr ⟨hil,by rw[hx];exact hs,by rw[er,hx]⟩⟩
 exact key l 0 b rfl (Nat.zero_le _) hb
end Go.Iv
end
noncomputable section
namespace Go.Proofs.YtnfljbehcffmcaaGreat
open Go Go.Iv
theorem fm{n:Int}(h1:0<=n:=by omega)(h2:n<18446744073709551616:=by omega):IntKind.u64.wrap n=n:=by
 simp only[IntKind.wrap,IntKind.signed,IntKind.bits]at*
 simp
 omega
theorem Ig(n:Int):IntKind.u64.wrap n=n%18446744073709551616:=by
 simp only[IntKind.wrap,IntKind.signed,IntKind.bits]at*
 simp
structure fI (y1 y0 u d q r:Int):Prop where
 r0:0<=r
 r1:r<4294967296
 q0:0<=q
 q1:q<=4294967297
 e:u=q*y1+r
 hi:u*4294967296+d<(q+1)*(y1*4294967296+y0)
 top:q=4294967297->r+y1<4294967296
structure pV (y1 y0 u d:Int):Prop where
 ha:2147483648<=y1
 hb:y1<4294967296
 hc:0<=y0
 hd:y0<4294967296
 he:0<=u
 hf:u<y1*4294967296+y0
 hg:0<=d
 hh:d<4294967296
theorem fI.start{y1 y0 u d:Int}(h:pV y1 y0 u d):fI y1 y0 u d (u/y1) (u%y1):=by
 obtain⟨ha,hb,hc,hd,he,hf,hg,hh⟩:=h
 have e1:=Int.mul_ediv_add_emod u y1
 have m0:=Int.emod_nonneg u (b:=y1) (by omega)
 have m1:=Int.emod_lt_of_pos u (b:=y1) (by omega)
 have q0:0<=u/y1:=Int.ediv_nonneg he (by omega)
 have q1:u/y1<=4294967297:=by
  have:u/y1<4294967298:=Int.ediv_lt_of_lt_mul (by omega) (by omega)
  omega
 rw[Int.mul_comm]at e1
 refine⟨m0,by omega,q0,q1,by omega,?_,fun hq=> ?_⟩
 ·have k1:(u/y1+1)*(y1*4294967296+y0)=((u/y1)*y1)*4294967296+y1*4294967296+(u/y1)*y0+y0:=by
   rw[Int.add_mul,Int.mul_add,Int.one_mul,Int.mul_assoc];omega
  have k2:0<=u/y1*y0:=Int.mul_nonneg q0 hc
  rw[k1]
  omega
 ·rw[hq]at e1
  omega
theorem fI.stop{y1 y0 u d q r:Int}(H:pV y1 y0 u d)(h:fI y1 y0 u d q r)(h1:q<4294967296)(h2:¬4294967296*r+d<q*y0):q*(y1*4294967296+y0)<=u*4294967296+d:=by
 have k:q*(y1*4294967296+y0)=(q*y1)*4294967296+q*y0:=by rw[Int.mul_add,Int.mul_assoc]
 have:=h.e
 rw[k]
 omega
theorem fI.big{y1 y0 u d q r:Int}(H:pV y1 y0 u d)(h:fI y1 y0 u d q r)(h1:4294967296<=q\/4294967296*r+d<q*y0):u*4294967296+d<q*(y1*4294967296+y0):=by
 have k:q*(y1*4294967296+y0)=(q*y1)*4294967296+q*y0:=by rw[Int.mul_add,Int.mul_assoc]
 have e:=h.e
 rcases h1 with h1|h1
 ·have k2:4294967296*(y1*4294967296+y0)<=q*(y1*4294967296+y0):=Int.mul_le_mul_of_nonneg_right h1 (by have:=H.ha;have:=H.hc;omega)
  have:=H.hf
  have:=H.hh
  omega
 ·rw[k]
  omega
theorem fI.pos{y1 y0 u d q r:Int}(H:pV y1 y0 u d)(h:fI y1 y0 u d q r)(h1:4294967296<=q\/4294967296*r+d<q*y0):1<=q:=by
 have k:=fI.big H h h1
 have:=h.q0
 rcases (show q=0\/1<=q by omega)with rfl|h2
 ·rw[Int.zero_mul]at k
  have:=H.he
  have:=H.hg
  omega
 ·exact h2
theorem fI.next{y1 y0 u d q r:Int}(H:pV y1 y0 u d)(h:fI y1 y0 u d q r)(h1:4294967296<=q\/4294967296*r+d<q*y0)(h2:r+y1<4294967296):fI y1 y0 u d (q-1) (r+y1):=by
 have hb:=fI.big H h h1
 have hp:=fI.pos H h h1
 have:=H.ha
 have:=h.r0
 have:=h.q1
 refine⟨by omega,h2,by omega,by omega,?_,?_,fun hq=>by omega⟩
 ·rw[Int.sub_mul,Int.one_mul]
  have:=h.e
  omega
 ·rw[show q-1+1=q by omega]
  exact hb
theorem fI.brk{y1 y0 u d q r:Int}(H:pV y1 y0 u d)(h:fI y1 y0 u d q r)(h1:4294967296<=q\/4294967296*r+d<q*y0)(h2:4294967296<=r+y1):(q-1)*(y1*4294967296+y0)<=u*4294967296+d:=by
 have hp:=fI.pos H h h1
 have hq:q<=4294967296:=by
  have:=h.q1
  have:=h.top
  omega
 have k:(q-1)*(y1*4294967296+y0)=(q*y1)*4294967296-y1*4294967296+(q-1)*y0:=by
  rw[Int.mul_add,<-Int.mul_assoc,Int.sub_mul q 1 y1,Int.one_mul,Int.sub_mul]
 have k2:(q-1)*y0<=4294967296*y0:=Int.mul_le_mul_of_nonneg_right (by omega) H.hc
 have:=h.e
 have:=H.hd
 have:=H.hg
 rw[k]
 omega
def FV(y1 y0 u d q:Int):Prop:=0<=q/\q<=4294967297/\q*(y1*4294967296+y0)<=u*4294967296+d/\u*4294967296+d<(q+1)*(y1*4294967296+y0)
theorem fI.y0q{y1 y0 u d q r:Int}(H:pV y1 y0 u d)(h:fI y1 y0 u d q r)(h1:q<4294967296):IntKind.u64.wrap (q*y0)=q*y0:=by
 have k1:0<=q*y0:=Int.mul_nonneg h.q0 H.hc
 have k2:q*y0<=4294967295*y0:=Int.mul_le_mul_of_nonneg_right (by omega) H.hc
 have:=H.hd
 exact fm k1 (by omega)
theorem fI.rr{y1 y0 u d q r:Int}(H:pV y1 y0 u d)(h:fI y1 y0 u d q r):IntKind.u64.wrap (IntKind.u64.wrap (4294967296*r)+d)=4294967296*r+d:=by
 have:=h.r0
 have:=h.r1
 have:=H.hg
 have:=H.hh
 rw[fm (n:=4294967296*r),fm]
theorem fI.TD{y1 y0 u d q r:Int}(H:pV y1 y0 u d)(h:fI y1 y0 u d q r):(bif decide (4294967296<=q)then some true else some (decide (IntKind.u64.wrap (IntKind.u64.wrap (4294967296*r)+d)<IntKind.u64.wrap (q*y0))))=some (decide (4294967296<=q\/4294967296*r+d<q*y0)):=by
 by_cases hq:4294967296<=q
 ·rw[decide_eq_true hq,decide_eq_true (Or.inl hq),cond_true]
 ·rw[decide_eq_false hq,cond_false,fI.rr H h,fI.y0q H h (by omega)]
  by_cases hc:4294967296*r+d<q*y0
  ·rw[decide_eq_true hc,decide_eq_true (Or.inr hc)]
  ·rw[decide_eq_false hc,decide_eq_false (fun k=>k.elim hq hc)]
theorem fI.done{y1 y0 u d q r:Int}(H:pV y1 y0 u d)(h:fI y1 y0 u d q r)(hr:4294967296<=q\/4294967296*r+d<q*y0->4294967296<=r+y1):FV y1 y0 u d (bif decide (4294967296<=q\/4294967296*r+d<q*y0)then q-1 else q):=by
 have h0:=h.q0
 have h1:=h.q1
 by_cases hc:4294967296<=q\/4294967296*r+d<q*y0
 ·rw[decide_eq_true hc,cond_true]
  have:=fI.pos H h hc
  refine⟨by omega,by omega,fI.brk H h hc (hr hc),?_⟩
  rw[show q-1+1=q by omega]
  exact fI.big H h hc
 ·rw[decide_eq_false hc,cond_false]
  exact⟨h0,by omega,fI.stop H h (by omega) (fun k=>hc (.inr k)),h.hi⟩
theorem fI.wr1{y1 y0 u d q r:Int}(H:pV y1 y0 u d)(h:fI y1 y0 u d q r):IntKind.u64.wrap (r+y1)=r+y1:=by
 have:=h.r0
 have:=h.r1
 have:=H.ha
 have:=H.hb
 exact fm
theorem fI.wq1{y1 y0 u d q r:Int}(H:pV y1 y0 u d)(h:fI y1 y0 u d q r)(hc:4294967296<=q\/4294967296*r+d<q*y0):IntKind.u64.wrap (q-1)=q-1:=by
 have:=h.q1
 have:=fI.pos H h hc
 exact fm
theorem OU{y s y1 y0 u d e q r:Int}(H:pV y1 y0 u d)(h:fI y1 y0 u d q r):∃q' r',Cz (jG.mk y s y1 y0 u d e q r)=some (jG.mk y s y1 y0 u d e q' r')/\fI y1 y0 u d q' r'/\(4294967296<=q'\/4294967296*r'+d<q'*y0->4294967296<=r'+y1):=by
 obtain⟨z,e1,⟨q',r',rfl,hI⟩,hs⟩:=jN (rnd:=ue) (fun p=>∃q r,p=jG.mk y s y1 y0 u d e q r/\fI y1 y0 u d q r) (fun p=>p.t15.toNat) (fun p p' ⟨q,r,hp,hI⟩ hn=>by
  subst hp
  have hn:ue (jG.mk y s y1 y0 u d e q r)=some (some p'):=hn
  simp only[ue]at hn
  rw[fI.TD H hI]at hn
  by_cases hc:4294967296<=q\/4294967296*r+d<q*y0
  ·rw[decide_eq_true hc]at hn
   simp only[cond_true,fI.wr1 H hI,fI.wq1 H hI hc]at hn
   by_cases hb:4294967296<=r+y1
   ·rw[decide_eq_true hb]at hn
    cases hn
   ·rw[decide_eq_false hb]at hn
    simp only[cond_false,Option.some.injEq]at hn
    have hp:=fI.pos H hI hc
    subst hn
    exact⟨⟨q-1,r+y1,rfl,fI.next H hI hc (by omega)⟩,by show (q-1).toNat<q.toNat;omega⟩
  ·rw[decide_eq_false hc]at hn
   cases hn) ⟨q,r,rfl,h⟩
 refine⟨q',r',e1,hI,fun hc=> ?_⟩
 by_cases hb:4294967296<=r'+y1
 ·exact hb
 ·exact absurd (show ue _=some (some _)by
   simp only[ue]
   rw[fI.TD H hI,decide_eq_true hc]
   simp only[cond_true,fI.wr1 H hI]
   rw[decide_eq_false hb]
   rfl) (hs _)
theorem E8{y s y1 y0 u d e q r:Int}(H:pV y1 y0 u d)(h:fI y1 y0 u d q r):∃q' r',yw (iX.mk y s y1 y0 d e r u q)=some (iX.mk y s y1 y0 d e r' u q')/\fI y1 y0 u d q' r'/\(4294967296<=q'\/4294967296*r'+d<q'*y0->4294967296<=r'+y1):=by
 obtain⟨z,e1,⟨q',r',rfl,hI⟩,hs⟩:=jN (rnd:=va) (fun p=>∃q r,p=iX.mk y s y1 y0 d e r u q/\fI y1 y0 u d q r) (fun p=>p.t18.toNat) (fun p p' ⟨q,r,hp,hI⟩ hn=>by
  subst hp
  have hn:va (iX.mk y s y1 y0 d e r u q)=some (some p'):=hn
  simp only[va]at hn
  rw[fI.TD H hI]at hn
  by_cases hc:4294967296<=q\/4294967296*r+d<q*y0
  ·rw[decide_eq_true hc]at hn
   simp only[cond_true,fI.wr1 H hI,fI.wq1 H hI hc]at hn
   by_cases hb:4294967296<=r+y1
   ·rw[decide_eq_true hb]at hn
    cases hn
   ·rw[decide_eq_false hb]at hn
    simp only[cond_false,Option.some.injEq]at hn
    have hp:=fI.pos H hI hc
    subst hn
    exact⟨⟨q-1,r+y1,rfl,fI.next H hI hc (by omega)⟩,by show (q-1).toNat<q.toNat;omega⟩
  ·rw[decide_eq_false hc]at hn
   cases hn) ⟨q,r,rfl,h⟩
 refine⟨q',r',e1,hI,fun hc=> ?_⟩
 by_cases hb:4294967296<=r'+y1
 ·exact hb
 ·exact absurd (show va _=some (some _)by
   simp only[va]
   rw[fI.TD H hI,decide_eq_true hc]
   simp only[cond_true,fI.wr1 H hI]
   rw[decide_eq_false hb]
   rfl) (hs _)
theorem acs{n:Int}(h1:0<=n)(h2:n<256):IntKind.u8.wrap n=n:=by
 simp only[IntKind.wrap,IntKind.signed,IntKind.bits]at*
 simp
 omega
theorem QK{x:Int}(k:Nat)(hk:k<=64):cq IntKind.u64 x (k:Int)=x/2^k:=by
 unfold cq
 rw[show min ((k:Int)).toNat IntKind.u64.bits=k from by simp only[Int.toNat_natCast,IntKind.bits];omega]
 exact Int.fdiv_eq_ediv_of_nonneg _ (Int.le_of_lt (Int.pow_pos (by omega)))
def aa3(i:Nat):Bool:=i==0||((List.range 9).any fun t=>(jF.data[i]!).toNat==t&&decide (1<=t)&&decide (2^(t-1)<=i)&&decide (i<2^t))
theorem Yd:(List.range 256).all aa3=true:=by kernel_rfl
theorem UA{x:Int}(h1:1<=x)(h2:x<256):∃t:Nat,1<=t/\t<=8/\bM jF (IntKind.u8.wrap x).toNat=(t:Int)/\2^(t-1)<=x/\x<2^t:=by
 rw[acs (by omega) h2]
 have h:=List.all_eq_true.mp Yd x.toNat (List.mem_range.mpr (by omega))
 simp only[aa3,Bool.or_eq_true,beq_iff_eq,List.any_eq_true,List.mem_range,Bool.and_eq_true,decide_eq_true_eq]at h
 rcases h with h|⟨t,ht,⟨⟨h3,h4⟩,h5⟩,h6⟩
 ·omega
 ·have h5':((2^(t-1):Nat):Int)<=(x.toNat:Int):=Int.ofNat_le.mpr h5
  have h6':((x.toNat:Nat):Int)<((2^t:Nat):Int):=Int.ofNat_lt.mpr h6
  rw[Int.toNat_of_nonneg (by omega),Int.natCast_pow]at h5' h6'
  exact⟨t,h4,by omega,by unfold bM;rw[h3],h5',h6'⟩
theorem Q5{a x:Int}{n t:Nat}(h1:1<=t)(h2:t<=8)(hx1:2^(t-1)<=x)(hx2:x<2^t)(hn:n<=56)(ha1:x*2^n<=a)(ha2:a<(x+1)*2^n):
  2^63<=a*2^(64-(n+t))/\a*2^(64-(n+t))<2^64:=by
 have p0:∀k:Nat,(0:Int)<2^k:=fun k=>Int.pow_pos (by omega)
 have e1:(2:Int)^63=2^(t-1)*2^n*2^(64-(n+t)):=by
  rw[<-Int.pow_add,<-Int.pow_add];congr 1;omega
 have e2:(2:Int)^64=2^t*2^n*2^(64-(n+t)):=by
  rw[<-Int.pow_add,<-Int.pow_add];congr 1;omega
 rw[e1,e2]
 refine⟨Int.mul_le_mul_of_nonneg_right (Int.le_trans (Int.mul_le_mul_of_nonneg_right hx1 (Int.le_of_lt (p0 n))) ha1) (Int.le_of_lt (p0 _)),?_⟩
 refine Int.mul_lt_mul_of_pos_right (Int.lt_of_lt_of_le ha2 ?_) (p0 _)
 exact Int.mul_le_mul_of_nonneg_right (by omega) (Int.le_of_lt (p0 n))
end Go.Proofs.YtnfljbehcffmcaaGreat
end
noncomputable section
namespace Go.Proofs.YtnfljbehcffmcaaGreat
open Go Go.Iv
open Go.IntKind (i64)
theorem Kx(x:Int):cq IntKind.u64 x 32=x/4294967296:=QK (x:=x) 32 (by omega)
theorem alh(x:Int):cq IntKind.u64 x 16=x/65536:=QK (x:=x) 16 (by omega)
theorem aqa(x:Int):cq IntKind.u64 x 8=x/256:=QK (x:=x) 8 (by omega)
def Si(a:Int)(r:Option Int):Prop:=∃s:Nat,s<=63/\(match r with|none=>none|some r1=>some (i64.wrap (64-r1)))=some (s:Int)/\2^63<=a*2^s/\a*2^s<2^64
theorem gM{a x:Int}(n:Nat)(hn:n<=56)(hx1:1<=x)(hx2:x<256)(ha1:x*2^n<=a)(ha2:a<(x+1)*2^n):
  Si a (if(0:Int)<=IntKind.u8.wrap x/\IntKind.u8.wrap x<(256:Int)then some (i64.wrap ((n:Int)+i64.wrap (bM jF (IntKind.u8.wrap x).toNat)))else none):=by
 obtain⟨t,h1,h2,h3,h4,h5⟩:=UA hx1 hx2
 rw[if_pos (by rw[acs (by omega) hx2];omega),h3]
 refine⟨64-(n+t),by omega,?_,Q5 h1 h2 h4 h5 hn ha1 ha2⟩
 rw[aF (n:=(t:Int)),aF (n:=(n:Int)+t)]
 show some _=_
 rw[aF]
 congr 1
 omega
theorem XA{a:Int}(h1:1<=a)(h2:a<18446744073709551616):∃s:Nat,s<=63/\agI a=some (s:Int)/\2^63<=a*2^s/\a*2^s<2^64:=by
 show Si a (XE a)
 unfold XE
 simp only[Kx,alh,aqa]
 by_cases c1:4294967296<=a
 ·rw[decide_eq_true c1,cond_true]
  by_cases c2:65536<=a/4294967296
  ·rw[decide_eq_true c2,cond_true]
   by_cases c3:256<=a/4294967296/65536
   ·rw[decide_eq_true c3,cond_true]
    exact gM 56 (by omega) (by omega) (by omega) (by omega) (by omega)
   ·rw[decide_eq_false c3,cond_false]
    exact gM 48 (by omega) (by omega) (by omega) (by omega) (by omega)
  ·rw[decide_eq_false c2,cond_false]
   by_cases c3:256<=a/4294967296
   ·rw[decide_eq_true c3,cond_true]
    exact gM 40 (by omega) (by omega) (by omega) (by omega) (by omega)
   ·rw[decide_eq_false c3,cond_false]
    exact gM 32 (by omega) (by omega) (by omega) (by omega) (by omega)
 ·rw[decide_eq_false c1,cond_false]
  by_cases c2:65536<=a
  ·rw[decide_eq_true c2,cond_true]
   by_cases c3:256<=a/65536
   ·rw[decide_eq_true c3,cond_true]
    exact gM 24 (by omega) (by omega) (by omega) (by omega) (by omega)
   ·rw[decide_eq_false c3,cond_false]
    exact gM 16 (by omega) (by omega) (by omega) (by omega) (by omega)
  ·rw[decide_eq_false c2,cond_false]
   by_cases c3:256<=a
   ·rw[decide_eq_true c3,cond_true]
    exact gM 8 (by omega) (by omega) (by omega) (by omega) (by omega)
   ·rw[decide_eq_false c3,cond_false]
    exact gM 0 (by omega) (by omega) (by omega) (by omega) (by omega)
end Go.Proofs.YtnfljbehcffmcaaGreat
end
noncomputable section
namespace Go.Proofs.YtnfljbehcffmcaaGreat
open Go Go.Iv
theorem agv{x:Int}(k:Nat)(hk:k<=64):ki IntKind.u64 x (k:Int)=(x*2^k)%18446744073709551616:=by
 unfold ki
 rw[show min ((k:Int)).toNat IntKind.u64.bits=k from by simp only[Int.toNat_natCast,IntKind.bits];omega]
 exact Ig _
theorem Be{x:Int}(h1:0<=x)(h2:x<18446744073709551616):(BitVec.ofInt 64 x).toNat=x.toNat:=by
 rw[BitVec.toNat_ofInt]
 congr 1
 omega
theorem SA{x:Int}(h1:0<=x)(h2:x<18446744073709551616):qL IntKind.u64 x 4294967295=x%4294967296:=by
 unfold qL
 show IntKind.u64.wrap ((BitVec.ofInt 64 x&&&BitVec.ofInt 64 4294967295).toNat:Int)=_
 rw[BitVec.toNat_and,Be h1 h2,Be (by omega) (by omega),show (4294967295:Int).toNat=2^32-1 from rfl,Nat.and_two_pow_sub_one_eq_mod,fm]
 omega
theorem orU{a b:Nat}{k:Nat}(hb:b<2^k)(h:2^k*a+b<18446744073709551616):TC IntKind.u64 ((2^k*a:Nat):Int) (b:Int)=((2^k*a+b:Nat):Int):=by
 unfold TC
 show IntKind.u64.wrap ((BitVec.ofInt 64 ((2^k*a:Nat):Int)|||BitVec.ofInt 64 (b:Int)).toNat:Int)=_
 rw[BitVec.toNat_or,Be (by omega) (by omega),Be (by omega) (by omega),Int.toNat_natCast,Int.toNat_natCast,<-Nat.two_pow_add_eq_or_of_lt hb,fm]
theorem iK{a b:Int}(h1:0<=a:=by omega):a.tdiv b=a/b:=Int.tdiv_eq_ediv_of_nonneg h1
theorem iZ{a b:Int}(h1:0<=a:=by omega):a.tmod b=a%b:=Int.tmod_eq_emod_of_nonneg h1
theorem wq0{u y1:Int}(h1:0<=u)(h2:u<18446744073709551616)(h3:2<=y1):IntKind.u64.wrap (u.tdiv y1)=u/y1:=by
 rw[iK h1]
 have:u/y1<=u:=Int.ediv_le_self _ h1
 exact fm (Int.ediv_nonneg h1 (by omega)) (by omega)
theorem wr0{u y1:Int}(h1:0<=u)(h2:u<18446744073709551616)(h3:2<=y1):IntKind.u64.wrap (u-IntKind.u64.wrap (u/y1*y1))=u%y1:=by
 have e:=Int.mul_ediv_add_emod u y1
 have m0:=Int.emod_nonneg u (b:=y1) (by omega)
 rw[Int.mul_comm]at e
 have q0:0<=u/y1*y1:=Int.mul_nonneg (Int.ediv_nonneg h1 (by omega)) (by omega)
 rw[fm (n:=u/y1*y1) q0 (by omega),fm]
 omega
theorem aaG{u d q y:Int}(h1:q*y<=u*4294967296+d)(h2:u*4294967296+d<(q+1)*y)(hy:y<18446744073709551616):
  IntKind.u64.wrap (IntKind.u64.wrap (IntKind.u64.wrap (u*4294967296)+d)-IntKind.u64.wrap (q*y))=u*4294967296+d-q*y:=by
 rw[Int.add_mul,Int.one_mul]at h2
 generalize q*y=z at*
 simp only[Ig]
 omega
theorem aey{hi lo y:Int}(h0:0<=hi)(h1:hi<y)(h2:y<18446744073709551616)(h3:0<=lo)(h4:lo<18446744073709551616):∃q,PO hi lo y=some (q,(hi*18446744073709551616+lo)%y):=by
 by_cases hz:hi=0
 ·subst hz
  refine⟨IntKind.u64.wrap (lo.tdiv y),?_⟩
  unfold PO
  rw[eF,eF,decide_eq_true rfl,cond_false,cond_false,cond_true,fA,fA,iZ h3]
  rw[show (0:Int)*18446744073709551616+lo=lo by omega]
 obtain⟨s,hs,es,b1,b2⟩:=XA (a:=y) (by omega) h2
 have hP:(0:Int)<2^s:=Int.pow_pos (by omega)
 have hQ:(0:Int)<2^(64-s):=Int.pow_pos (by omega)
 have hPQ:(2:Int)^(64-s)*2^s=18446744073709551616:=by rw[<-Int.pow_add,show 64-s+s=64 by omega];rfl
 have b1:(9223372036854775808:Int)<=y*2^s:=b1
 have b2:y*2^s<18446744073709551616:=b2
 have eY:ki IntKind.u64 y (s:Int)=y*2^s:=by rw[agv s (by omega),Int.emod_eq_of_lt (by omega) b2]
 have lb:lo/2^(64-s)<2^s:=Int.ediv_lt_of_lt_mul hQ (by rw[Int.mul_comm,hPQ];exact h4)
 have lb0:0<=lo/2^(64-s):=Int.ediv_nonneg h3 (by omega)
 have hy1:(hi+1)*2^s<=y*2^s:=Int.mul_le_mul_of_nonneg_right (by omega) (by omega)
 have hy2:(hi+1)*2^s=hi*2^s+2^s:=by rw[Int.add_mul,Int.one_mul]
 have hp0:0<=hi*2^s:=Int.mul_nonneg h0 (by omega)
 have eU:TC IntKind.u64 (ki IntKind.u64 hi (s:Int)) (cq IntKind.u64 lo (IntKind.u64.wrap (64-(s:Int))))=hi*2^s+lo/2^(64-s):=by
  rw[agv s (by omega),Int.emod_eq_of_lt hp0 (by omega),fm (n:=64-(s:Int)),show (64-(s:Int))=((64-s:Nat):Int)by omega,QK (64-s) (by omega)]
  obtain⟨a,rfl⟩:=Int.eq_ofNat_of_zero_le h0
  obtain⟨b,hb⟩:=Int.eq_ofNat_of_zero_le lb0
  rw[hb]at lb ⊢
  have e:(a:Int)*2^s=((2^s*a:Nat):Int):=by rw[Int.natCast_mul,Int.natCast_pow,Int.mul_comm];rfl
  have lb':b<2^s:=by
   have:((b:Nat):Int)<((2^s:Nat):Int):=by rw[Int.natCast_pow];exact lb
   exact Int.ofNat_lt.mp this
  rw[e]at hp0 hy2 ⊢
  rw[orU lb' (by omega)]
  omega
 have eD:ki IntKind.u64 lo (s:Int)=(lo*2^s)%18446744073709551616:=agv s (by omega)
 have key:(hi*18446744073709551616+lo)*2^s=(hi*2^s+lo/2^(64-s))*18446744073709551616+(lo*2^s)%18446744073709551616:=by
  have k1:=Int.mul_ediv_add_emod (lo*2^s) 18446744073709551616
  have k2:lo*2^s/18446744073709551616=lo/2^(64-s):=by rw[<-hPQ];exact Int.mul_ediv_mul_of_pos_left _ _ hP
  rw[k2]at k1
  rw[Int.add_mul,Int.mul_assoc,Int.mul_comm 18446744073709551616 (2^s),<-Int.mul_assoc]
  omega
 have hD0:0<=(lo*2^s)%18446744073709551616:=by omega
 have hD1:(lo*2^s)%18446744073709551616<18446744073709551616:=by omega
 have hU0:0<=hi*2^s+lo/2^(64-s):=by omega
 have hU1:hi*2^s+lo/2^(64-s)<y*2^s:=by omega
 have res:∀Q,Q*(y*2^s)<=(hi*18446744073709551616+lo)*2^s->(hi*18446744073709551616+lo)*2^s<(Q+1)*(y*2^s)->((hi*18446744073709551616+lo)*2^s-Q*(y*2^s))/2^s=(hi*18446744073709551616+lo)%y:=fun Q q1 q2=>by
  rw[<-Int.mul_assoc,<-Int.sub_mul,Int.mul_ediv_cancel _ (by omega)]
  rw[<-Int.mul_assoc]at q1 q2
  have q1:=Int.le_of_mul_le_mul_right q1 hP
  have q2:=Int.lt_of_mul_lt_mul_right q2 (Int.le_of_lt hP)
  rw[Int.add_mul,Int.one_mul]at q2
  have e:=Int.mul_ediv_add_emod (hi*18446744073709551616+lo) y
  generalize hi*18446744073709551616+lo=X at*
  have:X/y=Q:=by
   apply Int.le_antisymm
   ·have:X/y<Q+1:=Int.ediv_lt_of_lt_mul (by omega) (by rw[Int.add_mul,Int.one_mul];exact q2)
    omega
   ·exact Int.le_ediv_of_mul_le (by omega) q1
  rw[this,Int.mul_comm]at e
  omega
 rw[key]at res
 unfold PO
 rw[decide_eq_false (show ¬y=0 by omega),decide_eq_false (show ¬y<=hi by omega),decide_eq_false hz,cond_false,cond_false,cond_false,es]
 simp only[fm (n:=(s:Int))]
 rw[eY,eU,eD,fm (n:=64-(s:Int)),fA,fA,fA,fA]
 generalize hi*2^s+lo/2^(64-s)=U at*
 generalize (lo*2^s)%18446744073709551616=D at*
 generalize y*2^s=Y at*
 clear eY eU eD key hy1 hy2 hp0 lb lb0 hPQ hQ h1 hz
 have eY1:Y/4294967296*4294967296+Y%4294967296=Y:=by omega
 have H0:pV (Y/4294967296) (Y%4294967296) U (D/4294967296):=⟨by omega,by omega,by omega,by omega,hU0,by omega,by omega,by omega⟩
 have hU2:U<18446744073709551616:=by omega
 rw[Kx,Kx,SA hD0 hD1,SA (by omega) b2,fA,wq0 hU0 hU2 (by omega),wr0 hU0 hU2 (by omega)]
 obtain⟨q1,r1,e1,I1,s1⟩:=OU (y:=Y) (s:=(s:Int)) (e:=D%4294967296) H0 (fI.start H0)
 rw[e1]
 have D1:=fI.done H0 I1 s1
 simp only[fI.TD H0 I1,fI.wr1 H0 I1]
 have second:∀Q1,FV (Y/4294967296) (Y%4294967296) U (D/4294967296) Q1->∃W,pV (Y/4294967296) (Y%4294967296) W (D%4294967296)/\IntKind.u64.wrap (IntKind.u64.wrap (IntKind.u64.wrap (U*4294967296)+D/4294967296)-IntKind.u64.wrap (Q1*Y))=W/\W=U*4294967296+D/4294967296-Q1*Y/\0<=W/\W<Y:=fun Q1 hk=>by
  unfold FV at hk
  rw[eY1]at hk
  obtain⟨k0,k1,k2,k3⟩:=hk
  have k4:=k3
  rw[Int.add_mul,Int.one_mul]at k4
  exact⟨_,⟨by omega,by omega,by omega,by omega,by omega,by omega,by omega,by omega⟩,aaG k2 k3 b2,rfl,by omega,by omega⟩
 have fin:∀Q1 Q2 W,W=U*4294967296+D/4294967296-Q1*Y->FV (Y/4294967296) (Y%4294967296) W (D%4294967296) Q2->cq IntKind.u64 (IntKind.u64.wrap (IntKind.u64.wrap (IntKind.u64.wrap (W*4294967296)+D%4294967296)-IntKind.u64.wrap (Q2*Y))) (s:Int)=(hi*18446744073709551616+lo)%y:=fun Q1 Q2 W hW hk=>by
  unfold FV at hk
  rw[eY1]at hk
  obtain⟨k0,k1,k2,k3⟩:=hk
  rw[aaG k2 k3 b2,QK s (by omega)]
  have e:U*18446744073709551616+D=W*4294967296+D%4294967296+Q1*4294967296*Y:=by
   rw[hW,Int.mul_assoc,Int.mul_comm 4294967296 Y,<-Int.mul_assoc]
   omega
  rw[<-res (Q1*4294967296+Q2)]
  ·congr 1
   rw[Int.add_mul]
   omega
  ·rw[Int.add_mul]
   omega
  ·rw[Int.add_mul,Int.one_mul]at k3
   rw[Int.add_assoc,Int.add_mul,Int.add_mul Q2,Int.one_mul]
   omega
 by_cases c1:4294967296<=q1\/4294967296*r1+D/4294967296<q1*(Y%4294967296)
 ·rw[decide_eq_true c1]at D1 ⊢
  rw[cond_true]at D1
  rw[cond_true,decide_eq_true (s1 c1),cond_true,fA,fI.wq1 H0 I1 c1]
  obtain⟨W,H1,w1,w2,w3,w4⟩:=second _ D1
  rw[w1,wq0 w3 (by omega) (by omega),wr0 w3 (by omega) (by omega)]
  obtain⟨q2,r2,e2,I2,s2⟩:=E8 (y:=Y) (s:=(s:Int)) (e:=q1-1) H1 (fI.start H1)
  rw[e2]
  have D2:=fI.done H1 I2 s2
  simp only[fI.TD H1 I2,fI.wr1 H1 I2]
  by_cases c2:4294967296<=q2\/4294967296*r2+D%4294967296<q2*(Y%4294967296)
  ·rw[decide_eq_true c2]at D2 ⊢
   rw[cond_true]at D2
   rw[cond_true,decide_eq_true (s2 c2),cond_true,fA,fI.wq1 H1 I2 c2,fin _ _ W w2 D2]
   exact⟨_,rfl⟩
  ·rw[decide_eq_false c2]at D2 ⊢
   rw[cond_false]at D2
   rw[cond_false,fA,fin _ _ W w2 D2]
   exact⟨_,rfl⟩
 ·rw[decide_eq_false c1]at D1 ⊢
  rw[cond_false]at D1
  rw[cond_false,fA]
  obtain⟨W,H1,w1,w2,w3,w4⟩:=second _ D1
  rw[w1,wq0 w3 (by omega) (by omega),wr0 w3 (by omega) (by omega)]
  obtain⟨q2,r2,e2,I2,s2⟩:=E8 (y:=Y) (s:=(s:Int)) (e:=q1) H1 (fI.start H1)
  rw[e2]
  have D2:=fI.done H1 I2 s2
  simp only[fI.TD H1 I2,fI.wr1 H1 I2]
  by_cases c2:4294967296<=q2\/4294967296*r2+D%4294967296<q2*(Y%4294967296)
  ·rw[decide_eq_true c2]at D2 ⊢
   rw[cond_true]at D2
   rw[cond_true,decide_eq_true (s2 c2),cond_true,fA,fI.wq1 H1 I2 c2,fin _ _ W w2 D2]
   exact⟨_,rfl⟩
  ·rw[decide_eq_false c2]at D2 ⊢
   rw[cond_false]at D2
   rw[cond_false,fA,fin _ _ W w2 D2]
   exact⟨_,rfl⟩
theorem mul_lt{a b m n:Int}(h1:0<=a)(h2:a<=m)(h3:0<=b)(h4:b<=n):0<=a*b/\a*b<=m*n:=
 ⟨Int.mul_nonneg h1 h3,Int.mul_le_mul h2 h4 h3 (by omega)⟩
theorem agN{x y:Int}(h1:0<=x)(h2:x<18446744073709551616)(h3:0<=y)(h4:y<18446744073709551616):PV x y=(x*y/18446744073709551616,x*y%18446744073709551616):=by
 unfold PV
 simp only[Kx,SA h1 h2,SA h3 h4]
 have e:x*y=(x/4294967296*(y/4294967296))*18446744073709551616+(x/4294967296*(y%4294967296))*4294967296+(x%4294967296*(y/4294967296))*4294967296+x%4294967296*(y%4294967296):=by
  conv=>lhs;rw[show x=x/4294967296*4294967296+x%4294967296 by omega,show y=y/4294967296*4294967296+y%4294967296 by omega]
  generalize x/4294967296=a
  generalize x%4294967296=b
  generalize y/4294967296=c
  generalize y%4294967296=d
  rw[Int.add_mul,Int.mul_add,Int.mul_add,Int.mul_assoc,Int.mul_left_comm 4294967296 c,Int.mul_assoc,Int.mul_comm 4294967296 d,<-Int.mul_assoc b,<-Int.mul_assoc a d,<-Int.mul_assoc a c]
  omega
 obtain⟨a0,a1⟩:=mul_lt (a:=x/4294967296) (b:=y/4294967296) (m:=4294967295) (n:=4294967295) (by omega) (by omega) (by omega) (by omega)
 obtain⟨b0,b1⟩:=mul_lt (a:=x/4294967296) (b:=y%4294967296) (m:=4294967295) (n:=4294967295) (by omega) (by omega) (by omega) (by omega)
 obtain⟨c0,c1⟩:=mul_lt (a:=x%4294967296) (b:=y/4294967296) (m:=4294967295) (n:=4294967295) (by omega) (by omega) (by omega) (by omega)
 obtain⟨d0,d1⟩:=mul_lt (a:=x%4294967296) (b:=y%4294967296) (m:=4294967295) (n:=4294967295) (by omega) (by omega) (by omega) (by omega)
 rw[e]
 generalize x/4294967296*(y/4294967296)=A at*
 generalize x/4294967296*(y%4294967296)=B at*
 generalize x%4294967296*(y/4294967296)=C at*
 generalize x%4294967296*(y%4294967296)=D at*
 rw[fm (n:=A),fm (n:=B),fm (n:=C),fm (n:=D),
  fm (n:=B+D/4294967296),SA (by omega) (by omega),fm (n:=(B+D/4294967296)%4294967296+C)]
 rw[fm (n:=A+(B+D/4294967296)/4294967296),fm,Ig]
 congr 1
 omega
theorem aez{x y m:Int}(h1:0<=x)(h2:x<m)(h3:0<=y)(h4:y<m)(h5:m<9223372036854775808):VY x y m=some (x*y%m):=by
 unfold VY
 rw[fm h1 (by omega),fm h3 (by omega),fm (n:=m),agN h1 (by omega) h3 (by omega)]
 simp only
 obtain⟨k0,k1⟩:=mul_lt (a:=x) (b:=y) (m:=m) (n:=m-1) h1 (by omega) h3 (by omega)
 have hx:x*y<m*18446744073709551616:=by
  have:m*(m-1)<=m*18446744073709551615:=Int.mul_le_mul_of_nonneg_left (by omega) (by omega)
  omega
 unfold ag2
 have hh:x*y/18446744073709551616<m:=Int.ediv_lt_of_lt_mul (by omega) hx
 have hh0:0<=x*y/18446744073709551616:=by omega
 rw[fA,iZ hh0,Int.emod_eq_of_lt hh0 hh]
 obtain⟨q,e⟩:=aey hh0 hh (by omega) (show 0<=x*y%18446744073709551616 by omega) (by omega)
 rw[e,show x*y/18446744073709551616*18446744073709551616+x*y%18446744073709551616=x*y by omega]
 simp only
 have r0:=Int.emod_nonneg (x*y) (b:=m) (by omega)
 have r1:=Int.emod_lt_of_pos (x*y) (b:=m) (by omega)
 rw[aF]
end Go.Proofs.YtnfljbehcffmcaaGreat
end
