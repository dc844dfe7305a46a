/- Merged: Iz, Hl, Um, Hm, Hn, Gd, Ho, Pl, Nd, Nd2, Nd3, Nd4, Nd5, Nd6, Nd7. -/
import Derived.Test.YtnfljbehcffmcaaGreatM2AbstractBounds
import Derived.KernelRfl
open Int renaming toNat_natCast → za, mul_nonneg → zo, mul_comm → zw, mul_le_mul_of_nonneg_right → zF, mul_assoc → zI, ediv_nonneg → zL, add_mul → zM, one_mul → zN, ediv_le_self → z7, sub_mul → yf, toNat → yI, mul_ediv_add_emod → yL, emod_nonneg → yM, mul_le_mul → yN, emod_lt_of_pos → yP, mul_add → yQ, le_of_lt → yT, natCast_mul → xh, zero_mul → xz, le_trans → xA, mul_le_mul_of_nonneg_left → xS, lt_of_mul_lt_mul_right → x8, ediv_lt_of_lt_mul → wu, eq_ofNat_of_zero_le → wv
open Nat renaming blt → zq, le_refl → zx, zero_le → xj
open Bool renaming and_eq_true → ze, or_eq_true → yH, true → wE, false → wD
open Option renaming some → zB, some → O, none → wC
open List renaming getElem?_eq_getElem → zl, all_eq_true → zm, mem_cons → zu, range → zJ, drop → z6, length → yC
open Decidable renaming decide → wF
open Go.Proofs.Tryz renaming prog → wG
open Go.Proofs.Tryz
set_option linter.unusedSectionVars false
set_option linter.unusedVariables false
set_option linter.unusedSimpArgs false
noncomputable section
namespace Go.Iv
variable [U:qT] [L:mQ]
open Go Go.RowKit
section
variable {β γ δ:Type}
structure Rq (β:Type) where
 f:AV->Option β
 c:β->AV
 ok:PN f c
structure Rl (γ:Type) where
 q:List AV->Option γ
 c:γ->List AV
 ok:KO q c
def qi(k:IntKind):Rq Int:=⟨gH k,bP.n k, .i k⟩
def qb:Rq Bool:=⟨RO,bP.b, .b⟩
def qs:Rq ByteArray:=⟨asS,bP.s, .s⟩
def ql(t:Nat):Rq (List (U.cH t)):=⟨iW t,bP.sl t, .l t⟩
def qg(t:Nat):Rq (U.cH t):=⟨aaB t,fun x=> .agg (U.cells t x), .g t⟩
def qp(i o:Nat):Rq Unit:=⟨asP i o,fun _=> .ptr i o, .p i o⟩
def qo(i:Nat):Rq Unit:=⟨asO i,fun _=> .own i, .o i⟩
def qn:Rq Unit:=⟨akz,fun _=> .lit (.slice wC 0 0), .ns⟩
def qf(k:Nat)(l:Rl γ):Rq γ:=⟨alg k l.q,fun x=> .fn (.func k) (l.c x), .ff k l.ok⟩
def qr(l:Rl γ):Rq γ:=⟨aiG l.q,fun x=> .fp (l.c x), .fp l.ok⟩
def ln:Rl Unit:=⟨nU,fun _=>[], .nil⟩
def lc(a:Rq β)(l:Rl γ):Rl (β×γ):=⟨cS a.f l.q,fun x=>a.c x.1::l.c x.2, .cons a.ok l.ok⟩
def lg(t:Nat):Rl (U.cH t):=⟨akk t,fun x=>U.cells t x,KO.parse t⟩
structure Re (γ:Type) where
 q:ET->Option γ
 d:γ->Env
 ok:La q d
def en:Re Unit:=⟨slN,fun _=>[], .nil⟩
def ec(t:Nat)(a:Rq β)(l:Re γ):Re (β×γ):=⟨slC t a.f l.q,fun x=>(t,a.c x.1)::l.d x.2, .cons a.ok l.ok⟩
structure Rs (γ:Type) where
 q:aP->Option γ
 d:γ->aP
 ok:CP q d
def sn:Rs Unit:=⟨rsN,fun _=>[], .nil⟩
def sr(i t:Nat)(l:Rs γ):Rs (List (U.cH t)×γ):=⟨rsR i t l.q,fun x=>(i, .row t x.1)::l.d x.2, .row l.ok⟩
def sb(i t:Nat)(a:Rl β)(l:Rs γ):Rs (β×γ):=⟨ajW i t a.q l.q,fun x=>(i, .box t (a.c x.1))::l.d x.2, .atT a.ok l.ok⟩
structure Td (n0:Nat) (γ:Type) where
 rd:St->Option γ
 pat:γ->St
 ok:∀n,qG n0 n rd pat
def Td.r(n0 m:Nat)(e:Re β)(s:Rs δ)(mk:β×δ->γ)(un:γ->β×δ)(h:∀z,un (mk z)=z):Td n0 γ:=
 ⟨rdM mk (stR m e.q s.q),fun x=>iF m e.d s.d (un x),fun _=>(ahO e.ok s.ok).m mk fun z=>by rw[h]⟩
def Td.c{n0:Nat}(dr ts:List Nat)(d:Td n0 γ):Td n0 γ:=⟨rdC n0 dr ts d.rd,d.pat,fun n=>aiJ (d.ok n)⟩
def Td.t{n0:Nat}{f:St->St}(h:cq f)(d:Td n0 γ):Td n0 γ:=⟨rdF f d.rd,d.pat,fun n=>aiS h (d.ok n)⟩
def Td.lp{n0:Nat}(d:Td n0 γ)(a:γ->Option γ)(b:An):An:= .lp γ d.rd d.pat a b
end
def jh(P:Program)(f n0:Nat)(s:St):Out:=match (match CD P f s with
  |some ds=>O (Out.mk (fH ds) (nD s.R n0 (fH ds)) s.nx)
  |none=>wC)with
 |some o=>o
 |none=>⟨.iA [],[],0⟩
theorem aC{α:Type _}{Q:α->Prop}:∀p∈([]:List α),Q p:=fun p h=>by cases h
theorem az{α:Type _}{Q:α->Prop}{a:α}{l:List α}(h:Q a)(t:∀p∈l,Q p):∀p∈a::l,Q p:=fun p hp=>(zu.1 hp).elim (fun e=>e▸h) (t p)
section
variable {P:Program} {F:aI} {f n0:Nat} {γ δ β:Type}
def HY(P:Program)(f n0:Nat)(a:Rl γ)(s:Rs δ)(d:Td n0 β)(t:γ×δ->Option β):Prop:=∀g b,t g=O b->PA P f (a.c g.1) (s.d g.2) n0 (jh P f n0 (d.pat b))
def HL(P:Program)(f:Nat)(a:Rl γ)(d:Td 0 β)(t:γ->Option β):Prop:=∀g b,t g=O b->PA P f (a.c g) [] 0 (jh P f 0 (d.pat b))
theorem Ow(hF:bf P F){an:An}(fa:eW P F n0 300 f an){a:Rl γ}{s:Rs δ}{d:Td n0 β}{t:γ×δ->Option β}(ho:∀p,(match CD P f (d.pat p)with
   |some ds=>O (Out.mk (fH ds) (nD (d.pat p).R n0 (fH ds)) (d.pat p).nx)
   |none=>wC)=O (jh P f n0 (d.pat p)))
  (h1:∀g,(a.c g).all (kC (fun i=>zq i n0) 4)=wE) (h2:∀g,(s.d g).all (fun q=>zq q.1 n0&&match q.2 with
  | .box _ cs=>cs.all (kC (fun i=>zq i n0) 4)
  | .row _ _=>wE)=wE) (c:∀g,bN P F 300 an f (a.c g.1) (s.d g.2) n0 d.rd=t g):HY P f n0 a s d t:=
 fun g b hb=>(oF (p:=b) hF fa d.ok ho (m5 (h1 g.1)) (kI (h2 g.2)) ((c g).trans hb)).2
theorem dH(hF:bf P F){an:An}(fa:eW P F 0 300 f an){a:Rl γ}{d:Td 0 β}{t:γ->Option β}(ho:∀p,(match CD P f (d.pat p)with
   |some ds=>O (Out.mk (fH ds) (nD (d.pat p).R 0 (fH ds)) (d.pat p).nx)
   |none=>wC)=O (jh P f 0 (d.pat p)))
  (h1:∀g,(a.c g).all (kC (fun i=>zq i 0) 4)=wE) (c:∀g,bN P F 300 an f (a.c g) [] 0 d.rd=t g):HL P f a d t:=
 fun g b hb=>(oF (p:=b) hF fa d.ok ho (m5 (h1 g)) (kI rfl) ((c g).trans hb)).2
def eY(P:Program)(f n0:Nat)(a:Rl γ)(s:Rs δ)(d:Td n0 β)(t:γ×δ->Option β)(F:aI):aI:=orY f n0 (qyR a.q s.q) t (fun x=>jh P f n0 (d.pat x)) F
def eZ(P:Program)(f:Nat)(a:Rl γ)(d:Td 0 β)(t:γ->Option β)(F:aI):aI:=orY f 0 (qy0 a.q) t (fun x=>jh P f 0 (d.pat x)) F
def eL(P:Program)(f:Nat)(lb:Bool)(a:Rl γ)(d:Td 0 β)(t:γ->Option β)(F:aI):aI:=Xu f lb a.q t (fun x=>jh P f 0 (d.pat x)) F
theorem Jn{a:Rl γ}{s:Rs δ}{d:Td n0 β}{t:γ×δ->Option β}(h:HY P f n0 a s d t)(hf:vq P f)(h3:∀b,(jh P f n0 (d.pat b)).okB n0=wE)(hF:bf P F):bf P (eY P f n0 a s d t F):=
 agL hF hf (ajC a.ok s.ok) h3 h
theorem oT{a:Rl γ}{d:Td 0 β}{t:γ->Option β}(h:HL P f a d t)(hf:vq P f)(h3:∀b,(jh P f 0 (d.pat b)).okB 0=wE)(hF:bf P F):bf P (eZ P f a d t F):=
 agL hF hf (air a.ok) h3 h
theorem gx{lb:Bool}{sc:Nat->Bool}(hsc:∀t,sc t=wE->∀x,HX (U.cells t x)){a:Rl γ}{d:Td 0 β}{t:γ->Option β}(h:HL P f a d t)(hf:vq P f)(h3:∀b,(jh P f 0 (d.pat b)).okB 0=wE)(h4:∀b,(jh P f 0 (d.pat b)).ZO sc=wE)(hF:bf P F):bf P (eL P f lb a d t F):=
 apr hF hsc hf a.ok h3 h4 h
end
end Go.Iv
end
noncomputable section
namespace Go.Proofs.YtnfljbehcffmcaaGreat
def jX:ByteArray:=ByteArray.mk #[0,1,2,2,3,3,3,3,4,4,4,4,4,4,4,4,5,5,5,5,5,5,5,5,5,5,5,5,5,5,5,5,6,6,6,6,6,6,6,6,6,6,6,6,6,6,6,6,6,6,6,6,6,6,6,6,6,6,6,6,6,6,6,6,7,7,7,7,7,7,7,7,7,7,7,7,7,7,7,7,7,7,7,7,7,7,7,7,7,7,7,7,7,7,7,7,7,7,7,7,7,7,7,7,7,7,7,7,7,7,7,7,7,7,7,7,7,7,7,7,7,7,7,7,7,7,7,7,8,8,8,8,8,8,8,8,8,8,8,8,8,8,8,8,8,8,8,8,8,8,8,8,8,8,8,8,8,8,8,8,8,8,8,8,8,8,8,8,8,8,8,8,8,8,8,8,8,8,8,8,8,8,8,8,8,8,8,8,8,8,8,8,8,8,8,8,8,8,8,8,8,8,8,8,8,8,8,8,8,8,8,8,8,8,8,8,8,8,8,8,8,8,8,8,8,8,8,8,8,8,8,8,8,8,8,8,8,8,8,8,8,8,8,8,8,8,8,8,8,8,8,8,8,8,8,8]
end Go.Proofs.YtnfljbehcffmcaaGreat
end
noncomputable section
/- Entries, with what is found by evaluation left out. -/
set_option maxRecDepth 100000
namespace Go.Proofs.YtnfljbehcffmcaaGreat
open Go Go.Iv
theorem dZ{p:Prop}{_:Decidable p}(h:¬p:=by omega):decide p=wD:=decide_eq_false h
theorem qz{p:Prop}{_:Decidable p}(h:p:=by omega):decide p=wE:=decide_eq_true h
theorem fK{p:Prop}{_:Decidable p}{α:Type _}{a b:α}(h:p:=by omega):(if p then a else b)=a:=if_pos h
theorem nH{p:Prop}{_:Decidable p}{α:Type _}{a b:α}(h:¬p:=by omega):(if p then a else b)=b:=if_neg h
abbrev EO(e:aI->aI):Prop:=∀{F:aI},bf wG F->bf wG (e F)
abbrev EP(e:aI->aI):Prop:=∀{F:aI} {f:Nat},aV F f->aV (e F) f
theorem kP{f:Nat}{lb:Bool}{γ β:Type}{a:Rl γ}{d:Td 0 β}{t:γ->Option β}{F:aI}{g:Nat}(h:aV F g)(hm:∀b,(jh wG f 0 (d.pat b)).R=[]:=by intro _;kernel_rfl):aV (eL wG f lb a d t F) g:=fW h hm
theorem aO{F:aI}{n0 nt:Nat}{c:Code}{β:Type}{b:An}{n:β->Option (Option β)}(d:Td n0 β)(h:∀p,nu wG F nt 300 c b (Option β) (d.pat p) (kOn d.rd)=n p:=by intro _;kernel_rfl):OM wG F n0 nt 300 (c,d.lp (bw n) b):=⟨d.ok _,aa8 h⟩
theorem kL{f:Nat}{lb:Bool}{fn:Func}{F G:aI}{an:An}{γ β:Type}{a:Rl γ}{d:Td 0 β}{t:γ->Option β}{l:List (Code×An)}
  (hf:wG.funcs[f]? =O fn) (hF:bf wG F) (h:∀p∈l,OM wG F 0 fn.ntmps 300 p) (hG:bf wG G)
  (hb:fn.body.isNone=wD:=by kernel_rfl) (ho:ako (EZ fn) an=l:=by kernel_rfl)
  (h0:∀p,(match CD wG f (d.pat p)with
   |some ds=>O (Out.mk (fH ds) (nD (d.pat p).R 0 (fH ds)) (d.pat p).nx)
   |none=>wC)=O (jh wG f 0 (d.pat p)):=by intro _;kernel_rfl)
  (h1:∀g,(a.c g).all (kC (fun i=>zq i 0) 4)=wE:=by intro _;kernel_rfl)
  (c:∀g,bN wG F 300 an f (a.c g) [] 0 d.rd=t g:=by intro _;kernel_rfl)
  (h2:(fn.name=="runtime.NumGoroutine")=wD:=by kernel_rfl)
  (h3:∀b,(jh wG f 0 (d.pat b)).okB 0=wE:=by intro _;kernel_rfl) (h4:∀b,(jh wG f 0 (d.pat b)).ZO Ay=wE:=by intro _;kernel_rfl):bf wG (eL wG f lb a d t G):=
 gx (sc:=Ay) dS (dH hF (bV hf (bB hb) ho h) (fun p=>by have:=h0 p;revert this;cases CD wG f (d.pat p)<;>exact id) h1 c) ⟨_,hf,h2,hb⟩ h3 h4 hG
end Go.Proofs.YtnfljbehcffmcaaGreat
end
noncomputable section
set_option maxRecDepth 100000
namespace Go.Proofs.YtnfljbehcffmcaaGreat
open Go Go.Iv
open Go.IntKind (i64)
abbrev aoV:Type:=Int×Int
def d352:Td 0 aoV:= .c [] [4,5] (.r 0 0 (ec 4 (qi .u64) (ec 5 (qi .u64) en)) sn (fun z=>(z.1.1,z.1.2.1)) (fun x=>((x.1,x.2,()),(()))) fun _=>rfl)
def VS(a0:Int)(a1:Int):aoV:=
 (IntKind.u64.wrap (IntKind.u64.wrap (IntKind.u64.wrap (cw IntKind.u64 a0 (32)*cw IntKind.u64 a1 (32))+cw IntKind.u64 (IntKind.u64.wrap (IntKind.u64.wrap (cw IntKind.u64 a0 (32)*sE IntKind.u64 a1 (4294967295))+cw IntKind.u64 (IntKind.u64.wrap (sE IntKind.u64 a0 (4294967295)*sE IntKind.u64 a1 (4294967295))) (32))) (32))+cw IntKind.u64 (IntKind.u64.wrap (sE IntKind.u64 (IntKind.u64.wrap (IntKind.u64.wrap (cw IntKind.u64 a0 (32)*sE IntKind.u64 a1 (4294967295))+cw IntKind.u64 (IntKind.u64.wrap (sE IntKind.u64 a0 (4294967295)*sE IntKind.u64 a1 (4294967295))) (32))) (4294967295)+IntKind.u64.wrap (sE IntKind.u64 a0 (4294967295)*cw IntKind.u64 a1 (32)))) (32)),IntKind.u64.wrap (a0*a1))
def asf:aI->aI:=eL wG 352 wD (lc (qi .u64) (lc (qi .u64) ln)) d352 (fun g=>O (VS g.1 g.2.1))
theorem XV:EO asf:=fun h=>kL (an:= .no) func352 aK aC h
abbrev al9:Type:=Int
def d301:Td 0 al9:= .c [] [2] (.r 0 0 (ec 2 (qi .i64) en) sn (fun z=>z.1.1) (fun x=>((x,()),(()))) fun _=>rfl)
def aai(a0:Int):Option al9:=
 bif wF (4294967296<=a0)then bif wF (65536<=cw IntKind.u64 a0 (32))then bif wF (256<=cw IntKind.u64 (cw IntKind.u64 a0 (32)) (16))then if(0:Int)<=IntKind.u8.wrap (cw IntKind.u64 (cw IntKind.u64 (cw IntKind.u64 a0 ((32:Int))) ((16:Int))) ((8:Int)))/\IntKind.u8.wrap (cw IntKind.u64 (cw IntKind.u64 (cw IntKind.u64 a0 ((32:Int))) ((16:Int))) ((8:Int)))<(256:Int)then O (i64.wrap (56+i64.wrap (bR jX (IntKind.u8.wrap (cw IntKind.u64 (cw IntKind.u64 (cw IntKind.u64 a0 (32)) (16)) (8))).toNat)))else wC else if(0:Int)<=IntKind.u8.wrap (cw IntKind.u64 (cw IntKind.u64 a0 ((32:Int))) ((16:Int)))/\IntKind.u8.wrap (cw IntKind.u64 (cw IntKind.u64 a0 ((32:Int))) ((16:Int)))<(256:Int)then O (i64.wrap (48+i64.wrap (bR jX (IntKind.u8.wrap (cw IntKind.u64 (cw IntKind.u64 a0 (32)) (16))).toNat)))else wC else bif wF (256<=cw IntKind.u64 a0 (32))then if(0:Int)<=IntKind.u8.wrap (cw IntKind.u64 (cw IntKind.u64 a0 ((32:Int))) ((8:Int)))/\IntKind.u8.wrap (cw IntKind.u64 (cw IntKind.u64 a0 ((32:Int))) ((8:Int)))<(256:Int)then O (i64.wrap (40+i64.wrap (bR jX (IntKind.u8.wrap (cw IntKind.u64 (cw IntKind.u64 a0 (32)) (8))).toNat)))else wC else if(0:Int)<=IntKind.u8.wrap (cw IntKind.u64 a0 ((32:Int)))/\IntKind.u8.wrap (cw IntKind.u64 a0 ((32:Int)))<(256:Int)then O (i64.wrap (32+i64.wrap (bR jX (IntKind.u8.wrap (cw IntKind.u64 a0 (32))).toNat)))else wC else bif wF (65536<=a0)then bif wF (256<=cw IntKind.u64 a0 (16))then if(0:Int)<=IntKind.u8.wrap (cw IntKind.u64 (cw IntKind.u64 a0 ((16:Int))) ((8:Int)))/\IntKind.u8.wrap (cw IntKind.u64 (cw IntKind.u64 a0 ((16:Int))) ((8:Int)))<(256:Int)then O (i64.wrap (24+i64.wrap (bR jX (IntKind.u8.wrap (cw IntKind.u64 (cw IntKind.u64 a0 (16)) (8))).toNat)))else wC else if(0:Int)<=IntKind.u8.wrap (cw IntKind.u64 a0 ((16:Int)))/\IntKind.u8.wrap (cw IntKind.u64 a0 ((16:Int)))<(256:Int)then O (i64.wrap (16+i64.wrap (bR jX (IntKind.u8.wrap (cw IntKind.u64 a0 (16))).toNat)))else wC else bif wF (256<=a0)then if(0:Int)<=IntKind.u8.wrap (cw IntKind.u64 a0 ((8:Int)))/\IntKind.u8.wrap (cw IntKind.u64 a0 ((8:Int)))<(256:Int)then O (i64.wrap (8+i64.wrap (bR jX (IntKind.u8.wrap (cw IntKind.u64 a0 (8))).toNat)))else wC else if(0:Int)<=IntKind.u8.wrap a0/\IntKind.u8.wrap a0<(256:Int)then O (i64.wrap (0+i64.wrap (bR jX (IntKind.u8.wrap a0).toNat)))else wC
def ato:aI->aI:=eL wG 301 wD (lc (qi .u64) ln) d301 (fun g=>aai g.1)
theorem Zc:EO ato:=fun h=>kL (an:= .no) func301 aK aC h
abbrev apk:Type:=Int
def d358:Td 0 apk:= .c [] [2] (.r 0 0 (ec 2 (qi .i64) en) sn (fun z=>z.1.1) (fun x=>((x,()),(()))) fun _=>rfl)
def ajQ(a0:Int):Option apk:=
 match aai a0 with|wC=>wC|O r1=>O (i64.wrap (64-r1))
def ani:aI->aI:=eL wG 358 wD (lc (qi .u64) ln) d358 (fun g=>ajQ g.1)
theorem adn:EO ani:=fun h=>kL (an:= .no) func358 (Zc aK) aC h
def aov:aI:=(ani cQ)
structure jk where
 (t2 t8 t9 t10 t14 t15 t16 t17 t18:Int)
def ML:Td 0 jk:= .c [] [2,8,9,10,14,15,16,17,18] (.r 0 0 (ec 2 (qi .u64) (ec 8 (qi .u64) (ec 9 (qi .u64) (ec 10 (qi .u64) (ec 14 (qi .u64) (ec 15 (qi .u64) (ec 16 (qi .u64) (ec 17 (qi .u64) (ec 18 (qi .u64) en))))))))) sn (fun z=>⟨z.1.1,z.1.2.1,z.1.2.2.1,z.1.2.2.2.1,z.1.2.2.2.2.1,z.1.2.2.2.2.2.1,z.1.2.2.2.2.2.2.1,z.1.2.2.2.2.2.2.2.1,z.1.2.2.2.2.2.2.2.2.1⟩) (fun x=>((x.t2,x.t8,x.t9,x.t10,x.t14,x.t15,x.t16,x.t17,x.t18,()),(()))) fun _=>rfl)
def vB(p:jk):Option (Option jk):=
 match bif wF (4294967296<=p.t18)then O (wE)else O (wF (IntKind.u64.wrap (IntKind.u64.wrap (4294967296*p.t16)+p.t14)<IntKind.u64.wrap (p.t18*p.t10)))with|wC=>wC|O r2=>bif r2 then bif wF (4294967296<=IntKind.u64.wrap (p.t16+p.t9))then O (wC)else O (O (jk.mk p.t2 p.t8 p.t9 p.t10 p.t14 p.t15 (IntKind.u64.wrap (p.t16+p.t9)) p.t17 (IntKind.u64.wrap (p.t18-1))))else O (wC)
def V4:An:=(.two (.two (.rb [] 113) .no) .no)
def Bq:jk->Option jk:=bw (vB)
structure j9 where
 (t2 t8 t9 t10 t11 t13 t14 t15 t16:Int)
def Mv:Td 0 j9:= .c [] [2,8,9,10,11,13,14,15,16] (.r 0 0 (ec 2 (qi .u64) (ec 8 (qi .u64) (ec 9 (qi .u64) (ec 10 (qi .u64) (ec 11 (qi .u64) (ec 13 (qi .u64) (ec 14 (qi .u64) (ec 15 (qi .u64) (ec 16 (qi .u64) en))))))))) sn (fun z=>⟨z.1.1,z.1.2.1,z.1.2.2.1,z.1.2.2.2.1,z.1.2.2.2.2.1,z.1.2.2.2.2.2.1,z.1.2.2.2.2.2.2.1,z.1.2.2.2.2.2.2.2.1,z.1.2.2.2.2.2.2.2.2.1⟩) (fun x=>((x.t2,x.t8,x.t9,x.t10,x.t11,x.t13,x.t14,x.t15,x.t16,()),(()))) fun _=>rfl)
def vf(p:j9):Option (Option j9):=
 match bif wF (4294967296<=p.t15)then O (wE)else O (wF (IntKind.u64.wrap (IntKind.u64.wrap (4294967296*p.t16)+p.t13)<IntKind.u64.wrap (p.t15*p.t10)))with|wC=>wC|O r1=>bif r1 then bif wF (4294967296<=IntKind.u64.wrap (p.t16+p.t9))then O (wC)else O (O (j9.mk p.t2 p.t8 p.t9 p.t10 p.t11 p.t13 p.t14 (IntKind.u64.wrap (p.t15-1)) (IntKind.u64.wrap (p.t16+p.t9))))else O (wC)
def UY:An:=(.two (.two (.rb [] 78) .no) .no)
def FF:j9->Option j9:=bw (vf)
abbrev apt:Type:=Int×Int
def d357:Td 0 apt:= .c [] [6,7] (.r 0 0 (ec 6 (qi .u64) (ec 7 (qi .u64) en)) sn (fun z=>(z.1.1,z.1.2.1)) (fun x=>((x.1,x.2,()),(()))) fun _=>rfl)
theorem afU:∀f∈([]:List Nat),aV (aov) f:=aC
def WB(a0:Int)(a1:Int)(a2:Int):Option apt:=
 bif wF (a2=0)then wC else bif wF (a2<=a0)then wC else bif wF (a0=0)then if¬a2=(0:Int)then if¬a2=(0:Int)then O ((IntKind.u64.wrap (a1.tdiv a2),a1.tmod a2))else wC else wC else match ajQ a2 with|wC=>wC|O r3=>if(0:Int)<=IntKind.u64.wrap r3 then if(0:Int)<=IntKind.u64.wrap r3 then if(0:Int)<=IntKind.u64.wrap ((64:Int)-IntKind.u64.wrap r3)then if(0:Int)<=IntKind.u64.wrap r3 then if¬cw IntKind.u64 (kQ IntKind.u64 a2 (IntKind.u64.wrap r3)) ((32:Int))=(0:Int)then match FF (j9.mk (kQ IntKind.u64 a2 (IntKind.u64.wrap r3)) (IntKind.u64.wrap r3) (cw IntKind.u64 (kQ IntKind.u64 a2 (IntKind.u64.wrap r3)) (32)) (sE IntKind.u64 (kQ IntKind.u64 a2 (IntKind.u64.wrap r3)) (4294967295)) (Xz IntKind.u64 (kQ IntKind.u64 a0 (IntKind.u64.wrap r3)) (cw IntKind.u64 a1 (IntKind.u64.wrap (64-IntKind.u64.wrap r3)))) (cw IntKind.u64 (kQ IntKind.u64 a1 (IntKind.u64.wrap r3)) (32)) (sE IntKind.u64 (kQ IntKind.u64 a1 (IntKind.u64.wrap r3)) (4294967295)) (IntKind.u64.wrap ((Xz IntKind.u64 (kQ IntKind.u64 a0 (IntKind.u64.wrap r3)) (cw IntKind.u64 a1 (IntKind.u64.wrap (64-IntKind.u64.wrap r3)))).tdiv (cw IntKind.u64 (kQ IntKind.u64 a2 (IntKind.u64.wrap r3)) (32)))) (IntKind.u64.wrap (Xz IntKind.u64 (kQ IntKind.u64 a0 (IntKind.u64.wrap r3)) (cw IntKind.u64 a1 (IntKind.u64.wrap (64-IntKind.u64.wrap r3)))-IntKind.u64.wrap (IntKind.u64.wrap ((Xz IntKind.u64 (kQ IntKind.u64 a0 (IntKind.u64.wrap r3)) (cw IntKind.u64 a1 (IntKind.u64.wrap (64-IntKind.u64.wrap r3)))).tdiv (cw IntKind.u64 (kQ IntKind.u64 a2 (IntKind.u64.wrap r3)) (32)))*cw IntKind.u64 (kQ IntKind.u64 a2 (IntKind.u64.wrap r3)) (32)))))with|wC=>wC|O r4=>match bif wF (4294967296<=r4.t15)then O (wE)else O (wF (IntKind.u64.wrap (IntKind.u64.wrap (4294967296*r4.t16)+r4.t13)<IntKind.u64.wrap (r4.t15*r4.t10)))with|wC=>wC|O r5=>bif r5 then bif wF (4294967296<=IntKind.u64.wrap (r4.t16+r4.t9))then if¬r4.t9=(0:Int)then match Bq (jk.mk r4.t2 r4.t8 r4.t9 r4.t10 r4.t14 (IntKind.u64.wrap (r4.t15-1)) (IntKind.u64.wrap (IntKind.u64.wrap (IntKind.u64.wrap (IntKind.u64.wrap (r4.t11*4294967296)+r4.t13)-IntKind.u64.wrap (IntKind.u64.wrap (r4.t15-1)*r4.t2))-IntKind.u64.wrap (IntKind.u64.wrap ((IntKind.u64.wrap (IntKind.u64.wrap (IntKind.u64.wrap (r4.t11*4294967296)+r4.t13)-IntKind.u64.wrap (IntKind.u64.wrap (r4.t15-1)*r4.t2))).tdiv r4.t9)*r4.t9))) (IntKind.u64.wrap (IntKind.u64.wrap (IntKind.u64.wrap (r4.t11*4294967296)+r4.t13)-IntKind.u64.wrap (IntKind.u64.wrap (r4.t15-1)*r4.t2))) (IntKind.u64.wrap ((IntKind.u64.wrap (IntKind.u64.wrap (IntKind.u64.wrap (r4.t11*4294967296)+r4.t13)-IntKind.u64.wrap (IntKind.u64.wrap (r4.t15-1)*r4.t2))).tdiv r4.t9)))with|wC=>wC|O r6=>match bif wF (4294967296<=r6.t18)then O (wE)else O (wF (IntKind.u64.wrap (IntKind.u64.wrap (4294967296*r6.t16)+r6.t14)<IntKind.u64.wrap (r6.t18*r6.t10)))with|wC=>wC|O r7=>bif r7 then bif wF (4294967296<=IntKind.u64.wrap (r6.t16+r6.t9))then if(0:Int)<=r6.t8 then O ((IntKind.u64.wrap (IntKind.u64.wrap (r6.t15*4294967296)+IntKind.u64.wrap (r6.t18-1)),cw IntKind.u64 (IntKind.u64.wrap (IntKind.u64.wrap (IntKind.u64.wrap (r6.t17*4294967296)+r6.t14)-IntKind.u64.wrap (IntKind.u64.wrap (r6.t18-1)*r6.t2))) r6.t8))else wC else wC else if(0:Int)<=r6.t8 then O ((IntKind.u64.wrap (IntKind.u64.wrap (r6.t15*4294967296)+r6.t18),cw IntKind.u64 (IntKind.u64.wrap (IntKind.u64.wrap (IntKind.u64.wrap (r6.t17*4294967296)+r6.t14)-IntKind.u64.wrap (r6.t18*r6.t2))) r6.t8))else wC else wC else wC else if¬r4.t9=(0:Int)then match Bq (jk.mk r4.t2 r4.t8 r4.t9 r4.t10 r4.t14 r4.t15 (IntKind.u64.wrap (IntKind.u64.wrap (IntKind.u64.wrap (IntKind.u64.wrap (r4.t11*4294967296)+r4.t13)-IntKind.u64.wrap (r4.t15*r4.t2))-IntKind.u64.wrap (IntKind.u64.wrap ((IntKind.u64.wrap (IntKind.u64.wrap (IntKind.u64.wrap (r4.t11*4294967296)+r4.t13)-IntKind.u64.wrap (r4.t15*r4.t2))).tdiv r4.t9)*r4.t9))) (IntKind.u64.wrap (IntKind.u64.wrap (IntKind.u64.wrap (r4.t11*4294967296)+r4.t13)-IntKind.u64.wrap (r4.t15*r4.t2))) (IntKind.u64.wrap ((IntKind.u64.wrap (IntKind.u64.wrap (IntKind.u64.wrap (r4.t11*4294967296)+r4.t13)-IntKind.u64.wrap (r4.t15*r4.t2))).tdiv r4.t9)))with|wC=>wC|O r8=>match bif wF (4294967296<=r8.t18)then O (wE)else O (wF (IntKind.u64.wrap (IntKind.u64.wrap (4294967296*r8.t16)+r8.t14)<IntKind.u64.wrap (r8.t18*r8.t10)))with|wC=>wC|O r9=>bif r9 then bif wF (4294967296<=IntKind.u64.wrap (r8.t16+r8.t9))then if(0:Int)<=r8.t8 then O ((IntKind.u64.wrap (IntKind.u64.wrap (r8.t15*4294967296)+IntKind.u64.wrap (r8.t18-1)),cw IntKind.u64 (IntKind.u64.wrap (IntKind.u64.wrap (IntKind.u64.wrap (r8.t17*4294967296)+r8.t14)-IntKind.u64.wrap (IntKind.u64.wrap (r8.t18-1)*r8.t2))) r8.t8))else wC else wC else if(0:Int)<=r8.t8 then O ((IntKind.u64.wrap (IntKind.u64.wrap (r8.t15*4294967296)+r8.t18),cw IntKind.u64 (IntKind.u64.wrap (IntKind.u64.wrap (IntKind.u64.wrap (r8.t17*4294967296)+r8.t14)-IntKind.u64.wrap (r8.t18*r8.t2))) r8.t8))else wC else wC else wC else wC else wC else wC else wC
def asp:aI->aI:=eL wG 357 wD (lc (qi .u64) (lc (qi .u64) (lc (qi .u64) ln))) d357 (fun g=>WB g.1 g.2.1 g.2.2.1)
theorem acP:EO asp:=fun h=>kL (F:=aov) (an:=(.two .no (.two .no (.two .no (.two .no (.two .no (.two .no (.two .no (.two .no (.two .no (.two .no (.two .no (.two .no (.two .no (.two .no (.two (Mv.lp FF UY) (.two .no (.two .no (.two .no (.two (ML.lp Bq V4) .no)))))))))))))))))))) (l:=[(aU f357 0,(Mv.lp FF UY)),(.skip,(.rb [] 78)),(aU f357 1,(ML.lp Bq V4)),(.skip,(.rb [] 113))]) func357 (adn aK) (az (aO Mv) (az afU (az (aO ML) (az afU aC)))) h
abbrev ant:Type:=Int
def d353:Td 0 ant:= .c [] [6] (.r 0 0 (ec 6 (qi .u64) en) sn (fun z=>z.1.1) (fun x=>((x,()),(()))) fun _=>rfl)
def akI(a0:Int)(a1:Int)(a2:Int):Option ant:=
 if¬a2=(0:Int)then match WB (a0.tmod a2) a1 a2 with|wC=>wC|O r1=>O (r1.snd)else wC
def asj:aI->aI:=eL wG 353 wD (lc (qi .u64) (lc (qi .u64) (lc (qi .u64) ln))) d353 (fun g=>akI g.1 g.2.1 g.2.2.1)
theorem YT:EO asj:=fun h=>kL (an:= .no) func353 (acP aK) aC h
abbrev apb:Type:=Int
def d340:Td 0 apb:= .c [] [6] (.r 0 0 (ec 6 (qi .i64) en) sn (fun z=>z.1.1) (fun x=>((x,()),(()))) fun _=>rfl)
def aen(a0:Int)(a1:Int)(a2:Int):Option apb:=
 match akI (VS (IntKind.u64.wrap a0) (IntKind.u64.wrap a1)).fst (VS (IntKind.u64.wrap a0) (IntKind.u64.wrap a1)).snd (IntKind.u64.wrap a2)with|wC=>wC|O r1=>O (i64.wrap r1)
def aol:aI->aI:=eL wG 340 wD (lc (qi .i64) (lc (qi .i64) (lc (qi .i64) ln))) d340 (fun g=>aen g.1 g.2.1 g.2.2.1)
theorem abl:EO aol:=fun h=>kL (an:= .no) func340 (YT (XV aK)) aC h
abbrev E80:Type:=aD
def d80:Td 0 E80:= .c [] [2] (.r 0 1 (ec 2 (qp 0 0) en) (sb 0 34 (lg 34) sn) (fun z=>z.2.1) (fun x=>(((),()),(x,()))) fun _=>rfl)
def Qd(a0:Int):E80:=
 aD.mk a0 a0 (0)
def e80:aI->aI:=eL wG 80 wD (lc (qi .i64) ln) d80 (fun g=>O (Qd g.1))
theorem Gm:EO e80:=fun h=>kL (an:= .no) func80 aK aC h
def ah5:aI:=cQ
abbrev ahX:Type:=Bool
def d145:Td 0 ahX:= .c [] [2] (.r 0 0 (ec 2 qb en) sn (fun z=>z.1.1) (fun x=>((x,()),(()))) fun _=>rfl)
def aoA:=(lc (qi .i64) ln)
def aeG:An:=(.two .no (.two (.rb [] 2) .no))
theorem ane:∀f∈([]:List Nat),aV (ah5) f:=aC
def iR(a0:Int):ahX:=
 let r1:Bool:=bif wF (-1099511627776<=a0)then wF (a0<=1099511627776)else wD;r1
theorem atr(a0:Int):bN wG (ah5) 300 (aeG) 145 (aoA.c (a0,())) [] 0 d145.rd=O (iR a0):=by
 refine Eq.trans (b:=(
  match bif wF (-1099511627776<=a0)then O (wF (a0<=1099511627776))else O (wD)with|wC=>wC|O r1=>O (r1):Option ahX)) (by kernel_rfl) ?_
 simp only[iR,bZ,cu]
def WX:aI->aI:=eL wG 145 wD aoA d145 (fun g=>O (iR g.1))
theorem AL:EO WX:=fun h=>kL (F:=ah5) (an:=aeG) (l:=[(.skip,(.rb [] 2))]) func145 aK (az ane aC) h (c:=fun g=>atr g.1)
theorem jP:EP WX:=fun h=>kP h
def apY:aI:=cQ
abbrev anl:Type:=aD
def d224:Td 0 anl:= .c [] [0] (.r 0 1 (ec 0 (qp 0 0) en) (sb 0 34 (lg 34) sn) (fun z=>z.2.1) (fun x=>(((),()),(x,()))) fun _=>rfl)
def aoI:=ln
def af4:An:= .no
def gQ:anl:=
 aD.mk (1) (0) (0)
theorem atp:bN wG (apY) 300 (af4) 224 (aoI.c ()) [] 0 d224.rd=O (gQ):=by kernel_rfl
def IL:aI->aI:=eL wG 224 wD aoI d224 (fun _=>O (gQ))
theorem iU:EO IL:=fun h=>kL (F:=apY) (an:=af4) func224 aK aC h (c:=fun _=>atp)
theorem jM:EP IL:=fun h=>kP h
def aur:aI:=(IL cQ)
abbrev ajY:Type:=Bool
def d147:Td 0 ajY:= .c [] [2] (.r 0 0 (ec 2 qb en) sn (fun z=>z.1.1) (fun x=>((x,()),(()))) fun _=>rfl)
def an4:=(lc (qg 34) ln)
def agE:An:= .no
def dR(a0:aD):ajY:=
 bif wF (a0.aa=gQ.aa)then bif wF (a0.af=gQ.af)then bif wF (a0.ah=gQ.ah)then wE else wD else wD else wD
theorem asm(a0:aD):bN wG (aur) 300 (agE) 147 (an4.c (a0,())) [] 0 d147.rd=O (dR a0):=by
 refine Eq.trans (b:=(
  O (bif wF (a0.aa=gQ.aa)then bif wF (a0.af=gQ.af)then bif wF (a0.ah=gQ.ah)then wE else wD else wD else wD):Option ajY)) (by kernel_rfl) ?_
 simp only[dR,bZ,cu]
def C8:aI->aI:=eL wG 147 wD an4 d147 (fun g=>O (dR g.1))
theorem ic:EO C8:=fun h=>kL (an:=agE) func147 (iU aK) aC h (c:=fun g=>asm g.1)
theorem dW:EP C8:=fun h=>kP h
def aqh:aI:=(C8 (WX cQ))
abbrev aqR:Type:=Bool
def d144:Td 0 aqR:= .c [] [2] (.r 0 0 (ec 2 qb en) sn (fun z=>z.1.1) (fun x=>((x,()),(()))) fun _=>rfl)
theorem ae6:∀f∈([145]:List Nat),aV (aqh) f:=(az (dW (jP aZ)) aC)
def rE(a0:aD):Option aqR:=
 bif dR a0 then O (wE)else match bif bif iR a0.aa then wD else wE then O (wE)else bif bif iR a0.af then wD else wE then O (wE)else O (wF (a0.af<a0.aa))with|wC=>wC|O r1=>bif r1 then O (wD)else bif wF (a0.aa=a0.af)then O (wF (a0.ah=0))else match bif wF (1<=a0.ah)then if¬a0.ah=(0:Int)then O (wF ((i64.wrap (a0.af-a0.aa)).tmod a0.ah=0))else wC else O (wD)with|wC=>wC|O r2=>O (r2)
def Ks:aI->aI:=eL wG 144 wD (lc (qg 34) ln) d144 (fun g=>rE g.1)
theorem jK:EO Ks:=fun h=>kL (F:=aqh) (an:=(.two .no (.two .no (.two (.two (.rb [145] 21) .no) (.two .no (.two (.rb [145] 2) .no)))))) (l:=[(.skip,(.rb [145] 21)),(.skip,(.rb [145] 2))]) func144 (ic (AL aK)) (az ae6 (az ae6 aC)) h
theorem eN:EP Ks:=fun h=>kP h
abbrev amY:Type:=aD
def d149:Td 0 amY:= .c [] [2] (.r 0 1 (ec 2 (qp 0 0) en) (sb 0 34 (lg 34) sn) (fun z=>z.2.1) (fun x=>(((),()),(x,()))) fun _=>rfl)
def fT(a0:Int):amY:=
 aD.mk a0 a0 (0)
def aba:aI->aI:=eL wG 149 wD (lc (qi .i64) ln) d149 (fun g=>O (fT g.1))
theorem pR:EO aba:=fun h=>kL (an:= .no) func149 aK aC h
theorem Sz:EP aba:=fun h=>kP h
abbrev ao6:Type:=aD
def d225:Td 0 ao6:= .c [] [6] (.r 0 1 (ec 6 (qp 0 0) en) (sb 0 34 (lg 34) sn) (fun z=>z.2.1) (fun x=>(((),()),(x,()))) fun _=>rfl)
def lS(a0:Int)(a1:Int)(a2:Int):Option ao6:=
 bif wF (a1<a0)then O (gQ)else bif wF (a2=0)then O (fT a0)else if¬a2=(0:Int)then bif wF (a0=i64.wrap (a0+i64.wrap (i64.wrap ((i64.wrap (a1-a0)).tdiv a2)*a2)))then O (fT a0)else O (aD.mk a0 (i64.wrap (a0+i64.wrap (i64.wrap ((i64.wrap (a1-a0)).tdiv a2)*a2))) a2)else wC
def Sg:aI->aI:=eL wG 225 wD (lc (qi .i64) (lc (qi .i64) (lc (qi .i64) ln))) d225 (fun g=>lS g.1 g.2.1 g.2.2.1)
theorem uJ:EO Sg:=fun h=>kL (an:= .no) func225 (iU (pR aK)) aC h
theorem jQ:EP Sg:=fun h=>kP h
def alT:aI:=(Sg (IL (C8 cQ)))
abbrev am5:Type:=aD×aD
def d146:Td 0 am5:= .c [] [4,5] (.r 0 2 (ec 4 (qp 0 0) (ec 5 (qp 1 0) en)) (sb 0 34 (lg 34) (sb 1 34 (lg 34) sn)) (fun z=>(z.2.1,z.2.2.1)) (fun x=>(((),(),()),(x.1,x.2,()))) fun _=>rfl)
theorem amZ:∀f∈([147]:List Nat),aV (alT) f:=(az (jQ (jM (dW aZ))) aC)
def Ac(a0:aD)(a1:Int):Option am5:=
 match bif dR a0 then O (wE)else O (wF (a1<a0.aa))with|wC=>wC|O r1=>bif r1 then O ((gQ,a0))else bif wF (a0.af<=a1)then O ((a0,gQ))else match lS a0.aa a1 a0.ah with|wC=>wC|O r2=>match lS (i64.wrap (r2.af+a0.ah)) a0.af a0.ah with|wC=>wC|O r3=>O ((r2,r3))
def ads:aI->aI:=eL wG 146 wD (lc (qg 34) (lc (qi .i64) ln)) d146 (fun g=>Ac g.1 g.2.1)
theorem HT:EO ads:=fun h=>kL (F:=alT) (an:=(.two .no (.two (.two (.rb [147] 7) .no) .no))) (l:=[(.skip,(.rb [147] 7))]) func146 (uJ (iU (ic aK))) (az amZ aC) h
theorem RI:EP ads:=fun h=>kP h
structure ji where
 (t3 t5:Int)
 t6:List Int
 (t7 t8:Int)
def MA:Td 0 ji:= .c [] [3,5,6,7,8] (.r 0 0 (ec 3 (qi .i64) (ec 5 (qi .i64) (ec 6 (ql 3) (ec 7 (qi .i64) (ec 8 (qi .i64) en))))) sn (fun z=>⟨z.1.1,z.1.2.1,z.1.2.2.1,z.1.2.2.2.1,z.1.2.2.2.2.1⟩) (fun x=>((x.t3,x.t5,x.t6,x.t7,x.t8,()),(()))) fun _=>rfl)
def rQ(p:ji):Option (Option ji):=
 bif bif wF (p.t5=0)then wD else wE then if¬p.t5=(0:Int)then O (O (ji.mk p.t5 (p.t3.tmod p.t5) p.t6 p.t7 p.t8))else wC else O (wC)
def vQ:ji->Option ji:=bw (rQ)
structure m7 where
 t3:Int
 t6:List Int
 (t7 t8:Int)
def Ns:Td 0 m7:= .c [] [3,6,7,8] (.r 0 0 (ec 3 (qi .i64) (ec 6 (ql 3) (ec 7 (qi .i64) (ec 8 (qi .i64) en)))) sn (fun z=>⟨z.1.1,z.1.2.1,z.1.2.2.1,z.1.2.2.2.1⟩) (fun x=>((x.t3,x.t6,x.t7,x.t8,()),(()))) fun _=>rfl)
def rL(p:m7):Option (Option m7):=
 bif wF (p.t8<p.t7)then if(0:Int)<=p.t8/\p.t8<(↑p.t6.length:Int)then match vQ (ji.mk p.t3 p.t6[p.t8.toNat]! p.t6 p.t7 p.t8)with|wC=>wC|O r1=>bif bif wF (r1.t5=0)then wD else wE then if¬r1.t5=(0:Int)then wC else wC else O (O (m7.mk r1.t3 r1.t6 r1.t7 (i64.wrap (r1.t8+1))))else wC else O (wC)
def Tl:An:=(.two .no (.two .no (.two (.two .no (MA.lp vQ .no)) .no)))
def Cu:m7->Option m7:=bw (rL)
abbrev amI:Type:=Int
def d226:Td 0 amI:= .c [] [2] (.r 0 0 (ec 2 (qi .i64) en) sn (fun z=>z.1.1) (fun x=>((x,()),(()))) fun _=>rfl)
def Al(a0:List Int):Option amI:=
 match Cu (m7.mk (0) a0 (↑a0.length:Int) (0))with|wC=>wC|O r2=>bif wF (r2.t8<r2.t7)then if(0:Int)<=r2.t8/\r2.t8<(↑r2.t6.length:Int)then match vQ (ji.mk r2.t3 r2.t6[r2.t8.toNat]! r2.t6 r2.t7 r2.t8)with|wC=>wC|O r3=>bif bif wF (r3.t5=0)then wD else wE then if¬r3.t5=(0:Int)then wC else wC else wC else wC else O (r2.t3)
def UR:aI->aI:=eL wG 226 wD (lc (ql 3) ln) d226 (fun g=>Al g.1)
theorem Aq:EO UR:=fun h=>kL (an:=(.two .no (.two .no (.two (.two .no (Ns.lp Cu Tl)) .no)))) (l:=[(aU f226 0,(Ns.lp Cu Tl)),(aU f226 1,(MA.lp vQ .no))]) func226 aK (az (aO Ns) (az (aO MA) aC)) h
theorem l5:EP UR:=fun h=>kP h
def atv:aI:=cQ
abbrev aiq:Type:=Int
def d227:Td 0 aiq:= .c [] [2] (.r 0 0 (ec 2 (qi .i64) en) sn (fun z=>z.1.1) (fun x=>((x,()),(()))) fun _=>rfl)
def ano:=(lc (qi .i64) ln)
def afP:An:= .no
def iB(a0:Int):aiq:=
 if a0<i64.wrap (0-a0)then i64.wrap (0-a0)else a0
theorem atb(a0:Int):bN wG (atv) 300 (afP) 227 (ano.c (a0,())) [] 0 d227.rd=O (iB a0):=by
 refine Eq.trans (b:=(
  O (if a0<i64.wrap (0-a0)then i64.wrap (0-a0)else a0):Option aiq)) (by kernel_rfl) ?_
 simp only[iB,bZ,cu]
def TJ:aI->aI:=eL wG 227 wD ano d227 (fun g=>O (iB g.1))
theorem AE:EO TJ:=fun h=>kL (an:=afP) func227 aK aC h (c:=fun g=>atb g.1)
theorem Eo:EP TJ:=fun h=>kP h
def anJ:aI:=(TJ (UR (Sg (C8 cQ))))
abbrev amf:Type:=aD
def d148:Td 0 amf:= .c [] [4] (.r 0 1 (ec 4 (qp 0 0) en) (sb 0 34 (lg 34) sn) (fun z=>z.2.1) (fun x=>(((),()),(x,()))) fun _=>rfl)
theorem anA:∀f∈([147]:List Nat),aV (anJ) f:=(az (Eo (l5 (jQ (dW aZ)))) aC)
def kF(a0:aD)(a1:aD):Option amf:=
 bif dR a0 then O (a1)else match bif dR a1 then O (wE)else O (bif wF (a0.aa=a1.aa)then bif wF (a0.af=a1.af)then bif wF (a0.ah=a1.ah)then wE else wD else wD else wD)with|wC=>wC|O r1=>bif r1 then O (a0)else match Al [a0.ah,a1.ah,iB (i64.wrap (a0.aa-a1.aa))]with|wC=>wC|O r2=>match lS (if a1.aa<a0.aa then a1.aa else a0.aa) (if a0.af<a1.af then a1.af else a0.af) r2 with|wC=>wC|O r3=>O (r3)
def Ub:aI->aI:=eL wG 148 wD (lc (qg 34) (lc (qg 34) ln)) d148 (fun g=>kF g.1 g.2.1)
theorem qa:EO Ub:=fun h=>kL (F:=anJ) (an:=(.two .no (.two .no (.two (.two (.rb [147] 14) .no) .no)))) (l:=[(.skip,(.rb [147] 14))]) func148 (AE (Aq (uJ (ic aK)))) (az anA aC) h
theorem DQ:EP Ub:=fun h=>kP h
def F81:aI:=(aba (Ub (C8 (ads (WX (Ks cQ))))))
abbrev E81:Type:=aD×Int
def d81:Td 0 E81:= .c [] [6,7] (.r 0 1 (ec 6 (qp 0 0) (ec 7 (qi .i64) en)) (sb 0 34 (lg 34) sn) (fun z=>(z.2.1,z.1.2.1)) (fun x=>(((),x.2,()),(x.1,()))) fun _=>rfl)
theorem at1:∀f∈([145]:List Nat),aV (F81) f:=(az (Sz (DQ (dW (RI (jP (eN aZ)))))) aC)
def Zy(a0:aD)(a1:Int)(a2:Int):Option E81:=
 match rE a0 with|wC=>wC|O r1=>bif bif r1 then wD else wE then O ((aD.mk (0) (0) (0),1))else match bif wF (a2<a1)then O (wE)else bif bif iR a1 then wD else wE then O (wE)else O (bif iR a2 then wD else wE)with|wC=>wC|O r2=>bif r2 then O ((aD.mk (0) (0) (0),3))else match Ac a0 (i64.wrap (a1-1))with|wC=>wC|O r3=>match Ac r3.snd a2 with|wC=>wC|O r4=>bif bif dR r3.fst then wD else wE then match kF r4.fst (fT a1)with|wC=>wC|O r5=>bif bif dR r4.snd then wD else wE then match kF r5 (fT a2)with|wC=>wC|O r6=>O ((r6,0))else O ((r5,0))else bif bif dR r4.snd then wD else wE then match kF r4.fst (fT a2)with|wC=>wC|O r7=>O ((r7,0))else O ((r4.fst,0))
def e81:aI->aI:=eL wG 81 wD (lc (qg 34) (lc (qi .i64) (lc (qi .i64) ln))) d81 (fun g=>Zy g.1 g.2.1 g.2.2.1)
theorem NC:EO e81:=fun h=>kL (F:=F81) (an:=(.two .no (.two .no (.two (.two (.rb [145] 28) .no) .no)))) (l:=[(.skip,(.rb [145] 28))]) func81 (pR (qa (ic (HT (AL (jK aK)))))) (az at1 aC) h
def ama:aI:=(C8 cQ)
abbrev aqN:Type:=Bool
def d177:Td 0 aqN:= .c [] [4] (.r 0 0 (ec 4 qb en) sn (fun z=>z.1.1) (fun x=>((x,()),(()))) fun _=>rfl)
theorem afl:∀f∈([147]:List Nat),aV (ama) f:=(az (dW aZ) aC)
def SQ(a0:aD)(a1:Int):Option aqN:=
 match bif dR a0 then O (wE)else bif wF (a1<a0.aa)then O (wE)else O (wF (a0.af<a1))with|wC=>wC|O r1=>bif r1 then O (wD)else match bif wF (a0.ah=0)then O (wE)else if¬a0.ah=(0:Int)then O (wF ((i64.wrap (a1-a0.aa)).tmod a0.ah=0))else wC with|wC=>wC|O r2=>O (r2)
def Zg:aI->aI:=eL wG 177 wD (lc (qg 34) (lc (qi .i64) ln)) d177 (fun g=>SQ g.1 g.2.1)
theorem GL:EO Zg:=fun h=>kL (F:=ama) (an:=(.two .no (.two (.two (.rb [147] 18) .no) (.two (.rb [147] 4) .no)))) (l:=[(.skip,(.rb [147] 18)),(.skip,(.rb [147] 4))]) func177 (ic aK) (az afl (az afl aC)) h
theorem wJ:EP Zg:=fun h=>kP h
def F92:aI:=(Zg (Ks cQ))
abbrev E92:Type:=Bool
def d92:Td 0 E92:= .c [] [4] (.r 0 0 (ec 4 qb en) sn (fun z=>z.1.1) (fun x=>((x,()),(()))) fun _=>rfl)
theorem avb:∀f∈([144,177]:List Nat),aV (F92) f:=(az (wJ (eN aZ)) (az (wJ (eN aZ)) aC))
def XO(a0:aD)(a1:Int):Option E92:=
 match match rE a0 with|wC=>wC|O r1=>bif r1 then match SQ a0 a1 with|wC=>wC|O r2=>O (r2)else O (wD)with|wC=>wC|O r3=>O (r3)
def e92:aI->aI:=eL wG 92 wD (lc (qg 34) (lc (qi .i64) ln)) d92 (fun g=>XO g.1 g.2.1)
theorem NJ:EO e92:=fun h=>kL (F:=F92) (an:=(.two .no (.two (.rb [144,177] 4) .no))) (l:=[(.skip,(.rb [144,177] 4))]) func92 (GL (jK aK)) (az avb aC) h
abbrev aoz:Type:=Int
def d176:Td 0 aoz:= .c [] [2] (.r 0 0 (ec 2 (qi .i64) en) sn (fun z=>z.1.1) (fun x=>((x,()),(()))) fun _=>rfl)
def uX(a0:aD):Option aoz:=
 bif dR a0 then O (0)else bif wF (a0.ah=0)then O (1)else if¬a0.ah=(0:Int)then O (i64.wrap (i64.wrap ((i64.wrap (a0.af-a0.aa)).tdiv a0.ah)+1))else wC
def ahr:aI->aI:=eL wG 176 wD (lc (qg 34) ln) d176 (fun g=>uX g.1)
theorem uw:EO ahr:=fun h=>kL (an:= .no) func176 (ic aK) aC h
theorem RS:EP ahr:=fun h=>kP h
abbrev ana:Type:=Bool×Bool
def d228:Td 0 ana:= .c [] [2,3] (.r 0 0 (ec 2 qb (ec 3 qb en)) sn (fun z=>(z.1.1,z.1.2.1)) (fun x=>((x.1,x.2,()),(()))) fun _=>rfl)
def MH(a0:aD):Option ana:=
 match SQ a0 (0)with|wC=>wC|O r1=>match uX a0 with|wC=>wC|O r2=>bif wF (1<r2)then O ((r1,wE))else match uX a0 with|wC=>wC|O r3=>bif wF (r3=1)then O ((r1,bif wF (a0.aa=0)then wD else wE))else O ((r1,wD))
def aa0:aI->aI:=eL wG 228 wD (lc (qg 34) ln) d228 (fun g=>MH g.1)
theorem Fw:EO aa0:=fun h=>kL (an:= .no) func228 (GL (uw aK)) aC h
theorem EC:EP aa0:=fun h=>kP h
abbrev amU:Type:=Bool×Bool
def d151:Td 0 amU:= .c [] [2,3] (.r 0 0 (ec 2 qb (ec 3 qb en)) sn (fun z=>(z.1.1,z.1.2.1)) (fun x=>((x.1,x.2,()),(()))) fun _=>rfl)
def Mc(a0:aD):Option amU:=
 match rE a0 with|wC=>wC|O r1=>bif bif r1 then wD else wE then O ((wD,wD))else match MH a0 with|wC=>wC|O r2=>O (r2)
def ZL:aI->aI:=eL wG 151 wD (lc (qg 34) ln) d151 (fun g=>Mc g.1)
theorem Gw:EO ZL:=fun h=>kL (an:= .no) func151 (Fw (jK aK)) aC h
def am2:aI:=(Ub (Ks cQ))
abbrev amC:Type:=aD×Int
def d229:Td 0 amC:= .c [] [4,5] (.r 0 1 (ec 4 (qp 0 0) (ec 5 (qi .i64) en)) (sb 0 34 (lg 34) sn) (fun z=>(z.2.1,z.1.2.1)) (fun x=>(((),x.2,()),(x.1,()))) fun _=>rfl)
theorem aqU:∀f∈([144]:List Nat),aV (am2) f:=(az (DQ (eN aZ)) aC)
def ad5(a0:aD)(a1:aD):Option amC:=
 match match rE a0 with|wC=>wC|O r1=>bif bif r1 then wD else wE then O (wE)else match rE a1 with|wC=>wC|O r2=>O (bif r2 then wD else wE)with|wC=>wC|O r3=>bif r3 then O ((aD.mk (0) (0) (0),1))else match kF a0 a1 with|wC=>wC|O r4=>O ((r4,0))
def atS:aI->aI:=eL wG 229 wD (lc (qg 34) (lc (qg 34) ln)) d229 (fun g=>ad5 g.1 g.2.1)
theorem aa5:EO atS:=fun h=>kL (F:=am2) (an:=(.two .no (.two (.two (.rb [144] 13) .no) .no))) (l:=[(.skip,(.rb [144] 13))]) func229 (qa (jK aK)) (az aqU aC) h
abbrev aqS:Type:=aD
def d152:Td 0 aqS:= .c [] [4] (.r 0 1 (ec 4 (qp 0 0) en) (sb 0 34 (lg 34) sn) (fun z=>z.2.1) (fun x=>(((),()),(x,()))) fun _=>rfl)
def ue(a0:aD)(a1:aD):Option aqS:=
 bif bif wF (a0.aa=a1.aa)then bif wF (a0.af=a1.af)then bif wF (a0.ah=a1.ah)then wE else wD else wD else wD then O (a0)else match ad5 a0 a1 with|wC=>wC|O r1=>O (r1.fst)
def aqF:aI->aI:=eL wG 152 wD (lc (qg 34) (lc (qg 34) ln)) d152 (fun g=>ue g.1 g.2.1)
theorem FU:EO aqF:=fun h=>kL (an:= .no) func152 (aa5 aK) aC h
def apm:aI:=(IL cQ)
abbrev alG:Type:=aD
def d153:Td 0 alG:= .c [] [0] (.r 0 1 (ec 0 (qp 0 0) en) (sb 0 34 (lg 34) sn) (fun z=>z.2.1) (fun x=>(((),()),(x,()))) fun _=>rfl)
def anW:=ln
def afp:An:= .no
def ad0:alG:=
 gQ
theorem atG:bN wG (apm) 300 (afp) 153 (anW.c ()) [] 0 d153.rd=O (ad0):=by kernel_rfl
def anY:aI->aI:=eL wG 153 wD anW d153 (fun _=>O (ad0))
theorem XS:EO anY:=fun h=>kL (F:=apm) (an:=afp) func153 (iU aK) aC h (c:=fun _=>atG)
abbrev aqL:Type:=aD
def d230:Td 0 aqL:= .c [] [4] (.r 0 1 (ec 4 (qp 0 0) en) (sb 0 34 (lg 34) sn) (fun z=>z.2.1) (fun x=>(((),()),(x,()))) fun _=>rfl)
def nN(a0:Bool)(a1:Bool):Option aqL:=
 bif a0 then match kF gQ (fT (0))with|wC=>wC|O r1=>bif a1 then match kF r1 (fT (1))with|wC=>wC|O r2=>O (r2)else O (r1)else bif a1 then match kF gQ (fT (1))with|wC=>wC|O r3=>O (r3)else O (gQ)
def acs:aI->aI:=eL wG 230 wD (lc qb (lc qb ln)) d230 (fun g=>nN g.1 g.2.1)
theorem Qr:EO acs:=fun h=>kL (an:= .no) func230 (iU (pR (qa aK))) aC h
theorem Eh:EP acs:=fun h=>kP h
def anf:aI:=(acs (aa0 (C8 (Ks cQ))))
abbrev apv:Type:=aD×Int
def d154:Td 0 apv:= .c [] [4,5] (.r 0 1 (ec 4 (qp 0 0) (ec 5 (qi .i64) en)) (sb 0 34 (lg 34) sn) (fun z=>(z.2.1,z.1.2.1)) (fun x=>(((),x.2,()),(x.1,()))) fun _=>rfl)
theorem amT:∀f∈([144]:List Nat),aV (anf) f:=(az (Eh (EC (dW (eN aZ)))) aC)
def abU(a0:Int)(a1:aD):Option apv:=
 match match rE a1 with|wC=>wC|O r1=>bif bif r1 then wD else wE then O (wE)else bif bif wF (a0=6)then wD else wE then O (bif wF (a0=7)then wD else wE)else O (wD)with|wC=>wC|O r2=>bif r2 then O ((aD.mk (0) (0) (0),1))else bif dR a1 then O ((a1,0))else bif wF (a0=7)then match MH a1 with|wC=>wC|O r3=>match nN r3.snd r3.fst with|wC=>wC|O r4=>O ((r4,0))else O ((aD.mk (i64.wrap (0-a1.af)) (i64.wrap (0-a1.aa)) a1.ah,0))
def aod:aI->aI:=eL wG 154 wD (lc (qi .i64) (lc (qg 34) ln)) d154 (fun g=>abU g.1 g.2.1)
theorem acW:EO aod:=fun h=>kL (F:=anf) (an:=(.two .no (.two (.two (.rb [144] 18) .no) .no))) (l:=[(.skip,(.rb [144] 18))]) func154 (Qr (Fw (ic (jK aK)))) (az amT aC) h
def auw:aI:=cQ
abbrev ahT:Type:=Bool
def d231:Td 0 ahT:= .c [] [2] (.r 0 0 (ec 2 qb en) sn (fun z=>z.1.1) (fun x=>((x,()),(()))) fun _=>rfl)
def anQ:=(lc (qi .i64) ln)
def agA:An:= .no
def uK(a0:Int):ahT:=
 bif wF (a0=8)then wE else bif wF (a0=9)then wE else bif wF (a0=10)then wE else bif wF (a0=11)then wE else bif wF (a0=12)then wE else bif wF (a0=13)then wE else bif wF (a0=14)then wE else bif wF (a0=15)then wE else bif wF (a0=16)then wE else bif wF (a0=17)then wE else bif wF (a0=18)then wE else bif wF (a0=19)then wE else bif wF (a0=20)then wE else bif wF (a0=21)then wE else bif wF (a0=22)then wE else wD
theorem asR(a0:Int):bN wG (auw) 300 (agA) 231 (anQ.c (a0,())) [] 0 d231.rd=O (uK a0):=by
 refine Eq.trans (b:=(
  bif wF (a0=8)then O (wE)else bif wF (a0=9)then O (wE)else bif wF (a0=10)then O (wE)else bif wF (a0=11)then O (wE)else bif wF (a0=12)then O (wE)else bif wF (a0=13)then O (wE)else bif wF (a0=14)then O (wE)else bif wF (a0=15)then O (wE)else bif wF (a0=16)then O (wE)else bif wF (a0=17)then O (wE)else bif wF (a0=18)then O (wE)else bif wF (a0=19)then O (wE)else bif wF (a0=20)then O (wE)else bif wF (a0=21)then O (wE)else bif wF (a0=22)then O (wE)else O (wD):Option ahT)) (by kernel_rfl) ?_
 simp only[uK,bZ,cu]
def aid:aI->aI:=eL wG 231 wD anQ d231 (fun g=>O (uK g.1))
theorem Y7:EO aid:=fun h=>kL (an:=agA) func231 aK aC h (c:=fun g=>asR g.1)
theorem qu:EP aid:=fun h=>kP h
def apo:aI:=(TJ cQ)
abbrev aqa:Type:=Int×Bool
def d274:Td 0 aqa:= .c [] [4,5] (.r 0 0 (ec 4 (qi .i64) (ec 5 qb en)) sn (fun z=>(z.1.1,z.1.2.1)) (fun x=>((x.1,x.2,()),(()))) fun _=>rfl)
theorem aox:∀f∈([227]:List Nat),aV (apo) f:=(az (Eo aZ) aC)
def NK(a0:Int)(a1:Int):Option aqa:=
 match bif bif wF (a0=0)then wD else wE then if¬iB a0=(0:Int)then O (wF (i64.wrap ((1099511627776:Int).tdiv (iB a0))<iB a1))else wC else O (wD)with|wC=>wC|O r1=>bif r1 then O ((0,wD))else O ((i64.wrap (a0*a1),wE))
def atd:aI->aI:=eL wG 274 wD (lc (qi .i64) (lc (qi .i64) ln)) d274 (fun g=>NK g.1 g.2.1)
theorem ZG:EO atd:=fun h=>kL (F:=apo) (an:=(.two .no (.two (.two (.rb [227] 15) .no) .no))) (l:=[(.skip,(.rb [227] 15))]) func274 (AE aK) (az aox aC) h
structure m9 where
 t0:List Int
 (t3 t4:Int)
def Lb:Td 0 m9:= .c [] [0,3,4] (.r 0 0 (ec 0 (ql 3) (ec 3 (qi .i64) (ec 4 (qi .i64) en))) sn (fun z=>⟨z.1.1,z.1.2.1,z.1.2.2.1⟩) (fun x=>((x.t0,x.t3,x.t4,()),(()))) fun _=>rfl)
def CQ(p:m9):Option (Option m9):=
 bif wF (p.t4<(↑p.t0.length:Int))then if(0:Int)<=p.t4/\p.t4<(↑p.t0.length:Int)then O (O (m9.mk p.t0 (if((p.t0,p.t3,p.t4,()),()).fst.fst[((p.t0,p.t3,p.t4,()),()).fst.snd.snd.fst.toNat]! <((p.t0,p.t3,p.t4,()),()).fst.snd.fst then p.t0[p.t4.toNat]! else p.t3) (i64.wrap (p.t4+1))))else wC else O (wC)
def F5:m9->Option m9:=bw (CQ)
abbrev aoP:Type:=Int
def d275:Td 0 aoP:= .c [] [2] (.r 0 0 (ec 2 (qi .i64) en) sn (fun z=>z.1.1) (fun x=>((x,()),(()))) fun _=>rfl)
def Yk(a0:List Int):Option aoP:=
 bif wF ((↑a0.length:Int)<1)then wC else if(0:Int)<=(0:Int)/\(0:Int)<(↑a0.length:Int)then match F5 (m9.mk a0 a0[0]! (1))with|wC=>wC|O r1=>bif wF (r1.t4<(↑r1.t0.length:Int))then if(0:Int)<=r1.t4/\r1.t4<(↑r1.t0.length:Int)then wC else wC else O (r1.t3)else wC
def auv:aI->aI:=eL wG 275 wD (lc (ql 3) ln) d275 (fun g=>Yk g.1)
theorem aad:EO auv:=fun h=>kL (an:=(.two .no (.two .no (.two .no (.two (.two .no (Lb.lp F5 .no)) .no))))) (l:=[(aU f275 0,(Lb.lp F5 .no))]) func275 aK (az (aO Lb) aC) h
structure mE where
 t0:List Int
 (t3 t4:Int)
def LF:Td 0 mE:= .c [] [0,3,4] (.r 0 0 (ec 0 (ql 3) (ec 3 (qi .i64) (ec 4 (qi .i64) en))) sn (fun z=>⟨z.1.1,z.1.2.1,z.1.2.2.1⟩) (fun x=>((x.t0,x.t3,x.t4,()),(()))) fun _=>rfl)
def BV(p:mE):Option (Option mE):=
 bif wF (p.t4<(↑p.t0.length:Int))then if(0:Int)<=p.t4/\p.t4<(↑p.t0.length:Int)then O (O (mE.mk p.t0 (if((p.t0,p.t3,p.t4,()),()).fst.snd.fst<((p.t0,p.t3,p.t4,()),()).fst.fst[((p.t0,p.t3,p.t4,()),()).fst.snd.snd.fst.toNat]! then p.t0[p.t4.toNat]! else p.t3) (i64.wrap (p.t4+1))))else wC else O (wC)
def Ft:mE->Option mE:=bw (BV)
abbrev anG:Type:=Int
def d276:Td 0 anG:= .c [] [2] (.r 0 0 (ec 2 (qi .i64) en) sn (fun z=>z.1.1) (fun x=>((x,()),(()))) fun _=>rfl)
def ac4(a0:List Int):Option anG:=
 bif wF ((↑a0.length:Int)<1)then wC else if(0:Int)<=(0:Int)/\(0:Int)<(↑a0.length:Int)then match Ft (mE.mk a0 a0[0]! (1))with|wC=>wC|O r1=>bif wF (r1.t4<(↑r1.t0.length:Int))then if(0:Int)<=r1.t4/\r1.t4<(↑r1.t0.length:Int)then wC else wC else O (r1.t3)else wC
def as7:aI->aI:=eL wG 276 wD (lc (ql 3) ln) d276 (fun g=>ac4 g.1)
theorem acv:EO as7:=fun h=>kL (an:=(.two .no (.two .no (.two .no (.two (.two .no (LF.lp Ft .no)) .no))))) (l:=[(aU f276 0,(LF.lp Ft .no))]) func276 aK (az (aO LF) aC) h
abbrev alU:Type:=aD×Int
def d232:Td 0 alU:= .c [] [4,5] (.r 0 1 (ec 4 (qp 0 0) (ec 5 (qi .i64) en)) (sb 0 34 (lg 34) sn) (fun z=>(z.2.1,z.1.2.1)) (fun x=>(((),x.2,()),(x.1,()))) fun _=>rfl)
def S5(a0:aD)(a1:aD):Option alU:=
 match NK a0.aa a1.aa with|wC=>wC|O r1=>bif bif r1.snd then wD else wE then O ((aD.mk (0) (0) (0),3))else match NK a0.aa a1.af with|wC=>wC|O r2=>bif bif r2.snd then wD else wE then O ((aD.mk (0) (0) (0),3))else match NK a0.af a1.aa with|wC=>wC|O r3=>bif bif r3.snd then wD else wE then O ((aD.mk (0) (0) (0),3))else match NK a0.af a1.af with|wC=>wC|O r4=>bif bif r4.snd then wD else wE then O ((aD.mk (0) (0) (0),3))else match Al [i64.wrap (a0.ah*iB a1.aa),i64.wrap (a1.ah*iB a0.aa),i64.wrap (a0.ah*a1.ah)]with|wC=>wC|O r5=>match Yk ([r1.fst]++[r2.fst]++[r3.fst]++[r4.fst])with|wC=>wC|O r6=>match ac4 ([r1.fst]++[r2.fst]++[r3.fst]++[r4.fst])with|wC=>wC|O r7=>match lS r6 r7 r5 with|wC=>wC|O r8=>O ((r8,0))
def akm:aI->aI:=eL wG 232 wD (lc (qg 34) (lc (qg 34) ln)) d232 (fun g=>S5 g.1 g.2.1)
theorem adN:EO akm:=fun h=>kL (an:= .no) func232 (acv (aad (ZG (AE (Aq (uJ aK)))))) aC h
theorem qh:EP akm:=fun h=>kP h
def aqM:aI:=(TJ (Sg (Ub (ads cQ))))
abbrev anj:Type:=aD
def d277:Td 0 anj:= .c [] [6] (.r 0 1 (ec 6 (qp 0 0) en) (sb 0 34 (lg 34) sn) (fun z=>z.2.1) (fun x=>(((),()),(x,()))) fun _=>rfl)
theorem arh:∀f∈([]:List Nat),aV (aqM) f:=aC
def SB(a0:Int)(a1:aD)(a2:aD):Option anj:=
 bif wF (a0=11)then match bif wF (0<=a1.aa)then O (wF (0<=a2.aa))else O (wD)with|wC=>wC|O r1=>bif r1 then match lS (0) (if iB a1.aa<iB a1.af then iB a1.af else iB a1.aa) (1)with|wC=>wC|O r2=>O (r2)else match lS (i64.wrap (0-if iB a1.aa<iB a1.af then iB a1.af else iB a1.aa)) (if iB a1.aa<iB a1.af then iB a1.af else iB a1.aa) (1)with|wC=>wC|O r3=>O (r3)else bif wF (a0=12)then match lS (if 0<i64.wrap (a2.aa+1)then 0 else i64.wrap (a2.aa+1)) (if i64.wrap (a2.af-1)<0 then 0 else i64.wrap (a2.af-1)) (1)with|wC=>wC|O r4=>O (r4)else bif wF (a0=21)then match kF a1 a2 with|wC=>wC|O r5=>match Ac r5 (if a2.af<a1.af then a2.af else a1.af)with|wC=>wC|O r6=>O (r6.fst)else match kF a1 a2 with|wC=>wC|O r7=>match Ac r7 (i64.wrap ((if a1.aa<a2.aa then a2.aa else a1.aa)-1))with|wC=>wC|O r8=>O (r8.snd)
def asu:aI->aI:=eL wG 277 wD (lc (qi .i64) (lc (qg 34) (lc (qg 34) ln))) d277 (fun g=>SB g.1 g.2.1 g.2.2.1)
theorem XD:EO asu:=fun h=>kL (F:=aqM) (an:=(.two .no (.two (.two .no (.two .no (.two (.two .no (.two (.two (.rb [] 29) .no) .no)) .no))) .no))) (l:=[(.skip,(.rb [] 29))]) func277 (AE (uJ (qa (HT aK)))) (az arh aC) h
structure jm where
 t3:List Int
 (t6 t7:Int)
 b0:aD
def NT:Td 0 jm:= .c [] [1,3,6,7] (.t (cq.s 3 [] 3) (.c [] [1,3,6,7] (.r 0 2 (ec 1 (qp 0 0) (ec 3 (qo 1) (ec 6 (qi .i64) (ec 7 (qi .i64) en)))) (sb 0 34 (lg 34) (sr 1 3 sn)) (fun z=>⟨z.2.2.1,z.1.2.2.1,z.1.2.2.2.1,z.2.1⟩) (fun x=>(((),(),x.t6,x.t7,()),(x.b0,x.t3,()))) fun _=>rfl)))
def sJ(p:jm):Option (Option jm):=
 bif wF (p.t7<p.t6)then if(p.t3++[i64.wrap (p.b0.aa+i64.wrap (p.t7*p.b0.ah))]).length<=1073741824 then O (O (jm.mk (p.t3++[i64.wrap (p.b0.aa+i64.wrap (p.t7*p.b0.ah))]) p.t6 (i64.wrap (p.t7+1)) p.b0))else wC else O (wC)
def Gj:jm->Option jm:=bw (sJ)
abbrev apN:Type:=List Int
def d278:Td 0 apN:= .c [] [2] (.r 0 1 (ec 2 (qo 0) en) (sr 0 3 sn) (fun z=>z.2.1) (fun x=>(((),()),(x,()))) fun _=>rfl)
def SS(a0:aD):Option apN:=
 match uX a0 with|wC=>wC|O r1=>match Gj (jm.mk [] r1 (0) a0)with|wC=>wC|O r2=>bif wF (r2.t7<r2.t6)then if(r2.t3++[i64.wrap (r2.b0.aa+i64.wrap (r2.t7*r2.b0.ah))]).length<=1073741824 then wC else wC else O (r2.t3)
def auh:aI->aI:=eL wG 278 wD (lc (qg 34) ln) d278 (fun g=>SS g.1)
theorem aaa:EO auh:=fun h=>kL (an:=(.two .no (.two .no (.two (.two .no (NT.lp Gj .no)) .no)))) (l:=[(aU f278 0,(NT.lp Gj .no))]) func278 (uw aK) (az (aO NT) aC) h
def anO:aI:=cQ
abbrev aqd:Type:=Int
def d315:Td 0 aqd:= .c [] [4] (.r 0 0 (ec 4 (qi .i64) en) sn (fun z=>z.1.1) (fun x=>((x,()),(()))) fun _=>rfl)
theorem aoY:∀f∈([]:List Nat),aV (anO) f:=aC
def WJ(a0:Int)(a1:Int):Option aqd:=
 bif wF (a1=0)then O (0)else if¬a1=(0:Int)then match if¬a1=(0:Int)then bif bif wF (a0.tmod a1=0)then wD else wE then O (bif wF (a0<0)==wF (a1<0)then wD else wE)else O (wD)else wC with|wC=>wC|O r1=>bif r1 then O (i64.wrap (i64.wrap (a0.tdiv a1)-1))else O (i64.wrap (a0.tdiv a1))else wC
def ar4:aI->aI:=eL wG 315 wD (lc (qi .i64) (lc (qi .i64) ln)) d315 (fun g=>WJ g.1 g.2.1)
theorem Zf:EO ar4:=fun h=>kL (F:=anO) (an:=(.two .no (.two .no (.two .no (.two (.two (.rb [] 21) .no) .no))))) (l:=[(.skip,(.rb [] 21))]) func315 aK (az aoY aC) h
abbrev anv:Type:=Int
def d279:Td 0 anv:= .c [] [6] (.r 0 0 (ec 6 (qi .i64) en) sn (fun z=>z.1.1) (fun x=>((x,()),(()))) fun _=>rfl)
def RY(a0:Int)(a1:Int)(a2:Int):Option anv:=
 bif wF (a0=11)then match WJ a1 a2 with|wC=>wC|O r1=>O (r1)else bif wF (a0=12)then bif wF (a2=0)then O (0)else match WJ a1 a2 with|wC=>wC|O r2=>O (i64.wrap (a1-i64.wrap (a2*r2)))else bif wF (a0=21)then O (if a2<a1 then a2 else a1)else O (if a1<a2 then a2 else a1)
def asM:aI->aI:=eL wG 279 wD (lc (qi .i64) (lc (qi .i64) (lc (qi .i64) ln))) d279 (fun g=>RY g.1 g.2.1 g.2.2.1)
theorem ZF:EO asM:=fun h=>kL (an:= .no) func279 (Zf aK) aC h
structure kg where
 (t0 t9:Int)
 t34:List Int
 (t35 t36:Int)
 t41:List Int
 (t42 t43:Int)
 (b0 b1 b2:aD)
def NS:Td 0 kg:= .c [] [0,5,6,7,9,34,35,36,41,42,43] (.r 0 5 (ec 0 (qi .i64) (ec 5 (qp 0 0) (ec 6 (qp 1 0) (ec 7 (qp 2 0) (ec 9 (qi .i64) (ec 34 (qo 3) (ec 35 (qi .i64) (ec 36 (qi .i64) (ec 41 (qo 4) (ec 42 (qi .i64) (ec 43 (qi .i64) en))))))))))) (sb 0 34 (lg 34) (sb 1 34 (lg 34) (sb 2 34 (lg 34) (sr 3 3 (sr 4 3 sn))))) (fun z=>⟨z.1.1,z.1.2.2.2.2.1,z.2.2.2.2.1,z.1.2.2.2.2.2.2.1,z.1.2.2.2.2.2.2.2.1,z.2.2.2.2.2.1,z.1.2.2.2.2.2.2.2.2.2.1,z.1.2.2.2.2.2.2.2.2.2.2.1,z.2.1,z.2.2.1,z.2.2.2.1⟩) (fun x=>((x.t0,(),(),(),x.t9,(),x.t35,x.t36,(),x.t42,x.t43,()),(x.b0,x.b1,x.b2,x.t34,x.t41,()))) fun _=>rfl)
def Hf(p:kg):Option (Option kg):=
 bif wF (p.t43<p.t42)then if(0:Int)<=p.t43/\p.t43<(↑p.t41.length:Int)then if 3=3/\p.t43.toNat<p.t41.length then match RY p.t0 p.t9 p.t41[p.t43.toNat]! with|wC=>wC|O r5=>match kF p.b2 (fT r5)with|wC=>wC|O r6=>O (O (kg.mk p.t0 p.t9 p.t34 p.t35 p.t36 p.t41 p.t42 (i64.wrap (p.t43+1)) p.b0 p.b1 r6))else wC else wC else O (wC)
def CZ:kg->Option kg:=bw (Hf)
structure kS where
 t0:Int
 t34:List Int
 (t35 t36:Int)
 (b0 b1 b2:aD)
def NM:Td 0 kS:= .c [] [0,5,6,7,34,35,36] (.r 0 4 (ec 0 (qi .i64) (ec 5 (qp 0 0) (ec 6 (qp 1 0) (ec 7 (qp 2 0) (ec 34 (qo 3) (ec 35 (qi .i64) (ec 36 (qi .i64) en))))))) (sb 0 34 (lg 34) (sb 1 34 (lg 34) (sb 2 34 (lg 34) (sr 3 3 sn)))) (fun z=>⟨z.1.1,z.2.2.2.2.1,z.1.2.2.2.2.2.1,z.1.2.2.2.2.2.2.1,z.2.1,z.2.2.1,z.2.2.2.1⟩) (fun x=>((x.t0,(),(),(),(),x.t35,x.t36,()),(x.b0,x.b1,x.b2,x.t34,()))) fun _=>rfl)
def vm(p:kS):Option (Option kS):=
 bif wF (p.t36<p.t35)then if(0:Int)<=p.t36/\p.t36<(↑p.t34.length:Int)then if 3=3/\p.t36.toNat<p.t34.length then match SS p.b0 with|wC=>wC|O r1=>match CZ (kg.mk p.t0 p.t34[p.t36.toNat]! p.t34 p.t35 p.t36 r1 (↑(yC r1):Int) (0) p.b0 p.b1 p.b2)with|wC=>wC|O r2=>bif wF (r2.t43<r2.t42)then if(0:Int)<=r2.t43/\r2.t43<(↑r2.t41.length:Int)then if 3=3/\r2.t43.toNat<r2.t41.length then match RY r2.t0 r2.t9 r2.t41[r2.t43.toNat]! with|wC=>wC|O r3=>match kF r2.b2 (fT r3)with|wC=>wC|O r4=>wC else wC else wC else O (O (kS.mk r2.t0 r2.t34 r2.t35 (i64.wrap (r2.t36+1)) r2.b0 r2.b1 r2.b2))else wC else wC else O (wC)
def UL:An:=(.two .no (.two .no (.two (.two .no (.two .no (NS.lp CZ .no))) .no)))
def HC:kS->Option kS:=bw (vm)
abbrev ami:Type:=aD
def d233:Td 0 ami:= .c [] [6] (.r 0 1 (ec 6 (qp 0 0) en) (sb 0 34 (lg 34) sn) (fun z=>z.2.1) (fun x=>(((),()),(x,()))) fun _=>rfl)
def uH(a0:Int)(a1:aD)(a2:aD):Option ami:=
 match uX a1 with|wC=>wC|O r7=>bif wF (4096<r7)then match SB a0 a1 a2 with|wC=>wC|O r8=>O (r8)else match uX a2 with|wC=>wC|O r9=>bif wF (4096<r9)then match SB a0 a1 a2 with|wC=>wC|O r10=>O (r10)else match uX a1 with|wC=>wC|O r11=>match uX a2 with|wC=>wC|O r12=>bif wF (4096<i64.wrap (r11*r12))then match SB a0 a1 a2 with|wC=>wC|O r13=>O (r13)else match SS a1 with|wC=>wC|O r14=>match HC (kS.mk a0 r14 (↑(yC r14):Int) (0) a2 (aD.mk (0) (0) (0)) gQ)with|wC=>wC|O r15=>bif wF (r15.t36<r15.t35)then if(0:Int)<=r15.t36/\r15.t36<(↑r15.t34.length:Int)then if 3=3/\r15.t36.toNat<r15.t34.length then match SS r15.b0 with|wC=>wC|O r16=>match CZ (kg.mk r15.t0 r15.t34[r15.t36.toNat]! r15.t34 r15.t35 r15.t36 r16 (↑(yC r16):Int) (0) r15.b0 r15.b1 r15.b2)with|wC=>wC|O r17=>bif wF (r17.t43<r17.t42)then if(0:Int)<=r17.t43/\r17.t43<(↑r17.t41.length:Int)then if 3=3/\r17.t43.toNat<r17.t41.length then match RY r17.t0 r17.t9 r17.t41[r17.t43.toNat]! with|wC=>wC|O r18=>match kF r17.b2 (fT r18)with|wC=>wC|O r19=>wC else wC else wC else wC else wC else wC else O (r15.b2)
def agP:aI->aI:=eL wG 233 wD (lc (qi .i64) (lc (qg 34) (lc (qg 34) ln))) d233 (fun g=>uH g.1 g.2.1 g.2.2.1)
theorem abz:EO agP:=fun h=>kL (an:=(.two .no (.two .no (.two .no (.two (.two .no (NM.lp HC UL)) .no))))) (l:=[(aU f233 0,(NM.lp HC UL)),(aU f233 1,(NS.lp CZ .no))]) func233 (ZF (aaa (XD (iU (uw (pR (qa aK))))))) (az (aO NM) (az (aO NS) aC)) h
theorem qj:EP agP:=fun h=>kP h
structure jl where
 (t1 t5 t6 t7 t8:Int)
def Nb:Td 0 jl:= .c [] [1,5,6,7,8] (.r 0 0 (ec 1 (qi .i64) (ec 5 (qi .i64) (ec 6 (qi .i64) (ec 7 (qi .i64) (ec 8 (qi .i64) en))))) sn (fun z=>⟨z.1.1,z.1.2.1,z.1.2.2.1,z.1.2.2.2.1,z.1.2.2.2.2.1⟩) (fun x=>((x.t1,x.t5,x.t6,x.t7,x.t8,()),(()))) fun _=>rfl)
def Bo(p:jl):Option (Option jl):=
 bif wF (1<p.t5)then if¬p.t5=(0:Int)then O (O (jl.mk p.t1 (i64.wrap (p.t6-i64.wrap (i64.wrap (p.t6.tdiv p.t5)*p.t5))) p.t5 (i64.wrap (p.t8-i64.wrap (i64.wrap (p.t6.tdiv p.t5)*p.t7))) p.t7))else wC else O (wC)
def FZ:jl->Option jl:=bw (Bo)
abbrev aoO:Type:=Int
def d341:Td 0 aoO:= .c [] [4] (.r 0 0 (ec 4 (qi .i64) en) sn (fun z=>z.1.1) (fun x=>((x,()),(()))) fun _=>rfl)
def YN(a0:Int)(a1:Int):Option aoO:=
 if¬a1=(0:Int)then match FZ (jl.mk a1 (a0.tmod a1) a1 (1) (0))with|wC=>wC|O r1=>bif wF (1<r1.t5)then if¬r1.t5=(0:Int)then wC else wC else if¬r1.t1=(0:Int)then if¬r1.t1=(0:Int)then O ((i64.wrap (r1.t7.tmod r1.t1+r1.t1)).tmod r1.t1)else wC else wC else wC
def amB:aI->aI:=eL wG 341 wD (lc (qi .i64) (lc (qi .i64) ln)) d341 (fun g=>YN g.1 g.2.1)
theorem abd:EO amB:=fun h=>kL (an:=(.two .no (.two .no (.two (Nb.lp FZ .no) .no)))) (l:=[(aU f341 0,(Nb.lp FZ .no))]) func341 aK (az (aO Nb) aC) h
def alH:aI:=(amB (aol (UR (IL (aba cQ)))))
abbrev alX:Type:=aD
def d316:Td 0 alX:= .c [] [4] (.r 0 1 (ec 4 (qp 0 0) en) (sb 0 34 (lg 34) sn) (fun z=>z.2.1) (fun x=>(((),()),(x,()))) fun _=>rfl)
theorem aph:∀f∈([]:List Nat),aV (alH) f:=aC
def abm(a0:aD)(a1:aD):Option alX:=
 match Al [a0.ah,a1.ah]with|wC=>wC|O r1=>match bif wF ((if a1.af<a0.af then a1.af else a0.af)<if a0.aa<a1.aa then a1.aa else a0.aa)then O (wE)else if¬r1=(0:Int)then O (bif wF ((i64.wrap (a1.aa-a0.aa)).tmod r1=0)then wD else wE)else wC with|wC=>wC|O r2=>bif r2 then O (gQ)else if¬r1=(0:Int)then bif wF (1<i64.wrap (a1.ah.tdiv r1))then if¬r1=(0:Int)then if¬i64.wrap (a1.ah.tdiv r1)=(0:Int)then if¬i64.wrap (a1.ah.tdiv r1)=(0:Int)then if¬r1=(0:Int)then if¬i64.wrap (a1.ah.tdiv r1)=(0:Int)then match YN ((i64.wrap (a0.ah.tdiv r1)).tmod (i64.wrap (a1.ah.tdiv r1))) (i64.wrap (a1.ah.tdiv r1))with|wC=>wC|O r3=>match aen ((i64.wrap ((i64.wrap ((i64.wrap (a1.aa-a0.aa)).tdiv r1)).tmod (i64.wrap (a1.ah.tdiv r1))+i64.wrap (a1.ah.tdiv r1))).tmod (i64.wrap (a1.ah.tdiv r1))) r3 (i64.wrap (a1.ah.tdiv r1))with|wC=>wC|O r4=>if¬a0.ah=(0:Int)then if¬a0.ah=(0:Int)then bif wF (r4<i64.wrap ((i64.wrap (i64.wrap (i64.wrap ((if a0.aa<a1.aa then a1.aa else a0.aa)-a0.aa)+a0.ah)-1)).tdiv a0.ah))then if¬i64.wrap (a1.ah.tdiv r1)=(0:Int)then bif wF (i64.wrap ((i64.wrap ((if a1.af<a0.af then a1.af else a0.af)-a0.aa)).tdiv a0.ah)<i64.wrap (r4+i64.wrap (i64.wrap ((i64.wrap (i64.wrap (i64.wrap (i64.wrap ((i64.wrap (i64.wrap (i64.wrap ((if a0.aa<a1.aa then a1.aa else a0.aa)-a0.aa)+a0.ah)-1)).tdiv a0.ah)-r4)+i64.wrap (a1.ah.tdiv r1))-1)).tdiv (i64.wrap (a1.ah.tdiv r1)))*i64.wrap (a1.ah.tdiv r1))))then O (gQ)else if¬i64.wrap (a1.ah.tdiv r1)=(0:Int)then bif wF (i64.wrap (r4+i64.wrap (i64.wrap ((i64.wrap (i64.wrap (i64.wrap (i64.wrap ((i64.wrap (i64.wrap (i64.wrap ((if a0.aa<a1.aa then a1.aa else a0.aa)-a0.aa)+a0.ah)-1)).tdiv a0.ah)-r4)+i64.wrap (a1.ah.tdiv r1))-1)).tdiv (i64.wrap (a1.ah.tdiv r1)))*i64.wrap (a1.ah.tdiv r1)))=i64.wrap (i64.wrap (r4+i64.wrap (i64.wrap ((i64.wrap (i64.wrap (i64.wrap (i64.wrap ((i64.wrap (i64.wrap (i64.wrap ((if a0.aa<a1.aa then a1.aa else a0.aa)-a0.aa)+a0.ah)-1)).tdiv a0.ah)-r4)+i64.wrap (a1.ah.tdiv r1))-1)).tdiv (i64.wrap (a1.ah.tdiv r1)))*i64.wrap (a1.ah.tdiv r1)))+i64.wrap (i64.wrap ((i64.wrap (i64.wrap ((i64.wrap ((if a1.af<a0.af then a1.af else a0.af)-a0.aa)).tdiv a0.ah)-i64.wrap (r4+i64.wrap (i64.wrap ((i64.wrap (i64.wrap (i64.wrap (i64.wrap ((i64.wrap (i64.wrap (i64.wrap ((if a0.aa<a1.aa then a1.aa else a0.aa)-a0.aa)+a0.ah)-1)).tdiv a0.ah)-r4)+i64.wrap (a1.ah.tdiv r1))-1)).tdiv (i64.wrap (a1.ah.tdiv r1)))*i64.wrap (a1.ah.tdiv r1))))).tdiv (i64.wrap (a1.ah.tdiv r1)))*i64.wrap (a1.ah.tdiv r1))))then O (fT (i64.wrap (a0.aa+i64.wrap (i64.wrap (r4+i64.wrap (i64.wrap ((i64.wrap (i64.wrap (i64.wrap (i64.wrap ((i64.wrap (i64.wrap (i64.wrap ((if a0.aa<a1.aa then a1.aa else a0.aa)-a0.aa)+a0.ah)-1)).tdiv a0.ah)-r4)+i64.wrap (a1.ah.tdiv r1))-1)).tdiv (i64.wrap (a1.ah.tdiv r1)))*i64.wrap (a1.ah.tdiv r1)))*a0.ah))))else O (aD.mk (i64.wrap (a0.aa+i64.wrap (i64.wrap (r4+i64.wrap (i64.wrap ((i64.wrap (i64.wrap (i64.wrap (i64.wrap ((i64.wrap (i64.wrap (i64.wrap ((if a0.aa<a1.aa then a1.aa else a0.aa)-a0.aa)+a0.ah)-1)).tdiv a0.ah)-r4)+i64.wrap (a1.ah.tdiv r1))-1)).tdiv (i64.wrap (a1.ah.tdiv r1)))*i64.wrap (a1.ah.tdiv r1)))*a0.ah))) (i64.wrap (a0.aa+i64.wrap (i64.wrap (i64.wrap (r4+i64.wrap (i64.wrap ((i64.wrap (i64.wrap (i64.wrap (i64.wrap ((i64.wrap (i64.wrap (i64.wrap ((if a0.aa<a1.aa then a1.aa else a0.aa)-a0.aa)+a0.ah)-1)).tdiv a0.ah)-r4)+i64.wrap (a1.ah.tdiv r1))-1)).tdiv (i64.wrap (a1.ah.tdiv r1)))*i64.wrap (a1.ah.tdiv r1)))+i64.wrap (i64.wrap ((i64.wrap (i64.wrap ((i64.wrap ((if a1.af<a0.af then a1.af else a0.af)-a0.aa)).tdiv a0.ah)-i64.wrap (r4+i64.wrap (i64.wrap ((i64.wrap (i64.wrap (i64.wrap (i64.wrap ((i64.wrap (i64.wrap (i64.wrap ((if a0.aa<a1.aa then a1.aa else a0.aa)-a0.aa)+a0.ah)-1)).tdiv a0.ah)-r4)+i64.wrap (a1.ah.tdiv r1))-1)).tdiv (i64.wrap (a1.ah.tdiv r1)))*i64.wrap (a1.ah.tdiv r1))))).tdiv (i64.wrap (a1.ah.tdiv r1)))*i64.wrap (a1.ah.tdiv r1)))*a0.ah))) (i64.wrap (i64.wrap (a1.ah.tdiv r1)*a0.ah)))else wC else wC else bif wF (i64.wrap ((i64.wrap ((if a1.af<a0.af then a1.af else a0.af)-a0.aa)).tdiv a0.ah)<r4)then O (gQ)else if¬i64.wrap (a1.ah.tdiv r1)=(0:Int)then bif wF (r4=i64.wrap (r4+i64.wrap (i64.wrap ((i64.wrap (i64.wrap ((i64.wrap ((if a1.af<a0.af then a1.af else a0.af)-a0.aa)).tdiv a0.ah)-r4)).tdiv (i64.wrap (a1.ah.tdiv r1)))*i64.wrap (a1.ah.tdiv r1))))then O (fT (i64.wrap (a0.aa+i64.wrap (r4*a0.ah))))else O (aD.mk (i64.wrap (a0.aa+i64.wrap (r4*a0.ah))) (i64.wrap (a0.aa+i64.wrap (i64.wrap (r4+i64.wrap (i64.wrap ((i64.wrap (i64.wrap ((i64.wrap ((if a1.af<a0.af then a1.af else a0.af)-a0.aa)).tdiv a0.ah)-r4)).tdiv (i64.wrap (a1.ah.tdiv r1)))*i64.wrap (a1.ah.tdiv r1)))*a0.ah))) (i64.wrap (i64.wrap (a1.ah.tdiv r1)*a0.ah)))else wC else wC else wC else wC else wC else wC else wC else wC else if¬a0.ah=(0:Int)then if¬a0.ah=(0:Int)then bif wF (0<i64.wrap ((i64.wrap (i64.wrap (i64.wrap ((if a0.aa<a1.aa then a1.aa else a0.aa)-a0.aa)+a0.ah)-1)).tdiv a0.ah))then if¬i64.wrap (a1.ah.tdiv r1)=(0:Int)then bif wF (i64.wrap ((i64.wrap ((if a1.af<a0.af then a1.af else a0.af)-a0.aa)).tdiv a0.ah)<i64.wrap (0+i64.wrap (i64.wrap ((i64.wrap (i64.wrap (i64.wrap (i64.wrap ((i64.wrap (i64.wrap (i64.wrap ((if a0.aa<a1.aa then a1.aa else a0.aa)-a0.aa)+a0.ah)-1)).tdiv a0.ah)-0)+i64.wrap (a1.ah.tdiv r1))-1)).tdiv (i64.wrap (a1.ah.tdiv r1)))*i64.wrap (a1.ah.tdiv r1))))then O (gQ)else if¬i64.wrap (a1.ah.tdiv r1)=(0:Int)then bif wF (i64.wrap (0+i64.wrap (i64.wrap ((i64.wrap (i64.wrap (i64.wrap (i64.wrap ((i64.wrap (i64.wrap (i64.wrap ((if a0.aa<a1.aa then a1.aa else a0.aa)-a0.aa)+a0.ah)-1)).tdiv a0.ah)-0)+i64.wrap (a1.ah.tdiv r1))-1)).tdiv (i64.wrap (a1.ah.tdiv r1)))*i64.wrap (a1.ah.tdiv r1)))=i64.wrap (i64.wrap (0+i64.wrap (i64.wrap ((i64.wrap (i64.wrap (i64.wrap (i64.wrap ((i64.wrap (i64.wrap (i64.wrap ((if a0.aa<a1.aa then a1.aa else a0.aa)-a0.aa)+a0.ah)-1)).tdiv a0.ah)-0)+i64.wrap (a1.ah.tdiv r1))-1)).tdiv (i64.wrap (a1.ah.tdiv r1)))*i64.wrap (a1.ah.tdiv r1)))+i64.wrap (i64.wrap ((i64.wrap (i64.wrap ((i64.wrap ((if a1.af<a0.af then a1.af else a0.af)-a0.aa)).tdiv a0.ah)-i64.wrap (0+i64.wrap (i64.wrap ((i64.wrap (i64.wrap (i64.wrap (i64.wrap ((i64.wrap (i64.wrap (i64.wrap ((if a0.aa<a1.aa then a1.aa else a0.aa)-a0.aa)+a0.ah)-1)).tdiv a0.ah)-0)+i64.wrap (a1.ah.tdiv r1))-1)).tdiv (i64.wrap (a1.ah.tdiv r1)))*i64.wrap (a1.ah.tdiv r1))))).tdiv (i64.wrap (a1.ah.tdiv r1)))*i64.wrap (a1.ah.tdiv r1))))then O (fT (i64.wrap (a0.aa+i64.wrap (i64.wrap (0+i64.wrap (i64.wrap ((i64.wrap (i64.wrap (i64.wrap (i64.wrap ((i64.wrap (i64.wrap (i64.wrap ((if a0.aa<a1.aa then a1.aa else a0.aa)-a0.aa)+a0.ah)-1)).tdiv a0.ah)-0)+i64.wrap (a1.ah.tdiv r1))-1)).tdiv (i64.wrap (a1.ah.tdiv r1)))*i64.wrap (a1.ah.tdiv r1)))*a0.ah))))else O (aD.mk (i64.wrap (a0.aa+i64.wrap (i64.wrap (0+i64.wrap (i64.wrap ((i64.wrap (i64.wrap (i64.wrap (i64.wrap ((i64.wrap (i64.wrap (i64.wrap ((if a0.aa<a1.aa then a1.aa else a0.aa)-a0.aa)+a0.ah)-1)).tdiv a0.ah)-0)+i64.wrap (a1.ah.tdiv r1))-1)).tdiv (i64.wrap (a1.ah.tdiv r1)))*i64.wrap (a1.ah.tdiv r1)))*a0.ah))) (i64.wrap (a0.aa+i64.wrap (i64.wrap (i64.wrap (0+i64.wrap (i64.wrap ((i64.wrap (i64.wrap (i64.wrap (i64.wrap ((i64.wrap (i64.wrap (i64.wrap ((if a0.aa<a1.aa then a1.aa else a0.aa)-a0.aa)+a0.ah)-1)).tdiv a0.ah)-0)+i64.wrap (a1.ah.tdiv r1))-1)).tdiv (i64.wrap (a1.ah.tdiv r1)))*i64.wrap (a1.ah.tdiv r1)))+i64.wrap (i64.wrap ((i64.wrap (i64.wrap ((i64.wrap ((if a1.af<a0.af then a1.af else a0.af)-a0.aa)).tdiv a0.ah)-i64.wrap (0+i64.wrap (i64.wrap ((i64.wrap (i64.wrap (i64.wrap (i64.wrap ((i64.wrap (i64.wrap (i64.wrap ((if a0.aa<a1.aa then a1.aa else a0.aa)-a0.aa)+a0.ah)-1)).tdiv a0.ah)-0)+i64.wrap (a1.ah.tdiv r1))-1)).tdiv (i64.wrap (a1.ah.tdiv r1)))*i64.wrap (a1.ah.tdiv r1))))).tdiv (i64.wrap (a1.ah.tdiv r1)))*i64.wrap (a1.ah.tdiv r1)))*a0.ah))) (i64.wrap (i64.wrap (a1.ah.tdiv r1)*a0.ah)))else wC else wC else bif wF (i64.wrap ((i64.wrap ((if a1.af<a0.af then a1.af else a0.af)-a0.aa)).tdiv a0.ah)<0)then O (gQ)else if¬i64.wrap (a1.ah.tdiv r1)=(0:Int)then bif wF (0=i64.wrap (0+i64.wrap (i64.wrap ((i64.wrap (i64.wrap ((i64.wrap ((if a1.af<a0.af then a1.af else a0.af)-a0.aa)).tdiv a0.ah)-0)).tdiv (i64.wrap (a1.ah.tdiv r1)))*i64.wrap (a1.ah.tdiv r1))))then O (fT (i64.wrap (a0.aa+i64.wrap (0*a0.ah))))else O (aD.mk (i64.wrap (a0.aa+i64.wrap (0*a0.ah))) (i64.wrap (a0.aa+i64.wrap (i64.wrap (0+i64.wrap (i64.wrap ((i64.wrap (i64.wrap ((i64.wrap ((if a1.af<a0.af then a1.af else a0.af)-a0.aa)).tdiv a0.ah)-0)).tdiv (i64.wrap (a1.ah.tdiv r1)))*i64.wrap (a1.ah.tdiv r1)))*a0.ah))) (i64.wrap (i64.wrap (a1.ah.tdiv r1)*a0.ah)))else wC else wC else wC else wC
def ai8:aI->aI:=eL wG 316 wD (lc (qg 34) (lc (qg 34) ln)) d316 (fun g=>abm g.1 g.2.1)
theorem abG:EO ai8:=fun h=>kL (F:=alH) (an:=(.two .no (.two .no (.two .no (.two (.two (.rb [] 41) .no) .no))))) (l:=[(.skip,(.rb [] 41))]) func316 (abd (abl (Aq (iU (pR aK))))) (az aph aC) h
theorem S8:EP ai8:=fun h=>kP h
abbrev tf:Type:=aD
def d280:Td 0 tf:= .c [] [4] (.r 0 1 (ec 4 (qp 0 0) en) (sb 0 34 (lg 34) sn) (fun z=>z.2.1) (fun x=>(((),()),(x,()))) fun _=>rfl)
def aiD:=(lc (qg 34) (lc (qg 34) ln))
def XX(M:aD->aD->Option tf):aI->aI:=eL wG 280 wD aiD d280 (fun g=>M g.1 g.2.1)
theorem DP{M:aD->aD->Option tf}{F:aI}{f:Nat}(h:aV F f):aV (XX M F) f:=fW h (fun _=>by kernel_rfl)
def aag(M:aD->aD->Option tf):Prop:=HL wG 280 aiD d280 (fun g=>M g.1 g.2.1)
theorem PZ{M:aD->aD->Option tf}(hM:aag M){F:aI}(h:bf wG F):bf wG (XX M F):=gx (sc:=Ay) dS hM ⟨_,func280,by kernel_rfl,by kernel_rfl⟩ (fun _=>by kernel_rfl) (fun _=>by kernel_rfl) h
def acp(M280:aD->aD->Option tf):aI:=(ai8 (XX M280 (IL (Zg (C8 cQ)))))
theorem Yf{M280}(h280:aag M280):bf wG (acp M280):=(abG (PZ h280 (iU (GL (ic aK)))))
def agw(M280:aD->aD->Option tf):An:=(.two .no (.two (.two (.rb [147] 5) .no) .no))
theorem apy{M280}:∀f∈([147]:List Nat),aV (acp M280) f:=(az (S8 (DP (jM (wJ (dW aZ))))) aC)
theorem aql(M280:aD->aD->Option tf):eW wG (acp M280) 0 300 280 (agw M280):=bV (l:=[(.skip,(.rb [147] 5))]) func280 (bB (by kernel_rfl)) (by kernel_rfl) (az apy aC)
def uh(M280:aD->aD->Option tf)(a0:aD)(a1:aD):Option tf:=
 match bif dR a0 then O (wE)else O (dR a1)with|wC=>wC|O r1=>bif r1 then O (gQ)else bif wF (a0.ah=0)then match SQ a1 a0.aa with|wC=>wC|O r2=>bif r2 then O (a0)else O (gQ)else bif wF (a1.ah=0)then match M280 a1 a0 with|wC=>wC|O r3=>O (r3)else match abm a0 a1 with|wC=>wC|O r4=>O (r4)
theorem auz(M280:aD->aD->Option tf)(a0:aD)(a1:aD):bN wG (acp M280) 300 (agw M280) 280 (aiD.c (a0,a1,())) [] 0 d280.rd=uh M280 a0 a1:=by kernel_rfl
def wU:Nat->(aD->aD->Option tf)
 |0=>(fun _ _=>wC)
 |n+1=>(uh (wU n))
def Wo(n:Nat):aD->aD->Option tf:=(wU n)
theorem IU:∀n,aag (Wo n)
 |0=>fun _ _ h=>(by cases h)
 |n+1=>by
  have ih:=IU n
  have i280:=ih
  exact(dH (Yf i280) (aql (Wo n)) (fun _=>by kernel_rfl) (fun _=>by kernel_rfl) fun g=>auz (Wo n) g.1 g.2.1)
def acE:aD->aD->Option tf:=fun a0 a1=>lim (fun n=>Wo n a0 a1)
theorem Y1:aag acE:=fun g b h=>by
 obtain⟨n,hn⟩:=cD (show lim (fun n=>Wo n g.1 g.2.1)=O b from h)
 exact(IU n) g b hn
def ahV(F:aI):aI:=XX acE F
theorem acw{F:aI}(h:bf wG F):bf wG (ahV F):=PZ Y1 h
theorem RC{F:aI}{f:Nat}(h:aV F f):aV (ahV F) f:=DP h
def aml:aI:=(ahV (acs (aa0 (ahr (C8 cQ)))))
abbrev amk:Type:=aD
def d234:Td 0 amk:= .c [] [6] (.r 0 1 (ec 6 (qp 0 0) en) (sb 0 34 (lg 34) sn) (fun z=>z.2.1) (fun x=>(((),()),(x,()))) fun _=>rfl)
theorem apd:∀f∈([176]:List Nat),aV (aml) f:=(az (RC (Eh (EC (RS (dW aZ))))) aC)
def VB(a0:Int)(a1:aD)(a2:aD):Option amk:=
 match acE a1 a2 with|wC=>wC|O r1=>match match uX a1 with|wC=>wC|O r2=>bif wF (1<r2)then O (wE)else match uX a2 with|wC=>wC|O r3=>bif wF (1<r3)then O (wE)else O (bif wF (a1.aa=a2.aa)then wD else wE)with|wC=>wC|O r4=>match MH a1 with|wC=>wC|O r5=>match MH a2 with|wC=>wC|O r6=>bif wF (a0=13)then match nN r4 (match dR r1 with|wE=>wD|wD=>wE)with|wC=>wC|O r7=>O (r7)else bif wF (a0=14)then match nN (match dR r1 with|wE=>wD|wD=>wE) r4 with|wC=>wC|O r8=>O (r8)else bif wF (a0=15)then match nN (wF (a2.aa<=a1.af)) (wF (a1.aa<a2.af))with|wC=>wC|O r9=>O (r9)else bif wF (a0=16)then match nN (wF (a2.aa<a1.af)) (wF (a1.aa<=a2.af))with|wC=>wC|O r10=>O (r10)else bif wF (a0=17)then match nN (wF (a1.aa<=a2.af)) (wF (a2.aa<a1.af))with|wC=>wC|O r11=>O (r11)else bif wF (a0=18)then match nN (wF (a1.aa<a2.af)) (wF (a2.aa<=a1.af))with|wC=>wC|O r12=>O (r12)else bif wF (a0=19)then bif r5.fst then bif r5.snd then match nN wE r6.snd with|wC=>wC|O r13=>O (r13)else match nN wE wD with|wC=>wC|O r14=>O (r14)else bif r5.snd then match nN r6.fst r6.snd with|wC=>wC|O r15=>O (r15)else match nN r6.fst wD with|wC=>wC|O r16=>O (r16)else bif r5.fst then bif r5.snd then match nN r6.fst wE with|wC=>wC|O r17=>O (r17)else match nN r6.fst r6.snd with|wC=>wC|O r18=>O (r18)else bif r5.snd then match nN wD wE with|wC=>wC|O r19=>O (r19)else match nN wD r6.snd with|wC=>wC|O r20=>O (r20)
def akQ:aI->aI:=eL wG 234 wD (lc (qi .i64) (lc (qg 34) (lc (qg 34) ln))) d234 (fun g=>VB g.1 g.2.1 g.2.2.1)
theorem Yh:EO akQ:=fun h=>kL (F:=aml) (an:=(.two .no (.two .no (.two (.rb [176] 8) .no)))) (l:=[(.skip,(.rb [176] 8))]) func234 (acw (Qr (Fw (uw (ic aK))))) (az apd aC) h
theorem pY:EP akQ:=fun h=>kP h
def apB:aI:=(akQ (agP (akm (aid (UR (Sg (IL (C8 (WX (Ks cQ))))))))))
abbrev aoD:Type:=aD×Int
def d155:Td 0 aoD:= .c [] [6,7] (.r 0 1 (ec 6 (qp 0 0) (ec 7 (qi .i64) en)) (sb 0 34 (lg 34) sn) (fun z=>(z.2.1,z.1.2.1)) (fun x=>(((),x.2,()),(x.1,()))) fun _=>rfl)
theorem T5:∀f∈([144,145,147,231]:List Nat),aV (apB) f:=(az (pY (qj (qh (qu (l5 (jQ (jM (dW (jP (eN aZ)))))))))) (az (pY (qj (qh (qu (l5 (jQ (jM (dW (jP (eN aZ)))))))))) (az (pY (qj (qh (qu (l5 (jQ (jM (dW (jP (eN aZ)))))))))) (az (pY (qj (qh (qu (l5 (jQ (jM (dW (jP (eN aZ)))))))))) aC))))
def tN(a0:Int)(a1:aD)(a2:aD):Option aoD:=
 match match rE a1 with|wC=>wC|O r1=>bif bif r1 then wD else wE then O (wE)else match rE a2 with|wC=>wC|O r2=>bif bif r2 then wD else wE then O (wE)else O (bif uK a0 then wD else wE)with|wC=>wC|O r3=>bif r3 then O ((aD.mk (0) (0) (0),1))else match bif dR a1 then O (wE)else O (dR a2)with|wC=>wC|O r4=>bif r4 then O ((gQ,0))else bif wF (a0=9)then match bif bif iR (i64.wrap (a1.aa+i64.wrap (0-a2.af)))then wD else wE then O (wE)else O (bif iR (i64.wrap (a1.af+i64.wrap (0-a2.aa)))then wD else wE)with|wC=>wC|O r5=>bif r5 then O ((aD.mk (0) (0) (0),3))else match Al [a1.ah,a2.ah]with|wC=>wC|O r6=>match lS (i64.wrap (a1.aa+i64.wrap (0-a2.af))) (i64.wrap (a1.af+i64.wrap (0-a2.aa))) r6 with|wC=>wC|O r7=>O ((r7,0))else bif wF (a0=8)then match bif bif iR (i64.wrap (a1.aa+a2.aa))then wD else wE then O (wE)else O (bif iR (i64.wrap (a1.af+a2.af))then wD else wE)with|wC=>wC|O r8=>bif r8 then O ((aD.mk (0) (0) (0),3))else match Al [a1.ah,a2.ah]with|wC=>wC|O r9=>match lS (i64.wrap (a1.aa+a2.aa)) (i64.wrap (a1.af+a2.af)) r9 with|wC=>wC|O r10=>O ((r10,0))else bif wF (a0=10)then match S5 a1 a2 with|wC=>wC|O r11=>O (r11)else bif wF (a0=11)then match uH a0 a1 a2 with|wC=>wC|O r12=>O ((r12,0))else bif wF (a0=12)then match uH a0 a1 a2 with|wC=>wC|O r13=>O ((r13,0))else bif wF (a0=21)then match uH a0 a1 a2 with|wC=>wC|O r14=>O ((r14,0))else bif wF (a0=22)then match uH a0 a1 a2 with|wC=>wC|O r15=>O ((r15,0))else match VB a0 a1 a2 with|wC=>wC|O r16=>O ((r16,0))
def ajq:aI->aI:=eL wG 155 wD (lc (qi .i64) (lc (qg 34) (lc (qg 34) ln))) d155 (fun g=>tN g.1 g.2.1 g.2.2.1)
theorem Fv:EO ajq:=fun h=>kL (F:=apB) (an:=(.two .no (.two (.two (.rb [144,145,147,231] 22) .no) (.two (.two (.rb [144,145,147,231] 29) .no) (.two (.two .no (.two (.two (.two .no (.two (.two .no (.two (.two (.rb [144,145,147,231] 69) .no) .no)) .no)) .no) .no)) .no))))) (l:=[(.skip,(.rb [144,145,147,231] 22)),(.skip,(.rb [144,145,147,231] 29)),(.skip,(.rb [144,145,147,231] 69))]) func155 (Yh (abz (adN (Y7 (Aq (uJ (iU (ic (AL (jK aK)))))))))) (az T5 (az T5 (az T5 aC))) h
abbrev pq:Type:=aD×aj
def d150:Td 2 pq:= .c [] [4] (.r 2 3 (ec 4 (qp 2 0) en) (sb 0 128 (lg 128) (sb 1 215 (lc (qf 150 (lc (qp 0 0) (lc (qp 1 0) ln))) ln) (sb 2 34 (lg 34) sn))) (fun z=>(z.2.2.2.1,z.2.1)) (fun x=>(((),()),(x.2,(((),(),()),()),x.1,()))) fun _=>rfl)
def akj:=(lc (qg 137) (lc (qp 0 0) (lc (qp 1 0) ln)))
def aka:=(sb 0 128 (lg 128) (sb 1 215 (lc (qf 150 (lc (qp 0 0) (lc (qp 1 0) ln))) ln) sn))
def agY(M:aq->aj->Option pq):aI->aI:=eY wG 150 2 akj aka d150 (fun g=>M g.1.1 g.2.1)
def acJ(M:aq->aj->Option pq):Prop:=HY wG 150 2 akj aka d150 (fun g=>M g.1.1 g.2.1)
theorem Qq{M:aq->aj->Option pq}(hM:acJ M){F:aI}(h:bf wG F):bf wG (agY M F):=Jn hM ⟨_,func150,by kernel_rfl,by kernel_rfl⟩ (fun _=>by kernel_rfl) h
def ajv(M150:aq->aj->Option pq):aI:=(ajq (aod (anY (aqF (ZL (agY M150 (e92 (e81 (e80 cQ)))))))))
theorem acQ{M150}(h150:acJ M150):bf wG (ajv M150):=(Fv (acW (XS (FU (Gw (Qq h150 (NJ (NC (Gm aK)))))))))
structure oC where
 t90:List aq
 (t91 t92:Int)
 b0:aj
 (b2 b3 b4:aD)
def Ls:Td 2 oC:= .c [] [2,4,7,9,90,91,92] (.r 2 5 (ec 2 (qp 1 0) (ec 4 (qp 2 0) (ec 7 (qp 3 0) (ec 9 (qp 4 0) (ec 90 (ql 137) (ec 91 (qi .i64) (ec 92 (qi .i64) en))))))) (sb 0 128 (lg 128) (sb 1 215 (lc (qf 150 (lc (qp 0 0) (lc (qp 1 0) ln))) ln) (sb 2 34 (lg 34) (sb 3 34 (lg 34) (sb 4 34 (lg 34) sn))))) (fun z=>⟨z.1.2.2.2.2.1,z.1.2.2.2.2.2.1,z.1.2.2.2.2.2.2.1,z.2.1,z.2.2.2.1,z.2.2.2.2.1,z.2.2.2.2.2.1⟩) (fun x=>(((),(),(),(),x.t90,x.t91,x.t92,()),(x.b0,(((),(),()),()),x.b2,x.b3,x.b4,()))) fun _=>rfl)
def GO(M150:aq->aj->Option pq)(p:oC):Option (Option oC):=
 bif wF (p.t92<p.t91)then if(0:Int)<=p.t92/\p.t92<(↑p.t90.length:Int)then match XO p.b3 p.t92 with|wC=>wC|O r1=>bif r1 then match M150 (aq.mk p.t90[p.t92.toNat]!.aW p.t90[p.t92.toNat]!.fN p.t90[p.t92.toNat]!.ak) p.b0 with|wC=>wC|O r2=>match ue p.b4 r2.fst with|wC=>wC|O r3=>O (O (oC.mk p.t90 p.t91 (i64.wrap (p.t92+1)) r2.snd p.b2 p.b3 r3))else O (O (oC.mk p.t90 p.t91 (i64.wrap (p.t92+1)) p.b0 p.b2 p.b3 p.b4))else wC else O (wC)
def Hg(M150:aq->aj->Option pq):oC->Option oC:=bw (GO M150)
def afq(M150:aq->aj->Option pq):An:=(.two .no (.two (.two .no (.two .no (.two .no (.two .no (.two .no (.two .no (.two .no (.two .no (.two (.two .no (.two .no (.two (.two .no (Ls.lp (Hg M150) .no)) .no))) .no))))))))) .no))
theorem apV(M150:aq->aj->Option pq):eW wG (ajv M150) 2 300 150 (afq M150):=bV (l:=[(aU f150 0,(Ls.lp (Hg M150) .no))]) func150 (bB (by kernel_rfl)) (by kernel_rfl) (az (aO Ls) aC)
def Z4(M150:aq->aj->Option pq)(a0:aq)(b0:aj):Option pq:=
 bif wF (a0.aW=0)then O ((Qd a0.fN,b0))else bif wF (a0.aW=24)then if(0:Int)<=a0.fN/\a0.fN<(↑b0.ag.length:Int)then O ((b0.ag[a0.fN.toNat]!,b0))else wC else bif wF (a0.aW=23)then if(0:Int)<=(0:Int)/\(0:Int)<(↑a0.ak.length:Int)then match M150 (aq.mk a0.ak[0]!.aW a0.ak[0]!.fN a0.ak[0]!.ak) b0 with|wC=>wC|O r4=>match Mc r4.fst with|wC=>wC|O r5=>bif bif r5.fst then wD else wE then if(0:Int)<=(1:Int)/\(1:Int)<(↑a0.ak.length:Int)then match M150 (aq.mk a0.ak[1]!.aW a0.ak[1]!.fN a0.ak[1]!.ak) r4.snd with|wC=>wC|O r6=>O (r6)else wC else bif bif r5.snd then wD else wE then if(0:Int)<=(2:Int)/\(2:Int)<(↑a0.ak.length:Int)then match M150 (aq.mk a0.ak[2]!.aW a0.ak[2]!.fN a0.ak[2]!.ak) r4.snd with|wC=>wC|O r7=>O (r7)else wC else if(0:Int)<=(1:Int)/\(1:Int)<(↑a0.ak.length:Int)then match M150 (aq.mk a0.ak[1]!.aW a0.ak[1]!.fN a0.ak[1]!.ak) r4.snd with|wC=>wC|O r8=>if(0:Int)<=(2:Int)/\(2:Int)<(↑a0.ak.length:Int)then match M150 (aq.mk a0.ak[2]!.aW a0.ak[2]!.fN a0.ak[2]!.ak) r8.snd with|wC=>wC|O r9=>match ue r8.fst r9.fst with|wC=>wC|O r10=>O ((r10,r9.snd))else wC else wC else wC else bif wF (a0.aW=25)then if(0:Int)<=(0:Int)/\(0:Int)<(↑a0.ak.length:Int)then match M150 (aq.mk a0.ak[0]!.aW a0.ak[0]!.fN a0.ak[0]!.ak) b0 with|wC=>wC|O r11=>match Zy r11.fst (0) (i64.wrap ((↑a0.ak.length:Int)-2))with|wC=>wC|O r12=>if(0:Int)<=(1:Int)/\(1:Int)<=(↑a0.ak.length:Int)then match Hg M150 (oC.mk (z6 1 a0.ak) (↑(z6 1 a0.ak).length:Int) (0) r11.snd (aD.mk (0) (0) (0)) r12.fst ad0)with|wC=>wC|O r13=>bif wF (r13.t92<r13.t91)then if(0:Int)<=r13.t92/\r13.t92<(↑r13.t90.length:Int)then match XO r13.b3 r13.t92 with|wC=>wC|O r14=>bif r14 then match M150 (aq.mk r13.t90[r13.t92.toNat]!.aW r13.t90[r13.t92.toNat]!.fN r13.t90[r13.t92.toNat]!.ak) r13.b0 with|wC=>wC|O r15=>match ue r13.b4 r15.fst with|wC=>wC|O r16=>wC else wC else wC else O ((r13.b4,r13.b0))else wC else wC else bif wF ((↑a0.ak.length:Int)=1)then if(0:Int)<=(0:Int)/\(0:Int)<(↑a0.ak.length:Int)then match M150 (aq.mk a0.ak[0]!.aW a0.ak[0]!.fN a0.ak[0]!.ak) b0 with|wC=>wC|O r17=>match abU a0.aW r17.fst with|wC=>wC|O r18=>O ((r18.fst,r17.snd))else wC else if(0:Int)<=(0:Int)/\(0:Int)<(↑a0.ak.length:Int)then match M150 (aq.mk a0.ak[0]!.aW a0.ak[0]!.fN a0.ak[0]!.ak) b0 with|wC=>wC|O r19=>if(0:Int)<=(1:Int)/\(1:Int)<(↑a0.ak.length:Int)then match M150 (aq.mk a0.ak[1]!.aW a0.ak[1]!.fN a0.ak[1]!.ak) r19.snd with|wC=>wC|O r20=>match tN a0.aW r19.fst r20.fst with|wC=>wC|O r21=>O ((r21.fst,r20.snd))else wC else wC
theorem at8(M150:aq->aj->Option pq)(a0:aq)(b0:aj):bN wG (ajv M150) 300 (afq M150) 150 (akj.c (a0,(),(),())) (aka.d (b0,(((),(),()),()),())) 2 d150.rd=Z4 M150 a0 b0:=by kernel_rfl
def agH:Nat->(aq->aj->Option pq)
 |0=>(fun _ _=>wC)
 |n+1=>(Z4 (agH n))
def Ms(n:Nat):aq->aj->Option pq:=(agH n)
theorem I6:∀n,acJ (Ms n)
 |0=>fun _ _ h=>(by cases h)
 |n+1=>by
  have ih:=I6 n
  have i150:=ih
  exact(Ow (acQ i150) (apV (Ms n)) (fun _=>by kernel_rfl) (fun _=>by kernel_rfl) (fun _=>by kernel_rfl) fun g=>at8 (Ms n) g.1.1 g.2.1)
def ad3:aq->aj->Option pq:=fun a0 b0=>lim (fun n=>Ms n a0 b0)
theorem aep:acJ ad3:=fun g b h=>by
 obtain⟨n,hn⟩:=cD (show lim (fun n=>Ms n g.1.1 g.2.1)=O b from h)
 exact(I6 n) g b hn
def auT(F:aI):aI:=agY ad3 F
theorem Y0{F:aI}(h:bf wG F):bf wG (auT F):=Qq aep h
abbrev E91:Type:=Int
def d91:Td 0 E91:= .c [] [2] (.r 0 0 (ec 2 (qi .i64) en) sn (fun z=>z.1.1) (fun x=>((x,()),(()))) fun _=>rfl)
def GY(a0:aD):Option E91:=
 match rE a0 with|wC=>wC|O r1=>bif bif r1 then wD else wE then O (0)else match uX a0 with|wC=>wC|O r2=>O (r2)
def e91:aI->aI:=eL wG 91 wD (lc (qg 34) ln) d91 (fun g=>GY g.1)
theorem Lw:EO e91:=fun h=>kL (an:= .no) func91 (uw (jK aK)) aC h
theorem Da:EP e91:=fun h=>kP h
def auF:aI:=cQ
abbrev ajZ:Type:=Int
def d174:Td 0 ajZ:= .c [] [4] (.r 0 0 (ec 4 (qi .i64) en) sn (fun z=>z.1.1) (fun x=>((x,()),(()))) fun _=>rfl)
def amz:=(lc (qi .i64) (lc (qi .i64) ln))
def afC:An:= .no
def jE(a0:Int)(a1:Int):ajZ:=
 bif wF (a1<a0)then a0 else a1
theorem atI(a0:Int)(a1:Int):bN wG (auF) 300 (afC) 174 (amz.c (a0,a1,())) [] 0 d174.rd=O (jE a0 a1):=by
 refine Eq.trans (b:=(
  bif wF (a1<a0)then O (a0)else O (a1):Option ajZ)) (by kernel_rfl) ?_
 simp only[jE,bZ,cu]
def RV:aI->aI:=eL wG 174 wD amz d174 (fun g=>O (jE g.1 g.2.1))
theorem Gl:EO RV:=fun h=>kL (an:=afC) func174 aK aC h (c:=fun g=>atI g.1 g.2.1)
def auc:aI:=cQ
abbrev ais:Type:=Int
def d175:Td 0 ais:= .c [] [4] (.r 0 0 (ec 4 (qi .i64) en) sn (fun z=>z.1.1) (fun x=>((x,()),(()))) fun _=>rfl)
def al2:=(lc (qi .i64) (lc (qi .i64) ln))
def afk:An:= .no
def iP(a0:Int)(a1:Int):ais:=
 bif wF (a0<a1)then a0 else a1
theorem as6(a0:Int)(a1:Int):bN wG (auc) 300 (afk) 175 (al2.c (a0,a1,())) [] 0 d175.rd=O (iP a0 a1):=by
 refine Eq.trans (b:=(
  bif wF (a0<a1)then O (a0)else O (a1):Option ais)) (by kernel_rfl) ?_
 simp only[iP,bZ,cu]
def ad6:aI->aI:=eL wG 175 wD al2 d175 (fun g=>O (iP g.1 g.2.1))
theorem Fo:EO ad6:=fun h=>kL (an:=afk) func175 aK aC h (c:=fun g=>as6 g.1 g.2.1)
abbrev IM:Type:=Int×Int×Int
def d90:Td 0 IM:= .c [] [2,3,4] (.r 0 0 (ec 2 (qi .i64) (ec 3 (qi .i64) (ec 4 (qi .i64) en))) sn (fun z=>(z.1.1,z.1.2.1,z.1.2.2.1)) (fun x=>((x.1,x.2.1,x.2.2,()),(()))) fun _=>rfl)
def A90:=(lc (ql 166) ln)
def x90(M:(List GStep)->Option IM):aI->aI:=eL wG 90 wD A90 d90 (fun g=>M g.1)
theorem UB{M:(List GStep)->Option IM}{F:aI}{f:Nat}(h:aV F f):aV (x90 M F) f:=fW h (fun _=>by kernel_rfl)
def H90(M:(List GStep)->Option IM):Prop:=HL wG 90 A90 d90 (fun g=>M g.1)
theorem Wh{M:(List GStep)->Option IM}(hM:H90 M){F:aI}(h:bf wG F):bf wG (x90 M F):=gx (sc:=Ay) dS hM ⟨_,func90,by kernel_rfl,by kernel_rfl⟩ (fun _=>by kernel_rfl) (fun _=>by kernel_rfl) h
def F90(M90:(List GStep)->Option IM):aI:=(ad6 (RV (x90 M90 cQ)))
theorem aku{M90}(h90:H90 M90):bf wG (F90 M90):=(Fo (Gl (Wh h90 aK)))
structure rf where
 t0:List GStep
 (t5 t6 t7 t8:Int)
def WR:Td 0 rf:= .c [] [0,5,6,7,8] (.r 0 0 (ec 0 (ql 166) (ec 5 (qi .i64) (ec 6 (qi .i64) (ec 7 (qi .i64) (ec 8 (qi .i64) en))))) sn (fun z=>⟨z.1.1,z.1.2.1,z.1.2.2.1,z.1.2.2.2.1,z.1.2.2.2.2.1⟩) (fun x=>((x.t0,x.t5,x.t6,x.t7,x.t8,()),(()))) fun _=>rfl)
def PK(M90:(List GStep)->Option IM)(p:rf):Option (Option rf):=
 bif wF (p.t8<(↑p.t0.length:Int))then if(0:Int)<=p.t8/\p.t8<(↑p.t0.length:Int)then match M90 p.t0[p.t8.toNat]!.aG with|wC=>wC|O r1=>match M90 p.t0[p.t8.toNat]!.aJ with|wC=>wC|O r2=>bif wF (p.t0[p.t8.toNat]!.bH=4)then bif wF (p.t0[p.t8.toNat]!.bH=1)then O (O (rf.mk p.t0 (iP (i64.wrap (p.t5+i64.wrap (1+i64.wrap (p.t0[p.t8.toNat]!.fN*i64.wrap (1+r1.fst))))) (4097)) (iP (i64.wrap (p.t6+1)) (9)) (iP (i64.wrap (p.t7+i64.wrap (p.t0[p.t8.toNat]!.fN*i64.wrap (p.t0[p.t8.toNat]!.aL+r1.snd.snd)))) (67108865)) (i64.wrap (p.t8+1))))else O (O (rf.mk p.t0 (iP (i64.wrap (p.t5+i64.wrap (1+i64.wrap (p.t0[p.t8.toNat]!.fN*i64.wrap (1+r1.fst))))) (4097)) (iP (i64.wrap (p.t6+i64.wrap (p.t0[p.t8.toNat]!.fN*r1.snd.fst))) (9)) (iP (i64.wrap (p.t7+i64.wrap (p.t0[p.t8.toNat]!.fN*i64.wrap (p.t0[p.t8.toNat]!.aL+r1.snd.snd)))) (67108865)) (i64.wrap (p.t8+1))))else bif wF (p.t0[p.t8.toNat]!.bH=1)then O (O (rf.mk p.t0 (iP (i64.wrap (p.t5+i64.wrap (1+jE r1.fst r2.fst))) (4097)) (iP (i64.wrap (p.t6+1)) (9)) (iP (i64.wrap (p.t7+i64.wrap (p.t0[p.t8.toNat]!.aL+jE r1.snd.snd r2.snd.snd))) (67108865)) (i64.wrap (p.t8+1))))else O (O (rf.mk p.t0 (iP (i64.wrap (p.t5+i64.wrap (1+jE r1.fst r2.fst))) (4097)) (iP (i64.wrap (p.t6+jE r1.snd.fst r2.snd.fst)) (9)) (iP (i64.wrap (p.t7+i64.wrap (p.t0[p.t8.toNat]!.aL+jE r1.snd.snd r2.snd.snd))) (67108865)) (i64.wrap (p.t8+1))))else wC else O (wC)
def Pd(M90:(List GStep)->Option IM):rf->Option rf:=bw (PK M90)
def aqb(M90:(List GStep)->Option IM):An:=(.two .no (.two .no (.two (.two .no (WR.lp (Pd M90) .no)) .no)))
theorem asw(M90:(List GStep)->Option IM):eW wG (F90 M90) 0 300 90 (aqb M90):=bV (l:=[(aU f90 0,(WR.lp (Pd M90) .no))]) func90 (bB (by kernel_rfl)) (by kernel_rfl) (az (aO WR) aC)
def s90(M90:(List GStep)->Option IM)(a0:List GStep):Option IM:=
 match Pd M90 (rf.mk a0 (0) (0) (0) (0))with|wC=>wC|O r3=>bif wF (r3.t8<(↑r3.t0.length:Int))then if(0:Int)<=r3.t8/\r3.t8<(↑r3.t0.length:Int)then match M90 r3.t0[r3.t8.toNat]!.aG with|wC=>wC|O r4=>match M90 r3.t0[r3.t8.toNat]!.aJ with|wC=>wC|O r5=>bif wF (r3.t0[r3.t8.toNat]!.bH=4)then bif wF (r3.t0[r3.t8.toNat]!.bH=1)then wC else wC else bif wF (r3.t0[r3.t8.toNat]!.bH=1)then wC else wC else wC else O ((r3.t5,r3.t6,r3.t7))
theorem c90(M90:(List GStep)->Option IM)(a0:List GStep):bN wG (F90 M90) 300 (aqb M90) 90 (A90.c (a0,())) [] 0 d90.rd=s90 M90 a0:=by kernel_rfl
def aqQ:Nat->((List GStep)->Option IM)
 |0=>(fun _=>wC)
 |n+1=>(s90 (aqQ n))
def m90(n:Nat):(List GStep)->Option IM:=(aqQ n)
theorem QW:∀n,H90 (m90 n)
 |0=>fun _ _ h=>(by cases h)
 |n+1=>by
  have ih:=QW n
  have i90:=ih
  exact(dH (aku i90) (asw (m90 n)) (fun _=>by kernel_rfl) (fun _=>by kernel_rfl) fun g=>c90 (m90 n) g.1)
def r90:(List GStep)->Option IM:=fun a0=>lim (fun n=>m90 n a0)
theorem akY:H90 r90:=fun g b h=>by
 obtain⟨n,hn⟩:=cD (show lim (fun n=>m90 n g.1)=O b from h)
 exact(QW n) g b hn
def e90(F:aI):aI:=x90 r90 F
theorem Ww{F:aI}(h:bf wG F):bf wG (e90 F):=Wh akY h
theorem KE{F:aI}{f:Nat}(h:aV F f):aV (e90 F) f:=UB h
abbrev oM:Type:=Int
def d216:Td 0 oM:= .c [] [2] (.r 0 0 (ec 2 (qi .i64) en) sn (fun z=>z.1.1) (fun x=>((x,()),(()))) fun _=>rfl)
def akl:=(lc (qg 137) ln)
def abf(M:aq->Option oM):aI->aI:=eL wG 216 wD akl d216 (fun g=>M g.1)
theorem Su{M:aq->Option oM}{F:aI}{f:Nat}(h:aV F f):aV (abf M F) f:=fW h (fun _=>by kernel_rfl)
def Zq(M:aq->Option oM):Prop:=HL wG 216 akl d216 (fun g=>M g.1)
theorem Qh{M:aq->Option oM}(hM:Zq M){F:aI}(h:bf wG F):bf wG (abf M F):=gx (sc:=Ay) dS hM ⟨_,func216,by kernel_rfl,by kernel_rfl⟩ (fun _=>by kernel_rfl) (fun _=>by kernel_rfl) h
def ajw(M216:aq->Option oM):aI:=(abf M216 cQ)
theorem adl{M216}(h216:Zq M216):bf wG (ajw M216):=(Qh h216 aK)
structure rR where
 (t3 t4:Int)
 b0:aq
def Mz:Td 0 rR:= .c [] [1,3,4] (.r 0 1 (ec 1 (qp 0 0) (ec 3 (qi .i64) (ec 4 (qi .i64) en))) (sb 0 137 (lg 137) sn) (fun z=>⟨z.1.2.1,z.1.2.2.1,z.2.1⟩) (fun x=>(((),x.t3,x.t4,()),(x.b0,()))) fun _=>rfl)
def HQ(M216:aq->Option oM)(p:rR):Option (Option rR):=
 bif wF (p.t4<(↑p.b0.ak.length:Int))then if(0:Int)<=p.t4/\p.t4<(↑p.b0.ak.length:Int)then match M216 (aq.mk p.b0.ak[p.t4.toNat]!.aW p.b0.ak[p.t4.toNat]!.fN p.b0.ak[p.t4.toNat]!.ak)with|wC=>wC|O r1=>O (O (rR.mk (i64.wrap (p.t3+r1)) (i64.wrap (p.t4+1)) (aq.mk p.b0.aW p.b0.fN p.b0.ak)))else wC else O (wC)
def FT(M216:aq->Option oM):rR->Option rR:=bw (HQ M216)
def agC(M216:aq->Option oM):An:=(.two .no (.two .no (.two (.two .no (Mz.lp (FT M216) .no)) .no)))
theorem aoF(M216:aq->Option oM):eW wG (ajw M216) 0 300 216 (agC M216):=bV (l:=[(aU f216 0,(Mz.lp (FT M216) .no))]) func216 (bB (by kernel_rfl)) (by kernel_rfl) (az (aO Mz) aC)
def abL(M216:aq->Option oM)(a0:aq):Option oM:=
 match FT M216 (rR.mk (1) (0) (aq.mk a0.aW a0.fN a0.ak))with|wC=>wC|O r2=>bif wF (r2.t4<(↑r2.b0.ak.length:Int))then if(0:Int)<=r2.t4/\r2.t4<(↑r2.b0.ak.length:Int)then match M216 (aq.mk r2.b0.ak[r2.t4.toNat]!.aW r2.b0.ak[r2.t4.toNat]!.fN r2.b0.ak[r2.t4.toNat]!.ak)with|wC=>wC|O r3=>wC else wC else O (r2.t3)
theorem ast(M216:aq->Option oM)(a0:aq):bN wG (ajw M216) 300 (agC M216) 216 (akl.c (a0,())) [] 0 d216.rd=abL M216 a0:=by kernel_rfl
def af2:Nat->(aq->Option oM)
 |0=>(fun _=>wC)
 |n+1=>(abL (af2 n))
def Mn(n:Nat):aq->Option oM:=(af2 n)
theorem J4:∀n,Zq (Mn n)
 |0=>fun _ _ h=>(by cases h)
 |n+1=>by
  have ih:=J4 n
  have i216:=ih
  exact(dH (adl i216) (aoF (Mn n)) (fun _=>by kernel_rfl) (fun _=>by kernel_rfl) fun g=>ast (Mn n) g.1)
def L8:aq->Option oM:=fun a0=>lim (fun n=>Mn n a0)
theorem aaL:Zq L8:=fun g b h=>by
 obtain⟨n,hn⟩:=cD (show lim (fun n=>Mn n g.1)=O b from h)
 exact(J4 n) g b hn
def adh(F:aI):aI:=abf L8 F
theorem OV{F:aI}(h:bf wG F):bf wG (adh F):=Qh aaL h
theorem DT{F:aI}{f:Nat}(h:aV F f):aV (adh F) f:=Su h
abbrev pn:Type:=Int
def d215:Td 0 pn:= .c [] [2] (.r 0 0 (ec 2 (qi .i64) en) sn (fun z=>z.1.1) (fun x=>((x,()),(()))) fun _=>rfl)
def ahn:=(lc (ql 166) ln)
def adX(M:(List GStep)->Option pn):aI->aI:=eL wG 215 wD ahn d215 (fun g=>M g.1)
theorem Rw{M:(List GStep)->Option pn}{F:aI}{f:Nat}(h:aV F f):aV (adX M F) f:=fW h (fun _=>by kernel_rfl)
def ab2(M:(List GStep)->Option pn):Prop:=HL wG 215 ahn d215 (fun g=>M g.1)
theorem N4{M:(List GStep)->Option pn}(hM:ab2 M){F:aI}(h:bf wG F):bf wG (adX M F):=gx (sc:=Ay) dS hM ⟨_,func215,by kernel_rfl,by kernel_rfl⟩ (fun _=>by kernel_rfl) (fun _=>by kernel_rfl) h
def ajh(M215:(List GStep)->Option pn):aI:=(adh (adX M215 cQ))
theorem XR{M215}(h215:ab2 M215):bf wG (ajh M215):=(OV (N4 h215 aK))
structure sK where
 t0:List GStep
 (t3 t4:Int)
def Lu:Td 0 sK:= .c [] [0,3,4] (.r 0 0 (ec 0 (ql 166) (ec 3 (qi .i64) (ec 4 (qi .i64) en))) sn (fun z=>⟨z.1.1,z.1.2.1,z.1.2.2.1⟩) (fun x=>((x.t0,x.t3,x.t4,()),(()))) fun _=>rfl)
def HN(M215:(List GStep)->Option pn)(p:sK):Option (Option sK):=
 bif wF (p.t4<(↑p.t0.length:Int))then if(0:Int)<=p.t4/\p.t4<(↑p.t0.length:Int)then match L8 (aq.mk p.t0[p.t4.toNat]!.ay.aW p.t0[p.t4.toNat]!.ay.fN p.t0[p.t4.toNat]!.ay.ak)with|wC=>wC|O r1=>if(0:Int)<=p.t4/\p.t4<(↑p.t0.length:Int)then match M215 p.t0[p.t4.toNat]!.aG with|wC=>wC|O r2=>if(0:Int)<=p.t4/\p.t4<(↑p.t0.length:Int)then match M215 p.t0[p.t4.toNat]!.aJ with|wC=>wC|O r3=>O (O (sK.mk p.t0 (i64.wrap (i64.wrap (i64.wrap (i64.wrap (p.t3+1)+r1)+r2)+r3)) (i64.wrap (p.t4+1))))else wC else wC else wC else O (wC)
def GW(M215:(List GStep)->Option pn):sK->Option sK:=bw (HN M215)
def afi(M215:(List GStep)->Option pn):An:=(.two .no (.two .no (.two (.two .no (Lu.lp (GW M215) .no)) .no)))
theorem aos(M215:(List GStep)->Option pn):eW wG (ajh M215) 0 300 215 (afi M215):=bV (l:=[(aU f215 0,(Lu.lp (GW M215) .no))]) func215 (bB (by kernel_rfl)) (by kernel_rfl) (az (aO Lu) aC)
def aed(M215:(List GStep)->Option pn)(a0:List GStep):Option pn:=
 match GW M215 (sK.mk a0 (0) (0))with|wC=>wC|O r4=>bif wF (r4.t4<(↑r4.t0.length:Int))then if(0:Int)<=r4.t4/\r4.t4<(↑r4.t0.length:Int)then match L8 (aq.mk r4.t0[r4.t4.toNat]!.ay.aW r4.t0[r4.t4.toNat]!.ay.fN r4.t0[r4.t4.toNat]!.ay.ak)with|wC=>wC|O r5=>if(0:Int)<=r4.t4/\r4.t4<(↑r4.t0.length:Int)then match M215 r4.t0[r4.t4.toNat]!.aG with|wC=>wC|O r6=>if(0:Int)<=r4.t4/\r4.t4<(↑r4.t0.length:Int)then match M215 r4.t0[r4.t4.toNat]!.aJ with|wC=>wC|O r7=>wC else wC else wC else wC else O (r4.t3)
theorem au5(M215:(List GStep)->Option pn)(a0:List GStep):bN wG (ajh M215) 300 (afi M215) 215 (ahn.c (a0,())) [] 0 d215.rd=aed M215 a0:=by kernel_rfl
def afH:Nat->((List GStep)->Option pn)
 |0=>(fun _=>wC)
 |n+1=>(aed (afH n))
def K1(n:Nat):(List GStep)->Option pn:=(afH n)
theorem Iw:∀n,ab2 (K1 n)
 |0=>fun _ _ h=>(by cases h)
 |n+1=>by
  have ih:=Iw n
  have i215:=ih
  exact(dH (XR i215) (aos (K1 n)) (fun _=>by kernel_rfl) (fun _=>by kernel_rfl) fun g=>au5 (K1 n) g.1)
def ac1:(List GStep)->Option pn:=fun a0=>lim (fun n=>K1 n a0)
theorem abr:ab2 ac1:=fun g b h=>by
 obtain⟨n,hn⟩:=cD (show lim (fun n=>K1 n g.1)=O b from h)
 exact(Iw n) g b hn
def ag6(F:aI):aI:=adX ac1 F
theorem ZR{F:aI}(h:bf wG F):bf wG (ag6 F):=N4 abr h
theorem Ey{F:aI}{f:Nat}(h:aV F f):aV (ag6 F) f:=Rw h
abbrev pF:Type:=Int
def d217:Td 0 pF:= .c [] [2] (.r 0 0 (ec 2 (qi .i64) en) sn (fun z=>z.1.1) (fun x=>((x,()),(()))) fun _=>rfl)
def ag1:=(lc (qg 137) ln)
def aaz(M:aq->Option pF):aI->aI:=eL wG 217 wD ag1 d217 (fun g=>M g.1)
theorem S6{M:aq->Option pF}{F:aI}{f:Nat}(h:aV F f):aV (aaz M F) f:=fW h (fun _=>by kernel_rfl)
def ZC(M:aq->Option pF):Prop:=HL wG 217 ag1 d217 (fun g=>M g.1)
theorem PC{M:aq->Option pF}(hM:ZC M){F:aI}(h:bf wG F):bf wG (aaz M F):=gx (sc:=Ay) dS hM ⟨_,func217,by kernel_rfl,by kernel_rfl⟩ (fun _=>by kernel_rfl) (fun _=>by kernel_rfl) h
def aiQ(M217:aq->Option pF):aI:=(aaz M217 cQ)
theorem aaG{M217}(h217:ZC M217):bf wG (aiQ M217):=(PC h217 aK)
structure oG where
 (t3 t4:Int)
 b0:aq
def MT:Td 0 oG:= .c [] [1,3,4] (.r 0 1 (ec 1 (qp 0 0) (ec 3 (qi .i64) (ec 4 (qi .i64) en))) (sb 0 137 (lg 137) sn) (fun z=>⟨z.1.2.1,z.1.2.2.1,z.2.1⟩) (fun x=>(((),x.t3,x.t4,()),(x.b0,()))) fun _=>rfl)
def Gy(M217:aq->Option pF)(p:oG):Option (Option oG):=
 bif wF (p.t4<(↑p.b0.ak.length:Int))then if(0:Int)<=p.t4/\p.t4<(↑p.b0.ak.length:Int)then match M217 (aq.mk p.b0.ak[p.t4.toNat]!.aW p.b0.ak[p.t4.toNat]!.fN p.b0.ak[p.t4.toNat]!.ak)with|wC=>wC|O r1=>bif wF (p.t3<r1)then O (O (oG.mk r1 (i64.wrap (p.t4+1)) (aq.mk p.b0.aW p.b0.fN p.b0.ak)))else O (O (oG.mk p.t3 (i64.wrap (p.t4+1)) (aq.mk p.b0.aW p.b0.fN p.b0.ak)))else wC else O (wC)
def Fi(M217:aq->Option pF):oG->Option oG:=bw (Gy M217)
def agt(M217:aq->Option pF):An:=(.two .no (.two .no (.two (.two .no (MT.lp (Fi M217) .no)) .no)))
theorem anH(M217:aq->Option pF):eW wG (aiQ M217) 0 300 217 (agt M217):=bV (l:=[(aU f217 0,(MT.lp (Fi M217) .no))]) func217 (bB (by kernel_rfl)) (by kernel_rfl) (az (aO MT) aC)
def adu(M217:aq->Option pF)(a0:aq):Option pF:=
 match Fi M217 (oG.mk (0) (0) (aq.mk a0.aW a0.fN a0.ak))with|wC=>wC|O r2=>bif wF (r2.t4<(↑r2.b0.ak.length:Int))then if(0:Int)<=r2.t4/\r2.t4<(↑r2.b0.ak.length:Int)then match M217 (aq.mk r2.b0.ak[r2.t4.toNat]!.aW r2.b0.ak[r2.t4.toNat]!.fN r2.b0.ak[r2.t4.toNat]!.ak)with|wC=>wC|O r3=>bif wF (r2.t3<r3)then wC else wC else wC else O (i64.wrap (r2.t3+1))
theorem asC(M217:aq->Option pF)(a0:aq):bN wG (aiQ M217) 300 (agt M217) 217 (ag1.c (a0,())) [] 0 d217.rd=adu M217 a0:=by kernel_rfl
def afs:Nat->(aq->Option pF)
 |0=>(fun _=>wC)
 |n+1=>(adu (afs n))
def Nn(n:Nat):aq->Option pF:=(afs n)
theorem Jf:∀n,ZC (Nn n)
 |0=>fun _ _ h=>(by cases h)
 |n+1=>by
  have ih:=Jf n
  have i217:=ih
  exact(dH (aaG i217) (anH (Nn n)) (fun _=>by kernel_rfl) (fun _=>by kernel_rfl) fun g=>asC (Nn n) g.1)
def JB:aq->Option pF:=fun a0=>lim (fun n=>Nn n a0)
theorem ZZ:ZC JB:=fun g b h=>by
 obtain⟨n,hn⟩:=cD (show lim (fun n=>Nn n g.1)=O b from h)
 exact(Jf n) g b hn
def aer(F:aI):aI:=aaz JB F
theorem PU{F:aI}(h:bf wG F):bf wG (aer F):=PC ZZ h
theorem pS{F:aI}{f:Nat}(h:aV F f):aV (aer F) f:=S6 h
abbrev oV:Type:=Int
def d218:Td 0 oV:= .c [] [2] (.r 0 0 (ec 2 (qi .i64) en) sn (fun z=>z.1.1) (fun x=>((x,()),(()))) fun _=>rfl)
def ajo:=(lc (ql 166) ln)
def aci(M:(List GStep)->Option oV):aI->aI:=eL wG 218 wD ajo d218 (fun g=>M g.1)
theorem SA{M:(List GStep)->Option oV}{F:aI}{f:Nat}(h:aV F f):aV (aci M F) f:=fW h (fun _=>by kernel_rfl)
def abR(M:(List GStep)->Option oV):Prop:=HL wG 218 ajo d218 (fun g=>M g.1)
theorem Qc{M:(List GStep)->Option oV}(hM:abR M){F:aI}(h:bf wG F):bf wG (aci M F):=gx (sc:=Ay) dS hM ⟨_,func218,by kernel_rfl,by kernel_rfl⟩ (fun _=>by kernel_rfl) (fun _=>by kernel_rfl) h
def akB(M218:(List GStep)->Option oV):aI:=(aci M218 cQ)
theorem Zj{M218}(h218:abR M218):bf wG (akB M218):=(Qc h218 aK)
structure kZ where
 t0:List GStep
 (t3 t4:Int)
def MQ:Td 0 kZ:= .c [] [0,3,4] (.r 0 0 (ec 0 (ql 166) (ec 3 (qi .i64) (ec 4 (qi .i64) en))) sn (fun z=>⟨z.1.1,z.1.2.1,z.1.2.2.1⟩) (fun x=>((x.t0,x.t3,x.t4,()),(()))) fun _=>rfl)
def E5(M218:(List GStep)->Option oV)(p:kZ):Option (Option kZ):=
 bif wF (p.t4<(↑p.t0.length:Int))then if(0:Int)<=p.t4/\p.t4<(↑p.t0.length:Int)then match M218 p.t0[p.t4.toNat]!.aG with|wC=>wC|O r1=>if(0:Int)<=p.t4/\p.t4<(↑p.t0.length:Int)then match M218 p.t0[p.t4.toNat]!.aJ with|wC=>wC|O r2=>bif wF (p.t3<i64.wrap (r1+1))then bif wF (i64.wrap (r1+1)<i64.wrap (r2+1))then O (O (kZ.mk p.t0 (i64.wrap (r2+1)) (i64.wrap (p.t4+1))))else O (O (kZ.mk p.t0 (i64.wrap (r1+1)) (i64.wrap (p.t4+1))))else bif wF (p.t3<i64.wrap (r2+1))then O (O (kZ.mk p.t0 (i64.wrap (r2+1)) (i64.wrap (p.t4+1))))else O (O (kZ.mk p.t0 p.t3 (i64.wrap (p.t4+1))))else wC else wC else O (wC)
def G2(M218:(List GStep)->Option oV):kZ->Option kZ:=bw (E5 M218)
def aeY(M218:(List GStep)->Option oV):An:=(.two .no (.two .no (.two (.two .no (MQ.lp (G2 M218) .no)) .no)))
theorem aqm(M218:(List GStep)->Option oV):eW wG (akB M218) 0 300 218 (aeY M218):=bV (l:=[(aU f218 0,(MQ.lp (G2 M218) .no))]) func218 (bB (by kernel_rfl)) (by kernel_rfl) (az (aO MQ) aC)
def ad9(M218:(List GStep)->Option oV)(a0:List GStep):Option oV:=
 match G2 M218 (kZ.mk a0 (0) (0))with|wC=>wC|O r3=>bif wF (r3.t4<(↑r3.t0.length:Int))then if(0:Int)<=r3.t4/\r3.t4<(↑r3.t0.length:Int)then match M218 r3.t0[r3.t4.toNat]!.aG with|wC=>wC|O r4=>if(0:Int)<=r3.t4/\r3.t4<(↑r3.t0.length:Int)then match M218 r3.t0[r3.t4.toNat]!.aJ with|wC=>wC|O r5=>bif wF (r3.t3<i64.wrap (r4+1))then bif wF (i64.wrap (r4+1)<i64.wrap (r5+1))then wC else wC else bif wF (r3.t3<i64.wrap (r5+1))then wC else wC else wC else wC else O (r3.t3)
theorem au9(M218:(List GStep)->Option oV)(a0:List GStep):bN wG (akB M218) 300 (aeY M218) 218 (ajo.c (a0,())) [] 0 d218.rd=ad9 M218 a0:=by kernel_rfl
def afN:Nat->((List GStep)->Option oV)
 |0=>(fun _=>wC)
 |n+1=>(ad9 (afN n))
def KX(n:Nat):(List GStep)->Option oV:=(afN n)
theorem JW:∀n,abR (KX n)
 |0=>fun _ _ h=>(by cases h)
 |n+1=>by
  have ih:=JW n
  have i218:=ih
  exact(dH (Zj i218) (aqm (KX n)) (fun _=>by kernel_rfl) (fun _=>by kernel_rfl) fun g=>au9 (KX n) g.1)
def aaW:(List GStep)->Option oV:=fun a0=>lim (fun n=>KX n a0)
theorem adD:abR aaW:=fun g b h=>by
 obtain⟨n,hn⟩:=cD (show lim (fun n=>KX n g.1)=O b from h)
 exact(JW n) g b hn
def agV(F:aI):aI:=aci aaW F
theorem ac0{F:aI}(h:bf wG F):bf wG (agV F):=Qc adD h
theorem DN{F:aI}{f:Nat}(h:aV F f):aV (agV F) f:=SA h
abbrev nG:Type:=Bool
def d219:Td 0 nG:= .c [] [2] (.r 0 0 (ec 2 qb en) sn (fun z=>z.1.1) (fun x=>((x,()),(()))) fun _=>rfl)
def ak8:=(lc (ql 166) ln)
def X6(M:(List GStep)->Option nG):aI->aI:=eL wG 219 wD ak8 d219 (fun g=>M g.1)
theorem vM{M:(List GStep)->Option nG}{F:aI}{f:Nat}(h:aV F f):aV (X6 M F) f:=fW h (fun _=>by kernel_rfl)
def aaC(M:(List GStep)->Option nG):Prop:=HL wG 219 ak8 d219 (fun g=>M g.1)
theorem O4{M:(List GStep)->Option nG}(hM:aaC M){F:aI}(h:bf wG F):bf wG (X6 M F):=gx (sc:=Ay) dS hM ⟨_,func219,by kernel_rfl,by kernel_rfl⟩ (fun _=>by kernel_rfl) (fun _=>by kernel_rfl) h
def aan(M219:(List GStep)->Option nG):aI:=(X6 M219 (aer cQ))
theorem XU{M219}(h219:aaC M219):bf wG (aan M219):=(O4 h219 (PU aK))
structure rO where
 t0:List GStep
 t3:Int
def NO:Td 0 rO:= .c [] [0,3] (.r 0 0 (ec 0 (ql 166) (ec 3 (qi .i64) en)) sn (fun z=>⟨z.1.1,z.1.2.1⟩) (fun x=>((x.t0,x.t3,()),(()))) fun _=>rfl)
def Hr(M219:(List GStep)->Option nG)(p:rO):Option (Option rO):=
 bif wF (p.t3<(↑p.t0.length:Int))then match if(0:Int)<=p.t3/\p.t3<(↑p.t0.length:Int)then match JB (aq.mk p.t0[p.t3.toNat]!.ay.aW p.t0[p.t3.toNat]!.ay.fN p.t0[p.t3.toNat]!.ay.ak)with|wC=>wC|O r1=>bif wF (12<r1)then O (wE)else if(0:Int)<=p.t3/\p.t3<(↑p.t0.length:Int)then match M219 p.t0[p.t3.toNat]!.aG with|wC=>wC|O r2=>bif r2 then O (wE)else if(0:Int)<=p.t3/\p.t3<(↑p.t0.length:Int)then match M219 p.t0[p.t3.toNat]!.aJ with|wC=>wC|O r3=>O (r3)else wC else wC else wC with|wC=>wC|O r4=>bif r4 then O (wC)else O (O (rO.mk p.t0 (i64.wrap (p.t3+1))))else O (wC)
def UI(M219:(List GStep)->Option nG):An:=(.two .no (.two (.two (.rb [217,219] 32) .no) .no))
def Gn(M219:(List GStep)->Option nG):rO->Option rO:=bw (Hr M219)
def agl(M219:(List GStep)->Option nG):An:=(.two .no (.two (.two .no (NO.lp (Gn M219) (UI M219))) .no))
theorem apx{M219}:∀f∈([217,219]:List Nat),aV (aan M219) f:=(az (vM (pS aZ)) (az (vM (pS aZ)) aC))
theorem apP(M219:(List GStep)->Option nG):eW wG (aan M219) 0 300 219 (agl M219):=bV (l:=[(aU f219 0,(NO.lp (Gn M219) (UI M219))),(.skip,(.rb [217,219] 32))]) func219 (bB (by kernel_rfl)) (by kernel_rfl) (az (aO NO) (az apx aC))
def aaK(M219:(List GStep)->Option nG)(a0:List GStep):Option nG:=
 match Gn M219 (rO.mk a0 (0))with|wC=>wC|O r5=>bif wF (r5.t3<(↑r5.t0.length:Int))then match if(0:Int)<=r5.t3/\r5.t3<(↑r5.t0.length:Int)then match JB (aq.mk r5.t0[r5.t3.toNat]!.ay.aW r5.t0[r5.t3.toNat]!.ay.fN r5.t0[r5.t3.toNat]!.ay.ak)with|wC=>wC|O r6=>bif wF (12<r6)then O (wE)else if(0:Int)<=r5.t3/\r5.t3<(↑r5.t0.length:Int)then match M219 r5.t0[r5.t3.toNat]!.aG with|wC=>wC|O r7=>bif r7 then O (wE)else if(0:Int)<=r5.t3/\r5.t3<(↑r5.t0.length:Int)then match M219 r5.t0[r5.t3.toNat]!.aJ with|wC=>wC|O r8=>O (r8)else wC else wC else wC with|wC=>wC|O r9=>bif r9 then O (wE)else wC else O (wD)
theorem asl(M219:(List GStep)->Option nG)(a0:List GStep):bN wG (aan M219) 300 (agl M219) 219 (ak8.c (a0,())) [] 0 d219.rd=aaK M219 a0:=by kernel_rfl
def aeS:Nat->((List GStep)->Option nG)
 |0=>(fun _=>wC)
 |n+1=>(aaK (aeS n))
def MM(n:Nat):(List GStep)->Option nG:=(aeS n)
theorem Ja:∀n,aaC (MM n)
 |0=>fun _ _ h=>(by cases h)
 |n+1=>by
  have ih:=Ja n
  have i219:=ih
  exact(dH (XU i219) (apP (MM n)) (fun _=>by kernel_rfl) (fun _=>by kernel_rfl) fun g=>asl (MM n) g.1)
def abZ:(List GStep)->Option nG:=fun a0=>lim (fun n=>MM n a0)
theorem aeu:aaC abZ:=fun g b h=>by
 obtain⟨n,hn⟩:=cD (show lim (fun n=>MM n g.1)=O b from h)
 exact(Ja n) g b hn
def ajx(F:aI):aI:=X6 abZ F
theorem abM{F:aI}(h:bf wG F):bf wG (ajx F):=O4 aeu h
theorem Ej{F:aI}{f:Nat}(h:aV F f):aV (ajx F) f:=vM h
def ara:aI:=(ajx (agV (aer (adh (ag6 cQ)))))
structure rz where
 (t3 t4:Int)
 b0:Flat
def KV:Td 0 rz:= .c [] [1,3,4] (.r 0 1 (ec 1 (qp 0 0) (ec 3 (qi .i64) (ec 4 (qi .i64) en))) (sb 0 26 (lg 26) sn) (fun z=>⟨z.1.2.1,z.1.2.2.1,z.2.1⟩) (fun x=>(((),x.t3,x.t4,()),(x.b0,()))) fun _=>rfl)
def Dd(p:rz):Option (Option rz):=
 bif wF (p.t4<(↑p.b0.ai.length:Int))then if(0:Int)<=p.t4/\p.t4<(↑p.b0.ai.length:Int)then match L8 (aq.mk p.b0.ai[p.t4.toNat]!.ay.aW p.b0.ai[p.t4.toNat]!.ay.fN p.b0.ai[p.t4.toNat]!.ay.ak)with|wC=>wC|O r1=>if(0:Int)<=p.t4/\p.t4<(↑p.b0.ai.length:Int)then match JB (aq.mk p.b0.ai[p.t4.toNat]!.ay.aW p.b0.ai[p.t4.toNat]!.ay.fN p.b0.ai[p.t4.toNat]!.ay.ak)with|wC=>wC|O r2=>bif wF (12<r2)then O (wC)else O (O (rz.mk (i64.wrap (p.t3+r1)) (i64.wrap (p.t4+1)) p.b0))else wC else wC else O (wC)
def FY:rz->Option rz:=bw (Dd)
abbrev apT:Type:=Bool
def d138:Td 0 apT:= .c [] [2] (.r 0 0 (ec 2 qb en) sn (fun z=>z.1.1) (fun x=>((x,()),(()))) fun _=>rfl)
theorem age:∀f∈([218,219]:List Nat),aV (ara) f:=(az (Ej (DN (pS (DT (Ey aZ))))) (az (Ej (DN (pS (DT (Ey aZ))))) aC))
def acT(a0:Flat):Option apT:=
 match bif wF (64<(↑a0.ag.length:Int))then O (wE)else O (wF (8<(↑a0.ai.length:Int)))with|wC=>wC|O r3=>bif r3 then O (wD)else match ac1 a0.bk with|wC=>wC|O r4=>match FY (rz.mk r4 (0) a0)with|wC=>wC|O r5=>bif wF (r5.t4<(↑r5.b0.ai.length:Int))then if(0:Int)<=r5.t4/\r5.t4<(↑r5.b0.ai.length:Int)then match L8 (aq.mk r5.b0.ai[r5.t4.toNat]!.ay.aW r5.b0.ai[r5.t4.toNat]!.ay.fN r5.b0.ai[r5.t4.toNat]!.ay.ak)with|wC=>wC|O r6=>if(0:Int)<=r5.t4/\r5.t4<(↑r5.b0.ai.length:Int)then match JB (aq.mk r5.b0.ai[r5.t4.toNat]!.ay.aW r5.b0.ai[r5.t4.toNat]!.ay.fN r5.b0.ai[r5.t4.toNat]!.ay.ak)with|wC=>wC|O r7=>bif wF (12<r7)then O (wD)else wC else wC else wC else match bif wF (r5.t3<=1024)then match aaW r5.b0.bk with|wC=>wC|O r8=>bif wF (r8<=12)then match abZ r5.b0.bk with|wC=>wC|O r9=>O (bif r9 then wD else wE)else O (wD)else O (wD)with|wC=>wC|O r10=>O (r10)
def aoK:aI->aI:=eL wG 138 wD (lc (qg 26) ln) d138 (fun g=>acT g.1)
theorem aco:EO aoK:=fun h=>kL (F:=ara) (an:=(.two .no (.two (.two (.rb [218,219] 14) .no) (.two .no (.two (.two .no (KV.lp FY .no)) (.two (.rb [218,219] 2) .no)))))) (l:=[(.skip,(.rb [218,219] 14)),(aU f138 0,(KV.lp FY .no)),(.skip,(.rb [218,219] 2))]) func138 (abM (ac0 (PU (OV (ZR aK))))) (az age (az (aO KV) (az age aC))) h
def alO:aI:=cQ
structure sF where
 t0:ByteArray
 t3:Int
def MK:Td 0 sF:= .c [] [0,3] (.r 0 0 (ec 0 qs (ec 3 (qi .i64) en)) sn (fun z=>⟨z.1.1,z.1.2.1⟩) (fun x=>((x.t0,x.t3,()),(()))) fun _=>rfl)
def GJ(p:sF):Option (Option sF):=
 bif wF (p.t3<(↑p.t0.size:Int))then if(0:Int)<=p.t3/\p.t3<(↑p.t0.size:Int)then match bif wF (97<=bR p.t0 p.t3.toNat)then O (wF (bR p.t0 p.t3.toNat<=122))else O (wD)with|wC=>wC|O r1=>match bif wF (48<=bR p.t0 p.t3.toNat)then bif wF (bR p.t0 p.t3.toNat<=57)then O (wE)else bif wF (bR p.t0 p.t3.toNat=46)then O (wE)else O (wF (bR p.t0 p.t3.toNat=95))else bif wF (bR p.t0 p.t3.toNat=46)then O (wE)else O (wF (bR p.t0 p.t3.toNat=95))with|wC=>wC|O r2=>match bif bif r1 then wD else wE then bif wF (p.t3=0)then O (wE)else O (bif r2 then wD else wE)else O (wD)with|wC=>wC|O r3=>bif r3 then O (wC)else O (O (sF.mk p.t0 (i64.wrap (p.t3+1))))else wC else O (wC)
def Tv:An:=(.two .no (.two (.two .no (.two (.rb [] 5) (.two (.rb [] 6) (.two (.rb [] 53) .no)))) .no))
def GH:sF->Option sF:=bw (GJ)
abbrev amh:Type:=Bool
def d140:Td 0 amh:= .c [] [2] (.r 0 0 (ec 2 qb en) sn (fun z=>z.1.1) (fun x=>((x,()),(()))) fun _=>rfl)
theorem O9:∀f∈([]:List Nat),aV (alO) f:=aC
def ND(a0:ByteArray):Option amh:=
 match bif wF ((↑a0.size:Int)<1)then O (wE)else O (wF (40<(↑a0.size:Int)))with|wC=>wC|O r4=>bif r4 then O (wD)else match GH (sF.mk a0 (0))with|wC=>wC|O r5=>bif wF (r5.t3<(↑r5.t0.size:Int))then if(0:Int)<=r5.t3/\r5.t3<(↑r5.t0.size:Int)then match bif wF (97<=bR r5.t0 r5.t3.toNat)then O (wF (bR r5.t0 r5.t3.toNat<=122))else O (wD)with|wC=>wC|O r6=>match bif wF (48<=bR r5.t0 r5.t3.toNat)then bif wF (bR r5.t0 r5.t3.toNat<=57)then O (wE)else bif wF (bR r5.t0 r5.t3.toNat=46)then O (wE)else O (wF (bR r5.t0 r5.t3.toNat=95))else bif wF (bR r5.t0 r5.t3.toNat=46)then O (wE)else O (wF (bR r5.t0 r5.t3.toNat=95))with|wC=>wC|O r7=>match bif bif r6 then wD else wE then bif wF (r5.t3=0)then O (wE)else O (bif r7 then wD else wE)else O (wD)with|wC=>wC|O r8=>bif r8 then O (wD)else wC else wC else O (wE)
def ZH:aI->aI:=eL wG 140 wD (lc qs ln) d140 (fun g=>ND g.1)
theorem Oc:EO ZH:=fun h=>kL (F:=alO) (an:=(.two .no (.two (.two (.rb [] 14) .no) (.two (.two .no (MK.lp GH Tv)) .no)))) (l:=[(.skip,(.rb [] 14)),(aU f140 0,(MK.lp GH Tv)),(.skip,(.rb [] 5)),(.skip,(.rb [] 6)),(.skip,(.rb [] 53))]) func140 aK (az O9 (az (aO MK) (az O9 (az O9 (az O9 aC))))) h
theorem Sm:EP ZH:=fun h=>kP h
def akA:aI:=cQ
abbrev ahe:Type:=Bool
def d141:Td 0 ahe:= .c [] [4] (.r 0 0 (ec 4 qb en) sn (fun z=>z.1.1) (fun x=>((x,()),(()))) fun _=>rfl)
def aq2:=(lc (qi .i64) (lc (qi .i64) ln))
def aeV:An:=(.two .no (.two (.rb [] 4) .no))
theorem amN:∀f∈([]:List Nat),aV (akA) f:=aC
def E7(a0:Int)(a1:Int):ahe:=
 let r1:Bool:=bif wF (a0<=a1)then bif wF (-1048576<=a0)then wF (a1<=1048576)else wD else wD;r1
theorem atK(a0:Int)(a1:Int):bN wG (akA) 300 (aeV) 141 (aq2.c (a0,a1,())) [] 0 d141.rd=O (E7 a0 a1):=by
 refine Eq.trans (b:=(
  match bif wF (a0<=a1)then bif wF (-1048576<=a0)then O (wF (a1<=1048576))else O (wD)else O (wD)with|wC=>wC|O r1=>O (r1):Option ahe)) (by kernel_rfl) ?_
 simp only[E7,bZ,cu]
def aaQ:aI->aI:=eL wG 141 wD aq2 d141 (fun g=>O (E7 g.1 g.2.1))
theorem OU:EO aaQ:=fun h=>kL (F:=akA) (an:=aeV) (l:=[(.skip,(.rb [] 4))]) func141 aK (az amN aC) h (c:=fun g=>atK g.1 g.2.1)
theorem Ss:EP aaQ:=fun h=>kP h
structure o4 where
 t0:List aN
 (t1 t5 t6:Int)
def Nl:Td 0 o4:= .c [] [0,1,5,6] (.r 0 0 (ec 0 (ql 131) (ec 1 (qi .i64) (ec 5 (qi .i64) (ec 6 (qi .i64) en)))) sn (fun z=>⟨z.1.1,z.1.2.1,z.1.2.2.1,z.1.2.2.2.1⟩) (fun x=>((x.t0,x.t1,x.t5,x.t6,()),(()))) fun _=>rfl)
def G1(p:o4):Option (Option o4):=
 bif wF (p.t6<(↑p.t0.length:Int))then if(0:Int)<=p.t6/\p.t6<(↑p.t0.length:Int)then bif bif wF (p.t0[p.t6.toNat]!.aY=p.t1)then wD else wE then O (O (o4.mk p.t0 p.t1 p.t5 (i64.wrap (p.t6+1))))else if(0:Int)<=p.t6/\p.t6<(↑p.t0.length:Int)then if(0:Int)<=p.t6/\p.t6<(↑p.t0.length:Int)then bif wF (4096<i64.wrap (p.t5*i64.wrap (i64.wrap (p.t0[p.t6.toNat]!.af-p.t0[p.t6.toNat]!.aa)+1)))then O (wC)else O (O (o4.mk p.t0 p.t1 (i64.wrap (p.t5*i64.wrap (i64.wrap (p.t0[p.t6.toNat]!.af-p.t0[p.t6.toNat]!.aa)+1))) (i64.wrap (p.t6+1))))else wC else wC else wC else O (wC)
def Hl:o4->Option o4:=bw (G1)
abbrev aop:Type:=Int
def d220:Td 0 aop:= .c [] [4] (.r 0 0 (ec 4 (qi .i64) en) sn (fun z=>z.1.1) (fun x=>((x,()),(()))) fun _=>rfl)
def SJ(a0:List aN)(a1:Int):Option aop:=
 match Hl (o4.mk a0 a1 (1) (0))with|wC=>wC|O r1=>bif wF (r1.t6<(↑r1.t0.length:Int))then if(0:Int)<=r1.t6/\r1.t6<(↑r1.t0.length:Int)then bif bif wF (r1.t0[r1.t6.toNat]!.aY=r1.t1)then wD else wE then wC else if(0:Int)<=r1.t6/\r1.t6<(↑r1.t0.length:Int)then if(0:Int)<=r1.t6/\r1.t6<(↑r1.t0.length:Int)then bif wF (4096<i64.wrap (r1.t5*i64.wrap (i64.wrap (r1.t0[r1.t6.toNat]!.af-r1.t0[r1.t6.toNat]!.aa)+1)))then O (4097)else wC else wC else wC else wC else O (r1.t5)
def aiL:aI->aI:=eL wG 220 wD (lc (ql 131) (lc (qi .i64) ln)) d220 (fun g=>SJ g.1 g.2.1)
theorem Zo:EO aiL:=fun h=>kL (an:=(.two .no (.two .no (.two (.two .no (Nl.lp Hl .no)) .no)))) (l:=[(aU f220 0,(Nl.lp Hl .no))]) func220 aK (az (aO Nl) aC) h
theorem RT:EP aiL:=fun h=>kP h
def an2:aI:=(aiL (aaQ (ZH cQ)))
structure oB where
 t0:List aN
 (t3 t5:Int)
 b0:aN
def Nu:Td 0 oB:= .c [] [0,3,4,5] (.r 0 1 (ec 0 (ql 131) (ec 3 (qi .i64) (ec 4 (qp 0 0) (ec 5 (qi .i64) en)))) (sb 0 131 (lg 131) sn) (fun z=>⟨z.1.1,z.1.2.1,z.1.2.2.2.1,z.2.1⟩) (fun x=>((x.t0,x.t3,(),x.t5,()),(x.b0,()))) fun _=>rfl)
def GF(p:oB):Option (Option oB):=
 bif wF (p.t5<p.t3)then if(0:Int)<=p.t5/\p.t5<(↑p.t0.length:Int)then bif p.t0[p.t5.toNat]!.fName.toList==p.b0.fName.toList then O (wC)else O (O (oB.mk p.t0 p.t3 (i64.wrap (p.t5+1)) p.b0))else wC else O (wC)
def Bl:oB->Option oB:=bw (GF)
structure sv where
 t0:List aN
 t3:Int
def Nr:Td 0 sv:= .c [] [0,3] (.r 0 0 (ec 0 (ql 131) (ec 3 (qi .i64) en)) sn (fun z=>⟨z.1.1,z.1.2.1⟩) (fun x=>((x.t0,x.t3,()),(()))) fun _=>rfl)
def u9(p:sv):Option (Option sv):=
 bif wF (p.t3<(↑p.t0.length:Int))then if(0:Int)<=p.t3/\p.t3<(↑p.t0.length:Int)then match ND p.t0[p.t3.toNat]!.fName with|wC=>wC|O r1=>bif bif r1 then wD else wE then O (wC)else match Bl (oB.mk p.t0 p.t3 (0) p.t0[p.t3.toNat]!)with|wC=>wC|O r2=>bif wF (r2.t5<r2.t3)then if(0:Int)<=r2.t5/\r2.t5<(↑r2.t0.length:Int)then bif r2.t0[r2.t5.toNat]!.fName.toList==r2.b0.fName.toList then O (wC)else wC else wC else match bif bif wF (r2.b0.aY=0)then wD else wE then bif bif wF (r2.b0.aY=1)then wD else wE then bif bif wF (r2.b0.aY=2)then wD else wE then O (bif wF (r2.b0.aY=3)then wD else wE)else O (wD)else O (wD)else O (wD)with|wC=>wC|O r3=>bif r3 then O (wC)else bif bif E7 r2.b0.aa r2.b0.af then wD else wE then O (wC)else match bif wF (r2.b0.aY=0)then bif wF (r2.b0.dc<r2.b0.aa)then O (wE)else bif wF (r2.b0.af<r2.b0.dc)then O (wE)else bif bif wF (r2.b0.aY=0)then wD else wE then O (bif wF (r2.b0.dc=0)then wD else wE)else O (wD)else bif bif wF (r2.b0.aY=0)then wD else wE then O (bif wF (r2.b0.dc=0)then wD else wE)else O (wD)with|wC=>wC|O r4=>bif r4 then O (wC)else O (O (sv.mk r2.t0 (i64.wrap (r2.t3+1))))else wC else O (wC)
def U1:An:=(.two .no (.two (.two .no (.two .no (.two (.two .no (Nu.lp Bl .no)) (.two (.two (.rb [220] 50) .no) (.two .no (.two (.rb [220] 83) .no)))))) .no))
def FP:sv->Option sv:=bw (u9)
abbrev anT:Type:=Int
def d139:Td 0 anT:= .c [] [2] (.r 0 0 (ec 2 (qi .i64) en) sn (fun z=>z.1.1) (fun x=>((x,()),(()))) fun _=>rfl)
theorem VX:∀f∈([220]:List Nat),aV (an2) f:=(az (RT (Ss (Sm aZ))) aC)
def abi(a0:List aN):Option anT:=
 match FP (sv.mk a0 (0))with|wC=>wC|O r5=>bif wF (r5.t3<(↑r5.t0.length:Int))then if(0:Int)<=r5.t3/\r5.t3<(↑r5.t0.length:Int)then match ND r5.t0[r5.t3.toNat]!.fName with|wC=>wC|O r6=>bif bif r6 then wD else wE then O (7)else match Bl (oB.mk r5.t0 r5.t3 (0) r5.t0[r5.t3.toNat]!)with|wC=>wC|O r7=>bif wF (r7.t5<r7.t3)then if(0:Int)<=r7.t5/\r7.t5<(↑r7.t0.length:Int)then bif r7.t0[r7.t5.toNat]!.fName.toList==r7.b0.fName.toList then O (8)else wC else wC else match bif bif wF (r7.b0.aY=0)then wD else wE then bif bif wF (r7.b0.aY=1)then wD else wE then bif bif wF (r7.b0.aY=2)then wD else wE then O (bif wF (r7.b0.aY=3)then wD else wE)else O (wD)else O (wD)else O (wD)with|wC=>wC|O r8=>bif r8 then O (1)else bif bif E7 r7.b0.aa r7.b0.af then wD else wE then O (3)else match bif wF (r7.b0.aY=0)then bif wF (r7.b0.dc<r7.b0.aa)then O (wE)else bif wF (r7.b0.af<r7.b0.dc)then O (wE)else bif bif wF (r7.b0.aY=0)then wD else wE then O (bif wF (r7.b0.dc=0)then wD else wE)else O (wD)else bif bif wF (r7.b0.aY=0)then wD else wE then O (bif wF (r7.b0.dc=0)then wD else wE)else O (wD)with|wC=>wC|O r9=>bif r9 then O (3)else wC else wC else match match SJ r5.t0 (1)with|wC=>wC|O r10=>bif wF (4096<r10)then O (wE)else match SJ r5.t0 (2)with|wC=>wC|O r11=>bif wF (4096<r11)then O (wE)else match SJ r5.t0 (3)with|wC=>wC|O r12=>O (wF (256<r12))with|wC=>wC|O r13=>bif r13 then O (4)else O (0)
def alY:aI->aI:=eL wG 139 wD (lc (ql 131) ln) d139 (fun g=>abi g.1)
theorem abn:EO alY:=fun h=>kL (F:=an2) (an:=(.two .no (.two (.two .no (Nr.lp FP U1)) (.two (.two (.rb [220] 96) .no) .no)))) (l:=[(aU f139 0,(Nr.lp FP U1)),(aU f139 1,(Nu.lp Bl .no)),(.skip,(.rb [220] 50)),(.skip,(.rb [220] 83)),(.skip,(.rb [220] 96))]) func139 (Zo (OU (Oc aK))) (az (aO Nr) (az (aO Nu) (az VX (az VX (az VX aC))))) h
def avi:aI:=cQ
abbrev ahc:Type:=Int
def d270:Td 0 ahc:= .c [] [2] (.r 0 0 (ec 2 (qi .i64) en) sn (fun z=>z.1.1) (fun x=>((x,()),(()))) fun _=>rfl)
def aot:=(lc (qi .i64) ln)
def afL:An:= .no
def Dw(a0:Int):ahc:=
 bif wF (a0=0)then 0 else bif wF (a0=24)then 0 else bif wF (a0=6)then 1 else bif wF (a0=7)then 1 else bif wF (a0=8)then 2 else bif wF (a0=9)then 2 else bif wF (a0=10)then 2 else bif wF (a0=11)then 2 else bif wF (a0=12)then 2 else bif wF (a0=13)then 2 else bif wF (a0=14)then 2 else bif wF (a0=15)then 2 else bif wF (a0=16)then 2 else bif wF (a0=17)then 2 else bif wF (a0=18)then 2 else bif wF (a0=19)then 2 else bif wF (a0=20)then 2 else bif wF (a0=21)then 2 else bif wF (a0=22)then 2 else bif wF (a0=23)then 3 else bif wF (a0=25)then-2 else-1
theorem atn(a0:Int):bN wG (avi) 300 (afL) 270 (aot.c (a0,())) [] 0 d270.rd=O (Dw a0):=by
 refine Eq.trans (b:=(
  bif wF (a0=0)then O (0)else bif wF (a0=24)then O (0)else bif wF (a0=6)then O (1)else bif wF (a0=7)then O (1)else bif wF (a0=8)then O (2)else bif wF (a0=9)then O (2)else bif wF (a0=10)then O (2)else bif wF (a0=11)then O (2)else bif wF (a0=12)then O (2)else bif wF (a0=13)then O (2)else bif wF (a0=14)then O (2)else bif wF (a0=15)then O (2)else bif wF (a0=16)then O (2)else bif wF (a0=17)then O (2)else bif wF (a0=18)then O (2)else bif wF (a0=19)then O (2)else bif wF (a0=20)then O (2)else bif wF (a0=21)then O (2)else bif wF (a0=22)then O (2)else bif wF (a0=23)then O (3)else bif wF (a0=25)then O (-2)else O (-1):Option ahc)) (by kernel_rfl) ?_
 simp only[Dw,bZ,cu]
def apc:aI->aI:=eL wG 270 wD aot d270 (fun g=>O (Dw g.1))
theorem adV:EO apc:=fun h=>kL (an:=afL) func270 aK aC h (c:=fun g=>atn g.1)
abbrev qJ:Type:=Bool
def d221:Td 0 qJ:= .c [] [6] (.r 0 0 (ec 6 qb en) sn (fun z=>z.1.1) (fun x=>((x,()),(()))) fun _=>rfl)
def ahk:=(lc (ql 131) (lc (qg 137) (lc qb ln)))
def akM(M:(List aN)->aq->Bool->Option qJ):aI->aI:=eL wG 221 wD ahk d221 (fun g=>M g.1 g.2.1 g.2.2.1)
def abQ(M:(List aN)->aq->Bool->Option qJ):Prop:=HL wG 221 ahk d221 (fun g=>M g.1 g.2.1 g.2.2.1)
theorem Pf{M:(List aN)->aq->Bool->Option qJ}(hM:abQ M){F:aI}(h:bf wG F):bf wG (akM M F):=gx (sc:=Ay) dS hM ⟨_,func221,by kernel_rfl,by kernel_rfl⟩ (fun _=>by kernel_rfl) (fun _=>by kernel_rfl) h
def YH(M221:(List aN)->aq->Bool->Option qJ):aI:=(apc (akM M221 cQ))
theorem Yn{M221}(h221:abQ M221):bf wG (YH M221):=(adV (Pf h221 aK))
structure oR where
 t0:List aN
 t2:Bool
 t8:Int
 b0:aq
def KY:Td 0 oR:= .c [] [0,2,4,8] (.r 0 1 (ec 0 (ql 131) (ec 2 qb (ec 4 (qp 0 0) (ec 8 (qi .i64) en)))) (sb 0 137 (lg 137) sn) (fun z=>⟨z.1.1,z.1.2.1,z.1.2.2.2.1,z.2.1⟩) (fun x=>((x.t0,x.t2,(),x.t8,()),(x.b0,()))) fun _=>rfl)
def FJ(M221:(List aN)->aq->Bool->Option qJ)(p:oR):Option (Option oR):=
 bif wF (p.t8<(↑p.b0.ak.length:Int))then if(0:Int)<=p.t8/\p.t8<(↑p.b0.ak.length:Int)then match M221 p.t0 (aq.mk p.b0.ak[p.t8.toNat]!.aW p.b0.ak[p.t8.toNat]!.fN p.b0.ak[p.t8.toNat]!.ak) p.t2 with|wC=>wC|O r1=>bif bif r1 then wD else wE then O (wC)else O (O (oR.mk p.t0 p.t2 (i64.wrap (p.t8+1)) (aq.mk p.b0.aW p.b0.fN p.b0.ak)))else wC else O (wC)
def B5(M221:(List aN)->aq->Bool->Option qJ):oR->Option oR:=bw (FJ M221)
def afc(M221:(List aN)->aq->Bool->Option qJ):An:=(.two .no (.two .no (.two (.two (.rb [] 40) .no) (.two (.two .no (.two (.two (.rb [] 65) .no) (.two (.rb [] 73) .no))) (.two (.two .no (KY.lp (B5 M221) .no)) .no)))))
theorem V1{M221}:∀f∈([]:List Nat),aV (YH M221) f:=aC
theorem alP(M221:(List aN)->aq->Bool->Option qJ):eW wG (YH M221) 0 300 221 (afc M221):=bV (l:=[(.skip,(.rb [] 40)),(.skip,(.rb [] 65)),(.skip,(.rb [] 73)),(aU f221 0,(KY.lp (B5 M221) .no))]) func221 (bB (by kernel_rfl)) (by kernel_rfl) (az V1 (az V1 (az V1 (az (aO KY) aC))))
def Yi(M221:(List aN)->aq->Bool->Option qJ)(a0:List aN)(a1:aq)(a2:Bool):Option qJ:=
 match bif wF (Dw a1.aW= -1)then O (wE)else bif wF (0<=Dw a1.aW)then bif bif wF ((↑a1.ak.length:Int)=Dw a1.aW)then wD else wE then O (wE)else bif wF (Dw a1.aW= -2)then bif wF ((↑a1.ak.length:Int)<2)then O (wE)else O (wF (33<(↑a1.ak.length:Int)))else O (wD)else bif wF (Dw a1.aW= -2)then bif wF ((↑a1.ak.length:Int)<2)then O (wE)else O (wF (33<(↑a1.ak.length:Int)))else O (wD)with|wC=>wC|O r2=>bif r2 then O (wD)else bif wF (a1.aW=24)then match bif wF (a1.fN<0)then O (wE)else bif wF ((↑a0.length:Int)<=a1.fN)then O (wE)else bif a2 then if(0:Int)<=a1.fN/\a1.fN<(↑a0.length:Int)then O (wF (a0[a1.fN.toNat]!.aY=0))else wC else O (wD)with|wC=>wC|O r3=>bif r3 then O (wD)else match B5 M221 (oR.mk a0 a2 (0) (aq.mk a1.aW a1.fN a1.ak))with|wC=>wC|O r4=>bif wF (r4.t8<(↑r4.b0.ak.length:Int))then if(0:Int)<=r4.t8/\r4.t8<(↑r4.b0.ak.length:Int)then match M221 r4.t0 (aq.mk r4.b0.ak[r4.t8.toNat]!.aW r4.b0.ak[r4.t8.toNat]!.fN r4.b0.ak[r4.t8.toNat]!.ak) r4.t2 with|wC=>wC|O r5=>bif bif r5 then wD else wE then O (wD)else wC else wC else O (wE)else match bif bif wF (a1.aW=0)then wD else wE then O (bif wF (a1.fN=0)then wD else wE)else O (wD)with|wC=>wC|O r6=>bif r6 then O (wD)else match B5 M221 (oR.mk a0 a2 (0) (aq.mk a1.aW a1.fN a1.ak))with|wC=>wC|O r7=>bif wF (r7.t8<(↑r7.b0.ak.length:Int))then if(0:Int)<=r7.t8/\r7.t8<(↑r7.b0.ak.length:Int)then match M221 r7.t0 (aq.mk r7.b0.ak[r7.t8.toNat]!.aW r7.b0.ak[r7.t8.toNat]!.fN r7.b0.ak[r7.t8.toNat]!.ak) r7.t2 with|wC=>wC|O r8=>bif bif r8 then wD else wE then O (wD)else wC else wC else O (wE)
theorem aun(M221:(List aN)->aq->Bool->Option qJ)(a0:List aN)(a1:aq)(a2:Bool):bN wG (YH M221) 300 (afc M221) 221 (ahk.c (a0,a1,a2,())) [] 0 d221.rd=Yi M221 a0 a1 a2:=by kernel_rfl
def ago:Nat->((List aN)->aq->Bool->Option qJ)
 |0=>(fun _ _ _=>wC)
 |n+1=>(Yi (ago n))
def K0(n:Nat):(List aN)->aq->Bool->Option qJ:=(ago n)
theorem Jp:∀n,abQ (K0 n)
 |0=>fun _ _ h=>(by cases h)
 |n+1=>by
  have ih:=Jp n
  have i221:=ih
  exact(dH (Yn i221) (alP (K0 n)) (fun _=>by kernel_rfl) (fun _=>by kernel_rfl) fun g=>aun (K0 n) g.1 g.2.1 g.2.2.1)
def Yb:(List aN)->aq->Bool->Option qJ:=fun a0 a1 a2=>lim (fun n=>K0 n a0 a1 a2)
theorem XZ:abQ Yb:=fun g b h=>by
 obtain⟨n,hn⟩:=cD (show lim (fun n=>K0 n g.1 g.2.1 g.2.2.1)=O b from h)
 exact(Jp n) g b hn
def atL(F:aI):aI:=akM Yb F
theorem Zr{F:aI}(h:bf wG F):bf wG (atL F):=Pf XZ h
def ar5:aI:=cQ
abbrev akb:Type:=Int
def d313:Td 0 akb:= .c [] [2] (.r 0 0 (ec 2 (qi .i64) en) sn (fun z=>z.1.1) (fun x=>((x,()),(()))) fun _=>rfl)
def ang:=(lc (qi .i64) ln)
def af0:An:= .no
def vg(a0:Int):akb:=
 bif wF (a0<0)then i64.wrap (0-a0)else a0
theorem atB(a0:Int):bN wG (ar5) 300 (af0) 313 (ang.c (a0,())) [] 0 d313.rd=O (vg a0):=by
 refine Eq.trans (b:=(
  bif wF (a0<0)then O (i64.wrap (0-a0))else O (a0):Option akb)) (by kernel_rfl) ?_
 simp only[vg,bZ,cu]
def Um:aI->aI:=eL wG 313 wD ang d313 (fun g=>O (vg g.1))
theorem Y5:EO Um:=fun h=>kL (an:=af0) func313 aK aC h (c:=fun g=>atB g.1)
def atH:aI:=(ad6 (RV cQ))
abbrev aiy:Type:=Int×Int
def d314:Td 0 aiy:= .c [] [4,5] (.r 0 0 (ec 4 (qi .i64) (ec 5 (qi .i64) en)) sn (fun z=>(z.1.1,z.1.2.1)) (fun x=>((x.1,x.2,()),(()))) fun _=>rfl)
def ap0:=(lc (qi .i64) (lc (qi .i64) ln))
def afr:An:= .no
def Ua(a0:Int)(a1:Int):aiy:=
 bif wF (a0<0)then bif wF (0<a1)then(iP (0) (i64.wrap (a0+1)),jE (0) (i64.wrap (a1-1)))else(iP (0) (i64.wrap (a0+1)),0)else bif wF (0<a1)then(0,jE (0) (i64.wrap (a1-1)))else(0,0)
theorem auP(a0:Int)(a1:Int):bN wG (atH) 300 (afr) 314 (ap0.c (a0,a1,())) [] 0 d314.rd=O (Ua a0 a1):=by
 refine Eq.trans (b:=(
  bif wF (a0<0)then bif wF (0<a1)then O ((iP (0) (i64.wrap (a0+1)),jE (0) (i64.wrap (a1-1))))else O ((iP (0) (i64.wrap (a0+1)),0))else bif wF (0<a1)then O ((0,jE (0) (i64.wrap (a1-1))))else O ((0,0)):Option aiy)) (by kernel_rfl) ?_
 simp only[Ua,bZ,cu]
def ap3:aI->aI:=eL wG 314 wD ap0 d314 (fun g=>O (Ua g.1 g.2.1))
theorem adT:EO ap3:=fun h=>kL (an:=afr) func314 (Fo (Gl aK)) aC h (c:=fun g=>auP g.1 g.2.1)
def anm:aI:=(ap3 (Um (ad6 (RV cQ))))
structure ow where
 (t2 t3:List Int)
 (t15 t16 t17:Int)
def L3:Td 0 ow:= .c [] [2,3,15,16,17] (.r 0 0 (ec 2 (ql 3) (ec 3 (ql 3) (ec 15 (qi .i64) (ec 16 (qi .i64) (ec 17 (qi .i64) en))))) sn (fun z=>⟨z.1.1,z.1.2.1,z.1.2.2.1,z.1.2.2.2.1,z.1.2.2.2.2.1⟩) (fun x=>((x.t2,x.t3,x.t15,x.t16,x.t17,()),(()))) fun _=>rfl)
def GP(p:ow):Option (Option ow):=
 bif wF (p.t17<(↑p.t2.length:Int))then if(0:Int)<=p.t17/\p.t17<(↑p.t2.length:Int)then if(0:Int)<=p.t17/\p.t17<(↑p.t3.length:Int)then O (O (ow.mk p.t2 p.t3 (iP p.t15 p.t2[p.t17.toNat]!) (jE p.t16 p.t3[p.t17.toNat]!) (i64.wrap (p.t17+1))))else wC else wC else O (wC)
def BU:ow->Option ow:=bw (GP)
abbrev ape:Type:=Int×Int
def d271:Td 0 ape:= .c [] [8,9] (.r 0 0 (ec 8 (qi .i64) (ec 9 (qi .i64) en)) sn (fun z=>(z.1.1,z.1.2.1)) (fun x=>((x.1,x.2,()),(()))) fun _=>rfl)
theorem afR:∀f∈([]:List Nat),aV (anm) f:=aC
def aaq(a0:List aN)(a1:aq)(a2:List Int)(a3:List Int):Option ape:=
 bif wF (a1.aW=0)then match bif wF (a1.fN< -1048576)then O (wE)else O (wF (1048576<a1.fN))with|wC=>wC|O r1=>bif r1 then O ((-1048577,1048577))else O ((a1.fN,a1.fN))else bif wF (a1.aW=24)then if(0:Int)<=a1.fN/\a1.fN<(↑a0.length:Int)then if(0:Int)<=a1.fN/\a1.fN<(↑a0.length:Int)then O ((a0[a1.fN.toNat]!.aa,a0[a1.fN.toNat]!.af))else wC else wC else bif wF (a1.aW=6)then if(0:Int)<=(0:Int)/\(0:Int)<(↑a3.length:Int)then if(0:Int)<=(0:Int)/\(0:Int)<(↑a2.length:Int)then O ((i64.wrap (0-a3[0]!),i64.wrap (0-a2[0]!)))else wC else wC else bif wF (a1.aW=8)then if(0:Int)<=(0:Int)/\(0:Int)<(↑a2.length:Int)then if(0:Int)<=(1:Int)/\(1:Int)<(↑a2.length:Int)then if(0:Int)<=(0:Int)/\(0:Int)<(↑a3.length:Int)then if(0:Int)<=(1:Int)/\(1:Int)<(↑a3.length:Int)then O ((i64.wrap (a2[0]! +a2[1]!),i64.wrap (a3[0]! +a3[1]!)))else wC else wC else wC else wC else bif wF (a1.aW=9)then if(0:Int)<=(0:Int)/\(0:Int)<(↑a2.length:Int)then if(0:Int)<=(1:Int)/\(1:Int)<(↑a3.length:Int)then if(0:Int)<=(0:Int)/\(0:Int)<(↑a3.length:Int)then if(0:Int)<=(1:Int)/\(1:Int)<(↑a2.length:Int)then O ((i64.wrap (a2[0]! -a3[1]!),i64.wrap (a3[0]! -a2[1]!)))else wC else wC else wC else wC else bif wF (a1.aW=10)then if(0:Int)<=(0:Int)/\(0:Int)<(↑a2.length:Int)then if(0:Int)<=(1:Int)/\(1:Int)<(↑a2.length:Int)then if(0:Int)<=(0:Int)/\(0:Int)<(↑a2.length:Int)then if(0:Int)<=(1:Int)/\(1:Int)<(↑a3.length:Int)then if(0:Int)<=(0:Int)/\(0:Int)<(↑a3.length:Int)then if(0:Int)<=(1:Int)/\(1:Int)<(↑a2.length:Int)then if(0:Int)<=(0:Int)/\(0:Int)<(↑a3.length:Int)then if(0:Int)<=(1:Int)/\(1:Int)<(↑a3.length:Int)then O ((iP (iP (i64.wrap (a2[0]! *a2[1]!)) (i64.wrap (a2[0]! *a3[1]!))) (iP (i64.wrap (a3[0]! *a2[1]!)) (i64.wrap (a3[0]! *a3[1]!))),jE (jE (i64.wrap (a2[0]! *a2[1]!)) (i64.wrap (a2[0]! *a3[1]!))) (jE (i64.wrap (a3[0]! *a2[1]!)) (i64.wrap (a3[0]! *a3[1]!)))))else wC else wC else wC else wC else wC else wC else wC else wC else bif wF (a1.aW=11)then if(0:Int)<=(0:Int)/\(0:Int)<(↑a2.length:Int)then if(0:Int)<=(0:Int)/\(0:Int)<(↑a3.length:Int)then match if(0:Int)<=(0:Int)/\(0:Int)<(↑a2.length:Int)then bif wF (0<=a2[yI 0]!)then if(0:Int)<=(1:Int)/\(1:Int)<(↑a2.length:Int)then O (wF (0<=a2[yI 1]!))else wC else O (wD)else wC with|wC=>wC|O r2=>bif r2 then O ((0,jE (vg a2[0]!) (vg a3[0]!)))else O ((i64.wrap (0-jE (vg a2[0]!) (vg a3[0]!)),jE (vg a2[0]!) (vg a3[0]!)))else wC else wC else bif wF (a1.aW=12)then if(0:Int)<=(1:Int)/\(1:Int)<(↑a2.length:Int)then if(0:Int)<=(1:Int)/\(1:Int)<(↑a3.length:Int)then O (Ua a2[1]! a3[1]!)else wC else wC else bif wF (a1.aW=21)then if(0:Int)<=(0:Int)/\(0:Int)<(↑a2.length:Int)then if(0:Int)<=(1:Int)/\(1:Int)<(↑a2.length:Int)then if(0:Int)<=(0:Int)/\(0:Int)<(↑a3.length:Int)then if(0:Int)<=(1:Int)/\(1:Int)<(↑a3.length:Int)then O ((iP a2[0]! a2[1]!,iP a3[0]! a3[1]!))else wC else wC else wC else wC else bif wF (a1.aW=22)then if(0:Int)<=(0:Int)/\(0:Int)<(↑a2.length:Int)then if(0:Int)<=(1:Int)/\(1:Int)<(↑a2.length:Int)then if(0:Int)<=(0:Int)/\(0:Int)<(↑a3.length:Int)then if(0:Int)<=(1:Int)/\(1:Int)<(↑a3.length:Int)then O ((jE a2[0]! a2[1]!,jE a3[0]! a3[1]!))else wC else wC else wC else wC else bif wF (a1.aW=23)then if(0:Int)<=(1:Int)/\(1:Int)<(↑a2.length:Int)then if(0:Int)<=(1:Int)/\(1:Int)<(↑a3.length:Int)then match BU (ow.mk a2 a3 a2[1]! a3[1]! (2))with|wC=>wC|O r3=>bif wF (r3.t17<(↑r3.t2.length:Int))then if(0:Int)<=r3.t17/\r3.t17<(↑r3.t2.length:Int)then if(0:Int)<=r3.t17/\r3.t17<(↑r3.t3.length:Int)then wC else wC else wC else O ((r3.t15,r3.t16))else wC else wC else bif wF (a1.aW=25)then if(0:Int)<=(1:Int)/\(1:Int)<(↑a2.length:Int)then if(0:Int)<=(1:Int)/\(1:Int)<(↑a3.length:Int)then match BU (ow.mk a2 a3 a2[1]! a3[1]! (2))with|wC=>wC|O r4=>bif wF (r4.t17<(↑r4.t2.length:Int))then if(0:Int)<=r4.t17/\r4.t17<(↑r4.t2.length:Int)then if(0:Int)<=r4.t17/\r4.t17<(↑r4.t3.length:Int)then wC else wC else wC else O ((r4.t15,r4.t16))else wC else wC else O ((0,1))
def anC:aI->aI:=eL wG 271 wD (lc (ql 131) (lc (qg 137) (lc (ql 3) (lc (ql 3) ln)))) d271 (fun g=>aaq g.1 g.2.1 g.2.2.1 g.2.2.2.1)
theorem XC:EO anC:=fun h=>kL (F:=anm) (an:=(.two .no (.two (.two .no (.two .no (.two (.two (.two (.rb [] 29) .no) .no) (.two .no (.two .no (.two .no (.two .no (.two .no (.two .no (.two .no (.two .no (.two .no (.two .no (.two .no (.two (.two .no (.two (.two (.rb [] 154) .no) .no)) (.two .no (.two .no (.two .no (.two .no (.two .no (.two .no (.two .no (.two (.two .no (.two (.two .no (L3.lp BU .no)) .no)) .no))))))))))))))))))))))) .no))) (l:=[(.skip,(.rb [] 29)),(.skip,(.rb [] 154)),(aU f271 0,(L3.lp BU .no))]) func271 (adT (Y5 (Fo (Gl aK)))) (az afR (az afR (az (aO L3) aC))) h
abbrev qC:Type:=Int×Int×Bool
def d222:Td 0 qC:= .c [] [4,5,6] (.r 0 0 (ec 4 (qi .i64) (ec 5 (qi .i64) (ec 6 qb en))) sn (fun z=>(z.1.1,z.1.2.1,z.1.2.2.1)) (fun x=>((x.1,x.2.1,x.2.2,()),(()))) fun _=>rfl)
def ahb:=(lc (ql 131) (lc (qg 137) ln))
def ak0(M:(List aN)->aq->Option qC):aI->aI:=eL wG 222 wD ahb d222 (fun g=>M g.1 g.2.1)
def ZU(M:(List aN)->aq->Option qC):Prop:=HL wG 222 ahb d222 (fun g=>M g.1 g.2.1)
theorem Ou{M:(List aN)->aq->Option qC}(hM:ZU M){F:aI}(h:bf wG F):bf wG (ak0 M F):=gx (sc:=Ay) dS hM ⟨_,func222,by kernel_rfl,by kernel_rfl⟩ (fun _=>by kernel_rfl) (fun _=>by kernel_rfl) h
def ajP(M222:(List aN)->aq->Option qC):aI:=(anC (ak0 M222 cQ))
theorem ab3{M222}(h222:ZU M222):bf wG (ajP M222):=(XC (Ou h222 aK))
structure rT where
 t0:List aN
 (t7 t8:List Int)
 t9:Int
 b0:aq
def LR:Td 0 rT:= .c [] [0,3,7,8,9] (.r 0 3 (ec 0 (ql 131) (ec 3 (qp 0 0) (ec 7 (qo 1) (ec 8 (qo 2) (ec 9 (qi .i64) en))))) (sb 0 137 (lg 137) (sr 1 3 (sr 2 3 sn))) (fun z=>⟨z.1.1,z.2.2.1,z.2.2.2.1,z.1.2.2.2.2.1,z.2.1⟩) (fun x=>((x.t0,(),(),(),x.t9,()),(x.b0,x.t7,x.t8,()))) fun _=>rfl)
def Bg(M222:(List aN)->aq->Option qC)(p:rT):Option (Option rT):=
 bif wF (p.t9<(↑p.b0.ak.length:Int))then if(0:Int)<=p.t9/\p.t9<(↑p.b0.ak.length:Int)then match M222 p.t0 (aq.mk p.b0.ak[p.t9.toNat]!.aW p.b0.ak[p.t9.toNat]!.fN p.b0.ak[p.t9.toNat]!.ak)with|wC=>wC|O r1=>bif bif r1.snd.snd then wD else wE then O (wC)else if(p.t7++[r1.fst]).length<=1073741824 then if(p.t8++[r1.snd.fst]).length<=1073741824 then O (O (rT.mk p.t0 (p.t7++[r1.fst]) (p.t8++[r1.snd.fst]) (i64.wrap (p.t9+1)) (aq.mk p.b0.aW p.b0.fN p.b0.ak)))else wC else wC else wC else O (wC)
def Hs(M222:(List aN)->aq->Option qC):rT->Option rT:=bw (Bg M222)
def aeI(M222:(List aN)->aq->Option qC):An:=(.two .no (.two .no (.two .no (.two (.two .no (LR.lp (Hs M222) .no)) .no))))
theorem aq5(M222:(List aN)->aq->Option qC):eW wG (ajP M222) 0 300 222 (aeI M222):=bV (l:=[(aU f222 0,(LR.lp (Hs M222) .no))]) func222 (bB (by kernel_rfl)) (by kernel_rfl) (az (aO LR) aC)
def ZY(M222:(List aN)->aq->Option qC)(a0:List aN)(a1:aq):Option qC:=
 match Hs M222 (rT.mk a0 [] [] (0) (aq.mk a1.aW a1.fN a1.ak))with|wC=>wC|O r2=>bif wF (r2.t9<(↑r2.b0.ak.length:Int))then if(0:Int)<=r2.t9/\r2.t9<(↑r2.b0.ak.length:Int)then match M222 r2.t0 (aq.mk r2.b0.ak[r2.t9.toNat]!.aW r2.b0.ak[r2.t9.toNat]!.fN r2.b0.ak[r2.t9.toNat]!.ak)with|wC=>wC|O r3=>bif bif r3.snd.snd then wD else wE then O ((0,0,wD))else if(r2.t7++[r3.fst]).length<=1073741824 then if(r2.t8++[r3.snd.fst]).length<=1073741824 then wC else wC else wC else wC else match aaq r2.t0 (aq.mk r2.b0.aW r2.b0.fN r2.b0.ak) r2.t7 r2.t8 with|wC=>wC|O r4=>bif wF (-1048576<=r4.fst)then O ((r4.fst,r4.snd,wF (r4.snd<=1048576)))else O ((r4.fst,r4.snd,wD))
theorem atN(M222:(List aN)->aq->Option qC)(a0:List aN)(a1:aq):bN wG (ajP M222) 300 (aeI M222) 222 (ahb.c (a0,a1,())) [] 0 d222.rd=ZY M222 a0 a1:=by kernel_rfl
def aeZ:Nat->((List aN)->aq->Option qC)
 |0=>(fun _ _=>wC)
 |n+1=>(ZY (aeZ n))
def MV(n:Nat):(List aN)->aq->Option qC:=(aeZ n)
theorem IX:∀n,ZU (MV n)
 |0=>fun _ _ h=>(by cases h)
 |n+1=>by
  have ih:=IX n
  have i222:=ih
  exact(dH (ab3 i222) (aq5 (MV n)) (fun _=>by kernel_rfl) (fun _=>by kernel_rfl) fun g=>atN (MV n) g.1 g.2.1)
def YB:(List aN)->aq->Option qC:=fun a0 a1=>lim (fun n=>MV n a0 a1)
theorem acu:ZU YB:=fun g b h=>by
 obtain⟨n,hn⟩:=cD (show lim (fun n=>MV n g.1 g.2.1)=O b from h)
 exact(IX n) g b hn
def auC(F:aI):aI:=ak0 YB F
theorem Yd{F:aI}(h:bf wG F):bf wG (auC F):=Ou acu h
abbrev aqZ:Type:=Int
def d142:Td 0 aqZ:= .c [] [6] (.r 0 0 (ec 6 (qi .i64) en) sn (fun z=>z.1.1) (fun x=>((x,()),(()))) fun _=>rfl)
def Ht(a0:List aN)(a1:aq)(a2:Bool):Option aqZ:=
 match Yb a0 (aq.mk a1.aW a1.fN a1.ak) a2 with|wC=>wC|O r1=>bif bif r1 then wD else wE then O (1)else match YB a0 (aq.mk a1.aW a1.fN a1.ak)with|wC=>wC|O r2=>bif bif r2.snd.snd then wD else wE then O (3)else O (0)
def aaP:aI->aI:=eL wG 142 wD (lc (ql 131) (lc (qg 137) (lc qb ln))) d142 (fun g=>Ht g.1 g.2.1 g.2.2.1)
theorem OX:EO aaP:=fun h=>kL (an:= .no) func142 (Yd (Zr aK)) aC h
theorem SL:EP aaP:=fun h=>kP h
def ah2:aI:=cQ
abbrev ajK:Type:=Bool
def d272:Td 0 ajK:= .c [] [2] (.r 0 0 (ec 2 qb en) sn (fun z=>z.1.1) (fun x=>((x,()),(()))) fun _=>rfl)
def anD:=(lc (qg 137) ln)
def afG:An:=(.two .no (.two (.rb [] 2) .no))
theorem aqO:∀f∈([]:List Nat),aV (ah2) f:=aC
def Jb(a0:aq):ajK:=
 let r1:Bool:=bif wF (a0.aW=0)then bif wF (a0.fN=0)then wF ((↑a0.ak.length:Int)=0)else wD else wD;r1
theorem as9(a0:aq):bN wG (ah2) 300 (afG) 272 (anD.c (a0,())) [] 0 d272.rd=O (Jb a0):=by
 refine Eq.trans (b:=(
  match bif wF (a0.aW=0)then bif wF (a0.fN=0)then O (wF ((↑a0.ak.length:Int)=0))else O (wD)else O (wD)with|wC=>wC|O r1=>O (r1):Option ajK)) (by kernel_rfl) ?_
 simp only[Jb,bZ,cu]
def akE:aI->aI:=eL wG 272 wD anD d272 (fun g=>O (Jb g.1))
theorem ZN:EO akE:=fun h=>kL (F:=ah2) (an:=afG) (l:=[(.skip,(.rb [] 2))]) func272 aK (az aqO aC) h (c:=fun g=>as9 g.1)
theorem DV:EP akE:=fun h=>kP h
def ao0:aI:=cQ
structure rZ where
 t0:List Int
 t3:Int
def LU:Td 0 rZ:= .c [] [0,3] (.r 0 0 (ec 0 (ql 3) (ec 3 (qi .i64) en)) sn (fun z=>⟨z.1.1,z.1.2.1⟩) (fun x=>((x.t0,x.t3,()),(()))) fun _=>rfl)
def Gs(p:rZ):Option (Option rZ):=
 bif wF (p.t3<(↑p.t0.length:Int))then if(0:Int)<=p.t3/\p.t3<(↑p.t0.length:Int)then if(0:Int)<=i64.wrap (p.t3-(1:Int))/\i64.wrap (p.t3-(1:Int))<(↑p.t0.length:Int)then bif wF (((p.t0,p.t3,()),()).fst.fst[((p.t0,p.t3,()),()).fst.snd.fst.toNat]!<=((p.t0,p.t3,()),()).fst.fst[(i64.wrap (((p.t0,p.t3,()),()).fst.snd.fst-1)).toNat]!)then O (wC)else O (O (rZ.mk p.t0 (i64.wrap (p.t3+1))))else wC else wC else O (wC)
def Gq:rZ->Option rZ:=bw (Gs)
abbrev aoe:Type:=Bool
def d273:Td 0 aoe:= .c [] [2] (.r 0 0 (ec 2 qb en) sn (fun z=>z.1.1) (fun x=>((x,()),(()))) fun _=>rfl)
theorem aoi:∀f∈([]:List Nat),aV (ao0) f:=aC
def acS(a0:List Int):Option aoe:=
 match bif wF ((↑a0.length:Int)<1)then O (wE)else bif wF (32<(↑a0.length:Int))then O (wE)else if(0:Int)<=(0:Int)/\(0:Int)<(↑a0.length:Int)then O (wF (a0[yI 0]! <0))else wC with|wC=>wC|O r1=>bif r1 then O (wD)else match Gq (rZ.mk a0 (1))with|wC=>wC|O r2=>bif wF (r2.t3<(↑r2.t0.length:Int))then if(0:Int)<=r2.t3/\r2.t3<(↑r2.t0.length:Int)then if(0:Int)<=i64.wrap (r2.t3-(1:Int))/\i64.wrap (r2.t3-(1:Int))<(↑r2.t0.length:Int)then bif wF (((r2.t0,r2.t3,()),()).fst.fst[((r2.t0,r2.t3,()),()).fst.snd.fst.toNat]!<=((r2.t0,r2.t3,()),()).fst.fst[(i64.wrap (((r2.t0,r2.t3,()),()).fst.snd.fst-1)).toNat]!)then O (wD)else wC else wC else wC else O (wE)
def akZ:aI->aI:=eL wG 273 wD (lc (ql 3) ln) d273 (fun g=>acS g.1)
theorem ach:EO akZ:=fun h=>kL (F:=ao0) (an:=(.two .no (.two (.two (.rb [] 17) .no) (.two (.two .no (LU.lp Gq .no)) .no)))) (l:=[(.skip,(.rb [] 17)),(aU f273 0,(LU.lp Gq .no))]) func273 aK (az aoi (az (aO LU) aC)) h
theorem EI:EP akZ:=fun h=>kP h
def anK:aI:=(akZ (akE cQ))
abbrev am0:Type:=Bool
def d223:Td 0 am0:= .c [] [6] (.r 0 0 (ec 6 qb en) sn (fun z=>z.1.1) (fun x=>((x,()),(()))) fun _=>rfl)
theorem tL:∀f∈([272,273]:List Nat),aV (anK) f:=(az (EI (DV aZ)) (az (EI (DV aZ)) aC))
def LI(a0:Flat)(a1:GStep)(a2:Bool):Option am0:=
 match bif wF ((↑a1.aG.length:Int)=0)then O (wF ((↑a1.aJ.length:Int)=0))else O (wD)with|wC=>wC|O r1=>match bif wF (0<=a1.cG)then bif wF (a1.cG<(↑a0.ag.length:Int))then if(0:Int)<=a1.cG/\a1.cG<(↑a0.ag.length:Int)then O (wF (a0.ag[a1.cG.toNat]!.aY=0))else wC else O (wD)else O (wD)with|wC=>wC|O r2=>bif wF (a1.bH=0)then match bif r1 then bif r2 then bif wF (a1.fN=0)then O (wF ((↑a1.aH.length:Int)=0))else O (wD)else O (wD)else O (wD)with|wC=>wC|O r3=>O (r3)else bif wF (a1.bH=1)then match bif r1 then bif wF (a1.cG=0)then bif wF (a1.fN=0)then O (wF ((↑a1.aH.length:Int)=0))else O (wD)else O (wD)else O (wD)with|wC=>wC|O r4=>O (r4)else bif wF (a1.bH=2)then match bif r1 then bif wF (a1.cG=0)then bif wF (a1.fN=0)then bif wF ((↑a1.aH.length:Int)=0)then O (Jb (aq.mk a1.ay.aW a1.ay.fN a1.ay.ak))else O (wD)else O (wD)else O (wD)else O (wD)with|wC=>wC|O r5=>O (r5)else bif wF (a1.bH=3)then match bif wF (a1.cG=0)then bif wF (a1.fN=0)then O (wF ((↑a1.aH.length:Int)=0))else O (wD)else O (wD)with|wC=>wC|O r6=>O (r6)else bif wF (a1.bH=4)then match bif wF (a1.cG=0)then bif wF ((↑a1.aJ.length:Int)=0)then O (wF ((↑a1.aH.length:Int)=0))else O (wD)else O (wD)with|wC=>wC|O r7=>O (r7)else bif wF (a1.bH=5)then match bif r1 then bif r2 then bif wF (0<=a1.fN)then bif wF (a1.fN<(↑a0.ai.length:Int))then bif wF ((↑a1.aH.length:Int)=0)then O (Jb (aq.mk a1.ay.aW a1.ay.fN a1.ay.ak))else O (wD)else O (wD)else O (wD)else O (wD)else O (wD)with|wC=>wC|O r8=>O (r8)else bif wF (a1.bH=6)then match bif r1 then bif a2 then bif wF (a1.cG=0)then bif wF (a1.fN=0)then bif Jb (aq.mk a1.ay.aW a1.ay.fN a1.ay.ak)then match acS a1.aH with|wC=>wC|O r9=>O (r9)else O (wD)else O (wD)else O (wD)else O (wD)else O (wD)with|wC=>wC|O r10=>O (r10)else O (wD)
def aie:aI->aI:=eL wG 223 wD (lc (qg 26) (lc (qg 166) (lc qb ln))) d223 (fun g=>LI g.1 g.2.1 g.2.2.1)
theorem aee:EO aie:=fun h=>kL (F:=anK) (an:=(.two .no (.two (.rb [272,273] 7) (.two (.rb [272,273] 8) (.two (.two .no (.two .no (.two (.two (.rb [272,273] 6) .no) (.two .no (.two (.two (.rb [272,273] 6) .no) (.two .no (.two (.two (.rb [272,273] 6) .no) (.two .no (.two (.two (.rb [272,273] 6) .no) (.two .no (.two (.two (.rb [272,273] 6) .no) (.two .no (.two (.two (.rb [272,273] 6) .no) (.two .no (.two (.two (.rb [272,273] 6) .no) .no))))))))))))))) .no))))) (l:=[(.skip,(.rb [272,273] 7)),(.skip,(.rb [272,273] 8)),(.skip,(.rb [272,273] 6)),(.skip,(.rb [272,273] 6)),(.skip,(.rb [272,273] 6)),(.skip,(.rb [272,273] 6)),(.skip,(.rb [272,273] 6)),(.skip,(.rb [272,273] 6)),(.skip,(.rb [272,273] 6))]) func223 (ach (ZN aK)) (az tL (az tL (az tL (az tL (az tL (az tL (az tL (az tL (az tL aC))))))))) h
theorem Sq:EP aie:=fun h=>kP h
abbrev m8:Type:=Int
def d143:Td 0 m8:= .c [] [6] (.r 0 0 (ec 6 (qi .i64) en) sn (fun z=>z.1.1) (fun x=>((x,()),(()))) fun _=>rfl)
def ai5:=(lc (qg 26) (lc (ql 166) (lc qb ln)))
def adg(M:Flat->(List GStep)->Bool->Option m8):aI->aI:=eL wG 143 wD ai5 d143 (fun g=>M g.1 g.2.1 g.2.2.1)
theorem S0{M:Flat->(List GStep)->Bool->Option m8}{F:aI}{f:Nat}(h:aV F f):aV (adg M F) f:=fW h (fun _=>by kernel_rfl)
def ZA(M:Flat->(List GStep)->Bool->Option m8):Prop:=HL wG 143 ai5 d143 (fun g=>M g.1 g.2.1 g.2.2.1)
theorem Oh{M:Flat->(List GStep)->Bool->Option m8}(hM:ZA M){F:aI}(h:bf wG F):bf wG (adg M F):=gx (sc:=Ay) dS hM ⟨_,func143,by kernel_rfl,by kernel_rfl⟩ (fun _=>by kernel_rfl) (fun _=>by kernel_rfl) h
def Yq(M143:Flat->(List GStep)->Bool->Option m8):aI:=(aie (adg M143 (aaP cQ)))
theorem abT{M143}(h143:ZA M143):bf wG (Yq M143):=(aee (Oh h143 (OX aK)))
structure oN where
 t1:List GStep
 t2:Bool
 t7:Int
 b0:Flat
def Mb:Td 0 oN:= .c [] [1,2,3,7] (.r 0 1 (ec 1 (ql 166) (ec 2 qb (ec 3 (qp 0 0) (ec 7 (qi .i64) en)))) (sb 0 26 (lg 26) sn) (fun z=>⟨z.1.1,z.1.2.1,z.1.2.2.2.1,z.2.1⟩) (fun x=>((x.t1,x.t2,(),x.t7,()),(x.b0,()))) fun _=>rfl)
def wI(M143:Flat->(List GStep)->Bool->Option m8)(p:oN):Option (Option oN):=
 bif wF (p.t7<(↑p.t1.length:Int))then if(0:Int)<=p.t7/\p.t7<(↑p.t1.length:Int)then match bif p.t2 then match LI p.b0 (GStep.mk p.t1[p.t7.toNat]!.bH p.t1[p.t7.toNat]!.aL p.t1[p.t7.toNat]!.cG p.t1[p.t7.toNat]!.fN (aq.mk p.t1[p.t7.toNat]!.ay.aW p.t1[p.t7.toNat]!.ay.fN p.t1[p.t7.toNat]!.ay.ak) p.t1[p.t7.toNat]!.aG p.t1[p.t7.toNat]!.aJ p.t1[p.t7.toNat]!.aH) (wF (((p.t1,p.t2,(),p.t7,()),p.b0,()).fst.snd.snd.snd.fst=i64.wrap ((↑((p.t1,p.t2,(),p.t7,()),p.b0,()).fst.fst.length:Int)-1)))with|wC=>wC|O r1=>O (bif r1 then wD else wE)else match LI p.b0 (GStep.mk p.t1[p.t7.toNat]!.bH p.t1[p.t7.toNat]!.aL p.t1[p.t7.toNat]!.cG p.t1[p.t7.toNat]!.fN (aq.mk p.t1[p.t7.toNat]!.ay.aW p.t1[p.t7.toNat]!.ay.fN p.t1[p.t7.toNat]!.ay.ak) p.t1[p.t7.toNat]!.aG p.t1[p.t7.toNat]!.aJ p.t1[p.t7.toNat]!.aH) wD with|wC=>wC|O r2=>O (bif r2 then wD else wE)with|wC=>wC|O r3=>bif r3 then O (wC)else bif wF (p.t1[p.t7.toNat]!.bH=2)then match bif wF (p.t1[p.t7.toNat]!.aL<0)then O (wE)else bif wF (67108864<p.t1[p.t7.toNat]!.aL)then O (wE)else bif wF (p.t1[p.t7.toNat]!.fN<0)then O (wE)else bif wF (p.t1[p.t7.toNat]!.bH=4)then O (wF (4096<p.t1[p.t7.toNat]!.fN))else O (wD)with|wC=>wC|O r4=>bif r4 then O (wC)else match bif wF (0<(↑p.t1[p.t7.toNat]!.aH.length:Int))then if(0:Int)<=i64.wrap ((↑p.t1[p.t7.toNat]!.aH.length:Int)-(1:Int))/\i64.wrap ((↑p.t1[p.t7.toNat]!.aH.length:Int)-(1:Int))<(↑p.t1[p.t7.toNat]!.aH.length:Int)then O (wF (67108864<((p.t1,p.t2,(),p.t7,()),p.b0,()).fst.fst[((p.t1,p.t2,(),p.t7,()),p.b0,()).fst.snd.snd.snd.fst.toNat]!.aH[(i64.wrap ((↑((p.t1,p.t2,(),p.t7,()),p.b0,()).fst.fst[((p.t1,p.t2,(),p.t7,()),p.b0,()).fst.snd.snd.snd.fst.toNat]!.aH.length:Int)-1)).toNat]!))else wC else O (wD)with|wC=>wC|O r5=>bif r5 then O (wC)else match Ht p.b0.ag (aq.mk p.t1[p.t7.toNat]!.ay.aW p.t1[p.t7.toNat]!.ay.fN p.t1[p.t7.toNat]!.ay.ak) wD with|wC=>wC|O r6=>bif bif wF (r6=0)then wD else wE then O (wC)else match M143 p.b0 p.t1[p.t7.toNat]!.aG wD with|wC=>wC|O r7=>bif bif wF (r7=0)then wD else wE then O (wC)else match M143 p.b0 p.t1[p.t7.toNat]!.aJ wD with|wC=>wC|O r8=>bif bif wF (r8=0)then wD else wE then O (wC)else O (O (oN.mk p.t1 p.t2 (i64.wrap (p.t7+1)) p.b0))else match bif wF (p.t1[p.t7.toNat]!.aL<0)then O (wE)else bif wF (10000<p.t1[p.t7.toNat]!.aL)then O (wE)else bif wF (p.t1[p.t7.toNat]!.fN<0)then O (wE)else bif wF (p.t1[p.t7.toNat]!.bH=4)then O (wF (4096<p.t1[p.t7.toNat]!.fN))else O (wD)with|wC=>wC|O r9=>bif r9 then O (wC)else match bif wF (0<(↑p.t1[p.t7.toNat]!.aH.length:Int))then if(0:Int)<=i64.wrap ((↑p.t1[p.t7.toNat]!.aH.length:Int)-(1:Int))/\i64.wrap ((↑p.t1[p.t7.toNat]!.aH.length:Int)-(1:Int))<(↑p.t1[p.t7.toNat]!.aH.length:Int)then O (wF (67108864<((p.t1,p.t2,(),p.t7,()),p.b0,()).fst.fst[((p.t1,p.t2,(),p.t7,()),p.b0,()).fst.snd.snd.snd.fst.toNat]!.aH[(i64.wrap ((↑((p.t1,p.t2,(),p.t7,()),p.b0,()).fst.fst[((p.t1,p.t2,(),p.t7,()),p.b0,()).fst.snd.snd.snd.fst.toNat]!.aH.length:Int)-1)).toNat]!))else wC else O (wD)with|wC=>wC|O r10=>bif r10 then O (wC)else match Ht p.b0.ag (aq.mk p.t1[p.t7.toNat]!.ay.aW p.t1[p.t7.toNat]!.ay.fN p.t1[p.t7.toNat]!.ay.ak) wD with|wC=>wC|O r11=>bif bif wF (r11=0)then wD else wE then O (wC)else match M143 p.b0 p.t1[p.t7.toNat]!.aG wD with|wC=>wC|O r12=>bif bif wF (r12=0)then wD else wE then O (wC)else match M143 p.b0 p.t1[p.t7.toNat]!.aJ wD with|wC=>wC|O r13=>bif bif wF (r13=0)then wD else wE then O (wC)else O (O (oN.mk p.t1 p.t2 (i64.wrap (p.t7+1)) p.b0))else wC else O (wC)
def Wp(M143:Flat->(List GStep)->Bool->Option m8):An:=(.two .no (.two (.two .no (.two (.two (.rb [223] 32) .no) (.two .no (.two .no (.two (.two (.rb [223] 59) .no) (.two (.two (.rb [223] 74) .no) .no)))))) .no))
def Fb(M143:Flat->(List GStep)->Bool->Option m8):oN->Option oN:=bw (wI M143)
def agh(M143:Flat->(List GStep)->Bool->Option m8):An:=(.two .no (.two (.two .no (Mb.lp (Fb M143) (Wp M143))) .no))
theorem VR{M143}:∀f∈([223]:List Nat),aV (Yq M143) f:=(az (Sq (S0 (SL aZ))) aC)
theorem amc(M143:Flat->(List GStep)->Bool->Option m8):eW wG (Yq M143) 0 300 143 (agh M143):=bV (l:=[(aU f143 0,(Mb.lp (Fb M143) (Wp M143))),(.skip,(.rb [223] 32)),(.skip,(.rb [223] 59)),(.skip,(.rb [223] 74))]) func143 (bB (by kernel_rfl)) (by kernel_rfl) (az (aO Mb) (az VR (az VR (az VR aC))))
def aa2(M143:Flat->(List GStep)->Bool->Option m8)(a0:Flat)(a1:List GStep)(a2:Bool):Option m8:=
 match Fb M143 (oN.mk a1 a2 (0) a0)with|wC=>wC|O r14=>bif wF (r14.t7<(↑r14.t1.length:Int))then if(0:Int)<=r14.t7/\r14.t7<(↑r14.t1.length:Int)then match bif r14.t2 then match LI r14.b0 (GStep.mk r14.t1[r14.t7.toNat]!.bH r14.t1[r14.t7.toNat]!.aL r14.t1[r14.t7.toNat]!.cG r14.t1[r14.t7.toNat]!.fN (aq.mk r14.t1[r14.t7.toNat]!.ay.aW r14.t1[r14.t7.toNat]!.ay.fN r14.t1[r14.t7.toNat]!.ay.ak) r14.t1[r14.t7.toNat]!.aG r14.t1[r14.t7.toNat]!.aJ r14.t1[r14.t7.toNat]!.aH) (wF (((r14.t1,r14.t2,(),r14.t7,()),r14.b0,()).fst.snd.snd.snd.fst=i64.wrap ((↑((r14.t1,r14.t2,(),r14.t7,()),r14.b0,()).fst.fst.length:Int)-1)))with|wC=>wC|O r15=>O (bif r15 then wD else wE)else match LI r14.b0 (GStep.mk r14.t1[r14.t7.toNat]!.bH r14.t1[r14.t7.toNat]!.aL r14.t1[r14.t7.toNat]!.cG r14.t1[r14.t7.toNat]!.fN (aq.mk r14.t1[r14.t7.toNat]!.ay.aW r14.t1[r14.t7.toNat]!.ay.fN r14.t1[r14.t7.toNat]!.ay.ak) r14.t1[r14.t7.toNat]!.aG r14.t1[r14.t7.toNat]!.aJ r14.t1[r14.t7.toNat]!.aH) wD with|wC=>wC|O r16=>O (bif r16 then wD else wE)with|wC=>wC|O r17=>bif r17 then O (1)else bif wF (r14.t1[r14.t7.toNat]!.bH=2)then match bif wF (r14.t1[r14.t7.toNat]!.aL<0)then O (wE)else bif wF (67108864<r14.t1[r14.t7.toNat]!.aL)then O (wE)else bif wF (r14.t1[r14.t7.toNat]!.fN<0)then O (wE)else bif wF (r14.t1[r14.t7.toNat]!.bH=4)then O (wF (4096<r14.t1[r14.t7.toNat]!.fN))else O (wD)with|wC=>wC|O r18=>bif r18 then O (3)else match bif wF (0<(↑r14.t1[r14.t7.toNat]!.aH.length:Int))then if(0:Int)<=i64.wrap ((↑r14.t1[r14.t7.toNat]!.aH.length:Int)-(1:Int))/\i64.wrap ((↑r14.t1[r14.t7.toNat]!.aH.length:Int)-(1:Int))<(↑r14.t1[r14.t7.toNat]!.aH.length:Int)then O (wF (67108864<((r14.t1,r14.t2,(),r14.t7,()),r14.b0,()).fst.fst[((r14.t1,r14.t2,(),r14.t7,()),r14.b0,()).fst.snd.snd.snd.fst.toNat]!.aH[(i64.wrap ((↑((r14.t1,r14.t2,(),r14.t7,()),r14.b0,()).fst.fst[((r14.t1,r14.t2,(),r14.t7,()),r14.b0,()).fst.snd.snd.snd.fst.toNat]!.aH.length:Int)-1)).toNat]!))else wC else O (wD)with|wC=>wC|O r19=>bif r19 then O (3)else match Ht r14.b0.ag (aq.mk r14.t1[r14.t7.toNat]!.ay.aW r14.t1[r14.t7.toNat]!.ay.fN r14.t1[r14.t7.toNat]!.ay.ak) wD with|wC=>wC|O r20=>bif bif wF (r20=0)then wD else wE then O (r20)else match M143 r14.b0 r14.t1[r14.t7.toNat]!.aG wD with|wC=>wC|O r21=>bif bif wF (r21=0)then wD else wE then O (r21)else match M143 r14.b0 r14.t1[r14.t7.toNat]!.aJ wD with|wC=>wC|O r22=>bif bif wF (r22=0)then wD else wE then O (r22)else wC else match bif wF (r14.t1[r14.t7.toNat]!.aL<0)then O (wE)else bif wF (10000<r14.t1[r14.t7.toNat]!.aL)then O (wE)else bif wF (r14.t1[r14.t7.toNat]!.fN<0)then O (wE)else bif wF (r14.t1[r14.t7.toNat]!.bH=4)then O (wF (4096<r14.t1[r14.t7.toNat]!.fN))else O (wD)with|wC=>wC|O r23=>bif r23 then O (3)else match bif wF (0<(↑r14.t1[r14.t7.toNat]!.aH.length:Int))then if(0:Int)<=i64.wrap ((↑r14.t1[r14.t7.toNat]!.aH.length:Int)-(1:Int))/\i64.wrap ((↑r14.t1[r14.t7.toNat]!.aH.length:Int)-(1:Int))<(↑r14.t1[r14.t7.toNat]!.aH.length:Int)then O (wF (67108864<((r14.t1,r14.t2,(),r14.t7,()),r14.b0,()).fst.fst[((r14.t1,r14.t2,(),r14.t7,()),r14.b0,()).fst.snd.snd.snd.fst.toNat]!.aH[(i64.wrap ((↑((r14.t1,r14.t2,(),r14.t7,()),r14.b0,()).fst.fst[((r14.t1,r14.t2,(),r14.t7,()),r14.b0,()).fst.snd.snd.snd.fst.toNat]!.aH.length:Int)-1)).toNat]!))else wC else O (wD)with|wC=>wC|O r24=>bif r24 then O (3)else match Ht r14.b0.ag (aq.mk r14.t1[r14.t7.toNat]!.ay.aW r14.t1[r14.t7.toNat]!.ay.fN r14.t1[r14.t7.toNat]!.ay.ak) wD with|wC=>wC|O r25=>bif bif wF (r25=0)then wD else wE then O (r25)else match M143 r14.b0 r14.t1[r14.t7.toNat]!.aG wD with|wC=>wC|O r26=>bif bif wF (r26=0)then wD else wE then O (r26)else match M143 r14.b0 r14.t1[r14.t7.toNat]!.aJ wD with|wC=>wC|O r27=>bif bif wF (r27=0)then wD else wE then O (r27)else wC else wC else O (0)
theorem asd(M143:Flat->(List GStep)->Bool->Option m8)(a0:Flat)(a1:List GStep)(a2:Bool):bN wG (Yq M143) 300 (agh M143) 143 (ai5.c (a0,a1,a2,())) [] 0 d143.rd=aa2 M143 a0 a1 a2:=by kernel_rfl
def agk:Nat->(Flat->(List GStep)->Bool->Option m8)
 |0=>(fun _ _ _=>wC)
 |n+1=>(aa2 (agk n))
def LL(n:Nat):Flat->(List GStep)->Bool->Option m8:=(agk n)
theorem It:∀n,ZA (LL n)
 |0=>fun _ _ h=>(by cases h)
 |n+1=>by
  have ih:=It n
  have i143:=ih
  exact(dH (abT i143) (amc (LL n)) (fun _=>by kernel_rfl) (fun _=>by kernel_rfl) fun g=>asd (LL n) g.1 g.2.1 g.2.2.1)
def aaR:Flat->(List GStep)->Bool->Option m8:=fun a0 a1 a2=>lim (fun n=>LL n a0 a1 a2)
theorem XM:ZA aaR:=fun g b h=>by
 obtain⟨n,hn⟩:=cD (show lim (fun n=>LL n g.1 g.2.1 g.2.2.1)=O b from h)
 exact(It n) g b hn
def amd(F:aI):aI:=adg aaR F
theorem YS{F:aI}(h:bf wG F):bf wG (amd F):=Oh XM h
def F78:aI:=(amd (aaP (aaQ (ZH (alY (aoK (e90 cQ)))))))
structure wY where
 (t4 t6:Int)
 b0:Flat
 b1:cA
def UH:Td 0 wY:= .c [] [1,4,5,6] (.r 0 2 (ec 1 (qp 0 0) (ec 4 (qi .i64) (ec 5 (qp 1 0) (ec 6 (qi .i64) en)))) (sb 0 26 (lg 26) (sb 1 139 (lg 139) sn)) (fun z=>⟨z.1.2.1,z.1.2.2.2.1,z.2.1,z.2.2.1⟩) (fun x=>(((),x.t4,(),x.t6,()),(x.b0,x.b1,()))) fun _=>rfl)
def Oz(p:wY):Option (Option wY):=
 bif wF (p.t6<p.t4)then if(0:Int)<=p.t6/\p.t6<(↑p.b0.ai.length:Int)then bif p.b0.ai[p.t6.toNat]!.fName.toList==p.b1.fName.toList then O (wC)else O (O (wY.mk p.t4 (i64.wrap (p.t6+1)) p.b0 (cA.mk p.b1.fName p.b1.aa p.b1.af (aq.mk p.b1.ay.aW p.b1.ay.fN p.b1.ay.ak))))else wC else O (wC)
def Jl:wY->Option wY:=bw (Oz)
structure CJ where
 t4:Int
 b0:Flat
def V6:Td 0 CJ:= .c [] [1,4] (.r 0 1 (ec 1 (qp 0 0) (ec 4 (qi .i64) en)) (sb 0 26 (lg 26) sn) (fun z=>⟨z.1.2.1,z.2.1⟩) (fun x=>(((),x.t4,()),(x.b0,()))) fun _=>rfl)
def Ek(p:CJ):Option (Option CJ):=
 bif wF (p.t4<(↑p.b0.ai.length:Int))then if(0:Int)<=p.t4/\p.t4<(↑p.b0.ai.length:Int)then match ND p.b0.ai[p.t4.toNat]!.fName with|wC=>wC|O r1=>bif bif r1 then wD else wE then O (wC)else match Jl (wY.mk p.t4 (0) p.b0 (cA.mk p.b0.ai[p.t4.toNat]!.fName p.b0.ai[p.t4.toNat]!.aa p.b0.ai[p.t4.toNat]!.af (aq.mk p.b0.ai[p.t4.toNat]!.ay.aW p.b0.ai[p.t4.toNat]!.ay.fN p.b0.ai[p.t4.toNat]!.ay.ak)))with|wC=>wC|O r2=>bif wF (r2.t6<r2.t4)then if(0:Int)<=r2.t6/\r2.t6<(↑r2.b0.ai.length:Int)then bif r2.b0.ai[r2.t6.toNat]!.fName.toList==r2.b1.fName.toList then O (wC)else wC else wC else bif bif E7 r2.b1.aa r2.b1.af then wD else wE then O (wC)else match Ht r2.b0.ag (aq.mk r2.b1.ay.aW r2.b1.ay.fN r2.b1.ay.ak) wE with|wC=>wC|O r3=>bif bif wF (r3=0)then wD else wE then O (wC)else O (O (CJ.mk (i64.wrap (r2.t4+1)) r2.b0))else wC else O (wC)
def aeE:An:=(.two .no (.two (.two .no (.two .no (.two (.two .no (UH.lp Jl .no)) .no))) .no))
def P7:CJ->Option CJ:=bw (Ek)
abbrev E78:Type:=Int
def d78:Td 0 E78:= .c [] [2] (.r 0 0 (ec 2 (qi .i64) en) sn (fun z=>z.1.1) (fun x=>((x,()),(()))) fun _=>rfl)
theorem auZ:∀f∈([]:List Nat),aV (F78) f:=aC
def m78(a0:Flat):Option E78:=
 match acT a0 with|wC=>wC|O r4=>bif bif r4 then wD else wE then O (4)else match abi a0.ag with|wC=>wC|O r5=>bif bif wF (r5=0)then wD else wE then O (r5)else match P7 (CJ.mk (0) a0)with|wC=>wC|O r6=>bif wF (r6.t4<(↑r6.b0.ai.length:Int))then if(0:Int)<=r6.t4/\r6.t4<(↑r6.b0.ai.length:Int)then match ND r6.b0.ai[r6.t4.toNat]!.fName with|wC=>wC|O r7=>bif bif r7 then wD else wE then O (7)else match Jl (wY.mk r6.t4 (0) r6.b0 (cA.mk r6.b0.ai[r6.t4.toNat]!.fName r6.b0.ai[r6.t4.toNat]!.aa r6.b0.ai[r6.t4.toNat]!.af (aq.mk r6.b0.ai[r6.t4.toNat]!.ay.aW r6.b0.ai[r6.t4.toNat]!.ay.fN r6.b0.ai[r6.t4.toNat]!.ay.ak)))with|wC=>wC|O r8=>bif wF (r8.t6<r8.t4)then if(0:Int)<=r8.t6/\r8.t6<(↑r8.b0.ai.length:Int)then bif r8.b0.ai[r8.t6.toNat]!.fName.toList==r8.b1.fName.toList then O (8)else wC else wC else bif bif E7 r8.b1.aa r8.b1.af then wD else wE then O (3)else match Ht r8.b0.ag (aq.mk r8.b1.ay.aW r8.b1.ay.fN r8.b1.ay.ak) wE with|wC=>wC|O r9=>bif bif wF (r9=0)then wD else wE then O (r9)else wC else wC else match aaR r6.b0 r6.b0.bk wE with|wC=>wC|O r10=>bif bif wF (r10=0)then wD else wE then O (r10)else match r90 r6.b0.bk with|wC=>wC|O r11=>match bif wF (4096<r11.fst)then O (wE)else bif wF (8<r11.snd.fst)then O (wE)else O (wF (67108864<r11.snd.snd))with|wC=>wC|O r12=>bif r12 then O (4)else O (0)
def e78:aI->aI:=eL wG 78 wD (lc (qg 26) ln) d78 (fun g=>m78 g.1)
theorem MR:EO e78:=fun h=>kL (F:=F78) (an:=(.two .no (.two .no (.two .no (.two .no (.two (.two .no (V6.lp P7 aeE)) (.two .no (.two .no (.two .no (.two (.two (.rb [] 86) .no) .no)))))))))) (l:=[(aU f78 0,(V6.lp P7 aeE)),(aU f78 1,(UH.lp Jl .no)),(.skip,(.rb [] 86))]) func78 (YS (OX (OU (Oc (abn (aco (Ww aK))))))) (az (aO V6) (az (aO UH) (az auZ aC))) h
theorem jY:EP e78:=fun h=>kP h
def apZ:aI:=cQ
abbrev amb:Type:=aD
def d103:Td 0 amb:= .c [] [0] (.r 0 1 (ec 0 (qp 0 0) en) (sb 0 34 (lg 34) sn) (fun z=>z.2.1) (fun x=>(((),()),(x,()))) fun _=>rfl)
def aqy:=ln
def afD:An:= .no
def oH:amb:=
 aD.mk (1) (0) (0)
theorem at0:bN wG (apZ) 300 (afD) 103 (aqy.c ()) [] 0 d103.rd=O (oH):=by kernel_rfl
def Hz:aI->aI:=eL wG 103 wD aqy d103 (fun _=>O (oH))
theorem jI:EO Hz:=fun h=>kL (F:=apZ) (an:=afD) func103 aK aC h (c:=fun _=>at0)
theorem gT:EP Hz:=fun h=>kP h
def ah4:aI:=cQ
abbrev ai4:Type:=Bool
def d162:Td 0 ai4:= .c [] [2] (.r 0 0 (ec 2 qb en) sn (fun z=>z.1.1) (fun x=>((x,()),(()))) fun _=>rfl)
def ao7:=(lc (qi .i64) ln)
def af1:An:=(.two .no (.two (.rb [] 2) .no))
theorem aqY:∀f∈([]:List Nat),aV (ah4) f:=aC
def nJ(a0:Int):ai4:=
 let r1:Bool:=bif wF (-1099511627776<=a0)then wF (a0<=1099511627776)else wD;r1
theorem asN(a0:Int):bN wG (ah4) 300 (af1) 162 (ao7.c (a0,())) [] 0 d162.rd=O (nJ a0):=by
 refine Eq.trans (b:=(
  match bif wF (-1099511627776<=a0)then O (wF (a0<=1099511627776))else O (wD)with|wC=>wC|O r1=>O (r1):Option ai4)) (by kernel_rfl) ?_
 simp only[nJ,bZ,cu]
def Xp:aI->aI:=eL wG 162 wD ao7 d162 (fun g=>O (nJ g.1))
theorem p7:EO Xp:=fun h=>kL (F:=ah4) (an:=af1) (l:=[(.skip,(.rb [] 2))]) func162 aK (az aqY aC) h (c:=fun g=>asN g.1)
theorem uU:EP Xp:=fun h=>kP h
def F84:aI:=(Xp (Hz cQ))
abbrev E84:Type:=Bool
def d84:Td 0 E84:= .c [] [2] (.r 0 0 (ec 2 qb en) sn (fun z=>z.1.1) (fun x=>((x,()),(()))) fun _=>rfl)
theorem aoj:∀f∈([162]:List Nat),aV (F84) f:=(az (uU (gT aZ)) aC)
def Tb(a0:aD):Option E84:=
 bif bif wF (a0.aa=oH.aa)then bif wF (a0.af=oH.af)then bif wF (a0.ah=oH.ah)then wE else wD else wD else wD then O (wE)else match bif bif nJ a0.aa then wD else wE then O (wE)else O (bif nJ a0.af then wD else wE)with|wC=>wC|O r1=>bif r1 then O (wD)else bif wF (a0.aa=a0.af)then O (wF (a0.ah=0))else match bif wF (a0.aa<a0.af)then bif wF (1<=a0.ah)then if¬a0.ah=(0:Int)then O (wF ((i64.wrap (a0.af-a0.aa)).tmod a0.ah=0))else wC else O (wD)else O (wD)with|wC=>wC|O r2=>O (r2)
def e84:aI->aI:=eL wG 84 wD (lc (qg 34) ln) d84 (fun g=>Tb g.1)
theorem rq:EO e84:=fun h=>kL (F:=F84) (an:=(.two .no (.two .no (.two (.two (.rb [162] 15) .no) (.two .no (.two (.rb [162] 2) .no)))))) (l:=[(.skip,(.rb [162] 15)),(.skip,(.rb [162] 2))]) func84 (p7 (jI aK)) (az aoj (az aoj aC)) h
theorem gD:EP e84:=fun h=>kP h
def F32:aI:=(e84 cQ)
abbrev E32:Type:=Bool
def d32:Td 0 E32:= .c [] [4] (.r 0 0 (ec 4 qb en) sn (fun z=>z.1.1) (fun x=>((x,()),(()))) fun _=>rfl)
theorem pu32:∀f∈([84]:List Nat),aV (F32) f:=(az (gD aZ) aC)
def m32(a0:aD)(a1:Int):Option E32:=
 match match Tb a0 with|wC=>wC|O r1=>bif bif r1 then wD else wE then O (wE)else bif wF (a1<a0.aa)then O (wE)else O (wF (a0.af<a1))with|wC=>wC|O r2=>bif r2 then O (wD)else match bif wF (a0.ah=0)then O (wE)else if¬a0.ah=(0:Int)then O (wF ((i64.wrap (a1-a0.aa)).tmod a0.ah=0))else wC with|wC=>wC|O r3=>O (r3)
def e32:aI->aI:=eL wG 32 wD (lc (qg 34) (lc (qi .i64) ln)) d32 (fun g=>m32 g.1 g.2.1)
theorem Bt:EO e32:=fun h=>kL (F:=F32) (an:=(.two .no (.two (.two (.rb [84] 19) .no) (.two (.rb [84] 4) .no)))) (l:=[(.skip,(.rb [84] 19)),(.skip,(.rb [84] 4))]) func32 (rq aK) (az pu32 (az pu32 aC)) h
theorem TM:EP e32:=fun h=>kP h
abbrev E36:Type:=aD
def d36:Td 0 E36:= .c [] [2] (.r 0 1 (ec 2 (qp 0 0) en) (sb 0 34 (lg 34) sn) (fun z=>z.2.1) (fun x=>(((),()),(x,()))) fun _=>rfl)
def Tw(a0:Int):E36:=
 aD.mk a0 a0 (0)
def e36:aI->aI:=eL wG 36 wD (lc (qi .i64) ln) d36 (fun g=>O (Tw g.1))
theorem F8:EO e36:=fun h=>kL (an:= .no) func36 aK aC h
def aqV:aI:=(Xp (Hz cQ))
abbrev aqw:Type:=aD×Int
def d101:Td 0 aqw:= .c [] [6,7] (.r 0 1 (ec 6 (qp 0 0) (ec 7 (qi .i64) en)) (sb 0 34 (lg 34) sn) (fun z=>(z.2.1,z.1.2.1)) (fun x=>(((),x.2,()),(x.1,()))) fun _=>rfl)
theorem ao5:∀f∈([162]:List Nat),aV (aqV) f:=(az (uU (gT aZ)) aC)
def jA(a0:Int)(a1:Int)(a2:Int):Option aqw:=
 match bif bif nJ a0 then wD else wE then O (wE)else bif bif nJ a1 then wD else wE then O (wE)else O (wF (a2<1))with|wC=>wC|O r1=>bif r1 then O ((aD.mk (0) (0) (0),3))else bif wF (a1<a0)then O ((oH,0))else if¬a2=(0:Int)then bif wF (a0=i64.wrap (a0+i64.wrap (i64.wrap ((i64.wrap (a1-a0)).tdiv a2)*a2)))then O ((aD.mk a0 (i64.wrap (a0+i64.wrap (i64.wrap ((i64.wrap (a1-a0)).tdiv a2)*a2))) (0),0))else O ((aD.mk a0 (i64.wrap (a0+i64.wrap (i64.wrap ((i64.wrap (a1-a0)).tdiv a2)*a2))) a2,0))else wC
def WL:aI->aI:=eL wG 101 wD (lc (qi .i64) (lc (qi .i64) (lc (qi .i64) ln))) d101 (fun g=>jA g.1 g.2.1 g.2.2.1)
theorem Fs:EO WL:=fun h=>kL (F:=aqV) (an:=(.two .no (.two (.two (.rb [162] 19) .no) .no))) (l:=[(.skip,(.rb [162] 19))]) func101 (p7 (jI aK)) (az ao5 aC) h
theorem lX:EP WL:=fun h=>kP h
abbrev amp:Type:=Bool
def d102:Td 0 amp:= .c [] [2] (.r 0 0 (ec 2 qb en) sn (fun z=>z.1.1) (fun x=>((x,()),(()))) fun _=>rfl)
def j0(a0:aD):amp:=
 wF (a0.af<a0.aa)
def H7:aI->aI:=eL wG 102 wD (lc (qg 34) ln) d102 (fun g=>O (j0 g.1))
theorem kN:EO H7:=fun h=>kL (an:= .no) func102 aK aC h
theorem gp:EP H7:=fun h=>kP h
def F41:aI:=(Hz (H7 (WL cQ)))
abbrev E41:Type:=aD
def d41:Td 0 E41:= .c [] [4] (.r 0 1 (ec 4 (qp 0 0) en) (sb 0 34 (lg 34) sn) (fun z=>z.2.1) (fun x=>(((),()),(x,()))) fun _=>rfl)
theorem aus:∀f∈([102]:List Nat),aV (F41) f:=(az (gT (gp (lX aZ))) aC)
def m41(a0:aD)(a1:Int):Option E41:=
 match bif j0 a0 then O (wE)else O (wF (a1<a0.aa))with|wC=>wC|O r1=>bif r1 then O (oH)else bif wF (a0.af<=a1)then O (a0)else match jA a0.aa a1 a0.ah with|wC=>wC|O r2=>O (r2.fst)
def e41:aI->aI:=eL wG 41 wD (lc (qg 34) (lc (qi .i64) ln)) d41 (fun g=>m41 g.1 g.2.1)
theorem U3:EO e41:=fun h=>kL (F:=F41) (an:=(.two .no (.two (.two (.rb [102] 14) .no) .no))) (l:=[(.skip,(.rb [102] 14))]) func41 (jI (kN (Fs aK))) (az aus aC) h
theorem tw:EP e41:=fun h=>kP h
def F42:aI:=(Hz (H7 (WL cQ)))
abbrev E42:Type:=aD
def d42:Td 0 E42:= .c [] [4] (.r 0 1 (ec 4 (qp 0 0) en) (sb 0 34 (lg 34) sn) (fun z=>z.2.1) (fun x=>(((),()),(x,()))) fun _=>rfl)
theorem auV:∀f∈([102]:List Nat),aV (F42) f:=(az (gT (gp (lX aZ))) aC)
def S9(a0:aD)(a1:Int):Option E42:=
 match bif j0 a0 then O (wE)else O (wF (a0.af<=a1))with|wC=>wC|O r1=>bif r1 then O (oH)else bif wF (a1<a0.aa)then O (a0)else if¬a0.ah=(0:Int)then match jA (i64.wrap (a0.aa+i64.wrap (i64.wrap (i64.wrap ((i64.wrap (a1-a0.aa)).tdiv a0.ah)+1)*a0.ah))) a0.af a0.ah with|wC=>wC|O r2=>O (r2.fst)else wC
def e42:aI->aI:=eL wG 42 wD (lc (qg 34) (lc (qi .i64) ln)) d42 (fun g=>S9 g.1 g.2.1)
theorem LX:EO e42:=fun h=>kL (F:=F42) (an:=(.two .no (.two (.two (.rb [102] 14) .no) .no))) (l:=[(.skip,(.rb [102] 14))]) func42 (jI (kN (Fs aK))) (az auV aC) h
theorem uB:EP e42:=fun h=>kP h
structure j8 where
 (t0 t1:Int)
def My:Td 0 j8:= .c [] [0,1] (.r 0 0 (ec 0 (qi .i64) (ec 1 (qi .i64) en)) sn (fun z=>⟨z.1.1,z.1.2.1⟩) (fun x=>((x.t0,x.t1,()),(()))) fun _=>rfl)
def si(p:j8):Option (Option j8):=
 bif bif wF (p.t1=0)then wD else wE then if¬p.t1=(0:Int)then O (O (j8.mk p.t1 (p.t0.tmod p.t1)))else wC else O (wC)
def Bp:j8->Option j8:=bw (si)
abbrev alL:Type:=Int
def d239:Td 0 alL:= .c [] [4] (.r 0 0 (ec 4 (qi .i64) en) sn (fun z=>z.1.1) (fun x=>((x,()),(()))) fun _=>rfl)
def Af(a0:Int)(a1:Int):Option alL:=
 match Bp (j8.mk a0 a1)with|wC=>wC|O r1=>bif bif wF (r1.t1=0)then wD else wE then if¬r1.t1=(0:Int)then wC else wC else O (r1.t0)
def agW:aI->aI:=eL wG 239 wD (lc (qi .i64) (lc (qi .i64) ln)) d239 (fun g=>Af g.1 g.2.1)
theorem HR:EO agW:=fun h=>kL (an:=(.two .no (.two (My.lp Bp .no) .no))) (l:=[(aU f239 0,(My.lp Bp .no))]) func239 aK (az (aO My) aC) h
theorem Ri:EP agW:=fun h=>kP h
def au4:aI:=cQ
abbrev agZ:Type:=Int
def d240:Td 0 agZ:= .c [] [4] (.r 0 0 (ec 4 (qi .i64) en) sn (fun z=>z.1.1) (fun x=>((x,()),(()))) fun _=>rfl)
def aqJ:=(lc (qi .i64) (lc (qi .i64) ln))
def agm:An:= .no
def ig(a0:Int)(a1:Int):agZ:=
 bif wF (a0<a1)then i64.wrap (a1-a0)else i64.wrap (a0-a1)
theorem atU(a0:Int)(a1:Int):bN wG (au4) 300 (agm) 240 (aqJ.c (a0,a1,())) [] 0 d240.rd=O (ig a0 a1):=by
 refine Eq.trans (b:=(
  bif wF (a0<a1)then O (i64.wrap (a1-a0))else O (i64.wrap (a0-a1)):Option agZ)) (by kernel_rfl) ?_
 simp only[ig,bZ,cu]
def UC:aI->aI:=eL wG 240 wD aqJ d240 (fun g=>O (ig g.1 g.2.1))
theorem tI:EO UC:=fun h=>kL (an:=agm) func240 aK aC h (c:=fun g=>atU g.1 g.2.1)
theorem lM:EP UC:=fun h=>kP h
structure gO where
 t0:List Int
 t6:Int
 (b0 b1:aD)
def Mg:Td 0 gO:= .c [] [0,2,5,6] (.r 0 2 (ec 0 (ql 3) (ec 2 (qp 0 0) (ec 5 (qp 1 0) (ec 6 (qi .i64) en)))) (sb 0 34 (lg 34) (sb 1 34 (lg 34) sn)) (fun z=>⟨z.1.1,z.1.2.2.2.1,z.2.1,z.2.2.1⟩) (fun x=>((x.t0,(),(),x.t6,()),(x.b0,x.b1,()))) fun _=>rfl)
def rS(p:gO):Option (Option gO):=
 bif wF (p.t6<(↑p.t0.length:Int))then if(0:Int)<=p.t6/\p.t6<(↑p.t0.length:Int)then if(0:Int)<=(0:Int)/\(0:Int)<(↑p.t0.length:Int)then match Af p.b1.ah (ig p.t0[p.t6.toNat]! p.t0[0]!)with|wC=>wC|O r1=>if(0:Int)<=p.t6/\p.t6<(↑p.t0.length:Int)then bif wF (((p.t0,(),(),p.t6,()),p.b0,p.b1,()).fst.fst[((p.t0,(),(),p.t6,()),p.b0,p.b1,()).fst.snd.snd.snd.fst.toNat]! <((p.t0,(),(),p.t6,()),p.b0,p.b1,()).snd.snd.fst.aa)then if(0:Int)<=p.t6/\p.t6<(↑p.t0.length:Int)then if(0:Int)<=p.t6/\p.t6<(↑p.t0.length:Int)then bif wF (((p.t0,(),(),p.t6,()),p.b0,p.b1,()).snd.snd.fst.af<((p.t0,(),(),p.t6,()),p.b0,p.b1,()).fst.fst[((p.t0,(),(),p.t6,()),p.b0,p.b1,()).fst.snd.snd.snd.fst.toNat]!)then if(0:Int)<=p.t6/\p.t6<(↑p.t0.length:Int)then O (O (gO.mk p.t0 (i64.wrap (p.t6+1)) p.b0 (aD.mk p.t0[p.t6.toNat]! p.t0[p.t6.toNat]! r1)))else wC else O (O (gO.mk p.t0 (i64.wrap (p.t6+1)) p.b0 (aD.mk p.t0[p.t6.toNat]! p.b1.af r1)))else wC else wC else if(0:Int)<=p.t6/\p.t6<(↑p.t0.length:Int)then bif wF (((p.t0,(),(),p.t6,()),p.b0,p.b1,()).snd.snd.fst.af<((p.t0,(),(),p.t6,()),p.b0,p.b1,()).fst.fst[((p.t0,(),(),p.t6,()),p.b0,p.b1,()).fst.snd.snd.snd.fst.toNat]!)then if(0:Int)<=p.t6/\p.t6<(↑p.t0.length:Int)then O (O (gO.mk p.t0 (i64.wrap (p.t6+1)) p.b0 (aD.mk p.b1.aa p.t0[p.t6.toNat]! r1)))else wC else O (O (gO.mk p.t0 (i64.wrap (p.t6+1)) p.b0 (aD.mk p.b1.aa p.b1.af r1)))else wC else wC else wC else wC else O (wC)
def GG:gO->Option gO:=bw (rS)
structure k8 where
 t0:List Int
 t4:Int
 b0:aD
def L9:Td 0 k8:= .c [] [0,2,4] (.r 0 1 (ec 0 (ql 3) (ec 2 (qp 0 0) (ec 4 (qi .i64) en))) (sb 0 34 (lg 34) sn) (fun z=>⟨z.1.1,z.1.2.2.1,z.2.1⟩) (fun x=>((x.t0,(),x.t4,()),(x.b0,()))) fun _=>rfl)
def vR(p:k8):Option (Option k8):=
 bif wF (p.t4<(↑p.t0.length:Int))then if(0:Int)<=p.t4/\p.t4<(↑p.t0.length:Int)then bif bif nJ p.t0[p.t4.toNat]! then wD else wE then O (wC)else O (O (k8.mk p.t0 (i64.wrap (p.t4+1)) p.b0))else wC else O (wC)
def FI:k8->Option k8:=bw (vR)
abbrev an7:Type:=aD×Int
def d238:Td 0 an7:= .c [] [2,3] (.r 0 1 (ec 2 (qp 0 0) (ec 3 (qi .i64) en)) (sb 0 34 (lg 34) sn) (fun z=>(z.2.1,z.1.2.1)) (fun x=>(((),x.2,()),(x.1,()))) fun _=>rfl)
def RK(a0:List Int):Option an7:=
 match FI (k8.mk a0 (0) (aD.mk (0) (0) (0)))with|wC=>wC|O r2=>bif wF (r2.t4<(↑r2.t0.length:Int))then if(0:Int)<=r2.t4/\r2.t4<(↑r2.t0.length:Int)then bif bif nJ r2.t0[r2.t4.toNat]! then wD else wE then O ((aD.mk (0) (0) (0),3))else wC else wC else bif wF ((↑r2.t0.length:Int)=0)then O ((oH,0))else if(0:Int)<=(0:Int)/\(0:Int)<(↑r2.t0.length:Int)then if(0:Int)<=(0:Int)/\(0:Int)<(↑r2.t0.length:Int)then match GG (gO.mk r2.t0 (1) r2.b0 (aD.mk r2.t0[0]! r2.t0[0]! (0)))with|wC=>wC|O r3=>bif wF (r3.t6<(↑r3.t0.length:Int))then if(0:Int)<=r3.t6/\r3.t6<(↑r3.t0.length:Int)then if(0:Int)<=(0:Int)/\(0:Int)<(↑r3.t0.length:Int)then match Af r3.b1.ah (ig r3.t0[r3.t6.toNat]! r3.t0[0]!)with|wC=>wC|O r4=>if(0:Int)<=r3.t6/\r3.t6<(↑r3.t0.length:Int)then bif wF (((r3.t0,(),(),r3.t6,()),r3.b0,r3.b1,()).fst.fst[((r3.t0,(),(),r3.t6,()),r3.b0,r3.b1,()).fst.snd.snd.snd.fst.toNat]! <((r3.t0,(),(),r3.t6,()),r3.b0,r3.b1,()).snd.snd.fst.aa)then if(0:Int)<=r3.t6/\r3.t6<(↑r3.t0.length:Int)then if(0:Int)<=r3.t6/\r3.t6<(↑r3.t0.length:Int)then bif wF (((r3.t0,(),(),r3.t6,()),r3.b0,r3.b1,()).snd.snd.fst.af<((r3.t0,(),(),r3.t6,()),r3.b0,r3.b1,()).fst.fst[((r3.t0,(),(),r3.t6,()),r3.b0,r3.b1,()).fst.snd.snd.snd.fst.toNat]!)then if(0:Int)<=r3.t6/\r3.t6<(↑r3.t0.length:Int)then wC else wC else wC else wC else wC else if(0:Int)<=r3.t6/\r3.t6<(↑r3.t0.length:Int)then bif wF (((r3.t0,(),(),r3.t6,()),r3.b0,r3.b1,()).snd.snd.fst.af<((r3.t0,(),(),r3.t6,()),r3.b0,r3.b1,()).fst.fst[((r3.t0,(),(),r3.t6,()),r3.b0,r3.b1,()).fst.snd.snd.snd.fst.toNat]!)then if(0:Int)<=r3.t6/\r3.t6<(↑r3.t0.length:Int)then wC else wC else wC else wC else wC else wC else wC else O ((r3.b1,0))else wC else wC
def aue:aI->aI:=eL wG 238 wD (lc (ql 3) ln) d238 (fun g=>RK g.1)
theorem Gd:EO aue:=fun h=>kL (an:=(.two .no (.two (.two .no (L9.lp FI .no)) (.two .no (.two .no (.two (.two .no (Mg.lp GG .no)) .no)))))) (l:=[(aU f238 0,(L9.lp FI .no)),(aU f238 1,(Mg.lp GG .no))]) func238 (tI (HR (p7 (jI aK)))) (az (aO L9) (az (aO Mg) aC)) h
abbrev aqr:Type:=aD
def d163:Td 0 aqr:= .c [] [4] (.r 0 1 (ec 4 (qp 0 0) en) (sb 0 34 (lg 34) sn) (fun z=>z.2.1) (fun x=>(((),()),(x,()))) fun _=>rfl)
def jF(a0:aD)(a1:aD):Option aqr:=
 bif j0 a0 then O (a1)else bif j0 a1 then O (a0)else match RK [a0.aa,a0.af,a1.aa,a1.af]with|wC=>wC|O r1=>bif wF (r1.fst.aa<r1.fst.af)then match Af a0.ah a1.ah with|wC=>wC|O r2=>match Af r2 (ig a0.aa a1.aa)with|wC=>wC|O r3=>O (aD.mk r1.fst.aa r1.fst.af r3)else O (r1.fst)
def S7:aI->aI:=eL wG 163 wD (lc (qg 34) (lc (qg 34) ln)) d163 (fun g=>jF g.1 g.2.1)
theorem pX:EO S7:=fun h=>kL (an:= .no) func163 (tI (HR (Gd (kN aK)))) aC h
theorem pV:EP S7:=fun h=>kP h
def F86:aI:=(S7 (Xp (H7 (e84 (e42 (e41 cQ))))))
abbrev E86:Type:=aD×Int
def d86:Td 0 E86:= .c [] [6,7] (.r 0 1 (ec 6 (qp 0 0) (ec 7 (qi .i64) en)) (sb 0 34 (lg 34) sn) (fun z=>(z.2.1,z.1.2.1)) (fun x=>(((),x.2,()),(x.1,()))) fun _=>rfl)
theorem atf:∀f∈([162]:List Nat),aV (F86) f:=(az (pV (uU (gp (gD (uB (tw aZ)))))) aC)
def Xx(a0:aD)(a1:Int)(a2:Int):Option E86:=
 match Tb a0 with|wC=>wC|O r1=>bif bif r1 then wD else wE then O ((aD.mk (0) (0) (0),1))else match bif bif nJ a1 then wD else wE then O (wE)else bif bif nJ a2 then wD else wE then O (wE)else O (wF (a2<a1))with|wC=>wC|O r2=>bif r2 then O ((aD.mk (0) (0) (0),3))else match S9 a0 (i64.wrap (a1-1))with|wC=>wC|O r3=>match m41 r3 a2 with|wC=>wC|O r4=>match m41 a0 a1 with|wC=>wC|O r5=>bif bif j0 r5 then wD else wE then match jF r4 (aD.mk a1 a1 (0))with|wC=>wC|O r6=>match S9 a0 a2 with|wC=>wC|O r7=>bif bif j0 r7 then wD else wE then match jF r6 (aD.mk a2 a2 (0))with|wC=>wC|O r8=>O ((r8,0))else O ((r6,0))else match S9 a0 a2 with|wC=>wC|O r9=>bif bif j0 r9 then wD else wE then match jF r4 (aD.mk a2 a2 (0))with|wC=>wC|O r10=>O ((r10,0))else O ((r4,0))
def e86:aI->aI:=eL wG 86 wD (lc (qg 34) (lc (qi .i64) (lc (qi .i64) ln))) d86 (fun g=>Xx g.1 g.2.1 g.2.2.1)
theorem L5:EO e86:=fun h=>kL (F:=F86) (an:=(.two .no (.two .no (.two (.two (.rb [162] 25) .no) .no)))) (l:=[(.skip,(.rb [162] 25))]) func86 (pX (p7 (kN (rq (LX (U3 aK)))))) (az atf aC) h
def F43:aI:=(H7 (e84 cQ))
abbrev E43:Type:=Int
def d43:Td 0 E43:= .c [] [2] (.r 0 0 (ec 2 (qi .i64) en) sn (fun z=>z.1.1) (fun x=>((x,()),(()))) fun _=>rfl)
theorem auG:∀f∈([84,102]:List Nat),aV (F43) f:=(az (gp (gD aZ)) (az (gp (gD aZ)) aC))
def qB(a0:aD):Option E43:=
 match match Tb a0 with|wC=>wC|O r1=>bif bif r1 then wD else wE then O (wE)else O (j0 a0)with|wC=>wC|O r2=>bif r2 then O (0)else bif wF (a0.ah=0)then O (1)else if¬a0.ah=(0:Int)then O (i64.wrap (i64.wrap ((i64.wrap (a0.af-a0.aa)).tdiv a0.ah)+1))else wC
def e43:aI->aI:=eL wG 43 wD (lc (qg 34) ln) d43 (fun g=>qB g.1)
theorem ng:EO e43:=fun h=>kL (F:=F43) (an:=(.two .no (.two (.two (.rb [84,102] 9) .no) .no))) (l:=[(.skip,(.rb [84,102] 9))]) func43 (kN (rq aK)) (az auG aC) h
theorem j4:EP e43:=fun h=>kP h
abbrev arc:Type:=Bool×Bool
def d165:Td 0 arc:= .c [] [2,3] (.r 0 0 (ec 2 qb (ec 3 qb en)) sn (fun z=>(z.1.1,z.1.2.1)) (fun x=>((x.1,x.2,()),(()))) fun _=>rfl)
def BL(a0:aD):Option arc:=
 match m32 a0 (0)with|wC=>wC|O r1=>match qB a0 with|wC=>wC|O r2=>bif wF (1<r2)then O ((r1,wE))else match qB a0 with|wC=>wC|O r3=>bif wF (r3=1)then O ((r1,bif r1 then wD else wE))else O ((r1,wD))
def RU:aI->aI:=eL wG 165 wD (lc (qg 34) ln) d165 (fun g=>BL g.1)
theorem s9:EO RU:=fun h=>kL (an:= .no) func165 (ng (Bt aK)) aC h
theorem Sl:EP RU:=fun h=>kP h
def akJ:aI:=cQ
abbrev ajT:Type:=aD
def d241:Td 0 ajT:= .c [] [4] (.r 0 1 (ec 4 (qp 0 0) en) (sb 0 34 (lg 34) sn) (fun z=>z.2.1) (fun x=>(((),()),(x,()))) fun _=>rfl)
def aq1:=(lc qb (lc qb ln))
def aeK:An:=(.two .no (.two (.two (.rb [] 8) .no) .no))
theorem aqW:∀f∈([]:List Nat),aV (akJ) f:=aC
def iu(a0:Bool)(a1:Bool):ajT:=
 let r1:Bool:=bif a0 then a1 else wD;bif r1 then aD.mk (0) (1) (1)else bif a1 then aD.mk (1) (1) (0)else aD.mk (0) (0) (0)
theorem as5(a0:Bool)(a1:Bool):bN wG (akJ) 300 (aeK) 241 (aq1.c (a0,a1,())) [] 0 d241.rd=O (iu a0 a1):=by
 refine Eq.trans (b:=(
  match bif a0 then O (a1)else O (wD)with|wC=>wC|O r1=>bif r1 then O (aD.mk (0) (1) (1))else bif a1 then O (aD.mk (1) (1) (0))else O (aD.mk (0) (0) (0)):Option ajT)) (by kernel_rfl) ?_
 simp only[iu,bZ,cu]
def ajp:aI->aI:=eL wG 241 wD aq1 d241 (fun g=>O (iu g.1 g.2.1))
theorem Pa:EO ajp:=fun h=>kL (F:=akJ) (an:=aeK) (l:=[(.skip,(.rb [] 8))]) func241 aK (az aqW aC) h (c:=fun g=>as5 g.1 g.2.1)
theorem Sr:EP ajp:=fun h=>kP h
def apl:aI:=(ajp (RU (Hz (H7 (e84 cQ)))))
abbrev aoG:Type:=aD×Int
def d164:Td 0 aoG:= .c [] [4,5] (.r 0 1 (ec 4 (qp 0 0) (ec 5 (qi .i64) en)) (sb 0 34 (lg 34) sn) (fun z=>(z.2.1,z.1.2.1)) (fun x=>(((),x.2,()),(x.1,()))) fun _=>rfl)
theorem aqG:∀f∈([84]:List Nat),aV (apl) f:=(az (Sr (Sl (gT (gp (gD aZ))))) aC)
def Xo(a0:Int)(a1:aD):Option aoG:=
 match match Tb a1 with|wC=>wC|O r1=>bif bif r1 then wD else wE then O (wE)else bif bif wF (a0=6)then wD else wE then O (bif wF (a0=7)then wD else wE)else O (wD)with|wC=>wC|O r2=>bif r2 then O ((aD.mk (0) (0) (0),1))else bif j0 a1 then O ((oH,0))else bif wF (a0=6)then O ((aD.mk (i64.wrap (0-a1.af)) (i64.wrap (0-a1.aa)) a1.ah,0))else match BL a1 with|wC=>wC|O r3=>O ((iu r3.snd r3.fst,0))
def am1:aI->aI:=eL wG 164 wD (lc (qi .i64) (lc (qg 34) ln)) d164 (fun g=>Xo g.1 g.2.1)
theorem adz:EO am1:=fun h=>kL (F:=apl) (an:=(.two .no (.two (.two (.rb [84] 18) .no) .no))) (l:=[(.skip,(.rb [84] 18))]) func164 (Pa (s9 (jI (kN (rq aK))))) (az aqG aC) h
def asD:aI:=cQ
abbrev ajN:Type:=Bool
def d242:Td 0 ajN:= .c [] [2] (.r 0 0 (ec 2 qb en) sn (fun z=>z.1.1) (fun x=>((x,()),(()))) fun _=>rfl)
def ap7:=(lc (qi .i64) ln)
def agr:An:= .no
def Dk(a0:Int):ajN:=
 bif wF (a0=8)then wE else bif wF (a0=9)then wE else bif wF (a0=10)then wE else bif wF (a0=11)then wE else bif wF (a0=12)then wE else bif wF (a0=13)then wE else bif wF (a0=14)then wE else bif wF (a0=15)then wE else bif wF (a0=16)then wE else bif wF (a0=17)then wE else bif wF (a0=18)then wE else bif wF (a0=19)then wE else bif wF (a0=20)then wE else bif wF (a0=21)then wE else bif wF (a0=22)then wE else wD
theorem aub(a0:Int):bN wG (asD) 300 (agr) 242 (ap7.c (a0,())) [] 0 d242.rd=O (Dk a0):=by
 refine Eq.trans (b:=(
  bif wF (a0=8)then O (wE)else bif wF (a0=9)then O (wE)else bif wF (a0=10)then O (wE)else bif wF (a0=11)then O (wE)else bif wF (a0=12)then O (wE)else bif wF (a0=13)then O (wE)else bif wF (a0=14)then O (wE)else bif wF (a0=15)then O (wE)else bif wF (a0=16)then O (wE)else bif wF (a0=17)then O (wE)else bif wF (a0=18)then O (wE)else bif wF (a0=19)then O (wE)else bif wF (a0=20)then O (wE)else bif wF (a0=21)then O (wE)else bif wF (a0=22)then O (wE)else O (wD):Option ajN)) (by kernel_rfl) ?_
 simp only[Dk,bZ,cu]
def ak7:aI->aI:=eL wG 242 wD ap7 d242 (fun g=>O (Dk g.1))
theorem aaU:EO ak7:=fun h=>kL (an:=agr) func242 aK aC h (c:=fun g=>aub g.1)
theorem wH:EP ak7:=fun h=>kP h
def aoM:aI:=(UC cQ)
abbrev amD:Type:=Int×Bool
def d283:Td 0 amD:= .c [] [4,5] (.r 0 0 (ec 4 (qi .i64) (ec 5 qb en)) sn (fun z=>(z.1.1,z.1.2.1)) (fun x=>((x.1,x.2,()),(()))) fun _=>rfl)
theorem anS:∀f∈([240]:List Nat),aV (aoM) f:=(az (lM aZ) aC)
def XA(a0:Int)(a1:Int):Option amD:=
 match bif bif wF (a0=0)then wD else wE then bif bif wF (a1=0)then wD else wE then if¬ig a1 ((0:Int))=(0:Int)then O (wF (i64.wrap ((1099511627776:Int).tdiv (ig a1 (0)))<ig a0 (0)))else wC else O (wD)else O (wD)with|wC=>wC|O r1=>bif r1 then O ((0,wD))else O ((i64.wrap (a0*a1),wE))
def atZ:aI->aI:=eL wG 283 wD (lc (qi .i64) (lc (qi .i64) ln)) d283 (fun g=>XA g.1 g.2.1)
theorem adH:EO atZ:=fun h=>kL (F:=aoM) (an:=(.two .no (.two (.two (.rb [240] 19) .no) .no))) (l:=[(.skip,(.rb [240] 19))]) func283 (tI aK) (az anS aC) h
def aqx:aI:=cQ
abbrev apg:Type:=Int
def d284:Td 0 apg:= .c [] [4] (.r 0 0 (ec 4 (qi .i64) en) sn (fun z=>z.1.1) (fun x=>((x,()),(()))) fun _=>rfl)
theorem amt:∀f∈([]:List Nat),aV (aqx) f:=aC
def aeh(a0:Int)(a1:Int):Option apg:=
 bif wF (a1=0)then O (0)else if¬a1=(0:Int)then match if¬a1=(0:Int)then bif bif wF (a0.tmod a1=0)then wD else wE then O (bif wF (a0<0)==wF (a1<0)then wD else wE)else O (wD)else wC with|wC=>wC|O r1=>bif r1 then O (i64.wrap (i64.wrap (a0.tdiv a1)-1))else O (i64.wrap (a0.tdiv a1))else wC
def auS:aI->aI:=eL wG 284 wD (lc (qi .i64) (lc (qi .i64) ln)) d284 (fun g=>aeh g.1 g.2.1)
theorem Zl:EO auS:=fun h=>kL (F:=aqx) (an:=(.two .no (.two .no (.two .no (.two (.two (.rb [] 21) .no) .no))))) (l:=[(.skip,(.rb [] 21))]) func284 aK (az amt aC) h
def asZ:aI:=cQ
abbrev ajc:Type:=Int
def d285:Td 0 ajc:= .c [] [2] (.r 0 0 (ec 2 (qi .i64) en) sn (fun z=>z.1.1) (fun x=>((x,()),(()))) fun _=>rfl)
def amJ:=(lc qb ln)
def afX:An:= .no
def tJ(a0:Bool):ajc:=
 bif a0 then 1 else 0
theorem aua(a0:Bool):bN wG (asZ) 300 (afX) 285 (amJ.c (a0,())) [] 0 d285.rd=O (tJ a0):=by
 refine Eq.trans (b:=(
  bif a0 then O (1)else O (0):Option ajc)) (by kernel_rfl) ?_
 simp only[tJ,bZ,cu]
def avd:aI->aI:=eL wG 285 wD amJ d285 (fun g=>O (tJ g.1))
theorem abH:EO avd:=fun h=>kL (an:=afX) func285 aK aC h (c:=fun g=>aua g.1)
abbrev ans:Type:=Int×Bool
def d245:Td 0 ans:= .c [] [6,7] (.r 0 0 (ec 6 (qi .i64) (ec 7 qb en)) sn (fun z=>(z.1.1,z.1.2.1)) (fun x=>((x.1,x.2,()),(()))) fun _=>rfl)
def Bi(a0:Int)(a1:Int)(a2:Int):Option ans:=
 bif wF (a0=8)then O ((i64.wrap (a1+a2),nJ (i64.wrap (a1+a2))))else bif wF (a0=9)then O ((i64.wrap (a1-a2),nJ (i64.wrap (a1-a2))))else bif wF (a0=10)then match XA a1 a2 with|wC=>wC|O r1=>O (r1)else bif wF (a0=11)then match aeh a1 a2 with|wC=>wC|O r2=>O ((r2,wE))else bif wF (a0=12)then bif wF (a2=0)then O ((0,wE))else match aeh a1 a2 with|wC=>wC|O r3=>O ((i64.wrap (a1-i64.wrap (a2*r3)),wE))else bif wF (a0=13)then O ((tJ (wF (a1=a2)),wE))else bif wF (a0=14)then O ((tJ (bif wF (a1=a2)then wD else wE),wE))else bif wF (a0=15)then O ((tJ (wF (a1<a2)),wE))else bif wF (a0=16)then O ((tJ (wF (a1<=a2)),wE))else bif wF (a0=17)then O ((tJ (wF (a2<a1)),wE))else bif wF (a0=18)then O ((tJ (wF (a2<=a1)),wE))else bif wF (a0=19)then bif bif wF (a1=0)then wD else wE then O ((tJ (bif wF (a2=0)then wD else wE),wE))else O ((tJ wD,wE))else bif wF (a0=20)then bif bif wF (a1=0)then wD else wE then O ((tJ wE,wE))else O ((tJ (bif wF (a2=0)then wD else wE),wE))else bif wF (a0=21)then bif wF (a1<a2)then O ((a1,wE))else O ((a2,wE))else bif wF (a2<a1)then O ((a1,wE))else O ((a2,wE))
def ak9:aI->aI:=eL wG 245 wD (lc (qi .i64) (lc (qi .i64) (lc (qi .i64) ln))) d245 (fun g=>Bi g.1 g.2.1 g.2.2.1)
theorem GU:EO ak9:=fun h=>kL (an:= .no) func245 (abH (Zl (adH (p7 aK)))) aC h
theorem u5:EP ak9:=fun h=>kP h
abbrev apF:Type:=Int
def d282:Td 0 apF:= .c [] [4] (.r 0 0 (ec 4 (qi .i64) en) sn (fun z=>z.1.1) (fun x=>((x,()),(()))) fun _=>rfl)
def DG(a0:aD)(a1:Int):apF:=
 i64.wrap (a0.aa+i64.wrap (a1*a0.ah))
def ath:aI->aI:=eL wG 282 wD (lc (qg 34) (lc (qi .i64) ln)) d282 (fun g=>O (DG g.1 g.2.1))
theorem adF:EO ath:=fun h=>kL (an:= .no) func282 aK aC h
structure fP where
 t0:Int
 t8:List Int
 (t9 t10:Int)
 (b0 b1 b2:aD)
def LO:Td 0 fP:= .c [] [0,4,5,6,8,9,10] (.r 0 4 (ec 0 (qi .i64) (ec 4 (qp 0 0) (ec 5 (qp 1 0) (ec 6 (qp 2 0) (ec 8 (qo 3) (ec 9 (qi .i64) (ec 10 (qi .i64) en))))))) (sb 0 34 (lg 34) (sb 1 34 (lg 34) (sb 2 34 (lg 34) (sr 3 3 sn)))) (fun z=>⟨z.1.1,z.2.2.2.2.1,z.1.2.2.2.2.2.1,z.1.2.2.2.2.2.2.1,z.2.1,z.2.2.1,z.2.2.2.1⟩) (fun x=>((x.t0,(),(),(),(),x.t9,x.t10,()),(x.b0,x.b1,x.b2,x.t8,()))) fun _=>rfl)
def Dm(p:fP):Option (Option fP):=
 match qB p.b1 with|wC=>wC|O r5=>bif wF (p.t10<r5)then match Bi p.t0 (DG p.b0 p.t9) (DG p.b1 p.t10)with|wC=>wC|O r6=>bif bif r6.snd then wD else wE then O (wC)else if(p.t8++[r6.fst]).length<=1073741824 then O (O (fP.mk p.t0 (p.t8++[r6.fst]) p.t9 (i64.wrap (p.t10+1)) p.b0 p.b1 p.b2))else wC else O (wC)
def su:fP->Option fP:=bw (Dm)
structure kX where
 t0:Int
 t8:List Int
 t9:Int
 (b0 b1 b2:aD)
def K4:Td 0 kX:= .c [] [0,4,5,6,8,9] (.r 0 4 (ec 0 (qi .i64) (ec 4 (qp 0 0) (ec 5 (qp 1 0) (ec 6 (qp 2 0) (ec 8 (qo 3) (ec 9 (qi .i64) en)))))) (sb 0 34 (lg 34) (sb 1 34 (lg 34) (sb 2 34 (lg 34) (sr 3 3 sn)))) (fun z=>⟨z.1.1,z.2.2.2.2.1,z.1.2.2.2.2.2.1,z.2.1,z.2.2.1,z.2.2.2.1⟩) (fun x=>((x.t0,(),(),(),(),x.t9,()),(x.b0,x.b1,x.b2,x.t8,()))) fun _=>rfl)
def vS(p:kX):Option (Option kX):=
 match qB p.b0 with|wC=>wC|O r1=>bif wF (p.t9<r1)then match su (fP.mk p.t0 p.t8 p.t9 (0) p.b0 p.b1 p.b2)with|wC=>wC|O r2=>match qB r2.b1 with|wC=>wC|O r3=>bif wF (r2.t10<r3)then match Bi r2.t0 (DG r2.b0 r2.t9) (DG r2.b1 r2.t10)with|wC=>wC|O r4=>bif bif r4.snd then wD else wE then O (wC)else if(r2.t8++[r4.fst]).length<=1073741824 then wC else wC else O (O (kX.mk r2.t0 r2.t8 (i64.wrap (r2.t9+1)) r2.b0 r2.b1 r2.b2))else O (wC)
def VE:An:=(.two .no (.two (.two .no (LO.lp su .no)) .no))
def EY:kX->Option kX:=bw (vS)
abbrev aqk:Type:=aD×Int
def d243:Td 0 aqk:= .c [] [6,7] (.r 0 1 (ec 6 (qp 0 0) (ec 7 (qi .i64) en)) (sb 0 34 (lg 34) sn) (fun z=>(z.2.1,z.1.2.1)) (fun x=>(((),x.2,()),(x.1,()))) fun _=>rfl)
def LC(a0:Int)(a1:aD)(a2:aD):Option aqk:=
 match EY (kX.mk a0 [] (0) a1 a2 (aD.mk (0) (0) (0)))with|wC=>wC|O r7=>match qB r7.b0 with|wC=>wC|O r8=>bif wF (r7.t9<r8)then match su (fP.mk r7.t0 r7.t8 r7.t9 (0) r7.b0 r7.b1 r7.b2)with|wC=>wC|O r9=>match qB r9.b1 with|wC=>wC|O r10=>bif wF (r9.t10<r10)then match Bi r9.t0 (DG r9.b0 r9.t9) (DG r9.b1 r9.t10)with|wC=>wC|O r11=>bif bif r11.snd then wD else wE then O ((aD.mk (0) (0) (0),3))else if(r9.t8++[r11.fst]).length<=1073741824 then wC else wC else wC else match RK r7.t8 with|wC=>wC|O r12=>O (r12)
def alb:aI->aI:=eL wG 243 wD (lc (qi .i64) (lc (qg 34) (lc (qg 34) ln))) d243 (fun g=>LC g.1 g.2.1 g.2.2.1)
theorem Z2:EO alb:=fun h=>kL (an:=(.two .no (.two .no (.two (.two .no (K4.lp EY VE)) .no)))) (l:=[(aU f243 0,(K4.lp EY VE)),(aU f243 1,(LO.lp su .no))]) func243 (adF (GU (Gd (ng aK)))) (az (aO K4) (az (aO LO) aC)) h
theorem ve:EP alb:=fun h=>kP h
structure fM where
 t0:Int
 (t8 t9 t10:List Int)
 (t11 t12:Int)
 b0:aD
def KU:Td 0 fM:= .c [] [0,6,8,9,10,11,12] (.r 0 4 (ec 0 (qi .i64) (ec 6 (qp 0 0) (ec 8 (qo 1) (ec 9 (qo 2) (ec 10 (qo 3) (ec 11 (qi .i64) (ec 12 (qi .i64) en))))))) (sb 0 34 (lg 34) (sr 1 3 (sr 2 3 (sr 3 3 sn)))) (fun z=>⟨z.1.1,z.2.2.1,z.2.2.2.1,z.2.2.2.2.1,z.1.2.2.2.2.2.1,z.1.2.2.2.2.2.2.1,z.2.1⟩) (fun x=>((x.t0,(),(),(),(),x.t11,x.t12,()),(x.b0,x.t8,x.t9,x.t10,()))) fun _=>rfl)
def Cz(p:fM):Option (Option fM):=
 bif wF (p.t12<3)then if(0:Int)<=p.t11/\p.t11<(↑p.t9.length:Int)then if 3=3/\p.t11.toNat<p.t9.length then if(0:Int)<=p.t12/\p.t12<(↑p.t10.length:Int)then if 3=3/\p.t12.toNat<p.t10.length then match Bi p.t0 p.t9[p.t11.toNat]! p.t10[p.t12.toNat]! with|wC=>wC|O r3=>bif bif r3.snd then wD else wE then O (wC)else if(p.t8++[r3.fst]).length<=1073741824 then O (O (fM.mk p.t0 (p.t8++[r3.fst]) p.t9 p.t10 p.t11 (i64.wrap (p.t12+1)) p.b0))else wC else wC else wC else wC else wC else O (wC)
def rG:fM->Option fM:=bw (Cz)
structure lz where
 t0:Int
 (t8 t9 t10:List Int)
 t11:Int
 b0:aD
def Lp:Td 0 lz:= .c [] [0,6,8,9,10,11] (.r 0 4 (ec 0 (qi .i64) (ec 6 (qp 0 0) (ec 8 (qo 1) (ec 9 (qo 2) (ec 10 (qo 3) (ec 11 (qi .i64) en)))))) (sb 0 34 (lg 34) (sr 1 3 (sr 2 3 (sr 3 3 sn)))) (fun z=>⟨z.1.1,z.2.2.1,z.2.2.2.1,z.2.2.2.2.1,z.1.2.2.2.2.2.1,z.2.1⟩) (fun x=>((x.t0,(),(),(),(),x.t11,()),(x.b0,x.t8,x.t9,x.t10,()))) fun _=>rfl)
def vh(p:lz):Option (Option lz):=
 bif wF (p.t11<3)then match rG (fM.mk p.t0 p.t8 p.t9 p.t10 p.t11 (0) p.b0)with|wC=>wC|O r1=>bif wF (r1.t12<3)then if(0:Int)<=r1.t11/\r1.t11<(↑r1.t9.length:Int)then if 3=3/\r1.t11.toNat<r1.t9.length then if(0:Int)<=r1.t12/\r1.t12<(↑r1.t10.length:Int)then if 3=3/\r1.t12.toNat<r1.t10.length then match Bi r1.t0 r1.t9[r1.t11.toNat]! r1.t10[r1.t12.toNat]! with|wC=>wC|O r2=>bif bif r2.snd then wD else wE then O (wC)else if(r1.t8++[r2.fst]).length<=1073741824 then wC else wC else wC else wC else wC else wC else O (O (lz.mk r1.t0 r1.t8 r1.t9 r1.t10 (i64.wrap (r1.t11+1)) r1.b0))else O (wC)
def TG:An:=(.two .no (.two (.two .no (KU.lp rG .no)) .no))
def Gz:lz->Option lz:=bw (vh)
abbrev alF:Type:=aD×Int
def d244:Td 0 alF:= .c [] [6,7] (.r 0 1 (ec 6 (qp 0 0) (ec 7 (qi .i64) en)) (sb 0 34 (lg 34) sn) (fun z=>(z.2.1,z.1.2.1)) (fun x=>(((),x.2,()),(x.1,()))) fun _=>rfl)
def tB(a0:Int)(a1:aD)(a2:aD):Option alF:=
 match Gz (lz.mk a0 [] [a1.aa,i64.wrap (a1.aa+a1.ah),a1.af] [a2.aa,i64.wrap (a2.aa+a2.ah),a2.af] (0) (aD.mk (0) (0) (0)))with|wC=>wC|O r4=>bif wF (r4.t11<3)then match rG (fM.mk r4.t0 r4.t8 r4.t9 r4.t10 r4.t11 (0) r4.b0)with|wC=>wC|O r5=>bif wF (r5.t12<3)then if(0:Int)<=r5.t11/\r5.t11<(↑r5.t9.length:Int)then if 3=3/\r5.t11.toNat<r5.t9.length then if(0:Int)<=r5.t12/\r5.t12<(↑r5.t10.length:Int)then if 3=3/\r5.t12.toNat<r5.t10.length then match Bi r5.t0 r5.t9[r5.t11.toNat]! r5.t10[r5.t12.toNat]! with|wC=>wC|O r6=>bif bif r6.snd then wD else wE then O ((aD.mk (0) (0) (0),3))else if(r5.t8++[r6.fst]).length<=1073741824 then wC else wC else wC else wC else wC else wC else wC else match RK r4.t8 with|wC=>wC|O r7=>O (r7)
def ahx:aI->aI:=eL wG 244 wD (lc (qi .i64) (lc (qg 34) (lc (qg 34) ln))) d244 (fun g=>tB g.1 g.2.1 g.2.2.1)
theorem acM:EO ahx:=fun h=>kL (an:=(.two .no (.two .no (.two .no (.two .no (.two (.two .no (Lp.lp Gz TG)) .no)))))) (l:=[(aU f244 0,(Lp.lp Gz TG)),(aU f244 1,(KU.lp rG .no))]) func244 (GU (Gd aK)) (az (aO Lp) (az (aO KU) aC)) h
theorem va:EP ahx:=fun h=>kP h
abbrev pH:Type:=Bool
def d286:Td 0 pH:= .c [] [4] (.r 0 0 (ec 4 qb en) sn (fun z=>z.1.1) (fun x=>((x,()),(()))) fun _=>rfl)
def alc:=(lc (qg 34) (lc (qg 34) ln))
def adP(M:aD->aD->Option pH):aI->aI:=eL wG 286 wD alc d286 (fun g=>M g.1 g.2.1)
theorem RN{M:aD->aD->Option pH}{F:aI}{f:Nat}(h:aV F f):aV (adP M F) f:=fW h (fun _=>by kernel_rfl)
def YJ(M:aD->aD->Option pH):Prop:=HL wG 286 alc d286 (fun g=>M g.1 g.2.1)
theorem QD{M:aD->aD->Option pH}(hM:YJ M){F:aI}(h:bf wG F):bf wG (adP M F):=gx (sc:=Ay) dS hM ⟨_,func286,by kernel_rfl,by kernel_rfl⟩ (fun _=>by kernel_rfl) (fun _=>by kernel_rfl) h
def abX(M286:aD->aD->Option pH):aI:=(adP M286 (UC (agW (e43 (e32 cQ)))))
theorem acq{M286}(h286:YJ M286):bf wG (abX M286):=(QD h286 (tI (HR (ng (Bt aK)))))
structure gB where
 (t6 t7 t8 t9:Int)
 (b0 b1:aD)
def Mx:Td 0 gB:= .c [] [2,3,6,7,8,9] (.r 0 2 (ec 2 (qp 0 0) (ec 3 (qp 1 0) (ec 6 (qi .i64) (ec 7 (qi .i64) (ec 8 (qi .i64) (ec 9 (qi .i64) en)))))) (sb 0 34 (lg 34) (sb 1 34 (lg 34) sn)) (fun z=>⟨z.1.2.2.1,z.1.2.2.2.1,z.1.2.2.2.2.1,z.1.2.2.2.2.2.1,z.2.1,z.2.2.1⟩) (fun x=>(((),(),x.t6,x.t7,x.t8,x.t9,()),(x.b0,x.b1,()))) fun _=>rfl)
def vi(M286:aD->aD->Option pH)(p:gB):Option (Option gB):=
 match if¬p.t7=(0:Int)then bif wF (p.t9<i64.wrap (p.b1.ah.tdiv p.t7))then O (wF (p.t8<=p.t6))else O (wD)else wC with|wC=>wC|O r1=>bif r1 then match m32 p.b1 p.t8 with|wC=>wC|O r2=>bif r2 then O (wC)else O (O (gB.mk p.t6 p.t7 (i64.wrap (p.t8+p.b0.ah)) (i64.wrap (p.t9+1)) p.b0 p.b1))else O (wC)
def WZ(M286:aD->aD->Option pH):An:=(.two (.two (.rb [240] 86) .no) .no)
def mC(M286:aD->aD->Option pH):gB->Option gB:=bw (vi M286)
def afz(M286:aD->aD->Option pH):An:=(.two .no (.two .no (.two .no (.two .no (.two .no (.two .no (.two .no (.two (.two (.rb [240] 58) .no) (.two .no (.two (.two .no (Mx.lp (mC M286) (WZ M286))) .no))))))))))
theorem aeH{M286}:∀f∈([240]:List Nat),aV (abX M286) f:=(az (RN (lM (Ri (j4 (TM aZ))))) aC)
theorem amn(M286:aD->aD->Option pH):eW wG (abX M286) 0 300 286 (afz M286):=bV (l:=[(.skip,(.rb [240] 58)),(aU f286 0,(Mx.lp (mC M286) (WZ M286))),(.skip,(.rb [240] 86))]) func286 (bB (by kernel_rfl)) (by kernel_rfl) (az aeH (az (aO Mx) (az aeH aC)))
def Se(M286:aD->aD->Option pH)(a0:aD)(a1:aD):Option pH:=
 match qB a0 with|wC=>wC|O r3=>match qB a1 with|wC=>wC|O r4=>bif wF (r4<r3)then match M286 a1 a0 with|wC=>wC|O r5=>O (r5)else match qB a0 with|wC=>wC|O r6=>bif wF (r6=1)then match m32 a1 a0.aa with|wC=>wC|O r7=>O (r7)else bif wF (a0.aa<a1.aa)then bif wF (a1.af<a0.af)then match Af a0.ah a1.ah with|wC=>wC|O r8=>match bif wF (a1.af<a1.aa)then O (wE)else if¬r8=(0:Int)then O (bif wF (Int.tmod (ig a0.aa a1.aa) r8=0)then wD else wE)else wC with|wC=>wC|O r9=>bif r9 then O (wD)else if¬a0.ah=(0:Int)then match mC M286 (gB.mk a1.af r8 (i64.wrap (a0.aa+i64.wrap (i64.wrap ((i64.wrap (i64.wrap (i64.wrap (a1.aa-a0.aa)+a0.ah)-1)).tdiv a0.ah)*a0.ah))) (0) a0 a1)with|wC=>wC|O r10=>match if¬r10.t7=(0:Int)then bif wF (r10.t9<i64.wrap (r10.b1.ah.tdiv r10.t7))then O (wF (r10.t8<=r10.t6))else O (wD)else wC with|wC=>wC|O r11=>bif r11 then match m32 r10.b1 r10.t8 with|wC=>wC|O r12=>bif r12 then O (wE)else wC else O (wD)else wC else match Af a0.ah a1.ah with|wC=>wC|O r13=>match bif wF (a0.af<a1.aa)then O (wE)else if¬r13=(0:Int)then O (bif wF (Int.tmod (ig a0.aa a1.aa) r13=0)then wD else wE)else wC with|wC=>wC|O r14=>bif r14 then O (wD)else if¬a0.ah=(0:Int)then match mC M286 (gB.mk a0.af r13 (i64.wrap (a0.aa+i64.wrap (i64.wrap ((i64.wrap (i64.wrap (i64.wrap (a1.aa-a0.aa)+a0.ah)-1)).tdiv a0.ah)*a0.ah))) (0) a0 a1)with|wC=>wC|O r15=>match if¬r15.t7=(0:Int)then bif wF (r15.t9<i64.wrap (r15.b1.ah.tdiv r15.t7))then O (wF (r15.t8<=r15.t6))else O (wD)else wC with|wC=>wC|O r16=>bif r16 then match m32 r15.b1 r15.t8 with|wC=>wC|O r17=>bif r17 then O (wE)else wC else O (wD)else wC else bif wF (a1.af<a0.af)then match Af a0.ah a1.ah with|wC=>wC|O r18=>match bif wF (a1.af<a0.aa)then O (wE)else if¬r18=(0:Int)then O (bif wF (Int.tmod (ig a0.aa a1.aa) r18=0)then wD else wE)else wC with|wC=>wC|O r19=>bif r19 then O (wD)else if¬a0.ah=(0:Int)then match mC M286 (gB.mk a1.af r18 (i64.wrap (a0.aa+i64.wrap (i64.wrap ((i64.wrap (i64.wrap (i64.wrap (a0.aa-a0.aa)+a0.ah)-1)).tdiv a0.ah)*a0.ah))) (0) a0 a1)with|wC=>wC|O r20=>match if¬r20.t7=(0:Int)then bif wF (r20.t9<i64.wrap (r20.b1.ah.tdiv r20.t7))then O (wF (r20.t8<=r20.t6))else O (wD)else wC with|wC=>wC|O r21=>bif r21 then match m32 r20.b1 r20.t8 with|wC=>wC|O r22=>bif r22 then O (wE)else wC else O (wD)else wC else match Af a0.ah a1.ah with|wC=>wC|O r23=>match bif wF (a0.af<a0.aa)then O (wE)else if¬r23=(0:Int)then O (bif wF (Int.tmod (ig a0.aa a1.aa) r23=0)then wD else wE)else wC with|wC=>wC|O r24=>bif r24 then O (wD)else if¬a0.ah=(0:Int)then match mC M286 (gB.mk a0.af r23 (i64.wrap (a0.aa+i64.wrap (i64.wrap ((i64.wrap (i64.wrap (i64.wrap (a0.aa-a0.aa)+a0.ah)-1)).tdiv a0.ah)*a0.ah))) (0) a0 a1)with|wC=>wC|O r25=>match if¬r25.t7=(0:Int)then bif wF (r25.t9<i64.wrap (r25.b1.ah.tdiv r25.t7))then O (wF (r25.t8<=r25.t6))else O (wD)else wC with|wC=>wC|O r26=>bif r26 then match m32 r25.b1 r25.t8 with|wC=>wC|O r27=>bif r27 then O (wE)else wC else O (wD)else wC
theorem avc(M286:aD->aD->Option pH)(a0:aD)(a1:aD):bN wG (abX M286) 300 (afz M286) 286 (alc.c (a0,a1,())) [] 0 d286.rd=Se M286 a0 a1:=by kernel_rfl
def EH:Nat->(aD->aD->Option pH)
 |0=>(fun _ _=>wC)
 |n+1=>(Se (EH n))
def TP(n:Nat):aD->aD->Option pH:=(EH n)
theorem Ko:∀n,YJ (TP n)
 |0=>fun _ _ h=>(by cases h)
 |n+1=>by
  have ih:=Ko n
  have i286:=ih
  exact(dH (acq i286) (amn (TP n)) (fun _=>by kernel_rfl) (fun _=>by kernel_rfl) fun g=>avc (TP n) g.1 g.2.1)
def Wk:aD->aD->Option pH:=fun a0 a1=>lim (fun n=>TP n a0 a1)
theorem abO:YJ Wk:=fun g b h=>by
 obtain⟨n,hn⟩:=cD (show lim (fun n=>TP n g.1 g.2.1)=O b from h)
 exact(Ko n) g b hn
def atX(F:aI):aI:=adP Wk F
theorem aeA{F:aI}(h:bf wG F):bf wG (atX F):=QD abO h
abbrev art:Type:=aD
def d246:Td 0 art:= .c [] [6] (.r 0 1 (ec 6 (qp 0 0) en) (sb 0 34 (lg 34) sn) (fun z=>z.2.1) (fun x=>(((),()),(x,()))) fun _=>rfl)
def vK(a0:Int)(a1:aD)(a2:aD):Option art:=
 bif wF (a0=13)then match Wk a1 a2 with|wC=>wC|O r1=>bif bif bif wF (a1.aa=a2.aa)then bif wF (a1.af=a2.af)then bif wF (a1.ah=a2.ah)then wE else wD else wD else wD then wD else wE then bif wF (a0=14)then O (iu r1 wE)else O (iu wE r1)else match qB a1 with|wC=>wC|O r2=>bif wF (a0=14)then O (iu r1 (wF (1<((r2,()),()).fst.fst)))else O (iu (wF (1<((r2,()),()).fst.fst)) r1)else bif wF (a0=14)then match Wk a1 a2 with|wC=>wC|O r3=>bif bif bif wF (a1.aa=a2.aa)then bif wF (a1.af=a2.af)then bif wF (a1.ah=a2.ah)then wE else wD else wD else wD then wD else wE then bif wF (a0=14)then O (iu r3 wE)else O (iu wE r3)else match qB a1 with|wC=>wC|O r4=>bif wF (a0=14)then O (iu r3 (wF (1<((r4,()),()).fst.fst)))else O (iu (wF (1<((r4,()),()).fst.fst)) r3)else bif wF (a0=15)then O (iu (wF (a2.aa<=a1.af)) (wF (a1.aa<a2.af)))else bif wF (a0=16)then O (iu (wF (a2.aa<a1.af)) (wF (a1.aa<=a2.af)))else bif wF (a0=17)then O (iu (wF (a1.aa<=a2.af)) (wF (a2.aa<a1.af)))else bif wF (a0=18)then O (iu (wF (a1.aa<a2.af)) (wF (a2.aa<=a1.af)))else match BL a1 with|wC=>wC|O r5=>match BL a2 with|wC=>wC|O r6=>bif wF (a0=19)then bif r5.snd then bif r5.fst then O (iu wE r6.snd)else O (iu r6.fst r6.snd)else bif r5.fst then O (iu wE wD)else O (iu r6.fst wD)else bif r5.snd then bif r5.fst then O (iu r6.fst wE)else O (iu wD wE)else bif r5.fst then O (iu r6.fst r6.snd)else O (iu wD r6.snd)
def ag8:aI->aI:=eL wG 246 wD (lc (qi .i64) (lc (qg 34) (lc (qg 34) ln))) d246 (fun g=>vK g.1 g.2.1 g.2.2.1)
theorem adr:EO ag8:=fun h=>kL (an:= .no) func246 (aeA (Pa (s9 (ng aK)))) aC h
theorem vH:EP ag8:=fun h=>kP h
def ark:aI:=(ag8 (ak9 (ahx (alb (ak7 (UC (S7 (Hz (H7 (WL (e84 (e43 (e42 (e41 cQ))))))))))))))
abbrev ard:Type:=aD×Int
def d166:Td 0 ard:= .c [] [6,7] (.r 0 1 (ec 6 (qp 0 0) (ec 7 (qi .i64) en)) (sb 0 34 (lg 34) sn) (fun z=>(z.2.1,z.1.2.1)) (fun x=>(((),x.2,()),(x.1,()))) fun _=>rfl)
theorem TT:∀f∈([84,102,242]:List Nat),aV (ark) f:=(az (vH (u5 (va (ve (wH (lM (pV (gT (gp (lX (gD (j4 (uB (tw aZ)))))))))))))) (az (vH (u5 (va (ve (wH (lM (pV (gT (gp (lX (gD (j4 (uB (tw aZ)))))))))))))) (az (vH (u5 (va (ve (wH (lM (pV (gT (gp (lX (gD (j4 (uB (tw aZ)))))))))))))) aC)))
def lB(a0:Int)(a1:aD)(a2:aD):Option ard:=
 match match Tb a1 with|wC=>wC|O r1=>bif bif r1 then wD else wE then O (wE)else match Tb a2 with|wC=>wC|O r2=>bif bif r2 then wD else wE then O (wE)else O (bif Dk a0 then wD else wE)with|wC=>wC|O r3=>bif r3 then O ((aD.mk (0) (0) (0),1))else match bif j0 a1 then O (wE)else O (j0 a2)with|wC=>wC|O r4=>bif r4 then O ((oH,0))else match qB a1 with|wC=>wC|O r5=>match qB a2 with|wC=>wC|O r6=>if¬r6=(0:Int)then bif wF (r5<=i64.wrap ((4096:Int).tdiv r6))then match LC a0 a1 a2 with|wC=>wC|O r7=>O (r7)else bif wF (a0=8)then match tB a0 a1 a2 with|wC=>wC|O r8=>O (r8)else bif wF (a0=9)then match tB a0 a1 a2 with|wC=>wC|O r9=>O (r9)else bif wF (a0=10)then match tB a0 a1 a2 with|wC=>wC|O r10=>O (r10)else bif wF (a0=11)then bif wF (ig a1.aa (0)<ig a1.af (0))then match bif wF (0<=a1.aa)then O (wF (0<=a2.aa))else O (wD)with|wC=>wC|O r11=>bif r11 then match jA (0) (ig a1.af (0)) (1)with|wC=>wC|O r12=>O (r12)else match jA (i64.wrap (0-ig a1.af (0))) (ig a1.af (0)) (1)with|wC=>wC|O r13=>O (r13)else match bif wF (0<=a1.aa)then O (wF (0<=a2.aa))else O (wD)with|wC=>wC|O r14=>bif r14 then match jA (0) (ig a1.aa (0)) (1)with|wC=>wC|O r15=>O (r15)else match jA (i64.wrap (0-ig a1.aa (0))) (ig a1.aa (0)) (1)with|wC=>wC|O r16=>O (r16)else bif wF (a0=12)then bif wF (a2.aa<0)then bif wF (0<a2.af)then match jA (i64.wrap (a2.aa+1)) (i64.wrap (a2.af-1)) (1)with|wC=>wC|O r17=>O (r17)else match jA (i64.wrap (a2.aa+1)) (0) (1)with|wC=>wC|O r18=>O (r18)else bif wF (0<a2.af)then match jA (0) (i64.wrap (a2.af-1)) (1)with|wC=>wC|O r19=>O (r19)else match jA (0) (0) (1)with|wC=>wC|O r20=>O (r20)else bif wF (a0=21)then match Bi a0 a1.af a2.af with|wC=>wC|O r21=>match jF a1 a2 with|wC=>wC|O r22=>match m41 r22 r21.fst with|wC=>wC|O r23=>O ((r23,0))else bif wF (a0=22)then match Bi a0 a1.aa a2.aa with|wC=>wC|O r24=>match jF a1 a2 with|wC=>wC|O r25=>match S9 r25 (i64.wrap (r24.fst-1))with|wC=>wC|O r26=>O ((r26,0))else match vK a0 a1 a2 with|wC=>wC|O r27=>O ((r27,0))else wC
def ap4:aI->aI:=eL wG 166 wD (lc (qi .i64) (lc (qg 34) (lc (qg 34) ln))) d166 (fun g=>lB g.1 g.2.1 g.2.2.1)
theorem OO:EO ap4:=fun h=>kL (F:=ark) (an:=(.two .no (.two (.two (.rb [84,102,242] 27) .no) (.two (.two (.rb [84,102,242] 34) .no) (.two .no (.two (.two .no (.two .no (.two .no (.two .no (.two (.two .no (.two .no (.two (.two (.rb [84,102,242] 79) .no) .no))) .no))))) .no)))))) (l:=[(.skip,(.rb [84,102,242] 27)),(.skip,(.rb [84,102,242] 34)),(.skip,(.rb [84,102,242] 79))]) func166 (adr (GU (acM (Z2 (aaU (tI (pX (jI (kN (Fs (rq (ng (LX (U3 aK)))))))))))))) (az TT (az TT (az TT aC))) h
abbrev JU:Type:=aD
def d87:Td 0 JU:= .c [] [4] (.r 0 1 (ec 4 (qp 0 0) en) (sb 0 34 (lg 34) sn) (fun z=>z.2.1) (fun x=>(((),()),(x,()))) fun _=>rfl)
def A87:=(lc (qg 147) (lc (qg 137) ln))
def x87(M:aB->aq->Option JU):aI->aI:=eL wG 87 wD A87 d87 (fun g=>M g.1 g.2.1)
def H87(M:aB->aq->Option JU):Prop:=HL wG 87 A87 d87 (fun g=>M g.1 g.2.1)
theorem WQ{M:aB->aq->Option JU}(hM:H87 M){F:aI}(h:bf wG F):bf wG (x87 M F):=gx (sc:=Ay) dS hM ⟨_,func87,by kernel_rfl,by kernel_rfl⟩ (fun _=>by kernel_rfl) (fun _=>by kernel_rfl) h
def F87(M87:aB->aq->Option JU):aI:=(ap4 (RU (am1 (S7 (Hz (x87 M87 (e86 (e36 (e32 cQ)))))))))
theorem ajD{M87}(h87:H87 M87):bf wG (F87 M87):=(OO (s9 (adz (pX (jI (WQ h87 (L5 (F8 (Bt aK)))))))))
structure wM where
 (t107 t108:Int)
 b0:aB
 b1:aq
 (b2 b3 b4:aD)
def TZ:Td 0 wM:= .c [] [2,3,4,9,11,107,108] (.r 0 5 (ec 2 (qp 0 0) (ec 3 (qp 1 0) (ec 4 (qp 2 0) (ec 9 (qp 3 0) (ec 11 (qp 4 0) (ec 107 (qi .i64) (ec 108 (qi .i64) en))))))) (sb 0 147 (lg 147) (sb 1 137 (lg 137) (sb 2 34 (lg 34) (sb 3 34 (lg 34) (sb 4 34 (lg 34) sn))))) (fun z=>⟨z.1.2.2.2.2.2.1,z.1.2.2.2.2.2.2.1,z.2.1,z.2.2.1,z.2.2.2.1,z.2.2.2.2.1,z.2.2.2.2.2.1⟩) (fun x=>(((),(),(),(),(),x.t107,x.t108,()),(x.b0,x.b1,x.b2,x.b3,x.b4,()))) fun _=>rfl)
def PO(M87:aB->aq->Option JU)(p:wM):Option (Option wM):=
 bif wF (p.t108<p.t107)then match m32 p.b3 p.t108 with|wC=>wC|O r1=>bif r1 then if(0:Int)<=i64.wrap ((1:Int)+p.t108)/\i64.wrap ((1:Int)+p.t108)<(↑p.b1.ak.length:Int)then match M87 p.b0 (aq.mk p.b1.ak[(i64.wrap (1+p.t108)).toNat]!.aW p.b1.ak[(i64.wrap (1+p.t108)).toNat]!.fN p.b1.ak[(i64.wrap (1+p.t108)).toNat]!.ak)with|wC=>wC|O r2=>match jF p.b4 r2 with|wC=>wC|O r3=>O (O (wM.mk p.t107 (i64.wrap (p.t108+1)) p.b0 (aq.mk p.b1.aW p.b1.fN p.b1.ak) p.b2 p.b3 r3))else wC else O (O (wM.mk p.t107 (i64.wrap (p.t108+1)) p.b0 (aq.mk p.b1.aW p.b1.fN p.b1.ak) p.b2 p.b3 p.b4))else O (wC)
def Jw(M87:aB->aq->Option JU):wM->Option wM:=bw (PO M87)
def aoR(M87:aB->aq->Option JU):An:=(.two .no (.two (.two .no (.two .no (.two .no (.two .no (.two .no (.two .no (.two .no (.two .no (.two .no (.two .no (.two (.two .no (.two .no (.two (.two .no (TZ.lp (Jw M87) .no)) .no))) .no))))))))))) .no))
theorem ass(M87:aB->aq->Option JU):eW wG (F87 M87) 0 300 87 (aoR M87):=bV (l:=[(aU f87 0,(TZ.lp (Jw M87) .no))]) func87 (bB (by kernel_rfl)) (by kernel_rfl) (az (aO TZ) aC)
def s87(M87:aB->aq->Option JU)(a0:aB)(a1:aq):Option JU:=
 bif wF (a1.aW=0)then O (Tw a1.fN)else bif wF (a1.aW=24)then if(0:Int)<=a1.fN/\a1.fN<(↑a0.ag.length:Int)then O (a0.ag[a1.fN.toNat]!)else wC else bif wF (a1.aW=6)then if(0:Int)<=(0:Int)/\(0:Int)<(↑a1.ak.length:Int)then match M87 a0 (aq.mk a1.ak[0]!.aW a1.ak[0]!.fN a1.ak[0]!.ak)with|wC=>wC|O r4=>match Xo a1.aW r4 with|wC=>wC|O r5=>O (r5.fst)else wC else bif wF (a1.aW=7)then if(0:Int)<=(0:Int)/\(0:Int)<(↑a1.ak.length:Int)then match M87 a0 (aq.mk a1.ak[0]!.aW a1.ak[0]!.fN a1.ak[0]!.ak)with|wC=>wC|O r6=>match Xo a1.aW r6 with|wC=>wC|O r7=>O (r7.fst)else wC else bif wF (a1.aW=23)then if(0:Int)<=(0:Int)/\(0:Int)<(↑a1.ak.length:Int)then match M87 a0 (aq.mk a1.ak[0]!.aW a1.ak[0]!.fN a1.ak[0]!.ak)with|wC=>wC|O r8=>match BL r8 with|wC=>wC|O r9=>bif bif r9.fst then wD else wE then if(0:Int)<=(1:Int)/\(1:Int)<(↑a1.ak.length:Int)then match M87 a0 (aq.mk a1.ak[1]!.aW a1.ak[1]!.fN a1.ak[1]!.ak)with|wC=>wC|O r10=>O (r10)else wC else bif bif r9.snd then wD else wE then if(0:Int)<=(2:Int)/\(2:Int)<(↑a1.ak.length:Int)then match M87 a0 (aq.mk a1.ak[2]!.aW a1.ak[2]!.fN a1.ak[2]!.ak)with|wC=>wC|O r11=>O (r11)else wC else if(0:Int)<=(1:Int)/\(1:Int)<(↑a1.ak.length:Int)then match M87 a0 (aq.mk a1.ak[1]!.aW a1.ak[1]!.fN a1.ak[1]!.ak)with|wC=>wC|O r12=>if(0:Int)<=(2:Int)/\(2:Int)<(↑a1.ak.length:Int)then match M87 a0 (aq.mk a1.ak[2]!.aW a1.ak[2]!.fN a1.ak[2]!.ak)with|wC=>wC|O r13=>match jF r12 r13 with|wC=>wC|O r14=>O (r14)else wC else wC else wC else bif wF (a1.aW=25)then if(0:Int)<=(0:Int)/\(0:Int)<(↑a1.ak.length:Int)then match M87 a0 (aq.mk a1.ak[0]!.aW a1.ak[0]!.fN a1.ak[0]!.ak)with|wC=>wC|O r15=>match Xx r15 (0) (i64.wrap ((↑a1.ak.length:Int)-2))with|wC=>wC|O r16=>match Jw M87 (wM.mk (i64.wrap ((↑a1.ak.length:Int)-1)) (0) a0 (aq.mk a1.aW a1.fN a1.ak) (aD.mk (0) (0) (0)) r16.fst oH)with|wC=>wC|O r17=>bif wF (r17.t108<r17.t107)then match m32 r17.b3 r17.t108 with|wC=>wC|O r18=>bif r18 then if(0:Int)<=i64.wrap ((1:Int)+r17.t108)/\i64.wrap ((1:Int)+r17.t108)<(↑r17.b1.ak.length:Int)then match M87 r17.b0 (aq.mk r17.b1.ak[(i64.wrap (1+r17.t108)).toNat]!.aW r17.b1.ak[(i64.wrap (1+r17.t108)).toNat]!.fN r17.b1.ak[(i64.wrap (1+r17.t108)).toNat]!.ak)with|wC=>wC|O r19=>match jF r17.b4 r19 with|wC=>wC|O r20=>wC else wC else wC else O (r17.b4)else wC else if(0:Int)<=(0:Int)/\(0:Int)<(↑a1.ak.length:Int)then match M87 a0 (aq.mk a1.ak[0]!.aW a1.ak[0]!.fN a1.ak[0]!.ak)with|wC=>wC|O r21=>if(0:Int)<=(1:Int)/\(1:Int)<(↑a1.ak.length:Int)then match M87 a0 (aq.mk a1.ak[1]!.aW a1.ak[1]!.fN a1.ak[1]!.ak)with|wC=>wC|O r22=>match lB a1.aW r21 r22 with|wC=>wC|O r23=>O (r23.fst)else wC else wC
theorem c87(M87:aB->aq->Option JU)(a0:aB)(a1:aq):bN wG (F87 M87) 300 (aoR M87) 87 (A87.c (a0,a1,())) [] 0 d87.rd=s87 M87 a0 a1:=by kernel_rfl
def aqK:Nat->(aB->aq->Option JU)
 |0=>(fun _ _=>wC)
 |n+1=>(s87 (aqK n))
def m87(n:Nat):aB->aq->Option JU:=(aqK n)
theorem PV:∀n,H87 (m87 n)
 |0=>fun _ _ h=>(by cases h)
 |n+1=>by
  have ih:=PV n
  have i87:=ih
  exact(dH (ajD i87) (ass (m87 n)) (fun _=>by kernel_rfl) (fun _=>by kernel_rfl) fun g=>c87 (m87 n) g.1 g.2.1)
def KS:aB->aq->Option JU:=fun a0 a1=>lim (fun n=>m87 n a0 a1)
theorem aib:H87 KS:=fun g b h=>by
 obtain⟨n,hn⟩:=cD (show lim (fun n=>m87 n g.1 g.2.1)=O b from h)
 exact(PV n) g b hn
def e87(F:aI):aI:=x87 KS F
theorem Mm{F:aI}(h:bf wG F):bf wG (e87 F):=WQ aib h
end Go.Proofs.YtnfljbehcffmcaaGreat
end
noncomputable section
namespace Go.Iv
open Go
variable [U:qT] [L:mQ]
theorem aF{n:Int}(h1: -9223372036854775808<=n:=by omega)(h2:n<9223372036854775808:=by omega):IntKind.i64.wrap n=n:=by
 simp[IntKind.wrap,IntKind.bits,IntKind.signed]
 omega
theorem Jh{γ:Type}{rnd:γ->Option (Option γ)}(f:Nat->γ)(n:Nat)(h1:∀i,i<n->rnd (f i)=O (O (f (i+1))))(h2:∀r,rnd (f n)≠O (O r)):bw rnd (f 0)=O (f n):=by
 have key:∀k i,i+k=n->bw rnd (f i)=O (f n):=by
  intro k
  induction k with
  |zero=>
   intro i hi;have:i=n:=by omega
   subst this;exact bW h2
  |succ k ih=>intro i hi;rw[bF (h1 i (by omega))];exact ih (i+1) (by omega)
 exact key n 0 (by omega)
def ju{α β ρ:Type}(step:β->α->Option β)(ret:β->α->ρ)(fin:β->ρ):List α->β->ρ
 |[],b=>fin b
 |x::xs,b=>match step b x with
  |some b'=>ju step ret fin xs b'
  |none=>ret b x
theorem DL{γ α β ρ:Type}{rnd:γ->Option (Option γ)}(l:List α)(mk:Nat->β->γ)(step:β->α->Option β)(ret:β->α->ρ)(fin:β->ρ)(I:Nat->β->Prop)
  (h1:∀i b (hi:i<l.length),I i b->∀b',step b l[i]=O b'->rnd (mk i b)=O (O (mk (i+1) b'))/\I (i+1) b')
  (h2:∀i b (hi:i<l.length),I i b->step b l[i]=wC->∀r,rnd (mk i b)≠O (O r)) (h3:∀b,I l.length b->∀r,rnd (mk l.length b)≠O (O r)) {b:β} (hb:I 0 b):
  ∃i v,i<=l.length/\bw rnd (mk 0 b)=O (mk i v)/\I i v/\((i=l.length/\ju step ret fin l b=fin v)\/∃hi:i<l.length,step v l[i]=wC/\ju step ret fin l b=ret v l[i]):=by
 have key:∀(xs:List α) (i:Nat) (b:β),l.drop i=xs->i<=l.length->I i b->∃j v,j<=l.length/\bw rnd (mk i b)=O (mk j v)/\I j v/\((j=l.length/\ju step ret fin xs b=fin v)\/∃hi:j<l.length,step v l[j]=wC/\ju step ret fin xs b=ret v l[j]):=by
  intro xs
  induction xs with
  |nil=>
   intro i b hd hi hb
   have:i=l.length:=by have:=congrArg yC hd;simp at this;omega
   subst this
   exact⟨_,b,zx _,bW (h3 b hb),hb, .inl ⟨rfl,rfl⟩⟩
  |cons x xs ih=>
   intro i b hd hi hb
   have hil:i<l.length:=by have:=congrArg yC hd;simp at this;omega
   have hx:l[i]=x:=by
    have:=congrArg List.head? hd
    rw[List.head?_drop,zl hil]at this
    simpa using this
   have hd':l.drop (i+1)=xs:=by
    have:=congrArg List.tail hd
    rw[List.tail_drop]at this
    simpa using this
   cases hs:step b x with
   |some b'=>
    obtain⟨q1,q2⟩:=h1 i b hil hb b' (by rw[hx];exact hs)
    obtain⟨j,v,e1,e2,e3,e4⟩:=ih (i+1) b' hd' hil q2
    have er:ju step ret fin (x::xs) b=ju step ret fin xs b':=by simp only[ju,hs]
    exact⟨j,v,e1,by rw[bF q1];exact e2,e3,by rw[er];exact e4⟩
   |none=>
    have er:ju step ret fin (x::xs) b=ret b x:=by simp only[ju,hs]
    exact⟨i,b,hi,bW (h2 i b hil hb (by rw[hx];exact hs)),hb, .inr ⟨hil,by rw[hx];exact hs,by rw[er,hx]⟩⟩
 exact key l 0 b rfl (xj _) hb
end Go.Iv
end
noncomputable section
namespace Go.Proofs.YtnfljbehcffmcaaGreat
open Go Go.Iv
theorem fJ{n:Int}(h1:0<=n:=by omega)(h2:n<18446744073709551616:=by omega):IntKind.u64.wrap n=n:=by
 simp only[IntKind.wrap,IntKind.signed,IntKind.bits]at*
 simp
 omega
theorem LH(n:Int):IntKind.u64.wrap n=n%18446744073709551616:=by
 simp only[IntKind.wrap,IntKind.signed,IntKind.bits]at*
 simp
structure gi (y1 y0 u d q r:Int):Prop where
 r0:0<=r
 r1:r<4294967296
 q0:0<=q
 q1:q<=4294967297
 e:u=q*y1+r
 hi:u*4294967296+d<(q+1)*(y1*4294967296+y0)
 top:q=4294967297->r+y1<4294967296
structure qI (y1 y0 u d:Int):Prop where
 ha:2147483648<=y1
 hb:y1<4294967296
 hc:0<=y0
 hd:y0<4294967296
 he:0<=u
 hf:u<y1*4294967296+y0
 hg:0<=d
 hh:d<4294967296
theorem gi.start{y1 y0 u d:Int}(h:qI y1 y0 u d):gi y1 y0 u d (u/y1) (u%y1):=by
 obtain⟨ha,hb,hc,hd,he,hf,hg,hh⟩:=h
 have e1:=yL u y1
 have m0:=yM u (b:=y1) (by omega)
 have m1:=yP u (b:=y1) (by omega)
 have q0:0<=u/y1:=zL he (by omega)
 have q1:u/y1<=4294967297:=by
  have:u/y1<4294967298:=wu (by omega) (by omega)
  omega
 rw[zw]at e1
 refine⟨m0,by omega,q0,q1,by omega,?_,fun hq=> ?_⟩
 ·have k1:(u/y1+1)*(y1*4294967296+y0)=((u/y1)*y1)*4294967296+y1*4294967296+(u/y1)*y0+y0:=by
   rw[zM,yQ,zN,zI];omega
  have k2:0<=u/y1*y0:=zo q0 hc
  rw[k1]
  omega
 ·rw[hq]at e1
  omega
theorem gi.stop{y1 y0 u d q r:Int}(H:qI y1 y0 u d)(h:gi y1 y0 u d q r)(h1:q<4294967296)(h2:¬4294967296*r+d<q*y0):q*(y1*4294967296+y0)<=u*4294967296+d:=by
 have k:q*(y1*4294967296+y0)=(q*y1)*4294967296+q*y0:=by rw[yQ,zI]
 have:=h.e
 rw[k]
 omega
theorem gi.big{y1 y0 u d q r:Int}(H:qI y1 y0 u d)(h:gi y1 y0 u d q r)(h1:4294967296<=q\/4294967296*r+d<q*y0):u*4294967296+d<q*(y1*4294967296+y0):=by
 have k:q*(y1*4294967296+y0)=(q*y1)*4294967296+q*y0:=by rw[yQ,zI]
 have e:=h.e
 rcases h1 with h1|h1
 ·have k2:4294967296*(y1*4294967296+y0)<=q*(y1*4294967296+y0):=zF h1 (by have:=H.ha;have:=H.hc;omega)
  have:=H.hf
  have:=H.hh
  omega
 ·rw[k]
  omega
theorem gi.pos{y1 y0 u d q r:Int}(H:qI y1 y0 u d)(h:gi y1 y0 u d q r)(h1:4294967296<=q\/4294967296*r+d<q*y0):1<=q:=by
 have k:=gi.big H h h1
 have:=h.q0
 rcases (show q=0\/1<=q by omega)with rfl|h2
 ·rw[xz]at k
  have:=H.he
  have:=H.hg
  omega
 ·exact h2
theorem gi.next{y1 y0 u d q r:Int}(H:qI y1 y0 u d)(h:gi y1 y0 u d q r)(h1:4294967296<=q\/4294967296*r+d<q*y0)(h2:r+y1<4294967296):gi y1 y0 u d (q-1) (r+y1):=by
 have hb:=gi.big H h h1
 have hp:=gi.pos H h h1
 have:=H.ha
 have:=h.r0
 have:=h.q1
 refine⟨by omega,h2,by omega,by omega,?_,?_,fun hq=>by omega⟩
 ·rw[yf,zN]
  have:=h.e
  omega
 ·rw[show q-1+1=q by omega]
  exact hb
theorem gi.brk{y1 y0 u d q r:Int}(H:qI y1 y0 u d)(h:gi y1 y0 u d q r)(h1:4294967296<=q\/4294967296*r+d<q*y0)(h2:4294967296<=r+y1):(q-1)*(y1*4294967296+y0)<=u*4294967296+d:=by
 have hp:=gi.pos H h h1
 have hq:q<=4294967296:=by
  have:=h.q1
  have:=h.top
  omega
 have k:(q-1)*(y1*4294967296+y0)=(q*y1)*4294967296-y1*4294967296+(q-1)*y0:=by
  rw[yQ,<-zI,yf q 1 y1,zN,yf]
 have k2:(q-1)*y0<=4294967296*y0:=zF (by omega) H.hc
 have:=h.e
 have:=H.hd
 have:=H.hg
 rw[k]
 omega
def I9(y1 y0 u d q:Int):Prop:=0<=q/\q<=4294967297/\q*(y1*4294967296+y0)<=u*4294967296+d/\u*4294967296+d<(q+1)*(y1*4294967296+y0)
theorem gi.y0q{y1 y0 u d q r:Int}(H:qI y1 y0 u d)(h:gi y1 y0 u d q r)(h1:q<4294967296):IntKind.u64.wrap (q*y0)=q*y0:=by
 have k1:0<=q*y0:=zo h.q0 H.hc
 have k2:q*y0<=4294967295*y0:=zF (by omega) H.hc
 have:=H.hd
 exact fJ k1 (by omega)
theorem gi.rr{y1 y0 u d q r:Int}(H:qI y1 y0 u d)(h:gi y1 y0 u d q r):IntKind.u64.wrap (IntKind.u64.wrap (4294967296*r)+d)=4294967296*r+d:=by
 have:=h.r0
 have:=h.r1
 have:=H.hg
 have:=H.hh
 rw[fJ (n:=4294967296*r),fJ]
theorem gi.Xv{y1 y0 u d q r:Int}(H:qI y1 y0 u d)(h:gi y1 y0 u d q r):(bif wF (4294967296<=q)then O wE else O (wF (IntKind.u64.wrap (IntKind.u64.wrap (4294967296*r)+d)<IntKind.u64.wrap (q*y0))))=O (wF (4294967296<=q\/4294967296*r+d<q*y0)):=by
 by_cases hq:4294967296<=q
 ·rw[decide_eq_true hq,decide_eq_true (Or.inl hq),cond_true]
 ·rw[decide_eq_false hq,cond_false,gi.rr H h,gi.y0q H h (by omega)]
  by_cases hc:4294967296*r+d<q*y0
  ·rw[decide_eq_true hc,decide_eq_true (Or.inr hc)]
  ·rw[decide_eq_false hc,decide_eq_false (fun k=>k.elim hq hc)]
theorem gi.done{y1 y0 u d q r:Int}(H:qI y1 y0 u d)(h:gi y1 y0 u d q r)(hr:4294967296<=q\/4294967296*r+d<q*y0->4294967296<=r+y1):I9 y1 y0 u d (bif wF (4294967296<=q\/4294967296*r+d<q*y0)then q-1 else q):=by
 have h0:=h.q0
 have h1:=h.q1
 by_cases hc:4294967296<=q\/4294967296*r+d<q*y0
 ·rw[decide_eq_true hc,cond_true]
  have:=gi.pos H h hc
  refine⟨by omega,by omega,gi.brk H h hc (hr hc),?_⟩
  rw[show q-1+1=q by omega]
  exact gi.big H h hc
 ·rw[decide_eq_false hc,cond_false]
  exact⟨h0,by omega,gi.stop H h (by omega) (fun k=>hc (.inr k)),h.hi⟩
theorem gi.wr1{y1 y0 u d q r:Int}(H:qI y1 y0 u d)(h:gi y1 y0 u d q r):IntKind.u64.wrap (r+y1)=r+y1:=by
 have:=h.r0
 have:=h.r1
 have:=H.ha
 have:=H.hb
 exact fJ
theorem gi.wq1{y1 y0 u d q r:Int}(H:qI y1 y0 u d)(h:gi y1 y0 u d q r)(hc:4294967296<=q\/4294967296*r+d<q*y0):IntKind.u64.wrap (q-1)=q-1:=by
 have:=h.q1
 have:=gi.pos H h hc
 exact fJ
theorem WY{y s y1 y0 u d e q r:Int}(H:qI y1 y0 u d)(h:gi y1 y0 u d q r):∃q' r',FF (j9.mk y s y1 y0 u d e q r)=O (j9.mk y s y1 y0 u d e q' r')/\gi y1 y0 u d q' r'/\(4294967296<=q'\/4294967296*r'+d<q'*y0->4294967296<=r'+y1):=by
 obtain⟨z,e1,⟨q',r',rfl,hI⟩,hs⟩:=kr (rnd:=vf) (fun p=>∃q r,p=j9.mk y s y1 y0 u d e q r/\gi y1 y0 u d q r) (fun p=>p.t15.toNat) (fun p p' ⟨q,r,hp,hI⟩ hn=>by
  subst hp
  have hn:vf (j9.mk y s y1 y0 u d e q r)=O (O p'):=hn
  simp only[vf]at hn
  rw[gi.Xv H hI]at hn
  by_cases hc:4294967296<=q\/4294967296*r+d<q*y0
  ·rw[decide_eq_true hc]at hn
   simp only[cond_true,gi.wr1 H hI,gi.wq1 H hI hc]at hn
   by_cases hb:4294967296<=r+y1
   ·rw[decide_eq_true hb]at hn
    cases hn
   ·rw[decide_eq_false hb]at hn
    simp only[cond_false,zB.injEq]at hn
    have hp:=gi.pos H hI hc
    subst hn
    exact⟨⟨q-1,r+y1,rfl,gi.next H hI hc (by omega)⟩,by show (q-1).toNat<q.toNat;omega⟩
  ·rw[decide_eq_false hc]at hn
   cases hn) ⟨q,r,rfl,h⟩
 refine⟨q',r',e1,hI,fun hc=> ?_⟩
 by_cases hb:4294967296<=r'+y1
 ·exact hb
 ·exact absurd (show vf _=O (O _)by
   simp only[vf]
   rw[gi.Xv H hI,decide_eq_true hc]
   simp only[cond_true,gi.wr1 H hI]
   rw[decide_eq_false hb]
   rfl) (hs _)
theorem Ke{y s y1 y0 u d e q r:Int}(H:qI y1 y0 u d)(h:gi y1 y0 u d q r):∃q' r',Bq (jk.mk y s y1 y0 d e r u q)=O (jk.mk y s y1 y0 d e r' u q')/\gi y1 y0 u d q' r'/\(4294967296<=q'\/4294967296*r'+d<q'*y0->4294967296<=r'+y1):=by
 obtain⟨z,e1,⟨q',r',rfl,hI⟩,hs⟩:=kr (rnd:=vB) (fun p=>∃q r,p=jk.mk y s y1 y0 d e r u q/\gi y1 y0 u d q r) (fun p=>p.t18.toNat) (fun p p' ⟨q,r,hp,hI⟩ hn=>by
  subst hp
  have hn:vB (jk.mk y s y1 y0 d e r u q)=O (O p'):=hn
  simp only[vB]at hn
  rw[gi.Xv H hI]at hn
  by_cases hc:4294967296<=q\/4294967296*r+d<q*y0
  ·rw[decide_eq_true hc]at hn
   simp only[cond_true,gi.wr1 H hI,gi.wq1 H hI hc]at hn
   by_cases hb:4294967296<=r+y1
   ·rw[decide_eq_true hb]at hn
    cases hn
   ·rw[decide_eq_false hb]at hn
    simp only[cond_false,zB.injEq]at hn
    have hp:=gi.pos H hI hc
    subst hn
    exact⟨⟨q-1,r+y1,rfl,gi.next H hI hc (by omega)⟩,by show (q-1).toNat<q.toNat;omega⟩
  ·rw[decide_eq_false hc]at hn
   cases hn) ⟨q,r,rfl,h⟩
 refine⟨q',r',e1,hI,fun hc=> ?_⟩
 by_cases hb:4294967296<=r'+y1
 ·exact hb
 ·exact absurd (show vB _=O (O _)by
   simp only[vB]
   rw[gi.Xv H hI,decide_eq_true hc]
   simp only[cond_true,gi.wr1 H hI]
   rw[decide_eq_false hb]
   rfl) (hs _)
theorem aff{n:Int}(h1:0<=n)(h2:n<256):IntKind.u8.wrap n=n:=by
 simp only[IntKind.wrap,IntKind.signed,IntKind.bits]at*
 simp
 omega
theorem Wt{x:Int}(k:Nat)(hk:k<=64):cw IntKind.u64 x (k:Int)=x/2^k:=by
 unfold cw
 rw[show min ((k:Int)).toNat IntKind.u64.bits=k from by simp only[za,IntKind.bits];omega]
 exact Int.fdiv_eq_ediv_of_nonneg _ (yT (Int.pow_pos (by omega)))
def afg(i:Nat):Bool:=i==0||((zJ 9).any fun t=>(jX.data[i]!).toNat==t&&wF (1<=t)&&wF (2^(t-1)<=i)&&wF (i<2^t))
theorem ac9:(zJ 256).all afg=wE:=by kernel_rfl
theorem acV{x:Int}(h1:1<=x)(h2:x<256):∃t:Nat,1<=t/\t<=8/\bR jX (IntKind.u8.wrap x).toNat=(t:Int)/\2^(t-1)<=x/\x<2^t:=by
 rw[aff (by omega) h2]
 have h:=zm.mp ac9 x.toNat (List.mem_range.mpr (by omega))
 simp only[afg,yH,beq_iff_eq,List.any_eq_true,List.mem_range,ze,decide_eq_true_eq]at h
 rcases h with h|⟨t,ht,⟨⟨h3,h4⟩,h5⟩,h6⟩
 ·omega
 ·have h5':((2^(t-1):Nat):Int)<=(x.toNat:Int):=Int.ofNat_le.mpr h5
  have h6':((x.toNat:Nat):Int)<((2^t:Nat):Int):=Int.ofNat_lt.mpr h6
  rw[Int.toNat_of_nonneg (by omega),Int.natCast_pow]at h5' h6'
  exact⟨t,h4,by omega,by unfold bR;rw[h3],h5',h6'⟩
theorem Vt{a x:Int}{n t:Nat}(h1:1<=t)(h2:t<=8)(hx1:2^(t-1)<=x)(hx2:x<2^t)(hn:n<=56)(ha1:x*2^n<=a)(ha2:a<(x+1)*2^n):
  2^63<=a*2^(64-(n+t))/\a*2^(64-(n+t))<2^64:=by
 have p0:∀k:Nat,(0:Int)<2^k:=fun k=>Int.pow_pos (by omega)
 have e1:(2:Int)^63=2^(t-1)*2^n*2^(64-(n+t)):=by
  rw[<-Int.pow_add,<-Int.pow_add];congr 1;omega
 have e2:(2:Int)^64=2^t*2^n*2^(64-(n+t)):=by
  rw[<-Int.pow_add,<-Int.pow_add];congr 1;omega
 rw[e1,e2]
 refine⟨zF (xA (zF hx1 (yT (p0 n))) ha1) (yT (p0 _)),?_⟩
 refine Int.mul_lt_mul_of_pos_right (Int.lt_of_lt_of_le ha2 ?_) (p0 _)
 exact zF (by omega) (yT (p0 n))
end Go.Proofs.YtnfljbehcffmcaaGreat
end
noncomputable section
namespace Go.Proofs.YtnfljbehcffmcaaGreat
open Go Go.Iv
open Go.IntKind (i64)
theorem QT(x:Int):cw IntKind.u64 x 32=x/4294967296:=Wt (x:=x) 32 (by omega)
theorem aoL(x:Int):cw IntKind.u64 x 16=x/65536:=Wt (x:=x) 16 (by omega)
theorem atq(x:Int):cw IntKind.u64 x 8=x/256:=Wt (x:=x) 8 (by omega)
def UA(a:Int)(r:Option Int):Prop:=∃s:Nat,s<=63/\(match r with|wC=>wC|O r1=>O (i64.wrap (64-r1)))=O (s:Int)/\2^63<=a*2^s/\a*2^s<2^64
theorem gS{a x:Int}(n:Nat)(hn:n<=56)(hx1:1<=x)(hx2:x<256)(ha1:x*2^n<=a)(ha2:a<(x+1)*2^n):
  UA a (if(0:Int)<=IntKind.u8.wrap x/\IntKind.u8.wrap x<(256:Int)then O (i64.wrap ((n:Int)+i64.wrap (bR jX (IntKind.u8.wrap x).toNat)))else wC):=by
 obtain⟨t,h1,h2,h3,h4,h5⟩:=acV hx1 hx2
 rw[if_pos (by rw[aff (by omega) hx2];omega),h3]
 refine⟨64-(n+t),by omega,?_,Vt h1 h2 h4 h5 hn ha1 ha2⟩
 rw[aF (n:=(t:Int)),aF (n:=(n:Int)+t)]
 show O _=_
 rw[aF]
 congr 1
 omega
theorem aem{a:Int}(h1:1<=a)(h2:a<18446744073709551616):∃s:Nat,s<=63/\ajQ a=O (s:Int)/\2^63<=a*2^s/\a*2^s<2^64:=by
 show UA a (aai a)
 unfold aai
 simp only[QT,aoL,atq]
 by_cases c1:4294967296<=a
 ·rw[decide_eq_true c1,cond_true]
  by_cases c2:65536<=a/4294967296
  ·rw[decide_eq_true c2,cond_true]
   by_cases c3:256<=a/4294967296/65536
   ·rw[decide_eq_true c3,cond_true]
    exact gS 56 (by omega) (by omega) (by omega) (by omega) (by omega)
   ·rw[decide_eq_false c3,cond_false]
    exact gS 48 (by omega) (by omega) (by omega) (by omega) (by omega)
  ·rw[decide_eq_false c2,cond_false]
   by_cases c3:256<=a/4294967296
   ·rw[decide_eq_true c3,cond_true]
    exact gS 40 (by omega) (by omega) (by omega) (by omega) (by omega)
   ·rw[decide_eq_false c3,cond_false]
    exact gS 32 (by omega) (by omega) (by omega) (by omega) (by omega)
 ·rw[decide_eq_false c1,cond_false]
  by_cases c2:65536<=a
  ·rw[decide_eq_true c2,cond_true]
   by_cases c3:256<=a/65536
   ·rw[decide_eq_true c3,cond_true]
    exact gS 24 (by omega) (by omega) (by omega) (by omega) (by omega)
   ·rw[decide_eq_false c3,cond_false]
    exact gS 16 (by omega) (by omega) (by omega) (by omega) (by omega)
  ·rw[decide_eq_false c2,cond_false]
   by_cases c3:256<=a
   ·rw[decide_eq_true c3,cond_true]
    exact gS 8 (by omega) (by omega) (by omega) (by omega) (by omega)
   ·rw[decide_eq_false c3,cond_false]
    exact gS 0 (by omega) (by omega) (by omega) (by omega) (by omega)
end Go.Proofs.YtnfljbehcffmcaaGreat
end
noncomputable section
namespace Go.Proofs.YtnfljbehcffmcaaGreat
open Go Go.Iv
theorem ajg{x:Int}(k:Nat)(hk:k<=64):kQ IntKind.u64 x (k:Int)=(x*2^k)%18446744073709551616:=by
 unfold kQ
 rw[show min ((k:Int)).toNat IntKind.u64.bits=k from by simp only[za,IntKind.bits];omega]
 exact LH _
theorem HD{x:Int}(h1:0<=x)(h2:x<18446744073709551616):(BitVec.ofInt 64 x).toNat=x.toNat:=by
 rw[BitVec.toNat_ofInt]
 congr 1
 omega
theorem Up{x:Int}(h1:0<=x)(h2:x<18446744073709551616):sE IntKind.u64 x 4294967295=x%4294967296:=by
 unfold sE
 show IntKind.u64.wrap ((BitVec.ofInt 64 x&&&BitVec.ofInt 64 4294967295).toNat:Int)=_
 rw[BitVec.toNat_and,HD h1 h2,HD (by omega) (by omega),show (4294967295:Int).toNat=2^32-1 from rfl,Nat.and_two_pow_sub_one_eq_mod,fJ]
 omega
theorem orU{a b:Nat}{k:Nat}(hb:b<2^k)(h:2^k*a+b<18446744073709551616):Xz IntKind.u64 ((2^k*a:Nat):Int) (b:Int)=((2^k*a+b:Nat):Int):=by
 unfold Xz
 show IntKind.u64.wrap ((BitVec.ofInt 64 ((2^k*a:Nat):Int)|||BitVec.ofInt 64 (b:Int)).toNat:Int)=_
 rw[BitVec.toNat_or,HD (by omega) (by omega),HD (by omega) (by omega),za,za,<-Nat.two_pow_add_eq_or_of_lt hb,fJ]
theorem ja{a b:Int}(h1:0<=a:=by omega):a.tdiv b=a/b:=Int.tdiv_eq_ediv_of_nonneg h1
theorem jx{a b:Int}(h1:0<=a:=by omega):a.tmod b=a%b:=Int.tmod_eq_emod_of_nonneg h1
theorem wq0{u y1:Int}(h1:0<=u)(h2:u<18446744073709551616)(h3:2<=y1):IntKind.u64.wrap (u.tdiv y1)=u/y1:=by
 rw[ja h1]
 have:u/y1<=u:=z7 _ h1
 exact fJ (zL h1 (by omega)) (by omega)
theorem wr0{u y1:Int}(h1:0<=u)(h2:u<18446744073709551616)(h3:2<=y1):IntKind.u64.wrap (u-IntKind.u64.wrap (u/y1*y1))=u%y1:=by
 have e:=yL u y1
 have m0:=yM u (b:=y1) (by omega)
 rw[zw]at e
 have q0:0<=u/y1*y1:=zo (zL h1 (by omega)) (by omega)
 rw[fJ (n:=u/y1*y1) q0 (by omega),fJ]
 omega
theorem ags{u d q y:Int}(h1:q*y<=u*4294967296+d)(h2:u*4294967296+d<(q+1)*y)(hy:y<18446744073709551616):
  IntKind.u64.wrap (IntKind.u64.wrap (IntKind.u64.wrap (u*4294967296)+d)-IntKind.u64.wrap (q*y))=u*4294967296+d-q*y:=by
 rw[zM,zN]at h2
 generalize q*y=z at*
 simp only[LH]
 omega
theorem akc{hi lo y:Int}(h0:0<=hi)(h1:hi<y)(h2:y<18446744073709551616)(h3:0<=lo)(h4:lo<18446744073709551616):∃q,WB hi lo y=O (q,(hi*18446744073709551616+lo)%y):=by
 by_cases hz:hi=0
 ·subst hz
  refine⟨IntKind.u64.wrap (lo.tdiv y),?_⟩
  unfold WB
  rw[dZ,dZ,decide_eq_true rfl,cond_false,cond_false,cond_true,fK,fK,jx h3]
  rw[show (0:Int)*18446744073709551616+lo=lo by omega]
 obtain⟨s,hs,es,b1,b2⟩:=aem (a:=y) (by omega) h2
 have hP:(0:Int)<2^s:=Int.pow_pos (by omega)
 have hQ:(0:Int)<2^(64-s):=Int.pow_pos (by omega)
 have hPQ:(2:Int)^(64-s)*2^s=18446744073709551616:=by rw[<-Int.pow_add,show 64-s+s=64 by omega];rfl
 have b1:(9223372036854775808:Int)<=y*2^s:=b1
 have b2:y*2^s<18446744073709551616:=b2
 have eY:kQ IntKind.u64 y (s:Int)=y*2^s:=by rw[ajg s (by omega),Int.emod_eq_of_lt (by omega) b2]
 have lb:lo/2^(64-s)<2^s:=wu hQ (by rw[zw,hPQ];exact h4)
 have lb0:0<=lo/2^(64-s):=zL h3 (by omega)
 have hy1:(hi+1)*2^s<=y*2^s:=zF (by omega) (by omega)
 have hy2:(hi+1)*2^s=hi*2^s+2^s:=by rw[zM,zN]
 have hp0:0<=hi*2^s:=zo h0 (by omega)
 have eU:Xz IntKind.u64 (kQ IntKind.u64 hi (s:Int)) (cw IntKind.u64 lo (IntKind.u64.wrap (64-(s:Int))))=hi*2^s+lo/2^(64-s):=by
  rw[ajg s (by omega),Int.emod_eq_of_lt hp0 (by omega),fJ (n:=64-(s:Int)),show (64-(s:Int))=((64-s:Nat):Int)by omega,Wt (64-s) (by omega)]
  obtain⟨a,rfl⟩:=wv h0
  obtain⟨b,hb⟩:=wv lb0
  rw[hb]at lb ⊢
  have e:(a:Int)*2^s=((2^s*a:Nat):Int):=by rw[xh,Int.natCast_pow,zw];rfl
  have lb':b<2^s:=by
   have:((b:Nat):Int)<((2^s:Nat):Int):=by rw[Int.natCast_pow];exact lb
   exact Int.ofNat_lt.mp this
  rw[e]at hp0 hy2 ⊢
  rw[orU lb' (by omega)]
  omega
 have eD:kQ IntKind.u64 lo (s:Int)=(lo*2^s)%18446744073709551616:=ajg s (by omega)
 have key:(hi*18446744073709551616+lo)*2^s=(hi*2^s+lo/2^(64-s))*18446744073709551616+(lo*2^s)%18446744073709551616:=by
  have k1:=yL (lo*2^s) 18446744073709551616
  have k2:lo*2^s/18446744073709551616=lo/2^(64-s):=by rw[<-hPQ];exact Int.mul_ediv_mul_of_pos_left _ _ hP
  rw[k2]at k1
  rw[zM,zI,zw 18446744073709551616 (2^s),<-zI]
  omega
 have hD0:0<=(lo*2^s)%18446744073709551616:=by omega
 have hD1:(lo*2^s)%18446744073709551616<18446744073709551616:=by omega
 have hU0:0<=hi*2^s+lo/2^(64-s):=by omega
 have hU1:hi*2^s+lo/2^(64-s)<y*2^s:=by omega
 have res:∀Q,Q*(y*2^s)<=(hi*18446744073709551616+lo)*2^s->(hi*18446744073709551616+lo)*2^s<(Q+1)*(y*2^s)->((hi*18446744073709551616+lo)*2^s-Q*(y*2^s))/2^s=(hi*18446744073709551616+lo)%y:=fun Q q1 q2=>by
  rw[<-zI,<-yf,Int.mul_ediv_cancel _ (by omega)]
  rw[<-zI]at q1 q2
  have q1:=Int.le_of_mul_le_mul_right q1 hP
  have q2:=x8 q2 (yT hP)
  rw[zM,zN]at q2
  have e:=yL (hi*18446744073709551616+lo) y
  generalize hi*18446744073709551616+lo=X at*
  have:X/y=Q:=by
   apply Int.le_antisymm
   ·have:X/y<Q+1:=wu (by omega) (by rw[zM,zN];exact q2)
    omega
   ·exact Int.le_ediv_of_mul_le (by omega) q1
  rw[this,zw]at e
  omega
 rw[key]at res
 unfold WB
 rw[decide_eq_false (show ¬y=0 by omega),decide_eq_false (show ¬y<=hi by omega),decide_eq_false hz,cond_false,cond_false,cond_false,es]
 simp only[fJ (n:=(s:Int))]
 rw[eY,eU,eD,fJ (n:=64-(s:Int)),fK,fK,fK,fK]
 generalize hi*2^s+lo/2^(64-s)=U at*
 generalize (lo*2^s)%18446744073709551616=D at*
 generalize y*2^s=Y at*
 clear eY eU eD key hy1 hy2 hp0 lb lb0 hPQ hQ h1 hz
 have eY1:Y/4294967296*4294967296+Y%4294967296=Y:=by omega
 have H0:qI (Y/4294967296) (Y%4294967296) U (D/4294967296):=⟨by omega,by omega,by omega,by omega,hU0,by omega,by omega,by omega⟩
 have hU2:U<18446744073709551616:=by omega
 rw[QT,QT,Up hD0 hD1,Up (by omega) b2,fK,wq0 hU0 hU2 (by omega),wr0 hU0 hU2 (by omega)]
 obtain⟨q1,r1,e1,I1,s1⟩:=WY (y:=Y) (s:=(s:Int)) (e:=D%4294967296) H0 (gi.start H0)
 rw[e1]
 have D1:=gi.done H0 I1 s1
 simp only[gi.Xv H0 I1,gi.wr1 H0 I1]
 have second:∀Q1,I9 (Y/4294967296) (Y%4294967296) U (D/4294967296) Q1->∃W,qI (Y/4294967296) (Y%4294967296) W (D%4294967296)/\IntKind.u64.wrap (IntKind.u64.wrap (IntKind.u64.wrap (U*4294967296)+D/4294967296)-IntKind.u64.wrap (Q1*Y))=W/\W=U*4294967296+D/4294967296-Q1*Y/\0<=W/\W<Y:=fun Q1 hk=>by
  unfold I9 at hk
  rw[eY1]at hk
  obtain⟨k0,k1,k2,k3⟩:=hk
  have k4:=k3
  rw[zM,zN]at k4
  exact⟨_,⟨by omega,by omega,by omega,by omega,by omega,by omega,by omega,by omega⟩,ags k2 k3 b2,rfl,by omega,by omega⟩
 have fin:∀Q1 Q2 W,W=U*4294967296+D/4294967296-Q1*Y->I9 (Y/4294967296) (Y%4294967296) W (D%4294967296) Q2->cw IntKind.u64 (IntKind.u64.wrap (IntKind.u64.wrap (IntKind.u64.wrap (W*4294967296)+D%4294967296)-IntKind.u64.wrap (Q2*Y))) (s:Int)=(hi*18446744073709551616+lo)%y:=fun Q1 Q2 W hW hk=>by
  unfold I9 at hk
  rw[eY1]at hk
  obtain⟨k0,k1,k2,k3⟩:=hk
  rw[ags k2 k3 b2,Wt s (by omega)]
  have e:U*18446744073709551616+D=W*4294967296+D%4294967296+Q1*4294967296*Y:=by
   rw[hW,zI,zw 4294967296 Y,<-zI]
   omega
  rw[<-res (Q1*4294967296+Q2)]
  ·congr 1
   rw[zM]
   omega
  ·rw[zM]
   omega
  ·rw[zM,zN]at k3
   rw[Int.add_assoc,zM,zM Q2,zN]
   omega
 by_cases c1:4294967296<=q1\/4294967296*r1+D/4294967296<q1*(Y%4294967296)
 ·rw[decide_eq_true c1]at D1 ⊢
  rw[cond_true]at D1
  rw[cond_true,decide_eq_true (s1 c1),cond_true,fK,gi.wq1 H0 I1 c1]
  obtain⟨W,H1,w1,w2,w3,w4⟩:=second _ D1
  rw[w1,wq0 w3 (by omega) (by omega),wr0 w3 (by omega) (by omega)]
  obtain⟨q2,r2,e2,I2,s2⟩:=Ke (y:=Y) (s:=(s:Int)) (e:=q1-1) H1 (gi.start H1)
  rw[e2]
  have D2:=gi.done H1 I2 s2
  simp only[gi.Xv H1 I2,gi.wr1 H1 I2]
  by_cases c2:4294967296<=q2\/4294967296*r2+D%4294967296<q2*(Y%4294967296)
  ·rw[decide_eq_true c2]at D2 ⊢
   rw[cond_true]at D2
   rw[cond_true,decide_eq_true (s2 c2),cond_true,fK,gi.wq1 H1 I2 c2,fin _ _ W w2 D2]
   exact⟨_,rfl⟩
  ·rw[decide_eq_false c2]at D2 ⊢
   rw[cond_false]at D2
   rw[cond_false,fK,fin _ _ W w2 D2]
   exact⟨_,rfl⟩
 ·rw[decide_eq_false c1]at D1 ⊢
  rw[cond_false]at D1
  rw[cond_false,fK]
  obtain⟨W,H1,w1,w2,w3,w4⟩:=second _ D1
  rw[w1,wq0 w3 (by omega) (by omega),wr0 w3 (by omega) (by omega)]
  obtain⟨q2,r2,e2,I2,s2⟩:=Ke (y:=Y) (s:=(s:Int)) (e:=q1) H1 (gi.start H1)
  rw[e2]
  have D2:=gi.done H1 I2 s2
  simp only[gi.Xv H1 I2,gi.wr1 H1 I2]
  by_cases c2:4294967296<=q2\/4294967296*r2+D%4294967296<q2*(Y%4294967296)
  ·rw[decide_eq_true c2]at D2 ⊢
   rw[cond_true]at D2
   rw[cond_true,decide_eq_true (s2 c2),cond_true,fK,gi.wq1 H1 I2 c2,fin _ _ W w2 D2]
   exact⟨_,rfl⟩
  ·rw[decide_eq_false c2]at D2 ⊢
   rw[cond_false]at D2
   rw[cond_false,fK,fin _ _ W w2 D2]
   exact⟨_,rfl⟩
theorem mul_lt{a b m n:Int}(h1:0<=a)(h2:a<=m)(h3:0<=b)(h4:b<=n):0<=a*b/\a*b<=m*n:=
 ⟨zo h1 h3,yN h2 h4 h3 (by omega)⟩
theorem ajV{x y:Int}(h1:0<=x)(h2:x<18446744073709551616)(h3:0<=y)(h4:y<18446744073709551616):VS x y=(x*y/18446744073709551616,x*y%18446744073709551616):=by
 unfold VS
 simp only[QT,Up h1 h2,Up h3 h4]
 have e:x*y=(x/4294967296*(y/4294967296))*18446744073709551616+(x/4294967296*(y%4294967296))*4294967296+(x%4294967296*(y/4294967296))*4294967296+x%4294967296*(y%4294967296):=by
  conv=>lhs;rw[show x=x/4294967296*4294967296+x%4294967296 by omega,show y=y/4294967296*4294967296+y%4294967296 by omega]
  generalize x/4294967296=a
  generalize x%4294967296=b
  generalize y/4294967296=c
  generalize y%4294967296=d
  rw[zM,yQ,yQ,zI,Int.mul_left_comm 4294967296 c,zI,zw 4294967296 d,<-zI b,<-zI a d,<-zI a c]
  omega
 obtain⟨a0,a1⟩:=mul_lt (a:=x/4294967296) (b:=y/4294967296) (m:=4294967295) (n:=4294967295) (by omega) (by omega) (by omega) (by omega)
 obtain⟨b0,b1⟩:=mul_lt (a:=x/4294967296) (b:=y%4294967296) (m:=4294967295) (n:=4294967295) (by omega) (by omega) (by omega) (by omega)
 obtain⟨c0,c1⟩:=mul_lt (a:=x%4294967296) (b:=y/4294967296) (m:=4294967295) (n:=4294967295) (by omega) (by omega) (by omega) (by omega)
 obtain⟨d0,d1⟩:=mul_lt (a:=x%4294967296) (b:=y%4294967296) (m:=4294967295) (n:=4294967295) (by omega) (by omega) (by omega) (by omega)
 rw[e]
 generalize x/4294967296*(y/4294967296)=A at*
 generalize x/4294967296*(y%4294967296)=B at*
 generalize x%4294967296*(y/4294967296)=C at*
 generalize x%4294967296*(y%4294967296)=D at*
 rw[fJ (n:=A),fJ (n:=B),fJ (n:=C),fJ (n:=D),
  fJ (n:=B+D/4294967296),Up (by omega) (by omega),fJ (n:=(B+D/4294967296)%4294967296+C)]
 rw[fJ (n:=A+(B+D/4294967296)/4294967296),fJ,LH]
 congr 1
 omega
theorem ajn{x y m:Int}(h1:0<=x)(h2:x<m)(h3:0<=y)(h4:y<m)(h5:m<9223372036854775808):aen x y m=O (x*y%m):=by
 unfold aen
 rw[fJ h1 (by omega),fJ h3 (by omega),fJ (n:=m),ajV h1 (by omega) h3 (by omega)]
 simp only
 obtain⟨k0,k1⟩:=mul_lt (a:=x) (b:=y) (m:=m) (n:=m-1) h1 (by omega) h3 (by omega)
 have hx:x*y<m*18446744073709551616:=by
  have:m*(m-1)<=m*18446744073709551615:=xS (by omega) (by omega)
  omega
 unfold akI
 have hh:x*y/18446744073709551616<m:=wu (by omega) hx
 have hh0:0<=x*y/18446744073709551616:=by omega
 rw[fK,jx hh0,Int.emod_eq_of_lt hh0 hh]
 obtain⟨q,e⟩:=akc hh0 hh (by omega) (show 0<=x*y%18446744073709551616 by omega) (by omega)
 rw[e,show x*y/18446744073709551616*18446744073709551616+x*y%18446744073709551616=x*y by omega]
 simp only
 have r0:=yM (x*y) (b:=m) (by omega)
 have r1:=yP (x*y) (b:=m) (by omega)
 rw[aF]
end Go.Proofs.YtnfljbehcffmcaaGreat
end
