/- The row SymbolicFinals, joined from the merged texts. -/
import Derived.Test.YtghilkcphindjaaGreatM1SymbolicFinals
import Derived.Test.YtghilkcphindjaaGreatRows
import Derived.Test.YtghilkcphindjaaGreatM7SymbolicFinals
import Derived.ProofKit
import Derived.Below
import Derived.ChangeSame
import Derived.Carry
set_option linter.unusedSectionVars false
set_option linter.unusedVariables false
set_option linter.unusedSimpArgs false
set_option linter.defProp false
namespace Go.Proofs.YtghilkcphindjaaGreat
open Go.ChangeShapes Go.WideShapes Go.ChangeAt Go.RowKit Go.Iv
section
variable {H:Type} {enc:TypeId×Value->H} {P:Program}
theorem Hp{f:Func}{s:ChangeSpec}{apart fresh handsOn again:Bool}{W W':World}{args:Array Value}{v:Value}{ds gs:List (DataW H)}{before pa pv:List MemPlace}
  (hW:DataW.Whole enc P f.params.toList s.vars apart W args.toList ds gs before)
  (hres:∀(b:Nat) (sp:Nat->Bool) (hd:Bool),DataW.TrodAll enc P W' b sp hd f.resultTypes.toList (v.resultList f.resultTypes.size) (s.fn H (ds++gs)).results [])
  (hargs:DataW.TrodAll enc P W' 0 (fun b=>decide (b<W.heap.size)) true f.params.toList args.toList (s.fn H (ds++gs)).args pa)
  (hargs2:DataW.TrodAll enc P W' 0 (fun _=>true) true f.params.toList args.toList (s.fn H (ds++gs)).args pa)
  (hvars:∀sp:Nat->Bool,DataW.TrodVars enc P W' sp s.vars (s.fn H (ds++gs)).vars pv)
  (hps:before=pa++pv) (hb:Below W.heap.size W W')
  (hok:∀(j:Nat) (t:TypeId) (r:Value),f.resultTypes[j]? =some t->(v.resultList f.resultTypes.size)[j]? =some r->Value.okWide P W' .any 0 t r):
  s.post enc P f apart fresh handsOn again W args v W':=by
 have hlt:∀p∈before,p.block<W.heap.size:=fun p hp=>hW.lt p hp
 refine⟨ds,gs,before,[],pa,pv,hW,hres _ _ _,hargs,hvars _,World.keptBut_mono (fun p hp=>⟨hp,?_⟩) (hb.frame (· ∈before)),fun _=> ?_⟩
 ·rw[hps,List.mem_append]at hp
  exact Or.inr hp
 ·obtain⟨_,_,_,_,_,hz,hn⟩:=hW
  refine⟨hok,_,_,([]++pa)++pv,⟨[]++pa,pv,trodAll_append hargs2 (hres _ _ _),hvars _,rfl,?_,?_⟩,?_⟩
  ·intro b off hp
   have hin:MemPlace.cell b off∈before:=by rw[hps];simpa using hp
   rw[hb.frozen (hlt _ hin)]
   exact hz b off hin
  ·intro ha
   have:=hn ha
   rw[hps]at this
   simpa using this
  ·intro p hp _
   rw[hps]
   simpa using hp
theorem Below.DQ{t:TypeId}(hl:laidOutB P=true)(hr:P.readableRec t=true)(hrow:t<P.types.size){W W':World}{v:Value}{d:DataW H}{ps:List MemPlace}
  (h:DataW.Trod enc P W 0 (fun _=>true) true t v d ps) (hb:Below W.heap.size W W') (hlt:∀x∈ps,x.block<W.heap.size) (sp:Nat->Bool) (hsp:∀x∈ps,sp x.block=true):DataW.Trod enc P W' 0 sp true t v d ps:=
 WideElems.Trod_stays hl hr hrow h (fun x hx=>hb.same (hlt x hx)) hsp
end
theorem Tryz.own:ownKnob Tryz.prog.godebug=none:=aL
theorem Tryz.laidOut:laidOutB Tryz.prog=true:=aL
set_option maxRecDepth 100000 in
theorem lifted(os:Os)(started:os.Started)(H:Type)(enc:TypeId×Value->H):
  ReturnsInHanded {} Tryz.checked os 9 .any (Rows.symbolicFinalsSpec.pre6 enc Tryz.prog Tryz.f9 Rows.symbolicFinalsRow.domain false) (Rows.symbolicFinalsSpec.post enc Tryz.prog Tryz.f9 false true false false):=by
 refine returnsInHanded_of_change (C:=Tryz.checked) Tryz.own started aL Tryz.func9
  (ChangeSpec.witness6 (enc:=enc) (C:=Tryz.checked) false ⟨#[],#[.agg #[.slice none 0 0, .slice none 0 0, .slice none 0 0], .agg #[.slice none 0 0, .bool false], .int .i64 0],[]⟩ 8 aL aL aL aL) ?_
 intro W base args ds gs before hval0 hW hcnd _
 have hval:∀(j:Nat) t v,Tryz.f9.params[j]? =some t->args[j]? =some v->Value.okWide Tryz.prog W .any base t v:=hval0
 have hW':=hW
 obtain⟨p,q,hA0,hV,rfl,hfz,hnd⟩:=hW
 have hA:DataW.TrodAll enc Tryz.prog W 0 (fun _=>true) true Tryz.f9.params.toList args.toList ds p:=hA0
 rw[Tryz.params9]at hA hval
 obtain⟨v0,v1,v2,d0,d1,d2,p0,p1,p2,rfl,rfl,rfl,h0,h1,h2⟩:=trodAll_three hA
 obtain⟨rfl,rfl⟩:=trodVars_none hV
 have hlt:=fun x hx=>hW'.lt x (List.mem_append_left _ hx)
 have g0:=h0
 have g1:=h1
 have g2:=h2
 obtain⟨c0,rfl,_⟩:=okWide_struct Tryz.underlying26 (hval 0 26 v0 rfl rfl)
 obtain⟨x0,r0⟩:=Opn.agg aKx rfl h0
 obtain⟨c1,rfl,_⟩:=okWide_struct Tryz.underlying53 (hval 1 53 v1 rfl rfl)
 obtain⟨x1,r1⟩:=Opn.agg aJG rfl h1
 obtain⟨x2,rfl,rfl,rfl,k2⟩:=open_int Tryz.underlying3 (hval 2 3 v2 rfl rfl) h2
 have r2:Rel Fu W (.n .i64 x2) (.int .i64 x2):= .lit _
 clear hA0 hval0
 simp only[List.append_nil]at hW'
 refine(awc (A:=Fu) ((aC2 x0 x1 x2)) (bD.cons r0 (bD.cons r1 (bD.cons r2 bD.nil)))).mono fun e W' he=> ?_
 obtain⟨_,rfl,rfl,hBW⟩:=he
 have rd:∀sp:Nat->Bool,(∀x,x<W.heap.size->sp x=true)->DataW.TrodAll enc Tryz.prog W' 0 sp true [26,53,3] [_,_,_] _ _:=fun sp hsp=>
  trodAll_mk3 (Below.DQ Tryz.laidOut aL (of_decide_eq_true aL) g0 hBW (fun x hx=>hlt x (List.mem_append_left _ (List.mem_append_left _ hx))) sp fun x hx=>hsp _ ((fun x hx=>hlt x (List.mem_append_left _ (List.mem_append_left _ hx))) x hx)) (Below.DQ Tryz.laidOut aL (of_decide_eq_true aL) g1 hBW (fun x hx=>hlt x (List.mem_append_left _ (List.mem_append_right _ hx))) sp fun x hx=>hsp _ ((fun x hx=>hlt x (List.mem_append_left _ (List.mem_append_right _ hx))) x hx)) (Below.DQ Tryz.laidOut aL (of_decide_eq_true aL) g2 hBW (fun x hx=>hlt x (List.mem_append_right _ hx)) sp fun x hx=>hsp _ ((fun x hx=>hlt x (List.mem_append_right _ hx)) x hx))
 exact⟨_,rfl,Hp (pv:=[]) hW' (fun _ _ _=>trodAll_mk1 (shut_bool Tryz.underlying4 true)) (rd _ fun x hx=>by simpa using hx) (rd _ fun _ _=>rfl) (fun _=>rfl) (by simp) hBW
  (ok_one aL rfl (okWide_bool_mk Tryz.underlying4 true))⟩
theorem EI:Tryz.prog.inPlace 9=Rows.symbolicFinalsRow.inPlace:=aL
theorem vn:Tryz.prog.unfollowed 9=true:=aL
theorem CG:Tryz.prog.recurses 9=true:=aL
theorem Bu:Tryz.prog.varsNamed 9=Rows.symbolicFinalsRow.named:=aL
theorem AG:mapsRowed Tryz.prog=true:=aL
theorem Bz:Tryz.prog.plainKeys=Rows.symbolicFinalsRow.plainKeys:=aL
theorem Ae:Tryz.prog.stopsHeard=true:=aL
theorem CO:Tryz.prog.mayEnter=true:=aL
theorem vz:Tryz.prog.liftsFinal=Rows.symbolicFinalsRow.lifted:=aL
theorem NL:(Tryz.prog.make==some Rows.symbolicFinalsRow.make)=true:=aL
set_option maxRecDepth 100000 in
theorem JS:joinedFacts Tryz.prog 9 Tryz.f9 Rows.symbolicFinalsSpec Rows.symbolicFinalsRow=true:=by
 unfold joinedFacts
 rw[EI,vn,CG,Bu,Tryz.laidOut,AG,Bz,Ae,CO,vz,NL]
 kernel_rfl
theorem finals_holds:Rows.SymbolicFinalsSaid:=
 OpenClaim.holds_of_wide 9 Tryz.f9 rfl rfl rfl rfl rfl rfl rfl ⟨rfl,rfl,rfl,rfl,rfl⟩ rfl rfl rfl rfl rfl aL Tryz.func9 JS
  (of_decide_eq_true aL) (by unfold Func.isWrapper;rw[if_neg (of_decide_eq_false aL)];exact⟨rfl,rfl⟩)
  (fun os started H enc _=>lifted os started H enc)
end Go.Proofs.YtghilkcphindjaaGreat
