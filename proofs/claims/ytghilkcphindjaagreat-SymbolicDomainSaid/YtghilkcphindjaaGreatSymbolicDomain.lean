/- The row SymbolicDomain, joined from the merged texts. -/
import Derived.Test.YtghilkcphindjaaGreatRows
import Derived.Test.YtghilkcphindjaaGreatM7SymbolicDomain
import Derived.ProofKit
import Derived.Below
import Derived.ChangeSame
import Derived.Carry
set_option linter.unusedSectionVars false
set_option linter.unusedVariables false
set_option linter.unusedSimpArgs false
set_option linter.defProp false
namespace Go.Proofs.YtghilkcphindjaaGreat
open Go.ChangeShapes Go.WideShapes Go.ChangeAt Go.RowKit Go.Iv
section
variable {H:Type} {enc:TypeId×Value->H} {P:Program}
theorem CJ{f:Func}{s:ChangeSpec}{apart fresh handsOn again:Bool}{W W':World}{args:Array Value}{v:Value}{ds gs:List (DataW H)}{before pa pv:List MemPlace}
  (hW:DataW.Whole enc P f.params.toList s.vars apart W args.toList ds gs before)
  (hres:∀(b:Nat) (sp:Nat->Bool) (hd:Bool),DataW.TrodAll enc P W' b sp hd f.resultTypes.toList (v.resultList f.resultTypes.size) (s.fn H (ds++gs)).results [])
  (hargs:DataW.TrodAll enc P W' 0 (fun b=>decide (b<W.heap.size)) true f.params.toList args.toList (s.fn H (ds++gs)).args pa)
  (hargs2:DataW.TrodAll enc P W' 0 (fun _=>true) true f.params.toList args.toList (s.fn H (ds++gs)).args pa)
  (hvars:∀sp:Nat->Bool,DataW.TrodVars enc P W' sp s.vars (s.fn H (ds++gs)).vars pv)
  (hps:before=pa++pv) (hb:Below W.heap.size W W')
  (hok:∀(j:Nat) (t:TypeId) (r:Value),f.resultTypes[j]? =some t->(v.resultList f.resultTypes.size)[j]? =some r->Value.okWide P W' .any 0 t r):
  s.post enc P f apart fresh handsOn again W args v W':=by
 have hlt:∀p∈before,p.block<W.heap.size:=fun p hp=>hW.lt p hp
 refine⟨ds,gs,before,[],pa,pv,hW,hres _ _ _,hargs,hvars _,World.keptBut_mono (fun p hp=>⟨hp,?_⟩) (hb.frame (· ∈before)),fun _=> ?_⟩
 ·rw[hps,List.mem_append]at hp
  exact Or.inr hp
 ·obtain⟨_,_,_,_,_,hz,hn⟩:=hW
  refine⟨hok,_,_,([]++pa)++pv,⟨[]++pa,pv,trodAll_append hargs2 (hres _ _ _),hvars _,rfl,?_,?_⟩,?_⟩
  ·intro b off hp
   have hin:MemPlace.cell b off∈before:=by rw[hps];simpa using hp
   rw[hb.frozen (hlt _ hin)]
   exact hz b off hin
  ·intro ha
   have:=hn ha
   rw[hps]at this
   simpa using this
  ·intro p hp _
   rw[hps]
   simpa using hp
theorem Below.WQ{t:TypeId}(hl:laidOutB P=true)(hr:P.readableRec t=true)(hrow:t<P.types.size){W W':World}{v:Value}{d:DataW H}{ps:List MemPlace}
  (h:DataW.Trod enc P W 0 (fun _=>true) true t v d ps) (hb:Below W.heap.size W W') (hlt:∀x∈ps,x.block<W.heap.size) (sp:Nat->Bool) (hsp:∀x∈ps,sp x.block=true):DataW.Trod enc P W' 0 sp true t v d ps:=
 WideElems.Trod_stays hl hr hrow h (fun x hx=>hb.same (hlt x hx)) hsp
end
theorem Tryz.own:ownKnob Tryz.prog.godebug=none:=by kernel_rfl
theorem Tryz.laidOut:laidOutB Tryz.prog=true:=by kernel_rfl
set_option maxRecDepth 100000 in
theorem lifted(os:Os)(started:os.Started)(H:Type)(enc:TypeId×Value->H):
  ReturnsInHanded {} Tryz.checked os 4 .any (Rows.symbolicDomainSpec.pre6 enc Tryz.prog Tryz.f4 Rows.symbolicDomainRow.domain false) (Rows.symbolicDomainSpec.post enc Tryz.prog Tryz.f4 false true false false):=by
 refine returnsInHanded_of_change (C:=Tryz.checked) Tryz.own started (by kernel_rfl) Tryz.func4
  (ChangeSpec.witness6 (enc:=enc) (C:=Tryz.checked) false ⟨#[],#[.agg #[.slice none 0 0, .slice none 0 0, .slice none 0 0]],[]⟩ 8 (by kernel_rfl) (by kernel_rfl) (by kernel_rfl) (by kernel_rfl)) ?_
 intro W base args ds gs before hval0 hW hcnd _
 have hval:∀(j:Nat) t v,Tryz.f4.params[j]? =some t->args[j]? =some v->Value.okWide Tryz.prog W .any base t v:=hval0
 have hW':=hW
 obtain⟨p,q,hA0,hV,rfl,hfz,hnd⟩:=hW
 have hA:DataW.TrodAll enc Tryz.prog W 0 (fun _=>true) true Tryz.f4.params.toList args.toList ds p:=hA0
 rw[Tryz.params4]at hA hval
 obtain⟨v0,d0,rfl,rfl,h0⟩:=trodAll_one hA
 obtain⟨rfl,rfl⟩:=trodVars_none hV
 have hlt:=fun x hx=>hW'.lt x (List.mem_append_left _ hx)
 have g0:=h0
 obtain⟨c0,rfl,_⟩:=okWide_struct Tryz.underlying26 (hval 0 26 v0 rfl rfl)
 obtain⟨x0,k0,r0⟩:=kO.agg aCw rfl h0
 clear hA0 hval0
 simp only[List.append_nil]at hW'
 refine(alk (A:=tv) ((at0 x0)) (bn.cons r0 bn.nil)).mono fun e W' he=> ?_
 obtain⟨_,rfl,rfl,hBW⟩:=he
 have rd:∀sp:Nat->Bool,(∀x,x<W.heap.size->sp x=true)->DataW.TrodAll enc Tryz.prog W' 0 sp true [26] [_] _ _:=fun sp hsp=>
  trodAll_mk1 (Below.WQ Tryz.laidOut (by kernel_rfl) (of_decide_eq_true (by kernel_rfl)) g0 hBW hlt sp fun x hx=>hsp _ (hlt x hx))
 exact⟨_,rfl,CJ (pv:=[]) hW' (fun _ _ _=>trodAll_mk1 (shut_bool Tryz.underlying4 true)) (rd _ fun x hx=>by simpa using hx) (rd _ fun _ _=>rfl) (fun _=>rfl) (by simp) hBW
  (ok_one (by kernel_rfl) rfl (okWide_bool_mk Tryz.underlying4 true))⟩
theorem AJ:Tryz.prog.inPlace 4=Rows.symbolicDomainRow.inPlace:=by kernel_rfl
theorem qe:Tryz.prog.unfollowed 4=true:=by kernel_rfl
theorem uA:Tryz.prog.recurses 4=true:=by kernel_rfl
theorem rW:Tryz.prog.varsNamed 4=Rows.symbolicDomainRow.named:=by kernel_rfl
theorem rZ:mapsRowed Tryz.prog=true:=by kernel_rfl
theorem sQ:Tryz.prog.plainKeys=Rows.symbolicDomainRow.plainKeys:=by kernel_rfl
theorem qd:Tryz.prog.stopsHeard=true:=by kernel_rfl
theorem uv:Tryz.prog.mayEnter=true:=by kernel_rfl
theorem q8:Tryz.prog.liftsFinal=Rows.symbolicDomainRow.lifted:=by kernel_rfl
theorem Gn:(Tryz.prog.make==some Rows.symbolicDomainRow.make)=true:=by kernel_rfl
set_option maxRecDepth 100000 in
theorem F1:joinedFacts Tryz.prog 4 Tryz.f4 Rows.symbolicDomainSpec Rows.symbolicDomainRow=true:=by
 unfold joinedFacts
 rw[AJ,qe,uA,rW,Tryz.laidOut,rZ,sQ,qd,uv,q8,Gn]
 kernel_rfl
theorem domain_holds:Rows.SymbolicDomainSaid:=
 OpenClaim.holds_of_wide 4 Tryz.f4 rfl rfl rfl rfl rfl rfl rfl ⟨rfl,rfl,rfl,rfl,rfl⟩ rfl rfl rfl rfl rfl (by kernel_rfl) Tryz.func4 F1
  (of_decide_eq_true (by kernel_rfl)) (by unfold Func.isWrapper;rw[if_neg (of_decide_eq_false (by kernel_rfl))];exact⟨rfl,rfl⟩)
  (fun os started H enc _=>lifted os started H enc)
end Go.Proofs.YtghilkcphindjaaGreat
