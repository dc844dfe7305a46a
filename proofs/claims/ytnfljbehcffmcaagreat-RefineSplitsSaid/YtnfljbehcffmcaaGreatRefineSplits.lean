/- The row RefineSplits, joined from the merged texts. -/
import Derived.Test.YtnfljbehcffmcaaGreatM1RefineSplits
import Derived.Test.YtnfljbehcffmcaaGreatRows
import Derived.Test.YtnfljbehcffmcaaGreatM7RefineSplits
import Derived.ProofKit
import Derived.Below
import Derived.ChangeSame
import Derived.Carry
set_option linter.unusedSectionVars false
set_option linter.unusedVariables false
set_option linter.unusedSimpArgs false
set_option linter.defProp false
namespace Go.Proofs.YtnfljbehcffmcaaGreat
open Go.ChangeShapes Go.WideShapes Go.ChangeAt Go.RowKit Go.Iv
section
variable {H:Type} {enc:TypeId×Value->H} {P:Program}
theorem G3{f:Func}{s:ChangeSpec}{apart fresh handsOn again:Bool}{W W':World}{args:Array Value}{v:Value}{ds gs:List (DataW H)}{before pa pv:List MemPlace}
  (hW:DataW.Whole enc P f.params.toList s.vars apart W args.toList ds gs before)
  (hres:∀(b:Nat) (sp:Nat->Bool) (hd:Bool),DataW.TrodAll enc P W' b sp hd f.resultTypes.toList (v.resultList f.resultTypes.size) (s.fn H (ds++gs)).results [])
  (hargs:DataW.TrodAll enc P W' 0 (fun b=>decide (b<W.heap.size)) true f.params.toList args.toList (s.fn H (ds++gs)).args pa)
  (hargs2:DataW.TrodAll enc P W' 0 (fun _=>true) true f.params.toList args.toList (s.fn H (ds++gs)).args pa)
  (hvars:∀sp:Nat->Bool,DataW.TrodVars enc P W' sp s.vars (s.fn H (ds++gs)).vars pv)
  (hps:before=pa++pv) (hb:Below W.heap.size W W')
  (hok:∀(j:Nat) (t:TypeId) (r:Value),f.resultTypes[j]? =some t->(v.resultList f.resultTypes.size)[j]? =some r->Value.okWide P W' .any 0 t r):
  s.post enc P f apart fresh handsOn again W args v W':=by
 have hlt:∀p∈before,p.block<W.heap.size:=fun p hp=>hW.lt p hp
 refine⟨ds,gs,before,[],pa,pv,hW,hres _ _ _,hargs,hvars _,World.keptBut_mono (fun p hp=>⟨hp,?_⟩) (hb.frame (· ∈before)),fun _=> ?_⟩
 ·rw[hps,List.mem_append]at hp
  exact Or.inr hp
 ·obtain⟨_,_,_,_,_,hz,hn⟩:=hW
  refine⟨hok,_,_,([]++pa)++pv,⟨[]++pa,pv,trodAll_append hargs2 (hres _ _ _),hvars _,rfl,?_,?_⟩,?_⟩
  ·intro b off hp
   have hin:MemPlace.cell b off∈before:=by rw[hps];simpa using hp
   rw[hb.frozen (hlt _ hin)]
   exact hz b off hin
  ·intro ha
   have:=hn ha
   rw[hps]at this
   simpa using this
  ·intro p hp _
   rw[hps]
   simpa using hp
theorem Below.EX{t:TypeId}(hl:laidOutB P=true)(hr:P.readableRec t=true)(hrow:t<P.types.size){W W':World}{v:Value}{d:DataW H}{ps:List MemPlace}
  (h:DataW.Trod enc P W 0 (fun _=>true) true t v d ps) (hb:Below W.heap.size W W') (hlt:∀x∈ps,x.block<W.heap.size) (sp:Nat->Bool) (hsp:∀x∈ps,sp x.block=true):DataW.Trod enc P W' 0 sp true t v d ps:=
 WideElems.Trod_stays hl hr hrow h (fun x hx=>hb.same (hlt x hx)) hsp
end
theorem Tryz.own:ownKnob Tryz.prog.godebug=none:=aV
theorem Tryz.laidOut:laidOutB Tryz.prog=true:=aV
set_option maxRecDepth 100000 in
theorem lifted(os:Os)(started:os.Started)(H:Type)(enc:TypeId×Value->H):
  ReturnsInHanded {} Tryz.checked os 12 .any (Rows.refineSplitsSpec.pre6 enc Tryz.prog Tryz.f12 Rows.refineSplitsRow.domain false) (Rows.refineSplitsSpec.post enc Tryz.prog Tryz.f12 false true false false):=by
 refine returnsInHanded_of_change (C:=Tryz.checked) Tryz.own started aV Tryz.func12
  (ChangeSpec.witness6 (enc:=enc) (C:=Tryz.checked) false ⟨#[],#[.agg #[.slice none 0 0, .slice none 0 0, .slice none 0 0], .agg #[.slice none 0 0, .bool false], .slice none 0 0],[]⟩ 8 aV aV aV aV) ?_
 intro W base args ds gs before hval0 hW hcnd _
 have hval:∀(j:Nat) t v,Tryz.f12.params[j]? =some t->args[j]? =some v->Value.okWide Tryz.prog W .any base t v:=hval0
 have hW':=hW
 obtain⟨p,q,hA0,hV,rfl,hfz,hnd⟩:=hW
 have hA:DataW.TrodAll enc Tryz.prog W 0 (fun _=>true) true Tryz.f12.params.toList args.toList ds p:=hA0
 rw[Tryz.params12]at hA hval
 obtain⟨v0,v1,v2,d0,d1,d2,p0,p1,p2,rfl,rfl,rfl,h0,h1,h2⟩:=trodAll_three hA
 obtain⟨rfl,rfl⟩:=trodVars_none hV
 have hlt:=fun x hx=>hW'.lt x (List.mem_append_left _ hx)
 have g0:=h0
 have g1:=h1
 have g2:=h2
 obtain⟨c0,rfl,_⟩:=okWide_struct Tryz.underlying26 (hval 0 26 v0 rfl rfl)
 obtain⟨x0,k0,r0⟩:=kD.agg aFa rfl h0
 obtain⟨c1,rfl,_⟩:=okWide_struct Tryz.underlying29 (hval 1 29 v1 rfl rfl)
 obtain⟨x1,k1,r1⟩:=kD.agg aED rfl h1
 obtain⟨a2,ln2,cp2,rfl⟩:=okWide_slice Tryz.underlying79 (hval 2 79 v2 rfl rfl)
 obtain⟨x2,k2,r2⟩:=kD.one aG3 rfl h2
 clear hA0 hval0
 simp only[List.append_nil]at hW'
 refine(atx (A:=ur) ((avf x0 x1 x2 k2)) (bP.cons r0 (bP.cons r1 (bP.cons r2 bP.nil)))).mono fun e W' he=> ?_
 obtain⟨_,rfl,rfl,hBW⟩:=he
 have rd:∀sp:Nat->Bool,(∀x,x<W.heap.size->sp x=true)->DataW.TrodAll enc Tryz.prog W' 0 sp true [26,29,79] [_,_,_] _ _:=fun sp hsp=>
  trodAll_mk3 (Below.EX Tryz.laidOut aV (of_decide_eq_true aV) g0 hBW (fun x hx=>hlt x (List.mem_append_left _ (List.mem_append_left _ hx))) sp fun x hx=>hsp _ ((fun x hx=>hlt x (List.mem_append_left _ (List.mem_append_left _ hx))) x hx)) (Below.EX Tryz.laidOut aV (of_decide_eq_true aV) g1 hBW (fun x hx=>hlt x (List.mem_append_left _ (List.mem_append_right _ hx))) sp fun x hx=>hsp _ ((fun x hx=>hlt x (List.mem_append_left _ (List.mem_append_right _ hx))) x hx)) (Below.EX Tryz.laidOut aV (of_decide_eq_true aV) g2 hBW (fun x hx=>hlt x (List.mem_append_right _ hx)) sp fun x hx=>hsp _ ((fun x hx=>hlt x (List.mem_append_right _ hx)) x hx))
 exact⟨_,rfl,G3 (pv:=[]) hW' (fun _ _ _=>trodAll_mk1 (shut_bool Tryz.underlying4 true)) (rd _ fun x hx=>by simpa using hx) (rd _ fun _ _=>rfl) (fun _=>rfl) (by simp) hBW
  (ok_one aV rfl (okWide_bool_mk Tryz.underlying4 true))⟩
theorem Fl:Tryz.prog.inPlace 12=Rows.refineSplitsRow.inPlace:=aV
theorem vP:Tryz.prog.unfollowed 12=true:=aV
theorem CU:Tryz.prog.recurses 12=true:=aV
theorem BL:Tryz.prog.varsNamed 12=Rows.refineSplitsRow.named:=aV
theorem BJ:mapsRowed Tryz.prog=true:=aV
theorem B4:Tryz.prog.plainKeys=Rows.refineSplitsRow.plainKeys:=aV
theorem As:Tryz.prog.stopsHeard=true:=aV
theorem CM:Tryz.prog.mayEnter=true:=aV
theorem Ar:Tryz.prog.liftsFinal=Rows.refineSplitsRow.lifted:=aV
theorem P4:(Tryz.prog.make==some Rows.refineSplitsRow.make)=true:=aV
set_option maxRecDepth 100000 in
theorem KJ:joinedFacts Tryz.prog 12 Tryz.f12 Rows.refineSplitsSpec Rows.refineSplitsRow=true:=by
 unfold joinedFacts
 rw[Fl,vP,CU,BL,Tryz.laidOut,BJ,B4,As,CM,Ar,P4]
 kernel_rfl
theorem splits_holds:Rows.RefineSplitsSaid:=
 OpenClaim.holds_of_wide 12 Tryz.f12 rfl rfl rfl rfl rfl rfl rfl ⟨rfl,rfl,rfl,rfl,rfl⟩ rfl rfl rfl rfl rfl aV Tryz.func12 KJ
  (of_decide_eq_true aV) (by unfold Func.isWrapper;rw[if_neg (of_decide_eq_false aV)];exact⟨rfl,rfl⟩)
  (fun os started H enc _=>lifted os started H enc)
end Go.Proofs.YtnfljbehcffmcaaGreat
