/- The row SymbolicDecodes, joined from the merged texts. -/
import Derived.Test.YtghilkcphindjaaGreatRows
import Derived.Test.YtghilkcphindjaaGreatM6SymbolicDecodes
import Derived.ProofKit
import Derived.Below
import Derived.ChangeSame
import Derived.Carry
set_option linter.unusedSectionVars false
set_option linter.unusedVariables false
set_option linter.unusedSimpArgs false
set_option linter.defProp false
namespace Go.Proofs.YtghilkcphindjaaGreat
open Go.ChangeShapes Go.WideShapes Go.ChangeAt Go.RowKit Go.Iv
section
variable {H : Type} {enc : TypeId × Value → H} {P : Program}
theorem post_of_below {f : Func} {s : ChangeSpec} {apart fresh handsOn again : Bool} {W W' : World} {args : Array Value} {v : Value} {ds gs : List (DataW H)} {before pa pv : List MemPlace}
    (hW : DataW.Whole enc P f.params.toList s.vars apart W args.toList ds gs before)
    (hres : ∀ (b : Nat) (sp : Nat → Bool) (hd : Bool), DataW.TrodAll enc P W' b sp hd f.resultTypes.toList (v.resultList f.resultTypes.size) (s.fn H (ds ++ gs)).results [])
    (hargs : DataW.TrodAll enc P W' 0 (fun b => decide (b < W.heap.size)) true f.params.toList args.toList (s.fn H (ds ++ gs)).args pa)
    (hargs2 : DataW.TrodAll enc P W' 0 (fun _ => true) true f.params.toList args.toList (s.fn H (ds ++ gs)).args pa)
    (hvars : ∀ sp : Nat → Bool, DataW.TrodVars enc P W' sp s.vars (s.fn H (ds ++ gs)).vars pv)
    (hps : before = pa ++ pv) (hb : Below W.heap.size W W')
    (hok : ∀ (j : Nat) (t : TypeId) (r : Value), f.resultTypes[j]? = some t → (v.resultList f.resultTypes.size)[j]? = some r → Value.okWide P W' .any 0 t r) :
    s.post enc P f apart fresh handsOn again W args v W' := by
  have hlt : ∀ p ∈ before, p.block < W.heap.size := fun p hp => hW.lt p hp
  refine ⟨ds, gs, before, [], pa, pv, hW, hres _ _ _, hargs, hvars _, World.keptBut_mono (fun p hp => ⟨hp, ?_⟩) (hb.frame (· ∈ before)), fun _ => ?_⟩
  · rw [hps, List.mem_append] at hp
    exact Or.inr hp
  · obtain ⟨_, _, _, _, _, hz, hn⟩ := hW
    refine ⟨hok, _, _, ([] ++ pa) ++ pv, ⟨[] ++ pa, pv, trodAll_append hargs2 (hres _ _ _), hvars _, rfl, ?_, ?_⟩, ?_⟩
    · intro b off hp
      have hin : MemPlace.cell b off ∈ before := by rw [hps]; simpa using hp
      rw [hb.frozen (hlt _ hin)]
      exact hz b off hin
    · intro ha
      have := hn ha
      rw [hps] at this
      simpa using this
    · intro p hp _
      rw [hps]
      simpa using hp
theorem Below.trodAll' {t : TypeId} (hl : laidOutB P = true) (hr : P.readableRec t = true) (hrow : t < P.types.size) {W W' : World} {v : Value} {d : DataW H} {ps : List MemPlace}
  (h : DataW.Trod enc P W 0 (fun _ => true) true t v d ps) (hb : Below W.heap.size W W') (hlt : ∀ x ∈ ps, x.block < W.heap.size) (sp : Nat → Bool) (hsp : ∀ x ∈ ps, sp x.block = true) : DataW.Trod enc P W' 0 sp true t v d ps :=
 WideElems.Trod_stays hl hr hrow h (fun x hx => hb.same (hlt x hx)) hsp
end
theorem Tryz.own : ownKnob Tryz.prog.godebug = none := by kernel_rfl
theorem Tryz.laidOut : laidOutB Tryz.prog = true := by kernel_rfl
set_option maxRecDepth 100000 in
theorem lifted (os : Os) (started : os.Started) (H : Type) (enc : TypeId × Value → H) :
  ReturnsInHanded {} Tryz.checked os 7 .any (Rows.symbolicDecodesSpec.pre6 enc Tryz.prog Tryz.f7 Rows.symbolicDecodesRow.domain false) (Rows.symbolicDecodesSpec.post enc Tryz.prog Tryz.f7 false true false false) := by
 refine returnsInHanded_of_change (C := Tryz.checked) Tryz.own started (by kernel_rfl) Tryz.func7
  (ChangeSpec.witness6 (enc := enc) (C := Tryz.checked) false ⟨#[], #[.agg #[.slice none 0 0, .slice none 0 0, .slice none 0 0], .slice none 0 0], []⟩ 8 (by kernel_rfl) (by kernel_rfl) (by kernel_rfl) (by kernel_rfl)) ?_
 intro W base args ds gs before hval0 hW hcnd _
 have hval : ∀ (j : Nat) t v, Tryz.f7.params[j]? = some t → args[j]? = some v → Value.okWide Tryz.prog W .any base t v := hval0
 have hW' := hW
 obtain ⟨p, q, hA0, hV, rfl, hfz, hnd⟩ := hW
 have hA : DataW.TrodAll enc Tryz.prog W 0 (fun _ => true) true Tryz.f7.params.toList args.toList ds p := hA0
 rw [Tryz.params7] at hA hval
 obtain ⟨v0, v1, d0, d1, p0, p1, rfl, rfl, rfl, h0, h1⟩ := trodAll_two hA
 obtain ⟨rfl, rfl⟩ := trodVars_none hV
 have hlt := fun x hx => hW'.lt x (List.mem_append_left _ hx)
 have g0 := h0
 have g1 := h1
 obtain ⟨c0, rfl, _⟩ := okWide_struct Tryz.underlying26 (hval 0 26 v0 rfl rfl)
 obtain ⟨x0, k0, r0⟩ := Opn.agg og26 rfl h0
 obtain ⟨a1, ln1, cp1, rfl⟩ := okWide_slice Tryz.underlying45 (hval 1 45 v1 rfl rfl)
 obtain ⟨x1, k1, r1⟩ := Opn.one og45 rfl h1
 clear hA0 hval0
 simp only [List.append_nil] at hW'
 refine (fn_law (A := anyB) ((claw7 x0 x1) ) (RelL.cons r0 (RelL.cons r1 RelL.nil))).mono fun e W' he => ?_
 obtain ⟨_, rfl, rfl, hBW⟩ := he
 have rd : ∀ sp : Nat → Bool, (∀ x, x < W.heap.size → sp x = true) → DataW.TrodAll enc Tryz.prog W' 0 sp true [26, 45] [_, _] _ _ := fun sp hsp =>
  trodAll_mk2 (Below.trodAll' Tryz.laidOut (by kernel_rfl) (of_decide_eq_true (by kernel_rfl)) g0 hBW (fun x hx => hlt x (List.mem_append_left _ hx)) sp fun x hx => hsp _ ((fun x hx => hlt x (List.mem_append_left _ hx)) x hx)) (Below.trodAll' Tryz.laidOut (by kernel_rfl) (of_decide_eq_true (by kernel_rfl)) g1 hBW (fun x hx => hlt x (List.mem_append_right _ hx)) sp fun x hx => hsp _ ((fun x hx => hlt x (List.mem_append_right _ hx)) x hx))
 exact ⟨_, rfl, post_of_below (pv := []) hW' (fun _ _ _ => trodAll_mk1 (shut_bool Tryz.underlying4 true)) (rd _ fun x hx => by simpa using hx) (rd _ fun _ _ => rfl) (fun _ => rfl) (by simp) hBW
  (ok_one (by kernel_rfl) rfl (okWide_bool_mk Tryz.underlying4 true))⟩
theorem closed_inPlace : Tryz.prog.inPlace 7 = Rows.symbolicDecodesRow.inPlace := by kernel_rfl
theorem closed_unfollowed : Tryz.prog.unfollowed 7 = true := by kernel_rfl
theorem closed_recurses : Tryz.prog.recurses 7 = true := by kernel_rfl
theorem closed_varsNamed : Tryz.prog.varsNamed 7 = Rows.symbolicDecodesRow.named := by kernel_rfl
theorem closed_mapsRowed : mapsRowed Tryz.prog = true := by kernel_rfl
theorem closed_plainKeys : Tryz.prog.plainKeys = Rows.symbolicDecodesRow.plainKeys := by kernel_rfl
theorem closed_stopsHeard : Tryz.prog.stopsHeard = true := by kernel_rfl
theorem closed_mayEnter : Tryz.prog.mayEnter = true := by kernel_rfl
theorem closed_liftsFinal : Tryz.prog.liftsFinal = Rows.symbolicDecodesRow.lifted := by kernel_rfl
theorem closed_make : (Tryz.prog.make == some Rows.symbolicDecodesRow.make) = true := by kernel_rfl
set_option maxRecDepth 100000 in
theorem closed_facts : joinedFacts Tryz.prog 7 Tryz.f7 Rows.symbolicDecodesSpec Rows.symbolicDecodesRow = true := by
 unfold joinedFacts
 rw [closed_inPlace, closed_unfollowed, closed_recurses, closed_varsNamed, Tryz.laidOut, closed_mapsRowed, closed_plainKeys, closed_stopsHeard, closed_mayEnter, closed_liftsFinal, closed_make]
 kernel_rfl
theorem decodes_holds : Rows.SymbolicDecodesSaid :=
 OpenClaim.holds_of_wide 7 Tryz.f7 rfl rfl rfl rfl rfl rfl rfl ⟨rfl, rfl, rfl, rfl, rfl⟩ rfl rfl rfl rfl rfl (by kernel_rfl) Tryz.func7 closed_facts
  (of_decide_eq_true (by kernel_rfl)) (by unfold Func.isWrapper; rw [if_neg (of_decide_eq_false (by kernel_rfl))]; exact ⟨rfl, rfl⟩)
  (fun os started H enc _ => lifted os started H enc)
end Go.Proofs.YtghilkcphindjaaGreat
