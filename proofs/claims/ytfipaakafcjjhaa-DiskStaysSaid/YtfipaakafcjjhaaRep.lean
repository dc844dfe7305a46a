/- bytes.Repeat of one byte, 96 times: the walk, by hand. -/
import Derived.Test.YtfipaakafcjjhaaTy
set_option linter.unusedSectionVars false
set_option linter.unusedVariables false
set_option linter.unusedSimpArgs false
namespace Go.Proofs.Ytfipaakafcjjhaa
open Go Go.RowKit Go.Ab

def m54 (p0 : Int) (p1 : Int) : Option (Int × Int) :=
  some ((IntKind.wrap .u64 ((IntKind.wrap .u64 ((IntKind.wrap .u64 ((bShr .u64 p0 32) * (bShr .u64 p1 32))) + (bShr .u64 (IntKind.wrap .u64 ((IntKind.wrap .u64 ((bShr .u64 p0 32) * (bAnd .u64 p1 4294967295))) + (bShr .u64 (IntKind.wrap .u64 ((bAnd .u64 p0 4294967295) * (bAnd .u64 p1 4294967295))) 32))) 32))) + (bShr .u64 (IntKind.wrap .u64 ((bAnd .u64 (IntKind.wrap .u64 ((IntKind.wrap .u64 ((bShr .u64 p0 32) * (bAnd .u64 p1 4294967295))) + (bShr .u64 (IntKind.wrap .u64 ((bAnd .u64 p0 4294967295) * (bAnd .u64 p1 4294967295))) 32))) 4294967295) + (IntKind.wrap .u64 ((bAnd .u64 p0 4294967295) * (bShr .u64 p1 32))))) 32))), (IntKind.wrap .u64 (p0 * p1)))

theorem m54_ok (p0 : Int) (p1 : Int)  {r : Int × Int} (hm : m54 p0 p1 = some r) : Ab.Fn Try.prog 54 [.n .u64 p0, .n .u64 p1] [] (fun a s => a = .tup [.n .u64 r.1, .n .u64 r.2] ∧ s = []) := by
  rw [m54] at hm
  refine Ab.Fn.of Try.func54 rfl rfl rfl (fun C => ?_)
  refine CW.seq ?_
  refine CW.region ?_
  refine RW.p rfl rfl rfl (Yp.assign rfl rfl) ?_
  refine RW.p rfl rfl rfl (Yp.assign rfl rfl) ?_
  refine RW.nil ?_
  refine CW.seq ?_
  refine CW.region ?_
  refine RW.p rfl rfl rfl (Yp.move rfl rfl) ?_
  refine RW.p rfl rfl rfl (Yp.and rfl rfl rfl) ?_
  refine RW.p rfl rfl rfl (Yp.assign rfl rfl) ?_
  refine RW.nil ?_
  refine CW.seq ?_
  refine CW.region ?_
  refine RW.p rfl rfl rfl (Yp.move rfl rfl) ?_
  refine RW.p rfl rfl rfl (Yp.shr rfl rfl rfl (by decide)) ?_
  refine RW.p rfl rfl rfl (Yp.assign rfl rfl) ?_
  refine RW.nil ?_
  refine CW.seq ?_
  refine CW.region ?_
  refine RW.p rfl rfl rfl (Yp.move rfl rfl) ?_
  refine RW.p rfl rfl rfl (Yp.and rfl rfl rfl) ?_
  refine RW.p rfl rfl rfl (Yp.assign rfl rfl) ?_
  refine RW.nil ?_
  refine CW.seq ?_
  refine CW.region ?_
  refine RW.p rfl rfl rfl (Yp.move rfl rfl) ?_
  refine RW.p rfl rfl rfl (Yp.shr rfl rfl rfl (by decide)) ?_
  refine RW.p rfl rfl rfl (Yp.assign rfl rfl) ?_
  refine RW.nil ?_
  refine CW.seq ?_
  refine CW.region ?_
  refine RW.p rfl rfl rfl (Yp.move rfl rfl) ?_
  refine RW.p rfl rfl rfl (Yp.move rfl rfl) ?_
  refine RW.p rfl rfl rfl (Yp.mul rfl rfl rfl) ?_
  refine RW.p rfl rfl rfl (Yp.assign rfl rfl) ?_
  refine RW.nil ?_
  refine CW.seq ?_
  refine CW.region ?_
  refine RW.p rfl rfl rfl (Yp.move rfl rfl) ?_
  refine RW.p rfl rfl rfl (Yp.move rfl rfl) ?_
  refine RW.p rfl rfl rfl (Yp.mul rfl rfl rfl) ?_
  refine RW.p rfl rfl rfl (Yp.move rfl rfl) ?_
  refine RW.p rfl rfl rfl (Yp.shr rfl rfl rfl (by decide)) ?_
  refine RW.p rfl rfl rfl (Yp.add rfl rfl rfl) ?_
  refine RW.p rfl rfl rfl (Yp.assign rfl rfl) ?_
  refine RW.nil ?_
  refine CW.seq ?_
  refine CW.region ?_
  refine RW.p rfl rfl rfl (Yp.move rfl rfl) ?_
  refine RW.p rfl rfl rfl (Yp.and rfl rfl rfl) ?_
  refine RW.p rfl rfl rfl (Yp.assign rfl rfl) ?_
  refine RW.nil ?_
  refine CW.seq ?_
  refine CW.region ?_
  refine RW.p rfl rfl rfl (Yp.move rfl rfl) ?_
  refine RW.p rfl rfl rfl (Yp.shr rfl rfl rfl (by decide)) ?_
  refine RW.p rfl rfl rfl (Yp.assign rfl rfl) ?_
  refine RW.nil ?_
  refine CW.seq ?_
  refine CW.region ?_
  refine RW.p rfl rfl rfl (Yp.move rfl rfl) ?_
  refine RW.p rfl rfl rfl (Yp.move rfl rfl) ?_
  refine RW.p rfl rfl rfl (Yp.move rfl rfl) ?_
  refine RW.p rfl rfl rfl (Yp.mul rfl rfl rfl) ?_
  refine RW.p rfl rfl rfl (Yp.add rfl rfl rfl) ?_
  refine RW.p rfl rfl rfl (Yp.assign rfl rfl) ?_
  refine RW.nil ?_
  refine CW.seq ?_
  refine CW.region ?_
  refine RW.p rfl rfl rfl (Yp.move rfl rfl) ?_
  refine RW.p rfl rfl rfl (Yp.move rfl rfl) ?_
  refine RW.p rfl rfl rfl (Yp.mul rfl rfl rfl) ?_
  refine RW.p rfl rfl rfl (Yp.move rfl rfl) ?_
  refine RW.p rfl rfl rfl (Yp.add rfl rfl rfl) ?_
  refine RW.p rfl rfl rfl (Yp.move rfl rfl) ?_
  refine RW.p rfl rfl rfl (Yp.shr rfl rfl rfl (by decide)) ?_
  refine RW.p rfl rfl rfl (Yp.add rfl rfl rfl) ?_
  refine RW.p rfl rfl rfl (Yp.assign rfl rfl) ?_
  refine RW.nil ?_
  refine CW.seq ?_
  refine CW.region ?_
  refine RW.p rfl rfl rfl (Yp.move rfl rfl) ?_
  refine RW.p rfl rfl rfl (Yp.move rfl rfl) ?_
  refine RW.p rfl rfl rfl (Yp.mul rfl rfl rfl) ?_
  refine RW.p rfl rfl rfl (Yp.assign rfl rfl) ?_
  refine RW.nil ?_
  refine CW.ret ?_
  cases hm
  exact fin2 (.inr rfl) rfl (ResIs.tmp rfl) (ResIs.tmp rfl) (List.nil_sublist _) ⟨rfl, rfl⟩

def m50 (p0 : Int) (p1 : Int) : Option (Int × Int) :=
  (m54 p0 p1).bind fun x1 =>
  some (x1.1, x1.2)

theorem m50_ok (p0 : Int) (p1 : Int)  {r : Int × Int} (hm : m50 p0 p1 = some r) : Ab.Fn Try.prog 50 [.n .u64 p0, .n .u64 p1] [] (fun a s => a = .tup [.n .u64 r.1, .n .u64 r.2] ∧ s = []) := by
  rw [m50] at hm
  refine Ab.Fn.of Try.func50 rfl rfl rfl (fun C => ?_)
  refine CW.seq ?_
  refine CW.region ?_
  refine RW.p rfl rfl rfl (Yp.assign rfl rfl) ?_
  refine RW.p rfl rfl rfl (Yp.assign rfl rfl) ?_
  refine RW.nil ?_
  refine CW.seq ?_
  refine CW.condF rfl ?_
  refine CW.skip ?_
  refine CW.seq ?_
  refine CW.region ?_
  refine RW.p rfl rfl rfl (Yp.move rfl rfl) ?_
  refine RW.p rfl rfl rfl (Yp.move rfl rfl) ?_
  obtain ⟨x1, hx1, hm⟩ := bnd hm
  refine RW.c rfl rfl rfl (Yc.fnV (σp := []) (args' := [.n .u64 p0, .n .u64 p1]) rfl rfl ok54 rfl rfl rfl (VwL.id _) (m54_ok p0 p1 hx1)) ?_
  rintro _ _ ⟨_, ⟨rfl, rfl⟩, rfl⟩
  refine RW.p rfl rfl rfl (Yp.move rfl rfl) ?_
  refine RW.p rfl rfl rfl (Yp.extract rfl rfl rfl) ?_
  refine RW.p rfl rfl rfl (Yp.extract rfl rfl rfl) ?_
  refine RW.p rfl rfl rfl (Yp.assign rfl rfl) ?_
  refine RW.p rfl rfl rfl (Yp.assign rfl rfl) ?_
  refine RW.nil ?_
  refine CW.seq ?_
  refine CW.region ?_
  refine RW.p rfl rfl rfl (Yp.move rfl rfl) ?_
  refine RW.p rfl rfl rfl (Yp.move rfl rfl) ?_
  refine RW.p rfl rfl rfl (Yp.assign rfl rfl) ?_
  refine RW.p rfl rfl rfl (Yp.assign rfl rfl) ?_
  refine RW.nil ?_
  refine CW.ret ?_
  cases hm
  exact fin2 (.inr rfl) rfl (ResIs.tmp rfl) (ResIs.tmp rfl) (List.nil_sublist _) ⟨rfl, rfl⟩


def m37 (p0 : List Int) (p1 : Int) : Option (List Int) := if p0.length = 1 ∧ p1 = 96 then some (List.replicate 96 p0[0]!) else none

theorem rep_step {cs es : List AV} {a : AV} {of : Nat} (h1 : ∀ j, j < of → cs[j]? = some a) (h2 : ∀ j, j < es.length → es[j]? = some a) (hle : of + es.length ≤ cs.length) : ∀ j, j < of + es.length → (cs.take of ++ es ++ cs.drop (of + es.length))[j]? = some a := fun j hj => by
  rw [List.append_assoc, List.getElem?_append, List.length_take, Nat.min_eq_left (by omega)]
  by_cases h : j < of
  · rw [if_pos h, List.getElem?_take, if_pos h]; exact h1 j h
  · rw [if_neg h, List.getElem?_append, if_pos (by omega)]; exact h2 _ (by omega)
theorem rep_len {cs es : List AV} {of : Nat} (hle : of + es.length ≤ cs.length) : (cs.take of ++ es ++ cs.drop (of + es.length)).length = cs.length := by
  rw [List.length_append, List.length_append, List.length_take, List.length_drop]; omega

set_option maxHeartbeats 1000000 in
theorem rep96 (x : Int) : Ab.Fn Try.prog 37 [.sl 1 (cN .u8) [x], .i 96] [] (fun a s => a = .sl 1 (cN .u8) (List.replicate 96 x) ∧ s = []) := by
  refine Ab.Fn.of Try.func37 rfl rfl rfl (fun C => ?_)
  (repeat refine CW.seq ?_)
  refine CW.region ?_
  refine RW.p rfl rfl rfl (Yp.assign rfl rfl) ?_
  refine RW.nil ?_
  (repeat refine CW.seq ?_)
  refine CW.region ?_
  refine RW.p rfl rfl rfl (Yp.move rfl rfl) ?_
  refine RW.p rfl rfl rfl (Yp.eq (Yp.eql rfl rfl rfl) (congrArg AV.b (show decide ((96 : Int) = 0) = false by decide))) ?_
  refine RW.nil ?_
  (repeat refine CW.seq ?_)
  refine CW.condF rfl ?_
  refine CW.skip ?_
  (repeat refine CW.seq ?_)
  refine CW.region ?_
  refine RW.p rfl rfl rfl (Yp.move rfl rfl) ?_
  refine RW.p rfl rfl rfl (Yp.eq (Yp.lss rfl rfl rfl) (congrArg AV.b (show decide ((96 : Int) < 0) = false by decide))) ?_
  refine RW.nil ?_
  (repeat refine CW.seq ?_)
  refine CW.condF rfl ?_
  refine CW.skip ?_
  (repeat refine CW.seq ?_)
  refine CW.region ?_
  refine RW.p rfl rfl rfl (Yp.move rfl rfl) ?_
  refine RW.p rfl rfl rfl (Yp.lenSl rfl rfl Try.underlying29) ?_
  refine RW.p rfl rfl rfl (Yp.eq (Yp.conv Try.underlying3 Try.underlying73 rfl rfl) (show _ = AV.n .u64 1 from congrArg (AV.n .u64) (show IntKind.wrap .u64 ((([x].length : Nat)) : Int) = 1 by rfl))) ?_
  refine RW.p rfl rfl rfl (Yp.move rfl rfl) ?_
  refine RW.p rfl rfl rfl (Yp.eq (Yp.conv Try.underlying3 Try.underlying73 rfl rfl) (show _ = AV.n .u64 96 from congrArg (AV.n .u64) (show IntKind.wrap .u64 (96 : Int) = 96 by rfl))) ?_
  refine RW.c rfl rfl rfl (Yc.fnV (σp := []) (args' := [.n .u64 1, .n .u64 96]) rfl rfl ok50 rfl rfl rfl (VwL.id _) (m50_ok 1 96 (r := (0, 96)) (by kernel_rfl))) ?_
  rintro _ _ ⟨_, ⟨rfl, rfl⟩, rfl⟩
  refine RW.p rfl rfl rfl (Yp.move rfl rfl) ?_
  refine RW.p rfl rfl rfl (Yp.extract rfl rfl rfl) ?_
  refine RW.p rfl rfl rfl (Yp.extract rfl rfl rfl) ?_
  refine RW.p rfl rfl rfl (Yp.assign rfl rfl) ?_
  refine RW.p rfl rfl rfl (Yp.assign rfl rfl) ?_
  refine RW.nil ?_
  (repeat refine CW.seq ?_)
  refine CW.region ?_
  refine RW.p rfl rfl rfl (Yp.move rfl rfl) ?_
  refine RW.p rfl rfl rfl (Yp.eq (Yp.gtr rfl rfl rfl) (congrArg AV.b (show decide ((0 : Int) < (0, 96).1) = false by decide))) ?_
  refine RW.p rfl rfl rfl (Yp.move rfl rfl) ?_
  refine RW.p rfl rfl rfl (Yp.move rfl rfl) ?_
  refine RW.p rfl rfl rfl (Yp.eq (Yp.gtr rfl rfl rfl) (congrArg AV.b (show decide ((9223372036854775807 : Int) < (0, 96).2) = false by decide))) ?_
  refine RW.p rfl rfl rfl (Yp.pickF rfl rfl rfl) ?_
  refine RW.nil ?_
  (repeat refine CW.seq ?_)
  refine CW.condF rfl ?_
  refine CW.skip ?_
  (repeat refine CW.seq ?_)
  refine CW.region ?_
  refine RW.p rfl rfl rfl (Yp.move rfl rfl) ?_
  refine RW.p rfl rfl rfl (Yp.eq (Yp.conv Try.underlying73 Try.underlying3 rfl rfl) (show _ = AV.i 96 from congrArg AV.i (show IntKind.wrap .i64 ((0, 96).2 : Int) = 96 by rfl))) ?_
  refine RW.p rfl rfl rfl (Yp.assign rfl rfl) ?_
  refine RW.nil ?_
  (repeat refine CW.seq ?_)
  refine CW.region ?_
  refine RW.p rfl rfl rfl (Yp.move rfl rfl) ?_
  refine RW.p rfl rfl rfl (Yp.lenSl rfl rfl Try.underlying29) ?_
  refine RW.p rfl rfl rfl (Yp.eq (Yp.eql rfl rfl rfl) (congrArg AV.b (show decide ((([x].length : Nat) : Int) = 0) = false by rfl))) ?_
  refine RW.nil ?_
  (repeat refine CW.seq ?_)
  refine CW.condF rfl ?_
  refine CW.skip ?_
  (repeat refine CW.seq ?_)
  refine CW.region ?_
  refine RW.p rfl rfl rfl (Yp.move rfl rfl) ?_
  refine RW.p rfl rfl rfl (Yp.assign rfl rfl) ?_
  refine RW.nil ?_
  (repeat refine CW.seq ?_)
  refine CW.region ?_
  refine RW.p rfl rfl rfl (Yp.move rfl rfl) ?_
  refine RW.p rfl rfl rfl (Yp.eq (Yp.gtr rfl rfl rfl) (congrArg AV.b (show decide ((8192 : Int) < 96) = false by decide))) ?_
  refine RW.nil ?_
  (repeat refine CW.seq ?_)
  refine CW.condF rfl ?_
  refine CW.skip ?_
  (repeat refine CW.seq ?_)
  refine CW.region ?_
  refine RW.p rfl rfl rfl (Yp.move rfl rfl) ?_
  refine RW.v rfl rfl rfl (Yv.noZero (T := 29) (n := 96) (ps := #[3]) rfl (fun w args => run_callFunc_extern Try.func51 (by kernel_rfl) (by kernel_rfl) (by kernel_rfl) (e := Extern.BytealgMakeNoZero.makeNoZero #[3] #[29]) (by kernel_rfl) args w) rfl Try.underlying29 (by decide) (by decide)) ?_
  rintro _ _ ⟨g, cap, cs, rfl, rfl, hcs, hcap, hmax⟩
  refine RW.p rfl rfl rfl (Yp.move rfl rfl) ?_
  refine RW.p rfl rfl rfl (Yp.move rfl rfl) ?_
  refine RW.p rfl rfl rfl (Yp.sliceL3 rfl rfl rfl rfl Try.underlying29 sz5 (by omega) (by decide)) ?_
  refine RW.p rfl rfl rfl (Yp.assign rfl rfl) ?_
  refine RW.nil ?_
  (repeat refine CW.seq ?_)
  refine CW.region ?_
  refine RW.p rfl rfl rfl (Yp.move rfl rfl) ?_
  refine RW.p rfl rfl rfl (Yp.move rfl rfl) ?_
  refine RW.v rfl rfl rfl (Yv.copyB 0 rfl rfl rfl (From.sl rfl (Nat.le_refl 1)) Try.underlying29 sz5 rfl rfl (by show 0 + 1 ≤ cs.length; omega)) ?_
  rintro _ _ ⟨rfl, rfl⟩
  refine RW.p rfl rfl rfl (Yp.assign rfl rfl) ?_
  refine RW.nil ?_
  have hl0 : ([x].map (AV.n .u8)).length = 1 := rfl
  have h0 := rep_step (cs := cs) (es := [x].map (AV.n .u8)) (a := .n .u8 x) (of := 0) (fun j hj => by omega) (fun j hj => by
    have : j = 0 := by simp at hj; exact hj
    subst this; rfl) (by rw [hl0]; omega)
  have h0l := rep_len (cs := cs) (es := [x].map (AV.n .u8)) (of := 0) (by rw [hl0]; omega)
  (repeat refine CW.seq ?_)
  refine CW.cut (fun E σ => ∃ ds : List AV, (∀ j, j < 96 → ds[j]? = some (.n .u8 x)) ∧ ds.length = cap ∧ Sub [(9, .lit (.slice (some ⟨g, 0, none⟩) 96 96))] E ∧ σ = [.box g 5 ds]) ?_ ?_
  · refine CW.block ?_
    refine CW.lp (fun k E σ => ∃ (bp : Nat) (ds : List AV), 1 ≤ bp ∧ bp ≤ 96 ∧ k = 96 - bp ∧ (∀ j, j < bp → ds[j]? = some (.n .u8 x)) ∧ ds.length = cap ∧ Sub [(7, .i 96), (8, .i 96), (9, .lit (.slice (some ⟨g, 0, none⟩) 96 96)), (10, .i (bp : Int))] E ∧ σ = [.box g 5 ds]) 95 ?_ ?_
    · exact ⟨1, _, by decide, by decide, rfl, fun j hj => h0 j (by rw [hl0]; omega), by rw [h0l]; exact hcs, Sub.cons rfl (Sub.cons rfl (Sub.cons rfl (Sub.cons rfl Sub.nil))), rfl⟩
    · rintro k E σ ⟨bp, ds, hb1, hb2, hk, hd, hdl, hsub, rfl⟩
      refine CW.weak ?_ hsub
      (repeat refine CW.seq ?_)
      refine CW.region ?_
      refine RW.p rfl rfl rfl (Yp.move rfl rfl) ?_
      refine RW.p rfl rfl rfl (Yp.move rfl rfl) ?_
      refine RW.p rfl rfl rfl (Yp.lss rfl rfl rfl) ?_
      refine RW.nil ?_
      (repeat refine CW.seq ?_)
      refine CW.cond rfl (fun hb => ?_) (fun hb => ?_)
      · have hlt : bp < 96 := by have := of_decide_eq_true hb; omega
        refine CW.skip ?_
        refine CW.block ?_
        (repeat refine CW.seq ?_)
        refine CW.region ?_
        refine RW.p rfl rfl rfl (Yp.move rfl rfl) ?_
        refine RW.p rfl rfl rfl (Yp.move rfl rfl) ?_
        refine RW.p rfl rfl rfl (Yp.eq (Yp.min rfl rfl rfl) (show _ = AV.i (bp : Int) from congrArg AV.i (if_neg (by omega)))) ?_
        refine RW.p rfl rfl rfl (Yp.assign rfl rfl) ?_
        refine RW.nil ?_
        refine CW.drawSel 10 rfl [0] [.box g 5 ds] [] rfl (by kernel_rfl) ?_
        intro A1 w1 hB
        refine RH.take 0 rfl (by kernel_rfl) rfl rfl rfl hB (Yp.move rfl rfl) ?_
        refine RH.take 1 rfl (by kernel_rfl) rfl rfl rfl hB (Yp.move rfl rfl) ?_
        refine RH.take 2 rfl (by kernel_rfl) rfl rfl rfl hB (Yp.move rfl rfl) ?_
        refine RH.take 3 rfl (by kernel_rfl) rfl rfl rfl hB (Yp.sliceLlo rfl rfl rfl Try.underlying29 sz5 (by omega) (by omega)) ?_
        refine RH.take 4 rfl (by kernel_rfl) rfl rfl rfl hB (Yp.move rfl rfl) ?_
        refine RH.take 5 rfl (by kernel_rfl) rfl rfl rfl hB (Yp.move rfl rfl) ?_
        refine RH.take 6 rfl (by kernel_rfl) rfl rfl rfl hB (Yp.sliceLhi rfl rfl rfl Try.underlying29 sz5 (by omega)) ?_
        have hal : ((ds.drop 0).take (min bp (96 - bp))).length = Nat.min bp (96 - bp) := by
          rw [List.length_take, List.drop_zero, hdl]; show _ = min _ _; omega
        have hstep := rep_step (cs := ds) (es := (ds.drop 0).take (min bp (96 - bp))) (a := .n .u8 x) (of := 0 + bp) (fun j hj => hd j (by omega)) (fun j hj => by
          rw [hal] at hj
          have hj : j < min bp (96 - bp) := hj
          rw [List.getElem?_take, if_pos hj, List.drop_zero]; exact hd j (by omega)) (by rw [hal, hdl]; show 0 + bp + min _ _ ≤ _; omega)
        have hlen := rep_len (cs := ds) (es := (ds.drop 0).take (min bp (96 - bp))) (of := 0 + bp) (by rw [hal, hdl]; show 0 + bp + min _ _ ≤ _; omega)
        refine RH.one 7 (by kernel_rfl) ?_
        refine RO.v rfl rfl rfl rfl rfl (Yv.copyB 0 rfl rfl rfl (From.box 0 (min bp (96 - bp)) rfl rfl) Try.underlying29 sz5 (by rw [hal]; rfl) ?_ (by rw [hal, hdl]; show 0 + bp + min _ _ ≤ _; omega)) (inX (r := .box g 5 ds) 0 rfl) ?_
        · rw [List.all_eq_true]
          intro a ha
          obtain ⟨j, hj, rfl⟩ := List.getElem_of_mem ha
          have hj2 := hj
          rw [hal] at hj2
          have hj2 : j < min bp (96 - bp) := hj2
          have : ((ds.drop 0).take (min bp (96 - bp)))[j]? = some (.n .u8 x) := by
            rw [List.getElem?_take, if_pos hj2, List.drop_zero]; exact hd j (by omega)
          rw [List.getElem?_eq_getElem hj] at this
          rw [Option.some.inj this]; rfl
        rintro _ _ ⟨rfl, rfl⟩
        refine RH.one 8 (by kernel_rfl) ?_
        refine RO.p rfl rfl rfl rfl rfl (Yp.eq (Yp.add rfl rfl rfl) (show _ = AV.i ((bp + min bp (96 - bp) : Nat) : Int) from congrArg AV.i (by rw [hal]; show w64 _ = _; rw [w64_eq (by show _ ≤ (bp : Int) + ((min bp (96 - bp) : Nat) : Int) ∧ (bp : Int) + ((min bp (96 - bp) : Nat) : Int) ≤ _; omega)]; show (bp : Int) + ((min bp (96 - bp) : Nat) : Int) = _; omega))) ?_
        refine RH.one 9 (by kernel_rfl) ?_
        refine RO.clr ?_
        refine RO.p rfl rfl rfl rfl rfl (Yp.assign rfl rfl) ?_
        refine RH.done (by kernel_rfl) ?_
        exact ⟨96 - (bp + min bp (96 - bp)), by omega, bp + min bp (96 - bp), _, by omega, by omega, rfl, fun j hj => hstep j (by rw [hal]; show j < 0 + bp + min _ _; omega), by rw [hlen]; exact hdl, Sub.cons rfl (Sub.cons rfl (Sub.cons rfl (Sub.cons rfl Sub.nil))), rfl⟩
      · have hge : bp = 96 := by have := of_decide_eq_false hb; omega
        subst hge
        refine CW.exit ?_
        exact ⟨ds, hd, hdl, Sub.cons rfl Sub.nil, rfl⟩
  · rintro E σ ⟨ds, hd, hdl, hsub, rfl⟩
    refine CW.weak ?_ hsub
    refine CW.frzL 0 9 (c := cN .u8) (List.replicate 96 x) rfl rfl (fun j hj => ?_) (by rw [List.length_replicate]; omega) (by rw [List.length_replicate]; decide) (by rw [List.length_replicate]; decide) ?_
    · rw [List.length_replicate] at hj
      rw [hd j hj, getElem!_pos _ j (by rw [List.length_replicate]; exact hj), List.getElem_replicate]; rfl
    (repeat refine CW.seq ?_)
    refine CW.region ?_
    refine RW.p rfl rfl rfl (Yp.move rfl rfl) ?_
    refine RW.p rfl rfl rfl (Yp.assign rfl rfl) ?_
    refine RW.nil ?_
    refine CW.ret ?_
    exact fin1 (.inr rfl) rfl (ResIs.tmp rfl) (List.nil_sublist _) ⟨rfl, rfl⟩

theorem m37_ok (p0 : List Int) (p1 : Int) {r : List Int} (hm : m37 p0 p1 = some r) : Ab.Fn Try.prog 37 [.sl 1 (cN .u8) p0, .i p1] [] (fun a s => a = .sl 1 (cN .u8) r ∧ s = []) := by
  unfold m37 at hm
  obtain ⟨⟨h1, h2⟩, hm⟩ := chk hm
  cases hm
  subst h2
  match p0, h1 with
  | [x], _ => exact rep96 x

end Go.Proofs.Ytfipaakafcjjhaa
