/- Merged: Ty, Rep, G0, Bk, Man. -/
import Derived.Test.YtfipaakafcjjhaaM4DiskWhole
import Derived.Test.YtfipaakafcjjhaaProg
import Derived.RangeFuncBound
import Derived.RangeFuncCalls
import Derived.RangeFuncLeaves
import Derived.Shelf.Abstract
import Derived.Shelf.RegionOpen
import Derived.WalkKit
import Derived.OwnWalkIn
import Derived.TacticsInMore
import Derived.LoopNIn
import Derived.LoopIn
section
set_option linter.unusedSectionVars false
set_option linter.unusedVariables false
set_option linter.unusedSimpArgs false
namespace Go.Proofs.YtfipaakafcjjhaaD
open Go Go.RowKit Go.Ab Go.Proofs

structure Write where
  fAt : Int
  fData : List Int
  deriving Inhabited, DecidableEq
def Write.cells (x : Write) : List AV := [.i x.fAt, .sl 1 (cN .u8) x.fData]
structure Disk where
  fDurable : List (List Int)
  fPending : List Write
  fLeft : Int
  fDown : Bool
  deriving Inhabited, DecidableEq
def Disk.cells (x : Disk) : List AV := [.sl 1 (cL 1 (cN .u8)) x.fDurable, .sl 2 Write.cells x.fPending, .i x.fLeft, .b x.fDown]
theorem many26 : isMany Try.prog 26 4 := ⟨⟨_, Try.underlying26, trivial⟩, by kernel_rfl⟩
theorem many56 : isMany Try.prog 56 2 := ⟨⟨_, Try.underlying56, trivial⟩, by kernel_rfl⟩
theorem ok12 : fnOk Try.prog 12 := ⟨_, Try.func12, by kernel_rfl, rfl⟩
theorem ok13 : fnOk Try.prog 13 := ⟨_, Try.func13, by kernel_rfl, rfl⟩
theorem ok14 : fnOk Try.prog 14 := ⟨_, Try.func14, by kernel_rfl, rfl⟩
theorem ok15 : fnOk Try.prog 15 := ⟨_, Try.func15, by kernel_rfl, rfl⟩
theorem ok17 : fnOk Try.prog 17 := ⟨_, Try.func17, by kernel_rfl, rfl⟩
theorem ok19 : fnOk Try.prog 19 := ⟨_, Try.func19, by kernel_rfl, rfl⟩
theorem ok24 : fnOk Try.prog 24 := ⟨_, Try.func24, by kernel_rfl, rfl⟩
theorem ok32 : fnOk Try.prog 32 := ⟨_, Try.func32, by kernel_rfl, rfl⟩
theorem ok33 : fnOk Try.prog 33 := ⟨_, Try.func33, by kernel_rfl, rfl⟩
theorem ok34 : fnOk Try.prog 34 := ⟨_, Try.func34, by kernel_rfl, rfl⟩
theorem ok35 : fnOk Try.prog 35 := ⟨_, Try.func35, by kernel_rfl, rfl⟩
theorem ok36 : fnOk Try.prog 36 := ⟨_, Try.func36, by kernel_rfl, rfl⟩
theorem ok37 : fnOk Try.prog 37 := ⟨_, Try.func37, by kernel_rfl, rfl⟩
theorem ok39 : fnOk Try.prog 39 := ⟨_, Try.func39, by kernel_rfl, rfl⟩
theorem ok40 : fnOk Try.prog 40 := ⟨_, Try.func40, by kernel_rfl, rfl⟩
theorem ok41 : fnOk Try.prog 41 := ⟨_, Try.func41, by kernel_rfl, rfl⟩
theorem ok45 : fnOk Try.prog 45 := ⟨_, Try.func45, by kernel_rfl, rfl⟩
theorem ok48 : fnOk Try.prog 48 := ⟨_, Try.func48, by kernel_rfl, rfl⟩
theorem ok49 : fnOk Try.prog 49 := ⟨_, Try.func49, by kernel_rfl, rfl⟩
theorem ok50 : fnOk Try.prog 50 := ⟨_, Try.func50, by kernel_rfl, rfl⟩
theorem ok54 : fnOk Try.prog 54 := ⟨_, Try.func54, by kernel_rfl, rfl⟩
theorem one23 : isOne Try.prog 23 := ⟨_, Try.underlying23, trivial⟩
theorem one24 : isOne Try.prog 24 := ⟨_, Try.underlying24, trivial⟩
theorem one29 : isOne Try.prog 29 := ⟨_, Try.underlying29, trivial⟩
theorem one3 : isOne Try.prog 3 := ⟨_, Try.underlying3, trivial⟩
theorem one4 : isOne Try.prog 4 := ⟨_, Try.underlying4, trivial⟩
theorem one57 : isOne Try.prog 57 := ⟨_, Try.underlying57, trivial⟩
theorem plc26 : placesOf Try.prog 26 = some [(0, 1), (1, 1), (2, 1), (3, 1)] := by kernel_rfl
theorem plc56 : placesOf Try.prog 56 = some [(0, 1), (1, 1)] := by kernel_rfl
theorem sz23 : (Try.prog.info? 23).map (·.size) = some 1 := by kernel_rfl
theorem sz24 : (Try.prog.info? 24).map (·.size) = some 1 := by kernel_rfl
theorem sz26 : (Try.prog.info? 26).map (·.size) = some 4 := by kernel_rfl
theorem sz29 : (Try.prog.info? 29).map (·.size) = some 1 := by kernel_rfl
theorem sz3 : (Try.prog.info? 3).map (·.size) = some 1 := by kernel_rfl
theorem sz4 : (Try.prog.info? 4).map (·.size) = some 1 := by kernel_rfl
theorem sz5 : (Try.prog.info? 5).map (·.size) = some 1 := by kernel_rfl
theorem sz56 : (Try.prog.info? 56).map (·.size) = some 2 := by kernel_rfl
theorem sz57 : (Try.prog.info? 57).map (·.size) = some 1 := by kernel_rfl
theorem szb29 : (Try.prog.info? 29).map (fun i => (i.size, i.bytes)) = some (1, 24) := by kernel_rfl
theorem szb5 : (Try.prog.info? 5).map (fun i => (i.size, i.bytes)) = some (1, 1) := by kernel_rfl
theorem szb56 : (Try.prog.info? 56).map (fun i => (i.size, i.bytes)) = some (2, 32) := by kernel_rfl
theorem zer26 : zerosOf Try.prog 26 = some [.slice none 0 0, .slice none 0 0, .int .i64 0, .bool false] := by kernel_rfl
theorem zer29 : zerosOf Try.prog 29 = some [.slice none 0 0] := by kernel_rfl
theorem zer5 : zerosOf Try.prog 5 = some [.int .u8 0] := by kernel_rfl
theorem zer56 : zerosOf Try.prog 56 = some [.int .i64 0, .slice none 0 0] := by kernel_rfl
theorem zerb26 : (Try.prog.info? 26).bind (fun i => i.zero.map (·.cells)) = some ([.slice none 0 0, .slice none 0 0, .int .i64 0, .bool false] : List Value).toArray := by kernel_rfl
theorem zerb3 : (Try.prog.info? 3).bind (fun i => i.zero.map (·.cells)) = some ([.int .i64 0] : List Value).toArray := by kernel_rfl
theorem zerb56 : (Try.prog.info? 56).bind (fun i => i.zero.map (·.cells)) = some ([.int .i64 0, .slice none 0 0] : List Value).toArray := by kernel_rfl
theorem zerb57 : (Try.prog.info? 57).bind (fun i => i.zero.map (·.cells)) = some ([.nilFunc] : List Value).toArray := by kernel_rfl
end Go.Proofs.YtfipaakafcjjhaaD
end
section
set_option linter.unusedSectionVars false
set_option linter.unusedVariables false
set_option linter.unusedSimpArgs false
namespace Go.Proofs.YtfipaakafcjjhaaD
open Go Go.RowKit Go.Ab Go.Proofs

def m54 (p0 : Int) (p1 : Int) : Option (Int × Int) :=
  some ((IntKind.wrap .u64 ((IntKind.wrap .u64 ((IntKind.wrap .u64 ((bShr .u64 p0 32) * (bShr .u64 p1 32))) + (bShr .u64 (IntKind.wrap .u64 ((IntKind.wrap .u64 ((bShr .u64 p0 32) * (bAnd .u64 p1 4294967295))) + (bShr .u64 (IntKind.wrap .u64 ((bAnd .u64 p0 4294967295) * (bAnd .u64 p1 4294967295))) 32))) 32))) + (bShr .u64 (IntKind.wrap .u64 ((bAnd .u64 (IntKind.wrap .u64 ((IntKind.wrap .u64 ((bShr .u64 p0 32) * (bAnd .u64 p1 4294967295))) + (bShr .u64 (IntKind.wrap .u64 ((bAnd .u64 p0 4294967295) * (bAnd .u64 p1 4294967295))) 32))) 4294967295) + (IntKind.wrap .u64 ((bAnd .u64 p0 4294967295) * (bShr .u64 p1 32))))) 32))), (IntKind.wrap .u64 (p0 * p1)))

theorem m54_ok (p0 : Int) (p1 : Int)  {r : Int × Int} (hm : m54 p0 p1 = some r) : Ab.Fn Try.prog 54 [.n .u64 p0, .n .u64 p1] [] (fun a s => a = .tup [.n .u64 r.1, .n .u64 r.2] ∧ s = []) := by
  rw [m54] at hm
  refine Ab.Fn.of Try.func54 rfl rfl rfl (fun C => ?_)
  refine CW.seq ?_
  refine CW.region ?_
  refine RW.p rfl rfl rfl (Yp.assign rfl rfl) ?_
  refine RW.p rfl rfl rfl (Yp.assign rfl rfl) ?_
  refine RW.nil ?_
  refine CW.seq ?_
  refine CW.region ?_
  refine RW.p rfl rfl rfl (Yp.move rfl rfl) ?_
  refine RW.p rfl rfl rfl (Yp.and rfl rfl rfl) ?_
  refine RW.p rfl rfl rfl (Yp.assign rfl rfl) ?_
  refine RW.nil ?_
  refine CW.seq ?_
  refine CW.region ?_
  refine RW.p rfl rfl rfl (Yp.move rfl rfl) ?_
  refine RW.p rfl rfl rfl (Yp.shr rfl rfl rfl (by decide)) ?_
  refine RW.p rfl rfl rfl (Yp.assign rfl rfl) ?_
  refine RW.nil ?_
  refine CW.seq ?_
  refine CW.region ?_
  refine RW.p rfl rfl rfl (Yp.move rfl rfl) ?_
  refine RW.p rfl rfl rfl (Yp.and rfl rfl rfl) ?_
  refine RW.p rfl rfl rfl (Yp.assign rfl rfl) ?_
  refine RW.nil ?_
  refine CW.seq ?_
  refine CW.region ?_
  refine RW.p rfl rfl rfl (Yp.move rfl rfl) ?_
  refine RW.p rfl rfl rfl (Yp.shr rfl rfl rfl (by decide)) ?_
  refine RW.p rfl rfl rfl (Yp.assign rfl rfl) ?_
  refine RW.nil ?_
  refine CW.seq ?_
  refine CW.region ?_
  refine RW.p rfl rfl rfl (Yp.move rfl rfl) ?_
  refine RW.p rfl rfl rfl (Yp.move rfl rfl) ?_
  refine RW.p rfl rfl rfl (Yp.mul rfl rfl rfl) ?_
  refine RW.p rfl rfl rfl (Yp.assign rfl rfl) ?_
  refine RW.nil ?_
  refine CW.seq ?_
  refine CW.region ?_
  refine RW.p rfl rfl rfl (Yp.move rfl rfl) ?_
  refine RW.p rfl rfl rfl (Yp.move rfl rfl) ?_
  refine RW.p rfl rfl rfl (Yp.mul rfl rfl rfl) ?_
  refine RW.p rfl rfl rfl (Yp.move rfl rfl) ?_
  refine RW.p rfl rfl rfl (Yp.shr rfl rfl rfl (by decide)) ?_
  refine RW.p rfl rfl rfl (Yp.add rfl rfl rfl) ?_
  refine RW.p rfl rfl rfl (Yp.assign rfl rfl) ?_
  refine RW.nil ?_
  refine CW.seq ?_
  refine CW.region ?_
  refine RW.p rfl rfl rfl (Yp.move rfl rfl) ?_
  refine RW.p rfl rfl rfl (Yp.and rfl rfl rfl) ?_
  refine RW.p rfl rfl rfl (Yp.assign rfl rfl) ?_
  refine RW.nil ?_
  refine CW.seq ?_
  refine CW.region ?_
  refine RW.p rfl rfl rfl (Yp.move rfl rfl) ?_
  refine RW.p rfl rfl rfl (Yp.shr rfl rfl rfl (by decide)) ?_
  refine RW.p rfl rfl rfl (Yp.assign rfl rfl) ?_
  refine RW.nil ?_
  refine CW.seq ?_
  refine CW.region ?_
  refine RW.p rfl rfl rfl (Yp.move rfl rfl) ?_
  refine RW.p rfl rfl rfl (Yp.move rfl rfl) ?_
  refine RW.p rfl rfl rfl (Yp.move rfl rfl) ?_
  refine RW.p rfl rfl rfl (Yp.mul rfl rfl rfl) ?_
  refine RW.p rfl rfl rfl (Yp.add rfl rfl rfl) ?_
  refine RW.p rfl rfl rfl (Yp.assign rfl rfl) ?_
  refine RW.nil ?_
  refine CW.seq ?_
  refine CW.region ?_
  refine RW.p rfl rfl rfl (Yp.move rfl rfl) ?_
  refine RW.p rfl rfl rfl (Yp.move rfl rfl) ?_
  refine RW.p rfl rfl rfl (Yp.mul rfl rfl rfl) ?_
  refine RW.p rfl rfl rfl (Yp.move rfl rfl) ?_
  refine RW.p rfl rfl rfl (Yp.add rfl rfl rfl) ?_
  refine RW.p rfl rfl rfl (Yp.move rfl rfl) ?_
  refine RW.p rfl rfl rfl (Yp.shr rfl rfl rfl (by decide)) ?_
  refine RW.p rfl rfl rfl (Yp.add rfl rfl rfl) ?_
  refine RW.p rfl rfl rfl (Yp.assign rfl rfl) ?_
  refine RW.nil ?_
  refine CW.seq ?_
  refine CW.region ?_
  refine RW.p rfl rfl rfl (Yp.move rfl rfl) ?_
  refine RW.p rfl rfl rfl (Yp.move rfl rfl) ?_
  refine RW.p rfl rfl rfl (Yp.mul rfl rfl rfl) ?_
  refine RW.p rfl rfl rfl (Yp.assign rfl rfl) ?_
  refine RW.nil ?_
  refine CW.ret ?_
  cases hm
  exact fin2 (.inr rfl) rfl (ResIs.tmp rfl) (ResIs.tmp rfl) (List.nil_sublist _) ⟨rfl, rfl⟩

def m50 (p0 : Int) (p1 : Int) : Option (Int × Int) :=
  (m54 p0 p1).bind fun x1 =>
  some (x1.1, x1.2)

theorem m50_ok (p0 : Int) (p1 : Int)  {r : Int × Int} (hm : m50 p0 p1 = some r) : Ab.Fn Try.prog 50 [.n .u64 p0, .n .u64 p1] [] (fun a s => a = .tup [.n .u64 r.1, .n .u64 r.2] ∧ s = []) := by
  rw [m50] at hm
  refine Ab.Fn.of Try.func50 rfl rfl rfl (fun C => ?_)
  refine CW.seq ?_
  refine CW.region ?_
  refine RW.p rfl rfl rfl (Yp.assign rfl rfl) ?_
  refine RW.p rfl rfl rfl (Yp.assign rfl rfl) ?_
  refine RW.nil ?_
  refine CW.seq ?_
  refine CW.condF rfl ?_
  refine CW.skip ?_
  refine CW.seq ?_
  refine CW.region ?_
  refine RW.p rfl rfl rfl (Yp.move rfl rfl) ?_
  refine RW.p rfl rfl rfl (Yp.move rfl rfl) ?_
  obtain ⟨x1, hx1, hm⟩ := bnd hm
  refine RW.c rfl rfl rfl (Yc.fnV (σp := []) (args' := [.n .u64 p0, .n .u64 p1]) rfl rfl ok54 rfl rfl rfl (VwL.id _) (m54_ok p0 p1 hx1)) ?_
  rintro _ _ ⟨_, ⟨rfl, rfl⟩, rfl⟩
  refine RW.p rfl rfl rfl (Yp.move rfl rfl) ?_
  refine RW.p rfl rfl rfl (Yp.extract rfl rfl rfl) ?_
  refine RW.p rfl rfl rfl (Yp.extract rfl rfl rfl) ?_
  refine RW.p rfl rfl rfl (Yp.assign rfl rfl) ?_
  refine RW.p rfl rfl rfl (Yp.assign rfl rfl) ?_
  refine RW.nil ?_
  refine CW.seq ?_
  refine CW.region ?_
  refine RW.p rfl rfl rfl (Yp.move rfl rfl) ?_
  refine RW.p rfl rfl rfl (Yp.move rfl rfl) ?_
  refine RW.p rfl rfl rfl (Yp.assign rfl rfl) ?_
  refine RW.p rfl rfl rfl (Yp.assign rfl rfl) ?_
  refine RW.nil ?_
  refine CW.ret ?_
  cases hm
  exact fin2 (.inr rfl) rfl (ResIs.tmp rfl) (ResIs.tmp rfl) (List.nil_sublist _) ⟨rfl, rfl⟩


def m37 (p0 : List Int) (p1 : Int) : Option (List Int) := if p0.length = 1 ∧ p1 = 96 then some (List.replicate 96 p0[0]!) else none

theorem rep_step {cs es : List AV} {a : AV} {of : Nat} (h1 : ∀ j, j < of → cs[j]? = some a) (h2 : ∀ j, j < es.length → es[j]? = some a) (hle : of + es.length ≤ cs.length) : ∀ j, j < of + es.length → (cs.take of ++ es ++ cs.drop (of + es.length))[j]? = some a := fun j hj => by
  rw [List.append_assoc, List.getElem?_append, List.length_take, Nat.min_eq_left (by omega)]
  by_cases h : j < of
  · rw [if_pos h, List.getElem?_take, if_pos h]; exact h1 j h
  · rw [if_neg h, List.getElem?_append, if_pos (by omega)]; exact h2 _ (by omega)
theorem rep_len {cs es : List AV} {of : Nat} (hle : of + es.length ≤ cs.length) : (cs.take of ++ es ++ cs.drop (of + es.length)).length = cs.length := by
  rw [List.length_append, List.length_append, List.length_take, List.length_drop]; omega

set_option maxHeartbeats 1000000 in
theorem rep96 (x : Int) : Ab.Fn Try.prog 37 [.sl 1 (cN .u8) [x], .i 96] [] (fun a s => a = .sl 1 (cN .u8) (List.replicate 96 x) ∧ s = []) := by
  refine Ab.Fn.of Try.func37 rfl rfl rfl (fun C => ?_)
  (repeat refine CW.seq ?_)
  refine CW.region ?_
  refine RW.p rfl rfl rfl (Yp.assign rfl rfl) ?_
  refine RW.nil ?_
  (repeat refine CW.seq ?_)
  refine CW.region ?_
  refine RW.p rfl rfl rfl (Yp.move rfl rfl) ?_
  refine RW.p rfl rfl rfl (Yp.eq (Yp.eql rfl rfl rfl) (congrArg AV.b (show decide ((96 : Int) = 0) = false by decide))) ?_
  refine RW.nil ?_
  (repeat refine CW.seq ?_)
  refine CW.condF rfl ?_
  refine CW.skip ?_
  (repeat refine CW.seq ?_)
  refine CW.region ?_
  refine RW.p rfl rfl rfl (Yp.move rfl rfl) ?_
  refine RW.p rfl rfl rfl (Yp.eq (Yp.lss rfl rfl rfl) (congrArg AV.b (show decide ((96 : Int) < 0) = false by decide))) ?_
  refine RW.nil ?_
  (repeat refine CW.seq ?_)
  refine CW.condF rfl ?_
  refine CW.skip ?_
  (repeat refine CW.seq ?_)
  refine CW.region ?_
  refine RW.p rfl rfl rfl (Yp.move rfl rfl) ?_
  refine RW.p rfl rfl rfl (Yp.lenSl rfl rfl Try.underlying29) ?_
  refine RW.p rfl rfl rfl (Yp.eq (Yp.conv Try.underlying3 Try.underlying73 rfl rfl) (show _ = AV.n .u64 1 from congrArg (AV.n .u64) (show IntKind.wrap .u64 ((([x].length : Nat)) : Int) = 1 by rfl))) ?_
  refine RW.p rfl rfl rfl (Yp.move rfl rfl) ?_
  refine RW.p rfl rfl rfl (Yp.eq (Yp.conv Try.underlying3 Try.underlying73 rfl rfl) (show _ = AV.n .u64 96 from congrArg (AV.n .u64) (show IntKind.wrap .u64 (96 : Int) = 96 by rfl))) ?_
  refine RW.c rfl rfl rfl (Yc.fnV (σp := []) (args' := [.n .u64 1, .n .u64 96]) rfl rfl ok50 rfl rfl rfl (VwL.id _) (m50_ok 1 96 (r := (0, 96)) (by kernel_rfl))) ?_
  rintro _ _ ⟨_, ⟨rfl, rfl⟩, rfl⟩
  refine RW.p rfl rfl rfl (Yp.move rfl rfl) ?_
  refine RW.p rfl rfl rfl (Yp.extract rfl rfl rfl) ?_
  refine RW.p rfl rfl rfl (Yp.extract rfl rfl rfl) ?_
  refine RW.p rfl rfl rfl (Yp.assign rfl rfl) ?_
  refine RW.p rfl rfl rfl (Yp.assign rfl rfl) ?_
  refine RW.nil ?_
  (repeat refine CW.seq ?_)
  refine CW.region ?_
  refine RW.p rfl rfl rfl (Yp.move rfl rfl) ?_
  refine RW.p rfl rfl rfl (Yp.eq (Yp.gtr rfl rfl rfl) (congrArg AV.b (show decide ((0 : Int) < (0, 96).1) = false by decide))) ?_
  refine RW.p rfl rfl rfl (Yp.move rfl rfl) ?_
  refine RW.p rfl rfl rfl (Yp.move rfl rfl) ?_
  refine RW.p rfl rfl rfl (Yp.eq (Yp.gtr rfl rfl rfl) (congrArg AV.b (show decide ((9223372036854775807 : Int) < (0, 96).2) = false by decide))) ?_
  refine RW.p rfl rfl rfl (Yp.pickF rfl rfl rfl) ?_
  refine RW.nil ?_
  (repeat refine CW.seq ?_)
  refine CW.condF rfl ?_
  refine CW.skip ?_
  (repeat refine CW.seq ?_)
  refine CW.region ?_
  refine RW.p rfl rfl rfl (Yp.move rfl rfl) ?_
  refine RW.p rfl rfl rfl (Yp.eq (Yp.conv Try.underlying73 Try.underlying3 rfl rfl) (show _ = AV.i 96 from congrArg AV.i (show IntKind.wrap .i64 ((0, 96).2 : Int) = 96 by rfl))) ?_
  refine RW.p rfl rfl rfl (Yp.assign rfl rfl) ?_
  refine RW.nil ?_
  (repeat refine CW.seq ?_)
  refine CW.region ?_
  refine RW.p rfl rfl rfl (Yp.move rfl rfl) ?_
  refine RW.p rfl rfl rfl (Yp.lenSl rfl rfl Try.underlying29) ?_
  refine RW.p rfl rfl rfl (Yp.eq (Yp.eql rfl rfl rfl) (congrArg AV.b (show decide ((([x].length : Nat) : Int) = 0) = false by rfl))) ?_
  refine RW.nil ?_
  (repeat refine CW.seq ?_)
  refine CW.condF rfl ?_
  refine CW.skip ?_
  (repeat refine CW.seq ?_)
  refine CW.region ?_
  refine RW.p rfl rfl rfl (Yp.move rfl rfl) ?_
  refine RW.p rfl rfl rfl (Yp.assign rfl rfl) ?_
  refine RW.nil ?_
  (repeat refine CW.seq ?_)
  refine CW.region ?_
  refine RW.p rfl rfl rfl (Yp.move rfl rfl) ?_
  refine RW.p rfl rfl rfl (Yp.eq (Yp.gtr rfl rfl rfl) (congrArg AV.b (show decide ((8192 : Int) < 96) = false by decide))) ?_
  refine RW.nil ?_
  (repeat refine CW.seq ?_)
  refine CW.condF rfl ?_
  refine CW.skip ?_
  (repeat refine CW.seq ?_)
  refine CW.region ?_
  refine RW.p rfl rfl rfl (Yp.move rfl rfl) ?_
  refine RW.v rfl rfl rfl (Yv.noZero (T := 29) (n := 96) (ps := #[3]) rfl (fun w args => run_callFunc_extern Try.func51 (by kernel_rfl) (by kernel_rfl) (by kernel_rfl) (e := Extern.BytealgMakeNoZero.makeNoZero #[3] #[29]) (by kernel_rfl) args w) rfl Try.underlying29 (by decide) (by decide)) ?_
  rintro _ _ ⟨g, cap, cs, rfl, rfl, hcs, hcap, hmax⟩
  refine RW.p rfl rfl rfl (Yp.move rfl rfl) ?_
  refine RW.p rfl rfl rfl (Yp.move rfl rfl) ?_
  refine RW.p rfl rfl rfl (Yp.sliceL3 rfl rfl rfl rfl Try.underlying29 sz5 (by omega) (by decide)) ?_
  refine RW.p rfl rfl rfl (Yp.assign rfl rfl) ?_
  refine RW.nil ?_
  (repeat refine CW.seq ?_)
  refine CW.region ?_
  refine RW.p rfl rfl rfl (Yp.move rfl rfl) ?_
  refine RW.p rfl rfl rfl (Yp.move rfl rfl) ?_
  refine RW.v rfl rfl rfl (Yv.copyB 0 rfl rfl rfl (From.sl rfl (Nat.le_refl 1)) Try.underlying29 sz5 rfl rfl (by show 0 + 1 ≤ cs.length; omega)) ?_
  rintro _ _ ⟨rfl, rfl⟩
  refine RW.p rfl rfl rfl (Yp.assign rfl rfl) ?_
  refine RW.nil ?_
  have hl0 : ([x].map (AV.n .u8)).length = 1 := rfl
  have h0 := rep_step (cs := cs) (es := [x].map (AV.n .u8)) (a := .n .u8 x) (of := 0) (fun j hj => by omega) (fun j hj => by
    have : j = 0 := by simp at hj; exact hj
    subst this; rfl) (by rw [hl0]; omega)
  have h0l := rep_len (cs := cs) (es := [x].map (AV.n .u8)) (of := 0) (by rw [hl0]; omega)
  (repeat refine CW.seq ?_)
  refine CW.cut (fun E σ => ∃ ds : List AV, (∀ j, j < 96 → ds[j]? = some (.n .u8 x)) ∧ ds.length = cap ∧ Sub [(9, .lit (.slice (some ⟨g, 0, none⟩) 96 96))] E ∧ σ = [.box g 5 ds]) ?_ ?_
  · refine CW.block ?_
    refine CW.lp (fun k E σ => ∃ (bp : Nat) (ds : List AV), 1 ≤ bp ∧ bp ≤ 96 ∧ k = 96 - bp ∧ (∀ j, j < bp → ds[j]? = some (.n .u8 x)) ∧ ds.length = cap ∧ Sub [(7, .i 96), (8, .i 96), (9, .lit (.slice (some ⟨g, 0, none⟩) 96 96)), (10, .i (bp : Int))] E ∧ σ = [.box g 5 ds]) 95 ?_ ?_
    · exact ⟨1, _, by decide, by decide, rfl, fun j hj => h0 j (by rw [hl0]; omega), by rw [h0l]; exact hcs, Sub.cons rfl (Sub.cons rfl (Sub.cons rfl (Sub.cons rfl Sub.nil))), rfl⟩
    · rintro k E σ ⟨bp, ds, hb1, hb2, hk, hd, hdl, hsub, rfl⟩
      refine CW.weak ?_ hsub
      (repeat refine CW.seq ?_)
      refine CW.region ?_
      refine RW.p rfl rfl rfl (Yp.move rfl rfl) ?_
      refine RW.p rfl rfl rfl (Yp.move rfl rfl) ?_
      refine RW.p rfl rfl rfl (Yp.lss rfl rfl rfl) ?_
      refine RW.nil ?_
      (repeat refine CW.seq ?_)
      refine CW.cond rfl (fun hb => ?_) (fun hb => ?_)
      · have hlt : bp < 96 := by have := of_decide_eq_true hb; omega
        refine CW.skip ?_
        refine CW.block ?_
        (repeat refine CW.seq ?_)
        refine CW.region ?_
        refine RW.p rfl rfl rfl (Yp.move rfl rfl) ?_
        refine RW.p rfl rfl rfl (Yp.move rfl rfl) ?_
        refine RW.p rfl rfl rfl (Yp.eq (Yp.min rfl rfl rfl) (show _ = AV.i (bp : Int) from congrArg AV.i (if_neg (by omega)))) ?_
        refine RW.p rfl rfl rfl (Yp.assign rfl rfl) ?_
        refine RW.nil ?_
        refine CW.drawSel 10 rfl [0] [.box g 5 ds] [] rfl (by kernel_rfl) ?_
        intro A1 w1 hB
        refine RH.take 0 rfl (by kernel_rfl) rfl rfl rfl hB (Yp.move rfl rfl) ?_
        refine RH.take 1 rfl (by kernel_rfl) rfl rfl rfl hB (Yp.move rfl rfl) ?_
        refine RH.take 2 rfl (by kernel_rfl) rfl rfl rfl hB (Yp.move rfl rfl) ?_
        refine RH.take 3 rfl (by kernel_rfl) rfl rfl rfl hB (Yp.sliceLlo rfl rfl rfl Try.underlying29 sz5 (by omega) (by omega)) ?_
        refine RH.take 4 rfl (by kernel_rfl) rfl rfl rfl hB (Yp.move rfl rfl) ?_
        refine RH.take 5 rfl (by kernel_rfl) rfl rfl rfl hB (Yp.move rfl rfl) ?_
        refine RH.take 6 rfl (by kernel_rfl) rfl rfl rfl hB (Yp.sliceLhi rfl rfl rfl Try.underlying29 sz5 (by omega)) ?_
        have hal : ((ds.drop 0).take (min bp (96 - bp))).length = Nat.min bp (96 - bp) := by
          rw [List.length_take, List.drop_zero, hdl]; show _ = min _ _; omega
        have hstep := rep_step (cs := ds) (es := (ds.drop 0).take (min bp (96 - bp))) (a := .n .u8 x) (of := 0 + bp) (fun j hj => hd j (by omega)) (fun j hj => by
          rw [hal] at hj
          have hj : j < min bp (96 - bp) := hj
          rw [List.getElem?_take, if_pos hj, List.drop_zero]; exact hd j (by omega)) (by rw [hal, hdl]; show 0 + bp + min _ _ ≤ _; omega)
        have hlen := rep_len (cs := ds) (es := (ds.drop 0).take (min bp (96 - bp))) (of := 0 + bp) (by rw [hal, hdl]; show 0 + bp + min _ _ ≤ _; omega)
        refine RH.one 7 (by kernel_rfl) ?_
        refine RO.v rfl rfl rfl rfl rfl (Yv.copyB 0 rfl rfl rfl (From.box 0 (min bp (96 - bp)) rfl rfl) Try.underlying29 sz5 (by rw [hal]; rfl) ?_ (by rw [hal, hdl]; show 0 + bp + min _ _ ≤ _; omega)) (inX (r := .box g 5 ds) 0 rfl) ?_
        · rw [List.all_eq_true]
          intro a ha
          obtain ⟨j, hj, rfl⟩ := List.getElem_of_mem ha
          have hj2 := hj
          rw [hal] at hj2
          have hj2 : j < min bp (96 - bp) := hj2
          have : ((ds.drop 0).take (min bp (96 - bp)))[j]? = some (.n .u8 x) := by
            rw [List.getElem?_take, if_pos hj2, List.drop_zero]; exact hd j (by omega)
          rw [List.getElem?_eq_getElem hj] at this
          rw [Option.some.inj this]; rfl
        rintro _ _ ⟨rfl, rfl⟩
        refine RH.one 8 (by kernel_rfl) ?_
        refine RO.p rfl rfl rfl rfl rfl (Yp.eq (Yp.add rfl rfl rfl) (show _ = AV.i ((bp + min bp (96 - bp) : Nat) : Int) from congrArg AV.i (by rw [hal]; show w64 _ = _; rw [w64_eq (by show _ ≤ (bp : Int) + ((min bp (96 - bp) : Nat) : Int) ∧ (bp : Int) + ((min bp (96 - bp) : Nat) : Int) ≤ _; omega)]; show (bp : Int) + ((min bp (96 - bp) : Nat) : Int) = _; omega))) ?_
        refine RH.one 9 (by kernel_rfl) ?_
        refine RO.clr ?_
        refine RO.p rfl rfl rfl rfl rfl (Yp.assign rfl rfl) ?_
        refine RH.done (by kernel_rfl) ?_
        exact ⟨96 - (bp + min bp (96 - bp)), by omega, bp + min bp (96 - bp), _, by omega, by omega, rfl, fun j hj => hstep j (by rw [hal]; show j < 0 + bp + min _ _; omega), by rw [hlen]; exact hdl, Sub.cons rfl (Sub.cons rfl (Sub.cons rfl (Sub.cons rfl Sub.nil))), rfl⟩
      · have hge : bp = 96 := by have := of_decide_eq_false hb; omega
        subst hge
        refine CW.exit ?_
        exact ⟨ds, hd, hdl, Sub.cons rfl Sub.nil, rfl⟩
  · rintro E σ ⟨ds, hd, hdl, hsub, rfl⟩
    refine CW.weak ?_ hsub
    refine CW.frzL 0 9 (c := cN .u8) (List.replicate 96 x) rfl rfl (fun j hj => ?_) (by rw [List.length_replicate]; omega) (by rw [List.length_replicate]; decide) (by rw [List.length_replicate]; decide) ?_
    · rw [List.length_replicate] at hj
      rw [hd j hj, getElem!_pos _ j (by rw [List.length_replicate]; exact hj), List.getElem_replicate]; rfl
    (repeat refine CW.seq ?_)
    refine CW.region ?_
    refine RW.p rfl rfl rfl (Yp.move rfl rfl) ?_
    refine RW.p rfl rfl rfl (Yp.assign rfl rfl) ?_
    refine RW.nil ?_
    refine CW.ret ?_
    exact fin1 (.inr rfl) rfl (ResIs.tmp rfl) (List.nil_sublist _) ⟨rfl, rfl⟩

theorem m37_ok (p0 : List Int) (p1 : Int) {r : List Int} (hm : m37 p0 p1 = some r) : Ab.Fn Try.prog 37 [.sl 1 (cN .u8) p0, .i p1] [] (fun a s => a = .sl 1 (cN .u8) r ∧ s = []) := by
  unfold m37 at hm
  obtain ⟨⟨h1, h2⟩, hm⟩ := chk hm
  cases hm
  subst h2
  match p0, h1 with
  | [x], _ => exact rep96 x

end Go.Proofs.YtfipaakafcjjhaaD
end
section
set_option linter.unusedSectionVars false
set_option linter.unusedVariables false
set_option linter.unusedSimpArgs false
namespace Go.Proofs.YtfipaakafcjjhaaD
open Go Go.RowKit Go.Ab Go.Proofs

def m32 (p0 : List Int) : Option Bool :=
  some (decide ((p0.length : Int) = 96))

theorem m32_ok (p0 : List Int)  {r : Bool} (hm : m32 p0 = some r) : Ab.Fn Try.prog 32 [.sl 1 (cN .u8) p0] [] (fun a s => a = .b r ∧ s = []) := by
  rw [m32] at hm
  refine Ab.Fn.of Try.func32 rfl rfl rfl (fun C => ?_)
  refine CW.seq ?_
  refine CW.region ?_
  refine RW.p rfl rfl rfl (Yp.assign rfl rfl) ?_
  refine RW.nil ?_
  refine CW.seq ?_
  refine CW.region ?_
  refine RW.p rfl rfl rfl (Yp.move rfl rfl) ?_
  refine RW.p rfl rfl rfl (Yp.lenSl rfl rfl Try.underlying29) ?_
  refine RW.p rfl rfl rfl (Yp.eql rfl rfl rfl) ?_
  refine RW.p rfl rfl rfl (Yp.assign rfl rfl) ?_
  refine RW.nil ?_
  refine CW.ret ?_
  cases hm
  exact fin1 (.inr rfl) rfl (ResIs.tmp rfl) (List.nil_sublist _) ⟨rfl, rfl⟩

def m34 (p0 : List Int) : Option Bool :=
  (m32 p0).bind fun x1 =>
  some (!x1)

theorem m34_ok (p0 : List Int) (pb1 : Nat) {r : Bool} (hm : m34 p0 = some r) : Ab.Fn Try.prog 34 [.sl 1 (cN .u8) p0, .lit (.pointer (some ⟨pb1, 0, none⟩))] [.box pb1 57 [.fn (.func 32) []]] (fun a s => a = .b r ∧ s = [.box pb1 57 [.fn (.func 32) []]]) := by
  rw [m34] at hm
  refine Ab.Fn.of Try.func34 rfl rfl rfl (fun C => ?_)
  refine CW.seq ?_
  refine CW.region ?_
  refine RW.p rfl rfl rfl (Yp.assign rfl rfl) ?_
  refine RW.nil ?_
  refine CW.seq ?_
  refine CW.region ?_
  refine RW.p rfl rfl rfl (Yp.loadB1 0 rfl rfl rfl one57 rfl) ?_
  refine RW.p rfl rfl rfl (Yp.move rfl rfl) ?_
  obtain ⟨x1, hx1, hm⟩ := bnd hm
  refine RW.c rfl rfl rfl (Yc.fnV (σp := []) (args' := [.sl 1 (cN .u8) p0]) rfl rfl ok32 rfl rfl rfl (VwL.id _) (m32_ok p0 hx1)) ?_
  rintro _ _ ⟨_, ⟨rfl, rfl⟩, rfl⟩
  refine RW.p rfl rfl rfl (Yp.not rfl rfl) ?_
  refine RW.p rfl rfl rfl (Yp.assign rfl rfl) ?_
  refine RW.nil ?_
  refine CW.ret ?_
  cases hm
  exact fin1 (.inr rfl) rfl (ResIs.tmp rfl) (.cons_cons _ (List.nil_sublist _)) ⟨rfl, rfl⟩

def m48_l1 (p0 : List (List Int)) : Nat → Int → Option (Sum Unit Int)
  | 0, _ => none
  | k1 + 1, n3 =>
    if (decide (n3 < (p0.length : Int))) = true then
      if 0 ≤ n3 ∧ n3 < (p0.length : Int) then
      (m34 (p0[Int.toNat n3]!)).bind fun x1 =>
      if x1 = true then
        some (Sum.inr n3)
      else
        m48_l1 p0 k1 (w64 (n3 + 1))
      else none
    else
      some (Sum.inl ())
def m48 (p0 : List (List Int)) : Option Int :=
  Option.bind (
    (m48_l1 p0 (Int.toNat (p0.length : Int) + 1) 0).bind fun o2 =>
    match o2 with
    | .inl () =>
      some (Sum.inl ())
    | .inr r =>
      some (Sum.inr r)) fun o1 =>
  match o1 with
  | .inl () =>
    some (-1)
  | .inr r =>
    some r

theorem m48_ok (p0 : List (List Int)) (pb1_0 : Nat) {r : Int} (hm : m48 p0 = some r) : Ab.Fn Try.prog 48 [.sl 1 (cL 1 (cN .u8)) p0, .fn (.func 34) [.lit (.pointer (some ⟨pb1_0, 0, none⟩))]] [.box pb1_0 57 [.fn (.func 32) []]] (fun a s => a = .i r ∧ s = [.box pb1_0 57 [.fn (.func 32) []]]) := by
  rw [m48] at hm
  refine Ab.Fn.of Try.func48 rfl rfl rfl (fun C => ?_)
  refine CW.seq ?_
  refine CW.region ?_
  refine RW.p rfl rfl rfl (Yp.assign rfl rfl) ?_
  refine RW.nil ?_
  refine CW.seq ?_
  obtain ⟨o1, hs1, hk1⟩ := bnd hm
  refine CW.cut (fun E σ => o1 = Sum.inl () ∧ Sub [(1, .fn (.func 34) [.lit (.pointer (some ⟨pb1_0, 0, none⟩))])] E ∧ σ = [.box pb1_0 57 [.fn (.func 32) []]]) ?_ ?_
  ·
    have hm := hs1
    refine CW.seq ?_
    refine CW.region ?_
    refine RW.p rfl rfl rfl (Yp.move rfl rfl) ?_
    refine RW.p rfl rfl rfl (Yp.lenSl rfl rfl Try.underlying23) ?_
    refine RW.p rfl rfl rfl (Yp.move rfl rfl) ?_
    refine RW.nil ?_
    refine CW.block ?_
    obtain ⟨o2, hs2, hk2⟩ := bnd hm
    refine CW.lp (fun k1 E σ => ∃ n3 : Int, Sub [(0, .sl 1 (cL 1 (cN .u8)) p0), (1, .fn (.func 34) [.lit (.pointer (some ⟨pb1_0, 0, none⟩))]), (7, .i (p0.length : Int)), (8, .i n3)] E ∧ σ = [.box pb1_0 57 [.fn (.func 32) []]] ∧ m48_l1 p0 k1 n3 = some o2) (Int.toNat (p0.length : Int) + 1) ?_ ?_
    · exact ⟨0, (Sub.cons rfl (Sub.cons rfl (Sub.cons rfl (Sub.cons rfl Sub.nil)))), rfl, hs2⟩
    ·
      rintro k1 E σ ⟨n3, hsub1, rfl, hm⟩
      refine CW.weak ?_ hsub1
      cases k1 with
      | zero => cases hm
      | succ k1 =>
        rw [m48_l1] at hm
        refine CW.seq ?_
        refine CW.region ?_
        refine RW.p rfl rfl rfl (Yp.lss rfl rfl rfl) ?_
        refine RW.nil ?_
        refine CW.seq ?_
        refine CW.cond rfl (fun hb1 => ?_) (fun hb1 => ?_)
        ·
          have hm := ift hm hb1
          refine CW.skip ?_
          refine CW.seq ?_
          refine CW.block ?_
          refine CW.seq ?_
          refine CW.region ?_
          refine RW.p rfl rfl rfl (Yp.move rfl rfl) ?_
          refine RW.p rfl rfl rfl (Yp.assign rfl rfl) ?_
          refine RW.nil ?_
          refine CW.seq ?_
          refine CW.region ?_
          refine RW.p rfl rfl rfl (Yp.move rfl rfl) ?_
          refine RW.p rfl rfl rfl (Yp.move rfl rfl) ?_
          refine RW.p rfl rfl rfl (Yp.move rfl rfl) ?_
          obtain ⟨hc1, hm⟩ := chk hm
          refine RW.p rfl rfl rfl (Yp.indexSl rfl rfl rfl Try.underlying23 sz29 hc1) ?_
          refine RW.p rfl rfl rfl (Yp.loadF1 rfl rfl one29 rfl) ?_
          obtain ⟨x1, hx1, hm⟩ := bnd hm
          refine RW.c rfl rfl rfl (Yc.fnV (σp := [.box pb1_0 57 [.fn (.func 32) []]]) (args' := [.sl 1 (cN .u8) (p0[Int.toNat n3]!), .lit (.pointer (some ⟨pb1_0, 0, none⟩))]) rfl rfl ok34 rfl rfl rfl (VwL.id _) (m34_ok (p0[Int.toNat n3]!) pb1_0 hx1)) ?_
          rintro _ _ ⟨_, ⟨rfl, rfl⟩, rfl⟩
          refine RW.nil ?_
          refine CW.cond rfl (fun hb2 => ?_) (fun hb2 => ?_)
          ·
            have hm := ift hm hb2
            refine CW.seq ?_
            refine CW.region ?_
            refine RW.p rfl rfl rfl (Yp.move rfl rfl) ?_
            refine RW.p rfl rfl rfl (Yp.assign rfl rfl) ?_
            refine RW.nil ?_
            refine CW.ret ?_
            cases hm
            have hm := hk2
            cases hm
            have hm := hk1
            cases hm
            exact fin1 (.inr rfl) rfl (ResIs.tmp rfl) (.cons_cons _ (List.nil_sublist _)) ⟨rfl, rfl⟩
          ·
            have hm := iff' hm hb2
            refine CW.skip ?_
            refine CW.region ?_
            refine RW.p rfl rfl rfl (Yp.add rfl rfl rfl) ?_
            refine RW.p rfl rfl rfl (Yp.move rfl rfl) ?_
            refine RW.nil ?_
            exact ⟨k1, Nat.lt_succ_self _, _, (Sub.cons rfl (Sub.cons rfl (Sub.cons rfl (Sub.cons rfl Sub.nil)))), rfl, hm⟩
        ·
          have hm := iff' hm hb1
          refine CW.exit ?_
          cases hm
          have hm := hk2
          cases hm
          exact ⟨rfl, (Sub.cons rfl Sub.nil), rfl⟩
  ·
    rintro E σ ⟨rfl, hsub2, rfl⟩
    have hm := hk1
    refine CW.weak ?_ hsub2
    refine CW.seq ?_
    refine CW.region ?_
    refine RW.p rfl rfl rfl (Yp.assign rfl rfl) ?_
    refine RW.nil ?_
    refine CW.ret ?_
    cases hm
    exact fin1 (.inr rfl) rfl (ResIs.tmp rfl) (.cons_cons _ (List.nil_sublist _)) ⟨rfl, rfl⟩

def m33 (p0 : List (List Int)) : Option Bool :=
  (m48 p0).bind fun x1 =>
  some (decide ((0 : Int) ≤ x1))

theorem m33_ok (p0 : List (List Int)) (pb1_0 : Nat) {r : Bool} (hm : m33 p0 = some r) : Ab.Fn Try.prog 33 [.sl 1 (cL 1 (cN .u8)) p0, .fn (.func 34) [.lit (.pointer (some ⟨pb1_0, 0, none⟩))]] [.box pb1_0 57 [.fn (.func 32) []]] (fun a s => a = .b r ∧ s = [.box pb1_0 57 [.fn (.func 32) []]]) := by
  rw [m33] at hm
  refine Ab.Fn.of Try.func33 rfl rfl rfl (fun C => ?_)
  refine CW.seq ?_
  refine CW.region ?_
  refine RW.p rfl rfl rfl (Yp.assign rfl rfl) ?_
  refine RW.nil ?_
  refine CW.seq ?_
  refine CW.region ?_
  refine RW.p rfl rfl rfl (Yp.move rfl rfl) ?_
  refine RW.p rfl rfl rfl (Yp.move rfl rfl) ?_
  obtain ⟨x1, hx1, hm⟩ := bnd hm
  refine RW.c rfl rfl rfl (Yc.fnV (σp := [.box pb1_0 57 [.fn (.func 32) []]]) (args' := [.sl 1 (cL 1 (cN .u8)) p0, .fn (.func 34) [.lit (.pointer (some ⟨pb1_0, 0, none⟩))]]) rfl rfl ok48 rfl rfl rfl (VwL.id _) (m48_ok p0 pb1_0 hx1)) ?_
  rintro _ _ ⟨_, ⟨rfl, rfl⟩, rfl⟩
  refine RW.p rfl rfl rfl (Yp.geq rfl rfl rfl) ?_
  refine RW.p rfl rfl rfl (Yp.assign rfl rfl) ?_
  refine RW.nil ?_
  refine CW.ret ?_
  cases hm
  exact fin1 (.inr rfl) rfl (ResIs.tmp rfl) (.cons_cons _ (List.nil_sublist _)) ⟨rfl, rfl⟩

def m36 (p0 : Write) (p1 : Int) : Option Bool :=
  Option.bind (
    if (decide (p0.fAt < 0)) = true then
      some true
    else
      if (decide (p1 ≤ p0.fAt)) = true then
        some true
      else
        (m32 p0.fData).bind fun x1 =>
        some (!x1)) fun c1 =>
  some c1

theorem m36_ok (p0 : Write) (p1 : Int) (pb1 : Nat) (pb2 : Nat) {r : Bool} (hm : m36 p0 p1 = some r) : Ab.Fn Try.prog 36 [.agg [.i p0.fAt, .sl 1 (cN .u8) p0.fData], .lit (.pointer (some ⟨pb1, 0, none⟩)), .lit (.pointer (some ⟨pb2, 0, none⟩))] [.box pb1 3 [.i p1], .box pb2 57 [.fn (.func 32) []]] (fun a s => a = .b r ∧ s = [.box pb1 3 [.i p1], .box pb2 57 [.fn (.func 32) []]]) := by
  rw [m36] at hm
  refine Ab.Fn.of Try.func36 rfl rfl rfl (fun C => ?_)
  refine CW.seq ?_
  refine CW.region ?_
  refine RW.v rfl rfl rfl (Yv.box rfl rfl (Pw.p rfl)) ?_
  rintro _ _ ⟨b1, rfl, rfl⟩
  refine RW.p rfl rfl rfl (Yp.assign rfl rfl) ?_
  refine RW.nil ?_
  refine CW.seq ?_
  obtain ⟨c1, hs1, hk1⟩ := bnd hm
  refine CW.cut (fun E σ => Sub [(1, .lit (.pointer (some ⟨pb1, 0, none⟩))), (2, .lit (.pointer (some ⟨pb2, 0, none⟩))), (4, .b c1)] E ∧ σ = [.box pb1 3 [.i p1], .box pb2 57 [.fn (.func 32) []]]) ?_ ?_
  ·
    have hm := hs1
    refine CW.region ?_
    refine RW.p rfl rfl rfl (Yp.fieldP rfl rfl Try.underlying56 rfl sz3) ?_
    refine RW.p rfl rfl rfl (Yp.loadB1 0 rfl rfl rfl one3 rfl) ?_
    refine RW.p rfl rfl rfl (Yp.lss rfl rfl rfl) ?_
    refine RW.p rfl rfl rfl (Yp.move rfl rfl) ?_
    rcases Bool.eq_false_or_eq_true (decide (p0.fAt < 0)) with hb1 | hb1
    ·
      have hm := ift hm hb1
      refine RW.eqv 8 rfl (congrArg AV.b hb1) ?_
      refine RW.skip rfl rfl rfl ?_
      refine RW.skip rfl rfl rfl ?_
      refine RW.skip rfl rfl rfl ?_
      refine RW.skip rfl rfl rfl ?_
      refine RW.p rfl rfl rfl (Yp.pickT rfl rfl rfl) ?_
      refine RW.p rfl rfl rfl (Yp.move rfl rfl) ?_
      refine RW.skip rfl rfl rfl ?_
      refine RW.skip rfl rfl rfl ?_
      refine RW.skip rfl rfl rfl ?_
      refine RW.skip rfl rfl rfl ?_
      refine RW.skip rfl rfl rfl ?_
      refine RW.p rfl rfl rfl (Yp.pickT rfl rfl rfl) ?_
      refine RW.p rfl rfl rfl (Yp.assign rfl rfl) ?_
      refine RW.sel [1, 1] rfl ?_
      refine RW.nil ?_
      cases hm
      exact ⟨(Sub.cons rfl (Sub.cons rfl (Sub.cons rfl Sub.nil))), rfl⟩
    ·
      have hm := iff' hm hb1
      refine RW.eqv 8 rfl (congrArg AV.b hb1) ?_
      refine RW.p rfl rfl rfl (Yp.fieldP rfl rfl Try.underlying56 rfl sz3) ?_
      refine RW.p rfl rfl rfl (Yp.loadB1 0 rfl rfl rfl one3 rfl) ?_
      refine RW.p rfl rfl rfl (Yp.loadB1 1 rfl rfl rfl one3 rfl) ?_
      refine RW.p rfl rfl rfl (Yp.geq rfl rfl rfl) ?_
      refine RW.p rfl rfl rfl (Yp.pickF rfl rfl rfl) ?_
      refine RW.p rfl rfl rfl (Yp.move rfl rfl) ?_
      rcases Bool.eq_false_or_eq_true (decide (p1 ≤ p0.fAt)) with hb2 | hb2
      ·
        have hm := ift hm hb2
        refine RW.eqv 14 rfl (congrArg AV.b hb2) ?_
        refine RW.skip rfl rfl rfl ?_
        refine RW.skip rfl rfl rfl ?_
        refine RW.skip rfl rfl rfl ?_
        refine RW.skip rfl rfl rfl ?_
        refine RW.skip rfl rfl rfl ?_
        refine RW.p rfl rfl rfl (Yp.pickT rfl rfl rfl) ?_
        refine RW.p rfl rfl rfl (Yp.assign rfl rfl) ?_
        refine RW.sel [1, 1] rfl ?_
        refine RW.nil ?_
        cases hm
        exact ⟨(Sub.cons rfl (Sub.cons rfl (Sub.cons rfl Sub.nil))), rfl⟩
      ·
        have hm := iff' hm hb2
        refine RW.eqv 14 rfl (congrArg AV.b hb2) ?_
        refine RW.p rfl rfl rfl (Yp.loadB1 2 rfl rfl rfl one57 rfl) ?_
        refine RW.p rfl rfl rfl (Yp.fieldP rfl rfl Try.underlying56 rfl sz29) ?_
        refine RW.p rfl rfl rfl (Yp.loadB1 0 rfl rfl rfl one29 rfl) ?_
        obtain ⟨x1, hx1, hm⟩ := bnd hm
        refine RW.c rfl rfl rfl (Yc.fnV (σp := []) (args' := [.sl 1 (cN .u8) p0.fData]) rfl rfl ok32 rfl rfl rfl (VwL.id _) (m32_ok p0.fData hx1)) ?_
        rintro _ _ ⟨_, ⟨rfl, rfl⟩, rfl⟩
        refine RW.p rfl rfl rfl (Yp.not rfl rfl) ?_
        refine RW.p rfl rfl rfl (Yp.pickF rfl rfl rfl) ?_
        refine RW.p rfl rfl rfl (Yp.assign rfl rfl) ?_
        refine RW.sel [1, 1] rfl ?_
        refine RW.nil ?_
        cases hm
        exact ⟨(Sub.cons rfl (Sub.cons rfl (Sub.cons rfl Sub.nil))), rfl⟩
  ·
    rintro E σ ⟨hsub1, rfl⟩
    have hm := hk1
    refine CW.weak ?_ hsub1
    refine CW.ret ?_
    cases hm
    exact fin1 (.inr rfl) rfl (ResIs.tmp rfl) (.cons_cons _ (.cons_cons _ (List.nil_sublist _))) ⟨rfl, rfl⟩

def m49_l1 (p0 : List Write) (p1_0 : Int) : Nat → Int → Option (Sum Unit Int)
  | 0, _ => none
  | k1 + 1, n3 =>
    if (decide (n3 < (p0.length : Int))) = true then
      if 0 ≤ n3 ∧ n3 < (p0.length : Int) then
      (m36 (p0[Int.toNat n3]!) p1_0).bind fun x1 =>
      if x1 = true then
        some (Sum.inr n3)
      else
        m49_l1 p0 p1_0 k1 (w64 (n3 + 1))
      else none
    else
      some (Sum.inl ())
def m49 (p0 : List Write) (p1_0 : Int) : Option Int :=
  Option.bind (
    (m49_l1 p0 p1_0 (Int.toNat (p0.length : Int) + 1) 0).bind fun o2 =>
    match o2 with
    | .inl () =>
      some (Sum.inl ())
    | .inr r =>
      some (Sum.inr r)) fun o1 =>
  match o1 with
  | .inl () =>
    some (-1)
  | .inr r =>
    some r

theorem m49_ok (p0 : List Write) (p1_0 : Int) (pb1_0 : Nat) (pb1_1 : Nat) {r : Int} (hm : m49 p0 p1_0 = some r) : Ab.Fn Try.prog 49 [.sl 2 Write.cells p0, .fn (.func 36) [.lit (.pointer (some ⟨pb1_0, 0, none⟩)), .lit (.pointer (some ⟨pb1_1, 0, none⟩))]] [.box pb1_0 3 [.i p1_0], .box pb1_1 57 [.fn (.func 32) []]] (fun a s => a = .i r ∧ s = [.box pb1_0 3 [.i p1_0], .box pb1_1 57 [.fn (.func 32) []]]) := by
  rw [m49] at hm
  refine Ab.Fn.of Try.func49 rfl rfl rfl (fun C => ?_)
  refine CW.seq ?_
  refine CW.region ?_
  refine RW.p rfl rfl rfl (Yp.assign rfl rfl) ?_
  refine RW.nil ?_
  refine CW.seq ?_
  obtain ⟨o1, hs1, hk1⟩ := bnd hm
  refine CW.cut (fun E σ => o1 = Sum.inl () ∧ Sub [(1, .fn (.func 36) [.lit (.pointer (some ⟨pb1_0, 0, none⟩)), .lit (.pointer (some ⟨pb1_1, 0, none⟩))])] E ∧ σ = [.box pb1_0 3 [.i p1_0], .box pb1_1 57 [.fn (.func 32) []]]) ?_ ?_
  ·
    have hm := hs1
    refine CW.seq ?_
    refine CW.region ?_
    refine RW.p rfl rfl rfl (Yp.move rfl rfl) ?_
    refine RW.p rfl rfl rfl (Yp.lenSl rfl rfl Try.underlying24) ?_
    refine RW.p rfl rfl rfl (Yp.move rfl rfl) ?_
    refine RW.nil ?_
    refine CW.block ?_
    obtain ⟨o2, hs2, hk2⟩ := bnd hm
    refine CW.lp (fun k1 E σ => ∃ n3 : Int, Sub [(0, .sl 2 Write.cells p0), (1, .fn (.func 36) [.lit (.pointer (some ⟨pb1_0, 0, none⟩)), .lit (.pointer (some ⟨pb1_1, 0, none⟩))]), (7, .i (p0.length : Int)), (8, .i n3)] E ∧ σ = [.box pb1_0 3 [.i p1_0], .box pb1_1 57 [.fn (.func 32) []]] ∧ m49_l1 p0 p1_0 k1 n3 = some o2) (Int.toNat (p0.length : Int) + 1) ?_ ?_
    · exact ⟨0, (Sub.cons rfl (Sub.cons rfl (Sub.cons rfl (Sub.cons rfl Sub.nil)))), rfl, hs2⟩
    ·
      rintro k1 E σ ⟨n3, hsub1, rfl, hm⟩
      refine CW.weak ?_ hsub1
      cases k1 with
      | zero => cases hm
      | succ k1 =>
        rw [m49_l1] at hm
        refine CW.seq ?_
        refine CW.region ?_
        refine RW.p rfl rfl rfl (Yp.lss rfl rfl rfl) ?_
        refine RW.nil ?_
        refine CW.seq ?_
        refine CW.cond rfl (fun hb1 => ?_) (fun hb1 => ?_)
        ·
          have hm := ift hm hb1
          refine CW.skip ?_
          refine CW.seq ?_
          refine CW.block ?_
          refine CW.seq ?_
          refine CW.region ?_
          refine RW.p rfl rfl rfl (Yp.move rfl rfl) ?_
          refine RW.p rfl rfl rfl (Yp.assign rfl rfl) ?_
          refine RW.nil ?_
          refine CW.seq ?_
          refine CW.region ?_
          refine RW.p rfl rfl rfl (Yp.move rfl rfl) ?_
          refine RW.p rfl rfl rfl (Yp.move rfl rfl) ?_
          refine RW.p rfl rfl rfl (Yp.move rfl rfl) ?_
          obtain ⟨hc1, hm⟩ := chk hm
          refine RW.p rfl rfl rfl (Yp.indexSl rfl rfl rfl Try.underlying24 sz56 hc1) ?_
          refine RW.p rfl rfl rfl (Yp.loadFN rfl rfl many56 (Nat.le_of_ble_eq_true rfl)) ?_
          obtain ⟨x1, hx1, hm⟩ := bnd hm
          refine RW.c rfl rfl rfl (Yc.fnV (σp := [.box pb1_0 3 [.i p1_0], .box pb1_1 57 [.fn (.func 32) []]]) (args' := [.agg [.i ((p0[Int.toNat n3]!).fAt), .sl 1 (cN .u8) ((p0[Int.toNat n3]!).fData)], .lit (.pointer (some ⟨pb1_0, 0, none⟩)), .lit (.pointer (some ⟨pb1_1, 0, none⟩))]) rfl rfl ok36 rfl rfl rfl (VwL.id _) (m36_ok (p0[Int.toNat n3]!) p1_0 pb1_0 pb1_1 hx1)) ?_
          rintro _ _ ⟨_, ⟨rfl, rfl⟩, rfl⟩
          refine RW.nil ?_
          refine CW.cond rfl (fun hb2 => ?_) (fun hb2 => ?_)
          ·
            have hm := ift hm hb2
            refine CW.seq ?_
            refine CW.region ?_
            refine RW.p rfl rfl rfl (Yp.move rfl rfl) ?_
            refine RW.p rfl rfl rfl (Yp.assign rfl rfl) ?_
            refine RW.nil ?_
            refine CW.ret ?_
            cases hm
            have hm := hk2
            cases hm
            have hm := hk1
            cases hm
            exact fin1 (.inr rfl) rfl (ResIs.tmp rfl) (.cons_cons _ (.cons_cons _ (List.nil_sublist _))) ⟨rfl, rfl⟩
          ·
            have hm := iff' hm hb2
            refine CW.skip ?_
            refine CW.region ?_
            refine RW.p rfl rfl rfl (Yp.add rfl rfl rfl) ?_
            refine RW.p rfl rfl rfl (Yp.move rfl rfl) ?_
            refine RW.nil ?_
            exact ⟨k1, Nat.lt_succ_self _, _, (Sub.cons rfl (Sub.cons rfl (Sub.cons rfl (Sub.cons rfl Sub.nil)))), rfl, hm⟩
        ·
          have hm := iff' hm hb1
          refine CW.exit ?_
          cases hm
          have hm := hk2
          cases hm
          exact ⟨rfl, (Sub.cons rfl Sub.nil), rfl⟩
  ·
    rintro E σ ⟨rfl, hsub2, rfl⟩
    have hm := hk1
    refine CW.weak ?_ hsub2
    refine CW.seq ?_
    refine CW.region ?_
    refine RW.p rfl rfl rfl (Yp.assign rfl rfl) ?_
    refine RW.nil ?_
    refine CW.ret ?_
    cases hm
    exact fin1 (.inr rfl) rfl (ResIs.tmp rfl) (.cons_cons _ (.cons_cons _ (List.nil_sublist _))) ⟨rfl, rfl⟩

def m35 (p0 : List Write) (p1_0 : Int) : Option Bool :=
  (m49 p0 p1_0).bind fun x1 =>
  some (decide ((0 : Int) ≤ x1))

theorem m35_ok (p0 : List Write) (p1_0 : Int) (pb1_0 : Nat) (pb1_1 : Nat) {r : Bool} (hm : m35 p0 p1_0 = some r) : Ab.Fn Try.prog 35 [.sl 2 Write.cells p0, .fn (.func 36) [.lit (.pointer (some ⟨pb1_0, 0, none⟩)), .lit (.pointer (some ⟨pb1_1, 0, none⟩))]] [.box pb1_0 3 [.i p1_0], .box pb1_1 57 [.fn (.func 32) []]] (fun a s => a = .b r ∧ s = [.box pb1_0 3 [.i p1_0], .box pb1_1 57 [.fn (.func 32) []]]) := by
  rw [m35] at hm
  refine Ab.Fn.of Try.func35 rfl rfl rfl (fun C => ?_)
  refine CW.seq ?_
  refine CW.region ?_
  refine RW.p rfl rfl rfl (Yp.assign rfl rfl) ?_
  refine RW.nil ?_
  refine CW.seq ?_
  refine CW.region ?_
  refine RW.p rfl rfl rfl (Yp.move rfl rfl) ?_
  refine RW.p rfl rfl rfl (Yp.move rfl rfl) ?_
  obtain ⟨x1, hx1, hm⟩ := bnd hm
  refine RW.c rfl rfl rfl (Yc.fnV (σp := [.box pb1_0 3 [.i p1_0], .box pb1_1 57 [.fn (.func 32) []]]) (args' := [.sl 2 Write.cells p0, .fn (.func 36) [.lit (.pointer (some ⟨pb1_0, 0, none⟩)), .lit (.pointer (some ⟨pb1_1, 0, none⟩))]]) rfl rfl ok49 rfl rfl rfl (VwL.id _) (m49_ok p0 p1_0 pb1_0 pb1_1 hx1)) ?_
  rintro _ _ ⟨_, ⟨rfl, rfl⟩, rfl⟩
  refine RW.p rfl rfl rfl (Yp.geq rfl rfl rfl) ?_
  refine RW.p rfl rfl rfl (Yp.assign rfl rfl) ?_
  refine RW.nil ?_
  refine CW.ret ?_
  cases hm
  exact fin1 (.inr rfl) rfl (ResIs.tmp rfl) (.cons_cons _ (.cons_cons _ (List.nil_sublist _))) ⟨rfl, rfl⟩

def m13 (p0 : Disk) : Option Bool :=
  Option.bind (
    if (decide ((p0.fDurable.length : Int) < 1)) = true then
      some true
    else
      if (decide ((4096 : Int) < (p0.fDurable.length : Int))) = true then
        some true
      else
        some (decide ((8192 : Int) < (p0.fPending.length : Int)))) fun c1 =>
  if c1 = true then
    some false
  else
    (m33 p0.fDurable).bind fun x1 =>
    if x1 = true then
      some false
    else
      (m35 p0.fPending (p0.fDurable.length : Int)).bind fun x2 =>
      some (!x2)

theorem m13_ok (p0 : Disk)  {r : Bool} (hm : m13 p0 = some r) : Ab.Fn Try.prog 13 [.agg [.sl 1 (cL 1 (cN .u8)) p0.fDurable, .sl 2 Write.cells p0.fPending, .i p0.fLeft, .b p0.fDown]] [] (fun a s => a = .b r ∧ s = []) := by
  rw [m13] at hm
  refine Ab.Fn.of Try.func13 rfl rfl rfl (fun C => ?_)
  refine CW.seq ?_
  refine CW.region ?_
  refine RW.v rfl rfl rfl (Yv.box rfl rfl (Pw.p rfl)) ?_
  rintro _ _ ⟨b1, rfl, rfl⟩
  refine RW.p rfl rfl rfl (Yp.assign rfl rfl) ?_
  refine RW.nil ?_
  refine CW.seq ?_
  refine CW.region ?_
  refine RW.p rfl rfl rfl (Yp.fieldP rfl rfl Try.underlying26 rfl sz23) ?_
  refine RW.p rfl rfl rfl (Yp.loadB1 0 rfl rfl rfl one23 rfl) ?_
  refine RW.p rfl rfl rfl (Yp.lenSl rfl rfl Try.underlying23) ?_
  refine RW.v rfl rfl rfl (Yv.alloc rfl zerb3) ?_
  rintro _ _ ⟨b2, rfl, rfl⟩
  refine RW.u rfl rfl (Yu.storeB 0 rfl rfl rfl rfl sz3 (Pw.p rfl) rfl (Nat.le_of_ble_eq_true rfl)) ?_
  refine RW.nil ?_
  refine CW.seq ?_
  refine CW.seq ?_
  obtain ⟨c1, hs1, hk1⟩ := bnd hm
  refine CW.cut (fun E σ => Sub [(1, .lit (.pointer (some ⟨b1, 0, none⟩))), (3, .lit (.pointer (some ⟨b2, 0, none⟩))), (19, .b c1)] E ∧ σ = [.box b1 26 [.sl 1 (cL 1 (cN .u8)) p0.fDurable, .sl 2 Write.cells p0.fPending, .i p0.fLeft, .b p0.fDown], .box b2 3 [.i (p0.fDurable.length : Int)]]) ?_ ?_
  ·
    have hm := hs1
    refine CW.region ?_
    refine RW.p rfl rfl rfl (Yp.loadB1 0 rfl rfl rfl one3 rfl) ?_
    refine RW.p rfl rfl rfl (Yp.lss rfl rfl rfl) ?_
    refine RW.p rfl rfl rfl (Yp.move rfl rfl) ?_
    rcases Bool.eq_false_or_eq_true (decide ((p0.fDurable.length : Int) < 1)) with hb1 | hb1
    ·
      have hm := ift hm hb1
      refine RW.eqv 10 rfl (congrArg AV.b hb1) ?_
      refine RW.skip rfl rfl rfl ?_
      refine RW.skip rfl rfl rfl ?_
      refine RW.p rfl rfl rfl (Yp.pickT rfl rfl rfl) ?_
      refine RW.p rfl rfl rfl (Yp.move rfl rfl) ?_
      refine RW.skip rfl rfl rfl ?_
      refine RW.skip rfl rfl rfl ?_
      refine RW.skip rfl rfl rfl ?_
      refine RW.skip rfl rfl rfl ?_
      refine RW.p rfl rfl rfl (Yp.pickT rfl rfl rfl) ?_
      refine RW.sel [1, 0] rfl ?_
      refine RW.nil ?_
      cases hm
      exact ⟨(Sub.cons rfl (Sub.cons rfl (Sub.cons rfl Sub.nil))), rfl⟩
    ·
      have hm := iff' hm hb1
      refine RW.eqv 10 rfl (congrArg AV.b hb1) ?_
      refine RW.p rfl rfl rfl (Yp.loadB1 0 rfl rfl rfl one3 rfl) ?_
      refine RW.p rfl rfl rfl (Yp.gtr rfl rfl rfl) ?_
      refine RW.p rfl rfl rfl (Yp.pickF rfl rfl rfl) ?_
      refine RW.p rfl rfl rfl (Yp.move rfl rfl) ?_
      rcases Bool.eq_false_or_eq_true (decide ((4096 : Int) < (p0.fDurable.length : Int))) with hb2 | hb2
      ·
        have hm := ift hm hb2
        refine RW.eqv 14 rfl (congrArg AV.b hb2) ?_
        refine RW.skip rfl rfl rfl ?_
        refine RW.skip rfl rfl rfl ?_
        refine RW.skip rfl rfl rfl ?_
        refine RW.skip rfl rfl rfl ?_
        refine RW.p rfl rfl rfl (Yp.pickT rfl rfl rfl) ?_
        refine RW.sel [1, 0] rfl ?_
        refine RW.nil ?_
        cases hm
        exact ⟨(Sub.cons rfl (Sub.cons rfl (Sub.cons rfl Sub.nil))), rfl⟩
      ·
        have hm := iff' hm hb2
        refine RW.eqv 14 rfl (congrArg AV.b hb2) ?_
        refine RW.p rfl rfl rfl (Yp.fieldP rfl rfl Try.underlying26 rfl sz24) ?_
        refine RW.p rfl rfl rfl (Yp.loadB1 1 rfl rfl rfl one24 rfl) ?_
        refine RW.p rfl rfl rfl (Yp.lenSl rfl rfl Try.underlying24) ?_
        refine RW.p rfl rfl rfl (Yp.gtr rfl rfl rfl) ?_
        refine RW.p rfl rfl rfl (Yp.pickF rfl rfl rfl) ?_
        refine RW.sel [1, 0] rfl ?_
        refine RW.nil ?_
        cases hm
        exact ⟨(Sub.cons rfl (Sub.cons rfl (Sub.cons rfl Sub.nil))), rfl⟩
  ·
    rintro E σ ⟨hsub1, rfl⟩
    have hm := hk1
    refine CW.weak ?_ hsub1
    refine CW.cond rfl (fun hb3 => ?_) (fun hb3 => ?_)
    ·
      have hm := ift hm hb3
      refine CW.seq ?_
      refine CW.region ?_
      refine RW.p rfl rfl rfl (Yp.assign rfl rfl) ?_
      refine RW.nil ?_
      refine CW.ret ?_
      cases hm
      exact fin1 (.inr rfl) rfl (ResIs.tmp rfl) (List.nil_sublist _) ⟨rfl, rfl⟩
    ·
      have hm := iff' hm hb3
      refine CW.skip ?_
      refine CW.seq ?_
      refine CW.region ?_
      refine RW.v rfl rfl rfl (Yv.alloc rfl zerb57) ?_
      rintro _ _ ⟨b3, rfl, rfl⟩
      refine RW.u rfl rfl (Yu.storeB 0 rfl rfl rfl rfl sz57 (Pw.p rfl) rfl (Nat.le_of_ble_eq_true rfl)) ?_
      refine RW.nil ?_
      refine CW.seq ?_
      refine CW.seq ?_
      refine CW.region ?_
      refine RW.p rfl rfl rfl (Yp.fieldP rfl rfl Try.underlying26 rfl sz23) ?_
      refine RW.p rfl rfl rfl (Yp.loadB1 1 rfl rfl rfl one23 rfl) ?_
      refine RW.p rfl rfl rfl (Yp.func rfl rfl rfl) ?_
      obtain ⟨x1, hx1, hm⟩ := bnd hm
      refine RW.c rfl rfl rfl (Yc.fnV (σp := [.box b3 57 [.fn (.func 32) []]]) (args' := [.sl 1 (cL 1 (cN .u8)) p0.fDurable, .fn (.func 34) [.lit (.pointer (some ⟨b3, 0, none⟩))]]) rfl rfl ok33 rfl rfl rfl (VwL.id _) (m33_ok p0.fDurable b3 hx1)) ?_
      rintro _ _ ⟨_, ⟨rfl, rfl⟩, rfl⟩
      refine RW.nil ?_
      refine CW.cond rfl (fun hb4 => ?_) (fun hb4 => ?_)
      ·
        have hm := ift hm hb4
        refine CW.seq ?_
        refine CW.region ?_
        refine RW.p rfl rfl rfl (Yp.assign rfl rfl) ?_
        refine RW.nil ?_
        refine CW.ret ?_
        cases hm
        exact fin1 (.inr rfl) rfl (ResIs.tmp rfl) (List.nil_sublist _) ⟨rfl, rfl⟩
      ·
        have hm := iff' hm hb4
        refine CW.skip ?_
        refine CW.seq ?_
        refine CW.region ?_
        refine RW.p rfl rfl rfl (Yp.fieldP rfl rfl Try.underlying26 rfl sz24) ?_
        refine RW.p rfl rfl rfl (Yp.loadB1 1 rfl rfl rfl one24 rfl) ?_
        refine RW.p rfl rfl rfl (Yp.func rfl rfl rfl) ?_
        refine RW.sel [2, 0, 0] rfl ?_
        obtain ⟨x2, hx2, hm⟩ := bnd hm
        refine RW.c rfl rfl rfl (Yc.fnV (σp := [.box b2 3 [.i (p0.fDurable.length : Int)], .box b3 57 [.fn (.func 32) []]]) (args' := [.sl 2 Write.cells p0.fPending, .fn (.func 36) [.lit (.pointer (some ⟨b2, 0, none⟩)), .lit (.pointer (some ⟨b3, 0, none⟩))]]) rfl rfl ok35 rfl rfl rfl (VwL.id _) (m35_ok p0.fPending (p0.fDurable.length : Int) b2 b3 hx2)) ?_
        rintro _ _ ⟨_, ⟨rfl, rfl⟩, rfl⟩
        refine RW.p rfl rfl rfl (Yp.not rfl rfl) ?_
        refine RW.p rfl rfl rfl (Yp.assign rfl rfl) ?_
        refine RW.nil ?_
        refine CW.ret ?_
        cases hm
        exact fin1 (.inr rfl) rfl (ResIs.tmp rfl) (List.nil_sublist _) ⟨rfl, rfl⟩

def m39 (p0 : List Int) : Option (List Int) :=
  if (([] : List Int) ++ p0).length ≤ 1073741824 then
  some (([] : List Int) ++ p0)
  else none

theorem m39_ok (p0 : List Int)  {r : List Int} (hm : m39 p0 = some r) : Ab.Fn Try.prog 39 [.sl 1 (cN .u8) p0] [] (fun a s => a = .sl 1 (cN .u8) r ∧ s = []) := by
  rw [m39] at hm
  refine Ab.Fn.of Try.func39 rfl rfl rfl (fun C => ?_)
  refine CW.seq ?_
  refine CW.region ?_
  refine RW.p rfl rfl rfl (Yp.assign rfl rfl) ?_
  refine RW.nil ?_
  refine CW.seq ?_
  refine CW.seq ?_
  refine CW.region ?_
  refine RW.p rfl rfl rfl (Yp.move rfl rfl) ?_
  refine RW.nil? rfl rfl rfl (YpNil.sl rfl rfl rfl Try.underlying29) ?_
  rintro z1 hz1
  refine RW.nil ?_
  refine CW.cond rfl (fun hb1 => ?_) (fun hb1 => ?_)
  ·
    refine CW.seq ?_
    refine CW.region ?_
    refine RW.p rfl rfl rfl (Yp.assign rfl rfl) ?_
    refine RW.nil ?_
    refine CW.say 2 rfl (Vw.nil 1 (cN .u8)) ?_
    refine CW.ret ?_
    have hm : some [] = some r := by have h := hm; rw [hz1 hb1] at h; simpa using h
    cases hm
    exact fin1 (.inr rfl) rfl (ResIs.tmp rfl) (List.nil_sublist _) ⟨rfl, rfl⟩
  ·
    refine CW.skip ?_
    refine CW.seq ?_
    refine CW.region ?_
    refine RW.v rfl rfl rfl (Yv.lit0 (cN .u8) 1 rfl Try.underlying29 sz5) ?_
    rintro _ _ ⟨v1, rfl, rfl⟩
    refine RW.p rfl rfl rfl (Yp.move rfl rfl) ?_
    obtain ⟨hc1, hm⟩ := chk hm
    refine RW.v rfl rfl rfl (Yv.app (l := []) (l2 := p0) 0 rfl rfl rfl (.inr (.inl rfl)) Try.underlying29 szb5 zer5 rfl rfl (fun _ => rfl) hc1) ?_
    rintro _ _ ⟨v2, rfl, rfl⟩
    refine RW.p rfl rfl rfl (Yp.assign rfl rfl) ?_
    refine RW.nil ?_
    refine CW.frz 0 2 rfl rfl (Vw.row 0 rfl) ?_
    refine CW.ret ?_
    cases hm
    exact fin1 (.inr rfl) rfl (ResIs.tmp rfl) (List.nil_sublist _) ⟨rfl, rfl⟩


end Go.Proofs.YtfipaakafcjjhaaD
end
section
set_option linter.unusedSectionVars false
set_option linter.unusedVariables false
set_option linter.unusedSimpArgs false
namespace Go.Proofs.YtfipaakafcjjhaaD
open Go Go.RowKit Go.Shelf Go.Ab
attribute [local go_sem] Oper.semAt_some

theorem take_fin {n k : Nat} (h : k < n) : (List.finRange n).take (k + 1) = (List.finRange n).take k ++ [⟨k, h⟩] := by
  rw [List.take_add_one, List.getElem?_eq_getElem (by simpa using h), List.getElem_finRange]
  rfl

set_option maxRecDepth 100000 in
set_option maxHeartbeats 4000000 in
theorem back_in (l Bs o b off len cap n0 : Nat) (u : Nat → Nat → Value) (A : Nat → Prop) (hb : b < n0) (hAb : A b) (hB : Bs < n0) (hAB : A Bs) (hlen : len ≤ 9223372036854775807) (J Jx : List (Fin len) → World → Prop)
    (hY : ∀ pre (x : Fin len) W, J pre W → pre.length < len → YieldAt Fence.wide 0 Try.prog l #[.int .i64 ((len : Int) - 1 - (x.1 : Int)), .agg #[u (len - 1 - x.1) 0, u (len - 1 - x.1) 1]] W fun e W' =>
      (e = .returned (.bool true) ∧ J (pre ++ [x]) W' ∧ (∀ b, b < n0 → A b → W'.heap[b]? = W.heap[b]?)) ∨ (e = .returned (.bool false) ∧ Jx (pre ++ [x]) W'))
    (W : World) (hBs : W.cell? ⟨Bs, o, none⟩ = some (.slice (some ⟨b, off, none⟩) len cap)) (hc : ∀ i j, i < len → j < 2 → W.cell? ⟨b, off + i * 2 + j, none⟩ = some (u i j)) (h0 : J [] W) :
    CallsIn Fence.wide 1 Try.prog 52 #[.func (.yield l) #[] #[], .pointer (some ⟨Bs, o, none⟩)] W fun e W' => (∃ v, e = .returned v) ∧
      ((∃ xs, xs = List.finRange len ∧ J xs W') ∨ (∃ pre, pre <+: List.finRange len ∧ Jx pre W')) := by
  refine callsIn_of_wp Try.func52 rfl trivial ?_ rfl
  simp only [Try.ntmps52, List.size_toArray, List.length_cons, List.length_nil, Nat.reduceAdd, Nat.reduceSub, Array.replicate_succ, Array.replicate_zero, List.push_toArray, List.append_toArray, List.nil_append, List.cons_append]
  gi_wp2
  gi_loopw [3] (fun i wr => ∃ k : Nat, k ≤ len ∧ i = .int .i64 ((len : Int) - 1 - k) ∧ J ((List.finRange len).take k) wr ∧ (∀ b, b < n0 → A b → wr.heap[b]? = W.heap[b]?))
    (fun i _ => (intOf i + 1).toNat)
  case atStart => exact ⟨0, Nat.zero_le _, by simp, by simpa using h0, fun _ _ _ => rfl⟩
  case round =>
    obtain ⟨k, hk, rfl, hJs, hnx⟩ := hrel
    have hcB : wr.cell? ⟨Bs, o, none⟩ = some (.slice (some ⟨b, off, none⟩) len cap) := (World.cell?_of_block (hnx Bs hB hAB)).trans hBs
    have hcx : ∀ i j, i < len → j < 2 → wr.cell? ⟨b, off + i * 2 + j, none⟩ = some (u i j) := fun i j h1 h2 => (World.cell?_of_block (hnx b hb hAb)).trans (hc i j h1 h2)
    by_cases hlt : k < len
    · obtain ⟨fn, tmps, assign, body, hy, hR⟩ := hY _ ⟨k, hlt⟩ wr hJs (by simp; omega)
      dsimp only at hy
      have e0 : wr.cell? ⟨b, off + (len - 1 - k) * 2, none⟩ = some (u (len - 1 - k) 0) := hcx (len - 1 - k) 0 (by omega) (by omega)
      have e1 := hcx (len - 1 - k) 1 (by omega) (by omega)
      gi_wp2
      refine hR.mono ?_
      rintro e W3 (⟨rfl, hJ3, hk3⟩ | ⟨rfl, hJx3⟩)
      · gi_wp2
        go_roundw
        case rel => exact ⟨k + 1, by omega, by simp; omega, by rw [take_fin hlt]; exact hJ3, fun b' h1 h2 => (hk3 b' h1 h2).trans (hnx b' h1 h2)⟩
        case measure => simp [intOf]; omega
      · gi_wp2
        refine bodyPost_ret (results_none rfl _ _ _) rfl ?_
        exact ⟨⟨_, rfl⟩, .inr ⟨_, by rw [← take_fin hlt]; exact List.take_prefix _ _, hJx3⟩⟩
    · obtain rfl : k = len := by omega
      gi_wp2
      go_end0
      exact ⟨⟨_, rfl⟩, .inl ⟨_, rfl, by rwa [List.take_of_length_le (by simp)] at hJs⟩⟩

set_option maxRecDepth 100000 in
set_option maxHeartbeats 1000000 in
theorem back_nil (l Bs o cap : Nat) (p : Option Addr) (J : List (Fin 0) → World → Prop) (W : World) (hBs : W.cell? ⟨Bs, o, none⟩ = some (.slice p 0 cap)) (h0 : J [] W) :
    CallsIn Fence.wide 1 Try.prog 52 #[.func (.yield l) #[] #[], .pointer (some ⟨Bs, o, none⟩)] W fun e W' => (∃ v, e = .returned v) ∧ J [] W' := by
  refine callsIn_of_wp Try.func52 rfl trivial ?_ rfl
  simp only [Try.ntmps52, List.size_toArray, List.length_cons, List.length_nil, Nat.reduceAdd, Nat.reduceSub, Array.replicate_succ, Array.replicate_zero, List.push_toArray, List.append_toArray, List.nil_append, List.cons_append]
  gi_wp2
  gi_loopw [3] (fun i wr => i = .int .i64 (-1) ∧ J [] wr) (fun _ _ => 0)
  case atStart => exact ⟨by simp, h0⟩
  case round =>
    obtain ⟨rfl, hJs⟩ := hrel
    gi_wp2
    go_end0
    exact ⟨⟨_, rfl⟩, hJs⟩

def backEs (l : List Write) : List (List AV) := (List.range l.length).map fun (k : Nat) => [.i ((l.length : Int) - 1 - (k : Int)), .agg (Write.cells l[l.length - 1 - k]!)]
theorem backEs_len (l : List Write) : (backEs l).length = l.length := by simp [backEs]
theorem backEs_get (l : List Write) {k : Nat} (h : k < l.length) : (backEs l)[k]! = [.i ((l.length : Int) - 1 - (k : Int)), .agg (Write.cells l[l.length - 1 - k]!)] := by
  rw [getElem!_pos _ k (by rw [backEs_len]; exact h)]
  simp [backEs]

theorem back_iter (l : List Write) : Iter Try.prog 52 [.fp [.sl 2 Write.cells l]] (backEs l) := fun A w lb hlb => by
  obtain ⟨v, hv1, hv2⟩ := hlb.get (j := 0) rfl
  obtain rfl : lb = [v] := by
    have := hlb.1
    cases lb with
    | nil => cases hv1
    | cons x xs =>
      cases xs with
      | nil => simp at hv1; rw [hv1]
      | cons y ys => simp at this
  obtain ⟨Bs, o, us, rfl, hB, hAB, hcs, hus⟩ := hv2.fpInv
  obtain ⟨sv, hs1, hs2⟩ := hus.get (j := 0) rfl
  have hcB := hcs 0 sv hs1
  rw [Nat.add_zero] at hcB
  obtain ⟨p, cap, u, rfl, hl, hcap, hz, hc, hr⟩ := hs2.slInv
  have hE := backEs_len l
  obtain ⟨vs, hvs⟩ : ∃ vs : List (List Value), vs = (List.range l.length).map fun (k : Nat) => [.int .i64 ((l.length : Int) - 1 - (k : Int)), .agg #[u (l.length - 1 - k) 0, u (l.length - 1 - k) 1]] := ⟨_, rfl⟩
  have hget : ∀ k, k < l.length → vs[k]! = [.int .i64 ((l.length : Int) - 1 - (k : Int)), .agg #[u (l.length - 1 - k) 0, u (l.length - 1 - k) 1]] := fun k hk => by
    subst hvs
    rw [getElem!_pos _ k (by simpa using hk)]
    simp
  refine ⟨vs, by subst hvs; simp [backEs], fun i hi => ?_, ?_⟩
  · rw [hE] at hi
    rw [backEs_get l hi, hget i hi]
    refine ⟨rfl, fun j a v h1 h2 => ?_⟩
    match j with
    | 0 => cases h1; cases h2; exact .lit _
    | 1 =>
      cases h1; cases h2
      refine .agg _ [u (l.length - 1 - i) 0, u (l.length - 1 - i) 1] rfl fun j a v h1 h2 => ?_
      match j with
      | 0 => cases h2; exact hr _ 0 a (by omega) h1
      | 1 => cases h2; exact hr _ 1 a (by omega) h1
      | j + 2 => cases h2
    | j + 2 => cases h1
  · have henc : (fun i : Fin (backEs l).length => (vs[i.1]!).toArray) = fun x => #[.int .i64 (((backEs l).length : Int) - 1 - (x.1 : Int)), .agg #[u ((backEs l).length - 1 - x.1) 0, u ((backEs l).length - 1 - x.1) 1]] := funext fun x => by
      have hx := x.2
      rw [hget x.1 (by omega)]
      simp [hE]
    rw [henc]
    intro lp J Jx W hW _ _ hY h0
    have hblk : ∀ b, b < w.heap.size → W.heap[b]? = w.heap[b]? := fun b hb => hW.block b hb
    have hcB' : W.cell? ⟨Bs, o, none⟩ = some (.slice p (backEs l).length cap) := by rw [World.cell?_of_block (hblk Bs hB), hE]; exact hcB
    by_cases h0l : l.length = 0
    · obtain rfl : l = [] := List.length_eq_zero_iff.1 h0l
      exact (back_nil lp Bs o cap p J W hcB' h0).mono fun e W' h => ⟨h.1, .inl ⟨[], rfl, h.2⟩⟩
    · obtain ⟨b, off, rfl, hb, hAb, hcell⟩ := hc 0 (by omega)
      refine (back_in lp Bs o b off (backEs l).length cap w.heap.size u A hb hAb hB hAB (by omega) J Jx hY W hcB' (fun i j h1 h2 => ?_) h0).mono fun e W' h => h
      obtain ⟨b', off', e1, _, _, h4⟩ := hc i (by omega)
      cases e1
      rw [World.cell?_of_block (hblk b hb)]
      exact h4 j h2
end Go.Proofs.YtfipaakafcjjhaaD
end
section
set_option linter.unusedSectionVars false
set_option linter.unusedVariables false
set_option linter.unusedSimpArgs false
namespace Go.Proofs.YtfipaakafcjjhaaD
open Go Go.RowKit Go.Ab Go.Proofs

theorem find_some (l : List Write) (q : Write → Bool) (i : Nat) (hi : i < l.length) (h1 : ∀ j, j < i → q l[l.length - 1 - j]! = false) (h2 : q l[l.length - 1 - i]! = true) : l.reverse.find? q = some l[l.length - 1 - i]! := by
  rw [List.find?_eq_some_iff_getElem]
  refine ⟨h2, i, by simpa using hi, ?_, fun j hj => ?_⟩
  · rw [List.getElem_reverse, getElem!_pos l _ (by omega)]
  · have := h1 j hj
    rw [getElem!_pos l _ (by omega)] at this
    rw [List.getElem_reverse, this]; rfl
theorem find_none (l : List Write) (q : Write → Bool) (h1 : ∀ j, j < l.length → q l[l.length - 1 - j]! = false) : l.reverse.find? q = none := by
  rw [List.find?_eq_none]
  intro x hx
  rw [List.mem_reverse] at hx
  obtain ⟨k, hk, rfl⟩ := List.getElem_of_mem hx
  have := h1 (l.length - 1 - k) (by omega)
  rw [show l.length - 1 - (l.length - 1 - k) = k from by omega, getElem!_pos l _ hk] at this
  simp [this]

theorem ok38 : fnOk Try.prog 38 := ⟨_, Try.func38, by kernel_rfl, rfl⟩
theorem zerb29 : (Try.prog.info? 29).bind (fun i => i.zero.map (·.cells)) = some ([.slice none 0 0] : List Value).toArray := by kernel_rfl
theorem zerb33 : (Try.prog.info? 33).bind (fun i => i.zero.map (·.cells)) = some ([.int .i64 0] : List Value).toArray := by kernel_rfl
theorem one33 : isOne Try.prog 33 := ⟨_, Try.underlying33, trivial⟩
theorem sz33 : (Try.prog.info? 33).map (·.size) = some 1 := by kernel_rfl

theorem m38_ok (p0 : List Write) : Ab.Fn Try.prog 38 [.sl 2 Write.cells p0] [] (fun a s => a = .fn (.func 52) [.fp [.sl 2 Write.cells p0]] ∧ s = []) := by
  refine Ab.Fn.of Try.func38 rfl rfl rfl (fun C => ?_)
  refine CW.seq ?_
  refine CW.region ?_
  refine RW.v rfl rfl rfl (Yv.box rfl rfl (Pw.p rfl)) ?_
  rintro _ _ ⟨b1, rfl, rfl⟩
  refine RW.p rfl rfl rfl (Yp.assign rfl rfl) ?_
  refine RW.nil ?_
  refine CW.seq ?_
  refine CW.region ?_
  refine RW.p rfl rfl rfl (Yp.func rfl rfl rfl) ?_
  refine RW.p rfl rfl rfl (Yp.assign rfl rfl) ?_
  refine RW.nil ?_
  refine CW.frz 0 2 rfl rfl (Vw.fn (VwL.cons (Vw.box 0 rfl) VwL.nil)) ?_
  refine CW.ret ?_
  exact fin1 (.inr rfl) rfl (ResIs.tmp rfl) (List.nil_sublist _) ⟨rfl, rfl⟩

def m17 (p0 : Disk) (p1 : Int) : Option (List Int × Int) :=
  (m13 p0).bind fun x1 =>
  if (!x1) = true then some ([], 1)
  else if (decide (p1 < 0) || decide ((p0.fDurable.length : Int) ≤ p1)) = true then some ([], 3)
  else if p0.fDown = true then some ([], 17)
  else if p0.fPending.all (fun w => (m39 w.fData).isSome) = true then
    match p0.fPending.reverse.find? (fun w => decide (w.fAt = p1)) with
    | some w => (m39 w.fData).bind fun x => some (x, 0)
    | none => (m39 p0.fDurable[p1.toNat]!).bind fun x => some (x, 0)
  else none

set_option maxHeartbeats 2000000 in
theorem m17_ok (p0 : Disk) (p1 : Int) {r : List Int × Int} (hm : m17 p0 p1 = some r) : Ab.Fn Try.prog 17 [.agg [.sl 1 (cL 1 (cN .u8)) p0.fDurable, .sl 2 Write.cells p0.fPending, .i p0.fLeft, .b p0.fDown], .i p1] [] (fun a s => a = .tup [.sl 1 (cN .u8) r.1, .i r.2] ∧ s = []) := by
  rw [m17] at hm
  refine Ab.Fn.of Try.func17 rfl rfl rfl (fun C => ?_)
  refine CW.seq ?_
  refine CW.region ?_
  refine RW.v rfl rfl rfl (Yv.box rfl rfl (Pw.p rfl)) ?_
  rintro _ _ ⟨b1, rfl, rfl⟩
  refine RW.v rfl rfl rfl (Yv.box rfl rfl (Pw.p rfl)) ?_
  rintro _ _ ⟨b2, rfl, rfl⟩
  refine RW.v rfl rfl rfl (Yv.alloc rfl zerb29) ?_
  rintro _ _ ⟨b3, rfl, rfl⟩
  refine RW.v rfl rfl rfl (Yv.alloc rfl zerb33) ?_
  rintro _ _ ⟨b4, rfl, rfl⟩
  refine RW.nil ?_
  obtain ⟨x1, hx1, hm⟩ := bnd hm
  refine CW.seq ?_
  refine CW.block ?_
  refine CW.seq ?_
  refine CW.region ?_
  refine RW.p rfl rfl rfl (Yp.loadBN 3 rfl rfl rfl many26 (Nat.le_of_ble_eq_true rfl)) ?_
  refine RW.c rfl rfl rfl (Yc.fnV (σp := []) (args' := [.agg [.sl 1 (cL 1 (cN .u8)) p0.fDurable, .sl 2 Write.cells p0.fPending, .i p0.fLeft, .b p0.fDown]]) rfl rfl ok13 rfl rfl rfl (VwL.id _) (m13_ok p0 hx1)) ?_
  rintro _ _ ⟨_, ⟨rfl, rfl⟩, rfl⟩
  refine RW.p rfl rfl rfl (Yp.not rfl rfl) ?_
  refine RW.p rfl rfl rfl (Yp.assign rfl rfl) ?_
  refine RW.nil ?_
  refine CW.cond rfl (fun hb1 => ?_) (fun hb1 => ?_)
  · have hm := ift hm hb1
    refine CW.seq ?_
    refine CW.region ?_
    refine RW.u rfl rfl (Yu.storeB 1 rfl rfl rfl rfl sz29 (Pw.p rfl) rfl (Nat.le_of_ble_eq_true rfl)) ?_
    refine RW.u rfl rfl (Yu.storeB 0 rfl rfl rfl rfl sz33 (Pw.p rfl) rfl (Nat.le_of_ble_eq_true rfl)) ?_
    refine RW.nil ?_
    refine CW.sayB 1 rfl (VwL.cons (Vw.nil 1 (cN .u8)) VwL.nil) ?_
    refine CW.ret ?_
    cases hm
    exact fin2 (.inr rfl) rfl (ResIs.cell1 1 rfl rfl one29 rfl) (ResIs.cell1 0 rfl rfl one33 rfl) (List.nil_sublist _) ⟨rfl, rfl⟩
  have hm := iff' hm hb1
  refine CW.seq ?_
  refine CW.region ?_
  refine RW.p rfl rfl rfl (Yp.loadB1 2 rfl rfl rfl one3 rfl) ?_
  refine RW.p rfl rfl rfl (Yp.lss rfl rfl rfl) ?_
  refine RW.p rfl rfl rfl (Yp.move rfl rfl) ?_
  have fin3 : (decide (p1 < 0) || decide ((p0.fDurable.length : Int) ≤ p1)) = true → some (([] : List Int), (3 : Int)) = some r := fun h => ift hm h
  rcases Bool.eq_false_or_eq_true (decide (p1 < 0)) with hb2 | hb2
  · refine RW.eqv 15 rfl (congrArg AV.b hb2) ?_
    refine RW.skip rfl rfl rfl ?_
    refine RW.skip rfl rfl rfl ?_
    refine RW.skip rfl rfl rfl ?_
    refine RW.skip rfl rfl rfl ?_
    refine RW.skip rfl rfl rfl ?_
    refine RW.p rfl rfl rfl (Yp.pickT rfl rfl rfl) ?_
    refine RW.p rfl rfl rfl (Yp.assign rfl rfl) ?_
    refine RW.nil ?_
    refine CW.condT rfl ?_
    have hm := fin3 (by rw [hb2]; rfl)
    refine CW.seq ?_
    refine CW.region ?_
    refine RW.u rfl rfl (Yu.storeB 1 rfl rfl rfl rfl sz29 (Pw.p rfl) rfl (Nat.le_of_ble_eq_true rfl)) ?_
    refine RW.u rfl rfl (Yu.storeB 0 rfl rfl rfl rfl sz33 (Pw.p rfl) rfl (Nat.le_of_ble_eq_true rfl)) ?_
    refine RW.nil ?_
    refine CW.sayB 1 rfl (VwL.cons (Vw.nil 1 (cN .u8)) VwL.nil) ?_
    refine CW.ret ?_
    cases hm
    exact fin2 (.inr rfl) rfl (ResIs.cell1 1 rfl rfl one29 rfl) (ResIs.cell1 0 rfl rfl one33 rfl) (List.nil_sublist _) ⟨rfl, rfl⟩
  refine RW.eqv 15 rfl (congrArg AV.b hb2) ?_
  refine RW.p rfl rfl rfl (Yp.loadB1 2 rfl rfl rfl one3 rfl) ?_
  refine RW.p rfl rfl rfl (Yp.fieldP rfl rfl Try.underlying26 rfl sz23) ?_
  refine RW.p rfl rfl rfl (Yp.loadB1 3 rfl rfl rfl one23 rfl) ?_
  refine RW.p rfl rfl rfl (Yp.lenSl rfl rfl Try.underlying23) ?_
  refine RW.p rfl rfl rfl (Yp.geq rfl rfl rfl) ?_
  refine RW.p rfl rfl rfl (Yp.pickF rfl rfl rfl) ?_
  refine RW.p rfl rfl rfl (Yp.assign rfl rfl) ?_
  refine RW.nil ?_
  refine CW.cond rfl (fun hb3 => ?_) (fun hb3 => ?_)
  · have hm := fin3 (by rw [hb3]; simp)
    refine CW.seq ?_
    refine CW.region ?_
    refine RW.u rfl rfl (Yu.storeB 1 rfl rfl rfl rfl sz29 (Pw.p rfl) rfl (Nat.le_of_ble_eq_true rfl)) ?_
    refine RW.u rfl rfl (Yu.storeB 0 rfl rfl rfl rfl sz33 (Pw.p rfl) rfl (Nat.le_of_ble_eq_true rfl)) ?_
    refine RW.nil ?_
    refine CW.sayB 1 rfl (VwL.cons (Vw.nil 1 (cN .u8)) VwL.nil) ?_
    refine CW.ret ?_
    cases hm
    exact fin2 (.inr rfl) rfl (ResIs.cell1 1 rfl rfl one29 rfl) (ResIs.cell1 0 rfl rfl one33 rfl) (List.nil_sublist _) ⟨rfl, rfl⟩
  have hm := iff' hm (show (decide (p1 < 0) || decide ((p0.fDurable.length : Int) ≤ p1)) = false from by rw [hb2, hb3]; rfl)
  refine CW.seq ?_
  refine CW.region ?_
  refine RW.p rfl rfl rfl (Yp.fieldP rfl rfl Try.underlying26 rfl sz4) ?_
  refine RW.p rfl rfl rfl (Yp.loadB1 3 rfl rfl rfl one4 rfl) ?_
  refine RW.p rfl rfl rfl (Yp.assign rfl rfl) ?_
  refine RW.nil ?_
  refine CW.cond rfl (fun hb4 => ?_) (fun hb4 => ?_)
  · have hm := ift hm hb4
    refine CW.seq ?_
    refine CW.region ?_
    refine RW.u rfl rfl (Yu.storeB 1 rfl rfl rfl rfl sz29 (Pw.p rfl) rfl (Nat.le_of_ble_eq_true rfl)) ?_
    refine RW.u rfl rfl (Yu.storeB 0 rfl rfl rfl rfl sz33 (Pw.p rfl) rfl (Nat.le_of_ble_eq_true rfl)) ?_
    refine RW.nil ?_
    refine CW.sayB 1 rfl (VwL.cons (Vw.nil 1 (cN .u8)) VwL.nil) ?_
    refine CW.ret ?_
    cases hm
    exact fin2 (.inr rfl) rfl (ResIs.cell1 1 rfl rfl one29 rfl) (ResIs.cell1 0 rfl rfl one33 rfl) (List.nil_sublist _) ⟨rfl, rfl⟩
  have hm := iff' hm hb4
  obtain ⟨hall, hm⟩ := chk hm
  refine CW.skip ?_
  refine CW.seq ?_
  refine CW.seq ?_
  refine CW.region ?_
  refine RW.p rfl rfl rfl (Yp.fieldP rfl rfl Try.underlying26 rfl sz24) ?_
  refine RW.p rfl rfl rfl (Yp.loadB1 3 rfl rfl rfl one24 rfl) ?_
  refine RW.c rfl rfl rfl (Yc.fnV (σp := []) (args' := [.sl 2 Write.cells p0.fPending]) rfl rfl ok38 rfl rfl rfl (VwL.id _) (m38_ok p0.fPending)) ?_
  rintro _ _ ⟨_, ⟨rfl, rfl⟩, rfl⟩
  refine RW.nil ?_
  refine CW.block ?_
  have hN := backEs_len p0.fPending
  obtain ⟨it, hit⟩ : ∃ it : Nat → Write, it = fun i => p0.fPending[p0.fPending.length - 1 - i]! := ⟨_, rfl⟩
  have hes : ∀ i, i < (backEs p0.fPending).length → (backEs p0.fPending)[i]! = [.i ((p0.fPending.length : Int) - 1 - (i : Int)), .agg (Write.cells (it i))] := fun i hi => by rw [backEs_get _ (by omega), hit]
  refine CW.rf (gf := 52) (caps := [.fp [.sl 2 Write.cells p0.fPending]]) (es := backEs p0.fPending)
    (fun s => s = [.box b4 33 [.i 0], .box b3 29 [.lit (.slice none 0 0)], .box b2 3 [.i p1], .box b1 26 [.sl 1 (cL 1 (cN .u8)) p0.fDurable, .sl 2 Write.cells p0.fPending, .i p0.fLeft, .b p0.fDown]])
    (fun i s => ∃ x, m39 (it i).fData = some x ∧ s = [.box b4 33 [.i 0], .box b3 29 [.sl 1 (cN .u8) x], .box b2 3 [.i p1], .box b1 26 [.sl 1 (cL 1 (cN .u8)) p0.fDurable, .sl 2 Write.cells p0.fPending, .i p0.fLeft, .b p0.fDown]])
    (fun i => decide ((it i).fAt = p1))
    (fun i E s => ∃ b7, Sub [(2, .lit (.pointer (some ⟨b1, 0, none⟩))), (3, .lit (.pointer (some ⟨b2, 0, none⟩))), (4, .lit (.pointer (some ⟨b3, 0, none⟩))), (5, .lit (.pointer (some ⟨b4, 0, none⟩))), (7, .lit (.pointer (some ⟨b7, 0, none⟩)))] E ∧
      s = [.box b7 56 (Write.cells (it i)), .box b4 33 [.i 0], .box b3 29 [.lit (.slice none 0 0)], .box b2 3 [.i p1], .box b1 26 [.sl 1 (cL 1 (cN .u8)) p0.fDurable, .sl 2 Write.cells p0.fPending, .i p0.fLeft, .b p0.fDown]])
    rfl (enters_of Try.func52 (by kernel_rfl) rfl) (back_iter _) (fun i hi => by rw [hes i hi]; rfl) (by decide) rfl ?_ ?_ ?_ ?_
  · rintro C' i _ hi rfl
    rw [hes i hi]
    refine CWR.region rfl ?_
    refine RW.v rfl rfl rfl (Yv.alloc rfl zerb56) ?_
    rintro _ _ ⟨b7, rfl, rfl⟩
    refine RW.u rfl rfl (Yu.storeB 0 rfl rfl rfl rfl sz56 (Pw.p rfl) rfl (Nat.le_of_ble_eq_true rfl)) ?_
    refine RW.nil ?_
    exact ⟨rfl, ⟨b7, Sub.cons rfl (Sub.cons rfl (Sub.cons rfl (Sub.cons rfl (Sub.cons rfl Sub.nil)))), rfl⟩, _, rfl, List.sublist_cons_self _ _⟩
  · rintro C' i E1 _ hi ⟨b7, hs, rfl⟩
    refine CWR.weak ?_ hs
    refine CWR.block ?_
    refine CWR.seq ?_
    refine CWR.region rfl ?_
    refine RW.p rfl rfl rfl (Yp.fieldP rfl rfl Try.underlying56 rfl sz3) ?_
    refine RW.p rfl rfl rfl (Yp.loadB1 0 rfl rfl rfl one3 rfl) ?_
    refine RW.p rfl rfl rfl (Yp.loadB1 3 rfl rfl rfl one3 rfl) ?_
    refine RW.p rfl rfl rfl (Yp.eql rfl rfl rfl) ?_
    refine RW.nil ?_
    refine CWR.cond rfl (fun hb5 => ?_) (fun hb5 => ?_)
    · have hx : (m39 (it i).fData).isSome = true := by
        rw [hit]
        rw [List.all_eq_true] at hall
        refine hall _ ?_
        show p0.fPending[p0.fPending.length - 1 - i]! ∈ _
        rw [getElem!_pos _ _ (by omega)]
        exact List.getElem_mem _
      obtain ⟨x, hx⟩ := Option.isSome_iff_exists.1 hx
      refine CWR.seq ?_
      refine CWR.region rfl ?_
      refine RW.p rfl rfl rfl (Yp.fieldP rfl rfl Try.underlying56 rfl sz29) ?_
      refine RW.p rfl rfl rfl (Yp.loadB1 0 rfl rfl rfl one29 rfl) ?_
      refine RW.c rfl rfl rfl (Yc.fnV (σp := []) (args' := [.sl 1 (cN .u8) (it i).fData]) rfl rfl ok39 rfl rfl rfl (VwL.id _) (m39_ok (it i).fData hx)) ?_
      rintro _ _ ⟨_, ⟨rfl, rfl⟩, rfl⟩
      refine RW.u rfl rfl (Yu.storeB 2 rfl rfl rfl rfl sz29 (Pw.p rfl) rfl (Nat.le_of_ble_eq_true rfl)) ?_
      refine RW.u rfl rfl (Yu.storeB 1 rfl rfl rfl rfl sz33 (Pw.p rfl) rfl (Nat.le_of_ble_eq_true rfl)) ?_
      refine RW.nil ?_
      refine CWR.ret ?_
      exact .inr ⟨rfl, hb5, _, ⟨x, hx, rfl⟩, List.sublist_cons_self _ _⟩
    · refine CWR.skip ?_
      exact .inl ⟨rfl, hb5, _, rfl, List.sublist_cons_self _ _⟩
  · rintro _ rfl hp
    have hfind := find_none p0.fPending (fun w => decide (w.fAt = p1)) (fun j hj => by have := hp j (by omega); rw [hit] at this; exact this)
    rw [hfind] at hm
    obtain ⟨x, hx, hm⟩ := bnd hm
    refine CW.seq ?_
    refine CW.region ?_
    refine RW.p rfl rfl rfl (Yp.fieldP rfl rfl Try.underlying26 rfl sz23) ?_
    refine RW.p rfl rfl rfl (Yp.loadB1 3 rfl rfl rfl one23 rfl) ?_
    refine RW.p rfl rfl rfl (Yp.loadB1 2 rfl rfl rfl one3 rfl) ?_
    have hc1 : 0 ≤ p1 ∧ p1 < (p0.fDurable.length : Int) := ⟨by simpa using hb2, by simpa using hb3⟩
    refine RW.p rfl rfl rfl (Yp.indexSl rfl rfl rfl Try.underlying23 sz29 hc1) ?_
    refine RW.p rfl rfl rfl (Yp.loadF1 rfl rfl one29 rfl) ?_
    refine RW.c rfl rfl rfl (Yc.fnV (σp := []) (args' := [.sl 1 (cN .u8) p0.fDurable[p1.toNat]!]) rfl rfl ok39 rfl rfl rfl (VwL.id _) (m39_ok _ hx)) ?_
    rintro _ _ ⟨_, ⟨rfl, rfl⟩, rfl⟩
    refine RW.u rfl rfl (Yu.storeB 1 rfl rfl rfl rfl sz29 (Pw.p rfl) rfl (Nat.le_of_ble_eq_true rfl)) ?_
    refine RW.u rfl rfl (Yu.storeB 0 rfl rfl rfl rfl sz33 (Pw.p rfl) rfl (Nat.le_of_ble_eq_true rfl)) ?_
    refine RW.nil ?_
    refine CW.ret ?_
    cases hm
    exact fin2 (.inr rfl) rfl (ResIs.cell1 1 rfl rfl one29 rfl) (ResIs.cell1 0 rfl rfl one33 rfl) (List.nil_sublist _) ⟨rfl, rfl⟩
  · rintro i _ hi hp1 hp2 ⟨x, hx, rfl⟩
    have hfind := find_some p0.fPending (fun w => decide (w.fAt = p1)) i (by omega) (fun j hj => by have := hp1 j hj; rw [hit] at this; exact this) (by have := hp2; rw [hit] at this; exact this)
    rw [hfind] at hm
    have hx' : m39 p0.fPending[p0.fPending.length - 1 - i]!.fData = some x := by rw [hit] at hx; exact hx
    simp only [hx', Option.bind_some] at hm
    cases hm
    exact fin2 (.inr rfl) rfl (ResIs.cell1 1 rfl rfl one29 rfl) (ResIs.cell1 0 rfl rfl one33 rfl) (List.nil_sublist _) ⟨rfl, rfl⟩
end Go.Proofs.YtfipaakafcjjhaaD
end
