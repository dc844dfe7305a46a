/- disk.Read taken over; known. -/
import Derived.Test.YtgdahkddhecloaaUs
import Derived.Test.YtgdahkddhecloaaBr
import Derived.Test.YtgdahkddhecloaaMan
set_option linter.unusedSectionVars false
set_option linter.unusedVariables false
set_option linter.unusedSimpArgs false
set_option maxRecDepth 100000
namespace Go.Proofs.Ytgdahkddhecloaa
open Go Go.Iv
def toW (w : Write) : YtgdahkddhecloaaD.Write := ⟨w.fAt, w.fData⟩
def toD (d : Disk) : YtgdahkddhecloaaD.Disk := ⟨d.fDurable, d.fPending.map toW, d.fLeft, d.fDown⟩
theorem br_bytes (l : List Int) : Br (.sl 5 l) (.sl 1 (Ab.cN .u8) l) := Br.sl (t := 5) (l := l) (l' := l) rfl fun i _ => BrL.cons (.lit _) .nil
theorem br_rows (l : List (List Int)) : Br (.sl 24 l) (.sl 1 (Ab.cL 1 (Ab.cN .u8)) l) := Br.sl (t := 24) (l := l) (l' := l) rfl fun i _ => BrL.cons (br_bytes _) .nil
theorem mapW (l : List Write) (i : Nat) (hi : i < l.length) : (l.map toW)[i]! = toW l[i]! := by
  rw [getElem!_pos (l.map toW) i (by simpa using hi), getElem!_pos l i hi, List.getElem_map]
theorem lenW (l : List Write) : l.length = (l.map toW).length := by simp
theorem br_writes (l : List Write) : Br (.sl 90 l) (.sl 2 YtgdahkddhecloaaD.Write.cells (l.map toW)) := Br.sl (t := 90) (l := l) (l' := l.map toW) (lenW l) fun i hi => by
  rw [mapW l i hi]
  exact BrL.cons (.lit _) (BrL.cons (br_bytes _) .nil)
theorem br_disk (d : Disk) : Br (.agg (uni.cells 63 d)) (.agg [.sl 1 (Ab.cL 1 (Ab.cN .u8)) (toD d).fDurable, .sl 2 YtgdahkddhecloaaD.Write.cells (toD d).fPending, .i (toD d).fLeft, .b (toD d).fDown]) :=
  Br.agg (BrL.cons (br_rows _) (BrL.cons (br_writes _) (BrL.cons (.lit _) (BrL.cons (.lit _) .nil))))
theorem subs_id {xs : List AV} (h : xs.all (cloB 2) = true) (ρ : Gh) : xs.map (AVq.sub ρ) = xs := by
  have : xs.map (AVq.sub ρ) = xs.map id := List.map_congr_left fun c hc => cloB_sub 2 (List.all_eq_true.1 h c hc)
  rw [this, List.map_id]
def E48 : Type := List Int × Int
def m48 (d : Disk) (n : Int) : Option (List Int × Int) := YtgdahkddhecloaaD.m48 (toD d) n
def o48 (r : List Int × Int) : Out := ⟨.tup [.sl 5 r.1, .n .i64 r.2], [], 0⟩
theorem fn48 (d : Disk) (n : Int) (r : List Int × Int) (h : m48 d n = some r) : FnY Try.prog 48 [.agg (uni.cells 63 d), .n .i64 n] [] 0 (o48 r) :=
  fnY_ofFn (Fn.ofAb (YtgdahkddhecloaaD.m48_ok (toD d) n h) (BrL.cons (br_disk d) (BrL.cons (.lit _) .nil)) (Br.tup (BrL.cons (br_bytes _) (BrL.cons (.lit _) .nil)))) (subs_id (by kernel_rfl)) (fun ρ => cloB_sub 2 (by kernel_rfl))
theorem fnok48 : fnOk Try.prog 48 := ⟨_, Try.func48, by kernel_rfl, by kernel_rfl⟩
noncomputable def e48 (F : Orc) : Orc := orY 48 0 (qy0 (pkC (asGc 63) (pkC (asI .i64) pkN))) (fun g => m48 g.1 g.2.1 : (Disk × Int × Unit) → Option (List Int × Int)) o48 F
theorem e48_ok {F : Orc} (h : OrcG Try.prog F) : OrcG Try.prog (e48 F) := orY_g h fnok48 (qy0_ok (ca := fun g => [.agg (uni.cells 63 g.1), .n .i64 g.2.1]) ((.cons (.g 63) (.cons (.i _) .nil)) : PkN (pkC (asGc 63) (pkC (asI .i64) pkN)) _)) (fun b => by kernel_rfl) (fun g b hb => fn48 g.1 g.2.1 b hb)
theorem t7 : callN Try.prog (e48 or0) (fun f => Nat.beq f 48) 300 60 Bool 7 [] [] 0 (kRes asB) = some true := by kernel_rfl
theorem fy7 : FnY Try.prog 7 [] [] 0 ⟨.b true, [], 0⟩ := fnY_ofFn (fn_run (callN_ok (e48_ok or0_g).ok (e48_ok or0_g).nat 300 60) P0.b rfl (fun d hd => by cases hd) t7).2 (fun _ => rfl) (fun ρ => cloB_sub 2 (by kernel_rfl))
end Go.Proofs.Ytgdahkddhecloaa
