/- abstract.Has and has: what stands at the head of their loops. -/
import Derived.Test.YtaonipoflmbhgaaGreatUh
set_option linter.unusedSectionVars false
set_option linter.unusedVariables false
set_option linter.unusedSimpArgs false
namespace Go.Proofs.YtaonipoflmbhgaaGreat
open Go Go.Iv

/-- is n in a? -/
noncomputable def hasN (a : Num) (n : Int) : Bool := (t30 a n).getD false
theorem t30_eq (a : Num) (n : Int) : t30 a n = some (hasN a n) := by
  obtain ⟨b, h⟩ := t30_some a n
  unfold hasN
  rw [h]; rfl
theorem pk_ni : Pk (pkC (asG 34) (pkC (asI .i64) pkN)) (fun x : Num × Int × Unit => [.agg (uni.cells 34 x.1), .n .i64 x.2.1]) := .cons (.g 34) (.cons (.i .i64) .nil)
theorem fn30 (a : Num) (n : Int) : fnOk Tryz.prog 30 ∧ Iv.Fn Tryz.prog 30 [.agg (uni.cells 34 a), .n .i64 n] [] (fun v s => v = .b (hasN a n) ∧ s = []) :=
  fn_run (callN_ok or0_ok 300 20) P0.b rfl (fun d hd => by
    rcases List.mem_cons.1 hd with rfl | hd
    · exact .agg _ (uniL.ltd 34 a 0)
    · rw [List.mem_singleton] at hd; subst hd; exact .lit _) ((c30 a n).trans (t30_eq a n))
theorem fn66 (a : Num) (n : Int) : fnOk Tryz.prog 66 ∧ Iv.Fn Tryz.prog 66 [.agg (uni.cells 34 a), .n .i64 n] [] (fun v s => v = .b (hasN a n) ∧ s = []) :=
  fn_run (callN_ok or0_ok 300 20) P0.b rfl (fun d hd => by
    rcases List.mem_cons.1 hd with rfl | hd
    · exact .agg _ (uniL.ltd 34 a 0)
    · rw [List.mem_singleton] at hd; subst hd; exact .lit _) ((c66 a n).trans ((t66_eq a n).trans (t30_eq a n)))
noncomputable def hasO : Orc := orC 66 (pkC (asG 34) (pkC (asI .i64) pkN)) (fun g => .b (hasN g.1 g.2.1)) (orC 30 (pkC (asG 34) (pkC (asI .i64) pkN)) (fun g => .b (hasN g.1 g.2.1)) or0)
theorem hasO_ok : OrcOk Tryz.prog hasO := orC_ok (orC_ok or0_ok (fn30 default 0).1 pk_ni (fun _ => rfl) fun g => (fn30 g.1 g.2.1).2) (fn66 default 0).1 pk_ni (fun _ => rfl) fun g => (fn66 g.1 g.2.1).2

abbrev Gm : Type := (Unit × Unit × List Int × Int × Int × Unit) × (Observation × Abstract × Unit)
noncomputable def rd21 : St → Option Gm := stR 2 (slC 2 (asP 0 0) (slC 3 (asP 1 0) (slC 32 (asL 3) (slC 33 (asI .i64) (slC 34 (asI .i64) slN))))) (rsB 1 51 (uniL.parse 51) (rsB 0 36 (uniL.parse 36) rsN))
noncomputable def pat21 : Gm → St := stP 2 (fun x => (2, .ptr 0 0) :: (3, .ptr 1 0) :: (32, .sl 3 x.2.2.1) :: (33, .n .i64 x.2.2.2.1) :: (34, .n .i64 x.2.2.2.2.1) :: []) (fun x => (1, .box 51 (uni.cells 51 x.1)) :: (0, .box 36 (uni.cells 36 x.2.1)) :: [])
theorem rd21_ok (n : Nat) : RdOk n rd21 pat21 := stR_ok (.cons (.p 0 0) (.cons (.p 1 0) (.cons (.l 3) (.cons (.i .i64) (.cons (.i .i64) .nil)))))
  (.box (uniL.parse_ok 51) (fun b ρ => uniL.clo 51 b ρ) (fun b n => uniL.ltd 51 b n) (.box (uniL.parse_ok 36) (fun b ρ => uniL.clo 36 b ρ) (fun b n => uniL.ltd 36 b n) .nil))
end Go.Proofs.YtaonipoflmbhgaaGreat
