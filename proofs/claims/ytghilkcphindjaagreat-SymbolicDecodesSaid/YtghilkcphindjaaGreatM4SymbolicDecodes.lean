/- Merged: Gb, Gm, Ga, Pfew, Pd, Gd, Pv1. -/
import Derived.Test.YtghilkcphindjaaGreatM3SymbolicDecodes
set_option linter.unusedSectionVars false
set_option linter.unusedVariables false
set_option linter.unusedSimpArgs false
set_option linter.defProp false
noncomputable section
set_option maxRecDepth 100000
namespace Go.Proofs.YtghilkcphindjaaGreat
open Go Go.Iv
open Go.IntKind (i64 u64)
def F96 : Orc := or0
theorem F96_ok : OrcG Tryz.prog F96 := or0_g
abbrev E96 : Type := Bool × Measure
def d96 : Td 1 E96 := .c [] [2] (.r 1 1 (ec 2 qb en) (sb 0 177 (lg 177) sn) (fun z => (z.1.1, z.2.1)) (fun x => ((x.1, ()), (x.2, ()))) fun _ => rfl)
def A96 := (lc (qp 0 0) ln)
def B96 := (sb 0 177 (lg 177) sn)
def an96 : An := (.two .no (.two (.rb [] 2) .no))
theorem pu96  : ∀ f ∈ ([] : List Nat), PureF (F96) f := ob_nil
theorem fa96 : FnAn Tryz.prog (F96) 1 300 96 (an96) := fnAn_of (l := [(.skip, (.rb [] 2))]) Tryz.func96 (bodyOf_eq (by kernel_rfl)) (by kernel_rfl) (ob_cons pu96 ob_nil)
def m96 (b0 : Measure) : E96 :=
 let r1 : Bool := bif b0.fDeep then true else decide (1024 < b0.fNodes); (r1, b0)
theorem c96 (b0 : Measure) : callR Tryz.prog (F96) 300 (an96) 96 (A96.c ((), ())) (B96.d (b0, ())) 1 d96.rd = some (m96 b0) := by
 refine Eq.trans (b := (
  match bif b0.fDeep then some (true) else some (decide (1024 < b0.fNodes)) with | none => none | some r1 => some ((r1, b0)) : Option E96)) (by kernel_rfl) ?_
 simp only [m96, cond_some, ite_some]
def e96 : Orc → Orc := eY Tryz.prog 96 1 A96 B96 d96 (fun g => some (m96 g.2.1))
theorem e96_ok {F : Orc} (h : OrcG Tryz.prog F) : OrcG Tryz.prog (e96 F) := eY_ok (hy_of F96_ok fa96 (fun _ => by kernel_rfl) (fun _ => by kernel_rfl) (fun _ => by kernel_rfl) fun g => c96 g.2.1) ⟨_, Tryz.func96, by kernel_rfl, by kernel_rfl⟩ (fun _ => by kernel_rfl) h
abbrev E97 : Type := Measure
def d97 : Td 1 E97 := .c [] [] (.r 1 1 en (sb 0 177 (lg 177) sn) (fun z => z.2.1) (fun x => ((()), (x, ()))) fun _ => rfl)
def A97 := (lc (qp 0 0) (lc (qg 106) (lc (qi .i64) ln)))
def B97 := (sb 0 177 (lg 177) sn)
def x97 (M : GTerm → Int → Measure → Option E97) : Orc → Orc := eY Tryz.prog 97 1 A97 B97 d97 (fun g => M g.1.2.1 g.1.2.2.1 g.2.1)
def H97 (M : GTerm → Int → Measure → Option E97) : Prop := HY Tryz.prog 97 1 A97 B97 d97 (fun g => M g.1.2.1 g.1.2.2.1 g.2.1)
theorem x97_ok {M : GTerm → Int → Measure → Option E97} (hM : H97 M) {F : Orc} (h : OrcG Tryz.prog F) : OrcG Tryz.prog (x97 M F) := eY_ok hM ⟨_, Tryz.func97, by kernel_rfl, by kernel_rfl⟩ (fun _ => by kernel_rfl) h
def F97 (M97 : GTerm → Int → Measure → Option E97) : Orc := (x97 M97 (e96 or0))
theorem F97_ok {M97} (h97 : H97 M97) : OrcG Tryz.prog (F97 M97) := (x97_ok h97 (e96_ok or0_g))
structure L97_0 where
 t2 : Int
 t29 : List GTerm
 t30 : Int
 t31 : Int
 b0 : Measure
def d97_0 : Td 1 L97_0 := .c [] [0, 2, 29, 30, 31] (.r 1 1 (ec 0 (qp 0 0) (ec 2 (qi .i64) (ec 29 (ql 106) (ec 30 (qi .i64) (ec 31 (qi .i64) en))))) (sb 0 177 (lg 177) sn) (fun z => ⟨z.1.2.1, z.1.2.2.1, z.1.2.2.2.1, z.1.2.2.2.2.1, z.2.1⟩) (fun x => (((), x.t2, x.t29, x.t30, x.t31, ()), (x.b0, ()))) fun _ => rfl)
def n97_0 (M97 : GTerm → Int → Measure → Option E97) (p : L97_0) : Option (Option L97_0) :=
 bif decide (p.t31 < p.t30) then if (0 : Int) ≤ p.t31 ∧ p.t31 < (↑p.t29.length : Int) then match M97 (GTerm.mk p.t29[p.t31.toNat]!.fOp p.t29[p.t31.toNat]!.fN p.t29[p.t31.toNat]!.fKids) (i64.wrap (p.t2 + 1)) p.b0 with | none => none | some r1 => some (some (L97_0.mk p.t2 p.t29 p.t30 (i64.wrap (p.t31 + 1)) r1)) else none else some (none)
theorem q97_0 (M97 : GTerm → Int → Measure → Option E97) (p : L97_0) : execA Tryz.prog (F97 M97) Tryz.f97.ntmps 300 (loopAt Tryz.f97 0) .no (Option L97_0) (d97_0.pat p) (kOn d97_0.rd) = n97_0 M97 p := by kernel_rfl
def a97_0 (M97 : GTerm → Int → Measure → Option E97) : L97_0 → Option L97_0 := advG (n97_0 M97)
def an97 (M97 : GTerm → Int → Measure → Option E97) : An := (.two .no (.two .no (.two .no (.two .no (.two .no (d97_0.lp (a97_0 M97) .no))))))
theorem fa97 (M97 : GTerm → Int → Measure → Option E97) : FnAn Tryz.prog (F97 M97) 1 300 97 (an97 M97) := fnAn_of (l := [(loopAt Tryz.f97 0, (d97_0.lp (a97_0 M97) .no))]) Tryz.func97 (bodyOf_eq (by kernel_rfl)) (by kernel_rfl) (ob_cons ⟨d97_0.ok _, advG_ok (q97_0 M97)⟩ ob_nil)
def s97 (M97 : GTerm → Int → Measure → Option E97) (a1 : GTerm) (a2 : Int) (b0 : Measure) : Option E97 :=
 bif b0.fDeep then bif (m96 (Measure.mk (i64.wrap (b0.fNodes + 1)) true)).fst then some ((m96 (Measure.mk (i64.wrap (b0.fNodes + 1)) true)).snd) else match a97_0 M97 (L97_0.mk a2 a1.fKids (↑a1.fKids.length : Int) (0) (m96 (Measure.mk (i64.wrap (b0.fNodes + 1)) true)).snd) with | none => none | some r2 => bif decide (r2.t31 < r2.t30) then if (0 : Int) ≤ r2.t31 ∧ r2.t31 < (↑r2.t29.length : Int) then match M97 (GTerm.mk r2.t29[r2.t31.toNat]!.fOp r2.t29[r2.t31.toNat]!.fN r2.t29[r2.t31.toNat]!.fKids) (i64.wrap (r2.t2 + 1)) r2.b0 with | none => none | some r3 => none else none else some (r2.b0) else bif (m96 (Measure.mk (i64.wrap (b0.fNodes + 1)) (decide (12 < a2)))).fst then some ((m96 (Measure.mk (i64.wrap (b0.fNodes + 1)) (decide (12 < a2)))).snd) else match a97_0 M97 (L97_0.mk a2 a1.fKids (↑a1.fKids.length : Int) (0) (m96 (Measure.mk (i64.wrap (b0.fNodes + 1)) (decide (12 < a2)))).snd) with | none => none | some r4 => bif decide (r4.t31 < r4.t30) then if (0 : Int) ≤ r4.t31 ∧ r4.t31 < (↑r4.t29.length : Int) then match M97 (GTerm.mk r4.t29[r4.t31.toNat]!.fOp r4.t29[r4.t31.toNat]!.fN r4.t29[r4.t31.toNat]!.fKids) (i64.wrap (r4.t2 + 1)) r4.b0 with | none => none | some r5 => none else none else some (r4.b0)
theorem c97 (M97 : GTerm → Int → Measure → Option E97) (a1 : GTerm) (a2 : Int) (b0 : Measure) : callR Tryz.prog (F97 M97) 300 (an97 M97) 97 (A97.c ((), a1, a2, ())) (B97.d (b0, ())) 1 d97.rd = s97 M97 a1 a2 b0 := by kernel_rfl
def mm97 : Nat → (GTerm → Int → Measure → Option E97)
 | 0 => (fun _ _ _ => none)
 | n + 1 => (s97 (mm97 n))
def m97 (n : Nat) : GTerm → Int → Measure → Option E97 := (mm97 n)
theorem mm97_ok : ∀ n, H97 (m97 n)
 | 0 => fun _ _ h => (by cases h)
 | n + 1 => by
  have ih := mm97_ok n
  have i97 := ih
  exact (hy_of (F97_ok i97) (fa97 (m97 n)) (fun _ => by kernel_rfl) (fun _ => by kernel_rfl) (fun _ => by kernel_rfl) fun g => c97 (m97 n) g.1.2.1 g.1.2.2.1 g.2.1)
def r97 : GTerm → Int → Measure → Option E97 := fun a1 a2 b0 => lim (fun n => m97 n a1 a2 b0)
theorem r97_ok : H97 r97 := fun g b h => by
 obtain ⟨n, hn⟩ := lim_some (show lim (fun n => m97 n g.1.2.1 g.1.2.2.1 g.2.1) = some b from h)
 exact (mm97_ok n) g b hn
def e97 (F : Orc) : Orc := x97 r97 F
theorem e97_ok {F : Orc} (h : OrcG Tryz.prog F) : OrcG Tryz.prog (e97 F) := x97_ok r97_ok h
abbrev E95 : Type := Measure
def d95 : Td 1 E95 := .c [] [] (.r 1 1 en (sb 0 177 (lg 177) sn) (fun z => z.2.1) (fun x => ((()), (x, ()))) fun _ => rfl)
def A95 := (lc (qp 0 0) (lc (ql 111) (lc (qi .i64) ln)))
def B95 := (sb 0 177 (lg 177) sn)
def x95 (M : (List GStep) → Int → Measure → Option E95) : Orc → Orc := eY Tryz.prog 95 1 A95 B95 d95 (fun g => M g.1.2.1 g.1.2.2.1 g.2.1)
def H95 (M : (List GStep) → Int → Measure → Option E95) : Prop := HY Tryz.prog 95 1 A95 B95 d95 (fun g => M g.1.2.1 g.1.2.2.1 g.2.1)
theorem x95_ok {M : (List GStep) → Int → Measure → Option E95} (hM : H95 M) {F : Orc} (h : OrcG Tryz.prog F) : OrcG Tryz.prog (x95 M F) := eY_ok hM ⟨_, Tryz.func95, by kernel_rfl, by kernel_rfl⟩ (fun _ => by kernel_rfl) h
def F95 (M95 : (List GStep) → Int → Measure → Option E95) : Orc := (e97 (e96 (x95 M95 or0)))
theorem F95_ok {M95} (h95 : H95 M95) : OrcG Tryz.prog (F95 M95) := (e97_ok (e96_ok (x95_ok h95 or0_g)))
structure L95_0 where
 t2 : Int
 t8 : List GStep
 t9 : Int
 t10 : Int
 b0 : Measure
def d95_0 : Td 1 L95_0 := .c [] [0, 2, 8, 9, 10] (.r 1 1 (ec 0 (qp 0 0) (ec 2 (qi .i64) (ec 8 (ql 111) (ec 9 (qi .i64) (ec 10 (qi .i64) en))))) (sb 0 177 (lg 177) sn) (fun z => ⟨z.1.2.1, z.1.2.2.1, z.1.2.2.2.1, z.1.2.2.2.2.1, z.2.1⟩) (fun x => (((), x.t2, x.t8, x.t9, x.t10, ()), (x.b0, ()))) fun _ => rfl)
def n95_0 (M95 : (List GStep) → Int → Measure → Option E95) (p : L95_0) : Option (Option L95_0) :=
 bif decide (p.t10 < p.t9) then if (0 : Int) ≤ p.t10 ∧ p.t10 < (↑p.t8.length : Int) then bif p.b0.fDeep then bif (m96 (Measure.mk (i64.wrap (p.b0.fNodes + 1)) true)).fst then some (none) else match r97 (GTerm.mk p.t8[p.t10.toNat]!.fTerm.fOp p.t8[p.t10.toNat]!.fTerm.fN p.t8[p.t10.toNat]!.fTerm.fKids) (1) (m96 (Measure.mk (i64.wrap (p.b0.fNodes + 1)) true)).snd with | none => none | some r1 => match M95 p.t8[p.t10.toNat]!.fThen (i64.wrap (p.t2 + 1)) r1 with | none => none | some r2 => match M95 p.t8[p.t10.toNat]!.fElse (i64.wrap (p.t2 + 1)) r2 with | none => none | some r3 => some (some (L95_0.mk p.t2 p.t8 p.t9 (i64.wrap (p.t10 + 1)) r3)) else bif (m96 (Measure.mk (i64.wrap (p.b0.fNodes + 1)) (decide (12 < p.t2)))).fst then some (none) else match r97 (GTerm.mk p.t8[p.t10.toNat]!.fTerm.fOp p.t8[p.t10.toNat]!.fTerm.fN p.t8[p.t10.toNat]!.fTerm.fKids) (1) (m96 (Measure.mk (i64.wrap (p.b0.fNodes + 1)) (decide (12 < p.t2)))).snd with | none => none | some r4 => match M95 p.t8[p.t10.toNat]!.fThen (i64.wrap (p.t2 + 1)) r4 with | none => none | some r5 => match M95 p.t8[p.t10.toNat]!.fElse (i64.wrap (p.t2 + 1)) r5 with | none => none | some r6 => some (some (L95_0.mk p.t2 p.t8 p.t9 (i64.wrap (p.t10 + 1)) r6)) else none else some (none)
theorem q95_0 (M95 : (List GStep) → Int → Measure → Option E95) (p : L95_0) : execA Tryz.prog (F95 M95) Tryz.f95.ntmps 300 (loopAt Tryz.f95 0) .no (Option L95_0) (d95_0.pat p) (kOn d95_0.rd) = n95_0 M95 p := by kernel_rfl
def a95_0 (M95 : (List GStep) → Int → Measure → Option E95) : L95_0 → Option L95_0 := advG (n95_0 M95)
def an95 (M95 : (List GStep) → Int → Measure → Option E95) : An := (.two .no (d95_0.lp (a95_0 M95) .no))
theorem fa95 (M95 : (List GStep) → Int → Measure → Option E95) : FnAn Tryz.prog (F95 M95) 1 300 95 (an95 M95) := fnAn_of (l := [(loopAt Tryz.f95 0, (d95_0.lp (a95_0 M95) .no))]) Tryz.func95 (bodyOf_eq (by kernel_rfl)) (by kernel_rfl) (ob_cons ⟨d95_0.ok _, advG_ok (q95_0 M95)⟩ ob_nil)
def s95 (M95 : (List GStep) → Int → Measure → Option E95) (a1 : List GStep) (a2 : Int) (b0 : Measure) : Option E95 :=
 match a95_0 M95 (L95_0.mk a2 a1 (↑a1.length : Int) (0) b0) with | none => none | some r7 => bif decide (r7.t10 < r7.t9) then if (0 : Int) ≤ r7.t10 ∧ r7.t10 < (↑r7.t8.length : Int) then bif r7.b0.fDeep then bif (m96 (Measure.mk (i64.wrap (r7.b0.fNodes + 1)) true)).fst then some ((m96 (Measure.mk (i64.wrap (r7.b0.fNodes + 1)) true)).snd) else match r97 (GTerm.mk r7.t8[r7.t10.toNat]!.fTerm.fOp r7.t8[r7.t10.toNat]!.fTerm.fN r7.t8[r7.t10.toNat]!.fTerm.fKids) (1) (m96 (Measure.mk (i64.wrap (r7.b0.fNodes + 1)) true)).snd with | none => none | some r8 => match M95 r7.t8[r7.t10.toNat]!.fThen (i64.wrap (r7.t2 + 1)) r8 with | none => none | some r9 => match M95 r7.t8[r7.t10.toNat]!.fElse (i64.wrap (r7.t2 + 1)) r9 with | none => none | some r10 => none else bif (m96 (Measure.mk (i64.wrap (r7.b0.fNodes + 1)) (decide (12 < r7.t2)))).fst then some ((m96 (Measure.mk (i64.wrap (r7.b0.fNodes + 1)) (decide (12 < r7.t2)))).snd) else match r97 (GTerm.mk r7.t8[r7.t10.toNat]!.fTerm.fOp r7.t8[r7.t10.toNat]!.fTerm.fN r7.t8[r7.t10.toNat]!.fTerm.fKids) (1) (m96 (Measure.mk (i64.wrap (r7.b0.fNodes + 1)) (decide (12 < r7.t2)))).snd with | none => none | some r11 => match M95 r7.t8[r7.t10.toNat]!.fThen (i64.wrap (r7.t2 + 1)) r11 with | none => none | some r12 => match M95 r7.t8[r7.t10.toNat]!.fElse (i64.wrap (r7.t2 + 1)) r12 with | none => none | some r13 => none else none else some (r7.b0)
theorem c95 (M95 : (List GStep) → Int → Measure → Option E95) (a1 : List GStep) (a2 : Int) (b0 : Measure) : callR Tryz.prog (F95 M95) 300 (an95 M95) 95 (A95.c ((), a1, a2, ())) (B95.d (b0, ())) 1 d95.rd = s95 M95 a1 a2 b0 := by kernel_rfl
def mm95 : Nat → ((List GStep) → Int → Measure → Option E95)
 | 0 => (fun _ _ _ => none)
 | n + 1 => (s95 (mm95 n))
def m95 (n : Nat) : (List GStep) → Int → Measure → Option E95 := (mm95 n)
theorem mm95_ok : ∀ n, H95 (m95 n)
 | 0 => fun _ _ h => (by cases h)
 | n + 1 => by
  have ih := mm95_ok n
  have i95 := ih
  exact (hy_of (F95_ok i95) (fa95 (m95 n)) (fun _ => by kernel_rfl) (fun _ => by kernel_rfl) (fun _ => by kernel_rfl) fun g => c95 (m95 n) g.1.2.1 g.1.2.2.1 g.2.1)
def r95 : (List GStep) → Int → Measure → Option E95 := fun a1 a2 b0 => lim (fun n => m95 n a1 a2 b0)
theorem r95_ok : H95 r95 := fun g b h => by
 obtain ⟨n, hn⟩ := lim_some (show lim (fun n => m95 n g.1.2.1 g.1.2.2.1 g.2.1) = some b from h)
 exact (mm95_ok n) g b hn
def e95 (F : Orc) : Orc := x95 r95 F
theorem e95_ok {F : Orc} (h : OrcG Tryz.prog F) : OrcG Tryz.prog (e95 F) := x95_ok r95_ok h
def F162 : Orc := or0
theorem F162_ok : OrcG Tryz.prog F162 := or0_g
abbrev E162 : Type := Bool
def d162 : Td 0 E162 := .c [] [3] (.r 0 0 (ec 3 qb en) sn (fun z => z.1.1) (fun x => ((x, ()), (()))) fun _ => rfl)
def A162 := (lc (qg 108) (lc (qr (lg 108)) ln))
def an162 : An := .no
theorem fa162 : FnAn Tryz.prog (F162) 0 300 162 (an162) := fnAn_of (l := []) Tryz.func162 (bodyOf_eq (by kernel_rfl)) (by kernel_rfl) ob_nil
def m162 (a0 : GVar) (c0 : GVar) : E162 :=
 a0.fName.toList == c0.fName.toList
theorem c162 (a0 : GVar) (c0 : GVar) : callR Tryz.prog (F162) 300 (an162) 162 (A162.c (a0, c0, ())) [] 0 d162.rd = some (m162 a0 c0) := by kernel_rfl
def e162 : Orc → Orc := eL Tryz.prog 162 false A162 d162 (fun g => some (m162 g.1 g.2.1))
theorem e162_ok {F : Orc} (h : OrcG Tryz.prog F) : OrcG Tryz.prog (e162 F) := eL_ok (sc := scU) scU_ok (hl_of F162_ok fa162 (fun _ => by kernel_rfl) (fun _ => by kernel_rfl) fun g => c162 g.1 g.2.1) ⟨_, Tryz.func162, by kernel_rfl, by kernel_rfl⟩ (fun _ => by kernel_rfl) (fun _ => by kernel_rfl) h
def F163 : Orc := or0
theorem F163_ok : OrcG Tryz.prog F163 := or0_g
structure L163_0 where
 t0 : ByteArray
 t14 : Int
 t15 : Int
def d163_0 : Td 0 L163_0 := .c [] [0, 14, 15] (.r 0 0 (ec 0 qs (ec 14 (qi .i64) (ec 15 (qi .i64) en))) sn (fun z => ⟨z.1.1, z.1.2.1, z.1.2.2.1⟩) (fun x => ((x.t0, x.t14, x.t15, ()), (()))) fun _ => rfl)
def n163_0 (p : L163_0) : Option (Option L163_0) :=
 bif decide (p.t15 < p.t14) then if (0 : Int) ≤ p.t15 ∧ p.t15 < (↑p.t0.size : Int) then match bif decide (97 ≤ byteAt p.t0 p.t15.toNat) then some (decide (byteAt p.t0 p.t15.toNat ≤ 122)) else some (false) with | none => none | some r1 => match bif bif r1 then false else true then bif decide (p.t15 = 0) then some (true) else bif decide (byteAt p.t0 p.t15.toNat < 48) then bif bif decide (byteAt p.t0 p.t15.toNat = 46) then false else true then some (bif decide (byteAt p.t0 p.t15.toNat = 95) then false else true) else some (false) else bif decide (57 < byteAt p.t0 p.t15.toNat) then bif bif decide (byteAt p.t0 p.t15.toNat = 46) then false else true then some (bif decide (byteAt p.t0 p.t15.toNat = 95) then false else true) else some (false) else some (false) else some (false) with | none => none | some r2 => bif r2 then some (none) else some (some (L163_0.mk p.t0 p.t14 (i64.wrap (p.t15 + 1)))) else none else some (none)
def g163_0 : An := (.two .no (.two .no (.two (.two .no (.two .no (.two (.rb [] 5) (.two (.rb [] 48) .no)))) .no)))
theorem q163_0 (p : L163_0) : execA Tryz.prog (F163) Tryz.f163.ntmps 300 (loopAt Tryz.f163 0) g163_0 (Option L163_0) (d163_0.pat p) (kOn d163_0.rd) = n163_0 p := by kernel_rfl
def a163_0 : L163_0 → Option L163_0 := advG (n163_0)
abbrev E163 : Type := Bool
def d163 : Td 0 E163 := .c [] [2] (.r 0 0 (ec 2 qb en) sn (fun z => z.1.1) (fun x => ((x, ()), (()))) fun _ => rfl)
def A163 := (lc qs ln)
def an163 : An := (.two .no (.two (.two (.rb [] 12) .no) (.two (.two .no (d163_0.lp a163_0 g163_0)) .no)))
theorem pu163  : ∀ f ∈ ([] : List Nat), PureF (F163) f := ob_nil
theorem fa163 : FnAn Tryz.prog (F163) 0 300 163 (an163) := fnAn_of (l := [(.skip, (.rb [] 12)), (loopAt Tryz.f163 0, (d163_0.lp a163_0 g163_0)), (.skip, (.rb [] 5)), (.skip, (.rb [] 48))]) Tryz.func163 (bodyOf_eq (by kernel_rfl)) (by kernel_rfl) (ob_cons pu163 (ob_cons ⟨d163_0.ok _, advG_ok (q163_0)⟩ (ob_cons pu163 (ob_cons pu163 ob_nil))))
def m163 (a0 : ByteArray) : Option E163 :=
 match bif a0.toList == (ByteArray.mk (Array.mk [])).toList then some (true) else some (decide (40 < (↑a0.size : Int))) with | none => none | some r3 => bif r3 then some (false) else match a163_0 (L163_0.mk a0 (↑a0.size : Int) (0)) with | none => none | some r4 => bif decide (r4.t15 < r4.t14) then if (0 : Int) ≤ r4.t15 ∧ r4.t15 < (↑r4.t0.size : Int) then match bif decide (97 ≤ byteAt r4.t0 r4.t15.toNat) then some (decide (byteAt r4.t0 r4.t15.toNat ≤ 122)) else some (false) with | none => none | some r5 => match bif bif r5 then false else true then bif decide (r4.t15 = 0) then some (true) else bif decide (byteAt r4.t0 r4.t15.toNat < 48) then bif bif decide (byteAt r4.t0 r4.t15.toNat = 46) then false else true then some (bif decide (byteAt r4.t0 r4.t15.toNat = 95) then false else true) else some (false) else bif decide (57 < byteAt r4.t0 r4.t15.toNat) then bif bif decide (byteAt r4.t0 r4.t15.toNat = 46) then false else true then some (bif decide (byteAt r4.t0 r4.t15.toNat = 95) then false else true) else some (false) else some (false) else some (false) with | none => none | some r6 => bif r6 then some (false) else none else none else some (true)
theorem c163 (a0 : ByteArray) : callR Tryz.prog (F163) 300 (an163) 163 (A163.c (a0, ())) [] 0 d163.rd = m163 a0 := by kernel_rfl
def e163 : Orc → Orc := eL Tryz.prog 163 false A163 d163 (fun g => m163 g.1)
theorem e163_ok {F : Orc} (h : OrcG Tryz.prog F) : OrcG Tryz.prog (e163 F) := eL_ok (sc := scU) scU_ok (hl_of F163_ok fa163 (fun _ => by kernel_rfl) (fun _ => by kernel_rfl) fun g => c163 g.1) ⟨_, Tryz.func163, by kernel_rfl, by kernel_rfl⟩ (fun _ => by kernel_rfl) (fun _ => by kernel_rfl) h
def F225 : Orc := (e162 or0)
theorem F225_ok : OrcG Tryz.prog F225 := (e162_ok or0_g)
structure L225_0 where
 t0 : List GVar
 t1_0_0 : ByteArray
 t1_0_1 : Int
 t1_0_2 : Int
 t1_0_3 : Int
 t1_0_4 : Int
 t7 : Int
 t8 : Int
def d225_0 : Td 0 L225_0 := .c [] [0, 1, 7, 8] (.r 0 0 (ec 0 (ql 108) (ec 1 (qf 162 (lc (qr (lc qs (lc (qi .i64) (lc (qi .i64) (lc (qi .i64) (lc (qi .i64) ln)))))) ln)) (ec 7 (qi .i64) (ec 8 (qi .i64) en)))) sn (fun z => ⟨z.1.1, z.1.2.1.1.1, z.1.2.1.1.2.1, z.1.2.1.1.2.2.1, z.1.2.1.1.2.2.2.1, z.1.2.1.1.2.2.2.2.1, z.1.2.2.1, z.1.2.2.2.1⟩) (fun x => ((x.t0, ((x.t1_0_0, x.t1_0_1, x.t1_0_2, x.t1_0_3, x.t1_0_4, ()), ()), x.t7, x.t8, ()), (()))) fun _ => rfl)
def n225_0 (p : L225_0) : Option (Option L225_0) :=
 bif decide (p.t8 < p.t7) then if (0 : Int) ≤ p.t8 ∧ p.t8 < (↑p.t0.length : Int) then bif m162 p.t0[p.t8.toNat]! (GVar.mk p.t1_0_0 p.t1_0_1 p.t1_0_2 p.t1_0_3 p.t1_0_4) then some (none) else some (some (L225_0.mk p.t0 p.t1_0_0 p.t1_0_1 p.t1_0_2 p.t1_0_3 p.t1_0_4 p.t7 (i64.wrap (p.t8 + 1)))) else none else some (none)
theorem q225_0 (p : L225_0) : execA Tryz.prog (F225) Tryz.f225.ntmps 300 (loopAt Tryz.f225 0) .no (Option L225_0) (d225_0.pat p) (kOn d225_0.rd) = n225_0 p := by kernel_rfl
def a225_0 : L225_0 → Option L225_0 := advG (n225_0)
abbrev E225 : Type := Int
def d225 : Td 0 E225 := .c [] [4] (.r 0 0 (ec 4 (qi .i64) en) sn (fun z => z.1.1) (fun x => ((x, ()), (()))) fun _ => rfl)
def A225 := (lc (ql 108) (lc (qf 162 (lc (qr (lg 108)) ln)) ln))
def an225 : An := (.two .no (.two (.two .no (d225_0.lp a225_0 .no)) .no))
theorem fa225 : FnAn Tryz.prog (F225) 0 300 225 (an225) := fnAn_of (l := [(loopAt Tryz.f225 0, (d225_0.lp a225_0 .no))]) Tryz.func225 (bodyOf_eq (by kernel_rfl)) (by kernel_rfl) (ob_cons ⟨d225_0.ok _, advG_ok (q225_0)⟩ ob_nil)
def m225 (a0 : List GVar) (a1_0 : GVar) : Option E225 :=
 match a225_0 (L225_0.mk a0 a1_0.fName a1_0.fKind a1_0.fLow a1_0.fHigh a1_0.fInit (↑a0.length : Int) (0)) with | none => none | some r1 => bif decide (r1.t8 < r1.t7) then if (0 : Int) ≤ r1.t8 ∧ r1.t8 < (↑r1.t0.length : Int) then bif m162 r1.t0[r1.t8.toNat]! (GVar.mk r1.t1_0_0 r1.t1_0_1 r1.t1_0_2 r1.t1_0_3 r1.t1_0_4) then some (r1.t8) else none else none else some (-1)
theorem c225 (a0 : List GVar) (a1_0 : GVar) : callR Tryz.prog (F225) 300 (an225) 225 (A225.c (a0, (a1_0, ()), ())) [] 0 d225.rd = m225 a0 a1_0 := by kernel_rfl
def e225 : Orc → Orc := eL Tryz.prog 225 true A225 d225 (fun g => m225 g.1 g.2.1.1)
theorem e225_ok {F : Orc} (h : OrcG Tryz.prog F) : OrcG Tryz.prog (e225 F) := eL_ok (sc := scU) scU_ok (hl_of F225_ok fa225 (fun _ => by kernel_rfl) (fun _ => by kernel_rfl) fun g => c225 g.1 g.2.1.1) ⟨_, Tryz.func225, by kernel_rfl, by kernel_rfl⟩ (fun _ => by kernel_rfl) (fun _ => by kernel_rfl) h
def F164 : Orc := (e225 (e162 or0))
theorem F164_ok : OrcG Tryz.prog F164 := (e225_ok (e162_ok or0_g))
abbrev E164 : Type := Bool
def d164 : Td 0 E164 := .c [] [4] (.r 0 0 (ec 4 qb en) sn (fun z => z.1.1) (fun x => ((x, ()), (()))) fun _ => rfl)
def A164 := (lc (ql 108) (lc (qf 162 (lc (qr (lg 108)) ln)) ln))
def an164 : An := .no
theorem fa164 : FnAn Tryz.prog (F164) 0 300 164 (an164) := fnAn_of (l := []) Tryz.func164 (bodyOf_eq (by kernel_rfl)) (by kernel_rfl) ob_nil
def m164 (a0 : List GVar) (a1_0 : GVar) : Option E164 :=
 match m225 a0 a1_0 with | none => none | some r1 => some (decide (0 ≤ r1))
theorem c164 (a0 : List GVar) (a1_0 : GVar) : callR Tryz.prog (F164) 300 (an164) 164 (A164.c (a0, (a1_0, ()), ())) [] 0 d164.rd = m164 a0 a1_0 := by kernel_rfl
def e164 : Orc → Orc := eL Tryz.prog 164 true A164 d164 (fun g => m164 g.1 g.2.1.1)
theorem e164_ok {F : Orc} (h : OrcG Tryz.prog F) : OrcG Tryz.prog (e164 F) := eL_ok (sc := scU) scU_ok (hl_of F164_ok fa164 (fun _ => by kernel_rfl) (fun _ => by kernel_rfl) fun g => c164 g.1 g.2.1.1) ⟨_, Tryz.func164, by kernel_rfl, by kernel_rfl⟩ (fun _ => by kernel_rfl) (fun _ => by kernel_rfl) h
def F165 : Orc := or0
theorem F165_ok : OrcG Tryz.prog F165 := or0_g
abbrev E165 : Type := Bool
def d165 : Td 0 E165 := .c [] [4] (.r 0 0 (ec 4 qb en) sn (fun z => z.1.1) (fun x => ((x, ()), (()))) fun _ => rfl)
def A165 := (lc (qi .i64) (lc (qi .i64) ln))
def an165 : An := (.two .no (.two (.rb [] 4) .no))
theorem pu165  : ∀ f ∈ ([] : List Nat), PureF (F165) f := ob_nil
theorem fa165 : FnAn Tryz.prog (F165) 0 300 165 (an165) := fnAn_of (l := [(.skip, (.rb [] 4))]) Tryz.func165 (bodyOf_eq (by kernel_rfl)) (by kernel_rfl) (ob_cons pu165 ob_nil)
def m165 (a0 : Int) (a1 : Int) : E165 :=
 let r1 : Bool := bif decide (a0 ≤ a1) then bif decide (-1048576 ≤ a0) then decide (a1 ≤ 1048576) else false else false; r1
theorem c165 (a0 : Int) (a1 : Int) : callR Tryz.prog (F165) 300 (an165) 165 (A165.c (a0, a1, ())) [] 0 d165.rd = some (m165 a0 a1) := by
 refine Eq.trans (b := (
  match bif decide (a0 ≤ a1) then bif decide (-1048576 ≤ a0) then some (decide (a1 ≤ 1048576)) else some (false) else some (false) with | none => none | some r1 => some (r1) : Option E165)) (by kernel_rfl) ?_
 simp only [m165, cond_some, ite_some]
def e165 : Orc → Orc := eL Tryz.prog 165 false A165 d165 (fun g => some (m165 g.1 g.2.1))
theorem e165_ok {F : Orc} (h : OrcG Tryz.prog F) : OrcG Tryz.prog (e165 F) := eL_ok (sc := scU) scU_ok (hl_of F165_ok fa165 (fun _ => by kernel_rfl) (fun _ => by kernel_rfl) fun g => c165 g.1 g.2.1) ⟨_, Tryz.func165, by kernel_rfl, by kernel_rfl⟩ (fun _ => by kernel_rfl) (fun _ => by kernel_rfl) h
def F277 : Orc := or0
theorem F277_ok : OrcG Tryz.prog F277 := or0_g
abbrev E277 : Type := Int
def d277 : Td 0 E277 := .c [] [2] (.r 0 0 (ec 2 (qi .i64) en) sn (fun z => z.1.1) (fun x => ((x, ()), (()))) fun _ => rfl)
def A277 := (lc (qg 108) ln)
def an277 : An := .no
theorem fa277 : FnAn Tryz.prog (F277) 0 300 277 (an277) := fnAn_of (l := []) Tryz.func277 (bodyOf_eq (by kernel_rfl)) (by kernel_rfl) ob_nil
def m277 (a0 : GVar) : E277 :=
 i64.wrap (i64.wrap (a0.fHigh - a0.fLow) + 1)
theorem c277 (a0 : GVar) : callR Tryz.prog (F277) 300 (an277) 277 (A277.c (a0, ())) [] 0 d277.rd = some (m277 a0) := by kernel_rfl
def e277 : Orc → Orc := eL Tryz.prog 277 false A277 d277 (fun g => some (m277 g.1))
theorem e277_ok {F : Orc} (h : OrcG Tryz.prog F) : OrcG Tryz.prog (e277 F) := eL_ok (sc := scU) scU_ok (hl_of F277_ok fa277 (fun _ => by kernel_rfl) (fun _ => by kernel_rfl) fun g => c277 g.1) ⟨_, Tryz.func277, by kernel_rfl, by kernel_rfl⟩ (fun _ => by kernel_rfl) (fun _ => by kernel_rfl) h
def F226 : Orc := (e277 or0)
theorem F226_ok : OrcG Tryz.prog F226 := (e277_ok or0_g)
structure L226_1 where
 t7 : List GVar
 t10 : Int
 t49 : List GVar
 t50 : Int
 t51 : Int
def d226_1 : Td 0 L226_1 := .c [] [7, 10, 49, 50, 51] (.r 0 1 (ec 7 (qo 0) (ec 10 (qi .i64) (ec 49 (qo 0) (ec 50 (qi .i64) (ec 51 (qi .i64) en))))) (sr 0 108 sn) (fun z => ⟨z.2.1, z.1.2.1, z.2.1, z.1.2.2.2.1, z.1.2.2.2.2.1⟩) (fun x => (((), x.t10, (), x.t50, x.t51, ()), (x.t49, ()))) fun _ => rfl)
def n226_1 (p : L226_1) : Option (Option L226_1) :=
 bif decide (p.t51 < p.t50) then if (0 : Int) ≤ p.t51 ∧ p.t51 < (↑p.t49.length : Int) then if 108 = 108 ∧ p.t51.toNat < p.t49.length then bif decide (4096 < i64.wrap (p.t10 * m277 p.t49[p.t51.toNat]!)) then some (none) else some (some (L226_1.mk p.t49 (i64.wrap (p.t10 * m277 p.t49[p.t51.toNat]!)) p.t49 p.t50 (i64.wrap (p.t51 + 1)))) else none else none else some (none)
theorem q226_1 (p : L226_1) : execA Tryz.prog (F226) Tryz.f226.ntmps 300 (loopAt Tryz.f226 1) .no (Option L226_1) (d226_1.pat p) (kOn d226_1.rd) = n226_1 p := by kernel_rfl
def a226_1 : L226_1 → Option L226_1 := advG (n226_1)
structure L226_0 where
 t1 : Int
 t7 : List GVar
 t19 : List GVar
 t20 : Int
 t21 : Int
def d226_0 : Td 0 L226_0 := .c [] [1, 7, 19, 20, 21] (.t (TurnOk.s 7 [] 108) (.c [] [1, 7, 19, 20, 21] (.r 0 1 (ec 1 (qi .i64) (ec 7 (qo 0) (ec 19 (ql 108) (ec 20 (qi .i64) (ec 21 (qi .i64) en))))) (sr 0 108 sn) (fun z => ⟨z.1.1, z.2.1, z.1.2.2.1, z.1.2.2.2.1, z.1.2.2.2.2.1⟩) (fun x => ((x.t1, (), x.t19, x.t20, x.t21, ()), (x.t7, ()))) fun _ => rfl)))
def n226_0 (p : L226_0) : Option (Option L226_0) :=
 bif decide (p.t21 < p.t20) then if (0 : Int) ≤ p.t21 ∧ p.t21 < (↑p.t19.length : Int) then bif bif decide (p.t19[p.t21.toNat]!.fKind = p.t1) then false else true then some (some (L226_0.mk p.t1 p.t7 p.t19 p.t20 (i64.wrap (p.t21 + 1)))) else match bif decide (p.t19[p.t21.toNat]!.fHigh < p.t19[p.t21.toNat]!.fLow) then some (true) else bif decide (p.t19[p.t21.toNat]!.fLow < -1048576) then some (true) else some (decide (1048576 < p.t19[p.t21.toNat]!.fHigh)) with | none => none | some r1 => bif r1 then some (none) else if (p.t7 ++ [p.t19[p.t21.toNat]!]).length ≤ 1073741824 then some (some (L226_0.mk p.t1 (p.t7 ++ [p.t19[p.t21.toNat]!]) p.t19 p.t20 (i64.wrap (p.t21 + 1)))) else none else none else some (none)
def g226_0 : An := (.two .no (.two .no (.two (.two .no (.two .no (.two (.two (.rb [] 43) .no) .no))) .no)))
theorem q226_0 (p : L226_0) : execA Tryz.prog (F226) Tryz.f226.ntmps 300 (loopAt Tryz.f226 0) g226_0 (Option L226_0) (d226_0.pat p) (kOn d226_0.rd) = n226_0 p := by kernel_rfl
def a226_0 : L226_0 → Option L226_0 := advG (n226_0)
abbrev E226 : Type := (List GVar) × Int × Int
def d226 : Td 0 E226 := .c [] [4, 5, 6] (.t (TurnOk.s 4 [] 108) (.c [] [4, 5, 6] (.r 0 1 (ec 4 (qo 0) (ec 5 (qi .i64) (ec 6 (qi .i64) en))) (sr 0 108 sn) (fun z => (z.2.1, z.1.2.1, z.1.2.2.1)) (fun x => (((), x.2.1, x.2.2, ()), (x.1, ()))) fun _ => rfl)))
def A226 := (lc (ql 108) (lc (qi .i64) ln))
def an226 : An := (.two .no (.two .no (.two .no (.two (.two .no (d226_0.lp a226_0 g226_0)) (.two .no (.two (.two .no (d226_1.lp a226_1 .no)) .no))))))
theorem pu226  : ∀ f ∈ ([] : List Nat), PureF (F226) f := ob_nil
theorem fa226 : FnAn Tryz.prog (F226) 0 300 226 (an226) := fnAn_of (l := [(loopAt Tryz.f226 0, (d226_0.lp a226_0 g226_0)), (.skip, (.rb [] 43)), (loopAt Tryz.f226 1, (d226_1.lp a226_1 .no))]) Tryz.func226 (bodyOf_eq (by kernel_rfl)) (by kernel_rfl) (ob_cons ⟨d226_0.ok _, advG_ok (q226_0)⟩ (ob_cons pu226 (ob_cons ⟨d226_1.ok _, advG_ok (q226_1)⟩ ob_nil)))
def m226 (a0 : List GVar) (a1 : Int) : Option E226 :=
 bif decide (a1 = 0) then match a226_0 (L226_0.mk a1 [] a0 (↑a0.length : Int) (0)) with | none => none | some r2 => bif decide (r2.t21 < r2.t20) then if (0 : Int) ≤ r2.t21 ∧ r2.t21 < (↑r2.t19.length : Int) then bif bif decide (r2.t19[r2.t21.toNat]!.fKind = r2.t1) then false else true then none else match bif decide (r2.t19[r2.t21.toNat]!.fHigh < r2.t19[r2.t21.toNat]!.fLow) then some (true) else bif decide (r2.t19[r2.t21.toNat]!.fLow < -1048576) then some (true) else some (decide (1048576 < r2.t19[r2.t21.toNat]!.fHigh)) with | none => none | some r3 => bif r3 then some (([], 0, 3)) else if (r2.t7 ++ [r2.t19[r2.t21.toNat]!]).length ≤ 1073741824 then none else none else none else match a226_1 (L226_1.mk r2.t7 (1) r2.t7 (↑r2.t7.length : Int) (0)) with | none => none | some r4 => bif decide (r4.t51 < r4.t50) then if (0 : Int) ≤ r4.t51 ∧ r4.t51 < (↑r4.t49.length : Int) then if 108 = 108 ∧ r4.t51.toNat < r4.t49.length then bif decide (4096 < i64.wrap (r4.t10 * m277 r4.t49[r4.t51.toNat]!)) then some (([], 0, 4)) else none else none else none else some ((r4.t49, r4.t10, 0)) else bif decide (a1 = 1) then match a226_0 (L226_0.mk a1 [] a0 (↑a0.length : Int) (0)) with | none => none | some r5 => bif decide (r5.t21 < r5.t20) then if (0 : Int) ≤ r5.t21 ∧ r5.t21 < (↑r5.t19.length : Int) then bif bif decide (r5.t19[r5.t21.toNat]!.fKind = r5.t1) then false else true then none else match bif decide (r5.t19[r5.t21.toNat]!.fHigh < r5.t19[r5.t21.toNat]!.fLow) then some (true) else bif decide (r5.t19[r5.t21.toNat]!.fLow < -1048576) then some (true) else some (decide (1048576 < r5.t19[r5.t21.toNat]!.fHigh)) with | none => none | some r6 => bif r6 then some (([], 0, 3)) else if (r5.t7 ++ [r5.t19[r5.t21.toNat]!]).length ≤ 1073741824 then none else none else none else match a226_1 (L226_1.mk r5.t7 (1) r5.t7 (↑r5.t7.length : Int) (0)) with | none => none | some r7 => bif decide (r7.t51 < r7.t50) then if (0 : Int) ≤ r7.t51 ∧ r7.t51 < (↑r7.t49.length : Int) then if 108 = 108 ∧ r7.t51.toNat < r7.t49.length then bif decide (4096 < i64.wrap (r7.t10 * m277 r7.t49[r7.t51.toNat]!)) then some (([], 0, 4)) else none else none else none else some ((r7.t49, r7.t10, 0)) else bif decide (a1 = 2) then match a226_0 (L226_0.mk a1 [] a0 (↑a0.length : Int) (0)) with | none => none | some r8 => bif decide (r8.t21 < r8.t20) then if (0 : Int) ≤ r8.t21 ∧ r8.t21 < (↑r8.t19.length : Int) then bif bif decide (r8.t19[r8.t21.toNat]!.fKind = r8.t1) then false else true then none else match bif decide (r8.t19[r8.t21.toNat]!.fHigh < r8.t19[r8.t21.toNat]!.fLow) then some (true) else bif decide (r8.t19[r8.t21.toNat]!.fLow < -1048576) then some (true) else some (decide (1048576 < r8.t19[r8.t21.toNat]!.fHigh)) with | none => none | some r9 => bif r9 then some (([], 0, 3)) else if (r8.t7 ++ [r8.t19[r8.t21.toNat]!]).length ≤ 1073741824 then none else none else none else match a226_1 (L226_1.mk r8.t7 (1) r8.t7 (↑r8.t7.length : Int) (0)) with | none => none | some r10 => bif decide (r10.t51 < r10.t50) then if (0 : Int) ≤ r10.t51 ∧ r10.t51 < (↑r10.t49.length : Int) then if 108 = 108 ∧ r10.t51.toNat < r10.t49.length then bif decide (4096 < i64.wrap (r10.t10 * m277 r10.t49[r10.t51.toNat]!)) then some (([], 0, 4)) else none else none else none else some ((r10.t49, r10.t10, 0)) else bif decide (a1 = 3) then match a226_0 (L226_0.mk a1 [] a0 (↑a0.length : Int) (0)) with | none => none | some r11 => bif decide (r11.t21 < r11.t20) then if (0 : Int) ≤ r11.t21 ∧ r11.t21 < (↑r11.t19.length : Int) then bif bif decide (r11.t19[r11.t21.toNat]!.fKind = r11.t1) then false else true then none else match bif decide (r11.t19[r11.t21.toNat]!.fHigh < r11.t19[r11.t21.toNat]!.fLow) then some (true) else bif decide (r11.t19[r11.t21.toNat]!.fLow < -1048576) then some (true) else some (decide (1048576 < r11.t19[r11.t21.toNat]!.fHigh)) with | none => none | some r12 => bif r12 then some (([], 0, 3)) else if (r11.t7 ++ [r11.t19[r11.t21.toNat]!]).length ≤ 1073741824 then none else none else none else match a226_1 (L226_1.mk r11.t7 (1) r11.t7 (↑r11.t7.length : Int) (0)) with | none => none | some r13 => bif decide (r13.t51 < r13.t50) then if (0 : Int) ≤ r13.t51 ∧ r13.t51 < (↑r13.t49.length : Int) then if 108 = 108 ∧ r13.t51.toNat < r13.t49.length then bif decide (4096 < i64.wrap (r13.t10 * m277 r13.t49[r13.t51.toNat]!)) then some (([], 0, 4)) else none else none else none else some ((r13.t49, r13.t10, 0)) else some (([], 0, 1))
theorem c226 (a0 : List GVar) (a1 : Int) : callR Tryz.prog (F226) 300 (an226) 226 (A226.c (a0, a1, ())) [] 0 d226.rd = m226 a0 a1 := by kernel_rfl
def e226 : Orc → Orc := eL Tryz.prog 226 false A226 d226 (fun g => m226 g.1 g.2.1)
theorem e226_ok {F : Orc} (h : OrcG Tryz.prog F) : OrcG Tryz.prog (e226 F) := eL_ok (sc := scU) scU_ok (hl_of F226_ok fa226 (fun _ => by kernel_rfl) (fun _ => by kernel_rfl) fun g => c226 g.1 g.2.1) ⟨_, Tryz.func226, by kernel_rfl, by kernel_rfl⟩ (fun _ => by kernel_rfl) (fun _ => by kernel_rfl) h
def F166 : Orc := (e226 or0)
theorem F166_ok : OrcG Tryz.prog F166 := (e226_ok or0_g)
abbrev E166 : Type := Int × Int
def d166 : Td 0 E166 := .c [] [4, 5] (.r 0 0 (ec 4 (qi .i64) (ec 5 (qi .i64) en)) sn (fun z => (z.1.1, z.1.2.1)) (fun x => ((x.1, x.2, ()), (()))) fun _ => rfl)
def A166 := (lc (ql 108) (lc (qi .i64) ln))
def an166 : An := .no
theorem fa166 : FnAn Tryz.prog (F166) 0 300 166 (an166) := fnAn_of (l := []) Tryz.func166 (bodyOf_eq (by kernel_rfl)) (by kernel_rfl) ob_nil
def m166 (a0 : List GVar) (a1 : Int) : Option E166 :=
 match m226 a0 a1 with | none => none | some r1 => some (r1.snd)
theorem c166 (a0 : List GVar) (a1 : Int) : callR Tryz.prog (F166) 300 (an166) 166 (A166.c (a0, a1, ())) [] 0 d166.rd = m166 a0 a1 := by kernel_rfl
def e166 : Orc → Orc := eL Tryz.prog 166 false A166 d166 (fun g => m166 g.1 g.2.1)
theorem e166_ok {F : Orc} (h : OrcG Tryz.prog F) : OrcG Tryz.prog (e166 F) := eL_ok (sc := scU) scU_ok (hl_of F166_ok fa166 (fun _ => by kernel_rfl) (fun _ => by kernel_rfl) fun g => c166 g.1 g.2.1) ⟨_, Tryz.func166, by kernel_rfl, by kernel_rfl⟩ (fun _ => by kernel_rfl) (fun _ => by kernel_rfl) h
def F98 : Orc := (e166 (e165 (e164 (e163 or0))))
theorem F98_ok : OrcG Tryz.prog F98 := (e166_ok (e165_ok (e164_ok (e163_ok or0_g))))
structure L98_1 where
 t0 : List GVar
 t71 : List Int
 t72 : Int
 t73 : Int
def d98_1 : Td 0 L98_1 := .c [] [0, 71, 72, 73] (.r 0 1 (ec 0 (ql 108) (ec 71 (qo 0) (ec 72 (qi .i64) (ec 73 (qi .i64) en)))) (sr 0 65 sn) (fun z => ⟨z.1.1, z.2.1, z.1.2.2.1, z.1.2.2.2.1⟩) (fun x => ((x.t0, (), x.t72, x.t73, ()), (x.t71, ()))) fun _ => rfl)
def n98_1 (p : L98_1) : Option (Option L98_1) :=
 bif decide (p.t73 < p.t72) then if (0 : Int) ≤ p.t73 ∧ p.t73 < (↑p.t71.length : Int) then if 65 = 65 ∧ p.t73.toNat < p.t71.length then match m166 p.t0 p.t71[p.t73.toNat]! with | none => none | some r6 => match bif bif decide (r6.snd = 0) then false else true then some (true) else bif decide (p.t71[p.t73.toNat]! = 3) then some (decide (256 < r6.fst)) else some (false) with | none => none | some r7 => bif r7 then some (none) else some (some (L98_1.mk p.t0 p.t71 p.t72 (i64.wrap (p.t73 + 1)))) else none else none else some (none)
def g98_1 : An := (.two .no (.two .no (.two (.two .no (.two .no (.two (.rb [] 92) .no))) .no)))
theorem q98_1 (p : L98_1) : execA Tryz.prog (F98) Tryz.f98.ntmps 300 (loopAt Tryz.f98 1) g98_1 (Option L98_1) (d98_1.pat p) (kOn d98_1.rd) = n98_1 p := by kernel_rfl
def a98_1 : L98_1 → Option L98_1 := advG (n98_1)
structure L98_0 where
 t0 : List GVar
 t10 : List GVar
 t11 : Int
 t12 : Int
def d98_0 : Td 0 L98_0 := .c [] [0, 10, 11, 12] (.r 0 0 (ec 0 (ql 108) (ec 10 (ql 108) (ec 11 (qi .i64) (ec 12 (qi .i64) en)))) sn (fun z => ⟨z.1.1, z.1.2.1, z.1.2.2.1, z.1.2.2.2.1⟩) (fun x => ((x.t0, x.t10, x.t11, x.t12, ()), (()))) fun _ => rfl)
def n98_0 (p : L98_0) : Option (Option L98_0) :=
 bif decide (p.t12 < p.t11) then if (0 : Int) ≤ p.t12 ∧ p.t12 < (↑p.t10.length : Int) then match m163 p.t10[p.t12.toNat]!.fName with | none => none | some r1 => bif bif r1 then false else true then some (none) else if (0 : Int) ≤ p.t12 ∧ p.t12 ≤ (↑p.t0.length : Int) then match m164 (List.take p.t12.toNat p.t0) p.t10[p.t12.toNat]! with | none => none | some r2 => bif r2 then some (none) else match bif decide (p.t10[p.t12.toNat]!.fKind < 0) then some (true) else some (decide (3 < p.t10[p.t12.toNat]!.fKind)) with | none => none | some r3 => bif r3 then some (none) else bif bif m165 p.t10[p.t12.toNat]!.fLow p.t10[p.t12.toNat]!.fHigh then false else true then some (none) else match bif bif decide (p.t10[p.t12.toNat]!.fKind = 0) then false else true then some (bif decide (p.t10[p.t12.toNat]!.fInit = 0) then false else true) else some (false) with | none => none | some r4 => bif r4 then some (none) else match bif decide (p.t10[p.t12.toNat]!.fKind = 0) then bif decide (p.t10[p.t12.toNat]!.fInit < p.t10[p.t12.toNat]!.fLow) then some (true) else some (decide (p.t10[p.t12.toNat]!.fHigh < p.t10[p.t12.toNat]!.fInit)) else some (false) with | none => none | some r5 => bif r5 then some (none) else some (some (L98_0.mk p.t0 p.t10 p.t11 (i64.wrap (p.t12 + 1)))) else none else none else some (none)
def g98_0 : An := (.two .no (.two .no (.two (.two .no (.two .no (.two .no (.two .no (.two .no (.two .no (.two (.rb [] 29) (.two .no (.two (.two .no (.two .no (.two (.rb [] 38) (.two .no (.rb [] 38))))) .no))))))))) .no)))
theorem q98_0 (p : L98_0) : execA Tryz.prog (F98) Tryz.f98.ntmps 300 (loopAt Tryz.f98 0) g98_0 (Option L98_0) (d98_0.pat p) (kOn d98_0.rd) = n98_0 p := by kernel_rfl
def a98_0 : L98_0 → Option L98_0 := advG (n98_0)
abbrev E98 : Type := Int
def d98 : Td 0 E98 := .c [] [2] (.r 0 0 (ec 2 (qi .i64) en) sn (fun z => z.1.1) (fun x => ((x, ()), (()))) fun _ => rfl)
def A98 := (lc (ql 108) ln)
def an98 : An := (.two .no (.two (.two .no (d98_0.lp a98_0 g98_0)) (.two (.two .no (d98_1.lp a98_1 g98_1)) .no)))
theorem pu98  : ∀ f ∈ ([] : List Nat), PureF (F98) f := ob_nil
theorem fa98 : FnAn Tryz.prog (F98) 0 300 98 (an98) := fnAn_of (l := [(loopAt Tryz.f98 0, (d98_0.lp a98_0 g98_0)), (.skip, (.rb [] 29)), (.skip, (.rb [] 38)), (.skip, (.rb [] 38)), (loopAt Tryz.f98 1, (d98_1.lp a98_1 g98_1)), (.skip, (.rb [] 92))]) Tryz.func98 (bodyOf_eq (by kernel_rfl)) (by kernel_rfl) (ob_cons ⟨d98_0.ok _, advG_ok (q98_0)⟩ (ob_cons pu98 (ob_cons pu98 (ob_cons pu98 (ob_cons ⟨d98_1.ok _, advG_ok (q98_1)⟩ (ob_cons pu98 ob_nil))))))
def m98 (a0 : List GVar) : Option E98 :=
 match a98_0 (L98_0.mk a0 a0 (↑a0.length : Int) (0)) with | none => none | some r8 => bif decide (r8.t12 < r8.t11) then if (0 : Int) ≤ r8.t12 ∧ r8.t12 < (↑r8.t10.length : Int) then match m163 r8.t10[r8.t12.toNat]!.fName with | none => none | some r9 => bif bif r9 then false else true then some (7) else if (0 : Int) ≤ r8.t12 ∧ r8.t12 ≤ (↑r8.t0.length : Int) then match m164 (List.take r8.t12.toNat r8.t0) r8.t10[r8.t12.toNat]! with | none => none | some r10 => bif r10 then some (8) else match bif decide (r8.t10[r8.t12.toNat]!.fKind < 0) then some (true) else some (decide (3 < r8.t10[r8.t12.toNat]!.fKind)) with | none => none | some r11 => bif r11 then some (1) else bif bif m165 r8.t10[r8.t12.toNat]!.fLow r8.t10[r8.t12.toNat]!.fHigh then false else true then some (3) else match bif bif decide (r8.t10[r8.t12.toNat]!.fKind = 0) then false else true then some (bif decide (r8.t10[r8.t12.toNat]!.fInit = 0) then false else true) else some (false) with | none => none | some r12 => bif r12 then some (3) else match bif decide (r8.t10[r8.t12.toNat]!.fKind = 0) then bif decide (r8.t10[r8.t12.toNat]!.fInit < r8.t10[r8.t12.toNat]!.fLow) then some (true) else some (decide (r8.t10[r8.t12.toNat]!.fHigh < r8.t10[r8.t12.toNat]!.fInit)) else some (false) with | none => none | some r13 => bif r13 then some (3) else none else none else none else match a98_1 (L98_1.mk r8.t0 [1, 2, 3] (↑3 : Int) (0)) with | none => none | some r14 => bif decide (r14.t73 < r14.t72) then if (0 : Int) ≤ r14.t73 ∧ r14.t73 < (↑r14.t71.length : Int) then if 65 = 65 ∧ r14.t73.toNat < r14.t71.length then match m166 r14.t0 r14.t71[r14.t73.toNat]! with | none => none | some r15 => match bif bif decide (r15.snd = 0) then false else true then some (true) else bif decide (r14.t71[r14.t73.toNat]! = 3) then some (decide (256 < r15.fst)) else some (false) with | none => none | some r16 => bif r16 then some (4) else none else none else none else some (0)
theorem c98 (a0 : List GVar) : callR Tryz.prog (F98) 300 (an98) 98 (A98.c (a0, ())) [] 0 d98.rd = m98 a0 := by kernel_rfl
def e98 : Orc → Orc := eL Tryz.prog 98 false A98 d98 (fun g => m98 g.1)
theorem e98_ok {F : Orc} (h : OrcG Tryz.prog F) : OrcG Tryz.prog (e98 F) := eL_ok (sc := scU) scU_ok (hl_of F98_ok fa98 (fun _ => by kernel_rfl) (fun _ => by kernel_rfl) fun g => c98 g.1) ⟨_, Tryz.func98, by kernel_rfl, by kernel_rfl⟩ (fun _ => by kernel_rfl) (fun _ => by kernel_rfl) h
def F167 : Orc := or0
theorem F167_ok : OrcG Tryz.prog F167 := or0_g
abbrev E167 : Type := Bool
def d167 : Td 0 E167 := .c [] [3] (.r 0 0 (ec 3 qb en) sn (fun z => z.1.1) (fun x => ((x, ()), (()))) fun _ => rfl)
def A167 := (lc (qg 116) (lc (qr (lg 116)) ln))
def an167 : An := .no
theorem fa167 : FnAn Tryz.prog (F167) 0 300 167 (an167) := fnAn_of (l := []) Tryz.func167 (bodyOf_eq (by kernel_rfl)) (by kernel_rfl) ob_nil
def m167 (a0 : Hatch) (c0 : Hatch) : E167 :=
 a0.fName.toList == c0.fName.toList
theorem c167 (a0 : Hatch) (c0 : Hatch) : callR Tryz.prog (F167) 300 (an167) 167 (A167.c (a0, c0, ())) [] 0 d167.rd = some (m167 a0 c0) := by kernel_rfl
def e167 : Orc → Orc := eL Tryz.prog 167 false A167 d167 (fun g => some (m167 g.1 g.2.1))
theorem e167_ok {F : Orc} (h : OrcG Tryz.prog F) : OrcG Tryz.prog (e167 F) := eL_ok (sc := scU) scU_ok (hl_of F167_ok fa167 (fun _ => by kernel_rfl) (fun _ => by kernel_rfl) fun g => c167 g.1 g.2.1) ⟨_, Tryz.func167, by kernel_rfl, by kernel_rfl⟩ (fun _ => by kernel_rfl) (fun _ => by kernel_rfl) h
def F227 : Orc := (e167 or0)
theorem F227_ok : OrcG Tryz.prog F227 := (e167_ok or0_g)
structure L227_0 where
 t0 : List Hatch
 t1_0_0 : ByteArray
 t1_0_1 : Int
 t1_0_2 : Int
 t1_0_3 : Int
 t1_0_4 : Int
 t1_0_5 : List GTerm
 t7 : Int
 t8 : Int
def d227_0 : Td 0 L227_0 := .c [] [0, 1, 7, 8] (.r 0 0 (ec 0 (ql 116) (ec 1 (qf 167 (lc (qr (lc qs (lc (qi .i64) (lc (qi .i64) (lc (qi .i64) (lc (qi .i64) (lc (ql 106) ln))))))) ln)) (ec 7 (qi .i64) (ec 8 (qi .i64) en)))) sn (fun z => ⟨z.1.1, z.1.2.1.1.1, z.1.2.1.1.2.1, z.1.2.1.1.2.2.1, z.1.2.1.1.2.2.2.1, z.1.2.1.1.2.2.2.2.1, z.1.2.1.1.2.2.2.2.2.1, z.1.2.2.1, z.1.2.2.2.1⟩) (fun x => ((x.t0, ((x.t1_0_0, x.t1_0_1, x.t1_0_2, x.t1_0_3, x.t1_0_4, x.t1_0_5, ()), ()), x.t7, x.t8, ()), (()))) fun _ => rfl)
def n227_0 (p : L227_0) : Option (Option L227_0) :=
 bif decide (p.t8 < p.t7) then if (0 : Int) ≤ p.t8 ∧ p.t8 < (↑p.t0.length : Int) then bif m167 (Hatch.mk p.t0[p.t8.toNat]!.fName p.t0[p.t8.toNat]!.fLow p.t0[p.t8.toNat]!.fHigh (GTerm.mk p.t0[p.t8.toNat]!.fTerm.fOp p.t0[p.t8.toNat]!.fTerm.fN p.t0[p.t8.toNat]!.fTerm.fKids)) (Hatch.mk p.t1_0_0 p.t1_0_1 p.t1_0_2 (GTerm.mk p.t1_0_3 p.t1_0_4 p.t1_0_5)) then some (none) else some (some (L227_0.mk p.t0 p.t1_0_0 p.t1_0_1 p.t1_0_2 p.t1_0_3 p.t1_0_4 p.t1_0_5 p.t7 (i64.wrap (p.t8 + 1)))) else none else some (none)
theorem q227_0 (p : L227_0) : execA Tryz.prog (F227) Tryz.f227.ntmps 300 (loopAt Tryz.f227 0) .no (Option L227_0) (d227_0.pat p) (kOn d227_0.rd) = n227_0 p := by kernel_rfl
def a227_0 : L227_0 → Option L227_0 := advG (n227_0)
abbrev E227 : Type := Int
def d227 : Td 0 E227 := .c [] [4] (.r 0 0 (ec 4 (qi .i64) en) sn (fun z => z.1.1) (fun x => ((x, ()), (()))) fun _ => rfl)
def A227 := (lc (ql 116) (lc (qf 167 (lc (qr (lg 116)) ln)) ln))
def an227 : An := (.two .no (.two (.two .no (d227_0.lp a227_0 .no)) .no))
theorem fa227 : FnAn Tryz.prog (F227) 0 300 227 (an227) := fnAn_of (l := [(loopAt Tryz.f227 0, (d227_0.lp a227_0 .no))]) Tryz.func227 (bodyOf_eq (by kernel_rfl)) (by kernel_rfl) (ob_cons ⟨d227_0.ok _, advG_ok (q227_0)⟩ ob_nil)
def m227 (a0 : List Hatch) (a1_0 : Hatch) : Option E227 :=
 match a227_0 (L227_0.mk a0 a1_0.fName a1_0.fLow a1_0.fHigh a1_0.fTerm.fOp a1_0.fTerm.fN a1_0.fTerm.fKids (↑a0.length : Int) (0)) with | none => none | some r1 => bif decide (r1.t8 < r1.t7) then if (0 : Int) ≤ r1.t8 ∧ r1.t8 < (↑r1.t0.length : Int) then bif m167 (Hatch.mk r1.t0[r1.t8.toNat]!.fName r1.t0[r1.t8.toNat]!.fLow r1.t0[r1.t8.toNat]!.fHigh (GTerm.mk r1.t0[r1.t8.toNat]!.fTerm.fOp r1.t0[r1.t8.toNat]!.fTerm.fN r1.t0[r1.t8.toNat]!.fTerm.fKids)) (Hatch.mk r1.t1_0_0 r1.t1_0_1 r1.t1_0_2 (GTerm.mk r1.t1_0_3 r1.t1_0_4 r1.t1_0_5)) then some (r1.t8) else none else none else some (-1)
theorem c227 (a0 : List Hatch) (a1_0 : Hatch) : callR Tryz.prog (F227) 300 (an227) 227 (A227.c (a0, (a1_0, ()), ())) [] 0 d227.rd = m227 a0 a1_0 := by kernel_rfl
def e227 : Orc → Orc := eL Tryz.prog 227 true A227 d227 (fun g => m227 g.1 g.2.1.1)
theorem e227_ok {F : Orc} (h : OrcG Tryz.prog F) : OrcG Tryz.prog (e227 F) := eL_ok (sc := scU) scU_ok (hl_of F227_ok fa227 (fun _ => by kernel_rfl) (fun _ => by kernel_rfl) fun g => c227 g.1 g.2.1.1) ⟨_, Tryz.func227, by kernel_rfl, by kernel_rfl⟩ (fun _ => by kernel_rfl) (fun _ => by kernel_rfl) h
def F168 : Orc := (e227 (e167 or0))
theorem F168_ok : OrcG Tryz.prog F168 := (e227_ok (e167_ok or0_g))
abbrev E168 : Type := Bool
def d168 : Td 0 E168 := .c [] [4] (.r 0 0 (ec 4 qb en) sn (fun z => z.1.1) (fun x => ((x, ()), (()))) fun _ => rfl)
def A168 := (lc (ql 116) (lc (qf 167 (lc (qr (lg 116)) ln)) ln))
def an168 : An := .no
theorem fa168 : FnAn Tryz.prog (F168) 0 300 168 (an168) := fnAn_of (l := []) Tryz.func168 (bodyOf_eq (by kernel_rfl)) (by kernel_rfl) ob_nil
def m168 (a0 : List Hatch) (a1_0 : Hatch) : Option E168 :=
 match m227 a0 (Hatch.mk a1_0.fName a1_0.fLow a1_0.fHigh (GTerm.mk a1_0.fTerm.fOp a1_0.fTerm.fN a1_0.fTerm.fKids)) with | none => none | some r1 => some (decide (0 ≤ r1))
theorem c168 (a0 : List Hatch) (a1_0 : Hatch) : callR Tryz.prog (F168) 300 (an168) 168 (A168.c (a0, (a1_0, ()), ())) [] 0 d168.rd = m168 a0 a1_0 := by kernel_rfl
def e168 : Orc → Orc := eL Tryz.prog 168 true A168 d168 (fun g => m168 g.1 g.2.1.1)
theorem e168_ok {F : Orc} (h : OrcG Tryz.prog F) : OrcG Tryz.prog (e168 F) := eL_ok (sc := scU) scU_ok (hl_of F168_ok fa168 (fun _ => by kernel_rfl) (fun _ => by kernel_rfl) fun g => c168 g.1 g.2.1.1) ⟨_, Tryz.func168, by kernel_rfl, by kernel_rfl⟩ (fun _ => by kernel_rfl) (fun _ => by kernel_rfl) h
def F278 : Orc := or0
theorem F278_ok : OrcG Tryz.prog F278 := or0_g
abbrev E278 : Type := Int × Int
def d278 : Td 0 E278 := .c [] [2, 3] (.r 0 0 (ec 2 (qi .i64) (ec 3 (qi .i64) en)) sn (fun z => (z.1.1, z.1.2.1)) (fun x => ((x.1, x.2, ()), (()))) fun _ => rfl)
def A278 := (lc (qi .i64) ln)
def an278 : An := (.two .no (.two (.two (.rb [] 4) (.two .no (.two (.rb [] 11) (.two .no (.two (.rb [] 18) .no))))) .no))
theorem pu278  : ∀ f ∈ ([] : List Nat), PureF (F278) f := ob_nil
theorem fa278 : FnAn Tryz.prog (F278) 0 300 278 (an278) := fnAn_of (l := [(.skip, (.rb [] 4)), (.skip, (.rb [] 11)), (.skip, (.rb [] 18))]) Tryz.func278 (bodyOf_eq (by kernel_rfl)) (by kernel_rfl) (ob_cons pu278 (ob_cons pu278 (ob_cons pu278 ob_nil)))
def m278 (a0 : Int) : E278 :=
 let r1 : Bool := bif decide (a0 = 0) then true else decide (a0 = 24); bif r1 then (0, 0) else let r2 : Bool := bif decide (a0 = 6) then true else decide (a0 = 7); bif r2 then (1, 1) else let r3 : Bool := bif decide (8 ≤ a0) then decide (a0 ≤ 22) else false; bif r3 then (2, 2) else bif decide (a0 = 23) then (3, 3) else bif decide (a0 = 25) then (2, 33) else (-1, -1)
theorem c278 (a0 : Int) : callR Tryz.prog (F278) 300 (an278) 278 (A278.c (a0, ())) [] 0 d278.rd = some (m278 a0) := by
 refine Eq.trans (b := (
  match bif decide (a0 = 0) then some (true) else some (decide (a0 = 24)) with | none => none | some r1 => bif r1 then some ((0, 0)) else match bif decide (a0 = 6) then some (true) else some (decide (a0 = 7)) with | none => none | some r2 => bif r2 then some ((1, 1)) else match bif decide (8 ≤ a0) then some (decide (a0 ≤ 22)) else some (false) with | none => none | some r3 => bif r3 then some ((2, 2)) else bif decide (a0 = 23) then some ((3, 3)) else bif decide (a0 = 25) then some ((2, 33)) else some ((-1, -1)) : Option E278)) (by kernel_rfl) ?_
 simp only [m278, cond_some, ite_some]
def e278 : Orc → Orc := eL Tryz.prog 278 false A278 d278 (fun g => some (m278 g.1))
theorem e278_ok {F : Orc} (h : OrcG Tryz.prog F) : OrcG Tryz.prog (e278 F) := eL_ok (sc := scU) scU_ok (hl_of F278_ok fa278 (fun _ => by kernel_rfl) (fun _ => by kernel_rfl) fun g => c278 g.1) ⟨_, Tryz.func278, by kernel_rfl, by kernel_rfl⟩ (fun _ => by kernel_rfl) (fun _ => by kernel_rfl) h
abbrev E228 : Type := Bool
def d228 : Td 0 E228 := .c [] [6] (.r 0 0 (ec 6 qb en) sn (fun z => z.1.1) (fun x => ((x, ()), (()))) fun _ => rfl)
def A228 := (lc (ql 108) (lc (qg 106) (lc qb ln)))
def x228 (M : (List GVar) → GTerm → Bool → Option E228) : Orc → Orc := eL Tryz.prog 228 false A228 d228 (fun g => M g.1 g.2.1 g.2.2.1)
def H228 (M : (List GVar) → GTerm → Bool → Option E228) : Prop := HL Tryz.prog 228 A228 d228 (fun g => M g.1 g.2.1 g.2.2.1)
theorem x228_ok {M : (List GVar) → GTerm → Bool → Option E228} (hM : H228 M) {F : Orc} (h : OrcG Tryz.prog F) : OrcG Tryz.prog (x228 M F) := eL_ok (sc := scU) scU_ok hM ⟨_, Tryz.func228, by kernel_rfl, by kernel_rfl⟩ (fun _ => by kernel_rfl) (fun _ => by kernel_rfl) h
def F228 (M228 : (List GVar) → GTerm → Bool → Option E228) : Orc := (e278 (x228 M228 or0))
theorem F228_ok {M228} (h228 : H228 M228) : OrcG Tryz.prog (F228 M228) := (e278_ok (x228_ok h228 or0_g))
structure L228_0 where
 t0 : List GVar
 t2 : Bool
 t65 : List GTerm
 t66 : Int
 t67 : Int
def d228_0 : Td 0 L228_0 := .c [] [0, 2, 65, 66, 67] (.r 0 0 (ec 0 (ql 108) (ec 2 qb (ec 65 (ql 106) (ec 66 (qi .i64) (ec 67 (qi .i64) en))))) sn (fun z => ⟨z.1.1, z.1.2.1, z.1.2.2.1, z.1.2.2.2.1, z.1.2.2.2.2.1⟩) (fun x => ((x.t0, x.t2, x.t65, x.t66, x.t67, ()), (()))) fun _ => rfl)
def n228_0 (M228 : (List GVar) → GTerm → Bool → Option E228) (p : L228_0) : Option (Option L228_0) :=
 bif decide (p.t67 < p.t66) then if (0 : Int) ≤ p.t67 ∧ p.t67 < (↑p.t65.length : Int) then match M228 p.t0 (GTerm.mk p.t65[p.t67.toNat]!.fOp p.t65[p.t67.toNat]!.fN p.t65[p.t67.toNat]!.fKids) p.t2 with | none => none | some r1 => bif bif r1 then false else true then some (none) else some (some (L228_0.mk p.t0 p.t2 p.t65 p.t66 (i64.wrap (p.t67 + 1)))) else none else some (none)
theorem q228_0 (M228 : (List GVar) → GTerm → Bool → Option E228) (p : L228_0) : execA Tryz.prog (F228 M228) Tryz.f228.ntmps 300 (loopAt Tryz.f228 0) .no (Option L228_0) (d228_0.pat p) (kOn d228_0.rd) = n228_0 M228 p := by kernel_rfl
def a228_0 (M228 : (List GVar) → GTerm → Bool → Option E228) : L228_0 → Option L228_0 := advG (n228_0 M228)
def an228 (M228 : (List GVar) → GTerm → Bool → Option E228) : An := (.two .no (.two .no (.two (.two (.rb [] 32) .no) (.two (.two .no (.two .no (.two .no (.two .no (.two (.two (.rb [] 63) .no) .no))))) (.two (.two .no (d228_0.lp (a228_0 M228) .no)) .no)))))
theorem pu228 {M228} : ∀ f ∈ ([] : List Nat), PureF (F228 M228) f := ob_nil
theorem fa228 (M228 : (List GVar) → GTerm → Bool → Option E228) : FnAn Tryz.prog (F228 M228) 0 300 228 (an228 M228) := fnAn_of (l := [(.skip, (.rb [] 32)), (.skip, (.rb [] 63)), (loopAt Tryz.f228 0, (d228_0.lp (a228_0 M228) .no))]) Tryz.func228 (bodyOf_eq (by kernel_rfl)) (by kernel_rfl) (ob_cons pu228 (ob_cons pu228 (ob_cons ⟨d228_0.ok _, advG_ok (q228_0 M228)⟩ ob_nil)))
def s228 (M228 : (List GVar) → GTerm → Bool → Option E228) (a0 : List GVar) (a1 : GTerm) (a2 : Bool) : Option E228 :=
 match bif decide ((m278 a1.fOp).fst < 0) then some (true) else bif decide ((↑a1.fKids.length : Int) < (m278 a1.fOp).fst) then some (true) else some (decide ((m278 a1.fOp).snd < (↑a1.fKids.length : Int))) with | none => none | some r2 => bif r2 then some (false) else bif decide (a1.fOp = 0) then match a228_0 M228 (L228_0.mk a0 a2 a1.fKids (↑a1.fKids.length : Int) (0)) with | none => none | some r3 => bif decide (r3.t67 < r3.t66) then if (0 : Int) ≤ r3.t67 ∧ r3.t67 < (↑r3.t65.length : Int) then match M228 r3.t0 (GTerm.mk r3.t65[r3.t67.toNat]!.fOp r3.t65[r3.t67.toNat]!.fN r3.t65[r3.t67.toNat]!.fKids) r3.t2 with | none => none | some r4 => bif bif r4 then false else true then some (false) else none else none else some (true) else bif decide (a1.fOp = 24) then match bif decide (a1.fN < 0) then some (true) else bif decide ((↑a0.length : Int) ≤ a1.fN) then some (true) else bif a2 then if (0 : Int) ≤ a1.fN ∧ a1.fN < (↑a0.length : Int) then some (decide (a0[a1.fN.toNat]!.fKind = 0)) else none else some (false) with | none => none | some r5 => bif r5 then some (false) else match a228_0 M228 (L228_0.mk a0 a2 a1.fKids (↑a1.fKids.length : Int) (0)) with | none => none | some r6 => bif decide (r6.t67 < r6.t66) then if (0 : Int) ≤ r6.t67 ∧ r6.t67 < (↑r6.t65.length : Int) then match M228 r6.t0 (GTerm.mk r6.t65[r6.t67.toNat]!.fOp r6.t65[r6.t67.toNat]!.fN r6.t65[r6.t67.toNat]!.fKids) r6.t2 with | none => none | some r7 => bif bif r7 then false else true then some (false) else none else none else some (true) else bif bif decide (a1.fN = 0) then false else true then some (false) else match a228_0 M228 (L228_0.mk a0 a2 a1.fKids (↑a1.fKids.length : Int) (0)) with | none => none | some r8 => bif decide (r8.t67 < r8.t66) then if (0 : Int) ≤ r8.t67 ∧ r8.t67 < (↑r8.t65.length : Int) then match M228 r8.t0 (GTerm.mk r8.t65[r8.t67.toNat]!.fOp r8.t65[r8.t67.toNat]!.fN r8.t65[r8.t67.toNat]!.fKids) r8.t2 with | none => none | some r9 => bif bif r9 then false else true then some (false) else none else none else some (true)
theorem c228 (M228 : (List GVar) → GTerm → Bool → Option E228) (a0 : List GVar) (a1 : GTerm) (a2 : Bool) : callR Tryz.prog (F228 M228) 300 (an228 M228) 228 (A228.c (a0, a1, a2, ())) [] 0 d228.rd = s228 M228 a0 a1 a2 := by kernel_rfl
def mm228 : Nat → ((List GVar) → GTerm → Bool → Option E228)
 | 0 => (fun _ _ _ => none)
 | n + 1 => (s228 (mm228 n))
def m228 (n : Nat) : (List GVar) → GTerm → Bool → Option E228 := (mm228 n)
theorem mm228_ok : ∀ n, H228 (m228 n)
 | 0 => fun _ _ h => (by cases h)
 | n + 1 => by
  have ih := mm228_ok n
  have i228 := ih
  exact (hl_of (F228_ok i228) (fa228 (m228 n)) (fun _ => by kernel_rfl) (fun _ => by kernel_rfl) fun g => c228 (m228 n) g.1 g.2.1 g.2.2.1)
def r228 : (List GVar) → GTerm → Bool → Option E228 := fun a0 a1 a2 => lim (fun n => m228 n a0 a1 a2)
theorem r228_ok : H228 r228 := fun g b h => by
 obtain ⟨n, hn⟩ := lim_some (show lim (fun n => m228 n g.1 g.2.1 g.2.2.1) = some b from h)
 exact (mm228_ok n) g b hn
def e228 (F : Orc) : Orc := x228 r228 F
theorem e228_ok {F : Orc} (h : OrcG Tryz.prog F) : OrcG Tryz.prog (e228 F) := x228_ok r228_ok h
def F298 : Orc := or0
theorem F298_ok : OrcG Tryz.prog F298 := or0_g
abbrev E298 : Type := Int
def d298 : Td 0 E298 := .c [] [4] (.r 0 0 (ec 4 (qi .i64) en) sn (fun z => z.1.1) (fun x => ((x, ()), (()))) fun _ => rfl)
def A298 := (lc (qi .i64) (lc (qi .i64) ln))
def an298 : An := .no
theorem fa298 : FnAn Tryz.prog (F298) 0 300 298 (an298) := fnAn_of (l := []) Tryz.func298 (bodyOf_eq (by kernel_rfl)) (by kernel_rfl) ob_nil
def m298 (a0 : Int) (a1 : Int) : E298 :=
 i64.wrap (a0 * a1)
theorem c298 (a0 : Int) (a1 : Int) : callR Tryz.prog (F298) 300 (an298) 298 (A298.c (a0, a1, ())) [] 0 d298.rd = some (m298 a0 a1) := by kernel_rfl
def e298 : Orc → Orc := eL Tryz.prog 298 false A298 d298 (fun g => some (m298 g.1 g.2.1))
theorem e298_ok {F : Orc} (h : OrcG Tryz.prog F) : OrcG Tryz.prog (e298 F) := eL_ok (sc := scU) scU_ok (hl_of F298_ok fa298 (fun _ => by kernel_rfl) (fun _ => by kernel_rfl) fun g => c298 g.1 g.2.1) ⟨_, Tryz.func298, by kernel_rfl, by kernel_rfl⟩ (fun _ => by kernel_rfl) (fun _ => by kernel_rfl) h
def F299 : Orc := or0
theorem F299_ok : OrcG Tryz.prog F299 := or0_g
abbrev E299 : Type := Span
def d299 : Td 0 E299 := .c [] [4] (.r 0 1 (ec 4 (qp 0 0) en) (sb 0 317 (lg 317) sn) (fun z => z.2.1) (fun x => (((), ()), (x, ()))) fun _ => rfl)
def A299 := (lc (qg 317) (lc (qg 317) ln))
def an299 : An := .no
theorem fa299 : FnAn Tryz.prog (F299) 0 300 299 (an299) := fnAn_of (l := []) Tryz.func299 (bodyOf_eq (by kernel_rfl)) (by kernel_rfl) ob_nil
def m299 (a0 : Span) (a1 : Span) : E299 :=
 Span.mk (if a1.fLow < a0.fLow then a1.fLow else a0.fLow) (if a0.fHigh < a1.fHigh then a1.fHigh else a0.fHigh)
theorem c299 (a0 : Span) (a1 : Span) : callR Tryz.prog (F299) 300 (an299) 299 (A299.c (a0, a1, ())) [] 0 d299.rd = some (m299 a0 a1) := by
 refine Eq.trans (b := (
  some (Span.mk (if a1.fLow < a0.fLow then a1.fLow else a0.fLow) (if a0.fHigh < a1.fHigh then a1.fHigh else a0.fHigh)) : Option E299)) (by kernel_rfl) ?_
 simp only [m299, cond_some, ite_some]
def e299 : Orc → Orc := eL Tryz.prog 299 false A299 d299 (fun g => some (m299 g.1 g.2.1))
theorem e299_ok {F : Orc} (h : OrcG Tryz.prog F) : OrcG Tryz.prog (e299 F) := eL_ok (sc := scU) scU_ok (hl_of F299_ok fa299 (fun _ => by kernel_rfl) (fun _ => by kernel_rfl) fun g => c299 g.1 g.2.1) ⟨_, Tryz.func299, by kernel_rfl, by kernel_rfl⟩ (fun _ => by kernel_rfl) (fun _ => by kernel_rfl) h
def F297 : Orc := (e299 (e298 or0))
theorem F297_ok : OrcG Tryz.prog F297 := (e299_ok (e298_ok or0_g))
structure L297_0 where
 t38 : List Int
 t39 : Int
 t40 : Int
 b0 : Span
 b1 : Span
def d297_0 : Td 0 L297_0 := .c [] [6, 8, 38, 39, 40] (.r 0 3 (ec 6 (qp 0 0) (ec 8 (qp 1 0) (ec 38 (qo 2) (ec 39 (qi .i64) (ec 40 (qi .i64) en))))) (sb 0 317 (lg 317) (sb 1 317 (lg 317) (sr 2 3 sn))) (fun z => ⟨z.2.2.2.1, z.1.2.2.2.1, z.1.2.2.2.2.1, z.2.1, z.2.2.1⟩) (fun x => (((), (), (), x.t39, x.t40, ()), (x.b0, x.b1, x.t38, ()))) fun _ => rfl)
def n297_0 (p : L297_0) : Option (Option L297_0) :=
 bif decide (p.t40 < p.t39) then if (0 : Int) ≤ p.t40 ∧ p.t40 < (↑p.t38.length : Int) then if 3 = 3 ∧ p.t40.toNat < p.t38.length then some (some (L297_0.mk p.t38 p.t39 (i64.wrap (p.t40 + 1)) p.b0 (m299 p.b1 (Span.mk p.t38[p.t40.toNat]! p.t38[p.t40.toNat]!)))) else none else none else some (none)
theorem q297_0 (p : L297_0) : execA Tryz.prog (F297) Tryz.f297.ntmps 300 (loopAt Tryz.f297 0) .no (Option L297_0) (d297_0.pat p) (kOn d297_0.rd) = n297_0 p := by kernel_rfl
def a297_0 : L297_0 → Option L297_0 := advG (n297_0)
abbrev E297 : Type := Span
def d297 : Td 0 E297 := .c [] [6] (.r 0 1 (ec 6 (qp 0 0) en) (sb 0 317 (lg 317) sn) (fun z => z.2.1) (fun x => (((), ()), (x, ()))) fun _ => rfl)
def A297 := (lc (qg 317) (lc (qg 317) (lc (qf 298 ln) ln)))
def an297 : An := (.two .no (.two .no (.two .no (.two (.two .no (d297_0.lp a297_0 .no)) .no))))
theorem fa297 : FnAn Tryz.prog (F297) 0 300 297 (an297) := fnAn_of (l := [(loopAt Tryz.f297 0, (d297_0.lp a297_0 .no))]) Tryz.func297 (bodyOf_eq (by kernel_rfl)) (by kernel_rfl) (ob_cons ⟨d297_0.ok _, advG_ok (q297_0)⟩ ob_nil)
def m297 (a0 : Span) (a1 : Span) : Option E297 :=
 match a297_0 (L297_0.mk [m298 a0.fLow a1.fHigh, m298 a0.fHigh a1.fLow, m298 a0.fHigh a1.fHigh] (↑[m298 a0.fLow a1.fHigh, m298 a0.fHigh a1.fLow, m298 a0.fHigh a1.fHigh].length : Int) (0) (Span.mk (0) (0)) (Span.mk (m298 a0.fLow a1.fLow) (m298 a0.fLow a1.fLow))) with | none => none | some r1 => bif decide (r1.t40 < r1.t39) then if (0 : Int) ≤ r1.t40 ∧ r1.t40 < (↑r1.t38.length : Int) then if 3 = 3 ∧ r1.t40.toNat < r1.t38.length then none else none else none else some (r1.b1)
theorem c297 (a0 : Span) (a1 : Span) : callR Tryz.prog (F297) 300 (an297) 297 (A297.c (a0, a1, (()), ())) [] 0 d297.rd = m297 a0 a1 := by kernel_rfl
def e297 : Orc → Orc := eL Tryz.prog 297 false A297 d297 (fun g => m297 g.1 g.2.1)
theorem e297_ok {F : Orc} (h : OrcG Tryz.prog F) : OrcG Tryz.prog (e297 F) := eL_ok (sc := scU) scU_ok (hl_of F297_ok fa297 (fun _ => by kernel_rfl) (fun _ => by kernel_rfl) fun g => c297 g.1 g.2.1) ⟨_, Tryz.func297, by kernel_rfl, by kernel_rfl⟩ (fun _ => by kernel_rfl) (fun _ => by kernel_rfl) h
def F279 : Orc := (e299 (e298 (e297 or0)))
theorem F279_ok : OrcG Tryz.prog F279 := (e299_ok (e298_ok (e297_ok or0_g)))
structure L279_0 where
 t207 : List Span
 t208 : Int
 t209 : Int
 b0 : Span
 b1 : Span
def d279_0 : Td 0 L279_0 := .c [] [6, 9, 207, 208, 209] (.r 0 2 (ec 6 (qp 0 0) (ec 9 (qp 1 0) (ec 207 (ql 317) (ec 208 (qi .i64) (ec 209 (qi .i64) en))))) (sb 0 317 (lg 317) (sb 1 317 (lg 317) sn)) (fun z => ⟨z.1.2.2.1, z.1.2.2.2.1, z.1.2.2.2.2.1, z.2.1, z.2.2.1⟩) (fun x => (((), (), x.t207, x.t208, x.t209, ()), (x.b0, x.b1, ()))) fun _ => rfl)
def n279_0 (p : L279_0) : Option (Option L279_0) :=
 bif decide (p.t209 < p.t208) then if (0 : Int) ≤ p.t209 ∧ p.t209 < (↑p.t207.length : Int) then some (some (L279_0.mk p.t207 p.t208 (i64.wrap (p.t209 + 1)) p.b0 (m299 p.b1 p.t207[p.t209.toNat]!))) else none else some (none)
theorem q279_0 (p : L279_0) : execA Tryz.prog (F279) Tryz.f279.ntmps 300 (loopAt Tryz.f279 0) .no (Option L279_0) (d279_0.pat p) (kOn d279_0.rd) = n279_0 p := by kernel_rfl
def a279_0 : L279_0 → Option L279_0 := advG (n279_0)
abbrev E279 : Type := Span
def d279 : Td 0 E279 := .c [] [6] (.r 0 1 (ec 6 (qp 0 0) en) (sb 0 317 (lg 317) sn) (fun z => z.2.1) (fun x => (((), ()), (x, ()))) fun _ => rfl)
def A279 := (lc (ql 108) (lc (qg 106) (lc (ql 317) ln)))
def an279 : An := (.two .no (.two (.two .no (.two .no (.two .no (.two .no (.two .no (.two .no (.two .no (.two .no (.two .no (.two .no (.two .no (.two .no (.two .no (.two .no (.two (.two .no (.two (.two (.rb [] 123) .no) .no)) (.two .no (.two .no (.two .no (.two .no (.two .no (.two .no (.two .no (.two (.two .no (.two (.two .no (d279_0.lp a279_0 .no)) .no)) .no))))))))))))))))))))))) .no))
theorem pu279  : ∀ f ∈ ([] : List Nat), PureF (F279) f := ob_nil
theorem fa279 : FnAn Tryz.prog (F279) 0 300 279 (an279) := fnAn_of (l := [(.skip, (.rb [] 123)), (loopAt Tryz.f279 0, (d279_0.lp a279_0 .no))]) Tryz.func279 (bodyOf_eq (by kernel_rfl)) (by kernel_rfl) (ob_cons pu279 (ob_cons ⟨d279_0.ok _, advG_ok (q279_0)⟩ ob_nil))
def m279 (a0 : List GVar) (a1 : GTerm) (a2 : List Span) : Option E279 :=
 bif decide (a1.fOp = 0) then some (Span.mk a1.fN a1.fN) else bif decide (a1.fOp = 24) then if (0 : Int) ≤ a1.fN ∧ a1.fN < (↑a0.length : Int) then if (0 : Int) ≤ a1.fN ∧ a1.fN < (↑a0.length : Int) then some (Span.mk a0[a1.fN.toNat]!.fLow a0[a1.fN.toNat]!.fHigh) else none else none else bif decide (a1.fOp = 6) then if (0 : Int) ≤ (0 : Int) ∧ (0 : Int) < (↑a2.length : Int) then if (0 : Int) ≤ (0 : Int) ∧ (0 : Int) < (↑a2.length : Int) then some (Span.mk (i64.wrap (0 - a2[0]!.fHigh)) (i64.wrap (0 - a2[0]!.fLow))) else none else none else bif decide (a1.fOp = 8) then if (0 : Int) ≤ (0 : Int) ∧ (0 : Int) < (↑a2.length : Int) then if (0 : Int) ≤ (1 : Int) ∧ (1 : Int) < (↑a2.length : Int) then if (0 : Int) ≤ (0 : Int) ∧ (0 : Int) < (↑a2.length : Int) then if (0 : Int) ≤ (1 : Int) ∧ (1 : Int) < (↑a2.length : Int) then some (Span.mk (i64.wrap (a2[0]!.fLow + a2[1]!.fLow)) (i64.wrap (a2[0]!.fHigh + a2[1]!.fHigh))) else none else none else none else none else bif decide (a1.fOp = 9) then if (0 : Int) ≤ (0 : Int) ∧ (0 : Int) < (↑a2.length : Int) then if (0 : Int) ≤ (1 : Int) ∧ (1 : Int) < (↑a2.length : Int) then if (0 : Int) ≤ (0 : Int) ∧ (0 : Int) < (↑a2.length : Int) then if (0 : Int) ≤ (1 : Int) ∧ (1 : Int) < (↑a2.length : Int) then some (Span.mk (i64.wrap (a2[0]!.fLow - a2[1]!.fHigh)) (i64.wrap (a2[0]!.fHigh - a2[1]!.fLow))) else none else none else none else none else bif decide (a1.fOp = 10) then if (0 : Int) ≤ (0 : Int) ∧ (0 : Int) < (↑a2.length : Int) then if (0 : Int) ≤ (1 : Int) ∧ (1 : Int) < (↑a2.length : Int) then match m297 a2[0]! a2[1]! with | none => none | some r1 => some (r1) else none else none else bif decide (a1.fOp = 11) then if (0 : Int) ≤ (0 : Int) ∧ (0 : Int) < (↑a2.length : Int) then if (0 : Int) ≤ (0 : Int) ∧ (0 : Int) < (↑a2.length : Int) then match if (0 : Int) ≤ (0 : Int) ∧ (0 : Int) < (↑a2.length : Int) then bif decide (0 ≤ a2[0]!.fLow) then if (0 : Int) ≤ (1 : Int) ∧ (1 : Int) < (↑a2.length : Int) then some (decide (0 ≤ a2[1]!.fLow)) else none else some (false) else none with | none => none | some r2 => bif r2 then some (Span.mk (0) (if a2[0]!.fHigh < i64.wrap (0 - a2[0]!.fLow) then i64.wrap (0 - a2[0]!.fLow) else a2[0]!.fHigh)) else some (Span.mk (i64.wrap (0 - if a2[0]!.fHigh < i64.wrap (0 - a2[0]!.fLow) then i64.wrap (0 - a2[0]!.fLow) else a2[0]!.fHigh)) (if a2[0]!.fHigh < i64.wrap (0 - a2[0]!.fLow) then i64.wrap (0 - a2[0]!.fLow) else a2[0]!.fHigh)) else none else none else bif decide (a1.fOp = 12) then if (0 : Int) ≤ (1 : Int) ∧ (1 : Int) < (↑a2.length : Int) then bif decide (a2[1]!.fLow < 0) then if (0 : Int) ≤ (1 : Int) ∧ (1 : Int) < (↑a2.length : Int) then if (0 : Int) ≤ (1 : Int) ∧ (1 : Int) < (↑a2.length : Int) then bif decide (0 < a2[1]!.fHigh) then if (0 : Int) ≤ (1 : Int) ∧ (1 : Int) < (↑a2.length : Int) then some (Span.mk (if 0 < i64.wrap (a2[1]!.fLow + 1) then 0 else i64.wrap (a2[1]!.fLow + 1)) (if i64.wrap (a2[1]!.fHigh - 1) < 0 then 0 else i64.wrap (a2[1]!.fHigh - 1))) else none else some (Span.mk (if 0 < i64.wrap (a2[1]!.fLow + 1) then 0 else i64.wrap (a2[1]!.fLow + 1)) (0)) else none else none else if (0 : Int) ≤ (1 : Int) ∧ (1 : Int) < (↑a2.length : Int) then bif decide (0 < a2[1]!.fHigh) then if (0 : Int) ≤ (1 : Int) ∧ (1 : Int) < (↑a2.length : Int) then some (Span.mk (0) (if i64.wrap (a2[1]!.fHigh - 1) < 0 then 0 else i64.wrap (a2[1]!.fHigh - 1))) else none else some (Span.mk (0) (0)) else none else none else bif decide (a1.fOp = 21) then if (0 : Int) ≤ (0 : Int) ∧ (0 : Int) < (↑a2.length : Int) then if (0 : Int) ≤ (1 : Int) ∧ (1 : Int) < (↑a2.length : Int) then if (0 : Int) ≤ (0 : Int) ∧ (0 : Int) < (↑a2.length : Int) then if (0 : Int) ≤ (1 : Int) ∧ (1 : Int) < (↑a2.length : Int) then some (Span.mk (if a2[1]!.fLow < a2[0]!.fLow then a2[1]!.fLow else a2[0]!.fLow) (if a2[1]!.fHigh < a2[0]!.fHigh then a2[1]!.fHigh else a2[0]!.fHigh)) else none else none else none else none else bif decide (a1.fOp = 22) then if (0 : Int) ≤ (0 : Int) ∧ (0 : Int) < (↑a2.length : Int) then if (0 : Int) ≤ (1 : Int) ∧ (1 : Int) < (↑a2.length : Int) then if (0 : Int) ≤ (0 : Int) ∧ (0 : Int) < (↑a2.length : Int) then if (0 : Int) ≤ (1 : Int) ∧ (1 : Int) < (↑a2.length : Int) then some (Span.mk (if a2[0]!.fLow < a2[1]!.fLow then a2[1]!.fLow else a2[0]!.fLow) (if a2[0]!.fHigh < a2[1]!.fHigh then a2[1]!.fHigh else a2[0]!.fHigh)) else none else none else none else none else bif decide (a1.fOp = 23) then if (0 : Int) ≤ (1 : Int) ∧ (1 : Int) < (↑a2.length : Int) then if (0 : Int) ≤ (2 : Int) ∧ (2 : Int) ≤ (↑a2.length : Int) then match a279_0 (L279_0.mk (List.drop 2 a2) (↑(List.drop 2 a2).length : Int) (0) (Span.mk (0) (0)) a2[1]!) with | none => none | some r3 => bif decide (r3.t209 < r3.t208) then if (0 : Int) ≤ r3.t209 ∧ r3.t209 < (↑r3.t207.length : Int) then none else none else some (r3.b1) else none else none else bif decide (a1.fOp = 25) then if (0 : Int) ≤ (1 : Int) ∧ (1 : Int) < (↑a2.length : Int) then if (0 : Int) ≤ (2 : Int) ∧ (2 : Int) ≤ (↑a2.length : Int) then match a279_0 (L279_0.mk (List.drop 2 a2) (↑(List.drop 2 a2).length : Int) (0) (Span.mk (0) (0)) a2[1]!) with | none => none | some r4 => bif decide (r4.t209 < r4.t208) then if (0 : Int) ≤ r4.t209 ∧ r4.t209 < (↑r4.t207.length : Int) then none else none else some (r4.b1) else none else none else some (Span.mk (0) (1))
theorem c279 (a0 : List GVar) (a1 : GTerm) (a2 : List Span) : callR Tryz.prog (F279) 300 (an279) 279 (A279.c (a0, a1, a2, ())) [] 0 d279.rd = m279 a0 a1 a2 := by kernel_rfl
def e279 : Orc → Orc := eL Tryz.prog 279 false A279 d279 (fun g => m279 g.1 g.2.1 g.2.2.1)
theorem e279_ok {F : Orc} (h : OrcG Tryz.prog F) : OrcG Tryz.prog (e279 F) := eL_ok (sc := scU) scU_ok (hl_of F279_ok fa279 (fun _ => by kernel_rfl) (fun _ => by kernel_rfl) fun g => c279 g.1 g.2.1 g.2.2.1) ⟨_, Tryz.func279, by kernel_rfl, by kernel_rfl⟩ (fun _ => by kernel_rfl) (fun _ => by kernel_rfl) h
abbrev E229 : Type := Span × Bool
def d229 : Td 0 E229 := .c [] [4, 5] (.r 0 1 (ec 4 (qp 0 0) (ec 5 qb en)) (sb 0 317 (lg 317) sn) (fun z => (z.2.1, z.1.2.1)) (fun x => (((), x.2, ()), (x.1, ()))) fun _ => rfl)
def A229 := (lc (ql 108) (lc (qg 106) ln))
def x229 (M : (List GVar) → GTerm → Option E229) : Orc → Orc := eL Tryz.prog 229 false A229 d229 (fun g => M g.1 g.2.1)
def H229 (M : (List GVar) → GTerm → Option E229) : Prop := HL Tryz.prog 229 A229 d229 (fun g => M g.1 g.2.1)
theorem x229_ok {M : (List GVar) → GTerm → Option E229} (hM : H229 M) {F : Orc} (h : OrcG Tryz.prog F) : OrcG Tryz.prog (x229 M F) := eL_ok (sc := scU) scU_ok hM ⟨_, Tryz.func229, by kernel_rfl, by kernel_rfl⟩ (fun _ => by kernel_rfl) (fun _ => by kernel_rfl) h
def F229 (M229 : (List GVar) → GTerm → Option E229) : Orc := (e279 (x229 M229 or0))
theorem F229_ok {M229} (h229 : H229 M229) : OrcG Tryz.prog (F229 M229) := (e279_ok (x229_ok h229 or0_g))
structure L229_0 where
 t0 : List GVar
 t6 : List Span
 t13 : List GTerm
 t14 : Int
 t15 : Int
 b0 : GTerm
 b1 : Span
def d229_0 : Td 0 L229_0 := .c [] [0, 3, 4, 6, 13, 14, 15] (.t (TurnOk.s 6 [] 317) (.c [] [0, 3, 4, 6, 13, 14, 15] (.r 0 3 (ec 0 (ql 108) (ec 3 (qp 0 0) (ec 4 (qp 1 0) (ec 6 (qo 2) (ec 13 (ql 106) (ec 14 (qi .i64) (ec 15 (qi .i64) en))))))) (sb 0 106 (lg 106) (sb 1 317 (lg 317) (sr 2 317 sn))) (fun z => ⟨z.1.1, z.2.2.2.1, z.1.2.2.2.2.1, z.1.2.2.2.2.2.1, z.1.2.2.2.2.2.2.1, z.2.1, z.2.2.1⟩) (fun x => ((x.t0, (), (), (), x.t13, x.t14, x.t15, ()), (x.b0, x.b1, x.t6, ()))) fun _ => rfl)))
def n229_0 (M229 : (List GVar) → GTerm → Option E229) (p : L229_0) : Option (Option L229_0) :=
 bif decide (p.t15 < p.t14) then if (0 : Int) ≤ p.t15 ∧ p.t15 < (↑p.t13.length : Int) then match M229 p.t0 (GTerm.mk p.t13[p.t15.toNat]!.fOp p.t13[p.t15.toNat]!.fN p.t13[p.t15.toNat]!.fKids) with | none => none | some r1 => bif bif r1.snd then false else true then some (none) else if (p.t6 ++ [r1.fst]).length ≤ 1073741824 then some (some (L229_0.mk p.t0 (p.t6 ++ [r1.fst]) p.t13 p.t14 (i64.wrap (p.t15 + 1)) (GTerm.mk p.b0.fOp p.b0.fN p.b0.fKids) p.b1)) else none else none else some (none)
theorem q229_0 (M229 : (List GVar) → GTerm → Option E229) (p : L229_0) : execA Tryz.prog (F229 M229) Tryz.f229.ntmps 300 (loopAt Tryz.f229 0) .no (Option L229_0) (d229_0.pat p) (kOn d229_0.rd) = n229_0 M229 p := by kernel_rfl
def a229_0 (M229 : (List GVar) → GTerm → Option E229) : L229_0 → Option L229_0 := advG (n229_0 M229)
def an229 (M229 : (List GVar) → GTerm → Option E229) : An := (.two .no (.two .no (.two (.two .no (d229_0.lp (a229_0 M229) .no)) .no)))
theorem fa229 (M229 : (List GVar) → GTerm → Option E229) : FnAn Tryz.prog (F229 M229) 0 300 229 (an229 M229) := fnAn_of (l := [(loopAt Tryz.f229 0, (d229_0.lp (a229_0 M229) .no))]) Tryz.func229 (bodyOf_eq (by kernel_rfl)) (by kernel_rfl) (ob_cons ⟨d229_0.ok _, advG_ok (q229_0 M229)⟩ ob_nil)
def s229 (M229 : (List GVar) → GTerm → Option E229) (a0 : List GVar) (a1 : GTerm) : Option E229 :=
 match a229_0 M229 (L229_0.mk a0 [] a1.fKids (↑a1.fKids.length : Int) (0) (GTerm.mk a1.fOp a1.fN a1.fKids) (Span.mk (0) (0))) with | none => none | some r2 => bif decide (r2.t15 < r2.t14) then if (0 : Int) ≤ r2.t15 ∧ r2.t15 < (↑r2.t13.length : Int) then match M229 r2.t0 (GTerm.mk r2.t13[r2.t15.toNat]!.fOp r2.t13[r2.t15.toNat]!.fN r2.t13[r2.t15.toNat]!.fKids) with | none => none | some r3 => bif bif r3.snd then false else true then some ((Span.mk (0) (0), false)) else if (r2.t6 ++ [r3.fst]).length ≤ 1073741824 then none else none else none else match m279 r2.t0 (GTerm.mk r2.b0.fOp r2.b0.fN r2.b0.fKids) r2.t6 with | none => none | some r4 => bif decide (-1048576 ≤ r4.fLow) then some ((r4, decide (r4.fHigh ≤ 1048576))) else some ((r4, false))
theorem c229 (M229 : (List GVar) → GTerm → Option E229) (a0 : List GVar) (a1 : GTerm) : callR Tryz.prog (F229 M229) 300 (an229 M229) 229 (A229.c (a0, a1, ())) [] 0 d229.rd = s229 M229 a0 a1 := by kernel_rfl
def mm229 : Nat → ((List GVar) → GTerm → Option E229)
 | 0 => (fun _ _ => none)
 | n + 1 => (s229 (mm229 n))
def m229 (n : Nat) : (List GVar) → GTerm → Option E229 := (mm229 n)
theorem mm229_ok : ∀ n, H229 (m229 n)
 | 0 => fun _ _ h => (by cases h)
 | n + 1 => by
  have ih := mm229_ok n
  have i229 := ih
  exact (hl_of (F229_ok i229) (fa229 (m229 n)) (fun _ => by kernel_rfl) (fun _ => by kernel_rfl) fun g => c229 (m229 n) g.1 g.2.1)
def r229 : (List GVar) → GTerm → Option E229 := fun a0 a1 => lim (fun n => m229 n a0 a1)
theorem r229_ok : H229 r229 := fun g b h => by
 obtain ⟨n, hn⟩ := lim_some (show lim (fun n => m229 n g.1 g.2.1) = some b from h)
 exact (mm229_ok n) g b hn
def e229 (F : Orc) : Orc := x229 r229 F
theorem e229_ok {F : Orc} (h : OrcG Tryz.prog F) : OrcG Tryz.prog (e229 F) := x229_ok r229_ok h
def F169 : Orc := (e229 (e228 or0))
theorem F169_ok : OrcG Tryz.prog F169 := (e229_ok (e228_ok or0_g))
abbrev E169 : Type := Int
def d169 : Td 0 E169 := .c [] [6] (.r 0 0 (ec 6 (qi .i64) en) sn (fun z => z.1.1) (fun x => ((x, ()), (()))) fun _ => rfl)
def A169 := (lc (ql 108) (lc (qg 106) (lc qb ln)))
def an169 : An := .no
theorem fa169 : FnAn Tryz.prog (F169) 0 300 169 (an169) := fnAn_of (l := []) Tryz.func169 (bodyOf_eq (by kernel_rfl)) (by kernel_rfl) ob_nil
def m169 (a0 : List GVar) (a1 : GTerm) (a2 : Bool) : Option E169 :=
 match r228 a0 (GTerm.mk a1.fOp a1.fN a1.fKids) a2 with | none => none | some r1 => bif bif r1 then false else true then some (1) else match r229 a0 (GTerm.mk a1.fOp a1.fN a1.fKids) with | none => none | some r2 => bif bif r2.snd then false else true then some (3) else some (0)
theorem c169 (a0 : List GVar) (a1 : GTerm) (a2 : Bool) : callR Tryz.prog (F169) 300 (an169) 169 (A169.c (a0, a1, a2, ())) [] 0 d169.rd = m169 a0 a1 a2 := by kernel_rfl
def e169 : Orc → Orc := eL Tryz.prog 169 false A169 d169 (fun g => m169 g.1 g.2.1 g.2.2.1)
theorem e169_ok {F : Orc} (h : OrcG Tryz.prog F) : OrcG Tryz.prog (e169 F) := eL_ok (sc := scU) scU_ok (hl_of F169_ok fa169 (fun _ => by kernel_rfl) (fun _ => by kernel_rfl) fun g => c169 g.1 g.2.1 g.2.2.1) ⟨_, Tryz.func169, by kernel_rfl, by kernel_rfl⟩ (fun _ => by kernel_rfl) (fun _ => by kernel_rfl) h
theorem e169_pure {F : Orc} {f : Nat} (h : PureF F f) : PureF (e169 F) f := orL_pure h (fun _ => by kernel_rfl)
def F99 : Orc := (e169 (e168 (e165 (e163 or0))))
theorem F99_ok : OrcG Tryz.prog F99 := (e169_ok (e168_ok (e165_ok (e163_ok or0_g))))
structure L99_0 where
 t8 : List Hatch
 t9 : Int
 t10 : Int
 b0 : Flat
def d99_0 : Td 0 L99_0 := .c [] [1, 8, 9, 10] (.r 0 1 (ec 1 (qp 0 0) (ec 8 (ql 116) (ec 9 (qi .i64) (ec 10 (qi .i64) en)))) (sb 0 26 (lg 26) sn) (fun z => ⟨z.1.2.1, z.1.2.2.1, z.1.2.2.2.1, z.2.1⟩) (fun x => (((), x.t8, x.t9, x.t10, ()), (x.b0, ()))) fun _ => rfl)
def n99_0 (p : L99_0) : Option (Option L99_0) :=
 bif decide (p.t10 < p.t9) then if (0 : Int) ≤ p.t10 ∧ p.t10 < (↑p.t8.length : Int) then match m163 p.t8[p.t10.toNat]!.fName with | none => none | some r1 => bif bif r1 then false else true then some (none) else if (0 : Int) ≤ p.t10 ∧ p.t10 ≤ (↑p.b0.fHatches.length : Int) then match m168 (List.take p.t10.toNat p.b0.fHatches) (Hatch.mk p.t8[p.t10.toNat]!.fName p.t8[p.t10.toNat]!.fLow p.t8[p.t10.toNat]!.fHigh (GTerm.mk p.t8[p.t10.toNat]!.fTerm.fOp p.t8[p.t10.toNat]!.fTerm.fN p.t8[p.t10.toNat]!.fTerm.fKids)) with | none => none | some r2 => bif r2 then some (none) else bif bif m165 p.t8[p.t10.toNat]!.fLow p.t8[p.t10.toNat]!.fHigh then false else true then some (none) else match m169 p.b0.fVars (GTerm.mk p.t8[p.t10.toNat]!.fTerm.fOp p.t8[p.t10.toNat]!.fTerm.fN p.t8[p.t10.toNat]!.fTerm.fKids) true with | none => none | some r3 => bif bif decide (r3 = 0) then false else true then some (none) else some (some (L99_0.mk p.t8 p.t9 (i64.wrap (p.t10 + 1)) p.b0)) else none else none else some (none)
theorem q99_0 (p : L99_0) : execA Tryz.prog (F99) Tryz.f99.ntmps 300 (loopAt Tryz.f99 0) .no (Option L99_0) (d99_0.pat p) (kOn d99_0.rd) = n99_0 p := by kernel_rfl
def a99_0 : L99_0 → Option L99_0 := advG (n99_0)
abbrev E99 : Type := Int
def d99 : Td 0 E99 := .c [] [2] (.r 0 0 (ec 2 (qi .i64) en) sn (fun z => z.1.1) (fun x => ((x, ()), (()))) fun _ => rfl)
def A99 := (lc (qg 26) ln)
def an99 : An := (.two .no (.two (.two .no (d99_0.lp a99_0 .no)) .no))
theorem fa99 : FnAn Tryz.prog (F99) 0 300 99 (an99) := fnAn_of (l := [(loopAt Tryz.f99 0, (d99_0.lp a99_0 .no))]) Tryz.func99 (bodyOf_eq (by kernel_rfl)) (by kernel_rfl) (ob_cons ⟨d99_0.ok _, advG_ok (q99_0)⟩ ob_nil)
def m99 (a0 : Flat) : Option E99 :=
 match a99_0 (L99_0.mk a0.fHatches (↑a0.fHatches.length : Int) (0) a0) with | none => none | some r4 => bif decide (r4.t10 < r4.t9) then if (0 : Int) ≤ r4.t10 ∧ r4.t10 < (↑r4.t8.length : Int) then match m163 r4.t8[r4.t10.toNat]!.fName with | none => none | some r5 => bif bif r5 then false else true then some (7) else if (0 : Int) ≤ r4.t10 ∧ r4.t10 ≤ (↑r4.b0.fHatches.length : Int) then match m168 (List.take r4.t10.toNat r4.b0.fHatches) (Hatch.mk r4.t8[r4.t10.toNat]!.fName r4.t8[r4.t10.toNat]!.fLow r4.t8[r4.t10.toNat]!.fHigh (GTerm.mk r4.t8[r4.t10.toNat]!.fTerm.fOp r4.t8[r4.t10.toNat]!.fTerm.fN r4.t8[r4.t10.toNat]!.fTerm.fKids)) with | none => none | some r6 => bif r6 then some (8) else bif bif m165 r4.t8[r4.t10.toNat]!.fLow r4.t8[r4.t10.toNat]!.fHigh then false else true then some (3) else match m169 r4.b0.fVars (GTerm.mk r4.t8[r4.t10.toNat]!.fTerm.fOp r4.t8[r4.t10.toNat]!.fTerm.fN r4.t8[r4.t10.toNat]!.fTerm.fKids) true with | none => none | some r7 => bif bif decide (r7 = 0) then false else true then some (r7) else none else none else none else some (0)
theorem c99 (a0 : Flat) : callR Tryz.prog (F99) 300 (an99) 99 (A99.c (a0, ())) [] 0 d99.rd = m99 a0 := by kernel_rfl
def e99 : Orc → Orc := eL Tryz.prog 99 false A99 d99 (fun g => m99 g.1)
theorem e99_ok {F : Orc} (h : OrcG Tryz.prog F) : OrcG Tryz.prog (e99 F) := eL_ok (sc := scU) scU_ok (hl_of F99_ok fa99 (fun _ => by kernel_rfl) (fun _ => by kernel_rfl) fun g => c99 g.1) ⟨_, Tryz.func99, by kernel_rfl, by kernel_rfl⟩ (fun _ => by kernel_rfl) (fun _ => by kernel_rfl) h
def F230 : Orc := or0
theorem F230_ok : OrcG Tryz.prog F230 := or0_g
abbrev E230 : Type := Bool
def d230 : Td 0 E230 := .c [] [2] (.r 0 0 (ec 2 qb en) sn (fun z => z.1.1) (fun x => ((x, ()), (()))) fun _ => rfl)
def A230 := (lc (qi .i64) ln)
def an230 : An := (.two .no (.two (.rb [] 2) .no))
theorem pu230  : ∀ f ∈ ([] : List Nat), PureF (F230) f := ob_nil
theorem fa230 : FnAn Tryz.prog (F230) 0 300 230 (an230) := fnAn_of (l := [(.skip, (.rb [] 2))]) Tryz.func230 (bodyOf_eq (by kernel_rfl)) (by kernel_rfl) (ob_cons pu230 ob_nil)
def m230 (a0 : Int) : E230 :=
 let r1 : Bool := bif decide (a0 = 0) then true else decide (a0 = 5); r1
theorem c230 (a0 : Int) : callR Tryz.prog (F230) 300 (an230) 230 (A230.c (a0, ())) [] 0 d230.rd = some (m230 a0) := by
 refine Eq.trans (b := (
  match bif decide (a0 = 0) then some (true) else some (decide (a0 = 5)) with | none => none | some r1 => some (r1) : Option E230)) (by kernel_rfl) ?_
 simp only [m230, cond_some, ite_some]
def e230 : Orc → Orc := eL Tryz.prog 230 false A230 d230 (fun g => some (m230 g.1))
theorem e230_ok {F : Orc} (h : OrcG Tryz.prog F) : OrcG Tryz.prog (e230 F) := eL_ok (sc := scU) scU_ok (hl_of F230_ok fa230 (fun _ => by kernel_rfl) (fun _ => by kernel_rfl) fun g => c230 g.1) ⟨_, Tryz.func230, by kernel_rfl, by kernel_rfl⟩ (fun _ => by kernel_rfl) (fun _ => by kernel_rfl) h
theorem e230_pure {F : Orc} {f : Nat} (h : PureF F f) : PureF (e230 F) f := orL_pure h (fun _ => by kernel_rfl)
def F231 : Orc := or0
theorem F231_ok : OrcG Tryz.prog F231 := or0_g
abbrev E231 : Type := Bool
def d231 : Td 0 E231 := .c [] [2] (.r 0 0 (ec 2 qb en) sn (fun z => z.1.1) (fun x => ((x, ()), (()))) fun _ => rfl)
def A231 := (lc (qi .i64) ln)
def an231 : An := (.two .no (.two (.rb [] 2) .no))
theorem pu231  : ∀ f ∈ ([] : List Nat), PureF (F231) f := ob_nil
theorem fa231 : FnAn Tryz.prog (F231) 0 300 231 (an231) := fnAn_of (l := [(.skip, (.rb [] 2))]) Tryz.func231 (bodyOf_eq (by kernel_rfl)) (by kernel_rfl) (ob_cons pu231 ob_nil)
def m231 (a0 : Int) : E231 :=
 let r1 : Bool := bif decide (a0 = 4) then true else decide (a0 = 5); r1
theorem c231 (a0 : Int) : callR Tryz.prog (F231) 300 (an231) 231 (A231.c (a0, ())) [] 0 d231.rd = some (m231 a0) := by
 refine Eq.trans (b := (
  match bif decide (a0 = 4) then some (true) else some (decide (a0 = 5)) with | none => none | some r1 => some (r1) : Option E231)) (by kernel_rfl) ?_
 simp only [m231, cond_some, ite_some]
def e231 : Orc → Orc := eL Tryz.prog 231 false A231 d231 (fun g => some (m231 g.1))
theorem e231_ok {F : Orc} (h : OrcG Tryz.prog F) : OrcG Tryz.prog (e231 F) := eL_ok (sc := scU) scU_ok (hl_of F231_ok fa231 (fun _ => by kernel_rfl) (fun _ => by kernel_rfl) fun g => c231 g.1) ⟨_, Tryz.func231, by kernel_rfl, by kernel_rfl⟩ (fun _ => by kernel_rfl) (fun _ => by kernel_rfl) h
theorem e231_pure {F : Orc} {f : Nat} (h : PureF F f) : PureF (e231 F) f := orL_pure h (fun _ => by kernel_rfl)
def F232 : Orc := or0
theorem F232_ok : OrcG Tryz.prog F232 := or0_g
abbrev E232 : Type := Bool
def d232 : Td 0 E232 := .c [] [2] (.r 0 0 (ec 2 qb en) sn (fun z => z.1.1) (fun x => ((x, ()), (()))) fun _ => rfl)
def A232 := (lc (qi .i64) ln)
def an232 : An := (.two .no (.two (.rb [] 2) .no))
theorem pu232  : ∀ f ∈ ([] : List Nat), PureF (F232) f := ob_nil
theorem fa232 : FnAn Tryz.prog (F232) 0 300 232 (an232) := fnAn_of (l := [(.skip, (.rb [] 2))]) Tryz.func232 (bodyOf_eq (by kernel_rfl)) (by kernel_rfl) (ob_cons pu232 ob_nil)
def m232 (a0 : Int) : E232 :=
 let r1 : Bool := bif decide (a0 = 0) then true else bif decide (a0 = 1) then true else bif decide (a0 = 3) then true else decide (a0 = 4); r1
theorem c232 (a0 : Int) : callR Tryz.prog (F232) 300 (an232) 232 (A232.c (a0, ())) [] 0 d232.rd = some (m232 a0) := by
 refine Eq.trans (b := (
  match bif decide (a0 = 0) then some (true) else bif decide (a0 = 1) then some (true) else bif decide (a0 = 3) then some (true) else some (decide (a0 = 4)) with | none => none | some r1 => some (r1) : Option E232)) (by kernel_rfl) ?_
 simp only [m232, cond_some, ite_some]
def e232 : Orc → Orc := eL Tryz.prog 232 false A232 d232 (fun g => some (m232 g.1))
theorem e232_ok {F : Orc} (h : OrcG Tryz.prog F) : OrcG Tryz.prog (e232 F) := eL_ok (sc := scU) scU_ok (hl_of F232_ok fa232 (fun _ => by kernel_rfl) (fun _ => by kernel_rfl) fun g => c232 g.1) ⟨_, Tryz.func232, by kernel_rfl, by kernel_rfl⟩ (fun _ => by kernel_rfl) (fun _ => by kernel_rfl) h
theorem e232_pure {F : Orc} {f : Nat} (h : PureF F f) : PureF (e232 F) f := orL_pure h (fun _ => by kernel_rfl)
def F233 : Orc := or0
theorem F233_ok : OrcG Tryz.prog F233 := or0_g
abbrev E233 : Type := Bool
def d233 : Td 0 E233 := .c [] [2] (.r 0 0 (ec 2 qb en) sn (fun z => z.1.1) (fun x => ((x, ()), (()))) fun _ => rfl)
def A233 := (lc (qg 106) ln)
def an233 : An := (.two .no (.two (.rb [] 2) .no))
theorem pu233  : ∀ f ∈ ([] : List Nat), PureF (F233) f := ob_nil
theorem fa233 : FnAn Tryz.prog (F233) 0 300 233 (an233) := fnAn_of (l := [(.skip, (.rb [] 2))]) Tryz.func233 (bodyOf_eq (by kernel_rfl)) (by kernel_rfl) (ob_cons pu233 ob_nil)
def m233 (a0 : GTerm) : E233 :=
 let r1 : Bool := bif decide (a0.fOp = 0) then bif decide (a0.fN = 0) then decide ((↑a0.fKids.length : Int) = 0) else false else false; r1
theorem c233 (a0 : GTerm) : callR Tryz.prog (F233) 300 (an233) 233 (A233.c (a0, ())) [] 0 d233.rd = some (m233 a0) := by
 refine Eq.trans (b := (
  match bif decide (a0.fOp = 0) then bif decide (a0.fN = 0) then some (decide ((↑a0.fKids.length : Int) = 0)) else some (false) else some (false) with | none => none | some r1 => some (r1) : Option E233)) (by kernel_rfl) ?_
 simp only [m233, cond_some, ite_some]
def e233 : Orc → Orc := eL Tryz.prog 233 false A233 d233 (fun g => some (m233 g.1))
theorem e233_ok {F : Orc} (h : OrcG Tryz.prog F) : OrcG Tryz.prog (e233 F) := eL_ok (sc := scU) scU_ok (hl_of F233_ok fa233 (fun _ => by kernel_rfl) (fun _ => by kernel_rfl) fun g => c233 g.1) ⟨_, Tryz.func233, by kernel_rfl, by kernel_rfl⟩ (fun _ => by kernel_rfl) (fun _ => by kernel_rfl) h
theorem e233_pure {F : Orc} {f : Nat} (h : PureF F f) : PureF (e233 F) f := orL_pure h (fun _ => by kernel_rfl)
def F234 : Orc := or0
theorem F234_ok : OrcG Tryz.prog F234 := or0_g
structure L234_0 where
 t0 : List Int
 t5 : Int
 t6 : Int
def d234_0 : Td 0 L234_0 := .c [] [0, 5, 6] (.r 0 0 (ec 0 (ql 3) (ec 5 (qi .i64) (ec 6 (qi .i64) en))) sn (fun z => ⟨z.1.1, z.1.2.1, z.1.2.2.1⟩) (fun x => ((x.t0, x.t5, x.t6, ()), (()))) fun _ => rfl)
def n234_0 (p : L234_0) : Option (Option L234_0) :=
 bif decide (p.t6 < p.t5) then bif decide (0 < p.t6) then if (0 : Int) ≤ p.t6 ∧ p.t6 < (↑p.t0.length : Int) then if (0 : Int) ≤ i64.wrap (p.t6 - (1 : Int)) ∧ i64.wrap (p.t6 - (1 : Int)) < (↑p.t0.length : Int) then bif decide (p.t0[p.t6.toNat]! ≤ p.t0[(i64.wrap (p.t6 - 1)).toNat]!) then some (none) else some (some (L234_0.mk p.t0 p.t5 (i64.wrap (p.t6 + 1)))) else none else none else some (some (L234_0.mk p.t0 p.t5 (i64.wrap (p.t6 + 1)))) else some (none)
theorem q234_0 (p : L234_0) : execA Tryz.prog (F234) Tryz.f234.ntmps 300 (loopAt Tryz.f234 0) .no (Option L234_0) (d234_0.pat p) (kOn d234_0.rd) = n234_0 p := by kernel_rfl
def a234_0 : L234_0 → Option L234_0 := advG (n234_0)
abbrev E234 : Type := Bool
def d234 : Td 0 E234 := .c [] [2] (.r 0 0 (ec 2 qb en) sn (fun z => z.1.1) (fun x => ((x, ()), (()))) fun _ => rfl)
def A234 := (lc (ql 3) ln)
def an234 : An := (.two .no (.two (.two .no (d234_0.lp a234_0 .no)) .no))
theorem fa234 : FnAn Tryz.prog (F234) 0 300 234 (an234) := fnAn_of (l := [(loopAt Tryz.f234 0, (d234_0.lp a234_0 .no))]) Tryz.func234 (bodyOf_eq (by kernel_rfl)) (by kernel_rfl) (ob_cons ⟨d234_0.ok _, advG_ok (q234_0)⟩ ob_nil)
def m234 (a0 : List Int) : Option E234 :=
 match a234_0 (L234_0.mk a0 (↑a0.length : Int) (0)) with | none => none | some r1 => bif decide (r1.t6 < r1.t5) then bif decide (0 < r1.t6) then if (0 : Int) ≤ r1.t6 ∧ r1.t6 < (↑r1.t0.length : Int) then if (0 : Int) ≤ i64.wrap (r1.t6 - (1 : Int)) ∧ i64.wrap (r1.t6 - (1 : Int)) < (↑r1.t0.length : Int) then bif decide (r1.t0[r1.t6.toNat]! ≤ r1.t0[(i64.wrap (r1.t6 - 1)).toNat]!) then some (false) else none else none else none else none else some (true)
theorem c234 (a0 : List Int) : callR Tryz.prog (F234) 300 (an234) 234 (A234.c (a0, ())) [] 0 d234.rd = m234 a0 := by kernel_rfl
def e234 : Orc → Orc := eL Tryz.prog 234 false A234 d234 (fun g => m234 g.1)
theorem e234_ok {F : Orc} (h : OrcG Tryz.prog F) : OrcG Tryz.prog (e234 F) := eL_ok (sc := scU) scU_ok (hl_of F234_ok fa234 (fun _ => by kernel_rfl) (fun _ => by kernel_rfl) fun g => c234 g.1) ⟨_, Tryz.func234, by kernel_rfl, by kernel_rfl⟩ (fun _ => by kernel_rfl) (fun _ => by kernel_rfl) h
theorem e234_pure {F : Orc} {f : Nat} (h : PureF F f) : PureF (e234 F) f := orL_pure h (fun _ => by kernel_rfl)
def F170 : Orc := (e234 (e233 (e232 (e231 (e230 or0)))))
theorem F170_ok : OrcG Tryz.prog F170 := (e234_ok (e233_ok (e232_ok (e231_ok (e230_ok or0_g)))))
abbrev E170 : Type := Bool
def d170 : Td 0 E170 := .c [] [6] (.r 0 0 (ec 6 qb en) sn (fun z => z.1.1) (fun x => ((x, ()), (()))) fun _ => rfl)
def A170 := (lc (qg 26) (lc (qg 111) (lc qb ln)))
def an170 : An := (.two .no (.two .no (.two (.two (.two (.rb [230, 231, 232, 233, 234] 10) (.two .no (.two (.rb [230, 231, 232, 233, 234] 10) (.two .no (.two (.rb [230, 231, 232, 233, 234] 10) (.two .no (.two (.rb [230, 231, 232, 233, 234] 10) (.two .no (.two (.rb [230, 231, 232, 233, 234] 10) (.two .no (.two (.rb [230, 231, 232, 233, 234] 10) (.two .no (.two (.rb [230, 231, 232, 233, 234] 10) (.two .no (.two (.rb [230, 231, 232, 233, 234] 10) (.two .no (.rb [230, 231, 232, 233, 234] 10))))))))))))))))) .no) (.two (.rb [230, 231, 232, 233, 234] 6) .no))))
theorem pu170  : ∀ f ∈ ([230, 231, 232, 233, 234] : List Nat), PureF (F170) f := (ob_cons (e234_pure (e233_pure (e232_pure (e231_pure (e230_pure or0_pure))))) (ob_cons (e234_pure (e233_pure (e232_pure (e231_pure (e230_pure or0_pure))))) (ob_cons (e234_pure (e233_pure (e232_pure (e231_pure (e230_pure or0_pure))))) (ob_cons (e234_pure (e233_pure (e232_pure (e231_pure (e230_pure or0_pure))))) (ob_cons (e234_pure (e233_pure (e232_pure (e231_pure (e230_pure or0_pure))))) ob_nil)))))
theorem fa170 : FnAn Tryz.prog (F170) 0 300 170 (an170) := fnAn_of (l := [(.skip, (.rb [230, 231, 232, 233, 234] 10)), (.skip, (.rb [230, 231, 232, 233, 234] 10)), (.skip, (.rb [230, 231, 232, 233, 234] 10)), (.skip, (.rb [230, 231, 232, 233, 234] 10)), (.skip, (.rb [230, 231, 232, 233, 234] 10)), (.skip, (.rb [230, 231, 232, 233, 234] 10)), (.skip, (.rb [230, 231, 232, 233, 234] 10)), (.skip, (.rb [230, 231, 232, 233, 234] 10)), (.skip, (.rb [230, 231, 232, 233, 234] 10)), (.skip, (.rb [230, 231, 232, 233, 234] 6))]) Tryz.func170 (bodyOf_eq (by kernel_rfl)) (by kernel_rfl) (ob_cons pu170 (ob_cons pu170 (ob_cons pu170 (ob_cons pu170 (ob_cons pu170 (ob_cons pu170 (ob_cons pu170 (ob_cons pu170 (ob_cons pu170 (ob_cons pu170 ob_nil))))))))))
def m170 (a0 : Flat) (a1 : GStep) (a2 : Bool) : Option E170 :=
 match bif decide (a1.fDo < 0) then some (true) else some (decide (6 < a1.fDo)) with | none => none | some r1 => bif r1 then some (false) else match bif bif m230 a1.fDo then false else true then some (bif decide (a1.fVar = 0) then false else true) else some (false) with | none => none | some r2 => bif r2 then some (false) else match bif bif m231 a1.fDo then false else true then some (bif decide (a1.fN = 0) then false else true) else some (false) with | none => none | some r3 => bif r3 then some (false) else match bif bif m232 a1.fDo then false else true then some (bif m233 (GTerm.mk a1.fTerm.fOp a1.fTerm.fN a1.fTerm.fKids) then false else true) else some (false) with | none => none | some r4 => bif r4 then some (false) else match bif bif decide (a1.fDo = 3) then false else true then bif bif decide (a1.fDo = 4) then false else true then some (decide (0 < (↑a1.fThen.length : Int))) else some (false) else some (false) with | none => none | some r5 => bif r5 then some (false) else match bif bif decide (a1.fDo = 3) then false else true then some (decide (0 < (↑a1.fElse.length : Int))) else some (false) with | none => none | some r6 => bif r6 then some (false) else match bif bif decide (a1.fDo = 6) then false else true then some (decide (0 < (↑a1.fBounds.length : Int))) else some (false) with | none => none | some r7 => bif r7 then some (false) else match bif m230 a1.fDo then bif decide (a1.fVar < 0) then some (true) else bif decide ((↑a0.fVars.length : Int) ≤ a1.fVar) then some (true) else if (0 : Int) ≤ a1.fVar ∧ a1.fVar < (↑a0.fVars.length : Int) then some (bif decide (a0.fVars[a1.fVar.toNat]!.fKind = 0) then false else true) else none else some (false) with | none => none | some r8 => bif r8 then some (false) else match bif decide (a1.fDo = 5) then bif decide (a1.fN < 0) then some (true) else some (decide ((↑a0.fHatches.length : Int) ≤ a1.fN)) else some (false) with | none => none | some r9 => bif r9 then some (false) else match bif bif decide (a1.fDo = 6) then false else true then some (true) else bif a2 then bif decide (0 < (↑a1.fBounds.length : Int)) then bif decide ((↑a1.fBounds.length : Int) ≤ 32) then if (0 : Int) ≤ (0 : Int) ∧ (0 : Int) < (↑a1.fBounds.length : Int) then bif decide (0 ≤ a1.fBounds[Int.toNat 0]!) then match m234 a1.fBounds with | none => none | some r10 => some (r10) else some (false) else none else some (false) else some (false) else some (false) with | none => none | some r11 => some (r11)
theorem c170 (a0 : Flat) (a1 : GStep) (a2 : Bool) : callR Tryz.prog (F170) 300 (an170) 170 (A170.c (a0, a1, a2, ())) [] 0 d170.rd = m170 a0 a1 a2 := by kernel_rfl
def e170 : Orc → Orc := eL Tryz.prog 170 false A170 d170 (fun g => m170 g.1 g.2.1 g.2.2.1)
theorem e170_ok {F : Orc} (h : OrcG Tryz.prog F) : OrcG Tryz.prog (e170 F) := eL_ok (sc := scU) scU_ok (hl_of F170_ok fa170 (fun _ => by kernel_rfl) (fun _ => by kernel_rfl) fun g => c170 g.1 g.2.1 g.2.2.1) ⟨_, Tryz.func170, by kernel_rfl, by kernel_rfl⟩ (fun _ => by kernel_rfl) (fun _ => by kernel_rfl) h
theorem e170_pure {F : Orc} {f : Nat} (h : PureF F f) : PureF (e170 F) f := orL_pure h (fun _ => by kernel_rfl)
def F171 : Orc := or0
theorem F171_ok : OrcG Tryz.prog F171 := or0_g
abbrev E171 : Type := Bool
def d171 : Td 0 E171 := .c [] [2] (.r 0 0 (ec 2 qb en) sn (fun z => z.1.1) (fun x => ((x, ()), (()))) fun _ => rfl)
def A171 := (lc (qg 111) ln)
def an171 : An := (.two .no (.two .no (.two .no (.two (.two (.rb [] 30) .no) (.two (.rb [] 2) .no)))))
theorem pu171  : ∀ f ∈ ([] : List Nat), PureF (F171) f := ob_nil
theorem fa171 : FnAn Tryz.prog (F171) 0 300 171 (an171) := fnAn_of (l := [(.skip, (.rb [] 30)), (.skip, (.rb [] 2))]) Tryz.func171 (bodyOf_eq (by kernel_rfl)) (by kernel_rfl) (ob_cons pu171 (ob_cons pu171 ob_nil))
def m171 (a0 : GStep) : Option E171 :=
 bif decide (a0.fDo = 2) then match bif decide (a0.fCost < 0) then some (true) else bif decide (67108864 < a0.fCost) then some (true) else bif decide (a0.fDo = 4) then bif decide (a0.fN < 0) then some (true) else some (decide (4096 < a0.fN)) else some (false) with | none => none | some r1 => bif r1 then some (false) else match bif bif decide (a0.fDo = 6) then false else true then some (true) else if (0 : Int) ≤ i64.wrap ((↑a0.fBounds.length : Int) - (1 : Int)) ∧ i64.wrap ((↑a0.fBounds.length : Int) - (1 : Int)) < (↑a0.fBounds.length : Int) then some (decide (a0.fBounds[(i64.wrap ((↑a0.fBounds.length : Int) - 1)).toNat]! ≤ 67108864)) else none with | none => none | some r2 => some (r2) else match bif decide (a0.fCost < 0) then some (true) else bif decide (10000 < a0.fCost) then some (true) else bif decide (a0.fDo = 4) then bif decide (a0.fN < 0) then some (true) else some (decide (4096 < a0.fN)) else some (false) with | none => none | some r3 => bif r3 then some (false) else match bif bif decide (a0.fDo = 6) then false else true then some (true) else if (0 : Int) ≤ i64.wrap ((↑a0.fBounds.length : Int) - (1 : Int)) ∧ i64.wrap ((↑a0.fBounds.length : Int) - (1 : Int)) < (↑a0.fBounds.length : Int) then some (decide (a0.fBounds[(i64.wrap ((↑a0.fBounds.length : Int) - 1)).toNat]! ≤ 67108864)) else none with | none => none | some r4 => some (r4)
theorem c171 (a0 : GStep) : callR Tryz.prog (F171) 300 (an171) 171 (A171.c (a0, ())) [] 0 d171.rd = m171 a0 := by kernel_rfl
def e171 : Orc → Orc := eL Tryz.prog 171 false A171 d171 (fun g => m171 g.1)
theorem e171_ok {F : Orc} (h : OrcG Tryz.prog F) : OrcG Tryz.prog (e171 F) := eL_ok (sc := scU) scU_ok (hl_of F171_ok fa171 (fun _ => by kernel_rfl) (fun _ => by kernel_rfl) fun g => c171 g.1) ⟨_, Tryz.func171, by kernel_rfl, by kernel_rfl⟩ (fun _ => by kernel_rfl) (fun _ => by kernel_rfl) h
theorem e171_pure {F : Orc} {f : Nat} (h : PureF F f) : PureF (e171 F) f := orL_pure h (fun _ => by kernel_rfl)
abbrev E100 : Type := Int
def d100 : Td 0 E100 := .c [] [6] (.r 0 0 (ec 6 (qi .i64) en) sn (fun z => z.1.1) (fun x => ((x, ()), (()))) fun _ => rfl)
def A100 := (lc (qg 26) (lc (ql 111) (lc qb ln)))
def x100 (M : Flat → (List GStep) → Bool → Option E100) : Orc → Orc := eL Tryz.prog 100 false A100 d100 (fun g => M g.1 g.2.1 g.2.2.1)
theorem x100_pure {M : Flat → (List GStep) → Bool → Option E100} {F : Orc} {f : Nat} (h : PureF F f) : PureF (x100 M F) f := orL_pure h (fun _ => by kernel_rfl)
def H100 (M : Flat → (List GStep) → Bool → Option E100) : Prop := HL Tryz.prog 100 A100 d100 (fun g => M g.1 g.2.1 g.2.2.1)
theorem x100_ok {M : Flat → (List GStep) → Bool → Option E100} (hM : H100 M) {F : Orc} (h : OrcG Tryz.prog F) : OrcG Tryz.prog (x100 M F) := eL_ok (sc := scU) scU_ok hM ⟨_, Tryz.func100, by kernel_rfl, by kernel_rfl⟩ (fun _ => by kernel_rfl) (fun _ => by kernel_rfl) h
def F100 (M100 : Flat → (List GStep) → Bool → Option E100) : Orc := (e171 (e170 (e169 (x100 M100 or0))))
theorem F100_ok {M100} (h100 : H100 M100) : OrcG Tryz.prog (F100 M100) := (e171_ok (e170_ok (e169_ok (x100_ok h100 or0_g))))
structure L100_1 where
 t1 : List GStep
 t2 : Bool
 t13 : List GStep
 t14 : Int
 t15 : Int
 t47 : List (List GStep)
 t48 : Int
 t49 : Int
 b0 : Flat
def d100_1 : Td 0 L100_1 := .c [] [1, 2, 3, 13, 14, 15, 47, 48, 49] (.r 0 2 (ec 1 (ql 111) (ec 2 qb (ec 3 (qp 0 0) (ec 13 (ql 111) (ec 14 (qi .i64) (ec 15 (qi .i64) (ec 47 (qo 1) (ec 48 (qi .i64) (ec 49 (qi .i64) en))))))))) (sb 0 26 (lg 26) (sr 1 24 sn)) (fun z => ⟨z.1.1, z.1.2.1, z.1.2.2.2.1, z.1.2.2.2.2.1, z.1.2.2.2.2.2.1, z.2.2.1, z.1.2.2.2.2.2.2.2.1, z.1.2.2.2.2.2.2.2.2.1, z.2.1⟩) (fun x => ((x.t1, x.t2, (), x.t13, x.t14, x.t15, (), x.t48, x.t49, ()), (x.b0, x.t47, ()))) fun _ => rfl)
def n100_1 (M100 : Flat → (List GStep) → Bool → Option E100) (p : L100_1) : Option (Option L100_1) :=
 bif decide (p.t49 < p.t48) then if (0 : Int) ≤ p.t49 ∧ p.t49 < (↑p.t47.length : Int) then if 24 = 24 ∧ p.t49.toNat < p.t47.length then match M100 p.b0 p.t47[p.t49.toNat]! false with | none => none | some r8 => bif bif decide (r8 = 0) then false else true then some (none) else some (some (L100_1.mk p.t1 p.t2 p.t13 p.t14 p.t15 p.t47 p.t48 (i64.wrap (p.t49 + 1)) p.b0)) else none else none else some (none)
theorem q100_1 (M100 : Flat → (List GStep) → Bool → Option E100) (p : L100_1) : execA Tryz.prog (F100 M100) Tryz.f100.ntmps 300 (loopAt Tryz.f100 1) .no (Option L100_1) (d100_1.pat p) (kOn d100_1.rd) = n100_1 M100 p := by kernel_rfl
def a100_1 (M100 : Flat → (List GStep) → Bool → Option E100) : L100_1 → Option L100_1 := advG (n100_1 M100)
structure L100_0 where
 t1 : List GStep
 t2 : Bool
 t13 : List GStep
 t14 : Int
 t15 : Int
 b0 : Flat
def d100_0 : Td 0 L100_0 := .c [] [1, 2, 3, 13, 14, 15] (.r 0 1 (ec 1 (ql 111) (ec 2 qb (ec 3 (qp 0 0) (ec 13 (ql 111) (ec 14 (qi .i64) (ec 15 (qi .i64) en)))))) (sb 0 26 (lg 26) sn) (fun z => ⟨z.1.1, z.1.2.1, z.1.2.2.2.1, z.1.2.2.2.2.1, z.1.2.2.2.2.2.1, z.2.1⟩) (fun x => ((x.t1, x.t2, (), x.t13, x.t14, x.t15, ()), (x.b0, ()))) fun _ => rfl)
def n100_0 (M100 : Flat → (List GStep) → Bool → Option E100) (p : L100_0) : Option (Option L100_0) :=
 bif decide (p.t15 < p.t14) then if (0 : Int) ≤ p.t15 ∧ p.t15 < (↑p.t13.length : Int) then match bif p.t2 then match m170 p.b0 (GStep.mk p.t13[p.t15.toNat]!.fDo p.t13[p.t15.toNat]!.fCost p.t13[p.t15.toNat]!.fVar p.t13[p.t15.toNat]!.fN (GTerm.mk p.t13[p.t15.toNat]!.fTerm.fOp p.t13[p.t15.toNat]!.fTerm.fN p.t13[p.t15.toNat]!.fTerm.fKids) p.t13[p.t15.toNat]!.fThen p.t13[p.t15.toNat]!.fElse p.t13[p.t15.toNat]!.fBounds) (decide (p.t15 = i64.wrap ((↑p.t1.length : Int) - 1))) with | none => none | some r1 => some (bif r1 then false else true) else match m170 p.b0 (GStep.mk p.t13[p.t15.toNat]!.fDo p.t13[p.t15.toNat]!.fCost p.t13[p.t15.toNat]!.fVar p.t13[p.t15.toNat]!.fN (GTerm.mk p.t13[p.t15.toNat]!.fTerm.fOp p.t13[p.t15.toNat]!.fTerm.fN p.t13[p.t15.toNat]!.fTerm.fKids) p.t13[p.t15.toNat]!.fThen p.t13[p.t15.toNat]!.fElse p.t13[p.t15.toNat]!.fBounds) false with | none => none | some r2 => some (bif r2 then false else true) with | none => none | some r3 => bif r3 then some (none) else match m171 (GStep.mk p.t13[p.t15.toNat]!.fDo p.t13[p.t15.toNat]!.fCost p.t13[p.t15.toNat]!.fVar p.t13[p.t15.toNat]!.fN (GTerm.mk p.t13[p.t15.toNat]!.fTerm.fOp p.t13[p.t15.toNat]!.fTerm.fN p.t13[p.t15.toNat]!.fTerm.fKids) p.t13[p.t15.toNat]!.fThen p.t13[p.t15.toNat]!.fElse p.t13[p.t15.toNat]!.fBounds) with | none => none | some r4 => bif bif r4 then false else true then some (none) else match m169 p.b0.fVars (GTerm.mk p.t13[p.t15.toNat]!.fTerm.fOp p.t13[p.t15.toNat]!.fTerm.fN p.t13[p.t15.toNat]!.fTerm.fKids) false with | none => none | some r5 => bif bif decide (r5 = 0) then false else true then some (none) else match a100_1 M100 (L100_1.mk p.t1 p.t2 p.t13 p.t14 p.t15 [p.t13[p.t15.toNat]!.fThen, p.t13[p.t15.toNat]!.fElse] (↑[p.t13[p.t15.toNat]!.fThen, p.t13[p.t15.toNat]!.fElse].length : Int) (0) p.b0) with | none => none | some r6 => bif decide (r6.t49 < r6.t48) then if (0 : Int) ≤ r6.t49 ∧ r6.t49 < (↑r6.t47.length : Int) then if 24 = 24 ∧ r6.t49.toNat < r6.t47.length then match M100 r6.b0 r6.t47[r6.t49.toNat]! false with | none => none | some r7 => bif bif decide (r7 = 0) then false else true then some (none) else none else none else none else some (some (L100_0.mk r6.t1 r6.t2 r6.t13 r6.t14 (i64.wrap (r6.t15 + 1)) r6.b0)) else none else some (none)
def g100_0 (M100 : Flat → (List GStep) → Bool → Option E100) : An := (.two .no (.two .no (.two (.two .no (.two (.two (.rb [170] 31) .no) (.two .no (.two .no (.two .no (d100_1.lp (a100_1 M100) .no)))))) .no)))
theorem q100_0 (M100 : Flat → (List GStep) → Bool → Option E100) (p : L100_0) : execA Tryz.prog (F100 M100) Tryz.f100.ntmps 300 (loopAt Tryz.f100 0) (g100_0 M100) (Option L100_0) (d100_0.pat p) (kOn d100_0.rd) = n100_0 M100 p := by kernel_rfl
def a100_0 (M100 : Flat → (List GStep) → Bool → Option E100) : L100_0 → Option L100_0 := advG (n100_0 M100)
def an100 (M100 : Flat → (List GStep) → Bool → Option E100) : An := (.two .no (.two (.two .no (d100_0.lp (a100_0 M100) (g100_0 M100))) .no))
theorem pu100 {M100} : ∀ f ∈ ([170] : List Nat), PureF (F100 M100) f := (ob_cons (e171_pure (e170_pure (e169_pure (x100_pure or0_pure)))) ob_nil)
theorem fa100 (M100 : Flat → (List GStep) → Bool → Option E100) : FnAn Tryz.prog (F100 M100) 0 300 100 (an100 M100) := fnAn_of (l := [(loopAt Tryz.f100 0, (d100_0.lp (a100_0 M100) (g100_0 M100))), (.skip, (.rb [170] 31)), (loopAt Tryz.f100 1, (d100_1.lp (a100_1 M100) .no))]) Tryz.func100 (bodyOf_eq (by kernel_rfl)) (by kernel_rfl) (ob_cons ⟨d100_0.ok _, advG_ok (q100_0 M100)⟩ (ob_cons pu100 (ob_cons ⟨d100_1.ok _, advG_ok (q100_1 M100)⟩ ob_nil)))
def s100 (M100 : Flat → (List GStep) → Bool → Option E100) (a0 : Flat) (a1 : List GStep) (a2 : Bool) : Option E100 :=
 match a100_0 M100 (L100_0.mk a1 a2 a1 (↑a1.length : Int) (0) a0) with | none => none | some r9 => bif decide (r9.t15 < r9.t14) then if (0 : Int) ≤ r9.t15 ∧ r9.t15 < (↑r9.t13.length : Int) then match bif r9.t2 then match m170 r9.b0 (GStep.mk r9.t13[r9.t15.toNat]!.fDo r9.t13[r9.t15.toNat]!.fCost r9.t13[r9.t15.toNat]!.fVar r9.t13[r9.t15.toNat]!.fN (GTerm.mk r9.t13[r9.t15.toNat]!.fTerm.fOp r9.t13[r9.t15.toNat]!.fTerm.fN r9.t13[r9.t15.toNat]!.fTerm.fKids) r9.t13[r9.t15.toNat]!.fThen r9.t13[r9.t15.toNat]!.fElse r9.t13[r9.t15.toNat]!.fBounds) (decide (r9.t15 = i64.wrap ((↑r9.t1.length : Int) - 1))) with | none => none | some r10 => some (bif r10 then false else true) else match m170 r9.b0 (GStep.mk r9.t13[r9.t15.toNat]!.fDo r9.t13[r9.t15.toNat]!.fCost r9.t13[r9.t15.toNat]!.fVar r9.t13[r9.t15.toNat]!.fN (GTerm.mk r9.t13[r9.t15.toNat]!.fTerm.fOp r9.t13[r9.t15.toNat]!.fTerm.fN r9.t13[r9.t15.toNat]!.fTerm.fKids) r9.t13[r9.t15.toNat]!.fThen r9.t13[r9.t15.toNat]!.fElse r9.t13[r9.t15.toNat]!.fBounds) false with | none => none | some r11 => some (bif r11 then false else true) with | none => none | some r12 => bif r12 then some (1) else match m171 (GStep.mk r9.t13[r9.t15.toNat]!.fDo r9.t13[r9.t15.toNat]!.fCost r9.t13[r9.t15.toNat]!.fVar r9.t13[r9.t15.toNat]!.fN (GTerm.mk r9.t13[r9.t15.toNat]!.fTerm.fOp r9.t13[r9.t15.toNat]!.fTerm.fN r9.t13[r9.t15.toNat]!.fTerm.fKids) r9.t13[r9.t15.toNat]!.fThen r9.t13[r9.t15.toNat]!.fElse r9.t13[r9.t15.toNat]!.fBounds) with | none => none | some r13 => bif bif r13 then false else true then some (3) else match m169 r9.b0.fVars (GTerm.mk r9.t13[r9.t15.toNat]!.fTerm.fOp r9.t13[r9.t15.toNat]!.fTerm.fN r9.t13[r9.t15.toNat]!.fTerm.fKids) false with | none => none | some r14 => bif bif decide (r14 = 0) then false else true then some (r14) else match a100_1 M100 (L100_1.mk r9.t1 r9.t2 r9.t13 r9.t14 r9.t15 [r9.t13[r9.t15.toNat]!.fThen, r9.t13[r9.t15.toNat]!.fElse] (↑[r9.t13[r9.t15.toNat]!.fThen, r9.t13[r9.t15.toNat]!.fElse].length : Int) (0) r9.b0) with | none => none | some r15 => bif decide (r15.t49 < r15.t48) then if (0 : Int) ≤ r15.t49 ∧ r15.t49 < (↑r15.t47.length : Int) then if 24 = 24 ∧ r15.t49.toNat < r15.t47.length then match M100 r15.b0 r15.t47[r15.t49.toNat]! false with | none => none | some r16 => bif bif decide (r16 = 0) then false else true then some (r16) else none else none else none else none else none else some (0)
theorem c100 (M100 : Flat → (List GStep) → Bool → Option E100) (a0 : Flat) (a1 : List GStep) (a2 : Bool) : callR Tryz.prog (F100 M100) 300 (an100 M100) 100 (A100.c (a0, a1, a2, ())) [] 0 d100.rd = s100 M100 a0 a1 a2 := by kernel_rfl
def mm100 : Nat → (Flat → (List GStep) → Bool → Option E100)
 | 0 => (fun _ _ _ => none)
 | n + 1 => (s100 (mm100 n))
def m100 (n : Nat) : Flat → (List GStep) → Bool → Option E100 := (mm100 n)
theorem mm100_ok : ∀ n, H100 (m100 n)
 | 0 => fun _ _ h => (by cases h)
 | n + 1 => by
  have ih := mm100_ok n
  have i100 := ih
  exact (hl_of (F100_ok i100) (fa100 (m100 n)) (fun _ => by kernel_rfl) (fun _ => by kernel_rfl) fun g => c100 (m100 n) g.1 g.2.1 g.2.2.1)
def r100 : Flat → (List GStep) → Bool → Option E100 := fun a0 a1 a2 => lim (fun n => m100 n a0 a1 a2)
theorem r100_ok : H100 r100 := fun g b h => by
 obtain ⟨n, hn⟩ := lim_some (show lim (fun n => m100 n g.1 g.2.1 g.2.2.1) = some b from h)
 exact (mm100_ok n) g b hn
def e100 (F : Orc) : Orc := x100 r100 F
theorem e100_ok {F : Orc} (h : OrcG Tryz.prog F) : OrcG Tryz.prog (e100 F) := x100_ok r100_ok h
abbrev E101 : Type := Most
def d101 : Td 0 E101 := .c [] [2] (.r 0 1 (ec 2 (qp 0 0) en) (sb 0 181 (lg 181) sn) (fun z => z.2.1) (fun x => (((), ()), (x, ()))) fun _ => rfl)
def A101 := (lc (ql 111) ln)
def x101 (M : (List GStep) → Option E101) : Orc → Orc := eL Tryz.prog 101 false A101 d101 (fun g => M g.1)
def H101 (M : (List GStep) → Option E101) : Prop := HL Tryz.prog 101 A101 d101 (fun g => M g.1)
theorem x101_ok {M : (List GStep) → Option E101} (hM : H101 M) {F : Orc} (h : OrcG Tryz.prog F) : OrcG Tryz.prog (x101 M F) := eL_ok (sc := scU) scU_ok hM ⟨_, Tryz.func101, by kernel_rfl, by kernel_rfl⟩ (fun _ => by kernel_rfl) (fun _ => by kernel_rfl) h
def F101 (M101 : (List GStep) → Option E101) : Orc := (x101 M101 or0)
theorem F101_ok {M101} (h101 : H101 M101) : OrcG Tryz.prog (F101 M101) := (x101_ok h101 or0_g)
structure L101_0 where
 t9 : List GStep
 t10 : Int
 t11 : Int
 b0 : Most
 b1 : Most
def d101_0 : Td 0 L101_0 := .c [] [2, 3, 9, 10, 11] (.r 0 2 (ec 2 (qp 0 0) (ec 3 (qp 1 0) (ec 9 (ql 111) (ec 10 (qi .i64) (ec 11 (qi .i64) en))))) (sb 0 181 (lg 181) (sb 1 181 (lg 181) sn)) (fun z => ⟨z.1.2.2.1, z.1.2.2.2.1, z.1.2.2.2.2.1, z.2.1, z.2.2.1⟩) (fun x => (((), (), x.t9, x.t10, x.t11, ()), (x.b0, x.b1, ()))) fun _ => rfl)
def n101_0 (M101 : (List GStep) → Option E101) (p : L101_0) : Option (Option L101_0) :=
 bif decide (p.t11 < p.t10) then if (0 : Int) ≤ p.t11 ∧ p.t11 < (↑p.t9.length : Int) then match M101 p.t9[p.t11.toNat]!.fThen with | none => none | some r1 => match M101 p.t9[p.t11.toNat]!.fElse with | none => none | some r2 => bif decide (p.t9[p.t11.toNat]!.fDo = 1) then some (some (L101_0.mk p.t9 p.t10 (i64.wrap (p.t11 + 1)) p.b0 (Most.mk (if 1099511627776 < i64.wrap (p.b1.fSteps + 1) then 1099511627776 else i64.wrap (p.b1.fSteps + 1)) (if 1099511627776 < i64.wrap (p.b1.fOutputs + 1) then 1099511627776 else i64.wrap (p.b1.fOutputs + 1)) (if 1099511627776 < i64.wrap (p.b1.fTime + p.t9[p.t11.toNat]!.fCost) then 1099511627776 else i64.wrap (p.b1.fTime + p.t9[p.t11.toNat]!.fCost))))) else bif decide (p.t9[p.t11.toNat]!.fDo = 3) then some (some (L101_0.mk p.t9 p.t10 (i64.wrap (p.t11 + 1)) p.b0 (Most.mk (if 1099511627776 < i64.wrap (p.b1.fSteps + i64.wrap (1 + if r1.fSteps < r2.fSteps then r2.fSteps else r1.fSteps)) then 1099511627776 else i64.wrap (p.b1.fSteps + i64.wrap (1 + if r1.fSteps < r2.fSteps then r2.fSteps else r1.fSteps))) (if 1099511627776 < i64.wrap (p.b1.fOutputs + if r1.fOutputs < r2.fOutputs then r2.fOutputs else r1.fOutputs) then 1099511627776 else i64.wrap (p.b1.fOutputs + if r1.fOutputs < r2.fOutputs then r2.fOutputs else r1.fOutputs)) (if 1099511627776 < i64.wrap (p.b1.fTime + i64.wrap (p.t9[p.t11.toNat]!.fCost + if r1.fTime < r2.fTime then r2.fTime else r1.fTime)) then 1099511627776 else i64.wrap (p.b1.fTime + i64.wrap (p.t9[p.t11.toNat]!.fCost + if r1.fTime < r2.fTime then r2.fTime else r1.fTime)))))) else bif decide (p.t9[p.t11.toNat]!.fDo = 4) then some (some (L101_0.mk p.t9 p.t10 (i64.wrap (p.t11 + 1)) p.b0 (Most.mk (if 1099511627776 < i64.wrap (p.b1.fSteps + i64.wrap (1 + i64.wrap (p.t9[p.t11.toNat]!.fN * i64.wrap (1 + r1.fSteps)))) then 1099511627776 else i64.wrap (p.b1.fSteps + i64.wrap (1 + i64.wrap (p.t9[p.t11.toNat]!.fN * i64.wrap (1 + r1.fSteps))))) (if 1099511627776 < i64.wrap (p.b1.fOutputs + i64.wrap (p.t9[p.t11.toNat]!.fN * r1.fOutputs)) then 1099511627776 else i64.wrap (p.b1.fOutputs + i64.wrap (p.t9[p.t11.toNat]!.fN * r1.fOutputs))) (if 1099511627776 < i64.wrap (p.b1.fTime + i64.wrap (p.t9[p.t11.toNat]!.fN * i64.wrap (p.t9[p.t11.toNat]!.fCost + r1.fTime))) then 1099511627776 else i64.wrap (p.b1.fTime + i64.wrap (p.t9[p.t11.toNat]!.fN * i64.wrap (p.t9[p.t11.toNat]!.fCost + r1.fTime))))))) else some (some (L101_0.mk p.t9 p.t10 (i64.wrap (p.t11 + 1)) p.b0 (Most.mk (if 1099511627776 < i64.wrap (p.b1.fSteps + 1) then 1099511627776 else i64.wrap (p.b1.fSteps + 1)) (if 1099511627776 < i64.wrap (p.b1.fOutputs + 0) then 1099511627776 else i64.wrap (p.b1.fOutputs + 0)) (if 1099511627776 < i64.wrap (p.b1.fTime + p.t9[p.t11.toNat]!.fCost) then 1099511627776 else i64.wrap (p.b1.fTime + p.t9[p.t11.toNat]!.fCost))))) else none else some (none)
theorem q101_0 (M101 : (List GStep) → Option E101) (p : L101_0) : execA Tryz.prog (F101 M101) Tryz.f101.ntmps 300 (loopAt Tryz.f101 0) .no (Option L101_0) (d101_0.pat p) (kOn d101_0.rd) = n101_0 M101 p := by kernel_rfl
def a101_0 (M101 : (List GStep) → Option E101) : L101_0 → Option L101_0 := advG (n101_0 M101)
def an101 (M101 : (List GStep) → Option E101) : An := (.two .no (.two .no (.two (.two .no (d101_0.lp (a101_0 M101) .no)) .no)))
theorem fa101 (M101 : (List GStep) → Option E101) : FnAn Tryz.prog (F101 M101) 0 300 101 (an101 M101) := fnAn_of (l := [(loopAt Tryz.f101 0, (d101_0.lp (a101_0 M101) .no))]) Tryz.func101 (bodyOf_eq (by kernel_rfl)) (by kernel_rfl) (ob_cons ⟨d101_0.ok _, advG_ok (q101_0 M101)⟩ ob_nil)
def s101 (M101 : (List GStep) → Option E101) (a0 : List GStep) : Option E101 :=
 match a101_0 M101 (L101_0.mk a0 (↑a0.length : Int) (0) (Most.mk (0) (0) (0)) (Most.mk (0) (0) (0))) with | none => none | some r3 => bif decide (r3.t11 < r3.t10) then if (0 : Int) ≤ r3.t11 ∧ r3.t11 < (↑r3.t9.length : Int) then match M101 r3.t9[r3.t11.toNat]!.fThen with | none => none | some r4 => match M101 r3.t9[r3.t11.toNat]!.fElse with | none => none | some r5 => bif decide (r3.t9[r3.t11.toNat]!.fDo = 1) then none else bif decide (r3.t9[r3.t11.toNat]!.fDo = 3) then none else bif decide (r3.t9[r3.t11.toNat]!.fDo = 4) then none else none else none else some (r3.b1)
theorem c101 (M101 : (List GStep) → Option E101) (a0 : List GStep) : callR Tryz.prog (F101 M101) 300 (an101 M101) 101 (A101.c (a0, ())) [] 0 d101.rd = s101 M101 a0 := by kernel_rfl
def mm101 : Nat → ((List GStep) → Option E101)
 | 0 => (fun _ => none)
 | n + 1 => (s101 (mm101 n))
def m101 (n : Nat) : (List GStep) → Option E101 := (mm101 n)
theorem mm101_ok : ∀ n, H101 (m101 n)
 | 0 => fun _ _ h => (by cases h)
 | n + 1 => by
  have ih := mm101_ok n
  have i101 := ih
  exact (hl_of (F101_ok i101) (fa101 (m101 n)) (fun _ => by kernel_rfl) (fun _ => by kernel_rfl) fun g => c101 (m101 n) g.1)
def r101 : (List GStep) → Option E101 := fun a0 => lim (fun n => m101 n a0)
theorem r101_ok : H101 r101 := fun g b h => by
 obtain ⟨n, hn⟩ := lim_some (show lim (fun n => m101 n g.1) = some b from h)
 exact (mm101_ok n) g b hn
def e101 (F : Orc) : Orc := x101 r101 F
theorem e101_ok {F : Orc} (h : OrcG Tryz.prog F) : OrcG Tryz.prog (e101 F) := x101_ok r101_ok h
def F48 : Orc := (e101 (e100 (e99 (e98 (e97 (e96 (e95 or0)))))))
theorem F48_ok : OrcG Tryz.prog F48 := (e101_ok (e100_ok (e99_ok (e98_ok (e97_ok (e96_ok (e95_ok or0_g)))))))
structure L48_0 where
 t14 : List Hatch
 t15 : Int
 t16 : Int
 b0 : Flat
 b1 : Measure
def d48_0 : Td 0 L48_0 := .c [] [1, 3, 14, 15, 16] (.r 0 2 (ec 1 (qp 0 0) (ec 3 (qp 1 0) (ec 14 (ql 116) (ec 15 (qi .i64) (ec 16 (qi .i64) en))))) (sb 0 26 (lg 26) (sb 1 177 (lg 177) sn)) (fun z => ⟨z.1.2.2.1, z.1.2.2.2.1, z.1.2.2.2.2.1, z.2.1, z.2.2.1⟩) (fun x => (((), (), x.t14, x.t15, x.t16, ()), (x.b0, x.b1, ()))) fun _ => rfl)
def n48_0 (p : L48_0) : Option (Option L48_0) :=
 bif decide (p.t16 < p.t15) then if (0 : Int) ≤ p.t16 ∧ p.t16 < (↑p.t14.length : Int) then bif bif (m96 p.b1).fst then false else true then match r97 (GTerm.mk p.t14[p.t16.toNat]!.fTerm.fOp p.t14[p.t16.toNat]!.fTerm.fN p.t14[p.t16.toNat]!.fTerm.fKids) (1) (m96 p.b1).snd with | none => none | some r1 => some (some (L48_0.mk p.t14 p.t15 (i64.wrap (p.t16 + 1)) p.b0 r1)) else some (some (L48_0.mk p.t14 p.t15 (i64.wrap (p.t16 + 1)) p.b0 (m96 p.b1).snd)) else none else some (none)
theorem q48_0 (p : L48_0) : execA Tryz.prog (F48) Tryz.f48.ntmps 300 (loopAt Tryz.f48 0) .no (Option L48_0) (d48_0.pat p) (kOn d48_0.rd) = n48_0 p := by kernel_rfl
def a48_0 : L48_0 → Option L48_0 := advG (n48_0)
abbrev E48 : Type := Int
def d48 : Td 0 E48 := .c [] [2] (.r 0 0 (ec 2 (qi .i64) en) sn (fun z => z.1.1) (fun x => ((x, ()), (()))) fun _ => rfl)
def A48 := (lc (qg 26) ln)
def an48 : An := (.two .no (.two .no (.two .no (.two (.two .no (d48_0.lp a48_0 .no)) (.two .no (.two .no (.two .no (.two .no (.two (.two .no (.two (.rb [] 72) .no)) .no)))))))))
theorem pu48  : ∀ f ∈ ([] : List Nat), PureF (F48) f := ob_nil
theorem fa48 : FnAn Tryz.prog (F48) 0 300 48 (an48) := fnAn_of (l := [(loopAt Tryz.f48 0, (d48_0.lp a48_0 .no)), (.skip, (.rb [] 72))]) Tryz.func48 (bodyOf_eq (by kernel_rfl)) (by kernel_rfl) (ob_cons ⟨d48_0.ok _, advG_ok (q48_0)⟩ (ob_cons pu48 ob_nil))
def m48 (a0 : Flat) : Option E48 :=
 match r95 a0.fBody (1) (Measure.mk (0) false) with | none => none | some r2 => match a48_0 (L48_0.mk a0.fHatches (↑a0.fHatches.length : Int) (0) a0 r2) with | none => none | some r3 => bif decide (r3.t16 < r3.t15) then if (0 : Int) ≤ r3.t16 ∧ r3.t16 < (↑r3.t14.length : Int) then bif bif (m96 r3.b1).fst then false else true then match r97 (GTerm.mk r3.t14[r3.t16.toNat]!.fTerm.fOp r3.t14[r3.t16.toNat]!.fTerm.fN r3.t14[r3.t16.toNat]!.fTerm.fKids) (1) (m96 r3.b1).snd with | none => none | some r4 => none else none else none else bif decide (64 < (↑r3.b0.fVars.length : Int)) then some (4) else bif decide (8 < (↑r3.b0.fHatches.length : Int)) then some (4) else bif (m96 r3.b1).fst then some (4) else match m98 r3.b0.fVars with | none => none | some r5 => bif bif decide (r5 = 0) then false else true then some (r5) else match m99 r3.b0 with | none => none | some r6 => bif bif decide (r6 = 0) then false else true then some (r6) else match r100 r3.b0 r3.b0.fBody true with | none => none | some r7 => bif bif decide (r7 = 0) then false else true then some (r7) else match r101 r3.b0.fBody with | none => none | some r8 => match bif decide (4096 < r8.fSteps) then some (true) else bif decide (8 < r8.fOutputs) then some (true) else some (decide (67108864 < r8.fTime)) with | none => none | some r9 => bif r9 then some (4) else some (0)
theorem c48 (a0 : Flat) : callR Tryz.prog (F48) 300 (an48) 48 (A48.c (a0, ())) [] 0 d48.rd = m48 a0 := by kernel_rfl
def e48 : Orc → Orc := eL Tryz.prog 48 false A48 d48 (fun g => m48 g.1)
theorem e48_ok {F : Orc} (h : OrcG Tryz.prog F) : OrcG Tryz.prog (e48 F) := eL_ok (sc := scU) scU_ok (hl_of F48_ok fa48 (fun _ => by kernel_rfl) (fun _ => by kernel_rfl) fun g => c48 g.1) ⟨_, Tryz.func48, by kernel_rfl, by kernel_rfl⟩ (fun _ => by kernel_rfl) (fun _ => by kernel_rfl) h
abbrev E14 : Type := (List Slot) × Int
def m14 (a0 : Flat) : Option E14 :=
 match m48 a0 with | none => none | some r1 => bif bif decide (r1 = 0) then false else true then some (([], r1)) else match m49 a0 with | none => none | some r2 => some ((r2.fst, 0))
def F31 : Orc := (e49 (e48 or0))
theorem F31_ok : OrcG Tryz.prog F31 := (e49_ok (e48_ok or0_g))
structure L31_1 where
 t1 : List Bool
 t4 : List Int
 t5 : List Int
 t14 : Int
 t32 : List Slot
 t33 : Int
 t34 : Int
 t52 : List Bool
 t53 : Int
 t54 : Int
 b0 : Flat
 b3 : GVar
def d31_1 : Td 0 L31_1 := .c [] [1, 2, 4, 5, 13, 14, 32, 33, 34, 52, 53, 54] (.r 0 5 (ec 1 (ql 4) (ec 2 (qp 0 0) (ec 4 (qo 1) (ec 5 (qo 2) (ec 13 (qp 3 0) (ec 14 (qi .i64) (ec 32 (qo 4) (ec 33 (qi .i64) (ec 34 (qi .i64) (ec 52 (ql 4) (ec 53 (qi .i64) (ec 54 (qi .i64) en)))))))))))) (sb 0 26 (lg 26) (sr 1 3 (sr 2 3 (sb 3 108 (lg 108) (sr 4 38 sn))))) (fun z => ⟨z.1.1, z.2.2.1, z.2.2.2.1, z.1.2.2.2.2.2.1, z.2.2.2.2.2.1, z.1.2.2.2.2.2.2.2.1, z.1.2.2.2.2.2.2.2.2.1, z.1.2.2.2.2.2.2.2.2.2.1, z.1.2.2.2.2.2.2.2.2.2.2.1, z.1.2.2.2.2.2.2.2.2.2.2.2.1, z.2.1, z.2.2.2.2.1⟩) (fun x => ((x.t1, (), (), (), (), x.t14, (), x.t33, x.t34, x.t52, x.t53, x.t54, ()), (x.b0, x.t4, x.t5, x.b3, x.t32, ()))) fun _ => rfl)
def n31_1 (p : L31_1) : Option (Option L31_1) :=
 bif decide (p.t54 < p.t53) then if (0 : Int) ≤ p.t54 ∧ p.t54 < (↑p.t52.length : Int) then bif p.t52[p.t54.toNat]! then some (some (L31_1.mk p.t1 p.t4 p.t5 (i64.wrap (i64.wrap (p.t14 * 2) + 1)) p.t32 p.t33 p.t34 p.t52 p.t53 (i64.wrap (p.t54 + 1)) p.b0 p.b3)) else some (some (L31_1.mk p.t1 p.t4 p.t5 (i64.wrap (p.t14 * 2)) p.t32 p.t33 p.t34 p.t52 p.t53 (i64.wrap (p.t54 + 1)) p.b0 p.b3)) else none else some (none)
theorem q31_1 (p : L31_1) : execA Tryz.prog (F31) Tryz.f31.ntmps 300 (loopAt Tryz.f31 1) .no (Option L31_1) (d31_1.pat p) (kOn d31_1.rd) = n31_1 p := by kernel_rfl
def a31_1 : L31_1 → Option L31_1 := advG (n31_1)
structure L31_0 where
 t1 : List Bool
 t4 : List Int
 t5 : List Int
 t32 : List Slot
 t33 : Int
 t34 : Int
 b0 : Flat
def d31_0 : Td 0 L31_0 := .c [] [1, 2, 4, 5, 32, 33, 34] (.t (TurnOk.s 4 [] 3) (.t (TurnOk.s 4 [] 38) (.t (TurnOk.s 5 [] 3) (.c [] [1, 2, 4, 5, 32, 33, 34] (.r 0 4 (ec 1 (ql 4) (ec 2 (qp 0 0) (ec 4 (qo 1) (ec 5 (qo 2) (ec 32 (qo 3) (ec 33 (qi .i64) (ec 34 (qi .i64) en))))))) (sb 0 26 (lg 26) (sr 1 3 (sr 2 3 (sr 3 38 sn)))) (fun z => ⟨z.1.1, z.2.2.1, z.2.2.2.1, z.2.2.2.2.1, z.1.2.2.2.2.2.1, z.1.2.2.2.2.2.2.1, z.2.1⟩) (fun x => ((x.t1, (), (), (), (), x.t33, x.t34, ()), (x.b0, x.t4, x.t5, x.t32, ()))) fun _ => rfl)))))
def n31_0 (p : L31_0) : Option (Option L31_0) :=
 bif decide (p.t34 < p.t33) then if (0 : Int) ≤ p.t34 ∧ p.t34 < (↑p.t32.length : Int) then if 38 = 38 ∧ p.t34.toNat < p.t32.length then if (0 : Int) ≤ p.t32[p.t34.toNat]!.fVar ∧ p.t32[p.t34.toNat]!.fVar < (↑p.b0.fVars.length : Int) then if (0 : Int) ≤ p.t32[p.t34.toNat]!.fFirst ∧ p.t32[p.t34.toNat]!.fFirst ≤ i64.wrap (p.t32[p.t34.toNat]!.fFirst + p.t32[p.t34.toNat]!.fBits) ∧ i64.wrap (p.t32[p.t34.toNat]!.fFirst + p.t32[p.t34.toNat]!.fBits) ≤ (↑p.t1.length : Int) then match a31_1 (L31_1.mk p.t1 p.t4 p.t5 (0) p.t32 p.t33 p.t34 (List.drop p.t32[p.t34.toNat]!.fFirst.toNat (List.take (i64.wrap (p.t32[p.t34.toNat]!.fFirst + p.t32[p.t34.toNat]!.fBits)).toNat p.t1)) (↑(List.drop p.t32[p.t34.toNat]!.fFirst.toNat (List.take (i64.wrap (p.t32[p.t34.toNat]!.fFirst + p.t32[p.t34.toNat]!.fBits)).toNat p.t1)).length : Int) (0) p.b0 p.b0.fVars[p.t32[p.t34.toNat]!.fVar.toNat]!) with | none => none | some r1 => bif decide (r1.t54 < r1.t53) then if (0 : Int) ≤ r1.t54 ∧ r1.t54 < (↑r1.t52.length : Int) then bif r1.t52[r1.t54.toNat]! then none else none else none else bif decide (r1.b3.fHigh < i64.wrap (r1.b3.fLow + r1.t14)) then some (none) else bif decide (r1.b3.fKind = 1) then if (r1.t4 ++ [i64.wrap (r1.b3.fLow + r1.t14)]).length ≤ 1073741824 then some (some (L31_0.mk r1.t1 (r1.t4 ++ [i64.wrap (r1.b3.fLow + r1.t14)]) r1.t5 r1.t32 r1.t33 (i64.wrap (r1.t34 + 1)) r1.b0)) else none else if (r1.t5 ++ [i64.wrap (r1.b3.fLow + r1.t14)]).length ≤ 1073741824 then some (some (L31_0.mk r1.t1 r1.t4 (r1.t5 ++ [i64.wrap (r1.b3.fLow + r1.t14)]) r1.t32 r1.t33 (i64.wrap (r1.t34 + 1)) r1.b0)) else none else none else none else none else none else some (none)
def g31_0 : An := (.two .no (.two .no (.two (.two .no (.two .no (.two .no (.two (.two .no (d31_1.lp a31_1 .no)) .no)))) .no)))
theorem q31_0 (p : L31_0) : execA Tryz.prog (F31) Tryz.f31.ntmps 300 (loopAt Tryz.f31 0) g31_0 (Option L31_0) (d31_0.pat p) (kOn d31_0.rd) = n31_0 p := by kernel_rfl
def a31_0 : L31_0 → Option L31_0 := advG (n31_0)
abbrev E31 : Type := (List Int) × (List Int) × Int
def d31 : Td 0 E31 := .c [] [4, 5, 6] (.t (TurnOk.s 4 [] 3) (.t (TurnOk.s 5 [] 3) (.c [] [4, 5, 6] (.r 0 2 (ec 4 (qo 0) (ec 5 (qo 1) (ec 6 (qi .i64) en))) (sr 0 3 (sr 1 3 sn)) (fun z => (z.2.1, z.2.2.1, z.1.2.2.1)) (fun x => (((), (), x.2.2, ()), (x.1, x.2.1, ()))) fun _ => rfl))))
def A31 := (lc (qg 26) (lc (ql 4) ln))
def an31 : An := (.two .no (.two .no (.two .no (.two .no (.two (.two .no (d31_0.lp a31_0 g31_0)) .no)))))
theorem fa31 : FnAn Tryz.prog (F31) 0 300 31 (an31) := fnAn_of (l := [(loopAt Tryz.f31 0, (d31_0.lp a31_0 g31_0)), (loopAt Tryz.f31 1, (d31_1.lp a31_1 .no))]) Tryz.func31 (bodyOf_eq (by kernel_rfl)) (by kernel_rfl) (ob_cons ⟨d31_0.ok _, advG_ok (q31_0)⟩ (ob_cons ⟨d31_1.ok _, advG_ok (q31_1)⟩ ob_nil))
def m31 (a0 : Flat) (a1 : List Bool) : Option E31 :=
 match m48 a0 with | none => none | some r2 => bif bif decide (r2 = 0) then false else true then some (([], [], r2)) else match m49 a0 with | none => none | some r3 => bif bif decide ((↑a1.length : Int) = r3.snd.snd) then false else true then some (([], [], 2)) else match a31_0 (L31_0.mk a1 [] [] r3.fst (↑r3.fst.length : Int) (0) a0) with | none => none | some r4 => bif decide (r4.t34 < r4.t33) then if (0 : Int) ≤ r4.t34 ∧ r4.t34 < (↑r4.t32.length : Int) then if 38 = 38 ∧ r4.t34.toNat < r4.t32.length then if (0 : Int) ≤ r4.t32[r4.t34.toNat]!.fVar ∧ r4.t32[r4.t34.toNat]!.fVar < (↑r4.b0.fVars.length : Int) then if (0 : Int) ≤ r4.t32[r4.t34.toNat]!.fFirst ∧ r4.t32[r4.t34.toNat]!.fFirst ≤ i64.wrap (r4.t32[r4.t34.toNat]!.fFirst + r4.t32[r4.t34.toNat]!.fBits) ∧ i64.wrap (r4.t32[r4.t34.toNat]!.fFirst + r4.t32[r4.t34.toNat]!.fBits) ≤ (↑r4.t1.length : Int) then match a31_1 (L31_1.mk r4.t1 r4.t4 r4.t5 (0) r4.t32 r4.t33 r4.t34 (List.drop r4.t32[r4.t34.toNat]!.fFirst.toNat (List.take (i64.wrap (r4.t32[r4.t34.toNat]!.fFirst + r4.t32[r4.t34.toNat]!.fBits)).toNat r4.t1)) (↑(List.drop r4.t32[r4.t34.toNat]!.fFirst.toNat (List.take (i64.wrap (r4.t32[r4.t34.toNat]!.fFirst + r4.t32[r4.t34.toNat]!.fBits)).toNat r4.t1)).length : Int) (0) r4.b0 r4.b0.fVars[r4.t32[r4.t34.toNat]!.fVar.toNat]!) with | none => none | some r5 => bif decide (r5.t54 < r5.t53) then if (0 : Int) ≤ r5.t54 ∧ r5.t54 < (↑r5.t52.length : Int) then bif r5.t52[r5.t54.toNat]! then none else none else none else bif decide (r5.b3.fHigh < i64.wrap (r5.b3.fLow + r5.t14)) then some (([], [], 3)) else bif decide (r5.b3.fKind = 1) then if (r5.t4 ++ [i64.wrap (r5.b3.fLow + r5.t14)]).length ≤ 1073741824 then none else none else if (r5.t5 ++ [i64.wrap (r5.b3.fLow + r5.t14)]).length ≤ 1073741824 then none else none else none else none else none else none else some ((r4.t4, r4.t5, 0))
theorem c31 (a0 : Flat) (a1 : List Bool) : callR Tryz.prog (F31) 300 (an31) 31 (A31.c (a0, a1, ())) [] 0 d31.rd = m31 a0 a1 := by kernel_rfl
def e31 : Orc → Orc := eL Tryz.prog 31 false A31 d31 (fun g => m31 g.1 g.2.1)
theorem e31_ok {F : Orc} (h : OrcG Tryz.prog F) : OrcG Tryz.prog (e31 F) := eL_ok (sc := scU) scU_ok (hl_of F31_ok fa31 (fun _ => by kernel_rfl) (fun _ => by kernel_rfl) fun g => c31 g.1 g.2.1) ⟨_, Tryz.func31, by kernel_rfl, by kernel_rfl⟩ (fun _ => by kernel_rfl) (fun _ => by kernel_rfl) h
theorem e31_skip {F : Orc} {f : Nat} (hne : Nat.beq f 31 = false) (h : PureF F f) : PureF (e31 F) f := orL_skip hne h
def F64 : Orc := or0
theorem F64_ok : OrcG Tryz.prog F64 := or0_g
structure L64_0 where
 t2 : List Int
 t14 : List Int
 t15 : Int
 t16 : Int
 b0 : Flat
def d64_0 : Td 0 L64_0 := .c [] [2, 3, 14, 15, 16] (.r 0 1 (ec 2 (ql 3) (ec 3 (qp 0 0) (ec 14 (ql 3) (ec 15 (qi .i64) (ec 16 (qi .i64) en))))) (sb 0 26 (lg 26) sn) (fun z => ⟨z.1.1, z.1.2.2.1, z.1.2.2.2.1, z.1.2.2.2.2.1, z.2.1⟩) (fun x => ((x.t2, (), x.t14, x.t15, x.t16, ()), (x.b0, ()))) fun _ => rfl)
def n64_0 (p : L64_0) : Option (Option L64_0) :=
 bif decide (p.t16 < p.t15) then if (0 : Int) ≤ p.t16 ∧ p.t16 < (↑p.t14.length : Int) then if (0 : Int) ≤ p.t16 ∧ p.t16 < (↑p.t2.length : Int) then if (0 : Int) ≤ p.t14[p.t16.toNat]! ∧ p.t14[p.t16.toNat]! < (↑p.b0.fVars.length : Int) then bif decide (p.t2[p.t16.toNat]! < p.b0.fVars[Int.toNat p.t14[p.t16.toNat]!]!.fLow) then some (none) else if (0 : Int) ≤ p.t16 ∧ p.t16 < (↑p.t2.length : Int) then if (0 : Int) ≤ p.t14[p.t16.toNat]! ∧ p.t14[p.t16.toNat]! < (↑p.b0.fVars.length : Int) then bif decide (p.b0.fVars[Int.toNat p.t14[p.t16.toNat]!]!.fHigh < p.t2[p.t16.toNat]!) then some (none) else some (some (L64_0.mk p.t2 p.t14 p.t15 (i64.wrap (p.t16 + 1)) p.b0)) else none else none else none else none else none else some (none)
theorem q64_0 (p : L64_0) : execA Tryz.prog (F64) Tryz.f64.ntmps 300 (loopAt Tryz.f64 0) .no (Option L64_0) (d64_0.pat p) (kOn d64_0.rd) = n64_0 p := by kernel_rfl
def a64_0 : L64_0 → Option L64_0 := advG (n64_0)
abbrev E64 : Type := Int
def d64 : Td 0 E64 := .c [] [6] (.r 0 0 (ec 6 (qi .i64) en) sn (fun z => z.1.1) (fun x => ((x, ()), (()))) fun _ => rfl)
def A64 := (lc (qg 26) (lc (ql 3) (lc (ql 3) ln)))
def an64 : An := (.two .no (.two .no (.two (.two .no (d64_0.lp a64_0 .no)) .no)))
theorem fa64 : FnAn Tryz.prog (F64) 0 300 64 (an64) := fnAn_of (l := [(loopAt Tryz.f64 0, (d64_0.lp a64_0 .no))]) Tryz.func64 (bodyOf_eq (by kernel_rfl)) (by kernel_rfl) (ob_cons ⟨d64_0.ok _, advG_ok (q64_0)⟩ ob_nil)
def m64 (a0 : Flat) (a1 : List Int) (a2 : List Int) : Option E64 :=
 bif bif decide ((↑a1.length : Int) = (↑a2.length : Int)) then false else true then some (2) else match a64_0 (L64_0.mk a2 a1 (↑a1.length : Int) (0) a0) with | none => none | some r1 => bif decide (r1.t16 < r1.t15) then if (0 : Int) ≤ r1.t16 ∧ r1.t16 < (↑r1.t14.length : Int) then if (0 : Int) ≤ r1.t16 ∧ r1.t16 < (↑r1.t2.length : Int) then if (0 : Int) ≤ r1.t14[r1.t16.toNat]! ∧ r1.t14[r1.t16.toNat]! < (↑r1.b0.fVars.length : Int) then bif decide (r1.t2[r1.t16.toNat]! < r1.b0.fVars[Int.toNat r1.t14[r1.t16.toNat]!]!.fLow) then some (3) else if (0 : Int) ≤ r1.t16 ∧ r1.t16 < (↑r1.t2.length : Int) then if (0 : Int) ≤ r1.t14[r1.t16.toNat]! ∧ r1.t14[r1.t16.toNat]! < (↑r1.b0.fVars.length : Int) then bif decide (r1.b0.fVars[Int.toNat r1.t14[r1.t16.toNat]!]!.fHigh < r1.t2[r1.t16.toNat]!) then some (3) else none else none else none else none else none else none else some (0)
theorem c64 (a0 : Flat) (a1 : List Int) (a2 : List Int) : callR Tryz.prog (F64) 300 (an64) 64 (A64.c (a0, a1, a2, ())) [] 0 d64.rd = m64 a0 a1 a2 := by kernel_rfl
def e64 : Orc → Orc := eL Tryz.prog 64 false A64 d64 (fun g => m64 g.1 g.2.1 g.2.2.1)
theorem e64_ok {F : Orc} (h : OrcG Tryz.prog F) : OrcG Tryz.prog (e64 F) := eL_ok (sc := scU) scU_ok (hl_of F64_ok fa64 (fun _ => by kernel_rfl) (fun _ => by kernel_rfl) fun g => c64 g.1 g.2.1 g.2.2.1) ⟨_, Tryz.func64, by kernel_rfl, by kernel_rfl⟩ (fun _ => by kernel_rfl) (fun _ => by kernel_rfl) h
abbrev E47 : Type := Int
def d47 : Td 0 E47 := .c [] [4] (.r 0 0 (ec 4 (qi .i64) en) sn (fun z => z.1.1) (fun x => ((x, ()), (()))) fun _ => rfl)
def A47 := (lc (qg 106) (lc (qi .i64) ln))
def x47 (M : GTerm → Int → Option E47) : Orc → Orc := eL Tryz.prog 47 false A47 d47 (fun g => M g.1 g.2.1)
def H47 (M : GTerm → Int → Option E47) : Prop := HL Tryz.prog 47 A47 d47 (fun g => M g.1 g.2.1)
theorem x47_ok {M : GTerm → Int → Option E47} (hM : H47 M) {F : Orc} (h : OrcG Tryz.prog F) : OrcG Tryz.prog (x47 M F) := eL_ok (sc := scU) scU_ok hM ⟨_, Tryz.func47, by kernel_rfl, by kernel_rfl⟩ (fun _ => by kernel_rfl) (fun _ => by kernel_rfl) h
def F47 (M47 : GTerm → Int → Option E47) : Orc := (x47 M47 or0)
theorem F47_ok {M47} (h47 : H47 M47) : OrcG Tryz.prog (F47 M47) := (x47_ok h47 or0_g)
structure L47_0 where
 t1 : Int
 t5 : Int
 b0 : GTerm
def d47_0 : Td 0 L47_0 := .c [] [1, 2, 5] (.r 0 1 (ec 1 (qi .i64) (ec 2 (qp 0 0) (ec 5 (qi .i64) en))) (sb 0 106 (lg 106) sn) (fun z => ⟨z.1.1, z.1.2.2.1, z.2.1⟩) (fun x => ((x.t1, (), x.t5, ()), (x.b0, ()))) fun _ => rfl)
def n47_0 (M47 : GTerm → Int → Option E47) (p : L47_0) : Option (Option L47_0) :=
 match bif decide (p.t5 < (↑p.b0.fKids.length : Int)) then some (decide (0 ≤ p.t1)) else some (false) with | none => none | some r1 => bif r1 then if (0 : Int) ≤ p.t5 ∧ p.t5 < (↑p.b0.fKids.length : Int) then match M47 (GTerm.mk p.b0.fKids[p.t5.toNat]!.fOp p.b0.fKids[p.t5.toNat]!.fN p.b0.fKids[p.t5.toNat]!.fKids) p.t1 with | none => none | some r2 => some (some (L47_0.mk r2 (i64.wrap (p.t5 + 1)) (GTerm.mk p.b0.fOp p.b0.fN p.b0.fKids))) else none else some (none)
def g47_0 (M47 : GTerm → Int → Option E47) : An := (.two (.two (.rb [] 16) .no) .no)
theorem q47_0 (M47 : GTerm → Int → Option E47) (p : L47_0) : execA Tryz.prog (F47 M47) Tryz.f47.ntmps 300 (loopAt Tryz.f47 0) (g47_0 M47) (Option L47_0) (d47_0.pat p) (kOn d47_0.rd) = n47_0 M47 p := by kernel_rfl
def a47_0 (M47 : GTerm → Int → Option E47) : L47_0 → Option L47_0 := advG (n47_0 M47)
def an47 (M47 : GTerm → Int → Option E47) : An := (.two .no (.two .no (.two (.two .no (d47_0.lp (a47_0 M47) (g47_0 M47))) .no)))
theorem pu47 {M47} : ∀ f ∈ ([] : List Nat), PureF (F47 M47) f := ob_nil
theorem fa47 (M47 : GTerm → Int → Option E47) : FnAn Tryz.prog (F47 M47) 0 300 47 (an47 M47) := fnAn_of (l := [(loopAt Tryz.f47 0, (d47_0.lp (a47_0 M47) (g47_0 M47))), (.skip, (.rb [] 16))]) Tryz.func47 (bodyOf_eq (by kernel_rfl)) (by kernel_rfl) (ob_cons ⟨d47_0.ok _, advG_ok (q47_0 M47)⟩ (ob_cons pu47 ob_nil))
def s47 (M47 : GTerm → Int → Option E47) (a0 : GTerm) (a1 : Int) : Option E47 :=
 match a47_0 M47 (L47_0.mk (i64.wrap (a1 - 1)) (0) (GTerm.mk a0.fOp a0.fN a0.fKids)) with | none => none | some r3 => match bif decide (r3.t5 < (↑r3.b0.fKids.length : Int)) then some (decide (0 ≤ r3.t1)) else some (false) with | none => none | some r4 => bif r4 then if (0 : Int) ≤ r3.t5 ∧ r3.t5 < (↑r3.b0.fKids.length : Int) then match M47 (GTerm.mk r3.b0.fKids[r3.t5.toNat]!.fOp r3.b0.fKids[r3.t5.toNat]!.fN r3.b0.fKids[r3.t5.toNat]!.fKids) r3.t1 with | none => none | some r5 => none else none else some (r3.t1)
theorem c47 (M47 : GTerm → Int → Option E47) (a0 : GTerm) (a1 : Int) : callR Tryz.prog (F47 M47) 300 (an47 M47) 47 (A47.c (a0, a1, ())) [] 0 d47.rd = s47 M47 a0 a1 := by kernel_rfl
def mm47 : Nat → (GTerm → Int → Option E47)
 | 0 => (fun _ _ => none)
 | n + 1 => (s47 (mm47 n))
def m47 (n : Nat) : GTerm → Int → Option E47 := (mm47 n)
theorem mm47_ok : ∀ n, H47 (m47 n)
 | 0 => fun _ _ h => (by cases h)
 | n + 1 => by
  have ih := mm47_ok n
  have i47 := ih
  exact (hl_of (F47_ok i47) (fa47 (m47 n)) (fun _ => by kernel_rfl) (fun _ => by kernel_rfl) fun g => c47 (m47 n) g.1 g.2.1)
def r47 : GTerm → Int → Option E47 := fun a0 a1 => lim (fun n => m47 n a0 a1)
theorem r47_ok : H47 r47 := fun g b h => by
 obtain ⟨n, hn⟩ := lim_some (show lim (fun n => m47 n g.1 g.2.1) = some b from h)
 exact (mm47_ok n) g b hn
def e47 (F : Orc) : Orc := x47 r47 F
theorem e47_ok {F : Orc} (h : OrcG Tryz.prog F) : OrcG Tryz.prog (e47 F) := x47_ok r47_ok h
abbrev E46 : Type := Int
def d46 : Td 0 E46 := .c [] [4] (.r 0 0 (ec 4 (qi .i64) en) sn (fun z => z.1.1) (fun x => ((x, ()), (()))) fun _ => rfl)
def A46 := (lc (ql 111) (lc (qi .i64) ln))
def x46 (M : (List GStep) → Int → Option E46) : Orc → Orc := eL Tryz.prog 46 false A46 d46 (fun g => M g.1 g.2.1)
def H46 (M : (List GStep) → Int → Option E46) : Prop := HL Tryz.prog 46 A46 d46 (fun g => M g.1 g.2.1)
theorem x46_ok {M : (List GStep) → Int → Option E46} (hM : H46 M) {F : Orc} (h : OrcG Tryz.prog F) : OrcG Tryz.prog (x46 M F) := eL_ok (sc := scU) scU_ok hM ⟨_, Tryz.func46, by kernel_rfl, by kernel_rfl⟩ (fun _ => by kernel_rfl) (fun _ => by kernel_rfl) h
def F46 (M46 : (List GStep) → Int → Option E46) : Orc := (e47 (x46 M46 or0))
theorem F46_ok {M46} (h46 : H46 M46) : OrcG Tryz.prog (F46 M46) := (e47_ok (x46_ok h46 or0_g))
structure L46_0 where
 t0 : List GStep
 t1 : Int
 t5 : Int
def d46_0 : Td 0 L46_0 := .c [] [0, 1, 5] (.r 0 0 (ec 0 (ql 111) (ec 1 (qi .i64) (ec 5 (qi .i64) en))) sn (fun z => ⟨z.1.1, z.1.2.1, z.1.2.2.1⟩) (fun x => ((x.t0, x.t1, x.t5, ()), (()))) fun _ => rfl)
def n46_0 (M46 : (List GStep) → Int → Option E46) (p : L46_0) : Option (Option L46_0) :=
 match bif decide (p.t5 < (↑p.t0.length : Int)) then some (decide (0 ≤ p.t1)) else some (false) with | none => none | some r1 => bif r1 then if (0 : Int) ≤ p.t5 ∧ p.t5 < (↑p.t0.length : Int) then match r47 (GTerm.mk p.t0[p.t5.toNat]!.fTerm.fOp p.t0[p.t5.toNat]!.fTerm.fN p.t0[p.t5.toNat]!.fTerm.fKids) (i64.wrap (p.t1 - 1)) with | none => none | some r2 => if (0 : Int) ≤ p.t5 ∧ p.t5 < (↑p.t0.length : Int) then bif decide (r2 < (↑p.t0[p.t5.toNat]!.fBounds.length : Int)) then some (none) else if (0 : Int) ≤ p.t5 ∧ p.t5 < (↑p.t0.length : Int) then if (0 : Int) ≤ p.t5 ∧ p.t5 < (↑p.t0.length : Int) then if (0 : Int) ≤ p.t5 ∧ p.t5 < (↑p.t0.length : Int) then match M46 p.t0[p.t5.toNat]!.fThen (i64.wrap (r2 - (↑p.t0[p.t5.toNat]!.fBounds.length : Int))) with | none => none | some r3 => match M46 p.t0[p.t5.toNat]!.fElse r3 with | none => none | some r4 => some (some (L46_0.mk p.t0 r4 (i64.wrap (p.t5 + 1)))) else none else none else none else none else none else some (none)
def g46_0 (M46 : (List GStep) → Int → Option E46) : An := (.two (.two (.rb [] 13) .no) .no)
theorem q46_0 (M46 : (List GStep) → Int → Option E46) (p : L46_0) : execA Tryz.prog (F46 M46) Tryz.f46.ntmps 300 (loopAt Tryz.f46 0) (g46_0 M46) (Option L46_0) (d46_0.pat p) (kOn d46_0.rd) = n46_0 M46 p := by kernel_rfl
def a46_0 (M46 : (List GStep) → Int → Option E46) : L46_0 → Option L46_0 := advG (n46_0 M46)
def an46 (M46 : (List GStep) → Int → Option E46) : An := (.two .no (.two (.two .no (d46_0.lp (a46_0 M46) (g46_0 M46))) .no))
theorem pu46 {M46} : ∀ f ∈ ([] : List Nat), PureF (F46 M46) f := ob_nil
theorem fa46 (M46 : (List GStep) → Int → Option E46) : FnAn Tryz.prog (F46 M46) 0 300 46 (an46 M46) := fnAn_of (l := [(loopAt Tryz.f46 0, (d46_0.lp (a46_0 M46) (g46_0 M46))), (.skip, (.rb [] 13))]) Tryz.func46 (bodyOf_eq (by kernel_rfl)) (by kernel_rfl) (ob_cons ⟨d46_0.ok _, advG_ok (q46_0 M46)⟩ (ob_cons pu46 ob_nil))
def s46 (M46 : (List GStep) → Int → Option E46) (a0 : List GStep) (a1 : Int) : Option E46 :=
 match a46_0 M46 (L46_0.mk a0 a1 (0)) with | none => none | some r5 => match bif decide (r5.t5 < (↑r5.t0.length : Int)) then some (decide (0 ≤ r5.t1)) else some (false) with | none => none | some r6 => bif r6 then if (0 : Int) ≤ r5.t5 ∧ r5.t5 < (↑r5.t0.length : Int) then match r47 (GTerm.mk r5.t0[r5.t5.toNat]!.fTerm.fOp r5.t0[r5.t5.toNat]!.fTerm.fN r5.t0[r5.t5.toNat]!.fTerm.fKids) (i64.wrap (r5.t1 - 1)) with | none => none | some r7 => if (0 : Int) ≤ r5.t5 ∧ r5.t5 < (↑r5.t0.length : Int) then bif decide (r7 < (↑r5.t0[r5.t5.toNat]!.fBounds.length : Int)) then some (-1) else if (0 : Int) ≤ r5.t5 ∧ r5.t5 < (↑r5.t0.length : Int) then if (0 : Int) ≤ r5.t5 ∧ r5.t5 < (↑r5.t0.length : Int) then if (0 : Int) ≤ r5.t5 ∧ r5.t5 < (↑r5.t0.length : Int) then match M46 r5.t0[r5.t5.toNat]!.fThen (i64.wrap (r7 - (↑r5.t0[r5.t5.toNat]!.fBounds.length : Int))) with | none => none | some r8 => match M46 r5.t0[r5.t5.toNat]!.fElse r8 with | none => none | some r9 => none else none else none else none else none else none else some (r5.t1)
theorem c46 (M46 : (List GStep) → Int → Option E46) (a0 : List GStep) (a1 : Int) : callR Tryz.prog (F46 M46) 300 (an46 M46) 46 (A46.c (a0, a1, ())) [] 0 d46.rd = s46 M46 a0 a1 := by kernel_rfl
def mm46 : Nat → ((List GStep) → Int → Option E46)
 | 0 => (fun _ _ => none)
 | n + 1 => (s46 (mm46 n))
def m46 (n : Nat) : (List GStep) → Int → Option E46 := (mm46 n)
theorem mm46_ok : ∀ n, H46 (m46 n)
 | 0 => fun _ _ h => (by cases h)
 | n + 1 => by
  have ih := mm46_ok n
  have i46 := ih
  exact (hl_of (F46_ok i46) (fa46 (m46 n)) (fun _ => by kernel_rfl) (fun _ => by kernel_rfl) fun g => c46 (m46 n) g.1 g.2.1)
def r46 : (List GStep) → Int → Option E46 := fun a0 a1 => lim (fun n => m46 n a0 a1)
theorem r46_ok : H46 r46 := fun g b h => by
 obtain ⟨n, hn⟩ := lim_some (show lim (fun n => m46 n g.1 g.2.1) = some b from h)
 exact (mm46_ok n) g b hn
def e46 (F : Orc) : Orc := x46 r46 F
theorem e46_ok {F : Orc} (h : OrcG Tryz.prog F) : OrcG Tryz.prog (e46 F) := x46_ok r46_ok h
def F13 : Orc := (e47 (e46 or0))
theorem F13_ok : OrcG Tryz.prog F13 := (e47_ok (e46_ok or0_g))
structure L13_0 where
 t7 : Int
 t27 : List Hatch
 t28 : Int
 t29 : Int
def d13_0 : Td 0 L13_0 := .c [] [7, 27, 28, 29] (.r 0 0 (ec 7 (qi .i64) (ec 27 (ql 116) (ec 28 (qi .i64) (ec 29 (qi .i64) en)))) sn (fun z => ⟨z.1.1, z.1.2.1, z.1.2.2.1, z.1.2.2.2.1⟩) (fun x => ((x.t7, x.t27, x.t28, x.t29, ()), (()))) fun _ => rfl)
def n13_0 (p : L13_0) : Option (Option L13_0) :=
 bif decide (p.t29 < p.t28) then if (0 : Int) ≤ p.t29 ∧ p.t29 < (↑p.t27.length : Int) then match r47 (GTerm.mk p.t27[p.t29.toNat]!.fTerm.fOp p.t27[p.t29.toNat]!.fTerm.fN p.t27[p.t29.toNat]!.fTerm.fKids) p.t7 with | none => none | some r1 => some (some (L13_0.mk r1 p.t27 p.t28 (i64.wrap (p.t29 + 1)))) else none else some (none)
theorem q13_0 (p : L13_0) : execA Tryz.prog (F13) Tryz.f13.ntmps 300 (loopAt Tryz.f13 0) .no (Option L13_0) (d13_0.pat p) (kOn d13_0.rd) = n13_0 p := by kernel_rfl
def a13_0 : L13_0 → Option L13_0 := advG (n13_0)
abbrev E13 : Type := Bool
def d13 : Td 0 E13 := .c [] [6] (.r 0 0 (ec 6 qb en) sn (fun z => z.1.1) (fun x => ((x, ()), (()))) fun _ => rfl)
def A13 := (lc (qg 26) (lc (qi .i64) (lc (qi .i64) ln)))
def an13 : An := (.two .no (.two (.two (.rb [] 21) .no) (.two .no (.two (.two .no (d13_0.lp a13_0 .no)) .no))))
theorem pu13  : ∀ f ∈ ([] : List Nat), PureF (F13) f := ob_nil
theorem fa13 : FnAn Tryz.prog (F13) 0 300 13 (an13) := fnAn_of (l := [(.skip, (.rb [] 21)), (loopAt Tryz.f13 0, (d13_0.lp a13_0 .no))]) Tryz.func13 (bodyOf_eq (by kernel_rfl)) (by kernel_rfl) (ob_cons pu13 (ob_cons ⟨d13_0.ok _, advG_ok (q13_0)⟩ ob_nil))
def m13 (a0 : Flat) (a1 : Int) (a2 : Int) : Option E13 :=
 match bif decide (a1 < (↑a0.fVars.length : Int)) then some (true) else some (decide (a1 < (↑a0.fHatches.length : Int))) with | none => none | some r2 => bif r2 then some (false) else match r46 a0.fBody a2 with | none => none | some r3 => match a13_0 (L13_0.mk r3 a0.fHatches (↑a0.fHatches.length : Int) (0)) with | none => none | some r4 => bif decide (r4.t29 < r4.t28) then if (0 : Int) ≤ r4.t29 ∧ r4.t29 < (↑r4.t27.length : Int) then match r47 (GTerm.mk r4.t27[r4.t29.toNat]!.fTerm.fOp r4.t27[r4.t29.toNat]!.fTerm.fN r4.t27[r4.t29.toNat]!.fTerm.fKids) r4.t7 with | none => none | some r5 => none else none else some (decide (0 ≤ r4.t7))
theorem c13 (a0 : Flat) (a1 : Int) (a2 : Int) : callR Tryz.prog (F13) 300 (an13) 13 (A13.c (a0, a1, a2, ())) [] 0 d13.rd = m13 a0 a1 a2 := by kernel_rfl
theorem h13 : HL Tryz.prog 13 A13 d13 (fun g => m13 g.1 g.2.1 g.2.2.1) := (hl_of F13_ok fa13 (fun _ => by kernel_rfl) (fun _ => by kernel_rfl) fun g => c13 g.1 g.2.1 g.2.2.1)
def e13 : Orc → Orc := eL Tryz.prog 13 false A13 d13 (fun g => m13 g.1 g.2.1 g.2.2.1)
theorem e13_ok {F : Orc} (h : OrcG Tryz.prog F) : OrcG Tryz.prog (e13 F) := eL_ok (sc := scU) scU_ok h13 ⟨_, Tryz.func13, by kernel_rfl, by kernel_rfl⟩ (fun _ => by kernel_rfl) (fun _ => by kernel_rfl) h
theorem e13_pure {F : Orc} {f : Nat} (h : PureF F f) : PureF (e13 F) f := orL_pure h (fun _ => by kernel_rfl)
theorem GTerm.eta (t : GTerm) : GTerm.mk t.fOp t.fN t.fKids = t := by cases t; rfl
theorem GTerm.kids_lt {t k : GTerm} (h : k ∈ t.fKids) : SizeOf.sizeOf k < SizeOf.sizeOf t := by
 cases t
 have := List.sizeOf_lt_of_mem h
 simp only [GTerm.mk.sizeOf_spec]
 simp only at this
 omega
def nT (t : GTerm) : Nat := 1 + (t.fKids.attach.map fun k => nT k.1).sum
termination_by SizeOf.sizeOf t
decreasing_by exact GTerm.kids_lt k.2
def nTs (l : List GTerm) : Nat := (l.map nT).sum
theorem nT_eq (t : GTerm) : nT t = 1 + nTs t.fKids := by
 rw [nT, nTs]
 simp
theorem nTs_cons (k : GTerm) (ks : List GTerm) : nTs (k :: ks) = nT k + nTs ks := by simp [nTs]
theorem nTs_mem {k : GTerm} {ks : List GTerm} (h : k ∈ ks) : nT k ≤ nTs ks := by
  induction ks with
  | nil => cases h
  | cons a ks ih =>
    rw [nTs_cons]
    rcases List.mem_cons.1 h with rfl | h
    · omega
    · have := ih h; omega
theorem nT_pos (t : GTerm) : 0 < nT t := by rw [nT_eq]; omega
def tl (t : GTerm) (left : Int) : Int := if (nT t : Int) ≤ left then left - nT t else if 0 ≤ left then -1 else left - 1
def tls : List GTerm → Int → Int
 | [], l => l
 | k :: ks, l => if 0 ≤ l then tls ks (tl k l) else l
theorem tls_eq : ∀ (ks : List GTerm) (l : Int), tls ks l = if 0 ≤ l then (if (nTs ks : Int) ≤ l then l - nTs ks else -1) else l
  | [], l => by simp [tls, nTs]; omega
  | k :: ks, l => by
    have e := nTs_cons k ks
    unfold tls
    by_cases h : 0 ≤ l
    · rw [if_pos h, if_pos h, tls_eq ks, e]
      unfold tl
      grind
    · omega
theorem tl_eq (t : GTerm) (left : Int) : tl t left = tls t.fKids (left - 1) := by
 rw [tls_eq, tl, nT_eq]
 grind
theorem tl_bd (t : GTerm) (l : Int) : (0 ≤ l → -1 ≤ tl t l ∧ tl t l ≤ l - 1) ∧ (l < 0 → tl t l = l - 1) := by
 have := nT_pos t
 unfold tl
 grind
theorem loop55 (M : GTerm → Int → Option E47) (t : GTerm) (hM : ∀ k ∈ t.fKids, ∀ l : Int, 0 ≤ l → l ≤ 1000 → M k l = some (tl k l)) :
    ∀ (ks : List GTerm) (i : Nat) (l : Int), t.fKids.drop i = ks → i + ks.length = t.fKids.length → l ≤ 1000 - i → ∃ q, a47_0 M ⟨l, i, t⟩ = some q ∧ q.t1 = tls ks l ∧ q.b0 = t ∧ (q.t5 < t.fKids.length → q.t1 < 0)
  | [], i, l, hd, hl, _ => by
    refine ⟨_, advG_stop fun r => ?_, rfl, rfl, fun h => ?_⟩
    · have : ¬ ((i : Int) < t.fKids.length) := by simp at hl; omega
      simp [n47_0, this]
    · simp at hl h; omega
  | k :: ks, i, l, hd, hl, h2 => by
    have hil : i < t.fKids.length := by simp at hl; omega
    have hki : t.fKids[i]! = k := by
      have : t.fKids[i]? = some k := by
        have := congrArg List.head? hd
        rw [List.head?_drop] at this
        assumption
      rw [List.getElem!_eq_getElem?_getD, this]; rfl
    have hmem : k ∈ t.fKids := by rw [← hki, getElem!_pos t.fKids i hil]; exact List.getElem_mem hil
    by_cases h0 : 0 ≤ l
    · have hd' : t.fKids.drop (i + 1) = ks := by
        have := congrArg List.tail hd
        rw [List.tail_drop] at this
        assumption
      have b3 := ((tl_bd k l).1 h0).2
      obtain ⟨q, e1, e2, e3, e4⟩ := loop55 M t hM ks (i + 1) (tl k l) hd' (by simp at hl; omega) (by omega)
      refine ⟨q, ?_, ?_, e3, e4⟩
      · rw [← e1]
        refine advG_step ?_
        have hw : i64.wrap ((i : Int) + 1) = ((i + 1 : Nat) : Int) := by rw [wrap_id (by omega) (by omega)]; omega
        have hk2 : t.fKids[i] = k := by rw [← hki, getElem!_pos t.fKids i hil]
        simp [n47_0, hil, h0, hk2, GTerm.eta, hM k hmem l h0 (by omega)]
        exact hw
      · rw [e2]
        show _ = if 0 ≤ l then _ else _
        omega
    · refine ⟨_, advG_stop fun r => ?_, ?_, rfl, fun h => ?_⟩
      · simp [n47_0, h0]
      · show l = if 0 ≤ l then _ else l
        omega
      · simp only; omega
theorem s47_eq (M : GTerm → Int → Option E47) (t : GTerm) (hM : ∀ k ∈ t.fKids, ∀ l : Int, 0 ≤ l → l ≤ 1000 → M k l = some (tl k l)) (l : Int) (h1 : -1000000 ≤ l) (h2 : l ≤ 1000) : s47 M t l = some (tl t l) := by
  obtain ⟨q, e1, e2, e3, e4⟩ := loop55 M t hM t.fKids 0 (l - 1) rfl (by simp) (by omega)
  have hw : i64.wrap (l - 1) = l - 1 := wrap_id (by omega) (by omega)
  rw [tl_eq, ← e2]
  unfold s47
  rw [hw, GTerm.eta, show ((0 : Nat) : Int) = 0 from rfl] at *
  rw [e1]
  obtain ⟨q1, q5, qb⟩ := q
  subst e3
  dsimp only at *
  by_cases h5 : q5 < (qb.fKids.length : Int)
  · have := e4 h5
    simp [show ¬ (0 ≤ q1) by omega]
  · simp [h5]
theorem m47_eq : ∀ (n : Nat) (t : GTerm) (l : Int), SizeOf.sizeOf t < n → -1000000 ≤ l → l ≤ 1000 → m47 n t l = some (tl t l)
 | 0, _, _, h, _, _ => by omega
 | n + 1, t, l, h, h1, h2 => s47_eq (m47 n) t (fun k hk l h3 h4 => m47_eq n k l (by have := GTerm.kids_lt hk; omega) (by omega) h4) l h1 h2
theorem r47_eq (t : GTerm) (l : Int) (h1 : -1000000 ≤ l) (h2 : l ≤ 1000) : r47 t l = some (tl t l) := lim_eq (SizeOf.sizeOf t + 1) fun n hn => m47_eq n t l (by omega) h1 h2
theorem GStep.then_lt {s k : GStep} (h : k ∈ s.fThen) : SizeOf.sizeOf k < SizeOf.sizeOf s := by
 cases s
 have := List.sizeOf_lt_of_mem h
 simp only [GStep.mk.sizeOf_spec]
 simp only at this
 omega
theorem GStep.else_lt {s k : GStep} (h : k ∈ s.fElse) : SizeOf.sizeOf k < SizeOf.sizeOf s := by
 cases s
 have := List.sizeOf_lt_of_mem h
 simp only [GStep.mk.sizeOf_spec]
 simp only at this
 omega
theorem GStep.eta (s : GStep) : GStep.mk s.fDo s.fCost s.fVar s.fN s.fTerm s.fThen s.fElse s.fBounds = s := by cases s; rfl
def nS (s : GStep) : Nat := 1 + nT s.fTerm + s.fBounds.length + (s.fThen.attach.map fun k => nS k.1).sum + (s.fElse.attach.map fun k => nS k.1).sum
termination_by SizeOf.sizeOf s
decreasing_by
  · exact GStep.then_lt k.2
  · exact GStep.else_lt k.2
def nSs (l : List GStep) : Nat := (l.map nS).sum
theorem nS_eq (s : GStep) : nS s = 1 + nT s.fTerm + s.fBounds.length + nSs s.fThen + nSs s.fElse := by
 rw [nS, nSs, nSs]
 simp
theorem nSs_cons (k : GStep) (ks : List GStep) : nSs (k :: ks) = nS k + nSs ks := by simp [nSs]
def sl (l : List GStep) (left : Int) : Int := if left < 0 then left else if (nSs l : Int) ≤ left then left - nSs l else -1
def stp54 (left : Int) (s : GStep) : Option Int := if left < 0 then none else if tl s.fTerm (left - 1) < s.fBounds.length then none else some (sl s.fElse (sl s.fThen (tl s.fTerm (left - 1) - s.fBounds.length)))
theorem stp54_le {left x : Int} {s : GStep} (h : stp54 left s = some x) : 0 ≤ left ∧ -1 ≤ x ∧ x ≤ left - 1 ∧ x = if (nS s : Int) ≤ left then left - nS s else -1 := by
 unfold stp54 at h
 have e := nS_eq s
 unfold tl sl at h
 grind
theorem stp54_none {left : Int} {s : GStep} (h : stp54 left s = none) (h0 : 0 ≤ left) : left < nS s := by
 unfold stp54 at h
 have e := nS_eq s
 unfold tl at h
 grind
theorem run54 : ∀ (l : List GStep) (left : Int), foldE stp54 (fun v _ => if v < 0 then v else -1) id l left = sl l left
 | [], left => by unfold sl; simp [nSs, foldE]; omega
 | s :: l, left => by
  have e := nSs_cons s l
  unfold foldE
  cases hs : stp54 left s with
  | none =>
   have := stp54_none hs
   unfold sl
   grind
  | some x =>
   obtain ⟨h1, h2, h3, h4⟩ := stp54_le hs
   dsimp only
   rw [run54 l x]
   unfold sl
   grind
theorem s46_eq (M : List GStep → Int → Option E46) (l : List GStep) (hM : ∀ s ∈ l, (∀ x : Int, -1 ≤ x → x ≤ 1000 → M s.fThen x = some (sl s.fThen x)) ∧ (∀ x : Int, -1 ≤ x → x ≤ 1000 → M s.fElse x = some (sl s.fElse x))) (left : Int) (h1 : -1 ≤ left) (h2 : left ≤ 1000) :
    s46 M l left = some (sl l left) := by
  have hstep : ∀ (i : Nat) (b : Int) (hi : i < l.length), b ≤ 1000 - i → -1 ≤ b → n46_0 M ⟨l, b, i⟩ = if b < 0 then some none else if tl l[i].fTerm (b - 1) < l[i].fBounds.length then some none else some (some ⟨l, sl l[i].fElse (sl l[i].fThen (tl l[i].fTerm (b - 1) - l[i].fBounds.length)), ((i + 1 : Nat) : Int)⟩) := fun i b hi hb hb2 => by
    obtain ⟨m1, m2⟩ := hM l[i] (List.getElem_mem hi)
    unfold n46_0
    by_cases h0 : b < 0
    · simp [show ¬ 0 ≤ b by omega]
    · have e1 : i64.wrap (b - 1) = b - 1 := wrap_id (by omega) (by omega)
      have e2 := r47_eq l[i].fTerm (b - 1) (by omega) (by omega)
      have e3 := tl_bd l[i].fTerm (b - 1)
      have hT : -2 ≤ tl l[i].fTerm (b - 1) ∧ tl l[i].fTerm (b - 1) ≤ 1000 := by grind
      by_cases h4 : tl l[i].fTerm (b - 1) < l[i].fBounds.length
      · simp [hi, e1, GTerm.eta, e2, h4]
      · have e5 : i64.wrap (tl l[i].fTerm (b - 1) - l[i].fBounds.length) = tl l[i].fTerm (b - 1) - l[i].fBounds.length := wrap_id (by omega) (by omega)
        have e6 := m1 (tl l[i].fTerm (b - 1) - l[i].fBounds.length) (by omega) (by omega)
        have hS : -1 ≤ sl l[i].fThen (tl l[i].fTerm (b - 1) - l[i].fBounds.length) ∧ sl l[i].fThen (tl l[i].fTerm (b - 1) - l[i].fBounds.length) ≤ 1000 := by unfold sl; grind
        have e7 := m2 _ hS.1 hS.2
        have e8 : i64.wrap ((i : Int) + 1) = ((i + 1 : Nat) : Int) := by rw [wrap_id (by omega) (by omega)]; omega
        simp [hi, h0, e1, GTerm.eta, e2, h4, e5, e6, e7, show 0 ≤ b by omega]
        exact e8
  obtain ⟨i, v, hi, e1, ⟨e2, e3⟩, e4⟩ := advG_list (rnd := n46_0 M) l (fun i b => ⟨l, b, (i : Int)⟩) stp54 (fun v _ => if v < 0 then v else -1) id (fun i b => b ≤ 1000 - i ∧ -1 ≤ b) (fun i b hi hI b' hs => by
      obtain ⟨q1, q2, q3, q4⟩ := stp54_le hs
      refine ⟨?_, by omega, q2⟩
      unfold stp54 at hs
      grind) (fun i b hi hI hs r => by
      unfold stp54 at hs
      grind) (fun b hI r => by simp [n46_0]) (b := left) ⟨by omega, h1⟩
  have e1' : a46_0 M ⟨l, left, 0⟩ = some ⟨l, v, i⟩ := e1
  unfold s46
  rw [e1']
  rw [run54] at e4
  rcases e4 with ⟨h5, e4⟩ | ⟨h5, hn, e4⟩
  · simp [h5, e4]
  · rw [e4]
    by_cases h0 : v < 0
    · simp [h5, h0, show ¬ (0 ≤ v) by omega]
    · have e1 : i64.wrap (v - 1) = v - 1 := wrap_id (by omega) (by omega)
      have e2 := r47_eq l[i].fTerm (v - 1) (by omega) (by omega)
      have h4 : tl l[i].fTerm (v - 1) < l[i].fBounds.length := by unfold stp54 at hn; grind
      simp [h5, h0, show 0 ≤ v by omega, e1, GTerm.eta, e2, h4]
theorem sizeOf_then {s : GStep} {l : List GStep} (h : s ∈ l) : SizeOf.sizeOf s.fThen < SizeOf.sizeOf l ∧ SizeOf.sizeOf s.fElse < SizeOf.sizeOf l := by
 have := List.sizeOf_lt_of_mem h
 cases s
 simp only [GStep.mk.sizeOf_spec] at this
 simp only
 omega
theorem m46_eq : ∀ (n : Nat) (l : List GStep) (x : Int), SizeOf.sizeOf l < n → -1 ≤ x → x ≤ 1000 → m46 n l x = some (sl l x)
 | 0, _, _, h, _, _ => by omega
 | n + 1, l, x, h, h1, h2 => s46_eq (m46 n) l (fun s hs => ⟨fun x h3 h4 => m46_eq n _ x (by have := sizeOf_then hs; omega) h3 h4, fun x h3 h4 => m46_eq n _ x (by have := sizeOf_then hs; omega) h3 h4⟩) x h1 h2
theorem r46_eq (l : List GStep) (x : Int) (h1 : -1 ≤ x) (h2 : x ≤ 1000) : r46 l x = some (sl l x) := lim_eq (SizeOf.sizeOf l + 1) fun n hn => m46_eq n l x (by omega) h1 h2
def few (f : Flat) (vars nodes : Int) : Bool := decide ((f.fVars.length : Int) ≤ vars ∧ (f.fHatches.length : Int) ≤ vars ∧ (nSs f.fBody + nTs (f.fHatches.map (·.fTerm)) : Int) ≤ nodes)
theorem m13_eq (f : Flat) (vars nodes : Int) (h1 : 0 ≤ vars) (h2 : vars ≤ 1000) (h3 : 0 ≤ nodes) (h4 : nodes ≤ 1000) : m13 f vars nodes = some (few f vars nodes) := by
  unfold m13
  by_cases q1 : vars < f.fVars.length
  · simp [q1, few]; omega
  · by_cases q2 : vars < f.fHatches.length
    · simp [q2, few]; omega
    · rw [r46_eq _ _ (by omega) (by omega)]
      have hb : sl f.fBody nodes ≤ 1000 ∧ -1 ≤ sl f.fBody nodes := by unfold sl; grind
      have hstep : ∀ (i : Nat) (b : Int) (hi : i < f.fHatches.length), b ≤ 1000 → -1 - (i : Int) ≤ b → n13_0 ⟨b, f.fHatches, f.fHatches.length, i⟩ = some (some ⟨tl f.fHatches[i].fTerm b, f.fHatches, f.fHatches.length, ((i + 1 : Nat) : Int)⟩) := fun i b hi hb hb2 => by
        have e2 := r47_eq f.fHatches[i].fTerm b (by omega) (by omega)
        have e8 : i64.wrap ((i : Int) + 1) = ((i + 1 : Nat) : Int) := by rw [wrap_id (by omega) (by omega)]; omega
        unfold n13_0
        simp [hi, GTerm.eta, e2]
        exact e8
      obtain ⟨i, v, hi, e1, _, e4⟩ := advG_list (rnd := n13_0) f.fHatches (fun i b => ⟨b, f.fHatches, f.fHatches.length, (i : Int)⟩) (fun b h => some (tl h.fTerm b)) (fun v _ => v) id (fun i b => b ≤ 1000 ∧ -1 - (i : Int) ≤ b) (fun i b hi hI b' hs => by
          have := tl_bd f.fHatches[i].fTerm b
          grind) (fun i b hi hI hs r => by cases hs) (fun b hI r => by simp [n13_0]) (b := sl f.fBody nodes) ⟨hb.1, by omega⟩
      have e1' : a13_0 ⟨sl f.fBody nodes, f.fHatches, f.fHatches.length, 0⟩ = some ⟨v, f.fHatches, f.fHatches.length, i⟩ := e1
      rcases e4 with ⟨h5, e4⟩ | ⟨_, hn, _⟩
      case inr => cases hn
      have key : ∀ (l : List Hatch) (b : Int), 0 ≤ foldE (ρ := Int) (fun b h => some (tl h.fTerm b)) (fun v _ => v) id l b ↔ (nTs (l.map (·.fTerm)) : Int) ≤ b := fun l => by
        induction l with
        | nil => intro b; simp [foldE, nTs]
        | cons h l ih =>
          intro b
          unfold foldE
          rw [ih, List.map_cons, nTs_cons]
          unfold tl
          grind
      have k2 := key f.fHatches (sl f.fBody nodes)
      rw [e4] at k2
      have k3 : (0 ≤ v) ↔ (nTs (f.fHatches.map (·.fTerm)) : Int) ≤ sl f.fBody nodes := k2
      simp only [q1, q2, decide_false, cond_false, e1', h5, Int.lt_irrefl, few]
      congr 1
      rw [decide_eq_decide, k3]
      unfold sl
      grind
theorem Z0 : ((0 : Nat) : Int) = (0 : Int) := rfl
def okc (i : Nat) (c : Int) : Bool := decide ((97 ≤ c ∧ c ≤ 122) ∨ (i ≠ 0 ∧ ((48 ≤ c ∧ c ≤ 57) ∨ c = 46 ∨ c = 95)))
def nameB (s : ByteArray) : Bool := decide (1 ≤ s.size) && decide (s.size ≤ 40) && (List.range s.size).all fun i => okc i (byteAt s i)
def boundB (low high : Int) : Bool := decide (low ≤ high ∧ -1048576 ≤ low ∧ high ≤ 1048576)
def varC (vars : List GVar) (i : Nat) (v : GVar) : Int :=
 if nameB v.fName = false then 7
 else if ((vars.take i).any fun w => w.fName.toList == v.fName.toList) = true then 8
 else if v.fKind < 0 ∨ 3 < v.fKind then 1
 else if boundB v.fLow v.fHigh = false then 3
 else if v.fKind = 0 then (if v.fInit < v.fLow ∨ v.fHigh < v.fInit then 3 else 0)
 else if v.fInit = 0 then 0 else 3
def spc (kind : Int) : List GVar → Int → Option Int
 | [], n => some n
 | v :: vs, n => if v.fKind = kind then (if 4096 < n * (v.fHigh - v.fLow + 1) then none else spc kind vs (n * (v.fHigh - v.fLow + 1))) else spc kind vs n
def spaceB (vars : List GVar) : Bool := (spc 1 vars 1).isSome && (spc 2 vars 1).isSome && (match spc 3 vars 1 with | some n => decide (n ≤ 256) | none => false)
def varsC (vars : List GVar) : Int := if firstC (varC vars) vars 0 ≠ 0 then firstC (varC vars) vars 0 else if spaceB vars = true then 0 else 4
def kidsN (o : Int) : Int × Int := if o = 0 ∨ o = 24 then (0, 0) else if o = 6 ∨ o = 7 then (1, 1) else if 8 ≤ o ∧ o ≤ 22 then (2, 2) else if o = 23 then (3, 3) else if o = 25 then (2, 33) else (-1, -1)
def form0 (vars : List GVar) (inp : Bool) (t : GTerm) : Bool := decide (0 ≤ (kidsN t.fOp).1 ∧ (kidsN t.fOp).1 ≤ t.fKids.length ∧ (t.fKids.length : Int) ≤ (kidsN t.fOp).2) &&
 (if t.fOp = 0 then true else if t.fOp = 24 then decide (0 ≤ t.fN ∧ t.fN < vars.length) && !(inp && decide (vars[t.fN.toNat]!.fKind = 0)) else decide (t.fN = 0))
def formS (vars : List GVar) (inp : Bool) (t : GTerm) : Bool := form0 vars inp t && t.fKids.attach.all fun k => formS vars inp k.1
termination_by SizeOf.sizeOf t
decreasing_by exact GTerm.kids_lt k.2
theorem formS_eq (vars : List GVar) (inp : Bool) (t : GTerm) : formS vars inp t = (form0 vars inp t && t.fKids.all (formS vars inp)) := by
 rw [formS]
 simp
def hull (a b : Span) : Span := ⟨if b.fLow < a.fLow then b.fLow else a.fLow, if a.fHigh < b.fHigh then b.fHigh else a.fHigh⟩
def ruleS (vars : List GVar) (t : GTerm) (k : List Span) : Span :=
 if t.fOp = 0 then ⟨t.fN, t.fN⟩
 else if t.fOp = 24 then ⟨vars[t.fN.toNat]!.fLow, vars[t.fN.toNat]!.fHigh⟩
 else if t.fOp = 6 then ⟨-k[0]!.fHigh, -k[0]!.fLow⟩
 else if t.fOp = 8 then ⟨k[0]!.fLow + k[1]!.fLow, k[0]!.fHigh + k[1]!.fHigh⟩
 else if t.fOp = 9 then ⟨k[0]!.fLow - k[1]!.fHigh, k[0]!.fHigh - k[1]!.fLow⟩
 else if t.fOp = 10 then
  hull (hull (hull ⟨k[0]!.fLow * k[1]!.fLow, k[0]!.fLow * k[1]!.fLow⟩ ⟨k[0]!.fLow * k[1]!.fHigh, k[0]!.fLow * k[1]!.fHigh⟩) ⟨k[0]!.fHigh * k[1]!.fLow, k[0]!.fHigh * k[1]!.fLow⟩) ⟨k[0]!.fHigh * k[1]!.fHigh, k[0]!.fHigh * k[1]!.fHigh⟩
 else if t.fOp = 11 then
  (if (0 : Int) ≤ k[0]!.fLow ∧ (0 : Int) ≤ k[1]!.fLow then ⟨0, if k[0]!.fHigh < -k[0]!.fLow then -k[0]!.fLow else k[0]!.fHigh⟩ else ⟨-(if k[0]!.fHigh < -k[0]!.fLow then -k[0]!.fLow else k[0]!.fHigh), if k[0]!.fHigh < -k[0]!.fLow then -k[0]!.fLow else k[0]!.fHigh⟩)
 else if t.fOp = 12 then ⟨if k[1]!.fLow < 0 then k[1]!.fLow + 1 else 0, if (0 : Int) < k[1]!.fHigh then k[1]!.fHigh - 1 else 0⟩
 else if t.fOp = 21 then ⟨if k[1]!.fLow < k[0]!.fLow then k[1]!.fLow else k[0]!.fLow, if k[1]!.fHigh < k[0]!.fHigh then k[1]!.fHigh else k[0]!.fHigh⟩
 else if t.fOp = 22 then ⟨if k[0]!.fLow < k[1]!.fLow then k[1]!.fLow else k[0]!.fLow, if k[0]!.fHigh < k[1]!.fHigh then k[1]!.fHigh else k[0]!.fHigh⟩
 else if t.fOp = 23 ∨ t.fOp = 25 then (k.drop 2).foldl hull k[1]!
 else ⟨0, 1⟩
def limS (s : Span) : Bool := decide (-1048576 ≤ s.fLow ∧ s.fHigh ≤ 1048576)
def allS : List (Option Span) → Option (List Span)
 | [] => some []
 | none :: _ => none
 | some s :: xs => match allS xs with | some l => some (s :: l) | none => none
def rngS (vars : List GVar) (t : GTerm) : Option Span := match allS (t.fKids.attach.map fun k => rngS vars k.1) with
 | none => none
 | some l => if limS (ruleS vars t l) = true then some (ruleS vars t l) else none
termination_by SizeOf.sizeOf t
decreasing_by exact GTerm.kids_lt k.2
theorem rngS_eq (vars : List GVar) (t : GTerm) : rngS vars t = match allS (t.fKids.map (rngS vars)) with
 | none => none
 | some l => if limS (ruleS vars t l) = true then some (ruleS vars t l) else none := by
 rw [rngS]
 simp
def termC (vars : List GVar) (inp : Bool) (t : GTerm) : Int := if formS vars inp t = false then 1 else if (rngS vars t).isSome then 0 else 3
def hatC (f : Flat) (i : Nat) (h : Hatch) : Int :=
 if nameB h.fName = false then 7
 else if ((f.fHatches.take i).any fun w => w.fName.toList == h.fName.toList) = true then 8
 else if boundB h.fLow h.fHigh = false then 3
 else termC f.fVars true h.fTerm
def dT (t : GTerm) : Int := 1 + (t.fKids.attach.map fun k => dT k.1).foldl max 0
termination_by SizeOf.sizeOf t
decreasing_by exact GTerm.kids_lt k.2
def dTs (l : List GTerm) : Int := (l.map dT).foldl max 0
theorem dT_eq (t : GTerm) : dT t = 1 + dTs t.fKids := by
 rw [dT, dTs]
 simp
theorem dTs_snoc (l : List GTerm) (k : GTerm) : dTs (l ++ [k]) = max (dTs l) (dT k) := by
 unfold dTs
 simp
theorem nTs_snoc (l : List GTerm) (k : GTerm) : nTs (l ++ [k]) = nTs l + nT k := by
 simp [nTs]
theorem le_foldl_max : ∀ (l : List Int) (a : Int), a ≤ l.foldl max a
 | [], a => Int.le_refl _
 | x :: l, a => Int.le_trans (Int.le_max_left a x) (le_foldl_max l (max a x))
theorem dTs_pos (l : List GTerm) : 0 ≤ dTs l := le_foldl_max _ _
theorem dT_pos (t : GTerm) : 1 ≤ dT t := by have := dTs_pos t.fKids; rw [dT_eq]; omega
theorem size_tail (s : GStep) (l : List GStep) : SizeOf.sizeOf l < SizeOf.sizeOf (s :: l) := by
 rw [List.cons.sizeOf_spec]
 omega
def dSs : List GStep → Int
 | [] => 0
 | s :: l => max (max (dSs s.fThen + 1) (dSs s.fElse + 1)) (dSs l)
termination_by l => SizeOf.sizeOf l
decreasing_by
  · exact (sizeOf_then (List.mem_cons_self ..)).1
  · exact (sizeOf_then (List.mem_cons_self ..)).2
  · exact size_tail _ _
def tDeep : List GStep → Bool
 | [] => false
 | s :: l => decide (12 < dT s.fTerm) || tDeep s.fThen || tDeep s.fElse || tDeep l
termination_by l => SizeOf.sizeOf l
decreasing_by
  · exact (sizeOf_then (List.mem_cons_self ..)).1
  · exact (sizeOf_then (List.mem_cons_self ..)).2
  · exact size_tail _ _
theorem dSs_pos (l : List GStep) : 0 ≤ dSs l := by
 induction l with
 | nil => rw [dSs]; omega
 | cons s l ih => rw [dSs]; omega
theorem dSs_snoc (l : List GStep) (s : GStep) : dSs (l ++ [s]) = max (dSs l) (max (dSs s.fThen + 1) (dSs s.fElse + 1)) := by
 induction l with
 | nil =>
  rw [List.nil_append, show dSs [] = 0 by rw [dSs], dSs, show dSs [] = 0 by rw [dSs]]
  omega
 | cons a l ih => rw [List.cons_append, dSs, dSs, ih]; omega
theorem nSs_snoc (l : List GStep) (k : GStep) : nSs (l ++ [k]) = nSs l + nS k := by simp [nSs]
def sizesB (f : Flat) : Bool := decide (f.fVars.length ≤ 64) && decide (f.fHatches.length ≤ 8) && f.fHatches.all (fun h => decide (dT h.fTerm ≤ 12)) && decide (dSs f.fBody ≤ 12) && !tDeep f.fBody
def riseB : List Int → Bool
 | a :: b :: l => decide (a < b) && riseB (b :: l)
 | _ => true
def zeroT (t : GTerm) : Bool := decide (t.fOp = 0 ∧ t.fN = 0 ∧ t.fKids.length = 0)
def localB (f : Flat) (s : GStep) : Bool := decide (0 ≤ s.fVar ∧ s.fVar < f.fVars.length) && decide (f.fVars[s.fVar.toNat]!.fKind = 0)
def shapeB (f : Flat) (s : GStep) (last : Bool) : Bool :=
 let free := decide (s.fThen.length = 0 ∧ s.fElse.length = 0)
 let nob := decide (s.fBounds.length = 0)
 if s.fDo = 0 then free && localB f s && decide (s.fN = 0) && nob
 else if s.fDo = 1 then free && decide (s.fVar = 0) && decide (s.fN = 0) && nob
 else if s.fDo = 2 then free && decide (s.fVar = 0) && decide (s.fN = 0) && nob && zeroT s.fTerm
 else if s.fDo = 3 then decide (s.fVar = 0) && decide (s.fN = 0) && nob
 else if s.fDo = 4 then decide (s.fVar = 0) && decide (s.fElse.length = 0) && nob
 else if s.fDo = 5 then free && localB f s && decide (0 ≤ s.fN ∧ s.fN < f.fHatches.length) && nob && zeroT s.fTerm
 else if s.fDo = 6 then free && last && decide (s.fVar = 0) && decide (s.fN = 0) && zeroT s.fTerm && (decide (1 ≤ s.fBounds.length ∧ s.fBounds.length ≤ 32) && decide ((0 : Int) ≤ s.fBounds[0]!) && riseB s.fBounds)
 else false
def numB (s : GStep) : Bool := decide (0 ≤ s.fCost ∧ s.fCost ≤ (if s.fDo = 2 then 67108864 else 10000)) && (if s.fDo = 4 then decide (0 ≤ s.fN ∧ s.fN ≤ 4096) else true) && (if s.fDo = 6 then decide (s.fBounds[s.fBounds.length - 1]! ≤ 67108864) else true)
def ownC (f : Flat) (last : Bool) (s : GStep) : Int := if shapeB f s last = false then 1 else if numB s = false then 3 else termC f.fVars false s.fTerm
def stepC (f : Flat) (top : Bool) : List GStep → Int
 | [] => 0
 | s :: l => if ownC f (top && l.isEmpty) s ≠ 0 then ownC f (top && l.isEmpty) s else if stepC f false s.fThen ≠ 0 then stepC f false s.fThen else if stepC f false s.fElse ≠ 0 then stepC f false s.fElse else stepC f top l
termination_by l => SizeOf.sizeOf l
decreasing_by
 all_goals first | exact (sizeOf_then (List.mem_cons_self ..)).1 | exact (sizeOf_then (List.mem_cons_self ..)).2 | exact size_tail _ _
def stC (f : Flat) (top : Bool) (n i : Nat) (s : GStep) : Int := if ownC f (top && decide (i + 1 = n)) s ≠ 0 then ownC f (top && decide (i + 1 = n)) s else if stepC f false s.fThen ≠ 0 then stepC f false s.fThen else stepC f false s.fElse
theorem stepC_first (f : Flat) (top : Bool) (n : Nat) : ∀ (l : List GStep) (i : Nat), i + l.length = n → firstC (stC f top n) l i = stepC f top l
 | [], i, _ => by rw [stepC]; rfl
 | s :: l, i, h => by
  have ih := stepC_first f top n l (i + 1) (by simp at h; omega)
  have he : l.isEmpty = decide (i + 1 = n) := by
   cases l with
   | nil => simp at h; simp [h]
   | cons a l => simp at h; simp; omega
  unfold firstC
  rw [stepC, ih, he]
  unfold stC
  grind
def uSs : List GStep → Int × Int × Int
 | [] => (0, 0, 0)
 | s :: l => match uSs s.fThen, uSs s.fElse, uSs l with
  | a, b, c => if s.fDo = 1 then (1 + c.1, 1 + c.2.1, s.fCost + c.2.2)
   else if s.fDo = 3 then (1 + max a.1 b.1 + c.1, max a.2.1 b.2.1 + c.2.1, s.fCost + max a.2.2 b.2.2 + c.2.2)
   else if s.fDo = 4 then (1 + s.fN * (1 + a.1) + c.1, s.fN * a.2.1 + c.2.1, s.fN * (s.fCost + a.2.2) + c.2.2)
   else (1 + c.1, c.2.1, s.fCost + c.2.2)
termination_by l => SizeOf.sizeOf l
decreasing_by
  · exact (sizeOf_then (List.mem_cons_self ..)).1
  · exact (sizeOf_then (List.mem_cons_self ..)).2
  · exact size_tail _ _
def overB (f : Flat) : Bool := decide (4096 < (uSs f.fBody).1 ∨ 8 < (uSs f.fBody).2.1 ∨ 67108864 < (uSs f.fBody).2.2)
def chk (f : Flat) : Int := if sizesB f = false then 4 else if varsC f.fVars ≠ 0 then varsC f.fVars else if firstC (hatC f) f.fHatches 0 ≠ 0 then firstC (hatC f) f.fHatches 0 else if stepC f true f.fBody ≠ 0 then stepC f true f.fBody else if overB f = true then 4 else 0
abbrev E104 : Type := Int
def d104 : Td 0 E104 := .c [] [2] (.r 0 0 (ec 2 (qi .i64) en) sn (fun z => z.1.1) (fun x => ((x, ()), (()))) fun _ => rfl)
def A104 := (lc (qg 106) ln)
def x104 (M : GTerm → Option E104) : Orc → Orc := eL Tryz.prog 104 false A104 d104 (fun g => M g.1)
theorem x104_pure {M : GTerm → Option E104} {F : Orc} {f : Nat} (h : PureF F f) : PureF (x104 M F) f := orL_pure h (fun _ => by kernel_rfl)
def H104 (M : GTerm → Option E104) : Prop := HL Tryz.prog 104 A104 d104 (fun g => M g.1)
theorem x104_ok {M : GTerm → Option E104} (hM : H104 M) {F : Orc} (h : OrcG Tryz.prog F) : OrcG Tryz.prog (x104 M F) := eL_ok (sc := scU) scU_ok hM ⟨_, Tryz.func104, by kernel_rfl, by kernel_rfl⟩ (fun _ => by kernel_rfl) (fun _ => by kernel_rfl) h
def F104 (M104 : GTerm → Option E104) : Orc := (x104 M104 or0)
theorem F104_ok {M104} (h104 : H104 M104) : OrcG Tryz.prog (F104 M104) := (x104_ok h104 or0_g)
structure L104_0 where
 t3 : Int
 t4 : Int
 b0 : GTerm
def d104_0 : Td 0 L104_0 := .c [] [1, 3, 4] (.r 0 1 (ec 1 (qp 0 0) (ec 3 (qi .i64) (ec 4 (qi .i64) en))) (sb 0 106 (lg 106) sn) (fun z => ⟨z.1.2.1, z.1.2.2.1, z.2.1⟩) (fun x => (((), x.t3, x.t4, ()), (x.b0, ()))) fun _ => rfl)
def n104_0 (M104 : GTerm → Option E104) (p : L104_0) : Option (Option L104_0) :=
 bif decide (p.t4 < (↑p.b0.fKids.length : Int)) then if (0 : Int) ≤ p.t4 ∧ p.t4 < (↑p.b0.fKids.length : Int) then match M104 (GTerm.mk p.b0.fKids[p.t4.toNat]!.fOp p.b0.fKids[p.t4.toNat]!.fN p.b0.fKids[p.t4.toNat]!.fKids) with | none => none | some r1 => some (some (L104_0.mk (i64.wrap (p.t3 + r1)) (i64.wrap (p.t4 + 1)) (GTerm.mk p.b0.fOp p.b0.fN p.b0.fKids))) else none else some (none)
theorem q104_0 (M104 : GTerm → Option E104) (p : L104_0) : execA Tryz.prog (F104 M104) Tryz.f104.ntmps 300 (loopAt Tryz.f104 0) .no (Option L104_0) (d104_0.pat p) (kOn d104_0.rd) = n104_0 M104 p := by kernel_rfl
def a104_0 (M104 : GTerm → Option E104) : L104_0 → Option L104_0 := advG (n104_0 M104)
def an104 (M104 : GTerm → Option E104) : An := (.two .no (.two .no (.two (.two .no (d104_0.lp (a104_0 M104) .no)) .no)))
theorem fa104 (M104 : GTerm → Option E104) : FnAn Tryz.prog (F104 M104) 0 300 104 (an104 M104) := fnAn_of (l := [(loopAt Tryz.f104 0, (d104_0.lp (a104_0 M104) .no))]) Tryz.func104 (bodyOf_eq (by kernel_rfl)) (by kernel_rfl) (ob_cons ⟨d104_0.ok _, advG_ok (q104_0 M104)⟩ ob_nil)
def s104 (M104 : GTerm → Option E104) (a0 : GTerm) : Option E104 :=
 match a104_0 M104 (L104_0.mk (1) (0) (GTerm.mk a0.fOp a0.fN a0.fKids)) with | none => none | some r2 => bif decide (r2.t4 < (↑r2.b0.fKids.length : Int)) then if (0 : Int) ≤ r2.t4 ∧ r2.t4 < (↑r2.b0.fKids.length : Int) then match M104 (GTerm.mk r2.b0.fKids[r2.t4.toNat]!.fOp r2.b0.fKids[r2.t4.toNat]!.fN r2.b0.fKids[r2.t4.toNat]!.fKids) with | none => none | some r3 => none else none else some (r2.t3)
theorem c104 (M104 : GTerm → Option E104) (a0 : GTerm) : callR Tryz.prog (F104 M104) 300 (an104 M104) 104 (A104.c (a0, ())) [] 0 d104.rd = s104 M104 a0 := by kernel_rfl
def mm104 : Nat → (GTerm → Option E104)
 | 0 => (fun _ => none)
 | n + 1 => (s104 (mm104 n))
def m104 (n : Nat) : GTerm → Option E104 := (mm104 n)
theorem mm104_ok : ∀ n, H104 (m104 n)
 | 0 => fun _ _ h => (by cases h)
 | n + 1 => by
  have ih := mm104_ok n
  have i104 := ih
  exact (hl_of (F104_ok i104) (fa104 (m104 n)) (fun _ => by kernel_rfl) (fun _ => by kernel_rfl) fun g => c104 (m104 n) g.1)
def r104 : GTerm → Option E104 := fun a0 => lim (fun n => m104 n a0)
theorem r104_ok : H104 r104 := fun g b h => by
 obtain ⟨n, hn⟩ := lim_some (show lim (fun n => m104 n g.1) = some b from h)
 exact (mm104_ok n) g b hn
def e104 (F : Orc) : Orc := x104 r104 F
theorem e104_ok {F : Orc} (h : OrcG Tryz.prog F) : OrcG Tryz.prog (e104 F) := x104_ok r104_ok h
theorem e104_pure {F : Orc} {f : Nat} (h : PureF F f) : PureF (e104 F) f := x104_pure h
abbrev E103 : Type := Int
def d103 : Td 0 E103 := .c [] [2] (.r 0 0 (ec 2 (qi .i64) en) sn (fun z => z.1.1) (fun x => ((x, ()), (()))) fun _ => rfl)
def A103 := (lc (ql 111) ln)
def x103 (M : (List GStep) → Option E103) : Orc → Orc := eL Tryz.prog 103 false A103 d103 (fun g => M g.1)
theorem x103_pure {M : (List GStep) → Option E103} {F : Orc} {f : Nat} (h : PureF F f) : PureF (x103 M F) f := orL_pure h (fun _ => by kernel_rfl)
def H103 (M : (List GStep) → Option E103) : Prop := HL Tryz.prog 103 A103 d103 (fun g => M g.1)
theorem x103_ok {M : (List GStep) → Option E103} (hM : H103 M) {F : Orc} (h : OrcG Tryz.prog F) : OrcG Tryz.prog (x103 M F) := eL_ok (sc := scU) scU_ok hM ⟨_, Tryz.func103, by kernel_rfl, by kernel_rfl⟩ (fun _ => by kernel_rfl) (fun _ => by kernel_rfl) h
def F103 (M103 : (List GStep) → Option E103) : Orc := (e104 (x103 M103 or0))
theorem F103_ok {M103} (h103 : H103 M103) : OrcG Tryz.prog (F103 M103) := (e104_ok (x103_ok h103 or0_g))
structure L103_0 where
 t0 : List GStep
 t3 : Int
 t4 : Int
def d103_0 : Td 0 L103_0 := .c [] [0, 3, 4] (.r 0 0 (ec 0 (ql 111) (ec 3 (qi .i64) (ec 4 (qi .i64) en))) sn (fun z => ⟨z.1.1, z.1.2.1, z.1.2.2.1⟩) (fun x => ((x.t0, x.t3, x.t4, ()), (()))) fun _ => rfl)
def n103_0 (M103 : (List GStep) → Option E103) (p : L103_0) : Option (Option L103_0) :=
 bif decide (p.t4 < (↑p.t0.length : Int)) then if (0 : Int) ≤ p.t4 ∧ p.t4 < (↑p.t0.length : Int) then match r104 (GTerm.mk p.t0[p.t4.toNat]!.fTerm.fOp p.t0[p.t4.toNat]!.fTerm.fN p.t0[p.t4.toNat]!.fTerm.fKids) with | none => none | some r1 => if (0 : Int) ≤ p.t4 ∧ p.t4 < (↑p.t0.length : Int) then match M103 p.t0[p.t4.toNat]!.fThen with | none => none | some r2 => if (0 : Int) ≤ p.t4 ∧ p.t4 < (↑p.t0.length : Int) then match M103 p.t0[p.t4.toNat]!.fElse with | none => none | some r3 => some (some (L103_0.mk p.t0 (i64.wrap (i64.wrap (i64.wrap (i64.wrap (p.t3 + 1) + r1) + r2) + r3)) (i64.wrap (p.t4 + 1)))) else none else none else none else some (none)
theorem q103_0 (M103 : (List GStep) → Option E103) (p : L103_0) : execA Tryz.prog (F103 M103) Tryz.f103.ntmps 300 (loopAt Tryz.f103 0) .no (Option L103_0) (d103_0.pat p) (kOn d103_0.rd) = n103_0 M103 p := by kernel_rfl
def a103_0 (M103 : (List GStep) → Option E103) : L103_0 → Option L103_0 := advG (n103_0 M103)
def an103 (M103 : (List GStep) → Option E103) : An := (.two .no (.two .no (.two (.two .no (d103_0.lp (a103_0 M103) .no)) .no)))
theorem fa103 (M103 : (List GStep) → Option E103) : FnAn Tryz.prog (F103 M103) 0 300 103 (an103 M103) := fnAn_of (l := [(loopAt Tryz.f103 0, (d103_0.lp (a103_0 M103) .no))]) Tryz.func103 (bodyOf_eq (by kernel_rfl)) (by kernel_rfl) (ob_cons ⟨d103_0.ok _, advG_ok (q103_0 M103)⟩ ob_nil)
def s103 (M103 : (List GStep) → Option E103) (a0 : List GStep) : Option E103 :=
 match a103_0 M103 (L103_0.mk a0 (0) (0)) with | none => none | some r4 => bif decide (r4.t4 < (↑r4.t0.length : Int)) then if (0 : Int) ≤ r4.t4 ∧ r4.t4 < (↑r4.t0.length : Int) then match r104 (GTerm.mk r4.t0[r4.t4.toNat]!.fTerm.fOp r4.t0[r4.t4.toNat]!.fTerm.fN r4.t0[r4.t4.toNat]!.fTerm.fKids) with | none => none | some r5 => if (0 : Int) ≤ r4.t4 ∧ r4.t4 < (↑r4.t0.length : Int) then match M103 r4.t0[r4.t4.toNat]!.fThen with | none => none | some r6 => if (0 : Int) ≤ r4.t4 ∧ r4.t4 < (↑r4.t0.length : Int) then match M103 r4.t0[r4.t4.toNat]!.fElse with | none => none | some r7 => none else none else none else none else some (r4.t3)
theorem c103 (M103 : (List GStep) → Option E103) (a0 : List GStep) : callR Tryz.prog (F103 M103) 300 (an103 M103) 103 (A103.c (a0, ())) [] 0 d103.rd = s103 M103 a0 := by kernel_rfl
def mm103 : Nat → ((List GStep) → Option E103)
 | 0 => (fun _ => none)
 | n + 1 => (s103 (mm103 n))
def m103 (n : Nat) : (List GStep) → Option E103 := (mm103 n)
theorem mm103_ok : ∀ n, H103 (m103 n)
 | 0 => fun _ _ h => (by cases h)
 | n + 1 => by
  have ih := mm103_ok n
  have i103 := ih
  exact (hl_of (F103_ok i103) (fa103 (m103 n)) (fun _ => by kernel_rfl) (fun _ => by kernel_rfl) fun g => c103 (m103 n) g.1)
def r103 : (List GStep) → Option E103 := fun a0 => lim (fun n => m103 n a0)
theorem r103_ok : H103 r103 := fun g b h => by
 obtain ⟨n, hn⟩ := lim_some (show lim (fun n => m103 n g.1) = some b from h)
 exact (mm103_ok n) g b hn
def e103 (F : Orc) : Orc := x103 r103 F
theorem e103_ok {F : Orc} (h : OrcG Tryz.prog F) : OrcG Tryz.prog (e103 F) := x103_ok r103_ok h
theorem e103_pure {F : Orc} {f : Nat} (h : PureF F f) : PureF (e103 F) f := x103_pure h
abbrev E105 : Type := Int
def d105 : Td 0 E105 := .c [] [2] (.r 0 0 (ec 2 (qi .i64) en) sn (fun z => z.1.1) (fun x => ((x, ()), (()))) fun _ => rfl)
def A105 := (lc (qg 106) ln)
def x105 (M : GTerm → Option E105) : Orc → Orc := eL Tryz.prog 105 false A105 d105 (fun g => M g.1)
theorem x105_pure {M : GTerm → Option E105} {F : Orc} {f : Nat} (h : PureF F f) : PureF (x105 M F) f := orL_pure h (fun _ => by kernel_rfl)
def H105 (M : GTerm → Option E105) : Prop := HL Tryz.prog 105 A105 d105 (fun g => M g.1)
theorem x105_ok {M : GTerm → Option E105} (hM : H105 M) {F : Orc} (h : OrcG Tryz.prog F) : OrcG Tryz.prog (x105 M F) := eL_ok (sc := scU) scU_ok hM ⟨_, Tryz.func105, by kernel_rfl, by kernel_rfl⟩ (fun _ => by kernel_rfl) (fun _ => by kernel_rfl) h
def F105 (M105 : GTerm → Option E105) : Orc := (x105 M105 or0)
theorem F105_ok {M105} (h105 : H105 M105) : OrcG Tryz.prog (F105 M105) := (x105_ok h105 or0_g)
structure L105_0 where
 t3 : Int
 t4 : Int
 b0 : GTerm
def d105_0 : Td 0 L105_0 := .c [] [1, 3, 4] (.r 0 1 (ec 1 (qp 0 0) (ec 3 (qi .i64) (ec 4 (qi .i64) en))) (sb 0 106 (lg 106) sn) (fun z => ⟨z.1.2.1, z.1.2.2.1, z.2.1⟩) (fun x => (((), x.t3, x.t4, ()), (x.b0, ()))) fun _ => rfl)
def n105_0 (M105 : GTerm → Option E105) (p : L105_0) : Option (Option L105_0) :=
 bif decide (p.t4 < (↑p.b0.fKids.length : Int)) then if (0 : Int) ≤ p.t4 ∧ p.t4 < (↑p.b0.fKids.length : Int) then match M105 (GTerm.mk p.b0.fKids[p.t4.toNat]!.fOp p.b0.fKids[p.t4.toNat]!.fN p.b0.fKids[p.t4.toNat]!.fKids) with | none => none | some r1 => bif decide (p.t3 < r1) then some (some (L105_0.mk r1 (i64.wrap (p.t4 + 1)) (GTerm.mk p.b0.fOp p.b0.fN p.b0.fKids))) else some (some (L105_0.mk p.t3 (i64.wrap (p.t4 + 1)) (GTerm.mk p.b0.fOp p.b0.fN p.b0.fKids))) else none else some (none)
theorem q105_0 (M105 : GTerm → Option E105) (p : L105_0) : execA Tryz.prog (F105 M105) Tryz.f105.ntmps 300 (loopAt Tryz.f105 0) .no (Option L105_0) (d105_0.pat p) (kOn d105_0.rd) = n105_0 M105 p := by kernel_rfl
def a105_0 (M105 : GTerm → Option E105) : L105_0 → Option L105_0 := advG (n105_0 M105)
def an105 (M105 : GTerm → Option E105) : An := (.two .no (.two .no (.two (.two .no (d105_0.lp (a105_0 M105) .no)) .no)))
theorem fa105 (M105 : GTerm → Option E105) : FnAn Tryz.prog (F105 M105) 0 300 105 (an105 M105) := fnAn_of (l := [(loopAt Tryz.f105 0, (d105_0.lp (a105_0 M105) .no))]) Tryz.func105 (bodyOf_eq (by kernel_rfl)) (by kernel_rfl) (ob_cons ⟨d105_0.ok _, advG_ok (q105_0 M105)⟩ ob_nil)
def s105 (M105 : GTerm → Option E105) (a0 : GTerm) : Option E105 :=
 match a105_0 M105 (L105_0.mk (0) (0) (GTerm.mk a0.fOp a0.fN a0.fKids)) with | none => none | some r2 => bif decide (r2.t4 < (↑r2.b0.fKids.length : Int)) then if (0 : Int) ≤ r2.t4 ∧ r2.t4 < (↑r2.b0.fKids.length : Int) then match M105 (GTerm.mk r2.b0.fKids[r2.t4.toNat]!.fOp r2.b0.fKids[r2.t4.toNat]!.fN r2.b0.fKids[r2.t4.toNat]!.fKids) with | none => none | some r3 => bif decide (r2.t3 < r3) then none else none else none else some (i64.wrap (r2.t3 + 1))
theorem c105 (M105 : GTerm → Option E105) (a0 : GTerm) : callR Tryz.prog (F105 M105) 300 (an105 M105) 105 (A105.c (a0, ())) [] 0 d105.rd = s105 M105 a0 := by kernel_rfl
def mm105 : Nat → (GTerm → Option E105)
 | 0 => (fun _ => none)
 | n + 1 => (s105 (mm105 n))
def m105 (n : Nat) : GTerm → Option E105 := (mm105 n)
theorem mm105_ok : ∀ n, H105 (m105 n)
 | 0 => fun _ _ h => (by cases h)
 | n + 1 => by
  have ih := mm105_ok n
  have i105 := ih
  exact (hl_of (F105_ok i105) (fa105 (m105 n)) (fun _ => by kernel_rfl) (fun _ => by kernel_rfl) fun g => c105 (m105 n) g.1)
def r105 : GTerm → Option E105 := fun a0 => lim (fun n => m105 n a0)
theorem r105_ok : H105 r105 := fun g b h => by
 obtain ⟨n, hn⟩ := lim_some (show lim (fun n => m105 n g.1) = some b from h)
 exact (mm105_ok n) g b hn
def e105 (F : Orc) : Orc := x105 r105 F
theorem e105_ok {F : Orc} (h : OrcG Tryz.prog F) : OrcG Tryz.prog (e105 F) := x105_ok r105_ok h
theorem e105_pure {F : Orc} {f : Nat} (h : PureF F f) : PureF (e105 F) f := x105_pure h
abbrev E106 : Type := Int
def d106 : Td 0 E106 := .c [] [2] (.r 0 0 (ec 2 (qi .i64) en) sn (fun z => z.1.1) (fun x => ((x, ()), (()))) fun _ => rfl)
def A106 := (lc (ql 111) ln)
def x106 (M : (List GStep) → Option E106) : Orc → Orc := eL Tryz.prog 106 false A106 d106 (fun g => M g.1)
theorem x106_pure {M : (List GStep) → Option E106} {F : Orc} {f : Nat} (h : PureF F f) : PureF (x106 M F) f := orL_pure h (fun _ => by kernel_rfl)
def H106 (M : (List GStep) → Option E106) : Prop := HL Tryz.prog 106 A106 d106 (fun g => M g.1)
theorem x106_ok {M : (List GStep) → Option E106} (hM : H106 M) {F : Orc} (h : OrcG Tryz.prog F) : OrcG Tryz.prog (x106 M F) := eL_ok (sc := scU) scU_ok hM ⟨_, Tryz.func106, by kernel_rfl, by kernel_rfl⟩ (fun _ => by kernel_rfl) (fun _ => by kernel_rfl) h
def F106 (M106 : (List GStep) → Option E106) : Orc := (x106 M106 or0)
theorem F106_ok {M106} (h106 : H106 M106) : OrcG Tryz.prog (F106 M106) := (x106_ok h106 or0_g)
structure L106_0 where
 t0 : List GStep
 t3 : Int
 t4 : Int
def d106_0 : Td 0 L106_0 := .c [] [0, 3, 4] (.r 0 0 (ec 0 (ql 111) (ec 3 (qi .i64) (ec 4 (qi .i64) en))) sn (fun z => ⟨z.1.1, z.1.2.1, z.1.2.2.1⟩) (fun x => ((x.t0, x.t3, x.t4, ()), (()))) fun _ => rfl)
def n106_0 (M106 : (List GStep) → Option E106) (p : L106_0) : Option (Option L106_0) :=
 bif decide (p.t4 < (↑p.t0.length : Int)) then if (0 : Int) ≤ p.t4 ∧ p.t4 < (↑p.t0.length : Int) then match M106 p.t0[p.t4.toNat]!.fThen with | none => none | some r1 => if (0 : Int) ≤ p.t4 ∧ p.t4 < (↑p.t0.length : Int) then match M106 p.t0[p.t4.toNat]!.fElse with | none => none | some r2 => bif decide (p.t3 < i64.wrap (r1 + 1)) then bif decide (i64.wrap (r1 + 1) < i64.wrap (r2 + 1)) then some (some (L106_0.mk p.t0 (i64.wrap (r2 + 1)) (i64.wrap (p.t4 + 1)))) else some (some (L106_0.mk p.t0 (i64.wrap (r1 + 1)) (i64.wrap (p.t4 + 1)))) else bif decide (p.t3 < i64.wrap (r2 + 1)) then some (some (L106_0.mk p.t0 (i64.wrap (r2 + 1)) (i64.wrap (p.t4 + 1)))) else some (some (L106_0.mk p.t0 p.t3 (i64.wrap (p.t4 + 1)))) else none else none else some (none)
theorem q106_0 (M106 : (List GStep) → Option E106) (p : L106_0) : execA Tryz.prog (F106 M106) Tryz.f106.ntmps 300 (loopAt Tryz.f106 0) .no (Option L106_0) (d106_0.pat p) (kOn d106_0.rd) = n106_0 M106 p := by kernel_rfl
def a106_0 (M106 : (List GStep) → Option E106) : L106_0 → Option L106_0 := advG (n106_0 M106)
def an106 (M106 : (List GStep) → Option E106) : An := (.two .no (.two .no (.two (.two .no (d106_0.lp (a106_0 M106) .no)) .no)))
theorem fa106 (M106 : (List GStep) → Option E106) : FnAn Tryz.prog (F106 M106) 0 300 106 (an106 M106) := fnAn_of (l := [(loopAt Tryz.f106 0, (d106_0.lp (a106_0 M106) .no))]) Tryz.func106 (bodyOf_eq (by kernel_rfl)) (by kernel_rfl) (ob_cons ⟨d106_0.ok _, advG_ok (q106_0 M106)⟩ ob_nil)
def s106 (M106 : (List GStep) → Option E106) (a0 : List GStep) : Option E106 :=
 match a106_0 M106 (L106_0.mk a0 (0) (0)) with | none => none | some r3 => bif decide (r3.t4 < (↑r3.t0.length : Int)) then if (0 : Int) ≤ r3.t4 ∧ r3.t4 < (↑r3.t0.length : Int) then match M106 r3.t0[r3.t4.toNat]!.fThen with | none => none | some r4 => if (0 : Int) ≤ r3.t4 ∧ r3.t4 < (↑r3.t0.length : Int) then match M106 r3.t0[r3.t4.toNat]!.fElse with | none => none | some r5 => bif decide (r3.t3 < i64.wrap (r4 + 1)) then bif decide (i64.wrap (r4 + 1) < i64.wrap (r5 + 1)) then none else none else bif decide (r3.t3 < i64.wrap (r5 + 1)) then none else none else none else none else some (r3.t3)
theorem c106 (M106 : (List GStep) → Option E106) (a0 : List GStep) : callR Tryz.prog (F106 M106) 300 (an106 M106) 106 (A106.c (a0, ())) [] 0 d106.rd = s106 M106 a0 := by kernel_rfl
def mm106 : Nat → ((List GStep) → Option E106)
 | 0 => (fun _ => none)
 | n + 1 => (s106 (mm106 n))
def m106 (n : Nat) : (List GStep) → Option E106 := (mm106 n)
theorem mm106_ok : ∀ n, H106 (m106 n)
 | 0 => fun _ _ h => (by cases h)
 | n + 1 => by
  have ih := mm106_ok n
  have i106 := ih
  exact (hl_of (F106_ok i106) (fa106 (m106 n)) (fun _ => by kernel_rfl) (fun _ => by kernel_rfl) fun g => c106 (m106 n) g.1)
def r106 : (List GStep) → Option E106 := fun a0 => lim (fun n => m106 n a0)
theorem r106_ok : H106 r106 := fun g b h => by
 obtain ⟨n, hn⟩ := lim_some (show lim (fun n => m106 n g.1) = some b from h)
 exact (mm106_ok n) g b hn
def e106 (F : Orc) : Orc := x106 r106 F
theorem e106_ok {F : Orc} (h : OrcG Tryz.prog F) : OrcG Tryz.prog (e106 F) := x106_ok r106_ok h
theorem e106_pure {F : Orc} {f : Nat} (h : PureF F f) : PureF (e106 F) f := x106_pure h
abbrev E107 : Type := Bool
def d107 : Td 0 E107 := .c [] [2] (.r 0 0 (ec 2 qb en) sn (fun z => z.1.1) (fun x => ((x, ()), (()))) fun _ => rfl)
def A107 := (lc (ql 111) ln)
def x107 (M : (List GStep) → Option E107) : Orc → Orc := eL Tryz.prog 107 false A107 d107 (fun g => M g.1)
theorem x107_pure {M : (List GStep) → Option E107} {F : Orc} {f : Nat} (h : PureF F f) : PureF (x107 M F) f := orL_pure h (fun _ => by kernel_rfl)
def H107 (M : (List GStep) → Option E107) : Prop := HL Tryz.prog 107 A107 d107 (fun g => M g.1)
theorem x107_ok {M : (List GStep) → Option E107} (hM : H107 M) {F : Orc} (h : OrcG Tryz.prog F) : OrcG Tryz.prog (x107 M F) := eL_ok (sc := scU) scU_ok hM ⟨_, Tryz.func107, by kernel_rfl, by kernel_rfl⟩ (fun _ => by kernel_rfl) (fun _ => by kernel_rfl) h
def F107 (M107 : (List GStep) → Option E107) : Orc := (x107 M107 (e105 or0))
theorem F107_ok {M107} (h107 : H107 M107) : OrcG Tryz.prog (F107 M107) := (x107_ok h107 (e105_ok or0_g))
structure L107_0 where
 t0 : List GStep
 t3 : Int
def d107_0 : Td 0 L107_0 := .c [] [0, 3] (.r 0 0 (ec 0 (ql 111) (ec 3 (qi .i64) en)) sn (fun z => ⟨z.1.1, z.1.2.1⟩) (fun x => ((x.t0, x.t3, ()), (()))) fun _ => rfl)
def n107_0 (M107 : (List GStep) → Option E107) (p : L107_0) : Option (Option L107_0) :=
 bif decide (p.t3 < (↑p.t0.length : Int)) then match if (0 : Int) ≤ p.t3 ∧ p.t3 < (↑p.t0.length : Int) then match r105 (GTerm.mk p.t0[p.t3.toNat]!.fTerm.fOp p.t0[p.t3.toNat]!.fTerm.fN p.t0[p.t3.toNat]!.fTerm.fKids) with | none => none | some r1 => bif decide (12 < r1) then some (true) else if (0 : Int) ≤ p.t3 ∧ p.t3 < (↑p.t0.length : Int) then match M107 p.t0[p.t3.toNat]!.fThen with | none => none | some r2 => bif r2 then some (true) else if (0 : Int) ≤ p.t3 ∧ p.t3 < (↑p.t0.length : Int) then match M107 p.t0[p.t3.toNat]!.fElse with | none => none | some r3 => some (r3) else none else none else none with | none => none | some r4 => bif r4 then some (none) else some (some (L107_0.mk p.t0 (i64.wrap (p.t3 + 1)))) else some (none)
def g107_0 (M107 : (List GStep) → Option E107) : An := (.two .no (.two (.two (.rb [105, 107] 32) .no) .no))
theorem q107_0 (M107 : (List GStep) → Option E107) (p : L107_0) : execA Tryz.prog (F107 M107) Tryz.f107.ntmps 300 (loopAt Tryz.f107 0) (g107_0 M107) (Option L107_0) (d107_0.pat p) (kOn d107_0.rd) = n107_0 M107 p := by kernel_rfl
def a107_0 (M107 : (List GStep) → Option E107) : L107_0 → Option L107_0 := advG (n107_0 M107)
def an107 (M107 : (List GStep) → Option E107) : An := (.two .no (.two (.two .no (d107_0.lp (a107_0 M107) (g107_0 M107))) .no))
theorem pu107 {M107} : ∀ f ∈ ([105, 107] : List Nat), PureF (F107 M107) f := (ob_cons (x107_pure (e105_pure or0_pure)) (ob_cons (x107_pure (e105_pure or0_pure)) ob_nil))
theorem fa107 (M107 : (List GStep) → Option E107) : FnAn Tryz.prog (F107 M107) 0 300 107 (an107 M107) := fnAn_of (l := [(loopAt Tryz.f107 0, (d107_0.lp (a107_0 M107) (g107_0 M107))), (.skip, (.rb [105, 107] 32))]) Tryz.func107 (bodyOf_eq (by kernel_rfl)) (by kernel_rfl) (ob_cons ⟨d107_0.ok _, advG_ok (q107_0 M107)⟩ (ob_cons pu107 ob_nil))
def s107 (M107 : (List GStep) → Option E107) (a0 : List GStep) : Option E107 :=
 match a107_0 M107 (L107_0.mk a0 (0)) with | none => none | some r5 => bif decide (r5.t3 < (↑r5.t0.length : Int)) then match if (0 : Int) ≤ r5.t3 ∧ r5.t3 < (↑r5.t0.length : Int) then match r105 (GTerm.mk r5.t0[r5.t3.toNat]!.fTerm.fOp r5.t0[r5.t3.toNat]!.fTerm.fN r5.t0[r5.t3.toNat]!.fTerm.fKids) with | none => none | some r6 => bif decide (12 < r6) then some (true) else if (0 : Int) ≤ r5.t3 ∧ r5.t3 < (↑r5.t0.length : Int) then match M107 r5.t0[r5.t3.toNat]!.fThen with | none => none | some r7 => bif r7 then some (true) else if (0 : Int) ≤ r5.t3 ∧ r5.t3 < (↑r5.t0.length : Int) then match M107 r5.t0[r5.t3.toNat]!.fElse with | none => none | some r8 => some (r8) else none else none else none with | none => none | some r9 => bif r9 then some (true) else none else some (false)
theorem c107 (M107 : (List GStep) → Option E107) (a0 : List GStep) : callR Tryz.prog (F107 M107) 300 (an107 M107) 107 (A107.c (a0, ())) [] 0 d107.rd = s107 M107 a0 := by kernel_rfl
def mm107 : Nat → ((List GStep) → Option E107)
 | 0 => (fun _ => none)
 | n + 1 => (s107 (mm107 n))
def m107 (n : Nat) : (List GStep) → Option E107 := (mm107 n)
theorem mm107_ok : ∀ n, H107 (m107 n)
 | 0 => fun _ _ h => (by cases h)
 | n + 1 => by
  have ih := mm107_ok n
  have i107 := ih
  exact (hl_of (F107_ok i107) (fa107 (m107 n)) (fun _ => by kernel_rfl) (fun _ => by kernel_rfl) fun g => c107 (m107 n) g.1)
def r107 : (List GStep) → Option E107 := fun a0 => lim (fun n => m107 n a0)
theorem r107_ok : H107 r107 := fun g b h => by
 obtain ⟨n, hn⟩ := lim_some (show lim (fun n => m107 n g.1) = some b from h)
 exact (mm107_ok n) g b hn
def e107 (F : Orc) : Orc := x107 r107 F
theorem e107_ok {F : Orc} (h : OrcG Tryz.prog F) : OrcG Tryz.prog (e107 F) := x107_ok r107_ok h
theorem e107_pure {F : Orc} {f : Nat} (h : PureF F f) : PureF (e107 F) f := x107_pure h
def F50 : Orc := (e107 (e106 (e105 (e104 (e103 or0)))))
theorem F50_ok : OrcG Tryz.prog F50 := (e107_ok (e106_ok (e105_ok (e104_ok (e103_ok or0_g)))))
structure L50_0 where
 t3 : Int
 t4 : Int
 b0 : Flat
def d50_0 : Td 0 L50_0 := .c [] [1, 3, 4] (.r 0 1 (ec 1 (qp 0 0) (ec 3 (qi .i64) (ec 4 (qi .i64) en))) (sb 0 26 (lg 26) sn) (fun z => ⟨z.1.2.1, z.1.2.2.1, z.2.1⟩) (fun x => (((), x.t3, x.t4, ()), (x.b0, ()))) fun _ => rfl)
def n50_0 (p : L50_0) : Option (Option L50_0) :=
 bif decide (p.t4 < (↑p.b0.fHatches.length : Int)) then if (0 : Int) ≤ p.t4 ∧ p.t4 < (↑p.b0.fHatches.length : Int) then match r104 (GTerm.mk p.b0.fHatches[p.t4.toNat]!.fTerm.fOp p.b0.fHatches[p.t4.toNat]!.fTerm.fN p.b0.fHatches[p.t4.toNat]!.fTerm.fKids) with | none => none | some r1 => if (0 : Int) ≤ p.t4 ∧ p.t4 < (↑p.b0.fHatches.length : Int) then match r105 (GTerm.mk p.b0.fHatches[p.t4.toNat]!.fTerm.fOp p.b0.fHatches[p.t4.toNat]!.fTerm.fN p.b0.fHatches[p.t4.toNat]!.fTerm.fKids) with | none => none | some r2 => bif decide (12 < r2) then some (none) else some (some (L50_0.mk (i64.wrap (p.t3 + r1)) (i64.wrap (p.t4 + 1)) p.b0)) else none else none else some (none)
theorem q50_0 (p : L50_0) : execA Tryz.prog (F50) Tryz.f50.ntmps 300 (loopAt Tryz.f50 0) .no (Option L50_0) (d50_0.pat p) (kOn d50_0.rd) = n50_0 p := by kernel_rfl
def a50_0 : L50_0 → Option L50_0 := advG (n50_0)
abbrev E50 : Type := Bool
def d50 : Td 0 E50 := .c [] [2] (.r 0 0 (ec 2 qb en) sn (fun z => z.1.1) (fun x => ((x, ()), (()))) fun _ => rfl)
def A50 := (lc (qg 26) ln)
def an50 : An := (.two .no (.two (.two (.rb [106, 107] 14) .no) (.two .no (.two (.two .no (d50_0.lp a50_0 .no)) (.two (.rb [106, 107] 2) .no)))))
theorem pu50  : ∀ f ∈ ([106, 107] : List Nat), PureF (F50) f := (ob_cons (e107_pure (e106_pure (e105_pure (e104_pure (e103_pure or0_pure))))) (ob_cons (e107_pure (e106_pure (e105_pure (e104_pure (e103_pure or0_pure))))) ob_nil))
theorem fa50 : FnAn Tryz.prog (F50) 0 300 50 (an50) := fnAn_of (l := [(.skip, (.rb [106, 107] 14)), (loopAt Tryz.f50 0, (d50_0.lp a50_0 .no)), (.skip, (.rb [106, 107] 2))]) Tryz.func50 (bodyOf_eq (by kernel_rfl)) (by kernel_rfl) (ob_cons pu50 (ob_cons ⟨d50_0.ok _, advG_ok (q50_0)⟩ (ob_cons pu50 ob_nil)))
def m50 (a0 : Flat) : Option E50 :=
 match bif decide (64 < (↑a0.fVars.length : Int)) then some (true) else some (decide (8 < (↑a0.fHatches.length : Int))) with | none => none | some r3 => bif r3 then some (false) else match r103 a0.fBody with | none => none | some r4 => match a50_0 (L50_0.mk r4 (0) a0) with | none => none | some r5 => bif decide (r5.t4 < (↑r5.b0.fHatches.length : Int)) then if (0 : Int) ≤ r5.t4 ∧ r5.t4 < (↑r5.b0.fHatches.length : Int) then match r104 (GTerm.mk r5.b0.fHatches[r5.t4.toNat]!.fTerm.fOp r5.b0.fHatches[r5.t4.toNat]!.fTerm.fN r5.b0.fHatches[r5.t4.toNat]!.fTerm.fKids) with | none => none | some r6 => if (0 : Int) ≤ r5.t4 ∧ r5.t4 < (↑r5.b0.fHatches.length : Int) then match r105 (GTerm.mk r5.b0.fHatches[r5.t4.toNat]!.fTerm.fOp r5.b0.fHatches[r5.t4.toNat]!.fTerm.fN r5.b0.fHatches[r5.t4.toNat]!.fTerm.fKids) with | none => none | some r7 => bif decide (12 < r7) then some (false) else none else none else none else match bif decide (r5.t3 ≤ 1024) then match r106 r5.b0.fBody with | none => none | some r8 => bif decide (r8 ≤ 12) then match r107 r5.b0.fBody with | none => none | some r9 => some (bif r9 then false else true) else some (false) else some (false) with | none => none | some r10 => some (r10)
theorem c50 (a0 : Flat) : callR Tryz.prog (F50) 300 (an50) 50 (A50.c (a0, ())) [] 0 d50.rd = m50 a0 := by kernel_rfl
def e50 : Orc → Orc := eL Tryz.prog 50 false A50 d50 (fun g => m50 g.1)
theorem e50_ok {F : Orc} (h : OrcG Tryz.prog F) : OrcG Tryz.prog (e50 F) := eL_ok (sc := scU) scU_ok (hl_of F50_ok fa50 (fun _ => by kernel_rfl) (fun _ => by kernel_rfl) fun g => c50 g.1) ⟨_, Tryz.func50, by kernel_rfl, by kernel_rfl⟩ (fun _ => by kernel_rfl) (fun _ => by kernel_rfl) h
def F52 : Orc := or0
theorem F52_ok : OrcG Tryz.prog F52 := or0_g
structure L52_0 where
 t0 : ByteArray
 t3 : Int
def d52_0 : Td 0 L52_0 := .c [] [0, 3] (.r 0 0 (ec 0 qs (ec 3 (qi .i64) en)) sn (fun z => ⟨z.1.1, z.1.2.1⟩) (fun x => ((x.t0, x.t3, ()), (()))) fun _ => rfl)
def n52_0 (p : L52_0) : Option (Option L52_0) :=
 bif decide (p.t3 < (↑p.t0.size : Int)) then if (0 : Int) ≤ p.t3 ∧ p.t3 < (↑p.t0.size : Int) then match bif decide (97 ≤ byteAt p.t0 p.t3.toNat) then some (decide (byteAt p.t0 p.t3.toNat ≤ 122)) else some (false) with | none => none | some r1 => match bif decide (48 ≤ byteAt p.t0 p.t3.toNat) then bif decide (byteAt p.t0 p.t3.toNat ≤ 57) then some (true) else bif decide (byteAt p.t0 p.t3.toNat = 46) then some (true) else some (decide (byteAt p.t0 p.t3.toNat = 95)) else bif decide (byteAt p.t0 p.t3.toNat = 46) then some (true) else some (decide (byteAt p.t0 p.t3.toNat = 95)) with | none => none | some r2 => match bif bif r1 then false else true then bif decide (p.t3 = 0) then some (true) else some (bif r2 then false else true) else some (false) with | none => none | some r3 => bif r3 then some (none) else some (some (L52_0.mk p.t0 (i64.wrap (p.t3 + 1)))) else none else some (none)
def g52_0 : An := (.two .no (.two (.two .no (.two (.rb [] 5) (.two (.rb [] 6) (.two (.rb [] 53) .no)))) .no))
theorem q52_0 (p : L52_0) : execA Tryz.prog (F52) Tryz.f52.ntmps 300 (loopAt Tryz.f52 0) g52_0 (Option L52_0) (d52_0.pat p) (kOn d52_0.rd) = n52_0 p := by kernel_rfl
def a52_0 : L52_0 → Option L52_0 := advG (n52_0)
abbrev E52 : Type := Bool
def d52 : Td 0 E52 := .c [] [2] (.r 0 0 (ec 2 qb en) sn (fun z => z.1.1) (fun x => ((x, ()), (()))) fun _ => rfl)
def A52 := (lc qs ln)
def an52 : An := (.two .no (.two (.two (.rb [] 14) .no) (.two (.two .no (d52_0.lp a52_0 g52_0)) .no)))
theorem pu52  : ∀ f ∈ ([] : List Nat), PureF (F52) f := ob_nil
theorem fa52 : FnAn Tryz.prog (F52) 0 300 52 (an52) := fnAn_of (l := [(.skip, (.rb [] 14)), (loopAt Tryz.f52 0, (d52_0.lp a52_0 g52_0)), (.skip, (.rb [] 5)), (.skip, (.rb [] 6)), (.skip, (.rb [] 53))]) Tryz.func52 (bodyOf_eq (by kernel_rfl)) (by kernel_rfl) (ob_cons pu52 (ob_cons ⟨d52_0.ok _, advG_ok (q52_0)⟩ (ob_cons pu52 (ob_cons pu52 (ob_cons pu52 ob_nil)))))
def m52 (a0 : ByteArray) : Option E52 :=
 match bif decide ((↑a0.size : Int) < 1) then some (true) else some (decide (40 < (↑a0.size : Int))) with | none => none | some r4 => bif r4 then some (false) else match a52_0 (L52_0.mk a0 (0)) with | none => none | some r5 => bif decide (r5.t3 < (↑r5.t0.size : Int)) then if (0 : Int) ≤ r5.t3 ∧ r5.t3 < (↑r5.t0.size : Int) then match bif decide (97 ≤ byteAt r5.t0 r5.t3.toNat) then some (decide (byteAt r5.t0 r5.t3.toNat ≤ 122)) else some (false) with | none => none | some r6 => match bif decide (48 ≤ byteAt r5.t0 r5.t3.toNat) then bif decide (byteAt r5.t0 r5.t3.toNat ≤ 57) then some (true) else bif decide (byteAt r5.t0 r5.t3.toNat = 46) then some (true) else some (decide (byteAt r5.t0 r5.t3.toNat = 95)) else bif decide (byteAt r5.t0 r5.t3.toNat = 46) then some (true) else some (decide (byteAt r5.t0 r5.t3.toNat = 95)) with | none => none | some r7 => match bif bif r6 then false else true then bif decide (r5.t3 = 0) then some (true) else some (bif r7 then false else true) else some (false) with | none => none | some r8 => bif r8 then some (false) else none else none else some (true)
theorem c52 (a0 : ByteArray) : callR Tryz.prog (F52) 300 (an52) 52 (A52.c (a0, ())) [] 0 d52.rd = m52 a0 := by kernel_rfl
def e52 : Orc → Orc := eL Tryz.prog 52 false A52 d52 (fun g => m52 g.1)
theorem e52_ok {F : Orc} (h : OrcG Tryz.prog F) : OrcG Tryz.prog (e52 F) := eL_ok (sc := scU) scU_ok (hl_of F52_ok fa52 (fun _ => by kernel_rfl) (fun _ => by kernel_rfl) fun g => c52 g.1) ⟨_, Tryz.func52, by kernel_rfl, by kernel_rfl⟩ (fun _ => by kernel_rfl) (fun _ => by kernel_rfl) h
theorem e52_pure {F : Orc} {f : Nat} (h : PureF F f) : PureF (e52 F) f := orL_pure h (fun _ => by kernel_rfl)
def F53 : Orc := or0
theorem F53_ok : OrcG Tryz.prog F53 := or0_g
abbrev E53 : Type := Bool
def d53 : Td 0 E53 := .c [] [4] (.r 0 0 (ec 4 qb en) sn (fun z => z.1.1) (fun x => ((x, ()), (()))) fun _ => rfl)
def A53 := (lc (qi .i64) (lc (qi .i64) ln))
def an53 : An := (.two .no (.two (.rb [] 4) .no))
theorem pu53  : ∀ f ∈ ([] : List Nat), PureF (F53) f := ob_nil
theorem fa53 : FnAn Tryz.prog (F53) 0 300 53 (an53) := fnAn_of (l := [(.skip, (.rb [] 4))]) Tryz.func53 (bodyOf_eq (by kernel_rfl)) (by kernel_rfl) (ob_cons pu53 ob_nil)
def m53 (a0 : Int) (a1 : Int) : E53 :=
 let r1 : Bool := bif decide (a0 ≤ a1) then bif decide (-1048576 ≤ a0) then decide (a1 ≤ 1048576) else false else false; r1
theorem c53 (a0 : Int) (a1 : Int) : callR Tryz.prog (F53) 300 (an53) 53 (A53.c (a0, a1, ())) [] 0 d53.rd = some (m53 a0 a1) := by
 refine Eq.trans (b := (
  match bif decide (a0 ≤ a1) then bif decide (-1048576 ≤ a0) then some (decide (a1 ≤ 1048576)) else some (false) else some (false) with | none => none | some r1 => some (r1) : Option E53)) (by kernel_rfl) ?_
 simp only [m53, cond_some, ite_some]
def e53 : Orc → Orc := eL Tryz.prog 53 false A53 d53 (fun g => some (m53 g.1 g.2.1))
theorem e53_ok {F : Orc} (h : OrcG Tryz.prog F) : OrcG Tryz.prog (e53 F) := eL_ok (sc := scU) scU_ok (hl_of F53_ok fa53 (fun _ => by kernel_rfl) (fun _ => by kernel_rfl) fun g => c53 g.1 g.2.1) ⟨_, Tryz.func53, by kernel_rfl, by kernel_rfl⟩ (fun _ => by kernel_rfl) (fun _ => by kernel_rfl) h
theorem e53_pure {F : Orc} {f : Nat} (h : PureF F f) : PureF (e53 F) f := orL_pure h (fun _ => by kernel_rfl)
def F108 : Orc := or0
theorem F108_ok : OrcG Tryz.prog F108 := or0_g
structure L108_0 where
 t0 : List GVar
 t1 : Int
 t5 : Int
 t6 : Int
def d108_0 : Td 0 L108_0 := .c [] [0, 1, 5, 6] (.r 0 0 (ec 0 (ql 108) (ec 1 (qi .i64) (ec 5 (qi .i64) (ec 6 (qi .i64) en)))) sn (fun z => ⟨z.1.1, z.1.2.1, z.1.2.2.1, z.1.2.2.2.1⟩) (fun x => ((x.t0, x.t1, x.t5, x.t6, ()), (()))) fun _ => rfl)
def n108_0 (p : L108_0) : Option (Option L108_0) :=
 bif decide (p.t6 < (↑p.t0.length : Int)) then if (0 : Int) ≤ p.t6 ∧ p.t6 < (↑p.t0.length : Int) then bif bif decide (p.t0[p.t6.toNat]!.fKind = p.t1) then false else true then some (some (L108_0.mk p.t0 p.t1 p.t5 (i64.wrap (p.t6 + 1)))) else if (0 : Int) ≤ p.t6 ∧ p.t6 < (↑p.t0.length : Int) then if (0 : Int) ≤ p.t6 ∧ p.t6 < (↑p.t0.length : Int) then bif decide (4096 < i64.wrap (p.t5 * i64.wrap (i64.wrap (p.t0[p.t6.toNat]!.fHigh - p.t0[p.t6.toNat]!.fLow) + 1))) then some (none) else some (some (L108_0.mk p.t0 p.t1 (i64.wrap (p.t5 * i64.wrap (i64.wrap (p.t0[p.t6.toNat]!.fHigh - p.t0[p.t6.toNat]!.fLow) + 1))) (i64.wrap (p.t6 + 1)))) else none else none else none else some (none)
theorem q108_0 (p : L108_0) : execA Tryz.prog (F108) Tryz.f108.ntmps 300 (loopAt Tryz.f108 0) .no (Option L108_0) (d108_0.pat p) (kOn d108_0.rd) = n108_0 p := by kernel_rfl
def a108_0 : L108_0 → Option L108_0 := advG (n108_0)
abbrev E108 : Type := Int
def d108 : Td 0 E108 := .c [] [4] (.r 0 0 (ec 4 (qi .i64) en) sn (fun z => z.1.1) (fun x => ((x, ()), (()))) fun _ => rfl)
def A108 := (lc (ql 108) (lc (qi .i64) ln))
def an108 : An := (.two .no (.two .no (.two (.two .no (d108_0.lp a108_0 .no)) .no)))
theorem fa108 : FnAn Tryz.prog (F108) 0 300 108 (an108) := fnAn_of (l := [(loopAt Tryz.f108 0, (d108_0.lp a108_0 .no))]) Tryz.func108 (bodyOf_eq (by kernel_rfl)) (by kernel_rfl) (ob_cons ⟨d108_0.ok _, advG_ok (q108_0)⟩ ob_nil)
def m108 (a0 : List GVar) (a1 : Int) : Option E108 :=
 match a108_0 (L108_0.mk a0 a1 (1) (0)) with | none => none | some r1 => bif decide (r1.t6 < (↑r1.t0.length : Int)) then if (0 : Int) ≤ r1.t6 ∧ r1.t6 < (↑r1.t0.length : Int) then bif bif decide (r1.t0[r1.t6.toNat]!.fKind = r1.t1) then false else true then none else if (0 : Int) ≤ r1.t6 ∧ r1.t6 < (↑r1.t0.length : Int) then if (0 : Int) ≤ r1.t6 ∧ r1.t6 < (↑r1.t0.length : Int) then bif decide (4096 < i64.wrap (r1.t5 * i64.wrap (i64.wrap (r1.t0[r1.t6.toNat]!.fHigh - r1.t0[r1.t6.toNat]!.fLow) + 1))) then some (4097) else none else none else none else none else some (r1.t5)
theorem c108 (a0 : List GVar) (a1 : Int) : callR Tryz.prog (F108) 300 (an108) 108 (A108.c (a0, a1, ())) [] 0 d108.rd = m108 a0 a1 := by kernel_rfl
def e108 : Orc → Orc := eL Tryz.prog 108 false A108 d108 (fun g => m108 g.1 g.2.1)
theorem e108_ok {F : Orc} (h : OrcG Tryz.prog F) : OrcG Tryz.prog (e108 F) := eL_ok (sc := scU) scU_ok (hl_of F108_ok fa108 (fun _ => by kernel_rfl) (fun _ => by kernel_rfl) fun g => c108 g.1 g.2.1) ⟨_, Tryz.func108, by kernel_rfl, by kernel_rfl⟩ (fun _ => by kernel_rfl) (fun _ => by kernel_rfl) h
theorem e108_pure {F : Orc} {f : Nat} (h : PureF F f) : PureF (e108 F) f := orL_pure h (fun _ => by kernel_rfl)
def F51 : Orc := (e108 (e53 (e52 or0)))
theorem F51_ok : OrcG Tryz.prog F51 := (e108_ok (e53_ok (e52_ok or0_g)))
structure L51_1 where
 t0 : List GVar
 t3 : Int
 t5 : Int
 b0 : GVar
def d51_1 : Td 0 L51_1 := .c [] [0, 3, 4, 5] (.r 0 1 (ec 0 (ql 108) (ec 3 (qi .i64) (ec 4 (qp 0 0) (ec 5 (qi .i64) en)))) (sb 0 108 (lg 108) sn) (fun z => ⟨z.1.1, z.1.2.1, z.1.2.2.2.1, z.2.1⟩) (fun x => ((x.t0, x.t3, (), x.t5, ()), (x.b0, ()))) fun _ => rfl)
def n51_1 (p : L51_1) : Option (Option L51_1) :=
 bif decide (p.t5 < p.t3) then if (0 : Int) ≤ p.t5 ∧ p.t5 < (↑p.t0.length : Int) then bif p.t0[p.t5.toNat]!.fName.toList == p.b0.fName.toList then some (none) else some (some (L51_1.mk p.t0 p.t3 (i64.wrap (p.t5 + 1)) p.b0)) else none else some (none)
theorem q51_1 (p : L51_1) : execA Tryz.prog (F51) Tryz.f51.ntmps 300 (loopAt Tryz.f51 1) .no (Option L51_1) (d51_1.pat p) (kOn d51_1.rd) = n51_1 p := by kernel_rfl
def a51_1 : L51_1 → Option L51_1 := advG (n51_1)
structure L51_0 where
 t0 : List GVar
 t3 : Int
def d51_0 : Td 0 L51_0 := .c [] [0, 3] (.r 0 0 (ec 0 (ql 108) (ec 3 (qi .i64) en)) sn (fun z => ⟨z.1.1, z.1.2.1⟩) (fun x => ((x.t0, x.t3, ()), (()))) fun _ => rfl)
def n51_0 (p : L51_0) : Option (Option L51_0) :=
 bif decide (p.t3 < (↑p.t0.length : Int)) then if (0 : Int) ≤ p.t3 ∧ p.t3 < (↑p.t0.length : Int) then match m52 p.t0[p.t3.toNat]!.fName with | none => none | some r1 => bif bif r1 then false else true then some (none) else match a51_1 (L51_1.mk p.t0 p.t3 (0) p.t0[p.t3.toNat]!) with | none => none | some r2 => bif decide (r2.t5 < r2.t3) then if (0 : Int) ≤ r2.t5 ∧ r2.t5 < (↑r2.t0.length : Int) then bif r2.t0[r2.t5.toNat]!.fName.toList == r2.b0.fName.toList then some (none) else none else none else match bif bif decide (r2.b0.fKind = 0) then false else true then bif bif decide (r2.b0.fKind = 1) then false else true then bif bif decide (r2.b0.fKind = 2) then false else true then some (bif decide (r2.b0.fKind = 3) then false else true) else some (false) else some (false) else some (false) with | none => none | some r3 => bif r3 then some (none) else bif bif m53 r2.b0.fLow r2.b0.fHigh then false else true then some (none) else match bif decide (r2.b0.fKind = 0) then bif decide (r2.b0.fInit < r2.b0.fLow) then some (true) else bif decide (r2.b0.fHigh < r2.b0.fInit) then some (true) else bif bif decide (r2.b0.fKind = 0) then false else true then some (bif decide (r2.b0.fInit = 0) then false else true) else some (false) else bif bif decide (r2.b0.fKind = 0) then false else true then some (bif decide (r2.b0.fInit = 0) then false else true) else some (false) with | none => none | some r4 => bif r4 then some (none) else some (some (L51_0.mk r2.t0 (i64.wrap (r2.t3 + 1)))) else none else some (none)
def g51_0 : An := (.two .no (.two (.two .no (.two .no (.two (.two .no (d51_1.lp a51_1 .no)) (.two (.two (.rb [108] 50) .no) (.two .no (.two (.rb [108] 83) .no)))))) .no))
theorem q51_0 (p : L51_0) : execA Tryz.prog (F51) Tryz.f51.ntmps 300 (loopAt Tryz.f51 0) g51_0 (Option L51_0) (d51_0.pat p) (kOn d51_0.rd) = n51_0 p := by kernel_rfl
def a51_0 : L51_0 → Option L51_0 := advG (n51_0)
abbrev E51 : Type := Int
def d51 : Td 0 E51 := .c [] [2] (.r 0 0 (ec 2 (qi .i64) en) sn (fun z => z.1.1) (fun x => ((x, ()), (()))) fun _ => rfl)
def A51 := (lc (ql 108) ln)
def an51 : An := (.two .no (.two (.two .no (d51_0.lp a51_0 g51_0)) (.two (.two (.rb [108] 96) .no) .no)))
theorem pu51  : ∀ f ∈ ([108] : List Nat), PureF (F51) f := (ob_cons (e108_pure (e53_pure (e52_pure or0_pure))) ob_nil)
theorem fa51 : FnAn Tryz.prog (F51) 0 300 51 (an51) := fnAn_of (l := [(loopAt Tryz.f51 0, (d51_0.lp a51_0 g51_0)), (loopAt Tryz.f51 1, (d51_1.lp a51_1 .no)), (.skip, (.rb [108] 50)), (.skip, (.rb [108] 83)), (.skip, (.rb [108] 96))]) Tryz.func51 (bodyOf_eq (by kernel_rfl)) (by kernel_rfl) (ob_cons ⟨d51_0.ok _, advG_ok (q51_0)⟩ (ob_cons ⟨d51_1.ok _, advG_ok (q51_1)⟩ (ob_cons pu51 (ob_cons pu51 (ob_cons pu51 ob_nil)))))
def m51 (a0 : List GVar) : Option E51 :=
 match a51_0 (L51_0.mk a0 (0)) with | none => none | some r5 => bif decide (r5.t3 < (↑r5.t0.length : Int)) then if (0 : Int) ≤ r5.t3 ∧ r5.t3 < (↑r5.t0.length : Int) then match m52 r5.t0[r5.t3.toNat]!.fName with | none => none | some r6 => bif bif r6 then false else true then some (7) else match a51_1 (L51_1.mk r5.t0 r5.t3 (0) r5.t0[r5.t3.toNat]!) with | none => none | some r7 => bif decide (r7.t5 < r7.t3) then if (0 : Int) ≤ r7.t5 ∧ r7.t5 < (↑r7.t0.length : Int) then bif r7.t0[r7.t5.toNat]!.fName.toList == r7.b0.fName.toList then some (8) else none else none else match bif bif decide (r7.b0.fKind = 0) then false else true then bif bif decide (r7.b0.fKind = 1) then false else true then bif bif decide (r7.b0.fKind = 2) then false else true then some (bif decide (r7.b0.fKind = 3) then false else true) else some (false) else some (false) else some (false) with | none => none | some r8 => bif r8 then some (1) else bif bif m53 r7.b0.fLow r7.b0.fHigh then false else true then some (3) else match bif decide (r7.b0.fKind = 0) then bif decide (r7.b0.fInit < r7.b0.fLow) then some (true) else bif decide (r7.b0.fHigh < r7.b0.fInit) then some (true) else bif bif decide (r7.b0.fKind = 0) then false else true then some (bif decide (r7.b0.fInit = 0) then false else true) else some (false) else bif bif decide (r7.b0.fKind = 0) then false else true then some (bif decide (r7.b0.fInit = 0) then false else true) else some (false) with | none => none | some r9 => bif r9 then some (3) else none else none else match match m108 r5.t0 (1) with | none => none | some r10 => bif decide (4096 < r10) then some (true) else match m108 r5.t0 (2) with | none => none | some r11 => bif decide (4096 < r11) then some (true) else match m108 r5.t0 (3) with | none => none | some r12 => some (decide (256 < r12)) with | none => none | some r13 => bif r13 then some (4) else some (0)
theorem c51 (a0 : List GVar) : callR Tryz.prog (F51) 300 (an51) 51 (A51.c (a0, ())) [] 0 d51.rd = m51 a0 := by kernel_rfl
def e51 : Orc → Orc := eL Tryz.prog 51 false A51 d51 (fun g => m51 g.1)
theorem e51_ok {F : Orc} (h : OrcG Tryz.prog F) : OrcG Tryz.prog (e51 F) := eL_ok (sc := scU) scU_ok (hl_of F51_ok fa51 (fun _ => by kernel_rfl) (fun _ => by kernel_rfl) fun g => c51 g.1) ⟨_, Tryz.func51, by kernel_rfl, by kernel_rfl⟩ (fun _ => by kernel_rfl) (fun _ => by kernel_rfl) h
def F174 : Orc := or0
theorem F174_ok : OrcG Tryz.prog F174 := or0_g
abbrev E174 : Type := Int
def d174 : Td 0 E174 := .c [] [2] (.r 0 0 (ec 2 (qi .i64) en) sn (fun z => z.1.1) (fun x => ((x, ()), (()))) fun _ => rfl)
def A174 := (lc (qi .i64) ln)
def an174 : An := .no
theorem fa174 : FnAn Tryz.prog (F174) 0 300 174 (an174) := fnAn_of (l := []) Tryz.func174 (bodyOf_eq (by kernel_rfl)) (by kernel_rfl) ob_nil
def m174 (a0 : Int) : E174 :=
 bif decide (a0 = 0) then 0 else bif decide (a0 = 24) then 0 else bif decide (a0 = 6) then 1 else bif decide (a0 = 7) then 1 else bif decide (a0 = 8) then 2 else bif decide (a0 = 9) then 2 else bif decide (a0 = 10) then 2 else bif decide (a0 = 11) then 2 else bif decide (a0 = 12) then 2 else bif decide (a0 = 13) then 2 else bif decide (a0 = 14) then 2 else bif decide (a0 = 15) then 2 else bif decide (a0 = 16) then 2 else bif decide (a0 = 17) then 2 else bif decide (a0 = 18) then 2 else bif decide (a0 = 19) then 2 else bif decide (a0 = 20) then 2 else bif decide (a0 = 21) then 2 else bif decide (a0 = 22) then 2 else bif decide (a0 = 23) then 3 else bif decide (a0 = 25) then -2 else -1
theorem c174 (a0 : Int) : callR Tryz.prog (F174) 300 (an174) 174 (A174.c (a0, ())) [] 0 d174.rd = some (m174 a0) := by
 refine Eq.trans (b := (
  bif decide (a0 = 0) then some (0) else bif decide (a0 = 24) then some (0) else bif decide (a0 = 6) then some (1) else bif decide (a0 = 7) then some (1) else bif decide (a0 = 8) then some (2) else bif decide (a0 = 9) then some (2) else bif decide (a0 = 10) then some (2) else bif decide (a0 = 11) then some (2) else bif decide (a0 = 12) then some (2) else bif decide (a0 = 13) then some (2) else bif decide (a0 = 14) then some (2) else bif decide (a0 = 15) then some (2) else bif decide (a0 = 16) then some (2) else bif decide (a0 = 17) then some (2) else bif decide (a0 = 18) then some (2) else bif decide (a0 = 19) then some (2) else bif decide (a0 = 20) then some (2) else bif decide (a0 = 21) then some (2) else bif decide (a0 = 22) then some (2) else bif decide (a0 = 23) then some (3) else bif decide (a0 = 25) then some (-2) else some (-1) : Option E174)) (by kernel_rfl) ?_
 simp only [m174, cond_some, ite_some]
def e174 : Orc → Orc := eL Tryz.prog 174 false A174 d174 (fun g => some (m174 g.1))
theorem e174_ok {F : Orc} (h : OrcG Tryz.prog F) : OrcG Tryz.prog (e174 F) := eL_ok (sc := scU) scU_ok (hl_of F174_ok fa174 (fun _ => by kernel_rfl) (fun _ => by kernel_rfl) fun g => c174 g.1) ⟨_, Tryz.func174, by kernel_rfl, by kernel_rfl⟩ (fun _ => by kernel_rfl) (fun _ => by kernel_rfl) h
abbrev E109 : Type := Bool
def d109 : Td 0 E109 := .c [] [6] (.r 0 0 (ec 6 qb en) sn (fun z => z.1.1) (fun x => ((x, ()), (()))) fun _ => rfl)
def A109 := (lc (ql 108) (lc (qg 106) (lc qb ln)))
def x109 (M : (List GVar) → GTerm → Bool → Option E109) : Orc → Orc := eL Tryz.prog 109 false A109 d109 (fun g => M g.1 g.2.1 g.2.2.1)
def H109 (M : (List GVar) → GTerm → Bool → Option E109) : Prop := HL Tryz.prog 109 A109 d109 (fun g => M g.1 g.2.1 g.2.2.1)
theorem x109_ok {M : (List GVar) → GTerm → Bool → Option E109} (hM : H109 M) {F : Orc} (h : OrcG Tryz.prog F) : OrcG Tryz.prog (x109 M F) := eL_ok (sc := scU) scU_ok hM ⟨_, Tryz.func109, by kernel_rfl, by kernel_rfl⟩ (fun _ => by kernel_rfl) (fun _ => by kernel_rfl) h
def F109 (M109 : (List GVar) → GTerm → Bool → Option E109) : Orc := (e174 (x109 M109 or0))
theorem F109_ok {M109} (h109 : H109 M109) : OrcG Tryz.prog (F109 M109) := (e174_ok (x109_ok h109 or0_g))
structure L109_0 where
 t0 : List GVar
 t2 : Bool
 t8 : Int
 b0 : GTerm
def d109_0 : Td 0 L109_0 := .c [] [0, 2, 4, 8] (.r 0 1 (ec 0 (ql 108) (ec 2 qb (ec 4 (qp 0 0) (ec 8 (qi .i64) en)))) (sb 0 106 (lg 106) sn) (fun z => ⟨z.1.1, z.1.2.1, z.1.2.2.2.1, z.2.1⟩) (fun x => ((x.t0, x.t2, (), x.t8, ()), (x.b0, ()))) fun _ => rfl)
def n109_0 (M109 : (List GVar) → GTerm → Bool → Option E109) (p : L109_0) : Option (Option L109_0) :=
 bif decide (p.t8 < (↑p.b0.fKids.length : Int)) then if (0 : Int) ≤ p.t8 ∧ p.t8 < (↑p.b0.fKids.length : Int) then match M109 p.t0 (GTerm.mk p.b0.fKids[p.t8.toNat]!.fOp p.b0.fKids[p.t8.toNat]!.fN p.b0.fKids[p.t8.toNat]!.fKids) p.t2 with | none => none | some r1 => bif bif r1 then false else true then some (none) else some (some (L109_0.mk p.t0 p.t2 (i64.wrap (p.t8 + 1)) (GTerm.mk p.b0.fOp p.b0.fN p.b0.fKids))) else none else some (none)
theorem q109_0 (M109 : (List GVar) → GTerm → Bool → Option E109) (p : L109_0) : execA Tryz.prog (F109 M109) Tryz.f109.ntmps 300 (loopAt Tryz.f109 0) .no (Option L109_0) (d109_0.pat p) (kOn d109_0.rd) = n109_0 M109 p := by kernel_rfl
def a109_0 (M109 : (List GVar) → GTerm → Bool → Option E109) : L109_0 → Option L109_0 := advG (n109_0 M109)
def an109 (M109 : (List GVar) → GTerm → Bool → Option E109) : An := (.two .no (.two .no (.two (.two (.rb [] 40) .no) (.two (.two .no (.two (.two (.rb [] 65) .no) (.two (.rb [] 73) .no))) (.two (.two .no (d109_0.lp (a109_0 M109) .no)) .no)))))
theorem pu109 {M109} : ∀ f ∈ ([] : List Nat), PureF (F109 M109) f := ob_nil
theorem fa109 (M109 : (List GVar) → GTerm → Bool → Option E109) : FnAn Tryz.prog (F109 M109) 0 300 109 (an109 M109) := fnAn_of (l := [(.skip, (.rb [] 40)), (.skip, (.rb [] 65)), (.skip, (.rb [] 73)), (loopAt Tryz.f109 0, (d109_0.lp (a109_0 M109) .no))]) Tryz.func109 (bodyOf_eq (by kernel_rfl)) (by kernel_rfl) (ob_cons pu109 (ob_cons pu109 (ob_cons pu109 (ob_cons ⟨d109_0.ok _, advG_ok (q109_0 M109)⟩ ob_nil))))
def s109 (M109 : (List GVar) → GTerm → Bool → Option E109) (a0 : List GVar) (a1 : GTerm) (a2 : Bool) : Option E109 :=
 match bif decide (m174 a1.fOp = -1) then some (true) else bif decide (0 ≤ m174 a1.fOp) then bif bif decide ((↑a1.fKids.length : Int) = m174 a1.fOp) then false else true then some (true) else bif decide (m174 a1.fOp = -2) then bif decide ((↑a1.fKids.length : Int) < 2) then some (true) else some (decide (33 < (↑a1.fKids.length : Int))) else some (false) else bif decide (m174 a1.fOp = -2) then bif decide ((↑a1.fKids.length : Int) < 2) then some (true) else some (decide (33 < (↑a1.fKids.length : Int))) else some (false) with | none => none | some r2 => bif r2 then some (false) else bif decide (a1.fOp = 24) then match bif decide (a1.fN < 0) then some (true) else bif decide ((↑a0.length : Int) ≤ a1.fN) then some (true) else bif a2 then if (0 : Int) ≤ a1.fN ∧ a1.fN < (↑a0.length : Int) then some (decide (a0[a1.fN.toNat]!.fKind = 0)) else none else some (false) with | none => none | some r3 => bif r3 then some (false) else match a109_0 M109 (L109_0.mk a0 a2 (0) (GTerm.mk a1.fOp a1.fN a1.fKids)) with | none => none | some r4 => bif decide (r4.t8 < (↑r4.b0.fKids.length : Int)) then if (0 : Int) ≤ r4.t8 ∧ r4.t8 < (↑r4.b0.fKids.length : Int) then match M109 r4.t0 (GTerm.mk r4.b0.fKids[r4.t8.toNat]!.fOp r4.b0.fKids[r4.t8.toNat]!.fN r4.b0.fKids[r4.t8.toNat]!.fKids) r4.t2 with | none => none | some r5 => bif bif r5 then false else true then some (false) else none else none else some (true) else match bif bif decide (a1.fOp = 0) then false else true then some (bif decide (a1.fN = 0) then false else true) else some (false) with | none => none | some r6 => bif r6 then some (false) else match a109_0 M109 (L109_0.mk a0 a2 (0) (GTerm.mk a1.fOp a1.fN a1.fKids)) with | none => none | some r7 => bif decide (r7.t8 < (↑r7.b0.fKids.length : Int)) then if (0 : Int) ≤ r7.t8 ∧ r7.t8 < (↑r7.b0.fKids.length : Int) then match M109 r7.t0 (GTerm.mk r7.b0.fKids[r7.t8.toNat]!.fOp r7.b0.fKids[r7.t8.toNat]!.fN r7.b0.fKids[r7.t8.toNat]!.fKids) r7.t2 with | none => none | some r8 => bif bif r8 then false else true then some (false) else none else none else some (true)
theorem c109 (M109 : (List GVar) → GTerm → Bool → Option E109) (a0 : List GVar) (a1 : GTerm) (a2 : Bool) : callR Tryz.prog (F109 M109) 300 (an109 M109) 109 (A109.c (a0, a1, a2, ())) [] 0 d109.rd = s109 M109 a0 a1 a2 := by kernel_rfl
def mm109 : Nat → ((List GVar) → GTerm → Bool → Option E109)
 | 0 => (fun _ _ _ => none)
 | n + 1 => (s109 (mm109 n))
def m109 (n : Nat) : (List GVar) → GTerm → Bool → Option E109 := (mm109 n)
theorem mm109_ok : ∀ n, H109 (m109 n)
 | 0 => fun _ _ h => (by cases h)
 | n + 1 => by
  have ih := mm109_ok n
  have i109 := ih
  exact (hl_of (F109_ok i109) (fa109 (m109 n)) (fun _ => by kernel_rfl) (fun _ => by kernel_rfl) fun g => c109 (m109 n) g.1 g.2.1 g.2.2.1)
def r109 : (List GVar) → GTerm → Bool → Option E109 := fun a0 a1 a2 => lim (fun n => m109 n a0 a1 a2)
theorem r109_ok : H109 r109 := fun g b h => by
 obtain ⟨n, hn⟩ := lim_some (show lim (fun n => m109 n g.1 g.2.1 g.2.2.1) = some b from h)
 exact (mm109_ok n) g b hn
def e109 (F : Orc) : Orc := x109 r109 F
theorem e109_ok {F : Orc} (h : OrcG Tryz.prog F) : OrcG Tryz.prog (e109 F) := x109_ok r109_ok h
def F112 : Orc := or0
theorem F112_ok : OrcG Tryz.prog F112 := or0_g
abbrev E112 : Type := Int
def d112 : Td 0 E112 := .c [] [4] (.r 0 0 (ec 4 (qi .i64) en) sn (fun z => z.1.1) (fun x => ((x, ()), (()))) fun _ => rfl)
def A112 := (lc (qi .i64) (lc (qi .i64) ln))
def an112 : An := .no
theorem fa112 : FnAn Tryz.prog (F112) 0 300 112 (an112) := fnAn_of (l := []) Tryz.func112 (bodyOf_eq (by kernel_rfl)) (by kernel_rfl) ob_nil
def m112 (a0 : Int) (a1 : Int) : E112 :=
 bif decide (a1 < a0) then a0 else a1
theorem c112 (a0 : Int) (a1 : Int) : callR Tryz.prog (F112) 300 (an112) 112 (A112.c (a0, a1, ())) [] 0 d112.rd = some (m112 a0 a1) := by
 refine Eq.trans (b := (
  bif decide (a1 < a0) then some (a0) else some (a1) : Option E112)) (by kernel_rfl) ?_
 simp only [m112, cond_some, ite_some]
def e112 : Orc → Orc := eL Tryz.prog 112 false A112 d112 (fun g => some (m112 g.1 g.2.1))
theorem e112_ok {F : Orc} (h : OrcG Tryz.prog F) : OrcG Tryz.prog (e112 F) := eL_ok (sc := scU) scU_ok (hl_of F112_ok fa112 (fun _ => by kernel_rfl) (fun _ => by kernel_rfl) fun g => c112 g.1 g.2.1) ⟨_, Tryz.func112, by kernel_rfl, by kernel_rfl⟩ (fun _ => by kernel_rfl) (fun _ => by kernel_rfl) h
def F113 : Orc := or0
theorem F113_ok : OrcG Tryz.prog F113 := or0_g
abbrev E113 : Type := Int
def d113 : Td 0 E113 := .c [] [4] (.r 0 0 (ec 4 (qi .i64) en) sn (fun z => z.1.1) (fun x => ((x, ()), (()))) fun _ => rfl)
def A113 := (lc (qi .i64) (lc (qi .i64) ln))
def an113 : An := .no
theorem fa113 : FnAn Tryz.prog (F113) 0 300 113 (an113) := fnAn_of (l := []) Tryz.func113 (bodyOf_eq (by kernel_rfl)) (by kernel_rfl) ob_nil
def m113 (a0 : Int) (a1 : Int) : E113 :=
 bif decide (a0 < a1) then a0 else a1
theorem c113 (a0 : Int) (a1 : Int) : callR Tryz.prog (F113) 300 (an113) 113 (A113.c (a0, a1, ())) [] 0 d113.rd = some (m113 a0 a1) := by
 refine Eq.trans (b := (
  bif decide (a0 < a1) then some (a0) else some (a1) : Option E113)) (by kernel_rfl) ?_
 simp only [m113, cond_some, ite_some]
def e113 : Orc → Orc := eL Tryz.prog 113 false A113 d113 (fun g => some (m113 g.1 g.2.1))
theorem e113_ok {F : Orc} (h : OrcG Tryz.prog F) : OrcG Tryz.prog (e113 F) := eL_ok (sc := scU) scU_ok (hl_of F113_ok fa113 (fun _ => by kernel_rfl) (fun _ => by kernel_rfl) fun g => c113 g.1 g.2.1) ⟨_, Tryz.func113, by kernel_rfl, by kernel_rfl⟩ (fun _ => by kernel_rfl) (fun _ => by kernel_rfl) h
def F235 : Orc := or0
theorem F235_ok : OrcG Tryz.prog F235 := or0_g
abbrev E235 : Type := Int
def d235 : Td 0 E235 := .c [] [2] (.r 0 0 (ec 2 (qi .i64) en) sn (fun z => z.1.1) (fun x => ((x, ()), (()))) fun _ => rfl)
def A235 := (lc (qi .i64) ln)
def an235 : An := .no
theorem fa235 : FnAn Tryz.prog (F235) 0 300 235 (an235) := fnAn_of (l := []) Tryz.func235 (bodyOf_eq (by kernel_rfl)) (by kernel_rfl) ob_nil
def m235 (a0 : Int) : E235 :=
 bif decide (a0 < 0) then i64.wrap (0 - a0) else a0
theorem c235 (a0 : Int) : callR Tryz.prog (F235) 300 (an235) 235 (A235.c (a0, ())) [] 0 d235.rd = some (m235 a0) := by
 refine Eq.trans (b := (
  bif decide (a0 < 0) then some (i64.wrap (0 - a0)) else some (a0) : Option E235)) (by kernel_rfl) ?_
 simp only [m235, cond_some, ite_some]
def e235 : Orc → Orc := eL Tryz.prog 235 false A235 d235 (fun g => some (m235 g.1))
theorem e235_ok {F : Orc} (h : OrcG Tryz.prog F) : OrcG Tryz.prog (e235 F) := eL_ok (sc := scU) scU_ok (hl_of F235_ok fa235 (fun _ => by kernel_rfl) (fun _ => by kernel_rfl) fun g => c235 g.1) ⟨_, Tryz.func235, by kernel_rfl, by kernel_rfl⟩ (fun _ => by kernel_rfl) (fun _ => by kernel_rfl) h
def F236 : Orc := (e113 (e112 or0))
theorem F236_ok : OrcG Tryz.prog F236 := (e113_ok (e112_ok or0_g))
abbrev E236 : Type := Int × Int
def d236 : Td 0 E236 := .c [] [4, 5] (.r 0 0 (ec 4 (qi .i64) (ec 5 (qi .i64) en)) sn (fun z => (z.1.1, z.1.2.1)) (fun x => ((x.1, x.2, ()), (()))) fun _ => rfl)
def A236 := (lc (qi .i64) (lc (qi .i64) ln))
def an236 : An := .no
theorem fa236 : FnAn Tryz.prog (F236) 0 300 236 (an236) := fnAn_of (l := []) Tryz.func236 (bodyOf_eq (by kernel_rfl)) (by kernel_rfl) ob_nil
def m236 (a0 : Int) (a1 : Int) : E236 :=
 bif decide (a0 < 0) then bif decide (0 < a1) then (m113 (0) (i64.wrap (a0 + 1)), m112 (0) (i64.wrap (a1 - 1))) else (m113 (0) (i64.wrap (a0 + 1)), 0) else bif decide (0 < a1) then (0, m112 (0) (i64.wrap (a1 - 1))) else (0, 0)
theorem c236 (a0 : Int) (a1 : Int) : callR Tryz.prog (F236) 300 (an236) 236 (A236.c (a0, a1, ())) [] 0 d236.rd = some (m236 a0 a1) := by
 refine Eq.trans (b := (
  bif decide (a0 < 0) then bif decide (0 < a1) then some ((m113 (0) (i64.wrap (a0 + 1)), m112 (0) (i64.wrap (a1 - 1)))) else some ((m113 (0) (i64.wrap (a0 + 1)), 0)) else bif decide (0 < a1) then some ((0, m112 (0) (i64.wrap (a1 - 1)))) else some ((0, 0)) : Option E236)) (by kernel_rfl) ?_
 simp only [m236, cond_some, ite_some]
def e236 : Orc → Orc := eL Tryz.prog 236 false A236 d236 (fun g => some (m236 g.1 g.2.1))
theorem e236_ok {F : Orc} (h : OrcG Tryz.prog F) : OrcG Tryz.prog (e236 F) := eL_ok (sc := scU) scU_ok (hl_of F236_ok fa236 (fun _ => by kernel_rfl) (fun _ => by kernel_rfl) fun g => c236 g.1 g.2.1) ⟨_, Tryz.func236, by kernel_rfl, by kernel_rfl⟩ (fun _ => by kernel_rfl) (fun _ => by kernel_rfl) h
def F175 : Orc := (e236 (e235 (e113 (e112 or0))))
theorem F175_ok : OrcG Tryz.prog F175 := (e236_ok (e235_ok (e113_ok (e112_ok or0_g))))
structure L175_0 where
 t2 : List Int
 t3 : List Int
 t15 : Int
 t16 : Int
 t17 : Int
def d175_0 : Td 0 L175_0 := .c [] [2, 3, 15, 16, 17] (.r 0 0 (ec 2 (ql 3) (ec 3 (ql 3) (ec 15 (qi .i64) (ec 16 (qi .i64) (ec 17 (qi .i64) en))))) sn (fun z => ⟨z.1.1, z.1.2.1, z.1.2.2.1, z.1.2.2.2.1, z.1.2.2.2.2.1⟩) (fun x => ((x.t2, x.t3, x.t15, x.t16, x.t17, ()), (()))) fun _ => rfl)
def n175_0 (p : L175_0) : Option (Option L175_0) :=
 bif decide (p.t17 < (↑p.t2.length : Int)) then if (0 : Int) ≤ p.t17 ∧ p.t17 < (↑p.t2.length : Int) then if (0 : Int) ≤ p.t17 ∧ p.t17 < (↑p.t3.length : Int) then some (some (L175_0.mk p.t2 p.t3 (m113 p.t15 p.t2[p.t17.toNat]!) (m112 p.t16 p.t3[p.t17.toNat]!) (i64.wrap (p.t17 + 1)))) else none else none else some (none)
theorem q175_0 (p : L175_0) : execA Tryz.prog (F175) Tryz.f175.ntmps 300 (loopAt Tryz.f175 0) .no (Option L175_0) (d175_0.pat p) (kOn d175_0.rd) = n175_0 p := by kernel_rfl
def a175_0 : L175_0 → Option L175_0 := advG (n175_0)
abbrev E175 : Type := Int × Int
def d175 : Td 0 E175 := .c [] [8, 9] (.r 0 0 (ec 8 (qi .i64) (ec 9 (qi .i64) en)) sn (fun z => (z.1.1, z.1.2.1)) (fun x => ((x.1, x.2, ()), (()))) fun _ => rfl)
def A175 := (lc (ql 108) (lc (qg 106) (lc (ql 3) (lc (ql 3) ln))))
def an175 : An := (.two .no (.two (.two .no (.two .no (.two (.two (.two (.rb [] 29) .no) .no) (.two .no (.two .no (.two .no (.two .no (.two .no (.two .no (.two .no (.two .no (.two .no (.two .no (.two .no (.two (.two .no (.two (.two (.rb [] 154) .no) .no)) (.two .no (.two .no (.two .no (.two .no (.two .no (.two .no (.two .no (.two (.two .no (.two (.two .no (d175_0.lp a175_0 .no)) .no)) .no))))))))))))))))))))))) .no))
theorem pu175  : ∀ f ∈ ([] : List Nat), PureF (F175) f := ob_nil
theorem fa175 : FnAn Tryz.prog (F175) 0 300 175 (an175) := fnAn_of (l := [(.skip, (.rb [] 29)), (.skip, (.rb [] 154)), (loopAt Tryz.f175 0, (d175_0.lp a175_0 .no))]) Tryz.func175 (bodyOf_eq (by kernel_rfl)) (by kernel_rfl) (ob_cons pu175 (ob_cons pu175 (ob_cons ⟨d175_0.ok _, advG_ok (q175_0)⟩ ob_nil)))
def m175 (a0 : List GVar) (a1 : GTerm) (a2 : List Int) (a3 : List Int) : Option E175 :=
 bif decide (a1.fOp = 0) then match bif decide (a1.fN < -1048576) then some (true) else some (decide (1048576 < a1.fN)) with | none => none | some r1 => bif r1 then some ((-1048577, 1048577)) else some ((a1.fN, a1.fN)) else bif decide (a1.fOp = 24) then if (0 : Int) ≤ a1.fN ∧ a1.fN < (↑a0.length : Int) then if (0 : Int) ≤ a1.fN ∧ a1.fN < (↑a0.length : Int) then some ((a0[a1.fN.toNat]!.fLow, a0[a1.fN.toNat]!.fHigh)) else none else none else bif decide (a1.fOp = 6) then if (0 : Int) ≤ (0 : Int) ∧ (0 : Int) < (↑a3.length : Int) then if (0 : Int) ≤ (0 : Int) ∧ (0 : Int) < (↑a2.length : Int) then some ((i64.wrap (0 - a3[0]!), i64.wrap (0 - a2[0]!))) else none else none else bif decide (a1.fOp = 8) then if (0 : Int) ≤ (0 : Int) ∧ (0 : Int) < (↑a2.length : Int) then if (0 : Int) ≤ (1 : Int) ∧ (1 : Int) < (↑a2.length : Int) then if (0 : Int) ≤ (0 : Int) ∧ (0 : Int) < (↑a3.length : Int) then if (0 : Int) ≤ (1 : Int) ∧ (1 : Int) < (↑a3.length : Int) then some ((i64.wrap (a2[0]! + a2[1]!), i64.wrap (a3[0]! + a3[1]!))) else none else none else none else none else bif decide (a1.fOp = 9) then if (0 : Int) ≤ (0 : Int) ∧ (0 : Int) < (↑a2.length : Int) then if (0 : Int) ≤ (1 : Int) ∧ (1 : Int) < (↑a3.length : Int) then if (0 : Int) ≤ (0 : Int) ∧ (0 : Int) < (↑a3.length : Int) then if (0 : Int) ≤ (1 : Int) ∧ (1 : Int) < (↑a2.length : Int) then some ((i64.wrap (a2[0]! - a3[1]!), i64.wrap (a3[0]! - a2[1]!))) else none else none else none else none else bif decide (a1.fOp = 10) then if (0 : Int) ≤ (0 : Int) ∧ (0 : Int) < (↑a2.length : Int) then if (0 : Int) ≤ (1 : Int) ∧ (1 : Int) < (↑a2.length : Int) then if (0 : Int) ≤ (0 : Int) ∧ (0 : Int) < (↑a2.length : Int) then if (0 : Int) ≤ (1 : Int) ∧ (1 : Int) < (↑a3.length : Int) then if (0 : Int) ≤ (0 : Int) ∧ (0 : Int) < (↑a3.length : Int) then if (0 : Int) ≤ (1 : Int) ∧ (1 : Int) < (↑a2.length : Int) then if (0 : Int) ≤ (0 : Int) ∧ (0 : Int) < (↑a3.length : Int) then if (0 : Int) ≤ (1 : Int) ∧ (1 : Int) < (↑a3.length : Int) then some ((m113 (m113 (i64.wrap (a2[0]! * a2[1]!)) (i64.wrap (a2[0]! * a3[1]!))) (m113 (i64.wrap (a3[0]! * a2[1]!)) (i64.wrap (a3[0]! * a3[1]!))), m112 (m112 (i64.wrap (a2[0]! * a2[1]!)) (i64.wrap (a2[0]! * a3[1]!))) (m112 (i64.wrap (a3[0]! * a2[1]!)) (i64.wrap (a3[0]! * a3[1]!))))) else none else none else none else none else none else none else none else none else bif decide (a1.fOp = 11) then if (0 : Int) ≤ (0 : Int) ∧ (0 : Int) < (↑a2.length : Int) then if (0 : Int) ≤ (0 : Int) ∧ (0 : Int) < (↑a3.length : Int) then match if (0 : Int) ≤ (0 : Int) ∧ (0 : Int) < (↑a2.length : Int) then bif decide (0 ≤ a2[Int.toNat 0]!) then if (0 : Int) ≤ (1 : Int) ∧ (1 : Int) < (↑a2.length : Int) then some (decide (0 ≤ a2[Int.toNat 1]!)) else none else some (false) else none with | none => none | some r2 => bif r2 then some ((0, m112 (m235 a2[0]!) (m235 a3[0]!))) else some ((i64.wrap (0 - m112 (m235 a2[0]!) (m235 a3[0]!)), m112 (m235 a2[0]!) (m235 a3[0]!))) else none else none else bif decide (a1.fOp = 12) then if (0 : Int) ≤ (1 : Int) ∧ (1 : Int) < (↑a2.length : Int) then if (0 : Int) ≤ (1 : Int) ∧ (1 : Int) < (↑a3.length : Int) then some (m236 a2[1]! a3[1]!) else none else none else bif decide (a1.fOp = 21) then if (0 : Int) ≤ (0 : Int) ∧ (0 : Int) < (↑a2.length : Int) then if (0 : Int) ≤ (1 : Int) ∧ (1 : Int) < (↑a2.length : Int) then if (0 : Int) ≤ (0 : Int) ∧ (0 : Int) < (↑a3.length : Int) then if (0 : Int) ≤ (1 : Int) ∧ (1 : Int) < (↑a3.length : Int) then some ((m113 a2[0]! a2[1]!, m113 a3[0]! a3[1]!)) else none else none else none else none else bif decide (a1.fOp = 22) then if (0 : Int) ≤ (0 : Int) ∧ (0 : Int) < (↑a2.length : Int) then if (0 : Int) ≤ (1 : Int) ∧ (1 : Int) < (↑a2.length : Int) then if (0 : Int) ≤ (0 : Int) ∧ (0 : Int) < (↑a3.length : Int) then if (0 : Int) ≤ (1 : Int) ∧ (1 : Int) < (↑a3.length : Int) then some ((m112 a2[0]! a2[1]!, m112 a3[0]! a3[1]!)) else none else none else none else none else bif decide (a1.fOp = 23) then if (0 : Int) ≤ (1 : Int) ∧ (1 : Int) < (↑a2.length : Int) then if (0 : Int) ≤ (1 : Int) ∧ (1 : Int) < (↑a3.length : Int) then match a175_0 (L175_0.mk a2 a3 a2[1]! a3[1]! (2)) with | none => none | some r3 => bif decide (r3.t17 < (↑r3.t2.length : Int)) then if (0 : Int) ≤ r3.t17 ∧ r3.t17 < (↑r3.t2.length : Int) then if (0 : Int) ≤ r3.t17 ∧ r3.t17 < (↑r3.t3.length : Int) then none else none else none else some ((r3.t15, r3.t16)) else none else none else bif decide (a1.fOp = 25) then if (0 : Int) ≤ (1 : Int) ∧ (1 : Int) < (↑a2.length : Int) then if (0 : Int) ≤ (1 : Int) ∧ (1 : Int) < (↑a3.length : Int) then match a175_0 (L175_0.mk a2 a3 a2[1]! a3[1]! (2)) with | none => none | some r4 => bif decide (r4.t17 < (↑r4.t2.length : Int)) then if (0 : Int) ≤ r4.t17 ∧ r4.t17 < (↑r4.t2.length : Int) then if (0 : Int) ≤ r4.t17 ∧ r4.t17 < (↑r4.t3.length : Int) then none else none else none else some ((r4.t15, r4.t16)) else none else none else some ((0, 1))
theorem c175 (a0 : List GVar) (a1 : GTerm) (a2 : List Int) (a3 : List Int) : callR Tryz.prog (F175) 300 (an175) 175 (A175.c (a0, a1, a2, a3, ())) [] 0 d175.rd = m175 a0 a1 a2 a3 := by kernel_rfl
def e175 : Orc → Orc := eL Tryz.prog 175 false A175 d175 (fun g => m175 g.1 g.2.1 g.2.2.1 g.2.2.2.1)
theorem e175_ok {F : Orc} (h : OrcG Tryz.prog F) : OrcG Tryz.prog (e175 F) := eL_ok (sc := scU) scU_ok (hl_of F175_ok fa175 (fun _ => by kernel_rfl) (fun _ => by kernel_rfl) fun g => c175 g.1 g.2.1 g.2.2.1 g.2.2.2.1) ⟨_, Tryz.func175, by kernel_rfl, by kernel_rfl⟩ (fun _ => by kernel_rfl) (fun _ => by kernel_rfl) h
abbrev E110 : Type := Int × Int × Bool
def d110 : Td 0 E110 := .c [] [4, 5, 6] (.r 0 0 (ec 4 (qi .i64) (ec 5 (qi .i64) (ec 6 qb en))) sn (fun z => (z.1.1, z.1.2.1, z.1.2.2.1)) (fun x => ((x.1, x.2.1, x.2.2, ()), (()))) fun _ => rfl)
def A110 := (lc (ql 108) (lc (qg 106) ln))
def x110 (M : (List GVar) → GTerm → Option E110) : Orc → Orc := eL Tryz.prog 110 false A110 d110 (fun g => M g.1 g.2.1)
def H110 (M : (List GVar) → GTerm → Option E110) : Prop := HL Tryz.prog 110 A110 d110 (fun g => M g.1 g.2.1)
theorem x110_ok {M : (List GVar) → GTerm → Option E110} (hM : H110 M) {F : Orc} (h : OrcG Tryz.prog F) : OrcG Tryz.prog (x110 M F) := eL_ok (sc := scU) scU_ok hM ⟨_, Tryz.func110, by kernel_rfl, by kernel_rfl⟩ (fun _ => by kernel_rfl) (fun _ => by kernel_rfl) h
def F110 (M110 : (List GVar) → GTerm → Option E110) : Orc := (e175 (x110 M110 or0))
theorem F110_ok {M110} (h110 : H110 M110) : OrcG Tryz.prog (F110 M110) := (e175_ok (x110_ok h110 or0_g))
structure L110_0 where
 t0 : List GVar
 t7 : List Int
 t8 : List Int
 t9 : Int
 b0 : GTerm
def d110_0 : Td 0 L110_0 := .c [] [0, 3, 7, 8, 9] (.r 0 3 (ec 0 (ql 108) (ec 3 (qp 0 0) (ec 7 (qo 1) (ec 8 (qo 2) (ec 9 (qi .i64) en))))) (sb 0 106 (lg 106) (sr 1 3 (sr 2 3 sn))) (fun z => ⟨z.1.1, z.2.2.1, z.2.2.2.1, z.1.2.2.2.2.1, z.2.1⟩) (fun x => ((x.t0, (), (), (), x.t9, ()), (x.b0, x.t7, x.t8, ()))) fun _ => rfl)
def n110_0 (M110 : (List GVar) → GTerm → Option E110) (p : L110_0) : Option (Option L110_0) :=
 bif decide (p.t9 < (↑p.b0.fKids.length : Int)) then if (0 : Int) ≤ p.t9 ∧ p.t9 < (↑p.b0.fKids.length : Int) then match M110 p.t0 (GTerm.mk p.b0.fKids[p.t9.toNat]!.fOp p.b0.fKids[p.t9.toNat]!.fN p.b0.fKids[p.t9.toNat]!.fKids) with | none => none | some r1 => bif bif r1.snd.snd then false else true then some (none) else if (p.t7 ++ [r1.fst]).length ≤ 1073741824 then if (p.t8 ++ [r1.snd.fst]).length ≤ 1073741824 then some (some (L110_0.mk p.t0 (p.t7 ++ [r1.fst]) (p.t8 ++ [r1.snd.fst]) (i64.wrap (p.t9 + 1)) (GTerm.mk p.b0.fOp p.b0.fN p.b0.fKids))) else none else none else none else some (none)
theorem q110_0 (M110 : (List GVar) → GTerm → Option E110) (p : L110_0) : execA Tryz.prog (F110 M110) Tryz.f110.ntmps 300 (loopAt Tryz.f110 0) .no (Option L110_0) (d110_0.pat p) (kOn d110_0.rd) = n110_0 M110 p := by kernel_rfl
def a110_0 (M110 : (List GVar) → GTerm → Option E110) : L110_0 → Option L110_0 := advG (n110_0 M110)
def an110 (M110 : (List GVar) → GTerm → Option E110) : An := (.two .no (.two .no (.two .no (.two (.two .no (d110_0.lp (a110_0 M110) .no)) .no))))
theorem fa110 (M110 : (List GVar) → GTerm → Option E110) : FnAn Tryz.prog (F110 M110) 0 300 110 (an110 M110) := fnAn_of (l := [(loopAt Tryz.f110 0, (d110_0.lp (a110_0 M110) .no))]) Tryz.func110 (bodyOf_eq (by kernel_rfl)) (by kernel_rfl) (ob_cons ⟨d110_0.ok _, advG_ok (q110_0 M110)⟩ ob_nil)
def s110 (M110 : (List GVar) → GTerm → Option E110) (a0 : List GVar) (a1 : GTerm) : Option E110 :=
 match a110_0 M110 (L110_0.mk a0 [] [] (0) (GTerm.mk a1.fOp a1.fN a1.fKids)) with | none => none | some r2 => bif decide (r2.t9 < (↑r2.b0.fKids.length : Int)) then if (0 : Int) ≤ r2.t9 ∧ r2.t9 < (↑r2.b0.fKids.length : Int) then match M110 r2.t0 (GTerm.mk r2.b0.fKids[r2.t9.toNat]!.fOp r2.b0.fKids[r2.t9.toNat]!.fN r2.b0.fKids[r2.t9.toNat]!.fKids) with | none => none | some r3 => bif bif r3.snd.snd then false else true then some ((0, 0, false)) else if (r2.t7 ++ [r3.fst]).length ≤ 1073741824 then if (r2.t8 ++ [r3.snd.fst]).length ≤ 1073741824 then none else none else none else none else match m175 r2.t0 (GTerm.mk r2.b0.fOp r2.b0.fN r2.b0.fKids) r2.t7 r2.t8 with | none => none | some r4 => bif decide (-1048576 ≤ r4.fst) then some ((r4.fst, r4.snd, decide (r4.snd ≤ 1048576))) else some ((r4.fst, r4.snd, false))
theorem c110 (M110 : (List GVar) → GTerm → Option E110) (a0 : List GVar) (a1 : GTerm) : callR Tryz.prog (F110 M110) 300 (an110 M110) 110 (A110.c (a0, a1, ())) [] 0 d110.rd = s110 M110 a0 a1 := by kernel_rfl
def mm110 : Nat → ((List GVar) → GTerm → Option E110)
 | 0 => (fun _ _ => none)
 | n + 1 => (s110 (mm110 n))
def m110 (n : Nat) : (List GVar) → GTerm → Option E110 := (mm110 n)
theorem mm110_ok : ∀ n, H110 (m110 n)
 | 0 => fun _ _ h => (by cases h)
 | n + 1 => by
  have ih := mm110_ok n
  have i110 := ih
  exact (hl_of (F110_ok i110) (fa110 (m110 n)) (fun _ => by kernel_rfl) (fun _ => by kernel_rfl) fun g => c110 (m110 n) g.1 g.2.1)
def r110 : (List GVar) → GTerm → Option E110 := fun a0 a1 => lim (fun n => m110 n a0 a1)
theorem r110_ok : H110 r110 := fun g b h => by
 obtain ⟨n, hn⟩ := lim_some (show lim (fun n => m110 n g.1 g.2.1) = some b from h)
 exact (mm110_ok n) g b hn
def e110 (F : Orc) : Orc := x110 r110 F
theorem e110_ok {F : Orc} (h : OrcG Tryz.prog F) : OrcG Tryz.prog (e110 F) := x110_ok r110_ok h
def F54 : Orc := (e110 (e109 or0))
theorem F54_ok : OrcG Tryz.prog F54 := (e110_ok (e109_ok or0_g))
abbrev E54 : Type := Int
def d54 : Td 0 E54 := .c [] [6] (.r 0 0 (ec 6 (qi .i64) en) sn (fun z => z.1.1) (fun x => ((x, ()), (()))) fun _ => rfl)
def A54 := (lc (ql 108) (lc (qg 106) (lc qb ln)))
def an54 : An := .no
theorem fa54 : FnAn Tryz.prog (F54) 0 300 54 (an54) := fnAn_of (l := []) Tryz.func54 (bodyOf_eq (by kernel_rfl)) (by kernel_rfl) ob_nil
def m54 (a0 : List GVar) (a1 : GTerm) (a2 : Bool) : Option E54 :=
 match r109 a0 (GTerm.mk a1.fOp a1.fN a1.fKids) a2 with | none => none | some r1 => bif bif r1 then false else true then some (1) else match r110 a0 (GTerm.mk a1.fOp a1.fN a1.fKids) with | none => none | some r2 => bif bif r2.snd.snd then false else true then some (3) else some (0)
theorem c54 (a0 : List GVar) (a1 : GTerm) (a2 : Bool) : callR Tryz.prog (F54) 300 (an54) 54 (A54.c (a0, a1, a2, ())) [] 0 d54.rd = m54 a0 a1 a2 := by kernel_rfl
def e54 : Orc → Orc := eL Tryz.prog 54 false A54 d54 (fun g => m54 g.1 g.2.1 g.2.2.1)
theorem e54_ok {F : Orc} (h : OrcG Tryz.prog F) : OrcG Tryz.prog (e54 F) := eL_ok (sc := scU) scU_ok (hl_of F54_ok fa54 (fun _ => by kernel_rfl) (fun _ => by kernel_rfl) fun g => c54 g.1 g.2.1 g.2.2.1) ⟨_, Tryz.func54, by kernel_rfl, by kernel_rfl⟩ (fun _ => by kernel_rfl) (fun _ => by kernel_rfl) h
theorem e54_pure {F : Orc} {f : Nat} (h : PureF F f) : PureF (e54 F) f := orL_pure h (fun _ => by kernel_rfl)
def F176 : Orc := or0
theorem F176_ok : OrcG Tryz.prog F176 := or0_g
abbrev E176 : Type := Bool
def d176 : Td 0 E176 := .c [] [2] (.r 0 0 (ec 2 qb en) sn (fun z => z.1.1) (fun x => ((x, ()), (()))) fun _ => rfl)
def A176 := (lc (qg 106) ln)
def an176 : An := (.two .no (.two (.rb [] 2) .no))
theorem pu176  : ∀ f ∈ ([] : List Nat), PureF (F176) f := ob_nil
theorem fa176 : FnAn Tryz.prog (F176) 0 300 176 (an176) := fnAn_of (l := [(.skip, (.rb [] 2))]) Tryz.func176 (bodyOf_eq (by kernel_rfl)) (by kernel_rfl) (ob_cons pu176 ob_nil)
def m176 (a0 : GTerm) : E176 :=
 let r1 : Bool := bif decide (a0.fOp = 0) then bif decide (a0.fN = 0) then decide ((↑a0.fKids.length : Int) = 0) else false else false; r1
theorem c176 (a0 : GTerm) : callR Tryz.prog (F176) 300 (an176) 176 (A176.c (a0, ())) [] 0 d176.rd = some (m176 a0) := by
 refine Eq.trans (b := (
  match bif decide (a0.fOp = 0) then bif decide (a0.fN = 0) then some (decide ((↑a0.fKids.length : Int) = 0)) else some (false) else some (false) with | none => none | some r1 => some (r1) : Option E176)) (by kernel_rfl) ?_
 simp only [m176, cond_some, ite_some]
def e176 : Orc → Orc := eL Tryz.prog 176 false A176 d176 (fun g => some (m176 g.1))
theorem e176_ok {F : Orc} (h : OrcG Tryz.prog F) : OrcG Tryz.prog (e176 F) := eL_ok (sc := scU) scU_ok (hl_of F176_ok fa176 (fun _ => by kernel_rfl) (fun _ => by kernel_rfl) fun g => c176 g.1) ⟨_, Tryz.func176, by kernel_rfl, by kernel_rfl⟩ (fun _ => by kernel_rfl) (fun _ => by kernel_rfl) h
theorem e176_pure {F : Orc} {f : Nat} (h : PureF F f) : PureF (e176 F) f := orL_pure h (fun _ => by kernel_rfl)
def F177 : Orc := or0
theorem F177_ok : OrcG Tryz.prog F177 := or0_g
structure L177_0 where
 t0 : List Int
 t3 : Int
def d177_0 : Td 0 L177_0 := .c [] [0, 3] (.r 0 0 (ec 0 (ql 3) (ec 3 (qi .i64) en)) sn (fun z => ⟨z.1.1, z.1.2.1⟩) (fun x => ((x.t0, x.t3, ()), (()))) fun _ => rfl)
def n177_0 (p : L177_0) : Option (Option L177_0) :=
 bif decide (p.t3 < (↑p.t0.length : Int)) then if (0 : Int) ≤ p.t3 ∧ p.t3 < (↑p.t0.length : Int) then if (0 : Int) ≤ i64.wrap (p.t3 - (1 : Int)) ∧ i64.wrap (p.t3 - (1 : Int)) < (↑p.t0.length : Int) then bif decide (p.t0[p.t3.toNat]! ≤ p.t0[(i64.wrap (p.t3 - 1)).toNat]!) then some (none) else some (some (L177_0.mk p.t0 (i64.wrap (p.t3 + 1)))) else none else none else some (none)
theorem q177_0 (p : L177_0) : execA Tryz.prog (F177) Tryz.f177.ntmps 300 (loopAt Tryz.f177 0) .no (Option L177_0) (d177_0.pat p) (kOn d177_0.rd) = n177_0 p := by kernel_rfl
def a177_0 : L177_0 → Option L177_0 := advG (n177_0)
abbrev E177 : Type := Bool
def d177 : Td 0 E177 := .c [] [2] (.r 0 0 (ec 2 qb en) sn (fun z => z.1.1) (fun x => ((x, ()), (()))) fun _ => rfl)
def A177 := (lc (ql 3) ln)
def an177 : An := (.two .no (.two (.two (.rb [] 17) .no) (.two (.two .no (d177_0.lp a177_0 .no)) .no)))
theorem pu177  : ∀ f ∈ ([] : List Nat), PureF (F177) f := ob_nil
theorem fa177 : FnAn Tryz.prog (F177) 0 300 177 (an177) := fnAn_of (l := [(.skip, (.rb [] 17)), (loopAt Tryz.f177 0, (d177_0.lp a177_0 .no))]) Tryz.func177 (bodyOf_eq (by kernel_rfl)) (by kernel_rfl) (ob_cons pu177 (ob_cons ⟨d177_0.ok _, advG_ok (q177_0)⟩ ob_nil))
def m177 (a0 : List Int) : Option E177 :=
 match bif decide ((↑a0.length : Int) < 1) then some (true) else bif decide (32 < (↑a0.length : Int)) then some (true) else if (0 : Int) ≤ (0 : Int) ∧ (0 : Int) < (↑a0.length : Int) then some (decide (a0[Int.toNat 0]! < 0)) else none with | none => none | some r1 => bif r1 then some (false) else match a177_0 (L177_0.mk a0 (1)) with | none => none | some r2 => bif decide (r2.t3 < (↑r2.t0.length : Int)) then if (0 : Int) ≤ r2.t3 ∧ r2.t3 < (↑r2.t0.length : Int) then if (0 : Int) ≤ i64.wrap (r2.t3 - (1 : Int)) ∧ i64.wrap (r2.t3 - (1 : Int)) < (↑r2.t0.length : Int) then bif decide (r2.t0[r2.t3.toNat]! ≤ r2.t0[(i64.wrap (r2.t3 - 1)).toNat]!) then some (false) else none else none else none else some (true)
theorem c177 (a0 : List Int) : callR Tryz.prog (F177) 300 (an177) 177 (A177.c (a0, ())) [] 0 d177.rd = m177 a0 := by kernel_rfl
def e177 : Orc → Orc := eL Tryz.prog 177 false A177 d177 (fun g => m177 g.1)
theorem e177_ok {F : Orc} (h : OrcG Tryz.prog F) : OrcG Tryz.prog (e177 F) := eL_ok (sc := scU) scU_ok (hl_of F177_ok fa177 (fun _ => by kernel_rfl) (fun _ => by kernel_rfl) fun g => c177 g.1) ⟨_, Tryz.func177, by kernel_rfl, by kernel_rfl⟩ (fun _ => by kernel_rfl) (fun _ => by kernel_rfl) h
theorem e177_pure {F : Orc} {f : Nat} (h : PureF F f) : PureF (e177 F) f := orL_pure h (fun _ => by kernel_rfl)
def F111 : Orc := (e177 (e176 or0))
theorem F111_ok : OrcG Tryz.prog F111 := (e177_ok (e176_ok or0_g))
abbrev E111 : Type := Bool
def d111 : Td 0 E111 := .c [] [6] (.r 0 0 (ec 6 qb en) sn (fun z => z.1.1) (fun x => ((x, ()), (()))) fun _ => rfl)
def A111 := (lc (qg 26) (lc (qg 111) (lc qb ln)))
def an111 : An := (.two .no (.two (.rb [176, 177] 7) (.two (.rb [176, 177] 8) (.two (.two .no (.two .no (.two (.two (.rb [176, 177] 6) .no) (.two .no (.two (.two (.rb [176, 177] 6) .no) (.two .no (.two (.two (.rb [176, 177] 6) .no) (.two .no (.two (.two (.rb [176, 177] 6) .no) (.two .no (.two (.two (.rb [176, 177] 6) .no) (.two .no (.two (.two (.rb [176, 177] 6) .no) (.two .no (.two (.two (.rb [176, 177] 6) .no) .no))))))))))))))) .no))))
theorem pu111  : ∀ f ∈ ([176, 177] : List Nat), PureF (F111) f := (ob_cons (e177_pure (e176_pure or0_pure)) (ob_cons (e177_pure (e176_pure or0_pure)) ob_nil))
theorem fa111 : FnAn Tryz.prog (F111) 0 300 111 (an111) := fnAn_of (l := [(.skip, (.rb [176, 177] 7)), (.skip, (.rb [176, 177] 8)), (.skip, (.rb [176, 177] 6)), (.skip, (.rb [176, 177] 6)), (.skip, (.rb [176, 177] 6)), (.skip, (.rb [176, 177] 6)), (.skip, (.rb [176, 177] 6)), (.skip, (.rb [176, 177] 6)), (.skip, (.rb [176, 177] 6))]) Tryz.func111 (bodyOf_eq (by kernel_rfl)) (by kernel_rfl) (ob_cons pu111 (ob_cons pu111 (ob_cons pu111 (ob_cons pu111 (ob_cons pu111 (ob_cons pu111 (ob_cons pu111 (ob_cons pu111 (ob_cons pu111 ob_nil)))))))))
def m111 (a0 : Flat) (a1 : GStep) (a2 : Bool) : Option E111 :=
 match bif decide ((↑a1.fThen.length : Int) = 0) then some (decide ((↑a1.fElse.length : Int) = 0)) else some (false) with | none => none | some r1 => match bif decide (0 ≤ a1.fVar) then bif decide (a1.fVar < (↑a0.fVars.length : Int)) then if (0 : Int) ≤ a1.fVar ∧ a1.fVar < (↑a0.fVars.length : Int) then some (decide (a0.fVars[a1.fVar.toNat]!.fKind = 0)) else none else some (false) else some (false) with | none => none | some r2 => bif decide (a1.fDo = 0) then match bif r1 then bif r2 then bif decide (a1.fN = 0) then some (decide ((↑a1.fBounds.length : Int) = 0)) else some (false) else some (false) else some (false) with | none => none | some r3 => some (r3) else bif decide (a1.fDo = 1) then match bif r1 then bif decide (a1.fVar = 0) then bif decide (a1.fN = 0) then some (decide ((↑a1.fBounds.length : Int) = 0)) else some (false) else some (false) else some (false) with | none => none | some r4 => some (r4) else bif decide (a1.fDo = 2) then match bif r1 then bif decide (a1.fVar = 0) then bif decide (a1.fN = 0) then bif decide ((↑a1.fBounds.length : Int) = 0) then some (m176 (GTerm.mk a1.fTerm.fOp a1.fTerm.fN a1.fTerm.fKids)) else some (false) else some (false) else some (false) else some (false) with | none => none | some r5 => some (r5) else bif decide (a1.fDo = 3) then match bif decide (a1.fVar = 0) then bif decide (a1.fN = 0) then some (decide ((↑a1.fBounds.length : Int) = 0)) else some (false) else some (false) with | none => none | some r6 => some (r6) else bif decide (a1.fDo = 4) then match bif decide (a1.fVar = 0) then bif decide ((↑a1.fElse.length : Int) = 0) then some (decide ((↑a1.fBounds.length : Int) = 0)) else some (false) else some (false) with | none => none | some r7 => some (r7) else bif decide (a1.fDo = 5) then match bif r1 then bif r2 then bif decide (0 ≤ a1.fN) then bif decide (a1.fN < (↑a0.fHatches.length : Int)) then bif decide ((↑a1.fBounds.length : Int) = 0) then some (m176 (GTerm.mk a1.fTerm.fOp a1.fTerm.fN a1.fTerm.fKids)) else some (false) else some (false) else some (false) else some (false) else some (false) with | none => none | some r8 => some (r8) else bif decide (a1.fDo = 6) then match bif r1 then bif a2 then bif decide (a1.fVar = 0) then bif decide (a1.fN = 0) then bif m176 (GTerm.mk a1.fTerm.fOp a1.fTerm.fN a1.fTerm.fKids) then match m177 a1.fBounds with | none => none | some r9 => some (r9) else some (false) else some (false) else some (false) else some (false) else some (false) with | none => none | some r10 => some (r10) else some (false)
theorem c111 (a0 : Flat) (a1 : GStep) (a2 : Bool) : callR Tryz.prog (F111) 300 (an111) 111 (A111.c (a0, a1, a2, ())) [] 0 d111.rd = m111 a0 a1 a2 := by kernel_rfl
def e111 : Orc → Orc := eL Tryz.prog 111 false A111 d111 (fun g => m111 g.1 g.2.1 g.2.2.1)
theorem e111_ok {F : Orc} (h : OrcG Tryz.prog F) : OrcG Tryz.prog (e111 F) := eL_ok (sc := scU) scU_ok (hl_of F111_ok fa111 (fun _ => by kernel_rfl) (fun _ => by kernel_rfl) fun g => c111 g.1 g.2.1 g.2.2.1) ⟨_, Tryz.func111, by kernel_rfl, by kernel_rfl⟩ (fun _ => by kernel_rfl) (fun _ => by kernel_rfl) h
theorem e111_pure {F : Orc} {f : Nat} (h : PureF F f) : PureF (e111 F) f := orL_pure h (fun _ => by kernel_rfl)
abbrev E55 : Type := Int
def d55 : Td 0 E55 := .c [] [6] (.r 0 0 (ec 6 (qi .i64) en) sn (fun z => z.1.1) (fun x => ((x, ()), (()))) fun _ => rfl)
def A55 := (lc (qg 26) (lc (ql 111) (lc qb ln)))
def x55 (M : Flat → (List GStep) → Bool → Option E55) : Orc → Orc := eL Tryz.prog 55 false A55 d55 (fun g => M g.1 g.2.1 g.2.2.1)
theorem x55_pure {M : Flat → (List GStep) → Bool → Option E55} {F : Orc} {f : Nat} (h : PureF F f) : PureF (x55 M F) f := orL_pure h (fun _ => by kernel_rfl)
def H55 (M : Flat → (List GStep) → Bool → Option E55) : Prop := HL Tryz.prog 55 A55 d55 (fun g => M g.1 g.2.1 g.2.2.1)
theorem x55_ok {M : Flat → (List GStep) → Bool → Option E55} (hM : H55 M) {F : Orc} (h : OrcG Tryz.prog F) : OrcG Tryz.prog (x55 M F) := eL_ok (sc := scU) scU_ok hM ⟨_, Tryz.func55, by kernel_rfl, by kernel_rfl⟩ (fun _ => by kernel_rfl) (fun _ => by kernel_rfl) h
def F55 (M55 : Flat → (List GStep) → Bool → Option E55) : Orc := (e111 (x55 M55 (e54 or0)))
theorem F55_ok {M55} (h55 : H55 M55) : OrcG Tryz.prog (F55 M55) := (e111_ok (x55_ok h55 (e54_ok or0_g)))
structure L55_0 where
 t1 : List GStep
 t2 : Bool
 t7 : Int
 b0 : Flat
def d55_0 : Td 0 L55_0 := .c [] [1, 2, 3, 7] (.r 0 1 (ec 1 (ql 111) (ec 2 qb (ec 3 (qp 0 0) (ec 7 (qi .i64) en)))) (sb 0 26 (lg 26) sn) (fun z => ⟨z.1.1, z.1.2.1, z.1.2.2.2.1, z.2.1⟩) (fun x => ((x.t1, x.t2, (), x.t7, ()), (x.b0, ()))) fun _ => rfl)
def n55_0 (M55 : Flat → (List GStep) → Bool → Option E55) (p : L55_0) : Option (Option L55_0) :=
 bif decide (p.t7 < (↑p.t1.length : Int)) then if (0 : Int) ≤ p.t7 ∧ p.t7 < (↑p.t1.length : Int) then match bif p.t2 then match m111 p.b0 (GStep.mk p.t1[p.t7.toNat]!.fDo p.t1[p.t7.toNat]!.fCost p.t1[p.t7.toNat]!.fVar p.t1[p.t7.toNat]!.fN (GTerm.mk p.t1[p.t7.toNat]!.fTerm.fOp p.t1[p.t7.toNat]!.fTerm.fN p.t1[p.t7.toNat]!.fTerm.fKids) p.t1[p.t7.toNat]!.fThen p.t1[p.t7.toNat]!.fElse p.t1[p.t7.toNat]!.fBounds) (decide (p.t7 = i64.wrap ((↑p.t1.length : Int) - 1))) with | none => none | some r1 => some (bif r1 then false else true) else match m111 p.b0 (GStep.mk p.t1[p.t7.toNat]!.fDo p.t1[p.t7.toNat]!.fCost p.t1[p.t7.toNat]!.fVar p.t1[p.t7.toNat]!.fN (GTerm.mk p.t1[p.t7.toNat]!.fTerm.fOp p.t1[p.t7.toNat]!.fTerm.fN p.t1[p.t7.toNat]!.fTerm.fKids) p.t1[p.t7.toNat]!.fThen p.t1[p.t7.toNat]!.fElse p.t1[p.t7.toNat]!.fBounds) false with | none => none | some r2 => some (bif r2 then false else true) with | none => none | some r3 => bif r3 then some (none) else bif decide (p.t1[p.t7.toNat]!.fDo = 2) then match bif decide (p.t1[p.t7.toNat]!.fCost < 0) then some (true) else bif decide (67108864 < p.t1[p.t7.toNat]!.fCost) then some (true) else bif decide (p.t1[p.t7.toNat]!.fN < 0) then some (true) else bif decide (p.t1[p.t7.toNat]!.fDo = 4) then some (decide (4096 < p.t1[p.t7.toNat]!.fN)) else some (false) with | none => none | some r4 => bif r4 then some (none) else match bif decide (0 < (↑p.t1[p.t7.toNat]!.fBounds.length : Int)) then if (0 : Int) ≤ i64.wrap ((↑p.t1[p.t7.toNat]!.fBounds.length : Int) - (1 : Int)) ∧ i64.wrap ((↑p.t1[p.t7.toNat]!.fBounds.length : Int) - (1 : Int)) < (↑p.t1[p.t7.toNat]!.fBounds.length : Int) then some (decide (67108864 < p.t1[p.t7.toNat]!.fBounds[(i64.wrap ((↑p.t1[p.t7.toNat]!.fBounds.length : Int) - 1)).toNat]!)) else none else some (false) with | none => none | some r5 => bif r5 then some (none) else match m54 p.b0.fVars (GTerm.mk p.t1[p.t7.toNat]!.fTerm.fOp p.t1[p.t7.toNat]!.fTerm.fN p.t1[p.t7.toNat]!.fTerm.fKids) false with | none => none | some r6 => bif bif decide (r6 = 0) then false else true then some (none) else match M55 p.b0 p.t1[p.t7.toNat]!.fThen false with | none => none | some r7 => bif bif decide (r7 = 0) then false else true then some (none) else match M55 p.b0 p.t1[p.t7.toNat]!.fElse false with | none => none | some r8 => bif bif decide (r8 = 0) then false else true then some (none) else some (some (L55_0.mk p.t1 p.t2 (i64.wrap (p.t7 + 1)) p.b0)) else match bif decide (p.t1[p.t7.toNat]!.fCost < 0) then some (true) else bif decide (10000 < p.t1[p.t7.toNat]!.fCost) then some (true) else bif decide (p.t1[p.t7.toNat]!.fN < 0) then some (true) else bif decide (p.t1[p.t7.toNat]!.fDo = 4) then some (decide (4096 < p.t1[p.t7.toNat]!.fN)) else some (false) with | none => none | some r9 => bif r9 then some (none) else match bif decide (0 < (↑p.t1[p.t7.toNat]!.fBounds.length : Int)) then if (0 : Int) ≤ i64.wrap ((↑p.t1[p.t7.toNat]!.fBounds.length : Int) - (1 : Int)) ∧ i64.wrap ((↑p.t1[p.t7.toNat]!.fBounds.length : Int) - (1 : Int)) < (↑p.t1[p.t7.toNat]!.fBounds.length : Int) then some (decide (67108864 < p.t1[p.t7.toNat]!.fBounds[(i64.wrap ((↑p.t1[p.t7.toNat]!.fBounds.length : Int) - 1)).toNat]!)) else none else some (false) with | none => none | some r10 => bif r10 then some (none) else match m54 p.b0.fVars (GTerm.mk p.t1[p.t7.toNat]!.fTerm.fOp p.t1[p.t7.toNat]!.fTerm.fN p.t1[p.t7.toNat]!.fTerm.fKids) false with | none => none | some r11 => bif bif decide (r11 = 0) then false else true then some (none) else match M55 p.b0 p.t1[p.t7.toNat]!.fThen false with | none => none | some r12 => bif bif decide (r12 = 0) then false else true then some (none) else match M55 p.b0 p.t1[p.t7.toNat]!.fElse false with | none => none | some r13 => bif bif decide (r13 = 0) then false else true then some (none) else some (some (L55_0.mk p.t1 p.t2 (i64.wrap (p.t7 + 1)) p.b0)) else none else some (none)
def g55_0 (M55 : Flat → (List GStep) → Bool → Option E55) : An := (.two .no (.two (.two .no (.two (.two (.rb [111] 32) .no) (.two .no (.two .no (.two (.two (.rb [111] 59) .no) (.two (.two (.rb [111] 74) .no) .no)))))) .no))
theorem q55_0 (M55 : Flat → (List GStep) → Bool → Option E55) (p : L55_0) : execA Tryz.prog (F55 M55) Tryz.f55.ntmps 300 (loopAt Tryz.f55 0) (g55_0 M55) (Option L55_0) (d55_0.pat p) (kOn d55_0.rd) = n55_0 M55 p := by kernel_rfl
def a55_0 (M55 : Flat → (List GStep) → Bool → Option E55) : L55_0 → Option L55_0 := advG (n55_0 M55)
def an55 (M55 : Flat → (List GStep) → Bool → Option E55) : An := (.two .no (.two (.two .no (d55_0.lp (a55_0 M55) (g55_0 M55))) .no))
theorem pu55 {M55} : ∀ f ∈ ([111] : List Nat), PureF (F55 M55) f := (ob_cons (e111_pure (x55_pure (e54_pure or0_pure))) ob_nil)
theorem fa55 (M55 : Flat → (List GStep) → Bool → Option E55) : FnAn Tryz.prog (F55 M55) 0 300 55 (an55 M55) := fnAn_of (l := [(loopAt Tryz.f55 0, (d55_0.lp (a55_0 M55) (g55_0 M55))), (.skip, (.rb [111] 32)), (.skip, (.rb [111] 59)), (.skip, (.rb [111] 74))]) Tryz.func55 (bodyOf_eq (by kernel_rfl)) (by kernel_rfl) (ob_cons ⟨d55_0.ok _, advG_ok (q55_0 M55)⟩ (ob_cons pu55 (ob_cons pu55 (ob_cons pu55 ob_nil))))
def s55 (M55 : Flat → (List GStep) → Bool → Option E55) (a0 : Flat) (a1 : List GStep) (a2 : Bool) : Option E55 :=
 match a55_0 M55 (L55_0.mk a1 a2 (0) a0) with | none => none | some r14 => bif decide (r14.t7 < (↑r14.t1.length : Int)) then if (0 : Int) ≤ r14.t7 ∧ r14.t7 < (↑r14.t1.length : Int) then match bif r14.t2 then match m111 r14.b0 (GStep.mk r14.t1[r14.t7.toNat]!.fDo r14.t1[r14.t7.toNat]!.fCost r14.t1[r14.t7.toNat]!.fVar r14.t1[r14.t7.toNat]!.fN (GTerm.mk r14.t1[r14.t7.toNat]!.fTerm.fOp r14.t1[r14.t7.toNat]!.fTerm.fN r14.t1[r14.t7.toNat]!.fTerm.fKids) r14.t1[r14.t7.toNat]!.fThen r14.t1[r14.t7.toNat]!.fElse r14.t1[r14.t7.toNat]!.fBounds) (decide (r14.t7 = i64.wrap ((↑r14.t1.length : Int) - 1))) with | none => none | some r15 => some (bif r15 then false else true) else match m111 r14.b0 (GStep.mk r14.t1[r14.t7.toNat]!.fDo r14.t1[r14.t7.toNat]!.fCost r14.t1[r14.t7.toNat]!.fVar r14.t1[r14.t7.toNat]!.fN (GTerm.mk r14.t1[r14.t7.toNat]!.fTerm.fOp r14.t1[r14.t7.toNat]!.fTerm.fN r14.t1[r14.t7.toNat]!.fTerm.fKids) r14.t1[r14.t7.toNat]!.fThen r14.t1[r14.t7.toNat]!.fElse r14.t1[r14.t7.toNat]!.fBounds) false with | none => none | some r16 => some (bif r16 then false else true) with | none => none | some r17 => bif r17 then some (1) else bif decide (r14.t1[r14.t7.toNat]!.fDo = 2) then match bif decide (r14.t1[r14.t7.toNat]!.fCost < 0) then some (true) else bif decide (67108864 < r14.t1[r14.t7.toNat]!.fCost) then some (true) else bif decide (r14.t1[r14.t7.toNat]!.fN < 0) then some (true) else bif decide (r14.t1[r14.t7.toNat]!.fDo = 4) then some (decide (4096 < r14.t1[r14.t7.toNat]!.fN)) else some (false) with | none => none | some r18 => bif r18 then some (3) else match bif decide (0 < (↑r14.t1[r14.t7.toNat]!.fBounds.length : Int)) then if (0 : Int) ≤ i64.wrap ((↑r14.t1[r14.t7.toNat]!.fBounds.length : Int) - (1 : Int)) ∧ i64.wrap ((↑r14.t1[r14.t7.toNat]!.fBounds.length : Int) - (1 : Int)) < (↑r14.t1[r14.t7.toNat]!.fBounds.length : Int) then some (decide (67108864 < r14.t1[r14.t7.toNat]!.fBounds[(i64.wrap ((↑r14.t1[r14.t7.toNat]!.fBounds.length : Int) - 1)).toNat]!)) else none else some (false) with | none => none | some r19 => bif r19 then some (3) else match m54 r14.b0.fVars (GTerm.mk r14.t1[r14.t7.toNat]!.fTerm.fOp r14.t1[r14.t7.toNat]!.fTerm.fN r14.t1[r14.t7.toNat]!.fTerm.fKids) false with | none => none | some r20 => bif bif decide (r20 = 0) then false else true then some (r20) else match M55 r14.b0 r14.t1[r14.t7.toNat]!.fThen false with | none => none | some r21 => bif bif decide (r21 = 0) then false else true then some (r21) else match M55 r14.b0 r14.t1[r14.t7.toNat]!.fElse false with | none => none | some r22 => bif bif decide (r22 = 0) then false else true then some (r22) else none else match bif decide (r14.t1[r14.t7.toNat]!.fCost < 0) then some (true) else bif decide (10000 < r14.t1[r14.t7.toNat]!.fCost) then some (true) else bif decide (r14.t1[r14.t7.toNat]!.fN < 0) then some (true) else bif decide (r14.t1[r14.t7.toNat]!.fDo = 4) then some (decide (4096 < r14.t1[r14.t7.toNat]!.fN)) else some (false) with | none => none | some r23 => bif r23 then some (3) else match bif decide (0 < (↑r14.t1[r14.t7.toNat]!.fBounds.length : Int)) then if (0 : Int) ≤ i64.wrap ((↑r14.t1[r14.t7.toNat]!.fBounds.length : Int) - (1 : Int)) ∧ i64.wrap ((↑r14.t1[r14.t7.toNat]!.fBounds.length : Int) - (1 : Int)) < (↑r14.t1[r14.t7.toNat]!.fBounds.length : Int) then some (decide (67108864 < r14.t1[r14.t7.toNat]!.fBounds[(i64.wrap ((↑r14.t1[r14.t7.toNat]!.fBounds.length : Int) - 1)).toNat]!)) else none else some (false) with | none => none | some r24 => bif r24 then some (3) else match m54 r14.b0.fVars (GTerm.mk r14.t1[r14.t7.toNat]!.fTerm.fOp r14.t1[r14.t7.toNat]!.fTerm.fN r14.t1[r14.t7.toNat]!.fTerm.fKids) false with | none => none | some r25 => bif bif decide (r25 = 0) then false else true then some (r25) else match M55 r14.b0 r14.t1[r14.t7.toNat]!.fThen false with | none => none | some r26 => bif bif decide (r26 = 0) then false else true then some (r26) else match M55 r14.b0 r14.t1[r14.t7.toNat]!.fElse false with | none => none | some r27 => bif bif decide (r27 = 0) then false else true then some (r27) else none else none else some (0)
theorem c55 (M55 : Flat → (List GStep) → Bool → Option E55) (a0 : Flat) (a1 : List GStep) (a2 : Bool) : callR Tryz.prog (F55 M55) 300 (an55 M55) 55 (A55.c (a0, a1, a2, ())) [] 0 d55.rd = s55 M55 a0 a1 a2 := by kernel_rfl
def mm55 : Nat → (Flat → (List GStep) → Bool → Option E55)
 | 0 => (fun _ _ _ => none)
 | n + 1 => (s55 (mm55 n))
def m55 (n : Nat) : Flat → (List GStep) → Bool → Option E55 := (mm55 n)
theorem mm55_ok : ∀ n, H55 (m55 n)
 | 0 => fun _ _ h => (by cases h)
 | n + 1 => by
  have ih := mm55_ok n
  have i55 := ih
  exact (hl_of (F55_ok i55) (fa55 (m55 n)) (fun _ => by kernel_rfl) (fun _ => by kernel_rfl) fun g => c55 (m55 n) g.1 g.2.1 g.2.2.1)
def r55 : Flat → (List GStep) → Bool → Option E55 := fun a0 a1 a2 => lim (fun n => m55 n a0 a1 a2)
theorem r55_ok : H55 r55 := fun g b h => by
 obtain ⟨n, hn⟩ := lim_some (show lim (fun n => m55 n g.1 g.2.1 g.2.2.1) = some b from h)
 exact (mm55_ok n) g b hn
def e55 (F : Orc) : Orc := x55 r55 F
theorem e55_ok {F : Orc} (h : OrcG Tryz.prog F) : OrcG Tryz.prog (e55 F) := x55_ok r55_ok h
abbrev E56 : Type := Int × Int × Int
def d56 : Td 0 E56 := .c [] [2, 3, 4] (.r 0 0 (ec 2 (qi .i64) (ec 3 (qi .i64) (ec 4 (qi .i64) en))) sn (fun z => (z.1.1, z.1.2.1, z.1.2.2.1)) (fun x => ((x.1, x.2.1, x.2.2, ()), (()))) fun _ => rfl)
def A56 := (lc (ql 111) ln)
def x56 (M : (List GStep) → Option E56) : Orc → Orc := eL Tryz.prog 56 false A56 d56 (fun g => M g.1)
def H56 (M : (List GStep) → Option E56) : Prop := HL Tryz.prog 56 A56 d56 (fun g => M g.1)
theorem x56_ok {M : (List GStep) → Option E56} (hM : H56 M) {F : Orc} (h : OrcG Tryz.prog F) : OrcG Tryz.prog (x56 M F) := eL_ok (sc := scU) scU_ok hM ⟨_, Tryz.func56, by kernel_rfl, by kernel_rfl⟩ (fun _ => by kernel_rfl) (fun _ => by kernel_rfl) h
def F56 (M56 : (List GStep) → Option E56) : Orc := (e113 (e112 (x56 M56 or0)))
theorem F56_ok {M56} (h56 : H56 M56) : OrcG Tryz.prog (F56 M56) := (e113_ok (e112_ok (x56_ok h56 or0_g)))
structure L56_0 where
 t0 : List GStep
 t5 : Int
 t6 : Int
 t7 : Int
 t8 : Int
def d56_0 : Td 0 L56_0 := .c [] [0, 5, 6, 7, 8] (.r 0 0 (ec 0 (ql 111) (ec 5 (qi .i64) (ec 6 (qi .i64) (ec 7 (qi .i64) (ec 8 (qi .i64) en))))) sn (fun z => ⟨z.1.1, z.1.2.1, z.1.2.2.1, z.1.2.2.2.1, z.1.2.2.2.2.1⟩) (fun x => ((x.t0, x.t5, x.t6, x.t7, x.t8, ()), (()))) fun _ => rfl)
def n56_0 (M56 : (List GStep) → Option E56) (p : L56_0) : Option (Option L56_0) :=
 bif decide (p.t8 < (↑p.t0.length : Int)) then if (0 : Int) ≤ p.t8 ∧ p.t8 < (↑p.t0.length : Int) then match M56 p.t0[p.t8.toNat]!.fThen with | none => none | some r1 => match M56 p.t0[p.t8.toNat]!.fElse with | none => none | some r2 => bif decide (p.t0[p.t8.toNat]!.fDo = 4) then bif decide (p.t0[p.t8.toNat]!.fDo = 1) then some (some (L56_0.mk p.t0 (m113 (i64.wrap (p.t5 + i64.wrap (1 + i64.wrap (p.t0[p.t8.toNat]!.fN * i64.wrap (1 + r1.fst))))) (4097)) (m113 (i64.wrap (p.t6 + 1)) (9)) (m113 (i64.wrap (p.t7 + i64.wrap (p.t0[p.t8.toNat]!.fN * i64.wrap (p.t0[p.t8.toNat]!.fCost + r1.snd.snd)))) (67108865)) (i64.wrap (p.t8 + 1)))) else some (some (L56_0.mk p.t0 (m113 (i64.wrap (p.t5 + i64.wrap (1 + i64.wrap (p.t0[p.t8.toNat]!.fN * i64.wrap (1 + r1.fst))))) (4097)) (m113 (i64.wrap (p.t6 + i64.wrap (p.t0[p.t8.toNat]!.fN * r1.snd.fst))) (9)) (m113 (i64.wrap (p.t7 + i64.wrap (p.t0[p.t8.toNat]!.fN * i64.wrap (p.t0[p.t8.toNat]!.fCost + r1.snd.snd)))) (67108865)) (i64.wrap (p.t8 + 1)))) else bif decide (p.t0[p.t8.toNat]!.fDo = 1) then some (some (L56_0.mk p.t0 (m113 (i64.wrap (p.t5 + i64.wrap (1 + m112 r1.fst r2.fst))) (4097)) (m113 (i64.wrap (p.t6 + 1)) (9)) (m113 (i64.wrap (p.t7 + i64.wrap (p.t0[p.t8.toNat]!.fCost + m112 r1.snd.snd r2.snd.snd))) (67108865)) (i64.wrap (p.t8 + 1)))) else some (some (L56_0.mk p.t0 (m113 (i64.wrap (p.t5 + i64.wrap (1 + m112 r1.fst r2.fst))) (4097)) (m113 (i64.wrap (p.t6 + m112 r1.snd.fst r2.snd.fst)) (9)) (m113 (i64.wrap (p.t7 + i64.wrap (p.t0[p.t8.toNat]!.fCost + m112 r1.snd.snd r2.snd.snd))) (67108865)) (i64.wrap (p.t8 + 1)))) else none else some (none)
theorem q56_0 (M56 : (List GStep) → Option E56) (p : L56_0) : execA Tryz.prog (F56 M56) Tryz.f56.ntmps 300 (loopAt Tryz.f56 0) .no (Option L56_0) (d56_0.pat p) (kOn d56_0.rd) = n56_0 M56 p := by kernel_rfl
def a56_0 (M56 : (List GStep) → Option E56) : L56_0 → Option L56_0 := advG (n56_0 M56)
def an56 (M56 : (List GStep) → Option E56) : An := (.two .no (.two .no (.two (.two .no (d56_0.lp (a56_0 M56) .no)) .no)))
theorem fa56 (M56 : (List GStep) → Option E56) : FnAn Tryz.prog (F56 M56) 0 300 56 (an56 M56) := fnAn_of (l := [(loopAt Tryz.f56 0, (d56_0.lp (a56_0 M56) .no))]) Tryz.func56 (bodyOf_eq (by kernel_rfl)) (by kernel_rfl) (ob_cons ⟨d56_0.ok _, advG_ok (q56_0 M56)⟩ ob_nil)
def s56 (M56 : (List GStep) → Option E56) (a0 : List GStep) : Option E56 :=
 match a56_0 M56 (L56_0.mk a0 (0) (0) (0) (0)) with | none => none | some r3 => bif decide (r3.t8 < (↑r3.t0.length : Int)) then if (0 : Int) ≤ r3.t8 ∧ r3.t8 < (↑r3.t0.length : Int) then match M56 r3.t0[r3.t8.toNat]!.fThen with | none => none | some r4 => match M56 r3.t0[r3.t8.toNat]!.fElse with | none => none | some r5 => bif decide (r3.t0[r3.t8.toNat]!.fDo = 4) then bif decide (r3.t0[r3.t8.toNat]!.fDo = 1) then none else none else bif decide (r3.t0[r3.t8.toNat]!.fDo = 1) then none else none else none else some ((r3.t5, r3.t6, r3.t7))
theorem c56 (M56 : (List GStep) → Option E56) (a0 : List GStep) : callR Tryz.prog (F56 M56) 300 (an56 M56) 56 (A56.c (a0, ())) [] 0 d56.rd = s56 M56 a0 := by kernel_rfl
def mm56 : Nat → ((List GStep) → Option E56)
 | 0 => (fun _ => none)
 | n + 1 => (s56 (mm56 n))
def m56 (n : Nat) : (List GStep) → Option E56 := (mm56 n)
theorem mm56_ok : ∀ n, H56 (m56 n)
 | 0 => fun _ _ h => (by cases h)
 | n + 1 => by
  have ih := mm56_ok n
  have i56 := ih
  exact (hl_of (F56_ok i56) (fa56 (m56 n)) (fun _ => by kernel_rfl) (fun _ => by kernel_rfl) fun g => c56 (m56 n) g.1)
def r56 : (List GStep) → Option E56 := fun a0 => lim (fun n => m56 n a0)
theorem r56_ok : H56 r56 := fun g b h => by
 obtain ⟨n, hn⟩ := lim_some (show lim (fun n => m56 n g.1) = some b from h)
 exact (mm56_ok n) g b hn
def e56 (F : Orc) : Orc := x56 r56 F
theorem e56_ok {F : Orc} (h : OrcG Tryz.prog F) : OrcG Tryz.prog (e56 F) := x56_ok r56_ok h
def F15 : Orc := (e56 (e55 (e54 (e53 (e52 (e51 (e50 or0)))))))
theorem F15_ok : OrcG Tryz.prog F15 := (e56_ok (e55_ok (e54_ok (e53_ok (e52_ok (e51_ok (e50_ok or0_g)))))))
structure L15_1 where
 t4 : Int
 t6 : Int
 b0 : Flat
 b1 : Hatch
def d15_1 : Td 0 L15_1 := .c [] [1, 4, 5, 6] (.r 0 2 (ec 1 (qp 0 0) (ec 4 (qi .i64) (ec 5 (qp 1 0) (ec 6 (qi .i64) en)))) (sb 0 26 (lg 26) (sb 1 116 (lg 116) sn)) (fun z => ⟨z.1.2.1, z.1.2.2.2.1, z.2.1, z.2.2.1⟩) (fun x => (((), x.t4, (), x.t6, ()), (x.b0, x.b1, ()))) fun _ => rfl)
def n15_1 (p : L15_1) : Option (Option L15_1) :=
 bif decide (p.t6 < p.t4) then if (0 : Int) ≤ p.t6 ∧ p.t6 < (↑p.b0.fHatches.length : Int) then bif p.b0.fHatches[p.t6.toNat]!.fName.toList == p.b1.fName.toList then some (none) else some (some (L15_1.mk p.t4 (i64.wrap (p.t6 + 1)) p.b0 (Hatch.mk p.b1.fName p.b1.fLow p.b1.fHigh (GTerm.mk p.b1.fTerm.fOp p.b1.fTerm.fN p.b1.fTerm.fKids)))) else none else some (none)
theorem q15_1 (p : L15_1) : execA Tryz.prog (F15) Tryz.f15.ntmps 300 (loopAt Tryz.f15 1) .no (Option L15_1) (d15_1.pat p) (kOn d15_1.rd) = n15_1 p := by kernel_rfl
def a15_1 : L15_1 → Option L15_1 := advG (n15_1)
structure L15_0 where
 t4 : Int
 b0 : Flat
def d15_0 : Td 0 L15_0 := .c [] [1, 4] (.r 0 1 (ec 1 (qp 0 0) (ec 4 (qi .i64) en)) (sb 0 26 (lg 26) sn) (fun z => ⟨z.1.2.1, z.2.1⟩) (fun x => (((), x.t4, ()), (x.b0, ()))) fun _ => rfl)
def n15_0 (p : L15_0) : Option (Option L15_0) :=
 bif decide (p.t4 < (↑p.b0.fHatches.length : Int)) then if (0 : Int) ≤ p.t4 ∧ p.t4 < (↑p.b0.fHatches.length : Int) then match m52 p.b0.fHatches[p.t4.toNat]!.fName with | none => none | some r1 => bif bif r1 then false else true then some (none) else match a15_1 (L15_1.mk p.t4 (0) p.b0 (Hatch.mk p.b0.fHatches[p.t4.toNat]!.fName p.b0.fHatches[p.t4.toNat]!.fLow p.b0.fHatches[p.t4.toNat]!.fHigh (GTerm.mk p.b0.fHatches[p.t4.toNat]!.fTerm.fOp p.b0.fHatches[p.t4.toNat]!.fTerm.fN p.b0.fHatches[p.t4.toNat]!.fTerm.fKids))) with | none => none | some r2 => bif decide (r2.t6 < r2.t4) then if (0 : Int) ≤ r2.t6 ∧ r2.t6 < (↑r2.b0.fHatches.length : Int) then bif r2.b0.fHatches[r2.t6.toNat]!.fName.toList == r2.b1.fName.toList then some (none) else none else none else bif bif m53 r2.b1.fLow r2.b1.fHigh then false else true then some (none) else match m54 r2.b0.fVars (GTerm.mk r2.b1.fTerm.fOp r2.b1.fTerm.fN r2.b1.fTerm.fKids) true with | none => none | some r3 => bif bif decide (r3 = 0) then false else true then some (none) else some (some (L15_0.mk (i64.wrap (r2.t4 + 1)) r2.b0)) else none else some (none)
def g15_0 : An := (.two .no (.two (.two .no (.two .no (.two (.two .no (d15_1.lp a15_1 .no)) .no))) .no))
theorem q15_0 (p : L15_0) : execA Tryz.prog (F15) Tryz.f15.ntmps 300 (loopAt Tryz.f15 0) g15_0 (Option L15_0) (d15_0.pat p) (kOn d15_0.rd) = n15_0 p := by kernel_rfl
def a15_0 : L15_0 → Option L15_0 := advG (n15_0)
abbrev E15 : Type := Int
def d15 : Td 0 E15 := .c [] [2] (.r 0 0 (ec 2 (qi .i64) en) sn (fun z => z.1.1) (fun x => ((x, ()), (()))) fun _ => rfl)
def A15 := (lc (qg 26) ln)
def an15 : An := (.two .no (.two .no (.two .no (.two .no (.two (.two .no (d15_0.lp a15_0 g15_0)) (.two .no (.two .no (.two .no (.two (.two (.rb [] 86) .no) .no)))))))))
theorem pu15  : ∀ f ∈ ([] : List Nat), PureF (F15) f := ob_nil
theorem fa15 : FnAn Tryz.prog (F15) 0 300 15 (an15) := fnAn_of (l := [(loopAt Tryz.f15 0, (d15_0.lp a15_0 g15_0)), (loopAt Tryz.f15 1, (d15_1.lp a15_1 .no)), (.skip, (.rb [] 86))]) Tryz.func15 (bodyOf_eq (by kernel_rfl)) (by kernel_rfl) (ob_cons ⟨d15_0.ok _, advG_ok (q15_0)⟩ (ob_cons ⟨d15_1.ok _, advG_ok (q15_1)⟩ (ob_cons pu15 ob_nil)))
def m15 (a0 : Flat) : Option E15 :=
 match m50 a0 with | none => none | some r4 => bif bif r4 then false else true then some (4) else match m51 a0.fVars with | none => none | some r5 => bif bif decide (r5 = 0) then false else true then some (r5) else match a15_0 (L15_0.mk (0) a0) with | none => none | some r6 => bif decide (r6.t4 < (↑r6.b0.fHatches.length : Int)) then if (0 : Int) ≤ r6.t4 ∧ r6.t4 < (↑r6.b0.fHatches.length : Int) then match m52 r6.b0.fHatches[r6.t4.toNat]!.fName with | none => none | some r7 => bif bif r7 then false else true then some (7) else match a15_1 (L15_1.mk r6.t4 (0) r6.b0 (Hatch.mk r6.b0.fHatches[r6.t4.toNat]!.fName r6.b0.fHatches[r6.t4.toNat]!.fLow r6.b0.fHatches[r6.t4.toNat]!.fHigh (GTerm.mk r6.b0.fHatches[r6.t4.toNat]!.fTerm.fOp r6.b0.fHatches[r6.t4.toNat]!.fTerm.fN r6.b0.fHatches[r6.t4.toNat]!.fTerm.fKids))) with | none => none | some r8 => bif decide (r8.t6 < r8.t4) then if (0 : Int) ≤ r8.t6 ∧ r8.t6 < (↑r8.b0.fHatches.length : Int) then bif r8.b0.fHatches[r8.t6.toNat]!.fName.toList == r8.b1.fName.toList then some (8) else none else none else bif bif m53 r8.b1.fLow r8.b1.fHigh then false else true then some (3) else match m54 r8.b0.fVars (GTerm.mk r8.b1.fTerm.fOp r8.b1.fTerm.fN r8.b1.fTerm.fKids) true with | none => none | some r9 => bif bif decide (r9 = 0) then false else true then some (r9) else none else none else match r55 r6.b0 r6.b0.fBody true with | none => none | some r10 => bif bif decide (r10 = 0) then false else true then some (r10) else match r56 r6.b0.fBody with | none => none | some r11 => match bif decide (4096 < r11.fst) then some (true) else bif decide (8 < r11.snd.fst) then some (true) else some (decide (67108864 < r11.snd.snd)) with | none => none | some r12 => bif r12 then some (4) else some (0)
theorem c15 (a0 : Flat) : callR Tryz.prog (F15) 300 (an15) 15 (A15.c (a0, ())) [] 0 d15.rd = m15 a0 := by kernel_rfl
theorem h15 : HL Tryz.prog 15 A15 d15 (fun g => m15 g.1) := (hl_of F15_ok fa15 (fun _ => by kernel_rfl) (fun _ => by kernel_rfl) fun g => c15 g.1)
def e15 : Orc → Orc := eL Tryz.prog 15 false A15 d15 (fun g => m15 g.1)
theorem e15_ok {F : Orc} (h : OrcG Tryz.prog F) : OrcG Tryz.prog (e15 F) := eL_ok (sc := scU) scU_ok h15 ⟨_, Tryz.func15, by kernel_rfl, by kernel_rfl⟩ (fun _ => by kernel_rfl) (fun _ => by kernel_rfl) h
theorem e15_pure {F : Orc} {f : Nat} (h : PureF F f) : PureF (e15 F) f := orL_pure h (fun _ => by kernel_rfl)
theorem baList (l : List UInt8) : (ByteArray.mk (Array.mk l)).toList = l := by
 simp
theorem emptyS (s : ByteArray) : (s.toList == (ByteArray.mk (Array.mk [])).toList) = decide (s.size = 0) := by
 obtain ⟨⟨l⟩⟩ := s
 rw [baList, baList]
 have hs : (ByteArray.mk (Array.mk l)).size = l.length := rfl
 rw [hs]
 cases l with
 | nil => rfl
 | cons a l => simp
theorem m163_eq (s : ByteArray) : m163 s = some (nameB s) := by
  unfold m163
  rw [emptyS]
  by_cases h0 : s.size = 0
  · simp [h0, nameB]
  by_cases h1 : 40 < (s.size : Int)
  · have h1' : ¬ s.size ≤ 40 := by omega
    simp [h1, h1', nameB]
  rw [decide_eq_false h0, decide_eq_false h1]
  obtain ⟨i, e1, hc⟩ := loopB (rnd := n163_0) (List.range s.size) (fun i => ⟨s, (s.size : Int), (i : Int)⟩) (fun i j => okc j (byteAt s j)) (fun i hi => by
    rw [List.length_range] at hi
    have hw := w1L hi (by omega)
    unfold n163_0 okc
    simp only [Int.toNat_natCast]
    grind) (by unfold n163_0; simp)
  have e1' : a163_0 ⟨s, (s.size : Int), 0⟩ = some ⟨s, (s.size : Int), (i : Int)⟩ := e1
  rw [e1']
  have h2 : nameB s = (List.range s.size).all fun i => okc i (byteAt s i) := by
    unfold nameB
    rw [decide_eq_true (by omega), decide_eq_true (by omega)]
    simp
  rw [h2]
  rcases hc with ⟨rfl, hc⟩ | ⟨hi, hc⟩
  · rw [all_of hc]
    simp
  · rw [not_all hi hc]
    unfold okc at hc
    simp only [Int.toNat_natCast]
    grind
theorem m52_eq (s : ByteArray) : m52 s = some (nameB s) := by
  unfold m52
  by_cases h0 : s.size < 1
  · have h0' : ¬ 1 ≤ s.size := by omega
    have h0'' : (s.size : Int) < 1 := by omega
    simp [h0'', h0', nameB]
  by_cases h1 : 40 < (s.size : Int)
  · have h1' : ¬ s.size ≤ 40 := by omega
    have h0'' : ¬ (s.size : Int) < 1 := by omega
    simp [h1, h1', nameB]
  rw [decide_eq_false (show ¬ (s.size : Int) < 1 by omega), decide_eq_false h1]
  obtain ⟨i, e1, hc⟩ := loopB (rnd := n52_0) (List.range s.size) (fun i => ⟨s, (i : Int)⟩) (fun i j => okc j (byteAt s j)) (fun i hi => by
    rw [List.length_range] at hi
    have hw := w1L hi (by omega)
    unfold n52_0 okc
    simp only [Int.toNat_natCast]
    grind) (by unfold n52_0; simp)
  have e1' : a52_0 ⟨s, 0⟩ = some ⟨s, (i : Int)⟩ := e1
  rw [e1']
  have h2 : nameB s = (List.range s.size).all fun i => okc i (byteAt s i) := by
    unfold nameB
    rw [decide_eq_true (by omega), decide_eq_true (by omega)]
    simp
  rw [h2]
  rcases hc with ⟨rfl, hc⟩ | ⟨hi, hc⟩
  · rw [all_of hc]
    simp
  · rw [not_all hi hc]
    unfold okc at hc
    simp only [Int.toNat_natCast]
    grind
theorem m165_eq (a b : Int) : m165 a b = boundB a b := by
 unfold m165 boundB
 simp
theorem m53_eq (a b : Int) : m53 a b = boundB a b := by
 unfold m53 boundB
 simp
theorem m164_eq (l : List GVar) (hl : l.length ≤ 1000000) (v : GVar) : m164 l v = some (l.any fun w => w.fName.toList == v.fName.toList) := by
  obtain ⟨i, e1, hc⟩ := loopB (rnd := n225_0) l (fun i => ⟨l, v.fName, v.fKind, v.fLow, v.fHigh, v.fInit, (l.length : Int), (i : Int)⟩) (fun _ w => !(w.fName.toList == v.fName.toList)) (fun i hi => by
    have hw := w1L hi hl
    unfold n225_0 m162
    grind) (by unfold n225_0; simp)
  have e1' : a225_0 ⟨l, v.fName, v.fKind, v.fLow, v.fHigh, v.fInit, (l.length : Int), 0⟩ = some ⟨l, v.fName, v.fKind, v.fLow, v.fHigh, v.fInit, (l.length : Int), (i : Int)⟩ := e1
  unfold m164 m225
  rw [e1']
  rcases hc with ⟨rfl, hc⟩ | ⟨hi, hc⟩
  · rw [not_any fun j hj => by have := hc j hj; simpa using this]
    simp
  · have hc' : (l[i]!.fName.toList == v.fName.toList) = true := by simpa using hc
    rw [is_any hi hc']
    unfold m162
    simp only [Int.toNat_natCast, hc']
    simp [hi]
theorem a51_1_eq (l : List GVar) (hl : l.length ≤ 1000000) (n : Nat) (hn : n ≤ l.length) (v : GVar) :
    ∃ i : Nat, a51_1 ⟨l, n, 0, v⟩ = some ⟨l, n, (i : Int), v⟩ ∧ ((i = n ∧ ((l.take n).any fun w => w.fName.toList == v.fName.toList) = false) ∨ (i < n ∧ (l[i]!.fName.toList == v.fName.toList) = true ∧ ((l.take n).any fun w => w.fName.toList == v.fName.toList) = true)) := by
  have hlen : (l.take n).length = n := by rw [List.length_take]; omega
  have hget : ∀ i, i < n → (l.take n)[i]! = l[i]! := fun i hi => by
    rw [getElem!_pos _ i (by omega), getElem!_pos _ i (by omega), List.getElem_take]
  obtain ⟨i, e1, hc⟩ := loopB (rnd := n51_1) (l.take n) (fun i => ⟨l, (n : Int), (i : Int), v⟩) (fun _ w => !(w.fName.toList == v.fName.toList)) (fun i hi => by
    have hw := w1L hi (by omega)
    unfold n51_1
    grind) (by rw [hlen]; unfold n51_1; simp)
  refine ⟨i, e1, ?_⟩
  rw [hlen] at hc
  rcases hc with ⟨rfl, hc⟩ | ⟨hi, hc⟩
  · exact .inl ⟨rfl, not_any fun j hj => by have := hc j (by omega); simpa using this⟩
  · have hc' : ((l.take n)[i]!.fName.toList == v.fName.toList) = true := by simpa using hc
    exact .inr ⟨hi, by rw [← hget i hi]; exact hc', is_any (by omega) hc'⟩
end Go.Proofs.YtghilkcphindjaaGreat
end
